/-Lemmas.-/
import Derived.Test.YtkhlddbmhehbbaaGreatDoorU19
import Derived.Shelf.SlSortCmp.WholeK
import Derived.Shelf.SlSortCmp.NoneTotal
import Derived.Ground.SlsfProg
import Derived.Test.YtkhlddbmhehbbaaGreatDoorProg
set_option linter.all false
set_option maxRecDepth 100000
set_option maxHeartbeats 8000000
namespace Go.Proofs.YtkhlddbmhehbbaaGreatDoor
open Go Go.Dl Go.As Go.Proofs
variable {mx:Int}
attribute[local irreducible] Ah Ai MC W2 EM ev evD step Ad
section
def JW(c:Cat)(x:Ers)(ids:List Fid)(e:Ent):List Fid:=
 if e.kind≠1\/e.fact.kind=3\/e.fact.key≠x.key then ids
 else match AU c.tables e.fact.table with
  |none=>ids
  |some t=>if t.entity=x.entity then EH ids (Ay e.fact)else ids
def D9(l:List Ent)(c:Cat)(x:Ers)(ids:List Fid):List Fid:=l.foldl (JW c x) ids
theorem yi(c:Cat)(x:Ers)(ids:List Fid)(e:Ent):(JW c x ids e).length<=ids.length+1:=by
 have:=Va ids (Ay e.fact);unfold JW;repeat' split
 all_goals omega
theorem Vc(c:Cat)(x:Ers):∀(l:List Ent) (ids:List Fid),(D9 l c x ids).length<=ids.length+l.length
 |[],ids=>by simp[D9]
 |e::l,ids=>by have h1:=yi c x ids e;have h2:=Vc c x l (JW c x ids e);grind[D9]
theorem yj(l:List Ent)(c:Cat)(x:Ers)(ids:List Fid)(hl:l.length<=1000000)(hi:ids.length<=1072000000)(hc:c.tables.length<=1073741824):Is mx 87 [.sl (l.map Ac),.agg (At c),.agg (BL x),.sl (ids.map Ao)] (.sl ((D9 l c x ids).map Ao)):=by
 refine MX F87 ?_
 (repeat' first|simp(disch:=omega)only[go_sem,simprocAttr]|fail)
 refine BG [0,5,6] (by simp only[V0,MQ,reduceIte,Nat.reduceEqDiff];rfl) (fun i:Nat=>[(3,.i (.sl ((D9 (l.take i) c x ids).map Ao))),(9,.i (iI i))]) (fun _=>[])
  (fun i=>i<=l.length) (fun i=>l.length-i) 0 (by simp) (by simp[V0,I9,L9,D9]) ?_
 intro i hi0;by_cases ja:i<l.length
 ·have jd:=Vc c x (l.take i) ids;have jh:D9 (l.take (i+1)) c x ids=JW c x (D9 (l.take i) c x ids) (l.getD i default):=by grind[Cg,D9]
  have jn:(l.take i).length<=l.length:=by simp;omega
  have b1:=U4 (mx:=mx) (l.getD i default).fact;have t1:=PP (mx:=mx) c (l.getD i default).fact.table hc;generalize D9 (l.take i) c x ids=acc at jd jh;have p1:=bx (mx:=mx) acc (Ay (l.getD i default).fact) (by omega);have hg:(decide ((l.getD i default).kind≠1)||decide ((l.getD i default).fact.kind=3)||decide ((l.getD i default).fact.key≠x.key))=decide ((l.getD i default).kind≠1\/(l.getD i default).fact.kind=3\/(l.getD i default).fact.key≠x.key):=by grind
  unfold JW at jh;by_cases hq:(l.getD i default).kind≠1\/(l.getD i default).fact.kind=3\/(l.getD i default).fact.key≠x.key
  ·rw[decide_eq_true hq]at hg;rw[if_pos hq]at jh;refine Dp (cj (Cq ja) hg) ?_;exact⟨i+1,by omega,by omega,by rw[jh],rfl⟩
  ·rw[decide_eq_false hq]at hg;rw[if_neg hq]at jh;cases ht:AU c.tables (l.getD i default).fact.table with
   |none=>rw[ht]at t1 jh;simp only[Hm,Option.getD_none,Option.isSome_none]at t1 jh;refine Dp (cj t1 (cj (Cq ja) hg)) ?_;exact⟨i+1,by omega,by omega,by rw[jh],rfl⟩
   |some t=>
    rw[ht]at t1 jh;simp only[Hm,Option.getD_some,Option.isSome_some]at t1 jh;by_cases he:t.entity=x.entity
    ·rw[if_pos he]at jh;refine Dp (cj t1 (cj b1 (cj p1 (cj (Cq ja) (cj hg he))))) ?_;exact⟨i+1,by omega,by omega,by rw[jh],rfl⟩
    ·rw[if_neg he]at jh;refine Dp (cj t1 (cj (Cq ja) (cj hg he))) ?_;exact⟨i+1,by omega,by omega,by rw[jh],rfl⟩
 ·have e:l.take i=l:=List.take_of_length_le (by omega);rw[e];exact Hw (Ih ja) trivial
def Bm(l:List Ent):Nat->List Fid
 |0=>[]
 |i+1=>if(l.getD i default).kind≠2 then Bm l i else if(l.getD i default).erasure.kind=2 then EH (Bm l i) (l.getD i default).erasure.id
  else D9 (l.take i) (atR (l.take i) 1099511627776) (l.getD i default).erasure (Bm l i)
def AF(l:List Ent):List Fid:=Bm l l.length
theorem Vd(l:List Ent):∀i,i<=l.length->(Bm l i).length<=i*(l.length+1)
 |0,_=>by simp[Bm]
 |i+1,h=>by
  have h0:=Vd l i (by omega);have h1:=Va (Bm l i) (l.getD i default).erasure.id;have h2:=Vc (atR (l.take i) 1099511627776) (l.getD i default).erasure (l.take i) (Bm l i);rw[List.length_take]at h2;rw[Nat.succ_mul];simp only[Bm];repeat' split
  all_goals omega
abbrev idD(b:Bool)(l:List Fid):D:=if b=true then .i (.sl (l.map Ao))else .ref (.sl 3 2 0 0)
abbrev idB(b:Bool):List (Nat×Blk):=if b=true then[]else[(3,.rows 26 2 [])]
theorem bz(l:List Ent)(hl:Af Am l<=1073740)(h30:l.length<=30000):Is mx 42 [.sl (l.map Ac)] (.sl ((AF l).map Ao)):=by
 refine MX F42 ?_
 (repeat' first|simp(disch:=omega)only[go_sem,simprocAttr]|fail)
 refine BG [0] (by simp only[V0,MQ,reduceIte,Nat.reduceEqDiff];rfl) (fun g:Bool×Nat=>[(3,idD g.1 (Bm l g.2)),(4,.i (iI g.2))]) (fun g=>idB g.1)
  (fun g=>g.2<=l.length/\(g.1=false->Bm l g.2=[])) (fun g=>l.length-g.2) (false,0) ⟨by simp,fun _=>rfl⟩ (by simp[idD,idB,V0,I9,L9,Ref.nm]) ?_
 rintro⟨b,i⟩ ⟨hi,hb⟩;simp only at hi hb;by_cases ja:i<l.length
 ·have jd:(Bm l i).length<=1000000000:=by have h0:=Vd l i hi;have h1:i*(l.length+1)<=30000*30001:=Nat.mul_le_mul (by omega) (by omega);omega
  have jh:Bm l (i+1)=if(l.getD i default).kind≠2 then Bm l i else if(l.getD i default).erasure.kind=2 then EH (Bm l i) (l.getD i default).erasure.id
   else D9 (l.take i) (atR (l.take i) 1099511627776) (l.getD i default).erasure (Bm l i):=rfl
  generalize Bm l i=acc at jd jh hb;have c1:((i:Int)<=(l.length:Int))=True:=eq_true (by omega);have c2:(i<=l.length)=True:=eq_true (by omega);by_cases h2:(l.getD i default).kind=2
  ·rw[if_neg (by omega)]at jh;by_cases h3:(l.getD i default).erasure.kind=2
   ·rw[if_pos h3]at jh;have p1:=bx (mx:=mx) acc (l.getD i default).erasure.id (by omega);cases b
    ·obtain rfl:=hb rfl;simp only[List.map_nil]at p1;simp only[idD,idB]
     (repeat' first|simp(disch:=omega)only[go_sem,simprocAttr,Cq ja,eq_true h2,eq_true h3,ne_eq,not_true_eq_false,decide_false,Bool.false_eq_true]|refine Sx.s ?_ ?_<;>try(intro h;have h':=h;try simp only[HB]at h';try rewrite [h];try simp only[h])|refine Ab (p1) ?_|refine Ae ?_|fail)
     exact⟨(true,i+1),⟨ja,by simp⟩,by show l.length-(i+1)<_;omega,by rw[jh];exact⟨rfl,rfl⟩,trivial,rfl,rfl⟩
    ·simp only[idD,idB]
     (repeat' first|simp(disch:=omega)only[go_sem,simprocAttr,Cq ja,eq_true h2,eq_true h3,ne_eq,not_true_eq_false,decide_false]|refine Sx.s ?_ ?_<;>try(intro h;have h':=h;try simp only[HB]at h';try rewrite [h];try simp only[h])|refine Ab (p1) ?_|refine Ae ?_|fail)
     exact⟨(true,i+1),⟨ja,by simp⟩,by show l.length-(i+1)<_;omega,by rw[jh];exact⟨rfl,rfl⟩,trivial,rfl,rfl⟩
   ·rw[if_neg h3]at jh;have hbt:=Hp Am l i;have qq:(l.take i).length<=l.length:=by simp;omega
    have hlb:=KW l;have rowsE:=eq_true (Bi l JT JU).1;have a0:=bu (mx:=mx) (l.take i) 1099511627776 (by omega);have w5:=K5 (l.take i) 1099511627776 (l.take i).length (Nat.le_refl _);rw[List.take_length]at w5;have hct:(atR (l.take i) 1099511627776).tables.length<=1073741824:=by grind[Ce,atR,H2,AP,Af,Am]
    have p1:=yj (mx:=mx) (l.take i) (atR (l.take i) 1099511627776) (l.getD i default).erasure acc (by omega) (by omega) hct;generalize atR (l.take i) 1099511627776=cc at a0 p1 jh;rw[List.map_take]at a0 p1;cases b
    ·obtain rfl:=hb rfl;simp only[List.map_nil]at p1;simp only[idD,idB]
     (repeat' first|simp(disch:=omega)only[go_sem,simprocAttr,Cq ja,eq_true h2,eq_false h3,c1,ne_eq,not_true_eq_false,decide_false,Bool.false_eq_true,List.drop_zero,rowsE]|refine Ab (a0) ?_|refine Ab (p1) ?_|refine Ae ?_|refine AG ?_|fail)
     exact⟨(true,i+1),⟨ja,by simp⟩,by show l.length-(i+1)<_;omega,by rw[jh];exact⟨rfl,rfl⟩,trivial,rfl,rfl⟩
    ·simp only[idD,idB]
     (repeat' first|simp(disch:=omega)only[go_sem,simprocAttr,Cq ja,eq_true h2,eq_false h3,c1,ne_eq,not_true_eq_false,decide_false,List.drop_zero,rowsE]|refine Ab (a0) ?_|refine Ab (p1) ?_|refine Ae ?_|refine AG ?_|fail)
     exact⟨(true,i+1),⟨ja,by simp⟩,by show l.length-(i+1)<_;omega,by rw[jh];exact⟨rfl,rfl⟩,trivial,rfl,rfl⟩
  ·rw[if_pos h2]at jh;cases b
   ·obtain rfl:=hb rfl;simp only[idD,idB]
    (repeat' first|simp(disch:=omega)only[go_sem,simprocAttr,Cq ja,eq_false h2,ne_eq,not_false_eq_true,decide_true,Bool.false_eq_true]|refine Ae ?_|fail)
    exact⟨(false,i+1),⟨ja,fun _=>jh⟩,by show l.length-(i+1)<_;omega,⟨rfl,rfl⟩,⟨rfl,trivial⟩,rfl,rfl⟩
   ·simp only[idD,idB]
    (repeat' first|simp(disch:=omega)only[go_sem,simprocAttr,Cq ja,eq_false h2,ne_eq,not_false_eq_true,decide_true]|refine Ae ?_|fail)
    exact⟨(true,i+1),⟨ja,by simp⟩,by show l.length-(i+1)<_;omega,by rw[jh];exact⟨rfl,rfl⟩,trivial,rfl,rfl⟩
 ·have e:i=l.length:=by omega
  rw[AF,<-e];cases b
  ·have h0:=hb rfl;simp only[idD,idB,h0];exact By (Ih ja) trivial
  ·simp only[idD,idB];exact Hw (Ih ja) trivial
end
section
abbrev CT:Fct:=⟨RW,0,0,[],[],0,[]⟩
abbrev CU:Chg:=⟨0,BB,CL,[]⟩
abbrev PX:Ent:=⟨0,0,0,CT,JS,CU⟩
def DI(e:Ent):Ent:=⟨e.no,e.tick,2,CT,⟨2,[],[],Ay e.fact⟩,CU⟩
def BE(gone:List Fid)(e:Ent):Ent:=if e.kind=1/\Be gone (Ay e.fact)=true then DI e else e
def BZ(l:List Ent):List Ent:=l.map (BE (AF l))
theorem Oe{l:List Ent}(h30:l.length<=30000):(AF l).length<=1000000000:=by have h0:=Vd l l.length (Nat.le_refl _);have h1:l.length*(l.length+1)<=30000*30001:=Nat.mul_le_mul (by omega) (by omega);grind[AF]
end
section
def JX(id:Fid)(tick:Int)(e:Ent):Bool:= !(decide (e.kind≠1)||decide (tick<e.tick)||!decide (Ay e.fact=id))
def ge(id:Fid)(tick:Int)(a:Ent×Bool)(e:Ent):Ent×Bool:=
 if JX id tick e=true then(if a.1.fact.id.seq<e.fact.id.seq then e else a.1,a.2||decide (e.fact.kind=1))else a
def Ea(l:List Ent)(id:Fid)(tick:Int):Ent×Bool:=l.foldl (ge id tick) (PX,false)
def JY(e:Ent)(id:Fid):Rw:=⟨id,e.fact.table,e.fact.key,e.fact.event,e.fact.fields,e.no,e.tick⟩
def Fc(l:List Ent)(gone:List Fid)(id:Fid)(tick:Int):Option Rw:=
 if(!(Ea l id tick).2||decide ((Ea l id tick).1.fact.kind=3)||Be gone id)=true then none else some (JY (Ea l id tick).1 id)
end
section
def GS(l:List Ent)(id:Fid)(tick:Int):Option Rw:=Fc l (AF l) id tick
def K6(l:List Rw)(r:Rw):Nat->Nat
 |0=>0
 |k+1=>if 0<FC (l.getD k default) r then K6 l r k else k+1
def putRow(l:List Rw)(r:Rw):List Rw:=Bo l (K6 l r l.length) r
theorem bA(l:List Rw)(r:Rw):∀k,K6 l r k<=k
 |0=>Nat.le_refl _
 |k+1=>by have:=bA l r k;grind[K6]
theorem yk(l:List Rw)(r:Rw):(putRow l r).length=l.length+1:=by grind[putRow,Bo]
theorem bB(x:Rw):(SN x).length=8:=rfl
theorem bC(x:Rw):(SN x).all I.one=true:=rfl
end
section
def K7(acc:List Fid)(e:Ent):List Fid:=if e.kind=1 then EH acc (Ay e.fact)else acc
def Of(l:List Ent):List Fid:=l.foldl K7 []
theorem bD:∀(l:List Ent) (acc:List Fid),(l.foldl K7 acc).length<=acc.length+l.length
 |[],acc=>by simp
 |e::l,acc=>by have h1:=bD l (K7 acc e);grind[Va,Ay,K7]
def Ia(l:List Ent)(gone:List Fid)(tick:Int)(acc:List Rw)(id:Fid):List Rw:=match Fc l gone id tick with
 |none=>acc
 |some r=>putRow acc r
def DW(l:List Ent)(tick:Int):List Rw:=(Of l).foldl (Ia l (AF l) tick) []
theorem yl(l:List Ent)(gone:List Fid)(tick:Int)(acc:List Rw)(id:Fid):(Ia l gone tick acc id).length<=acc.length+1:=by grind[Ia,yk]
theorem bE(l:List Ent)(gone:List Fid)(tick:Int):∀(ids:List Fid) (acc:List Rw),(ids.foldl (Ia l gone tick) acc).length<=acc.length+ids.length
 |[],acc=>by simp
 |e::r,acc=>by have h1:=bE l gone tick r (Ia l gone tick acc e);grind[yl]
end
section
theorem ym(l:List Ent)(tick:Int):(DW l tick).length<=l.length:=by grind[bE,AF,Of,bD,DW]
end
section
structure Pol where
 perKey:Int
 perSource:Int
 late:Int
 lead:Int
deriving DecidableEq,Inhabited
def Bf(p:Pol):List I:=[iI p.perKey,iI p.perSource,iI p.late,iI p.lead]
def Da(n:Int):Bool:=decide (0<=n)&&decide (n<=1099511627776)
def CM(p:Pol):Int:=if(Da p.perKey&&Da p.perSource&&Da p.late&&Da p.lead)=true then 0 else 1
abbrev A2(l:List Ent):Cat:=atR l 1099511627776
def A6(l:List Ent):Ent:=l.getD (l.length-1) default
def BT(l:List Ent)(tick:Int):Bool:=decide (tick<if l.length=0 then 0 else(A6 l).tick)||decide (1099511627776<tick)
def MU(l:List Ent):Int:=if l.length=0 then 1 else(A6 l).no+1
def Ba(e:Ent)(n:Int):Ent:=⟨n,e.tick,e.kind,e.fact,e.erasure,e.change⟩
def Db(l:List Ent)(e:Ent):List Ent×Int:=if 4096<=l.length\/1099511627776<MU l then([],2)else([Ba e (MU l)],0)
def CB(f:Fct)(e:Ent):Bool:=decide (e.kind=1)&&decide (e.fact.id=f.id)
def Fd(l:List Ent)(f:Fct):Option Ent:=l.find? (CB f)
def DX(l:List Ent)(f:Fct):Int:=match Fd l f with
 |none=>0
 |some e=>if Dn e.fact f=true then 1 else 2
def GU(p:Pol)(tick:Int)(f:Fct):Int:=
 if f.kind=3 then 0 else if p.late≠0/\f.event<tick-p.late then 331 else if p.lead≠0/\tick+p.lead<f.event then 332 else 0
def IX(c:Cat)(f x:Fct):Bool:=(AU c.tables f.table).isSome&&(AU c.tables x.table).isSome&&decide (f.kind≠3)&&decide (x.kind≠3)&&decide (x.key=f.key)&&decide (((AU c.tables x.table).getD BB).entity=((AU c.tables f.table).getD BB).entity)
def Dx(c:Cat)(gone:List Fid)(f:Fct)(a:Int×Int)(e:Ent):Int×Int:=
 if e.kind≠1\/Be gone (Ay e.fact)=true then a
 else(if IX c f e.fact=true then a.1+1 else a.1,if e.fact.id.source=f.id.source then a.2+1 else a.2)
def A7(l:List Ent)(f:Fct):Int×Int:=l.foldl (Dx (A2 l) (AF l) f) (0,0)
def Ib(p:Pol)(f:Fct)(n:Int×Int):Bool:=decide (p.perKey≠0)&&decide (f.kind≠3)&&decide (p.perKey<=n.1)||decide (p.perSource≠0)&&decide (p.perSource<=n.2)
def BN(tick:Int)(f:Fct):Ent:=⟨0,tick,1,f,JS,CU⟩
def EI(tick:Int)(x:Ers):Ent:=⟨0,tick,2,CT,x,CU⟩
def K8(tick:Int)(x:Chg):Ent:=⟨0,tick,3,CT,JS,x⟩
def Bg(l:List Ent)(p:Pol)(tick:Int)(f:Fct):List Ent×Int:=
 if CM p≠0\/BT l tick=true then([],1)
 else if C2 (A2 l) f≠0 then([],C2 (A2 l) f)
 else if Be (AF l) (Ay f)=true then([],333)
 else if DX l f=1 then([],0)
 else if DX l f=2 then([],151)
 else if GU p tick f≠0 then([],GU p tick f)
 else if Ib p f (A7 l f)=true then([],330)
 else Db l (BN tick f)
def CC(l:List Ent)(tick:Int)(x:Ers):List Ent×Int:=if(BT l tick||!D8 x)=true then([],1)else Db l (EI tick x)
def IY(l:List Ent)(tick:Int)(x:Chg):List Ent×Int:=
 if BT l tick=true then([],1)else if(Cn (A2 l) x).2≠0 then([],(Cn (A2 l) x).2)else Db l (K8 tick x)
theorem Ve(c:Cat)(gone:List Fid)(f:Fct):∀(l:List Ent) (a:Int×Int),a.1<=(l.foldl (Dx c gone f) a).1/\(l.foldl (Dx c gone f) a).1<=a.1+l.length/\a.2<=(l.foldl (Dx c gone f) a).2/\(l.foldl (Dx c gone f) a).2<=a.2+l.length
 |[],a=>by simp
 |e::l,a=>by
  have h:=Ve c gone f l (Dx c gone f a e);have h1:a.1<=(Dx c gone f a e).1/\(Dx c gone f a e).1<=a.1+1/\a.2<=(Dx c gone f a e).2/\(Dx c gone f a e).2<=a.2+1:=by
   unfold Dx;split
   ·omega
   ·refine⟨?_,?_,?_,?_⟩<;>simp only<;>split<;>omega
  simp only[List.foldl_cons,List.length_cons];omega
theorem yn(l:List Ent)(f:Fct):0<=(A7 l f).1/\(A7 l f).1<=l.length/\0<=(A7 l f).2/\(A7 l f).2<=l.length:=by have:=Ve (A2 l) (AF l) f l (0,0);unfold A7;simp at this;omega
end
section
abbrev MT:=AT×AT
abbrev IZ(w:MT):I:=.agg [.str w.1,.str w.2]
theorem yo:Md IZ:=fun a b=>by grind[Bc,cellsI,DL]
theorem RZ:Md (fun id:Fid=>I.agg (Ao id)):=fun a b=>by obtain⟨a1,a2⟩:=a;obtain⟨b1,b2⟩:=b;grind[Bc,cellsI,DL,Ao]
def Wy(d kk:Nat):Nat->List (MT×List (List I))->List (I×Nat×D)
 |_,[]=>[]
 |k,p::r=>(IZ p.1,k,.ref (.sl (Au d k) kk 0 p.2.length))::Wy d kk (k+1) r
def B0(d e kk:Nat):Nat->List (MT×List (List I))->List (Nat×Blk)
 |_,[]=>[]
 |k,p::r=>(Au d k,.rows e kk p.2)::B0 d e kk (k+1) r
def PY(r:Option Nat)(nm d:Nat)(ls:List LK)(clk:Nat)(es:List (I×Nat×D))(q zero:I)(e k:Nat)(st:St)(K:St->Prop):Prop:=match r with
 |some j=>Jo (es[j]?) j nm d ls clk es q st K
 |none=>Jn (Aa st.sto (Au d clk)) nm d ls clk es q zero e k st K
@[congr] theorem aL8{r r':Option Nat}{nm d:Nat}{ls:List LK}{clk:Nat}{es:List (I×Nat×D)}{q z:I}{e k:Nat}{st:St}{K:St->Prop}(h:r=r'):PY r nm d ls clk es q z e k st K=PY r' nm d ls clk es q z e k st K:=by rw[h]
@[congr] theorem aL9{r r':Option (I×Nat×D)}{j nm d:Nat}{ls:List LK}{clk:Nat}{es:List (I×Nat×D)}{q:I}{st:St}{K:St->Prop}(h:r=r'):Jo r j nm d ls clk es q st K=Jo r' j nm d ls clk es q st K:=by rw[h]
@[congr] theorem aLa{r r':Option Blk}{nm d:Nat}{ls:List LK}{clk:Nat}{es:List (I×Nat×D)}{q z:I}{e k:Nat}{st:St}{K:St->Prop}(h:r=r'):Jn r nm d ls clk es q z e k st K=Jn r' nm d ls clk es q z e k st K:=by rw[h]
def K9:List (MT×List (List I))->MT->List I->List (MT×List (List I))
 |[],w,x=>[(w,[x])]
 |p::r,w,x=>if p.1=w then(w,p.2++[x])::r else p::K9 r w x
@[go_sem] theorem aLb(d:Nat)(ls:List LK)(st:St)(K:St->Prop):LJ none d ls st K=K ((st.bind d (.gmap ls 0 [])).put d (.ref (.mp d))):=rfl
@[go_sem] theorem aLc(nm:Nat)(q z:I)(ok:Bool)(ls:List LK)(d:Nat)(st:St)(K:St->Prop):Jk (.ref (.mp nm)) (.i q) z ok ls d st K=(AB ls q=true/\Jj (Aa st.sto nm) ls q z ok d st K):=rfl
@[go_sem] theorem aLd(ls':List LK)(clk:Nat)(es:List (I×Nat×D))(ls:List LK)(q z:I)(ok:Bool)(d:Nat)(st:St)(K:St->Prop):Jj (some (.gmap ls' clk es)) ls q z ok d st K=(ls'=ls/\ES ok (FM es q) z d st K):=rfl
@[go_sem] theorem aLe(v:D)(z:I)(d:Nat)(st:St)(K:St->Prop):ES false (some v) z d st K=K (st.put d v):=rfl
@[go_sem] theorem aLf(z:I)(d:Nat)(st:St)(K:St->Prop):ES false none z d st K=K (st.put d (.i z)):=rfl
@[go_sem] theorem aLg(nm:Nat)(q z:I)(ls:List LK)(e k d:Nat)(st:St)(K:St->Prop):Kl (.ref (.mp nm)) (.i q) z ls e k d st K=(AB ls q=true/\Kk (Aa st.sto nm) nm d ls q z e k st K):=rfl
@[go_sem] theorem aLh(ls':List LK)(clk:Nat)(es:List (I×Nat×D))(nm d:Nat)(ls:List LK)(q z:I)(e k:Nat)(st:St)(K:St->Prop):Kk (some (.gmap ls' clk es)) nm d ls q z e k st K=(ls'=ls/\PY (Es es q) nm d ls clk es q z e k st K):=rfl
@[go_sem] theorem aLi(j nm d:Nat)(ls:List LK)(clk:Nat)(es:List (I×Nat×D))(q z:I)(e k:Nat)(st:St)(K:St->Prop):PY (some j) nm d ls clk es q z e k st K=Jo (es[j]?) j nm d ls clk es q st K:=rfl
@[go_sem] theorem aLj(nm d:Nat)(ls:List LK)(clk:Nat)(es:List (I×Nat×D))(q:I)(e k:Nat)(st:St)(K:St->Prop):PY none nm d ls clk es q (.sl []) e k st K=Jn (Aa st.sto (Au d clk)) nm d ls clk es q (.sl []) e k st K:=rfl
@[go_sem] theorem aLk(nm d:Nat)(ls:List LK)(clk:Nat)(es:List (I×Nat×D))(q:I)(e k:Nat)(st:St)(K:St->Prop):Jn none nm d ls clk es q (.sl []) e k st K=K (((st.bind (Au d clk) (.rows e k [])).setB nm (.gmap ls (clk+1) (es++[(q,clk,.ref (.sl (Au d clk) k 0 0))]))).put d (.tup [.ref (.sl (Au d clk) k 0 0),.i (.int .i64 clk)])):=rfl
@[go_sem] theorem aLl(a:I)(c:Nat)(r:Ref)(j nm d:Nat)(ls:List LK)(clk:Nat)(es:List (I×Nat×D))(q:I)(st:St)(K:St->Prop):Jo (some (a,c,.ref r)) j nm d ls clk es q st K=K ((st.setB nm (.gmap ls clk (es.modify j fun e=>(q,e.2)))).put d (.tup [.ref r,.i (.int .i64 c)])):=rfl
@[go_sem] theorem aLm(nm:Nat)(q:IntKind)(s:Int)(v:D)(st:St)(K:St->Prop):LM (.ref (.mp nm)) (.i (.int q s)) v st K=Km (Aa st.sto nm) nm s v st K:=rfl
@[go_sem] theorem aLn(ls:List LK)(clk:Nat)(es:List (I×Nat×D))(nm:Nat)(s:Int)(v:D)(st:St)(K:St->Prop):Km (some (.gmap ls clk es)) nm s v st K=((es.any fun e=>(e.2.1:Int)==s)=true/\K (st.setB nm (.gmap ls clk (es.map fun e=>if((e.2.1:Int)==s)=true then(e.1,e.2.1,v)else e)))):=rfl
@[go_sem] theorem aLo(cs:List Cp)(i d:Nat)(st:St)(K:St->Prop):Jf (.tup cs) i d st K=(i<cs.length/\K (st.put d (cs.getD i .any).toD)):=rfl
theorem Og{d a b:Nat}:Au d a=Au d b↔a=b:=by simp[Au]
@[go_sem] theorem aLp{d c k:Nat}(h:k<7000):(Au d c=k)=False:=by grind[Au]
@[go_sem] theorem aLq {d c k:Nat}(h:k<7000):(k=Au d c)=False:=by grind[Au]
@[go_sem] theorem aLr{d c:Nat}:(Nat.blt (Au d c) 5000||Nat.ble 5500 (Au d c))=true:=by unfold Au;rw[Bool.or_eq_true,Nat.ble_eq];right;omega
theorem bF(d kk:Nat):∀(A:List (MT×List (List I))) (k:Nat),(Wy d kk k A).length=A.length
 |[],_=>rfl
 |p::r,k=>by simp[Wy,bF d kk r]
theorem PZ(d kk:Nat):∀(A:List (MT×List (List I))) (k j:Nat),(Wy d kk k A)[j]? =(A[j]?).map fun p=>(IZ p.1,k+j,.ref (.sl (Au d (k+j)) kk 0 p.2.length))
 |[],_,_=>rfl
 |p::r,k,0=>rfl
 |p::r,k,j+1=>by simp only[Wy,List.getElem?_cons_succ,PZ d kk r (k+1) j];grind
theorem Gj(d e kk:Nat):∀(A:List (MT×List (List I))) (k j:Nat),Aa (B0 d e kk k A) (Au d (k+j))=(A[j]?).map fun p=>.rows e kk p.2
 |[],_,_=>rfl
 |p::r,k,0=>by simp[B0,Aa]
 |p::r,k,j+1=>by
  have h:¬Au d k=Au d (k+(j+1)):=by simp[Og]
  simp only[B0,Aa,if_neg h,List.getElem?_cons_succ];rw[show k+(j+1)=k+1+j from by omega,Gj d e kk r (k+1) j]
theorem bG(d e kk:Nat){m:Nat}(hm:m<7000):∀(A:List (MT×List (List I))) (k:Nat),Aa (B0 d e kk k A) m=none
 |[],_=>rfl
 |p::r,k=>by
  have h:¬Au d k=m:=by grind[Au]
  simp only[B0,Aa,if_neg h,bG d e kk hm r]
@[go_sem] theorem aLs(d e kk:Nat){m k:Nat}(A:List (MT×List (List I)))(hm:m<7000):Aa (B0 d e kk k A) m=none:=bG d e kk hm A k
@[go_sem] theorem yp(d e kk:Nat){m:Nat}(hm:m<7000):∀(A:List (MT×List (List I))) (k:Nat),Cs (B0 d e kk k A) m=B0 d e kk k A
 |[],_=>rfl
 |p::r,k=>by
  have h:¬Au d k=m:=by grind[Au]
  simp only[B0,Cs,if_neg h,yp d e kk hm r]
@[go_sem] theorem yq(ls:List LK)(c:Nat):(Blk.gmap ls c []).nms=[]:=rfl
@[go_sem] theorem yr(d e kk:Nat){m:Nat}(b:Blk)(hm:m<7000):∀(A:List (MT×List (List I))) (k:Nat),Ch (B0 d e kk k A) m b=B0 d e kk k A
 |[],_=>rfl
 |p::r,k=>by
  have h:¬Au d k=m:=by grind[Au]
  simp only[B0,Ch,if_neg h,yr d e kk b hm r]
theorem bH(d e kk nm:Nat)(b:Blk):∀(A:List (MT×List (List I))) (k:Nat),SL nm b (B0 d e kk k A)=B0 d e kk k A
 |[],_=>rfl
 |p::r,k=>by simp only[B0,SL,gj,bH d e kk nm b r]
theorem Vf(d kk:Nat)(w:MT):∀(A:List (MT×List (List I))) (k:Nat),Es (Wy d kk k A) (IZ w)=A.findIdx? fun p=>decide (p.1=w)
 |[],_=>rfl
 |p::r,k=>by have ih:=Vf d kk w r (k+1);simp only[Es]at ih⊢;rw[Wy,List.findIdx?_cons,List.findIdx?_cons,yo p.1 w,ih]
theorem yt{A:List (MT×List (List I))}{w:MT}{x:List I}(h:A.findIdx? (fun p=>decide (p.1=w))=none):K9 A w x=A++[(w,[x])]:=by
 induction A with
 |nil=>rfl
 |cons p r ih=>grind[K9]
theorem yu{A:List (MT×List (List I))}{w:MT}{x:List I}{j:Nat}(h:A.findIdx? (fun p=>decide (p.1=w))=some j):∃(hj:j<A.length),A[j].1=w/\K9 A w x=A.set j (w,A[j].2++[x]):=by
 induction A generalizing j with
 |nil=>simp at h
 |cons p r ih=>
  rw[List.findIdx?_cons]at h;by_cases e:p.1=w
  ·simp[e]at h;subst h;exact⟨by simp,e,by simp[K9,e]⟩
  ·simp only[e,decide_false,Bool.false_eq_true,if_false,Option.map_eq_some_iff]at h;obtain⟨q,hq,rfl⟩:=h;obtain⟨h1,h2,h3⟩:=ih hq;exact⟨by simpa using h1,by simpa using h2,by simp[K9,if_neg e,h3]⟩
theorem bI(d kk:Nat)(q:MT×List (List I)):∀(A:List (MT×List (List I))) (k:Nat),Wy d kk k (A++[q])=Wy d kk k A++[(IZ q.1,k+A.length,.ref (.sl (Au d (k+A.length)) kk 0 q.2.length))]
 |[],k=>rfl
 |p::r,k=>by simp only[List.cons_append,Wy,bI d kk q r (k+1),List.length_cons];rw[show k+1+r.length=k+(r.length+1)from by omega]
theorem bJ(d kk:Nat):∀(A:List (MT×List (List I))) (k:Nat),(Wy d kk k A).flatMap (fun e=>e.2.2.nms)=(List.range A.length).map fun j=>Au d (k+j)
 |[],k=>rfl
 |p::r,k=>by have ih:=bJ d kk r (k+1);simp only[Wy,List.flatMap_cons,List.length_cons,List.range_succ_eq_map,List.map_cons,List.map_map,Nat.add_zero]at ih⊢;rw[ih];refine congrArg (Au d k::·) (List.map_congr_left fun j _=>?_);grind
theorem Vg{nm m k lo hi:Nat}{b:Blk}(h:nm≠m):Qq nm b (.ref (.sl m k lo hi))=.ref (.sl m k lo hi):=by simp[Qq,WD,Ref.nm,Ne.symm h,Cp.toD]
theorem yv(d kk:Nat){A:List (MT×List (List I))}{j:Nat}(hj:j<A.length)(w:MT)(x:List I)(b:Blk):
  (((Wy d kk 0 A).modify j (fun e=>(IZ w,e.2))).map (fun e=>(e.1,e.2.1,Qq (Au d j) b e.2.2))).map (fun e=>if((e.2.1:Int)==(j:Int))=true then(e.1,e.2.1,D.ref (.sl (Au d j) kk 0 (A[j].2.length+1)))else e)=Wy d kk 0 (A.set j (w,A[j].2++[x])):=by
 apply List.ext_getElem?;intro i;simp only[List.getElem?_map,List.getElem?_modify,PZ,List.getElem?_set,Nat.zero_add];by_cases h:j=i
 ·subst h;simp[hj]
 ·have h2:¬((i:Int)=(j:Int)):=by omega
  have h3:Au d j≠Au d i:=by grind[Og]
  simp only[if_neg h];cases A[i]? with
  |none=>rfl
  |some p=>simp[h2,Vg h3]
theorem yw(d kk:Nat)(A:List (MT×List (List I)))(w:MT)(x:List I)(b:Blk):
  ((Wy d kk 0 A++[(IZ w,A.length,D.ref (.sl (Au d A.length) kk 0 0))]).map (fun e=>(e.1,e.2.1,Qq (Au d A.length) b e.2.2))).map (fun e=>if((e.2.1:Int)==(A.length:Int))=true then(e.1,e.2.1,D.ref (.sl (Au d A.length) kk 0 1))else e)=Wy d kk 0 (A++[(w,[x])]):=by
 rw[bI];simp only[List.map_append,List.map_map,List.map_cons,List.map_nil,Nat.zero_add];congr 1
 ·conv=>rhs;rw[<-List.map_id (Wy d kk 0 A)]
  refine List.map_congr_left fun e he=>?_
  obtain⟨i,hi,rfl⟩:=List.mem_iff_getElem.1 he;have jt:i<A.length:=by grind[bF]
  have e1:=PZ d kk A 0 i;rw[List.getElem?_eq_getElem hi,List.getElem?_eq_getElem jt,Option.map_some,Option.some.injEq,Nat.zero_add]at e1;have h2:¬((i:Int)=(A.length:Int)):=by omega
  have h3:Au d A.length≠Au d i:=by grind[Og]
  rw[e1];simp[h2,Vg h3]
 ·simp
@[go_sem] theorem aLt(d kk:Nat){n:Nat}(b:Blk)(A:List (MT×List (List I)))(k:Nat)(hn:n<7000):(Wy d kk k A).map (fun e=>(e.1,e.2.1,Qq n b e.2.2))=Wy d kk k A:=by
 induction A generalizing k with
 |nil=>rfl
 |cons p r ih=>grind[Au,Wy,Vg]
theorem yx(d kk:Nat){A:List (MT×List (List I))}{j:Nat}(hj:j<A.length)(q:I)(b:Blk):(((Wy d kk 0 A).modify j (fun e=>(q,e.2))).map (fun e:I×Nat×D=>((e.1,e.2.1,Qq (Au d j) b e.2.2):I×Nat×D))).any (fun e=>((e.2.1:Int)==(j:Int)))=true:=by
 rw[List.any_eq_true];have h1:(((Wy d kk 0 A).modify j (fun e=>(q,e.2))).map (fun e:I×Nat×D=>((e.1,e.2.1,Qq (Au d j) b e.2.2):I×Nat×D)))[j]? =some (q,j,Qq (Au d j) b (.ref (.sl (Au d j) kk 0 A[j].2.length))):=by simp_all[PZ]
 grind
theorem yy(d kk:Nat)(A:List (MT×List (List I)))(q:I)(b:Blk):(((Wy d kk 0 A++[(q,A.length,D.ref (.sl (Au d A.length) kk 0 0))]).map (fun e:I×Nat×D=>((e.1,e.2.1,Qq (Au d A.length) b e.2.2):I×Nat×D))).any (fun e=>((e.2.1:Int)==(A.length:Int))))=true:=by simp
theorem P0(d e kk:Nat){A:List (MT×List (List I))}{j:Nat}(hj:j<A.length):Aa (B0 d e kk 0 A) (Au d j)=some (.rows e kk A[j].2):=by have:=Gj d e kk A 0 j;grind
theorem yz(d e kk:Nat)(A:List (MT×List (List I))):Aa (B0 d e kk 0 A) (Au d A.length)=none:=by have:=Gj d e kk A 0 A.length;grind
theorem bK(d kk:Nat){A:List (MT×List (List I))}{j:Nat}(hj:j<A.length):(Wy d kk 0 A)[j]? =some (IZ A[j].1,j,.ref (.sl (Au d j) kk 0 A[j].2.length)):=by grind[PZ]
theorem yA(d kk:Nat){A:List (MT×List (List I))}{q:I}{j:Nat}(h:Es (Wy d kk 0 A) q=some j)(hj:j<A.length):FM (Wy d kk 0 A) q=some (.ref (.sl (Au d j) kk 0 A[j].2.length)):=by grind[FM,bK]
theorem yB{es:List (I×Nat×D)}{q:I}(h:Es es q=none):FM es q=none:=by grind[FM]
@[go_sem] theorem aLu{d c:Nat}:(decide (Au d c<5000)||decide (5500<=Au d c))=true:=by grind[Au]
theorem yC(d e kk:Nat){A:List (MT×List (List I))}{q p:MT×List (List I)}{j:Nat}{x:Option Blk}(hp:(A++[q])[j]? =some p)(hx:j<A.length->x=Aa (B0 d e kk 0 A) (Au d (0+j))):(if Au d A.length=Au d (0+j)then some (.rows e kk q.2)else x)=some (.rows e kk p.2):=by grind[Og,P0]
theorem yD(d e kk:Nat){A:List (MT×List (List I))}{q p:MT×List (List I)}{i j:Nat}{x:Option Blk}(hi:i<A.length)(hp:(A.set i q)[j]? =some p)(hx:j<A.length->x=Aa (B0 d e kk 0 A) (Au d (0+j))):(if Au d (0+j)=Au d i then some (.rows e kk q.2)else x)=some (.rows e kk p.2):=by grind[Og,P0]
theorem yE{α:Type}{A:List (MT×α)}{w:MT}(h:A.findIdx? (fun p=>decide (p.1=w))=none):Al A w=none:=by
 induction A with
 |nil=>rfl
 |cons p r ih=>grind[Al]
theorem aget_some{α:Type}{A:List (MT×α)}{w:MT}{j:Nat}(h:A.findIdx? (fun p=>decide (p.1=w))=some j):∃(hj:j<A.length),Al A w=some A[j].2:=by
 induction A generalizing j with
 |nil=>simp at h
 |cons p r ih=>
  rw[List.findIdx?_cons]at h;by_cases e:p.1=w
  ·simp[e]at h;subst h;exact⟨by simp,by simp[Al,e]⟩
  ·simp only[e,decide_false,Bool.false_eq_true,if_false,Option.map_eq_some_iff]at h;obtain⟨q,hq,rfl⟩:=h;obtain⟨h1,h2⟩:=ih hq;exact⟨by simpa using h1,by simp[Al,if_neg e,h2]⟩
end
end Go.Proofs.YtkhlddbmhehbbaaGreatDoor
section
namespace Go.Proofs
open Go.Shelf
def Tryz.sortFid_ren:Go.Shelf.Ren:=⟨fun|6=>77|15=>110|14=>109|28=>163|29=>164|20=>155|21=>156|22=>157|23=>158|24=>159|25=>160|26=>161|27=>162|46=>214|47=>215|48=>216|49=>217|50=>218|57=>265|n=>n,fun|22=>81|24=>26|25=>126|3=>3|39=>158|0=>0|53=>193|55=>195|4=>4|46=>186|45=>185|50=>190|5=>5|9=>9|66=>240|70=>244|76=>280|77=>31|n=>n,fun|n=>n⟩
theorem Tryz.sortFid:Go.Proofs.SlLaysF0.n6 Tryz.prog Tryz.sortFid_ren:={mixed:=by kernel_rfl,f6:=⟨Tryz.f77.name,by decide,Tryz.func77.trans (congrArg some (by kernel_rfl))⟩,f14:=⟨Tryz.f109.name,by decide,Tryz.func109.trans (congrArg some (by kernel_rfl))⟩,f15:=Tryz.func110.trans (congrArg some (by kernel_rfl)),f20:=⟨Tryz.f155.name,by decide,Tryz.func155.trans (congrArg some (by kernel_rfl))⟩,f21:=⟨Tryz.f156.name,by decide,Tryz.func156.trans (congrArg some (by kernel_rfl))⟩,f22:=⟨Tryz.f157.name,by decide,Tryz.func157.trans (congrArg some (by kernel_rfl))⟩,f23:=⟨Tryz.f158.name,by decide,Tryz.func158.trans (congrArg some (by kernel_rfl))⟩,f24:=⟨Tryz.f159.name,by decide,Tryz.func159.trans (congrArg some (by kernel_rfl))⟩,f25:=⟨Tryz.f160.name,by decide,Tryz.func160.trans (congrArg some (by kernel_rfl))⟩,f26:=⟨Tryz.f161.name,by decide,Tryz.func161.trans (congrArg some (by kernel_rfl))⟩,f27:=⟨Tryz.f162.name,by decide,Tryz.func162.trans (congrArg some (by kernel_rfl))⟩,f28:=Tryz.func163.trans (congrArg some (by kernel_rfl)),f29:=Tryz.func164.trans (congrArg some (by kernel_rfl)),f46:=⟨Tryz.f214.name,by decide,Tryz.func214.trans (congrArg some (by kernel_rfl))⟩,f47:=Tryz.func215.trans (congrArg some (by kernel_rfl)),f48:=Tryz.func216.trans (congrArg some (by kernel_rfl)),f49:=⟨Tryz.f217.name,by decide,Tryz.func217.trans (congrArg some (by kernel_rfl))⟩,f50:=⟨Tryz.f218.name,by decide,Tryz.func218.trans (congrArg some (by kernel_rfl))⟩,f57:=⟨Tryz.f265.name,by decide,Tryz.func265.trans (congrArg some (by kernel_rfl))⟩,t0:=Tryz.underlying0,a0:=Tryz.isAgg0,z0:=Tryz.sizeOf0,v0:=Tryz.zeroValue0,t3:=Tryz.underlying3,a3:=Tryz.isAgg3,z3:=Tryz.sizeOf3,v3:=Tryz.zeroValue3,t4:=Tryz.underlying4,a4:=Tryz.isAgg4,z4:=Tryz.sizeOf4,v4:=Tryz.zeroValue4,t5:=Tryz.underlying5,a5:=Tryz.isAgg5,z5:=Tryz.sizeOf5,v5:=Tryz.zeroValue5,t9:=Tryz.underlying9,a9:=Tryz.isAgg9,z9:=Tryz.sizeOf9,v9:=Tryz.zeroValue9,t22:=Tryz.underlying81,a22:=Tryz.isAgg81,z22:=Tryz.sizeOf81,v22:=Tryz.zeroValue81,t25:=Tryz.underlying126,a25:=Tryz.isAgg126,z25:=Tryz.sizeOf126,v25:=Tryz.zeroValue126,t39:=Tryz.underlying158,a39:=Tryz.isAgg158,z39:=Tryz.sizeOf158,v39:=Tryz.zeroValue158,t45:=Tryz.underlying185,a45:=Tryz.isAgg185,z45:=Tryz.sizeOf185,v45:=Tryz.zeroValue185,t46:=Tryz.underlying186,a46:=Tryz.isAgg186,z46:=Tryz.sizeOf186,v46:=Tryz.zeroValue186,t50:=Tryz.underlying190,a50:=Tryz.isAgg190,z50:=Tryz.sizeOf190,v50:=Tryz.zeroValue190,t53:=Tryz.underlying193,a53:=Tryz.isAgg193,z53:=Tryz.sizeOf193,v53:=Tryz.zeroValue193,t55:=Tryz.underlying195,a55:=Tryz.isAgg195,z55:=Tryz.sizeOf195,v55:=Tryz.zeroValue195,t66:=Tryz.underlying240,a66:=Tryz.isAgg240,z66:=Tryz.sizeOf240,v66:=Tryz.zeroValue240,t70:=Tryz.underlying244,a70:=Tryz.isAgg244,z70:=Tryz.sizeOf244,v70:=Tryz.zeroValue244,t76:=Tryz.underlying280,a76:=Tryz.isAgg280,z76:=Tryz.sizeOf280,v76:=Tryz.zeroValue280,t77:=Tryz.underlying31,a77:=Tryz.isAgg31,z77:=Tryz.sizeOf31,v77:=Tryz.zeroValue31}
def Tryz.sortRow_ren:Go.Shelf.Ren:=⟨fun|6=>81|15=>110|14=>116|28=>163|29=>164|20=>168|21=>169|22=>170|23=>171|24=>172|25=>173|26=>174|27=>175|46=>219|47=>215|48=>216|49=>220|50=>221|57=>266|n=>n,fun|22=>87|24=>90|25=>133|3=>3|39=>158|0=>0|53=>193|55=>195|4=>4|46=>186|45=>185|50=>190|5=>5|9=>9|66=>240|70=>244|76=>280|77=>31|n=>n,fun|n=>n⟩
theorem Tryz.sortRow:Go.Proofs.SlLaysF0.n6 Tryz.prog Tryz.sortRow_ren:={mixed:=by kernel_rfl,f6:=⟨Tryz.f81.name,by decide,Tryz.func81.trans (congrArg some (by kernel_rfl))⟩,f14:=⟨Tryz.f116.name,by decide,Tryz.func116.trans (congrArg some (by kernel_rfl))⟩,f15:=Tryz.func110.trans (congrArg some (by kernel_rfl)),f20:=⟨Tryz.f168.name,by decide,Tryz.func168.trans (congrArg some (by kernel_rfl))⟩,f21:=⟨Tryz.f169.name,by decide,Tryz.func169.trans (congrArg some (by kernel_rfl))⟩,f22:=⟨Tryz.f170.name,by decide,Tryz.func170.trans (congrArg some (by kernel_rfl))⟩,f23:=⟨Tryz.f171.name,by decide,Tryz.func171.trans (congrArg some (by kernel_rfl))⟩,f24:=⟨Tryz.f172.name,by decide,Tryz.func172.trans (congrArg some (by kernel_rfl))⟩,f25:=⟨Tryz.f173.name,by decide,Tryz.func173.trans (congrArg some (by kernel_rfl))⟩,f26:=⟨Tryz.f174.name,by decide,Tryz.func174.trans (congrArg some (by kernel_rfl))⟩,f27:=⟨Tryz.f175.name,by decide,Tryz.func175.trans (congrArg some (by kernel_rfl))⟩,f28:=Tryz.func163.trans (congrArg some (by kernel_rfl)),f29:=Tryz.func164.trans (congrArg some (by kernel_rfl)),f46:=⟨Tryz.f219.name,by decide,Tryz.func219.trans (congrArg some (by kernel_rfl))⟩,f47:=Tryz.func215.trans (congrArg some (by kernel_rfl)),f48:=Tryz.func216.trans (congrArg some (by kernel_rfl)),f49:=⟨Tryz.f220.name,by decide,Tryz.func220.trans (congrArg some (by kernel_rfl))⟩,f50:=⟨Tryz.f221.name,by decide,Tryz.func221.trans (congrArg some (by kernel_rfl))⟩,f57:=⟨Tryz.f266.name,by decide,Tryz.func266.trans (congrArg some (by kernel_rfl))⟩,t0:=Tryz.underlying0,a0:=Tryz.isAgg0,z0:=Tryz.sizeOf0,v0:=Tryz.zeroValue0,t3:=Tryz.underlying3,a3:=Tryz.isAgg3,z3:=Tryz.sizeOf3,v3:=Tryz.zeroValue3,t4:=Tryz.underlying4,a4:=Tryz.isAgg4,z4:=Tryz.sizeOf4,v4:=Tryz.zeroValue4,t5:=Tryz.underlying5,a5:=Tryz.isAgg5,z5:=Tryz.sizeOf5,v5:=Tryz.zeroValue5,t9:=Tryz.underlying9,a9:=Tryz.isAgg9,z9:=Tryz.sizeOf9,v9:=Tryz.zeroValue9,t22:=Tryz.underlying87,a22:=Tryz.isAgg87,z22:=Tryz.sizeOf87,v22:=Tryz.zeroValue87,t25:=Tryz.underlying133,a25:=Tryz.isAgg133,z25:=Tryz.sizeOf133,v25:=Tryz.zeroValue133,t39:=Tryz.underlying158,a39:=Tryz.isAgg158,z39:=Tryz.sizeOf158,v39:=Tryz.zeroValue158,t45:=Tryz.underlying185,a45:=Tryz.isAgg185,z45:=Tryz.sizeOf185,v45:=Tryz.zeroValue185,t46:=Tryz.underlying186,a46:=Tryz.isAgg186,z46:=Tryz.sizeOf186,v46:=Tryz.zeroValue186,t50:=Tryz.underlying190,a50:=Tryz.isAgg190,z50:=Tryz.sizeOf190,v50:=Tryz.zeroValue190,t53:=Tryz.underlying193,a53:=Tryz.isAgg193,z53:=Tryz.sizeOf193,v53:=Tryz.zeroValue193,t55:=Tryz.underlying195,a55:=Tryz.isAgg195,z55:=Tryz.sizeOf195,v55:=Tryz.zeroValue195,t66:=Tryz.underlying240,a66:=Tryz.isAgg240,z66:=Tryz.sizeOf240,v66:=Tryz.zeroValue240,t70:=Tryz.underlying244,a70:=Tryz.isAgg244,z70:=Tryz.sizeOf244,v70:=Tryz.zeroValue244,t76:=Tryz.underlying280,a76:=Tryz.isAgg280,z76:=Tryz.sizeOf280,v76:=Tryz.zeroValue280,t77:=Tryz.underlying31,a77:=Tryz.isAgg31,z77:=Tryz.sizeOf31,v77:=Tryz.zeroValue31}
end Go.Proofs
end
namespace Go.Proofs.YtkhlddbmhehbbaaGreatDoor
open Go Go.Dl Go.As Go.Proofs
variable {mx:Int}
attribute[local irreducible] Ah Ai MC W2 EM ev evD step Ad
section
open Go.Sort Go.RowKit Go.Shelf
theorem yF{g:FuncId}{a b:I}{z:Int}(k8:De Tryz.prog g=true)(h:Is mx g [a,b] (iI z)){M:Mem}{w0 w:World}(hM:M.Sub w0)(hGL:Ij (OE mx) M){va vb:Value}(ha:Rep M a va)(hb:Rep M b vb)
  (hw:∀k,k<w0.heap.size->¬M.unk k->w.heap[k]? =w0.heap[k]?):Calls Tryz.prog g #[va,vb] w fun e w'=>e=.returned (.int .i64 z)/\∃q os,w'=grow (w.drewN q) os:=by
 have hn:∀nm,¬names [] nm:=fun nm hn=>by simp[names,Aa]at hn
 let μ:Dl.Place:=fun _=>Go.undef
 have hM':M.Sub w:=hM.world hw;have hlow:∀b,¬M.unk b->b<w.heap.size:=fun b hb=>by
  rcases Nat.lt_or_ge b w.heap.size with q|q
  ·exact q
  ·exact absurd (Mem.unk_new hM' q) hb
 have h0:StoOk (AN μ [] w).p M μ [] w:=⟨hM',fun nm b hb=>by simp[Aa]at hb,fun nm nm' k k' _ h=>absurd h (hn nm),fun b hb=>hb.1⟩;have hD:Dq M μ (names []) ([a,b].map D.i) (#[va,vb]:Array Value).toList:=⟨rfl,fun j p q=>by
  match j,p with
  |0,_=>exact AM ha
  |1,_=>exact AM hb⟩
 have h:MC Tryz.prog (OE mx) g ([a,b].map D.i) [] [] (gu (iI z)):=h
 delta MC at h
 rcases h M μ w #[va,vb] h0 hGL hD with⟨_,h2⟩|⟨_,row,h1,_⟩|⟨_,v,w',h1,_⟩|⟨h1,_⟩
 ·refine h2.mono ?_;rintro e W' ⟨v,rfl,r,sto',M',μ',⟨rfl,rfl⟩,_,hv,_,hk,_⟩;have hv:v=.int .i64 z:=by have:=AJ hv;cases this;rfl
  refine⟨by rw[hv],W'.drawn-w.drawn,W'.heap.extract w.heap.size W'.heap.size,?_⟩;have hdr:=hk.drawn;have j0:=hk.size;have hos:=hk.os;have htp:=hk.tape;have hout:=hk.output;have qp:∀k,k<w.heap.size->W'.heap[k]? =w.heap[k]? :=fun k qo=>hk.block k ⟨qo,fun nm h=>absurd h (hn nm)⟩
  obtain⟨heap',tape',drawn',os',output'⟩:=W';simp only at hdr j0 hos htp hout qp;subst hos htp hout;have eh:heap'=w.heap++heap'.extract w.heap.size heap'.size:=by
   apply Array.ext_getElem?;intro k;by_cases hk:k<w.heap.size
   ·rw[Array.getElem?_append_left hk];exact qp k hk
   ·rw[Array.getElem?_append_right (by omega),Array.getElem?_extract];by_cases qo:k<heap'.size
    ·rw[if_pos (by omega)];congr 1;omega
    ·rw[if_neg (by omega),Array.getElem?_eq_none (by omega)]
  have ed:w.drawn+(drawn'-w.drawn)=drawn':=by omega
  simp only[grow,World.drewN,ed];congr 1
 ·rw[Kw k8]at h1;cases h1
 ·rw[Kw k8]at h1;cases h1
 ·unfold De at k8;rw[h1]at k8;cases k8
theorem bL{β:Type}{f g:FuncId}{ρ:Ren}(L:SlLaysF0.n6 Tryz.prog ρ)(hf:ρ.f 6=f)(k e:Nat)(vk:0<k)(aE:∀w,(isAgg (ρ.t 24)).run Tryz.prog w=.ok true w)(zE:∀w,(Go.sizeOf (ρ.t 24)).run Tryz.prog w=.ok k w)
  (hen0:De Tryz.prog f=true)(k8:De Tryz.prog g=true)(E:β->List I)(hE1:∀x,(E x).length=k)(hE2:∀x,(E x).all I.one=true)(c:β->β->Int)(hO:SWO fun x y=>decide (c x y<0))
  (hc:∀x y,Is mx g [.agg (E x),.agg (E y)] (iI (c x y)))(l:List β)(hl:l.length<4611686018427387904)(hgy:Nat.blt g 1000000000=true):
  MC Tryz.prog (OE mx) f [.ref (.sl 5000 k 0 l.length),.i (.fn g [] [])] [(5000,.rows e k (l.map E))] []
   (fun r s=>r=.i (.tup [])/\∃l':List β,l'.Perm l/\l'.Pairwise (fun x y=>¬c y x<0)/\s=[(5000,.rows e k (l'.map E))]):=by
 delta MC
 intro M μ w vs h1 h2 h3;obtain⟨v,u,rfl,hN,⟨a,cap,hμ,_,kc,hv⟩,hu⟩:∃v u,vs=#[v,u]/\names [(5000,Blk.rows e k (l.map E))] 5000/\Lo (μ 5000) k 0 l.length v/\Rep M (.fn g [] []) u:=by
  obtain⟨ls⟩:=vs;obtain⟨hl1,hr⟩:=h3
  match ls,hl1 with
  |[v,u],_=>have q0:=hr 0 (by simp) (by simp);have q1:=hr 1 (by simp) (by simp);exact⟨v,u,rfl,q0.1,q0.2,AJ q1⟩
 obtain⟨vf,vc,rfl,_,hvf,hvc⟩:=Rep.fn_inv hu;obtain rfl:vf=#[]:=by apply Array.ext';simpa using hvf.1
 obtain rfl:vc=#[]:=by apply Array.ext';simpa using hvc.1
 have ecd:Gn g=.func g:=if_pos hgy;rw[ecd];have heg:∀args w,(callFunc g args).run Tryz.prog w=.ok (.enter g args) w:=fun args w=>Kw k8 args
 by_cases h0:l=[]
 ·obtain⟨p,c',hvv⟩:∃p c',v=.slice p 0 c':=by
   subst h0;rcases hv with⟨_,a',e⟩|⟨b,o,_,e⟩
   ·exact⟨_,_,e⟩
   ·exact⟨_,_,e⟩
  subst hvv;have hcon:=AnyF.slices_SortFunc_none L p c' (.func (.func g) #[] #[]) w;rw[hf]at hcon;refine .inl ⟨hen0,hcon.mono ?_⟩;rintro e' w' ⟨rfl,rfl⟩;refine⟨_,rfl,.i (.tup []),_,M,μ,⟨rfl,[],?_,List.Pairwise.nil,rfl⟩,?_,AM (Rep.tup' (Ak.nil M)),MExt.refl _ _,Keeps.refl _ _,fun _ _ _=>rfl⟩
  ·rw[h0]
  ·subst h0;simpa using h1
 have jx:0<l.length:=by cases l;exact(h0 rfl).elim;simp
 rcases hv with⟨rfl,a',rfl⟩|⟨b,o,rfl,rfl⟩
 ·omega
 obtain⟨a1,cap1,e1,hb⟩:=h1.blk 5000 _ rfl;rw[hμ]at e1;injection e1 with e1 e2 e3
 subst e1;subst e3;rcases hb with⟨xa,_⟩|⟨b1,o1,cur,e1,hcp,ho,hm,j0,hln,hk,js⟩
 ·omega
 injection e1 with e1;injection e1 with e1 e2
 subst e1;subst e2;have hbk:An (μ 5000)=some b:=by rw[hμ];simp only[An];rw[if_neg (by omega)]
 let vals:Nat->List Value:=fun j=>(List.range k).map fun i=>cur.getD (o+j*k+i) Go.undef
 have hvals:∀j (hj:j<l.length),Ak M (E l[j]) (vals j):=fun j hj=>by
  refine⟨by simp[vals,hE1],fun i hi jt=>?_⟩;obtain⟨v,hv,hr⟩:=js j (by simpa using hj) i (by simpa[hE1]using hi);simp only[List.getElem_map]at hr;have e:(vals j)[i]=v:=by simp only[vals,List.getElem_map,List.getElem_range];rw[Array.getD_eq_getD_getElem?,hv];rfl
  rw[e];exact hr
 let β':={p:β×List Value//Ak M (E p.1) p.2}
 let dl:List β':=(List.finRange l.length).map fun j=>⟨(l[j.1],vals j.1),hvals j.1 j.2⟩
 have xh:dl.length=l.length:=by simp[dl]
 have hdg:∀j (hj:j<dl.length),dl[j].1=(l[j]'(by omega),vals j):=fun j hj=>by simp[dl]
 haveI:Inhabited β':=⟨dl[0]'(by omega)⟩
 let enc:β'->List Value:=fun p=>p.1.2
 have henk:∀x,(enc x).length=k:=fun x=>by rw[show(enc x).length=_ from x.2.1,hE1]
 have hen1:∀x,∀v∈enc x,v.oneCell'=true:=fun x v hv=>by
  obtain⟨i,hi,rfl⟩:=List.mem_iff_getElem.1 hv;have jt:i<(E x.1.1).length:=by rw[<-x.2.1];exact hi
  have:=hE2 x.1.1;rw[List.all_eq_true]at this;exact Rep.oneCell (x.2.2 i jt hi) (this _ (List.getElem_mem _))
 let cf:β'->β'->Int:=fun x y=>c x.1.1 y.1.1
 have hO':SWO (ltOf cf):=⟨fun x=>hO.irrefl x.1.1,fun x y z=>hO.trans x.1.1 y.1.1 z.1.1,fun x y z=>hO.ntrans x.1.1 y.1.1 z.1.1⟩;have wu:dl.toArray.size=l.length:=by simp[xh]
 have hflat:∀(d:Array β') t,t<d.size*k->(flatK enc k d)[t]! =(enc d[t/k]!)[t%k]! :=fun d t ht=>get_flatK enc k d t ht
 have j4:∀t,t<l.length*k->cur[o+t]? =some (flatK enc k dl.toArray)[t]! :=fun t ht=>by
  have hj:t/k<l.length:=Nat.div_lt_of_lt_mul (by rw[Nat.mul_comm];exact ht);have hi:t%k<k:=Nat.mod_lt _ vk;obtain⟨v,hv,hr⟩:=js (t/k) (by simpa using hj) (t%k) (by simpa[hE1]using hi);have et:o+t/k*k+t%k=o+t:=by rw[Nat.add_assoc,Nat.mul_comm,Nat.div_add_mod]
  rw[et]at hv;rw[hv,hflat _ t (by rw[wu];exact ht)];have e1:dl.toArray[t/k]! =dl[t/k]'(by omega):=by rw[getElem!_pos _ _ (by simpa[xh]using hj)];simp
  have e2:(enc dl.toArray[t/k]!)=vals (t/k):=by rw[e1];show(dl[t/k]'(by omega)).1.2=_;rw[hdg]
  rw[e2,getElem!_pos _ _ (by simpa[vals]using hi)];simp only[vals,List.getElem_map,List.getElem_range,et];rw[Array.getD_eq_getD_getElem?,hv];rfl
 have hH:HoldsK enc k w b o dl.toArray:=fun t ht=>by
  have ht':t<l.length*k:=by simpa[wu]using ht
  refine⟨?_,?_⟩
  ·simp only[World.cell?,ho.heap];rw[j4 t ht'];simp
  ·simp[World.frozen?,ho.heap]
 have jn:=ho.lt;have hother0:∀(m:Nat) (d:Array β') (os:Array Obj) (kk:Nat),kk≠b->kk<w.heap.size->(sortWorldK enc k w b o m d os).heap[kk]? =w.heap[kk]? :=fun m d os kk ji hkl=>by unfold sortWorldK putRowK;rw[heap_grow_old _ _ (by rw[size_putRow];exact hkl)];simp only[Go.Sort.putRow,mapBlock,Sort.ahead,Array.getElem?_modify];rw[if_neg (fun e=>ji e.symm)]
 have hcmp:CmpLays Tryz.prog g #[] enc k cf b o dl.toArray.size w:=fun m os dk hdk x y=>by have:=yF k8 (hc x.1.1 y.1.1) h1.sub h2 (Rep.agg' (vs:=(enc x).toArray) (by simpa using x.2)) (Rep.agg' (vs:=(enc y).toArray) (by simpa using y.2)) (w:=sortWorldK enc k w b o m dk os) (fun kk hkl hu=>hother0 m dk os kk (fun e=>by subst e;exact hu ho.unk) hkl);simpa using this
 have hcon:=AnyQ.slices_SortFunc L k aE zE enc henk hen1 cf hO' g #[] b o cap dl.toArray w heg hcmp hH jn (by rw[wu];exact hl);rw[hf,wu]at hcon;simp only[Nat.zero_mul,Nat.add_zero,Nat.sub_zero];refine .inl ⟨hen0,hcon.mono ?_⟩;rintro e' w' ⟨rfl,d',n,os,hp,hs,rfl⟩;obtain⟨hp1,_,hp2⟩:=hp;rw[wu]at hp1;have hd'l:d'.toList.length=l.length:=by simpa using hp1
 have hperm:d'.toList.Perm dl:=by
  have e1:(d'.extract 0 l.length).toList=d'.toList:=by rw[Array.toList_extract,<-hd'l];simp only[List.drop_zero,List.take_length,Nat.sub_zero,List.extract_eq_take_drop]
  have e2:(dl.toArray.extract 0 l.length).toList=dl:=by rw[Array.toList_extract,<-xh];simp
  rw[e1,e2]at hp2;exact hp2
 generalize hL:d'.toList.map (fun p=>p.1.1)=l';have hl'p:l'.Perm l:=by
  have e3:dl.map (fun p=>p.1.1)=l:=by
   apply List.ext_getElem
   ·simp[xh]
   ·intro j q1 q2;rw[List.getElem_map,hdg]
  rw[<-hL,<-e3];exact hperm.map _
 have hl'l:l'.length=l.length:=hl'p.length_eq;have hl's:l'.Pairwise (fun x y=>¬c y x<0):=by rw[<-hL,List.pairwise_map,List.pairwise_iff_getElem];intro i j hi hj hij;have q:=hs i j (Nat.zero_le _) hij (by omega);rw[getElem!_pos d' i (by simpa using hi),getElem!_pos d' j (by simpa using hj)]at q;have q2:decide (c d'[j].1.1 d'[i].1.1<0)=false:=q;simpa using q2
 have hself:(sortWorldK enc k w b o n d' os).heap[b]? =some (.cells (putCells id o (flatK enc k d') cur) e (0,0)):=by unfold sortWorldK putRowK;rw[heap_grow_old _ _ (by rw[size_putRow];exact jn)];simp only[Go.Sort.putRow,mapBlock,Sort.ahead,Array.getElem?_modify,if_true];rw[ho.heap];rfl
 have qn:AQ (AN μ [(5000,Blk.rows e k (l.map E))] w) M μ (names (Ch [(5000,Blk.rows e k (l.map E))] 5000 (.rows e k (l'.map E)))) (sortWorldK enc k w b o n d' os) 5000 (.rows e k (l'.map E)):=by
  refine⟨some ⟨b,o,none⟩,cap,hμ,.inr ⟨b,o,putCells id o (flatK enc k d') cur,rfl,hcp,⟨ho.low,hself,ho.unk⟩,hm,?_,?_,?_,?_⟩⟩
  ·simp[putCells,j0]
  ·simpa[hl'l]using kc
  ·intro r hr;obtain⟨s,_,rfl⟩:=List.mem_map.1 hr;exact hE1 s
  ·intro i hi j hj;have ja:i<l'.length:=by simpa using hi
   have jt:i<d'.size:=by rw[<-Array.length_toList];omega
   have jq:j<k:=by simpa[hE1]using hj
   have hlt2:i*k+j<l.length*k:=by have:(i+1)*k<=l.length*k:=Nat.mul_le_mul_right _ (by omega);rw[Nat.add_mul,Nat.one_mul]at this;omega
   have hsz2:d'.size*k=l.length*k:=by rw[hp1]
   refine⟨(flatK enc k d')[i*k+j]!,?_,?_⟩
   ·simp only[putCells,Array.getElem?_mapIdx];rw[show o+i*k+j=o+(i*k+j)from by omega,j4 _ hlt2];have:o<=o+(i*k+j)/\o+(i*k+j)<o+(flatK enc k d').size:=by rw[size_flatK,hsz2];omega
    simp only[Option.map_some,if_pos this,id];congr 2;omega
   ·rw[hflat _ _ (by rw[hsz2];exact hlt2)];have e1:(i*k+j)/k=i:=by rw[Nat.mul_comm,Nat.mul_add_div vk,Nat.div_eq_of_lt jq];omega
    have e2:(i*k+j)%k=j:=by rw[Nat.mul_comm,Nat.mul_add_mod,Nat.mod_eq_of_lt jq]
    rw[e1,e2,getElem!_pos d' i jt,getElem!_pos _ j (by rw[henk];exact jq)];have q:=d'[i].2.2 j (by rw[hE1];exact jq) (by rw[d'[i].2.1,hE1];exact jq);have e3:l'[i]=d'[i].1.1:=by simp[<-hL]
    simp only[List.getElem_map,e3];exact q
 refine⟨_,rfl,.i (.tup []),[(5000,.rows e k (l'.map E))],M,μ,⟨rfl,l',hl'p,hl's,rfl⟩,?_,AM (Rep.tup' (Ak.nil M)),MExt.refl _ _,⟨rfl,rfl,rfl,?_,fun kk hkk=>hother0 n d' os kk ?_ hkk.1,?_⟩,fun _ _ _=>rfl⟩
 ·exact h1.setBlk (nm:=5000) (blk':=.rows e k (l'.map E)) rfl hbk (by unfold sortWorldK putRowK;rw[size_grow,size_putRow];exact Nat.le_add_right _ _) (fun kk h1 h2=>hother0 n d' os kk h1 h2) qn
 ·unfold sortWorldK putRowK;rw[size_grow,size_putRow];exact Nat.le_add_right _ _
 ·intro e';subst e';exact hkk.2 5000 (by simp[names,Aa]) hbk
 ·exact Nat.le_add_right w.drawn n
end
section
theorem P1:∀(x y:AT),Op.bytesLess x y=decide (x<y)
 |[],[]=>by rfl
 |_::_,[]=>by rfl
 |[],_::_=>by rfl
 |a::x,b::y=>by rw[Op.bytesLess,P1 x y];simp only[List.cons_lt_cons_iff];grind
theorem bM(x:AT):Op.bytesLess x x=false:=by simp[P1]
theorem yG(a:Int):Is mx 166 [iI a] (.bool false):=by refine MX oW ?_;exact YT trivial
theorem yH(a:AT):Is mx 165 [.str a] (.bool false):=by refine MX nK ?_;exact YT trivial
theorem bN(a b:Int):Is mx 113 [iI a,iI b] (iI (D7 a b)):=by
 refine MX pP ?_
 (repeat' first|simp(disch:=omega)only[go_sem,simprocAttr]|refine Sx.s ?_ ?_<;>try(intro h;have h':=h;try simp only[HB]at h';try rewrite [h];try simp only[h])|refine Ab (yG _) ?_|refine Ae ?_|refine Sz.s ?_|fail)
 all_goals(refine congrArg (I.int .i64) ?_;simp only[D7];first|done|(grind(splits:=20)))
def P2(a b:AT):Int:=if Op.bytesLess a b=true then-1 else if a=b then 0 else 1
theorem yI(a b:AT):Is mx 112 [.str a,.str b] (iI (P2 a b)):=by
 refine MX oK ?_
 (repeat' first|simp(disch:=omega)only[go_sem,simprocAttr]|refine Sx.s ?_ ?_<;>try(intro h;have h':=h;try simp only[HB]at h';try rewrite [h];try simp only[h])|refine Ab (yH _) ?_|refine Ae ?_|refine Sz.s ?_|fail)
 all_goals(refine congrArg (I.int .i64) ?_;simp only[P2];first|done|(grind(splits:=20)))
def orR(l:List Int):Int:=(l.find? fun x=>decide (x≠0)).getD 0
theorem bO(l:List Int)(hl:l.length<=1073741824):Is mx 111 [.sl (l.map fun x=>[iI x])] (iI (orR l)):=by
 refine MX nz ?_;refine OG ?_;refine lS [3,6,7] (fun i=>[(8,.i (iI i))]) (fun _=>[]) (fun i=>(l.take i).all (fun x=>!decide (x≠0))=true) l.length ?_;intro i hi jb;by_cases ja:i<l.length
 ·by_cases hn:l.getD i default=0
  ·refine ne (cj (Cq ja) hn) ?_;exact BR (d:=default) jb ja (by rw[hn];decide)
  ·have hf:=Mx (p:=fun x:Int=>decide (x≠0)) jb ja (decide_eq_true hn);rw[orR,hf];refine By (cj (Cq ja) hn) ?_
   try rfl
 ·rw[orR,My jb ja];refine Hw (Ih ja) ?_
  try rfl
theorem or2(a b:Int):orR [a,b]=if a≠0 then a else b:=by grind[orR]
theorem yJ(a b:Fid):CS a b=if a=b then 0 else orR [P2 a.source b.source,D7 a.seq b.seq]:=by grind[or2,CS,P2,bM,D7]
theorem bP(a b:Fid):Is mx 78 [.agg (Ao a),.agg (Ao b)] (iI (CS a b)):=by
 have h1:=yI (mx:=mx) a.source b.source;have h2:=bN (mx:=mx) a.seq b.seq;have h3:=bO (mx:=mx) [P2 a.source b.source,D7 a.seq b.seq] (by simp);have hR:=yJ a b;have hfid:(decide (a.source=b.source)&&decide (a.seq=b.seq))=decide (a=b):=(FH _ _).symm;simp only[List.map_cons,List.map_nil]at h3;rw[hR];refine MX F78 ?_;by_cases he:a=b
 ·rw[if_pos he];rw[decide_eq_true he]at hfid;exact Hw (cj @Cy (cj @Cz hfid)) trivial
 ·rw[if_neg he];rw[decide_eq_false he]at hfid;exact Hw (cj h1 (cj h2 (cj h3 (cj @Cy (cj @Cz hfid))))) trivial
theorem yK(a b:Rw):Is mx 82 [.agg (SN a),.agg (SN b)] (iI (FC a b)):=by
 have h1:=bN (mx:=mx) a.event b.event;have h2:=bP (mx:=mx) a.id b.id;have h3:=bO (mx:=mx) [D7 a.event b.event,CS a.id b.id] (by simp);have hR:FC a b=orR [D7 a.event b.event,CS a.id b.id]:=by rw[or2];rfl
 simp only[List.map_cons,List.map_nil]at h3;rw[hR];refine MX F82 ?_;exact Hw (cj h1 (cj h2 h3)) trivial
theorem Oh(f:Fct):Is mx 33 [.agg (Ap f)] (.agg (Ao (Ay f))):=by
 refine MX F33 ?_;refine WB (cj ?_ ?_)
 ·intro h h';simp[Ay,h']
 ·intro h h';simp[Ay,h']
theorem yL(s:AT):decide (F0 ⟨5,0,s⟩=0)=Mw s:=by rw[<-am,Bool.eq_iff_iff];grind[ck5,PH,inR,Mw]
theorem yM(s:AT):Is mx 96 [.str s] (.bool (Mw s)):=by have h1:=Ud (mx:=mx) ⟨5,0,s⟩;rw[<-yL];refine MX F96 ?_;exact Dp h1 trivial
theorem yN(f:Fct):Is mx 66 [.agg (Ap f)] (.bool (H8 f)):=by
 refine MX F66 ?_
 (repeat' first|exact Av _|simp(disch:=omega)only[go_sem,simprocAttr]|refine' AD (fun hq=>?_) (fun f=>?_)<;>try(have je:=hq;try simp only[HB]at je)|refine Sx.s ?_ ?_<;>try(intro h;have h':=h;try simp only[HB]at h';try rewrite [h];try simp only[h])|refine Ab (FZ _) ?_|refine Ab (yM _) ?_|refine Ae ?_|refine Sz.s ?_|fail)
 all_goals(refine congrArg I.bool ?_;simp only[H8,U3,RR,Hk];first|done|(grind(splits:=20)))
theorem bQ(c:Cat)(name:AT)(hc:c.tables.length<=1073741824):Is mx 39 [.agg (At c),.str name] (Hm (AU c.tables name)):=by
 refine MX F39 ?_
 (repeat' first|simp(disch:=omega)only[go_sem,simprocAttr]|fail)
 refine DQ [1,4,9,10] (by simp only[V0,MQ,reduceIte,Nat.reduceEqDiff];rfl) (fun i=>[(11,.i (iI i))]) (fun _=>[(4,.cells aH)]) (fun i=>(c.tables.take i).all (fun f=>!decide (f.name=name))=true) c.tables.length 0 (by omega) (by simp) (by simp[V0,I9,Ref.nm,D.nms,OL]) ?_;intro i hi jb;by_cases ja:i<c.tables.length
 ·by_cases hn:(c.tables.getD i default).name=name
  ·have hf:=Mx (p:=fun f=>decide (f.name=name)) jb ja (by simpa using hn);rw[AU,hf]
   (repeat' first|simp(disch:=omega)only[go_sem,simprocAttr,Cq ja,eq_true hn]|refine Ae ?_|refine Sz.s ?_|fail)
   try rfl
  ·refine La (cj (Cq ja) hn) ?_;exact BR (d:=default) jb ja (by simpa using hn)
 ·rw[AU,My jb ja];refine Hw (Ih ja) ?_
  try rfl
end
section
structure SLt{α:Type}(lt:α->α->Prop):Prop where
 irr:∀a,¬lt a a
 tr:∀a b c,lt a b->lt b c->lt a c
theorem Lb{α:Type}{lt:α->α->Prop}(h:SLt lt):∀{l m:List α},l.Pairwise lt->m.Pairwise lt->(∀x,x∈l↔x∈m)->l=m
 |[],[],_,_,_=>rfl
 |[],b::m,_,_,e=>by have:=(e b).2 (by simp);simp at this
 |a::l,[],_,_,e=>by have:=(e a).1 (by simp);simp at this
 |a::l,b::m,hl,hm,e=>by
  have hl':=List.pairwise_cons.1 hl;have hm':=List.pairwise_cons.1 hm;have hab:a=b:=by
   rcases List.mem_cons.1 ((e a).1 (by simp))with h1|h1
   ·exact h1
   ·rcases List.mem_cons.1 ((e b).2 (by simp))with h2|h2
    ·exact h2.symm
    ·exact absurd (h.tr _ _ _ (hl'.1 b h2) (hm'.1 a h1)) (h.irr a)
  subst hab;congr 1;refine Lb h hl'.2 hm'.2 fun x=>⟨fun hx=>?_,fun hx=>?_⟩
  ·rcases List.mem_cons.1 ((e x).1 (List.mem_cons_of_mem _ hx))with h1|h1
   ·subst h1;exact absurd (hl'.1 _ hx) (h.irr _)
   ·exact h1
  ·rcases List.mem_cons.1 ((e x).2 (List.mem_cons_of_mem _ hx))with h1|h1
   ·subst h1;exact absurd (hm'.1 _ hx) (h.irr _)
   ·exact h1
theorem yO{α:Type}{lt:α->α->Prop}(h:SLt lt){l:List α}(hl:l.Pairwise lt):l.Nodup:=List.Pairwise.imp (fun{a b} (hab:lt a b) (e:a=b)=>h.irr a (by rw[<-e]at hab;exact hab)) hl
theorem P3(a:AT):¬Op.bytesLess a a=true:=by simp[bM]
theorem R0(a b c:AT)(h:Op.bytesLess a b=true)(k:Op.bytesLess b c=true):Op.bytesLess a c=true:=by grind[P1]
theorem Vh(a b:AT):Op.bytesLess a b=true\/a=b\/Op.bytesLess b a=true:=by grind[P1]
def DY(a b:Fid):Prop:=CS a b<0
theorem R1(a b:Fid):DY a b↔Op.bytesLess a.source b.source=true\/(a.source=b.source/\a.seq<b.seq):=by grind[DY,CS,D7]
theorem Ic:SLt DY where
 irr a h:=by grind[R1,P3]
 tr a b c h k:=by grind[R1,R0]
theorem P4(a b:Fid):DY a b\/a=b\/DY b a:=by
 simp only[R1];rcases Vh a.source b.source with h|h|h
 ·exact .inl (.inl h)
 ·rcases Int.lt_trichotomy a.seq b.seq with k|k|k
  ·exact .inl (.inr ⟨h,k⟩)
  ·refine .inr (.inl ?_);cases a;cases b;simp_all
  ·exact .inr (.inr (.inr ⟨h.symm,k⟩))
 ·exact .inr (.inr (.inl h))
theorem bR{α:Type}{p:α->Bool}:∀{l:List α},∀y∈l.take (l.takeWhile p).length,p y=true
 |[],y,h=>by simp at h
 |a::l,y,h=>by
  cases hp:p a
  ·simp[hp]at h
  ·rw[List.takeWhile_cons_of_pos hp,List.length_cons,List.take_succ_cons]at h;rcases List.mem_cons.1 h with e|e
   ·rw[e];exact hp
   ·exact bR y e
theorem bS{α:Type}{p:α->Bool}:∀{l:List α} (h:(l.takeWhile p).length<l.length),p l[(l.takeWhile p).length]=false
 |[],h=>by simp at h
 |a::l,h=>by
  cases hp:p a
  ·simp[hp]
  ·simp only[List.takeWhile_cons_of_pos hp,List.length_cons,List.getElem_cons_succ];exact bS (by simpa[List.takeWhile_cons_of_pos hp]using h)
theorem bT{α:Type}{lt:α->α->Prop}{l:List α}{x:α}{k:Nat}(hl:l.Pairwise lt)(h1:∀y∈l.take k,lt y x)(h2:∀y∈l.drop k,lt x y):(Bo l k x).Pairwise lt:=by
 have hs:(l.take k++l.drop k).Pairwise lt:=by simp_all
 grind[Bo]
theorem bU{α:Type}{l:List α}{k:Nat}{x y:α}:y∈Bo l k x↔y=x\/y∈l:=by
 have:y∈l↔y∈l.take k\/y∈l.drop k:=by rw[<-List.mem_append,List.take_append_drop]
 grind[Bo]
theorem P5{l:List Fid}{id x:Fid}:x∈EH l id↔x=id\/x∈l:=by grind[EH,AA,bU]
theorem Vi{l:List Fid}{id:Fid}(hl:l.Pairwise DY):(EH l id).Pairwise DY:=by
 unfold EH;split
 ·exact hl
 ·rename_i ji;have h1:∀y∈l.take (cutI l id),DY y id:=fun y hy=>by simpa[DY]using bR (p:=fun y=>decide (CS y id<0)) y hy
  refine bT hl h1 ?_;by_cases hk:cutI l id<l.length
  ·have h2:=bS (p:=fun y=>decide (CS y id<0)) hk;have hd:l.drop (cutI l id)=l[cutI l id]::l.drop (cutI l id+1):=List.drop_eq_getElem_cons hk;have jn:DY id l[cutI l id]:=by
    rcases P4 l[cutI l id] id with h|h|h
    ·exfalso;have h3:decide (CS l[cutI l id] id<0)=false:=h2;rw[decide_eq_false_iff_not]at h3;exact h3 h
    ·exact absurd ⟨hk,by rw[AS hk];exact h⟩ ji
    ·exact h
   have hs:(l.drop (cutI l id)).Pairwise DY:=List.Pairwise.sublist (List.drop_sublist _ _) hl;rw[hd,List.pairwise_cons]at hs;rw[hd];intro y hy;rcases List.mem_cons.1 hy with e|e
   ·rw[e];exact jn
   ·exact Ic.tr _ _ _ jn (hs.1 y e)
  ·rw[List.drop_of_length_le (by omega)];simp
theorem P6(l:List Fid)(id:Fid):Be l id=true↔id∈l:=by simp[Be]
theorem R2(c:Cat)(x:Ers):∀(l:List Ent) (ids:List Fid) (y:Fid),y∈D9 l c x ids↔y∈ids\/∃e∈l,e.kind=1/\e.fact.kind≠3/\e.fact.key=x.key/\(∃t,AU c.tables e.fact.table=some t/\t.entity=x.entity)/\y=Ay e.fact
 |[],ids,y=>by simp[D9]
 |e::l,ids,y=>by have ih:=R2 c x l (JW c x ids e) y;grind[D9,JW,AU,Ay,P5]
theorem bV(c:Cat)(x:Ers):∀(l:List Ent) (ids:List Fid),ids.Pairwise DY->(D9 l c x ids).Pairwise DY
 |[],ids,h=>h
 |e::l,ids,h=>by
  simp only[D9,List.foldl_cons];refine bV c x l _ ?_;unfold JW;repeat' split
  all_goals first|exact h|exact Vi h
theorem Oi(l:List Ent):∀i,(Bm l i).Pairwise DY
 |0=>List.Pairwise.nil
 |i+1=>by
  unfold Bm;repeat' split
  ·exact Oi l i
  ·exact Vi (Oi l i)
  ·exact bV _ _ _ _ (Oi l i)
end
section
open Go.Sort Go.RowKit Go.Shelf
def FI(l:List Fid):List Fid:=l.mergeSort fun a b=>!decide (CS b a<0)
theorem bW:SWO fun x y:Fid=>decide (CS x y<0) where
 irrefl x:=by have:=Ic.irr x;unfold DY at this;simpa using this
 trans x y z h k:=by rw[decide_eq_true_eq]at*;exact Ic.tr x y z h k
 ntrans x y z h k:=by
  rw[decide_eq_false_iff_not]at*;intro hxz;rcases P4 x y with q|q|q
  ·exact h q
  ·subst q;exact k hxz
  ·exact k (Ic.tr y x z q hxz)
theorem P7(l:List Fid):(FI l).Perm l:=List.mergeSort_perm l _
theorem Vj(l:List Fid):(FI l).Pairwise fun x y=>¬CS y x<0:=by
 have:=List.pairwise_mergeSort (le:=fun a b:Fid=>!decide (CS b a<0)) (fun a b c h k=>by
  simp only[Bool.not_eq_true',decide_eq_false_iff_not]at*;intro hca;have:=bW.ntrans c b a (by simpa using k) (by simpa using h);rw[decide_eq_false_iff_not]at this;exact this hca) (fun a b=>by
  simp only[Bool.or_eq_true,Bool.not_eq_true',decide_eq_false_iff_not];by_cases h:CS b a<0
  ·exact .inr fun k=>Ic.irr a (Ic.tr a b a k h)
  ·exact .inl h) l
 exact this.imp fun h=>by simpa using h
theorem bY{l l':List Fid}(hp:l'.Perm l)(hs:l'.Pairwise fun x y=>¬CS y x<0):l'=FI l:=
 (hp.trans (P7 l).symm).eq_of_pairwise (fun x y _ _ h1 h2=>by
  rcases P4 x y with q|q|q
  ·exact absurd q h2
  ·exact q
  ·exact absurd q h1) hs (Vj l)
theorem yP(l:List Fid):(FI l).length=l.length:=(P7 l).length_eq
theorem yQ(l:List Fid)(hl:l.length<4611686018427387904):MC Tryz.prog (OE mx) 77 [.ref (.sl 5000 2 0 l.length),.i (.fn 78 [] [])] [(5000,.rows 26 2 (l.map Ao))] []
  (fun r s=>r=.i (.tup [])/\s=[(5000,.rows 26 2 ((FI l).map Ao))]):=by
 refine(bL (mx:=mx) Tryz.sortFid rfl 2 26 (by decide) (fun w=>by rfl) (fun w=>by rfl) (by kernel_rfl) (by kernel_rfl) Ao Oc Od CS bW (fun x y=>bP x y) l hl (by decide)).mono ?_;rintro r s ⟨h1,l',h2,h3,h4⟩;exact⟨h1,by rw[h4,bY h2 h3]⟩
def B7(a b:Rw):Prop:=FC a b<0
theorem P8(a b:Rw):B7 a b↔a.event<b.event\/(a.event=b.event/\DY a.id b.id):=by grind[B7,FC,D7,DY]
theorem I0:SLt B7 where
 irr a h:=by rcases(P8 a a).1 h with h|h;omega;exact Ic.irr _ h.2
 tr a b c h k:=by
  rw[P8]at*;rcases h with h|⟨h1,h2⟩<;>rcases k with k|⟨k1,k2⟩
  ·exact .inl (by omega)
  ·exact .inl (by omega)
  ·exact .inl (by omega)
  ·exact .inr ⟨by omega,Ic.tr _ _ _ h2 k2⟩
theorem R3(a b:Rw):B7 a b\/(a.event=b.event/\a.id=b.id)\/B7 b a:=by grind[P8,P4]
theorem bZ:SWO fun x y:Rw=>decide (FC x y<0) where
 irrefl x:=by have:=I0.irr x;unfold B7 at this;simpa using this
 trans x y z h k:=by rw[decide_eq_true_eq]at*;exact I0.tr x y z h k
 ntrans x y z h k:=by
  rw[decide_eq_false_iff_not]at*;intro hxz;rcases R3 x y with q|q|q
  ·exact h q
  ·have:B7 y z:=by have hxz:B7 x z:=hxz;rw[P8]at hxz⊢;rw[<-q.1,<-q.2];exact hxz
   exact k this
  ·exact k (I0.tr y x z q hxz)
theorem yR(l m:List Rw)(hl:l.length<4611686018427387904)(hm:m.Pairwise B7)(hp:m.Perm l):MC Tryz.prog (OE mx) 81 [.ref (.sl 5000 8 0 l.length),.i (.fn 82 [] [])] [(5000,.rows 90 8 (l.map SN))] []
  (fun r s=>r=.i (.tup [])/\s=[(5000,.rows 90 8 (m.map SN))]):=by
 refine(bL (mx:=mx) Tryz.sortRow rfl 8 90 (by decide) (fun w=>by rfl) (fun w=>by rfl) (by kernel_rfl) (by kernel_rfl) SN (fun _=>rfl) (fun _=>rfl) FC bZ (fun x y=>yK x y) l hl (by decide)).mono ?_;rintro r s ⟨h1,l',h2,h3,h4⟩;refine⟨h1,?_⟩;have hpm:l'.Perm m:=h2.trans hp.symm;have hs:l'.Pairwise B7:=by
  have hn:m.Pairwise fun x y=>B7 x y\/B7 y x:=hm.imp fun h=>.inl h
  have hn2:l'.Pairwise fun x y=>B7 x y\/B7 y x:=(hpm.pairwise_iff (fun{a b} (h:B7 a b\/B7 b a)=>h.symm)).2 hn
  rw[List.pairwise_iff_getElem]at hn2 h3⊢;intro i j hi hj hij;rcases hn2 i j hi hj hij with q|q
  ·exact q
  ·exact absurd q (h3 i j hi hj hij)
 rw[h4,Lb I0 hs hm fun x=>hpm.mem_iff]
end
section
def Hq:List (MT×List Fid)->MT->Fid->List (MT×List Fid)
 |[],w,x=>[(w,[x])]
 |p::r,w,x=>if p.1=w then(w,p.2++[x])::r else p::Hq r w x
def B8(A:List (MT×List Fid)):List (MT×List (List I)):=A.map fun p=>(p.1,p.2.map Ao)
theorem b8(A:List (MT×List Fid))(w:MT)(x:Fid):K9 (B8 A) w (Ao x)=B8 (Hq A w x):=by
 induction A with
 |nil=>rfl
 |cons p r ih=>grind[B8,K9,Hq]
theorem Vk(A:List (MT×List Fid)):(B8 A).length=A.length:=by simp[B8]
structure ErS where
 ids:List (Fid×Bool)
 kinds:List (AT×AT)
 about:List (MT×List Fid)
def Fe(ids:List (Fid×Bool))(l:List Fid):List (Fid×Bool):=l.foldl (fun a id=>AO a id true) ids
def R4(s:ErS)(f:Fct):MT:=((Al s.kinds f.table).getD [],f.key)
def gq(s:ErS)(x:Ent):ErS:=
 if x.kind=3/\x.change.kind=1 then⟨s.ids,AO s.kinds x.change.table.name x.change.table.entity,s.about⟩
 else if x.kind=1/\x.fact.kind≠3 then⟨s.ids,s.kinds,Hq s.about (R4 s x.fact) (Ay x.fact)⟩
 else if x.kind=2/\x.erasure.kind=2 then⟨AO s.ids x.erasure.id true,s.kinds,s.about⟩
 else if x.kind=2 then⟨Fe s.ids ((Al s.about (x.erasure.entity,x.erasure.key)).getD []),s.kinds,s.about⟩
 else s
def OH(l:List Ent)(i:Nat):ErS:=(l.take i).foldl gq ⟨[],[],[]⟩
theorem Lc{l:List Ent}{i:Nat}(h:i<l.length):OH l (i+1)=gq (OH l i) (l.getD i default):=by grind[OH,Cg]
def Vl(n:Nat)(s:ErS):Prop:=∀p∈s.about,p.2.length<=n
theorem yS{n:Nat}{A:List (MT×List Fid)}{w:MT}{x:Fid}(h:∀p∈A,p.2.length<=n):∀p∈Hq A w x,p.2.length<=n+1:=by
 induction A with
 |nil=>intro p hp;simp[Hq]at hp;subst hp;simp
 |cons q r ih=>intro p hp;grind[Hq]
theorem yT{n:Nat}{s:ErS}{x:Ent}(h:Vl n s):Vl (n+1) (gq s x):=by
 unfold gq
 repeat' split
 ·exact fun p hp=>Nat.le_succ_of_le (h p hp)
 ·exact yS h
 ·exact fun p hp=>Nat.le_succ_of_le (h p hp)
 ·exact fun p hp=>Nat.le_succ_of_le (h p hp)
 ·exact fun p hp=>Nat.le_succ_of_le (h p hp)
theorem Vm(l:List Ent):∀i,i<=l.length->Vl i (OH l i)
 |0,_=>fun p hp=>by grind[OH]
 |i+1,h=>by rw[Lc (by omega)];exact yT (Vm l i (by omega))
def Hr(l:List (Fid×Bool)):List (I×I):=l.map fun p=>(.agg (Ao p.1),.bool p.2)
def MH(l:List (AT×AT)):List (I×I):=l.map fun p=>(.str p.1,.str p.2)
theorem Vn(l:List (Fid×Bool))(id:Fid):Ee (Hr l) (.agg [.str id.source,.int .i64 id.seq]) (.bool true)=Hr (AO l id true):=NB (eK:=fun id:Fid=>I.agg (Ao id)) (f:=I.bool) RZ l id true
theorem yU(l:List (AT×AT))(k v:AT):Ee (MH l) (.str k) (.str v)=MH (AO l k v):=NB (f:=I.str) JA l k v
theorem yV(l:List (AT×AT))(k:AT):C0 (MH l) (.str k) (.str []) false=.str ((Al l k).getD []):=NC (f:=I.str) JA l k []
@[go_sem] theorem aLv(d e kk k:Nat)(A:List (MT×List (List I)))(σ:List (Nat×Blk)):Br (B0 d e kk k A) σ=∀j p,A[j]? =some p->Aa σ (Au d (k+j))=some (.rows e kk p.2):=by
 induction A generalizing k with
 |nil=>simp[B0,Br]
 |cons q r ih=>
  simp only[B0,Br,ih];refine propext ⟨fun⟨h1,h2⟩ j p hp=>?_,fun h=>⟨?_,fun j p hp=>?_⟩⟩
  ·cases j with
   |zero=>simp at hp;subst hp;exact h1
   |succ j=>have:=h2 j p (by simpa using hp);rw[show k+(j+1)=k+1+j from by omega];exact this
  ·have:=h 0 q rfl;simpa using this
  ·have:=h (j+1) p (by simpa using hp);rw[show k+1+j=k+(j+1)from by omega];exact this
@[go_sem] theorem aLw(S:List (Nat×Blk))(d e kk k:Nat)(A:List (MT×List (List I))):Qo S (B0 d e kk k A)=true:=by
 induction A generalizing k with
 |nil=>rfl
 |cons q r ih=>simp only[B0,Qo,ih];rfl
@[go_sem] theorem aLx(ls:List LK)(clk d kk:Nat)(A:List (MT×List (List I))):Blk.nms (.gmap ls clk (Wy d kk 0 A))=(List.range A.length).map (Au d):=by have:=bJ d kk A 0;simp only[Nat.zero_add]at this;exact this
@[go_sem] theorem aLy(n1 n2 n3:Nat)(b1 b2 b3:Blk)(d e kk:Nat)(A:List (MT×List (List I)))(h1:n1<7000)(h2:n2<7000)(h3:n3<7000):OL ((n1,b1)::(n2,b2)::(n3,b3)::B0 d e kk 0 A) ((List.range A.length).map (Au d))=true:=by
 unfold OL;rw[List.all_eq_true];intro nm jl;obtain⟨j,hj,rfl⟩:=List.mem_map.1 jl;have hj:=List.mem_range.1 hj;have e1:∀k,k<7000->¬k=Au d j:=fun k hk=>by grind[Au]
 have:=Gj d e kk A 0 j;simp_all[Aa,e1]
attribute [go_sem] bH
@[go_sem] theorem aLz(d e kk k:Nat)(A:List (MT×List (List I)))(n m:Nat)(b:Blk):Aa (Ch (B0 d e kk k A) n b) m=if m=n then(Aa (B0 d e kk k A) n).map (fun _=>b)else Aa (B0 d e kk k A) m:=C3 _ _ _ _
theorem Vo(l:List Ent)(hl:l.length<=1000000):Is mx 76 [.sl (l.map Ac)] (.map (Hr (OH l l.length).ids)):=by
 refine MX F76 ?_
 (repeat' first|simp(disch:=omega)only[go_sem,simprocAttr]|fail)
 refine BG [3,4,5,14,15] (by simp only[V0,MQ,reduceIte,Nat.reduceEqDiff];rfl) (fun i:Nat=>[(16,.i (iI i))]) (fun i=>(11,.map [.g,.s,.i .i64] (Hr (OH l i).ids))::(12,.gmap [.g,.s,.s] (OH l i).about.length (Wy 65 2 0 (B8 (OH l i).about)))::(13,.map [.s] (MH (OH l i).kinds))::B0 65 26 2 0 (B8 (OH l i).about))
  (fun i=>i<=l.length) (fun i=>l.length-i) 0 (by simp) (by simp[V0,I9,L9,Ref.nm,OH,B8,Wy,B0,Hr,MH,Br,Qo,yq]) ?_
 intro i hi;by_cases ja:i<l.length
 ·have hsm:=Vm l i hi;have kr:=Lc ja;generalize OH l i=s at hsm kr;have b1:=Oh (mx:=mx) (l.getD i default).fact;have xb:=Vk s.about;by_cases h1:(l.getD i default).kind=3/\(l.getD i default).change.kind=1
  ·rw[gq,if_pos h1]at kr;refine Hw (cj (Cq ja) (cj @AV (cj h1.1 (cj h1.2 (cj @yU (cj @AB.eq_1 (cj @AL.eq_1 @Bp.eq_1))))))) ?_;exact⟨i+1,by omega,by omega,rfl,by rw[kr],by rw[kr],by rw[kr],fun j p hp=>by rw[kr]at hp;rw[Gj,hp];rfl⟩
  ·rw[gq,if_neg h1]at kr;have h1':∀b1 b2,decide ((l.getD i default).kind=3)=b1->decide ((l.getD i default).change.kind=1)=b2->(b1&&b2)=false:=fun b1 b2 e1 e2=>by grind
   by_cases h2:(l.getD i default).kind=1/\(l.getD i default).fact.kind≠3
   ·rw[if_pos h2]at kr;have qh:¬(l.getD i default).kind=3:=by omega
    have hro:=JV Oc Od (Ay (l.getD i default).fact);simp only[Ao]at hro;have kp:=yV s.kinds (l.getD i default).fact.table;have hw:R4 s (l.getD i default).fact=((Al s.kinds (l.getD i default).fact.table).getD [],(l.getD i default).fact.key):=rfl;generalize hwg:((Al s.kinds (l.getD i default).fact.table).getD []:AT)=wa at kp hw;have hgi:=Vf 65 2 (wa,(l.getD i default).fact.key) (B8 s.about) 0;cases vi:(B8 s.about).findIdx? (fun p=>decide (p.1=(wa,(l.getD i default).fact.key)))with
    |none=>
     rw[vi]at hgi;have ha:=yt (x:=Ao (Ay (l.getD i default).fact)) vi;rw[b8]at ha;have wv:=yz 65 26 2 (B8 s.about);have k8:=yw 65 2 (B8 s.about) (wa,(l.getD i default).fact.key) (Ao (Ay (l.getD i default).fact)) (.iter none []);rw[<-ha]at k8;have han:=yy 65 2 (B8 s.about) (IZ (wa,(l.getD i default).fact.key)) (.iter none []);rw[xb]at wv k8 han
     (repeat' first|simp(disch:=omega)only[go_sem,simprocAttr,Cq ja,AV,eq_false qh,eq_true h2.1,eq_false h2.2,AB,AL,Bp,beq_self_eq_true,kp,hgi,wv,hro.1,hro.2,han,k8,Ao,Nat.sub_zero,ne_eq,not_false_eq_true,decide_true,decide_false,Ref.nm]|refine Ab (b1) ?_|refine Ae ?_|refine AG ?_|fail)
     rw[hw]at kr;have jd:(Hq s.about (wa,(l.getD i default).fact.key) (Ay (l.getD i default).fact)).length=s.about.length+1:=by grind[Vk]
     refine⟨i+1,by omega,by omega,rfl,by rw[kr],by rw[kr,jd],by rw[kr],fun j p hp=>?_⟩;rw[kr]at hp;simp only at hp;rw[ha]at hp;rw[<-xb];refine yC 65 _ 2 hp fun hj=>?_
     have n1:¬Au 65 (0+j)=12:=by grind[Au]
     have n2:¬Au 65 (0+j)=Au 65 (B8 s.about).length:=by grind[Og]
     rw[C3,if_neg n1,C3,if_neg n2]
    |some j=>
     rw[vi]at hgi;obtain⟨hj,hj1,ha⟩:=yu (x:=Ao (Ay (l.getD i default).fact)) vi;rw[b8]at ha;have wv:=P0 65 26 2 hj;have hgj:=bK 65 2 hj;have k8:=yv 65 2 hj (wa,(l.getD i default).fact.key) (Ao (Ay (l.getD i default).fact)) (.iter none []);rw[<-ha]at k8;have han:=yx 65 2 hj (IZ (wa,(l.getD i default).fact.key)) (.iter none []);have hln:(B8 s.about)[j].2.length<=i:=by have:=hsm (s.about[j]'(by omega)) (List.getElem_mem _);grind[B8]
     have ke:List.take (B8 s.about)[j].2.length (B8 s.about)[j].2=(B8 s.about)[j].2:=List.take_length;generalize hrj:(B8 s.about)[j].2=rj at wv hgj k8 ha hln ke
     (repeat' first|simp(disch:=omega)only[go_sem,simprocAttr,Cq ja,AV,eq_false qh,eq_true h2.1,eq_false h2.2,AB,AL,Bp,beq_self_eq_true,kp,hgi,hgj,wv,hro.1,hro.2,han,k8,Ao,Nat.sub_zero,ne_eq,not_false_eq_true,decide_true,decide_false,Ref.nm,ke]|refine Ab (b1) ?_|refine Ae ?_|refine AG ?_|(refine And.intro ?_ ?_;focus omega))
     rw[hw]at kr;have jd:(Hq s.about (wa,(l.getD i default).fact.key) (Ay (l.getD i default).fact)).length=s.about.length:=by grind[Vk]
     refine⟨i+1,by omega,by omega,rfl,by rw[kr],by rw[kr,jd],by rw[kr],fun j1 p hp=>?_⟩;rw[kr]at hp;simp only at hp;rw[ha]at hp;have n1:¬Au 65 (0+j1)=12:=by grind[Au]
     rw[C3,if_neg n1,C3,P0 65 _ 2 hj];exact yD 65 _ 2 hj hp (fun _=>rfl)
   ·rw[if_neg h2]at kr;by_cases qo:(l.getD i default).kind=2
    ·have qh:¬(l.getD i default).kind=3:=by rw[qo];decide
     have kt:¬(l.getD i default).kind=1:=by omega
     by_cases h3:(l.getD i default).erasure.kind=2
     ·rw[if_pos ⟨qo,h3⟩]at kr
      (repeat' first|simp(disch:=omega)only[go_sem,simprocAttr,Cq ja,AV,eq_false qh,eq_false kt,eq_true qo,eq_true h3,Vn,AB,AL,Bp,beq_self_eq_true]|refine Ae ?_|fail)
      exact⟨i+1,by omega,by omega,rfl,by rw[kr],by rw[kr],by rw[kr],fun j p hp=>by rw[kr]at hp;rw[Gj,hp];rfl⟩
     ·rw[if_neg (fun q=>h3 q.2),if_pos qo]at kr;have hgi:=Vf 65 2 ((l.getD i default).erasure.entity,(l.getD i default).erasure.key) (B8 s.about) 0;have hgf:(B8 s.about).findIdx? (fun p=>decide (p.1=((l.getD i default).erasure.entity,(l.getD i default).erasure.key)))=s.about.findIdx? (fun p=>decide (p.1=((l.getD i default).erasure.entity,(l.getD i default).erasure.key))):=by simp only[B8,List.findIdx?_map];rfl
      rw[hgf]at hgi;cases vi:s.about.findIdx? (fun p=>decide (p.1=((l.getD i default).erasure.entity,(l.getD i default).erasure.key)))with
      |none=>
       rw[vi]at hgi;rw[yE vi]at kr;have hgg:=yB hgi;refine By (cj (Cq ja) (cj @AV (cj qh (cj kt (cj qo (cj h3 (cj @AB.eq_1 (cj @AL.eq_1 (cj @Bp.eq_1 hgg))))))))) ?_;refine BG [3,4,5,14,15,16,94,95] (by simp only[V0,MQ,reduceIte,Nat.reduceEqDiff];rfl) (fun _:Unit=>[(96,.i (iI 0))]) (fun _=>(11,.map [.g,.s,.i .i64] (Hr s.ids))::(12,.gmap [.g,.s,.s] s.about.length (Wy 65 2 0 (B8 s.about)))::(13,.map [.s] (MH s.kinds))::B0 65 26 2 0 (B8 s.about)) (fun _=>True) (fun _=>0) () trivial ?_ ?_
       ·simp(disch:=omega)only[go_sem,Nat.reduceEqDiff];exact fun j p hp=>by rw[Gj,hp];rfl
       ·intro _ _;refine Lbn ?_;exact⟨i+1,by omega,by omega,rfl,by rw[kr];rfl,by rw[kr],by rw[kr],fun j p hp=>by rw[kr]at hp;rw[Gj,hp];rfl⟩
      |some j=>
       rw[vi]at hgi;obtain⟨hj0,hag⟩:=aget_some vi;rw[hag]at kr;have hj:j<(B8 s.about).length:=by omega
       have hgg:=yA 65 2 hgi hj;have wv:=P0 65 26 2 hj;have hrj:(B8 s.about)[j].2=s.about[j].2.map Ao:=by simp[B8]
       have hln:=hsm s.about[j] (List.getElem_mem _);rw[hrj]at hgg wv;simp only[Option.getD_some]at kr;generalize s.about[j].2=L at hgg wv hln kr;refine By (cj (Cq ja) (cj @AV (cj qh (cj kt (cj qo (cj h3 (cj @AB.eq_1 (cj @AL.eq_1 (cj @Bp.eq_1 hgg))))))))) ?_;refine BG [3,4,5,14,15,16,94,95] (by simp only[V0,MQ,reduceIte,Nat.reduceEqDiff];rfl) (fun k:Nat=>[(96,.i (iI k))]) (fun k=>(11,.map [.g,.s,.i .i64] (Hr (Fe s.ids (L.take k))))::(12,.gmap [.g,.s,.s] s.about.length (Wy 65 2 0 (B8 s.about)))::(13,.map [.s] (MH s.kinds))::B0 65 26 2 0 (B8 s.about)) (fun k=>k<=L.length) (fun k=>L.length-k) 0 (by omega) ?_ ?_
       ·simp(disch:=omega)only[go_sem,Nat.reduceEqDiff,wv];exact⟨rfl,rfl,fun j p hp=>by rw[Gj,hp];rfl⟩
       ·intro k hk;by_cases hkl:k<L.length
        ·have jo:Fe s.ids (L.take (k+1))=AO (Fe s.ids (L.take k)) (L.getD k default) true:=by grind[Cg,Fe]
         refine ne (cj (Cq hkl) (cj @AB.eq_1 (cj @AL.eq_1 (cj @Bp.eq_1 (cj wv (cj @Ao.eq_1 @Vn)))))) ?_;exact⟨k+1,by omega,by omega,rfl,by rw[jo],fun j p hp=>by have:=Gj 65 26 2 (B8 s.about) 0 j;rw[Nat.zero_add,hp]at this;exact this⟩
        ·have e:k=L.length:=by omega
         subst e;rw[List.take_length];refine Hw (Ih hkl) ?_;exact⟨i+1,by omega,by omega,rfl,by rw[kr],by rw[kr],by rw[kr],fun j p hp=>by rw[kr]at hp;rw[Gj,hp];rfl⟩
    ·rw[if_neg (fun q=>qo q.1),if_neg qo]at kr;have done:i+1<=l.length->l.length-(i+1)<l.length-i:=by omega
     by_cases qh:(l.getD i default).kind=3
     ·have hc:¬(l.getD i default).change.kind=1:=fun e=>h1 ⟨qh,e⟩
      have kt:¬(l.getD i default).kind=1:=by omega
      refine Hw (cj (Cq ja) (cj @AV (cj qh (cj hc (cj kt qo))))) ?_;exact⟨i+1,by omega,by omega,rfl,by rw[kr],by rw[kr],by rw[kr],fun j p hp=>by rw[kr]at hp;rw[Gj,hp];rfl⟩
     ·by_cases kt:(l.getD i default).kind=1
      ·have hf:(l.getD i default).fact.kind=3:=Decidable.byContradiction fun e=>h2 ⟨kt,e⟩
       (repeat' first|simp(disch:=omega)only[go_sem,simprocAttr,Cq ja,AV,eq_false qh,eq_true kt,eq_true hf,eq_false qo,ne_eq,not_true_eq_false,decide_true,decide_false]|refine Ae ?_|fail)
       exact⟨i+1,by omega,by omega,rfl,by rw[kr],by rw[kr],by rw[kr],fun j p hp=>by rw[kr]at hp;rw[Gj,hp];rfl⟩
      ·refine Hw (cj (Cq ja) (cj @AV (cj qh (cj kt qo)))) ?_;exact⟨i+1,by omega,by omega,rfl,by rw[kr],by rw[kr],by rw[kr],fun j p hp=>by rw[kr]at hp;rw[Gj,hp];rfl⟩
 ·have e:i=l.length:=by omega
  subst e;exact Hw (Ih ja) trivial
end
section
theorem ce(nm:Nat)(hn:nm<5000)(l:List Fid)(hl:l.length<4611686018427387904):MC Tryz.prog (OE mx) 77 [.ref (.sl nm 2 0 l.length),.i (.fn 78 [] [])] [(nm,.rows 26 2 (l.map Ao))] []
  (fun r s=>r=.i (.tup [])/\s=[(nm,.rows 26 2 ((FI l).map Ao))]):=by
 have e1:MS [(5000,nm)] 5000=nm:=by rfl
 have h:=(MC.as [(5000,nm)] (yQ (mx:=mx) l hl)).mono (R':=fun r s=>r=.i (.tup [])/\s=[(nm,.rows 26 2 ((FI l).map Ao))]) (by
  rintro r s ⟨h1,h2⟩;have k:=Ex (f:=J6 [(5000,nm)]) (g:=MS [(5000,nm)]) (Cb _) r;have k2:=FQ (f:=J6 [(5000,nm)]) (g:=MS [(5000,nm)]) (Cb _) s;rw[h1]at k;rw[h2]at k2;refine⟨k.symm,?_⟩;rw[<-k2];simp only[J5,MR,e1])
 simp only[List.map_cons,List.map_nil,J8,Qs,J5,MR,e1]at h;exact h
theorem yW{a b:List Fid}(h:a.Perm b):FI a=FI b:=bY ((P7 a).trans h) (Vj a)
theorem cg(L:List Fid):∀ids:List (Fid×Bool),(Fe ids L).length<=ids.length+L.length:=by
 induction L with
 |nil=>intro ids;simp[Fe]
 |cons x r ih=>
  intro ids;have h1:=ih (AO ids x true);have h2:(AO ids x true).length<=ids.length+1:=by have:=KL ids x true;have h3:=congrArg List.length this;grind
  grind[Fe]
theorem yX(ids:List (Fid×Bool))(x:Fid):(AO ids x true).length<=ids.length+1:=by have:=cg [x] ids;grind[Fe]
theorem yY{A:List (MT×List Fid)}{w:MT}{L:List Fid}(h:Al A w=some L):∃p∈A,p.2=L:=by
 induction A with
 |nil=>cases h
 |cons q r ih=>grind[Al]
theorem ci(l:List Ent):∀i,i<=l.length->(OH l i).ids.length<=i*(l.length+1)
 |0,_=>by simp[OH]
 |i+1,h=>by
  have ih:=ci l i (by omega);have hs:=Vm l i (by omega);rw[Lc (by omega),Nat.succ_mul];unfold gq
  repeat' split
  ·grind
  ·grind
  ·grind[yX,OH,AO]
  ·have:=cg ((Al (OH l i).about ((l.getD i default).erasure.entity,(l.getD i default).erasure.key)).getD []) (OH l i).ids;have h2:((Al (OH l i).about ((l.getD i default).erasure.entity,(l.getD i default).erasure.key)).getD []).length<=i:=by
    cases e:Al (OH l i).about ((l.getD i default).erasure.entity,(l.getD i default).erasure.key)with
    |none=>simp
    |some L=>obtain⟨p,hp,rfl⟩:=yY e;exact hs p hp
   grind
  ·omega
theorem yZ{l:List Ent}(h30:l.length<=30000):(OH l l.length).ids.length<=1000000000:=by have h0:=ci l l.length (Nat.le_refl _);have h1:l.length*(l.length+1)<=30000*30001:=Nat.mul_le_mul (by omega) (by omega);omega
theorem y6(l:List Ent)(hl:l.length<=30000):Is mx 31 [.sl (l.map Ac)] (.sl ((FI ((OH l l.length).ids.map (·.1))).map Ao)):=by
 have e0:=Vo (mx:=mx) l (by omega);have hb:=yZ hl;generalize (OH l l.length).ids=ids at e0 hb;simp only[Hr,Ao]at e0;refine MX F31 ?_;refine Dp e0 ?_;refine lT [6] (fun g:List Fid×List (Fid×Bool)×Option (I×I)=>[(2,.ref (.sl 2 2 0 g.1.length))]) (fun g=>[(6,.iter g.2.2 (g.2.1.map fun p=>(.agg [.str p.1.source,.int .i64 p.1.seq],.bool p.2))),(2,.rows 26 2 (g.1.map Ao))]) (fun g=>(g.1++g.2.1.map (·.1)).Perm (ids.map (·.1))) (fun g=>g.2.1.length) ([],ids,none) ?_;rintro⟨acc,rest,cur⟩ jb;have jd:=jb.length_eq;simp only[List.length_append,List.length_map]at jd
 (repeat' first|simp only[go_sem,simprocAttr,Nat.sub_zero]|(first|refine HO (ce 2 (by decide) acc (by omega)) ?_ (fun r sto' hR=>?_)|refine EW (ce 2 (by decide) acc (by omega)) ?_ (fun r sto' hR=>?_);(focus(first|rfl|(simp only[go_sem,simprocAttr,Ao,Nat.sub_zero];done)));first|(obtain⟨rfl,rfl⟩:=hR)|(obtain⟨_,(rfl|rfl),rfl,rfl⟩:=hR))|refine Ae ?_|refine Sz.s ?_|refine Mb (fun hr=>?_) (fun q hq=>?_)|fail)
 ·subst hr;have hms:(FI acc).length=acc.length:=yP acc;rw[if_pos (by rw[hms];exact Nat.le_refl _),List.take_of_length_le (by rw[List.length_map,hms];exact Nat.le_refl _)];have hp:acc.Perm (ids.map (·.1)):=by grind
  rw[<-yW hp];exact⟨rfl,rfl⟩
 ·refine⟨by simp,by simp[I.one],by omega,by omega,⟨acc++[rest[q].1],rest.eraseIdx q,some (.agg [.str rest[q].1.source,.int .i64 rest[q].1.seq],.bool rest[q].2)⟩,?_,?_,by simp,rfl,?_⟩
  ·refine List.Perm.trans ?_ jb;have:=(Ry hq).map (fun x:Fid×Bool=>x.1);simp only[List.map_cons]at this;rw[List.append_assoc];exact List.Perm.append_left acc this
  ·rw[List.length_eraseIdx];simp[hq];omega
  ·simp[Ao]
def inG(ids:List (Fid×Bool))(id:Fid):Bool:=(Al ids id).getD false
theorem R5(l:List (Fid×Bool))(id:Fid):C0 (Hr l) (.agg [.str id.source,.int .i64 id.seq]) (.bool false) false=.bool (inG l id):=NC (eK:=fun id:Fid=>I.agg (Ao id)) (f:=I.bool) RZ l id false
def Ff(ids:List (Fid×Bool))(e:Ent):Ent:=if e.kind=1/\inG ids (Ay e.fact)=true then DI e else e
theorem R6(l:List (Fid×Bool)):(∀e∈Hr l,AB [.g,.s,.i .i64] e.1=true)=True:=eq_true fun e he=>by obtain⟨p,_,rfl⟩:=List.mem_map.1 he;rfl
theorem y7(l:List Ent)(hl:l.length<=30000):MC Tryz.prog (OE mx) 30 [.i (.sl (l.map Ac))] [] [] (fun r s=>r=.ref (.sl 6000 40 0 l.length)/\s=[(6000,.rows 66 40 ((l.map (Ff (OH l l.length).ids)).map Ac))]):=by
 have e0:=Vo (mx:=mx) l (by omega);generalize (OH l l.length).ids=ids at e0;refine MX F30 ?_;refine Dp e0 ?_;refine lT [3,8,9] (fun i:Nat=>[(2,.ref (.sl 2 40 0 i)),(10,.i (iI i))]) (fun i=>[(2,.rows 66 40 (((l.take i).map (Ff ids)).map Ac))]) (fun i=>i<=l.length) (fun i=>l.length-i) 0 ?_ (by simp);intro i hi;have vt:((l.take i).map (Ff ids)).length=i:=by simp;omega
 by_cases ja:i<l.length
 ·have b1:=Oh (mx:=mx) (l.getD i default).fact;have hT:(l.take (i+1)).map (Ff ids)=(l.take i).map (Ff ids)++[Ff ids (l.getD i default)]:=by grind[Cg]
  have w6:=JV JT JU (l.getD i default);have hr2:=JV JT JU (DI (l.getD i default));rw[AV]at w6 hr2;simp only[DI]at hr2;have kp:=R5 ids (Ay (l.getD i default).fact);generalize (l.take i).map (Ff ids)=acc at vt hT;have ke:List.take i (acc.map Ac)=acc.map Ac:=List.take_of_length_le (by simp[vt]);by_cases hk:(l.getD i default).kind=1
  ·cases kh:inG ids (Ay (l.getD i default).fact)
   ·have hp:Ff ids (l.getD i default)=l.getD i default:=by rw[Ff,if_neg];rw[kh];simp
    rw[hp]at hT;rw[kh]at kp
    (repeat' first|simp(disch:=omega)only[go_sem,simprocAttr,Cq ja,AV,eq_true hk,w6.1,w6.2,vt,Nat.sub_zero,kp,Ao,AB,AL,Bp,beq_self_eq_true]|refine Sx.s ?_ ?_<;>try(intro h;have h':=h;try simp only[HB]at h';try rewrite [h];try simp only[h])|refine Ab (b1) ?_|refine Ae ?_|fail)
    exact⟨of_eq_true (R6 ids),by omega,by omega,i+1,by omega,by omega,⟨rfl,rfl⟩,by rw[hT,List.map_append,List.map_cons,List.map_nil,AV (l.getD i default),ke]⟩
   ·have hp:Ff ids (l.getD i default)=DI (l.getD i default):=by rw[Ff,if_pos ⟨hk,kh⟩]
    rw[hp]at hT;rw[kh]at kp;refine A4 (cj b1 (cj (Cq ja) (cj @AV (cj hk (cj kp (cj @Ao.eq_1 (cj @AB.eq_1 (cj @AL.eq_1 @Bp.eq_1)))))))) ?_;refine⟨of_eq_true (R6 ids),?_⟩;refine By (cj b1 (cj vt @Ao.eq_1)) ?_;exact⟨fun r hr=>by simp only[List.mem_singleton]at hr;subst hr;rfl,fun r hr=>by simp only[List.mem_singleton]at hr;subst hr;rfl,by omega,by omega,i+1,by omega,by omega,⟨rfl,rfl⟩,by rw[hT,List.map_append,ke];rfl⟩
  ·have hp:Ff ids (l.getD i default)=l.getD i default:=by rw[Ff,if_neg];exact fun h=>hk h.1
   rw[hp]at hT;refine ne (cj (Cq ja) (cj @AV (cj hk (cj w6.1 (cj w6.2 vt))))) ?_;exact⟨i+1,by omega,by omega,⟨rfl,rfl⟩,by rw[hT,List.map_append,List.map_cons,List.map_nil,AV (l.getD i default),ke]⟩
 ·have e:i=l.length:=by omega
  subst e;rw[List.take_length]at vt⊢;refine Hw (Ih ja) ?_;refine EX [(2,6000)] ?_;simp[YI]
theorem y8(l:List Ent)(hl:l.length<=30000):Is mx 30 [.sl (l.map Ac)] (.sl ((l.map (Ff (OH l l.length).ids)).map Ac)):=(y7 l hl).sl
end
section
theorem ck(r:Ref):Qs id r=r:=by cases r<;>rfl
theorem y9(c:Cp):mpC id c=c:=by cases c<;>simp[mpC,ck]
theorem za(l:List Cp):l.map (mpC id)=l:=by
 conv=>rhs;rw[<-List.map_id l]
 exact List.map_congr_left fun c _=>y9 c
theorem Vp(d:D):J8 id d=d:=by cases d<;>simp[J8,ck,za]
theorem zb(l:List D):l.map (J8 id)=l:=by
 conv=>rhs;rw[<-List.map_id l]
 exact List.map_congr_left fun c _=>Vp c
theorem zc(b:Blk):MR id b=b:=by cases b<;>simp[MR,zb,Vp]
theorem cm:∀s:List (Nat×Blk),J5 id s=s
 |[]=>rfl
 |(m,b)::r=>by simp only[J5,zc,cm r];rfl
theorem cq:∀(ks:List (Nat×Nat)),(∀p∈ks,p.1=p.2)->kf ks=id
 |[],_=>rfl
 |(a,b)::r,h=>by
  funext m;have e:a=b:=h (a,b) List.mem_cons_self;have ih:=cq r fun p hp=>h p (List.mem_cons_of_mem _ hp)
  simp_all[kf]
theorem cr{ns:List Nat}:∀{l:List (Nat×Blk)},(∀p∈l,p.1∉ns)->CG ns l=[]
 |[],_=>rfl
 |(m,b)::r,h=>by
  have h0:ns.contains m=false:=by simp_all
  simp only[CG,h0,Bool.false_eq_true,if_false];exact cr fun p hp=>h p (List.mem_cons_of_mem _ hp)
theorem cu{ns:List Nat}:∀{l:List (Nat×Blk)},(∀p∈l,p.1∈ns)->CG ns l=l
 |[],_=>rfl
 |(m,b)::r,h=>by have h0:ns.contains m=true:=List.contains_iff_mem.2 (h (m,b) List.mem_cons_self);simp only[CG,h0,if_true];rw[cu fun p hp=>h p (List.mem_cons_of_mem _ hp)]
theorem cv{ns:List Nat}:∀(a b:List (Nat×Blk)),CG ns (a++b)=CG ns a++CG ns b
 |[],b=>rfl
 |(m,x)::r,b=>by simp only[List.cons_append,CG,cv r b];split<;>rfl
theorem P9{mv:List Nat}{l:List (Nat×Blk)}(h:SK mv l=true):∀p∈l,5000<=p.1/\p.1<6000:=fun p hp=>Iz h p.1 (CE.1 (List.mem_map.2 ⟨p,hp,rfl⟩))
theorem Vq{mv:List Nat}{l:List (Nat×Blk)}(h:SK mv l=true):Ep (l.map (·.1))=true:=by grind[SK]
theorem Oj{mv:List Nat}{l:List (Nat×Blk)}(h:SK mv l=true){q:Nat}(hq:q<5000):Aa l q=none:=by
 cases hg:Aa l q with
 |none=>rfl
 |some b=>have:=Iz h q (by simp[names,hg]);omega
theorem cw{nm:Nat}{b:Blk}:∀{l:List (Nat×Blk)},(∀p∈l,nm∉p.2.nms)->SL nm b l=l
 |[],_=>rfl
 |(m,x)::r,h=>by simp only[SL];rw[TG (h (m,x) List.mem_cons_self),cw fun p hp=>h p (List.mem_cons_of_mem _ hp)]
theorem Qa{mv:List Nat}{l:List (Nat×Blk)}(h:SK mv l=true){q:Nat}(hq:q<5000)(b:Blk):SL q b l=l:=
 cw fun p hp hn=>by have:=Iz h q (T2 (Fo h) p hp q hn);omega
theorem cx{q:Nat}:∀{l:List (Nat×Blk)},(∀p∈l,p.1≠q)->Cs l q=l
 |[],_=>rfl
 |(m,x)::r,h=>by have h0:¬m=q:=h (m,x) List.mem_cons_self;simp only[Cs,if_neg h0];rw[cx fun p hp=>h p (List.mem_cons_of_mem _ hp)]
theorem Qb{mv:List Nat}{l:List (Nat×Blk)}(h:SK mv l=true){q:Nat}(hq:q<5000):Cs l q=l:=cx fun p hp=>by grind[P9]
theorem R7{q:Nat}{b:Blk}:∀{l:List (Nat×Blk)},(∀p∈l,p.1≠q)->Ch l q b=l
 |[],_=>rfl
 |(m,x)::r,h=>by have h0:¬m=q:=h (m,x) List.mem_cons_self;simp only[Ch,if_neg h0];rw[R7 fun p hp=>h p (List.mem_cons_of_mem _ hp)]
theorem MI{mv:List Nat}{l:List (Nat×Blk)}(h:SK mv l=true):Br l l:=Pl (mv:=mv) (Vq h) l fun _ _ h=>h
theorem Ld{own mN:List (Nat×Blk)}{given mv:List Nat}{E:Env}{R:D->List (Nat×Blk)->Prop}(h:SK mv mN=true)(ho:(own.map (·.1)).all (fun q=>Nat.blt q 5000)=true)(hR:R (.i (.tup [])) mN):FY [] given mv R ⟨E,own++mN⟩:=by
 refine⟨[],mN.map (fun p=>(p.1,p.1)),?_⟩;have e1:(mN.map fun p=>(p.1,p.1)).map (·.1)=mN.map (·.1):=by rw[List.map_map];rfl
 have e2:(mN.map fun p=>(p.1,p.1)).map (·.2)=mN.map (·.1):=by rw[List.map_map];rfl
 have e3:CG (mN.map (·.1)) (own++mN)=mN:=by
  rw[cv,cr,cu,List.nil_append]
  ·exact fun p hp=>List.mem_map.2 ⟨p,hp,rfl⟩
  ·intro p hp hm;rw[List.all_eq_true]at ho;have h1:=ho p.1 (List.mem_map.2 ⟨p,hp,rfl⟩);rw[Nat.blt_eq]at h1;obtain⟨q,hq,e⟩:=List.mem_map.1 hm;have:=P9 h q hq;omega
 have e4:kf (mN.map fun p=>(p.1,p.1))=id:=cq _ fun p hp=>by obtain⟨q,_,rfl⟩:=List.mem_map.1 hp;rfl
 have e5:Iw (frzNs [] ⟨E,own++mN⟩) []=some (.i (.tup [])):=rfl;rw[e5];simp only[e1,show(frzNs [] ⟨E,own++mN⟩).sto=own++mN from rfl,e3,e4,Vp,cm];refine⟨?_,⟨rfl,Fo h⟩,hR⟩;unfold Pf;rw[e1,e2,Vq h,Bool.true_and,Bool.true_and,List.all_eq_true];intro p hp;obtain⟨q,_,rfl⟩:=List.mem_map.1 hp;simp
theorem Qc{mv:List Nat}{l:List (Nat×Blk)}(h:SK mv l=true):((l.map (·.1)).all fun m=>(Nat.ble 5000 m&&Nat.blt m 5500)||mv.contains m)=true:=by grind[SK]
end
section
theorem zd(l:List Ent)(tick:Int):Is mx 115 [.sl (l.map Ac),iI tick] (.fn 167 [] [.elt [.sl (l.map Ac)] 0,.elt [iI tick] 0]):=by refine MX nB ?_;exact Lbn trivial
theorem ze{l:List Ent}{tick:Int}{i:Nat}(hi:i<l.length):BM (l.take (i+1)) tick=if(l.getD i default).tick<=tick then BM (l.take i) tick++[l.getD i default]else BM (l.take i) tick:=by grind[PQ,BM]
theorem Vr(l:List Ent)(tick:Int)(i:Nat):BM (l.take i) tick<+:BM l tick:=by grind[BM]
theorem zf(l:List Ent)(tick:Int)(hl:l.length<=1073741824):Np Tryz.prog (OE mx) 167 [.elt [.sl (l.map Ac)] 0,.elt [iI tick] 0] ((BM l tick).map fun e=>[.agg (Ac e)]):=by
 intro y m mv N go hV hm hN hgo qd hy;rw[List.length_map]at hN qd;have hk:∀k,SK mv (m k)=true:=fun k=>(hm k).1
 have g1:∀k q,q<5000->Aa (m k) q=none:=fun k q hq=>Oj (hk k) hq
 have g2:∀k q b,q<5000->SL q b (m k)=m k:=fun k q b hq=>Qa (hk k) hq b
 have g3:∀k q,q<5000->Cs (m k) q=m k:=fun k q hq=>Qb (hk k) hq
 have g4:∀k,Br (m k) (m k)=True:=fun k=>eq_true (MI (hk k))
 have g5:∀k,Qo (m k) (m k)=true:=fun k=>Fo (hk k)
 have fin:∀(E:Env),FY [] ((m 0).map (·.1)) mv (fun r s=>r=.i (.tup [])/\s=m N) ⟨E,m N⟩:=fun E=>Ld (own:=[]) (hk N) rfl ⟨rfl,rfl⟩
 refine MX p5 ?_ (hpin:=Qc (hk 0))
 (repeat' first|simp(disch:=omega)only[go_sem,simprocAttr,List.map_cons,List.map_nil]|fail)
 refine BG [0,2,6,7] (by simp only[V0,MQ,reduceIte,Nat.reduceEqDiff];rfl) (fun i:Nat=>[(8,.i (iI i))]) (fun i=>m (BM (l.take i) tick).length)
  (fun i=>i<=l.length/\(BM (l.take i) tick).length<=N/\((BM (l.take i) tick).length=N->N=(BM l tick).length)) (fun i=>l.length-i) 0 ⟨by omega,by simp[BM],fun h=>by
   by_cases jn:N<(BM l tick).length
   ·have:=(qd jn).1;simp[BM]at h;omega
   ·omega⟩ (by simp[V0,I9,L9,BM,g4,g5]) ?_
 rintro i ⟨hi,wn,hc2⟩;have vp:=(Vr l tick i).length_le;by_cases ja:i<l.length
 ·have hut:=ze (tick:=tick) ja;have hpl2:=(Vr l tick (i+1)).length_le;by_cases ht:(l.getD i default).tick<=tick
  ·rw[if_pos ht]at hut;rw[hut]at hpl2;have hx:((BM l tick).map fun e=>[I.agg (Ac e)]).getD (BM (l.take i) tick).length []=[.agg (Ac (l.getD i default))]:=by have hp:=Vr l tick (i+1);rw[hut]at hp;obtain⟨r,hr⟩:=hp;grind
   have hcN:(BM (l.take i) tick).length<N:=by grind
   have y1:=hy _ hcN;rw[hx]at y1;have jd:(BM (l.take (i+1)) tick).length=(BM (l.take i) tick).length+1:=by grind
   generalize (BM (l.take i) tick).length=k at y1 hcN jd vp wn hc2;rw[AV]at y1
   (repeat' first|simp(disch:=omega)only[go_sem,simprocAttr,Cq ja,AV,eq_true ht,g1,g2,g3]|refine Ae ?_|fail)
   refine T3 (own:=[]) (mj:=m k) (mk:=m (k+1)) y1 (fun s e=>by cases e;decide) (by simp only[DZ,EQ,go_sem,reduceCtorEq,Nat.reduceEqDiff,List.map_cons,List.map_nil,List.append_nil,List.nil_append]) (hk _) (hk _) ((hm _).2.trans (hm _).2.symm) hV rfl [0,2,6,7,8,16] (by simp only[V0,MQ,reduceIte,Nat.reduceEqDiff];rfl) (by simp only[go_sem,List.all_cons,List.all_nil]) ?_;cases hgk:go k
   ·(repeat' first|simp(disch:=omega)only[go_sem,simprocAttr,List.nil_append]|fail)
    have hkN:k+1=N:=by grind
    rw[hkN];exact fin _
   ·(repeat' first|simp(disch:=omega)only[go_sem,simprocAttr,List.nil_append]|fail)
    refine⟨i+1,⟨by omega,by rw[jd];omega,fun h=>?_⟩,by omega,rfl,by rw[jd];exact MI (hk _),g5 _⟩;rcases Nat.lt_or_ge N (BM l tick).length with q|q
    ·have h2:=(qd q).2;have h3:N-1=k:=by omega
     rw[h3,hgk]at h2;cases h2
    ·omega
  ·rw[if_neg ht]at hut;refine Hw (cj (Cq ja) (cj @AV (cj ht (cj g1 (cj g2 g3))))) ?_;exact⟨i+1,by rw[hut];exact⟨by omega,wn,hc2⟩,by omega,rfl,by rw[hut];exact MI (hk _),g5 _⟩
 ·have e:i=l.length:=by omega
  subst e;rw[List.take_length]at wn hc2⊢;have:(BM l tick).length=N:=by omega
  refine Hw (Ih ja) ?_;rw[this];exact fin _
end
end Go.Proofs.YtkhlddbmhehbbaaGreatDoor
