/-Lemmas.-/
import Derived.Test.YtkhlddbmhehbbaaGreatDoorU17
set_option linter.all false
set_option maxRecDepth 100000
set_option maxHeartbeats 8000000
namespace Go.Proofs.YtkhlddbmhehbbaaGreatDoor
open Go Go.Dl Go.As Go.Proofs
variable {mx:Int}
attribute[local irreducible] Ah Ai MC W2 EM ev evD step Ad
section
def uM(n m:Int):Bool:=decide (mkP (WC 0 (List.zipWith (·+·) (Bt (Qt n).1 (Qt n).2) (Bt (Qt m).1 (Qt m).2)))=Qt (n+m))
theorem uN:(List.range 145).all (fun k=>(List.range 17).all fun j=>uM ((k:Int)-72) ((j:Int)-8))=true:=by rfl
theorem uO{n m:Int}(h:-72<=n/\n<=72)(k:-8<=m/\m<=8):mkP (WC 0 (List.zipWith (·+·) (Bt (Qt n).1 (Qt n).2) (Bt (Qt m).1 (Qt m).2)))=Qt (n+m):=by have h1:=List.all_eq_true.1 uN (n+72).toNat (by simp;omega);have h2:=List.all_eq_true.1 h1 (m+8).toNat (by simp;omega);rw[show(((n+72).toNat:Nat):Int)-72=n by omega,show(((m+8).toNat:Nat):Int)-8=m by omega]at h2;exact of_decide_eq_true h2
theorem Z3{n:Int}(h:-1000<=n/\n<=1000):wOk (Qt n).1 (Qt n).2:=by unfold Qt;split<;>exact⟨by constructor<;>omega,by constructor<;>omega⟩
theorem uP(n m:Int)(h:-72<=n/\n<=72)(k:-8<=m/\m<=8):Is mx 358 [.agg [iI (Qt n).1,iW (Qt n).2],.agg [iI (Qt m).1,iW (Qt m).2]] (.agg [iI (Qt (n+m)).1,iW (Qt (n+m)).2]):=by have:=tg (mx:=mx) _ _ _ _ (Z3 (n:=n) (by omega)) (Z3 (n:=m) (by omega));simp_all[mkW,uO]
theorem Z4(n:Int)(h:-9223372036854775808<=n/\n<=9223372036854775807):Is mx 357 [iI n] (.agg [iI (Qt n).1,iW (Qt n).2]):=by have:=Ui (mx:=mx) n h;grind[NI]
theorem uQ(n:Int)(h:-128<=n/\n<=128):Is mx 359 [.agg [iI (Qt n).1,iW (Qt n).2],iI 1] (.tup [iI n,.bool true]):=by have:=tG (mx:=mx) n h;grind[NI]
def Dj:List Fac->AT->Int
 |[],_=>0
 |f::r,s=>(if f.name=s then f.exp else 0)+Dj r s
theorem Z5:∀(l:List Fac) (s:AT),(∀f∈l,-8<=f.exp/\f.exp<=8)→-(8*(l.length:Int))<=Dj l s/\Dj l s<=8*(l.length:Int)
 |[],_,_=>by simp[Dj]
 |f::r,s,h=>by
  have h1:=Z5 r s fun g hg=>h g (List.mem_cons_of_mem _ hg)
  grind[Dj]
theorem uR(l r:List Fac)(s:AT):Dj (l++r) s=Dj l s+Dj r s:=by
 induction l with
 |nil=>simp[Dj]
 |cons f l ih=>simp only[List.cons_append,Dj,ih];omega
def JJ(l:List Fac)(s:AT):Int×Bool:=if Gc (Dj l s)=true then(0,false)else(Dj l s,true)
theorem uS(l:List Fac)(s:AT)(hl:l.length<=9)(he:∀f∈l,-8<=f.exp/\f.exp<=8):Is mx 352 [.sl (l.map Aw),.str s] (.tup [iI (JJ l s).1,.bool (JJ l s).2]):=by
 have hz:=Z4 (mx:=mx) 0 (by omega);refine MX sF ?_;refine Dp hz ?_;refine lT [0,1,6] (fun i:Nat=>[(7,.i (iI i))]) (fun i=>[(6,.cells [.i (iI (Qt (Dj (l.take i) s)).1),.i (iW (Qt (Dj (l.take i) s)).2)])]) (fun i=>i<=l.length) (fun i=>l.length-i) 0 ?_;intro i hi;have hb:=Z5 (l.take i) s (fun f hf=>he f (List.mem_of_mem_take hf));have qp:(l.take i).length=i:=by simp;omega
 rw[qp]at hb;by_cases ja:i<l.length
 ·have h8:=he _ (AA ja);have ht:l.take (i+1)=l.take i++[l.getD i default]:=by simp_all
  have hs:Dj (l.take (i+1)) s=Dj (l.take i) s+(if(l.getD i default).name=s then(l.getD i default).exp else 0):=by rw[ht,uR];simp[Dj]
  have c1:=Z4 (mx:=mx) (l.getD i default).exp (by omega);have c2:=uP (mx:=mx) (Dj (l.take i) s) (l.getD i default).exp (by omega) h8;refine Dp (cj c1 (cj c2 (Cq ja))) (cj ?_ ?_)
  ·intro h h';rw[if_pos h']at hs;exact⟨i+1,by omega,by omega,rfl,by rw[hs]⟩
  ·intro h h';rw[if_neg h',Int.add_zero]at hs;exact⟨i+1,by omega,by omega,rfl,by rw[hs]⟩
 ·have e:l.take i=l:=List.take_of_length_le (by omega);have jd:(i:Int)=l.length:=by omega
  rw[e]at hb⊢;have c3:=uQ (mx:=mx) (Dj l s) (by omega);refine Dp (cj c3 (cj @Z1 (Ih ja))) (cj ?_ ?_)
  ·intro h h';simp[JJ,h']
  ·intro h h';simp[JJ,h']
def Ge(l:List Fac):List AT->List Fac->List Fac×Int
 |[],acc=>if 4<(acc.length:Int)then([],2)else(acc,0)
 |s::r,acc=>if(JJ l s).2=false then([],70)else if(JJ l s).1≠0 then Ge l r (acc++[⟨s,(JJ l s).1⟩])else Ge l r acc
def IL(l:List Fac):List Fac×Int:=if HX l=true then Ge l (Em [] l) []else([],1)
theorem Z6:∀(l:List Fac) (out:List AT),(Em out l).length<=out.length+l.length
 |[],out=>by simp[Em]
 |f::r,out=>by have h1:=Z6 r (B6 out f.name);grind[Ur,Em]
theorem uU(l:List Fac)(hl:l.length<=9)(he:∀f∈l,-8<=f.exp/\f.exp<=8)(hn:∀f∈l,f.name.length<=1073741824):Is mx 347 [.sl (l.map Aw)] (gp (IL l)):=by
 have hns:=tL (mx:=mx) l (by omega);have hnl:(Em [] l).length<=9:=by grind[Z6]
 generalize hng:Em [] l=ns at hns hnl;refine MX re ?_;refine OG ?_;refine lT [0] (fun i:Nat=>[(4,.i (iI i))]) (fun _=>[(2,.rows 249 2 [])]) (fun i=>i<=l.length/\HX (l.take i)=true) (fun i=>l.length-i) 0 ?_ (by simp[HX]);rintro i ⟨hi,hw⟩;by_cases ja:i<l.length
 ·have jl:=hn _ (AA ja);refine Dp (cj @Z2 (Cq ja)) (cj ?_ ?_)
  ·intro _ _;have:HX l=false:=by grind[HX]
   simp[IL,this,gp]
  ·intro h h';exact⟨i+1,⟨by omega,BR (d:=default) hw ja h'⟩,by omega,rfl⟩
 ·have e:l.take i=l:=List.take_of_length_le (by omega);rw[e]at hw;have hN:IL l=Ge l ns []:=by grind[IL]
  rw[hN];refine Dp (cj hns (Ih ja)) ?_;refine lT [0,6] (fun g:Nat×List Fac=>[(7,.ref (.sl 7 2 0 g.2.length)),(8,.i (iI g.1))]) (fun g=>[(7,.rows 249 2 (g.2.map Aw)),(2,.rows 249 2 [])]) (fun g=>g.1<=ns.length/\Ge l (ns.drop g.1) g.2=Ge l ns []/\g.2.length<=g.1) (fun g=>ns.length-g.1) (0,[]) ?_;rintro⟨k,acc⟩ ⟨hk,hN1,hal⟩;simp only at hk hN1 hal;by_cases jk:k<ns.length
  ·have c1:=uS (mx:=mx) l (ns.getD k default) hl he;rw[El jk,Ge]at hN1;generalize JJ l (ns.getD k default)=p at c1 hN1;refine A4 (cj c1 (Cq jk)) (cj ?_ (cj ?_ ?_))
   ·intro h h';rw[if_pos h']at hN1;rw[<-hN1];rfl
   ·intro _ _ h h';rw[if_neg (by rw[‹p.2=true›];simp),if_pos h']at hN1;exact⟨by simp,by simp[I.one],by omega,by omega,(k+1,acc++[⟨ns.getD k default,p.1⟩]),⟨by show k+1<=_;omega,hN1,by simp;omega⟩,by show ns.length-(k+1)<_;omega,⟨by simp,rfl⟩,by simp[Aw]⟩
   ·intro _ _ h h';rw[if_neg (by rw[‹p.2=true›];simp),if_neg (by simpa using h')]at hN1;exact⟨(k+1,acc),⟨by show k+1<=_;omega,hN1,by show acc.length<=k+1;omega⟩,by show ns.length-(k+1)<_;omega,⟨rfl,rfl⟩,rfl⟩
  ·rw[List.drop_eq_nil_of_le (by omega),Ge]at hN1;refine A4 (Ih jk) (cj ?_ ?_)
   ·intro h h';rw[if_pos h']at hN1;rw[<-hN1];rfl
   ·intro _ _;rw[if_neg (by omega)]at hN1;rw[<-hN1];rfl
def Dk(u:List Fac):List Fac:=u.map fun f=>⟨f.name,-f.exp⟩
theorem uV(u:List Fac)(hu:u.length<=1000)(he:∀f∈u,-8<=f.exp/\f.exp<=8):Is mx 348 [.sl (u.map Aw)] (.sl ((Dk u).map Aw)):=by
 refine MX sE ?_
 (repeat' first|simp(disch:=omega)only[go_sem,simprocAttr]|fail)
 refine BG [0] (by simp only[V0,MQ,reduceIte,Nat.reduceEqDiff];rfl) (fun i:Nat=>[(3,.ref (.sl 3 2 0 i)),(4,.i (iI i))]) (fun i=>[(3,.rows 249 2 ((Dk (u.take i)).map Aw)),(2,.rows 249 2 [])])
  (fun i=>i<=u.length) (fun i=>u.length-i) 0 (by omega) (by simp[V0,I9,L9,Ref.nm,Dk]) ?_
 intro i hi;have xi:(Dk (u.take i)).length=i:=by grind[Dk]
 by_cases ja:i<u.length
 ·have h8:=he _ (AA ja);have e0:IntKind.i64.wrap (0-(u.getD i default).exp)=-(u.getD i default).exp:=by grind[BH]
  have e1:IntKind.i64.wrap (-(u.getD i default).exp)=-(u.getD i default).exp:=BH (by omega) (by omega);have et:(Dk (u.take (i+1))).map Aw=(Dk (u.take i)).map Aw++[[.str (u.getD i default).name,iI (-(u.getD i default).exp)]]:=by simp only[Dk];rw[List.take_succ_eq_append_getElem ja,List.map_append,List.map_append,AS ja];rfl
  have ke:((Dk (u.take i)).map Aw).take i=(Dk (u.take i)).map Aw:=List.take_of_length_le (by simp[xi]);refine ne (cj (Cq ja) (cj e0 ke)) ?_;exact⟨by simp,by simp[I.one],by omega,by omega,i+1,by omega,by omega,⟨rfl,rfl⟩,by rw[et]⟩
 ·have e:u.take i=u:=List.take_of_length_le (by omega);rw[e]at xi⊢;have jj:(i<=(Dk u).length)=True:=eq_true (by omega);have ke:((Dk u).map Aw).take i=(Dk u).map Aw:=List.take_of_length_le (by simp[xi]);exact Hw (cj (Ih ja) (cj jj ke)) trivial
def Fy(a b:List Fac):List Fac×Int:=if BJ a≠0 then([],BJ a)else if BJ b≠0 then([],BJ b)else IL (a++b)
def Hi(a b:List Fac):List Fac×Int:=if BJ a≠0 then([],BJ a)else if BJ b≠0 then([],BJ b)else Fy a (Dk b)
theorem Z7(a b:List Fac)(ha:Af A5 a<=1073741824)(hb:Af A5 b<=1073741824):Is mx 342 [.sl (a.map Aw),.sl (b.map Aw)] (gp (Fy a b)):=by
 have la:=Ft a;have lb:=Ft b;have na:∀f∈a,f.name.length<=1073741824:=fun f hf=>by grind[Cd,A5]
 have nb:∀f∈b,f.name.length<=1073741824:=fun f hf=>by grind[Cd,A5]
 have c1:=PE (mx:=mx) a (by omega) na;have c2:=PE (mx:=mx) b (by omega) nb;by_cases h1:BJ a=0
 ·by_cases h2:BJ b=0
  ·obtain⟨a4,ae⟩:=PB h1;obtain⟨b4,be⟩:=PB h2;have c3:=uU (mx:=mx) (a++b) (by simp;omega) (fun f hf=>by rcases List.mem_append.1 hf with h|h;exact(ae f h).1.2;exact(be f h).1.2) (fun f hf=>by rcases List.mem_append.1 hf with h|h;exact na f h;exact nb f h);have hT:Fy a b=IL (a++b):=by grind[Fy]
   rw[hT];rw[List.map_append]at c3;have hra:=Bi (f:=Aw) (k:=2) a (fun _=>rfl) (fun _=>rfl);have hrb:=Bi (f:=Aw) (k:=2) b (fun _=>rfl) (fun _=>rfl);refine MX T6 ?_;have ke:(a.map Aw++b.map Aw).take (a.length+b.length)=a.map Aw++b.map Aw:=List.take_of_length_le (by simp)
   (repeat' first|simp only[go_sem,simprocAttr,h1,h2,eq_true hra.1,eq_true hra.2,eq_true hrb.1,eq_true hrb.2,Nat.zero_add,Nat.sub_zero,ke,gp,ne_eq,not_true_eq_false,decide_false]|refine Sx.s ?_ ?_<;>try(intro h;have h':=h;try simp only[HB]at h';try rewrite [h];try simp only[h])|refine Ab (c1) ?_|refine Ab (c2) ?_|refine Ab (c3) ?_|refine Ae ?_|refine Sz.s ?_|(refine And.intro ?_ ?_;focus omega))
  ·have hT:Fy a b=([],BJ b):=by simp[Fy,h1,h2]
   rw[hT];refine MX T6 ?_;refine A4 (cj c1 (cj c2 (cj h1 h2))) ?_;rfl
 ·have hT:Fy a b=([],BJ a):=by simp[Fy,h1]
  rw[hT];refine MX T6 ?_;refine A4 (cj c1 h1) ?_;rfl
theorem uW(u:List Fac):Af A5 (Dk u)=Af A5 u:=by
 induction u with
 |nil=>rfl
 |cons f r ih=>simp only[Dk,List.map_cons,Af]at ih⊢;rw[ih];rfl
theorem uX(a b:List Fac)(ha:Af A5 a<=1073741824)(hb:Af A5 b<=1073741824):Is mx 343 [.sl (a.map Aw),.sl (b.map Aw)] (gp (Hi a b)):=by
 have la:=Ft a;have lb:=Ft b;have na:∀f∈a,f.name.length<=1073741824:=fun f hf=>by grind[Cd,A5]
 have nb:∀f∈b,f.name.length<=1073741824:=fun f hf=>by grind[Cd,A5]
 have c1:=PE (mx:=mx) a (by omega) na;have c2:=PE (mx:=mx) b (by omega) nb;by_cases h1:BJ a=0
 ·by_cases h2:BJ b=0
  ·obtain⟨b4,be⟩:=PB h2;have c3:=uV (mx:=mx) b (by omega) fun f hf=>(be f hf).1.2
   have c4:=Z7 (mx:=mx) a (Dk b) ha (by rw[uW];exact hb);have hT:Hi a b=Fy a (Dk b):=by grind[Hi]
   rw[hT];refine MX T7 ?_;exact A4 (cj c1 (cj c2 (cj c3 (cj c4 (cj h1 (cj h2 @gp.eq_1)))))) trivial
  ·have hT:Hi a b=([],BJ b):=by simp[Hi,h1,h2]
   rw[hT];refine MX T7 ?_;refine A4 (cj c1 (cj c2 (cj h1 h2))) ?_;rfl
 ·have hT:Hi a b=([],BJ a):=by simp[Hi,h1]
  rw[hT];refine MX T7 ?_;refine A4 (cj c1 h1) ?_;rfl
end
section
def more(c:Cat)(ts:List Tbl)(fs:List Ftr):Cat:=⟨c.tables++ts,c.features++fs,c.drafts,c.past⟩
end
section
theorem Hj(f:Ftr):Bl f=f.name.length+f.entity.length+Ek f.typ+bX f.body+1:=rfl
theorem H1(t:Tbl):Dt t=t.name.length+t.entity.length+Af F2 t.fields+1:=rfl
theorem NT(f:Fld):F2 f=f.name.length+Ek f.typ+1:=rfl
theorem Ce(c:Cat):AP c=Af Dt c.tables+Af Bl c.features+Af Bl c.drafts+Af Bl c.past+1:=rfl
theorem H2(l:List Tbl):l.length<=Af Dt l:=IC (fun x=>by have:=H1 x;omega) l
theorem Dm(l:List Ftr):l.length<=Af Bl l:=IC (fun x=>by have:=Hj x;omega) l
theorem PF(l:List Fld):l.length<=Af F2 l:=IC (fun x=>by have:=NT x;omega) l
theorem uY{c:Cat}(h:AP c<=1073741824):Hg c:=by
 have h0:=Ce c;have h1:=H2 c.tables;have h2:=Dm c.features;refine⟨by omega,by omega,fun f hf=>?_,fun t ht=>?_⟩
 ·grind[Cd,Bl,Mk,Hj,uB]
 all_goals grind[Cd,Dt,PF,H1,F2,Mk,NT,uB]
theorem PG(l:List Val):l.length<=Af EZ l:=IC (fun x=>by unfold EZ;omega) l
theorem IM(x:Fct):Bz x=Hf x.id+x.table.length+x.key.length+Af EZ x.fields+1:=rfl
theorem GD(x:Chg):Cl x=Dt x.table+Bl x.feature+x.name.length+1:=rfl
theorem DS(x:Ent):Am x=Bz x.fact+DD x.erasure+Cl x.change+1:=rfl
theorem KW(l:List Ent):l.length<=Af Am l:=IC (fun x=>by have:=DS x;omega) l
theorem uZ{t:Tbl}{f:Fld}(h:f∈t.fields):F2 f<=Dt t:=by grind[Cd,F2,H1]
theorem Z8{t:Tbl}{f:Fld}(h:f∈t.fields):Ek f.typ<=Dt t:=by have:=uZ h;have:=NT f;omega
end
section
def Mt(x y:Fld):Bool:= !(!Mp x.typ y.typ||decide (x.name≠y.name))
def Gf(a b:Tbl):Bool:= !(decide (a.name≠b.name)||decide (a.entity≠b.entity)||decide (a.keep≠b.keep)||decide ((a.fields.length:Int)≠b.fields.length))&&eqL Mt a.fields b.fields
def GF(a b:Ftr):Bool:=Mp a.typ b.typ&&gh a.body b.body&&decide (a.name=b.name)&&decide (a.entity=b.entity)&&decide (a.version=b.version)
def Dn(a b:Fct):Bool:=(a.id.source==b.id.source&&a.id.seq==b.id.seq)&&decide (a.kind=b.kind)&&decide (a.ref=b.ref)&&decide (a.table=b.table)&&decide (a.key=b.key)&&decide (a.event=b.event)&&eqL CJ a.fields b.fields
def Mu(said:Bool)(a b:Rw):Bool:=eqL CJ a.fields b.fields&&(a.id.source==b.id.source&&a.id.seq==b.id.seq)&&decide (a.table=b.table)&&decide (a.key=b.key)&&decide (a.event=b.event)&&(!said||decide (a.no=b.no)&&decide (a.tick=b.tick))
theorem UF(a b:Tbl)(hA:Dt a<=1073741824)(hB:Dt b<=1073741824):Is mx 93 [.agg (AR a),.agg (AR b)] (.bool (Gf a b)):=by
 have hla:a.fields.length<=1073741824:=by grind[H1,PF]
 refine MX F93 ?_;refine WB (cj ?_ ?_)
 ·intro h h';exact congrArg I.bool (Rt rfl h)
 ·intro h h';have jd:a.fields.length=b.fields.length:=by omega
  rw[Ru (q:=Gf a b) rfl h];refine lS [2,3] (fun i=>[(5,.i (iI i))]) (fun _=>[]) (fun i=>eqL Mt a.fields b.fields=eqL Mt (a.fields.drop i) (b.fields.drop i)) a.fields.length ?_;intro i hi jb;by_cases ja:i<a.fields.length
  ·have jt:i<b.fields.length:=by omega
   have jh:=HU jb ja jt;have h1:=ZG (mx:=mx) (a.fields.getD i default).typ (b.fields.getD i default).typ (by have:=Mk (a.fields.getD i default).typ;have:=Z8 (AA ja);omega) (by have:=Mk (b.fields.getD i default).typ;have:=Z8 (AA jt);omega);refine Ka (cj h1 (cj (Cq ja) (Cq jt))) (cj ?_ ?_)
   ·intro h h';exact congrArg I.bool (Rt jh h)
   ·intro h h';exact Ru jh h
  ·refine Hw (Ih ja) ?_;exact congrArg I.bool (HV jb (by omega) (by omega)).symm
end
section
theorem UG(a b:Ftr)(hA:Bl a<=1073741824)(hB:Bl b<=1073741824):Is mx 94 [.agg (Ag a),.agg (Ag b)] (.bool (GF a b)):=by
 have ha:=Hj a;have hb:=Hj b;have h1:=ZG (mx:=mx) a.typ b.typ (by have:=Mk a.typ;omega) (by have:=Mk b.typ;omega);have h2:=tJ (mx:=mx) _ a.body b.body (Nat.le_refl _) (by omega) (by omega);refine MX F94 ?_
 (repeat' first|exact Av _|simp only[go_sem,simprocAttr]|refine' AD (fun hq=>?_) (fun f=>?_)<;>try(have je:=hq;try simp only[HB]at je)|refine Sx.s ?_ ?_<;>try(intro h;have h':=h;try simp only[HB]at h';try simp only[h])|refine Ab (h1) ?_|refine Ab (h2) ?_|refine Sz.s ?_|fail)
 all_goals rfl
theorem Z9(a b:Fct)(ha:a.fields.length<=1073741824)(hb:b.fields.length<=1073741824):Is mx 92 [.agg (Ap a),.agg (Ap b)] (.bool (Dn a b)):=by
 refine MX F92 ?_
 (repeat' first|exact Av _|simp only[go_sem,simprocAttr]|refine' AD (fun hq=>?_) (fun f=>?_)<;>try(have je:=hq;try simp only[HB]at je)|refine Ab (tI _ _ ha hb) ?_|refine Sz.s ?_|fail)
 all_goals rfl
theorem u7(a b:Rw)(said:Bool)(ha:a.fields.length<=1073741824)(hb:b.fields.length<=1073741824):Is mx 79 [.agg (SN a),.agg (SN b),.bool said] (.bool (Mu said a b)):=by
 refine MX F79 ?_
 (repeat' first|exact Av _|simp only[go_sem,simprocAttr]|refine' AD (fun hq=>?_) (fun f=>?_)<;>try(have je:=hq;try simp only[HB]at je)|refine' Dr (fun hq=>?_) (fun f=>?_)<;>try(have je:=hq;try simp only[HB]at je)|refine Sx.s ?_ ?_<;>try(intro h;have h':=h;try simp only[HB]at h';try simp only[h])|refine Ab (tH _ _ ha hb) ?_|refine Sz.s ?_|fail)
 all_goals rfl
theorem ab(said:Bool)(a b:List Rw)(ha:a.length<=1073741824)(hb:b.length<=1073741824)(hA:∀x∈a,x.fields.length<=1073741824)(hB:∀x∈b,x.fields.length<=1073741824):Is mx 34 [.sl (a.map SN),.sl (b.map SN),.bool said] (.bool (eqL (Mu said) a b)):=by
 refine MX F34 ?_;refine WB (cj ?_ ?_)
 ·intro _ _;exact congrArg I.bool (eqL_len (by omega)).symm
 ·intro h h';refine lS [0,1,2] (fun i=>[(7,.i (iI i))]) (fun _=>[]) (fun i=>eqL (Mu said) a b=eqL (Mu said) (a.drop i) (b.drop i)) a.length ?_ rfl;intro i hi jb;by_cases ja:i<a.length
  ·have jt:i<b.length:=by omega
   have jh:=HU jb ja jt;have hma:=AA ja;have hmb:=AA jt
   (repeat' first|simp(disch:=omega)only[go_sem,simprocAttr,Cq ja,Cq jt]|refine Sx.s ?_ ?_<;>try(intro h;have h':=h;try simp only[HB]at h';try simp only[h])|refine Ab (u7 _ _ said (hA _ hma) (hB _ hmb)) ?_|refine Ae ?_|refine AG ?_|refine Sz.s ?_|(refine And.intro ?_ ?_;focus omega))
   ·exact congrArg I.bool (JH jh h)
   ·exact IH jh h
  ·refine Hw (Ih ja) ?_;exact congrArg I.bool (HV jb (by omega) (by omega)).symm
def Mv(a b:Ent):Bool:=Dn a.fact b.fact&&Gf a.change.table b.change.table&&GF a.change.feature b.change.feature&&decide (a.no=b.no)&&decide (a.tick=b.tick)&&decide (a.kind=b.kind)&&(a.erasure.kind==b.erasure.kind&&(a.erasure.entity==b.erasure.entity&&(a.erasure.key==b.erasure.key&&(a.erasure.id.source==b.erasure.id.source&&a.erasure.id.seq==b.erasure.id.seq))))&&decide (a.change.kind=b.change.kind)&&decide (a.change.name=b.change.name)
theorem u9(a b:Ent)(hA:Am a<=1073741824)(hB:Am b<=1073741824):Is mx 64 [.agg (Ac a),.agg (Ac b)] (.bool (Mv a b)):=by
 have a1:=DS a;have a2:=IM a.fact;have a3:=GD a.change;have a4:=PG a.fact.fields;have b1:=DS b;have b2:=IM b.fact;have b3:=GD b.change;have b4:=PG b.fact.fields;have h1:=Z9 (mx:=mx) a.fact b.fact (by omega) (by omega);have h2:=UF (mx:=mx) a.change.table b.change.table (by omega) (by omega);have h3:=UG (mx:=mx) a.change.feature b.change.feature (by omega) (by omega);refine MX F64 ?_
 (repeat' first|exact Av _|simp only[go_sem,simprocAttr]|refine' AD (fun hq=>?_) (fun f=>?_)<;>try(have je:=hq;try simp only[HB]at je)|refine Sx.s ?_ ?_<;>try(intro h;have h':=h;try simp only[HB]at h';try simp only[h])|refine Ab (h1) ?_|refine Ab (h2) ?_|refine Ab (h3) ?_|refine Sz.s ?_|fail)
 all_goals rfl
theorem vA(a b:List Ent)(ha:a.length<=1073741824)(hb:b.length<=1073741824)(hA:∀x∈a,Am x<=1073741824)(hB:∀x∈b,Am x<=1073741824):Is mx 18 [.sl (a.map Ac),.sl (b.map Ac)] (.bool (eqL Mv a b)):=by
 refine MX F18 ?_;refine WB (cj ?_ ?_)
 ·intro _ _;exact congrArg I.bool (eqL_len (by omega)).symm
 ·intro h h';refine lS [0,1] (fun i=>[(5,.i (iI i))]) (fun _=>[]) (fun i=>eqL Mv a b=eqL Mv (a.drop i) (b.drop i)) a.length ?_ rfl;intro i hi jb;by_cases ja:i<a.length
  ·have jt:i<b.length:=by omega
   have jh:=HU jb ja jt;have hma:=AA ja;have hmb:=AA jt
   (repeat' first|simp(disch:=omega)only[go_sem,simprocAttr,Cq ja,Cq jt]|refine Sx.s ?_ ?_<;>try(intro h;have h':=h;try simp only[HB]at h';try simp only[h])|refine Ab (u9 _ _ (hA _ hma) (hB _ hmb)) ?_|refine Ae ?_|refine AG ?_|refine Sz.s ?_|(refine And.intro ?_ ?_;focus omega))
   ·exact congrArg I.bool (JH jh h)
   ·exact IH jh h
  ·refine Hw (Ih ja) ?_;exact congrArg I.bool (HV jb (by omega) (by omega)).symm
end
section
theorem UH(b:UInt8)(l sub:AT):Lib.contains (b::l) sub=(sub.isPrefixOf (b::l)||Lib.contains l sub):=by simp only[Lib.contains,Lib.index];grind
theorem UI(p:AT):∀(k rest:AT),(∀b∈k,b≠32)->Lib.contains (k++rest) (32::p)=Lib.contains rest (32::p)
 |[],rest,_=>rfl
 |b::k,rest,h=>by have h1:=h b (by simp);rw[List.cons_append,UH,UI p k rest fun c hc=>h c (by simp[hc])];grind
theorem ac:∀(s k rest:AT),(∀b∈s,b≠32)->(∀b∈k,b≠32)->(s++[32]).isPrefixOf (k++32::rest)=decide (s=k)
 |[],[],rest,_,_=>by rfl
 |[],c::k,rest,_,h=>by grind
 |b::s,[],rest,h,_=>by grind
 |b::s,c::k,rest,h,h'=>by simp only[List.cons_append,List.isPrefixOf];rw[ac s k rest (fun x hx=>h x (by simp[hx])) fun x hx=>h' x (by simp[hx])];grind
def NU:List AT->AT
 |[]=>[32]
 |k::r=>32::(k++NU r)
theorem vB:∀l,∃r,NU l=32::r
 |[]=>⟨[],rfl⟩
 |k::r=>⟨_,rfl⟩
theorem ad(s:AT)(hs:∀b∈s,b≠32):∀l:List AT,(∀k∈l,∀b∈k,b≠32)->Lib.contains (NU l) (32::(s++[32]))=l.any fun k=>decide (s=k)
 |[],_=>by simp only[NU,List.any_nil,UH];have:Lib.contains [] (32::(s++[32]))=false:=rfl;simp_all
 |k::l,h=>by have hk:=h k (by simp);simp only[NU,List.any_cons,UH];rw[UI _ k _ hk,ad s hs l fun k hk=>h k (by simp[hk])];obtain⟨r,hr⟩:=vB l;grind[ac]
theorem vC:Ua=NU RE:=by decide
theorem vD(c:UInt8)(h:wc c=true):c≠32:=by rintro rfl;revert h;decide
theorem vE{s:AT}(h:B5 s=true):∀b∈s,b≠32:=by grind[B5,vD]
theorem vF(c:UInt8):wcb c=wc c:=by grind[wcb,wc,lc,dg]
theorem af(p:UInt8->Bool):∀r:AT,((r.takeWhile p).length=r.length)↔r.all p=true
 |[]=>by simp
 |c::r=>by
  rw[List.takeWhile_cons,List.all_cons];by_cases h:p c=true
  ·rw[if_pos h];simp[af p r,h]
  all_goals grind
theorem vG(s:AT):(decide (s≠[])&&decide (s.length<=24)&&decide (IJ s=s.length))=B5 s:=by
 cases s with
 |nil=>rfl
 |cons c r=>grind[lc,wc,wcb,vF,B5,IJ,af]
theorem Hk(s:AT):Di s=CQ s:=by
 unfold Di CQ;rw[vG];cases h:B5 s with
 |false=>rfl
 |true=>
  have hs:=vE h;have h0:s≠[]:=by rintro rfl;cases h
  have h1:Lib.contains s [32]=false:=by have:=UI [] s [] hs;rw[List.append_nil]at this;rw[this];rfl
  simp_all[Rj,RF,vC,ad,RE]
def E4(t:Typ):Int:=
 if(decide (t.kind<1)||decide (5<t.kind))=true then 3
 else if((decide (t.kind=5)&&!Di t.of)||(decide (t.kind≠5)&&decide (t.of≠[]))||(!C7 t&&decide (0<t.unit.length)))=true then 3
 else if BJ t.unit≠0 then 70 else if t.unit.any (fun f=>!Di f.name)=true then 70 else 0
theorem RG(t:Typ):E4 t=JD t:=by have hn:CQ []=false:=rfl;grind[E4,JD,ty1,ty2,ty3,Hk,CQ]
def IN:List Fld->List Fld->Int
 |_,[]=>0
 |seen,f::r=>if(!Di f.name)=true then 3 else if(seen.any fun g=>decide (g.name=f.name))=true then 121 else if E4 f.typ≠0 then E4 f.typ else IN (seen++[f]) r
def GH(t:Tbl):Int:=
 if(!Di t.name||!Di t.entity||decide (t.keep<0)||decide (1099511627776<t.keep))=true then 3 else if 8<t.fields.length then 2 else IN [] t.fields
theorem ai:∀(l seen:List Fld),IN seen l=KV seen l
 |[],_=>rfl
 |f::r,seen=>by simp only[IN,KV,Hk,RG,ai r]
theorem vH(t:Tbl):GH t=Ms t:=by simp[GH,Ms,Hk,ai]
end
section
theorem RH(t:Typ):Is mx 255 [.agg (Ar t)] (.bool (C7 t)):=by
 refine MX qM ?_;refine WB ?_
 all_goals intros
 all_goals(refine congrArg I.bool ?_;(try simp only[C7]);(first|rfl|(simp_all;done)|(rw[Bool.eq_iff_iff];simp_all;done)|(rw[Bool.eq_iff_iff];simp_all;omega)))
theorem RI(t:Typ)(ht:t.unit.length<=1073741824)(hn:∀x∈t.unit,x.name.length<=1073741824):Is mx 208 [.agg (Ar t)] (iI (E4 t)):=by
 refine MX qD ?_
 (repeat' first|exact Av _|simp(disch:=omega)only[go_sem,simprocAttr]|refine' AD (fun hq=>?_) (fun f=>?_)<;>try(have je:=hq;try simp only[HB]at je)|refine' Dr (fun hq=>?_) (fun f=>?_)<;>try(have je:=hq;try simp only[HB]at je)|refine Sx.s ?_ ?_<;>try(intro h;have h':=h;try simp only[HB]at h';try rewrite [h];try simp only[h])|refine Ab (RH t) ?_|refine Ab (IK _) ?_|refine Ab (PE _ ht hn) ?_|refine Ae ?_|refine Sz.s ?_|fail)
 all_goals try(refine congrArg (I.int .i64) ?_;simp only[E4];grind)
 have hR:E4 t=if t.unit.any (fun f=>!Di f.name)=true then 70 else 0:=by grind[E4]
 rw[hR];refine lS [1] (fun i=>[(3,.i (iI i))]) (fun _=>[]) (fun i=>(t.unit.take i).all (fun f=>Di f.name)=true) t.unit.length ?_;intro i hi jb;by_cases ja:i<t.unit.length
 ·refine Ka (cj @IK (Cq ja)) (cj ?_ ?_)
  ·intro _ _;refine congrArg (I.int .i64) ?_;have:t.unit.any (fun f=>!Di f.name)=true:=by grind
   rw[if_pos this]
  ·intro _ _;exact BR jb ja (by simpa using ‹_›)
 ·have e:i=t.unit.length:=by omega
  subst e;rw[List.take_length]at jb;refine Hw (Ih ja) ?_;refine congrArg (I.int .i64) ?_;rw[if_neg];rw[List.all_eq_true]at jb;simp only[List.any_eq_true,not_exists,not_and];intro x hx;simp[jb x hx]
theorem vI{α:Type}[Inhabited α](p:α->Bool)(l:List α)(i:Nat)(hi:i<l.length):(l.take (i+1)).any p=((l.take i).any p||p (l.getD i default)):=by rw[List.take_succ_eq_append_getElem hi,List.any_append,AS hi];simp
theorem vJ(t:Tbl)(ht:∀x∈t.fields,Ek x.typ<=1073741824)(hl:t.fields.length<=1073741824):Is mx 207 [.agg (AR t)] (iI (GH t)):=by
 refine MX pf ?_
 (repeat' first|exact Av _|simp(disch:=omega)only[go_sem,simprocAttr]|refine' AD (fun hq=>?_) (fun f=>?_)<;>try(have je:=hq;try simp only[HB]at je)|refine Sx.s ?_ ?_<;>try(intro h;have h':=h;try simp only[HB]at h';try rewrite [h];try simp only[h])|refine Ab (IK _) ?_|refine Ae ?_|refine Sz.s ?_|fail)
 ·refine congrArg (I.int .i64) ?_;simp only[GH];grind
 ·refine congrArg (I.int .i64) ?_;simp only[GH];grind
 have hT:GH t=IN [] t.fields:=by grind[GH]
 rw[hT];refine lS [1] (fun i=>[(3,.i (iI i))]) (fun _=>[]) (fun i=>IN (t.fields.take i) (t.fields.drop i)=IN [] t.fields) t.fields.length ?_;intro i hi jb;by_cases ja:i<t.fields.length
 ·have kl:=AA ja;rw[List.drop_eq_getElem_cons ja,<-AS ja]at jb;simp only[IN]at jb;have ke:t.fields.take (i+1)=t.fields.take i++[t.fields.getD i default]:=by simp_all
  (repeat' first|simp(disch:=omega)only[go_sem,simprocAttr,Cq ja]|refine Sx.s ?_ ?_<;>try(intro h;have h':=h;try simp only[HB]at h';try rewrite [h];try simp only[h])|refine Ab (IK _) ?_|refine Ae ?_|refine Sz.s ?_|fail)
  ·refine congrArg (I.int .i64) ?_;grind
  have qw:(if((t.fields.take i).any fun g=>decide (g.name=(t.fields.getD i default).name))=true then 121 else if E4 (t.fields.getD i default).typ≠0 then E4 (t.fields.getD i default).typ else IN (t.fields.take i++[t.fields.getD i default]) (t.fields.drop (i+1)))=IN [] t.fields:=by grind
  refine lS [1,3] (fun k=>[(4,.i (iI k))]) (fun _=>[]) (fun k=>((t.fields.take k).any fun g=>decide (g.name=(t.fields.getD i default).name))=false) i ?_;intro k hk hinv3;by_cases jk:k<i
  ·have hkl:k<t.fields.length:=by omega
   have j9:((t.fields.getD k default).name=(t.fields.getD i default).name)->((t.fields.take i).any fun g=>decide (g.name=(t.fields.getD i default).name))=true:=fun e=>by rw[List.any_eq_true];refine⟨t.fields.getD k default,?_,by simpa using e⟩;rw[AS hkl];exact List.mem_take_iff_getElem.2 ⟨k,by omega,rfl⟩
   refine Ka (cj (Cq jk) (cj (Cq hkl) (Cq ja))) (cj ?_ ?_)
   ·intro h h';rw[if_pos (j9 h')]at qw;rw[qw]
   ·intro h h';rw[vI _ _ _ hkl,hinv3];exact h
  ·have e:k=i:=by omega
   subst e;rw[if_neg (by rw[hinv3];simp)]at qw;have hty:=RI (mx:=mx) (t.fields.getD k default).typ (by have:=Mk (t.fields.getD k default).typ;have:=ht _ kl;omega) (fun x hx=>by have h1:=ht _ kl;have h2:=Cd (b:=A5) hx;have h3:A5 x=x.name.length+1:=rfl;have h4:Ek (t.fields.getD k default).typ=Af A5 (t.fields.getD k default).typ.unit+(t.fields.getD k default).typ.of.length+1:=rfl;omega);refine Ka (cj hty (cj (Ih jk) (Cq ja))) (cj ?_ ?_)
   ·intro h h';rw[if_pos h']at qw;rw[qw]
   ·intro h h';rw[ke];rw[if_neg (not_not_intro h')]at qw;exact qw
 ·have e:i=t.fields.length:=by omega
  subst e;rw[List.drop_length]at jb;refine Hw (Ih ja) ?_;rw[<-jb];rfl
end
section
def RJ(v:Val)(t:Typ):Bool:=decide (F0 v=0)&&(decide (v.kind=0)||decide (v.kind=t.kind))
theorem vK(v:Val)(t:Typ):Is mx 67 [.agg (Bn v),.agg (Ar t)] (.bool (RJ v t)):=by
 refine MX F67 ?_;refine Dp @Ud ?_
 all_goals intros
 all_goals(refine congrArg I.bool ?_;simp only[RJ];try grind)
end
section
theorem aj(s:AT)(low:Int)(hs:s.length<=1073741824):Is mx 179 [.str s,.int .u8 low] (.bool (!s.any (CI low))):=by
 refine MX p6 ?_;refine OG ?_;refine lS [0,1] (fun i=>[(5,.i (iI i))]) (fun _=>[]) (fun i=>(s.take i).all (fun c=>!CI low c)=true) s.length ?_;intro i hi jb;by_cases ja:i<s.length
 ·refine Ka (Cq ja) (cj ?_ ?_)
  ·intro h h';have:s.any (CI low)=true:=by rw[List.any_eq_true];exact⟨_,AA ja,h⟩
   rw[this];rfl
  ·intro h h';exact BR (d:=default) jb ja (by rw[show CI low (s.getD i default)=false from h];rfl)
 ·refine Hw (Ih ja) ?_;have e:i=s.length:=by omega
  rw[e,List.take_length]at jb;have:s.any (CI low)=false:=by grind
  rw[this];rfl
def UJ(s:AT):Bool:=decide ((s.length:Int)<=64)&&!s.any (CI 32)
def Mw(s:AT):Bool:=decide (s≠[])&&decide ((s.length:Int)<=32)&&!s.any (CI 33)
theorem vL(s:AT)(hs:s.length<=1073741824):Is mx 224 [.str s] (.bool (UJ s)):=by
 refine MX qF ?_
 (repeat' first|exact Av _|simp(disch:=omega)only[go_sem,simprocAttr]|refine' AD (fun hq=>?_) (fun f=>?_)<;>try(have je:=hq;try simp only[HB]at je)|refine Ab (aj s 32 hs) ?_|refine Sz.s ?_|fail)
 all_goals rfl
theorem ak(s:AT)(hs:s.length<=1073741824):Is mx 121 [.str s] (.bool (Mw s)):=by
 refine MX oM ?_
 (repeat' first|exact Av _|simp(disch:=omega)only[go_sem,simprocAttr]|refine' AD (fun hq=>?_) (fun f=>?_)<;>try(have je:=hq;try simp only[HB]at je)|refine Ab (aj s 33 hs) ?_|refine Sz.s ?_|fail)
 all_goals rfl
def PH(v:Val):Bool:=
 if v.kind=0 then decide (v.n=0)&&decide (v.s=[])
 else if v.kind=1 then(decide (v.n=0)||decide (v.n=1))&&decide (v.s=[])
 else if v.kind=2\/v.kind=3 then decide (v.s=[])
 else if v.kind=4\/v.kind=5 then decide (v.n=0)
 else false
theorem vM(v:Val):Is mx 222 [.agg (Bn v)] (.bool (PH v)):=by
 refine MX nU ?_
 (repeat' first|exact Av _|simp(disch:=omega)only[go_sem,simprocAttr]|refine' AD (fun hq=>?_) (fun f=>?_)<;>try(have je:=hq;try simp only[HB]at je)|refine Sx.s ?_ ?_<;>try(intro h;have h':=h;try simp only[HB]at h';try rewrite [h];try simp only[h])|refine Ae ?_|refine Sz.s ?_|fail)
 all_goals(refine congrArg I.bool ?_;simp only[PH];grind)
def inR(n:Int):Bool:=decide (-1152921504606846976<=n)&&decide (n<=1152921504606846976)
theorem vN(n:Int):Is mx 223 [iI n] (.bool (inR n)):=by
 refine MX ph ?_
 (repeat' first|exact Av _|simp(disch:=omega)only[go_sem,simprocAttr]|refine' AD (fun hq=>?_) (fun f=>?_)<;>try(have je:=hq;try simp only[HB]at je)|refine Sz.s ?_|fail)
 all_goals rfl
def ck5(v:Val):Int:=
 if(!PH v)=true then 1
 else if(!inR v.n||decide (v.kind=4)&&decide (64<(v.s.length:Int))||decide (v.kind=5)&&decide (32<(v.s.length:Int)))=true then 2
 else if(decide (v.kind=4)&&!UJ v.s||decide (v.kind=5)&&!Mw v.s)=true then 3
 else 0
theorem vO(v:Val)(hs:v.s.length<=1073741824):Is mx 180 [.agg (Bn v)] (iI (ck5 v)):=by
 refine MX rL ?_
 (repeat' first|exact Av _|simp(disch:=omega)only[go_sem,simprocAttr]|refine' AD (fun hq=>?_) (fun f=>?_)<;>try(have je:=hq;try simp only[HB]at je)|refine' Dr (fun hq=>?_) (fun f=>?_)<;>try(have je:=hq;try simp only[HB]at je)|refine Sx.s ?_ ?_<;>try(intro h;have h':=h;try simp only[HB]at h';try rewrite [h];try simp only[h])|refine Ab (vM v) ?_|refine Ab (vN _) ?_|refine Ab (vL _ hs) ?_|refine Ab (ak _ hs) ?_|refine Ae ?_|refine Sz.s ?_|fail)
 all_goals(refine congrArg (I.int .i64) ?_;simp only[ck5];grind)
theorem am(v:Val):ck5 v=F0 v:=by
 simp only[ck5,F0,PH,inR,UJ,Mw,NE,Pq,neS,eqS];by_cases h0:v.kind=0
 ·simp[h0];try grind
 by_cases h1:v.kind=1
 ·simp[h1];try grind
 by_cases h2:v.kind=2
 ·simp[h2];try grind
 by_cases h3:v.kind=3
 ·simp[h3];try grind
 by_cases h4:v.kind=4
 ·simp[h4];try grind
 by_cases h5:v.kind=5
 ·simp[h5];try grind
 have:v.kind<0\/5<v.kind:=by omega
 simp[h0,h1,h2,h3,h4,h5,this]
theorem ao(v:Val)(hs:v.s.length<=1073741824):Is mx 180 [.agg (Bn v)] (iI (F0 v)):=by rw[<-am];exact vO v hs
theorem vQ(v:Val)(hs:v.s.length<=1073741824):Is mx 122 [.agg (Bn v)] (.bool (decide (F0 v=0))):=by refine MX pR ?_;exact Dp @ao trivial
theorem vR(v:Val)(t:Typ)(hs:v.s.length<=1073741824):Is mx 91 [.agg (Bn v),.agg (Ar t)] (.bool (RJ v t)):=by
 refine MX F91 ?_
 (repeat' first|exact Av _|simp(disch:=omega)only[go_sem,simprocAttr]|refine' AD (fun hq=>?_) (fun f=>?_)<;>try(have je:=hq;try simp only[HB]at je)|refine' Dr (fun hq=>?_) (fun f=>?_)<;>try(have je:=hq;try simp only[HB]at je)|refine Sx.s ?_ ?_<;>try(intro h;have h':=h;try simp only[HB]at h';try rewrite [h];try simp only[h])|refine Ab (vQ _ hs) ?_|refine Sz.s ?_|fail)
 all_goals rfl
end
section
theorem PI(l:List AT)(x:AT)(hl:l.length<=1073741824):Is mx 323 [.str x,.sl (l.map fun s=>[.str s])] (.bool (BA l x)):=by
 refine MX ow ?_;refine OG ?_;refine lS [0,1] (fun i=>[(5,.i (iI i))]) (fun _=>[]) (fun i=>(l.take i).all (fun y=>!decide (x=y))=true) l.length ?_;intro i hi jb;by_cases ja:i<l.length
 ·refine Ka (Cq ja) (cj ?_ ?_)
  ·intro _ _;have:BA l x=true:=by grind[BA]
   rw[this]
  ·intro h h';exact BR (d:=default) jb ja (by simp only[decide_eq_false_iff_not]at h;simpa using fun e=>h e.symm)
 ·refine Hw (Ih ja) ?_;have e:i=l.length:=by omega
  rw[e,List.take_length]at jb;have:BA l x=false:=by grind[BA]
  rw[this]
theorem vS:∀(m:Nat) (x:Xpr),Bs x<=m->Bs x<=1073741824->Is mx 257 [.agg (eE x)] (iI (Bs x)):=by
 intro m
 induction m with
 |zero=>intro x h;have:=Ej x;omega
 |succ m ih=>
  intro x hm hb;have j0:=Ej x;have jd:=ND x.args;refine MX n7 ?_;refine OG ?_;refine DQ [1] (by simp only[V0,MQ,reduceIte,Nat.reduceEqDiff];rfl) (fun i=>[(4,.i (iI i)),(3,.i (iI ((sizeXs (x.args.take i)+1:Nat):Int)))]) (fun _=>[]) (fun _=>True) x.args.length 0 (by omega) trivial ?_ ?_
  ·simp[V0,I9,L9,sizeXs]
  ·intro i hi _;have jj:=Fr x.args (i+1);have hle0:=Fr x.args i;by_cases ja:i<x.args.length
   ·have hsi:=Hd x.args i ja;have jn:=Fs x.args[i];rw[<-AS ja]at hsi jn;have i1:=ih (x.args.getD i default) (by omega) (by omega);refine Ka (cj i1 (Cq ja)) ?_;refine congrArg (fun n=>D.i (I.int .i64 n)) ?_;omega
   ·refine Hw (Ih ja) ?_;refine congrArg (I.int .i64) ?_;have e:i=x.args.length:=by omega
    rw[e,List.take_length];omega
theorem vT:∀(m:Nat) (x:Xpr),Bs x<=m->Bs x<=1073741824->Is mx 258 [.agg (eE x)] (iI (JE x)):=by
 intro m
 induction m with
 |zero=>intro x h;have:=Ej x;omega
 |succ m ih=>
  intro x hm hb;have j0:=Ej x;have jd:=ND x.args;have wu:=depths_sizes x.args;have hda:=Zj x;refine MX pr ?_;refine OG ?_;refine DQ [1] (by simp only[V0,MQ,reduceIte,Nat.reduceEqDiff];rfl) (fun i=>[(4,.i (iI i)),(3,.i (iI ((depthXs (x.args.take i):Nat):Int)))]) (fun _=>[]) (fun _=>True) x.args.length 0 (by omega) trivial ?_ ?_
  ·simp[V0,I9,L9,depthXs]
  ·intro i hi _;have jj:=Fr x.args (i+1);by_cases ja:i<x.args.length
   ·have hsi:=Hd x.args i ja;have hdi:=Zi x.args i ja;have jn:=Fs x.args[i];rw[<-AS ja]at hsi hdi jn;have i1:=ih (x.args.getD i default) (by omega) (by omega);refine Ka (cj i1 (Cq ja)) ?_;refine congrArg (fun n=>D.i (I.int .i64 n)) ?_;split<;>omega
   ·refine Hw (Ih ja) ?_;have e:i=x.args.length:=by omega
    subst e;rw[List.take_length];refine congrArg (I.int .i64) ?_;rw[BH (by omega) (by omega)];omega
def Fz(a b:Xpr):Bool:=decide (a.kind=b.kind)&&decide (a.op=b.op)&&decide (a.name=b.name)&&decide (a.table=b.table)&&CJ a.val b.val&&decide (a.unit=b.unit)&&decide (a.param=b.param)&&(a.win.kind==b.win.kind&&a.win.size==b.win.size)
theorem PJ(a b:Xpr)(ha:a.unit.length<=1073741824)(hb:b.unit.length<=1073741824):Is mx 320 [.agg (eE a),.agg (eE b)] (.bool (Fz a b)):=by
 refine MX pD ?_
 (repeat' first|exact Av _|simp only[go_sem,simprocAttr]|refine' AD (fun hq=>?_) (fun f=>?_)<;>try(have je:=hq;try simp only[HB]at je)|refine Ab (RC _ _ ha hb) ?_|refine Sz.s ?_|fail)
 all_goals rfl
theorem vU:∀(m:Nat) (a b:Xpr),Bs a<=m->bX a<=1073741824->bX b<=1073741824->Is mx 288 [.agg (eE a),.agg (eE b)] (.bool (gh a b)):=by
 intro m
 induction m with
 |zero=>intro a b h;have:=Fs a;omega
 |succ m ih=>
  intro a b hm hA hB;have hua:a.unit.length<=1073741824:=by grind[ID]
  have hub:b.unit.length<=1073741824:=by grind[ID]
  have hla:a.args.length<=1073741824:=by grind[Mh]
  have j0:=Ej a;have hE:gh a b=(!(!Fz a b||decide ((a.args.length:Int)≠b.args.length))&&eqL gh a.args b.args):=by grind[Px,Fz,Uq,ZD]
  refine MX qT ?_;refine Dp @PJ (cj ?_ ?_)
  ·intro h h';exact congrArg I.bool (Rt hE h)
  ·intro h h';have jd:a.args.length=b.args.length:=by omega
   rw[Ru hE h];refine lS [2,3] (fun i=>[(5,.i (iI i))]) (fun _=>[]) (fun i=>eqL gh a.args b.args=eqL gh (a.args.drop i) (b.args.drop i)) a.args.length ?_;intro i hi jb;by_cases ja:i<a.args.length
   ·have jt:i<b.args.length:=by omega
    have jh:=HU jb ja jt;have h1:=ih (a.args.getD i default) (b.args.getD i default) (by have:=Hd a.args i ja;have:=Fr a.args (i+1);rw[AS ja];omega) (by have:=Fu (AA ja);omega) (by have:=Fu (AA jt);omega);refine Ka (cj h1 (cj (Cq ja) (Cq jt))) (cj ?_ ?_)
    ·intro h h';exact congrArg I.bool (JH jh h)
    ·intro h h';exact IH jh h
   ·refine Hw (Ih ja) ?_;exact congrArg I.bool (HV jb (by omega) (by omega)).symm
theorem ap:Is mx 289 [] (.agg (eE Fw)):=by
 refine MX sv ?_
 (repeat' first|simp only[go_sem,simprocAttr]|refine Sz.s ?_|fail)
 all_goals rfl
theorem vV:Is mx 339 [] (.sl (IA.map fun s=>[.str s])):=by
 refine MX sD ?_
 (repeat' first|simp only[go_sem]|refine Sz.s ?_|fail)
 all_goals rfl
theorem vW:Is mx 324 [] (.sl (IB.map fun s=>[.str s])):=by
 refine MX pE ?_
 (repeat' first|simp only[go_sem]|refine Sz.s ?_|fail)
 all_goals rfl
def PK(x:Xpr):Bool:=decide (F0 x.val=0)&&!decide (x.val.n<0)&&decide (E4 ⟨x.val.kind,x.unit,x.name⟩=0)&&Fz x (.mk 1 [] x.name [] x.val x.unit 0 Fv [])
theorem vX(x:Xpr)(hx:bX x<=1073741824):Is mx 321 [.agg (eE x)] (.bool (PK x)):=by
 have e1:=HQ x;have e2:=ID x;have h1:=ao (mx:=mx) x.val (by unfold EZ at e1;omega);have h2:=RI (mx:=mx) ⟨x.val.kind,x.unit,x.name⟩ (by show x.unit.length<=_;omega) (fun y hy=>by have h1:=Cd (b:=A5) (l:=x.unit) hy;have h2:A5 y=y.name.length+1:=rfl;omega);have h3:=PJ (mx:=mx) x (.mk 1 [] x.name [] x.val x.unit 0 Fv []) (by omega) (by show x.unit.length<=_;omega);refine MX qX ?_;refine Dp (cj h1 (cj h2 h3)) (cj ?_ ?_)
 ·intro _ _;refine congrArg I.bool ?_;simp only[PK];grind
 ·intro _ _;refine congrArg I.bool ?_;simp only[PK];grind
def PL(w:Win):Bool:=if w.kind=1 then decide (w.size=0)else decide (1<w.kind)&&decide (w.kind<=4)&&decide (1<=w.size)&&decide (w.size<=1099511627776)
theorem vY(w:Win):Is mx 340 [.agg (Gx w)] (.bool (PL w)):=by
 refine MX oB ?_
 (repeat' first|exact Av _|simp only[go_sem,simprocAttr]|refine' AD (fun hq=>?_) (fun f=>?_)<;>try(have je:=hq;try simp only[HB]at je)|refine Sx.s ?_ ?_<;>try(intro h;have h':=h;try simp only[HB]at h';try simp only[h])|refine Ae ?_|refine Sz.s ?_|fail)
 all_goals(refine congrArg I.bool ?_;simp only[PL];grind)
def JK(op:AT):Int:=if op=He then 1073741824 else if op=JG then 1000 else 0
def PM(x:Xpr):Bool:=BA IA x.op&&Di x.table&&PL x.win&&!decide (JK x.op<x.param)&&!decide (x.param<(if JK x.op<=1 then JK x.op else 1))&&Fz x (.mk 5 x.op [] x.table F1 [] x.param x.win [])
theorem vZ(x:Xpr)(hx:bX x<=1073741824):Is mx 322 [.agg (eE x)] (.bool (PM x)):=by
 have e2:=ID x;have h1:=PI (mx:=mx) IA x.op (by decide);have h2:=IK (mx:=mx) x.table;have h3:=PJ (mx:=mx) x (.mk 5 x.op [] x.table F1 [] x.param x.win []) (by omega) (by show 0<=_;omega);refine MX sB ?_
 (repeat' first|exact Av _|simp only[go_sem,simprocAttr]|refine' Dr (fun hq=>?_) (fun f=>?_)<;>try(have je:=hq;try simp only[HB]at je)|refine Sx.s ?_ ?_<;>try(intro h;have h':=h;try simp only[HB]at h';try simp only[h])|refine Ab (vV) ?_|refine Ab (h1) ?_|refine Ab (h2) ?_|refine Ab (vY _) ?_|refine Ab (h3) ?_|refine Ae ?_|refine AG ?_|refine Sz.s ?_|fail)
 all_goals(refine congrArg I.bool ?_;simp only[PM,JK,He,JG];first|done|(grind(splits:=20)))
theorem wA{a c:Int}{b d:Bool}(h:a=c)(k:b=d):I.tup [iI a,.bool b]=I.tup [iI c,.bool d]:=by rw[h,k]
def GJ(k:Int):Int:=if k=4\/k=6 then 1 else if k=5\/k=7\/k=9 then 2 else if k=8 then 3 else 0
def NV(x:Xpr):Bool:=Di x.name&&Fz x (.mk x.kind [] x.name [] F1 [] 0 Fv [])
def KX(x:Xpr):Bool:=Fz x (.mk x.kind x.op [] [] F1 [] 0 Fv [])
def GK(x:Xpr)(inside:Bool):Bool:=
 if x.kind=1 then PK x
 else if x.kind=2 then inside&&NV x
 else if x.kind=3\/x.kind=4 then !inside&&NV x
 else if x.kind=5 then !inside&&PM x
 else if x.kind=6 then KX x&&BA JC x.op
 else if x.kind=7 then KX x&&BA IB x.op
 else if x.kind=8\/x.kind=9 then KX x&&decide (x.op=[])
 else false
theorem wB(x:Xpr)(inside:Bool)(hx:bX x<=1073741824):Is mx 287 [.agg (eE x),.bool inside] (.tup [iI (GJ x.kind),.bool (GK x inside)]):=by
 have e2:=ID x;have h1:=PJ (mx:=mx) x (.mk x.kind [] x.name [] F1 [] 0 Fv []) (by omega) (by show 0<=_;omega);have h2:=PJ (mx:=mx) x (.mk x.kind x.op [] [] F1 [] 0 Fv []) (by omega) (by show 0<=_;omega);have h3:=PI (mx:=mx) JC x.op (by decide);have h4:=PI (mx:=mx) IB x.op (by decide);refine MX pz ?_
 (repeat' first|exact Av _|simp only[go_sem,simprocAttr]|refine' AD (fun hq=>?_) (fun f=>?_)<;>try(have je:=hq;try simp only[HB]at je)|refine' Dr (fun hq=>?_) (fun f=>?_)<;>try(have je:=hq;try simp only[HB]at je)|refine Sx.s ?_ ?_<;>try(intro h;have h':=h;try simp only[HB]at h';try simp only[h])|refine Ab (IK _) ?_|refine Ab (h1) ?_|refine Ab (h2) ?_|refine Ab (h3) ?_|refine Ab (h4) ?_|refine Ab (vX x hx) ?_|refine Ab (vZ x hx) ?_|refine Ab (vW) ?_|refine Ae ?_|refine AG ?_|refine Sz.s ?_|fail)
 all_goals(refine wA ?_ ?_<;>(simp only[GJ,GK,NV,KX];first|done|(grind(splits:=20))))
def E5(x:Xpr)(inside:Bool):Bool:=inside||decide (x.kind=5)
def NW(x:Xpr):Bool:=decide (x.kind≠5)||decide (x.op≠HR)||gh (x.args.getD 0 default) Fw
mutual
def FA:Xpr->Bool->Bool
 |.mk k o n t v u p w a,inside=>(GK (.mk k o n t v u p w a) inside&&decide ((a.length:Int)=GJ k))&&(formRs a (inside||decide (k=5))&&NW (.mk k o n t v u p w a))
def formRs:List Xpr->Bool->Bool
 |[],_=>true
 |x::r,inside=>FA x inside&&formRs r inside
end
theorem PN(x:Xpr)(inside:Bool):FA x inside=((GK x inside&&decide ((x.args.length:Int)=GJ x.kind))&&(formRs x.args (E5 x inside)&&NW x)):=by cases x;simp only[FA,E5,Xpr.kind,Xpr.args];rfl
theorem wC:∀(m:Nat) (x:Xpr) (inside:Bool),Bs x<=m->bX x<=1073741824->Is mx 259 [.agg (eE x),.bool inside] (.bool (FA x inside)):=by
 intro m
 induction m with
 |zero=>intro x _ h;have:=Fs x;omega
 |succ m ih=>
  intro x inside hm hx;have hla:x.args.length<=1073741824:=by grind[Mh]
  have j0:=Ej x;have hF:=PN x inside;refine MX qN ?_;refine Dp (wB x inside hx) (cj ?_ ?_)
  ·intro h h';refine congrArg I.bool ?_;rw[hF];rcases h' with e|e<;>simp[e]
  ·intro h h';obtain⟨hn,hl⟩:=h';have hF2:FA x inside=(formRs x.args (E5 x inside)&&NW x):=by grind
   have hi5:∀b:Bool,b=decide (x.kind=5)->(inside||b)=E5 x inside:=fun b e=>by rw[e];rfl
   refine lS [1,2,5] (fun i=>[(7,.i (iI i))]) (fun _=>[]) (fun i=>formRs x.args (E5 x inside)=formRs (x.args.drop i) (E5 x inside)) x.args.length ?_;intro i hi jb;by_cases ja:i<x.args.length
   ·have hsi:=Hd x.args i ja;have qi:=Fr x.args (i+1);have h1:=ih (x.args.getD i default) (E5 x inside) (by rw[AS ja];omega) (by have:=Fu (AA ja);omega);have hiT:((i:Int)<GJ x.kind)=True:=eq_true (by omega);rw[El ja,formRs]at jb
    (repeat' first|exact Av _|simp(disch:=omega)only[go_sem,simprocAttr,Cq ja,hiT]|refine' Dr (fun hq=>?_) (fun f=>?_)<;>try(have je:=hq;try simp only[HB]at je)|refine Sx.s ?_ ?_<;>try(intro h;have h':=h;try simp only[HB]at h';try simp only[h])|refine Ab (h1) ?_|refine Ae ?_|refine AG ?_|refine Sz.s ?_|(refine And.intro ?_ ?_;focus omega))
    ·refine congrArg I.bool ?_;rw[hF2,jb];simp only[Bool.not_eq_true']at h;rw[h];rfl
    ·rw[jb];simp only[Bool.not_eq_false']at h;rw[h];rfl
   ·have hiF:((i:Int)<GJ x.kind)=False:=eq_false (by omega);have e:i=x.args.length:=by omega
    rw[e,List.drop_length,formRs]at jb;rw[hF2,jb];by_cases hk:x.kind=5
    ·have h0:(0:Int)<(x.args.length:Int):=by rw[hl,hk];decide
     have h1:=vU (mx:=mx) _ (x.args.getD 0 default) Fw (Nat.le_refl _) (by have:=Fu (AA (n:=0) (l:=x.args) (by omega));omega) (by decide);have hiF5:((i:Int)<GJ 5)=False:=by grind
     refine Dp (cj ap (cj h1 (cj hiF5 (cj h0 hk)))) ?_
     all_goals intros
     all_goals(refine congrArg I.bool ?_;simp[NW,hk];try rfl)
    ·(repeat' first|exact Av _|simp(disch:=omega)only[go_sem,simprocAttr,hiF]|refine' Dr (fun hq=>?_) (fun f=>?_)<;>try(have je:=hq;try simp only[HB]at je)|refine Ab (ap) ?_|refine Ae ?_|refine AG ?_|refine Sz.s ?_|(refine And.intro ?_ ?_;focus omega))
     ·exact true
     ·exact absurd je.1 hk
     all_goals(refine congrArg I.bool ?_;simp[NW,hk])
def FB(x:Xpr):Int:=if 64<(Bs x:Int)\/12<(JE x:Int)then 2 else if FA x false=true then 0 else 3
theorem aq(x:Xpr)(hx:bX x<=1073741824):Is mx 209 [.agg (eE x)] (iI (FB x)):=by
 have hs:=NF x;refine MX rU ?_
 (repeat' first|exact Av _|simp only[go_sem,simprocAttr]|refine' AD (fun hq=>?_) (fun f=>?_)<;>try(have je:=hq;try simp only[HB]at je)|refine Sx.s ?_ ?_<;>try(intro h;have h':=h;try simp only[HB]at h';try simp only[h])|refine Ab (vS _ x (Nat.le_refl _) (by omega)) ?_|refine Ab (vT _ x (Nat.le_refl _) (by omega)) ?_|refine Ab (wC _ x false (Nat.le_refl _) hx) ?_|refine Ae ?_|refine Sz.s ?_|fail)
 all_goals(refine congrArg (I.int .i64) ?_;simp only[FB];first|done|(grind(splits:=20)))
end
section
theorem Mx{α:Type}[Inhabited α]{p:α->Bool}{l:List α}{i:Nat}(h:(l.take i).all (fun x=>!p x)=true)(hi:i<l.length)(hp:p (l.getD i default)=true):l.find? p=some (l.getD i default):=by
 rw[List.find?_eq_some_iff_getElem];refine⟨hp,i,hi,(AS hi).symm,fun j hj=>?_⟩;rw[List.all_eq_true]at h;have qy:j<l.length:=by omega
 have hm:l[j]∈l.take i:=List.mem_iff_getElem.2 ⟨j,by simp;omega,by simp⟩;grind
theorem My{α:Type}{p:α->Bool}{l:List α}{i:Nat}(h:(l.take i).all (fun x=>!p x)=true)(hi:¬i<l.length):l.find? p=none:=by rw[List.take_of_length_le (by omega),List.all_eq_true]at h;grind
abbrev H3(c:Cat)(ent:AT)(t:Tbl):List I:=[.sl (c.tables.map AR),.sl (c.features.map Ag),.sl (c.drafts.map Ag),.sl (c.past.map Ag),.str ent,.str t.name,.str t.entity,.sl (t.fields.map Cc),.int .i64 t.keep]
attribute [go_sem] H3
theorem au(c:Cat)(e0:AT)(t:Tbl)(name ent:AT)(hc:c.features.length<=1073741824):Is mx 326 [.agg (H3 c e0 t),.str name,.str ent] (AH (DR c.features name ent)):=by
 refine MX sC ?_
 (repeat' first|simp(disch:=omega)only[go_sem,simprocAttr]|fail)
 refine DQ [1,2,3,6] (by simp only[V0,MQ,reduceIte,Nat.reduceEqDiff];rfl) (fun i=>[(8,.i (iI i))]) (fun _=>[(6,.cells ((Ar AK).map .i))]) (fun i=>(c.features.take i).all (fun f=>!decide (f.name=name))=true) c.features.length 0 (by omega) (by simp) (by simp[V0,I9,Ref.nm,Ar,D.nms,OL]) ?_;intro i hi jb;by_cases ja:i<c.features.length
 ·by_cases hn:(c.features.getD i default).name=name
  ·have hf:=Mx (p:=fun f=>decide (f.name=name)) jb ja (by simpa using hn);have hR:DR c.features name ent=if(c.features.getD i default).entity≠ent then(AK,5)else((c.features.getD i default).typ,0):=by grind[DR]
   rw[hR];by_cases he:(c.features.getD i default).entity=ent
   ·refine By (cj (Cq ja) (cj hn he)) ?_;rfl
   ·refine By (cj (Cq ja) (cj hn (cj he @AK.eq_1))) ?_;rfl
  ·refine ne (cj (Cq ja) hn) ?_;exact BR (d:=default) jb ja (by simpa using hn)
 ·have hR:DR c.features name ent=(AK,4):=by unfold DR;rw[My jb ja]
  rw[hR];refine By (cj (Ih ja) @AK.eq_1) ?_;rfl
theorem wD(c:Cat)(e0:AT)(t:Tbl)(name:AT)(hc:t.fields.length<=1073741824):Is mx 325 [.agg (H3 c e0 t),.str name] (AH (GC t name)):=by
 refine MX qY ?_
 (repeat' first|simp(disch:=omega)only[go_sem,simprocAttr]|fail)
 refine DQ [1,2,4] (by simp only[V0,MQ,reduceIte,Nat.reduceEqDiff];rfl) (fun i=>[(6,.i (iI i))]) (fun _=>[(4,.cells ((Ar AK).map .i))]) (fun i=>(t.fields.take i).all (fun f=>!decide (f.name=name))=true) t.fields.length 0 (by omega) (by simp) (by simp[V0,I9,Ref.nm,Ar,D.nms,OL]) ?_;intro i hi jb;by_cases ja:i<t.fields.length
 ·by_cases hn:(t.fields.getD i default).name=name
  ·have hf:=Mx (p:=fun f=>decide (f.name=name)) jb ja (by simpa using hn);have hR:GC t name=((t.fields.getD i default).typ,0):=by grind[GC]
   rw[hR];refine By (cj (Cq ja) hn) ?_;rfl
  ·refine ne (cj (Cq ja) hn) ?_;exact BR (d:=default) jb ja (by simpa using hn)
 ·have hR:GC t name=(AK,4):=by unfold GC;rw[My jb ja]
  rw[hR];refine By (cj (Ih ja) @AK.eq_1) ?_;rfl
abbrev BB:Tbl:=⟨[],[],[],0⟩
abbrev B3:Cat:=⟨[],[],[],[]⟩
def D5(c:Cat)(ent:AT)(name:AT):(Cat×Tbl)×Int:=match c.tables.find? (fun t=>decide (t.name=name))with
 |none=>((B3,BB),4)
 |some t=>if t.entity≠ent then((B3,BB),5)else((c,t),0)
theorem wE(c:Cat)(e0:AT)(t0:Tbl)(name:AT)(hc:c.tables.length<=1073741824):Is mx 290 [.agg (H3 c e0 t0),.str name] (.tup [.agg (H3 (D5 c e0 name).1.1 [] (D5 c e0 name).1.2),iI (D5 c e0 name).2]):=by
 refine MX oj ?_;refine OG ?_;refine lS [1,2,4] (fun i=>[(6,.i (iI i))]) (fun _=>[(4,.cells ((H3 B3 [] BB).map .i))]) (fun i=>(c.tables.take i).all (fun f=>!decide (f.name=name))=true) c.tables.length ?_;intro i hi jb;by_cases ja:i<c.tables.length
 ·by_cases hn:(c.tables.getD i default).name=name
  ·have hf:=Mx (p:=fun f=>decide (f.name=name)) jb ja (by simpa using hn);have hR:D5 c e0 name=if(c.tables.getD i default).entity≠e0 then((B3,BB),5)else((c,c.tables.getD i default),0):=by grind[D5]
   rw[hR];by_cases he:(c.tables.getD i default).entity=e0
   ·(repeat' first|simp(disch:=omega)only[go_sem,simprocAttr,Cq ja,eq_true hn,eq_true he,List.map_cons,List.map_nil,ne_eq,not_true_eq_false]|refine Ae ?_|refine Sz.s ?_|fail)
    try rfl
   ·(repeat' first|simp(disch:=omega)only[go_sem,simprocAttr,Cq ja,eq_true hn,eq_false he,List.map_cons,List.map_nil,ne_eq,not_true_eq_false,not_false_eq_true]|refine Ae ?_|refine Sz.s ?_|fail)
    try rfl
  ·refine ne (cj (Cq ja) hn) ?_;exact BR (d:=default) jb ja (by simpa using hn)
 ·have hR:D5 c e0 name=((B3,BB),4):=by unfold D5;rw[My jb ja]
  rw[hR]
  (repeat' first|simp(disch:=omega)only[go_sem,simprocAttr,Ih ja,List.map_cons,List.map_nil]|refine Ae ?_|refine Sz.s ?_|fail)
  try rfl
def KY(a b:Typ):Int:=if a.kind≠b.kind\/a.of≠b.of then 5 else if a.unit=b.unit then 0 else 70
theorem UK(a b:Typ)(ha:a.unit.length<=1073741824)(hb:b.unit.length<=1073741824):Is mx 211 [.agg (Ar a),.agg (Ar b)] (iI (KY a b)):=by
 refine MX pg ?_
 (repeat' first|exact Av _|simp(disch:=omega)only[go_sem,simprocAttr]|refine' AD (fun hq=>?_) (fun f=>?_)<;>try(have je:=hq;try simp only[HB]at je)|refine Sx.s ?_ ?_<;>try(intro h;have h':=h;try simp only[HB]at h';try rewrite [h];try simp only[h])|refine Ab (RC _ _ ha hb) ?_|refine Ae ?_|refine Sz.s ?_|fail)
 all_goals(refine congrArg (I.int .i64) ?_;simp only[KY];first|done|(grind(splits:=20)))
def RK(a b:Typ):Bool:=decide (a.kind=b.kind)&&decide (a.unit=b.unit)&&decide (a.of=b.of)
theorem wF(a b:Typ)(ha:a.unit.length<=1073741824)(hb:b.unit.length<=1073741824):Is mx 341 [.agg (Ar a),.agg (Ar b)] (.bool (RK a b)):=by
 refine MX pH ?_;refine Dp @RC ?_
 all_goals intros
 all_goals(refine congrArg I.bool ?_;simp only[RK];first|done|(grind(splits:=20)))
def av:AT:=[115,117,109]
def UL:List AT:=[av,NO,JG,He]
def UM:List AT:=[Rz,RA]
def NX(op:AT)(a b:Typ):Typ×Int:=
 if b.kind≠1 then(AK,5)else if(BA UL op&&!C7 a||BA UM op&&!C7 a&&decide (a.kind≠4))=true then(AK,5)
 else if op=HR\/op=PC then(⟨2,[],[]⟩,0)else if op=NO\/op=He then(⟨3,a.unit,[]⟩,0)else(a,0)
theorem wG(x:Xpr)(a b:Typ):Is mx 327 [.agg (eE x),.agg (Ar a),.agg (Ar b)] (AH (NX x.op a b)):=by
 have h1:=PI (mx:=mx) UL x.op (by decide);have h2:=PI (mx:=mx) UM x.op (by decide);refine MX oz ?_
 (repeat' first|exact Av _|simp(disch:=omega)only[go_sem,simprocAttr]|refine' AD (fun hq=>?_) (fun f=>?_)<;>try(have je:=hq;try simp only[HB]at je)|refine' Dr (fun hq=>?_) (fun f=>?_)<;>try(have je:=hq;try simp only[HB]at je)|refine Sx.s ?_ ?_<;>try(intro h;have h':=h;try simp only[HB]at h';try rewrite [h];try simp only[h])|refine Ab (h1) ?_|refine Ab (h2) ?_|refine Ab (RH _) ?_|refine Ae ?_|refine Sz.s ?_|fail)
 all_goals(simp only[NX,HR,PC,NO,He];grind[AH,Ar])
end
section
def UN:AT:=[97,110,100]
def sOr:AT:=[111,114]
def PO(a b:Typ):Bool:=C7 a&&C7 b
def NY(op:AT)(a b:Typ):List Fac×Int:=if op=[42]then Fy a.unit b.unit else if op=[47]then Hi a.unit b.unit else(a.unit,if a.unit=b.unit then 0 else 70)
def UO(op:AT)(a b:Typ):Int:=if op=[47]then 3 else if a.kind=2/\b.kind=2 then 2 else 3
def UP(op:AT)(a b:Typ):Bool:=if op=[60]\/op=[60,61]then decide (a.kind=4)&&decide (b.kind=4)else RK a b
def NZ(op:AT)(a b:Typ):Typ×Int:=
 if op=UN\/op=sOr then(if a.kind≠1\/b.kind≠1 then(AK,5)else(KT,0))
 else if op=[61,61]\/op=[33,61]\/op=[60]\/op=[60,61]then
  (if(PO a b&&!decide (a.unit=b.unit))=true then(AK,70)else if(!PO a b&&!UP op a b)=true then(AK,5)else(KT,0))
 else if PO a b=false then(AK,5)else if(NY op a b).2≠0 then(AK,70)else(⟨UO op a b,(NY op a b).1,[]⟩,0)
theorem wH(op:AT)(a b:Typ)(ha:Af A5 a.unit<=1073741824)(hb:Af A5 b.unit<=1073741824):Is mx 328 [.str op,.agg (Ar a),.agg (Ar b)] (AH (NZ op a b)):=by
 have la:=Ft a.unit;have lb:=Ft b.unit;have h1:=wF (mx:=mx) a b (by omega) (by omega);have h2:=Z7 (mx:=mx) a.unit b.unit ha hb;have h3:=uX (mx:=mx) a.unit b.unit ha hb;have h4:=RC (mx:=mx) a.unit b.unit (by omega) (by omega);refine MX pF ?_
 (repeat' first|exact Av _|simp(disch:=omega)only[go_sem,simprocAttr,gp]|refine' AD (fun hq=>?_) (fun f=>?_)<;>try(have je:=hq;try simp only[HB]at je)|refine Sx.s ?_ ?_<;>try(intro h;have h':=h;try simp only[HB]at h';try rewrite [h];try simp only[h])|refine Ab (h1) ?_|refine Ab (h2) ?_|refine Ab (h3) ?_|refine Ab (h4) ?_|refine Ab (RH _) ?_|refine Ae ?_|refine Sz.s ?_|fail)
 all_goals(simp only[NZ,UN,sOr,NY,UO,UP,PO];grind[AH,Ar])
end
section
def unR(op:AT)(a:Typ):Typ×Int:=
 if(decide (op=NP)&&!C7 a||decide (op=PD)&&decide (a.kind≠1))=true then(AK,5)else if op=NP then(a,0)else(KT,0)
def KZ(a b:Typ):Typ×Int:=if KY a b≠0 then(AK,KY a b)else(b,0)
def opR(c:Cat)(ent:AT)(t:Tbl)(x:Xpr)(l:List Typ):Typ×Int:=
 if x.kind=1 then(⟨x.val.kind,x.unit,x.name⟩,0)
 else if x.kind=2 then GC t x.name
 else if x.kind=3 then DR c.features x.name ent
 else if x.kind=4 then(if(l.getD 0 default).kind≠5 then(AK,5)else DR c.features x.name (l.getD 0 default).of)
 else if x.kind=5 then NX x.op (l.getD 0 default) (l.getD 1 default)
 else if x.kind=6 then unR x.op (l.getD 0 default)
 else if x.kind=7 then NZ x.op (l.getD 0 default) (l.getD 1 default)
 else if x.kind=8 then(if(l.getD 0 default).kind≠1 then(AK,5)else KZ (l.getD 1 default) (l.getD 2 default))
 else KZ (l.getD 0 default) (l.getD 1 default)
def uT(t:Typ):Prop:=Af A5 t.unit<=1073741824
theorem wI(c:Cat)(ent:AT)(t:Tbl)(x:Xpr)(l:List Typ)(hk:1<=x.kind/\x.kind<=9)(hl:(l.length:Int)=GJ x.kind)(hc:c.features.length<=1073741824)(ht:t.fields.length<=1073741824)(hu:∀y∈l,uT y):
  Is mx 291 [.agg (H3 c ent t),.agg (eE x),.sl (l.map Ar)] (AH (opR c ent t x l)):=by
 have hg:∀i,i<l.length->Af A5 (l.getD i default).unit<=1073741824:=fun i h=>hu _ (AA h)
 have hg2:∀i,i<l.length->(l.getD i default).unit.length<=1073741824:=fun i h=>by have:=hg i h;have:=Ft (l.getD i default).unit;omega
 have jk:x.kind=1\/x.kind=2\/x.kind=3\/x.kind=4\/x.kind=5\/x.kind=6\/x.kind=7\/x.kind=8\/x.kind=9:=by omega
 refine MX pA ?_;rcases jk with h|h|h|h|h|h|h|h|h<;>simp[h,GJ]at hl<;>simp only[opR,h,Int.reduceEq,if_true,if_false]
 ·(repeat' first|simp(disch:=omega)only[go_sem,simprocAttr,AH,h]|refine Ae ?_|refine Sz.s ?_|fail)
 ·(repeat' first|simp(disch:=omega)only[go_sem,simprocAttr,AH,h]|refine Sx.s ?_ ?_<;>try(intro h;have h':=h;try simp only[HB]at h';try rewrite [h];try simp only[h])|refine Ab (wD c ent t x.name ht) ?_|refine Ae ?_|refine Sz.s ?_|fail)
 ·(repeat' first|simp(disch:=omega)only[go_sem,simprocAttr,AH,h]|refine Sx.s ?_ ?_<;>try(intro h;have h':=h;try simp only[HB]at h';try rewrite [h];try simp only[h])|refine Ab (au c ent t x.name ent hc) ?_|refine Ae ?_|refine Sz.s ?_|fail)
 ·have h0:((0:Int)<(l.length:Int))=True:=eq_true (by omega);have h0n:(0<l.length)=True:=eq_true (by omega)
  (repeat' first|simp(disch:=omega)only[go_sem,simprocAttr,AH,h,hl]|refine Sx.s ?_ ?_<;>try(intro h;have h':=h;try simp only[HB]at h';try rewrite [h];try simp only[h])|refine Ab (au c ent t x.name _ hc) ?_|refine Ae ?_|refine AG ?_|refine Sz.s ?_|fail)
  all_goals grind[AH,Ar]
 ·have h0n:(0<l.length)=True:=eq_true (by omega);have h1n:(1<l.length)=True:=eq_true (by omega)
  (repeat' first|simp(disch:=omega)only[go_sem,simprocAttr,AH,h,hl]|refine Ab (wG x _ _) ?_|refine Ae ?_|refine AG ?_|refine Sz.s ?_|fail)
 ·have h0n:(0<l.length)=True:=eq_true (by omega)
  (repeat' first|exact Av _|simp(disch:=omega)only[go_sem,simprocAttr,AH,h,hl]|refine' AD (fun hq=>?_) (fun f=>?_)<;>try(have je:=hq;try simp only[HB]at je)|refine' Dr (fun hq=>?_) (fun f=>?_)<;>try(have je:=hq;try simp only[HB]at je)|refine Sx.s ?_ ?_<;>try(intro h;have h':=h;try simp only[HB]at h';try rewrite [h];try simp only[h])|refine Ab (RH _) ?_|refine Ae ?_|refine Sz.s ?_|fail)
  all_goals(simp only[unR,NP,PD];grind[AH,Ar])
 ·have h0n:(0<l.length)=True:=eq_true (by omega);have h1n:(1<l.length)=True:=eq_true (by omega)
  (repeat' first|simp(disch:=omega)only[go_sem,simprocAttr,AH,h,hl]|refine Ab (wH x.op (l.getD 0 default) (l.getD 1 default) (hg 0 (by omega)) (hg 1 (by omega))) ?_|refine Ae ?_|refine AG ?_|refine Sz.s ?_|fail)
 ·have h0n:(0<l.length)=True:=eq_true (by omega);have h1n:(1<l.length)=True:=eq_true (by omega);have h2n:(2<l.length)=True:=eq_true (by omega);have hb:=UK (mx:=mx) (l.getD 1 default) (l.getD 2 default) (hg2 1 (by omega)) (hg2 2 (by omega))
  (repeat' first|simp(disch:=omega)only[go_sem,simprocAttr,AH,h,hl]|refine Sx.s ?_ ?_<;>try(intro h;have h':=h;try simp only[HB]at h';try rewrite [h];try simp only[h])|refine Ab (hb) ?_|refine Ae ?_|refine AG ?_|refine Sz.s ?_|fail)
  all_goals(simp only[KZ];grind[AH,Ar])
 ·have h0n:(0<l.length)=True:=eq_true (by omega);have h1n:(1<l.length)=True:=eq_true (by omega);have hb:=UK (mx:=mx) (l.getD 0 default) (l.getD 1 default) (hg2 0 (by omega)) (hg2 1 (by omega))
  (repeat' first|simp(disch:=omega)only[go_sem,simprocAttr,AH,h,hl]|refine Sx.s ?_ ?_<;>try(intro h;have h':=h;try simp only[HB]at h';try rewrite [h];try simp only[h])|refine Ab (hb) ?_|refine Ae ?_|refine AG ?_|refine Sz.s ?_|fail)
  all_goals(simp only[KZ];grind[AH,Ar])
end
section
mutual
def DT(c:Cat):AT->Tbl->Xpr->Typ×Int
 |ent,t,.mk k o n tb v u p w a=>
  if k=5 then
   if(D5 c ent tb).2≠0 then(AK,(D5 c ent tb).2)
   else match inferRs c [] (D5 c ent tb).1.2 a with
    |.error e=>(AK,e)
    |.ok l=>opR c ent t (.mk k o n tb v u p w a) l
  else match inferRs c ent t a with
    |.error e=>(AK,e)
    |.ok l=>opR c ent t (.mk k o n tb v u p w a) l
def inferRs(c:Cat):AT->Tbl->List Xpr->Except Int (List Typ)
 |_,_,[]=>.ok []
 |ent,t,x::r=>if(DT c ent t x).2≠0 then .error (DT c ent t x).2 else match inferRs c ent t r with
   |.error e=>.error e
   |.ok l=>.ok ((DT c ent t x).1::l)
end
def K0(ent:AT)(x:Xpr):AT:=if x.kind=5 then[]else ent
def IP(c:Cat)(ent:AT)(t:Tbl)(x:Xpr):Tbl:=if x.kind=5 then(D5 c ent x.table).1.2 else t
def JL(c:Cat)(ent:AT)(x:Xpr):Int:=if x.kind=5 then(D5 c ent x.table).2 else 0
theorem RL(c:Cat)(ent:AT)(t:Tbl)(x:Xpr):DT c ent t x=if JL c ent x≠0 then(AK,JL c ent x)else match inferRs c (K0 ent x) (IP c ent t x) x.args with
  |.error e=>(AK,e)
  |.ok l=>opR c ent t x l:=by
 cases x with
 |mk k o n tb v u p w a=>
  simp only[DT,K0,IP,JL,Xpr.kind,Xpr.args,Xpr.table];by_cases h:k=5
  ·simp only[h,if_true]
  ·simp only[h,if_false,ne_eq,not_true_eq_false]
theorem aw(c:Cat)(ent:AT)(t:Tbl):∀(a:List Xpr) (i:Nat) (l:List Typ) (h:i<a.length),inferRs c ent t (a.take i)=.ok l->inferRs c ent t (a.take (i+1))=if(DT c ent t a[i]).2≠0 then .error (DT c ent t a[i]).2 else .ok (l++[(DT c ent t a[i]).1])
 |[],i,l,h,_=>by simp at h
 |x::r,0,l,h,hl=>by simp only[List.take_zero,inferRs]at hl;cases hl;simp only[Nat.zero_add,List.take_succ_cons,List.take_zero,inferRs,List.getElem_cons_zero,List.nil_append]
 |x::r,i+1,l,h,hl=>by
  simp only[List.take_succ_cons,inferRs,List.getElem_cons_succ]at hl⊢;by_cases he:(DT c ent t x).2≠0
  ·rw[if_pos he]at hl;cases hl
  ·rw[if_neg he]at hl⊢;cases h2:inferRs c ent t (r.take i)with
   |error e=>rw[h2]at hl;cases hl
   |ok l'=>
    rw[h2]at hl;cases hl;rw[aw c ent t r i l' (by simpa using h) h2];have hir:i<r.length:=by simpa using h
    by_cases h3:(DT c ent t r[i]).2≠0
    ·rw[if_pos h3,if_pos h3]
    ·rw[if_neg h3,if_neg h3];rfl
theorem ax(c:Cat)(ent:AT)(t:Tbl):∀(a:List Xpr) (i:Nat) (e:Int),inferRs c ent t (a.take i)=.error e->inferRs c ent t a=.error e
 |[],i,e,h=>by rw[List.take_nil]at h;exact h
 |x::r,0,e,h=>by simp only[List.take_zero,inferRs]at h;cases h
 |x::r,i+1,e,h=>by
  simp only[List.take_succ_cons,inferRs]at h⊢;by_cases he:(DT c ent t x).2≠0
  ·rw[if_pos he]at h⊢;exact h
  ·rw[if_neg he]at h⊢;cases h2:inferRs c ent t (r.take i)with
   |error e'=>rw[h2]at h;cases h;rw[ax c ent t r i _ h2]
   |ok l'=>rw[h2]at h;cases h
theorem Hl:uT AK:=by simp[uT,Af]
theorem ay:uT KT:=by simp[uT,Af]
theorem wJ{c:Cat}(hc:AP c<=1073741824){f:Ftr}(h:f∈c.features):uT f.typ:=by grind[Ce,Cd,Bl,Hj,Ek,Af,A5,uT]
def tT(t:Tbl):Prop:=Dt t<=1073741824
theorem wK{t:Tbl}(ht:tT t){f:Fld}(h:f∈t.fields):uT f.typ:=by have h1:=H1 t;have h2:=Cd (b:=F2) h;have h3:=NT f;grind[Ek,Af,A5,tT,uT]
theorem wL{t:Tbl}(ht:tT t):t.fields.length<=1073741824:=by grind[H1,PF,tT]
theorem UQ:tT BB:=by simp[tT,H1,Af]
theorem wM{c:Cat}(hc:AP c<=1073741824)(ent name:AT):tT (D5 c ent name).1.2:=by grind[D5,UQ,Ce,Cd,Dt,tT]
theorem wN{c:Cat}{ent name:AT}(h:(D5 c ent name).2=0):(D5 c ent name).1.1=c:=by grind[D5]
theorem UR(l:List Fac):∀(ns:List AT) (acc:List Fac),(∀s∈ns,s.length<=24)->(∀f∈acc,f.name.length<=24)->Af A5 (Ge l ns acc).1<=100
 |[],acc,_,h=>by
  simp only[Ge];split
  ·simp[Af]
  ·rename_i h4;have:∀(l:List Fac),(∀f∈l,f.name.length<=24)->Af A5 l<=25*l.length:=by
    intro l;induction l with
    |nil=>intro _;simp[Af]
    |cons f r ih=>intro hh;have h1:=ih fun g hg=>hh g (List.mem_cons_of_mem _ hg);have h2:=hh f List.mem_cons_self;simp only[Af,A5,List.length_cons];omega
   have:=this acc h;show Af A5 acc<=100;omega
 |s::r,acc,hs,h=>by
  have hr:∀s∈r,s.length<=24:=fun s hs'=>hs s (List.mem_cons_of_mem _ hs')
  simp only[Ge];split
  ·simp[Af]
  ·split
   ·exact UR l r _ hr fun f hf=>by
     rcases List.mem_append.1 hf with h1|h1
     ·exact h f h1
     ·simp at h1;subst h1;exact hs s List.mem_cons_self
   ·exact UR l r _ hr h
theorem wO{l:List AT}{s x:AT}(h:x∈B6 l s):x=s\/x∈l:=by grind[B6]
theorem az:∀(l:List Fac) (out:List AT) {x:AT},x∈Em out l->x∈out\/∃f∈l,f.name=x
 |[],out,x,h=>.inl h
 |f::r,out,x,h=>by
  rcases az r _ h with h|⟨g,h1,h2⟩
  all_goals grind[wO]
theorem wP{s:AT}(h:B5 s=true):s.length<=24:=by grind[B5]
theorem wQ(l:List Fac):Af A5 (IL l).1<=100:=by
 unfold IL;split
 ·rename_i hw;refine UR l _ _ (fun s hs=>?_) (by simp);rcases az l [] hs with h|⟨f,h1,rfl⟩
  all_goals grind[HX,wP]
 ·simp[Af]
theorem aA(a b:List Fac):Af A5 (Fy a b).1<=100:=by
 unfold Fy;repeat' split
 ·simp[Af]
 ·simp[Af]
 ·exact wQ _
theorem wR(a b:List Fac):Af A5 (Hi a b).1<=100:=by
 unfold Hi;repeat' split
 ·simp[Af]
 ·simp[Af]
 ·exact aA _ _
theorem wS{c:Cat}(hc:AP c<=1073741824){ent:AT}{t:Tbl}(ht:tT t){x:Xpr}{l:List Typ}(hx:bX x<=1073741824)(hl:∀y∈l,uT y):uT (opR c ent t x l).1:=by
 have hn:∀n e,uT (DR c.features n e).1:=fun n e=>by
  unfold DR;split
  ·exact Hl
  ·rename_i f hf;split
   ·exact Hl
   ·exact wJ hc (List.mem_of_find?_eq_some hf)
 have hg:∀i,uT (l.getD i default):=fun i=>by
  by_cases h:i<l.length
  ·exact hl _ (AA h)
  ·have:l.getD i default=default:=by simp[List.getD,List.getElem?_eq_none (Nat.le_of_not_lt h)]
   rw[this];show Af A5 (default:Typ).unit<=_;decide
 have hs:∀a b,uT b->uT (KZ a b).1:=fun a b h=>by
  unfold KZ;split
  ·exact Hl
  ·exact h
 have hi:uT ⟨2,[],[]⟩:=by simp[uT,Af]
 have hd:∀i,uT ⟨3,(l.getD i default).unit,[]⟩:=fun i=>hg i
 have hur:∀k o,uT ⟨k,(NY o (l.getD 0 default) (l.getD 1 default)).1,[]⟩:=fun k o=>by
  unfold uT NY;simp only;split
  ·have:=aA (l.getD 0 default).unit (l.getD 1 default).unit;omega
  ·split
   ·have:=wR (l.getD 0 default).unit (l.getD 1 default).unit;omega
   ·exact hg 0
 unfold opR;split
 ·have h1:=HQ x;unfold uT;show Af A5 x.unit<=_;omega
 split
 ·unfold GC;split
  ·exact Hl
  ·rename_i f hf;exact wK ht (List.mem_of_find?_eq_some hf)
 split
 ·exact hn _ _
 split
 ·split
  ·exact Hl
  ·exact hn _ _
 split
 ·unfold NX;repeat' split
  all_goals first|exact Hl|exact hg 0|exact hi|exact hd 0
 split
 ·unfold unR;repeat' split
  all_goals first|exact Hl|exact hg 0|exact ay
 split
 ·unfold NZ;repeat' split
  all_goals first|exact Hl|exact ay|exact hur _ _
 split
 ·split
  ·exact Hl
  ·exact hs _ _ (hg 2)
 ·exact hs _ _ (hg 1)
theorem US{c:Cat}(n:Nat)(ih:∀(ent:AT) (t:Tbl) (x:Xpr),tT t->bX x<=n->bX x<=1073741824->uT (DT c ent t x).1):∀(ent:AT) (t:Tbl) (a:List Xpr) (l:List Typ),tT t->(∀x∈a,bX x<=n/\bX x<=1073741824)->inferRs c ent t a=.ok l->∀y∈l,uT y
 |ent,t,[],l,ht,h,he,y,hy=>by simp only[inferRs]at he;cases he;simp at hy
 |ent,t,x::r,l,ht,h,he,y,hy=>by
  simp only[inferRs]at he;split at he
  ·cases he
  ·split at he
   ·cases he
   ·rename_i l' hl';cases he;rcases List.mem_cons.1 hy with e|e
    ·subst e;exact ih ent t x ht (h x (by simp)).1 (h x (by simp)).2
    ·exact US n ih ent t r l' ht (fun z hz=>h z (by simp[hz])) hl' y e
theorem aB{c:Cat}(hc:AP c<=1073741824){ent:AT}{t:Tbl}(ht:tT t)(x:Xpr):tT (IP c ent t x):=by grind[IP,wM]
theorem aC{c:Cat}(hc:AP c<=1073741824):∀(n:Nat) (ent:AT) (t:Tbl) (x:Xpr),tT t->bX x<=n->bX x<=1073741824->uT (DT c ent t x).1:=by
 intro n
 induction n with
 |zero=>intro ent t x _ h;have:=HQ x;omega
 |succ n ih=>
  intro ent t x ht hb hx;rw[RL];split
  ·exact Hl
  ·split
   ·exact Hl
   ·rename_i l e2;exact wS hc ht hx (US n ih _ _ x.args l (aB hc ht x) (fun y hy=>by have:=Fu hy;omega) e2)
theorem aD{x:Xpr}{i:Bool}(h:GK x i=true):1<=x.kind/\x.kind<=9:=by grind[GK]
theorem wT{l:List Xpr}{i:Bool}(h:formRs l i=true):∀x∈l,FA x i=true:=by
 induction l with
 |nil=>intro x hx;simp at hx
 |cons a r ih=>grind[formRs]
theorem wU(c:Cat)(hc:AP c<=1073741824):∀(n:Nat) (ent:AT) (t:Tbl) (x:Xpr) (i:Bool),tT t->bX x<=n->bX x<=1073741824->FA x i=true->
  Is mx 260 [.agg (H3 c ent t),.agg (eE x)] (AH (DT c ent t x)):=by
 intro n
 induction n with
 |zero=>intro ent t x i _ h;have:=HQ x;omega
 |succ n ih=>
  intro ent t x i ht hb hx hf;rw[PN]at hf;simp only[Bool.and_eq_true,decide_eq_true_eq]at hf;obtain⟨⟨hnode,jd⟩,jz,_⟩:=hf;have hk:=aD hnode;have vl:=Mh x;have hcf:c.features.length<=1073741824:=by grind[Ce,Dm]
  have hct:c.tables.length<=1073741824:=by grind[Ce,H2]
  have hR:=RL c ent t x;have hwi:=wE (mx:=mx) c ent t x.table hct;refine MX si ?_;refine OG ?_;by_cases he:JL c ent x=0
  ·rw[if_neg (by omega)]at hR;refine Dl.cutS [2,3,4,6] (by simp only[V0,MQ,reduceIte,Nat.reduceEqDiff];rfl) [] [(6,.cells ((H3 c (K0 ent x) (IP c ent t x)).map .i)),(4,.cells ((Ar AK).map .i))] True ?_ (fun _=>?_)
   ·by_cases h5:x.kind=5
    ·simp only[JL,h5,if_true]at he;have hw1:=wN he;rw[hw1,he]at hwi;exact A4 (cj hwi (cj h5 (cj @K0.eq_1 @IP.eq_1))) trivial
    ·exact Pm (cj h5 (cj @K0.eq_1 @IP.eq_1)) trivial
   ·have ht':=aB hc (ent:=ent) ht x;generalize hE:K0 ent x=ent' at hR;generalize hT:IP c ent t x=t' at hR ht'
    (repeat' first|simp(disch:=omega)only[go_sem,simprocAttr,List.map_cons,List.map_nil]|fail)
    refine BG [2,3,4,6] (by simp only[V0,MQ,reduceIte,Nat.reduceEqDiff];rfl) (fun g:Nat×List Typ=>[(9,.ref (.sl 9 3 0 g.2.length)),(10,.i (iI g.1))]) (fun g=>[(9,.rows 53 3 (g.2.map Ar)),(6,.cells ((H3 c ent' t').map .i)),(4,.cells ((Ar AK).map .i))])
     (fun g=>g.1<=x.args.length/\inferRs c ent' t' (x.args.take g.1)=.ok g.2/\g.2.length=g.1) (fun g=>x.args.length-g.1) (0,[]) (by simp[inferRs]) (by simp[V0,I9,Ref.nm,Ar,H3,D.nms,OL]) ?_
    rintro⟨k,l⟩ ⟨hi,hl,qq⟩;simp only at hi hl qq;by_cases ja:k<x.args.length
    ·have kl:=AA ja;have hba:=Fu kl;have i1:=ih ent' t' (x.args.getD k default) _ ht' (by omega) (by omega) (wT jz _ kl);have ke:=aw c ent' t' x.args k l ja hl;rw[<-AS ja]at ke;generalize hy:DT c ent' t' (x.args.getD k default)=y at i1 ke;refine A4 (cj i1 (cj (Cq ja) @AH.eq_1)) (cj ?_ ?_)
     ·intro h h';rw[if_pos h']at ke;have:=ax c ent' t' x.args (k+1) _ ke;rw[this]at hR;rw[hR];rfl
     ·intro _ _;rw[if_neg (by omega)]at ke;refine⟨by simp[],by simp[I.one],by omega,by omega,⟨k+1,l++[y.1]⟩,⟨by omega,ke,by simp[qq]⟩,by show x.args.length-(k+1)<_;omega,⟨by simp,rfl⟩,?_⟩;simp[Ar]
    ·have e:k=x.args.length:=by omega
     subst e;rw[List.take_length]at hl;have k9:=US n (fun ent t x h1 h2 h3=>aC hc n ent t x h1 h2 h3) ent' t' x.args l ht' (fun z hz=>by have:=Fu hz;omega) hl;have hrc:=wI (mx:=mx) c ent t x l hk (by rw[qq];exact jd) hcf (wL ht) k9;rw[hl]at hR;simp only at hR;refine A4 (cj hrc (cj (Ih ja) @AH.eq_1)) ?_;rw[hR]
  ·rw[if_pos he]at hR;have h5:x.kind=5:=by grind[JL]
   simp only[JL,h5,if_true]at he hR;rw[hR];refine Ae ?_;generalize hq:D5 c ent x.table=q at he hwi;exact A4 (cj hwi (cj h5 (cj @AH.eq_1 he))) trivial
def E6(c:Cat)(ent:AT)(x:Xpr):Typ×Int:=if FB x≠0 then(AK,FB x)else DT c ent BB x
theorem aF{x:Xpr}(h:FB x=0):FA x false=true:=by grind[FB]
end
section
theorem wV(c:Cat)(ent:AT)(x:Xpr)(hc:AP c<=1073741824)(hx:bX x<=1073741824):Is mx 210 [.agg (At c),.str ent,.agg (eE x)] (AH (E6 c ent x)):=by
 have h1:=aq (mx:=mx) x hx;refine MX nT ?_;by_cases h0:FB x=0
 ·have h2:=wU (mx:=mx) c hc _ ent BB x _ UQ (Nat.le_refl _) hx (aF h0);have hT:E6 c ent x=DT c ent BB x:=by grind[E6]
  rw[hT];exact A4 (cj h1 (cj h2 (cj h0 @AH.eq_1))) trivial
 ·have hT:E6 c ent x=(AK,FB x):=by unfold E6;rw[if_pos h0]
  rw[hT]
  (repeat' first|simp(disch:=omega)only[go_sem,simprocAttr,h0,AH,ne_eq,not_false_eq_true,decide_true]|refine Sx.s ?_ ?_<;>try(intro h;have h':=h;try simp only[HB]at h';try rewrite [h];try simp only[h])|refine Ab (h1) ?_|refine Ae ?_|refine Sz.s ?_|fail)
  try rfl
def DU(c:Cat)(f:Ftr):Int:=
 if(!Di f.name||!Di f.entity||decide (f.version<0))=true then 3 else if E4 f.typ≠0 then E4 f.typ
 else if(E6 c f.entity f.body).2≠0 then(E6 c f.entity f.body).2 else KY (E6 c f.entity f.body).1 f.typ
theorem wW{c:Cat}(hc:AP c<=1073741824){ent:AT}{x:Xpr}(hx:bX x<=1073741824):uT (E6 c ent x).1:=by
 unfold E6;split
 ·exact Hl
 ·exact aC hc _ ent BB x UQ (Nat.le_refl _) hx
theorem aG(c:Cat)(f:Ftr)(hc:AP c<=1073741824)(hf:Bl f<=1073741824):Is mx 153 [.agg (At c),.agg (Ag f)] (iI (DU c f)):=by
 have h0:=Hj f;have h4:Ek f.typ=Af A5 f.typ.unit+f.typ.of.length+1:=rfl;have hl:=Ft f.typ.unit;have h1:=wV (mx:=mx) c f.entity f.body hc (by omega);have h2:=RI (mx:=mx) f.typ (by omega) (fun y hy=>by have h1:=Cd (b:=A5) (l:=f.typ.unit) hy;have h2:A5 y=y.name.length+1:=rfl;omega);have hu:=wW hc (ent:=f.entity) (x:=f.body) (by omega);have k9:=Ft (E6 c f.entity f.body).1.unit;unfold uT at hu;have h3:=UK (mx:=mx) (E6 c f.entity f.body).1 f.typ (by omega) (by omega);have hR:=DU.eq_1 c f;generalize E6 c f.entity f.body=q at h1 h3 hR;refine MX oV ?_
 (repeat' first|exact Av _|simp(disch:=omega)only[go_sem,simprocAttr,AH]|refine' AD (fun hq=>?_) (fun f=>?_)<;>try(have je:=hq;try simp only[HB]at je)|refine Sx.s ?_ ?_<;>try(intro h;have h':=h;try simp only[HB]at h';try rewrite [h];try simp only[h])|refine Ab (IK _) ?_|refine Ab (h1) ?_|refine Ab (h2) ?_|refine Ab (h3) ?_|refine Ae ?_|refine Sz.s ?_|fail)
 all_goals(refine congrArg (I.int .i64) ?_;rw[hR];first|done|(grind(splits:=20)))
abbrev noX:Xpr:=.mk 0 [] [] [] F1 [] 0 Fv []
abbrev CL:Ftr:=⟨[],[],AK,noX,0⟩
def AU(l:List Tbl)(name:AT):Option Tbl:=l.find? fun t=>decide (t.name=name)
def BX(l:List Ftr)(name:AT):Option Ftr:=l.find? fun f=>decide (f.name=name)
def Hm(o:Option Tbl):I:=.tup [.agg (AR (o.getD BB)),.bool o.isSome]
def N1(o:Option Ftr):I:=.tup [.agg (Ag (o.getD CL)),.bool o.isSome]
abbrev aH:List D:=[.i (.str []),.i (.str []),.i (.sl []),.i (iI 0)]
abbrev wX:List D:=[.i (.str []),.i (.str []),.i (iI 0),.i (.sl []),.i (.str []),.i (iI 0),.i (.str []),.i (.str []),.i (.str []),.i (iI 0),.i (iI 0),.i (.str []),.i (.sl []),.i (iI 0),.i (iI 0),.i (iI 0),.i (.sl []),.i (iI 0)]
theorem PP(c:Cat)(name:AT)(hc:c.tables.length<=1073741824):Is mx 43 [.agg (At c),.str name] (Hm (AU c.tables name)):=by
 refine MX F43 ?_
 (repeat' first|simp(disch:=omega)only[go_sem,simprocAttr]|fail)
 refine DQ [1,2,4] (by simp only[V0,MQ,reduceIte,Nat.reduceEqDiff];rfl) (fun i=>[(6,.i (iI i))]) (fun _=>[(4,.cells aH)]) (fun i=>(c.tables.take i).all (fun f=>!decide (f.name=name))=true) c.tables.length 0 (by omega) (by simp) (by simp[V0,I9,Ref.nm,D.nms,OL]) ?_;intro i hi jb;by_cases ja:i<c.tables.length
 ·by_cases hn:(c.tables.getD i default).name=name
  ·have hf:=Mx (p:=fun f=>decide (f.name=name)) jb ja (by simpa using hn);rw[AU,hf]
   (repeat' first|simp(disch:=omega)only[go_sem,simprocAttr,Cq ja,eq_true hn]|refine Ae ?_|refine Sz.s ?_|fail)
   try rfl
  ·refine La (cj (Cq ja) hn) ?_;exact BR (d:=default) jb ja (by simpa using hn)
 ·rw[AU,My jb ja];refine Hw (Ih ja) ?_
  try rfl
theorem wY(l:List Ftr)(name:AT)(hc:l.length<=1073741824):Is mx 329 [.sl (l.map Ag),.str name] (N1 (BX l name)):=by
 refine MX qZ ?_;refine OG ?_;refine lS [0,1,4] (fun i=>[(6,.i (iI i))]) (fun _=>[(4,.cells wX)]) (fun i=>(l.take i).all (fun f=>!decide (f.name=name))=true) l.length ?_;intro i hi jb;by_cases ja:i<l.length
 ·by_cases hn:(l.getD i default).name=name
  ·have hf:=Mx (p:=fun f=>decide (f.name=name)) jb ja (by simpa using hn);rw[BX,hf];refine Hw (cj (Cq ja) hn) ?_
   try rfl
  ·refine La (cj (Cq ja) hn) ?_;exact BR (d:=default) jb ja (by simpa using hn)
 ·rw[BX,My jb ja];refine Hw (Ih ja) ?_
  try rfl
theorem aI(c:Cat)(name:AT)(hc:c.features.length<=1073741824):Is mx 293 [.agg (At c),.str name] (N1 (BX c.features name)):=by have h1:=wY (mx:=mx) c.features name hc;refine MX sx ?_;exact Dp (cj h1 @N1.eq_1) trivial
theorem wZ(l:List AT)(s:AT)(hl:l.length<=1073741824):Is mx 264 [.sl (l.map BS),.str s] (.bool (BA l s)):=by
 refine MX sj ?_;refine OG ?_;refine lS [0,1] (fun i=>[(5,.i (iI i))]) (fun _=>[]) (fun i=>(l.take i).all (fun y=>!decide (s=y))=true) l.length ?_;intro i hi jb;by_cases ja:i<l.length
 ·by_cases hn:l.getD i default=s
  ·have:BA l s=true:=by grind[BA]
   rw[this];exact Hw (cj (Cq ja) hn) trivial
  ·refine La (cj (Cq ja) hn) ?_;exact BR (d:=default) jb ja (by simpa using fun e=>hn e.symm)
 ·have:BA l s=false:=by grind[BA]
  rw[this];exact Hw (Ih ja) trivial
end
section
theorem UT{l:List AT}{s:AT}{k:Nat}(h:HW l s=k):B6 l s=if k<l.length/\l.getD k default=s then l else l.take k++[s]++l.drop k:=by rw[<-h];rfl
theorem UU{α:Type}(f:α->List I){l:List α}{s:α}{k:Nat}(h:k<=l.length):List.take (k+1+(l.length-k)) (List.take (k+1) (List.map f (List.take k l)++[f s])++List.map f (List.drop k l))=List.map f (List.take k l++[s]++List.drop k l):=by have e1:List.take (k+1) (List.map f (List.take k l)++[f s])=List.map f (List.take k l)++[f s]:=List.take_of_length_le (by simp;omega);rw[e1,List.take_of_length_le (by simp;omega),List.map_append,List.map_append];rfl
theorem UV(l:List AT)(s:AT)(hl:l.length<=1073741823):Is mx 292 [.sl (l.map BS),.str s] (.sl ((B6 l s).map BS)):=by
 refine MX qU ?_;refine OG ?_;refine lT [0,1] (fun k:Nat=>[(5,.i (iI k))]) (fun _=>[]) (fun k=>k<=l.length/\(l.take k).all (fun y=>Op.bytesLess y s)=true) (fun k=>l.length-k) 0 ?_;rintro k ⟨hk,jg⟩;by_cases jk:k<l.length
 ·cases km:Op.bytesLess (l.getD k default) s
  ·have ku:HW l s=k:=JI jg hk (.inr km);by_cases vz:l.getD k default=s
   ·have jo:B6 l s=l:=by rw[UT ku,if_pos ⟨jk,vz⟩]
    rw[jo]
    (repeat' first|simp(disch:=omega)only[go_sem,simprocAttr,Cq jk,km,eq_true vz,Nat.zero_add]|refine Ae ?_|refine Sz.s ?_|fail)
   ·have jo:B6 l s=l.take k++[s]++l.drop k:=by rw[UT ku,if_neg];rintro⟨_,h⟩;exact vz h
    rw[jo];have vm:min k l.length=k:=by omega
    have hleT:(k<=l.length)=True:=eq_true (by omega)
    (repeat' first|simp(disch:=omega)only[go_sem,simprocAttr,Cq jk,km,eq_false vz,<-List.map_take,<-List.map_drop,Rv,Rx,Py,Pz,List.length_map,List.length_take,List.length_drop,Nat.zero_add,Nat.sub_zero,Nat.min_self,List.take_length,List.take_take,vm]|refine Ae ?_|refine Sz.s ?_|(refine And.intro ?_ ?_;focus omega))
    exact congrArg I.sl (UU BS hk)
  ·refine By (cj (Cq jk) km) ?_;exact⟨k+1,⟨by omega,BR (d:=default) jg jk km⟩,by omega,rfl⟩
 ·have ku:HW l s=k:=JI jg hk (.inl (by omega));have jo:B6 l s=l.take k++[s]++l.drop k:=by rw[UT ku,if_neg];omega
  rw[jo];have vm:min k l.length=k:=by omega
  have hleT:(k<=l.length)=True:=eq_true (by omega)
  (repeat' first|simp(disch:=omega)only[go_sem,simprocAttr,Ih jk,<-List.map_take,<-List.map_drop,Rv,Rx,Py,Pz,List.length_map,List.length_take,List.length_drop,Nat.zero_add,Nat.sub_zero,Nat.min_self,List.take_length,List.take_take,vm]|refine Ae ?_|refine Sz.s ?_|(refine And.intro ?_ ?_;focus omega))
  exact congrArg I.sl (UU BS hk)
mutual
def E7:Xpr->List AT×List AT->List AT×List AT
 |.mk k _ n t _ _ _ _ a,acc=>dirRs a (if k=3\/k=4 then B6 acc.1 n else acc.1,if k=5 then B6 acc.2 t else acc.2)
def dirRs:List Xpr->List AT×List AT->List AT×List AT
 |[],acc=>acc
 |x::r,acc=>dirRs r (E7 x acc)
end
def GM(x:Xpr)(acc:List AT×List AT):List AT×List AT:=(if x.kind=3\/x.kind=4 then B6 acc.1 x.name else acc.1,if x.kind=5 then B6 acc.2 x.table else acc.2)
theorem aJ(x:Xpr)(acc:List AT×List AT):E7 x acc=dirRs x.args (GM x acc):=by cases x;rfl
theorem aK(x:Xpr)(acc:List AT×List AT):(GM x acc).1.length<=acc.1.length+1/\(GM x acc).2.length<=acc.2.length+1:=by grind[Ur,GM]
mutual
theorem UW:∀(x:Xpr) (acc:List AT×List AT),(E7 x acc).1.length<=acc.1.length+Bs x/\(E7 x acc).2.length<=acc.2.length+Bs x
 |.mk k o n t v u p w a,acc=>by have h1:=aK (.mk k o n t v u p w a) acc;have h2:=dirRs_len a (GM (.mk k o n t v u p w a) acc);rw[aJ];have h3:=Ej (.mk k o n t v u p w a);simp only[Xpr.args]at h3⊢;omega
theorem dirRs_len:∀(a:List Xpr) (acc:List AT×List AT),(dirRs a acc).1.length<=acc.1.length+sizeXs a/\(dirRs a acc).2.length<=acc.2.length+sizeXs a
 |[],acc=>by simp[dirRs,sizeXs]
 |x::r,acc=>by have h1:=UW x acc;have h2:=dirRs_len r (E7 x acc);grind[dirRs,sizeXs]
end
theorem xk(l:List Xpr)(i:Nat)(h:i<l.length)(acc:List AT×List AT):dirRs (l.take (i+1)) acc=E7 (l.getD i default) (dirRs (l.take i) acc):=by
 induction l generalizing i acc with
 |nil=>simp at h
 |cons x r ih=>
  cases i with
  |zero=>simp[dirRs]
  |succ i=>simp only[List.take_succ_cons,dirRs,List.getD_cons_succ];exact ih i (by simpa using h) _
def RM(r:List AT×List AT):I:=.tup [.sl (r.1.map BS),.sl (r.2.map BS)]
theorem xl:∀(m:Nat) (x:Xpr) (acc:List AT×List AT),Bs x<=m->acc.1.length+Bs x<=1073741823->acc.2.length+Bs x<=1073741823->Is mx 294 [.agg (eE x),.sl (acc.1.map BS),.sl (acc.2.map BS)] (RM (E7 x acc)):=by
 intro m
 induction m with
 |zero=>intro x acc h;have:=Fs x;omega
 |succ m ih=>
  intro x acc hm qe ko;have j0:=Ej x;have jd:=ND x.args;have hp:=Fs x;have h1:=UV (mx:=mx) acc.1 x.name (by omega);have h2:=UV (mx:=mx) acc.2 x.table (by omega);have hH:=aK x acc;rw[aJ];have hd:GM x acc=(if x.kind=3\/x.kind=4 then B6 acc.1 x.name else acc.1,if x.kind=5 then B6 acc.2 x.table else acc.2):=rfl;generalize GM x acc=q at hH hd;refine MX ol ?_;refine OG ?_;refine Dl.cutS [2,3] (by simp only[V0,MQ,reduceIte,Nat.reduceEqDiff];rfl) [(1,.i (.sl (q.1.map BS)))] [] True ?_ (fun _=>?_)
  ·rw[hd];refine Dp h1 (cj ?_ ?_)
   ·intro h h';rw[if_pos h']
   ·intro _ _;rw[if_neg (by omega)]
  refine OG ?_;refine Dl.cutS [1,3] (by simp only[V0,MQ,reduceIte,Nat.reduceEqDiff];rfl) [(2,.i (.sl (q.2.map BS)))] [] True ?_ (fun _=>?_)
  ·rw[hd];refine Dp h2 (cj ?_ ?_)
   ·intro h h';rw[if_pos h']
   ·intro h h';rw[if_neg h']
  refine OG ?_;refine lS [3] (fun i=>[(8,.i (iI i)),(1,.i (.sl ((dirRs (x.args.take i) q).1.map BS))),(2,.i (.sl ((dirRs (x.args.take i) q).2.map BS)))]) (fun _=>[]) (fun _=>True) x.args.length ?_;intro i hi _;have jj:=Fr x.args (i+1);have hle0:=Fr x.args i;have xh:=dirRs_len (x.args.take i) q;by_cases ja:i<x.args.length
  ·have hsi:=Hd x.args i ja;rw[<-AS ja]at hsi;have i1:=ih (x.args.getD i default) (dirRs (x.args.take i) q) (by omega) (by omega) (by omega);have hT:=xk x.args i ja q;refine Ka (cj i1 (cj (Cq ja) @RM.eq_1)) ?_;rw[hT];exact⟨rfl,rfl⟩
  ·have e:x.args.take i=x.args:=List.take_of_length_le (by omega);rw[e];exact Hw (cj (Ih ja) @RM.eq_1) trivial
end
section
def N2(b:Bool)(nm:Nat)(l:List AT):D:=if b=true then .i (.sl (l.map BS))else .ref (.sl nm 1 0 0)
def N3(b:Bool)(nm:Nat):List (Nat×Blk):=if b=true then[]else[(nm,.rows 9 1 [])]
def GN(l:List Ftr)(acc:List AT):List AT:=l.foldl (fun acc f=>B6 acc f.name) acc
def AY(c:Cat):List AT:=GN c.features []
theorem RN:∀(l:List Ftr) (acc:List AT),(GN l acc).length<=acc.length+l.length
 |[],acc=>by simp[GN]
 |f::r,acc=>by have h1:=RN r (B6 acc f.name);grind[Ur,GN]
theorem xm(l:List Ftr)(i:Nat)(h:i<l.length)(acc:List AT):GN (l.take (i+1)) acc=B6 (GN (l.take i) acc) (l.getD i default).name:=by rw[List.take_succ_eq_append_getElem h,GN,List.foldl_append,AS h];rfl
theorem xn(c:Cat)(hc:c.features.length<=1073741823):Is mx 262 [.agg (At c)] (.sl ((AY c).map BS)):=by
 refine MX pu ?_
 (repeat' first|simp(disch:=omega)only[go_sem,reduceCtorEq,Nat.reduceEqDiff]|fail)
 refine BG [1] (by simp only[V0,MQ,reduceIte,Nat.reduceEqDiff];rfl) (fun g:Bool×Nat=>[(3,N2 g.1 3 (GN (c.features.take g.2) [])),(4,.i (iI g.2))]) (fun g=>N3 g.1 3)
  (fun g=>g.2<=c.features.length/\(g.1=false->g.2=0)) (fun g=>c.features.length-g.2) (false,0) (by simp) (by simp[N2,N3,V0,I9,L9,Ref.nm]) ?_
 rintro⟨b,i⟩ ⟨hi,hb⟩;simp only at hi hb;have jd:=RN (c.features.take i) [];rw[List.length_take,List.length_nil]at jd;by_cases ja:i<c.features.length
 ·have h1:=UV (mx:=mx) (GN (c.features.take i) []) (c.features.getD i default).name (by omega);rw[<-xm _ _ ja]at h1;cases b
  ·obtain rfl:=hb rfl;simp only[N2,N3];simp only[List.take_zero,GN,List.foldl_nil,List.map_nil]at h1
   (repeat' first|simp(disch:=omega)only[go_sem,Nat.reduceAdd,Nat.reduceEqDiff,Nat.reduceLeDiff,Cq ja,if_true,if_false,Bool.false_eq_true]|refine Ab (h1) ?_|refine Ae ?_|refine Pj ?_ ?_|fail)
   exact⟨(true,1),⟨ja,by simp⟩,by show c.features.length-1<_;omega,⟨rfl,rfl⟩,trivial,rfl,rfl⟩
  ·simp only[N2,N3];refine A4 (cj h1 (Cq ja)) ?_;exact⟨(true,i+1),⟨ja,by simp⟩,by show c.features.length-(i+1)<_;omega,⟨rfl,rfl⟩,trivial,rfl,rfl⟩
 ·have e:c.features.take i=c.features:=List.take_of_length_le (by omega);rw[e];cases b
  ·obtain rfl:=hb rfl;have e2:c.features=[]:=List.eq_nil_of_length_eq_zero (by omega);simp only[N2,N3,AY,e2]
   (repeat' first|simp(disch:=omega)only[go_sem,Nat.reduceAdd,Nat.reduceEqDiff,Nat.reduceLeDiff,if_true,if_false,Bool.false_eq_true,List.length_nil,Int.lt_irrefl]|refine Ae ?_|refine Gw (R:=gu _) ?_|fail)
   all_goals(try rfl)
  ·simp only[N2,N3,AY];exact By (Ih ja) trivial
def IQ(c:Cat)(name:AT):Xpr:=((BX c.features name).getD CL).body
def Gg(c:Cat)(name:AT):List AT:=(E7 (IQ c name) ([],[])).1.filter fun n=>(BX c.features n).isSome
theorem aL{c:Cat}(hc:AP c<=1073741824)(name:AT):bX (IQ c name)<=1073741823:=by
 unfold IQ BX;cases h:c.features.find? fun f=>decide (f.name=name)with
 |none=>simp;decide
 |some f=>grind[Ce,Cd,Bl,Hj]
theorem PQ{α:Type}[Inhabited α](p:α->Bool)(l:List α)(i:Nat)(h:i<l.length):(l.take (i+1)).filter p=if p (l.getD i default)=true then(l.take i).filter p++[l.getD i default]else(l.take i).filter p:=by rw[List.take_succ_eq_append_getElem h,List.filter_append,AS h];grind
theorem xo(c:Cat)(name:AT)(hc:AP c<=1073741824):Is mx 263 [.agg (At c),.str name] (.sl ((Gg c name).map BS)):=by
 have hcf:c.features.length<=1073741824:=by grind[Ce,Dm]
 have hbo:=aL hc name;have j0:=NF (IQ c name);have h1:=aI (mx:=mx) c name hcf;have h2:=xl (mx:=mx) _ (IQ c name) ([],[]) (Nat.le_refl _) (by simp;omega) (by simp;omega);have xh:=UW (IQ c name) ([],[]);have hR:Gg c name=(E7 (IQ c name) ([],[])).1.filter fun n=>(BX c.features n).isSome:=rfl
 simp only[List.length_nil,Nat.zero_add]at xh;unfold IQ at h2 hR xh j0 hbo;generalize hF:(BX c.features name).getD CL=F at h2 hR xh j0 hbo;generalize (E7 F.body ([],[]))=q at h2 hR xh;rw[hR];simp only[N1,hF,List.map_nil]at h1 h2;refine MX qO ?_;refine Dp (cj h1 (cj h2 @RM.eq_1)) ?_;refine lT [2,7] (fun i:Nat=>[(9,.ref (.sl 9 1 0 ((q.1.take i).filter fun n=>(BX c.features n).isSome).length)),(10,.i (iI i))]) (fun i=>[(9,.rows 9 1 (((q.1.take i).filter fun n=>(BX c.features n).isSome).map BS))]) (fun i=>i<=q.1.length) (fun i=>q.1.length-i) 0 ?_;intro i hi;have hfl:((q.1.take i).filter fun n=>(BX c.features n).isSome).length<=i:=Nat.le_trans (List.length_filter_le _ _) (by simp;omega);by_cases ja:i<q.1.length
 ·have h3:=aI (mx:=mx) c (q.1.getD i default) hcf;have wb:=PQ (fun n=>(BX c.features n).isSome) q.1 i ja;generalize (q.1.take i).filter (fun n=>(BX c.features n).isSome)=acc at wb hfl;cases hs:(BX c.features (q.1.getD i default)).isSome
  ·rw[if_neg (by rw[hs];simp)]at wb;refine Hw (cj h3 (cj (Cq ja) (cj @N1.eq_1 hs))) ?_;exact⟨i+1,by omega,by omega,by rw[wb];exact⟨rfl,rfl⟩,by rw[wb]⟩
  ·rw[if_pos hs]at wb;refine ne (cj h3 (cj (Cq ja) (cj @N1.eq_1 (cj hs (cj @Py @Pz))))) ?_;exact⟨i+1,by omega,by omega,by rw[wb];exact⟨by simp,rfl⟩,by rw[wb];simp⟩
 ·have e:q.1.take i=q.1:=List.take_of_length_le (by omega);rw[e];exact By (Ih ja) trivial
end
section
abbrev IS(k:Nat):List I:=[iI (k:Int)]
abbrev PR(r:List Nat):List I:=[.sl (r.map IS)]
def Mz(ns:List AT)(l:List AT):List Nat:=(List.range ns.length).filter fun k=>BA l (ns.getD k default)
def Wv(c:Cat)(ns:List AT):List (List Nat):=ns.map fun n=>Mz ns (Gg c n)
theorem xp(ns:List AT)(l:List AT)(k:Nat):((List.range (k+1)).filter fun k=>BA l (ns.getD k default))=if BA l (ns.getD k default)=true then((List.range k).filter fun k=>BA l (ns.getD k default))++[k]else((List.range k).filter fun k=>BA l (ns.getD k default)):=by rw[List.range_succ,List.filter_append];grind
theorem xq(c:Cat)(hc:AP c<=1073741823)(hn:(AY c).length<=1073741823)(hnx:∀n,(Gg c n).length<=1073741823):Is mx 212 [.agg (At c)] (.tup [.sl ((AY c).map BS),.sl ((Wv c (AY c)).map PR)]):=by
 have hcf:c.features.length<=1073741823:=by grind[Ce,Dm]
 have h1:=xn (mx:=mx) c hcf;generalize hns:AY c=ns at h1 hn;refine MX qE ?_;refine Dp h1 ?_;refine lT [1,4] (fun i:Nat=>[(5,.ref (.sl 5 1 0 i)),(6,.i (iI i))]) (fun i=>[(5,.rows 96 1 (((Wv c ns).take i).map PR))]) (fun i=>i<=ns.length) (fun i=>ns.length-i) 0 ?_;intro i hi;have hla:((Wv c ns).take i).length=i:=by grind[Wv]
 by_cases ja:i<ns.length
 ·have h2:=xo (mx:=mx) c (ns.getD i default) (by omega);have hl2:=hnx (ns.getD i default);have hto:(Wv c ns).take (i+1)=(Wv c ns).take i++[Mz ns (Gg c (ns.getD i default))]:=by simp only[Wv];rw[<-List.map_take,<-List.map_take,List.take_succ_eq_append_getElem ja,List.map_append,AS ja];rfl
  generalize Gg c (ns.getD i default)=nx at h2 hl2 hto;refine Hw (cj h2 (Cq ja)) ?_;refine lT [1,4,5,6,7] (fun k:Nat=>[(8,.ref (.sl 8 1 0 ((List.range k).filter fun k=>BA nx (ns.getD k default)).length)),(9,.i (iI k))]) (fun k=>[(8,.rows 3 1 (((List.range k).filter fun k=>BA nx (ns.getD k default)).map IS)),(5,.rows 96 1 (((Wv c ns).take i).map PR))]) (fun k=>k<=ns.length) (fun k=>ns.length-k) 0 ?_;intro k hk;have hfl:((List.range k).filter fun k=>BA nx (ns.getD k default)).length<=k:=Nat.le_trans (List.length_filter_le _ _) (by simp);by_cases jk:k<ns.length
  ·have h3:=wZ (mx:=mx) nx (ns.getD k default) (by omega);have wd:=xp ns nx k;generalize wo:(List.range k).filter (fun k=>BA nx (ns.getD k default))=acc at wd hfl;cases hs:BA nx (ns.getD k default)
   ·rw[if_neg (by rw[hs];simp)]at wd;refine Dp (cj h3 (cj (Cq jk) hs)) ?_;exact⟨k+1,by omega,by omega,by rw[wd];exact⟨rfl,rfl⟩,by rw[wd]⟩
   ·rw[if_pos hs]at wd;refine A4 (cj h3 (cj (Cq jk) hs)) ?_;refine⟨by simp,by simp[I.one],by omega,by omega,k+1,by omega,by omega,by rw[wd];exact⟨by simp,rfl⟩,by rw[wd];simp[]⟩
  ·have qo:k=ns.length:=by omega
   have hadj:(List.range ns.length).filter (fun k=>BA nx (ns.getD k default))=Mz ns nx:=rfl;rw[qo,hadj];have hnF:¬ns.length<ns.length:=by omega
   have hlm:((Mz ns nx).map IS).length=(Mz ns nx).length:=by simp
   refine By (cj (Ih hnF) (cj hlm hla)) ?_;refine⟨by simp,by simp[I.one],by omega,by omega,i+1,by omega,by omega,⟨rfl,rfl⟩,?_⟩;rw[hto];simp[List.take_take]
 ·have e:(Wv c ns).take i=Wv c ns:=List.take_of_length_le (by simp[Wv];omega);rw[e];rw[e]at hla;refine Hw (cj (Ih ja) hla) ?_;rw[List.take_of_length_le (by simp;omega)]
def gk(target:Nat)(d:List Nat)(t:Nat):Nat:=if t=target then 1 else d.getD t 0+1
def Dv(target i:Nat)(d:List Nat)(t:Nat):List Nat:=if gk target d t<d.getD i 0 then d.set i (gk target d t)else d
def C8(target i:Nat)(r:List Nat)(d:List Nat):List Nat:=r.foldl (Dv target i) d
def Cm(to:List (List Nat))(target n:Nat)(d:List Nat):List Nat:=(List.range n).foldl (fun d i=>C8 target i (to.getD i []) d) d
def CR:List Nat->Nat
 |[]=>0
 |a::r=>a+CR r
theorem aM:∀(d:List Nat) (i v:Nat),i<d.length->CR (d.set i v)+d.getD i 0=CR d+v
 |[],i,v,h=>by simp at h
 |a::r,0,v,h=>by grind[CR]
 |a::r,i+1,v,h=>by have:=aM r i v (by simpa using h);grind[CR]
theorem xr(target i:Nat)(d:List Nat)(t:Nat):(Dv target i d t).length=d.length:=by grind[Dv]
theorem UX(target i:Nat)(d:List Nat)(t:Nat):CR (Dv target i d t)<=CR d/\(Dv target i d t≠d->CR (Dv target i d t)<CR d):=by grind[CR,aM,Dv]
theorem UY(target i:Nat):∀(r:List Nat) (d:List Nat),(C8 target i r d).length=d.length
 |[],d=>rfl
 |t::r,d=>by simp only[C8,List.foldl_cons];have:=UY target i r (Dv target i d t);rw[C8]at this;rw[this,xr]
theorem PS(target i:Nat):∀(r:List Nat) (d:List Nat),CR (C8 target i r d)<=CR d/\(C8 target i r d≠d->CR (C8 target i r d)<CR d)
 |[],d=>⟨Nat.le_refl _,fun h=>(h rfl).elim⟩
 |t::r,d=>by have h1:=UX target i d t;have h2:=PS target i r (Dv target i d t);grind[C8,Dv]
theorem N4(to:List (List Nat))(target n:Nat)(d:List Nat):Cm to target (n+1) d=C8 target n (to.getD n []) (Cm to target n d):=by simp only[Cm,List.range_succ,List.foldl_append,List.foldl_cons,List.foldl_nil]
theorem UZ(to:List (List Nat))(target:Nat):∀(n:Nat) (d:List Nat),(Cm to target n d).length=d.length
 |0,d=>rfl
 |n+1,d=>by rw[N4,UY,UZ to target n d]
theorem MA(to:List (List Nat))(target:Nat):∀(n:Nat) (d:List Nat),CR (Cm to target n d)<=CR d/\(Cm to target n d≠d->CR (Cm to target n d)<CR d)
 |0,d=>⟨Nat.le_refl _,fun h=>(h rfl).elim⟩
 |n+1,d=>by have h1:=MA to target n d;grind[PS,Cm,N4]
def E8(to:List (List Nat))(target:Nat):Nat->List Nat->List Nat
 |0,d=>d
 |f+1,d=>if Cm to target to.length d=d then d else E8 to target f (Cm to target to.length d)
theorem aN(to:List (List Nat))(target:Nat):∀(f:Nat) (d:List Nat),CR d<=f->Cm to target to.length (E8 to target f d)=E8 to target f d
 |0,d,h=>by
  have:=(MA to target to.length d);rcases Classical.em (Cm to target to.length d=d)with e|e
  ·exact e
  ·have:=this.2 e;omega
 |f+1,d,h=>by
  unfold E8;split
  ·assumption
  ·rename_i ji;have:=(MA to target to.length d).2 ji;exact aN to target f _ (by omega)
theorem aO(to:List (List Nat))(target:Nat):∀(f:Nat) (d:List Nat),CR d<=f->E8 to target f d=if Cm to target to.length d=d then d else E8 to target f (Cm to target to.length d)
 |0,d,h=>by
  split
  ·rfl
  ·rename_i ji;have:=(MA to target to.length d).2 ji;omega
 |f+1,d,h=>by
  rw[E8];split
  ·rfl
  ·rename_i ji;have jn:=(MA to target to.length d).2 ji;rw[aO to target f _ (by omega),E8]
def Bb(to:List (List Nat))(target:Nat):List Nat:=E8 to target (1000*to.length) (List.replicate to.length 1000)
end
end Go.Proofs.YtkhlddbmhehbbaaGreatDoor
