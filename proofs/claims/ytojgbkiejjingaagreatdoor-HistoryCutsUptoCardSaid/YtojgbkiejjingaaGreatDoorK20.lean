/-
  Lemmas, no statement.
-/
import Derived.Test.YtojgbkiejjingaaGreatDoorK19
set_option linter.all false
namespace Go.Dl
open Go Go.RowKit
variable{s t:St}
def LI(s t:St):Prop:=(∀i,Af s.env i=Af t.env i)/\∀m,Ac s.sto m=Ac t.sto m
theorem LI.refl(s:St):LI s s:=⟨fun _=>rfl,fun _=>rfl⟩
theorem LI.symm(h:LI s t):LI t s:=⟨fun i=>(h.1 i).symm,fun i=>(h.2 i).symm⟩
theorem LI.trans{u:St}(h:LI s t)(k:LI t u):LI s u:=⟨fun i=>(h.1 i).trans (k.1 i),fun i=>(h.2 i).trans (k.2 i)⟩
theorem LI.put(h:LI s t)(d:Nat)(x:D):LI (s.put d x) (t.put d x):=⟨fun i=>by simp only[St.put,Af];split;rfl;exact h.1 i,h.2⟩
theorem LI.bind(h:LI s t)(d:Nat)(x:Blk):LI (s.bind d x) (t.bind d x):=⟨h.1,fun i=>by simp only[St.bind,Ac];split;rfl;exact h.2 i⟩
theorem LI.setB(h:LI s t)(d:Nat)(x:Blk):LI (s.setB d x) (t.setB d x):=⟨h.1,fun i=>by simp only[St.setB,Cl,h.2]⟩
theorem LI.names(hs:LI s t):names t.sto=names s.sto:=by funext m;simp only[Dl.names,hs.2]
theorem Rel.sim{GL:List (Nat×List I)}{n:Nat}{S:Sh}{M:Mem}{μ:Place}{st st':St}{a:Act}{w:World}(h:Rel GL n S M μ st a w)(hs:LI st st'):Rel GL n S M μ st' a w:=by have hn:=hs.names;exact{toStoOk:={sub:=h.sub,blk:=fun nm b hb=>by rw[hn];exact h.blk nm b (by rw[hs.2];exact hb),sep:=fun nm nm' k k' jh h1 h2=>h.sep nm nm' k k' jh (by rw[<-hn];exact h1) (by rw[<-hn];exact h2),low:=h.low},small:=h.small,pin:=h.pin,defers:=h.defers,size:=h.size,env:=fun s=>by rw[hn,<-hs.1];exact h.env s,glob:=h.glob}
def Hx(st:St):Prop:=(∀s,∀nm∈(Af st.env s).nms,names st.sto nm)/\∀nm b,Ac st.sto nm=some b->∀m∈b.nms,names st.sto m
theorem Rel.closed{GL:List (Nat×List I)}{n:Nat}{S:Sh}{M:Mem}{μ:Place}{st:St}{a:Act}{w:World}(h:Rel GL n S M μ st a w):Hx st:=by
 refine⟨fun s nm hn=>(h.env s).name nm hn,fun nm b hg m hm=>?_⟩;cases b with
 |cells cs=>obtain⟨b,vs,t,_,_,hs,hr⟩:=h.blk nm _ hg;obtain⟨d,hd,hdm⟩:=List.mem_flatMap.1 hm;obtain⟨j,hj,rfl⟩:=List.mem_iff_getElem.1 hd;exact(hr j hj (by omega)).name m hdm
 |lp l q cs=>obtain⟨vs,_,_,hs,hr⟩:=h.blk nm _ hg;obtain⟨d,hd,hdm⟩:=List.mem_flatMap.1 hm;obtain⟨j,hj,rfl⟩:=List.mem_iff_getElem.1 hd;exact(hr j hj (by omega)).name m hdm
 |gmap ls clk es=>obtain⟨b,xs,_,_,he,_⟩:=h.blk nm _ hg;obtain⟨d,hd,hdm⟩:=List.mem_flatMap.1 hm;obtain⟨j,hj,rfl⟩:=List.mem_iff_getElem.1 hd;exact(he.2 j hj (by rw[he.1];exact hj)).2.2.name m hdm
 |_=>simp[Blk.nms]at hm
theorem Hx.sim(h:Hx s)(hs:LI s t):Hx t:=
 ⟨fun i nm hn=>by rw[hs.names];exact h.1 i nm (by rw[hs.1];exact hn),fun nm b hg m hm=>by rw[hs.names];exact h.2 nm b (by rw[hs.2];exact hg) m hm⟩
section
variable (P:Program)(GL:List (Nat×List I))(sn:List Nat)
def looks:Ins->Bool
 |.load _ _ _ _|.ia _ _ _ _|.slc _ _ _ _ _=>true
 |_=>false
def FK:Ins->Bool
 |.lookup _ _ _ _ _ _|.lenm _ _=>true
 |_=>false
def vQ(P:Program)(GL:List (Nat×List I))(f:FuncId)(ds:List D)(y:I):Prop:=MC P GL f ds [] [] fun r s=>r=.i y/\s=[]
def Bt(ins:Ins)(x:Option I)(st:St):Prop:=
 match ins with
 |.call _ f args=>(args.all fun o=>G5 (AL GL st o))=true/\∃y,x=some y/\vQ P GL f (args.map (AL GL st)) y
 |.callv _ fo args=>G5 (AL GL st fo)=true/\(args.all fun o=>G5 (AL GL st o))=true/\∃p y,EE (AL GL st fo) (args.map (AL GL st))=some p/\x=some y/\vQ P GL p.1 p.2 y
 |.alloc d zs=>Ac st.sto d=none/\(zs.map D.i).all Da=true
 |.mupd ox oq ov ls=>match AL GL st ox,AL GL st oq,AL GL st ov with
  |.ref (.mp nm),.i q,.i _=>Au ls q=true/\match Ac st.sto nm with
   |some (.map ls' _)=>ls'=ls
   |_=>False
  |_,_,_=>False
 |.store ox ov k=>match AL GL st ox with
  |.ref (.loc nm off)=>nm∈sn/\match Ac st.sto nm with
   |some (.cells cs)=>(AT (AL GL st ov)).length=k/\(AT (AL GL st ov)).all Da=true/\off+k<=cs.length
   |_=>False
  |_=>False
 |ins=>(Bp ins).isSome/\(pv (AL GL st) (Ac st.sto) ins).2/\(looks ins=true->∀o∈Bm ins,∀nm∈(AL GL st o).nms,nm∉sn)
def Cx(ins:Ins)(x:Option I)(st:St):St:=
 match ins with
 |.call d _ _=>match d,x with
  |some s,some y=>st.put s (.i y)
  |_,_=>st
 |.callv d _ _=>match d,x with
  |some s,some y=>st.put s (.i y)
  |_,_=>st
 |.mupd ox oq ov ls=>match AL GL st ox,AL GL st oq,AL GL st ov with
  |.ref (.mp nm),.i q,.i u=>match Ac st.sto nm with
   |some (.map _ es)=>st.setB nm (.map ls (Dp es q u))
   |_=>st
  |_,_,_=>st
 |.alloc d zs=>(st.bind d (.cells (zs.map .i))).put d (.ref (.loc d 0))
 |.store ox ov _=>match AL GL st ox with
  |.ref (.loc nm off)=>match Ac st.sto nm with
   |some (.cells cs)=>st.setB nm (.cells (setL cs off (AT (AL GL st ov))))
   |_=>st
  |_=>st
 |ins=>match Bp ins with
  |some d=>st.put d (pv (AL GL st) (Ac st.sto) ins).1
  |none=>st
def AS(g:Option (Nat×Bool))(st:St):Option Bool:=
 match g with
 |none=>some true
 |some (s,want)=>match Af st.env s with
  |.i (.bool b)=>some (b==want)
  |.i .undef=>some false
  |_=>none
abbrev X:=GI×Option I
def Bz(g:X)(st:St):Prop:=match AS g.1.gd st with
 |none=>False
 |some true=>Bt P GL sn g.1.ins g.2 st
 |some false=>True
def A3(g:X)(st:St):St:=match AS g.1.gd st with
 |some true=>Cx GL g.1.ins g.2 st
 |_=>Bg g.1.ins st
def C2:List X->St->(St->Prop)->Prop
 |[],st,K=>K st
 |g::r,st,K=>Bz P GL sn g st/\C2 r (A3 GL g st) K
def EH:O->List Nat
 |.t n=>[n]
 |_=>[]
def Co(g:GI):List Nat:=(match g.gd with|some (s,_)=>[s]|none=>[])++(Bm g.ins).flatMap EH
def Gx:Ins->Bool
 |.store _ _ _=>true
 |_=>false
def E8:Ins->Bool
 |.mupd _ _ _ _=>true
 |_=>false
def FL(a b:GI):Bool:=
 (match a.ins.dst with|some d=>!(Co b).contains d&&b.ins.dst !=some d|none=>true)&&(match b.ins.dst with|some d=>!(Co a).contains d|none=>true)&&!(Gx a.ins&&Gx b.ins)&&!(E8 a.ins&&(E8 b.ins||FK b.ins))&&!(E8 b.ins&&FK a.ins)
end
section
variable {P:Program}{GL:List (Nat×List I)}{sn:List Nat}
theorem P4(h:LI s t):AL GL s=AL GL t:=by funext o;cases o<;>simp[AL,h.1]
theorem T1(h:LI s t)(g:Option (Nat×Bool)):AS g s=AS g t:=by
 cases g with
 |none=>rfl
 |some p=>simp only[AS,h.1]
theorem ay(h:LI s t)(ins:Ins)(x:Option I):Bt P GL sn ins x s↔Bt P GL sn ins x t:=by have e:Ac s.sto=Ac t.sto:=funext h.2;have eo:AL GL s=AL GL t:=P4 h;simp_all[Bt]
theorem az(h:LI s t)(ins:Ins)(x:Option I):LI (Cx GL ins x s) (Cx GL ins x t):=by
 have e:Ac s.sto=Ac t.sto:=funext h.2;cases ins<;>simp only[Cx,P4 h,e]
 case alloc=>exact(h.bind _ _).put _ _
 case store=>split;split;exact h.setB _ _;exact h;exact h
 case mupd=>split;split;exact h.setB _ _;exact h;exact h
 case call=>split;exact h.put _ _;exact h
 case callv=>split;exact h.put _ _;exact h
 all_goals first|(split;exact h.put _ _;exact h)|exact h
theorem aA(h:LI s t)(ins:Ins):LI (Bg ins s) (Bg ins t):=by unfold Bg;split;exact h.put _ _;exact h
theorem aB(h:LI s t)(g:X):Bz P GL sn g s↔Bz P GL sn g t:=by grind[Bz,T1,ay]
theorem aC(h:LI s t)(g:X):LI (A3 GL g s) (A3 GL g t):=by grind[A3,T1,az,aA]
theorem NS:∀(l:List X) {s t:St} {K:St->Prop},LI s t->C2 P GL sn l s K->C2 P GL sn l t (fun u=>∃v,K v/\LI v u)
 |[],s,t,K,h,hr=>⟨s,hr,h⟩
 |g::r,s,t,K,h,hr=>⟨(aB h g).1 hr.1,NS r (aC h g) hr.2⟩
theorem Ek:∀(l:List X) {s:St} {K K':St->Prop},(∀u,K u->K' u)->C2 P GL sn l s K->C2 P GL sn l s K'
 |[],s,K,K',h,hr=>h _ hr
 |g::r,s,K,K',h,hr=>⟨hr.1,Ek r h hr.2⟩
end
end Go.Dl
