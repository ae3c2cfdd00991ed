/-
  Lemmas, no statement.
-/
import Derived.Test.YtojgbkiejjingaaGreatDoorK23
set_option linter.all false
namespace Go.Dl
open Go Go.RowKit
variable{st:St}{K K':St->Prop}{w w':World}{M:Mem}{a:Act}{o:Oper}{ins:Ins}{sn:List Nat}{μ:Place}{ops:Array Oper}{d:Nat}{Q:Exit->Act->World->Prop}{zero:I}{ok:Bool}
inductive IR where
 |skip
 |reg (gs:List GI)
 |dreg (sn:List Nat) (gs:List GI) (post:List Nat)
 |seq (a b:IR)
 |cut (a b:IR)
 |cond (c:O) (a b:IR)
 |block (id:Nat) (c:IR)
 |loop (c:IR)
 |exit (id:Nat)
 |ret
 |rf (n:Nat) (og:O) (ps:List Nat) (ia ib:IR)
def rX(b:Nat):Deferred:={target:=.collected b,args:=#[]}
structure Grow(S S':Sh)(w':World):Prop where
 p:∀b,S.p b->S'.p b
 q:S'.q=S.q
 ds:∃bs:List Nat,S'.ds=bs.map rX++S.ds/\bs.Nodup/\∀b∈bs,S'.p b/\¬S.p b/\w'.heap[b]? =some (.deferred (some []))
theorem Grow.refl(S:Sh)(w:World):Grow S S w:=⟨fun _ h=>h,rfl,[],rfl,List.nodup_nil,by simp⟩
theorem Grow.trans{S S' S'':Sh}{w'':World}(h:Grow S S' w')(k:Grow S' S'' w'')(hk:Keeps S'.p w' w''):Grow S S'' w'':=by
 obtain⟨bs,e,nd,hb⟩:=h.ds;obtain⟨cs,e',nd',hc⟩:=k.ds;refine⟨fun b hb=>k.p b (h.p b hb),k.q.trans h.q,cs++bs,by rw[e',e];simp,?_,?_⟩
 ·rw[List.nodup_append];refine⟨nd',nd,fun x hx y hy hxy=>?_⟩;subst hxy;exact(hc x hx).2.1 (hb x hy).1
 ·intro b hm;rcases List.mem_append.1 hm with hm|hm
  ·obtain⟨h1,h2,h3⟩:=hc b hm;exact⟨h1,fun hp=>h2 (h.p b hp),h3⟩
  ·obtain⟨h1,h2,h3⟩:=hb b hm;exact⟨k.p b h1,h2,(hk.block b h1).trans h3⟩
def CU(GL:List (Nat×List I))(n:Nat)(S:Sh)(M:Mem)(w:World)(st':St)(a':Act)(w':World):Prop:=
 ∃S',Grow S S' w'/\∃M' μ',Rel GL n S' M' μ' st' a' w'/\MExt S.p M M'/\Keeps S.p w w'
theorem MExt.less{S S':Nat->Prop}{M':Mem}(h:MExt S M M')(hs:∀b,S' b->S b):MExt S' M M':=⟨h.le,fun b hb=>h.old b (hs b hb)⟩
section
variable {GL:List (Nat×List I)}{n:Nat}{S S':Sh}
theorem vN.c{st':St}{a':Act}(h:vN GL n S M w st' a' w'):CU GL n S M w st' a' w':=by obtain⟨M',μ',h,hm,hb⟩:=h;exact⟨S,Grow.refl S _,M',μ',h,hm,hb⟩
theorem CU.of(h:Rel GL n S M μ st a w):CU GL n S M w st a w:=(vN.of h).c
theorem CU.trans{M':Mem}{w'':World}{st'':St}{a'':Act}(hg:Grow S S' w')(hm:MExt S.p M M')(hb:Keeps S.p w w')(k:CU GL n S' M' w' st'' a'' w''):CU GL n S M w st'' a'' w'':=by obtain⟨S2,g2,M2,μ2,h2,hm2,qm⟩:=k;exact⟨S2,hg.trans g2 qm,M2,μ2,h2,hm.trans (hm2.less hg.p),hb.trans (qm.mono hg.p)⟩
end
def AZ(GL:List (Nat×List I))(n:Nat)(S:Sh)(M:Mem)(w:World)(K:Exit->St->Prop):Exit->Act->World->Prop:=
 fun e a' w'=>∃st',K e st'/\CU GL n S M w st' a' w'
def FR(r:Option Nat):Fence:={Fence.wide with round:=r}
theorem aR:FR none=Fence.wide:=rfl
section
variable (P:Program)(GL:List (Nat×List I))(n:Nat)(mu:List Nat)
def Dv(ops:Array Oper)(o:Oper):Option GI:=
 let ins:=(Gw P GL n mu o).getD (.no o.dst)
 match o.guard with
 |none=>some ⟨none,ins⟩
 |some (j,want)=>match(ops[j]?).bind (·.dst)with
  |some t=>if t<n/\ins.dst=o.dst/\IP n o=true then some ⟨some (t,want),ins⟩else none
  |none=>none
def C4(ops:Array Oper):Option (List GI):=ops.toList.mapM (Dv P GL n mu ops)
def AU(ops:List Oper):List (List Nat):=
 ops.foldl (fun acc o=>acc++[let ds:=(o.after.toList.filter fun e=>Region.binds .any e).map (·.on);(ds++ds.flatMap fun d=>acc.getD d []).eraseDups]) []
def Fa(ops:List Oper)(anc:List (List Nat)):Bool:=
 (List.range ops.length).all fun i=>match ops[i]? with
  |some o=>(o.after.all fun e=>!Region.binds .any e||decide (e.on<i))&&(anc.getD i []).all fun j=>o.after.any fun e=>Region.binds .any e&&(e.on==j||(anc.getD e.on []).contains j)
  |none=>false
def FO(ops:List Oper)(gs:List GI):Bool:=
 let anc:=AU ops
 Fa ops anc&&(List.range ops.length).all fun i=>match gs[i]? with
  |some g=>(List.range i).all fun j=>(anc.getD i []).contains j||(match gs[j]? with|some h=>FL h g|none=>false)
  |none=>false
def NW(ops:List Oper):Bool:=
 (List.range ops.length).all fun i=>match ops[i]? with
  |some o=>(o.after.all fun e=>!Region.binds .any e||decide (e.on<i))&&(i==0||o.after.any fun e=>Region.binds .any e&&e.on+1==i)
  |none=>false
def Ma(gs:List GI):List Nat:=gs.filterMap fun g=>match g.ins with|.store (.t s) _ _=>some s|_=>none
def FQ(ins:Ins):Bool:=match ins with
 |.call _ _ _|.callv _ _ _|.alloc _ _|.mupd _ _ _ _|.store _ _ _=>true
 |ins=>(Bp ins).isSome
def Hz:Ins->Bool
 |.app _ _ _ _ _ _=>true
 |.bsl _ _ _ _=>true
 |.callf _ _ _=>true
 |.callvf _ _ _=>true
 |.ment _ _ _ _ _ _ _=>true
 |.callo _ _ _=>true
 |_=>false
def Cd:Ins->List O
 |.app _ _ _ _ x y=>[x,y]
 |.ment _ x k _ _ _ _=>[x,k]
 |.callo _ _ args=>args
 |.callf _ _ args=>args
 |.callvf _ f args=>f::args
 |.bsl _ _ _ ps=>ps
 |_=>[]
def CM(anc:List (List Nat)):Nat->Nat
 |0=>0
 |p+1=>if((List.range p).all fun j=>(anc.getD p []).contains j)=true then CM anc p else p+1
def IS(rt:List (Nat×Nat))(gs:List GI):List Nat:=(Ma gs).map fun s=>match rt.find? (·.1==s)with|some p=>p.2|none=>s
def IT(rt:List (Nat×Nat))(gs:List GI):List Nat:=(Ma gs).filter fun s=>!mu.contains s&&!(rt.any (·.1==s))
def xz(gs:List GI):Bool:=gs.any fun g=>match g.ins with|.ia d _ _ _=>(Ma gs).contains d|.load _ (.t s) _ _=>(Ma gs).contains s|.fa _ (.t s) _=>(Ma gs).contains s|_=>false
def Qa(gs:List GI):Nat->Nat->Nat
 |0,s=>s
 |f+1,s=>match gs.find? fun g=>g.ins.dst==some s with
  |some g=>match g.ins with
   |.fa _ (.t x) _=>Qa gs f x
   |.mov _ (.t x)=>Qa gs f x
   |_=>s
  |none=>s
def aS(rt:List (Nat×Nat))(gs:List GI):Bool:=xz gs||gs.any fun g=>match g.ins with|.load _ (.t s) _ _=>(IS rt gs).contains (Qa gs 8 s)|_=>false
def FS:Nat:=1000000
def Sd(gs:List GI)(i:Nat):GI:=gs.getD i ⟨none,.no none⟩
def Gy(g:GI):List Nat:=match g.ins.dst with|some d=>[d]|none=>[]
def wE:Ins->Ins
 |.call d f args=>.callf d f args
 |.callv d f args=>.callvf d f args
 |.bsn d e k (p::ps)=>.bsl d e k (p::ps)
 |ins=>ins
def gF(gs:List GI)(i:Nat):GI:=⟨(Sd gs i).gd,wE (Sd gs i).ins⟩
def Gz(g:GI):List Nat:=match g.gd with|some (s,_)=>[s]|none=>[]
def qL(anc:List (List Nat))(gs:List GI)(p0 p:Nat):List Nat:=
 (List.range p).foldl (fun acc i=>if(Nat.ble p0 i&&(!FQ (Sd gs i).ins||acc.any fun q=>(anc.getD i []).contains q))=true then acc++[i]else acc) []
def Sg(ql:List Nat)(p0 p:Nat):List Nat:=(List.range p).filter fun i=>Nat.ble p0 i&&!ql.contains i
def YP(ql:List Nat)(p0 p:Nat):List Nat:=(List.range p).filter fun i=>Nat.ble p0 i&&ql.contains i
def Fb(g:GI):List Nat:=match g.ins with
 |.ext _ _ _=>Gz g
 |_=>Co g
def vR(anc:List (List Nat))(gs:List GI)(ql:List Nat)(p0 p:Nat):List Nat:=match YP ql p0 p with
 |[]=>[]
 |q1::_=>((Sg ql p0 p).filter fun i=>!(anc.getD q1 []).contains i).flatMap fun i=>Fb (Sd gs i)++Gy (Sd gs i)
def JM(ins:Ins):Bool:=match ins with
 |.call _ _ _|.callv _ _ _=>true
 |.alloc _ _|.store _ _ _|.mupd _ _ _ _=>false
 |ins=>(Bp ins).isSome
def IU(anc:List (List Nat))(gs gs':List GI)(ql:List Nat)(p0 p:Nat):Bool:=
 !(YP ql p0 p).isEmpty&&((Sg ql p0 p).all fun i=>FQ (Sd gs i).ins)
 &&((YP ql p0 p).all fun q=>Hz (gF gs' q).ins&&(gF gs' q).ins.dst.isSome&&((Gy (gF gs' q)).all fun d=>!(vR anc gs ql p0 p).contains d)&&(YP ql p0 p).all fun r=>!decide (q<r)||(anc.getD r []).contains q)
 &&((Sg ql p0 p).all fun i=>(YP ql p0 p).all fun q=>!(anc.getD i []).contains q&&((anc.getD q []).contains i||(JM (Sd gs i).ins&&((Gy (gF gs' q)).all fun d=>!(Co (Sd gs i)).contains d)&&(Gy (Sd gs i)).all fun d=>!((Cd (gF gs' q).ins).flatMap EH++Gz (gF gs' q)).contains d)))
 &&((Sg ql p0 p).all fun i=>(Gy (Sd gs i)).all fun d=>!(Co (Sd gs i)).contains d&&(Sg ql p0 p).all fun j=>!decide (j<i)||(!(Co (Sd gs j)).contains d&&!(Gy (Sd gs j)).contains d))
def NX(anc:List (List Nat))(n p:Nat):Bool:=(List.range n).all fun i=>Nat.blt i p||(List.range p).all fun j=>(anc.getD i []).contains j
def JN(anc:List (List Nat))(n:Nat):Nat->Nat->Nat
 |0,_=>n
 |f+1,p=>if NX anc n p=true then p else JN anc n f (p+1)
def T9(rt:List (Nat×Nat))(anc:List (List Nat))(gs gs':List GI)(p0 p1:Nat):Option IR:=
 if p1=p0+1 then some (.reg [Sd gs' p0])
 else if(((gs.take p1).drop p0).all fun g=>FQ g.ins)=true then some (.dreg (IS rt ((gs.take p1).drop p0)) ((gs.take p1).drop p0) (IT mu rt ((gs.take p1).drop p0)))
 else if IU anc gs gs' (qL anc gs p0 p1) p0 p1=true then some (.dreg ((vR anc gs (qL anc gs p0 p1) p0 p1).map (·+FS)) ((Sg (qL anc gs p0 p1) p0 p1).map (Sd gs)++(YP (qL anc gs p0 p1) p0 p1).map (gF gs')) [])
 else none
def Mb(rt:List (Nat×Nat))(anc:List (List Nat))(gs gs':List GI):Nat->Nat->Option IR
 |0,_=>none
 |f+1,p0=>if Nat.ble gs.length p0=true then some .skip
  else if(Nat.blt p0 (JN anc gs.length gs.length (p0+1))&&Nat.ble (JN anc gs.length gs.length (p0+1)) gs.length&&NX anc gs.length (JN anc gs.length gs.length (p0+1)))=true then
   match T9 mu rt anc gs gs' p0 (JN anc gs.length gs.length (p0+1)),Mb rt anc gs gs' f (JN anc gs.length gs.length (p0+1))with
   |some a,some b=>some (.cut a b)
   |_,_=>none
  else none
def xr:List Nat:=List.range n++mu.filter fun q=>Nat.ble 5000 q
def Ua(rt:List (Nat×Nat))(ops:Array Oper):Option IR:=
 if P.follows .mixedOrders=true then
  if NW ops.toList=true then(C4 P GL n mu ops).map .reg
  else match C4 P GL n (xr n mu) ops with
   |some gs=>if FO ops.toList gs=true then
     if((gs.all fun g=>FQ g.ins)&&!aS rt gs)=true then some (.dreg (IS rt gs) gs (IT mu rt gs))
     else match C4 P GL n mu ops with
      |some gs'=>
       if((gs.take (CM (AU ops.toList) ops.size)).all fun g=>FQ g.ins)=true then some (.cut (.dreg (IS rt (gs.take (CM (AU ops.toList) ops.size))) (gs.take (CM (AU ops.toList) ops.size)) (IT mu rt (gs.take (CM (AU ops.toList) ops.size)))) (.reg (gs'.drop (CM (AU ops.toList) ops.size))))
       else if IU (AU ops.toList) gs gs' (qL (AU ops.toList) gs 0 (CM (AU ops.toList) ops.size)) 0 (CM (AU ops.toList) ops.size)=true then some (.cut (.dreg ((vR (AU ops.toList) gs (qL (AU ops.toList) gs 0 (CM (AU ops.toList) ops.size)) 0 (CM (AU ops.toList) ops.size)).map (·+FS)) ((Sg (qL (AU ops.toList) gs 0 (CM (AU ops.toList) ops.size)) 0 (CM (AU ops.toList) ops.size)).map (Sd gs)++(YP (qL (AU ops.toList) gs 0 (CM (AU ops.toList) ops.size)) 0 (CM (AU ops.toList) ops.size)).map (gF gs')) []) (.reg (gs'.drop (CM (AU ops.toList) ops.size))))
       else match Mb mu rt (AU ops.toList) gs gs' (ops.size+1) 0 with|some c=>some c|none=>some (.reg [⟨none,.no none⟩])
      |none=>none
    else none
   |none=>none
 else none
def CN:IR->Bool
 |.rf _ _ _ _ _=>false
 |.seq a b=>CN a&&CN b
 |.cut a b=>CN a&&CN b
 |.cond _ a b=>CN a&&CN b
 |.block _ c=>CN c
 |.loop c=>CN c
 |_=>true
def comp(rt:List (Nat×Nat)):Code->Option IR
 |.skip=>some .skip
 |.region _ ops draw=>if draw then Ua P GL n mu rt ops else(C4 P GL n mu ops).map .reg
 |.seq a b=>match comp rt a,comp rt b with|some x,some y=>some (.cut x y)|_,_=>none
 |.cond c a b=>match cO GL c,comp rt a,comp rt b with|some oc,some x,some y=>some (.cond oc x y)|_,_,_=>none
 |.block id c=>(comp rt c).map (.block id)
 |.loop c=>(comp rt c).map .loop
 |.exit id=>some (.exit id)
 |.ret=>some .ret
 |.rangeFunc g ps x y=>match cO GL g,comp rt x,comp rt y with
  |some og,some ix,some iy=>if(CN ix&&CN iy&&ps.toList.all fun p=>Nat.blt p n)=true then some (.rf n og ps.toList ix iy)else none
  |_,_,_=>none
 |_=>none
def JO(W:(Exit->St->Prop)->St->Prop)(K:Exit->St->Prop):Exit->St->Prop
 |.normal,s=>W K s
 |e,s=>K e s
def C5(id:Nat)(K:Exit->St->Prop):Exit->St->Prop
 |.exit id',s=>if id'=id then K .normal s else K (.exit id') s
 |e,s=>K e s
def Ub{ι:Type}(F:ι->St)(μ:ι->Nat)(m:Nat)(K:Exit->St->Prop):Exit->St->Prop
 |.normal,s=>∃i,μ i<m/\Sub (F i) s
 |e,s=>K e s
def CV(sn:List Nat)(d:D):Prop:=∀nm∈d.nms,nm∉sn
def IV:Option Blk->Prop
 |none=>False
 |some b=>b.nms=[]
def HA(N:List Nat)(st:St):List Nat->Prop
 |[]=>True
 |m::r=>(N.contains m=false/\IV (Ac st.sto m))/\HA N st r
def De(N:List Nat)(st:St):List Nat->Prop
 |[]=>True
 |u::r=>HA N st (Af st.env u).nms/\De N st r
def YL(ins:Ins)(st:St):List Nat:=match ins with
 |.callf _ _ args=>oN GL st args
 |.callvf _ f args=>oN GL st (f::args)
 |ins=>(Cd ins).flatMap fun o=>(AL GL st o).nms
def DI(sn:List Nat):List Nat:=(sn.filter fun q=>decide (FS<=q)).map fun q=>q-FS
def FU(sn:List Nat)(ins:Ins)(st:St)(K:St->Prop):Prop:=De (YL GL ins st) st (DI sn)/\step P GL ins st K
def Ae(sn:List Nat)(ins:Ins)(st:St)(K:St->Prop):Prop:=
 match ins with
 |.call d f args=>(args.all fun o=>G5 (AL GL st o))=true/\∃y,vQ P GL f (args.map (AL GL st)) y/\K (putO st d (.i y))
 |.callv d fo args=>G5 (AL GL st fo)=true/\(args.all fun o=>G5 (AL GL st o))=true/\match EE (AL GL st fo) (args.map (AL GL st))with
  |some p=>∃y,vQ P GL p.1 p.2 y/\K (putO st d (.i y))
  |none=>False
 |.alloc d zs=>step P GL (.alloc d zs) st K
 |.mupd ox oq ov ls=>step P GL (.mupd ox oq ov ls) st K
 |.store ox ov k=>(match AL GL st ox with|.ref (.loc nm _)=>nm∈sn|_=>False)/\step P GL (.store ox ov k) st K
 |.load d x k ag=>CV sn (AL GL st x)/\step P GL (.load d x k ag) st K
 |.ia d s i k=>(CV sn (AL GL st s)/\CV sn (AL GL st i))/\step P GL (.ia d s i k) st K
 |.slc d x lo hi k=>(∀o∈Bm (.slc d x lo hi k),CV sn (AL GL st o))/\step P GL (.slc d x lo hi k) st K
 |.app d e k b x y=>FU P GL sn (.app d e k b x y) st K
 |.bsl d e k ps=>FU P GL sn (.bsl d e k ps) st K
 |.callf d f args=>FU P GL sn (.callf d f args) st K
 |.callvf d f args=>FU P GL sn (.callvf d f args) st K
 |.ment d x key zero ls e k=>FU P GL sn (.ment d x key zero ls e k) st K
 |.callo d f args=>FU P GL sn (.callo d f args) st K
 |ins=>(Bp ins).isSome=true/\step P GL ins st K
def evD(sn:List Nat):List GI->St->(St->Prop)->Prop
 |[],st,K=>K st
 |g::r,st,K=>
  match g.gd with
  |none=>Ae P GL sn g.ins st fun s=>evD sn r s K
  |some (s,want)=>YU (Af st.env s) want (Ae P GL sn g.ins st fun s=>evD sn r s K) (evD sn r (Bg g.ins st) K)
def C6(e:Env):List Nat->List (Nat×D)
 |[]=>[]
 |s::r=>(s,Af e s)::C6 e r
def prn(ks:List Nat)(s:St):St:=⟨.l (C6 s.env ks),s.sto⟩
def FV(W:(Exit->St->Prop)->St->Prop)(K:Exit->St->Prop):Exit->St->Prop
 |.normal,s=>W K s\/(∃S,Sub S s/\W K S)\/∃ks,W K (prn ks s)
 |e,s=>K e s
def Df(post:List Nat)(s:St):List Nat:=post.flatMap fun t=>(Af s.env t).nms
inductive Jm where
 |none
 |ret
 |exit (id:Nat)
 deriving DecidableEq
def Jm.code:Jm->Option Code
 |.none=>Option.none
 |.ret=>some .ret
 |.exit id=>some (.exit id)
def Jm.ex:Jm->Exit
 |.none=>.normal
 |.ret=>.ret
 |.exit id=>.exit id
def Jm.go:Jm->Bool
 |.none=>true
 |_=>false
def Pu(mv:List Nat)(l:List (Nat×Blk)):Bool:=((l.map (·.1)).all fun q=>(Nat.ble 5000 q&&Nat.blt q 5500)||(mv.contains q&&Nat.ble 5500 q&&Nat.blt q 6000))&&Ps l l&&Dq (l.map (·.1))
def vS(mv:List Nat):Bool:=mv.all fun q=>Nat.ble 5500 q&&Nat.blt q 6000
def Em(gf:FuncId)(caps:List I)(xs:List (List I)):Prop:=
 ∀(y:FuncId) (m:Nat->List (Nat×Blk)) (mv:List Nat) (N:Nat) (go:Nat->Bool),vS mv=true->(∀j,Pu mv (m j)=true/\(m j).map (·.1)=(m 0).map (·.1))->
  N<=xs.length->(∀j,j+1<N->go j=true)->(N<xs.length->0<N/\go (N-1)=false)->
  (∀j,j<N->MC P GL y ((xs.getD j []).map .i) (m j) mv (fun r s=>r=.i (.bool (go j))/\s=m (j+1)))->
  MC P GL gf (.i (.fn y [] [])::caps.map .i) (m 0) mv (fun r s=>r=.i (.tup [])/\s=m N)
def Uc(gf:FuncId)(caps:List I)(ι:Type)(i0:ι)(Nx:ι->List I->ι->Prop)(Fin:ι->Prop):Prop:=
 ∀(y:FuncId) (m:ι->List (Nat×Blk)) (mv:List Nat) (stop:ι->Bool),vS mv=true->stop i0=false->(∀i,Pu mv (m i)=true/\(m i).map (·.1)=(m i0).map (·.1))->
  (∀i x i',Nx i x i'->stop i=false->MC P GL y (x.map .i) (m i) mv (fun r s=>r=.i (.bool (!stop i'))/\s=m i'))->
  MC P GL gf (.i (.fn y [] [])::caps.map .i) (m i0) mv (fun r s=>r=.i (.tup [])/\∃i,(stop i=true\/Fin i)/\s=m i)
theorem Ud(stop:Nat->Bool):∀L:Nat,∃N,N<=L/\(∀j,j<N->stop j=false)/\(N=L\/stop N=true)
 |0=>⟨0,Nat.le_refl _,fun j h=>absurd h (Nat.not_lt_zero j),.inl rfl⟩
 |L+1=>by obtain⟨N,h1,h2,h3⟩:=Ud stop L;grind
theorem Em.g{gf:FuncId}{caps:List I}{xs:List (List I)}(h:Em P GL gf caps xs):Uc P GL gf caps Nat 0 (fun j x j'=>j<xs.length/\x=xs.getD j []/\j'=j+1) (fun j=>j=xs.length):=by
 intro y m mv stop hV h0 hm hy;obtain⟨N,h1,h2,h3⟩:=Ud stop xs.length;refine(h y m mv N (fun j=>!stop (j+1)) hV hm h1 (fun j hj=>by simp only[h2 (j+1) hj];rfl) (fun jl=>?_) (fun j hj=>hy j _ (j+1) ⟨by omega,rfl,rfl⟩ (h2 j hj))).mono ?_
 all_goals grind
def aT(nx:List (Nat×Blk))(j:Jm):Exit->St->Prop:=fun e s=>e=j.ex/\∃l,Bl nx (frzNs l s).sto
def Ue(W:(Exit->St->Prop)->St->Prop)(K:Exit->St->Prop):Exit->St->Prop
 |.normal,s=>FV W K .normal s
 |_,_=>False
def D0:List Nat->List I->List (Nat×D)->List (Nat×D)
 |p::ps,x::xs,e=>D0 ps xs ((p,.i x)::e)
 |_,_,e=>e
def GA(f:List (Nat×Nat)):Nat->List D->Env->Prop
 |_,[],_=>True
 |i,x::xs,e=>(x=.any\/Af e i=If (Ih f) x)/\GA f (i+1) xs e
def rQ(l:List (Nat×Blk))(L:List D):Bool:=L.all fun x=>Pq l x.nms&&x.nms.all fun q=>Nat.ble 5000 q&&Nat.blt q 5499
def JP(l:List (Nat×Blk)):Bool:=(l.map (·.1)).all fun q=>!(q==5499)
def Uf(st:St)(mv:List Nat)(m0 mN:List (Nat×Blk))(K:St->Prop):Prop:=
 (∀nm∈(AY 999 mN).map (·.1),(Ac m0 nm).isSome=true\/(Ac st.sto nm=none/\nm<5000))/\(∀nm∈m0.map (·.1),(Ac mN nm).isSome=true->ren 999 nm=nm)/\(mv.all fun m=>Nat.blt m 5000||Nat.ble 5500 m)=true/\K (C0 st m0 mN mv 999)
def wK(n:Nat)(og:O)(ps:List Nat)(Wa Wb:(Exit->St->Prop)->St->Prop)(K:Exit->St->Prop)(st:St):Prop:=
 ∃gf caps,∃(ι:Type) (i0:ι) (Nx:ι->List I->ι->Prop) (Fin:ι->Prop),AL GL st og=.i (.fn gf [] caps)/\B9 P gf=true/\Uc P GL gf caps ι i0 Nx Fin/\
  ∃(f:List (Nat×Nat)) (L:List D) (m:ι->List (Nat×Blk)) (mv:List Nat) (jm:ι->Jm),
   jm i0=.none/\vS mv=true/\(∀i,Pu mv (m i)=true/\JP (m i)=true/\rQ (m i) L=true/\(m i).map (·.1)=(m i0).map (·.1))/\
   L.length=n/\GA f 0 L st.env/\LL f 5499=5499/\Bl (Ig (Ih f) (m i0)) st.sto/\
   (∀i x i',Nx i x i'->jm i=.none->x.length=ps.length/\Wa (Ue Wb (aT (m i') (jm i'))) ⟨.l (D0 ps x (C3 0 L)),m i⟩)/\
   ∀i,(jm i≠.none\/Fin i)->Uf st (mv.map (Ih f)) (Ig (Ih f) (m i0)) (Ig (Ih f) (m i)) (K (jm i).ex)
theorem Qb{n:Nat}{og:O}{ps:List Nat}{Wa Wa' Wb Wb':(Exit->St->Prop)->St->Prop}{K K':Exit->St->Prop}(h:wK P GL n og ps Wa Wb K st)
  (ha:∀{K K':Exit->St->Prop} {s},Wa K s->(∀e s,K e s->K' e s)->Wa' K' s)(hb:∀{K:Exit->St->Prop} {s},Wb K s->Wb' K s)(hk:∀e s,K e s->K' e s):wK P GL n og ps Wa' Wb' K' st:=by
 obtain⟨gf,caps,ι,i0,Nx,Fin,e1,e2,e3,f,L,m,mv,jm,q1,q2,q3,q4,q5,q6,q7,q8,q9⟩:=h;refine⟨gf,caps,ι,i0,Nx,Fin,e1,e2,e3,f,L,m,mv,jm,q1,q2,q3,q4,q5,q6,q7,fun i x i' hx hi=>⟨(q8 i x i' hx hi).1,ha (q8 i x i' hx hi).2 fun e s hs=>?_⟩,fun i hi=>⟨(q9 i hi).1,(q9 i hi).2.1,(q9 i hi).2.2.1,hk _ _ (q9 i hi).2.2.2⟩⟩;cases e with
 |normal=>exact hs.elim (fun q=>.inl (hb q)) (fun q=>q.elim (fun⟨S,q1,q2⟩=>.inr (.inl ⟨S,q1,hb q2⟩)) (fun⟨ks,q⟩=>.inr (.inr ⟨ks,hb q⟩)))
 |_=>exact hs
def W:IR->(Exit->St->Prop)->St->Prop
 |.skip,K,st=>K .normal st
 |.reg gs,K,st=>ev P GL gs st (K .normal)
 |.dreg sn gs post,K,st=>∃l,evD P GL sn gs (frzNs l st) fun s=>K .normal (frzNs (Df post s) s)
 |.seq a b,K,st=>W a (JO (W b) K) st
 |.cut a b,K,st=>W a (FV (W b) K) st
 |.cond c a b,K,st=>match AL GL st c with
  |.i (.bool t)=>br t (W a K st) (W b K st)
  |_=>False
 |.block id c,K,st=>W c (C5 id K) st
 |.loop c,K,st=>∃(ι:Type) (F:ι->St) (m:ι->Nat) (i₀:ι),Sub (F i₀) st/\∀i,W c (Ub F m (m i) K) (F i)
 |.exit id,K,st=>K (.exit id) st
 |.ret,K,st=>K .ret st
 |.rf n og ps a b,K,st=>wK P GL n og ps (W a) (W b) K st
end
section
variable {P:Program}{GL:List (Nat×List I)}{n:Nat}{S:Sh}{mu:List Nat}
theorem Mc(h:Rel GL n S M μ st a w){ins:Ins}{o:Oper}(hd:ins.dst=o.dst)(hn:∀d,o.dst=some d->d<n):
  Rel GL n S M μ (Bg ins st) (a.put o.dst Go.undef) w:=by
 unfold Bg;rw[hd];cases hod:o.dst with
 |none=>exact h
 |some d=>exact h.put (hn d hod) (AG .undef)
theorem Md {P:Program}{o:Oper}{a:Act}{w:World}{nx nx':Act->World->Prop}{Q Q':Exit->Act->World->Prop}(h:o.wpX P a w nx Q)(hn:∀a w,nx a w->nx' a w)(hq:∀e a w,Q e a w->Q' e a w):o.wpX P a w nx' Q':=by
 unfold Oper.wpX at*;generalize (execOp a.eval o).run P w=r at h;cases r with
 |ok x w'=>
  cases x<;>simp only[Oper.uponIn]at h⊢
  all_goals first
   |exact hn _ _ h
   |exact⟨h.1,CallsIn.mono h.2 fun e w' hh=>by
     cases e with
     |returned v=>exact hn _ _ hh
     |panicked c=>exact hq _ _ _ hh
     |outgrown=>obtain⟨a0,w0,h2⟩:=hh;exact⟨a0,w0,hq _ _ _ h2⟩⟩
   |exact⟨h.1,RowsIn.mono h.2 fun v w' hh=>hn _ _ hh⟩
   |exact⟨h.1,RoundIn.mono h.2 fun e w' hh=>by
     cases e with
     |returned v=>exact hn _ _ hh
     |panicked c=>exact hq _ _ _ hh
     |outgrown=>obtain⟨a0,w0,h2⟩:=hh;exact⟨a0,w0,hq _ _ _ h2⟩⟩
 |halt x w'=>cases x<;>simp only[Oper.uponIn]at h⊢<;>exact hq _ _ _ h
theorem KO{F:Fence}{k:Nat}{P:Program}{nx nx':Act->World->Prop}{Q':Exit->Act->World->Prop}(h:o.wpIn F k P a w nx Q)(hn:∀a w,nx a w->nx' a w)(hq:∀e a w,Q e a w->Q' e a w):o.wpIn F k P a w nx' Q':=by
 refine⟨h.1,?_⟩;replace h:=h.2;generalize (o.semAt F.round a.eval).run P w=r at h;cases r with
 |ok x w'=>
  cases x<;>simp only[Oper.uponIn]at h⊢
  all_goals first
   |exact hn _ _ h
   |exact⟨h.1,CallsIn.mono h.2 fun e w' hh=>by
     cases e with
     |returned v=>exact hn _ _ hh
     |panicked c=>exact hq _ _ _ hh
     |outgrown=>obtain⟨a0,w0,h2⟩:=hh;exact⟨a0,w0,hq _ _ _ h2⟩⟩
   |exact⟨h.1,RowsIn.mono h.2 fun v w' hh=>hn _ _ hh⟩
   |exact⟨h.1,RoundIn.mono h.2 fun e w' hh=>by
     cases e with
     |returned v=>exact hn _ _ hh
     |panicked c=>exact hq _ _ _ hh
     |outgrown=>obtain⟨a0,w0,h2⟩:=hh;exact⟨a0,w0,hq _ _ _ h2⟩⟩
 |halt x w'=>cases x<;>simp only[Oper.uponIn]at h⊢<;>exact hq _ _ _ h
theorem Me{P:Program}{nx:Act->World->Prop}(r:Option Nat)(hd:∀c,o.op≠.defer c)(h:o.wpX P a w nx Q):o.wpIn (FR r) 0 P a w nx Q:=by
 refine⟨fun _ _=>trivial,?_⟩;have e:o.semAt (FR r).round a.eval=execOp a.eval o:=by
  cases r with
  |none=>exact Oper.semAt_none _ _
  |some l=>exact Oper.semAt_some l _ o hd
 rw[e];exact h
theorem NY{P:Program}{r:Option Nat}{ops:Array Oper}{Q Q':Exit->Act->World->Prop}:∀{l:List Nat} {a:Act} {w:World},wpOpsIn (FR r) 0 P ops Q l a w->(∀e a w,Q e a w->Q' e a w)->wpOpsIn (FR r) 0 P ops Q' l a w
 |[],a,w,h,hq=>hq _ _ _ h
 |i::l,a,w,h,hq=>by
  simp only[wpOpsIn]at h⊢;split
  ·rename_i ho;simp only[ho]at h;exact NY h hq
  ·rename_i o ho;simp only[ho]at h;split
   ·rename_i hw;rw[if_pos hw]at h;exact KO h (fun a w hh=>NY hh hq) hq
   ·rename_i hw;rw[if_neg hw]at h;exact⟨h.1,NY h.2 hq⟩
theorem IW(h:Rel GL n S M μ st a w){o:Oper}{g:GI}(hg:Dv P GL n mu ops o=some g){b:Bool}
  (hb:AS g.gd st=some b):Region.wanted o (yielded ops a.tmps)=b:=by
 unfold Dv at hg;cases ki:o.guard with
 |none=>simp only[ki,Option.some.injEq]at hg;subst hg;simp only[AS,Option.some.injEq]at hb;subst hb;simp[Region.wanted,ki]
 |some jw=>
  obtain⟨j,want⟩:=jw;simp only[ki]at hg;cases hj:(ops[j]?).bind (·.dst)with
  |none=>simp[hj]at hg
  |some t=>
   simp only[hj]at hg;split at hg
   ·rename_i jf;cases hg;have htmp:a.tmps[t]? =some (a.tmps.getD t Go.undef):=by
     have:t<a.tmps.size:=by rw[h.size];exact jf.1
     simp[this]
    have hy:yielded ops a.tmps j=match a.tmps.getD t Go.undef with|.bool b=>some b|_=>none:=by unfold yielded;rw[hj];simp only[Option.bind_some];rw[htmp];cases a.tmps.getD t Go.undef<;>rfl
    have hre:=h.env t;simp only[AS]at hb;split at hb
    ·rename_i b' wm;cases hb;rw[wm]at hre;have hbv:=E6 (AK hre);rw[hbv]at hy;simp only[Region.wanted,ki,hy];cases want<;>cases b'<;>rfl
    ·rename_i wm;cases hb;rw[wm]at hre;have hbv:a.tmps.getD t Go.undef=Go.undef:=by have:=AK hre;generalize a.tmps.getD t Go.undef=v at this;cases this;rfl
     rw[hbv]at hy;simp only[Go.undef]at hy;simp[Region.wanted,ki,hy]
    ·cases hb
   ·cases hg
theorem Mf{g:GI}(hg:Dv P GL n mu ops o=some g):(Gw P GL n mu o).getD (.no o.dst)=g.ins/\(g.gd≠none->g.ins.dst=o.dst/\∀d,o.dst=some d->d<n):=by grind[Dv,IP]
theorem aU(h:Gw P GL n mu o=some ins):∀c,o.op≠.defer c:=fun c e=>by grind[Gw]
theorem Mg(hc:(Gw P GL n mu o).getD (.no o.dst)=ins)(hs:step P GL ins st K):∀c,o.op≠.defer c:=by
 cases xg:Gw P GL n mu o with
 |none=>rw[xg]at hc;simp only[Option.getD_none]at hc;subst hc;exact(show False from hs).elim
 |some i=>exact aU xg
theorem Mh(h:Rel GL n S M μ st a w){ins:Ins}(hc:(Gw P GL n mu o).getD (.no o.dst)=ins)(hs:step P GL ins st K):o.wpX P a w (Ar GL n S M w K) Q:=by
 cases xg:Gw P GL n mu o with
 |none=>rw[xg]at hc;simp only[Option.getD_none]at hc;subst hc;exact(show False from hs).elim
 |some i=>rw[xg]at hc;simp only[Option.getD_some]at hc;subst hc;exact ax h xg hs
theorem NZ{g:GI}(hg:Dv P GL n mu ops o=some g){M:Mem}{μ:Place}{st:St}{a:Act}{w:World}(h:Rel GL n S M μ st a w){K:St->Prop}{Q:Exit->Act->World->Prop}
  (hs:match g.gd with|none=>step P GL g.ins (frzNs (Av GL g.ins st) st) K|some (s,want)=>YU (Af st.env s) want (step P GL g.ins (frzNs (Av GL g.ins st) st) K) (K (Bg g.ins st))):
  (Region.wanted o (yielded ops a.tmps)=true/\∀r,o.wpIn (FR r) 0 P a w (Ar GL n S M w K) Q)\/(Region.wanted o (yielded ops a.tmps)=false/\Ar GL n S M w K (a.put o.dst Go.undef) w):=by
 obtain⟨xg,qg⟩:=Mf hg;have run:step P GL g.ins (frzNs (Av GL g.ins st) st) K->∀r,o.wpIn (FR r) 0 P a w (Ar GL n S M w K) Q:=fun jk r=>by obtain⟨M1,h1,m1⟩:=h.frzNs (Av GL g.ins st);refine Me r (Mg xg jk) (Md (Mh (Q:=Q) h1 xg jk) ?_ (fun _ _ _ h=>h));rintro a' w' ⟨st',wu,M',μ',h',hm,hb⟩;exact⟨st',wu,M',μ',h',m1.trans hm,hb⟩
 cases ki:g.gd with
 |none=>rw[ki]at hs;exact .inl ⟨IW h hg (by rw[ki];rfl),run hs⟩
 |some p=>
  obtain⟨s,want⟩:=p;rw[ki]at hs;obtain⟨zy,hdn⟩:=qg (by rw[ki];simp);have skip:K (Bg g.ins st)->Ar GL n S M w K (a.put o.dst Go.undef) w:=fun hk=>⟨_,hk,vN.of (Mc h zy hdn)⟩
  simp only[YU]at hs;split at hs
  ·rename_i b hb;have hw:=IW (b:=b==want) h hg (by rw[ki];simp only[AS,hb]);cases hbw:b==want with
   |true=>rw[hbw]at hw hs;exact .inl ⟨hw,run (hs.1 rfl)⟩
   |false=>rw[hbw]at hw hs;exact .inr ⟨hw,skip (hs.2 rfl)⟩
  ·rename_i hb;exact .inr ⟨IW h hg (by rw[ki];simp only[AS,hb]),skip hs⟩
  ·exact hs.elim
theorem IX{g:GI}{r:List GI}:ev P GL (g::r) st K↔match g.gd with|none=>step P GL g.ins (frzNs (Av GL g.ins st) st) (fun s=>ev P GL r s K)|some (s,want)=>YU (Af st.env s) want (step P GL g.ins (frzNs (Av GL g.ins st) st) (fun s=>ev P GL r s K)) (ev P GL r (Bg g.ins st) K):=by rfl
theorem Ug{r:Option Nat}{ops:Array Oper}{K:Exit->St->Prop}:∀(l:List Nat) (gs:List GI) (M:Mem) (μ:Place) (st:St) (a:Act) (w:World),
  (l.mapM fun i=>(ops[i]?).bind (Dv P GL n mu ops))=some gs->Rel GL n S M μ st a w->ev P GL gs st (K .normal)->wpOpsIn (FR r) 0 P ops (AZ GL n S M w K) l a w
 |[],gs,M,μ,st,a,w,hc,h,hs=>by simp at hc;subst hc;exact⟨st,hs,CU.of h⟩
 |i::l,gs,M,μ,st,a,w,hc,h,hs=>by
  rw[List.mapM_cons]at hc;cases ho:ops[i]? with
  |none=>simp[ho]at hc
  |some o=>
   simp only[ho,Option.bind_some]at hc;cases hg:Dv P GL n mu ops o with
   |none=>simp[hg]at hc
   |some g=>
    cases hr:(l.mapM fun i=>(ops[i]?).bind (Dv P GL n mu ops))with
    |none=>simp[hg,hr]at hc
    |some gs'=>
     simp[hg,hr]at hc;subst hc;have next:∀a' w',Ar GL n S M w (fun s=>ev P GL gs' s (K .normal)) a' w'->wpOpsIn (FR r) 0 P ops (AZ GL n S M w K) l a' w':=by rintro a' w' ⟨st',wu,M',μ',h',hm,hb⟩;refine NY (Ug l gs' M' μ' st' a' w' hr h' wu) ?_;rintro e a'' w'' ⟨st'',hk,j9⟩;exact⟨st'',hk,CU.trans (Grow.refl S _) hm hb j9⟩
     simp only[wpOpsIn,ho];rcases NZ (Q:=AZ GL n S M w K) hg h (IX.1 hs)with⟨hw,h2⟩|⟨hw,h2⟩
     ·rw[if_pos hw];exact KO (h2 r) next (fun _ _ _ h=>h)
     ·rw[if_neg (by rw[hw];simp)];exact⟨fun _ _=>trivial,next _ _ h2⟩
theorem N1{b:Bool}{A A' C C':Prop}(h:br b A C)(h1:A->A')(h2:C->C'):br b A' C':=⟨fun e=>h1 (h.1 e),fun e=>h2 (h.2 e)⟩
theorem Mi{v:D}{b:Bool}{A A' C C':Prop}(h:YU v b A C)(h1:A->A')(h2:C->C'):YU v b A' C':=by unfold YU at*;grind[N1]
theorem Qc{get:St->Option (FuncId×List D)}{d:Option Nat}(h:Ah P GL get st d K)(hk:∀s,K s->K' s):Ah P GL get st d K':=by
 obtain⟨l,h⟩:=h;refine⟨l,?_⟩;split at h
 ·rcases h with⟨sto,mv,R,h1,h2,h3,h4,h6,h5⟩|⟨R,h1,h2,h3⟩|⟨sto,mv,R,h1,h2,h3,h4,h6,h5⟩
  ·exact .inl ⟨sto,mv,R,h1,h2,h3,h4,h6,fun r s hr=>⟨(h5 r s hr).1,(h5 r s hr).2.1,hk _ (h5 r s hr).2.2⟩⟩
  ·exact .inr (.inl ⟨R,h1,h2,fun r s hr=>by obtain⟨y,e1,e2,e3⟩:=h3 r s hr;exact⟨y,e1,e2,hk _ e3⟩⟩)
  ·exact .inr (.inr ⟨sto,mv,R,h1,h2,h3,h4,h6,fun r s hr=>by obtain⟨k1,k2,y,s',k3,k4,k5⟩:=h5 r s hr;exact⟨k1,k2,y,s',k3,k4,hk _ k5⟩⟩)
 ·exact h.elim
theorem aV{fr:Option Blk}{e' k':Nat}{rs:List (Option (List I))}{nm k0 lo hi e k b:Nat}{ys:List (List I)}(h:Hq fr e' k' rs nm k0 lo hi d e k b ys st K)(hk:∀s,K s->K' s):Hq fr e' k' rs nm k0 lo hi d e k b ys st K':=by obtain⟨q1,q2,q3,q4,q5,q6,q7,q8⟩:=h;exact⟨q1,q2,q3,q4,q5,q6,fun hh=>hk _ (q7 hh),fun hh=>by obtain⟨as,r1,r2,r3,r4,r5,r6⟩:=q8 hh;exact⟨as,r1,r2,r3,r4,r5,fun c=>hk _ (r6 c)⟩⟩
theorem aW{x y:D}{e k b:Nat}(h:Gu x y d e k b st K)(hk:∀s,K s->K' s):Gu x y d e k b st K':=by
 unfold Gu at*;split at h
 ·unfold Hr at*;split at h
  ·split at h
   ·obtain⟨q1,q2,q3,q4,q5,q6,q7,q8⟩:=h;exact⟨q1,q2,q3,q4,q5,q6,fun hh=>hk _ (q7 hh),fun hh=>by obtain⟨as,r1,r2,r3,r4,r5,r6⟩:=q8 hh;exact⟨as,r1,r2,r3,r4,r5,fun c=>hk _ (r6 c)⟩⟩
   ·exact h
  ·split at h
   ·unfold Iv at*;split at h;exact⟨h.1,h.2.1,h.2.2.1,h.2.2.2.1,h.2.2.2.2.1,h.2.2.2.2.2.1,h.2.2.2.2.2.2.1,h.2.2.2.2.2.2.2.1,h.2.2.2.2.2.2.2.2.1,hk _ h.2.2.2.2.2.2.2.2.2⟩;exact h
   ·exact h
 ·exact h
theorem Uh{b:Option Blk}{ls:List LK}{q:I}(h:E3 b ls q zero ok d st K)(hk:∀s,K s->K' s):E3 b ls q zero ok d st K':=by unfold E3 at*;split at h;exact⟨h.1,hk _ h.2⟩;exact h
theorem aX{x key:D}{ls:List LK}(h:DY x key zero ok ls d st K)(hk:∀s,K s->K' s):DY x key zero ok ls d st K':=by
 unfold DY at*;split at h
 all_goals grind[Uh]
theorem aY{r:Option D}(h:Ds ok r zero d st K)(hk:∀s,K s->K' s):Ds ok r zero d st K':=by unfold Ds at*;grind
theorem En(h:step P GL ins st K)(hk:∀s,K s->K' s):step P GL ins st K':=by
 cases hd:Bp ins with
 |some d=>simp_all[L9]
 |none=>
  cases ins<;>simp only[Bp,reduceCtorEq]at hd<;>simp only[step]at h⊢
  case nils=>unfold Im at*;split at h<;>exact hk _ h
  case box=>unfold Jt at*;split at h;exact hk _ h;exact h
  case boxm=>unfold Ee at*;split at h;exact⟨h.1,hk _ h.2⟩;exact h
  case alloc=>unfold Ee at*;split at h;exact⟨h.1,hk _ h.2⟩;exact h
  case store=>
   unfold E2 at*;split at h
   ·unfold He at*;split at h;exact⟨h.1,h.2.1,h.2.2.1,hk _ h.2.2.2⟩;exact h
   ·unfold Jv at*;split at h;exact⟨h.1,h.2.1,h.2.2.1,h.2.2.2.1,h.2.2.2.2.1,h.2.2.2.2.2.1,hk _ h.2.2.2.2.2.2⟩;exact h
   ·exact h
  case stfrz=>
   unfold Jx at*;split at h
   ·unfold Jw at*;split at h;exact⟨h.1,h.2.1,h.2.2.1,h.2.2.2.1,h.2.2.2.2.1,hk _ h.2.2.2.2.2⟩;exact h
   ·exact h
  case isnil=>
   unfold B4 at*;split at h
   ·exact hk _ h
   ·split at h<;>first|exact fun b=>hk _ (h b)|exact h
  case bso d e k ps=>exact⟨h.1,by have h2:=h.2;unfold Iz at*;split at h2;exact hk _ h2;exact h2⟩
  case bsl d e k ps=>
   cases ps with
   |nil=>simp only[step.nilsE']at h⊢;split at h;exact hk _ h;exact h
   |cons p ps=>exact⟨h.1,hk _ h.2⟩
  case call=>exact Qc h hk
  case callv=>exact Qc h hk
  case calln=>unfold Js at*;split at h;exact Qc h hk;exact h
  case callf=>unfold Dt IK at*;split at h;exact⟨h.1,h.2.choose,h.2.choose_spec.1,hk _ h.2.choose_spec.2⟩;exact h
  case callvf=>unfold Dt IK at*;split at h;exact⟨h.1,h.2.choose,h.2.choose_spec.1,hk _ h.2.choose_spec.2⟩;exact h
  case callo=>obtain⟨h1,R,h2,h3⟩:=h;exact⟨h1,R,h2,fun r s hr=>⟨(h3 r s hr).1,hk _ (h3 r s hr).2⟩⟩
  case app=>exact aW h hk
  case appz=>
   unfold IJ at*;split at h
   ·unfold Hs at*;split at h;exact⟨h.1,h.2.1,h.2.2.1,aV h.2.2.2 hk⟩;exact h
   ·exact h
  case mkgm=>unfold IB at*;split at h;exact hk _ h;exact h
  case lookg=>
   unfold Hi at*;split at h
   ·refine⟨h.1,?_⟩;have h:=h.2;unfold Gs at*;split at h
    ·exact⟨h.1,aY h.2 hk⟩
    ·exact Uh h hk
   ·exact aX h hk
  case mupdg=>
   unfold NE at*;split at h
   ·refine⟨h.1,?_⟩;have h:=h.2;unfold JF at*;split at h
    ·exact⟨h.1,hk _ h.2⟩
    ·exact⟨h.1,hk _ h.2⟩
    ·exact h
   ·exact h
  case ment=>
   unfold Hm at*;split at h
   ·refine⟨h.1,?_⟩;have h:=h.2;unfold Hl at*;split at h
    ·refine⟨h.1,?_⟩;have h:=h.2;split at h
     ·unfold Hk at*;split at h
      ·split at h;exact hk _ h;exact h
      ·exact h
     ·unfold Hj at*;split at h;exact hk _ h;exact h
    ·exact h
   ·exact h
  case ests=>
   unfold ID at*;split at h
   ·unfold Hn at*;split at h;exact⟨h.1,hk _ h.2⟩;exact h
   ·exact h
  case cap=>
   unfold IE at*;split at h
   ·unfold Ho at*;split at h;exact hk _ h;exact fun c hc=>hk _ (h c hc);exact h
   ·exact h
  case cpy=>
   unfold IH at*;split at h
   ·unfold Hp at*;split at h;exact⟨h.1,h.2.1,h.2.2.1,h.2.2.2.1,h.2.2.2.2.1,hk _ h.2.2.2.2.2⟩;exact h
   ·exact h
  case clr=>
   unfold II at*;split at h
   ·unfold Gt at*;split at h;exact⟨h.1,h.2.1,h.2.2.1,hk _ h.2.2.2⟩;exact⟨h.1,h.2.1,h.2.2.1,hk _ h.2.2.2⟩;exact h
   ·exact h
  case mksl=>unfold JG at*;split at h;exact⟨h.1,h.2.1,h.2.2.1,hk _ h.2.2.2⟩;exact h
  case slc3=>unfold KK at*;split at h;exact⟨h.1,hk _ h.2⟩;exact⟨h.1,hk _ h.2⟩;exact h
  case slc0=>unfold NC at*;split at h;exact hk _ h;exact h
  case mkmap=>unfold Ix at*;split at h<;>exact hk _ h
  case mupd=>
   unfold Gr at*;split at h
   ·refine⟨h.1,?_⟩;have h:=h.2;unfold Hg at*;split at h;exact⟨h.1,hk _ h.2⟩;exact h
   ·exact h
  case rng=>unfold Iy at*;split at h;exact hk _ h;exact hk _ h;exact h
  case nxt=>
   unfold JB at*;split at h
   ·unfold JA at*;split at h;exact⟨fun e=>hk _ (h.1 e),fun i hi=>hk _ (h.2 i hi)⟩;exact h
   ·exact h
  case ent=>
   unfold JD at*;split at h
   ·unfold JC at*;split at h;exact hk _ h;exact h
   ·exact h
theorem Qe:∀{gs:List GI} {st:St} {K K':St->Prop},ev P GL gs st K->(∀s,K s->K' s)->ev P GL gs st K'
 |[],st,K,K',h,hk=>hk _ h
 |g::r,st,K,K',h,hk=>by
  have q1:∀s,ev P GL r s K->ev P GL r s K':=fun s hs=>Qe hs hk
  grind[IX,En,Mi]
theorem Qf(h:Ae P GL sn ins st K)(hk:∀s,K s->K' s):Ae P GL sn ins st K':=by
 cases ins<;>simp only[Ae]at h⊢
 case call=>obtain⟨h1,y,h2,h3⟩:=h;exact⟨h1,y,h2,hk _ h3⟩
 case callv=>
  refine⟨h.1,h.2.1,?_⟩;have h:=h.2.2;split at h
  ·obtain⟨y,h2,h3⟩:=h;exact⟨y,h2,hk _ h3⟩
  ·exact h
 case alloc=>exact En h hk
 case mupd=>exact En h hk
 case app=>exact⟨h.1,En h.2 hk⟩
 case ment=>exact⟨h.1,En h.2 hk⟩
 case callo=>exact⟨h.1,En h.2 hk⟩
 case callf=>exact⟨h.1,En h.2 hk⟩
 case callvf=>exact⟨h.1,En h.2 hk⟩
 case bsl=>exact⟨h.1,En h.2 hk⟩
 all_goals exact⟨h.1,En h.2 hk⟩
theorem Mj{sn:List Nat}:∀{gs:List GI} {st:St} {K K':St->Prop},evD P GL sn gs st K->(∀s,K s->K' s)->evD P GL sn gs st K'
 |[],st,K,K',h,hk=>hk _ h
 |g::r,st,K,K',h,hk=>by
  have q1:∀s,evD P GL sn r s K->evD P GL sn r s K':=fun s hs=>Mj hs hk
  grind[evD,Qf,Mi]
theorem Eo:∀(ir:IR) {st:St} {K K':Exit->St->Prop},W P GL ir K st->(∀e s,K e s->K' e s)->W P GL ir K' st
 |.skip,st,K,K',h,hk=>hk _ _ h
 |.reg gs,st,K,K',h,hk=>Qe h (hk _)
 |.dreg sn gs post,st,K,K',h,hk=>by obtain⟨l,h⟩:=h;exact⟨l,Mj h (fun s hs=>hk _ _ hs)⟩
 |.seq a b,st,K,K',h,hk=>Eo a h (fun e s hs=>by
   cases e with
   |normal=>exact Eo b hs hk
   |_=>exact hk _ _ hs)
 |.cut a b,st,K,K',h,hk=>Eo a h (fun e s hs=>by
   cases e with
   |normal=>exact hs.elim (fun q=>.inl (Eo b q hk)) (fun q=>q.elim (fun⟨S,q1,q2⟩=>.inr (.inl ⟨S,q1,Eo b q2 hk⟩)) (fun⟨ks,q⟩=>.inr (.inr ⟨ks,Eo b q hk⟩)))
   |_=>exact hk _ _ hs)
 |.cond c a b,st,K,K',h,hk=>by
  simp only[W]at h⊢;split at h
  ·exact N1 h (fun hh=>Eo a hh hk) (fun hh=>Eo b hh hk)
  ·exact h
 |.block id c,st,K,K',h,hk=>Eo c h (fun e s hs=>by
   cases e with
   |exit id'=>simp only[C5]at hs⊢;split at hs;rename_i e;rw[if_pos e];exact hk _ _ hs;rename_i e;rw[if_neg e];exact hk _ _ hs
   |_=>exact hk _ _ hs)
 |.loop c,st,K,K',h,hk=>by
  obtain⟨ι,F,m,i0,h0,hr⟩:=h;refine⟨ι,F,m,i0,h0,fun i=>Eo c (hr i) (fun e s hs=>?_)⟩;cases e with
  |normal=>exact hs
  |_=>exact hk _ _ hs
 |.exit id,st,K,K',h,hk=>hk _ _ h
 |.ret,st,K,K',h,hk=>hk _ _ h
 |.rf n og ps a b,st,K,K',h,hk=>Qb P GL h (fun q1 q2=>Eo a q1 q2) (fun q=>q) hk
theorem Ui(e:Env)(s:Nat):∀ks,B2 (C6 e ks) s=.any\/B2 (C6 e ks) s=Af e s
 |[]=>.inl rfl
 |k::r=>by
  simp only[C6,B2];split
  ·rename_i h;subst h;exact .inr rfl
  ·exact Ui e s r
theorem Rel.prn(h:Rel GL n S M μ st a w)(ks:List Nat):Rel GL n S M μ (prn ks st) a w:=
 {toStoOk:=h.toStoOk,small:=h.small,pin:=h.pin,defers:=h.defers,size:=h.size,glob:=h.glob,env:=fun s=>by
   simp only[Dl.prn,Af];rcases Ui st.env s ks with e|e
   ·rw[e];trivial
   ·rw[e];exact h.env s}
theorem JQ{x:Option I}(h:Bt P GL sn ins x st)(hk:K (Cx GL ins x st)):step P GL ins st K:=by
 have calls:∀{f:FuncId} {ds:List D} {y:I} {d:Option Nat},(∀v∈ds,G5 v=true)->vQ P GL f ds y->K (putO st d (.i y))->Sw P GL f ds st d K:=fun{f ds y d} hI h2 hk=>by
  refine⟨[],[],_,h2,trivial,rfl,?_,rfl,?_⟩
  ·rw[List.all_eq_true];intro v hv;have:=hI v hv;cases v<;>simp[G5]at this;rfl
  ·rintro r s ⟨rfl,rfl⟩;refine⟨fun nm hm=>by simp[AY]at hm,fun nm hm=>by simp at hm,?_⟩;exact hk
 have nofrz:∀(st:St),frzNs [] st=st:=fun _=>rfl
 cases ins
 case call d f args=>
  obtain⟨h1,y,rfl,h2⟩:=h;rw[List.all_eq_true]at h1;refine⟨[],?_⟩;simp only[nofrz,DX];refine .inl (calls (y:=y) (fun v hv=>by obtain⟨o,ho,rfl⟩:=List.mem_map.1 hv;exact h1 o ho) h2 ?_);cases d<;>exact hk
 case callv d fo args=>
  obtain⟨h0,h1,p,y,h2,rfl,h3⟩:=h;rw[List.all_eq_true]at h1;refine⟨[],?_⟩;simp only[nofrz,Dr,h2];refine .inl (calls (y:=y) (fun v hv=>?_) h3 ?_)
  ·unfold EE at h2;split at h2
   ·cases h2;simp only[List.mem_append,List.mem_map]at hv;rcases hv with(⟨z,_,rfl⟩|⟨o,ho,rfl⟩)|⟨z,_,rfl⟩
    ·rfl
    ·exact h1 o ho
    ·rfl
   ·rename_i e;rw[e]at h0;simp[G5]at h0
   ·cases h2
  ·cases d<;>exact hk
 case alloc d zs=>
  simp only[step,Ee];obtain⟨h,h1⟩:Ac st.sto d=none/\(zs.map D.i).all Da=true:=h;rw[h];exact⟨h1,hk⟩
 case mupd ox oq ov ls=>
  simp only[Bt]at h;simp only[Cx]at hk;simp only[step,Gr];split at h
  ·rename_i nm q u e1 e2 e3;obtain⟨h1,h⟩:=h;split at h
   ·rename_i ls' es hg;simp only[e1,e2,e3,hg,Hg]at hk⊢;exact⟨h1,h,hk⟩
   ·exact h.elim
  ·exact h.elim
 case store ox ov k=>
  simp only[Bt]at h;simp only[Cx]at hk;simp only[step,E2];split at h
  ·rename_i nm off e;obtain⟨_,h⟩:=h;split at h
   ·rename_i cs hg;simp only[e,hg,He]at hk⊢;exact⟨h.1,h.2.1,h.2.2,hk⟩
   ·exact h.elim
  ·exact h.elim
 all_goals
  obtain⟨h1,h2,_⟩:=h
  first
   |(simp[Bp]at h1;done)
   |(refine(L9 P GL (d:=_) rfl st K).2 ⟨h2,?_⟩;exact hk)
theorem Uj(hdr:FQ ins=true)(h:Ae P GL sn ins st K):∃x,Bt P GL sn ins x st/\K (Cx GL ins x st):=by
 have pure:∀ins:Ins,∀d,Bp ins=some d->step P GL ins st K->(∀o∈Bm ins,looks ins=true->∀nm∈(AL GL st o).nms,nm∉sn)->
   ((Bp ins).isSome/\(pv (AL GL st) (Ac st.sto) ins).2/\(looks ins=true->∀o∈Bm ins,∀nm∈(AL GL st o).nms,nm∉sn))/\K (st.put d (pv (AL GL st) (Ac st.sto) ins).1):=fun ins d hd hs hl=>by
  obtain⟨h1,h2⟩:=(L9 P GL hd st K).1 hs;exact⟨⟨by rw[hd];rfl,h1,fun l o ho nm hn=>hl o ho l nm hn⟩,h2⟩
 cases ins
 case call d f args=>
  obtain⟨h1,y,h2,h3⟩:=h;refine⟨some y,⟨h1,y,rfl,h2⟩,?_⟩;cases d<;>exact h3
 case callv d fo args=>
  obtain⟨h0,h1,h⟩:=h;split at h
  ·rename_i p hp;obtain⟨y,h2,h3⟩:=h;refine⟨some y,⟨h0,h1,p,y,hp,rfl,h2⟩,?_⟩;cases d<;>exact h3
  ·exact h.elim
 case alloc d zs=>
  refine⟨none,?_⟩;simp only[Ae,step,Ee]at h;split at h
  ·rename_i hg;exact⟨⟨hg,h.1⟩,h.2⟩
  ·exact h.elim
 case mupd ox oq ov ls=>
  refine⟨none,?_⟩;simp only[Ae,step,Gr]at h;simp only[Bt,Cx];split at h
  ·rename_i nm q u e1 e2 e3;obtain⟨h1,h⟩:=h;unfold Hg at h;split at h
   ·rename_i ls' es hg;simp only[e1,e2,e3,hg];exact⟨⟨h1,h.1⟩,h.2⟩
   ·exact h.elim
  ·exact h.elim
 case store ox ov k=>
  obtain⟨h1,h⟩:=h;refine⟨none,?_⟩;simp only[step,E2]at h;simp only[Bt,Cx];split at h
  ·rename_i nm off e;rw[e]at h1;unfold He at h;split at h
   ·rename_i cs hg;simp only[e,hg];exact⟨⟨h1,h.1,h.2.1,h.2.2.1⟩,h.2.2.2⟩
   ·exact h.elim
  ·rename_i e;rw[e]at h1;exact h1.elim
  ·exact h.elim
 case load d x k ag=>
  obtain⟨h1,h⟩:=h;exact⟨none,pure (.load d x k ag) d rfl h (fun o ho _ nm hn=>by simp[Bm]at ho;subst ho;exact h1 nm hn)⟩
 case ia d s i k=>
  obtain⟨⟨h1,h2⟩,h⟩:=h;exact⟨none,pure (.ia d s i k) d rfl h (fun o ho _ nm hn=>by
   simp[Bm]at ho;rcases ho with rfl|rfl
   ·exact h1 nm hn
   ·exact h2 nm hn)⟩
 case slc d x lo hi k=>
  obtain⟨h1,h⟩:=h;exact⟨none,pure (.slc d x lo hi k) d rfl h (fun o ho _ nm hn=>h1 o ho nm hn)⟩
 all_goals
  first
   |(simp[FQ,Bp]at hdr;done)
   |(obtain⟨h1,h⟩:=h;exact⟨none,pure _ _ rfl h (fun o ho hl=>by simp[looks]at hl)⟩)
theorem JR{sn:List Nat}:∀(gs:List GI) (st:St) (K:St->Prop),(gs.all fun g=>FQ g.ins)=true->evD P GL sn gs st K->∃xs:List X,xs.map (·.1)=gs/\C2 P GL sn xs st K
 |[],st,K,_,h=>⟨[],rfl,h⟩
 |g::r,st,K,hd,h=>by
  rw[List.all_cons,Bool.and_eq_true]at hd;have go:Ae P GL sn g.ins st (fun s=>evD P GL sn r s K)->AS g.gd st=some true->∃xs:List X,xs.map (·.1)=g::r/\C2 P GL sn xs st K:=fun hs hg=>by
   obtain⟨x,h1,h2⟩:=Uj hd.1 hs;obtain⟨xs,e,hr⟩:=JR r _ K hd.2 h2;refine⟨(g,x)::xs,by simp[e],?_,?_⟩
   ·unfold Bz;simp only[hg];exact h1
   ·unfold A3;simp only[hg];exact hr
  have skip:evD P GL sn r (Bg g.ins st) K->AS g.gd st=some false->∃xs:List X,xs.map (·.1)=g::r/\C2 P GL sn xs st K:=fun hs hg=>by
   obtain⟨xs,e,hr⟩:=JR r _ K hd.2 hs;refine⟨(g,none)::xs,by simp[e],?_,?_⟩
   ·unfold Bz;simp only[hg]
   ·unfold A3;simp only[hg];exact hr
  simp only[evD]at h;split at h
  ·rename_i e;exact go h (by rw[e];rfl)
  ·rename_i s want e;unfold YU at h;split at h
   ·rename_i b hb;have hg:AS g.gd st=some (b==want):=by rw[e];simp only[AS,hb]
    cases hbw:b==want with
    |true=>rw[hbw]at h hg;exact go (h.1 rfl) hg
    |false=>rw[hbw]at h hg;exact skip (h.2 rfl) hg
   ·rename_i hb;exact skip h (by rw[e];simp only[AS,hb])
   ·exact h.elim
theorem N2{sn:List Nat}:∀(a b:List GI) (st:St) (K:St->Prop),evD P GL sn (a++b) st K=evD P GL sn a st (fun s=>evD P GL sn b s K)
 |[],b,st,K=>rfl
 |g::a,b,st,K=>by
  simp only[List.cons_append,evD];have e:(fun s=>evD P GL sn (a++b) s K)=fun s=>evD P GL sn a s (fun s=>evD P GL sn b s K):=funext fun s=>N2 a b s K
  rw[e,N2 a b]
end
end Go.Dl
