/-
  Lemmas, no statement.
-/
import Derived.Test.YtojgbkiejjingaaGreatDoorK4
set_option linter.all false
namespace Go.Dl
open Go Go.RowKit
inductive O where
 |t (n:Nat)
 |c (x:I)
 |f (f:FuncId)
 |g (g:Nat)
 deriving Inhabited
def LP:List (Nat×List I)->Nat->List I
 |[],_=>[]
 |(m,d)::r,n=>if m=n then d else LP r n
def LR:List (Nat×List I)->Nat->Bool
 |[],_=>false
 |(m,_)::r,n=>if m=n then true else LR r n
inductive NK where
 |sl|mp|fn|pt
 deriving Inhabited,DecidableEq
inductive Ins where
 |mov (d:Nat) (x:O)
 |pick (d:Nat) (c a b:O)
 |nils (d e k:Nat)
 |box (d:Nat) (x:O)
 |boxm (d:Nat) (x:O)
 |alloc (d:Nat) (zs:List I)
 |load (d:Nat) (x:O) (k:Nat) (ag:Bool)
 |store (x v:O) (k:Nat)
 |stfrz (x v:O) (k:Nat)
 |fa (d:Nat) (x:O) (off:Nat)
 |fld (d:Nat) (x:O) (off k:Nat) (ag:Bool)
 |ia (d:Nat) (s i:O) (k:Nat)
 |idx (d:Nat) (s i:O)
 |aidx (d:Nat) (x i:O) (k len:Nat) (ag:Bool)
 |bin (d:Nat) (op:BinOp) (x y:O)
 |sh (d:Nat) (op:BinOp) (x y:O)
 |eqs (d:Nat) (neg:Bool) (ls:List LK) (x y:O)
 |eqb (d:Nat) (neg:Bool) (x y:O)
 |isnil (d:Nat) (q:NK) (neg:Bool) (x:O)
 |un (d:Nat) (op:UnOp) (x:O)
 |lens (d:Nat) (x:O)
 |lenl (d:Nat) (x:O)
 |ext (d:Nat) (x:O) (i:Nat)
 |bsl (d e k:Nat) (parts:List O)
 |bsn (d e k:Nat) (parts:List O)
 |bso (d e k:Nat) (parts:List O)
 |build (d:Nat) (zs:List I) (parts:List (Nat×Nat×O))
 |mkfn (d f:Nat) (first caps:List O)
 |call (d:Option Nat) (f:Nat) (args:List O)
 |callv (d:Option Nat) (f:O) (args:List O)
 |calln (d f e k:Nat) (args:List O)
 |callo (d f:Nat) (args:List O)
 |callf (d:Option Nat) (f:Nat) (args:List O)
 |callvf (d:Option Nat) (f:O) (args:List O)
 |max (d:Nat) (x y:O)
 |min (d:Nat) (x y:O)
 |conv (d:Nat) (k:IntKind) (x:O)
 |app (d e k b:Nat) (x y:O)
 |slc (d:Nat) (x:O) (lo hi:Option O) (k:Nat)
 |slc0 (d e k:Nat) (x:O)
 |sslc (d:Nat) (x:O) (lo hi:Option O)
 |mkmap (d:Nat) (ls:List LK)
 |lookup (d:Nat) (x key:O) (zero:I) (ok:Bool) (ls:List LK)
 |mupd (x key v:O) (ls:List LK)
 |lenm (d:Nat) (x:O)
 |rng (d:Nat) (x:O)
 |nxt (d:Nat) (x:O)
 |ent (d:Nat) (x:O)
 |iaa (d:Nat) (x i:O) (k len:Nat)
 |bytes (d:Nat) (x:O)
 |ofb (d:Nat) (x:O)
 |no (d:Option Nat)
 |mkgm (d:Nat) (ls:List LK)
 |lookg (d:Nat) (x key:O) (zero:I) (ok:Bool) (ls:List LK)
 |mupdg (x key v:O) (ls:List LK)
 |ment (d:Nat) (x key:O) (zero:I) (ls:List LK) (e k:Nat)
 |ests (x stamp v:O)
 |cap (d:Nat) (x:O)
 |cpy (d:Option Nat) (x y:O) (e k:Nat)
 |clr (d:Option Nat) (x:O) (z:List I)
 |mksl (d e k b:Nat) (z:List I) (n:O)
 |slc3 (d:Nat) (x:O) (lo:Option O) (hi mx:O)
 |appz (d e k b:Nat) (x n:O) (z:List I)
 deriving Inhabited
def Ins.dst:Ins->Option Nat
 |.mov d _|.pick d _ _ _|.nils d _ _|.box d _|.boxm d _|.alloc d _|.load d _ _ _|.fa d _ _|.fld d _ _ _ _|.ia d _ _ _|.idx d _ _|.aidx d _ _ _ _ _|.bin d _ _ _|.sh d _ _ _|.eqs d _ _ _ _|.eqb d _ _ _|.isnil d _ _ _|.un d _ _|.lens d _|.lenl d _|.ext d _ _
 |.bsl d _ _ _|.bsn d _ _ _|.bso d _ _ _|.build d _ _|.mkfn d _ _ _|.max d _ _|.min d _ _|.conv d _ _|.app d _ _ _ _ _|.slc d _ _ _ _|.slc0 d _ _ _|.sslc d _ _ _|.mkmap d _|.lookup d _ _ _ _ _|.lenm d _|.rng d _|.nxt d _|.ent d _|.iaa d _ _ _ _|.bytes d _|.ofb d _|.calln d _ _ _ _|.callo d _ _|.mkgm d _|.lookg d _ _ _ _ _|.ment d _ _ _ _ _ _|.cap d _|.mksl d _ _ _ _ _|.slc3 d _ _ _ _|.appz d _ _ _ _ _ _=>some d
 |.call d _ _|.callv d _ _|.callf d _ _|.callvf d _ _|.no d|.cpy d _ _ _ _|.clr d _ _=>d
 |.store _ _ _|.stfrz _ _ _|.mupd _ _ _ _|.mupdg _ _ _ _|.ests _ _ _=>none
structure GI where
 gd:Option (Nat×Bool)
 ins:Ins
def br(b:Bool)(A C:Prop):Prop:=(b=true->A)/\(b=false->C)
@[congr] theorem rU{b b':Bool}{A C:Prop}(h:b=b'):br b A C=br b' A C:=by rw[h]
theorem Ss(A C:Prop):br true A C=A:=by simp[br]
theorem Su(A C:Prop):br false A C=C:=by simp[br]
def AL(GL:List (Nat×List I))(st:St):O->D
 |.t n=>Af st.env n
 |.c x=>.i x
 |.f k=>.i (.fn k [] [])
 |.g k=>.i (.elt (LP GL k) 0)
def AT:D->List D
 |.i (.agg cs)=>cs.map .i
 |x=>[x]
def Da:D->Bool
 |.any=>false
 |.i x=>x.one
 |.tup _=>false
 |_=>true
def pk(ag:Bool)(cs:List I)(off k:Nat):I:=if ag then .agg ((cs.drop off).take k)else cs.getD off .undef
def Y4(ag:Bool)(cs:List D)(off k:Nat):D:=if ag then .i (.agg (((cs.drop off).take k).map FB))else cs.getD off .any
def setL{α:Type}(cs:List α)(off:Nat)(vs:List α):List α:=cs.take off++vs++cs.drop (off+vs.length)
def Ed:List I->List (Nat×List I)->List I
 |zs,[]=>zs
 |zs,(off,cs)::r=>Ed (setL zs off cs) r
def Y5:LK->I->I->Option Bool
 |.b,.bool a,.bool b=>some (a==b)
 |.i q,.int k a,.int k' b=>if k=q/\k'=q then some (a==b)else none
 |.s,.str a,.str b=>some (a==b)
 |_,_,_=>none
def eqL:List LK->List I->List I->Option Bool
 |[],[],[]=>some true
 |l::ls,x::xs,y::ys=>match Y5 l x y,eqL ls xs ys with
  |some a,some b=>some (a&&b)
  |_,_=>none
 |_,_,_=>none
def CA(op:BinOp):I->I->Prop
 |.int k _,.int k' b=>k=k'/\match op with
  |.add|.sub|.mul|.eql|.neq|.lss|.leq|.gtr|.geq|.and|.or|.xor|.andNot=>True
  |.quo|.rem=>b≠0
  |_=>False
 |.str a,.str b=>match op with
  |.add=>a.length+b.length<=9223372036854775807
  |.eql|.neq|.lss|.leq|.gtr|.geq=>True
  |_=>False
 |_,_=>False
def Sv(op:BinOp)(k:IntKind)(a b:Int):I:=
 let x:=BitVec.ofInt k.bits a
 let y:=BitVec.ofInt k.bits b
 match op with
 |.and=>.int k (k.wrap (x&&& y).toNat)
 |.or=>.int k (k.wrap (x|||y).toNat)
 |.xor=>.int k (k.wrap (x ^^^ y).toNat)
 |.andNot=>.int k (k.wrap (x&&& ~~~y).toNat)
 |_=>.undef
def B3(op:BinOp):I->I->I
 |.int k a,.int _ b=>match op with
  |.add=>.int k (k.wrap (a+b))
  |.sub=>.int k (k.wrap (a-b))
  |.mul=>.int k (k.wrap (a*b))
  |.quo=>.int k (k.wrap (a.tdiv b))
  |.rem=>.int k (a.tmod b)
  |.eql=>.bool (a==b)
  |.neq=>.bool (a !=b)
  |.lss=>.bool (a<b)
  |.leq=>.bool (a<=b)
  |.gtr=>.bool (a>b)
  |.geq=>.bool (a≥b)
  |op=>Sv op k a b
 |.str a,.str b=>match op with
  |.add=>.str (a++b)
  |.eql=>.bool (a==b)
  |.neq=>.bool (!(a==b))
  |.lss=>.bool (Op.bytesLess a b)
  |.leq=>.bool (Op.bytesLess a b||a==b)
  |.gtr=>.bool (!(Op.bytesLess a b||a==b))
  |.geq=>.bool (!Op.bytesLess a b)
  |_=>.undef
 |_,_=>.undef
def vO(op:BinOp)(k:IntKind)(a b:Int):I:=match op with
 |.shl=>.int k (k.wrap (a*2 ^ (Nat.min b.toNat k.bits)))
 |.shr=>.int k (a.fdiv (2 ^ (Nat.min b.toNat k.bits)))
 |_=>.undef
def FG(es:List (I×I))(key:I):Option I:=(es.find? fun e=>A1 e.1==A1 key).map (·.2)
def Dp:List (I×I)->I->I->List (I×I)
 |[],key,v=>[(key,v)]
 |e::r,key,v=>if A1 e.1==A1 key then(key,v)::r else e::Dp r key v
def CB(es:List (I×I))(key zero:I)(ok:Bool):I:=if ok then .tup [(FG es key).getD zero,.bool (FG es key).isSome]else(FG es key).getD zero
def Hc:I->Bool
 |.bool _|.int _ _|.str _|.nilp|.nilfn|.nilmap|.nilif|.nilsl=>true
 |.agg cs=>cs.all flat1
 |.tup cs=>cs.all flat2
 |_=>false
where
 flat1:I->Bool
  |.bool _|.int _ _|.str _|.nilp|.nilfn|.nilmap|.nilif|.nilsl=>true
  |_=>false
 flat2:I->Bool
  |.bool _|.int _ _|.str _|.nilp|.nilfn|.nilmap|.nilif|.nilsl=>true
  |.agg cs=>cs.all flat1
  |_=>false
def rF(b:Option Blk):List Nat:=match b with|some (.cells cs)=>cs.flatMap D.nms|some (.lp _ _ cs)=>cs.flatMap D.nms|some (.gmap _ _ es)=>es.flatMap (fun e=>e.2.2.nms)|_=>[]
def DW(sto:List (Nat×Blk))(l:List Nat):List Nat:=l.flatMap fun nm=>rF (Ac sto nm)++[nm]
def BE:D->Option Cp
 |.any=>some .any
 |.i x=>some (.i x)
 |.ref r=>some (.ref r)
 |.fn _ _ _=>none
 |.tup _=>none
def rG:Cp->Bool
 |.i _=>true
 |_=>false
def wB:Cp->I
 |.i x=>x
 |_=>.undef
def wC(f:FuncId)(first caps:List Cp):D:=if first.all rG&&caps.all rG then .i (.fn f (first.map wB) (caps.map wB))else .fn f first caps
def putO(st:St)(d:Option Nat)(y:D):St:=match d with|some s=>st.put s y|none=>st
section
variable (P:Program)(GL:List (Nat×List I))
def Bl:List (Nat×Blk)->List (Nat×Blk)->Prop
 |[],_=>True
 |(m,b)::r,s=>Ac s m=some b/\Bl r s
def Pq(l:List (Nat×Blk))(ns:List Nat):Bool:=ns.all fun nm=>(Ac l nm).isSome
def Ps(l:List (Nat×Blk)):List (Nat×Blk)->Bool
 |[]=>true
 |(_,b)::r=>Pq l b.nms&&Ps l r
def Dq:List Nat->Bool
 |[]=>true
 |x::r=>!(r.contains x)&&Dq r
def Jr:List (Nat×D)->Env->Prop
 |[],_=>True
 |(m,d)::r,e=>Af e m=d/\Jr r e
def rH(l:List (Nat×Blk)):List (Nat×D)->Bool
 |[]=>true
 |(_,d)::r=>Pq l d.nms&&rH l r
def Sub(s t:St):Prop:=match s.env with
 |.l es=>Jr es t.env/\Bl s.sto t.sto/\rH s.sto es=true/\Ps s.sto s.sto=true
 |_=>False
def Sw(f:FuncId)(ds:List D)(st:St)(d:Option Nat)(K:St->Prop):Prop:=
 ∃sto mv R,MC P GL f ds sto mv R/\Bl sto st.sto/\Ps sto sto=true/\(ds.all fun x=>Pq sto x.nms)=true/\(mv.all fun m=>Nat.blt m 5000||Nat.ble 5500 m)=true/\∀r sto',R r sto'->
  (∀nm∈(AY (d.getD 999) sto').map (·.1),(Ac sto nm).isSome=true\/(Ac st.sto nm=none/\nm<5000))/\(∀nm∈sto.map (·.1),(Ac sto' nm).isSome=true->ren (d.getD 999) nm=nm)/\
  K (putO (C0 st sto sto' mv (d.getD 999)) d (Ca (d.getD 999) r))
def Y6(f:FuncId)(ds:List D)(st:St)(d:Option Nat)(K:St->Prop):Prop:=
 ∃R,MC P GL f ds [] [] R/\(ds.all fun x=>Pq [] x.nms)=true/\∀r sto',R r sto'->∃y,r=.i y/\Hc y=true/\K (putO st d (.i y))
def Y7(f:FuncId)(ds:List D)(st:St)(d:Option Nat)(K:St->Prop):Prop:=
 ∃sto mv R,MC P GL f ds sto mv R/\Bl sto st.sto/\Ps sto sto=true/\(ds.all fun x=>Pq sto x.nms)=true/\(mv.all fun m=>Nat.blt m 5000||Nat.ble 5500 m)=true/\∀r sto',R r sto'->
  (∀nm∈(AY (d.getD 999) sto').map (·.1),(Ac sto nm).isSome=true\/(Ac st.sto nm=none/\nm<5000))/\(∀nm∈sto.map (·.1),(Ac sto' nm).isSome=true->ren (d.getD 999) nm=nm)/\
  ∃y s',r=.i y/\Sub s' (C0 st sto sto' mv (d.getD 999))/\K (putO s' d (.i y))
def Ah(get:St->Option (FuncId×List D))(st:St)(d:Option Nat)(K:St->Prop):Prop:=
 ∃l,match get (frzNs l st)with
  |some (f,ds)=>Sw P GL f ds (frzNs l st) d K\/(Y6 P GL f ds st d K\/Y7 P GL f ds (frzNs l st) d K)
  |none=>False
def DX(f:FuncId)(os:List O)(st:St):Option (FuncId×List D):=some (f,os.map (AL GL st))
def KG(f nm k:Nat)(os:List O)(st:St):Option (FuncId×List D):=if(Ac st.sto nm).isSome=true then some (f,.ref (.sl nm k 0 0)::os.map (AL GL st))else none
def Js(b:Option Blk)(d f e k:Nat)(os:List O)(st:St)(K:St->Prop):Prop:=match b with
 |none=>Ah P GL (KG GL f (d+2000) k os) (st.bind (d+2000) (.arr e k [])) (some d) K
 |some _=>False
def NB(f:FuncId)(ds:List D)(d:Nat)(st:St)(K:St->Prop):Prop:=
 (ds.all G5)=true/\∃R,MC P GL f ds [] [] R/\∀r sto',R r sto'->(∀nm∈(AY d sto').map (·.1),Ac st.sto nm=none/\nm<5000)/\K ((⟨st.env,AY d sto'++st.sto⟩:St).put d (Ca d r))
def EE(fv:D)(ds:List D):Option (FuncId×List D):=match fv with
 |.i (.fn f first caps)=>some (f,first.map .i++ds++caps.map .i)
 |.fn f first caps=>some (f,first.map Cp.toD++ds++caps.map Cp.toD)
 |_=>none
def Dr(fo:O)(os:List O)(st:St):Option (FuncId×List D):=EE (AL GL st fo) (os.map (AL GL st))
def Db(v:D)(d:Nat)(A C:D)(st:St)(K:St->Prop):Prop:=match v with
 |.i (.bool t)=>br t (K (st.put d A)) (K (st.put d C))
 |_=>False
def Im(b:Option Blk)(d e k:Nat)(st:St)(K:St->Prop):Prop:=match b with
 |none=>K ((st.bind d (.rows e k [])).put d (.ref (.sl d k 0 0)))
 |some _=>K (((st.frz d (.iter none [])).bind d (.rows e k [])).put d (.ref (.sl d k 0 0)))
def Jt(v:D)(d:Nat)(st:St)(K:St->Prop):Prop:=match v with
 |.i y=>K (st.put d (.i (.elt (cellsI y) 0)))
 |_=>False
def Ee(b:Option Blk)(d:Nat)(cs:List D)(st:St)(K:St->Prop):Prop:=match b with
 |none=>cs.all Da=true/\K ((st.bind d (.cells cs)).put d (.ref (.loc d 0)))
 |some _=>False
def Hd(b:Option Blk)(d off k:Nat)(ag:Bool)(st:St)(K:St->Prop):Prop:=match b with
 |some (.cells cs)=>off+k<=cs.length/\(ag=true->Bk ((cs.drop off).take k)=true)/\K (st.put d (Y4 ag cs off k))
 |_=>False
def Ju(b:Option Blk)(d kk row off k:Nat)(ag:Bool)(st:St)(K:St->Prop):Prop:=match b with
 |some (.rows _ k' rs)=>kk=k'/\row<rs.length/\off+k<=(rs.getD row []).length/\K (st.put d (.i (pk ag (rs.getD row []) off k)))
 |_=>False
def Gm(v:D)(d k:Nat)(ag:Bool)(st:St)(K:St->Prop):Prop:=match v with
 |.i (.elt cs off)=>off+k<=cs.length/\K (st.put d (.i (pk ag cs off k)))
 |.ref (.loc nm off)=>Hd (Ac st.sto nm) d off k ag st K
 |.ref (.lel nm kk row off)=>Ju (Ac st.sto nm) d kk row off k ag st K
 |_=>False
def He(b:Option Blk)(nm off k:Nat)(v:D)(st:St)(K:St->Prop):Prop:=match b with
 |some (.cells cs)=>(AT v).length=k/\(AT v).all Da=true/\off+k<=cs.length/\K (st.setB nm (.cells (setL cs off (AT v))))
 |_=>False
def Jv(b:Option Blk)(nm kk row off k:Nat)(v:D)(st:St)(K:St->Prop):Prop:=match b with
 |some (.rows e k' rs)=>kk=k'/\row<rs.length/\G5 v=true/\(cellsI (FB v)).length=k/\(cellsI (FB v)).all I.one=true/\off+k<=(rs.getD row []).length/\
   K (st.setB nm (.rows e k' (rs.set row (setL (rs.getD row []) off (cellsI (FB v))))))
 |_=>False
def E2(x:D)(v:D)(k:Nat)(st:St)(K:St->Prop):Prop:=match x with
 |.ref (.loc nm off)=>He (Ac st.sto nm) nm off k v st K
 |.ref (.lel nm kk row off)=>Jv (Ac st.sto nm) nm kk row off k v st K
 |_=>False
def Jw(b:Option Blk)(nm off k:Nat)(v:D)(st:St)(K:St->Prop):Prop:=match b with
 |some (.cells cs)=>off=0/\cs.length=k/\G5 v=true/\(cellsI (FB v)).length=k/\(cellsI (FB v)).all I.one=true/\K (st.frz nm (.cells ((cellsI (FB v)).map .i)))
 |_=>False
def Jx(x:D)(v:D)(k:Nat)(st:St)(K:St->Prop):Prop:=match x with
 |.ref (.loc nm off)=>Jw (Ac st.sto nm) nm off k v st K
 |_=>False
def rI(v:D)(d off:Nat)(st:St)(K:St->Prop):Prop:=match v with
 |.i (.elt cs o)=>K (st.put d (.i (.elt cs (o+off))))
 |.ref (.loc nm o)=>K (st.put d (.ref (.loc nm (o+off))))
 |.ref (.lel nm k row o)=>K (st.put d (.ref (.lel nm k row (o+off))))
 |_=>False
def LS(v:D)(d off k:Nat)(ag:Bool)(st:St)(K:St->Prop):Prop:=match v with
 |.i (.agg cs)=>off+k<=cs.length/\K (st.put d (.i (pk ag cs off k)))
 |_=>False
def vP(b:Option Blk)(nm d k k0 lo hi:Nat)(n:Int)(st:St)(K:St->Prop):Prop:=match b with
 |some (.rows _ k' rs)=>k'=k/\k0=k/\(0<=n/\n<((hi-lo:Nat):Int))/\K (st.put d (.ref (.lel nm k (lo+n.toNat) 0)))
 |_=>False
def rP(s i:D)(d k:Nat)(st:St)(K:St->Prop):Prop:=match s,i with
 |.i (.sl rows),.i (.int _ n)=>(0<=n/\n<rows.length)/\(rows.getD n.toNat []).length=k/\K (st.put d (.i (.elt (rows.getD n.toNat []) 0)))
 |.ref (.sl nm k0 lo hi),.i (.int _ n)=>vP (Ac st.sto nm) nm d k k0 lo hi n st K
 |_,_=>False
def In(s i:D)(d:Nat)(st:St)(K:St->Prop):Prop:=match s,i with
 |.i (.str l),.i (.int _ n)=>(0<=n/\n<l.length)/\K (st.put d (.i (.int .u8 ((l.getD n.toNat 0).toNat:Int))))
 |_,_=>False
def LT(s i:D)(d k len:Nat)(ag:Bool)(st:St)(K:St->Prop):Prop:=match s,i with
 |.i (.agg cs),.i (.int _ n)=>(0<=n/\n<(len:Int))/\n.toNat*k+k<=cs.length/\K (st.put d (.i (pk ag cs (n.toNat*k) k)))
 |_,_=>False
def Io(op:BinOp)(x y:D)(d:Nat)(st:St)(K:St->Prop):Prop:=match x,y with
 |.i a,.i b=>CA op a b/\K (st.put d (.i (B3 op a b)))
 |_,_=>False
def rV(op:BinOp)(x y:D)(d:Nat)(st:St)(K:St->Prop):Prop:=match x,y with
 |.i (.int k a),.i (.int _ b)=>0<=b/\K (st.put d (.i (vO op k a b)))
 |_,_=>False
def Ip(r:Option Bool)(neg:Bool)(d:Nat)(st:St)(K:St->Prop):Prop:=match r with
 |some r=>K (st.put d (.i (.bool (if neg then !r else r))))
 |none=>False
def Iq(neg:Bool)(ls:List LK)(x y:D)(d:Nat)(st:St)(K:St->Prop):Prop:=match x,y with
 |.i (.agg a),.i (.agg b)=>Ip (eqL ls a b) neg d st K
 |_,_=>False
def Hf(neg:Bool)(x y:D)(d:Nat)(st:St)(K:St->Prop):Prop:=match x,y with
 |.i (.bool a),.i (.bool b)=>K (st.put d (.i (.bool (if neg then !(a==b)else a==b))))
 |_,_=>False
def Gn:NK->D->Option Bool
 |.pt,.i .nilp|.fn,.i .nilfn|.mp,.i .nilmap|.sl,.i .nilsl=>some true
 |.pt,.i (.elt _ _)|.fn,.i (.fn _ _ _)|.mp,.i (.map _)|.sl,.i (.sl (_::_))|.pt,.ref (.loc _ _)|.pt,.ref (.lel _ _ _ _)|.mp,.ref (.mp _)|.fn,.fn _ _ _=>some false
 |_,_=>none
def B4(q:NK)(neg:Bool)(x:D)(d:Nat)(st:St)(K:St->Prop):Prop:=match Gn q x with
 |some b=>K (st.put d (.i (.bool (b !=neg))))
 |none=>match q,x with
  |.sl,.i (.sl _)|.sl,.ref (.sl _ _ _ _)=>∀b,K (st.put d (.i (.bool b)))
  |_,_=>False
def rJ(op:UnOp)(x:D)(d:Nat)(st:St)(K:St->Prop):Prop:=match op,x with
 |.not,.i (.bool b)=>K (st.put d (.i (.bool !b)))
 |.neg,.i (.int k n)=>K (st.put d (.i (.int k (k.wrap (0-n)))))
 |_,_=>False
def Ir(x:D)(d:Nat)(st:St)(K:St->Prop):Prop:=match x with
 |.i (.str s)=>K (st.put d (.i (.int .i64 s.length)))
 |_=>False
def Gp(x:D)(d:Nat)(st:St)(K:St->Prop):Prop:=match x with
 |.i (.sl rows)=>K (st.put d (.i (.int .i64 rows.length)))
 |.ref (.sl _ _ lo hi)=>K (st.put d (.i (.int .i64 ((hi-lo:Nat):Int))))
 |.i .nilsl=>K (st.put d (.i (.int .i64 0)))
 |_=>False
def Gq(x:D)(i d:Nat)(st:St)(K:St->Prop):Prop:=match x with
 |.i (.tup vs)=>i<vs.length/\K (st.put d (.i (vs.getD i .undef)))
 |.tup cs=>i<cs.length/\K (st.put d (cs.getD i .any).toD)
 |_=>False
def It(f:FuncId)(first caps:Option (List Cp))(d:Nat)(st:St)(K:St->Prop):Prop:=match first,caps with
 |some a,some b=>K (st.put d (wC f a b))
 |_,_=>False
def Ef(mx:Bool)(x y:D)(d:Nat)(st:St)(K:St->Prop):Prop:=match x,y with
 |.i (.int k a),.i (.int _ b)=>K (st.put d (.i (.int k (if mx then(if b>a then b else a)else(if b<a then b else a)))))
 |_,_=>False
def Iu(k:IntKind)(x:D)(d:Nat)(st:St)(K:St->Prop):Prop:=match x with
 |.i (.int _ n)=>K (st.put d (.i (.int k (k.wrap n))))
 |_=>False
def Iv(bl:Option Blk)(nm k0 lo hi d e k b:Nat)(rows:List (List I))(st:St)(K:St->Prop):Prop:=match bl with
 |some (.rows e' k' rs)=>(Nat.blt nm 5000||Nat.ble 5500 nm)=true/\e'=e/\k'=k/\k0=k/\hi<=rs.length/\(∀r∈rows,r.length=k)/\(∀r∈rows,r.all I.one=true)/\(hi-lo+rows.length)*b<=140737488355328/\hi-lo+rows.length<=140737488355328/\
   K (((⟨.sb nm (.iter none []) st.env,Pt nm (.iter none []) st.sto⟩:St).setB nm (.rows e k ((rs.take hi).drop lo++rows))).put d (.ref (.sl nm k 0 (hi-lo+rows.length))))
 |_=>False
def YK:Option D->Option Int
 |none=>some 0
 |some (.i (.int _ n))=>some n
 |_=>none
def YQ(len:Int):Option D->Option Int
 |none=>some len
 |some (.i (.int _ n))=>some n
 |_=>none
def DH(lo hi:Option Int)(top:Nat)(K:Nat->Nat->Prop):Prop:=match lo,hi with
 |some l,some h=>(0<=l/\l<=h/\h<=(top:Int))/\K l.toNat h.toNat
 |_,_=>False
def Jy(b:Option Blk)(nm k0 lo hi d k:Nat)(l h:Option D)(st:St)(K:St->Prop):Prop:=match b with
 |some (.rows _ k' rs)=>k'=k/\k0=k/\DH (YK l) (YQ ((hi-lo:Nat):Int) h) (rs.length-lo) fun a c=>K (st.put d (.ref (.sl nm k (lo+a) (lo+c))))
 |some (.arr _ k' rs)=>k'=k/\k0=k/\DH (YK l) (YQ ((hi-lo:Nat):Int) h) (rs.length-lo) fun a c=>K (st.put d (.ref (.sl nm k (lo+a) (lo+c))))
 |_=>False
def Iw(x:D)(l h:Option D)(d k:Nat)(st:St)(K:St->Prop):Prop:=match x with
 |.i (.sl rows)=>(∀r∈rows,r.length=k)/\DH (YK l) (YQ rows.length h) rows.length fun a c=>K (st.put d (.i (.sl ((rows.take c).drop a))))
 |.ref (.sl nm k0 lo hi)=>Jy (Ac st.sto nm) nm k0 lo hi d k l h st K
 |_=>False
def NC(b:Option Blk)(x:D)(d e k:Nat)(st:St)(K:St->Prop):Prop:=match b,x with
 |none,.i (.sl _)=>K ((st.bind d (.rows e k [])).put d (.ref (.sl d k 0 0)))
 |_,_=>False
def LU(x:D)(l h:Option D)(d:Nat)(st:St)(K:St->Prop):Prop:=match x with
 |.i (.str s)=>DH (YK l) (YQ s.length h) s.length fun a c=>K (st.put d (.i (.str ((s.take c).drop a))))
 |_=>False
def Ix(b:Option Blk)(d:Nat)(ls:List LK)(st:St)(K:St->Prop):Prop:=match b with
 |none=>K ((st.bind d (.map ls [])).put d (.ref (.mp d)))
 |some _=>K (((st.frz d (.iter none [])).bind d (.map ls [])).put d (.ref (.mp d)))
def E3(b:Option Blk)(ls:List LK)(key zero:I)(ok:Bool)(d:Nat)(st:St)(K:St->Prop):Prop:=match b with
 |some (.map ls' es)=>ls'=ls/\K (st.put d (.i (CB es key zero ok)))
 |_=>False
def DY(x key:D)(zero:I)(ok:Bool)(ls:List LK)(d:Nat)(st:St)(K:St->Prop):Prop:=match key with
 |.i q=>Au ls q=true/\match x with
  |.i .nilmap=>K (st.put d (.i (CB [] q zero ok)))
  |.i (.map es)=>(∀e∈es,Au ls e.1=true)/\K (st.put d (.i (CB es q zero ok)))
  |.ref (.mp nm)=>E3 (Ac st.sto nm) ls q zero ok d st K
  |_=>False
 |_=>False
def Hg(b:Option Blk)(nm:Nat)(ls:List LK)(key v:I)(st:St)(K:St->Prop):Prop:=match b with
 |some (.map ls' es)=>ls'=ls/\K (st.setB nm (.map ls (Dp es key v)))
 |_=>False
def Gr(x key v:D)(ls:List LK)(st:St)(K:St->Prop):Prop:=match x,key,v with
 |.ref (.mp nm),.i q,.i u=>Au ls q=true/\Hg (Ac st.sto nm) nm ls q u st K
 |_,_,_=>False
def KH(b:Option Blk)(d:Nat)(st:St)(K:St->Prop):Prop:=match b with
 |some (.map _ es)=>K (st.put d (.i (.int .i64 es.length)))
 |_=>False
def Jz(x:D)(d:Nat)(st:St)(K:St->Prop):Prop:=match x with
 |.i .nilmap=>K (st.put d (.i (.int .i64 0)))
 |.i (.map es)=>K (st.put d (.i (.int .i64 es.length)))
 |.ref (.mp nm)=>KH (Ac st.sto nm) d st K
 |_=>False
def Iy(b:Option Blk)(x:D)(d:Nat)(st:St)(K:St->Prop):Prop:=match b,x with
 |none,.i .nilmap=>K ((st.bind d (.iter none [])).put d (.ref (.it d)))
 |none,.i (.map es)=>K ((st.bind d (.iter none es)).put d (.ref (.it d)))
 |_,_=>False
def JA(b:Option Blk)(nm d:Nat)(st:St)(K:St->Prop):Prop:=match b with
 |some (.iter _ rest)=>(rest=[]->K (st.put d (.i (.tup [.bool false]))))/\∀i (h:i<rest.length),K ((st.setB nm (.iter (some rest[i]) (rest.eraseIdx i))).put d (.i (.tup [.bool true,(rest[i]).1,(rest[i]).2])))
 |_=>False
def JB(x:D)(d:Nat)(st:St)(K:St->Prop):Prop:=match x with
 |.ref (.it nm)=>JA (Ac st.sto nm) nm d st K
 |_=>False
def JC(b:Option Blk)(d:Nat)(st:St)(K:St->Prop):Prop:=match b with
 |some (.iter (some c) _)=>K (st.put d (.i (.tup [c.1,c.2])))
 |_=>False
def JD(x:D)(d:Nat)(st:St)(K:St->Prop):Prop:=match x with
 |.ref (.it nm)=>JC (Ac st.sto nm) d st K
 |_=>False
def JE(x i:D)(d k len:Nat)(st:St)(K:St->Prop):Prop:=match x,i with
 |.i (.elt cs o),.i (.int _ n)=>(0<=n/\n<(len:Int))/\K (st.put d (.i (.elt cs (o+n.toNat*k))))
 |.ref (.loc nm o),.i (.int _ n)=>(0<=n/\n<(len:Int))/\K (st.put d (.ref (.loc nm (o+n.toNat*k))))
 |.ref (.lel nm kk row o),.i (.int _ n)=>(0<=n/\n<(len:Int))/\K (st.put d (.ref (.lel nm kk row (o+n.toNat*k))))
 |_,_=>False
def rowsB(s:List UInt8):List (List I):=s.map fun b=>[.int .u8 (b.toNat:Int)]
def ND:List (List I)->Option (List UInt8)
 |[]=>some []
 |[.int .u8 n]::r=>(ND r).map fun l=>UInt8.ofNat n.toNat::l
 |_=>none
def Iz(b:Option Blk)(d e k:Nat)(rows:List (List I))(st:St)(K:St->Prop):Prop:=match b with
 |none=>K ((st.bind d (.rows e k rows)).put d (.ref (.sl d k 0 rows.length)))
 |some _=>False
def IA(x:D)(d:Nat)(st:St)(K:St->Prop):Prop:=match x with
 |.i (.str s)=>K (st.put d (.i (.sl (rowsB s))))
 |_=>False
def KI(l:Option (List UInt8))(d:Nat)(st:St)(K:St->Prop):Prop:=match l with
 |some l=>K (st.put d (.i (.str l)))
 |none=>False
def LV(x:D)(d:Nat)(st:St)(K:St->Prop):Prop:=match x with
 |.i (.sl rows)=>KI (ND rows) d st K
 |_=>False
def IB(b:Option Blk)(d:Nat)(ls:List LK)(st:St)(K:St->Prop):Prop:=match b with
 |none=>K ((st.bind d (.gmap ls 0 [])).put d (.ref (.mp d)))
 |some _=>False
def Hh(es:List (I×Nat×D))(q:I):Option Nat:=es.findIdx? fun e=>A1 e.1==A1 q
def IC(es:List (I×Nat×D))(q:I):Option D:=match Hh es q with|some j=>(es[j]?).map fun e=>e.2.2|none=>none
def Ds(ok:Bool)(r:Option D)(zero:I)(d:Nat)(st:St)(K:St->Prop):Prop:=match r with
 |some v=>if ok=true then(match BE v with|some c=>K (st.put d (.tup [c,.i (.bool true)]))|none=>False)else K (st.put d v)
 |none=>K (st.put d (.i (if ok=true then .tup [zero,.bool false]else zero)))
def Gs(b:Option Blk)(ls:List LK)(q zero:I)(ok:Bool)(d:Nat)(st:St)(K:St->Prop):Prop:=match b with
 |some (.gmap ls' _ es)=>ls'=ls/\Ds ok (IC es q) zero d st K
 |b=>E3 b ls q zero ok d st K
def Hi(x key:D)(zero:I)(ok:Bool)(ls:List LK)(d:Nat)(st:St)(K:St->Prop):Prop:=match x,key with
 |.ref (.mp nm),.i q=>Au ls q=true/\Gs (Ac st.sto nm) ls q zero ok d st K
 |x,key=>DY x key zero ok ls d st K
def Sy(ls:List LK)(clk:Nat)(es:List (I×Nat×D))(q:I)(v:D):Blk:=match Hh es q with
 |some j=>.gmap ls clk (es.modify j fun e=>(q,e.2.1,v))
 |none=>.gmap ls (clk+1) (es++[(q,clk,v)])
def JF(b:Option Blk)(nm:Nat)(ls:List LK)(q:I)(v:D)(st:St)(K:St->Prop):Prop:=match b,v with
 |some (.gmap ls' clk es),v=>ls'=ls/\K (st.setB nm (Sy ls clk es q v))
 |some (.map ls' es),.i u=>ls'=ls/\K (st.setB nm (.map ls (Dp es q u)))
 |_,_=>False
def NE(x key v:D)(ls:List LK)(st:St)(K:St->Prop):Prop:=match x,key with
 |.ref (.mp nm),.i q=>Au ls q=true/\JF (Ac st.sto nm) nm ls q v st K
 |_,_=>False
def Aq(d clk:Nat):Nat:=7000+1000000*d+clk
def Hj(fr:Option Blk)(nm d:Nat)(ls:List LK)(clk:Nat)(es:List (I×Nat×D))(q zero:I)(e k:Nat)(st:St)(K:St->Prop):Prop:=match zero,fr with
 |.sl [],none=>K (((st.bind (Aq d clk) (.rows e k [])).setB nm (.gmap ls (clk+1) (es++[(q,clk,.ref (.sl (Aq d clk) k 0 0))]))).put d (.tup [.ref (.sl (Aq d clk) k 0 0),.i (.int .i64 clk)]))
 |_,_=>False
def Hk(r:Option (I×Nat×D))(j nm d:Nat)(ls:List LK)(clk:Nat)(es:List (I×Nat×D))(q:I)(st:St)(K:St->Prop):Prop:=match r with
 |some en=>match BE en.2.2 with
  |some c=>K ((st.setB nm (.gmap ls clk (es.modify j fun e=>(q,e.2)))).put d (.tup [c,.i (.int .i64 en.2.1)]))
  |none=>False
 |none=>False
def Hl(b:Option Blk)(nm d:Nat)(ls:List LK)(q zero:I)(e k:Nat)(st:St)(K:St->Prop):Prop:=match b with
 |some (.gmap ls' clk es)=>ls'=ls/\match Hh es q with
  |some j=>Hk (es[j]?) j nm d ls clk es q st K
  |none=>Hj (Ac st.sto (Aq d clk)) nm d ls clk es q zero e k st K
 |_=>False
def Hm(x key:D)(zero:I)(ls:List LK)(e k d:Nat)(st:St)(K:St->Prop):Prop:=match x,key with
 |.ref (.mp nm),.i q=>Au ls q=true/\Hl (Ac st.sto nm) nm d ls q zero e k st K
 |_,_=>False
def Hn(b:Option Blk)(nm:Nat)(s:Int)(v:D)(st:St)(K:St->Prop):Prop:=match b with
 |some (.gmap ls clk es)=>(es.any fun e=>(e.2.1:Int)==s)=true/\K (st.setB nm (.gmap ls clk (es.map fun e=>if((e.2.1:Int)==s)=true then(e.1,e.2.1,v)else e)))
 |_=>False
def ID(x stamp v:D)(st:St)(K:St->Prop):Prop:=match x,stamp with
 |.ref (.mp nm),.i (.int _ s)=>Hn (Ac st.sto nm) nm s v st K
 |_,_=>False
def Ho(b:Option Blk)(lo hi d:Nat)(st:St)(K:St->Prop):Prop:=match b with
 |some (.arr _ _ rs)=>K (st.put d (.i (.int .i64 ((rs.length-lo:Nat):Int))))
 |some (.rows _ _ _)=>∀c:Nat,hi-lo<=c->K (st.put d (.i (.int .i64 (c:Int))))
 |_=>False
def IE(x:D)(d:Nat)(st:St)(K:St->Prop):Prop:=match x with
 |.ref (.sl nm _ lo hi)=>Ho (Ac st.sto nm) lo hi d st K
 |_=>False
def E4:List (Option (List I))->Option (List (List I))
 |[]=>some []
 |some r::rs=>match E4 rs with|some l=>some (r::l)|none=>none
 |none::_=>none
def IF(b:Option Blk)(k0 lo hi:Nat):Option (List (List I)):=match b with
 |some (.rows _ k rs)=>if k=k0/\hi<=rs.length then some ((rs.take hi).drop lo)else none
 |some (.arr _ k rs)=>if k=k0/\hi<=rs.length then E4 ((rs.take hi).drop lo)else none
 |_=>none
def E5(σ:Nat->Option Blk)(y:D):Option (List (List I)):=match y with
 |.i (.sl rows)=>some rows
 |.ref (.sl nm k0 lo hi)=>IF (σ nm) k0 lo hi
 |_=>none
def IG(k:Nat)(ys:List (List I)):Prop:=(∀r∈ys,r.length=k)/\∀r∈ys,r.all I.one=true
def FH(σ:Nat->Option Blk)(y:D)(top:Nat):Option (Nat×List (List I)):=match y with
 |.i (.sl rows)=>some (rows.length,rows.take top)
 |.ref (.sl nm k0 lo hi)=>(match IF (σ nm) k0 lo (min hi (lo+top))with|some r=>some (hi-lo,r)|none=>none)
 |_=>none
def Hp(b:Option Blk)(nm k0 lo hi:Nat)(src:Option (Nat×List (List I)))(d:Option Nat)(e k:Nat)(st:St)(K:St->Prop):Prop:=match b,src with
 |some (.arr e' k' rs),some (len,ys)=>e'=e/\k'=k/\k0=k/\hi<=rs.length/\IG k ys/\
   K (putO (st.setB nm (.arr e k (setL rs lo (ys.map some)))) d (.i (.int .i64 ((min len (hi-lo):Nat):Int))))
 |_,_=>False
def IH(x y:D)(d:Option Nat)(e k:Nat)(st:St)(K:St->Prop):Prop:=match x with
 |.ref (.sl nm k0 lo hi)=>Hp (Ac st.sto nm) nm k0 lo hi (FH (Ac st.sto) y (hi-lo)) d e k st K
 |_=>False
def Gt(b:Option Blk)(nm k0 lo hi:Nat)(z:List I)(d:Option Nat)(st:St)(K:St->Prop):Prop:=match b with
 |some (.rows e k rs)=>k0=k/\z.length=k/\hi<=rs.length/\K (putO (st.setB nm (.rows e k (setL rs lo (List.replicate (hi-lo) z)))) d (.i (.tup [])))
 |some (.arr e k rs)=>k0=k/\z.length=k/\hi<=rs.length/\K (putO (st.setB nm (.arr e k (setL rs lo (List.replicate (hi-lo) (some z))))) d (.i (.tup [])))
 |_=>False
def II(x:D)(z:List I)(d:Option Nat)(st:St)(K:St->Prop):Prop:=match x with
 |.ref (.sl nm k0 lo hi)=>Gt (Ac st.sto nm) nm k0 lo hi z d st K
 |_=>False
def JG(b:Option Blk)(x:D)(d e k bb:Nat)(z:List I)(st:St)(K:St->Prop):Prop:=match b,x with
 |none,.i (.int _ m)=>0<=m/\m<=140737488355328/\(bb:Int)*m<=140737488355328/\K ((st.bind d (.rows e k (List.replicate m.toNat z))).put d (.ref (.sl d k 0 m.toNat)))
 |_,_=>False
def KJ(len:Nat)(l h m:Option Int):Prop:=match l,h,m with
 |some l,some h,some m=>0<=l/\l<=h/\h<=m/\m<=(len:Int)
 |_,_,_=>False
def FI:D->Option Int
 |.i (.int _ n)=>some n
 |_=>none
def KK(x:D)(l:Option D)(h m:D)(d:Nat)(st:St)(K:St->Prop):Prop:=match x with
 |.i (.sl rows)=>KJ rows.length (YK l) (FI h) (FI m)/\K (st.put d .any)
 |.ref (.sl _ _ lo hi)=>KJ (hi-lo) (YK l) (FI h) (FI m)/\K (st.put d .any)
 |_=>False
def Hq(fr:Option Blk)(e' k':Nat)(rs:List (Option (List I)))(nm k0 lo hi d e k b:Nat)(ys:List (List I))(st:St)(K:St->Prop):Prop:=
 e'=e/\k'=k/\k0=k/\lo<=hi/\hi<=rs.length/\IG k ys/\
  (hi+ys.length<=rs.length->K ((st.setB nm (.arr e k (setL rs hi (ys.map some)))).put d (.ref (.sl nm k lo (hi+ys.length)))))/\
  (rs.length<hi+ys.length->∃as,E4 ((rs.take hi).drop lo)=some as/\IG k as/\(hi-lo+ys.length)*b<=140737488355328/\hi-lo+ys.length<=140737488355328/\fr=none/\
   ∀c:Nat,K ((st.bind d (.arr e k ((as++ys).map some++List.replicate c none))).put d (.ref (.sl d k 0 (hi-lo+ys.length)))))
def Hr(bl:Option Blk)(fr:Option Blk)(σ:Nat->Option Blk)(nm k0 lo hi:Nat)(y:D)(d e k b:Nat)(st:St)(K:St->Prop):Prop:=match bl with
 |some (.arr e' k' rs)=>(match E5 σ y with|some ys=>Hq fr e' k' rs nm k0 lo hi d e k b ys st K|none=>False)
 |bl=>(match y with|.i (.sl rows)=>Iv bl nm k0 lo hi d e k b rows st K|_=>False)
def Hs(b fr:Option Blk)(nm k0 lo hi d e k bb:Nat)(m:Int)(z:List I)(st:St)(K:St->Prop):Prop:=match b with
 |some (.arr e' k' rs)=>0<=m/\m<=140737488355328/\m*(bb:Int)<=140737488355328/\Hq fr e' k' rs nm k0 lo hi d e k bb (List.replicate m.toNat z) st K
 |_=>False
def IJ(x n:D)(d e k b:Nat)(z:List I)(st:St)(K:St->Prop):Prop:=match x,n with
 |.ref (.sl nm k0 lo hi),.i (.int _ m)=>Hs (Ac st.sto nm) (Ac st.sto d) nm k0 lo hi d e k b m z st K
 |_,_=>False
def Gu(x y:D)(d e k b:Nat)(st:St)(K:St->Prop):Prop:=match x with
 |.ref (.sl nm k0 lo hi)=>Hr (Ac st.sto nm) (Ac st.sto d) (Ac st.sto) nm k0 lo hi y d e k b st K
 |_=>False
def oN(st:St)(os:List O):List Nat:=DW st.sto (os.flatMap fun o=>(AL GL st o).nms)
def Y8(os:List O)(d:Option Nat)(st:St)(K:St->Prop)(f:FuncId)(ds:List D):Prop:=(os.all fun o=>G5 (AL GL st o))=true/\∃y,MC P GL f ds [] [] (fun r s=>r=.i y/\s=[])/\K (putO st d (.i y))
def IK(get:St->Option (FuncId×List D))(os:List O)(d:Option Nat)(st:St)(K:St->Prop):Prop:=match get st with
 |some p=>Y8 P GL os d st K p.1 p.2
 |none=>False
def Dt(get:St->Option (FuncId×List D))(os:List O)(d:Option Nat)(st:St)(K:St->Prop):Prop:=IK P GL get os d (frzNs (oN GL st os) st) K
def step(ins:Ins)(st:St)(K:St->Prop):Prop:=
 match ins with
 |.mov d x=>K (st.put d (AL GL st x))
 |.pick d c a b=>Db (AL GL st c) d (AL GL st a) (AL GL st b) st K
 |.nils d e k=>Im (Ac st.sto d) d e k st K
 |.box d x=>Jt (AL GL st x) d st K
 |.boxm d x=>Ee (Ac st.sto d) d (AT (AL GL st x)) st K
 |.alloc d zs=>Ee (Ac st.sto d) d (zs.map .i) st K
 |.load d x k ag=>Gm (AL GL st x) d k ag st K
 |.store x v k=>E2 (AL GL st x) (AL GL st v) k st K
 |.stfrz x v k=>Jx (AL GL st x) (AL GL st v) k st K
 |.fa d x off=>rI (AL GL st x) d off st K
 |.fld d x off k ag=>LS (AL GL st x) d off k ag st K
 |.ia d s i k=>rP (AL GL st s) (AL GL st i) d k st K
 |.idx d s i=>In (AL GL st s) (AL GL st i) d st K
 |.aidx d x i k len ag=>LT (AL GL st x) (AL GL st i) d k len ag st K
 |.bin d op x y=>Io op (AL GL st x) (AL GL st y) d st K
 |.sh d op x y=>rV op (AL GL st x) (AL GL st y) d st K
 |.eqs d neg ls x y=>Iq neg ls (AL GL st x) (AL GL st y) d st K
 |.eqb d neg x y=>Hf neg (AL GL st x) (AL GL st y) d st K
 |.isnil d q neg x=>B4 q neg (AL GL st x) d st K
 |.un d op x=>rJ op (AL GL st x) d st K
 |.lens d x=>Ir (AL GL st x) d st K
 |.lenl d x=>Gp (AL GL st x) d st K
 |.ext d x i=>Gq (AL GL st x) i d st K
 |.bsl d e k parts=>match parts with
  |[]=>nilsE' (Ac st.sto d) d e k st K
  |_=>(parts.all fun o=>G5 (AL GL st o)&&((cellsI (FB (AL GL st o))).length==k)&&(cellsI (FB (AL GL st o))).all I.one)=true/\K (st.put d (.i (.sl (parts.map fun o=>cellsI (FB (AL GL st o))))))
 |.bsn d e k ps=>(!ps.isEmpty&&(ps.all fun o=>G5 (AL GL st o)&&((cellsI (FB (AL GL st o))).length==k)&&(cellsI (FB (AL GL st o))).all I.one))=true/\K (st.put d (.i (.sl (ps.map fun o=>cellsI (FB (AL GL st o))))))
 |.bso d e k ps=>(!ps.isEmpty&&(ps.all fun o=>G5 (AL GL st o)&&((cellsI (FB (AL GL st o))).length==k)&&(cellsI (FB (AL GL st o))).all I.one))=true/\Iz (Ac st.sto d) d e k (ps.map fun o=>cellsI (FB (AL GL st o))) st K
 |.build d zs parts=>(parts.all fun p=>G5 (AL GL st p.2.2)&&((cellsI (FB (AL GL st p.2.2))).length==p.2.1))=true/\
   K (st.put d (.i (.agg (Ed zs (parts.map fun p=>(p.1,cellsI (FB (AL GL st p.2.2))))))))
 |.mkfn d f first caps=>It f (first.mapM fun o=>BE (AL GL st o)) (caps.mapM fun o=>BE (AL GL st o)) d st K
 |.call d f args=>Ah P GL (DX GL f args) st d K
 |.callv d fv args=>Ah P GL (Dr GL fv args) st d K
 |.calln d f e k args=>Js P GL (Ac st.sto (d+2000)) d f e k args st K
 |.callo d f args=>NB P GL f (args.map (AL GL st)) d st K
 |.callf d f args=>Dt P GL (DX GL f args) args d st K
 |.callvf d fv args=>Dt P GL (Dr GL fv args) (fv::args) d st K
 |.max d x y=>Ef true (AL GL st x) (AL GL st y) d st K
 |.min d x y=>Ef false (AL GL st x) (AL GL st y) d st K
 |.conv d k x=>Iu k (AL GL st x) d st K
 |.app d e k b x y=>Gu (AL GL st x) (AL GL st y) d e k b st K
 |.slc d x lo hi k=>Iw (AL GL st x) (lo.map (AL GL st)) (hi.map (AL GL st)) d k st K
 |.slc0 d e k x=>NC (Ac st.sto d) (AL GL st x) d e k st K
 |.sslc d x lo hi=>LU (AL GL st x) (lo.map (AL GL st)) (hi.map (AL GL st)) d st K
 |.mkmap d ls=>Ix (Ac st.sto d) d ls st K
 |.lookup d x key zero ok ls=>DY (AL GL st x) (AL GL st key) zero ok ls d st K
 |.mupd x key v ls=>Gr (AL GL st x) (AL GL st key) (AL GL st v) ls st K
 |.lenm d x=>Jz (AL GL st x) d st K
 |.rng d x=>Iy (Ac st.sto d) (AL GL st x) d st K
 |.nxt d x=>JB (AL GL st x) d st K
 |.ent d x=>JD (AL GL st x) d st K
 |.iaa d x i k len=>JE (AL GL st x) (AL GL st i) d k len st K
 |.bytes d x=>IA (AL GL st x) d st K
 |.ofb d x=>LV (AL GL st x) d st K
 |.no _=>False
 |.mkgm d ls=>IB (Ac st.sto d) d ls st K
 |.lookg d x key zero ok ls=>Hi (AL GL st x) (AL GL st key) zero ok ls d st K
 |.mupdg x key v ls=>NE (AL GL st x) (AL GL st key) (AL GL st v) ls st K
 |.ment d x key zero ls e k=>Hm (AL GL st x) (AL GL st key) zero ls e k d st K
 |.ests x s v=>ID (AL GL st x) (AL GL st s) (AL GL st v) st K
 |.cap d x=>IE (AL GL st x) d st K
 |.cpy d x y e k=>IH (AL GL st x) (AL GL st y) d e k st K
 |.clr d x z=>II (AL GL st x) z d st K
 |.mksl d e k b z n=>JG (Ac st.sto d) (AL GL st n) d e k b z st K
 |.appz d e k b x n z=>IJ (AL GL st x) (AL GL st n) d e k b z st K
 |.slc3 d x lo hi mx=>KK (AL GL st x) (lo.map (AL GL st)) (AL GL st hi) (AL GL st mx) d st K
where
 nilsE' (b:Option Blk) (d e k:Nat) (st:St) (K:St->Prop):Prop:=match b with
  |none=>K ((st.bind d (.rows e k [])).put d (.ref (.sl d k 0 0)))
  |some _=>False
def LW(b:Option Blk)(off k:Nat):List Nat:=match b with|some (.cells cs)=>((cs.drop off).take k).flatMap D.nms|_=>[]
def rW(st:St)(k:Nat):D->List Nat
 |.ref (.loc nm off)=>DW st.sto (LW (Ac st.sto nm) off k)
 |_=>[]
def wD(b:Option Blk)(st:St)(d:Nat):List Nat:=match b with
 |none=>[]
 |some _=>DW st.sto [d]
def Av(ins:Ins)(st:St):List Nat:=match ins with
 |.build _ _ ps=>oN GL st (ps.map (·.2.2))
 |.bsl _ _ _ ps=>oN GL st ps
 |.bsn _ _ _ ps=>oN GL st ps
 |.bso _ _ _ ps=>oN GL st ps
 |.load _ x k true=>rW st k (AL GL st x)
 |.app _ _ _ _ x y=>match AL GL st x with|.ref (.sl nm _ _ _)=>(match Ac st.sto nm with|some (.arr _ _ _)=>[]|_=>oN GL st [y])|_=>oN GL st [y]
 |.mupd _ q v _=>oN GL st [q,v]
 |.rng _ x|.box _ x|.slc0 _ _ _ x|.ofb _ x=>oN GL st [x]
 |.stfrz _ v _=>oN GL st [v]
 |.nils d _ _=>wD (Ac st.sto d) st d
 |.mkmap d _=>wD (Ac st.sto d) st d
 |.store x v _=>match AL GL st x with|.ref (.lel _ _ _ _)=>oN GL st [v]|_=>[]
 |_=>[]
def Bg(ins:Ins)(st:St):St:=match ins.dst with|some d=>st.put d (.i .undef)|none=>st
def YU(v:D)(want:Bool)(A C:Prop):Prop:=match v with
 |.i (.bool b)=>br (b==want) A C
 |.i .undef=>C
 |_=>False
def ev:List GI->St->(St->Prop)->Prop
 |[],st,K=>K st
 |g::r,st,K=>
  match g.gd with
  |none=>step P GL g.ins (frzNs (Av GL g.ins st) st) fun s=>ev r s K
  |some (s,want)=>YU (Af st.env s) want (step P GL g.ins (frzNs (Av GL g.ins st) st) fun s=>ev r s K) (ev r (Bg g.ins st) K)
end
end Go.Dl
