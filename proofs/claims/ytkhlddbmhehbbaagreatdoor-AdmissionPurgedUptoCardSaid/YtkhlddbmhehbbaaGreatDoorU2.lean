/-Lemmas.-/
import Derived.Test.YtkhlddbmhehbbaaGreatDoorU1
set_option linter.all false
section
namespace Go.Dl
open Go Go.RowKit
inductive O where
 |t (n:Nat)
 |c (x:I)
 |f (f:FuncId)
 |g (g:Nat)
 deriving Inhabited
def Lt:List (Nat×List I)->Nat->List I
 |[],_=>[]
 |(m,d)::r,n=>if m=n then d else Lt r n
def OK:List (Nat×List I)->Nat->Bool
 |[],_=>false
 |(m,_)::r,n=>if m=n then true else OK r n
inductive NK where
 |sl|mp|fn|pt
 deriving Inhabited,DecidableEq
inductive Ins where
 |mov (d:Nat) (x:O)
 |pick (d:Nat) (c a b:O)
 |nils (d e k:Nat)
 |box (d:Nat) (x:O)
 |boxm (d:Nat) (x:O)
 |alloc (d:Nat) (zs:List I)
 |load (d:Nat) (x:O) (k:Nat) (ag:Bool)
 |store (x v:O) (k:Nat)
 |stfrz (x v:O) (k:Nat)
 |fa (d:Nat) (x:O) (off:Nat)
 |fld (d:Nat) (x:O) (off k:Nat) (ag:Bool)
 |ia (d:Nat) (s i:O) (k:Nat)
 |idx (d:Nat) (s i:O)
 |aidx (d:Nat) (x i:O) (k len:Nat) (ag:Bool)
 |bin (d:Nat) (op:BinOp) (x y:O)
 |sh (d:Nat) (op:BinOp) (x y:O)
 |eqs (d:Nat) (neg:Bool) (ls:List LK) (x y:O)
 |eqb (d:Nat) (neg:Bool) (x y:O)
 |isnil (d:Nat) (q:NK) (neg:Bool) (x:O)
 |un (d:Nat) (op:UnOp) (x:O)
 |lens (d:Nat) (x:O)
 |lenl (d:Nat) (x:O)
 |ext (d:Nat) (x:O) (i:Nat)
 |bsl (d e k:Nat) (parts:List O)
 |bsn (d e k:Nat) (parts:List O)
 |bso (d e k:Nat) (parts:List O)
 |build (d:Nat) (zs:List I) (parts:List (Nat×Nat×O))
 |mkfn (d f:Nat) (first caps:List O)
 |call (d:Option Nat) (f:Nat) (args:List O)
 |callv (d:Option Nat) (f:O) (args:List O)
 |calln (d f e k:Nat) (args:List O)
 |callo (d f:Nat) (args:List O)
 |callf (d:Option Nat) (f:Nat) (args:List O)
 |callvf (d:Option Nat) (f:O) (args:List O)
 |max (d:Nat) (x y:O)
 |min (d:Nat) (x y:O)
 |conv (d:Nat) (k:IntKind) (x:O)
 |app (d e k b:Nat) (x y:O)
 |slc (d:Nat) (x:O) (lo hi:Option O) (k:Nat)
 |slc0 (d e k:Nat) (x:O)
 |sslc (d:Nat) (x:O) (lo hi:Option O)
 |mkmap (d:Nat) (ls:List LK)
 |lookup (d:Nat) (x key:O) (zero:I) (ok:Bool) (ls:List LK)
 |mupd (x key v:O) (ls:List LK)
 |lenm (d:Nat) (x:O)
 |rng (d:Nat) (x:O)
 |nxt (d:Nat) (x:O)
 |ent (d:Nat) (x:O)
 |iaa (d:Nat) (x i:O) (k len:Nat)
 |bytes (d:Nat) (x:O)
 |ofb (d:Nat) (x:O)
 |no (d:Option Nat)
 |mkgm (d:Nat) (ls:List LK)
 |lookg (d:Nat) (x key:O) (zero:I) (ok:Bool) (ls:List LK)
 |mupdg (x key v:O) (ls:List LK)
 |ment (d:Nat) (x key:O) (zero:I) (ls:List LK) (e k:Nat)
 |ests (x stamp v:O)
 |cap (d:Nat) (x:O)
 |cpy (d:Option Nat) (x y:O) (e k:Nat)
 |clr (d:Option Nat) (x:O) (z:List I)
 |mksl (d e k b:Nat) (z:List I) (n:O)
 |slc3 (d:Nat) (x:O) (lo:Option O) (hi mx:O)
 |appz (d e k b:Nat) (x n:O) (z:List I)
 deriving Inhabited
def Ins.dst:Ins->Option Nat
 |.mov d _|.pick d _ _ _|.nils d _ _|.box d _|.boxm d _|.alloc d _|.load d _ _ _|.fa d _ _|.fld d _ _ _ _|.ia d _ _ _|.idx d _ _|.aidx d _ _ _ _ _|.bin d _ _ _|.sh d _ _ _|.eqs d _ _ _ _|.eqb d _ _ _|.isnil d _ _ _|.un d _ _|.lens d _|.lenl d _|.ext d _ _
 |.bsl d _ _ _|.bsn d _ _ _|.bso d _ _ _|.build d _ _|.mkfn d _ _ _|.max d _ _|.min d _ _|.conv d _ _|.app d _ _ _ _ _|.slc d _ _ _ _|.slc0 d _ _ _|.sslc d _ _ _|.mkmap d _|.lookup d _ _ _ _ _|.lenm d _|.rng d _|.nxt d _|.ent d _|.iaa d _ _ _ _|.bytes d _|.ofb d _|.calln d _ _ _ _|.callo d _ _|.mkgm d _|.lookg d _ _ _ _ _|.ment d _ _ _ _ _ _|.cap d _|.mksl d _ _ _ _ _|.slc3 d _ _ _ _|.appz d _ _ _ _ _ _=>some d
 |.call d _ _|.callv d _ _|.callf d _ _|.callvf d _ _|.no d|.cpy d _ _ _ _|.clr d _ _=>d
 |.store _ _ _|.stfrz _ _ _|.mupd _ _ _ _|.mupdg _ _ _ _|.ests _ _ _=>none
structure GI where
 gd:Option (Nat×Bool)
 ins:Ins
def br(b:Bool)(A C:Prop):Prop:=(b=true->A)/\(b=false->C)
@[congr] theorem aHw{b b':Bool}{A C:Prop}(h:b=b'):br b A C=br b' A C:=by rw[h]
theorem WL(A C:Prop):br true A C=A:=by simp[br]
theorem WM(A C:Prop):br false A C=C:=by simp[br]
def A8(GL:List (Nat×List I))(st:St):O->D
 |.t n=>Aj st.env n
 |.c x=>.i x
 |.f k=>.i (.fn k [] [])
 |.g k=>.i (.elt (Lt GL k) 0)
def Bh:D->List D
 |.i (.agg cs)=>cs.map .i
 |x=>[x]
def EP:D->Bool
 |.any=>false
 |.i x=>x.one
 |.tup _=>false
 |_=>true
def pk(ag:Bool)(cs:List I)(off k:Nat):I:=if ag then .agg ((cs.drop off).take k)else cs.getD off .undef
def gG(ag:Bool)(cs:List D)(off k:Nat):D:=if ag then .i (.agg (((cs.drop off).take k).map Ii))else cs.getD off .any
def setL{α:Type}(cs:List α)(off:Nat)(vs:List α):List α:=cs.take off++vs++cs.drop (off+vs.length)
def HA:List I->List (Nat×List I)->List I
 |zs,[]=>zs
 |zs,(off,cs)::r=>HA (setL zs off cs) r
def gH:LK->I->I->Option Bool
 |.b,.bool a,.bool b=>some (a==b)
 |.i q,.int k a,.int k' b=>if k=q/\k'=q then some (a==b)else none
 |.s,.str a,.str b=>some (a==b)
 |_,_,_=>none
def eqL:List LK->List I->List I->Option Bool
 |[],[],[]=>some true
 |l::ls,x::xs,y::ys=>match gH l x y,eqL ls xs ys with
  |some a,some b=>some (a&&b)
  |_,_=>none
 |_,_,_=>none
def DA(op:BinOp):I->I->Prop
 |.int k _,.int k' b=>k=k'/\match op with
  |.add|.sub|.mul|.eql|.neq|.lss|.leq|.gtr|.geq|.and|.or|.xor|.andNot=>True
  |.quo|.rem=>b≠0
  |_=>False
 |.str a,.str b=>match op with
  |.add=>a.length+b.length<=9223372036854775807
  |.eql|.neq|.lss|.leq|.gtr|.geq=>True
  |_=>False
 |_,_=>False
def WN(op:BinOp)(k:IntKind)(a b:Int):I:=
 let x:=BitVec.ofInt k.bits a
 let y:=BitVec.ofInt k.bits b
 match op with
 |.and=>.int k (k.wrap (x&&& y).toNat)
 |.or=>.int k (k.wrap (x|||y).toNat)
 |.xor=>.int k (k.wrap (x ^^^ y).toNat)
 |.andNot=>.int k (k.wrap (x&&& ~~~y).toNat)
 |_=>.undef
def CZ(op:BinOp):I->I->I
 |.int k a,.int _ b=>match op with
  |.add=>.int k (k.wrap (a+b))
  |.sub=>.int k (k.wrap (a-b))
  |.mul=>.int k (k.wrap (a*b))
  |.quo=>.int k (k.wrap (a.tdiv b))
  |.rem=>.int k (a.tmod b)
  |.eql=>.bool (a==b)
  |.neq=>.bool (a !=b)
  |.lss=>.bool (a<b)
  |.leq=>.bool (a<=b)
  |.gtr=>.bool (a>b)
  |.geq=>.bool (a≥b)
  |op=>WN op k a b
 |.str a,.str b=>match op with
  |.add=>.str (a++b)
  |.eql=>.bool (a==b)
  |.neq=>.bool (!(a==b))
  |.lss=>.bool (Op.bytesLess a b)
  |.leq=>.bool (Op.bytesLess a b||a==b)
  |.gtr=>.bool (!(Op.bytesLess a b||a==b))
  |.geq=>.bool (!Op.bytesLess a b)
  |_=>.undef
 |_,_=>.undef
def shV(op:BinOp)(k:IntKind)(a b:Int):I:=match op with
 |.shl=>.int k (k.wrap (a*2 ^ (Nat.min b.toNat k.bits)))
 |.shr=>.int k (a.fdiv (2 ^ (Nat.min b.toNat k.bits)))
 |_=>.undef
def GZ(es:List (I×I))(key:I):Option I:=(es.find? fun e=>Bc e.1==Bc key).map (·.2)
def Ee:List (I×I)->I->I->List (I×I)
 |[],key,v=>[(key,v)]
 |e::r,key,v=>if Bc e.1==Bc key then(key,v)::r else e::Ee r key v
def C0(es:List (I×I))(key zero:I)(ok:Bool):I:=if ok then .tup [(GZ es key).getD zero,.bool (GZ es key).isSome]else(GZ es key).getD zero
def Jc:I->Bool
 |.bool _|.int _ _|.str _|.nilp|.nilfn|.nilmap|.nilif|.nilsl=>true
 |.agg cs=>cs.all flat1
 |.tup cs=>cs.all flat2
 |_=>false
where
 flat1:I->Bool
  |.bool _|.int _ _|.str _|.nilp|.nilfn|.nilmap|.nilif|.nilsl=>true
  |_=>false
 flat2:I->Bool
  |.bool _|.int _ _|.str _|.nilp|.nilfn|.nilmap|.nilif|.nilsl=>true
  |.agg cs=>cs.all flat1
  |_=>false
def inM(b:Option Blk):List Nat:=match b with|some (.cells cs)=>cs.flatMap D.nms|some (.lp _ _ cs)=>cs.flatMap D.nms|some (.gmap _ _ es)=>es.flatMap (fun e=>e.2.2.nms)|_=>[]
def HC(sto:List (Nat×Blk))(l:List Nat):List Nat:=l.flatMap fun nm=>inM (Aa sto nm)++[nm]
def CF:D->Option Cp
 |.any=>some .any
 |.i x=>some (.i x)
 |.ref r=>some (.ref r)
 |.fn _ _ _=>none
 |.tup _=>none
def iCp:Cp->Bool
 |.i _=>true
 |_=>false
def unC:Cp->I
 |.i x=>x
 |_=>.undef
def fnD(f:FuncId)(first caps:List Cp):D:=if first.all iCp&&caps.all iCp then .i (.fn f (first.map unC) (caps.map unC))else .fn f first caps
def putO(st:St)(d:Option Nat)(y:D):St:=match d with|some s=>st.put s y|none=>st
section
variable (P:Program)(GL:List (Nat×List I))
def Br:List (Nat×Blk)->List (Nat×Blk)->Prop
 |[],_=>True
 |(m,b)::r,s=>Aa s m=some b/\Br r s
def OL(l:List (Nat×Blk))(ns:List Nat):Bool:=ns.all fun nm=>(Aa l nm).isSome
def Qo(l:List (Nat×Blk)):List (Nat×Blk)->Bool
 |[]=>true
 |(_,b)::r=>OL l b.nms&&Qo l r
def Ep:List Nat->Bool
 |[]=>true
 |x::r=>!(r.contains x)&&Ep r
def OM:List (Nat×D)->Env->Prop
 |[],_=>True
 |(m,d)::r,e=>Aj e m=d/\OM r e
def clE(l:List (Nat×Blk)):List (Nat×D)->Bool
 |[]=>true
 |(_,d)::r=>OL l d.nms&&clE l r
def Sub(s t:St):Prop:=match s.env with
 |.l es=>OM es t.env/\Br s.sto t.sto/\clE s.sto es=true/\Qo s.sto s.sto=true
 |_=>False
def WO(f:FuncId)(ds:List D)(st:St)(d:Option Nat)(K:St->Prop):Prop:=
 ∃sto mv R,MC P GL f ds sto mv R/\Br sto st.sto/\Qo sto sto=true/\(ds.all fun x=>OL sto x.nms)=true/\(mv.all fun m=>Nat.blt m 5000||Nat.ble 5500 m)=true/\∀r sto',R r sto'->
  (∀nm∈(Bj (d.getD 999) sto').map (·.1),(Aa sto nm).isSome=true\/(Aa st.sto nm=none/\nm<5000))/\(∀nm∈sto.map (·.1),(Aa sto' nm).isSome=true->ren (d.getD 999) nm=nm)/\
  K (putO (DN st sto sto' mv (d.getD 999)) d (Df (d.getD 999) r))
def gI(f:FuncId)(ds:List D)(st:St)(d:Option Nat)(K:St->Prop):Prop:=
 ∃R,MC P GL f ds [] [] R/\(ds.all fun x=>OL [] x.nms)=true/\∀r sto',R r sto'->∃y,r=.i y/\Jc y=true/\K (putO st d (.i y))
def gJ(f:FuncId)(ds:List D)(st:St)(d:Option Nat)(K:St->Prop):Prop:=
 ∃sto mv R,MC P GL f ds sto mv R/\Br sto st.sto/\Qo sto sto=true/\(ds.all fun x=>OL sto x.nms)=true/\(mv.all fun m=>Nat.blt m 5000||Nat.ble 5500 m)=true/\∀r sto',R r sto'->
  (∀nm∈(Bj (d.getD 999) sto').map (·.1),(Aa sto nm).isSome=true\/(Aa st.sto nm=none/\nm<5000))/\(∀nm∈sto.map (·.1),(Aa sto' nm).isSome=true->ren (d.getD 999) nm=nm)/\
  ∃y s',r=.i y/\Sub s' (DN st sto sto' mv (d.getD 999))/\K (putO s' d (.i y))
def Ah(get:St->Option (FuncId×List D))(st:St)(d:Option Nat)(K:St->Prop):Prop:=
 ∃l,match get (frzNs l st)with
  |some (f,ds)=>WO P GL f ds (frzNs l st) d K\/(gI P GL f ds st d K\/gJ P GL f ds (frzNs l st) d K)
  |none=>False
def Fi(f:FuncId)(os:List O)(st:St):Option (FuncId×List D):=some (f,os.map (A8 GL st))
def Lu(nm k:Nat)(st:St):O->D
 |.c .undef=>.ref (.sl nm k 0 0)
 |o=>A8 GL st o
def ON(f nm k:Nat)(os:List O)(st:St):Option (FuncId×List D):=if(Aa st.sto nm).isSome=true then some (f,os.map (Lu GL nm k st))else none
def MZ(b:Option Blk)(d f e k:Nat)(os:List O)(st:St)(K:St->Prop):Prop:=match b with
 |none=>Ah P GL (ON GL f (d+2000) k os) (st.bind (d+2000) (.arr e k [])) (some d) K
 |some _=>False
def Qx(f:FuncId)(ds:List D)(d:Nat)(st:St)(K:St->Prop):Prop:=
 (ds.all Ja)=true/\∃R,MC P GL f ds [] [] R/\∀r sto',R r sto'->(∀nm∈(Bj d sto').map (·.1),Aa st.sto nm=none/\nm<5000)/\K ((⟨st.env,Bj d sto'++st.sto⟩:St).put d (Df d r))
def EQ(fv:D)(ds:List D):Option (FuncId×List D):=match fv with
 |.i (.fn f first caps)=>some (f,first.map .i++ds++caps.map .i)
 |.fn f first caps=>some (f,first.map Cp.toD++ds++caps.map Cp.toD)
 |_=>none
def DZ(fo:O)(os:List O)(st:St):Option (FuncId×List D):=EQ (A8 GL st fo) (os.map (A8 GL st))
def Er(v:D)(d:Nat)(A C:D)(st:St)(K:St->Prop):Prop:=match v with
 |.i (.bool t)=>br t (K (st.put d A)) (K (st.put d C))
 |_=>False
def Lv(b:Option Blk)(d e k:Nat)(st:St)(K:St->Prop):Prop:=match b with
 |none=>K ((st.bind d (.rows e k [])).put d (.ref (.sl d k 0 0)))
 |some _=>K (((st.frz d (.iter none [])).bind d (.rows e k [])).put d (.ref (.sl d k 0 0)))
def M0(v:D)(d:Nat)(st:St)(K:St->Prop):Prop:=match v with
 |.i y=>K (st.put d (.i (.elt (cellsI y) 0)))
 |_=>False
def G0(b:Option Blk)(d:Nat)(cs:List D)(st:St)(K:St->Prop):Prop:=match b with
 |none=>cs.all EP=true/\K ((st.bind d (.cells cs)).put d (.ref (.loc d 0)))
 |some _=>False
def Kg(b:Option Blk)(d off k:Nat)(ag:Bool)(st:St)(K:St->Prop):Prop:=match b with
 |some (.cells cs)=>off+k<=cs.length/\(ag=true->BV ((cs.drop off).take k)=true)/\K (st.put d (gG ag cs off k))
 |_=>False
def M5(b:Option Blk)(d kk row off k:Nat)(ag:Bool)(st:St)(K:St->Prop):Prop:=match b with
 |some (.rows _ k' rs)=>kk=k'/\row<rs.length/\off+k<=(rs.getD row []).length/\K (st.put d (.i (pk ag (rs.getD row []) off k)))
 |_=>False
def Jd(v:D)(d k:Nat)(ag:Bool)(st:St)(K:St->Prop):Prop:=match v with
 |.i (.elt cs off)=>off+k<=cs.length/\K (st.put d (.i (pk ag cs off k)))
 |.ref (.loc nm off)=>Kg (Aa st.sto nm) d off k ag st K
 |.ref (.lel nm kk row off)=>M5 (Aa st.sto nm) d kk row off k ag st K
 |_=>False
def Kh(b:Option Blk)(nm off k:Nat)(v:D)(st:St)(K:St->Prop):Prop:=match b with
 |some (.cells cs)=>(Bh v).length=k/\(Bh v).all EP=true/\off+k<=cs.length/\K (st.setB nm (.cells (setL cs off (Bh v))))
 |_=>False
def M6(b:Option Blk)(nm kk row off k:Nat)(v:D)(st:St)(K:St->Prop):Prop:=match b with
 |some (.rows e k' rs)=>kk=k'/\row<rs.length/\Ja v=true/\(cellsI (Ii v)).length=k/\(cellsI (Ii v)).all I.one=true/\off+k<=(rs.getD row []).length/\
   K (st.setB nm (.rows e k' (rs.set row (setL (rs.getD row []) off (cellsI (Ii v))))))
 |_=>False
def HD(x:D)(v:D)(k:Nat)(st:St)(K:St->Prop):Prop:=match x with
 |.ref (.loc nm off)=>Kh (Aa st.sto nm) nm off k v st K
 |.ref (.lel nm kk row off)=>M6 (Aa st.sto nm) nm kk row off k v st K
 |_=>False
def M7(b:Option Blk)(nm off k:Nat)(v:D)(st:St)(K:St->Prop):Prop:=match b with
 |some (.cells cs)=>off=0/\cs.length=k/\Ja v=true/\(cellsI (Ii v)).length=k/\(cellsI (Ii v)).all I.one=true/\K (st.frz nm (.cells ((cellsI (Ii v)).map .i)))
 |_=>False
def M8(x:D)(v:D)(k:Nat)(st:St)(K:St->Prop):Prop:=match x with
 |.ref (.loc nm off)=>M7 (Aa st.sto nm) nm off k v st K
 |_=>False
def faE(v:D)(d off:Nat)(st:St)(K:St->Prop):Prop:=match v with
 |.i (.elt cs o)=>K (st.put d (.i (.elt cs (o+off))))
 |.ref (.loc nm o)=>K (st.put d (.ref (.loc nm (o+off))))
 |.ref (.lel nm k row o)=>K (st.put d (.ref (.lel nm k row (o+off))))
 |_=>False
def Qy(v:D)(d off k:Nat)(ag:Bool)(st:St)(K:St->Prop):Prop:=match v with
 |.i (.agg cs)=>off+k<=cs.length/\K (st.put d (.i (pk ag cs off k)))
 |_=>False
def iaR(b:Option Blk)(nm d k k0 lo hi:Nat)(n:Int)(st:St)(K:St->Prop):Prop:=match b with
 |some (.rows _ k' rs)=>k'=k/\k0=k/\(0<=n/\n<((hi-lo:Nat):Int))/\K (st.put d (.ref (.lel nm k (lo+n.toNat) 0)))
 |_=>False
def iaE(s i:D)(d k:Nat)(st:St)(K:St->Prop):Prop:=match s,i with
 |.i (.sl rows),.i (.int _ n)=>(0<=n/\n<rows.length)/\(rows.getD n.toNat []).length=k/\K (st.put d (.i (.elt (rows.getD n.toNat []) 0)))
 |.ref (.sl nm k0 lo hi),.i (.int _ n)=>iaR (Aa st.sto nm) nm d k k0 lo hi n st K
 |_,_=>False
def Lw(s i:D)(d:Nat)(st:St)(K:St->Prop):Prop:=match s,i with
 |.i (.str l),.i (.int _ n)=>(0<=n/\n<l.length)/\K (st.put d (.i (.int .u8 ((l.getD n.toNat 0).toNat:Int))))
 |_,_=>False
def Lx(s i:D)(d k len:Nat)(ag:Bool)(st:St)(K:St->Prop):Prop:=match s,i with
 |.i (.agg cs),.i (.int _ n)=>(0<=n/\n<(len:Int))/\n.toNat*k+k<=cs.length/\K (st.put d (.i (pk ag cs (n.toNat*k) k)))
 |_,_=>False
def Ly(op:BinOp)(x y:D)(d:Nat)(st:St)(K:St->Prop):Prop:=match x,y with
 |.i a,.i b=>DA op a b/\K (st.put d (.i (CZ op a b)))
 |_,_=>False
def shE(op:BinOp)(x y:D)(d:Nat)(st:St)(K:St->Prop):Prop:=match x,y with
 |.i (.int k a),.i (.int _ b)=>0<=b/\K (st.put d (.i (shV op k a b)))
 |_,_=>False
def Lz(r:Option Bool)(neg:Bool)(d:Nat)(st:St)(K:St->Prop):Prop:=match r with
 |some r=>K (st.put d (.i (.bool (if neg then !r else r))))
 |none=>False
def LA(neg:Bool)(ls:List LK)(x y:D)(d:Nat)(st:St)(K:St->Prop):Prop:=match x,y with
 |.i (.agg a),.i (.agg b)=>Lz (eqL ls a b) neg d st K
 |_,_=>False
def Ki(neg:Bool)(x y:D)(d:Nat)(st:St)(K:St->Prop):Prop:=match x,y with
 |.i (.bool a),.i (.bool b)=>K (st.put d (.i (.bool (if neg then !(a==b)else a==b))))
 |_,_=>False
def Ik:NK->D->Option Bool
 |.pt,.i .nilp|.fn,.i .nilfn|.mp,.i .nilmap|.sl,.i .nilsl=>some true
 |.pt,.i (.elt _ _)|.fn,.i (.fn _ _ _)|.mp,.i (.map _)|.sl,.i (.sl (_::_))|.pt,.ref (.loc _ _)|.pt,.ref (.lel _ _ _ _)|.mp,.ref (.mp _)|.fn,.fn _ _ _=>some false
 |_,_=>none
def CN(q:NK)(neg:Bool)(x:D)(d:Nat)(st:St)(K:St->Prop):Prop:=match Ik q x with
 |some b=>K (st.put d (.i (.bool (b !=neg))))
 |none=>match q,x with
  |.sl,.i (.sl _)|.sl,.ref (.sl _ _ _ _)=>∀b,K (st.put d (.i (.bool b)))
  |_,_=>False
def unE(op:UnOp)(x:D)(d:Nat)(st:St)(K:St->Prop):Prop:=match op,x with
 |.not,.i (.bool b)=>K (st.put d (.i (.bool !b)))
 |.neg,.i (.int k n)=>K (st.put d (.i (.int k (k.wrap (0-n)))))
 |_,_=>False
def LB(x:D)(d:Nat)(st:St)(K:St->Prop):Prop:=match x with
 |.i (.str s)=>K (st.put d (.i (.int .i64 s.length)))
 |_=>False
def Je(x:D)(d:Nat)(st:St)(K:St->Prop):Prop:=match x with
 |.i (.sl rows)=>K (st.put d (.i (.int .i64 rows.length)))
 |.ref (.sl _ _ lo hi)=>K (st.put d (.i (.int .i64 ((hi-lo:Nat):Int))))
 |.i .nilsl=>K (st.put d (.i (.int .i64 0)))
 |_=>False
def Jf(x:D)(i d:Nat)(st:St)(K:St->Prop):Prop:=match x with
 |.i (.tup vs)=>i<vs.length/\K (st.put d (.i (vs.getD i .undef)))
 |.tup cs=>i<cs.length/\K (st.put d (cs.getD i .any).toD)
 |_=>False
def LC(f:FuncId)(first caps:Option (List Cp))(d:Nat)(st:St)(K:St->Prop):Prop:=match first,caps with
 |some a,some b=>K (st.put d (fnD f a b))
 |_,_=>False
def G1(mx:Bool)(x y:D)(d:Nat)(st:St)(K:St->Prop):Prop:=match x,y with
 |.i (.int k a),.i (.int _ b)=>K (st.put d (.i (.int k (if mx then(if b>a then b else a)else(if b<a then b else a)))))
 |_,_=>False
def LD(k:IntKind)(x:D)(d:Nat)(st:St)(K:St->Prop):Prop:=match x with
 |.i (.int _ n)=>K (st.put d (.i (.int k (k.wrap n))))
 |_=>False
def Kj(bl:Option Blk)(nm k0 lo hi d e k b:Nat)(rows:List (List I))(st:St)(K:St->Prop):Prop:=match bl with
 |some (.rows e' k' rs)=>(Nat.blt nm 5000||Nat.ble 5500 nm)=true/\e'=e/\k'=k/\k0=k/\hi<=rs.length/\(∀r∈rows,r.length=k)/\(∀r∈rows,r.all I.one=true)/\(hi-lo+rows.length)*b<=140737488355328/\hi-lo+rows.length<=140737488355328/\
   K (((⟨.sb nm (.iter none []) st.env,SL nm (.iter none []) st.sto⟩:St).setB nm (.rows e k ((rs.take hi).drop lo++rows))).put d (.ref (.sl nm k 0 (hi-lo+rows.length))))
 |_=>False
def WP:Option D->Option Int
 |none=>some 0
 |some (.i (.int _ n))=>some n
 |_=>none
def gl(len:Int):Option D->Option Int
 |none=>some len
 |some (.i (.int _ n))=>some n
 |_=>none
def ER(lo hi:Option Int)(top:Nat)(K:Nat->Nat->Prop):Prop:=match lo,hi with
 |some l,some h=>(0<=l/\l<=h/\h<=(top:Int))/\K l.toNat h.toNat
 |_,_=>False
def M9(b:Option Blk)(nm k0 lo hi d k:Nat)(l h:Option D)(st:St)(K:St->Prop):Prop:=match b with
 |some (.rows _ k' rs)=>k'=k/\k0=k/\ER (WP l) (gl ((hi-lo:Nat):Int) h) (rs.length-lo) fun a c=>K (st.put d (.ref (.sl nm k (lo+a) (lo+c))))
 |some (.arr _ k' rs)=>k'=k/\k0=k/\ER (WP l) (gl ((hi-lo:Nat):Int) h) (rs.length-lo) fun a c=>K (st.put d (.ref (.sl nm k (lo+a) (lo+c))))
 |_=>False
def LF(x:D)(l h:Option D)(d k:Nat)(st:St)(K:St->Prop):Prop:=match x with
 |.i (.sl rows)=>(∀r∈rows,r.length=k)/\ER (WP l) (gl rows.length h) rows.length fun a c=>K (st.put d (.i (.sl ((rows.take c).drop a))))
 |.ref (.sl nm k0 lo hi)=>M9 (Aa st.sto nm) nm k0 lo hi d k l h st K
 |_=>False
def Na(b:Option Blk)(x:D)(d e k:Nat)(st:St)(K:St->Prop):Prop:=match b,x with
 |none,.i (.sl _)=>K ((st.bind d (.rows e k [])).put d (.ref (.sl d k 0 0)))
 |_,_=>False
def Qz(x:D)(l h:Option D)(d:Nat)(st:St)(K:St->Prop):Prop:=match x with
 |.i (.str s)=>ER (WP l) (gl s.length h) s.length fun a c=>K (st.put d (.i (.str ((s.take c).drop a))))
 |_=>False
def LG(b:Option Blk)(d:Nat)(ls:List LK)(st:St)(K:St->Prop):Prop:=match b with
 |none=>K ((st.bind d (.map ls [])).put d (.ref (.mp d)))
 |some _=>K (((st.frz d (.iter none [])).bind d (.map ls [])).put d (.ref (.mp d)))
def HE(b:Option Blk)(ls:List LK)(key zero:I)(ok:Bool)(d:Nat)(st:St)(K:St->Prop):Prop:=match b with
 |some (.map ls' es)=>ls'=ls/\K (st.put d (.i (C0 es key zero ok)))
 |_=>False
def Fj(x key:D)(zero:I)(ok:Bool)(ls:List LK)(d:Nat)(st:St)(K:St->Prop):Prop:=match key with
 |.i q=>AB ls q=true/\match x with
  |.i .nilmap=>K (st.put d (.i (C0 [] q zero ok)))
  |.i (.map es)=>(∀e∈es,AB ls e.1=true)/\K (st.put d (.i (C0 es q zero ok)))
  |.ref (.mp nm)=>HE (Aa st.sto nm) ls q zero ok d st K
  |_=>False
 |_=>False
def Jg(b:Option Blk)(nm:Nat)(ls:List LK)(key v:I)(st:St)(K:St->Prop):Prop:=match b with
 |some (.map ls' es)=>ls'=ls/\K (st.setB nm (.map ls (Ee es key v)))
 |_=>False
def Il(x key v:D)(ls:List LK)(st:St)(K:St->Prop):Prop:=match x,key,v with
 |.ref (.mp nm),.i q,.i u=>AB ls q=true/\Jg (Aa st.sto nm) nm ls q u st K
 |_,_,_=>False
def OO(b:Option Blk)(d:Nat)(st:St)(K:St->Prop):Prop:=match b with
 |some (.map _ es)=>K (st.put d (.i (.int .i64 es.length)))
 |_=>False
def Nb(x:D)(d:Nat)(st:St)(K:St->Prop):Prop:=match x with
 |.i .nilmap=>K (st.put d (.i (.int .i64 0)))
 |.i (.map es)=>K (st.put d (.i (.int .i64 es.length)))
 |.ref (.mp nm)=>OO (Aa st.sto nm) d st K
 |_=>False
def LH(b:Option Blk)(x:D)(d:Nat)(st:St)(K:St->Prop):Prop:=match b,x with
 |none,.i .nilmap=>K ((st.bind d (.iter none [])).put d (.ref (.it d)))
 |none,.i (.map es)=>K ((st.bind d (.iter none es)).put d (.ref (.it d)))
 |_,_=>False
def Nc(b:Option Blk)(nm d:Nat)(st:St)(K:St->Prop):Prop:=match b with
 |some (.iter _ rest)=>(rest=[]->K (st.put d (.i (.tup [.bool false]))))/\∀i (h:i<rest.length),K ((st.setB nm (.iter (some rest[i]) (rest.eraseIdx i))).put d (.i (.tup [.bool true,(rest[i]).1,(rest[i]).2])))
 |_=>False
def Nd(x:D)(d:Nat)(st:St)(K:St->Prop):Prop:=match x with
 |.ref (.it nm)=>Nc (Aa st.sto nm) nm d st K
 |_=>False
def Nf(b:Option Blk)(d:Nat)(st:St)(K:St->Prop):Prop:=match b with
 |some (.iter (some c) _)=>K (st.put d (.i (.tup [c.1,c.2])))
 |_=>False
def Ng(x:D)(d:Nat)(st:St)(K:St->Prop):Prop:=match x with
 |.ref (.it nm)=>Nf (Aa st.sto nm) d st K
 |_=>False
def Jh(x i:D)(d k len:Nat)(st:St)(K:St->Prop):Prop:=match x,i with
 |.i (.elt cs o),.i (.int _ n)=>(0<=n/\n<(len:Int))/\K (st.put d (.i (.elt cs (o+n.toNat*k))))
 |.ref (.loc nm o),.i (.int _ n)=>(0<=n/\n<(len:Int))/\K (st.put d (.ref (.loc nm (o+n.toNat*k))))
 |.ref (.lel nm kk row o),.i (.int _ n)=>(0<=n/\n<(len:Int))/\K (st.put d (.ref (.lel nm kk row (o+n.toNat*k))))
 |_,_=>False
def rowsB(s:List UInt8):List (List I):=s.map fun b=>[.int .u8 (b.toNat:Int)]
def SR:List (List I)->Option (List UInt8)
 |[]=>some []
 |[.int .u8 n]::r=>(SR r).map fun l=>UInt8.ofNat n.toNat::l
 |_=>none
def Ji(b:Option Blk)(d e k:Nat)(rows:List (List I))(st:St)(K:St->Prop):Prop:=match b with
 |none=>K ((st.bind d (.rows e k rows)).put d (.ref (.sl d k 0 rows.length)))
 |some _=>False
def LI(x:D)(d:Nat)(st:St)(K:St->Prop):Prop:=match x with
 |.i (.str s)=>K (st.put d (.i (.sl (rowsB s))))
 |_=>False
def OP(l:Option (List UInt8))(d:Nat)(st:St)(K:St->Prop):Prop:=match l with
 |some l=>K (st.put d (.i (.str l)))
 |none=>False
def QA(x:D)(d:Nat)(st:St)(K:St->Prop):Prop:=match x with
 |.i (.sl rows)=>OP (SR rows) d st K
 |_=>False
def LJ(b:Option Blk)(d:Nat)(ls:List LK)(st:St)(K:St->Prop):Prop:=match b with
 |none=>K ((st.bind d (.gmap ls 0 [])).put d (.ref (.mp d)))
 |some _=>False
def Es(es:List (I×Nat×D))(q:I):Option Nat:=es.findIdx? fun e=>Bc e.1==Bc q
def FM(es:List (I×Nat×D))(q:I):Option D:=match Es es q with|some j=>(es[j]?).map fun e=>e.2.2|none=>none
def ES(ok:Bool)(r:Option D)(zero:I)(d:Nat)(st:St)(K:St->Prop):Prop:=match r with
 |some v=>if ok=true then(match CF v with|some c=>K (st.put d (.tup [c,.i (.bool true)]))|none=>False)else K (st.put d v)
 |none=>K (st.put d (.i (if ok=true then .tup [zero,.bool false]else zero)))
def Jj(b:Option Blk)(ls:List LK)(q zero:I)(ok:Bool)(d:Nat)(st:St)(K:St->Prop):Prop:=match b with
 |some (.gmap ls' _ es)=>ls'=ls/\ES ok (FM es q) zero d st K
 |b=>HE b ls q zero ok d st K
def Jk(x key:D)(zero:I)(ok:Bool)(ls:List LK)(d:Nat)(st:St)(K:St->Prop):Prop:=match x,key with
 |.ref (.mp nm),.i q=>AB ls q=true/\Jj (Aa st.sto nm) ls q zero ok d st K
 |x,key=>Fj x key zero ok ls d st K
def OQ(ls:List LK)(clk:Nat)(es:List (I×Nat×D))(q:I)(v:D):Blk:=match Es es q with
 |some j=>.gmap ls clk (es.modify j fun e=>(q,e.2.1,v))
 |none=>.gmap ls (clk+1) (es++[(q,clk,v)])
def Jl(b:Option Blk)(nm:Nat)(ls:List LK)(q:I)(v:D)(st:St)(K:St->Prop):Prop:=match b,v with
 |some (.gmap ls' clk es),v=>ls'=ls/\K (st.setB nm (OQ ls clk es q v))
 |some (.map ls' es),.i u=>ls'=ls/\K (st.setB nm (.map ls (Ee es q u)))
 |_,_=>False
def LL(x key v:D)(ls:List LK)(st:St)(K:St->Prop):Prop:=match x,key with
 |.ref (.mp nm),.i q=>AB ls q=true/\Jl (Aa st.sto nm) nm ls q v st K
 |_,_=>False
def Au(d clk:Nat):Nat:=7000+1000000*d+clk
def Jn(fr:Option Blk)(nm d:Nat)(ls:List LK)(clk:Nat)(es:List (I×Nat×D))(q zero:I)(e k:Nat)(st:St)(K:St->Prop):Prop:=match zero,fr with
 |.sl [],none=>K (((st.bind (Au d clk) (.rows e k [])).setB nm (.gmap ls (clk+1) (es++[(q,clk,.ref (.sl (Au d clk) k 0 0))]))).put d (.tup [.ref (.sl (Au d clk) k 0 0),.i (.int .i64 clk)]))
 |_,_=>False
def Jo(r:Option (I×Nat×D))(j nm d:Nat)(ls:List LK)(clk:Nat)(es:List (I×Nat×D))(q:I)(st:St)(K:St->Prop):Prop:=match r with
 |some en=>match CF en.2.2 with
  |some c=>K ((st.setB nm (.gmap ls clk (es.modify j fun e=>(q,e.2)))).put d (.tup [c,.i (.int .i64 en.2.1)]))
  |none=>False
 |none=>False
def Kk(b:Option Blk)(nm d:Nat)(ls:List LK)(q zero:I)(e k:Nat)(st:St)(K:St->Prop):Prop:=match b with
 |some (.gmap ls' clk es)=>ls'=ls/\match Es es q with
  |some j=>Jo (es[j]?) j nm d ls clk es q st K
  |none=>Jn (Aa st.sto (Au d clk)) nm d ls clk es q zero e k st K
 |_=>False
def Kl(x key:D)(zero:I)(ls:List LK)(e k d:Nat)(st:St)(K:St->Prop):Prop:=match x,key with
 |.ref (.mp nm),.i q=>AB ls q=true/\Kk (Aa st.sto nm) nm d ls q zero e k st K
 |_,_=>False
def Km(b:Option Blk)(nm:Nat)(s:Int)(v:D)(st:St)(K:St->Prop):Prop:=match b with
 |some (.gmap ls clk es)=>(es.any fun e=>(e.2.1:Int)==s)=true/\K (st.setB nm (.gmap ls clk (es.map fun e=>if((e.2.1:Int)==s)=true then(e.1,e.2.1,v)else e)))
 |_=>False
def LM(x stamp v:D)(st:St)(K:St->Prop):Prop:=match x,stamp with
 |.ref (.mp nm),.i (.int _ s)=>Km (Aa st.sto nm) nm s v st K
 |_,_=>False
def Kn(b:Option Blk)(lo hi d:Nat)(st:St)(K:St->Prop):Prop:=match b with
 |some (.arr _ _ rs)=>K (st.put d (.i (.int .i64 ((rs.length-lo:Nat):Int))))
 |some (.rows _ _ _)=>∀c:Nat,hi-lo<=c->K (st.put d (.i (.int .i64 (c:Int))))
 |_=>False
def LN(x:D)(d:Nat)(st:St)(K:St->Prop):Prop:=match x with
 |.ref (.sl nm _ lo hi)=>Kn (Aa st.sto nm) lo hi d st K
 |_=>False
def FN:List (Option (List I))->Option (List (List I))
 |[]=>some []
 |some r::rs=>match FN rs with|some l=>some (r::l)|none=>none
 |none::_=>none
def LO(b:Option Blk)(k0 lo hi:Nat):Option (List (List I)):=match b with
 |some (.rows _ k rs)=>if k=k0/\hi<=rs.length then some ((rs.take hi).drop lo)else none
 |some (.arr _ k rs)=>if k=k0/\hi<=rs.length then FN ((rs.take hi).drop lo)else none
 |_=>none
def G2(σ:Nat->Option Blk)(y:D):Option (List (List I)):=match y with
 |.i (.sl rows)=>some rows
 |.ref (.sl nm k0 lo hi)=>LO (σ nm) k0 lo hi
 |_=>none
def LP(k:Nat)(ys:List (List I)):Prop:=(∀r∈ys,r.length=k)/\∀r∈ys,r.all I.one=true
def Im(σ:Nat->Option Blk)(y:D)(top:Nat):Option (Nat×List (List I)):=match y with
 |.i (.sl rows)=>some (rows.length,rows.take top)
 |.ref (.sl nm k0 lo hi)=>(match LO (σ nm) k0 lo (min hi (lo+top))with|some r=>some (hi-lo,r)|none=>none)
 |_=>none
def Ko(b:Option Blk)(nm k0 lo hi:Nat)(src:Option (Nat×List (List I)))(d:Option Nat)(e k:Nat)(st:St)(K:St->Prop):Prop:=match b,src with
 |some (.arr e' k' rs),some (len,ys)=>e'=e/\k'=k/\k0=k/\hi<=rs.length/\LP k ys/\
   K (putO (st.setB nm (.arr e k (setL rs lo (ys.map some)))) d (.i (.int .i64 ((min len (hi-lo):Nat):Int))))
 |_,_=>False
def LR(x y:D)(d:Option Nat)(e k:Nat)(st:St)(K:St->Prop):Prop:=match x with
 |.ref (.sl nm k0 lo hi)=>Ko (Aa st.sto nm) nm k0 lo hi (Im (Aa st.sto) y (hi-lo)) d e k st K
 |_=>False
def Jp(b:Option Blk)(nm k0 lo hi:Nat)(z:List I)(d:Option Nat)(st:St)(K:St->Prop):Prop:=match b with
 |some (.rows e k rs)=>k0=k/\z.length=k/\hi<=rs.length/\K (putO (st.setB nm (.rows e k (setL rs lo (List.replicate (hi-lo) z)))) d (.i (.tup [])))
 |some (.arr e k rs)=>k0=k/\z.length=k/\hi<=rs.length/\K (putO (st.setB nm (.arr e k (setL rs lo (List.replicate (hi-lo) (some z))))) d (.i (.tup [])))
 |_=>False
def LS(x:D)(z:List I)(d:Option Nat)(st:St)(K:St->Prop):Prop:=match x with
 |.ref (.sl nm k0 lo hi)=>Jp (Aa st.sto nm) nm k0 lo hi z d st K
 |_=>False
def Nh(b:Option Blk)(x:D)(d e k bb:Nat)(z:List I)(st:St)(K:St->Prop):Prop:=match b,x with
 |none,.i (.int _ m)=>0<=m/\m<=140737488355328/\(bb:Int)*m<=140737488355328/\K ((st.bind d (.rows e k (List.replicate m.toNat z))).put d (.ref (.sl d k 0 m.toNat)))
 |_,_=>False
def Ni(len:Nat)(l h m:Option Int):Prop:=match l,h,m with
 |some l,some h,some m=>0<=l/\l<=h/\h<=m/\m<=(len:Int)
 |_,_,_=>False
def HF:D->Option Int
 |.i (.int _ n)=>some n
 |_=>none
def Kp(x:D)(l:Option D)(h m:D)(d:Nat)(st:St)(K:St->Prop):Prop:=match x with
 |.i (.sl rows)=>Ni rows.length (WP l) (HF h) (HF m)/\K (st.put d .any)
 |.ref (.sl _ _ lo hi)=>Ni (hi-lo) (WP l) (HF h) (HF m)/\K (st.put d .any)
 |_=>False
def Kr(fr:Option Blk)(e' k':Nat)(rs:List (Option (List I)))(nm k0 lo hi d e k b:Nat)(ys:List (List I))(st:St)(K:St->Prop):Prop:=
 e'=e/\k'=k/\k0=k/\lo<=hi/\hi<=rs.length/\LP k ys/\
  (hi+ys.length<=rs.length->K ((st.setB nm (.arr e k (setL rs hi (ys.map some)))).put d (.ref (.sl nm k lo (hi+ys.length)))))/\
  (rs.length<hi+ys.length->∃as,FN ((rs.take hi).drop lo)=some as/\LP k as/\(hi-lo+ys.length)*b<=140737488355328/\hi-lo+ys.length<=140737488355328/\fr=none/\
   ∀c:Nat,K ((st.bind d (.arr e k ((as++ys).map some++List.replicate c none))).put d (.ref (.sl d k 0 (hi-lo+ys.length)))))
def Ks(bl:Option Blk)(fr:Option Blk)(σ:Nat->Option Blk)(nm k0 lo hi:Nat)(y:D)(d e k b:Nat)(st:St)(K:St->Prop):Prop:=match bl with
 |some (.arr e' k' rs)=>(match G2 σ y with|some ys=>Kr fr e' k' rs nm k0 lo hi d e k b ys st K|none=>False)
 |bl=>(match y with|.i (.sl rows)=>Kj bl nm k0 lo hi d e k b rows st K|_=>False)
def Kt(b fr:Option Blk)(nm k0 lo hi d e k bb:Nat)(m:Int)(z:List I)(st:St)(K:St->Prop):Prop:=match b with
 |some (.arr e' k' rs)=>0<=m/\m<=140737488355328/\m*(bb:Int)<=140737488355328/\Kr fr e' k' rs nm k0 lo hi d e k bb (List.replicate m.toNat z) st K
 |_=>False
def LU(x n:D)(d e k b:Nat)(z:List I)(st:St)(K:St->Prop):Prop:=match x,n with
 |.ref (.sl nm k0 lo hi),.i (.int _ m)=>Kt (Aa st.sto nm) (Aa st.sto d) nm k0 lo hi d e k b m z st K
 |_,_=>False
def Jq(x y:D)(d e k b:Nat)(st:St)(K:St->Prop):Prop:=match x with
 |.ref (.sl nm k0 lo hi)=>Ks (Aa st.sto nm) (Aa st.sto d) (Aa st.sto) nm k0 lo hi y d e k b st K
 |_=>False
def oN(st:St)(os:List O):List Nat:=HC st.sto (os.flatMap fun o=>(A8 GL st o).nms)
def gK(os:List O)(d:Option Nat)(st:St)(K:St->Prop)(f:FuncId)(ds:List D):Prop:=(os.all fun o=>Ja (A8 GL st o))=true/\∃y,MC P GL f ds [] [] (fun r s=>r=.i y/\s=[])/\K (putO st d (.i y))
def Ku(get:St->Option (FuncId×List D))(os:List O)(d:Option Nat)(st:St)(K:St->Prop):Prop:=match get st with
 |some p=>gK P GL os d st K p.1 p.2
 |none=>False
def Et(get:St->Option (FuncId×List D))(os:List O)(d:Option Nat)(st:St)(K:St->Prop):Prop:=Ku P GL get os d (frzNs (oN GL st os) st) K
def step(ins:Ins)(st:St)(K:St->Prop):Prop:=
 match ins with
 |.mov d x=>K (st.put d (A8 GL st x))
 |.pick d c a b=>Er (A8 GL st c) d (A8 GL st a) (A8 GL st b) st K
 |.nils d e k=>Lv (Aa st.sto d) d e k st K
 |.box d x=>M0 (A8 GL st x) d st K
 |.boxm d x=>G0 (Aa st.sto d) d (Bh (A8 GL st x)) st K
 |.alloc d zs=>G0 (Aa st.sto d) d (zs.map .i) st K
 |.load d x k ag=>Jd (A8 GL st x) d k ag st K
 |.store x v k=>HD (A8 GL st x) (A8 GL st v) k st K
 |.stfrz x v k=>M8 (A8 GL st x) (A8 GL st v) k st K
 |.fa d x off=>faE (A8 GL st x) d off st K
 |.fld d x off k ag=>Qy (A8 GL st x) d off k ag st K
 |.ia d s i k=>iaE (A8 GL st s) (A8 GL st i) d k st K
 |.idx d s i=>Lw (A8 GL st s) (A8 GL st i) d st K
 |.aidx d x i k len ag=>Lx (A8 GL st x) (A8 GL st i) d k len ag st K
 |.bin d op x y=>Ly op (A8 GL st x) (A8 GL st y) d st K
 |.sh d op x y=>shE op (A8 GL st x) (A8 GL st y) d st K
 |.eqs d neg ls x y=>LA neg ls (A8 GL st x) (A8 GL st y) d st K
 |.eqb d neg x y=>Ki neg (A8 GL st x) (A8 GL st y) d st K
 |.isnil d q neg x=>CN q neg (A8 GL st x) d st K
 |.un d op x=>unE op (A8 GL st x) d st K
 |.lens d x=>LB (A8 GL st x) d st K
 |.lenl d x=>Je (A8 GL st x) d st K
 |.ext d x i=>Jf (A8 GL st x) i d st K
 |.bsl d e k parts=>match parts with
  |[]=>nilsE' (Aa st.sto d) d e k st K
  |_=>(parts.all fun o=>Ja (A8 GL st o)&&((cellsI (Ii (A8 GL st o))).length==k)&&(cellsI (Ii (A8 GL st o))).all I.one)=true/\K (st.put d (.i (.sl (parts.map fun o=>cellsI (Ii (A8 GL st o))))))
 |.bsn d e k ps=>(!ps.isEmpty&&(ps.all fun o=>Ja (A8 GL st o)&&((cellsI (Ii (A8 GL st o))).length==k)&&(cellsI (Ii (A8 GL st o))).all I.one))=true/\K (st.put d (.i (.sl (ps.map fun o=>cellsI (Ii (A8 GL st o))))))
 |.bso d e k ps=>(!ps.isEmpty&&(ps.all fun o=>Ja (A8 GL st o)&&((cellsI (Ii (A8 GL st o))).length==k)&&(cellsI (Ii (A8 GL st o))).all I.one))=true/\Ji (Aa st.sto d) d e k (ps.map fun o=>cellsI (Ii (A8 GL st o))) st K
 |.build d zs parts=>(parts.all fun p=>Ja (A8 GL st p.2.2)&&((cellsI (Ii (A8 GL st p.2.2))).length==p.2.1))=true/\
   K (st.put d (.i (.agg (HA zs (parts.map fun p=>(p.1,cellsI (Ii (A8 GL st p.2.2))))))))
 |.mkfn d f first caps=>LC f (first.mapM fun o=>CF (A8 GL st o)) (caps.mapM fun o=>CF (A8 GL st o)) d st K
 |.call d f args=>Ah P GL (Fi GL f args) st d K
 |.callv d fv args=>Ah P GL (DZ GL fv args) st d K
 |.calln d f e k args=>MZ P GL (Aa st.sto (d+2000)) d f e k args st K
 |.callo d f args=>Qx P GL f (args.map (A8 GL st)) d st K
 |.callf d f args=>Et P GL (Fi GL f args) args d st K
 |.callvf d fv args=>Et P GL (DZ GL fv args) (fv::args) d st K
 |.max d x y=>G1 true (A8 GL st x) (A8 GL st y) d st K
 |.min d x y=>G1 false (A8 GL st x) (A8 GL st y) d st K
 |.conv d k x=>LD k (A8 GL st x) d st K
 |.app d e k b x y=>Jq (A8 GL st x) (A8 GL st y) d e k b st K
 |.slc d x lo hi k=>LF (A8 GL st x) (lo.map (A8 GL st)) (hi.map (A8 GL st)) d k st K
 |.slc0 d e k x=>Na (Aa st.sto d) (A8 GL st x) d e k st K
 |.sslc d x lo hi=>Qz (A8 GL st x) (lo.map (A8 GL st)) (hi.map (A8 GL st)) d st K
 |.mkmap d ls=>LG (Aa st.sto d) d ls st K
 |.lookup d x key zero ok ls=>Fj (A8 GL st x) (A8 GL st key) zero ok ls d st K
 |.mupd x key v ls=>Il (A8 GL st x) (A8 GL st key) (A8 GL st v) ls st K
 |.lenm d x=>Nb (A8 GL st x) d st K
 |.rng d x=>LH (Aa st.sto d) (A8 GL st x) d st K
 |.nxt d x=>Nd (A8 GL st x) d st K
 |.ent d x=>Ng (A8 GL st x) d st K
 |.iaa d x i k len=>Jh (A8 GL st x) (A8 GL st i) d k len st K
 |.bytes d x=>LI (A8 GL st x) d st K
 |.ofb d x=>QA (A8 GL st x) d st K
 |.no _=>False
 |.mkgm d ls=>LJ (Aa st.sto d) d ls st K
 |.lookg d x key zero ok ls=>Jk (A8 GL st x) (A8 GL st key) zero ok ls d st K
 |.mupdg x key v ls=>LL (A8 GL st x) (A8 GL st key) (A8 GL st v) ls st K
 |.ment d x key zero ls e k=>Kl (A8 GL st x) (A8 GL st key) zero ls e k d st K
 |.ests x s v=>LM (A8 GL st x) (A8 GL st s) (A8 GL st v) st K
 |.cap d x=>LN (A8 GL st x) d st K
 |.cpy d x y e k=>LR (A8 GL st x) (A8 GL st y) d e k st K
 |.clr d x z=>LS (A8 GL st x) z d st K
 |.mksl d e k b z n=>Nh (Aa st.sto d) (A8 GL st n) d e k b z st K
 |.appz d e k b x n z=>LU (A8 GL st x) (A8 GL st n) d e k b z st K
 |.slc3 d x lo hi mx=>Kp (A8 GL st x) (lo.map (A8 GL st)) (A8 GL st hi) (A8 GL st mx) d st K
where
 nilsE' (b:Option Blk) (d e k:Nat) (st:St) (K:St->Prop):Prop:=match b with
  |none=>K ((st.bind d (.rows e k [])).put d (.ref (.sl d k 0 0)))
  |some _=>False
def QB(b:Option Blk)(off k:Nat):List Nat:=match b with|some (.cells cs)=>((cs.drop off).take k).flatMap D.nms|_=>[]
def ldN(st:St)(k:Nat):D->List Nat
 |.ref (.loc nm off)=>HC st.sto (QB (Aa st.sto nm) off k)
 |_=>[]
def ovN(b:Option Blk)(st:St)(d:Nat):List Nat:=match b with
 |none=>[]
 |some _=>HC st.sto [d]
def AC(ins:Ins)(st:St):List Nat:=match ins with
 |.build _ _ ps=>oN GL st (ps.map (·.2.2))
 |.bsl _ _ _ ps=>oN GL st ps
 |.bsn _ _ _ ps=>oN GL st ps
 |.bso _ _ _ ps=>oN GL st ps
 |.load _ x k true=>ldN st k (A8 GL st x)
 |.app _ _ _ _ x y=>match A8 GL st x with|.ref (.sl nm _ _ _)=>(match Aa st.sto nm with|some (.arr _ _ _)=>[]|_=>oN GL st [y])|_=>oN GL st [y]
 |.mupd _ q v _=>oN GL st [q,v]
 |.rng _ x|.box _ x|.slc0 _ _ _ x|.ofb _ x=>oN GL st [x]
 |.stfrz _ v _=>oN GL st [v]
 |.nils d _ _=>ovN (Aa st.sto d) st d
 |.mkmap d _=>ovN (Aa st.sto d) st d
 |.store x v _=>match A8 GL st x with|.ref (.lel _ _ _ _)=>oN GL st [v]|_=>[]
 |_=>[]
def BF(ins:Ins)(st:St):St:=match ins.dst with|some d=>st.put d (.i .undef)|none=>st
def gL(v:D)(want:Bool)(A C:Prop):Prop:=match v with
 |.i (.bool b)=>br (b==want) A C
 |.i .undef=>C
 |_=>False
def ev:List GI->St->(St->Prop)->Prop
 |[],st,K=>K st
 |g::r,st,K=>
  match g.gd with
  |none=>step P GL g.ins (frzNs (AC GL g.ins st) st) fun s=>ev r s K
  |some (s,want)=>gL (Aj st.env s) want (step P GL g.ins (frzNs (AC GL g.ins st) st) fun s=>ev r s K) (ev r (BF g.ins st) K)
end
end Go.Dl
end
section
namespace Go.Dl
open Go Go.RowKit
variable{v:Value}
def Jr:Value->Option I
 |.bool b=>some (.bool b)
 |.int k n=>some (.int k n)
 |.string s=>some (.str s.data.toList)
 |.pointer none=>some .nilp
 |.slice none 0 0=>some (.sl [])
 |.nilFunc=>some .nilfn
 |.map none=>some .nilmap
 |.nilIface=>some .nilif
 |_=>none
def D0:Value->Option I
 |.agg cs=>(cs.toList.mapM Jr).map .agg
 |v=>Jr v
theorem WQ{M:Mem}{x:I}(h:Jr v=some x):Rep M x v:=by
 unfold Jr at h;split at h<;>simp at h<;>subst h
 ·exact .bool _
 ·exact .int _ _
 ·rename_i s;exact Rep.str (M:=M) s.data.toList
 ·exact .nilp
 ·exact .slnil
 ·exact .nilfn
 ·exact .nilmap
 ·exact .nilif
theorem WR{M:Mem}:∀{vs:List Value} {xs:List I},vs.mapM Jr=some xs->Ak M xs vs
 |[],xs,h=>by grind[Ak.nil]
 |v::vs,xs,h=>by
  rw[List.mapM_cons]at h;cases h1:Jr v with
  |none=>simp[h1]at h
  |some x=>
   cases h2:vs.mapM Jr with
   |none=>simp[h1,h2]at h
   |some ys=>simp[h1,h2]at h;subst h;exact Ak.cons (WQ h1) (WR h2)
theorem G3{M:Mem}{x:I}(h:D0 v=some x):Rep M x v:=by
 unfold D0 at h;split at h
 ·rename_i cs;cases h2:cs.toList.mapM Jr with
  |none=>simp[h2]at h
  |some ys=>simp[h2]at h;subst h;exact Rep.agg' (WR h2)
 ·exact WQ h
def cO(GL:List (Nat×List I)):Operand->Option O
 |.tmp t=>some (.t t)
 |.const v=>(D0 v).map .c
 |.func f=>if Nat.blt f 1000000000=true then some (.f f)else none
 |.global g=>if OK GL g then some (.g g)else none
theorem gM{GL:List (Nat×List I)}{g:Nat}(h:OK GL g=true):(g,Lt GL g)∈GL:=by
 induction GL with
 |nil=>simp[OK]at h
 |cons x r ih=>grind[OK,Lt]
def Qp(P:Program)(t:TypeId):Option Nat:=(P.info? t).map (·.size)
def Eu(P:Program)(t:TypeId):Option Bool:=
 match P.underlying t with
 |some (.struct _)|some (.array _ _)=>some true
 |some _=>some false
 |none=>none
theorem Fk(b o j:Nat):(⟨b,o,none⟩:Addr).add j=⟨b,o+j,none⟩:=by unfold Addr.add;split<;>simp_all
section
variable {P:Program}{GL:List (Nat×List I)}{n:Nat}{S:Sh}{M:Mem}{μ:Place}{st:St}{a:Act}{w:World}{K:St->Prop}{Q:Exit->Act->World->Prop}{o:Oper}{d:Nat}
theorem Az(h:Rel GL n S M μ st a w){x:Operand}{o:O}(hc:cO GL x=some o):AI M μ (names st.sto) (A8 GL st o) (a.eval x):=by
 cases x with
 |tmp t=>simp[cO]at hc;subst hc;exact h.env t
 |const v=>simp only[cO,Option.map_eq_some_iff]at hc;obtain⟨y,hy,rfl⟩:=hc;exact G3 hy
 |global g=>
  simp only[cO]at hc;split at hc
  ·simp at hc;subst hc;exact h.glob _ _ (gM ‹_›)
  ·simp at hc
 |func f=>
  simp only[cO]at hc;split at hc
  ·rename_i hy;cases hc;exact Rep.fn' hy (Ak.nil M) (Ak.nil M)
  ·cases hc
theorem OR(h:Rel GL n S M μ st a w):∀{xs:List Operand} {os:List O},xs.mapM (cO GL)=some os->Dq M μ (names st.sto) (os.map (A8 GL st)) (xs.map a.eval)
 |[],os,hc=>by simp at hc;subst hc;exact⟨rfl,fun j hj=>by simp at hj⟩
 |x::xs,os,hc=>by
  rw[List.mapM_cons]at hc;cases h1:cO GL x with
  |none=>simp[h1]at hc
  |some o=>
   cases h2:xs.mapM (cO GL)with
   |none=>simp[h1,h2]at hc
   |some os'=>simp[h1,h2]at hc;subst hc;obtain⟨q1,q2⟩:=OR h h2;refine⟨by simp at q1⊢;exact q1,fun j hj jq=>?_⟩;grind[Az]
theorem OS{x:D}{N:Nat->Prop}(h:AI M μ N x v)(hi:Ja x=true):Rep M (Ii x) v:=by cases x<;>simp[Ja]at hi;exact h
abbrev Ax(GL:List (Nat×List I))(n:Nat)(S:Sh)(M:Mem)(w:World)(K:St->Prop):Act->World->Prop:=fun a' w'=>∃st',K st'/\gg GL n S M w st' a' w'
def _root_.Go.Oper.wpX(P:Program)(o:Oper)(a:Act)(w:World)(next:Act->World->Prop)(Q:Exit->Act->World->Prop):Prop:=
 o.uponIn Fence.wide 0 P a next Q ((execOp a.eval o).run P w)
theorem B9{w':World}(hr:(execOp a.eval o).run P w=.ok (.value v) w')(h:Ax GL n S M w K (a.put o.dst v) w'):o.wpX P a w (Ax GL n S M w K) Q:=by unfold Oper.wpX;rw[hr];exact h
theorem Nj{w':World}(hr:(execOp a.eval o).run P w=.ok .skip w')(h:Ax GL n S M w K (a.put o.dst Go.undef) w'):o.wpX P a w (Ax GL n S M w K) Q:=by unfold Oper.wpX;rw[hr];exact h
theorem A3{x:D}(h:Rel GL n S M μ st a w)(hd:o.dst=some d)(hn:d<n)(hr:(execOp a.eval o).run P w=.ok (.value v) w)(hx:AI M μ (names st.sto) x v)(hk:K (st.put d x)):o.wpX P a w (Ax GL n S M w K) Q:=
 B9 hr ⟨_,hk,M,μ,by rw[hd];exact h.put hn hx,MExt.refl _ _,Keeps.refl _ _⟩
theorem EU {t:TypeId}{k:Nat}(h:Qp P t=some k)(w:World):(sizeOf t).run P w=.ok k w:=by
 unfold Qp at h;cases hi:P.info? t with
 |none=>simp[hi]at h
 |some i=>simp[hi]at h;subst h;simp[sizeOf,typeInfo,hi]
theorem QC {t:TypeId}{b:Bool}(h:Eu P t=some b)(w:World):(isAgg t).run P w=.ok b w:=by
 unfold Eu at h;unfold isAgg;rw[Sem.run_bind];split at h<;>rename_i hu<;>first
  |(cases h;done)
  |(simp only[Option.some.injEq]at h;subst h
    rw[run_underlying hu w];first|rfl|(simp only[Result.andThen_ok];rfl))
theorem OT{t:TypeId}{k:Nat}{ag:Bool}{b oo:Nat}(hk:Qp P t=some k)(ha:Eu P t=some ag)(kt:ag=false->k=1){f:Nat->Value}(hc:∀j,j<k->w.cell? ⟨b,oo+j,none⟩=some (f j)):
  (loadVar t ⟨b,oo,none⟩).run P w=.ok (if ag then .agg ((List.range k).map f).toArray else f 0) w:=by
 cases ag with
 |true=>
  have hl:(loadCells ⟨b,oo,none⟩ k).run P w=.ok ((List.range k).map f).toArray w:=run_loadCells w _ k _ fun j hj=>by grind[Fk]
  simp only[loadVar,Sem.run_bind,QC ha,Result.andThen_ok,if_true,EU hk,hl,Sem.run_pure]
 |false=>obtain rfl:=kt rfl;have:=hc 0 (by omega);rw[Nat.add_zero]at this;simp only[loadVar,Sem.run_bind,QC ha,Result.andThen_ok,run_load,this,if_false,Bool.false_eq_true]
theorem SS{cs:List I}{off k:Nat}{ag:Bool}{f:Nat->Value}(kt:ag=false->k=1)(jj:off+k<=cs.length)(hf:∀j (h:j<k),Rep M (cs[off+j]'(by omega)) (f j)):
  Rep M (pk ag cs off k) (if ag then .agg ((List.range k).map f).toArray else f 0):=by
 cases ag with
 |true=>simp only[pk,if_true];refine Rep.agg' ⟨by simp;omega,fun j h1 h2=>?_⟩;simp at h1 h2⊢;exact hf _ (by omega)
 |false=>
  obtain rfl:=kt rfl;simp only[pk,Bool.false_eq_true,if_false];have:cs.getD off .undef=cs[off]'(by omega):=by grind
  rw[this];exact hf 0 (by omega)
theorem gN(h:Rel GL n S M μ st a w){nm:Nat}{et kk:TypeId}{rs:List (List I)}(hg:Aa st.sto nm=some (.rows et kk rs)){b oo cap row:Nat}(hμ:μ nm=.slice (some ⟨b,oo,none⟩) 0 cap)(ju:row<rs.length):
  ∃f:Nat->Value,∀j (hj:j<rs[row].length),w.cell? ⟨b,oo+row*kk+j,none⟩=some (f j)/\Rep M (rs[row][j]) (f j):=by
 obtain⟨aa,cap',e1,hh⟩:=h.blk nm _ hg;rw[hμ]at e1;injection e1 with e1 _ e2
 subst e1;subst e2;rcases hh with⟨_,rfl⟩|⟨b',o',cur,e3,hc,ho,q1,q2,q3,q4⟩
 ·simp at ju
 ·injection e3 with e3;injection e3 with e4 e5;subst e4;subst e5
  refine⟨fun j=>cur.getD (oo+row*kk+j) Go.undef,fun j hj=>?_⟩;obtain⟨v,hv,hr⟩:=q4.2 row ju j hj;have:cur.getD (oo+row*kk+j) Go.undef=v:=by simp_all
  simp only[this];exact⟨by simp[World.cell?,ho.heap,hv],hr⟩
theorem gO(h:Rel GL n S M μ st a w){t:TypeId}{x:Operand}{ox:O}{k:Nat}{ag:Bool}(ho:o.op=.load t x)(hd:o.dst=some d)(hn:d<n)(hx:cO GL x=some ox)
  (hk:Qp P t=some k)(ha:Eu P t=some ag)(kt:(ag||k==1)=true)(hs:step P GL (.load d ox k ag) st K):o.wpX P a w (Ax GL n S M w K) Q:=by
 replace kt:ag=false->k=1:=fun e=>by subst e;simpa using kt
 have hr:=Az h hx;have w7:∀b oo,a.eval x=.pointer (some ⟨b,oo,none⟩)->∀V,(loadVar t ⟨b,oo,none⟩).run P w=.ok V w->(execOp a.eval o).run P w=.ok (.value V) w:=fun b oo e V hV=>by simp only[execOp,ho,e,Sem.run_bind,Instr.loadAt,Instr.sureAddr,Sem.run_pure,Result.andThen_ok,hV]
 simp only[step,Jd]at hs;split at hs
 ·rename_i cs off e;rw[e]at hr;obtain⟨jj,hs⟩:=hs;have hr:=AJ hr;generalize hv:a.eval x=vx at hr;cases hr with
  |elt _ _ b oo v hm hvv=>refine A3 h hd hn (w7 _ _ hv _ (OT hk ha kt (f:=fun j=>v (off+j)) fun j hj=>?_)) (AM (SS kt jj fun j hj=>hvv _ (by omega))) hs;rw[Nat.add_assoc];exact h.sub.1 _ _ _ (hm _ (by omega))
 ·rename_i nm off e;rw[e]at hr;obtain⟨hN,b,hμ,hxv⟩:=hr;unfold Kg at hs;split at hs
  ·rename_i cs qt;obtain⟨jj,jg,hs⟩:=hs;obtain⟨b',vs,ty,hμ',jc,j0,hv⟩:=h.blk nm _ qt;obtain rfl:b'=b:=by grind
   have j4:∀j (hj:j<vs.size),w.cell? ⟨b',j,none⟩=some vs[j]:=fun j hj=>by simp[World.cell?,jc.heap,hj]
   refine A3 h hd hn (w7 _ _ hxv _ (OT hk ha kt (f:=fun j=>vs.getD (off+j) Go.undef) fun j hj=>?_)) ?_ hs
   ·rw[j4 _ (by omega)];simp[show off+j<vs.size by omega]
   ·cases ag with
    |true=>
     simp only[gG,if_true];show Rep M _ _;refine Rep.agg' ⟨by simp;omega,fun j h1 h2=>?_⟩;have hj:j<k:=by grind
     have hi:Ja (cs[off+j]'(by omega))=true:=by have:=jg rfl;simp only[BV,List.all_eq_true]at this;exact this _ (List.mem_iff_getElem.2 ⟨j,by simp;omega,by simp⟩)
     have:=OS (hv (off+j) (by omega) (by omega)) hi;simp[show off+j<vs.size by omega];exact this
    |false=>
     obtain rfl:=kt rfl;simp only[gG,Bool.false_eq_true,if_false,Nat.add_zero];have:cs.getD off .any=cs[off]'(by omega):=by grind
     rw[this];have:=hv off (by omega) (by omega);simpa[show off<vs.size by omega]using this
  ·exact hs.elim
 ·rename_i nm kk row off e;rw[e]at hr;obtain⟨hN,b,oo,c,hμ,hrc,hxv⟩:=hr;unfold M5 at hs;split at hs
  ·rename_i et k' rs qt;obtain⟨rfl,ju,jj,hs⟩:=hs;have hrow':rs.getD row []=rs[row]:=by grind
   rw[hrow']at jj hs;obtain⟨f,hf⟩:=gN h qt hμ ju;refine A3 h hd hn (w7 _ _ hxv _ (OT hk ha kt (f:=fun j=>f (off+j)) fun j hj=>?_)) (AM (SS kt jj fun j hj=>(hf _ (by omega)).2)) hs;rw[Nat.add_assoc];exact(hf _ (by omega)).1
  ·exact hs.elim
 ·exact hs.elim
theorem Rep.cellsI{x:I}(h:Rep M x v):Ak M (cellsI x) v.cells.toList:=by
 cases h with
 |agg cs vs h hr=>exact⟨by simpa[Dl.cellsI,Value.cells]using h,fun j a b=>by have:=hr j a;rw[<-Array.getElem_toList]at this;exact this⟩
 |_=>exact Ak.cons (by constructor<;>assumption) (Ak.nil M)
theorem WS(h:Rel GL n S M μ st a w){x:Operand}{ox:O}(ho:o.op=.move x\/o.op=.assign x)(hd:o.dst=some d)(hn:d<n)(hx:cO GL x=some ox)
  (hs:step P GL (.mov d ox) st K):o.wpX P a w (Ax GL n S M w K) Q:=by
 refine A3 h hd hn (v:=a.eval x) ?_ (Az h hx) hs;rcases ho with ho|ho<;>simp[execOp,ho]
theorem G4{b:Bool}(h:Rep M (.bool b) v):v=.bool b:=by cases h;rfl
theorem Ct{k:IntKind}{i:Int}(h:Rep M (.int k i) v):v=.int k i:=by cases h;rfl
theorem HG{s:List UInt8}(h:Rep M (.str s) v):v=.string (Cr s):=by cases h;rfl
theorem gP(h:Rel GL n S M μ st a w){c x y:Operand}{oc ox oy:O}(ho:o.op=.pick c x y)(hd:o.dst=some d)(hn:d<n)(hc:cO GL c=some oc)(hx:cO GL x=some ox)(hy:cO GL y=some oy)
  (hs:step P GL (.pick d oc ox oy) st K):o.wpX P a w (Ax GL n S M w K) Q:=by
 have hr:=Az h hc;simp only[step,Er]at hs;split at hs
 ·rename_i t e;rw[e]at hr;have hb:=G4 (AJ hr);cases t with
  |true=>exact A3 h hd hn (v:=a.eval x) (by simp[execOp,ho,hb,asBool]) (Az h hx) (hs.1 rfl)
  |false=>exact A3 h hd hn (v:=a.eval y) (by simp[execOp,ho,hb,asBool]) (Az h hy) (hs.2 rfl)
 ·exact hs.elim
theorem Rel.bindEmpty(h:Rel GL n S M μ st a w)(jl:Aa st.sto d=none)(jn:d<n)(aa:Option Addr)(e k:Nat):Rel GL n S M (BP μ d (.slice aa 0 0)) (st.bind d (.rows e k [])) a w:=by
 refine h.bindName jl jn ⟨aa,0,Bq _ _ _,.inl ⟨rfl,rfl⟩⟩ fun m k _ _=>?_
 cases aa<;>simp[An]
theorem Rel.bindEmptyN(h:Rel GL n S M μ st a w){nm:Nat}(jl:Aa st.sto nm=none)(hp:¬pinned nm)(aa:Option Addr)(e k:Nat):Rel GL n S M (BP μ nm (.slice aa 0 0)) (st.bind nm (.rows e k [])) a w:=by
 refine h.bindNameN jl hp ⟨aa,0,Bq _ _ _,.inl ⟨rfl,rfl⟩⟩ fun m k _ _=>?_
 cases aa<;>simp[An]
theorem Rel.bindEmptyA(h:Rel GL n S M μ st a w){nm:Nat}(jl:Aa st.sto nm=none)(hp:¬pinned nm)(aa:Option Addr)(e k:Nat):Rel GL n S M (BP μ nm (.slice aa 0 0)) (st.bind nm (.arr e k [])) a w:=by
 refine h.bindNameN jl hp ⟨aa,Bq _ _ _,.inl rfl⟩ fun m k _ _=>?_
 cases aa<;>simp[An]
theorem Kv(aa:Option Addr)(k:Nat):Lo (.slice aa 0 0) k 0 0 (.slice aa 0 0):=⟨aa,0,rfl,Nat.le_refl _,Nat.le_refl _,.inl ⟨rfl,aa,rfl⟩⟩
theorem WT(h:Rel GL n S M μ st a w){e k:Nat}(ho:o.op=.move (.const (.slice none 0 0))\/o.op=.assign (.const (.slice none 0 0)))(hd:o.dst=some d)(hn:d<n)
  (hs:step P GL (.nils d e k) st K):o.wpX P a w (Ax GL n S M w K) Q:=by
 have kz:(execOp a.eval o).run P w=.ok (.value (.slice none 0 0)) w:=by rcases ho with ho|ho<;>simp[execOp,ho,Act.eval]
 simp only[step,Lv]at hs;split at hs
 ·rename_i jl;exact B9 kz ⟨_,hs,M,_,by rw[hd];exact(h.bindEmpty jl hn none e k).put hn ⟨Eo,by rw[Bq];exact Kv _ _⟩,MExt.refl _ _,Keeps.refl _ _⟩
 ·rename_i b hb;have hd2:Rel GL n S M μ (st.frz d (.iter none [])) a w:=h.drop (by simp[names,hb]);have jl:Aa (st.frz d (.iter none [])).sto d=none:=by simp[St.frz,Kc]
  exact B9 kz ⟨_,hs,M,_,by rw[hd];exact(hd2.bindEmpty jl hn none e k).put hn ⟨Eo,by rw[Bq];exact Kv _ _⟩,MExt.refl _ _,Keeps.refl _ _⟩
theorem gQ(h:Rel GL n S M μ st a w){t:TypeId}{x:Operand}{ox:O}(ho:o.op=.box t x)(hd:o.dst=some d)(hn:d<n)(hx:cO GL x=some ox)
  (hs:step P GL (.box d ox) st K):o.wpX P a w (Ax GL n S M w K) Q:=by
 have hr:=Az h hx;simp only[step,M0]at hs;split at hs
 ·rename_i y e;rw[e]at hr;have hr:Rep M y (a.eval x):=hr;obtain⟨h2,hm,hb⟩:=h.allocKnown (a.eval x).cells t;have hp:Rep (M.with w.heap.size (a.eval x).cells) (.elt (cellsI y) 0) (.pointer (some ⟨w.heap.size,0,none⟩)):=by
   have hc:=hr.cellsI.mono hm.le;refine Rep.elt _ 0 w.heap.size 0 (fun j=>(a.eval x).cells.getD j Go.undef) (fun j hj=>?_) (fun j hj=>?_)
   ·have:j<(a.eval x).cells.size:=by have:=hc.1;simp at this;omega
    simp[Mem.with,this]
   ·have hl:j<(a.eval x).cells.size:=by have:=hc.1;simp at this;omega
    have:=hc.2 j hj (by simpa using hl);simp_all
  refine B9 (v:=.pointer (some ⟨w.heap.size,0,none⟩)) (w':=w.alloc (.cells (a.eval x).cells t)) ?_ ⟨_,hs,_,μ,by rw[hd];exact h2.put hn (AM hp),hm,hb⟩;simp only[execOp,ho,Instr.box,newVar,newRow,Sem.run_bind,run_newObj,Result.andThen_ok,Sem.run_pure];rfl
 ·exact hs.elim
theorem gR(h:v.oneCell'=true):v.cells=#[v]:=by cases v<;>simp_all[Value.cells,Value.oneCell']
theorem ST{x:D}{N:Nat->Prop}(h:AI M μ N x v)(h1:(Bh x).all EP=true):
  v.cells.size=(Bh x).length/\(∀j (hj:j<(Bh x).length) (h':j<v.cells.size),AI M μ N ((Bh x)[j]) (v.cells[j]))/\∀u∈v.cells.toList,u.oneCell'=true:=by
 have one:∀y:D,Bh y=[y]->v.cells=#[v]->v.oneCell'=true->AI M μ N y v->
   v.cells.size=(Bh y).length/\(∀j (hj:j<(Bh y).length) (h':j<v.cells.size),AI M μ N ((Bh y)[j]) (v.cells[j]))/\∀u∈v.cells.toList,u.oneCell'=true:=fun y e1 e2 e3 hy=>by
  refine⟨by rw[e1,e2];rfl,fun j hj h'=>?_,by rw[e2];simp[e3]⟩;have:j=0:=by grind
  subst this;simp only[e1,e2];exact hy
 cases x with
 |any=>simp[Bh,EP]at h1
 |tup cs=>simp[Bh,EP]at h1
 |i y=>
  have h:Rep M y v:=h;cases y with
  |agg cs=>
   obtain⟨vs,rfl,hl⟩:=h.agg_inv;simp only[Bh,List.all_map,List.all_eq_true]at h1;refine⟨by simpa[Value.cells,Bh]using hl.1,fun j hj h'=>?_,fun u hu=>?_⟩
   ·simp only[Bh,List.getElem_map,Value.cells];have:=hl.2 j (by simpa[Bh]using hj) (by simpa[Value.cells]using h');exact AM (by simpa using this)
   ·simp only[Value.cells]at hu;obtain⟨j,hj,rfl⟩:=List.mem_iff_getElem.1 hu;have jq:j<cs.length:=by have:=hl.1;omega
    exact(hl.2 j jq hj).oneCell (h1 _ (List.getElem_mem jq))
  |_=>have ho:=h.oneCell (by simpa[Bh,EP]using h1);exact one _ rfl (gR ho) ho h
 |ref r=>
  refine one (.ref r) rfl ?_ ?_ h
  ·cases r with
   |sl nm k lo hi=>obtain⟨_,a',c',_,_,_,h|h⟩:=h;obtain⟨_,a'',rfl⟩:=h;rfl;obtain⟨_,_,_,rfl⟩:=h;rfl
   |loc nm off=>obtain⟨_,b,_,rfl⟩:=h;rfl
   |lel nm k row off=>obtain⟨_,b,_,_,_,_,rfl⟩:=h;rfl
   |mp nm=>obtain⟨_,b,_,rfl⟩:=h;rfl
   |it nm=>obtain⟨_,b,_,rfl⟩:=h;rfl
  ·cases r with
   |sl nm k lo hi=>obtain⟨_,a',c',_,_,_,h|h⟩:=h;obtain⟨_,a'',rfl⟩:=h;rfl;obtain⟨_,_,_,rfl⟩:=h;rfl
   |loc nm off=>obtain⟨_,b,_,rfl⟩:=h;rfl
   |lel nm k row off=>obtain⟨_,b,_,_,_,_,rfl⟩:=h;rfl
   |mp nm=>obtain⟨_,b,_,rfl⟩:=h;rfl
   |it nm=>obtain⟨_,b,_,rfl⟩:=h;rfl
 |fn f first caps=>have h':=h;obtain⟨va,vb,rfl,_⟩:=h;exact one (.fn f first caps) rfl rfl rfl h'
theorem gS(h:Rel GL n S M μ st a w){t:TypeId}{x:Operand}{ox:O}(ho:o.op=.box t x)(hd:o.dst=some d)(hn:d<n)(hx:cO GL x=some ox)
  (hs:step P GL (.boxm d ox) st K):o.wpX P a w (Ax GL n S M w K) Q:=by
 have hr:=Az h hx;simp only[step,G0]at hs;split at hs
 ·rename_i jl;obtain⟨h1,hs⟩:=hs;obtain⟨c1,c2,c3⟩:=ST hr h1;obtain⟨h2,hb⟩:=h.allocMut jl hn (Bh (A8 GL st ox)) (a.eval x).cells t c1 c2;refine B9 (v:=.pointer (some ⟨w.heap.size,0,none⟩)) (w':=w.alloc (.cells (a.eval x).cells t)) ?_
   ⟨_,hs,M,_,by rw[hd];exact h2.put hn ⟨Eo,w.heap.size,Bq _ _ _,rfl⟩,MExt.refl _ _,hb⟩
  simp only[execOp,ho,Instr.box,newVar,newRow,Sem.run_bind,run_newObj,Result.andThen_ok,Sem.run_pure];rfl
 ·exact hs.elim
theorem gT(h:Rel GL n S M μ st a w){t:TypeId}{i:TypeInfo}{z:Value}{zi:I}(ho:o.op=.alloc t)(hd:o.dst=some d)(hn:d<n)(hi:P.info? t=some i)(hz:i.zero=some z)
  (hc:D0 z=some zi)(hs:step P GL (.alloc d (cellsI zi)) st K):o.wpX P a w (Ax GL n S M w K) Q:=by
 simp only[step,G0]at hs;split at hs
 ·rename_i jl;obtain⟨_,hs⟩:=hs;have hr:Rep M zi z:=G3 hc;have qt:=hr.cellsI;obtain⟨h2,hb⟩:=h.allocMut jl hn ((cellsI zi).map .i) z.cells t (by simpa using qt.1) (fun j h1 h2=>by rw[List.getElem_map];have:=qt.2 j (by simpa using h1) (by simpa using h2);exact AM (by simpa using this))
  refine B9 (v:=.pointer (some ⟨w.heap.size,0,none⟩)) (w':=w.alloc (.cells z.cells t)) ?_
   ⟨_,hs,M,_,by rw[hd];exact h2.put hn ⟨Eo,w.heap.size,Bq _ _ _,rfl⟩,MExt.refl _ _,hb⟩
  simp only[execOp,ho,Instr.alloc,zeroValue,typeInfo,hi,hz,newVar,newRow,Sem.run_bind,run_newObj,Result.andThen_ok,Sem.run_pure,run_program];rfl
 ·exact hs.elim
theorem gU(h:Rel GL n S M μ st a w){t:TypeId}{x:Operand}{ox:O}{f off:Nat}{fs:Array Field}{fl:Field}{k:Nat}(ho:o.op=.fieldAddr t x f)(hd:o.dst=some d)(hn:d<n)
  (hx:cO GL x=some ox)(hu:P.underlying t=some (.struct fs))(hf:fs[f]? =some fl)(hk:Qp P fl.type=some k)(vk:k≠0)(hoff:fl.offset=off)
  (hs:step P GL (.fa d ox off) st K):o.wpX P a w (Ax GL n S M w K) Q:=by
 have hr:=Az h hx;subst hoff;have kz:∀b oo,a.eval x=.pointer (some ⟨b,oo,none⟩)->(execOp a.eval o).run P w=.ok (.value (.pointer (some ⟨b,oo+fl.offset,none⟩))) w:=fun b oo e=>by simp only[execOp,ho,e,Instr.fieldAt,Sem.run_bind,run_underlying hu w,Result.andThen_ok,hf,Instr.sureAddr,Sem.run_pure,fieldPlace,EU hk,if_neg vk,Fk]
 simp only[step,faE]at hs;split at hs
 ·rename_i cs oo e;rw[e]at hr;have hr:=AJ hr;generalize hv:a.eval x=vx at hr;cases hr with
  |elt _ _ b o' v hm hvv=>refine A3 h hd hn (kz _ _ hv) (AM ?_) hs;rw[Nat.add_assoc];exact .elt _ _ _ _ _ hm hvv
 ·rename_i nm oo e;rw[e]at hr;obtain⟨hN,b,hμ,hv⟩:=hr;exact A3 h hd hn (x:=.ref (.loc nm (oo+fl.offset))) (kz _ _ hv) ⟨hN,b,hμ,rfl⟩ hs
 ·rename_i nm kk row oo e;rw[e]at hr;obtain⟨hN,b,o',c,hμ,hrc,hv⟩:=hr;exact A3 h hd hn (x:=.ref (.lel nm kk row (oo+fl.offset))) (kz _ _ hv) ⟨hN,b,o',c,hμ,hrc,by rw[Nat.add_assoc]⟩ hs
 ·exact hs.elim
theorem gV(h:Rel GL n S M μ st a w){t e:TypeId}{x ix:Operand}{ox oi:O}{k:Nat}(ho:o.op=.indexAddr t x ix)(hd:o.dst=some d)(hn:d<n)
  (hx:cO GL x=some ox)(hi:cO GL ix=some oi)(hu:P.underlying t=some (.slice e))(hk:Qp P e=some k)
  (hs:step P GL (.ia d ox oi k) st K):o.wpX P a w (Ax GL n S M w K) Q:=by
 have hr:=Az h hx;have jy:=Az h hi;have kz:∀kk (i:Int) b oo len cap,a.eval x=.slice (some ⟨b,oo,none⟩) len cap->a.eval ix=.int kk i->0<=i/\i<len->
   (execOp a.eval o).run P w=.ok (.value (.pointer (some ⟨b,oo+i.toNat*k,none⟩))) w:=fun kk i b oo len cap e1 e2 hb=>by
  simp only[execOp,ho,e1,e2,Instr.indexAt,asIntOf,Sem.run_bind,run_underlying hu w,Result.andThen_ok,Sem.run_pure,hb,and_self,if_true,EU hk,Fk]
 simp only[step,iaE]at hs;split at hs
 ·rename_i rows kk i e1 e2;rw[e1]at hr;rw[e2]at jy;have jy:=Ct (AJ jy);have hr:=AJ hr;obtain⟨hb,jd,hs⟩:=hs;generalize hv:a.eval x=vx at hr;cases hr with
  |slnil=>simp at hb;omega
  |slempty=>simp at hb;omega
  |sl _ k' b oo cap v jk hc hm hvv=>
   have ju:i.toNat<rows.length:=by omega
   have e:rows.getD i.toNat []=rows[i.toNat]:=by grind
   rw[e]at hs jd;obtain rfl:k'=k:=by grind
   refine A3 h hd hn (kz _ _ _ _ _ _ hv jy hb) (AM ?_) hs;exact Rep.elt _ 0 b (oo+i.toNat*k') (v i.toNat) (fun j hj=>hm i.toNat ju j hj) (fun j hj=>hvv i.toNat ju j hj)
 ·rename_i nm k0 lo ja kk i e1 e2;rw[e1]at hr;rw[e2]at jy;have jy:=Ct (AJ jy);obtain⟨hN,aa,cap,e3,qc,kc,qi⟩:=hr;unfold iaR at hs;split at hs
  ·rename_i et k' rs hg;obtain⟨rfl,rfl,hb,hs⟩:=hs;rcases qi with⟨rfl,_⟩|⟨b,o',rfl,hv⟩
   ·omega
   ·refine A3 h hd hn (x:=.ref (.lel nm k0 (lo+i.toNat) 0)) (kz _ _ _ _ _ _ hv jy hb) ⟨hN,b,o',cap,e3,by omega,?_⟩ hs;rw[Nat.add_mul];simp[Nat.add_assoc]
  ·exact hs.elim
 ·exact hs.elim
theorem gW(l:List UInt8)(i:Nat)(h:i<l.length):(Cr l)[i]? =some l[i]:=by
 have:(Cr l)[i]? =l[i]? :=by
  unfold Cr;rw[getElem?_def];split
  ·rename_i hh;rw[List.getElem?_eq_getElem h];rfl
  ·rename_i hh;exact absurd h hh
 grind
theorem gX(h:Rel GL n S M μ st a w){t:TypeId}{x ix:Operand}{ox oi:O}(ho:o.op=.index t x ix)(hd:o.dst=some d)(hn:d<n)
  (hx:cO GL x=some ox)(hi:cO GL ix=some oi)(hu:P.underlying t=some .string)
  (hs:step P GL (.idx d ox oi) st K):o.wpX P a w (Ax GL n S M w K) Q:=by
 have hr:=Az h hx;have jy:=Az h hi;simp only[step,Lw]at hs;split at hs
 ·rename_i l kk i e1 e2;rw[e1]at hr;rw[e2]at jy;have jy:=Ct (AJ jy);have hr:=HG (AJ hr);obtain⟨hb,hs⟩:=hs;have jn:i.toNat<l.length:=by omega
  have ka:=gW l i.toNat jn;have e:l.getD i.toNat 0=l[i.toNat]:=by grind
  rw[e]at hs;refine A3 h hd hn (v:=.int .u8 (l[i.toNat]).toNat) ?_ (AM (.int _ _)) hs;simp only[execOp,ho,hr,jy,Instr.index,asIntOf,Sem.run_bind,run_underlying hu w,Result.andThen_ok,Sem.run_pure,hb.1,if_true,ka]
 ·exact hs.elim
end
end Go.Dl
end
section
namespace Go.Dl
open Go Go.RowKit
variable{t e:TypeId}{N:Nat->Prop}
theorem SU(s:List UInt8):(Cr s).toList=s:=by rw[ByteArray.toList_eq]<;>rfl
theorem WU(s:List UInt8):(Cr s).size=s.length:=rfl
theorem gY(s t:List UInt8):Cr s++Cr t=Cr (s++t):=by rfl
section
variable {P:Program}{GL:List (Nat×List I)}{n:Nat}{S:Sh}{M:Mem}{μ:Place}{st:St}{a:Act}{w:World}{K:St->Prop}{Q:Exit->Act->World->Prop}{o:Oper}{d:Nat}
theorem gZ(h:Rel GL n S M μ st a w){op:BinOp}{t t':TypeId}{x y:Operand}{ox oy:O}(ho:o.op=.binOp op t x y t')(hd:o.dst=some d)(hn:d<n)
  (hx:cO GL x=some ox)(hy:cO GL y=some oy)(hs:step P GL (.bin d op ox oy) st K):o.wpX P a w (Ax GL n S M w K) Q:=by
 have hr:=Az h hx;have vj:=Az h hy;simp only[step,Ly]at hs;split at hs
 ·rename_i u v e1 e2;rw[e1]at hr;rw[e2]at vj;have hr:=AJ hr;have vj:=AJ vj;obtain⟨kg,hs⟩:=hs;obtain⟨k,i,k',j,rfl,rfl⟩|⟨s1,s2,rfl,rfl⟩:(∃k i k' j,u=.int k i/\v=.int k' j)\/(∃s1 s2,u=.str s1/\v=.str s2):=by cases u<;>cases v<;>first|exact kg.elim|exact .inl ⟨_,_,_,_,rfl,rfl⟩|exact .inr ⟨_,_,rfl,rfl⟩
  ·clear e1 e2;obtain⟨rfl,kg⟩:=kg;have e3:=Ct hr;have e4:=Ct vj;have hg:(eqGuard op t x y (.int k i) (.int k j)).run P w=.ok () w:=by cases op<;>simp[eqGuard]
   have kz:∀V,(binOp op t (.int k i) (.int k j)).run P w=.ok V w->(execOp a.eval o).run P w=.ok (.value V) w:=fun V hV=>by simp only[execOp,ho,e3,e4,Sem.run_bind,hg,hV,Result.andThen_ok,Sem.run_pure]
   cases op<;>simp only[CZ,WN]at hs<;>first
    |exact kg.elim
    |(refine A3 h hd hn (kz _ ?_) (AM (.int _ _)) hs
      simp[binOp,Op.intArith,Op.intDiv,Op.intBits,kg])
    |(refine A3 h hd hn (kz _ ?_) (AM (.bool _)) hs
      simp[binOp,Op.intCmp])
  ·have e3:=HG hr;have e4:=HG vj;have hg:(eqGuard op t x y (.string (Cr s1)) (.string (Cr s2))).run P w=.ok () w:=by cases op<;>simp[eqGuard]
   have kz:∀V,(binOp op t (.string (Cr s1)) (.string (Cr s2))).run P w=.ok V w->(execOp a.eval o).run P w=.ok (.value V) w:=fun V hV=>by simp only[execOp,ho,e3,e4,Sem.run_bind,hg,hV,Result.andThen_ok,Sem.run_pure]
   cases op<;>simp only[CZ]at hs<;>first
    |exact kg.elim
    |(refine A3 h hd hn (kz _ ?_) (AM (.bool _)) hs
      simp[binOp,Op.stringOp,SU])
    |(refine A3 h hd hn (kz _ ?_) (AM (.str _)) hs
      have hok':s1.length+s2.length<=9223372036854775807:=kg;have:¬((9223372036854775807:Int)<(s1.length:Int)+(s2.length:Int)):=by omega
      simp[binOp,Op.stringOp,WU,this,gY])
 ·exact hs.elim
theorem WV(h:Rel GL n S M μ st a w){op:BinOp}(wp:op=.shl\/op=.shr){t t':TypeId}{x y:Operand}{ox oy:O}(ho:o.op=.binOp op t x y t')(hd:o.dst=some d)(hn:d<n)
  (hx:cO GL x=some ox)(hy:cO GL y=some oy)(hs:step P GL (.sh d op ox oy) st K):o.wpX P a w (Ax GL n S M w K) Q:=by
 have hr:=Az h hx;have vj:=Az h hy;simp only[step,shE]at hs;split at hs
 ·rename_i k i k' j e1 e2;rw[e1]at hr;rw[e2]at vj;have e3:=Ct (AJ hr);have e4:=Ct (AJ vj);obtain⟨hb,hs⟩:=hs;have hg:(eqGuard op t x y (.int k i) (.int k' j)).run P w=.ok () w:=by rcases wp with rfl|rfl<;>simp[eqGuard]
  have hnb:¬j<0:=by omega
  rcases wp with rfl|rfl
  ·refine A3 h hd hn (v:=.int k (k.wrap (i*2 ^ (Nat.min j.toNat k.bits)))) ?_ (AM (.int _ _)) hs;simp only[execOp,ho,e3,e4,Sem.run_bind,hg,Result.andThen_ok,binOp,Op.shift,if_neg hnb,Sem.run_pure]
   try rfl
  ·refine A3 h hd hn (v:=.int k (i.fdiv (2 ^ (Nat.min j.toNat k.bits)))) ?_ (AM (.int _ _)) hs;simp only[execOp,ho,e3,e4,Sem.run_bind,hg,Result.andThen_ok,binOp,Op.shift,if_neg hnb,Sem.run_pure]
   try rfl
 ·exact hs.elim
theorem WW(h:Rel GL n S M μ st a w){neg:Bool}{t t':TypeId}{x y:Operand}{ox oy:O}(ho:o.op=.binOp (if neg then .neq else .eql) t x y t')(hd:o.dst=some d)(hn:d<n)
  (hx:cO GL x=some ox)(hy:cO GL y=some oy)(hu:P.underlying t=some .bool)(hs:step P GL (.eqb d neg ox oy) st K):o.wpX P a w (Ax GL n S M w K) Q:=by
 have hr:=Az h hx;have vj:=Az h hy;simp only[step,Ki]at hs;split at hs
 ·rename_i u v e1 e2;rw[e1]at hr;rw[e2]at vj;have e3:=G4 (AJ hr);have e4:=G4 (AJ vj);refine A3 h hd hn ?_ (AM (.bool _)) hs;cases neg<;>simp only[Bool.false_eq_true,if_true,if_false]at ho⊢
  ·have hg:(eqGuard .eql t x y (.bool u) (.bool v)).run P w=.ok () w:=by simp[eqGuard]
   simp only[execOp,ho,e3,e4,Sem.run_bind,hg,Result.andThen_ok,run_eql_bool w t u v hu,Sem.run_pure]
  ·have hg:(eqGuard .neq t x y (.bool u) (.bool v)).run P w=.ok () w:=by simp[eqGuard]
   simp only[execOp,ho,e3,e4,Sem.run_bind,hg,Result.andThen_ok,run_neq_bool w t u v hu,Sem.run_pure]
 ·exact hs.elim
theorem g9(hu:P.underlying t=some (.slice e))(a:Option Addr)(l c:Nat):(Op.equal t (.slice a l c) (.slice none 0 0)).run P w=.ok a.isNone w:=by
 have h:∀q:Nat,(Op.equalIn (q+1) t (.slice a l c) (.slice none 0 0)).run P w=.ok a.isNone w:=fun q=>by cases a<;>simp[Op.equalIn,run_underlying hu]
 exact h 9999
theorem hJ{k:TypeId}(hu:P.underlying t=some (.map k e))(a:Option Nat):(Op.equal t (.map a) (.map none)).run P w=.ok a.isNone w:=by
 have h:∀q:Nat,(Op.equalIn (q+1) t (.map a) (.map none)).run P w=.ok a.isNone w:=fun q=>by cases a<;>simp[Op.equalIn,run_underlying hu]
 exact h 9999
theorem hZ(hu:P.underlying t=some (.pointer e))(a:Option Addr):(Op.equal t (.pointer a) (.pointer none)).run P w=.ok a.isNone w:=by
 have h:∀q:Nat,(Op.equalIn (q+1) t (.pointer a) (.pointer none)).run P w=.ok a.isNone w:=fun q=>by cases a<;>simp[Op.equalIn,run_underlying hu]
 exact h 9999
theorem WX{ps rs:Array TypeId}{vr:Bool}(hu:P.underlying t=some (.func ps rs vr))(f:Fn)(x y:Array Value):(Op.equal t (.func f x y) .nilFunc).run P w=.ok false w:=by
 have h:∀q:Nat,(Op.equalIn (q+1) t (.func f x y) .nilFunc).run P w=.ok false w:=fun q=>by simp[Op.equalIn,run_underlying hu]
 exact h 9999
theorem ic{ps rs:Array TypeId}{vr:Bool}(hu:P.underlying t=some (.func ps rs vr)):(Op.equal t .nilFunc .nilFunc).run P w=.ok true w:=by
 have h:∀q:Nat,(Op.equalIn (q+1) t .nilFunc .nilFunc).run P w=.ok true w:=fun q=>by simp[Op.equalIn,run_underlying hu]
 exact h 9999
def SV(dsc:TypeDesc)(y:Operand):Option NK:=match dsc,y with
 |.slice _,.const (.slice none 0 0)=>some .sl
 |.map _ _,.const (.map none)=>some .mp
 |.func _ _ _,.const .nilFunc=>some .fn
 |.pointer _,.const (.pointer none)=>some .pt
 |_,_=>none
theorem ie{neg:Bool}{t':TypeId}{x y:Operand}(ho:o.op=.binOp (if neg then .neq else .eql) t x y t'){X Y:Value}(hX:a.eval x=X)(hY:a.eval y=Y){b:Bool}(hv:(Op.equal t X Y).run P w=.ok b w)
  (hyk:Y=.slice none 0 0\/Y=.map none\/Y=.nilFunc\/Y=.pointer none)(k1:∀i k,X≠.int i k)(k2:∀cs,X≠.agg cs)(k3:X≠.nilIface):(execOp a.eval o).run P w=.ok (.value (.bool (b !=neg))) w:=by
 have hg:∀op:BinOp,(eqGuard op t x y X Y).run P w=.ok () w:=fun op=>by unfold eqGuard;simp_all
 cases neg<;>simp only[Bool.false_eq_true,if_true,if_false]at ho
 ·have hb:(binOp .eql t X Y).run P w=.ok (.bool b) w:=by
   have:binOp .eql t X Y=(do pure (.bool (<-Op.equal t X Y)):Sem Value):=by cases X<;>rcases hyk with rfl|rfl|rfl|rfl<;>first|rfl|(exact absurd rfl (k1 _ _))
   simp_all
  simp only[execOp,ho,hX,hY,Sem.run_bind,hg,hb,Result.andThen_ok,Sem.run_pure];cases b<;>rfl
 ·have hb:(binOp .neq t X Y).run P w=.ok (.bool (!b)) w:=by
   have:binOp .neq t X Y=(do pure (.bool (!(<-Op.equal t X Y))):Sem Value):=by cases X<;>rcases hyk with rfl|rfl|rfl|rfl<;>first|rfl|(exact absurd rfl (k1 _ _))
   simp_all
  simp only[execOp,ho,hX,hY,Sem.run_bind,hg,hb,Result.andThen_ok,Sem.run_pure];cases b<;>rfl
theorem WY(h:Rel GL n S M μ st a w){neg:Bool}{t t':TypeId}{x y:Operand}{ox:O}{dsc:TypeDesc}{q:NK}(ho:o.op=.binOp (if neg then .neq else .eql) t x y t')(hd:o.dst=some d)(hn:d<n)
  (hx:cO GL x=some ox)(hu:P.underlying t=some dsc)(hy:SV dsc y=some q)(hs:step P GL (.isnil d q neg ox) st K):o.wpX P a w (Ax GL n S M w K) Q:=by
 have hr:=Az h hx;simp only[step]at hs;generalize A8 GL st ox=V at hr hs;generalize hX:a.eval x=X at hr;have put:∀{b:Bool} {Y:Value},a.eval y=Y->(Op.equal t X Y).run P w=.ok b w->(Y=.slice none 0 0\/Y=.map none\/Y=.nilFunc\/Y=.pointer none)->(∀i k,X≠.int i k)->(∀cs,X≠.agg cs)->X≠.nilIface->
   K (st.put d (.i (.bool (b !=neg))))->o.wpX P a w (Ax GL n S M w K) Q:=fun hY hv hyk k1 k2 k3 hk=>A3 h hd hn (ie ho hX hY hv hyk k1 k2 k3) (AM (.bool _)) hk
 unfold SV at hy;split at hy<;>cases hy
 ·
  have sl:∀aa l c,X=.slice aa l c->K (st.put d (.i (.bool (aa.isNone !=neg))))->o.wpX P a w (Ax GL n S M w K) Q:=fun aa l c e hk=>by subst e;exact put (Y:=.slice none 0 0) rfl (g9 hu aa l c) (.inl rfl) (fun _ _=>by simp) (fun _=>by simp) (by simp) hk
  cases V with
  |i z=>
   cases z with
   |sl rows=>
    have hr:=AJ hr;cases rows with
    |nil=>
     simp only[CN,Ik]at hs;cases hr with
     |slnil=>exact sl _ _ _ rfl (hs _)
     |slempty=>exact sl _ _ _ rfl (hs _)
     |sl=>exact sl _ _ _ rfl (hs _)
    |cons r rs=>
     simp only[CN,Ik]at hs;cases hr with
     |sl=>exact sl _ _ _ rfl hs
   |nilsl=>have hr:=AJ hr;cases hr;exact sl _ _ _ rfl hs
   |_=>exact hs.elim
  |ref r=>
   cases r with
   |sl nm k lo hi=>
    simp only[CN,Ik]at hs;obtain⟨_,aa,cap,_,_,_,hh⟩:=hr;rcases hh with⟨_,a',rfl⟩|⟨_,_,_,rfl⟩
    ·exact sl _ _ _ rfl (hs _)
    ·exact sl _ _ _ rfl (hs _)
   |_=>exact hs.elim
  |_=>exact hs.elim
 ·have mp:∀aa,X=.map aa->K (st.put d (.i (.bool (aa.isNone !=neg))))->o.wpX P a w (Ax GL n S M w K) Q:=fun aa e hk=>by subst e;exact put (Y:=.map none) rfl (hJ hu aa) (.inr (.inl rfl)) (fun _ _=>by simp) (fun _=>by simp) (by simp) hk
  cases V with
  |i z=>
   cases z<;>simp only[CN,Ik]at hs
   ·have hr:=AJ hr;cases hr;exact mp _ rfl hs
   ·have hr:=AJ hr;cases hr;exact mp _ rfl hs
  |ref r=>cases r<;>simp only[CN,Ik]at hs;obtain⟨_,b,_,rfl⟩:=hr;exact mp _ rfl hs
  |_=>exact hs.elim
 ·cases V with
  |i z=>
   cases z<;>simp only[CN,Ik]at hs
   ·have hr:=AJ hr;cases hr;exact put (Y:=.nilFunc) rfl (ic hu) (.inr (.inr (.inl rfl))) (fun _ _=>by simp) (fun _=>by simp) (by simp) hs
   ·have hr:=AJ hr;cases hr;exact put (Y:=.nilFunc) rfl (WX hu _ _ _) (.inr (.inr (.inl rfl))) (fun _ _=>by simp) (fun _=>by simp) (by simp) hs
  |fn f first caps=>simp only[CN,Ik]at hs;obtain⟨va,vb,rfl,_⟩:=hr;exact put (Y:=.nilFunc) rfl (WX hu _ _ _) (.inr (.inr (.inl rfl))) (fun _ _=>by simp) (fun _=>by simp) (by simp) hs
  |ref r=>cases r<;>exact hs.elim
  |any=>exact hs.elim
  |tup cs=>exact hs.elim
 ·have pt:∀aa,X=.pointer aa->K (st.put d (.i (.bool (aa.isNone !=neg))))->o.wpX P a w (Ax GL n S M w K) Q:=fun aa e hk=>by subst e;exact put (Y:=.pointer none) rfl (hZ hu aa) (.inr (.inr (.inr rfl))) (fun _ _=>by simp) (fun _=>by simp) (by simp) hk
  cases V with
  |i z=>
   cases z<;>simp only[CN,Ik]at hs
   ·have hr:=AJ hr;cases hr;exact pt _ rfl hs
   ·have hr:=AJ hr;cases hr;exact pt _ rfl hs
  |ref r=>
   cases r<;>simp only[CN,Ik]at hs
   ·obtain⟨_,b,_,rfl⟩:=hr;exact pt _ rfl hs
   ·obtain⟨_,b,_,_,_,_,rfl⟩:=hr;exact pt _ rfl hs
  |_=>exact hs.elim
theorem ig(h:Rel GL n S M μ st a w){op:UnOp}{t:TypeId}{x:Operand}{ox:O}(ho:o.op=.unOp op t x)(hd:o.dst=some d)(hn:d<n)
  (hx:cO GL x=some ox)(hs:step P GL (.un d op ox) st K):o.wpX P a w (Ax GL n S M w K) Q:=by
 have hr:=Az h hx;simp only[step,unE]at hs;split at hs
 ·rename_i u e1;rw[e1]at hr;have e3:=G4 (AJ hr);exact A3 h hd hn (by simp[execOp,ho,e3,Op.unary]) (AM (.bool _)) hs
 ·rename_i k i e1;rw[e1]at hr;have e3:=Ct (AJ hr);exact A3 h hd hn (by simp[execOp,ho,e3,Op.unary,Op.intArith]) (AM (.int _ _)) hs
 ·exact hs.elim
theorem WZ{b:Builtin}{x:Operand}{V:Value}(ho:o.op=.call {callee:=.builtin b,args:=#[x],argTypes:=#[t]})(hb:b=.len)
  (hv:(Builtin.len_ #[t] o.type #[a.eval x]).run P w=.ok V w):(execOp a.eval o).run P w=.ok (.value V) w:=by
 subst hb;simp only[execOp,ho,resolve,Sem.run_bind,Sem.run_pure,Result.andThen_ok,invoke,builtin,List.map_toArray,List.map_cons,List.map_nil,hv]
theorem ii(h:Rel GL n S M μ st a w){t:TypeId}{x:Operand}{ox:O}(ho:o.op=.call {callee:=.builtin .len,args:=#[x],argTypes:=#[t]})(hd:o.dst=some d)(hn:d<n)
  (hx:cO GL x=some ox)(hu:P.underlying t=some .string)(hs:step P GL (.lens d ox) st K):o.wpX P a w (Ax GL n S M w K) Q:=by
 have hr:=Az h hx;simp only[step,LB]at hs;split at hs
 ·rename_i s e1;rw[e1]at hr;have e3:=HG (AJ hr);refine A3 h hd hn (WZ ho rfl ?_) (AM (.int .i64 s.length)) hs;rw[e3];simp[Builtin.len_,run_underlying hu w,goInt,WU]
 ·exact hs.elim
theorem ij(h:Rel GL n S M μ st a w){t e:TypeId}{x:Operand}{ox:O}(ho:o.op=.call {callee:=.builtin .len,args:=#[x],argTypes:=#[t]})(hd:o.dst=some d)(hn:d<n)
  (hx:cO GL x=some ox)(hu:P.underlying t=some (.slice e))(hs:step P GL (.lenl d ox) st K):o.wpX P a w (Ax GL n S M w K) Q:=by
 have hr:=Az h hx;have kz:∀b l c,a.eval x=.slice b l c->(execOp a.eval o).run P w=.ok (.value (.int .i64 l)) w:=fun b l c e3=>by refine WZ ho rfl ?_;rw[e3];simp[Builtin.len_,run_underlying hu w,goInt]
 simp only[step,Je]at hs;split at hs
 ·rename_i rows e1;rw[e1]at hr;have hr:=AJ hr;refine A3 h hd hn (v:=.int .i64 rows.length) ?_ (AM (.int .i64 rows.length)) hs;generalize hv:a.eval x=vx at hr;cases hr with
  |slnil=>exact kz _ _ _ hv
  |slempty=>exact kz _ _ _ hv
  |sl=>exact kz _ _ _ hv
 ·rename_i nm k lo hi e1;rw[e1]at hr;obtain⟨_,aa,cap,_,h1,h2,hh⟩:=hr;refine A3 h hd hn (v:=.int .i64 ((hi-lo:Nat):Int)) ?_ (AM (.int .i64 _)) hs;rcases hh with⟨rfl,a',e3⟩|⟨_,_,_,e3⟩
  ·have:hi-cap=0:=by omega
   rw[this];exact kz _ _ _ e3
  ·exact kz _ _ _ e3
 ·rename_i e1;rw[e1]at hr;have hr:=AJ hr;generalize hv:a.eval x=vx at hr;cases hr;exact A3 h hd hn (v:=.int .i64 0) (kz _ _ _ hv) (AM (.int .i64 0)) hs
 ·exact hs.elim
theorem il(h:Rel GL n S M μ st a w){x:Operand}{ox:O}{i:Nat}(ho:o.op=.extract x i)(hd:o.dst=some d)(hn:d<n)
  (hx:cO GL x=some ox)(hs:step P GL (.ext d ox i) st K):o.wpX P a w (Ax GL n S M w K) Q:=by
 have hr:=Az h hx;simp only[step,Jf]at hs;split at hs
 ·rename_i vs e1;rw[e1]at hr;obtain⟨us,e3,hl⟩:=(AJ hr).tup_inv;obtain⟨hi,hs⟩:=hs;have ja:i<us.size:=by have:=hl.1;simp at this;omega
  have e:vs.getD i .undef=vs[i]:=by grind
  rw[e]at hs;refine A3 h hd hn (v:=us[i]) ?_ (AM ?_) hs
  ·simp[execOp,ho,e3,Instr.extract,ja]
  ·have:=hl.2 i hi (by simpa using ja);simpa using this
 ·rename_i cs e1;rw[e1]at hr;obtain⟨us,e3,hl⟩:=hr;obtain⟨hi,hs⟩:=hs;have ja:i<us.size:=by have:=hl.1;simp at this;omega
  have e:cs.getD i .any=cs[i]:=by grind
  rw[e]at hs;refine A3 h hd hn (v:=us[i]) ?_ ?_ hs
  ·simp[execOp,ho,e3,Instr.extract,ja]
  ·have:=(hl.2 i hi (by simpa using ja)).toD;simpa using this
 ·exact hs.elim
theorem W0(h:Rel GL n S M μ st a w){mx:Bool}{t t':TypeId}{x y:Operand}{ox oy:O}(ho:o.op=.call {callee:=.builtin (if mx then .max else .min),args:=#[x,y],argTypes:=#[t,t']})(hd:o.dst=some d)(hn:d<n)
  (hx:cO GL x=some ox)(hy:cO GL y=some oy)(hs:G1 mx (A8 GL st ox) (A8 GL st oy) d st K):o.wpX P a w (Ax GL n S M w K) Q:=by
 have hr:=Az h hx;have vj:=Az h hy;unfold G1 at hs;split at hs
 ·rename_i k i k' j e1 e2;rw[e1]at hr;rw[e2]at vj;have e3:=Ct (AJ hr);have e4:=Ct (AJ vj);refine A3 h hd hn ?_ (AM (.int _ _)) hs;cases mx<;>simp only[Bool.false_eq_true,if_true,if_false]at ho⊢
  ·simp only[execOp,ho,resolve,Sem.run_bind,Sem.run_pure,Result.andThen_ok,invoke,builtin,List.map_toArray,List.map_cons,List.map_nil,e3,e4,run_min_int2]
  ·simp only[execOp,ho,resolve,Sem.run_bind,Sem.run_pure,Result.andThen_ok,invoke,builtin,List.map_toArray,List.map_cons,List.map_nil,e3,e4,run_max_int2]
 ·exact hs.elim
theorem im(h:Rel GL n S M μ st a w){t t':TypeId}{x:Operand}{ox:O}{k:IntKind}{ds:TypeDesc}(ho:o.op=.convert t t' x)(hd:o.dst=some d)(hn:d<n)
  (hx:cO GL x=some ox)(hu:P.underlying t=some ds)(hu':P.underlying t'=some (.int k))(hs:step P GL (.conv d k ox) st K):o.wpX P a w (Ax GL n S M w K) Q:=by
 have hr:=Az h hx;simp only[step,LD]at hs;split at hs
 ·rename_i k' i e1;rw[e1]at hr;have e3:=Ct (AJ hr);refine A3 h hd hn ?_ (AM (.int _ _)) hs;simp only[execOp,ho,convert,Sem.run_bind,run_underlying hu w,run_underlying hu' w,Result.andThen_ok,e3,Conv.intToInt,Sem.run_pure]
 ·exact hs.elim
theorem SW{x:D}{c:Cp}{v:Value}(h:AI M μ N x v)(hc:CF x=some c):Ci M μ N c v:=by cases x<;>simp[CF]at hc<;>subst hc<;>exact h
theorem SX{N:Nat->Prop}:∀{xs:List D} {cs:List Cp} {vs:List Value},Dq M μ N xs vs->xs.mapM CF=some cs->Ed M μ N cs vs
 |[],cs,vs,h,hc=>by simp at hc;subst hc;exact⟨h.1,fun j hj=>by simp at hj⟩
 |x::xs,cs,vs,h,hc=>by
  rw[List.mapM_cons]at hc;cases h1:CF x with
  |none=>simp[h1]at hc
  |some c=>
   cases h2:xs.mapM CF with
   |none=>simp[h1,h2]at hc
   |some cs'=>
    simp[h1,h2]at hc;subst hc;obtain⟨q1,q2⟩:=h;cases vs with
    |nil=>simp at q1
    |cons v vs=>
     have:=SX (vs:=vs) ⟨by simpa using q1,fun j a b=>by have:=q2 (j+1) (by simp;omega) (by simp;omega);exact this⟩ h2;refine⟨by simpa using this.1,fun j a b=>?_⟩;cases j with
     |zero=>exact SW (q2 0 (by simp) (by simp)) h1
     |succ j=>exact this.2 j (by simpa using a) (by simpa using b)
theorem W1{cs:List Cp}{vs:List Value}(h:Ed M μ N cs vs)(hi:cs.all iCp=true):Ak M (cs.map unC) vs:=by
 refine⟨by simpa using h.1,fun j a b=>?_⟩;rw[List.getElem_map];have:=h.2 j (by simpa using a) b;have hj:iCp (cs[j]'(by simpa using a))=true:=by grind
 revert this hj;generalize cs[j]'(by simpa using a)=c;intro this hj;cases c<;>simp[iCp]at hj;exact this
theorem io(h:Rel GL n S M μ st a w){f:FuncId}{first caps:Array Operand}{of oc:List O}(hfy:Nat.blt f 1000000000=true)(ho:o.op=.makeFunc (.func f) first caps)(hd:o.dst=some d)(hn:d<n)
  (hf:first.toList.mapM (cO GL)=some of)(hc:caps.toList.mapM (cO GL)=some oc)(hs:step P GL (.mkfn d f of oc) st K):o.wpX P a w (Ax GL n S M w K) Q:=by
 simp only[step,LC]at hs;split at hs
 ·rename_i x y e1 e2;have e1':(of.map (A8 GL st)).mapM CF=some x:=by rw[List.mapM_map];exact e1
  have e2':(oc.map (A8 GL st)).mapM CF=some y:=by rw[List.mapM_map];exact e2
  have r1:=SX (OR h hf) e1';have r2:=SX (OR h hc) e2';refine A3 h hd hn (v:=.func (.func f) (first.map a.eval) (caps.map a.eval)) ?_ ?_ hs
  ·simp[execOp,ho,Instr.makeFunc]
  ·unfold fnD;split
   ·rename_i jg;rw[Bool.and_eq_true]at jg;exact Rep.fn' hfy (by simpa using W1 r1 jg.1) (by simpa using W1 r2 jg.2)
   ·exact⟨_,_,by rw[Gn,if_pos hfy],.inl hfy,by simpa using r1,by simpa using r2⟩
 ·exact hs.elim
def DB(P:Program)(t:TypeId)(cs:Array Value):Value:=if Eu P t=some true then .agg cs else cs.getD 0 Go.undef
theorem QD{k off:Nat}{cs:Array Value}{ag:Bool}(hk:Qp P t=some k)(ha:Eu P t=some ag)(h1:ag=false->k=1)(j6:off+k<=cs.size)(w:World):
  (part t cs off).run P w=.ok (DB P t (cs.extract off (off+k))) w:=by
 unfold part DB;cases ag with
 |true=>simp only[Sem.run_bind,QC ha,Result.andThen_ok,if_true,EU hk,Sem.run_pure,ha]
 |false=>
  obtain rfl:=h1 rfl;have jn:off<cs.size:=by omega
  simp only[Sem.run_bind,QC ha,Result.andThen_ok,Bool.false_eq_true,if_false,ha,Option.some.injEq];have:off<off+1:=by omega
  simp[jn,Array.getD_eq_getD_getElem?,show 0<min (off+1) cs.size-off by omega]
theorem Ak.slice{cs:List I}{vs:Array Value}(h:Ak M cs vs.toList)(off k:Nat)(j6:off+k<=cs.length):Ak M ((cs.drop off).take k) (vs.extract off (off+k)).toList:=by have e:=h.1;simp at e;refine⟨by simp;omega,fun j a b=>?_⟩;simp at a b;have:=h.2 (off+j) (by omega) (by simp;omega);grind
theorem ip{k off:Nat}{cs:List I}{vs:Array Value}{ag:Bool}(ha:Eu P t=some ag)(h1:ag=false->k=1)(h:Ak M cs vs.toList)(j6:off+k<=cs.length):
  Rep M (pk ag cs off k) (DB P t (vs.extract off (off+k))):=by
 have hs:=h.slice off k j6;have e:=h.1;simp at e;unfold DB;cases ag with
 |true=>simp only[ha,if_true,pk];exact Rep.agg' hs
 |false=>
  obtain rfl:=h1 rfl;simp only[ha,pk,Bool.false_eq_true,if_false,Option.some.injEq];have:=h.2 off (by omega) (by simp;omega);have e1:cs.getD off .undef=cs[off]'(by omega):=by grind
  rw[e1];simpa[Array.getD_eq_getD_getElem?,show 0<min (off+1) vs.size-off by omega]using this
theorem iq(h:Rel GL n S M μ st a w){t e:TypeId}{x ix:Operand}{ox oi:O}{k len:Nat}{ag:Bool}(ho:o.op=.index t x ix)(hd:o.dst=some d)(hn:d<n)
  (hx:cO GL x=some ox)(hi:cO GL ix=some oi)(hu:P.underlying t=some (.array len e))(hk:Qp P e=some k)(ha:Eu P e=some ag)(h1:(ag||k==1)=true)
  (hs:step P GL (.aidx d ox oi k len ag) st K):o.wpX P a w (Ax GL n S M w K) Q:=by
 replace h1:ag=false->k=1:=fun e=>by subst e;simpa using h1
 have hr:=Az h hx;have jy:=Az h hi;simp only[step,Lx]at hs;split at hs
 ·rename_i cs kk i e1 e2;rw[e1]at hr;rw[e2]at jy;have jy:=Ct (AJ jy);obtain⟨vs,e3,hl⟩:=(AJ hr).agg_inv;obtain⟨hb,j6,hs⟩:=hs;have hl':=hl.1;simp at hl';refine A3 h hd hn ?_ (AM (ip (P:=P) (t:=e) ha h1 hl j6)) hs;simp only[execOp,ho,e3,jy,Instr.index,asIntOf,Sem.run_bind,run_underlying hu w,Result.andThen_ok,Sem.run_pure,hb,and_self,if_true,EU hk,QD hk ha h1 (show i.toNat*k+k<=vs.size by omega)]
 ·exact hs.elim
end
end Go.Dl
end
