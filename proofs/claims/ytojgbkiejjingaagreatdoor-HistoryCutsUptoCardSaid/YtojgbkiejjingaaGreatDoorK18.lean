/-
  Lemmas, no statement.
-/
import Derived.Test.YtojgbkiejjingaaGreatDoorK17
set_option linter.all false
namespace Go.Dl
open Go Go.RowKit
def Be(n:Nat)(o:Oper):Option Nat:=match o.dst with|some d=>if d<n then some d else none|none=>none
theorem Ap{n d:Nat}{o:Oper}(h:Be n o=some d):o.dst=some d/\d<n:=by grind[Be]
section
variable (P:Program)(GL:List (Nat×List I))(n:Nat)(mu:List Nat)
def Tl(o:Oper)(x:Operand):Option Ins:=
 match Be n o,cO GL x with
 |some d,some ox=>some (.mov d ox)
 |_,_=>none
def Tm(o:Oper):Option Ins:=
 match Be n o,P.underlying o.type with
 |some d,some (.slice e)=>match Pr P e with|some k=>some (.nils d e k)|none=>none
 |_,_=>none
def Tn(o:Oper):Option Ins:=
 match Be n o with
 |some d=>if mu.contains (d+2000)then some (.mov d (.c .nilsl))else Tm P n o
 |none=>none
def NP(o:Oper)(x:Operand):Option Ins:=
 match x with
 |.const (.slice none 0 0)=>Tn P n mu o
 |_=>Tl GL n o x
def To(o:Oper)(c x y:Operand):Option Ins:=
 match Be n o,cO GL c,cO GL x,cO GL y with
 |some d,some oc,some ox,some oy=>some (.pick d oc ox oy)
 |_,_,_,_=>none
def Tp(o:Oper)(x:Operand):Option Ins:=
 match Be n o,cO GL x with
 |some d,some ox=>some (if mu.contains d then .boxm d ox else .box d ox)
 |_,_=>none
def Tq(o:Oper)(t:TypeId):Option Ins:=
 match Be n o,P.info? t with
 |some d,some i=>match i.zero with
  |some z=>match Cb z with|some zi=>some (.alloc d (cellsI zi))|none=>none
  |none=>none
 |_,_=>none
def Tr(o:Oper)(t:TypeId)(x:Operand):Option Ins:=
 match Be n o,cO GL x,Pr P t,Eh P t with
 |some d,some ox,some k,some ag=>if ag||k==1 then some (.load d ox k ag)else none
 |_,_,_,_=>none
def Ts(o:Oper)(t:TypeId)(x v:Operand):Option Ins:=
 match o.dst,cO GL x,cO GL v,Pr P t with
 |none,some ox,some ov,some k=>some (match x with|.tmp s=>if mu.contains s then .store ox ov k else .stfrz ox ov k|_=>.store ox ov k)
 |_,_,_,_=>none
def xn(o:Oper)(t:TypeId)(x:Operand)(f:Nat):Option Ins:=
 match Be n o,cO GL x,P.underlying t with
 |some d,some ox,some (.struct fs)=>match fs[f]? with
  |some fl=>match Pr P fl.type with|some k=>if k=0 then none else some (.fa d ox fl.offset)|none=>none
  |none=>none
 |_,_,_=>none
def xo(o:Oper)(t:TypeId)(x ix:Operand):Option Ins:=
 match Be n o,cO GL x,cO GL ix,P.underlying t with
 |some d,some ox,some oi,some (.slice e)=>match Pr P e with|some k=>some (.ia d ox oi k)|none=>none
 |_,_,_,_=>none
def Tt(o:Oper)(t:TypeId)(x ix:Operand):Option Ins:=
 match Be n o,cO GL x,cO GL ix,P.underlying t with
 |some d,some ox,some oi,some .string=>some (.idx d ox oi)
 |_,_,_,_=>none
def Tu(o:Oper)(t:TypeId)(x ix:Operand):Option Ins:=match Tt P GL n o t x ix with
 |some i=>some i
 |none=>none
def Tv(o:Oper)(t:TypeId)(x ix:Operand):Option Ins:=match xo P GL n o t x ix with
 |some i=>some i
 |none=>none
def Tw(o:Oper)(op:BinOp)(t:TypeId)(x y:Operand):Option Ins:=
 match Be n o,cO GL x,P.underlying t with
 |some d,some ox,some dsc=>match PB dsc y,op with
  |some q,.eql=>some (.isnil d q false ox)
  |some q,.neq=>some (.isnil d q true ox)
  |_,_=>none
 |_,_,_=>none
def Tx(o:Oper)(op:BinOp)(t:TypeId)(x y:Operand):Option Ins:=
 match Be n o,cO GL x,cO GL y,P.underlying t with
 |some d,some ox,some oy,some (.int _)=>match op with
  |.shl=>some (.sh d .shl ox oy)
  |.shr=>some (.sh d .shr ox oy)
  |op=>some (.bin d op ox oy)
 |some d,some ox,some oy,some .string=>some (.bin d op ox oy)
 |some d,some ox,some oy,some .bool=>match op with
  |.eql=>some (.eqb d false ox oy)
  |.neq=>some (.eqb d true ox oy)
  |_=>none
 |some d,some ox,some oy,some (.struct _)=>match BL P 10000 t with
  |some ls=>if P.eqGuardType P.depth t=false then(match op with|.eql=>some (.eqs d false ls ox oy)|.neq=>some (.eqs d true ls ox oy)|_=>none)else none
  |none=>none
 |_,_,_,_=>none
def xp(o:Oper)(op:UnOp)(x:Operand):Option Ins:=
 match Be n o,cO GL x with
 |some d,some ox=>some (.un d op ox)
 |_,_=>none
def Ty(o:Oper)(t t':TypeId)(x:Operand):Option Ins:=
 match Be n o,cO GL x,P.underlying t,P.underlying t' with
 |some d,some ox,some _,some (.int k)=>some (.conv d k ox)
 |some d,some ox,some .string,some (.slice e)=>(match P.underlying e with|some (.int .u8)=>some (.bytes d ox)|_=>none)
 |_,_,_,_=>none
def Tz(o:Oper)(x:Operand)(i:Nat):Option Ins:=
 match Be n o,cO GL x with
 |some d,some ox=>some (.ext d ox i)
 |_,_=>none
def xq(o:Oper)(f:FuncId)(first caps:Array Operand):Option Ins:=
 if Nat.blt f 1000000000=false then none else match Be n o,first.toList.mapM (cO GL),caps.toList.mapM (cO GL)with
 |some d,some of,some oc=>some (.mkfn d f of oc)
 |_,_,_=>none
def TA(o:Oper)(t:TypeId)(parts:Array (Nat×Operand)):Option Ins:=
 match Be n o,P.info? t,P.underlying t with
 |some d,some i,some (.struct fs)=>match i.zero,PR P fs with
  |some z,some pl=>match Cb z with
   |some zi=>match IN GL (fun j=>pl[j]?) (cellsI zi).length parts.toList with
    |some qs=>some (.build d (cellsI zi) qs)
    |none=>none
   |none=>none
  |_,_=>none
 |_,_,_=>none
def TB(o:Oper)(t:TypeId)(parts:Array (Nat×Operand)):Option Ins:=
 match Be n o,P.info? t,P.underlying t with
 |some d,some i,some (.array _ e)=>match i.zero,Pr P e with
  |some z,some k=>match Cb z with
   |some zi=>match IN GL (fun j=>some (j*k,k)) (cellsI zi).length parts.toList with
    |some qs=>some (.build d (cellsI zi) qs)
    |none=>none
   |none=>none
  |_,_=>none
 |_,_,_=>none
def TC(o:Oper)(t:TypeId)(parts:Array (Nat×Operand)):Option Ins:=match TA P GL n o t parts with
 |some i=>some i
 |none=>TB P GL n o t parts
def TD(o:Oper)(t:TypeId)(len:Nat)(parts:Array (Nat×Operand)):Option Ins:=
 match Be n o,P.underlying t,(parts.toList.map (·.2)).mapM (cO GL)with
 |some d,some (.slice e),some os=>match P.info? e with
  |some i=>match i.zero with
   |some z=>match Cb z with
    |some zi=>if(cellsI zi).length=i.size/\0<i.size/\len*i.size<=16777216/\parts.toList.map (·.1)=List.range len then some (if os.isEmpty then .bsl d e i.size os else if mu.contains (d+1000)then .bso d e i.size os else .bsn d e i.size os)else none
    |none=>none
   |none=>none
  |none=>none
 |_,_,_=>none
def TE(o:Oper)(t:TypeId)(x:Operand):Option Ins:=
 match Be n o,cO GL x,P.underlying t with
 |some d,some ox,some .string=>some (.lens d ox)
 |some d,some ox,some (.slice _)=>some (.lenl d ox)
 |_,_,_=>none
def TF(o:Oper)(t:TypeId)(x y:Operand):Option Ins:=
 match Be n o,cO GL x,cO GL y,P.underlying t with
 |some d,some ox,some oy,some (.slice e)=>match P.info? e with
  |some i=>match i.zero with
   |some z=>if z.cells.size=i.size/\0<i.size then some (.app d e i.size i.bytes ox oy)else none
   |none=>none
  |none=>none
 |_,_,_,_=>none
def TG(o:Oper)(t t':TypeId)(x y:Operand):Option Ins:=
 match Be n o,cO GL x,cO GL y,P.underlying t,P.underlying t' with
 |some d,some ox,some oy,some (.slice e),some (.int _)=>match P.info? e with
  |some i=>match i.zero with
   |some z=>match Cb z with
    |some zi=>if(cellsI zi).all I.one=true/\z.cells.size=i.size/\0<i.size then some (.appz d e i.size i.bytes ox oy (cellsI zi))else none
    |none=>none
   |none=>none
  |none=>none
 |_,_,_,_,_=>none
def NQ(mx:Bool)(o:Oper)(x y:Operand):Option Ins:=
 match Be n o,cO GL x,cO GL y with
 |some d,some ox,some oy=>some (if mx then .max d ox oy else .min d ox oy)
 |_,_,_=>none
def IP(n:Nat)(o:Oper):Bool:=match o.dst with|some d=>decide (d<n)|none=>true
def TH(o:Oper)(fv:Operand)(args:Array Operand):Option Ins:=
 match args.toList.mapM (cO GL)with
 |some os=>if IP n o&&decide (n<=999)then(match fv with
  |.func f=>if Nat.blt f 1000000000=true then some (.call o.dst f os)else none
  |fv=>match cO GL fv with|some of=>some (.callv o.dst of os)|none=>none)else none
 |none=>none
def L8:Option Operand->Option (Option O)
 |none=>some none
 |some x=>(cO GL x).map some
def TI(o:Oper)(t:TypeId)(x:Operand)(lo hi:Option Operand):Option Ins:=
 match Be n o,cO GL x,L8 GL lo,L8 GL hi,P.underlying t with
 |some d,some ox,some olo,some ohi,some (.slice e)=>match Pr P e with|some k=>some (.slc d ox olo ohi k)|none=>none
 |_,_,_,_,_=>none
def P1(e:TypeId):Bool:=match P.underlying e with|some (.slice _)|some (.map _ _)=>true|_=>false
def TJ(o:Oper)(t:TypeId)(x ix:Operand)(ok:Bool):Option Ins:=
 match Be n o,cO GL x,cO GL ix,P.underlying t with
 |some d,some ox,some oi,some (.map k e)=>match Dc P k,P.info? e with
  |some ls,some i=>match i.zero with
   |some z=>match Cb z with|some zi=>some (if P1 P e||mu.contains (d+4000)then .lookg d ox oi zi ok ls else .lookup d ox oi zi ok ls)|none=>none
   |none=>none
  |_,_=>none
 |_,_,_,_=>none
def NR(o:Oper)(t:TypeId)(x ix y:Operand):Option Ins:=
 match o.dst,cO GL x,cO GL ix,cO GL y,P.underlying t with
 |none,some ox,some oi,some oy,some (.map k e)=>match Dc P k with|some ls=>if P1 P e then none else some (.mupd ox oi oy ls)|none=>none
 |_,_,_,_,_=>none
def TK(o:Oper)(t:TypeId)(r:Option Operand):Option Ins:=
 match Be n o,r,P.underlying t with
 |some d,none,some (.map k e)=>match Dc P k with|some ls=>some (if P1 P e||mu.contains (d+4000)then .mkgm d ls else .mkmap d ls)|none=>none
 |_,_,_=>none
def TL(o:Oper)(t:TypeId)(x ix:Operand):Option Ins:=
 match Be n o,cO GL x,cO GL ix,P.underlying t with
 |some d,some ox,some oi,some (.map k e)=>match Dc P k,P.info? e with
  |some ls,some i=>match i.zero with
   |some z=>match Cb z with
    |some zi=>some (.ment d ox oi zi ls (match P.underlying e with|some (.slice e2)=>e2|_=>0) (match P.underlying e with|some (.slice e2)=>(Pr P e2).getD 0|_=>0))
    |none=>none
   |none=>none
  |_,_=>none
 |_,_,_,_=>none
def TM(o:Oper)(x s y:Operand):Option Ins:=
 match o.dst,cO GL x,cO GL s,cO GL y with
 |none,some ox,some os,some oy=>some (.ests ox os oy)
 |_,_,_,_=>none
def P2:Operand->Operand->Bool
 |.tmp p,.tmp q=>decide (p=q)
 |.const (.int k m),.const (.int k2 m2)=>decide (k=k2/\m=m2)
 |_,_=>false
theorem aw{x y:Operand}(h:P2 x y=true):x=y:=by unfold P2 at h;grind
def TN(o:Oper)(t:TypeId)(x y:Operand):Option Ins:=
 match Be n o,P.underlying t,cO GL x with
 |some d,some (.slice e),some ox=>match P.info? e with
  |some i=>match i.zero with
   |some z=>match Cb z with
    |some zi=>if P2 x y=true/\z.cells.size=i.size then some (.mksl d e i.size i.bytes (cellsI zi) ox)else none
    |none=>none
   |none=>none
  |none=>none
 |_,_,_=>none
def TO(o:Oper)(t:TypeId)(x:Operand):Option Ins:=
 match Be n o,cO GL x,P.underlying t with
 |some d,some ox,some (.slice _)=>some (.cap d ox)
 |_,_,_=>none
def TP(o:Oper)(t:TypeId)(x y:Operand):Option Ins:=
 match cO GL x,cO GL y,P.underlying t with
 |some ox,some oy,some (.slice e)=>match Pr P e with
  |some k=>if IP n o then some (.cpy o.dst ox oy e k)else none
  |none=>none
 |_,_,_=>none
def TQ(o:Oper)(t:TypeId)(x:Operand):Option Ins:=
 match cO GL x,P.underlying t with
 |some ox,some (.slice e)=>match P.info? e with
  |some i=>match i.zero with
   |some z=>match Cb z with
    |some zi=>if IP n o&&(cellsI zi).all I.one then some (.clr o.dst ox (cellsI zi))else none
    |none=>none
   |none=>none
  |none=>none
 |_,_=>none
def TR(o:Oper)(t:TypeId)(x:Operand):Option Ins:=
 match Be n o,cO GL x,P.underlying t with
 |some d,some ox,some (.map _ _)=>some (.rng d ox)
 |_,_,_=>none
def TS(o:Oper)(x:Operand):Option Ins:=
 match Be n o,cO GL x with
 |some d,some ox=>some (.nxt d ox)
 |_,_=>none
def TT(o:Oper)(x:Operand):Option Ins:=
 match Be n o,cO GL x with
 |some d,some ox=>some (.ent d ox)
 |_,_=>none
def TU(o:Oper)(b:Builtin)(args:List Operand)(tys:List TypeId):Option Ins:=
 match b,args,tys with
 |.len,[x],[t]=>TE P GL n o t x
 |.append,[x,y],[t,t']=>if t=t' then TF P GL n o t x y else TG P GL n o t t' x y
 |.max,[x,y],[_,_]=>NQ GL n true o x y
 |.min,[x,y],[_,_]=>NQ GL n false o x y
 |.cap,[x],[t]=>TO P GL n o t x
 |.copy,[x,y],[t,_]=>TP P GL n o t x y
 |.clear,[x],[t]=>TQ P GL n o t x
 |_,_,_=>none
def TV(o:Oper)(fv:Operand)(args:Array Operand)(tys:List TypeId):Option Ins:=
 match Be n o,fv,args.toList,tys with
 |some d,.func f,.const (.slice none 0 0)::xs,t::_=>match xs.mapM (cO GL),P.underlying t with
  |some os,some (.slice e)=>match Pr P e with
   |some k=>if Nat.blt f 1000000000&&decide (n<=999)&&mu.contains (d+3000)then some (.calln d f e k os)else none
   |none=>none
  |_,_=>none
 |_,_,_,_=>none
def TW(o:Oper)(fv:Operand)(args:Array Operand):Option Ins:=
 match Be n o,fv,args.toList.mapM (cO GL)with
 |some d,.func f,some os=>if Nat.blt f 1000000000&&decide (n<=999)&&mu.contains (d+5000)then some (.callo d f os)else none
 |_,_,_=>none
def TY(o:Oper)(c:Call):Option Ins:=
 match c.callee with
 |.builtin b=>TU P GL n o b c.args.toList c.argTypes.toList
 |.value fv=>match TV P GL n mu o fv c.args c.argTypes.toList with
  |some i=>some i
  |none=>match TW GL n mu o fv c.args with
   |some i=>some i
   |none=>TH GL n o fv c.args
 |_=>none
def Gw(o:Oper):Option Ins:=
 match o.op with
 |.move x=>NP P GL n mu o x
 |.assign x=>NP P GL n mu o x
 |.pick c x y=>To GL n o c x y
 |.box _ x=>Tp GL n mu o x
 |.alloc t=>Tq P n o t
 |.load t x=>Tr P GL n o t x
 |.store t x v=>Ts P GL mu o t x v
 |.fieldAddr t x f=>xn P GL n o t x f
 |.indexAddr t x ix=>Tv P GL n o t x ix
 |.index t x ix=>Tu P GL n o t x ix
 |.binOp op t x y _=>match Tw P GL n o op t x y with|some i=>some i|none=>Tx P GL n o op t x y
 |.unOp op _ x=>xp GL n o op x
 |.convert t t' x=>Ty P GL n o t t' x
 |.extract x i=>Tz GL n o x i
 |.makeFunc (.func f) first caps=>xq GL n o f first caps
 |.build t parts=>TC P GL n o t parts
 |.buildSlice t len parts=>TD P GL n mu o t len parts
 |.call c=>TY P GL n mu o c
 |.slice t x lo hi none=>TI P GL n o t x lo hi
 |.makeMap t r=>TK P n mu o t r
 |.lookup t x ix ok=>TJ P GL n mu o t x ix ok
 |.mapUpdate t x ix y=>NR P GL o t x ix y
 |.insert t x ix y=>NR P GL o t x ix y
 |.mapEntry t x ix=>TL P GL n o t x ix
 |.entryStore _ x s y=>TM GL o x s y
 |.makeSlice t x y=>TN P GL n o t x y
 |.range t x=>TR P GL n o t x
 |.next x false=>TS GL n o x
 |.entry x=>TT GL n o x
 |_=>none
end
section
variable {P:Program}{GL:List (Nat×List I)}{n:Nat}{S:Sh}{M:Mem}{μ:Place}{st:St}{a:Act}{w:World}{K:St->Prop}{Q:Exit->Act->World->Prop}{o:Oper}{mu:List Nat}
theorem TZ(h:Rel GL n S M μ st a w){x:Operand}{ins:Ins}(ho:o.op=.move x\/o.op=.assign x)(hc:NP P GL n mu o x=some ins)(hs:step P GL ins st K):
  o.wpX P a w (Ar GL n S M w K) Q:=by
 unfold NP at hc;split at hc
 ·unfold Tn at hc;split at hc
  ·split at hc
   ·rename_i hd _;cases hc;obtain⟨h1,h2⟩:=Ap hd;exact A2 h h1 h2 (v:=.slice none 0 0) (by rcases ho with ho|ho<;>simp[execOp,ho,Act.eval]) (AG .nilsl) hs
   ·unfold Tm at hc;split at hc
    ·split at hc<;>cases hc;rename_i hd _ _ _ _;obtain⟨h1,h2⟩:=Ap hd;exact Ze h ho h1 h2 hs
    ·cases hc
  ·cases hc
 ·unfold Tl at hc;split at hc<;>cases hc;rename_i hd hx;obtain⟨h1,h2⟩:=Ap hd;exact Zc h ho h1 h2 hx hs
theorem ax(h:Rel GL n S M μ st a w){ins:Ins}(hc:Gw P GL n mu o=some ins)(hs:step P GL ins st K):o.wpX P a w (Ar GL n S M w K) Q:=by
 unfold Gw at hc;split at hc<;>rename_i ho
 ·exact TZ h (.inl ho) hc hs
 ·exact TZ h (.inr ho) hc hs
 ·unfold To at hc;split at hc<;>cases hc;rename_i hd h1 h2 h3;exact Zd h ho (Ap hd).1 (Ap hd).2 h1 h2 h3 hs
 ·unfold Tp at hc;split at hc<;>cases hc;rename_i hd h1;split at hs
  ·exact Zh h ho (Ap hd).1 (Ap hd).2 h1 hs
  ·exact Zf h ho (Ap hd).1 (Ap hd).2 h1 hs
 ·unfold Tq at hc;split at hc
  ·split at hc
   ·split at hc<;>cases hc;rename_i hd hi _ z hz _ zi w9;exact Zi h ho (Ap hd).1 (Ap hd).2 hi hz w9 hs
   ·cases hc
  ·cases hc
 ·unfold Tr at hc;split at hc
  ·split at hc<;>cases hc;rename_i hd h1 h2 h3 h4;exact Zb h ho (Ap hd).1 (Ap hd).2 h1 h2 h3 (fun e=>by subst e;simpa using h4) hs
  ·cases hc
 ·unfold Ts at hc;split at hc
  ·rename_i hd h1 h2 h3;cases hc;split at hs
   ·split at hs
    ·exact SR h ho hd h1 h2 h3 hs
    ·exact ZG h ho hd h1 h2 h3 hs
   ·exact SR h ho hd h1 h2 h3 hs
  ·cases hc
 ·unfold xn at hc;split at hc
  ·split at hc
   ·split at hc
    ·split at hc<;>cases hc;rename_i hd h1 h2 _ fl hf _ k hk vn;exact Zj h ho (Ap hd).1 (Ap hd).2 h1 h2 hf hk vn rfl hs
    ·cases hc
   ·cases hc
  ·cases hc
 ·unfold Tv at hc;split at hc
  ·rename_i qb;cases hc;unfold xo at qb;split at qb
   ·split at qb<;>cases qb;rename_i hd h1 h2 h3 _ k hk;exact Zk h ho (Ap hd).1 (Ap hd).2 h1 h2 h3 hk hs
   ·cases qb
  ·cases hc
 ·unfold Tu at hc;split at hc
  ·rename_i qb;cases hc;unfold Tt at qb;split at qb<;>cases qb;rename_i hd h1 h2 h3;exact Zm h ho (Ap hd).1 (Ap hd).2 h1 h2 h3 hs
  ·cases hc
 ·split at hc
  ·rename_i qb;cases hc;unfold Tw at qb;split at qb
   ·rename_i hd h1 h2;split at qb<;>cases qb
    ·rename_i hq;exact SH (neg:=false) h ho (Ap hd).1 (Ap hd).2 h1 h2 hq hs
    ·rename_i hq;exact SH (neg:=true) h ho (Ap hd).1 (Ap hd).2 h1 h2 hq hs
   ·cases qb
  unfold Tx at hc;split at hc
  ·rename_i hd h1 h2 h3;split at hc<;>cases hc
   ·exact SE h (.inl rfl) ho (Ap hd).1 (Ap hd).2 h1 h2 hs
   ·exact SE h (.inr rfl) ho (Ap hd).1 (Ap hd).2 h1 h2 hs
   ·exact SD h ho (Ap hd).1 (Ap hd).2 h1 h2 hs
  ·cases hc;rename_i hd h1 h2 h3;exact SD h ho (Ap hd).1 (Ap hd).2 h1 h2 hs
  ·rename_i hd h1 h2 h3;split at hc<;>cases hc
   ·exact SF (neg:=false) h ho (Ap hd).1 (Ap hd).2 h1 h2 h3 hs
   ·exact SF (neg:=true) h ho (Ap hd).1 (Ap hd).2 h1 h2 h3 hs
  ·rename_i hd h1 h2 h3;split at hc
   ·rename_i ls hf;split at hc
    ·rename_i hg;split at hc<;>cases hc
     ·exact SZ (neg:=false) h ho (Ap hd).1 (Ap hd).2 h1 h2 (Gv h3) hf hg hs
     ·exact SZ (neg:=true) h ho (Ap hd).1 (Ap hd).2 h1 h2 (Gv h3) hf hg hs
    ·cases hc
   ·cases hc
  ·cases hc
 ·unfold xp at hc;split at hc<;>cases hc;rename_i hd h1;exact Zt h ho (Ap hd).1 (Ap hd).2 h1 hs
 ·unfold Ty at hc;split at hc
  ·rename_i hd h1 h2 h3;cases hc;exact Zx h ho (Ap hd).1 (Ap hd).2 h1 h2 h3 hs
  ·rename_i hd h1 h2 h3;split at hc<;>cases hc;rename_i he;exact Z3 h ho (Ap hd).1 (Ap hd).2 h1 h2 h3 he hs
  ·cases hc
 ·unfold Tz at hc;split at hc<;>cases hc;rename_i hd h1;exact Zw h ho (Ap hd).1 (Ap hd).2 h1 hs
 ·unfold xq at hc;split at hc
  ·cases hc
  rename_i xh;split at hc<;>cases hc;rename_i hd h1 h2;exact Zy h (by simpa using xh) ho (Ap hd).1 (Ap hd).2 h1 h2 hs
 ·unfold TC at hc;split at hc
  ·rename_i qb;cases hc;unfold TA at qb;split at qb
   ·split at qb
    ·split at qb
     ·split at qb<;>cases qb;rename_i hd hi hu _ _ z pl hz wd _ zi w9 _ qs hq;exact ZQ h ho (Ap hd).1 (Ap hd).2 hi hz w9 hu wd hq hs
     ·cases qb
    ·cases qb
   ·cases qb
  ·unfold TB at hc;split at hc
   ·split at hc
    ·split at hc
     ·split at hc<;>cases hc;rename_i hd hi hu _ _ z k hz hk _ zi w9 _ qs hq;exact Z2 h ho (Ap hd).1 (Ap hd).2 hi hz w9 hu hk hq hs
     ·cases hc
    ·cases hc
   ·cases hc
 ·unfold TD at hc;split at hc
  ·split at hc
   ·split at hc
    ·split at hc
     ·split at hc<;>cases hc;rename_i hd hu zJ _ i hi _ z hz _ zi w9 jf;split at hs
      ·exact SV h ho (Ap hd).1 (Ap hd).2 hu hi rfl hz w9 jf.1 jf.2.1 jf.2.2.1 jf.2.2.2 zJ hs
      ·split at hs
       ·exact ZS h ho (Ap hd).1 (Ap hd).2 hu hi rfl hz w9 jf.1 jf.2.1 jf.2.2.1 jf.2.2.2 zJ hs
       ·exact SV h ho (Ap hd).1 (Ap hd).2 hu hi rfl hz w9 jf.1 jf.2.1 jf.2.2.1 jf.2.2.2 zJ (ZR hs)
     ·cases hc
    ·cases hc
   ·cases hc
  ·cases hc
 ·rename_i c;obtain⟨callee,args,tys⟩:=c;unfold TY at hc;simp only at hc;split at hc
  ·unfold TU at hc;split at hc
   ·rename_i x t e1 e2;obtain rfl:args=#[x]:=by apply Array.ext';exact e1
    obtain rfl:tys=#[t]:=by apply Array.ext';exact e2
    unfold TE at hc;split at hc<;>cases hc
    ·rename_i hd h1 h2;exact Zu h ho (Ap hd).1 (Ap hd).2 h1 h2 hs
    ·rename_i hd h1 h2;exact Zv h ho (Ap hd).1 (Ap hd).2 h1 h2 hs
   ·rename_i x y t t' e1 e2;obtain rfl:args=#[x,y]:=by apply Array.ext';exact e1
    obtain rfl:tys=#[t,t']:=by apply Array.ext';exact e2
    split at hc
    ·rename_i ht;subst ht;unfold TF at hc;split at hc
     ·split at hc
      ·split at hc
       ·split at hc<;>cases hc;rename_i hd h1 h2 h3 _ i hi _ z hz jf;exact ZJ h ho (Ap hd).1 (Ap hd).2 h1 h2 h3 hi hz rfl rfl jf.1 jf.2 hs
       ·cases hc
      ·cases hc
     ·cases hc
    ·unfold TG at hc;split at hc
     ·split at hc
      ·split at hc
       ·split at hc
        ·split at hc<;>cases hc;rename_i hd h1 h2 h3 h4 _ i hi _ z hz _ zi w9 jf;exact av h ho (Ap hd).1 (Ap hd).2 h1 h2 h3 h4 hi hz w9 jf.1 jf.2.1 jf.2.2 hs
        ·cases hc
       ·cases hc
      ·cases hc
     ·cases hc
   ·rename_i x y t t' e1 e2;obtain rfl:args=#[x,y]:=by apply Array.ext';exact e1
    obtain rfl:tys=#[t,t']:=by apply Array.ext';exact e2
    unfold NQ at hc;split at hc<;>cases hc;rename_i hd h1 h2;exact SJ (mx:=true) h ho (Ap hd).1 (Ap hd).2 h1 h2 hs
   ·rename_i x y t t' e1 e2;obtain rfl:args=#[x,y]:=by apply Array.ext';exact e1
    obtain rfl:tys=#[t,t']:=by apply Array.ext';exact e2
    unfold NQ at hc;split at hc<;>cases hc;rename_i hd h1 h2;exact SJ (mx:=false) h ho (Ap hd).1 (Ap hd).2 h1 h2 hs
   ·rename_i x t e1 e2;obtain rfl:args=#[x]:=by apply Array.ext';exact e1
    obtain rfl:tys=#[t]:=by apply Array.ext';exact e2
    unfold TO at hc;split at hc<;>cases hc;rename_i hd h1 h2;exact ab h ho (Ap hd).1 (Ap hd).2 h1 h2 hs
   ·rename_i x y t t' e1 e2;obtain rfl:args=#[x,y]:=by apply Array.ext';exact e1
    obtain rfl:tys=#[t,t']:=by apply Array.ext';exact e2
    unfold TP at hc;split at hc
    ·split at hc
     ·split at hc<;>cases hc;rename_i h1 h2 hu _ k hk zy;exact ai h ho (fun d e=>by unfold IP at zy;rw[e]at zy;simpa using zy) h1 h2 hu hk hs
     ·cases hc
    ·cases hc
   ·rename_i x t e1 e2;obtain rfl:args=#[x]:=by apply Array.ext';exact e1
    obtain rfl:tys=#[t]:=by apply Array.ext';exact e2
    unfold TQ at hc;split at hc
    ·split at hc
     ·split at hc
      ·split at hc
       ·split at hc<;>cases hc;rename_i h1 hu _ i hi _ z hz _ zi w9 jf;rw[Bool.and_eq_true]at jf;exact ao h ho (fun d e=>by have zy:=jf.1;unfold IP at zy;rw[e]at zy;simpa using zy) h1 hu hi hz w9 jf.2 hs
       ·cases hc
      ·cases hc
     ·cases hc
    ·cases hc
   ·cases hc
  ·split at hc
   ·rename_i fv _ i hci;cases hc;unfold TV at hci;split at hci
    ·split at hci
     ·split at hci
      ·split at hci<;>cases hci;rename_i hd ha ht _ _ os e zJ hu _ k hk jf;simp only[Bool.and_eq_true,decide_eq_true_eq]at jf;exact ZC h jf.1.1 ho (Ap hd).1 (Ap hd).2 jf.1.2 ha zJ hs
      ·cases hci
     ·cases hci
    ·cases hci
   ·split at hc
    ·rename_i _ _ i hco;cases hc;unfold TW at hco;split at hco
     ·split at hco<;>cases hco;rename_i os hd zJ _ jf;simp only[Bool.and_eq_true,decide_eq_true_eq]at jf;exact ZB h jf.1.1 ho (Ap hd).1 (Ap hd).2 jf.1.2 zJ hs
     ·cases hco
    ·unfold TH at hc;split at hc
     ·rename_i os zJ;split at hc
      ·rename_i hdd0;rw[Bool.and_eq_true]at hdd0;obtain⟨zy,hn9⟩:=hdd0;have hn9:n<=999:=by simpa using hn9
       have qg:∀d,o.dst=some d->d<n:=fun d e=>by unfold IP at zy;rw[e]at zy;simpa using zy
       split at hc
       ·split at hc<;>cases hc;rename_i xh;exact SO h xh ho qg hn9 zJ hs
       ·split at hc<;>cases hc;rename_i hf;exact ZD h ho qg hn9 hf zJ hs
      ·cases hc
     ·cases hc
  ·cases hc
 ·unfold TI at hc;have opt:∀{x:Option Operand} {y:Option O},L8 GL x=some y->x.map (cO GL)=y.map some:=fun{x y} hxy=>by
   cases x with
   |none=>simp[L8]at hxy;subst hxy;rfl
   |some x=>simp only[L8,Option.map_eq_some_iff]at hxy;obtain⟨z,h1,rfl⟩:=hxy;simp[h1]
  split at hc
  ·split at hc<;>cases hc;rename_i hd h1 h2 h3 h4 _ k hk;exact ZM h ho (Ap hd).1 (Ap hd).2 h1 (opt h2) (opt h3) h4 hk hs
  ·cases hc
 ·unfold TK at hc;split at hc
  ·split at hc<;>cases hc;rename_i hd h1 _ ls hk;split at hs
   ·exact Z4 h ho rfl (Ap hd).1 (Ap hd).2 hs
   ·exact ZX h ho rfl (Ap hd).1 (Ap hd).2 hs
  ·cases hc
 ·unfold TJ at hc;split at hc
  ·split at hc
   ·split at hc
    ·split at hc<;>cases hc;rename_i hd h1 h2 h3 _ _ ls i hk hi _ z hz _ zi w9;split at hs
     ·exact Z5 h ho (Ap hd).1 (Ap hd).2 h1 h2 h3 hk hi hz w9 hs
     ·exact Tb h ho (Ap hd).1 (Ap hd).2 h1 h2 h3 hk hi hz w9 hs
    ·cases hc
   ·cases hc
  ·cases hc
 ·unfold NR at hc;split at hc
  ·split at hc
   ·split at hc<;>cases hc;rename_i hd h1 h2 h3 h4 _ ls hk _;exact Th h (.inl ho) hd h1 h2 h3 h4 hk hs
   ·cases hc
  ·cases hc
 ·unfold NR at hc;split at hc
  ·split at hc
   ·split at hc<;>cases hc;rename_i hd h1 h2 h3 h4 _ ls hk _;exact Th h (.inr ho) hd h1 h2 h3 h4 hk hs
   ·cases hc
  ·cases hc
 ·unfold TL at hc;split at hc
  ·split at hc
   ·split at hc
    ·split at hc<;>cases hc;rename_i hd h1 h2 h3 _ _ ls i hk hi _ z hz _ zi w9;exact Z8 h ho (Ap hd).1 (Ap hd).2 h1 h2 h3 hk hi hz w9 hs
    ·cases hc
   ·cases hc
  ·cases hc
 ·unfold TM at hc;split at hc<;>cases hc;rename_i hd h1 h2 h3;exact Z9 h ho hd h1 h2 h3 hs
 ·unfold TN at hc;split at hc
  ·split at hc
   ·split at hc
    ·split at hc
     ·split at hc<;>cases hc;rename_i _ _ _ d e ox hd hu hx _ i hi _ z hz _ zi w9 jf;obtain⟨hxy,js⟩:=jf;obtain rfl:=aw hxy;exact ap h ho (Ap hd).1 (Ap hd).2 hx hu hi hz w9 js hs
     ·cases hc
    ·cases hc
   ·cases hc
  ·cases hc
 ·unfold TR at hc;split at hc<;>cases hc;rename_i hd h1 h2;exact ZY h ho (Ap hd).1 (Ap hd).2 h1 h2 hs
 ·unfold TS at hc;split at hc<;>cases hc;rename_i hd h1;exact Z0 h ho (Ap hd).1 (Ap hd).2 h1 hs
 ·unfold TT at hc;split at hc<;>cases hc;rename_i hd h1;exact Z1 h ho (Ap hd).1 (Ap hd).2 h1 hs
 ·cases hc
end
end Go.Dl
