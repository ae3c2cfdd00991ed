/-Lemmas.-/
import Derived.Test.YtkhlddbmhehbbaaGreatDoorU16
import Derived.Shelf.Spec.BitsCarry
set_option linter.all false
set_option maxRecDepth 100000
set_option maxHeartbeats 8000000
namespace Go.Proofs.YtkhlddbmhehbbaaGreatDoor
open Go Go.Dl Go.As Go.Proofs
variable {mx:Int}
attribute[local irreducible] Ah Ai MC W2 EM ev evD step Ad
section
def eqL{α β:Type}(p:α->β->Bool):List α->List β->Bool
 |[],[]=>true
 |x::a,y::b=>p x y&&eqL p a b
 |_,_=>false
theorem eqL_len{α β:Type}{p:α->β->Bool}:∀{a:List α} {b:List β},a.length≠b.length->eqL p a b=false
 |[],[],h=>(h rfl).elim
 |[],_::_,_=>rfl
 |_::_,[],_=>rfl
 |x::a,y::b,h=>by simp only[eqL];rw[eqL_len (by simpa using h),Bool.and_false]
theorem Uq{α:Type}[DecidableEq α]{p:α->α->Bool}(hp:∀x y,p x y=decide (x=y)):∀a b:List α,eqL p a b=decide (a=b)
 |[],[]=>by simp[eqL]
 |[],_::_=>by simp[eqL]
 |_::_,[]=>by simp[eqL]
 |x::a,y::b=>by simp only[eqL,hp,Uq hp a b];rw[Bool.eq_iff_iff];simp
theorem El{α:Type}[Inhabited α]{l:List α}{i:Nat}(h:i<l.length):l.drop i=l.getD i default::l.drop (i+1):=by simp_all
theorem HU{α β:Type}[Inhabited α][Inhabited β]{p:α->β->Bool}{a:List α}{b:List β}{i:Nat}{q:Bool}(h:q=eqL p (a.drop i) (b.drop i))(ha:i<a.length)(hb:i<b.length):
  q=(p (a.getD i default) (b.getD i default)&&eqL p (a.drop (i+1)) (b.drop (i+1))):=by
 rw[h,El ha,El hb,eqL]
theorem HV{α β:Type}{p:α->β->Bool}{a:List α}{b:List β}{i:Nat}{q:Bool}(h:q=eqL p (a.drop i) (b.drop i))(ha:a.length<=i)(hb:b.length<=i):q=true:=by rw[h,List.drop_of_length_le ha,List.drop_of_length_le hb,eqL]
theorem JH{q c r:Bool}(h:q=(c&&r))(hc:(!c)=true):false=q:=by grind
theorem IH{q c r:Bool}(h:q=(c&&r))(hc:(!c)=false):q=r:=by grind
def Gb(x y:Fac):Bool:=x.name==y.name&&x.exp==y.exp
def CJ(x y:Val):Bool:=x.kind==y.kind&&(x.n==y.n&&x.s==y.s)
theorem ZD(x y:Fac):Gb x y=decide (x=y):=by cases x;cases y;rw[Bool.eq_iff_iff];simp[Gb]
theorem ZE(x y:Val):CJ x y=decide (x=y):=by cases x;cases y;rw[Bool.eq_iff_iff];simp[CJ]
theorem ZF(a b:List Fac)(ha:a.length<=1073741824)(hb:b.length<=1073741824):Is mx 181 [.sl (a.map Aw),.sl (b.map Aw)] (.bool (eqL Gb a b)):=by
 refine MX nM ?_;refine WB (cj ?_ ?_)
 ·intro _ _;exact congrArg I.bool (eqL_len (by omega)).symm
 ·intro h h';refine lS [0,1] (fun i=>[(5,.i (iI i))]) (fun _=>[]) (fun i=>eqL Gb a b=eqL Gb (a.drop i) (b.drop i)) a.length ?_;intro i hi jb;by_cases ja:i<a.length
  ·have jt:i<b.length:=by omega
   have jh:=HU jb ja jt;have hma:=AA ja;have hmb:=AA jt;refine Ka (cj (Cq ja) (Cq jt)) (cj ?_ ?_)
   ·intro h h';exact congrArg I.bool (JH jh h)
   ·intro h h';exact IH jh h
  ·refine Hw (Ih ja) ?_;exact congrArg I.bool (HV jb (by omega) (by omega)).symm
theorem tH(a b:List Val)(ha:a.length<=1073741824)(hb:b.length<=1073741824):Is mx 114 [.sl (a.map Bn),.sl (b.map Bn)] (.bool (eqL CJ a b)):=by
 refine MX rz ?_;refine WB (cj ?_ ?_)
 ·intro _ _;exact congrArg I.bool (eqL_len (by omega)).symm
 ·intro h h';refine lS [0,1] (fun i=>[(5,.i (iI i))]) (fun _=>[]) (fun i=>eqL CJ a b=eqL CJ (a.drop i) (b.drop i)) a.length ?_;intro i hi jb;by_cases ja:i<a.length
  ·have jt:i<b.length:=by omega
   have jh:=HU jb ja jt;have hma:=AA ja;have hmb:=AA jt;refine Ka (cj (Cq ja) (Cq jt)) (cj ?_ ?_)
   ·intro h h';exact congrArg I.bool (JH jh h)
   ·intro h h';exact IH jh h
  ·refine Hw (Ih ja) ?_;exact congrArg I.bool (HV jb (by omega) (by omega)).symm
theorem tI(a b:List Val)(ha:a.length<=1073741824)(hb:b.length<=1073741824):Is mx 123 [.sl (a.map Bn),.sl (b.map Bn)] (.bool (eqL CJ a b)):=by
 refine MX rB ?_;refine WB (cj ?_ ?_)
 ·intro _ _;exact congrArg I.bool (eqL_len (by omega)).symm
 ·intro h h';refine lS [0,1] (fun i=>[(5,.i (iI i))]) (fun _=>[]) (fun i=>eqL CJ a b=eqL CJ (a.drop i) (b.drop i)) a.length ?_;intro i hi jb;by_cases ja:i<a.length
  ·have jt:i<b.length:=by omega
   have jh:=HU jb ja jt;have hma:=AA ja;have hmb:=AA jt;refine Ka (cj (Cq ja) (Cq jt)) (cj ?_ ?_)
   ·intro h h';exact congrArg I.bool (JH jh h)
   ·intro h h';exact IH jh h
  ·refine Hw (Ih ja) ?_;exact congrArg I.bool (HV jb (by omega) (by omega)).symm
def Mp(a b:Typ):Bool:=decide (a.kind=b.kind)&&decide (a.of=b.of)&&eqL Gb a.unit b.unit
theorem ZG(a b:Typ)(ha:a.unit.length<=1073741824)(hb:b.unit.length<=1073741824):Is mx 124 [.agg (Ar a),.agg (Ar b)] (.bool (Mp a b)):=by
 refine MX nC ?_
 (repeat' first|exact Av _|simp only[go_sem,simprocAttr]|refine' AD (fun hq=>?_) (fun f=>?_)<;>try(have je:=hq;try simp only[HB]at je)|refine Ab (ZF _ _ ha hb) ?_|refine Sz.s ?_|fail)
 all_goals rfl
theorem Rt{q g r:Bool}(h:q=(!g&&r))(hg:g=true):false=q:=by grind
theorem Ru{q g r:Bool}(h:q=(!g&&r))(hg:g=false):q=r:=by grind
mutual
def gh:Xpr->Xpr->Bool
 |.mk k o n t v u p w a,y=>!(decide (k≠y.kind)||decide (o≠y.op)||decide (n≠y.name)||decide (t≠y.table)||!CJ v y.val||decide (p≠y.param)||!(w.kind==y.win.kind&&w.size==y.win.size)||decide ((a.length:Int)≠y.args.length)||!eqL Gb u y.unit)&&eqXs a y.args
def eqXs:List Xpr->List Xpr->Bool
 |[],[]=>true
 |x::a,y::b=>gh x y&&eqXs a b
 |_,_=>false
end
theorem ZH:∀a b:List Xpr,eqXs a b=eqL gh a b
 |[],[]=>rfl
 |[],_::_=>rfl
 |_::_,[]=>rfl
 |x::a,y::b=>by simp only[eqXs,eqL,ZH a b]
theorem Px(x y:Xpr):gh x y=(!(decide (x.kind≠y.kind)||decide (x.op≠y.op)||decide (x.name≠y.name)||decide (x.table≠y.table)||!CJ x.val y.val||decide (x.param≠y.param)||!(x.win.kind==y.win.kind&&x.win.size==y.win.size)||decide ((x.args.length:Int)≠y.args.length)||!eqL Gb x.unit y.unit)&&eqL gh x.args y.args):=by cases x;cases y;simp only[gh,ZH,Xpr.kind,Xpr.op,Xpr.name,Xpr.table,Xpr.val,Xpr.unit,Xpr.param,Xpr.win,Xpr.args];rfl
theorem tJ:∀(m:Nat) (a b:Xpr),Bs a<=m->bX a<=1073741824->bX b<=1073741824->Is mx 125 [.agg (eE a),.agg (eE b)] (.bool (gh a b)):=by
 intro m
 induction m with
 |zero=>intro a b h;have:=Fs a;omega
 |succ m ih=>
  intro a b hm hA hB;have hua:a.unit.length<=1073741824:=by grind[ID]
  have hub:b.unit.length<=1073741824:=by grind[ID]
  have hla:a.args.length<=1073741824:=by grind[Mh]
  have j0:=Ej a;refine MX oO ?_;refine Dp @ZF (cj ?_ ?_)
  ·intro h h';exact congrArg I.bool (Rt (Px a b) h)
  ·intro h h';have jd:a.args.length=b.args.length:=by omega
   rw[Ru (Px a b) h];refine lS [2,3] (fun i=>[(5,.i (iI i))]) (fun _=>[]) (fun i=>eqL gh a.args b.args=eqL gh (a.args.drop i) (b.args.drop i)) a.args.length ?_;intro i hi jb;by_cases ja:i<a.args.length
   ·have jt:i<b.args.length:=by omega
    have jh:=HU jb ja jt;have h1:=ih (a.args.getD i default) (b.args.getD i default) (by have:=Hd a.args i ja;have:=Fr a.args (i+1);rw[AS ja];omega) (by have:=Fu (AA ja);omega) (by have:=Fu (AA jt);omega);refine Ka (cj h1 (cj (Cq ja) (Cq jt))) (cj ?_ ?_)
    ·intro h h';exact congrArg I.bool (JH jh h)
    ·intro h h';exact IH jh h
   ·refine Hw (Ih ja) ?_;exact congrArg I.bool (HV jb (by omega) (by omega)).symm
end
section
theorem JI{α:Type}[Inhabited α]{p:α->Bool}:∀{l:List α} {i:Nat},(l.take i).all p=true->i<=l.length->(i=l.length\/p (l.getD i default)=false)->(l.takeWhile p).length=i
 |[],i,_,hi,_=>by simp_all
 |a::l,0,_,_,hs=>by simp_all
 |a::l,i+1,h,hi,hs=>by simp only[List.take_succ_cons,List.all_cons,Bool.and_eq_true]at h;rw[List.takeWhile_cons,if_pos h.1,List.length_cons,JI h.2 (by simpa using hi) (by simpa using hs)]
def HW(l:List AT)(s:AT):Nat:=(l.takeWhile fun y=>Op.bytesLess y s).length
theorem tK(l:List AT)(s:AT):HW l s<=l.length:=List.Sublist.length_le (List.takeWhile_sublist _)
def B6(l:List AT)(s:AT):List AT:=if HW l s<l.length/\l.getD (HW l s) default=s then l else l.take (HW l s)++[s]++l.drop (HW l s)
theorem Ur(l:List AT)(s:AT):(B6 l s).length<=l.length+1:=by grind[B6]
abbrev BS(s:AT):List I:=[.str s]
theorem Rv(l:List AT):(∀r∈l.map BS,r.length=1)=True:=eq_true (by simp)
theorem Rx(l:List AT):(∀r∈l.map BS,r.all I.one=true)=True:=eq_true (by simp[I.one])
theorem Py(s:AT):(∀r∈[[I.str s]],r.length=1)=True:=eq_true (by simp)
theorem Pz(s:AT):(∀r∈[[I.str s]],r.all I.one=true)=True:=eq_true (by simp[I.one])
def Em(out:List AT):List Fac->List AT
 |[]=>out
 |f::r=>Em (B6 out f.name) r
def nmS(b:Bool)(n:Nat):D:=if b=true then .ref (.sl 6 1 0 n)else .ref (.sl 3 1 0 n)
def nmB(b:Bool)(l:List AT):List (Nat×Blk):=if b=true then[(6,.rows 9 1 (l.map BS)),(2,.rows 9 1 [])]else[(3,.rows 9 1 (l.map BS)),(2,.rows 9 1 [])]
theorem tL(l:List Fac)(hl:l.length<=1000):Is mx 351 [.sl (l.map Aw)] (.sl ((Em [] l).map BS)):=by
 refine MX rh ?_
 (repeat' first|simp(disch:=omega)only[go_sem,reduceCtorEq,Nat.reduceEqDiff]|fail)
 refine BG [0] (by simp only[V0,MQ,reduceIte,Nat.reduceEqDiff];rfl) (fun g:Bool×Nat×List AT=>[(3,nmS g.1 g.2.2.length),(4,.i (iI g.2.1))]) (fun g=>nmB g.1 g.2.2)
  (fun g=>g.2.1<=l.length/\Em g.2.2 (l.drop g.2.1)=Em [] l/\g.2.2.length<=g.2.1/\(g.1=false->g.2.2=[])) (fun g=>l.length-g.2.1) (false,0,[]) (by simp) (by simp[nmS,nmB,V0,I9,L9,Ref.nm]) ?_
 rintro⟨b,i,out⟩ ⟨hi,hn,hol,hb⟩;simp only at hi hn hol hb;by_cases ja:i<l.length
 ·have wh:=tK out (l.getD i default).name;rw[El ja,Em]at hn;cases b
  ·obtain rfl:=hb rfl;have jo:B6 [] (l.getD i default).name=[(l.getD i default).name]:=by rfl
   rw[jo]at hn;simp only[nmS,nmB];refine By (Cq ja) ?_;refine lT [0,3,4] (fun k:Nat=>[(5,.i (iI k))]) (fun _=>[(3,.rows 9 1 []),(2,.rows 9 1 [])]) (fun k=>k=0) (fun k=>k) 0 ?_ rfl;rintro k rfl
   (repeat' first|simp(disch:=omega)only[go_sem,reduceCtorEq,Int.reduceLE,Nat.reduceAdd,Nat.reduceMul,Nat.reduceEqDiff,Nat.reduceLeDiff,Cq ja,Nat.zero_add,Nat.sub_zero,List.length_nil,Int.lt_irrefl]|refine Ae ?_|refine AG ?_|(refine And.intro ?_ ?_;focus omega))
   refine⟨by simp,by simp,by simp,by simp[I.one],by simp,by simp,by simp,by simp,(true,i+1,[(l.getD i default).name]),⟨by show i+1<=_;omega,hn,by show 1<=i+1;omega,by simp⟩,by show l.length-(i+1)<_;omega,?_⟩;simp[V0,I9,L9,Ref.nm]
  ·skip
   simp only[nmS,nmB];refine By (Cq ja) ?_;refine lT [0,3,4] (fun k:Nat=>[(5,.i (iI k))]) (fun _=>[(6,.rows 9 1 (out.map BS)),(2,.rows 9 1 [])]) (fun k=>k<=out.length/\(out.take k).all (fun y=>Op.bytesLess y (l.getD i default).name)=true) (fun k=>out.length-k) 0 ?_ (by simp);rintro k ⟨hk,jg⟩;by_cases jk:k<out.length
   ·cases km:Op.bytesLess (out.getD k default) (l.getD i default).name
    ·have ku:HW out (l.getD i default).name=k:=JI jg hk (.inr km);by_cases vz:out.getD k default=(l.getD i default).name
     ·have jo:B6 out (l.getD i default).name=out:=if_pos (by rw[ku];exact⟨jk,vz⟩);rw[jo]at hn
      (repeat' first|simp(disch:=omega)only[go_sem,reduceCtorEq,Nat.reduceAdd,Nat.reduceEqDiff,Nat.reduceLeDiff,Cq ja,Cq jk,km,eq_true vz,Nat.zero_add,Nat.sub_zero]|refine Ae ?_|refine AG ?_|(refine And.intro ?_ ?_;focus omega))
      refine⟨(true,i+1,out),⟨by show i+1<=_;omega,hn,by show out.length<=i+1;omega,by simp⟩,by show l.length-(i+1)<_;omega,?_⟩;simp[V0,I9,L9,Ref.nm]
     ·have jo:B6 out (l.getD i default).name=_:=if_neg (by rw[ku];rintro⟨_,h⟩;exact vz h);rw[ku]at jo;rw[jo]at hn;have vm:min k out.length=k:=by omega
      have hleT:(k<=out.length)=True:=eq_true (by omega)
      (repeat' first|simp(disch:=omega)only[go_sem,reduceCtorEq,Int.reduceLE,Nat.reduceAdd,Nat.reduceEqDiff,Nat.reduceLeDiff,Cq ja,Cq jk,km,eq_false vz,<-List.map_take,<-List.map_drop,Rv,Rx,Py,Pz,List.length_map,List.length_take,List.length_drop,Nat.zero_add,Nat.sub_zero,Nat.min_self,List.take_length,List.take_take,vm]|refine Ae ?_|refine AG ?_|(refine And.intro ?_ ?_;focus omega))
      refine⟨(true,i+1,out.take k++[(l.getD i default).name]++out.drop k),⟨by show i+1<=_;omega,hn,by simp;omega,by simp⟩,by show l.length-(i+1)<_;omega,?_⟩;have jd:(out.take k++[(l.getD i default).name]++out.drop k).length=k+1+(out.length-k):=by simp;omega
      simp[V0,I9,L9,Ref.nm,vm];refine⟨by omega,?_⟩;rw[List.take_of_length_le (by simp;omega),List.append_assoc];rfl
    ·refine ne (cj (Cq ja) (cj (Cq jk) km)) ?_;exact⟨k+1,⟨by omega,BR (d:=default) jg jk km⟩,by omega,rfl⟩
   ·have ku:HW out (l.getD i default).name=k:=JI jg hk (.inl (by omega));have jo:B6 out (l.getD i default).name=_:=if_neg (by rw[ku];omega);rw[ku]at jo;rw[jo]at hn;have vm:min k out.length=k:=by omega
    have hleT:(k<=out.length)=True:=eq_true (by omega)
    (repeat' first|simp(disch:=omega)only[go_sem,reduceCtorEq,Int.reduceLE,Nat.reduceAdd,Nat.reduceEqDiff,Nat.reduceLeDiff,Cq ja,Ih jk,<-List.map_take,<-List.map_drop,Rv,Rx,Py,Pz,List.length_map,List.length_take,List.length_drop,Nat.zero_add,Nat.sub_zero,Nat.min_self,List.take_length,List.take_take,vm]|refine Ae ?_|refine AG ?_|(refine And.intro ?_ ?_;focus omega))
    refine⟨(true,i+1,out.take k++[(l.getD i default).name]++out.drop k),⟨by show i+1<=_;omega,hn,by simp;omega,by simp⟩,by show l.length-(i+1)<_;omega,?_⟩;have jd:(out.take k++[(l.getD i default).name]++out.drop k).length=k+1+(out.length-k):=by simp;omega
    simp[V0,I9,L9,Ref.nm,vm];refine⟨by omega,?_⟩;rw[List.take_of_length_le (by simp;omega),List.append_assoc];rfl
 ·have e:i=l.length:=by omega
  rw[e,List.drop_length,Em]at hn;cases b
  ·obtain rfl:=hb rfl;simp only[nmS,nmB];refine By (Ih ja) ?_;rw[<-hn];rfl
  ·simp only[nmS,nmB];have jj:(out.length<=out.length)=True:=eq_true (by omega);have ke:(out.map BS).take out.length=out.map BS:=List.take_of_length_le (by simp);refine By (cj (Ih ja) (cj jj ke)) ?_;rw[hn]
end
section
theorem tM:∀(m:Nat) (x:Xpr) (inside:Bool),bX x<=m->bX x<=1073741824->Is mx 243 [.agg (eE x),.bool inside] (.bool (HS x inside)):=by
 intro m
 induction m with
 |zero=>intro x inside h;have:=HQ x;omega
 |succ m ih=>
  intro x inside hm hu;have hu:=ID x;have jd:=Mh x;refine MX sd ?_;refine OG ?_;refine cutS [2,5] (by simp only[V0,MQ,reduceIte,Nat.reduceEqDiff];rfl) [(1,.i (.bool (inside||decide (x.kind=5)))),(6,.i (iI (JF x.kind)))] [(5,.cells ((eE (Gz x)).map .i))] (IE x inside=true) ?_ (fun h1=>?_)
  ·(repeat' first|exact Av _|simp(disch:=omega)only[go_sem,simprocAttr,GLe]|refine' AD (fun hq=>?_) (fun f=>?_)<;>try(have je:=hq;try simp only[HB]at je)|refine Sx.s ?_ ?_<;>try(intro h;have h':=h;try simp only[HB]at h';try rewrite [h];try simp only[h])|refine Ab (Ud _) ?_|refine Ab (Rk ⟨x.val.kind,x.unit,x.name⟩ (by show x.unit.length<=_;omega)) ?_|refine Ab (FZ _) ?_|refine Ab (sU _ _ (by decide)) ?_|refine Ae ?_|refine AG ?_|refine Sz.s ?_|(refine And.intro ?_ ?_;focus omega))
   all_goals first
    |(rw[Mj];have e:IE x inside=false:=by simp only[IE,Rl,Rm,Pt,BA,Pr,Ps,JG,He];grind
      rw[e];rfl)
    |(and_intros<;>first
      |rfl
      |(simp only[IE,Rl,Rm,Pt,BA,Pr,Ps,JG,He];grind)
      |(simp_all[JF,Gz,HP,Xpr.kind,Xpr.op,Xpr.name,Xpr.table,Xpr.val,Xpr.unit,Xpr.param,Xpr.win,Xpr.args];done))
  refine Dp @Zh (cj ?_ ?_)
  ·intro _ _;refine congrArg I.bool ?_;rw[Mj,h1,Mi];grind
  ·intro h h';have hb:Mi x=true:=by rw[Mi];grind
   have hl:(x.args.length:Int)=JF x.kind:=by grind
   refine lS [1,2,186,187] (fun i=>[(188,.i (iI i))]) (fun _=>[]) (fun i=>properXs (x.args.take i) (inside||decide (x.kind=5))=true) x.args.length ?_ rfl;intro i hi jb;by_cases ja:i<x.args.length
   ·have kl:=AA ja;have hba:=Fu kl;have i1:=ih (x.args.getD i default) (inside||decide (x.kind=5)) (by omega) (by omega);refine Ka (cj i1 (Cq ja)) (cj ?_ ?_)
    ·intro _ _;refine congrArg I.bool ?_;rw[Mj,Rn];have:(x.args.all fun y=>HS y (inside||decide (x.kind=5)))=false:=by grind
     rw[this];simp
    ·intro h h';rw[Rn]at jb⊢;exact BR (d:=default) jb ja h'
   ·have e:i=x.args.length:=by omega
    rw[e,List.take_length]at jb;refine Dp (Ih ja) (cj ?_ ?_)
    ·intro h h';have hk:x.kind=5:=h'.2;have hl2:x.args.length=2:=by grind[JF]
     have qp:=ID (x.args.getD 0 default);have hba:=Fu (AA (l:=x.args) (n:=0) (by omega));have ko:=Zh (mx:=mx) (x.args.getD 0 default) Fw (by omega);have e1:eE Fw=[.int .i64 1,.str [],.str [],.str [],.int .i64 1,.int .i64 1,.str [],.sl [],.int .i64 0,.int .i64 0,.int .i64 0,.sl []]:=by rfl
     rw[e1]at ko;refine Ka ko ?_;refine congrArg I.bool ?_;rw[Mj,h1,hb,jb];simp[hl,HR,h']
    ·intro _ _;refine congrArg I.bool ?_;rw[Mj,h1,hb,jb];simp only[hl,HR];grind
theorem Us(x:Xpr)(hx:bX x<=1073741824):Is mx 193 [.agg (eE x)] (iI (IF x)):=by
 have hs:=NF x;refine MX rO ?_
 (repeat' first|exact Av _|simp(disch:=omega)only[go_sem,simprocAttr]|refine' AD (fun hq=>?_) (fun f=>?_)<;>try(have je:=hq;try simp only[HB]at je)|refine Sx.s ?_ ?_<;>try(intro h;have h':=h;try simp only[HB]at h';try rewrite [h];try simp only[h])|refine Ab (sX _ _ (Nat.le_refl _) (by omega)) ?_|refine Ab (sZ _ _ (Nat.le_refl _) (by omega)) ?_|refine Ab (tM _ _ _ (Nat.le_refl _) (by omega)) ?_|refine Ae ?_|refine Sz.s ?_|fail)
 all_goals(refine congrArg (I.int .i64) ?_;simp only[IF];grind)
end
section
theorem NL(x:Int):IntKind.u64.wrap x=x%18446744073709551616:=by rfl
theorem ZI(x:Int):IntKind.i64.wrap x=(x+9223372036854775808)%18446744073709551616-9223372036854775808:=by simp[IntKind.wrap,IntKind.signed,IntKind.bits];omega
abbrev iU(n:Int):I:=.int .u64 n
def Dh(n:Int):List I:=[iI (n/18446744073709551616),iU (n%18446744073709551616)]
theorem ZJ(n:Int)(h:-9223372036854775808<=n/\n<=9223372036854775807):Is mx 354 [iI n] (.agg (Dh n)):=by
 refine MX pK ?_;have e1:n.fdiv (2 ^ Nat.min 63 64)=n/18446744073709551616:=by grind
 have e2:=NL n
 (repeat' first|simp only[go_sem,simprocAttr,shV,IntKind.bits,e1,e2,Dh]|refine Sz.s ?_|fail)
 all_goals rfl
theorem ZK{M:Mem}{x y z:I}{vs:Array Value}(h:Ak M [x,y,z] vs.toList):∃v u t,vs=#[v,u,t]/\Rep M x v/\Rep M y u/\Rep M z t:=by
 obtain⟨hl,hr⟩:=h;obtain⟨l⟩:=vs
 match l,hl with
 |[v,u,t],_=>exact⟨v,u,t,rfl,hr 0 (by simp) (by simp),hr 1 (by simp) (by simp),hr 2 (by simp) (by simp)⟩
theorem NM{M:Mem}{k:IntKind}{n:Int}{v:Value}(h:Rep M (.int k n) v):v=.int k n:=by cases h;rfl
theorem ZL{M:Mem}{k k':IntKind}(a b:Int):Rep M (.tup [.int k a,.int k' b]) (.tuple #[.int k a,.int k' b]):=
 Rep.tup' (Ak.cons (.int _ _) (Ak.cons (.int _ _) (Ak.nil M)))
theorem tN(x y c:Int)(hx:0<=x)(hy:0<=y)(hc:0<=c/\c<=1):Is mx 360 [iU x,iU y,iU c] (.tup [iU ((x+y+c)%18446744073709551616),iU ((x+y+c)/18446744073709551616)]):=by
 refine Yz fun M w vs h=>?_
 obtain⟨v,u,t,rfl,hv,hu,ht⟩:=ZK h;rw[NM hv,NM hu,NM ht];refine⟨_,ZL _ _,?_⟩;rw[run_callFunc_extern Tryz.func360 (by kernel_rfl) (by kernel_rfl) (by kernel_rfl) (e:=add64Entry) (by kernel_rfl),run_add64 x y c hx hy hc.1 hc.2];rfl
theorem tP(x y b:Int)(hx:0<=x)(hy:0<=y)(hb:0<=b/\b<=1)(hy2:y<18446744073709551616):Is mx 375 [iU x,iU y,iU b] (.tup [iU ((x-y-b)%18446744073709551616),iU (if x<y+b then 1 else 0)]):=by
 refine Yz fun M w vs h=>?_
 obtain⟨v,u,t,rfl,hv,hu,ht⟩:=ZK h;rw[NM hv,NM hu,NM ht];refine⟨_,ZL _ _,?_⟩;obtain⟨X,rfl⟩:=Int.eq_ofNat_of_zero_le hx;obtain⟨Y,rfl⟩:=Int.eq_ofNat_of_zero_le hy;obtain⟨B,rfl⟩:=Int.eq_ofNat_of_zero_le hb.1;rw[run_callFunc_extern Tryz.func375 (by kernel_rfl) (by kernel_rfl) (by kernel_rfl) (e:=sub64Entry) (by kernel_rfl),run_sub64 X Y B (by omega)];have e1:(((X+18446744073709551616-Y-B)%18446744073709551616:Nat):Int)=((X:Int)-Y-B)%18446744073709551616:=by omega
 have e2:((if X<Y+B then 1 else 0:Nat):Int)=if(X:Int)<Y+B then 1 else 0:=by grind
 simp_all
theorem tQ(a b:Int)(ha:-42535295865117307932921825928971026432<=a/\a<=42535295865117307932921825928971026432)(hb:-42535295865117307932921825928971026432<=b/\b<=42535295865117307932921825928971026432):
  Is mx 353 [.agg (Dh a),.agg (Dh b)] (.agg (Dh (a+b))):=by
 refine MX oE ?_;simp only[Dh];refine Dp (cj @tN @NL) ?_;simp only[ZI,iI,I.agg.injEq,List.cons.injEq,I.int.injEq,true_and,and_true];omega
theorem tU(a b:Int)(ha:-42535295865117307932921825928971026432<=a/\a<=42535295865117307932921825928971026432)(hb:-42535295865117307932921825928971026432<=b/\b<=42535295865117307932921825928971026432):
  Is mx 373 [.agg (Dh a),.agg (Dh b)] (.agg (Dh (a-b))):=by
 refine MX sK ?_;simp only[Dh];refine Dp (cj @tP @NL) ?_;simp only[ZI,iI,I.agg.injEq,List.cons.injEq,I.int.injEq,true_and,and_true];split<;>omega
theorem tV(a:Int)(ha:-42535295865117307932921825928971026432<=a/\a<=42535295865117307932921825928971026432):Is mx 370 [.agg (Dh a)] (.agg (Dh (-a))):=by refine MX oH ?_;have h:=tU (mx:=mx) 0 a (by omega) ha;rw[show(0:Int)-a=-a by omega]at h;simp only[Dh,Int.zero_ediv,Int.zero_emod]at h⊢;exact Dp h trivial
def Cv(n:Int):Int:=if n<0 then-n else n
theorem ZM(a:Int)(ha:-42535295865117307932921825928971026432<=a/\a<=42535295865117307932921825928971026432):Is mx 361 [.agg (Dh a)] (.agg [iU (Cv a%18446744073709551616),iU (Cv a/18446744073709551616)]):=by
 refine MX sH ?_;have hN:=tV (mx:=mx) a ha;simp only[Dh]at hN⊢
 (repeat' first|simp only[go_sem,simprocAttr,NL]|refine Sx.s ?_ ?_<;>try(intro h;have h':=h;try simp only[HB]at h';try rewrite [h];try simp only[h])|refine Ab (hN) ?_|refine Ae ?_|refine Sz.s ?_|fail)
 all_goals
  simp only[I.agg.injEq,List.cons.injEq,I.int.injEq,true_and,and_true,Cv]
  (try split)<;>omega
theorem tW(lo y:Int)(hl:0<=lo/\lo<18446744073709551616)(hy:0<y/\y<18446744073709551616):Is mx 362 [iU 0,iU lo,iU y] (.tup [iU (lo/y),iU (lo%y)]):=by
 refine MX oG ?_;have e1:decide (y=0)=false:=by simp;omega
 have e2:decide (y<=0)=false:=by simp;omega
 have e3:y≠0:=by omega
 have e4:lo.tdiv y=lo/y:=by grind
 have e5:lo.tmod y=lo%y:=by grind
 have e6:IntKind.u64.wrap (lo/y)=lo/y:=by rw[NL];have h1:=Int.ediv_nonneg hl.1 (Int.le_of_lt hy.1);have h2:=Int.ediv_le_self y hl.1;omega
 exact By (cj e2 (cj e3 (cj e4 (cj e5 e6)))) trivial
theorem ZN(a:Int)(ha:-42535295865117307932921825928971026432<=a/\a<=42535295865117307932921825928971026432):
  Is mx 356 [.agg (Dh a),iI 1] (.tup [iI (if Cv a<=1152921504606846976 then a else 0),.bool (decide (Cv a<=1152921504606846976))]):=by
 refine MX sG ?_;have hS:=ZM (mx:=mx) a ha;have hS1:=ZM (mx:=mx) 1 (by omega);have hO:=ZJ (mx:=mx) 1 (by omega);have hab:0<=Cv a:=by grind[Cv]
 have hab2:Cv a<=42535295865117307932921825928971026432:=by grind[Cv]
 simp only[Dh,show Cv 1=1 from rfl,Int.reduceMod,Int.reduceDiv]at hS hS1 hO⊢;by_cases hb:Cv a/18446744073709551616=0
 ·have e1:Cv a%18446744073709551616=Cv a:=by omega
  have hD:=tW (mx:=mx) (Cv a%18446744073709551616) 1 (by omega) (by omega);rw[e1]at hD hS;simp only[Int.ediv_one,Int.emod_one,hb]at hD hS;have d1:(1:Int)<=0↔False:=by simp
  have hq:a/18446744073709551616<0↔a<0:=by omega
  refine Dp (cj hS (cj hO (cj hS1 (cj hD (cj @NL d1))))) (cj ?_ (cj ?_ ?_))
  ·intro _ _;have:¬Cv a<=1152921504606846976:=by omega
   simp[this]
  ·intro _ _ _ _;have:a<0:=by grind
   have e2:Cv a=-a:=by grind[Cv]
   have e3:Cv a<=1152921504606846976:=by omega
   simp only[e3,if_true,decide_true];rw[e2];try simp
  ·intro _ _ _ _;have:¬a<0:=by grind
   have e2:Cv a=a:=by grind[Cv]
   have e3:Cv a<=1152921504606846976:=by omega
   simp only[e3,if_true,decide_true];rw[e2];try simp
 ·have ko:decide (1<=Cv a/18446744073709551616)=true:=by simp;omega
  refine Dp (cj hS (cj hO (cj hS1 ko))) ?_;have:¬Cv a<=1152921504606846976:=by omega
  simp[this]
end
section
open Go.Sort Go.RowKit in
theorem tX(e:Nat)(ss:List AT)(hl:ss.length<4611686018427387904):
  MC Tryz.prog (OE mx) 251 [.ref (.sl 5000 1 0 ss.length)] [(5000,.rows e 1 (ss.map fun s=>[.str s]))] []
   (fun r s=>r=.i (.tup [])/\s=[(5000,.rows e 1 ((ss.mergeSort fun x y=>decide (x<=y)).map fun s=>[.str s]))]):=by
 delta MC
 intro M μ w vs h1 h2 h3;obtain⟨v,rfl,hN,a,cap,hμ,_,kc,hv⟩:∃v,vs=#[v]/\names [(5000,Blk.rows e 1 (ss.map fun s=>[.str s]))] 5000/\Lo (μ 5000) 1 0 ss.length v:=by
  obtain⟨l⟩:=vs;obtain⟨hl1,hr⟩:=h3
  match l,hl1 with
  |[v],_=>exact⟨v,rfl,hr 0 (by simp) (by simp)⟩
 have k8:De Tryz.prog 251=true:=by kernel_rfl
 by_cases h0:ss=[]
 ·obtain⟨p,c,hvv⟩:∃p c,v=.slice p 0 c:=by
   subst h0;rcases hv with⟨_,a',e⟩|⟨b,o,_,e⟩
   ·exact⟨_,_,e⟩
   ·exact⟨_,_,e⟩
  subst hvv;refine .inl ⟨k8,(Tryz.slices_Sort_string_none p c w).mono ?_⟩;rintro e' w' ⟨rfl,rfl⟩;refine⟨_,rfl,.i (.tup []),_,M,μ,⟨rfl,rfl⟩,?_,AM (Rep.tup' (Ak.nil M)),MExt.refl _ _,Keeps.refl _ _,fun _ _ _=>rfl⟩;subst h0;simpa using h1
 have jx:0<ss.length:=by cases ss;exact(h0 rfl).elim;simp
 rcases hv with⟨rfl,a',rfl⟩|⟨b,o,rfl,rfl⟩
 ·omega
 obtain⟨a1,cap1,e1,hb⟩:=h1.blk 5000 _ rfl;rw[hμ]at e1;injection e1 with e1 e2 e3
 subst e1;subst e3;rcases hb with⟨xa,_⟩|⟨b1,o1,cur,e1,hcp,ho,hm,j0,hln,hk,js⟩
 ·omega
 injection e1 with e1;injection e1 with e1 e2
 subst e1;subst e2;have hbk:An (μ 5000)=some b:=by rw[hμ];simp only[An];rw[if_neg (by omega)]
 have j4:∀j (hj:j<ss.length),cur[o+j]? =some (encStr ss[j]):=fun j hj=>by obtain⟨v,hv,hr⟩:=js j (by simpa using hj) 0 (by simp);simp only[List.getElem_map,List.getElem_cons_zero,Nat.mul_one,Nat.add_zero]at hv hr;rw[hv,T9 hr]
 have hH:Holds encStr w b o ss.toArray:=fun j hj=>by
  have jq:j<ss.length:=by simpa using hj
  refine⟨?_,?_⟩
  ·simp only[World.cell?,ho.heap];rw[j4 j jq];simp[jq]
  ·simp[World.frozen?,ho.heap]
 have jn:=ho.lt;simp only[Nat.zero_mul,Nat.add_zero,Nat.sub_zero];refine .inl ⟨k8,(Tryz.slices_Sort_string b o cap ss w hH jn hl).mono ?_⟩;rintro e' w' ⟨rfl,n,os,rfl⟩;generalize hS:(ss.mergeSort fun x y=>decide (x<=y))=so;have hso:so.length=ss.length:=by rw[<-hS];exact List.length_mergeSort _
 have kn:∀k,k≠b->k<w.heap.size->(grow (putRow encStr (Sort.ahead w n) b o so.toArray) os).heap[k]? =w.heap[k]? :=fun k hk hkl=>by rw[heap_grow_old _ _ (by rw[size_putRow];exact hkl)];simp only[putRow,mapBlock,Sort.ahead,Array.getElem?_modify];rw[if_neg (fun e=>hk e.symm)]
 have hself:(grow (putRow encStr (Sort.ahead w n) b o so.toArray) os).heap[b]? =some (.cells (putCells encStr o so.toArray cur) e (0,0)):=by rw[heap_grow_old _ _ (by rw[size_putRow];exact jn)];simp only[putRow,mapBlock,Sort.ahead,Array.getElem?_modify,if_true];rw[ho.heap];rfl
 have qn:AQ (AN μ [(5000,Blk.rows e 1 (ss.map fun s=>[.str s]))] w) M μ (names (Ch [(5000,Blk.rows e 1 (ss.map fun s=>[.str s]))] 5000 (.rows e 1 (so.map fun s=>[.str s])))) (grow (putRow encStr (Sort.ahead w n) b o so.toArray) os) 5000 (.rows e 1 (so.map fun s=>[.str s])):=by
  refine⟨some ⟨b,o,none⟩,cap,hμ,.inr ⟨b,o,putCells encStr o so.toArray cur,rfl,hcp,⟨ho.low,hself,ho.unk⟩,hm,?_,?_,?_,?_⟩⟩
  ·simp[putCells,j0]
  ·simpa[hso]using kc
  ·intro r hr;obtain⟨s,_,rfl⟩:=List.mem_map.1 hr;rfl
  ·intro i hi j hj;have ja:i<so.length:=by simpa using hi
   have jq:j=0:=by simp at hj;omega
   subst jq;refine⟨encStr so[i],?_,?_⟩
   ·simp only[putCells,Nat.mul_one,Nat.add_zero,Array.getElem?_mapIdx];rw[j4 i (by omega)];simp[ja]
   ·simp only[List.getElem_map,List.getElem_cons_zero];exact Rep.str _
 refine⟨_,rfl,.i (.tup []),[(5000,.rows e 1 (so.map fun s=>[.str s]))],M,μ,⟨rfl,rfl⟩,?_,AM (Rep.tup' (Ak.nil M)),MExt.refl _ _,⟨rfl,rfl,rfl,?_,fun k hk=>kn k ?_ hk.1,?_⟩,fun _ _ _=>rfl⟩
 ·exact h1.setBlk (nm:=5000) (blk':=.rows e 1 (so.map fun s=>[.str s])) rfl hbk (by rw[size_grow,size_putRow];exact Nat.le_add_right _ _) kn qn
 ·rw[size_grow,size_putRow];exact Nat.le_add_right _ _
 ·intro e';subst e';exact hk.2 5000 (by simp[names,Aa]) hbk
 ·exact Nat.le_add_right w.drawn n
theorem Ut(nm e:Nat)(ss:List AT)(hn:nm<5000)(hl:ss.length<4611686018427387904):
  MC Tryz.prog (OE mx) 251 [.ref (.sl nm 1 0 ss.length)] [(nm,.rows e 1 (ss.map fun s=>[.str s]))] []
   (fun r s=>r=.i (.tup [])/\s=[(nm,.rows e 1 ((ss.mergeSort fun x y=>decide (x<=y)).map fun s=>[.str s]))]):=by
 have e1:MS [(5000,nm)] 5000=nm:=by rfl
 have h:=(MC.as [(5000,nm)] (tX (mx:=mx) e ss hl)).mono (R':=fun r s=>r=.i (.tup [])/\s=[(nm,.rows e 1 ((ss.mergeSort fun x y=>decide (x<=y)).map fun s=>[.str s]))]) (by
  rintro r s ⟨h1,h2⟩;have k:=Ex (f:=J6 [(5000,nm)]) (g:=MS [(5000,nm)]) (Cb _) r;have k2:=FQ (f:=J6 [(5000,nm)]) (g:=MS [(5000,nm)]) (Cb _) s;rw[h1]at k;rw[h2]at k2;refine⟨k.symm,?_⟩;rw[<-k2];simp only[J5,MR,e1])
 simp only[List.map_cons,List.map_nil,J8,Qs,J5,MR,e1]at h;exact h
end
section
def CK(l:List AT):List AT:=l.mergeSort fun x y=>decide (x<=y)
def PA(p:AT×I):I×I:=(.str p.1,p.2)
abbrev Fx(s:AT):List I:=[.str s]
theorem tY(a b:AT):(decide (a<=b)||decide (b<=a))=true:=by grind
theorem tZ(a b c:AT)(h:decide (a<=b)=true)(k:decide (b<=c)=true):decide (a<=c)=true:=by grind
theorem Uu(l:List AT):(CK l).Pairwise (·<=·):=by have:=List.pairwise_mergeSort (le:=fun x y:AT=>decide (x<=y)) tZ tY l;exact this.imp fun h=>by simpa using h
theorem Ry{α:Type}{l:List α}{q:Nat}(h:q<l.length):(l[q]::l.eraseIdx q).Perm l:=by
 induction l generalizing q with
 |nil=>simp at h
 |cons a l ih=>cases q with
  |zero=>simp
  |succ q=>
   have h':q<l.length:=by simpa using h
   simp only[List.getElem_cons_succ,List.eraseIdx_cons_succ];exact(List.Perm.swap a l[q] _).trans ((ih h').cons a)
theorem ZO{a b:List AT}(h:a.Perm b):CK a=CK b:=by have hp:(CK a).Perm (CK b):=((List.mergeSort_perm a _).trans h).trans (List.mergeSort_perm b _).symm;exact hp.eq_of_pairwise (fun x y _ _ h1 h2=>List.le_antisymm h1 h2) (Uu a) (Uu b)
theorem t6(l:List (AT×I))(hl:l.length<=1073741824):
  Is mx 355 [.map (l.map PA)] (.sl ((CK (l.map (·.1))).map Fx)):=by
 refine MX ri ?_;refine OG ?_;refine lT [6] (fun g:List AT×List (AT×I)×Option (I×I)=>[(3,.ref (.sl 3 1 0 g.1.length))]) (fun g=>[(6,.iter g.2.2 (g.2.1.map PA)),(3,.rows 9 1 (g.1.map Fx))]) (fun g=>(g.1++g.2.1.map (·.1)).Perm (l.map (·.1))) (fun g=>g.2.1.length) ([],l,none) ?_;rintro⟨acc,rest,cur⟩ jb;have jd:=jb.length_eq;simp only[List.length_append,List.length_map]at jd
 (repeat' first|simp(disch:=omega)only[go_sem,simprocAttr,PA,Nat.sub_zero]|(first|refine HO (Ut 3 9 acc (by omega) (by omega)) ?_ (fun r sto' hR=>?_)|refine EW (Ut 3 9 acc (by omega) (by omega)) ?_ (fun r sto' hR=>?_);(focus(first|rfl|(simp only[go_sem,simprocAttr,PA,Nat.sub_zero];done)));first|(obtain⟨rfl,rfl⟩:=hR)|(obtain⟨_,(rfl|rfl),rfl,rfl⟩:=hR))|refine Ae ?_|refine Sz.s ?_|refine Mb (fun hr=>?_) (fun q hq=>?_)|fail)
 ·subst hr;have hms:(acc.mergeSort fun x y=>decide (x<=y)).length=acc.length:=List.length_mergeSort _;have e1:List.take acc.length (List.map (fun s=>[I.str s]) (acc.mergeSort fun x y=>decide (x<=y)))=List.map (fun s=>[I.str s]) (acc.mergeSort fun x y=>decide (x<=y)):=by rw[List.take_of_length_le];rw[List.length_map,hms];exact Nat.le_refl _
  rw[if_pos (by rw[hms];exact Nat.le_refl _),e1];refine⟨congrArg D.i (congrArg I.sl ?_),rfl⟩;have hp:acc.Perm (l.map (·.1)):=by grind
  have:CK (l.map (·.1))=CK acc:=(ZO hp).symm;rw[this];rfl
 ·refine⟨by simp,by simp[I.one],by omega,by omega,⟨acc++[rest[q].1],rest.eraseIdx q,some (PA rest[q])⟩,?_,?_,by simp,rfl,?_⟩
  ·refine List.Perm.trans ?_ jb;have:=(Ry hq).map (fun x:AT×I=>x.1);simp only[List.map_cons]at this;rw[List.append_assoc];exact List.Perm.append_left acc this
  ·rw[List.length_eraseIdx];simp[hq];omega
  ·simp
end
section
def NN(p:AT×Int):I×I:=(.str p.1,.agg (Dh p.2))
def EC:List Fac->List (AT×Int)->List (AT×Int)
 |[],m=>m
 |f::r,m=>EC r (AO m f.name ((Al m f.name).getD 0+f.exp))
def HX(l:List Fac):Bool:=l.all fun f=>B5 f.name
def Gc(n:Int):Bool:=decide (n>8\/n< -8)
def GB(m:List (AT×Int)):List AT->List Fac->List Fac×Int
 |[],u=>if 4<u.length then([],2)else(u,0)
 |s::r,u=>
  let n:=(Al m s).getD 0
  if(!decide (Cv n<=1152921504606846976)||Gc n)=true then([],70)
  else if n≠0 then GB m r (u++[⟨s,n⟩])else GB m r u
def HY(l:List Fac):List Fac×Int:=
 if HX l=true then GB (EC l []) (CK ((EC l []).map (·.1))) []else([],1)
def gp(r:List Fac×Int):I:=.tup [.sl (r.1.map Aw),iI r.2]
theorem Uv(m:List (AT×Int))(k:AT):C0 (m.map NN) (.str k) (.agg [.int .i64 0,.int .u64 0]) false=.agg (Dh ((Al m k).getD 0)):=by exact NC (f:=fun n=>I.agg (Dh n)) JA m k 0
theorem t7(m:List (AT×Int))(k:AT)(v:Int):Ee (m.map NN) (.str k) (.agg (Dh v))=(AO m k v).map NN:=NB (f:=fun n=>I.agg (Dh n)) JA m k v
def Uw(m:List (AT×Int))(b:Int):Prop:=∀p∈m,-b<=p.2/\p.2<=b
theorem ZP{m:List (AT×Int)}{b:Int}(h:Uw m b)(hb:0<=b)(k:AT):-b<=(Al m k).getD 0/\(Al m k).getD 0<=b:=by
 cases e:Al m k with
 |none=>simp;omega
 |some v=>exact h _ (aget_mem e)
theorem ZQ(m:List (AT×Int)):(∀e∈m.map NN,AB [.s] e.1=true)=True:=by refine eq_true ?_;intro e he;obtain⟨p,_,rfl⟩:=List.mem_map.1 he;rfl
theorem t8(l:List Fac)(hl:l.length<=1073741824)(hx:∀f∈l,-9223372036854775808<=f.exp/\f.exp<=9223372036854775807):Is mx 350 [.sl (l.map Aw)] (gp (HY l)):=by
 refine MX pJ ?_;refine OG ?_;refine lT [4,12,13] (fun g:Nat×List (AT×Int)=>[(2,.ref (.sl 2 2 0 0)),(14,.i (iI g.1))]) (fun g=>[(11,.map [.s] (g.2.map NN)),(2,.rows 249 2 [])]) (fun g=>g.1<=l.length/\HX (l.take g.1)=true/\EC (l.drop g.1) g.2=EC l []/\Uw g.2 (g.1*9223372036854775808)/\g.2.length<=g.1) (fun g=>l.length-g.1) (0,[]) ?_ (by simp[HX,Uw]);rintro⟨i,m⟩ ⟨hi,hw,hs,hb,vt⟩;simp only at hi hw hs hb vt;by_cases ja:i<l.length
 ·have kl:=AA ja;have v6:=hx _ kl;have hg:=ZP hb (by omega) (l.getD i default).name;refine Dp (cj @Ze (cj @ZJ (cj @tQ (cj (Cq ja) (cj @Uv @t7))))) (cj ?_ ?_)
  ·intro _ _;have:HX l=false:=by grind[HX]
   simp[HY,this,gp]
  ·intro h h';refine⟨(i+1,_),⟨by omega,?_,?_,?_,?_⟩,by show l.length-(i+1)<l.length-i;omega,rfl,rfl⟩
   ·exact BR (d:=default) hw ja h'
   ·rw[<-hs,List.drop_eq_getElem_cons ja,<-AS ja];rfl
   ·intro p hp;rcases mX _ _ _ p hp with e|e
    ·subst e;simp only;push_cast;omega
    ·have:=hb p e;push_cast;omega
   ·have:=aput_len m (l.getD i default).name ((Al m (l.getD i default).name).getD 0+(l.getD i default).exp);show List.length (AO _ _ _)<=i+1;omega
 ·have e:i=l.length:=by omega
  subst e;rw[List.take_length]at hw;rw[List.drop_length]at hs;simp only[EC]at hs;have hN:HY l=GB m (CK (m.map (·.1))) []:=by grind[HY]
  have qi:Is mx 355 [.map (m.map NN)] (.sl ((CK (m.map (·.1))).map Fx)):=by have:=t6 (mx:=mx) (m.map fun p=>(p.1,I.agg (Dh p.2))) (by simp;omega);rw[List.map_map,List.map_map]at this;exact this
  generalize hns:CK (m.map (·.1))=ns at hN qi;have hnl:ns.length<=1073741824:=by rw[<-hns];simp only[CK,List.length_mergeSort,List.length_map];omega
  refine Dp (cj qi (Ih ja)) ?_;refine lT [4,35,36] (fun g:Nat×List Fac=>[(2,.ref (.sl 2 2 0 g.2.length)),(37,.i (iI g.1))]) (fun g=>[(2,.rows 249 2 (g.2.map Aw))]) (fun g=>g.1<=ns.length/\GB m (ns.drop g.1) g.2=HY l/\g.2.length<=g.1) (fun g=>ns.length-g.1) (0,[]) ?_ (by simp[hN]);rintro⟨i,u⟩ ⟨hi,v7,k9⟩;simp only at hi v7 k9;by_cases jt:i<ns.length
  ·have hg:=ZP hb (by omega) (ns.getD i default);rw[List.drop_eq_getElem_cons jt,<-AS jt]at v7;simp only[GB]at v7;generalize hn:(Al m (ns.getD i default)).getD 0=n at v7 hg;by_cases hn8:Cv n<=1152921504606846976
   ·simp only[hn8,decide_true,Bool.not_true,Bool.false_or]at v7;refine A4 (cj @ZN (cj @Y9 (cj (Cq jt) (cj @Uv (cj @ZQ (cj hn hn8)))))) (cj ?_ (cj ?_ ?_))
    ·intro h h';rw[if_pos (by simp only[Gc];exact h)]at v7;rw[<-v7];rfl
    ·intro _ _ h h'
     skip
     have hf:Gc n=false:=by grind[Gc]
     rw[if_neg (by rw[hf];simp),if_pos h']at v7;refine⟨by simp,by simp[I.one],by omega,by omega,⟨i+1,u++[⟨ns.getD i default,n⟩]⟩,⟨by omega,v7,by simp;omega⟩,by show ns.length-(i+1)<_;omega,⟨by simp,rfl⟩,?_⟩;simp[Aw]
    ·intro _ _ _ _;have hf:Gc n=false:=by simp only[Gc];grind
     rw[if_neg (by rw[hf];simp),if_neg (by omega)]at v7;exact⟨⟨i+1,u⟩,⟨by omega,v7,by show u.length<=i+1;omega⟩,by show ns.length-(i+1)<_;omega,⟨rfl,rfl⟩,rfl⟩
   ·simp only[hn8,decide_false,Bool.not_false,Bool.true_or,if_true]at v7;refine Kas (cj @ZN (cj (Cq jt) (cj @Uv (cj @ZQ (cj hn hn8))))) ?_
    all_goals intros
    all_goals(rw[<-v7];rfl)
  ·have e:i=ns.length:=by omega
   subst e;rw[List.drop_length]at v7;simp only[GB]at v7;refine A4 (Ih jt) (cj ?_ ?_)
   ·intro _ _;rw[if_pos (by omega)]at v7;rw[<-v7];rfl
   ·intro _ _;rw[if_neg (by omega)]at v7;rw[<-v7];rfl
end
section
theorem Bi{α:Type}{f:α->List I}{k:Nat}(l:List α)(h1:∀x,(f x).length=k)(h2:∀x,(f x).all I.one=true):(∀r∈l.map f,r.length=k)/\∀r∈l.map f,r.all I.one=true:=by grind
theorem ZR(l:List Fac)(hl:l.length<=1073741824):MC Tryz.prog (OE mx) 349 [.i (.sl (l.map Aw))] [] []
  (fun r s=>r=.ref (.sl 6000 2 0 l.length)/\s=[(6000,.rows 249 2 (l.map Aw))]):=by
 refine MX oD ?_;have hr:=Bi (f:=Aw) (k:=2) l (fun _=>rfl) (fun _=>rfl)
 (repeat' first|simp only[go_sem,simprocAttr,Nat.zero_add]|refine Sx.s ?_ ?_<;>try(intro h;have h':=h;try simp only[HB]at h';try rewrite [h];try simp only[h])|refine Ae ?_|refine Rf (fun wm b=>?_) (fun wm=>?_)|fail)
 ·have e:l=[]:=by simpa using wm
  subst e;cases h';refine EX [(2,6000)] ?_;simp[YI]
 ·refine⟨hr.1,hr.2,by omega,by omega,?_⟩;refine EX [(5,6000)] ?_;simp[YI]
 ·simp at h
 ·refine⟨hr.1,hr.2,by omega,by omega,?_⟩;refine EX [(5,6000)] ?_;simp[YI]
def En(a b:List Fac)(sign:Int):List Fac×Int:=
 if BJ a≠0 then([],BJ a)else if BJ b≠0 then([],BJ b)
 else HY (a++b.map fun f=>⟨f.name,sign*f.exp⟩)
theorem ZS:∀(u:List Fac) (p:Option AT),uc p u=0->∀f∈u,(f.exp≠0/\-8<=f.exp/\f.exp<=8)/\B5 f.name=true
 |[],_,_,f,hf=>by simp at hf
 |g::r,p,h,f,hf=>by
  unfold uc at h;by_cases h1:(!B5 g.name)=true
  ·rw[if_pos h1]at h;simp at h
  by_cases h2:(decide (g.exp=0)||decide (g.exp>8\/g.exp< -8))=true
  ·rw[if_neg h1,if_pos h2]at h;simp at h
  rw[if_neg h1,if_neg h2]at h;rcases List.mem_cons.1 hf with e|e
  ·subst e;simp only[Bool.or_eq_true,decide_eq_true_eq]at h2;exact⟨by omega,by simpa using h1⟩
  ·have h3:uc (some g.name) r=0:=by
    split at h
    ·split at h<;>first|(simp at h;done)|exact h
    ·split at h<;>first|(simp at h;done)|exact h
   exact ZS r _ h3 f e
theorem PB{u:List Fac}(h:BJ u=0):u.length<=4/\∀f∈u,(f.exp≠0/\-8<=f.exp/\f.exp<=8)/\B5 f.name=true:=by
 unfold BJ at h;split at h
 ·simp at h
 ·exact⟨by omega,ZS u none h⟩
theorem ZT(a b:List Fac)(sign:Int)(ha:a.length<=1073741824)(hb:b.length<=1073741824)(hs:sign=1\/sign=-1):Is mx 345 [.sl (a.map Aw),.sl (b.map Aw),iI sign] (gp (En a b sign)):=by
 refine MX pI ?_
 (repeat' first|simp(disch:=omega)only[go_sem,simprocAttr]|(first|refine HO (ZR a ha) ?_ (fun r sto' hR=>?_)|refine EW (ZR a ha) ?_ (fun r sto' hR=>?_);(focus(first|rfl|(simp only[go_sem,simprocAttr];done)));first|(obtain⟨rfl,rfl⟩:=hR)|(obtain⟨_,(rfl|rfl),rfl,rfl⟩:=hR))|refine Sx.s ?_ ?_<;>try(intro h;have h':=h;try simp only[HB]at h';try rewrite [h];try simp only[h])|refine Ab (T8 _ ha) ?_|refine Ab (T8 _ hb) ?_|refine Ae ?_|refine Sz.s ?_|fail)
 ·simp[En,h',gp]
 ·simp only[En,gp];grind
 have ha':BJ a=0:=by grind
 obtain⟨ha4,hae⟩:=PB ha';obtain⟨hb4,hbe⟩:=PB h';refine lT [2,25,26] (fun g:Nat×List Fac=>[(10,.ref (.sl 24 2 0 g.2.length)),(27,.i (iI g.1))]) (fun g=>[(24,.rows 249 2 (g.2.map Aw)),(6,.rows 249 2 [])]) (fun g=>g.1<=b.length/\g.2=a++(b.take g.1).map fun f=>(⟨f.name,sign*f.exp⟩:Fac)) (fun g=>b.length-g.1) (0,a) ?_;rintro⟨i,u⟩ ⟨hi,hu⟩;simp only at hi hu;have k9:u.length=a.length+i:=by grind
 by_cases ja:i<b.length
 ·have hm:=hbe _ (AA ja);have e1:IntKind.i64.wrap (sign*(b.getD i default).exp)=sign*(b.getD i default).exp:=by grind[BH]
  refine By (cj (Cq ja) e1) ?_;refine⟨by simp,by simp[I.one],by omega,by omega,⟨i+1,u++[⟨(b.getD i default).name,sign*(b.getD i default).exp⟩]⟩,⟨by omega,?_⟩,by show b.length-(i+1)<_;omega,⟨by simp,rfl⟩,by simp[Aw]⟩;rw[hu,List.take_succ_eq_append_getElem ja,List.map_append,List.append_assoc,AS ja];rfl
 ·have e:i=b.length:=by omega
  subst e;rw[List.take_length]at hu;have hx:∀f∈u,-9223372036854775808<=f.exp/\f.exp<=9223372036854775807:=by grind
  have hp:En a b sign=HY u:=by grind[En]
  refine Dp (cj @t8 (cj (Ih ja) @gp.eq_1)) ?_;rw[hp]
theorem ua(a b:List Fac)(ha:a.length<=1073741824)(hb:b.length<=1073741824):Is mx 334 [.sl (a.map Aw),.sl (b.map Aw)] (gp (En a b 1)):=by refine MX pG ?_;exact Dp (cj @ZT @gp.eq_1) trivial
theorem ub(a b:List Fac)(ha:a.length<=1073741824)(hb:b.length<=1073741824):Is mx 335 [.sl (a.map Aw),.sl (b.map Aw)] (gp (En a b (-1))):=by refine MX rd ?_;exact Dp (cj @ZT @gp.eq_1) trivial
end
section
theorem ud(p:Tbl->Bool)(l:List Tbl)(f:Nat)(fs cs:List I)(hl:l.length<=1073741824)(hp:∀x∈l,Is mx f (fs++[.agg (AR x)]++cs) (.bool (p x))):
  Is mx 276 [.sl (l.map AR),.fn f fs cs] (iI (Bk p l)):=by
 refine MX sm ?_;refine OG ?_;refine lS [0,1,7] (fun i=>[(8,.i (iI i))]) (fun _=>[]) (fun i=>∀j (h:j<l.length),j<i->p l[j]=false) l.length ?_;intro i hi jb;refine Ka @hp (cj ?_ (cj ?_ ?_))
 ·intro _ _ _ _;refine congrArg (I.int .i64) ?_;exact(KP (by omega) (by rw[<-AS (by omega)];assumption) jb).symm
 ·intro _ _ _ _;intro j hj hji;by_cases e:j=i
  ·subst e;rw[<-AS hj];assumption
  ·exact jb j hj (by omega)
 ·intro _ _;refine congrArg (I.int .i64) ?_;exact(KQ fun j hj=>jb j hj (by omega)).symm
theorem ZU(p:Fld->Bool)(l:List Fld)(f:Nat)(fs cs:List I)(hl:l.length<=1073741824)(hp:∀x∈l,Is mx f (fs++[.agg (Cc x)]++cs) (.bool (p x))):
  Is mx 236 [.sl (l.map Cc),.fn f fs cs] (iI (Bk p l)):=by
 refine MX nW ?_;refine OG ?_;refine lS [0,1,7] (fun i=>[(8,.i (iI i))]) (fun _=>[]) (fun i=>∀j (h:j<l.length),j<i->p l[j]=false) l.length ?_;intro i hi jb;refine Ka @hp (cj ?_ (cj ?_ ?_))
 ·intro _ _ _ _;refine congrArg (I.int .i64) ?_;exact(KP (by omega) (by rw[<-AS (by omega)];assumption) jb).symm
 ·intro _ _ _ _;intro j hj hji;by_cases e:j=i
  ·subst e;rw[<-AS hj];assumption
  ·exact jb j hj (by omega)
 ·intro _ _;refine congrArg (I.int .i64) ?_;exact(KQ fun j hj=>jb j hj (by omega)).symm
theorem Ux(p:Ftr->Bool)(l:List Ftr)(f:Nat)(fs cs:List I)(hl:l.length<=1073741824)(hp:∀x∈l,Is mx f (fs++[.agg (Ag x)]++cs) (.bool (p x))):
  Is mx 229 [.sl (l.map Ag),.fn f fs cs] (iI (Bk p l)):=by
 refine MX pi ?_;refine OG ?_;refine lS [0,1,7] (fun i=>[(8,.i (iI i))]) (fun _=>[]) (fun i=>∀j (h:j<l.length),j<i->p l[j]=false) l.length ?_;intro i hi jb;refine Ka @hp (cj ?_ (cj ?_ ?_))
 ·intro _ _ _ _;refine congrArg (I.int .i64) ?_;exact(KP (by omega) (by rw[<-AS (by omega)];assumption) jb).symm
 ·intro _ _ _ _;intro j hj hji;by_cases e:j=i
  ·subst e;rw[<-AS hj];assumption
  ·exact jb j hj (by omega)
 ·intro _ _;refine congrArg (I.int .i64) ?_;exact(KQ fun j hj=>jb j hj (by omega)).symm
theorem Mq{α:Type}[Inhabited α](p:α->Bool)(l:List α):(Bk p l<0/\l.find? p=none)\/(0<=Bk p l/\(Bk p l).toNat<l.length/\l.find? p=some (l.getD (Bk p l).toNat default)):=by
 unfold Bk;cases h:l.findIdx? p with
 |none=>grind
 |some i=>refine .inr ⟨by simp,?_⟩;obtain⟨hi,hp,hn⟩:=List.findIdx?_eq_some_iff_getElem.1 h;refine⟨by simpa using hi,?_⟩;simp only[Int.toNat_natCast,AS hi];rw[List.find?_eq_some_iff_getElem];grind
abbrev ED(c:Cat)(ent:AT)(fld:I):List I:=[.sl (c.tables.map AR),.sl (c.features.map Ag),.sl (c.drafts.map Ag),.sl (c.past.map Ag),.str ent,fld]
attribute [go_sem] ED
def DR(fs:List Ftr)(name ent:AT):Typ×Int:=match fs.find? (fun f=>decide (f.name=name))with
 |none=>(AK,4)
 |some f=>if f.entity≠ent then(AK,5)else(f.typ,0)
def GC(t:Tbl)(name:AT):Typ×Int:=match t.fields.find? (fun f=>decide (f.name=name))with
 |none=>(AK,4)
 |some f=>(f.typ,0)
theorem ue(f:Ftr)(name:AT):Is mx 344 [.agg (Ag f),.elt [.str name] 0] (.bool (decide (f.name=name))):=by refine MX oC ?_;exact Lbn trivial
theorem uf(t:Tbl)(x:Xpr):Is mx 277 [.agg (AR t),.elt (eE x) 0] (.bool (decide (t.name=x.table))):=by refine MX oa ?_;exact Lbn trivial
theorem ug(f:Fld)(name:AT):Is mx 279 [.agg (Cc f),.elt [.str name] 0] (.bool (decide (f.name=name))):=by refine MX qR ?_;exact Lbn trivial
theorem ZV(c:Cat)(ent e0:AT)(fld:I)(name:AT)(hc:c.features.length<=1073741824):Is mx 333 [.agg (ED c e0 fld),.str name,.str ent] (AH (DR c.features name ent)):=by
 refine MX oA ?_;have hI:=Ux (mx:=mx) (fun f=>decide (f.name=name)) c.features 344 [] [.elt [.str name] 0] hc (fun x _=>ue x name);have hF:=Mq (fun f:Ftr=>decide (f.name=name)) c.features;generalize Bk (fun f:Ftr=>decide (f.name=name)) c.features=q at hI hF;rcases hF with⟨hq,hf⟩|⟨hq,jn,hf⟩
 ·refine Dp (cj hI (cj @Dg hq)) ?_;simp[DR,hf,AH,Ar,AK]
 ·(repeat' first|simp(disch:=omega)only[go_sem,simprocAttr,eq_false (Int.not_lt.2 hq)]|refine Sx.s ?_ ?_<;>try(intro h;have h':=h;try simp only[HB]at h';try simp only[h])|refine Ab (hI) ?_|refine Ab (Dg _) ?_|refine Ae ?_|refine Sz.s ?_|(refine And.intro ?_ ?_;focus omega))
  all_goals(simp only[DR,hf,ne_eq,h',not_true_eq_false,not_false_eq_true,if_true,if_false];rfl)
theorem uh(t:Tbl)(name:AT)(ht:t.fields.length<=1073741824):Is mx 278 [.str name,.elt (AR t) 0] (AH (GC t name)):=by
 refine MX px ?_;have hI:=ZU (mx:=mx) (fun f=>decide (f.name=name)) t.fields 279 [] [.elt [.str name] 0] ht (fun x _=>ug x name);have hF:=Mq (fun f:Fld=>decide (f.name=name)) t.fields;generalize Bk (fun f:Fld=>decide (f.name=name)) t.fields=q at hI hF;rcases hF with⟨hq,hf⟩|⟨hq,jn,hf⟩
 ·refine Dp (cj hI (cj @Dg hq)) ?_;simp[GC,hf,AH,Ar,AK]
 ·refine Ka (cj hI (Int.not_lt.2 hq)) ?_
  all_goals intros
  all_goals(simp only[GC,hf];rfl)
end
section
abbrev KT:Typ:=⟨1,[],[]⟩
def PC:AT:=[100,105,115,116,105,110,99,116]
def Uy:AT:=[102,105,114,115,116]
def Uz:AT:=[108,97,115,116]
def Rz:AT:=[109,105,110]
def RA:AT:=[109,97,120]
def NO:AT:=[109,101,97,110]
def NP:AT:=[45]
def UA:AT:=[110,117,108,108]
def PD:AT:=[110,111,116]
def NQ(op:AT)(a b:Typ):Typ×Int:=
 if b.kind≠1 then(AK,5)else if op=HR\/op=PC then(⟨2,[],[]⟩,0)else if op=Uy\/op=Uz then(a,0)
 else if(op=Rz\/op=RA)/\a.kind=4 then(a,0)else if C7 a=false then(AK,5)else if op=NO\/op=He then(⟨3,a.unit,[]⟩,0)else(a,0)
def NR(op:AT)(a:Typ):Typ×Int:=
 if op=NP/\C7 a=true then(a,0)else if op=UA\/(op=PD/\a.kind=1)then(KT,0)else(AK,5)
theorem ui(c:Cat)(e0:AT)(fld:I)(x:Xpr)(l:List Typ):Is mx 302 [.agg (ED c e0 fld),.agg (eE x),.sl (l.map Ar)] (AH (⟨x.val.kind,x.unit,x.name⟩,0)):=by refine MX om ?_;exact Hw @AH.eq_1 trivial
theorem uj(c:Cat)(e0:AT)(t:Tbl)(x:Xpr)(l:List Typ)(ht:t.fields.length<=1073741824):Is mx 303 [.agg (ED c e0 (.fn 278 [] [.elt (AR t) 0])),.agg (eE x),.sl (l.map Ar)] (AH (GC t x.name)):=by refine MX pB ?_;exact Dp (cj @uh @AH.eq_1) trivial
theorem uk(c:Cat)(e0:AT)(fld:I)(x:Xpr)(l:List Typ)(hc:c.features.length<=1073741824):Is mx 304 [.agg (ED c e0 fld),.agg (eE x),.sl (l.map Ar)] (AH (DR c.features x.name e0)):=by refine MX qV ?_;exact Dp (cj @ZV @AH.eq_1) trivial
theorem ul(c:Cat)(e0:AT)(fld:I)(x:Xpr)(l:List Typ)(hc:c.features.length<=1073741824)(hl:0<l.length):Is mx 305 [.agg (ED c e0 fld),.agg (eE x),.sl (l.map Ar)] (AH (if(l.getD 0 default).kind≠5 then(AK,5)else DR c.features x.name (l.getD 0 default).of)):=by
 refine MX sz ?_;have hl2:(0:Int)<l.length:=by omega
 (repeat' first|simp(disch:=omega)only[go_sem,simprocAttr,AH]|refine Sx.s ?_ ?_<;>try(intro h;have h':=h;try simp only[HB]at h';try rewrite [h];try simp only[h])|refine Ab (ZV c _ _ _ _ hc) ?_|refine Ab (Dg _) ?_|refine Ae ?_|refine AG ?_|refine Sz.s ?_|(refine And.intro ?_ ?_;focus omega))
 all_goals grind[AH,Ar]
theorem um(c:Cat)(e0:AT)(fld:I)(x:Xpr)(l:List Typ)(hl:0<l.length):Is mx 307 [.agg (ED c e0 fld),.agg (eE x),.sl (l.map Ar)] (AH (NR x.op (l.getD 0 default))):=by
 refine MX pC ?_;have hl2:(0:Int)<l.length:=by omega
 (repeat' first|exact Av _|simp(disch:=omega)only[go_sem,simprocAttr]|refine' AD (fun hq=>?_) (fun f=>?_)<;>try(have je:=hq;try simp only[HB]at je)|refine Sx.s ?_ ?_<;>try(intro h;have h':=h;try simp only[HB]at h';try rewrite [h];try simp only[h])|refine Ab (Dg _) ?_|refine Ab (Pp (l.getD 0 default)) ?_|refine Ae ?_|refine Sz.s ?_|(refine And.intro ?_ ?_;focus omega))
 all_goals(simp only[NR,NP,UA,PD,KT,AK];grind[AH,Ar])
theorem uo(c:Cat)(e0:AT)(fld:I)(x:Xpr)(l:List Typ)(hl:1<l.length):Is mx 306 [.agg (ED c e0 fld),.agg (eE x),.sl (l.map Ar)] (AH (NQ x.op (l.getD 0 default) (l.getD 1 default))):=by
 refine MX ot ?_;have hl2:(1:Int)<l.length:=by omega
 (repeat' first|exact Av _|simp(disch:=omega)only[go_sem,simprocAttr]|refine' AD (fun hq=>?_) (fun f=>?_)<;>try(have je:=hq;try simp only[HB]at je)|refine Sx.s ?_ ?_<;>try(intro h;have h':=h;try simp only[HB]at h';try rewrite [h];try simp only[h])|refine Ab (Dg _) ?_|refine Ab (Pp (l.getD 0 default)) ?_|refine Ae ?_|refine Sz.s ?_|(refine And.intro ?_ ?_;focus omega))
 all_goals(simp only[NQ,HR,PC,Uy,Uz,Rz,RA,NO,He,AK];grind[AH,Ar])
def E3(op:AT)(a b:Typ):Typ×Int:=
 if op=[97,110,100]\/op=[111,114]then(if a.kind=1/\b.kind=1 then(KT,0)else(AK,5))
 else if op=[61,61]\/op=[33,61]\/op=[60]\/op=[60,61]then
  (if(C7 a&&C7 b)=true/\a.unit≠b.unit then(AK,70)
   else if(C7 a&&C7 b)=true\/(if op=[60]\/op=[60,61]then a.kind=4/\b.kind=4 else a.kind=b.kind/\a.of=b.of/\a.unit=b.unit)then(KT,0)else(AK,5))
 else if(C7 a&&C7 b)=false then(AK,5)
 else if op=[42]then(if(En a.unit b.unit 1).2≠0 then(AK,70)else(⟨max a.kind b.kind,(En a.unit b.unit 1).1,[]⟩,0))
 else if op=[47]then(if(En a.unit b.unit (-1)).2≠0 then(AK,70)else(⟨3,(En a.unit b.unit (-1)).1,[]⟩,0))
 else if(op=[43]\/op=[45])/\a.unit≠b.unit then(AK,70)else(⟨max a.kind b.kind,a.unit,[]⟩,0)
theorem uq(c:Cat)(e0:AT)(fld:I)(x:Xpr)(l:List Typ)(hl:2<l.length)(hu:(l.getD 1 default).unit.length<=1073741824):Is mx 309 [.agg (ED c e0 fld),.agg (eE x),.sl (l.map Ar)] (AH (if(l.getD 0 default).kind≠1 then(AK,5)else Gy (l.getD 1 default) (l.getD 2 default))):=by
 refine MX sA ?_;have hl2:(2:Int)<l.length:=by omega
 (repeat' first|simp(disch:=omega)only[go_sem,simprocAttr,AH]|refine Sx.s ?_ ?_<;>try(intro h;have h':=h;try simp only[HB]at h';try rewrite [h];try simp only[h])|refine Ab (Uc (l.getD 1 default) (l.getD 2 default) hu) ?_|refine Ab (Dg _) ?_|refine Ae ?_|refine AG ?_|refine Sz.s ?_|(refine And.intro ?_ ?_;focus omega))
 all_goals grind[AH,Ar]
theorem ur(c:Cat)(e0:AT)(fld:I)(x:Xpr)(l:List Typ)(hl:1<l.length)(hu:(l.getD 0 default).unit.length<=1073741824):Is mx 310 [.agg (ED c e0 fld),.agg (eE x),.sl (l.map Ar)] (AH (Gy (l.getD 0 default) (l.getD 1 default))):=by
 refine MX ou ?_;have hl2:(1:Int)<l.length:=by omega
 exact La (cj (Uc (l.getD 0 default) (l.getD 1 default) hu) @AH.eq_1) trivial
end
section
theorem ut(c:Cat)(e0:AT)(fld:I)(x:Xpr)(l:List Typ)(hl:1<l.length)(h0:(l.getD 0 default).unit.length<=1073741824)(h1:(l.getD 1 default).unit.length<=1073741824):Is mx 308 [.agg (ED c e0 fld),.agg (eE x),.sl (l.map Ar)] (AH (E3 x.op (l.getD 0 default) (l.getD 1 default))):=by
 refine MX qW ?_;have hl2:(1:Int)<l.length:=by omega
 have hl3:(0:Int)<l.length:=by omega
 (repeat' first|exact Av _|simp(disch:=omega)only[go_sem,simprocAttr]|refine' AD (fun hq=>?_) (fun f=>?_)<;>try(have je:=hq;try simp only[HB]at je)|refine Sx.s ?_ ?_<;>try(intro h;have h':=h;try simp only[HB]at h';try rewrite [h];try simp only[h])|refine Ab (Pp (l.getD 0 default)) ?_|refine Ab (Pp (l.getD 1 default)) ?_|refine Ab (Zd _ _ (by omega)) ?_|refine AG ?_|(refine And.intro ?_ ?_;focus omega))
 by_cases o0:x.op=[97,110,100]
 ·(repeat' first|exact Av _|simp(maxSteps:=9999999) (decide:=true) (disch:=omega)only[go_sem,simprocAttr,o0]|refine' AD (fun hq=>?_) (fun f=>?_)<;>try(have je:=hq;try simp only[HB]at je)|refine Sx.s ?_ ?_<;>try(intro h;have h':=h;try simp only[HB]at h';try rewrite [h];try simp only[h])|refine Ab (Dg _) ?_|refine Ae ?_|refine Sz.s ?_|fail)
  all_goals(simp only[E3];grind[AH,Ar])
 by_cases o1:x.op=[111,114]
 ·(repeat' first|exact Av _|simp(maxSteps:=9999999) (decide:=true) (disch:=omega)only[go_sem,simprocAttr,o1]|refine' AD (fun hq=>?_) (fun f=>?_)<;>try(have je:=hq;try simp only[HB]at je)|refine Sx.s ?_ ?_<;>try(intro h;have h':=h;try simp only[HB]at h';try rewrite [h];try simp only[h])|refine Ab (Dg _) ?_|refine Ae ?_|refine Sz.s ?_|fail)
  all_goals(simp only[E3];grind[AH,Ar])
 by_cases o2:x.op=[61,61]
 ·(repeat' first|exact Av _|simp(maxSteps:=9999999) (decide:=true) (disch:=omega)only[go_sem,simprocAttr,o2]|refine' AD (fun hq=>?_) (fun f=>?_)<;>try(have je:=hq;try simp only[HB]at je)|refine Sx.s ?_ ?_<;>try(intro h;have h':=h;try simp only[HB]at h';try rewrite [h];try simp only[h])|refine Ab (Dg _) ?_|refine Ae ?_|refine Sz.s ?_|fail)
  all_goals(simp only[E3];grind[AH,Ar])
 by_cases o3:x.op=[33,61]
 ·(repeat' first|exact Av _|simp(maxSteps:=9999999) (decide:=true) (disch:=omega)only[go_sem,simprocAttr,o3]|refine' AD (fun hq=>?_) (fun f=>?_)<;>try(have je:=hq;try simp only[HB]at je)|refine Sx.s ?_ ?_<;>try(intro h;have h':=h;try simp only[HB]at h';try rewrite [h];try simp only[h])|refine Ab (Dg _) ?_|refine Ae ?_|refine Sz.s ?_|fail)
  all_goals(simp only[E3];grind[AH,Ar])
 by_cases o4:x.op=[60]
 ·(repeat' first|exact Av _|simp(maxSteps:=9999999) (decide:=true) (disch:=omega)only[go_sem,simprocAttr,o4]|refine' AD (fun hq=>?_) (fun f=>?_)<;>try(have je:=hq;try simp only[HB]at je)|refine Sx.s ?_ ?_<;>try(intro h;have h':=h;try simp only[HB]at h';try rewrite [h];try simp only[h])|refine Ab (Dg _) ?_|refine Ae ?_|refine Sz.s ?_|fail)
  all_goals(simp only[E3];grind[AH,Ar])
 by_cases o5:x.op=[60,61]
 ·(repeat' first|exact Av _|simp(maxSteps:=9999999) (decide:=true) (disch:=omega)only[go_sem,simprocAttr,o5]|refine' AD (fun hq=>?_) (fun f=>?_)<;>try(have je:=hq;try simp only[HB]at je)|refine Sx.s ?_ ?_<;>try(intro h;have h':=h;try simp only[HB]at h';try rewrite [h];try simp only[h])|refine Ab (Dg _) ?_|refine Ae ?_|refine Sz.s ?_|fail)
  all_goals(simp only[E3];grind[AH,Ar])
 by_cases o6:x.op=[42]
 ·(repeat' first|exact Av _|simp(maxSteps:=9999999) (decide:=true) (disch:=omega)only[go_sem,simprocAttr,gp,o6]|refine' AD (fun hq=>?_) (fun f=>?_)<;>try(have je:=hq;try simp only[HB]at je)|refine Sx.s ?_ ?_<;>try(intro h;have h':=h;try simp only[HB]at h';try rewrite [h];try simp only[h])|refine Ab (Dg _) ?_|refine Ab (ua _ _ h0 h1) ?_|refine Ae ?_|refine Sz.s ?_|fail)
  all_goals(simp only[E3];grind[AH,Ar])
 by_cases o7:x.op=[47]
 ·(repeat' first|exact Av _|simp(maxSteps:=9999999) (decide:=true) (disch:=omega)only[go_sem,simprocAttr,gp,o7]|refine' AD (fun hq=>?_) (fun f=>?_)<;>try(have je:=hq;try simp only[HB]at je)|refine Sx.s ?_ ?_<;>try(intro h;have h':=h;try simp only[HB]at h';try rewrite [h];try simp only[h])|refine Ab (Dg _) ?_|refine Ab (ub _ _ h0 h1) ?_|refine Ae ?_|refine Sz.s ?_|fail)
  all_goals(simp only[E3];grind[AH,Ar])
 by_cases o8:x.op=[43]
 ·(repeat' first|simp(maxSteps:=9999999) (decide:=true) (disch:=omega)only[go_sem,simprocAttr,o8]|refine Sx.s ?_ ?_<;>try(intro h;have h':=h;try simp only[HB]at h';try rewrite [h];try simp only[h])|refine Ab (Dg _) ?_|refine Ae ?_|refine Sz.s ?_|fail)
  all_goals(simp only[E3];grind[AH,Ar])
 by_cases o9:x.op=[45]
 ·(repeat' first|simp(maxSteps:=9999999) (decide:=true) (disch:=omega)only[go_sem,simprocAttr,o9]|refine Sx.s ?_ ?_<;>try(intro h;have h':=h;try simp only[HB]at h';try rewrite [h];try simp only[h])|refine Ab (Dg _) ?_|refine Ae ?_|refine Sz.s ?_|fail)
  all_goals(simp only[E3];grind[AH,Ar])
 (repeat' first|simp(maxSteps:=9999999) (decide:=true) (disch:=omega)only[go_sem,simprocAttr,eq_false o0,eq_false o1,eq_false o2,eq_false o3,eq_false o4,eq_false o5,eq_false o6,eq_false o7,eq_false o8,eq_false o9]|refine Sx.s ?_ ?_<;>try(intro h;have h':=h;try simp only[HB]at h';try rewrite [h];try simp only[h])|refine Ab (Dg _) ?_|refine Ae ?_|refine Sz.s ?_|fail)
 all_goals(simp only[E3];grind[AH,Ar])
end
section
def HZ(c:Cat)(ent:AT)(t:Option Tbl)(x:Xpr)(l:List Typ):Typ×Int:=
 if x.kind=1 then(⟨x.val.kind,x.unit,x.name⟩,0)
 else if x.kind=2 then(match t with|some t=>GC t x.name|none=>(AK,0))
 else if x.kind=3 then DR c.features x.name ent
 else if x.kind=4 then(if(l.getD 0 default).kind≠5 then(AK,5)else DR c.features x.name (l.getD 0 default).of)
 else if x.kind=5 then NQ x.op (l.getD 0 default) (l.getD 1 default)
 else if x.kind=6 then NR x.op (l.getD 0 default)
 else if x.kind=7 then E3 x.op (l.getD 0 default) (l.getD 1 default)
 else if x.kind=8 then(if(l.getD 0 default).kind≠1 then(AK,5)else Gy (l.getD 1 default) (l.getD 2 default))
 else Gy (l.getD 0 default) (l.getD 1 default)
def H0(c:Cat)(ent:AT)(x:Xpr):Except Int Tbl:=match c.tables.find? (fun t=>decide (t.name=x.table))with
 |none=>.error 4
 |some t=>if t.entity≠ent then .error 5 else .ok t
mutual
def D4(c:Cat)(ent:AT):Option Tbl->Xpr->Typ×Int
 |t,.mk k o n tb v u p w a=>
  if k=5 then match H0 c ent (.mk k o n tb v u p w a)with
   |.error e=>(AK,e)
   |.ok t'=>match inferXs c ent (some t') a with
    |.error e=>(AK,e)
    |.ok l=>HZ c ent t (.mk k o n tb v u p w a) l
  else match inferXs c ent t a with
    |.error e=>(AK,e)
    |.ok l=>HZ c ent t (.mk k o n tb v u p w a) l
def inferXs(c:Cat)(ent:AT):Option Tbl->List Xpr->Except Int (List Typ)
 |_,[]=>.ok []
 |t,x::r=>let y:=D4 c ent t x
  if y.2≠0 then .error y.2 else match inferXs c ent t r with
   |.error e=>.error e
   |.ok l=>.ok (y.1::l)
end
def inT(c:Cat)(ent:AT)(t:Option Tbl)(x:Xpr):Except Int (Option Tbl):=if x.kind=5 then(match H0 c ent x with|.error e=>.error e|.ok t'=>.ok (some t'))else .ok t
theorem RB(c:Cat)(ent:AT)(t:Option Tbl)(x:Xpr):D4 c ent t x=match inT c ent t x with
  |.error e=>(AK,e)
  |.ok t'=>match inferXs c ent t' x.args with
   |.error e=>(AK,e)
   |.ok l=>HZ c ent t x l:=by
 cases x with
 |mk k o n tb v u p w a=>
  simp only[D4,inT,Xpr.kind,Xpr.args];by_cases h:k=5
  ·subst h;simp only[if_true];cases H0 c ent (.mk 5 o n tb v u p w a)<;>rfl
  ·simp only[h,if_false]
theorem ZW(c:Cat)(ent:AT)(t:Option Tbl):∀(a:List Xpr) (i:Nat) (l:List Typ) (h:i<a.length),inferXs c ent t (a.take i)=.ok l->inferXs c ent t (a.take (i+1))=if(D4 c ent t a[i]).2≠0 then .error (D4 c ent t a[i]).2 else .ok (l++[(D4 c ent t a[i]).1])
 |[],i,l,h,_=>by simp at h
 |x::r,0,l,h,hl=>by simp only[List.take_zero,inferXs]at hl;cases hl;simp only[Nat.zero_add,List.take_succ_cons,List.take_zero,inferXs,List.getElem_cons_zero,List.nil_append]
 |x::r,i+1,l,h,hl=>by
  simp only[List.take_succ_cons,inferXs]at hl⊢;by_cases e:(D4 c ent t x).2≠0
  ·rw[if_pos e]at hl;cases hl
  ·rw[if_neg e]at hl⊢;cases hr:inferXs c ent t (r.take i)with
   |error q=>rw[hr]at hl;cases hl
   |ok l'=>
    rw[hr]at hl;cases hl;rw[ZW c ent t r i l' (by simpa using h) hr];simp only[List.getElem_cons_succ];have hi:i<r.length:=by simpa using h
    by_cases e2:(D4 c ent t r[i]).2≠0
    ·rw[if_pos e2,if_pos e2]
    ·rw[if_neg e2,if_neg e2];rfl
theorem ZX(c:Cat)(ent:AT)(t:Option Tbl):∀(a:List Xpr) (i:Nat) (e:Int),inferXs c ent t (a.take i)=.error e->inferXs c ent t a=.error e
 |[],i,e,h=>by simp[inferXs]at h
 |x::r,0,e,h=>by simp[inferXs]at h
 |x::r,i+1,e,h=>by
  simp only[List.take_succ_cons,inferXs]at h⊢;by_cases e1:(D4 c ent t x).2≠0
  ·rw[if_pos e1]at h⊢;exact h
  ·rw[if_neg e1]at h⊢;cases hr:inferXs c ent t (r.take i)with
   |error q=>rw[hr]at h;rw[ZX c ent t r i q hr];exact h
   |ok l'=>rw[hr]at h;cases h
def UB(k:Int):Nat:=if k=1 then 302 else if k=2 then 303 else if k=3 then 304 else if k=4 then 305 else if k=5 then 306
 else if k=6 then 307 else if k=7 then 308 else if k=8 then 309 else 310
theorem uu(c:Cat)(e0:AT)(fld:I)(k:Int)(hk:1<=k/\k<=9):Is mx 280 [.agg (ED c e0 fld),iI k] (.fn (UB k) [.agg (ED c e0 fld)] []):=by
 refine MX sr ?_;have jk:k=1\/k=2\/k=3\/k=4\/k=5\/k=6\/k=7\/k=8\/k=9:=by omega
 refine Lbn ?_;rcases jk with rfl|rfl|rfl|rfl|rfl|rfl|rfl|rfl|rfl<;>rfl
end
section
def KU:Option Tbl->I
 |none=>.nilfn
 |some t=>.fn 278 [] [.elt (AR t) 0]
def uB(t:Typ):Prop:=t.unit.length<=1073741824
def Hg(c:Cat):Prop:=c.features.length<=1073741824/\c.tables.length<=1073741824/\(∀f∈c.features,uB f.typ)/\∀t∈c.tables,t.fields.length<=1073741824/\∀f∈t.fields,uB f.typ
def II(t:Option Tbl):Prop:=∀t',t=some t'->t'.fields.length<=1073741824/\∀f∈t'.fields,uB f.typ
theorem UC(m:List (AT×Int)):∀ns u,(GB m ns u).1.length<=4
 |[],u=>by simp only[GB];split<;>simp;omega
 |s::r,u=>by
  simp only[GB];split
  ·simp
  ·split
   ·exact UC m r _
   ·exact UC m r _
theorem uv(l:List Fac):(HY l).1.length<=4:=by grind[HY,UC]
theorem uw(a b:List Fac)(s:Int):(En a b s).1.length<=4:=by grind[En,uv]
theorem Gd:uB AK:=by simp[uB]
theorem ux{c:Cat}(hc:Hg c){t:Option Tbl}(ht:II t){ent:AT}{x:Xpr}{l:List Typ}(hx:bX x<=1073741824)(hl:∀y∈l,uB y):uB (HZ c ent t x l).1:=by
 have hn:∀n e,uB (DR c.features n e).1:=fun n e=>by
  unfold DR;split
  ·exact Gd
  ·rename_i f hf;split
   ·exact Gd
   ·exact hc.2.2.1 f (List.mem_of_find?_eq_some hf)
 have hg:∀i,uB (l.getD i default):=fun i=>by
  by_cases h:i<l.length
  ·exact hl _ (AA h)
  ·have:l.getD i default=default:=by simp[List.getD,List.getElem?_eq_none (Nat.le_of_not_lt h)]
   rw[this];simp[uB];decide
 have hs:∀a b,uB a->uB (Gy a b).1:=fun a b h=>by
  unfold Gy;split
  ·exact Gd
  ·split
   ·exact Gd
   ·exact h
 have hp:∀a b s q,uB ⟨a,(En b s q).1,[]⟩:=fun a b s q=>by simp only[uB];have:=uw b s q;omega
 unfold HZ;split
 ·have:=ID x;simp only[uB];omega
 split
 ·cases t with
  |none=>exact Gd
  |some t'=>
   simp only[GC];split
   ·exact Gd
   ·rename_i f hf;exact(ht t' rfl).2 f (List.mem_of_find?_eq_some hf)
 split
 ·exact hn _ _
 split
 ·split
  ·exact Gd
  ·exact hn _ _
 split
 ·unfold NQ
  repeat' split
  all_goals first|exact Gd|exact hg 0|(simp[uB];done)|(have:=hg 0;simpa[uB]using this)
 split
 ·unfold NR
  repeat' split
  all_goals first|exact Gd|exact hg 0|(simp[uB];done)
 split
 ·unfold E3
  repeat' split
  all_goals first|exact Gd|exact hg 0|(simp[uB];done)|exact hp _ _ _ _|(have:=hg 0;simpa[uB]using this)
 split
 ·split
  ·exact Gd
  ·exact hs _ _ (hg 1)
 ·exact hs _ _ (hg 0)
theorem uy(c:Cat)(ent:AT)(t:Option Tbl)(x:Xpr)(l:List Typ)(hk:1<=x.kind/\x.kind<=9)(hl:(l.length:Int)=JF x.kind)(hc:Hg c)(ht:II t)(h2:x.kind=2->t.isSome=true)(hu:∀y∈l,uB y):
  Is mx (UB x.kind) [.agg (ED c ent (KU t)),.agg (eE x),.sl (l.map Ar)] (AH (HZ c ent t x l)):=by
 have hg:∀i,i<l.length->(l.getD i default).unit.length<=1073741824:=fun i h=>hu _ (AA h)
 have jk:x.kind=1\/x.kind=2\/x.kind=3\/x.kind=4\/x.kind=5\/x.kind=6\/x.kind=7\/x.kind=8\/x.kind=9:=by omega
 rcases jk with h|h|h|h|h|h|h|h|h<;>simp[h,JF]at hl<;>simp only[UB,HZ,h,Int.reduceEq,if_true,if_false]
 ·exact ui c ent _ x l
 ·cases t with
  |none=>have:=h2 h;simp at this
  |some t'=>exact uj c ent t' x l (ht t' rfl).1
 ·exact uk c ent _ x l hc.1
 ·exact ul c ent _ x l hc.1 (by omega)
 ·exact uo c ent _ x l (by omega)
 ·exact um c ent _ x l (by omega)
 ·exact ut c ent _ x l (by omega) (hg 0 (by omega)) (hg 1 (by omega))
 ·exact uq c ent _ x l (by omega) (hg 1 (by omega))
 ·exact ur c ent _ x l (by omega) (hg 0 (by omega))
end
section
theorem UD{c:Cat}(hc:Hg c){ent:AT}(n:Nat)(ih:∀(t:Option Tbl) (x:Xpr),II t->bX x<=n->bX x<=1073741824->uB (D4 c ent t x).1):∀(t:Option Tbl) (a:List Xpr) (l:List Typ),II t->(∀x∈a,bX x<=n/\bX x<=1073741824)->inferXs c ent t a=.ok l->∀y∈l,uB y
 |t,[],l,ht,h,he,y,hy=>by simp only[inferXs]at he;cases he;simp at hy
 |t,x::r,l,ht,h,he,y,hy=>by
  simp only[inferXs]at he;split at he
  ·cases he
  ·split at he
   ·cases he
   ·rename_i l' hl';cases he;rcases List.mem_cons.1 hy with e|e
    ·subst e;exact ih t x ht (h x (by simp)).1 (h x (by simp)).2
    ·exact UD hc n ih t r l' ht (fun z hz=>h z (by simp[hz])) hl' y e
theorem uz{c:Cat}(hc:Hg c){ent:AT}{x:Xpr}{t':Tbl}(h:H0 c ent x=.ok t'):II (some t'):=by
 unfold H0 at h;split at h
 ·cases h
 ·rename_i q hq;split at h
  ·cases h
  ·cases h;intro z hz;cases hz;exact hc.2.2.2 _ (List.mem_of_find?_eq_some hq)
theorem ZY{c:Cat}(hc:Hg c){ent:AT}{t:Option Tbl}(ht:II t){x:Xpr}{t':Option Tbl}(h:inT c ent t x=.ok t'):II t':=by grind[inT,H0,uz]
theorem ZZ{c:Cat}(hc:Hg c){ent:AT}:∀(n:Nat) (t:Option Tbl) (x:Xpr),II t->bX x<=n->bX x<=1073741824->uB (D4 c ent t x).1:=by
 intro n
 induction n with
 |zero=>intro t x _ h;have:=HQ x;omega
 |succ n ih=>
  intro t x ht hb hx;rw[RB];cases e:inT c ent t x with
  |error q=>exact Gd
  |ok t'=>
   have ht':=ZY hc ht e;simp only;cases e2:inferXs c ent t' x.args with
   |error q=>exact Gd
   |ok l=>exact ux hc ht hx (UD hc n (fun t x h1 h2 h3=>ih t x h1 h2 h3) t' x.args l ht' (fun y hy=>by have:=Fu hy;omega) e2)
theorem uA{x:Xpr}{i:Bool}(h:IE x i=true):1<=x.kind/\x.kind<=9/\(x.kind=2->i=true):=by
 unfold IE at h;by_cases h1:x.kind=1
 ·omega
 rw[if_neg h1]at h;by_cases h2:x.kind=2\/x.kind=3\/x.kind=4
 ·rw[if_pos h2,Bool.and_eq_true]at h;refine⟨by omega,by omega,fun e=>?_⟩;have:=h.1;simp only[e,decide_true,beq_iff_eq]at this;exact this
 rw[if_neg h2]at h;by_cases h5:x.kind=5
 ·omega
 rw[if_neg h5]at h;by_cases h6:x.kind=6
 ·omega
 rw[if_neg h6]at h;by_cases h7:x.kind=7
 ·omega
 rw[if_neg h7]at h;simp only[Bool.or_eq_true,decide_eq_true_eq]at h;omega
theorem uC(c:Cat)(ent:AT)(hc:Hg c):∀(n:Nat) (t:Option Tbl) (x:Xpr),II t->bX x<=n->bX x<=1073741824->HS x t.isSome=true->
  Is mx 245 [.agg (ED c ent (KU t)),.agg (eE x)] (AH (D4 c ent t x)):=by
 intro n
 induction n with
 |zero=>intro t x _ h;have:=HQ x;omega
 |succ n ih=>
  intro t x ht hb hx hpr;rw[Mj]at hpr;simp only[Bool.and_eq_true,decide_eq_true_eq]at hpr;obtain⟨⟨⟨⟨hh,hbare⟩,jd⟩,jz⟩,_⟩:=hpr;obtain⟨kt,qo,qh⟩:=uA hh;rw[Rn,List.all_eq_true]at jz;have vl:=Mh x;refine MX po ?_;refine OG ?_;have kd:(KU t).one=true:=by cases t<;>rfl
  have hIx:=ud (mx:=mx) (fun t=>decide (t.name=x.table)) c.tables 277 [] [.elt (eE x) 0] hc.2.1 (fun y _=>uf y x);have hF:=Mq (fun t:Tbl=>decide (t.name=x.table)) c.tables;generalize Bk (fun t:Tbl=>decide (t.name=x.table)) c.tables=q at hIx hF;refine⟨kd,?_⟩;cases hT:inT c ent t x with
  |error e=>
   have h5:x.kind=5:=by grind[inT]
   have hR:D4 c ent t x=(AK,e):=by rw[RB,hT]
   have hT2:H0 c ent x=.error e:=by unfold inT at hT;rw[if_pos h5]at hT;grind
   unfold H0 at hT2;rw[hR];rcases hF with⟨hq,hf⟩|⟨hq,jn,hf⟩
   ·rw[hf]at hT2;cases hT2;refine Dp (cj hIx (cj @Dg (cj h5 hq))) ?_;rfl
   ·rw[hf]at hT2;simp only at hT2;split at hT2
    ·rename_i ji;cases hT2;refine Kas (cj hIx (cj @Dg (cj h5 (cj (Int.not_lt.2 hq) ji)))) ?_;rfl
    ·cases hT2
  |ok t'=>
   have ht':=ZY hc ht hT;have wj:t'.isSome=(t.isSome||decide (x.kind=5)):=by
    unfold inT at hT;split at hT
    all_goals grind
   have hone':(KU t').one=true:=by cases t'<;>rfl
   refine cutS [2,3,4,6] (by simp only[V0,MQ,reduceIte,Nat.reduceEqDiff];rfl) [] [(6,.cells ((ED c ent (KU t')).map .i)),(4,.cells ((Ar AK).map .i))] True ?_ (fun _=>?_)
   ·by_cases h5:x.kind=5
    ·have hT2:∃z,H0 c ent x=.ok z/\t'=some z:=by unfold inT at hT;rw[if_pos h5]at hT;grind
     obtain⟨z,hz,rfl⟩:=hT2;unfold H0 at hz;rcases hF with⟨hq,hf⟩|⟨hq,jn,hf⟩
     ·rw[hf]at hz;cases hz
     ·rw[hf]at hz;simp only at hz;split at hz
      ·cases hz
      ·rename_i ji;cases hz;have hne':(c.tables.getD q.toNat default).entity=ent:=by grind
       (repeat' first|simp(disch:=omega)only[go_sem,simprocAttr,h5,eq_false (Int.not_lt.2 hq),hne',ne_eq,not_true_eq_false,KU,List.map_cons,List.map_nil]|refine Sx.s ?_ ?_<;>try(intro h;have h':=h;try simp only[HB]at h';try rewrite [h];try simp only[h])|refine Ab (hIx) ?_|refine Ae ?_|(refine And.intro ?_ ?_;focus omega))
    ·have:t'=t:=by unfold inT at hT;rw[if_neg h5]at hT;cases hT;rfl
     subst this;exact Pm h5 trivial
   ·have hR:D4 c ent t x=match inferXs c ent t' x.args with|.error e=>(AK,e)|.ok l=>HZ c ent t x l:=by rw[RB,hT]<;>rfl
    (repeat' first|simp(disch:=omega)only[go_sem,simprocAttr,List.map_cons,List.map_nil]|fail)
    refine BG [2,3,4,6,45,46] (by simp only[V0,MQ,reduceIte,Nat.reduceEqDiff];rfl) (fun g:Nat×List Typ=>[(9,.ref (.sl 9 3 0 g.2.length)),(47,.i (iI g.1))]) (fun g=>[(9,.rows 53 3 (g.2.map Ar)),(6,.cells ((ED c ent (KU t')).map .i)),(4,.cells ((Ar AK).map .i))])
     (fun g=>g.1<=x.args.length/\inferXs c ent t' (x.args.take g.1)=.ok g.2/\g.2.length=g.1) (fun g=>x.args.length-g.1) (0,[]) (by simp[inferXs]) (by simp[V0,I9,Ref.nm,Ar,D.nms,OL]) ?_
    rintro⟨i,l⟩ ⟨hi,hl,qq⟩;simp only at hi hl qq;by_cases ja:i<x.args.length
    ·have kl:=AA ja;have hba:=Fu kl;have i1:=ih t' (x.args.getD i default) ht' (by omega) (by omega) (by rw[wj];exact jz _ kl);have ke:=ZW c ent t' x.args i l ja hl;rw[<-AS ja]at ke;generalize hy:D4 c ent t' (x.args.getD i default)=y at i1 ke;refine A4 (cj i1 (cj @Dg (cj (Cq ja) @AH.eq_1))) (cj ?_ ?_)
     ·intro h h';rw[if_pos h']at ke;have:=ZX c ent t' x.args (i+1) _ ke;rw[this]at hR;rw[hR];rfl
     ·intro _ _;rw[if_neg (by omega)]at ke;refine⟨by simp[],by simp[I.one],by omega,by omega,⟨i+1,l++[y.1]⟩,⟨by omega,ke,by simp[qq]⟩,by show x.args.length-(i+1)<_;omega,⟨by simp,rfl⟩,?_⟩;simp[Ar]
    ·have e:i=x.args.length:=by omega
     subst e;rw[List.take_length]at hl;have k9:=UD hc n (fun t x h1 h2 h3=>ZZ hc n t x h1 h2 h3) t' x.args l ht' (fun z hz=>by have:=Fu hz;omega) hl;have hrc:=uy (mx:=mx) c ent t x l ⟨kt,qo⟩ (by rw[qq];exact jd) hc ht qh k9;have hrR:D4 c ent t x=HZ c ent t x l:=by rw[hR,hl]
     refine By (cj @uu (cj hrc (cj (Ih ja) @AH.eq_1))) ?_;rw[hrR]
end
section
def Hh(c:Cat)(ent:AT)(x:Xpr):Typ×Int:=if IF x≠0 then(AK,IF x)else D4 c ent none x
theorem uD{x:Xpr}(h:IF x=0):HS x false=true:=by grind[IF]
theorem Z0:II none:=fun _ h=>by cases h
theorem uE(c:Cat)(ent:AT)(x:Xpr)(hc:Hg c)(hx:bX x<=1073741824):Is mx 194 [.agg (At c),.str ent,.agg (eE x)] (AH (Hh c ent x)):=by
 refine MX nP ?_;by_cases h0:IF x=0
 ·have hI:=uC (mx:=mx) c ent hc _ none x Z0 (Nat.le_refl _) hx (uD h0);have hT:Hh c ent x=D4 c ent none x:=by grind[Hh]
  rw[hT];simp only[KU]at hI;exact A4 (cj (Us x hx) (cj hI (cj h0 @AH.eq_1))) trivial
 ·have hT:Hh c ent x=(AK,IF x):=by unfold Hh;rw[if_pos h0]
  rw[hT];exact A4 (cj (Us x hx) (cj @Dg (cj h0 @AH.eq_1))) trivial
theorem RC(a b:List Fac)(ha:a.length<=1073741824)(hb:b.length<=1073741824):Is mx 261 [.sl (a.map Aw),.sl (b.map Aw)] (.bool (decide (a=b))):=by
 refine MX n8 ?_;refine WB (cj ?_ ?_)
 ·intro _ _;refine congrArg I.bool ?_;have:a≠b:=fun e=>by grind
  simp[this]
 ·intro h h';refine lS [0,1] (fun i=>[(5,.i (iI i))]) (fun _=>[]) (fun i=>a.take i=b.take i) a.length ?_;intro i hi jb;by_cases ja:i<a.length
  ·have jt:i<b.length:=by omega
   refine Ka (Cq ja) (cj ?_ ?_)
   ·intro _ _;refine congrArg I.bool ?_;have:a≠b:=fun e=>by grind
    simp[this]
   ·intro h h';refine Za jb ja jt ?_;simp only[Bool.not_eq_false',Bool.and_eq_true,beq_iff_eq]at h;simp only[AS ja,AS jt]at h;exact Zb h.1 h.2
  ·refine Hw (Ih ja) ?_;refine congrArg I.bool ?_;have e:i=a.length:=by omega
   rw[e]at jb;rw[List.take_length,List.take_of_length_le (by omega)]at jb;simp[jb]
def RD(c:Cat)(f:Ftr):Int:=
 if(!CQ f.name||!CQ f.entity||decide (f.version<0))=true then 3 else if JD f.typ≠0 then JD f.typ
 else if(Hh c f.entity f.body).2≠0 then(Hh c f.entity f.body).2 else(Gy (Hh c f.entity f.body).1 f.typ).2
theorem uF{c:Cat}(hc:Hg c){ent:AT}{x:Xpr}(hx:bX x<=1073741824):uB (Hh c ent x).1:=by grind[Hh,Gd,ZZ,Z0]
end
section
theorem uG(c:Cat)(ft:Ftr)(hc:Hg c)(hf:uB ft.typ)(hx:bX ft.body<=1073741824):Is mx 140 [.agg (At c),.agg (Ag ft)] (iI (RD c ft)):=by
 refine MX nG ?_;have hu:=uF hc (ent:=ft.entity) hx
 (repeat' first|exact Av _|simp(disch:=omega)only[go_sem,simprocAttr,AH]|refine' AD (fun hq=>?_) (fun f=>?_)<;>try(have je:=hq;try simp only[HB]at je)|refine Sx.s ?_ ?_<;>try(intro h;have h':=h;try simp only[HB]at h';try rewrite [h];try simp only[h])|refine Ab (FZ _) ?_|refine Ab (Rk ft.typ hf) ?_|refine Ab (uE c _ _ hc hx) ?_|refine Ab (Uc _ _ hu) ?_|refine Ae ?_|refine Sz.s ?_|fail)
 all_goals(refine congrArg (I.int .i64) ?_;simp only[RD];grind)
def KV:List Fld->List Fld->Int
 |_,[]=>0
 |seen,f::r=>if(!CQ f.name)=true then 3 else if(seen.any fun g=>decide (g.name=f.name))=true then 121 else if JD f.typ≠0 then JD f.typ else KV (seen++[f]) r
def Ms(t:Tbl):Int:=
 if(!CQ t.name||!CQ t.entity||decide (t.keep<0)||decide (1099511627776<t.keep))=true then 3 else if 8<t.fields.length then 2 else KV [] t.fields
theorem uH(g:Fld)(f0:List I)(name:AT)(h0:f0.length=4)(hn:f0.getD 0 .undef=.str name):Is mx 191 [.agg (Cc g),.elt f0 0] (.bool (decide (g.name=name))):=by
 refine MX pa ?_;have e1:pk false f0 0 1=.str name:=by grind[pk]
 exact Hw (cj h0 e1) trivial
theorem uI(p:Fld->Bool)(l:List Fld)(fn:Nat)(fs cs:List I)(hl:l.length<=1073741824)(hp:∀x∈l,Is mx fn (fs++[.agg (Cc x)]++cs) (.bool (p x))):
  Is mx 190 [.sl (l.map Cc),.fn fn fs cs] (.bool (l.any p)):=by
 refine MX nO ?_;refine Dp @ZU ?_;refine congrArg I.bool ?_;have:=@Ub _ p l;rw[Bool.eq_iff_iff];simpa using this
theorem uJ(t:Tbl)(ht:∀x∈t.fields,uB x.typ)(hl:t.fields.length<=1073741824):Is mx 138 [.agg (AR t)] (iI (Ms t)):=by
 refine MX pV ?_
 (repeat' first|exact Av _|simp(disch:=omega)only[go_sem,simprocAttr]|refine' AD (fun hq=>?_) (fun f=>?_)<;>try(have je:=hq;try simp only[HB]at je)|refine Sx.s ?_ ?_<;>try(intro h;have h':=h;try simp only[HB]at h';try rewrite [h];try simp only[h])|refine Ab (FZ _) ?_|refine Ae ?_|refine Sz.s ?_|fail)
 ·refine congrArg (I.int .i64) ?_;simp only[Ms];grind
 ·refine congrArg (I.int .i64) ?_;simp only[Ms];grind
 have hT:Ms t=KV [] t.fields:=by grind[Ms]
 rw[hT];refine lS [1,31,32] (fun i=>[(33,.i (iI i))]) (fun _=>[]) (fun i=>KV (t.fields.take i) (t.fields.drop i)=KV [] t.fields) t.fields.length ?_ (by simp);intro i hi jb;by_cases ja:i<t.fields.length
 ·have kl:=AA ja;rw[List.drop_eq_getElem_cons ja,<-AS ja]at jb;simp only[KV]at jb;have ke:t.fields.take (i+1)=t.fields.take i++[t.fields.getD i default]:=by simp_all
  generalize hg:t.fields.getD i default=g at jb kl ke;have hA:=uI (mx:=mx) (fun y=>decide (y.name=g.name)) (t.fields.take i) 191 [] [.elt (Cc g) 0] (by simp;omega) (fun y _=>uH y (Cc g) g.name rfl rfl);have hr:(∀r∈t.fields.map Cc,r.length=4)=True:=eq_true (Bi (f:=Cc) (k:=4) t.fields (fun _=>rfl) (fun _=>rfl)).1;have jj:((i:Int)<=(t.fields.length:Int))=True:=eq_true (by omega);have hmt:List.take i (List.map Cc t.fields)=List.map Cc (List.take i t.fields):=List.map_take.symm
  (repeat' first|simp(disch:=omega)only[go_sem,simprocAttr,Cq ja,hg,hr,jj,hmt]|refine Sx.s ?_ ?_<;>try(intro h;have h':=h;try simp only[HB]at h';try rewrite [h];try simp only[h])|refine Ab (FZ _) ?_|refine Ab (hA) ?_|refine Ab (Rk g.typ (ht g kl)) ?_|refine Ae ?_|refine Sz.s ?_|(refine And.intro ?_ ?_;focus omega))
  ·refine congrArg (I.int .i64) ?_;grind
  ·refine congrArg (I.int .i64) ?_;grind
  ·refine congrArg (I.int .i64) ?_;grind
  ·rw[ke];grind
 ·have e:i=t.fields.length:=by omega
  subst e;rw[List.drop_length]at jb;refine Hw (Ih ja) ?_;rw[<-jb];rfl
end
section
def dg(b:UInt8):Bool:=decide (48<=b.toNat/\b.toNat<=57)
theorem NS(b:UInt8):Is mx 200 [.int .u8 (b.toNat:Int)] (.bool (lc b)):=by refine MX qB ?_;refine WB ?_;refine congrArg I.bool ?_;rw[Bool.eq_iff_iff];simp[lc];omega
theorem UE(b:UInt8):Is mx 201 [.int .u8 (b.toNat:Int)] (.bool (dg b)):=by refine MX rS ?_;refine WB ?_;refine congrArg I.bool ?_;rw[Bool.eq_iff_iff];simp[dg];omega
def wcb(b:UInt8):Bool:=lc b||dg b||decide (b.toNat=95)
def IJ:AT->Nat
 |[]=>0
 |c::r=>if lc c=true then 1+(r.takeWhile wcb).length else 0
theorem uK(s:AT)(at0:Nat)(hs:s.length<=1073741824)(ha:at0<s.length):Is mx 142 [.sl (rowsB s),iI at0] (iI (IJ (s.drop at0))):=by
 refine MX pW ?_;have hd:s.drop at0=s.getD at0 default::s.drop (at0+1):=by simp_all
 have jn:=Cq ha
 (repeat' first|simp(disch:=omega)only[go_sem,simprocAttr,rowsB,jn]|refine Sx.s ?_ ?_<;>try(intro h;have h':=h;try simp only[HB]at h';try rewrite [h];try simp only[h])|refine Ab (NS (s.getD at0 default)) ?_|refine Ae ?_|refine Sz.s ?_|fail)
 ·refine congrArg (I.int .i64) ?_;rw[hd];simp only[IJ,h'];rfl
 have h'0:lc (s.getD at0 default)=true:=h';refine lT [0,1] (fun n:Nat=>[(5,.i (iI n))]) (fun _=>[]) (fun n=>1<=n/\at0+n<=s.length/\1+((s.drop (at0+1)).takeWhile wcb).length=n+((s.drop (at0+n)).takeWhile wcb).length) (fun n=>s.length-n) 1 ?_ ⟨by omega,by omega,rfl⟩;rintro n ⟨h1,h2,h3⟩;have e1:((at0:Int)+(n:Int)).toNat=at0+n:=by omega
 by_cases hn:at0+n<s.length
 ·have hl:((at0:Int)+(n:Int)<(s.length:Int))=True:=eq_true (by omega);have hd2:s.drop (at0+n)=s.getD (at0+n) default::s.drop (at0+n+1):=by simp_all
  rw[hd2,List.takeWhile_cons]at h3;generalize hb:s.getD (at0+n) default=b at h3;have jr:wcb b=true->∃i',(1<=i'/\at0+i'<=s.length/\1+((s.drop (at0+1)).takeWhile wcb).length=i'+((s.drop (at0+i')).takeWhile wcb).length)/\s.length-i'<s.length-n/\D.i (I.int .i64 ((n:Int)+1))=D.i (iI i'):=fun hw=>by rw[if_pos hw]at h3;refine⟨n+1,⟨by omega,by omega,?_⟩,by omega,rfl⟩;grind
  have qd:wcb b=false->(n:Int)=(IJ (s.drop at0):Nat):=fun hw=>by grind[IJ]
  have h95:((b.toNat:Int)=95)=(b.toNat=95):=by grind
  cases wn:lc b<;>cases hc2:dg b
  ·by_cases hc3:b.toNat=95
   ·(repeat' first|simp(disch:=omega)only[go_sem,simprocAttr,e1,hl,hb,wn,hc2,h95,eq_true hc3]|refine Sx.s ?_ ?_<;>try(intro h;have h':=h;try simp only[HB]at h';try rewrite [h];try simp only[h])|refine Ab (NS b) ?_|refine Ab (UE b) ?_|refine Ae ?_|(refine And.intro ?_ ?_;focus omega))
    exact jr (by simp[wcb,wn,hc2,hc3])
   ·refine Ka (cj (NS b) (cj (UE b) (cj e1 (cj hl (cj hb (cj wn (cj hc2 (cj h95 hc3)))))))) ?_;exact congrArg (I.int .i64) (qd (by simp[wcb,wn,hc2,hc3]))
  ·refine Ka (cj (NS b) (cj (UE b) (cj e1 (cj hl (cj hb (cj wn hc2)))))) ?_;exact jr (by simp[wcb,wn,hc2])
  ·refine Ka (cj (NS b) (cj e1 (cj hl (cj hb wn)))) ?_;exact jr (by simp[wcb,wn,hc2])
  ·refine Ka (cj (NS b) (cj e1 (cj hl (cj hb wn)))) ?_;exact jr (by simp[wcb,wn,hc2])
 ·have hl:((at0:Int)+(n:Int)<(s.length:Int))=False:=eq_false (by omega);refine Hw hl ?_;refine congrArg (I.int .i64) ?_;have:s.drop (at0+n)=[]:=List.drop_eq_nil_of_le (by omega);rw[this]at h3;rw[hd];simp only[IJ];rw[if_pos h'0];simp at h3;omega
end
section
def RE:List AT:=[[116,97,98,108,101],[102,101,97,116,117,114,101],[111,102],[107,101,101,112],[98,111,111,108],[116,101,120,116],[107,101,121],[105,110,116],[100,101,99],[105,102],[116,104,101,110],[101,108,115,101],[100,101,102,97,117,108,116],[111,114],[97,110,100],[110,111,116],[116,114,117,101],[102,97,108,115,101],[110,117,108,108],[99,111,117,110,116],[115,117,109],[109,101,97,110],[109,105,110],[109,97,120],[102,105,114,115,116],[108,97,115,116],[100,105,115,116,105,110,99,116],[113,117,97,110,116,105,108,101],[100,101,99,97,121],[97,108,108],[115,108,105,100,105,110,103],[116,117,109,98,108,105,110,103],[115,101,115,115,105,111,110],[119,104,101,114,101]]
def RF(s:AT):Bool:=RE.any fun k=>decide (s=k)
theorem uL(s:AT):Is mx 143 [.str s] (.bool (RF s)):=by
 refine MX rH ?_
 (repeat' first|simp(disch:=omega)only[go_sem,simprocAttr]|refine Sx.s ?_ ?_<;>try(intro h;have h':=h;try simp only[HB]at h';try rewrite [h];try simp only[h])|refine Ae ?_|refine Sz.s ?_|fail)
 all_goals(refine congrArg I.bool ?_;simp[RF,RE, *])
end
section
def Di(s:AT):Bool:=decide (s≠[])&&decide (s.length<=24)&&decide (IJ s=s.length)&&!RF s
theorem IK(s:AT):Is mx 104 [.str s] (.bool (Di s)):=by
 refine MX ru ?_;by_cases h0:s=[]
 ·subst h0
  (repeat' first|simp(maxSteps:=9999999) (decide:=true) (disch:=omega)only[go_sem,simprocAttr]|refine Sz.s ?_|fail)
  rfl
 ·have jx:0<s.length:=by cases s;exact(h0 rfl).elim;simp
  by_cases h1:s.length<=24
  ·have hw:=uK (mx:=mx) s 0 (by omega) jx;simp only[List.drop_zero]at hw;have jj:((s.length:Int)<=24)=True:=eq_true (by omega);have hz:decide (((IJ s:Nat):Int)=(s.length:Int))=decide (IJ s=s.length):=by grind
   refine A4 (cj @uL (cj hw (cj h0 (cj jj hz)))) ?_
   all_goals intros
   all_goals(refine congrArg I.bool ?_;simp[Di,h0,h1])
  ·have jj:((s.length:Int)<=24)=False:=eq_false (by omega);refine By (cj h0 jj) ?_
   all_goals intros
   all_goals(refine congrArg I.bool ?_;simp[Di,h0,h1])
end
section
theorem Z1(n:Int):Is mx 286 [iI n] (.bool (Gc n)):=by refine MX oh ?_;refine WB ?_;refine congrArg I.bool ?_;rw[Bool.eq_iff_iff];simp[Gc]
theorem Z2(s:AT)(hs:s.length<=1073741824):Is mx 285 [.str s] (.bool (B5 s)):=by
 refine MX su ?_;refine Kb (cj ?_ ?_)
 ·intro _ _;refine congrArg I.bool ?_;have e:(decide (s≠[])&&decide (s.length<=24)&&lc (s.getD 0 0))=false:=by grind[lc]
  simp only[B5,e,Bool.false_and]
 ·intro h h';have w0:B5 s=s.all wc:=by
   have e1:lc (s.getD 0 0)=true:=by grind[lc]
   have e2:s≠[]:=fun e=>by grind
   have e3:s.length<=24:=by omega
   simp_all[B5,e1,e2,e3]
  refine lS [0] (fun i=>[(3,.i (iI i))]) (fun _=>[]) (fun i=>(s.take i).all wc=true) s.length ?_;intro i hi jb;by_cases ja:i<s.length
  ·refine Ka (Cq ja) (cj ?_ ?_)
   ·intro _ _;refine congrArg I.bool ?_;rw[w0];exact(TZ (d:=0) (i:=i) (by omega) (by simp only[wc,decide_eq_false_iff_not];grind)).symm
   ·intro _ _;exact BR (d:=0) jb (by omega) (by simp only[wc,decide_eq_true_eq];grind)
  ·refine Hw (Ih ja) ?_;refine congrArg I.bool ?_;rw[w0];have e:i=s.length:=by omega
   rw[e,List.take_length]at jb;exact jb.symm
end
section
theorem PE(u:List Fac)(hu:u.length<=1073741824)(hn:∀x∈u,x.name.length<=1073741824):Is mx 256 [.sl (u.map Aw)] (iI (BJ u)):=by
 refine MX sg ?_;refine WB (cj ?_ ?_)
 ·intro _ _;simp only[BJ];rw[if_pos (by omega)]
 ·intro h h';have e:BJ u=uc none u:=by simp only[BJ];rw[if_neg (by omega)]
  rw[e];refine lS [0] (fun i=>[(3,.i (iI i))]) (fun _=>[]) (fun i=>uc none u=uc (Fq u i) (u.drop i)) u.length ?_ (by simp[Fq]);intro i hi jb;by_cases ja:i<u.length
  ·have hm:(match Fq u i with|some q=>Op.bytesLess (u.getD i default).name q||decide ((u.getD i default).name=q)|none=>false)=(decide (0<(i:Int))&&(Op.bytesLess (u.getD i default).name (u.getD (↑i-1:Int).toNat default).name||decide ((u.getD i default).name=(u.getD (↑i-1:Int).toNat default).name))):=by
    have e1:(↑i-1:Int).toNat=i-1:=by omega
    by_cases h0:i=0
    ·simp[Fq,h0]
    ·have:0<(i:Int):=by omega
     simp only[Fq,h0,if_false,e1,decide_eq_true this,Bool.true_and]
   have hs:Fq u (i+1)=some (u.getD i default).name:=by simp[Fq]
   have jb:uc none u=if(!B5 (u.getD i default).name)=true then 1 else if(decide ((u.getD i default).exp=0)||decide ((u.getD i default).exp>8\/(u.getD i default).exp< -8))=true then 70 else
     if(decide (0<(i:Int))&&(Op.bytesLess (u.getD i default).name (u.getD (↑i-1:Int).toNat default).name||decide ((u.getD i default).name=(u.getD (↑i-1:Int).toNat default).name)))=true then 3 else uc (Fq u (i+1)) (u.drop (i+1)):=by
    rw[jb,Zf ja,hs];exact congrArg (fun b:Bool=>if(!B5 (u.getD i default).name)=true then 1 else if(decide ((u.getD i default).exp=0)||decide ((u.getD i default).exp>8\/(u.getD i default).exp< -8))=true then 70 else if b=true then 3 else uc (some (u.getD i default).name) (u.drop (i+1))) hm
   have jl:=hn _ (AA ja)
   (repeat' first|exact Av _|simp(disch:=omega)only[go_sem,simprocAttr,Cq ja]|refine' AD (fun hq=>?_) (fun f=>?_)<;>try(have je:=hq;try simp only[HB]at je)|refine' Dr (fun hq=>?_) (fun f=>?_)<;>try(have je:=hq;try simp only[HB]at je)|refine Sx.s ?_ ?_<;>try(intro h;have h':=h;try simp only[HB]at h';try rewrite [h];try simp only[h])|refine Ab (Z2 _ jl) ?_|refine Ab (Z1 _) ?_|refine Ae ?_|refine AG ?_|refine Sz.s ?_|(refine And.intro ?_ ?_;focus omega))
   all_goals(try simp only[Gc]at*)
   ·rw[if_pos h]at jb;rw[jb]
   ·rw[if_neg (by simp only[‹(!B5 (u.getD i default).name)=false›];simp),if_pos h]at jb;rw[jb]
   ·rw[if_neg (by simp only[‹(!B5 (u.getD i default).name)=false›];simp),if_neg (by simp only[‹(decide ((u.getD i default).exp=0)||decide ((u.getD i default).exp>8\/(u.getD i default).exp< -8))=false›];simp),if_pos h]at jb;rw[jb]
   ·rw[if_neg (by simp only[‹(!B5 (u.getD i default).name)=false›];simp),if_neg (by simp only[‹(decide ((u.getD i default).exp=0)||decide ((u.getD i default).exp>8\/(u.getD i default).exp< -8))=false›];simp),if_neg (by rw[h];simp)]at jb;exact jb
  ·refine Hw (Ih ja) ?_;have e':i=u.length:=by omega
   rw[jb,e',List.drop_length];rfl
end
end Go.Proofs.YtkhlddbmhehbbaaGreatDoor
