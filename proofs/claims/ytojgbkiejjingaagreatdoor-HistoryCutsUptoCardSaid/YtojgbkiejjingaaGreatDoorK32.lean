/-
  Lemmas, no statement.
-/
import Derived.Test.YtojgbkiejjingaaGreatDoorK31
set_option linter.all false
namespace Go.As
open Go Go.Dl
variable{α:Type}
abbrev Bs:=List UInt8
structure Fac where
 name:Bs
 exp:Int
deriving DecidableEq,Inhabited
structure Val where
 kind:Int
 n:Int
 s:Bs
deriving DecidableEq,Inhabited
structure Typ where
 kind:Int
 unit:List Fac
 of:Bs
deriving DecidableEq,Inhabited
structure Win where
 kind:Int
 size:Int
deriving DecidableEq,Inhabited
inductive Xpr where
 |mk (kind:Int) (op name table:Bs) (val:Val) (unit:List Fac) (param:Int) (win:Win) (args:List Xpr)
deriving Inhabited
namespace Xpr
def kind:Xpr->Int|.mk k _ _ _ _ _ _ _ _=>k
def op:Xpr->Bs|.mk _ o _ _ _ _ _ _ _=>o
def name:Xpr->Bs|.mk _ _ n _ _ _ _ _ _=>n
def table:Xpr->Bs|.mk _ _ _ t _ _ _ _ _=>t
def val:Xpr->Val|.mk _ _ _ _ v _ _ _ _=>v
def unit:Xpr->List Fac|.mk _ _ _ _ _ u _ _ _=>u
def param:Xpr->Int|.mk _ _ _ _ _ _ p _ _=>p
def win:Xpr->Win|.mk _ _ _ _ _ _ _ w _=>w
def args:Xpr->List Xpr|.mk _ _ _ _ _ _ _ _ a=>a
end Xpr
structure Fld where
 name:Bs
 typ:Typ
deriving Inhabited
structure Tbl where
 name:Bs
 entity:Bs
 fields:List Fld
 keep:Int
deriving Inhabited
structure Ftr where
 name:Bs
 entity:Bs
 typ:Typ
 body:Xpr
 version:Int
deriving Inhabited
structure Cat where
 tables:List Tbl
 features:List Ftr
 drafts:List Ftr
 past:List Ftr
deriving Inhabited
abbrev iI(n:Int):I:=.int .i64 n
def AC(f:Fac):List I:=[.str f.name,.int .i64 f.exp]
def A9(v:Val):List I:=[.int .i64 v.kind,.int .i64 v.n,.str v.s]
def AM(t:Typ):List I:=[.int .i64 t.kind,.sl (t.unit.map AC),.str t.of]
def EK(w:Win):List I:=[.int .i64 w.kind,.int .i64 w.size]
mutual
def eE:Xpr->List I
 |.mk k o n t v u p w a=>[.int .i64 k,.str o,.str n,.str t,.int .i64 v.kind,.int .i64 v.n,.str v.s,.sl (u.map AC),.int .i64 p,.int .i64 w.kind,.int .i64 w.size,.sl (eEs a)]
def eEs:List Xpr->List (List I)
 |[]=>[]
 |x::r=>eE x::eEs r
end
theorem Oj:∀l,eEs l=l.map eE
 |[]=>by simp[eEs]
 |x::r=>by simp[eEs,Oj r]
def BN(f:Fld):List I:=[.str f.name,.int .i64 f.typ.kind,.sl (f.typ.unit.map AC),.str f.typ.of]
def AP(t:Tbl):List I:=[.str t.name,.str t.entity,.sl (t.fields.map BN),.int .i64 t.keep]
def At(f:Ftr):List I:=[.str f.name,.str f.entity]++AM f.typ++eE f.body++[.int .i64 f.version]
def Aw(c:Cat):List I:=[.sl (c.tables.map AP),.sl (c.features.map At),.sl (c.drafts.map At),.sl (c.past.map At)]
theorem xP:(∀f,(AC f).length=2)/\(∀v,(A9 v).length=3)/\(∀t,(AM t).length=3)/\(∀w,(EK w).length=2)/\(∀x,(eE x).length=12)/\(∀f,(BN f).length=4)/\(∀t,(AP t).length=4)/\(∀f,(At f).length=18)/\(∀c,(Aw c).length=4):=
 ⟨fun _=>rfl,fun _=>rfl,fun _=>rfl,fun _=>rfl,fun x=>by cases x;simp[eE],fun _=>rfl,fun _=>rfl,fun f=>by obtain⟨_,_,_,b,_⟩:=f;cases b;simp[At,AM,eE],fun _=>rfl⟩
theorem ET:
  (∀f,pk false (AC f) 0 1=.str f.name)/\(∀f,pk false (AC f) 1 1=.int .i64 f.exp)/\(∀f,pk true (AC f) 0 2=.agg (AC f))/\
  (∀v,pk false (A9 v) 0 1=.int .i64 v.kind)/\(∀v,pk false (A9 v) 1 1=.int .i64 v.n)/\(∀v,pk false (A9 v) 2 1=.str v.s)/\(∀v,pk true (A9 v) 0 3=.agg (A9 v))/\
  (∀t,pk false (AM t) 0 1=.int .i64 t.kind)/\(∀t,pk false (AM t) 1 1=.sl (t.unit.map AC))/\(∀t,pk false (AM t) 2 1=.str t.of)/\(∀t,pk true (AM t) 0 3=.agg (AM t))/\
  (∀w,pk false (EK w) 0 1=.int .i64 w.kind)/\(∀w,pk false (EK w) 1 1=.int .i64 w.size)/\(∀w,pk true (EK w) 0 2=.agg (EK w))/\
  (∀x,pk false (eE x) 0 1=.int .i64 x.kind)/\(∀x,pk false (eE x) 1 1=.str x.op)/\(∀x,pk false (eE x) 2 1=.str x.name)/\(∀x,pk false (eE x) 3 1=.str x.table)/\(∀x,pk true (eE x) 4 3=.agg (A9 x.val))/\
  (∀x,pk false (eE x) 4 1=.int .i64 x.val.kind)/\(∀x,pk false (eE x) 5 1=.int .i64 x.val.n)/\(∀x,pk false (eE x) 6 1=.str x.val.s)/\(∀x,pk false (eE x) 7 1=.sl (x.unit.map AC))/\(∀x,pk false (eE x) 8 1=.int .i64 x.param)/\
  (∀x,pk false (eE x) 9 1=.int .i64 x.win.kind)/\(∀x,pk false (eE x) 10 1=.int .i64 x.win.size)/\(∀x,pk true (eE x) 9 2=.agg (EK x.win))/\(∀x,pk false (eE x) 11 1=.sl (x.args.map eE))/\(∀x,pk true (eE x) 0 12=.agg (eE x))/\
  (∀f,pk false (BN f) 0 1=.str f.name)/\(∀f,pk true (BN f) 1 3=.agg (AM f.typ))/\(∀f,pk true (BN f) 0 4=.agg (BN f))/\
  (∀t,pk false (AP t) 0 1=.str t.name)/\(∀t,pk false (AP t) 1 1=.str t.entity)/\(∀t,pk false (AP t) 2 1=.sl (t.fields.map BN))/\(∀t,pk false (AP t) 3 1=.int .i64 t.keep)/\(∀t,pk true (AP t) 0 4=.agg (AP t))/\
  (∀f,pk false (At f) 0 1=.str f.name)/\(∀f,pk false (At f) 1 1=.str f.entity)/\(∀f,pk true (At f) 2 3=.agg (AM f.typ))/\(∀f,pk true (At f) 5 12=.agg (eE f.body))/\(∀f,pk false (At f) 17 1=.int .i64 f.version)/\(∀f,pk true (At f) 0 18=.agg (At f))/\
  (∀c,pk false (Aw c) 0 1=.sl (c.tables.map AP))/\(∀c,pk false (Aw c) 1 1=.sl (c.features.map At))/\(∀c,pk true (Aw c) 0 4=.agg (Aw c)):=by
 have hE:∀x:Xpr,eE x=[.int .i64 x.kind,.str x.op,.str x.name,.str x.table,.int .i64 x.val.kind,.int .i64 x.val.n,.str x.val.s,.sl (x.unit.map AC),.int .i64 x.param,.int .i64 x.win.kind,.int .i64 x.win.size,.sl (x.args.map eE)]:=fun x=>by cases x;simp[eE,Oj,Xpr.kind,Xpr.op,Xpr.name,Xpr.table,Xpr.val,Xpr.unit,Xpr.param,Xpr.win,Xpr.args]
 refine⟨?_,?_,?_,?_,?_,?_,?_,?_,?_,?_,?_,?_,?_,?_,?_,?_,?_,?_,?_,?_,?_,?_,?_,?_,?_,?_,?_,?_,?_,?_,?_,?_,?_,?_,?_,?_,?_,?_,?_,?_,?_,?_,?_,?_,?_,?_⟩<;>intro x<;>first|rfl|(simp only[At,hE];rfl)|(rw[hE];rfl)
theorem cg:(∀f,(AC f).all I.one=true)/\(∀t,(AM t).all I.one=true)/\(∀x,(eE x).all I.one=true)/\(∀f,(BN f).all I.one=true)/\(∀t,(AP t).all I.one=true)/\(∀f,(At f).all I.one=true)/\(∀c,(Aw c).all I.one=true)/\(∀v,(A9 v).all I.one=true):=
 ⟨fun _=>rfl,fun _=>rfl,fun x=>by cases x;simp[eE,I.one],fun _=>rfl,fun _=>rfl,fun f=>by obtain⟨_,_,_,b,_⟩:=f;cases b;simp[At,AM,eE,I.one],fun _=>rfl,fun _=>rfl⟩
theorem ci[Inhabited α](f:α->List I)(l:List α)(n:Nat)(h:n<l.length):(l.map f).getD n []=f (l.getD n default):=by grind
theorem A7[Inhabited α]{l:List α}{n:Nat}(h:n<l.length):l.getD n default=l[n]:=by grind
theorem AE[Inhabited α]{l:List α}{n:Nat}(h:n<l.length):l.getD n default∈l:=by grind
theorem CE{x:Int}(h1:-9223372036854775808<=x)(h2:x<=9223372036854775807):IntKind.i64.wrap x=x:=by exact Go.IntWalk.i64_in x ⟨h1,h2⟩
theorem cj(i:Nat):((i+1:Nat):Int)=(i:Int)+1:=rfl
theorem BO{p:α->Bool}{l:List α}{d:α}{i:Nat}(h:(l.take i).all p=true)(hi:i<l.length)(k:p (l.getD i d)=true):(l.take (i+1)).all p=true:=by rw[List.take_succ_eq_append_getElem hi,List.all_append,h];grind
theorem QC{p:α->Bool}{l:List α}{d:α}{i:Nat}(hi:i<l.length)(k:p (l.getD i d)=false):l.all p=false:=by grind
theorem EB:
  (∀k a b,CA .add (.int k a) (.int k b)=True)/\(∀k a b,CA .sub (.int k a) (.int k b)=True)/\(∀k a b,CA .mul (.int k a) (.int k b)=True)/\(∀k a b,CA .eql (.int k a) (.int k b)=True)/\(∀k a b,CA .neq (.int k a) (.int k b)=True)/\
  (∀k a b,CA .lss (.int k a) (.int k b)=True)/\(∀k a b,CA .leq (.int k a) (.int k b)=True)/\(∀k a b,CA .gtr (.int k a) (.int k b)=True)/\(∀k a b,CA .geq (.int k a) (.int k b)=True)/\(∀k a b,CA .quo (.int k a) (.int k b)=(b≠0))/\(∀k a b,CA .rem (.int k a) (.int k b)=(b≠0))/\
  (∀a b,CA .eql (.str a) (.str b)=True)/\(∀a b,CA .neq (.str a) (.str b)=True)/\(∀a b,CA .lss (.str a) (.str b)=True)/\(∀a b,CA .leq (.str a) (.str b)=True)/\(∀a b,CA .gtr (.str a) (.str b)=True)/\(∀a b,CA .geq (.str a) (.str b)=True)/\
  (∀a b,CA .add (.str a) (.str b)=(a.length+b.length<=9223372036854775807))/\
  (∀k k' a b,B3 .add (.int k a) (.int k' b)=.int k (k.wrap (a+b)))/\(∀k k' a b,B3 .sub (.int k a) (.int k' b)=.int k (k.wrap (a-b)))/\(∀k k' a b,B3 .mul (.int k a) (.int k' b)=.int k (k.wrap (a*b)))/\
  (∀k k' a b,B3 .quo (.int k a) (.int k' b)=.int k (k.wrap (a.tdiv b)))/\(∀k k' a b,B3 .rem (.int k a) (.int k' b)=.int k (a.tmod b))/\
  (∀k k' a b,B3 .eql (.int k a) (.int k' b)=.bool (decide (a=b)))/\(∀k k' a b,B3 .neq (.int k a) (.int k' b)=.bool (decide (a≠b)))/\(∀k k' a b,B3 .lss (.int k a) (.int k' b)=.bool (decide (a<b)))/\(∀k k' a b,B3 .leq (.int k a) (.int k' b)=.bool (decide (a<=b)))/\
  (∀k k' a b,B3 .gtr (.int k a) (.int k' b)=.bool (decide (b<a)))/\(∀k k' a b,B3 .geq (.int k a) (.int k' b)=.bool (decide (b<=a)))/\
  (∀a b,B3 .eql (.str a) (.str b)=.bool (decide (a=b)))/\(∀a b,B3 .neq (.str a) (.str b)=.bool (decide (a≠b)))/\(∀a b,B3 .lss (.str a) (.str b)=.bool (Op.bytesLess a b))/\(∀a b,B3 .leq (.str a) (.str b)=.bool (Op.bytesLess a b||decide (a=b)))/\
  (∀a b,B3 .gtr (.str a) (.str b)=.bool (!(Op.bytesLess a b||decide (a=b))))/\(∀a b,B3 .geq (.str a) (.str b)=.bool (!Op.bytesLess a b))/\(∀a b,B3 .add (.str a) (.str b)=.str (a++b)):=by
 have bs:∀a b:List UInt8,(a==b)=decide (a=b):=fun a b=>by grind
 have bi:∀a b:Int,(a==b)=decide (a=b):=fun a b=>by rfl
 refine⟨?_,?_,?_,?_,?_,?_,?_,?_,?_,?_,?_,?_,?_,?_,?_,?_,?_,?_,?_,?_,?_,?_,?_,?_,?_,?_,?_,?_,?_,?_,?_,?_,?_,?_,?_,?_⟩<;>intros<;>first|rfl|(simp only[CA];simp;done)|(simp only[B3,bs];done)|(simp only[B3,bne,bs,bi];simp)|(simp only[B3];congr 1;simp[Bool.eq_iff_iff])
def U1(a b:Option Bool):Option Bool:=match a,b with
 |some a,some b=>some (a&&b)
 |_,_=>none
theorem VE:(eqL [] [] []=some true)/\(∀l ls x xs y ys,eqL (l::ls) (x::xs) (y::ys)=U1 (Y5 l x y) (eqL ls xs ys))/\(∀a b,U1 (some a) (some b)=some (a&&b))/\(∀a b,Y5 .s (.str a) (.str b)=some (a==b))/\(∀a b,Y5 .b (.bool a) (.bool b)=some (a==b))/\(∀k a b,Y5 (.i k) (.int k a) (.int k b)=some (a==b))/\
  (∀ls x,Au (.s::ls) (.str x)=Ay (.s::ls) [.str x])/\(∀k ls k' x,Au (.i k::ls) (.int k' x)=Ay (.i k::ls) [.int k' x])/\(∀ls cs,Au (.g::ls) (.agg cs)=Ay ls cs)/\(Ay [] []=true)/\(∀l ls x xs,Ay (l::ls) (x::xs)=(A6 l x&&Ay ls xs))/\(∀s,A6 .s (.str s)=true)/\(∀b,A6 .b (.bool b)=true)/\(∀k n,A6 (.i k) (.int k n)=true):=by
 and_intros<;>intros<;>first|rfl|(simp[Y5];done)|(simp[A6];done)
theorem HB:(∀(p:Prop) [Decidable p],(decide p=true)=p)/\(∀(p:Prop) [Decidable p],(decide p=false)=¬p)/\(∀a b:Int,(¬a<b)=(b<=a))/\(∀a b:Int,(¬a<=b)=(b<a))/\(∀{α:Type} (a b:α),(a≠b)=¬a=b)/\(∀(p:Prop) [Decidable p],(¬¬p)=p)/\
  (∀a b:Bool,((a||b)=true)=(a=true\/b=true))/\(∀a b:Bool,((a&&b)=true)=(a=true/\b=true))/\(∀a b:Bool,((a||b)=false)=(a=false/\b=false))/\(∀a b:Bool,((a&&b)=false)=(a=true->b=false))/\(∀a:Bool,((!a)=true)=(a=false))/\(∀a:Bool,((!a)=false)=(a=true)):=by
 refine⟨fun p _=>by simp,fun p _=>by simp,fun a b=>by simp,fun a b=>by simp,fun a b=>rfl,fun p _=>by simp[Decidable.not_not],?_,?_,?_,?_,?_,?_⟩<;>intros<;>simp
theorem cl:(∀l:List I,(l.map D.i).flatMap D.nms=[])/\(∀(l:List I) k,((l.map D.i).take k).flatMap D.nms=[])/\(∀(l:List I) k,((l.map D.i).drop k).flatMap D.nms=[])/\(∀(l:List I) j k,(((l.map D.i).drop j).take k).flatMap D.nms=[]):=by
 have h:∀l:List I,(l.map D.i).flatMap D.nms=[]:=fun l=>by rw[List.flatMap_eq_nil_iff];intro x hx;obtain⟨y,_,rfl⟩:=List.mem_map.1 hx;rfl
 exact⟨h,fun l k=>by rw[<-List.map_take];exact h _,fun l k=>by rw[<-List.map_drop];exact h _,fun l j k=>by rw[<-List.map_drop,<-List.map_take];exact h _⟩
theorem cm:(∀l:List I,Bk (l.map D.i)=true)/\(∀(l:List I) k,Bk ((l.map D.i).take k)=true)/\(∀(l:List I) k,Bk ((l.map D.i).drop k)=true)/\(∀(l:List I) j k,Bk (((l.map D.i).drop j).take k)=true):=by grind[Bk,G5]
attribute [go_sem] cl cm
attribute [go_sem] V0 V1 V2 V3 V4 V5 V6 V7 V8 V9 wF Fz xB xC xD GF xE xF xH xI xA xG xJ xK xM G4 xL xN List.cons_append List.nil_append ci CE Int.natCast_nonneg cj Int.toNat_zero Nat.le_refl decide_true decide_false Bool.not_true Bool.not_false List.length_append ET xP EB VE cg true_and and_true and_self and_false false_and eq_self Bool.and_true Bool.true_and Bool.false_or Bool.or_false Bool.or_true Bool.true_or Bool.and_false Bool.false_and List.length_map Int.toNat_natCast Bool.not_not
attribute [go_sem] dI C3 Ins.dst AC A9 AM EK BN AP Aw if_true if_false Bool.false_eq_true Option.some.injEq
end Go.As
