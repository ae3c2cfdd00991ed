/-
  Lemmas, no statement.
-/
import Derived.Test.YtojgbkiejjingaaGreatDoorK35
set_option linter.all false
namespace Go.As
open Go Go.Dl
structure Fid where
 source:Bs
 seq:Int
deriving DecidableEq,Inhabited
structure Fct where
 id:Fid
 kind:Int
 ref:Int
 table:Bs
 key:Bs
 event:Int
 fields:List Val
deriving Inhabited
structure Ers where
 kind:Int
 entity:Bs
 key:Bs
 id:Fid
deriving DecidableEq,Inhabited
structure Chg where
 kind:Int
 table:Tbl
 feature:Ftr
 name:Bs
deriving Inhabited
structure Ent where
 no:Int
 tick:Int
 kind:Int
 fact:Fct
 erasure:Ers
 change:Chg
deriving Inhabited
structure Rw where
 id:Fid
 table:Bs
 key:Bs
 event:Int
 fields:List Val
 no:Int
 tick:Int
deriving Inhabited
theorem Mz:∀x:Xpr,eE x=[.int .i64 x.kind,.str x.op,.str x.name,.str x.table,.int .i64 x.val.kind,.int .i64 x.val.n,.str x.val.s,.sl (x.unit.map AC),.int .i64 x.param,.int .i64 x.win.kind,.int .i64 x.win.size,.sl (x.args.map eE)]:=fun x=>by cases x;simp[eE,Oj,Xpr.kind,Xpr.op,Xpr.name,Xpr.table,Xpr.val,Xpr.unit,Xpr.param,Xpr.win,Xpr.args]
def Ak(x:Fid):List I:=[.str x.source,.int .i64 x.seq]
def Bu(x:Fct):List I:=Ak x.id++[.int .i64 x.kind,.int .i64 x.ref,.str x.table,.str x.key,.int .i64 x.event,.sl (x.fields.map A9)]
def Cy(x:Ers):List I:=[.int .i64 x.kind,.str x.entity,.str x.key]++Ak x.id
def AD(x:Chg):List I:=[.int .i64 x.kind]++AP x.table++At x.feature++[.str x.name]
def Ad(x:Ent):List I:=[.int .i64 x.no,.int .i64 x.tick,.int .i64 x.kind]++Bu x.fact++Cy x.erasure++AD x.change
def KB(x:Rw):List I:=Ak x.id++[.str x.table,.str x.key,.int .i64 x.event,.sl (x.fields.map A9),.int .i64 x.no,.int .i64 x.tick]
theorem Vd(x:Fid):Ak x=[.str x.source,.int .i64 x.seq]:=by rfl
theorem Ol(x:Fct):Bu x=[.str x.id.source,.int .i64 x.id.seq,.int .i64 x.kind,.int .i64 x.ref,.str x.table,.str x.key,.int .i64 x.event,.sl (x.fields.map A9)]:=by rfl
theorem QL(x:Ers):Cy x=[.int .i64 x.kind,.str x.entity,.str x.key,.str x.id.source,.int .i64 x.id.seq]:=by rfl
theorem Cg(x:Chg):AD x=[.int .i64 x.kind,.str x.table.name,.str x.table.entity,.sl (x.table.fields.map BN),.int .i64 x.table.keep,.str x.feature.name,.str x.feature.entity,.int .i64 x.feature.typ.kind,.sl (x.feature.typ.unit.map AC),.str x.feature.typ.of,.int .i64 x.feature.body.kind,.str x.feature.body.op,.str x.feature.body.name,.str x.feature.body.table,.int .i64 x.feature.body.val.kind,.int .i64 x.feature.body.val.n,.str x.feature.body.val.s,.sl (x.feature.body.unit.map AC),.int .i64 x.feature.body.param,.int .i64 x.feature.body.win.kind,.int .i64 x.feature.body.win.size,.sl (x.feature.body.args.map eE),.int .i64 x.feature.version,.str x.name]:=by simp[AD,AP,At,AM,Mz]
theorem Ax(x:Ent):Ad x=[.int .i64 x.no,.int .i64 x.tick,.int .i64 x.kind,.str x.fact.id.source,.int .i64 x.fact.id.seq,.int .i64 x.fact.kind,.int .i64 x.fact.ref,.str x.fact.table,.str x.fact.key,.int .i64 x.fact.event,.sl (x.fact.fields.map A9),.int .i64 x.erasure.kind,.str x.erasure.entity,.str x.erasure.key,.str x.erasure.id.source,.int .i64 x.erasure.id.seq,.int .i64 x.change.kind,.str x.change.table.name,.str x.change.table.entity,.sl (x.change.table.fields.map BN),.int .i64 x.change.table.keep,.str x.change.feature.name,.str x.change.feature.entity,.int .i64 x.change.feature.typ.kind,.sl (x.change.feature.typ.unit.map AC),.str x.change.feature.typ.of,.int .i64 x.change.feature.body.kind,.str x.change.feature.body.op,.str x.change.feature.body.name,.str x.change.feature.body.table,.int .i64 x.change.feature.body.val.kind,.int .i64 x.change.feature.body.val.n,.str x.change.feature.body.val.s,.sl (x.change.feature.body.unit.map AC),.int .i64 x.change.feature.body.param,.int .i64 x.change.feature.body.win.kind,.int .i64 x.change.feature.body.win.size,.sl (x.change.feature.body.args.map eE),.int .i64 x.change.feature.version,.str x.change.name]:=by simp only[Ak,Bu,Cy,AD,Ad,AP,At,AM,Mz,List.cons_append,List.nil_append]
theorem eRw_eq(x:Rw):KB x=[.str x.id.source,.int .i64 x.id.seq,.str x.table,.str x.key,.int .i64 x.event,.sl (x.fields.map A9),.int .i64 x.no,.int .i64 x.tick]:=by rfl
theorem Ve:(∀x,(Ak x).length=2)/\(∀x,(Bu x).length=8)/\(∀x,(Cy x).length=5)/\(∀x,(AD x).length=24)/\(∀x,(Ad x).length=40)/\(∀x,(KB x).length=8):=by simp[Vd,Ol,QL,Cg,Ax,eRw_eq]
theorem cA:
  (∀x,pk false (Ak x) 0 1=.str x.source)/\
  (∀x,pk false (Ak x) 1 1=.int .i64 x.seq)/\
  (∀x,pk true (Ak x) 0 2=.agg (Ak x)):=by
 and_intros<;>intro x<;>simp only[Ak]<;>rfl
theorem cB:
  (∀x,pk true (Bu x) 0 2=.agg (Ak x.id))/\
  (∀x,pk false (Bu x) 0 1=.str x.id.source)/\
  (∀x,pk false (Bu x) 1 1=.int .i64 x.id.seq)/\
  (∀x,pk false (Bu x) 2 1=.int .i64 x.kind)/\
  (∀x,pk false (Bu x) 3 1=.int .i64 x.ref)/\
  (∀x,pk false (Bu x) 4 1=.str x.table)/\
  (∀x,pk false (Bu x) 5 1=.str x.key)/\
  (∀x,pk false (Bu x) 6 1=.int .i64 x.event)/\
  (∀x,pk false (Bu x) 7 1=.sl (x.fields.map A9))/\
  (∀x,pk true (Bu x) 0 8=.agg (Bu x)):=by
 and_intros<;>intro x<;>simp only[Ak,Bu,List.cons_append,List.nil_append]<;>rfl
theorem cC:
  (∀x,pk false (Cy x) 0 1=.int .i64 x.kind)/\
  (∀x,pk false (Cy x) 1 1=.str x.entity)/\
  (∀x,pk false (Cy x) 2 1=.str x.key)/\
  (∀x,pk true (Cy x) 3 2=.agg (Ak x.id))/\
  (∀x,pk false (Cy x) 3 1=.str x.id.source)/\
  (∀x,pk false (Cy x) 4 1=.int .i64 x.id.seq)/\
  (∀x,pk true (Cy x) 0 5=.agg (Cy x)):=by
 and_intros<;>intro x<;>simp only[Ak,Cy,List.cons_append,List.nil_append]<;>rfl
theorem cD:
  (∀x,pk false (AD x) 0 1=.int .i64 x.kind)/\
  (∀x,pk true (AD x) 1 4=.agg (AP x.table))/\
  (∀x,pk false (AD x) 1 1=.str x.table.name)/\
  (∀x,pk false (AD x) 2 1=.str x.table.entity)/\
  (∀x,pk false (AD x) 3 1=.sl (x.table.fields.map BN))/\
  (∀x,pk false (AD x) 4 1=.int .i64 x.table.keep)/\
  (∀x,pk true (AD x) 5 18=.agg (At x.feature))/\
  (∀x,pk false (AD x) 5 1=.str x.feature.name)/\
  (∀x,pk false (AD x) 6 1=.str x.feature.entity)/\
  (∀x,pk true (AD x) 7 3=.agg (AM x.feature.typ))/\
  (∀x,pk false (AD x) 7 1=.int .i64 x.feature.typ.kind)/\
  (∀x,pk false (AD x) 8 1=.sl (x.feature.typ.unit.map AC))/\
  (∀x,pk false (AD x) 9 1=.str x.feature.typ.of)/\
  (∀x,pk true (AD x) 10 12=.agg (eE x.feature.body))/\
  (∀x,pk false (AD x) 10 1=.int .i64 x.feature.body.kind)/\
  (∀x,pk false (AD x) 11 1=.str x.feature.body.op)/\
  (∀x,pk false (AD x) 12 1=.str x.feature.body.name)/\
  (∀x,pk false (AD x) 13 1=.str x.feature.body.table)/\
  (∀x,pk true (AD x) 14 3=.agg (A9 x.feature.body.val))/\
  (∀x,pk false (AD x) 14 1=.int .i64 x.feature.body.val.kind)/\
  (∀x,pk false (AD x) 15 1=.int .i64 x.feature.body.val.n)/\
  (∀x,pk false (AD x) 16 1=.str x.feature.body.val.s)/\
  (∀x,pk false (AD x) 17 1=.sl (x.feature.body.unit.map AC))/\
  (∀x,pk false (AD x) 18 1=.int .i64 x.feature.body.param)/\
  (∀x,pk true (AD x) 19 2=.agg (EK x.feature.body.win))/\
  (∀x,pk false (AD x) 19 1=.int .i64 x.feature.body.win.kind)/\
  (∀x,pk false (AD x) 20 1=.int .i64 x.feature.body.win.size)/\
  (∀x,pk false (AD x) 21 1=.sl (x.feature.body.args.map eE))/\
  (∀x,pk false (AD x) 22 1=.int .i64 x.feature.version)/\
  (∀x,pk false (AD x) 23 1=.str x.name)/\
  (∀x,pk true (AD x) 0 24=.agg (AD x)):=by
 and_intros<;>intro x<;>simp only[AD,AP,At,AM,A9,EK,Mz,List.cons_append,List.nil_append]<;>rfl
theorem cE:
  (∀x,pk false (Ad x) 0 1=.int .i64 x.no)/\
  (∀x,pk false (Ad x) 1 1=.int .i64 x.tick)/\
  (∀x,pk false (Ad x) 2 1=.int .i64 x.kind)/\
  (∀x,pk true (Ad x) 3 8=.agg (Bu x.fact))/\
  (∀x,pk true (Ad x) 3 2=.agg (Ak x.fact.id))/\
  (∀x,pk false (Ad x) 3 1=.str x.fact.id.source)/\
  (∀x,pk false (Ad x) 4 1=.int .i64 x.fact.id.seq)/\
  (∀x,pk false (Ad x) 5 1=.int .i64 x.fact.kind)/\
  (∀x,pk false (Ad x) 6 1=.int .i64 x.fact.ref)/\
  (∀x,pk false (Ad x) 7 1=.str x.fact.table)/\
  (∀x,pk false (Ad x) 8 1=.str x.fact.key)/\
  (∀x,pk false (Ad x) 9 1=.int .i64 x.fact.event)/\
  (∀x,pk false (Ad x) 10 1=.sl (x.fact.fields.map A9))/\
  (∀x,pk true (Ad x) 11 5=.agg (Cy x.erasure))/\
  (∀x,pk false (Ad x) 11 1=.int .i64 x.erasure.kind)/\
  (∀x,pk false (Ad x) 12 1=.str x.erasure.entity)/\
  (∀x,pk false (Ad x) 13 1=.str x.erasure.key)/\
  (∀x,pk true (Ad x) 14 2=.agg (Ak x.erasure.id))/\
  (∀x,pk false (Ad x) 14 1=.str x.erasure.id.source)/\
  (∀x,pk false (Ad x) 15 1=.int .i64 x.erasure.id.seq)/\
  (∀x,pk true (Ad x) 16 24=.agg (AD x.change))/\
  (∀x,pk false (Ad x) 16 1=.int .i64 x.change.kind)/\
  (∀x,pk true (Ad x) 17 4=.agg (AP x.change.table))/\
  (∀x,pk false (Ad x) 17 1=.str x.change.table.name)/\
  (∀x,pk false (Ad x) 18 1=.str x.change.table.entity)/\
  (∀x,pk false (Ad x) 19 1=.sl (x.change.table.fields.map BN))/\
  (∀x,pk false (Ad x) 20 1=.int .i64 x.change.table.keep)/\
  (∀x,pk true (Ad x) 21 18=.agg (At x.change.feature))/\
  (∀x,pk false (Ad x) 21 1=.str x.change.feature.name)/\
  (∀x,pk false (Ad x) 22 1=.str x.change.feature.entity)/\
  (∀x,pk true (Ad x) 23 3=.agg (AM x.change.feature.typ))/\
  (∀x,pk false (Ad x) 23 1=.int .i64 x.change.feature.typ.kind)/\
  (∀x,pk false (Ad x) 24 1=.sl (x.change.feature.typ.unit.map AC))/\
  (∀x,pk false (Ad x) 25 1=.str x.change.feature.typ.of)/\
  (∀x,pk true (Ad x) 26 12=.agg (eE x.change.feature.body))/\
  (∀x,pk false (Ad x) 26 1=.int .i64 x.change.feature.body.kind)/\
  (∀x,pk false (Ad x) 27 1=.str x.change.feature.body.op)/\
  (∀x,pk false (Ad x) 28 1=.str x.change.feature.body.name)/\
  (∀x,pk false (Ad x) 29 1=.str x.change.feature.body.table)/\
  (∀x,pk true (Ad x) 30 3=.agg (A9 x.change.feature.body.val))/\
  (∀x,pk false (Ad x) 30 1=.int .i64 x.change.feature.body.val.kind)/\
  (∀x,pk false (Ad x) 31 1=.int .i64 x.change.feature.body.val.n)/\
  (∀x,pk false (Ad x) 32 1=.str x.change.feature.body.val.s)/\
  (∀x,pk false (Ad x) 33 1=.sl (x.change.feature.body.unit.map AC))/\
  (∀x,pk false (Ad x) 34 1=.int .i64 x.change.feature.body.param)/\
  (∀x,pk true (Ad x) 35 2=.agg (EK x.change.feature.body.win))/\
  (∀x,pk false (Ad x) 35 1=.int .i64 x.change.feature.body.win.kind)/\
  (∀x,pk false (Ad x) 36 1=.int .i64 x.change.feature.body.win.size)/\
  (∀x,pk false (Ad x) 37 1=.sl (x.change.feature.body.args.map eE))/\
  (∀x,pk false (Ad x) 38 1=.int .i64 x.change.feature.version)/\
  (∀x,pk false (Ad x) 39 1=.str x.change.name)/\
  (∀x,pk true (Ad x) 0 40=.agg (Ad x)):=by
 and_intros<;>intro x<;>simp only[Ak,Bu,Cy,AD,Ad,AP,At,AM,A9,EK,Mz,List.cons_append,List.nil_append]<;>rfl
theorem cF:
  (∀x,pk true (KB x) 0 2=.agg (Ak x.id))/\
  (∀x,pk false (KB x) 0 1=.str x.id.source)/\
  (∀x,pk false (KB x) 1 1=.int .i64 x.id.seq)/\
  (∀x,pk false (KB x) 2 1=.str x.table)/\
  (∀x,pk false (KB x) 3 1=.str x.key)/\
  (∀x,pk false (KB x) 4 1=.int .i64 x.event)/\
  (∀x,pk false (KB x) 5 1=.sl (x.fields.map A9))/\
  (∀x,pk false (KB x) 6 1=.int .i64 x.no)/\
  (∀x,pk false (KB x) 7 1=.int .i64 x.tick)/\
  (∀x,pk true (KB x) 0 8=.agg (KB x)):=by
 and_intros<;>intro x<;>simp only[Ak,KB,List.cons_append,List.nil_append]<;>rfl
theorem Vf:(∀x,(Ak x).all I.one=true)/\(∀x,(Bu x).all I.one=true)/\(∀x,(Cy x).all I.one=true)/\(∀x,(AD x).all I.one=true)/\(∀x,(Ad x).all I.one=true)/\(∀x,(KB x).all I.one=true):=by refine⟨?_,?_,?_,?_,?_,?_⟩<;>intro x<;>simp only[Vd,Ol,QL,Cg,Ax,eRw_eq]<;>rfl
attribute [go_sem] Ve Vf cA cB cC cD cE cF Ak Cy
end Go.As
