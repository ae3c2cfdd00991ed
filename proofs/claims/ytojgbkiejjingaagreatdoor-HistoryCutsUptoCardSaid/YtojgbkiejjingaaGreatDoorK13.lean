/-
  Lemmas, no statement.
-/
import Derived.Test.YtojgbkiejjingaaGreatDoorK12
import Derived.WideKeyRuns
import Derived.MapKept
set_option linter.all false
namespace Go.Dl
open Go Go.RowKit
variable{t:TypeId}{ls:List LK}
theorem S0:∀{ls:List LK} {xs:List I},Ay ls xs=true->xs.length=ls.length
 |[],[],_=>rfl
 |l::ls,x::xs,h=>by simp only[Ay,Bool.and_eq_true]at h;simp[S0 h.2]
 |[],_::_,h=>by grind[Ay]
 |_::_,[],h=>by grind[Ay]
theorem S4:∀(ks ls:List LK) (xs:List I),Ay (ks++ls) xs=true->Ay ks (xs.take ks.length)=true/\Ay ls (xs.drop ks.length)=true
 |[],ls,xs,h=>⟨by simp[Ay],h⟩
 |k::ks,ls,x::xs,h=>by simp only[List.cons_append,Ay,Bool.and_eq_true]at h;obtain⟨h1,h2⟩:=S4 ks ls xs h.2;grind[Ay]
 |k::ks,ls,[],h=>by grind[Ay]
theorem S5:∀{ls:List LK} {xs ys:List I},Ay ls xs=true->Ay ls ys=true->eqL ls xs ys=some (xs.map CZ==ys.map CZ)
 |[],[],[],_,_=>rfl
 |l::ls,x::xs,y::ys,hx,hy=>by
  simp only[Ay,Bool.and_eq_true]at hx hy;have ih:=S5 hx.2 hy.2;have h1:Y5 l x y=some (CZ x==CZ y):=by
   cases l<;>cases x<;>simp[A6]at hx<;>cases y<;>simp[A6]at hy
   ·simp only[Y5,CZ];congr 1;grind
   ·obtain⟨rfl,_⟩:=hx;obtain⟨rfl,_⟩:=hy;simp only[Y5,CZ,and_self,if_true];congr 1;grind
   ·simp only[Y5,CZ];congr 1;grind
  simp_all[eqL]
 |[],[],_::_,_,h=>by grind[Ay]
 |[],_::_,_,h,_=>by grind[Ay]
 |_::_,[],_,h,_=>by grind[Ay]
 |_::_,_::_,[],_,h=>by grind[Ay]
section
variable {P:Program}{GL:List (Nat×List I)}{n:Nat}{S:Sh}{M:Mem}{μ:Place}{st:St}{a:Act}{w:World}{K:St->Prop}{Q:Exit->Act->World->Prop}{o:Oper}{d:Nat}
theorem S6{d:Nat}{em:Bool}{xs:Array Value}{ixs:List I}(hx:Ai M ixs xs.toList)
  (ih:∀t ks,BL P d t=some ks->∀(ixs:List I) (xs:Array Value),Ai M ixs xs.toList->Ay ks ixs=true->(Instr.checkKey em d t (C1 P t xs)).run P w=.ok () w):
  ∀(fs:List Field) (off:Nat) (ls:List LK),EG (BL P d) fs off=some ls->Ay ls (ixs.drop off)=true->
   (forIn fs PUnit.unit (fun f r=>(do{if f.name≠ "_" then{Instr.checkKey em d f.type (<-part f.type xs f.offset)};pure (ForInStep.yield PUnit.unit)}:Sem (ForInStep PUnit)))).run P w=.ok PUnit.unit w
 |[],off,ls,hf,he=>by simp
 |f::fs,off,ls,hf,he=>by
  simp only[EG]at hf;split at hf
  ·rename_i hc;obtain⟨ws,rfl⟩:=hc;split at hf
   ·rename_i ks hk;split at hf
    ·cases hf
    rename_i hkn;cases hf2:EG (BL P d) fs (f.offset+ks.length)with
    |none=>simp[hf2]at hf
    |some ls'=>
     simp only[hf2,Option.map_some,Option.some.injEq]at hf;subst hf;obtain⟨e1,e2⟩:=S4 ks ls' _ he;obtain⟨js,ag,hag,h1⟩:=SX hk;have wk:xs.size=ixs.length:=by simpa using hx.1
     have l1:=S0 e1;simp at l1;have q1:=PE (cs:=xs) (off:=f.offset) js hag h1 (by omega) w;have q3:=ih f.type ks hk _ _ (hx.slice f.offset ks.length (by omega)) e1;have q4:=S6 hx ih fs (f.offset+ks.length) ls' hf2 (by rwa [List.drop_drop]at e2);simp only[List.forIn_cons,Sem.run_bind,ws,ne_eq,not_false_eq_true,if_true,q1,q3,Result.andThen_ok,Sem.run_pure];exact q4
   ·cases hf
  ·cases hf
theorem S7(em:Bool):∀(d:Nat) (t:TypeId) (ks:List LK),BL P d t=some ks->∀(ixs:List I) (xs:Array Value),Ai M ixs xs.toList->Ay ks ixs=true->(Instr.checkKey em d t (C1 P t xs)).run P w=.ok () w
 |0,t,k,h=>by grind[BL]
 |d+1,t,k,h=>by
  intro ixs xs hx he;simp only[BL]at h;split at h<;>rename_i hu<;>try(cases h;done)
  ·simp[Instr.checkKey,run_underlying hu]
  ·simp[Instr.checkKey,run_underlying hu]
  ·simp[Instr.checkKey,run_underlying hu]
  ·rename_i fs;split at h
   ·rename_i jk;split at h
    ·rename_i k' hf;split at h<;>cases h;have ha:=Gv hu;simp only[Hw]at ha;simp only[C1,ha,if_true];unfold Instr.checkKey;simp only[Sem.run_bind,run_underlying hu,Result.andThen_ok];rw[<-Array.forIn_toList];have:=S6 hx (S7 em d) fs.toList 0 k hf (by simpa using he);simp_all
    ·cases h
   ·cases h
def Dc(P:Program)(t:TypeId):Option (List LK):=match BL P 10000 t,Eh P t with
 |some ls,some true=>some (.g::ls)
 |some ls,some false=>some ls
 |_,_=>none
theorem S8{D:Nat}{t:TypeId}{ls:List LK}(h:BL P D t=some ls):∀r,ls≠.g::r:=by
 cases D with
 |zero=>simp[BL]at h
 |succ D=>
  simp only[BL]at h;split at h<;>try(cases h;done)
  ·split at h<;>cases h;simp
  ·split at h<;>cases h;simp
  ·split at h<;>cases h;simp
  ·split at h
   ·split at h
    ·rename_i k hf;split at h<;>cases h;rename_i fs _ _ _ _;have:∀(fs:List Field) (off:Nat) (ls:List LK),EG (BL P D) fs off=some ls->∀r,ls≠.g::r:=by
      intro fs
      induction fs with
      |nil=>intro off ls h;simp[EG]at h;subst h;simp
      |cons f fs ih=>
       intro off ls h;simp only[EG]at h;split at h
       ·split at h
        ·rename_i k hk;split at h
         ·cases h
         ·rename_i vn;cases hf2:EG (BL P D) fs (off+k.length)with
          |none=>simp[hf2]at h
          |some ls'=>
           simp only[hf2,Option.map_some,Option.some.injEq]at h;subst h;intro r hr;cases k with
           |nil=>simp at vn
           |cons x k=>simp at hr;exact S8 hk k (by rw[hr.1])
        ·cases h
       ·cases h
     exact this _ _ _ hf
    ·cases h
   ·cases h
theorem PV(hk:Dc P t=some ls){q:I}{v:Value}(hr:Rep M q v)(hf:Au ls q=true):
  ∃ls' vs,BL P 10000 t=some ls'/\v=C1 P t vs/\Ai M (cellsI q) vs.toList/\Ay ls' (cellsI q)=true:=by
 unfold Dc at hk;split at hk
 ·rename_i ls' h1 h2;cases hk;cases q with
  |agg cs=>obtain⟨vs,rfl,hl⟩:=hr.agg_inv;exact⟨ls',vs,h1,by simp[C1,h2],hl,hf⟩
  |_=>simp[Au]at hf
 ·rename_i ls' h1 h2;cases hk;have hng:=S8 h1;have one:∀x:I,cellsI x=[x]->Rep M x v->Ay ls [x]=true->∃ls' vs,BL P 10000 t=some ls'/\v=C1 P t vs/\Ai M (cellsI x) vs.toList/\Ay ls' (cellsI x)=true:=fun x e hx hfx=>by refine⟨ls,#[v],h1,by simp[C1,h2],?_,by rw[e];exact hfx⟩;grind[Ai.cons,Ai.nil]
  cases q with
  |agg cs=>
   exfalso;cases ls with
   |nil=>simp[Au]at hf
   |cons l r=>cases l<;>simp[Au]at hf;exact hng r rfl
  |_=>
   refine one _ rfl hr ?_;cases ls with
   |nil=>exact hf
   |cons l r=>cases l<;>first|exact hf|(exact absurd rfl (hng r))
 ·cases hk
theorem ZT(hk:Dc P t=some ls){q q':I}{v v':Value}(hr:Rep M q v)(wb:Rep M q' v')(hf:Au ls q=true)(hf':Au ls q'=true):
  (Op.equal t v v').run P w=.ok (A1 q==A1 q') w:=by
 obtain⟨l1,vs,e1,rfl,r1,f1⟩:=PV hk hr hf;obtain⟨l2,vs',e2,rfl,r2,f2⟩:=PV hk wb hf';rw[e1]at e2;cases e2;exact PU 10000 t l1 e1 _ _ vs vs' _ r1 r2 (S5 f1 f2)
theorem NI(hk:Dc P t=some ls){q:I}{v:Value}(hr:Rep M q v)(hf:Au ls q=true)(em:Bool):(Instr.checkKey em 10000 t v).run P w=.ok () w:=by obtain⟨l1,vs,e1,rfl,r1,f1⟩:=PV hk hr hf;exact S7 em 10000 t l1 e1 _ vs r1 f1
def Dd{β:Type}(es:List (I×β))(q:I):Option Nat:=es.findIdx? fun e=>A1 e.1==A1 q
def JK(M:Mem){β:Type}(xs:List MapEntry)(es:List (I×β)):Prop:=xs.length=es.length/\∀j (h:j<es.length) (h':j<xs.length),Rep M (es[j]).1 (xs[j]).key
theorem DV.keys{xs:List MapEntry}{es:List (I×I)}(h:DV M xs es):JK M xs es:=⟨h.1,fun j a b=>(h.2 j a b).1⟩
theorem Gk.keys{N:Nat->Prop}{xs:List MapEntry}{es:List (I×Nat×D)}(h:Gk M μ N xs es):JK M xs es:=⟨h.1,fun j a b=>(h.2 j a b).1⟩
theorem S9{t:TypeId}{ls:List LK}(hk:Dc P t=some ls){q:I}{v:Value}(hr:Rep M q v)(hf:Au ls q=true){β:Type}:∀(es:List (I×β)) (xs:List MapEntry) (i:Nat),JK M xs es->(∀e∈es,Au ls e.1=true)->
  (Instr.findAsking t v xs i).run P w=.ok ((Dd es q).bind fun j=>(xs[j]?).map fun x=>(i+j,x.val)) w
 |[],xs,i,h,_=>by have:xs=[]:=List.eq_nil_of_length_eq_zero h.1;subst this;rfl
 |e::es,[],i,h,_=>by grind[JK]
 |e::es,x::xs,i,h,qu=>by
  have h0:=h.2 0 (by simp) (by simp);have hq:=ZT (P:=P) (w:=w) hk hr h0 hf (qu e (by simp));have ih:=S9 hk hr hf es xs (i+1) ⟨by simpa using h.1,fun j a b=>h.2 (j+1) (by simp;omega) (by simp;omega)⟩ (fun e he=>qu e (by simp[he]));simp only[List.getElem_cons_zero]at hq;simp only[Instr.findAsking,Sem.run_bind,hq,Result.andThen_ok];have hsym:(A1 e.1==A1 q)=(A1 q==A1 e.1):=by grind
  simp only[Dd,List.findIdx?_cons,hsym];cases hb:(A1 q==A1 e.1)with
  |true=>simp
  |false=>simp only[Bool.false_eq_true,if_false,ih,Dd];congr 1;cases es.findIdx? fun e=>A1 e.1==A1 q<;>simp[Nat.add_assoc,Nat.add_comm 1]
theorem Ta{t:TypeId}{ls:List LK}{dsc:TypeDesc}(hu:P.underlying t=some dsc)(hd:Hw dsc=false)(hk:Dc P t=some ls){q:I}{v:Value}(hr:Rep M q v)(hf:Au ls q=true){β:Type}:∀(es:List (I×β)) (xs:List MapEntry) (i:Nat),JK M xs es->(∀e∈es,Au ls e.1=true)->
  Instr.findNow dsc v xs i=some ((Dd es q).bind fun j=>(xs[j]?).map fun x=>(i+j,x.val))
 |[],xs,i,h,_=>by have:xs=[]:=List.eq_nil_of_length_eq_zero h.1;subst this;rfl
 |e::es,[],i,h,_=>by grind[JK]
 |e::es,x::xs,i,h,qu=>by
  have h0:=h.2 0 (by simp) (by simp);have ih:=Ta hu hd hk hr hf es xs (i+1) ⟨by simpa using h.1,fun j a b=>h.2 (j+1) (by simp;omega) (by simp;omega)⟩ (fun e he=>qu e (by simp[he]));have hfe0:=qu e (by simp);have hag:=Gv hu;rw[hd]at hag;have key:Instr.sameNow dsc v x.key=some (A1 e.1==A1 q):=by
   unfold Dc at hk;rw[hag]at hk;have h1:BL P 10000 t=some ls:=by grind
   simp only[List.getElem_cons_zero]at h0;have h1:BL P (9999+1) t=some ls:=h1;unfold BL at h1;split at h1<;>rename_i hu'<;>first|(cases h1;done)|(rw[hu]at hu';cases hu';try(simp[Hw]at hd;done))
   ·split at h1<;>cases h1;cases q<;>simp[Au,Ay,A6]at hf;generalize e.1=e1 at hfe0 h0;cases e1<;>simp[Au,Ay,A6]at hfe0;rw[E6 hr,E6 h0];simp only[Instr.sameNow,A1,cellsI,List.map_cons,List.map_nil,CZ];congr 1;rw[Bool.eq_iff_iff];simp only[beq_iff_eq,List.cons.injEq,Option.some.injEq,Atom.b.injEq,and_true];exact eq_comm
   ·split at h1<;>cases h1;cases q<;>simp[Au,Ay,A6]at hf;generalize e.1=e1 at hfe0 h0;cases e1<;>simp[Au,Ay,A6]at hfe0;subst hf;subst hfe0;rw[CC hr,CC h0];simp only[Instr.sameNow,if_true,A1,cellsI,List.map_cons,List.map_nil,CZ];congr 1;rw[Bool.eq_iff_iff];simp only[beq_iff_eq,List.cons.injEq,Option.some.injEq,Atom.i.injEq,true_and,and_true];exact eq_comm
   ·split at h1<;>cases h1;cases q<;>simp[Au,Ay,A6]at hf;generalize e.1=e1 at hfe0 h0;cases e1<;>simp[Au,Ay,A6]at hfe0;rw[FJ hr,FJ h0];simp only[Instr.sameNow,A1,cellsI,List.map_cons,List.map_nil,CZ];congr 1;rw[Bool.eq_iff_iff,MapKept.bytes_beq];simp only[beq_iff_eq,List.cons.injEq,Option.some.injEq,Atom.s.injEq,and_true];constructor
    ·intro h;have:=congrArg (fun b:ByteArray=>b.data.toList) h;exact this.symm
    ·grind
  simp only[Instr.findNow,key,Dd,List.findIdx?_cons];cases hb:(A1 e.1==A1 q)with
  |true=>simp
  |false=>simp only[Bool.false_eq_true,if_false,ih,Dd];cases es.findIdx? fun e=>A1 e.1==A1 q<;>simp[Nat.add_assoc,Nat.add_comm 1]
end
end Go.Dl
