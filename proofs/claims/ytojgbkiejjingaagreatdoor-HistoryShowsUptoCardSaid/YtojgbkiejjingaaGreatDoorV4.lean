/-Lemmas.-/
import Derived.Test.YtojgbkiejjingaaGreatDoorV3
import Derived.WideKeyRuns
import Derived.MapKept
import Derived.Maps.RangeRun
import Derived.Lib.ConvBytes
import Derived.Laws.BytesString
set_option linter.all false
section
namespace Go.Dl
open Go Go.RowKit
def FY(fl:TypeId->Option (List LK)):List Field->Nat->Option (List LK)
 |[],_=>some []
 |f::r,off=>if f.name≠ "_"/\f.offset=off then match fl f.type with|some k=>if k.length=0 then none else(FY fl r (off+k.length)).map (k++·)|none=>none else none
def B9(P:Program):Nat->TypeId->Option (List LK)
 |0,_=>none
 |d+1,t=>match P.underlying t with
  |some .bool=>if PY P t=some 1 then some [.b]else none
  |some (.int q)=>if PY P t=some 1 then some [.i q]else none
  |some .string=>if PY P t=some 1 then some [.s]else none
  |some (.struct fs)=>if P.stoodInHeld t=false then(match FY (B9 P d) fs.toList 0 with|some k=>if PY P t=some k.length then some k else none|none=>none)else none
  |_=>none
def I6:TypeDesc->Bool
 |.struct _|.array _ _=>true
 |_=>false
section
variable {P:Program}{GL:List (Nat×List I)}{n:Nat}{S:Sh}{M:Mem}{μ:Place}{st:St}{a:Act}{w:World}{K:St->Prop}{Q:Exit->Act->World->Prop}{o:Oper}{d:Nat}
theorem eqL_len:∀{ls:List LK} {xs ys:List I} {r:Bool},eqL ls xs ys=some r->xs.length=ls.length/\ys.length=ls.length
 |[],[],[],_,_=>⟨rfl,rfl⟩
 |l::ls,x::xs,y::ys,r,h=>by
  simp only[eqL]at h;cases h1:fA l x y with
  |none=>simp[h1]at h
  |some b=>
   cases h2:eqL ls xs ys with
   |none=>simp[h1,h2]at h
   |some c=>obtain⟨e1,e2⟩:=eqL_len h2;simp[e1,e2]
 |[],x::xs,_,r,h=>by grind[eqL]
 |[],[],y::ys,r,h=>by grind[eqL]
 |l::ls,[],_,r,h=>by grind[eqL]
 |l::ls,x::xs,[],r,h=>by grind[eqL]
theorem WB:∀(ks ls:List LK) (xs ys:List I) (r:Bool),eqL (ks++ls) xs ys=some r->∃r1 r2,eqL ks (xs.take ks.length) (ys.take ks.length)=some r1/\eqL ls (xs.drop ks.length) (ys.drop ks.length)=some r2/\r=(r1&&r2)
 |[],ls,xs,ys,r,h=>⟨true,r,by simp[eqL],h,by simp⟩
 |k::ks,ls,x::xs,y::ys,r,h=>by
  simp only[Zc3,eqL]at h;cases h1:fA k x y with
  |none=>simp[h1]at h
  |some b=>
   cases h2:eqL (ks++ls) xs ys with
   |none=>simp[h1,h2]at h
   |some c=>simp[h1,h2]at h;obtain⟨r1,r2,e1,e2,rfl⟩:=WB ks ls xs ys c h2;refine⟨b&&r1,r2,?_,e2,by rw[<-h,Zbx]⟩;simp[eqL,h1,e1]
 |k::ks,ls,[],_,r,h=>by grind[eqL]
 |k::ks,ls,x::xs,[],r,h=>by grind[eqL]
theorem H6{t:TypeId}{dsc:TypeDesc}(h:P.underlying t=some dsc):Ee P t=some (I6 dsc):=by grind[Ee,I6]
theorem WC{d:Nat}{t:TypeId}{k:List LK}(h:B9 P d t=some k):PY P t=some k.length/\∃ag,Ee P t=some ag/\(ag=false->k.length=1):=by
 cases d with
 |zero=>simp[B9]at h
 |succ d=>
  simp only[B9]at h;split at h<;>rename_i hu<;>try(cases h;done)
  ·split at h<;>cases h;exact⟨by assumption,_,H6 hu,fun _=>rfl⟩
  ·split at h<;>cases h;exact⟨by assumption,_,H6 hu,fun _=>rfl⟩
  ·split at h<;>cases h;exact⟨by assumption,_,H6 hu,fun _=>rfl⟩
  ·split at h
   ·split at h
    ·split at h<;>cases h;exact⟨by assumption,_,H6 hu,fun e=>by cases e⟩
    ·cases h
   ·cases h
theorem WD{d:Nat}{xs ys:Array Value}{ixs iys:List I}(hx:Ak M ixs xs.toList)(hy:Ak M iys ys.toList)
  (ih:∀t ks,B9 P d t=some ks->∀(ixs iys:List I) (xs ys:Array Value) (r:Bool),Ak M ixs xs.toList->Ak M iys ys.toList->eqL ks ixs iys=some r->
   (Op.equalIn d t (Dd P t xs) (Dd P t ys)).run P w=.ok r w):
  ∀(fs:List Field) (off:Nat) (ls:List LK) (r:Bool),FY (B9 P d) fs off=some ls->eqL ls (ixs.drop off) (iys.drop off)=some r->(Op.eqFields d xs ys fs).run P w=.ok r w
 |[],off,ls,r,hf,he=>by simp only[FY,Zhp]at hf;subst hf;obtain⟨e1,e2⟩:=eqL_len he;rw[Zdf e1,Zdf e2]at he;simp only[eqL,Zhp]at he;subst he;rfl
 |f::fs,off,ls,r,hf,he=>by
  simp only[FY]at hf;split at hf
  ·rename_i hc;obtain⟨hname,rfl⟩:=hc;split at hf
   ·rename_i ks hk;split at hf
    ·cases hf
    rename_i hkn;cases hf2:FY (B9 P d) fs (f.offset+ks.length)with
    |none=>simp[hf2]at hf
    |some ls'=>
     simp only[hf2,Zhn,Zhp]at hf;subst hf;obtain⟨r1,r2,e1,e2,rfl⟩:=WB ks ls' _ _ _ he;obtain⟨j0,ag,hag,h1⟩:=WC hk;have hxs:xs.size=ixs.length:=by simpa using hx.1
     have hys:ys.size=iys.length:=by simpa using hy.1
     obtain⟨l1,l2⟩:=eqL_len e1;simp at l1 l2;have q0:f.offset+ks.length<=ixs.length/\f.offset+ks.length<=iys.length:=by omega
     have q1:=P9 (cs:=xs) (off:=f.offset) j0 hag h1 (by omega) w;have q2:=P9 (cs:=ys) (off:=f.offset) j0 hag h1 (by omega) w;have q3:=ih f.type ks hk _ _ _ _ r1 (hx.slice f.offset ks.length (by omega)) (hy.slice f.offset ks.length (by omega)) e1;have q4:=WD hx hy ih fs (f.offset+ks.length) ls' r2 hf2 (by rwa [Zc7,Zc7]at e2);simp only[Op.eqFields,Zaa hname,Sem.run_bind,q1,q2,q3,Result.andThen_ok];cases r1 with
     |true=>simp only[Zb9,Zb4,Zag,q4,Zce]
     |false=>simp
   ·cases hf
  ·cases hf
theorem SN:∀(d:Nat) (t:TypeId) (ks:List LK),B9 P d t=some ks->∀(ixs iys:List I) (xs ys:Array Value) (r:Bool),Ak M ixs xs.toList->Ak M iys ys.toList->eqL ks ixs iys=some r->
  (Op.equalIn d t (Dd P t xs) (Dd P t ys)).run P w=.ok r w
 |0,t,k,h=>by simp[B9]at h
 |d+1,t,k,h=>by
  intro ixs iys xs ys r hx hy he;have one:∀{dsc:TypeDesc} {l:LK},P.underlying t=some dsc->I6 dsc=false->k=[l]->
    ∃x y vx vy,Dd P t xs=vx/\Dd P t ys=vy/\Rep M x vx/\Rep M y vy/\fA l x y=some r:=fun{dsc l} hu hd hk=>by
   subst hk;obtain⟨hlx,hly⟩:=eqL_len he
   match ixs,iys,hlx,hly with
   |[x],[y],_,_=>
    have h1:=hx.2 0 (by simp) (by have:=hx.1;simp at this;simp;omega);have h2:=hy.2 0 (by simp) (by have:=hy.1;simp at this;simp;omega);have s1:xs.size=1:=by simpa using hx.1
    have s2:ys.size=1:=by simpa using hy.1
    have ha:=H6 hu;rw[hd]at ha;refine⟨x,y,xs[0],ys[0],by simp[Dd,ha,s1],by simp[Dd,ha,s2],by simpa using h1,by simpa using h2,?_⟩;simp only[eqL]at he;cases hxy:fA l x y with
    |none=>simp[hxy]at he
    |some b=>simpa[hxy]using he
  simp only[B9]at h;split at h<;>rename_i hu<;>try(cases h;done)
  ·split at h<;>cases h;obtain⟨x,y,vx,vy,e1,e2,r1,r2,e3⟩:=one hu rfl rfl;rw[e1,e2];cases x<;>cases y<;>simp[fA]at e3;subst e3;rw[GJ r1,GJ r2];exact run_equalIn_bool' w d t _ _ hu
  ·split at h<;>cases h;obtain⟨x,y,vx,vy,e1,e2,r1,r2,e3⟩:=one hu rfl rfl;rw[e1,e2];cases x<;>cases y<;>simp[fA]at e3;obtain⟨⟨rfl,rfl⟩,e3⟩:=e3;subst e3;rw[Ce r1,Ce r2];exact run_equalIn_int w d t _ _ _ _ hu
  ·split at h<;>cases h;obtain⟨x,y,vx,vy,e1,e2,r1,r2,e3⟩:=one hu rfl rfl;rw[e1,e2];cases x<;>cases y<;>simp[fA]at e3;subst e3;rw[GK r1,GK r2,run_equalIn_string w d t _ _ hu,Ss,Ss]
  ·rename_i fs;split at h
   ·rename_i jf;split at h
    ·rename_i k' hf;split at h<;>cases h;have ha:=H6 hu;have v8:P.fieldsOf t=fs:=by unfold Program.fieldsOf;rw[hu]
     simp only[I6]at ha;simp only[Dd,ha,Zad];rw[run_equalIn_agg w d t xs ys (by rw[v8];exact hu) jf,v8];exact WD hx hy (SN d) fs.toList 0 k r hf (by simpa using he)
    ·cases h
   ·cases h
theorem WE(h:Rel GL n S M μ st a w){neg:Bool}{t t':TypeId}{x y:Operand}{ox oy:O}{ls:List LK}(ho:o.op=.binOp (if neg then .neq else .eql) t x y t')(hd:o.dst=some d)(hn:d<n)
  (hx:cO GL x=some ox)(hy:cO GL y=some oy)(ha:Ee P t=some true)(hf:B9 P 10000 t=some ls)(hg:P.eqGuardType P.depth t=false)(hs:step P GL (.eqs d neg ls ox oy) st K):
  o.wpX P a w (Aw GL n S M w K) Q:=by
 have hr:=Az h hx;have vl:=Az h hy;simp only[step,KY]at hs;split at hs
 ·rename_i u v e1 e2;rw[e1]at hr;rw[e2]at vl;obtain⟨xs,e3,rx⟩:=(AE hr).agg_inv;obtain⟨ys,e4,ry⟩:=(AE vl).agg_inv;unfold KX at hs;split at hs
  ·rename_i r he;have hq:=SN (P:=P) (w:=w) 10000 t ls hf _ _ xs ys r rx ry he;simp only[Dd,ha,Zad]at hq;refine AX h hd hn ?_ (AJ (.bool _)) hs;cases neg<;>simp only[Zb4,Zad,Zag]at ho⊢
   ·simp only[execOp,ho,e3,e4,Sem.run_bind,run_eqGuard_agg w .eql t x y xs ys hg,Result.andThen_ok,run_eql_struct w t xs ys,hq,Sem.run_pure]
   ·simp only[execOp,ho,e3,e4,Sem.run_bind,run_eqGuard_agg w .neq t x y xs ys hg,Result.andThen_ok,run_neq_struct w t xs ys,hq,Sem.run_pure]
  ·exact hs.elim
 ·exact hs.elim
end
end Go.Dl
end
section
namespace Go.Dl
open Go Go.RowKit
variable{t:TypeId}{ls:List LK}
theorem WF:∀{ls:List LK} {xs:List I},AH ls xs=true->xs.length=ls.length
 |[],[],_=>rfl
 |l::ls,x::xs,h=>by simp only[AH,Zbz]at h;simp[WF h.2]
 |[],_::_,h=>by grind[AH]
 |_::_,[],h=>by grind[AH]
theorem WG:∀(ks ls:List LK) (xs:List I),AH (ks++ls) xs=true->AH ks (xs.take ks.length)=true/\AH ls (xs.drop ks.length)=true
 |[],ls,xs,h=>⟨by simp[AH],h⟩
 |k::ks,ls,x::xs,h=>by simp only[Zc3,AH,Zbz]at h;obtain⟨h1,h2⟩:=WG ks ls xs h.2;grind[AH]
 |k::ks,ls,[],h=>by grind[AH]
theorem WH:∀{ls:List LK} {xs ys:List I},AH ls xs=true->AH ls ys=true->eqL ls xs ys=some (xs.map Dr==ys.map Dr)
 |[],[],[],_,_=>rfl
 |l::ls,x::xs,y::ys,hx,hy=>by
  simp only[AH,Zbz]at hx hy;have ih:=WH hx.2 hy.2;have h1:fA l x y=some (Dr x==Dr y):=by
   cases l<;>cases x<;>simp[Bc]at hx<;>cases y<;>simp[Bc]at hy
   ·simp only[fA,Dr];congr 1;grind
   ·obtain⟨rfl,_⟩:=hx;obtain⟨rfl,_⟩:=hy;simp only[fA,Dr,and_self,Zad];congr 1;grind
   ·simp only[fA,Dr];congr 1;grind
  simp_all[eqL]
 |[],[],_::_,_,h=>by grind[AH]
 |[],_::_,_,h,_=>by grind[AH]
 |_::_,[],_,h,_=>by grind[AH]
 |_::_,_::_,[],_,h=>by grind[AH]
section
variable {P:Program}{GL:List (Nat×List I)}{n:Nat}{S:Sh}{M:Mem}{μ:Place}{st:St}{a:Act}{w:World}{K:St->Prop}{Q:Exit->Act->World->Prop}{o:Oper}{d:Nat}
theorem WI{d:Nat}{em:Bool}{xs:Array Value}{ixs:List I}(hx:Ak M ixs xs.toList)
  (ih:∀t ks,B9 P d t=some ks->∀(ixs:List I) (xs:Array Value),Ak M ixs xs.toList->AH ks ixs=true->(Instr.checkKey em d t (Dd P t xs)).run P w=.ok () w):
  ∀(fs:List Field) (off:Nat) (ls:List LK),FY (B9 P d) fs off=some ls->AH ls (ixs.drop off)=true->
   (forIn fs PUnit.unit (fun f r=>(do{if f.name≠ "_" then{Instr.checkKey em d f.type (<-part f.type xs f.offset)};pure (ForInStep.yield PUnit.unit)}:Sem (ForInStep PUnit)))).run P w=.ok PUnit.unit w
 |[],off,ls,hf,he=>by simp
 |f::fs,off,ls,hf,he=>by
  simp only[FY]at hf;split at hf
  ·rename_i hc;obtain⟨hname,rfl⟩:=hc;split at hf
   ·rename_i ks hk;split at hf
    ·cases hf
    rename_i hkn;cases hf2:FY (B9 P d) fs (f.offset+ks.length)with
    |none=>simp[hf2]at hf
    |some ls'=>
     simp only[hf2,Zhn,Zhp]at hf;subst hf;obtain⟨e1,e2⟩:=WG ks ls' _ he;obtain⟨j0,ag,hag,h1⟩:=WC hk;have hxs:xs.size=ixs.length:=by simpa using hx.1
     have l1:=WF e1;simp at l1;have q1:=P9 (cs:=xs) (off:=f.offset) j0 hag h1 (by omega) w;have q3:=ih f.type ks hk _ _ (hx.slice f.offset ks.length (by omega)) e1;have q4:=WI hx ih fs (f.offset+ks.length) ls' hf2 (by rwa [Zc7]at e2);simp only[List.forIn_cons,Sem.run_bind,hname,Zaj,Zat,Zad,q1,q3,Result.andThen_ok,Sem.run_pure];exact q4
   ·cases hf
  ·cases hf
theorem WJ(em:Bool):∀(d:Nat) (t:TypeId) (ks:List LK),B9 P d t=some ks->∀(ixs:List I) (xs:Array Value),Ak M ixs xs.toList->AH ks ixs=true->(Instr.checkKey em d t (Dd P t xs)).run P w=.ok () w
 |0,t,k,h=>by grind[B9]
 |d+1,t,k,h=>by
  intro ixs xs hx he;simp only[B9]at h;split at h<;>rename_i hu<;>try(cases h;done)
  ·simp[Instr.checkKey,Zaf hu]
  ·simp[Instr.checkKey,Zaf hu]
  ·simp[Instr.checkKey,Zaf hu]
  ·rename_i fs;split at h
   ·rename_i jf;split at h
    ·rename_i k' hf;split at h<;>cases h;have ha:=H6 hu;simp only[I6]at ha;simp only[Dd,ha,Zad];unfold Instr.checkKey;simp only[Sem.run_bind,Zaf hu,Result.andThen_ok];rw[<-Array.forIn_toList];have:=WI hx (WJ em d) fs.toList 0 k hf (by simpa using he);simp_all
    ·cases h
   ·cases h
def DI(P:Program)(t:TypeId):Option (List LK):=match B9 P 10000 t,Ee P t with
 |some ls,some true=>some (.g::ls)
 |some ls,some false=>some ls
 |_,_=>none
theorem WK{D:Nat}{t:TypeId}{ls:List LK}(h:B9 P D t=some ls):∀r,ls≠.g::r:=by
 cases D with
 |zero=>simp[B9]at h
 |succ D=>
  simp only[B9]at h;split at h<;>try(cases h;done)
  ·split at h<;>cases h;simp
  ·split at h<;>cases h;simp
  ·split at h<;>cases h;simp
  ·split at h
   ·split at h
    ·rename_i k hf;split at h<;>cases h;rename_i fs _ _ _ _;have:∀(fs:List Field) (off:Nat) (ls:List LK),FY (B9 P D) fs off=some ls->∀r,ls≠.g::r:=by
      intro fs
      induction fs with
      |nil=>intro off ls h;simp[FY]at h;subst h;simp
      |cons f fs ih=>
       intro off ls h;simp only[FY]at h;split at h
       ·split at h
        ·rename_i k hk;split at h
         ·cases h
         ·rename_i vg;cases hf2:FY (B9 P D) fs (off+k.length)with
          |none=>simp[hf2]at h
          |some ls'=>
           simp only[hf2,Zhn,Zhp]at h;subst h;intro r hr;cases k with
           |nil=>simp at vg
           |cons x k=>simp at hr;exact WK hk k (by rw[hr.1])
        ·cases h
       ·cases h
     exact this _ _ _ hf
    ·cases h
   ·cases h
theorem SO(hk:DI P t=some ls){q:I}{v:Value}(hr:Rep M q v)(hf:Ay ls q=true):
  ∃ls' vs,B9 P 10000 t=some ls'/\v=Dd P t vs/\Ak M (cellsI q) vs.toList/\AH ls' (cellsI q)=true:=by
 unfold DI at hk;split at hk
 ·rename_i ls' h1 h2;cases hk;cases q with
  |agg cs=>obtain⟨vs,rfl,hl⟩:=hr.agg_inv;exact⟨ls',vs,h1,by simp[Dd,h2],hl,hf⟩
  |_=>simp[Ay]at hf
 ·rename_i ls' h1 h2;cases hk;have hng:=WK h1;have one:∀x:I,cellsI x=[x]->Rep M x v->AH ls [x]=true->∃ls' vs,B9 P 10000 t=some ls'/\v=Dd P t vs/\Ak M (cellsI x) vs.toList/\AH ls' (cellsI x)=true:=fun x e hx hfx=>by refine⟨ls,#[v],h1,by simp[Dd,h2],?_,by rw[e];exact hfx⟩;grind[Ak.cons,Ak.nil]
  cases q with
  |agg cs=>
   exfalso;cases ls with
   |nil=>simp[Ay]at hf
   |cons l r=>cases l<;>simp[Ay]at hf;exact hng r rfl
  |_=>
   refine one _ rfl hr ?_;cases ls with
   |nil=>exact hf
   |cons l r=>cases l<;>first|exact hf|(exact absurd rfl (hng r))
 ·cases hk
theorem gK(hk:DI P t=some ls){q q':I}{v v':Value}(hr:Rep M q v)(vl:Rep M q' v')(hf:Ay ls q=true)(hf':Ay ls q'=true):
  (Op.equal t v v').run P w=.ok (A3 q==A3 q') w:=by
 obtain⟨l1,vs,e1,rfl,r1,f1⟩:=SO hk hr hf;obtain⟨l2,vs',e2,rfl,r2,f2⟩:=SO hk vl hf';rw[e1]at e2;cases e2;exact SN 10000 t l1 e1 _ _ vs vs' _ r1 r2 (WH f1 f2)
theorem Oy(hk:DI P t=some ls){q:I}{v:Value}(hr:Rep M q v)(hf:Ay ls q=true)(em:Bool):(Instr.checkKey em 10000 t v).run P w=.ok () w:=by obtain⟨l1,vs,e1,rfl,r1,f1⟩:=SO hk hr hf;exact WJ em 10000 t l1 e1 _ vs r1 f1
def DJ{β:Type}(es:List (I×β))(q:I):Option Nat:=es.findIdx? fun e=>A3 e.1==A3 q
def Ll(M:Mem){β:Type}(xs:List MapEntry)(es:List (I×β)):Prop:=xs.length=es.length/\∀j (h:j<es.length) (h':j<xs.length),Rep M (es[j]).1 (xs[j]).key
theorem EW.keys{xs:List MapEntry}{es:List (I×I)}(h:EW M xs es):Ll M xs es:=⟨h.1,fun j a b=>(h.2 j a b).1⟩
theorem Hj.keys{N:Nat->Prop}{xs:List MapEntry}{es:List (I×Nat×D)}(h:Hj M μ N xs es):Ll M xs es:=⟨h.1,fun j a b=>(h.2 j a b).1⟩
theorem WL{t:TypeId}{ls:List LK}(hk:DI P t=some ls){q:I}{v:Value}(hr:Rep M q v)(hf:Ay ls q=true){β:Type}:∀(es:List (I×β)) (xs:List MapEntry) (i:Nat),Ll M xs es->(∀e∈es,Ay ls e.1=true)->
  (Instr.findAsking t v xs i).run P w=.ok ((DJ es q).bind fun j=>(xs[j]?).map fun x=>(i+j,x.val)) w
 |[],xs,i,h,_=>by have:xs=[]:=Zdf h.1;subst this;rfl
 |e::es,[],i,h,_=>by grind[Ll]
 |e::es,x::xs,i,h,qk=>by
  have h0:=h.2 0 (by simp) (by simp);have hq:=gK (P:=P) (w:=w) hk hr h0 hf (qk e (by simp));have ih:=WL hk hr hf es xs (i+1) ⟨by simpa using h.1,fun j a b=>h.2 (j+1) (by simp;omega) (by simp;omega)⟩ (fun e he=>qk e (by simp[he]));simp only[Zed]at hq;simp only[Instr.findAsking,Sem.run_bind,hq,Result.andThen_ok];have hsym:(A3 e.1==A3 q)=(A3 q==A3 e.1):=by grind
  simp only[DJ,Zdn,hsym];cases hb:(A3 q==A3 e.1)with
  |true=>simp
  |false=>simp only[Zb4,Zag,ih,DJ];congr 1;cases es.findIdx? fun e=>A3 e.1==A3 q<;>simp[Zgl,Nat.add_comm 1]
theorem WM{t:TypeId}{ls:List LK}{dsc:TypeDesc}(hu:P.underlying t=some dsc)(hd:I6 dsc=false)(hk:DI P t=some ls){q:I}{v:Value}(hr:Rep M q v)(hf:Ay ls q=true){β:Type}:∀(es:List (I×β)) (xs:List MapEntry) (i:Nat),Ll M xs es->(∀e∈es,Ay ls e.1=true)->
  Instr.findNow dsc v xs i=some ((DJ es q).bind fun j=>(xs[j]?).map fun x=>(i+j,x.val))
 |[],xs,i,h,_=>by have:xs=[]:=Zdf h.1;subst this;rfl
 |e::es,[],i,h,_=>by grind[Ll]
 |e::es,x::xs,i,h,qk=>by
  have h0:=h.2 0 (by simp) (by simp);have ih:=WM hu hd hk hr hf es xs (i+1) ⟨by simpa using h.1,fun j a b=>h.2 (j+1) (by simp;omega) (by simp;omega)⟩ (fun e he=>qk e (by simp[he]));have hfe0:=qk e (by simp);have hag:=H6 hu;rw[hd]at hag;have key:Instr.sameNow dsc v x.key=some (A3 e.1==A3 q):=by
   unfold DI at hk;rw[hag]at hk;have h1:B9 P 10000 t=some ls:=by grind
   simp only[Zed]at h0;have h1:B9 P (9999+1) t=some ls:=h1;unfold B9 at h1;split at h1<;>rename_i hu'<;>first|(cases h1;done)|(rw[hu]at hu';cases hu';try(simp[I6]at hd;done))
   ·split at h1<;>cases h1;cases q<;>simp[Ay,AH,Bc]at hf;generalize e.1=e1 at hfe0 h0;cases e1<;>simp[Ay,AH,Bc]at hfe0;rw[GJ hr,GJ h0];simp only[Instr.sameNow,A3,cellsI,Ze1,Ze5,Dr];congr 1;rw[Zb2];simp only[Zas,Zc2,Zhp,Atom.b.injEq,Zau];exact eq_comm
   ·split at h1<;>cases h1;cases q<;>simp[Ay,AH,Bc]at hf;generalize e.1=e1 at hfe0 h0;cases e1<;>simp[Ay,AH,Bc]at hfe0;subst hf;subst hfe0;rw[Ce hr,Ce h0];simp only[Instr.sameNow,Zad,A3,cellsI,Ze1,Ze5,Dr];congr 1;rw[Zb2];simp only[Zas,Zc2,Zhp,Atom.i.injEq,Zav,Zau];exact eq_comm
   ·split at h1<;>cases h1;cases q<;>simp[Ay,AH,Bc]at hf;generalize e.1=e1 at hfe0 h0;cases e1<;>simp[Ay,AH,Bc]at hfe0;rw[GK hr,GK h0];simp only[Instr.sameNow,A3,cellsI,Ze1,Ze5,Dr];congr 1;rw[Zb2,MapKept.bytes_beq];simp only[Zas,Zc2,Zhp,Atom.s.injEq,Zau];constructor
    ·intro h;have:=Zae (fun b:ByteArray=>b.data.toList) h;exact this.symm
    ·grind
  simp only[Instr.findNow,key,DJ,Zdn];cases hb:(A3 e.1==A3 q)with
  |true=>simp
  |false=>simp only[Zb4,Zag,ih,DJ];cases es.findIdx? fun e=>A3 e.1==A3 q<;>simp[Zgl,Nat.add_comm 1]
end
end Go.Dl
end
section
namespace Go.Dl
open Go Go.RowKit
section
variable {P:Program}{GL:List (Nat×List I)}{n:Nat}{S:Sh}{M:Mem}{μ:Place}{st:St}{a:Act}{w:World}{K:St->Prop}{Q:Exit->Act->World->Prop}{o:Oper}{d:Nat}
theorem Oz {t:TypeId}{ls:List LK}(hk:DI P t=some ls){q:I}{v:Value}(hr:Rep M q v)(hf:Ay ls q=true){β:Type}{es:List (I×β)}{xs:List MapEntry}(h:Ll M xs es)(qk:∀e∈es,Ay ls e.1=true):
  (Instr.findKey t v xs).run P w=.ok ((DJ es q).bind fun j=>(xs[j]?).map fun x=>(j,x.val)) w:=by
 have hag:∃dsc,P.underlying t=some dsc:=by grind[DI,Ee]
 obtain⟨dsc,hu⟩:=hag;cases hd:I6 dsc with
 |true=>rw[run_findKey_eq w (by cases dsc<;>simp[I6]at hd<;>simp[hu])];rw[WL hk hr hf es xs 0 h qk];simp
 |false=>have:=WM hu hd hk hr hf es xs 0 h qk;rw[MapKept.run_findKey hu this];simp
theorem OA{β:Type}{es:List (I×β)}{q:I}{j:Nat}(h:DJ es q=some j):j<es.length:=(List.findIdx?_eq_some_iff_findIdx_eq.1 h).1
theorem gL(es:List (I×I))(q:I):GB es q=(DJ es q).bind fun j=>(es[j]?).map (·.2):=by
 unfold GB DJ
 induction es with
 |nil=>rfl
 |cons e es ih=>
  simp only[List.find?_cons,Zdn];cases hb:(A3 e.1==A3 q)with
  |true=>simp
  |false=>simp only[Zb4,Zag];rw[ih];cases es.findIdx? fun e=>A3 e.1==A3 q<;>simp
theorem gM(es:List (I×I))(q u:I):DV es q u=match DJ es q with|some j=>es.set j (q,u)|none=>es++[(q,u)]:=by
 unfold DJ
 induction es with
 |nil=>rfl
 |cons e es ih=>grind[DV,A3]
theorem gN{t k e:TypeId}{ls:List LK}(hu:P.underlying t=some (.map k e))(hk:DI P k=some ls){i:TypeInfo}{z:Value}{zi:I}(hi:P.info? e=some i)(hz:i.zero=some z)(hzi:Rep M zi z){q:I}{kv:Value}(hr:Rep M q kv)(hf:Ay ls q=true)
  {X:Value}{xs:List MapEntry}{es:List (I×I)}(hX:(X=.map none/\xs=[])\/∃b clk,X=.map (some b)/\w.heap[b]? =some (.map xs.toArray clk))(h:EW M xs es)(qk:∀e∈es,Ay ls e.1=true)(ok:Bool):
  ∃V,(Instr.lookup t X kv ok).run P w=.ok V w/\Rep M (CF es q zi ok) V:=by
 have hck:=Oy (P:=P) (w:=w) hk hr hf;have qt:=Oz (P:=P) (w:=w) hk hr hf h.keys qk;have fin:∀(v:Value) (bb:Bool),bb=(GB es q).isSome->Rep M ((GB es q).getD zi) v->(Instr.lookup t X kv ok).run P w=.ok (if ok then .tuple #[v,.bool bb]else v) w->∃V,(Instr.lookup t X kv ok).run P w=.ok V w/\Rep M (CF es q zi ok) V:=fun v bb hbb hv jh=>by
  refine⟨_,jh,?_⟩;subst hbb;unfold CF;cases ok with
  |true=>simp only[Zad];exact Rep.tup' (Ak.cons hv (Ak.cons (.bool _) (Ak.nil M)))
  |false=>simpa using hv
 have hmg:=gL es q;cases hm:DJ es q with
 |none=>
  rw[hm]at hmg qt;simp only[Zhe]at hmg qt;refine fin z false (by rw[hmg];rfl) (by rw[hmg];exact hzi) ?_;rcases hX with⟨rfl,rfl⟩|⟨b,clk,rfl,hb⟩
  ·simp[Instr.lookup,Zaf hu,hck,qt,zeroValue,typeInfo,hi,hz]
  ·simp[Instr.lookup,Zaf hu,MapKept.run_getObj_map hb,hck,qt,zeroValue,typeInfo,hi,hz]
 |some j=>
  have hj:=OA hm;have jp:j<xs.length:=by rw[h.1];exact hj
  rw[hm]at hmg qt;simp only[Zhf,Zd2 hj,Zd2 jp,Zhn]at hmg qt;refine fin xs[j].val true (by rw[hmg];rfl) (by rw[hmg];exact(h.2 j hj jp).2) ?_;rcases hX with⟨rfl,rfl⟩|⟨b,clk,rfl,hb⟩
  ·simp at jp
  ·simp[Instr.lookup,Zaf hu,MapKept.run_getObj_map hb,hck,qt]
theorem WN(h:Rel GL n S M μ st a w){t k e:TypeId}{x ix:Operand}{ox oi:O}{ok:Bool}{ls:List LK}{i:TypeInfo}{z:Value}{zi:I}(ho:o.op=.lookup t x ix ok)(hd:o.dst=some d)(hn:d<n)(hx:cO GL x=some ox)(vp:cO GL ix=some oi)
  (hu:P.underlying t=some (.map k e))(hk:DI P k=some ls)(hi:P.info? e=some i)(hz:i.zero=some z)(hc:DH z=some zi)(hs:step P GL (.lookup d ox oi zi ok ls) st K):o.wpX P a w (Aw GL n S M w K) Q:=by
 have hr:=Az h hx;have jt:=Az h vp;simp only[step]at hs;generalize AZ GL st ox=V at hr hs;generalize AZ GL st oi=U at jt hs;cases U with
 |i q=>
  obtain⟨hf,hs⟩:=hs;have jt:=AE jt;have go:∀{xs:List MapEntry} {es:List (I×I)},((a.eval x=.map none/\xs=[])\/∃b clk,a.eval x=.map (some b)/\w.heap[b]? =some (.map xs.toArray clk))->EW M xs es->(∀e∈es,Ay ls e.1=true)->
    K (st.put d (.i (CF es q zi ok)))->o.wpX P a w (Aw GL n S M w K) Q:=fun hX he qk hK=>by
   obtain⟨v,jh,hv⟩:=gN (P:=P) hu hk hi hz (GH hc) jt hf hX he qk ok;exact AX h hd hn (by simp only[execOp,ho,Sem.run_bind,jh,Result.andThen_ok,Sem.run_pure]) (AJ hv) hK
  split at hs
  ·have hr:=AE hr;generalize hX:a.eval x=X at hr;cases hr;exact go (xs:=[]) (es:=[]) (.inl ⟨hX,rfl⟩) ⟨rfl,fun j hj=>by simp at hj⟩ (by simp) hs
  ·rename_i es;obtain⟨qk,hs⟩:=hs;have hr:=AE hr;generalize hX:a.eval x=X at hr;cases hr with
   |map _ b xs clk hm hl hb jk hv=>exact go (xs:=xs) (.inr ⟨b,clk,hX,h.sub.2 _ _ hm⟩) ⟨hl,fun j h1 h2=>⟨jk j h1,hv j h1⟩⟩ qk hs
  ·rename_i nm;obtain⟨hN,b,hμ,hX⟩:=hr;unfold Hp at hs;split at hs
   ·rename_i ls' es hg;obtain⟨rfl,hs⟩:=hs;obtain⟨b',xs,clk,hμ',jc,he,hbb,qk⟩:=h.blk nm _ hg;rw[hμ]at hμ';cases hμ';exact go (xs:=xs.toList) (.inr ⟨b,clk,hX,by simpa using jc.heap⟩) he qk hs
   ·exact hs.elim
  ·exact hs.elim
 |_=>exact hs.elim
theorem gO(h:Rel GL n S M μ st a w){t:TypeId}{r:Option Operand}{ls:List LK}(ho:o.op=.makeMap t r)(hr:r=none)(hd:o.dst=some d)(hn:d<n)(hs:step P GL (.mkmap d ls) st K):o.wpX P a w (Aw GL n S M w K) Q:=by
 subst hr;have key:∀st0:St,Rel GL n S M μ st0 a w->Aa st0.sto d=none->K ((st0.bind d (.map ls [])).put d (.ref (.mp d)))->o.wpX P a w (Aw GL n S M w K) Q:=fun st0 h jl hs=>by
  have h0:Rel GL n S M μ st0 a (w.alloc (.map #[] 0)):=h.of (h.toStoOk.alloc _) (Mem.le_refl _) fun _ _ hv=>hv
  have h2:Rel GL n S M (BA μ d (.map (some w.heap.size))) (st0.bind d (.map ls [])) a (w.alloc (.map #[] 0)):=by
   refine h0.bindName jl hn ⟨w.heap.size,#[],0,Bh _ _ _,⟨fun hS=>by have:=h.low _ hS;omega,GA w _,Mem.unk_new h.sub (Zgu _)⟩,⟨rfl,fun j hj=>by simp at hj⟩,⟨by simp,by simp⟩,by simp⟩ fun m k hm hk=>?_
   have:=(h.toStoOk.lt hm hk).1;simp only[An];intro e;cases e;omega
  refine B0 (v:=.map (some w.heap.size)) (w':=w.alloc (.map #[] 0)) ?_ ⟨_,hs,M,_,by rw[hd];exact h2.put hn ⟨D9,w.heap.size,Bh _ _ _,rfl⟩,MExt.refl _ _,FW w _ h.low⟩;simp[execOp,ho,Instr.makeMap]
 simp only[step,K6]at hs;split at hs
 ·rename_i jl;exact key st h jl hs
 ·rename_i b hb;exact key _ (h.drop (nm:=d) (by simp[names,hb])) (by simp[St.frz,JM]) hs
theorem WO{l:LK}{x y:I}{v u:Value}(hx:Rep M x v)(hy:Rep M y u)(hfx:Bc l x=true)(hfy:Bc l y=true)(he:Dr x=Dr y)(n:Nat):Instr.sameBits n v u=true:=by
 cases l<;>cases x<;>simp[Bc]at hfx<;>cases y<;>simp[Bc]at hfy<;>simp[Dr]at he
 ·subst he;rw[GJ hx,GJ hy];simp[Instr.sameBits]
 ·obtain⟨rfl,rfl⟩:=he;rw[Ce hx,Ce hy];simp[Instr.sameBits]
 ·subst he;rw[GK hx,GK hy];simp[Instr.sameBits,MapKept.bytes_beq]
theorem WP{n:Nat}:∀{ls:List LK} {xs ys:List I} {vs us:List Value},Ak M xs vs->Ak M ys us->AH ls xs=true->AH ls ys=true->xs.map Dr=ys.map Dr->((vs.zip us).all fun p=>Instr.sameBits n p.1 p.2)=true
 |[],[],[],vs,us,h1,h2,_,_,_=>by have:vs=[]:=Zdf h1.1;simp_all
 |l::ls,x::xs,y::ys,v::vs,u::us,h1,h2,f1,f2,he=>by
  simp only[AH,Zbz]at f1 f2;simp only[Ze1,Zc2]at he;simp only[List.zip_cons_cons,Zct,Zbz];exact⟨WO (h1.2 0 (by simp) (by simp)) (h2.2 0 (by simp) (by simp)) f1.1 f2.1 he.1 n,
   WP ⟨by simpa using h1.1,fun j a b=>h1.2 (j+1) (by simp;omega) (by simp;omega)⟩ ⟨by simpa using h2.1,fun j a b=>h2.2 (j+1) (by simp;omega) (by simp;omega)⟩ f1.2 f2.2 he.2⟩
 |l::ls,x::xs,y::ys,[],us,h1,_,_,_,_=>by rfl
 |l::ls,x::xs,y::ys,v::vs,[],_,h2,_,_,_=>by rfl
 |[],_::_,_,_,_,_,_,f,_,_=>by grind[AH]
 |[],[],_::_,_,_,_,_,_,f,_=>by grind
 |_::_,[],_,_,_,_,_,f,_,_=>by grind[AH]
 |_::_,_::_,[],_,_,_,_,_,f,_=>by grind
theorem SP{ls:List LK}{q q':I}{v v':Value}(hr:Rep M q v)(vl:Rep M q' v')(hf:Ay ls q=true)(hf':Ay ls q'=true)(he:A3 q=A3 q'):Instr.sameBits 10000 v v'=true:=by
 have je:=Zae List.length he;have one:∀x y:I,cellsI x=[x]->cellsI y=[y]->q=x->q'=y->(∃l,ls=[l]/\Bc l x=true/\Bc l y=true)->Instr.sameBits 10000 v v'=true:=fun x y e1 e2 e3 e4 ⟨l,_,f1,f2⟩=>by subst e3;subst e4;simp only[A3,e1,e2,Ze1,Ze5,Zc2,Zau]at he;grind[WO]
 cases ls with
 |nil=>cases q<;>simp[Ay,AH]at hf
 |cons l r=>
  by_cases hg:l=.g
  ·subst hg;cases q<;>simp[Ay]at hf;cases q'<;>simp[Ay]at hf';obtain⟨vs,rfl,h1⟩:=hr.agg_inv;obtain⟨us,rfl,h2⟩:=vl.agg_inv;have:=WP (n:=9999) h1 h2 hf hf' he;have j0:vs.size=us.size:=by have a1:=h1.1;have a2:=h2.1;grind[A3,cellsI]
   show Instr.sameBits (9999+1) _ _=true;simp only[Instr.sameBits,j0,Zaw,Zce];exact this
  ·have sing:∀x:I,(∀cs,x≠.agg cs)->Ay (l::r) x=true->r=[]/\Bc l x=true:=fun x hx hfx=>by
    have:AH (l::r) [x]=true:=by cases x<;>first|(exact absurd rfl (hx _))|(cases l<;>first|exact hfx|exact absurd rfl hg)
    grind[AH]
   have nag:∀x:I,Ay (l::r) x=true->∀cs,x≠.agg cs:=fun x hx cs e=>by simp_all[Ay]
   obtain⟨rfl,f1⟩:=sing q (nag q hf) hf;obtain⟨_,f2⟩:=sing q' (nag q' hf') hf';have c1:cellsI q=[q]:=by have:=nag q hf;cases q<;>first|rfl|exact absurd rfl (this _)
   have c2:cellsI q'=[q']:=by have:=nag q' hf';cases q'<;>first|rfl|exact absurd rfl (this _)
   grind
theorem SQ{β:Type}{es:List (I×β)}{q:I}{j:Nat}(h:DJ es q=some j)(hj:j<es.length):A3 (es[j]).1=A3 q:=by have:=(Zdo.1 h).2.1;grind
def putObj(w:World)(b:Nat)(ob:Obj):World:={w with heap:=w.heap.setIfInBounds b ob}
theorem MI{w:World}{b:Nat}{o1 o2:Obj}(h:w.heap[b]? =some o1):(putObj w b o2).heap[b]? =some o2:=by grind[putObj]
theorem Lm{w:World}{b k:Nat}{o2:Obj}(h:k≠b):(putObj w b o2).heap[k]? =w.heap[k]? :=by grind[putObj]
theorem putObj_size(w:World)(b:Nat)(o2:Obj):(putObj w b o2).heap.size=w.heap.size:=by simp[putObj]
theorem MJ{S:Nat->Prop}(w:World)(b:Nat)(o2:Obj)(h:¬S b):Keeps S w (putObj w b o2):=
 ⟨rfl,rfl,rfl,by rw[putObj_size];exact Zgu _,fun k hk=>Lm fun e=>h (e▸hk),Zgu _⟩
theorem SR{xs:Array MapEntry}{clk:Nat}(h:Gz xs.toList clk)(k v:Value):Gz (xs.push {key:=k,val:=v,born:=clk}).toList (clk+1):=by
 obtain⟨h1,h2⟩:=h;simp only[Zbw];refine⟨?_,fun e he=>?_⟩
 all_goals grind
theorem Qf{xs:Array MapEntry}{clk:Nat}(h:Gz xs.toList clk)(j:Nat)(f:MapEntry->MapEntry)(hf:∀e,(f e).born=e.born):Gz (xs.modify j f).toList clk:=by
 have e:(xs.modify j f).toList.map (·.born)=xs.toList.map (·.born):=by apply Zdh;grind
 refine⟨by rw[e];exact h.1,fun x hx=>?_⟩;have:x.born∈(xs.modify j f).toList.map (·.born):=Zfh.2 ⟨x,hx,rfl⟩;rw[e]at this;obtain⟨y,hy,hyb⟩:=Zfh.1 this;rw[<-hyb];exact h.2 y hy
theorem SS(h:Rel GL n S M μ st a w){t k e:TypeId}{x ix y:Operand}{ox oi oy:O}{ls:List LK}(ho:o.op=.mapUpdate t x ix y\/o.op=.insert t x ix y)(hd:o.dst=none)(hx:cO GL x=some ox)(vp:cO GL ix=some oi)(hy:cO GL y=some oy)
  (hu:P.underlying t=some (.map k e))(hk:DI P k=some ls)(hs:step P GL (.mupd ox oi oy ls) st K):o.wpX P a w (Aw GL n S M w K) Q:=by
 have hr:=Az h hx;have jt:=Az h vp;have wn:=Az h hy;simp only[step,H4]at hs;split at hs
 ·rename_i nm q u e1 e2 e3;rw[e1]at hr;rw[e2]at jt;rw[e3]at wn;have jt:=AE jt;have wn:=AE wn;obtain⟨hf,hs⟩:=hs;obtain⟨hN,b,hμ,hX⟩:=hr;unfold IU at hs;split at hs
  ·rename_i ls' es hg;obtain⟨rfl,hs⟩:=hs;obtain⟨b',xs,clk,hμ',jc,he,hbb,qk⟩:=h.blk nm _ hg;rw[hμ]at hμ';cases hμ';have hck:=Oy (P:=P) (w:=w) hk jt hf false;have qt:=Oz (P:=P) (w:=w) hk jt hf he.keys qk;have fin:∀(xs':Array MapEntry) (clk':Nat),(Instr.mapUpdate t (a.eval x) (a.eval ix) (a.eval y)).run P w=.ok () (putObj w b (.map xs' clk'))->EW M xs'.toList (DV es q u)->Gz xs'.toList clk'->(∀e∈DV es q u,Ay ls' e.1=true)->o.wpX P a w (Aw GL n S M w K) Q:=fun xs' clk' jh q1 q2 q3=>by
    have qm:=MJ w b (.map xs' clk') jc.low;refine MG (w':=putObj w b (.map xs' clk')) ?_ ⟨_,hs,M,μ,?_,MExt.refl _ _,qm⟩
    ·rcases ho with ho|ho<;>simp only[execOp,ho,Sem.run_bind,jh,Result.andThen_ok,Sem.run_pure]
    ·rw[hd];exact h.setBlk hg (by rw[hμ];rfl) qm.size (fun k hk _=>Lm hk) ⟨b,xs',clk',hμ,⟨jc.low,MI jc.heap,jc.unk⟩,q1,q2,q3⟩
   have hm:=gM es q u;cases hj:DJ es q with
   |none=>
    rw[hj]at hm qt;simp only at hm;rw[hm]at fin;refine fin (xs.push {key:=a.eval ix,val:=a.eval y,born:=clk}) (clk+1) ?_ ?_ (SR hbb _ _) (fun e he=>(Ze9.1 he).elim (qk e) (fun q=>by simp at q;subst q;exact hf))
    ·simp only[Zhe]at qt;simp[Instr.mapUpdate,Zaf hu,hX,MapKept.run_getObj_map jc.heap,hck,qt,MapKept.run_setObj_map _ jc.heap,putObj]
    ·simp only[Zbw];refine⟨by simp[he.1],fun j h1 h2=>?_⟩;by_cases qx:j<es.length
     ·rw[Zea qx,Zea (by rw[he.1];exact qx)];exact he.2 j qx _
     ·obtain rfl:j=es.length:=by simp at h1;omega
      rw[Zeb (by omega),Zeb (by rw[he.1];omega)];have w9:=he.1;simp only[Zg5,Zed,w9];exact⟨jt,wn⟩
   |some j=>
    have qx:=OA hj;have hjx:j<xs.size:=by have:=he.1;simp at this;omega
    rw[hj]at hm qt;simp only at hm;rw[hm]at fin;have hj2:=he.2 j qx (by simpa using hjx);have xa:=SP hj2.1 jt (qk _ (Zef qx)) hf (SQ hj qx);refine fin (xs.modify j fun e=>{e with key:=a.eval ix,val:=a.eval y}) clk ?_ ?_ (Qf hbb _ _ (fun _=>rfl)) (fun e he=>(Zfm he).elim (qk e) (fun q=>by subst q;exact hf))
    ·simp only[Zhf,Zbn,Zbh hjx,Zhn]at qt;simp only[Zbq]at xa;simp[Instr.mapUpdate,Zaf hu,hX,MapKept.run_getObj_map jc.heap,hck,qt,Instr.keyThatStays,hjx,xa,MapKept.run_setObj_map _ jc.heap,putObj]
    ·refine⟨by simp;simpa using he.1,fun i h1 h2=>?_⟩;simp only[Zbq,Zbo,List.getElem_set];by_cases hji:j=i
     ·subst hji;simp only[Zad];exact⟨jt,wn⟩
     ·rw[Zac hji,Zac hji];have:=he.2 i (by simpa using h1) (by simpa using h2);simpa using this
  ·exact hs.elim
 ·exact hs.elim
theorem gP(h:Rel GL n S M μ st a w){t k e:TypeId}{x:Operand}{ox:O}(ho:o.op=.range t x)(hd:o.dst=some d)(hn:d<n)
  (hx:cO GL x=some ox)(hu:P.underlying t=some (.map k e))(hs:step P GL (.rng d ox) st K):o.wpX P a w (Aw GL n S M w K) Q:=by
 have hr:=Az h hx;simp only[step]at hs;have fin:∀(ob:Obj) (rest:List (I×I)),Aa st.sto d=none->(execOp a.eval o).run P w=.ok (.value (.pointer (some ⟨w.heap.size,0,none⟩))) (w.alloc ob)->
   (∃m since seen last,ob=.mapIter m since seen last/\((m=none/\rest=[])\/∃q xs clk,m=some q/\M.m q=some (xs,clk)/\since=clk/\last=clk/\Gz xs clk/\EW M (xs.filter fun e=>!seen.contains e.born) rest))->
   K ((st.bind d (.iter none rest)).put d (.ref (.it d)))->o.wpX P a w (Aw GL n S M w K) Q:=fun ob rest jl jh hob hK=>by
  obtain⟨m,since,seen,last,rfl,hob⟩:=hob;have h0:Rel GL n S M μ st a (w.alloc (.mapIter m since seen last)):=h.of (h.toStoOk.alloc _) (Mem.le_refl _) fun _ _ hv=>hv
  have h2:Rel GL n S M (BA μ d (.pointer (some ⟨w.heap.size,0,none⟩))) (st.bind d (.iter none rest)) a (w.alloc (.mapIter m since seen last)):=by
   refine h0.bindName jl hn ⟨w.heap.size,m,since,seen,last,Bh _ _ _,⟨fun hS=>by have:=h.low _ hS;omega,GA w _,Mem.unk_new h.sub (Zgu _)⟩,?_⟩ fun m k hm hk=>?_
   ·rcases hob with⟨q1,q2⟩|⟨q,xs,clk,q1,q2,q3,q4,q5,q6⟩
    ·exact .inl ⟨q1,q2,rfl⟩
    ·exact .inr ⟨q,xs,clk,q1,q2,q3,q4,q5,q6,fun c hc=>by cases hc⟩
   have:=(h.toStoOk.lt hm hk).1;simp only[An];intro e;cases e;omega
  exact B0 jh ⟨_,hK,M,_,by rw[hd];exact h2.put hn ⟨D9,w.heap.size,Bh _ _ _,rfl⟩,MExt.refl _ _,FW w _ h.low⟩
 unfold K7 at hs;split at hs
 ·rename_i jl e1;rw[e1]at hr;have hr:=AE hr;generalize hX:a.eval x=X at hr;cases hr;refine fin (.mapIter none 0 #[] 0) [] jl ?_ ⟨_,_,_,_,rfl,.inl ⟨rfl,rfl⟩⟩ hs;simp[execOp,ho,hX,Instr.range,Zaf hu w]
 ·rename_i es jl e1;rw[e1]at hr;have hr:=AE hr;generalize hX:a.eval x=X at hr;cases hr with
  |map _ b xs clk hm hl hb jk hv=>
   refine fin (.mapIter (some b) clk #[] clk) es jl ?_ ⟨_,_,_,_,rfl,.inr ⟨b,xs,clk,rfl,hm,rfl,rfl,hb,?_⟩⟩ hs
   ·simp[execOp,ho,hX,Instr.range,Zaf hu w,MapKept.run_getObj_map (h.sub.2 _ _ hm)]
   ·have:(xs.filter fun e=>!(#[]:Array Nat).contains e.born)=xs:=by simp
    rw[this];exact⟨hl,fun j h1 h2=>⟨jk j h1,hv j h1⟩⟩
 ·exact hs.elim
end
end Go.Dl
end
section
namespace Go.Dl
open Go Go.RowKit
section
variable {P:Program}{GL:List (Nat×List I)}{n:Nat}{S:Sh}{M:Mem}{μ:Place}{st:St}{a:Act}{w:World}{K:St->Prop}{Q:Exit->Act->World->Prop}{o:Oper}{d:Nat}
theorem gQ{xs:List MapEntry}{seen:Array Nat}{e:MapEntry}(hnd:(xs.map (·.born)).Nodup):∀{L:List MapEntry},L.Sublist xs->∀{j:Nat} (hj:j<L.length),L[j]=e->L.filter (fun x=>!(x.born==e.born))=L.eraseIdx j:=by
 intro L hL;have hndL:(L.map (·.born)).Nodup:=(hL.map _).nodup hnd;clear hL
 induction L with
 |nil=>intro j hj;simp at hj
 |cons x L ih=>
  intro j hj he;simp only[Ze1,Zfu,Zfh,not_exists,not_and]at hndL;cases j with
  |zero=>simp_all
  |succ j=>grind
theorem EW.erase{xs:List MapEntry}{es:List (I×I)}(h:EW M xs es)(j:Nat)(hj:j<es.length):EW M (xs.eraseIdx j) (es.eraseIdx j):=by
 have hl:=h.1;refine⟨by rw[Zeq (by omega),Zeq hj];omega,fun i h1 h2=>?_⟩;rw[Zeq hj]at h1;simp only[List.getElem_eraseIdx];by_cases hij:i<j
 ·simp only[hij,dite_true];exact h.2 i (by omega) (by omega)
 ·simp only[hij,dite_false];exact h.2 (i+1) (by omega) (by omega)
theorem gR(h:Rel GL n S M μ st a w){x:Operand}{ox:O}(ho:o.op=.next x false)(hd:o.dst=some d)(hn:d<n)(hx:cO GL x=some ox)(hs:step P GL (.nxt d ox) st K):o.wpX P a w (Aw GL n S M w K) Q:=by
 have hr:=Az h hx;simp only[step,Mz]at hs;split at hs
 ·rename_i nm e1;rw[e1]at hr;obtain⟨hN,b,hμ,hX⟩:=hr;unfold My at hs;split at hs
  ·rename_i cur rest hg;obtain⟨hs0,hs1⟩:=hs;obtain⟨b',m,since,seen,last,hμ',jc,hh⟩:=h.blk nm _ hg;rw[hμ]at hμ';cases hμ';have over:rest=[]->(Instr.next (.pointer (some ⟨b,0,none⟩)) false o.type).run P w=.ok (.tuple #[.bool false]) w->o.wpX P a w (Aw GL n S M w K) Q:=fun hre jh=>
    AX h hd hn (v:=.tuple #[.bool false]) (by simp only[execOp,ho,hX,Sem.run_bind,jh,Result.andThen_ok,Sem.run_pure]) (AJ (Rep.tup' (Ak.cons (.bool _) (Ak.nil M)))) (hs0 hre)
   rcases hh with⟨rfl,rfl,rfl⟩|⟨q,xs,clk,rfl,hm,e2,e3,hb,he,_⟩
   ·refine over rfl ?_;have hgo:(getObj b).run P w=.ok (.mapIter none since seen last) w:=by simp[getObj,Sem.run,jc.heap]
    simp[Instr.next,hgo]
   ·subst since;subst last;have hleft:(leftOf xs.toArray seen).toList=xs.filter fun e=>!seen.contains e.born:=by simp[leftOf]
    rcases run_next_at (P:=P) w o.type b q clk clk seen xs.toArray clk jc.heap (h.sub.2 _ _ hm) (fun x hx=>hb.2 x (by simpa using hx)) (Zgu _)with⟨h1,h2⟩|⟨e,he1,w1,hw1,h2⟩
    ·refine over ?_ h2;have:(xs.filter fun e=>!seen.contains e.born)=[]:=by rw[<-hleft];exact Zdf (by simpa using h1)
     rw[this]at he;exact Zdf (by have:=he.1;simp at this;omega)
    ·rw[hleft]at he1;obtain⟨j,hj,hje⟩:=Zeh he1;have hjr:j<rest.length:=by rw[<-he.1];exact hj
     have jr:=he.2 j hjr hj;rw[hje]at jr;have hK:=hs1 j hjr;have hw1h:w1.heap=w.heap:=by rcases hw1 with rfl|rfl<;>rfl
     have hkp1:Keeps S w w1:=by rcases hw1 with rfl|rfl;exact Keeps.refl _ _;exact(Keeps.refl S w).drew
     have hown1:w1.heap[b]? =some (.mapIter (some q) clk seen clk):=by rw[hw1h];exact jc.heap
     have h1:Rel GL n S M μ st a w1:=by
      rcases hw1 with rfl|rfl
      ·exact h
      ·exact h.of h.toStoOk.drew (Mem.le_refl _) fun _ _ hv=>hv
     have hkp2:=MJ w1 b (.mapIter (some q) clk (seen.push e.born) clk) jc.low;have qa:Go.ChangeMaps.setBlock w1 b (.mapIter (some q) clk (seen.push e.born) clk)=putObj w1 b (.mapIter (some q) clk (seen.push e.born) clk):=rfl;rw[qa]at h2;have h3:Rel GL n S M μ (st.setB nm (.iter (some rest[j]) (rest.eraseIdx j))) a (putObj w1 b (.mapIter (some q) clk (seen.push e.born) clk)):=by
      refine h1.setBlk hg (by rw[hμ];rfl) (by rw[putObj_size];exact Zgu _) (fun k hk _=>Lm hk) ⟨b,some q,clk,seen.push e.born,clk,hμ,⟨jc.low,MI hown1,jc.unk⟩,.inr ⟨q,xs,clk,rfl,hm,rfl,rfl,hb,?_,?_⟩⟩
      ·have hf:(xs.filter fun x=>!(seen.push e.born).contains x.born)=(xs.filter fun x=>!seen.contains x.born).eraseIdx j:=by
        rw[<-gQ (seen:=seen) hb.1 (List.filter_sublist) hj hje,List.filter_filter];refine List.filter_congr fun x _=>?_
        have:(seen.push e.born).contains x.born=(seen.contains x.born||(x.born==e.born)):=by rw[Zb2];simp[Array.mem_push]
        rw[this,Bool.not_or,Zby]
       rw[hf];exact he.erase j hjr
      ·intro c hc;cases hc;exact⟨e,(Zfe.1 he1).1,⟨seen,rfl⟩,jr.1,jr.2⟩
     exact B0 (v:=.tuple #[.bool true,e.key,e.val]) (by simp only[execOp,ho,hX,Sem.run_bind,h2,Result.andThen_ok,Sem.run_pure])
      ⟨_,hK,M,μ,by rw[hd];exact h3.put hn (AJ (Rep.tup' (Ak.cons (.bool _) (Ak.cons jr.1 (Ak.cons jr.2 (Ak.nil M)))))),MExt.refl _ _,hkp1.trans hkp2⟩
  ·exact hs.elim
 ·exact hs.elim
theorem gS(h:Rel GL n S M μ st a w){x:Operand}{ox:O}(ho:o.op=.entry x)(hd:o.dst=some d)(hn:d<n)(hx:cO GL x=some ox)(hs:step P GL (.ent d ox) st K):o.wpX P a w (Aw GL n S M w K) Q:=by
 have hr:=Az h hx;simp only[step,MB]at hs;split at hs
 ·rename_i nm e1;rw[e1]at hr;obtain⟨hN,b,hμ,hX⟩:=hr;unfold MA at hs;split at hs
  ·rename_i c rest hg;obtain⟨b',m,since,seen,last,hμ',jc,hh⟩:=h.blk nm _ hg;rw[hμ]at hμ';cases hμ';rcases hh with⟨_,_,h0⟩|⟨q,xs,clk,rfl,hm,e2,e3,hb,he,hc⟩
   ·cases h0
   ·subst since;subst last;obtain⟨e,qd,⟨seen0,rfl⟩,r1,r2⟩:=hc c rfl;have jh:=run_entry_at (P:=P) w b q clk seen0 xs.toArray clk e jc.heap (h.sub.2 _ _ hm) (by simpa using qd) (by simpa using hb.1);exact AX h hd hn (v:=.tuple #[e.key,e.val]) (by simp only[execOp,ho,hX,Sem.run_bind,jh,Result.andThen_ok,Sem.run_pure]) (AJ (Rep.tup' (Ak.cons r1 (Ak.cons r2 (Ak.nil M))))) hs
  ·exact hs.elim
 ·exact hs.elim
end
end Go.Dl
end
section
namespace Go.Dl
open Go Go.RowKit
section
variable {P:Program}{GL:List (Nat×List I)}{n:Nat}{S:Sh}{M:Mem}{μ:Place}{st:St}{a:Act}{w:World}{K:St->Prop}{Q:Exit->Act->World->Prop}{o:Oper}{d:Nat}
theorem gT(h:Rel GL n S M μ st a w){t e:TypeId}{x ix:Operand}{ox oi:O}{k len:Nat}(ho:o.op=.indexAddr t x ix)(hd:o.dst=some d)(hn:d<n)
  (hx:cO GL x=some ox)(hi:cO GL ix=some oi)(hu:P.underlying t=some (.array len e))(hk:PY P e=some k)
  (hs:step P GL (.iaa d ox oi k len) st K):o.wpX P a w (Aw GL n S M w K) Q:=by
 have hr:=Az h hx;have jt:=Az h hi;have qd:∀kk (i:Int) b oo,a.eval x=.pointer (some ⟨b,oo,none⟩)->a.eval ix=.int kk i->0<=i/\i<(len:Int)->
   (execOp a.eval o).run P w=.ok (.value (.pointer (some ⟨b,oo+i.toNat*k,none⟩))) w:=fun kk i b oo e1 e2 hb=>by
  simp only[execOp,ho,e1,e2,Instr.indexAt,Instr.sureAddr,asIntOf,Sem.run_bind,Zaf hu w,Result.andThen_ok,Sem.run_pure,hb,and_self,Zad,EE hk,EZ]
 simp only[step,IV]at hs;split at hs
 ·rename_i cs oo kk i e1 e2;rw[e1]at hr;rw[e2]at jt;have jt:=Ce (AE jt);have hr:=AE hr;obtain⟨hb,hs⟩:=hs;generalize hv:a.eval x=vx at hr;cases hr with
  |elt _ _ b o' v hm hvv=>refine AX h hd hn (qd _ _ _ _ hv jt hb) (AJ ?_) hs;rw[Zgl];exact .elt _ _ _ _ _ hm hvv
 ·rename_i nm oo kk i e1 e2;rw[e1]at hr;rw[e2]at jt;have jt:=Ce (AE jt);obtain⟨hb,hs⟩:=hs;obtain⟨hN,b,hμ,hv⟩:=hr;exact AX h hd hn (x:=.ref (.loc nm (oo+i.toNat*k))) (qd _ _ _ _ hv jt hb) ⟨hN,b,hμ,rfl⟩ hs
 ·rename_i nm kk row oo q i e1 e2;rw[e1]at hr;rw[e2]at jt;have jt:=Ce (AE jt);obtain⟨hb,hs⟩:=hs;obtain⟨hN,b,o',c,hμ,hrc,hv⟩:=hr;exact AX h hd hn (x:=.ref (.lel nm kk row (oo+i.toNat*k))) (qd _ _ _ _ hv jt hb) ⟨hN,b,o',c,hμ,hrc,by rw[Zgl]⟩ hs
 ·exact hs.elim
theorem gU(h:Rel GL n S M μ st a w){t e:TypeId}{len k:Nat}{parts:Array (Nat×Operand)}{i:TypeInfo}{z:Value}{zi:I}{qs:List (Nat×Nat×O)}
  (ho:o.op=.build t parts)(hd:o.dst=some d)(hn:d<n)(hi:P.info? t=some i)(hz:i.zero=some z)(hc:DH z=some zi)(hu:P.underlying t=some (.array len e))(hk:PY P e=some k)
  (hq:MH GL (fun j=>some (j*k,k)) (cellsI zi).length parts.toList=some qs)(hs:step P GL (.build d (cellsI zi) qs) st K):o.wpX P a w (Aw GL n S M w K) Q:=by
 obtain⟨jj,hs⟩:=hs;have hrz:Ak M (cellsI zi) z.cells.toList:=(GH hc).cellsI;obtain⟨ps,e1,e2,e3⟩:=Qe h parts.toList qs (fun j=>some (j*k,k)) (cellsI zi).length hq jj;obtain⟨cells',e4,e5⟩:=Qc (place:=fun j=>some (j*k,k)) ps (cellsI zi) z.cells hrz e3;rw[e2]at e5;refine AX h hd hn (v:=.agg cells') ?_ (AJ (Rep.agg' e5)) hs;rw[e1]at e4;have e4':Instr.fill (fun x=>some (x*k,k)) z.cells ((parts.map fun(i,x)=>(i,a.eval x)).toList)=some cells':=by simp_all
 simp only[execOp,ho,Instr.build,Sem.run_bind,zeroValue,typeInfo,hi,hz,Zai,Result.andThen_ok,Sem.run_pure,Zaf hu w,EE hk,e4']
theorem ST(s:List UInt8)(i:Nat)(h:i<(rowsB s).length):(rowsB s)[i]=[.int .u8 ((s[i]'(by simpa[rowsB]using h)).toNat:Int)]:=by simp[rowsB]
theorem gV(h:Rel GL n S M μ st a w){t t' e:TypeId}{x:Operand}{ox:O}{u:TypeDesc}(ho:o.op=.convert t t' x)(hd:o.dst=some d)(hn:d<n)(hx:cO GL x=some ox)
  (hu:P.underlying t=some u)(hu':P.underlying t'=some (.slice e))(he:P.underlying e=some (.int .u8))(hs:step P GL (.bytes d ox) st K):o.wpX P a w (Aw GL n S M w K) Q:=by
 have hr:=Az h hx;simp only[step,K8]at hs;split at hs
 ·rename_i s e1;rw[e1]at hr;have hv:=GK (AE hr);have qd:(execOp a.eval o).run P w=.ok (.value (.slice (some ⟨w.heap.size,0,none⟩) (By s).size (grownCap w (By s).size 0 e))) (Lib.bytesWorld w e (By s)):=by simp only[execOp,ho,hv,Sem.run_bind,Lib.run_convert_string_bytes w t t' e (By s) hu hu' he,Result.andThen_ok,Sem.run_pure]
  have je:(By s).size=s.length:=by rfl
  have km:s.length<=grownCap w s.length 0 e:=by exact Zan w s.length 0 e
  have hM:M.le (M.with w.heap.size (Lib.bytesCells w e (By s))):=Mem.le_with (Mem.unk_new h.sub (Zgu _));have h1:StoOk S.p M μ st.sto (Lib.bytesWorld w e (By s)):=h.toStoOk.world (by rw[Lib.bytesWorld_size];omega) fun k hk=>Lib.bytesWorld_at_old w e _ k hk
  have h2:StoOk S.p (M.with w.heap.size (Lib.bytesCells w e (By s))) μ st.sto (Lib.bytesWorld w e (By s)):=
   h1.know hM (h1.sub.with (Lib.bytesWorld_at_new w e _)) fun m k hm hk=>Mem.with_same (by have:=h.toStoOk.lt hm hk;omega)
  have h3:Rel GL n S (M.with w.heap.size (Lib.bytesCells w e (By s))) μ st a (Lib.bytesWorld w e (By s)):=h.of h2 hM fun s v hv=>hv.mono hM fun _ k=>k
  have jr:Rep (M.with w.heap.size (Lib.bytesCells w e (By s))) (.sl (rowsB s)) (.slice (some ⟨w.heap.size,0,none⟩) s.length (grownCap w s.length 0 e)):=by
   have hl:(rowsB s).length=s.length:=by simp[rowsB]
   have:=Rep.sl (M:=M.with w.heap.size (Lib.bytesCells w e (By s))) (rowsB s) 1 w.heap.size 0 (grownCap w s.length 0 e) (fun i _=>.int .u8 ((s.getD i 0).toNat:Int)) (fun r hr=>by
     obtain⟨b,_,rfl⟩:=Zfh.1 hr;rfl) (by rw[hl];exact km) (fun i hi j hj=>by
     rw[ST s i hi]at hj;have hj0:j=0:=by grind
     subst hj0;have ja:i<s.length:=by omega
     simp[Mem.with,Lib.bytesCells,By,Zbf,ja]) (fun i hi j hj=>by
     have jp:=hj;rw[ST s i hi]at jp;have hj0:j=0:=by grind
     subst hj0;have ja:i<s.length:=by omega
     simp only[ST s i hi,Zed];have:s.getD i 0=s[i]:=by grind
     rw[this];exact .int _ _)
   grind
  rw[je]at qd;refine B0 qd ⟨_,hs,_,μ,by rw[hd];exact h3.put hn (AJ jr),⟨hM,fun b hb=>Mem.with_same (by have:=h.low b hb;omega)⟩,⟨?_,?_,?_,?_,?_,?_⟩⟩
  ·rfl
  ·rfl
  ·rfl
  ·rw[Lib.bytesWorld_size];omega
  ·exact fun k hk=>Lib.bytesWorld_at_old w e _ k (h.low k hk)
  ·exact(by unfold Lib.bytesWorld;first|exact Zgu _|exact Nat.le_succ _|simp)
 ·exact hs.elim
end
end Go.Dl
end
