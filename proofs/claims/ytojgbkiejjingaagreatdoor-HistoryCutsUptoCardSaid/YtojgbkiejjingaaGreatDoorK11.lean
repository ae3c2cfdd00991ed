/-
  Lemmas, no statement.
-/
import Derived.Test.YtojgbkiejjingaaGreatDoorK10
set_option linter.all false
namespace Go.Dl
open Go Go.RowKit
variable{k:Nat}
section
variable {P:Program}{GL:List (Nat×List I)}{n:Nat}{S:Sh}{M:Mem}{μ:Place}{st:St}{a:Act}{w:World}{K:St->Prop}{Q:Exit->Act->World->Prop}{o:Oper}{d:Nat}
theorem ZN(us:List Value):∀(off j:Nat) (cs:Array Value),((us.zipIdx j).foldl (fun cs x=>cs.setIfInBounds (off+x.2) x.1) cs).size=cs.size/\
  ∀p,((us.zipIdx j).foldl (fun cs x=>cs.setIfInBounds (off+x.2) x.1) cs)[p]? =if off+j<=p/\p<off+j+us.length/\p<cs.size then us[p-off-j]? else cs[p]? :=by
 induction us with
 |nil=>intro off j cs;refine⟨rfl,fun p=>?_⟩;rw[if_neg (by simp;omega)];rfl
 |cons u us ih=>
  intro off j cs;simp only[List.zipIdx_cons,List.foldl_cons];obtain⟨h1,h2⟩:=ih off (j+1) (cs.setIfInBounds (off+j) u);refine⟨by rw[h1];simp,fun p=>?_⟩;rw[h2 p];simp only[Array.size_setIfInBounds,List.length_cons,Array.getElem?_setIfInBounds];by_cases hp:p=off+j
  ·subst hp;rw[if_neg (fun hh=>by omega)];by_cases hs:off+j<cs.size
   ·rw[if_pos rfl,if_pos hs,if_pos ⟨Nat.le_refl _,by omega,hs⟩];simp
   ·rw[if_pos rfl,if_neg hs,if_neg (fun hh=>hs hh.2.2)];simp;omega
  ·by_cases hc:off+(j+1)<=p/\p<off+(j+1)+us.length/\p<cs.size
   ·rw[if_pos hc,if_pos ⟨by omega,by omega,hc.2.2⟩];rw[show p-off-j=(p-off-(j+1))+1 by omega];simp
   ·rw[if_neg hc,if_neg (fun h=>hp h.symm),if_neg (fun hh=>hc ⟨by omega,by omega,hh.2.2⟩)]
theorem ZO(us cs:Array Value)(off:Nat)(h:off+us.size<=cs.size):(us.zipIdx.foldl (fun cs (c,j)=>cs.setIfInBounds (off+j) c) cs)=(setL cs.toList off us.toList).toArray:=by
 have:=ZN us.toList off 0 cs;have e:us.zipIdx.foldl (fun cs (c,j)=>cs.setIfInBounds (off+j) c) cs=(us.toList.zipIdx 0).foldl (fun cs x=>cs.setIfInBounds (off+x.2) x.1) cs:=by rw[<-Array.foldl_toList,Array.toList_zipIdx]
 rw[e];apply Array.ext_getElem?;grind[Hv]
theorem Ai.setL{zs cs:List I}{vs us:List Value}{off:Nat}(h:Ai M zs vs)(k:Ai M cs us)(kl:off+cs.length<=zs.length):Ai M (setL zs off cs) (Dl.setL vs off us):=by
 have e1:=h.1;have e2:=k.1;refine⟨by rw[Cn _ _ _ (by omega),Cn _ _ _ (by omega)];exact e1,fun j a b=>?_⟩;have g1:(Dl.setL zs off cs)[j]? =some ((Dl.setL zs off cs)[j]):=List.getElem?_eq_getElem a;have g2:(Dl.setL vs off us)[j]? =some ((Dl.setL vs off us)[j]):=List.getElem?_eq_getElem b;rw[Hv _ _ _ (by omega)]at g1 g2;rw[Cn _ _ _ (by omega)]at a b;by_cases hc:off<=j/\j<off+cs.length
 ·rw[if_pos hc,List.getElem?_eq_getElem (by omega)]at g1;rw[if_pos (by omega),List.getElem?_eq_getElem (by omega)]at g2;rw[<-Option.some.inj g1,<-Option.some.inj g2];exact k.2 _ (by omega) (by omega)
 ·rw[if_neg hc,List.getElem?_eq_getElem a]at g1;rw[if_neg (by omega),List.getElem?_eq_getElem b]at g2;rw[<-Option.some.inj g1,<-Option.some.inj g2];exact h.2 _ a b
theorem L4{place:Nat->Option (Nat×Nat)}:∀(parts:List (Nat×Nat×Nat×I×Value)) (zs:List I) (cells:Array Value),Ai M zs cells.toList->
  (∀p∈parts,place p.1=some (p.2.1,p.2.2.1)/\p.2.1+p.2.2.1<=zs.length/\(cellsI p.2.2.2.1).length=p.2.2.1/\Rep M p.2.2.2.1 p.2.2.2.2)->
  ∃cells',Instr.fill place cells (parts.map fun p=>(p.1,p.2.2.2.2))=some cells'/\Ai M (Ed zs (parts.map fun p=>(p.2.1,cellsI p.2.2.2.1))) cells'.toList
 |[],zs,cells,h,_=>⟨cells,rfl,h⟩
 |(i,off,size,x,v)::r,zs,cells,h,hp=>by
  obtain⟨h1,h2,h3,h4⟩:=hp (i,off,size,x,v) (by simp);simp only at h1 h2 h3 h4;have hc:=h4.cellsI;have js:v.cells.size=size:=by have:=hc.1;simp at this;omega
  have vd:cells.size=zs.length:=by have:=h.1;simpa using this
  have j6:Ai M (setL zs off (cellsI x)) (setL cells.toList off v.cells.toList).toArray.toList:=by simpa using h.setL hc (by omega)
  obtain⟨cells',e1,e2⟩:=L4 r (setL zs off (cellsI x)) _ j6 (fun p hpp=>by obtain⟨a1,a2,a3,a4⟩:=hp p (by simp[hpp]);exact⟨a1,by rw[Cn _ _ _ (by omega)];exact a2,a3,a4⟩)
  refine⟨cells',?_,e2⟩;simp only[List.map_cons,Instr.fill,h1];rw[if_neg (by simp;omega)];rw[ZO _ _ _ (by omega)];exact e1
theorem L5(h:Rel GL n S M μ st a w):∀(parts:List (Nat×Operand)) (qs:List (Nat×Nat×O)) (place:Nat->Option (Nat×Nat)) (len:Nat),
  parts.mapM (fun p=>match place p.1,cO GL p.2 with|some (off,size),some oo=>if off+size<=len then some (off,size,oo)else none|_,_=>none)=some qs->
  (qs.all fun p=>G5 (AL GL st p.2.2)&&((cellsI (FB (AL GL st p.2.2))).length==p.2.1))=true->
  ∃ps:List (Nat×Nat×Nat×I×Value),ps.map (fun p=>(p.1,p.2.2.2.2))=parts.map (fun p=>(p.1,a.eval p.2))/\ps.map (fun p=>(p.2.1,cellsI p.2.2.2.1))=qs.map (fun p=>(p.1,cellsI (FB (AL GL st p.2.2))))/\
   ∀p∈ps,place p.1=some (p.2.1,p.2.2.1)/\p.2.1+p.2.2.1<=len/\(cellsI p.2.2.2.1).length=p.2.2.1/\Rep M p.2.2.2.1 p.2.2.2.2
 |[],qs,place,len,hq,_=>by simp_all
 |(i,x)::r,qs,place,len,hq,hi=>by
  rw[List.mapM_cons]at hq;simp only at hq;cases hp:place i with
  |none=>simp[hp]at hq
  |some os=>
   obtain⟨off,size⟩:=os;cases hx:cO GL x with
   |none=>simp[hp,hx]at hq
   |some oo=>
    by_cases hf:off+size<=len
    ·simp only[hp,hx,if_pos hf,Option.pure_def,Option.bind_eq_bind,Option.bind_some,Option.bind_eq_some_iff,Option.some.injEq]at hq;obtain⟨qs',jc,rfl⟩:=hq;simp only[List.all_cons,Bool.and_eq_true,beq_iff_eq]at hi;obtain⟨ps,e1,e2,e3⟩:=L5 h r qs' place len jc hi.2;refine⟨(i,off,size,FB (AL GL st oo),a.eval x)::ps,by simp[e1],by simp[e2],?_⟩;intro p hpm;rcases List.mem_cons.1 hpm with rfl|hpm
     ·exact⟨hp,hf,hi.1.2,LX (AB h hx) hi.1.1⟩
     ·grind
    all_goals grind
theorem ZP{fs:Array Field}{ks:List Nat}(hks:fs.toList.mapM (fun f=>Pr P f.type)=some ks)(w:World):
  (fs.mapM fun f=>(do pure (f.offset,<-sizeOf f.type):Sem (Nat×Nat))).run P w=.ok ((fs.toList.zip ks).map fun p=>(p.1.offset,p.2)).toArray w:=by
 have key:∀(l:List Field) (ks:List Nat),l.mapM (fun f=>Pr P f.type)=some ks->(l.mapM fun f=>(do pure (f.offset,<-sizeOf f.type):Sem (Nat×Nat))).run P w=.ok ((l.zip ks).map fun p=>(p.1.offset,p.2)) w:=by
  intro l
  induction l with
  |nil=>intro ks h;simp at h;subst h;rfl
  |cons f r ih=>
   intro ks h;rw[List.mapM_cons]at h;cases h1:Pr P f.type with
   |none=>simp[h1]at h
   |some k=>
    cases h2:r.mapM (fun f=>Pr P f.type)with
    |none=>simp[h1,h2]at h
    |some ks'=>simp[h1,h2]at h;subst h;simp_all[EF]
 rw[<-Array.toArray_toList (xs:=fs),List.mapM_toArray];simp only[Sem.run_map,key _ _ hks,Result.andThen_ok]
end
def PR(P:Program)(fs:Array Field):Option (List (Nat×Nat)):=(fs.toList.mapM (fun f=>Pr P f.type)).map fun ks=>(fs.toList.zip ks).map fun p=>(p.1.offset,p.2)
def IN(GL:List (Nat×List I))(place:Nat->Option (Nat×Nat))(len:Nat)(parts:List (Nat×Operand)):Option (List (Nat×Nat×O)):=
 parts.mapM (fun p=>match place p.1,cO GL p.2 with|some (off,size),some oo=>if off+size<=len then some (off,size,oo)else none|_,_=>none)
section
variable {P:Program}{GL:List (Nat×List I)}{n:Nat}{S:Sh}{M:Mem}{μ:Place}{st:St}{a:Act}{w:World}{K:St->Prop}{Q:Exit->Act->World->Prop}{o:Oper}{d:Nat}
theorem ZQ(h:Rel GL n S M μ st a w){t:TypeId}{parts:Array (Nat×Operand)}{i:TypeInfo}{z:Value}{zi:I}{fs:Array Field}{pl:List (Nat×Nat)}{qs:List (Nat×Nat×O)}
  (ho:o.op=.build t parts)(hd:o.dst=some d)(hn:d<n)(hi:P.info? t=some i)(hz:i.zero=some z)(hc:Cb z=some zi)(hu:P.underlying t=some (.struct fs))(wd:PR P fs=some pl)
  (hq:IN GL (fun j=>pl[j]?) (cellsI zi).length parts.toList=some qs)(hs:step P GL (.build d (cellsI zi) qs) st K):o.wpX P a w (Ar GL n S M w K) Q:=by
 obtain⟨jj,hs⟩:=hs;have hrz:Ai M (cellsI zi) z.cells.toList:=(Eg hc).cellsI;obtain⟨ps,e1,e2,e3⟩:=L5 h parts.toList qs _ _ hq jj;obtain⟨cells',e4,e5⟩:=L4 (place:=fun j=>pl[j]?) ps (cellsI zi) z.cells hrz e3;unfold PR at wd;cases hks:fs.toList.mapM (fun f=>Pr P f.type)with
 |none=>simp[hks]at wd
 |some ks=>
  simp[hks]at wd;rw[e2]at e5;refine A2 h hd hn (v:=.agg cells') ?_ (AG (Rep.agg' e5)) hs;rw[e1]at e4;have e4':Instr.fill (fun x=>((fs.toList.zip ks).map fun p=>(p.1.offset,p.2)).toArray[x]?) z.cells ((parts.map fun(i,x)=>(i,a.eval x)).toList)=some cells':=by simp_all
  simp only[execOp,ho,Instr.build,Sem.run_bind,zeroValue,typeInfo,hi,hz,run_program,Result.andThen_ok,Sem.run_pure,run_underlying hu w,ZP hks w,e4']
theorem PS(k:Nat):∀(rows:List (List I)) (pre zs:List I),(∀r∈rows,r.length=k)->zs.length=rows.length*k->∀m,pre.length=m*k->
  Ed (pre++zs) ((rows.zipIdx m).map fun p=>(p.2*k,p.1))=pre++rows.flatten
 |[],pre,zs,_,hz,m,hm=>by simp_all[Ed]
 |r::rows,pre,zs,hr,hz,m,hm=>by
  have hk:r.length=k:=hr r (by simp);simp only[List.zipIdx_cons,List.map_cons,Ed];have hz':zs.length=rows.length*k+k:=by grind
  have e:setL (pre++zs) (m*k) r=(pre++r)++zs.drop k:=by simp only[setL];rw[List.take_append_of_le_length (by omega),List.take_of_length_le (by omega),<-hm,List.drop_append];simp_all
  rw[e,PS k rows (pre++r) (zs.drop k) (fun x hx=>hr x (by simp[hx])) (by simp;omega) (m+1) (by simp[Nat.add_mul,hm,hk])];simp
theorem PT{k:Nat}:∀{rows:List (List I)},(∀r∈rows,r.length=k)->∀i (hi:i<rows.length) j (hj:j<rows[i].length),rows.flatten[i*k+j]? =some (rows[i][j])
 |r::rows,hr,0,hi,j,hj=>by grind
 |r::rows,hr,i+1,hi,j,hj=>by have hk:r.length=k:=hr r (by simp);simp only[List.flatten_cons,List.getElem_cons_succ];rw[List.getElem?_append_right (by rw[Nat.add_mul];omega),show(i+1)*k+j-r.length=i*k+j by rw[Nat.add_mul];omega];exact PT (fun x hx=>hr x (by simp[hx])) i (by simpa using hi) j (by simpa using hj)
theorem NH{rows:List (List I)}(h:∀r∈rows,r.length=k):rows.flatten.length=rows.length*k:=by
 induction rows with
 |nil=>simp
 |cons r rows ih=>grind
theorem SU{z:Value}{zi:I}{len:Nat}(hz:Rep M zi z)(hk:(cellsI zi).length=k)(vn:0<k):
  ∃zs:List I,zs.length=len*k/\Ai M zs ((Array.range (len*k)).map (fun x=>z.cells[x%z.cells.size]!)).toList:=by
 have hl:=hz.cellsI;have hs:z.cells.size=k:=by have:=hl.1;simp at this;omega
 refine⟨(List.range (len*k)).map fun x=>(cellsI zi).getD (x%k) .undef,by simp,by simp,fun j a b=>?_⟩;simp at a;have hm:j%k<k:=Nat.mod_lt _ vn;have:=hl.2 (j%k) (by omega) (by simp;omega);simp only[List.getElem_map,List.getElem_range,Array.toList_map,Array.toList_range,hs];rw[List.getD_eq_getElem?_getD,List.getElem?_eq_getElem (by omega),Option.getD_some,getElem!_pos _ _ (by omega)];simpa using this
theorem ZR{e:Nat}{os:List O}(hs:step P GL (.bsn d e k os) st K):step P GL (.bsl d e k os) st K:=by grind[step]
theorem SV(h:Rel GL n S M μ st a w){t e:TypeId}{len k:Nat}{parts:Array (Nat×Operand)}{i:TypeInfo}{z:Value}{zi:I}{os:List O}
  (ho:o.op=.buildSlice t len parts)(hd:o.dst=some d)(hn:d<n)(hu:P.underlying t=some (.slice e))(hi:P.info? e=some i)(hk:i.size=k)(hz:i.zero=some z)(hc:Cb z=some zi)
  (hzk:(cellsI zi).length=k)(vn:0<k)(je:len*k<=16777216)(hidx:parts.toList.map (·.1)=List.range len)(zJ:(parts.toList.map (·.2)).mapM (cO GL)=some os)
  (hs:step P GL (.bsl d e k os) st K):o.wpX P a w (Ar GL n S M w K) Q:=by
 have js:Pr P e=some k:=by simp[Pr,hi,hk]
 have wd:parts.toList.length=len:=by have:=congrArg List.length hidx;simpa using this
 have zS:os.length=len:=by
  have:∀(xs:List Operand) (os:List O),xs.mapM (cO GL)=some os->os.length=xs.length:=by
   intro xs
   induction xs with
   |nil=>intro os h;simp at h;subst h;rfl
   |cons x xs ih=>
    intro os h;rw[List.mapM_cons]at h;cases h1:cO GL x with
    |none=>simp[h1]at h
    |some o=>
     cases h2:xs.mapM (cO GL)with
     |none=>simp[h1,h2]at h
     |some os'=>simp[h1,h2]at h;subst h;simp[ih os' h2]
  rw[this _ _ zJ];simpa using wd
 cases os with
 |nil=>
  simp at zS;subst zS;have hp:parts=#[]:=by apply Array.ext';exact List.eq_nil_of_length_eq_zero wd
  subst hp;simp only[step,step.nilsE']at hs;split at hs
  ·rename_i jo;have qh:(execOp a.eval o).run P w=.ok (.value (.slice (some ⟨w.heap.size,0,none⟩) 0 0)) (w.alloc (.cells #[] e)):=by
    simp only[execOp,ho,Instr.buildSlice,Sem.run_bind,run_underlying hu w,Result.andThen_ok,EF js,Nat.zero_mul];have e0:Array.map (fun x=>(default:Value)) (Array.range 0)=#[]:=by simp
    simp[Instr.fill,newRow,e0]
   have h0:Rel GL n S M μ st a (w.alloc (.cells #[] e)):=h.of (h.toStoOk.alloc _) (Mem.le_refl _) fun _ _ hv=>hv
   exact BK qh ⟨_,hs,M,_,by rw[hd];exact(h0.bindEmpty jo hn (some ⟨w.heap.size,0,none⟩) e k).put hn ⟨DG,by rw[Bb];exact JH _ _⟩,MExt.refl _ _,EC w _ h.low⟩
  ·exact hs.elim
 |cons o1 orest=>
  have hlpos:0<len:=by simp at zS;omega
  simp only[step]at hs;obtain⟨jj,hs⟩:=hs;have w7:∀r∈(o1::orest).map (fun o=>cellsI (FB (AL GL st o))),r.length=k:=fun r hr=>by obtain⟨oo,ho,rfl⟩:=List.mem_map.1 hr;rw[List.all_eq_true]at jj;have:=jj oo ho;simp only[Bool.and_eq_true,beq_iff_eq]at this;exact this.1.2
  have hparts:∀(ps:List (Nat×Operand)) (m:Nat) (os:List O),ps.map (·.1)=List.range' m ps.length->m+ps.length<=len->(ps.map (·.2)).mapM (cO GL)=some os->
    IN GL (fun i=>some (i*k,k)) (len*k) ps=some ((os.zipIdx m).map fun p=>(p.2*k,k,p.1)):=by
   intro ps
   induction ps with
   |nil=>intro m os _ _ h;simp at h;subst h;rfl
   |cons p ps ih=>
    intro m os h1 h2 h3;obtain⟨i,x⟩:=p;simp only[List.map_cons,List.length_cons,List.range'_succ,List.cons.injEq]at h1;obtain⟨rfl,h1⟩:=h1;rw[List.map_cons,List.mapM_cons]at h3;simp only at h3;cases hx:cO GL x with
    |none=>simp[hx]at h3
    |some oo=>
     cases hr:(ps.map (·.2)).mapM (cO GL)with
     |none=>simp[hx,hr]at h3
     |some os'=>
      simp[hx,hr]at h3;subst h3;have:=ih (i+1) os' h1 (by simp at h2;omega) hr;have hf:i*k+k<=len*k:=by have:(i+1)*k<=len*k:=Nat.mul_le_mul_right _ (by simp at h2;omega);rw[Nat.add_mul]at this;omega
      unfold IN at this⊢;rw[List.mapM_cons];simp only[hx,if_pos hf,this];simp[List.zipIdx_cons]
  have hq:=hparts parts.toList 0 (o1::orest) (by rw[hidx,List.range_eq_range',wd]) (by omega) zJ;obtain⟨zs,ve,hzr⟩:=SU (M:=M) (len:=len) (Eg hc) hzk vn;have hall2:(((o1::orest).zipIdx 0).map fun p=>(p.2*k,k,p.1)).all (fun p=>G5 (AL GL st p.2.2)&&((cellsI (FB (AL GL st p.2.2))).length==p.2.1))=true:=by simp only[List.all_map,List.all_eq_true];rintro⟨oo,m⟩ hm;have hm':oo∈o1::orest:=(List.mem_zipIdx hm).2.2▸List.getElem_mem _;rw[List.all_eq_true]at jj;have:=jj oo hm';simp only[Bool.and_eq_true]at this;simp[this.1.1,this.1.2]
  obtain⟨ps,e1,e2,e3⟩:=L5 h parts.toList _ (fun i=>some (i*k,k)) (len*k) hq hall2;have hzsz:z.cells.size=k:=by have:=(Eg (M:=M) hc).cellsI.1;simp at this;omega
  obtain⟨cells',e4,e5⟩:=L4 (place:=fun i=>some (i*k,k)) ps zs _ hzr (fun p hp=>by rw[ve];exact e3 p hp);rw[e2]at e5;have e6:Ed zs ((((o1::orest).zipIdx 0).map fun p=>(p.2*k,k,p.1)).map fun p=>(p.1,cellsI (FB (AL GL st p.2.2))))=((o1::orest).map fun o=>cellsI (FB (AL GL st o))).flatten:=by have:=PS k ((o1::orest).map fun o=>cellsI (FB (AL GL st o))) [] zs w7 (by rw[ve,List.length_map,zS]) 0 (by simp);simp only[List.nil_append]at this;rw[<-this];congr 1;rw[List.map_map,List.zipIdx_map,List.map_map];apply List.map_congr_left;rintro⟨x,y⟩ _;rfl
  rw[e6]at e5;obtain⟨h2,hm,hb⟩:=h.allocKnown cells' e;have hr2:=e5.mono hm.le;generalize ju:(o1::orest).map (fun o=>cellsI (FB (AL GL st o)))=rows at*;have w8:rows.length=len:=by rw[<-ju];simpa using zS
  have vd:cells'.size=len*k:=by have:=e5.1;rw[NH w7,w8]at this;simpa using this
  have hp:Rep (M.with w.heap.size cells') (.sl rows) (.slice (some ⟨w.heap.size,0,none⟩) rows.length len):=by
   have jr:∀i (hi:i<rows.length) j,j<rows[i].length->i*k+j<cells'.size:=fun i hi j hj=>by have:(i+1)*k<=rows.length*k:=Nat.mul_le_mul_right _ hi;have h2:=w7 _ (List.getElem_mem hi);rw[Nat.add_mul]at this;rw[vd,<-w8];omega
   refine Rep.sl rows k w.heap.size 0 len (fun i j=>cells'.getD (i*k+j) Go.undef) w7 (by omega) (fun i hi j hj=>?_) (fun i hi j hj=>?_)
   ·have:=jr i hi j hj;simp[Mem.with,this]
   ·have jl:=jr i hi j hj;have wg:i*k+j<rows.flatten.length:=by rw[NH w7,w8,<-vd];exact jl
    have:=hr2.2 (i*k+j) wg (by simpa using jl);have e7:=PT w7 i hi j hj;rw[List.getElem?_eq_getElem wg]at e7;rw[Option.some.inj e7]at this;simpa[jl]using this
  rw[w8]at hp;refine BK (v:=.slice (some ⟨w.heap.size,0,none⟩) len len) (w':=w.alloc (.cells cells' e)) ?_ ⟨_,hs,_,μ,by rw[hd];exact h2.put hn (AG hp),hm,hb⟩;have jh:¬(len*k>2 ^ 24):=by simpa using je
  have hne2:len*k≠0:=Nat.ne_of_gt (Nat.mul_pos hlpos vn);rw[e1]at e4;have e4':Instr.fill (fun i=>some (i*k,k)) ((Array.range (len*k)).map (z.cells[·%z.cells.size]!)) ((parts.map fun(i,x)=>(i,a.eval x)).toList)=some cells':=by rw[<-e4];congr 1;simp
  simp only[execOp,ho,Instr.buildSlice,Sem.run_bind,run_underlying hu w,Result.andThen_ok,EF js,if_neg jh,if_neg hne2,zeroValue,typeInfo,hi,hz,run_program,Sem.run_pure,e4',newRow,run_newObj];rfl
theorem ZS(h:Rel GL n S M μ st a w){t e:TypeId}{len k:Nat}{parts:Array (Nat×Operand)}{i:TypeInfo}{z:Value}{zi:I}{os:List O}
  (ho:o.op=.buildSlice t len parts)(hd:o.dst=some d)(hn:d<n)(hu:P.underlying t=some (.slice e))(hi:P.info? e=some i)(hk:i.size=k)(hz:i.zero=some z)(hc:Cb z=some zi)
  (hzk:(cellsI zi).length=k)(vn:0<k)(je:len*k<=16777216)(hidx:parts.toList.map (·.1)=List.range len)(zJ:(parts.toList.map (·.2)).mapM (cO GL)=some os)
  (hs:step P GL (.bso d e k os) st K):o.wpX P a w (Ar GL n S M w K) Q:=by
 have js:Pr P e=some k:=by simp[Pr,hi,hk]
 have wd:parts.toList.length=len:=by have:=congrArg List.length hidx;simpa using this
 have zS:os.length=len:=by
  have:∀(xs:List Operand) (os:List O),xs.mapM (cO GL)=some os->os.length=xs.length:=by
   intro xs
   induction xs with
   |nil=>intro os h;simp at h;subst h;rfl
   |cons x xs ih=>
    intro os h;rw[List.mapM_cons]at h;cases h1:cO GL x with
    |none=>simp[h1]at h
    |some o=>
     cases h2:xs.mapM (cO GL)with
     |none=>simp[h1,h2]at h
     |some os'=>simp[h1,h2]at h;subst h;simp[ih os' h2]
  rw[this _ _ zJ];simpa using wd
 cases os with
 |nil=>simp[step]at hs
 |cons o1 orest=>
  have hlpos:0<len:=by simp at zS;omega
  simp only[step,List.isEmpty_cons,Bool.not_false,Bool.true_and]at hs;obtain⟨jj,hs⟩:=hs;have w7:∀r∈(o1::orest).map (fun o=>cellsI (FB (AL GL st o))),r.length=k:=fun r hr=>by obtain⟨oo,ho,rfl⟩:=List.mem_map.1 hr;rw[List.all_eq_true]at jj;have:=jj oo ho;simp only[Bool.and_eq_true,beq_iff_eq]at this;exact this.1.2
  have hparts:∀(ps:List (Nat×Operand)) (m:Nat) (os:List O),ps.map (·.1)=List.range' m ps.length->m+ps.length<=len->(ps.map (·.2)).mapM (cO GL)=some os->
    IN GL (fun i=>some (i*k,k)) (len*k) ps=some ((os.zipIdx m).map fun p=>(p.2*k,k,p.1)):=by
   intro ps
   induction ps with
   |nil=>intro m os _ _ h;simp at h;subst h;rfl
   |cons p ps ih=>
    intro m os h1 h2 h3;obtain⟨i,x⟩:=p;simp only[List.map_cons,List.length_cons,List.range'_succ,List.cons.injEq]at h1;obtain⟨rfl,h1⟩:=h1;rw[List.map_cons,List.mapM_cons]at h3;simp only at h3;cases hx:cO GL x with
    |none=>simp[hx]at h3
    |some oo=>
     cases hr:(ps.map (·.2)).mapM (cO GL)with
     |none=>simp[hx,hr]at h3
     |some os'=>
      simp[hx,hr]at h3;subst h3;have:=ih (i+1) os' h1 (by simp at h2;omega) hr;have hf:i*k+k<=len*k:=by have:(i+1)*k<=len*k:=Nat.mul_le_mul_right _ (by simp at h2;omega);rw[Nat.add_mul]at this;omega
      unfold IN at this⊢;rw[List.mapM_cons];simp only[hx,if_pos hf,this];simp[List.zipIdx_cons]
  have hq:=hparts parts.toList 0 (o1::orest) (by rw[hidx,List.range_eq_range',wd]) (by omega) zJ;obtain⟨zs,ve,hzr⟩:=SU (M:=M) (len:=len) (Eg hc) hzk vn;have hall2:(((o1::orest).zipIdx 0).map fun p=>(p.2*k,k,p.1)).all (fun p=>G5 (AL GL st p.2.2)&&((cellsI (FB (AL GL st p.2.2))).length==p.2.1))=true:=by simp only[List.all_map,List.all_eq_true];rintro⟨oo,m⟩ hm;have hm':oo∈o1::orest:=(List.mem_zipIdx hm).2.2▸List.getElem_mem _;rw[List.all_eq_true]at jj;have:=jj oo hm';simp only[Bool.and_eq_true]at this;simp[this.1.1,this.1.2]
  obtain⟨ps,e1,e2,e3⟩:=L5 h parts.toList _ (fun i=>some (i*k,k)) (len*k) hq hall2;have hzsz:z.cells.size=k:=by have:=(Eg (M:=M) hc).cellsI.1;simp at this;omega
  obtain⟨cells',e4,e5⟩:=L4 (place:=fun i=>some (i*k,k)) ps zs _ hzr (fun p hp=>by rw[ve];exact e3 p hp);rw[e2]at e5;have e6:Ed zs ((((o1::orest).zipIdx 0).map fun p=>(p.2*k,k,p.1)).map fun p=>(p.1,cellsI (FB (AL GL st p.2.2))))=((o1::orest).map fun o=>cellsI (FB (AL GL st o))).flatten:=by have:=PS k ((o1::orest).map fun o=>cellsI (FB (AL GL st o))) [] zs w7 (by rw[ve,List.length_map,zS]) 0 (by simp);simp only[List.nil_append]at this;rw[<-this];congr 1;rw[List.map_map,List.zipIdx_map,List.map_map];apply List.map_congr_left;rintro⟨x,y⟩ _;rfl
  rw[e6]at e5;generalize ju:(o1::orest).map (fun o=>cellsI (FB (AL GL st o)))=rows at*;have w8:rows.length=len:=by rw[<-ju];simpa using zS
  have vd:cells'.size=len*k:=by have:=e5.1;rw[NH w7,w8]at this;simpa using this
  have jr:∀i (hi:i<rows.length) j,j<rows[i].length->i*k+j<cells'.size:=fun i hi j hj=>by have:(i+1)*k<=rows.length*k:=Nat.mul_le_mul_right _ hi;have h2:=w7 _ (List.getElem_mem hi);rw[Nat.add_mul]at this;rw[vd,<-w8];omega
  unfold Iz at hs;split at hs
  ·rename_i jo;have k7:len<=maxLen:=by have:len*1<=len*k:=Nat.mul_le_mul_left _ vn;simp only[maxLen];omega
   have h0:Rel GL n S M μ st a (w.alloc (.cells cells' e)):=h.of (h.toStoOk.alloc _) (Mem.le_refl _) fun _ _ hv=>hv
   have h1:=h0.bindName jo hn (b:=.rows e k rows) (x:=.slice (some ⟨w.heap.size,0,none⟩) 0 len)
    ⟨some ⟨w.heap.size,0,none⟩,len,Bb _ _ _,.inr ⟨w.heap.size,0,cells',rfl,hlpos,⟨fun hS=>by have:=h.low _ hS;omega,E1 w _,Mem.unk_new h.sub (Nat.le_refl _)⟩,k7,by rw[vd,Nat.zero_add],by omega,w7,fun i hi j hj=>by
     have jl:=jr i hi j hj;have wg:i*k+j<rows.flatten.length:=by rw[NH w7,w8,<-vd];exact jl
     have:=e5.2 (i*k+j) wg (by simpa using jl);have e7:=PT w7 i hi j hj;rw[List.getElem?_eq_getElem wg]at e7;rw[Option.some.inj e7]at this;exact⟨cells'[i*k+j],by simp[jl],by simpa using this⟩⟩⟩
    (fun m q hm hq=>by have:=(h.toStoOk.lt hm hq).1;simp only[An];rw[if_neg (by omega)];intro e;cases e;omega)
   refine BK (v:=.slice (some ⟨w.heap.size,0,none⟩) len len) (w':=w.alloc (.cells cells' e)) ?_ ⟨_,hs,M,_,by rw[hd];exact h1.put hn ⟨DG,by rw[Bb];exact⟨some ⟨w.heap.size,0,none⟩,len,rfl,Nat.zero_le _,by omega,.inr ⟨w.heap.size,0,rfl,by simp[w8]⟩⟩⟩,MExt.refl _ _,EC w _ h.low⟩;have jh:¬(len*k>2 ^ 24):=by simpa using je
   have hne2:len*k≠0:=Nat.ne_of_gt (Nat.mul_pos hlpos vn);rw[e1]at e4;have e4':Instr.fill (fun i=>some (i*k,k)) ((Array.range (len*k)).map (z.cells[·%z.cells.size]!)) ((parts.map fun(i,x)=>(i,a.eval x)).toList)=some cells':=by rw[<-e4];congr 1;simp
   simp only[execOp,ho,Instr.buildSlice,Sem.run_bind,run_underlying hu w,Result.andThen_ok,EF js,if_neg jh,if_neg hne2,zeroValue,typeInfo,hi,hz,run_program,Sem.run_pure,e4',newRow,run_newObj];rfl
  ·exact hs.elim
end
end Go.Dl
