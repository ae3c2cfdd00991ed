/-Lemmas.-/
import Derived.Test.YtkhlddbmhehbbaaGreatDoorU3
import Derived.WideKeyRuns
import Derived.MapKept
import Derived.Maps.RangeRun
import Derived.Lib.ConvBytes
import Derived.Laws.BytesString
set_option linter.all false
section
namespace Go.Dl
open Go Go.RowKit
variable{k:Nat}
section
variable {P:Program}{GL:List (Nat×List I)}{n:Nat}{S:Sh}{M:Mem}{μ:Place}{st:St}{a:Act}{w:World}{K:St->Prop}{Q:Exit->Act->World->Prop}{o:Oper}{d:Nat}
theorem iN(us:List Value):∀(off j:Nat) (cs:Array Value),((us.zipIdx j).foldl (fun cs x=>cs.setIfInBounds (off+x.2) x.1) cs).size=cs.size/\
  ∀p,((us.zipIdx j).foldl (fun cs x=>cs.setIfInBounds (off+x.2) x.1) cs)[p]? =if off+j<=p/\p<off+j+us.length/\p<cs.size then us[p-off-j]? else cs[p]? :=by
 induction us with
 |nil=>intro off j cs;refine⟨rfl,fun p=>?_⟩;rw[if_neg (by simp;omega)];rfl
 |cons u us ih=>
  intro off j cs;simp only[List.zipIdx_cons,List.foldl_cons];obtain⟨h1,h2⟩:=ih off (j+1) (cs.setIfInBounds (off+j) u);refine⟨by rw[h1];simp,fun p=>?_⟩;rw[h2 p];simp only[Array.size_setIfInBounds,List.length_cons,Array.getElem?_setIfInBounds];by_cases hp:p=off+j
  ·subst hp;rw[if_neg (fun hh=>by omega)];by_cases hs:off+j<cs.size
   ·rw[if_pos rfl,if_pos hs,if_pos ⟨Nat.le_refl _,by omega,hs⟩];simp
   ·rw[if_pos rfl,if_neg hs,if_neg (fun hh=>hs hh.2.2)];simp;omega
  ·by_cases hc:off+(j+1)<=p/\p<off+(j+1)+us.length/\p<cs.size
   ·rw[if_pos hc,if_pos ⟨by omega,by omega,hc.2.2⟩];rw[show p-off-j=(p-off-(j+1))+1 by omega];simp
   ·rw[if_neg hc,if_neg (fun h=>hp h.symm),if_neg (fun hh=>hc ⟨by omega,by omega,hh.2.2⟩)]
theorem iO(us cs:Array Value)(off:Nat)(h:off+us.size<=cs.size):(us.zipIdx.foldl (fun cs (c,j)=>cs.setIfInBounds (off+j) c) cs)=(setL cs.toList off us.toList).toArray:=by
 have:=iN us.toList off 0 cs;have e:us.zipIdx.foldl (fun cs (c,j)=>cs.setIfInBounds (off+j) c) cs=(us.toList.zipIdx 0).foldl (fun cs x=>cs.setIfInBounds (off+x.2) x.1) cs:=by rw[<-Array.foldl_toList,Array.toList_zipIdx]
 rw[e];apply Array.ext_getElem?;grind[Jt]
theorem Ak.setL{zs cs:List I}{vs us:List Value}{off:Nat}(h:Ak M zs vs)(k:Ak M cs us)(j6:off+cs.length<=zs.length):Ak M (setL zs off cs) (Dl.setL vs off us):=by
 have e1:=h.1;have e2:=k.1;refine⟨by rw[C4 _ _ _ (by omega),C4 _ _ _ (by omega)];exact e1,fun j a b=>?_⟩;have g1:(Dl.setL zs off cs)[j]? =some ((Dl.setL zs off cs)[j]):=List.getElem?_eq_getElem a;have g2:(Dl.setL vs off us)[j]? =some ((Dl.setL vs off us)[j]):=List.getElem?_eq_getElem b;rw[Jt _ _ _ (by omega)]at g1 g2;rw[C4 _ _ _ (by omega)]at a b;by_cases hc:off<=j/\j<off+cs.length
 ·rw[if_pos hc,List.getElem?_eq_getElem (by omega)]at g1;rw[if_pos (by omega),List.getElem?_eq_getElem (by omega)]at g2;rw[<-Option.some.inj g1,<-Option.some.inj g2];exact k.2 _ (by omega) (by omega)
 ·rw[if_neg hc,List.getElem?_eq_getElem a]at g1;rw[if_neg (by omega),List.getElem?_eq_getElem b]at g2;rw[<-Option.some.inj g1,<-Option.some.inj g2];exact h.2 _ a b
theorem QF{place:Nat->Option (Nat×Nat)}:∀(parts:List (Nat×Nat×Nat×I×Value)) (zs:List I) (cells:Array Value),Ak M zs cells.toList->
  (∀p∈parts,place p.1=some (p.2.1,p.2.2.1)/\p.2.1+p.2.2.1<=zs.length/\(cellsI p.2.2.2.1).length=p.2.2.1/\Rep M p.2.2.2.1 p.2.2.2.2)->
  ∃cells',Instr.fill place cells (parts.map fun p=>(p.1,p.2.2.2.2))=some cells'/\Ak M (HA zs (parts.map fun p=>(p.2.1,cellsI p.2.2.2.1))) cells'.toList
 |[],zs,cells,h,_=>⟨cells,rfl,h⟩
 |(i,off,size,x,v)::r,zs,cells,h,hp=>by
  obtain⟨h1,h2,h3,h4⟩:=hp (i,off,size,x,v) (by simp);simp only at h1 h2 h3 h4;have hc:=h4.cellsI;have j0:v.cells.size=size:=by have:=hc.1;simp at this;omega
  have qt:cells.size=zs.length:=by have:=h.1;simpa using this
  have jr:Ak M (setL zs off (cellsI x)) (setL cells.toList off v.cells.toList).toArray.toList:=by simpa using h.setL hc (by omega)
  obtain⟨cells',e1,e2⟩:=QF r (setL zs off (cellsI x)) _ jr (fun p hpp=>by obtain⟨a1,a2,a3,a4⟩:=hp p (by simp[hpp]);exact⟨a1,by rw[C4 _ _ _ (by omega)];exact a2,a3,a4⟩)
  refine⟨cells',?_,e2⟩;simp only[List.map_cons,Instr.fill,h1];rw[if_neg (by simp;omega)];rw[iO _ _ _ (by omega)];exact e1
theorem QG(h:Rel GL n S M μ st a w):∀(parts:List (Nat×Operand)) (qs:List (Nat×Nat×O)) (place:Nat->Option (Nat×Nat)) (len:Nat),
  parts.mapM (fun p=>match place p.1,cO GL p.2 with|some (off,size),some oo=>if off+size<=len then some (off,size,oo)else none|_,_=>none)=some qs->
  (qs.all fun p=>Ja (A8 GL st p.2.2)&&((cellsI (Ii (A8 GL st p.2.2))).length==p.2.1))=true->
  ∃ps:List (Nat×Nat×Nat×I×Value),ps.map (fun p=>(p.1,p.2.2.2.2))=parts.map (fun p=>(p.1,a.eval p.2))/\ps.map (fun p=>(p.2.1,cellsI p.2.2.2.1))=qs.map (fun p=>(p.1,cellsI (Ii (A8 GL st p.2.2))))/\
   ∀p∈ps,place p.1=some (p.2.1,p.2.2.1)/\p.2.1+p.2.2.1<=len/\(cellsI p.2.2.2.1).length=p.2.2.1/\Rep M p.2.2.2.1 p.2.2.2.2
 |[],qs,place,len,hq,_=>by simp_all
 |(i,x)::r,qs,place,len,hq,hi=>by
  rw[List.mapM_cons]at hq;simp only at hq;cases hp:place i with
  |none=>simp[hp]at hq
  |some os=>
   obtain⟨off,size⟩:=os;cases hx:cO GL x with
   |none=>simp[hp,hx]at hq
   |some oo=>
    by_cases hf:off+size<=len
    ·simp only[hp,hx,if_pos hf,Option.pure_def,Option.bind_eq_bind,Option.bind_some,Option.bind_eq_some_iff,Option.some.injEq]at hq;obtain⟨qs',je,rfl⟩:=hq;simp only[List.all_cons,Bool.and_eq_true,beq_iff_eq]at hi;obtain⟨ps,e1,e2,e3⟩:=QG h r qs' place len je hi.2;refine⟨(i,off,size,Ii (A8 GL st oo),a.eval x)::ps,by simp[e1],by simp[e2],?_⟩;intro p hpm;rcases List.mem_cons.1 hpm with rfl|hpm
     ·exact⟨hp,hf,hi.1.2,OS (Az h hx) hi.1.1⟩
     ·grind
    all_goals grind
theorem iP{fs:Array Field}{ks:List Nat}(hks:fs.toList.mapM (fun f=>Qp P f.type)=some ks)(w:World):
  (fs.mapM fun f=>(do pure (f.offset,<-sizeOf f.type):Sem (Nat×Nat))).run P w=.ok ((fs.toList.zip ks).map fun p=>(p.1.offset,p.2)).toArray w:=by
 have key:∀(l:List Field) (ks:List Nat),l.mapM (fun f=>Qp P f.type)=some ks->(l.mapM fun f=>(do pure (f.offset,<-sizeOf f.type):Sem (Nat×Nat))).run P w=.ok ((l.zip ks).map fun p=>(p.1.offset,p.2)) w:=by
  intro l
  induction l with
  |nil=>intro ks h;simp at h;subst h;rfl
  |cons f r ih=>
   intro ks h;rw[List.mapM_cons]at h;cases h1:Qp P f.type with
   |none=>simp[h1]at h
   |some k=>
    cases h2:r.mapM (fun f=>Qp P f.type)with
    |none=>simp[h1,h2]at h
    |some ks'=>simp[h1,h2]at h;subst h;simp_all[EU]
 rw[<-Array.toArray_toList (xs:=fs),List.mapM_toArray];simp only[Sem.run_map,key _ _ hks,Result.andThen_ok]
end
def Te(P:Program)(fs:Array Field):Option (List (Nat×Nat)):=(fs.toList.mapM (fun f=>Qp P f.type)).map fun ks=>(fs.toList.zip ks).map fun p=>(p.1.offset,p.2)
def Nk(GL:List (Nat×List I))(place:Nat->Option (Nat×Nat))(len:Nat)(parts:List (Nat×Operand)):Option (List (Nat×Nat×O)):=
 parts.mapM (fun p=>match place p.1,cO GL p.2 with|some (off,size),some oo=>if off+size<=len then some (off,size,oo)else none|_,_=>none)
section
variable {P:Program}{GL:List (Nat×List I)}{n:Nat}{S:Sh}{M:Mem}{μ:Place}{st:St}{a:Act}{w:World}{K:St->Prop}{Q:Exit->Act->World->Prop}{o:Oper}{d:Nat}
theorem iQ(h:Rel GL n S M μ st a w){t:TypeId}{parts:Array (Nat×Operand)}{i:TypeInfo}{z:Value}{zi:I}{fs:Array Field}{pl:List (Nat×Nat)}{qs:List (Nat×Nat×O)}
  (ho:o.op=.build t parts)(hd:o.dst=some d)(hn:d<n)(hi:P.info? t=some i)(hz:i.zero=some z)(hc:D0 z=some zi)(hu:P.underlying t=some (.struct fs))(vp:Te P fs=some pl)
  (hq:Nk GL (fun j=>pl[j]?) (cellsI zi).length parts.toList=some qs)(hs:step P GL (.build d (cellsI zi) qs) st K):o.wpX P a w (Ax GL n S M w K) Q:=by
 obtain⟨jg,hs⟩:=hs;have hrz:Ak M (cellsI zi) z.cells.toList:=(G3 hc).cellsI;obtain⟨ps,e1,e2,e3⟩:=QG h parts.toList qs _ _ hq jg;obtain⟨cells',e4,e5⟩:=QF (place:=fun j=>pl[j]?) ps (cellsI zi) z.cells hrz e3;unfold Te at vp;cases hks:fs.toList.mapM (fun f=>Qp P f.type)with
 |none=>simp[hks]at vp
 |some ks=>
  simp[hks]at vp;rw[e2]at e5;refine A3 h hd hn (v:=.agg cells') ?_ (AM (Rep.agg' e5)) hs;rw[e1]at e4;have e4':Instr.fill (fun x=>((fs.toList.zip ks).map fun p=>(p.1.offset,p.2)).toArray[x]?) z.cells ((parts.map fun(i,x)=>(i,a.eval x)).toList)=some cells':=by simp_all
  simp only[execOp,ho,Instr.build,Sem.run_bind,zeroValue,typeInfo,hi,hz,run_program,Result.andThen_ok,Sem.run_pure,run_underlying hu w,iP hks w,e4']
theorem Xc(k:Nat):∀(rows:List (List I)) (pre zs:List I),(∀r∈rows,r.length=k)->zs.length=rows.length*k->∀m,pre.length=m*k->
  HA (pre++zs) ((rows.zipIdx m).map fun p=>(p.2*k,p.1))=pre++rows.flatten
 |[],pre,zs,_,hz,m,hm=>by simp_all[HA]
 |r::rows,pre,zs,hr,hz,m,hm=>by
  have hk:r.length=k:=hr r (by simp);simp only[List.zipIdx_cons,List.map_cons,HA];have hz':zs.length=rows.length*k+k:=by grind
  have e:setL (pre++zs) (m*k) r=(pre++r)++zs.drop k:=by simp only[setL];rw[List.take_append_of_le_length (by omega),List.take_of_length_le (by omega),<-hm,List.drop_append];simp_all
  rw[e,Xc k rows (pre++r) (zs.drop k) (fun x hx=>hr x (by simp[hx])) (by simp;omega) (m+1) (by simp[Nat.add_mul,hm,hk])];simp
theorem Xd{k:Nat}:∀{rows:List (List I)},(∀r∈rows,r.length=k)->∀i (hi:i<rows.length) j (hj:j<rows[i].length),rows.flatten[i*k+j]? =some (rows[i][j])
 |r::rows,hr,0,hi,j,hj=>by grind
 |r::rows,hr,i+1,hi,j,hj=>by have hk:r.length=k:=hr r (by simp);simp only[List.flatten_cons,List.getElem_cons_succ];rw[List.getElem?_append_right (by rw[Nat.add_mul];omega),show(i+1)*k+j-r.length=i*k+j by rw[Nat.add_mul];omega];exact Xd (fun x hx=>hr x (by simp[hx])) i (by simpa using hi) j (by simpa using hj)
theorem Xe{rows:List (List I)}(h:∀r∈rows,r.length=k):rows.flatten.length=rows.length*k:=by
 induction rows with
 |nil=>simp
 |cons r rows ih=>grind
theorem iR{z:Value}{zi:I}{len:Nat}(hz:Rep M zi z)(hk:(cellsI zi).length=k)(vk:0<k):
  ∃zs:List I,zs.length=len*k/\Ak M zs ((Array.range (len*k)).map (fun x=>z.cells[x%z.cells.size]!)).toList:=by
 have hl:=hz.cellsI;have hs:z.cells.size=k:=by have:=hl.1;simp at this;omega
 refine⟨(List.range (len*k)).map fun x=>(cellsI zi).getD (x%k) .undef,by simp,by simp,fun j a b=>?_⟩;simp at a;have hm:j%k<k:=Nat.mod_lt _ vk;have:=hl.2 (j%k) (by omega) (by simp;omega);simp only[List.getElem_map,List.getElem_range,Array.toList_map,Array.toList_range,hs];rw[List.getD_eq_getElem?_getD,List.getElem?_eq_getElem (by omega),Option.getD_some,getElem!_pos _ _ (by omega)];simpa using this
theorem iS{e:Nat}{os:List O}(hs:step P GL (.bsn d e k os) st K):step P GL (.bsl d e k os) st K:=by grind[step]
theorem Xf(h:Rel GL n S M μ st a w){t e:TypeId}{len k:Nat}{parts:Array (Nat×Operand)}{i:TypeInfo}{z:Value}{zi:I}{os:List O}
  (ho:o.op=.buildSlice t len parts)(hu:P.underlying t=some (.slice e))(hi:P.info? e=some i)(hk:i.size=k)(hz:i.zero=some z)(hc:D0 z=some zi)
  (hzk:(cellsI zi).length=k)(vk:0<k)(jd:len*k<=16777216)(hidx:parts.toList.map (·.1)=List.range len)(hos:(parts.toList.map (·.2)).mapM (cO GL)=some os)
  (hne0:os≠[])(jg:(os.all fun o=>Ja (A8 GL st o)&&((cellsI (Ii (A8 GL st o))).length==k)&&(cellsI (Ii (A8 GL st o))).all I.one)=true){rows:List (List I)}(js:os.map (fun o=>cellsI (Ii (A8 GL st o)))=rows):
  ∃cells',(execOp a.eval o).run P w=.ok (.value (.slice (some ⟨w.heap.size,0,none⟩) len len)) (w.alloc (.cells cells' e))/\rows.length=len/\0<len/\cells'.size=len*k/\(∀r∈rows,r.length=k)/\
   ∀i (hi:i<rows.length) j (hj:j<rows[i].length),∃u,cells'[i*k+j]? =some u/\Rep M (rows[i][j]) u:=by
 have j0:Qp P e=some k:=by simp[Qp,hi,hk]
 have vp:parts.toList.length=len:=by have:=congrArg List.length hidx;simpa using this
 have hol:os.length=len:=by
  have:∀(xs:List Operand) (os:List O),xs.mapM (cO GL)=some os->os.length=xs.length:=by
   intro xs
   induction xs with
   |nil=>intro os h;simp at h;subst h;rfl
   |cons x xs ih=>
    intro os h;rw[List.mapM_cons]at h;cases h1:cO GL x with
    |none=>simp[h1]at h
    |some o=>
     cases h2:xs.mapM (cO GL)with
     |none=>simp[h1,h2]at h
     |some os'=>simp[h1,h2]at h;subst h;simp[ih os' h2]
  rw[this _ _ hos];simpa using vp
 cases os with
 |nil=>exact(hne0 rfl).elim
 |cons o1 orest=>
  have hlpos:0<len:=by simp at hol;omega
  have w9:∀r∈(o1::orest).map (fun o=>cellsI (Ii (A8 GL st o))),r.length=k:=fun r hr=>by obtain⟨oo,ho,rfl⟩:=List.mem_map.1 hr;rw[List.all_eq_true]at jg;have:=jg oo ho;simp only[Bool.and_eq_true,beq_iff_eq]at this;exact this.1.2
  have hparts:∀(ps:List (Nat×Operand)) (m:Nat) (os:List O),ps.map (·.1)=List.range' m ps.length->m+ps.length<=len->(ps.map (·.2)).mapM (cO GL)=some os->
    Nk GL (fun i=>some (i*k,k)) (len*k) ps=some ((os.zipIdx m).map fun p=>(p.2*k,k,p.1)):=by
   intro ps
   induction ps with
   |nil=>intro m os _ _ h;simp at h;subst h;rfl
   |cons p ps ih=>
    intro m os h1 h2 h3;obtain⟨i,x⟩:=p;simp only[List.map_cons,List.length_cons,List.range'_succ,List.cons.injEq]at h1;obtain⟨rfl,h1⟩:=h1;rw[List.map_cons,List.mapM_cons]at h3;simp only at h3;cases hx:cO GL x with
    |none=>simp[hx]at h3
    |some oo=>
     cases hr:(ps.map (·.2)).mapM (cO GL)with
     |none=>simp[hx,hr]at h3
     |some os'=>
      simp[hx,hr]at h3;subst h3;have:=ih (i+1) os' h1 (by simp at h2;omega) hr;have hf:i*k+k<=len*k:=by have:(i+1)*k<=len*k:=Nat.mul_le_mul_right _ (by simp at h2;omega);rw[Nat.add_mul]at this;omega
      unfold Nk at this⊢;rw[List.mapM_cons];simp only[hx,if_pos hf,this];simp[List.zipIdx_cons]
  have hq:=hparts parts.toList 0 (o1::orest) (by rw[hidx,List.range_eq_range',vp]) (by omega) hos;obtain⟨zs,vh,hzr⟩:=iR (M:=M) (len:=len) (G3 hc) hzk vk;have hall2:(((o1::orest).zipIdx 0).map fun p=>(p.2*k,k,p.1)).all (fun p=>Ja (A8 GL st p.2.2)&&((cellsI (Ii (A8 GL st p.2.2))).length==p.2.1))=true:=by simp only[List.all_map,List.all_eq_true];rintro⟨oo,m⟩ hm;have hm':oo∈o1::orest:=(List.mem_zipIdx hm).2.2▸List.getElem_mem _;rw[List.all_eq_true]at jg;have:=jg oo hm';simp only[Bool.and_eq_true]at this;simp[this.1.1,this.1.2]
  obtain⟨ps,e1,e2,e3⟩:=QG h parts.toList _ (fun i=>some (i*k,k)) (len*k) hq hall2;have hzsz:z.cells.size=k:=by have:=(G3 (M:=M) hc).cellsI.1;simp at this;omega
  obtain⟨cells',e4,e5⟩:=QF (place:=fun i=>some (i*k,k)) ps zs _ hzr (fun p hp=>by rw[vh];exact e3 p hp);rw[e2]at e5;have e6:HA zs ((((o1::orest).zipIdx 0).map fun p=>(p.2*k,k,p.1)).map fun p=>(p.1,cellsI (Ii (A8 GL st p.2.2))))=((o1::orest).map fun o=>cellsI (Ii (A8 GL st o))).flatten:=by have:=Xc k ((o1::orest).map fun o=>cellsI (Ii (A8 GL st o))) [] zs w9 (by rw[vh,List.length_map,hol]) 0 (by simp);simp only[List.nil_append]at this;rw[<-this];congr 1;rw[List.map_map,List.zipIdx_map,List.map_map];apply List.map_congr_left;rintro⟨x,y⟩ _;rfl
  rw[e6]at e5;rw[js]at e5 w9;have xb:rows.length=len:=by rw[<-js];simpa using hol
  have qt:cells'.size=len*k:=by have:=e5.1;rw[Xe w9,xb]at this;simpa using this
  have kh:∀i (hi:i<rows.length) j,j<rows[i].length->i*k+j<cells'.size:=fun i hi j hj=>by have:(i+1)*k<=rows.length*k:=Nat.mul_le_mul_right _ hi;have h2:=w9 _ (List.getElem_mem hi);rw[Nat.add_mul]at this;rw[qt,<-xb];omega
  refine⟨cells',?_,xb,hlpos,qt,w9,fun i hi j hj=>?_⟩
  ·have ji:¬(len*k>2 ^ 24):=by simpa using jd
   have hne2:len*k≠0:=Nat.ne_of_gt (Nat.mul_pos hlpos vk);rw[e1]at e4;have e4':Instr.fill (fun i=>some (i*k,k)) ((Array.range (len*k)).map (z.cells[·%z.cells.size]!)) ((parts.map fun(i,x)=>(i,a.eval x)).toList)=some cells':=by rw[<-e4];congr 1;simp
   simp only[execOp,ho,Instr.buildSlice,Sem.run_bind,run_underlying hu w,Result.andThen_ok,EU j0,if_neg ji,if_neg hne2,zeroValue,typeInfo,hi,hz,run_program,Sem.run_pure,e4',newRow,run_newObj];rfl
  ·have jn:=kh i hi j hj;have hfl:i*k+j<rows.flatten.length:=by rw[Xe w9,xb,<-qt];exact jn
   have:=e5.2 (i*k+j) hfl (by simpa using jn);have e7:=Xd w9 i hi j hj;rw[List.getElem?_eq_getElem hfl]at e7;rw[Option.some.inj e7]at this;exact⟨cells'[i*k+j],by simp[jn],by simpa using this⟩
theorem iT(h:Rel GL n S M μ st a w){t e:TypeId}{len k:Nat}{parts:Array (Nat×Operand)}{i:TypeInfo}{z:Value}{zi:I}{os:List O}
  (ho:o.op=.buildSlice t len parts)(hd:o.dst=some d)(hn:d<n)(hu:P.underlying t=some (.slice e))(hi:P.info? e=some i)(hk:i.size=k)(hz:i.zero=some z)(hc:D0 z=some zi)
  (hzk:(cellsI zi).length=k)(vk:0<k)(jd:len*k<=16777216)(hidx:parts.toList.map (·.1)=List.range len)(hos:(parts.toList.map (·.2)).mapM (cO GL)=some os)
  (hs:step P GL (.bsl d e k os) st K):o.wpX P a w (Ax GL n S M w K) Q:=by
 cases os with
 |nil=>
  have j0:Qp P e=some k:=by simp[Qp,hi,hk]
  have hp:parts=#[]:=by
   cases hp:parts.toList with
   |nil=>exact Array.ext' hp
   |cons p ps=>rw[hp]at hos;simp[List.mapM_cons,Option.bind_eq_some_iff]at hos
  subst hp;obtain rfl:len=0:=by have:=congrArg List.length hidx;simpa using this.symm
  simp only[step,step.nilsE']at hs;split at hs
  ·rename_i jl;have kz:(execOp a.eval o).run P w=.ok (.value (.slice (some ⟨w.heap.size,0,none⟩) 0 0)) (w.alloc (.cells #[] e)):=by
    simp only[execOp,ho,Instr.buildSlice,Sem.run_bind,run_underlying hu w,Result.andThen_ok,EU j0,Nat.zero_mul];have e0:Array.map (fun x=>(default:Value)) (Array.range 0)=#[]:=by simp
    simp[Instr.fill,newRow,e0]
   have h0:Rel GL n S M μ st a (w.alloc (.cells #[] e)):=h.of (h.toStoOk.alloc _) (Mem.le_refl _) fun _ _ hv=>hv
   exact B9 kz ⟨_,hs,M,_,by rw[hd];exact(h0.bindEmpty jl hn (some ⟨w.heap.size,0,none⟩) e k).put hn ⟨Eo,by rw[Bq];exact Kv _ _⟩,MExt.refl _ _,Gp w _ h.low⟩
  ·exact hs.elim
 |cons o1 orest=>
  simp only[step]at hs;obtain⟨jg,hs⟩:=hs;generalize js:(o1::orest).map (fun o=>cellsI (Ii (A8 GL st o)))=rows at*;obtain⟨cells',jf,xb,hlpos,qt,w9,jp⟩:=Xf h ho hu hi hk hz hc hzk vk jd hidx hos (by simp) jg js;obtain⟨h2,hm,hb⟩:=h.allocKnown cells' e;have hp:Rep (M.with w.heap.size cells') (.sl rows) (.slice (some ⟨w.heap.size,0,none⟩) rows.length len):=by
   refine Rep.sl rows k w.heap.size 0 len (fun i j=>cells'.getD (i*k+j) Go.undef) w9 (by omega) (fun i hi j hj=>?_) (fun i hi j hj=>?_)
   all_goals
    obtain⟨u,hu,hr⟩:=jp i hi j hj;have:=hr.mono hm.le;simpa[Mem.with,hu]
  rw[xb]at hp;exact B9 jf ⟨_,hs,_,μ,by rw[hd];exact h2.put hn (AM hp),hm,hb⟩
theorem iV(h:Rel GL n S M μ st a w){t e:TypeId}{len k:Nat}{parts:Array (Nat×Operand)}{i:TypeInfo}{z:Value}{zi:I}{os:List O}
  (ho:o.op=.buildSlice t len parts)(hd:o.dst=some d)(hn:d<n)(hu:P.underlying t=some (.slice e))(hi:P.info? e=some i)(hk:i.size=k)(hz:i.zero=some z)(hc:D0 z=some zi)
  (hzk:(cellsI zi).length=k)(vk:0<k)(jd:len*k<=16777216)(hidx:parts.toList.map (·.1)=List.range len)(hos:(parts.toList.map (·.2)).mapM (cO GL)=some os)
  (hs:step P GL (.bso d e k os) st K):o.wpX P a w (Ax GL n S M w K) Q:=by
 cases os with
 |nil=>simp[step]at hs
 |cons o1 orest=>
  simp only[step,List.isEmpty_cons,Bool.not_false,Bool.true_and]at hs;obtain⟨jg,hs⟩:=hs;generalize js:(o1::orest).map (fun o=>cellsI (Ii (A8 GL st o)))=rows at*;obtain⟨cells',jf,xb,hlpos,qt,w9,jp⟩:=Xf h ho hu hi hk hz hc hzk vk jd hidx hos (by simp) jg js;unfold Ji at hs;split at hs
  ·rename_i jl;have vt:len<=maxLen:=by have:len*1<=len*k:=Nat.mul_le_mul_left _ vk;simp only[maxLen];omega
   have h0:Rel GL n S M μ st a (w.alloc (.cells cells' e)):=h.of (h.toStoOk.alloc _) (Mem.le_refl _) fun _ _ hv=>hv
   have h1:=h0.bindName jl hn (b:=.rows e k rows) (x:=.slice (some ⟨w.heap.size,0,none⟩) 0 len)
    ⟨some ⟨w.heap.size,0,none⟩,len,Bq _ _ _,.inr ⟨w.heap.size,0,cells',rfl,hlpos,⟨fun hS=>by have:=h.low _ hS;omega,GY w _,Mem.unk_new h.sub (Nat.le_refl _)⟩,vt,by rw[qt,Nat.zero_add],by omega,w9,fun i hi j hj=>by simpa using jp i hi j hj⟩⟩
    (fun m q hm hq=>by have:=(h.toStoOk.lt hm hq).1;simp only[An];rw[if_neg (by omega)];intro e;cases e;omega)
   exact B9 (v:=.slice (some ⟨w.heap.size,0,none⟩) len len) (w':=w.alloc (.cells cells' e)) jf ⟨_,hs,M,_,by rw[hd];exact h1.put hn ⟨Eo,by rw[Bq];exact⟨some ⟨w.heap.size,0,none⟩,len,rfl,Nat.zero_le _,by omega,.inr ⟨w.heap.size,0,rfl,by simp[xb]⟩⟩⟩,MExt.refl _ _,Gp w _ h.low⟩
  ·exact hs.elim
end
end Go.Dl
end
section
namespace Go.Dl
open Go Go.RowKit
def Gr(fl:TypeId->Option (List LK)):List Field->Nat->Option (List LK)
 |[],_=>some []
 |f::r,off=>if f.name≠ "_"/\f.offset=off then match fl f.type with|some k=>if k.length=0 then none else(Gr fl r (off+k.length)).map (k++·)|none=>none else none
def Cj(P:Program):Nat->TypeId->Option (List LK)
 |0,_=>none
 |d+1,t=>match P.underlying t with
  |some .bool=>if Qp P t=some 1 then some [.b]else none
  |some (.int q)=>if Qp P t=some 1 then some [.i q]else none
  |some .string=>if Qp P t=some 1 then some [.s]else none
  |some (.struct fs)=>if P.stoodInHeld t=false then(match Gr (Cj P d) fs.toList 0 with|some k=>if Qp P t=some k.length then some k else none|none=>none)else none
  |_=>none
def Ju:TypeDesc->Bool
 |.struct _|.array _ _=>true
 |_=>false
section
variable {P:Program}{GL:List (Nat×List I)}{n:Nat}{S:Sh}{M:Mem}{μ:Place}{st:St}{a:Act}{w:World}{K:St->Prop}{Q:Exit->Act->World->Prop}{o:Oper}{d:Nat}
theorem eqL_len:∀{ls:List LK} {xs ys:List I} {r:Bool},eqL ls xs ys=some r->xs.length=ls.length/\ys.length=ls.length
 |[],[],[],_,_=>⟨rfl,rfl⟩
 |l::ls,x::xs,y::ys,r,h=>by
  simp only[eqL]at h;cases h1:gH l x y with
  |none=>simp[h1]at h
  |some b=>
   cases h2:eqL ls xs ys with
   |none=>simp[h1,h2]at h
   |some c=>obtain⟨e1,e2⟩:=eqL_len h2;simp[e1,e2]
 |[],x::xs,_,r,h=>by grind[eqL]
 |[],[],y::ys,r,h=>by grind[eqL]
 |l::ls,[],_,r,h=>by grind[eqL]
 |l::ls,x::xs,[],r,h=>by grind[eqL]
theorem Xg:∀(ks ls:List LK) (xs ys:List I) (r:Bool),eqL (ks++ls) xs ys=some r->∃r1 r2,eqL ks (xs.take ks.length) (ys.take ks.length)=some r1/\eqL ls (xs.drop ks.length) (ys.drop ks.length)=some r2/\r=(r1&&r2)
 |[],ls,xs,ys,r,h=>⟨true,r,by simp[eqL],h,by simp⟩
 |k::ks,ls,x::xs,y::ys,r,h=>by
  simp only[List.cons_append,eqL]at h;cases h1:gH k x y with
  |none=>simp[h1]at h
  |some b=>
   cases h2:eqL (ks++ls) xs ys with
   |none=>simp[h1,h2]at h
   |some c=>simp[h1,h2]at h;obtain⟨r1,r2,e1,e2,rfl⟩:=Xg ks ls xs ys c h2;refine⟨b&&r1,r2,?_,e2,by rw[<-h,Bool.and_assoc]⟩;simp[eqL,h1,e1]
 |k::ks,ls,[],_,r,h=>by grind[eqL]
 |k::ks,ls,x::xs,[],r,h=>by grind[eqL]
theorem In{t:TypeId}{dsc:TypeDesc}(h:P.underlying t=some dsc):Eu P t=some (Ju dsc):=by grind[Eu,Ju]
theorem Xh{d:Nat}{t:TypeId}{k:List LK}(h:Cj P d t=some k):Qp P t=some k.length/\∃ag,Eu P t=some ag/\(ag=false->k.length=1):=by
 cases d with
 |zero=>simp[Cj]at h
 |succ d=>
  simp only[Cj]at h;split at h<;>rename_i hu<;>try(cases h;done)
  ·split at h<;>cases h;exact⟨by assumption,_,In hu,fun _=>rfl⟩
  ·split at h<;>cases h;exact⟨by assumption,_,In hu,fun _=>rfl⟩
  ·split at h<;>cases h;exact⟨by assumption,_,In hu,fun _=>rfl⟩
  ·split at h
   ·split at h
    ·split at h<;>cases h;exact⟨by assumption,_,In hu,fun e=>by cases e⟩
    ·cases h
   ·cases h
theorem Xi{d:Nat}{xs ys:Array Value}{ixs iys:List I}(hx:Ak M ixs xs.toList)(hy:Ak M iys ys.toList)
  (ih:∀t ks,Cj P d t=some ks->∀(ixs iys:List I) (xs ys:Array Value) (r:Bool),Ak M ixs xs.toList->Ak M iys ys.toList->eqL ks ixs iys=some r->
   (Op.equalIn d t (DB P t xs) (DB P t ys)).run P w=.ok r w):
  ∀(fs:List Field) (off:Nat) (ls:List LK) (r:Bool),Gr (Cj P d) fs off=some ls->eqL ls (ixs.drop off) (iys.drop off)=some r->(Op.eqFields d xs ys fs).run P w=.ok r w
 |[],off,ls,r,hf,he=>by simp only[Gr,Option.some.injEq]at hf;subst hf;obtain⟨e1,e2⟩:=eqL_len he;rw[List.eq_nil_of_length_eq_zero e1,List.eq_nil_of_length_eq_zero e2]at he;simp only[eqL,Option.some.injEq]at he;subst he;rfl
 |f::fs,off,ls,r,hf,he=>by
  simp only[Gr]at hf;split at hf
  ·rename_i hc;obtain⟨hname,rfl⟩:=hc;split at hf
   ·rename_i ks hk;split at hf
    ·cases hf
    rename_i hkn;cases hf2:Gr (Cj P d) fs (f.offset+ks.length)with
    |none=>simp[hf2]at hf
    |some ls'=>
     simp only[hf2,Option.map_some,Option.some.injEq]at hf;subst hf;obtain⟨r1,r2,e1,e2,rfl⟩:=Xg ks ls' _ _ _ he;obtain⟨j0,ag,hag,h1⟩:=Xh hk;have hxs:xs.size=ixs.length:=by simpa using hx.1
     have hys:ys.size=iys.length:=by simpa using hy.1
     obtain⟨l1,l2⟩:=eqL_len e1;simp at l1 l2;have q0:f.offset+ks.length<=ixs.length/\f.offset+ks.length<=iys.length:=by omega
     have q1:=QD (cs:=xs) (off:=f.offset) j0 hag h1 (by omega) w;have q2:=QD (cs:=ys) (off:=f.offset) j0 hag h1 (by omega) w;have q3:=ih f.type ks hk _ _ _ _ r1 (hx.slice f.offset ks.length (by omega)) (hy.slice f.offset ks.length (by omega)) e1;have q4:=Xi hx hy ih fs (f.offset+ks.length) ls' r2 hf2 (by rwa [List.drop_drop,List.drop_drop]at e2);simp only[Op.eqFields,if_pos hname,Sem.run_bind,q1,q2,q3,Result.andThen_ok];cases r1 with
     |true=>simp only[Bool.not_true,Bool.false_eq_true,if_false,q4,Bool.true_and]
     |false=>simp
   ·cases hf
  ·cases hf
theorem Tf:∀(d:Nat) (t:TypeId) (ks:List LK),Cj P d t=some ks->∀(ixs iys:List I) (xs ys:Array Value) (r:Bool),Ak M ixs xs.toList->Ak M iys ys.toList->eqL ks ixs iys=some r->
  (Op.equalIn d t (DB P t xs) (DB P t ys)).run P w=.ok r w
 |0,t,k,h=>by simp[Cj]at h
 |d+1,t,k,h=>by
  intro ixs iys xs ys r hx hy he;have one:∀{dsc:TypeDesc} {l:LK},P.underlying t=some dsc->Ju dsc=false->k=[l]->
    ∃x y vx vy,DB P t xs=vx/\DB P t ys=vy/\Rep M x vx/\Rep M y vy/\gH l x y=some r:=fun{dsc l} hu hd hk=>by
   subst hk;obtain⟨hlx,hly⟩:=eqL_len he
   match ixs,iys,hlx,hly with
   |[x],[y],_,_=>
    have h1:=hx.2 0 (by simp) (by have:=hx.1;simp at this;simp;omega);have h2:=hy.2 0 (by simp) (by have:=hy.1;simp at this;simp;omega);have s1:xs.size=1:=by simpa using hx.1
    have s2:ys.size=1:=by simpa using hy.1
    have ha:=In hu;rw[hd]at ha;refine⟨x,y,xs[0],ys[0],by simp[DB,ha,s1],by simp[DB,ha,s2],by simpa using h1,by simpa using h2,?_⟩;simp only[eqL]at he;cases hxy:gH l x y with
    |none=>simp[hxy]at he
    |some b=>simpa[hxy]using he
  simp only[Cj]at h;split at h<;>rename_i hu<;>try(cases h;done)
  ·split at h<;>cases h;obtain⟨x,y,vx,vy,e1,e2,r1,r2,e3⟩:=one hu rfl rfl;rw[e1,e2];cases x<;>cases y<;>simp[gH]at e3;subst e3;rw[G4 r1,G4 r2];exact run_equalIn_bool' w d t _ _ hu
  ·split at h<;>cases h;obtain⟨x,y,vx,vy,e1,e2,r1,r2,e3⟩:=one hu rfl rfl;rw[e1,e2];cases x<;>cases y<;>simp[gH]at e3;obtain⟨⟨rfl,rfl⟩,e3⟩:=e3;subst e3;rw[Ct r1,Ct r2];exact run_equalIn_int w d t _ _ _ _ hu
  ·split at h<;>cases h;obtain⟨x,y,vx,vy,e1,e2,r1,r2,e3⟩:=one hu rfl rfl;rw[e1,e2];cases x<;>cases y<;>simp[gH]at e3;subst e3;rw[HG r1,HG r2,run_equalIn_string w d t _ _ hu,SU,SU]
  ·rename_i fs;split at h
   ·rename_i jh;split at h
    ·rename_i k' hf;split at h<;>cases h;have ha:=In hu;have vu:P.fieldsOf t=fs:=by unfold Program.fieldsOf;rw[hu]
     simp only[Ju]at ha;simp only[DB,ha,if_true];rw[run_equalIn_agg w d t xs ys (by rw[vu];exact hu) jh,vu];exact Xi hx hy (Tf d) fs.toList 0 k r hf (by simpa using he)
    ·cases h
   ·cases h
theorem Xj(h:Rel GL n S M μ st a w){neg:Bool}{t t':TypeId}{x y:Operand}{ox oy:O}{ls:List LK}(ho:o.op=.binOp (if neg then .neq else .eql) t x y t')(hd:o.dst=some d)(hn:d<n)
  (hx:cO GL x=some ox)(hy:cO GL y=some oy)(ha:Eu P t=some true)(hf:Cj P 10000 t=some ls)(hg:P.eqGuardType P.depth t=false)(hs:step P GL (.eqs d neg ls ox oy) st K):
  o.wpX P a w (Ax GL n S M w K) Q:=by
 have hr:=Az h hx;have vj:=Az h hy;simp only[step,LA]at hs;split at hs
 ·rename_i u v e1 e2;rw[e1]at hr;rw[e2]at vj;obtain⟨xs,e3,rx⟩:=(AJ hr).agg_inv;obtain⟨ys,e4,ry⟩:=(AJ vj).agg_inv;unfold Lz at hs;split at hs
  ·rename_i r he;have hq:=Tf (P:=P) (w:=w) 10000 t ls hf _ _ xs ys r rx ry he;simp only[DB,ha,if_true]at hq;refine A3 h hd hn ?_ (AM (.bool _)) hs;cases neg<;>simp only[Bool.false_eq_true,if_true,if_false]at ho⊢
   ·simp only[execOp,ho,e3,e4,Sem.run_bind,run_eqGuard_agg w .eql t x y xs ys hg,Result.andThen_ok,run_eql_struct w t xs ys,hq,Sem.run_pure]
   ·simp only[execOp,ho,e3,e4,Sem.run_bind,run_eqGuard_agg w .neq t x y xs ys hg,Result.andThen_ok,run_neq_struct w t xs ys,hq,Sem.run_pure]
  ·exact hs.elim
 ·exact hs.elim
end
end Go.Dl
end
section
namespace Go.Dl
open Go Go.RowKit
variable{t:TypeId}{ls:List LK}
theorem Xk:∀{ls:List LK} {xs:List I},AL ls xs=true->xs.length=ls.length
 |[],[],_=>rfl
 |l::ls,x::xs,h=>by simp only[AL,Bool.and_eq_true]at h;simp[Xk h.2]
 |[],_::_,h=>by grind[AL]
 |_::_,[],h=>by grind[AL]
theorem Xl:∀(ks ls:List LK) (xs:List I),AL (ks++ls) xs=true->AL ks (xs.take ks.length)=true/\AL ls (xs.drop ks.length)=true
 |[],ls,xs,h=>⟨by simp[AL],h⟩
 |k::ks,ls,x::xs,h=>by simp only[List.cons_append,AL,Bool.and_eq_true]at h;obtain⟨h1,h2⟩:=Xl ks ls xs h.2;grind[AL]
 |k::ks,ls,[],h=>by grind[AL]
theorem Xm:∀{ls:List LK} {xs ys:List I},AL ls xs=true->AL ls ys=true->eqL ls xs ys=some (xs.map DL==ys.map DL)
 |[],[],[],_,_=>rfl
 |l::ls,x::xs,y::ys,hx,hy=>by
  simp only[AL,Bool.and_eq_true]at hx hy;have ih:=Xm hx.2 hy.2;have h1:gH l x y=some (DL x==DL y):=by
   cases l<;>cases x<;>simp[Bp]at hx<;>cases y<;>simp[Bp]at hy
   ·simp only[gH,DL];congr 1;grind
   ·obtain⟨rfl,_⟩:=hx;obtain⟨rfl,_⟩:=hy;simp only[gH,DL,and_self,if_true];congr 1;grind
   ·simp only[gH,DL];congr 1;grind
  simp_all[eqL]
 |[],[],_::_,_,h=>by grind[AL]
 |[],_::_,_,h,_=>by grind[AL]
 |_::_,[],_,h,_=>by grind[AL]
 |_::_,_::_,[],_,h=>by grind[AL]
section
variable {P:Program}{GL:List (Nat×List I)}{n:Nat}{S:Sh}{M:Mem}{μ:Place}{st:St}{a:Act}{w:World}{K:St->Prop}{Q:Exit->Act->World->Prop}{o:Oper}{d:Nat}
theorem Xn{d:Nat}{em:Bool}{xs:Array Value}{ixs:List I}(hx:Ak M ixs xs.toList)
  (ih:∀t ks,Cj P d t=some ks->∀(ixs:List I) (xs:Array Value),Ak M ixs xs.toList->AL ks ixs=true->(Instr.checkKey em d t (DB P t xs)).run P w=.ok () w):
  ∀(fs:List Field) (off:Nat) (ls:List LK),Gr (Cj P d) fs off=some ls->AL ls (ixs.drop off)=true->
   (forIn fs PUnit.unit (fun f r=>(do{if f.name≠ "_" then{Instr.checkKey em d f.type (<-part f.type xs f.offset)};pure (ForInStep.yield PUnit.unit)}:Sem (ForInStep PUnit)))).run P w=.ok PUnit.unit w
 |[],off,ls,hf,he=>by simp
 |f::fs,off,ls,hf,he=>by
  simp only[Gr]at hf;split at hf
  ·rename_i hc;obtain⟨hname,rfl⟩:=hc;split at hf
   ·rename_i ks hk;split at hf
    ·cases hf
    rename_i hkn;cases hf2:Gr (Cj P d) fs (f.offset+ks.length)with
    |none=>simp[hf2]at hf
    |some ls'=>
     simp only[hf2,Option.map_some,Option.some.injEq]at hf;subst hf;obtain⟨e1,e2⟩:=Xl ks ls' _ he;obtain⟨j0,ag,hag,h1⟩:=Xh hk;have hxs:xs.size=ixs.length:=by simpa using hx.1
     have l1:=Xk e1;simp at l1;have q1:=QD (cs:=xs) (off:=f.offset) j0 hag h1 (by omega) w;have q3:=ih f.type ks hk _ _ (hx.slice f.offset ks.length (by omega)) e1;have q4:=Xn hx ih fs (f.offset+ks.length) ls' hf2 (by rwa [List.drop_drop]at e2);simp only[List.forIn_cons,Sem.run_bind,hname,ne_eq,not_false_eq_true,if_true,q1,q3,Result.andThen_ok,Sem.run_pure];exact q4
   ·cases hf
  ·cases hf
theorem Xo(em:Bool):∀(d:Nat) (t:TypeId) (ks:List LK),Cj P d t=some ks->∀(ixs:List I) (xs:Array Value),Ak M ixs xs.toList->AL ks ixs=true->(Instr.checkKey em d t (DB P t xs)).run P w=.ok () w
 |0,t,k,h=>by grind[Cj]
 |d+1,t,k,h=>by
  intro ixs xs hx he;simp only[Cj]at h;split at h<;>rename_i hu<;>try(cases h;done)
  ·simp[Instr.checkKey,run_underlying hu]
  ·simp[Instr.checkKey,run_underlying hu]
  ·simp[Instr.checkKey,run_underlying hu]
  ·rename_i fs;split at h
   ·rename_i jh;split at h
    ·rename_i k' hf;split at h<;>cases h;have ha:=In hu;simp only[Ju]at ha;simp only[DB,ha,if_true];unfold Instr.checkKey;simp only[Sem.run_bind,run_underlying hu,Result.andThen_ok];rw[<-Array.forIn_toList];have:=Xn hx (Xo em d) fs.toList 0 k hf (by simpa using he);simp_all
    ·cases h
   ·cases h
def D1(P:Program)(t:TypeId):Option (List LK):=match Cj P 10000 t,Eu P t with
 |some ls,some true=>some (.g::ls)
 |some ls,some false=>some ls
 |_,_=>none
theorem Xp{D:Nat}{t:TypeId}{ls:List LK}(h:Cj P D t=some ls):∀r,ls≠.g::r:=by
 cases D with
 |zero=>simp[Cj]at h
 |succ D=>
  simp only[Cj]at h;split at h<;>try(cases h;done)
  ·split at h<;>cases h;simp
  ·split at h<;>cases h;simp
  ·split at h<;>cases h;simp
  ·split at h
   ·split at h
    ·rename_i k hf;split at h<;>cases h;rename_i fs _ _ _ _;have:∀(fs:List Field) (off:Nat) (ls:List LK),Gr (Cj P D) fs off=some ls->∀r,ls≠.g::r:=by
      intro fs
      induction fs with
      |nil=>intro off ls h;simp[Gr]at h;subst h;simp
      |cons f fs ih=>
       intro off ls h;simp only[Gr]at h;split at h
       ·split at h
        ·rename_i k hk;split at h
         ·cases h
         ·rename_i vk;cases hf2:Gr (Cj P D) fs (off+k.length)with
          |none=>simp[hf2]at h
          |some ls'=>
           simp only[hf2,Option.map_some,Option.some.injEq]at h;subst h;intro r hr;cases k with
           |nil=>simp at vk
           |cons x k=>simp at hr;exact Xp hk k (by rw[hr.1])
        ·cases h
       ·cases h
     exact this _ _ _ hf
    ·cases h
   ·cases h
theorem Th(hk:D1 P t=some ls){q:I}{v:Value}(hr:Rep M q v)(hf:AB ls q=true):
  ∃ls' vs,Cj P 10000 t=some ls'/\v=DB P t vs/\Ak M (cellsI q) vs.toList/\AL ls' (cellsI q)=true:=by
 unfold D1 at hk;split at hk
 ·rename_i ls' h1 h2;cases hk;cases q with
  |agg cs=>obtain⟨vs,rfl,hl⟩:=hr.agg_inv;exact⟨ls',vs,h1,by simp[DB,h2],hl,hf⟩
  |_=>simp[AB]at hf
 ·rename_i ls' h1 h2;cases hk;have hng:=Xp h1;have one:∀x:I,cellsI x=[x]->Rep M x v->AL ls [x]=true->∃ls' vs,Cj P 10000 t=some ls'/\v=DB P t vs/\Ak M (cellsI x) vs.toList/\AL ls' (cellsI x)=true:=fun x e hx hfx=>by refine⟨ls,#[v],h1,by simp[DB,h2],?_,by rw[e];exact hfx⟩;grind[Ak.cons,Ak.nil]
  cases q with
  |agg cs=>
   exfalso;cases ls with
   |nil=>simp[AB]at hf
   |cons l r=>cases l<;>simp[AB]at hf;exact hng r rfl
  |_=>
   refine one _ rfl hr ?_;cases ls with
   |nil=>exact hf
   |cons l r=>cases l<;>first|exact hf|(exact absurd rfl (hng r))
 ·cases hk
theorem iX(hk:D1 P t=some ls){q q':I}{v v':Value}(hr:Rep M q v)(vj:Rep M q' v')(hf:AB ls q=true)(hf':AB ls q'=true):
  (Op.equal t v v').run P w=.ok (Bc q==Bc q') w:=by
 obtain⟨l1,vs,e1,rfl,r1,f1⟩:=Th hk hr hf;obtain⟨l2,vs',e2,rfl,r2,f2⟩:=Th hk vj hf';rw[e1]at e2;cases e2;exact Tf 10000 t l1 e1 _ _ vs vs' _ r1 r2 (Xm f1 f2)
theorem OZ(hk:D1 P t=some ls){q:I}{v:Value}(hr:Rep M q v)(hf:AB ls q=true)(em:Bool):(Instr.checkKey em 10000 t v).run P w=.ok () w:=by obtain⟨l1,vs,e1,rfl,r1,f1⟩:=Th hk hr hf;exact Xo em 10000 t l1 e1 _ vs r1 f1
def D2{β:Type}(es:List (I×β))(q:I):Option Nat:=es.findIdx? fun e=>Bc e.1==Bc q
def LX(M:Mem){β:Type}(xs:List MapEntry)(es:List (I×β)):Prop:=xs.length=es.length/\∀j (h:j<es.length) (h':j<xs.length),Rep M (es[j]).1 (xs[j]).key
theorem Fh.keys{xs:List MapEntry}{es:List (I×I)}(h:Fh M xs es):LX M xs es:=⟨h.1,fun j a b=>(h.2 j a b).1⟩
theorem Hx.keys{N:Nat->Prop}{xs:List MapEntry}{es:List (I×Nat×D)}(h:Hx M μ N xs es):LX M xs es:=⟨h.1,fun j a b=>(h.2 j a b).1⟩
theorem Xq{t:TypeId}{ls:List LK}(hk:D1 P t=some ls){q:I}{v:Value}(hr:Rep M q v)(hf:AB ls q=true){β:Type}:∀(es:List (I×β)) (xs:List MapEntry) (i:Nat),LX M xs es->(∀e∈es,AB ls e.1=true)->
  (Instr.findAsking t v xs i).run P w=.ok ((D2 es q).bind fun j=>(xs[j]?).map fun x=>(i+j,x.val)) w
 |[],xs,i,h,_=>by have:xs=[]:=List.eq_nil_of_length_eq_zero h.1;subst this;rfl
 |e::es,[],i,h,_=>by grind[LX]
 |e::es,x::xs,i,h,qa=>by
  have h0:=h.2 0 (by simp) (by simp);have hq:=iX (P:=P) (w:=w) hk hr h0 hf (qa e (by simp));have ih:=Xq hk hr hf es xs (i+1) ⟨by simpa using h.1,fun j a b=>h.2 (j+1) (by simp;omega) (by simp;omega)⟩ (fun e he=>qa e (by simp[he]));simp only[List.getElem_cons_zero]at hq;simp only[Instr.findAsking,Sem.run_bind,hq,Result.andThen_ok];have hsym:(Bc e.1==Bc q)=(Bc q==Bc e.1):=by grind
  simp only[D2,List.findIdx?_cons,hsym];cases hb:(Bc q==Bc e.1)with
  |true=>simp
  |false=>simp only[Bool.false_eq_true,if_false,ih,D2];congr 1;cases es.findIdx? fun e=>Bc e.1==Bc q<;>simp[Nat.add_assoc,Nat.add_comm 1]
theorem Xr{t:TypeId}{ls:List LK}{dsc:TypeDesc}(hu:P.underlying t=some dsc)(hd:Ju dsc=false)(hk:D1 P t=some ls){q:I}{v:Value}(hr:Rep M q v)(hf:AB ls q=true){β:Type}:∀(es:List (I×β)) (xs:List MapEntry) (i:Nat),LX M xs es->(∀e∈es,AB ls e.1=true)->
  Instr.findNow dsc v xs i=some ((D2 es q).bind fun j=>(xs[j]?).map fun x=>(i+j,x.val))
 |[],xs,i,h,_=>by have:xs=[]:=List.eq_nil_of_length_eq_zero h.1;subst this;rfl
 |e::es,[],i,h,_=>by grind[LX]
 |e::es,x::xs,i,h,qa=>by
  have h0:=h.2 0 (by simp) (by simp);have ih:=Xr hu hd hk hr hf es xs (i+1) ⟨by simpa using h.1,fun j a b=>h.2 (j+1) (by simp;omega) (by simp;omega)⟩ (fun e he=>qa e (by simp[he]));have hfe0:=qa e (by simp);have hag:=In hu;rw[hd]at hag;have key:Instr.sameNow dsc v x.key=some (Bc e.1==Bc q):=by
   unfold D1 at hk;rw[hag]at hk;have h1:Cj P 10000 t=some ls:=by grind
   simp only[List.getElem_cons_zero]at h0;have h1:Cj P (9999+1) t=some ls:=h1;unfold Cj at h1;split at h1<;>rename_i hu'<;>first|(cases h1;done)|(rw[hu]at hu';cases hu';try(simp[Ju]at hd;done))
   ·split at h1<;>cases h1;cases q<;>simp[AB,AL,Bp]at hf;generalize e.1=e1 at hfe0 h0;cases e1<;>simp[AB,AL,Bp]at hfe0;rw[G4 hr,G4 h0];simp only[Instr.sameNow,Bc,cellsI,List.map_cons,List.map_nil,DL];congr 1;rw[Bool.eq_iff_iff];simp only[beq_iff_eq,List.cons.injEq,Option.some.injEq,Atom.b.injEq,and_true];exact eq_comm
   ·split at h1<;>cases h1;cases q<;>simp[AB,AL,Bp]at hf;generalize e.1=e1 at hfe0 h0;cases e1<;>simp[AB,AL,Bp]at hfe0;subst hf;subst hfe0;rw[Ct hr,Ct h0];simp only[Instr.sameNow,if_true,Bc,cellsI,List.map_cons,List.map_nil,DL];congr 1;rw[Bool.eq_iff_iff];simp only[beq_iff_eq,List.cons.injEq,Option.some.injEq,Atom.i.injEq,true_and,and_true];exact eq_comm
   ·split at h1<;>cases h1;cases q<;>simp[AB,AL,Bp]at hf;generalize e.1=e1 at hfe0 h0;cases e1<;>simp[AB,AL,Bp]at hfe0;rw[HG hr,HG h0];simp only[Instr.sameNow,Bc,cellsI,List.map_cons,List.map_nil,DL];congr 1;rw[Bool.eq_iff_iff,MapKept.bytes_beq];simp only[beq_iff_eq,List.cons.injEq,Option.some.injEq,Atom.s.injEq,and_true];constructor
    ·intro h;have:=congrArg (fun b:ByteArray=>b.data.toList) h;exact this.symm
    ·grind
  simp only[Instr.findNow,key,D2,List.findIdx?_cons];cases hb:(Bc e.1==Bc q)with
  |true=>simp
  |false=>simp only[Bool.false_eq_true,if_false,ih,D2];cases es.findIdx? fun e=>Bc e.1==Bc q<;>simp[Nat.add_assoc,Nat.add_comm 1]
end
end Go.Dl
end
section
namespace Go.Dl
open Go Go.RowKit
section
variable {P:Program}{GL:List (Nat×List I)}{n:Nat}{S:Sh}{M:Mem}{μ:Place}{st:St}{a:Act}{w:World}{K:St->Prop}{Q:Exit->Act->World->Prop}{o:Oper}{d:Nat}
theorem O0 {t:TypeId}{ls:List LK}(hk:D1 P t=some ls){q:I}{v:Value}(hr:Rep M q v)(hf:AB ls q=true){β:Type}{es:List (I×β)}{xs:List MapEntry}(h:LX M xs es)(qa:∀e∈es,AB ls e.1=true):
  (Instr.findKey t v xs).run P w=.ok ((D2 es q).bind fun j=>(xs[j]?).map fun x=>(j,x.val)) w:=by
 have hag:∃dsc,P.underlying t=some dsc:=by grind[D1,Eu]
 obtain⟨dsc,hu⟩:=hag;cases hd:Ju dsc with
 |true=>rw[run_findKey_eq w (by cases dsc<;>simp[Ju]at hd<;>simp[hu])];rw[Xq hk hr hf es xs 0 h qa];simp
 |false=>have:=Xr hu hd hk hr hf es xs 0 h qa;rw[MapKept.run_findKey hu this];simp
theorem O1{β:Type}{es:List (I×β)}{q:I}{j:Nat}(h:D2 es q=some j):j<es.length:=(List.findIdx?_eq_some_iff_findIdx_eq.1 h).1
theorem iY(es:List (I×I))(q:I):GZ es q=(D2 es q).bind fun j=>(es[j]?).map (·.2):=by
 unfold GZ D2
 induction es with
 |nil=>rfl
 |cons e es ih=>
  simp only[List.find?_cons,List.findIdx?_cons];cases hb:(Bc e.1==Bc q)with
  |true=>simp
  |false=>simp only[Bool.false_eq_true,if_false];rw[ih];cases es.findIdx? fun e=>Bc e.1==Bc q<;>simp
theorem iZ(es:List (I×I))(q u:I):Ee es q u=match D2 es q with|some j=>es.set j (q,u)|none=>es++[(q,u)]:=by
 unfold D2
 induction es with
 |nil=>rfl
 |cons e es ih=>grind[Ee,Bc]
theorem i6{t k e:TypeId}{ls:List LK}(hu:P.underlying t=some (.map k e))(hk:D1 P k=some ls){i:TypeInfo}{z:Value}{zi:I}(hi:P.info? e=some i)(hz:i.zero=some z)(hzi:Rep M zi z){q:I}{kv:Value}(hr:Rep M q kv)(hf:AB ls q=true)
  {X:Value}{xs:List MapEntry}{es:List (I×I)}(hX:(X=.map none/\xs=[])\/∃b clk,X=.map (some b)/\w.heap[b]? =some (.map xs.toArray clk))(h:Fh M xs es)(qa:∀e∈es,AB ls e.1=true)(ok:Bool):
  ∃V,(Instr.lookup t X kv ok).run P w=.ok V w/\Rep M (C0 es q zi ok) V:=by
 have hck:=OZ (P:=P) (w:=w) hk hr hf;have qk:=O0 (P:=P) (w:=w) hk hr hf h.keys qa;have fin:∀(v:Value) (bb:Bool),bb=(GZ es q).isSome->Rep M ((GZ es q).getD zi) v->(Instr.lookup t X kv ok).run P w=.ok (if ok then .tuple #[v,.bool bb]else v) w->∃V,(Instr.lookup t X kv ok).run P w=.ok V w/\Rep M (C0 es q zi ok) V:=fun v bb hbb hv jf=>by
  refine⟨_,jf,?_⟩;subst hbb;unfold C0;cases ok with
  |true=>simp only[if_true];exact Rep.tup' (Ak.cons hv (Ak.cons (.bool _) (Ak.nil M)))
  |false=>simpa using hv
 have hmg:=iY es q;cases hm:D2 es q with
 |none=>
  rw[hm]at hmg qk;simp only[Option.bind_none]at hmg qk;refine fin z false (by rw[hmg];rfl) (by rw[hmg];exact hzi) ?_;rcases hX with⟨rfl,rfl⟩|⟨b,clk,rfl,hb⟩
  ·simp[Instr.lookup,run_underlying hu,hck,qk,zeroValue,typeInfo,hi,hz]
  ·simp[Instr.lookup,run_underlying hu,MapKept.run_getObj_map hb,hck,qk,zeroValue,typeInfo,hi,hz]
 |some j=>
  have hj:=O1 hm;have jq:j<xs.length:=by rw[h.1];exact hj
  rw[hm]at hmg qk;simp only[Option.bind_some,List.getElem?_eq_getElem hj,List.getElem?_eq_getElem jq,Option.map_some]at hmg qk;refine fin xs[j].val true (by rw[hmg];rfl) (by rw[hmg];exact(h.2 j hj jq).2) ?_;rcases hX with⟨rfl,rfl⟩|⟨b,clk,rfl,hb⟩
  ·simp at jq
  ·simp[Instr.lookup,run_underlying hu,MapKept.run_getObj_map hb,hck,qk]
theorem Xs(h:Rel GL n S M μ st a w){t k e:TypeId}{x ix:Operand}{ox oi:O}{ok:Bool}{ls:List LK}{i:TypeInfo}{z:Value}{zi:I}(ho:o.op=.lookup t x ix ok)(hd:o.dst=some d)(hn:d<n)(hx:cO GL x=some ox)(vi:cO GL ix=some oi)
  (hu:P.underlying t=some (.map k e))(hk:D1 P k=some ls)(hi:P.info? e=some i)(hz:i.zero=some z)(hc:D0 z=some zi)(hs:step P GL (.lookup d ox oi zi ok ls) st K):o.wpX P a w (Ax GL n S M w K) Q:=by
 have hr:=Az h hx;have jy:=Az h vi;simp only[step]at hs;generalize A8 GL st ox=V at hr hs;generalize A8 GL st oi=U at jy hs;cases U with
 |i q=>
  obtain⟨hf,hs⟩:=hs;have jy:=AJ jy;have go:∀{xs:List MapEntry} {es:List (I×I)},((a.eval x=.map none/\xs=[])\/∃b clk,a.eval x=.map (some b)/\w.heap[b]? =some (.map xs.toArray clk))->Fh M xs es->(∀e∈es,AB ls e.1=true)->
    K (st.put d (.i (C0 es q zi ok)))->o.wpX P a w (Ax GL n S M w K) Q:=fun hX he qa hK=>by
   obtain⟨v,jf,hv⟩:=i6 (P:=P) hu hk hi hz (G3 hc) jy hf hX he qa ok;exact A3 h hd hn (by simp only[execOp,ho,Sem.run_bind,jf,Result.andThen_ok,Sem.run_pure]) (AM hv) hK
  split at hs
  ·have hr:=AJ hr;generalize hX:a.eval x=X at hr;cases hr;exact go (xs:=[]) (es:=[]) (.inl ⟨hX,rfl⟩) ⟨rfl,fun j hj=>by simp at hj⟩ (by simp) hs
  ·rename_i es;obtain⟨qa,hs⟩:=hs;have hr:=AJ hr;generalize hX:a.eval x=X at hr;cases hr with
   |map _ b xs clk hm hl hb jk hv=>exact go (xs:=xs) (.inr ⟨b,clk,hX,h.sub.2 _ _ hm⟩) ⟨hl,fun j h1 h2=>⟨jk j h1,hv j h1⟩⟩ qa hs
  ·rename_i nm;obtain⟨hN,b,hμ,hX⟩:=hr;unfold HE at hs;split at hs
   ·rename_i ls' es hg;obtain⟨rfl,hs⟩:=hs;obtain⟨b',xs,clk,hμ',jc,he,hbb,qa⟩:=h.blk nm _ hg;rw[hμ]at hμ';cases hμ';exact go (xs:=xs.toList) (.inr ⟨b,clk,hX,by simpa using jc.heap⟩) he qa hs
   ·exact hs.elim
  ·exact hs.elim
 |_=>exact hs.elim
theorem i7(h:Rel GL n S M μ st a w){t:TypeId}{r:Option Operand}{ls:List LK}(ho:o.op=.makeMap t r)(hr:r=none)(hd:o.dst=some d)(hn:d<n)(hs:step P GL (.mkmap d ls) st K):o.wpX P a w (Ax GL n S M w K) Q:=by
 subst hr;have key:∀st0:St,Rel GL n S M μ st0 a w->Aa st0.sto d=none->K ((st0.bind d (.map ls [])).put d (.ref (.mp d)))->o.wpX P a w (Ax GL n S M w K) Q:=fun st0 h jl hs=>by
  have h0:Rel GL n S M μ st0 a (w.alloc (.map #[] 0)):=h.of (h.toStoOk.alloc _) (Mem.le_refl _) fun _ _ hv=>hv
  have h2:Rel GL n S M (BP μ d (.map (some w.heap.size))) (st0.bind d (.map ls [])) a (w.alloc (.map #[] 0)):=by
   refine h0.bindName jl hn ⟨w.heap.size,#[],0,Bq _ _ _,⟨fun hS=>by have:=h.low _ hS;omega,GY w _,Mem.unk_new h.sub (Nat.le_refl _)⟩,⟨rfl,fun j hj=>by simp at hj⟩,⟨by simp,by simp⟩,by simp⟩ fun m k hm hk=>?_
   have:=(h.toStoOk.lt hm hk).1;simp only[An];intro e;cases e;omega
  refine B9 (v:=.map (some w.heap.size)) (w':=w.alloc (.map #[] 0)) ?_ ⟨_,hs,M,_,by rw[hd];exact h2.put hn ⟨Eo,w.heap.size,Bq _ _ _,rfl⟩,MExt.refl _ _,Gp w _ h.low⟩;simp[execOp,ho,Instr.makeMap]
 simp only[step,LG]at hs;split at hs
 ·rename_i jl;exact key st h jl hs
 ·rename_i b hb;exact key _ (h.drop (nm:=d) (by simp[names,hb])) (by simp[St.frz,Kc]) hs
theorem Xt{l:LK}{x y:I}{v u:Value}(hx:Rep M x v)(hy:Rep M y u)(hfx:Bp l x=true)(hfy:Bp l y=true)(he:DL x=DL y)(n:Nat):Instr.sameBits n v u=true:=by
 cases l<;>cases x<;>simp[Bp]at hfx<;>cases y<;>simp[Bp]at hfy<;>simp[DL]at he
 ·subst he;rw[G4 hx,G4 hy];simp[Instr.sameBits]
 ·obtain⟨rfl,rfl⟩:=he;rw[Ct hx,Ct hy];simp[Instr.sameBits]
 ·subst he;rw[HG hx,HG hy];simp[Instr.sameBits,MapKept.bytes_beq]
theorem Xu{n:Nat}:∀{ls:List LK} {xs ys:List I} {vs us:List Value},Ak M xs vs->Ak M ys us->AL ls xs=true->AL ls ys=true->xs.map DL=ys.map DL->((vs.zip us).all fun p=>Instr.sameBits n p.1 p.2)=true
 |[],[],[],vs,us,h1,h2,_,_,_=>by have:vs=[]:=List.eq_nil_of_length_eq_zero h1.1;simp_all
 |l::ls,x::xs,y::ys,v::vs,u::us,h1,h2,f1,f2,he=>by
  simp only[AL,Bool.and_eq_true]at f1 f2;simp only[List.map_cons,List.cons.injEq]at he;simp only[List.zip_cons_cons,List.all_cons,Bool.and_eq_true];exact⟨Xt (h1.2 0 (by simp) (by simp)) (h2.2 0 (by simp) (by simp)) f1.1 f2.1 he.1 n,
   Xu ⟨by simpa using h1.1,fun j a b=>h1.2 (j+1) (by simp;omega) (by simp;omega)⟩ ⟨by simpa using h2.1,fun j a b=>h2.2 (j+1) (by simp;omega) (by simp;omega)⟩ f1.2 f2.2 he.2⟩
 |l::ls,x::xs,y::ys,[],us,h1,_,_,_,_=>by rfl
 |l::ls,x::xs,y::ys,v::vs,[],_,h2,_,_,_=>by rfl
 |[],_::_,_,_,_,_,_,f,_,_=>by grind[AL]
 |[],[],_::_,_,_,_,_,_,f,_=>by grind
 |_::_,[],_,_,_,_,_,f,_,_=>by grind[AL]
 |_::_,_::_,[],_,_,_,_,_,f,_=>by grind
theorem Ti{ls:List LK}{q q':I}{v v':Value}(hr:Rep M q v)(vj:Rep M q' v')(hf:AB ls q=true)(hf':AB ls q'=true)(he:Bc q=Bc q'):Instr.sameBits 10000 v v'=true:=by
 have jd:=congrArg List.length he;have one:∀x y:I,cellsI x=[x]->cellsI y=[y]->q=x->q'=y->(∃l,ls=[l]/\Bp l x=true/\Bp l y=true)->Instr.sameBits 10000 v v'=true:=fun x y e1 e2 e3 e4 ⟨l,_,f1,f2⟩=>by subst e3;subst e4;simp only[Bc,e1,e2,List.map_cons,List.map_nil,List.cons.injEq,and_true]at he;grind[Xt]
 cases ls with
 |nil=>cases q<;>simp[AB,AL]at hf
 |cons l r=>
  by_cases hg:l=.g
  ·subst hg;cases q<;>simp[AB]at hf;cases q'<;>simp[AB]at hf';obtain⟨vs,rfl,h1⟩:=hr.agg_inv;obtain⟨us,rfl,h2⟩:=vj.agg_inv;have:=Xu (n:=9999) h1 h2 hf hf' he;have j0:vs.size=us.size:=by have a1:=h1.1;have a2:=h2.1;grind[Bc,cellsI]
   show Instr.sameBits (9999+1) _ _=true;simp only[Instr.sameBits,j0,beq_self_eq_true,Bool.true_and];exact this
  ·have sing:∀x:I,(∀cs,x≠.agg cs)->AB (l::r) x=true->r=[]/\Bp l x=true:=fun x hx hfx=>by
    have:AL (l::r) [x]=true:=by cases x<;>first|(exact absurd rfl (hx _))|(cases l<;>first|exact hfx|exact absurd rfl hg)
    grind[AL]
   have nag:∀x:I,AB (l::r) x=true->∀cs,x≠.agg cs:=fun x hx cs e=>by simp_all[AB]
   obtain⟨rfl,f1⟩:=sing q (nag q hf) hf;obtain⟨_,f2⟩:=sing q' (nag q' hf') hf';have c1:cellsI q=[q]:=by have:=nag q hf;cases q<;>first|rfl|exact absurd rfl (this _)
   have c2:cellsI q'=[q']:=by have:=nag q' hf';cases q'<;>first|rfl|exact absurd rfl (this _)
   grind
theorem Tj{β:Type}{es:List (I×β)}{q:I}{j:Nat}(h:D2 es q=some j)(hj:j<es.length):Bc (es[j]).1=Bc q:=by have:=(List.findIdx?_eq_some_iff_getElem.1 h).2.1;grind
def putObj(w:World)(b:Nat)(ob:Obj):World:={w with heap:=w.heap.setIfInBounds b ob}
theorem Nl{w:World}{b:Nat}{o1 o2:Obj}(h:w.heap[b]? =some o1):(putObj w b o2).heap[b]? =some o2:=by grind[putObj]
theorem LY{w:World}{b k:Nat}{o2:Obj}(h:k≠b):(putObj w b o2).heap[k]? =w.heap[k]? :=by grind[putObj]
theorem putObj_size(w:World)(b:Nat)(o2:Obj):(putObj w b o2).heap.size=w.heap.size:=by simp[putObj]
theorem Nm{S:Nat->Prop}(w:World)(b:Nat)(o2:Obj)(h:¬S b):Keeps S w (putObj w b o2):=
 ⟨rfl,rfl,rfl,by rw[putObj_size];exact Nat.le_refl _,fun k hk=>LY fun e=>h (e▸hk),Nat.le_refl _⟩
theorem Tk{xs:Array MapEntry}{clk:Nat}(h:GX xs.toList clk)(k v:Value):GX (xs.push {key:=k,val:=v,born:=clk}).toList (clk+1):=by
 obtain⟨h1,h2⟩:=h;simp only[Array.toList_push];refine⟨?_,fun e he=>?_⟩
 all_goals grind
theorem QH{xs:Array MapEntry}{clk:Nat}(h:GX xs.toList clk)(j:Nat)(f:MapEntry->MapEntry)(hf:∀e,(f e).born=e.born):GX (xs.modify j f).toList clk:=by
 have e:(xs.modify j f).toList.map (·.born)=xs.toList.map (·.born):=by apply List.ext_getElem?;grind
 refine⟨by rw[e];exact h.1,fun x hx=>?_⟩;have:x.born∈(xs.modify j f).toList.map (·.born):=List.mem_map.2 ⟨x,hx,rfl⟩;rw[e]at this;obtain⟨y,hy,hyb⟩:=List.mem_map.1 this;rw[<-hyb];exact h.2 y hy
theorem Tl(h:Rel GL n S M μ st a w){t k e:TypeId}{x ix y:Operand}{ox oi oy:O}{ls:List LK}(ho:o.op=.mapUpdate t x ix y\/o.op=.insert t x ix y)(hd:o.dst=none)(hx:cO GL x=some ox)(vi:cO GL ix=some oi)(hy:cO GL y=some oy)
  (hu:P.underlying t=some (.map k e))(hk:D1 P k=some ls)(hs:step P GL (.mupd ox oi oy ls) st K):o.wpX P a w (Ax GL n S M w K) Q:=by
 have hr:=Az h hx;have jy:=Az h vi;have wi:=Az h hy;simp only[step,Il]at hs;split at hs
 ·rename_i nm q u e1 e2 e3;rw[e1]at hr;rw[e2]at jy;rw[e3]at wi;have jy:=AJ jy;have wi:=AJ wi;obtain⟨hf,hs⟩:=hs;obtain⟨hN,b,hμ,hX⟩:=hr;unfold Jg at hs;split at hs
  ·rename_i ls' es hg;obtain⟨rfl,hs⟩:=hs;obtain⟨b',xs,clk,hμ',jc,he,hbb,qa⟩:=h.blk nm _ hg;rw[hμ]at hμ';cases hμ';have hck:=OZ (P:=P) (w:=w) hk jy hf false;have qk:=O0 (P:=P) (w:=w) hk jy hf he.keys qa;have fin:∀(xs':Array MapEntry) (clk':Nat),(Instr.mapUpdate t (a.eval x) (a.eval ix) (a.eval y)).run P w=.ok () (putObj w b (.map xs' clk'))->Fh M xs'.toList (Ee es q u)->GX xs'.toList clk'->(∀e∈Ee es q u,AB ls' e.1=true)->o.wpX P a w (Ax GL n S M w K) Q:=fun xs' clk' jf q1 q2 q3=>by
    have qu:=Nm w b (.map xs' clk') jc.low;refine Nj (w':=putObj w b (.map xs' clk')) ?_ ⟨_,hs,M,μ,?_,MExt.refl _ _,qu⟩
    ·rcases ho with ho|ho<;>simp only[execOp,ho,Sem.run_bind,jf,Result.andThen_ok,Sem.run_pure]
    ·rw[hd];exact h.setBlk hg (by rw[hμ];rfl) qu.size (fun k hk _=>LY hk) ⟨b,xs',clk',hμ,⟨jc.low,Nl jc.heap,jc.unk⟩,q1,q2,q3⟩
   have hm:=iZ es q u;cases hj:D2 es q with
   |none=>
    rw[hj]at hm qk;simp only at hm;rw[hm]at fin;refine fin (xs.push {key:=a.eval ix,val:=a.eval y,born:=clk}) (clk+1) ?_ ?_ (Tk hbb _ _) (fun e he=>(List.mem_append.1 he).elim (qa e) (fun q=>by simp at q;subst q;exact hf))
    ·simp only[Option.bind_none]at qk;simp[Instr.mapUpdate,run_underlying hu,hX,MapKept.run_getObj_map jc.heap,hck,qk,MapKept.run_setObj_map _ jc.heap,putObj]
    ·simp only[Array.toList_push];refine⟨by simp[he.1],fun j h1 h2=>?_⟩;by_cases qy:j<es.length
     ·rw[List.getElem_append_left qy,List.getElem_append_left (by rw[he.1];exact qy)];exact he.2 j qy _
     ·obtain rfl:j=es.length:=by simp at h1;omega
      rw[List.getElem_append_right (by omega),List.getElem_append_right (by rw[he.1];omega)];have wq:=he.1;simp only[Nat.sub_self,List.getElem_cons_zero,wq];exact⟨jy,wi⟩
   |some j=>
    have qy:=O1 hj;have hjx:j<xs.size:=by have:=he.1;simp at this;omega
    rw[hj]at hm qk;simp only at hm;rw[hm]at fin;have hj2:=he.2 j qy (by simpa using hjx);have wx:=Ti hj2.1 jy (qa _ (List.getElem_mem qy)) hf (Tj hj qy);refine fin (xs.modify j fun e=>{e with key:=a.eval ix,val:=a.eval y}) clk ?_ ?_ (QH hbb _ _ (fun _=>rfl)) (fun e he=>(List.mem_or_eq_of_mem_set he).elim (qa e) (fun q=>by subst q;exact hf))
    ·simp only[Option.bind_some,Array.getElem?_toList,Array.getElem?_eq_getElem hjx,Option.map_some]at qk;simp only[Array.getElem_toList]at wx;simp[Instr.mapUpdate,run_underlying hu,hX,MapKept.run_getObj_map jc.heap,hck,qk,Instr.keyThatStays,hjx,wx,MapKept.run_setObj_map _ jc.heap,putObj]
    ·refine⟨by simp;simpa using he.1,fun i h1 h2=>?_⟩;simp only[Array.getElem_toList,Array.getElem_modify,List.getElem_set];by_cases hji:j=i
     ·subst hji;simp only[if_true];exact⟨jy,wi⟩
     ·rw[if_neg hji,if_neg hji];have:=he.2 i (by simpa using h1) (by simpa using h2);simpa using this
  ·exact hs.elim
 ·exact hs.elim
theorem i8(h:Rel GL n S M μ st a w){t k e:TypeId}{x:Operand}{ox:O}(ho:o.op=.range t x)(hd:o.dst=some d)(hn:d<n)
  (hx:cO GL x=some ox)(hu:P.underlying t=some (.map k e))(hs:step P GL (.rng d ox) st K):o.wpX P a w (Ax GL n S M w K) Q:=by
 have hr:=Az h hx;simp only[step]at hs;have fin:∀(ob:Obj) (rest:List (I×I)),Aa st.sto d=none->(execOp a.eval o).run P w=.ok (.value (.pointer (some ⟨w.heap.size,0,none⟩))) (w.alloc ob)->
   (∃m since seen last,ob=.mapIter m since seen last/\((m=none/\rest=[])\/∃q xs clk,m=some q/\M.m q=some (xs,clk)/\since=clk/\last=clk/\GX xs clk/\Fh M (xs.filter fun e=>!seen.contains e.born) rest))->
   K ((st.bind d (.iter none rest)).put d (.ref (.it d)))->o.wpX P a w (Ax GL n S M w K) Q:=fun ob rest jl jf hob hK=>by
  obtain⟨m,since,seen,last,rfl,hob⟩:=hob;have h0:Rel GL n S M μ st a (w.alloc (.mapIter m since seen last)):=h.of (h.toStoOk.alloc _) (Mem.le_refl _) fun _ _ hv=>hv
  have h2:Rel GL n S M (BP μ d (.pointer (some ⟨w.heap.size,0,none⟩))) (st.bind d (.iter none rest)) a (w.alloc (.mapIter m since seen last)):=by
   refine h0.bindName jl hn ⟨w.heap.size,m,since,seen,last,Bq _ _ _,⟨fun hS=>by have:=h.low _ hS;omega,GY w _,Mem.unk_new h.sub (Nat.le_refl _)⟩,?_⟩ fun m k hm hk=>?_
   ·rcases hob with⟨q1,q2⟩|⟨q,xs,clk,q1,q2,q3,q4,q5,q6⟩
    ·exact .inl ⟨q1,q2,rfl⟩
    ·exact .inr ⟨q,xs,clk,q1,q2,q3,q4,q5,q6,fun c hc=>by cases hc⟩
   have:=(h.toStoOk.lt hm hk).1;simp only[An];intro e;cases e;omega
  exact B9 jf ⟨_,hK,M,_,by rw[hd];exact h2.put hn ⟨Eo,w.heap.size,Bq _ _ _,rfl⟩,MExt.refl _ _,Gp w _ h.low⟩
 unfold LH at hs;split at hs
 ·rename_i jl e1;rw[e1]at hr;have hr:=AJ hr;generalize hX:a.eval x=X at hr;cases hr;refine fin (.mapIter none 0 #[] 0) [] jl ?_ ⟨_,_,_,_,rfl,.inl ⟨rfl,rfl⟩⟩ hs;simp[execOp,ho,hX,Instr.range,run_underlying hu w]
 ·rename_i es jl e1;rw[e1]at hr;have hr:=AJ hr;generalize hX:a.eval x=X at hr;cases hr with
  |map _ b xs clk hm hl hb jk hv=>
   refine fin (.mapIter (some b) clk #[] clk) es jl ?_ ⟨_,_,_,_,rfl,.inr ⟨b,xs,clk,rfl,hm,rfl,rfl,hb,?_⟩⟩ hs
   ·simp[execOp,ho,hX,Instr.range,run_underlying hu w,MapKept.run_getObj_map (h.sub.2 _ _ hm)]
   ·have:(xs.filter fun e=>!(#[]:Array Nat).contains e.born)=xs:=by simp
    rw[this];exact⟨hl,fun j h1 h2=>⟨jk j h1,hv j h1⟩⟩
 ·exact hs.elim
end
end Go.Dl
end
section
namespace Go.Dl
open Go Go.RowKit
section
variable {P:Program}{GL:List (Nat×List I)}{n:Nat}{S:Sh}{M:Mem}{μ:Place}{st:St}{a:Act}{w:World}{K:St->Prop}{Q:Exit->Act->World->Prop}{o:Oper}{d:Nat}
theorem i9{xs:List MapEntry}{seen:Array Nat}{e:MapEntry}(hnd:(xs.map (·.born)).Nodup):∀{L:List MapEntry},L.Sublist xs->∀{j:Nat} (hj:j<L.length),L[j]=e->L.filter (fun x=>!(x.born==e.born))=L.eraseIdx j:=by
 intro L hL;have hndL:(L.map (·.born)).Nodup:=(hL.map _).nodup hnd;clear hL
 induction L with
 |nil=>intro j hj;simp at hj
 |cons x L ih=>
  intro j hj he;simp only[List.map_cons,List.nodup_cons,List.mem_map,not_exists,not_and]at hndL;cases j with
  |zero=>simp_all
  |succ j=>grind
theorem Fh.erase{xs:List MapEntry}{es:List (I×I)}(h:Fh M xs es)(j:Nat)(hj:j<es.length):Fh M (xs.eraseIdx j) (es.eraseIdx j):=by
 have hl:=h.1;refine⟨by rw[List.length_eraseIdx_of_lt (by omega),List.length_eraseIdx_of_lt hj];omega,fun i h1 h2=>?_⟩;rw[List.length_eraseIdx_of_lt hj]at h1;simp only[List.getElem_eraseIdx];by_cases hij:i<j
 ·simp only[hij,dite_true];exact h.2 i (by omega) (by omega)
 ·simp only[hij,dite_false];exact h.2 (i+1) (by omega) (by omega)
theorem jA(h:Rel GL n S M μ st a w){x:Operand}{ox:O}(ho:o.op=.next x false)(hd:o.dst=some d)(hn:d<n)(hx:cO GL x=some ox)(hs:step P GL (.nxt d ox) st K):o.wpX P a w (Ax GL n S M w K) Q:=by
 have hr:=Az h hx;simp only[step,Nd]at hs;split at hs
 ·rename_i nm e1;rw[e1]at hr;obtain⟨hN,b,hμ,hX⟩:=hr;unfold Nc at hs;split at hs
  ·rename_i cur rest hg;obtain⟨hs0,hs1⟩:=hs;obtain⟨b',m,since,seen,last,hμ',jc,hh⟩:=h.blk nm _ hg;rw[hμ]at hμ';cases hμ';have over:rest=[]->(Instr.next (.pointer (some ⟨b,0,none⟩)) false o.type).run P w=.ok (.tuple #[.bool false]) w->o.wpX P a w (Ax GL n S M w K) Q:=fun hre jf=>
    A3 h hd hn (v:=.tuple #[.bool false]) (by simp only[execOp,ho,hX,Sem.run_bind,jf,Result.andThen_ok,Sem.run_pure]) (AM (Rep.tup' (Ak.cons (.bool _) (Ak.nil M)))) (hs0 hre)
   rcases hh with⟨rfl,rfl,rfl⟩|⟨q,xs,clk,rfl,hm,e2,e3,hb,he,_⟩
   ·refine over rfl ?_;have hgo:(getObj b).run P w=.ok (.mapIter none since seen last) w:=by simp[getObj,Sem.run,jc.heap]
    simp[Instr.next,hgo]
   ·subst since;subst last;have hleft:(leftOf xs.toArray seen).toList=xs.filter fun e=>!seen.contains e.born:=by simp[leftOf]
    rcases run_next_at (P:=P) w o.type b q clk clk seen xs.toArray clk jc.heap (h.sub.2 _ _ hm) (fun x hx=>hb.2 x (by simpa using hx)) (Nat.le_refl _)with⟨h1,h2⟩|⟨e,he1,w1,hw1,h2⟩
    ·refine over ?_ h2;have:(xs.filter fun e=>!seen.contains e.born)=[]:=by rw[<-hleft];exact List.eq_nil_of_length_eq_zero (by simpa using h1)
     rw[this]at he;exact List.eq_nil_of_length_eq_zero (by have:=he.1;simp at this;omega)
    ·rw[hleft]at he1;obtain⟨j,hj,hje⟩:=List.getElem_of_mem he1;have hjr:j<rest.length:=by rw[<-he.1];exact hj
     have jp:=he.2 j hjr hj;rw[hje]at jp;have hK:=hs1 j hjr;have hw1h:w1.heap=w.heap:=by rcases hw1 with rfl|rfl<;>rfl
     have hkp1:Keeps S w w1:=by rcases hw1 with rfl|rfl;exact Keeps.refl _ _;exact(Keeps.refl S w).drew
     have hown1:w1.heap[b]? =some (.mapIter (some q) clk seen clk):=by rw[hw1h];exact jc.heap
     have h1:Rel GL n S M μ st a w1:=by
      rcases hw1 with rfl|rfl
      ·exact h
      ·exact h.of h.toStoOk.drew (Mem.le_refl _) fun _ _ hv=>hv
     have hkp2:=Nm w1 b (.mapIter (some q) clk (seen.push e.born) clk) jc.low;have k7:Go.ChangeMaps.setBlock w1 b (.mapIter (some q) clk (seen.push e.born) clk)=putObj w1 b (.mapIter (some q) clk (seen.push e.born) clk):=rfl;rw[k7]at h2;have h3:Rel GL n S M μ (st.setB nm (.iter (some rest[j]) (rest.eraseIdx j))) a (putObj w1 b (.mapIter (some q) clk (seen.push e.born) clk)):=by
      refine h1.setBlk hg (by rw[hμ];rfl) (by rw[putObj_size];exact Nat.le_refl _) (fun k hk _=>LY hk) ⟨b,some q,clk,seen.push e.born,clk,hμ,⟨jc.low,Nl hown1,jc.unk⟩,.inr ⟨q,xs,clk,rfl,hm,rfl,rfl,hb,?_,?_⟩⟩
      ·have hf:(xs.filter fun x=>!(seen.push e.born).contains x.born)=(xs.filter fun x=>!seen.contains x.born).eraseIdx j:=by
        rw[<-i9 (seen:=seen) hb.1 (List.filter_sublist) hj hje,List.filter_filter];refine List.filter_congr fun x _=>?_
        have:(seen.push e.born).contains x.born=(seen.contains x.born||(x.born==e.born)):=by rw[Bool.eq_iff_iff];simp[Array.mem_push]
        rw[this,Bool.not_or,Bool.and_comm]
       rw[hf];exact he.erase j hjr
      ·intro c hc;cases hc;exact⟨e,(List.mem_filter.1 he1).1,⟨seen,rfl⟩,jp.1,jp.2⟩
     exact B9 (v:=.tuple #[.bool true,e.key,e.val]) (by simp only[execOp,ho,hX,Sem.run_bind,h2,Result.andThen_ok,Sem.run_pure])
      ⟨_,hK,M,μ,by rw[hd];exact h3.put hn (AM (Rep.tup' (Ak.cons (.bool _) (Ak.cons jp.1 (Ak.cons jp.2 (Ak.nil M)))))),MExt.refl _ _,hkp1.trans hkp2⟩
  ·exact hs.elim
 ·exact hs.elim
theorem jB(h:Rel GL n S M μ st a w){x:Operand}{ox:O}(ho:o.op=.entry x)(hd:o.dst=some d)(hn:d<n)(hx:cO GL x=some ox)(hs:step P GL (.ent d ox) st K):o.wpX P a w (Ax GL n S M w K) Q:=by
 have hr:=Az h hx;simp only[step,Ng]at hs;split at hs
 ·rename_i nm e1;rw[e1]at hr;obtain⟨hN,b,hμ,hX⟩:=hr;unfold Nf at hs;split at hs
  ·rename_i c rest hg;obtain⟨b',m,since,seen,last,hμ',jc,hh⟩:=h.blk nm _ hg;rw[hμ]at hμ';cases hμ';rcases hh with⟨_,_,h0⟩|⟨q,xs,clk,rfl,hm,e2,e3,hb,he,hc⟩
   ·cases h0
   ·subst since;subst last;obtain⟨e,kz,⟨seen0,rfl⟩,r1,r2⟩:=hc c rfl;have jf:=run_entry_at (P:=P) w b q clk seen0 xs.toArray clk e jc.heap (h.sub.2 _ _ hm) (by simpa using kz) (by simpa using hb.1);exact A3 h hd hn (v:=.tuple #[e.key,e.val]) (by simp only[execOp,ho,hX,Sem.run_bind,jf,Result.andThen_ok,Sem.run_pure]) (AM (Rep.tup' (Ak.cons r1 (Ak.cons r2 (Ak.nil M))))) hs
  ·exact hs.elim
 ·exact hs.elim
end
end Go.Dl
end
section
namespace Go.Dl
open Go Go.RowKit
section
variable {P:Program}{GL:List (Nat×List I)}{n:Nat}{S:Sh}{M:Mem}{μ:Place}{st:St}{a:Act}{w:World}{K:St->Prop}{Q:Exit->Act->World->Prop}{o:Oper}{d:Nat}
theorem jC(h:Rel GL n S M μ st a w){t e:TypeId}{x ix:Operand}{ox oi:O}{k len:Nat}(ho:o.op=.indexAddr t x ix)(hd:o.dst=some d)(hn:d<n)
  (hx:cO GL x=some ox)(hi:cO GL ix=some oi)(hu:P.underlying t=some (.array len e))(hk:Qp P e=some k)
  (hs:step P GL (.iaa d ox oi k len) st K):o.wpX P a w (Ax GL n S M w K) Q:=by
 have hr:=Az h hx;have jy:=Az h hi;have kz:∀kk (i:Int) b oo,a.eval x=.pointer (some ⟨b,oo,none⟩)->a.eval ix=.int kk i->0<=i/\i<(len:Int)->
   (execOp a.eval o).run P w=.ok (.value (.pointer (some ⟨b,oo+i.toNat*k,none⟩))) w:=fun kk i b oo e1 e2 hb=>by
  simp only[execOp,ho,e1,e2,Instr.indexAt,Instr.sureAddr,asIntOf,Sem.run_bind,run_underlying hu w,Result.andThen_ok,Sem.run_pure,hb,and_self,if_true,EU hk,Fk]
 simp only[step,Jh]at hs;split at hs
 ·rename_i cs oo kk i e1 e2;rw[e1]at hr;rw[e2]at jy;have jy:=Ct (AJ jy);have hr:=AJ hr;obtain⟨hb,hs⟩:=hs;generalize hv:a.eval x=vx at hr;cases hr with
  |elt _ _ b o' v hm hvv=>refine A3 h hd hn (kz _ _ _ _ hv jy hb) (AM ?_) hs;rw[Nat.add_assoc];exact .elt _ _ _ _ _ hm hvv
 ·rename_i nm oo kk i e1 e2;rw[e1]at hr;rw[e2]at jy;have jy:=Ct (AJ jy);obtain⟨hb,hs⟩:=hs;obtain⟨hN,b,hμ,hv⟩:=hr;exact A3 h hd hn (x:=.ref (.loc nm (oo+i.toNat*k))) (kz _ _ _ _ hv jy hb) ⟨hN,b,hμ,rfl⟩ hs
 ·rename_i nm kk row oo q i e1 e2;rw[e1]at hr;rw[e2]at jy;have jy:=Ct (AJ jy);obtain⟨hb,hs⟩:=hs;obtain⟨hN,b,o',c,hμ,hrc,hv⟩:=hr;exact A3 h hd hn (x:=.ref (.lel nm kk row (oo+i.toNat*k))) (kz _ _ _ _ hv jy hb) ⟨hN,b,o',c,hμ,hrc,by rw[Nat.add_assoc]⟩ hs
 ·exact hs.elim
theorem jD(h:Rel GL n S M μ st a w){t e:TypeId}{len k:Nat}{parts:Array (Nat×Operand)}{i:TypeInfo}{z:Value}{zi:I}{qs:List (Nat×Nat×O)}
  (ho:o.op=.build t parts)(hd:o.dst=some d)(hn:d<n)(hi:P.info? t=some i)(hz:i.zero=some z)(hc:D0 z=some zi)(hu:P.underlying t=some (.array len e))(hk:Qp P e=some k)
  (hq:Nk GL (fun j=>some (j*k,k)) (cellsI zi).length parts.toList=some qs)(hs:step P GL (.build d (cellsI zi) qs) st K):o.wpX P a w (Ax GL n S M w K) Q:=by
 obtain⟨jg,hs⟩:=hs;have hrz:Ak M (cellsI zi) z.cells.toList:=(G3 hc).cellsI;obtain⟨ps,e1,e2,e3⟩:=QG h parts.toList qs (fun j=>some (j*k,k)) (cellsI zi).length hq jg;obtain⟨cells',e4,e5⟩:=QF (place:=fun j=>some (j*k,k)) ps (cellsI zi) z.cells hrz e3;rw[e2]at e5;refine A3 h hd hn (v:=.agg cells') ?_ (AM (Rep.agg' e5)) hs;rw[e1]at e4;have e4':Instr.fill (fun x=>some (x*k,k)) z.cells ((parts.map fun(i,x)=>(i,a.eval x)).toList)=some cells':=by simp_all
 simp only[execOp,ho,Instr.build,Sem.run_bind,zeroValue,typeInfo,hi,hz,run_program,Result.andThen_ok,Sem.run_pure,run_underlying hu w,EU hk,e4']
theorem Tm(s:List UInt8)(i:Nat)(h:i<(rowsB s).length):(rowsB s)[i]=[.int .u8 ((s[i]'(by simpa[rowsB]using h)).toNat:Int)]:=by simp[rowsB]
theorem jE(h:Rel GL n S M μ st a w){t t' e:TypeId}{x:Operand}{ox:O}{u:TypeDesc}(ho:o.op=.convert t t' x)(hd:o.dst=some d)(hn:d<n)(hx:cO GL x=some ox)
  (hu:P.underlying t=some u)(hu':P.underlying t'=some (.slice e))(he:P.underlying e=some (.int .u8))(hs:step P GL (.bytes d ox) st K):o.wpX P a w (Ax GL n S M w K) Q:=by
 have hr:=Az h hx;simp only[step,LI]at hs;split at hs
 ·rename_i s e1;rw[e1]at hr;have hv:=HG (AJ hr);have kz:(execOp a.eval o).run P w=.ok (.value (.slice (some ⟨w.heap.size,0,none⟩) (Cr s).size (grownCap w (Cr s).size 0 e))) (Lib.bytesWorld w e (Cr s)):=by simp only[execOp,ho,hv,Sem.run_bind,Lib.run_convert_string_bytes w t t' e (Cr s) hu hu' he,Result.andThen_ok,Sem.run_pure]
  have jd:(Cr s).size=s.length:=by rfl
  have kc:s.length<=grownCap w s.length 0 e:=by exact grownCap_ge w s.length 0 e
  have hM:M.le (M.with w.heap.size (Lib.bytesCells w e (Cr s))):=Mem.le_with (Mem.unk_new h.sub (Nat.le_refl _));have h1:StoOk S.p M μ st.sto (Lib.bytesWorld w e (Cr s)):=h.toStoOk.world (by rw[Lib.bytesWorld_size];omega) fun k hk=>Lib.bytesWorld_at_old w e _ k hk
  have h2:StoOk S.p (M.with w.heap.size (Lib.bytesCells w e (Cr s))) μ st.sto (Lib.bytesWorld w e (Cr s)):=
   h1.know hM (h1.sub.with (Lib.bytesWorld_at_new w e _)) fun m k hm hk=>Mem.with_same (by have:=h.toStoOk.lt hm hk;omega)
  have h3:Rel GL n S (M.with w.heap.size (Lib.bytesCells w e (Cr s))) μ st a (Lib.bytesWorld w e (Cr s)):=h.of h2 hM fun s v hv=>hv.mono hM fun _ k=>k
  have jp:Rep (M.with w.heap.size (Lib.bytesCells w e (Cr s))) (.sl (rowsB s)) (.slice (some ⟨w.heap.size,0,none⟩) s.length (grownCap w s.length 0 e)):=by
   have hl:(rowsB s).length=s.length:=by simp[rowsB]
   have:=Rep.sl (M:=M.with w.heap.size (Lib.bytesCells w e (Cr s))) (rowsB s) 1 w.heap.size 0 (grownCap w s.length 0 e) (fun i _=>.int .u8 ((s.getD i 0).toNat:Int)) (fun r hr=>by
     obtain⟨b,_,rfl⟩:=List.mem_map.1 hr;rfl) (by rw[hl];exact kc) (fun i hi j hj=>by
     rw[Tm s i hi]at hj;have hj0:j=0:=by grind
     subst hj0;have ja:i<s.length:=by omega
     simp[Mem.with,Lib.bytesCells,Cr,Array.getElem?_append,ja]) (fun i hi j hj=>by
     have jq:=hj;rw[Tm s i hi]at jq;have hj0:j=0:=by grind
     subst hj0;have ja:i<s.length:=by omega
     simp only[Tm s i hi,List.getElem_cons_zero];have:s.getD i 0=s[i]:=by grind
     rw[this];exact .int _ _)
   grind
  rw[jd]at kz;refine B9 kz ⟨_,hs,_,μ,by rw[hd];exact h3.put hn (AM jp),⟨hM,fun b hb=>Mem.with_same (by have:=h.low b hb;omega)⟩,⟨?_,?_,?_,?_,?_,?_⟩⟩
  ·rfl
  ·rfl
  ·rfl
  ·rw[Lib.bytesWorld_size];omega
  ·exact fun k hk=>Lib.bytesWorld_at_old w e _ k (h.low k hk)
  ·exact(by unfold Lib.bytesWorld;first|exact Nat.le_refl _|exact Nat.le_succ _|simp)
 ·exact hs.elim
end
end Go.Dl
end
