/-
  Lemmas, no statement.
-/
import Derived.Test.YtojgbkiejjingaaGreatDoorK40
set_option linter.all false
set_option maxRecDepth 100000
set_option maxHeartbeats 8000000
namespace Go.Proofs.YtojgbkiejjingaaGreatDoor
open Go Go.Dl Go.As Go.Proofs
variable {mx:Int}
attribute[local irreducible] Ah Aj MC W W2 FA ev evD step Ae
section
open Go.Sort Go.RowKit Go.Shelf
theorem ie{g:FuncId}{a b:I}{z:Int}(ku:B9 Tryz.prog g=true)(h:Is mx g [a,b] (iI z)){M:Mem}{w0 w:World}(hM:M.Sub w0)(hGL:Gl (Nt mx) M){va vb:Value}(ha:Rep M a va)(hb:Rep M b vb)
  (hw:∀k,k<w0.heap.size->¬M.unk k->w.heap[k]? =w0.heap[k]?):Calls Tryz.prog g #[va,vb] w fun e w'=>e=.returned (.int .i64 z)/\∃q os,w'=grow (w.drewN q) os:=by
 have hn:∀nm,¬names [] nm:=fun nm hn=>by simp[names,Ac]at hn
 let μ:Dl.Place:=fun _=>Go.undef
 have hM':M.Sub w:=hM.world hw;have hlow:∀b,¬M.unk b->b<w.heap.size:=fun b hb=>by
  rcases Nat.lt_or_ge b w.heap.size with q|q
  ·exact q
  ·exact absurd (Mem.unk_new hM' q) hb
 have h0:StoOk (AH μ [] w).p M μ [] w:=⟨hM',fun nm b hb=>by simp[Ac]at hb,fun nm nm' k k' _ h=>absurd h (hn nm),fun b hb=>hb.1⟩;have hD:CL M μ (names []) ([a,b].map D.i) (#[va,vb]:Array Value).toList:=⟨rfl,fun j p q=>by
  match j,p with
  |0,_=>exact AG ha
  |1,_=>exact AG hb⟩
 have h:MC Tryz.prog (Nt mx) g ([a,b].map D.i) [] [] (Sf (iI z)):=h
 delta MC at h
 rcases h M μ w #[va,vb] h0 hGL hD with⟨_,h2⟩|⟨_,row,h1,_⟩|⟨_,v,w',h1,_⟩|⟨h1,_⟩
 ·refine h2.mono ?_;rintro e W' ⟨v,rfl,r,sto',M',μ',⟨rfl,rfl⟩,_,hv,_,hk,_⟩;have hv:v=.int .i64 z:=by have:=AK hv;cases this;rfl
  refine⟨by rw[hv],W'.drawn-w.drawn,W'.heap.extract w.heap.size W'.heap.size,?_⟩;have hdr:=hk.drawn;have js:=hk.size;have zJ:=hk.os;have htp:=hk.tape;have zZ:=hk.output;have wn:∀k,k<w.heap.size->W'.heap[k]? =w.heap[k]? :=fun k qy=>hk.block k ⟨qy,fun nm h=>absurd h (hn nm)⟩
  obtain⟨heap',tape',drawn',os',output'⟩:=W';simp only at hdr js zJ htp zZ wn;subst zJ htp zZ;have eh:heap'=w.heap++heap'.extract w.heap.size heap'.size:=by
   apply Array.ext_getElem?;intro k;by_cases hk:k<w.heap.size
   ·rw[Array.getElem?_append_left hk];exact wn k hk
   ·rw[Array.getElem?_append_right (by omega),Array.getElem?_extract];by_cases qy:k<heap'.size
    ·rw[if_pos (by omega)];congr 1;omega
    ·rw[if_neg (by omega),Array.getElem?_eq_none (by omega)]
  have ed:w.drawn+(drawn'-w.drawn)=drawn':=by omega
  simp only[grow,World.drewN,ed];congr 1
 ·rw[IL ku]at h1;cases h1
 ·rw[IL ku]at h1;cases h1
 ·unfold B9 at ku;rw[h1]at ku;cases ku
theorem VQ{β:Type}{f g:FuncId}{ρ:Ren}(L:SlLaysF0.n6 Tryz.prog ρ)(hf:ρ.f 6=f)(k e:Nat)(vn:0<k)(aE:∀w,(isAgg (ρ.t 24)).run Tryz.prog w=.ok true w)(zE:∀w,(Go.sizeOf (ρ.t 24)).run Tryz.prog w=.ok k w)
  (hen0:B9 Tryz.prog f=true)(ku:B9 Tryz.prog g=true)(E:β->List I)(hE1:∀x,(E x).length=k)(hE2:∀x,(E x).all I.one=true)(c:β->β->Int)(hO:SWO fun x y=>decide (c x y<0))
  (hc:∀x y,Is mx g [.agg (E x),.agg (E y)] (iI (c x y)))(l:List β)(hl:l.length<4611686018427387904)(hgy:Nat.blt g 1000000000=true):
  MC Tryz.prog (Nt mx) f [.ref (.sl 5000 k 0 l.length),.i (.fn g [] [])] [(5000,.rows e k (l.map E))] []
   (fun r s=>r=.i (.tup [])/\∃l':List β,l'.Perm l/\l'.Pairwise (fun x y=>¬c y x<0)/\s=[(5000,.rows e k (l'.map E))]):=by
 delta MC
 intro M μ w vs h1 h2 h3;obtain⟨v,u,rfl,hN,⟨a,cap,hμ,_,kd,hv⟩,hu⟩:∃v u,vs=#[v,u]/\names [(5000,Blk.rows e k (l.map E))] 5000/\LM (μ 5000) k 0 l.length v/\Rep M (.fn g [] []) u:=by
  obtain⟨ls⟩:=vs;obtain⟨hl1,hr⟩:=h3
  match ls,hl1 with
  |[v,u],_=>have q0:=hr 0 (by simp) (by simp);have q1:=hr 1 (by simp) (by simp);exact⟨v,u,rfl,q0.1,q0.2,AK q1⟩
 obtain⟨vf,vc,rfl,_,hvf,hvc⟩:=Rep.fn_inv hu;obtain rfl:vf=#[]:=by apply Array.ext';simpa using hvf.1
 obtain rfl:vc=#[]:=by apply Array.ext';simpa using hvc.1
 have ecd:EA g=.func g:=if_pos hgy;rw[ecd];have heg:∀args w,(callFunc g args).run Tryz.prog w=.ok (.enter g args) w:=fun args w=>IL ku args
 by_cases h0:l=[]
 ·obtain⟨p,c',hvv⟩:∃p c',v=.slice p 0 c':=by
   subst h0;rcases hv with⟨_,a',e⟩|⟨b,o,_,e⟩
   ·exact⟨_,_,e⟩
   ·exact⟨_,_,e⟩
  subst hvv;have hcon:=AnyF.slices_SortFunc_none L p c' (.func (.func g) #[] #[]) w;rw[hf]at hcon;refine .inl ⟨hen0,hcon.mono ?_⟩;rintro e' w' ⟨rfl,rfl⟩;refine⟨_,rfl,.i (.tup []),_,M,μ,⟨rfl,[],?_,List.Pairwise.nil,rfl⟩,?_,AG (Rep.tup' (Ai.nil M)),MExt.refl _ _,Keeps.refl _ _,fun _ _ _=>rfl⟩
  ·rw[h0]
  ·subst h0;simpa using h1
 have jy:0<l.length:=by cases l;exact(h0 rfl).elim;simp
 rcases hv with⟨rfl,a',rfl⟩|⟨b,o,rfl,rfl⟩
 ·omega
 obtain⟨a1,cap1,e1,hb⟩:=h1.blk 5000 _ rfl;rw[hμ]at e1;injection e1 with e1 e2 e3
 subst e1;subst e3;rcases hb with⟨qb,_⟩|⟨b1,o1,cur,e1,hcp,ho,hm,js,hln,hk,ju⟩
 ·omega
 injection e1 with e1;injection e1 with e1 e2
 subst e1;subst e2;have hbk:An (μ 5000)=some b:=by rw[hμ];simp only[An];rw[if_neg (by omega)]
 let vals:Nat->List Value:=fun j=>(List.range k).map fun i=>cur.getD (o+j*k+i) Go.undef
 have hvals:∀j (hj:j<l.length),Ai M (E l[j]) (vals j):=fun j hj=>by
  refine⟨by simp[vals,hE1],fun i hi jz=>?_⟩;obtain⟨v,hv,hr⟩:=ju j (by simpa using hj) i (by simpa[hE1]using hi);simp only[List.getElem_map]at hr;have e:(vals j)[i]=v:=by simp only[vals,List.getElem_map,List.getElem_range];rw[Array.getD_eq_getD_getElem?,hv];rfl
  rw[e];exact hr
 let β':={p:β×List Value//Ai M (E p.1) p.2}
 let dl:List β':=(List.finRange l.length).map fun j=>⟨(l[j.1],vals j.1),hvals j.1 j.2⟩
 have zA:dl.length=l.length:=by simp[dl]
 have hdg:∀j (hj:j<dl.length),dl[j].1=(l[j]'(by omega),vals j):=fun j hj=>by simp[dl]
 haveI:Inhabited β':=⟨dl[0]'(by omega)⟩
 let enc:β'->List Value:=fun p=>p.1.2
 have henk:∀x,(enc x).length=k:=fun x=>by rw[show(enc x).length=_ from x.2.1,hE1]
 have hen1:∀x,∀v∈enc x,v.oneCell'=true:=fun x v hv=>by
  obtain⟨i,hi,rfl⟩:=List.mem_iff_getElem.1 hv;have jz:i<(E x.1.1).length:=by rw[<-x.2.1];exact hi
  have:=hE2 x.1.1;rw[List.all_eq_true]at this;exact Rep.oneCell (x.2.2 i jz hi) (this _ (List.getElem_mem _))
 let cf:β'->β'->Int:=fun x y=>c x.1.1 y.1.1
 have hO':SWO (ltOf cf):=⟨fun x=>hO.irrefl x.1.1,fun x y z=>hO.trans x.1.1 y.1.1 z.1.1,fun x y z=>hO.ntrans x.1.1 y.1.1 z.1.1⟩;have zz:dl.toArray.size=l.length:=by simp[zA]
 have hflat:∀(d:Array β') t,t<d.size*k->(flatK enc k d)[t]! =(enc d[t/k]!)[t%k]! :=fun d t ht=>get_flatK enc k d t ht
 have j0:∀t,t<l.length*k->cur[o+t]? =some (flatK enc k dl.toArray)[t]! :=fun t ht=>by
  have hj:t/k<l.length:=Nat.div_lt_of_lt_mul (by rw[Nat.mul_comm];exact ht);have hi:t%k<k:=Nat.mod_lt _ vn;obtain⟨v,hv,hr⟩:=ju (t/k) (by simpa using hj) (t%k) (by simpa[hE1]using hi);have et:o+t/k*k+t%k=o+t:=by rw[Nat.add_assoc,Nat.mul_comm,Nat.div_add_mod]
  rw[et]at hv;rw[hv,hflat _ t (by rw[zz];exact ht)];have e1:dl.toArray[t/k]! =dl[t/k]'(by omega):=by rw[getElem!_pos _ _ (by simpa[zA]using hj)];simp
  have e2:(enc dl.toArray[t/k]!)=vals (t/k):=by rw[e1];show(dl[t/k]'(by omega)).1.2=_;rw[hdg]
  rw[e2,getElem!_pos _ _ (by simpa[vals]using hi)];simp only[vals,List.getElem_map,List.getElem_range,et];rw[Array.getD_eq_getD_getElem?,hv];rfl
 have hH:HoldsK enc k w b o dl.toArray:=fun t ht=>by
  have ht':t<l.length*k:=by simpa[zz]using ht
  refine⟨?_,?_⟩
  ·simp only[World.cell?,ho.heap];rw[j0 t ht'];simp
  ·simp[World.frozen?,ho.heap]
 have jl:=ho.lt;have zN:∀(m:Nat) (d:Array β') (os:Array Obj) (kk:Nat),kk≠b->kk<w.heap.size->(sortWorldK enc k w b o m d os).heap[kk]? =w.heap[kk]? :=fun m d os kk jh zW=>by unfold sortWorldK putRowK;rw[heap_grow_old _ _ (by rw[size_putRow];exact zW)];simp only[putRow,mapBlock,Sort.ahead,Array.getElem?_modify];rw[if_neg (fun e=>jh e.symm)]
 have hcmp:CmpLays Tryz.prog g #[] enc k cf b o dl.toArray.size w:=fun m os dk hdk x y=>by have:=ie ku (hc x.1.1 y.1.1) h1.sub h2 (Rep.agg' (vs:=(enc x).toArray) (by simpa using x.2)) (Rep.agg' (vs:=(enc y).toArray) (by simpa using y.2)) (w:=sortWorldK enc k w b o m dk os) (fun kk zW hu=>zN m dk os kk (fun e=>by subst e;exact hu ho.unk) zW);simpa using this
 have hcon:=AnyQ.slices_SortFunc L k aE zE enc henk hen1 cf hO' g #[] b o cap dl.toArray w heg hcmp hH jl (by rw[zz];exact hl);rw[hf,zz]at hcon;simp only[Nat.zero_mul,Nat.add_zero,Nat.sub_zero];refine .inl ⟨hen0,hcon.mono ?_⟩;rintro e' w' ⟨rfl,d',n,os,hp,hs,rfl⟩;obtain⟨hp1,_,hp2⟩:=hp;rw[zz]at hp1;have hd'l:d'.toList.length=l.length:=by simpa using hp1
 have hperm:d'.toList.Perm dl:=by
  have e1:(d'.extract 0 l.length).toList=d'.toList:=by rw[Array.toList_extract,<-hd'l];simp only[List.drop_zero,List.take_length,Nat.sub_zero,List.extract_eq_take_drop]
  have e2:(dl.toArray.extract 0 l.length).toList=dl:=by rw[Array.toList_extract,<-zA];simp
  rw[e1,e2]at hp2;exact hp2
 generalize hL:d'.toList.map (fun p=>p.1.1)=l';have hl'p:l'.Perm l:=by
  have e3:dl.map (fun p=>p.1.1)=l:=by
   apply List.ext_getElem
   ·simp[zA]
   ·intro j q1 q2;rw[List.getElem_map,hdg]
  rw[<-hL,<-e3];exact hperm.map _
 have hl'l:l'.length=l.length:=hl'p.length_eq;have hl's:l'.Pairwise (fun x y=>¬c y x<0):=by rw[<-hL,List.pairwise_map,List.pairwise_iff_getElem];intro i j hi hj hij;have q:=hs i j (Nat.zero_le _) hij (by omega);rw[getElem!_pos d' i (by simpa using hi),getElem!_pos d' j (by simpa using hj)]at q;have q2:decide (c d'[j].1.1 d'[i].1.1<0)=false:=q;simpa using q2
 have hself:(sortWorldK enc k w b o n d' os).heap[b]? =some (.cells (putCells id o (flatK enc k d') cur) e (0,0)):=by unfold sortWorldK putRowK;rw[heap_grow_old _ _ (by rw[size_putRow];exact jl)];simp only[putRow,mapBlock,Sort.ahead,Array.getElem?_modify,if_true];rw[ho.heap];rfl
 have qp:AI (AH μ [(5000,Blk.rows e k (l.map E))] w) M μ (names (BD [(5000,Blk.rows e k (l.map E))] 5000 (.rows e k (l'.map E)))) (sortWorldK enc k w b o n d' os) 5000 (.rows e k (l'.map E)):=by
  refine⟨some ⟨b,o,none⟩,cap,hμ,.inr ⟨b,o,putCells id o (flatK enc k d') cur,rfl,hcp,⟨ho.low,hself,ho.unk⟩,hm,?_,?_,?_,?_⟩⟩
  ·simp[putCells,js]
  ·simpa[hl'l]using kd
  ·intro r hr;obtain⟨s,_,rfl⟩:=List.mem_map.1 hr;exact hE1 s
  ·intro i hi j hj;have ja:i<l'.length:=by simpa using hi
   have jz:i<d'.size:=by rw[<-Array.length_toList];omega
   have jt:j<k:=by simpa[hE1]using hj
   have hlt2:i*k+j<l.length*k:=by have:(i+1)*k<=l.length*k:=Nat.mul_le_mul_right _ (by omega);rw[Nat.add_mul,Nat.one_mul]at this;omega
   have hsz2:d'.size*k=l.length*k:=by rw[hp1]
   refine⟨(flatK enc k d')[i*k+j]!,?_,?_⟩
   ·simp only[putCells,Array.getElem?_mapIdx];rw[show o+i*k+j=o+(i*k+j)from by omega,j0 _ hlt2];have:o<=o+(i*k+j)/\o+(i*k+j)<o+(flatK enc k d').size:=by rw[size_flatK,hsz2];omega
    simp only[Option.map_some,if_pos this,id];congr 2;omega
   ·rw[hflat _ _ (by rw[hsz2];exact hlt2)];have e1:(i*k+j)/k=i:=by rw[Nat.mul_comm,Nat.mul_add_div vn,Nat.div_eq_of_lt jt];omega
    have e2:(i*k+j)%k=j:=by rw[Nat.mul_comm,Nat.mul_add_mod,Nat.mod_eq_of_lt jt]
    rw[e1,e2,getElem!_pos d' i jz,getElem!_pos _ j (by rw[henk];exact jt)];have q:=d'[i].2.2 j (by rw[hE1];exact jt) (by rw[d'[i].2.1,hE1];exact jt);have e3:l'[i]=d'[i].1.1:=by simp[<-hL]
    simp only[List.getElem_map,e3];exact q
 refine⟨_,rfl,.i (.tup []),[(5000,.rows e k (l'.map E))],M,μ,⟨rfl,l',hl'p,hl's,rfl⟩,?_,AG (Rep.tup' (Ai.nil M)),MExt.refl _ _,⟨rfl,rfl,rfl,?_,fun kk hkk=>zN n d' os kk ?_ hkk.1,?_⟩,fun _ _ _=>rfl⟩
 ·exact h1.setBlk (nm:=5000) (blk':=.rows e k (l'.map E)) rfl hbk (by unfold sortWorldK putRowK;rw[size_grow,size_putRow];exact Nat.le_add_right _ _) (fun kk h1 h2=>zN n d' os kk h1 h2) qp
 ·unfold sortWorldK putRowK;rw[size_grow,size_putRow];exact Nat.le_add_right _ _
 ·intro e';subst e';exact hkk.2 5000 (by simp[names,Ac]) hbk
 ·exact Nat.le_add_right w.drawn n
end
section
abbrev iW(n:Int):I:=.int .u64 n
abbrev AN(n:Int):List I:=[iI n]
def Sk(n:Int)(k:Nat):List Int:=(List.range k).map fun j=>n/65536 ^ j%65536
theorem MO{α:Type}[Inhabited α]{l:List α}{i:Nat}(h:i<l.length):l.drop i=l.getD i default::l.drop (i+1):=by simp_all
theorem Ow(n:Int)(k:Nat):Sk n (k+1)=Sk n k++[n/65536 ^ k%65536]:=by simp[Sk,List.range_succ]
theorem K9(n:Int)(k:Nat):(Sk n k).length=k:=by simp[Sk]
theorem ig{n:Int}{k:Nat}{x:Int}(h:x∈Sk n k):0<=x/\x<65536:=by grind[Sk]
def A8(hi lo:Int):List Int:=Sk lo 4++Sk (hi%18446744073709551616) 4
theorem Ox(hi lo:Int):(A8 hi lo).length=8:=by rfl
theorem Oy{hi lo x:Int}(h:x∈A8 hi lo):0<=x/\x<65536:=by rcases List.mem_append.1 h with h|h<;>exact ig h
theorem Oz(n:Int)(k:Nat):n/65536 ^ k/65536=n/65536 ^ (k+1):=by rw[Int.pow_succ,Int.ediv_ediv_of_nonneg (by exact Int.pow_nonneg (by decide))]
theorem OA{n:Int}(k:Nat)(h:0<=n):0<=n/65536 ^ k/\n/65536 ^ k<=n:=by refine⟨Int.ediv_nonneg h (Int.pow_nonneg (by decide)),Int.ediv_le_self _ h⟩
theorem OB(wz lo:Int)(hh:-9223372036854775808<=wz/\wz<=9223372036854775807)(hl:0<=lo/\lo<18446744073709551616):MC Tryz.prog (Nt mx) 354 [.i (.agg [iI wz,iW lo])] [] []
  (fun r s=>r=.ref (.sl 6000 1 0 8)/\s=[(6000,.rows 3 1 ((A8 wz lo).map AN))]):=by
 have hw:IntKind.u64.wrap wz=wz%18446744073709551616:=by rfl
 refine MX Vr ?_
 (repeat' first|simp(disch:=omega)only[go_sem,reduceCtorEq,Nat.reduceAdd,Nat.reduceEqDiff,Nat.reduceLeDiff,hw]|fail)
 refine AA [5] (by simp only[V0,G4,reduceIte,Nat.reduceEqDiff];rfl) (fun i:Nat=>[(3,.ref (.sl 3 1 0 i)),(4,.i (iW (lo/65536 ^ i))),(6,.i (iI i))]) (fun i=>[(3,.rows 3 1 ((Sk lo i).map AN)),(2,.rows 3 1 [])])
  (fun i=>i<=4) (fun i=>4-i) 0 (by omega) (by simp[V0,Fz,GF,Ref.nm,Sk]) ?_
 intro i hi;have hb:=OA i hl.1;have zA:=K9 lo i;have e4:(lo/65536 ^ i).tdiv 65536=lo/65536 ^ i/65536:=by grind
 have e5:(lo/65536 ^ i).tmod 65536=lo/65536 ^ i%65536:=by grind
 have e6:IntKind.i64.wrap (lo/65536 ^ i%65536)=lo/65536 ^ i%65536:=CE (by omega) (by omega);have e7:IntKind.u64.wrap (lo/65536 ^ i/65536)=lo/65536 ^ i/65536:=by simp only[IntKind.wrap,IntKind.signed,IntKind.bits];simp;omega
 by_cases ja:i<4
 ·have h1:((i:Int)<4)=True:=eq_true (by omega)
  (repeat' first|simp(disch:=omega)only[go_sem,Nat.reduceAdd,Nat.reduceEqDiff,Nat.reduceLeDiff,h1,e4,e5,e6,e7,Nat.sub_zero]|refine Aa ?_|(refine And.intro ?_ ?_;focus omega))
  refine⟨by simp,by simp[I.one],by omega,by omega,by decide,i+1,by omega,by omega,⟨rfl,by rw[Oz],rfl⟩,?_⟩;rw[List.take_of_length_le (by simp[zA]),Ow,List.map_append];rfl
 ·have h1:((i:Int)<4)=False:=eq_false (by omega);have e:i=4:=by omega
  (repeat' first|simp(disch:=omega)only[go_sem,Nat.reduceEqDiff,h1]|refine Aa ?_|fail)
  have hm:0<=wz%18446744073709551616/\wz%18446744073709551616<18446744073709551616:=by omega
  generalize hg:wz%18446744073709551616=h at hm;refine AA [] (by simp only[G4];rfl) (fun i:Nat=>[(3,.ref (.sl 3 1 0 (4+i))),(5,.i (iW (h/65536 ^ i))),(7,.i (iI i))]) (fun i=>[(3,.rows 3 1 ((Sk lo 4++Sk h i).map AN)),(2,.rows 3 1 [])])
   (fun i=>i<=4) (fun i=>4-i) 0 (by omega) (by simp[V0,Fz,GF,Ref.nm,Sk,e]) ?_
  intro k hk;have qm:=OA k hm.1;have hdl2:=K9 h k;have hdl4:=K9 lo 4;have f4:(h/65536 ^ k).tdiv 65536=h/65536 ^ k/65536:=by grind
  have f5:(h/65536 ^ k).tmod 65536=h/65536 ^ k%65536:=by grind
  have f6:IntKind.i64.wrap (h/65536 ^ k%65536)=h/65536 ^ k%65536:=CE (by omega) (by omega);have f7:IntKind.u64.wrap (h/65536 ^ k/65536)=h/65536 ^ k/65536:=by simp only[IntKind.wrap,IntKind.signed,IntKind.bits];simp;omega
  by_cases jn:k<4
  ·have h2:((k:Int)<4)=True:=eq_true (by omega)
   (repeat' first|simp(disch:=omega)only[go_sem,Nat.reduceAdd,Nat.reduceEqDiff,Nat.reduceLeDiff,h2,f4,f5,f6,f7,Nat.sub_zero]|refine Aa ?_|(refine And.intro ?_ ?_;focus omega))
   refine⟨by simp,by simp[I.one],by omega,by omega,by decide,k+1,by omega,by omega,⟨rfl,by rw[Oz],rfl⟩,?_⟩;rw[List.take_of_length_le (by simp[hdl2,hdl4]),Ow h k,<-List.append_assoc];simp only[List.map_append];rfl
  ·have h2:((k:Int)<4)=False:=eq_false (by omega);have e':k=4:=by omega
   (repeat' first|simp(disch:=omega)only[go_sem,Nat.reduceEqDiff,h2]|refine Aa ?_|fail)
   refine F3 [(3,6000)] (by simp only[go_sem,wF];rfl) (by simp[YR];rfl) (by decide) (by simp[V0,Fz,GF,Ref.nm]) ?_;refine⟨by rw[e'];rfl,?_⟩;rw[<-hg,e'];rfl
theorem VR(n:Int):(n.tmod 65536<0->n.tmod 65536+65536=n%65536/\n.tdiv 65536-1=n/65536)/\(0<=n.tmod 65536->n.tmod 65536=n%65536/\n.tdiv 65536=n/65536):=by grind
def Si:Int->List Int->List Int
 |_,[]=>[]
 |m,x::r=>(x+m)%65536::Si ((x+m)/65536) r
theorem QZ:∀(m:Int) (l:List Int),(Si m l).length=l.length
 |_,[]=>rfl
 |m,x::r=>by simp[Si,QZ _ r]
theorem OC(d:List Int)(hd:d.length=8)(hb:∀x∈d,-1099511627776<=x/\x<=1099511627776):Is mx 356 [.sl (d.map AN)] (.sl ((Si 0 d).map AN)):=by
 refine MX fN ?_
 (repeat' first|simp(disch:=omega)only[go_sem,reduceCtorEq,Nat.reduceEqDiff]|fail)
 refine AA [0] (by simp only[V0,G4,reduceIte,Nat.reduceEqDiff];rfl) (fun g:Nat×Int×List Int=>[(3,.ref (.sl 3 1 0 g.1)),(4,.i (iI g.2.1)),(5,.i (iI g.1))]) (fun g=>[(3,.rows 3 1 (g.2.2.map AN)),(2,.rows 3 1 [])])
  (fun g=>g.1<=8/\-33554432<=g.2.1/\g.2.1<=33554432/\g.2.2.length=g.1/\Si 0 d=g.2.2++Si g.2.1 (d.drop g.1)) (fun g=>8-g.1) (0,0,[]) (by simp) (by simp[V0,Fz,GF,Ref.nm]) ?_
 rintro⟨i,m,out⟩ ⟨hi,hm1,hm2,zS,hc⟩;simp only at hi hm1 hm2 zS hc;by_cases ja:i<8
 ·have h1:((i:Int)<8)=True:=eq_true (by omega);have hid:i<d.length:=by omega
  have hx:=hb _ (AE hid);rw[MO hid,Si]at hc;generalize hxx:d.getD i default=x at hx hc;have e0:IntKind.i64.wrap (x+m)=x+m:=CE (by omega) (by omega)
  (repeat' first|simp(disch:=omega)only[go_sem,reduceCtorEq,Int.reduceNeg,Nat.reduceAdd,Nat.reduceEqDiff,Nat.reduceLeDiff,h1,hxx,e0,Ck hid,Nat.sub_zero]|refine KX (fun h=>?_) (fun h=>?_)<;>(have h':=h;try simp only[HB]at h';try rewrite [h];try simp only[h])|refine Aa ?_|(refine And.intro ?_ ?_;focus omega))
  ·obtain⟨f1,f2⟩:=(VR (x+m)).1 (by omega);have w1:IntKind.i64.wrap ((x+m).tmod 65536+65536)=(x+m)%65536:=by grind[CE]
   have w2:IntKind.i64.wrap (IntKind.i64.wrap ((x+m).tdiv 65536)-1)=(x+m)/65536:=by grind[CE]
   rw[w1,w2];refine⟨by simp,by simp[I.one],by omega,by omega,(i+1,(x+m)/65536,out++[(x+m)%65536]),⟨by show i+1<=8;omega,by show _<=(x+m)/65536;omega,by show(x+m)/65536<=_;omega,by simp[zS],by rw[hc,List.append_assoc];rfl⟩,by show 8-(i+1)<8-i;omega,⟨rfl,rfl,rfl⟩,?_⟩;rw[List.take_of_length_le (by simp[zS]),List.map_append];rfl
  ·obtain⟨f1,f2⟩:=(VR (x+m)).2 (by omega);have w2:IntKind.i64.wrap ((x+m).tdiv 65536)=(x+m)/65536:=by grind[CE]
   rw[f1,w2];refine⟨by simp,by simp[I.one],by omega,by omega,(i+1,(x+m)/65536,out++[(x+m)%65536]),⟨by show i+1<=8;omega,by show _<=(x+m)/65536;omega,by show(x+m)/65536<=_;omega,by simp[zS],by rw[hc,List.append_assoc];rfl⟩,by show 8-(i+1)<8-i;omega,⟨rfl,rfl,rfl⟩,?_⟩;rw[List.take_of_length_le (by simp[zS]),List.map_append];rfl
 ·have h1:((i:Int)<8)=False:=eq_false (by omega);have hcar:Si 0 d=out:=by grind[Si]
  have ji:(i<=out.length)=True:=eq_true (by omega);have kj:(out.map AN).take i=out.map AN:=List.take_of_length_le (by simp[zS])
  (repeat' first|simp(disch:=omega)only[go_sem,reduceCtorEq,Int.reduceNeg,Nat.reduceEqDiff,h1,ji,kj]|refine Aa ?_|refine CD (R:=Sf _) ?_|fail)
  all_goals rw[hcar]
def val:List Int->Int
 |[]=>0
 |x::r=>x+65536*val r
def xl(l:List Int):Prop:=∀x∈l,0<=x/\x<65536
theorem VS:∀(l:List Int),xl l->l.length<=3->0<=val l/\val l<281474976710656
 |[],_,_=>by simp[val]
 |[a],h,_=>by have:=h a (by simp);simp only[val];omega
 |[a,b],h,_=>by have:=h a (by simp);have:=h b (by simp);simp only[val];omega
 |[a,b,c],h,_=>by have:=h a (by simp);have:=h b (by simp);have:=h c (by simp);simp only[val];omega
 |_::_::_::_::_,_,h=>by simp at h
def rr(d:List Int):Int×Int:=(IntKind.i64.wrap (val (d.drop 4)),val (d.take 4))
abbrev wQ(d:List Int):List I:=[iI (rr d).1,iW (rr d).2]
theorem La{n:Int}(h:0<=n)(h2:n<18446744073709551616):IntKind.u64.wrap n=n:=by simp only[IntKind.wrap,IntKind.signed,IntKind.bits];simp;omega
theorem VT(d:List Int)(hd:d.length=8)(hb:xl d):Is mx 355 [.sl (d.map AN)] (.agg (wQ d)):=by
 refine MX fM ?_
 (repeat' first|simp(disch:=omega)only[go_sem,reduceCtorEq,Nat.reduceEqDiff]|fail)
 refine AA [0,2] (by simp only[V0,G4,reduceIte,Nat.reduceEqDiff];rfl) (fun j:Nat=>[(3,.i (iW (val ((d.take 4).drop (4-j))))),(4,.i (iW (val (d.drop (8-j))))),(5,.i (iI (3-j)))]) (fun _=>[(2,.cells [.i (iI 0),.i (iW 0)])])
  (fun j=>j<=4) (fun j=>4-j) 0 (by omega) (by simp[V0,Fz,GF,Ref.nm,List.drop_eq_nil_of_le,hd,val]) ?_
 intro j hj;by_cases jt:j<4
 ·have h1:((3-j:Int)≥0)=True:=eq_true (by omega);have h1b:((0:Int)<=3-j)=True:=eq_true (by omega);have k1:(3-j:Int).toNat=3-j:=by omega
  have k2:(3-j+4:Int).toNat=7-j:=by omega
  have d1:(d.take 4).drop (4-(j+1))=d.getD (3-j) default::(d.take 4).drop (4-j):=by grind[MO,A7]
  have d2:d.drop (8-(j+1))=d.getD (7-j) default::d.drop (8-j):=by grind[MO]
  have b1:=VS ((d.take 4).drop (4-j)) (fun x hx=>hb x (List.mem_of_mem_take (List.mem_of_mem_drop hx))) (by simp;omega);have b2:=VS (d.drop (8-j)) (fun x hx=>hb x (List.mem_of_mem_drop hx)) (by simp;omega);have m1:=hb _ (AE (n:=3-j) (l:=d) (by omega));have m2:=hb _ (AE (n:=7-j) (l:=d) (by omega));have g1:val ((d.take 4).drop (4-(j+1)))=d.getD (3-j) default+65536*val ((d.take 4).drop (4-j)):=by rw[d1,val]
  have g2:val (d.drop (8-(j+1)))=d.getD (7-j) default+65536*val (d.drop (8-j)):=by rw[d2,val]
  generalize val ((d.take 4).drop (4-j))=lo at b1 g1;generalize val (d.drop (8-j))=hi at b2 g2;have l1:((3-j:Int)<(d.length:Int))=True:=eq_true (by omega);have l2:((3-j+4:Int)<(d.length:Int))=True:=eq_true (by omega);have n1:IntKind.i64.wrap (3-j+4)=3-j+4:=CE (by omega) (by omega);have u1:=La (n:=lo*65536) (by omega) (by omega);have u2:=La (n:=hi*65536) (by omega) (by omega);have u3:=La (n:=d.getD (3-j) default) (by omega) (by omega);have u4:=La (n:=d.getD (7-j) default) (by omega) (by omega);have u5:=La (n:=lo*65536+d.getD (3-j) default) (by omega) (by omega);have u6:=La (n:=hi*65536+d.getD (7-j) default) (by omega) (by omega)
  (repeat' first|simp(disch:=omega)only[go_sem,reduceCtorEq,Nat.reduceAdd,Nat.reduceEqDiff,h1,k1,k2,l1,l2,n1,u1,u2,u3,u4,u5,u6]|refine Aa ?_|(refine And.intro ?_ ?_;focus omega))
  refine⟨j+1,by omega,by omega,?_,?_,?_⟩
  ·rw[g1];refine congrArg (fun n=>D.i (I.int .u64 n)) ?_;omega
  ·rw[g2];refine congrArg (fun n=>D.i (I.int .u64 n)) ?_;omega
  ·refine congrArg (fun n=>D.i (I.int .i64 n)) ?_;omega
 ·have h1b:((0:Int)<=3-j)=False:=eq_false (by omega);have e:j=4:=by omega
  (repeat' first|simp(disch:=omega)only[go_sem,reduceCtorEq,Nat.reduceAdd,Nat.reduceEqDiff,h1b]|refine Aa ?_|refine CD (R:=Sf _) ?_|fail)
  rw[e];rfl
def rA(n:Int):List I:=if n<0 then[iI (-1),iW (n%18446744073709551616)]else[iI 0,iW n]
theorem Q1(n:Int)(h:-9223372036854775808<=n/\n<=9223372036854775807):Is mx 349 [iI n] (.agg (rA n)):=by
 have hw:IntKind.u64.wrap n=n%18446744073709551616:=by rfl
 refine MX fJ ?_
 (repeat' first|simp(disch:=omega)only[go_sem,reduceCtorEq,Int.reduceNeg,Nat.reduceAdd,Nat.reduceEqDiff,hw]|refine KX (fun h=>?_) (fun h=>?_)<;>(have h':=h;try simp only[HB]at h';try rewrite [h];try simp only[h])|refine Aa ?_|refine CD (R:=Sf _) ?_|fail)
 ·simp[rA,h']
 ·have:n%18446744073709551616=n:=by omega
  simp[rA,show¬n<0 by omega,this]
def rB(hi lo:Int):Prop:=(-9223372036854775808<=hi/\hi<=9223372036854775807)/\(0<=lo/\lo<18446744073709551616)
def DN(f:Int->Int->Int):List Int->List Int->Nat->List Int
 |a::x,b::y,i+1=>f a b::DN f x y i
 |x,_,_=>x
theorem VU(f:Int->Int->Int)(x y:List Int):DN f x y 0=x:=by cases x<;>cases y<;>rfl
theorem Q2(f:Int->Int->Int):∀(x y:List Int) (i:Nat),(DN f x y i).length=x.length
 |[],y,i=>by rfl
 |a::x,[],i=>by rfl
 |a::x,b::y,0=>rfl
 |a::x,b::y,i+1=>by simp[DN,Q2 f x y i]
theorem Q3(f:Int->Int->Int):∀(x y:List Int) (i:Nat),(DN f x y i).getD i default=x.getD i default
 |[],y,i=>by rfl
 |a::x,[],i=>by rfl
 |a::x,b::y,0=>rfl
 |a::x,b::y,i+1=>by simpa[DN]using Q3 f x y i
theorem Q4(f:Int->Int->Int):∀(x y:List Int) (i:Nat),x.length=y.length->i<x.length->(DN f x y i).set i (f (x.getD i default) (y.getD i default))=DN f x y (i+1)
 |[],y,i,_,h=>by simp at h
 |a::x,[],i,h,_=>by simp at h
 |a::x,b::y,0,_,_=>by simp[DN]
 |a::x,b::y,i+1,h,h2=>by simpa[DN]using Q4 f x y i (by simpa using h) (by simpa using h2)
theorem Q5(f:Int->Int->Int):∀(x y:List Int),x.length=y.length->DN f x y x.length=List.zipWith f x y
 |[],[],_=>rfl
 |a::x,b::y,h=>by simp[DN,Q5 f x y (by simpa using h)]
theorem Q6:∀{m:Int} {l:List Int},xl (Si m l)
 |_,[],x,h=>by simp[Si]at h
 |m,a::r,x,h=>by
  simp only[Si,List.mem_cons]at h;rcases h with rfl|h
  ·omega
  ·exact Q6 x h
theorem ii(ah al bh bl:Int)(ha:rB ah al)(hb:rB bh bl):Is mx 350 [.agg [iI ah,iW al],.agg [iI bh,iW bl]] (.agg (wQ (Si 0 (List.zipWith (·+·) (A8 ah al) (A8 bh bl))))):=by
 have hxm:∀x∈A8 ah al,0<=x/\x<65536:=fun x h=>Oy h
 have hym:∀x∈A8 bh bl,0<=x/\x<65536:=fun x h=>Oy h
 have vk:=Ox ah al;have hyl:=Ox bh bl;have m1:=OB (mx:=mx) ah al ha.1 ha.2;have m2:=OB (mx:=mx) bh bl hb.1 hb.2;generalize A8 ah al=x at hxm vk m1;generalize A8 bh bl=y at hym hyl m2;have hcb:∀z∈List.zipWith (·+·) x y,-1099511627776<=z/\z<=1099511627776:=by intro z hz;obtain⟨k,hk,rfl⟩:=List.mem_iff_getElem.1 hz;rw[List.getElem_zipWith];have h1:=hxm _ (List.getElem_mem (l:=x) (n:=k) (by simp at hk;omega));have h2:=hym _ (List.getElem_mem (l:=y) (n:=k) (by simp at hk;omega));omega
 have h3:=OC (mx:=mx) (List.zipWith (·+·) x y) (by simp[vk,hyl]) hcb;have h4:=VT (mx:=mx) (Si 0 (List.zipWith (·+·) x y)) (by simp[QZ,vk,hyl]) Q6;refine MX fK ?_
 (repeat' first|simp(disch:=omega)only[go_sem,reduceCtorEq,Nat.reduceAdd,Nat.reduceEqDiff]|(refine JX (m1) ?_ (by simp[Fz]) (by simp[Fz,GF]) (fun r sto' hR=>?_);(focus(first|rfl|(simp only[go_sem,Nat.reduceEqDiff];done)));first|(obtain⟨rfl,rfl⟩:=hR)|(obtain⟨_,(rfl|rfl),rfl,rfl⟩:=hR))|(refine JX (m2) ?_ (by simp[Fz]) (by simp[Fz,GF]) (fun r sto' hR=>?_);(focus(first|rfl|(simp only[go_sem,reduceCtorEq,Int.reduceToNat,Int.reduceNeg,Int.reduceLT,Int.reduceLE,Int.reduceEq,Int.reduceAdd,Int.reduceSub,Int.reduceMul,Nat.reduceAdd,Nat.reduceSub,Nat.reduceMul,Nat.reduceEqDiff,Nat.reduceBEq,Nat.reduceBneDiff,Nat.reduceLeDiff,Nat.reduceLT,reduceIte];done)));first|(obtain⟨rfl,rfl⟩:=hR)|(obtain⟨_,(rfl|rfl),rfl,rfl⟩:=hR))|fail)
 refine AA [4,5,6] (by simp only[V0,G4,reduceIte,Nat.reduceEqDiff];rfl) (fun i:Nat=>[(7,.i (iI i))]) (fun i=>[(9,.rows 3 1 ((DN (·+·) x y i).map AN)),(4,.cells [.i (iI 0),.i (iW 0)]),(11,.rows 3 1 (y.map AN))])
  (fun i=>i<=8) (fun i=>8-i) 0 (by omega) (by simp[V0,Fz,GF,Ref.nm,VU]) ?_
 intro i hi;have ve:=Q2 (·+·) x y i;by_cases ja:i<8
 ·have h1:((i:Int)<8)=True:=eq_true (by omega);have wo:i<x.length:=by omega
  have hiy:i<y.length:=by omega
  have a1:=hxm _ (AE wo);have a2:=hym _ (AE hiy);have e0:IntKind.i64.wrap (x.getD i default+y.getD i default)=x.getD i default+y.getD i default:=CE (by omega) (by omega);have e1:=Q3 (·+·) x y i;have e2:=Q4 (·+·) x y i (by omega) wo
  (repeat' first|simp(disch:=omega)only[go_sem,Nat.reduceEqDiff,h1,Nat.sub_zero,Nat.zero_add,e1,e0]|refine Aa ?_|refine Am ?_|(refine And.intro ?_ ?_;focus omega))
  refine⟨i+1,by omega,by omega,rfl,?_⟩;rw[<-e2,List.map_set]
 ·have h1:((i:Int)<8)=False:=eq_false (by omega);have e:DN (·+·) x y i=List.zipWith (·+·) x y:=by grind[Q5]
  rw[e];have ji:(8<=(List.zipWith (·+·) x y).length)=True:=eq_true (by simp[vk,hyl]);have kj:((List.zipWith (·+·) x y).map AN).take 8=(List.zipWith (·+·) x y).map AN:=List.take_of_length_le (by simp[vk,hyl])
  (repeat' first|simp(disch:=omega)only[go_sem,Nat.reduceAdd,Nat.reduceEqDiff,h1,ji,kj]|refine Ab (h3) ?_|refine Ab (h4) ?_|refine Aa ?_|refine HD ?_ ?_|refine CD (R:=Sf _) ?_|fail)
theorem ij(ah al bh bl:Int)(ha:rB ah al)(hb:rB bh bl):Is mx 364 [.agg [iI ah,iW al],.agg [iI bh,iW bl]] (.agg (wQ (Si 0 (List.zipWith (·-·) (A8 ah al) (A8 bh bl))))):=by
 have hxm:∀x∈A8 ah al,0<=x/\x<65536:=fun x h=>Oy h
 have hym:∀x∈A8 bh bl,0<=x/\x<65536:=fun x h=>Oy h
 have vk:=Ox ah al;have hyl:=Ox bh bl;have m1:=OB (mx:=mx) ah al ha.1 ha.2;have m2:=OB (mx:=mx) bh bl hb.1 hb.2;generalize A8 ah al=x at hxm vk m1;generalize A8 bh bl=y at hym hyl m2;have hcb:∀z∈List.zipWith (·-·) x y,-1099511627776<=z/\z<=1099511627776:=by intro z hz;obtain⟨k,hk,rfl⟩:=List.mem_iff_getElem.1 hz;rw[List.getElem_zipWith];have h1:=hxm _ (List.getElem_mem (l:=x) (n:=k) (by simp at hk;omega));have h2:=hym _ (List.getElem_mem (l:=y) (n:=k) (by simp at hk;omega));omega
 have h3:=OC (mx:=mx) (List.zipWith (·-·) x y) (by simp[vk,hyl]) hcb;have h4:=VT (mx:=mx) (Si 0 (List.zipWith (·-·) x y)) (by simp[QZ,vk,hyl]) Q6;refine MX fS ?_
 (repeat' first|simp(disch:=omega)only[go_sem,reduceCtorEq,Nat.reduceAdd,Nat.reduceEqDiff]|(refine JX (m1) ?_ (by simp[Fz]) (by simp[Fz,GF]) (fun r sto' hR=>?_);(focus(first|rfl|(simp only[go_sem,Nat.reduceEqDiff];done)));first|(obtain⟨rfl,rfl⟩:=hR)|(obtain⟨_,(rfl|rfl),rfl,rfl⟩:=hR))|(refine JX (m2) ?_ (by simp[Fz]) (by simp[Fz,GF]) (fun r sto' hR=>?_);(focus(first|rfl|(simp only[go_sem,reduceCtorEq,Int.reduceToNat,Int.reduceNeg,Int.reduceLT,Int.reduceLE,Int.reduceEq,Int.reduceAdd,Int.reduceSub,Int.reduceMul,Nat.reduceAdd,Nat.reduceSub,Nat.reduceMul,Nat.reduceEqDiff,Nat.reduceBEq,Nat.reduceBneDiff,Nat.reduceLeDiff,Nat.reduceLT,reduceIte];done)));first|(obtain⟨rfl,rfl⟩:=hR)|(obtain⟨_,(rfl|rfl),rfl,rfl⟩:=hR))|fail)
 refine AA [4,5,6] (by simp only[V0,G4,reduceIte,Nat.reduceEqDiff];rfl) (fun i:Nat=>[(7,.i (iI i))]) (fun i=>[(9,.rows 3 1 ((DN (·-·) x y i).map AN)),(4,.cells [.i (iI 0),.i (iW 0)]),(11,.rows 3 1 (y.map AN))])
  (fun i=>i<=8) (fun i=>8-i) 0 (by omega) (by simp[V0,Fz,GF,Ref.nm,VU]) ?_
 intro i hi;have ve:=Q2 (·-·) x y i;by_cases ja:i<8
 ·have h1:((i:Int)<8)=True:=eq_true (by omega);have wo:i<x.length:=by omega
  have hiy:i<y.length:=by omega
  have a1:=hxm _ (AE wo);have a2:=hym _ (AE hiy);have e0:IntKind.i64.wrap (x.getD i default-y.getD i default)=x.getD i default-y.getD i default:=CE (by omega) (by omega);have e1:=Q3 (·-·) x y i;have e2:=Q4 (·-·) x y i (by omega) wo
  (repeat' first|simp(disch:=omega)only[go_sem,Nat.reduceEqDiff,h1,Nat.sub_zero,Nat.zero_add,e1,e0]|refine Aa ?_|refine Am ?_|(refine And.intro ?_ ?_;focus omega))
  refine⟨i+1,by omega,by omega,rfl,?_⟩;rw[<-e2,List.map_set]
 ·have h1:((i:Int)<8)=False:=eq_false (by omega);have e:DN (·-·) x y i=List.zipWith (·-·) x y:=by grind[Q5]
  rw[e];have ji:(8<=(List.zipWith (·-·) x y).length)=True:=eq_true (by simp[vk,hyl]);have kj:((List.zipWith (·-·) x y).map AN).take 8=(List.zipWith (·-·) x y).map AN:=List.take_of_length_le (by simp[vk,hyl])
  (repeat' first|simp(disch:=omega)only[go_sem,Nat.reduceAdd,Nat.reduceEqDiff,h1,ji,kj]|refine Ab (h3) ?_|refine Ab (h4) ?_|refine Aa ?_|refine HD ?_ ?_|refine CD (R:=Sf _) ?_|fail)
theorem il:rB 0 0:=by refine⟨by omega,by omega⟩
theorem im(h l:Int)(ha:rB h l):Is mx 362 [.agg [iI h,iW l]] (.agg (wQ (Si 0 (List.zipWith (·-·) (A8 0 0) (A8 h l))))):=by
 have h0:Is mx 349 [iI 0] (.agg [iI 0,iW 0]):=Q1 0 (by omega);have h1:=ij (mx:=mx) 0 0 h l il ha;refine MX fR ?_
 (repeat' first|simp(disch:=omega)only[go_sem,reduceCtorEq,Nat.reduceAdd,Nat.reduceEqDiff]|refine Ab (h0) ?_|refine Ab (h1) ?_|refine Am ?_|refine CD (R:=Sf _) ?_|fail)
theorem io(wz lo:Int)(hh:-9223372036854775808<=wz/\wz<=9223372036854775807)(hl:0<=lo/\lo<18446744073709551616):Is mx 354 [.agg [iI wz,iW lo]] (.sl ((A8 wz lo).map AN)):=by
 have hw:IntKind.u64.wrap wz=wz%18446744073709551616:=by rfl
 refine MX Vr ?_
 (repeat' first|simp(disch:=omega)only[go_sem,reduceCtorEq,Nat.reduceAdd,Nat.reduceEqDiff,Nat.reduceLeDiff,hw]|fail)
 refine AA [5] (by simp only[V0,G4,reduceIte,Nat.reduceEqDiff];rfl) (fun i:Nat=>[(3,.ref (.sl 3 1 0 i)),(4,.i (iW (lo/65536 ^ i))),(6,.i (iI i))]) (fun i=>[(3,.rows 3 1 ((Sk lo i).map AN)),(2,.rows 3 1 [])])
  (fun i=>i<=4) (fun i=>4-i) 0 (by omega) (by simp[V0,Fz,GF,Ref.nm,Sk]) ?_
 intro i hi;have hb:=OA i hl.1;have zA:=K9 lo i;have e4:(lo/65536 ^ i).tdiv 65536=lo/65536 ^ i/65536:=by grind
 have e5:(lo/65536 ^ i).tmod 65536=lo/65536 ^ i%65536:=by grind
 have e6:IntKind.i64.wrap (lo/65536 ^ i%65536)=lo/65536 ^ i%65536:=CE (by omega) (by omega);have e7:IntKind.u64.wrap (lo/65536 ^ i/65536)=lo/65536 ^ i/65536:=by simp only[IntKind.wrap,IntKind.signed,IntKind.bits];simp;omega
 by_cases ja:i<4
 ·have h1:((i:Int)<4)=True:=eq_true (by omega)
  (repeat' first|simp(disch:=omega)only[go_sem,Nat.reduceAdd,Nat.reduceEqDiff,Nat.reduceLeDiff,h1,e4,e5,e6,e7,Nat.sub_zero]|refine Aa ?_|(refine And.intro ?_ ?_;focus omega))
  refine⟨by simp,by simp[I.one],by omega,by omega,by decide,i+1,by omega,by omega,⟨rfl,by rw[Oz],rfl⟩,?_⟩;rw[List.take_of_length_le (by simp[zA]),Ow,List.map_append];rfl
 ·have h1:((i:Int)<4)=False:=eq_false (by omega);have e:i=4:=by omega
  (repeat' first|simp(disch:=omega)only[go_sem,Nat.reduceEqDiff,h1]|refine Aa ?_|fail)
  have hm:0<=wz%18446744073709551616/\wz%18446744073709551616<18446744073709551616:=by omega
  generalize hg:wz%18446744073709551616=h at hm;refine AA [] (by simp only[G4];rfl) (fun i:Nat=>[(3,.ref (.sl 3 1 0 (4+i))),(5,.i (iW (h/65536 ^ i))),(7,.i (iI i))]) (fun i=>[(3,.rows 3 1 ((Sk lo 4++Sk h i).map AN)),(2,.rows 3 1 [])])
   (fun i=>i<=4) (fun i=>4-i) 0 (by omega) (by simp[V0,Fz,GF,Ref.nm,Sk,e]) ?_
  intro k hk;have qm:=OA k hm.1;have hdl2:=K9 h k;have hdl4:=K9 lo 4;have f4:(h/65536 ^ k).tdiv 65536=h/65536 ^ k/65536:=by grind
  have f5:(h/65536 ^ k).tmod 65536=h/65536 ^ k%65536:=by grind
  have f6:IntKind.i64.wrap (h/65536 ^ k%65536)=h/65536 ^ k%65536:=CE (by omega) (by omega);have f7:IntKind.u64.wrap (h/65536 ^ k/65536)=h/65536 ^ k/65536:=by simp only[IntKind.wrap,IntKind.signed,IntKind.bits];simp;omega
  by_cases jn:k<4
  ·have h2:((k:Int)<4)=True:=eq_true (by omega)
   (repeat' first|simp(disch:=omega)only[go_sem,Nat.reduceAdd,Nat.reduceEqDiff,Nat.reduceLeDiff,h2,f4,f5,f6,f7,Nat.sub_zero]|refine Aa ?_|(refine And.intro ?_ ?_;focus omega))
   refine⟨by simp,by simp[I.one],by omega,by omega,by decide,k+1,by omega,by omega,⟨rfl,by rw[Oz],rfl⟩,?_⟩;rw[List.take_of_length_le (by simp[hdl2,hdl4]),Ow h k,<-List.append_assoc];simp only[List.map_append];rfl
  ·have h2:((k:Int)<4)=False:=eq_false (by omega);have e':k=4:=by omega
   have ji:(4+k<=(Sk lo 4).length+(Sk h k).length)=True:=eq_true (by omega);have kj:((Sk lo 4++Sk h k).map AN).take (4+k)=(Sk lo 4++Sk h k).map AN:=List.take_of_length_le (by simp[hdl2,hdl4]);have j9:Sk lo 4++Sk h k=A8 wz lo:=by rw[<-hg,e'];rfl
   (repeat' first|simp(disch:=omega)only[go_sem,Nat.reduceEqDiff,h2,List.length_append,ji,kj]|refine Aa ?_|refine CD (R:=Sf _) ?_|fail)
   all_goals rw[j9]
theorem VV(hi lo:Int)(ha:rB hi lo):Is mx 354 [.agg [iI hi,iW lo]] (.sl ((A8 hi lo).map AN)):=by exact io hi lo ha.1 ha.2
def OD(h l:Int):List Int:=if h<0 then A8 (rr (Si 0 (List.zipWith (·-·) (A8 0 0) (A8 h l)))).1 (rr (Si 0 (List.zipWith (·-·) (A8 0 0) (A8 h l)))).2 else A8 h l
theorem ip(h l:Int)(ha:rB h l)(hb:h<0->rB (rr (Si 0 (List.zipWith (·-·) (A8 0 0) (A8 h l)))).1 (rr (Si 0 (List.zipWith (·-·) (A8 0 0) (A8 h l)))).2):Is mx 357 [.agg [iI h,iW l]] (.sl ((OD h l).map AN)):=by
 have h1:=im (mx:=mx) h l ha;by_cases hn:h<0
 ·have h2:=VV (mx:=mx) _ _ (hb hn);have e:OD h l=_:=if_pos hn;refine MX Vs ?_
  (repeat' first|simp(disch:=omega)only[go_sem,reduceCtorEq,Nat.reduceAdd,Nat.reduceEqDiff,Nat.reduceLeDiff,eq_true hn]|refine Ab (h1) ?_|refine Ab (h2) ?_|refine Aa ?_|refine HD ?_ ?_|refine CD (R:=Sf _) ?_|fail)
  all_goals rw[e]
 ·have h2:=VV (mx:=mx) _ _ ha;have e:OD h l=_:=if_neg hn;refine MX Vs ?_
  (repeat' first|simp(disch:=omega)only[go_sem,reduceCtorEq,Nat.reduceAdd,Nat.reduceEqDiff,Nat.reduceLeDiff,eq_false hn]|refine Ab (h2) ?_|refine Aa ?_|refine HD ?_ ?_|refine CD (R:=Sf _) ?_|fail)
  all_goals rw[e]
def vW:List Int->List Int->Bool
 |x::a,y::b=>if x≠y then decide (x<y)else vW a b
 |_,_=>false
theorem VW{l:List Int}{j:Nat}(hl:l.length=8)(hj:j<8):l.reverse.getD j default=l.getD (7-j) default:=by grind
theorem iq(a b:List Int)(ha:a.length=8)(hb:b.length=8):Is mx 359 [.sl (a.map AN),.sl (b.map AN)] (.bool (vW a.reverse b.reverse)):=by
 refine MX fP ?_
 (repeat' first|simp(disch:=omega)only[go_sem,reduceCtorEq,Nat.reduceAdd,Nat.reduceEqDiff]|fail)
 refine AA [0,1] (by simp only[V0,G4,reduceIte,Nat.reduceEqDiff];rfl) (fun j:Nat=>[(5,.i (iI (7-j)))]) (fun _=>[])
  (fun j=>j<=8/\vW a.reverse b.reverse=vW (a.reverse.drop j) (b.reverse.drop j)) (fun j=>8-j) 0 (by simp) (by simp[V0,Fz,GF]) ?_
 rintro j ⟨hj,jb⟩;by_cases jt:j<8
 ·have h1:((7-j:Int)≥0)=True:=eq_true (by omega);have h1b:((0:Int)<=7-j)=True:=eq_true (by omega);have k1:(7-j:Int).toNat=7-j:=by omega
  have l1:((7-j:Int)<(a.length:Int))=True:=eq_true (by omega);have l2:((7-j:Int)<(b.length:Int))=True:=eq_true (by omega);rw[MO (by simp;omega),MO (l:=b.reverse) (by simp;omega),VW ha jt,VW hb jt,vW]at jb
  (repeat' first|simp(disch:=omega)only[go_sem,reduceCtorEq,Nat.reduceAdd,Nat.reduceEqDiff,h1b,k1,l1,l2]|refine KX (fun h=>?_) (fun h=>?_)<;>(have h':=h;try simp only[HB]at h';try rewrite [h];try simp only[h])|refine Aa ?_|refine Am ?_|refine CD (R:=Sf _) ?_|fail)
  ·rw[jb,if_pos h']
  ·rw[if_neg (by omega)]at jb;exact⟨j+1,⟨by omega,jb⟩,by omega,congrArg (fun n=>D.i (I.int .i64 n)) (by omega)⟩
 ·have h1b:((0:Int)<=7-j)=False:=eq_false (by omega)
  (repeat' first|simp(disch:=omega)only[go_sem,reduceCtorEq,Nat.reduceEqDiff,h1b]|refine Aa ?_|refine CD (R:=Sf _) ?_|fail)
  rw[jb,List.drop_eq_nil_of_le (by simp;omega)];rfl
end
section
theorem iu(f:Int->Int->Int){a b:List Int}{i:Nat}(ha:i<a.length)(hb:i<b.length):List.zipWith f (a.take (i+1)) (b.take (i+1))=List.zipWith f (a.take i) (b.take i)++[f (a.getD i default) (b.getD i default)]:=by rw[List.take_succ_eq_append_getElem ha,List.take_succ_eq_append_getElem hb,List.zipWith_append (by simp;omega),A7 ha,A7 hb];rfl
theorem iv(a b:List Int)(ha:a.length=8)(hb:b.length=8)(va:∀x∈a,0<=x/\x<=1099511627775)(vb:∀x∈b,0<=x/\x<=1099511627775):Is mx 360 [.sl (a.map AN),.sl (b.map AN)] (.sl ((Si 0 (List.zipWith (·-·) a b)).map AN)):=by
 have hcb:∀z∈List.zipWith (·-·) a b,-1099511627776<=z/\z<=1099511627776:=by intro z hz;obtain⟨k,hk,rfl⟩:=List.mem_iff_getElem.1 hz;rw[List.getElem_zipWith];have h1:=va _ (List.getElem_mem (l:=a) (n:=k) (by simp at hk;omega));have h2:=vb _ (List.getElem_mem (l:=b) (n:=k) (by simp at hk;omega));omega
 have h3:=OC (mx:=mx) (List.zipWith (·-·) a b) (by simp[ha,hb]) hcb;refine MX fQ ?_
 (repeat' first|simp(disch:=omega)only[go_sem,simprocAttr]|fail)
 refine AA [0,1] (by simp only[V0,G4,reduceIte,Nat.reduceEqDiff];rfl) (fun i:Nat=>[(5,.ref (.sl 5 1 0 i)),(6,.i (iI i))]) (fun i=>[(5,.rows 3 1 ((List.zipWith (·-·) (a.take i) (b.take i)).map AN)),(4,.rows 3 1 [])])
  (fun i=>i<=8) (fun i=>8-i) 0 (by omega) (by simp[V0,Fz,GF,Ref.nm]) ?_
 intro i hi;have ve:(List.zipWith (·-·) (a.take i) (b.take i)).length=i:=by simp;omega
 by_cases ja:i<8
 ·have h1:((i:Int)<8)=True:=eq_true (by omega);have a1:=va _ (AE (n:=i) (l:=a) (by omega));have b1:=vb _ (AE (n:=i) (l:=b) (by omega));have e0:IntKind.i64.wrap (a.getD i default-b.getD i default)=a.getD i default-b.getD i default:=CE (by omega) (by omega)
  (repeat' first|simp(disch:=omega)only[go_sem,simprocAttr,h1,Nat.sub_zero,e0]|refine Aa ?_|refine Am ?_|(refine And.intro ?_ ?_;focus omega))
  refine⟨by simp,by simp[I.one],by omega,by omega,i+1,by omega,by omega,⟨rfl,rfl⟩,?_⟩;rw[List.take_of_length_le (by rw[List.length_map,ve];omega),iu _ (by omega) (by omega)];simp
 ·have h1:((i:Int)<8)=False:=eq_false (by omega);have ji:(i<=(List.zipWith (·-·) (a.take i) (b.take i)).length)=True:=eq_true (by omega);have kj:((List.zipWith (·-·) (a.take i) (b.take i)).map AN).take i=(List.zipWith (·-·) (a.take i) (b.take i)).map AN:=List.take_of_length_le (by rw[List.length_map,ve];omega);have e:List.zipWith (·-·) (a.take i) (b.take i)=List.zipWith (·-·) a b:=by grind
  rw[<-e]at h3⊢
  (repeat' first|simp(disch:=omega)only[go_sem,simprocAttr,h1,ji,kj]|refine Sx.s ?_ ?_<;>try(intro h;have h':=h;try simp only[HB]at h';try simp only[h])|refine Ab (h3) ?_|refine Aa ?_|refine Sz.s ?_|fail)
def Lb(n:Int):List Int->List Int
 |[]=>[]
 |x::r=>(x+n)::r
theorem iw(a:List Int)(n:Int)(ha:a.length=8)(va:∀x∈a,0<=x/\x<=65535)(hn:0<=n/\n<=1):Is mx 358 [.sl (a.map AN),iI n] (.sl ((Si 0 (Lb n (a.map (2*·)))).map AN)):=by
 have hcb:∀z∈Lb n (a.map (2*·)),-1099511627776<=z/\z<=1099511627776:=by
  intro z hz;cases a with
  |nil=>simp at ha
  |cons x r=>
   simp only[List.map_cons,Lb,List.mem_cons,List.mem_map]at hz;rcases hz with rfl|⟨y,hy,rfl⟩
   ·have:=va x (by simp);omega
   all_goals grind
 have h3:=OC (mx:=mx) (Lb n (a.map (2*·))) (by cases a<;>simp_all[Lb]) hcb;refine MX fO ?_
 (repeat' first|simp(disch:=omega)only[go_sem,simprocAttr]|fail)
 refine AA [0,1] (by simp only[V0,G4,reduceIte,Nat.reduceEqDiff];rfl) (fun i:Nat=>[(5,.ref (.sl 5 1 0 i)),(6,.i (iI i))]) (fun i=>[(5,.rows 3 1 (((a.take i).map (2*·)).map AN)),(4,.rows 3 1 [])])
  (fun i=>i<=8) (fun i=>8-i) 0 (by omega) (by simp[V0,Fz,GF,Ref.nm]) ?_
 intro i hi;have ve:((a.take i).map (2*·)).length=i:=by simp;omega
 by_cases ja:i<8
 ·have h1:((i:Int)<8)=True:=eq_true (by omega);have a1:=va _ (AE (n:=i) (l:=a) (by omega));have e0:IntKind.i64.wrap (2*a.getD i default)=2*a.getD i default:=CE (by omega) (by omega);have hle2:(i<=min i a.length)=True:=eq_true (by omega)
  (repeat' first|simp(disch:=omega)only[go_sem,simprocAttr,h1,Nat.sub_zero,e0,List.length_map,List.length_take,hle2]|refine Aa ?_|(refine And.intro ?_ ?_;focus omega))
  refine⟨by simp,by simp[I.one],by omega,by omega,i+1,by omega,by omega,⟨rfl,rfl⟩,?_⟩;have et:(a.take (i+1)).map (2*·)=(a.take i).map (2*·)++[2*a.getD i default]:=by rw[List.take_succ_eq_append_getElem (show i<a.length by omega),List.map_append,A7];rfl
  rw[et,List.take_of_length_le (by rw[List.length_map,ve];omega),List.map_append];rfl
 ·have h1:((i:Int)<8)=False:=eq_false (by omega);have e:a.take i=a:=List.take_of_length_le (by omega);rw[e]at ve⊢;cases a with
  |nil=>simp at ha
  |cons x r=>
   have hx:=va x (by simp);have e0:IntKind.i64.wrap (2*x+n)=2*x+n:=CE (by omega) (by omega);have wz:0<i:=by omega
   simp only[List.map_cons,List.map_map,Lb]at h3 ve⊢;have ji:(i<=r.length+1)=True:=eq_true (by simp at ve;omega);have kj:([I.int .i64 (2*x+n)]::List.map (AN ∘ fun x=>2*x) r).take i=[I.int .i64 (2*x+n)]::List.map (AN ∘ fun x=>2*x) r:=List.take_of_length_le (by simp at ve⊢;omega)
   (repeat' first|simp(disch:=omega)only[go_sem,simprocAttr,h1,e0,Nat.sub_zero,List.set_cons_zero,List.length_cons,List.length_map,ji,kj]|refine Sx.s ?_ ?_<;>try(intro h;have h':=h;try simp only[HB]at h';try simp only[h])|refine Ab (h3) ?_|refine Aa ?_|refine Sz.s ?_|(refine And.intro ?_ ?_;focus omega))
def Nw(n:Int):Int×Int:=if n<0 then(-1,n%18446744073709551616)else(0,n)
def CQ(a:Int):List Int:=[a,0,0,0,0,0,0,0]
def Q7(n:Int):Bool:=decide (OD (Nw n).1 (Nw n).2=CQ (n.natAbs:Int))&&(decide (0<=n)||
 (decide (-9223372036854775808<=(rr (Si 0 (List.zipWith (·-·) (A8 0 0) (A8 (Nw n).1 (Nw n).2)))).1)&&decide ((rr (Si 0 (List.zipWith (·-·) (A8 0 0) (A8 (Nw n).1 (Nw n).2)))).1<=9223372036854775807)&&
  decide (0<=(rr (Si 0 (List.zipWith (·-·) (A8 0 0) (A8 (Nw n).1 (Nw n).2)))).2)&&decide ((rr (Si 0 (List.zipWith (·-·) (A8 0 0) (A8 (Nw n).1 (Nw n).2)))).2<18446744073709551616)))
theorem iz:(List.range 257).all (fun k=>Q7 ((k:Int)-128))=true:=by rfl
theorem iA{n:Int}(h:-128<=n/\n<=128):Q7 n=true:=by have:=List.all_eq_true.1 iz (n+128).toNat (by simp;omega);grind
theorem iB{n:Int}(h:-128<=n/\n<=128):rB (Nw n).1 (Nw n).2:=by unfold Nw;split<;>exact⟨by constructor<;>omega,by constructor<;>omega⟩
theorem Lc(n:Int):rA n=[iI (Nw n).1,iW (Nw n).2]:=by grind[rA,Nw]
theorem VX(n:Int)(h:-128<=n/\n<=128):Is mx 357 [.agg (rA n)] (.sl ((CQ (n.natAbs:Int)).map AN)):=by
 have hc:=iA h;simp only[Q7,Bool.and_eq_true,Bool.or_eq_true,decide_eq_true_eq]at hc;obtain⟨h1,h2⟩:=hc;rw[Lc,<-h1];refine ip _ _ (iB h) fun hn=>?_
 have:n<0:=by unfold Nw at hn;split at hn<;>simp_all
 rcases h2 with h2|h2
 ·omega
 ·exact⟨⟨h2.1.1.1,h2.1.1.2⟩,⟨h2.1.2,h2.2⟩⟩
def EO:List Int:=[0,0,0,0,0,0,0,0]
theorem VY(b:Int)(hb:b=0\/b=1):Is mx 358 [.sl (EO.map AN),iI b] (.sl ((CQ b).map AN)):=by have:=iw (mx:=mx) EO b rfl (by decide) (by omega);rcases hb with rfl|rfl<;>exact this
theorem Q8(a b:Int):Is mx 359 [.sl ((CQ a).map AN),.sl ((CQ b).map AN)] (.bool (decide (a<b))):=by
 have:=iq (mx:=mx) (CQ a) (CQ b) rfl rfl;have e:vW (CQ a).reverse (CQ b).reverse=decide (a<b):=by simp[CQ,vW];grind
 grind
theorem VZ:Is mx 360 [.sl ((CQ 1).map AN),.sl ((CQ 1).map AN)] (.sl (EO.map AN)):=
 iv (CQ 1) (CQ 1) rfl rfl (by decide) (by decide)
theorem iC(a:Nat)(i:Nat):a/2 ^ i=2*(a/2 ^ (i+1))+a/2 ^ i%2:=by rw[Nat.pow_succ,<-Nat.div_div_eq_div_mul];omega
theorem iD(a:Int)(k:Nat)(h:k<8):((CQ a).map AN).getD k []=AN ((CQ a).getD k default):=by rw[A7 (by simpa[CQ]using h)];grind
theorem iE(a:Int)(k:Nat):(CQ a).getD (k+1) default=0:=by
 match k with
 |0|1|2|3|4|5|6=>rfl
 |k+7=>rfl
def wG(r:Nat):D:=if r=128 then .ref (.sl 20 1 0 8)else .i (.sl (EO.map AN))
def Ld(r:Nat):List (Nat×Blk):=if r=128 then[(20,.rows 3 1 (EO.map AN))]else[]
theorem iF(a i:Nat)(ha:a<=128)(hi:i<128):(((CQ (a:Int)).getD (i/16) default).fdiv (2 ^ (i%16).min 64)).tmod 2=((a/2 ^ i%2:Nat):Int):=by
 by_cases h:i<16
 ·rw[show i/16=0 by omega,show(i%16).min 64=i by show min (i%16) 64=i;omega];show((a:Int).fdiv (2 ^ i)).tmod 2=_;grind
 ·obtain⟨k,hk⟩:∃k,i/16=k+1:=⟨i/16-1,by omega⟩;rw[hk,iE];have h2:a<2 ^ i:=Nat.lt_of_lt_of_le (show a<2 ^ 16 by omega) (Nat.pow_le_pow_right (by decide) (by omega));rw[Nat.div_eq_of_lt h2];simp
theorem iG(n:Int)(h:-128<=n/\n<=128):Is mx 351 [.agg (rA n),iI 1] (.tup [iI n,.bool true]):=by
 have h1:=VX (mx:=mx) n h;have h2:Is mx 357 [.agg (rA 1)] (.sl ((CQ 1).map AN)):=VX 1 (by omega);have h3:Is mx 349 [iI 1] (.agg (rA 1)):=Q1 1 (by omega);have hneg:(pk false (rA n) 0 1=iI (Nw n).1):=by rw[Lc];rfl
 have hsg:((Nw n).1<0)=(n<0):=by grind[Nw]
 have hof:(rA n).length=2:=by rw[Lc];rfl
 have hnat:(n.natAbs:Int)=if n<0 then-n else n:=by omega
 have hab:n.natAbs<=128:=by omega
 rw[Lc]at h1 hneg hof⊢;generalize n.natAbs=a at h1 hnat hab;refine MX fL ?_
 (repeat' first|simp(disch:=omega)only[go_sem,simprocAttr]|refine Sx.s ?_ ?_<;>try(intro h;have h':=h;try simp only[HB]at h';try simp only[h])|refine Ab (h1) ?_|refine Ab (h3) ?_|refine Ab (h2) ?_|refine Aa ?_|(refine And.intro ?_ ?_;focus omega))
 refine AA [1,2,6,7] (by simp only[V0,G4,reduceIte,Nat.reduceEqDiff];rfl) (fun r:Nat=>[(8,wG r),(9,.i (iI ((a/2 ^ r:Nat):Int))),(10,.i (iI ((r:Int)-1)))]) Ld
  (fun r=>r<=128) (fun r=>r) 128 (by omega) (by simp[V0,Fz,GF,Ref.nm,wG,Ld,EO];omega) ?_
 intro r hr;have hz8:(8<=EO.length)=True:=eq_true (by decide);have hzt:(EO.map AN).take 8=EO.map AN:=rfl;cases r with
 |zero=>
  rw[show wG 0=.i (.sl (EO.map AN))from rfl,show Ld 0=[]from rfl,show(((0:Nat):Int)-1)=-1 from rfl]
  (repeat' first|simp(disch:=omega)only[go_sem,simprocAttr,Nat.pow_zero,Nat.div_one]|refine Sx.s ?_ ?_<;>try(intro h;have h':=h;try simp only[HB]at h';try simp only[h])|refine Ab (VY 0 (.inl rfl)) ?_|refine Ab (Q8 1 0) ?_|refine Ab (Q8 0 1) ?_|refine Aa ?_|refine Sz.s ?_|fail)
  ·exfalso;omega
  all_goals(refine congrArg (fun m=>I.tup [I.int .i64 m,I.bool true]) ?_;simp only[hsg]at*;by_cases hn0:n<0<;>simp_all<;>omega)
 |succ i=>
  have q1:(((i+1:Nat):Int)-1)=(i:Int):=by omega
  have q2:((i:Int)≥0)=True:=eq_true (by omega);have q3:(i:Int).tdiv 16=((i/16:Nat):Int):=by rfl
  have q4:(i:Int).tmod 16=((i%16:Nat):Int):=by rfl
  have q5:(((i/16:Nat):Int)<((CQ (a:Int)).length:Int))=True:=eq_true (by show((i/16:Nat):Int)<8;omega);have q6:=iD (a:Int) (i/16) (by omega);have q7:=iF a i hab (by omega);have q8:=iC a i;have q9:a/2 ^ (i+1)<=128:=Nat.le_trans (Nat.div_le_self _ _) hab;have qm:((a/2 ^ i%2:Nat):Int)=0\/((a/2 ^ i%2:Nat):Int)=1:=by omega
  have q10:∃b:Int,((a/2 ^ i%2:Nat):Int)=b/\(b=0\/b=1)/\((a/2 ^ i:Nat):Int)=2*((a/2 ^ (i+1):Nat):Int)+b:=⟨_,rfl,qm,by omega⟩;obtain⟨b,q11,q12,q13⟩:=q10;rw[q11]at q7;generalize hqq:((a/2 ^ (i+1):Nat):Int)=q at q13;have q14:0<=q/\q<=128:=by omega
  have q15:IntKind.i64.wrap (2*q)=2*q:=CE (by omega) (by omega);have q16:IntKind.i64.wrap (2*q+1)=2*q+1:=CE (by omega) (by omega);have c1:=VY (mx:=mx) b q12;have c2:=Q8 (mx:=mx) b 1;have e3:wG i=.i (.sl (EO.map AN)):=if_neg (by omega);have e4:Ld i=[]:=if_neg (by omega);by_cases h0:i+1=128
  ·have e1:wG (i+1)=.ref (.sl 20 1 0 8):=if_pos h0;have e2:Ld (i+1)=[(20,.rows 3 1 (EO.map AN))]:=if_pos h0;rw[e1,e2,q1];rcases q12 with rfl|rfl
   ·(repeat' first|simp(disch:=omega)only[go_sem,simprocAttr,q2,q3,q4,q5,q6,q7,q15,hz8,hzt,vO,IntKind.bits]|refine Sx.s ?_ ?_<;>try(intro h;have h':=h;try simp only[HB]at h';try simp only[h])|refine Ab (c1) ?_|refine Ab (c2) ?_|refine Aa ?_|refine Sz.s ?_|fail)
    ·exfalso;omega
    ·refine⟨i,by omega,by omega,⟨by rw[e3];try rfl,by rw[q13];try simp,rfl⟩,?_⟩;rw[e3,e4];simp[Fz,GF]
   ·(repeat' first|simp(disch:=omega)only[go_sem,simprocAttr,q2,q3,q4,q5,q6,q7,q15,q16,hz8,hzt,vO,IntKind.bits]|refine Sx.s ?_ ?_<;>try(intro h;have h':=h;try simp only[HB]at h';try simp only[h])|refine Ab (c1) ?_|refine Ab (c2) ?_|refine Ab (VZ) ?_|refine Aa ?_|refine Sz.s ?_|fail)
    ·exfalso;omega
    ·refine⟨i,by omega,by omega,⟨by rw[e3];try rfl,by rw[q13];try simp,rfl⟩,?_⟩;rw[e3,e4];simp[Fz,GF]
  ·have e1:wG (i+1)=.i (.sl (EO.map AN)):=if_neg h0;have e2:Ld (i+1)=[]:=if_neg h0;rw[e1,e2,q1];rcases q12 with rfl|rfl
   ·(repeat' first|simp(disch:=omega)only[go_sem,simprocAttr,q2,q3,q4,q5,q6,q7,q15,vO,IntKind.bits]|refine Sx.s ?_ ?_<;>try(intro h;have h':=h;try simp only[HB]at h';try simp only[h])|refine Ab (c1) ?_|refine Ab (c2) ?_|refine Aa ?_|refine Sz.s ?_|fail)
    ·exfalso;omega
    ·refine⟨i,by omega,by omega,⟨by rw[e3];try rfl,by rw[q13];try simp,rfl⟩,?_⟩;rw[e3,e4];simp[Fz,GF]
   ·(repeat' first|simp(disch:=omega)only[go_sem,simprocAttr,q2,q3,q4,q5,q6,q7,q15,q16,vO,IntKind.bits]|refine Sx.s ?_ ?_<;>try(intro h;have h':=h;try simp only[HB]at h';try simp only[h])|refine Ab (c1) ?_|refine Ab (c2) ?_|refine Ab (VZ) ?_|refine Aa ?_|refine Sz.s ?_|fail)
    ·exfalso;omega
    ·refine⟨i,by omega,by omega,⟨by rw[e3];try rfl,by rw[q13];try simp,rfl⟩,?_⟩;rw[e3,e4];simp[Fz,GF]
end
section
def eqL{α β:Type}(p:α->β->Bool):List α->List β->Bool
 |[],[]=>true
 |x::a,y::b=>p x y&&eqL p a b
 |_,_=>false
theorem eqL_len{α β:Type}{p:α->β->Bool}:∀{a:List α} {b:List β},a.length≠b.length->eqL p a b=false
 |[],[],h=>(h rfl).elim
 |[],_::_,_=>rfl
 |_::_,[],_=>rfl
 |x::a,y::b,h=>by simp only[eqL];rw[eqL_len (by simpa using h),Bool.and_false]
theorem Wc{α:Type}[DecidableEq α]{p:α->α->Bool}(hp:∀x y,p x y=decide (x=y)):∀a b:List α,eqL p a b=decide (a=b)
 |[],[]=>by simp[eqL]
 |[],_::_=>by simp[eqL]
 |_::_,[]=>by simp[eqL]
 |x::a,y::b=>by simp only[eqL,hp,Wc hp a b];rw[Bool.eq_iff_iff];simp
theorem EP{α:Type}[Inhabited α]{l:List α}{i:Nat}(h:i<l.length):l.drop i=l.getD i default::l.drop (i+1):=by simp_all
theorem F9{α β:Type}[Inhabited α][Inhabited β]{p:α->β->Bool}{a:List α}{b:List β}{i:Nat}{q:Bool}(h:q=eqL p (a.drop i) (b.drop i))(ha:i<a.length)(hb:i<b.length):
  q=(p (a.getD i default) (b.getD i default)&&eqL p (a.drop (i+1)) (b.drop (i+1))):=by
 rw[h,EP ha,EP hb,eqL]
theorem Ga{α β:Type}{p:α->β->Bool}{a:List α}{b:List β}{i:Nat}{q:Bool}(h:q=eqL p (a.drop i) (b.drop i))(ha:a.length<=i)(hb:b.length<=i):q=true:=by rw[h,List.drop_of_length_le ha,List.drop_of_length_le hb,eqL]
theorem HK{q c r:Bool}(h:q=(c&&r))(hc:(!c)=true):false=q:=by grind
theorem GN{q c r:Bool}(h:q=(c&&r))(hc:(!c)=false):q=r:=by grind
def Ev(x y:Fac):Bool:=x.name==y.name&&x.exp==y.exp
def I5(x y:Fid):Bool:=x.source==y.source&&x.seq==y.seq
def DO(x y:Val):Bool:=x.kind==y.kind&&(x.n==y.n&&x.s==y.s)
theorem iH(x y:Fac):Ev x y=decide (x=y):=by cases x;cases y;rw[Bool.eq_iff_iff];simp[Ev]
theorem Wd(a b:List Fac)(ha:a.length<=1073741824)(hb:b.length<=1073741824):Is mx 186 [.sl (a.map AC),.sl (b.map AC)] (.bool (eqL Ev a b)):=by
 refine MX dQ ?_
 (repeat' first|simp(disch:=omega)only[go_sem,simprocAttr]|refine Sx.s ?_ ?_<;>try(intro h;have h':=h;try simp only[HB]at h';try simp only[h])|refine Aa ?_|refine Sz.s ?_|fail)
 ·exact congrArg I.bool (eqL_len (by omega)).symm
 ·refine BP [0,1] (fun i=>[(5,.i (iI i))]) (fun _=>[]) (fun i=>eqL Ev a b=eqL Ev (a.drop i) (b.drop i)) a.length 0 (by omega) rfl ?_;intro i hi jb;by_cases ja:i<a.length
  ·have jz:i<b.length:=by omega
   have jk:=F9 jb ja jz;have hma:=AE ja;have z6:=AE jz
   (repeat' first|simp(disch:=omega)only[go_sem,simprocAttr,Ck ja,Ck jz]|refine Sx.s ?_ ?_<;>try(intro h;have h':=h;try simp only[HB]at h';try simp only[h])|refine Aa ?_|refine Am ?_|refine Sz.s ?_|(refine And.intro ?_ ?_;focus omega))
   ·exact congrArg I.bool (HK jk h)
   ·exact GN jk h
  ·(repeat' first|simp(disch:=omega)only[go_sem,simprocAttr,Ie ja]|refine Aa ?_|refine Sz.s ?_|fail)
   exact congrArg I.bool (Ga jb (by omega) (by omega)).symm
theorem Q9(a b:List Fid)(ha:a.length<=1073741824)(hb:b.length<=1073741824):Is mx 20 [.sl (a.map Ak),.sl (b.map Ak)] (.bool (eqL I5 a b)):=by
 refine MX yd ?_
 (repeat' first|simp(disch:=omega)only[go_sem,simprocAttr]|refine Sx.s ?_ ?_<;>try(intro h;have h':=h;try simp only[HB]at h';try simp only[h])|refine Aa ?_|refine Sz.s ?_|fail)
 ·exact congrArg I.bool (eqL_len (by omega)).symm
 ·refine BP [0,1] (fun i=>[(5,.i (iI i))]) (fun _=>[]) (fun i=>eqL I5 a b=eqL I5 (a.drop i) (b.drop i)) a.length 0 (by omega) rfl ?_;intro i hi jb;by_cases ja:i<a.length
  ·have jz:i<b.length:=by omega
   have jk:=F9 jb ja jz;have hma:=AE ja;have z6:=AE jz
   (repeat' first|simp(disch:=omega)only[go_sem,simprocAttr,Ck ja,Ck jz]|refine Sx.s ?_ ?_<;>try(intro h;have h':=h;try simp only[HB]at h';try simp only[h])|refine Aa ?_|refine Am ?_|refine Sz.s ?_|(refine And.intro ?_ ?_;focus omega))
   ·exact congrArg I.bool (HK jk h)
   ·exact GN jk h
  ·(repeat' first|simp(disch:=omega)only[go_sem,simprocAttr,Ie ja]|refine Aa ?_|refine Sz.s ?_|fail)
   exact congrArg I.bool (Ga jb (by omega) (by omega)).symm
theorem iJ(a b:List Val)(ha:a.length<=1073741824)(hb:b.length<=1073741824):Is mx 57 [.sl (a.map A9),.sl (b.map A9)] (.bool (eqL DO a b)):=by
 refine MX yI ?_
 (repeat' first|simp(disch:=omega)only[go_sem,simprocAttr]|refine Sx.s ?_ ?_<;>try(intro h;have h':=h;try simp only[HB]at h';try simp only[h])|refine Aa ?_|refine Sz.s ?_|fail)
 ·exact congrArg I.bool (eqL_len (by omega)).symm
 ·refine BP [0,1] (fun i=>[(5,.i (iI i))]) (fun _=>[]) (fun i=>eqL DO a b=eqL DO (a.drop i) (b.drop i)) a.length 0 (by omega) rfl ?_;intro i hi jb;by_cases ja:i<a.length
  ·have jz:i<b.length:=by omega
   have jk:=F9 jb ja jz;have hma:=AE ja;have z6:=AE jz
   (repeat' first|simp(disch:=omega)only[go_sem,simprocAttr,Ck ja,Ck jz]|refine Sx.s ?_ ?_<;>try(intro h;have h':=h;try simp only[HB]at h';try simp only[h])|refine Aa ?_|refine Am ?_|refine Sz.s ?_|(refine And.intro ?_ ?_;focus omega))
   ·exact congrArg I.bool (HK jk h)
   ·exact GN jk h
  ·(repeat' first|simp(disch:=omega)only[go_sem,simprocAttr,Ie ja]|refine Aa ?_|refine Sz.s ?_|fail)
   exact congrArg I.bool (Ga jb (by omega) (by omega)).symm
theorem iK(a b:List Val)(ha:a.length<=1073741824)(hb:b.length<=1073741824):Is mx 130 [.sl (a.map A9),.sl (b.map A9)] (.bool (eqL DO a b)):=by
 refine MX de ?_
 (repeat' first|simp(disch:=omega)only[go_sem,simprocAttr]|refine Sx.s ?_ ?_<;>try(intro h;have h':=h;try simp only[HB]at h';try simp only[h])|refine Aa ?_|refine Sz.s ?_|fail)
 ·exact congrArg I.bool (eqL_len (by omega)).symm
 ·refine BP [0,1] (fun i=>[(5,.i (iI i))]) (fun _=>[]) (fun i=>eqL DO a b=eqL DO (a.drop i) (b.drop i)) a.length 0 (by omega) rfl ?_;intro i hi jb;by_cases ja:i<a.length
  ·have jz:i<b.length:=by omega
   have jk:=F9 jb ja jz;have hma:=AE ja;have z6:=AE jz
   (repeat' first|simp(disch:=omega)only[go_sem,simprocAttr,Ck ja,Ck jz]|refine Sx.s ?_ ?_<;>try(intro h;have h':=h;try simp only[HB]at h';try simp only[h])|refine Aa ?_|refine Am ?_|refine Sz.s ?_|(refine And.intro ?_ ?_;focus omega))
   ·exact congrArg I.bool (HK jk h)
   ·exact GN jk h
  ·(repeat' first|simp(disch:=omega)only[go_sem,simprocAttr,Ie ja]|refine Aa ?_|refine Sz.s ?_|fail)
   exact congrArg I.bool (Ga jb (by omega) (by omega)).symm
def J9(a b:Typ):Bool:=decide (a.kind=b.kind)&&decide (a.of=b.of)&&eqL Ev a.unit b.unit
theorem We(a b:Typ)(ha:a.unit.length<=1073741824)(hb:b.unit.length<=1073741824):Is mx 131 [.agg (AM a),.agg (AM b)] (.bool (J9 a b)):=by
 refine MX df ?_
 (repeat' first|exact Al _|simp only[go_sem,simprocAttr]|refine' Ao (fun hq=>?_) (fun f=>?_)<;>try(have jc:=hq;try simp only[HB]at jc)|refine Ab (Wd _ _ ha hb) ?_|refine Sz.s ?_|fail)
 all_goals rfl
theorem OE{q g r:Bool}(h:q=(!g&&r))(hg:g=true):false=q:=by grind
theorem OF{q g r:Bool}(h:q=(!g&&r))(hg:g=false):q=r:=by grind
mutual
def YT:Xpr->Xpr->Bool
 |.mk k o n t v u p w a,y=>!(decide (k≠y.kind)||decide (o≠y.op)||decide (n≠y.name)||decide (t≠y.table)||!DO v y.val||decide (p≠y.param)||!(w.kind==y.win.kind&&w.size==y.win.size)||decide ((a.length:Int)≠y.args.length)||!eqL Ev u y.unit)&&eqXs a y.args
def eqXs:List Xpr->List Xpr->Bool
 |[],[]=>true
 |x::a,y::b=>YT x y&&eqXs a b
 |_,_=>false
end
theorem Wf:∀a b:List Xpr,eqXs a b=eqL YT a b
 |[],[]=>rfl
 |[],_::_=>rfl
 |_::_,[]=>rfl
 |x::a,y::b=>by simp only[eqXs,eqL,Wf a b]
theorem OG(x y:Xpr):YT x y=(!(decide (x.kind≠y.kind)||decide (x.op≠y.op)||decide (x.name≠y.name)||decide (x.table≠y.table)||!DO x.val y.val||decide (x.param≠y.param)||!(x.win.kind==y.win.kind&&x.win.size==y.win.size)||decide ((x.args.length:Int)≠y.args.length)||!eqL Ev x.unit y.unit)&&eqL YT x.args y.args):=by cases x;cases y;simp only[YT,Wf,Xpr.kind,Xpr.op,Xpr.name,Xpr.table,Xpr.val,Xpr.unit,Xpr.param,Xpr.win,Xpr.args];rfl
theorem iL:∀(m:Nat) (a b:Xpr),BT a<=m->bX a<=1073741824->bX b<=1073741824->Is mx 132 [.agg (eE a),.agg (eE b)] (.bool (YT a b)):=by
 intro m
 induction m with
 |zero=>intro a b h;have:=GJ a;omega
 |succ m ih=>
  intro a b hm hA hB;have hua:a.unit.length<=1073741824:=by grind[J6]
  have hub:b.unit.length<=1073741824:=by grind[J6]
  have hla:a.args.length<=1073741824:=by grind[Oq]
  have js:=F5 a;refine MX dh ?_
  (repeat' first|exact Al _|simp(disch:=omega)only[go_sem,simprocAttr]|refine' Ao (fun hq=>?_) (fun f=>?_)<;>try(have jc:=hq;try simp only[HB]at jc)|refine Sx.s ?_ ?_<;>try(intro h;have h':=h;try simp only[HB]at h';try simp only[h])|refine Ab (Wd _ _ hua hub) ?_|refine Aa ?_|refine Sz.s ?_|fail)
  ·exact congrArg I.bool (OE (OG a b) h)
  ·have je:a.args.length=b.args.length:=by omega
   rw[OF (OG a b) h];refine BP [2,3] (fun i=>[(5,.i (iI i))]) (fun _=>[]) (fun i=>eqL YT a.args b.args=eqL YT (a.args.drop i) (b.args.drop i)) a.args.length 0 (by omega) rfl ?_;intro i hi jb;by_cases ja:i<a.args.length
   ·have jz:i<b.args.length:=by omega
    have jk:=F9 jb ja jz;have h1:=ih (a.args.getD i default) (b.args.getD i default) (by have:=J5 a.args i ja;have:=HH a.args (i+1);rw[A7 ja];omega) (by have:=HJ (AE ja);omega) (by have:=HJ (AE jz);omega)
    (repeat' first|simp(disch:=omega)only[go_sem,simprocAttr,Ck ja,Ck jz]|refine Sx.s ?_ ?_<;>try(intro h;have h':=h;try simp only[HB]at h';try simp only[h])|refine Ab (h1) ?_|refine Aa ?_|refine Am ?_|refine Sz.s ?_|(refine And.intro ?_ ?_;focus omega))
    ·exact congrArg I.bool (HK jk h)
    ·exact GN jk h
   ·(repeat' first|simp(disch:=omega)only[go_sem,simprocAttr,Ie ja]|refine Aa ?_|refine Sz.s ?_|fail)
    exact congrArg I.bool (Ga jb (by omega) (by omega)).symm
end
section
theorem HL{α:Type}[Inhabited α]{p:α->Bool}:∀{l:List α} {i:Nat},(l.take i).all p=true->i<=l.length->(i=l.length\/p (l.getD i default)=false)->(l.takeWhile p).length=i
 |[],i,_,hi,_=>by simp_all
 |a::l,0,_,_,hs=>by simp_all
 |a::l,i+1,h,hi,hs=>by simp only[List.take_succ_cons,List.all_cons,Bool.and_eq_true]at h;rw[List.takeWhile_cons,if_pos h.1,List.length_cons,HL h.2 (by simpa using hi) (by simpa using hs)]
def cutS(l:List Bs)(s:Bs):Nat:=(l.takeWhile fun y=>Op.bytesLess y s).length
theorem iM(l:List Bs)(s:Bs):cutS l s<=l.length:=List.Sublist.length_le (List.takeWhile_sublist _)
def Cr(l:List Bs)(s:Bs):List Bs:=if cutS l s<l.length/\l.getD (cutS l s) default=s then l else l.take (cutS l s)++[s]++l.drop (cutS l s)
theorem Ra(l:List Bs)(s:Bs):(Cr l s).length<=l.length+1:=by grind[Cr]
abbrev Bn(s:Bs):List I:=[.str s]
theorem OH(l:List Bs):(∀r∈l.map Bn,r.length=1)=True:=eq_true (by simp)
theorem OI(l:List Bs):(∀r∈l.map Bn,r.all I.one=true)=True:=eq_true (by simp[I.one])
theorem MP(s:Bs):(∀r∈[[I.str s]],r.length=1)=True:=eq_true (by simp)
theorem MQ(s:Bs):(∀r∈[[I.str s]],r.all I.one=true)=True:=eq_true (by simp[I.one])
def EQ(out:List Bs):List Fac->List Bs
 |[]=>out
 |f::r=>EQ (Cr out f.name) r
def wH(b:Bool)(n:Nat):D:=if b=true then .ref (.sl 6 1 0 n)else .ref (.sl 3 1 0 n)
def wI(b:Bool)(l:List Bs):List (Nat×Blk):=if b=true then[(6,.rows 9 1 (l.map Bn)),(2,.rows 9 1 [])]else[(3,.rows 9 1 (l.map Bn)),(2,.rows 9 1 [])]
theorem iN(l:List Fac)(hl:l.length<=1000):Is mx 344 [.sl (l.map AC)] (.sl ((EQ [] l).map Bn)):=by
 refine MX fH ?_
 (repeat' first|simp(disch:=omega)only[go_sem,reduceCtorEq,Nat.reduceEqDiff]|fail)
 refine AA [0] (by simp only[V0,G4,reduceIte,Nat.reduceEqDiff];rfl) (fun g:Bool×Nat×List Bs=>[(3,wH g.1 g.2.2.length),(4,.i (iI g.2.1))]) (fun g=>wI g.1 g.2.2)
  (fun g=>g.2.1<=l.length/\EQ g.2.2 (l.drop g.2.1)=EQ [] l/\g.2.2.length<=g.2.1/\(g.1=false->g.2.2=[])) (fun g=>l.length-g.2.1) (false,0,[]) (by simp) (by simp[wH,wI,V0,Fz,GF,Ref.nm]) ?_
 rintro⟨b,i,out⟩ ⟨hi,hn,zS,hb⟩;simp only at hi hn zS hb;by_cases ja:i<l.length
 ·have kq:=iM out (l.getD i default).name;rw[EP ja,EQ]at hn;cases b
  ·obtain rfl:=hb rfl;have jp:Cr [] (l.getD i default).name=[(l.getD i default).name]:=by rfl
   rw[jp]at hn;simp only[wH,wI]
   (repeat' first|simp(disch:=omega)only[go_sem,reduceCtorEq,Nat.reduceEqDiff,Ck ja,if_true,if_false,Bool.false_eq_true]|refine Aa ?_|fail)
   refine AA [0,3,4] (by simp only[V0,G4,reduceIte,Nat.reduceEqDiff];rfl) (fun k:Nat=>[(5,.i (iI k))]) (fun _=>[(3,.rows 9 1 []),(2,.rows 9 1 [])])
    (fun k=>k=0) (fun k=>k) 0 rfl (by simp[V0,Fz,GF,Ref.nm]) ?_
   rintro k rfl
   (repeat' first|simp(disch:=omega)only[go_sem,reduceCtorEq,Int.reduceLE,Nat.reduceAdd,Nat.reduceMul,Nat.reduceEqDiff,Nat.reduceLeDiff,Ck ja,Nat.zero_add,Nat.sub_zero,List.length_nil,Int.lt_irrefl]|refine Aa ?_|refine Am ?_|(refine And.intro ?_ ?_;focus omega))
   refine⟨by simp,by simp,by simp,by simp[I.one],by simp,by simp,by simp,by simp,(true,i+1,[(l.getD i default).name]),⟨by show i+1<=_;omega,hn,by show 1<=i+1;omega,by simp⟩,by show l.length-(i+1)<_;omega,?_⟩;simp[V0,Fz,GF,Ref.nm]
  ·skip
   simp only[wH,wI]
   (repeat' first|simp(disch:=omega)only[go_sem,reduceCtorEq,Nat.reduceEqDiff,Ck ja,if_true,if_false]|refine Aa ?_|fail)
   refine AA [0,3,4] (by simp only[V0,G4,reduceIte,Nat.reduceEqDiff];rfl) (fun k:Nat=>[(5,.i (iI k))]) (fun _=>[(6,.rows 9 1 (out.map Bn)),(2,.rows 9 1 [])])
    (fun k=>k<=out.length/\(out.take k).all (fun y=>Op.bytesLess y (l.getD i default).name)=true) (fun k=>out.length-k) 0 (by simp) (by simp[V0,Fz,GF,Ref.nm]) ?_
   rintro k ⟨hk,jj⟩;by_cases jn:k<out.length
   ·cases km:Op.bytesLess (out.getD k default) (l.getD i default).name
    ·have kw:cutS out (l.getD i default).name=k:=HL jj hk (.inr km);by_cases wm:out.getD k default=(l.getD i default).name
     ·have jp:Cr out (l.getD i default).name=out:=if_pos (by rw[kw];exact⟨jn,wm⟩);rw[jp]at hn
      (repeat' first|simp(disch:=omega)only[go_sem,reduceCtorEq,Nat.reduceAdd,Nat.reduceEqDiff,Nat.reduceLeDiff,Ck ja,Ck jn,km,eq_true wm,Nat.zero_add,Nat.sub_zero]|refine Aa ?_|refine Am ?_|(refine And.intro ?_ ?_;focus omega))
      refine⟨(true,i+1,out),⟨by show i+1<=_;omega,hn,by show out.length<=i+1;omega,by simp⟩,by show l.length-(i+1)<_;omega,?_⟩;simp[V0,Fz,GF,Ref.nm]
     ·have jp:Cr out (l.getD i default).name=_:=if_neg (by rw[kw];rintro⟨_,h⟩;exact wm h);rw[kw]at jp;rw[jp]at hn;have wh:min k out.length=k:=by omega
      have hleT:(k<=out.length)=True:=eq_true (by omega)
      (repeat' first|simp(disch:=omega)only[go_sem,reduceCtorEq,Int.reduceLE,Nat.reduceAdd,Nat.reduceEqDiff,Nat.reduceLeDiff,Ck ja,Ck jn,km,eq_false wm,<-List.map_take,<-List.map_drop,OH,OI,MP,MQ,List.length_map,List.length_take,List.length_drop,Nat.zero_add,Nat.sub_zero,Nat.min_self,List.take_length,List.take_take,wh]|refine Aa ?_|refine Am ?_|(refine And.intro ?_ ?_;focus omega))
      refine⟨(true,i+1,out.take k++[(l.getD i default).name]++out.drop k),⟨by show i+1<=_;omega,hn,by simp;omega,by simp⟩,by show l.length-(i+1)<_;omega,?_⟩;have je:(out.take k++[(l.getD i default).name]++out.drop k).length=k+1+(out.length-k):=by simp;omega
      simp[V0,Fz,GF,Ref.nm,wh];refine⟨by omega,?_⟩;rw[List.take_of_length_le (by simp;omega),List.append_assoc];rfl
    ·(repeat' first|simp(disch:=omega)only[go_sem,reduceCtorEq,Nat.reduceAdd,Nat.reduceEqDiff,Nat.reduceLeDiff,Ck ja,Ck jn,km,Nat.zero_add,Nat.sub_zero]|refine Aa ?_|refine Am ?_|(refine And.intro ?_ ?_;focus omega))
     exact⟨k+1,⟨by omega,BO (d:=default) jj jn km⟩,by omega,rfl⟩
   ·have kw:cutS out (l.getD i default).name=k:=HL jj hk (.inl (by omega));have jp:Cr out (l.getD i default).name=_:=if_neg (by rw[kw];omega);rw[kw]at jp;rw[jp]at hn;have wh:min k out.length=k:=by omega
    have hleT:(k<=out.length)=True:=eq_true (by omega)
    (repeat' first|simp(disch:=omega)only[go_sem,reduceCtorEq,Int.reduceLE,Nat.reduceAdd,Nat.reduceEqDiff,Nat.reduceLeDiff,Ck ja,Ie jn,<-List.map_take,<-List.map_drop,OH,OI,MP,MQ,List.length_map,List.length_take,List.length_drop,Nat.zero_add,Nat.sub_zero,Nat.min_self,List.take_length,List.take_take,wh]|refine Aa ?_|refine Am ?_|(refine And.intro ?_ ?_;focus omega))
    refine⟨(true,i+1,out.take k++[(l.getD i default).name]++out.drop k),⟨by show i+1<=_;omega,hn,by simp;omega,by simp⟩,by show l.length-(i+1)<_;omega,?_⟩;have je:(out.take k++[(l.getD i default).name]++out.drop k).length=k+1+(out.length-k):=by simp;omega
    simp[V0,Fz,GF,Ref.nm,wh];refine⟨by omega,?_⟩;rw[List.take_of_length_le (by simp;omega),List.append_assoc];rfl
 ·have e:i=l.length:=by omega
  rw[e,List.drop_length,EQ]at hn;cases b
  ·obtain rfl:=hb rfl;simp only[wH,wI]
   (repeat' first|simp(disch:=omega)only[go_sem,reduceCtorEq,Nat.reduceEqDiff,Ie ja,if_true,if_false,Bool.false_eq_true]|refine Aa ?_|refine CD (R:=Sf _) ?_|fail)
   rw[<-hn];rfl
  ·simp only[wH,wI];have ji:(out.length<=out.length)=True:=eq_true (by omega);have kj:(out.map Bn).take out.length=out.map Bn:=List.take_of_length_le (by simp)
   (repeat' first|simp(disch:=omega)only[go_sem,reduceCtorEq,Nat.reduceEqDiff,Ie ja,if_true,if_false,ji,kj]|refine Aa ?_|refine CD (R:=Sf _) ?_|fail)
   rw[hn]
end
section
theorem BH{α:Type}{f:α->List I}{k:Nat}(l:List α)(h1:∀x,(f x).length=k)(h2:∀x,(f x).all I.one=true):(∀r∈l.map f,r.length=k)/\∀r∈l.map f,r.all I.one=true:=by grind
def OJ(a b:List Fac)(sign:Int):List Fac×Int:=
 if Bv a≠0 then([],Bv a)else if Bv b≠0 then([],Bv b)
 else gO (a++b.map fun f=>⟨f.name,sign*f.exp⟩)
theorem Wg:∀(u:List Fac) (p:Option Bs),uc p u=0->∀f∈u,(f.exp≠0/\-8<=f.exp/\f.exp<=8)/\BA f.name=true
 |[],_,_,f,hf=>by simp at hf
 |g::r,p,h,f,hf=>by
  unfold uc at h;by_cases h1:(!BA g.name)=true
  ·rw[if_pos h1]at h;simp at h
  by_cases h2:(decide (g.exp=0)||decide (g.exp>8\/g.exp< -8))=true
  ·rw[if_neg h1,if_pos h2]at h;simp at h
  rw[if_neg h1,if_neg h2]at h;rcases List.mem_cons.1 hf with e|e
  ·subst e;simp only[Bool.or_eq_true,decide_eq_true_eq]at h2;exact⟨by omega,by simpa using h1⟩
  ·have h3:uc (some g.name) r=0:=by
    split at h
    ·split at h<;>first|(simp at h;done)|exact h
    ·split at h<;>first|(simp at h;done)|exact h
   exact Wg r _ h3 f e
theorem Rb{u:List Fac}(h:Bv u=0):u.length<=4/\∀f∈u,(f.exp≠0/\-8<=f.exp/\f.exp<=8)/\BA f.name=true:=by
 unfold Bv at h;split at h
 ·simp at h
 ·exact⟨by omega,Wg u none h⟩
end
section
theorem iO(p:Fld->Bool)(l:List Fld)(f:Nat)(fs cs:List I)(hl:l.length<=1073741824)(hp:∀x∈l,Is mx f (fs++[.agg (BN x)]++cs) (.bool (p x))):
  Is mx 206 [.sl (l.map BN),.fn f fs cs] (iI (CG p l)):=by
 refine MX dS ?_
 (repeat' first|simp(disch:=omega)only[go_sem,simprocAttr]|fail)
 refine BP [0,1,7] (fun i=>[(8,.i (iI i))]) (fun _=>[]) (fun i=>∀j (h:j<l.length),j<i->p l[j]=false) l.length 0 (by omega) (by simp) ?_;intro i hi jb
 (repeat' first|simp(disch:=omega)only[go_sem,simprocAttr]|refine Sx.s ?_ ?_<;>try(intro h;have h':=h;try simp only[HB]at h';try simp only[h])|refine Ab (hp (l.getD i default) (AE (by omega))) ?_|refine Aa ?_|refine D2 ?_ ?_|refine Sz.s ?_|(refine And.intro ?_ ?_;focus omega))
 ·refine congrArg (I.int .i64) ?_;exact(MB (by omega) (by rw[<-A7 (by omega)];assumption) jb).symm
 ·intro j hj hji;by_cases e:j=i
  ·subst e;rw[<-A7 hj];assumption
  ·exact jb j hj (by omega)
 ·refine congrArg (I.int .i64) ?_;exact(MD fun j hj=>jb j hj (by omega)).symm
theorem iP{α:Type}[Inhabited α](p:α->Bool)(l:List α):(CG p l<0/\l.find? p=none)\/(0<=CG p l/\(CG p l).toNat<l.length/\l.find? p=some (l.getD (CG p l).toNat default)):=by
 unfold CG;cases h:l.findIdx? p with
 |none=>grind
 |some i=>refine .inr ⟨by simp,?_⟩;obtain⟨hi,hp,hn⟩:=List.findIdx?_eq_some_iff_getElem.1 h;refine⟨by simpa using hi,?_⟩;simp only[Int.toNat_natCast,A7 hi];rw[List.find?_eq_some_iff_getElem];grind
abbrev iQ(c:Cat)(ent:Bs)(fld:I):List I:=[.sl (c.tables.map AP),.sl (c.features.map At),.sl (c.drafts.map At),.sl (c.past.map At),.str ent,fld]
attribute [go_sem] iQ
def Gb(fs:List Ftr)(name ent:Bs):Typ×Int:=match fs.find? (fun f=>decide (f.name=name))with
 |none=>(AO,4)
 |some f=>if f.entity≠ent then(AO,5)else(f.typ,0)
def I6(t:Tbl)(name:Bs):Typ×Int:=match t.fields.find? (fun f=>decide (f.name=name))with
 |none=>(AO,4)
 |some f=>(f.typ,0)
end
section
abbrev Ka:Typ:=⟨1,[],[]⟩
def Rc:Bs:=[100,105,115,116,105,110,99,116]
def iR:Bs:=[102,105,114,115,116]
def iS:Bs:=[108,97,115,116]
def Wh:Bs:=[109,105,110]
def Wi:Bs:=[109,97,120]
def OK:Bs:=[109,101,97,110]
def OL:Bs:=[45]
def iT:Bs:=[110,117,108,108]
def Re:Bs:=[110,111,116]
def iU(op:Bs)(a b:Typ):Typ×Int:=
 if b.kind≠1 then(AO,5)else if op=MH\/op=Rc then(⟨2,[],[]⟩,0)else if op=iR\/op=iS then(a,0)
 else if(op=Wh\/op=Wi)/\a.kind=4 then(a,0)else if C7 a=false then(AO,5)else if op=OK\/op=I3 then(⟨3,a.unit,[]⟩,0)else(a,0)
def iV(op:Bs)(a:Typ):Typ×Int:=
 if op=OL/\C7 a=true then(a,0)else if op=iT\/(op=Re/\a.kind=1)then(Ka,0)else(AO,5)
def iX(op:Bs)(a b:Typ):Typ×Int:=
 if op=[97,110,100]\/op=[111,114]then(if a.kind=1/\b.kind=1 then(Ka,0)else(AO,5))
 else if op=[61,61]\/op=[33,61]\/op=[60]\/op=[60,61]then
  (if(C7 a&&C7 b)=true/\a.unit≠b.unit then(AO,70)
   else if(C7 a&&C7 b)=true\/(if op=[60]\/op=[60,61]then a.kind=4/\b.kind=4 else a.kind=b.kind/\a.of=b.of/\a.unit=b.unit)then(Ka,0)else(AO,5))
 else if(C7 a&&C7 b)=false then(AO,5)
 else if op=[42]then(if(OJ a.unit b.unit 1).2≠0 then(AO,70)else(⟨max a.kind b.kind,(OJ a.unit b.unit 1).1,[]⟩,0))
 else if op=[47]then(if(OJ a.unit b.unit (-1)).2≠0 then(AO,70)else(⟨3,(OJ a.unit b.unit (-1)).1,[]⟩,0))
 else if(op=[43]\/op=[45])/\a.unit≠b.unit then(AO,70)else(⟨max a.kind b.kind,a.unit,[]⟩,0)
end
section

end
section
def Wj(c:Cat)(ent:Bs)(t:Option Tbl)(x:Xpr)(l:List Typ):Typ×Int:=
 if x.kind=1 then(⟨x.val.kind,x.unit,x.name⟩,0)
 else if x.kind=2 then(match t with|some t=>I6 t x.name|none=>(AO,0))
 else if x.kind=3 then Gb c.features x.name ent
 else if x.kind=4 then(if(l.getD 0 default).kind≠5 then(AO,5)else Gb c.features x.name (l.getD 0 default).of)
 else if x.kind=5 then iU x.op (l.getD 0 default) (l.getD 1 default)
 else if x.kind=6 then iV x.op (l.getD 0 default)
 else if x.kind=7 then iX x.op (l.getD 0 default) (l.getD 1 default)
 else if x.kind=8 then(if(l.getD 0 default).kind≠1 then(AO,5)else Vx (l.getD 1 default) (l.getD 2 default))
 else Vx (l.getD 0 default) (l.getD 1 default)
def iY(c:Cat)(ent:Bs)(x:Xpr):Except Int Tbl:=match c.tables.find? (fun t=>decide (t.name=x.table))with
 |none=>.error 4
 |some t=>if t.entity≠ent then .error 5 else .ok t
mutual
def iZ(c:Cat)(ent:Bs):Option Tbl->Xpr->Typ×Int
 |t,.mk k o n tb v u p w a=>
  if k=5 then match iY c ent (.mk k o n tb v u p w a)with
   |.error e=>(AO,e)
   |.ok t'=>match inferXs c ent (some t') a with
    |.error e=>(AO,e)
    |.ok l=>Wj c ent t (.mk k o n tb v u p w a) l
  else match inferXs c ent t a with
    |.error e=>(AO,e)
    |.ok l=>Wj c ent t (.mk k o n tb v u p w a) l
def inferXs(c:Cat)(ent:Bs):Option Tbl->List Xpr->Except Int (List Typ)
 |_,[]=>.ok []
 |t,x::r=>let y:=iZ c ent t x
  if y.2≠0 then .error y.2 else match inferXs c ent t r with
   |.error e=>.error e
   |.ok l=>.ok (y.1::l)
end
end
section
def uB(t:Typ):Prop:=t.unit.length<=1073741824
end
section

end
section
theorem OM(a b:List Fac)(ha:a.length<=1073741824)(hb:b.length<=1073741824):Is mx 270 [.sl (a.map AC),.sl (b.map AC)] (.bool (decide (a=b))):=by
 refine MX eW ?_
 (repeat' first|simp(disch:=omega)only[go_sem,simprocAttr]|refine Sx.s ?_ ?_<;>try(intro h;have h':=h;try simp only[HB]at h';try rewrite [h];try simp only[h])|refine Aa ?_|refine Sz.s ?_|fail)
 ·refine congrArg I.bool ?_;have:a≠b:=fun e=>by grind
  simp[this]
 ·refine BP [0,1] (fun i=>[(5,.i (iI i))]) (fun _=>[]) (fun i=>a.take i=b.take i) a.length 0 (by omega) (by simp) ?_;intro i hi jb;by_cases ja:i<a.length
  ·have jz:i<b.length:=by omega
   (repeat' first|simp(disch:=omega)only[go_sem,simprocAttr,Ck ja]|refine Sx.s ?_ ?_<;>try(intro h;have h':=h;try simp only[HB]at h';try rewrite [h];try simp only[h])|refine Aa ?_|refine Am ?_|refine Sz.s ?_|(refine And.intro ?_ ?_;focus omega))
   ·refine congrArg I.bool ?_;have:a≠b:=fun e=>by grind
    simp[this]
   ·refine fV jb ja jz ?_;simp only[Bool.not_eq_false',Bool.and_eq_true,beq_iff_eq]at h;simp only[A7 ja,A7 jz]at h;exact fW h.1 h.2
  ·(repeat' first|simp(disch:=omega)only[go_sem,simprocAttr,Ie ja]|refine Aa ?_|refine Sz.s ?_|fail)
   refine congrArg I.bool ?_;have e:i=a.length:=by omega
   rw[e]at jb;rw[List.take_length,List.take_of_length_le (by omega)]at jb;simp[jb]
end
section
def I7:List Fld->List Fld->Int
 |_,[]=>0
 |seen,f::r=>if(!Dg f.name)=true then 3 else if(seen.any fun g=>decide (g.name=f.name))=true then 121 else if J3 f.typ≠0 then J3 f.typ else I7 (seen++[f]) r
def Kb(t:Tbl):Int:=
 if(!Dg t.name||!Dg t.entity||decide (t.keep<0)||decide (1099511627776<t.keep))=true then 3 else if 8<t.fields.length then 2 else I7 [] t.fields
theorem i6(g:Fld)(f0:List I)(name:Bs)(h0:f0.length=4)(hn:f0.getD 0 .undef=.str name):Is mx 162 [.agg (BN g),.elt f0 0] (.bool (decide (g.name=name))):=by
 refine MX dt ?_;have e1:pk false f0 0 1=.str name:=by grind[pk]
 (repeat' first|simp(disch:=omega)only[go_sem,simprocAttr,h0,e1]|refine Sz.s ?_|fail)
theorem i7(p:Fld->Bool)(l:List Fld)(fn:Nat)(fs cs:List I)(hl:l.length<=1073741824)(hp:∀x∈l,Is mx fn (fs++[.agg (BN x)]++cs) (.bool (p x))):
  Is mx 161 [.sl (l.map BN),.fn fn fs cs] (.bool (l.any p)):=by
 refine MX dq ?_
 (repeat' first|simp(disch:=omega)only[go_sem,simprocAttr]|refine Sx.s ?_ ?_<;>try(intro h;have h':=h;try simp only[HB]at h';try rewrite [h];try simp only[h])|refine Ab (iO p _ _ _ _ hl hp) ?_|refine Sz.s ?_|fail)
 refine congrArg I.bool ?_;have:=@Vv _ p l;rw[Bool.eq_iff_iff];simpa using this
theorem i8(t:Tbl)(ht:∀x∈t.fields,uB x.typ)(hl:t.fields.length<=1073741824):Is mx 117 [.agg (AP t)] (iI (Kb t)):=by
 refine MX cX ?_
 (repeat' first|exact Al _|simp(disch:=omega)only[go_sem,simprocAttr]|refine' Ao (fun hq=>?_) (fun f=>?_)<;>try(have jc:=hq;try simp only[HB]at jc)|refine Sx.s ?_ ?_<;>try(intro h;have h':=h;try simp only[HB]at h';try rewrite [h];try simp only[h])|refine Ab (K5 _) ?_|refine Aa ?_|refine Sz.s ?_|fail)
 ·refine congrArg (I.int .i64) ?_;simp only[Kb];grind
 ·refine congrArg (I.int .i64) ?_;simp only[Kb];grind
 have hT:Kb t=I7 [] t.fields:=by grind[Kb]
 rw[hT];refine BP [1,31,32] (fun i=>[(33,.i (iI i))]) (fun _=>[]) (fun i=>I7 (t.fields.take i) (t.fields.drop i)=I7 [] t.fields) t.fields.length 0 (by omega) (by simp) ?_;intro i hi jb;by_cases ja:i<t.fields.length
 ·have kh:=AE ja;rw[List.drop_eq_getElem_cons ja,<-A7 ja]at jb;simp only[I7]at jb;have kj:t.fields.take (i+1)=t.fields.take i++[t.fields.getD i default]:=by simp_all
  generalize hg:t.fields.getD i default=g at jb kh kj;have hA:=i7 (mx:=mx) (fun y=>decide (y.name=g.name)) (t.fields.take i) 162 [] [.elt (BN g) 0] (by simp;omega) (fun y _=>i6 y (BN g) g.name rfl rfl);have hr:(∀r∈t.fields.map BN,r.length=4)=True:=eq_true (BH (f:=BN) (k:=4) t.fields (fun _=>rfl) (fun _=>rfl)).1;have ji:((i:Int)<=(t.fields.length:Int))=True:=eq_true (by omega);have hmt:List.take i (List.map BN t.fields)=List.map BN (List.take i t.fields):=List.map_take.symm
  (repeat' first|simp(disch:=omega)only[go_sem,simprocAttr,Ck ja,hg,hr,ji,hmt]|refine Sx.s ?_ ?_<;>try(intro h;have h':=h;try simp only[HB]at h';try rewrite [h];try simp only[h])|refine Ab (K5 _) ?_|refine Ab (hA) ?_|refine Ab (gg g.typ (ht g kh)) ?_|refine Aa ?_|refine Sz.s ?_|(refine And.intro ?_ ?_;focus omega))
  ·refine congrArg (I.int .i64) ?_;grind
  ·refine congrArg (I.int .i64) ?_;grind
  ·refine congrArg (I.int .i64) ?_;grind
  ·rw[kj];grind
 ·have e:i=t.fields.length:=by omega
  subst e;rw[List.drop_length]at jb
  (repeat' first|simp(disch:=omega)only[go_sem,simprocAttr,Ie ja]|refine Aa ?_|refine Sz.s ?_|fail)
  rw[<-jb];rfl
end
section
def dg(b:UInt8):Bool:=decide (48<=b.toNat/\b.toNat<=57)
theorem Le(b:UInt8):Is mx 227 [.int .u8 (b.toNat:Int)] (.bool (lc b)):=by
 refine MX ei ?_
 (repeat' first|exact Al _|simp only[go_sem,simprocAttr]|refine' Ao (fun hq=>?_) (fun f=>?_)<;>try(have jc:=hq;try simp only[HB]at jc)|refine Sz.s ?_|fail)
 refine congrArg I.bool ?_;rw[Bool.eq_iff_iff];simp[lc];omega
theorem Rf(b:UInt8):Is mx 228 [.int .u8 (b.toNat:Int)] (.bool (dg b)):=by
 refine MX el ?_
 (repeat' first|exact Al _|simp only[go_sem,simprocAttr]|refine' Ao (fun hq=>?_) (fun f=>?_)<;>try(have jc:=hq;try simp only[HB]at jc)|refine Sz.s ?_|fail)
 refine congrArg I.bool ?_;rw[Bool.eq_iff_iff];simp[dg];omega
def rk(b:UInt8):Bool:=lc b||dg b||decide (b.toNat=95)
def GO:Bs->Nat
 |[]=>0
 |c::r=>if lc c=true then 1+(r.takeWhile rk).length else 0
theorem i9(s:Bs)(at0:Nat)(hs:s.length<=1073741824)(ha:at0<s.length):Is mx 173 [.sl (rowsB s),iI at0] (iI (GO (s.drop at0))):=by
 refine MX dB ?_;have hd:s.drop at0=s.getD at0 default::s.drop (at0+1):=by simp_all
 have jl:=Ck ha
 (repeat' first|simp(disch:=omega)only[go_sem,simprocAttr,rowsB,jl]|refine Sx.s ?_ ?_<;>try(intro h;have h':=h;try simp only[HB]at h';try rewrite [h];try simp only[h])|refine Ab (Le (s.getD at0 default)) ?_|refine Aa ?_|refine Sz.s ?_|fail)
 ·refine congrArg (I.int .i64) ?_;rw[hd];simp only[GO,h'];rfl
 have h'0:lc (s.getD at0 default)=true:=h';refine QK [0,1] (fun n:Nat=>[(5,.i (iI n))]) (fun _=>[]) (fun n=>1<=n/\at0+n<=s.length/\1+((s.drop (at0+1)).takeWhile rk).length=n+((s.drop (at0+n)).takeWhile rk).length) (fun n=>s.length-n) 1 ⟨by omega,by omega,rfl⟩ ?_;rintro n ⟨h1,h2,h3⟩;have e1:((at0:Int)+(n:Int)).toNat=at0+n:=by omega
 by_cases hn:at0+n<s.length
 ·have hl:((at0:Int)+(n:Int)<(s.length:Int))=True:=eq_true (by omega);have hd2:s.drop (at0+n)=s.getD (at0+n) default::s.drop (at0+n+1):=by simp_all
  rw[hd2,List.takeWhile_cons]at h3;generalize hb:s.getD (at0+n) default=b at h3;have j6:rk b=true->∃i',(1<=i'/\at0+i'<=s.length/\1+((s.drop (at0+1)).takeWhile rk).length=i'+((s.drop (at0+i')).takeWhile rk).length)/\s.length-i'<s.length-n/\D.i (I.int .i64 ((n:Int)+1))=D.i (iI i'):=fun hw=>by rw[if_pos hw]at h3;refine⟨n+1,⟨by omega,by omega,?_⟩,by omega,rfl⟩;grind
  have qa:rk b=false->(n:Int)=(GO (s.drop at0):Nat):=fun hw=>by grind[GO]
  have h95:((b.toNat:Int)=95)=(b.toNat=95):=by grind
  cases zO:lc b<;>cases qx:dg b
  ·by_cases hc3:b.toNat=95
   ·(repeat' first|simp(disch:=omega)only[go_sem,simprocAttr,e1,hl,hb,zO,qx,h95,eq_true hc3]|refine Sx.s ?_ ?_<;>try(intro h;have h':=h;try simp only[HB]at h';try rewrite [h];try simp only[h])|refine Ab (Le b) ?_|refine Ab (Rf b) ?_|refine Aa ?_|(refine And.intro ?_ ?_;focus omega))
    exact j6 (by simp[rk,zO,qx,hc3])
   ·(repeat' first|simp(disch:=omega)only[go_sem,simprocAttr,e1,hl,hb,zO,qx,h95,eq_false hc3]|refine Sx.s ?_ ?_<;>try(intro h;have h':=h;try simp only[HB]at h';try rewrite [h];try simp only[h])|refine Ab (Le b) ?_|refine Ab (Rf b) ?_|refine Aa ?_|refine Sz.s ?_|(refine And.intro ?_ ?_;focus omega))
    exact congrArg (I.int .i64) (qa (by simp[rk,zO,qx,hc3]))
  ·(repeat' first|simp(disch:=omega)only[go_sem,simprocAttr,e1,hl,hb,zO,qx]|refine Sx.s ?_ ?_<;>try(intro h;have h':=h;try simp only[HB]at h';try rewrite [h];try simp only[h])|refine Ab (Le b) ?_|refine Ab (Rf b) ?_|refine Aa ?_|(refine And.intro ?_ ?_;focus omega))
   exact j6 (by simp[rk,zO,qx])
  ·(repeat' first|simp(disch:=omega)only[go_sem,simprocAttr,e1,hl,hb,zO]|refine Sx.s ?_ ?_<;>try(intro h;have h':=h;try simp only[HB]at h';try rewrite [h];try simp only[h])|refine Ab (Le b) ?_|refine Aa ?_|(refine And.intro ?_ ?_;focus omega))
   exact j6 (by simp[rk,zO,qx])
  ·(repeat' first|simp(disch:=omega)only[go_sem,simprocAttr,e1,hl,hb,zO]|refine Sx.s ?_ ?_<;>try(intro h;have h':=h;try simp only[HB]at h';try rewrite [h];try simp only[h])|refine Ab (Le b) ?_|refine Aa ?_|(refine And.intro ?_ ?_;focus omega))
   exact j6 (by simp[rk,zO,qx])
 ·have hl:((at0:Int)+(n:Int)<(s.length:Int))=False:=eq_false (by omega)
  (repeat' first|simp(disch:=omega)only[go_sem,simprocAttr,hl]|refine Aa ?_|refine Sz.s ?_|fail)
  refine congrArg (I.int .i64) ?_;have:s.drop (at0+n)=[]:=List.drop_eq_nil_of_le (by omega);rw[this]at h3;rw[hd];simp only[GO];rw[if_pos h'0];simp at h3;omega
end
section
def ON:List Bs:=[[116,97,98,108,101],[102,101,97,116,117,114,101],[111,102],[107,101,101,112],[98,111,111,108],[116,101,120,116],[107,101,121],[105,110,116],[100,101,99],[105,102],[116,104,101,110],[101,108,115,101],[100,101,102,97,117,108,116],[111,114],[97,110,100],[110,111,116],[116,114,117,101],[102,97,108,115,101],[110,117,108,108],[99,111,117,110,116],[115,117,109],[109,101,97,110],[109,105,110],[109,97,120],[102,105,114,115,116],[108,97,115,116],[100,105,115,116,105,110,99,116],[113,117,97,110,116,105,108,101],[100,101,99,97,121],[97,108,108],[115,108,105,100,105,110,103],[116,117,109,98,108,105,110,103],[115,101,115,115,105,111,110],[119,104,101,114,101]]
def OO(s:Bs):Bool:=ON.any fun k=>decide (s=k)
theorem jA(s:Bs):Is mx 174 [.str s] (.bool (OO s)):=by
 refine MX dC ?_
 (repeat' first|simp(disch:=omega)only[go_sem,simprocAttr]|refine Sx.s ?_ ?_<;>try(intro h;have h':=h;try simp only[HB]at h';try rewrite [h];try simp only[h])|refine Aa ?_|refine Sz.s ?_|fail)
 all_goals(refine congrArg I.bool ?_;simp[OO,ON, *])
end
section
def CH(s:Bs):Bool:=decide (s≠[])&&decide (s.length<=24)&&decide (GO s=s.length)&&!OO s
theorem GP(s:Bs):Is mx 125 [.str s] (.bool (CH s)):=by
 refine MX db ?_;by_cases h0:s=[]
 ·subst h0
  (repeat' first|simp(maxSteps:=9999999) (decide:=true) (disch:=omega)only[go_sem,simprocAttr]|refine Sz.s ?_|fail)
  rfl
 ·have jy:0<s.length:=by cases s;exact(h0 rfl).elim;simp
  by_cases h1:s.length<=24
  ·have hw:=i9 (mx:=mx) s 0 (by omega) jy;simp only[List.drop_zero]at hw;have ji:((s.length:Int)<=24)=True:=eq_true (by omega);have hz:decide (((GO s:Nat):Int)=(s.length:Int))=decide (GO s=s.length):=by grind
   (repeat' first|exact Al _|simp(disch:=omega)only[go_sem,simprocAttr,eq_false h0,ji,hz,ne_eq,not_false_eq_true]|refine' Ao (fun hq=>?_) (fun f=>?_)<;>try(have jc:=hq;try simp only[HB]at jc)|refine Sx.s ?_ ?_<;>try(intro h;have h':=h;try simp only[HB]at h';try rewrite [h];try simp only[h])|refine Ab (jA _) ?_|refine Ab (hw) ?_|refine Sz.s ?_|fail)
   all_goals(refine congrArg I.bool ?_;simp[CH,h0,h1])
  ·have ji:((s.length:Int)<=24)=False:=eq_false (by omega)
   (repeat' first|simp(disch:=omega)only[go_sem,simprocAttr,eq_false h0,ji,ne_eq,not_false_eq_true]|refine Sz.s ?_|fail)
   all_goals(refine congrArg I.bool ?_;simp[CH,h0,h1])
end
section
theorem Wk(n:Int):Is mx 300 [iI n] (.bool (MK n)):=by
 refine MX fc ?_
 (repeat' first|exact Al _|simp(disch:=omega)only[go_sem,simprocAttr]|refine' Ao (fun hq=>?_) (fun f=>?_)<;>try(have jc:=hq;try simp only[HB]at jc)|refine Sz.s ?_|fail)
 refine congrArg I.bool ?_;rw[Bool.eq_iff_iff];simp[MK]
theorem Wl(s:Bs)(hs:s.length<=1073741824):Is mx 299 [.str s] (.bool (BA s)):=by
 refine MX fb ?_
 (repeat' first|exact Al _|simp(disch:=omega)only[go_sem,simprocAttr]|refine' Ao (fun hq=>?_) (fun f=>?_)<;>try(have jc:=hq;try simp only[HB]at jc)|refine Sx.s ?_ ?_<;>try(intro h;have h':=h;try simp only[HB]at h';try rewrite [h];try simp only[h])|refine Aa ?_|refine Sz.s ?_|(refine And.intro ?_ ?_;focus omega))
 ·refine congrArg I.bool ?_;have e:(decide (s≠[])&&decide (s.length<=24)&&lc (s.getD 0 0))=false:=by grind[lc]
  simp only[BA,e,Bool.false_and]
 ·have w0:BA s=s.all wc:=by
   have e1:lc (s.getD 0 0)=true:=by grind[lc]
   have e2:s≠[]:=fun e=>by grind
   have e3:s.length<=24:=by omega
   simp_all[BA,e1,e2,e3]
  refine BP [0] (fun i=>[(3,.i (iI i))]) (fun _=>[]) (fun i=>(s.take i).all wc=true) s.length 0 (by omega) (by simp) ?_;intro i hi jb;by_cases ja:i<s.length
  ·(repeat' first|exact Al _|simp(disch:=omega)only[go_sem,simprocAttr,Ck ja]|refine' Ao (fun hq=>?_) (fun f=>?_)<;>try(have jc:=hq;try simp only[HB]at jc)|refine Sx.s ?_ ?_<;>try(intro h;have h':=h;try simp only[HB]at h';try rewrite [h];try simp only[h])|refine Aa ?_|refine Sz.s ?_|(refine And.intro ?_ ?_;focus omega))
   ·refine congrArg I.bool ?_;rw[w0];exact(QC (d:=0) (i:=i) (by omega) (by simp only[wc,decide_eq_false_iff_not];grind)).symm
   ·exact BO (d:=0) jb (by omega) (by simp only[wc,decide_eq_true_eq];grind)
  ·(repeat' first|simp(disch:=omega)only[go_sem,simprocAttr,Ie ja]|refine Aa ?_|refine Sz.s ?_|fail)
   refine congrArg I.bool ?_;rw[w0];have e:i=s.length:=by omega
   rw[e,List.take_length]at jb;exact jb.symm
end
section
theorem MR(u:List Fac)(hu:u.length<=1073741824)(hn:∀x∈u,x.name.length<=1073741824):Is mx 265 [.sl (u.map AC)] (iI (Bv u)):=by
 refine MX eR ?_
 (repeat' first|simp(disch:=omega)only[go_sem,simprocAttr]|refine Sx.s ?_ ?_<;>try(intro h;have h':=h;try simp only[HB]at h';try rewrite [h];try simp only[h])|refine Aa ?_|refine Sz.s ?_|fail)
 ·simp only[Bv];rw[if_pos (by omega)]
 ·have e:Bv u=uc none u:=by simp only[Bv];rw[if_neg (by omega)]
  rw[e];refine BP [0] (fun i=>[(3,.i (iI i))]) (fun _=>[]) (fun i=>uc none u=uc (D5 u i) (u.drop i)) u.length 0 (by omega) (by simp[D5]) ?_;intro i hi jb;by_cases ja:i<u.length
  ·have hm:(match D5 u i with|some q=>Op.bytesLess (u.getD i default).name q||decide ((u.getD i default).name=q)|none=>false)=(decide (0<(i:Int))&&(Op.bytesLess (u.getD i default).name (u.getD (↑i-1:Int).toNat default).name||decide ((u.getD i default).name=(u.getD (↑i-1:Int).toNat default).name))):=by
    have e1:(↑i-1:Int).toNat=i-1:=by omega
    by_cases h0:i=0
    ·simp[D5,h0]
    ·have:0<(i:Int):=by omega
     simp only[D5,h0,if_false,e1,decide_eq_true this,Bool.true_and]
   have hs:D5 u (i+1)=some (u.getD i default).name:=by simp[D5]
   have jb:uc none u=if(!BA (u.getD i default).name)=true then 1 else if(decide ((u.getD i default).exp=0)||decide ((u.getD i default).exp>8\/(u.getD i default).exp< -8))=true then 70 else
     if(decide (0<(i:Int))&&(Op.bytesLess (u.getD i default).name (u.getD (↑i-1:Int).toNat default).name||decide ((u.getD i default).name=(u.getD (↑i-1:Int).toNat default).name)))=true then 3 else uc (D5 u (i+1)) (u.drop (i+1)):=by
    rw[jb,Vt ja,hs];exact congrArg (fun b:Bool=>if(!BA (u.getD i default).name)=true then 1 else if(decide ((u.getD i default).exp=0)||decide ((u.getD i default).exp>8\/(u.getD i default).exp< -8))=true then 70 else if b=true then 3 else uc (some (u.getD i default).name) (u.drop (i+1))) hm
   have jo:=hn _ (AE ja)
   (repeat' first|exact Al _|simp(disch:=omega)only[go_sem,simprocAttr,Ck ja]|refine' Ao (fun hq=>?_) (fun f=>?_)<;>try(have jc:=hq;try simp only[HB]at jc)|refine' Cf (fun hq=>?_) (fun f=>?_)<;>try(have jc:=hq;try simp only[HB]at jc)|refine Sx.s ?_ ?_<;>try(intro h;have h':=h;try simp only[HB]at h';try rewrite [h];try simp only[h])|refine Ab (Wl _ jo) ?_|refine Ab (Wk _) ?_|refine Aa ?_|refine Am ?_|refine Sz.s ?_|(refine And.intro ?_ ?_;focus omega))
   all_goals(try simp only[MK]at*)
   ·rw[if_pos h]at jb;rw[jb]
   ·rw[if_neg (by simp only[‹(!BA (u.getD i default).name)=false›];simp),if_pos h]at jb;rw[jb]
   ·rw[if_neg (by simp only[‹(!BA (u.getD i default).name)=false›];simp),if_neg (by simp only[‹(decide ((u.getD i default).exp=0)||decide ((u.getD i default).exp>8\/(u.getD i default).exp< -8))=false›];simp),if_pos h]at jb;rw[jb]
   ·rw[if_neg (by simp only[‹(!BA (u.getD i default).name)=false›];simp),if_neg (by simp only[‹(decide ((u.getD i default).exp=0)||decide ((u.getD i default).exp>8\/(u.getD i default).exp< -8))=false›];simp),if_neg (by rw[h];simp)]at jb;exact jb
  ·(repeat' first|simp(disch:=omega)only[go_sem,simprocAttr,Ie ja]|refine Aa ?_|refine Sz.s ?_|fail)
   have e':i=u.length:=by omega
   rw[jb,e',List.drop_length];rfl
end
end Go.Proofs.YtojgbkiejjingaaGreatDoor
