/-Lemmas.-/
import Derived.Test.YtojgbkiejjingaaGreatDoorV16
set_option linter.all false
set_option maxRecDepth 100000
set_option maxHeartbeats 8000000
namespace Go.Proofs.YtojgbkiejjingaaGreatDoor
open Go Go.Dl Go.As Go.Proofs
variable {mx:Int}
attribute[local irreducible] Ah Ai MC W2 Fq ev evD step Ad
section
open Go.Sort Go.RowKit Go.Shelf
theorem sy{g:FuncId}{a b:I}{z:Int}(ku:Ck Tryz.prog g=true)(h:Is mx g [a,b] (iI z)){M:Mem}{w0 w:World}(hM:M.Sub w0)(hGL:H2 (Mi mx) M){va vb:Value}(ha:Rep M a va)(hb:Rep M b vb)
  (hw:∀k,k<w0.heap.size->¬M.unk k->w.heap[k]? =w0.heap[k]?):Calls Tryz.prog g #[va,vb] w fun e w'=>e=.returned (.int .i64 z)/\∃q os,w'=grow (w.drewN q) os:=by
 have hn:∀nm,¬names [] nm:=fun nm hn=>by simp[names,Aa]at hn
 let μ:Dl.Place:=fun _=>Go.undef
 have hM':M.Sub w:=hM.world hw;have hlow:∀b,¬M.unk b->b<w.heap.size:=fun b hb=>by
  rcases Zgz b w.heap.size with q|q
  ·exact q
  ·exact absurd (Mem.unk_new hM' q) hb
 have h0:StoOk (AL μ [] w).p M μ [] w:=⟨hM',fun nm b hb=>by simp[Aa]at hb,fun nm nm' k k' _ h=>absurd h (hn nm),fun b hb=>hb.1⟩;have hD:Db M μ (names []) ([a,b].map D.i) (#[va,vb]:Array Value).toList:=⟨rfl,fun j p q=>by
  match j,p with
  |0,_=>exact AJ ha
  |1,_=>exact AJ hb⟩
 have h:MC Tryz.prog (Mi mx) g ([a,b].map D.i) [] [] (fd (iI z)):=h
 delta MC at h
 rcases h M μ w #[va,vb] h0 hGL hD with⟨_,h2⟩|⟨_,row,h1,_⟩|⟨_,v,w',h1,_⟩|⟨h1,_⟩
 ·refine h2.mono ?_;rintro e W' ⟨v,rfl,r,sto',M',μ',⟨rfl,rfl⟩,_,hv,_,hk,_⟩;have hv:v=.int .i64 z:=by have:=AE hv;cases this;rfl
  refine⟨by rw[hv],W'.drawn-w.drawn,W'.heap.extract w.heap.size W'.heap.size,?_⟩;have hdr:=hk.drawn;have j0:=hk.size;have hos:=hk.os;have htp:=hk.tape;have hout:=hk.output;have qy:∀k,k<w.heap.size->W'.heap[k]? =w.heap[k]? :=fun k qe=>hk.block k ⟨qe,fun nm h=>absurd h (hn nm)⟩
  obtain⟨heap',tape',drawn',os',output'⟩:=W';simp only at hdr j0 hos htp hout qy;subst hos htp hout;have eh:heap'=w.heap++heap'.extract w.heap.size heap'.size:=by
   apply Array.ext_getElem?;intro k;by_cases hk:k<w.heap.size
   ·rw[Zbg hk];exact qy k hk
   ·rw[Array.getElem?_append_right (by omega),Array.getElem?_extract];by_cases qe:k<heap'.size
    ·rw[Zaa (by omega)];congr 1;omega
    ·rw[Zac (by omega),Zbi (by omega)]
  have ed:w.drawn+(drawn'-w.drawn)=drawn':=by omega
  simp only[grow,World.drewN,ed];congr 1
 ·rw[J6 ku]at h1;cases h1
 ·rw[J6 ku]at h1;cases h1
 ·unfold Ck at ku;rw[h1]at ku;cases ku
theorem Y8{β:Type}{f g:FuncId}{ρ:Ren}(L:SlLaysF0.n6 Tryz.prog ρ)(hf:ρ.f 6=f)(k e:Nat)(vg:0<k)(aE:∀w,(isAgg (ρ.t 24)).run Tryz.prog w=.ok true w)(zE:∀w,(Go.sizeOf (ρ.t 24)).run Tryz.prog w=.ok k w)
  (hen0:Ck Tryz.prog f=true)(ku:Ck Tryz.prog g=true)(E:β->List I)(hE1:∀x,(E x).length=k)(hE2:∀x,(E x).all I.one=true)(c:β->β->Int)(hO:SWO fun x y=>decide (c x y<0))
  (hc:∀x y,Is mx g [.agg (E x),.agg (E y)] (iI (c x y)))(l:List β)(hl:l.length<4611686018427387904)(hgy:Nat.blt g 1000000000=true):
  MC Tryz.prog (Mi mx) f [.ref (.sl 5000 k 0 l.length),.i (.fn g [] [])] [(5000,.rows e k (l.map E))] []
   (fun r s=>r=.i (.tup [])/\∃l':List β,l'.Perm l/\l'.Pairwise (fun x y=>¬c y x<0)/\s=[(5000,.rows e k (l'.map E))]):=by
 delta MC
 intro M μ w vs h1 h2 h3;obtain⟨v,u,rfl,hN,⟨a,cap,hμ,_,km,hv⟩,hu⟩:∃v u,vs=#[v,u]/\names [(5000,Blk.rows e k (l.map E))] 5000/\Of (μ 5000) k 0 l.length v/\Rep M (.fn g [] []) u:=by
  obtain⟨ls⟩:=vs;obtain⟨hl1,hr⟩:=h3
  match ls,hl1 with
  |[v,u],_=>have q0:=hr 0 (by simp) (by simp);have q1:=hr 1 (by simp) (by simp);exact⟨v,u,rfl,q0.1,q0.2,AE q1⟩
 obtain⟨vf,vc,rfl,_,hvf,hvc⟩:=Rep.fn_inv hu;obtain rfl:vf=#[]:=by apply Zbd;simpa using hvf.1
 obtain rfl:vc=#[]:=by apply Zbd;simpa using hvc.1
 have ecd:FV g=.func g:=Zaa hgy;rw[ecd];have heg:∀args w,(callFunc g args).run Tryz.prog w=.ok (.enter g args) w:=fun args w=>J6 ku args
 by_cases h0:l=[]
 ·obtain⟨p,c',hvv⟩:∃p c',v=.slice p 0 c':=by
   subst h0;rcases hv with⟨_,a',e⟩|⟨b,o,_,e⟩
   ·exact⟨_,_,e⟩
   ·exact⟨_,_,e⟩
  subst hvv;have hcon:=AnyF.slices_SortFunc_none L p c' (.func (.func g) #[] #[]) w;rw[hf]at hcon;refine .inl ⟨hen0,hcon.mono ?_⟩;rintro e' w' ⟨rfl,rfl⟩;refine⟨_,rfl,.i (.tup []),_,M,μ,⟨rfl,[],?_,List.Pairwise.nil,rfl⟩,?_,AJ (Rep.tup' (Ak.nil M)),MExt.refl _ _,Keeps.refl _ _,fun _ _ _=>rfl⟩
  ·rw[h0]
  ·subst h0;simpa using h1
 have ju:0<l.length:=by cases l;exact(h0 rfl).elim;simp
 rcases hv with⟨rfl,a',rfl⟩|⟨b,o,rfl,rfl⟩
 ·omega
 obtain⟨a1,cap1,e1,hb⟩:=h1.blk 5000 _ rfl;rw[hμ]at e1;injection e1 with e1 e2 e3
 subst e1;subst e3;rcases hb with⟨wh,_⟩|⟨b1,o1,cur,e1,hcp,ho,hm,j0,hln,hk,js⟩
 ·omega
 injection e1 with e1;injection e1 with e1 e2
 subst e1;subst e2;have hbk:An (μ 5000)=some b:=by rw[hμ];simp only[An];rw[Zac (by omega)]
 let vals:Nat->List Value:=fun j=>(List.range k).map fun i=>cur.getD (o+j*k+i) Go.undef
 have hvals:∀j (hj:j<l.length),Ak M (E l[j]) (vals j):=fun j hj=>by
  refine⟨by simp[vals,hE1],fun i hi jx=>?_⟩;obtain⟨v,hv,hr⟩:=js j (by simpa using hj) i (by simpa[hE1]using hi);simp only[Zee]at hr;have e:(vals j)[i]=v:=by simp only[vals,Zee,Zei];rw[Zbe,hv];rfl
  rw[e];exact hr
 let β':={p:β×List Value//Ak M (E p.1) p.2}
 let dl:List β':=(List.finRange l.length).map fun j=>⟨(l[j.1],vals j.1),hvals j.1 j.2⟩
 have xc:dl.length=l.length:=by simp[dl]
 have hdg:∀j (hj:j<dl.length),dl[j].1=(l[j]'(by omega),vals j):=fun j hj=>by simp[dl]
 haveI:Inhabited β':=⟨dl[0]'(by omega)⟩
 let enc:β'->List Value:=fun p=>p.1.2
 have henk:∀x,(enc x).length=k:=fun x=>by rw[show(enc x).length=_ from x.2.1,hE1]
 have hen1:∀x,∀v∈enc x,v.oneCell'=true:=fun x v hv=>by
  obtain⟨i,hi,rfl⟩:=Zfg.1 hv;have jx:i<(E x.1.1).length:=by rw[<-x.2.1];exact hi
  have:=hE2 x.1.1;rw[Zcu]at this;exact Rep.oneCell (x.2.2 i jx hi) (this _ (Zef _))
 let cf:β'->β'->Int:=fun x y=>c x.1.1 y.1.1
 have hO':SWO (ltOf cf):=⟨fun x=>hO.irrefl x.1.1,fun x y z=>hO.trans x.1.1 y.1.1 z.1.1,fun x y z=>hO.ntrans x.1.1 y.1.1 z.1.1⟩;have wy:dl.toArray.size=l.length:=by simp[xc]
 have hflat:∀(d:Array β') t,t<d.size*k->(flatK enc k d)[t]! =(enc d[t/k]!)[t%k]! :=fun d t ht=>get_flatK enc k d t ht
 have j6:∀t,t<l.length*k->cur[o+t]? =some (flatK enc k dl.toArray)[t]! :=fun t ht=>by
  have hj:t/k<l.length:=Nat.div_lt_of_lt_mul (by rw[Zg2];exact ht);have hi:t%k<k:=Zg1 _ vg;obtain⟨v,hv,hr⟩:=js (t/k) (by simpa using hj) (t%k) (by simpa[hE1]using hi);have et:o+t/k*k+t%k=o+t:=by rw[Zgl,Zg2,Nat.div_add_mod]
  rw[et]at hv;rw[hv,hflat _ t (by rw[wy];exact ht)];have e1:dl.toArray[t/k]! =dl[t/k]'(by omega):=by rw[getElem!_pos _ _ (by simpa[xc]using hj)];simp
  have e2:(enc dl.toArray[t/k]!)=vals (t/k):=by rw[e1];show(dl[t/k]'(by omega)).1.2=_;rw[hdg]
  rw[e2,getElem!_pos _ _ (by simpa[vals]using hi)];simp only[vals,Zee,Zei,et];rw[Zbe,hv];rfl
 have hH:HoldsK enc k w b o dl.toArray:=fun t ht=>by
  have ht':t<l.length*k:=by simpa[wy]using ht
  refine⟨?_,?_⟩
  ·simp only[World.cell?,ho.heap];rw[j6 t ht'];simp
  ·simp[World.frozen?,ho.heap]
 have jn:=ho.lt;have hother0:∀(m:Nat) (d:Array β') (os:Array Obj) (kk:Nat),kk≠b->kk<w.heap.size->(sortWorldK enc k w b o m d os).heap[kk]? =w.heap[kk]? :=fun m d os kk jg wj=>by unfold sortWorldK putRowK;rw[heap_grow_old _ _ (by rw[size_putRow];exact wj)];simp only[putRow,mapBlock,Sort.ahead,Zbl];rw[Zac (fun e=>jg e.symm)]
 have hcmp:CmpLays Tryz.prog g #[] enc k cf b o dl.toArray.size w:=fun m os dk hdk x y=>by have:=sy ku (hc x.1.1 y.1.1) h1.sub h2 (Rep.agg' (vs:=(enc x).toArray) (by simpa using x.2)) (Rep.agg' (vs:=(enc y).toArray) (by simpa using y.2)) (w:=sortWorldK enc k w b o m dk os) (fun kk wj hu=>hother0 m dk os kk (fun e=>by subst e;exact hu ho.unk) wj);simpa using this
 have hcon:=AnyQ.slices_SortFunc L k aE zE enc henk hen1 cf hO' g #[] b o cap dl.toArray w heg hcmp hH jn (by rw[wy];exact hl);rw[hf,wy]at hcon;simp only[Zhb,Zgn,Zg6];refine .inl ⟨hen0,hcon.mono ?_⟩;rintro e' w' ⟨rfl,d',n,os,hp,hs,rfl⟩;obtain⟨vo,_,hp2⟩:=hp;rw[wy]at vo;have hd'l:d'.toList.length=l.length:=by simpa using vo
 have hperm:d'.toList.Perm dl:=by
  have e1:(d'.extract 0 l.length).toList=d'.toList:=by rw[Zbv,<-hd'l];simp only[Zdd,Zgd,Zg6,List.extract_eq_take_drop]
  have e2:(dl.toArray.extract 0 l.length).toList=dl:=by rw[Zbv,<-xc];simp
  rw[e1,e2]at hp2;exact hp2
 generalize hL:d'.toList.map (fun p=>p.1.1)=l';have hl'p:l'.Perm l:=by
  have e3:dl.map (fun p=>p.1.1)=l:=by
   apply List.ext_getElem
   ·simp[xc]
   ·intro j q1 q2;rw[Zee,hdg]
  rw[<-hL,<-e3];exact hperm.map _
 have hl'l:l'.length=l.length:=hl'p.length_eq;have hl's:l'.Pairwise (fun x y=>¬c y x<0):=by rw[<-hL,Zf1,Zfz];intro i j hi hj hij;have q:=hs i j (Zg9 _) hij (by omega);rw[getElem!_pos d' i (by simpa using hi),getElem!_pos d' j (by simpa using hj)]at q;have q2:decide (c d'[j].1.1 d'[i].1.1<0)=false:=q;simpa using q2
 have hself:(sortWorldK enc k w b o n d' os).heap[b]? =some (.cells (putCells id o (flatK enc k d') cur) e (0,0)):=by unfold sortWorldK putRowK;rw[heap_grow_old _ _ (by rw[size_putRow];exact jn)];simp only[putRow,mapBlock,Sort.ahead,Zbl,Zad];rw[ho.heap];rfl
 have qu:AP (AL μ [(5000,Blk.rows e k (l.map E))] w) M μ (names (B7 [(5000,Blk.rows e k (l.map E))] 5000 (.rows e k (l'.map E)))) (sortWorldK enc k w b o n d' os) 5000 (.rows e k (l'.map E)):=by
  refine⟨some ⟨b,o,none⟩,cap,hμ,.inr ⟨b,o,putCells id o (flatK enc k d') cur,rfl,hcp,⟨ho.low,hself,ho.unk⟩,hm,?_,?_,?_,?_⟩⟩
  ·simp[putCells,j0]
  ·simpa[hl'l]using km
  ·intro r hr;obtain⟨s,_,rfl⟩:=Zfh.1 hr;exact hE1 s
  ·intro i hi j hj;have ja:i<l'.length:=by simpa using hi
   have jx:i<d'.size:=by rw[<-Zbr];omega
   have jp:j<k:=by simpa[hE1]using hj
   have hlt2:i*k+j<l.length*k:=by have:(i+1)*k<=l.length*k:=Zg4 _ (by omega);rw[Zgm,Nat.one_mul]at this;omega
   have hsz2:d'.size*k=l.length*k:=by rw[vo]
   refine⟨(flatK enc k d')[i*k+j]!,?_,?_⟩
   ·simp only[putCells,Zbk];rw[show o+i*k+j=o+(i*k+j)from by omega,j6 _ hlt2];have:o<=o+(i*k+j)/\o+(i*k+j)<o+(flatK enc k d').size:=by rw[size_flatK,hsz2];omega
    simp only[Zhn,Zaa this,id];congr 2;omega
   ·rw[hflat _ _ (by rw[hsz2];exact hlt2)];have e1:(i*k+j)/k=i:=by rw[Zg2,Nat.mul_add_div vg,Nat.div_eq_of_lt jp];omega
    have e2:(i*k+j)%k=j:=by rw[Zg2,Nat.mul_add_mod,Nat.mod_eq_of_lt jp]
    rw[e1,e2,getElem!_pos d' i jx,getElem!_pos _ j (by rw[henk];exact jp)];have q:=d'[i].2.2 j (by rw[hE1];exact jp) (by rw[d'[i].2.1,hE1];exact jp);have e3:l'[i]=d'[i].1.1:=by simp[<-hL]
    simp only[Zee,e3];exact q
 refine⟨_,rfl,.i (.tup []),[(5000,.rows e k (l'.map E))],M,μ,⟨rfl,l',hl'p,hl's,rfl⟩,?_,AJ (Rep.tup' (Ak.nil M)),MExt.refl _ _,⟨rfl,rfl,rfl,?_,fun kk hkk=>hother0 n d' os kk ?_ hkk.1,?_⟩,fun _ _ _=>rfl⟩
 ·exact h1.setBlk (nm:=5000) (blk':=.rows e k (l'.map E)) rfl hbk (by unfold sortWorldK putRowK;rw[size_grow,size_putRow];exact Zgq _ _) (fun kk h1 h2=>hother0 n d' os kk h1 h2) qu
 ·unfold sortWorldK putRowK;rw[size_grow,size_putRow];exact Zgq _ _
 ·intro e';subst e';exact hkk.2 5000 (by simp[names,Aa]) hbk
 ·exact Zgq w.drawn n
end
section
abbrev iW(n:Int):I:=.int .u64 n
abbrev AT(n:Int):List I:=[iI n]
def VR(n:Int)(k:Nat):List Int:=(List.range k).map fun j=>n/65536 ^ j%65536
theorem Pe{α:Type}[Inhabited α]{l:List α}{i:Nat}(h:i<l.length):l.drop i=l.getD i default::l.drop (i+1):=by simp_all
theorem QY(n:Int)(k:Nat):VR n (k+1)=VR n k++[n/65536 ^ k%65536]:=by simp[VR,Zf4]
theorem Nc(n:Int)(k:Nat):(VR n k).length=k:=by simp[VR]
theorem sz{n:Int}{k:Nat}{x:Int}(h:x∈VR n k):0<=x/\x<65536:=by grind[VR]
def Bf(hi lo:Int):List Int:=VR lo 4++VR (hi%18446744073709551616) 4
theorem QZ(hi lo:Int):(Bf hi lo).length=8:=by rfl
theorem Q1{hi lo x:Int}(h:x∈Bf hi lo):0<=x/\x<65536:=by rcases Ze9.1 h with h|h<;>exact sz h
theorem Q2(n:Int)(k:Nat):n/65536 ^ k/65536=n/65536 ^ (k+1):=by rw[Int.pow_succ,Int.ediv_ediv_of_nonneg (by exact Int.pow_nonneg (by decide))]
theorem Q3{n:Int}(k:Nat)(h:0<=n):0<=n/65536 ^ k/\n/65536 ^ k<=n:=by refine⟨Int.ediv_nonneg h (Int.pow_nonneg (by decide)),Int.ediv_le_self _ h⟩
theorem Q4(v6 lo:Int)(hh:-9223372036854775808<=v6/\v6<=9223372036854775807)(hl:0<=lo/\lo<18446744073709551616):MC Tryz.prog (Mi mx) 354 [.i (.agg [iI v6,iW lo])] [] []
  (fun r s=>r=.ref (.sl 6000 1 0 8)/\s=[(6000,.rows 3 1 ((Bf v6 lo).map AT))]):=by
 have hw:IntKind.u64.wrap v6=v6%18446744073709551616:=by rfl
 refine MX Yr ?_
 (repeat' first|simp(disch:=omega)only[go_sem,reduceCtorEq,Nat.reduceAdd,Nat.reduceEqDiff,Nat.reduceLeDiff,hw]|fail)
 refine A4 [5] (by simp only[V0,JK,reduceIte,Nat.reduceEqDiff];rfl) (fun i:Nat=>[(3,.ref (.sl 3 1 0 i)),(4,.i (iW (lo/65536 ^ i))),(6,.i (iI i))]) (fun i=>[(3,.rows 3 1 ((VR lo i).map AT)),(2,.rows 3 1 [])])
  (fun i=>i<=4) (fun i=>4-i) 0 (by omega) (by simp[V0,H0,JJ,Ref.nm,VR]) ?_
 intro i hi;have hb:=Q3 i hl.1;have xc:=Nc lo i;have e4:(lo/65536 ^ i).tdiv 65536=lo/65536 ^ i/65536:=by grind
 have e5:(lo/65536 ^ i).tmod 65536=lo/65536 ^ i%65536:=by grind
 have e6:IntKind.i64.wrap (lo/65536 ^ i%65536)=lo/65536 ^ i%65536:=B3 (by omega) (by omega);have e7:IntKind.u64.wrap (lo/65536 ^ i/65536)=lo/65536 ^ i/65536:=by simp only[IntKind.wrap,IntKind.signed,IntKind.bits];simp;omega
 by_cases ja:i<4
 ·have h1:((i:Int)<4)=True:=Za8 (by omega)
  (repeat' first|simp(disch:=omega)only[go_sem,Nat.reduceAdd,Nat.reduceEqDiff,Nat.reduceLeDiff,h1,e4,e5,e6,e7,Zg6]|refine Ac ?_|(refine And.intro ?_ ?_;focus omega))
  refine⟨by simp,by simp[I.one],by omega,by omega,by decide,i+1,by omega,by omega,⟨rfl,by rw[Q2],rfl⟩,?_⟩;rw[Zgf (by simp[xc]),QY,Zez];rfl
 ·have h1:((i:Int)<4)=False:=Za9 (by omega);have e:i=4:=by omega
  (repeat' first|simp(disch:=omega)only[go_sem,Nat.reduceEqDiff,h1]|refine Ac ?_|fail)
  have hm:0<=v6%18446744073709551616/\v6%18446744073709551616<18446744073709551616:=by omega
  generalize hg:v6%18446744073709551616=h at hm;refine A4 [] (by simp only[JK];rfl) (fun i:Nat=>[(3,.ref (.sl 3 1 0 (4+i))),(5,.i (iW (h/65536 ^ i))),(7,.i (iI i))]) (fun i=>[(3,.rows 3 1 ((VR lo 4++VR h i).map AT)),(2,.rows 3 1 [])])
   (fun i=>i<=4) (fun i=>4-i) 0 (by omega) (by simp[V0,H0,JJ,Ref.nm,VR,e]) ?_
  intro k hk;have jy:=Q3 k hm.1;have hdl2:=Nc h k;have hdl4:=Nc lo 4;have f4:(h/65536 ^ k).tdiv 65536=h/65536 ^ k/65536:=by grind
  have f5:(h/65536 ^ k).tmod 65536=h/65536 ^ k%65536:=by grind
  have f6:IntKind.i64.wrap (h/65536 ^ k%65536)=h/65536 ^ k%65536:=B3 (by omega) (by omega);have f7:IntKind.u64.wrap (h/65536 ^ k/65536)=h/65536 ^ k/65536:=by simp only[IntKind.wrap,IntKind.signed,IntKind.bits];simp;omega
  by_cases jk:k<4
  ·have h2:((k:Int)<4)=True:=Za8 (by omega)
   (repeat' first|simp(disch:=omega)only[go_sem,Nat.reduceAdd,Nat.reduceEqDiff,Nat.reduceLeDiff,h2,f4,f5,f6,f7,Zg6]|refine Ac ?_|(refine And.intro ?_ ?_;focus omega))
   refine⟨by simp,by simp[I.one],by omega,by omega,by decide,k+1,by omega,by omega,⟨rfl,by rw[Q2],rfl⟩,?_⟩;rw[Zgf (by simp[hdl2,hdl4]),QY h k,<-Zc0];simp only[Zez];rfl
  ·have h2:((k:Int)<4)=False:=Za9 (by omega);have e':k=4:=by omega
   refine FU h2 ?_;refine D0 [(3,6000)] (by simp only[go_sem,V10];rfl) (by simp[VL];rfl) (by decide) (by simp[V0,H0,JJ,Ref.nm]) ?_;refine⟨by rw[e'];rfl,?_⟩;rw[<-hg,e'];rfl
theorem Y9(n:Int):(n.tmod 65536<0->n.tmod 65536+65536=n%65536/\n.tdiv 65536-1=n/65536)/\(0<=n.tmod 65536->n.tmod 65536=n%65536/\n.tdiv 65536=n/65536):=by grind
def VO:Int->List Int->List Int
 |_,[]=>[]
 |m,x::r=>(x+m)%65536::VO ((x+m)/65536) r
theorem TY:∀(m:Int) (l:List Int),(VO m l).length=l.length
 |_,[]=>rfl
 |m,x::r=>by simp[VO,TY _ r]
theorem Q5(d:List Int)(hd:d.length=8)(hb:∀x∈d,-1099511627776<=x/\x<=1099511627776):Is mx 356 [.sl (d.map AT)] (.sl ((VO 0 d).map AT)):=by
 refine MX pz ?_;refine Od ?_;refine lT [0] (fun g:Nat×Int×List Int=>[(3,.ref (.sl 3 1 0 g.1)),(4,.i (iI g.2.1)),(5,.i (iI g.1))]) (fun g=>[(3,.rows 3 1 (g.2.2.map AT)),(2,.rows 3 1 [])]) (fun g=>g.1<=8/\-33554432<=g.2.1/\g.2.1<=33554432/\g.2.2.length=g.1/\VO 0 d=g.2.2++VO g.2.1 (d.drop g.1)) (fun g=>8-g.1) (0,0,[]) ?_;rintro⟨i,m,out⟩ ⟨hi,hm1,hm2,hol,hc⟩;simp only at hi hm1 hm2 hol hc;by_cases ja:i<8
 ·have h1:((i:Int)<8)=True:=Za8 (by omega);have xn:i<d.length:=by omega
  have hx:=hb _ (At xn);rw[Pe xn,VO]at hc;generalize hxx:d.getD i default=x at hx hc;have e0:IntKind.i64.wrap (x+m)=x+m:=B3 (by omega) (by omega);refine Kas (cj h1 (cj hxx (cj e0 (BV xn)))) (cj ?_ ?_)
  ·intro _ _;obtain⟨f1,f2⟩:=(Y9 (x+m)).1 (by omega);have w1:IntKind.i64.wrap ((x+m).tmod 65536+65536)=(x+m)%65536:=by grind[B3]
   have w2:IntKind.i64.wrap (IntKind.i64.wrap ((x+m).tdiv 65536)-1)=(x+m)/65536:=by grind[B3]
   rw[w1,w2];refine⟨by simp,by simp[I.one],by omega,by omega,(i+1,(x+m)/65536,out++[(x+m)%65536]),⟨by show i+1<=8;omega,by show _<=(x+m)/65536;omega,by show(x+m)/65536<=_;omega,by simp[hol],by rw[hc,Zc0];rfl⟩,by show 8-(i+1)<8-i;omega,⟨rfl,rfl,rfl⟩,?_⟩;rw[Zgf (by simp[hol]),Zez];rfl
  ·intro _ _;obtain⟨f1,f2⟩:=(Y9 (x+m)).2 (by omega);have w2:IntKind.i64.wrap ((x+m).tdiv 65536)=(x+m)/65536:=by grind[B3]
   rw[f1,w2];refine⟨by simp,by simp[I.one],by omega,by omega,(i+1,(x+m)/65536,out++[(x+m)%65536]),⟨by show i+1<=8;omega,by show _<=(x+m)/65536;omega,by show(x+m)/65536<=_;omega,by simp[hol],by rw[hc,Zc0];rfl⟩,by show 8-(i+1)<8-i;omega,⟨rfl,rfl,rfl⟩,?_⟩;rw[Zgf (by simp[hol]),Zez];rfl
 ·have h1:((i:Int)<8)=False:=Za9 (by omega);have hcar:VO 0 d=out:=by grind[VO]
  have ji:(i<=out.length)=True:=Za8 (by omega);have kc:(out.map AT).take i=out.map AT:=Zgf (by simp[hol]);refine FU (cj h1 (cj ji kc)) ?_
  all_goals intros
  all_goals rw[hcar]
def val:List Int->Int
 |[]=>0
 |x::r=>x+65536*val r
def vld(l:List Int):Prop:=∀x∈l,0<=x/\x<65536
theorem Za:∀(l:List Int),vld l->l.length<=3->0<=val l/\val l<281474976710656
 |[],_,_=>by simp[val]
 |[a],h,_=>by have:=h a (by simp);simp only[val];omega
 |[a,b],h,_=>by have:=h a (by simp);have:=h b (by simp);simp only[val];omega
 |[a,b,c],h,_=>by have:=h a (by simp);have:=h b (by simp);have:=h c (by simp);simp only[val];omega
 |_::_::_::_::_,_,h=>by simp at h
def mkP(d:List Int):Int×Int:=(IntKind.i64.wrap (val (d.drop 4)),val (d.take 4))
abbrev mkW(d:List Int):List I:=[iI (mkP d).1,iW (mkP d).2]
theorem Nd{n:Int}(h:0<=n)(h2:n<18446744073709551616):IntKind.u64.wrap n=n:=by simp only[IntKind.wrap,IntKind.signed,IntKind.bits];simp;omega
theorem Zb(d:List Int)(hd:d.length=8)(hb:vld d):Is mx 355 [.sl (d.map AT)] (.agg (mkW d)):=by
 refine MX ot ?_
 (repeat' first|simp(disch:=omega)only[go_sem,reduceCtorEq,Nat.reduceEqDiff]|fail)
 refine A4 [0,2] (by simp only[V0,JK,reduceIte,Nat.reduceEqDiff];rfl) (fun j:Nat=>[(3,.i (iW (val ((d.take 4).drop (4-j))))),(4,.i (iW (val (d.drop (8-j))))),(5,.i (iI (3-j)))]) (fun _=>[(2,.cells [.i (iI 0),.i (iW 0)])])
  (fun j=>j<=4) (fun j=>4-j) 0 (by omega) (by simp[V0,H0,JJ,Ref.nm,Zda,hd,val]) ?_
 intro j hj;by_cases jp:j<4
 ·have h1:((3-j:Int)≥0)=True:=Za8 (by omega);have h1b:((0:Int)<=3-j)=True:=Za8 (by omega);have k1:(3-j:Int).toNat=3-j:=by omega
  have k2:(3-j+4:Int).toNat=7-j:=by omega
  have d1:(d.take 4).drop (4-(j+1))=d.getD (3-j) default::(d.take 4).drop (4-j):=by grind[Pe,AK]
  have d2:d.drop (8-(j+1))=d.getD (7-j) default::d.drop (8-j):=by grind[Pe]
  have b1:=Za ((d.take 4).drop (4-j)) (fun x hx=>hb x (Zfl (Zfj hx))) (by simp;omega);have b2:=Za (d.drop (8-j)) (fun x hx=>hb x (Zfj hx)) (by simp;omega);have m1:=hb _ (At (n:=3-j) (l:=d) (by omega));have m2:=hb _ (At (n:=7-j) (l:=d) (by omega));have g1:val ((d.take 4).drop (4-(j+1)))=d.getD (3-j) default+65536*val ((d.take 4).drop (4-j)):=by rw[d1,val]
  have g2:val (d.drop (8-(j+1)))=d.getD (7-j) default+65536*val (d.drop (8-j)):=by rw[d2,val]
  generalize val ((d.take 4).drop (4-j))=lo at b1 g1;generalize val (d.drop (8-j))=hi at b2 g2;have l1:((3-j:Int)<(d.length:Int))=True:=Za8 (by omega);have l2:((3-j+4:Int)<(d.length:Int))=True:=Za8 (by omega);have n1:IntKind.i64.wrap (3-j+4)=3-j+4:=B3 (by omega) (by omega);have u1:=Nd (n:=lo*65536) (by omega) (by omega);have u2:=Nd (n:=hi*65536) (by omega) (by omega);have u3:=Nd (n:=d.getD (3-j) default) (by omega) (by omega);have u4:=Nd (n:=d.getD (7-j) default) (by omega) (by omega);have u5:=Nd (n:=lo*65536+d.getD (3-j) default) (by omega) (by omega);have u6:=Nd (n:=hi*65536+d.getD (7-j) default) (by omega) (by omega);refine La (cj h1 (cj k1 (cj k2 (cj l1 (cj l2 (cj n1 (cj u1 (cj u2 (cj u3 (cj u4 (cj u5 u6))))))))))) ?_;refine⟨j+1,by omega,by omega,?_,?_,?_⟩
  ·rw[g1];refine Zae (fun n=>D.i (I.int .u64 n)) ?_;omega
  ·rw[g2];refine Zae (fun n=>D.i (I.int .u64 n)) ?_;omega
  ·refine Zae (fun n=>D.i (I.int .i64 n)) ?_;omega
 ·have h1b:((0:Int)<=3-j)=False:=Za9 (by omega);have e:j=4:=by omega
  refine FU h1b ?_;rw[e];rfl
def ofW(n:Int):List I:=if n<0 then[iI (-1),iW (n%18446744073709551616)]else[iI 0,iW n]
theorem TZ(n:Int)(h:-9223372036854775808<=n/\n<=9223372036854775807):Is mx 349 [iI n] (.agg (ofW n)):=by
 have hw:IntKind.u64.wrap n=n%18446744073709551616:=by rfl
 refine MX qO ?_;refine EV hw (cj ?_ ?_)
 ·intro h h';simp[ofW,h']
 ·intro _ _;have:n%18446744073709551616=n:=by omega
  simp[ofW,show¬n<0 by omega,this]
def wOk(hi lo:Int):Prop:=(-9223372036854775808<=hi/\hi<=9223372036854775807)/\(0<=lo/\lo<18446744073709551616)
def EK(f:Int->Int->Int):List Int->List Int->Nat->List Int
 |a::x,b::y,i+1=>f a b::EK f x y i
 |x,_,_=>x
theorem Zc(f:Int->Int->Int)(x y:List Int):EK f x y 0=x:=by cases x<;>cases y<;>rfl
theorem T0(f:Int->Int->Int):∀(x y:List Int) (i:Nat),(EK f x y i).length=x.length
 |[],y,i=>by rfl
 |a::x,[],i=>by rfl
 |a::x,b::y,0=>rfl
 |a::x,b::y,i+1=>by simp[EK,T0 f x y i]
theorem T1(f:Int->Int->Int):∀(x y:List Int) (i:Nat),(EK f x y i).getD i default=x.getD i default
 |[],y,i=>by rfl
 |a::x,[],i=>by rfl
 |a::x,b::y,0=>rfl
 |a::x,b::y,i+1=>by simpa[EK]using T1 f x y i
theorem T2(f:Int->Int->Int):∀(x y:List Int) (i:Nat),x.length=y.length->i<x.length->(EK f x y i).set i (f (x.getD i default) (y.getD i default))=EK f x y (i+1)
 |[],y,i,_,h=>by simp at h
 |a::x,[],i,h,_=>by simp at h
 |a::x,b::y,0,_,_=>by simp[EK]
 |a::x,b::y,i+1,h,h2=>by simpa[EK]using T2 f x y i (by simpa using h) (by simpa using h2)
theorem T3(f:Int->Int->Int):∀(x y:List Int),x.length=y.length->EK f x y x.length=List.zipWith f x y
 |[],[],_=>rfl
 |a::x,b::y,h=>by simp[EK,T3 f x y (by simpa using h)]
theorem T4:∀{m:Int} {l:List Int},vld (VO m l)
 |_,[],x,h=>by simp[VO]at h
 |m,a::r,x,h=>by
  simp only[VO,Zfb]at h;rcases h with rfl|h
  ·omega
  ·exact T4 x h
theorem sA(ah al bh bl:Int)(ha:wOk ah al)(hb:wOk bh bl):Is mx 350 [.agg [iI ah,iW al],.agg [iI bh,iW bl]] (.agg (mkW (VO 0 (List.zipWith (·+·) (Bf ah al) (Bf bh bl))))):=by
 have hxm:∀x∈Bf ah al,0<=x/\x<65536:=fun x h=>Q1 h
 have hym:∀x∈Bf bh bl,0<=x/\x<65536:=fun x h=>Q1 h
 have vm:=QZ ah al;have hyl:=QZ bh bl;have m1:=Q4 (mx:=mx) ah al ha.1 ha.2;have m2:=Q4 (mx:=mx) bh bl hb.1 hb.2;generalize Bf ah al=x at hxm vm m1;generalize Bf bh bl=y at hym hyl m2;have hcb:∀z∈List.zipWith (·+·) x y,-1099511627776<=z/\z<=1099511627776:=by intro z hz;obtain⟨k,hk,rfl⟩:=Zfg.1 hz;rw[Zek];have h1:=hxm _ (Zef (l:=x) (n:=k) (by simp at hk;omega));have h2:=hym _ (Zef (l:=y) (n:=k) (by simp at hk;omega));omega
 have h3:=Q5 (mx:=mx) (List.zipWith (·+·) x y) (by simp[vm,hyl]) hcb;have h4:=Zb (mx:=mx) (VO 0 (List.zipWith (·+·) x y)) (by simp[TY,vm,hyl]) T4;refine MX ng ?_
 (repeat' first|simp(disch:=omega)only[go_sem,reduceCtorEq,Nat.reduceAdd,Nat.reduceEqDiff]|(refine Ig (m1) ?_ (by simp[H0]) (by simp[H0,JJ]) (fun r sto' hR=>?_);(focus(first|rfl|(simp only[go_sem,Nat.reduceEqDiff];done)));first|(obtain⟨rfl,rfl⟩:=hR)|(obtain⟨_,(rfl|rfl),rfl,rfl⟩:=hR))|(refine Ig (m2) ?_ (by simp[H0]) (by simp[H0,JJ]) (fun r sto' hR=>?_);(focus(first|rfl|(simp only[go_sem,reduceCtorEq,Int.reduceToNat,Int.reduceNeg,Int.reduceLT,Int.reduceLE,Int.reduceEq,Int.reduceAdd,Int.reduceSub,Int.reduceMul,Nat.reduceAdd,Nat.reduceSub,Nat.reduceMul,Nat.reduceEqDiff,Nat.reduceBEq,Nat.reduceBneDiff,Nat.reduceLeDiff,Nat.reduceLT,reduceIte];done)));first|(obtain⟨rfl,rfl⟩:=hR)|(obtain⟨_,(rfl|rfl),rfl,rfl⟩:=hR))|fail)
 refine A4 [4,5,6] (by simp only[V0,JK,reduceIte,Nat.reduceEqDiff];rfl) (fun i:Nat=>[(7,.i (iI i))]) (fun i=>[(9,.rows 3 1 ((EK (·+·) x y i).map AT)),(4,.cells [.i (iI 0),.i (iW 0)]),(11,.rows 3 1 (y.map AT))])
  (fun i=>i<=8) (fun i=>8-i) 0 (by omega) (by simp[V0,H0,JJ,Ref.nm,Zc]) ?_
 intro i hi;have vj:=T0 (·+·) x y i;by_cases ja:i<8
 ·have h1:((i:Int)<8)=True:=Za8 (by omega);have vp:i<x.length:=by omega
  have hiy:i<y.length:=by omega
  have a1:=hxm _ (At vp);have a2:=hym _ (At hiy);have e0:IntKind.i64.wrap (x.getD i default+y.getD i default)=x.getD i default+y.getD i default:=B3 (by omega) (by omega);have e1:=T1 (·+·) x y i;have e2:=T2 (·+·) x y i (by omega) vp;refine lY (cj h1 (cj e1 e0)) ?_;refine⟨i+1,by omega,by omega,rfl,?_⟩;rw[<-e2,Ze6]
 ·have h1:((i:Int)<8)=False:=Za9 (by omega);have e:EK (·+·) x y i=List.zipWith (·+·) x y:=by grind[T3]
  rw[e];have ji:(8<=(List.zipWith (·+·) x y).length)=True:=Za8 (by simp[vm,hyl]);have kc:((List.zipWith (·+·) x y).map AT).take 8=(List.zipWith (·+·) x y).map AT:=Zgf (by simp[vm,hyl]);exact EV (cj h3 (cj h4 (cj h1 (cj ji kc)))) trivial
theorem sB(ah al bh bl:Int)(ha:wOk ah al)(hb:wOk bh bl):Is mx 364 [.agg [iI ah,iW al],.agg [iI bh,iW bl]] (.agg (mkW (VO 0 (List.zipWith (·-·) (Bf ah al) (Bf bh bl))))):=by
 have hxm:∀x∈Bf ah al,0<=x/\x<65536:=fun x h=>Q1 h
 have hym:∀x∈Bf bh bl,0<=x/\x<65536:=fun x h=>Q1 h
 have vm:=QZ ah al;have hyl:=QZ bh bl;have m1:=Q4 (mx:=mx) ah al ha.1 ha.2;have m2:=Q4 (mx:=mx) bh bl hb.1 hb.2;generalize Bf ah al=x at hxm vm m1;generalize Bf bh bl=y at hym hyl m2;have hcb:∀z∈List.zipWith (·-·) x y,-1099511627776<=z/\z<=1099511627776:=by intro z hz;obtain⟨k,hk,rfl⟩:=Zfg.1 hz;rw[Zek];have h1:=hxm _ (Zef (l:=x) (n:=k) (by simp at hk;omega));have h2:=hym _ (Zef (l:=y) (n:=k) (by simp at hk;omega));omega
 have h3:=Q5 (mx:=mx) (List.zipWith (·-·) x y) (by simp[vm,hyl]) hcb;have h4:=Zb (mx:=mx) (VO 0 (List.zipWith (·-·) x y)) (by simp[TY,vm,hyl]) T4;refine MX ow ?_
 (repeat' first|simp(disch:=omega)only[go_sem,reduceCtorEq,Nat.reduceAdd,Nat.reduceEqDiff]|(refine Ig (m1) ?_ (by simp[H0]) (by simp[H0,JJ]) (fun r sto' hR=>?_);(focus(first|rfl|(simp only[go_sem,Nat.reduceEqDiff];done)));first|(obtain⟨rfl,rfl⟩:=hR)|(obtain⟨_,(rfl|rfl),rfl,rfl⟩:=hR))|(refine Ig (m2) ?_ (by simp[H0]) (by simp[H0,JJ]) (fun r sto' hR=>?_);(focus(first|rfl|(simp only[go_sem,reduceCtorEq,Int.reduceToNat,Int.reduceNeg,Int.reduceLT,Int.reduceLE,Int.reduceEq,Int.reduceAdd,Int.reduceSub,Int.reduceMul,Nat.reduceAdd,Nat.reduceSub,Nat.reduceMul,Nat.reduceEqDiff,Nat.reduceBEq,Nat.reduceBneDiff,Nat.reduceLeDiff,Nat.reduceLT,reduceIte];done)));first|(obtain⟨rfl,rfl⟩:=hR)|(obtain⟨_,(rfl|rfl),rfl,rfl⟩:=hR))|fail)
 refine A4 [4,5,6] (by simp only[V0,JK,reduceIte,Nat.reduceEqDiff];rfl) (fun i:Nat=>[(7,.i (iI i))]) (fun i=>[(9,.rows 3 1 ((EK (·-·) x y i).map AT)),(4,.cells [.i (iI 0),.i (iW 0)]),(11,.rows 3 1 (y.map AT))])
  (fun i=>i<=8) (fun i=>8-i) 0 (by omega) (by simp[V0,H0,JJ,Ref.nm,Zc]) ?_
 intro i hi;have vj:=T0 (·-·) x y i;by_cases ja:i<8
 ·have h1:((i:Int)<8)=True:=Za8 (by omega);have vp:i<x.length:=by omega
  have hiy:i<y.length:=by omega
  have a1:=hxm _ (At vp);have a2:=hym _ (At hiy);have e0:IntKind.i64.wrap (x.getD i default-y.getD i default)=x.getD i default-y.getD i default:=B3 (by omega) (by omega);have e1:=T1 (·-·) x y i;have e2:=T2 (·-·) x y i (by omega) vp;refine lY (cj h1 (cj e1 e0)) ?_;refine⟨i+1,by omega,by omega,rfl,?_⟩;rw[<-e2,Ze6]
 ·have h1:((i:Int)<8)=False:=Za9 (by omega);have e:EK (·-·) x y i=List.zipWith (·-·) x y:=by grind[T3]
  rw[e];have ji:(8<=(List.zipWith (·-·) x y).length)=True:=Za8 (by simp[vm,hyl]);have kc:((List.zipWith (·-·) x y).map AT).take 8=(List.zipWith (·-·) x y).map AT:=Zgf (by simp[vm,hyl]);exact EV (cj h3 (cj h4 (cj h1 (cj ji kc)))) trivial
theorem sC:wOk 0 0:=by refine⟨by omega,by omega⟩
theorem sD(h l:Int)(ha:wOk h l):Is mx 362 [.agg [iI h,iW l]] (.agg (mkW (VO 0 (List.zipWith (·-·) (Bf 0 0) (Bf h l))))):=by have h0:Is mx 349 [iI 0] (.agg [iI 0,iW 0]):=TZ 0 (by omega);have h1:=sB (mx:=mx) 0 0 h l sC ha;refine MX ni ?_;exact FU (cj h0 h1) trivial
theorem sE(v6 lo:Int)(hh:-9223372036854775808<=v6/\v6<=9223372036854775807)(hl:0<=lo/\lo<18446744073709551616):Is mx 354 [.agg [iI v6,iW lo]] (.sl ((Bf v6 lo).map AT)):=by
 have hw:IntKind.u64.wrap v6=v6%18446744073709551616:=by rfl
 refine MX Yr ?_
 (repeat' first|simp(disch:=omega)only[go_sem,reduceCtorEq,Nat.reduceAdd,Nat.reduceEqDiff,Nat.reduceLeDiff,hw]|fail)
 refine A4 [5] (by simp only[V0,JK,reduceIte,Nat.reduceEqDiff];rfl) (fun i:Nat=>[(3,.ref (.sl 3 1 0 i)),(4,.i (iW (lo/65536 ^ i))),(6,.i (iI i))]) (fun i=>[(3,.rows 3 1 ((VR lo i).map AT)),(2,.rows 3 1 [])])
  (fun i=>i<=4) (fun i=>4-i) 0 (by omega) (by simp[V0,H0,JJ,Ref.nm,VR]) ?_
 intro i hi;have hb:=Q3 i hl.1;have xc:=Nc lo i;have e4:(lo/65536 ^ i).tdiv 65536=lo/65536 ^ i/65536:=by grind
 have e5:(lo/65536 ^ i).tmod 65536=lo/65536 ^ i%65536:=by grind
 have e6:IntKind.i64.wrap (lo/65536 ^ i%65536)=lo/65536 ^ i%65536:=B3 (by omega) (by omega);have e7:IntKind.u64.wrap (lo/65536 ^ i/65536)=lo/65536 ^ i/65536:=by simp only[IntKind.wrap,IntKind.signed,IntKind.bits];simp;omega
 by_cases ja:i<4
 ·have h1:((i:Int)<4)=True:=Za8 (by omega)
  (repeat' first|simp(disch:=omega)only[go_sem,Nat.reduceAdd,Nat.reduceEqDiff,Nat.reduceLeDiff,h1,e4,e5,e6,e7,Zg6]|refine Ac ?_|(refine And.intro ?_ ?_;focus omega))
  refine⟨by simp,by simp[I.one],by omega,by omega,by decide,i+1,by omega,by omega,⟨rfl,by rw[Q2],rfl⟩,?_⟩;rw[Zgf (by simp[xc]),QY,Zez];rfl
 ·have h1:((i:Int)<4)=False:=Za9 (by omega);have e:i=4:=by omega
  (repeat' first|simp(disch:=omega)only[go_sem,Nat.reduceEqDiff,h1]|refine Ac ?_|fail)
  have hm:0<=v6%18446744073709551616/\v6%18446744073709551616<18446744073709551616:=by omega
  generalize hg:v6%18446744073709551616=h at hm;refine A4 [] (by simp only[JK];rfl) (fun i:Nat=>[(3,.ref (.sl 3 1 0 (4+i))),(5,.i (iW (h/65536 ^ i))),(7,.i (iI i))]) (fun i=>[(3,.rows 3 1 ((VR lo 4++VR h i).map AT)),(2,.rows 3 1 [])])
   (fun i=>i<=4) (fun i=>4-i) 0 (by omega) (by simp[V0,H0,JJ,Ref.nm,VR,e]) ?_
  intro k hk;have jy:=Q3 k hm.1;have hdl2:=Nc h k;have hdl4:=Nc lo 4;have f4:(h/65536 ^ k).tdiv 65536=h/65536 ^ k/65536:=by grind
  have f5:(h/65536 ^ k).tmod 65536=h/65536 ^ k%65536:=by grind
  have f6:IntKind.i64.wrap (h/65536 ^ k%65536)=h/65536 ^ k%65536:=B3 (by omega) (by omega);have f7:IntKind.u64.wrap (h/65536 ^ k/65536)=h/65536 ^ k/65536:=by simp only[IntKind.wrap,IntKind.signed,IntKind.bits];simp;omega
  by_cases jk:k<4
  ·have h2:((k:Int)<4)=True:=Za8 (by omega)
   (repeat' first|simp(disch:=omega)only[go_sem,Nat.reduceAdd,Nat.reduceEqDiff,Nat.reduceLeDiff,h2,f4,f5,f6,f7,Zg6]|refine Ac ?_|(refine And.intro ?_ ?_;focus omega))
   refine⟨by simp,by simp[I.one],by omega,by omega,by decide,k+1,by omega,by omega,⟨rfl,by rw[Q2],rfl⟩,?_⟩;rw[Zgf (by simp[hdl2,hdl4]),QY h k,<-Zc0];simp only[Zez];rfl
  ·have h2:((k:Int)<4)=False:=Za9 (by omega);have e':k=4:=by omega
   have ji:(4+k<=(VR lo 4).length+(VR h k).length)=True:=Za8 (by omega);have kc:((VR lo 4++VR h k).map AT).take (4+k)=(VR lo 4++VR h k).map AT:=Zgf (by simp[hdl2,hdl4]);have j8:VR lo 4++VR h k=Bf v6 lo:=by rw[<-hg,e'];rfl
   (repeat' first|simp(disch:=omega)only[go_sem,Nat.reduceEqDiff,h2,Zel,ji,kc]|refine Ac ?_|refine HA (R:=fd _) ?_|fail)
   all_goals rw[j8]
theorem Zd(hi lo:Int)(ha:wOk hi lo):Is mx 354 [.agg [iI hi,iW lo]] (.sl ((Bf hi lo).map AT)):=by exact sE hi lo ha.1 ha.2
def Q6(h l:Int):List Int:=if h<0 then Bf (mkP (VO 0 (List.zipWith (·-·) (Bf 0 0) (Bf h l)))).1 (mkP (VO 0 (List.zipWith (·-·) (Bf 0 0) (Bf h l)))).2 else Bf h l
theorem sF(h l:Int)(ha:wOk h l)(hb:h<0->wOk (mkP (VO 0 (List.zipWith (·-·) (Bf 0 0) (Bf h l)))).1 (mkP (VO 0 (List.zipWith (·-·) (Bf 0 0) (Bf h l)))).2):Is mx 357 [.agg [iI h,iW l]] (.sl ((Q6 h l).map AT)):=by
 have h1:=sD (mx:=mx) h l ha;by_cases hn:h<0
 ·have h2:=Zd (mx:=mx) _ _ (hb hn);have e:Q6 h l=_:=Zaa hn;refine MX YA ?_
  (repeat' first|simp(disch:=omega)only[go_sem,reduceCtorEq,Nat.reduceAdd,Nat.reduceEqDiff,Nat.reduceLeDiff,Za8 hn]|refine Ab (h1) ?_|refine Ab (h2) ?_|refine Ac ?_|refine OS ?_ ?_|refine HA (R:=fd _) ?_|fail)
  all_goals rw[e]
 ·have h2:=Zd (mx:=mx) _ _ ha;have e:Q6 h l=_:=Zac hn;refine MX YA ?_;refine EV (cj h2 hn) ?_
  all_goals intros
  all_goals rw[e]
def ltR:List Int->List Int->Bool
 |x::a,y::b=>if x≠y then decide (x<y)else ltR a b
 |_,_=>false
theorem Ze{l:List Int}{j:Nat}(hl:l.length=8)(hj:j<8):l.reverse.getD j default=l.getD (7-j) default:=by grind
theorem sG(a b:List Int)(ha:a.length=8)(hb:b.length=8):Is mx 359 [.sl (a.map AT),.sl (b.map AT)] (.bool (ltR a.reverse b.reverse)):=by
 refine MX ou ?_;refine Od ?_;refine lT [0,1] (fun j:Nat=>[(5,.i (iI (7-j)))]) (fun _=>[]) (fun j=>j<=8/\ltR a.reverse b.reverse=ltR (a.reverse.drop j) (b.reverse.drop j)) (fun j=>8-j) 0 ?_;rintro j ⟨hj,jb⟩;by_cases jp:j<8
 ·have h1:((7-j:Int)≥0)=True:=Za8 (by omega);have h1b:((0:Int)<=7-j)=True:=Za8 (by omega);have k1:(7-j:Int).toNat=7-j:=by omega
  have l1:((7-j:Int)<(a.length:Int))=True:=Za8 (by omega);have l2:((7-j:Int)<(b.length:Int))=True:=Za8 (by omega);rw[Pe (by simp;omega),Pe (l:=b.reverse) (by simp;omega),Ze ha jp,Ze hb jp,ltR]at jb;refine EV (cj h1b (cj k1 (cj l1 l2))) (cj ?_ ?_)
  ·intro h h';rw[jb,Zaa h']
  ·intro _ _;rw[Zac (by omega)]at jb;exact⟨j+1,⟨by omega,jb⟩,by omega,Zae (fun n=>D.i (I.int .i64 n)) (by omega)⟩
 ·have h1b:((0:Int)<=7-j)=False:=Za9 (by omega);refine FU h1b ?_;rw[jb,Zda (by simp;omega)];rfl
end
section
theorem sH(f:Int->Int->Int){a b:List Int}{i:Nat}(ha:i<a.length)(hb:i<b.length):List.zipWith f (a.take (i+1)) (b.take (i+1))=List.zipWith f (a.take i) (b.take i)++[f (a.getD i default) (b.getD i default)]:=by rw[Zgh ha,Zgh hb,List.zipWith_append (by simp;omega),AK ha,AK hb];rfl
theorem sI(a b:List Int)(ha:a.length=8)(hb:b.length=8)(va:∀x∈a,0<=x/\x<=1099511627775)(vb:∀x∈b,0<=x/\x<=1099511627775):Is mx 360 [.sl (a.map AT),.sl (b.map AT)] (.sl ((VO 0 (List.zipWith (·-·) a b)).map AT)):=by
 have hcb:∀z∈List.zipWith (·-·) a b,-1099511627776<=z/\z<=1099511627776:=by intro z hz;obtain⟨k,hk,rfl⟩:=Zfg.1 hz;rw[Zek];have h1:=va _ (Zef (l:=a) (n:=k) (by simp at hk;omega));have h2:=vb _ (Zef (l:=b) (n:=k) (by simp at hk;omega));omega
 have h3:=Q5 (mx:=mx) (List.zipWith (·-·) a b) (by simp[ha,hb]) hcb;refine MX pA ?_;refine Od ?_;refine lT [0,1] (fun i:Nat=>[(5,.ref (.sl 5 1 0 i)),(6,.i (iI i))]) (fun i=>[(5,.rows 3 1 ((List.zipWith (·-·) (a.take i) (b.take i)).map AT)),(4,.rows 3 1 [])]) (fun i=>i<=8) (fun i=>8-i) 0 ?_;intro i hi;have vj:(List.zipWith (·-·) (a.take i) (b.take i)).length=i:=by simp;omega
 by_cases ja:i<8
 ·have h1:((i:Int)<8)=True:=Za8 (by omega);have a1:=va _ (At (n:=i) (l:=a) (by omega));have b1:=vb _ (At (n:=i) (l:=b) (by omega));have e0:IntKind.i64.wrap (a.getD i default-b.getD i default)=a.getD i default-b.getD i default:=B3 (by omega) (by omega);refine lY (cj h1 e0) ?_;refine⟨by simp,by simp[I.one],by omega,by omega,i+1,by omega,by omega,⟨rfl,rfl⟩,?_⟩;rw[Zgf (by rw[Zes,vj];omega),sH _ (by omega) (by omega)];simp
 ·have h1:((i:Int)<8)=False:=Za9 (by omega);have ji:(i<=(List.zipWith (·-·) (a.take i) (b.take i)).length)=True:=Za8 (by omega);have kc:((List.zipWith (·-·) (a.take i) (b.take i)).map AT).take i=(List.zipWith (·-·) (a.take i) (b.take i)).map AT:=Zgf (by rw[Zes,vj];omega);have e:List.zipWith (·-·) (a.take i) (b.take i)=List.zipWith (·-·) a b:=by grind
  rw[<-e]at h3⊢;exact EV (cj h3 (cj h1 (cj ji kc))) trivial
def Nf(n:Int):List Int->List Int
 |[]=>[]
 |x::r=>(x+n)::r
theorem sJ(a:List Int)(n:Int)(ha:a.length=8)(va:∀x∈a,0<=x/\x<=65535)(hn:0<=n/\n<=1):Is mx 358 [.sl (a.map AT),iI n] (.sl ((VO 0 (Nf n (a.map (2*·)))).map AT)):=by
 have hcb:∀z∈Nf n (a.map (2*·)),-1099511627776<=z/\z<=1099511627776:=by
  intro z hz;cases a with
  |nil=>simp at ha
  |cons x r=>
   simp only[Ze1,Nf,Zfb,Zfh]at hz;rcases hz with rfl|⟨y,hy,rfl⟩
   ·have:=va x (by simp);omega
   all_goals grind
 have h3:=Q5 (mx:=mx) (Nf n (a.map (2*·))) (by cases a<;>simp_all[Nf]) hcb;refine MX nh ?_;refine Od ?_;refine lT [0,1] (fun i:Nat=>[(5,.ref (.sl 5 1 0 i)),(6,.i (iI i))]) (fun i=>[(5,.rows 3 1 (((a.take i).map (2*·)).map AT)),(4,.rows 3 1 [])]) (fun i=>i<=8) (fun i=>8-i) 0 ?_ (by omega);intro i hi;have vj:((a.take i).map (2*·)).length=i:=by simp;omega
 by_cases ja:i<8
 ·have h1:((i:Int)<8)=True:=Za8 (by omega);have a1:=va _ (At (n:=i) (l:=a) (by omega));have e0:IntKind.i64.wrap (2*a.getD i default)=2*a.getD i default:=B3 (by omega) (by omega);have hle2:(i<=min i a.length)=True:=Za8 (by omega)
  (repeat' first|simp(disch:=omega)only[go_sem,simprocAttr,h1,Zg6,e0,Zes,Zex,hle2]|refine Ac ?_|(refine And.intro ?_ ?_;focus omega))
  refine⟨by simp,by simp[I.one],by omega,by omega,i+1,by omega,by omega,⟨rfl,rfl⟩,?_⟩;have et:(a.take (i+1)).map (2*·)=(a.take i).map (2*·)++[2*a.getD i default]:=by rw[Zgh (show i<a.length by omega),Zez,AK];rfl
  rw[et,Zgf (by rw[Zes,vj];omega),Zez];rfl
 ·have h1:((i:Int)<8)=False:=Za9 (by omega);have e:a.take i=a:=Zgf (by omega);rw[e]at vj⊢;cases a with
  |nil=>simp at ha
  |cons x r=>
   have hx:=va x (by simp);have e0:IntKind.i64.wrap (2*x+n)=2*x+n:=B3 (by omega) (by omega);have v6:0<i:=by omega
   simp only[Ze1,Ze4,Nf]at h3 vj⊢;have ji:(i<=r.length+1)=True:=Za8 (by simp at vj;omega);have kc:([I.int .i64 (2*x+n)]::List.map (AT ∘ fun x=>2*x) r).take i=[I.int .i64 (2*x+n)]::List.map (AT ∘ fun x=>2*x) r:=Zgf (by simp at vj⊢;omega)
   (repeat' first|simp(disch:=omega)only[go_sem,simprocAttr,h1,e0,Zg6,List.set_cons_zero,Zem,Zes,ji,kc]|refine Sx.s ?_ ?_<;>try(intro h;have h':=h;try simp only[HB]at h';try simp only[h])|refine Ab (h3) ?_|refine Ac ?_|refine Sz.s ?_|(refine And.intro ?_ ?_;focus omega))
def P0(n:Int):Int×Int:=if n<0 then(-1,n%18446744073709551616)else(0,n)
def Di(a:Int):List Int:=[a,0,0,0,0,0,0,0]
def T5(n:Int):Bool:=decide (Q6 (P0 n).1 (P0 n).2=Di (n.natAbs:Int))&&(decide (0<=n)||
 (decide (-9223372036854775808<=(mkP (VO 0 (List.zipWith (·-·) (Bf 0 0) (Bf (P0 n).1 (P0 n).2)))).1)&&decide ((mkP (VO 0 (List.zipWith (·-·) (Bf 0 0) (Bf (P0 n).1 (P0 n).2)))).1<=9223372036854775807)&&
  decide (0<=(mkP (VO 0 (List.zipWith (·-·) (Bf 0 0) (Bf (P0 n).1 (P0 n).2)))).2)&&decide ((mkP (VO 0 (List.zipWith (·-·) (Bf 0 0) (Bf (P0 n).1 (P0 n).2)))).2<18446744073709551616)))
theorem sK:(List.range 257).all (fun k=>T5 ((k:Int)-128))=true:=by rfl
theorem sL{n:Int}(h:-128<=n/\n<=128):T5 n=true:=by have:=Zcu.1 sK (n+128).toNat (by simp;omega);grind
theorem sM{n:Int}(h:-128<=n/\n<=128):wOk (P0 n).1 (P0 n).2:=by unfold P0;split<;>exact⟨by constructor<;>omega,by constructor<;>omega⟩
theorem Ng(n:Int):ofW n=[iI (P0 n).1,iW (P0 n).2]:=by grind[ofW,P0]
theorem Zf(n:Int)(h:-128<=n/\n<=128):Is mx 357 [.agg (ofW n)] (.sl ((Di (n.natAbs:Int)).map AT)):=by
 have hc:=sL h;simp only[T5,Zbz,Zcb,Za0]at hc;obtain⟨h1,h2⟩:=hc;rw[Ng,<-h1];refine sF _ _ (sM h) fun hn=>?_
 have:n<0:=by unfold P0 at hn;split at hn<;>simp_all
 rcases h2 with h2|h2
 ·omega
 ·exact⟨⟨h2.1.1.1,h2.1.1.2⟩,⟨h2.1.2,h2.2⟩⟩
def Gb:List Int:=[0,0,0,0,0,0,0,0]
theorem Zg(b:Int)(hb:b=0\/b=1):Is mx 358 [.sl (Gb.map AT),iI b] (.sl ((Di b).map AT)):=by have:=sJ (mx:=mx) Gb b rfl (by decide) (by omega);rcases hb with rfl|rfl<;>exact this
theorem T6(a b:Int):Is mx 359 [.sl ((Di a).map AT),.sl ((Di b).map AT)] (.bool (decide (a<b))):=by
 have:=sG (mx:=mx) (Di a) (Di b) rfl rfl;have e:ltR (Di a).reverse (Di b).reverse=decide (a<b):=by simp[Di,ltR];grind
 grind
theorem Zh:Is mx 360 [.sl ((Di 1).map AT),.sl ((Di 1).map AT)] (.sl (Gb.map AT)):=
 sI (Di 1) (Di 1) rfl rfl (by decide) (by decide)
theorem sN(a:Nat)(i:Nat):a/2 ^ i=2*(a/2 ^ (i+1))+a/2 ^ i%2:=by rw[Nat.pow_succ,<-Nat.div_div_eq_div_mul];omega
theorem sO(a:Int)(k:Nat)(h:k<8):((Di a).map AT).getD k []=AT ((Di a).getD k default):=by rw[AK (by simpa[Di]using h)];grind
theorem sP(a:Int)(k:Nat):(Di a).getD (k+1) default=0:=by
 match k with
 |0|1|2|3|4|5|6=>rfl
 |k+7=>rfl
def rst(r:Nat):D:=if r=128 then .ref (.sl 20 1 0 8)else .i (.sl (Gb.map AT))
def Nh(r:Nat):List (Nat×Blk):=if r=128 then[(20,.rows 3 1 (Gb.map AT))]else[]
theorem sR(a i:Nat)(ha:a<=128)(hi:i<128):(((Di (a:Int)).getD (i/16) default).fdiv (2 ^ (i%16).min 64)).tmod 2=((a/2 ^ i%2:Nat):Int):=by
 by_cases h:i<16
 ·rw[show i/16=0 by omega,show(i%16).min 64=i by show min (i%16) 64=i;omega];show((a:Int).fdiv (2 ^ i)).tmod 2=_;grind
 ·obtain⟨k,hk⟩:∃k,i/16=k+1:=⟨i/16-1,by omega⟩;rw[hk,sP];have h2:a<2 ^ i:=Zgy (show a<2 ^ 16 by omega) (Nat.pow_le_pow_right (by decide) (by omega));rw[Nat.div_eq_of_lt h2];simp
theorem sS(n:Int)(h:-128<=n/\n<=128):Is mx 351 [.agg (ofW n),iI 1] (.tup [iI n,.bool true]):=by
 have h1:=Zf (mx:=mx) n h;have h2:Is mx 357 [.agg (ofW 1)] (.sl ((Di 1).map AT)):=Zf 1 (by omega);have h3:Is mx 349 [iI 1] (.agg (ofW 1)):=TZ 1 (by omega);have hneg:(pk false (ofW n) 0 1=iI (P0 n).1):=by rw[Ng];rfl
 have hsg:((P0 n).1<0)=(n<0):=by grind[P0]
 have hof:(ofW n).length=2:=by rw[Ng];rfl
 have hnat:(n.natAbs:Int)=if n<0 then-n else n:=by omega
 have hab:n.natAbs<=128:=by omega
 rw[Ng]at h1 hneg hof⊢;generalize n.natAbs=a at h1 hnat hab;refine MX om ?_
 (repeat' first|simp(disch:=omega)only[go_sem,simprocAttr]|refine Sx.s ?_ ?_<;>try(intro h;have h':=h;try simp only[HB]at h';try simp only[h])|refine Ab (h1) ?_|refine Ab (h3) ?_|refine Ab (h2) ?_|refine Ac ?_|(refine And.intro ?_ ?_;focus omega))
 refine A4 [1,2,6,7] (by simp only[V0,JK,reduceIte,Nat.reduceEqDiff];rfl) (fun r:Nat=>[(8,rst r),(9,.i (iI ((a/2 ^ r:Nat):Int))),(10,.i (iI ((r:Int)-1)))]) Nh
  (fun r=>r<=128) (fun r=>r) 128 (by omega) (by simp[V0,H0,JJ,Ref.nm,rst,Nh,Gb];omega) ?_
 intro r hr;have hz8:(8<=Gb.length)=True:=Za8 (by decide);have hzt:(Gb.map AT).take 8=Gb.map AT:=rfl;cases r with
 |zero=>
  rw[show rst 0=.i (.sl (Gb.map AT))from rfl,show Nh 0=[]from rfl,show(((0:Nat):Int)-1)=-1 from rfl]
  (repeat' first|simp(disch:=omega)only[go_sem,simprocAttr,Nat.pow_zero,Nat.div_one]|refine Sx.s ?_ ?_<;>try(intro h;have h':=h;try simp only[HB]at h';try simp only[h])|refine Ab (Zg 0 (.inl rfl)) ?_|refine Ab (T6 1 0) ?_|refine Ab (T6 0 1) ?_|refine Ac ?_|refine Sz.s ?_|fail)
  ·exfalso;omega
  all_goals(refine Zae (fun m=>I.tup [I.int .i64 m,I.bool true]) ?_;simp only[hsg]at*;by_cases hn0:n<0<;>simp_all<;>omega)
 |succ i=>
  have q1:(((i+1:Nat):Int)-1)=(i:Int):=by omega
  have q2:((i:Int)≥0)=True:=Za8 (by omega);have q3:(i:Int).tdiv 16=((i/16:Nat):Int):=by rfl
  have q4:(i:Int).tmod 16=((i%16:Nat):Int):=by rfl
  have q5:(((i/16:Nat):Int)<((Di (a:Int)).length:Int))=True:=Za8 (by show((i/16:Nat):Int)<8;omega);have q6:=sO (a:Int) (i/16) (by omega);have q7:=sR a i hab (by omega);have q8:=sN a i;have q9:a/2 ^ (i+1)<=128:=Zgw (Nat.div_le_self _ _) hab;have jy:((a/2 ^ i%2:Nat):Int)=0\/((a/2 ^ i%2:Nat):Int)=1:=by omega
  have q10:∃b:Int,((a/2 ^ i%2:Nat):Int)=b/\(b=0\/b=1)/\((a/2 ^ i:Nat):Int)=2*((a/2 ^ (i+1):Nat):Int)+b:=⟨_,rfl,jy,by omega⟩;obtain⟨b,q11,q12,q13⟩:=q10;rw[q11]at q7;generalize hqq:((a/2 ^ (i+1):Nat):Int)=q at q13;have q14:0<=q/\q<=128:=by omega
  have q15:IntKind.i64.wrap (2*q)=2*q:=B3 (by omega) (by omega);have q16:IntKind.i64.wrap (2*q+1)=2*q+1:=B3 (by omega) (by omega);have c1:=Zg (mx:=mx) b q12;have c2:=T6 (mx:=mx) b 1;have e3:rst i=.i (.sl (Gb.map AT)):=Zac (by omega);have e4:Nh i=[]:=Zac (by omega);by_cases h0:i+1=128
  ·have e1:rst (i+1)=.ref (.sl 20 1 0 8):=Zaa h0;have e2:Nh (i+1)=[(20,.rows 3 1 (Gb.map AT))]:=Zaa h0;rw[e1,e2,q1];rcases q12 with rfl|rfl
   ·(repeat' first|simp(disch:=omega)only[go_sem,simprocAttr,q2,q3,q4,q5,q6,q7,q15,hz8,hzt,shV,IntKind.bits]|refine Sx.s ?_ ?_<;>try(intro h;have h':=h;try simp only[HB]at h';try simp only[h])|refine Ab (c1) ?_|refine Ab (c2) ?_|refine Ac ?_|refine Sz.s ?_|fail)
    ·exfalso;omega
    ·refine⟨i,by omega,by omega,⟨by rw[e3];try rfl,by rw[q13];try simp,rfl⟩,?_⟩;rw[e3,e4];simp[H0,JJ]
   ·(repeat' first|simp(disch:=omega)only[go_sem,simprocAttr,q2,q3,q4,q5,q6,q7,q15,q16,hz8,hzt,shV,IntKind.bits]|refine Sx.s ?_ ?_<;>try(intro h;have h':=h;try simp only[HB]at h';try simp only[h])|refine Ab (c1) ?_|refine Ab (c2) ?_|refine Ab (Zh) ?_|refine Ac ?_|refine Sz.s ?_|fail)
    ·exfalso;omega
    ·refine⟨i,by omega,by omega,⟨by rw[e3];try rfl,by rw[q13];try simp,rfl⟩,?_⟩;rw[e3,e4];simp[H0,JJ]
  ·have e1:rst (i+1)=.i (.sl (Gb.map AT)):=Zac h0;have e2:Nh (i+1)=[]:=Zac h0;rw[e1,e2,q1];rcases q12 with rfl|rfl
   ·(repeat' first|simp(disch:=omega)only[go_sem,simprocAttr,q2,q3,q4,q5,q6,q7,q15,shV,IntKind.bits]|refine Sx.s ?_ ?_<;>try(intro h;have h':=h;try simp only[HB]at h';try simp only[h])|refine Ab (c1) ?_|refine Ab (c2) ?_|refine Ac ?_|refine Sz.s ?_|fail)
    ·exfalso;omega
    ·refine⟨i,by omega,by omega,⟨by rw[e3];try rfl,by rw[q13];try simp,rfl⟩,?_⟩;rw[e3,e4];simp[H0,JJ]
   ·(repeat' first|simp(disch:=omega)only[go_sem,simprocAttr,q2,q3,q4,q5,q6,q7,q15,q16,shV,IntKind.bits]|refine Sx.s ?_ ?_<;>try(intro h;have h':=h;try simp only[HB]at h';try simp only[h])|refine Ab (c1) ?_|refine Ab (c2) ?_|refine Ab (Zh) ?_|refine Ac ?_|refine Sz.s ?_|fail)
    ·exfalso;omega
    ·refine⟨i,by omega,by omega,⟨by rw[e3];try rfl,by rw[q13];try simp,rfl⟩,?_⟩;rw[e3,e4];simp[H0,JJ]
end
section
def eqL{α β:Type}(p:α->β->Bool):List α->List β->Bool
 |[],[]=>true
 |x::a,y::b=>p x y&&eqL p a b
 |_,_=>false
theorem eqL_len{α β:Type}{p:α->β->Bool}:∀{a:List α} {b:List β},a.length≠b.length->eqL p a b=false
 |[],[],h=>(h rfl).elim
 |[],_::_,_=>rfl
 |_::_,[],_=>rfl
 |x::a,y::b,h=>by simp only[eqL];rw[eqL_len (by simpa using h),Zb0]
theorem T7{α:Type}[DecidableEq α]{p:α->α->Bool}(hp:∀x y,p x y=decide (x=y)):∀a b:List α,eqL p a b=decide (a=b)
 |[],[]=>by simp[eqL]
 |[],_::_=>by simp[eqL]
 |_::_,[]=>by simp[eqL]
 |x::a,y::b=>by simp only[eqL,hp,T7 hp a b];rw[Zb2];simp
theorem Dj{α:Type}[Inhabited α]{l:List α}{i:Nat}(h:i<l.length):l.drop i=l.getD i default::l.drop (i+1):=by simp_all
theorem HJ{α β:Type}[Inhabited α][Inhabited β]{p:α->β->Bool}{a:List α}{b:List β}{i:Nat}{q:Bool}(h:q=eqL p (a.drop i) (b.drop i))(ha:i<a.length)(hb:i<b.length):
  q=(p (a.getD i default) (b.getD i default)&&eqL p (a.drop (i+1)) (b.drop (i+1))):=by
 rw[h,Dj ha,Dj hb,eqL]
theorem HK{α β:Type}{p:α->β->Bool}{a:List α}{b:List β}{i:Nat}{q:Bool}(h:q=eqL p (a.drop i) (b.drop i))(ha:a.length<=i)(hb:b.length<=i):q=true:=by rw[h,Zdc ha,Zdc hb,eqL]
theorem Jn{q c r:Bool}(h:q=(c&&r))(hc:(!c)=true):false=q:=by grind
theorem It{q c r:Bool}(h:q=(c&&r))(hc:(!c)=false):q=r:=by grind
def FG(x y:Fac):Bool:=x.name==y.name&&x.exp==y.exp
def Jo(x y:Fid):Bool:=x.source==y.source&&x.seq==y.seq
def Dw(x y:Val):Bool:=x.kind==y.kind&&(x.n==y.n&&x.s==y.s)
theorem Zi(x y:Fac):FG x y=decide (x=y):=by cases x;cases y;rw[Zb2];simp[FG]
theorem sU(x y:Val):Dw x y=decide (x=y):=by cases x;cases y;rw[Zb2];simp[Dw]
theorem Zj(a b:List Fac)(ha:a.length<=1073741824)(hb:b.length<=1073741824):Is mx 186 [.sl (a.map Ax),.sl (b.map Ax)] (.bool (eqL FG a b)):=by
 refine MX mD ?_;refine eP (cj ?_ ?_)
 ·intro _ _;exact Zae I.bool (eqL_len (by omega)).symm
 ·intro h h';refine lS [0,1] (fun i=>[(5,.i (iI i))]) (fun _=>[]) (fun i=>eqL FG a b=eqL FG (a.drop i) (b.drop i)) a.length ?_;intro i hi jb;by_cases ja:i<a.length
  ·have jx:i<b.length:=by omega
   have jf:=HJ jb ja jx;have hma:=At ja;have hmb:=At jx;refine Ka (cj (BV ja) (BV jx)) (cj ?_ ?_)
   ·intro h h';exact Zae I.bool (Jn jf h)
   ·intro h h';exact It jf h
  ·refine FU (Hi ja) ?_;exact Zae I.bool (HK jb (by omega) (by omega)).symm
theorem T8(a b:List Fid)(ha:a.length<=1073741824)(hb:b.length<=1073741824):Is mx 20 [.sl (a.map Am),.sl (b.map Am)] (.bool (eqL Jo a b)):=by
 refine MX F20 ?_;refine eP (cj ?_ ?_)
 ·intro _ _;exact Zae I.bool (eqL_len (by omega)).symm
 ·intro h h';refine lS [0,1] (fun i=>[(5,.i (iI i))]) (fun _=>[]) (fun i=>eqL Jo a b=eqL Jo (a.drop i) (b.drop i)) a.length ?_;intro i hi jb;by_cases ja:i<a.length
  ·have jx:i<b.length:=by omega
   have jf:=HJ jb ja jx;have hma:=At ja;have hmb:=At jx;refine Ka (cj (BV ja) (BV jx)) (cj ?_ ?_)
   ·intro h h';exact Zae I.bool (Jn jf h)
   ·intro h h';exact It jf h
  ·refine FU (Hi ja) ?_;exact Zae I.bool (HK jb (by omega) (by omega)).symm
theorem sV(a b:List Val)(ha:a.length<=1073741824)(hb:b.length<=1073741824):Is mx 57 [.sl (a.map Bi),.sl (b.map Bi)] (.bool (eqL Dw a b)):=by
 refine MX F57 ?_;refine eP (cj ?_ ?_)
 ·intro _ _;exact Zae I.bool (eqL_len (by omega)).symm
 ·intro h h';refine lS [0,1] (fun i=>[(5,.i (iI i))]) (fun _=>[]) (fun i=>eqL Dw a b=eqL Dw (a.drop i) (b.drop i)) a.length ?_;intro i hi jb;by_cases ja:i<a.length
  ·have jx:i<b.length:=by omega
   have jf:=HJ jb ja jx;have hma:=At ja;have hmb:=At jx;refine Ka (cj (BV ja) (BV jx)) (cj ?_ ?_)
   ·intro h h';exact Zae I.bool (Jn jf h)
   ·intro h h';exact It jf h
  ·refine FU (Hi ja) ?_;exact Zae I.bool (HK jb (by omega) (by omega)).symm
theorem sW(a b:List Val)(ha:a.length<=1073741824)(hb:b.length<=1073741824):Is mx 130 [.sl (a.map Bi),.sl (b.map Bi)] (.bool (eqL Dw a b)):=by
 refine MX oF ?_;refine eP (cj ?_ ?_)
 ·intro _ _;exact Zae I.bool (eqL_len (by omega)).symm
 ·intro h h';refine lS [0,1] (fun i=>[(5,.i (iI i))]) (fun _=>[]) (fun i=>eqL Dw a b=eqL Dw (a.drop i) (b.drop i)) a.length ?_;intro i hi jb;by_cases ja:i<a.length
  ·have jx:i<b.length:=by omega
   have jf:=HJ jb ja jx;have hma:=At ja;have hmb:=At jx;refine Ka (cj (BV ja) (BV jx)) (cj ?_ ?_)
   ·intro h h';exact Zae I.bool (Jn jf h)
   ·intro h h';exact It jf h
  ·refine FU (Hi ja) ?_;exact Zae I.bool (HK jb (by omega) (by omega)).symm
def LI(a b:Typ):Bool:=decide (a.kind=b.kind)&&decide (a.of=b.of)&&eqL FG a.unit b.unit
theorem Zk(a b:Typ)(ha:a.unit.length<=1073741824)(hb:b.unit.length<=1073741824):Is mx 131 [.agg (Aq a),.agg (Aq b)] (.bool (LI a b)):=by
 refine MX pH ?_
 (repeat' first|exact Ao _|simp only[go_sem,simprocAttr]|refine' Av (fun hq=>?_) (fun f=>?_)<;>try(have jd:=hq;try simp only[HB]at jd)|refine Ab (Zj _ _ ha hb) ?_|refine Sz.s ?_|fail)
 all_goals rfl
theorem Q7{q g r:Bool}(h:q=(!g&&r))(hg:g=true):false=q:=by grind
theorem Q8{q g r:Bool}(h:q=(!g&&r))(hg:g=false):q=r:=by grind
mutual
def eU:Xpr->Xpr->Bool
 |.mk k o n t v u p w a,y=>!(decide (k≠y.kind)||decide (o≠y.op)||decide (n≠y.name)||decide (t≠y.table)||!Dw v y.val||decide (p≠y.param)||!(w.kind==y.win.kind&&w.size==y.win.size)||decide ((a.length:Int)≠y.args.length)||!eqL FG u y.unit)&&eqXs a y.args
def eqXs:List Xpr->List Xpr->Bool
 |[],[]=>true
 |x::a,y::b=>eU x y&&eqXs a b
 |_,_=>false
end
theorem Zl:∀a b:List Xpr,eqXs a b=eqL eU a b
 |[],[]=>rfl
 |[],_::_=>rfl
 |_::_,[]=>rfl
 |x::a,y::b=>by simp only[eqXs,eqL,Zl a b]
theorem Pf(x y:Xpr):eU x y=(!(decide (x.kind≠y.kind)||decide (x.op≠y.op)||decide (x.name≠y.name)||decide (x.table≠y.table)||!Dw x.val y.val||decide (x.param≠y.param)||!(x.win.kind==y.win.kind&&x.win.size==y.win.size)||decide ((x.args.length:Int)≠y.args.length)||!eqL FG x.unit y.unit)&&eqL eU x.args y.args):=by cases x;cases y;simp only[eU,Zl,Xpr.kind,Xpr.op,Xpr.name,Xpr.table,Xpr.val,Xpr.unit,Xpr.param,Xpr.win,Xpr.args];rfl
theorem sX:∀(m:Nat) (a b:Xpr),Bj a<=m->bX a<=1073741824->bX b<=1073741824->Is mx 132 [.agg (eE a),.agg (eE b)] (.bool (eU a b)):=by
 intro m
 induction m with
 |zero=>intro a b h;have:=E8 a;omega
 |succ m ih=>
  intro a b hm hA hB;have hua:a.unit.length<=1073741824:=by grind[Im]
  have hub:b.unit.length<=1073741824:=by grind[Im]
  have hla:a.args.length<=1073741824:=by grind[LC]
  have j0:=D3 a;refine MX mr ?_;refine EV @Zj (cj ?_ ?_)
  ·intro h h';exact Zae I.bool (Q7 (Pf a b) h)
  ·intro h h';have je:a.args.length=b.args.length:=by omega
   rw[Q8 (Pf a b) h];refine lS [2,3] (fun i=>[(5,.i (iI i))]) (fun _=>[]) (fun i=>eqL eU a.args b.args=eqL eU (a.args.drop i) (b.args.drop i)) a.args.length ?_;intro i hi jb;by_cases ja:i<a.args.length
   ·have jx:i<b.args.length:=by omega
    have jf:=HJ jb ja jx;have h1:=ih (a.args.getD i default) (b.args.getD i default) (by have:=GW a.args i ja;have:=E7 a.args (i+1);rw[AK ja];omega) (by have:=Fa (At ja);omega) (by have:=Fa (At jx);omega);refine Ka (cj h1 (cj (BV ja) (BV jx))) (cj ?_ ?_)
    ·intro h h';exact Zae I.bool (Jn jf h)
    ·intro h h';exact It jf h
   ·refine FU (Hi ja) ?_;exact Zae I.bool (HK jb (by omega) (by omega)).symm
end
section
theorem Jp{α:Type}[Inhabited α]{p:α->Bool}:∀{l:List α} {i:Nat},(l.take i).all p=true->i<=l.length->(i=l.length\/p (l.getD i default)=false)->(l.takeWhile p).length=i
 |[],i,_,hi,_=>by simp_all
 |a::l,0,_,_,hs=>by simp_all
 |a::l,i+1,h,hi,hs=>by simp only[Zgg,Zct,Zbz]at h;rw[Zf7,Zaa h.1,Zem,Jp h.2 (by simpa using hi) (by simpa using hs)]
def HL(l:List AQ)(s:AQ):Nat:=(l.takeWhile fun y=>Op.bytesLess y s).length
theorem sY(l:List AQ)(s:AQ):HL l s<=l.length:=Zcs (Zf9 _)
def BY(l:List AQ)(s:AQ):List AQ:=if HL l s<l.length/\l.getD (HL l s) default=s then l else l.take (HL l s)++[s]++l.drop (HL l s)
theorem T9(l:List AQ)(s:AQ):(BY l s).length<=l.length+1:=by grind[BY]
abbrev BC(s:AQ):List I:=[.str s]
theorem Q9(l:List AQ):(∀r∈l.map BC,r.length=1)=True:=Za8 (by simp)
theorem Ra(l:List AQ):(∀r∈l.map BC,r.all I.one=true)=True:=Za8 (by simp[I.one])
theorem Pg(s:AQ):(∀r∈[[I.str s]],r.length=1)=True:=Za8 (by simp)
theorem Ph(s:AQ):(∀r∈[[I.str s]],r.all I.one=true)=True:=Za8 (by simp[I.one])
def D6(out:List AQ):List Fac->List AQ
 |[]=>out
 |f::r=>D6 (BY out f.name) r
def nmS(b:Bool)(n:Nat):D:=if b=true then .ref (.sl 6 1 0 n)else .ref (.sl 3 1 0 n)
def nmB(b:Bool)(l:List AQ):List (Nat×Blk):=if b=true then[(6,.rows 9 1 (l.map BC)),(2,.rows 9 1 [])]else[(3,.rows 9 1 (l.map BC)),(2,.rows 9 1 [])]
theorem sZ(l:List Fac)(hl:l.length<=1000):Is mx 344 [.sl (l.map Ax)] (.sl ((D6 [] l).map BC)):=by
 refine MX qN ?_
 (repeat' first|simp(disch:=omega)only[go_sem,reduceCtorEq,Nat.reduceEqDiff]|fail)
 refine A4 [0] (by simp only[V0,JK,reduceIte,Nat.reduceEqDiff];rfl) (fun g:Bool×Nat×List AQ=>[(3,nmS g.1 g.2.2.length),(4,.i (iI g.2.1))]) (fun g=>nmB g.1 g.2.2)
  (fun g=>g.2.1<=l.length/\D6 g.2.2 (l.drop g.2.1)=D6 [] l/\g.2.2.length<=g.2.1/\(g.1=false->g.2.2=[])) (fun g=>l.length-g.2.1) (false,0,[]) (by simp) (by simp[nmS,nmB,V0,H0,JJ,Ref.nm]) ?_
 rintro⟨b,i,out⟩ ⟨hi,hn,hol,hb⟩;simp only at hi hn hol hb;by_cases ja:i<l.length
 ·have vw:=sY out (l.getD i default).name;rw[Dj ja,D6]at hn;cases b
  ·obtain rfl:=hb rfl;have jo:BY [] (l.getD i default).name=[(l.getD i default).name]:=by rfl
   rw[jo]at hn;simp only[nmS,nmB];refine A8 (BV ja) ?_;refine lT [0,3,4] (fun k:Nat=>[(5,.i (iI k))]) (fun _=>[(3,.rows 9 1 []),(2,.rows 9 1 [])]) (fun k=>k=0) (fun k=>k) 0 ?_ rfl;rintro k rfl
   (repeat' first|simp(disch:=omega)only[go_sem,reduceCtorEq,Int.reduceLE,Nat.reduceAdd,Nat.reduceMul,Nat.reduceEqDiff,Nat.reduceLeDiff,BV ja,Zg8,Zg6,Zeu,Zcl]|refine Ac ?_|refine Au ?_|(refine And.intro ?_ ?_;focus omega))
   refine⟨by simp,by simp,by simp,by simp[I.one],by simp,by simp,by simp,by simp,(true,i+1,[(l.getD i default).name]),⟨by show i+1<=_;omega,hn,by show 1<=i+1;omega,by simp⟩,by show l.length-(i+1)<_;omega,?_⟩;simp[V0,H0,JJ,Ref.nm]
  ·skip
   simp only[nmS,nmB];refine A8 (BV ja) ?_;refine lT [0,3,4] (fun k:Nat=>[(5,.i (iI k))]) (fun _=>[(6,.rows 9 1 (out.map BC)),(2,.rows 9 1 [])]) (fun k=>k<=out.length/\(out.take k).all (fun y=>Op.bytesLess y (l.getD i default).name)=true) (fun k=>out.length-k) 0 ?_ (by simp);rintro k ⟨hk,jj⟩;by_cases jk:k<out.length
   ·cases kz:Op.bytesLess (out.getD k default) (l.getD i default).name
    ·have kp:HL out (l.getD i default).name=k:=Jp jj hk (.inr kz);by_cases wd:out.getD k default=(l.getD i default).name
     ·have jo:BY out (l.getD i default).name=out:=Zaa (by rw[kp];exact⟨jk,wd⟩);rw[jo]at hn
      (repeat' first|simp(disch:=omega)only[go_sem,reduceCtorEq,Nat.reduceAdd,Nat.reduceEqDiff,Nat.reduceLeDiff,BV ja,BV jk,kz,Za8 wd,Zg8,Zg6]|refine Ac ?_|refine Au ?_|(refine And.intro ?_ ?_;focus omega))
      refine⟨(true,i+1,out),⟨by show i+1<=_;omega,hn,by show out.length<=i+1;omega,by simp⟩,by show l.length-(i+1)<_;omega,?_⟩;simp[V0,H0,JJ,Ref.nm]
     ·have jo:BY out (l.getD i default).name=_:=Zac (by rw[kp];rintro⟨_,h⟩;exact wd h);rw[kp]at jo;rw[jo]at hn;have vq:min k out.length=k:=by omega
      have hleT:(k<=out.length)=True:=Za8 (by omega)
      (repeat' first|simp(disch:=omega)only[go_sem,reduceCtorEq,Int.reduceLE,Nat.reduceAdd,Nat.reduceEqDiff,Nat.reduceLeDiff,BV ja,BV jk,kz,Za9 wd,<-Ze7,<-Ze2,Q9,Ra,Pg,Ph,Zes,Zex,Zen,Zg8,Zg6,Zg0,Zgd,Zgi,vq]|refine Ac ?_|refine Au ?_|(refine And.intro ?_ ?_;focus omega))
      refine⟨(true,i+1,out.take k++[(l.getD i default).name]++out.drop k),⟨by show i+1<=_;omega,hn,by simp;omega,by simp⟩,by show l.length-(i+1)<_;omega,?_⟩;have je:(out.take k++[(l.getD i default).name]++out.drop k).length=k+1+(out.length-k):=by simp;omega
      simp[V0,H0,JJ,Ref.nm,vq];refine⟨by omega,?_⟩;rw[Zgf (by simp;omega),Zc0];rfl
    ·refine lY (cj (BV ja) (cj (BV jk) kz)) ?_;exact⟨k+1,⟨by omega,BW (d:=default) jj jk kz⟩,by omega,rfl⟩
   ·have kp:HL out (l.getD i default).name=k:=Jp jj hk (.inl (by omega));have jo:BY out (l.getD i default).name=_:=Zac (by rw[kp];omega);rw[kp]at jo;rw[jo]at hn;have vq:min k out.length=k:=by omega
    have hleT:(k<=out.length)=True:=Za8 (by omega)
    (repeat' first|simp(disch:=omega)only[go_sem,reduceCtorEq,Int.reduceLE,Nat.reduceAdd,Nat.reduceEqDiff,Nat.reduceLeDiff,BV ja,Hi jk,<-Ze7,<-Ze2,Q9,Ra,Pg,Ph,Zes,Zex,Zen,Zg8,Zg6,Zg0,Zgd,Zgi,vq]|refine Ac ?_|refine Au ?_|(refine And.intro ?_ ?_;focus omega))
    refine⟨(true,i+1,out.take k++[(l.getD i default).name]++out.drop k),⟨by show i+1<=_;omega,hn,by simp;omega,by simp⟩,by show l.length-(i+1)<_;omega,?_⟩;have je:(out.take k++[(l.getD i default).name]++out.drop k).length=k+1+(out.length-k):=by simp;omega
    simp[V0,H0,JJ,Ref.nm,vq];refine⟨by omega,?_⟩;rw[Zgf (by simp;omega),Zc0];rfl
 ·have e:i=l.length:=by omega
  rw[e,Zdb,D6]at hn;cases b
  ·obtain rfl:=hb rfl;simp only[nmS,nmB];refine A8 (Hi ja) ?_;rw[<-hn];rfl
  ·simp only[nmS,nmB];have ji:(out.length<=out.length)=True:=Za8 (by omega);have kc:(out.map BC).take out.length=out.map BC:=Zgf (by simp);refine A8 (cj (Hi ja) (cj ji kc)) ?_;rw[hn]
end
section
theorem A1{α:Type}{f:α->List I}{k:Nat}(l:List α)(h1:∀x,(f x).length=k)(h2:∀x,(f x).all I.one=true):(∀r∈l.map f,r.length=k)/\∀r∈l.map f,r.all I.one=true:=by grind
theorem Zm(l:List Fac)(hl:l.length<=1073741824):MC Tryz.prog (Mi mx) 336 [.i (.sl (l.map Ax))] [] []
  (fun r s=>r=.ref (.sl 6000 2 0 l.length)/\s=[(6000,.rows 239 2 (l.map Ax))]):=by
 refine MX qL ?_;have hr:=A1 (f:=Ax) (k:=2) l (fun _=>rfl) (fun _=>rfl)
 (repeat' first|simp only[go_sem,simprocAttr,Zg8]|refine Sx.s ?_ ?_<;>try(intro h;have h':=h;try simp only[HB]at h';try rewrite [h];try simp only[h])|refine Ac ?_|refine QM (fun wq b=>?_) (fun wq=>?_)|fail)
 ·have e:l=[]:=by simpa using wq
  subst e;cases h';refine Dv [(2,6000)] ?_;simp[VL]
 ·refine⟨hr.1,hr.2,by omega,by omega,?_⟩;refine Dv [(5,6000)] ?_;simp[VL]
 ·simp at h
 ·refine⟨hr.1,hr.2,by omega,by omega,?_⟩;refine Dv [(5,6000)] ?_;simp[VL]
def D7(a b:List Fac)(sign:Int):List Fac×Int:=
 if Bx a≠0 then([],Bx a)else if Bx b≠0 then([],Bx b)
 else HI (a++b.map fun f=>⟨f.name,sign*f.exp⟩)
theorem Zn:∀(u:List Fac) (p:Option AQ),uc p u=0->∀f∈u,(f.exp≠0/\-8<=f.exp/\f.exp<=8)/\BX f.name=true
 |[],_,_,f,hf=>by simp at hf
 |g::r,p,h,f,hf=>by
  unfold uc at h;by_cases h1:(!BX g.name)=true
  ·rw[Zaa h1]at h;simp at h
  by_cases h2:(decide (g.exp=0)||decide (g.exp>8\/g.exp< -8))=true
  ·rw[Zac h1,Zaa h2]at h;simp at h
  rw[Zac h1,Zac h2]at h;rcases Zfb.1 hf with e|e
  ·subst e;simp only[Zcb,Za0]at h2;exact⟨by omega,by simpa using h1⟩
  ·have h3:uc (some g.name) r=0:=by
    split at h
    ·split at h<;>first|(simp at h;done)|exact h
    ·split at h<;>first|(simp at h;done)|exact h
   exact Zn r _ h3 f e
theorem Pj{u:List Fac}(h:Bx u=0):u.length<=4/\∀f∈u,(f.exp≠0/\-8<=f.exp/\f.exp<=8)/\BX f.name=true:=by
 unfold Bx at h;split at h
 ·simp at h
 ·exact⟨by omega,Zn u none h⟩
theorem Zo(a b:List Fac)(sign:Int)(ha:a.length<=1073741824)(hb:b.length<=1073741824)(hs:sign=1\/sign=-1):Is mx 329 [.sl (a.map Ax),.sl (b.map Ax),iI sign] (fe (D7 a b sign)):=by
 refine MX oe ?_
 (repeat' first|simp(disch:=omega)only[go_sem,simprocAttr]|(first|refine D2 (Zm a ha) ?_ (fun r sto' hR=>?_)|refine Dg (Zm a ha) ?_ (fun r sto' hR=>?_);(focus(first|rfl|(simp only[go_sem,simprocAttr];done)));first|(obtain⟨rfl,rfl⟩:=hR)|(obtain⟨_,(rfl|rfl),rfl,rfl⟩:=hR))|refine Sx.s ?_ ?_<;>try(intro h;have h':=h;try simp only[HB]at h';try rewrite [h];try simp only[h])|refine Ab (TJ _ ha) ?_|refine Ab (TJ _ hb) ?_|refine Ac ?_|refine Sz.s ?_|fail)
 ·simp[D7,h',fe]
 ·simp only[D7,fe];grind
 have ha':Bx a=0:=by grind
 obtain⟨ha4,hae⟩:=Pj ha';obtain⟨hb4,hbe⟩:=Pj h';refine lT [2,25,26] (fun g:Nat×List Fac=>[(10,.ref (.sl 24 2 0 g.2.length)),(27,.i (iI g.1))]) (fun g=>[(24,.rows 239 2 (g.2.map Ax)),(6,.rows 239 2 [])]) (fun g=>g.1<=b.length/\g.2=a++(b.take g.1).map fun f=>(⟨f.name,sign*f.exp⟩:Fac)) (fun g=>b.length-g.1) (0,a) ?_;rintro⟨i,u⟩ ⟨hi,hu⟩;simp only at hi hu;have qg:u.length=a.length+i:=by grind
 by_cases ja:i<b.length
 ·have hm:=hbe _ (At ja);have e1:IntKind.i64.wrap (sign*(b.getD i default).exp)=sign*(b.getD i default).exp:=by grind[B3]
  refine A8 (cj (BV ja) e1) ?_;refine⟨by simp,by simp[I.one],by omega,by omega,⟨i+1,u++[⟨(b.getD i default).name,sign*(b.getD i default).exp⟩]⟩,⟨by omega,?_⟩,by show b.length-(i+1)<_;omega,⟨by simp,rfl⟩,by simp[Ax]⟩;rw[hu,Zgh ja,Zez,Zc0,AK ja];rfl
 ·have e:i=b.length:=by omega
  subst e;rw[Zgd]at hu;have hx:∀f∈u,-9223372036854775808<=f.exp/\f.exp<=9223372036854775807:=by grind
  have hp:D7 a b sign=HI u:=by grind[D7]
  refine EV (cj @rT (cj (Hi ja) @fe.eq_1)) ?_;rw[hp]
theorem s4(a b:List Fac)(ha:a.length<=1073741824)(hb:b.length<=1073741824):Is mx 313 [.sl (a.map Ax),.sl (b.map Ax)] (fe (D7 a b 1)):=by refine MX mZ ?_;exact EV (cj @Zo @fe.eq_1) trivial
theorem s5(a b:List Fac)(ha:a.length<=1073741824)(hb:b.length<=1073741824):Is mx 314 [.sl (a.map Ax),.sl (b.map Ax)] (fe (D7 a b (-1))):=by refine MX n0 ?_;exact EV (cj @Zo @fe.eq_1) trivial
end
section
theorem s6(p:Tbl->Bool)(l:List Tbl)(f:Nat)(fs cs:List I)(hl:l.length<=1073741824)(hp:∀x∈l,Is mx f (fs++[.agg (AS x)]++cs) (.bool (p x))):
  Is mx 252 [.sl (l.map AS),.fn f fs cs] (iI (Br p l)):=by
 refine MX p5 ?_;refine Od ?_;refine lS [0,1,7] (fun i=>[(8,.i (iI i))]) (fun _=>[]) (fun i=>∀j (h:j<l.length),j<i->p l[j]=false) l.length ?_;intro i hi jb;refine Ka @hp (cj ?_ (cj ?_ ?_))
 ·intro _ _ _ _;refine Zae (I.int .i64) ?_;exact(LA (by omega) (by rw[<-AK (by omega)];assumption) jb).symm
 ·intro _ _ _ _;intro j hj hji;by_cases e:j=i
  ·subst e;rw[<-AK hj];assumption
  ·exact jb j hj (by omega)
 ·intro _ _;refine Zae (I.int .i64) ?_;exact(LB fun j hj=>jb j hj (by omega)).symm
theorem Zp(p:Fld->Bool)(l:List Fld)(f:Nat)(fs cs:List I)(hl:l.length<=1073741824)(hp:∀x∈l,Is mx f (fs++[.agg (B2 x)]++cs) (.bool (p x))):
  Is mx 206 [.sl (l.map B2),.fn f fs cs] (iI (Br p l)):=by
 refine MX oQ ?_;refine Od ?_;refine lS [0,1,7] (fun i=>[(8,.i (iI i))]) (fun _=>[]) (fun i=>∀j (h:j<l.length),j<i->p l[j]=false) l.length ?_;intro i hi jb;refine Ka @hp (cj ?_ (cj ?_ ?_))
 ·intro _ _ _ _;refine Zae (I.int .i64) ?_;exact(LA (by omega) (by rw[<-AK (by omega)];assumption) jb).symm
 ·intro _ _ _ _;intro j hj hji;by_cases e:j=i
  ·subst e;rw[<-AK hj];assumption
  ·exact jb j hj (by omega)
 ·intro _ _;refine Zae (I.int .i64) ?_;exact(LB fun j hj=>jb j hj (by omega)).symm
theorem Ua(p:Ftr->Bool)(l:List Ftr)(f:Nat)(fs cs:List I)(hl:l.length<=1073741824)(hp:∀x∈l,Is mx f (fs++[.agg (Af x)]++cs) (.bool (p x))):
  Is mx 199 [.sl (l.map Af),.fn f fs cs] (iI (Br p l)):=by
 refine MX pQ ?_;refine Od ?_;refine lS [0,1,7] (fun i=>[(8,.i (iI i))]) (fun _=>[]) (fun i=>∀j (h:j<l.length),j<i->p l[j]=false) l.length ?_;intro i hi jb;refine Ka @hp (cj ?_ (cj ?_ ?_))
 ·intro _ _ _ _;refine Zae (I.int .i64) ?_;exact(LA (by omega) (by rw[<-AK (by omega)];assumption) jb).symm
 ·intro _ _ _ _;intro j hj hji;by_cases e:j=i
  ·subst e;rw[<-AK hj];assumption
  ·exact jb j hj (by omega)
 ·intro _ _;refine Zae (I.int .i64) ?_;exact(LB fun j hj=>jb j hj (by omega)).symm
theorem Rb{α:Type}[Inhabited α](p:α->Bool)(l:List α):(Br p l<0/\l.find? p=none)\/(0<=Br p l/\(Br p l).toNat<l.length/\l.find? p=some (l.getD (Br p l).toNat default)):=by
 unfold Br;cases h:l.findIdx? p with
 |none=>grind
 |some i=>refine .inr ⟨by simp,?_⟩;obtain⟨hi,hp,hn⟩:=Zdo.1 h;refine⟨by simpa using hi,?_⟩;simp only[Zco,AK hi];rw[Zdm];grind
abbrev Ek(c:Cat)(ent:AQ)(fld:I):List I:=[.sl (c.tables.map AS),.sl (c.features.map Af),.sl (c.drafts.map Af),.sl (c.past.map Af),.str ent,fld]
attribute [go_sem] Ek
def Dx(fs:List Ftr)(name ent:AQ):Typ×Int:=match fs.find? (fun f=>decide (f.name=name))with
 |none=>(AI,4)
 |some f=>if f.entity≠ent then(AI,5)else(f.typ,0)
def Gc(t:Tbl)(name:AQ):Typ×Int:=match t.fields.find? (fun f=>decide (f.name=name))with
 |none=>(AI,4)
 |some f=>(f.typ,0)
theorem s7(f:Ftr)(name:AQ):Is mx 328 [.agg (Af f),.elt [.str name] 0] (.bool (decide (f.name=name))):=by refine MX m7 ?_;exact eS trivial
theorem s8(t:Tbl)(x:Xpr):Is mx 253 [.agg (AS t),.elt (eE x) 0] (.bool (decide (t.name=x.table))):=by refine MX mP ?_;exact eS trivial
theorem s9(f:Fld)(name:AQ):Is mx 255 [.agg (B2 f),.elt [.str name] 0] (.bool (decide (f.name=name))):=by refine MX pb ?_;exact eS trivial
theorem Zq(c:Cat)(ent e0:AQ)(fld:I)(name:AQ)(hc:c.features.length<=1073741824):Is mx 312 [.agg (Ek c e0 fld),.str name,.str ent] (AC (Dx c.features name ent)):=by
 refine MX qG ?_;have hI:=Ua (mx:=mx) (fun f=>decide (f.name=name)) c.features 328 [] [.elt [.str name] 0] hc (fun x _=>s7 x name);have hF:=Rb (fun f:Ftr=>decide (f.name=name)) c.features;generalize Br (fun f:Ftr=>decide (f.name=name)) c.features=q at hI hF;rcases hF with⟨hq,hf⟩|⟨hq,jn,hf⟩
 ·refine EV (cj hI (cj @CX hq)) ?_;simp[Dx,hf,AC,Aq,AI]
 ·(repeat' first|simp(disch:=omega)only[go_sem,simprocAttr,Za9 (Zcn.2 hq)]|refine Sx.s ?_ ?_<;>try(intro h;have h':=h;try simp only[HB]at h';try simp only[h])|refine Ab (hI) ?_|refine Ab (CX _) ?_|refine Ac ?_|refine Sz.s ?_|(refine And.intro ?_ ?_;focus omega))
  all_goals(simp only[Dx,hf,Zaj,h',Za3,Zat,Zad,Zag];rfl)
theorem ta(t:Tbl)(name:AQ)(ht:t.fields.length<=1073741824):Is mx 254 [.str name,.elt (AS t) 0] (AC (Gc t name)):=by
 refine MX nR ?_;have hI:=Zp (mx:=mx) (fun f=>decide (f.name=name)) t.fields 255 [] [.elt [.str name] 0] ht (fun x _=>s9 x name);have hF:=Rb (fun f:Fld=>decide (f.name=name)) t.fields;generalize Br (fun f:Fld=>decide (f.name=name)) t.fields=q at hI hF;rcases hF with⟨hq,hf⟩|⟨hq,jn,hf⟩
 ·refine EV (cj hI (cj @CX hq)) ?_;simp[Gc,hf,AC,Aq,AI]
 ·refine Ka (cj hI (Zcn.2 hq)) ?_
  all_goals intros
  all_goals(simp only[Gc,hf];rfl)
end
section
abbrev Kp:Typ:=⟨1,[],[]⟩
def Pk:AQ:=[100,105,115,116,105,110,99,116]
def Ub:AQ:=[102,105,114,115,116]
def Uc:AQ:=[108,97,115,116]
def Rc:AQ:=[109,105,110]
def Re:AQ:=[109,97,120]
def Ni:AQ:=[109,101,97,110]
def Nj:AQ:=[45]
def Ud:AQ:=[110,117,108,108]
def Pl:AQ:=[110,111,116]
def Nk(op:AQ)(a b:Typ):Typ×Int:=
 if b.kind≠1 then(AI,5)else if op=HF\/op=Pk then(⟨2,[],[]⟩,0)else if op=Ub\/op=Uc then(a,0)
 else if(op=Rc\/op=Re)/\a.kind=4 then(a,0)else if CS a=false then(AI,5)else if op=Ni\/op=GX then(⟨3,a.unit,[]⟩,0)else(a,0)
def Nl(op:AQ)(a:Typ):Typ×Int:=
 if op=Nj/\CS a=true then(a,0)else if op=Ud\/(op=Pl/\a.kind=1)then(Kp,0)else(AI,5)
theorem tc(c:Cat)(e0:AQ)(fld:I)(x:Xpr)(l:List Typ):Is mx 281 [.agg (Ek c e0 fld),.agg (eE x),.sl (l.map Aq)] (AC (⟨x.val.kind,x.unit,x.name⟩,0)):=by refine MX qB ?_;exact FU @AC.eq_1 trivial
theorem td(c:Cat)(e0:AQ)(t:Tbl)(x:Xpr)(l:List Typ)(ht:t.fields.length<=1073741824):Is mx 282 [.agg (Ek c e0 (.fn 254 [] [.elt (AS t) 0])),.agg (eE x),.sl (l.map Aq)] (AC (Gc t x.name)):=by refine MX mU ?_;exact EV (cj @ta @AC.eq_1) trivial
theorem te(c:Cat)(e0:AQ)(fld:I)(x:Xpr)(l:List Typ)(hc:c.features.length<=1073741824):Is mx 283 [.agg (Ek c e0 fld),.agg (eE x),.sl (l.map Aq)] (AC (Dx c.features x.name e0)):=by refine MX nV ?_;exact EV (cj @Zq @AC.eq_1) trivial
theorem tf(c:Cat)(e0:AQ)(fld:I)(x:Xpr)(l:List Typ)(hc:c.features.length<=1073741824)(hl:0<l.length):Is mx 284 [.agg (Ek c e0 fld),.agg (eE x),.sl (l.map Aq)] (AC (if(l.getD 0 default).kind≠5 then(AI,5)else Dx c.features x.name (l.getD 0 default).of)):=by
 refine MX ph ?_;have hl2:(0:Int)<l.length:=by omega
 (repeat' first|simp(disch:=omega)only[go_sem,simprocAttr,AC]|refine Sx.s ?_ ?_<;>try(intro h;have h':=h;try simp only[HB]at h';try rewrite [h];try simp only[h])|refine Ab (Zq c _ _ _ _ hc) ?_|refine Ab (CX _) ?_|refine Ac ?_|refine Au ?_|refine Sz.s ?_|(refine And.intro ?_ ?_;focus omega))
 all_goals grind[AC,Aq]
theorem tg(c:Cat)(e0:AQ)(fld:I)(x:Xpr)(l:List Typ)(hl:0<l.length):Is mx 286 [.agg (Ek c e0 fld),.agg (eE x),.sl (l.map Aq)] (AC (Nl x.op (l.getD 0 default))):=by
 refine MX mV ?_;have hl2:(0:Int)<l.length:=by omega
 (repeat' first|exact Ao _|simp(disch:=omega)only[go_sem,simprocAttr]|refine' Av (fun hq=>?_) (fun f=>?_)<;>try(have jd:=hq;try simp only[HB]at jd)|refine Sx.s ?_ ?_<;>try(intro h;have h':=h;try simp only[HB]at h';try rewrite [h];try simp only[h])|refine Ab (CX _) ?_|refine Ab (O0 (l.getD 0 default)) ?_|refine Ac ?_|refine Sz.s ?_|(refine And.intro ?_ ?_;focus omega))
 all_goals(simp only[Nl,Nj,Ud,Pl,Kp,AI];grind[AC,Aq])
theorem th(c:Cat)(e0:AQ)(fld:I)(x:Xpr)(l:List Typ)(hl:1<l.length):Is mx 285 [.agg (Ek c e0 fld),.agg (eE x),.sl (l.map Aq)] (AC (Nk x.op (l.getD 0 default) (l.getD 1 default))):=by
 refine MX qC ?_;have hl2:(1:Int)<l.length:=by omega
 (repeat' first|exact Ao _|simp(disch:=omega)only[go_sem,simprocAttr]|refine' Av (fun hq=>?_) (fun f=>?_)<;>try(have jd:=hq;try simp only[HB]at jd)|refine Sx.s ?_ ?_<;>try(intro h;have h':=h;try simp only[HB]at h';try rewrite [h];try simp only[h])|refine Ab (CX _) ?_|refine Ab (O0 (l.getD 0 default)) ?_|refine Ac ?_|refine Sz.s ?_|(refine And.intro ?_ ?_;focus omega))
 all_goals(simp only[Nk,HF,Pk,Ub,Uc,Rc,Re,Ni,GX,AI];grind[AC,Aq])
def EL(op:AQ)(a b:Typ):Typ×Int:=
 if op=[97,110,100]\/op=[111,114]then(if a.kind=1/\b.kind=1 then(Kp,0)else(AI,5))
 else if op=[61,61]\/op=[33,61]\/op=[60]\/op=[60,61]then
  (if(CS a&&CS b)=true/\a.unit≠b.unit then(AI,70)
   else if(CS a&&CS b)=true\/(if op=[60]\/op=[60,61]then a.kind=4/\b.kind=4 else a.kind=b.kind/\a.of=b.of/\a.unit=b.unit)then(Kp,0)else(AI,5))
 else if(CS a&&CS b)=false then(AI,5)
 else if op=[42]then(if(D7 a.unit b.unit 1).2≠0 then(AI,70)else(⟨max a.kind b.kind,(D7 a.unit b.unit 1).1,[]⟩,0))
 else if op=[47]then(if(D7 a.unit b.unit (-1)).2≠0 then(AI,70)else(⟨3,(D7 a.unit b.unit (-1)).1,[]⟩,0))
 else if(op=[43]\/op=[45])/\a.unit≠b.unit then(AI,70)else(⟨max a.kind b.kind,a.unit,[]⟩,0)
theorem ti(c:Cat)(e0:AQ)(fld:I)(x:Xpr)(l:List Typ)(hl:2<l.length)(hu:(l.getD 1 default).unit.length<=1073741824):Is mx 288 [.agg (Ek c e0 fld),.agg (eE x),.sl (l.map Aq)] (AC (if(l.getD 0 default).kind≠1 then(AI,5)else F4 (l.getD 1 default) (l.getD 2 default))):=by
 refine MX pi ?_;have hl2:(2:Int)<l.length:=by omega
 (repeat' first|simp(disch:=omega)only[go_sem,simprocAttr,AC]|refine Sx.s ?_ ?_<;>try(intro h;have h':=h;try simp only[HB]at h';try rewrite [h];try simp only[h])|refine Ab (TN (l.getD 1 default) (l.getD 2 default) hu) ?_|refine Ab (CX _) ?_|refine Ac ?_|refine Au ?_|refine Sz.s ?_|(refine And.intro ?_ ?_;focus omega))
 all_goals grind[AC,Aq]
theorem tj(c:Cat)(e0:AQ)(fld:I)(x:Xpr)(l:List Typ)(hl:1<l.length)(hu:(l.getD 0 default).unit.length<=1073741824):Is mx 289 [.agg (Ek c e0 fld),.agg (eE x),.sl (l.map Aq)] (AC (F4 (l.getD 0 default) (l.getD 1 default))):=by
 refine MX qD ?_;have hl2:(1:Int)<l.length:=by omega
 exact La (cj (TN (l.getD 0 default) (l.getD 1 default) hu) @AC.eq_1) trivial
end
section
theorem tl(c:Cat)(e0:AQ)(fld:I)(x:Xpr)(l:List Typ)(hl:1<l.length)(h0:(l.getD 0 default).unit.length<=1073741824)(h1:(l.getD 1 default).unit.length<=1073741824):Is mx 287 [.agg (Ek c e0 fld),.agg (eE x),.sl (l.map Aq)] (AC (EL x.op (l.getD 0 default) (l.getD 1 default))):=by
 refine MX nW ?_;have hl2:(1:Int)<l.length:=by omega
 have hl3:(0:Int)<l.length:=by omega
 (repeat' first|exact Ao _|simp(disch:=omega)only[go_sem,simprocAttr]|refine' Av (fun hq=>?_) (fun f=>?_)<;>try(have jd:=hq;try simp only[HB]at jd)|refine Sx.s ?_ ?_<;>try(intro h;have h':=h;try simp only[HB]at h';try rewrite [h];try simp only[h])|refine Ab (O0 (l.getD 0 default)) ?_|refine Ab (O0 (l.getD 1 default)) ?_|refine Ab (YF _ _ (by omega)) ?_|refine Au ?_|(refine And.intro ?_ ?_;focus omega))
 by_cases o0:x.op=[97,110,100]
 ·(repeat' first|exact Ao _|simp(maxSteps:=9999999) (decide:=true) (disch:=omega)only[go_sem,simprocAttr,o0]|refine' Av (fun hq=>?_) (fun f=>?_)<;>try(have jd:=hq;try simp only[HB]at jd)|refine Sx.s ?_ ?_<;>try(intro h;have h':=h;try simp only[HB]at h';try rewrite [h];try simp only[h])|refine Ab (CX _) ?_|refine Ac ?_|refine Sz.s ?_|fail)
  all_goals(simp only[EL];grind[AC,Aq])
 by_cases o1:x.op=[111,114]
 ·(repeat' first|exact Ao _|simp(maxSteps:=9999999) (decide:=true) (disch:=omega)only[go_sem,simprocAttr,o1]|refine' Av (fun hq=>?_) (fun f=>?_)<;>try(have jd:=hq;try simp only[HB]at jd)|refine Sx.s ?_ ?_<;>try(intro h;have h':=h;try simp only[HB]at h';try rewrite [h];try simp only[h])|refine Ab (CX _) ?_|refine Ac ?_|refine Sz.s ?_|fail)
  all_goals(simp only[EL];grind[AC,Aq])
 by_cases o2:x.op=[61,61]
 ·(repeat' first|exact Ao _|simp(maxSteps:=9999999) (decide:=true) (disch:=omega)only[go_sem,simprocAttr,o2]|refine' Av (fun hq=>?_) (fun f=>?_)<;>try(have jd:=hq;try simp only[HB]at jd)|refine Sx.s ?_ ?_<;>try(intro h;have h':=h;try simp only[HB]at h';try rewrite [h];try simp only[h])|refine Ab (CX _) ?_|refine Ac ?_|refine Sz.s ?_|fail)
  all_goals(simp only[EL];grind[AC,Aq])
 by_cases o3:x.op=[33,61]
 ·(repeat' first|exact Ao _|simp(maxSteps:=9999999) (decide:=true) (disch:=omega)only[go_sem,simprocAttr,o3]|refine' Av (fun hq=>?_) (fun f=>?_)<;>try(have jd:=hq;try simp only[HB]at jd)|refine Sx.s ?_ ?_<;>try(intro h;have h':=h;try simp only[HB]at h';try rewrite [h];try simp only[h])|refine Ab (CX _) ?_|refine Ac ?_|refine Sz.s ?_|fail)
  all_goals(simp only[EL];grind[AC,Aq])
 by_cases o4:x.op=[60]
 ·(repeat' first|exact Ao _|simp(maxSteps:=9999999) (decide:=true) (disch:=omega)only[go_sem,simprocAttr,o4]|refine' Av (fun hq=>?_) (fun f=>?_)<;>try(have jd:=hq;try simp only[HB]at jd)|refine Sx.s ?_ ?_<;>try(intro h;have h':=h;try simp only[HB]at h';try rewrite [h];try simp only[h])|refine Ab (CX _) ?_|refine Ac ?_|refine Sz.s ?_|fail)
  all_goals(simp only[EL];grind[AC,Aq])
 by_cases o5:x.op=[60,61]
 ·(repeat' first|exact Ao _|simp(maxSteps:=9999999) (decide:=true) (disch:=omega)only[go_sem,simprocAttr,o5]|refine' Av (fun hq=>?_) (fun f=>?_)<;>try(have jd:=hq;try simp only[HB]at jd)|refine Sx.s ?_ ?_<;>try(intro h;have h':=h;try simp only[HB]at h';try rewrite [h];try simp only[h])|refine Ab (CX _) ?_|refine Ac ?_|refine Sz.s ?_|fail)
  all_goals(simp only[EL];grind[AC,Aq])
 by_cases o6:x.op=[42]
 ·(repeat' first|exact Ao _|simp(maxSteps:=9999999) (decide:=true) (disch:=omega)only[go_sem,simprocAttr,fe,o6]|refine' Av (fun hq=>?_) (fun f=>?_)<;>try(have jd:=hq;try simp only[HB]at jd)|refine Sx.s ?_ ?_<;>try(intro h;have h':=h;try simp only[HB]at h';try rewrite [h];try simp only[h])|refine Ab (CX _) ?_|refine Ab (s4 _ _ h0 h1) ?_|refine Ac ?_|refine Sz.s ?_|fail)
  all_goals(simp only[EL];grind[AC,Aq])
 by_cases o7:x.op=[47]
 ·(repeat' first|exact Ao _|simp(maxSteps:=9999999) (decide:=true) (disch:=omega)only[go_sem,simprocAttr,fe,o7]|refine' Av (fun hq=>?_) (fun f=>?_)<;>try(have jd:=hq;try simp only[HB]at jd)|refine Sx.s ?_ ?_<;>try(intro h;have h':=h;try simp only[HB]at h';try rewrite [h];try simp only[h])|refine Ab (CX _) ?_|refine Ab (s5 _ _ h0 h1) ?_|refine Ac ?_|refine Sz.s ?_|fail)
  all_goals(simp only[EL];grind[AC,Aq])
 by_cases o8:x.op=[43]
 ·(repeat' first|simp(maxSteps:=9999999) (decide:=true) (disch:=omega)only[go_sem,simprocAttr,o8]|refine Sx.s ?_ ?_<;>try(intro h;have h':=h;try simp only[HB]at h';try rewrite [h];try simp only[h])|refine Ab (CX _) ?_|refine Ac ?_|refine Sz.s ?_|fail)
  all_goals(simp only[EL];grind[AC,Aq])
 by_cases o9:x.op=[45]
 ·(repeat' first|simp(maxSteps:=9999999) (decide:=true) (disch:=omega)only[go_sem,simprocAttr,o9]|refine Sx.s ?_ ?_<;>try(intro h;have h':=h;try simp only[HB]at h';try rewrite [h];try simp only[h])|refine Ab (CX _) ?_|refine Ac ?_|refine Sz.s ?_|fail)
  all_goals(simp only[EL];grind[AC,Aq])
 (repeat' first|simp(maxSteps:=9999999) (decide:=true) (disch:=omega)only[go_sem,simprocAttr,Za9 o0,Za9 o1,Za9 o2,Za9 o3,Za9 o4,Za9 o5,Za9 o6,Za9 o7,Za9 o8,Za9 o9]|refine Sx.s ?_ ?_<;>try(intro h;have h':=h;try simp only[HB]at h';try rewrite [h];try simp only[h])|refine Ab (CX _) ?_|refine Ac ?_|refine Sz.s ?_|fail)
 all_goals(simp only[EL];grind[AC,Aq])
end
section
def HM(c:Cat)(ent:AQ)(t:Option Tbl)(x:Xpr)(l:List Typ):Typ×Int:=
 if x.kind=1 then(⟨x.val.kind,x.unit,x.name⟩,0)
 else if x.kind=2 then(match t with|some t=>Gc t x.name|none=>(AI,0))
 else if x.kind=3 then Dx c.features x.name ent
 else if x.kind=4 then(if(l.getD 0 default).kind≠5 then(AI,5)else Dx c.features x.name (l.getD 0 default).of)
 else if x.kind=5 then Nk x.op (l.getD 0 default) (l.getD 1 default)
 else if x.kind=6 then Nl x.op (l.getD 0 default)
 else if x.kind=7 then EL x.op (l.getD 0 default) (l.getD 1 default)
 else if x.kind=8 then(if(l.getD 0 default).kind≠1 then(AI,5)else F4 (l.getD 1 default) (l.getD 2 default))
 else F4 (l.getD 0 default) (l.getD 1 default)
def HN(c:Cat)(ent:AQ)(x:Xpr):Except Int Tbl:=match c.tables.find? (fun t=>decide (t.name=x.table))with
 |none=>.error 4
 |some t=>if t.entity≠ent then .error 5 else .ok t
mutual
def DL(c:Cat)(ent:AQ):Option Tbl->Xpr->Typ×Int
 |t,.mk k o n tb v u p w a=>
  if k=5 then match HN c ent (.mk k o n tb v u p w a)with
   |.error e=>(AI,e)
   |.ok t'=>match inferXs c ent (some t') a with
    |.error e=>(AI,e)
    |.ok l=>HM c ent t (.mk k o n tb v u p w a) l
  else match inferXs c ent t a with
    |.error e=>(AI,e)
    |.ok l=>HM c ent t (.mk k o n tb v u p w a) l
def inferXs(c:Cat)(ent:AQ):Option Tbl->List Xpr->Except Int (List Typ)
 |_,[]=>.ok []
 |t,x::r=>let y:=DL c ent t x
  if y.2≠0 then .error y.2 else match inferXs c ent t r with
   |.error e=>.error e
   |.ok l=>.ok (y.1::l)
end
def inT(c:Cat)(ent:AQ)(t:Option Tbl)(x:Xpr):Except Int (Option Tbl):=if x.kind=5 then(match HN c ent x with|.error e=>.error e|.ok t'=>.ok (some t'))else .ok t
theorem Rf(c:Cat)(ent:AQ)(t:Option Tbl)(x:Xpr):DL c ent t x=match inT c ent t x with
  |.error e=>(AI,e)
  |.ok t'=>match inferXs c ent t' x.args with
   |.error e=>(AI,e)
   |.ok l=>HM c ent t x l:=by
 cases x with
 |mk k o n tb v u p w a=>
  simp only[DL,inT,Xpr.kind,Xpr.args];by_cases h:k=5
  ·subst h;simp only[Zad];cases HN c ent (.mk 5 o n tb v u p w a)<;>rfl
  ·simp only[h,Zag]
theorem Zr(c:Cat)(ent:AQ)(t:Option Tbl):∀(a:List Xpr) (i:Nat) (l:List Typ) (h:i<a.length),inferXs c ent t (a.take i)=.ok l->inferXs c ent t (a.take (i+1))=if(DL c ent t a[i]).2≠0 then .error (DL c ent t a[i]).2 else .ok (l++[(DL c ent t a[i]).1])
 |[],i,l,h,_=>by simp at h
 |x::r,0,l,h,hl=>by simp only[Zgj,inferXs]at hl;cases hl;simp only[Zg8,Zgg,Zgj,inferXs,Zed,Zft]
 |x::r,i+1,l,h,hl=>by
  simp only[Zgg,inferXs]at hl⊢;by_cases e:(DL c ent t x).2≠0
  ·rw[Zaa e]at hl;cases hl
  ·rw[Zac e]at hl⊢;cases hr:inferXs c ent t (r.take i)with
   |error q=>rw[hr]at hl;cases hl
   |ok l'=>
    rw[hr]at hl;cases hl;rw[Zr c ent t r i l' (by simpa using h) hr];simp only[Zec];have hi:i<r.length:=by simpa using h
    by_cases e2:(DL c ent t r[i]).2≠0
    ·rw[Zaa e2,Zaa e2]
    ·rw[Zac e2,Zac e2];rfl
theorem Zs(c:Cat)(ent:AQ)(t:Option Tbl):∀(a:List Xpr) (i:Nat) (e:Int),inferXs c ent t (a.take i)=.error e->inferXs c ent t a=.error e
 |[],i,e,h=>by simp[inferXs]at h
 |x::r,0,e,h=>by simp[inferXs]at h
 |x::r,i+1,e,h=>by
  simp only[Zgg,inferXs]at h⊢;by_cases e1:(DL c ent t x).2≠0
  ·rw[Zaa e1]at h⊢;exact h
  ·rw[Zac e1]at h⊢;cases hr:inferXs c ent t (r.take i)with
   |error q=>rw[hr]at h;rw[Zs c ent t r i q hr];exact h
   |ok l'=>rw[hr]at h;cases h
def Ue(k:Int):Nat:=if k=1 then 281 else if k=2 then 282 else if k=3 then 283 else if k=4 then 284 else if k=5 then 285
 else if k=6 then 286 else if k=7 then 287 else if k=8 then 288 else 289
theorem tm(c:Cat)(e0:AQ)(fld:I)(k:Int)(hk:1<=k/\k<=9):Is mx 256 [.agg (Ek c e0 fld),iI k] (.fn (Ue k) [.agg (Ek c e0 fld)] []):=by
 refine MX p6 ?_;have jk:k=1\/k=2\/k=3\/k=4\/k=5\/k=6\/k=7\/k=8\/k=9:=by omega
 refine eS ?_;rcases jk with rfl|rfl|rfl|rfl|rfl|rfl|rfl|rfl|rfl<;>rfl
end
section
def Kr:Option Tbl->I
 |none=>.nilfn
 |some t=>.fn 254 [] [.elt (AS t) 0]
def uB(t:Typ):Prop:=t.unit.length<=1073741824
def GZ(c:Cat):Prop:=c.features.length<=1073741824/\c.tables.length<=1073741824/\(∀f∈c.features,uB f.typ)/\∀t∈c.tables,t.fields.length<=1073741824/\∀f∈t.fields,uB f.typ
def Iu(t:Option Tbl):Prop:=∀t',t=some t'->t'.fields.length<=1073741824/\∀f∈t'.fields,uB f.typ
theorem Uf(m:List (AQ×Int)):∀ns u,(Ga m ns u).1.length<=4
 |[],u=>by simp only[Ga];split<;>simp;omega
 |s::r,u=>by
  simp only[Ga];split
  ·simp
  ·split
   ·exact Uf m r _
   ·exact Uf m r _
theorem tn(l:List Fac):(HI l).1.length<=4:=by grind[HI,Uf]
theorem tp(a b:List Fac)(s:Int):(D7 a b s).1.length<=4:=by grind[D7,tn]
theorem FH:uB AI:=by simp[uB]
theorem tq{c:Cat}(hc:GZ c){t:Option Tbl}(ht:Iu t){ent:AQ}{x:Xpr}{l:List Typ}(hx:bX x<=1073741824)(hl:∀y∈l,uB y):uB (HM c ent t x l).1:=by
 have hn:∀n e,uB (Dx c.features n e).1:=fun n e=>by
  unfold Dx;split
  ·exact FH
  ·rename_i f hf;split
   ·exact FH
   ·exact hc.2.2.1 f (Zfi hf)
 have hg:∀i,uB (l.getD i default):=fun i=>by
  by_cases h:i<l.length
  ·exact hl _ (At h)
  ·have:l.getD i default=default:=by simp[List.getD,Zd3 (Zgt h)]
   rw[this];simp[uB];decide
 have hs:∀a b,uB a->uB (F4 a b).1:=fun a b h=>by
  unfold F4;split
  ·exact FH
  ·split
   ·exact FH
   ·exact h
 have hp:∀a b s q,uB ⟨a,(D7 b s q).1,[]⟩:=fun a b s q=>by simp only[uB];have:=tp b s q;omega
 unfold HM;split
 ·have:=Im x;simp only[uB];omega
 split
 ·cases t with
  |none=>exact FH
  |some t'=>
   simp only[Gc];split
   ·exact FH
   ·rename_i f hf;exact(ht t' rfl).2 f (Zfi hf)
 split
 ·exact hn _ _
 split
 ·split
  ·exact FH
  ·exact hn _ _
 split
 ·unfold Nk
  repeat' split
  all_goals first|exact FH|exact hg 0|(simp[uB];done)|(have:=hg 0;simpa[uB]using this)
 split
 ·unfold Nl
  repeat' split
  all_goals first|exact FH|exact hg 0|(simp[uB];done)
 split
 ·unfold EL
  repeat' split
  all_goals first|exact FH|exact hg 0|(simp[uB];done)|exact hp _ _ _ _|(have:=hg 0;simpa[uB]using this)
 split
 ·split
  ·exact FH
  ·exact hs _ _ (hg 1)
 ·exact hs _ _ (hg 0)
theorem tu(c:Cat)(ent:AQ)(t:Option Tbl)(x:Xpr)(l:List Typ)(hk:1<=x.kind/\x.kind<=9)(hl:(l.length:Int)=Jj x.kind)(hc:GZ c)(ht:Iu t)(h2:x.kind=2->t.isSome=true)(hu:∀y∈l,uB y):
  Is mx (Ue x.kind) [.agg (Ek c ent (Kr t)),.agg (eE x),.sl (l.map Aq)] (AC (HM c ent t x l)):=by
 have hg:∀i,i<l.length->(l.getD i default).unit.length<=1073741824:=fun i h=>hu _ (At h)
 have jk:x.kind=1\/x.kind=2\/x.kind=3\/x.kind=4\/x.kind=5\/x.kind=6\/x.kind=7\/x.kind=8\/x.kind=9:=by omega
 rcases jk with h|h|h|h|h|h|h|h|h<;>simp[h,Jj]at hl<;>simp only[Ue,HM,h,Int.reduceEq,Zad,Zag]
 ·exact tc c ent _ x l
 ·cases t with
  |none=>have:=h2 h;simp at this
  |some t'=>exact td c ent t' x l (ht t' rfl).1
 ·exact te c ent _ x l hc.1
 ·exact tf c ent _ x l hc.1 (by omega)
 ·exact th c ent _ x l (by omega)
 ·exact tg c ent _ x l (by omega)
 ·exact tl c ent _ x l (by omega) (hg 0 (by omega)) (hg 1 (by omega))
 ·exact ti c ent _ x l (by omega) (hg 1 (by omega))
 ·exact tj c ent _ x l (by omega) (hg 0 (by omega))
end
section
theorem Ug{c:Cat}(hc:GZ c){ent:AQ}(n:Nat)(ih:∀(t:Option Tbl) (x:Xpr),Iu t->bX x<=n->bX x<=1073741824->uB (DL c ent t x).1):∀(t:Option Tbl) (a:List Xpr) (l:List Typ),Iu t->(∀x∈a,bX x<=n/\bX x<=1073741824)->inferXs c ent t a=.ok l->∀y∈l,uB y
 |t,[],l,ht,h,he,y,hy=>by simp only[inferXs]at he;cases he;simp at hy
 |t,x::r,l,ht,h,he,y,hy=>by
  simp only[inferXs]at he;split at he
  ·cases he
  ·split at he
   ·cases he
   ·rename_i l' hl';cases he;rcases Zfb.1 hy with e|e
    ·subst e;exact ih t x ht (h x (by simp)).1 (h x (by simp)).2
    ·exact Ug hc n ih t r l' ht (fun z hz=>h z (by simp[hz])) hl' y e
theorem tv{c:Cat}(hc:GZ c){ent:AQ}{x:Xpr}{t':Tbl}(h:HN c ent x=.ok t'):Iu (some t'):=by
 unfold HN at h;split at h
 ·cases h
 ·rename_i q hq;split at h
  ·cases h
  ·cases h;intro z hz;cases hz;exact hc.2.2.2 _ (Zfi hq)
theorem Zt{c:Cat}(hc:GZ c){ent:AQ}{t:Option Tbl}(ht:Iu t){x:Xpr}{t':Option Tbl}(h:inT c ent t x=.ok t'):Iu t':=by grind[inT,HN,tv]
theorem Zu{c:Cat}(hc:GZ c){ent:AQ}:∀(n:Nat) (t:Option Tbl) (x:Xpr),Iu t->bX x<=n->bX x<=1073741824->uB (DL c ent t x).1:=by
 intro n
 induction n with
 |zero=>intro t x _ h;have:=HE x;omega
 |succ n ih=>
  intro t x ht hb hx;rw[Rf];cases e:inT c ent t x with
  |error q=>exact FH
  |ok t'=>
   have ht':=Zt hc ht e;simp only;cases e2:inferXs c ent t' x.args with
   |error q=>exact FH
   |ok l=>exact tq hc ht hx (Ug hc n (fun t x h1 h2 h3=>ih t x h1 h2 h3) t' x.args l ht' (fun y hy=>by have:=Fa hy;omega) e2)
theorem tw{x:Xpr}{i:Bool}(h:In x i=true):1<=x.kind/\x.kind<=9/\(x.kind=2->i=true):=by
 unfold In at h;by_cases h1:x.kind=1
 ·omega
 rw[Zac h1]at h;by_cases h2:x.kind=2\/x.kind=3\/x.kind=4
 ·rw[Zaa h2,Zbz]at h;refine⟨by omega,by omega,fun e=>?_⟩;have:=h.1;simp only[e,Za1,Zas]at this;exact this
 rw[Zac h2]at h;by_cases h5:x.kind=5
 ·omega
 rw[Zac h5]at h;by_cases h6:x.kind=6
 ·omega
 rw[Zac h6]at h;by_cases h7:x.kind=7
 ·omega
 rw[Zac h7]at h;simp only[Zcb,Za0]at h;omega
theorem tz(c:Cat)(ent:AQ)(hc:GZ c):∀(n:Nat) (t:Option Tbl) (x:Xpr),Iu t->bX x<=n->bX x<=1073741824->HG x t.isSome=true->
  Is mx 215 [.agg (Ek c ent (Kr t)),.agg (eE x)] (AC (DL c ent t x)):=by
 intro n
 induction n with
 |zero=>intro t x _ h;have:=HE x;omega
 |succ n ih=>
  intro t x ht hb hx hpr;rw[LF]at hpr;simp only[Zbz,Za0]at hpr;obtain⟨⟨⟨⟨hh,hbare⟩,je⟩,jz⟩,_⟩:=hpr;obtain⟨qc,qe,qf⟩:=tw hh;rw[QU,Zcu]at jz;have vm:=LC x;refine MX pU ?_;refine Od ?_;have kt:(Kr t).one=true:=by cases t<;>rfl
  have hIx:=s6 (mx:=mx) (fun t=>decide (t.name=x.table)) c.tables 253 [] [.elt (eE x) 0] hc.2.1 (fun y _=>s8 y x);have hF:=Rb (fun t:Tbl=>decide (t.name=x.table)) c.tables;generalize Br (fun t:Tbl=>decide (t.name=x.table)) c.tables=q at hIx hF;refine⟨kt,?_⟩;cases hT:inT c ent t x with
  |error e=>
   have h5:x.kind=5:=by grind[inT]
   have hR:DL c ent t x=(AI,e):=by rw[Rf,hT]
   have hT2:HN c ent x=.error e:=by unfold inT at hT;rw[Zaa h5]at hT;grind
   unfold HN at hT2;rw[hR];rcases hF with⟨hq,hf⟩|⟨hq,jn,hf⟩
   ·rw[hf]at hT2;cases hT2;refine EV (cj hIx (cj @CX (cj h5 hq))) ?_;rfl
   ·rw[hf]at hT2;simp only at hT2;split at hT2
    ·rename_i jg;cases hT2;refine Kas (cj hIx (cj @CX (cj h5 (cj (Zcn.2 hq) jg)))) ?_;rfl
    ·cases hT2
  |ok t'=>
   have ht':=Zt hc ht hT;have wo:t'.isSome=(t.isSome||decide (x.kind=5)):=by
    unfold inT at hT;split at hT
    all_goals grind
   have hone':(Kr t').one=true:=by cases t'<;>rfl
   refine cutS [2,3,4,6] (by simp only[V0,JK,reduceIte,Nat.reduceEqDiff];rfl) [] [(6,.cells ((Ek c ent (Kr t')).map .i)),(4,.cells ((Aq AI).map .i))] True ?_ (fun _=>?_)
   ·by_cases h5:x.kind=5
    ·have hT2:∃z,HN c ent x=.ok z/\t'=some z:=by unfold inT at hT;rw[Zaa h5]at hT;grind
     obtain⟨z,hz,rfl⟩:=hT2;unfold HN at hz;rcases hF with⟨hq,hf⟩|⟨hq,jn,hf⟩
     ·rw[hf]at hz;cases hz
     ·rw[hf]at hz;simp only at hz;split at hz
      ·cases hz
      ·rename_i jg;cases hz;have hne':(c.tables.getD q.toNat default).entity=ent:=by grind
       (repeat' first|simp(disch:=omega)only[go_sem,simprocAttr,h5,Za9 (Zcn.2 hq),hne',Zaj,Za3,Kr,Ze1,Ze5]|refine Sx.s ?_ ?_<;>try(intro h;have h':=h;try simp only[HB]at h';try rewrite [h];try simp only[h])|refine Ab (hIx) ?_|refine Ac ?_|(refine And.intro ?_ ?_;focus omega))
    ·have:t'=t:=by unfold inT at hT;rw[Zac h5]at hT;cases hT;rfl
     subst this;exact Jf h5 trivial
   ·have hR:DL c ent t x=match inferXs c ent t' x.args with|.error e=>(AI,e)|.ok l=>HM c ent t x l:=by rw[Rf,hT]<;>rfl
    (repeat' first|simp(disch:=omega)only[go_sem,simprocAttr,Ze1,Ze5]|fail)
    refine A4 [2,3,4,6,45,46] (by simp only[V0,JK,reduceIte,Nat.reduceEqDiff];rfl) (fun g:Nat×List Typ=>[(9,.ref (.sl 9 3 0 g.2.length)),(47,.i (iI g.1))]) (fun g=>[(9,.rows 41 3 (g.2.map Aq)),(6,.cells ((Ek c ent (Kr t')).map .i)),(4,.cells ((Aq AI).map .i))])
     (fun g=>g.1<=x.args.length/\inferXs c ent t' (x.args.take g.1)=.ok g.2/\g.2.length=g.1) (fun g=>x.args.length-g.1) (0,[]) (by simp[inferXs]) (by simp[V0,H0,Ref.nm,Aq,D.nms,Oe]) ?_
    rintro⟨i,l⟩ ⟨hi,hl,qv⟩;simp only at hi hl qv;by_cases ja:i<x.args.length
    ·have kw:=At ja;have hba:=Fa kw;have i1:=ih t' (x.args.getD i default) ht' (by omega) (by omega) (by rw[wo];exact jz _ kw);have kc:=Zr c ent t' x.args i l ja hl;rw[<-AK ja]at kc;generalize hy:DL c ent t' (x.args.getD i default)=y at i1 kc;refine AU (cj i1 (cj @CX (cj (BV ja) @AC.eq_1))) (cj ?_ ?_)
     ·intro h h';rw[Zaa h']at kc;have:=Zs c ent t' x.args (i+1) _ kc;rw[this]at hR;rw[hR];rfl
     ·intro _ _;rw[Zac (by omega)]at kc;refine⟨by simp[],by simp[I.one],by omega,by omega,⟨i+1,l++[y.1]⟩,⟨by omega,kc,by simp[qv]⟩,by show x.args.length-(i+1)<_;omega,⟨by simp,rfl⟩,?_⟩;simp[Aq]
    ·have e:i=x.args.length:=by omega
     subst e;rw[Zgd]at hl;have qg:=Ug hc n (fun t x h1 h2 h3=>Zu hc n t x h1 h2 h3) t' x.args l ht' (fun z hz=>by have:=Fa hz;omega) hl;have hrc:=tu (mx:=mx) c ent t x l ⟨qc,qe⟩ (by rw[qv];exact je) hc ht qf qg;have hrR:DL c ent t x=HM c ent t x l:=by rw[hR,hl]
     refine A8 (cj @tm (cj hrc (cj (Hi ja) @AC.eq_1))) ?_;rw[hrR]
end
end Go.Proofs.YtojgbkiejjingaaGreatDoor
