/-
  Lemmas, no statement.
-/
import Derived.Test.YtojgbkiejjingaaGreatDoorK1
set_option linter.all false
namespace Go.Dl
open Go Go.RowKit
variable{b o k:Nat}
structure Keeps(S:Nat->Prop)(w w':World):Prop where
 os:w'.os=w.os
 tape:w'.tape=w.tape
 output:w'.output=w.output
 size:w.heap.size<=w'.heap.size
 block:∀k,S k->w'.heap[k]? =w.heap[k]?
 drawn:w.drawn<=w'.drawn
theorem Keeps.refl(S:Nat->Prop)(w:World):Keeps S w w:=⟨rfl,rfl,rfl,Nat.le_refl _,fun _ _=>rfl,Nat.le_refl _⟩
theorem Keeps.trans{S:Nat->Prop}{a b c:World}(h:Keeps S a b)(k:Keeps S b c):Keeps S a c:=
 ⟨k.os.trans h.os,k.tape.trans h.tape,k.output.trans h.output,Nat.le_trans h.size k.size,fun i hi=>(k.block i hi).trans (h.block i hi),Nat.le_trans h.drawn k.drawn⟩
theorem Keeps.mono{S S':Nat->Prop}{w w':World}(h:Keeps S w w')(hs:∀k,S' k->S k):Keeps S' w w':=⟨h.os,h.tape,h.output,h.size,fun k hk=>h.block k (hs k hk),h.drawn⟩
theorem Keeps.drew{S:Nat->Prop}{a w:World}(h:Keeps S a w):Keeps S a w.drew:=⟨h.os,h.tape,h.output,h.size,h.block,Nat.le_succ_of_le h.drawn⟩
theorem Pv(w:World)(o:Obj)(k:Nat)(h:k<w.heap.size):(w.alloc o).heap[k]? =w.heap[k]? :=Below.heap_alloc w o k h
theorem KE(w:World)(o:Obj):(w.alloc o).heap.size=w.heap.size+1:=by simp
theorem E1(w:World)(o:Obj):(w.alloc o).heap[w.heap.size]? =some o:=by show(w.heap.push o)[w.heap.size]? =_;simp
theorem EC{S:Nat->Prop}(w:World)(o:Obj)(h:∀k,S k->k<w.heap.size):Keeps S w (w.alloc o):=
 ⟨rfl,rfl,rfl,by rw[KE];omega,fun k hk=>Pv w o k (h k hk),Nat.le_refl _⟩
theorem Ii{S:Nat->Prop}(w:World)(g:Nat)(cs:Array Value)(h:¬S g):Keeps S w (w.setRow g cs):=
 ⟨rfl,rfl,rfl,by simp,fun k hk=>setRow_other w g k cs (fun e=>h (e▸hk)),Nat.le_refl _⟩
theorem LN{w:World}{o:Obj}(h:w.heap[b]? =some o):b<w.heap.size:=(Array.getElem?_eq_some_iff.1 h).1
theorem Sl{w:World}{v:Value}(h:w.cell? ⟨b,o,none⟩=some v):b<w.heap.size:=by
 rcases Nat.lt_or_ge b w.heap.size with k|k
 ·exact k
 ·simp[World.cell?,Array.getElem?_eq_none k]at h
theorem ED{nm:Nat}{b:Blk}{sto:List (Nat×Blk)}(m:Nat)(h:names sto m):names ((nm,b)::sto) m:=by grind[names,Ac]
theorem DG{nm:Nat}{b:Blk}{sto:List (Nat×Blk)}:names ((nm,b)::sto) nm:=by simp[names,Ac]
theorem Cl(l:List (Nat×Blk))(nm m:Nat)(b:Blk):Ac (BD l nm b) m=if m=nm then(Ac l nm).map (fun _=>b)else Ac l m:=by
 induction l with
 |nil=>simp[BD,Ac]
 |cons x r ih=>grind[BD,Ac]
theorem Cm{nm:Nat}{b:Blk}{sto:List (Nat×Blk)}:names (BD sto nm b)=names sto:=by grind[names,Cl,Ac]
theorem FF(nm:Nat)(b:Blk)(l:List (Nat×Blk))(m:Nat):Ac (Pt nm b l) m=(Ac l m).map (YO nm b):=by
 induction l with
 |nil=>rfl
 |cons x r ih=>obtain⟨p,q⟩:=x;simp only[Pt,Ac];split;rfl;exact ih
theorem Ij(l:List (Nat×Blk))(nm m:Nat):Ac (BC l nm) m=if m=nm then none else Ac l m:=by
 induction l with
 |nil=>simp[BC,Ac]
 |cons x r ih=>grind[BC,Ac]
theorem Sm{nm:Nat}{b:Blk}{sto:List (Nat×Blk)}:names (Pt nm b sto)=names sto:=by grind[names,FF,Ac]
def Blk.nms:Blk->List Nat
 |.cells cs=>cs.flatMap D.nms
 |.lp _ _ cs=>cs.flatMap D.nms
 |.gmap _ _ es=>es.flatMap fun e=>e.2.2.nms
 |_=>[]
def Bj(μ:Place)(nm:Nat)(v:Value):Place:=fun m=>if m=nm then v else μ m
theorem Bb(μ:Place)(nm:Nat)(v:Value):Bj μ nm v nm=v:=by simp[Bj]
theorem B8(μ:Place){nm m:Nat}(v:Value)(h:m≠nm):Bj μ nm v m=μ m:=by simp[Bj,h]
section
variable {GL:List (Nat×List I)}{n:Nat}{S:Sh}{M M':Mem}{μ μ':Place}{N N':Nat->Prop}{st:St}{sto:List (Nat×Blk)}{a:Act}{w w':World}{nm:Nat}
theorem DF.mono{cur:Array Value}{rs:List (List I)}(h:DF M cur o k rs)(ji:M.le M'):DF M' cur o k rs:=
 ⟨h.1,fun i hi j hj=>by obtain⟨v,hv,hr⟩:=h.2 i hi j hj;exact⟨v,hv,hr.mono ji⟩⟩
theorem DV.mono{xs:List MapEntry}{es:List (I×I)}(h:DV M xs es)(ji:M.le M'):DV M' xs es:=
 ⟨h.1,fun j a b=>⟨(h.2 j a b).1.mono ji,(h.2 j a b).2.mono ji⟩⟩
theorem Gk.mono{xs:List MapEntry}{es:List (I×Nat×D)}(h:Gk M μ N xs es)(ji:M.le M')(hn:∀e∈es,∀m∈e.2.2.nms,N m->N' m/\μ' m=μ m):Gk M' μ' N' xs es:=
 ⟨h.1,fun j a b=>⟨(h.2 j a b).1.mono ji,(h.2 j a b).2.1,(h.2 j a b).2.2.mono' ji (hn _ (List.getElem_mem a))⟩⟩
theorem FE.mono{cur:Array Value}{rs:List (Option (List I))}(h:FE M cur o k rs)(ji:M.le M'):FE M' cur o k rs:=fun i r hr=>
 ⟨(h i r hr).1,fun j hj=>by obtain⟨v,hv,wb⟩:=(h i r hr).2 j hj;exact⟨v,hv,wb.mono ji⟩⟩
theorem Ny{n:Nat}(h:n≠0):An (.slice (some ⟨b,o,none⟩) 0 n)=some b:=by grind[An]
theorem Owns.mono{o:Obj}(h:Owns S M w b o)(hw:w'.heap[b]? =w.heap[b]?)(hm:M.same M' b):Owns S M' w' b o:=
 ⟨h.low,by rw[hw];exact h.heap,Mem.unk_same h.unk hm⟩
theorem Owns.lt{o:Obj}(h:Owns S M w b o):b<w.heap.size:=LN h.heap
theorem AI.mono{b:Blk}(h:AI S M μ N w nm b)(ji:M.le M')(hμ:μ' nm=μ nm)(hn:∀m∈b.nms,N m->N' m/\μ' m=μ m)
  (hw:∀k,An (μ nm)=some k->k<w.heap.size->w'.heap[k]? =w.heap[k]?)(hm:∀k,An (μ nm)=some k->k<w.heap.size->M.same M' k):AI S M' μ' N' w' nm b:=by
 cases b with
 |cells cs=>
  obtain⟨b,vs,t,e,ho,hs,hr⟩:=h;have hb:An (μ nm)=some b:=by rw[e];rfl
  exact⟨b,vs,t,by rw[hμ];exact e,ho.mono (hw b hb ho.lt) (hm b hb ho.lt),hs,fun j h h'=>(hr j h h').mono' ji fun m xd=>hn m (List.mem_flatMap.2 ⟨_,List.getElem_mem h,xd⟩)⟩
 |rows e k rs=>
  obtain⟨a,cap,e1,h⟩:=h;refine⟨a,cap,by rw[hμ];exact e1,?_⟩;rcases h with h|⟨b,o,cur,rfl,hc,ho,q1,q2,q3,q4⟩
  ·exact .inl h
  ·have hb:An (μ nm)=some b:=by rw[e1];simp only[An];rw[if_neg (by omega)]
   exact .inr ⟨b,o,cur,rfl,hc,ho.mono (hw b hb ho.lt) (hm b hb ho.lt),q1,q2,q3,q4.mono ji⟩
 |map ls es=>
  obtain⟨b,xs,clk,e,ho,q1,q2,q3⟩:=h;have hb:An (μ nm)=some b:=by rw[e];rfl
  exact⟨b,xs,clk,by rw[hμ];exact e,ho.mono (hw b hb ho.lt) (hm b hb ho.lt),q1.mono ji,q2,q3⟩
 |iter cur rest=>
  obtain⟨b,m,since,seen,last,e,ho,h⟩:=h;have hb:An (μ nm)=some b:=by rw[e];rfl
  refine⟨b,m,since,seen,last,by rw[hμ];exact e,ho.mono (hw b hb ho.lt) (hm b hb ho.lt),?_⟩;rcases h with h|⟨q,xs,clk,q1,q2,q3,q4,q5,q6,q7⟩
  ·exact .inl h
  ·exact .inr ⟨q,xs,clk,q1,ji.2 _ _ q2,q3,q4,q5,q6.mono ji,fun c hc=>by obtain⟨e,he,h1,h2,h3⟩:=q7 c hc;exact⟨e,he,h1,h2.mono ji,h3.mono ji⟩⟩
 |lp l q cs=>
  obtain⟨vs,e,ho,hs,hr⟩:=h;have hb:An (μ nm)=some l:=by rw[e];rfl
  exact⟨vs,by rw[hμ];exact e,ho.mono (hw l hb ho.lt) (hm l hb ho.lt),hs,fun j h h'=>(hr j h h').mono' ji fun m xd=>hn m (List.mem_flatMap.2 ⟨_,List.getElem_mem h,xd⟩)⟩
 |gmap ls clk es=>
  obtain⟨b,xs,e,ho,q1,q2,q3⟩:=h;have hb:An (μ nm)=some b:=by rw[e];rfl
  exact⟨b,xs,by rw[hμ];exact e,ho.mono (hw b hb ho.lt) (hm b hb ho.lt),q1.mono ji (fun e he m xd=>hn m (List.mem_flatMap.2 ⟨e,he,xd⟩)),q2,q3⟩
 |arr e k rs=>
  obtain⟨a,e1,h⟩:=h;refine⟨a,by rw[hμ];exact e1,?_⟩;rcases h with h|⟨b,o,cur,rfl,jh,ho,q1,q2,q3⟩
  ·exact .inl h
  ·have hb:An (μ nm)=some b:=by rw[e1];exact Ny (by simpa using jh)
   exact .inr ⟨b,o,cur,rfl,jh,ho.mono (hw b hb ho.lt) (hm b hb ho.lt),q1,q2,q3.mono ji⟩
theorem AI.lt{b:Blk}(h:AI S M μ N w nm b){k:Nat}(hk:An (μ nm)=some k):k<w.heap.size/\¬S k/\M.unk k:=by
 cases b with
 |cells cs=>obtain⟨b,vs,t,e,ho,_⟩:=h;rw[e]at hk;cases hk;exact⟨ho.lt,ho.low,ho.unk⟩
 |rows e kk rs=>
  obtain⟨a,cap,e1,h⟩:=h;rw[e1]at hk;rcases h with⟨rfl,_⟩|⟨b,o,cur,rfl,hc,ho,_⟩
  ·cases a<;>simp[An]at hk
  ·simp only[An]at hk;rw[if_neg (by omega)]at hk;cases hk;exact⟨ho.lt,ho.low,ho.unk⟩
 |map ls es=>obtain⟨b,xs,clk,e,ho,_⟩:=h;rw[e]at hk;cases hk;exact⟨ho.lt,ho.low,ho.unk⟩
 |iter cur rest=>obtain⟨b,m,since,seen,last,e,ho,_⟩:=h;rw[e]at hk;cases hk;exact⟨ho.lt,ho.low,ho.unk⟩
 |lp l q cs=>obtain⟨vs,e,ho,_⟩:=h;rw[e]at hk;cases hk;exact⟨ho.lt,ho.low,ho.unk⟩
 |gmap ls clk es=>obtain⟨b,xs,e,ho,_⟩:=h;rw[e]at hk;cases hk;exact⟨ho.lt,ho.low,ho.unk⟩
 |arr e kk rs=>
  obtain⟨a,e1,h⟩:=h;rw[e1]at hk;rcases h with rfl|⟨b,o,cur,rfl,jh,ho,_⟩
  ·cases a<;>simp[An]at hk
  ·rw[Ny (by simpa using jh)]at hk;cases hk;exact⟨ho.lt,ho.low,ho.unk⟩
theorem StoOk.lt(h:StoOk S M μ sto w){m k:Nat}(hm:names sto m)(hk:An (μ m)=some k):k<w.heap.size/\¬S k/\M.unk k:=by obtain⟨b,hb⟩:=Option.isSome_iff_exists.1 hm;exact(h.blk m b hb).lt hk
theorem Mem.unk_new(h:M.Sub w){b:Nat}(hb:w.heap.size<=b):M.unk b:=by
 constructor
 ·intro o;cases hm:M.c b o with
  |none=>rfl
  |some v=>have:=Sl (h.1 _ _ _ hm);omega
 ·cases hm:M.m b with
  |none=>rfl
  |some v=>have:=LN (h.2 _ _ hm);omega
theorem Mem.Sub.world(h:M.Sub w)(hw:∀k,k<w.heap.size->¬M.unk k->w'.heap[k]? =w.heap[k]?):M.Sub w':=by
 constructor
 ·intro b o v hv;have:=h.1 _ _ _ hv;rw[World.cell?_of_block (w:=w) (hw b (Sl this) (fun hu=>by rw[hu.1]at hv;cases hv))];exact this
 ·intro b x hx;have:=h.2 _ _ hx;rw[hw b (LN this) (fun hu=>by rw[hu.2]at hx;cases hx)];exact this
theorem StoOk.world(h:StoOk S M μ sto w)(hs:w.heap.size<=w'.heap.size)(hw:∀k,k<w.heap.size->w'.heap[k]? =w.heap[k]?):StoOk S M μ sto w' where
 sub:=h.sub.world fun k hk _=>hw k hk
 blk:=fun m b hb=>(h.blk m b hb).mono (Mem.le_refl _) rfl (fun _ _ k=>⟨k,rfl⟩) (fun k _ hk=>hw k hk) (fun _ _ _=>Mem.same_refl _ _)
 sep:=h.sep
 low:=fun b hb=>Nat.lt_of_lt_of_le (h.low b hb) hs
theorem StoOk.alloc(h:StoOk S M μ sto w)(o:Obj):StoOk S M μ sto (w.alloc o):=h.world (by rw[KE];omega) fun k hk=>Pv w o k hk
theorem StoOk.drew(h:StoOk S M μ sto w):StoOk S M μ sto w.drew:=h.world (Nat.le_refl _) fun _ _=>rfl
theorem StoOk.know(h:StoOk S M μ sto w)(ji:M.le M')(ky:M'.Sub w)(hm:∀m k,names sto m->An (μ m)=some k->M.same M' k):StoOk S M' μ sto w where
 sub:=ky
 blk:=fun m b hb=>(h.blk m b hb).mono ji rfl (fun _ _ k=>⟨k,rfl⟩) (fun _ _ _=>rfl) (fun k hk _=>hm m k (by simp[names,hb]) hk)
 sep:=h.sep
 low:=h.low
theorem StoOk.bind(h:StoOk S M μ sto w)(jo:Ac sto nm=none){b:Blk}{x:Value}(hb:AI S M (Bj μ nm x) (names ((nm,b)::sto)) w nm b)
  (hsep:∀m k,names sto m->An (μ m)=some k->An x≠some k):StoOk S M (Bj μ nm x) ((nm,b)::sto) w:=by
 have jh:∀m,names sto m->m≠nm:=fun m hm e=>by grind[names]
 refine⟨h.sub,fun m b' hm=>?_,fun m m' k k' xd h1 h2 hk jn=>?_,h.low⟩
 ·by_cases e:nm=m
  ·subst e;simp only[Ac,if_true,Option.some.injEq]at hm;subst hm;exact hb
  ·simp only[Ac,if_neg e]at hm;exact(h.blk m b' hm).mono (Mem.le_refl _) (B8 _ _ (Ne.symm e)) (fun q hq hN=>⟨ED q hN,B8 _ _ (jh q hN)⟩) (fun _ _ _=>rfl) (fun _ _ _=>Mem.same_refl _ _)
 ·have old:∀m,m≠nm->names ((nm,b)::sto) m->names sto m:=fun m e hm=>by simp only[names,Ac,if_neg (Ne.symm e)]at hm;exact hm
  by_cases e:m=nm
  ·by_cases e':m'=nm
   ·exact absurd (e.trans e'.symm) xd
   ·subst e;rw[Bb]at hk;rw[B8 _ _ e']at jn;intro hkk;subst hkk;exact hsep m' k (old m' e' h2) jn hk
  ·rw[B8 _ _ e]at hk;by_cases e':m'=nm
   ·subst e';rw[Bb]at jn;intro hkk;subst hkk;exact hsep m k (old m e h1) hk jn
   ·rw[B8 _ _ e']at jn;exact h.sep m m' k k' xd (old m e h1) (old m' e' h2) hk jn
theorem YX(a:Act)(s:Option Nat)(v:Value):(a.put s v).tmps.size=a.tmps.size:=by cases s<;>simp[Act.put]
theorem YY(a:Act)(s:Option Nat)(v:Value):(a.put s v).defers=a.defers:=by cases s<;>simp[Act.put]
theorem YZ(a:Act)(s t:Nat)(v:Value)(hs:s<a.tmps.size):(a.put (some s) v).tmps.getD t Go.undef=if s=t then v else a.tmps.getD t Go.undef:=by simp only[Act.put,Array.getD_eq_getD_getElem?,Array.getElem?_setIfInBounds];grind
def St.put(st:St)(s:Nat)(d:D):St:=⟨.put s d st.env,st.sto⟩
def St.bind(st:St)(nm:Nat)(b:Blk):St:=⟨st.env,(nm,b)::st.sto⟩
def St.setB(st:St)(nm:Nat)(b:Blk):St:=⟨st.env,BD st.sto nm b⟩
def St.frz(st:St)(nm:Nat)(b:Blk):St:=⟨.sb nm b st.env,BC (Pt nm b st.sto) nm⟩
theorem Rel.put(h:Rel GL n S M μ st a w){s:Nat}(hs:s<n){d:D}{v:Value}(hd:Az M μ (names st.sto) d v):Rel GL n S M μ (st.put s d) (a.put (some s) v) w where
 toStoOk:=h.toStoOk
 small:=h.small
 pin:=h.pin
 defers:=by rw[YY];exact h.defers
 size:=by rw[YX];exact h.size
 env:=fun t=>by
  rw[YZ _ _ _ _ (by rw[h.size];exact hs)];simp only[St.put,Af];split
  ·exact hd
  ·exact h.env t
 glob:=h.glob
theorem Gl.mono{GL:List (Nat×List I)}{M M':Mem}(h:Gl GL M)(hm:M.le M'):Gl GL M':=fun g cs hg=>(h g cs hg).mono hm
def vN(GL:List (Nat×List I))(n:Nat)(S:Sh)(M:Mem)(w:World)(st':St)(a':Act)(w':World):Prop:=
 ∃M' μ',Rel GL n S M' μ' st' a' w'/\MExt S M M'/\Keeps S w w'
theorem vN.of(h:Rel GL n S M μ st a w):vN GL n S M w st a w:=⟨M,μ,h,MExt.refl _ _,Keeps.refl _ _⟩
theorem Rel.of(h:Rel GL n S M μ st a w){st':St}(hs:StoOk S M' μ' st'.sto w')(hg:M.le M')(he:∀s v,Az M μ (names st.sto) (Af st.env s) v->Az M' μ' (names st'.sto) (Af st'.env s) v)
  (hp:∀m,pinned m->μ' m=μ m:=by intros;rfl):Rel GL n S M' μ' st' a w' where
 toStoOk:=hs
 small:=h.small
 pin:=fun m hm=>(hp m hm).trans (h.pin m hm)
 defers:=h.defers
 size:=h.size
 env:=fun s=>he s _ (h.env s)
 glob:=h.glob.mono hg
def Mem.with(M:Mem)(b:Nat)(vs:Array Value):Mem:=⟨fun b' o=>if b'=b then vs[o]? else M.c b' o,M.m⟩
def Mem.withM(M:Mem)(b:Nat)(x:List MapEntry×Nat):Mem:=⟨M.c,fun b'=>if b'=b then some x else M.m b'⟩
theorem Mem.le_with{vs:Array Value}(h:M.unk b):M.le (M.with b vs):=
 ⟨fun b' o v hv=>by simp only[Mem.with];split<;>first|(rename_i e;subst e;rw[h.1 o]at hv;cases hv)|exact hv,fun b x hx=>hx⟩
theorem Mem.le_withM{x:List MapEntry×Nat}(h:M.unk b):M.le (M.withM b x):=
 ⟨fun _ _ _ hv=>hv,fun b' y hy=>by simp only[Mem.withM];split<;>first|(rename_i e;subst e;rw[h.2]at hy;cases hy)|exact hy⟩
theorem Mem.with_same{vs:Array Value}(h:k≠b):M.same (M.with b vs) k:=⟨fun o=>by simp[Mem.with,h],rfl⟩
theorem Mem.withM_same{x:List MapEntry×Nat}(h:k≠b):M.same (M.withM b x) k:=⟨fun o=>rfl,by simp[Mem.withM,h]⟩
theorem Mem.Sub.with(h:M.Sub w){b:Nat}{vs:Array Value}{t:TypeId}{fr:Nat×Nat}(hb:w.heap[b]? =some (.cells vs t fr)):(M.with b vs).Sub w:=
 ⟨fun b' o v hv=>by
  simp only[Mem.with]at hv;split at hv
  ·rename_i e;subst e;simp[World.cell?,hb,hv]
  ·exact h.1 _ _ _ hv,h.2⟩
theorem Mem.Sub.withM(h:M.Sub w){b:Nat}{x:List MapEntry×Nat}(hb:w.heap[b]? =some (.map x.1.toArray x.2)):(M.withM b x).Sub w:=
 ⟨h.1,fun b' y hy=>by
  simp only[Mem.withM]at hy;split at hy
  ·rename_i e;subst e;cases hy;exact hb
  ·exact h.2 _ _ hy⟩
theorem Rel.allocKnown(h:Rel GL n S M μ st a w)(vs:Array Value)(t:TypeId):
  Rel GL n S (M.with w.heap.size vs) μ st a (w.alloc (.cells vs t))/\MExt S M (M.with w.heap.size vs)/\Keeps S w (w.alloc (.cells vs t)):=by
 have ji:M.le (M.with w.heap.size vs):=Mem.le_with (Mem.unk_new h.sub (Nat.le_refl _));have h1:=h.toStoOk.alloc (.cells vs t);have h2:StoOk S (M.with w.heap.size vs) μ st.sto (w.alloc (.cells vs t)):=h1.know ji (h1.sub.with (E1 w _)) fun m k hm hk=>Mem.with_same (by have:=h.toStoOk.lt hm hk;omega)
 exact⟨h.of h2 ji fun s v hv=>hv.mono ji fun _ k=>k,⟨ji,fun b hb=>Mem.with_same (by have:=h.low b hb;omega)⟩,EC w _ h.low⟩
theorem Rel.bindName(h:Rel GL n S M μ st a w)(jo:Ac st.sto nm=none)(jl:nm<n){b:Blk}{x:Value}(hb:AI S M (Bj μ nm x) (names ((nm,b)::st.sto)) w nm b)
  (hsep:∀m k,names st.sto m->An (μ m)=some k->An x≠some k):Rel GL n S M (Bj μ nm x) (st.bind nm b) a w:=by
 refine h.of (st':=st.bind nm b) (h.toStoOk.bind jo hb hsep) (Mem.le_refl _) (fun s v hv=>hv.mono' (Mem.le_refl _) fun q _ hN=>⟨ED q hN,B8 _ _ fun e=>?_⟩) fun m hm=>B8 _ _ (YW hm (by have:=h.small;omega))
 subst e;simp[names,jo]at hN
theorem Rel.bindNameN(h:Rel GL n S M μ st a w)(jo:Ac st.sto nm=none)(hp:¬pinned nm){b:Blk}{x:Value}(hb:AI S M (Bj μ nm x) (names ((nm,b)::st.sto)) w nm b)
  (hsep:∀m k,names st.sto m->An (μ m)=some k->An x≠some k):Rel GL n S M (Bj μ nm x) (st.bind nm b) a w:=by
 refine h.of (st':=st.bind nm b) (h.toStoOk.bind jo hb hsep) (Mem.le_refl _) (fun s v hv=>hv.mono' (Mem.le_refl _) fun q _ hN=>⟨ED q hN,B8 _ _ fun e=>?_⟩) fun m hm=>B8 _ _ (fun e=>hp (e▸hm))
 subst e;simp[names,jo]at hN
theorem Rel.allocMut(h:Rel GL n S M μ st a w)(jo:Ac st.sto nm=none)(jl:nm<n)(cs:List D)(vs:Array Value)(t:TypeId)(hs:vs.size=cs.length)
  (hd:∀j (h:j<cs.length) (h':j<vs.size),Az M μ (names st.sto) (cs[j]) (vs[j])):
  Rel GL n S M (Bj μ nm (.pointer (some ⟨w.heap.size,0,none⟩))) (st.bind nm (.cells cs)) a (w.alloc (.cells vs t))/\Keeps S w (w.alloc (.cells vs t)):=by
 have h1:Rel GL n S M μ st a (w.alloc (.cells vs t)):=h.of (h.toStoOk.alloc _) (Mem.le_refl _) fun _ _ hv=>hv
 refine⟨h1.bindName jo jl ⟨w.heap.size,vs,t,Bb _ _ _,⟨fun hS=>by have:=h.low _ hS;omega,E1 w _,Mem.unk_new h.sub (Nat.le_refl _)⟩,hs,fun j a b=>(hd j a b).mono' (Mem.le_refl _) fun q _ hN=>⟨ED q hN,B8 _ _ fun e=>?_⟩⟩ ?_,EC w _ h.low⟩
 ·subst e;simp[names,jo]at hN
 ·intro m k hm hk;have:=(h.toStoOk.lt hm hk).1;simp only[An];intro e;cases e;omega
theorem StoOk.setBlk(h:StoOk S M μ sto w){blk blk':Blk}(jo:Ac sto nm=some blk){b:Nat}(hμ:An (μ nm)=some b)(hs:w.heap.size<=w'.heap.size)
  (kn:∀k,k≠b->k<w.heap.size->w'.heap[k]? =w.heap[k]?)(qp:AI S M μ (names (BD sto nm blk')) w' nm blk'):StoOk S M μ (BD sto nm blk') w':=by
 have hb:=h.lt (m:=nm) (by simp[names,jo]) hμ;refine⟨h.sub.world fun k hk hu=>kn k (fun e=>by subst e;exact hu hb.2.2) hk,fun m bb hm=>?_,?_,fun k hk=>Nat.lt_of_lt_of_le (h.low k hk) hs⟩
 ·by_cases e:m=nm
  ·subst e;simp only[Cl,if_true,jo,Option.map_some,Option.some.injEq]at hm;subst hm;exact qp
  ·simp only[Cl,if_neg e]at hm;refine(h.blk m bb hm).mono (Mem.le_refl _) rfl (fun q _ hN=>⟨by rw[Cm];exact hN,rfl⟩) (fun k hk jl=>kn k ?_ jl) (fun _ _ _=>Mem.same_refl _ _);exact h.sep m nm k b e (by simp[names,hm]) (by simp[names,jo]) hk hμ
 ·rw[Cm];exact h.sep
theorem Rel.setBlk(h:Rel GL n S M μ st a w){blk blk':Blk}(jo:Ac st.sto nm=some blk){b:Nat}(hμ:An (μ nm)=some b)(hs:w.heap.size<=w'.heap.size)
  (kn:∀k,k≠b->k<w.heap.size->w'.heap[k]? =w.heap[k]?)(qp:AI S M μ (names (BD st.sto nm blk')) w' nm blk'):Rel GL n S M μ (st.setB nm blk') a w':=
 h.of (st':=st.setB nm blk') (h.toStoOk.setBlk jo hμ hs kn qp) (Mem.le_refl _) fun s v hv=>by grind[St.setB,Cm]
end
end Go.Dl
