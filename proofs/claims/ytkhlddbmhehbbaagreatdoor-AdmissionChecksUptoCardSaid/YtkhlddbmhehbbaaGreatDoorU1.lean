/-Lemmas.-/
import Derived.WalkKit
import Derived.TacticsIn
import Derived.OrdersIn
import Derived.RangeFuncWrites
import Derived.Deep.DeepWitnessRowRef
import Derived.Lib.LaidIn
import Derived.Orders
import Derived.Lib.ConvBytes
import Derived.Laws.BytesString
import Derived.Maps.RangeRun
import Derived.WideKeyRuns
import Derived.MapKept
import Derived.Carry
import Derived.OpenShut
import Derived.Deep.DeepHandedRow
import Derived.ChangeArms
import Derived.Deep.Slices
import Derived.Lib.Overlaps
set_option linter.all false
section
namespace Go.Dl
open Go Go.RowKit
variable{v:Value}{N':Nat->Prop}{vs:List Value}
inductive I where
 |undef
 |bool (b:Bool)
 |int (k:IntKind) (n:Int)
 |str (s:List UInt8)
 |nilp
 |elt (cells:List I) (off:Nat)
 |sl (rows:List (List I))
 |nilfn
 |fn (f:FuncId) (first caps:List I)
 |agg (cells:List I)
 |tup (vs:List I)
 |nilmap
 |map (es:List (I×I))
 |iface (t:Nat) (x:I)
 |nilif
 |nilsl
 deriving Inhabited
structure Mem where
 c:Nat->Nat->Option Value
 m:Nat->Option (List MapEntry×Nat)
def Mem.le(M M':Mem):Prop:=(∀b o v,M.c b o=some v->M'.c b o=some v)/\∀b x,M.m b=some x->M'.m b=some x
theorem Mem.le_refl(M:Mem):M.le M:=⟨fun _ _ _ h=>h,fun _ _ h=>h⟩
theorem Mem.le_trans{A B C:Mem}(h:A.le B)(k:B.le C):A.le C:=⟨fun b o v x=>k.1 b o v (h.1 b o v x),fun b x y=>k.2 b x (h.2 b x y)⟩
def Mem.unk(M:Mem)(b:Nat):Prop:=(∀o,M.c b o=none)/\M.m b=none
def Mem.same(M M':Mem)(b:Nat):Prop:=(∀o,M'.c b o=M.c b o)/\M'.m b=M.m b
theorem Mem.same_refl(M:Mem)(b:Nat):M.same M b:=⟨fun _=>rfl,rfl⟩
theorem Mem.same_trans{A B C:Mem}{b:Nat}(h:A.same B b)(k:B.same C b):A.same C b:=⟨fun o=>(k.1 o).trans (h.1 o),k.2.trans h.2⟩
theorem Mem.unk_same{A B:Mem}{b:Nat}(h:A.unk b)(k:A.same B b):B.unk b:=⟨fun o=>(k.1 o).trans (h.1 o),k.2.trans h.2⟩
def Mem.Sub(M:Mem)(w:World):Prop:=(∀b o v,M.c b o=some v->w.cell? ⟨b,o,none⟩=some v)/\∀b x,M.m b=some x->w.heap[b]? =some (.map x.1.toArray x.2)
def Cr(s:List UInt8):ByteArray:=⟨⟨s⟩⟩
def GX(xs:List MapEntry)(clk:Nat):Prop:=(xs.map (·.born)).Nodup/\∀e∈xs,e.born<clk
def Gn(f:FuncId):Fn:=if Nat.blt f 1000000000=true then .func f else .yield (f-1000000000)
inductive Rep(M:Mem):I->Value->Prop where
 |undef:Rep M .undef Go.undef
 |bool (b:Bool):Rep M (.bool b) (.bool b)
 |int (k:IntKind) (n:Int):Rep M (.int k n) (.int k n)
 |str (s:List UInt8):Rep M (.str s) (.string (Cr s))
 |nilp:Rep M .nilp (.pointer none)
 |elt (cells:List I) (off b o:Nat) (v:Nat->Value) (h:∀j,j<cells.length->M.c b (o+j)=some (v j)) (hr:∀j (h:j<cells.length),Rep M (cells[j]) (v j)):
   Rep M (.elt cells off) (.pointer (some ⟨b,o+off,none⟩))
 |slnil:Rep M (.sl []) (.slice none 0 0)
 |slempty (a:Addr) (cap:Nat):Rep M (.sl []) (.slice (some a) 0 cap)
 |sl (rows:List (List I)) (k b o cap:Nat) (v:Nat->Nat->Value) (hk:∀r∈rows,r.length=k) (hc:rows.length<=cap)
   (h:∀i (hi:i<rows.length) j,j<rows[i].length->M.c b (o+i*k+j)=some (v i j))
   (hr:∀i (hi:i<rows.length) j (hj:j<rows[i].length),Rep M (rows[i][j]) (v i j)):
   Rep M (.sl rows) (.slice (some ⟨b,o,none⟩) rows.length cap)
 |nilfn:Rep M .nilfn .nilFunc
 |fn (f:FuncId) (first caps:List I) (vf vc:Array Value) (hy:Nat.blt f 1000000000=true\/caps=[]) (hf:vf.size=first.length) (hc:vc.size=caps.length)
   (rf:∀j (h:j<first.length),Rep M (first[j]) (vf[j]'(hf▸h))) (rc:∀j (h:j<caps.length),Rep M (caps[j]) (vc[j]'(hc▸h))):
   Rep M (.fn f first caps) (.func (Gn f) vf vc)
 |agg (cs:List I) (vs:Array Value) (h:vs.size=cs.length) (hr:∀j (hj:j<cs.length),Rep M (cs[j]) (vs[j]'(h▸hj))):Rep M (.agg cs) (.agg vs)
 |tup (cs:List I) (vs:Array Value) (h:vs.size=cs.length) (hr:∀j (hj:j<cs.length),Rep M (cs[j]) (vs[j]'(h▸hj))):Rep M (.tup cs) (.tuple vs)
 |nilmap:Rep M .nilmap (.map none)
 |map (es:List (I×I)) (b:Nat) (xs:List MapEntry) (clk:Nat) (h:M.m b=some (xs,clk)) (hl:xs.length=es.length) (hb:GX xs clk)
   (hk:∀j (h:j<es.length),Rep M (es[j]).1 (xs[j]'(hl▸h)).key) (hv:∀j (h:j<es.length),Rep M (es[j]).2 (xs[j]'(hl▸h)).val):Rep M (.map es) (.map (some b))
 |iface (t:Nat) (x:I) (v:Value) (h:Rep M x v):Rep M (.iface t x) (.iface t v)
 |nilif:Rep M .nilif .nilIface
 |nilsl:Rep M .nilsl (.slice none 0 0)
theorem Rep.mono{M M':Mem}(hm:M.le M'){x:I}{v:Value}(h:Rep M x v):Rep M' x v:=by
 induction h with
 |undef=>exact .undef
 |bool b=>exact .bool b
 |int k n=>exact .int k n
 |str s=>exact .str s
 |nilp=>exact .nilp
 |elt cells off b o v h _ ih=>exact .elt cells off b o v (fun j hj=>hm.1 _ _ _ (h j hj)) ih
 |slnil=>exact .slnil
 |slempty a cap=>exact .slempty a cap
 |sl rows k b o cap v hk hc h _ ih=>exact .sl rows k b o cap v hk hc (fun i hi j hj=>hm.1 _ _ _ (h i hi j hj)) ih
 |nilfn=>exact .nilfn
 |fn f first caps vf vc hy hf hc _ _ i1 i2=>exact .fn f first caps vf vc hy hf hc i1 i2
 |agg cs vs h _ ih=>exact .agg cs vs h ih
 |tup cs vs h _ ih=>exact .tup cs vs h ih
 |nilmap=>exact .nilmap
 |map es b xs clk h hl hb _ _ i1 i2=>exact .map es b xs clk (hm.2 _ _ h) hl hb i1 i2
 |iface t x v _ ih=>exact .iface t x v ih
 |nilif=>exact .nilif
 |nilsl=>exact .nilsl
def Ak(M:Mem)(xs:List I)(vs:List Value):Prop:=vs.length=xs.length/\∀j (h:j<xs.length) (h':j<vs.length),Rep M (xs[j]) (vs[j])
theorem Ak.mono{M M':Mem}(hm:M.le M'){xs:List I}{vs:List Value}(h:Ak M xs vs):Ak M' xs vs:=
 ⟨h.1,fun j a b=>(h.2 j a b).mono hm⟩
theorem Ak.nil(M:Mem):Ak M [] []:=⟨rfl,fun _ h=>absurd h (by simp)⟩
theorem Ak.cons{M:Mem}{x:I}{xs:List I}(h:Rep M x v)(k:Ak M xs vs):Ak M (x::xs) (v::vs):=by
 refine⟨by simp[k.1],fun j a b=>?_⟩;cases j with
 |zero=>exact h
 |succ j=>exact k.2 j (by simpa using a) (by simpa using b)
theorem Ak.append{M:Mem}{xs ys:List I}{us:List Value}(h:Ak M xs vs)(k:Ak M ys us):Ak M (xs++ys) (vs++us):=by
 refine⟨by simp[h.1,k.1],fun j a b=>?_⟩;by_cases hj:j<xs.length
 ·rw[List.getElem_append_left hj,List.getElem_append_left (by rw[h.1];exact hj)];exact h.2 j hj _
 ·have e:vs.length=xs.length:=h.1;rw[List.getElem_append_right (by omega),List.getElem_append_right (by omega)];have:=k.2 (j-xs.length) (by simp at a;omega) (by simp at b;omega);grind
theorem Rep.agg' {M:Mem}{cs:List I}{vs:Array Value}(h:Ak M cs vs.toList):Rep M (.agg cs) (.agg vs):=
 .agg cs vs (by simpa using h.1) (fun j hj=>by have:=h.2 j hj (by rw[h.1];exact hj);simpa using this)
theorem Rep.agg_inv{M:Mem}{cs:List I}(h:Rep M (.agg cs) v):∃vs:Array Value,v=.agg vs/\Ak M cs vs.toList:=by
 cases h with
 |agg _ vs h hr=>exact⟨vs,rfl,by simpa using h,fun j a b=>by simpa using hr j a⟩
theorem Rep.tup' {M:Mem}{cs:List I}{vs:Array Value}(h:Ak M cs vs.toList):Rep M (.tup cs) (.tuple vs):=
 .tup cs vs (by simpa using h.1) (fun j hj=>by have:=h.2 j hj (by rw[h.1];exact hj);simpa using this)
theorem Rep.tup_inv{M:Mem}{cs:List I}(h:Rep M (.tup cs) v):∃vs:Array Value,v=.tuple vs/\Ak M cs vs.toList:=by
 cases h with
 |tup _ vs h hr=>exact⟨vs,rfl,by simpa using h,fun j a b=>by simpa using hr j a⟩
theorem Rep.fn_inv{M:Mem}{f:FuncId}{a b:List I}(h:Rep M (.fn f a b) v):
  ∃va vb:Array Value,v=.func (Gn f) va vb/\(Nat.blt f 1000000000=true\/b=[])/\Ak M a va.toList/\Ak M b vb.toList:=by
 cases h with
 |fn _ _ _ vf vc hy hf hc rf rc=>exact⟨vf,vc,rfl,hy,⟨by simpa using hf,fun j a b=>by simpa using rf j a⟩,⟨by simpa using hc,fun j a b=>by simpa using rc j a⟩⟩
theorem Rep.fn' {M:Mem}{f:FuncId}{a b:List I}{va vb:Array Value}(hy:Nat.blt f 1000000000=true)(ha:Ak M a va.toList)(hb:Ak M b vb.toList):Rep M (.fn f a b) (.func (.func f) va vb):=by
 have e:Fn.func f=Gn f:=(if_pos hy).symm;rw[e];exact .fn f a b va vb (.inl hy) (by simpa using ha.1) (by simpa using hb.1) (fun j hj=>by have:=ha.2 j hj (by rw[ha.1];exact hj);simpa using this)
  (fun j hj=>by have:=hb.2 j hj (by rw[hb.1];exact hj);simpa using this)
def I.one:I->Bool
 |.agg _|.tup _|.undef=>false
 |_=>true
theorem Rep.oneCell{M:Mem}{x:I}(h:Rep M x v)(hx:x.one=true):v.oneCell'=true:=by cases h<;>simp_all[I.one,Value.oneCell']
inductive Ref where
 |loc (nm off:Nat)
 |sl (nm k lo hi:Nat)
 |lel (nm k row off:Nat)
 |mp (nm:Nat)
 |it (nm:Nat)
 deriving Inhabited
def Ref.nm:Ref->Nat
 |.loc nm _|.sl nm _ _ _|.lel nm _ _ _|.mp nm|.it nm=>nm
inductive Cp where
 |any
 |i (x:I)
 |ref (r:Ref)
 deriving Inhabited
inductive D where
 |any
 |i (x:I)
 |ref (r:Ref)
 |fn (f:FuncId) (first caps:List Cp)
 |tup (cs:List Cp)
 deriving Inhabited
inductive LK where
 |b|i (k:IntKind)|s|g
 deriving Inhabited,DecidableEq
inductive Atom where
 |b (b:Bool)|i (k:IntKind) (n:Int)|s (s:List UInt8)
 deriving Inhabited,DecidableEq
def cellsI:I->List I
 |.agg cs=>cs
 |x=>[x]
def DL:I->Option Atom
 |.bool b=>some (.b b)
 |.int k n=>some (.i k n)
 |.str s=>some (.s s)
 |_=>none
def Bc(x:I):List (Option Atom):=(cellsI x).map DL
def Bp:LK->I->Bool
 |.b,.bool _=>true
 |.i k,.int k' _=>k==k'
 |.s,.str _=>true
 |_,_=>false
def AL:List LK->List I->Bool
 |[],[]=>true
 |l::ls,x::xs=>Bp l x&&AL ls xs
 |_,_=>false
def AB:List LK->I->Bool
 |.g::ls,.agg cs=>AL ls cs
 |.g::_,_=>false
 |_,.agg _=>false
 |ls,x=>AL ls [x]
structure LQ where
 fn:FuncId
 ps:Array Tmp
 assign:Code
 body:Code
 defers:Nat
 jump:Option Code
 deriving Inhabited
def LQ.lp(q:LQ)(tmps:Array Value):Loop:={state:=if q.jump.isNone then .ready else .done,pending:=q.jump,fn:=q.fn,tmps,params:=q.ps,assign:=q.assign,body:=q.body,defers:=q.defers}
inductive Blk where
 |cells (cs:List D)
 |rows (e:TypeId) (k:Nat) (rs:List (List I))
 |map (ls:List LK) (es:List (I×I))
 |iter (cur:Option (I×I)) (rest:List (I×I))
 |lp (l:Nat) (q:LQ) (cs:List D)
 |gmap (ls:List LK) (clk:Nat) (es:List (I×Nat×D))
 |arr (e:TypeId) (k:Nat) (rs:List (Option (List I)))
 deriving Inhabited
def Ja:D->Bool
 |.i _=>true
 |_=>false
def Ii:D->I
 |.i x=>x
 |_=>.undef
def WD(nm:Nat)(b:Blk)(r:Ref):Cp:=
 if r.nm=nm then match r,b with
  |.loc _ off,.cells cs=>.i (.elt (cs.map Ii) off)
  |.sl _ k lo hi,.rows _ k' rs=>if k=k'/\hi<=rs.length then .i (.sl ((rs.take hi).drop lo))else .any
  |.lel _ k row off,.rows _ k' rs=>if k=k'/\row<rs.length then .i (.elt (rs.getD row []) off)else .any
  |.mp _,.map _ es=>.i (.map es)
  |.mp _,.gmap _ _ es=>if(es.all fun e=>Ja e.2.2)=true then .i (.map (es.map fun e=>(e.1,Ii e.2.2)))else .any
  |_,_=>.any
 else .ref r
def gn(nm:Nat)(b:Blk):Cp->Cp
 |.ref r=>WD nm b r
 |c=>c
def Cp.toD:Cp->D
 |.any=>.any
 |.i x=>.i x
 |.ref r=>.ref r
def Qq(nm:Nat)(b:Blk):D->D
 |.ref r=>(WD nm b r).toD
 |.fn f first caps=>.fn f (first.map (gn nm b)) (caps.map (gn nm b))
 |.tup cs=>.tup (cs.map (gn nm b))
 |d=>d
def gj(nm:Nat)(b:Blk):Blk->Blk
 |.cells cs=>.cells (cs.map (Qq nm b))
 |.lp l q cs=>.lp l q (cs.map (Qq nm b))
 |.gmap ls clk es=>.gmap ls clk (es.map fun e=>(e.1,e.2.1,Qq nm b e.2.2))
 |x=>x
def SL(nm:Nat)(b:Blk):List (Nat×Blk)->List (Nat×Blk)
 |[]=>[]
 |(m,x)::r=>(m,gj nm b x)::SL nm b r
def Cs:List (Nat×Blk)->Nat->List (Nat×Blk)
 |[],_=>[]
 |(m,d)::r,n=>if m=n then Cs r n else(m,d)::Cs r n
inductive Env where
 |l (e:List (Nat×D))
 |put (d:Nat) (v:D) (e:Env)
 |sb (nm:Nat) (b:Blk) (e:Env)
 deriving Inhabited
structure St where
 env:Env
 sto:List (Nat×Blk)
def CW:List (Nat×D)->Nat->D
 |[],_=>.any
 |(m,d)::r,n=>if m=n then d else CW r n
def Aj:Env->Nat->D
 |.l e,n=>CW e n
 |.put m d r,n=>if m=n then d else Aj r n
 |.sb nm b r,n=>Qq nm b (Aj r n)
def Aa:List (Nat×Blk)->Nat->Option Blk
 |[],_=>none
 |(m,d)::r,n=>if m=n then some d else Aa r n
def Ch:List (Nat×Blk)->Nat->Blk->List (Nat×Blk)
 |[],_,_=>[]
 |(m,d)::r,n,b=>if m=n then(m,b)::Ch r n b else(m,d)::Ch r n b
abbrev Place:=Nat->Value
def An:Value->Option Nat
 |.pointer (some a)=>some a.block
 |.slice (some a) _ cap=>if cap=0 then none else some a.block
 |.map (some b)=>some b
 |_=>none
def Lo(p:Value)(k lo hi:Nat)(v:Value):Prop:=
 ∃a cap,p=.slice a 0 cap/\lo<=hi/\hi<=cap/\((cap=lo/\∃a',v=.slice a' 0 0)\/∃b o,a=some ⟨b,o,none⟩/\v=.slice (some ⟨b,o+lo*k,none⟩) (hi-lo) (cap-lo))
def BU(μ:Place)(N:Nat->Prop):Ref->Value->Prop
 |.loc nm off,v=>N nm/\∃b,μ nm=.pointer (some ⟨b,0,none⟩)/\v=.pointer (some ⟨b,off,none⟩)
 |.sl nm k lo hi,v=>N nm/\Lo (μ nm) k lo hi v
 |.lel nm k row off,v=>N nm/\∃b o cap,μ nm=.slice (some ⟨b,o,none⟩) 0 cap/\row<cap/\v=.pointer (some ⟨b,o+row*k+off,none⟩)
 |.mp nm,v=>N nm/\∃b,μ nm=.map (some b)/\v=.map (some b)
 |.it nm,v=>N nm/\∃b,μ nm=.pointer (some ⟨b,0,none⟩)/\v=.pointer (some ⟨b,0,none⟩)
def Ci(M:Mem)(μ:Place)(N:Nat->Prop):Cp->Value->Prop
 |.any,_=>True
 |.i x,v=>Rep M x v
 |.ref r,v=>BU μ N r v
def Ed(M:Mem)(μ:Place)(N:Nat->Prop)(cs:List Cp)(vs:List Value):Prop:=vs.length=cs.length/\∀j (h:j<cs.length) (h':j<vs.length),Ci M μ N (cs[j]) (vs[j])
def AI(M:Mem)(μ:Place)(N:Nat->Prop):D->Value->Prop
 |.any,_=>True
 |.i x,v=>Rep M x v
 |.ref r,v=>BU μ N r v
 |.fn f first caps,v=>∃va vb:Array Value,v=.func (Gn f) va vb/\(Nat.blt f 1000000000=true\/caps=[])/\Ed M μ N first va.toList/\Ed M μ N caps vb.toList
 |.tup cs,v=>∃vs:Array Value,v=.tuple vs/\Ed M μ N cs vs.toList
theorem AM{M:Mem}{μ:Place}{N:Nat->Prop}{x:I}(h:Rep M x v):AI M μ N (.i x) v:=h
theorem AJ{M:Mem}{μ:Place}{N:Nat->Prop}{x:I}(h:AI M μ N (.i x) v):Rep M x v:=h
theorem BU.name{μ:Place}{N:Nat->Prop}{r:Ref}(h:BU μ N r v):N r.nm:=by cases r<;>exact h.1
theorem BU.mono{μ μ':Place}{N:Nat->Prop}{r:Ref}(h:BU μ N r v)(hn:N' r.nm)(hp:μ' r.nm=μ r.nm):BU μ' N' r v:=by cases r<;>simp only[Ref.nm]at hn hp<;>refine⟨hn,?_⟩<;>first|(rw[hp];exact h.2)
def Cp.nms:Cp->List Nat
 |.ref r=>[r.nm]
 |_=>[]
def D.nms:D->List Nat
 |.ref r=>[r.nm]
 |.fn _ first caps=>first.flatMap Cp.nms++caps.flatMap Cp.nms
 |.tup cs=>cs.flatMap Cp.nms
 |_=>[]
theorem Ci.mono{M M':Mem}{μ μ':Place}{N:Nat->Prop}(hm:M.le M'){d:Cp}{v:Value}(h:Ci M μ N d v)(hn:∀n∈d.nms,N n->N' n/\μ' n=μ n):Ci M' μ' N' d v:=by
 cases d with
 |any=>trivial
 |i x=>exact Rep.mono hm h
 |ref r=>have:=hn r.nm (by simp[Cp.nms]) h.name;exact BU.mono h this.1 this.2
theorem Ed.mono{M M':Mem}{μ μ':Place}{N:Nat->Prop}(hm:M.le M'){ds:List Cp}{vs:List Value}(h:Ed M μ N ds vs)(hn:∀n∈ds.flatMap Cp.nms,N n->N' n/\μ' n=μ n):Ed M' μ' N' ds vs:=
 ⟨h.1,fun j a b=>(h.2 j a b).mono hm fun n hnn=>hn n (List.mem_flatMap.2 ⟨_,List.getElem_mem a,hnn⟩)⟩
theorem AI.mono' {M M':Mem}{μ μ':Place}{N N':Nat->Prop}(hm:M.le M'){d:D}{v:Value}(h:AI M μ N d v)(hn:∀n∈d.nms,N n->N' n/\μ' n=μ n):AI M' μ' N' d v:=by
 cases d with
 |any=>trivial
 |i x=>exact Rep.mono hm h
 |ref r=>have:=hn r.nm (by simp[D.nms]) (BU.name h);exact BU.mono h this.1 this.2
 |fn f first caps=>obtain⟨va,vb,e,hy,h1,h2⟩:=h;exact⟨va,vb,e,hy,h1.mono hm (fun n a=>hn n (by simp only[D.nms,List.mem_append];exact .inl a)),h2.mono hm (fun n a=>hn n (by simp only[D.nms,List.mem_append];exact .inr a))⟩
 |tup cs=>obtain⟨vs,e,h1⟩:=h;exact⟨vs,e,h1.mono hm fun n a=>hn n a⟩
theorem AI.mono{M M':Mem}{μ:Place}{N:Nat->Prop}(hm:M.le M')(hn:∀n,N n->N' n){d:D}{v:Value}(h:AI M μ N d v):AI M' μ N' d v:=
 h.mono' hm fun n _ hN=>⟨hn n hN,rfl⟩
theorem Ci.name{M:Mem}{μ:Place}{N:Nat->Prop}{d:Cp}(h:Ci M μ N d v):∀n∈d.nms,N n:=by
 cases d with
 |ref r=>intro n hn;simp[Cp.nms]at hn;subst hn;exact BU.name h
 |_=>intro n hn;simp[Cp.nms]at hn
theorem Ed.name{M:Mem}{μ:Place}{N:Nat->Prop}{ds:List Cp}(h:Ed M μ N ds vs):∀n∈ds.flatMap Cp.nms,N n:=by intro n hn;obtain⟨c,hc,hcn⟩:=List.mem_flatMap.1 hn;obtain⟨j,hj,rfl⟩:=List.getElem_of_mem hc;exact(h.2 j hj (by rw[h.1];exact hj)).name n hcn
theorem AI.name{M:Mem}{μ:Place}{N:Nat->Prop}{d:D}(h:AI M μ N d v):∀n∈d.nms,N n:=by
 cases d with
 |ref r=>intro n hn;simp[D.nms]at hn;subst hn;exact BU.name h
 |fn f first caps=>obtain⟨va,vb,e,_,h1,h2⟩:=h;intro n hn;simp only[D.nms,List.mem_append]at hn;exact hn.elim (h1.name n) (h2.name n)
 |tup cs=>obtain⟨vs,e,h1⟩:=h;exact h1.name
 |_=>intro n hn;simp[D.nms]at hn
section
variable (S:Nat->Prop)(M:Mem)(μ:Place)(N:Nat->Prop)(w:World)(nm:Nat)
structure Owns(b:Nat)(o:Obj):Prop where
 low:¬S b
 heap:w.heap[b]? =some o
 unk:M.unk b
def EN(cur:Array Value)(o k:Nat)(rs:List (List I)):Prop:=
 (∀r∈rs,r.length=k)/\∀i (hi:i<rs.length) j (hj:j<rs[i].length),∃v,cur[o+i*k+j]? =some v/\Rep M (rs[i][j]) v
def Fh(xs:List MapEntry)(es:List (I×I)):Prop:=
 xs.length=es.length/\∀j (h:j<es.length) (h':j<xs.length),Rep M (es[j]).1 (xs[j]).key/\Rep M (es[j]).2 (xs[j]).val
def Hx(xs:List MapEntry)(es:List (I×Nat×D)):Prop:=
 xs.length=es.length/\∀j (h:j<es.length) (h':j<xs.length),Rep M (es[j]).1 (xs[j]).key/\(xs[j]).born=(es[j]).2.1/\AI M μ N (es[j]).2.2 (xs[j]).val
def Hy(cur:Array Value)(o k:Nat)(rs:List (Option (List I))):Prop:=
 ∀i r,rs[i]? =some (some r)->r.length=k/\∀j (hj:j<r.length),∃v,cur[o+i*k+j]? =some v/\Rep M (r[j]) v
def AQ:Blk->Prop
 |.cells cs=>∃b vs t,μ nm=.pointer (some ⟨b,0,none⟩)/\Owns S M w b (.cells vs t (0,0))/\vs.size=cs.length/\∀j (h:j<cs.length) (h':j<vs.size),AI M μ N (cs[j]) (vs[j])
 |.rows e k rs=>∃a cap,μ nm=.slice a 0 cap/\((cap=0/\rs=[])\/
   ∃b o cur,a=some ⟨b,o,none⟩/\0<cap/\Owns S M w b (.cells cur e (0,0))/\cap<=maxLen/\cur.size=o+cap*k/\rs.length<=cap/\EN M cur o k rs)
 |.map ls es=>∃b xs clk,μ nm=.map (some b)/\Owns S M w b (.map xs clk)/\Fh M xs.toList es/\GX xs.toList clk/\∀e∈es,AB ls e.1=true
 |.iter cur rest=>∃b m since seen last,μ nm=.pointer (some ⟨b,0,none⟩)/\Owns S M w b (.mapIter m since seen last)/\
   ((m=none/\rest=[]/\cur=none)\/∃q xs clk,m=some q/\M.m q=some (xs,clk)/\since=clk/\last=clk/\GX xs clk/\Fh M (xs.filter fun e=>!seen.contains e.born) rest/\
    ∀c,cur=some c->∃e∈xs,(∃seen0:Array Nat,seen=seen0.push e.born)/\Rep M c.1 e.key/\Rep M c.2 e.val)
 |.gmap ls clk es=>∃b xs,μ nm=.map (some b)/\Owns S M w b (.map xs clk)/\Hx M μ N xs.toList es/\GX xs.toList clk/\∀e∈es,AB ls e.1=true
 |.arr e k rs=>∃a,μ nm=.slice a 0 rs.length/\(rs=[]\/∃b o cur,a=some ⟨b,o,none⟩/\rs≠[]/\Owns S M w b (.cells cur e (0,0))/\rs.length<=maxLen/\cur.size=o+rs.length*k/\Hy M cur o k rs)
 |.lp l q cs=>∃vs:Array Value,μ nm=.pointer (some ⟨l,0,none⟩)/\Owns S M w l (.loop (q.lp vs))/\vs.size=cs.length/\∀j (h:j<cs.length) (h':j<vs.size),AI M μ N (cs[j]) (vs[j])
end
def Ij(GL:List (Nat×List I))(M:Mem):Prop:=∀g cs,(g,cs)∈GL->Rep M (.elt cs 0) (.pointer (some ⟨g,0,none⟩))
def names(sto:List (Nat×Blk)):Nat->Prop:=fun m=>(Aa sto m).isSome
structure StoOk(S:Nat->Prop)(M:Mem)(μ:Place)(sto:List (Nat×Blk))(w:World):Prop where
 sub:M.Sub w
 blk:∀nm b,Aa sto nm=some b->AQ S M μ (names sto) w nm b
 sep:∀nm nm' k k',nm≠nm'->names sto nm->names sto nm'->An (μ nm)=some k->An (μ nm')=some k'->k≠k'
 low:∀b,S b->b<w.heap.size
structure Sh where
 p:Nat->Prop
 q:Place
 ds:List Deferred
instance:CoeOut Sh (Nat->Prop):=⟨Sh.p⟩
instance:CoeFun Sh (fun _=>Nat->Prop):=⟨Sh.p⟩
def pinned(m:Nat):Prop:=5000<=m/\m<5500
theorem gx{d m:Nat}(h:pinned m)(hd:d<5000):m≠d:=by grind[pinned]
structure Rel(GL:List (Nat×List I))(n:Nat)(S:Sh)(M:Mem)(μ:Place)(st:St)(a:Act)(w:World):Prop extends StoOk S.p M μ st.sto w where
 small:n<=999
 pin:∀m,pinned m->μ m=S.q m
 defers:a.defers=S.ds
 size:a.tmps.size=n
 env:∀s,AI M μ (names st.sto) (Aj st.env s) (a.tmps.getD s Go.undef)
 glob:Ij GL M
structure MExt(S:Nat->Prop)(M M':Mem):Prop where
 le:M.le M'
 old:∀b,S b->M.same M' b
theorem MExt.refl(S:Nat->Prop)(M:Mem):MExt S M M:=⟨Mem.le_refl _,fun _ _=>Mem.same_refl _ _⟩
theorem MExt.trans{S:Nat->Prop}{M M' M'':Mem}(h:MExt S M M')(k:MExt S M' M''):MExt S M M'':=
 ⟨Mem.le_trans h.le k.le,fun b hb=>Mem.same_trans (h.old b hb) (k.old b hb)⟩
end Go.Dl
end
section
namespace Go.Dl
open Go Go.RowKit
variable{b o k:Nat}
structure Keeps(S:Nat->Prop)(w w':World):Prop where
 os:w'.os=w.os
 tape:w'.tape=w.tape
 output:w'.output=w.output
 size:w.heap.size<=w'.heap.size
 block:∀k,S k->w'.heap[k]? =w.heap[k]?
 drawn:w.drawn<=w'.drawn
theorem Keeps.refl(S:Nat->Prop)(w:World):Keeps S w w:=⟨rfl,rfl,rfl,Nat.le_refl _,fun _ _=>rfl,Nat.le_refl _⟩
theorem Keeps.trans{S:Nat->Prop}{a b c:World}(h:Keeps S a b)(k:Keeps S b c):Keeps S a c:=
 ⟨k.os.trans h.os,k.tape.trans h.tape,k.output.trans h.output,Nat.le_trans h.size k.size,fun i hi=>(k.block i hi).trans (h.block i hi),Nat.le_trans h.drawn k.drawn⟩
theorem Keeps.mono{S S':Nat->Prop}{w w':World}(h:Keeps S w w')(hs:∀k,S' k->S k):Keeps S' w w':=⟨h.os,h.tape,h.output,h.size,fun k hk=>h.block k (hs k hk),h.drawn⟩
theorem Keeps.drew{S:Nat->Prop}{a w:World}(h:Keeps S a w):Keeps S a w.drew:=⟨h.os,h.tape,h.output,h.size,h.block,Nat.le_succ_of_le h.drawn⟩
theorem SO(w:World)(o:Obj)(k:Nat)(h:k<w.heap.size):(w.alloc o).heap[k]? =w.heap[k]? :=Below.heap_alloc w o k h
theorem MV(w:World)(o:Obj):(w.alloc o).heap.size=w.heap.size+1:=by simp
theorem GY(w:World)(o:Obj):(w.alloc o).heap[w.heap.size]? =some o:=by show(w.heap.push o)[w.heap.size]? =_;simp
theorem Gp{S:Nat->Prop}(w:World)(o:Obj)(h:∀k,S k->k<w.heap.size):Keeps S w (w.alloc o):=
 ⟨rfl,rfl,rfl,by rw[MV];omega,fun k hk=>SO w o k (h k hk),Nat.le_refl _⟩
theorem J9{S:Nat->Prop}(w:World)(g:Nat)(cs:Array Value)(h:¬S g):Keeps S w (w.setRow g cs):=
 ⟨rfl,rfl,rfl,by simp,fun k hk=>setRow_other w g k cs (fun e=>h (e▸hk)),Nat.le_refl _⟩
theorem OI{w:World}{o:Obj}(h:w.heap[b]? =some o):b<w.heap.size:=(Array.getElem?_eq_some_iff.1 h).1
theorem WF{w:World}{v:Value}(h:w.cell? ⟨b,o,none⟩=some v):b<w.heap.size:=by
 rcases Nat.lt_or_ge b w.heap.size with k|k
 ·exact k
 ·simp[World.cell?,Array.getElem?_eq_none k]at h
theorem Gq{nm:Nat}{b:Blk}{sto:List (Nat×Blk)}(m:Nat)(h:names sto m):names ((nm,b)::sto) m:=by grind[names,Aa]
theorem Eo{nm:Nat}{b:Blk}{sto:List (Nat×Blk)}:names ((nm,b)::sto) nm:=by simp[names,Aa]
theorem C3(l:List (Nat×Blk))(nm m:Nat)(b:Blk):Aa (Ch l nm b) m=if m=nm then(Aa l nm).map (fun _=>b)else Aa l m:=by
 induction l with
 |nil=>simp[Ch,Aa]
 |cons x r ih=>grind[Ch,Aa]
theorem CX{nm:Nat}{b:Blk}{sto:List (Nat×Blk)}:names (Ch sto nm b)=names sto:=by grind[names,C3,Aa]
theorem Hz(nm:Nat)(b:Blk)(l:List (Nat×Blk))(m:Nat):Aa (SL nm b l) m=(Aa l m).map (gj nm b):=by
 induction l with
 |nil=>rfl
 |cons x r ih=>obtain⟨p,q⟩:=x;simp only[SL,Aa];split;rfl;exact ih
theorem Kc(l:List (Nat×Blk))(nm m:Nat):Aa (Cs l nm) m=if m=nm then none else Aa l m:=by
 induction l with
 |nil=>simp[Cs,Aa]
 |cons x r ih=>grind[Cs,Aa]
theorem WG{nm:Nat}{b:Blk}{sto:List (Nat×Blk)}:names (SL nm b sto)=names sto:=by grind[names,Hz,Aa]
def Blk.nms:Blk->List Nat
 |.cells cs=>cs.flatMap D.nms
 |.lp _ _ cs=>cs.flatMap D.nms
 |.gmap _ _ es=>es.flatMap fun e=>e.2.2.nms
 |_=>[]
def BP(μ:Place)(nm:Nat)(v:Value):Place:=fun m=>if m=nm then v else μ m
theorem Bq(μ:Place)(nm:Nat)(v:Value):BP μ nm v nm=v:=by simp[BP]
theorem CY(μ:Place){nm m:Nat}(v:Value)(h:m≠nm):BP μ nm v m=μ m:=by simp[BP,h]
section
variable {GL:List (Nat×List I)}{n:Nat}{S:Sh}{M M':Mem}{μ μ':Place}{N N':Nat->Prop}{st:St}{sto:List (Nat×Blk)}{a:Act}{w w':World}{nm:Nat}
theorem EN.mono{cur:Array Value}{rs:List (List I)}(h:EN M cur o k rs)(jj:M.le M'):EN M' cur o k rs:=
 ⟨h.1,fun i hi j hj=>by obtain⟨v,hv,hr⟩:=h.2 i hi j hj;exact⟨v,hv,hr.mono jj⟩⟩
theorem Fh.mono{xs:List MapEntry}{es:List (I×I)}(h:Fh M xs es)(jj:M.le M'):Fh M' xs es:=
 ⟨h.1,fun j a b=>⟨(h.2 j a b).1.mono jj,(h.2 j a b).2.mono jj⟩⟩
theorem Hx.mono{xs:List MapEntry}{es:List (I×Nat×D)}(h:Hx M μ N xs es)(jj:M.le M')(hn:∀e∈es,∀m∈e.2.2.nms,N m->N' m/\μ' m=μ m):Hx M' μ' N' xs es:=
 ⟨h.1,fun j a b=>⟨(h.2 j a b).1.mono jj,(h.2 j a b).2.1,(h.2 j a b).2.2.mono' jj (hn _ (List.getElem_mem a))⟩⟩
theorem Hy.mono{cur:Array Value}{rs:List (Option (List I))}(h:Hy M cur o k rs)(jj:M.le M'):Hy M' cur o k rs:=fun i r hr=>
 ⟨(h i r hr).1,fun j hj=>by obtain⟨v,hv,vj⟩:=(h i r hr).2 j hj;exact⟨v,hv,vj.mono jj⟩⟩
theorem Qu{n:Nat}(h:n≠0):An (.slice (some ⟨b,o,none⟩) 0 n)=some b:=by grind[An]
theorem Owns.mono{o:Obj}(h:Owns S M w b o)(hw:w'.heap[b]? =w.heap[b]?)(hm:M.same M' b):Owns S M' w' b o:=
 ⟨h.low,by rw[hw];exact h.heap,Mem.unk_same h.unk hm⟩
theorem Owns.lt{o:Obj}(h:Owns S M w b o):b<w.heap.size:=OI h.heap
theorem AQ.mono{b:Blk}(h:AQ S M μ N w nm b)(jj:M.le M')(hμ:μ' nm=μ nm)(hn:∀m∈b.nms,N m->N' m/\μ' m=μ m)
  (hw:∀k,An (μ nm)=some k->k<w.heap.size->w'.heap[k]? =w.heap[k]?)(hm:∀k,An (μ nm)=some k->k<w.heap.size->M.same M' k):AQ S M' μ' N' w' nm b:=by
 cases b with
 |cells cs=>
  obtain⟨b,vs,t,e,ho,hs,hr⟩:=h;have hb:An (μ nm)=some b:=by rw[e];rfl
  exact⟨b,vs,t,by rw[hμ];exact e,ho.mono (hw b hb ho.lt) (hm b hb ho.lt),hs,fun j h h'=>(hr j h h').mono' jj fun m wv=>hn m (List.mem_flatMap.2 ⟨_,List.getElem_mem h,wv⟩)⟩
 |rows e k rs=>
  obtain⟨a,cap,e1,h⟩:=h;refine⟨a,cap,by rw[hμ];exact e1,?_⟩;rcases h with h|⟨b,o,cur,rfl,hc,ho,q1,q2,q3,q4⟩
  ·exact .inl h
  ·have hb:An (μ nm)=some b:=by rw[e1];simp only[An];rw[if_neg (by omega)]
   exact .inr ⟨b,o,cur,rfl,hc,ho.mono (hw b hb ho.lt) (hm b hb ho.lt),q1,q2,q3,q4.mono jj⟩
 |map ls es=>
  obtain⟨b,xs,clk,e,ho,q1,q2,q3⟩:=h;have hb:An (μ nm)=some b:=by rw[e];rfl
  exact⟨b,xs,clk,by rw[hμ];exact e,ho.mono (hw b hb ho.lt) (hm b hb ho.lt),q1.mono jj,q2,q3⟩
 |iter cur rest=>
  obtain⟨b,m,since,seen,last,e,ho,h⟩:=h;have hb:An (μ nm)=some b:=by rw[e];rfl
  refine⟨b,m,since,seen,last,by rw[hμ];exact e,ho.mono (hw b hb ho.lt) (hm b hb ho.lt),?_⟩;rcases h with h|⟨q,xs,clk,q1,q2,q3,q4,q5,q6,q7⟩
  ·exact .inl h
  ·exact .inr ⟨q,xs,clk,q1,jj.2 _ _ q2,q3,q4,q5,q6.mono jj,fun c hc=>by obtain⟨e,he,h1,h2,h3⟩:=q7 c hc;exact⟨e,he,h1,h2.mono jj,h3.mono jj⟩⟩
 |lp l q cs=>
  obtain⟨vs,e,ho,hs,hr⟩:=h;have hb:An (μ nm)=some l:=by rw[e];rfl
  exact⟨vs,by rw[hμ];exact e,ho.mono (hw l hb ho.lt) (hm l hb ho.lt),hs,fun j h h'=>(hr j h h').mono' jj fun m wv=>hn m (List.mem_flatMap.2 ⟨_,List.getElem_mem h,wv⟩)⟩
 |gmap ls clk es=>
  obtain⟨b,xs,e,ho,q1,q2,q3⟩:=h;have hb:An (μ nm)=some b:=by rw[e];rfl
  exact⟨b,xs,by rw[hμ];exact e,ho.mono (hw b hb ho.lt) (hm b hb ho.lt),q1.mono jj (fun e he m wv=>hn m (List.mem_flatMap.2 ⟨e,he,wv⟩)),q2,q3⟩
 |arr e k rs=>
  obtain⟨a,e1,h⟩:=h;refine⟨a,by rw[hμ];exact e1,?_⟩;rcases h with h|⟨b,o,cur,rfl,ji,ho,q1,q2,q3⟩
  ·exact .inl h
  ·have hb:An (μ nm)=some b:=by rw[e1];exact Qu (by simpa using ji)
   exact .inr ⟨b,o,cur,rfl,ji,ho.mono (hw b hb ho.lt) (hm b hb ho.lt),q1,q2,q3.mono jj⟩
theorem AQ.lt{b:Blk}(h:AQ S M μ N w nm b){k:Nat}(hk:An (μ nm)=some k):k<w.heap.size/\¬S k/\M.unk k:=by
 cases b with
 |cells cs=>obtain⟨b,vs,t,e,ho,_⟩:=h;rw[e]at hk;cases hk;exact⟨ho.lt,ho.low,ho.unk⟩
 |rows e kk rs=>
  obtain⟨a,cap,e1,h⟩:=h;rw[e1]at hk;rcases h with⟨rfl,_⟩|⟨b,o,cur,rfl,hc,ho,_⟩
  ·cases a<;>simp[An]at hk
  ·simp only[An]at hk;rw[if_neg (by omega)]at hk;cases hk;exact⟨ho.lt,ho.low,ho.unk⟩
 |map ls es=>obtain⟨b,xs,clk,e,ho,_⟩:=h;rw[e]at hk;cases hk;exact⟨ho.lt,ho.low,ho.unk⟩
 |iter cur rest=>obtain⟨b,m,since,seen,last,e,ho,_⟩:=h;rw[e]at hk;cases hk;exact⟨ho.lt,ho.low,ho.unk⟩
 |lp l q cs=>obtain⟨vs,e,ho,_⟩:=h;rw[e]at hk;cases hk;exact⟨ho.lt,ho.low,ho.unk⟩
 |gmap ls clk es=>obtain⟨b,xs,e,ho,_⟩:=h;rw[e]at hk;cases hk;exact⟨ho.lt,ho.low,ho.unk⟩
 |arr e kk rs=>
  obtain⟨a,e1,h⟩:=h;rw[e1]at hk;rcases h with rfl|⟨b,o,cur,rfl,ji,ho,_⟩
  ·cases a<;>simp[An]at hk
  ·rw[Qu (by simpa using ji)]at hk;cases hk;exact⟨ho.lt,ho.low,ho.unk⟩
theorem StoOk.lt(h:StoOk S M μ sto w){m k:Nat}(hm:names sto m)(hk:An (μ m)=some k):k<w.heap.size/\¬S k/\M.unk k:=by obtain⟨b,hb⟩:=Option.isSome_iff_exists.1 hm;exact(h.blk m b hb).lt hk
theorem Mem.unk_new(h:M.Sub w){b:Nat}(hb:w.heap.size<=b):M.unk b:=by
 constructor
 ·intro o;cases hm:M.c b o with
  |none=>rfl
  |some v=>have:=WF (h.1 _ _ _ hm);omega
 ·cases hm:M.m b with
  |none=>rfl
  |some v=>have:=OI (h.2 _ _ hm);omega
theorem Mem.Sub.world(h:M.Sub w)(hw:∀k,k<w.heap.size->¬M.unk k->w'.heap[k]? =w.heap[k]?):M.Sub w':=by
 constructor
 ·intro b o v hv;have:=h.1 _ _ _ hv;rw[World.cell?_of_block (w:=w) (hw b (WF this) (fun hu=>by rw[hu.1]at hv;cases hv))];exact this
 ·intro b x hx;have:=h.2 _ _ hx;rw[hw b (OI this) (fun hu=>by rw[hu.2]at hx;cases hx)];exact this
theorem StoOk.world(h:StoOk S M μ sto w)(hs:w.heap.size<=w'.heap.size)(hw:∀k,k<w.heap.size->w'.heap[k]? =w.heap[k]?):StoOk S M μ sto w' where
 sub:=h.sub.world fun k hk _=>hw k hk
 blk:=fun m b hb=>(h.blk m b hb).mono (Mem.le_refl _) rfl (fun _ _ k=>⟨k,rfl⟩) (fun k _ hk=>hw k hk) (fun _ _ _=>Mem.same_refl _ _)
 sep:=h.sep
 low:=fun b hb=>Nat.lt_of_lt_of_le (h.low b hb) hs
theorem StoOk.alloc(h:StoOk S M μ sto w)(o:Obj):StoOk S M μ sto (w.alloc o):=h.world (by rw[MV];omega) fun k hk=>SO w o k hk
theorem StoOk.drew(h:StoOk S M μ sto w):StoOk S M μ sto w.drew:=h.world (Nat.le_refl _) fun _ _=>rfl
theorem StoOk.know(h:StoOk S M μ sto w)(jj:M.le M')(j9:M'.Sub w)(hm:∀m k,names sto m->An (μ m)=some k->M.same M' k):StoOk S M' μ sto w where
 sub:=j9
 blk:=fun m b hb=>(h.blk m b hb).mono jj rfl (fun _ _ k=>⟨k,rfl⟩) (fun _ _ _=>rfl) (fun k hk _=>hm m k (by simp[names,hb]) hk)
 sep:=h.sep
 low:=h.low
theorem StoOk.bind(h:StoOk S M μ sto w)(jl:Aa sto nm=none){b:Blk}{x:Value}(hb:AQ S M (BP μ nm x) (names ((nm,b)::sto)) w nm b)
  (hsep:∀m k,names sto m->An (μ m)=some k->An x≠some k):StoOk S M (BP μ nm x) ((nm,b)::sto) w:=by
 have ji:∀m,names sto m->m≠nm:=fun m hm e=>by grind[names]
 refine⟨h.sub,fun m b' hm=>?_,fun m m' k k' wv h1 h2 hk jk=>?_,h.low⟩
 ·by_cases e:nm=m
  ·subst e;simp only[Aa,if_true,Option.some.injEq]at hm;subst hm;exact hb
  ·simp only[Aa,if_neg e]at hm;exact(h.blk m b' hm).mono (Mem.le_refl _) (CY _ _ (Ne.symm e)) (fun q hq hN=>⟨Gq q hN,CY _ _ (ji q hN)⟩) (fun _ _ _=>rfl) (fun _ _ _=>Mem.same_refl _ _)
 ·have old:∀m,m≠nm->names ((nm,b)::sto) m->names sto m:=fun m e hm=>by simp only[names,Aa,if_neg (Ne.symm e)]at hm;exact hm
  by_cases e:m=nm
  ·by_cases e':m'=nm
   ·exact absurd (e.trans e'.symm) wv
   ·subst e;rw[Bq]at hk;rw[CY _ _ e']at jk;intro hkk;subst hkk;exact hsep m' k (old m' e' h2) jk hk
  ·rw[CY _ _ e]at hk;by_cases e':m'=nm
   ·subst e';rw[Bq]at jk;intro hkk;subst hkk;exact hsep m k (old m e h1) hk jk
   ·rw[CY _ _ e']at jk;exact h.sep m m' k k' wv (old m e h1) (old m' e' h2) hk jk
theorem gy(a:Act)(s:Option Nat)(v:Value):(a.put s v).tmps.size=a.tmps.size:=by cases s<;>simp[Act.put]
theorem gz(a:Act)(s:Option Nat)(v:Value):(a.put s v).defers=a.defers:=by cases s<;>simp[Act.put]
theorem gA(a:Act)(s t:Nat)(v:Value)(hs:s<a.tmps.size):(a.put (some s) v).tmps.getD t Go.undef=if s=t then v else a.tmps.getD t Go.undef:=by simp only[Act.put,Array.getD_eq_getD_getElem?,Array.getElem?_setIfInBounds];grind
def St.put(st:St)(s:Nat)(d:D):St:=⟨.put s d st.env,st.sto⟩
def St.bind(st:St)(nm:Nat)(b:Blk):St:=⟨st.env,(nm,b)::st.sto⟩
def St.setB(st:St)(nm:Nat)(b:Blk):St:=⟨st.env,Ch st.sto nm b⟩
def St.frz(st:St)(nm:Nat)(b:Blk):St:=⟨.sb nm b st.env,Cs (SL nm b st.sto) nm⟩
theorem Rel.put(h:Rel GL n S M μ st a w){s:Nat}(hs:s<n){d:D}{v:Value}(hd:AI M μ (names st.sto) d v):Rel GL n S M μ (st.put s d) (a.put (some s) v) w where
 toStoOk:=h.toStoOk
 small:=h.small
 pin:=h.pin
 defers:=by rw[gz];exact h.defers
 size:=by rw[gy];exact h.size
 env:=fun t=>by
  rw[gA _ _ _ _ (by rw[h.size];exact hs)];simp only[St.put,Aj];split
  ·exact hd
  ·exact h.env t
 glob:=h.glob
theorem Ij.mono{GL:List (Nat×List I)}{M M':Mem}(h:Ij GL M)(hm:M.le M'):Ij GL M':=fun g cs hg=>(h g cs hg).mono hm
def gg(GL:List (Nat×List I))(n:Nat)(S:Sh)(M:Mem)(w:World)(st':St)(a':Act)(w':World):Prop:=
 ∃M' μ',Rel GL n S M' μ' st' a' w'/\MExt S M M'/\Keeps S w w'
theorem gg.of(h:Rel GL n S M μ st a w):gg GL n S M w st a w:=⟨M,μ,h,MExt.refl _ _,Keeps.refl _ _⟩
theorem Rel.of(h:Rel GL n S M μ st a w){st':St}(hs:StoOk S M' μ' st'.sto w')(hg:M.le M')(he:∀s v,AI M μ (names st.sto) (Aj st.env s) v->AI M' μ' (names st'.sto) (Aj st'.env s) v)
  (hp:∀m,pinned m->μ' m=μ m:=by intros;rfl):Rel GL n S M' μ' st' a w' where
 toStoOk:=hs
 small:=h.small
 pin:=fun m hm=>(hp m hm).trans (h.pin m hm)
 defers:=h.defers
 size:=h.size
 env:=fun s=>he s _ (h.env s)
 glob:=h.glob.mono hg
def Mem.with(M:Mem)(b:Nat)(vs:Array Value):Mem:=⟨fun b' o=>if b'=b then vs[o]? else M.c b' o,M.m⟩
def Mem.withM(M:Mem)(b:Nat)(x:List MapEntry×Nat):Mem:=⟨M.c,fun b'=>if b'=b then some x else M.m b'⟩
theorem Mem.le_with{vs:Array Value}(h:M.unk b):M.le (M.with b vs):=
 ⟨fun b' o v hv=>by simp only[Mem.with];split<;>first|(rename_i e;subst e;rw[h.1 o]at hv;cases hv)|exact hv,fun b x hx=>hx⟩
theorem Mem.le_withM{x:List MapEntry×Nat}(h:M.unk b):M.le (M.withM b x):=
 ⟨fun _ _ _ hv=>hv,fun b' y hy=>by simp only[Mem.withM];split<;>first|(rename_i e;subst e;rw[h.2]at hy;cases hy)|exact hy⟩
theorem Mem.with_same{vs:Array Value}(h:k≠b):M.same (M.with b vs) k:=⟨fun o=>by simp[Mem.with,h],rfl⟩
theorem Mem.withM_same{x:List MapEntry×Nat}(h:k≠b):M.same (M.withM b x) k:=⟨fun o=>rfl,by simp[Mem.withM,h]⟩
theorem Mem.Sub.with(h:M.Sub w){b:Nat}{vs:Array Value}{t:TypeId}{fr:Nat×Nat}(hb:w.heap[b]? =some (.cells vs t fr)):(M.with b vs).Sub w:=
 ⟨fun b' o v hv=>by
  simp only[Mem.with]at hv;split at hv
  ·rename_i e;subst e;simp[World.cell?,hb,hv]
  ·exact h.1 _ _ _ hv,h.2⟩
theorem Mem.Sub.withM(h:M.Sub w){b:Nat}{x:List MapEntry×Nat}(hb:w.heap[b]? =some (.map x.1.toArray x.2)):(M.withM b x).Sub w:=
 ⟨h.1,fun b' y hy=>by
  simp only[Mem.withM]at hy;split at hy
  ·rename_i e;subst e;cases hy;exact hb
  ·exact h.2 _ _ hy⟩
theorem Rel.allocKnown(h:Rel GL n S M μ st a w)(vs:Array Value)(t:TypeId):
  Rel GL n S (M.with w.heap.size vs) μ st a (w.alloc (.cells vs t))/\MExt S M (M.with w.heap.size vs)/\Keeps S w (w.alloc (.cells vs t)):=by
 have jj:M.le (M.with w.heap.size vs):=Mem.le_with (Mem.unk_new h.sub (Nat.le_refl _));have h1:=h.toStoOk.alloc (.cells vs t);have h2:StoOk S (M.with w.heap.size vs) μ st.sto (w.alloc (.cells vs t)):=h1.know jj (h1.sub.with (GY w _)) fun m k hm hk=>Mem.with_same (by have:=h.toStoOk.lt hm hk;omega)
 exact⟨h.of h2 jj fun s v hv=>hv.mono jj fun _ k=>k,⟨jj,fun b hb=>Mem.with_same (by have:=h.low b hb;omega)⟩,Gp w _ h.low⟩
theorem Rel.bindName(h:Rel GL n S M μ st a w)(jl:Aa st.sto nm=none)(jn:nm<n){b:Blk}{x:Value}(hb:AQ S M (BP μ nm x) (names ((nm,b)::st.sto)) w nm b)
  (hsep:∀m k,names st.sto m->An (μ m)=some k->An x≠some k):Rel GL n S M (BP μ nm x) (st.bind nm b) a w:=by
 refine h.of (st':=st.bind nm b) (h.toStoOk.bind jl hb hsep) (Mem.le_refl _) (fun s v hv=>hv.mono' (Mem.le_refl _) fun q _ hN=>⟨Gq q hN,CY _ _ fun e=>?_⟩) fun m hm=>CY _ _ (gx hm (by have:=h.small;omega))
 subst e;simp[names,jl]at hN
theorem Rel.bindNameN(h:Rel GL n S M μ st a w)(jl:Aa st.sto nm=none)(hp:¬pinned nm){b:Blk}{x:Value}(hb:AQ S M (BP μ nm x) (names ((nm,b)::st.sto)) w nm b)
  (hsep:∀m k,names st.sto m->An (μ m)=some k->An x≠some k):Rel GL n S M (BP μ nm x) (st.bind nm b) a w:=by
 refine h.of (st':=st.bind nm b) (h.toStoOk.bind jl hb hsep) (Mem.le_refl _) (fun s v hv=>hv.mono' (Mem.le_refl _) fun q _ hN=>⟨Gq q hN,CY _ _ fun e=>?_⟩) fun m hm=>CY _ _ (fun e=>hp (e▸hm))
 subst e;simp[names,jl]at hN
theorem Rel.allocMut(h:Rel GL n S M μ st a w)(jl:Aa st.sto nm=none)(jn:nm<n)(cs:List D)(vs:Array Value)(t:TypeId)(hs:vs.size=cs.length)
  (hd:∀j (h:j<cs.length) (h':j<vs.size),AI M μ (names st.sto) (cs[j]) (vs[j])):
  Rel GL n S M (BP μ nm (.pointer (some ⟨w.heap.size,0,none⟩))) (st.bind nm (.cells cs)) a (w.alloc (.cells vs t))/\Keeps S w (w.alloc (.cells vs t)):=by
 have h1:Rel GL n S M μ st a (w.alloc (.cells vs t)):=h.of (h.toStoOk.alloc _) (Mem.le_refl _) fun _ _ hv=>hv
 refine⟨h1.bindName jl jn ⟨w.heap.size,vs,t,Bq _ _ _,⟨fun hS=>by have:=h.low _ hS;omega,GY w _,Mem.unk_new h.sub (Nat.le_refl _)⟩,hs,fun j a b=>(hd j a b).mono' (Mem.le_refl _) fun q _ hN=>⟨Gq q hN,CY _ _ fun e=>?_⟩⟩ ?_,Gp w _ h.low⟩
 ·subst e;simp[names,jl]at hN
 ·intro m k hm hk;have:=(h.toStoOk.lt hm hk).1;simp only[An];intro e;cases e;omega
theorem StoOk.setBlk(h:StoOk S M μ sto w){blk blk':Blk}(jl:Aa sto nm=some blk){b:Nat}(hμ:An (μ nm)=some b)(hs:w.heap.size<=w'.heap.size)
  (kn:∀k,k≠b->k<w.heap.size->w'.heap[k]? =w.heap[k]?)(qn:AQ S M μ (names (Ch sto nm blk')) w' nm blk'):StoOk S M μ (Ch sto nm blk') w':=by
 have hb:=h.lt (m:=nm) (by simp[names,jl]) hμ;refine⟨h.sub.world fun k hk hu=>kn k (fun e=>by subst e;exact hu hb.2.2) hk,fun m bb hm=>?_,?_,fun k hk=>Nat.lt_of_lt_of_le (h.low k hk) hs⟩
 ·by_cases e:m=nm
  ·subst e;simp only[C3,if_true,jl,Option.map_some,Option.some.injEq]at hm;subst hm;exact qn
  ·simp only[C3,if_neg e]at hm;refine(h.blk m bb hm).mono (Mem.le_refl _) rfl (fun q _ hN=>⟨by rw[CX];exact hN,rfl⟩) (fun k hk jn=>kn k ?_ jn) (fun _ _ _=>Mem.same_refl _ _);exact h.sep m nm k b e (by simp[names,hm]) (by simp[names,jl]) hk hμ
 ·rw[CX];exact h.sep
theorem Rel.setBlk(h:Rel GL n S M μ st a w){blk blk':Blk}(jl:Aa st.sto nm=some blk){b:Nat}(hμ:An (μ nm)=some b)(hs:w.heap.size<=w'.heap.size)
  (kn:∀k,k≠b->k<w.heap.size->w'.heap[k]? =w.heap[k]?)(qn:AQ S M μ (names (Ch st.sto nm blk')) w' nm blk'):Rel GL n S M μ (st.setB nm blk') a w':=
 h.of (st':=st.setB nm blk') (h.toStoOk.setBlk jl hμ hs kn qn) (Mem.le_refl _) fun s v hv=>by grind[St.setB,CX]
end
end Go.Dl
end
section
namespace Go.Dl
open Go Go.RowKit
def BV(cs:List D):Bool:=cs.all Ja
theorem gB{l:List D}(h:BV l=true):l=(l.map Ii).map D.i:=by
 induction l with
 |nil=>rfl
 |cons x l ih=>simp only[BV,List.all_cons,Bool.and_eq_true]at h;rw[List.map_cons,List.map_cons,<-ih h.2];congr 1;cases x<;>simp[Ja]at h<;>rfl
section
variable {GL:List (Nat×List I)}{n:Nat}{S:Sh}{M M':Mem}{μ μ':Place}{N N':Nat->Prop}{st:St}{sto:List (Nat×Blk)}{a:Act}{w w':World}{nm:Nat}{b:Blk}
theorem Ci.sb(jj:M.le M')(hN:∀m,m≠nm->N m->N' m/\μ' m=μ m)(hp:∀r v,r.nm=nm->BU μ N r v->Ci M' μ' N' (WD nm b r) v){x:Cp}{v:Value}(h:Ci M μ N x v):Ci M' μ' N' (gn nm b x) v:=by
 cases x with
 |any=>trivial
 |i y=>exact Rep.mono jj h
 |ref r=>
  by_cases e:r.nm=nm
  ·exact hp r v e h
  ·simp only[gn,WD,if_neg e];have:=hN r.nm e (BU.name h);exact BU.mono h this.1 this.2
theorem Ci.toD{x:Cp}{v:Value}(h:Ci M μ N x v):AI M μ N x.toD v:=by
 cases x with
 |any=>trivial
 |i y=>exact h
 |ref r=>exact h
theorem Ed.sb(jj:M.le M')(hN:∀m,m≠nm->N m->N' m/\μ' m=μ m)(hp:∀r v,r.nm=nm->BU μ N r v->Ci M' μ' N' (WD nm b r) v){xs:List Cp}{vs:List Value}(h:Ed M μ N xs vs):
  Ed M' μ' N' (xs.map (gn nm b)) vs:=
 ⟨by simpa using h.1,fun j a b=>by rw[List.getElem_map];exact(h.2 j (by simpa using a) b).sb jj hN hp⟩
theorem AI.sb(jj:M.le M')(hN:∀m,m≠nm->N m->N' m/\μ' m=μ m)(hp:∀r v,r.nm=nm->BU μ N r v->Ci M' μ' N' (WD nm b r) v){x:D}{v:Value}(h:AI M μ N x v):AI M' μ' N' (Qq nm b x) v:=by
 cases x with
 |any=>trivial
 |i y=>exact Rep.mono jj h
 |ref r=>exact(Ci.sb (x:=.ref r) jj hN hp h).toD
 |fn f first caps=>obtain⟨va,vb,e,hy,h1,h2⟩:=h;exact⟨va,vb,e,hy.imp id (fun q=>by rw[q];rfl),h1.sb jj hN hp,h2.sb jj hN hp⟩
 |tup cs=>obtain⟨vs,e,h1⟩:=h;exact⟨vs,e,h1.sb jj hN hp⟩
theorem AQ.sb{m:Nat}{x:Blk}(jj:M.le M')(hN:∀m,m≠nm->N m->N' m/\μ' m=μ m)(hp:∀r v,r.nm=nm->BU μ N r v->Ci M' μ' N' (WD nm b r) v)(hμ:μ' m=μ m)
  (hw:∀k,An (μ m)=some k->k<w.heap.size->w'.heap[k]? =w.heap[k]?)(hm:∀k,An (μ m)=some k->k<w.heap.size->M.same M' k)(h:AQ S M μ N w m x):AQ S M' μ' N' w' m (gj nm b x):=by
 cases x with
 |cells cs=>
  obtain⟨bb,vs,t,e,ho,hs,hr⟩:=h;have hb:An (μ m)=some bb:=by rw[e];rfl
  refine⟨bb,vs,t,by rw[hμ];exact e,ho.mono (hw bb hb ho.lt) (hm bb hb ho.lt),by simpa using hs,fun j h h'=>?_⟩;rw[List.getElem_map];exact(hr j (by simpa using h) h').sb jj hN hp
 |rows e k rs=>exact AQ.mono (b:=.rows e k rs) h jj hμ (fun _ hx=>by simp[Blk.nms]at hx) hw hm
 |map ls es=>exact AQ.mono (b:=.map ls es) h jj hμ (fun _ hx=>by simp[Blk.nms]at hx) hw hm
 |iter cur rest=>exact AQ.mono (b:=.iter cur rest) h jj hμ (fun _ hx=>by simp[Blk.nms]at hx) hw hm
 |lp l q cs=>
  obtain⟨vs,e,ho,hs,hr⟩:=h;have hb:An (μ m)=some l:=by rw[e];rfl
  refine⟨vs,by rw[hμ];exact e,ho.mono (hw l hb ho.lt) (hm l hb ho.lt),by simpa using hs,fun j h h'=>?_⟩;rw[List.getElem_map];exact(hr j (by simpa using h) h').sb jj hN hp
 |gmap ls clk es=>
  obtain⟨bb,xs,e,ho,q1,q2,q3⟩:=h;have hb:An (μ m)=some bb:=by rw[e];rfl
  refine⟨bb,xs,by rw[hμ];exact e,ho.mono (hw bb hb ho.lt) (hm bb hb ho.lt),⟨by simpa using q1.1,fun j h h'=>?_⟩,q2,fun e he=>?_⟩
  ·rw[List.getElem_map];have:=q1.2 j (by simpa using h) h';exact⟨this.1.mono jj,this.2.1,this.2.2.sb jj hN hp⟩
  ·obtain⟨e0,he0,rfl⟩:=List.mem_map.1 he;exact q3 e0 he0
 |arr e k rs=>exact AQ.mono (b:=.arr e k rs) h jj hμ (fun _ hx=>by simp[Blk.nms]at hx) hw hm
theorem WH{m:Nat}(hm:m≠nm)(h:names sto m):names (Cs (SL nm b sto) nm) m:=by grind[names,Kc,Hz,Aa]
theorem WI{m:Nat}(h:names (Cs (SL nm b sto) nm) m):m≠nm/\names sto m:=by grind[names,Kc,Hz,Aa]
theorem StoOk.giveup(h:StoOk S M μ sto w)(jj:M.le M')(j9:M'.Sub w)(hp:∀r v,r.nm=nm->BU μ (names sto) r v->Ci M' μ (names (Cs (SL nm b sto) nm)) (WD nm b r) v)
  (hm:∀k,An (μ nm)≠some k->M.same M' k)(jl:names sto nm):StoOk S M' μ (Cs (SL nm b sto) nm) w:=by
 refine⟨j9,fun m x hx=>?_,fun m m' k k' wv h1 h2 hk jk=>h.sep m m' k k' wv (WI h1).2 (WI h2).2 hk jk,h.low⟩;simp only[Kc,Hz]at hx;split at hx
 ·cases hx
 ·rename_i ji;cases hy:Aa sto m with
  |none=>simp[hy]at hx
  |some y=>simp only[hy,Option.map_some,Option.some.injEq]at hx;subst hx;refine(h.blk m y hy).sb jj (fun q hq hN=>⟨WH hq hN,rfl⟩) hp rfl (fun _ _ _=>rfl) (fun k hk _=>hm k fun e=>?_);exact h.sep m nm k k ji (by simp[names,hy]) jl hk e rfl
theorem Rel.giveup(h:Rel GL n S M μ st a w)(jj:M.le M')(j9:M'.Sub w)(hp:∀r v,r.nm=nm->BU μ (names st.sto) r v->Ci M' μ (names (Cs (SL nm b st.sto) nm)) (WD nm b r) v)
  (hm:∀k,An (μ nm)≠some k->M.same M' k)(jl:names st.sto nm):Rel GL n S M' μ (st.frz nm b) a w:=
 h.of (st':=st.frz nm b) (h.toStoOk.giveup jj j9 hp hm jl) jj fun s v hv=>by simp only[St.frz,Aj];exact hv.sb jj (fun q hq hN=>⟨WH hq hN,rfl⟩) hp
theorem Rel.drop(h:Rel GL n S M μ st a w)(jl:names st.sto nm):Rel GL n S M μ (st.frz nm (.iter none [])) a w:=by refine h.giveup (Mem.le_refl _) h.sub (fun r v e _=>?_) (fun _ _=>Mem.same_refl _ _) jl;simp only[WD,if_pos e];cases r<;>trivial
theorem gC{cur:Array Value}{o k cap bb:Nat}{rs:List (List I)}(h:EN M' cur o k rs)(hk:∀x,x<cur.size->M'.c bb x=cur[x]?){lo hi:Nat}(qc:lo<=hi)(qx:hi<=rs.length)(hc:rs.length<=cap):
  Rep M' (.sl ((rs.take hi).drop lo)) (.slice (some ⟨bb,o+lo*k,none⟩) (hi-lo) (cap-lo)):=by
 obtain⟨h1,h2⟩:=h;have hl:((rs.take hi).drop lo).length=hi-lo:=by simp;omega
 by_cases he:hi=lo
 ·subst he;have:(rs.take hi).drop hi=[]:=List.eq_nil_of_length_eq_zero (by omega);rw[this,Nat.sub_self];exact .slempty _ _
 have ka:∀i (ja:i<((rs.take hi).drop lo).length),((rs.take hi).drop lo)[i]=rs[lo+i]'(by omega):=fun i ja=>by simp
 have:=Rep.sl (M:=M') ((rs.take hi).drop lo) k bb (o+lo*k) (cap-lo) (fun i j=>cur.getD (o+(lo+i)*k+j) Go.undef) (fun r hr=>h1 r (List.mem_of_mem_take (List.mem_of_mem_drop hr))) (by omega)
  (fun i ja j hj=>by
   rw[ka i ja]at hj;obtain⟨v,hv,_⟩:=h2 (lo+i) (by omega) j hj;have hx:o+lo*k+i*k+j=o+(lo+i)*k+j:=by grind
   rw[hx,hk _ (Array.getElem?_eq_some_iff.1 hv).1,hv];simp[Array.getD_eq_getD_getElem?,hv])
  (fun i ja j hj=>by
   have jq:=hj;rw[ka i ja]at jq;obtain⟨v,hv,hr⟩:=h2 (lo+i) (by omega) j jq;simp only[Array.getD_eq_getD_getElem?,hv,Option.getD_some];have e:=ka i ja;have:((rs.take hi).drop lo)[i][j]=rs[lo+i][j]:=by simp
   rw[this];exact hr)
 rw[hl]at this;exact this
theorem gD{cur:Array Value}{o k bb:Nat}{rs:List (List I)}(h:EN M' cur o k rs)(hk:∀x,x<cur.size->M'.c bb x=cur[x]?){row:Nat}(ju:row<rs.length)(off:Nat):
  Rep M' (.elt (rs.getD row []) off) (.pointer (some ⟨bb,o+row*k+off,none⟩)):=by
 have e:rs.getD row []=rs[row]:=by grind
 rw[e];refine Rep.elt _ off bb (o+row*k) (fun j=>cur.getD (o+row*k+j) Go.undef) (fun j hj=>?_) (fun j hj=>?_)
 ·obtain⟨v,hv,_⟩:=h.2 row ju j hj;rw[hk _ (Array.getElem?_eq_some_iff.1 hv).1,hv];simp[Array.getD_eq_getD_getElem?,hv]
 ·obtain⟨v,hv,hr⟩:=h.2 row ju j hj;simp only[Array.getD_eq_getD_getElem?,hv,Option.getD_some];exact hr
theorem WJ{xs:List MapEntry}{clk b:Nat}{es:List (I×I)}(h:Fh M' xs es)(hb:GX xs clk)(hm:M'.m b=some (xs,clk)):Rep M' (.map es) (.map (some b)):=
 .map es b xs clk hm h.1 hb (fun j hj=>(h.2 j hj (by rw[h.1];exact hj)).1) (fun j hj=>(h.2 j hj (by rw[h.1];exact hj)).2)
def FL:Blk->Bool
 |.cells cs=>BV cs
 |.lp _ _ _=>false
 |.arr _ _ _=>false
 |.gmap _ _ es=>es.all fun e=>Ja e.2.2
 |_=>true
theorem Rel.freeze(h:Rel GL n S M μ st a w)(hg:Aa st.sto nm=some b)(kg:FL b=true):∃M',Rel GL n S M' μ (st.frz nm b) a w/\MExt S M M':=by
 have jl:names st.sto nm:=by simp[names,hg]
 have hbk:=h.blk nm b hg;cases b with
 |cells cs=>
  obtain⟨bb,vs,t,e,ho,hs,hr⟩:=hbk;have jj:M.le (M.with bb vs):=Mem.le_with ho.unk;refine⟨M.with bb vs,h.giveup jj (h.sub.with ho.heap) (fun r v er hv=>?_) (fun k hk=>Mem.with_same fun e'=>hk (by rw[e,e'];rfl)) jl,⟨jj,fun k hk=>Mem.with_same fun e'=>ho.low (e'▸hk)⟩⟩;simp only[WD,if_pos er];cases r with
  |loc m off=>
   obtain rfl:m=nm:=er;obtain⟨_,b',e1,rfl⟩:=hv;obtain rfl:bb=b':=by rw[e]at e1;injection e1 with q;injection q with q;injection q
   have jg:=gB kg;have:=Rep.elt (M:=M.with bb vs) (cs.map Ii) off bb 0 (fun j=>vs.getD j Go.undef) (fun j hj=>by
    simp at hj;simp[Mem.with,show j<vs.size by omega]) (fun j hj=>by
    have jq:j<cs.length:=by simpa using hj
    have:=hr j jq (by omega);have e2:cs[j]=.i ((cs.map Ii)[j]):=by have:=congrArg (·[j]?) jg;simp[List.getElem?_eq_getElem jq]at this;simpa using this
    rw[e2]at this;simp only[Array.getD_eq_getD_getElem?,show vs[j]? =some vs[j] by simp[show j<vs.size by omega],Option.getD_some];exact Rep.mono jj this)
   rw[Nat.zero_add]at this;exact this
  |_=>trivial
 |rows et k rs=>
  obtain⟨aa,cap,e,hh⟩:=hbk;rcases hh with⟨rfl,rfl⟩|⟨bb,o,cur,rfl,hc,ho,q1,q2,q3,q4⟩
  ·refine⟨M,h.giveup (Mem.le_refl _) h.sub (fun r v er hv=>?_) (fun _ _=>Mem.same_refl _ _) jl,MExt.refl _ _⟩;simp only[WD,if_pos er];cases r with
   |sl m k' lo hi=>
    obtain rfl:m=nm:=er;dsimp only;split
    ·rename_i jj;replace jj:=jj.2;obtain⟨_,a',cap',e1,g1,g2,g3⟩:=hv;rw[e]at e1;injection e1 with e2 e3 e4
     subst e4;obtain rfl:lo=0:=by omega
     obtain rfl:hi=0:=by omega
     rcases g3 with⟨_,a'',rfl⟩|⟨b',o',e5,rfl⟩
     ·show Rep M (.sl _) _;simp only[List.take_nil,List.drop_nil];cases a'' with
      |none=>exact .slnil
      |some x=>exact .slempty _ _
     ·show Rep M (.sl _) _;simp only[List.take_nil,List.drop_nil];exact .slempty _ _
    ·trivial
   |lel m k' row off=>
    dsimp only;split
    ·rename_i hh;simp at hh
    ·trivial
   |_=>trivial
  ·have jj:M.le (M.with bb cur):=Mem.le_with ho.unk;have hbo:An (μ nm)=some bb:=by rw[e];simp only[An];rw[if_neg (by omega)]
   refine⟨M.with bb cur,h.giveup jj (h.sub.with ho.heap) (fun r v er hv=>?_) (fun k hk=>Mem.with_same fun e'=>hk (by rw[e',hbo])) jl,⟨jj,fun k hk=>Mem.with_same fun e'=>ho.low (e'▸hk)⟩⟩;have hkn:∀x,x<cur.size->(M.with bb cur).c bb x=cur[x]? :=fun x hx=>by simp[Mem.with]
   have q4':=q4.mono jj;simp only[WD,if_pos er];cases r with
   |sl m k' lo hi=>
    obtain rfl:m=nm:=er;dsimp only;split
    ·rename_i jv;obtain⟨rfl,hle'⟩:=jv;obtain⟨_,a',cap',e1,g1,g2,g3⟩:=hv;rw[e]at e1;injection e1 with e2 e3 e4
     subst e4;subst e2;rcases g3 with⟨rfl,a'',rfl⟩|⟨b',o',e5,rfl⟩
     ·obtain rfl:hi=cap:=by omega
      show Rep _ (.sl _) _;have:(rs.take hi).drop hi=[]:=by rw[List.drop_eq_nil_iff];simp;omega
      rw[this];cases a'' with
      |none=>exact .slnil
      |some x=>exact .slempty _ _
     ·injection e5 with e5;injection e5 with e5 e6;subst e5;subst e6
      exact gC q4' hkn g1 hle' q3
    ·trivial
   |lel m k' row off=>
    obtain rfl:m=nm:=er;dsimp only;split
    ·rename_i jv;obtain⟨rfl,ju⟩:=jv;obtain⟨_,b',o',cap',e1,_,rfl⟩:=hv;rw[e]at e1;injection e1 with e2 e3 e4
     injection e2 with e2;injection e2 with e5 e6;subst e5;subst e6
     exact gD q4' hkn ju off
    ·trivial
   |_=>trivial
 |map ls es=>
  obtain⟨bb,xs,clk,e,ho,q1,q2,q3⟩:=hbk;have jj:M.le (M.withM bb (xs.toList,clk)):=Mem.le_withM ho.unk;refine⟨M.withM bb (xs.toList,clk),h.giveup jj (h.sub.withM (by simpa using ho.heap)) (fun r v er hv=>?_) (fun k hk=>Mem.withM_same fun e'=>hk (by rw[e,e'];rfl)) jl,⟨jj,fun k hk=>Mem.withM_same fun e'=>ho.low (e'▸hk)⟩⟩;simp only[WD,if_pos er];cases r with
  |mp m=>obtain rfl:m=nm:=er;obtain⟨_,b',e1,rfl⟩:=hv;rw[e]at e1;injection e1 with e1;injection e1 with e1;subst e1;exact WJ (q1.mono jj) q2 (by simp[Mem.withM])
  |_=>trivial
 |iter cur rest=>refine⟨M,h.giveup (Mem.le_refl _) h.sub (fun r v er _=>?_) (fun _ _=>Mem.same_refl _ _) jl,MExt.refl _ _⟩;simp only[WD,if_pos er];cases r<;>trivial
 |lp l q cs=>simp[FL]at kg
 |arr e k rs=>simp[FL]at kg
 |gmap ls clk es=>
  obtain⟨bb,xs,e,ho,q1,q2,q3⟩:=hbk;have jj:M.le (M.withM bb (xs.toList,clk)):=Mem.le_withM ho.unk;refine⟨M.withM bb (xs.toList,clk),h.giveup jj (h.sub.withM (by simpa using ho.heap)) (fun r v er hv=>?_) (fun k hk=>Mem.withM_same fun e'=>hk (by rw[e,e'];rfl)) jl,⟨jj,fun k hk=>Mem.withM_same fun e'=>ho.low (e'▸hk)⟩⟩;simp only[WD,if_pos er];cases r with
  |mp m=>
   obtain rfl:m=nm:=er;obtain⟨_,b',e1,rfl⟩:=hv;rw[e]at e1;injection e1 with e1;injection e1 with e1;subst e1;dsimp only;have jg:(es.all fun e=>Ja e.2.2)=true:=kg;rw[if_pos jg];refine WJ ⟨by simpa using q1.1,fun j h1 h2=>?_⟩ q2 (by simp[Mem.withM]);have hj:j<es.length:=by simpa using h1
   have:=q1.2 j hj h2;rw[List.getElem_map];refine⟨this.1.mono jj,?_⟩;have hi:Ja es[j].2.2=true:=by rw[List.all_eq_true]at jg;exact jg _ (List.getElem_mem hj)
   have h3:=this.2.2;revert hi h3;cases es[j].2.2<;>intro hi h3<;>first|(simp[Ja]at hi;done)|exact Rep.mono jj h3
  |_=>trivial
def St.frzN(st:St)(nm:Nat):St:=match Aa st.sto nm with
 |some b=>if FL b=true then st.frz nm b else st
 |none=>st
theorem Rel.frzN(h:Rel GL n S M μ st a w)(nm:Nat):∃M',Rel GL n S M' μ (st.frzN nm) a w/\MExt S M M':=by
 unfold St.frzN;split
 ·split
  ·exact h.freeze ‹_› ‹_›
  ·grind[MExt.refl]
 ·grind[MExt.refl]
def frzNs:List Nat->St->St
 |[],st=>st
 |nm::r,st=>frzNs r (st.frzN nm)
theorem Rel.frzNs:∀(l:List Nat) {M:Mem} {st:St},Rel GL n S M μ st a w->∃M',Rel GL n S M' μ (Dl.frzNs l st) a w/\MExt S M M'
 |[],M,st,h=>⟨M,h,MExt.refl _ _⟩
 |x::l,M,st,h=>by obtain⟨M1,h1,m1⟩:=h.frzN x;obtain⟨M2,h2,m2⟩:=Rel.frzNs l h1;exact⟨M2,h2,m1.trans m2⟩
end
end Go.Dl
end
section
namespace Go.Dl
open Go Go.RowKit
def De(P:Program)(f:FuncId):Bool:=
 Nat.blt f 1000000000&&match P.funcs[f]? with
 |some fn=>fn.name != "runtime.NumGoroutine"&&fn.body.isSome
 |none=>false
def Lp(P:Program)(f:FuncId)(vs:Array Value)(w:World)(R:Value->World->Prop):Prop:=
 (De P f=true/\Calls P f vs w fun e w'=>∃v,e=.returned v/\R v w')\/(Nat.blt f 1000000000=true/\∃row,(callFunc f vs).run P w=.ok (.row row vs) w/\Rows P row vs w R)\/(Nat.blt f 1000000000=true/\∃v w',(callFunc f vs).run P w=.ok (.value v) w'/\R v w')\/
  (Nat.blt f 1000000000=false/\∃fn tmps assign body,(Instr.yield (f-1000000000) vs).run P w=.ok (.round (f-1000000000) fn tmps assign body) w/\RoundIn Fence.wide 0 P (f-1000000000) fn tmps assign body w fun e w'=>∃v,e=.returned v/\R v w')
theorem Lp.mono{P:Program}{f:FuncId}{vs:Array Value}{w:World}{R R':Value->World->Prop}(h:Lp P f vs w R)(hr:∀v w',R v w'->R' v w'):Lp P f vs w R':=by
 rcases h with⟨h1,h2⟩|⟨hy,row,h1,h2⟩|⟨hy,v,w',h1,h2⟩|⟨hy,fn,tmps,as,bd,h1,h2⟩
 ·exact .inl ⟨h1,h2.mono fun _ _ ⟨v,a,b⟩=>⟨v,a,hr _ _ b⟩⟩
 ·exact .inr (.inl ⟨hy,row,h1,h2.mono hr⟩)
 ·exact .inr (.inr (.inl ⟨hy,v,w',h1,hr _ _ h2⟩))
 ·exact .inr (.inr (.inr ⟨hy,fn,tmps,as,bd,h1,h2.mono fun _ _ ⟨v,a,b⟩=>⟨v,a,hr _ _ b⟩⟩))
def Dq(M:Mem)(μ:Place)(N:Nat->Prop)(xs:List D)(vs:List Value):Prop:=vs.length=xs.length/\∀j (h:j<xs.length) (h':j<vs.length),AI M μ N (xs[j]) (vs[j])
def AN(μ:Place)(sto:List (Nat×Blk))(w:World):Sh:=⟨fun b=>b<w.heap.size/\∀nm,names sto nm->An (μ nm)≠some b,μ,[]⟩
def MC(P:Program)(GL:List (Nat×List I))(f:FuncId)(args:List D)(sto:List (Nat×Blk))(mv:List Nat)(R:D->List (Nat×Blk)->Prop):Prop:=
 ∀(M:Mem) (μ:Place) (w:World) (vs:Array Value),StoOk (AN μ sto w) M μ sto w->Ij GL M->Dq M μ (names sto) args vs.toList->
  Lp P f vs w fun v w'=>∃r sto' M' μ',R r sto'/\StoOk (AN μ sto w) M' μ' sto' w'/\AI M' μ' (names sto') r v/\MExt (AN μ sto w) M M'/\Keeps (AN μ sto w) w w'/\∀nm,names sto nm->nm∉mv->μ' nm=μ nm
theorem MC.mono{P:Program}{GL:List (Nat×List I)}{f:FuncId}{args:List D}{sto:List (Nat×Blk)}{mv:List Nat}{R R':D->List (Nat×Blk)->Prop}(h:MC P GL f args sto mv R)(hr:∀r s,R r s->R' r s):MC P GL f args sto mv R':=
 fun M μ w vs h1 h2 h3=>(h M μ w vs h1 h2 h3).mono fun _ _ ⟨r,s,M',μ',a,b⟩=>⟨r,s,M',μ',hr _ _ a,b⟩
def ren(d n:Nat):Nat:=if n=6000 then d else if n=d then 6000 else if n=6001 then d+1000 else if n=d+1000 then 6001 else n
theorem Jb{d:Nat}(h:d<1000)(n:Nat):ren d (ren d n)=n:=by unfold ren;grind
def Kd(d:Nat):Ref->Ref
 |.loc nm off=>.loc (ren d nm) off
 |.sl nm k lo hi=>.sl (ren d nm) k lo hi
 |.lel nm k row off=>.lel (ren d nm) k row off
 |.mp nm=>.mp (ren d nm)
 |.it nm=>.it (ren d nm)
def Ke(d:Nat):Cp->Cp
 |.ref r=>.ref (Kd d r)
 |c=>c
def Df(d:Nat):D->D
 |.ref r=>.ref (Kd d r)
 |.fn f first caps=>.fn f (first.map (Ke d)) (caps.map (Ke d))
 |.tup cs=>.tup (cs.map (Ke d))
 |x=>x
def EO(d:Nat):Blk->Blk
 |.cells cs=>.cells (cs.map (Df d))
 |.lp l q cs=>.lp l q (cs.map (Df d))
 |.gmap ls clk es=>.gmap ls clk (es.map fun e=>(e.1,e.2.1,Df d e.2.2))
 |x=>x
def Bj(d:Nat):List (Nat×Blk)->List (Nat×Blk)
 |[]=>[]
 |(m,x)::r=>(ren d m,EO d x)::Bj d r
theorem gE{d:Nat}(h:d<1000){a b:Nat}(e:ren d a=ren d b):a=b:=by grind[Jb]
theorem SP{d:Nat}(h:d<1000)(l:List (Nat×Blk))(m:Nat):Aa (Bj d l) m=(Aa l (ren d m)).map (EO d):=by
 induction l with
 |nil=>rfl
 |cons x r ih=>grind[Bj,Aa,ren]
theorem WK{d:Nat}(h:d<1000)(l:List (Nat×Blk))(m:Nat):names (Bj d l) m↔names l (ren d m):=by grind[names,SP,Aa,ren]
section
variable {GL:List (Nat×List I)}{n:Nat}{S:Sh}{M M':Mem}{μ μ':Place}{N N':Nat->Prop}{st:St}{sto sto':List (Nat×Blk)}{a:Act}{w w':World}{nm d:Nat}{b:Blk}
theorem BU.ren(_hd:d<1000)(hN:∀m,N m->N' (ren d m))(hμ:∀m,N m->μ' (Dl.ren d m)=μ m){r:Ref}{v:Value}(h:BU μ N r v):BU μ' N' (Kd d r) v:=by cases r<;>exact⟨hN _ h.1,by rw[hμ _ h.1];exact h.2⟩
theorem Ci.ren(hd:d<1000)(hN:∀m,N m->N' (ren d m))(hμ:∀m,N m->μ' (Dl.ren d m)=μ m){x:Cp}{v:Value}(h:Ci M μ N x v):Ci M μ' N' (Ke d x) v:=by
 cases x with
 |ref r=>exact BU.ren hd hN hμ h
 |_=>exact h
theorem AI.ren(hd:d<1000)(hN:∀m,N m->N' (ren d m))(hμ:∀m,N m->μ' (Dl.ren d m)=μ m){x:D}{v:Value}(h:AI M μ N x v):AI M μ' N' (Df d x) v:=by
 cases x with
 |ref r=>exact BU.ren hd hN hμ h
 |fn f first caps=>
  obtain⟨va,vb,e,hy,h1,h2⟩:=h;have key:∀{l:List Cp} {vs:List Value},Ed M μ N l vs->Ed M μ' N' (l.map (Ke d)) vs:=fun h=>⟨by simpa using h.1,fun j a b=>by rw[List.getElem_map];exact(h.2 j (by simpa using a) b).ren hd hN hμ⟩
  exact⟨va,vb,e,hy.imp id (fun q=>by rw[q];rfl),key h1,key h2⟩
 |tup cs=>obtain⟨vs,e,h1⟩:=h;exact⟨vs,e,by simpa using h1.1,fun j a b=>by rw[List.getElem_map];exact(h1.2 j (by simpa using a) b).ren hd hN hμ⟩
 |_=>exact h
theorem Hx.ren(hd:d<1000)(hN:∀m,N m->N' (ren d m))(hμ:∀m,N m->μ' (Dl.ren d m)=μ m){xs:List MapEntry}{es:List (I×Nat×D)}(h:Hx M μ N xs es):Hx M μ' N' xs (es.map fun e=>(e.1,e.2.1,Df d e.2.2)):=
 ⟨by simpa using h.1,fun j a b=>by rw[List.getElem_map];have:=h.2 j (by simpa using a) b;exact⟨this.1,this.2.1,this.2.2.ren hd hN hμ⟩⟩
theorem AQ.ren(hd:d<1000)(hN:∀m,N m->N' (ren d m))(hμ:∀m,N m->μ' (Dl.ren d m)=μ m){x:Blk}(hn:N nm)(h:AQ S M μ N w nm x):AQ S M μ' N' w (Dl.ren d nm) (EO d x):=by
 cases x with
 |cells cs=>obtain⟨bb,vs,t,e,ho,hs,hr⟩:=h;exact⟨bb,vs,t,by rw[hμ _ hn];exact e,ho,by simpa using hs,fun j h h'=>by rw[List.getElem_map];exact(hr j (by simpa using h) h').ren hd hN hμ⟩
 |lp l q cs=>obtain⟨vs,e,ho,hs,hr⟩:=h;exact⟨vs,by rw[hμ _ hn];exact e,ho,by simpa using hs,fun j h h'=>by rw[List.getElem_map];exact(hr j (by simpa using h) h').ren hd hN hμ⟩
 |gmap ls clk es=>obtain⟨bb,xs,e,ho,q1,q2,q3⟩:=h;exact⟨bb,xs,by rw[hμ _ hn];exact e,ho,q1.ren hd hN hμ,q2,fun e he=>by obtain⟨e0,he0,rfl⟩:=List.mem_map.1 he;exact q3 e0 he0⟩
 |_=>simp only[EO,AQ]at h⊢;rw[hμ _ hn];exact h
def MW:List Nat->Env->Env
 |[],e=>e
 |nm::r,e=>MW r (.sb nm (.iter none []) e)
def MY:List Nat->D->D
 |[],x=>x
 |nm::r,x=>MY r (Qq nm (.iter none []) x)
def Lq:List Nat->List (Nat×Blk)->List (Nat×Blk)
 |[],s=>s
 |nm::r,s=>Lq r (SL nm (.iter none []) s)
def OJ:List Nat->Blk->Blk
 |[],x=>x
 |nm::r,x=>OJ r (gj nm (.iter none []) x)
def Lr(sto:List (Nat×Blk)):List Nat->List (Nat×Blk)
 |[]=>sto
 |nm::r=>Lr (Cs sto nm) r
theorem SQ:∀(l:List Nat) (e:Env) (s:Nat),Aj (MW l e) s=MY l (Aj e s)
 |[],_,_=>rfl
 |nm::r,e,s=>by simp only[MW,MY,SQ r];rfl
theorem Qv:∀(l:List Nat) (s:List (Nat×Blk)) (m:Nat),Aa (Lq l s) m=(Aa s m).map (OJ l)
 |[],s,m=>by simp only[Lq];cases Aa s m<;>rfl
 |nm::r,s,m=>by simp only[Lq,Qv r,Hz];cases Aa s m<;>rfl
theorem Qw:∀(l:List Nat) (s:List (Nat×Blk)) (m:Nat),Aa (Lr s l) m=if m∈l then none else Aa s m
 |[],s,m=>by simp[Lr]
 |nm::r,s,m=>by simp only[Lr,Qw r,Kc,List.mem_cons];grind
theorem Ci.scr(hN:∀m,m≠nm->N m->N' m/\μ' m=μ m){x:Cp}{v:Value}(h:Ci M μ N x v):Ci M μ' N' (gn nm (.iter none []) x) v:=
 h.sb (Mem.le_refl _) hN fun r v e _=>by simp only[WD,if_pos e];cases r<;>trivial
theorem AI.scr1(hN:∀m,m≠nm->N m->N' m/\μ' m=μ m){x:D}{v:Value}(h:AI M μ N x v):AI M μ' N' (Qq nm (.iter none []) x) v:=
 h.sb (Mem.le_refl _) hN fun r v e _=>by simp only[WD,if_pos e];cases r<;>trivial
theorem AI.scr:∀(l:List Nat) {N N':Nat->Prop} {μ μ':Place} {x:D} {v:Value},(∀m,m∉l->N m->N' m/\μ' m=μ m)->AI M μ N x v->AI M μ' N' (MY l x) v
 |[],N,N',μ,μ',x,v,hN,h=>h.mono' (Mem.le_refl _) fun m _ hm=>hN m (by simp) hm
 |nm::r,N,N',μ,μ',x,v,hN,h=>by
  have h1:AI M μ (fun m=>N m/\m≠nm) (Qq nm (.iter none []) x) v:=h.scr1 fun m hm hn=>⟨⟨hn,hm⟩,rfl⟩
  exact AI.scr r (fun m hm hn=>hN m (by simp[hn.2,hm]) hn.1) h1
theorem AQ.scr:∀(l:List Nat) {N N':Nat->Prop} {μ μ':Place} {x:Blk},(∀m,m∉l->N m->N' m/\μ' m=μ m)->μ' nm=μ nm->AQ S M μ N w nm x->AQ S M μ' N' w nm (OJ l x)
 |[],N,N',μ,μ',x,hN,hμ,h=>h.mono (Mem.le_refl _) hμ (fun m _ hm=>hN m (by simp) hm) (fun _ _ _=>rfl) (fun _ _ _=>Mem.same_refl _ _)
 |p::r,N,N',μ,μ',x,hN,hμ,h=>by have h1:AQ S M μ (fun m=>N m/\m≠p) w nm (gj p (.iter none []) x):=h.sb (Mem.le_refl _) (fun m hm hn=>⟨⟨hn,hm⟩,rfl⟩) (fun r v e _=>by simp only[WD,if_pos e];cases r<;>trivial) rfl (fun _ _ _=>rfl) (fun _ _ _=>Mem.same_refl _ _);exact AQ.scr r (fun m hm hn=>hN m (by simp[hn.2,hm]) hn.1) hμ h1
def Ls(sto sto':List (Nat×Blk))(mv:List Nat):List Nat:=(sto.map (·.1)).filter fun nm=>mv.contains nm||(Aa sto' nm).isNone
def DN(st:St)(sto sto':List (Nat×Blk))(mv:List Nat)(d:Nat):St:=
 ⟨MW (Ls sto sto' mv) st.env,Bj d sto'++Lq (Ls sto sto' mv) (Lr st.sto (sto.map (·.1)))⟩
theorem Kf(l r:List (Nat×Blk))(m:Nat):Aa (l++r) m=match Aa l m with|some b=>some b|none=>Aa r m:=by
 induction l with
 |nil=>rfl
 |cons x l ih=>obtain⟨p,q⟩:=x;simp only[List.cons_append,Aa];split;rfl;exact ih
theorem CE{m:Nat}:m∈sto.map (·.1)↔names sto m:=by
 induction sto with
 |nil=>simp[names,Aa]
 |cons x r ih=>grind[names,Aa]
theorem StoOk.hand(h:StoOk S M μ st.sto w)(hs:∀nm b,Aa sto nm=some b->Aa st.sto nm=some b)(hc:∀nm b,Aa sto nm=some b->∀m∈b.nms,names sto m):StoOk (AN μ sto w) M μ sto w where
 sub:=h.sub
 blk:=fun m x hx=>by
  have hk:=h.blk m x (hs m x hx);have hn:names sto m:=by simp[names,hx]
  have own:∀{bb:Nat} {o:Obj},An (μ m)=some bb->Owns S M w bb o->Owns (AN μ sto w) M w bb o:=fun e ho=>⟨fun qz=>qz.2 m hn e,ho.heap,ho.unk⟩
  cases x with
  |cells cs=>obtain⟨bb,vs,t,e,ho,j0,hr⟩:=hk;exact⟨bb,vs,t,e,own (by rw[e];rfl) ho,j0,fun j h h'=>(hr j h h').mono' (Mem.le_refl _) fun q hq _=>⟨hc m _ hx q (List.mem_flatMap.2 ⟨_,List.getElem_mem h,hq⟩),rfl⟩⟩
  |rows e k rs=>
   obtain⟨aa,cap,e,hh⟩:=hk;refine⟨aa,cap,e,?_⟩;rcases hh with hh|⟨bb,o,cur,rfl,kc,ho,q⟩
   ·exact .inl hh
   ·exact .inr ⟨bb,o,cur,rfl,kc,own (by rw[e];simp only[An];rw[if_neg (by omega)]) ho,q⟩
  |map ls es=>obtain⟨bb,xs,clk,e,ho,q⟩:=hk;exact⟨bb,xs,clk,e,own (by rw[e];rfl) ho,q⟩
  |iter cur rest=>obtain⟨bb,mm,since,seen,last,e,ho,q⟩:=hk;exact⟨bb,mm,since,seen,last,e,own (by rw[e];rfl) ho,q⟩
  |gmap ls clk es=>obtain⟨bb,xs,e,ho,q1,q⟩:=hk;exact⟨bb,xs,e,own (by rw[e];rfl) ho,q1.mono (Mem.le_refl _) (fun e he q hq _=>⟨hc m _ hx q (List.mem_flatMap.2 ⟨e,he,hq⟩),rfl⟩),q⟩
  |arr e k rs=>
   obtain⟨aa,e1,hh⟩:=hk;refine⟨aa,e1,?_⟩;rcases hh with hh|⟨bb,o,cur,rfl,ji,ho,q⟩
   ·exact .inl hh
   ·exact .inr ⟨bb,o,cur,rfl,ji,own (by rw[e1];exact Qu (by simpa using ji)) ho,q⟩
  |lp l lq cs=>obtain⟨vs,e,ho,j0,hr⟩:=hk;exact⟨vs,e,own (by rw[e];rfl) ho,j0,fun j h h'=>(hr j h h').mono' (Mem.le_refl _) fun q hq _=>⟨hc m _ hx q (List.mem_flatMap.2 ⟨_,List.getElem_mem h,hq⟩),rfl⟩⟩
 sep:=fun m m' k k' ji h1 h2=>by
  refine h.sep m m' k k' ji ?_ ?_
  ·obtain⟨x,hx⟩:=Option.isSome_iff_exists.1 h1;simp[names,hs m x hx]
  ·obtain⟨x,hx⟩:=Option.isSome_iff_exists.1 h2;simp[names,hs m' x hx]
 low:=fun b hb=>hb.1
theorem Rel.afterCall(h:Rel GL n S M μ st a w){mv:List Nat}(hd:d<1000)(hs:∀nm b,Aa sto nm=some b->Aa st.sto nm=some b)
  (h1:StoOk (AN μ sto w) M' μ' sto' w')(hm:MExt (AN μ sto w) M M')(hk:Keeps (AN μ sto w) w w')(hmv:∀nm,names sto nm->nm∉mv->μ' nm=μ nm)
  (hfresh:∀nm,names (Bj d sto') nm->names sto nm\/(Aa st.sto nm=none/\nm<5000))(ww:∀nm∈mv,¬pinned nm)(wg:∀nm,names sto nm->names sto' nm->ren d nm=nm):
  ∃μ2,Rel GL n S M' μ2 (DN st sto sto' mv d) a w'/\MExt S M M'/\Keeps S w w'/\∀r v,AI M' μ' (names sto') r v->AI M' μ2 (names (DN st sto sto' mv d).sto) (Df d r) v:=by
 have hns:∀m,names sto m->names st.sto m:=fun m hm=>by obtain⟨x,hx⟩:=Option.isSome_iff_exists.1 hm;simp[names,hs m x hx]
 have hSsh:∀k,S k->AN μ sto w k:=fun k hk=>⟨h.low k hk,fun m hm e=>(h.toStoOk.lt (hns m hm) e).2.1 hk⟩
 have hoth:∀m k,names st.sto m->¬names sto m->An (μ m)=some k->AN μ sto w k:=fun m k hm hn e=>
  ⟨(h.toStoOk.lt hm e).1,fun m' hm' e'=>h.sep m m' k k (fun q=>hn (q▸hm')) hm (hns m' hm') e e' rfl⟩
 have hN2:∀m,names (DN st sto sto' mv d).sto m↔names sto' (ren d m)\/(names st.sto m/\¬names sto m):=fun m=>by
  simp only[DN,names,Kf,SP hd,Qv,Qw,CE];cases e1:Aa sto' (ren d m)with
  |some x=>simp
  |none=>
   simp only[Option.map_none,Option.isSome_none,Bool.false_eq_true,false_or];by_cases e2:(Aa sto m).isSome=true
   ·simp[e2]
   ·cases Aa st.sto m<;>simp[e2]
 have hdis:∀m,names sto' (ren d m)->¬(names st.sto m/\¬names sto m):=fun m hm hh=>by
  rcases hfresh m ((WK hd _ _).2 hm)with q|q
  ·exact hh.2 q
  ·have:=hh.1;simp[names,q.1]at this
 let μ2:Place:=fun m=>if(Aa sto' (ren d m)).isSome=true then μ' (ren d m)else μ m
 have hμ2:∀m,names sto' m->μ2 (ren d m)=μ' m:=fun m hm=>by simp only[μ2,Jb hd];exact if_pos hm
 have hμ2o:∀m,names st.sto m->¬names sto m->μ2 m=μ m:=fun m h1 h2=>by simp only[μ2];exact if_neg fun hc=>hdis m hc ⟨h1,h2⟩
 have hsee:∀m,m∉Ls sto sto' mv->names st.sto m->names (DN st sto sto' mv d).sto m/\μ2 m=μ m:=fun m hg hm=>by
  by_cases kh:names sto m
  ·have vo:m∉mv/\names sto' m:=by simp only[Ls,List.mem_filter,not_and]at hg;have:=hg (CE.2 kh);simp only[Bool.or_eq_true,not_or,List.contains_iff_mem]at this;exact⟨this.1,by have:=this.2;simp only[names];cases hx:Aa sto' m<;>simp_all⟩
   have hr:=wg m kh vo.2;refine⟨(hN2 m).2 (.inl (by rw[hr];exact vo.2)),?_⟩;have:=hμ2 m vo.2;rw[hr]at this;rw[this];exact hmv m kh vo.1
  ·exact⟨(hN2 m).2 (.inr ⟨hm,kh⟩),hμ2o m hm kh⟩
 refine⟨μ2,?_,⟨hm.le,fun b hb=>hm.old b (hSsh b hb)⟩,hk.mono hSsh,fun r v hr=>hr.ren hd (fun m hm=>(hN2 _).2 (.inl (by rw[Jb hd];exact hm))) hμ2⟩;have ki:StoOk S M' μ2 (DN st sto sto' mv d).sto w':=by
  refine⟨h1.sub,fun m x hx=>?_,fun m m' k k' ji hm1 hm2 qe ko=>?_,fun b hb=>Nat.lt_of_lt_of_le (h.low b hb) hk.size⟩
  ·simp only[DN,Kf,SP hd,Qv,Qw,CE]at hx;cases e1:Aa sto' (ren d m)with
   |some y=>
    simp only[e1,Option.map_some,Option.some.injEq]at hx;subst hx;have hy:=h1.blk _ y e1;have:=hy.ren (N':=names (DN st sto sto' mv d).sto) hd (fun m hm=>(hN2 _).2 (.inl (by rw[Jb hd];exact hm))) hμ2 (by simp[names,e1]);rw[Jb hd]at this;have low:∀{bb:Nat} {o:Obj},Owns (AN μ sto w) M' w' bb o->Owns S M' w' bb o:=fun ho=>⟨fun hS=>ho.low (hSsh _ hS),ho.heap,ho.unk⟩
    revert this;generalize EO d y=z;intro this;cases z with
    |cells cs=>obtain⟨bb,vs,t,e,ho,q⟩:=this;exact⟨bb,vs,t,e,low ho,q⟩
    |rows e k rs=>
     obtain⟨aa,cap,e,hh⟩:=this;refine⟨aa,cap,e,?_⟩;rcases hh with hh|⟨bb,o,cur,q1,kc,ho,q⟩
     ·exact .inl hh
     ·exact .inr ⟨bb,o,cur,q1,kc,low ho,q⟩
    |map ls es=>obtain⟨bb,xs,clk,e,ho,q⟩:=this;exact⟨bb,xs,clk,e,low ho,q⟩
    |iter cur rest=>obtain⟨bb,mm,since,seen,last,e,ho,q⟩:=this;exact⟨bb,mm,since,seen,last,e,low ho,q⟩
    |lp l lq cs=>obtain⟨vs,e,ho,q⟩:=this;exact⟨vs,e,low ho,q⟩
    |gmap ls clk es=>obtain⟨bb,xs,e,ho,q⟩:=this;exact⟨bb,xs,e,low ho,q⟩
    |arr e k rs=>
     obtain⟨aa,e1,hh⟩:=this;refine⟨aa,e1,?_⟩;rcases hh with hh|⟨bb,o,cur,q1,ji,ho,q⟩
     ·exact .inl hh
     ·exact .inr ⟨bb,o,cur,q1,ji,low ho,q⟩
   |none=>
    simp only[e1,Option.map_none]at hx;by_cases kh:names sto m
    ·rw[if_pos (CE.2 kh)]at hx;cases hx
    ·rw[if_neg (fun q=>kh (CE.1 q))]at hx;cases e2:Aa st.sto m with
     |none=>simp[e2]at hx
     |some y=>
      simp only[e2,Option.map_some,Option.some.injEq]at hx;subst hx;have jl:names st.sto m:=by simp[names,e2]
      have hy:AQ S M' μ (names st.sto) w' m y:=(h.blk m y e2).mono hm.le rfl (fun _ _ k=>⟨k,rfl⟩) (fun k jk _=>hk.block k (hoth m k jl kh jk)) (fun k jk _=>hm.old k (hoth m k jl kh jk));exact hy.scr _ hsee (hμ2o m jl kh)
  ·
   rw[hN2]at hm1 hm2;rcases hm1 with q1|q1<;>rcases hm2 with q2|q2
   ·refine h1.sep (ren d m) (ren d m') k k' (fun e=>ji (gE hd e)) q1 q2 ?_ ?_
    ·rw[<-hμ2 _ q1,Jb hd];exact qe
    ·rw[<-hμ2 _ q2,Jb hd];exact ko
   ·rw[hμ2o m' q2.1 q2.2]at ko;have e1:An (μ' (ren d m))=some k:=by rw[<-hμ2 _ q1,Jb hd];exact qe
    intro e;subst e;exact(h1.lt q1 e1).2.1 (hoth m' k q2.1 q2.2 ko)
   ·rw[hμ2o m q1.1 q1.2]at qe;have e1:An (μ' (ren d m'))=some k':=by rw[<-hμ2 _ q2,Jb hd];exact ko
    intro e;subst e;exact(h1.lt q2 e1).2.1 (hoth m k q1.1 q1.2 qe)
   ·rw[hμ2o m q1.1 q1.2]at qe;rw[hμ2o m' q2.1 q2.2]at ko;exact h.sep m m' k k' ji q1.1 q2.1 qe ko
 refine h.of (st':=DN st sto sto' mv d) ki hm.le (fun s v hv=>by simp only[DN,SQ];exact AI.scr _ hsee (hv.mono hm.le fun _ k=>k)) fun m hp=>?_
 have hrm:ren d m=m:=by unfold pinned at hp;unfold ren;rw[if_neg (by omega),if_neg (by omega),if_neg (by omega),if_neg (by omega)]
 by_cases kh:names sto' m
 ·rcases hfresh m ((WK hd _ _).2 (by rw[hrm];exact kh))with q|q
  ·have:=hμ2 m kh;rw[hrm]at this;rw[this];exact hmv m q fun hc=>ww m hc hp
  ·unfold pinned at hp;omega
 ·simp only[μ2,hrm];exact if_neg kh
end
end Go.Dl
end
