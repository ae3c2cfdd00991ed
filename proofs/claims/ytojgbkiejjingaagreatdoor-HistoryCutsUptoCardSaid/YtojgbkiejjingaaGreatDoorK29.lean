/-
  Lemmas, no statement.
-/
import Derived.Test.YtojgbkiejjingaaGreatDoorK28
set_option linter.all false
namespace Go.Dl
open Go Go.RowKit
variable{st:St}{K:St->Prop}{os:List O}{f:FuncId}{d:Option Nat}{b:Bool}
section
variable (P:Program)(GL:List (Nat×List I))
def rK(r:List GI)(K:St->Prop)(st:St):Prop:=ev P GL r st K
def FZ(sn:List Nat)(r:List GI)(K:St->Prop)(st:St):Prop:=evD P GL sn r st K
def rS(i:Ins)(r:List GI)(K:St->Prop)(l:List Nat)(st:St):Prop:=step P GL i (frzNs l st) (rK P GL r K)
def bI(s:Nat)(v:D)(w:Bool)(i:Ins)(r:List GI)(st:St)(K:St->Prop):Prop:=YU v w (step P GL i (frzNs (Av GL i st) st) (rK P GL r K)) (rK P GL r K (Bg i st))
def bJ(s:Nat)(v:D)(w:Bool)(sn:List Nat)(i:Ins)(r:List GI)(st:St)(K:St->Prop):Prop:=YU v w (Ae P GL sn i st (FZ P GL sn r K)) (FZ P GL sn r K (Bg i st))
def KS(v:D)(a c:IR)(K:Exit->St->Prop)(st:St):Prop:=match v with
 |.i (.bool t)=>br t (W P GL a K st) (W P GL c K st)
 |_=>False
def wL(GL:List (Nat×List I))(st:St)(v:O):D->List Nat
 |.ref (.lel _ _ _ _)=>oN GL st [v]
 |_=>[]
def Qv(b:Option Blk)(nm:Nat)(st:St):St:=match b with
 |some b=>if Ec b=true then st.frz nm b else st
 |none=>st
def rT(b:Blk)(r:Ref):Cp:=match r,b with
 |.loc _ off,.cells cs=>.i (.elt (cs.map FB) off)
 |.sl _ k lo hi,.rows _ k' rs=>if k=k'/\hi<=rs.length then .i (.sl ((rs.take hi).drop lo))else .any
 |.lel _ k row off,.rows _ k' rs=>if k=k'/\row<rs.length then .i (.elt (rs.getD row []) off)else .any
 |.mp _,.map _ es=>.i (.map es)
 |.mp _,.gmap _ _ es=>if(es.all fun e=>G5 e.2.2)=true then .i (.map (es.map fun e=>(e.1,FB e.2.2)))else .any
 |_,_=>.any
def N9(GL:List (Nat×List I))(st:St)(y:O)(b:Option Blk):List Nat:=match b with
 |some (.arr _ _ _)=>[]
 |_=>oN GL st [y]
def Qw(GL:List (Nat×List I))(st:St)(y:O)(x:D):List Nat:=match x with
 |.ref (.sl nm _ _ _)=>N9 GL st y (Ac st.sto nm)
 |_=>oN GL st [y]
def Qx(fr:Option Blk)(e' k':Nat)(rs:List (Option (List I)))(nm k0 lo hi d e k b:Nat)(ys:Option (List (List I)))(st:St)(K:St->Prop):Prop:=match ys with
 |some ys=>Hq fr e' k' rs nm k0 lo hi d e k b ys st K
 |none=>False
def Aj(f:FuncId)(xs:List I)(st:St)(d:Option Nat)(K:St->Prop):Prop:=∃y,vQ P GL f (xs.map .i) y/\K (putO st d (.i y))
def F0(fv:D)(xs:List I)(st:St)(d:Option Nat)(K:St->Prop):Prop:=match fv with
 |.i (.fn f first caps)=>Aj P GL f (first++xs++caps) st d K
 |_=>False
def KT(f:FuncId)(os:List O)(d:Nat)(st:St)(K:St->Prop):Prop:=NB P GL f (os.map (AL GL st)) d st K
def Mp(post:List Nat)(K:Exit->St->Prop)(s:St):Prop:=K .normal (frzNs (Df post s) s)
def dI(st:St):Ins->List Nat
 |.call _ _ args=>oN GL st args
 |.callv _ fo args=>oN GL st (fo::args)
 |.callo _ _ args=>oN GL st args
 |.build _ _ ps=>oN GL st (ps.map (·.2.2))
 |.bsn _ _ _ ps=>oN GL st ps
 |.mupd _ q v _=>oN GL st [q,v]
 |.load _ x k true=>rW st k (AL GL st x)
 |.ofb _ x=>oN GL st [x]
 |_=>[]
def dN(gs:List GI)(st:St):List Nat:=gs.flatMap fun g=>dI GL st g.ins
def Mq(sn:List Nat)(gs:List GI)(post:List Nat)(K:Exit->St->Prop)(st:St):Prop:=evD P GL sn gs st (Mp post K)
def Oa(b:Option Blk)(d e k:Nat)(st:St)(K:St->Prop):Prop:=step.nilsE' b d e k st K
def Ob(rows:List (List I))(d:Nat)(st:St)(K:St->Prop)(a c:Nat):Prop:=K (st.put d (.i (.sl ((rows.take c).drop a))))
def Oc(nm k lo d:Nat)(st:St)(K:St->Prop)(a c:Nat):Prop:=K (st.put d (.ref (.sl nm k (lo+a) (lo+c))))
def Od(s:List UInt8)(d:Nat)(st:St)(K:St->Prop)(a c:Nat):Prop:=K (st.put d (.i (.str ((s.take c).drop a))))
def wV(st:St)(r:RV):List Nat:=(Af st.env (match r with|.tmp t=>t|.cell t _ _=>t)).nms
def Ms(sn:List Nat)(x v:D)(k:Nat)(st:St)(K:St->Prop):Prop:=(match x with|.ref (.loc nm _)=>nm∈sn|_=>False)/\E2 x v k st K
def Sf(y:I)(r:D)(s:List (Nat×Blk)):Prop:=r=.i y/\s=[]
def KU(R:D->List (Nat×Blk)->Prop)(x:Option D):Prop:=match x with
 |some (.i y)=>R (.i y) []
 |_=>False
def Mt(b:Option Blk)(off k:Nat)(ag:Bool):Option D:=match b with
 |some (.cells cs)=>if Nat.ble (off+k) cs.length&&(!ag||Bk ((cs.drop off).take k))then some (Y4 ag cs off k)else none
 |_=>none
def wY(v:D)(k:Nat)(ag:Bool)(st:St):Option D:=match v with
 |.i (.elt cs off)=>if Nat.ble (off+k) cs.length then some (.i (pk ag cs off k))else none
 |.ref (.loc nm off)=>Mt (Ac st.sto nm) off k ag
 |_=>none
def wW(v:D):Option D:=match v with|.any=>none|x=>some x
def UO(a:Option D)(b:Option (List D)):Option (List D):=match a,b with|some x,some xs=>some (x::xs)|_,_=>none
def UP(x:Option (List D)):Option D:=match x with|some xs=>JU xs|none=>none
def wM(rs:List RV)(st:St):List Nat:=DW st.sto (rs.flatMap (wV st))
end
section
variable {P:Program}{GL:List (Nat×List I)}
theorem bK{s:Nat}{w:Bool}{i:Ins}{r:List GI}(h:b=true->bI P GL s (.i (.bool true)) w i r st K)(k:b=false->bI P GL s (.i (.bool false)) w i r st K):bI P GL s (.i (.bool b)) w i r st K:=by
 cases b
 all_goals grind
theorem bL{s:Nat}{w:Bool}{sn:List Nat}{i:Ins}{r:List GI}(h:b=true->bJ P GL s (.i (.bool true)) w sn i r st K)(k:b=false->bJ P GL s (.i (.bool false)) w sn i r st K):bJ P GL s (.i (.bool b)) w sn i r st K:=by
 cases b
 all_goals grind
theorem bM{d:Nat}{A C:D}(h:b=true->Db (.i (.bool true)) d A C st K)(k:b=false->Db (.i (.bool false)) d A C st K):Db (.i (.bool b)) d A C st K:=by
 cases b
 all_goals grind
theorem bN(nm:Nat)(b:Blk)(r:Ref):Sj nm b r=if r.nm=nm then rT b r else .ref r:=by rfl
theorem I0(hI:(os.all fun o=>G5 (AL GL st o))=true):os.map (AL GL st)=(os.map fun o=>FB (AL GL st o)).map D.i:=by
 rw[List.map_map];refine List.map_congr_left fun o ho=>?_
 rw[List.all_eq_true]at hI;have:=hI o ho;simp only[Function.comp];cases hv:AL GL st o<;>simp[hv,G5]at this;rfl
theorem HD(hI:(os.all fun o=>G5 (AL GL (frzNs (oN GL st os) st) o))=true)(h:Aj P GL f (os.map fun o=>FB (AL GL (frzNs (oN GL st os) st) o)) (frzNs (oN GL st os) st) d K):Ah P GL (DX GL f os) st d K:=by
 obtain⟨y,h1,h2⟩:=h;rw[<-I0 hI]at h1;rw[List.all_eq_true]at hI;refine⟨oN GL st os,.inl ⟨[],[],_,h1,trivial,rfl,?_,rfl,?_⟩⟩
 ·rw[List.all_eq_true];intro v hv;obtain⟨o,ho,rfl⟩:=List.mem_map.1 hv;have:=hI o ho;generalize AL GL _ o=v at this⊢;cases v<;>simp[G5]at this;rfl
 ·rintro r s ⟨rfl,rfl⟩;exact⟨fun nm hm=>by simp[AY]at hm,fun nm hm=>by simp at hm,h2⟩
theorem D2{fo:O}(hI:(os.all fun o=>G5 (AL GL (frzNs (oN GL st (fo::os)) st) o))=true)
  (h:F0 P GL (AL GL (frzNs (oN GL st (fo::os)) st) fo) (os.map fun o=>FB (AL GL (frzNs (oN GL st (fo::os)) st) o)) (frzNs (oN GL st (fo::os)) st) d K):Ah P GL (Dr GL fo os) st d K:=by
 generalize hl:oN GL st (fo::os)=l at hI h;unfold F0 at h;split at h
 ·rename_i f first caps e
  obtain⟨y,h1,h2⟩:=h;rw[List.map_append,List.map_append,<-I0 hI]at h1;rw[List.all_eq_true]at hI;refine⟨l,?_⟩;simp only[Dr,EE,e];refine .inl ⟨[],[],_,h1,trivial,rfl,?_,rfl,?_⟩
  ·rw[List.all_eq_true];intro v hv;simp only[List.mem_append,List.mem_map]at hv;rcases hv with(⟨z,_,rfl⟩|⟨o,ho,rfl⟩)|⟨z,_,rfl⟩
   ·rfl
   ·have:=hI o ho;generalize AL GL _ o=v at this⊢;cases v<;>simp[G5]at this;rfl
   ·rfl
  ·rintro r s ⟨rfl,rfl⟩;exact⟨fun nm hm=>by simp[AY]at hm,fun nm hm=>by simp at hm,h2⟩
 ·exact h.elim
theorem Ab{xs:List I}{y:I}(h:vQ P GL f (xs.map .i) y)(k:K (putO st d (.i y))):Aj P GL f xs st d K:=⟨y,h,k⟩
theorem CD{rs:List RV}{given mv:List Nat}{R:D->List (Nat×Blk)->Prop}(h:KU R (GE (frzNs (wM rs st) st) rs)):DJ rs given mv R st:=by
 refine⟨wM rs st,[],?_⟩;unfold KU at h;have hs:∀s:List (Nat×Blk),BM [] s=[]:=fun s=>by induction s with|nil=>rfl|cons x r ih=>obtain⟨k,b⟩:=x;simp[BM,ih]
 split at h
 ·rename_i y e;rw[e];refine⟨rfl,?_,?_⟩
  ·rw[List.map_nil,hs];exact⟨rfl,rfl⟩
  ·rw[List.map_nil,hs];exact h
 ·exact h.elim
def JV(F:Nat->St)(I:Nat->Prop)(n i:Nat)(K:Exit->St->Prop):Exit->St->Prop
 |.normal,s=>i<n/\I (i+1)/\Sub (F (i+1)) s
 |e,s=>K e s
def Mu{ι:Type}(F:ι->St)(m:ι->Nat)(i:ι)(K:Exit->St->Prop):Exit->St->Prop
 |.normal,s=>∃i',m i'<m i/\Sub (F i') s
 |e,s=>K e s
def KV(φ:Prop)(S:St)(K:Exit->St->Prop):Exit->St->Prop
 |.normal,s=>φ/\Sub S s
 |e,s=>K e s
theorem V0:
  (∀e s d v,St.put ⟨e,s⟩ d v=⟨.put d v e,s⟩)/\(∀e s d v,St.bind ⟨e,s⟩ d v=⟨e,(d,v)::s⟩)/\(∀e s d v,St.setB ⟨e,s⟩ d v=⟨e,BD s d v⟩)/\(∀e s d v,St.frz ⟨e,s⟩ d v=⟨.sb d v e,BC (Pt d v s) d⟩)/\
  (∀l n,Af (.l l) n=B2 l n)/\(∀m d r n,Af (.put m d r) n=if m=n then d else Af r n)/\(∀m b r n,Af (.sb m b r) n=Pp m b (Af r n))/\(∀n,B2 [] n=.any)/\(∀m d r n,B2 ((m,d)::r) n=if m=n then d else B2 r n)/\
  (∀n,Ac [] n=none)/\(∀m d r n,Ac ((m,d)::r) n=if m=n then some d else Ac r n)/\(∀n b,BD [] n b=[])/\(∀m d r n b,BD ((m,d)::r) n b=if m=n then(m,b)::BD r n b else(m,d)::BD r n b)/\
  (∀n,BC [] n=[])/\(∀m d r n,BC ((m,d)::r) n=if m=n then BC r n else(m,d)::BC r n)/\(∀n b,Pt n b []=[])/\(∀n b m x r,Pt n b ((m,x)::r)=(m,YO n b x)::Pt n b r)/\
  (∀st d y,putO st (some d) y=st.put d y)/\(∀st y,putO st none y=st):=by
 and_intros<;>intros<;>rfl
theorem V1:
  (∀n b x,Pp n b (.i x)=.i x)/\(∀n b,Pp n b .any=.any)/\(∀n b r,Pp n b (.ref r)=(if r.nm=n then rT b r else .ref r).toD)/\(∀n b f x y,Pp n b (.fn f x y)=.fn f (x.map (YN n b)) (y.map (YN n b)))/\
  (∀n b x,YN n b (.i x)=.i x)/\(∀n b,YN n b .any=.any)/\(∀n b r,YN n b (.ref r)=if r.nm=n then rT b r else .ref r)/\(∀x,Cp.toD (.i x)=.i x)/\Cp.toD .any=.any/\(∀r,Cp.toD (.ref r)=.ref r)/\
  (∀n b l,YO n b (.cells l)=.cells (l.map (Pp n b)))/\(∀n b e k rs,YO n b (.rows e k rs)=.rows e k rs)/\(∀n b ls es,YO n b (.map ls es)=.map ls es)/\(∀n b c r,YO n b (.iter c r)=.iter c r)/\(∀n b e k rs,YO n b (.arr e k rs)=.arr e k rs)/\(∀n b ls clk es,YO n b (.gmap ls clk es)=.gmap ls clk (es.map fun e=>(e.1,e.2.1,Pp n b e.2.2)))/\(∀n b l q cs,YO n b (.lp l q cs)=.lp l q (cs.map (Pp n b)))/\(∀n b cs,Pp n b (.tup cs)=.tup (cs.map (YN n b)))/\(∀n ls clk es,rT (.gmap ls clk es) (.mp n)=if(es.all fun e=>G5 e.2.2)=true then .i (.map (es.map fun e=>(e.1,FB e.2.2)))else .any)/\
  (∀n o,Ref.nm (.loc n o)=n)/\(∀n k a b,Ref.nm (.sl n k a b)=n)/\(∀n k a b,Ref.nm (.lel n k a b)=n)/\(∀n,Ref.nm (.mp n)=n)/\(∀n,Ref.nm (.it n)=n)/\
  (∀n o cs,rT (.cells cs) (.loc n o)=.i (.elt (cs.map FB) o))/\(∀n k lo hi e k' rs,rT (.rows e k' rs) (.sl n k lo hi)=if k=k'/\hi<=rs.length then .i (.sl ((rs.take hi).drop lo))else .any)/\
  (∀n k row o e k' rs,rT (.rows e k' rs) (.lel n k row o)=if k=k'/\row<rs.length then .i (.elt (rs.getD row []) o)else .any)/\(∀n ls es,rT (.map ls es) (.mp n)=.i (.map es))/\(∀c r x,rT (.iter c r) x=.any):=by
 and_intros<;>intros<;>first|rfl|(simp only[Pp,YN,bN];done)|(rename_i x;cases x<;>rfl)
theorem V2:
  (∀e s n,AL GL ⟨e,s⟩ (.t n)=Af e n)/\(∀st x,AL GL st (.c x)=.i x)/\(∀st f,AL GL st (.f f)=.i (.fn f [] []))/\(∀st g,AL GL st (.g g)=.i (.elt (LP GL g) 0)):=by
 and_intros<;>intros<;>rfl
theorem V3(r:List GI)(K:St->Prop):
  (∀e s,rK P GL r K ⟨e,s⟩=ev P GL r ⟨e,s⟩ K)/\(∀i st,ev P GL (⟨none,i⟩::r) st K=rS P GL i r K (Av GL i st) st)/\(∀s w i st,ev P GL (⟨some (s,w),i⟩::r) st K=bI P GL s (Af st.env s) w i r st K)/\
  (∀i st,rS P GL i r K [] st=step P GL i st (rK P GL r K))/\(∀i nm l st,rS P GL i r K (nm::l) st=rS P GL i r K l (st.frzN nm))/\
  (∀s i st,bI P GL s (.i (.bool true)) true i r st K=rS P GL i r K (Av GL i st) st)/\(∀s i st,bI P GL s (.i (.bool false)) true i r st K=rK P GL r K (Bg i st))/\
  (∀s i st,bI P GL s (.i (.bool true)) false i r st K=rK P GL r K (Bg i st))/\(∀s i st,bI P GL s (.i (.bool false)) false i r st K=rS P GL i r K (Av GL i st) st)/\(∀s w i st,bI P GL s (.i .undef) w i r st K=rK P GL r K (Bg i st)):=by
 and_intros<;>intros<;>first|rfl|(simp[bI,YU,br,rS];done)
theorem V4(st:St):
  (∀d x,Av GL (.mov d x) st=[])/\(∀d c a b,Av GL (.pick d c a b) st=[])/\(∀d e k,Av GL (.nils d e k) st=wD (Ac st.sto d) st d)/\(∀d x,Av GL (.box d x) st=oN GL st [x])/\(∀d x,Av GL (.boxm d x) st=[])/\(∀d zs,Av GL (.alloc d zs) st=[])/\
  (∀d x k,Av GL (.load d x k false) st=[])/\(∀d x k,Av GL (.load d x k true) st=rW st k (AL GL st x))/\(∀x v k,Av GL (.store x v k) st=wL GL st v (AL GL st x))/\(∀x v k,Av GL (.stfrz x v k) st=oN GL st [v])/\
  (∀d x o,Av GL (.fa d x o) st=[])/\(∀d x o k ag,Av GL (.fld d x o k ag) st=[])/\(∀d s i k,Av GL (.ia d s i k) st=[])/\(∀d s i,Av GL (.idx d s i) st=[])/\(∀d x i k len ag,Av GL (.aidx d x i k len ag) st=[])/\
  (∀d op x y,Av GL (.bin d op x y) st=[])/\(∀d op x y,Av GL (.sh d op x y) st=[])/\(∀d n ls x y,Av GL (.eqs d n ls x y) st=[])/\(∀d n x y,Av GL (.eqb d n x y) st=[])/\(∀d q n x,Av GL (.isnil d q n x) st=[])/\(∀d op x,Av GL (.un d op x) st=[])/\
  (∀d x,Av GL (.lens d x) st=[])/\(∀d x,Av GL (.lenl d x) st=[])/\(∀d x i,Av GL (.ext d x i) st=[])/\(∀d e k ps,Av GL (.bsl d e k ps) st=oN GL st ps)/\(∀d e k ps,Av GL (.bsn d e k ps) st=oN GL st ps)/\(∀d e k ps,Av GL (.bso d e k ps) st=oN GL st ps)/\(∀d e k rows st K,Iz none d e k rows st K=K ((st.bind d (.rows e k rows)).put d (.ref (.sl d k 0 rows.length))))/\(∀d zs ps,Av GL (.build d zs ps) st=oN GL st (ps.map (·.2.2)))/\
  (∀d f a b,Av GL (.mkfn d f a b) st=[])/\(∀d f a,Av GL (.call d f a) st=[])/\(∀d f a,Av GL (.callv d f a) st=[])/\(∀d x y,Av GL (.max d x y) st=[])/\(∀d x y,Av GL (.min d x y) st=[])/\(∀d k x,Av GL (.conv d k x) st=[])/\
  (∀d e k b x y,Av GL (.app d e k b x y) st=Qw GL st y (AL GL st x))/\(∀y nm k lo hi,Qw GL st y (.ref (.sl nm k lo hi))=N9 GL st y (Ac st.sto nm))/\(∀y x,Qw GL st y (.i x)=oN GL st [y])/\(∀y e k rs,N9 GL st y (some (.rows e k rs))=oN GL st [y])/\(∀y e k rs,N9 GL st y (some (.arr e k rs))=[])/\(∀d x lo hi k,Av GL (.slc d x lo hi k) st=[])/\(∀d e k x,Av GL (.slc0 d e k x) st=oN GL st [x])/\(∀d x lo hi,Av GL (.sslc d x lo hi) st=[])/\(∀d ls,Av GL (.mkmap d ls) st=wD (Ac st.sto d) st d)/\
  (∀d x q z ok ls,Av GL (.lookup d x q z ok ls) st=[])/\(∀x q v ls,Av GL (.mupd x q v ls) st=oN GL st [q,v])/\(∀d x,Av GL (.lenm d x) st=[])/\(∀d x,Av GL (.rng d x) st=oN GL st [x])/\(∀d x,Av GL (.nxt d x) st=[])/\(∀d x,Av GL (.ent d x) st=[])/\(∀d x i k l,Av GL (.iaa d x i k l) st=[])/\(∀d x,Av GL (.bytes d x) st=[])/\(∀d x,Av GL (.ofb d x) st=oN GL st [x])/\(∀d,Av GL (.no d) st=[])/\
  (∀v x,wL GL st v (.i x)=[])/\(∀v n o,wL GL st v (.ref (.loc n o))=[])/\(∀v n k a b,wL GL st v (.ref (.lel n k a b))=oN GL st [v])/\
  (∀os,oN GL st os=DW st.sto (os.flatMap fun o=>(AL GL st o).nms)):=by
 and_intros<;>intros<;>first|rfl|(simp only[Av,wL];split<;>first|rfl|simp_all)|(simp[DW,List.flatMap_cons];done)
theorem V5(st:St)(K:St->Prop):
  (∀d x,step P GL (.mov d x) st K=K (st.put d (AL GL st x)))/\(∀d c a b,step P GL (.pick d c a b) st K=Db (AL GL st c) d (AL GL st a) (AL GL st b) st K)/\(∀d e k,step P GL (.nils d e k) st K=Im (Ac st.sto d) d e k st K)/\
  (∀d x,step P GL (.box d x) st K=Jt (AL GL st x) d st K)/\(∀d x,step P GL (.boxm d x) st K=Ee (Ac st.sto d) d (AT (AL GL st x)) st K)/\(∀d zs,step P GL (.alloc d zs) st K=Ee (Ac st.sto d) d (zs.map .i) st K)/\
  (∀d x k ag,step P GL (.load d x k ag) st K=Gm (AL GL st x) d k ag st K)/\(∀x v k,step P GL (.store x v k) st K=E2 (AL GL st x) (AL GL st v) k st K)/\(∀x v k,step P GL (.stfrz x v k) st K=Jx (AL GL st x) (AL GL st v) k st K)/\
  (∀d x o,step P GL (.fa d x o) st K=rI (AL GL st x) d o st K)/\(∀d x o k ag,step P GL (.fld d x o k ag) st K=LS (AL GL st x) d o k ag st K)/\(∀d s i k,step P GL (.ia d s i k) st K=rP (AL GL st s) (AL GL st i) d k st K)/\
  (∀d s i,step P GL (.idx d s i) st K=In (AL GL st s) (AL GL st i) d st K)/\(∀d x i k len ag,step P GL (.aidx d x i k len ag) st K=LT (AL GL st x) (AL GL st i) d k len ag st K)/\(∀d op x y,step P GL (.bin d op x y) st K=Io op (AL GL st x) (AL GL st y) d st K)/\
  (∀d op x y,step P GL (.sh d op x y) st K=rV op (AL GL st x) (AL GL st y) d st K)/\(∀d n ls x y,step P GL (.eqs d n ls x y) st K=Iq n ls (AL GL st x) (AL GL st y) d st K)/\(∀d n x y,step P GL (.eqb d n x y) st K=Hf n (AL GL st x) (AL GL st y) d st K)/\
  (∀d q n x,step P GL (.isnil d q n x) st K=B4 q n (AL GL st x) d st K)/\(∀d op x,step P GL (.un d op x) st K=rJ op (AL GL st x) d st K)/\(∀d x,step P GL (.lens d x) st K=Ir (AL GL st x) d st K)/\(∀d x,step P GL (.lenl d x) st K=Gp (AL GL st x) d st K)/\
  (∀d x i,step P GL (.ext d x i) st K=Gq (AL GL st x) i d st K)/\(∀d e k,step P GL (.bsl d e k []) st K=Oa (Ac st.sto d) d e k st K)/\
  (∀d e k p ps,step P GL (.bsl d e k (p::ps)) st K=(((p::ps).all fun o=>G5 (AL GL st o)&&((cellsI (FB (AL GL st o))).length==k)&&(cellsI (FB (AL GL st o))).all I.one)=true/\K (st.put d (.i (.sl ((p::ps).map fun o=>cellsI (FB (AL GL st o))))))))/\
  (∀d e k p ps,step P GL (.bsn d e k (p::ps)) st K=(((p::ps).all fun o=>G5 (AL GL st o)&&((cellsI (FB (AL GL st o))).length==k)&&(cellsI (FB (AL GL st o))).all I.one)=true/\K (st.put d (.i (.sl ((p::ps).map fun o=>cellsI (FB (AL GL st o))))))))/\
  (∀d e k p ps,step P GL (.bso d e k (p::ps)) st K=(((p::ps).all fun o=>G5 (AL GL st o)&&((cellsI (FB (AL GL st o))).length==k)&&(cellsI (FB (AL GL st o))).all I.one)=true/\Iz (Ac st.sto d) d e k ((p::ps).map fun o=>cellsI (FB (AL GL st o))) st K))/\
  (∀d zs ps,step P GL (.build d zs ps) st K=((ps.all fun p=>G5 (AL GL st p.2.2)&&((cellsI (FB (AL GL st p.2.2))).length==p.2.1))=true/\K (st.put d (.i (.agg (Ed zs (ps.map fun p=>(p.1,cellsI (FB (AL GL st p.2.2))))))))))/\
  (∀d f a b,step P GL (.mkfn d f a b) st K=It f (a.mapM fun o=>BE (AL GL st o)) (b.mapM fun o=>BE (AL GL st o)) d st K)/\(∀d f args,step P GL (.call d f args) st K=Ah P GL (DX GL f args) st d K)/\(∀d f args,step P GL (.callv d f args) st K=Ah P GL (Dr GL f args) st d K)/\
  (∀d x y,step P GL (.max d x y) st K=Ef true (AL GL st x) (AL GL st y) d st K)/\(∀d x y,step P GL (.min d x y) st K=Ef false (AL GL st x) (AL GL st y) d st K)/\(∀d k x,step P GL (.conv d k x) st K=Iu k (AL GL st x) d st K)/\
  (∀d e k b x y,step P GL (.app d e k b x y) st K=Gu (AL GL st x) (AL GL st y) d e k b st K)/\(∀d x lo hi k,step P GL (.slc d x lo hi k) st K=Iw (AL GL st x) (lo.map (AL GL st)) (hi.map (AL GL st)) d k st K)/\(∀d e k x,step P GL (.slc0 d e k x) st K=NC (Ac st.sto d) (AL GL st x) d e k st K)/\
  (∀d x lo hi,step P GL (.sslc d x lo hi) st K=LU (AL GL st x) (lo.map (AL GL st)) (hi.map (AL GL st)) d st K)/\(∀d ls,step P GL (.mkmap d ls) st K=Ix (Ac st.sto d) d ls st K)/\(∀d x q z ok ls,step P GL (.lookup d x q z ok ls) st K=DY (AL GL st x) (AL GL st q) z ok ls d st K)/\
  (∀x q v ls,step P GL (.mupd x q v ls) st K=Gr (AL GL st x) (AL GL st q) (AL GL st v) ls st K)/\(∀d x,step P GL (.lenm d x) st K=Jz (AL GL st x) d st K)/\(∀d x,step P GL (.rng d x) st K=Iy (Ac st.sto d) (AL GL st x) d st K)/\(∀d x,step P GL (.nxt d x) st K=JB (AL GL st x) d st K)/\
  (∀d x,step P GL (.ent d x) st K=JD (AL GL st x) d st K)/\(∀d x i k l,step P GL (.iaa d x i k l) st K=JE (AL GL st x) (AL GL st i) d k l st K)/\(∀d x,step P GL (.bytes d x) st K=IA (AL GL st x) d st K)/\(∀d x,step P GL (.ofb d x) st K=LV (AL GL st x) d st K)/\(∀d,step P GL (.no d) st K=False):=by
 and_intros<;>intros<;>rfl
theorem V6(st:St)(K:St->Prop)(d:Nat):
  (∀A C,Db (.i (.bool true)) d A C st K=K (st.put d A))/\(∀A C,Db (.i (.bool false)) d A C st K=K (st.put d C))/\(∀e k,Im none d e k st K=K ((st.bind d (.rows e k [])).put d (.ref (.sl d k 0 0))))/\(∀b e k,Im (some b) d e k st K=K (((st.frz d (.iter none [])).bind d (.rows e k [])).put d (.ref (.sl d k 0 0))))/\(∀e k,Oa none d e k st K=K ((st.bind d (.rows e k [])).put d (.ref (.sl d k 0 0))))/\
  (∀y,Jt (.i y) d st K=K (st.put d (.i (.elt (cellsI y) 0))))/\(∀cs,Ee none d cs st K=(cs.all Da=true/\K ((st.bind d (.cells cs)).put d (.ref (.loc d 0)))))/\(∀cs off k ag,Gm (.i (.elt cs off)) d k ag st K=(off+k<=cs.length/\K (st.put d (.i (pk ag cs off k)))))/\(∀nm off k ag,Gm (.ref (.loc nm off)) d k ag st K=Hd (Ac st.sto nm) d off k ag st K)/\
  (∀nm kk row off k ag,Gm (.ref (.lel nm kk row off)) d k ag st K=Ju (Ac st.sto nm) d kk row off k ag st K)/\(∀cs off k,Hd (some (.cells cs)) d off k true st K=(off+k<=cs.length/\Bk ((cs.drop off).take k)=true/\K (st.put d (Y4 true cs off k))))/\(∀cs off k,Hd (some (.cells cs)) d off k false st K=(off+k<=cs.length/\K (st.put d (Y4 false cs off k))))/\
  (∀e k' rs kk row off k ag,Ju (some (.rows e k' rs)) d kk row off k ag st K=(kk=k'/\row<rs.length/\off+k<=(rs.getD row []).length/\K (st.put d (.i (pk ag (rs.getD row []) off k)))))/\(∀cs o off,rI (.i (.elt cs o)) d off st K=K (st.put d (.i (.elt cs (o+off)))))/\(∀nm o off,rI (.ref (.loc nm o)) d off st K=K (st.put d (.ref (.loc nm (o+off)))))/\
  (∀nm k row o off,rI (.ref (.lel nm k row o)) d off st K=K (st.put d (.ref (.lel nm k row (o+off)))))/\(∀cs off k ag,LS (.i (.agg cs)) d off k ag st K=(off+k<=cs.length/\K (st.put d (.i (pk ag cs off k)))))/\
  (∀rows q n k,rP (.i (.sl rows)) (.i (.int q n)) d k st K=((0<=n/\n<rows.length)/\(rows.getD n.toNat []).length=k/\K (st.put d (.i (.elt (rows.getD n.toNat []) 0)))))/\(∀nm k0 lo hi q n k,rP (.ref (.sl nm k0 lo hi)) (.i (.int q n)) d k st K=vP (Ac st.sto nm) nm d k k0 lo hi n st K)/\
  (∀e k' rs nm k k0 lo hi n,vP (some (.rows e k' rs)) nm d k k0 lo hi n st K=(k'=k/\k0=k/\(0<=n/\n<((hi-lo:Nat):Int))/\K (st.put d (.ref (.lel nm k (lo+n.toNat) 0)))))/\(∀l q n,In (.i (.str l)) (.i (.int q n)) d st K=((0<=n/\n<l.length)/\K (st.put d (.i (.int .u8 ((l.getD n.toNat 0).toNat:Int))))))/\
  (∀cs q n k len ag,LT (.i (.agg cs)) (.i (.int q n)) d k len ag st K=((0<=n/\n<(len:Int))/\n.toNat*k+k<=cs.length/\K (st.put d (.i (pk ag cs (n.toNat*k) k)))))/\(∀op a b,Io op (.i a) (.i b) d st K=(CA op a b/\K (st.put d (.i (B3 op a b)))))/\(∀op k a k' b,rV op (.i (.int k a)) (.i (.int k' b)) d st K=(0<=b/\K (st.put d (.i (vO op k a b)))))/\
  (∀neg ls a b,Iq neg ls (.i (.agg a)) (.i (.agg b)) d st K=Ip (eqL ls a b) neg d st K)/\(∀r,Ip (some r) true d st K=K (st.put d (.i (.bool (!r)))))/\(∀r,Ip (some r) false d st K=K (st.put d (.i (.bool r))))/\(∀a b,Hf true (.i (.bool a)) (.i (.bool b)) d st K=K (st.put d (.i (.bool (!(a==b))))))/\
  (∀a b,Hf false (.i (.bool a)) (.i (.bool b)) d st K=K (st.put d (.i (.bool (a==b)))))/\(∀b,rJ .not (.i (.bool b)) d st K=K (st.put d (.i (.bool !b))))/\(∀k n,rJ .neg (.i (.int k n)) d st K=K (st.put d (.i (.int k (k.wrap (0-n))))))/\(∀s,Ir (.i (.str s)) d st K=K (st.put d (.i (.int .i64 s.length))))/\
  (∀rows,Gp (.i (.sl rows)) d st K=K (st.put d (.i (.int .i64 rows.length))))/\(∀nm k lo hi,Gp (.ref (.sl nm k lo hi)) d st K=K (st.put d (.i (.int .i64 ((hi-lo:Nat):Int)))))/\(∀vs i,Gq (.i (.tup vs)) i d st K=(i<vs.length/\K (st.put d (.i (vs.getD i .undef)))))/\(∀f a b,It f (some a) (some b) d st K=K (st.put d (wC f a b)))/\
  (∀k a q b,Ef true (.i (.int k a)) (.i (.int q b)) d st K=K (st.put d (.i (.int k (if b>a then b else a)))))/\(∀k a q b,Ef false (.i (.int k a)) (.i (.int q b)) d st K=K (st.put d (.i (.int k (if b<a then b else a)))))/\(∀k q n,Iu k (.i (.int q n)) d st K=K (st.put d (.i (.int k (k.wrap n)))))/\
  (∀nm k0 lo hi y e k b,Gu (.ref (.sl nm k0 lo hi)) y d e k b st K=Hr (Ac st.sto nm) (Ac st.sto d) (Ac st.sto) nm k0 lo hi y d e k b st K)/\(∀fr σ e' k' rs nm k0 lo hi rows e k b,Hr (some (.rows e' k' rs)) fr σ nm k0 lo hi (.i (.sl rows)) d e k b st K=Iv (some (.rows e' k' rs)) nm k0 lo hi d e k b rows st K)/\(∀fr σ e' k' rs nm k0 lo hi y e k b,Hr (some (.arr e' k' rs)) fr σ nm k0 lo hi y d e k b st K=Qx fr e' k' rs nm k0 lo hi d e k b (E5 σ y) st K)/\
  (∀e' k' rs nm k0 lo hi e k b rows,Iv (some (.rows e' k' rs)) nm k0 lo hi d e k b rows st K=((Nat.blt nm 5000||Nat.ble 5500 nm)=true/\e'=e/\k'=k/\k0=k/\hi<=rs.length/\(∀r∈rows,r.length=k)/\(∀r∈rows,r.all I.one=true)/\(hi-lo+rows.length)*b<=140737488355328/\hi-lo+rows.length<=140737488355328/\
   K (((⟨.sb nm (.iter none []) st.env,Pt nm (.iter none []) st.sto⟩:St).setB nm (.rows e k ((rs.take hi).drop lo++rows))).put d (.ref (.sl nm k 0 (hi-lo+rows.length))))))/\
  (∀rows l h k,Iw (.i (.sl rows)) l h d k st K=((∀r∈rows,r.length=k)/\DH (YK l) (YQ rows.length h) rows.length (Ob rows d st K)))/\(∀nm k0 lo hi l h k,Iw (.ref (.sl nm k0 lo hi)) l h d k st K=Jy (Ac st.sto nm) nm k0 lo hi d k l h st K)/\
  (∀e k' rs nm k0 lo hi k l h,Jy (some (.rows e k' rs)) nm k0 lo hi d k l h st K=(k'=k/\k0=k/\DH (YK l) (YQ ((hi-lo:Nat):Int) h) (rs.length-lo) (Oc nm k lo d st K)))/\(∀rows a c,Ob rows d st K a c=K (st.put d (.i (.sl ((rows.take c).drop a)))))/\(∀nm k lo a c,Oc nm k lo d st K a c=K (st.put d (.ref (.sl nm k (lo+a) (lo+c)))))/\
  (∀s a c,Od s d st K a c=K (st.put d (.i (.str ((s.take c).drop a)))))/\(∀e k x,NC none (.i (.sl x)) d e k st K=K ((st.bind d (.rows e k [])).put d (.ref (.sl d k 0 0))))/\(∀s l h,LU (.i (.str s)) l h d st K=DH (YK l) (YQ s.length h) s.length (Od s d st K))/\(∀ls,Ix none d ls st K=K ((st.bind d (.map ls [])).put d (.ref (.mp d))))/\
  (∀q z ok ls,DY (.i .nilmap) (.i q) z ok ls d st K=(Au ls q=true/\K (st.put d (.i (CB [] q z ok)))))/\(∀es q z ok ls,DY (.i (.map es)) (.i q) z ok ls d st K=(Au ls q=true/\(∀e∈es,Au ls e.1=true)/\K (st.put d (.i (CB es q z ok)))))/\
  (∀nm q z ok ls,DY (.ref (.mp nm)) (.i q) z ok ls d st K=(Au ls q=true/\E3 (Ac st.sto nm) ls q z ok d st K))/\(∀ls' es ls q z ok,E3 (some (.map ls' es)) ls q z ok d st K=(ls'=ls/\K (st.put d (.i (CB es q z ok)))))/\(Jz (.i .nilmap) d st K=K (st.put d (.i (.int .i64 0))))/\(∀es,Jz (.i (.map es)) d st K=K (st.put d (.i (.int .i64 es.length))))/\
  (∀nm,Jz (.ref (.mp nm)) d st K=KH (Ac st.sto nm) d st K)/\(∀ls es,KH (some (.map ls es)) d st K=K (st.put d (.i (.int .i64 es.length))))/\(Iy none (.i .nilmap) d st K=K ((st.bind d (.iter none [])).put d (.ref (.it d))))/\(∀es,Iy none (.i (.map es)) d st K=K ((st.bind d (.iter none es)).put d (.ref (.it d))))/\
  (∀nm,JB (.ref (.it nm)) d st K=JA (Ac st.sto nm) nm d st K)/\(∀nm,JD (.ref (.it nm)) d st K=JC (Ac st.sto nm) d st K)/\(∀c r,JC (some (.iter (some c) r)) d st K=K (st.put d (.i (.tup [c.1,c.2]))))/\(∀neg,B4 .pt neg (.i .nilp) d st K=K (st.put d (.i (.bool (true !=neg)))))/\
  (∀neg,B4 .fn neg (.i .nilfn) d st K=K (st.put d (.i (.bool (true !=neg)))))/\(∀neg,B4 .mp neg (.i .nilmap) d st K=K (st.put d (.i (.bool (true !=neg)))))/\(∀neg c o,B4 .pt neg (.i (.elt c o)) d st K=K (st.put d (.i (.bool (false !=neg)))))/\(∀neg f a b,B4 .fn neg (.i (.fn f a b)) d st K=K (st.put d (.i (.bool (false !=neg)))))/\
  (∀neg f a b,B4 .fn neg (.fn f a b) d st K=K (st.put d (.i (.bool (false !=neg)))))/\(∀neg es,B4 .mp neg (.i (.map es)) d st K=K (st.put d (.i (.bool (false !=neg)))))/\(∀neg n o,B4 .pt neg (.ref (.loc n o)) d st K=K (st.put d (.i (.bool (false !=neg)))))/\(∀neg n k r o,B4 .pt neg (.ref (.lel n k r o)) d st K=K (st.put d (.i (.bool (false !=neg)))))/\
  (∀neg n,B4 .mp neg (.ref (.mp n)) d st K=K (st.put d (.i (.bool (false !=neg)))))/\
  (∀cs o q n k l,JE (.i (.elt cs o)) (.i (.int q n)) d k l st K=((0<=n/\n<(l:Int))/\K (st.put d (.i (.elt cs (o+n.toNat*k))))))/\(∀nm o q n k l,JE (.ref (.loc nm o)) (.i (.int q n)) d k l st K=((0<=n/\n<(l:Int))/\K (st.put d (.ref (.loc nm (o+n.toNat*k))))))/\
  (∀nm kk row o q n k l,JE (.ref (.lel nm kk row o)) (.i (.int q n)) d k l st K=((0<=n/\n<(l:Int))/\K (st.put d (.ref (.lel nm kk row (o+n.toNat*k))))))/\
  (∀s,IA (.i (.str s)) d st K=K (st.put d (.i (.sl (rowsB s)))))/\(∀rows,LV (.i (.sl rows)) d st K=KI (ND rows) d st K)/\(∀l,KI (some l) d st K=K (st.put d (.i (.str l)))):=by
 and_intros<;>intros<;>first|rfl|(simp only[Db,br];simp;done)|(simp[Hd];done)|(simp only[rJ];done)
theorem xA(st:St)(K:St->Prop):
  (∀nm off v k,E2 (.ref (.loc nm off)) v k st K=He (Ac st.sto nm) nm off k v st K)/\(∀nm kk row off v k,E2 (.ref (.lel nm kk row off)) v k st K=Jv (Ac st.sto nm) nm kk row off k v st K)/\
  (∀cs nm off k v,He (some (.cells cs)) nm off k v st K=((AT v).length=k/\(AT v).all Da=true/\off+k<=cs.length/\K (st.setB nm (.cells (setL cs off (AT v))))))/\
  (∀e k' rs nm kk row off k v,Jv (some (.rows e k' rs)) nm kk row off k v st K=(kk=k'/\row<rs.length/\G5 v=true/\(cellsI (FB v)).length=k/\(cellsI (FB v)).all I.one=true/\off+k<=(rs.getD row []).length/\K (st.setB nm (.rows e k' (rs.set row (setL (rs.getD row []) off (cellsI (FB v))))))))/\
  (∀nm off v k,Jx (.ref (.loc nm off)) v k st K=Jw (Ac st.sto nm) nm off k v st K)/\(∀cs nm off k v,Jw (some (.cells cs)) nm off k v st K=(off=0/\cs.length=k/\G5 v=true/\(cellsI (FB v)).length=k/\(cellsI (FB v)).all I.one=true/\K (st.frz nm (.cells ((cellsI (FB v)).map .i)))))/\
  (∀nm q u ls,Gr (.ref (.mp nm)) (.i q) (.i u) ls st K=(Au ls q=true/\Hg (Ac st.sto nm) nm ls q u st K))/\(∀ls' es nm ls q u,Hg (some (.map ls' es)) nm ls q u st K=(ls'=ls/\K (st.setB nm (.map ls (Dp es q u))))):=by
 and_intros<;>intros<;>rfl
theorem V7:
  (∀(α β:Type) (f:α->β) a l,(a::l).map f=f a::l.map f)/\(∀(α β:Type) (f:α->β),([]:List α).map f=[])/\(∀(α:Type) (l:List α),l.drop 0=l)/\(∀(α:Type) (a:α) l n,(a::l).drop (n+1)=l.drop n)/\(∀(α:Type) (l:List α),l.take 0=[])/\
  (∀(α:Type) (a:α) l n,(a::l).take (n+1)=a::l.take n)/\(∀(α:Type) (a d:α) l,(a::l).getD 0 d=a)/\(∀(α:Type) (a d:α) l n,(a::l).getD (n+1) d=l.getD n d)/\(∀(α:Type) (a:α) l,(a::l).length=l.length+1)/\(∀(α:Type),([]:List α).length=0)/\
  (∀(α:Type) (p:α->Bool) a l,(a::l).all p=(p a&&l.all p))/\(∀(α:Type) (p:α->Bool),([]:List α).all p=true)/\(∀(α:Type) (a:α) l m,(a::l)++m=a::(l++m))/\(∀(α:Type) (m:List α),[]++m=m)/\(∀(α:Type) (m:List α),m++[]=m)/\
  (∀(α β:Type) (f:α->List β),([]:List α).flatMap f=[])/\(∀(α β:Type) (f:α->List β) a l,(a::l).flatMap f=f a++l.flatMap f)/\(∀(α:Type) (n:Nat),([]:List α).drop n=[])/\(∀(α:Type) (n:Nat),([]:List α).take n=[])/\(∀(α β:Type) (f:α->β),Option.map f none=none)/\(∀(α β:Type) (f:α->β) a,Option.map f (some a)=some (f a))/\
  (∀l:List I,(l.map D.i).flatMap D.nms=[])/\(∀l:List I,Bk (l.map D.i)=true)/\(∀x l,Bk (.i x::l)=Bk l)/\(Bk []=true)/\(∀r l,Bk (.ref r::l)=false)/\(∀l,Bk (.any::l)=false)/\(∀l:List I,(l.map D.i).all Da=l.all I.one)/\(∀l:List I,(l.map D.i).map FB=l)/\(∀nm c (l:List I),(l.map D.i).map (Pp nm c)=l.map D.i):=by
 and_intros<;>intros<;>first|rfl|(simp;done)|(simp[Bk,G5];done)|(simp only[List.all_map];rfl)|skip
 ·rename_i l;induction l with|nil=>rfl|cons a l ih=>simp[D.nms]
 ·rename_i l;induction l with|nil=>rfl|cons a l ih=>simpa[FB]using ih
 ·rename_i nm c l;simp[Pp]
theorem V8:
  (∀cs,cellsI (.agg cs)=cs)/\(∀b,cellsI (.bool b)=[.bool b])/\(∀k n,cellsI (.int k n)=[.int k n])/\(∀s,cellsI (.str s)=[.str s])/\(∀r,cellsI (.sl r)=[.sl r])/\(∀f a b,cellsI (.fn f a b)=[.fn f a b])/\(∀c o,cellsI (.elt c o)=[.elt c o])/\cellsI .nilfn=[.nilfn]/\cellsI .nilp=[.nilp]/\cellsI .nilmap=[.nilmap]/\(∀es,cellsI (.map es)=[.map es])/\
  (∀cs,AT (.i (.agg cs))=cs.map .i)/\(∀b,AT (.i (.bool b))=[.i (.bool b)])/\(∀k n,AT (.i (.int k n))=[.i (.int k n)])/\(∀s,AT (.i (.str s))=[.i (.str s)])/\(∀r,AT (.i (.sl r))=[.i (.sl r)])/\(∀f a b,AT (.i (.fn f a b))=[.i (.fn f a b)])/\(∀c o,AT (.i (.elt c o))=[.i (.elt c o)])/\
  AT (.i .nilfn)=[.i .nilfn]/\AT (.i .nilp)=[.i .nilp]/\AT (.i .nilmap)=[.i .nilmap]/\(∀es,AT (.i (.map es))=[.i (.map es)])/\(∀r,AT (.ref r)=[.ref r])/\(∀f a b,AT (.fn f a b)=[.fn f a b])/\
  (∀x,FB (.i x)=x)/\(∀x,G5 (.i x)=true)/\(∀r,G5 (.ref r)=false)/\(G5 .any=false)/\(∀f a b,G5 (.fn f a b)=false)/\(∀x,Da (.i x)=x.one)/\(∀r,Da (.ref r)=true)/\(∀f a b,Da (.fn f a b)=true)/\
  (∀b,I.one (.bool b)=true)/\(∀k n,I.one (.int k n)=true)/\(∀s,I.one (.str s)=true)/\(∀r,I.one (.sl r)=true)/\(∀f a b,I.one (.fn f a b)=true)/\(∀c o,I.one (.elt c o)=true)/\I.one .nilfn=true/\I.one .nilp=true/\I.one .nilmap=true/\(∀es,I.one (.map es)=true)/\
  (∀c cs off k,pk true (c::cs) off k=.agg (((c::cs).drop off).take k))/\(∀c cs off k,pk false (c::cs) off k=(c::cs).getD off .undef)/\(∀c cs off k,Y4 true (c::cs) off k=.i (.agg ((((c::cs).drop off).take k).map FB)))/\(∀c cs off k,Y4 false (c::cs) off k=(c::cs).getD off .any)/\
  (∀l off k,Y4 true (l.map D.i) off k=.i (pk true l off k))/\(∀(l:List I) off k,Bk (((l.map D.i).drop off).take k)=true)/\
  (∀zs,Ed zs []=zs)/\(∀zs off cs r,Ed zs ((off,cs)::r)=Ed (setL zs off cs) r)/\(∀(cs:List I) off vs,setL cs off vs=cs.take off++vs++cs.drop (off+vs.length))/\(∀(cs:List D) off vs,setL cs off vs=cs.take off++vs++cs.drop (off+vs.length))/\
  (∀x,BE (.i x)=some (.i x))/\(∀r,BE (.ref r)=some (.ref r))/\(BE .any=some .any)/\(∀f a b,wC f a b=if a.all rG&&b.all rG then .i (.fn f (a.map wB) (b.map wB))else .fn f a b)/\(∀x,rG (.i x)=true)/\(∀r,rG (.ref r)=false)/\(rG .any=false)/\(∀x,wB (.i x)=x):=by
 have hu:∀l:List I,(l.map D.i).map FB=l:=fun l=>by induction l with|nil=>rfl|cons a l ih=>simp_all[FB]
 have ha:∀l:List I,Bk (l.map D.i)=true:=fun l=>by simp[Bk,G5]
 and_intros<;>intros<;>first|rfl|(simp only[Y4,pk,if_true,<-List.map_drop,<-List.map_take,hu];done)|(rw[<-List.map_drop,<-List.map_take];exact ha _)
theorem V9(K:Exit->St->Prop)(st:St):
  (W P GL .skip K st=K .normal st)/\(∀gs,W P GL (.reg gs) K st=ev P GL gs st (K .normal))/\(∀a b,W P GL (.seq a b) K st=W P GL a (JO (W P GL b) K) st)/\(∀c a b,W P GL (.cond c a b) K st=KS P GL (AL GL st c) a b K st)/\
  (∀id c,W P GL (.block id c) K st=W P GL c (C5 id K) st)/\(∀id,W P GL (.exit id) K st=K (.exit id) st)/\(W P GL .ret K st=K .ret st)/\(∀a c,KS P GL (.i (.bool true)) a c K st=W P GL a K st)/\(∀a c,KS P GL (.i (.bool false)) a c K st=W P GL c K st):=by
 and_intros<;>intros<;>first|rfl|(simp only[KS];done)|(simp[KS,br];done)|(simp only[W,KS];rfl)
theorem wF:
  (∀R y,KU R (some (.i y))=R (.i y) [])/\(∀x y,Sf y (.i x) []=(x=y))/\(∀st rs,GE st rs=UP (HC st rs))/\(∀xs,UP (some xs)=JU xs)/\(∀x,JU [x]=some x)/\(JU []=some (.i (.tup [])))/\(∀x y l,JU (x::y::l)=if Bk (x::y::l)then some (.i (.tup ((x::y::l).map FB)))else none)/\
  (∀st,HC st []=some [])/\(∀st r rs,HC st (r::rs)=UO (vU st r) (HC st rs))/\(∀x xs,UO (some x) (some xs)=some (x::xs))/\(∀st t,vU st (.tmp t)=wW (Af st.env t))/\(∀st t k ag,vU st (.cell t k ag)=wY (Af st.env t) k ag st)/\
  (∀x,wW (.i x)=some (.i x))/\(∀r,wW (.ref r)=some (.ref r))/\(∀f a b,wW (.fn f a b)=some (.fn f a b))/\(∀cs off k ag st,wY (.i (.elt cs off)) k ag st=if Nat.ble (off+k) cs.length then some (.i (pk ag cs off k))else none)/\(∀nm off k ag e s,wY (.ref (.loc nm off)) k ag ⟨e,s⟩=Mt (Ac s nm) off k ag)/\
  (∀cs off k,Mt (some (.cells cs)) off k true=if Nat.ble (off+k) cs.length&&Bk ((cs.drop off).take k)then some (Y4 true cs off k)else none)/\(∀cs off k,Mt (some (.cells cs)) off k false=if Nat.ble (off+k) cs.length then some (Y4 false cs off k)else none)/\
  (∀rs st,wM rs st=DW st.sto (rs.flatMap (wV st)))/\(∀t st,wV st (.tmp t)=(Af st.env t).nms)/\(∀t k ag st,wV st (.cell t k ag)=(Af st.env t).nms):=by
 and_intros<;>intros<;>first|rfl|(simp[Sf];done)|(simp[Mt];done)|(simp only[wM];congr 1;congr 1;funext r;cases r<;>rfl)
theorem Fz:(∀e s t,Sub ⟨.l e,s⟩ t=(Jr e t.env/\Bl s t.sto/\rH s e=true/\Ps s s=true))/\(∀e,Jr [] e=True)/\(∀m d r e,Jr ((m,d)::r) e=(Af e m=d/\Jr r e))/\(∀s,Bl [] s=True)/\(∀m d r s,Bl ((m,d)::r) s=(Ac s m=some d/\Bl r s))/\
  (∀S,rH S []=true)/\(∀S m d r,rH S ((m,d)::r)=(Pq S d.nms&&rH S r))/\(∀S,Ps S []=true)/\(∀S m b r,Ps S ((m,b)::r)=(Pq S b.nms&&Ps S r))/\(∀S,Pq S []=true)/\(∀S m l,Pq S (m::l)=((Ac S m).isSome&&Pq S l))/\
  (∀cs,Blk.nms (.cells cs)=cs.flatMap D.nms)/\(∀e k rs,Blk.nms (.rows e k rs)=[])/\(∀l es,Blk.nms (.map l es)=[])/\(∀c r,Blk.nms (.iter c r)=[]):=by
 and_intros<;>intros<;>rfl
theorem xB(st:St):(∀i,Bg i st=putO st i.dst (.i .undef)):=fun i=>by rfl
theorem xC(sn:List Nat)(r:List GI)(K:St->Prop):
  (∀e s,FZ P GL sn r K ⟨e,s⟩=evD P GL sn r ⟨e,s⟩ K)/\(∀i st,evD P GL sn (⟨none,i⟩::r) st K=Ae P GL sn i st (FZ P GL sn r K))/\(∀s w i st,evD P GL sn (⟨some (s,w),i⟩::r) st K=bJ P GL s (Af st.env s) w sn i r st K)/\
  (∀s i st,bJ P GL s (.i (.bool true)) true sn i r st K=Ae P GL sn i st (FZ P GL sn r K))/\(∀s i st,bJ P GL s (.i (.bool false)) true sn i r st K=FZ P GL sn r K (Bg i st))/\(∀s i st,bJ P GL s (.i (.bool true)) false sn i r st K=FZ P GL sn r K (Bg i st))/\
  (∀s i st,bJ P GL s (.i (.bool false)) false sn i r st K=Ae P GL sn i st (FZ P GL sn r K))/\(∀s w i st,bJ P GL s (.i .undef) w sn i r st K=FZ P GL sn r K (Bg i st)):=by
 and_intros<;>intros<;>first|rfl|(simp[bJ,YU,br];done)|(simp[CV,D.nms];done)|(simp;done)
theorem xD(sn:List Nat)(st:St)(K:St->Prop):
  (∀d x,Ae P GL sn (.mov d x) st K=K (st.put d (AL GL st x)))/\(∀d c a b,Ae P GL sn (.pick d c a b) st K=Db (AL GL st c) d (AL GL st a) (AL GL st b) st K)/\(∀d zs,Ae P GL sn (.alloc d zs) st K=Ee (Ac st.sto d) d (zs.map .i) st K)/\
  (∀d x k ag,Ae P GL sn (.load d x k ag) st K=(CV sn (AL GL st x)/\Gm (AL GL st x) d k ag st K))/\(∀x v k,Ae P GL sn (.store x v k) st K=Ms sn (AL GL st x) (AL GL st v) k st K)/\
  (∀d x o,Ae P GL sn (.fa d x o) st K=rI (AL GL st x) d o st K)/\(∀d x o k ag,Ae P GL sn (.fld d x o k ag) st K=LS (AL GL st x) d o k ag st K)/\(∀d s i k,Ae P GL sn (.ia d s i k) st K=((CV sn (AL GL st s)/\CV sn (AL GL st i))/\rP (AL GL st s) (AL GL st i) d k st K))/\
  (∀d s i,Ae P GL sn (.idx d s i) st K=In (AL GL st s) (AL GL st i) d st K)/\(∀d x i k len ag,Ae P GL sn (.aidx d x i k len ag) st K=LT (AL GL st x) (AL GL st i) d k len ag st K)/\(∀d op x y,Ae P GL sn (.bin d op x y) st K=Io op (AL GL st x) (AL GL st y) d st K)/\
  (∀d op x y,Ae P GL sn (.sh d op x y) st K=rV op (AL GL st x) (AL GL st y) d st K)/\(∀d n ls x y,Ae P GL sn (.eqs d n ls x y) st K=Iq n ls (AL GL st x) (AL GL st y) d st K)/\(∀d n x y,Ae P GL sn (.eqb d n x y) st K=Hf n (AL GL st x) (AL GL st y) d st K)/\
  (∀d op x,Ae P GL sn (.un d op x) st K=rJ op (AL GL st x) d st K)/\(∀d x,Ae P GL sn (.lens d x) st K=Ir (AL GL st x) d st K)/\(∀d x,Ae P GL sn (.lenl d x) st K=Gp (AL GL st x) d st K)/\(∀d x i,Ae P GL sn (.ext d x i) st K=Gq (AL GL st x) i d st K)/\
  (∀d e k p ps,Ae P GL sn (.bsn d e k (p::ps)) st K=(((p::ps).all fun o=>G5 (AL GL st o)&&((cellsI (FB (AL GL st o))).length==k)&&(cellsI (FB (AL GL st o))).all I.one)=true/\K (st.put d (.i (.sl ((p::ps).map fun o=>cellsI (FB (AL GL st o))))))))/\
  (∀d zs ps,Ae P GL sn (.build d zs ps) st K=((ps.all fun p=>G5 (AL GL st p.2.2)&&((cellsI (FB (AL GL st p.2.2))).length==p.2.1))=true/\K (st.put d (.i (.agg (Ed zs (ps.map fun p=>(p.1,cellsI (FB (AL GL st p.2.2))))))))))/\
  (∀d f a b,Ae P GL sn (.mkfn d f a b) st K=It f (a.mapM fun o=>BE (AL GL st o)) (b.mapM fun o=>BE (AL GL st o)) d st K)/\(∀d f args,Ae P GL sn (.call d f args) st K=((args.all fun o=>G5 (AL GL st o))=true/\Aj P GL f (args.map fun o=>FB (AL GL st o)) st d K))/\(∀d f args,Ae P GL sn (.callv d f args) st K=((args.all fun o=>G5 (AL GL st o))=true/\F0 P GL (AL GL st f) (args.map fun o=>FB (AL GL st o)) st d K))/\
  (∀d x y,Ae P GL sn (.max d x y) st K=Ef true (AL GL st x) (AL GL st y) d st K)/\(∀d x y,Ae P GL sn (.min d x y) st K=Ef false (AL GL st x) (AL GL st y) d st K)/\(∀d k x,Ae P GL sn (.conv d k x) st K=Iu k (AL GL st x) d st K)/\
  (∀d x lo hi,Ae P GL sn (.sslc d x lo hi) st K=LU (AL GL st x) (lo.map (AL GL st)) (hi.map (AL GL st)) d st K)/\(∀d x q z ok ls,Ae P GL sn (.lookup d x q z ok ls) st K=DY (AL GL st x) (AL GL st q) z ok ls d st K)/\
  (∀x q v ls,Ae P GL sn (.mupd x q v ls) st K=Gr (AL GL st x) (AL GL st q) (AL GL st v) ls st K)/\(∀d x,Ae P GL sn (.lenm d x) st K=Jz (AL GL st x) d st K)/\(∀d x i k l,Ae P GL sn (.iaa d x i k l) st K=JE (AL GL st x) (AL GL st i) d k l st K)/\(∀d x,Ae P GL sn (.bytes d x) st K=IA (AL GL st x) d st K)/\(∀d x,Ae P GL sn (.ofb d x) st K=LV (AL GL st x) d st K):=by
 have hc:∀d f args,Ae P GL sn (.call d f args) st K=((args.all fun o=>G5 (AL GL st o))=true/\Aj P GL f (args.map fun o=>FB (AL GL st o)) st d K):=fun d f args=>by simp only[Ae];refine propext ⟨fun⟨h,y,h1,h2⟩=>⟨h,y,by rw[<-I0 h];exact h1,h2⟩,fun⟨h,y,h1,h2⟩=>⟨h,y,by rw[I0 h];exact h1,h2⟩⟩
 have hv:∀d f args,Ae P GL sn (.callv d f args) st K=((args.all fun o=>G5 (AL GL st o))=true/\F0 P GL (AL GL st f) (args.map fun o=>FB (AL GL st o)) st d K):=fun d f args=>by
  simp only[Ae,F0];refine propext ⟨fun⟨h0,h,hh⟩=>⟨h,?_⟩,fun⟨h,hh⟩=>?_⟩
  ·cases hf:AL GL st f with
   |i x=>
    rw[hf]at hh;cases x<;>simp only[EE]at hh
    case fn g a b=>
     obtain⟨y,h1,h2⟩:=hh;exact⟨y,by rw[List.map_append,List.map_append,<-I0 h];exact h1,h2⟩
   |_=>rw[hf]at h0;simp[G5]at h0
  ·cases hf:AL GL st f with
   |i x=>
    rw[hf]at hh;cases x<;>simp only[]at hh
    case fn g a b=>
     obtain⟨y,h1,h2⟩:=hh;refine⟨rfl,h,?_⟩;simp only[EE];exact⟨y,by rw[List.map_append,List.map_append,<-I0 h]at h1;exact h1,h2⟩
   |_=>rw[hf]at hh;exact hh.elim
 and_intros<;>intros<;>first|exact hc _ _ _|exact hv _ _ _|rfl|(simp only[Ae,Bp,Option.isSome,true_and,step];done)|(simp[];done)|(simp only[Ae,Bp,Option.isSome,true_and,step];rfl)
theorem GF:
  (∀e s nm,St.frzN ⟨e,s⟩ nm=Qv (Ac s nm) nm ⟨e,s⟩)/\
  (∀b nm st,Qv (some b) nm st=if Ec b=true then st.frz nm b else st)/\(∀nm st,Qv none nm st=st)/\(∀st,frzNs [] st=st)/\(∀nm l st,frzNs (nm::l) st=frzNs l (st.frzN nm))/\
  (∀cs,Ec (.cells cs)=Bk cs)/\(∀e k rs,Ec (.rows e k rs)=true)/\(∀ls es,Ec (.map ls es)=true)/\(∀c rs,Ec (.iter c rs)=true)/\
  (∀s,DW s []=[])/\(∀s nm l,DW s (nm::l)=rF (Ac s nm)++nm::DW s l)/\(∀st k x,rW st k (.i x)=[])/\(∀st k,rW st k .any=[])/\(∀st k nm off,rW st k (.ref (.loc nm off))=DW st.sto (LW (Ac st.sto nm) off k))/\(∀st k nm kk row off,rW st k (.ref (.lel nm kk row off))=[])/\(∀cs off k,LW (some (.cells cs)) off k=((cs.drop off).take k).flatMap D.nms)/\
  (rF none=[])/\(∀cs,rF (some (.cells cs))=cs.flatMap D.nms)/\(∀e k rs,rF (some (.rows e k rs))=[])/\(∀ls es,rF (some (.map ls es))=[])/\(∀c r,rF (some (.iter c r))=[])/\
  (∀x,D.nms (.i x)=[])/\(D.nms .any=[])/\(∀r,D.nms (.ref r)=[r.nm])/\(∀f a b,D.nms (.fn f a b)=a.flatMap Cp.nms++b.flatMap Cp.nms)/\(∀x,Cp.nms (.i x)=[])/\(Cp.nms .any=[])/\(∀r,Cp.nms (.ref r)=[r.nm])/\
  (∀l h top Q,DH (some l) (some h) top Q=((0<=l/\l<=h/\h<=(top:Int))/\Q l.toNat h.toNat))/\(YK none=some 0)/\(∀k n,YK (some (.i (.int k n)))=some n)/\(∀l,YQ l none=some l)/\(∀l k n,YQ l (some (.i (.int k n)))=some n)/\
  (∀post (K':Exit->St->Prop) e s,Mp post K' ⟨e,s⟩=K' .normal (frzNs (Df post ⟨e,s⟩) ⟨e,s⟩))/\(∀s,Df [] s=[])/\(∀t l s,Df (t::l) s=(Af s.env t).nms++Df l s)/\
  (∀s x,CV s (.i x)=True)/\(∀s,CV s .any=True)/\(∀s r,CV s (.ref r)=(s.contains r.nm=false))/\(∀(n:Nat),([]:List Nat).contains n=false)/\(∀(n m:Nat) l,(m::l).contains n=(n==m||l.contains n))/\
  (∀sn st K nm o v k,Ms sn (.ref (.loc nm o)) v k st K=(sn.contains nm=true/\E2 (.ref (.loc nm o)) v k st K))/\(∀a b,Nat.ble a b=decide (a<=b))/\(∀a b,Nat.blt a b=decide (a<b)):=by
 and_intros<;>intros<;>first|rfl|(simp[DW,List.flatMap_cons];done)|(simp[CV,D.nms];done)|(simp[Ms];done)|(rw[Bool.eq_iff_iff];simp)|(simp;done)
theorem xE(K:Exit->St->Prop)(st:St):
  (∀w:(Exit->St->Prop)->St->Prop,JO w K .normal st=w K st)/\(∀(w:(Exit->St->Prop)->St->Prop) id,JO w K (.exit id) st=K (.exit id) st)/\(∀w:(Exit->St->Prop)->St->Prop,JO w K .ret st=K .ret st)/\
  (∀id,C5 id K .normal st=K .normal st)/\(∀id id',C5 id K (.exit id') st=if id'=id then K .normal st else K (.exit id') st)/\(∀id,C5 id K .ret st=K .ret st)/\
  (∀F I n i,JV F I n i K .normal st=(i<n/\I (i+1)/\Sub (F (i+1)) st))/\(∀F I n i id,JV F I n i K (.exit id) st=K (.exit id) st)/\(∀F I n i,JV F I n i K .ret st=K .ret st)/\
  (∀(ι:Type) (F:ι->St) m i,Mu F m i K .normal st=∃i',m i'<m i/\Sub (F i') st)/\(∀(ι:Type) (F:ι->St) m i id,Mu F m i K (.exit id) st=K (.exit id) st)/\(∀(ι:Type) (F:ι->St) m i,Mu F m i K .ret st=K .ret st)/\
  (∀φ S,KV φ S K .normal st=(φ/\Sub S st))/\(∀φ S id,KV φ S K (.exit id) st=K (.exit id) st)/\(∀φ S,KV φ S K .ret st=K .ret st):=by
 and_intros<;>intros<;>rfl
theorem xF(st:St):(∀rs g mv R,IZ rs g mv R .normal st=DJ rs g mv R st)/\(∀rs g mv R,IZ rs g mv R .ret st=DJ rs g mv R st):=by and_intros<;>intros<;>rfl
theorem xG:(∀f a b xs st d K,F0 P GL (.i (.fn f a b)) xs st d K=Aj P GL f (a++xs++b) st d K):=fun _ _ _ _ _ _ _=>rfl
theorem xH:(∀sn gs post (K:Exit->St->Prop) st,Mq P GL sn gs post K st=evD P GL sn gs st (Mp post K))/\(∀st K,ev P GL [] st K=K st)/\(∀sn st K,evD P GL sn [] st K=K st):=⟨fun _ _ _ _ _=>rfl,fun _ _=>rfl,fun _ _ _=>rfl⟩
theorem xI(st:St):(dN GL [] st=[])/\(∀g i r,dN GL (⟨g,i⟩::r) st=dI GL st i++dN GL r st):=⟨rfl,fun _ _ _=>rfl⟩
theorem bO{args:List I}{y:I}(ku:B9 P f=true)
  (h:∀(M:Mem) (w:World) (vs:Array Value),M.Sub w->Gl GL M->Ai M args vs.toList->∃v,Rep M y v/\Calls P f vs w fun e w'=>e=.returned v/\w'=w):MC P GL f (args.map D.i) [] [] (Sf y):=by
 intro M μ w vs h1 h2 h3;have hr:Ai M args vs.toList:=⟨by simpa using h3.1,fun j a b=>by have:=h3.2 j (by simpa using a) b;rw[List.getElem_map]at this;exact this⟩;obtain⟨v,hv,hc⟩:=h M w vs h1.sub h2 hr;refine .inl ⟨ku,hc.mono ?_⟩;rintro e w' ⟨rfl,rfl⟩;exact⟨v,rfl,.i y,[],M,μ,⟨rfl,rfl⟩,h1,AG hv,MExt.refl _ _,Keeps.refl _ _,fun _ _ _=>rfl⟩
def rq(GL:List (Nat×List I))(st:St):List O->List Nat
 |[]=>[]
 |o::r=>(AL GL st o).nms++rq GL st r
theorem UQ(st:St)(os:List O):(os.flatMap fun o=>(AL GL st o).nms)=rq GL st os:=by
 induction os with
 |nil=>rfl
 |cons o r ih=>simp only[List.flatMap_cons,rq,ih]
@[go_sem] theorem zm(sn:List Nat)(st:St)(K:St->Prop):(∀d e k b x y,Ae P GL sn (.app d e k b x y) st K=(De ((AL GL st x).nms++(AL GL st y).nms) st (DI sn)/\step P GL (.app d e k b x y) st K))/\(∀d e k,Ae P GL sn (.bsl d e k []) st K=(De [] st (DI sn)/\step P GL (.bsl d e k []) st K))/\(∀d e k p ps,Ae P GL sn (.bsl d e k (p::ps)) st K=(De (rq GL st (p::ps)) st (DI sn)/\step P GL (.bsl d e k (p::ps)) st K))/\
  (∀d x q z ls e k,Ae P GL sn (.ment d x q z ls e k) st K=(De ((AL GL st x).nms++(AL GL st q).nms) st (DI sn)/\step P GL (.ment d x q z ls e k) st K))/\
  (∀d x k,Ae P GL sn (.slc d x none none k) st K=(CV sn (AL GL st x)/\step P GL (.slc d x none none k) st K))/\(∀d x l k,Ae P GL sn (.slc d x (some l) none k) st K=((CV sn (AL GL st x)/\CV sn (AL GL st l))/\step P GL (.slc d x (some l) none k) st K))/\
  (∀d x h k,Ae P GL sn (.slc d x none (some h) k) st K=((CV sn (AL GL st x)/\CV sn (AL GL st h))/\step P GL (.slc d x none (some h) k) st K))/\(∀d x l h k,Ae P GL sn (.slc d x (some l) (some h) k) st K=((CV sn (AL GL st x)/\CV sn (AL GL st l)/\CV sn (AL GL st h))/\step P GL (.slc d x (some l) (some h) k) st K)):=by
 refine⟨fun d e k b x y=>?_,fun _ _ _=>rfl,fun d e k p ps=>?_,fun d x q z ls e k=>?_,fun d x k=>?_,fun d x l k=>?_,fun d x h k=>?_,fun d x l h k=>?_⟩
 ·simp[Ae,FU,YL,Cd,List.flatMap_cons]
 ·have e:YL GL (.bsl d e k (p::ps)) st=rq GL st (p::ps):=UQ _ _;simp only[Ae,FU,e]
 ·simp[Ae,FU,YL,Cd,List.flatMap_cons]
 all_goals simp[Ae,Bm]
@[go_sem] theorem zn(sn:List Nat)(st:St)(K:St->Prop):(∀d f args,step P GL (.callo d f args) st K=KT P GL f args d st K)/\(∀d f args,Av GL (.callo d f args) st=[])/\
  (∀d f args,Ae P GL sn (.callo d f args) st K=(De (rq GL st args) st (DI sn)/\KT P GL f args d st K))/\(rq GL st []=[])/\(∀o r,rq GL st (o::r)=(AL GL st o).nms++rq GL st r):=by
 refine⟨fun _ _ _=>rfl,fun _ _ _=>rfl,fun d f args=>?_,rfl,fun _ _=>rfl⟩;have e:YL GL (.callo d f args) st=rq GL st args:=UQ _ _;simp only[Ae,FU,e];rfl
@[go_sem] theorem zo(sn:List Nat)(st:St)(K:St->Prop):(∀d f args,Ae P GL sn (.callf d f args) st K=(De (oN GL st args) st (DI sn)/\Dt P GL (DX GL f args) args d st K))/\(∀d f args,Ae P GL sn (.callvf d f args) st K=(De (oN GL st (f::args)) st (DI sn)/\Dt P GL (Dr GL f args) (f::args) d st K)):=
 ⟨fun _ _ _=>rfl,fun _ _ _=>rfl⟩
theorem bP(hI:(os.all fun o=>G5 (AL GL (frzNs (oN GL st os) st) o))=true)(h:Aj P GL f (os.map fun o=>FB (AL GL (frzNs (oN GL st os) st) o)) (frzNs (oN GL st os) st) d K):Dt P GL (DX GL f os) os d st K:=by obtain⟨y,h1,h2⟩:=h;rw[<-I0 hI]at h1;exact⟨hI,y,h1,h2⟩
theorem bQ{fo:O}(hI:((fo::os).all fun o=>G5 (AL GL (frzNs (oN GL st (fo::os)) st) o))=true)
  (h:F0 P GL (AL GL (frzNs (oN GL st (fo::os)) st) fo) (os.map fun o=>FB (AL GL (frzNs (oN GL st (fo::os)) st) o)) (frzNs (oN GL st (fo::os)) st) d K):Dt P GL (Dr GL fo os) (fo::os) d st K:=by
 unfold Dt;generalize frzNs (oN GL st (fo::os)) st=s1 at hI h;unfold F0 at h;split at h
 ·rename_i f first caps e
  obtain⟨y,h1,h2⟩:=h;have hI2:(os.all fun o=>G5 (AL GL s1 o))=true:=by grind
  rw[List.map_append,List.map_append,<-I0 hI2]at h1;simp only[IK,Dr,EE,e];exact⟨hI,y,h1,h2⟩
 ·exact h.elim
@[congr] theorem rY{P:Program}{GL:List (Nat×List I)}{get:St->Option (FuncId×List D)}:@Dt P GL get os d st K=@Dt P GL get os d st K:=rfl
theorem UR{d:Nat}{ds:List D}{R:D->List (Nat×Blk)->Prop}(h:MC P GL f ds [] [] R)(zz:os.map (AL GL st)=ds)(hI:(ds.all G5)=true)
  (k:∀r sto',R r sto'->((AY d sto').map (·.1)).all (fun nm=>(Ac st.sto nm).isNone&&Nat.blt nm 5000)=true/\K ((⟨st.env,AY d sto'++st.sto⟩:St).put d (Ca d r))):KT P GL f os d st K:=by
 subst zz;refine⟨hI,R,h,fun r s hr=>?_⟩;obtain⟨k1,k2⟩:=k r s hr;rw[List.all_eq_true]at k1;refine⟨fun nm hm=>?_,k2⟩;have:=k1 nm hm;rw[Bool.and_eq_true]at this;exact⟨by simpa using this.1,by simpa using this.2⟩
@[congr] theorem rZ{P:Program}{GL:List (Nat×List I)}{d:Nat}:@KT P GL f os d st K=@KT P GL f os d st K:=rfl
@[go_sem] theorem zp(N:List Nat)(st:St):(De N st []=True)/\(∀u r,De N st (u::r)=(HA N st (Af st.env u).nms/\De N st r))/\(HA N st []=True)/\(∀m r,HA N st (m::r)=((N.contains m=false/\IV (Ac st.sto m))/\HA N st r)):=⟨rfl,fun _ _=>rfl,rfl,fun _ _=>rfl⟩
@[go_sem] theorem zq:(IV none=False)/\(∀b,IV (some b)=(b.nms=[])):=⟨rfl,fun _=>rfl⟩
@[go_sem] theorem zt:(DI []=[])/\(∀q r,DI (q::r)=if 1000000<=q then(q-1000000)::DI r else DI r):=⟨rfl,fun q r=>by
 simp only[DI,List.filter_cons,decide_eq_true_eq];show _=if FS<=q then(q-FS)::_ else _
 split<;>simp⟩
end
@[go_sem] theorem zu(st:St)(K:St->Prop)(b:Blk)(d:Nat)(ls:List LK):Ix (some b) d ls st K=K (((st.frz d (.iter none [])).bind d (.map ls [])).put d (.ref (.mp d))):=rfl
@[go_sem] theorem zv(st:St)(d:Nat):wD none st d=[]:=rfl
@[go_sem] theorem zw(st:St)(d:Nat)(b:Blk):wD (some b) st d=DW st.sto [d]:=rfl
end Go.Dl
