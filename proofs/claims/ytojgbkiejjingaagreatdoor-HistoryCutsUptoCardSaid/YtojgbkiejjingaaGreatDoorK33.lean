/-
  Lemmas, no statement.
-/
import Derived.Test.YtojgbkiejjingaaGreatDoorK32
set_option linter.all false
namespace Go.Dl
open Go Go.RowKit
theorem xQ:(∀(a b:Nat),(some a).getD b=a)/\(∀(b:Nat),(none:Option Nat).getD b=b)/\(∀b:Blk,(some b).isSome=true)/\(∀b:Blk,(some b).isNone=false)/\((none:Option Blk).isSome=false)/\((none:Option Blk).isNone=true)/\
  (∀p:Nat->Bool,List.filter p []=[])/\(∀(p:Nat->Bool) a l,List.filter p (a::l)=if p a=true then a::List.filter p l else List.filter p l)/\(∀x:Nat,(x==x)=true)/\(∀b:Bool,(b||true)=true):=by
 and_intros<;>intros<;>first|rfl|(simp;done)|(rw[List.filter_cons])
theorem cn{α β:Type}(f:α->β)(l:List α):List.take l.length (List.map f l)=List.map f l:=List.take_of_length_le (by simp)
attribute [go_sem] xQ cn
theorem F3{rs:List RV}{given mv:List Nat}{R:D->List (Nat×Blk)->Prop}{st:St}(ks:List (Nat×Nat)){x:D}{s':List (Nat×Blk)}(hx:GE st rs=some x)(hs:BM (ks.map (·.1)) st.sto=s')(h1:Mo given mv ks=true)(h2:(Pq s' x.nms&&Ps s' s')=true)(h3:R (If (kf ks) x) (Ig (kf ks) s')):DJ rs given mv R st:=by
 subst hs;refine⟨[],ks,?_⟩;show match GE st rs with|some x=>_|none=>_
 rw[hx];rw[Bool.and_eq_true]at h2;exact⟨h1,h2,h3⟩
theorem YR:(∀o,BM o []=[])/\(∀o m b r,BM o ((m,b)::r)=if o.contains m then(m,b)::BM o r else BM o r)/\(∀m,kf [] m=m)/\(∀o n r m,kf ((o,n)::r) m=if o=m then n else kf r m)/\(∀f x,If f (.i x)=.i x)/\(∀f r,If f (.ref r)=.ref (Nv f r))/\(∀f nm k a b,Nv f (.sl nm k a b)=.sl (f nm) k a b)/\(∀f nm o,Nv f (.loc nm o)=.loc (f nm) o)/\(∀f nm,Nv f (.mp nm)=.mp (f nm))/\
  (∀f,Ig f []=[])/\(∀f m x r,Ig f ((m,x)::r)=(f m,KC f x)::Ig f r)/\(∀f e k rs,KC f (.rows e k rs)=.rows e k rs)/\(∀f ls es,KC f (.map ls es)=.map ls es)/\(∀f cs,KC f (.cells cs)=.cells (cs.map (If f))):=by
 and_intros<;>intros<;>first|rfl|(rename_i o m b r;simp[BM])
theorem co{rows:List (List I)}{neg:Bool}{d:Nat}{st:St}{K:St->Prop}(h1:rows=[]->∀b,K (st.put d (.i (.bool b))))(h2:rows≠[]->K (st.put d (.i (.bool (false !=neg))))):B4 .sl neg (.i (.sl rows)) d st K:=by
 cases rows with
 |nil=>exact h1 rfl
 |cons a r=>exact h2 (by simp)
def QD(a:Option Cp)(b:Option (List Cp)):Option (List Cp):=match a,b with|some x,some xs=>some (x::xs)|_,_=>none
def JZ(GL:List (Nat×List I))(st:St):List O->Option (List Cp)
 |[]=>some []
 |o::r=>QD (BE (AL GL st o)) (JZ GL st r)
theorem cq(GL:List (Nat×List I))(st:St)(l:List O):(l.mapM fun o=>BE (AL GL st o))=JZ GL st l:=by
 induction l with
 |nil=>rfl
 |cons o r ih=>rw[List.mapM_cons,ih];simp only[JZ];cases BE (AL GL st o)<;>cases JZ GL st r<;>rfl
theorem xR(GL:List (Nat×List I))(st:St):(JZ GL st []=some [])/\(∀o r,JZ GL st (o::r)=QD (BE (AL GL st o)) (JZ GL st r)):=⟨rfl,fun _ _=>rfl⟩
theorem xS:(∀x xs,QD (some x) (some xs)=some (x::xs))/\(∀p:Cp->Bool,[].all p=true)/\(∀(p:Cp->Bool) x l,(x::l).all p=(p x&&l.all p)):=⟨fun _ _=>rfl,fun _=>rfl,fun _ _ _=>rfl⟩
attribute [go_sem] cq xR xS
def AR{κ α:Type}[DecidableEq κ]:List (κ×α)->κ->Option α
 |[],_=>none
 |p::r,k=>if p.1=k then some p.2 else AR r k
def BG{κ α:Type}[DecidableEq κ]:List (κ×α)->κ->α->List (κ×α)
 |[],k,v=>[(k,v)]
 |p::r,k,v=>if p.1=k then(k,v)::r else p::BG r k v
section
variable {κ α:Type}[DecidableEq κ]{eK:κ->I}{f:α->I}
def KZ(eK:κ->I):Prop:=∀a b,(A1 (eK a)==A1 (eK b))=decide (a=b)
theorem cr(h:KZ eK)(l:List (κ×α))(k:κ):FG (l.map fun p=>(eK p.1,f p.2)) (eK k)=(AR l k).map f:=by
 induction l with
 |nil=>rfl
 |cons p r ih=>simp only[FG,List.map_cons,List.find?_cons,h p.1 k,AR]at ih⊢;grind
theorem QE(h:KZ eK)(l:List (κ×α))(k:κ)(v:α):Dp (l.map fun p=>(eK p.1,f p.2)) (eK k) (f v)=(BG l k v).map fun p=>(eK p.1,f p.2):=by
 induction l with
 |nil=>rfl
 |cons p r ih=>simp only[Dp,List.map_cons,h p.1 k,BG];grind
theorem QF(h:KZ eK)(l:List (κ×α))(k:κ)(z:α):CB (l.map fun p=>(eK p.1,f p.2)) (eK k) (f z) false=f ((AR l k).getD z):=by simp_all[CB,cr,AR]
theorem U2(l:List (κ×α))(k q:κ)(v:α):AR (BG l k v) q=if q=k then some v else AR l q:=by
 induction l with
 |nil=>simp only[BG,AR];by_cases e:k=q<;>simp[e,eq_comm]
 |cons p r ih=>
  simp only[BG];by_cases e:p.1=k
  ·simp only[e,if_true,AR];grind
  ·simp only[e,if_false,AR,ih];grind
theorem Mx(l:List (κ×α))(k:κ)(v:α):(BG l k v).map (·.1)=if k∈l.map (·.1)then l.map (·.1)else l.map (·.1)++[k]:=by
 induction l with
 |nil=>simp[BG]
 |cons p r ih=>simp only[BG];grind
theorem U3{l:List (κ×α)}{k:κ}{v:α}(h:AR l k=some v):(k,v)∈l:=by
 induction l with
 |nil=>cases h
 |cons p r ih=>grind[AR]
theorem aget_some{l:List (κ×α)}{k:κ}(h:k∈l.map (·.1)):∃v,AR l k=some v:=by
 induction l with
 |nil=>simp at h
 |cons p r ih=>
  simp only[AR];by_cases e:p.1=k
  ·exact⟨_,by rw[if_pos e]⟩
  ·simp only[List.map_cons,List.mem_cons]at h;obtain⟨v,hv⟩:=ih (h.resolve_left (Ne.symm e));exact⟨v,by rw[if_neg e];exact hv⟩
end
theorem U4:KZ I.str:=fun a b=>by grind[A1,cellsI,CZ]
end Go.Dl
