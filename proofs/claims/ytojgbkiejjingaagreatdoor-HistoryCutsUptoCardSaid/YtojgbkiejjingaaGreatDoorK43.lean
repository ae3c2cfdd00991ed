/-
  Lemmas, no statement.
-/
import Derived.Test.YtojgbkiejjingaaGreatDoorK42
set_option linter.all false
set_option maxRecDepth 100000
set_option maxHeartbeats 8000000
namespace Go.Proofs.YtojgbkiejjingaaGreatDoor
open Go Go.Dl Go.As Go.Proofs
variable {mx:Int}
attribute[local irreducible] Ah Aj MC W W2 FA ev evD step Ae
section
theorem Ru{l:List Bs}{s:Bs}{k:Nat}(h:cutS l s=k):Cr l s=if k<l.length/\l.getD k default=s then l else l.take k++[s]++l.drop k:=by rw[<-h];rfl
theorem Rv{α:Type}(f:α->List I){l:List α}{s:α}{k:Nat}(h:k<=l.length):List.take (k+1+(l.length-k)) (List.take (k+1) (List.map f (List.take k l)++[f s])++List.map f (List.drop k l))=List.map f (List.take k l++[s]++List.drop k l):=by have e1:List.take (k+1) (List.map f (List.take k l)++[f s])=List.map f (List.take k l)++[f s]:=List.take_of_length_le (by simp;omega);rw[e1,List.take_of_length_le (by simp;omega),List.map_append,List.map_append];rfl
theorem Rx(l:List Bs)(s:Bs)(hl:l.length<=1073741823):Is mx 306 [.sl (l.map Bn),.str s] (.sl ((Cr l s).map Bn)):=by
 refine MX fi ?_
 (repeat' first|simp(disch:=omega)only[go_sem,simprocAttr]|fail)
 refine AA [0,1] (by simp only[V0,G4,reduceIte,Nat.reduceEqDiff];rfl) (fun k:Nat=>[(5,.i (iI k))]) (fun _=>[])
  (fun k=>k<=l.length/\(l.take k).all (fun y=>Op.bytesLess y s)=true) (fun k=>l.length-k) 0 (by simp) (by simp[V0,Fz,GF]) ?_
 rintro k ⟨hk,jj⟩;by_cases jn:k<l.length
 ·cases km:Op.bytesLess (l.getD k default) s
  ·have kw:cutS l s=k:=HL jj hk (.inr km);by_cases wm:l.getD k default=s
   ·have jp:Cr l s=l:=by rw[Ru kw,if_pos ⟨jn,wm⟩]
    rw[jp]
    (repeat' first|simp(disch:=omega)only[go_sem,simprocAttr,Ck jn,km,eq_true wm,Nat.zero_add]|refine Aa ?_|refine Sz.s ?_|fail)
   ·have jp:Cr l s=l.take k++[s]++l.drop k:=by rw[Ru kw,if_neg];rintro⟨_,h⟩;exact wm h
    rw[jp];have wh:min k l.length=k:=by omega
    have hleT:(k<=l.length)=True:=eq_true (by omega)
    (repeat' first|simp(disch:=omega)only[go_sem,simprocAttr,Ck jn,km,eq_false wm,<-List.map_take,<-List.map_drop,OH,OI,MP,MQ,List.length_map,List.length_take,List.length_drop,Nat.zero_add,Nat.sub_zero,Nat.min_self,List.take_length,List.take_take,wh]|refine Aa ?_|refine Sz.s ?_|(refine And.intro ?_ ?_;focus omega))
    exact congrArg I.sl (Rv Bn hk)
  ·(repeat' first|simp(disch:=omega)only[go_sem,simprocAttr,Ck jn,km,Nat.zero_add]|refine Aa ?_|fail)
   exact⟨k+1,⟨by omega,BO (d:=default) jj jn km⟩,by omega,rfl⟩
 ·have kw:cutS l s=k:=HL jj hk (.inl (by omega));have jp:Cr l s=l.take k++[s]++l.drop k:=by rw[Ru kw,if_neg];omega
  rw[jp];have wh:min k l.length=k:=by omega
  have hleT:(k<=l.length)=True:=eq_true (by omega)
  (repeat' first|simp(disch:=omega)only[go_sem,simprocAttr,Ie jn,<-List.map_take,<-List.map_drop,OH,OI,MP,MQ,List.length_map,List.length_take,List.length_drop,Nat.zero_add,Nat.sub_zero,Nat.min_self,List.take_length,List.take_take,wh]|refine Aa ?_|refine Sz.s ?_|(refine And.intro ?_ ?_;focus omega))
  exact congrArg I.sl (Rv Bn hk)
mutual
def Gd:Xpr->List Bs×List Bs->List Bs×List Bs
 |.mk k _ n t _ _ _ _ a,acc=>dirRs a (if k=3\/k=4 then Cr acc.1 n else acc.1,if k=5 then Cr acc.2 t else acc.2)
def dirRs:List Xpr->List Bs×List Bs->List Bs×List Bs
 |[],acc=>acc
 |x::r,acc=>dirRs r (Gd x acc)
end
def Kj(x:Xpr)(acc:List Bs×List Bs):List Bs×List Bs:=(if x.kind=3\/x.kind=4 then Cr acc.1 x.name else acc.1,if x.kind=5 then Cr acc.2 x.table else acc.2)
theorem WU(x:Xpr)(acc:List Bs×List Bs):Gd x acc=dirRs x.args (Kj x acc):=by cases x;rfl
theorem WV(x:Xpr)(acc:List Bs×List Bs):(Kj x acc).1.length<=acc.1.length+1/\(Kj x acc).2.length<=acc.2.length+1:=by grind[Ra,Kj]
mutual
theorem Ry:∀(x:Xpr) (acc:List Bs×List Bs),(Gd x acc).1.length<=acc.1.length+BT x/\(Gd x acc).2.length<=acc.2.length+BT x
 |.mk k o n t v u p w a,acc=>by have h1:=WV (.mk k o n t v u p w a) acc;have h2:=dirRs_len a (Kj (.mk k o n t v u p w a) acc);rw[WU];have h3:=F5 (.mk k o n t v u p w a);simp only[Xpr.args]at h3⊢;omega
theorem dirRs_len:∀(a:List Xpr) (acc:List Bs×List Bs),(dirRs a acc).1.length<=acc.1.length+sizeXs a/\(dirRs a acc).2.length<=acc.2.length+sizeXs a
 |[],acc=>by simp[dirRs,sizeXs]
 |x::r,acc=>by have h1:=Ry x acc;have h2:=dirRs_len r (Gd x acc);grind[dirRs,sizeXs]
end
theorem lH(l:List Xpr)(i:Nat)(h:i<l.length)(acc:List Bs×List Bs):dirRs (l.take (i+1)) acc=Gd (l.getD i default) (dirRs (l.take i) acc):=by
 induction l generalizing i acc with
 |nil=>simp at h
 |cons x r ih=>
  cases i with
  |zero=>simp[dirRs]
  |succ i=>simp only[List.take_succ_cons,dirRs,List.getD_cons_succ];exact ih i (by simpa using h) _
def O2(r:List Bs×List Bs):I:=.tup [.sl (r.1.map Bn),.sl (r.2.map Bn)]
theorem lI:∀(m:Nat) (x:Xpr) (acc:List Bs×List Bs),BT x<=m->acc.1.length+BT x<=1073741823->acc.2.length+BT x<=1073741823->Is mx 308 [.agg (eE x),.sl (acc.1.map Bn),.sl (acc.2.map Bn)] (O2 (Gd x acc)):=by
 intro m
 induction m with
 |zero=>intro x acc h;have:=GJ x;omega
 |succ m ih=>
  intro x acc hm qr qm;have js:=F5 x;have je:=On x.args;have hp:=GJ x;have h1:=Rx (mx:=mx) acc.1 x.name (by omega);have h2:=Rx (mx:=mx) acc.2 x.table (by omega);have hH:=WV x acc;rw[WU];have hd:Kj x acc=(if x.kind=3\/x.kind=4 then Cr acc.1 x.name else acc.1,if x.kind=5 then Cr acc.2 x.table else acc.2):=rfl;generalize Kj x acc=q at hH hd;refine MX fk ?_
  (repeat' first|simp(disch:=omega)only[go_sem,simprocAttr]|fail)
  refine Dl.cutS [2,3] (by simp only[V0,G4,reduceIte,Nat.reduceEqDiff];rfl) [(1,.i (.sl (q.1.map Bn)))] [] True ?_ (fun _=>?_)
  ·rw[hd]
   (repeat' first|exact Al _|simp(disch:=omega)only[go_sem,simprocAttr]|refine' Ao (fun hq=>?_) (fun f=>?_)<;>try(have jc:=hq;try simp only[HB]at jc)|refine Sx.s ?_ ?_<;>try(intro h;have h':=h;try simp only[HB]at h';try rewrite [h];try simp only[h])|refine Ab (h1) ?_|fail)
   ·rw[if_pos h']
   ·rw[if_neg (by omega)]
  (repeat' first|simp(disch:=omega)only[go_sem,simprocAttr]|fail)
  refine Dl.cutS [1,3] (by simp only[V0,G4,reduceIte,Nat.reduceEqDiff];rfl) [(2,.i (.sl (q.2.map Bn)))] [] True ?_ (fun _=>?_)
  ·rw[hd]
   (repeat' first|simp(disch:=omega)only[go_sem,simprocAttr]|refine Sx.s ?_ ?_<;>try(intro h;have h':=h;try simp only[HB]at h';try rewrite [h];try simp only[h])|refine Ab (h2) ?_|fail)
   ·rw[if_pos h']
   ·rw[if_neg h']
  (repeat' first|simp(disch:=omega)only[go_sem,simprocAttr]|fail)
  refine CP [3] (by simp only[V0,G4,reduceIte,Nat.reduceEqDiff];rfl) (fun i=>[(8,.i (iI i)),(1,.i (.sl ((dirRs (x.args.take i) q).1.map Bn))),(2,.i (.sl ((dirRs (x.args.take i) q).2.map Bn)))]) (fun _=>[]) (fun _=>True) x.args.length 0 (by omega) trivial (by simp[V0,Fz,GF,dirRs]) ?_;intro i hi _;have ji:=HH x.args (i+1);have hle0:=HH x.args i;have zA:=dirRs_len (x.args.take i) q;by_cases ja:i<x.args.length
  ·have hsi:=J5 x.args i ja;rw[<-A7 ja]at hsi;have i1:=ih (x.args.getD i default) (dirRs (x.args.take i) q) (by omega) (by omega) (by omega);have hT:=lH x.args i ja q
   (repeat' first|simp(disch:=omega)only[go_sem,simprocAttr,Ck ja,O2]|refine Sx.s ?_ ?_<;>try(intro h;have h':=h;try simp only[HB]at h';try rewrite [h];try simp only[h])|refine Ab (i1) ?_|refine Aa ?_|(refine And.intro ?_ ?_;focus omega))
   rw[hT];exact⟨rfl,rfl⟩
  ·have e:x.args.take i=x.args:=List.take_of_length_le (by omega);rw[e]
   (repeat' first|simp(disch:=omega)only[go_sem,simprocAttr,Ie ja,O2]|refine Aa ?_|refine Sz.s ?_|fail)
end
section
def Ll(b:Bool)(nm:Nat)(l:List Bs):D:=if b=true then .i (.sl (l.map Bn))else .ref (.sl nm 1 0 0)
def Lm(b:Bool)(nm:Nat):List (Nat×Blk):=if b=true then[]else[(nm,.rows 9 1 [])]
def GV(l:List Ftr)(acc:List Bs):List Bs:=l.foldl (fun acc f=>Cr acc f.name) acc
def D7(c:Cat):List Bs:=GV c.features []
theorem Rz:∀(l:List Ftr) (acc:List Bs),(GV l acc).length<=acc.length+l.length
 |[],acc=>by simp[GV]
 |f::r,acc=>by have h1:=Rz r (Cr acc f.name);grind[Ra,GV]
theorem lJ(l:List Ftr)(i:Nat)(h:i<l.length)(acc:List Bs):GV (l.take (i+1)) acc=Cr (GV (l.take i) acc) (l.getD i default).name:=by rw[List.take_succ_eq_append_getElem h,GV,List.foldl_append,A7 h];rfl
theorem lK(c:Cat)(hc:c.features.length<=1073741823):Is mx 271 [.agg (Aw c)] (.sl ((D7 c).map Bn)):=by
 refine MX eX ?_
 (repeat' first|simp(disch:=omega)only[go_sem,reduceCtorEq,Nat.reduceEqDiff]|fail)
 refine AA [1] (by simp only[V0,G4,reduceIte,Nat.reduceEqDiff];rfl) (fun g:Bool×Nat=>[(3,Ll g.1 3 (GV (c.features.take g.2) [])),(4,.i (iI g.2))]) (fun g=>Lm g.1 3)
  (fun g=>g.2<=c.features.length/\(g.1=false->g.2=0)) (fun g=>c.features.length-g.2) (false,0) (by simp) (by simp[Ll,Lm,V0,Fz,GF,Ref.nm]) ?_
 rintro⟨b,i⟩ ⟨hi,hb⟩;simp only at hi hb;have je:=Rz (c.features.take i) [];rw[List.length_take,List.length_nil]at je;by_cases ja:i<c.features.length
 ·have h1:=Rx (mx:=mx) (GV (c.features.take i) []) (c.features.getD i default).name (by omega);rw[<-lJ _ _ ja]at h1;cases b
  ·obtain rfl:=hb rfl;simp only[Ll,Lm];simp only[List.take_zero,GV,List.foldl_nil,List.map_nil]at h1
   (repeat' first|simp(disch:=omega)only[go_sem,Nat.reduceAdd,Nat.reduceEqDiff,Nat.reduceLeDiff,Ck ja,if_true,if_false,Bool.false_eq_true]|refine Ab (h1) ?_|refine Aa ?_|refine HD ?_ ?_|fail)
   exact⟨(true,1),⟨ja,by simp⟩,by show c.features.length-1<_;omega,⟨rfl,rfl⟩,trivial,rfl,rfl⟩
  ·simp only[Ll,Lm]
   (repeat' first|simp(disch:=omega)only[go_sem,Nat.reduceAdd,Nat.reduceEqDiff,Nat.reduceLeDiff,Ck ja,if_true,if_false]|refine Ab (h1) ?_|refine Aa ?_|refine HD ?_ ?_|fail)
   exact⟨(true,i+1),⟨ja,by simp⟩,by show c.features.length-(i+1)<_;omega,⟨rfl,rfl⟩,trivial,rfl,rfl⟩
 ·have e:c.features.take i=c.features:=List.take_of_length_le (by omega);rw[e];cases b
  ·obtain rfl:=hb rfl;have e2:c.features=[]:=List.eq_nil_of_length_eq_zero (by omega);simp only[Ll,Lm,D7,e2]
   (repeat' first|simp(disch:=omega)only[go_sem,Nat.reduceAdd,Nat.reduceEqDiff,Nat.reduceLeDiff,if_true,if_false,Bool.false_eq_true,List.length_nil,Int.lt_irrefl]|refine Aa ?_|refine CD (R:=Sf _) ?_|fail)
   all_goals(try rfl)
  ·simp only[Ll,Lm,D7]
   (repeat' first|simp(disch:=omega)only[go_sem,Nat.reduceAdd,Nat.reduceEqDiff,Nat.reduceLeDiff,Ie ja,if_true,if_false]|refine Aa ?_|refine CD (R:=Sf _) ?_|fail)
def HQ(c:Cat)(name:Bs):Xpr:=((Dz c.features name).getD CI).body
def Je(c:Cat)(name:Bs):List Bs:=(Gd (HQ c name) ([],[])).1.filter fun n=>(Dz c.features n).isSome
theorem WW{c:Cat}(hc:AV c<=1073741824)(name:Bs):bX (HQ c name)<=1073741823:=by
 unfold HQ Dz;cases h:c.features.find? fun f=>decide (f.name=name)with
 |none=>simp;decide
 |some f=>grind[Ch,B0,Bc,Ja]
theorem M6{α:Type}[Inhabited α](p:α->Bool)(l:List α)(i:Nat)(h:i<l.length):(l.take (i+1)).filter p=if p (l.getD i default)=true then(l.take i).filter p++[l.getD i default]else(l.take i).filter p:=by rw[List.take_succ_eq_append_getElem h,List.filter_append,A7 h];grind
theorem lL(c:Cat)(name:Bs)(hc:AV c<=1073741824):Is mx 272 [.agg (Aw c),.str name] (.sl ((Je c name).map Bn)):=by
 have hcf:c.features.length<=1073741824:=by grind[Ch,Fj]
 have zI:=WW hc name;have js:=MF (HQ c name);have h1:=WT (mx:=mx) c name hcf;have h2:=lI (mx:=mx) _ (HQ c name) ([],[]) (Nat.le_refl _) (by simp;omega) (by simp;omega);have zA:=Ry (HQ c name) ([],[]);have hR:Je c name=(Gd (HQ c name) ([],[])).1.filter fun n=>(Dz c.features n).isSome:=rfl
 simp only[List.length_nil,Nat.zero_add]at zA;unfold HQ at h2 hR zA js zI;generalize hF:(Dz c.features name).getD CI=F at h2 hR zA js zI;generalize (Gd F.body ([],[]))=q at h2 hR zA;rw[hR];simp only[Lk,hF,List.map_nil]at h1 h2;refine MX eY ?_
 (repeat' first|simp(disch:=omega)only[go_sem,reduceCtorEq,Nat.reduceAdd,Nat.reduceEqDiff,Nat.reduceLeDiff,Nat.reduceLT,O2]|refine Ab (h1) ?_|refine Ab (h2) ?_|refine HD ?_ ?_|fail)
 refine AA [2,7] (by simp only[V0,G4,reduceIte,Nat.reduceEqDiff];rfl) (fun i:Nat=>[(9,.ref (.sl 9 1 0 ((q.1.take i).filter fun n=>(Dz c.features n).isSome).length)),(10,.i (iI i))]) (fun i=>[(9,.rows 9 1 (((q.1.take i).filter fun n=>(Dz c.features n).isSome).map Bn))])
  (fun i=>i<=q.1.length) (fun i=>q.1.length-i) 0 (by simp) (by simp[V0,Fz,GF,Ref.nm]) ?_
 intro i hi;have wg:((q.1.take i).filter fun n=>(Dz c.features n).isSome).length<=i:=Nat.le_trans (List.length_filter_le _ _) (by simp;omega);by_cases ja:i<q.1.length
 ·have h3:=WT (mx:=mx) c (q.1.getD i default) hcf;have w5:=M6 (fun n=>(Dz c.features n).isSome) q.1 i ja;generalize (q.1.take i).filter (fun n=>(Dz c.features n).isSome)=acc at w5 wg;cases hs:(Dz c.features (q.1.getD i default)).isSome
  ·rw[if_neg (by rw[hs];simp)]at w5
   (repeat' first|simp(disch:=omega)only[go_sem,Nat.reduceAdd,Nat.reduceEqDiff,Nat.reduceLT,Ck ja,Lk,hs]|refine Ab (h3) ?_|refine Aa ?_|refine Am ?_|fail)
   exact⟨i+1,by omega,by omega,by rw[w5];exact⟨rfl,rfl⟩,by rw[w5]⟩
  ·rw[if_pos hs]at w5
   (repeat' first|simp(disch:=omega)only[go_sem,Nat.reduceAdd,Nat.reduceEqDiff,Nat.reduceLeDiff,Nat.reduceLT,Ck ja,Lk,hs,MP,MQ,Nat.sub_zero]|refine Ab (h3) ?_|refine Aa ?_|refine Am ?_|(refine And.intro ?_ ?_;focus omega))
   exact⟨i+1,by omega,by omega,by rw[w5];exact⟨by simp,rfl⟩,by rw[w5];simp⟩
 ·have e:q.1.take i=q.1:=List.take_of_length_le (by omega);rw[e]
  (repeat' first|simp(disch:=omega)only[go_sem,Nat.reduceEqDiff,Ie ja,List.length_map]|refine Aa ?_|refine CD (R:=Sf _) ?_|fail)
  all_goals(try rfl)
end
section
abbrev GW(k:Nat):List I:=[iI (k:Int)]
abbrev M7(r:List Nat):List I:=[.sl (r.map GW)]
def M8(ns:List Bs)(l:List Bs):List Nat:=(List.range ns.length).filter fun k=>BQ l (ns.getD k default)
def rl(c:Cat)(ns:List Bs):List (List Nat):=ns.map fun n=>M8 ns (Je c n)
theorem lM(ns:List Bs)(l:List Bs)(k:Nat):((List.range (k+1)).filter fun k=>BQ l (ns.getD k default))=if BQ l (ns.getD k default)=true then((List.range k).filter fun k=>BQ l (ns.getD k default))++[k]else((List.range k).filter fun k=>BQ l (ns.getD k default)):=by rw[List.range_succ,List.filter_append];grind
theorem lN(c:Cat)(hc:AV c<=1073741823)(hn:(D7 c).length<=1073741823)(hnx:∀n,(Je c n).length<=1073741823):Is mx 239 [.agg (Aw c)] (.tup [.sl ((D7 c).map Bn),.sl ((rl c (D7 c)).map M7)]):=by
 have hcf:c.features.length<=1073741823:=by grind[Ch,Fj]
 have h1:=lK (mx:=mx) c hcf;generalize hns:D7 c=ns at h1 hn;refine MX eF ?_
 (repeat' first|simp(disch:=omega)only[go_sem,simprocAttr]|refine Sx.s ?_ ?_<;>try(intro h;have h':=h;try simp only[HB]at h';try rewrite [h];try simp only[h])|refine Ab (h1) ?_|fail)
 refine AA [1,4] (by simp only[V0,G4,reduceIte,Nat.reduceEqDiff];rfl) (fun i:Nat=>[(5,.ref (.sl 5 1 0 i)),(6,.i (iI i))]) (fun i=>[(5,.rows 152 1 (((rl c ns).take i).map M7))])
  (fun i=>i<=ns.length) (fun i=>ns.length-i) 0 (by simp) (by simp[V0,Fz,GF,Ref.nm]) ?_
 intro i hi;have hla:((rl c ns).take i).length=i:=by grind[rl]
 by_cases ja:i<ns.length
 ·have h2:=lL (mx:=mx) c (ns.getD i default) (by omega);have hl2:=hnx (ns.getD i default);have hto:(rl c ns).take (i+1)=(rl c ns).take i++[M8 ns (Je c (ns.getD i default))]:=by simp only[rl];rw[<-List.map_take,<-List.map_take,List.take_succ_eq_append_getElem ja,List.map_append,A7 ja];rfl
  generalize Je c (ns.getD i default)=nx at h2 hl2 hto
  (repeat' first|simp(disch:=omega)only[go_sem,simprocAttr,Ck ja]|refine Ab (h2) ?_|refine Aa ?_|refine Am ?_|fail)
  refine AA [1,4,5,6,7] (by simp only[V0,G4,reduceIte,Nat.reduceEqDiff];rfl) (fun k:Nat=>[(8,.ref (.sl 8 1 0 ((List.range k).filter fun k=>BQ nx (ns.getD k default)).length)),(9,.i (iI k))]) (fun k=>[(8,.rows 3 1 (((List.range k).filter fun k=>BQ nx (ns.getD k default)).map GW)),(5,.rows 152 1 (((rl c ns).take i).map M7))])
   (fun k=>k<=ns.length) (fun k=>ns.length-k) 0 (by simp) (by simp[V0,Fz,GF,Ref.nm]) ?_
  intro k hk;have wg:((List.range k).filter fun k=>BQ nx (ns.getD k default)).length<=k:=Nat.le_trans (List.length_filter_le _ _) (by simp);by_cases jn:k<ns.length
  ·have h3:=lG (mx:=mx) nx (ns.getD k default) (by omega);have wp:=lM ns nx k;generalize w6:(List.range k).filter (fun k=>BQ nx (ns.getD k default))=acc at wp wg;cases hs:BQ nx (ns.getD k default)
   ·rw[if_neg (by rw[hs];simp)]at wp
    (repeat' first|simp(disch:=omega)only[go_sem,simprocAttr,Ck jn,hs]|refine Sx.s ?_ ?_<;>try(intro h;have h':=h;try simp only[HB]at h';try rewrite [h];try simp only[h])|refine Ab (h3) ?_|refine Aa ?_|fail)
    exact⟨k+1,by omega,by omega,by rw[wp];exact⟨rfl,rfl⟩,by rw[wp]⟩
   ·rw[if_pos hs]at wp
    (repeat' first|simp(disch:=omega)only[go_sem,simprocAttr,Ck jn,hs,Nat.sub_zero]|refine Sx.s ?_ ?_<;>try(intro h;have h':=h;try simp only[HB]at h';try rewrite [h];try simp only[h])|refine Ab (h3) ?_|refine Aa ?_|fail)
    refine⟨by simp,by simp[I.one],by omega,by omega,k+1,by omega,by omega,by rw[wp];exact⟨by simp,rfl⟩,by rw[wp];simp[]⟩
  ·have qy:k=ns.length:=by omega
   have hadj:(List.range ns.length).filter (fun k=>BQ nx (ns.getD k default))=M8 ns nx:=rfl;rw[qy,hadj];have hnF:¬ns.length<ns.length:=by omega
   have hlm:((M8 ns nx).map GW).length=(M8 ns nx).length:=by simp
   (repeat' first|simp(disch:=omega)only[go_sem,simprocAttr,Ie hnF,Nat.sub_zero,hlm,hla]|refine Aa ?_|fail)
   refine⟨by simp,by simp[I.one],by omega,by omega,i+1,by omega,by omega,⟨rfl,rfl⟩,?_⟩;rw[hto];simp[List.take_take]
 ·have e:(rl c ns).take i=rl c ns:=List.take_of_length_le (by simp[rl];omega);rw[e];rw[e]at hla
  (repeat' first|simp(disch:=omega)only[go_sem,simprocAttr,Ie ja,hla]|refine Aa ?_|refine Sz.s ?_|fail)
  rw[List.take_of_length_le (by simp;omega)]
def lO(target:Nat)(d:List Nat)(t:Nat):Nat:=if t=target then 1 else d.getD t 0+1
def CJ(target i:Nat)(d:List Nat)(t:Nat):List Nat:=if lO target d t<d.getD i 0 then d.set i (lO target d t)else d
def Cs(target i:Nat)(r:List Nat)(d:List Nat):List Nat:=r.foldl (CJ target i) d
def BI(to:List (List Nat))(target n:Nat)(d:List Nat):List Nat:=(List.range n).foldl (fun d i=>Cs target i (to.getD i []) d) d
def B6:List Nat->Nat
 |[]=>0
 |a::r=>a+B6 r
theorem WX:∀(d:List Nat) (i v:Nat),i<d.length->B6 (d.set i v)+d.getD i 0=B6 d+v
 |[],i,v,h=>by simp at h
 |a::r,0,v,h=>by grind[B6]
 |a::r,i+1,v,h=>by have:=WX r i v (by simpa using h);grind[B6]
theorem lP(target i:Nat)(d:List Nat)(t:Nat):(CJ target i d t).length=d.length:=by grind[CJ]
theorem RA(target i:Nat)(d:List Nat)(t:Nat):B6 (CJ target i d t)<=B6 d/\(CJ target i d t≠d->B6 (CJ target i d t)<B6 d):=by grind[B6,WX,CJ]
theorem RB(target i:Nat):∀(r:List Nat) (d:List Nat),(Cs target i r d).length=d.length
 |[],d=>rfl
 |t::r,d=>by simp only[Cs,List.foldl_cons];have:=RB target i r (CJ target i d t);rw[Cs]at this;rw[this,lP]
theorem M9(target i:Nat):∀(r:List Nat) (d:List Nat),B6 (Cs target i r d)<=B6 d/\(Cs target i r d≠d->B6 (Cs target i r d)<B6 d)
 |[],d=>⟨Nat.le_refl _,fun h=>(h rfl).elim⟩
 |t::r,d=>by have h1:=RA target i d t;have h2:=M9 target i r (CJ target i d t);grind[Cs,CJ]
theorem Ln(to:List (List Nat))(target n:Nat)(d:List Nat):BI to target (n+1) d=Cs target n (to.getD n []) (BI to target n d):=by simp only[BI,List.range_succ,List.foldl_append,List.foldl_cons,List.foldl_nil]
theorem RC(to:List (List Nat))(target:Nat):∀(n:Nat) (d:List Nat),(BI to target n d).length=d.length
 |0,d=>rfl
 |n+1,d=>by rw[Ln,RB,RC to target n d]
theorem Kk(to:List (List Nat))(target:Nat):∀(n:Nat) (d:List Nat),B6 (BI to target n d)<=B6 d/\(BI to target n d≠d->B6 (BI to target n d)<B6 d)
 |0,d=>⟨Nat.le_refl _,fun h=>(h rfl).elim⟩
 |n+1,d=>by have h1:=Kk to target n d;grind[M9,BI,Ln]
def DP(to:List (List Nat))(target:Nat):Nat->List Nat->List Nat
 |0,d=>d
 |f+1,d=>if BI to target to.length d=d then d else DP to target f (BI to target to.length d)
theorem WY(to:List (List Nat))(target:Nat):∀(f:Nat) (d:List Nat),B6 d<=f->BI to target to.length (DP to target f d)=DP to target f d
 |0,d,h=>by
  have:=(Kk to target to.length d);rcases Classical.em (BI to target to.length d=d)with e|e
  ·exact e
  ·have:=this.2 e;omega
 |f+1,d,h=>by
  unfold DP;split
  ·assumption
  ·rename_i jh;have:=(Kk to target to.length d).2 jh;exact WY to target f _ (by omega)
theorem WZ(to:List (List Nat))(target:Nat):∀(f:Nat) (d:List Nat),B6 d<=f->DP to target f d=if BI to target to.length d=d then d else DP to target f (BI to target to.length d)
 |0,d,h=>by
  split
  ·rfl
  ·rename_i jh;have:=(Kk to target to.length d).2 jh;omega
 |f+1,d,h=>by
  rw[DP];split
  ·rfl
  ·rename_i jh;have jl:=(Kk to target to.length d).2 jh;rw[WZ to target f _ (by omega),DP]
def Bf(to:List (List Nat))(target:Nat):List Nat:=DP to target (1000*to.length) (List.replicate to.length 1000)
end
section
def GX(d:List Nat):Prop:=∀x∈d,x<=1000
theorem lQ{target i:Nat}{d:List Nat}{t:Nat}(h:GX d):GX (CJ target i d t):=by
 unfold CJ;split
 ·rename_i jl;intro x hx;rcases List.mem_or_eq_of_mem_set hx with e|e
  ·exact h x e
  ·have:d.getD i 0<=1000:=by
    rcases Nat.lt_or_ge i d.length with q|q
    ·rw[List.getD,List.getElem?_eq_getElem q];exact h _ (List.getElem_mem q)
    all_goals grind
   omega
 ·exact h
theorem RD{target i:Nat}:∀{r:List Nat} {d:List Nat},GX d->GX (Cs target i r d)
 |[],d,h=>h
 |t::r,d,h=>RD (target:=target) (i:=i) (r:=r) (d:=CJ target i d t) (lQ h)
theorem RE{to:List (List Nat)}{target:Nat}:∀{n:Nat} {d:List Nat},GX d->GX (BI to target n d)
 |0,d,h=>h
 |n+1,d,h=>by rw[Ln];exact RD (RE h)
theorem lR(target i:Nat)(r d:List Nat)(k:Nat)(h:k<r.length):Cs target i (r.take (k+1)) d=CJ target i (Cs target i (r.take k) d) (r.getD k default):=by rw[List.take_succ_eq_append_getElem h,Cs,List.foldl_append,A7 h];rfl
theorem W0(n v:Nat):B6 (List.replicate n v)=n*v:=by
 induction n with
 |zero=>simp[B6]
 |succ n ih=>rw[List.replicate_succ,B6,ih,Nat.succ_mul];omega
def HR(n i:Nat):List Nat:=List.replicate i 1000++List.replicate (n-i) 0
theorem lS{n i:Nat}(h:i<n):(HR n i).set i 1000=HR n (i+1):=by unfold HR;rw[show n-i=(n-(i+1))+1 by omega,List.replicate_succ,List.set_append_right _ _ (by simp)];simp only[List.length_replicate,Nat.sub_self,List.set_cons_zero];rw[List.replicate_succ',List.append_assoc];rfl
theorem W1(to:List (List Nat))(target:Nat)(hn:to.length<=1000000)(ht:target<to.length)(hr:∀r∈to,r.length<=1000000/\∀t∈r,t<to.length):Is mx 240 [.sl (to.map M7),iI target] (.sl ((Bf to target).map GW)):=by
 refine MX eG ?_
 (repeat' first|simp(disch:=omega)only[go_sem,simprocAttr]|(refine And.intro ?_ ?_;focus omega))
 refine AA [0,1,5] (by simp only[V0,G4,reduceIte,Nat.reduceEqDiff];rfl) (fun i:Nat=>[(6,.i (iI i))]) (fun i=>[(13,.rows 3 1 ((HR to.length i).map GW))])
  (fun i=>i<=to.length) (fun i=>to.length-i) 0 (by simp) (by simp[V0,Fz,GF,Ref.nm,HR]) ?_
 intro i hi;have wg:(HR to.length i).length=to.length:=by grind[HR]
 by_cases ja:i<to.length
 ·(repeat' first|simp(disch:=omega)only[go_sem,simprocAttr,Ck ja,wg]|refine Aa ?_|(refine And.intro ?_ ?_;focus omega))
  refine⟨i+1,by omega,by omega,rfl,?_⟩;rw[Nat.zero_add,<-lS ja,List.map_set];rfl
 ·have hii:i=to.length:=by omega
  subst hii;have hf:HR to.length to.length=List.replicate to.length 1000:=by simp[HR]
  rw[hf]
  (repeat' first|simp(disch:=omega)only[go_sem,simprocAttr,Ie ja]|refine Aa ?_|fail)
  refine AA [0,1,5] (by simp only[V0,G4,reduceIte,Nat.reduceEqDiff];rfl) (fun g:Bool×List Nat=>[(7,.i (.bool g.1))]) (fun g=>[(13,.rows 3 1 (g.2.map GW))])
   (fun g=>g.2.length=to.length/\GX g.2/\B6 g.2<=1000*to.length/\(g.1=true->DP to target (1000*to.length) g.2=Bf to target)/\(g.1=false->g.2=Bf to target)) (fun g=>if g.1=true then B6 g.2+1 else 0) (true,List.replicate to.length 1000)
   ⟨by simp,(fun x hx=>by rw[List.eq_of_mem_replicate hx];omega),by rw[W0];omega,fun _=>rfl,by simp⟩ (by simp[V0,Fz,GF,Ref.nm]) ?_
  rintro⟨b,d⟩ ⟨zA,ji,zM,qr,qm⟩;simp only at zA ji zM qr qm;cases b
  ·have hd:=qm rfl;rw[<-hd];have hleT:(to.length<=d.length)=True:=eq_true (by omega)
   (repeat' first|simp(disch:=omega)only[go_sem,simprocAttr,hleT]|refine Aa ?_|refine Sz.s ?_|fail)
   rw[List.take_of_length_le (by rw[List.length_map,zA];exact Nat.le_refl _)]
  ·have jk:=WZ to target (1000*to.length) d zM;rw[qr rfl]at jk
   (repeat' first|simp(disch:=omega)only[go_sem,simprocAttr]|refine Aa ?_|fail)
   refine AA [0,1,5] (by simp only[V0,G4,reduceIte,Nat.reduceEqDiff];rfl) (fun i:Nat=>[(7,.i (.bool (!decide (BI to target i d=d)))),(8,.i (iI i))]) (fun i=>[(13,.rows 3 1 ((BI to target i d).map GW))])
    (fun i=>i<=to.length) (fun i=>to.length-i) 0 (by simp) (by simp[V0,Fz,GF,Ref.nm,BI]) ?_
   intro i hi;have hDl:=RC to target i d;have hDle:=RE (to:=to) (target:=target) (n:=i) ji;have hDs:=Kk to target i d;by_cases ja:i<to.length
   ·have ka:=hr _ (AE ja);have hss:=Ln to target i d;have ki:to.getD i []=to.getD i default:=rfl;rw[ki]at hss;generalize hrw:to.getD i default=row at ka hss;generalize hD:BI to target i d=D at hDl hDle hDs hss
    (repeat' first|simp(disch:=omega)only[go_sem,simprocAttr,Ck ja]|refine Aa ?_|fail)
    refine AA [0,1,5,8] (by simp only[V0,G4,reduceIte,Nat.reduceEqDiff];rfl) (fun k:Nat=>[(7,.i (.bool (!decide (Cs target i (row.take k) D=d)))),(9,.i (iI k))]) (fun k=>[(13,.rows 3 1 ((Cs target i (row.take k) D).map GW))])
     (fun k=>k<=row.length) (fun k=>row.length-k) 0 (by simp) (by simp[V0,Fz,GF,Ref.nm,Cs];try rfl) ?_
    intro k hk;have hEl:=RB target i (row.take k) D;have hEle:=RD (target:=target) (i:=i) (r:=row.take k) hDle;have hEs:=M9 target i (row.take k) D;by_cases jn:k<row.length
    ·have hrt:=lR target i row D k jn;have hti:=ka.2 _ (AE jn);generalize Cs target i (row.take k) D=E at hEl hEle hEs hrt;generalize hgt:row.getD k default=t at hti hrt;have hEn:E.length=to.length:=by omega
     have htE:t<E.length:=by omega
     have hiE:i<E.length:=by omega
     have hv:=hEle _ (AE htE);have hw:=hEle _ (AE hiE);have hvia:lO target E t=if t=target then 1 else E.getD t default+1:=rfl
     have hx1:=RA target i E t;have hgi:E.getD i 0=E.getD i default:=rfl;have hx2:CJ target i E t=if lO target E t<E.getD i default then E.set i (lO target E t)else E:=rfl
     have jx:∀v:Nat,(E.map GW).set i [I.int .i64 (v:Int)]=(E.set i v).map GW:=fun v=>by simp
     have hwr:IntKind.i64.wrap (((E.getD t default:Nat):Int)+1)=((E.getD t default+1:Nat):Int):=CE (by omega) (by omega);have hup:∀v,lO target E t=v->v<E.getD i default->Cs target i (row.take (k+1)) D=E.set i v/\(!decide (Cs target i (row.take (k+1)) D=d))=true:=fun v hv1 hv2=>by grind
     have hno:¬lO target E t<E.getD i default->Cs target i (row.take (k+1)) D=E:=fun hv1=>by grind
     have htT:(t<to.length)=True:=eq_true hti;have hiT:(i<to.length)=True:=eq_true ja
     (repeat' first|simp(disch:=omega)only[go_sem,simprocAttr,Ck ja,Ck jn,hrw,hgt,Ck hti,hEn,htT,hiT,Nat.zero_add,Nat.sub_zero]|refine Sx.s ?_ ?_<;>try(intro h;have h':=h;try simp only[HB]at h';try rewrite [h];try simp only[h])|refine Aa ?_|fail)
     ·obtain⟨e1,e2⟩:=hup 1 (by rw[hvia,if_pos (by omega)]) (by omega);exact⟨k+1,by omega,by omega,⟨by rw[e2],rfl⟩,by rw[e1,<-jx];rfl⟩
     ·have e1:=hno (by rw[hvia,if_pos (by omega)];omega);exact⟨k+1,by omega,by omega,⟨by rw[e1],rfl⟩,by rw[e1]⟩
     ·obtain⟨e1,e2⟩:=hup (E.getD t default+1) (by rw[hvia,if_neg (by omega)]) (by omega);exact⟨k+1,by omega,by omega,⟨by rw[e2],rfl⟩,by rw[e1,<-jx];rfl⟩
     ·have e1:=hno (by rw[hvia,if_neg (by omega)];omega);exact⟨k+1,by omega,by omega,⟨by rw[e1],rfl⟩,by rw[e1]⟩
    ·have e:row.take k=row:=List.take_of_length_le (by omega);rw[e]
     (repeat' first|simp(disch:=omega)only[go_sem,simprocAttr,Ck ja,Ie jn,hrw]|refine Aa ?_|fail)
     refine⟨i+1,by omega,by omega,?_,?_⟩
     ·rw[hss];exact⟨rfl,rfl⟩
     ·rw[hss]
   ·have hii:i=to.length:=by omega
    subst hii
    (repeat' first|simp(disch:=omega)only[go_sem,simprocAttr,Ie ja]|refine Aa ?_|fail)
    refine⟨(!decide (BI to target to.length d=d),BI to target to.length d),⟨by show(BI to target to.length d).length=_;omega,hDle,by show B6 (BI to target to.length d)<=_;omega,?_,?_⟩,?_,rfl,rfl⟩
    ·intro hq;simp only[Bool.not_eq_true',decide_eq_false_iff_not]at hq;rw[if_neg hq]at jk;exact jk.symm
    ·intro hq;simp only[Bool.not_eq_false',decide_eq_true_eq]at hq;rw[if_pos hq]at jk;show BI to target to.length d=_;rw[hq,<-jk]
    ·by_cases hq:BI to target to.length d=d
     ·simp[hq]
     ·have:=hDs.2 hq;simp[hq];exact this
end
section
theorem W3(to:List (List Nat))(target:Nat):∀(f:Nat) (d:List Nat),(DP to target f d).length=d.length
 |0,d=>rfl
 |f+1,d=>by
  unfold DP;split
  ·rfl
  ·rw[W3 to target f,RC]
theorem W4{to:List (List Nat)}{target:Nat}:∀{f:Nat} {d:List Nat},GX d->GX (DP to target f d)
 |0,d,h=>h
 |f+1,d,h=>by
  unfold DP;split
  ·exact h
  ·exact W4 (RE h)
theorem RF(to:List (List Nat))(target:Nat):(Bf to target).length=to.length:=by simp[Bf,W3]
theorem W5(to:List (List Nat))(target:Nat):GX (Bf to target):=W4 fun x hx=>by grind
theorem lT(to:List (List Nat))(target:Nat):BI to target to.length (Bf to target)=Bf to target:=WY _ _ _ _ (by rw[W0,Nat.mul_comm];exact Nat.le_refl _)
theorem W6(to:List (List Nat))(target:Nat):∀(n:Nat) (d:List Nat),BI to target n d=d->∀i,i<n->Cs target i (to.getD i []) d=d
 |0,d,h,i,hi=>by omega
 |n+1,d,h,i,hi=>by
  have h1:=Kk to target n d;have h2:=M9 target n (to.getD n []) (BI to target n d);rw[Ln]at h;have e:BI to target n d=d:=by
   refine Classical.byContradiction fun hq=>?_
   have:=h1.2 hq;rw[h]at h2;omega
  rw[e]at h;by_cases jr:i=n
  ·rw[jr];exact h
  ·exact W6 to target n d e i (by omega)
theorem W7(target i:Nat):∀(r:List Nat) (d:List Nat),Cs target i r d=d->∀t∈r,CJ target i d t=d
 |[],d,h,t,ht=>by simp at ht
 |s::r,d,h,t,ht=>by
  have h1:=RA target i d s;have h2:=M9 target i r (CJ target i d s);have hh:Cs target i r (CJ target i d s)=d:=h;have e:CJ target i d s=d:=by
   refine Classical.byContradiction fun hq=>?_
   have:=h1.2 hq;rw[hh]at h2;omega
  rcases List.mem_cons.1 ht with e1|e1
  ·rw[e1];exact e
  ·rw[e]at hh;exact W7 target i r d hh t e1
theorem lU(target:Nat)(d:List Nat)(t:Nat):1<=lO target d t:=by grind[lO]
theorem lV{to:List (List Nat)}{target i t:Nat}(hi:i<to.length)(ht:t∈to.getD i []):(Bf to target).getD i 0<=lO target (Bf to target) t:=by have h1:=W7 target i _ _ (W6 to target to.length _ (lT to target) i hi) t ht;grind[CJ,Bf,lO]
def HS(to:List (List Nat))(target:Nat)(d:List Nat):Prop:=∀i,i<d.length->1<=d.getD i 0/\(d.getD i 0=1000\/∃t∈to.getD i [],lO target d t<=d.getD i 0)
theorem getD_set(d:List Nat)(i j v:Nat)(hj:j<d.length):(d.set i v).getD j 0=if i=j then v else d.getD j 0:=by grind
theorem W8{target:Nat}{d:List Nat}{i v t:Nat}(hv:v<d.getD i 0):lO target (d.set i v) t<=lO target d t:=by grind[lO]
theorem lW{to:List (List Nat)}{target i t:Nat}{d:List Nat}(h:HS to target d)(ht:t∈to.getD i []):HS to target (CJ target i d t):=by
 unfold CJ;split
 ·rename_i jl;intro j hj;have jt:j<d.length:=by simpa using hj
  rw[getD_set _ _ _ _ jt];split
  ·rename_i e;exact⟨lU _ _ _,.inr ⟨t,by rw[<-e];exact ht,W8 jl⟩⟩
  ·obtain⟨h1,h2⟩:=h j jt;refine⟨h1,h2.imp id ?_⟩;rintro⟨u,hu1,hu2⟩;exact⟨u,hu1,Nat.le_trans (W8 jl) hu2⟩
 ·exact h
theorem W9{to:List (List Nat)}{target i:Nat}:∀(r:List Nat) {d:List Nat},HS to target d->(∀t∈r,t∈to.getD i [])->HS to target (Cs target i r d)
 |[],d,h,_=>h
 |s::r,d,h,hs=>W9 r (lW h (hs s List.mem_cons_self)) fun t ht=>hs t (List.mem_cons_of_mem _ ht)
theorem Xa{to:List (List Nat)}{target:Nat}:∀(n:Nat) {d:List Nat},HS to target d->HS to target (BI to target n d)
 |0,d,h=>h
 |n+1,d,h=>by rw[Ln];exact W9 _ (Xa n h) fun t ht=>ht
theorem Xb{to:List (List Nat)}{target:Nat}:∀{f:Nat} {d:List Nat},HS to target d->HS to target (DP to target f d)
 |0,d,h=>h
 |f+1,d,h=>by
  unfold DP;split
  ·exact h
  ·exact Xb (Xa _ h)
theorem Xc(to:List (List Nat))(target:Nat):HS to target (Bf to target):=by
 refine Xb fun i hi=>?_
 grind
def Ci(to:List (List Nat)):Nat->Int×Nat
 |0=>(-1,1000)
 |i+1=>if(Bf to i).getD i 0<(Ci to i).2 then((i:Int),(Bf to i).getD i 0)else Ci to i
theorem Xd(to:List (List Nat)):∀n,((Ci to n).1=-1/\(Ci to n).2=1000)\/(∃i:Nat,(Ci to n).1=(i:Int)/\i<n/\(Ci to n).2=(Bf to i).getD i 0/\(Ci to n).2<1000)
 |0=>.inl ⟨rfl,rfl⟩
 |n+1=>by
  have h:=Xd to n;simp only[Ci];split
  ·rename_i jl;refine .inr ⟨n,rfl,by omega,rfl,?_⟩;rcases h with⟨_,h⟩|⟨_,_,_,_,h⟩<;>(simp only;omega)
  ·rcases h with⟨h1,h2⟩|⟨i,h1,h2,h3,h4⟩
   ·exact .inl ⟨h1,h2⟩
   ·exact .inr ⟨i,h1,by omega,h3,h4⟩
def Kl(to:List (List Nat))(d:List Nat)(at_ n:Nat):Nat:=((to.getD at_ []).takeWhile fun t=>!decide (d.getD t 0=n)).length
def Km(to:List (List Nat))(d:List Nat):Nat->Nat->List Nat
 |0,_=>[]
 |n+1,at_=>(to.getD at_ []).getD (Kl to d at_ (n+1)) 0::Km to d n ((to.getD at_ []).getD (Kl to d at_ (n+1)) 0)
def RG(ns:List Bs)(to:List (List Nat)):List Bs:=
 if(Ci to ns.length).1<0 then[]else
  ns.getD (Ci to ns.length).1.toNat default::(Km to (Bf to (Ci to ns.length).1.toNat) ((Ci to ns.length).2-1) (Ci to ns.length).1.toNat).map fun k=>ns.getD k default
theorem lX{to:List (List Nat)}{target at_ n:Nat}(hi:at_<to.length)(hd:(Bf to target).getD at_ 0=n+1)(hn:1<=n)(h999:n+1<1000):
  Kl to (Bf to target) at_ n<(to.getD at_ []).length/\(Bf to target).getD ((to.getD at_ []).getD (Kl to (Bf to target) at_ n) 0) 0=n:=by
 obtain⟨_,h2⟩:=Xc to target at_ (by rw[RF];exact hi);rcases h2 with h2|⟨t,ht,h2⟩
 ·omega
 ·have h3:=lV (target:=target) hi ht;have hv:lO target (Bf to target) t=n+1:=by omega
  have ht2:(Bf to target).getD t 0=n:=by grind[lO]
  have qh:∃x∈to.getD at_ [],¬(fun t=>!decide ((Bf to target).getD t 0=n)) x=true:=⟨t,ht,by show¬(!decide ((Bf to target).getD t 0=n))=true;rw[decide_eq_true ht2];decide⟩;unfold Kl;generalize to.getD at_ []=row at qh;clear h2 h3 ht
  induction row with
  |nil=>obtain⟨x,hx,_⟩:=qh;simp at hx
  |cons a r ih=>
   by_cases ha:(Bf to target).getD a 0=n
   ·rw[List.takeWhile_cons,if_neg (by rw[decide_eq_true ha];decide)];exact⟨by simp,ha⟩
   ·rw[List.takeWhile_cons,if_pos (by rw[decide_eq_false ha];rfl)];obtain⟨x,hx,hx2⟩:=qh;rcases List.mem_cons.1 hx with e|e
    ·subst e;exact absurd (Classical.byContradiction fun hq=>hx2 (by show(!decide ((Bf to target).getD x 0=n))=true;rw[decide_eq_false hq];rfl)) ha
    ·have:=ih ⟨x,e,hx2⟩;simp only[List.length_cons,List.getD_cons_succ];exact⟨by omega,this.2⟩
end
section
@[go_sem] theorem uW(d e k:Nat)(rows:List (List I))(st:St)(K:St->Prop):Iz none d e k rows st K=K ((st.bind d (.rows e k rows)).put d (.ref (.sl d k 0 rows.length))):=rfl
theorem O3{α:Type}[Inhabited α]{p:α->Bool}{l:List α}{i:Nat}(h:(l.take i).all p=true)(hi:i<l.length)(hp:p (l.getD i default)=false):(l.takeWhile p).length=i:=HL h (by omega) (.inr hp)
theorem lY(c:Cat)(ns:List Bs)(to:List (List Nat))(hn:ns.length<=1000000)(hnt:ns.length=to.length)(hr:∀r∈to,r.length<=1000000/\∀t∈r,t<to.length)
  (h1:Is mx 239 [.agg (Aw c)] (.tup [.sl (ns.map Bn),.sl (to.map M7)])):Is mx 185 [.agg (Aw c)] (.sl ((RG ns to).map Bn)):=by
 refine MX dP ?_
 (repeat' first|simp(disch:=omega)only[go_sem,simprocAttr]|refine Sx.s ?_ ?_<;>try(intro h;have h':=h;try simp only[HB]at h';try rewrite [h];try simp only[h])|refine Ab (h1) ?_|fail)
 refine AA [3,4] (by simp only[V0,G4,reduceIte,Nat.reduceEqDiff];rfl) (fun i:Nat=>[(5,.i (iI (Ci to i).1)),(6,.i (iI ((Ci to i).2:Int))),(7,.i (iI i))]) (fun _=>[])
  (fun i=>i<=ns.length) (fun i=>ns.length-i) 0 (by simp) (by simp[V0,Fz,GF,Ci]) ?_
 intro i hi;by_cases ja:i<ns.length
 ·have hit:i<to.length:=by omega
  have h2:=W1 (mx:=mx) to i (by omega) hit hr;have je:=RF to i;have ji:=W5 to i;have hb:Ci to (i+1)=if(Bf to i).getD i 0<(Ci to i).2 then((i:Int),(Bf to i).getD i 0)else Ci to i:=rfl
  have hgi:(Bf to i).getD i 0=(Bf to i).getD i default:=rfl;have hlT:((i:Int)<((Bf to i).length:Int))=True:=eq_true (by omega);have hnT:(i<(Bf to i).length)=True:=eq_true (by omega);have hv:=ji _ (AE (n:=i) (l:=Bf to i) (by omega));rw[hgi]at hb;generalize Bf to i=d at h2 je ji hb hlT hnT hv
  (repeat' first|simp(disch:=omega)only[go_sem,simprocAttr,Ck ja,hlT]|refine Sx.s ?_ ?_<;>try(intro h;have h':=h;try simp only[HB]at h';try rewrite [h];try simp only[h])|refine Ab (h2) ?_|refine Aa ?_|fail)
  ·rw[if_pos (by omega)]at hb;exact⟨i+1,by omega,by omega,by rw[hb],by rw[hb],rfl⟩
  ·rw[if_neg (by omega)]at hb;exact⟨i+1,by omega,by omega,by rw[hb],by rw[hb],rfl⟩
 ·have jr:i=ns.length:=by omega
  subst jr;have hC:RG ns to=if(Ci to ns.length).1<0 then[]else
   ns.getD (Ci to ns.length).1.toNat default::(Km to (Bf to (Ci to ns.length).1.toNat) ((Ci to ns.length).2-1) (Ci to ns.length).1.toNat).map fun k=>ns.getD k default:=rfl
  rcases Xd to ns.length with⟨qr,qm⟩|⟨b,qr,qm,hb3,hb4⟩
  ·rw[if_pos (by omega)]at hC;rw[hC]
   (repeat' first|simp(disch:=omega)only[go_sem,simprocAttr,Ie ja,qr,qm]|refine Aa ?_|refine Sz.s ?_|fail)
  ·rw[if_neg (by omega),qr,Int.toNat_natCast]at hC;generalize hq:(Ci to ns.length).2=q at hC hb3 hb4;have hbt:b<to.length:=by omega
   have h2:=W1 (mx:=mx) to b (by omega) hbt hr;have je:=RF to b;have ji:=W5 to b;have hnx:=fun(a n:Nat)=>lX (to:=to) (target:=b) (at_:=a) (n:=n)
   have hq1:1<=q:=by have:=(Xc to b b (by omega)).1;omega
   generalize Bf to b=d at h2 je ji hnx hC hb3;have hbF:((b:Int)<0)=False:=eq_false (by omega);rw[hC];have hq12:((q-1:Nat):Int)=(q:Int)-1:=by omega
   (repeat' first|simp(disch:=omega)only[go_sem,simprocAttr,Ie ja,qr,hbF,Ck qm,Bn]|refine Sx.s ?_ ?_<;>try(intro h;have h':=h;try simp only[HB]at h';try rewrite [h];try simp only[h])|refine Ab (h2) ?_|refine Aa ?_|fail)
   refine AA [3,4,9] (by simp only[V0,G4,reduceIte,Nat.reduceEqDiff];rfl) (fun g:Nat×Nat×List Bs=>[(10,.ref (.sl 45 1 0 g.2.2.length)),(11,.i (iI g.2.1)),(12,.i (iI g.1))]) (fun g=>[(45,.rows 9 1 (g.2.2.map Bn))])
    (fun g=>(g.1<1000/\1<=g.2.2.length)/\g.2.1<to.length/\d.getD g.2.1 0=g.1+1/\g.2.2.length+g.1=q/\g.2.2++(Km to d g.1 g.2.1).map (fun k=>ns.getD k default)=ns.getD b default::(Km to d (q-1) b).map fun k=>ns.getD k default) (fun g=>g.1) (q-1,b,[ns.getD b default])
    ⟨⟨by show q-1<_;omega,Nat.le_refl _⟩,hbt,by show d.getD b 0=q-1+1;omega,by show 1+(q-1)=q;omega,rfl⟩ (by simp[V0,Fz,GF,Ref.nm];omega) ?_
   rintro⟨n,a,acc⟩ ⟨⟨hn1,hn0⟩,ha,hda,hal,w6⟩;simp only at hn1 hn0 ha hda hal w6;have han:a<ns.length:=by omega
   cases n with
   |zero=>
    simp only[Km,List.map_nil,List.append_nil]at w6;have htl:List.take acc.length (acc.map Bn)=acc.map Bn:=List.take_of_length_le (by simp)
    (repeat' first|simp(disch:=omega)only[go_sem,simprocAttr,Int.natCast_zero,Int.lt_irrefl,htl]|refine Aa ?_|refine Sz.s ?_|fail)
    rw[w6];rfl
   |succ n=>
    have hx:=hnx a (n+1) ha hda (by omega) (by omega);have hga:to.getD a []=to.getD a default:=rfl;simp only[Km,List.map_cons]at w6;rw[hga]at hx w6;have ka:=hr _ (AE ha);have hp:(0:Int)<(n:Int)+1:=by omega
    have hnextd:Kl to d a (n+1)=((to.getD a default).takeWhile fun t=>!decide (d.getD t 0=n+1)).length:=rfl;generalize Kl to d a (n+1)=j at hx w6 hnextd;generalize hrw:to.getD a default=row at hx w6 ka hnextd
    (repeat' first|simp(disch:=omega)only[go_sem,simprocAttr,eq_true hp]|refine Aa ?_|fail)
    refine AA [3,4,9,10,11,12] (by simp only[V0,G4,reduceIte,Nat.reduceEqDiff];rfl) (fun k:Nat=>[(13,.i (iI k))]) (fun _=>[(45,.rows 9 1 (acc.map Bn))])
     (fun k=>k<=j/\(row.take k).all (fun t=>!decide (d.getD t 0=n+1))=true) (fun k=>j-k) 0 (by simp) (by simp[V0,Fz,GF,Ref.nm]) ?_
    rintro k ⟨hk,jj⟩;have hkr:k<row.length:=by omega
    have ht:=ka.2 _ (AE hkr);have htT:(row.getD k default<to.length)=True:=eq_true ht;have htN:(row.getD k default<ns.length)=True:=eq_true (by omega);have ki:∀t,d.getD t 0=d.getD t default:=fun _=>rfl
    by_cases he:d.getD (row.getD k default) default=n+1
    ·have hjk:j=k:=by grind[O3]
     subst hjk;have heT:((d.getD (row.getD j default) default:Int)=(n:Int)+1)=True:=eq_true (by omega);have hgr:row.getD j 0=row.getD j default:=rfl;rw[hgr]at w6;generalize hgt:row.getD j default=t at ht htT htN he heT w6;have htT2:(t<to.length)=True:=eq_true ht;have htN2:(t<ns.length)=True:=eq_true (by omega)
     (repeat' first|simp(disch:=omega)only[go_sem,simprocAttr,Ck ha,Ck hkr,hrw,hgt,Ck ht,je,hnt,Nat.sub_zero]|refine Sx.s ?_ ?_<;>try(intro h;have h':=h;try simp only[HB]at h';try rewrite [h];try simp only[h])|refine Aa ?_|fail)
     ·exfalso;omega
     ·exact⟨by simp,by simp[I.one],by omega,by omega,(n,t,acc++[ns.getD t default]),⟨⟨by show n<1000;omega,by simp⟩,ht,by show d.getD t 0=n+1;exact he,by simp;omega,by rw[<-w6,List.append_assoc];rfl⟩,by show n<n+1;omega,⟨by simp,rfl,by show D.i (I.int .i64 ((n:Int)+1-1))=D.i (iI n);congr 2;omega⟩,by simp⟩
    ·have heF:((d.getD (row.getD k default) default:Int)=(n:Int)+1)=False:=eq_false (by omega);generalize hgt:row.getD k default=t at ht htT htN he heF;have htT2:(t<to.length)=True:=eq_true ht
     (repeat' first|simp(disch:=omega)only[go_sem,simprocAttr,Ck ha,Ck hkr,hrw,hgt,Ck ht,je,Nat.sub_zero]|refine Sx.s ?_ ?_<;>try(intro h;have h':=h;try simp only[HB]at h';try rewrite [h];try simp only[h])|refine Aa ?_|(refine And.intro ?_ ?_;focus omega))
     ·exact⟨k+1,⟨by
       have:j≠k:=fun e=>he (by
        subst e;have:=hx.2;rw[show row.getD j 0=t from hgt]at this;exact this)
       omega,BO (d:=default) jj hkr (by show(!decide (d.getD (row.getD k default) 0=n+1))=true;rw[hgt];exact(by rw[decide_eq_false he];rfl:(!decide (d.getD t default=n+1))=true))⟩,by
       have:j≠k:=fun e=>he (by
        subst e;have:=hx.2;rw[show row.getD j 0=t from hgt]at this;exact this)
       omega,rfl⟩
     ·exfalso;omega
end
section
def Lo(c:Cat):List Bs:=RG (D7 c) (rl c (D7 c))
theorem lZ{c:Cat}(hc:AV c<=1073741823)(n:Bs):(Je c n).length<=1073741823:=by grind[Ry,HQ,WW,MF,Je,Gd]
theorem l4(c:Cat)(hc:AV c<=1073741823)(hf:c.features.length<=1000):Is mx 185 [.agg (Aw c)] (.sl ((Lo c).map Bn)):=by
 have hn:(D7 c).length<=c.features.length:=by grind[Rz,D7]
 have hl:(rl c (D7 c)).length=(D7 c).length:=by simp[rl]
 refine lY c (D7 c) (rl c (D7 c)) (by omega) hl.symm ?_ (lN c hc (by omega) (lZ hc));intro r hr;obtain⟨s,_,rfl⟩:=List.mem_map.1 hr;refine⟨Nat.le_trans (List.length_filter_le _ _) (by simp;omega),fun t ht=>?_⟩;rw[hl];have:=(List.mem_filter.1 ht).1;grind
def C8(c:Cat):List Ftr:=c.features++c.drafts++c.past
theorem EV(f:Ftr):(At f).length=18:=by obtain⟨_,_,_,b,_⟩:=f;cases b;simp[At,AM,eE]
theorem EW(f:Ftr):(At f).all I.one=true:=by obtain⟨_,_,_,b,_⟩:=f;cases b;simp[At,AM,eE,I.one]
theorem l5(c:Cat)(h1:c.features.length<=1073741)(h2:c.drafts.length<=1073741)(h3:c.past.length<=1073741):Is mx 182 [.agg (Aw c)] (.sl ((C8 c).map At)):=by
 have ha:=BH c.features EV EW;have hb:=BH c.drafts EV EW;have hp:=BH c.past EV EW;have t1:List.take (c.features.length+c.drafts.length) (c.features.map At++c.drafts.map At)=c.features.map At++c.drafts.map At:=List.take_of_length_le (by simp);have t2:List.take (c.features.length+c.drafts.length+c.past.length) (c.features.map At++c.drafts.map At++c.past.map At)=c.features.map At++c.drafts.map At++c.past.map At:=List.take_of_length_le (by simp;omega);refine MX dL ?_
 (repeat' first|simp(disch:=omega)only[go_sem,simprocAttr,eq_true ha.1,eq_true ha.2,eq_true hb.1,eq_true hb.2,eq_true hp.1,eq_true hp.2,Nat.zero_add,Nat.sub_zero,List.length_map,List.length_append,List.length_nil,t1,t2]|refine Sz.s ?_|(refine And.intro ?_ ?_;focus omega))
 simp only[C8,List.map_append]
def rp(a b:Bs):Bool:=Op.bytesLess a b||decide (a=b)
def wJ(p:Option Bs)(n:Bs):Bool:=match p with|none=>false|some m=>rp n m
def Fp:Option Bs->List Tbl->Int
 |_,[]=>0
 |p,t::r=>if ES t≠0 then ES t else if wJ p t.name=true then 1 else Fp (some t.name) r
theorem Xe(p:Option Bs)(t:Tbl)(r:List Tbl):Fp p (t::r)=if ES t≠0 then ES t else if wJ p t.name=true then 1 else Fp (some t.name) r:=rfl
def Ex(l:List Tbl)(i:Nat):Option Bs:=if i=0 then none else some (l.getD (i-1) default).name
theorem l6(c:Cat)(hc:AV c<=1073741824):Is mx 181 [.agg (Aw c)] (iI (Fp none c.tables)):=by
 have hl:c.tables.length<=1073741824:=by grind[Ch,HM]
 refine MX dK ?_
 (repeat' first|simp(disch:=omega)only[go_sem,simprocAttr]|fail)
 refine AA [1] (by simp only[V0,G4,reduceIte,Nat.reduceEqDiff];rfl) (fun i:Nat=>[(3,.i (iI i))]) (fun _=>[])
  (fun i=>i<=c.tables.length/\Fp (Ex c.tables i) (c.tables.drop i)=Fp none c.tables) (fun i=>c.tables.length-i) 0 ⟨by omega,rfl⟩ (by simp[V0,Fz,GF]) ?_
 rintro i ⟨hi,jb⟩;by_cases ja:i<c.tables.length
 ·have hm:=AE ja;have hb:CW (c.tables.getD i default)<=1073741824:=by grind[Ch,B0,CW]
  have h1:=kC (mx:=mx) (c.tables.getD i default) (fun f hf=>by have h1:=GR (c.tables.getD i default);have h2:=B0 (b:=EN) hf;have h3:=MS f;omega) (by have h1:=GR (c.tables.getD i default);have:=OP (c.tables.getD i default).fields;omega);rw[EP ja,Xe]at jb;have hnx:Ex c.tables (i+1)=some (c.tables.getD i default).name:=by simp[Ex]
  rw[<-hnx]at jb;by_cases h0:i=0
  ·subst h0;have hp0:wJ (Ex c.tables 0) (c.tables.getD 0 default).name=false:=rfl;simp only[hp0,Bool.false_eq_true,if_false]at jb;have hz:(0:Int)<(c.tables.length:Int):=by omega
   (repeat' first|simp(disch:=omega)only[go_sem,simprocAttr,eq_true hz,Int.natCast_zero,Int.lt_irrefl]|refine Sx.s ?_ ?_<;>try(intro h;have h':=h;try simp only[HB]at h';try rewrite [h];try simp only[h])|refine Ab (h1) ?_|refine Aa ?_|refine Am ?_|refine Sz.s ?_|fail)
   ·rw[if_pos h']at jb;rw[<-jb]
   ·rw[if_neg (by omega)]at jb;exact⟨1,⟨ja,by rw[<-jb]⟩,by omega,rfl⟩
  ·have hpr:Ex c.tables i=some (c.tables.getD (i-1) default).name:=by simp[Ex,h0]
   have hg:wJ (Ex c.tables i) (c.tables.getD i default).name=(Op.bytesLess (c.tables.getD i default).name (c.tables.getD (i-1) default).name||decide ((c.tables.getD i default).name=(c.tables.getD (i-1) default).name)):=by rw[hpr];rfl
   rw[hg]at jb;have jy:(0:Int)<(i:Int):=by omega
   have ky:((i:Int)-1).toNat=i-1:=by omega
   have kz:(i:Int)-1=((i-1:Nat):Int):=by omega
   have zP:i-1<c.tables.length:=by omega
   (repeat' first|simp(disch:=omega)only[go_sem,simprocAttr,Ck ja,eq_true jy,kz,Ck zP]|refine Sx.s ?_ ?_<;>try(intro h;have h':=h;try simp only[HB]at h';try rewrite [h];try simp only[h])|refine Ab (h1) ?_|refine Aa ?_|refine Am ?_|refine Sz.s ?_|fail)
   ·rw[if_pos h']at jb;rw[<-jb]
   ·rw[if_neg (by omega),if_pos h]at jb;rw[<-jb]
   ·rw[if_neg (by omega),if_neg (by rw[h];simp)]at jb;exact⟨i+1,⟨by omega,jb⟩,by omega,rfl⟩
 ·rw[List.drop_eq_nil_of_le (by omega),show∀p,Fp p []=0 from fun p=>by cases p<;>rfl]at jb;rw[<-jb]
  (repeat' first|simp(disch:=omega)only[go_sem,simprocAttr,Ie ja]|refine Aa ?_|refine Sz.s ?_|fail)
def HT(f:Ftr):Int:=if(!(CH f.name&&CH f.entity)||decide (f.version<1)||decide (1099511627776<f.version))=true then 1 else if D6 f.typ≠0 then D6 f.typ else HP f.body
theorem l7(f:Ftr)(hf:Bc f<=1073741824):Is mx 183 [.agg (At f)] (iI (HT f)):=by
 have h0:=Ja f;have h4:DM f.typ=Ag AX f.typ.unit+f.typ.of.length+1:=rfl;have hl:=EL f.typ.unit;have h1:=WC (mx:=mx) f.body (by omega);have h2:=OU (mx:=mx) f.typ (by omega) (fun y hy=>by have h1:=B0 (b:=AX) (l:=f.typ.unit) hy;have h2:AX y=y.name.length+1:=rfl;omega);have hR:=HT.eq_1 f;refine MX dM ?_
 (repeat' first|exact Al _|simp(disch:=omega)only[go_sem,simprocAttr]|refine' Ao (fun hq=>?_) (fun f=>?_)<;>try(have jc:=hq;try simp only[HB]at jc)|refine Sx.s ?_ ?_<;>try(intro h;have h':=h;try simp only[HB]at h';try rewrite [h];try simp only[h])|refine Ab (GP _) ?_|refine Ab (h1) ?_|refine Ab (h2) ?_|refine Aa ?_|refine Sz.s ?_|fail)
 all_goals(refine congrArg (I.int .i64) ?_;rw[hR];first|done|(grind(splits:=20)))
end
section
def HU(f:Ftr)(g:Ftr):Bool:=decide (g.name=f.name)&&decide (g.version=f.version)
def Na(nf np i:Nat):Bool:=decide (i=0)||decide (i=nf)||decide (i=np)
def HV(nf np i:Nat)(p f:Ftr):Bool:= !Na nf np i&&(Op.bytesLess f.name p.name||decide (i<np)&&decide (f.name=p.name))
def Fq(nf np:Nat):List Ftr->List Ftr->Int
 |_,[]=>0
 |seen,f::r=>if HT f≠0 then HT f else if HV nf np seen.length (seen.getD (seen.length-1) default) f=true then 1 else if seen.any (HU f)=true then 121 else Fq nf np (seen++[f]) r
theorem l8(nf np:Nat)(s:List Ftr):Fq nf np s []=0:=by rfl
theorem l9(nf np:Nat)(seen:List Ftr)(f:Ftr)(r:List Ftr):Fq nf np seen (f::r)=if HT f≠0 then HT f else if HV nf np seen.length (seen.getD (seen.length-1) default) f=true then 1 else if seen.any (HU f)=true then 121 else Fq nf np (seen++[f]) r:=by rfl
def Fr(c:Cat):List Ftr->Int
 |[]=>0
 |f::r=>if GT c f≠0 then GT c f else Fr c r
def HW(c:Cat):Int:=
 if 16<c.tables.length\/32<c.features.length\/32<c.drafts.length\/32<c.past.length then 2
 else if Fp none c.tables≠0 then Fp none c.tables
 else if Fq c.features.length (c.features.length+c.drafts.length) [] (C8 c)≠0 then Fq c.features.length (c.features.length+c.drafts.length) [] (C8 c)
 else if Fr c c.features≠0 then Fr c c.features
 else if Lo c≠[]then 120 else 0
theorem ma{c:Cat}(hc:AV c<=1073741823){f:Ftr}(h:f∈C8 c):Bc f<=1073741823:=by grind[Ch,C8,B0,Bc]
theorem mb{α:Type}[Inhabited α]{l:List α}{i j:Nat}(h:j<i)(hi:i<=l.length):(l.take i).getD j default=l.getD j default:=by grind
theorem CR{α:Type}[Inhabited α]{l:List α}{i:Nat}(h:i<l.length):l.take (i+1)=l.take i++[l.getD i default]:=by simp_all
theorem mc(c:Cat)(hc:AV c<=1073741823):Is mx 129 [.agg (Aw c)] (iI (HW c)):=by
 have hR:=HW.eq_1 c;have lt:=HM c.tables;have lf:=Fj c.features;have ld:=Fj c.drafts;have lp:=Fj c.past;have hb:=Ch c;have h1:=l6 (mx:=mx) c (by omega);by_cases hlim:16<c.tables.length\/32<c.features.length\/32<c.drafts.length\/32<c.past.length
 ·rw[if_pos hlim]at hR;rw[hR];have hg:(decide ((16:Int)<(c.tables.length:Int))||decide ((32:Int)<(c.features.length:Int))||decide ((32:Int)<(c.drafts.length:Int))||decide ((32:Int)<(c.past.length:Int)))=true:=by grind
  refine MX Vq ?_
  (repeat' first|exact Al _|simp(disch:=omega)only[go_sem,simprocAttr,hg]|refine' Ao (fun hq=>?_) (fun f=>?_)<;>try(have jc:=hq;try simp only[HB]at jc)|refine Aa ?_|refine Sz.s ?_|fail)
  all_goals(exfalso;simp_all)
 ·rw[if_neg hlim]at hR;have hg:(decide ((16:Int)<(c.tables.length:Int))||decide ((32:Int)<(c.features.length:Int))||decide ((32:Int)<(c.drafts.length:Int))||decide ((32:Int)<(c.past.length:Int)))=false:=by grind
  have h2:=l5 (mx:=mx) c (by omega) (by omega) (by omega);have h3:=l4 (mx:=mx) c hc (by omega);have hvl:(C8 c).length=c.features.length+c.drafts.length+c.past.length:=by grind[C8]
  have hvb:=fun f=>ma (c:=c) hc (f:=f)
  have hcf:=fun f (h:f∈c.features)=>B0 (b:=Bc) h
  generalize C8 c=all at h2 hR hvl hvb;have hnpI:(c.features.length:Int)+(c.drafts.length:Int)=((c.features.length+c.drafts.length:Nat):Int):=by omega
  generalize hnp:c.features.length+c.drafts.length=np at hR hvl hnpI;refine MX Vq ?_
  (repeat' first|exact Al _|simp(disch:=omega)only[go_sem,simprocAttr,hg,hnpI]|refine' Ao (fun hq=>?_) (fun f=>?_)<;>try(have jc:=hq;try simp only[HB]at jc)|refine Sx.s ?_ ?_<;>try(intro h;have h':=h;try simp only[HB]at h';try rewrite [h];try simp only[h])|refine Ab (h1) ?_|refine Ab (h2) ?_|refine Aa ?_|refine Sz.s ?_|fail)
  ·rw[hR,if_pos h']
  rw[if_neg (by omega)]at hR;refine AA [1,4,5] (by simp only[V0,G4,reduceIte,Nat.reduceEqDiff];rfl) (fun i:Nat=>[(6,.i (iI i))]) (fun _=>[])
   (fun i=>i<=all.length/\Fq c.features.length np (all.take i) (all.drop i)=Fq c.features.length np [] all) (fun i=>all.length-i) 0 ⟨by omega,rfl⟩ (by simp[V0,Fz,GF]) ?_
  rintro i ⟨hi,jb⟩;by_cases ja:i<all.length
  ·have hm:=AE ja;have h4:=l7 (mx:=mx) (all.getD i default) (by have:=hvb _ hm;omega);rw[EP ja,l9,<-CR ja,List.length_take,Nat.min_eq_left hi]at jb;have hfst:(decide ((i:Int)=0)||decide ((i:Int)=(c.features.length:Int))||decide ((i:Int)=(np:Int)))=Na c.features.length np i:=by grind[Na]
   have hmid:∀(K:Prop),((HT (all.getD i default)=0/\HV c.features.length np i ((all.take i).getD (i-1) default) (all.getD i default)=false)->K)->K\/True:=fun _ _=>.inr trivial
   have jr:HT (all.getD i default)=0->HV c.features.length np i ((all.take i).getD (i-1) default) (all.getD i default)=false->(if((all.take i).any (HU (all.getD i default)))=true then 121 else Fq c.features.length np (all.take (i+1)) (all.drop (i+1)))=Fq c.features.length np [] all:=fun e1 e2=>by grind
   (repeat' first|simp(disch:=omega)only[go_sem,simprocAttr]|fail)
   refine Aa ?_
   (repeat' first|simp(disch:=omega)only[go_sem,simprocAttr,Ck ja]|fail)
   refine Aa ?_
   (repeat' first|simp(disch:=omega)only[go_sem,simprocAttr,Ck ja]|refine Sx.s ?_ ?_<;>try(intro h;have h':=h;try simp only[HB]at h';try rewrite [h];try simp only[h])|refine Ab (h4) ?_|fail)
   refine Aa ?_
   (repeat' first|exact Al _|simp(disch:=omega)only[go_sem,simprocAttr]|refine' Ao (fun hq=>?_) (fun f=>?_)<;>try(have jc:=hq;try simp only[HB]at jc)|refine Sx.s ?_ ?_<;>try(intro h;have h':=h;try simp only[HB]at h';try rewrite [h];try simp only[h])|refine Sz.s ?_|fail)
   ·rw[if_pos h']at jb;rw[hR,<-jb,if_pos h']
   rename_i jd _;have jd:HT (all.getD i default)=0:=by omega
   refine Dl.cutS [1,4,5,6] (by simp only[V0,G4,reduceIte,Nat.reduceEqDiff];rfl) [] [] (HV c.features.length np i ((all.take i).getD (i-1) default) (all.getD i default)=false) ?_ (fun hbad=>?_)
   ·cases hf:Na c.features.length np i
    ·have wz:i≠0:=by intro e;subst e;simp[Na]at hf
     have ky:((i:Int)-1).toNat=i-1:=by omega
     have kz:(i:Int)-1=((i-1:Nat):Int):=by omega
     have zP:i-1<all.length:=by omega
     have hbad:HV c.features.length np i ((all.take i).getD (i-1) default) (all.getD i default)=(Op.bytesLess (all.getD i default).name (all.getD (i-1) default).name||decide ((i:Int)<(np:Int))&&decide ((all.getD i default).name=(all.getD (i-1) default).name)):=by grind[HV]
     rw[hf]at hfst;rw[hbad]at jb⊢;cases qr:Op.bytesLess (all.getD i default).name (all.getD (i-1) default).name
     ·cases qm:decide ((i:Int)<(np:Int))
      ·(repeat' first|simp(disch:=omega)only[go_sem,simprocAttr,Ck ja,hfst,kz,Ck zP,qr,qm]|refine Am ?_|fail)
      ·cases hb3:decide ((all.getD i default).name=(all.getD (i-1) default).name)
       ·(repeat' first|simp(disch:=omega)only[go_sem,simprocAttr,Ck ja,hfst,kz,Ck zP,qr,qm,hb3]|refine Am ?_|fail)
       ·(repeat' first|simp(disch:=omega)only[go_sem,simprocAttr,Ck ja,hfst,kz,Ck zP,qr,qm,hb3]|refine Am ?_|refine Sz.s ?_|fail)
        rw[if_neg (by omega),if_pos (by rw[qr,qm,hb3];rfl)]at jb;rw[hR,<-jb];rfl
     ·(repeat' first|simp(disch:=omega)only[go_sem,simprocAttr,Ck ja,hfst,kz,Ck zP,qr]|refine Am ?_|refine Sz.s ?_|fail)
      rw[if_neg (by omega),if_pos (by rw[qr];rfl)]at jb;rw[hR,<-jb];rfl
    ·have hbad:HV c.features.length np i ((all.take i).getD (i-1) default) (all.getD i default)=false:=by simp[HV,hf]
     rw[hf]at hfst
     (repeat' first|simp(disch:=omega)only[go_sem,simprocAttr,hfst,hbad]|refine Am ?_|fail)
   ·rw[if_neg (by omega),if_neg (by rw[hbad];simp)]at jb
    (repeat' first|simp(disch:=omega)only[go_sem,simprocAttr]|fail)
    refine AA [1,4,5,6] (by simp only[V0,G4,reduceIte,Nat.reduceEqDiff];rfl) (fun k:Nat=>[(8,.i (iI k))]) (fun _=>[])
     (fun k=>k<=i/\(all.take k).all (fun g=>!HU (all.getD i default) g)=true) (fun k=>i-k) 0 (by simp) (by simp[V0,Fz,GF]) ?_
    rintro k ⟨hk,jj⟩;by_cases jn:k<i
    ·have hka:k<all.length:=by omega
     cases hsn:decide ((all.getD k default).name=(all.getD i default).name)
     ·(repeat' first|simp(disch:=omega)only[go_sem,simprocAttr,Ck ja,Ck jn,Ck hka,hsn]|refine Aa ?_|refine Am ?_|fail)
      exact⟨k+1,⟨by omega,BO (d:=default) jj hka (by simp only[HU,hsn];rfl)⟩,by omega,rfl⟩
     ·cases hsv:decide ((all.getD k default).version=(all.getD i default).version)
      ·(repeat' first|simp(disch:=omega)only[go_sem,simprocAttr,Ck ja,Ck jn,Ck hka,hsn,hsv]|refine Aa ?_|refine Am ?_|fail)
       exact⟨k+1,⟨by omega,BO (d:=default) jj hka (by simp only[HU,hsn,hsv];rfl)⟩,by omega,rfl⟩
      ·(repeat' first|simp(disch:=omega)only[go_sem,simprocAttr,Ck ja,Ck jn,Ck hka,hsn,hsv]|refine Aa ?_|refine Am ?_|refine Sz.s ?_|fail)
       have hany:(all.take i).any (HU (all.getD i default))=true:=by rw[List.any_eq_true];refine⟨all.getD k default,?_,by simp only[HU,hsn,hsv];rfl⟩;have:=AE (n:=k) (l:=all.take i) (by simp;omega);grind
       rw[if_pos hany]at jb;rw[hR,<-jb];rfl
    ·have hki:k=i:=by omega
     subst hki;have hany:(all.take k).any (HU (all.getD k default))=false:=by grind
     rw[if_neg (by rw[hany];simp)]at jb
     (repeat' first|simp(disch:=omega)only[go_sem,simprocAttr,Ie jn]|refine Aa ?_|fail)
     exact⟨k+1,⟨by omega,jb⟩,by omega,rfl⟩
  ·rw[List.drop_eq_nil_of_le (by omega),l8]at jb;rw[<-jb,if_neg (by simp)]at hR
   (repeat' first|simp(disch:=omega)only[go_sem,simprocAttr,Ie ja]|refine Aa ?_|fail)
   refine AA [1] (by simp only[V0,G4,reduceIte,Nat.reduceEqDiff];rfl) (fun i:Nat=>[(9,.i (iI i))]) (fun _=>[])
    (fun i=>i<=c.features.length/\Fr c (c.features.drop i)=Fr c c.features) (fun i=>c.features.length-i) 0 ⟨by omega,rfl⟩ (by simp[V0,Fz,GF]) ?_
   rintro j ⟨hj,hjv⟩;by_cases jt:j<c.features.length
   ·have h5:=WR (mx:=mx) c (c.features.getD j default) (by omega) (by have:=hcf _ (AE jt);omega);rw[EP jt,Fr]at hjv
    (repeat' first|simp(disch:=omega)only[go_sem,simprocAttr,Ck jt]|refine Sx.s ?_ ?_<;>try(intro h;have h':=h;try simp only[HB]at h';try rewrite [h];try simp only[h])|refine Ab (h5) ?_|refine Aa ?_|refine Am ?_|refine Sz.s ?_|fail)
    ·rw[if_pos h']at hjv;rw[hR,<-hjv,if_pos h']
    ·rw[if_neg (by omega)]at hjv;exact⟨j+1,⟨by omega,hjv⟩,by omega,rfl⟩
   ·rw[List.drop_eq_nil_of_le (by omega),Fr]at hjv;rw[<-hjv,if_neg (by simp)]at hR;rw[hR];generalize Lo c=cy at h3
    (repeat' first|simp(disch:=omega)only[go_sem,simprocAttr,Ie jt]|refine Sx.s ?_ ?_<;>try(intro h;have h':=h;try simp only[HB]at h';try rewrite [h];try simp only[h])|refine Ab (h3) ?_|refine Aa ?_|refine Sz.s ?_|fail)
    all_goals(refine congrArg (I.int .i64) ?_;cases cy<;>simp_all)
    all_goals omega
end
section
def RH(f:Fct):Bool:=if f.kind=3 then decide (f.table=[])&&decide (f.key=[])&&decide (f.event=0)&&decide ((f.fields.length:Int)=0)else Kd f.key&&decide (0<=f.event)&&decide (f.event<=1099511627776)
def RI(f:Fct):Bool:=if f.kind=1 then decide (f.ref=0)else if f.kind=2\/f.kind=3 then decide (1<=f.ref)&&decide (f.ref<f.id.seq)else false
def Kn(f:Fct):Bool:=CH f.id.source&&decide (1<=f.id.seq)&&decide (f.id.seq<=1099511627776)&&RI f&&RH f
theorem md(f:Fct)(hf:F8 f<=1073741824):Is mx 123 [.agg (Bu f)] (.bool (Kn f)):=by
 have h0:=Jb f;have h1:=Wx (mx:=mx) f.key (by omega);refine MX c9 ?_
 (repeat' first|exact Al _|simp only[go_sem,simprocAttr]|refine' Ao (fun hq=>?_) (fun f=>?_)<;>try(have jc:=hq;try simp only[HB]at jc)|refine Sx.s ?_ ?_<;>try(intro h;have h':=h;try simp only[HB]at h';try simp only[h])|refine Ab (GP _) ?_|refine Ab (h1) ?_|refine Aa ?_|refine Sz.s ?_|fail)
 all_goals(refine congrArg I.bool ?_;simp only[Kn,RH,RI];first|done|(grind(splits:=20)))
def Nb(v:Val)(f:Fld):Bool:=OV v f.typ
def Ge(c:Cat)(f:Fct):Int:=
 if Kn f=false then 1 else if f.kind=3 then 0 else match A5 c.tables f.table with
  |none=>4
  |some t=>if f.fields.length≠t.fields.length then 5 else if eqL Nb f.fields t.fields=true then 0 else 5
theorem Xf{q c r:Bool}(h:q=(c&&r))(hc:(!c)=true):q=false:=(HK h hc).symm
theorem mf(c:Cat)(f:Fct)(hc:AV c<=1073741824)(hf:F8 f<=1073741824):Is mx 81 [.agg (Aw c),.agg (Bu f)] (iI (Ge c f)):=by
 have h0:=Jb f;have hvl:=OQ f.fields;have lt:=HM c.tables;have hb:=Ch c;have h1:=md (mx:=mx) f hf;have h2:=Rt (mx:=mx) c f.table (by omega);have hR:=Ge.eq_1 c f;refine MX y5 ?_;cases wl:Kn f
 ·rw[wl]at h1;rw[if_pos wl]at hR;rw[hR]
  (repeat' first|simp(disch:=omega)only[go_sem,simprocAttr]|refine Sx.s ?_ ?_<;>try(intro h;have h':=h;try simp only[HB]at h';try simp only[h])|refine Ab (h1) ?_|refine Aa ?_|refine Sz.s ?_)
 ·rw[wl]at h1
  rw[if_neg (by rw[wl];simp)]at hR
  by_cases h3:f.kind=3
  ·rw[if_pos h3]at hR
   rw[hR]
   (repeat' first|simp(disch:=omega)only[go_sem,simprocAttr,h3]|refine Sx.s ?_ ?_<;>try(intro h;have h':=h;try simp only[HB]at h';try simp only[h])|refine Ab (h1) ?_|refine Aa ?_|refine Sz.s ?_)
  ·rw[if_neg h3]at hR
   cases ht:A5 c.tables f.table with
   |none=>
    rw[ht]at h2 hR
    rw[hR]
    simp only[GU,Option.getD_none,Option.isSome_none]at h2
    (repeat' first|simp(disch:=omega)only[go_sem,simprocAttr,eq_false h3]|refine Sx.s ?_ ?_<;>try(intro h;have h':=h;try simp only[HB]at h';try simp only[h])|refine Ab (h1) ?_|refine Ab (h2) ?_|refine Aa ?_|refine Sz.s ?_)
   |some t=>
    rw[ht]at h2 hR
    simp only at hR
    simp only[GU,Option.getD_some,Option.isSome_some]at h2
    by_cases hl:f.fields.length=t.fields.length
    ·rw[if_neg (by omega)]at hR
     have hlF:((f.fields.length:Int)=(t.fields.length:Int))=True:=eq_true (by omega)
     (repeat' first|simp(disch:=omega)only[go_sem,simprocAttr,eq_false h3,hlF,ne_eq,not_true_eq_false]|refine Sx.s ?_ ?_<;>try(intro h;have h':=h;try simp only[HB]at h';try simp only[h])|refine Ab (h1) ?_|refine Ab (h2) ?_|refine Aa ?_)
     refine BP [3,5] (fun i=>[(7,.i (iI i))]) (fun _=>[]) (fun i=>eqL Nb f.fields t.fields=eqL Nb (f.fields.drop i) (t.fields.drop i)) f.fields.length 0 (by omega) rfl ?_
     intro i hi jb
     by_cases ja:i<f.fields.length
     ·have jz:i<t.fields.length:=by omega
      have jk:=F9 jb ja jz
      have h4:=kJ (mx:=mx) (f.fields.getD i default) (t.fields.getD i default).typ (by have h1:=B0 (b:=Es) (AE ja);have h2:Es (f.fields.getD i default)=(f.fields.getD i default).s.length+1:=rfl;omega)
      (repeat' first|simp(disch:=omega)only[go_sem,simprocAttr,Ck ja,Ck jz,List.map_cons,List.map_nil]|refine Sx.s ?_ ?_<;>try(intro h;have h':=h;try simp only[HB]at h';try simp only[h])|refine Ab (h4) ?_|refine Aa ?_|refine Am ?_|refine Sz.s ?_|(refine And.intro ?_ ?_;focus omega))
      ·rw[hR,Xf jk h];rfl
      ·exact GN jk h
     ·rw[hR,Ga jb (by omega) (by omega)]
      (repeat' first|simp(disch:=omega)only[go_sem,simprocAttr,Ie ja]|refine Aa ?_|refine Sz.s ?_)
    ·rw[if_pos hl]at hR
     rw[hR]
     have hlF:((f.fields.length:Int)=(t.fields.length:Int))=False:=eq_false (by omega)
     (repeat' first|simp(disch:=omega)only[go_sem,simprocAttr,eq_false h3,hlF,ne_eq,not_false_eq_true]|refine Sx.s ?_ ?_<;>try(intro h;have h':=h;try simp only[HB]at h';try simp only[h])|refine Ab (h1) ?_|refine Ab (h2) ?_|refine Aa ?_|refine Sz.s ?_)
def AW(f:Fct):Fid:=if f.kind=1 then f.id else⟨f.id.source,f.ref⟩
theorem Xg(f:Fct):Is mx 50 [.agg (Bu f)] (.agg (Ak (AW f))):=by
 refine MX yD ?_
 (repeat' first|simp only[go_sem,simprocAttr]|refine Sx.s ?_ ?_<;>try(intro h;have h':=h;try simp only[HB]at h';try simp only[h])|refine Aa ?_|refine Sz.s ?_|fail)
 ·simp[AW,h']
 ·simp[AW,h']
def Ey(a b:Int):Int:=if a<b then-1 else if b<a then 1 else 0
theorem mh(a b:Int):Is mx 152 [iI a,iI b] (iI (Ey a b)):=by
 refine MX dj ?_
 (repeat' first|simp only[go_sem,simprocAttr]|refine Sx.s ?_ ?_<;>try(intro h;have h':=h;try simp only[HB]at h';try simp only[h])|refine Aa ?_|refine Sz.s ?_|fail)
 all_goals(refine congrArg (I.int .i64) ?_;simp only[Ey];first|done|(grind(splits:=20)))
def Ct(a b:Fid):Int:=if Op.bytesLess a.source b.source=true then-1 else if a.source=b.source then Ey a.seq b.seq else 1
theorem mi(a b:Fid):Is mx 96 [.agg (Ak a),.agg (Ak b)] (iI (Ct a b)):=by
 have h1:=mh (mx:=mx) a.seq b.seq;refine MX zj ?_
 (repeat' first|simp only[go_sem,simprocAttr]|refine Sx.s ?_ ?_<;>try(intro h;have h':=h;try simp only[HB]at h';try simp only[h])|refine Ab (h1) ?_|refine Aa ?_|refine Sz.s ?_|fail)
 all_goals(refine congrArg (I.int .i64) ?_;simp only[Ct];first|done|(grind(splits:=20)))
def Fs(a b:Rw):Int:=if Ey a.event b.event≠0 then Ey a.event b.event else Ct a.id b.id
end
section
def B7(l:List Ftr)(name:Bs):Int:=CG (fun f:Ftr=>decide (f.name=name)) l
theorem ml{α:Type}[Inhabited α]{p:α->Bool}{l:List α}{i:Nat}(h:(l.take i).all (fun x=>!p x)=true)(hi:i<l.length)(hp:p (l.getD i default)=true):CG p l=(i:Int):=by
 rw[A7 hi]at hp;refine MB hi hp fun j hj hji=>?_
 rw[List.all_eq_true]at h;have hm:l[j]∈l.take i:=List.mem_iff_getElem.2 ⟨j,by simp;omega,by simp⟩;grind
theorem mn{α:Type}{p:α->Bool}{l:List α}{i:Nat}(h:(l.take i).all (fun x=>!p x)=true)(hi:¬i<l.length):CG p l=-1:=by rw[List.take_of_length_le (by omega),List.all_eq_true]at h;grind[MD]
theorem Lp(l:List Ftr)(name:Bs)(hl:l.length<=1073741824):Is mx 229 [.sl (l.map At),.str name,iI 0] (iI (B7 l name)):=by
 refine MX ep ?_
 (repeat' first|simp(disch:=omega)only[go_sem,simprocAttr]|fail)
 refine BP [0,1] (fun i=>[(7,.i (iI i))]) (fun _=>[]) (fun i=>(l.take i).all (fun f=>!decide (f.name=name))=true) l.length 0 (by omega) (by simp) ?_;intro i hi jb;by_cases ja:i<l.length
 ·by_cases hn:(l.getD i default).name=name
  ·rw[show B7 l name=(i:Int)from ml jb ja (by simpa using hn)]
   (repeat' first|simp(disch:=omega)only[go_sem,simprocAttr,Ck ja,eq_true hn]|refine Aa ?_|refine Sz.s ?_|fail)
  ·(repeat' first|simp(disch:=omega)only[go_sem,simprocAttr,Ck ja,eq_false hn]|refine Aa ?_|(refine And.intro ?_ ?_;focus omega))
   exact BO (d:=default) jb ja (by simpa using hn)
 ·rw[show B7 l name=-1 from mn jb ja]
  (repeat' first|simp(disch:=omega)only[go_sem,simprocAttr,Ie ja]|refine Aa ?_|refine Sz.s ?_|fail)
def HX(l:List Ftr)(name:Bs):Nat->Int
 |0=>-1
 |i+1=>if(l.getD i default).name=name then(i:Int)else HX l name i
def HY(l:List Ftr)(name:Bs):Int:=HX l name l.length
theorem mo(l:List Ftr)(name:Bs)(hl:l.length<=1073741824):Is mx 233 [.sl (l.map At),.str name] (iI (HY l name)):=by
 refine MX ey ?_
 (repeat' first|simp(disch:=omega)only[go_sem,simprocAttr]|fail)
 refine CP [0,1] (by simp only[V0,G4,reduceIte,Nat.reduceEqDiff];rfl) (fun i=>[(5,.i (iI (HX l name i))),(6,.i (iI i))]) (fun _=>[]) (fun _=>True) l.length 0 (by omega) trivial (by simp[V0,Fz,GF,HX]) ?_;intro i hi _;by_cases ja:i<l.length
 ·by_cases hn:(l.getD i default).name=name
  ·(repeat' first|simp(disch:=omega)only[go_sem,simprocAttr,Ck ja,eq_true hn,HX]|refine Aa ?_|fail)
   exact ja
  ·(repeat' first|simp(disch:=omega)only[go_sem,simprocAttr,Ck ja,eq_false hn,HX]|refine Aa ?_|fail)
   exact ja
 ·have hie:i=l.length:=by omega
  rw[HY,<-hie]
  (repeat' first|simp(disch:=omega)only[go_sem,simprocAttr,Ie ja]|refine Aa ?_|refine Sz.s ?_|fail)
def Cu{α:Type}(l:List α)(k:Nat):List α:=l.take k++l.drop (k+1)
theorem Nc(l:List Ftr)(k:Nat)(hl:l.length<=1073741824)(hk:k<l.length):Is mx 232 [.sl (l.map At),iI k] (.sl ((Cu l k).map At)):=by
 have h1:=BH (l.take k) EV EW;have h2:=BH (l.drop (k+1)) EV EW;have h0:=BH l EV EW;rw[List.map_take]at h1;rw[List.map_drop]at h2;have c1:(k<=l.length)=True:=eq_true (by omega);have c2:(k+1<=l.length)=True:=eq_true (by omega);have c3:min k l.length=k:=by omega
 have kz:((k:Int)+1).toNat=k+1:=by omega
 have c4:((k:Int)+1<=(l.length:Int))=True:=eq_true (by omega);have c5:((k:Int)<=(l.length:Int))=True:=eq_true (by omega);have c6:(0<=(k:Int)+1)=True:=eq_true (by omega);refine MX ew ?_
 (repeat' first|simp(disch:=omega)only[go_sem,simprocAttr,eq_true h0.1,eq_true h1.1,eq_true h1.2,Int.le_refl,eq_true h2.1,eq_true h2.2,Nat.zero_add,Nat.sub_zero,List.length_map,List.length_take,List.length_drop,List.length_nil,c3,kz,c4,c5,c6,List.take_take,Nat.min_self]|refine Sz.s ?_|(refine And.intro ?_ ?_;focus omega))
 rw[List.take_of_length_le (by simp;omega)];simp only[Cu,List.map_append,List.map_take,List.map_drop]
def BV{α:Type}(l:List α)(k:Nat)(x:α):List α:=l.take k++[x]++l.drop k
def Jf(l:List Ftr)(name:Bs):Nat:=(l.takeWhile fun g=>rp g.name name).length
def CK(l:List Ftr)(f:Ftr):List Ftr:=BV l (Jf l f.name) f
theorem Lq{α:Type}{f:α->List I}{l:List α}{s:α}{k:Nat}(h:k<=l.length):List.take (k+1+(l.length-k)) (List.take (k+1) (List.take k (l.map f)++[f s])++List.drop k (l.map f))=List.map f (List.take k l++[s]++List.drop k l):=by have:=Rv f (s:=s) h;simp_all
theorem Lr(l:List Ftr)(f:Ftr)(hl:l.length<=1073741823):Is mx 231 [.sl (l.map At),.agg (At f)] (.sl ((CK l f).map At)):=by
 refine MX eu ?_
 (repeat' first|simp(disch:=omega)only[go_sem,simprocAttr]|fail)
 refine AA [0,3] (by simp only[V0,G4,reduceIte,Nat.reduceEqDiff];rfl) (fun k:Nat=>[(5,.i (iI k))]) (fun _=>[])
  (fun k=>k<=l.length/\(l.take k).all (fun g=>rp g.name f.name)=true) (fun k=>l.length-k) 0 (by simp) (by simp[V0,Fz,GF]) ?_
 rintro k ⟨hk,jj⟩;have h1:=BH (l.take k) EV EW;have h2:=BH (l.drop k) EV EW;have h0:=BH l EV EW;have c5:((k:Int)<=(l.length:Int))=True:=eq_true (by omega);have h3:=BH [f] EV EW;rw[List.map_take]at h1;rw[List.map_drop]at h2;simp only[List.map_cons,List.map_nil]at h3;have c1:(k<=l.length)=True:=eq_true (by omega);have c3:min k l.length=k:=by omega
 by_cases jn:k<l.length
 ·cases ji:rp (l.getD k default).name f.name
  ·have kw:Jf l f.name=k:=O3 jj jn ji;have kt:CK l f=l.take k++[f]++l.drop k:=by rw[CK,kw];rfl
   rw[kt];unfold rp at ji
   (repeat' first|simp(disch:=omega)only[go_sem,simprocAttr,Ck jn,ji,eq_true h0.1,eq_true h1.1,eq_true h1.2,Int.le_refl,eq_true h2.1,eq_true h2.2,eq_true h3.1,eq_true h3.2,Nat.zero_add,Nat.sub_zero,List.length_map,List.length_take,List.length_drop,List.length_nil,c3,c5,List.take_take,Nat.min_self]|refine Aa ?_|refine Am ?_|refine Sz.s ?_|(refine And.intro ?_ ?_;focus omega))
   rw[<-Lq hk]
  ·have hle2:=ji;unfold rp at hle2
   (repeat' first|simp(disch:=omega)only[go_sem,simprocAttr,Ck jn,hle2]|refine Aa ?_|refine Am ?_|fail)
   exact⟨k+1,⟨by omega,BO (d:=default) jj jn ji⟩,by omega,rfl⟩
 ·have kw:Jf l f.name=k:=HL jj hk (.inl (by omega));have kt:CK l f=l.take k++[f]++l.drop k:=by rw[CK,kw];rfl
  rw[kt]
  (repeat' first|simp(disch:=omega)only[go_sem,simprocAttr,Ie jn,eq_true h0.1,eq_true h1.1,eq_true h1.2,Int.le_refl,eq_true h2.1,eq_true h2.2,eq_true h3.1,eq_true h3.2,Nat.zero_add,Nat.sub_zero,List.length_map,List.length_take,List.length_drop,List.length_nil,c3,c5,List.take_take,Nat.min_self]|refine Aa ?_|refine Am ?_|refine Sz.s ?_|(refine And.intro ?_ ?_;focus omega))
  rw[<-Lq hk]
def LJ(r:Cat×Int):I:=.tup [.agg (Aw r.1),iI r.2]
abbrev Nd:List D:=[.i (.sl []),.i (.sl []),.i (.sl []),.i (.sl [])]
def DQ(l:List Tbl)(name:Bs):Nat:=(l.takeWhile fun g=>rp g.name name).length
def DA(l:List Tbl)(t:Tbl):List Tbl:=BV l (DQ l t.name) t
def GY(c:Cat)(t:Tbl):Cat×Int:=if(A5 c.tables t.name).isSome=true then(Br,121)else({c with tables:=DA c.tables t},0)
theorem Ls(t:Tbl):(AP t).length=4:=rfl
theorem Lt(t:Tbl):(AP t).all I.one=true:=rfl
theorem mq(c:Cat)(t:Tbl)(hl:c.tables.length<=1073741823):Is mx 176 [.agg (Aw c),.agg (AP t)] (LJ (GY c t)):=by
 have h1:=Rt (mx:=mx) c t.name (by omega);unfold GU at h1;refine MX dE ?_;cases hs:(A5 c.tables t.name).isSome
 ·rw[hs]at h1;rw[GY,if_neg (by rw[hs];simp)]
  (repeat' first|simp(disch:=omega)only[go_sem,simprocAttr]|refine Sx.s ?_ ?_<;>try(intro h;have h':=h;try simp only[HB]at h';try rewrite [h];try simp only[h])|refine Ab (h1) ?_|refine Aa ?_|fail)
  refine AA [2,3,4] (by simp only[V0,G4,reduceIte,Nat.reduceEqDiff];rfl) (fun k:Nat=>[(8,.i (iI k))]) (fun _=>[(4,.cells Nd),(2,.cells ((Aw c).map .i))])
   (fun k=>k<=c.tables.length/\(c.tables.take k).all (fun g=>rp g.name t.name)=true) (fun k=>c.tables.length-k) 0 (by simp) (by simp[V0,Fz,Ref.nm,Aw,D.nms,Pq]) ?_
  rintro k ⟨hk,jj⟩;have h1:=BH (c.tables.take k) Ls Lt;have h2:=BH (c.tables.drop k) Ls Lt;have h0:=BH c.tables Ls Lt;have c5:((k:Int)<=(c.tables.length:Int))=True:=eq_true (by omega);have h3:=BH [t] Ls Lt;rw[List.map_take]at h1;rw[List.map_drop]at h2;simp only[List.map_cons,List.map_nil]at h3;have x1:(∀r∈[[I.str t.name,I.str t.entity,I.sl (t.fields.map BN),I.int .i64 t.keep]],r.length=4)=True:=eq_true (by simp);have x2:(∀r∈[[I.str t.name,I.str t.entity,I.sl (t.fields.map BN),I.int .i64 t.keep]],r.all I.one=true)=True:=eq_true (by simp[I.one]);have c1:(k<=c.tables.length)=True:=eq_true (by omega);have c3:min k c.tables.length=k:=by omega
  by_cases jn:k<c.tables.length
  ·cases ji:rp (c.tables.getD k default).name t.name
   ·have kw:DQ c.tables t.name=k:=O3 jj jn ji;have kt:DA c.tables t=c.tables.take k++[t]++c.tables.drop k:=by rw[DA,kw];rfl
    rw[kt];unfold rp at ji
    (repeat' first|simp(disch:=omega)only[go_sem,simprocAttr,LJ,List.map_cons,List.map_nil,Ck jn,ji,eq_true h0.1,eq_true h1.1,eq_true h1.2,Int.le_refl,eq_true h2.1,eq_true h2.2,x1,x2,Nat.zero_add,Nat.sub_zero,List.length_map,List.length_take,List.length_drop,List.length_nil,c3,c5,List.take_take,Nat.min_self]|refine Aa ?_|refine Am ?_|refine Sz.s ?_|(refine And.intro ?_ ?_;focus omega))
    rw[<-Lq (f:=AP) hk];rfl
   ·have hle2:=ji;unfold rp at hle2
    (repeat' first|simp(disch:=omega)only[go_sem,simprocAttr,List.map_cons,List.map_nil,Ck jn,hle2]|refine Aa ?_|refine Am ?_|fail)
    exact⟨k+1,⟨by omega,BO (d:=default) jj jn ji⟩,by omega,rfl⟩
  ·have kw:DQ c.tables t.name=k:=HL jj hk (.inl (by omega));have kt:DA c.tables t=c.tables.take k++[t]++c.tables.drop k:=by rw[DA,kw];rfl
   rw[kt]
   (repeat' first|simp(disch:=omega)only[go_sem,simprocAttr,LJ,List.map_cons,List.map_nil,Ie jn,eq_true h0.1,eq_true h1.1,eq_true h1.2,Int.le_refl,eq_true h2.1,eq_true h2.2,x1,x2,Nat.zero_add,Nat.sub_zero,List.length_map,List.length_take,List.length_drop,List.length_nil,c3,c5,List.take_take,Nat.min_self]|refine Aa ?_|refine Am ?_|refine Sz.s ?_|(refine And.intro ?_ ?_;focus omega))
   rw[<-Lq (f:=AP) hk];rfl
 ·rw[hs]at h1;rw[GY,if_pos hs]
  (repeat' first|simp(disch:=omega)only[go_sem,simprocAttr,LJ]|refine Sx.s ?_ ?_<;>try(intro h;have h':=h;try simp only[HB]at h';try rewrite [h];try simp only[h])|refine Ab (h1) ?_|refine Aa ?_|refine Sz.s ?_|fail)
  all_goals(try rfl)
def Ft(name:Bs)(n:Int)(f:Ftr):Int:=if f.name=name then(if n<=f.version then f.version else n)else n
def HZ(c:Cat)(name:Bs):Int:=(C8 c).foldl (Ft name) 0
theorem mr(c:Cat)(name:Bs)(h1:c.features.length<=1073741)(h2:c.drafts.length<=1073741)(h3:c.past.length<=1073741):Is mx 230 [.agg (Aw c),.str name] (iI (HZ c name)):=by
 have ha:=BH c.features EV EW;have hb:=BH c.drafts EV EW;have hp:=BH c.past EV EW;have t1:List.take (c.features.length+c.drafts.length) (c.features.map At++c.drafts.map At)=c.features.map At++c.drafts.map At:=List.take_of_length_le (by simp);have t2:List.take (c.features.length+c.drafts.length+c.past.length) (c.features.map At++c.drafts.map At++c.past.map At)=c.features.map At++c.drafts.map At++c.past.map At:=List.take_of_length_le (by simp;omega);have hvl:(C8 c).length=c.features.length+c.drafts.length+c.past.length:=by grind[C8]
 have hvm:(C8 c).map At=c.features.map At++c.drafts.map At++c.past.map At:=by simp[C8]
 refine MX eq ?_
 (repeat' first|simp(disch:=omega)only[go_sem,simprocAttr,eq_true ha.1,eq_true ha.2,eq_true hb.1,eq_true hb.2,eq_true hp.1,eq_true hp.2,Nat.zero_add,Nat.sub_zero,List.length_map,List.length_append,List.length_nil,t1]|refine Am ?_|(refine And.intro ?_ ?_;focus omega))
 rw[<-hvm,<-hvl];have hR:HZ c name=(C8 c).foldl (Ft name) 0:=rfl;rw[hR];have hvle:(C8 c).length<=1073741824:=by omega
 generalize C8 c=all at hvle;refine CP [1,5] (by simp only[V0,G4,reduceIte,Nat.reduceEqDiff];rfl) (fun i=>[(6,.i (iI ((all.take i).foldl (Ft name) 0))),(7,.i (iI i))]) (fun _=>[(8,.rows 50 18 (all.map At))]) (fun _=>True) all.length 0 (by omega) trivial (by simp[V0,Fz,GF,Ref.nm]) ?_;intro i hi _;by_cases ja:i<all.length
 ·have hT:(all.take (i+1)).foldl (Ft name) 0=Ft name ((all.take i).foldl (Ft name) 0) (all.getD i default):=by grind[CR]
  have hnT:(i<all.length)=True:=eq_true ja;generalize (all.take i).foldl (Ft name) 0=n at hT;by_cases hn:(all.getD i default).name=name
  ·(repeat' first|simp(disch:=omega)only[go_sem,simprocAttr,Ck ja,eq_true hn,hnT,Nat.zero_add,Nat.sub_zero]|refine Aa ?_|fail)
   rw[hT,Ft,if_pos hn];refine congrArg (fun n=>D.i (I.int .i64 n)) ?_;split<;>split<;>omega
  ·(repeat' first|simp(disch:=omega)only[go_sem,simprocAttr,Ck ja,eq_false hn,hnT,Nat.zero_add,Nat.sub_zero]|refine Aa ?_|fail)
   rw[hT,Ft,if_neg hn]
 ·have e:all.take i=all:=List.take_of_length_le (by omega);rw[e];have hnF:((i:Int)<(all.length:Int))=False:=Ie ja
  (repeat' first|simp(disch:=omega)only[go_sem,simprocAttr,hnF,Nat.sub_zero]|refine Aa ?_|refine Sz.s ?_|fail)
end
section
theorem GZ(l:List Ftr)(name:Bs):(B7 l name=-1/\Dz l name=none)\/∃i:Nat,B7 l name=(i:Int)/\i<l.length/\Dz l name=some (l.getD i default):=by
 have h0:B7 l name=-1\/0<=B7 l name:=by grind[B7,CG]
 rcases iP (fun f:Ftr=>decide (f.name=name)) l with⟨h1,h2⟩|⟨h1,h2,h3⟩
 ·have h1:B7 l name<0:=h1;exact .inl ⟨by omega,h2⟩
 ·have h1:0<=B7 l name:=h1;exact .inr ⟨(B7 l name).toNat,by omega,h2,h3⟩
theorem H0(f:Ftr):At f=[.str f.name,.str f.entity,.int .i64 f.typ.kind,.sl (f.typ.unit.map AC),.str f.typ.of,.int .i64 f.body.kind,.str f.body.op,.str f.body.name,.str f.body.table,.int .i64 f.body.val.kind,.int .i64 f.body.val.n,.str f.body.val.s,.sl (f.body.unit.map AC),.int .i64 f.body.param,.int .i64 f.body.win.kind,.int .i64 f.body.win.size,.sl (f.body.args.map eE),.int .i64 f.version]:=by simp[At,AM,Mz]
theorem RJ(l:List Ftr)(name:Bs):∀n,HX l name n=-1\/∃i:Nat,HX l name n=(i:Int)/\i<n/\(l.getD i default).name=name
 |0=>.inl rfl
 |n+1=>by
  unfold HX;split
  ·rename_i h;exact .inr ⟨n,rfl,by omega,h⟩
  ·rcases RJ l name n with h|⟨i,h1,h2,h3⟩
   ·exact .inl h
   ·exact .inr ⟨i,h1,by omega,h3⟩
theorem Xh{α:Type}(l:List α)(k:Nat):(Cu l k).length<=l.length:=by grind[Cu]
def Ko(c:Cat)(name:Bs):Cat×Int:=if B7 c.drafts name<0 then(Br,4)else({c with drafts:=Cu c.drafts (B7 c.drafts name).toNat},0)
theorem ms(c:Cat)(name:Bs)(h2:c.drafts.length<=1073741824):Is mx 180 [.agg (Aw c),.str name] (LJ (Ko c name)):=by
 have i1:=Lp (mx:=mx) c.drafts name h2;refine MX dJ ?_;rcases GZ c.drafts name with⟨e,_⟩|⟨i,e,hi,_⟩
 ·rw[e]at i1;rw[Ko,e]
  (repeat' first|simp only[go_sem,simprocAttr,LJ]|refine Sx.s ?_ ?_<;>try(intro h;have h':=h;try simp only[HB]at h';try simp only[h])|refine Ab (i1) ?_|refine Aa ?_|refine Sz.s ?_)
  all_goals(try rfl)
 ·rw[e]at i1
  have hR:Ko c name=({c with drafts:=Cu c.drafts i},0):=by grind[Ko]
  rw[hR]
  have hF:((i:Int)<0)=False:=eq_false (by omega)
  have w1:=Nc (mx:=mx) c.drafts i h2 hi
  (repeat' first|simp only[go_sem,simprocAttr,LJ,hF]|refine Sx.s ?_ ?_<;>try(intro h;have h':=h;try simp only[HB]at h';try simp only[h])|refine Ab (i1) ?_|refine Ab (w1) ?_|refine Aa ?_|refine Sz.s ?_)
  all_goals(try rfl)
def H1(c:Cat)(name:Bs):Cat×Int:=
 if B7 c.drafts name<0 then(Br,4)
 else if B7 c.features name<0 then(⟨c.tables,CK c.features (c.drafts.getD (B7 c.drafts name).toNat default),Cu c.drafts (B7 c.drafts name).toNat,c.past⟩,0)
 else(⟨c.tables,CK (Cu c.features (B7 c.features name).toNat) (c.drafts.getD (B7 c.drafts name).toNat default),Cu c.drafts (B7 c.drafts name).toNat,CK c.past (c.features.getD (B7 c.features name).toNat default)⟩,0)
theorem mt(c:Cat)(name:Bs)(h1:c.features.length<=1073741823)(h2:c.drafts.length<=1073741823)(h3:c.past.length<=1073741823):Is mx 178 [.agg (Aw c),.str name] (LJ (H1 c name)):=by
 have i1:=Lp (mx:=mx) c.drafts name (by omega);have i2:=Lp (mx:=mx) c.features name (by omega);refine MX dG ?_;rcases GZ c.drafts name with⟨e,_⟩|⟨i,e,hi,_⟩
 ·rw[e]at i1;rw[H1,e]
  (repeat' first|simp(disch:=omega)only[go_sem,simprocAttr,LJ]|refine Sx.s ?_ ?_<;>try(intro h;have h':=h;try simp only[HB]at h';try simp only[h])|refine Ab (i1) ?_|refine Aa ?_|refine Sz.s ?_)
  all_goals(try rfl)
 ·rw[e]at i1
  have hF:((i:Int)<0)=False:=eq_false (by omega)
  have w1:=Nc (mx:=mx) c.drafts i (by omega) hi
  rcases GZ c.features name with⟨e',_⟩|⟨j,e',hj,_⟩
  ·rw[e']at i2
   have hR:H1 c name=(⟨c.tables,CK c.features (c.drafts.getD i default),Cu c.drafts i,c.past⟩,0):=by grind[H1]
   rw[hR]
   have s1:=Lr (mx:=mx) c.features (c.drafts.getD i default) h1
   (repeat' first|simp(disch:=omega)only[go_sem,simprocAttr,LJ,hF,Ck hi]|refine Sx.s ?_ ?_<;>try(intro h;have h':=h;try simp only[HB]at h';try simp only[h])|refine Ab (i1) ?_|refine Ab (w1) ?_|refine Ab (i2) ?_|refine Ab (s1) ?_|refine Aa ?_|refine Sz.s ?_)
   all_goals(try rfl)
  ·rw[e']at i2
   have hR:H1 c name=(⟨c.tables,CK (Cu c.features j) (c.drafts.getD i default),Cu c.drafts i,CK c.past (c.features.getD j default)⟩,0):=by grind[H1]
   rw[hR]
   have hF2:(0<=(j:Int))=True:=eq_true (by omega)
   have w2:=Nc (mx:=mx) c.features j (by omega) hj
   have s1:=Lr (mx:=mx) (Cu c.features j) (c.drafts.getD i default) (by have:=Xh c.features j;omega)
   have s2:=Lr (mx:=mx) c.past (c.features.getD j default) h3
   (repeat' first|simp(disch:=omega)only[go_sem,simprocAttr,LJ,hF,hF2,Ck hi,Ck hj]|refine Sx.s ?_ ?_<;>try(intro h;have h':=h;try simp only[HB]at h';try simp only[h])|refine Ab (i1) ?_|refine Ab (w1) ?_|refine Ab (i2) ?_|refine Ab (w2) ?_|refine Ab (s1) ?_|refine Ab (s2) ?_|refine Aa ?_|refine Am ?_|refine Sz.s ?_)
   all_goals(try rfl)
def Gf(c:Cat)(name:Bs):Cat×Int:=
 if B7 c.features name<0 then(Br,4)
 else if HY c.past name<0\/0<=B7 c.drafts name then(Br,140)
 else(⟨c.tables,CK (Cu c.features (B7 c.features name).toNat) (c.past.getD (HY c.past name).toNat default),CK c.drafts (c.features.getD (B7 c.features name).toNat default),Cu c.past (HY c.past name).toNat⟩,0)
theorem mw(c:Cat)(name:Bs)(h1:c.features.length<=1073741823)(h2:c.drafts.length<=1073741823)(h3:c.past.length<=1073741823):Is mx 179 [.agg (Aw c),.str name] (LJ (Gf c name)):=by
 have i1:=Lp (mx:=mx) c.drafts name (by omega);have i2:=Lp (mx:=mx) c.features name (by omega);have i3:=mo (mx:=mx) c.past name (by omega);refine MX dH ?_;rcases GZ c.features name with⟨e,_⟩|⟨j,e,hj,_⟩
 ·rw[e]at i2;rw[Gf,e]
  (repeat' first|simp(disch:=omega)only[go_sem,simprocAttr,LJ]|refine Sx.s ?_ ?_<;>try(intro h;have h':=h;try simp only[HB]at h';try simp only[h])|refine Ab (i2) ?_|refine Aa ?_|refine Sz.s ?_)
  all_goals(try rfl)
 ·rw[e]at i2
  have hF:((j:Int)<0)=False:=eq_false (by omega)
  rcases RJ c.past name c.past.length with e3|⟨o,e3,ho,_⟩
  ·have e3':HY c.past name=-1:=e3
   rw[e3']at i3
   have hR:Gf c name=(Br,140):=by grind[Gf]
   rw[hR]
   (repeat' first|simp(disch:=omega)only[go_sem,simprocAttr,LJ,hF]|refine Sx.s ?_ ?_<;>try(intro h;have h':=h;try simp only[HB]at h';try simp only[h])|refine Ab (i2) ?_|refine Ab (i3) ?_|refine Aa ?_|refine Sz.s ?_)
   all_goals(try rfl)
  ·have e3':HY c.past name=(o:Int):=e3
   rw[e3']at i3
   have hF3:((o:Int)<0)=False:=eq_false (by omega)
   rcases GZ c.drafts name with⟨e1,_⟩|⟨i,e1,hi,_⟩
   ·rw[e1]at i1
    have hR:Gf c name=(⟨c.tables,CK (Cu c.features j) (c.past.getD o default),CK c.drafts (c.features.getD j default),Cu c.past o⟩,0):=by rw[Gf,e,e1,e3',if_neg (by omega),if_neg (by omega)];rfl
    rw[hR]
    have w2:=Nc (mx:=mx) c.features j (by omega) hj
    have w3:=Nc (mx:=mx) c.past o (by omega) ho
    have s1:=Lr (mx:=mx) (Cu c.features j) (c.past.getD o default) (by have:=Xh c.features j;omega)
    have s2:=Lr (mx:=mx) c.drafts (c.features.getD j default) h2
    (repeat' first|simp(disch:=omega)only[go_sem,simprocAttr,LJ,hF,hF3,Ck hj,Ck ho]|refine Sx.s ?_ ?_<;>try(intro h;have h':=h;try simp only[HB]at h';try simp only[h])|refine Ab (i1) ?_|refine Ab (i2) ?_|refine Ab (i3) ?_|refine Ab (w2) ?_|refine Ab (w3) ?_|refine Ab (s1) ?_|refine Ab (s2) ?_|refine Aa ?_|refine Am ?_|refine Sz.s ?_)
    all_goals(try rfl)
   ·rw[e1]at i1
    have hF2:(0<=(i:Int))=True:=eq_true (by omega)
    have hR:Gf c name=(Br,140):=by simp_all[Gf,e1]
    rw[hR]
    (repeat' first|simp(disch:=omega)only[go_sem,simprocAttr,LJ,hF,hF2,hF3]|refine Sx.s ?_ ?_<;>try(intro h;have h':=h;try simp only[HB]at h';try simp only[h])|refine Ab (i1) ?_|refine Ab (i2) ?_|refine Ab (i3) ?_|refine Aa ?_|refine Sz.s ?_)
    all_goals(try rfl)
theorem Xi{name:Bs}:∀(l:List Ftr) (n:Int),n<=l.foldl (Ft name) n
 |[],n=>Int.le_refl _
 |f::l,n=>by
  have h1:n<=Ft name n f:=by grind[Ft]
  exact Int.le_trans h1 (Xi l _)
theorem my(c:Cat)(name:Bs):0<=HZ c name:=Xi _ _
def Nf(f:Ftr)(v:Int):Ftr:=⟨f.name,f.entity,f.typ,f.body,v⟩
def Ng(c:Cat)(f:Ftr):Cat×Int:=
 if f.version≠0 then(Br,1)else if 0<=B7 c.drafts f.name then(Br,121)else if GT c f≠0 then(Br,GT c f)
 else if 1099511627776<=HZ c f.name then(Br,2)else({c with drafts:=CK c.drafts (Nf f (HZ c f.name+1))},0)
theorem mz(c:Cat)(f:Ftr)(hc:AV c<=1073741823)(hf:Bc f<=1073741823)(h1:c.features.length<=1073741)(h2:c.drafts.length<=1073741)(h3:c.past.length<=1073741):Is mx 177 [.agg (Aw c),.agg (At f)] (LJ (Ng c f)):=by
 have i1:=Lp (mx:=mx) c.drafts f.name (by omega);have f1:=WR (mx:=mx) c f (by omega) (by omega);have n1:=mr (mx:=mx) c f.name h1 h2 h3;have zR:=my c f.name;have hR:=Ng.eq_1 c f;rw[H0]at f1⊢;refine MX dF ?_;by_cases hv:f.version=0
 ·rw[if_neg (by omega)]at hR;rcases GZ c.drafts f.name with⟨e,_⟩|⟨i,e,hi,_⟩
  ·rw[e]at i1 hR;rw[if_neg (by omega)]at hR;by_cases qu:GT c f=0
   ·rw[if_neg (by omega)]at hR;rw[qu]at f1;by_cases hnw:1099511627776<=HZ c f.name
    ·rw[if_pos hnw]at hR;rw[hR]
     (repeat' first|simp(disch:=omega)only[go_sem,simprocAttr,LJ,eq_true hv,ne_eq,not_true_eq_false,decide_false,decide_true,eq_true hnw]|refine Sx.s ?_ ?_<;>try(intro h;have h':=h;try simp only[HB]at h';try simp only[h])|refine Ab (i1) ?_|refine Ab (f1) ?_|refine Ab (n1) ?_|refine Aa ?_|refine Sz.s ?_|fail)
     all_goals(try rfl)
    ·rw[if_neg hnw]at hR;rw[hR];have s1:=Lr (mx:=mx) c.drafts (Nf f (HZ c f.name+1)) (by omega);rw[H0]at s1;simp only[Nf]at s1
     (repeat' first|simp(disch:=omega)only[go_sem,simprocAttr,LJ,eq_true hv,ne_eq,not_true_eq_false,decide_false,decide_true,eq_false hnw]|refine Sx.s ?_ ?_<;>try(intro h;have h':=h;try simp only[HB]at h';try simp only[h])|refine Ab (i1) ?_|refine Ab (f1) ?_|refine Ab (n1) ?_|refine Ab (s1) ?_|refine Aa ?_|refine Sz.s ?_|fail)
     all_goals(try rfl)
   ·rw[if_pos qu]at hR;rw[hR];have hn:(GT c f=0)=False:=eq_false qu
    (repeat' first|simp(disch:=omega)only[go_sem,simprocAttr,LJ,eq_true hv,ne_eq,not_true_eq_false,not_false_eq_true,decide_false,decide_true,hn]|refine Sx.s ?_ ?_<;>try(intro h;have h':=h;try simp only[HB]at h';try simp only[h])|refine Ab (i1) ?_|refine Ab (f1) ?_|refine Aa ?_|refine Sz.s ?_|fail)
    all_goals(try rfl)
  ·rw[e]at i1 hR;rw[if_pos (by omega)]at hR;rw[hR];have hF2:(0<=(i:Int))=True:=eq_true (by omega)
   (repeat' first|simp(disch:=omega)only[go_sem,simprocAttr,LJ,eq_true hv,ne_eq,not_true_eq_false,decide_false,decide_true,hF2]|refine Sx.s ?_ ?_<;>try(intro h;have h':=h;try simp only[HB]at h';try simp only[h])|refine Ab (i1) ?_|refine Aa ?_|refine Sz.s ?_|fail)
   all_goals(try rfl)
 ·rw[if_pos hv]at hR;rw[hR];have hn:(f.version=0)=False:=eq_false hv
  (repeat' first|simp(disch:=omega)only[go_sem,simprocAttr,LJ,hn,ne_eq,not_false_eq_true,decide_true]|refine Aa ?_|refine Sz.s ?_|fail)
  all_goals(try rfl)
end
end Go.Proofs.YtojgbkiejjingaaGreatDoor
