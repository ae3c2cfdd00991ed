/-
  Lemmas, no statement.
-/
import Derived.Test.YtojgbkiejjingaaGreatDoorK45
set_option linter.all false
set_option maxRecDepth 100000
set_option maxHeartbeats 8000000
namespace Go.Proofs.YtojgbkiejjingaaGreatDoor
open Go Go.Dl Go.As Go.Proofs
variable {mx:Int}
attribute[local irreducible] Ah Aj MC W W2 FA ev evD step Ae
section
theorem Pj{α:Type}{A B B' C L:List α}{n:Nat}(hL:L=A++B++C)(hn:A.length=n)(h:B.length=B'.length):setL L n B'=A++B'++C:=by grind[setL]
theorem oB{α:Type}(f:α->List I)(l:List α)(k c:Nat)(hk:k<l.length):setL (List.map some (List.map f l)++List.replicate (c+1) none) (k+1) (List.map some (List.map f (l.drop k)))=List.map some ((l.take (k+1)++l.drop k).map f)++List.replicate c none:=by
 rw[Pj (A:=List.map some (List.map f (l.take (k+1)))) (B:=List.map some (List.map f (l.drop (k+1)))++[none]) (C:=List.replicate c none)]
 ·simp
 ·simp only[List.replicate_succ,List.map_map,List.map_take,List.map_drop];simp only[List.append_assoc,List.cons_append,List.nil_append];rw[<-List.append_assoc (List.take _ _),List.take_append_drop]
 ·simp;omega
 ·simp;omega
theorem oC{α:Type}(f:α->List I)(l:List α)(x:α)(k c:Nat)(hk:k<l.length):setL (List.map some ((l.take (k+1)++l.drop k).map f)++List.replicate c none) k [some (f x)]=List.map some ((BV l k x).map f)++List.replicate c none:=by
 rw[Pj (A:=List.map some (List.map f (l.take k))) (B:=[some (f l[k])]) (C:=List.map some (List.map f (l.drop k))++List.replicate c none)]
 ·simp[BV]
 ·simp only[List.map_append,List.map_map,List.map_take,List.map_drop];rw[List.take_succ_eq_append_getElem (by simpa using hk)];simp
 ·simp;omega
 ·rfl
@[simp] theorem vF(e k:Nat)(rs:List (Option (List I))):(Blk.arr e k rs).nms=[]:=rfl
@[go_sem] theorem vG(st:St)(K:St->Prop)(nm k lo hi d:Nat):IE (.ref (.sl nm k lo hi)) d st K=Ho (Ac st.sto nm) lo hi d st K:=rfl
@[go_sem] theorem vH(st:St)(K:St->Prop)(e k:Nat)(rs:List (Option (List I)))(lo hi d:Nat):Ho (some (.arr e k rs)) lo hi d st K=K (st.put d (.i (.int .i64 ((rs.length-lo:Nat):Int)))):=rfl
@[go_sem] theorem vI(st:St)(K:St->Prop)(nm k0 lo hi:Nat)(y:D)(d:Option Nat)(e k:Nat):IH (.ref (.sl nm k0 lo hi)) y d e k st K=Hp (Ac st.sto nm) nm k0 lo hi (FH (Ac st.sto) y (hi-lo)) d e k st K:=rfl
@[go_sem] theorem vJ(st:St)(K:St->Prop)(e' k':Nat)(rs:List (Option (List I)))(nm k0 lo hi len:Nat)(ys:List (List I))(d:Option Nat)(e k:Nat):Hp (some (.arr e' k' rs)) nm k0 lo hi (some (len,ys)) d e k st K=(e'=e/\k'=k/\k0=k/\hi<=rs.length/\IG k ys/\K (putO (st.setB nm (.arr e k (setL rs lo (ys.map some)))) d (.i (.int .i64 ((min len (hi-lo):Nat):Int))))):=rfl
@[go_sem] theorem vK(st:St)(K:St->Prop)(nm k0 lo hi:Nat)(q:IntKind)(m:Int)(d e k b:Nat)(z:List I):IJ (.ref (.sl nm k0 lo hi)) (.i (.int q m)) d e k b z st K=Hs (Ac st.sto nm) (Ac st.sto d) nm k0 lo hi d e k b m z st K:=rfl
@[go_sem] theorem vL(st:St)(K:St->Prop)(e' k':Nat)(rs:List (Option (List I)))(fr:Option Blk)(nm k0 lo hi d e k bb:Nat)(m:Int)(z:List I):Hs (some (.arr e' k' rs)) fr nm k0 lo hi d e k bb m z st K=(0<=m/\m<=140737488355328/\m*(bb:Int)<=140737488355328/\Hq fr e' k' rs nm k0 lo hi d e k bb (List.replicate m.toNat z) st K):=rfl
theorem oD{α:Type}(f:α->List I)(l:List α)(x:List I)(c:Nat):setL (List.map some (List.map f l)++List.replicate (c+1) none) l.length [some x]=List.map some (List.map f l++[x])++List.replicate c none:=by rw[setL,List.take_left' (by simp),List.length_singleton,<-List.drop_drop,List.drop_left' (by simp)];simp
end
section

end
section

end
section
theorem oE(l:List Tbl)(hl:l.length<=1073741824):MC Tryz.prog (Nt mx) 156 [.i (.sl (l.map AP))] [] []
  (fun r s=>r=.ref (.sl 6000 4 0 l.length)/\s=[(6000,.rows 38 4 (l.map AP))]):=by
 refine MX dp ?_;have hr:=BH (f:=AP) (k:=4) l Ls Lt
 (repeat' first|simp(disch:=omega)only[go_sem,reduceCtorEq,Nat.reduceSub,Nat.reduceEqDiff,Nat.reduceLeDiff,Nat.zero_add]|refine KX (fun h=>?_) (fun h=>?_)<;>(have h':=h;try simp only[HB]at h';try rewrite [h];try simp only[h])|refine Aa ?_|refine co (fun k8 b=>?_) (fun k8=>?_)|fail)
 ·have e:l=[]:=by simpa using k8
  subst e;cases h';refine F3 [(2,6000)] (by simp only[go_sem,wF];rfl) (by simp[YR];rfl) (by decide) (by simp[V0,Fz,GF,Ref.nm]) ?_;simp[YR]
 ·refine⟨hr.1,hr.2,by omega,by omega,?_⟩;refine F3 [(5,6000)] (by simp only[go_sem,wF];rfl) (by simp[YR];rfl) (by decide) (by simp[V0,Fz,GF,Ref.nm]) ?_;simp[YR]
 ·simp at h
 ·refine⟨hr.1,hr.2,by omega,by omega,?_⟩;refine F3 [(5,6000)] (by simp only[go_sem,wF];rfl) (by simp[YR];rfl) (by decide) (by simp[V0,Fz,GF,Ref.nm]) ?_;simp[YR]
theorem oF{α:Type}(E:α->List I)(hE1:∀x,(E x).length=4)(f:α)(rs:List (Option (List I)))(lo hi:Nat):MC Tryz.prog (Nt mx) 197 [.i (.sl [E f]),.ref (.sl 5000 4 lo hi)] [(5000,.arr 38 4 rs)] [] (fun r s=>r=.i (.bool false)/\s=[(5000,.arr 38 4 rs)]):=by
 have hc:∀vs w,(callFunc 197 vs).run Tryz.prog w=((Extern.SlicesOverlaps.overlaps #[62,62] #[4] vs).run Tryz.prog w).andThen fun v w'=>.ok (.value v) w':=
  fun vs w=>run_callFunc_extern Tryz.func197 (by kernel_rfl) (by kernel_rfl) (by kernel_rfl) (by kernel_rfl) vs w
 exact oA _ rs lo hi (by decide) (by intro r hr;rw[List.mem_singleton.1 hr];exact hE1 f) hc (by kernel_rfl) (fun w=>by rfl) (by decide)
theorem oG{α:Type}(E:α->List I)(hE1:∀x,(E x).length=4)(hE2:∀x,(E x).all I.one=true)(l:List α)(k:Nat)(f:α)(hl:l.length<=1073741824)(hk:k<=l.length):MC Tryz.prog (Nt mx) 155 [.ref (.sl 5000 4 0 l.length),.i (iI k),.i (.sl [E f])] [(5000,.rows 38 4 (l.map E))] [5000]
  (fun r s=>∃nm,(nm=5000\/nm=6000)/\r=.ref (.sl nm 4 0 (l.length+1))/\s=[(nm,.rows 38 4 ((BV l k f).map E))]):=by
 refine MC.rowsOut (cz (R:=fun r s=>∃nm,(nm=5000\/nm=6000)/\r=.ref (.sl nm 4 0 (l.length+1))/\∃j,s=[(nm,.arr 38 4 (((BV l k f).map E).map some++j))]) fun c=>?_) fun r s ⟨nm,hn,hr,j,hs⟩=>⟨nm,_,_,_,j,[],hs,nm,hn,hr,rfl⟩
 have h1:=BH (l.take k) hE1 hE2;have h2:=BH (l.drop k) hE1 hE2;have h0:=BH l hE1 hE2;have hf:=BH [f] hE1 hE2;have e0:(k:Int).toNat=k:=by omega
 refine MX dn ?_;by_cases hkn:k=l.length
 ·subst hkn
  (repeat' first|simp(disch:=omega)only[go_sem,reduceCtorEq,Nat.reduceAdd,Nat.reduceEqDiff,Nat.reduceLeDiff,Nat.zero_add,Nat.sub_zero,Nat.le_add_right]|refine KX (fun h=>?_) (fun h=>?_)<;>(have h':=h;try simp only[HB]at h';try rewrite [h];try simp only[h])|refine Aa ?_|(refine And.intro ?_ ?_;focus omega))
  ·simp at h
  ·refine⟨hf,fun kg=>?_,fun hfull=>⟨l.map E,?_,h0,by omega,by omega,fun c1=>?_⟩⟩
   ·obtain⟨c,rfl⟩:∃d,c=d+1:=⟨c-1,by simp at kg;omega⟩;generalize hq:setL (List.map some (List.map E l)++List.replicate (c+1) none) l.length [some (E f)]=q;have hz:q=List.map some ((BV l l.length f).map E)++List.replicate c none:=by grind[oD,BV]
    refine F3 [(5000,5000)] (s':=[(5000,.arr 38 4 q)]) rfl rfl (by decide) rfl ⟨5000,.inl rfl,rfl,List.replicate c none,?_⟩;rw[<-hz];rfl
   ·rw[List.take_left' (by simp),Nr]
   ·generalize hq:List.map some (List.map E l++[E f])++List.replicate c1 (none:Option (List I))=q;have hz:q=List.map some ((BV l l.length f).map E)++List.replicate c1 none:=by grind[BV]
    refine F3 [(25,6000)] (s':=[(25,.arr 38 4 q)]) rfl rfl (by decide) rfl ⟨6000,.inr rfl,rfl,List.replicate c1 none,?_⟩;rw[<-hz];rfl
 ·have e1:((k:Int)=(l.length:Int))=False:=by simp;omega
  have e2:((0:Nat):Int)+1=1:=rfl;have e3:(List.map some (List.map E l)++List.replicate c (none:Option (List I))).length=l.length+c:=by simp
  have e9:((l.length:Int)+1).toNat=l.length+1:=by omega
  have e10:((k:Int)+1).toNat=k+1:=by omega
  rcases Nat.eq_zero_or_pos c with qb|qb
  ·subst qb;have e4:(((l.length:Int)+1)>((l.length+0:Nat):Int))=True:=by simp;omega
   have e5:((l.length:Int)+1-(k:Int)).toNat=l.length+1-k:=by omega
   (repeat' first|simp(disch:=omega)only[go_sem,reduceCtorEq,Int.reduceLE,Int.reduceEq,Int.reduceAdd,Nat.reduceAdd,Nat.reduceEqDiff,Nat.zero_add,Nat.sub_zero,e0,e1,e2,e3,e4,e5,List.length_replicate]|refine Aa ?_|(refine And.intro ?_ ?_;focus omega))
   refine⟨⟨fun r hr=>by rw[(List.mem_replicate.1 hr).2];rfl,fun r hr=>by rw[(List.mem_replicate.1 hr).2];rfl⟩,fun h=>absurd h (by omega),fun _=>⟨(l.take k).map E,by rw[List.take_append_of_le_length (by simp;omega),<-List.map_take,<-List.map_take,Nr],h1,by omega,by omega,fun c1=>?_⟩⟩;have e6:k+(l.length+1-k)=l.length+1:=by omega
   generalize hz0:([.str [],.str [],.sl [],.int .i64 0]:List I)=z0;have e8:(List.take k l).length+(List.replicate (l.length+1-k) z0).length+(List.replicate c1 (none:Option (List I))).length=l.length+1+c1:=by simp;omega
   have e11:List.take (l.length+1-k) [E f]=[E f]:=List.take_of_length_le (by simp;omega);have e7:setL (List.map some (List.map E (List.take k l)++List.replicate (l.length+1-k) z0)++List.replicate c1 none) k [some (E f)]=List.map some (List.map E (List.take k l)++[E f]++List.replicate (l.length-k) z0)++List.replicate c1 none:=by
    have:l.length+1-k=(l.length-k)+1:=by omega
    grind[Pj]
   (repeat' first|simp(disch:=omega)only[go_sem,reduceCtorEq,Nat.reduceEqDiff,Nat.zero_add,Nat.sub_zero,Nat.le_add_right,e0,e6,e7,e8,e9,e11]|(refine And.intro ?_ ?_;focus omega))
   refine⟨hf,?_⟩
   (repeat' first|simp(disch:=omega)only[go_sem,reduceCtorEq,Nat.reduceEqDiff,Nat.zero_add,Nat.sub_zero,e9,e10]|refine Am ?_|(refine And.intro ?_ ?_;focus omega))
   have e18:(List.take k l).length+1+(List.replicate (l.length-k) z0).length+(List.replicate c1 (none:Option (List I))).length=l.length+1+c1:=by simp;omega
   have e19:setL (List.map some (List.map E (List.take k l)++[E f]++List.replicate (l.length-k) z0)++List.replicate c1 none) (k+1) (List.map some (List.map E (List.drop k l)))=List.map some (List.map E (BV l k f))++List.replicate c1 none:=by grind[Pj,BV]
   have e12:min l.length (k+(l.length+1-(k+1)))=l.length:=by omega
   have e13:E4 (List.drop k (List.take l.length (List.map some (List.map E l)++List.replicate 0 none)))=some ((l.drop k).map E):=by rw[List.take_left' (by simp),<-List.map_drop,Nr,List.map_drop]
   have e20:((k:Int)+1<=(l.length:Int)+1)=True:=by simp;omega
   (repeat' first|simp(disch:=omega)only[go_sem,reduceCtorEq,Nat.reduceEqDiff,Nat.zero_add,Nat.sub_zero,Nat.le_add_right,e0,e3,e18,e19,e12,e13,e20]|(refine And.intro ?_ ?_;focus omega))
   refine⟨h2,?_⟩;generalize hq:List.map some (List.map E (BV l k f))++List.replicate c1 (none:Option (List I))=q;refine F3 [(40,6000)] (s':=[(40,.arr 38 4 q)]) rfl rfl (by decide) rfl ⟨6000,.inr rfl,rfl,List.replicate c1 none,?_⟩;rw[hq];rfl
  ·obtain⟨c,rfl⟩:∃d,c=d+1:=⟨c-1,by omega⟩;have zW:k<l.length:=by omega
   have e4:(((l.length:Int)+1)>((l.length+(c+1):Nat):Int))=False:=by simp;omega
   have m1:=oF (mx:=mx) E hE1 f (List.map some (List.map E l)++List.replicate (c+1) none) (k+1) (l.length+1);have e12:min (l.length+1) (k+(l.length+1-(k+1)))=l.length:=by omega
   have e13:E4 (List.drop k (List.take l.length (List.map some (List.map E l)++List.replicate (c+1) none)))=some ((l.drop k).map E):=by rw[List.take_left' (by simp),<-List.map_drop,Nr,List.map_drop]
   have e11:List.take (l.length+1-k) [E f]=[E f]:=List.take_of_length_le (by simp;omega);have e14:=oB E l k c zW;have e15:=oC E l f k c zW;have e16:(List.map some (List.map E (List.take (k+1) l++List.drop k l))++List.replicate c (none:Option (List I))).length=l.length+1+c:=by simp;omega
   (repeat' first|simp(disch:=omega)only[go_sem,reduceCtorEq,Int.reduceLE,Int.reduceEq,Nat.reduceAdd,Nat.reduceEqDiff,Nat.reduceLT,Nat.zero_add,Nat.sub_zero,Nat.le_add_right,e0,e1,e2,e3,e4,e9,e10,e12,e13,e14]|refine Aa ?_|(refine JX (m1) ?_ (by simp[V0,Fz]) (by simp[V0,Fz,GF,Ref.nm]) (fun r sto' hR=>?_);(focus(first|rfl|(simp only[go_sem,reduceCtorEq,Int.reduceToNat,Int.reduceNeg,Int.reduceLT,Int.reduceLE,Int.reduceEq,Int.reduceAdd,Int.reduceSub,Int.reduceMul,Nat.reduceAdd,Nat.reduceSub,Nat.reduceMul,Nat.reduceEqDiff,Nat.reduceBEq,Nat.reduceBneDiff,Nat.reduceLeDiff,Nat.reduceLT,reduceIte,Nat.zero_add,Nat.sub_zero,h0,h1,h2,hf,Nat.le_add_right,e0,e1,e2,e3,e4,e9,e10,e12,e13,e11,e14,e15,e16];done)));first|(obtain⟨rfl,rfl⟩:=hR)|(obtain⟨_,(rfl|rfl),rfl,rfl⟩:=hR))|refine Am ?_|(refine And.intro ?_ ?_;focus omega))
   refine⟨h2,?_⟩;have e17:(List.take (k+1) l).length+(List.drop k l).length+(List.replicate c (none:Option (List I))).length=l.length+1+c:=by simp;omega
   (repeat' first|simp(disch:=omega)only[go_sem,reduceCtorEq,Nat.reduceEqDiff,Nat.zero_add,Nat.sub_zero,Nat.le_add_right,e0,e9,e11,e15,e16]|(refine And.intro ?_ ?_;focus omega))
   refine⟨hf,?_⟩;generalize hq:List.map some (List.map E (BV l k f))++List.replicate c (none:Option (List I))=q;refine F3 [(5000,5000)] (s':=[(5000,.arr 38 4 q)]) rfl rfl (by decide) rfl ⟨5000,.inl rfl,rfl,List.replicate c none,?_⟩;rw[hq];rfl
theorem oH(l:List Tbl)(k:Nat)(f:Tbl)(hl:l.length<=1073741824)(hk:k<=l.length):MC Tryz.prog (Nt mx) 155 [.ref (.sl 5000 4 0 l.length),.i (iI k),.i (.sl [AP f])] [(5000,.rows 38 4 (l.map AP))] [5000]
  (fun r s=>∃nm,(nm=5000\/nm=6000)/\r=.ref (.sl nm 4 0 (l.length+1))/\s=[(nm,.rows 38 4 ((BV l k f).map AP))]):=oG (mx:=mx) AP Ls Lt l k f hl hk
theorem oI(nm:Nat)(hn:nm<5000)(l:List Tbl)(k:Nat)(f:Tbl)(hl:l.length<=1073741824)(hk:k<=l.length):MC Tryz.prog (Nt mx) 155 [.ref (.sl nm 4 0 l.length),.i (iI k),.i (.sl [AP f])] [(nm,.rows 38 4 (l.map AP))] [nm]
  (fun r s=>∃m,(m=nm\/m=6000)/\r=.ref (.sl m 4 0 (l.length+1))/\s=[(m,.rows 38 4 ((BV l k f).map AP))]):=by
 have e1:LL [(5000,nm)] 5000=nm:=by rfl
 have e2:LL [(5000,nm)] 6000=6000:=by grind[LL,sw]
 have h:=(MC.as [(5000,nm)] (oH (mx:=mx) l k f hl hk)).mono (R':=fun r s=>∃m,(m=nm\/m=6000)/\r=.ref (.sl m 4 0 (l.length+1))/\s=[(m,.rows 38 4 ((BV l k f).map AP))]) (by
  rintro r s ⟨m,hm,h1,h2⟩;have k:=El (f:=Ih [(5000,nm)]) (g:=LL [(5000,nm)]) (Cq _) r;have k2:=FN (f:=Ih [(5000,nm)]) (g:=LL [(5000,nm)]) (Cq _) s;rw[h1]at k;rw[h2]at k2;rcases hm with rfl|rfl
  ·refine⟨nm,.inl rfl,?_,?_⟩
   ·rw[<-k];simp only[If,Nv,e1]
   ·rw[<-k2];simp only[Ig,KC,e1]
  ·refine⟨6000,.inr rfl,?_,?_⟩
   ·rw[<-k];simp only[If,Nv,e2]
   ·rw[<-k2];simp only[Ig,KC,e2])
 simp only[List.map_cons,List.map_nil,If,Nv,Ig,KC,e1]at h;exact h
end
section
theorem oJ(l:List Tbl):Is mx 154 [.sl (l.map AP)] (.fn 196 [] [.elt [.sl (l.map AP)] 0]):=by
 refine MX dm ?_
 (repeat' first|simp(disch:=omega)only[go_sem,reduceCtorEq,Nat.reduceEqDiff]|refine CD (R:=Sf _) ?_|fail)
 all_goals(try rfl)
def LE(l:List Tbl):List (List I):=(List.range l.length).map fun j:Nat=>[iI ((l.length:Int)-1-(j:Int)),.agg (AP (l.getD (l.length-1-j) default))]
theorem Yi(l:List Tbl):(LE l).length=l.length:=by simp[LE]
theorem Yj(l:List Tbl){j:Nat}(h:j<l.length):(LE l).getD j []=[iI ((l.length:Int)-1-(j:Int)),.agg (AP (l.getD (l.length-1-j) default))]:=by unfold LE;rw[List.getD_eq_getElem?_getD,List.getElem?_map,List.getElem?_range h];rfl
theorem oK(l:List Tbl)(hl:l.length<=1073741824):Em Tryz.prog (Nt mx) 196 [.elt [.sl (l.map AP)] 0] (LE l):=by
 intro y m mv N go hV hm hN hgo qa hy;rw[Yi]at hN qa;have hk:∀k,Pu mv (m k)=true:=fun k=>(hm k).1
 have g1:∀k q,q<5000->Ac (m k) q=none:=fun k q hq=>Nn (hk k) hq
 have g2:∀k q b,q<5000->Pt q b (m k)=m k:=fun k q b hq=>Pa (hk k) hq b
 have g3:∀k q,q<5000->BC (m k) q=m k:=fun k q hq=>Pb (hk k) hq
 have g4:∀k,Bl (m k) (m k)=True:=fun k=>eq_true (Kw (hk k))
 have g5:∀k,Ps (m k) (m k)=true:=fun k=>Ep (hk k)
 have fin:∀(E:Env),DJ [] ((m 0).map (·.1)) mv (fun r s=>r=.i (.tup [])/\s=m N) ⟨E,m N⟩:=fun E=>No (own:=[]) (hk N) rfl ⟨rfl,rfl⟩
 refine MX dR ?_ (hpin:=Pc (hk 0))
 (repeat' first|simp(disch:=omega)only[go_sem,reduceCtorEq,Nat.reduceAdd,Nat.reduceEqDiff,List.map_cons,List.map_nil]|fail)
 refine AA [0,1] (by simp only[V0,G4,reduceIte,Nat.reduceEqDiff];rfl) (fun i:Nat=>[(3,.i (iI ((l.length:Int)-1-i)))]) (fun i=>m i)
  (fun i=>i<=N/\(i=N->N=l.length)) (fun i=>l.length-i) 0 ⟨by omega,fun h=>by
   by_cases jl:N<l.length
   ·have:=(qa jl).1;omega
   ·omega⟩ (by simp[V0,Fz,GF,g4,g5]) ?_
 rintro i ⟨hi,hiN⟩;by_cases ja:i<l.length
 ·have hcN:i<N:=by
   rcases Nat.lt_or_ge i N with q|q
   ·exact q
   ·have:=hiN (by omega);omega
  have y1:=hy _ hcN;rw[Yj l ja]at y1;have e1:(l.length:Int)-1-i=((l.length-1-i:Nat):Int):=by omega
  have zR:decide (0<=(l.length:Int)-1-i)=true:=decide_eq_true (by omega);have jl:l.length-1-i<l.length:=by omega
  rw[e1]at y1;rw[e1]at zR;simp only[e1]
  (repeat' first|simp(disch:=omega)only[go_sem,reduceCtorEq,Nat.reduceAdd,Nat.reduceEqDiff,Ck jl]|refine Aa ?_|fail)
  simp only[AP]at y1;refine QJ (own:=[]) (mj:=m i) (mk:=m (i+1)) y1 (fun s e=>by cases e;decide) (by simp only[Dr,EE,go_sem,reduceCtorEq,Nat.reduceEqDiff,List.map_cons,List.map_nil,List.append_nil,List.nil_append]) (hk _) (hk _) ((hm _).2.trans (hm _).2.symm) hV rfl [0,1,3,8] (by simp only[V0,G4,reduceIte,Nat.reduceEqDiff];rfl) (by simp only[go_sem,List.all_cons,List.all_nil]) ?_;cases hgk:go i
  ·(repeat' first|simp(disch:=omega)only[go_sem,reduceCtorEq,Nat.reduceEqDiff,List.nil_append]|fail)
   have hkN:i+1=N:=by
    rcases Nat.lt_or_ge (i+1) N with q|q
    ·have:=hgo i q;rw[hgk]at this;cases this
    ·omega
   rw[hkN];exact fin _
  ·(repeat' first|simp(disch:=omega)only[go_sem,reduceCtorEq,Nat.reduceEqDiff,List.nil_append]|fail)
   have e2:((l.length-1-i:Nat):Int)-1=(l.length:Int)-1-((i+1:Nat):Int):=by omega
   refine⟨i+1,⟨by omega,fun h=>?_⟩,by omega,by rw[e2],by first|exact Kw (hk _)|exact⟨Kw (hk _),g5 _⟩⟩;rcases Nat.lt_or_ge N l.length with q|q
   ·have h2:=(qa q).2;have h3:N-1=i:=by omega
    rw[h3,hgk]at h2;cases h2
   ·omega
 ·have e:i=l.length:=by omega
  subst e;have zR:decide (0<=(l.length:Int)-1-l.length)=false:=decide_eq_false (by omega)
  (repeat' first|simp(disch:=omega)only[go_sem,reduceCtorEq,Nat.reduceEqDiff,zR]|refine Aa ?_|fail)
  rw[show l.length=N by omega];exact fin _
def Ky(c:Cat)(t:Tbl):Cat×Int:=if(A5 c.tables t.name).isSome=true then(c,121)else({c with tables:=DA c.tables t},0)
theorem oL(l:List Tbl)(name:Bs):DQ l name<=l.length:=(List.takeWhile_prefix _).length_le
def rD(l:List Tbl)(name:Bs)(i:Nat):Nat:=i+DQ (l.drop i) name
theorem Yk(l:List Tbl)(name:Bs):rD l name l.length=l.length:=by simp[rD,DQ]
theorem Yl(l:List Tbl)(name:Bs){i:Nat}(h:i<l.length):rD l name i=if rp (l.getD i default).name name=true then rD l name (i+1)else i:=by unfold rD;rw[List.drop_eq_getElem_cons h,A7 h];unfold DQ;rw[List.takeWhile_cons];split<;>simp;omega
theorem oM{l:List Tbl}{name:Bs}(h:(A5 l name).isSome=false):∀t∈l,t.name≠name:=by intro t ht e;unfold A5 at h;simp at h;exact h t ht e
theorem oO{l:List Tbl}{name:Bs}(h:(A5 l name).isSome=true):∃p,p<l.length/\(l.getD p default).name=name/\∀k,p<k->k<l.length->(l.getD k default).name≠name:=by
 have hx:∃t∈l,t.name=name:=by unfold A5 at h;simpa using h
 clear h
 induction l with
 |nil=>obtain⟨t,ht,_⟩:=hx;cases ht
 |cons a r ih=>
  by_cases hr:∃t∈r,t.name=name
  ·obtain⟨p,h1,h2,h3⟩:=ih hr;refine⟨p+1,by simpa using h1,by simpa using h2,fun k hk hl=>?_⟩;cases k with
   |zero=>omega
   |succ k=>simpa using h3 k (by omega) (by simpa using hl)
  ·obtain⟨t,ht,e⟩:=hx;rcases List.mem_cons.1 ht with rfl|ht
   ·refine⟨0,by simp,by simpa using e,fun k hk hl=>?_⟩;cases k with
    |zero=>omega
    |succ k=>
     have hl2:k<r.length:=by simpa using hl
     intro e2;exact hr ⟨r.getD k default,AE hl2,by simpa using e2⟩
   ·exact absurd ⟨t,ht,e⟩ hr
theorem oP(c:Cat)(x:Chg)(hl:c.tables.length<=1073741823):Is mx 107 [.agg (Aw c),.agg (AD x)] (LJ (Ky c x.table)):=by
 have b1:=oJ (mx:=mx) c.tables;have hs:=oK (mx:=mx) c.tables (by omega);have hx:=@Yj c.tables;have vk:=Yi c.tables;generalize LE c.tables=xs at hs hx vk;refine MX cR ?_
 (repeat' first|simp(disch:=omega)only[go_sem,reduceCtorEq,Nat.reduceAdd,Nat.reduceEqDiff,Nat.reduceLeDiff]|refine Ab (b1) ?_|refine HD ?_ ?_|fail)
 cases ht:(A5 c.tables x.table.name).isSome
 ·have hno:=oM ht;rw[Ky,if_neg (by rw[ht];simp)];refine K0 (gf:=196) rfl (by kernel_rfl) hs [(2,5002),(4,5004),(5,5005),(6,5006)] [.any,.any,.ref (.loc 5002 0),.i (.elt (AD x) 0),.ref (.loc 5004 0),.ref (.loc 5005 0),.ref (.loc 5006 0),.any,.any,.any,.any,.any,.any,.any,.any,.any,.any,.any,.any,.any,.any,.any,.any,.any,.any,.any,.any,.any,.any,.any,.any,.any,.any,.any,.any,.any,.any,.any,.any,.any,.any] (fun j=>[(5002,.cells ((Aw c).map .i)),(5004,.cells Nd),(5005,.cells [.i (iI 0)]),(5006,.cells [.i (iI (rD c.tables x.table.name (c.tables.length-j)))])]) [] xs.length .none
   ⟨by simp,fun _=>by simp,fun h=>absurd rfl h⟩ rfl (fun j hj=>⟨rfl,rfl,rfl,rfl⟩) rfl (by simp[GA,Af,B2,If,Nv,Ih,sw]) rfl (by simp[Ig,KC,If,Ih,sw,Bl,Ac,Yk,Aw]) (fun j hj=>⟨by rw[hx (by omega)];rfl,?_⟩) ?_
  ·have hj2:j<c.tables.length:=by omega
   have jl:c.tables.length-1-j<c.tables.length:=by omega
   have jk:=Yl c.tables x.table.name jl;have e2:c.tables.length-j=c.tables.length-1-j+1:=by omega
   have e3:c.tables.length-(j+1)=c.tables.length-1-j:=by omega
   have e4:(c.tables.length:Int)-1-(j:Int)=((c.tables.length-1-j:Nat):Int):=by omega
   rw[hx hj2,ite_self,e2,e3,e4,jk];have jh:=hno _ (AE jl);generalize c.tables.getD (c.tables.length-1-j) default=t at jh⊢;unfold rp;simp only[D0,C3,Nat.reduceAdd];cases hb:Op.bytesLess t.name x.table.name
   ·(repeat' first|simp(disch:=omega)only[go_sem,reduceCtorEq,Nat.reduceAdd,Nat.reduceEqDiff,Nat.reduceLeDiff,Dw,aT,Cg,eq_false jh,decide_false,Bool.or_false,hb]|refine Aa ?_|fail)
    all_goals(refine⟨rfl,[],?_⟩;simp(disch:=omega)only[go_sem,Nat.reduceEqDiff];try exact⟨rfl,rfl,rfl,rfl⟩)
   ·(repeat' first|simp(disch:=omega)only[go_sem,reduceCtorEq,Nat.reduceAdd,Nat.reduceEqDiff,Nat.reduceLeDiff,Dw,aT,Cg,eq_false jh,decide_false,Bool.or_false,hb]|refine Aa ?_|fail)
    all_goals(refine⟨rfl,[],?_⟩;simp(disch:=omega)only[go_sem,Nat.reduceEqDiff];try exact⟨rfl,rfl,rfl,rfl⟩)
  ·refine⟨by simp[Ig,KC,If,Ih,sw,AY,ren,Ac],by simp[Ig,KC,If,Ih,sw,ren,Ac],rfl,?_⟩;show C5 0 _ .normal _;have hz:rD c.tables x.table.name (c.tables.length-xs.length)=DQ c.tables x.table.name:=by rw[vk,Nat.sub_self];simp[rD]
   rw[hz];have ji:=oL c.tables x.table.name;have m1:=oE (mx:=mx) c.tables (by omega);have m2:=oI (mx:=mx) 33 (by decide) c.tables (DQ c.tables x.table.name) x.table (by omega) ji;have e5:(DA c.tables x.table).length=c.tables.length+1:=by unfold DA BV;simp;omega
   unfold DA at e5⊢;simp only[AP]at m2
   (repeat' first|simp(disch:=omega)only[go_sem,Nat.reduceAdd,Nat.reduceSub,Nat.reduceEqDiff,Nat.reduceBEq,Nat.reduceLeDiff,Ig,KC,If,Ih,sw,AY,ren,Cg,e5,rq,D.nms,List.append_nil,List.nil_append,List.contains_nil]|(refine UR (m1) ?_ rfl (fun r sto' hR=>?_);(focus(first|rfl|(simp only[go_sem,reduceCtorEq,Int.reduceToNat,Int.reduceNeg,Int.reduceLT,Int.reduceLE,Int.reduceEq,Int.reduceAdd,Int.reduceSub,Int.reduceMul,Nat.reduceAdd,Nat.reduceSub,Nat.reduceMul,Nat.reduceEqDiff,Nat.reduceBEq,Nat.reduceBneDiff,Nat.reduceLeDiff,Nat.reduceLT,reduceIte,Ig,KC,If,Nv,Ih,sw,AY,ren,Cg,e5,rq,D.nms,List.append_nil,List.nil_append,List.contains_nil];done)));first|(obtain⟨rfl,rfl⟩:=hR)|(obtain⟨_,(rfl|rfl),rfl,rfl⟩:=hR))|(refine JX (m2) ?_ (by simp[V0,Fz]) (by simp[V0,Fz,GF,Ref.nm]) (fun r sto' hR=>?_);(focus(first|rfl|(simp only[go_sem,reduceCtorEq,Int.reduceToNat,Int.reduceNeg,Int.reduceLT,Int.reduceLE,Int.reduceEq,Int.reduceAdd,Int.reduceSub,Int.reduceMul,Nat.reduceAdd,Nat.reduceSub,Nat.reduceMul,Nat.reduceEqDiff,Nat.reduceBEq,Nat.reduceBneDiff,Nat.reduceLeDiff,Nat.reduceLT,reduceIte,Ig,KC,If,Nv,Ih,sw,AY,ren,Cg,e5,rq,D.nms,List.append_nil,List.nil_append,List.contains_nil];done)));first|(obtain⟨rfl,rfl⟩:=hR)|(obtain⟨_,(rfl|rfl),rfl,rfl⟩:=hR))|refine Am ?_|refine CD (R:=Sf _) ?_|fail)
   all_goals rw[List.take_of_length_le (by rw[List.length_map,e5];exact Nat.le_refl _)];rfl
 ·obtain⟨p,hp,hpe,zG⟩:=oO ht;rw[Ky,if_pos ht];generalize hN:c.tables.length-p=N;refine K0 (gf:=196) rfl (by kernel_rfl) hs [(2,5002),(4,5004),(5,5005),(6,5006)] [.any,.any,.ref (.loc 5002 0),.i (.elt (AD x) 0),.ref (.loc 5004 0),.ref (.loc 5005 0),.ref (.loc 5006 0),.any,.any,.any,.any,.any,.any,.any,.any,.any,.any,.any,.any,.any,.any,.any,.any,.any,.any,.any,.any,.any,.any,.any,.any,.any,.any,.any,.any,.any,.any,.any,.any,.any,.any] (fun j=>[(5002,.cells ((Aw c).map .i)),(5004,.cells (if j=N then(Aw c).map .i else Nd)),(5005,.cells [.i (iI (if j=N then 121 else 0))]),(5006,.cells [.i (iI (rD c.tables x.table.name (c.tables.length-min j (N-1))))])]) [] N .ret
   ⟨by omega,fun h=>by simp at h,fun h=>by omega⟩ rfl (fun j hj=>by by_cases e:j=N<;>simp only[e,if_true,if_false]<;>exact⟨rfl,rfl,rfl,rfl⟩) rfl (by simp[GA,Af,B2,If,Nv,Ih,sw]) rfl (by
    have h0:¬(0=N):=by omega
    simp[Ig,KC,If,Ih,sw,Bl,Ac,Yk,Aw,h0]) (fun j hj=>⟨by rw[hx (by omega)];rfl,?_⟩) ?_
  ·have hj2:j<c.tables.length:=by omega
   have jl:c.tables.length-1-j<c.tables.length:=by omega
   have jk:=Yl c.tables x.table.name jl;have e1:min j (N-1)=j:=by omega
   have e2:c.tables.length-j=c.tables.length-1-j+1:=by omega
   have e4:(c.tables.length:Int)-1-(j:Int)=((c.tables.length-1-j:Nat):Int):=by omega
   have e6:¬(j=N):=by omega
   rw[hx hj2];simp only[e1,e2,e4,if_neg e6];by_cases hjN:j+1=N
   ·have e3:min (j+1) (N-1)=j:=by omega
    have e7:c.tables.length-1-j=p:=by omega
    have e8:c.tables.length-j=p+1:=by omega
    simp only[e3,if_pos hjN,e7,e8];simp only[D0,C3,Nat.reduceAdd];generalize c.tables.getD p default=t at hpe⊢
    (repeat' first|simp(disch:=omega)only[go_sem,reduceCtorEq,Nat.reduceAdd,Nat.reduceEqDiff,Nat.reduceLeDiff,Dw,aT,Cg,eq_true hpe]|refine Aa ?_|fail)
    all_goals(refine⟨rfl,[],?_⟩;simp(disch:=omega)only[go_sem,Nat.reduceEqDiff];try exact⟨rfl,rfl,rfl,rfl⟩)
   ·have e3:min (j+1) (N-1)=j+1:=by omega
    have e7:c.tables.length-(j+1)=c.tables.length-1-j:=by omega
    have jh:=zG (c.tables.length-1-j) (by omega) jl;simp only[e3,if_neg hjN,e7,jk];generalize c.tables.getD (c.tables.length-1-j) default=t at jh⊢;unfold rp;simp only[D0,C3,Nat.reduceAdd];cases hb:Op.bytesLess t.name x.table.name
    ·(repeat' first|simp(disch:=omega)only[go_sem,reduceCtorEq,Nat.reduceAdd,Nat.reduceEqDiff,Nat.reduceLeDiff,Dw,aT,Cg,eq_false jh,decide_false,Bool.or_false,hb]|refine Aa ?_|fail)
     all_goals(refine⟨rfl,[],?_⟩;simp(disch:=omega)only[go_sem,Nat.reduceEqDiff];try exact⟨rfl,rfl,rfl,rfl⟩)
    ·(repeat' first|simp(disch:=omega)only[go_sem,reduceCtorEq,Nat.reduceAdd,Nat.reduceEqDiff,Nat.reduceLeDiff,Dw,aT,Cg,eq_false jh,decide_false,Bool.or_false,hb]|refine Aa ?_|fail)
     all_goals(refine⟨rfl,[],?_⟩;simp(disch:=omega)only[go_sem,Nat.reduceEqDiff];try exact⟨rfl,rfl,rfl,rfl⟩)
  ·refine⟨by simp[Ig,KC,If,Ih,sw,AY,ren,Ac],by simp[Ig,KC,If,Ih,sw,ren,Ac],rfl,?_⟩;have h0:¬(0=N):=by omega
   simp only[if_true,if_neg h0];generalize rD c.tables x.table.name (c.tables.length-min 0 (N-1))=q1;generalize rD c.tables x.table.name (c.tables.length-min N (N-1))=q2;show C5 0 _ .ret _
   (repeat' first|simp(disch:=omega)only[go_sem,Nat.reduceAdd,Nat.reduceEqDiff,Ig,KC,If,Ih,sw,AY,ren,List.map_nil,List.map_cons]|refine CD (R:=Sf _) ?_|fail)
   rfl
end
section
def Ym(k:Int):Nat:=if k=1 then 107 else if k=2 then 110 else if k=3 then 113 else if k=4 then 115 else 116
def Sa(k:Int):Nat:=if k=1 then 108 else if k=2 then 111 else 114
def Ic:List (I×I):=[(iI 1,.agg [.fn 107 [] [],.fn 108 [] []]),(iI 2,.agg [.fn 110 [] [],.fn 111 [] []]),(iI 3,.agg [.fn 113 [] [],.fn 114 [] []]),(iI 4,.agg [.fn 115 [] [],.fn 114 [] []]),(iI 5,.agg [.fn 116 [] [],.fn 114 [] []])]
theorem oQ:Is mx 78 [] (.map Ic):=by
 refine MX y3 ?_
 (repeat' first|simp(disch:=omega)only[go_sem,simprocAttr]|refine Sz.s ?_|fail)
 rfl
theorem oR(x:Chg):Is mx 108 [.agg (AD x)] (.bool (decide (x.name=[])&&ER x.feature CI)):=by
 have n1:=Yh (mx:=mx) x.feature;rw[H0]at n1;refine MX cS ?_
 (repeat' first|exact Al _|simp(disch:=omega)only[go_sem,simprocAttr,Cg]|refine' Ao (fun hq=>?_) (fun f=>?_)<;>try(have jc:=hq;try simp only[HB]at jc)|refine Ab (n1) ?_|refine Sz.s ?_|fail)
theorem oS(x:Chg):Is mx 111 [.agg (AD x)] (.bool (decide (x.name=[])&&Ew x.table Bh)):=by
 have n1:=Yg (mx:=mx) x.table;refine MX cU ?_
 (repeat' first|exact Al _|simp(disch:=omega)only[go_sem,simprocAttr,Cg]|refine' Ao (fun hq=>?_) (fun f=>?_)<;>try(have jc:=hq;try simp only[HB]at jc)|refine Ab (n1) ?_|refine Sz.s ?_|fail)
theorem oT(x:Chg):Is mx 114 [.agg (AD x)] (.bool (Ew x.table Bh&&ER x.feature CI)):=by
 have n2:=Yg (mx:=mx) x.table;have n1:=Yh (mx:=mx) x.feature;rw[H0]at n1;refine MX cW ?_
 (repeat' first|exact Al _|simp(disch:=omega)only[go_sem,simprocAttr,Cg]|refine' Ao (fun hq=>?_) (fun f=>?_)<;>try(have jc:=hq;try simp only[HB]at jc)|refine Sx.s ?_ ?_<;>try(intro h;have h':=h;try simp only[HB]at h';try rewrite [h];try simp only[h])|refine Ab (n1) ?_|refine Ab (n2) ?_|refine Sz.s ?_|fail)
theorem Kz{α:Type}(p:α->α->Bool):∀l:List α,(∀x∈l,p x x=true)->eqL p l l=true
 |[],_=>rfl
 |x::l,h=>by simp only[eqL,h x List.mem_cons_self,Kz p l (fun y hy=>h y (List.mem_cons_of_mem _ hy)),Bool.and_self]
theorem Yn(x:Fac):Ev x x=true:=by simp[Ev]
theorem Yo(x:Typ):J9 x x=true:=by simp[J9,Kz,Ev,Yn]
theorem oU(x:Fld):Kc x x=true:=by simp[Kc,Yo]
theorem Yp(x:Tbl):Ew x x=true:=by grind[Ew,Kz,Kc,oU]
mutual
theorem Yq:∀x:Xpr,YT x x=true
 |.mk k o n t v u p w a=>by
  have h1:=eqXs_self a;have h2:=Kz Ev u fun y _=>Yn y
  rw[YT];simp[Xpr.kind,Xpr.op,Xpr.name,Xpr.table,Xpr.val,Xpr.param,Xpr.win,Xpr.args,Xpr.unit,DO,h1,h2]
theorem eqXs_self:∀a:List Xpr,eqXs a a=true
 |[]=>rfl
 |x::a=>by rw[eqXs,Yq x,eqXs_self a];rfl
end
theorem Yr(x:Ftr):ER x x=true:=by simp[ER,Yo,Yq]
theorem oV(x:Chg):EX x=if x.kind=1 then(decide (x.name=[])&&ER x.feature CI)else if x.kind=2 then(decide (x.name=[])&&Ew x.table Bh)else if 1<=x.kind/\x.kind<=5 then(Ew x.table Bh&&ER x.feature CI)else false:=by grind[EX,H2,O4,Yp,Yr]
theorem oW(x:Chg)(hk:1<=x.kind/\x.kind<=5):Is mx (Sa x.kind) [.agg (AD x)] (.bool (EX x)):=by rw[oV];grind[Sa,oR,oS,oT]
theorem oX{k:Int}(hk:1<=k/\k<=5):CB Ic (.int .i64 k) (.agg [.nilfn,.nilfn]) true=.tup [.agg [.fn (Ym k) [] [],.fn (Sa k) [] []],.bool true]:=by
 have:k=1\/k=2\/k=3\/k=4\/k=5:=by omega
 rcases this with rfl|rfl|rfl|rfl|rfl<;>rfl
theorem oY{k:Int}(hk:¬(1<=k/\k<=5)):CB Ic (.int .i64 k) (.agg [.nilfn,.nilfn]) true=.tup [.agg [.nilfn,.nilfn],.bool false]:=by
 have h1:¬((1:Int)=k):=by omega
 have h2:¬((2:Int)=k):=by omega
 have h3:¬((3:Int)=k):=by omega
 have h4:¬((4:Int)=k):=by omega
 have h5:¬((5:Int)=k):=by omega
 have e:∀a:Int,A1 (iI a)=[some (.i .i64 a)]:=fun a=>rfl
 have e2:A1 (.int .i64 k)=[some (.i .i64 k)]:=rfl;have e3:FG Ic (.int .i64 k)=none:=by simp_all[FG,Ic]
 simp[CB,e3]
theorem oZ:(∀e∈Ic,Au [.i .i64] e.1=true)=True:=eq_true (by unfold Ic;simp[Au,Ay,A6])
theorem o0(c:Cat)(x:Chg)(r:Cat×Int)(jg:1<=x.kind->x.kind<=5->EX x=true->Is mx (Ym x.kind) [.agg (Aw c),.agg (AD x)] (LJ r))
  (hr2:r.2=(CS c x).2)(qe:r.2=0->r=CS c x)(wx:r.2=0->Is mx 79 [.agg (Aw (CS c x).1)] (iI (HW (CS c x).1))):Is mx 42 [.agg (Aw c),.agg (AD x)] (LJ (Cv c x)):=by
 have hR:=Cv.eq_1 c x;have hE:=Lu.eq_1 c x;have r0:=oQ (mx:=mx);generalize CS c x=q at*;have kl:=oZ;by_cases hk:1<=x.kind/\x.kind<=5
 ·have p1:=oW (mx:=mx) x hk;have kx:=oX hk;have jg:=jg hk.1 hk.2;rw[Cg]at p1 jg;generalize Ic=M at r0 kx kl;cases hpv:EX x
  ·rw[hpv]at p1;rw[if_pos hpv]at hR;rw[hR];refine MX wN ?_
   (repeat' first|simp(disch:=omega)only[go_sem,simprocAttr,Cg,kx,kl]|refine Ab (r0) ?_|refine Ab (p1) ?_|refine Aa ?_|refine D2 ?_ ?_|refine Am ?_|refine Sz.s ?_|fail)
   rfl
  ·rw[hpv]at p1;have jg:=jg hpv;rw[if_neg (by rw[hpv];simp)]at hR;by_cases h0:r.2=0
   ·have e:=qe h0;subst e;rw[if_pos h0]at hE;have wx:=wx h0;obtain⟨d,e⟩:=r;simp only at h0;subst h0;simp only[LJ]at jg;by_cases hc:HW d=0
    ·rw[hE,if_neg (by simpa using hc)]at hR;rw[hR];rw[hc]at wx;refine MX wN ?_
     (repeat' first|simp(disch:=omega)only[go_sem,simprocAttr,Cg,kx,kl,ne_eq,not_true_eq_false,decide_true,decide_false]|refine Sx.s ?_ ?_<;>try(intro h;have h':=h;try simp only[HB]at h';try rewrite [h];try simp only[h])|refine Ab (r0) ?_|refine Ab (p1) ?_|refine Ab (jg) ?_|refine Ab (wx) ?_|refine Aa ?_|refine D2 ?_ ?_|refine Am ?_|refine Sz.s ?_|fail)
     all_goals rfl
    ·rw[hE,if_pos hc]at hR;rw[hR];refine MX wN ?_
     (repeat' first|simp(disch:=omega)only[go_sem,simprocAttr,Cg,kx,kl,eq_false hc,ne_eq,not_false_eq_true,decide_true]|refine Sx.s ?_ ?_<;>try(intro h;have h':=h;try simp only[HB]at h';try rewrite [h];try simp only[h])|refine Ab (r0) ?_|refine Ab (p1) ?_|refine Ab (jg) ?_|refine Ab (wx) ?_|refine Aa ?_|refine D2 ?_ ?_|refine Am ?_|refine Sz.s ?_|fail)
     all_goals rfl
   ·rw[if_neg (by omega)]at hE;rw[hE,<-hr2,if_pos h0]at hR;rw[hR];obtain⟨d,e⟩:=r;simp only at h0 hR;simp only[LJ]at jg;refine MX wN ?_
    (repeat' first|simp(disch:=omega)only[go_sem,simprocAttr,Cg,kx,kl,eq_false h0,ne_eq,not_false_eq_true,decide_true,decide_false]|refine Ab (r0) ?_|refine Ab (p1) ?_|refine Ab (jg) ?_|refine Aa ?_|refine D2 ?_ ?_|refine Am ?_|refine Sz.s ?_|fail)
    all_goals rfl
 ·have hp:EX x=false:=by unfold EX;rw[if_neg hk]
  rw[if_pos hp]at hR;have kx:=oY hk;rw[hR];generalize Ic=M at r0 kx kl;refine MX wN ?_
  (repeat' first|simp(disch:=omega)only[go_sem,simprocAttr,Cg,kx,kl]|refine Ab (r0) ?_|refine Aa ?_|refine Am ?_|refine Sz.s ?_|fail)
  rfl
end
section
def LF(m:List (Fid×Bool))(x:Ent):List (Fid×Bool):=if x.kind=1 then BG m x.fact.id true else m
def Jl(l:List Ent)(i:Nat):List (Fid×Bool):=(l.take i).foldl LF []
theorem Ys{l:List Ent}{i:Nat}(h:i<l.length):Jl l (i+1)=LF (Jl l i) (l.getD i default):=by grind[Jl,CR]
theorem Yt(l:List Ent)(id:Fid):∀i,i<=l.length->rm (Jl l i) id=(l.take i).any (fun x=>decide (x.kind=1)&&decide (x.fact.id=id))
 |0,_=>by rfl
 |i+1,h=>by
  have ih:=Yt l id i (by omega);rw[Ys (by omega),CR (by omega),List.any_append,<-ih];simp only[List.any_cons,List.any_nil,Bool.or_false];unfold LF;split
  ·rename_i hk;unfold rm;rw[U2];grind
  all_goals grind
def vM(l:List Ent)(i:Nat):Int:=if i=0 then 0 else(l.getD (i-1) default).no
def Jn(l:List Ent)(i:Nat):Int:=if i=0 then 0 else(l.getD (i-1) default).tick
theorem o3{l:List Ent}{i:Nat}(h:i<l.length):rm (Jl l i) (l.getD i default).fact.id=H6 l i:=Yt l _ i (by omega)
theorem o4{l:List Ent}{i:Nat}(h1:0<=vM l i)(h2:0<=Jn l i):(decide ((l.getD i default).no<=vM l i)||decide (1099511627776<(l.getD i default).no)||decide ((l.getD i default).tick<Jn l i)||!(decide (0<=(l.getD i default).tick)&&decide ((l.getD i default).tick<=1099511627776)))=(H7 (l.getD i default)||H8 l i (l.getD i default)):=by grind[H7,H8,vM,Jn]
theorem o5(l:List Ent)(hl:Ag AF l<=1073740)(hA:∀i,i<l.length->(Ba l i).2=0->(l.getD i default).kind=3->Is mx 42 [.agg (Aw (Ba l i).1),.agg (AD (l.getD i default).change)] (LJ (Cv (Ba l i).1 (l.getD i default).change))):
  Is mx 11 [.sl (l.map Ad)] (iI (EY l)):=by
 have je:=Lf l;refine MX xZ ?_;by_cases h4:4096<l.length
 ·have h4T:((4096:Int)<(l.length:Int))=True:=eq_true (by omega);rw[EY,if_pos h4]
  (repeat' first|simp(disch:=omega)only[go_sem,simprocAttr,h4T]|refine Aa ?_|refine Sz.s ?_|fail)
 ·have h4F:((4096:Int)<(l.length:Int))=False:=eq_false (by omega);rw[EY,if_neg h4]
  (repeat' first|simp(disch:=omega)only[go_sem,simprocAttr,h4F]|refine Aa ?_|fail)
  refine AA [3,4,16,17] (by simp only[V0,G4,reduceIte,Nat.reduceEqDiff];rfl) (fun i:Nat=>[(5,.i (iI (vM l i))),(6,.i (iI (Jn l i))),(18,.i (iI i))]) (fun i=>[(15,.map [.g,.s,.i .i64] (Fw (Jl l i))),(3,.cells ((Aw (Ba l i).1).map .i))])
   (fun i=>i<=l.length/\(Ba l i).2=0/\0<=vM l i/\0<=Jn l i) (fun i=>l.length-i) 0 ⟨by omega,rfl,by simp[vM],by simp[Jn]⟩ (by simp[V0,Fz,Ref.nm,Ba,Aw,D.nms,Pq,vM,Jn,Jl,Fw]) ?_
  rintro i ⟨hi,jb,hn0,ht0⟩;have hb:=RP l i hi;by_cases ja:i<l.length
  ·have hts:Ag AF (l.take (i+1))=Ag AF (l.take i)+AF (l.getD i default):=by rw[CR ja,H3];simp[Ag]
   have wn:=Ni AF l (i+1);have hS:Ba l (i+1)=D8 l i (Ba l i).1:=by grind[Ba]
   have herr:=RO (l:=l) (i:=i+1);have qv:=o4 hn0 ht0;have hse:=Ys ja;have htw:=o3 ja;have hA':=hA i ja jb;have zG:vM l (i+1)=(l.getD i default).no:=by rfl
   have hpt:Jn l (i+1)=(l.getD i default).tick:=by rfl
   have q1:=oa (mx:=mx) (l.getD i default).tick;have q2:=ow (mx:=mx) (l.getD i default);rw[Ax]at q2;have hbe:=Fl (l.getD i default);have hbf:=Jb (l.getD i default).fact;have q3:=n8 (mx:=mx) (Ba l i).1 (l.getD i default).fact (by omega) (by omega);have q4:=oh (mx:=mx) (l.getD i default).erasure (by omega);generalize (Ba l i).1=c at hS hA' q3 hb;unfold D8 at hS;cases ho:H7 (l.getD i default)||H8 l i (l.getD i default)
   ·rw[ho]at qv;rw[ho,if_neg (by simp)]at hS;have qr:1<=(l.getD i default).no/\0<=(l.getD i default).tick:=by grind
    cases wl:G0 (l.getD i default)
    ·rw[wl]at q2;rw[if_pos wl]at hS;have hz:(Ba l l.length).2=1:=by grind
     rw[hz]
     (repeat' first|exact Al _|simp(disch:=omega)only[go_sem,simprocAttr,Ck ja,Ax,qv]|refine' Ao (fun hq=>?_) (fun f=>?_)<;>try(have jc:=hq;try simp only[HB]at jc)|refine Sx.s ?_ ?_<;>try(intro h;have h':=h;try simp only[HB]at h';try rewrite [h];try simp only[h])|refine Ab (q1) ?_|refine Ab (q2) ?_|refine Aa ?_|refine Am ?_|refine Sz.s ?_|fail)
    ·rw[wl]at q2;rw[if_neg (by rw[wl];simp)]at hS
     try rw[Ol]at q3
     try rw[QL]at q4
     by_cases k6:(l.getD i default).kind=1
     ·rw[if_pos k6]at hS;have kx:=Kv (Jl l i) (l.getD i default).fact.id;rw[htw]at kx;rw[LF,if_pos k6]at hse;by_cases hf0:Ge c (l.getD i default).fact=0
      ·rw[hf0]at q3;cases htv:H6 l i
       ·rw[if_neg (by rw[htv];simp),hf0]at hS;rw[htv]at kx
        (repeat' first|exact Al _|simp(disch:=omega)only[go_sem,simprocAttr,Ck ja,Ax,qv,eq_true k6,kx,R1,Au,Ay,A6,beq_self_eq_true,ne_eq,not_true_eq_false,decide_false,decide_true]|refine' Ao (fun hq=>?_) (fun f=>?_)<;>try(have jc:=hq;try simp only[HB]at jc)|refine Sx.s ?_ ?_<;>try(intro h;have h':=h;try simp only[HB]at h';try rewrite [h];try simp only[h])|refine Ab (q1) ?_|refine Ab (q2) ?_|refine Ab (q3) ?_|refine Aa ?_|refine Am ?_|fail)
        all_goals exact⟨i+1,⟨by omega,by rw[hS],by rw[zG];omega,by rw[hpt];omega⟩,by omega,⟨by rw[zG],by rw[hpt],rfl⟩,by rw[hse],by rw[hS]⟩
       ·rw[if_pos ⟨hf0,htv⟩]at hS;rw[htv]at kx;have hz:(Ba l l.length).2=151:=by grind
        rw[hz]
        (repeat' first|exact Al _|simp(disch:=omega)only[go_sem,simprocAttr,Ck ja,Ax,qv,eq_true k6,kx,Au,Ay,A6,beq_self_eq_true,ne_eq,not_true_eq_false,decide_false,decide_true]|refine' Ao (fun hq=>?_) (fun f=>?_)<;>try(have jc:=hq;try simp only[HB]at jc)|refine Sx.s ?_ ?_<;>try(intro h;have h':=h;try simp only[HB]at h';try rewrite [h];try simp only[h])|refine Ab (q1) ?_|refine Ab (q2) ?_|refine Ab (q3) ?_|refine Aa ?_|refine Am ?_|refine Sz.s ?_|fail)
        all_goals exact⟨i+1,⟨by omega,by rw[hS],by rw[zG];omega,by rw[hpt];omega⟩,by omega,⟨by rw[zG],by rw[hpt],rfl⟩,by rw[hse],by rw[hS]⟩
      ·rw[if_neg (fun q=>hf0 q.1)]at hS;have hz:(Ba l l.length).2=Ge c (l.getD i default).fact:=by grind
       rw[hz]
       (repeat' first|exact Al _|simp(disch:=omega)only[go_sem,simprocAttr,Ck ja,Ax,qv,eq_true k6,ne_eq,eq_false hf0,not_false_eq_true,decide_true]|refine' Ao (fun hq=>?_) (fun f=>?_)<;>try(have jc:=hq;try simp only[HB]at jc)|refine Sx.s ?_ ?_<;>try(intro h;have h':=h;try simp only[HB]at h';try rewrite [h];try simp only[h])|refine Ab (q1) ?_|refine Ab (q2) ?_|refine Ab (q3) ?_|refine Aa ?_|refine Am ?_|refine Sz.s ?_|fail)
       all_goals exact⟨i+1,⟨by omega,by rw[hS],by rw[zG];omega,by rw[hpt];omega⟩,by omega,⟨by rw[zG],by rw[hpt],rfl⟩,by rw[hse],by rw[hS]⟩
     ·rw[if_neg k6]at hS;by_cases qy:(l.getD i default).kind=2
      ·rw[if_pos qy]at hS;rw[LF,if_neg k6]at hse;cases hev:Kq (l.getD i default).erasure
       ·rw[hev]at q4;rw[if_pos hev]at hS;have hz:(Ba l l.length).2=1:=by grind
        rw[hz]
        (repeat' first|exact Al _|simp(disch:=omega)only[go_sem,simprocAttr,Ck ja,Ax,qv,eq_false k6,eq_true qy]|refine' Ao (fun hq=>?_) (fun f=>?_)<;>try(have jc:=hq;try simp only[HB]at jc)|refine Sx.s ?_ ?_<;>try(intro h;have h':=h;try simp only[HB]at h';try rewrite [h];try simp only[h])|refine Ab (q1) ?_|refine Ab (q2) ?_|refine Ab (q4) ?_|refine Aa ?_|refine Am ?_|refine Sz.s ?_|fail)
        all_goals exact⟨i+1,⟨by omega,by rw[hS],by rw[zG];omega,by rw[hpt];omega⟩,by omega,⟨by rw[zG],by rw[hpt],rfl⟩,by rw[hse],by rw[hS]⟩
       ·rw[hev]at q4;rw[if_neg (by rw[hev];simp)]at hS
        (repeat' first|exact Al _|simp(disch:=omega)only[go_sem,simprocAttr,Ck ja,Ax,qv,eq_false k6,eq_true qy]|refine' Ao (fun hq=>?_) (fun f=>?_)<;>try(have jc:=hq;try simp only[HB]at jc)|refine Sx.s ?_ ?_<;>try(intro h;have h':=h;try simp only[HB]at h';try rewrite [h];try simp only[h])|refine Ab (q1) ?_|refine Ab (q2) ?_|refine Ab (q4) ?_|refine Aa ?_|refine Am ?_|fail)
        all_goals exact⟨i+1,⟨by omega,by rw[hS],by rw[zG];omega,by rw[hpt];omega⟩,by omega,⟨by rw[zG],by rw[hpt],rfl⟩,by rw[hse],by rw[hS]⟩
      ·rw[if_neg qy]at hS;have qk:(l.getD i default).kind=3:=by grind[G0]
       have hA':=hA' qk;rw[Cg]at hA';rw[LF,if_neg k6]at hse;generalize Cv c (l.getD i default).change=r at hS hA';obtain⟨d,e⟩:=r;simp only[LJ]at hA';by_cases he:e=0
       ·subst he
        (repeat' first|exact Al _|simp(disch:=omega)only[go_sem,simprocAttr,Ck ja,Ax,qv,eq_false k6,eq_false qy,eq_true qk,ne_eq,not_true_eq_false,decide_false,decide_true]|refine' Ao (fun hq=>?_) (fun f=>?_)<;>try(have jc:=hq;try simp only[HB]at jc)|refine Sx.s ?_ ?_<;>try(intro h;have h':=h;try simp only[HB]at h';try rewrite [h];try simp only[h])|refine Ab (q1) ?_|refine Ab (q2) ?_|refine Ab (hA') ?_|refine Aa ?_|refine Am ?_|fail)
        all_goals exact⟨i+1,⟨by omega,by rw[hS],by rw[zG];omega,by rw[hpt];omega⟩,by omega,⟨by rw[zG],by rw[hpt],rfl⟩,by rw[hse],by rw[hS]⟩
       ·have hz:(Ba l l.length).2=e:=by rw[herr (by rw[hS];exact he) l.length (by omega),hS]
        rw[hz]
        (repeat' first|exact Al _|simp(disch:=omega)only[go_sem,simprocAttr,Ck ja,Ax,qv,eq_false k6,eq_false qy,eq_true qk,ne_eq,eq_false he,not_false_eq_true,decide_false,decide_true]|refine' Ao (fun hq=>?_) (fun f=>?_)<;>try(have jc:=hq;try simp only[HB]at jc)|refine Sx.s ?_ ?_<;>try(intro h;have h':=h;try simp only[HB]at h';try rewrite [h];try simp only[h])|refine Ab (q1) ?_|refine Ab (q2) ?_|refine Ab (hA') ?_|refine Aa ?_|refine Am ?_|refine Sz.s ?_|fail)
        all_goals exact⟨i+1,⟨by omega,by rw[hS],by rw[zG];omega,by rw[hpt];omega⟩,by omega,⟨by rw[zG],by rw[hpt],rfl⟩,by rw[hse],by rw[hS]⟩
   ·rw[ho]at qv;rw[ho,if_pos rfl]at hS;have hz:(Ba l l.length).2=150:=by grind
    rw[hz]
    (repeat' first|exact Al _|simp(disch:=omega)only[go_sem,simprocAttr,Ck ja,Ax,qv]|refine' Ao (fun hq=>?_) (fun f=>?_)<;>try(have jc:=hq;try simp only[HB]at jc)|refine Ab (q1) ?_|refine Aa ?_|refine Sz.s ?_|fail)
  ·have e:i=l.length:=by omega
   subst e;rw[jb]
   (repeat' first|simp(disch:=omega)only[go_sem,simprocAttr,Ie ja]|refine Aa ?_|refine Sz.s ?_|fail)
end
section
def BW(l:List Ent)(tick:Int):Nat->List (Chg×Cat)
 |0=>[]
 |i+1=>if(l.getD i default).kind≠3\/tick<(l.getD i default).tick then BW l tick i else if(Cv (Bw l tick i) (l.getD i default).change).2=0 then BW l tick i++[((l.getD i default).change,(Cv (Bw l tick i) (l.getD i default).change).1)]else BW l tick i
def wA(p:Chg×Cat):List I:=[.agg (AD p.1),.agg (Aw p.2)]
def KA(xs:List (Chg×Cat)):Cat:=if xs.length=0 then Br else(xs.getD (xs.length-1) default).2
theorem Yu(xs:List (Chg×Cat))(p:Chg×Cat):KA (xs++[p])=p.2:=by simp[KA]
theorem Yv(l:List Ent)(tick:Int):∀i,KA (BW l tick i)=Bw l tick i
 |0=>rfl
 |i+1=>by have ih:=Yv l tick i;rw[BW.eq_2,Bw.eq_2];grind[Yu]
theorem Pk(l:List Ent)(tick:Int)(i:Nat):∀n,i<=n->BW l tick i<+:BW l tick n
 |0,h=>by rw[show i=0 by omega];exact List.prefix_refl _
 |n+1,h=>by
  by_cases e:i=n+1
  ·rw[e];exact List.prefix_refl _
  ·have ih:=Pk l tick i n (by omega);rw[BW.eq_2];split
   ·exact ih
   ·split
    ·exact ih.trans (List.prefix_append _ _)
    ·exact ih
theorem o6(l:List Ent)(tick:Int):Is mx 56 [.sl (l.map Ad),iI tick] (.fn 92 [] [.elt [.sl (l.map Ad)] 0,.elt [iI tick] 0]):=by
 refine MX yH ?_
 (repeat' first|simp(disch:=omega)only[go_sem,simprocAttr]|refine Sz.s ?_|fail)
 all_goals(try rfl)
theorem LG{mv:List Nat}{l:List (Nat×Blk)}(h:Pu mv l=true){q:Nat}(hq:q<5000)(b:Blk):Bl l ((q,b)::l):=My (mv:=mv) (R5 h) _ fun m c hm=>by grind[Nn,Ac]
theorem o7{P:Program}{GG:List (Nat×List I)}{q:Nat}{b:Blk}{mk:List (Nat×Blk)}{get:St->Option (FuncId×List D)}{E0:Env}{mj:List (Nat×Blk)}{d:Option Nat}{K:St->Prop}{y:FuncId}{xs:List I}{mv:List Nat}{r0:I}(hy:MC P GG y (xs.map .i) mj mv (fun r s=>r=.i r0/\s=mk))(hd:∀s,d=some s->s<999)
  (jv:get ⟨E0,(q,b)::mj⟩=some (y,xs.map .i))(hj:Pu mv mj=true)(hk:Pu mv mk=true)(hn:mk.map (·.1)=mj.map (·.1))(hV:vS mv=true)(ho:QG [(q,b)]=true)(ks:List Nat){E:List (Nat×D)}(hE:C6 E0 ks=E)(hl:(E.all fun p=>Pq [(q,b)] p.2.nms)=true)
  (k:K (putO ⟨.l E,(q,b)::mk⟩ d (.i r0))):Ah P GG get ⟨E0,(q,b)::mj⟩ d K:=QJ (own:=[(q,b)]) hy hd jv hj hk hn hV ho ks hE hl k
theorem o8(l:List Ent)(tick:Int)(hl:l.length<=1073741824)(hA:∀i,i<l.length->(l.getD i default).kind=3->(l.getD i default).tick<=tick->Is mx 42 [.agg (Aw (Bw l tick i)),.agg (AD (l.getD i default).change)] (LJ (Cv (Bw l tick i) (l.getD i default).change))):
  Em Tryz.prog (Nt mx) 92 [.elt [.sl (l.map Ad)] 0,.elt [iI tick] 0] ((BW l tick l.length).map wA):=by
 intro y m mv N go hV hm hN hgo qa hy;rw[List.length_map]at hN qa;have hk:∀k,Pu mv (m k)=true:=fun k=>(hm k).1
 have g1:∀k q,q<5000->Ac (m k) q=none:=fun k q hq=>Nn (hk k) hq
 have g2:∀k q b,q<5000->Pt q b (m k)=m k:=fun k q b hq=>Pa (hk k) hq b
 have g3:∀k q,q<5000->BC (m k) q=m k:=fun k q hq=>Pb (hk k) hq
 have g8:∀k q b,q<5000->BD (m k) q b=m k:=fun k q b hq=>X3 fun p hp=>by grind[R4]
 have g4:∀k,Bl (m k) (m k)=True:=fun k=>eq_true (Kw (hk k))
 have g5:∀k,Ps (m k) (m k)=true:=fun k=>Ep (hk k)
 refine MX ze ?_ (hpin:=Pc (hk 0))
 (repeat' first|simp(disch:=omega)only[go_sem,simprocAttr,List.map_cons,List.map_nil,g1]|fail)
 refine AA [0,2,4,9,10] (by simp only[V0,G4,reduceIte,Nat.reduceEqDiff];rfl) (fun i:Nat=>[(11,.i (iI i))]) (fun i=>(4,.cells ((Aw (Bw l tick i)).map .i))::m (BW l tick i).length)
  (fun i=>i<=l.length/\(BW l tick i).length<=N/\((BW l tick i).length=N->N=(BW l tick l.length).length)) (fun i=>l.length-i) 0 ⟨by omega,by simp[BW],fun h=>by
   by_cases jl:N<(BW l tick l.length).length
   ·have:=(qa jl).1;simp[BW]at h;omega
   ·omega⟩ ?_ ?_
 ·have g6:=LG (hk 0) (q:=4) (by decide) (.cells ((Aw Br).map .i));have g7:=FW (k:=4) (b:=.cells ((Aw Br).map .i)) (g5 0);simp[V0,Fz,GF,Ref.nm,BW,Bw,Aw]at g6 g7⊢;exact⟨g6,g7⟩
 rintro i ⟨hi,zO,qx⟩;have wd:=(Pk l tick i l.length hi).length_le;by_cases ja:i<l.length
 ·have j6:=BW.eq_2 l tick i;have wp:=Bw.eq_2 l tick i;by_cases qk:(l.getD i default).kind=3
  ·by_cases ht:tick<(l.getD i default).tick
   ·rw[if_pos (.inr ht)]at j6 wp
    (repeat' first|simp(disch:=omega)only[go_sem,simprocAttr,Ck ja,Ax,eq_true qk,eq_true ht,ne_eq,not_true_eq_false,decide_true,decide_false,g1,g2,g3]|refine Aa ?_|fail)
    exact⟨i+1,by rw[j6];exact⟨by omega,zO,qx⟩,by omega,rfl,⟨by rw[wp],by rw[j6];exact LG (hk _) (by decide) _⟩,by first|rfl|exact FW (g5 _)|exact⟨rfl,FW (g5 _)⟩⟩
   ·rw[if_neg (by rintro(q|q);exact q qk;exact ht q)]at j6 wp;have hA':=hA i ja qk (by omega);rw[Cg]at hA';have hpl2:=(Pk l tick (i+1) l.length (by omega)).length_le;have hpp:=Pk l tick (i+1) l.length (by omega);generalize Cv (Bw l tick i) (l.getD i default).change=r at j6 wp hA';obtain⟨d,e⟩:=r;simp only[LJ]at hA' j6 wp;by_cases he:e=0
    ·subst he;rw[if_pos rfl]at j6 wp;have hx:((BW l tick l.length).map wA).getD (BW l tick i).length []=wA ((l.getD i default).change,d):=by rw[j6]at hpp;obtain⟨r,hr⟩:=hpp;grind
     have je:(BW l tick (i+1)).length=(BW l tick i).length+1:=by grind
     have hcN:(BW l tick i).length<N:=by omega
     have y1:=hy _ hcN;rw[hx]at y1;simp only[wA,Cg]at y1;generalize (BW l tick i).length=k at y1 hcN je wd zO qx
     (repeat' first|simp(disch:=omega)only[go_sem,simprocAttr,Ck ja,Ax,eq_true qk,eq_false ht,ne_eq,not_true_eq_false,decide_true,decide_false,g1,g2,g3,g8]|refine Sx.s ?_ ?_<;>try(intro h;have h':=h;try simp only[HB]at h';try rewrite [h];try simp only[h])|refine Ab (hA') ?_|refine Aa ?_|fail)
     refine o7 (mj:=m k) (mk:=m (k+1)) y1 (fun s e=>by cases e;decide) (by simp only[Dr,EE,go_sem,reduceCtorEq,Nat.reduceEqDiff,List.map_cons,List.map_nil,List.append_nil,List.nil_append]) (hk _) (hk _) ((hm _).2.trans (hm _).2.symm) hV rfl [0,2,4,9,10,11] (by simp only[V0,G4,reduceIte,Nat.reduceEqDiff];rfl) (by simp only[go_sem,List.all_cons,List.all_nil]) ?_;cases hgk:go k
     ·(repeat' first|simp(disch:=omega)only[go_sem,simprocAttr]|fail)
      have hkN:k+1=N:=by grind
      rw[hkN];exact No (own:=[(4,_)]) (hk N) rfl ⟨rfl,rfl⟩
     ·(repeat' first|simp(disch:=omega)only[go_sem,simprocAttr,List.nil_append]|fail)
      refine⟨i+1,⟨by omega,by rw[je];omega,fun h=>?_⟩,by omega,rfl,⟨by rw[wp],by rw[je];exact LG (hk _) (by decide) _⟩,by first|rfl|exact FW (g5 _)|exact⟨rfl,FW (g5 _)⟩⟩;rcases Nat.lt_or_ge N (BW l tick l.length).length with q|q
      ·have h2:=(qa q).2;have h3:N-1=k:=by omega
       rw[h3,hgk]at h2;cases h2
      ·omega
    ·rw[if_neg he]at j6 wp
     (repeat' first|simp(disch:=omega)only[go_sem,simprocAttr,Ck ja,Ax,eq_true qk,eq_false ht,ne_eq,not_true_eq_false,eq_false he,not_false_eq_true,decide_true,decide_false,g1,g2,g3]|refine Sx.s ?_ ?_<;>try(intro h;have h':=h;try simp only[HB]at h';try rewrite [h];try simp only[h])|refine Ab (hA') ?_|refine Aa ?_|fail)
     exact⟨i+1,by rw[j6];exact⟨by omega,zO,qx⟩,by omega,rfl,⟨by rw[wp],by rw[j6];exact LG (hk _) (by decide) _⟩,by first|rfl|exact FW (g5 _)|exact⟨rfl,FW (g5 _)⟩⟩
  ·rw[if_pos (.inl qk)]at j6 wp
   (repeat' first|simp(disch:=omega)only[go_sem,simprocAttr,Ck ja,Ax,eq_false qk,ne_eq,not_false_eq_true,decide_true,g1,g2,g3]|refine Aa ?_|fail)
   exact⟨i+1,by rw[j6];exact⟨by omega,zO,qx⟩,by omega,rfl,⟨by rw[wp],by rw[j6];exact LG (hk _) (by decide) _⟩,by first|rfl|exact FW (g5 _)|exact⟨rfl,FW (g5 _)⟩⟩
 ·have e:i=l.length:=by omega
  subst e;have:(BW l tick l.length).length=N:=by omega
  (repeat' first|simp(disch:=omega)only[go_sem,simprocAttr,Ie ja]|refine Aa ?_|fail)
  rw[this];exact No (own:=[(4,_)]) (hk N) rfl ⟨rfl,rfl⟩
theorem o9(l:List Ent)(tick:Int)(hl:l.length<=1073741824)(hA:∀i,i<l.length->(l.getD i default).kind=3->(l.getD i default).tick<=tick->Is mx 42 [.agg (Aw (Bw l tick i)),.agg (AD (l.getD i default).change)] (LJ (Cv (Bw l tick i) (l.getD i default).change))):
  Is mx 22 [.sl (l.map Ad),iI tick] (.agg (Aw (atR l tick))):=by
 have u1:=o6 (mx:=mx) l tick;have hs:=o8 (mx:=mx) l tick hl hA;have hlast:atR l tick=KA (BW l tick l.length):=(Yv l tick l.length).symm;rw[hlast];generalize BW l tick l.length=xs at hs;refine MX yf ?_
 (repeat' first|simp(disch:=omega)only[go_sem,simprocAttr]|refine Sx.s ?_ ?_<;>try(intro h;have h':=h;try simp only[HB]at h';try rewrite [h];try simp only[h])|refine Ab (u1) ?_|fail)
 have hx:∀j,j<xs.length->(xs.map wA).getD j []=wA (xs.getD j default):=fun j hj=>by grind
 have jl:∀j,j<xs.length->KA (xs.take (j+1))=(xs.getD j default).2:=fun j hj=>by rw[CR hj,Yu]
 refine K0 (gf:=92) rfl (by kernel_rfl) hs [(4,5004)] [.any,.any,.any,.any,.ref (.loc 5004 0),.any,.any,.any,.any,.any,.any,.any,.any,.any] (fun j=>[(5004,.cells ((Aw (KA (xs.take j))).map .i))]) [] xs.length .none
  ⟨by simp,fun _=>by simp,fun h=>absurd rfl h⟩ rfl (fun j hj=>⟨rfl,rfl,rfl,rfl⟩) rfl (by simp[GA,Af,B2,If,Nv,Ih,sw]) rfl (by simp[Ig,KC,If,Ih,sw,Bl,Ac,Aw,KA]) (fun j hj=>⟨by rw[hx j hj];rfl,?_⟩) ?_
 ·rw[hx j hj,ite_self,jl j hj];unfold wA;simp only[D0,C3,Nat.reduceAdd]
  (repeat' first|simp(disch:=omega)only[go_sem,simprocAttr,Dw,aT]|fail)
  all_goals(refine⟨rfl,[],?_⟩;simp(disch:=omega)only[go_sem])
 ·refine⟨by simp[Ig,KC,Ih,sw,AY,ren,Ac],by simp[Ig,KC,Ih,sw,ren,Ac],rfl,?_⟩;show C5 0 _ .normal _;rw[List.take_length]
  (repeat' first|simp(disch:=omega)only[go_sem,simprocAttr,Ig,KC,If,Ih,sw,AY,ren,List.map_cons,List.map_nil]|refine Sz.s ?_|fail)
  all_goals trace_state
end
section
theorem Yw{P:Program}{GG:List (Nat×List I)}{f:FuncId}{nm k:Nat}{os:List O}{st:St}{d:Option Nat}{K:St->Prop}{ds:List D}{sto:List (Nat×Blk)}{mv:List Nat}{R:D->List (Nat×Blk)->Prop}(h:MC P GG f (.ref (.sl nm k 0 0)::ds) sto mv R)(zz:os.map (AL GG st)=ds)(jo:(Ac st.sto nm).isSome=true)(h1:Bl sto st.sto)
  (h2:(Ps sto sto&&((.ref (.sl nm k 0 0)::ds).all fun x=>Pq sto x.nms)&&(mv.all fun m=>Nat.blt m 5000||Nat.ble 5500 m))=true)(hk:∀r sto',R r sto'->((AY (d.getD 999) sto').map (·.1)).all (fun nm=>(Ac sto nm).isSome||((Ac st.sto nm).isNone&&Nat.blt nm 5000))=true/\
   (sto.map (·.1)).all (fun nm=>(Ac sto' nm).isNone||ren (d.getD 999) nm==nm)=true/\K (putO (C0 st sto sto' mv (d.getD 999)) d (Ca (d.getD 999) r))):Ah P GG (KG GG f nm k os) st d K:=by
 subst zz;rw[Bool.and_eq_true,Bool.and_eq_true]at h2;unfold Ah;refine⟨[],?_⟩;have e:KG GG f nm k os (frzNs [] st)=some (f,.ref (.sl nm k 0 0)::os.map (AL GG st)):=if_pos jo;rw[e];refine .inl ⟨sto,mv,R,h,h1,h2.1.1,h2.1.2,h2.2,fun r s hr=>?_⟩;obtain⟨k1,k2,k3⟩:=hk r s hr;rw[List.all_eq_true]at k1 k2;refine⟨fun nm hm=>?_,fun nm hm hs=>?_,k3⟩
 ·have:=k1 nm hm;rw[Bool.or_eq_true,Bool.and_eq_true]at this;rcases this with e|⟨e1,e2⟩
  ·exact .inl e
  ·exact .inr ⟨by show Ac st.sto nm=none;simpa using e1,by simpa using e2⟩
 ·have:=k2 nm hm;rw[Bool.or_eq_true]at this;rcases this with e|e
  ·cases hg:Ac s nm<;>simp[hg]at e hs
  ·simpa using e
theorem pa(gf:Nat)(caps:List I)(xs:List Ent)(ku:B9 Tryz.prog gf=true)(hs:Em Tryz.prog (Nt mx) gf caps (xs.map fun e=>[.agg (Ad e)]))(hl:xs.length<=1000000):
  MC Tryz.prog (Nt mx) 93 [.ref (.sl 5500 40 0 0),.i (.fn gf [] caps)] [(5500,.rows 54 40 [])] [5500]
   (fun r s=>r=.ref (.sl 5500 40 0 xs.length)/\s=[(5500,.rows 54 40 (xs.map Ad))]):=by
 refine MX zf ?_
 (repeat' first|simp(disch:=omega)only[go_sem,simprocAttr]|fail)
 have hx:∀j,j<xs.length->(xs.map fun e=>[I.agg (Ad e)]).getD j []=[.agg (Ad (xs.getD j default))]:=fun j hj=>by grind
 refine K0 (gf:=gf) rfl ku hs [(2,5002)] [.any,.any,.ref (.loc 5002 0),.any,.any,.any,.any,.any,.any,.any,.any,.any,.any] (fun j=>[(5002,.cells [.ref (.sl 5500 40 0 j)]),(5500,.rows 54 40 ((xs.take j).map Ad))]) [5500] xs.length .none
  ⟨by simp,fun _=>by simp,fun h=>absurd rfl h⟩ rfl (fun j hj=>⟨rfl,rfl,rfl,rfl⟩) rfl (by simp[GA,Af,B2,If,Nv,Ih,sw]) rfl (by simp[Ig,KC,If,Nv,Ih,sw,Bl,Ac]) (fun j hj=>⟨by rw[hx j hj];rfl,?_⟩) ?_
 ·have qe:=D9 Dj Fu (xs.getD j default);rw[hx j hj,ite_self];have hT:(xs.take (j+1)).map Ad=(xs.take j).map Ad++[Ad (xs.getD j default)]:=by grind[CR]
  have k7:(xs.take j).length=j:=by simp;omega
  generalize xs.take j=acc at hT k7;have kj:List.take j (acc.map Ad)=acc.map Ad:=List.take_of_length_le (by simp[k7]);simp only[D0,C3,Nat.reduceAdd];rw[Ax]at qe hT⊢
  (repeat' first|simp(disch:=omega)only[go_sem,simprocAttr,Dw,aT,qe.1,qe.2,Nat.sub_zero,k7,kj]|(refine And.intro ?_ ?_;focus omega))
  all_goals(refine⟨rfl,[],?_⟩;simp(disch:=omega)only[go_sem,Nat.reduceEqDiff];first|rw[hT]|exact⟨rfl,by rw[hT]⟩)
 ·refine⟨by simp[Ig,KC,If,Nv,Ih,sw,AY,ren,Ac],by simp[Ig,KC,If,Nv,Ih,sw,ren,Ac],rfl,?_⟩;show C5 0 _ .normal _
  (repeat' first|simp(disch:=omega)only[go_sem,simprocAttr,Ig,KC,If,Nv,Ih,sw,AY,ren]|fail)
  rw[List.take_length];refine Fg [(5500,5500)] ?_;simp[YR]
theorem pb(nm:Nat)(hn:nm<5000)(gf:Nat)(caps:List I)(xs:List Ent)(ku:B9 Tryz.prog gf=true)(hs:Em Tryz.prog (Nt mx) gf caps (xs.map fun e=>[.agg (Ad e)]))(hl:xs.length<=1000000):
  MC Tryz.prog (Nt mx) 93 [.ref (.sl nm 40 0 0),.i (.fn gf [] caps)] [(nm,.rows 54 40 [])] [nm]
   (fun r s=>r=.ref (.sl nm 40 0 xs.length)/\s=[(nm,.rows 54 40 (xs.map Ad))]):=by
 have e1:LL [(5500,nm)] 5500=nm:=by rfl
 have h:=(MC.as [(5500,nm)] (pa (mx:=mx) gf caps xs ku hs hl)).mono (R':=fun r s=>r=.ref (.sl nm 40 0 xs.length)/\s=[(nm,.rows 54 40 (xs.map Ad))]) (by
  rintro r s ⟨h1,h2⟩;have k:=El (f:=Ih [(5500,nm)]) (g:=LL [(5500,nm)]) (Cq _) r;have k2:=FN (f:=Ih [(5500,nm)]) (g:=LL [(5500,nm)]) (Cq _) s;rw[h1]at k;rw[h2]at k2;refine⟨?_,?_⟩
  ·rw[<-k];simp only[If,Nv,e1]
  ·rw[<-k2];simp only[Ig,KC,e1])
 simp only[List.map_cons,List.map_nil,If,Nv,Ig,KC,e1]at h;exact h
theorem pc(gf:Nat)(caps:List I)(xs:List Ent)(ku:B9 Tryz.prog gf=true)(hs:Em Tryz.prog (Nt mx) gf caps (xs.map fun e=>[.agg (Ad e)]))(hl:xs.length<=1000000):
  MC Tryz.prog (Nt mx) 58 [.i (.fn gf [] caps)] [] [] (fun r s=>r=.ref (.sl 6000 40 0 xs.length)/\s=[(6000,.rows 54 40 (xs.map Ad))]):=by
 have m1:=(pb (mx:=mx) 2004 (by decide) gf caps xs ku hs hl).arrIn [];refine MX yJ ?_
 (repeat' first|simp(disch:=omega)only[go_sem,simprocAttr]|fail)
 refine Yw m1 rfl rfl (by simp[Bl,Ac]) (by simp[Ps,Pq,Blk.nms,D.nms,Ref.nm,Ac]) (fun r sto' hR=>?_);obtain⟨rfl,rfl⟩:=hR
 (repeat' first|simp(disch:=omega)only[go_sem,simprocAttr]|fail)
 refine Fg [(2004,6000)] ?_;simp[YR]
theorem pd(l:List Ent)(tick:Int)(hl:l.length<=1000000):Is mx 25 [.sl (l.map Ad),iI tick] (.sl ((AQ l tick).map Ad)):=by
 have u1:=X4 (mx:=mx) l tick;have hu:(AQ l tick).length<=l.length:=List.length_filter_le _ _;have m1:=pc (mx:=mx) 94 [.elt [.sl (l.map Ad)] 0,.elt [iI tick] 0] (AQ l tick) (by kernel_rfl) (X5 (mx:=mx) l tick (by omega)) (by omega);refine MX yi ?_
 (repeat' first|simp(disch:=omega)only[go_sem,simprocAttr]|(first|refine Eq (m1) ?_ (fun r sto' hR=>?_)|refine D4 (m1) ?_ (fun r sto' hR=>?_);(focus(first|rfl|(simp only[go_sem,simprocAttr];done)));first|(obtain⟨rfl,rfl⟩:=hR)|(obtain⟨_,(rfl|rfl),rfl,rfl⟩:=hR))|refine Sx.s ?_ ?_<;>try(intro h;have h':=h;try simp only[HB]at h';try rewrite [h];try simp only[h])|refine Ab (u1) ?_|refine Sz.s ?_|fail)
end
section
def Cj(t:List Tbl):Cat:=⟨t,[],[],[]⟩
theorem pe{i:Nat}(h:i<3):[[I.sl []],[I.sl []],[I.sl []]].getD i []=[I.sl []]:=by
 have:i=0\/i=1\/i=2:=by omega
 rcases this with rfl|rfl|rfl<;>rfl
theorem pf(t:List Tbl):Is mx 118 [.agg (Aw (Cj t))] (iI 0):=by
 refine MX cY ?_
 (repeat' first|simp(disch:=omega)only[go_sem,simprocAttr,Cj,List.map_nil]|fail)
 refine AA [3,18,19] (by simp only[V0,G4,reduceIte,Nat.reduceEqDiff];rfl) (fun i:Nat=>[(20,.i (iI i))]) (fun _=>[(11,.map [.g,.s,.i .i64] [])]) (fun i=>i<=3) (fun i=>3-i) 0 (by omega) (by simp[V0,Fz,GF,Ref.nm]) ?_;intro i hi;by_cases ja:i<3
 ·have h3:((i:Int)<((0:Nat):Int)+1+1+1)=True:=eq_true (by omega);have h4:((i:Int)<3)=True:=eq_true (by omega)
  (repeat' first|simp(disch:=omega)only[go_sem,simprocAttr,h4,pe ja]|refine Aa ?_|fail)
  refine AA [3,4,5,18,19,20,25,26] (by simp only[V0,G4,reduceIte,Nat.reduceEqDiff];rfl) (fun _:Unit=>[(27,.i (iI 0))]) (fun _=>[(11,.map [.g,.s,.i .i64] [])]) (fun _=>True) (fun _=>0) () trivial (by simp[V0,Fz,GF,Ref.nm]) ?_;rintro _ _
  (repeat' first|simp(disch:=omega)only[go_sem,simprocAttr]|refine Aa ?_|fail)
  exact⟨i+1,by omega,by omega,rfl⟩
 ·have h3:((i:Int)<((0:Nat):Int)+1+1+1)=False:=eq_false (by omega);have h4:((i:Int)<3)=False:=eq_false (by omega)
  (repeat' first|simp(disch:=omega)only[go_sem,simprocAttr,h4]|refine Aa ?_|refine Sz.s ?_|fail)
theorem pg(t:List Tbl):Is mx 167 [.agg (Aw (Cj t))] (.map []):=by
 refine MX dw ?_
 (repeat' first|simp(disch:=omega)only[go_sem,simprocAttr,Cj,List.map_nil]|fail)
 refine AA [3,11,12] (by simp only[V0,G4,reduceIte,Nat.reduceEqDiff];rfl) (fun _:Unit=>[(13,.i (iI 0))]) (fun _=>[(3,.cells [.ref (.mp 9)]),(9,.gmap [.s] 0 [])]) (fun _=>True) (fun _=>0) () trivial (by simp[V0,Fz,GF,Ref.nm,Pq];exact fun x hx=>absurd hx (by simp[Blk.nms])) ?_;rintro _ _
 (repeat' first|simp(disch:=omega)only[go_sem,simprocAttr,List.map_nil]|refine Aa ?_|fail)
 refine AA [3,34] (by simp only[V0,G4,reduceIte,Nat.reduceEqDiff];rfl) (fun _:Unit=>[]) (fun _=>[(34,.iter none []),(3,.cells [.i (.map [])])]) (fun _=>True) (fun _=>0) () trivial (by simp[V0,Fz,GF,Ref.nm]) ?_;rintro _ _
 (repeat' first|simp(disch:=omega)only[go_sem,simprocAttr]|fail)
 refine Mv (l:=([]:List Unit)) (f:=fun _=>default) (fun _=>?_) (fun q hq=>absurd hq (by simp))
 (repeat' first|simp(disch:=omega)only[go_sem,simprocAttr]|refine Aa ?_|refine Sz.s ?_|fail)
theorem ph(m:List (I×I)):Is mx 169 [.map m] (.fn 222 [] [.elt [.map m] 0]):=by
 refine MX dy ?_
 (repeat' first|simp(disch:=omega)only[go_sem,simprocAttr]|refine Sz.s ?_|fail)
 all_goals(try rfl)
theorem pi:Em Tryz.prog (Nt mx) 222 [.elt [.map []] 0] []:=by
 intro y m mv N go hV hm hN hgo qa hy;have hk:∀k,Pu mv (m k)=true:=fun k=>(hm k).1
 have g1:∀k q,q<5000->Ac (m k) q=none:=fun k q hq=>Nn (hk k) hq
 have g2:∀k q b,q<5000->Pt q b (m k)=m k:=fun k q b hq=>Pa (hk k) hq b
 have g3:∀k q,q<5000->BC (m k) q=m k:=fun k q hq=>Pb (hk k) hq
 have hN0:N=0:=by simpa using hN
 subst hN0;refine MX dZ ?_ (hpin:=Pc (hk 0))
 (repeat' first|simp(disch:=omega)only[go_sem,simprocAttr,List.map_cons,List.map_nil,g1]|fail)
 refine AA [0,5] (by simp only[V0,G4,reduceIte,Nat.reduceEqDiff];rfl) (fun _:Unit=>[]) (fun _=>(5,.iter none [])::m 0) (fun _=>True) (fun _=>0) () trivial ?_ ?_
 ·have g6:=LG (hk 0) (q:=5) (by decide) (.iter none []);have g7:=FW (k:=5) (b:=.iter none []) (Ep (hk 0));simp[V0,Fz,GF,Ref.nm]at g6 g7⊢;exact⟨g6,g7⟩
 ·rintro _ _
  (repeat' first|simp(disch:=omega)only[go_sem,simprocAttr]|fail)
  refine Mv (l:=([]:List Unit)) (f:=fun _=>default) (fun _=>?_) (fun q hq=>absurd hq (by simp))
  (repeat' first|simp(disch:=omega)only[go_sem,simprocAttr]|refine Aa ?_|fail)
  exact No (own:=[(5,_)]) (hk 0) rfl ⟨rfl,rfl⟩
theorem pj(gf:Nat)(caps:List I)(xs:List Bs)(ku:B9 Tryz.prog gf=true)(hs:Em Tryz.prog (Nt mx) gf caps (xs.map fun e=>[.str e]))(hl:xs.length<=1000000):
  MC Tryz.prog (Nt mx) 258 [.ref (.sl 5500 1 0 0),.i (.fn gf [] caps)] [(5500,.rows 9 1 [])] [5500]
   (fun r s=>r=.ref (.sl 5500 1 0 xs.length)/\s=[(5500,.rows 9 1 (xs.map fun s=>[.str s]))]):=by
 refine MX eM ?_
 (repeat' first|simp(disch:=omega)only[go_sem,simprocAttr]|fail)
 have hx:∀j,j<xs.length->(xs.map fun e=>[I.str e]).getD j []=[.str (xs.getD j default)]:=fun j hj=>by rw[List.getD_eq_getElem?_getD,List.getElem?_map,List.getElem?_eq_getElem hj,A7 hj];rfl
 refine K0 (gf:=gf) rfl ku hs [(2,5002)] [.any,.any,.ref (.loc 5002 0),.any,.any,.any,.any,.any,.any,.any,.any,.any,.any] (fun j=>[(5002,.cells [.ref (.sl 5500 1 0 j)]),(5500,.rows 9 1 ((xs.take j).map fun s=>[.str s]))]) [5500] xs.length .none
  ⟨by simp,fun _=>by simp,fun h=>absurd rfl h⟩ rfl (fun j hj=>⟨rfl,rfl,rfl,rfl⟩) rfl (by simp[GA,Af,B2,If,Nv,Ih,sw]) rfl (by simp[Ig,KC,If,Nv,Ih,sw,Bl,Ac]) (fun j hj=>⟨by rw[hx j hj];rfl,?_⟩) ?_
 ·have qe:=D9 (f:=fun s:Bs=>[I.str s]) (k:=1) (fun _=>rfl) (fun _=>rfl) (xs.getD j default);rw[hx j hj,ite_self];have hT:(xs.take (j+1)).map (fun s=>[I.str s])=(xs.take j).map (fun s=>[I.str s])++[[.str (xs.getD j default)]]:=by rw[CR hj,List.map_append];rfl
  have k7:(xs.take j).length=j:=by simp;omega
  generalize xs.take j=acc at hT k7;have kj:List.take j (acc.map fun s=>[I.str s])=acc.map fun s=>[.str s]:=List.take_of_length_le (by simp[k7])
  simp only[D0,C3,Nat.reduceAdd]
  (repeat' first|simp(disch:=omega)only[go_sem,simprocAttr,Dw,aT,qe.1,qe.2,Nat.sub_zero,k7,kj]|(refine And.intro ?_ ?_;focus omega))
  all_goals(refine⟨rfl,[],?_⟩;simp(disch:=omega)only[go_sem,Nat.reduceEqDiff];first|rw[hT]|exact⟨rfl,by rw[hT]⟩)
 ·refine⟨by simp[Ig,KC,If,Nv,Ih,sw,AY,ren,Ac],by simp[Ig,KC,If,Nv,Ih,sw,ren,Ac],rfl,?_⟩;show C5 0 _ .normal _
  (repeat' first|simp(disch:=omega)only[go_sem,simprocAttr,Ig,KC,If,Nv,Ih,sw,AY,ren]|fail)
  rw[List.take_length];refine Fg [(5500,5500)] ?_;simp[YR]
theorem pm(nm:Nat)(hn:nm<5000)(gf:Nat)(caps:List I)(xs:List Bs)(ku:B9 Tryz.prog gf=true)(hs:Em Tryz.prog (Nt mx) gf caps (xs.map fun e=>[.str e]))(hl:xs.length<=1000000):
  MC Tryz.prog (Nt mx) 258 [.ref (.sl nm 1 0 0),.i (.fn gf [] caps)] [(nm,.rows 9 1 [])] [nm]
   (fun r s=>r=.ref (.sl nm 1 0 xs.length)/\s=[(nm,.rows 9 1 (xs.map fun s=>[.str s]))]):=by
 have e1:LL [(5500,nm)] 5500=nm:=by simp[LL,sw]
 have h:=(MC.as [(5500,nm)] (pj (mx:=mx) gf caps xs ku hs hl)).mono (R':=fun r s=>r=.ref (.sl nm 1 0 xs.length)/\s=[(nm,.rows 9 1 (xs.map fun s=>[.str s]))]) (by
  rintro r s ⟨h1,h2⟩;have k:=El (f:=Ih [(5500,nm)]) (g:=LL [(5500,nm)]) (Cq _) r;have k2:=FN (f:=Ih [(5500,nm)]) (g:=LL [(5500,nm)]) (Cq _) s;rw[h1]at k;rw[h2]at k2;refine⟨?_,?_⟩
  ·rw[<-k];simp only[If,Nv,e1]
  ·rw[<-k2];simp only[Ig,KC,e1])
 simp only[List.map_cons,List.map_nil,If,Nv,Ig,KC,e1]at h;exact h
theorem pn(gf:Nat)(caps:List I)(xs:List Bs)(ku:B9 Tryz.prog gf=true)(hs:Em Tryz.prog (Nt mx) gf caps (xs.map fun e=>[.str e]))(hl:xs.length<=1000000):
  MC Tryz.prog (Nt mx) 220 [.i (.fn gf [] caps)] [] [] (fun r s=>r=.ref (.sl 6000 1 0 xs.length)/\s=[(6000,.rows 9 1 (xs.map fun s=>[.str s]))]):=by
 have m1:=(pm (mx:=mx) 2004 (by decide) gf caps xs ku hs hl).arrIn [];refine MX dY ?_
 (repeat' first|simp(disch:=omega)only[go_sem,simprocAttr]|fail)
 refine Yw m1 rfl rfl (by simp[Bl,Ac]) (by simp[Ps,Pq,Blk.nms,D.nms,Ref.nm,Ac]) (fun r sto' hR=>?_);obtain⟨rfl,rfl⟩:=hR
 (repeat' first|simp(disch:=omega)only[go_sem,simprocAttr]|fail)
 refine Fg [(2004,6000)] ?_;simp[YR]
theorem po(gf:Nat)(caps:List I)(xs:List Bs)(ku:B9 Tryz.prog gf=true)(hs:Em Tryz.prog (Nt mx) gf caps (xs.map fun e=>[.str e]))(hl:xs.length<=1000000):
  Is mx 168 [.fn gf [] caps] (.sl ((xs.mergeSort fun x y=>decide (x<=y)).map fun s=>[.str s])):=by
 have m1:=pn (mx:=mx) gf caps xs ku hs hl;have m2:=gM (mx:=mx) 5 9 xs (by decide) (by omega);have k7:(xs.mergeSort fun x y=>decide (x<=y)).length=xs.length:=(List.mergeSort_perm _ _).length_eq;refine MX dx ?_
 (repeat' first|simp(disch:=omega)only[go_sem,simprocAttr]|(first|refine Eq (m1) ?_ (fun r sto' hR=>?_)|refine D4 (m1) ?_ (fun r sto' hR=>?_);(focus(first|rfl|(simp only[go_sem,simprocAttr];done)));first|(obtain⟨rfl,rfl⟩:=hR)|(obtain⟨_,(rfl|rfl),rfl,rfl⟩:=hR))|(first|refine Eq (m2) ?_ (fun r sto' hR=>?_)|refine D4 (m2) ?_ (fun r sto' hR=>?_);(focus(first|rfl|(simp only[go_sem,simprocAttr];done)));first|(obtain⟨rfl,rfl⟩:=hR)|(obtain⟨_,(rfl|rfl),rfl,rfl⟩:=hR))|refine Sz.s ?_|fail)
 rw[if_pos (by rw[k7];exact Nat.le_refl _),List.take_of_length_le (by rw[List.length_map,k7];exact Nat.le_refl _)];exact⟨rfl,rfl⟩
theorem pp(t:List Tbl):Is mx 120 [.agg (Aw (Cj t))] .nilsl:=by
 have d1:=pg (mx:=mx) t;have d2:=ph (mx:=mx) [];have d3:=po (mx:=mx) 222 [.elt [.map []] 0] [] (by kernel_rfl) pi (by simp);simp only[List.mergeSort_nil,List.map_nil]at d3;refine MX cZ ?_
 (repeat' first|simp(disch:=omega)only[go_sem,simprocAttr]|refine Sx.s ?_ ?_<;>try(intro h;have h':=h;try simp only[HB]at h';try rewrite [h];try simp only[h])|refine Ab (d1) ?_|refine Ab (d2) ?_|refine Ab (d3) ?_|fail)
 refine AA [3,11,12] (by simp only[V0,G4,reduceIte,Nat.reduceEqDiff];rfl) (fun _:Unit=>[(2,.i .nilsl),(13,.i (iI 0))]) (fun _=>[]) (fun _=>True) (fun _=>0) () trivial (by simp[V0,Fz,GF]) ?_;rintro _ _
 (repeat' first|simp(disch:=omega)only[go_sem,simprocAttr]|refine Aa ?_|refine Sz.s ?_|fail)
end
section
def pq(c:Cat)(r:D)(s:List (Nat×Blk)):Prop:=s=[]/\((r=.i .nilsl/\Lo c=[])\/∃(x:Bs) (L:List Bs),r=.i (.sl ((x::L).map fun s=>[.str s]))/\Lo c≠[])
theorem pr(c:Cat)(hc:AV c<=1073741823)(hv:Is mx 118 [.agg (Aw c)] (iI (Fq c.features.length (c.features.length+c.drafts.length) [] (C8 c))))
  (hf:∀f∈c.features,Is mx 119 [.agg (Aw c),.agg (At f)] (iI (GT c f)))(hcy:c.features.length<=32->Fr c c.features=0->MC Tryz.prog (Nt mx) 120 [.i (.agg (Aw c))] [] [] (pq c)):
  Is mx 79 [.agg (Aw c)] (iI (HW c)):=by
 have hR:=HW.eq_1 c;have lt:=HM c.tables;have lf:=Fj c.features;have ld:=Fj c.drafts;have lp:=Fj c.past;have hb:=Ch c;by_cases hlim:16<c.tables.length\/32<c.features.length\/32<c.drafts.length\/32<c.past.length
 ·rw[if_pos hlim]at hR;rw[hR];have l1:(decide ((16:Int)<(c.tables.length:Int))||decide ((32:Int)<(c.features.length:Int))||decide ((32:Int)<(c.drafts.length:Int))||decide ((32:Int)<(c.past.length:Int)))=true:=by simp only[Bool.or_eq_true,decide_eq_true_eq];omega
  refine MX xv ?_
  (repeat' first|exact Al _|simp(disch:=omega)only[go_sem,simprocAttr,l1]|refine' Ao (fun hq=>?_) (fun f=>?_)<;>try(have jc:=hq;try simp only[HB]at jc)|refine Aa ?_|refine Sz.s ?_|fail)
 ·rw[if_neg hlim]at hR;have l1:(decide ((16:Int)<(c.tables.length:Int))||decide ((32:Int)<(c.features.length:Int))||decide ((32:Int)<(c.drafts.length:Int))||decide ((32:Int)<(c.past.length:Int)))=false:=by simp only[Bool.or_eq_false_iff,decide_eq_false_iff_not];omega
  refine MX xv ?_
  (repeat' first|exact Al _|simp(disch:=omega)only[go_sem,simprocAttr,l1]|refine' Ao (fun hq=>?_) (fun f=>?_)<;>try(have jc:=hq;try simp only[HB]at jc)|refine Aa ?_|fail)
  refine AA [1,33,34] (by simp only[V0,G4,reduceIte,Nat.reduceEqDiff];rfl) (fun i:Nat=>[(35,.i (iI i))]) (fun _=>[])
   (fun i=>i<=c.tables.length/\Fp (Ex c.tables i) (c.tables.drop i)=Fp none c.tables) (fun i=>c.tables.length-i) 0 ⟨by omega,rfl⟩ (by simp[V0,Fz,GF]) ?_
  rintro i ⟨hi,jb⟩;by_cases ja:i<c.tables.length
  ·have hm:=AE ja;have hbt:CW (c.tables.getD i default)<=1073741824:=by have:=B0 (b:=CW) hm;omega
   have h1:=i8 (mx:=mx) (c.tables.getD i default) (fun f hf=>by have h1:=GR (c.tables.getD i default);have h2:=B0 (b:=EN) hf;have h3:=MS f;have h4:DM f.typ=Ag AX f.typ.unit+f.typ.of.length+1:=rfl;have h5:=EL f.typ.unit;show f.typ.unit.length<=_;omega) (by have h1:=GR (c.tables.getD i default);have:=OP (c.tables.getD i default).fields;omega);rw[<-jY]at h1;rw[EP ja,Xe]at jb;have hnx:Ex c.tables (i+1)=some (c.tables.getD i default).name:=by simp[Ex]
   rw[<-hnx]at jb;by_cases h0:i=0
   ·subst h0;have hp0:wJ (Ex c.tables 0) (c.tables.getD 0 default).name=false:=rfl;simp only[hp0,Bool.false_eq_true,if_false]at jb;have hz:(0:Int)<(c.tables.length:Int):=by omega
    by_cases ht:ES (c.tables.getD 0 default)=0
    ·rw[if_neg (by omega)]at jb;rw[ht]at h1
     (repeat' first|simp(disch:=omega)only[go_sem,simprocAttr,eq_true hz,Int.natCast_zero,Int.lt_irrefl,ne_eq,not_true_eq_false,decide_false,decide_true]|refine Sx.s ?_ ?_<;>try(intro h;have h':=h;try simp only[HB]at h';try rewrite [h];try simp only[h])|refine Ab (h1) ?_|refine Aa ?_|refine Am ?_|fail)
     exact⟨1,⟨ja,jb⟩,by omega,rfl⟩
    ·rw[if_pos ht]at jb;rw[<-jb,if_pos ht]at hR;rw[hR]
     (repeat' first|simp(disch:=omega)only[go_sem,simprocAttr,eq_true hz,Int.natCast_zero,ne_eq,eq_false ht,not_false_eq_true,decide_true]|refine Sx.s ?_ ?_<;>try(intro h;have h':=h;try simp only[HB]at h';try rewrite [h];try simp only[h])|refine Ab (h1) ?_|refine Aa ?_|refine Sz.s ?_|fail)
   ·have hpr:Ex c.tables i=some (c.tables.getD (i-1) default).name:=by simp[Ex,h0]
    have hg:wJ (Ex c.tables i) (c.tables.getD i default).name=(Op.bytesLess (c.tables.getD i default).name (c.tables.getD (i-1) default).name||decide ((c.tables.getD i default).name=(c.tables.getD (i-1) default).name)):=by rw[hpr];rfl
    rw[hg]at jb;have jy:(0:Int)<(i:Int):=by omega
    have ky:((i:Int)-1).toNat=i-1:=by omega
    have kz:(i:Int)-1=((i-1:Nat):Int):=by omega
    have zP:i-1<c.tables.length:=by omega
    by_cases ht:ES (c.tables.getD i default)=0
    ·rw[if_neg (by omega)]at jb;rw[ht]at h1;cases hgv:(Op.bytesLess (c.tables.getD i default).name (c.tables.getD (i-1) default).name||decide ((c.tables.getD i default).name=(c.tables.getD (i-1) default).name))
     ·rw[hgv,if_neg (by simp)]at jb
      (repeat' first|simp(disch:=omega)only[go_sem,simprocAttr,Ck ja,eq_true jy,kz,Ck zP,ne_eq,not_true_eq_false,decide_false,decide_true,hgv]|refine Sx.s ?_ ?_<;>try(intro h;have h':=h;try simp only[HB]at h';try rewrite [h];try simp only[h])|refine Ab (h1) ?_|refine Aa ?_|refine Am ?_|fail)
      exact⟨i+1,⟨by omega,jb⟩,by omega,rfl⟩
     ·rw[hgv,if_pos rfl]at jb;rw[<-jb,if_pos (by decide)]at hR;rw[hR]
      (repeat' first|simp(disch:=omega)only[go_sem,simprocAttr,Ck ja,eq_true jy,kz,Ck zP,ne_eq,not_true_eq_false,decide_false,decide_true,hgv]|refine Sx.s ?_ ?_<;>try(intro h;have h':=h;try simp only[HB]at h';try rewrite [h];try simp only[h])|refine Ab (h1) ?_|refine Aa ?_|refine Am ?_|refine Sz.s ?_|fail)
    ·rw[if_pos ht]at jb;rw[<-jb,if_pos ht]at hR;rw[hR]
     (repeat' first|simp(disch:=omega)only[go_sem,simprocAttr,Ck ja,ne_eq,eq_false ht,not_false_eq_true,decide_true]|refine Sx.s ?_ ?_<;>try(intro h;have h':=h;try simp only[HB]at h';try rewrite [h];try simp only[h])|refine Ab (h1) ?_|refine Aa ?_|refine Sz.s ?_|fail)
  ·rw[List.drop_eq_nil_of_le (by omega),show∀p,Fp p []=0 from fun p=>by cases p<;>rfl]at jb;rw[<-jb,if_neg (by simp)]at hR;by_cases hvz:Fq c.features.length (c.features.length+c.drafts.length) [] (C8 c)=0
   ·rw[if_neg (by omega)]at hR;rw[hvz]at hv
    (repeat' first|simp(disch:=omega)only[go_sem,simprocAttr,Ie ja,ne_eq,not_true_eq_false,decide_false]|refine Sx.s ?_ ?_<;>try(intro h;have h':=h;try simp only[HB]at h';try rewrite [h];try simp only[h])|refine Ab (hv) ?_|refine Aa ?_|fail)
    refine AA [1,66,67] (by simp only[V0,G4,reduceIte,Nat.reduceEqDiff];rfl) (fun i:Nat=>[(68,.i (iI i))]) (fun _=>[])
     (fun i=>i<=c.features.length/\Fr c (c.features.drop i)=Fr c c.features) (fun i=>c.features.length-i) 0 ⟨by omega,rfl⟩ (by simp[V0,Fz,GF]) ?_
    rintro j ⟨hj,hjv⟩;by_cases jt:j<c.features.length
    ·have hm:=AE jt;have h1:=hf _ hm;rw[H0]at h1;rw[EP jt]at hjv;simp only[Fr]at hjv;by_cases ht:GT c (c.features.getD j default)=0
     ·rw[if_neg (by omega)]at hjv;rw[ht]at h1
      (repeat' first|simp(disch:=omega)only[go_sem,simprocAttr,Ck jt,H0,ne_eq,not_true_eq_false,decide_false,decide_true]|refine Sx.s ?_ ?_<;>try(intro h;have h':=h;try simp only[HB]at h';try rewrite [h];try simp only[h])|refine Ab (h1) ?_|refine Aa ?_|fail)
      exact⟨j+1,⟨by omega,hjv⟩,by omega,rfl⟩
     ·rw[if_pos ht]at hjv;rw[<-hjv,if_pos ht]at hR;rw[hR]
      (repeat' first|simp(disch:=omega)only[go_sem,simprocAttr,Ck jt,H0,ne_eq,eq_false ht,not_false_eq_true,decide_true]|refine Sx.s ?_ ?_<;>try(intro h;have h':=h;try simp only[HB]at h';try rewrite [h];try simp only[h])|refine Ab (h1) ?_|refine Aa ?_|refine Sz.s ?_|fail)
    ·rw[List.drop_eq_nil_of_le (by omega)]at hjv;rw[<-hjv,if_neg (by simp[Fr])]at hR;have hcy':=hcy (by omega) (by rw[<-hjv];rfl);have hce:Aw c=[.sl (c.tables.map AP),.sl (c.features.map At),.sl (c.drafts.map At),.sl (c.past.map At)]:=rfl;rw[hce]at hcy'
     (repeat' first|simp(disch:=omega)only[go_sem,simprocAttr,Ie jt]|refine Aa ?_|fail)
     refine D4 hcy' ?_ (fun r sto' hR'=>?_)
     ·simp only[go_sem,Nat.reduceEqDiff,List.map_cons,List.map_nil]
     obtain⟨rfl,⟨rfl,h0⟩|⟨x,L,rfl,h0⟩⟩:=hR'
     ·rw[if_neg (by simp[h0])]at hR;rw[hR]
      (repeat' first|simp(disch:=omega)only[go_sem,simprocAttr]|refine Sz.s ?_|fail)
     ·rw[if_pos h0]at hR;rw[hR]
      (repeat' first|simp(disch:=omega)only[go_sem,simprocAttr]|refine Sx.s ?_ ?_<;>try(intro h;have h':=h;try simp only[HB]at h';try rewrite [h];try simp only[h])|refine Sz.s ?_|fail)
      exfalso;omega
   ·rw[if_pos hvz]at hR;rw[hR]
    (repeat' first|simp(disch:=omega)only[go_sem,simprocAttr,Ie ja,ne_eq,eq_false hvz,not_false_eq_true,decide_true]|refine Sx.s ?_ ?_<;>try(intro h;have h':=h;try simp only[HB]at h';try rewrite [h];try simp only[h])|refine Ab (hv) ?_|refine Aa ?_|refine Sz.s ?_|fail)
theorem pw(t:List Tbl):Lo (Cj t)=[]:=rfl
theorem px(t:List Tbl)(hc:AV (Cj t)<=1073741823):Is mx 79 [.agg (Aw (Cj t))] (iI (HW (Cj t))):=
 pr (Cj t) hc (pf t) (fun f h=>by cases h) (fun _ _=>MC.mono (pp t) fun r s h=>⟨h.2,.inl ⟨h.1,pw t⟩⟩)
theorem py(t:List Tbl)(x:Chg)(hk:x.kind=1)(hb:AV (Cj t)+Dx x<=1073741):Is mx 42 [.agg (Aw (Cj t)),.agg (AD x)] (LJ (Cv (Cj t) x)):=by
 have hch:=RM (Cj t) x;have h1:CS (Cj t) x=GY (Cj t) x.table:=by unfold CS;rw[if_pos hk]
 have je:(Cj t).tables.length<=1073741:=by have:=Ch (Cj t);have:=HM (Cj t).tables;omega
 refine o0 (Cj t) x (Ky (Cj t) x.table) (fun _ _ _=>?_) ?_ ?_ ?_
 ·rw[hk];exact oP (Cj t) x (by omega)
 ·rw[h1];unfold Ky GY;split<;>rfl
 ·rw[h1];unfold Ky GY;split
  ·intro h;simp at h
  ·intro _;rfl
 ·intro h;have e:(CS (Cj t) x).1=Cj (DA t x.table):=by
   rw[h1];unfold Ky at h;unfold GY;split at h
   ·simp at h
   ·rename_i q;rw[if_neg q];rfl
  have qm:AV (CS (Cj t) x).1<=1073741:=by omega
  rw[e]at qm⊢;exact px _ (by omega)
end
section
mutual
def rz:Xpr->Int->Int
 |.mk _ _ _ _ _ _ _ _ a,most=>szL a 1 most
def szL:List Xpr->Int->Int->Int
 |[],n,_=>n
 |x::r,n,most=>if n<=most then szL r (n+rz x (most-n)) most else n
end
theorem pz(x:Xpr)(most:Int):rz x most=szL x.args 1 most:=by cases x;rfl
mutual
theorem Sb:∀(x:Xpr) (most:Int),1<=rz x most/\rz x most<=BT x
 |.mk _ _ _ _ _ _ _ _ a,most=>by have h:=szL_b a 1 most;grind[rz,BT]
theorem szL_b:∀(l:List Xpr) (n most:Int),n<=szL l n most/\szL l n most<=n+sizeXs l
 |[],n,most=>by simp[szL,sizeXs]
 |x::r,n,most=>by have h1:=Sb x (most-n);have h2:=szL_b r (n+rz x (most-n)) most;grind[szL,sizeXs]
end
theorem pA{l:List Xpr}{n most:Int}(h:¬n<=most):szL l n most=n:=by
 cases l with
 |nil=>rfl
 |cons x r=>rw[szL,if_neg h]
theorem pB:∀(m:Nat) (x:Xpr) (most:Int),BT x<=m->m<=1000000000->0<=most->most<=2000->Is mx 37 [.agg (eE x),iI most] (iI (rz x most)):=by
 intro m
 induction m with
 |zero=>intro x most h;have:=GJ x;omega
 |succ m ih=>
  intro x most hm hM h0 h1;have js:=F5 x;have hla:x.args.length<=1000000000:=by
   have:=HI (b:=BT) (fun y=>GJ y) x.args;have h2:∀l:List Xpr,Ag BT l=sizeXs l:=fun l=>by
    induction l with
    |nil=>rfl
    |cons a r ih=>simp[Ag,sizeXs,ih]
   grind
  rw[pz];refine MX yq ?_
  (repeat' first|simp(disch:=omega)only[go_sem,simprocAttr]|fail)
  refine QK [1,2] (fun g:Int×Nat=>[(5,.i (iI g.1)),(6,.i (iI g.2))]) (fun _=>[]) (fun g=>g.2<=x.args.length/\1<=g.1/\g.1<=1+sizeXs (x.args.take g.2)/\szL (x.args.drop g.2) g.1 most=szL x.args 1 most) (fun g=>x.args.length-g.2) (1,0) ⟨by omega,by omega,by simp[sizeXs],rfl⟩ ?_;rintro⟨n,i⟩ ⟨hi,hn1,hn2,jb⟩;simp only at hi hn1 hn2 jb;by_cases ja:i<x.args.length
  ·have ht1:=J5 x.args i ja;have ht2:=HH x.args (i+1);by_cases hn:n<=most
   ·have a1:=ih (x.args.getD i default) (most-n) (by rw[A7 ja];omega) (by omega) (by omega) (by omega);have hb:=Sb (x.args.getD i default) (most-n);have ki:=A7 ja;rw[<-ki]at ht1;have hnx:szL (x.args.drop (i+1)) (n+rz (x.args.getD i default) (most-n)) most=szL x.args 1 most:=by grind[EP,szL]
    clear ki;rw[Oo]at a1
    (repeat' first|simp(disch:=omega)only[go_sem,simprocAttr,Ck ja,Oo,eq_true hn]|refine Sx.s ?_ ?_<;>try(intro h;have h':=h;try simp only[HB]at h';try rewrite [h];try simp only[h])|refine Ab (a1) ?_|refine Aa ?_|fail)
    exact⟨(n+rz (x.args.getD i default) (most-n),i+1),⟨by simp only;omega,by simp only;omega,by simp only;rw[ht1];omega,hnx⟩,by simp only;omega,rfl,rfl⟩
   ·rw[pA hn]at jb;rw[<-jb]
    (repeat' first|simp(disch:=omega)only[go_sem,simprocAttr,Ck ja,eq_false hn]|refine Aa ?_|refine Sz.s ?_|fail)
  ·rw[List.drop_eq_nil_of_le (by omega)]at jb;rw[<-jb,szL]
   (repeat' first|simp(disch:=omega)only[go_sem,simprocAttr,Ie ja]|refine Aa ?_|refine Sz.s ?_|fail)
def Gj:List Ent->Int->Int
 |[],n=>n
 |x::r,n=>if n<=2000 then Gj r (n+rz x.change.feature.body (2000-n))else n
def G3(l:List Ent):Bool:= !decide (60<l.length)&&decide (Gj l 0<=2000)
theorem pC{l:List Ent}{n:Int}(h:¬n<=2000):Gj l n=n:=by
 cases l with
 |nil=>rfl
 |cons x r=>rw[Gj,if_neg h]
theorem pD(l:List Ent)(hl:Ag AF l<=1073740):Is mx 10 [.sl (l.map Ad)] (.bool (G3 l)):=by
 have je:=Lf l;refine MX xY ?_;by_cases h6:60<l.length
 ·have hR:G3 l=false:=by unfold G3;simp[h6]
  have h6T:((60:Int)<(l.length:Int))=True:=eq_true (by omega);rw[hR]
  (repeat' first|simp(disch:=omega)only[go_sem,simprocAttr,h6T]|refine Aa ?_|refine Sz.s ?_|fail)
 ·have hR:G3 l=decide (Gj l 0<=2000):=by unfold G3;rw[decide_eq_false h6];rfl
  have h6F:((60:Int)<(l.length:Int))=False:=eq_false (by omega);rw[hR]
  (repeat' first|simp(disch:=omega)only[go_sem,simprocAttr,h6F]|refine Aa ?_|fail)
  refine QK [0] (fun g:Int×Nat=>[(3,.i (iI g.1)),(4,.i (iI g.2))]) (fun _=>[]) (fun g=>g.2<=l.length/\0<=g.1/\g.1<=Ag AF (l.take g.2)/\Gj (l.drop g.2) g.1=Gj l 0) (fun g=>l.length-g.2) (0,0) ⟨by omega,by omega,by simp[Ag],rfl⟩ ?_;rintro⟨n,i⟩ ⟨hi,hn1,hn2,jb⟩;simp only at hi hn1 hn2 jb;by_cases ja:i<l.length
  ·have hts:Ag AF (l.take (i+1))=Ag AF (l.take i)+AF (l.getD i default):=by rw[CR ja,H3];simp[Ag]
   have wn:=Ni AF l (i+1);have e1:=Fl (l.getD i default);have e2:=Fk (l.getD i default).change;have e3:=Ja (l.getD i default).change.feature;by_cases hn:n<=2000
   ·have hb:=Sb (l.getD i default).change.feature.body (2000-n);have hsx:=MF (l.getD i default).change.feature.body;have a1:=pB (mx:=mx) (BT (l.getD i default).change.feature.body) (l.getD i default).change.feature.body (2000-n) (Nat.le_refl _) (by omega) (by omega) (by omega);have hnx:Gj (l.drop (i+1)) (n+rz (l.getD i default).change.feature.body (2000-n))=Gj l 0:=by grind[EP,Gj]
    rw[Oo]at a1
    (repeat' first|simp(disch:=omega)only[go_sem,simprocAttr,Ck ja,Ax,eq_true hn]|refine Sx.s ?_ ?_<;>try(intro h;have h':=h;try simp only[HB]at h';try rewrite [h];try simp only[h])|refine Ab (a1) ?_|refine Aa ?_|fail)
    exact⟨(n+rz (l.getD i default).change.feature.body (2000-n),i+1),⟨by simp only;omega,by simp only;omega,by simp only;rw[hts];omega,hnx⟩,by simp only;omega,rfl,rfl⟩
   ·rw[pC hn]at jb;rw[<-jb]
    (repeat' first|simp(disch:=omega)only[go_sem,simprocAttr,Ck ja,eq_false hn]|refine Aa ?_|refine Sz.s ?_|fail)
  ·rw[List.drop_eq_nil_of_le (by omega)]at jb;rw[<-jb,Gj]
   (repeat' first|simp(disch:=omega)only[go_sem,simprocAttr,Ie ja]|refine Aa ?_|refine Sz.s ?_|fail)
theorem Yx(l:List Ent)(hl:Ag AF l<=1073740):Is mx 14 [.sl (l.map Ad)] (.bool (G3 l&&decide (EY l=0))):=by
 have f1:=pD (mx:=mx) l hl;have c1:=mO (mx:=mx) l hl;refine MX x8 ?_
 (repeat' first|exact Al _|simp(disch:=omega)only[go_sem,simprocAttr]|refine' Ao (fun hq=>?_) (fun f=>?_)<;>try(have jc:=hq;try simp only[HB]at jc)|refine Sx.s ?_ ?_<;>try(intro h;have h':=h;try simp only[HB]at h';try rewrite [h];try simp only[h])|refine Ab (f1) ?_|refine Ab (c1) ?_|refine Sz.s ?_|fail)
 all_goals(try rfl)
theorem Pl(n:Int):Is mx 44 [iI n] (.agg (Ak ⟨[115],n⟩)):=by
 refine MX yx ?_
 (repeat' first|simp(disch:=omega)only[go_sem,simprocAttr]|refine Sz.s ?_|fail)
 all_goals(try rfl)
theorem Sc(n:Int):Is mx 46 [iI n] (.sl (([⟨2,n,[]⟩]:List Val).map A9)):=by
 refine MX yz ?_
 (repeat' first|simp(disch:=omega)only[go_sem,simprocAttr]|refine Sz.s ?_|fail)
 all_goals(try rfl)
theorem Pm(no tick:Int)(f:Fct):Is mx 45 [iI no,iI tick,.agg (Bu f)] (.agg (Ad ⟨no,tick,1,f,H5,Gh⟩)):=by
 refine MX yy ?_
 (repeat' first|simp(disch:=omega)only[go_sem,simprocAttr,Ol,Ax]|refine Sz.s ?_|fail)
 all_goals(try rfl)
theorem Ns(no tick:Int)(x:Ers):Is mx 47 [iI no,iI tick,.agg (Cy x)] (.agg (Ad ⟨no,tick,2,Ks,x,Gh⟩)):=by
 refine MX yA ?_
 (repeat' first|simp(disch:=omega)only[go_sem,simprocAttr,Ax]|refine Sz.s ?_|fail)
 all_goals(try rfl)
end
section
def LH:Bs:=[99,108,105,99,107,115]
def Yy:Bs:=[117,115,101,114]
def zl:Tbl:=⟨LH,Yy,[⟨[110],⟨2,[],[]⟩⟩],100⟩
def Bi(n:Int):Fid:=⟨[115],n⟩
def wS(n:Int):List Val:=[⟨2,n,[]⟩]
def e1:Ent:=⟨1,0,3,Ks,H5,⟨1,zl,CI,[]⟩⟩
def e2:Ent:=⟨2,12,1,⟨Bi 2,2,1,LH,[117],10,wS 7⟩,H5,Gh⟩
def e3:Ent:=⟨3,15,1,⟨Bi 1,1,0,LH,[117],10,wS 5⟩,H5,Gh⟩
def e4:Ent:=⟨4,20,1,⟨Bi 3,3,1,[],[],0,[]⟩,H5,Gh⟩
def e5:Ent:=⟨5,30,1,⟨Bi 4,1,0,LH,[117],25,wS 9⟩,H5,Gh⟩
def Nu:List Ent:=[e1,e2,e3,e4,e5]
def Pn:Rw:=⟨Bi 1,LH,[117],10,wS 7,2,12⟩
def Id:Rw:=⟨Bi 4,LH,[117],25,wS 9,5,30⟩
def YS:Ers:=⟨2,[],[],Bi 1⟩
def wT:Ers:=⟨1,Yy,[117],Lv⟩
def CY(no tick:Int)(x:Ers):Ent:=⟨no,tick,2,Ks,x,Gh⟩
def rO:List Ent:=Nu++[CY 6 40 YS]
def wU:List Ent:=Nu++[CY 6 40 wT]
def rE:List Ent:=[e1,CY 2 12 YS,CY 3 15 YS,CY 4 20 YS,e5,CY 6 40 YS]
theorem pE:Ag AF Nu<=1000:=by decide
theorem pF:EY Nu=0:=by kernel_rfl
theorem Yz:EZ []=[]:=List.mergeSort_nil
theorem Po(r:Rw):EZ [r]=[r]:=List.mergeSort_singleton r
theorem pG:rowsB (Jp Nu Nu.length).ids (Dn Nu 12)=[]:=by kernel_rfl
theorem pH:rowsB (Jp Nu Nu.length).ids (Dn Nu 15)=[Pn]:=by kernel_rfl
theorem pI:rowsB (Jp Nu Nu.length).ids (Dn Nu 20)=[]:=by kernel_rfl
theorem pJ:rowsB (Jp Nu Nu.length).ids (Dn Nu 30)=[Id]:=by kernel_rfl
theorem pK:rowsB (Jp Nu Nu.length).ids (Dn Nu 125)=[Id]:=by kernel_rfl
theorem pL:rowsB (Jp Nu Nu.length).ids (Dn Nu 126)=[Id]:=by kernel_rfl
theorem pM:Cw Nu 12=[]:=by simp[Cw,pG,Yz]
theorem pN:Cw Nu 15=[Pn]:=by simp[Cw,pH,Po]
theorem pO:Cw Nu 20=[]:=by simp[Cw,pI,Yz]
theorem pP:Cw Nu 30=[Id]:=by simp[Cw,pJ,Po]
theorem pQ:Cw Nu 125=[Id]:=by simp[Cw,pK,Po]
theorem pR:Cw Nu 126=[Id]:=by simp[Cw,pL,Po]
theorem pS:LC (atR Nu 125) (Cw Nu 125) 125=[Id]:=by rw[pQ];kernel_rfl
theorem pT:LC (atR Nu 126) (Cw Nu 126) 126=[]:=by rw[pR];kernel_rfl
theorem pU:(Jp rO rO.length).ids.map (·.1)=[Bi 1]:=by kernel_rfl
theorem pV:(Jp wU wU.length).ids.map (·.1)=[Bi 1,Bi 4]:=by kernel_rfl
theorem pW:rO.map (By (Jp rO rO.length).ids)=rE:=by kernel_rfl
end
end Go.Proofs.YtojgbkiejjingaaGreatDoor
