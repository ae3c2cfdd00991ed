/-
  Lemmas, no statement.
-/
import Derived.Test.YtojgbkiejjingaaGreatDoorK44
import Derived.Lib.Overlaps
set_option linter.all false
set_option maxRecDepth 100000
set_option maxHeartbeats 8000000
namespace Go.Proofs.YtojgbkiejjingaaGreatDoor
open Go Go.Dl Go.As Go.Proofs
variable {mx:Int}
attribute[local irreducible] Ah Aj MC W W2 FA ev evD step Ae
section
def B1(l:List Ent)(i:Nat):Cat:=(Ba l i).1
structure Valid(l:List Ent):Prop where
 err:∀i,i<=l.length->(Ba l i).2=0
theorem XG{l:List Ent}(h:EY l=0):Valid l:=⟨fun i hi=>by
 unfold EY at h;split at h
 ·cases h
 ·rename_i jh;by_cases e:(Ba l i).2=0
  ·exact e
  ·rw[RO e l.length hi]at h;exact absurd h e⟩
theorem Valid.len{l:List Ent}(h:EY l=0):l.length<=4096:=by grind[EY]
theorem Valid.step{l:List Ent}(h:Valid l){i:Nat}(hi:i<l.length):D8 l i (B1 l i)=(B1 l (i+1),0):=by have h1:=h.err (i+1) hi;grind[B1,Ba,D8]
theorem Valid.order{l:List Ent}(h:Valid l){i:Nat}(hi:i<l.length):(H7 (l.getD i default)||H8 l i (l.getD i default))=false:=by have:=h.step hi;grind[D8]
theorem Valid.form{l:List Ent}(h:Valid l){i:Nat}(hi:i<l.length):G0 (l.getD i default)=true:=by have:=h.step hi;grind[D8]
theorem Valid.tick{l:List Ent}(h:Valid l){i:Nat}(hi:i<l.length):0<=(l.getD i default).tick/\(l.getD i default).tick<=1099511627776:=by have:=h.order hi;grind[H7]
theorem Valid.kinds{l:List Ent}(h:Valid l){i:Nat}(hi:i<l.length):(l.getD i default).kind=1\/(l.getD i default).kind=2\/(l.getD i default).kind=3:=by have:=h.form hi;grind[G0]
theorem Valid.fact{l:List Ent}(h:Valid l){i:Nat}(hi:i<l.length)(hk:(l.getD i default).kind=1):B1 l (i+1)=B1 l i/\Ge (B1 l i) (l.getD i default).fact=0:=by have:=h.step hi;grind[D8]
theorem Valid.erase{l:List Ent}(h:Valid l){i:Nat}(hi:i<l.length)(hk:(l.getD i default).kind=2):B1 l (i+1)=B1 l i:=by have:=h.step hi;grind[D8]
theorem Valid.change{l:List Ent}(h:Valid l){i:Nat}(hi:i<l.length)(hk:(l.getD i default).kind=3):Cv (B1 l i) (l.getD i default).change=(B1 l (i+1),0):=by have:=h.step hi;grind[D8]
theorem XH{l:List Tbl}{t:Tbl}(h:A5 l t.name=none)(n:Bs):A5 (DA l t) n=if n=t.name then some t else A5 l n:=by
 have hm:∀x∈l,¬x.name=t.name:=fun x hx=>by have:=List.find?_eq_none.1 h x hx;simpa using this
 have e:l=l.take (DQ l t.name)++l.drop (DQ l t.name):=(List.take_append_drop _ _).symm;have e2:A5 l n=((l.take (DQ l t.name)).find? fun x=>decide (x.name=n)).or ((l.drop (DQ l t.name)).find? fun x=>decide (x.name=n)):=by
  conv=>lhs;rw[e]
  exact List.find?_append
 have e3:A5 (DA l t) n=(((l.take (DQ l t.name)).find? fun x=>decide (x.name=n)).or ([t].find? fun x=>decide (x.name=n))).or ((l.drop (DQ l t.name)).find? fun x=>decide (x.name=n)):=by grind[DA,BV,A5]
 grind
theorem nr{c c':Cat}{x:Chg}(h:Cv c x=(c',0)):(x.kind=1/\A5 c.tables x.table.name=none/\c'.tables=DA c.tables x.table)\/(x.kind≠1/\c'.tables=c.tables):=by
 unfold Cv at h;split at h
 ·cases h
 ·split at h
  ·grind
  ·rename_i jh;rw[Prod.mk.injEq]at h;have hE:Lu c x=0:=by omega
   have hc:(CS c x).2=0:=by grind[Lu]
   rw[<-h.1];unfold CS at hc⊢;split at hc
   ·rename_i h1;rw[if_pos h1];left;unfold GY at hc⊢;split at hc
    all_goals simp_all
   ·rename_i h1;rw[if_neg h1];right;refine⟨h1,?_⟩;split at hc
    ·grind[Ng]
    ·rename_i h2;rw[if_neg h2];split at hc
     ·rename_i h3;rw[if_pos h3];unfold H1 at hc⊢
      repeat' split
      ·grind
      ·rfl
      ·rfl
     ·rename_i h3;rw[if_neg h3];split at hc
      ·rename_i h4;rw[if_pos h4];unfold Gf at hc⊢
       repeat' split
       ·grind
       ·grind
       ·rfl
      ·grind[Ko]
theorem Valid.tabs{l:List Ent}(h:Valid l){i:Nat}(hi:i<l.length):
  ((l.getD i default).kind=3/\(l.getD i default).change.kind=1/\A5 (B1 l i).tables (l.getD i default).change.table.name=none/\(B1 l (i+1)).tables=DA (B1 l i).tables (l.getD i default).change.table)
  \/(¬((l.getD i default).kind=3/\(l.getD i default).change.kind=1)/\(B1 l (i+1)).tables=(B1 l i).tables):=by
 rcases h.kinds hi with hk|hk|hk
 ·exact .inr ⟨fun e=>absurd (hk.symm.trans e.1) (by decide),by rw[(h.fact hi hk).1]⟩
 ·exact .inr ⟨fun e=>absurd (hk.symm.trans e.1) (by decide),by rw[h.erase hi hk]⟩
 ·rcases nr (h.change hi hk)with⟨h1,h2,h3⟩|⟨h1,h2⟩
  ·exact .inl ⟨hk,h1,h2,h3⟩
  ·exact .inr ⟨fun e=>h1 e.2,h2⟩
theorem Valid.mono{l:List Ent}(h:Valid l){i:Nat}(hi:i<l.length){n:Bs}{t:Tbl}(ht:A5 (B1 l i).tables n=some t):A5 (B1 l (i+1)).tables n=some t:=by
 rcases h.tabs hi with⟨_,_,h1,h2⟩|⟨_,h2⟩
 all_goals grind[XH]
theorem Valid.at{l:List Ent}(h:Valid l){i:Nat}(hi:i<=l.length):∀j,j<=i->Bw (l.take i) 1099511627776 j=B1 l j
 |0,_=>rfl
 |j+1,hj=>by
  have ih:=h.at hi j (by omega);have jt:j<l.length:=by omega
  have e:(l.take i).getD j default=l.getD j default:=mb (by omega) hi;unfold Bw;rw[e,ih];have ht:=h.tick jt;rcases h.kinds jt with hk|hk|hk
  ·rw[if_pos (.inl (by rw[hk];decide)),(h.fact jt hk).1]
  ·rw[if_pos (.inl (by rw[hk];decide)),h.erase jt hk]
  ·rw[if_neg (by rw[hk];omega),h.change jt hk];simp
theorem Valid.atR{l:List Ent}(h:Valid l){i:Nat}(hi:i<=l.length):atR (l.take i) 1099511627776=B1 l i:=by
 have e:(l.take i).length=i:=by simp;omega
 unfold Proofs.YtojgbkiejjingaaGreatDoor.atR;rw[e];exact h.at hi i (Nat.le_refl _)
theorem Valid.table{l:List Ent}(h:Valid l){i:Nat}(hi:i<l.length)(hk:(l.getD i default).kind=1)(h3:(l.getD i default).fact.kind≠3):∃t,A5 (B1 l i).tables (l.getD i default).fact.table=some t:=by have:=(h.fact hi hk).2;grind[Ge]
theorem XI{l:List Ent}(h:Valid l):∀i,i<=l.length->∀n,AR (Jp l i).kinds n=(A5 (B1 l i).tables n).map Tbl.entity
 |0,_,n=>rfl
 |i+1,hi,n=>by
  have ih:=XI h i (by omega) n;have ja:i<l.length:=hi;rw[Jg ja];unfold YM;rcases h.tabs ja with⟨h1,h2,h3,h4⟩|⟨h1,h4⟩
  ·grind[XH,U2]
  ·rw[if_neg h1,h4,<-ih]
   repeat' split
   all_goals rfl
theorem XJ(w:KD)(x:Fid)(v:KD):∀A:List (KD×List Fid),(AR (Fv A w x) v).getD []=if v=w then(AR A v).getD []++[x]else(AR A v).getD []
 |[]=>by simp only[Fv,AR];grind
 |p::r=>by
  have ih:=XJ w x v r;simp only[Fv];by_cases e:p.1=w
  ·rw[if_pos e];simp only[AR];grind
  ·rw[if_neg e];simp only[AR];grind
theorem XK{l:List Ent}(h:Valid l):∀i,i<=l.length->∀(w:KD) (y:Fid),y∈(AR (Jp l i).about w).getD []↔
   ∃e∈l.take i,e.kind=1/\e.fact.kind≠3/\e.fact.key=w.2/\(∃t,A5 (B1 l i).tables e.fact.table=some t/\t.entity=w.1)/\y=AW e.fact
 |0,_,w,y=>by simp[Jp,AR]
 |i+1,hi,w,y=>by
  have ja:i<l.length:=hi;have ih:=XK h i (by omega) w y;have hpast:(∃e∈l.take i,e.kind=1/\e.fact.kind≠3/\e.fact.key=w.2/\(∃t,A5 (B1 l (i+1)).tables e.fact.table=some t/\t.entity=w.1)/\y=AW e.fact)↔y∈(AR (Jp l i).about w).getD []:=by
   rw[ih];refine⟨fun⟨e,he,a1,a2,a3,⟨t,a4,a5⟩,a6⟩=>⟨e,he,a1,a2,a3,?_,a6⟩,fun⟨e,he,a1,a2,a3,⟨t,a4,a5⟩,a6⟩=>⟨e,he,a1,a2,a3,⟨t,h.mono ja a4,a5⟩,a6⟩⟩;obtain⟨j,hj,rfl⟩:=List.mem_iff_getElem.1 he;have hji:j<i:=by simp at hj;omega
   have vw:j<l.length:=by omega
   have ej:(l.take i)[j]=l.getD j default:=by rw[A7 vw];simp
   rw[ej]at a1 a2 a4⊢;obtain⟨t',ht'⟩:=h.table vw a1 a2;have up:∀k,j<=k->k<=i->A5 (B1 l k).tables (l.getD j default).fact.table=some t':=fun k hk hki=>by
    induction k with
    |zero=>
     have:j=0:=by omega
     subst this;exact ht'
    |succ k ihk=>
     by_cases e:j=k+1
     ·subst e;exact ht'
     ·exact h.mono (by omega) (ihk (by omega) (by omega))
   have hti:=up i (by omega) (Nat.le_refl _);have:=h.mono ja hti;rw[this]at a4;have e:t'=t:=Option.some.inj a4;exact⟨t',hti,by rw[e];exact a5⟩
  rw[Jg ja,CR ja];have hsplit:(∃e∈l.take i++[l.getD i default],e.kind=1/\e.fact.kind≠3/\e.fact.key=w.2/\(∃t,A5 (B1 l (i+1)).tables e.fact.table=some t/\t.entity=w.1)/\y=AW e.fact)↔
    y∈(AR (Jp l i).about w).getD []\/((l.getD i default).kind=1/\(l.getD i default).fact.kind≠3/\(l.getD i default).fact.key=w.2/\(∃t,A5 (B1 l (i+1)).tables (l.getD i default).fact.table=some t/\t.entity=w.1)/\y=AW (l.getD i default).fact):=by
   rw[<-hpast];constructor
   ·rintro⟨e,he,q⟩;rcases List.mem_append.1 he with he|he
    ·exact .inl ⟨e,he,q⟩
    ·rw[List.mem_singleton.1 he]at q;exact .inr q
   ·rintro(⟨e,he,q⟩|q)
    ·exact⟨e,List.mem_append.2 (.inl he),q⟩
    ·exact⟨_,List.mem_append.2 (.inr (List.mem_singleton.2 rfl)),q⟩
  rw[hsplit];unfold YM;by_cases hc:(l.getD i default).kind=3/\(l.getD i default).change.kind=1
  ·rw[if_pos hc];refine⟨.inl,fun q=>q.elim id fun q=>?_⟩;rw[hc.1]at q;cases q.1
  ·rw[if_neg hc];by_cases hf:(l.getD i default).kind=1/\(l.getD i default).fact.kind≠3
   ·rw[if_pos hf];simp only[XJ];obtain⟨t,ht⟩:=h.table ja hf.1 hf.2;have hk:=XI h i (by omega) (l.getD i default).fact.table;rw[ht]at hk;have ht2:=h.mono ja ht;have hw:O9 (Jp l i) (l.getD i default).fact=(t.entity,(l.getD i default).fact.key):=by unfold O9;rw[hk];rfl
    rw[hw];split
    ·rename_i e;rw[List.mem_append,List.mem_singleton];constructor
     ·rintro(q|q)
      ·exact .inl q
      ·exact .inr ⟨hf.1,hf.2,by rw[e],⟨t,ht2,by rw[e]⟩,q⟩
     ·rintro(q|⟨_,_,_,_,q⟩)
      ·exact .inl q
      ·exact .inr q
    ·rename_i e;refine⟨.inl,fun q=>q.elim id fun⟨_,_,q3,⟨t',q4,q5⟩,_⟩=>?_⟩;rw[ht2]at q4;cases q4;exact absurd (Prod.ext q5.symm q3.symm) e
   ·rw[if_neg hf];have hno:¬((l.getD i default).kind=1/\(l.getD i default).fact.kind≠3/\(l.getD i default).fact.key=w.2/\(∃t,A5 (B1 l (i+1)).tables (l.getD i default).fact.table=some t/\t.entity=w.1)/\y=AW (l.getD i default).fact):=fun q=>hf ⟨q.1,q.2.1⟩
    repeat' split
    all_goals exact⟨.inl,fun q=>q.elim id fun q=>absurd q hno⟩
theorem XL(L:List Fid):∀(ids:List (Fid×Bool)) (y:Fid),y∈(DU ids L).map (·.1)↔y∈ids.map (·.1)\/y∈L:=by
 induction L with
 |nil=>intro ids y;simp[DU]
 |cons x r ih=>intro ids y;have:=ih (BG ids x true) y;grind[DU,Mx]
theorem nt(ids:List (Fid×Bool))(x y:Fid):y∈(BG ids x true).map (·.1)↔y=x\/y∈ids.map (·.1):=by have:=XL [x] ids y;grind[DU]
theorem XM{l:List Ent}(h:Valid l):∀i,i<=l.length->∀y,y∈(Jp l i).ids.map (·.1)↔y∈Bx l i
 |0,_,y=>by rfl
 |i+1,hi,y=>by
  have ja:i<l.length:=hi;have ih:=XM h i (by omega) y;rw[Jg ja];rcases h.kinds ja with hk|hk|hk
  ·have k2:(l.getD i default).kind≠2:=by omega
   have k3:¬((l.getD i default).kind=3/\(l.getD i default).change.kind=1):=fun q=>absurd (hk.symm.trans q.1) (by decide)
   have e2:Bx l (i+1)=Bx l i:=by grind[Bx]
   have e1:(YM (Jp l i) (l.getD i default)).ids=(Jp l i).ids:=by unfold YM;grind
   grind
  ·have k3:¬((l.getD i default).kind=3/\(l.getD i default).change.kind=1):=fun q=>absurd (hk.symm.trans q.1) (by decide)
   have k1:¬((l.getD i default).kind=1/\(l.getD i default).fact.kind≠3):=fun q=>absurd (hk.symm.trans q.1) (by decide)
   by_cases hx:(l.getD i default).erasure.kind=2
   ·have e2:Bx l (i+1)=Eb (Bx l i) (l.getD i default).erasure.id:=by grind[Bx]
    have e1:(YM (Jp l i) (l.getD i default)).ids=BG (Jp l i).ids (l.getD i default).erasure.id true:=by grind[YM]
    rw[e1,e2,Xy,nt,ih]
   ·have e2:Bx l (i+1)=Dk (l.take i) (atR (l.take i) 1099511627776) (l.getD i default).erasure (Bx l i):=by grind[Bx]
    have e1:(YM (Jp l i) (l.getD i default)).ids=DU (Jp l i).ids ((AR (Jp l i).about ((l.getD i default).erasure.entity,(l.getD i default).erasure.key)).getD []):=by grind[YM]
    rw[e1,e2,XL,XA,ih,XK h i (by omega),h.atR (by omega)]
  ·have k2:(l.getD i default).kind≠2:=by omega
   have k1:¬((l.getD i default).kind=1/\(l.getD i default).fact.kind≠3):=fun q=>absurd (hk.symm.trans q.1) (by decide)
   have e2:Bx l (i+1)=Bx l i:=by grind[Bx]
   have e1:(YM (Jp l i) (l.getD i default)).ids=(Jp l i).ids:=by unfold YM;grind
   grind
theorem XN{l:List Ent}(h:Valid l)(y:Fid):y∈(Jp l l.length).ids.map (·.1)↔y∈Ez l:=XM h l.length (Nat.le_refl _) y
theorem XO(ids:List (Fid×Bool))(x:Fid)(h:(ids.map (·.1)).Nodup):((BG ids x true).map (·.1)).Nodup:=by grind[Mx]
theorem nu(L:List Fid):∀ids:List (Fid×Bool),(ids.map (·.1)).Nodup->((DU ids L).map (·.1)).Nodup:=by
 induction L with
 |nil=>intro ids h;exact h
 |cons x r ih=>intro ids h;exact ih _ (XO ids x h)
theorem XP(l:List Ent):∀i,i<=l.length->((Jp l i).ids.map (·.1)).Nodup
 |0,_=>by simp[Jp]
 |i+1,hi=>by
  have ih:=XP l i (by omega);rw[Jg hi];unfold YM
  repeat' split
  all_goals first|exact ih|exact XO _ _ ih|exact nu _ _ ih
theorem nv{l:List Ent}(h:Valid l):DE ((Jp l l.length).ids.map (·.1))=Ez l:=by
 have hs:=RW ((Jp l l.length).ids.map (·.1));have hn:(DE ((Jp l l.length).ids.map (·.1))).Nodup:=(Nl _).nodup_iff.2 (XP l l.length (Nat.le_refl _));refine RT Ib ?_ (O7 l l.length) fun x=>by rw[(Nl _).mem_iff];exact XN h x
 rw[List.pairwise_iff_getElem]at hs⊢;intro i j hi hj hij;rcases Nk (DE ((Jp l l.length).ids.map (·.1)))[i] (DE ((Jp l l.length).ids.map (·.1)))[j]with q|q|q
 ·exact q
 ·have:=(List.getElem_inj hn).1 q;omega
 ·exact absurd q (hs i j hi hj hij)
end
section
theorem XQ(nm:Nat)(hn:nm<5000)(l:List Fid)(hl:l.length<4611686018427387904):MC Tryz.prog (Nt mx) 54 [.ref (.sl nm 2 0 l.length),.i (.fn 55 [] [])] [(nm,.rows 30 2 (l.map Ak))] []
  (fun r s=>r=.i (.tup [])/\s=[(nm,.rows 30 2 ((DE l).map Ak))]):=by
 have e1:LL [(5000,nm)] 5000=nm:=by rfl
 have h:=(MC.as [(5000,nm)] (ni (mx:=mx) l hl)).mono (R':=fun r s=>r=.i (.tup [])/\s=[(nm,.rows 30 2 ((DE l).map Ak))]) (by
  rintro r s ⟨h1,h2⟩;have k:=El (f:=Ih [(5000,nm)]) (g:=LL [(5000,nm)]) (Cq _) r;have k2:=FN (f:=Ih [(5000,nm)]) (g:=LL [(5000,nm)]) (Cq _) s;rw[h1]at k;rw[h2]at k2;refine⟨k.symm,?_⟩;rw[<-k2];simp only[Ig,KC,e1])
 simp only[List.map_cons,List.map_nil,If,Nv,Ig,KC,e1]at h;exact h
theorem ny{a b:List Fid}(h:a.Perm b):DE a=DE b:=RX ((Nl a).trans h) (RW a)
theorem XR(L:List Fid):∀ids:List (Fid×Bool),(DU ids L).length<=ids.length+L.length:=by
 induction L with
 |nil=>intro ids;simp[DU]
 |cons x r ih=>
  intro ids;have h1:=ih (BG ids x true);have h2:(BG ids x true).length<=ids.length+1:=by have:=Mx ids x true;have h3:=congrArg List.length this;grind
  grind[DU]
theorem nz(ids:List (Fid×Bool))(x:Fid):(BG ids x true).length<=ids.length+1:=by have:=XR [x] ids;grind[DU]
theorem nA{A:List (KD×List Fid)}{w:KD}{L:List Fid}(h:AR A w=some L):∃p∈A,p.2=L:=by
 induction A with
 |nil=>cases h
 |cons q r ih=>grind[AR]
theorem XS(l:List Ent):∀i,i<=l.length->(Jp l i).ids.length<=i*(l.length+1)
 |0,_=>by simp[Jp]
 |i+1,h=>by
  have ih:=XS l i (by omega);have hs:=R0 l i (by omega);rw[Jg (by omega),Nat.succ_mul];unfold YM
  repeat' split
  ·grind
  ·grind
  ·grind[nz,Jp,BG]
  ·have:=XR ((AR (Jp l i).about ((l.getD i default).erasure.entity,(l.getD i default).erasure.key)).getD []) (Jp l i).ids;have h2:((AR (Jp l i).about ((l.getD i default).erasure.entity,(l.getD i default).erasure.key)).getD []).length<=i:=by
    cases e:AR (Jp l i).about ((l.getD i default).erasure.entity,(l.getD i default).erasure.key)with
    |none=>simp
    |some L=>obtain⟨p,hp,rfl⟩:=nA e;exact hs p hp
   grind
  ·omega
theorem nB{l:List Ent}(h30:l.length<=30000):(Jp l l.length).ids.length<=1000000000:=by have h0:=XS l l.length (Nat.le_refl _);have h1:l.length*(l.length+1)<=30000*30001:=Nat.mul_le_mul (by omega) (by omega);omega
theorem R2(l:List Ent)(hl:l.length<=30000):Is mx 21 [.sl (l.map Ad)] (.sl ((DE ((Jp l l.length).ids.map (·.1))).map Ak)):=by
 have e0:=Nm (mx:=mx) l (by omega);have hb:=nB hl;generalize (Jp l l.length).ids=ids at e0 hb;simp only[Fw,Ak]at e0;refine MX ye ?_
 (repeat' first|simp only[go_sem,simprocAttr]|refine Sx.s ?_ ?_<;>try(intro h;have h':=h;try simp only[HB]at h';try rewrite [h];try simp only[h])|refine Ab (e0) ?_|fail)
 refine AA [6] (by simp only[V0,G4,reduceIte,Nat.reduceEqDiff];rfl) (fun g:List Fid×List (Fid×Bool)×Option (I×I)=>[(2,.ref (.sl 2 2 0 g.1.length))]) (fun g=>[(6,.iter g.2.2 (g.2.1.map fun p=>(.agg [.str p.1.source,.int .i64 p.1.seq],.bool p.2))),(2,.rows 30 2 (g.1.map Ak))])
  (fun g=>(g.1++g.2.1.map (·.1)).Perm (ids.map (·.1))) (fun g=>g.2.1.length) ([],ids,none) (by simp) (by simp[V0,Fz,GF,Ref.nm]) ?_
 rintro⟨acc,rest,cur⟩ jb;have je:=jb.length_eq;simp only[List.length_append,List.length_map]at je
 (repeat' first|simp only[go_sem,simprocAttr,Nat.sub_zero]|(first|refine Eq (XQ 2 (by decide) acc (by omega)) ?_ (fun r sto' hR=>?_)|refine D4 (XQ 2 (by decide) acc (by omega)) ?_ (fun r sto' hR=>?_);(focus(first|rfl|(simp only[go_sem,simprocAttr,Ak,Nat.sub_zero];done)));first|(obtain⟨rfl,rfl⟩:=hR)|(obtain⟨_,(rfl|rfl),rfl,rfl⟩:=hR))|refine Aa ?_|refine Sz.s ?_|refine Mv (fun hr=>?_) (fun q hq=>?_)|fail)
 ·subst hr;have hms:(DE acc).length=acc.length:=nh acc;rw[if_pos (by rw[hms];exact Nat.le_refl _),List.take_of_length_le (by rw[List.length_map,hms];exact Nat.le_refl _)];have hp:acc.Perm (ids.map (·.1)):=by grind
  rw[<-ny hp];exact⟨rfl,rfl⟩
 ·refine⟨by simp,by simp[I.one],by omega,by omega,⟨acc++[rest[q].1],rest.eraseIdx q,some (.agg [.str rest[q].1.source,.int .i64 rest[q].1.seq],.bool rest[q].2)⟩,?_,?_,by simp,rfl,?_⟩
  ·refine List.Perm.trans ?_ jb;have:=(QU hq).map (fun x:Fid×Bool=>x.1);simp only[List.map_cons]at this;rw[List.append_assoc];exact List.Perm.append_left acc this
  ·rw[List.length_eraseIdx];simp[hq];omega
  ·simp[Ak]
def rm(ids:List (Fid×Bool))(id:Fid):Bool:=(AR ids id).getD false
theorem Kv(l:List (Fid×Bool))(id:Fid):CB (Fw l) (.agg [.str id.source,.int .i64 id.seq]) (.bool false) false=.bool (rm l id):=QF (eK:=fun id:Fid=>I.agg (Ak id)) (f:=I.bool) Ov l id false
def By(ids:List (Fid×Bool))(e:Ent):Ent:=if e.kind=1/\rm ids (AW e.fact)=true then DR e else e
theorem Jh(l:List (Fid×Bool)):(∀e∈Fw l,Au [.g,.s,.i .i64] e.1=true)=True:=eq_true fun e he=>by obtain⟨p,_,rfl⟩:=List.mem_map.1 he;rfl
theorem XT(l:List Ent)(hl:l.length<=30000):Is mx 16 [.sl (l.map Ad)] (.sl ((l.map (By (Jp l l.length).ids)).map Ad)):=by
 have e0:=Nm (mx:=mx) l (by omega);generalize (Jp l l.length).ids=ids at e0;refine MX xt ?_
 (repeat' first|simp(disch:=omega)only[go_sem,simprocAttr]|refine Sx.s ?_ ?_<;>try(intro h;have h':=h;try simp only[HB]at h';try rewrite [h];try simp only[h])|refine Ab (e0) ?_|fail)
 refine AA [3,8,9] (by simp only[V0,G4,reduceIte,Nat.reduceEqDiff];rfl) (fun i:Nat=>[(2,.ref (.sl 2 40 0 i)),(10,.i (iI i))]) (fun i=>[(2,.rows 54 40 (((l.take i).map (By ids)).map Ad))])
  (fun i=>i<=l.length) (fun i=>l.length-i) 0 (by simp) (by simp[V0,Fz,GF,Ref.nm]) ?_
 intro i hi;have k7:((l.take i).map (By ids)).length=i:=by simp;omega
 by_cases ja:i<l.length
 ·have b1:=O6 (mx:=mx) (l.getD i default).fact;have hT:(l.take (i+1)).map (By ids)=(l.take i).map (By ids)++[By ids (l.getD i default)]:=by grind[CR]
  have qe:=D9 Dj Fu (l.getD i default);have hr2:=D9 Dj Fu (DR (l.getD i default));rw[Ax]at qe hr2;simp only[DR]at hr2;have kx:=Kv ids (AW (l.getD i default).fact);generalize (l.take i).map (By ids)=acc at k7 hT;have kj:List.take i (acc.map Ad)=acc.map Ad:=List.take_of_length_le (by simp[k7]);by_cases hk:(l.getD i default).kind=1
  ·cases jr:rm ids (AW (l.getD i default).fact)
   ·have hp:By ids (l.getD i default)=l.getD i default:=by rw[By,if_neg];rw[jr];simp
    rw[hp]at hT;rw[jr]at kx
    (repeat' first|simp(disch:=omega)only[go_sem,simprocAttr,Ck ja,Ax,eq_true hk,qe.1,qe.2,k7,Nat.sub_zero,kx,Ak,Au,Ay,A6,beq_self_eq_true]|refine Sx.s ?_ ?_<;>try(intro h;have h':=h;try simp only[HB]at h';try rewrite [h];try simp only[h])|refine Ab (b1) ?_|refine Aa ?_|fail)
    exact⟨of_eq_true (Jh ids),by omega,by omega,i+1,by omega,by omega,⟨rfl,rfl⟩,by rw[hT,List.map_append,List.map_cons,List.map_nil,Ax (l.getD i default),kj]⟩
   ·have hp:By ids (l.getD i default)=DR (l.getD i default):=by rw[By,if_pos ⟨hk,jr⟩]
    rw[hp]at hT;rw[jr]at kx
    (repeat' first|simp(disch:=omega)only[go_sem,simprocAttr,Ck ja,Ax,eq_true hk,kx,Ak,Au,Ay,A6,beq_self_eq_true]|refine Sx.s ?_ ?_<;>try(intro h;have h':=h;try simp only[HB]at h';try rewrite [h];try simp only[h])|refine Ab (b1) ?_|refine Aa ?_|fail)
    refine⟨of_eq_true (Jh ids),?_⟩
    (repeat' first|simp(disch:=omega)only[go_sem,simprocAttr,k7,Nat.sub_zero,Ak,beq_self_eq_true]|refine Ab (b1) ?_|refine Am ?_|fail)
    exact⟨fun r hr=>by simp only[List.mem_singleton]at hr;subst hr;rfl,fun r hr=>by simp only[List.mem_singleton]at hr;subst hr;rfl,by omega,by omega,i+1,by omega,by omega,⟨rfl,rfl⟩,by rw[hT,List.map_append,kj];rfl⟩
  ·have hp:By ids (l.getD i default)=l.getD i default:=by rw[By,if_neg];exact fun h=>hk h.1
   rw[hp]at hT
   (repeat' first|simp(disch:=omega)only[go_sem,simprocAttr,Ck ja,Ax,eq_false hk,qe.1,qe.2,k7,Nat.sub_zero]|refine Aa ?_|(refine And.intro ?_ ?_;focus omega))
   exact⟨i+1,by omega,by omega,⟨rfl,rfl⟩,by rw[hT,List.map_append,List.map_cons,List.map_nil,Ax (l.getD i default),kj]⟩
 ·have e:i=l.length:=by omega
  subst e;rw[List.take_length]at k7⊢
  (repeat' first|simp(disch:=omega)only[go_sem,simprocAttr,Ie ja,k7]|refine Aa ?_|refine Sz.s ?_|fail)
  rw[List.take_of_length_le (by simp)]
theorem nC(l:List Ent)(hl:l.length<=30000):MC Tryz.prog (Nt mx) 16 [.i (.sl (l.map Ad))] [] [] (fun r s=>r=.ref (.sl 6000 40 0 l.length)/\s=[(6000,.rows 54 40 ((l.map (By (Jp l l.length).ids)).map Ad))]):=by
 have e0:=Nm (mx:=mx) l (by omega);generalize (Jp l l.length).ids=ids at e0;refine MX xt ?_
 (repeat' first|simp(disch:=omega)only[go_sem,simprocAttr]|refine Sx.s ?_ ?_<;>try(intro h;have h':=h;try simp only[HB]at h';try rewrite [h];try simp only[h])|refine Ab (e0) ?_|fail)
 refine AA [3,8,9] (by simp only[V0,G4,reduceIte,Nat.reduceEqDiff];rfl) (fun i:Nat=>[(2,.ref (.sl 2 40 0 i)),(10,.i (iI i))]) (fun i=>[(2,.rows 54 40 (((l.take i).map (By ids)).map Ad))])
  (fun i=>i<=l.length) (fun i=>l.length-i) 0 (by simp) (by simp[V0,Fz,GF,Ref.nm]) ?_
 intro i hi;have k7:((l.take i).map (By ids)).length=i:=by simp;omega
 by_cases ja:i<l.length
 ·have b1:=O6 (mx:=mx) (l.getD i default).fact;have hT:(l.take (i+1)).map (By ids)=(l.take i).map (By ids)++[By ids (l.getD i default)]:=by grind[CR]
  have qe:=D9 Dj Fu (l.getD i default);have hr2:=D9 Dj Fu (DR (l.getD i default));rw[Ax]at qe hr2;simp only[DR]at hr2;have kx:=Kv ids (AW (l.getD i default).fact);generalize (l.take i).map (By ids)=acc at k7 hT;have kj:List.take i (acc.map Ad)=acc.map Ad:=List.take_of_length_le (by simp[k7]);by_cases hk:(l.getD i default).kind=1
  ·cases jr:rm ids (AW (l.getD i default).fact)
   ·have hp:By ids (l.getD i default)=l.getD i default:=by rw[By,if_neg];rw[jr];simp
    rw[hp]at hT;rw[jr]at kx
    (repeat' first|simp(disch:=omega)only[go_sem,simprocAttr,Ck ja,Ax,eq_true hk,qe.1,qe.2,k7,Nat.sub_zero,kx,Ak,Au,Ay,A6,beq_self_eq_true]|refine Sx.s ?_ ?_<;>try(intro h;have h':=h;try simp only[HB]at h';try rewrite [h];try simp only[h])|refine Ab (b1) ?_|refine Aa ?_|fail)
    exact⟨of_eq_true (Jh ids),by omega,by omega,i+1,by omega,by omega,⟨rfl,rfl⟩,by rw[hT,List.map_append,List.map_cons,List.map_nil,Ax (l.getD i default),kj]⟩
   ·have hp:By ids (l.getD i default)=DR (l.getD i default):=by rw[By,if_pos ⟨hk,jr⟩]
    rw[hp]at hT;rw[jr]at kx
    (repeat' first|simp(disch:=omega)only[go_sem,simprocAttr,Ck ja,Ax,eq_true hk,kx,Ak,Au,Ay,A6,beq_self_eq_true]|refine Sx.s ?_ ?_<;>try(intro h;have h':=h;try simp only[HB]at h';try rewrite [h];try simp only[h])|refine Ab (b1) ?_|refine Aa ?_|fail)
    refine⟨of_eq_true (Jh ids),?_⟩
    (repeat' first|simp(disch:=omega)only[go_sem,simprocAttr,k7,Nat.sub_zero,Ak,beq_self_eq_true]|refine Ab (b1) ?_|refine Am ?_|fail)
    exact⟨fun r hr=>by simp only[List.mem_singleton]at hr;subst hr;rfl,fun r hr=>by simp only[List.mem_singleton]at hr;subst hr;rfl,by omega,by omega,i+1,by omega,by omega,⟨rfl,rfl⟩,by rw[hT,List.map_append,kj];rfl⟩
  ·have hp:By ids (l.getD i default)=l.getD i default:=by rw[By,if_neg];exact fun h=>hk h.1
   rw[hp]at hT
   (repeat' first|simp(disch:=omega)only[go_sem,simprocAttr,Ck ja,Ax,eq_false hk,qe.1,qe.2,k7,Nat.sub_zero]|refine Aa ?_|(refine And.intro ?_ ?_;focus omega))
   exact⟨i+1,by omega,by omega,⟨rfl,rfl⟩,by rw[hT,List.map_append,List.map_cons,List.map_nil,Ax (l.getD i default),kj]⟩
 ·have e:i=l.length:=by omega
  subst e;rw[List.take_length]at k7⊢
  (repeat' first|simp(disch:=omega)only[go_sem,simprocAttr,Ie ja]|refine Aa ?_|fail)
  refine Fg [(2,6000)] ?_;simp[YR]
end
section
theorem XU(r:Ref):Nv id r=r:=by cases r<;>rfl
theorem nD(c:Cp):ri id c=c:=by cases c<;>simp[ri,XU]
theorem nE(l:List Cp):l.map (ri id)=l:=by
 conv=>rhs;rw[<-List.map_id l]
 exact List.map_congr_left fun c _=>nD c
theorem R3(d:D):If id d=d:=by cases d<;>simp[If,XU,nE]
theorem nF(l:List D):l.map (If id)=l:=by
 conv=>rhs;rw[<-List.map_id l]
 exact List.map_congr_left fun c _=>R3 c
theorem nG(b:Blk):KC id b=b:=by cases b<;>simp[KC,nF,R3]
theorem XV:∀s:List (Nat×Blk),Ig id s=s
 |[]=>rfl
 |(m,b)::r=>by simp only[Ig,nG,XV r];rfl
theorem XW:∀(ks:List (Nat×Nat)),(∀p∈ks,p.1=p.2)->kf ks=id
 |[],_=>rfl
 |(a,b)::r,h=>by
  funext m;have e:a=b:=h (a,b) List.mem_cons_self;have ih:=XW r fun p hp=>h p (List.mem_cons_of_mem _ hp)
  simp_all[kf]
theorem XX{ns:List Nat}:∀{l:List (Nat×Blk)},(∀p∈l,p.1∉ns)->BM ns l=[]
 |[],_=>rfl
 |(m,b)::r,h=>by
  have h0:ns.contains m=false:=by simp_all
  simp only[BM,h0,Bool.false_eq_true,if_false];exact XX fun p hp=>h p (List.mem_cons_of_mem _ hp)
theorem XY{ns:List Nat}:∀{l:List (Nat×Blk)},(∀p∈l,p.1∈ns)->BM ns l=l
 |[],_=>rfl
 |(m,b)::r,h=>by have h0:ns.contains m=true:=List.contains_iff_mem.2 (h (m,b) List.mem_cons_self);simp only[BM,h0,if_true];rw[XY fun p hp=>h p (List.mem_cons_of_mem _ hp)]
theorem XZ{ns:List Nat}:∀(a b:List (Nat×Blk)),BM ns (a++b)=BM ns a++BM ns b
 |[],b=>rfl
 |(m,x)::r,b=>by simp only[List.cons_append,BM,XZ r b];split<;>rfl
theorem R4{mv:List Nat}{l:List (Nat×Blk)}(h:Pu mv l=true):∀p∈l,5000<=p.1/\p.1<6000:=fun p hp=>GH h p.1 (BX.1 (List.mem_map.2 ⟨p,hp,rfl⟩))
theorem R5{mv:List Nat}{l:List (Nat×Blk)}(h:Pu mv l=true):Dq (l.map (·.1))=true:=by grind[Pu]
theorem Nn{mv:List Nat}{l:List (Nat×Blk)}(h:Pu mv l=true){q:Nat}(hq:q<5000):Ac l q=none:=by
 cases hg:Ac l q with
 |none=>rfl
 |some b=>have:=GH h q (by simp[names,hg]);omega
theorem X1{nm:Nat}{b:Blk}:∀{l:List (Nat×Blk)},(∀p∈l,nm∉p.2.nms)->Pt nm b l=l
 |[],_=>rfl
 |(m,x)::r,h=>by simp only[Pt];rw[Qg (h (m,x) List.mem_cons_self),X1 fun p hp=>h p (List.mem_cons_of_mem _ hp)]
theorem Pa{mv:List Nat}{l:List (Nat×Blk)}(h:Pu mv l=true){q:Nat}(hq:q<5000)(b:Blk):Pt q b l=l:=
 X1 fun p hp hn=>by have:=GH h q (QI (Ep h) p hp q hn);omega
theorem X2{q:Nat}:∀{l:List (Nat×Blk)},(∀p∈l,p.1≠q)->BC l q=l
 |[],_=>rfl
 |(m,x)::r,h=>by have h0:¬m=q:=h (m,x) List.mem_cons_self;simp only[BC,if_neg h0];rw[X2 fun p hp=>h p (List.mem_cons_of_mem _ hp)]
theorem Pb{mv:List Nat}{l:List (Nat×Blk)}(h:Pu mv l=true){q:Nat}(hq:q<5000):BC l q=l:=X2 fun p hp=>by grind[R4]
theorem X3{q:Nat}{b:Blk}:∀{l:List (Nat×Blk)},(∀p∈l,p.1≠q)->BD l q b=l
 |[],_=>rfl
 |(m,x)::r,h=>by have h0:¬m=q:=h (m,x) List.mem_cons_self;simp only[BD,if_neg h0];rw[X3 fun p hp=>h p (List.mem_cons_of_mem _ hp)]
theorem Kw{mv:List Nat}{l:List (Nat×Blk)}(h:Pu mv l=true):Bl l l:=My (mv:=mv) (R5 h) l fun _ _ h=>h
theorem No{own mN:List (Nat×Blk)}{given mv:List Nat}{E:Env}{R:D->List (Nat×Blk)->Prop}(h:Pu mv mN=true)(ho:(own.map (·.1)).all (fun q=>Nat.blt q 5000)=true)(hR:R (.i (.tup [])) mN):DJ [] given mv R ⟨E,own++mN⟩:=by
 refine⟨[],mN.map (fun p=>(p.1,p.1)),?_⟩;have e1:(mN.map fun p=>(p.1,p.1)).map (·.1)=mN.map (·.1):=by rw[List.map_map];rfl
 have e2:(mN.map fun p=>(p.1,p.1)).map (·.2)=mN.map (·.1):=by rw[List.map_map];rfl
 have e3:BM (mN.map (·.1)) (own++mN)=mN:=by
  rw[XZ,XX,XY,List.nil_append]
  ·exact fun p hp=>List.mem_map.2 ⟨p,hp,rfl⟩
  ·intro p hp hm;rw[List.all_eq_true]at ho;have h1:=ho p.1 (List.mem_map.2 ⟨p,hp,rfl⟩);rw[Nat.blt_eq]at h1;obtain⟨q,hq,e⟩:=List.mem_map.1 hm;have:=R4 h q hq;omega
 have e4:kf (mN.map fun p=>(p.1,p.1))=id:=XW _ fun p hp=>by obtain⟨q,_,rfl⟩:=List.mem_map.1 hp;rfl
 have e5:GE (frzNs [] ⟨E,own++mN⟩) []=some (.i (.tup [])):=rfl;rw[e5];simp only[e1,show(frzNs [] ⟨E,own++mN⟩).sto=own++mN from rfl,e3,e4,R3,XV];refine⟨?_,⟨rfl,Ep h⟩,hR⟩;unfold Mo;rw[e1,e2,R5 h,Bool.true_and,Bool.true_and,List.all_eq_true];intro p hp;obtain⟨q,_,rfl⟩:=List.mem_map.1 hp;simp
theorem Pc{mv:List Nat}{l:List (Nat×Blk)}(h:Pu mv l=true):((l.map (·.1)).all fun m=>(Nat.ble 5000 m&&Nat.blt m 5500)||mv.contains m)=true:=by grind[Pu]
end
section
theorem X4(l:List Ent)(tick:Int):Is mx 59 [.sl (l.map Ad),iI tick] (.fn 94 [] [.elt [.sl (l.map Ad)] 0,.elt [iI tick] 0]):=by
 refine MX yK ?_
 (repeat' first|simp(disch:=omega)only[go_sem,simprocAttr]|refine Sz.s ?_|fail)
 all_goals(try rfl)
theorem nH{l:List Ent}{tick:Int}{i:Nat}(hi:i<l.length):AQ (l.take (i+1)) tick=if(l.getD i default).tick<=tick then AQ (l.take i) tick++[l.getD i default]else AQ (l.take i) tick:=by grind[M6,AQ]
theorem R6(l:List Ent)(tick:Int)(i:Nat):AQ (l.take i) tick<+:AQ l tick:=by grind[AQ]
theorem X5(l:List Ent)(tick:Int)(hl:l.length<=1073741824):Em Tryz.prog (Nt mx) 94 [.elt [.sl (l.map Ad)] 0,.elt [iI tick] 0] ((AQ l tick).map fun e=>[.agg (Ad e)]):=by
 intro y m mv N go hV hm hN hgo qa hy;rw[List.length_map]at hN qa;have hk:∀k,Pu mv (m k)=true:=fun k=>(hm k).1
 have g1:∀k q,q<5000->Ac (m k) q=none:=fun k q hq=>Nn (hk k) hq
 have g2:∀k q b,q<5000->Pt q b (m k)=m k:=fun k q b hq=>Pa (hk k) hq b
 have g3:∀k q,q<5000->BC (m k) q=m k:=fun k q hq=>Pb (hk k) hq
 have g4:∀k,Bl (m k) (m k)=True:=fun k=>eq_true (Kw (hk k))
 have g5:∀k,Ps (m k) (m k)=true:=fun k=>Ep (hk k)
 have fin:∀(E:Env),DJ [] ((m 0).map (·.1)) mv (fun r s=>r=.i (.tup [])/\s=m N) ⟨E,m N⟩:=fun E=>No (own:=[]) (hk N) rfl ⟨rfl,rfl⟩
 refine MX zg ?_ (hpin:=Pc (hk 0))
 (repeat' first|simp(disch:=omega)only[go_sem,simprocAttr,List.map_cons,List.map_nil]|fail)
 refine AA [0,2,6,7] (by simp only[V0,G4,reduceIte,Nat.reduceEqDiff];rfl) (fun i:Nat=>[(8,.i (iI i))]) (fun i=>m (AQ (l.take i) tick).length)
  (fun i=>i<=l.length/\(AQ (l.take i) tick).length<=N/\((AQ (l.take i) tick).length=N->N=(AQ l tick).length)) (fun i=>l.length-i) 0 ⟨by omega,by simp[AQ],fun h=>by
   by_cases jl:N<(AQ l tick).length
   ·have:=(qa jl).1;simp[AQ]at h;omega
   ·omega⟩ (by simp[V0,Fz,GF,AQ,g4,g5]) ?_
 rintro i ⟨hi,zO,qx⟩;have wd:=(R6 l tick i).length_le;by_cases ja:i<l.length
 ·have hut:=nH (tick:=tick) ja;have hpl2:=(R6 l tick (i+1)).length_le;by_cases ht:(l.getD i default).tick<=tick
  ·rw[if_pos ht]at hut;rw[hut]at hpl2;have hx:((AQ l tick).map fun e=>[I.agg (Ad e)]).getD (AQ (l.take i) tick).length []=[.agg (Ad (l.getD i default))]:=by have hp:=R6 l tick (i+1);rw[hut]at hp;obtain⟨r,hr⟩:=hp;grind
   have hcN:(AQ (l.take i) tick).length<N:=by grind
   have y1:=hy _ hcN;rw[hx]at y1;have je:(AQ (l.take (i+1)) tick).length=(AQ (l.take i) tick).length+1:=by grind
   generalize (AQ (l.take i) tick).length=k at y1 hcN je wd zO qx;rw[Ax]at y1
   (repeat' first|simp(disch:=omega)only[go_sem,simprocAttr,Ck ja,Ax,eq_true ht,g1,g2,g3]|refine Aa ?_|fail)
   refine QJ (own:=[]) (mj:=m k) (mk:=m (k+1)) y1 (fun s e=>by cases e;decide) (by simp only[Dr,EE,go_sem,reduceCtorEq,Nat.reduceEqDiff,List.map_cons,List.map_nil,List.append_nil,List.nil_append]) (hk _) (hk _) ((hm _).2.trans (hm _).2.symm) hV rfl [0,2,6,7,8,16] (by simp only[V0,G4,reduceIte,Nat.reduceEqDiff];rfl) (by simp only[go_sem,List.all_cons,List.all_nil]) ?_;cases hgk:go k
   ·(repeat' first|simp(disch:=omega)only[go_sem,simprocAttr,List.nil_append]|fail)
    have hkN:k+1=N:=by grind
    rw[hkN];exact fin _
   ·(repeat' first|simp(disch:=omega)only[go_sem,simprocAttr,List.nil_append]|fail)
    refine⟨i+1,⟨by omega,by rw[je];omega,fun h=>?_⟩,by omega,rfl,by rw[je];exact Kw (hk _),g5 _⟩;rcases Nat.lt_or_ge N (AQ l tick).length with q|q
    ·have h2:=(qa q).2;have h3:N-1=k:=by omega
     rw[h3,hgk]at h2;cases h2
    ·omega
  ·rw[if_neg ht]at hut
   (repeat' first|simp(disch:=omega)only[go_sem,simprocAttr,Ck ja,Ax,eq_false ht,g1,g2,g3]|refine Aa ?_|fail)
   exact⟨i+1,by rw[hut];exact⟨by omega,zO,qx⟩,by omega,rfl,by rw[hut];exact Kw (hk _),g5 _⟩
 ·have e:i=l.length:=by omega
  subst e;rw[List.take_length]at zO qx⊢;have:(AQ l tick).length=N:=by omega
  (repeat' first|simp(disch:=omega)only[go_sem,simprocAttr,Ie ja]|refine Aa ?_|fail)
  rw[this];exact fin _
end
section
abbrev Cz:=Bool×Ent
def Bd(b:Cz):List I:=.bool b.1::Ad b.2
def G2(m:List (Fid×Cz)):List (I×I):=m.map fun p=>(.agg (Ak p.1),.agg (Bd p.2))
abbrev vZ:Cz:=(false,Kt)
def Ji(b:Cz)(x:Ent):Cz:=(b.1||decide (x.fact.kind=1),if b.2.fact.id.seq<x.fact.id.seq then x else b.2)
def nI(m:List (Fid×Cz))(x:Ent):List (Fid×Cz):=if x.kind≠1 then m else BG m (AW x.fact) (Ji ((AR m (AW x.fact)).getD vZ) x)
def Dn(l:List Ent)(tick:Int):List (Fid×Cz):=(AQ l tick).foldl nI []
theorem nJ(m:List (Fid×Cz))(id:Fid):CB (G2 m) (.agg [.str id.source,.int .i64 id.seq]) (.agg (Bd vZ)) false=.agg (Bd ((AR m id).getD vZ)):=QF (eK:=fun id:Fid=>I.agg (Ak id)) (f:=fun b:Cz=>I.agg (Bd b)) Ov m id vZ
theorem nK(m:List (Fid×Cz))(id:Fid)(b:Cz):Dp (G2 m) (.agg [.str id.source,.int .i64 id.seq]) (.agg (Bd b))=G2 (BG m id b):=QE (eK:=fun id:Fid=>I.agg (Ak id)) (f:=fun b:Cz=>I.agg (Bd b)) Ov m id b
theorem nL(l:List Ent)(tick:Int){j:Nat}(hj:j<(AQ l tick).length):((AQ l tick).take (j+1)).foldl nI []=nI (((AQ l tick).take j).foldl nI []) ((AQ l tick).getD j default):=by grind[CR]
theorem X6(l:List Ent)(tick:Int)(hl:l.length<=1000000):Is mx 52 [.sl (l.map Ad),iI tick] (.map (G2 (Dn l tick))):=by
 have u1:=X4 (mx:=mx) l tick;have hs:=X5 (mx:=mx) l tick (by omega);have jk:=@nL l tick;have hP:Dn l tick=((AQ l tick).take (AQ l tick).length).foldl nI []:=by rw[List.take_length];rfl
 rw[hP];generalize AQ l tick=xs at hs jk;refine MX yF ?_
 (repeat' first|simp(disch:=omega)only[go_sem,simprocAttr]|refine Sx.s ?_ ?_<;>try(intro h;have h':=h;try simp only[HB]at h';try rewrite [h];try simp only[h])|refine Ab (u1) ?_|fail)
 have hx:∀j,j<xs.length->(xs.map fun e=>[I.agg (Ad e)]).getD j []=[.agg (Ad (xs.getD j default))]:=fun j hj=>by grind
 refine K0 (gf:=94) rfl (by kernel_rfl) hs [(5,5005),(9,5009)] [.any,.any,.any,.any,.any,.ref (.loc 5005 0),.any,.any,.any,.any,.any,.any,.any,.any,.any,.any,.any,.any,.any,.any,.any,.any,.any,.any,.any,.any,.any,.any,.any,.any,.any,.any,.any,.any,.any,.any,.any,.any,.any,.any,.any,.any,.any,.any,.any,.any,.any,.any] (fun j=>[(5005,.cells [.ref (.mp 5009)]),(5009,.map [.g,.s,.i .i64] (G2 ((xs.take j).foldl nI [])))]) [] xs.length .none
  ⟨by simp,fun _=>by simp,fun h=>absurd rfl h⟩ rfl (fun j hj=>⟨rfl,rfl,rfl,rfl⟩) rfl (by simp[GA,Af,B2,If,Nv,Ih,sw]) rfl (by simp[Ig,KC,If,Nv,Ih,sw,Bl,Ac,G2]) (fun j hj=>⟨by rw[hx j hj];rfl,?_⟩) ?_
 ·rw[hx j hj,Ax,ite_self,jk hj];generalize (xs.take j).foldl nI []=m;have b1:=O6 (mx:=mx) (xs.getD j default).fact;have kx:CB (G2 m) (.agg [.str (AW (xs.getD j default).fact).source,.int .i64 (AW (xs.getD j default).fact).seq]) (.agg [.bool false,.int .i64 0,.int .i64 0,.int .i64 0,.str [],.int .i64 0,.int .i64 0,.int .i64 0,.str [],.str [],.int .i64 0,.sl [],.int .i64 0,.str [],.str [],.str [],.int .i64 0,.int .i64 0,.str [],.str [],.sl [],.int .i64 0,.str [],.str [],.int .i64 0,.sl [],.str [],.int .i64 0,.str [],.str [],.str [],.int .i64 0,.int .i64 0,.str [],.sl [],.int .i64 0,.int .i64 0,.int .i64 0,.sl [],.int .i64 0,.str []]) false=.agg (Bd ((AR m (AW (xs.getD j default).fact)).getD vZ)):=nJ m (AW (xs.getD j default).fact);simp only[D0,C3,Nat.reduceAdd];by_cases hk:(xs.getD j default).kind=1
  ·rw[nI,if_neg (fun q=>q hk)];generalize (AR m (AW (xs.getD j default).fact)).getD vZ=b at kx;obtain⟨ba,be⟩:=b;simp only[Bd,Ax]at kx;have jp:Dp (G2 m) (.agg [.str (AW (xs.getD j default).fact).source,.int .i64 (AW (xs.getD j default).fact).seq]) (.agg (Bd (Ji (ba,be) (xs.getD j default))))=_:=nK m (AW (xs.getD j default).fact) (Ji (ba,be) (xs.getD j default));by_cases hsq:be.fact.id.seq<(xs.getD j default).fact.id.seq
   ·have hnx:Ji (ba,be) (xs.getD j default)=(ba||decide ((xs.getD j default).fact.kind=1),xs.getD j default):=by simp only[Ji,if_pos hsq]
    rw[hnx]at jp⊢;simp only[Bd,Ax]at jp;cases ha:(ba||decide ((xs.getD j default).fact.kind=1))
    ·rw[ha]at jp
     (repeat' first|exact Al _|simp(disch:=omega)only[go_sem,simprocAttr,eq_true hk,Ak,Au,Ay,A6,beq_self_eq_true,kx,jp,ha,Dw,aT,ne_eq,not_true_eq_false,decide_true,decide_false,eq_true hsq]|refine' Ao (fun hq=>?_) (fun f=>?_)<;>try(have jc:=hq;try simp only[HB]at jc)|refine Sx.s ?_ ?_<;>try(intro h;have h':=h;try simp only[HB]at h';try rewrite [h];try simp only[h])|refine Ab (b1) ?_|refine Aa ?_|fail)
     all_goals(refine⟨rfl,[],?_⟩;simp(disch:=omega)only[go_sem,Nat.reduceEqDiff];try exact⟨rfl,rfl⟩)
    ·rw[ha]at jp
     (repeat' first|exact Al _|simp(disch:=omega)only[go_sem,simprocAttr,eq_true hk,Ak,Au,Ay,A6,beq_self_eq_true,kx,jp,ha,Dw,aT,ne_eq,not_true_eq_false,decide_true,decide_false,eq_true hsq]|refine' Ao (fun hq=>?_) (fun f=>?_)<;>try(have jc:=hq;try simp only[HB]at jc)|refine Sx.s ?_ ?_<;>try(intro h;have h':=h;try simp only[HB]at h';try rewrite [h];try simp only[h])|refine Ab (b1) ?_|refine Aa ?_|fail)
     all_goals(refine⟨rfl,[],?_⟩;simp(disch:=omega)only[go_sem,Nat.reduceEqDiff];try exact⟨rfl,rfl⟩)
   ·have hnx:Ji (ba,be) (xs.getD j default)=(ba||decide ((xs.getD j default).fact.kind=1),be):=by simp only[Ji,if_neg hsq]
    rw[hnx]at jp⊢;simp only[Bd,Ax]at jp;cases ha:(ba||decide ((xs.getD j default).fact.kind=1))
    ·rw[ha]at jp
     (repeat' first|exact Al _|simp(disch:=omega)only[go_sem,simprocAttr,eq_true hk,Ak,Au,Ay,A6,beq_self_eq_true,kx,jp,ha,Dw,aT,ne_eq,not_true_eq_false,decide_false,eq_false hsq]|refine' Ao (fun hq=>?_) (fun f=>?_)<;>try(have jc:=hq;try simp only[HB]at jc)|refine Sx.s ?_ ?_<;>try(intro h;have h':=h;try simp only[HB]at h';try rewrite [h];try simp only[h])|refine Ab (b1) ?_|refine Aa ?_|fail)
     all_goals(refine⟨rfl,[],?_⟩;simp(disch:=omega)only[go_sem,Nat.reduceEqDiff];try exact⟨rfl,rfl⟩)
    ·rw[ha]at jp
     (repeat' first|exact Al _|simp(disch:=omega)only[go_sem,simprocAttr,eq_true hk,Ak,Au,Ay,A6,beq_self_eq_true,kx,jp,ha,Dw,aT,ne_eq,not_true_eq_false,decide_false,eq_false hsq]|refine' Ao (fun hq=>?_) (fun f=>?_)<;>try(have jc:=hq;try simp only[HB]at jc)|refine Sx.s ?_ ?_<;>try(intro h;have h':=h;try simp only[HB]at h';try rewrite [h];try simp only[h])|refine Ab (b1) ?_|refine Aa ?_|fail)
     all_goals(refine⟨rfl,[],?_⟩;simp(disch:=omega)only[go_sem,Nat.reduceEqDiff];try exact⟨rfl,rfl⟩)
  ·rw[nI,if_pos hk]
   (repeat' first|simp(disch:=omega)only[go_sem,simprocAttr,eq_false hk,Dw,aT,ne_eq,not_false_eq_true,decide_true]|refine Aa ?_|fail)
   refine⟨rfl,[],?_⟩;simp(disch:=omega)only[go_sem,Nat.reduceEqDiff]
 ·refine⟨by simp[Ig,KC,If,Nv,Ih,sw,AY,ren,Ac],by simp[Ig,KC,If,Nv,Ih,sw,ren,Ac],rfl,?_⟩;show C5 0 _ .normal _
  (repeat' first|simp(disch:=omega)only[go_sem,simprocAttr,Ig,KC,If,Nv,Ih,sw,AY,ren]|refine Sz.s ?_|fail)
end
section
theorem nM(p:Ent->Bool)(l:List Ent)(f:Nat)(cs:List I)(hl:l.length<=1073741824)(hp:∀x∈l,Is mx f ([.agg (Ad x)]++cs) (.bool (p x))):
  MC Tryz.prog (Nt mx) 95 [.ref (.sl 5000 40 0 l.length),.i (.fn f [] cs)] [(5000,.rows 54 40 (l.map Ad))] []
   (fun r s=>r=.i (iI (CG p l))/\s=[(5000,.rows 54 40 (l.map Ad))]):=by
 refine MX zh ?_
 (repeat' first|simp(disch:=omega)only[go_sem,simprocAttr,Nat.sub_zero]|fail)
 refine CP [0,1,7] (by simp only[V0,G4,reduceIte,Nat.reduceEqDiff];rfl) (fun i=>[(8,.i (iI i))]) (fun _=>[(5000,.rows 54 40 (l.map Ad))]) (fun i=>∀j (h:j<l.length),j<i->p l[j]=false) l.length 0 (by omega) (by simp) (by simp[V0,Fz,GF,Ref.nm]) ?_;intro i hi jb;by_cases ja:i<l.length
 ·have h1:=hp (l.getD i default) (AE ja);cases hv:p (l.getD i default)
  ·rw[hv]at h1
   (repeat' first|simp(disch:=omega)only[go_sem,simprocAttr,Ck ja,Nat.sub_zero,Nat.zero_add]|refine Ab (h1) ?_|refine Aa ?_|refine D2 ?_ ?_|(refine And.intro ?_ ?_;focus omega))
   intro j hj hji;by_cases e:j=i
   ·subst e;rw[<-A7 hj];exact hv
   ·exact jb j hj (by omega)
  ·rw[hv]at h1
   (repeat' first|simp(disch:=omega)only[go_sem,simprocAttr,Ck ja,Nat.sub_zero,Nat.zero_add]|refine Ab (h1) ?_|refine Aa ?_|refine D2 ?_ ?_|(refine And.intro ?_ ?_;focus omega))
   refine Fg [(5000,5000)] ?_;rw[MB ja (by rw[<-A7 ja];exact hv) jb];simp[YR]
 ·(repeat' first|simp(disch:=omega)only[go_sem,simprocAttr,Ie ja]|refine Aa ?_|fail)
  refine Fg [(5000,5000)] ?_;rw[MD fun j hj=>jb j hj (by omega)];simp[YR]
theorem X7{α:Type}[Inhabited α](p:α->Bool)(l:List α):(CG p l=-1/\l.filter (fun x=>!p x)=l)\/∃k:Nat,CG p l=(k:Int)/\k<l.length/\p (l.getD k default)=true/\(l.take k).filter (fun x=>!p x)=l.take k:=by
 unfold CG;cases h:l.findIdx? p with
 |none=>simp_all
 |some k=>rw[List.findIdx?_eq_some_iff_getElem]at h;obtain⟨hk,h1,h2⟩:=h;refine .inr ⟨k,rfl,hk,by rw[A7 hk];exact h1,List.filter_eq_self.2 fun x hx=>?_⟩;obtain⟨j,hj,rfl⟩:=List.mem_iff_getElem.1 hx;grind
theorem X8{α:Type}{a b:List α}(h:a.length<=b.length):setL a 0 b=b:=by simp_all[setL]
structure DelI{α:Type}[Inhabited α](E:α->List I)(p:α->Bool)(l:List α)(i j:Nat)(R:List (List I)):Prop where
 hj:j<=l.length
 len:R.length=l.length
 cnt:i=((l.take j).filter fun x=>!p x).length
 lt:i<j
 tk:R.take i=((l.take j).filter fun x=>!p x).map E
 dr:R.drop j=(l.drop j).map E
 rw_:∀q,q<R.length->(R.getD q []).length=(E default).length
theorem DelI.getj{α:Type}[Inhabited α]{E:α->List I}{p:α->Bool}{l:List α}{i j:Nat}{R:List (List I)}(h:DelI E p l i j R)(hj:j<l.length):R.getD j []=E (l.getD j default):=by
 have h1:(R.drop j)[0]? =((l.drop j).map E)[0]? :=by rw[h.dr]
 grind
theorem Pd{α:Type}[Inhabited α](p:α->Bool){l:List α}{j:Nat}(hj:j<l.length):(l.take (j+1)).filter (fun x=>!p x)=if p (l.getD j default)=true then(l.take j).filter (fun x=>!p x)else(l.take j).filter (fun x=>!p x)++[l.getD j default]:=by grind[M6]
theorem DelI.skip{α:Type}[Inhabited α]{E:α->List I}{p:α->Bool}{l:List α}{i j:Nat}{R:List (List I)}(h:DelI E p l i j R)(hj:j<l.length)(hp:p (l.getD j default)=true):DelI E p l i (j+1) R:=by have e:=Pd p hj;rw[if_pos hp]at e;exact⟨hj,h.len,by rw[e];exact h.cnt,by have:=h.lt;omega,by rw[e];exact h.tk,by rw[<-List.drop_drop,h.dr,<-List.map_drop,List.drop_drop],h.rw_⟩
theorem DelI.keep{α:Type}[Inhabited α]{E:α->List I}{p:α->Bool}{l:List α}{i j:Nat}{R:List (List I)}(hE:∀x,(E x).length=(E default).length)(h:DelI E p l i j R)(hj:j<l.length)(hp:p (l.getD j default)=false):DelI E p l (i+1) (j+1) (R.set i (E (l.getD j default))):=by
 have e:=Pd p hj;rw[if_neg (by rw[hp];simp)]at e;have hi:=h.lt;have hl:=h.len;refine⟨hj,by simp[h.len],by rw[e,List.length_append,<-h.cnt];rfl,by omega,?_,?_,fun q hq=>?_⟩
 ·rw[e,List.map_append,<-h.tk,List.take_succ_eq_append_getElem (by simp;omega)];rw[List.take_set_of_le (Nat.le_refl _)];simp
 ·rw[List.drop_set_of_lt (by omega),<-List.drop_drop,h.dr,<-List.map_drop,List.drop_drop]
 ·simp only[List.length_set]at hq;rw[List.getD_eq_getElem?_getD,List.getElem?_set];by_cases e2:i=q
  ·subst e2;rw[if_pos rfl,if_pos hq];exact hE _
  ·rw[if_neg e2,<-List.getD_eq_getElem?_getD];exact h.rw_ q hq
theorem nN(p:Ent->Bool)(l:List Ent)(f:Nat)(cs:List I)(hl:l.length<=1000000)(hp:∀x∈l,Is mx f ([.agg (Ad x)]++cs) (.bool (p x))):
  MC Tryz.prog (Nt mx) 60 [.ref (.sl 5000 40 0 l.length),.i (.fn f [] cs)] [(5000,.rows 54 40 (l.map Ad))] []
   (fun r s=>r=.ref (.sl 5000 40 0 (l.filter fun x=>!p x).length)/\s=[(5000,.rows 54 40 ((l.filter fun x=>!p x).map Ad++List.replicate (l.length-(l.filter fun x=>!p x).length) (Ad Kt)))]):=by
 have m1:=nM (mx:=mx) p l f cs (by omega) hp;refine MX yL ?_;rcases X7 p l with⟨h1,h2⟩|⟨k,h1,h2,h3,h4⟩
 ·rw[h1]at m1;rw[h2]
  (repeat' first|simp(disch:=omega)only[go_sem,simprocAttr]|(first|refine Eq (m1) ?_ (fun r sto' hR=>?_)|refine D4 (m1) ?_ (fun r sto' hR=>?_);(focus(first|rfl|(simp only[go_sem,simprocAttr];done)));first|(obtain⟨rfl,rfl⟩:=hR)|(obtain⟨_,(rfl|rfl),rfl,rfl⟩:=hR))|refine Aa ?_|fail)
  refine Fg [(5000,5000)] ?_;simp[YR]
 ·rw[h1]at m1;have jh:(((k:Int)=-1))=False:=eq_false (by omega);have ef:=Pd p h2;rw[if_pos h3,h4]at ef;have hinit:DelI Ad p l k (k+1) (l.map Ad):=⟨h2,by simp,by rw[ef];simp;omega,by omega,by rw[ef,List.map_take],by rw[List.map_drop],fun q hq=>by rw[List.getD_eq_getElem?_getD,List.getElem?_eq_getElem hq];simp[Dj]⟩
  (repeat' first|simp(disch:=omega)only[go_sem,simprocAttr,jh]|(first|refine Eq (m1) ?_ (fun r sto' hR=>?_)|refine D4 (m1) ?_ (fun r sto' hR=>?_);(focus(first|rfl|(simp only[go_sem,simprocAttr,jh];done)));first|(obtain⟨rfl,rfl⟩:=hR)|(obtain⟨_,(rfl|rfl),rfl,rfl⟩:=hR))|refine Aa ?_|fail)
  refine AA [0,1] (by simp only[V0,G4,reduceIte,Nat.reduceEqDiff];rfl) (fun g:Nat×Nat×List (List I)=>[(5,.i (iI g.1)),(6,.i (iI g.2.1))]) (fun g=>[(5000,.rows 54 40 g.2.2)]) (fun g=>DelI Ad p l g.1 g.2.1 g.2.2) (fun g=>l.length-g.2.1) (k,k+1,l.map Ad) hinit (by simp[V0,Fz,GF,Ref.nm]) ?_;rintro⟨i,j,R⟩ hI;simp only at hI;have je:=hI.len;have jl:=hI.lt;have vw:=hI.hj;by_cases hj:j<l.length
  ·have hp1:=hp (l.getD j default) (AE hj);have hgj:=hI.getj hj;cases hv:p (l.getD j default)
   ·rw[hv]at hp1;have jx:setL (R.getD i []) 0 (Ad (l.getD j default))=Ad (l.getD j default):=X8 (by rw[hI.rw_ i (by omega),Dj,Dj];exact Nat.le_refl _);have w8:(R.getD i []).length=40:=by rw[hI.rw_ i (by omega),Dj]
    have hko:=hI.keep (fun x=>by rw[Dj,Dj]) hj hv;rw[Ax]at hgj jx hko hp1
    (repeat' first|simp(disch:=omega)only[go_sem,simprocAttr,Ck hj,Nat.sub_zero,Nat.zero_add,hgj,jx,je,w8]|refine Ab (hp1) ?_|refine Aa ?_|refine D2 ?_ ?_|(refine And.intro ?_ ?_;focus omega))
    exact⟨(i+1,j+1,_),hko,by simp only;omega,⟨rfl,rfl⟩,rfl⟩
   ·rw[hv]at hp1;rw[Ax]at hgj hp1
    (repeat' first|simp(disch:=omega)only[go_sem,simprocAttr,Ck hj,Nat.sub_zero,Nat.zero_add,hgj,je]|refine Ab (hp1) ?_|refine Aa ?_|refine D2 ?_ ?_|(refine And.intro ?_ ?_;focus omega))
    exact⟨(i,j+1,R),hI.skip hj hv,by simp only;omega,⟨rfl,rfl⟩,rfl⟩
  ·have e:j=l.length:=by omega
   subst e;have kq:setL R i (List.replicate (l.length-i) (Ad Kt))=(l.filter fun x=>!p x).map Ad++List.replicate (l.length-i) (Ad Kt):=by have h5:=hI.tk;rw[List.take_length]at h5;rw[setL,h5,List.length_replicate,List.drop_of_length_le (by omega),List.append_nil]
   have hcn:=hI.cnt;rw[List.take_length]at hcn
   (repeat' first|simp(disch:=omega)only[go_sem,simprocAttr,Ie hj,Nat.sub_zero,Nat.zero_add,je]|refine Aa ?_|(refine And.intro ?_ ?_;focus omega))
   generalize hq:setL R i (List.replicate (l.length-i) _)=q;have hz:q=(l.filter fun x=>!p x).map Ad++List.replicate (l.length-i) (Ad Kt):=hq.symm.trans kq;have hql:q.length=l.length:=by grind
   refine⟨by rw[hql];omega,?_⟩;refine F3 [(5000,5000)] (s':=[(5000,.rows 54 40 q)]) rfl rfl (by decide) rfl ⟨?_,?_⟩
   ·rw[<-hcn];rfl
   ·rw[hz,<-hcn];rfl
theorem nO(nm:Nat)(hn:nm<5000)(p:Ent->Bool)(l:List Ent)(f:Nat)(cs:List I)(hl:l.length<=1000000)(hp:∀x∈l,Is mx f ([.agg (Ad x)]++cs) (.bool (p x))):
  MC Tryz.prog (Nt mx) 60 [.ref (.sl nm 40 0 l.length),.i (.fn f [] cs)] [(nm,.rows 54 40 (l.map Ad))] []
   (fun r s=>r=.ref (.sl nm 40 0 (l.filter fun x=>!p x).length)/\s=[(nm,.rows 54 40 ((l.filter fun x=>!p x).map Ad++List.replicate (l.length-(l.filter fun x=>!p x).length) (Ad Kt)))]):=by
 have e1:LL [(5000,nm)] 5000=nm:=by rfl
 have h:=(MC.as [(5000,nm)] (nN (mx:=mx) p l f cs hl hp)).mono (R':=fun r s=>r=.ref (.sl nm 40 0 (l.filter fun x=>!p x).length)/\s=[(nm,.rows 54 40 ((l.filter fun x=>!p x).map Ad++List.replicate (l.length-(l.filter fun x=>!p x).length) (Ad Kt)))]) (by
  rintro r s ⟨h1,h2⟩;have k:=El (f:=Ih [(5000,nm)]) (g:=LL [(5000,nm)]) (Cq _) r;have k2:=FN (f:=Ih [(5000,nm)]) (g:=LL [(5000,nm)]) (Cq _) s;rw[h1]at k;rw[h2]at k2;refine⟨?_,?_⟩
  ·rw[<-k];simp only[If,Nv,e1]
  ·rw[<-k2];simp only[Ig,KC,e1])
 simp only[List.map_cons,List.map_nil,If,Nv,Ig,KC,e1]at h;exact h
theorem nP(x:Ent)(no:Int):Is mx 61 [.agg (Ad x),.elt [iI no] 0] (.bool (decide (no<x.no))):=by
 refine MX yM ?_
 (repeat' first|simp(disch:=omega)only[go_sem,simprocAttr,Ax]|refine Sz.s ?_|fail)
 all_goals(try rfl)
def Np(ids:List (Fid×Bool))(l:List Ent)(no:Int):List Ent:=(l.map (By ids)).filter fun x=>decide (x.no<=no)
theorem nQ(l:List Ent)(no:Int)(hl:l.length<=30000):Is mx 27 [.sl (l.map Ad),iI no] (.sl ((Np (Jp l l.length).ids l no).map Ad)):=by
 have m1:=nC (mx:=mx) l hl;have m2:=nO (mx:=mx) 6 (by decide) (fun x=>decide (no<x.no)) (l.map (By (Jp l l.length).ids)) 61 [.elt [iI no] 0] (by simp;omega) (fun x _=>nP x no);have ef:((l.map (By (Jp l l.length).ids)).filter fun x=>!decide (no<x.no))=Np (Jp l l.length).ids l no:=by grind[Np]
 rw[ef,List.length_map]at m2;refine MX yk ?_
 (repeat' first|simp(disch:=omega)only[go_sem,simprocAttr]|(first|refine Eq (m1) ?_ (fun r sto' hR=>?_)|refine D4 (m1) ?_ (fun r sto' hR=>?_);(focus(first|rfl|(simp only[go_sem,simprocAttr];done)));first|(obtain⟨rfl,rfl⟩:=hR)|(obtain⟨_,(rfl|rfl),rfl,rfl⟩:=hR))|(first|refine Eq (m2) ?_ (fun r sto' hR=>?_)|refine D4 (m2) ?_ (fun r sto' hR=>?_);(focus(first|rfl|(simp only[go_sem,simprocAttr];done)));first|(obtain⟨rfl,rfl⟩:=hR)|(obtain⟨_,(rfl|rfl),rfl,rfl⟩:=hR))|refine Sz.s ?_|fail)
 rw[if_pos (Nat.le_add_right _ _),List.take_left' (by simp)];exact⟨rfl,rfl⟩
end
section
def Gi(e:Ent)(id:Fid):Rw:=⟨id,e.fact.table,e.fact.key,e.fact.event,e.fact.fields,e.no,e.tick⟩
abbrev LB:Rw:=⟨Lv,[],[],0,[],0,0⟩
end
section
def X9(l:List Rw)(r:Rw):Nat->Nat
 |0=>0
 |k+1=>if 0<Fs (l.getD k default) r then X9 l r k else k+1
def putRow(l:List Rw)(r:Rw):List Rw:=BV l (X9 l r l.length) r
theorem Jj(x:Rw):(KB x).length=8:=rfl
theorem Ya(x:Rw):(KB x).all I.one=true:=rfl
end
section

end
section
def Nq(c:Cat)(tick:Int)(r:Rw):Bool:=decide (((A5 c.tables r.table).getD Bh).keep=0)||decide (tick<=IntKind.i64.wrap (r.event+((A5 c.tables r.table).getD Bh).keep))
def LC(c:Cat)(rows:List Rw)(tick:Int):List Rw:=rows.filter (Nq c tick)
end
section
theorem eRw_eq(x:Rw):KB x=[.str x.id.source,.int .i64 x.id.seq,.str x.table,.str x.key,.int .i64 x.event,.sl (x.fields.map A9),.int .i64 x.no,.int .i64 x.tick]:=rfl
theorem nR(p:Rw->Bool)(l:List Rw)(f:Nat)(cs:List I)(hl:l.length<=1073741824)(hp:∀x∈l,Is mx f ([.agg (KB x)]++cs) (.bool (p x))):
  MC Tryz.prog (Nt mx) 101 [.ref (.sl 5000 8 0 l.length),.i (.fn f [] cs)] [(5000,.rows 68 8 (l.map KB))] []
   (fun r s=>r=.i (iI (CG p l))/\s=[(5000,.rows 68 8 (l.map KB))]):=by
 refine MX cK ?_
 (repeat' first|simp(disch:=omega)only[go_sem,simprocAttr,Nat.sub_zero]|fail)
 refine CP [0,1,7] (by simp only[V0,G4,reduceIte,Nat.reduceEqDiff];rfl) (fun i=>[(8,.i (iI i))]) (fun _=>[(5000,.rows 68 8 (l.map KB))]) (fun i=>∀j (h:j<l.length),j<i->p l[j]=false) l.length 0 (by omega) (by simp) (by simp[V0,Fz,GF,Ref.nm]) ?_;intro i hi jb;by_cases ja:i<l.length
 ·have h1:=hp (l.getD i default) (AE ja);cases hv:p (l.getD i default)
  ·rw[hv]at h1
   (repeat' first|simp(disch:=omega)only[go_sem,simprocAttr,Ck ja,Nat.sub_zero,Nat.zero_add]|refine Ab (h1) ?_|refine Aa ?_|refine D2 ?_ ?_|(refine And.intro ?_ ?_;focus omega))
   intro j hj hji;by_cases e:j=i
   ·subst e;rw[<-A7 hj];exact hv
   ·exact jb j hj (by omega)
  ·rw[hv]at h1
   (repeat' first|simp(disch:=omega)only[go_sem,simprocAttr,Ck ja,Nat.sub_zero,Nat.zero_add]|refine Ab (h1) ?_|refine Aa ?_|refine D2 ?_ ?_|(refine And.intro ?_ ?_;focus omega))
   refine Fg [(5000,5000)] ?_;rw[MB ja (by rw[<-A7 ja];exact hv) jb];simp[YR]
 ·(repeat' first|simp(disch:=omega)only[go_sem,simprocAttr,Ie ja]|refine Aa ?_|fail)
  refine Fg [(5000,5000)] ?_;rw[MD fun j hj=>jb j hj (by omega)];simp[YR]
theorem nS(p:Rw->Bool)(l:List Rw)(f:Nat)(cs:List I)(hl:l.length<=1000000)(hp:∀x∈l,Is mx f ([.agg (KB x)]++cs) (.bool (p x))):
  MC Tryz.prog (Nt mx) 67 [.ref (.sl 5000 8 0 l.length),.i (.fn f [] cs)] [(5000,.rows 68 8 (l.map KB))] []
   (fun r s=>r=.ref (.sl 5000 8 0 (l.filter fun x=>!p x).length)/\s=[(5000,.rows 68 8 ((l.filter fun x=>!p x).map KB++List.replicate (l.length-(l.filter fun x=>!p x).length) (KB LB)))]):=by
 have m1:=nR (mx:=mx) p l f cs (by omega) hp;refine MX yQ ?_;rcases X7 p l with⟨h1,h2⟩|⟨k,h1,h2,h3,h4⟩
 ·rw[h1]at m1;rw[h2]
  (repeat' first|simp(disch:=omega)only[go_sem,simprocAttr]|(first|refine Eq (m1) ?_ (fun r sto' hR=>?_)|refine D4 (m1) ?_ (fun r sto' hR=>?_);(focus(first|rfl|(simp only[go_sem,simprocAttr];done)));first|(obtain⟨rfl,rfl⟩:=hR)|(obtain⟨_,(rfl|rfl),rfl,rfl⟩:=hR))|refine Aa ?_|fail)
  refine Fg [(5000,5000)] ?_;simp[YR]
 ·rw[h1]at m1;have jh:(((k:Int)=-1))=False:=eq_false (by omega);have ef:=Pd p h2;rw[if_pos h3,h4]at ef;have hinit:DelI KB p l k (k+1) (l.map KB):=⟨h2,by simp,by rw[ef];simp;omega,by omega,by rw[ef,List.map_take],by rw[List.map_drop],fun q hq=>by rw[List.getD_eq_getElem?_getD,List.getElem?_eq_getElem hq];simp[Jj]⟩
  (repeat' first|simp(disch:=omega)only[go_sem,simprocAttr,jh]|(first|refine Eq (m1) ?_ (fun r sto' hR=>?_)|refine D4 (m1) ?_ (fun r sto' hR=>?_);(focus(first|rfl|(simp only[go_sem,simprocAttr,jh];done)));first|(obtain⟨rfl,rfl⟩:=hR)|(obtain⟨_,(rfl|rfl),rfl,rfl⟩:=hR))|refine Aa ?_|fail)
  refine AA [0,1] (by simp only[V0,G4,reduceIte,Nat.reduceEqDiff];rfl) (fun g:Nat×Nat×List (List I)=>[(5,.i (iI g.1)),(6,.i (iI g.2.1))]) (fun g=>[(5000,.rows 68 8 g.2.2)]) (fun g=>DelI KB p l g.1 g.2.1 g.2.2) (fun g=>l.length-g.2.1) (k,k+1,l.map KB) hinit (by simp[V0,Fz,GF,Ref.nm]) ?_;rintro⟨i,j,R⟩ hI;simp only at hI;have je:=hI.len;have jl:=hI.lt;have vw:=hI.hj;by_cases hj:j<l.length
  ·have hp1:=hp (l.getD j default) (AE hj);have hgj:=hI.getj hj;cases hv:p (l.getD j default)
   ·rw[hv]at hp1;have jx:setL (R.getD i []) 0 (KB (l.getD j default))=KB (l.getD j default):=X8 (by rw[hI.rw_ i (by omega),Jj,Jj];exact Nat.le_refl _);have w8:(R.getD i []).length=8:=by rw[hI.rw_ i (by omega),Jj]
    have hko:=hI.keep (fun x=>by rw[Jj,Jj]) hj hv;rw[eRw_eq]at hgj jx hko hp1
    (repeat' first|simp(disch:=omega)only[go_sem,simprocAttr,Ck hj,Nat.sub_zero,Nat.zero_add,hgj,jx,je,w8]|refine Ab (hp1) ?_|refine Aa ?_|refine D2 ?_ ?_|(refine And.intro ?_ ?_;focus omega))
    exact⟨(i+1,j+1,_),hko,by simp only;omega,⟨rfl,rfl⟩,rfl⟩
   ·rw[hv]at hp1;rw[eRw_eq]at hgj hp1
    (repeat' first|simp(disch:=omega)only[go_sem,simprocAttr,Ck hj,Nat.sub_zero,Nat.zero_add,hgj,je]|refine Ab (hp1) ?_|refine Aa ?_|refine D2 ?_ ?_|(refine And.intro ?_ ?_;focus omega))
    exact⟨(i,j+1,R),hI.skip hj hv,by simp only;omega,⟨rfl,rfl⟩,rfl⟩
  ·have e:j=l.length:=by omega
   subst e;have kq:setL R i (List.replicate (l.length-i) (KB LB))=(l.filter fun x=>!p x).map KB++List.replicate (l.length-i) (KB LB):=by have h5:=hI.tk;rw[List.take_length]at h5;rw[setL,h5,List.length_replicate,List.drop_of_length_le (by omega),List.append_nil]
   have hcn:=hI.cnt;rw[List.take_length]at hcn
   (repeat' first|simp(disch:=omega)only[go_sem,simprocAttr,Ie hj,Nat.sub_zero,Nat.zero_add,je]|refine Aa ?_|(refine And.intro ?_ ?_;focus omega))
   generalize hq:setL R i (List.replicate (l.length-i) _)=q;have hz:q=(l.filter fun x=>!p x).map KB++List.replicate (l.length-i) (KB LB):=hq.symm.trans kq;have hql:q.length=l.length:=by grind
   refine⟨by rw[hql];omega,?_⟩;refine F3 [(5000,5000)] (s':=[(5000,.rows 68 8 q)]) rfl rfl (by decide) rfl ⟨?_,?_⟩
   ·rw[<-hcn];rfl
   ·rw[hz,<-hcn];rfl
theorem nT(nm:Nat)(hn:nm<5000)(p:Rw->Bool)(l:List Rw)(f:Nat)(cs:List I)(hl:l.length<=1000000)(hp:∀x∈l,Is mx f ([.agg (KB x)]++cs) (.bool (p x))):
  MC Tryz.prog (Nt mx) 67 [.ref (.sl nm 8 0 l.length),.i (.fn f [] cs)] [(nm,.rows 68 8 (l.map KB))] []
   (fun r s=>r=.ref (.sl nm 8 0 (l.filter fun x=>!p x).length)/\s=[(nm,.rows 68 8 ((l.filter fun x=>!p x).map KB++List.replicate (l.length-(l.filter fun x=>!p x).length) (KB LB)))]):=by
 have e1:LL [(5000,nm)] 5000=nm:=by rfl
 have h:=(MC.as [(5000,nm)] (nS (mx:=mx) p l f cs hl hp)).mono (R':=fun r s=>r=.ref (.sl nm 8 0 (l.filter fun x=>!p x).length)/\s=[(nm,.rows 68 8 ((l.filter fun x=>!p x).map KB++List.replicate (l.length-(l.filter fun x=>!p x).length) (KB LB)))]) (by
  rintro r s ⟨h1,h2⟩;have k:=El (f:=Ih [(5000,nm)]) (g:=LL [(5000,nm)]) (Cq _) r;have k2:=FN (f:=Ih [(5000,nm)]) (g:=LL [(5000,nm)]) (Cq _) s;rw[h1]at k;rw[h2]at k2;refine⟨?_,?_⟩
  ·rw[<-k];simp only[If,Nv,e1]
  ·rw[<-k2];simp only[Ig,KC,e1])
 simp only[List.map_cons,List.map_nil,If,Nv,Ig,KC,e1]at h;exact h
end
section
theorem Pe(nm:Nat)(hn:nm<5000)(l m:List Rw)(hl:l.length<4611686018427387904)(hm:m.Pairwise Dm)(hp:m.Perm l):MC Tryz.prog (Nt mx) 53 [.ref (.sl nm 8 0 l.length),.i (.fn 36 [] [])] [(nm,.rows 68 8 (l.map KB))] []
  (fun r s=>r=.i (.tup [])/\s=[(nm,.rows 68 8 (m.map KB))]):=by
 have e1:LL [(5000,nm)] 5000=nm:=by rfl
 have h:=(MC.as [(5000,nm)] (nj (mx:=mx) l m hl hm hp)).mono (R':=fun r s=>r=.i (.tup [])/\s=[(nm,.rows 68 8 (m.map KB))]) (by
  rintro r s ⟨h1,h2⟩;have k:=El (f:=Ih [(5000,nm)]) (g:=LL [(5000,nm)]) (Cq _) r;have k2:=FN (f:=Ih [(5000,nm)]) (g:=LL [(5000,nm)]) (Cq _) s;rw[h1]at k;rw[h2]at k2;refine⟨k.symm,?_⟩;rw[<-k2];simp only[Ig,KC,e1])
 simp only[List.map_cons,List.map_nil,If,Nv,Ig,KC,e1]at h;exact h
def Fx(ids:List (Fid×Bool))(p:Fid×Cz):Option Rw:=if(!p.2.1||decide (p.2.2.fact.kind=3)||rm ids p.1)=true then none else some (Gi p.2.2 p.1)
def rowsB(ids:List (Fid×Bool))(m:List (Fid×Cz)):List Rw:=m.filterMap (Fx ids)
def EZ(l:List Rw):List Rw:=l.mergeSort fun a b=>!decide (Fs b a<0)
theorem Jk(l:List Rw):(EZ l).Perm l:=List.mergeSort_perm l _
theorem Yb{l:List Rw}(hn:l.Pairwise fun a b=>a.id≠b.id):(EZ l).Pairwise Dm:=by
 have h1:=List.pairwise_mergeSort (le:=fun a b:Rw=>!decide (Fs b a<0)) (fun a b c h k=>by
  simp only[Bool.not_eq_true',decide_eq_false_iff_not]at*;intro hca;have:=XE.ntrans c b a (by simpa using k) (by simpa using h);rw[decide_eq_false_iff_not]at this;exact this hca) (fun a b=>by
  simp only[Bool.or_eq_true,Bool.not_eq_true',decide_eq_false_iff_not];by_cases h:Fs b a<0
  ·exact .inr fun k=>LA.irr a (LA.tr a b a k h)
  ·exact .inl h) l
 have h2:(EZ l).Pairwise fun a b=>a.id≠b.id:=((Jk l).pairwise_iff (fun{a b} (h:a.id≠b.id)=>h.symm)).2 hn
 have h1:(EZ l).Pairwise fun a b=>(!decide (Fs b a<0))=true:=h1
 refine(h1.and h2).imp fun{a b} h=>?_
 have h3:¬Fs b a<0:=by simpa using h.1
 rcases XD a b with q|q|q
 ·exact q
 ·exact absurd q.2 h.2
 ·exact absurd q h3
theorem nU(m:List (Fid×Cz))(x:Ent)(h:(m.map (·.1)).Nodup):((nI m x).map (·.1)).Nodup:=by grind[nI,Mx]
theorem Yc:∀(l:List Ent) (m:List (Fid×Cz)),(m.map (·.1)).Nodup->((l.foldl nI m).map (·.1)).Nodup
 |[],m,h=>h
 |x::l,m,h=>Yc l _ (nU m x h)
theorem Yd(l:List Ent)(tick:Int):((Dn l tick).map (·.1)).Nodup:=Yc _ _ (by simp)
theorem Pf:∀(l:List Ent) (m:List (Fid×Cz)),(l.foldl nI m).length<=m.length+l.length
 |[],m=>by simp
 |x::l,m=>by
  have h1:=Pf l (nI m x);have h2:(nI m x).length<=m.length+1:=by
   unfold nI;split
   ·omega
   ·have:=congrArg List.length (Mx m (AW x.fact) (Ji ((AR m (AW x.fact)).getD vZ) x));split at this<;>simp at this<;>omega
  simp only[List.foldl_cons,List.length_cons];omega
theorem nV{ids:List (Fid×Bool)}{p:Fid×Cz}{r:Rw}(h:Fx ids p=some r):r.id=p.1:=by
 unfold Fx at h;split at h
 ·cases h
 ·cases h;rfl
theorem R7(ids:List (Fid×Bool)):∀(m:List (Fid×Cz)),(m.map (·.1)).Nodup->(rowsB ids m).Pairwise fun a b=>a.id≠b.id
 |[],_=>List.Pairwise.nil
 |p::m,h=>by
  rw[List.map_cons,List.nodup_cons]at h;have ih:=R7 ids m h.2;unfold rowsB at ih⊢;cases hp:Fx ids p with
  |none=>rw[List.filterMap_cons_none hp];exact ih
  |some r=>rw[List.filterMap_cons_some hp,List.pairwise_cons];refine⟨fun b hb=>?_,ih⟩;obtain⟨q,hq,hqb⟩:=List.mem_filterMap.1 hb;grind[nV]
def Cw(l:List Ent)(tick:Int):List Rw:=EZ (rowsB (Jp l l.length).ids (Dn l tick))
theorem nW(ids:List (Fid×Bool))(m:List (Fid×Cz)):(rowsB ids m).length<=m.length:=List.length_filterMap_le _ _
theorem nX(l:List Ent)(tick:Int)(hl:l.length<=30000):MC Tryz.prog (Nt mx) 19 [.i (.sl (l.map Ad)),.i (iI tick)] [] [] (fun r s=>r=.ref (.sl 6000 8 0 (Cw l tick).length)/\s=[(6000,.rows 68 8 ((Cw l tick).map KB))]):=by
 have e0:=Nm (mx:=mx) l (by omega);have e1:=X6 (mx:=mx) l tick (by omega);have hk:=Yd l tick;have wn:(Dn l tick).length<=l.length:=by grind[Pf,AQ,Dn]
 unfold Cw;generalize (Jp l l.length).ids=ids at e0;generalize Dn l tick=bs at e1 hk wn;have jq:=Yb (R7 ids bs hk);simp only[G2,Ak]at e1;refine MX xu ?_
 (repeat' first|simp(disch:=omega)only[go_sem,simprocAttr]|refine Sx.s ?_ ?_<;>try(intro h;have h':=h;try simp only[HB]at h';try rewrite [h];try simp only[h])|refine Ab (e0) ?_|refine Ab (e1) ?_|fail)
 refine AA [5,14] (by simp only[V0,G4,reduceIte,Nat.reduceEqDiff];rfl) (fun g:List Rw×List (Fid×Cz)×Option (I×I)=>[(4,.ref (.sl 4 8 0 g.1.length))]) (fun g=>[(14,.iter g.2.2 (g.2.1.map fun p=>(.agg [.str p.1.source,.int .i64 p.1.seq],.agg (Bd p.2)))),(4,.rows 68 8 (g.1.map KB))])
  (fun g=>(g.1++rowsB ids g.2.1).Perm (rowsB ids bs)/\g.1.length+g.2.1.length<=bs.length) (fun g=>g.2.1.length) ([],bs,none) ⟨by simp,by simp⟩ (by simp[V0,Fz,GF,Ref.nm]) ?_
 rintro⟨acc,rest,cur⟩ ⟨jb,je⟩;simp only at je jb;have kx:=fun id:Fid=>Kv ids id
 simp(disch:=omega)only[go_sem,Nat.reduceEqDiff];refine Mv (fun hr=>?_) (fun q hq=>?_)
 ·subst hr;have hp:acc.Perm (rowsB ids bs):=by grind[rowsB]
  have k7:(EZ (rowsB ids bs)).length=acc.length:=((Jk _).trans hp.symm).length_eq
  (repeat' first|simp(disch:=omega)only[go_sem,simprocAttr]|(first|refine Eq (Pe 4 (by decide) acc (EZ (rowsB ids bs)) (by omega) jq ((Jk _).trans hp.symm)) ?_ (fun r sto' hR=>?_)|refine D4 (Pe 4 (by decide) acc (EZ (rowsB ids bs)) (by omega) jq ((Jk _).trans hp.symm)) ?_ (fun r sto' hR=>?_);(focus(first|rfl|(simp only[go_sem,simprocAttr,Nat.sub_zero];done)));first|(obtain⟨rfl,rfl⟩:=hR)|(obtain⟨_,(rfl|rfl),rfl,rfl⟩:=hR))|refine Aa ?_|fail)
  rw[<-k7];refine Fg [(4,6000)] ?_;simp[YR]
 ·have hpm:=QU hq;have hel:(rest.eraseIdx q).length+1=rest.length:=by grind
  have qc:∀acc':List Rw,acc'=acc++(Fx ids rest[q]).toList->(acc'++rowsB ids (rest.eraseIdx q)).Perm (rowsB ids bs):=fun acc' e=>by
   subst e;refine List.Perm.trans ?_ jb;have h1:((Fx ids rest[q]).toList++rowsB ids (rest.eraseIdx q)).Perm (rowsB ids rest):=by grind[Fx,rowsB]
   rw[List.append_assoc];exact List.Perm.append_left acc h1
  clear hpm;generalize rest[q]=p at qc⊢;generalize hrest:rest.eraseIdx q=rest' at qc hel⊢;obtain⟨id,ba,be⟩:=p;have kx:=Kv ids id;have qe:=D9 Jj Ya (Gi be id);rw[eRw_eq]at qe;simp only[Gi]at qe;have kj:List.take acc.length (acc.map KB)=acc.map KB:=List.take_of_length_le (by simp);have qm:Fx ids (id,ba,be)=if(!ba||decide (be.fact.kind=3)||rm ids id)=true then none else some (Gi be id):=rfl
  rw[qm]at qc;cases ba
  ·(repeat' first|simp(disch:=omega)only[go_sem,simprocAttr,Bd,Ax]|refine Aa ?_|fail)
   exact⟨(acc,rest',some (.agg (Ak id),.agg (Bd (false,be)))),⟨qc acc (by simp),by simp only;omega⟩,by simp only;omega,rfl,by simp only[Bd,Ax,Ak],rfl⟩
  ·by_cases qk:be.fact.kind=3
   ·(repeat' first|simp(disch:=omega)only[go_sem,simprocAttr,Bd,Ax,eq_true qk]|refine Aa ?_|fail)
    exact⟨(acc,rest',some (.agg (Ak id),.agg (Bd (true,be)))),⟨qc acc (by simp[qk]),by simp only;omega⟩,by simp only;omega,rfl,by simp only[Bd,Ax,Ak],rfl⟩
   ·cases jr:rm ids id
    ·rw[jr]at kx
     (repeat' first|simp(disch:=omega)only[go_sem,simprocAttr,Nat.sub_zero,Bd,Ax,eq_false qk,kx,Au,Ay,A6,beq_self_eq_true,qe.1,qe.2,kj]|refine Aa ?_|fail)
     refine⟨of_eq_true (Jh ids),by omega,by omega,(acc++[Gi be id],rest',some (.agg (Ak id),.agg (Bd (true,be)))),⟨qc _ (by simp[qk,jr]),by simp only[List.length_append,List.length_cons,List.length_nil];omega⟩,by simp only;omega,by rw[List.length_append];rfl,by simp only[Bd,Ax,Ak],?_⟩;rw[List.map_append,List.map_cons,List.map_nil,eRw_eq (Gi be id)];rfl
    ·rw[jr]at kx
     (repeat' first|simp(disch:=omega)only[go_sem,simprocAttr,Bd,Ax,eq_false qk,kx,Au,Ay,A6,beq_self_eq_true]|refine Aa ?_|fail)
     exact⟨of_eq_true (Jh ids),(acc,rest',some (.agg (Ak id),.agg (Bd (true,be)))),⟨qc acc (by simp[qk,jr]),by simp only;omega⟩,by simp only;omega,rfl,by simp only[Bd,Ax,Ak],rfl⟩
end
section
theorem Pg(l:List Ent)(tick:Int)(hl:l.length<=30000):Is mx 19 [.sl (l.map Ad),iI tick] (.sl ((Cw l tick).map KB)):=by
 have e0:=Nm (mx:=mx) l (by omega);have e1:=X6 (mx:=mx) l tick (by omega);have hk:=Yd l tick;have wn:(Dn l tick).length<=l.length:=by grind[Pf,AQ,Dn]
 unfold Cw;generalize (Jp l l.length).ids=ids at e0;generalize Dn l tick=bs at e1 hk wn;have jq:=Yb (R7 ids bs hk);simp only[G2,Ak]at e1;refine MX xu ?_
 (repeat' first|simp(disch:=omega)only[go_sem,simprocAttr]|refine Sx.s ?_ ?_<;>try(intro h;have h':=h;try simp only[HB]at h';try rewrite [h];try simp only[h])|refine Ab (e0) ?_|refine Ab (e1) ?_|fail)
 refine AA [5,14] (by simp only[V0,G4,reduceIte,Nat.reduceEqDiff];rfl) (fun g:List Rw×List (Fid×Cz)×Option (I×I)=>[(4,.ref (.sl 4 8 0 g.1.length))]) (fun g=>[(14,.iter g.2.2 (g.2.1.map fun p=>(.agg [.str p.1.source,.int .i64 p.1.seq],.agg (Bd p.2)))),(4,.rows 68 8 (g.1.map KB))])
  (fun g=>(g.1++rowsB ids g.2.1).Perm (rowsB ids bs)/\g.1.length+g.2.1.length<=bs.length) (fun g=>g.2.1.length) ([],bs,none) ⟨by simp,by simp⟩ (by simp[V0,Fz,GF,Ref.nm]) ?_
 rintro⟨acc,rest,cur⟩ ⟨jb,je⟩;simp only at je jb;have kx:=fun id:Fid=>Kv ids id
 simp(disch:=omega)only[go_sem,Nat.reduceEqDiff];refine Mv (fun hr=>?_) (fun q hq=>?_)
 ·subst hr;have hp:acc.Perm (rowsB ids bs):=by grind[rowsB]
  have k7:(EZ (rowsB ids bs)).length=acc.length:=((Jk _).trans hp.symm).length_eq
  (repeat' first|simp(disch:=omega)only[go_sem,simprocAttr]|(first|refine Eq (Pe 4 (by decide) acc (EZ (rowsB ids bs)) (by omega) jq ((Jk _).trans hp.symm)) ?_ (fun r sto' hR=>?_)|refine D4 (Pe 4 (by decide) acc (EZ (rowsB ids bs)) (by omega) jq ((Jk _).trans hp.symm)) ?_ (fun r sto' hR=>?_);(focus(first|rfl|(simp only[go_sem,simprocAttr,Nat.sub_zero];done)));first|(obtain⟨rfl,rfl⟩:=hR)|(obtain⟨_,(rfl|rfl),rfl,rfl⟩:=hR))|refine Aa ?_|refine Sz.s ?_|fail)
  rw[<-k7,if_pos (Nat.le_refl _),List.take_of_length_le (by simp)];exact⟨rfl,rfl⟩
 ·have hpm:=QU hq;have hel:(rest.eraseIdx q).length+1=rest.length:=by grind
  have qc:∀acc':List Rw,acc'=acc++(Fx ids rest[q]).toList->(acc'++rowsB ids (rest.eraseIdx q)).Perm (rowsB ids bs):=fun acc' e=>by
   subst e;refine List.Perm.trans ?_ jb;have h1:((Fx ids rest[q]).toList++rowsB ids (rest.eraseIdx q)).Perm (rowsB ids rest):=by grind[Fx,rowsB]
   rw[List.append_assoc];exact List.Perm.append_left acc h1
  clear hpm;generalize rest[q]=p at qc⊢;generalize hrest:rest.eraseIdx q=rest' at qc hel⊢;obtain⟨id,ba,be⟩:=p;have kx:=Kv ids id;have qe:=D9 Jj Ya (Gi be id);rw[eRw_eq]at qe;simp only[Gi]at qe;have kj:List.take acc.length (acc.map KB)=acc.map KB:=List.take_of_length_le (by simp);have qm:Fx ids (id,ba,be)=if(!ba||decide (be.fact.kind=3)||rm ids id)=true then none else some (Gi be id):=rfl
  rw[qm]at qc;cases ba
  ·(repeat' first|simp(disch:=omega)only[go_sem,simprocAttr,Bd,Ax]|refine Aa ?_|fail)
   exact⟨(acc,rest',some (.agg (Ak id),.agg (Bd (false,be)))),⟨qc acc (by simp),by simp only;omega⟩,by simp only;omega,rfl,by simp only[Bd,Ax,Ak],rfl⟩
  ·by_cases qk:be.fact.kind=3
   ·(repeat' first|simp(disch:=omega)only[go_sem,simprocAttr,Bd,Ax,eq_true qk]|refine Aa ?_|fail)
    exact⟨(acc,rest',some (.agg (Ak id),.agg (Bd (true,be)))),⟨qc acc (by simp[qk]),by simp only;omega⟩,by simp only;omega,rfl,by simp only[Bd,Ax,Ak],rfl⟩
   ·cases jr:rm ids id
    ·rw[jr]at kx
     (repeat' first|simp(disch:=omega)only[go_sem,simprocAttr,Nat.sub_zero,Bd,Ax,eq_false qk,kx,Au,Ay,A6,beq_self_eq_true,qe.1,qe.2,kj]|refine Aa ?_|fail)
     refine⟨of_eq_true (Jh ids),by omega,by omega,(acc++[Gi be id],rest',some (.agg (Ak id),.agg (Bd (true,be)))),⟨qc _ (by simp[qk,jr]),by simp only[List.length_append,List.length_cons,List.length_nil];omega⟩,by simp only;omega,by rw[List.length_append];rfl,by simp only[Bd,Ax,Ak],?_⟩;rw[List.map_append,List.map_cons,List.map_nil,eRw_eq (Gi be id)];rfl
    ·rw[jr]at kx
     (repeat' first|simp(disch:=omega)only[go_sem,simprocAttr,Bd,Ax,eq_false qk,kx,Au,Ay,A6,beq_self_eq_true]|refine Aa ?_|fail)
     exact⟨of_eq_true (Jh ids),(acc,rest',some (.agg (Ak id),.agg (Bd (true,be)))),⟨qc acc (by simp[qk,jr]),by simp only;omega⟩,by simp only;omega,rfl,by simp only[Bd,Ax,Ak],rfl⟩
theorem nY(l:List Ent)(tick:Int)(hl:l.length<=30000):(Cw l tick).length<=30000:=by have h1:(Cw l tick).length=(rowsB (Jp l l.length).ids (Dn l tick)).length:=(Jk _).length_eq;grind[nW,Jp,Dn,AQ,Pf,nI]
theorem nZ(c:Cat)(tick:Int)(r:Rw)(hc:c.tables.length<=1073741824):Is mx 68 [.agg (KB r),.elt (Aw c) 0,.elt [iI tick] 0] (.bool (!Nq c tick r)):=by
 have t1:=Xv (mx:=mx) c r.table hc;have hk:Nq c tick r=(decide (((A5 c.tables r.table).getD Bh).keep=0)||decide (tick<=IntKind.i64.wrap (r.event+((A5 c.tables r.table).getD Bh).keep))):=rfl;rw[hk];unfold GU at t1;generalize (A5 c.tables r.table).getD Bh=t at t1⊢;refine MX yR ?_
 (repeat' first|exact Al _|simp(disch:=omega)only[go_sem,simprocAttr,eRw_eq]|refine' Ao (fun hq=>?_) (fun f=>?_)<;>try(have jc:=hq;try simp only[HB]at jc)|refine Sx.s ?_ ?_<;>try(intro h;have h':=h;try simp only[HB]at h';try rewrite [h];try simp only[h])|refine Ab (t1) ?_|refine Sz.s ?_|fail)
 refine congrArg I.bool ?_;rw[Bool.eq_iff_iff];simp only[Bool.and_eq_true,Bool.not_eq_true',Bool.or_eq_false_iff,decide_eq_true_eq,decide_eq_false_iff_not];omega
theorem n0(l:List Ent)(tick:Int)(c:Cat)(hl:l.length<=30000)(hc:c.tables.length<=1073741824)(wp:Is mx 22 [.sl (l.map Ad),iI tick] (.agg (Aw c))):Is mx 33 [.sl (l.map Ad),iI tick] (.sl ((LC c (Cw l tick) tick).map KB)):=by
 have m1:=nX (mx:=mx) l tick hl;have je:=nY l tick hl;generalize Cw l tick=rows at m1 je⊢;have m2:=nT (mx:=mx) 11 (by decide) (fun r=>!Nq c tick r) rows 68 [.elt (Aw c) 0,.elt [iI tick] 0] (by omega) (fun r _=>nZ c tick r hc);have ef:(rows.filter fun r=>!!Nq c tick r)=LC c rows tick:=by simp[LC]
 rw[ef]at m2;refine MX yn ?_
 (repeat' first|simp(disch:=omega)only[go_sem,simprocAttr]|(first|refine Eq (m1) ?_ (fun r sto' hR=>?_)|refine D4 (m1) ?_ (fun r sto' hR=>?_);(focus(first|rfl|(simp only[go_sem,simprocAttr];done)));first|(obtain⟨rfl,rfl⟩:=hR)|(obtain⟨_,(rfl|rfl),rfl,rfl⟩:=hR))|(first|refine Eq (m2) ?_ (fun r sto' hR=>?_)|refine D4 (m2) ?_ (fun r sto' hR=>?_);(focus(first|rfl|(simp only[go_sem,simprocAttr];done)));first|(obtain⟨rfl,rfl⟩:=hR)|(obtain⟨_,(rfl|rfl),rfl,rfl⟩:=hR))|refine Sx.s ?_ ?_<;>try(intro h;have h':=h;try simp only[HB]at h';try rewrite [h];try simp only[h])|refine Ab (wp) ?_|refine Sz.s ?_|fail)
 rw[if_pos (Nat.le_add_right _ _),List.take_left' (by simp)];exact⟨rfl,rfl⟩
end
section
theorem n8(c:Cat)(f:Fct)(hc:AV c<=1073741824)(hf:F8 f<=1073741824):Is mx 40 [.agg (Aw c),.agg (Bu f)] (iI (Ge c f)):=by
 have h0:=Jb f;have hvl:=OQ f.fields;have lt:=HM c.tables;have hb:=Ch c;have h1:=m6 (mx:=mx) f;have h2:=Xv (mx:=mx) c f.table (by omega);have hR:=Ge.eq_1 c f;refine MX yu ?_;cases wl:Kn f
 ·rw[wl]at h1;rw[if_pos wl]at hR;rw[hR]
  (repeat' first|simp(disch:=omega)only[go_sem,simprocAttr]|refine Sx.s ?_ ?_<;>try(intro h;have h':=h;try simp only[HB]at h';try rewrite [h];try simp only[h])|refine Ab (h1) ?_|refine Aa ?_|refine Sz.s ?_|fail)
 ·rw[wl]at h1;rw[if_neg (by rw[wl];simp)]at hR;by_cases h3:f.kind=3
  ·rw[if_pos h3]at hR;rw[hR]
   (repeat' first|simp(disch:=omega)only[go_sem,simprocAttr,h3]|refine Sx.s ?_ ?_<;>try(intro h;have h':=h;try simp only[HB]at h';try rewrite [h];try simp only[h])|refine Ab (h1) ?_|refine Aa ?_|refine Sz.s ?_|fail)
  ·rw[if_neg h3]at hR;cases ht:A5 c.tables f.table with
   |none=>
    rw[ht]at h2 hR;rw[hR];simp only[GU,Option.getD_none,Option.isSome_none]at h2
    (repeat' first|simp(disch:=omega)only[go_sem,simprocAttr,eq_false h3]|refine Sx.s ?_ ?_<;>try(intro h;have h':=h;try simp only[HB]at h';try rewrite [h];try simp only[h])|refine Ab (h1) ?_|refine Ab (h2) ?_|refine Aa ?_|refine Sz.s ?_|fail)
   |some t=>
    rw[ht]at h2 hR;simp only at hR;simp only[GU,Option.getD_some,Option.isSome_some]at h2;by_cases hl:f.fields.length=t.fields.length
    ·rw[if_neg (by omega)]at hR;have hlF:((f.fields.length:Int)=(t.fields.length:Int))=True:=eq_true (by omega)
     (repeat' first|simp(disch:=omega)only[go_sem,simprocAttr,eq_false h3,hlF,ne_eq,not_true_eq_false]|refine Sx.s ?_ ?_<;>try(intro h;have h':=h;try simp only[HB]at h';try rewrite [h];try simp only[h])|refine Ab (h1) ?_|refine Ab (h2) ?_|refine Aa ?_|fail)
     refine BP [5,32,33] (fun i=>[(34,.i (iI i))]) (fun _=>[]) (fun i=>eqL Nb f.fields t.fields=eqL Nb (f.fields.drop i) (t.fields.drop i)) f.fields.length 0 (by omega) rfl ?_;intro i hi jb;by_cases ja:i<f.fields.length
     ·have jz:i<t.fields.length:=by omega
      have jk:=F9 jb ja jz;have h4:=kD (mx:=mx) (f.fields.getD i default) (t.fields.getD i default).typ
      (repeat' first|simp(disch:=omega)only[go_sem,simprocAttr,Ck ja,Ck jz,List.map_cons,List.map_nil]|refine Sx.s ?_ ?_<;>try(intro h;have h':=h;try simp only[HB]at h';try rewrite [h];try simp only[h])|refine Ab (h4) ?_|refine Aa ?_|refine Am ?_|refine Sz.s ?_|(refine And.intro ?_ ?_;focus omega))
      ·rw[hR,Xf jk h];rfl
      ·exact GN jk h
     ·rw[hR,Ga jb (by omega) (by omega)]
      (repeat' first|simp(disch:=omega)only[go_sem,simprocAttr,Ie ja]|refine Aa ?_|refine Sz.s ?_|fail)
    ·rw[if_pos hl]at hR;rw[hR];have hlF:((f.fields.length:Int)=(t.fields.length:Int))=False:=eq_false (by omega)
     (repeat' first|simp(disch:=omega)only[go_sem,simprocAttr,eq_false h3,hlF,ne_eq,not_false_eq_true]|refine Sx.s ?_ ?_<;>try(intro h;have h':=h;try simp only[HB]at h';try rewrite [h];try simp only[h])|refine Ab (h1) ?_|refine Ab (h2) ?_|refine Aa ?_|refine Sz.s ?_|fail)
end
section
theorem oa(n:Int):Is mx 38 [iI n] (.bool (decide (0<=n)&&decide (n<=1099511627776))):=by
 refine MX yr ?_
 (repeat' first|exact Al _|simp(disch:=omega)only[go_sem,simprocAttr]|refine' Ao (fun hq=>?_) (fun f=>?_)<;>try(have jc:=hq;try simp only[HB]at jc)|refine Sz.s ?_|fail)
 all_goals(try rfl)
theorem oe(s:Bs)(hs:s.length<=1073741824):Is mx 77 [.str s] (.bool (H4 s)):=by
 refine MX yZ ?_;cases hb:(decide ((s.length:Int)<1)||decide ((32:Int)<(s.length:Int)))
 ·simp only[Bool.or_eq_false_iff,decide_eq_false_iff_not]at hb;have qm:(decide ((s.length:Int)<1)||decide ((32:Int)<(s.length:Int)))=false:=by grind
  have hk:H4 s= !s.any (BZ 33):=by have e1:decide (1<=(s.length:Int))=true:=decide_eq_true (by omega);have e2:decide ((s.length:Int)<=32)=true:=decide_eq_true (by omega);simp[H4,e1,e2]
  rw[hk]
  (repeat' first|exact Al _|simp(disch:=omega)only[go_sem,simprocAttr,qm]|refine' Ao (fun hq=>?_) (fun f=>?_)<;>try(have jc:=hq;try simp only[HB]at jc)|refine Aa ?_|fail)
  refine BP [14,15] (fun i=>[(16,.i (iI i))]) (fun _=>[]) (fun i=>(s.take i).all (fun c=>!BZ 33 c)=true) s.length 0 (by omega) (by simp) ?_;intro i hi jb;have hrb:(Dl.rowsB s).length=s.length:=by simp[Dl.rowsB]
  by_cases ja:i<s.length
  ·have hrg:(Dl.rowsB s).getD i []=[I.int .u8 ((s.getD i default).toNat:Int)]:=by simp[Dl.rowsB,List.getD,List.getElem?_eq_getElem ja]
   cases xb:BZ 33 (s.getD i default)
   ·have hbd2:=xb;unfold BZ at hbd2
    (repeat' first|exact Al _|simp(disch:=omega)only[go_sem,simprocAttr,hrb,Ck ja,hrg,hbd2]|refine' Ao (fun hq=>?_) (fun f=>?_)<;>try(have jc:=hq;try simp only[HB]at jc)|refine Aa ?_|(refine And.intro ?_ ?_;focus omega))
    exact BO (d:=default) jb ja (by rw[xb];rfl)
   ·have hbd2:=xb;unfold BZ at hbd2;have:s.any (BZ 33)=true:=by grind
    rw[this]
    (repeat' first|exact Al _|simp(disch:=omega)only[go_sem,simprocAttr,hrb,Ck ja,hrg,hbd2]|refine' Ao (fun hq=>?_) (fun f=>?_)<;>try(have jc:=hq;try simp only[HB]at jc)|refine Aa ?_|refine Sz.s ?_|fail)
    all_goals(try rfl)
  ·rw[List.take_of_length_le (by omega),List.all_eq_true]at jb;have:s.any (BZ 33)=false:=by grind
   rw[this]
   (repeat' first|simp(disch:=omega)only[go_sem,simprocAttr,hrb,Ie ja]|refine Aa ?_|refine Sz.s ?_|fail)
   all_goals(try rfl)
 ·have hk:H4 s=false:=by grind[H4]
  rw[hk]
  (repeat' first|exact Al _|simp(disch:=omega)only[go_sem,simprocAttr,hb]|refine' Ao (fun hq=>?_) (fun f=>?_)<;>try(have jc:=hq;try simp only[HB]at jc)|refine Aa ?_|refine Sz.s ?_|fail)
theorem oh(x:Ers)(hx:GK x<=1073741824):Is mx 41 [.agg (Cy x)] (.bool (Kq x)):=by
 have h0:x.key.length<=1073741824:=by grind[GK,F6]
 have h1:=oe (mx:=mx) x.key h0;refine MX yv ?_
 (repeat' first|exact Al _|simp(disch:=omega)only[go_sem,simprocAttr]|refine' Ao (fun hq=>?_) (fun f=>?_)<;>try(have jc:=hq;try simp only[HB]at jc)|refine Sx.s ?_ ?_<;>try(intro h;have h':=h;try simp only[HB]at h';try rewrite [h];try simp only[h])|refine Ab (K5 _) ?_|refine Ab (h1) ?_|refine Aa ?_|refine Sz.s ?_|fail)
 all_goals(refine congrArg I.bool ?_;simp only[Kq,Gg,DB,DC,MU];first|done|(grind(splits:=20)))
theorem oj(f:Fct):Is mx 72 [.agg (Bu f)] (.bool (Lw f)):=by
 refine MX yU ?_
 (repeat' first|exact Al _|simp(disch:=omega)only[go_sem,simprocAttr]|refine' Ao (fun hq=>?_) (fun f=>?_)<;>try(have jc:=hq;try simp only[HB]at jc)|refine Sz.s ?_|fail)
 all_goals(refine congrArg I.bool ?_;simp only[Lw,Gg,DB,DC];first|done|(grind(splits:=20)))
def LD(x:Xpr):Bool:=decide (x.kind=0)&&decide (x.op=[])&&decide (x.name=[])&&decide (x.table=[])&&decide (x.val=EM)&&decide ((x.unit.length:Int)=0)&&decide (x.param=0)&&decide (x.win=Et)&&decide ((x.args.length:Int)=0)
theorem R8(a b:Val):decide (a=b)=(decide (a.kind=b.kind)&&(decide (a.n=b.n)&&decide (a.s=b.s))):=by cases a;cases b;simp
theorem R9(a b:Win):decide (a=b)=(decide (a.kind=b.kind)&&decide (a.size=b.size)):=by cases a;cases b;simp
theorem ol(x:Xpr):Is mx 103 [.agg (eE x)] (.bool (LD x)):=by
 refine MX cM ?_
 (repeat' first|exact Al _|simp(disch:=omega)only[go_sem,simprocAttr]|refine' Ao (fun hq=>?_) (fun f=>?_)<;>try(have jc:=hq;try simp only[HB]at jc)|refine Sz.s ?_|fail)
 all_goals(refine congrArg I.bool ?_;simp only[LD,R8,R9,DB,DC];first|done|(grind(splits:=20)))
theorem Ph{α β:Type}(p:α->β->Bool)(l:List α):eqL p l []=decide ((l.length:Int)=0):=by
 cases l with
 |nil=>rfl
 |cons a r=>rw[decide_eq_false (by simp;omega)];rfl
theorem om(x:Xpr):YT x ru=LD x:=by rw[OG];have e1:eqL Ev x.unit ru.unit=decide ((x.unit.length:Int)=0):=Ph _ _;have e2:eqL YT x.args ru.args=decide ((x.args.length:Int)=0):=Ph _ _;rw[e1,e2];have f1:ru.kind=0:=rfl;have f2:ru.op=[]:=rfl;have f3:ru.name=[]:=rfl;have f4:ru.table=[]:=rfl;have f5:ru.val=EM:=rfl;have f6:ru.param=0:=rfl;have f7:ru.win=Et:=rfl;have f8:(ru.args.length:Int)=0:=rfl;rw[f1,f2,f3,f4,f5,f6,f7,f8];simp only[LD,R8,R9,DO,DB,DC];grind
theorem ot(t:Typ):J9 t AO=(decide (t.kind=0)&&decide (t.of=[])&&decide ((t.unit.length:Int)=0)):=by unfold J9;have e1:eqL Ev t.unit AO.unit=decide ((t.unit.length:Int)=0):=Ph _ _;rw[e1]
theorem Ye(t:Tbl):Ew t Bh=(decide (t.name=[])&&decide (t.entity=[])&&decide (t.keep=0)&&decide ((t.fields.length:Int)=0)):=by unfold Ew;have e1:eqL Kc t.fields Bh.fields=decide ((t.fields.length:Int)=0):=Ph _ _;grind
theorem Yf(f:Ftr):ER f CI=(decide (f.typ.kind=0)&&decide (f.typ.of=[])&&decide ((f.typ.unit.length:Int)=0)&&LD f.body&&decide (f.name=[])&&decide (f.entity=[])&&decide (f.version=0)):=by simp[ER,ot,om]
@[go_sem] theorem u9(f:Ftr):pk false (At f) 2 1=.int .i64 f.typ.kind:=by rfl
@[go_sem] theorem vA(f:Ftr):pk false (At f) 3 1=.sl (f.typ.unit.map AC):=by rfl
@[go_sem] theorem vB(f:Ftr):pk false (At f) 4 1=.str f.typ.of:=by rfl
theorem ou(x:Chg):Is mx 73 [.agg (AD x)] (.bool (Lx x)):=by
 have h1:=ol (mx:=mx) x.feature.body;refine MX yV ?_
 (repeat' first|exact Al _|simp(disch:=omega)only[go_sem,simprocAttr]|refine' Ao (fun hq=>?_) (fun f=>?_)<;>try(have jc:=hq;try simp only[HB]at jc)|refine Ab (h1) ?_|refine Am ?_|refine Sz.s ?_|fail)
 all_goals(refine congrArg I.bool ?_;simp only[Lx,Ye,Yf];first|done|(grind(splits:=20)))
theorem ow(x:Ent):Is mx 39 [.agg (Ad x)] (.bool (G0 x)):=by
 have h1:=oj (mx:=mx) x.fact;have h2:=ou (mx:=mx) x.change;refine MX yt ?_
 (repeat' first|exact Al _|simp(disch:=omega)only[go_sem,simprocAttr]|refine' Ao (fun hq=>?_) (fun f=>?_)<;>try(have jc:=hq;try simp only[HB]at jc)|refine Sx.s ?_ ?_<;>try(intro h;have h':=h;try simp only[HB]at h';try rewrite [h];try simp only[h])|refine Ab (h1) ?_|refine Ab (h2) ?_|refine Aa ?_|refine Am ?_|refine Sz.s ?_|fail)
 all_goals(refine congrArg I.bool ?_;simp only[G0,Xl,Gg,DB,DC];first|done|(grind(splits:=20)))
end
section
theorem Yg(t:Tbl):Is mx 112 [.agg (AP t)] (.bool (Ew t Bh)):=by
 refine MX cV ?_
 (repeat' first|exact Al _|simp(maxSteps:=9999999) (disch:=omega)only[go_sem,reduceCtorEq,Nat.reduceAdd,Nat.reduceEqDiff,Nat.reduceLeDiff]|refine' Qz rfl rfl (by simp only[V0,Nat.reduceEqDiff,reduceIte]) (fun hq=>?_) (fun f=>?_)<;>try(have jc:=hq;try simp only[HB]at jc)|refine CD (R:=Sf _) ?_|fail)
 all_goals(refine congrArg I.bool ?_;simp only[Ye];first|done|(grind(splits:=20)))
theorem Yh(f:Ftr):Is mx 109 [.agg (At f)] (.bool (ER f CI)):=by
 refine MX cT ?_
 (repeat' first|exact Al _|simp(maxSteps:=9999999) (disch:=omega)only[go_sem,reduceCtorEq,Nat.reduceAdd,Nat.reduceEqDiff,Nat.reduceLeDiff]|refine' Qz rfl rfl (by simp only[V0,Nat.reduceEqDiff,reduceIte]) (fun hq=>?_) (fun f=>?_)<;>try(have jc:=hq;try simp only[HB]at jc)|refine CD (R:=Sf _) ?_|fail)
 all_goals(refine congrArg I.bool ?_;simp only[Yf,LD,R8,R9,DB,DC];first|done|(grind(splits:=20)))
@[go_sem] theorem vC(st:St)(K:St->Prop)(nm k lo hi:Nat)(l:Option D)(h m:D)(d:Nat):KK (.ref (.sl nm k lo hi)) l h m d st K=(KJ (hi-lo) (YK l) (FI h) (FI m)/\K (st.put d .any)):=rfl
theorem Nr:∀xs:List (List I),E4 (xs.map some)=some xs
 |[]=>rfl
 |x::r=>by simp[E4,Nr r]
@[go_sem] theorem vD(st:St)(K:St->Prop)(nm k lo hi:Nat)(z:List I)(d:Option Nat):II (.ref (.sl nm k lo hi)) z d st K=Gt (Ac st.sto nm) nm k lo hi z d st K:=rfl
@[go_sem] theorem vE(st:St)(K:St->Prop)(e k:Nat)(rs:List (Option (List I)))(nm k0 lo hi:Nat)(z:List I)(d:Option Nat):Gt (some (.arr e k rs)) nm k0 lo hi z d st K=(k0=k/\z.length=k/\hi<=rs.length/\K (putO (st.setB nm (.arr e k (setL rs lo (List.replicate (hi-lo) (some z))))) d (.i (.tup [])))):=rfl
end
section
theorem oz{Q:Program}(w:World)(tS tR e:TypeId)(ht:Q.underlying tS=some (.slice e))(size:Nat)(hz:∀w,(Go.sizeOf e).run Q w=.ok size w)
  (a b:Addr)(la ca lb cb:Nat)(jh:a.block≠b.block)(tA tB:TypeId)(kA kB:Nat)
  (hsa:w.shape? a.block=some (tA,kA))(zT:w.shape? b.block=some (tB,kB))(hkA:kA≠0)
  (hfb:w.frozen? b=false)(qu:w.frozen? {block:=b.block,off:=kB}=false):
  (Extern.SlicesOverlaps.overlaps #[tS,tS] #[tR] #[.slice (some a) la ca,.slice (some b) lb cb]).run Q w=.ok (.bool false) w:=by
 have hnb:(a.block !=b.block)=true:=by grind
 have hnb':(a.block==b.block)=false:=by grind
 change Sem.run Q (α:=Value) (do
  let some t:=(#[tS,tS]:Array TypeId)[0]? |stuck "slices.overlaps: no parameter types"
  let .slice elem <-underlying t|stuck "slices.overlaps: slice type expected"
  let size <-sizeOf elem
  match(some a:Option Addr),(some b:Option Addr)with
  |some a,some b=>
   if la=0\/lb=0\/size=0 then pure (Value.bool false)
   else if a.block !=b.block&&(<-frozen a)&&(<-frozen b)then unsupported .addressObserved
   else do
    if a.block !=b.block then do
     noView a;noView b
     if<-mayBeOne a b then return Value.bool ((<-choose (.extern "sameAddr.stringBytes" 2))==1)
    pure (Value.bool (a.block==b.block&&a.off<b.off+lb*size&&b.off<a.off+la*size))
  |_,_=>pure (Value.bool false)) w=_
 by_cases h0:la=0\/lb=0\/size=0
 ·simp[run_underlying ht,hz,h0]
 ·cases kA with
  |zero=>exact absurd rfl hkA
  |succ kA=>cases hfa:w.frozen? a<;>cases hfa2:w.frozen? {block:=a.block,off:=kA+1}<;>simp[run_underlying ht,hz,h0,hnb,hnb',frozen,noView,viewAt,mayBeOne,stringish,shape,Sem.run,hsa,zT,hfa,hfa2,hfb,qu]
theorem Kx{Q:Program}(w:World)(tS tR e:TypeId)(ht:Q.underlying tS=some (.slice e))(size:Nat)(hz:∀w,(Go.sizeOf e).run Q w=.ok size w)
  (a b:Option Addr)(la ca lb cb:Nat)(h0:a=none\/b=none\/la=0\/lb=0):
  (Extern.SlicesOverlaps.overlaps #[tS,tS] #[tR] #[.slice a la ca,.slice b lb cb]).run Q w=.ok (.bool false) w:=by
 change Sem.run Q (α:=Value) (do
  let some t:=(#[tS,tS]:Array TypeId)[0]? |stuck "slices.overlaps: no parameter types"
  let .slice elem <-underlying t|stuck "slices.overlaps: slice type expected"
  let size <-sizeOf elem
  match a,b with
  |some a,some b=>
   if la=0\/lb=0\/size=0 then pure (Value.bool false)
   else if a.block !=b.block&&(<-frozen a)&&(<-frozen b)then unsupported .addressObserved
   else do
    if a.block !=b.block then do
     noView a;noView b
     if<-mayBeOne a b then return Value.bool ((<-choose (.extern "sameAddr.stringBytes" 2))==1)
    pure (Value.bool (a.block==b.block&&a.off<b.off+lb*size&&b.off<a.off+la*size))
  |_,_=>pure (Value.bool false)) w=_
 cases a with
 |none=>simp[run_underlying ht,hz]
 |some a=>
  cases b with
  |none=>simp[run_underlying ht,hz]
  |some b=>
   have h1:la=0\/lb=0\/size=0:=by grind
   simp[run_underlying ht,hz,h1]
theorem oA{f:FuncId}{tS tR e:TypeId}{k:Nat}(rows:List (List I))(rs:List (Option (List I)))(lo hi:Nat)(hk:0<k)(h1:∀r∈rows,r.length=k)
  (hc:∀vs w,(callFunc f vs).run Tryz.prog w=((Extern.SlicesOverlaps.overlaps #[tS,tS] #[tR] vs).run Tryz.prog w).andThen fun v w'=>.ok (.value v) w')
  (ht:Tryz.prog.underlying tS=some (.slice e))(hz:∀w,(Go.sizeOf e).run Tryz.prog w=.ok k w)(xh:Nat.blt f 1000000000=true):
  MC Tryz.prog (Nt mx) f [.i (.sl rows),.ref (.sl 5000 k lo hi)] [(5000,.arr e k rs)] [] (fun r s=>r=.i (.bool false)/\s=[(5000,.arr e k rs)]):=by
 unfold MC;intro M μ w vs h2 h3 h4;obtain⟨l⟩:=vs
 match l,h4.1 with
 |[v,u],_=>
  have hv:Rep M (.sl rows) v:=h4.2 0 (by simp) (by simp);have hu:Az M μ (names [(5000,Blk.arr e k rs)]) (.ref (.sl 5000 k lo hi)) u:=h4.2 1 (by simp) (by simp);have key:(Extern.SlicesOverlaps.overlaps #[tS,tS] #[tR] #[v,u]).run Tryz.prog w=.ok (.bool false) w:=by
   obtain⟨hN,hs⟩:=hu;obtain⟨a,cap,hp,hlh,hhc,hs⟩:=hs;rcases hs with⟨_,a',rfl⟩|⟨b,o,rfl,rfl⟩
   ·cases hv with
    |slnil=>exact Kx w tS tR e ht k hz _ _ _ _ _ _ (.inl rfl)
    |slempty a cap=>exact Kx w tS tR e ht k hz _ _ _ _ _ _ (.inr (.inr (.inr rfl)))
    |sl=>exact Kx w tS tR e ht k hz _ _ _ _ _ _ (.inr (.inr (.inr rfl)))
   ·cases hv with
    |slnil=>exact Kx w tS tR e ht k hz _ _ _ _ _ _ (.inl rfl)
    |slempty a cap=>exact Kx w tS tR e ht k hz _ _ _ _ _ _ (.inr (.inr (.inl rfl)))
    |sl _ k' b' o' cap' v jn hc' hh wb=>
     by_cases w8:rows.length=0
     ·exact Kx w tS tR e ht k hz _ _ _ _ _ _ (.inr (.inr (.inl w8)))
     by_cases hhl:hi-lo=0
     ·exact Kx w tS tR e ht k hz _ _ _ _ _ _ (.inr (.inr (.inr hhl)))
     have qb:=hh 0 (by omega) 0 (by rw[h1 _ (List.getElem_mem _)];exact hk);obtain⟨a2,hm,hx⟩:=h2.blk 5000 (.arr e k rs) (by simp[Ac]);rw[hp]at hm;injection hm with q1 q2 q3
     rcases hx with hx|⟨b2,o2,cur,q4,jh,ho,hl,js,hra⟩
     ·rw[hx]at q3;simp at q3;omega
     rw[<-q1]at q4;injection q4 with q4;injection q4 with q5 q6
     subst q5;have j0:=h2.sub.1 _ _ _ qb;have hheap:∃cs t fz,w.heap[b']? =some (.cells cs t fz)/\cs.size≠0:=by
      unfold World.cell? at j0;split at j0
      ·rename_i cs t fz hh2;refine⟨cs,t,fz,hh2,fun h0=>?_⟩;simp at j0;have:o'<cs.size:=by
        rcases Nat.lt_or_ge o' cs.size with h|h
        ·exact h
        ·rw[Array.getElem?_eq_none h]at j0;cases j0
       omega
      ·cases j0
     obtain⟨cs,t,fz,hb',vd⟩:=hheap;have hne':b'≠b:=by intro h;subst h;have:=ho.unk.1 (o'+0*k'+0);rw[qb]at this;cases this
     have hob:=ho.heap;exact oz w tS tR e ht k hz ⟨b',o',none⟩ ⟨b,o+lo*k,none⟩ _ _ _ _ hne' t e cs.size cur.size (by simp[World.shape?,hb']) (by simp[World.shape?,hob]) vd (by simp[World.frozen?,hob]) (by simp[World.frozen?,hob])
  refine .inr (.inr (.inl ⟨xh,.bool false,w,by rw[hc,key];rfl,_,_,M,μ,⟨rfl,rfl⟩,h2,AG (.bool false),MExt.refl _ _,Keeps.refl _ _,fun _ _ _=>rfl⟩))
end
end Go.Proofs.YtojgbkiejjingaaGreatDoor
