/-
  Lemmas, no statement.
-/
import Derived.Test.YtojgbkiejjingaaGreatDoorK34
set_option linter.all false
namespace Go.Dl
open Go Go.RowKit
variable{K:St->Prop}{d:Nat}{st:St}{e:Env}{R:D->List (Nat×Blk)->Prop}{mv:List Nat}
@[go_sem] theorem uw:(∀neg,B4 .sl neg (.i .nilsl) d st K=K (st.put d (.i (.bool (true !=neg)))))/\Gp (.i .nilsl) d st K=K (st.put d (.i (.int .i64 0))):=⟨fun _=>rfl,rfl⟩
class Sx(p:Prop)(a b:outParam Prop):Prop where
 s:a->b->p
class Sz(p:Prop)(a:outParam Prop):Prop where
 s:a->p
section
variable {P:Program}{GL:List (Nat×List I)}
instance {s b w i r st K}:Sx (bI P GL s (.i (.bool b)) w i r st K) (b=true->bI P GL s (.i (.bool true)) w i r st K) (b=false->bI P GL s (.i (.bool false)) w i r st K):=⟨bK⟩
instance {s b w sn i r st K}:Sx (bJ P GL s (.i (.bool b)) w sn i r st K) (b=true->bJ P GL s (.i (.bool true)) w sn i r st K) (b=false->bJ P GL s (.i (.bool false)) w sn i r st K):=⟨bL⟩
instance {b a c K st}:Sx (Ff P GL (.i (.bool b)) a c K st) (b=true->Ff P GL (.i (.bool true)) a c K st) (b=false->Ff P GL (.i (.bool false)) a c K st):=⟨KX⟩
instance {b d A C st K}:Sx (Db (.i (.bool b)) d A C st K) (b=true->Db (.i (.bool true)) d A C st K) (b=false->Db (.i (.bool false)) d A C st K):=⟨bM⟩
instance {f os st d K}:Sx (Ah P GL (DX GL f os) st d K) ((os.all fun o=>G5 (AL GL (frzNs (oN GL st os) st) o))=true) (Aj P GL f (os.map fun o=>FB (AL GL (frzNs (oN GL st os) st) o)) (frzNs (oN GL st os) st) d K):=⟨HD⟩
instance {f os st d K}:Sx (Dt P GL (DX GL f os) os d st K) ((os.all fun o=>G5 (AL GL (frzNs (oN GL st os) st) o))=true) (Aj P GL f (os.map fun o=>FB (AL GL (frzNs (oN GL st os) st) o)) (frzNs (oN GL st os) st) d K):=⟨bP⟩
instance {fo os st d K}:Sx (Dt P GL (Dr GL fo os) (fo::os) d st K) (((fo::os).all fun o=>G5 (AL GL (frzNs (oN GL st (fo::os)) st) o))=true) (F0 P GL (AL GL (frzNs (oN GL st (fo::os)) st) fo) (os.map fun o=>FB (AL GL (frzNs (oN GL st (fo::os)) st) o)) (frzNs (oN GL st (fo::os)) st) d K):=⟨bQ⟩
instance {rs given mv y st}:Sz (DJ rs given mv (Sf y) st) (KU (Sf y) (GE (frzNs (wM rs st) st) rs)):=⟨CD⟩
theorem Ao{s:Nat}{b w v:Bool}{i:Ins}{r blk r':List GI}{R:O}{so:List (Nat×Blk)}(h1:b=w->Dl.evD P GL [] (CO s w blk) ⟨e,so⟩ (fun st'=>AL GL st' R=.i (.bool v)))(h2:∀f,Dl.ev P GL r' ((Ce f 0 (BY blk) ⟨e,so⟩).put d (.i (.bool (rL w b v)))) K)
  (z1:Fe s w (⟨some (s,w),i⟩::r)=some (blk,R,d,r'):=by exact rfl)(kc:D3 s w [] blk=true:=by exact rfl)(hs:Af e s=.i (.bool b):=by simp only[V0,V1,Nat.reduceEqDiff,reduceIte]):bI P GL s (.i (.bool b)) w i r ⟨e,so⟩ K:=Qz z1 kc hs h1 h2
theorem Cf{sn:List Nat}{s:Nat}{b w v:Bool}{i:Ins}{r blk r':List GI}{R:O}{so:List (Nat×Blk)}(h1:b=w->Dl.evD P GL sn (CO s w blk) ⟨e,so⟩ (fun st'=>AL GL st' R=.i (.bool v)))(h2:∀f,Dl.evD P GL sn r' ((Ce f 0 (BY blk) ⟨e,so⟩).put d (.i (.bool (rL w b v)))) K)
  (z1:Fe s w (⟨some (s,w),i⟩::r)=some (blk,R,d,r'):=by exact rfl)(kc:D3 s w [] blk=true:=by exact rfl)(hs:Af e s=.i (.bool b):=by simp only[V0,V1,Nat.reduceEqDiff,reduceIte]):bJ P GL s (.i (.bool b)) w sn i r ⟨e,so⟩ K:=bW z1 kc hs h1 h2
theorem D4{f:FuncId}{os:List O}{d:Option Nat}{ds:List D}{sto:List (Nat×Blk)}(h:MC P GL f ds sto mv R)(zz:os.map (AL GL st)=ds)
  (k:∀r sto',R r sto'->((AY (d.getD 999) sto').map (·.1)).all (fun nm=>(Ac sto nm).isSome||((Ac st.sto nm).isNone&&Nat.blt nm 5000))=true/\(sto.map (·.1)).all (fun nm=>(Ac sto' nm).isNone||ren (d.getD 999) nm==nm)=true/\K (putO (C0 st sto sto' mv (d.getD 999)) d (Ca (d.getD 999) r)))
  (h1:Bl sto st.sto:=by simp[V0,V1,V2,Fz,V8,GF,Ref.nm])(h2:(Ps sto sto&&(ds.all fun x=>Pq sto x.nms)&&(mv.all fun m=>Nat.blt m 5000||Nat.ble 5500 m))=true:=by simp[V0,V1,V2,Fz,V8,GF,Ref.nm]):Ah P GL (DX GL f os) st d K:=JX h zz h1 h2 k
theorem Eq{f:FuncId}{os:List O}{ds:List D}(h:MC P GL f ds [] [] R)(zz:os.map (AL GL st)=ds)
  (k:∀r sto',R r sto'->((AY d sto').map (·.1)).all (fun nm=>(Ac st.sto nm).isNone&&Nat.blt nm 5000)=true/\K ((⟨st.env,AY d sto'++st.sto⟩:St).put d (Ca d r)))(hI:(ds.all G5)=true:=by exact rfl):KT P GL f os d st K:=UR h zz hI k
theorem QK{body:J}{K:Exit->St->Prop}{s:List (Nat×Blk)}{ι:Type}(ks:List Nat){bs:List (Nat×D)}(C:ι->List (Nat×D))(B:ι->List (Nat×Blk))(I:ι->Prop)(m:ι->Nat)(k:ι)(hi:I k)
  (round:∀i,I i->W2 P GL body (JW (fun i=>⟨.l (C i++bs),B i⟩) I m i K) ⟨.l (C i++bs),B i⟩)(hb:C6 e ks=bs:=by(simp only[V0,V1,V2,G4,reduceIte,Nat.reduceEqDiff];rfl))(h0:Sub ⟨.l (C k++bs),B k⟩ ⟨e,s⟩:=by simp[V0,V1,V2,Fz,V8,GF,Ref.nm]):W2 P GL (.lp body) K ⟨e,s⟩:=AA ks hb C B I m k hi h0 round
theorem BP{body:J}{K:Exit->St->Prop}{s:List (Nat×Blk)}(ks:List Nat){bs:List (Nat×D)}(C:Nat->List (Nat×D))(B:Nat->List (Nat×Blk))(I:Nat->Prop)(n k:Nat)(hk:k<=n)(hi:I k)
  (round:∀i,i<=n->I i->W2 P GL body (JV (fun i=>⟨.l (C i++bs),B i⟩) I n i K) ⟨.l (C i++bs),B i⟩)(hb:C6 e ks=bs:=by(simp only[V0,V1,V2,G4,reduceIte,Nat.reduceEqDiff];rfl))(h0:Sub ⟨.l (C k++bs),B k⟩ ⟨e,s⟩:=by simp[V0,V1,V2,Fz,V8,GF,Ref.nm]):W2 P GL (.lp body) K ⟨e,s⟩:=CP ks hb C B I n k hk hi h0 round
abbrev Vc(P:Program)(GL:List (Nat×List I))(i:Nat)(d:FD):Prop:=((P.funcs[i]?).bind fun f=>some (f.ntmps,f.body.bind (comp P GL f.ntmps d.a d.b),f.results.toList.mapM (FY P),f.name != "runtime.NumGoroutine",Nat.blt i 1000000000,Nat.ble f.ntmps 999))=some (d.n,some d.c.ir,some d.l,true,true,true)
structure FP(P Q:Program)(G:Int->List (Nat×List I))(i:Nat) where
 d:FD
 h:∀mx,Vc P (G mx) i d
def FP.of{P Q:Program}{G:Int->List (Nat×List I)}{i:Nat}(f:Func)(a:List Nat:=[])(b:List (Nat×Nat):=[])(h:List (Nat×List (List Nat)):=[]){y:FD}(_e:xO Q (G 0) f a b h=some y:=by conv=>lhs;cbv)(k:∀mx,Vc P (G mx) i y:=by intro;show _=_;kernel_rfl):FP P Q G i:=⟨y,k⟩
theorem MX{Q:Program}{G:Int->List (Nat×List I)}{mx:Int}{i n:Nat}{a:List Nat}{b:List (Nat×Nat)}{l:List RV}{c:J}{sto:List (Nat×Blk)}{args:List D}(F:FP P Q G i)
  (hw:W2 P (G mx) c (IZ l (sto.map (·.1)) mv R) ⟨.l (C3 0 args),sto⟩)(hd:F.d=⟨n,a,b,l,c⟩:=by conv=>lhs;whnf)
  (ke:Nat.ble args.length n=true:=by exact rfl)(hpin:((sto.map (·.1)).all fun m=>(Nat.ble 5000 m&&Nat.blt m 5500)||mv.contains m)=true:=by exact rfl):MC P (G mx) i args sto mv R:=by
 have h:=F.h mx;rw[hd]at h;obtain⟨f,hf,e⟩:=Option.bind_eq_some_iff.1 h;simp only[Option.some.injEq,Prod.mk.injEq]at e;obtain⟨e1,e2,e3,e4,e5,e6⟩:=e;rw[e1]at e2 e6;exact bY hf e4 e1 ke e6 e2 e3 hpin rfl hw e5
theorem Fg{rs:List RV}{given:List Nat}(ks:List (Nat×Nat)){x:D}{s':List (Nat×Blk)}(h3:R (If (kf ks) x) (Ig (kf ks) s'))(hx:GE st rs=some x:=by(simp only[go_sem,simprocAttr,wF];rfl))(hs:BM (ks.map (·.1)) st.sto=s':=by(simp[YR];rfl))
  (h1:Mo given mv ks=true:=by decide)(h2:(Pq s' x.nms&&Ps s' s')=true:=by simp[V0,V1,V2,Fz,V8,GF,Ref.nm]):DJ rs given mv R st:=F3 ks hx hs h1 h2 h3
end
end Go.Dl
