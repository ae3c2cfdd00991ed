/- A part of the proofs of WorkersExclude and WorkersMatchesSteps: A27s. -/
import Derived.Test.YtcgjldimifeffaaGreatDoorA27g
set_option linter.all false
/-
  A data-level logic, third edition: the walks' steps in short forms.
-/
namespace Go.Dl
open Go Go.RowKit
/-- A step that leaves two goals, a step that leaves one. -/
@[go_sem] theorem nilsl_eq {d : Nat} {st : St} {K : St → Prop} : (∀ neg, isnilE .sl neg (.i .nilsl) d st K = K (st.put d (.i (.bool (true != neg))))) ∧ lenlE (.i .nilsl) d st K = K (st.put d (.i (.int .i64 0))) := ⟨fun _ => rfl, rfl⟩
class Sx (p : Prop) (a b : outParam Prop) : Prop where
  s : a → b → p
class Sz (p : Prop) (a : outParam Prop) : Prop where
  s : a → p
section
variable {P : Program} {GL : List (Nat × List I)}
instance {s b w i r st K} : Sx (gdV P GL s (.i (.bool b)) w i r st K) (b = true → gdV P GL s (.i (.bool true)) w i r st K) (b = false → gdV P GL s (.i (.bool false)) w i r st K) := ⟨gdV_intro⟩
instance {s b w sn i r st K} : Sx (gdD P GL s (.i (.bool b)) w sn i r st K) (b = true → gdD P GL s (.i (.bool true)) w sn i r st K) (b = false → gdD P GL s (.i (.bool false)) w sn i r st K) := ⟨gdD_intro⟩
instance {b a c K st} : Sx (condJ P GL (.i (.bool b)) a c K st) (b = true → condJ P GL (.i (.bool true)) a c K st) (b = false → condJ P GL (.i (.bool false)) a c K st) := ⟨condJ_intro⟩
instance {b d A C st K} : Sx (pickE (.i (.bool b)) d A C st K) (b = true → pickE (.i (.bool true)) d A C st K) (b = false → pickE (.i (.bool false)) d A C st K) := ⟨pickE_intro⟩
instance {m x os st d K} : Sx (callG P GL (getIv P GL m x os) st d K) ((os.all fun o => isI (opv GL (frzNs (oN GL st (x :: os)) st) o)) = true) (callLi P GL (opv GL (frzNs (oN GL st (x :: os)) st) x) m (os.map fun o => unI (opv GL (frzNs (oN GL st (x :: os)) st) o)) (frzNs (oN GL st (x :: os)) st) d K) := ⟨callG_Ii⟩
instance {f os st d K} : Sx (callG P GL (getC GL f os) st d K) ((os.all fun o => isI (opv GL (frzNs (oN GL st os) st) o)) = true) (callL P GL f (os.map fun o => unI (opv GL (frzNs (oN GL st os) st) o)) (frzNs (oN GL st os) st) d K) := ⟨callG_I⟩
instance {f os st d K} : Sx (callF P GL (getC GL f os) os d st K) ((os.all fun o => isI (opv GL (frzNs (oN GL st os) st) o)) = true) (callL P GL f (os.map fun o => unI (opv GL (frzNs (oN GL st os) st) o)) (frzNs (oN GL st os) st) d K) := ⟨callF_I⟩
instance {fo os st d K} : Sx (callF P GL (getCv GL fo os) (fo :: os) d st K) (((fo :: os).all fun o => isI (opv GL (frzNs (oN GL st (fo :: os)) st) o)) = true) (callLv P GL (opv GL (frzNs (oN GL st (fo :: os)) st) fo) (os.map fun o => unI (opv GL (frzNs (oN GL st (fo :: os)) st) o)) (frzNs (oN GL st (fo :: os)) st) d K) := ⟨callF_Iv⟩
instance {rs given mv y st} : Sz (resV rs given mv (isR y) st) (retP (isR y) (retD (frzNs (rsN rs st) st) rs)) := ⟨ret_I⟩
theorem gdV_S {s : Nat} {b w v : Bool} {i : Ins} {r blk r' : List GI} {R : O} {d : Nat} {e : Env} {so : List (Nat × Blk)} {K : St → Prop} (h1 : b = w → Dl.evD P GL [] (strip s w blk) ⟨e, so⟩ (fun st' => opv GL st' R = .i (.bool v))) (h2 : ∀ f, Dl.ev P GL r' ((putF f 0 (dstL blk) ⟨e, so⟩).put d (.i (.bool (scV w b v)))) K)
    (hsp : scSplit s w (⟨some (s, w), i⟩ :: r) = some (blk, R, d, r') := by exact rfl) (hok : scOk s w [] blk = true := by exact rfl) (hs : getE e s = .i (.bool b) := by simp only [V0, V1, Nat.reduceEqDiff, reduceIte]) : gdV P GL s (.i (.bool b)) w i r ⟨e, so⟩ K := gdV_sc' hsp hok hs h1 h2
theorem gdD_S {sn : List Nat} {s : Nat} {b w v : Bool} {i : Ins} {r blk r' : List GI} {R : O} {d : Nat} {e : Env} {so : List (Nat × Blk)} {K : St → Prop} (h1 : b = w → Dl.evD P GL sn (strip s w blk) ⟨e, so⟩ (fun st' => opv GL st' R = .i (.bool v))) (h2 : ∀ f, Dl.evD P GL sn r' ((putF f 0 (dstL blk) ⟨e, so⟩).put d (.i (.bool (scV w b v)))) K)
    (hsp : scSplit s w (⟨some (s, w), i⟩ :: r) = some (blk, R, d, r') := by exact rfl) (hok : scOk s w [] blk = true := by exact rfl) (hs : getE e s = .i (.bool b) := by simp only [V0, V1, Nat.reduceEqDiff, reduceIte]) : gdD P GL s (.i (.bool b)) w sn i r ⟨e, so⟩ K := gdD_sc' hsp hok hs h1 h2
theorem callG_S {f : FuncId} {os : List O} {st : St} {d : Option Nat} {K : St → Prop} {ds : List D} {sto : List (Nat × Blk)} {mv : List Nat} {R : D → List (Nat × Blk) → Prop} (h : MC P GL f ds sto mv R) (hds : os.map (opv GL st) = ds)
    (k : ∀ r sto', R r sto' → ((renS (d.getD 999) sto').map (·.1)).all (fun nm => (getS sto nm).isSome || ((getS st.sto nm).isNone && Nat.blt nm 5000)) = true ∧ (sto.map (·.1)).all (fun nm => (getS sto' nm).isNone || ren (d.getD 999) nm == nm) = true ∧ K (putO (callSt st sto sto' mv (d.getD 999)) d (renD (d.getD 999) r)))
    (h1 : subS sto st.sto := by simp [V0, V1, V2, V11, V8, V15, Ref.nm]) (h2 : (clS sto sto && (ds.all fun x => inS sto x.nms) && (mv.all fun m => Nat.blt m 5000 || Nat.ble 5500 m)) = true := by simp [V0, V1, V2, V11, V8, V15, Ref.nm]) : callG P GL (getC GL f os) st d K := callG_M h hds h1 h2 k
theorem callO_S {f : FuncId} {os : List O} {st : St} {d : Nat} {K : St → Prop} {ds : List D} {R : D → List (Nat × Blk) → Prop} (h : MC P GL f ds [] [] R) (hds : os.map (opv GL st) = ds)
    (k : ∀ r sto', R r sto' → ((renS d sto').map (·.1)).all (fun nm => (getS st.sto nm).isNone && Nat.blt nm 5000) = true ∧ K ((⟨st.env, renS d sto' ++ st.sto⟩ : St).put d (renD d r))) (hI : (ds.all isI) = true := by exact rfl) : callOo P GL f os d st K := callO_M h hds hI k
theorem loopT_S {body : J} {K : Exit → St → Prop} {e : Env} {s : List (Nat × Blk)} {ι : Type} (ks : List Nat) {bs : List (Nat × D)} (C : ι → List (Nat × D)) (B : ι → List (Nat × Blk)) (I : ι → Prop) (m : ι → Nat) (k : ι) (hi : I k)
    (round : ∀ i, I i → W2 P GL body (roundH (fun i => ⟨.l (C i ++ bs), B i⟩) I m i K) ⟨.l (C i ++ bs), B i⟩) (hb : snap e ks = bs := by (simp only [V0, V1, V2, V25, reduceIte, Nat.reduceEqDiff]; rfl)) (h0 : Sub ⟨.l (C k ++ bs), B k⟩ ⟨e, s⟩ := by simp [V0, V1, V2, V11, V8, V15, Ref.nm]) : W2 P GL (.lp body) K ⟨e, s⟩ := loopT ks hb C B I m k hi h0 round
theorem loopS_S {body : J} {K : Exit → St → Prop} {e : Env} {s : List (Nat × Blk)} (ks : List Nat) {bs : List (Nat × D)} (C : Nat → List (Nat × D)) (B : Nat → List (Nat × Blk)) (I : Nat → Prop) (n k : Nat) (hk : k ≤ n) (hi : I k)
    (round : ∀ i, i ≤ n → I i → W2 P GL body (roundI (fun i => ⟨.l (C i ++ bs), B i⟩) I n i K) ⟨.l (C i ++ bs), B i⟩) (hb : snap e ks = bs := by (simp only [V0, V1, V2, V25, reduceIte, Nat.reduceEqDiff]; rfl)) (h0 : Sub ⟨.l (C k ++ bs), B k⟩ ⟨e, s⟩ := by simp [V0, V1, V2, V11, V8, V15, Ref.nm]) : W2 P GL (.lp body) K ⟨e, s⟩ := loopS ks hb C B I n k hk hi h0 round
/-- What a function is compiled to. -/
abbrev chkF (P : Program) (GL : List (Nat × List I)) (i : Nat) (h : List (Nat × List (List Nat))) (d : FD) : Prop := ((P.funcs[i]?).bind fun f => some (f.ntmps, f.body.bind (comp P GL f.ntmps d.a true d.b h), f.results.toList.mapM (compRV P), f.name != "runtime.NumGoroutine", Nat.blt i 1000000000, Nat.ble f.ntmps 999)) = some (d.n, some d.c.ir, some d.l, true, true, true)
structure FP (P Q : Program) (G : Int → List (Nat × List I)) (i : Nat) where
  d : FD
  e : List (Nat × List (List Nat))
  h : ∀ mx, chkF P (G mx) i e d
def FP.of {P Q : Program} {G : Int → List (Nat × List I)} {i : Nat} (f : Func) (a : List Nat := []) (b : List (Nat × Nat) := []) (h : List (Nat × List (List Nat)) := []) {y : FD} (_e : mkF Q (G 0) f a b h = some y := by conv => lhs; cbv) (k : ∀ mx, chkF P (G mx) i h y := by intro; show _ = _; kernel_rfl) : FP P Q G i := ⟨y, h, k⟩
theorem MX {Q : Program} {G : Int → List (Nat × List I)} {mx : Int} {i n : Nat} {a : List Nat} {b : List (Nat × Nat)} {l : List RV} {c : J} {sto : List (Nat × Blk)} {args : List D} {mv : List Nat} {R : D → List (Nat × Blk) → Prop} (F : FP P Q G i)
    (hw : W2 P (G mx) c (bodyK l (sto.map (·.1)) mv R) ⟨.l (env0 0 args), sto⟩) (hd : F.d = ⟨n, a, b, l, c⟩ := by conv => lhs; whnf)
    (hargs : Nat.ble args.length n = true := by exact rfl) (hpin : ((sto.map (·.1)).all fun m => (Nat.ble 5000 m && Nat.blt m 5500) || mv.contains m) = true := by exact rfl) : MC P (G mx) i args sto mv R := by
  have h := F.h mx
  rw [hd] at h
  obtain ⟨f, hf, e⟩ := Option.bind_eq_some_iff.1 h
  simp only [Option.some.injEq, Prod.mk.injEq] at e
  obtain ⟨e1, e2, e3, e4, e5, e6⟩ := e
  rw [e1] at e2 e6
  exact MC_of_J hf e4 e1 hargs e6 e2 e3 hpin hw e5
theorem ret_S {rs : List RV} {given mv : List Nat} {R : D → List (Nat × Blk) → Prop} {st : St} (ks : List (Nat × Nat)) {x : D} {s' : List (Nat × Blk)} (h3 : R (mpD (kf ks) x) (mpS (kf ks) s')) (hx : retD st rs = some x := by (simp only [go_sem, simprocAttr, V10]; rfl)) (hs : resS (ks.map (·.1)) st.sto = s' := by (simp [V29]; rfl))
    (h1 : keepOk given mv ks = true := by decide) (h2 : (inS s' x.nms && clS s' s') = true := by simp [V0, V1, V2, V11, V8, V15, Ref.nm]) : resV rs given mv R st := ret_M ks hx hs h1 h2 h3
end
end Go.Dl
