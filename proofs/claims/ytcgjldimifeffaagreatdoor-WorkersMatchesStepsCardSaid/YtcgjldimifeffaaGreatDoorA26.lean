/- A part of the proofs of WorkersExclude and WorkersMatchesSteps: A26. -/
import Derived.Test.YtcgjldimifeffaaGreatDoorA25
set_option linter.all false
/-
  A data-level logic, second edition: code by tables; what is kept from piece to piece; what simp need not look at.
-/
namespace Go.Dl
open Go Go.RowKit

section
variable (P : Program) (GL : List (Nat × List I))
def evT (gs : List GI) (st : St) (K : St → Prop) : Prop := ev P GL gs st K
def dregT (sn : List Nat) (gs : List GI) (post : List Nat) (K : Exit → St → Prop) (st : St) : Prop := dregE P GL sn gs post K st
def condJ (v : D) (a c : J) (K : Exit → St → Prop) (st : St) : Prop := match v with
  | .i (.bool t) => br t (W2 P GL a K st) (W2 P GL c K st)
  | _ => False
end
section
variable {P : Program} {GL : List (Nat × List I)}
theorem condJ_intro {b : Bool} {a c : J} {K : Exit → St → Prop} {st : St} (h : b = true → condJ P GL (.i (.bool true)) a c K st) (k : b = false → condJ P GL (.i (.bool false)) a c K st) : condJ P GL (.i (.bool b)) a c K st := by
  cases b
  · exact k rfl
  · exact h rfl
theorem V23' (K : Exit → St → Prop) (st : St) :
    (∀ gs, W2 P GL (.rg gs) K st = evT P GL gs st (K .normal)) ∧ (∀ c a b, W2 P GL (.cond c a b) K st = condJ P GL (opv GL st c) a b K st) ∧ (∀ a c, condJ P GL (.i (.bool true)) a c K st = W2 P GL a K st) ∧ (∀ a c, condJ P GL (.i (.bool false)) a c K st = W2 P GL c K st) := by
  and_intros <;> intros <;> first | rfl | (simp [condJ, br]; done)
def V23 := cj @W2.eq_1 (cj @W2.eq_4 (cj @W2.eq_7 (cj @W2.eq_9 (cj @W2.eq_10 @V23'))))
theorem V25' :
    (∀ ks W K e s, prnK ks W K .normal ⟨e, s⟩ = W K ⟨.l (snap e ks), s⟩) ∧ (∀ ks W K id s, prnK ks W K (.exit id) s = K (.exit id) s) ∧ (∀ ks W K s, prnK ks W K .ret s = K .ret s) := by
  and_intros <;> intros <;> rfl
def V25 := cj @snap.eq_1 (cj @snap.eq_2 (cj @prn.eq_1 @V25'))
theorem V26 (st : St) : (∀ g r Q, evT P GL (g :: r) st Q = ev P GL (g :: r) st Q) ∧ (∀ Q, evT P GL [] st Q = Q st) := ⟨fun _ _ _ => rfl, fun _ => rfl⟩
/-- An open region: what its instructions want as data is given up first. -/
def drJ (sn : List Nat) (gs : List GI) (post : List Nat) (K : Exit → St → Prop) (st : St) : Prop := dregE P GL sn gs post K (frzNs (dN GL gs st) st)
theorem drJ_I {sn : List Nat} {fz : List O} {gs : List GI} {post : List Nat} {K : Exit → St → Prop} {st : St} (h : dregE P GL sn gs post K (frzNs (oN GL st fz ++ dN GL gs st) st)) : W2 P GL (.dr sn fz gs post) K st := ⟨_, h⟩
theorem ct_I {ks : List Nat} {a b : J} {K : Exit → St → Prop} {st : St} (h : W2 P GL a (prnK ks (W2 P GL b) K) st) : W2 P GL (.ct ks a b) K st :=
  W2_mono a h fun e s hs => by
    cases e with
    | normal => exact ⟨_, .inr (.inr ⟨ks, rfl⟩), hs⟩
    | _ => exact hs
/-- A round: the ghost goes on to one that is less. -/
def roundH {ι : Type} (F : ι → St) (I : ι → Prop) (m : ι → Nat) (i : ι) (K : Exit → St → Prop) : Exit → St → Prop
  | .normal, s => ∃ i', I i' ∧ m i' < m i ∧ Sub (F i') s
  | e, s => K e s
theorem V24' (K : Exit → St → Prop) (st : St) :
    (∀ (ι : Type) (F : ι → St) I m i id, roundH F I m i K (.exit id) st = K (.exit id) st) ∧ (∀ (ι : Type) (F : ι → St) I m i, roundH F I m i K .ret st = K .ret st) := by
  and_intros <;> intros <;> rfl
def V24 := cj @roundH.eq_1 @V24'
/-- A loop by a ghost of any kind: what is kept, what turns. -/
theorem loopT {body : J} {K : Exit → St → Prop} {e : Env} {s : List (Nat × Blk)} {ι : Type} (ks : List Nat) {bs : List (Nat × D)} (hb : snap e ks = bs) (C : ι → List (Nat × D)) (B : ι → List (Nat × Blk)) (I : ι → Prop) (m : ι → Nat) (k : ι)
    (hi : I k) (h0 : Sub ⟨.l (C k ++ bs), B k⟩ ⟨e, s⟩) (round : ∀ i, I i → W2 P GL body (roundH (fun i => ⟨.l (C i ++ bs), B i⟩) I m i K) ⟨.l (C i ++ bs), B i⟩) : W2 P GL (.lp body) K ⟨e, s⟩ := by
  refine ⟨{i : ι // I i}, fun i => ⟨.l (C i.1 ++ bs), B i.1⟩, fun i => m i.1, ⟨k, hi⟩, h0, fun i => W2_mono _ (round i.1 i.2) ?_⟩
  intro e s h
  cases e with
  | normal => obtain ⟨j, h1, h2, h3⟩ := h; exact ⟨⟨j, h1⟩, h2, h3⟩
  | _ => exact h
/-- A loop with a counter. -/
theorem loopS {body : J} {K : Exit → St → Prop} {e : Env} {s : List (Nat × Blk)} (ks : List Nat) {bs : List (Nat × D)} (hb : snap e ks = bs) (C : Nat → List (Nat × D)) (B : Nat → List (Nat × Blk)) (I : Nat → Prop) (n k : Nat)
    (hk : k ≤ n) (hi : I k) (h0 : Sub ⟨.l (C k ++ bs), B k⟩ ⟨e, s⟩) (round : ∀ i, i ≤ n → I i → W2 P GL body (roundI (fun i => ⟨.l (C i ++ bs), B i⟩) I n i K) ⟨.l (C i ++ bs), B i⟩) : W2 P GL (.lp body) K ⟨e, s⟩ :=
  loopT ks hb C B (fun i => i ≤ n ∧ I i) (fun i => n - i) k ⟨hk, hi⟩ h0 fun i hh => W2_mono _ (round i hh.1 hh.2) fun e s h => by
    cases e with
    | normal => exact ⟨i + 1, ⟨h.1, h.2.1⟩, by show n - (i + 1) < n - i; have := h.1; omega, h.2.2⟩
    | _ => exact h
/-- A join: what is kept, what the ways make different. -/
theorem cutS {ks0 : List Nat} {a b : J} {K : Exit → St → Prop} {e : Env} {s : List (Nat × Blk)} (ks : List Nat) {bs : List (Nat × D)} (hb : snap e ks = bs) (C : List (Nat × D)) (B : List (Nat × Blk)) (φ : Prop) (ha : W2 P GL a (stopK φ ⟨.l (C ++ bs), B⟩ K) ⟨e, s⟩) (h : φ → W2 P GL b K ⟨.l (C ++ bs), B⟩) :
    W2 P GL (.ct ks0 a b) K ⟨e, s⟩ :=
  W2_mono a ha fun e s hs => by
    cases e with
    | normal => exact ⟨_, .inr (.inl hs.2), h hs.1⟩
    | _ => exact hs
end
section
variable {P : Program} {GL : List (Nat × List I)}
/-- A call that is handed memory. -/
theorem callG_M {f : FuncId} {os : List O} {st : St} {d : Option Nat} {K : St → Prop} {ds : List D} {sto : List (Nat × Blk)} {mv : List Nat} {R : D → List (Nat × Blk) → Prop} (h : MC P GL f ds sto mv R) (hds : os.map (opv GL st) = ds) (h1 : subS sto st.sto)
    (h2 : (clS sto sto && (ds.all fun x => inS sto x.nms) && (mv.all fun m => Nat.blt m 5000 || Nat.ble 5500 m)) = true) (k : ∀ r sto', R r sto' → ((renS (d.getD 999) sto').map (·.1)).all (fun nm => (getS sto nm).isSome || ((getS st.sto nm).isNone && Nat.blt nm 5000)) = true ∧
      (sto.map (·.1)).all (fun nm => (getS sto' nm).isNone || ren (d.getD 999) nm == nm) = true ∧ K (putO (callSt st sto sto' mv (d.getD 999)) d (renD (d.getD 999) r))) : callG P GL (getC GL f os) st d K := by
  subst hds
  rw [Bool.and_eq_true, Bool.and_eq_true] at h2
  refine ⟨[], .inl ⟨sto, mv, R, h, h1, h2.1.1, h2.1.2, h2.2, fun r s hr => ?_⟩⟩
  obtain ⟨k1, k2, k3⟩ := k r s hr
  rw [List.all_eq_true] at k1 k2
  refine ⟨fun nm hm => ?_, fun nm hm hs => ?_, k3⟩
  · have := k1 nm hm
    rw [Bool.or_eq_true, Bool.and_eq_true] at this
    rcases this with e | ⟨e1, e2⟩
    · exact .inl e
    · exact .inr ⟨by show getS st.sto nm = none; simpa using e1, by simpa using e2⟩
  · have := k2 nm hm
    rw [Bool.or_eq_true] at this
    rcases this with e | e
    · cases hg : getS s nm <;> simp [hg] at e hs
    · simpa using e
/-- The next entry of a map, whichever it is. -/
theorem nxt_I {α : Type} {l : List α} {f : α → I × I} {c : Option (I × I)} {nm d : Nat} {st : St} {K : St → Prop} (h0 : l = [] → K (st.put d (.i (.tup [.bool false])))) (h1 : ∀ q (h : q < l.length), K ((st.setB nm (.iter (some (f l[q])) ((l.eraseIdx q).map f))).put d (.i (.tup [.bool true, (f l[q]).1, (f l[q]).2])))) :
    nxtB (some (.iter c (l.map f))) nm d st K := by
  refine ⟨fun e => h0 (List.map_eq_nil_iff.1 e), fun i hi => ?_⟩
  have hi' : i < l.length := by simpa using hi
  have := h1 i hi'
  have e : ∀ (l : List α) (i : Nat), (l.map f).eraseIdx i = (l.eraseIdx i).map f := fun l => by
    induction l with
    | nil => intro i; rfl
    | cons a l ih => intro i; cases i with
      | zero => rfl
      | succ i => simp [ih]
  rw [List.getElem_map, e]
  exact this
/-- What stands behind such a call. -/
theorem V27' :
    (∀ d e k rs, renB d (.rows e k rs) = .rows e k rs) ∧ (∀ d ls es, renB d (.map ls es) = .map ls es) ∧ (∀ d c r, renB d (.iter c r) = .iter c r) ∧ (∀ d x, renD d (.i x) = .i x) ∧ (∀ d, renD d .any = .any) := by
  and_intros <;> intros <;> rfl
def V27 := cj @callSt.eq_1 (cj @scrE.eq_1 (cj @scrE.eq_2 (cj @scrS.eq_1 (cj @scrS.eq_2 (cj @delSs.eq_1 (cj @delSs.eq_2 (cj @renS.eq_1 (cj @renS.eq_2 (cj @renB.eq_1 (cj @renD.eq_1 (cj @renR.eq_1 (cj @renR.eq_2 (cj @renR.eq_4 (cj @ren.eq_1 (cj @goneS.eq_1 @V27')))))))))))))))
end
/-! What simp need not look at. -/
@[congr] theorem ev_cg {a b c d e}  : ev a b c d e = ev a b c d e := rfl
@[congr] theorem evR_cg {a b c d e f} (h : e = f) : evR a b c d e = evR a b c d f := h ▸ rfl
@[congr] theorem evF_cg {a b c d e f g i j} (h : f = g)(k : i = j) : evF a b c d e f i = evF a b c d e g j := h ▸ k ▸ rfl
@[congr] theorem step_cg {a b c d e}  : step a b c d e = step a b c d e := rfl
@[congr] theorem gdV_cg {a b c d e f g i j l} (h : d = e) : gdV a b c d f g i j l = gdV a b c e f g i j l := h ▸ rfl
@[congr] theorem evD_cg {a b c d e f}  : evD a b c d e f = evD a b c d e f := rfl
@[congr] theorem evDR_cg {a b c d e f g} (h : f = g) : evDR a b c d e f = evDR a b c d e g := h ▸ rfl
@[congr] theorem stepD_cg {a b c d e f}  : stepD a b c d e f = stepD a b c d e f := rfl
@[congr] theorem gdD_cg {a b c d e f g i j l m} (h : d = e) : gdD a b c d f g i j l m = gdD a b c e f g i j l m := h ▸ rfl
@[congr] theorem pickE_cg {a b c d e f g i j} (h : a = b)(k : d = e)(H : f = g) : pickE a c d f i j = pickE b c e g i j := h ▸ k ▸ H ▸ rfl
@[congr] theorem nilsE_cg {a b c d e f g} (h : a = b) : nilsE a c d e f g = nilsE b c d e f g := h ▸ rfl
@[congr] theorem boxE_cg {a b c d e} (h : a = b) : boxE a c d e = boxE b c d e := h ▸ rfl
@[congr] theorem newE_cg {a b c d e f g} (h : a = b)(k : d = e) : newE a c d f g = newE b c e f g := h ▸ k ▸ rfl
@[congr] theorem newR_cg {a b c d e f g} (h : a = b) : newR a c d e f g = newR b c d e f g := h ▸ rfl
@[congr] theorem ownE_cg {a b c d e f g i j} (h : a = b)(k : f = g) : ownE a c d e f i j = ownE b c d e g i j := h ▸ k ▸ rfl
@[congr] theorem loadE_cg {a b c d e f g} (h : a = b) : loadE a c d e f g = loadE b c d e f g := h ▸ rfl
@[congr] theorem loadB_cg {a b c d e f g i j} (h : a = b)(k : d = e) : loadB a c d f g i j = loadB b c e f g i j := h ▸ k ▸ rfl
@[congr] theorem loadR_cg {a b c d e f g i j l m n o} (h : a = b)(k : d = e)(H : f = g)(I : i = j) : loadR a c d f i l m n o = loadR b c e g j l m n o := h ▸ k ▸ H ▸ I ▸ rfl
@[congr] theorem storeE_cg {a b c d e f g} (h : a = b)(k : c = d) : storeE a c e f g = storeE b d e f g := h ▸ k ▸ rfl
@[congr] theorem storeB_cg {a b c d e f g i j l} (h : a = b)(k : d = e)(H : g = i) : storeB a c d f g j l = storeB b c e f i j l := h ▸ k ▸ H ▸ rfl
@[congr] theorem storeR_cg {a b c d e f g i j l m n o p} (h : a = b)(k : d = e)(H : f = g)(I : i = j)(h0 : m = n) : storeR a c d f i l m o p = storeR b c e g j l n o p := h ▸ k ▸ H ▸ I ▸ h0 ▸ rfl
@[congr] theorem stfrzE_cg {a b c d e f g} (h : a = b)(k : c = d) : stfrzE a c e f g = stfrzE b d e f g := h ▸ k ▸ rfl
@[congr] theorem stfrzB_cg {a b c d e f g i j l} (h : a = b)(k : d = e)(H : g = i) : stfrzB a c d f g j l = stfrzB b c e f i j l := h ▸ k ▸ H ▸ rfl
@[congr] theorem faE_cg {a b c d e f g} (h : a = b)(k : d = e) : faE a c d f g = faE b c e f g := h ▸ k ▸ rfl
@[congr] theorem fldE_cg {a b c d e f g i j} (h : a = b)(k : d = e) : fldE a c d f g i j = fldE b c e f g i j := h ▸ k ▸ rfl
@[congr] theorem iaE_cg {a b c d e f g i} (h : a = b)(k : c = d) : iaE a c e f g i = iaE b d e f g i := h ▸ k ▸ rfl
@[congr] theorem iaR_cg {a b c d e f g i j l m n o p} (h : a = b)(k : g = i)(H : j = l)(I : m = n) : iaR a c d e f g j m o p = iaR b c d e f i l n o p := h ▸ k ▸ H ▸ I ▸ rfl
@[congr] theorem idxE_cg {a b c d e f g} (h : a = b)(k : c = d) : idxE a c e f g = idxE b d e f g := h ▸ k ▸ rfl
@[congr] theorem aidxE_cg {a b c d e f g i j l} (h : a = b)(k : c = d) : aidxE a c e f g i j l = aidxE b d e f g i j l := h ▸ k ▸ rfl
@[congr] theorem binE_cg {a b c d e f g i} (h : b = c)(k : d = e) : binE a b d f g i = binE a c e f g i := h ▸ k ▸ rfl
@[congr] theorem shE_cg {a b c d e f g i} (h : b = c)(k : d = e) : shE a b d f g i = shE a c e f g i := h ▸ k ▸ rfl
@[congr] theorem eqsE_cg {a b c d e f g i j} (h : c = d)(k : e = f) : eqsE a b c e g i j = eqsE a b d f g i j := h ▸ k ▸ rfl
@[congr] theorem eqsO_cg {a b c d e f} (h : a = b) : eqsO a c d e f = eqsO b c d e f := h ▸ rfl
@[congr] theorem eqbE_cg {a b c d e f g i} (h : b = c)(k : d = e) : eqbE a b d f g i = eqbE a c e f g i := h ▸ k ▸ rfl
@[congr] theorem isnilE_cg {a b c d e f g} (h : c = d) : isnilE a b c e f g = isnilE a b d e f g := h ▸ rfl
@[congr] theorem unE_cg {a b c d e f} (h : b = c) : unE a b d e f = unE a c d e f := h ▸ rfl
@[congr] theorem lensE_cg {a b c d e} (h : a = b) : lensE a c d e = lensE b c d e := h ▸ rfl
@[congr] theorem lenlE_cg {a b c d e} (h : a = b) : lenlE a c d e = lenlE b c d e := h ▸ rfl
@[congr] theorem extE_cg {a b c d e f} (h : a = b) : extE a c d e f = extE b c d e f := h ▸ rfl
@[congr] theorem mkfnE_cg {a b c d e f g i} (h : b = c)(k : d = e) : mkfnE a b d f g i = mkfnE a c e f g i := h ▸ k ▸ rfl
@[congr] theorem maxE_cg {a b c d e f g i} (h : b = c)(k : d = e) : maxE a b d f g i = maxE a c e f g i := h ▸ k ▸ rfl
@[congr] theorem convE_cg {a b c d e f} (h : b = c) : convE a b d e f = convE a c d e f := h ▸ rfl
@[congr] theorem appE_cg {a b c d e f g i j l} (h : a = b)(k : c = d) : appE a c e f g i j l = appE b d e f g i j l := h ▸ k ▸ rfl
@[congr] theorem appB_cg {a b c d e f g i j l m n o p q r} (h : a = b)(k : e = f)(H : g = i)(I : o = p) : appB a c d e g j l m n o q r = appB b c d f i j l m n p q r := h ▸ k ▸ H ▸ I ▸ rfl
@[congr] theorem slcE_cg {a b c d e f g i j l} (h : a = b)(k : c = d)(H : e = f) : slcE a c e g i j l = slcE b d f g i j l := h ▸ k ▸ H ▸ rfl
@[congr] theorem slcO_cg {a b c d e f g} (h : a = b)(k : c = d)(H : e = f) : slcO a c e g = slcO b d f g := h ▸ k ▸ H ▸ rfl
@[congr] theorem slcR_cg {a b c d e f g i j l m n o p q r} (h : a = b)(k : e = f)(H : g = i)(I : m = n)(h0 : o = p) : slcR a c d e g j l m o q r = slcR b c d f i j l n p q r := h ▸ k ▸ H ▸ I ▸ h0 ▸ rfl
@[congr] theorem slc0E_cg {a b c d e f g i j} (h : a = b)(k : c = d) : slc0E a c e f g i j = slc0E b d e f g i j := h ▸ k ▸ rfl
@[congr] theorem sslcE_cg {a b c d e f g i j} (h : a = b)(k : c = d)(H : e = f) : sslcE a c e g i j = sslcE b d f g i j := h ▸ k ▸ H ▸ rfl
@[congr] theorem mkmapE_cg {a b c d e f} (h : a = b) : mkmapE a c d e f = mkmapE b c d e f := h ▸ rfl
@[congr] theorem lookE_cg {a b c d e f g i j l} (h : a = b)(k : c = d) : lookE a c e f g i j l = lookE b d e f g i j l := h ▸ k ▸ rfl
@[congr] theorem lookB_cg {a b c d e f g i j l} (h : a = b)(k : d = e) : lookB a c d f g i j l = lookB b c e f g i j l := h ▸ k ▸ rfl
@[congr] theorem mupdE_cg {a b c d e f g i j} (h : a = b)(k : c = d)(H : e = f) : mupdE a c e g i j = mupdE b d f g i j := h ▸ k ▸ H ▸ rfl
@[congr] theorem mupdB_cg {a b c d e f g i j l} (h : a = b)(k : e = f)(H : g = i) : mupdB a c d e g j l = mupdB b c d f i j l := h ▸ k ▸ H ▸ rfl
@[congr] theorem lenmE_cg {a b c d e} (h : a = b) : lenmE a c d e = lenmE b c d e := h ▸ rfl
@[congr] theorem lenmB_cg {a b c d e} (h : a = b) : lenmB a c d e = lenmB b c d e := h ▸ rfl
@[congr] theorem rngE_cg {a b c d e f g} (h : a = b)(k : c = d) : rngE a c e f g = rngE b d e f g := h ▸ k ▸ rfl
@[congr] theorem nxtE_cg {a b c d e} (h : a = b) : nxtE a c d e = nxtE b c d e := h ▸ rfl
@[congr] theorem nxtB_cg {a b c d e f} (h : a = b) : nxtB a c d e f = nxtB b c d e f := h ▸ rfl
@[congr] theorem entE_cg {a b c d e} (h : a = b) : entE a c d e = entE b c d e := h ▸ rfl
@[congr] theorem entB_cg {a b c d e} (h : a = b) : entB a c d e = entB b c d e := h ▸ rfl
@[congr] theorem iaaE_cg {a b c d e f g i j} (h : a = b)(k : c = d) : iaaE a c e f g i j = iaaE b d e f g i j := h ▸ k ▸ rfl
@[congr] theorem mkifE_cg {a b c d e f} (h : a = b) : mkifE a c d e f = mkifE b c d e f := h ▸ rfl
@[congr] theorem callLi_cg {P : Program} {G : List (Nat × List I)} {a b m x y s t e f} (h : a = b) (k : x = y) (H : s = t) : callLi P G a m x s e f = callLi P G b m y t e f := h ▸ k ▸ H ▸ rfl
@[congr] theorem callLm_cg {P : Program} {G : List (Nat × List I)} {a b c x y s t e f} (h : a = b) (k : x = y) (H : s = t) : callLm P G a c x s e f = callLm P G b c y t e f := h ▸ k ▸ H ▸ rfl
@[congr] theorem bytesE_cg {a b c d e} (h : a = b) : bytesE a c d e = bytesE b c d e := h ▸ rfl
@[congr] theorem ofbE_cg {a b c d e} (h : a = b) : ofbE a c d e = ofbE b c d e := h ▸ rfl
@[congr] theorem ofbO_cg {a b c d e} (h : a = b) : ofbO a c d e = ofbO b c d e := h ▸ rfl
@[congr] theorem callG_cg {a b c d e f}  : callG a b c d e f = callG a b c d e f := rfl
@[congr] theorem callL_cg {a b c d e f g i j} (h : d = e)(k : f = g) : callL a b c d f i j = callL a b c e g i j := h ▸ k ▸ rfl
@[congr] theorem callLv_cg {a b c d e f g i j l} (h : c = d)(k : e = f)(H : g = i) : callLv a b c e g j l = callLv a b d f i j l := h ▸ k ▸ H ▸ rfl
@[congr] theorem dregE_cg {a b c d e f g i} (h : g = i) : dregE a b c d e f g = dregE a b c d e f i := h ▸ rfl
@[congr] theorem postK_cg {a b c d} (h : c = d) : postK a b c = postK a b d := h ▸ rfl
@[congr] theorem blockK_cg {a b c d e} (h : d = e) : blockK a b c d = blockK a b c e := h ▸ rfl
@[congr] theorem stopK_cg {a b c d e f} (h : e = f) : stopK a b c d e = stopK a b c d f := h ▸ rfl
@[congr] theorem roundI_cg {a b c d e f g i} (h : g = i) : roundI a b c d e f g = roundI a b c d e f i := h ▸ rfl
@[congr] theorem retP_cg {a b c} (h : b = c) : retP a b = retP a c := h ▸ rfl
@[congr] theorem bodyK_cg {a b c d e f g} (h : f = g) : bodyK a b c d e f = bodyK a b c d e g := h ▸ rfl
@[congr] theorem resV_cg {a b c d e}  : resV a b c d e = resV a b c d e := rfl
@[congr] theorem storeD_cg {a b c d e f g i} (h : b = c)(k : d = e) : storeD a b d f g i = storeD a c e f g i := h ▸ k ▸ rfl
@[congr] theorem slcK1_cg {a b c d e f g i j} (h : a = b)(k : f = g)(H : i = j) : slcK1 a c d e f i = slcK1 b c d e g j := h ▸ k ▸ H ▸ rfl
@[congr] theorem slcK2_cg {a b c d e f g i j l m} (h : c = d)(k : i = j)(H : l = m) : slcK2 a b c e f g i l = slcK2 a b d e f g j m := h ▸ k ▸ H ▸ rfl
@[congr] theorem slcK3_cg {a b c d e f g i j} (h : a = b)(k : f = g)(H : i = j) : slcK3 a c d e f i = slcK3 b c d e g j := h ▸ k ▸ H ▸ rfl
@[congr] theorem evT_cg {a b c d e}  : evT a b c d e = evT a b c d e := rfl
@[congr] theorem dregT_cg {a b c d e f g i} (h : g = i) : dregT a b c d e f g = dregT a b c d e f i := h ▸ rfl
@[congr] theorem W2_cg {a b c d e f} (h : e = f) : W2 a b c d e = W2 a b c d f := h ▸ rfl
@[congr] theorem prnK_cg {a b c d e f} (h : e = f) : prnK a b c d e = prnK a b c d f := h ▸ rfl
@[congr] theorem condJ_cg {a b c d e f g i} (h : c = d) : condJ a b c e f g i = condJ a b d e f g i := h ▸ rfl
@[congr] theorem roundH_cg {a b c d e f g i j} (h : i = j) : @roundH a b c d e f g i = @roundH a b c d e f g j := h ▸ rfl
@[congr] theorem preN_cg {a b c}  : preN a b c = preN a b c := rfl
/-! The code of a function out of what the compiler gives: what is kept between its pieces is what is read behind. -/
def useI : Ins → List O
  | .box _ x | .boxm _ x | .isnil _ _ _ x | .slc0 _ _ _ x | .rng _ x | .nxt _ x | .ent _ x | .cap _ x | .clr _ x _ | .mksl _ _ _ _ _ x => [x]
  | .stfrz x y _ | .app _ _ _ _ x y | .cpy _ x y _ _ | .appz _ _ _ _ x y _ | .lookg _ x y _ _ _ | .ment _ x y _ _ _ _ => [x, y]
  | .bsl _ _ _ ps | .bso _ _ _ ps | .calln _ _ _ _ ps => ps
  | .mupdg x q v _ | .ests x q v => [x, q, v]
  | .slc3 _ x lo y z => x :: (lo.toList ++ [y, z])
  | i => opsOf i
def insN (x : Nat) : List Nat → List Nat
  | [] => [x]
  | y :: r => if Nat.blt x y then x :: y :: r else if Nat.beq x y then y :: r else y :: insN x r
def uniN : List Nat → List Nat → List Nat
  | [], l => l
  | x :: r, l => uniN r (insN x l)
def delN (x : Nat) : List Nat → List Nat
  | [] => []
  | y :: r => if Nat.beq x y then r else y :: delN x r
def hasN (x : Nat) : List Nat → Bool
  | [] => false
  | y :: r => Nat.beq x y || hasN x r
def addO : List O → List Nat → List Nat
  | [], l => l
  | .t n :: r, l => addO r (insN n l)
  | _ :: r, l => addO r l
def liveG : List GI → List Nat → List Nat
  | [], l => l
  | g :: r, l => addO (useI g.ins) (uniN (guse g) (match g.ins.dst with | some d => delN d (liveG r l) | none => liveG r l))
def getK (k : Nat) : List (Nat × List Nat) → List Nat
  | [] => []
  | p :: r => if Nat.beq p.1 k then p.2 else getK k r
def fixL (f : List Nat → List Nat) : Nat → List Nat → List Nat
  | 0, l => l
  | n + 1, l => fixL f n (uniN (f l) l)
/-- What is read from here on; what is read at the exits. -/
def liveJ : IR → List (Nat × List Nat) → List Nat
  | .skip, K => getK 0 K
  | .ret, K => getK 1 K
  | .exit i, K => getK (i + 2) K
  | .reg gs, K => liveG gs (getK 0 K)
  | .dreg _ gs _, K => liveG gs (getK 0 K)
  | .cut a b, K => liveJ a ((0, liveJ b K) :: K)
  | .cond c a b, K => addO [c] (uniN (liveJ a K) (liveJ b K))
  | .block i c, K => liveJ c ((i + 2, getK 0 K) :: K)
  | .loop c, K => fixL (fun l => liveJ c ((0, l) :: K)) 3 []
  | .rf _ og ps a b, K => addO [og] (uniN ((liveJ a [(0, liveJ b [])]).filter fun x => !hasN x ps) (K.foldr (fun p l => uniN p.2 l) []))
def condC : IR → Bool
  | .cond _ _ _ => true
  | .cut a b => condC a || condC b
  | .block _ c => condC c
  | _ => false
def wantI : Ins → List O
  | .call _ _ ps | .bsl _ _ _ ps | .bsn _ _ _ ps | .bso _ _ _ ps | .callo _ _ ps => ps
  | .callv _ f ps => f :: ps
  | .build _ _ ps => ps.map (·.2.2)
  | .ofb _ x | .app _ _ _ _ _ x => [x]
  | .mupd _ q v _ => [q, v]
  | _ => []
/-- The slots that an open region wants as data. -/
def wantS (i : Ins) (w : List Nat) : List Nat := addO (wantI i) (match i.dst with
  | some d => if hasN d w then (match i with | .mov _ x => addO [x] (delN d w) | _ => delN d w) else w
  | none => w)
def wantG : List GI → List Nat
  | [] => []
  | g :: r => wantS g.ins (wantG r)
def genJ : IR → List (Nat × List Nat) → J
  | .skip, _ => .skip
  | .ret, _ => .ret
  | .exit i, _ => .exit i
  | .reg gs, _ => .rg gs
  | .dreg sn gs post, _ => .dr sn ((wantG gs).map .t) gs post
  | .cut a b, K => (if condC a then J.ct else J.sq) (liveJ b K) (genJ a ((0, liveJ b K) :: K)) (genJ b K)
  | .cond c a b, K => .cond c (genJ a K) (genJ b K)
  | .block i c, K => .block i (genJ c ((i + 2, getK 0 K) :: K))
  | .loop c, K => .lp (genJ c ((0, fixL (fun l => liveJ c ((0, l) :: K)) 3 []) :: K))
  | .rf n og ps a b, _ => .rf n og ps (genJ a [(0, liveJ b [])]) (genJ b [])
/-- A function: slots, what is compiled as memory, results, code. -/
structure FD where
  n : Nat
  a : List Nat
  b : List (Nat × Nat)
  l : List RV
  c : J
def mkF (P : Program) (GL : List (Nat × List I)) (f : Func) (a : List Nat) (b : List (Nat × Nat)) (h : List (Nat × List (List Nat))) : Option FD :=
  match f.results.toList.mapM (compRV P), f.body.bind (comp P GL f.ntmps a false b h) with
  | some l, some ir => some ⟨f.ntmps, a, b, l, genJ ir (let r := l.foldr (fun x l => insN (match x with | .tmp t => t | .cell t _ _ => t) l) []; [(0, r), (1, r)])⟩
  | _, _ => none
end Go.Dl
