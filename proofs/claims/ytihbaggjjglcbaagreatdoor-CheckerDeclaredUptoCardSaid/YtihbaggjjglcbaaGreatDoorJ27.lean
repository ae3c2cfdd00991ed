/-
  What the laws of this seat share, part 27: no statement of its own.
-/
import Derived.Test.YtihbaggjjglcbaaGreatDoorJ26
set_option linter.unusedVariables false
set_option linter.unusedSimpArgs false

section
/-
  A data-level logic, second edition: code by tables; what is kept from piece to piece; what simp need not look at.
-/
set_option linter.unusedVariables false
set_option linter.unusedSimpArgs false
namespace Go.Dl
open Go Go.RowKit

/-- Code, with the slots that are kept between pieces. -/
inductive J where
  | skip
  | rg (t : Nat → List GI) (k : Nat)
  | dr (sn : List Nat) (fz : List O) (t : Nat → List GI) (k : Nat) (post : List Nat)
  | sq (ks : List Nat) (a b : J)
  | ct (ks : List Nat) (a b : J)
  | cond (c : O) (a b : J)
  | block (id : Nat) (c : J)
  | lp (t : Nat → J) (k : Nat)
  | exit (id : Nat)
  | ret
def J.ir : J → IR
  | .skip => .skip
  | .rg t k => .reg (t k)
  | .dr sn _ t k post => .dreg sn (t k) post
  | .sq _ a b => .cut a.ir b.ir
  | .ct _ a b => .cut a.ir b.ir
  | .cond c a b => .cond c a.ir b.ir
  | .block id c => .block id c.ir
  | .lp t k => .loop (t k).ir
  | .exit id => .exit id
  | .ret => .ret
def prnK (ks : List Nat) (W : (Exit → St → Prop) → St → Prop) (K : Exit → St → Prop) : Exit → St → Prop
  | .normal, s => W K (prn ks s)
  | e, s => K e s
section
variable (P : Program) (GL : List (Nat × List I))
def W2 : J → (Exit → St → Prop) → St → Prop
  | .skip, K, st => K .normal st
  | .rg t k, K, st => ev P GL (t k) st (K .normal)
  | .dr sn _ t k post, K, st => ∃ l, evD P GL sn (t k) (frzNs l st) fun s => K .normal (frzNs (slotN post s) s)
  | .sq ks a b, K, st => W2 a (prnK ks (W2 b) K) st
  | .ct _ a b, K, st => W2 a (cutK (W2 b) K) st
  | .cond c a b, K, st => match opv GL st c with
    | .i (.bool t) => br t (W2 a K st) (W2 b K st)
    | _ => False
  | .block id c, K, st => W2 c (blockK id K) st
  | .lp t k, K, st => ∃ (ι : Type) (F : ι → St) (m : ι → Nat) (i₀ : ι), Sub (F i₀) st ∧ ∀ i, W2 (t k) (loopK F m (m i) K) (F i)
  | .exit id, K, st => K (.exit id) st
  | .ret, K, st => K .ret st
def evT (gs : List GI) (st : St) (K : St → Prop) : Prop := ev P GL gs st K
def dregT (sn : List Nat) (gs : List GI) (post : List Nat) (K : Exit → St → Prop) (st : St) : Prop := dregE P GL sn gs post K st
def condJ (v : D) (a c : J) (K : Exit → St → Prop) (st : St) : Prop := match v with
  | .i (.bool t) => br t (W2 P GL a K st) (W2 P GL c K st)
  | _ => False
end
section
variable {P : Program} {GL : List (Nat × List I)}
theorem W2_mono : ∀ (c : J) {st : St} {K K' : Exit → St → Prop}, W2 P GL c K st → (∀ e s, K e s → K' e s) → W2 P GL c K' st
  | .skip, st, K, K', h, hk => hk _ _ h
  | .rg t k, st, K, K', h, hk => ev_mono h (hk _)
  | .dr sn _ t k post, st, K, K', h, hk => by obtain ⟨l, h⟩ := h; exact ⟨l, evD_mono h (fun s hs => hk _ _ hs)⟩
  | .sq ks a b, st, K, K', h, hk => W2_mono a h (fun e s hs => by
      cases e with
      | normal => exact W2_mono b hs hk
      | _ => exact hk _ _ hs)
  | .ct _ a b, st, K, K', h, hk => W2_mono a h (fun e s hs => by
      cases e with
      | normal => exact hs.elim (fun q => .inl (W2_mono b q hk)) (fun q => q.elim (fun ⟨S, q1, q2⟩ => .inr (.inl ⟨S, q1, W2_mono b q2 hk⟩)) (fun ⟨ks, q⟩ => .inr (.inr ⟨ks, W2_mono b q hk⟩)))
      | _ => exact hk _ _ hs)
  | .cond c a b, st, K, K', h, hk => by
    simp only [W2] at h ⊢
    split at h
    · exact br_mono h (fun hh => W2_mono a hh hk) (fun hh => W2_mono b hh hk)
    · exact h
  | .block id c, st, K, K', h, hk => W2_mono c h (fun e s hs => by
      cases e with
      | exit id' => simp only [blockK] at hs ⊢; split at hs; rename_i e; rw [if_pos e]; exact hk _ _ hs; rename_i e; rw [if_neg e]; exact hk _ _ hs
      | _ => exact hk _ _ hs)
  | .lp t k, st, K, K', h, hk => by
    obtain ⟨ι, F, m, i0, h0, hr⟩ := h
    refine ⟨ι, F, m, i0, h0, fun i => W2_mono (t k) (hr i) (fun e s hs => ?_)⟩
    cases e with
    | normal => exact hs
    | _ => exact hk _ _ hs
  | .exit id, st, K, K', h, hk => hk _ _ h
  | .ret, st, K, K', h, hk => hk _ _ h
theorem W_of_W2 : ∀ (c : J) {st : St} {K : Exit → St → Prop}, W2 P GL c K st → W P GL c.ir K st
  | .skip, st, K, h => h
  | .rg t k, st, K, h => h
  | .dr sn _ t k post, st, K, h => h
  | .sq ks a b, st, K, h => W_mono a.ir (W_of_W2 a h) (fun e s hs => by
      cases e with
      | normal => exact .inr (.inr ⟨ks, W_of_W2 b hs⟩)
      | _ => exact hs)
  | .ct _ a b, st, K, h => W_mono a.ir (W_of_W2 a h) (fun e s hs => by
      cases e with
      | normal => exact hs.elim (fun q => .inl (W_of_W2 b q)) (fun q => q.elim (fun ⟨S, q1, q2⟩ => .inr (.inl ⟨S, q1, W_of_W2 b q2⟩)) (fun ⟨ks, q⟩ => .inr (.inr ⟨ks, W_of_W2 b q⟩)))
      | _ => exact hs)
  | .cond c a b, st, K, h => by
    simp only [W2] at h
    simp only [J.ir, W]
    split at h
    · rename_i e; rw [e]; exact br_mono h (fun hh => W_of_W2 a hh) (fun hh => W_of_W2 b hh)
    · exact h.elim
  | .block id c, st, K, h => W_of_W2 c h
  | .lp t k, st, K, h => by
    obtain ⟨ι, F, m, i0, h0, hr⟩ := h
    exact ⟨ι, F, m, i0, h0, fun i => W_of_W2 (t k) (hr i)⟩
  | .exit id, st, K, h => h
  | .ret, st, K, h => h

theorem condJ_intro {b : Bool} {a c : J} {K : Exit → St → Prop} {st : St} (h : b = true → condJ P GL (.i (.bool true)) a c K st) (k : b = false → condJ P GL (.i (.bool false)) a c K st) : condJ P GL (.i (.bool b)) a c K st := by
  cases b
  · exact k rfl
  · exact h rfl
theorem V23 (K : Exit → St → Prop) (st : St) : (W2 P GL .skip K st = K .normal st) ∧ (∀ t k, W2 P GL (.rg t k) K st = evT P GL (t k) st (K .normal)) ∧ (∀ ks a b, W2 P GL (.sq ks a b) K st = W2 P GL a (prnK ks (W2 P GL b) K) st) ∧ (∀ c a b, W2 P GL (.cond c a b) K st = condJ P GL (opv GL st c) a b K st) ∧
    (∀ id c, W2 P GL (.block id c) K st = W2 P GL c (blockK id K) st) ∧ (∀ id, W2 P GL (.exit id) K st = K (.exit id) st) ∧ (W2 P GL .ret K st = K .ret st) ∧ (∀ a c, condJ P GL (.i (.bool true)) a c K st = W2 P GL a K st) ∧ (∀ a c, condJ P GL (.i (.bool false)) a c K st = W2 P GL c K st) := by
  and_intros <;> intros <;> first | rfl | (simp [condJ, br]; done)
theorem V25 : (∀ e, snap e [] = []) ∧ (∀ e s r, snap e (s :: r) = (s, getE e s) :: snap e r) ∧ (∀ ks W K e s, prnK ks W K .normal ⟨e, s⟩ = W K ⟨.l (snap e ks), s⟩) ∧ (∀ ks W K id s, prnK ks W K (.exit id) s = K (.exit id) s) ∧ (∀ ks W K s, prnK ks W K .ret s = K .ret s) ∧
    (∀ ks e s, prn ks ⟨e, s⟩ = ⟨.l (snap e ks), s⟩) := by
  and_intros <;> intros <;> rfl
theorem V26 (st : St) : (∀ g r Q, evT P GL (g :: r) st Q = ev P GL (g :: r) st Q) ∧ (∀ Q, evT P GL [] st Q = Q st) := ⟨fun _ _ _ => rfl, fun _ => rfl⟩
/-- An open region: what its instructions want as data is given up first. -/
def drJ (sn : List Nat) (gs : List GI) (post : List Nat) (K : Exit → St → Prop) (st : St) : Prop := dregE P GL sn gs post K (frzNs (dN GL gs st) st)
theorem drJ_I {sn : List Nat} {fz : List O} {t : Nat → List GI} {k : Nat} {gs : List GI} {post : List Nat} {K : Exit → St → Prop} {st : St} (hg : t k = gs) (h : dregE P GL sn gs post K (frzNs (oN GL st fz ++ dN GL gs st) st)) : W2 P GL (.dr sn fz t k post) K st := by
  subst hg; exact ⟨_, h⟩
theorem ct_I {ks : List Nat} {a b : J} {K : Exit → St → Prop} {st : St} (h : W2 P GL a (prnK ks (W2 P GL b) K) st) : W2 P GL (.ct ks a b) K st :=
  W2_mono a h fun e s hs => by
    cases e with
    | normal => exact .inr (.inr ⟨ks, hs⟩)
    | _ => exact hs
/-- A round: the ghost goes on to one that is less. -/
def roundH {ι : Type} (F : ι → St) (I : ι → Prop) (m : ι → Nat) (i : ι) (K : Exit → St → Prop) : Exit → St → Prop
  | .normal, s => ∃ i', I i' ∧ m i' < m i ∧ Sub (F i') s
  | e, s => K e s
theorem V24 (K : Exit → St → Prop) (st : St) : (∀ (ι : Type) (F : ι → St) I m i, roundH F I m i K .normal st = ∃ i', I i' ∧ m i' < m i ∧ Sub (F i') st) ∧ (∀ (ι : Type) (F : ι → St) I m i id, roundH F I m i K (.exit id) st = K (.exit id) st) ∧ (∀ (ι : Type) (F : ι → St) I m i, roundH F I m i K .ret st = K .ret st) := by
  and_intros <;> intros <;> rfl
/-- A loop by a ghost of any kind: what is kept, what turns. -/
theorem loopT {t : Nat → J} {q : Nat} {body : J} {K : Exit → St → Prop} {e : Env} {s : List (Nat × Blk)} {ι : Type} (hq : t q = body) (ks : List Nat) {bs : List (Nat × D)} (hb : snap e ks = bs) (C : ι → List (Nat × D)) (B : ι → List (Nat × Blk)) (I : ι → Prop) (m : ι → Nat) (k : ι)
    (hi : I k) (h0 : Sub ⟨.l (C k ++ bs), B k⟩ ⟨e, s⟩) (round : ∀ i, I i → W2 P GL body (roundH (fun i => ⟨.l (C i ++ bs), B i⟩) I m i K) ⟨.l (C i ++ bs), B i⟩) : W2 P GL (.lp t q) K ⟨e, s⟩ := by
  subst hq
  refine ⟨{i : ι // I i}, fun i => ⟨.l (C i.1 ++ bs), B i.1⟩, fun i => m i.1, ⟨k, hi⟩, h0, fun i => W2_mono _ (round i.1 i.2) ?_⟩
  intro e s h
  cases e with
  | normal => obtain ⟨j, h1, h2, h3⟩ := h; exact ⟨⟨j, h1⟩, h2, h3⟩
  | _ => exact h
/-- A loop with a counter. -/
theorem loopS {t : Nat → J} {q : Nat} {body : J} {K : Exit → St → Prop} {e : Env} {s : List (Nat × Blk)} (hq : t q = body) (ks : List Nat) {bs : List (Nat × D)} (hb : snap e ks = bs) (C : Nat → List (Nat × D)) (B : Nat → List (Nat × Blk)) (I : Nat → Prop) (n k : Nat)
    (hk : k ≤ n) (hi : I k) (h0 : Sub ⟨.l (C k ++ bs), B k⟩ ⟨e, s⟩) (round : ∀ i, i ≤ n → I i → W2 P GL body (roundI (fun i => ⟨.l (C i ++ bs), B i⟩) I n i K) ⟨.l (C i ++ bs), B i⟩) : W2 P GL (.lp t q) K ⟨e, s⟩ :=
  loopT hq ks hb C B (fun i => i ≤ n ∧ I i) (fun i => n - i) k ⟨hk, hi⟩ h0 fun i hh => W2_mono _ (round i hh.1 hh.2) fun e s h => by
    cases e with
    | normal => exact ⟨i + 1, ⟨h.1, h.2.1⟩, by show n - (i + 1) < n - i; have := h.1; omega, h.2.2⟩
    | _ => exact h
/-- A join: what is kept, what the ways make different. -/
theorem cutS {ks0 : List Nat} {a b : J} {K : Exit → St → Prop} {e : Env} {s : List (Nat × Blk)} (ks : List Nat) {bs : List (Nat × D)} (hb : snap e ks = bs) (C : List (Nat × D)) (B : List (Nat × Blk)) (φ : Prop) (ha : W2 P GL a (stopK φ ⟨.l (C ++ bs), B⟩ K) ⟨e, s⟩) (h : φ → W2 P GL b K ⟨.l (C ++ bs), B⟩) :
    W2 P GL (.ct ks0 a b) K ⟨e, s⟩ :=
  W2_mono a ha fun e s hs => by
    cases e with
    | normal => exact .inr (.inl ⟨_, hs.2, h hs.1⟩)
    | _ => exact hs
/-- A contract out of code. -/
theorem MC_of_J {n : Nat} {sto : List (Nat × Blk)} {f : FuncId} {fn : Func} {mu : List Nat} {rt : List (Nat × Nat)} {c c' : J} {args : List D} {mv : List Nat} {R : D → List (Nat × Blk) → Prop} {rs : List RV} (hf : P.funcs[f]? = some fn) (hname : (fn.name != "runtime.NumGoroutine") = true)
    (hn : fn.ntmps = n) (hargs : Nat.ble args.length n = true) (h999 : Nat.ble n 999 = true) (hbc : fn.body.bind (comp P GL n mu rt) = some c.ir) (hrs : fn.results.toList.mapM (compRV P) = some rs)
    (hpin : ((sto.map (·.1)).all fun m => (Nat.ble 5000 m && Nat.blt m 5500) || mv.contains m) = true) (hc : c = c')
    (hw : W2 P GL c' (bodyK rs (sto.map (·.1)) mv R) ⟨.l (env0 0 args), sto⟩) : MC P GL f args sto mv R :=
  MC_of_W hf hname hn hargs h999 hbc hrs hpin (W_of_W2 c (hc ▸ hw))
end
section
variable {P : Program} {GL : List (Nat × List I)}
/-- A call that is handed memory. -/
theorem callG_M {f : FuncId} {os : List O} {st : St} {d : Option Nat} {K : St → Prop} {ds : List D} {sto : List (Nat × Blk)} {mv : List Nat} {R : D → List (Nat × Blk) → Prop} (h : MC P GL f ds sto mv R) (hds : os.map (opv GL st) = ds) (h1 : subS sto st.sto)
    (h2 : (clS sto sto && (ds.all fun x => inS sto x.nms) && (mv.all fun m => Nat.blt m 5000 || Nat.ble 5500 m)) = true) (k : ∀ r sto', R r sto' → ((renS (d.getD 999) sto').map (·.1)).all (fun nm => (getS sto nm).isSome || ((getS st.sto nm).isNone && Nat.blt nm 5000)) = true ∧
      (sto.map (·.1)).all (fun nm => (getS sto' nm).isNone || ren (d.getD 999) nm == nm) = true ∧ K (putO (callSt st sto sto' mv (d.getD 999)) d (renD (d.getD 999) r))) : callG P GL (getC GL f os) st d K := by
  subst hds
  rw [Bool.and_eq_true, Bool.and_eq_true] at h2
  refine ⟨[], .inl ⟨sto, mv, R, h, h1, h2.1.1, h2.1.2, h2.2, fun r s hr => ?_⟩⟩
  obtain ⟨k1, k2, k3⟩ := k r s hr
  rw [List.all_eq_true] at k1 k2
  refine ⟨fun nm hm => ?_, fun nm hm hs => ?_, k3⟩
  · have := k1 nm hm
    rw [Bool.or_eq_true, Bool.and_eq_true] at this
    rcases this with e | ⟨e1, e2⟩
    · exact .inl e
    · exact .inr ⟨by show getS st.sto nm = none; simpa using e1, by simpa using e2⟩
  · have := k2 nm hm
    rw [Bool.or_eq_true] at this
    rcases this with e | e
    · cases hg : getS s nm <;> simp [hg] at e hs
    · simpa using e
/-- The next entry of a map, whichever it is. -/
theorem nxt_I {α : Type} {l : List α} {f : α → I × I} {c : Option (I × I)} {nm d : Nat} {st : St} {K : St → Prop} (h0 : l = [] → K (st.put d (.i (.tup [.bool false])))) (h1 : ∀ q (h : q < l.length), K ((st.setB nm (.iter (some (f l[q])) ((l.eraseIdx q).map f))).put d (.i (.tup [.bool true, (f l[q]).1, (f l[q]).2])))) :
    nxtB (some (.iter c (l.map f))) nm d st K := by
  refine ⟨fun e => h0 (List.map_eq_nil_iff.1 e), fun i hi => ?_⟩
  have hi' : i < l.length := by simpa using hi
  have := h1 i hi'
  have e : ∀ (l : List α) (i : Nat), (l.map f).eraseIdx i = (l.eraseIdx i).map f := fun l => by
    induction l with
    | nil => intro i; rfl
    | cons a l ih => intro i; cases i with
      | zero => rfl
      | succ i => simp [ih]
  rw [List.getElem_map, e]
  exact this
/-- What stands behind such a call. -/
theorem V27 : (∀ st sto sto' mv d, callSt st sto sto' mv d = ⟨scrE (goneS sto sto' mv) st.env, renS d sto' ++ scrS (goneS sto sto' mv) (delSs st.sto (sto.map (·.1)))⟩) ∧ (∀ e, scrE [] e = e) ∧ (∀ nm r e, scrE (nm :: r) e = scrE r (.sb nm (.iter none []) e)) ∧ (∀ s, scrS [] s = s) ∧ (∀ nm r s, scrS (nm :: r) s = scrS r (sbS nm (.iter none []) s)) ∧
    (∀ s, delSs s [] = s) ∧ (∀ s nm r, delSs s (nm :: r) = delSs (delS s nm) r) ∧ (∀ d, renS d [] = []) ∧ (∀ d m x r, renS d ((m, x) :: r) = (ren d m, renB d x) :: renS d r) ∧ (∀ d e k rs, renB d (.rows e k rs) = .rows e k rs) ∧ (∀ d ls es, renB d (.map ls es) = .map ls es) ∧ (∀ d c r, renB d (.iter c r) = .iter c r) ∧ (∀ d cs, renB d (.cells cs) = .cells (cs.map (renD d))) ∧
    (∀ d x, renD d (.i x) = .i x) ∧ (∀ d, renD d .any = .any) ∧ (∀ d r, renD d (.ref r) = .ref (renR d r)) ∧ (∀ d nm o, renR d (.loc nm o) = .loc (ren d nm) o) ∧ (∀ d nm k a b, renR d (.sl nm k a b) = .sl (ren d nm) k a b) ∧ (∀ d nm, renR d (.mp nm) = .mp (ren d nm)) ∧
    (∀ d n, ren d n = if n = 6000 then d else if n = d then 6000 else if n = 6001 then d + 1000 else if n = d + 1000 then 6001 else n) ∧ (∀ sto sto' mv, goneS sto sto' mv = (sto.map (·.1)).filter fun nm => mv.contains nm || (getS sto' nm).isNone) := by
  and_intros <;> intros <;> rfl
end
/-! What simp need not look at. -/
@[congr] theorem ev_cg {P_0 GL_1 z2_2 z3_3 z4_4}  : @ev P_0 GL_1 z2_2 z3_3 z4_4 = @ev P_0 GL_1 z2_2 z3_3 z4_4 := by rfl
@[congr] theorem evR_cg {P_0 GL_1 r_2 K_3 st_4 st_4'} (h4 : st_4 = st_4') : @evR P_0 GL_1 r_2 K_3 st_4 = @evR P_0 GL_1 r_2 K_3 st_4' := by subst h4; rfl
@[congr] theorem evF_cg {P_0 GL_1 i_2 r_3 K_4 l_5 l_5' st_6 st_6'} (h5 : l_5 = l_5') (h6 : st_6 = st_6') : @evF P_0 GL_1 i_2 r_3 K_4 l_5 st_6 = @evF P_0 GL_1 i_2 r_3 K_4 l_5' st_6' := by subst h5 h6; rfl
@[congr] theorem step_cg {P_0 GL_1 ins_2 st_3 K_4}  : @step P_0 GL_1 ins_2 st_3 K_4 = @step P_0 GL_1 ins_2 st_3 K_4 := by rfl
@[congr] theorem gdV_cg {P_0 GL_1 s_2 v_3 v_3' w_4 i_5 r_6 st_7 K_8} (h3 : v_3 = v_3') : @gdV P_0 GL_1 s_2 v_3 w_4 i_5 r_6 st_7 K_8 = @gdV P_0 GL_1 s_2 v_3' w_4 i_5 r_6 st_7 K_8 := by subst h3; rfl
@[congr] theorem evD_cg {P_0 GL_1 sn_2 z3_3 z4_4 z5_5}  : @evD P_0 GL_1 sn_2 z3_3 z4_4 z5_5 = @evD P_0 GL_1 sn_2 z3_3 z4_4 z5_5 := by rfl
@[congr] theorem evDR_cg {P_0 GL_1 sn_2 r_3 K_4 st_5 st_5'} (h5 : st_5 = st_5') : @evDR P_0 GL_1 sn_2 r_3 K_4 st_5 = @evDR P_0 GL_1 sn_2 r_3 K_4 st_5' := by subst h5; rfl
@[congr] theorem stepD_cg {P_0 GL_1 sn_2 ins_3 st_4 K_5}  : @stepD P_0 GL_1 sn_2 ins_3 st_4 K_5 = @stepD P_0 GL_1 sn_2 ins_3 st_4 K_5 := by rfl
@[congr] theorem gdD_cg {P_0 GL_1 s_2 v_3 v_3' w_4 sn_5 i_6 r_7 st_8 K_9} (h3 : v_3 = v_3') : @gdD P_0 GL_1 s_2 v_3 w_4 sn_5 i_6 r_7 st_8 K_9 = @gdD P_0 GL_1 s_2 v_3' w_4 sn_5 i_6 r_7 st_8 K_9 := by subst h3; rfl
@[congr] theorem pickE_cg {v_0 v_0' d_1 A_2 A_2' C_3 C_3' st_4 K_5} (h0 : v_0 = v_0') (h2 : A_2 = A_2') (h3 : C_3 = C_3') : @pickE v_0 d_1 A_2 C_3 st_4 K_5 = @pickE v_0' d_1 A_2' C_3' st_4 K_5 := by subst h0 h2 h3; rfl
@[congr] theorem nilsE_cg {b_0 b_0' d_1 e_2 k_3 st_4 K_5} (h0 : b_0 = b_0') : @nilsE b_0 d_1 e_2 k_3 st_4 K_5 = @nilsE b_0' d_1 e_2 k_3 st_4 K_5 := by subst h0; rfl
@[congr] theorem boxE_cg {v_0 v_0' d_1 st_2 K_3} (h0 : v_0 = v_0') : @boxE v_0 d_1 st_2 K_3 = @boxE v_0' d_1 st_2 K_3 := by subst h0; rfl
@[congr] theorem newE_cg {b_0 b_0' d_1 cs_2 cs_2' st_3 K_4} (h0 : b_0 = b_0') (h2 : cs_2 = cs_2') : @newE b_0 d_1 cs_2 st_3 K_4 = @newE b_0' d_1 cs_2' st_3 K_4 := by subst h0 h2; rfl
@[congr] theorem newR_cg {b_0 b_0' d_1 e_2 k_3 st_4 K_5} (h0 : b_0 = b_0') : @newR b_0 d_1 e_2 k_3 st_4 K_5 = @newR b_0' d_1 e_2 k_3 st_4 K_5 := by subst h0; rfl
@[congr] theorem ownE_cg {b_0 b_0' d_1 e_2 k_3 rows_4 rows_4' st_5 K_6} (h0 : b_0 = b_0') (h4 : rows_4 = rows_4') : @ownE b_0 d_1 e_2 k_3 rows_4 st_5 K_6 = @ownE b_0' d_1 e_2 k_3 rows_4' st_5 K_6 := by subst h0 h4; rfl
@[congr] theorem loadE_cg {v_0 v_0' d_1 k_2 ag_3 st_4 K_5} (h0 : v_0 = v_0') : @loadE v_0 d_1 k_2 ag_3 st_4 K_5 = @loadE v_0' d_1 k_2 ag_3 st_4 K_5 := by subst h0; rfl
@[congr] theorem loadB_cg {b_0 b_0' d_1 off_2 off_2' k_3 ag_4 st_5 K_6} (h0 : b_0 = b_0') (h2 : off_2 = off_2') : @loadB b_0 d_1 off_2 k_3 ag_4 st_5 K_6 = @loadB b_0' d_1 off_2' k_3 ag_4 st_5 K_6 := by subst h0 h2; rfl
@[congr] theorem loadR_cg {b_0 b_0' d_1 kk_2 kk_2' row_3 row_3' off_4 off_4' k_5 ag_6 st_7 K_8} (h0 : b_0 = b_0') (h2 : kk_2 = kk_2') (h3 : row_3 = row_3') (h4 : off_4 = off_4') : @loadR b_0 d_1 kk_2 row_3 off_4 k_5 ag_6 st_7 K_8 = @loadR b_0' d_1 kk_2' row_3' off_4' k_5 ag_6 st_7 K_8 := by subst h0 h2 h3 h4; rfl
@[congr] theorem storeE_cg {x_0 x_0' v_1 v_1' k_2 st_3 K_4} (h0 : x_0 = x_0') (h1 : v_1 = v_1') : @storeE x_0 v_1 k_2 st_3 K_4 = @storeE x_0' v_1' k_2 st_3 K_4 := by subst h0 h1; rfl
@[congr] theorem storeB_cg {b_0 b_0' nm_1 off_2 off_2' k_3 v_4 v_4' st_5 K_6} (h0 : b_0 = b_0') (h2 : off_2 = off_2') (h4 : v_4 = v_4') : @storeB b_0 nm_1 off_2 k_3 v_4 st_5 K_6 = @storeB b_0' nm_1 off_2' k_3 v_4' st_5 K_6 := by subst h0 h2 h4; rfl
@[congr] theorem storeR_cg {b_0 b_0' nm_1 kk_2 kk_2' row_3 row_3' off_4 off_4' k_5 v_6 v_6' st_7 K_8} (h0 : b_0 = b_0') (h2 : kk_2 = kk_2') (h3 : row_3 = row_3') (h4 : off_4 = off_4') (h6 : v_6 = v_6') : @storeR b_0 nm_1 kk_2 row_3 off_4 k_5 v_6 st_7 K_8 = @storeR b_0' nm_1 kk_2' row_3' off_4' k_5 v_6' st_7 K_8 := by subst h0 h2 h3 h4 h6; rfl
@[congr] theorem stfrzE_cg {x_0 x_0' v_1 v_1' k_2 st_3 K_4} (h0 : x_0 = x_0') (h1 : v_1 = v_1') : @stfrzE x_0 v_1 k_2 st_3 K_4 = @stfrzE x_0' v_1' k_2 st_3 K_4 := by subst h0 h1; rfl
@[congr] theorem stfrzB_cg {b_0 b_0' nm_1 off_2 off_2' k_3 v_4 v_4' st_5 K_6} (h0 : b_0 = b_0') (h2 : off_2 = off_2') (h4 : v_4 = v_4') : @stfrzB b_0 nm_1 off_2 k_3 v_4 st_5 K_6 = @stfrzB b_0' nm_1 off_2' k_3 v_4' st_5 K_6 := by subst h0 h2 h4; rfl
@[congr] theorem faE_cg {v_0 v_0' d_1 off_2 off_2' st_3 K_4} (h0 : v_0 = v_0') (h2 : off_2 = off_2') : @faE v_0 d_1 off_2 st_3 K_4 = @faE v_0' d_1 off_2' st_3 K_4 := by subst h0 h2; rfl
@[congr] theorem fldE_cg {v_0 v_0' d_1 off_2 off_2' k_3 ag_4 st_5 K_6} (h0 : v_0 = v_0') (h2 : off_2 = off_2') : @fldE v_0 d_1 off_2 k_3 ag_4 st_5 K_6 = @fldE v_0' d_1 off_2' k_3 ag_4 st_5 K_6 := by subst h0 h2; rfl
@[congr] theorem iaE_cg {s_0 s_0' i_1 i_1' d_2 k_3 st_4 K_5} (h0 : s_0 = s_0') (h1 : i_1 = i_1') : @iaE s_0 i_1 d_2 k_3 st_4 K_5 = @iaE s_0' i_1' d_2 k_3 st_4 K_5 := by subst h0 h1; rfl
@[congr] theorem iaR_cg {b_0 b_0' nm_1 d_2 k_3 z4_4 lo_5 lo_5' hi_6 hi_6' n_7 n_7' st_8 K_9} (h0 : b_0 = b_0') (h5 : lo_5 = lo_5') (h6 : hi_6 = hi_6') (h7 : n_7 = n_7') : @iaR b_0 nm_1 d_2 k_3 z4_4 lo_5 hi_6 n_7 st_8 K_9 = @iaR b_0' nm_1 d_2 k_3 z4_4 lo_5' hi_6' n_7' st_8 K_9 := by subst h0 h5 h6 h7; rfl
@[congr] theorem idxE_cg {s_0 s_0' i_1 i_1' d_2 st_3 K_4} (h0 : s_0 = s_0') (h1 : i_1 = i_1') : @idxE s_0 i_1 d_2 st_3 K_4 = @idxE s_0' i_1' d_2 st_3 K_4 := by subst h0 h1; rfl
@[congr] theorem aidxE_cg {s_0 s_0' i_1 i_1' d_2 k_3 len_4 ag_5 st_6 K_7} (h0 : s_0 = s_0') (h1 : i_1 = i_1') : @aidxE s_0 i_1 d_2 k_3 len_4 ag_5 st_6 K_7 = @aidxE s_0' i_1' d_2 k_3 len_4 ag_5 st_6 K_7 := by subst h0 h1; rfl
@[congr] theorem binE_cg {op_0 x_1 x_1' y_2 y_2' d_3 st_4 K_5} (h1 : x_1 = x_1') (h2 : y_2 = y_2') : @binE op_0 x_1 y_2 d_3 st_4 K_5 = @binE op_0 x_1' y_2' d_3 st_4 K_5 := by subst h1 h2; rfl
@[congr] theorem shE_cg {op_0 x_1 x_1' y_2 y_2' d_3 st_4 K_5} (h1 : x_1 = x_1') (h2 : y_2 = y_2') : @shE op_0 x_1 y_2 d_3 st_4 K_5 = @shE op_0 x_1' y_2' d_3 st_4 K_5 := by subst h1 h2; rfl
@[congr] theorem eqsE_cg {neg_0 ls_1 x_2 x_2' y_3 y_3' d_4 st_5 K_6} (h2 : x_2 = x_2') (h3 : y_3 = y_3') : @eqsE neg_0 ls_1 x_2 y_3 d_4 st_5 K_6 = @eqsE neg_0 ls_1 x_2' y_3' d_4 st_5 K_6 := by subst h2 h3; rfl
@[congr] theorem eqsO_cg {r_0 r_0' neg_1 d_2 st_3 K_4} (h0 : r_0 = r_0') : @eqsO r_0 neg_1 d_2 st_3 K_4 = @eqsO r_0' neg_1 d_2 st_3 K_4 := by subst h0; rfl
@[congr] theorem eqbE_cg {neg_0 x_1 x_1' y_2 y_2' d_3 st_4 K_5} (h1 : x_1 = x_1') (h2 : y_2 = y_2') : @eqbE neg_0 x_1 y_2 d_3 st_4 K_5 = @eqbE neg_0 x_1' y_2' d_3 st_4 K_5 := by subst h1 h2; rfl
@[congr] theorem isnilE_cg {q_0 neg_1 x_2 x_2' d_3 st_4 K_5} (h2 : x_2 = x_2') : @isnilE q_0 neg_1 x_2 d_3 st_4 K_5 = @isnilE q_0 neg_1 x_2' d_3 st_4 K_5 := by subst h2; rfl
@[congr] theorem unE_cg {op_0 x_1 x_1' d_2 st_3 K_4} (h1 : x_1 = x_1') : @unE op_0 x_1 d_2 st_3 K_4 = @unE op_0 x_1' d_2 st_3 K_4 := by subst h1; rfl
@[congr] theorem lensE_cg {x_0 x_0' d_1 st_2 K_3} (h0 : x_0 = x_0') : @lensE x_0 d_1 st_2 K_3 = @lensE x_0' d_1 st_2 K_3 := by subst h0; rfl
@[congr] theorem lenlE_cg {x_0 x_0' d_1 st_2 K_3} (h0 : x_0 = x_0') : @lenlE x_0 d_1 st_2 K_3 = @lenlE x_0' d_1 st_2 K_3 := by subst h0; rfl
@[congr] theorem extE_cg {x_0 x_0' i_1 d_2 st_3 K_4} (h0 : x_0 = x_0') : @extE x_0 i_1 d_2 st_3 K_4 = @extE x_0' i_1 d_2 st_3 K_4 := by subst h0; rfl
@[congr] theorem mkfnE_cg {f_0 first_1 first_1' caps_2 caps_2' d_3 st_4 K_5} (h1 : first_1 = first_1') (h2 : caps_2 = caps_2') : @mkfnE f_0 first_1 caps_2 d_3 st_4 K_5 = @mkfnE f_0 first_1' caps_2' d_3 st_4 K_5 := by subst h1 h2; rfl
@[congr] theorem maxE_cg {mx_0 x_1 x_1' y_2 y_2' d_3 st_4 K_5} (h1 : x_1 = x_1') (h2 : y_2 = y_2') : @maxE mx_0 x_1 y_2 d_3 st_4 K_5 = @maxE mx_0 x_1' y_2' d_3 st_4 K_5 := by subst h1 h2; rfl
@[congr] theorem convE_cg {k_0 x_1 x_1' d_2 st_3 K_4} (h1 : x_1 = x_1') : @convE k_0 x_1 d_2 st_3 K_4 = @convE k_0 x_1' d_2 st_3 K_4 := by subst h1; rfl
@[congr] theorem appE_cg {x_0 x_0' y_1 y_1' d_2 e_3 k_4 b_5 st_6 K_7} (h0 : x_0 = x_0') (h1 : y_1 = y_1') : @appE x_0 y_1 d_2 e_3 k_4 b_5 st_6 K_7 = @appE x_0' y_1' d_2 e_3 k_4 b_5 st_6 K_7 := by subst h0 h1; rfl
@[congr] theorem appB_cg {bl_0 bl_0' nm_1 z2_2 lo_3 lo_3' hi_4 hi_4' d_5 e_6 k_7 b_8 rows_9 rows_9' st_10 K_11} (h0 : bl_0 = bl_0') (h3 : lo_3 = lo_3') (h4 : hi_4 = hi_4') (h9 : rows_9 = rows_9') : @appB bl_0 nm_1 z2_2 lo_3 hi_4 d_5 e_6 k_7 b_8 rows_9 st_10 K_11 = @appB bl_0' nm_1 z2_2 lo_3' hi_4' d_5 e_6 k_7 b_8 rows_9' st_10 K_11 := by subst h0 h3 h4 h9; rfl
@[congr] theorem slcE_cg {x_0 x_0' l_1 l_1' h_2 h_2' d_3 k_4 st_5 K_6} (h0 : x_0 = x_0') (h1 : l_1 = l_1') (h2 : h_2 = h_2') : @slcE x_0 l_1 h_2 d_3 k_4 st_5 K_6 = @slcE x_0' l_1' h_2' d_3 k_4 st_5 K_6 := by subst h0 h1 h2; rfl
@[congr] theorem slcO_cg {lo_0 lo_0' hi_1 hi_1' top_2 top_2' K_3} (h0 : lo_0 = lo_0') (h1 : hi_1 = hi_1') (h2 : top_2 = top_2') : @slcO lo_0 hi_1 top_2 K_3 = @slcO lo_0' hi_1' top_2' K_3 := by subst h0 h1 h2; rfl
@[congr] theorem slcR_cg {b_0 b_0' nm_1 z2_2 lo_3 lo_3' hi_4 hi_4' d_5 k_6 l_7 l_7' h_8 h_8' st_9 K_10} (h0 : b_0 = b_0') (h3 : lo_3 = lo_3') (h4 : hi_4 = hi_4') (h7 : l_7 = l_7') (h8 : h_8 = h_8') : @slcR b_0 nm_1 z2_2 lo_3 hi_4 d_5 k_6 l_7 h_8 st_9 K_10 = @slcR b_0' nm_1 z2_2 lo_3' hi_4' d_5 k_6 l_7' h_8' st_9 K_10 := by subst h0 h3 h4 h7 h8; rfl
@[congr] theorem slc0E_cg {b_0 b_0' x_1 x_1' d_2 e_3 k_4 st_5 K_6} (h0 : b_0 = b_0') (h1 : x_1 = x_1') : @slc0E b_0 x_1 d_2 e_3 k_4 st_5 K_6 = @slc0E b_0' x_1' d_2 e_3 k_4 st_5 K_6 := by subst h0 h1; rfl
@[congr] theorem sslcE_cg {x_0 x_0' l_1 l_1' h_2 h_2' d_3 st_4 K_5} (h0 : x_0 = x_0') (h1 : l_1 = l_1') (h2 : h_2 = h_2') : @sslcE x_0 l_1 h_2 d_3 st_4 K_5 = @sslcE x_0' l_1' h_2' d_3 st_4 K_5 := by subst h0 h1 h2; rfl
@[congr] theorem mkmapE_cg {b_0 b_0' d_1 ls_2 st_3 K_4} (h0 : b_0 = b_0') : @mkmapE b_0 d_1 ls_2 st_3 K_4 = @mkmapE b_0' d_1 ls_2 st_3 K_4 := by subst h0; rfl
@[congr] theorem lookE_cg {x_0 x_0' key_1 key_1' zero_2 ok_3 ls_4 d_5 st_6 K_7} (h0 : x_0 = x_0') (h1 : key_1 = key_1') : @lookE x_0 key_1 zero_2 ok_3 ls_4 d_5 st_6 K_7 = @lookE x_0' key_1' zero_2 ok_3 ls_4 d_5 st_6 K_7 := by subst h0 h1; rfl
@[congr] theorem lookB_cg {b_0 b_0' ls_1 key_2 key_2' zero_3 ok_4 d_5 st_6 K_7} (h0 : b_0 = b_0') (h2 : key_2 = key_2') : @lookB b_0 ls_1 key_2 zero_3 ok_4 d_5 st_6 K_7 = @lookB b_0' ls_1 key_2' zero_3 ok_4 d_5 st_6 K_7 := by subst h0 h2; rfl
@[congr] theorem mupdE_cg {x_0 x_0' key_1 key_1' v_2 v_2' ls_3 st_4 K_5} (h0 : x_0 = x_0') (h1 : key_1 = key_1') (h2 : v_2 = v_2') : @mupdE x_0 key_1 v_2 ls_3 st_4 K_5 = @mupdE x_0' key_1' v_2' ls_3 st_4 K_5 := by subst h0 h1 h2; rfl
@[congr] theorem mupdB_cg {b_0 b_0' nm_1 ls_2 key_3 key_3' v_4 v_4' st_5 K_6} (h0 : b_0 = b_0') (h3 : key_3 = key_3') (h4 : v_4 = v_4') : @mupdB b_0 nm_1 ls_2 key_3 v_4 st_5 K_6 = @mupdB b_0' nm_1 ls_2 key_3' v_4' st_5 K_6 := by subst h0 h3 h4; rfl
@[congr] theorem lenmE_cg {x_0 x_0' d_1 st_2 K_3} (h0 : x_0 = x_0') : @lenmE x_0 d_1 st_2 K_3 = @lenmE x_0' d_1 st_2 K_3 := by subst h0; rfl
@[congr] theorem lenmB_cg {b_0 b_0' d_1 st_2 K_3} (h0 : b_0 = b_0') : @lenmB b_0 d_1 st_2 K_3 = @lenmB b_0' d_1 st_2 K_3 := by subst h0; rfl
@[congr] theorem rngE_cg {b_0 b_0' x_1 x_1' d_2 st_3 K_4} (h0 : b_0 = b_0') (h1 : x_1 = x_1') : @rngE b_0 x_1 d_2 st_3 K_4 = @rngE b_0' x_1' d_2 st_3 K_4 := by subst h0 h1; rfl
@[congr] theorem nxtE_cg {x_0 x_0' d_1 st_2 K_3} (h0 : x_0 = x_0') : @nxtE x_0 d_1 st_2 K_3 = @nxtE x_0' d_1 st_2 K_3 := by subst h0; rfl
@[congr] theorem nxtB_cg {b_0 b_0' nm_1 d_2 st_3 K_4} (h0 : b_0 = b_0') : @nxtB b_0 nm_1 d_2 st_3 K_4 = @nxtB b_0' nm_1 d_2 st_3 K_4 := by subst h0; rfl
@[congr] theorem entE_cg {x_0 x_0' d_1 st_2 K_3} (h0 : x_0 = x_0') : @entE x_0 d_1 st_2 K_3 = @entE x_0' d_1 st_2 K_3 := by subst h0; rfl
@[congr] theorem entB_cg {b_0 b_0' d_1 st_2 K_3} (h0 : b_0 = b_0') : @entB b_0 d_1 st_2 K_3 = @entB b_0' d_1 st_2 K_3 := by subst h0; rfl
@[congr] theorem iaaE_cg {x_0 x_0' i_1 i_1' d_2 k_3 len_4 st_5 K_6} (h0 : x_0 = x_0') (h1 : i_1 = i_1') : @iaaE x_0 i_1 d_2 k_3 len_4 st_5 K_6 = @iaaE x_0' i_1' d_2 k_3 len_4 st_5 K_6 := by subst h0 h1; rfl
@[congr] theorem bytesE_cg {x_0 x_0' d_1 st_2 K_3} (h0 : x_0 = x_0') : @bytesE x_0 d_1 st_2 K_3 = @bytesE x_0' d_1 st_2 K_3 := by subst h0; rfl
@[congr] theorem ofbE_cg {x_0 x_0' d_1 st_2 K_3} (h0 : x_0 = x_0') : @ofbE x_0 d_1 st_2 K_3 = @ofbE x_0' d_1 st_2 K_3 := by subst h0; rfl
@[congr] theorem ofbO_cg {l_0 l_0' d_1 st_2 K_3} (h0 : l_0 = l_0') : @ofbO l_0 d_1 st_2 K_3 = @ofbO l_0' d_1 st_2 K_3 := by subst h0; rfl
@[congr] theorem callG_cg {P_0 GL_1 get_2 st_3 d_4 K_5}  : @callG P_0 GL_1 get_2 st_3 d_4 K_5 = @callG P_0 GL_1 get_2 st_3 d_4 K_5 := by rfl
@[congr] theorem callL_cg {P_0 GL_1 f_2 xs_3 xs_3' st_4 st_4' d_5 K_6} (h3 : xs_3 = xs_3') (h4 : st_4 = st_4') : @callL P_0 GL_1 f_2 xs_3 st_4 d_5 K_6 = @callL P_0 GL_1 f_2 xs_3' st_4' d_5 K_6 := by subst h3 h4; rfl
@[congr] theorem callLv_cg {P_0 GL_1 fv_2 fv_2' xs_3 xs_3' st_4 st_4' d_5 K_6} (h2 : fv_2 = fv_2') (h3 : xs_3 = xs_3') (h4 : st_4 = st_4') : @callLv P_0 GL_1 fv_2 xs_3 st_4 d_5 K_6 = @callLv P_0 GL_1 fv_2' xs_3' st_4' d_5 K_6 := by subst h2 h3 h4; rfl
@[congr] theorem dregE_cg {P_0 GL_1 sn_2 gs_3 post_4 K_5 st_6 st_6'} (h6 : st_6 = st_6') : @dregE P_0 GL_1 sn_2 gs_3 post_4 K_5 st_6 = @dregE P_0 GL_1 sn_2 gs_3 post_4 K_5 st_6' := by subst h6; rfl
@[congr] theorem postK_cg {post_0 K_1 s_2 s_2'} (h2 : s_2 = s_2') : @postK post_0 K_1 s_2 = @postK post_0 K_1 s_2' := by subst h2; rfl
@[congr] theorem thenK_cg {W_0 K_1 z2_2 z3_3 z3_3'} (h3 : z3_3 = z3_3') : @thenK W_0 K_1 z2_2 z3_3 = @thenK W_0 K_1 z2_2 z3_3' := by subst h3; rfl
@[congr] theorem blockK_cg {id_0 K_1 z2_2 z3_3 z3_3'} (h3 : z3_3 = z3_3') : @blockK id_0 K_1 z2_2 z3_3 = @blockK id_0 K_1 z2_2 z3_3' := by subst h3; rfl
@[congr] theorem stopK_cg {z0_0 S_1 K_2 z3_3 z4_4 z4_4'} (h4 : z4_4 = z4_4') : @stopK z0_0 S_1 K_2 z3_3 z4_4 = @stopK z0_0 S_1 K_2 z3_3 z4_4' := by subst h4; rfl
@[congr] theorem roundI_cg {F_0 I_1 n_2 i_3 K_4 z5_5 z6_6 z6_6'} (h6 : z6_6 = z6_6') : @roundI F_0 I_1 n_2 i_3 K_4 z5_5 z6_6 = @roundI F_0 I_1 n_2 i_3 K_4 z5_5 z6_6' := by subst h6; rfl
@[congr] theorem roundG_cg {z0_0 F_1 m_2 i_3 K_4 z5_5 z6_6 z6_6'} (h6 : z6_6 = z6_6') : @roundG z0_0 F_1 m_2 i_3 K_4 z5_5 z6_6 = @roundG z0_0 F_1 m_2 i_3 K_4 z5_5 z6_6' := by subst h6; rfl
@[congr] theorem retP_cg {R_0 x_1 x_1'} (h1 : x_1 = x_1') : @retP R_0 x_1 = @retP R_0 x_1' := by subst h1; rfl
@[congr] theorem bodyK_cg {rs_0 given_1 mv_2 R_3 z4_4 z5_5 z5_5'} (h5 : z5_5 = z5_5') : @bodyK rs_0 given_1 mv_2 R_3 z4_4 z5_5 = @bodyK rs_0 given_1 mv_2 R_3 z4_4 z5_5' := by subst h5; rfl
@[congr] theorem resV_cg {rs_0 given_1 mv_2 R_3 st_4}  : @resV rs_0 given_1 mv_2 R_3 st_4 = @resV rs_0 given_1 mv_2 R_3 st_4 := by rfl
@[congr] theorem storeD_cg {sn_0 x_1 x_1' v_2 v_2' k_3 st_4 K_5} (h1 : x_1 = x_1') (h2 : v_2 = v_2') : @storeD sn_0 x_1 v_2 k_3 st_4 K_5 = @storeD sn_0 x_1' v_2' k_3 st_4 K_5 := by subst h1 h2; rfl
@[congr] theorem slcK1_cg {rows_0 rows_0' d_1 st_2 K_3 a_4 a_4' c_5 c_5'} (h0 : rows_0 = rows_0') (h4 : a_4 = a_4') (h5 : c_5 = c_5') : @slcK1 rows_0 d_1 st_2 K_3 a_4 c_5 = @slcK1 rows_0' d_1 st_2 K_3 a_4' c_5' := by subst h0 h4 h5; rfl
@[congr] theorem slcK2_cg {nm_0 k_1 lo_2 lo_2' d_3 st_4 K_5 a_6 a_6' c_7 c_7'} (h2 : lo_2 = lo_2') (h6 : a_6 = a_6') (h7 : c_7 = c_7') : @slcK2 nm_0 k_1 lo_2 d_3 st_4 K_5 a_6 c_7 = @slcK2 nm_0 k_1 lo_2' d_3 st_4 K_5 a_6' c_7' := by subst h2 h6 h7; rfl
@[congr] theorem slcK3_cg {s_0 s_0' d_1 st_2 K_3 a_4 a_4' c_5 c_5'} (h0 : s_0 = s_0') (h4 : a_4 = a_4') (h5 : c_5 = c_5') : @slcK3 s_0 d_1 st_2 K_3 a_4 c_5 = @slcK3 s_0' d_1 st_2 K_3 a_4' c_5' := by subst h0 h4 h5; rfl
@[congr] theorem evT_cg {P GL gs gs' st K} (h : gs = gs') : evT P GL gs st K = evT P GL gs' st K := by subst h; rfl
@[congr] theorem dregT_cg {P GL sn gs gs' post K st st'} (h : gs = gs') (h2 : st = st') : dregT P GL sn gs post K st = dregT P GL sn gs' post K st' := by subst h h2; rfl
@[congr] theorem W2_cg {P GL c K st st'} (h : st = st') : W2 P GL c K st = W2 P GL c K st' := by subst h; rfl
@[congr] theorem prnK_cg {ks W K e st st'} (h : st = st') : prnK ks W K e st = prnK ks W K e st' := by subst h; rfl
@[congr] theorem condJ_cg {P GL v v' a c K st} (h : v = v') : condJ P GL v a c K st = condJ P GL v' a c K st := by subst h; rfl
@[congr] theorem roundH_cg {ι F I m i K e st st'} (h : st = st') : @roundH ι F I m i K e st = @roundH ι F I m i K e st' := by subst h; rfl
@[congr] theorem preN_cg {GL i st} : preN GL i st = preN GL i st := rfl
end Go.Dl
end
