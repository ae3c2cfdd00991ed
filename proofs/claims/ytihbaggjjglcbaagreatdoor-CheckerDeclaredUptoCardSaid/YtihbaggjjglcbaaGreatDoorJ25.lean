/-
  What the laws of this seat share, part 25: no statement of its own.
-/
import Derived.Test.YtihbaggjjglcbaaGreatDoorJ24
set_option linter.unusedVariables false
set_option linter.unusedSimpArgs false

section
/-
  A data-level logic, second edition: the equations by which 'simp only' runs code on data.
-/
set_option linter.unusedVariables false
set_option linter.unusedSimpArgs false
namespace Go.Dl
open Go Go.RowKit

section
variable (P : Program) (GL : List (Nat × List I))
/-- The rest of a region. -/
def evR (r : List GI) (K : St → Prop) (st : St) : Prop := ev P GL r st K
def evDR (sn : List Nat) (r : List GI) (K : St → Prop) (st : St) : Prop := evD P GL sn r st K
/-- An instruction, once names have been given up. -/
def evF (i : Ins) (r : List GI) (K : St → Prop) (l : List Nat) (st : St) : Prop := step P GL i (frzNs l st) (evR P GL r K)
def gdV (s : Nat) (v : D) (w : Bool) (i : Ins) (r : List GI) (st : St) (K : St → Prop) : Prop := gdE v w (step P GL i (frzNs (preN GL i st) st) (evR P GL r K)) (evR P GL r K (skipI i st))
def gdD (s : Nat) (v : D) (w : Bool) (sn : List Nat) (i : Ins) (r : List GI) (st : St) (K : St → Prop) : Prop := gdE v w (stepD P GL sn i st (evDR P GL sn r K)) (evDR P GL sn r K (skipI i st))
def condE (v : D) (a c : IR) (K : Exit → St → Prop) (st : St) : Prop := match v with
  | .i (.bool t) => br t (W P GL a K st) (W P GL c K st)
  | _ => False
def stN (GL : List (Nat × List I)) (st : St) (v : O) : D → List Nat
  | .ref (.lel _ _ _ _) => oN GL st [v]
  | _ => []
def frzM (b : Option Blk) (nm : Nat) (st : St) : St := match b with
  | some b => if frzOk b = true then st.frz nm b else st
  | none => st
/-- What a reference becomes, by its block. -/
def cpR (b : Blk) (r : Ref) : Cp := match r, b with
  | .loc _ off, .cells cs => .i (.elt (cs.map unI) off)
  | .sl _ k lo hi, .rows _ k' rs => if k = k' ∧ hi ≤ rs.length then .i (.sl ((rs.take hi).drop lo)) else .any
  | .lel _ k row off, .rows _ k' rs => if k = k' ∧ row < rs.length then .i (.elt (rs.getD row []) off) else .any
  | .mp _, .map _ es => .i (.map es)
  | _, _ => .any
/-- A call on plain data. -/
def callL (f : FuncId) (xs : List I) (st : St) (d : Option Nat) (K : St → Prop) : Prop := ∃ y, Is1 P GL f (xs.map .i) y ∧ K (putO st d (.i y))
def callLv (fv : D) (xs : List I) (st : St) (d : Option Nat) (K : St → Prop) : Prop := match fv with
  | .i (.fn f first caps) => callL P GL f (first ++ xs ++ caps) st d K
  | _ => False
/-- Behind an open region. -/
def postK (post : List Nat) (K : Exit → St → Prop) (s : St) : Prop := K .normal (frzNs (slotN post s) s)
/-- The names that an open region wants as data. -/
def dI (st : St) : Ins → List Nat
  | .call _ _ args => oN GL st args
  | .callv _ fo args => oN GL st (fo :: args)
  | .build _ _ ps => oN GL st (ps.map (·.2.2))
  | .bsn _ _ _ ps => oN GL st ps
  | .mupd _ q v _ => oN GL st [q, v]
  | .load _ x k true => ldN st k (opv GL st x)
  | .ofb _ x => oN GL st [x]
  | _ => []
def dN (gs : List GI) (st : St) : List Nat := gs.flatMap fun g => dI GL st g.ins
def dregE (sn : List Nat) (gs : List GI) (post : List Nat) (K : Exit → St → Prop) (st : St) : Prop := evD P GL sn gs st (postK post K)
def newR (b : Option Blk) (d e k : Nat) (st : St) (K : St → Prop) : Prop := step.nilsE' b d e k st K
def slcK1 (rows : List (List I)) (d : Nat) (st : St) (K : St → Prop) (a c : Nat) : Prop := K (st.put d (.i (.sl ((rows.take c).drop a))))
def slcK2 (nm k lo d : Nat) (st : St) (K : St → Prop) (a c : Nat) : Prop := K (st.put d (.ref (.sl nm k (lo + a) (lo + c))))
def slcK3 (s : List UInt8) (d : Nat) (st : St) (K : St → Prop) (a c : Nat) : Prop := K (st.put d (.i (.str ((s.take c).drop a))))
def rsM (st : St) (r : RV) : List Nat := (getE st.env (match r with | .tmp t => t | .cell t _ _ => t)).nms
def storeD (sn : List Nat) (x v : D) (k : Nat) (st : St) (K : St → Prop) : Prop := (match x with | .ref (.loc nm _) => nm ∈ sn | _ => False) ∧ storeE x v k st K
/-- A plain result. -/
def isR (y : I) (r : D) (s : List (Nat × Blk)) : Prop := r = .i y ∧ s = []
def retP (R : D → List (Nat × Blk) → Prop) (x : Option D) : Prop := match x with
  | some (.i y) => R (.i y) []
  | _ => False
def rvC1 (b : Option Blk) (off k : Nat) (ag : Bool) : Option D := match b with
  | some (.cells cs) => if Nat.ble (off + k) cs.length && (!ag || allI ((cs.drop off).take k)) then some (pkD ag cs off k) else none
  | _ => none
def rvC (v : D) (k : Nat) (ag : Bool) (st : St) : Option D := match v with
  | .i (.elt cs off) => if Nat.ble (off + k) cs.length then some (.i (pk ag cs off k)) else none
  | .ref (.loc nm off) => rvC1 (getS st.sto nm) off k ag
  | _ => none
def rvT (v : D) : Option D := match v with | .any => none | x => some x
def consO (a : Option D) (b : Option (List D)) : Option (List D) := match a, b with | some x, some xs => some (x :: xs) | _, _ => none
def outO (x : Option (List D)) : Option D := match x with | some xs => outD xs | none => none
def rsN (rs : List RV) (st : St) : List Nat := deepN st.sto (rs.flatMap (rsM st))
end

section
variable {P : Program} {GL : List (Nat × List I)}

theorem gdV_intro {s : Nat} {b w : Bool} {i : Ins} {r : List GI} {st : St} {K : St → Prop} (h : b = true → gdV P GL s (.i (.bool true)) w i r st K) (k : b = false → gdV P GL s (.i (.bool false)) w i r st K) : gdV P GL s (.i (.bool b)) w i r st K := by
  cases b
  · exact k rfl
  · exact h rfl
theorem gdD_intro {s : Nat} {b w : Bool} {sn : List Nat} {i : Ins} {r : List GI} {st : St} {K : St → Prop} (h : b = true → gdD P GL s (.i (.bool true)) w sn i r st K) (k : b = false → gdD P GL s (.i (.bool false)) w sn i r st K) : gdD P GL s (.i (.bool b)) w sn i r st K := by
  cases b
  · exact k rfl
  · exact h rfl
theorem condE_intro {b : Bool} {a c : IR} {K : Exit → St → Prop} {st : St} (h : b = true → condE P GL (.i (.bool true)) a c K st) (k : b = false → condE P GL (.i (.bool false)) a c K st) : condE P GL (.i (.bool b)) a c K st := by
  cases b
  · exact k rfl
  · exact h rfl
theorem pickE_intro {b : Bool} {d : Nat} {A C : D} {st : St} {K : St → Prop} (h : b = true → pickE (.i (.bool true)) d A C st K) (k : b = false → pickE (.i (.bool false)) d A C st K) : pickE (.i (.bool b)) d A C st K := by
  cases b
  · exact k rfl
  · exact h rfl

theorem sbR_cp (nm : Nat) (b : Blk) (r : Ref) : sbR nm b r = if r.nm = nm then cpR b r else .ref r := by
  unfold sbR cpR
  split
  · cases r <;> cases b <;> rfl
  · rfl

theorem allI_os {os : List O} {st : St} (hI : (os.all fun o => isI (opv GL st o)) = true) : os.map (opv GL st) = (os.map fun o => unI (opv GL st o)).map D.i := by
  rw [List.map_map]
  refine List.map_congr_left fun o ho => ?_
  rw [List.all_eq_true] at hI
  have := hI o ho
  simp only [Function.comp]
  cases hv : opv GL st o <;> simp [hv, isI] at this; rfl
/-- A call on plain data: whatever its arguments hold is given up first. -/
theorem callG_I {f : FuncId} {os : List O} {st : St} {d : Option Nat} {K : St → Prop} (hI : (os.all fun o => isI (opv GL (frzNs (oN GL st os) st) o)) = true) (h : callL P GL f (os.map fun o => unI (opv GL (frzNs (oN GL st os) st) o)) (frzNs (oN GL st os) st) d K) : callG P GL (getC GL f os) st d K := by
  obtain ⟨y, h1, h2⟩ := h
  rw [← allI_os hI] at h1
  rw [List.all_eq_true] at hI
  refine ⟨oN GL st os, .inl ⟨[], [], _, h1, trivial, rfl, ?_, rfl, ?_⟩⟩
  · rw [List.all_eq_true]; intro v hv
    obtain ⟨o, ho, rfl⟩ := List.mem_map.1 hv
    have := hI o ho
    generalize opv GL _ o = v at this ⊢
    cases v <;> simp [isI] at this; rfl
  · rintro r s ⟨rfl, rfl⟩
    exact ⟨fun nm hm => by simp [renS] at hm, fun nm hm => by simp at hm, h2⟩
theorem callG_Iv {fo : O} {os : List O} {st : St} {d : Option Nat} {K : St → Prop} (hI : (os.all fun o => isI (opv GL (frzNs (oN GL st (fo :: os)) st) o)) = true)
    (h : callLv P GL (opv GL (frzNs (oN GL st (fo :: os)) st) fo) (os.map fun o => unI (opv GL (frzNs (oN GL st (fo :: os)) st) o)) (frzNs (oN GL st (fo :: os)) st) d K) : callG P GL (getCv GL fo os) st d K := by
  generalize hl : oN GL st (fo :: os) = l at hI h
  unfold callLv at h
  split at h
  · rename_i f first caps e
    obtain ⟨y, h1, h2⟩ := h
    rw [List.map_append, List.map_append, ← allI_os hI] at h1
    rw [List.all_eq_true] at hI
    refine ⟨l, ?_⟩
    simp only [getCv, getV, e]
    refine .inl ⟨[], [], _, h1, trivial, rfl, ?_, rfl, ?_⟩
    · rw [List.all_eq_true]; intro v hv
      simp only [List.mem_append, List.mem_map] at hv
      rcases hv with (⟨z, _, rfl⟩ | ⟨o, ho, rfl⟩) | ⟨z, _, rfl⟩
      · rfl
      · have := hI o ho
        generalize opv GL _ o = v at this ⊢
        cases v <;> simp [isI] at this; rfl
      · rfl
    · rintro r s ⟨rfl, rfl⟩
      exact ⟨fun nm hm => by simp [renS] at hm, fun nm hm => by simp at hm, h2⟩
  · exact h.elim
theorem callL_of {f : FuncId} {xs : List I} {y : I} {st : St} {d : Option Nat} {K : St → Prop} (h : Is1 P GL f (xs.map .i) y) (k : K (putO st d (.i y))) : callL P GL f xs st d K := ⟨y, h, k⟩
/-- An open region: what its instructions want as data is given up first. -/
theorem dreg_I {sn : List Nat} {gs : List GI} {post : List Nat} {K : Exit → St → Prop} {st : St} (h : dregE P GL sn gs post K (frzNs (dN GL gs st) st)) : W P GL (.dreg sn gs post) K st := ⟨_, h⟩
theorem ret_I {rs : List RV} {given mv : List Nat} {R : D → List (Nat × Blk) → Prop} {st : St} (h : retP R (retD (frzNs (rsN rs st) st) rs)) : resV rs given mv R st := by
  refine ⟨rsN rs st, [], ?_⟩
  unfold retP at h
  have hs : ∀ s : List (Nat × Blk), resS [] s = [] := fun s => by induction s with | nil => rfl | cons x r ih => obtain ⟨k, b⟩ := x; simp [resS, ih]
  split at h
  · rename_i y e
    rw [e]
    refine ⟨rfl, ?_, ?_⟩
    · rw [List.map_nil, hs]; exact ⟨rfl, rfl⟩
    · rw [List.map_nil, hs]; exact h
  · exact h.elim

/-- A loop whose heads are known, with what is known of the rounds before. -/
def roundI (F : Nat → St) (I : Nat → Prop) (n i : Nat) (K : Exit → St → Prop) : Exit → St → Prop
  | .normal, s => i < n ∧ I (i + 1) ∧ Sub (F (i + 1)) s
  | e, s => K e s
theorem W_loopI {c : IR} {K : Exit → St → Prop} {st : St} (F : Nat → St) (I : Nat → Prop) (n : Nat) (k : Nat) (hk : k ≤ n) (hi : I k) (h0 : Sub (F k) st) (round : ∀ i, i ≤ n → I i → W P GL c (roundI F I n i K) (F i)) : W P GL (.loop c) K st := by
  refine ⟨{i : Nat // i ≤ n ∧ I i}, fun i => F i.1, fun i => n - i.1, ⟨k, hk, hi⟩, h0, fun i => W_mono _ (round i.1 i.2.1 i.2.2) ?_⟩
  intro e s h
  cases e with
  | normal => exact ⟨⟨i.1 + 1, h.1, h.2.1⟩, by show n - (i.1 + 1) < n - i.1; have := h.1; omega, h.2.2⟩
  | _ => exact h
/-- A loop by a ghost of any kind. -/
def roundG {ι : Type} (F : ι → St) (m : ι → Nat) (i : ι) (K : Exit → St → Prop) : Exit → St → Prop
  | .normal, s => ∃ i', m i' < m i ∧ Sub (F i') s
  | e, s => K e s
theorem W_loopG {c : IR} {K : Exit → St → Prop} {st : St} {ι : Type} (F : ι → St) (m : ι → Nat) (i₀ : ι) (h0 : Sub (F i₀) st) (round : ∀ i, W P GL c (roundG F m i K) (F i)) : W P GL (.loop c) K st :=
  ⟨ι, F, m, i₀, h0, fun i => W_mono _ (round i) fun e s h => by cases e <;> exact h⟩
/-- A cut: one state for all ways through a piece of code. -/
def stopK (φ : Prop) (S : St) (K : Exit → St → Prop) : Exit → St → Prop
  | .normal, s => φ ∧ Sub S s
  | e, s => K e s
theorem W_cutI {a b : IR} {K : Exit → St → Prop} {st : St} (S : St) (φ : Prop) (ha : W P GL a (stopK φ S K) st) (hb : φ → W P GL b K S) : W P GL (.cut a b) K st :=
  W_mono a ha fun e s h => by
    cases e with
    | normal => exact .inr (.inl ⟨S, h.2, hb h.1⟩)
    | _ => exact h
theorem W_nocut {a b : IR} {K : Exit → St → Prop} {st : St} (h : W P GL a (thenK (W P GL b) K) st) : W P GL (.cut a b) K st :=
  W_mono a h fun e s h => by
    cases e with
    | normal => exact .inl h
    | _ => exact h

/-- States. -/
theorem V0 :
    (∀ e s d v, St.put ⟨e, s⟩ d v = ⟨.put d v e, s⟩) ∧ (∀ e s d v, St.bind ⟨e, s⟩ d v = ⟨e, (d, v) :: s⟩) ∧ (∀ e s d v, St.setB ⟨e, s⟩ d v = ⟨e, setS s d v⟩) ∧ (∀ e s d v, St.frz ⟨e, s⟩ d v = ⟨.sb d v e, delS (sbS d v s) d⟩) ∧
    (∀ l n, getE (.l l) n = getL l n) ∧ (∀ m d r n, getE (.put m d r) n = if m = n then d else getE r n) ∧ (∀ m b r n, getE (.sb m b r) n = sbD m b (getE r n)) ∧ (∀ n, getL [] n = .any) ∧ (∀ m d r n, getL ((m, d) :: r) n = if m = n then d else getL r n) ∧
    (∀ n, getS [] n = none) ∧ (∀ m d r n, getS ((m, d) :: r) n = if m = n then some d else getS r n) ∧ (∀ n b, setS [] n b = []) ∧ (∀ m d r n b, setS ((m, d) :: r) n b = if m = n then (m, b) :: setS r n b else (m, d) :: setS r n b) ∧
    (∀ n, delS [] n = []) ∧ (∀ m d r n, delS ((m, d) :: r) n = if m = n then delS r n else (m, d) :: delS r n) ∧ (∀ n b, sbS n b [] = []) ∧ (∀ n b m x r, sbS n b ((m, x) :: r) = (m, sbB n b x) :: sbS n b r) ∧
    (∀ st d y, putO st (some d) y = st.put d y) ∧ (∀ st y, putO st none y = st) := by
  and_intros <;> intros <;> rfl
/-- What becomes of references. -/
theorem V1 :
    (∀ n b x, sbD n b (.i x) = .i x) ∧ (∀ n b, sbD n b .any = .any) ∧ (∀ n b r, sbD n b (.ref r) = (if r.nm = n then cpR b r else .ref r).toD) ∧ (∀ n b f x y, sbD n b (.fn f x y) = .fn f (x.map (sbC n b)) (y.map (sbC n b))) ∧
    (∀ n b x, sbC n b (.i x) = .i x) ∧ (∀ n b, sbC n b .any = .any) ∧ (∀ n b r, sbC n b (.ref r) = if r.nm = n then cpR b r else .ref r) ∧ (∀ x, Cp.toD (.i x) = .i x) ∧ Cp.toD .any = .any ∧ (∀ r, Cp.toD (.ref r) = .ref r) ∧
    (∀ n b l, sbB n b (.cells l) = .cells (l.map (sbD n b))) ∧ (∀ n b e k rs, sbB n b (.rows e k rs) = .rows e k rs) ∧ (∀ n b ls es, sbB n b (.map ls es) = .map ls es) ∧ (∀ n b c r, sbB n b (.iter c r) = .iter c r) ∧
    (∀ n o, Ref.nm (.loc n o) = n) ∧ (∀ n k a b, Ref.nm (.sl n k a b) = n) ∧ (∀ n k a b, Ref.nm (.lel n k a b) = n) ∧ (∀ n, Ref.nm (.mp n) = n) ∧ (∀ n, Ref.nm (.it n) = n) ∧
    (∀ n o cs, cpR (.cells cs) (.loc n o) = .i (.elt (cs.map unI) o)) ∧ (∀ n k lo hi e k' rs, cpR (.rows e k' rs) (.sl n k lo hi) = if k = k' ∧ hi ≤ rs.length then .i (.sl ((rs.take hi).drop lo)) else .any) ∧
    (∀ n k row o e k' rs, cpR (.rows e k' rs) (.lel n k row o) = if k = k' ∧ row < rs.length then .i (.elt (rs.getD row []) o) else .any) ∧ (∀ n ls es, cpR (.map ls es) (.mp n) = .i (.map es)) ∧ (∀ c r x, cpR (.iter c r) x = .any) := by
  and_intros <;> intros <;> first | rfl | (simp only [sbD, sbC, sbR_cp]; done) | (rename_i x; cases x <;> rfl)
/-- Operands. -/
theorem V2 :
    (∀ e s n, opv GL ⟨e, s⟩ (.t n) = getE e n) ∧ (∀ st x, opv GL st (.c x) = .i x) ∧ (∀ st f, opv GL st (.f f) = .i (.fn f [] [])) ∧ (∀ st g, opv GL st (.g g) = .i (.elt (getG GL g) 0)) := by
  and_intros <;> intros <;> rfl
/-- Regions. -/
theorem V3 (r : List GI) (K : St → Prop) :
    (∀ e s, evR P GL r K ⟨e, s⟩ = ev P GL r ⟨e, s⟩ K) ∧ (∀ i st, ev P GL (⟨none, i⟩ :: r) st K = evF P GL i r K (preN GL i st) st) ∧ (∀ s w i st, ev P GL (⟨some (s, w), i⟩ :: r) st K = gdV P GL s (getE st.env s) w i r st K) ∧
    (∀ i st, evF P GL i r K [] st = step P GL i st (evR P GL r K)) ∧ (∀ i nm l st, evF P GL i r K (nm :: l) st = evF P GL i r K l (st.frzN nm)) ∧ 
    (∀ s i st, gdV P GL s (.i (.bool true)) true i r st K = evF P GL i r K (preN GL i st) st) ∧ (∀ s i st, gdV P GL s (.i (.bool false)) true i r st K = evR P GL r K (skipI i st)) ∧
    (∀ s i st, gdV P GL s (.i (.bool true)) false i r st K = evR P GL r K (skipI i st)) ∧ (∀ s i st, gdV P GL s (.i (.bool false)) false i r st K = evF P GL i r K (preN GL i st) st) ∧ (∀ s w i st, gdV P GL s (.i .undef) w i r st K = evR P GL r K (skipI i st)) := by
  and_intros <;> intros <;> first | rfl | (simp [gdV, gdE, br, evF]; done)
/-- What is wanted as data. -/
theorem V4 (st : St) :
    (∀ d x, preN GL (.mov d x) st = []) ∧ (∀ d c a b, preN GL (.pick d c a b) st = []) ∧ (∀ d e k, preN GL (.nils d e k) st = []) ∧ (∀ d x, preN GL (.box d x) st = oN GL st [x]) ∧ (∀ d x, preN GL (.boxm d x) st = []) ∧ (∀ d zs, preN GL (.alloc d zs) st = []) ∧
    (∀ d x k, preN GL (.load d x k false) st = []) ∧ (∀ d x k, preN GL (.load d x k true) st = ldN st k (opv GL st x)) ∧ (∀ x v k, preN GL (.store x v k) st = stN GL st v (opv GL st x)) ∧ (∀ x v k, preN GL (.stfrz x v k) st = oN GL st [v]) ∧
    (∀ d x o, preN GL (.fa d x o) st = []) ∧ (∀ d x o k ag, preN GL (.fld d x o k ag) st = []) ∧ (∀ d s i k, preN GL (.ia d s i k) st = []) ∧ (∀ d s i, preN GL (.idx d s i) st = []) ∧ (∀ d x i k len ag, preN GL (.aidx d x i k len ag) st = []) ∧
    (∀ d op x y, preN GL (.bin d op x y) st = []) ∧ (∀ d op x y, preN GL (.sh d op x y) st = []) ∧ (∀ d n ls x y, preN GL (.eqs d n ls x y) st = []) ∧ (∀ d n x y, preN GL (.eqb d n x y) st = []) ∧ (∀ d q n x, preN GL (.isnil d q n x) st = []) ∧ (∀ d op x, preN GL (.un d op x) st = []) ∧
    (∀ d x, preN GL (.lens d x) st = []) ∧ (∀ d x, preN GL (.lenl d x) st = []) ∧ (∀ d x i, preN GL (.ext d x i) st = []) ∧ (∀ d e k ps, preN GL (.bsl d e k ps) st = oN GL st ps) ∧ (∀ d e k ps, preN GL (.bsn d e k ps) st = oN GL st ps) ∧ (∀ d e k ps, preN GL (.bso d e k ps) st = oN GL st ps) ∧ (∀ d e k rows st K, ownE none d e k rows st K = K ((st.bind d (.rows e k rows)).put d (.ref (.sl d k 0 rows.length)))) ∧ (∀ d zs ps, preN GL (.build d zs ps) st = oN GL st (ps.map (·.2.2))) ∧
    (∀ d f a b, preN GL (.mkfn d f a b) st = []) ∧ (∀ d f a, preN GL (.call d f a) st = []) ∧ (∀ d f a, preN GL (.callv d f a) st = []) ∧ (∀ d x y, preN GL (.max d x y) st = []) ∧ (∀ d x y, preN GL (.min d x y) st = []) ∧ (∀ d k x, preN GL (.conv d k x) st = []) ∧
    (∀ d e k b x y, preN GL (.app d e k b x y) st = oN GL st [y]) ∧ (∀ d x lo hi k, preN GL (.slc d x lo hi k) st = []) ∧ (∀ d e k x, preN GL (.slc0 d e k x) st = oN GL st [x]) ∧ (∀ d x lo hi, preN GL (.sslc d x lo hi) st = []) ∧ (∀ d ls, preN GL (.mkmap d ls) st = []) ∧
    (∀ d x q z ok ls, preN GL (.lookup d x q z ok ls) st = []) ∧ (∀ x q v ls, preN GL (.mupd x q v ls) st = oN GL st [q, v]) ∧ (∀ d x, preN GL (.lenm d x) st = []) ∧ (∀ d x, preN GL (.rng d x) st = oN GL st [x]) ∧ (∀ d x, preN GL (.nxt d x) st = []) ∧ (∀ d x, preN GL (.ent d x) st = []) ∧ (∀ d x i k l, preN GL (.iaa d x i k l) st = []) ∧ (∀ d x, preN GL (.bytes d x) st = []) ∧ (∀ d x, preN GL (.ofb d x) st = oN GL st [x]) ∧ (∀ d, preN GL (.no d) st = []) ∧
    (∀ v x, stN GL st v (.i x) = []) ∧ (∀ v n o, stN GL st v (.ref (.loc n o)) = []) ∧ (∀ v n k a b, stN GL st v (.ref (.lel n k a b)) = oN GL st [v]) ∧
    (∀ os, oN GL st os = deepN st.sto (os.flatMap fun o => (opv GL st o).nms)) := by
  and_intros <;> intros <;> first | rfl | (simp only [preN, stN]; split <;> first | rfl | simp_all) | (simp [deepN, List.flatMap_cons]; done)
/-- Instructions. -/
theorem V5 (st : St) (K : St → Prop) :
    (∀ d x, step P GL (.mov d x) st K = K (st.put d (opv GL st x))) ∧ (∀ d c a b, step P GL (.pick d c a b) st K = pickE (opv GL st c) d (opv GL st a) (opv GL st b) st K) ∧ (∀ d e k, step P GL (.nils d e k) st K = nilsE (getS st.sto d) d e k st K) ∧
    (∀ d x, step P GL (.box d x) st K = boxE (opv GL st x) d st K) ∧ (∀ d x, step P GL (.boxm d x) st K = newE (getS st.sto d) d (cellsD (opv GL st x)) st K) ∧ (∀ d zs, step P GL (.alloc d zs) st K = newE (getS st.sto d) d (zs.map .i) st K) ∧
    (∀ d x k ag, step P GL (.load d x k ag) st K = loadE (opv GL st x) d k ag st K) ∧ (∀ x v k, step P GL (.store x v k) st K = storeE (opv GL st x) (opv GL st v) k st K) ∧ (∀ x v k, step P GL (.stfrz x v k) st K = stfrzE (opv GL st x) (opv GL st v) k st K) ∧
    (∀ d x o, step P GL (.fa d x o) st K = faE (opv GL st x) d o st K) ∧ (∀ d x o k ag, step P GL (.fld d x o k ag) st K = fldE (opv GL st x) d o k ag st K) ∧ (∀ d s i k, step P GL (.ia d s i k) st K = iaE (opv GL st s) (opv GL st i) d k st K) ∧
    (∀ d s i, step P GL (.idx d s i) st K = idxE (opv GL st s) (opv GL st i) d st K) ∧ (∀ d x i k len ag, step P GL (.aidx d x i k len ag) st K = aidxE (opv GL st x) (opv GL st i) d k len ag st K) ∧ (∀ d op x y, step P GL (.bin d op x y) st K = binE op (opv GL st x) (opv GL st y) d st K) ∧
    (∀ d op x y, step P GL (.sh d op x y) st K = shE op (opv GL st x) (opv GL st y) d st K) ∧ (∀ d n ls x y, step P GL (.eqs d n ls x y) st K = eqsE n ls (opv GL st x) (opv GL st y) d st K) ∧ (∀ d n x y, step P GL (.eqb d n x y) st K = eqbE n (opv GL st x) (opv GL st y) d st K) ∧
    (∀ d q n x, step P GL (.isnil d q n x) st K = isnilE q n (opv GL st x) d st K) ∧ (∀ d op x, step P GL (.un d op x) st K = unE op (opv GL st x) d st K) ∧ (∀ d x, step P GL (.lens d x) st K = lensE (opv GL st x) d st K) ∧ (∀ d x, step P GL (.lenl d x) st K = lenlE (opv GL st x) d st K) ∧
    (∀ d x i, step P GL (.ext d x i) st K = extE (opv GL st x) i d st K) ∧ (∀ d e k, step P GL (.bsl d e k []) st K = newR (getS st.sto d) d e k st K) ∧
    (∀ d e k p ps, step P GL (.bsl d e k (p :: ps)) st K = (((p :: ps).all fun o => isI (opv GL st o) && ((cellsI (unI (opv GL st o))).length == k) && (cellsI (unI (opv GL st o))).all I.one) = true ∧ K (st.put d (.i (.sl ((p :: ps).map fun o => cellsI (unI (opv GL st o)))))))) ∧
    (∀ d e k p ps, step P GL (.bsn d e k (p :: ps)) st K = (((p :: ps).all fun o => isI (opv GL st o) && ((cellsI (unI (opv GL st o))).length == k) && (cellsI (unI (opv GL st o))).all I.one) = true ∧ K (st.put d (.i (.sl ((p :: ps).map fun o => cellsI (unI (opv GL st o)))))))) ∧
    (∀ d e k p ps, step P GL (.bso d e k (p :: ps)) st K = (((p :: ps).all fun o => isI (opv GL st o) && ((cellsI (unI (opv GL st o))).length == k) && (cellsI (unI (opv GL st o))).all I.one) = true ∧ ownE (getS st.sto d) d e k ((p :: ps).map fun o => cellsI (unI (opv GL st o))) st K)) ∧
    (∀ d zs ps, step P GL (.build d zs ps) st K = ((ps.all fun p => isI (opv GL st p.2.2) && ((cellsI (unI (opv GL st p.2.2))).length == p.2.1)) = true ∧ K (st.put d (.i (.agg (fillI zs (ps.map fun p => (p.1, cellsI (unI (opv GL st p.2.2)))))))))) ∧
    (∀ d f a b, step P GL (.mkfn d f a b) st K = mkfnE f (a.mapM fun o => toCp (opv GL st o)) (b.mapM fun o => toCp (opv GL st o)) d st K) ∧ (∀ d f args, step P GL (.call d f args) st K = callG P GL (getC GL f args) st d K) ∧ (∀ d f args, step P GL (.callv d f args) st K = callG P GL (getCv GL f args) st d K) ∧
    (∀ d x y, step P GL (.max d x y) st K = maxE true (opv GL st x) (opv GL st y) d st K) ∧ (∀ d x y, step P GL (.min d x y) st K = maxE false (opv GL st x) (opv GL st y) d st K) ∧ (∀ d k x, step P GL (.conv d k x) st K = convE k (opv GL st x) d st K) ∧
    (∀ d e k b x y, step P GL (.app d e k b x y) st K = appE (opv GL st x) (opv GL st y) d e k b st K) ∧ (∀ d x lo hi k, step P GL (.slc d x lo hi k) st K = slcE (opv GL st x) (lo.map (opv GL st)) (hi.map (opv GL st)) d k st K) ∧ (∀ d e k x, step P GL (.slc0 d e k x) st K = slc0E (getS st.sto d) (opv GL st x) d e k st K) ∧
    (∀ d x lo hi, step P GL (.sslc d x lo hi) st K = sslcE (opv GL st x) (lo.map (opv GL st)) (hi.map (opv GL st)) d st K) ∧ (∀ d ls, step P GL (.mkmap d ls) st K = mkmapE (getS st.sto d) d ls st K) ∧ (∀ d x q z ok ls, step P GL (.lookup d x q z ok ls) st K = lookE (opv GL st x) (opv GL st q) z ok ls d st K) ∧
    (∀ x q v ls, step P GL (.mupd x q v ls) st K = mupdE (opv GL st x) (opv GL st q) (opv GL st v) ls st K) ∧ (∀ d x, step P GL (.lenm d x) st K = lenmE (opv GL st x) d st K) ∧ (∀ d x, step P GL (.rng d x) st K = rngE (getS st.sto d) (opv GL st x) d st K) ∧ (∀ d x, step P GL (.nxt d x) st K = nxtE (opv GL st x) d st K) ∧
    (∀ d x, step P GL (.ent d x) st K = entE (opv GL st x) d st K) ∧ (∀ d x i k l, step P GL (.iaa d x i k l) st K = iaaE (opv GL st x) (opv GL st i) d k l st K) ∧ (∀ d x, step P GL (.bytes d x) st K = bytesE (opv GL st x) d st K) ∧ (∀ d x, step P GL (.ofb d x) st K = ofbE (opv GL st x) d st K) ∧ (∀ d, step P GL (.no d) st K = False) := by
  and_intros <;> intros <;> rfl
/-- What instructions come to. -/
theorem V6 (st : St) (K : St → Prop) (d : Nat) :
    (∀ A C, pickE (.i (.bool true)) d A C st K = K (st.put d A)) ∧ (∀ A C, pickE (.i (.bool false)) d A C st K = K (st.put d C)) ∧ (∀ e k, nilsE none d e k st K = K ((st.bind d (.rows e k [])).put d (.ref (.sl d k 0 0)))) ∧ (∀ b e k, nilsE (some b) d e k st K = K (((st.frz d (.iter none [])).bind d (.rows e k [])).put d (.ref (.sl d k 0 0)))) ∧ (∀ e k, newR none d e k st K = K ((st.bind d (.rows e k [])).put d (.ref (.sl d k 0 0)))) ∧
    (∀ y, boxE (.i y) d st K = K (st.put d (.i (.elt (cellsI y) 0)))) ∧ (∀ cs, newE none d cs st K = (cs.all oneD = true ∧ K ((st.bind d (.cells cs)).put d (.ref (.loc d 0))))) ∧ (∀ cs off k ag, loadE (.i (.elt cs off)) d k ag st K = (off + k ≤ cs.length ∧ K (st.put d (.i (pk ag cs off k))))) ∧ (∀ nm off k ag, loadE (.ref (.loc nm off)) d k ag st K = loadB (getS st.sto nm) d off k ag st K) ∧
    (∀ nm kk row off k ag, loadE (.ref (.lel nm kk row off)) d k ag st K = loadR (getS st.sto nm) d kk row off k ag st K) ∧ (∀ cs off k, loadB (some (.cells cs)) d off k true st K = (off + k ≤ cs.length ∧ allI ((cs.drop off).take k) = true ∧ K (st.put d (pkD true cs off k)))) ∧ (∀ cs off k, loadB (some (.cells cs)) d off k false st K = (off + k ≤ cs.length ∧ K (st.put d (pkD false cs off k)))) ∧
    (∀ e k' rs kk row off k ag, loadR (some (.rows e k' rs)) d kk row off k ag st K = (kk = k' ∧ row < rs.length ∧ off + k ≤ (rs.getD row []).length ∧ K (st.put d (.i (pk ag (rs.getD row []) off k))))) ∧ (∀ cs o off, faE (.i (.elt cs o)) d off st K = K (st.put d (.i (.elt cs (o + off))))) ∧ (∀ nm o off, faE (.ref (.loc nm o)) d off st K = K (st.put d (.ref (.loc nm (o + off))))) ∧
    (∀ nm k row o off, faE (.ref (.lel nm k row o)) d off st K = K (st.put d (.ref (.lel nm k row (o + off))))) ∧ (∀ cs off k ag, fldE (.i (.agg cs)) d off k ag st K = (off + k ≤ cs.length ∧ K (st.put d (.i (pk ag cs off k))))) ∧
    (∀ rows q n k, iaE (.i (.sl rows)) (.i (.int q n)) d k st K = ((0 ≤ n ∧ n < rows.length) ∧ (rows.getD n.toNat []).length = k ∧ K (st.put d (.i (.elt (rows.getD n.toNat []) 0))))) ∧ (∀ nm k0 lo hi q n k, iaE (.ref (.sl nm k0 lo hi)) (.i (.int q n)) d k st K = iaR (getS st.sto nm) nm d k k0 lo hi n st K) ∧
    (∀ e k' rs nm k k0 lo hi n, iaR (some (.rows e k' rs)) nm d k k0 lo hi n st K = (k' = k ∧ k0 = k ∧ (0 ≤ n ∧ n < ((hi - lo : Nat) : Int)) ∧ K (st.put d (.ref (.lel nm k (lo + n.toNat) 0))))) ∧ (∀ l q n, idxE (.i (.str l)) (.i (.int q n)) d st K = ((0 ≤ n ∧ n < l.length) ∧ K (st.put d (.i (.int .u8 ((l.getD n.toNat 0).toNat : Int)))))) ∧
    (∀ cs q n k len ag, aidxE (.i (.agg cs)) (.i (.int q n)) d k len ag st K = ((0 ≤ n ∧ n < (len : Int)) ∧ n.toNat * k + k ≤ cs.length ∧ K (st.put d (.i (pk ag cs (n.toNat * k) k))))) ∧ (∀ op a b, binE op (.i a) (.i b) d st K = (binOk op a b ∧ K (st.put d (.i (binV op a b))))) ∧ (∀ op k a k' b, shE op (.i (.int k a)) (.i (.int k' b)) d st K = (0 ≤ b ∧ K (st.put d (.i (shV op k a b))))) ∧
    (∀ neg ls a b, eqsE neg ls (.i (.agg a)) (.i (.agg b)) d st K = eqsO (eqL ls a b) neg d st K) ∧ (∀ r, eqsO (some r) true d st K = K (st.put d (.i (.bool (!r))))) ∧ (∀ r, eqsO (some r) false d st K = K (st.put d (.i (.bool r)))) ∧ (∀ a b, eqbE true (.i (.bool a)) (.i (.bool b)) d st K = K (st.put d (.i (.bool (!(a == b)))))) ∧
    (∀ a b, eqbE false (.i (.bool a)) (.i (.bool b)) d st K = K (st.put d (.i (.bool (a == b))))) ∧ (∀ b, unE .not (.i (.bool b)) d st K = K (st.put d (.i (.bool !b)))) ∧ (∀ k n, unE .neg (.i (.int k n)) d st K = K (st.put d (.i (.int k (k.wrap (0 - n)))))) ∧ (∀ s, lensE (.i (.str s)) d st K = K (st.put d (.i (.int .i64 s.length)))) ∧
    (∀ rows, lenlE (.i (.sl rows)) d st K = K (st.put d (.i (.int .i64 rows.length)))) ∧ (∀ nm k lo hi, lenlE (.ref (.sl nm k lo hi)) d st K = K (st.put d (.i (.int .i64 ((hi - lo : Nat) : Int))))) ∧ (∀ vs i, extE (.i (.tup vs)) i d st K = (i < vs.length ∧ K (st.put d (.i (vs.getD i .undef))))) ∧ (∀ f a b, mkfnE f (some a) (some b) d st K = K (st.put d (fnD f a b))) ∧
    (∀ k a q b, maxE true (.i (.int k a)) (.i (.int q b)) d st K = K (st.put d (.i (.int k (if b > a then b else a))))) ∧ (∀ k a q b, maxE false (.i (.int k a)) (.i (.int q b)) d st K = K (st.put d (.i (.int k (if b < a then b else a))))) ∧ (∀ k q n, convE k (.i (.int q n)) d st K = K (st.put d (.i (.int k (k.wrap n))))) ∧
    (∀ nm k0 lo hi rows e k b, appE (.ref (.sl nm k0 lo hi)) (.i (.sl rows)) d e k b st K = appB (getS st.sto nm) nm k0 lo hi d e k b rows st K) ∧
    (∀ e' k' rs nm k0 lo hi e k b rows, appB (some (.rows e' k' rs)) nm k0 lo hi d e k b rows st K = ((Nat.blt nm 5000 || Nat.ble 5500 nm) = true ∧ e' = e ∧ k' = k ∧ k0 = k ∧ hi ≤ rs.length ∧ (∀ r ∈ rows, r.length = k) ∧ (∀ r ∈ rows, r.all I.one = true) ∧ (hi - lo + rows.length) * b ≤ 140737488355328 ∧ hi - lo + rows.length ≤ 140737488355328 ∧
      K (((⟨.sb nm (.iter none []) st.env, sbS nm (.iter none []) st.sto⟩ : St).setB nm (.rows e k ((rs.take hi).drop lo ++ rows))).put d (.ref (.sl nm k 0 (hi - lo + rows.length)))))) ∧
    (∀ rows l h k, slcE (.i (.sl rows)) l h d k st K = ((∀ r ∈ rows, r.length = k) ∧ slcO (loV l) (hiV rows.length h) rows.length (slcK1 rows d st K))) ∧ (∀ nm k0 lo hi l h k, slcE (.ref (.sl nm k0 lo hi)) l h d k st K = slcR (getS st.sto nm) nm k0 lo hi d k l h st K) ∧
    (∀ e k' rs nm k0 lo hi k l h, slcR (some (.rows e k' rs)) nm k0 lo hi d k l h st K = (k' = k ∧ k0 = k ∧ slcO (loV l) (hiV ((hi - lo : Nat) : Int) h) (rs.length - lo) (slcK2 nm k lo d st K))) ∧ (∀ rows a c, slcK1 rows d st K a c = K (st.put d (.i (.sl ((rows.take c).drop a))))) ∧ (∀ nm k lo a c, slcK2 nm k lo d st K a c = K (st.put d (.ref (.sl nm k (lo + a) (lo + c))))) ∧
    (∀ s a c, slcK3 s d st K a c = K (st.put d (.i (.str ((s.take c).drop a))))) ∧ (∀ e k x, slc0E none (.i (.sl x)) d e k st K = K ((st.bind d (.rows e k [])).put d (.ref (.sl d k 0 0)))) ∧ (∀ s l h, sslcE (.i (.str s)) l h d st K = slcO (loV l) (hiV s.length h) s.length (slcK3 s d st K)) ∧ (∀ ls, mkmapE none d ls st K = K ((st.bind d (.map ls [])).put d (.ref (.mp d)))) ∧
    (∀ q z ok ls, lookE (.i .nilmap) (.i q) z ok ls d st K = (fitQ ls q = true ∧ K (st.put d (.i (mlook [] q z ok))))) ∧ (∀ es q z ok ls, lookE (.i (.map es)) (.i q) z ok ls d st K = (fitQ ls q = true ∧ (∀ e ∈ es, fitQ ls e.1 = true) ∧ K (st.put d (.i (mlook es q z ok))))) ∧
    (∀ nm q z ok ls, lookE (.ref (.mp nm)) (.i q) z ok ls d st K = (fitQ ls q = true ∧ lookB (getS st.sto nm) ls q z ok d st K)) ∧ (∀ ls' es ls q z ok, lookB (some (.map ls' es)) ls q z ok d st K = (ls' = ls ∧ K (st.put d (.i (mlook es q z ok))))) ∧ (lenmE (.i .nilmap) d st K = K (st.put d (.i (.int .i64 0)))) ∧ (∀ es, lenmE (.i (.map es)) d st K = K (st.put d (.i (.int .i64 es.length)))) ∧
    (∀ nm, lenmE (.ref (.mp nm)) d st K = lenmB (getS st.sto nm) d st K) ∧ (∀ ls es, lenmB (some (.map ls es)) d st K = K (st.put d (.i (.int .i64 es.length)))) ∧ (rngE none (.i .nilmap) d st K = K ((st.bind d (.iter none [])).put d (.ref (.it d)))) ∧ (∀ es, rngE none (.i (.map es)) d st K = K ((st.bind d (.iter none es)).put d (.ref (.it d)))) ∧
    (∀ nm, nxtE (.ref (.it nm)) d st K = nxtB (getS st.sto nm) nm d st K) ∧ (∀ nm, entE (.ref (.it nm)) d st K = entB (getS st.sto nm) d st K) ∧ (∀ c r, entB (some (.iter (some c) r)) d st K = K (st.put d (.i (.tup [c.1, c.2])))) ∧ (∀ neg, isnilE .pt neg (.i .nilp) d st K = K (st.put d (.i (.bool (true != neg))))) ∧
    (∀ neg, isnilE .fn neg (.i .nilfn) d st K = K (st.put d (.i (.bool (true != neg))))) ∧ (∀ neg, isnilE .mp neg (.i .nilmap) d st K = K (st.put d (.i (.bool (true != neg))))) ∧ (∀ neg c o, isnilE .pt neg (.i (.elt c o)) d st K = K (st.put d (.i (.bool (false != neg))))) ∧ (∀ neg f a b, isnilE .fn neg (.i (.fn f a b)) d st K = K (st.put d (.i (.bool (false != neg))))) ∧
    (∀ neg f a b, isnilE .fn neg (.fn f a b) d st K = K (st.put d (.i (.bool (false != neg))))) ∧ (∀ neg es, isnilE .mp neg (.i (.map es)) d st K = K (st.put d (.i (.bool (false != neg))))) ∧ (∀ neg n o, isnilE .pt neg (.ref (.loc n o)) d st K = K (st.put d (.i (.bool (false != neg))))) ∧ (∀ neg n k r o, isnilE .pt neg (.ref (.lel n k r o)) d st K = K (st.put d (.i (.bool (false != neg))))) ∧
    (∀ neg n, isnilE .mp neg (.ref (.mp n)) d st K = K (st.put d (.i (.bool (false != neg))))) ∧
    (∀ cs o q n k l, iaaE (.i (.elt cs o)) (.i (.int q n)) d k l st K = ((0 ≤ n ∧ n < (l : Int)) ∧ K (st.put d (.i (.elt cs (o + n.toNat * k)))))) ∧ (∀ nm o q n k l, iaaE (.ref (.loc nm o)) (.i (.int q n)) d k l st K = ((0 ≤ n ∧ n < (l : Int)) ∧ K (st.put d (.ref (.loc nm (o + n.toNat * k)))))) ∧
    (∀ nm kk row o q n k l, iaaE (.ref (.lel nm kk row o)) (.i (.int q n)) d k l st K = ((0 ≤ n ∧ n < (l : Int)) ∧ K (st.put d (.ref (.lel nm kk row (o + n.toNat * k)))))) ∧
    (∀ s, bytesE (.i (.str s)) d st K = K (st.put d (.i (.sl (rowsB s))))) ∧ (∀ rows, ofbE (.i (.sl rows)) d st K = ofbO (bytesI rows) d st K) ∧ (∀ l, ofbO (some l) d st K = K (st.put d (.i (.str l)))) := by
  and_intros <;> intros <;> first | rfl | (simp only [pickE, br]; simp; done) | (simp [loadB]; done) | (simp only [unE]; done)
theorem V20 (st : St) (K : St → Prop) :
    (∀ nm off v k, storeE (.ref (.loc nm off)) v k st K = storeB (getS st.sto nm) nm off k v st K) ∧ (∀ nm kk row off v k, storeE (.ref (.lel nm kk row off)) v k st K = storeR (getS st.sto nm) nm kk row off k v st K) ∧
    (∀ cs nm off k v, storeB (some (.cells cs)) nm off k v st K = ((cellsD v).length = k ∧ (cellsD v).all oneD = true ∧ off + k ≤ cs.length ∧ K (st.setB nm (.cells (setL cs off (cellsD v)))))) ∧
    (∀ e k' rs nm kk row off k v, storeR (some (.rows e k' rs)) nm kk row off k v st K = (kk = k' ∧ row < rs.length ∧ isI v = true ∧ (cellsI (unI v)).length = k ∧ (cellsI (unI v)).all I.one = true ∧ off + k ≤ (rs.getD row []).length ∧ K (st.setB nm (.rows e k' (rs.set row (setL (rs.getD row []) off (cellsI (unI v)))))))) ∧
    (∀ nm off v k, stfrzE (.ref (.loc nm off)) v k st K = stfrzB (getS st.sto nm) nm off k v st K) ∧ (∀ cs nm off k v, stfrzB (some (.cells cs)) nm off k v st K = (off = 0 ∧ cs.length = k ∧ isI v = true ∧ (cellsI (unI v)).length = k ∧ (cellsI (unI v)).all I.one = true ∧ K (st.frz nm (.cells ((cellsI (unI v)).map .i))))) ∧
    (∀ nm q u ls, mupdE (.ref (.mp nm)) (.i q) (.i u) ls st K = (fitQ ls q = true ∧ mupdB (getS st.sto nm) nm ls q u st K)) ∧ (∀ ls' es nm ls q u, mupdB (some (.map ls' es)) nm ls q u st K = (ls' = ls ∧ K (st.setB nm (.map ls (mput es q u))))) := by
  and_intros <;> intros <;> rfl
/-- Lists that are written out. -/
theorem V7 :
    (∀ (α β : Type) (f : α → β) a l, (a :: l).map f = f a :: l.map f) ∧ (∀ (α β : Type) (f : α → β), ([] : List α).map f = []) ∧ (∀ (α : Type) (l : List α), l.drop 0 = l) ∧ (∀ (α : Type) (a : α) l n, (a :: l).drop (n + 1) = l.drop n) ∧ (∀ (α : Type) (l : List α), l.take 0 = []) ∧
    (∀ (α : Type) (a : α) l n, (a :: l).take (n + 1) = a :: l.take n) ∧ (∀ (α : Type) (a d : α) l, (a :: l).getD 0 d = a) ∧ (∀ (α : Type) (a d : α) l n, (a :: l).getD (n + 1) d = l.getD n d) ∧ (∀ (α : Type) (a : α) l, (a :: l).length = l.length + 1) ∧ (∀ (α : Type), ([] : List α).length = 0) ∧
    (∀ (α : Type) (p : α → Bool) a l, (a :: l).all p = (p a && l.all p)) ∧ (∀ (α : Type) (p : α → Bool), ([] : List α).all p = true) ∧ (∀ (α : Type) (a : α) l m, (a :: l) ++ m = a :: (l ++ m)) ∧ (∀ (α : Type) (m : List α), [] ++ m = m) ∧ (∀ (α : Type) (m : List α), m ++ [] = m) ∧
    (∀ (α β : Type) (f : α → List β), ([] : List α).flatMap f = []) ∧ (∀ (α β : Type) (f : α → List β) a l, (a :: l).flatMap f = f a ++ l.flatMap f) ∧ (∀ (α : Type) (n : Nat), ([] : List α).drop n = []) ∧ (∀ (α : Type) (n : Nat), ([] : List α).take n = []) ∧ (∀ (α β : Type) (f : α → β), Option.map f none = none) ∧ (∀ (α β : Type) (f : α → β) a, Option.map f (some a) = some (f a)) ∧
    (∀ l : List I, (l.map D.i).flatMap D.nms = []) ∧ (∀ l : List I, allI (l.map D.i) = true) ∧ (∀ x l, allI (.i x :: l) = allI l) ∧ (allI [] = true) ∧ (∀ r l, allI (.ref r :: l) = false) ∧ (∀ l, allI (.any :: l) = false) ∧ (∀ l : List I, (l.map D.i).all oneD = l.all I.one) ∧ (∀ l : List I, (l.map D.i).map unI = l) ∧ (∀ nm c (l : List I), (l.map D.i).map (sbD nm c) = l.map D.i) := by
  and_intros <;> intros <;> first | rfl | (simp; done) | (simp [allI, isI]; done) | (simp only [List.all_map]; rfl) | skip
  · rename_i l; induction l with | nil => rfl | cons a l ih => simp [D.nms]
  · rename_i l; induction l with | nil => rfl | cons a l ih => simpa [unI] using ih
  · rename_i nm c l; simp [sbD]
/-- Data in cells. -/
theorem V8 :
    (∀ cs, cellsI (.agg cs) = cs) ∧ (∀ b, cellsI (.bool b) = [.bool b]) ∧ (∀ k n, cellsI (.int k n) = [.int k n]) ∧ (∀ s, cellsI (.str s) = [.str s]) ∧ (∀ r, cellsI (.sl r) = [.sl r]) ∧ (∀ f a b, cellsI (.fn f a b) = [.fn f a b]) ∧ (∀ c o, cellsI (.elt c o) = [.elt c o]) ∧ cellsI .nilfn = [.nilfn] ∧ cellsI .nilp = [.nilp] ∧ cellsI .nilmap = [.nilmap] ∧ (∀ es, cellsI (.map es) = [.map es]) ∧
    (∀ cs, cellsD (.i (.agg cs)) = cs.map .i) ∧ (∀ b, cellsD (.i (.bool b)) = [.i (.bool b)]) ∧ (∀ k n, cellsD (.i (.int k n)) = [.i (.int k n)]) ∧ (∀ s, cellsD (.i (.str s)) = [.i (.str s)]) ∧ (∀ r, cellsD (.i (.sl r)) = [.i (.sl r)]) ∧ (∀ f a b, cellsD (.i (.fn f a b)) = [.i (.fn f a b)]) ∧ (∀ c o, cellsD (.i (.elt c o)) = [.i (.elt c o)]) ∧
    cellsD (.i .nilfn) = [.i .nilfn] ∧ cellsD (.i .nilp) = [.i .nilp] ∧ cellsD (.i .nilmap) = [.i .nilmap] ∧ (∀ es, cellsD (.i (.map es)) = [.i (.map es)]) ∧ (∀ r, cellsD (.ref r) = [.ref r]) ∧ (∀ f a b, cellsD (.fn f a b) = [.fn f a b]) ∧
    (∀ x, unI (.i x) = x) ∧ (∀ x, isI (.i x) = true) ∧ (∀ r, isI (.ref r) = false) ∧ (isI .any = false) ∧ (∀ f a b, isI (.fn f a b) = false) ∧ (∀ x, oneD (.i x) = x.one) ∧ (∀ r, oneD (.ref r) = true) ∧ (∀ f a b, oneD (.fn f a b) = true) ∧
    (∀ b, I.one (.bool b) = true) ∧ (∀ k n, I.one (.int k n) = true) ∧ (∀ s, I.one (.str s) = true) ∧ (∀ r, I.one (.sl r) = true) ∧ (∀ f a b, I.one (.fn f a b) = true) ∧ (∀ c o, I.one (.elt c o) = true) ∧ I.one .nilfn = true ∧ I.one .nilp = true ∧ I.one .nilmap = true ∧ (∀ es, I.one (.map es) = true) ∧
    (∀ c cs off k, pk true (c :: cs) off k = .agg (((c :: cs).drop off).take k)) ∧ (∀ c cs off k, pk false (c :: cs) off k = (c :: cs).getD off .undef) ∧ (∀ c cs off k, pkD true (c :: cs) off k = .i (.agg ((((c :: cs).drop off).take k).map unI))) ∧ (∀ c cs off k, pkD false (c :: cs) off k = (c :: cs).getD off .any) ∧
    (∀ l off k, pkD true (l.map D.i) off k = .i (pk true l off k)) ∧ (∀ (l : List I) off k, allI (((l.map D.i).drop off).take k) = true) ∧
    (∀ zs, fillI zs [] = zs) ∧ (∀ zs off cs r, fillI zs ((off, cs) :: r) = fillI (setL zs off cs) r) ∧ (∀ (cs : List I) off vs, setL cs off vs = cs.take off ++ vs ++ cs.drop (off + vs.length)) ∧ (∀ (cs : List D) off vs, setL cs off vs = cs.take off ++ vs ++ cs.drop (off + vs.length)) ∧
    (∀ x, toCp (.i x) = some (.i x)) ∧ (∀ r, toCp (.ref r) = some (.ref r)) ∧ (toCp .any = some .any) ∧ (∀ f a b, fnD f a b = if a.all iCp && b.all iCp then .i (.fn f (a.map unC) (b.map unC)) else .fn f a b) ∧ (∀ x, iCp (.i x) = true) ∧ (∀ r, iCp (.ref r) = false) ∧ (iCp .any = false) ∧ (∀ x, unC (.i x) = x) := by
  have hu : ∀ l : List I, (l.map D.i).map unI = l := fun l => by induction l with | nil => rfl | cons a l ih => simp_all [unI]
  have ha : ∀ l : List I, allI (l.map D.i) = true := fun l => by simp [allI, isI]
  and_intros <;> intros <;> first | rfl | (simp only [pkD, pk, if_true, ← List.map_drop, ← List.map_take, hu]; done) | (rw [← List.map_drop, ← List.map_take]; exact ha _)
/-- Code and its ends. -/
theorem V9 (K : Exit → St → Prop) (st : St) :
    (W P GL .skip K st = K .normal st) ∧ (∀ gs, W P GL (.reg gs) K st = ev P GL gs st (K .normal)) ∧ (∀ a b, W P GL (.seq a b) K st = W P GL a (thenK (W P GL b) K) st) ∧ (∀ c a b, W P GL (.cond c a b) K st = condE P GL (opv GL st c) a b K st) ∧
    (∀ id c, W P GL (.block id c) K st = W P GL c (blockK id K) st) ∧ (∀ id, W P GL (.exit id) K st = K (.exit id) st) ∧ (W P GL .ret K st = K .ret st) ∧ (∀ a c, condE P GL (.i (.bool true)) a c K st = W P GL a K st) ∧ (∀ a c, condE P GL (.i (.bool false)) a c K st = W P GL c K st) := by
  and_intros <;> intros <;> first | rfl | (simp only [W, condE]; done) | (simp [condE, br]; done) | (simp only [W, condE]; rfl)
/-- Results. -/
theorem V10 :
    (∀ R y, retP R (some (.i y)) = R (.i y) []) ∧ (∀ x y, isR y (.i x) [] = (x = y)) ∧ (∀ st rs, retD st rs = outO (rvsD st rs)) ∧ (∀ xs, outO (some xs) = outD xs) ∧ (∀ x, outD [x] = some x) ∧ (outD [] = some (.i (.tup []))) ∧ (∀ x y l, outD (x :: y :: l) = if allI (x :: y :: l) then some (.i (.tup ((x :: y :: l).map unI))) else none) ∧
    (∀ st, rvsD st [] = some []) ∧ (∀ st r rs, rvsD st (r :: rs) = consO (rvD st r) (rvsD st rs)) ∧ (∀ x xs, consO (some x) (some xs) = some (x :: xs)) ∧ (∀ st t, rvD st (.tmp t) = rvT (getE st.env t)) ∧ (∀ st t k ag, rvD st (.cell t k ag) = rvC (getE st.env t) k ag st) ∧
    (∀ x, rvT (.i x) = some (.i x)) ∧ (∀ r, rvT (.ref r) = some (.ref r)) ∧ (∀ f a b, rvT (.fn f a b) = some (.fn f a b)) ∧ (∀ cs off k ag st, rvC (.i (.elt cs off)) k ag st = if Nat.ble (off + k) cs.length then some (.i (pk ag cs off k)) else none) ∧ (∀ nm off k ag e s, rvC (.ref (.loc nm off)) k ag ⟨e, s⟩ = rvC1 (getS s nm) off k ag) ∧
    (∀ cs off k, rvC1 (some (.cells cs)) off k true = if Nat.ble (off + k) cs.length && allI ((cs.drop off).take k) then some (pkD true cs off k) else none) ∧ (∀ cs off k, rvC1 (some (.cells cs)) off k false = if Nat.ble (off + k) cs.length then some (pkD false cs off k) else none) ∧
    (∀ rs st, rsN rs st = deepN st.sto (rs.flatMap (rsM st))) ∧ (∀ t st, rsM st (.tmp t) = (getE st.env t).nms) ∧ (∀ t k ag st, rsM st (.cell t k ag) = (getE st.env t).nms) := by
  and_intros <;> intros <;> first | rfl | (simp [isR]; done) | (simp [rvC1]; done) | (simp only [rsN]; congr 1; congr 1; funext r; cases r <;> rfl)
/-- Less is known. -/
theorem V11 : (∀ e s t, Sub ⟨.l e, s⟩ t = (subE e t.env ∧ subS s t.sto ∧ clE s e = true ∧ clS s s = true)) ∧ (∀ e, subE [] e = True) ∧ (∀ m d r e, subE ((m, d) :: r) e = (getE e m = d ∧ subE r e)) ∧ (∀ s, subS [] s = True) ∧ (∀ m d r s, subS ((m, d) :: r) s = (getS s m = some d ∧ subS r s)) ∧
    (∀ S, clE S [] = true) ∧ (∀ S m d r, clE S ((m, d) :: r) = (inS S d.nms && clE S r)) ∧ (∀ S, clS S [] = true) ∧ (∀ S m b r, clS S ((m, b) :: r) = (inS S b.nms && clS S r)) ∧ (∀ S, inS S [] = true) ∧ (∀ S m l, inS S (m :: l) = ((getS S m).isSome && inS S l)) ∧
    (∀ cs, Blk.nms (.cells cs) = cs.flatMap D.nms) ∧ (∀ e k rs, Blk.nms (.rows e k rs) = []) ∧ (∀ l es, Blk.nms (.map l es) = []) ∧ (∀ c r, Blk.nms (.iter c r) = []) := by
  and_intros <;> intros <;> rfl
/-- Instructions that are passed over. -/
theorem V12 (st : St) : (∀ i, skipI i st = putO st i.dst (.i .undef)) := fun i => by unfold skipI putO; cases i.dst <;> rfl
/-- Open regions. -/
theorem V13 (sn : List Nat) (r : List GI) (K : St → Prop) :
    (∀ e s, evDR P GL sn r K ⟨e, s⟩ = evD P GL sn r ⟨e, s⟩ K) ∧ (∀ i st, evD P GL sn (⟨none, i⟩ :: r) st K = stepD P GL sn i st (evDR P GL sn r K)) ∧ (∀ s w i st, evD P GL sn (⟨some (s, w), i⟩ :: r) st K = gdD P GL s (getE st.env s) w sn i r st K) ∧
    (∀ s i st, gdD P GL s (.i (.bool true)) true sn i r st K = stepD P GL sn i st (evDR P GL sn r K)) ∧ (∀ s i st, gdD P GL s (.i (.bool false)) true sn i r st K = evDR P GL sn r K (skipI i st)) ∧ (∀ s i st, gdD P GL s (.i (.bool true)) false sn i r st K = evDR P GL sn r K (skipI i st)) ∧
    (∀ s i st, gdD P GL s (.i (.bool false)) false sn i r st K = stepD P GL sn i st (evDR P GL sn r K)) ∧ (∀ s w i st, gdD P GL s (.i .undef) w sn i r st K = evDR P GL sn r K (skipI i st)) := by
  and_intros <;> intros <;> first | rfl | (simp [gdD, gdE, br]; done) | (simp [notIn, D.nms]; done) | (simp; done)
/-- Steps of an open region. -/
theorem V14 (sn : List Nat) (st : St) (K : St → Prop) :
    (∀ d x, stepD P GL sn (.mov d x) st K = K (st.put d (opv GL st x))) ∧ (∀ d c a b, stepD P GL sn (.pick d c a b) st K = pickE (opv GL st c) d (opv GL st a) (opv GL st b) st K) ∧ (∀ d zs, stepD P GL sn (.alloc d zs) st K = newE (getS st.sto d) d (zs.map .i) st K) ∧
    (∀ d x k ag, stepD P GL sn (.load d x k ag) st K = (notIn sn (opv GL st x) ∧ loadE (opv GL st x) d k ag st K)) ∧ (∀ x v k, stepD P GL sn (.store x v k) st K = storeD sn (opv GL st x) (opv GL st v) k st K) ∧
    (∀ d x o, stepD P GL sn (.fa d x o) st K = faE (opv GL st x) d o st K) ∧ (∀ d x o k ag, stepD P GL sn (.fld d x o k ag) st K = fldE (opv GL st x) d o k ag st K) ∧ (∀ d s i k, stepD P GL sn (.ia d s i k) st K = ((notIn sn (opv GL st s) ∧ notIn sn (opv GL st i)) ∧ iaE (opv GL st s) (opv GL st i) d k st K)) ∧
    (∀ d s i, stepD P GL sn (.idx d s i) st K = idxE (opv GL st s) (opv GL st i) d st K) ∧ (∀ d x i k len ag, stepD P GL sn (.aidx d x i k len ag) st K = aidxE (opv GL st x) (opv GL st i) d k len ag st K) ∧ (∀ d op x y, stepD P GL sn (.bin d op x y) st K = binE op (opv GL st x) (opv GL st y) d st K) ∧
    (∀ d op x y, stepD P GL sn (.sh d op x y) st K = shE op (opv GL st x) (opv GL st y) d st K) ∧ (∀ d n ls x y, stepD P GL sn (.eqs d n ls x y) st K = eqsE n ls (opv GL st x) (opv GL st y) d st K) ∧ (∀ d n x y, stepD P GL sn (.eqb d n x y) st K = eqbE n (opv GL st x) (opv GL st y) d st K) ∧
    (∀ d op x, stepD P GL sn (.un d op x) st K = unE op (opv GL st x) d st K) ∧ (∀ d x, stepD P GL sn (.lens d x) st K = lensE (opv GL st x) d st K) ∧ (∀ d x, stepD P GL sn (.lenl d x) st K = lenlE (opv GL st x) d st K) ∧ (∀ d x i, stepD P GL sn (.ext d x i) st K = extE (opv GL st x) i d st K) ∧
    (∀ d e k p ps, stepD P GL sn (.bsn d e k (p :: ps)) st K = (((p :: ps).all fun o => isI (opv GL st o) && ((cellsI (unI (opv GL st o))).length == k) && (cellsI (unI (opv GL st o))).all I.one) = true ∧ K (st.put d (.i (.sl ((p :: ps).map fun o => cellsI (unI (opv GL st o)))))))) ∧
    (∀ d zs ps, stepD P GL sn (.build d zs ps) st K = ((ps.all fun p => isI (opv GL st p.2.2) && ((cellsI (unI (opv GL st p.2.2))).length == p.2.1)) = true ∧ K (st.put d (.i (.agg (fillI zs (ps.map fun p => (p.1, cellsI (unI (opv GL st p.2.2)))))))))) ∧
    (∀ d f a b, stepD P GL sn (.mkfn d f a b) st K = mkfnE f (a.mapM fun o => toCp (opv GL st o)) (b.mapM fun o => toCp (opv GL st o)) d st K) ∧ (∀ d f args, stepD P GL sn (.call d f args) st K = ((args.all fun o => isI (opv GL st o)) = true ∧ callL P GL f (args.map fun o => unI (opv GL st o)) st d K)) ∧ (∀ d f args, stepD P GL sn (.callv d f args) st K = ((args.all fun o => isI (opv GL st o)) = true ∧ callLv P GL (opv GL st f) (args.map fun o => unI (opv GL st o)) st d K)) ∧
    (∀ d x y, stepD P GL sn (.max d x y) st K = maxE true (opv GL st x) (opv GL st y) d st K) ∧ (∀ d x y, stepD P GL sn (.min d x y) st K = maxE false (opv GL st x) (opv GL st y) d st K) ∧ (∀ d k x, stepD P GL sn (.conv d k x) st K = convE k (opv GL st x) d st K) ∧
    (∀ d x lo hi, stepD P GL sn (.sslc d x lo hi) st K = sslcE (opv GL st x) (lo.map (opv GL st)) (hi.map (opv GL st)) d st K) ∧ (∀ d x q z ok ls, stepD P GL sn (.lookup d x q z ok ls) st K = lookE (opv GL st x) (opv GL st q) z ok ls d st K) ∧
    (∀ x q v ls, stepD P GL sn (.mupd x q v ls) st K = mupdE (opv GL st x) (opv GL st q) (opv GL st v) ls st K) ∧ (∀ d x, stepD P GL sn (.lenm d x) st K = lenmE (opv GL st x) d st K) ∧ (∀ d x i k l, stepD P GL sn (.iaa d x i k l) st K = iaaE (opv GL st x) (opv GL st i) d k l st K) ∧ (∀ d x, stepD P GL sn (.bytes d x) st K = bytesE (opv GL st x) d st K) ∧ (∀ d x, stepD P GL sn (.ofb d x) st K = ofbE (opv GL st x) d st K) := by
  have hc : ∀ d f args, stepD P GL sn (.call d f args) st K = ((args.all fun o => isI (opv GL st o)) = true ∧ callL P GL f (args.map fun o => unI (opv GL st o)) st d K) := fun d f args => by
    simp only [stepD]
    refine propext ⟨fun ⟨h, y, h1, h2⟩ => ⟨h, y, by rw [← allI_os h]; exact h1, h2⟩, fun ⟨h, y, h1, h2⟩ => ⟨h, y, by rw [allI_os h]; exact h1, h2⟩⟩
  have hv : ∀ d f args, stepD P GL sn (.callv d f args) st K = ((args.all fun o => isI (opv GL st o)) = true ∧ callLv P GL (opv GL st f) (args.map fun o => unI (opv GL st o)) st d K) := fun d f args => by
    simp only [stepD, callLv]
    refine propext ⟨fun ⟨h0, h, hh⟩ => ⟨h, ?_⟩, fun ⟨h, hh⟩ => ?_⟩
    · cases hf : opv GL st f with
      | i x =>
        rw [hf] at hh
        cases x <;> simp only [getV] at hh
        case fn g a b =>
          obtain ⟨y, h1, h2⟩ := hh
          exact ⟨y, by rw [List.map_append, List.map_append, ← allI_os h]; exact h1, h2⟩
      | _ => rw [hf] at h0; simp [isI] at h0
    · cases hf : opv GL st f with
      | i x =>
        rw [hf] at hh
        cases x <;> simp only [] at hh
        case fn g a b =>
          obtain ⟨y, h1, h2⟩ := hh
          refine ⟨rfl, h, ?_⟩
          simp only [getV]
          exact ⟨y, by rw [List.map_append, List.map_append, ← allI_os h] at h1; exact h1, h2⟩
      | _ => rw [hf] at hh; exact hh.elim
  and_intros <;> intros <;> first | exact hc _ _ _ | exact hv _ _ _ | rfl | (simp only [stepD, pureDst, Option.isSome, true_and, step]; done) | (simp [storeD]; done) | (simp only [stepD, pureDst, Option.isSome, true_and, step]; rfl)
/-- What hangs on no state. -/
theorem V15 :
    (∀ e s nm, St.frzN ⟨e, s⟩ nm = frzM (getS s nm) nm ⟨e, s⟩) ∧
    (∀ b nm st, frzM (some b) nm st = if frzOk b = true then st.frz nm b else st) ∧ (∀ nm st, frzM none nm st = st) ∧ (∀ st, frzNs [] st = st) ∧ (∀ nm l st, frzNs (nm :: l) st = frzNs l (st.frzN nm)) ∧
    (∀ cs, frzOk (.cells cs) = allI cs) ∧ (∀ e k rs, frzOk (.rows e k rs) = true) ∧ (∀ ls es, frzOk (.map ls es) = true) ∧ (∀ c rs, frzOk (.iter c rs) = true) ∧
    (∀ s, deepN s [] = []) ∧ (∀ s nm l, deepN s (nm :: l) = inM (getS s nm) ++ nm :: deepN s l) ∧ (∀ st k x, ldN st k (.i x) = []) ∧ (∀ st k, ldN st k .any = []) ∧ (∀ st k nm off, ldN st k (.ref (.loc nm off)) = deepN st.sto (inMk (getS st.sto nm) off k)) ∧ (∀ st k nm kk row off, ldN st k (.ref (.lel nm kk row off)) = []) ∧ (∀ cs off k, inMk (some (.cells cs)) off k = ((cs.drop off).take k).flatMap D.nms) ∧
    (inM none = []) ∧ (∀ cs, inM (some (.cells cs)) = cs.flatMap D.nms) ∧ (∀ e k rs, inM (some (.rows e k rs)) = []) ∧ (∀ ls es, inM (some (.map ls es)) = []) ∧ (∀ c r, inM (some (.iter c r)) = []) ∧
    (∀ x, D.nms (.i x) = []) ∧ (D.nms .any = []) ∧ (∀ r, D.nms (.ref r) = [r.nm]) ∧ (∀ f a b, D.nms (.fn f a b) = a.flatMap Cp.nms ++ b.flatMap Cp.nms) ∧ (∀ x, Cp.nms (.i x) = []) ∧ (Cp.nms .any = []) ∧ (∀ r, Cp.nms (.ref r) = [r.nm]) ∧
    (∀ l h top Q, slcO (some l) (some h) top Q = ((0 ≤ l ∧ l ≤ h ∧ h ≤ (top : Int)) ∧ Q l.toNat h.toNat)) ∧ (loV none = some 0) ∧ (∀ k n, loV (some (.i (.int k n))) = some n) ∧ (∀ l, hiV l none = some l) ∧ (∀ l k n, hiV l (some (.i (.int k n))) = some n) ∧
    (∀ post (K' : Exit → St → Prop) e s, postK post K' ⟨e, s⟩ = K' .normal (frzNs (slotN post ⟨e, s⟩) ⟨e, s⟩)) ∧ (∀ s, slotN [] s = []) ∧ (∀ t l s, slotN (t :: l) s = (getE s.env t).nms ++ slotN l s) ∧
    (∀ s x, notIn s (.i x) = True) ∧ (∀ s, notIn s .any = True) ∧ (∀ s r, notIn s (.ref r) = (s.contains r.nm = false)) ∧ (∀ (n : Nat), ([] : List Nat).contains n = false) ∧ (∀ (n m : Nat) l, (m :: l).contains n = (n == m || l.contains n)) ∧
    (∀ sn st K nm o v k, storeD sn (.ref (.loc nm o)) v k st K = (sn.contains nm = true ∧ storeE (.ref (.loc nm o)) v k st K)) ∧ (∀ a b, Nat.ble a b = decide (a ≤ b)) ∧ (∀ a b, Nat.blt a b = decide (a < b)) := by
  and_intros <;> intros <;> first | rfl | (simp [deepN, List.flatMap_cons]; done) | (simp [notIn, D.nms]; done) | (simp [storeD]; done) | (rw [Bool.eq_iff_iff]; simp) | (simp; done)
/-- Ends. -/
theorem V16 (K : Exit → St → Prop) (st : St) :
    (∀ w : (Exit → St → Prop) → St → Prop, thenK w K .normal st = w K st) ∧ (∀ (w : (Exit → St → Prop) → St → Prop) id, thenK w K (.exit id) st = K (.exit id) st) ∧ (∀ w : (Exit → St → Prop) → St → Prop, thenK w K .ret st = K .ret st) ∧
    (∀ id, blockK id K .normal st = K .normal st) ∧ (∀ id id', blockK id K (.exit id') st = if id' = id then K .normal st else K (.exit id') st) ∧ (∀ id, blockK id K .ret st = K .ret st) ∧
    (∀ F I n i, roundI F I n i K .normal st = (i < n ∧ I (i + 1) ∧ Sub (F (i + 1)) st)) ∧ (∀ F I n i id, roundI F I n i K (.exit id) st = K (.exit id) st) ∧ (∀ F I n i, roundI F I n i K .ret st = K .ret st) ∧
    (∀ (ι : Type) (F : ι → St) m i, roundG F m i K .normal st = ∃ i', m i' < m i ∧ Sub (F i') st) ∧ (∀ (ι : Type) (F : ι → St) m i id, roundG F m i K (.exit id) st = K (.exit id) st) ∧ (∀ (ι : Type) (F : ι → St) m i, roundG F m i K .ret st = K .ret st) ∧
    (∀ φ S, stopK φ S K .normal st = (φ ∧ Sub S st)) ∧ (∀ φ S id, stopK φ S K (.exit id) st = K (.exit id) st) ∧ (∀ φ S, stopK φ S K .ret st = K .ret st) := by
  and_intros <;> intros <;> rfl
theorem V17 (st : St) : (∀ rs g mv R, bodyK rs g mv R .normal st = resV rs g mv R st) ∧ (∀ rs g mv R, bodyK rs g mv R .ret st = resV rs g mv R st) := by
  and_intros <;> intros <;> rfl
theorem V21 : (∀ f a b xs st d K, callLv P GL (.i (.fn f a b)) xs st d K = callL P GL f (a ++ xs ++ b) st d K) := fun _ _ _ _ _ _ _ => rfl
theorem V18 : (∀ sn gs post (K : Exit → St → Prop) st, dregE P GL sn gs post K st = evD P GL sn gs st (postK post K)) ∧ (∀ st K, ev P GL [] st K = K st) ∧ (∀ sn st K, evD P GL sn [] st K = K st) := ⟨fun _ _ _ _ _ => rfl, fun _ _ => rfl, fun _ _ _ => rfl⟩
theorem V19 (st : St) : (dN GL [] st = []) ∧ (∀ g i r, dN GL (⟨g, i⟩ :: r) st = dI GL st i ++ dN GL r st) := ⟨rfl, fun _ _ _ => rfl⟩
/-- A contract of an entry that answers at once, on plain data. -/
theorem MC_of_val {f : FuncId} {args : List I} {y : I}
    (h : ∀ (M : Mem) (w : World) (vs : Array Value), RepL M args vs.toList → ∃ v, Rep M y v ∧ (callFunc f vs).run P w = .ok (.value v) w) : MC P GL f (args.map D.i) [] [] (isR y) := by
  intro M μ w vs h1 h2 h3
  have hr : RepL M args vs.toList := ⟨by simpa using h3.1, fun j a b => by have := h3.2 j (by simpa using a) b; rw [List.getElem_map] at this; exact this⟩
  obtain ⟨v, hv, hc⟩ := h M w vs hr
  exact .inr (.inr ⟨v, w, hc, .i y, [], M, μ, ⟨rfl, rfl⟩, h1, repD_i hv, MExt.refl _ _, Keeps.refl _ _, fun _ _ _ => rfl⟩)
/-- A contract that changes nothing in the world, on plain data. -/
theorem MC_of_same {f : FuncId} {args : List I} {y : I} (hen : enters P f = true)
    (h : ∀ (M : Mem) (w : World) (vs : Array Value), M.Sub w → GlobOk GL M → RepL M args vs.toList → ∃ v, Rep M y v ∧ Calls P f vs w fun e w' => e = .returned v ∧ w' = w) : MC P GL f (args.map D.i) [] [] (isR y) := by
  intro M μ w vs h1 h2 h3
  have hr : RepL M args vs.toList := ⟨by simpa using h3.1, fun j a b => by have := h3.2 j (by simpa using a) b; rw [List.getElem_map] at this; exact this⟩
  obtain ⟨v, hv, hc⟩ := h M w vs h1.sub h2 hr
  refine .inl ⟨hen, hc.mono ?_⟩
  rintro e w' ⟨rfl, rfl⟩
  exact ⟨v, rfl, .i y, [], M, μ, ⟨rfl, rfl⟩, h1, repD_i hv, MExt.refl _ _, Keeps.refl _ _, fun _ _ _ => rfl⟩
end
end Go.Dl
end
