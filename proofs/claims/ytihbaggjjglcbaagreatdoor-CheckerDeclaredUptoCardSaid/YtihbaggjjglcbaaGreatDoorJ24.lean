/-
  What the laws of this seat share, part 24: no statement of its own.
-/
import Derived.Test.YtihbaggjjglcbaaGreatDoorJ23
set_option linter.unusedVariables false
set_option linter.unusedSimpArgs false

section
/-
  A data-level logic, second edition: other names for the same memory; results; contracts out of code.
-/
set_option linter.unusedVariables false
set_option linter.unusedSimpArgs false
namespace Go.Dl
open Go Go.RowKit

/-- Other names. -/
def mpR (f : Nat → Nat) : Ref → Ref
  | .loc nm off => .loc (f nm) off
  | .sl nm k lo hi => .sl (f nm) k lo hi
  | .lel nm k row off => .lel (f nm) k row off
  | .mp nm => .mp (f nm)
  | .it nm => .it (f nm)
def mpC (f : Nat → Nat) : Cp → Cp
  | .ref r => .ref (mpR f r)
  | c => c
def mpD (f : Nat → Nat) : D → D
  | .ref r => .ref (mpR f r)
  | .fn g first caps => .fn g (first.map (mpC f)) (caps.map (mpC f))
  | x => x
def mpB (f : Nat → Nat) : Blk → Blk
  | .cells cs => .cells (cs.map (mpD f))
  | x => x
def mpS (f : Nat → Nat) : List (Nat × Blk) → List (Nat × Blk)
  | [] => []
  | (m, x) :: r => (f m, mpB f x) :: mpS f r

section
variable {P : Program} {GL : List (Nat × List I)} {n : Nat} {S : Sh} {M : Mem} {μ μ' : Place} {N N' : Nat → Prop} {f : Nat → Nat} {sto : List (Nat × Blk)} {w : World} {nm : Nat} {st : St} {a : Act}

theorem RepRef.mp (hN : ∀ m, N m → N' (f m)) (hμ : ∀ m, N m → μ' (f m) = μ m) {r : Ref} {v : Value} (h : RepRef μ N r v) : RepRef μ' N' (mpR f r) v := by
  cases r <;> exact ⟨hN _ h.1, by rw [hμ _ h.1]; exact h.2⟩
theorem RepC.mp (hN : ∀ m, N m → N' (f m)) (hμ : ∀ m, N m → μ' (f m) = μ m) {x : Cp} {v : Value} (h : RepC M μ N x v) : RepC M μ' N' (mpC f x) v := by
  cases x with
  | ref r => exact RepRef.mp hN hμ h
  | _ => exact h
theorem RepD.mp (hN : ∀ m, N m → N' (f m)) (hμ : ∀ m, N m → μ' (f m) = μ m) {x : D} {v : Value} (h : RepD M μ N x v) : RepD M μ' N' (mpD f x) v := by
  cases x with
  | ref r => exact RepRef.mp hN hμ h
  | fn g first caps =>
    obtain ⟨va, vb, e, h1, h2⟩ := h
    have key : ∀ {l : List Cp} {vs : List Value}, RepCs M μ N l vs → RepCs M μ' N' (l.map (mpC f)) vs := fun h => ⟨by simpa using h.1, fun j a b => by rw [List.getElem_map]; exact (h.2 j (by simpa using a) b).mp hN hμ⟩
    exact ⟨va, vb, e, key h1, key h2⟩
  | _ => exact h
theorem BlkOk.mp {S : Nat → Prop} (hN : ∀ m, N m → N' (f m)) (hμ : ∀ m, N m → μ' (f m) = μ m) {x : Blk} (hn : N nm) (h : BlkOk S M μ N w nm x) : BlkOk S M μ' N' w (f nm) (mpB f x) := by
  cases x with
  | cells cs =>
    obtain ⟨bb, vs, t, e, ho, hs, hr⟩ := h
    exact ⟨bb, vs, t, by rw [hμ _ hn]; exact e, ho, by simpa using hs, fun j h h' => by rw [List.getElem_map]; exact (hr j (by simpa using h) h').mp hN hμ⟩
  | _ => simp only [mpB, BlkOk] at h ⊢; rw [hμ _ hn]; exact h
theorem getS_mp (hinj : ∀ a b, names sto a → names sto b → f a = f b → a = b) {m : Nat} {b' : Blk} (h : getS (mpS f sto) m = some b') : ∃ o b, getS sto o = some b ∧ f o = m ∧ b' = mpB f b := by
  induction sto with
  | nil => cases h
  | cons x r ih =>
    obtain ⟨k, b0⟩ := x
    simp only [mpS, getS] at h
    split at h
    · rename_i e; cases h; exact ⟨k, b0, by simp [getS], e, rfl⟩
    · rename_i e
      obtain ⟨o, b, h1, h2, h3⟩ := ih (fun a b ha hb => hinj a b (names_cons a ha) (names_cons b hb)) h
      refine ⟨o, b, ?_, h2, h3⟩
      simp only [getS]
      rw [if_neg (fun e' => e (by rw [e', h2]))]; exact h1
theorem names_mp {m : Nat} (h : names sto m) : names (mpS f sto) (f m) := by
  induction sto with
  | nil => simp [names, getS] at h
  | cons x r ih =>
    obtain ⟨k, b0⟩ := x
    simp only [names, getS, mpS] at h ⊢
    by_cases e : f k = f m
    · rw [if_pos e]; rfl
    · rw [if_neg e]
      rw [if_neg (fun e' => e (by rw [e']))] at h
      exact ih h
theorem names_mp_inv (hinj : ∀ a b, names sto a → names sto b → f a = f b → a = b) {m : Nat} (h : names (mpS f sto) m) : ∃ o, names sto o ∧ f o = m := by
  obtain ⟨b', hb⟩ := Option.isSome_iff_exists.1 h
  obtain ⟨o, b, h1, h2, _⟩ := getS_mp hinj hb
  exact ⟨o, by simp [names, h1], h2⟩
theorem StoOk.mp {S S' : Nat → Prop} (h : StoOk S M μ sto w) (hinj : ∀ a b, names sto a → names sto b → f a = f b → a = b) (hμ : ∀ m, names sto m → μ' (f m) = μ m) (hS : ∀ b, S' b ↔ S b) : StoOk S' M μ' (mpS f sto) w := by
  obtain rfl : S' = S := funext fun b => propext (hS b)
  refine ⟨h.sub, fun nm b' hb => ?_, fun nm nm' k k' hne h1 h2 hk hk' => ?_, h.low⟩
  · obtain ⟨o, b, h1, rfl, rfl⟩ := getS_mp hinj hb
    exact (h.blk o b h1).mp (fun m hm => names_mp hm) hμ (by simp [names, h1])
  · obtain ⟨o, g1, rfl⟩ := names_mp_inv hinj h1
    obtain ⟨o', g2, rfl⟩ := names_mp_inv hinj h2
    rw [hμ _ g1] at hk
    rw [hμ _ g2] at hk'
    exact h.sep o o' k k' (fun e => hne (by rw [e])) g1 g2 hk hk'
theorem RepDs.mp (hN : ∀ m, N m → N' (f m)) (hμ : ∀ m, N m → μ' (f m) = μ m) {xs : List D} {vs : List Value} (h : RepDs M μ N xs vs) : RepDs M μ' N' (xs.map (mpD f)) vs :=
  ⟨by simpa using h.1, fun j a b => by rw [List.getElem_map]; exact (h.2 j (by simpa using a) b).mp hN hμ⟩

theorem mpD_mpD {f g : Nat → Nat} (h : ∀ m, g (f m) = m) (x : D) : mpD g (mpD f x) = x := by
  have hR : ∀ r, mpR g (mpR f r) = r := fun r => by cases r <;> simp [mpR, h]
  have hC : ∀ l : List Cp, l.map (mpC g ∘ mpC f) = l := fun l => by
    induction l with
    | nil => rfl
    | cons c l ih => rw [List.map_cons, ih]; congr 1; cases c <;> simp [mpC, hR]
  cases x <;> simp [mpD, hR, hC]
theorem mpB_mpB {f g : Nat → Nat} (h : ∀ m, g (f m) = m) (x : Blk) : mpB g (mpB f x) = x := by
  cases x with
  | cells cs => simp only [mpB, List.map_map]; congr 1; induction cs with
    | nil => rfl
    | cons c l ih => rw [List.map_cons, ih]; simp [mpD_mpD h]
  | _ => rfl
theorem mpS_mpS {f g : Nat → Nat} (h : ∀ m, g (f m) = m) (s : List (Nat × Blk)) : mpS g (mpS f s) = s := by
  induction s with
  | nil => rfl
  | cons x r ih => obtain ⟨k, b⟩ := x; simp [mpS, h, mpB_mpB h, ih]

/-- A contract under other names. -/
theorem MC.ren {g : Nat → Nat} (hfg : ∀ m, g (f m) = m) (hgf : ∀ m, f (g m) = m) {fn : FuncId} {args : List D} {mv : List Nat} {R : D → List (Nat × Blk) → Prop} (h : MC P GL fn args sto mv R) :
    MC P GL fn (args.map (mpD f)) (mpS f sto) (mv.map f) (fun r s => R (mpD g r) (mpS g s)) := by
  intro M μ w vs h1 h2 h3
  have inj : ∀ a b, f a = f b → a = b := fun a b e => by rw [← hfg a, e, hfg]
  have injg : ∀ a b, g a = g b → a = b := fun a b e => by rw [← hgf a, e, hgf]
  have hn : ∀ m, names (mpS f sto) m → names sto (g m) := fun m hm => by
    obtain ⟨o, ho, e⟩ := names_mp_inv (fun a b _ _ e => inj a b e) hm
    rw [← e, hfg]; exact ho
  have hS : ∀ b, (shut (fun m => μ (f m)) sto w).p b ↔ (shut μ (mpS f sto) w).p b := fun b =>
    ⟨fun hb => ⟨hb.1, fun m hm => by have := hb.2 _ (hn m hm); simpa [hgf] using this⟩, fun hb => ⟨hb.1, fun m hm => hb.2 _ (names_mp hm)⟩⟩
  have k1 : StoOk (shut (fun m => μ (f m)) sto w) M (fun m => μ (f m)) sto w := by
    have := h1.mp (f := g) (μ' := fun m => μ (f m)) (fun a b _ _ e => injg a b e) (fun m _ => by simp [hgf]) hS
    rwa [mpS_mpS hfg] at this
  have k3 : RepDs M (fun m => μ (f m)) (names sto) args vs.toList := by
    have := h3.mp (f := g) (μ' := fun m => μ (f m)) (N' := names sto) hn (fun m _ => by simp [hgf])
    rw [List.map_map] at this
    have e : args.map (mpD g ∘ mpD f) = args := by
      have : mpD g ∘ mpD f = id := funext fun x => mpD_mpD hfg x
      rw [this, List.map_id]
    rwa [e] at this
  refine (h M _ w vs k1 h2 k3).mono ?_
  rintro v w' ⟨r, s', M', μ', hR, q1, q2, q3, q4, q5⟩
  have hSe : (shut (fun m => μ (f m)) sto w).p = (shut μ (mpS f sto) w).p := funext fun b => propext (hS b)
  rw [hSe] at q3 q4
  refine ⟨mpD f r, mpS f s', M', fun m => μ' (g m), by simp only [mpD_mpD hfg, mpS_mpS hfg]; exact hR, q1.mp (fun a b _ _ e => inj a b e) (fun m _ => by simp [hfg]) (fun b => (hS b).symm),
    q2.mp (fun m hm => names_mp hm) (fun m _ => by simp [hfg]), q3, q4, fun m hm hmv => ?_⟩
  have := q5 (g m) (hn m hm) (fun hc => hmv (List.mem_map.2 ⟨g m, hc, hgf m⟩))
  simpa [hgf] using this

/-- Two names change places. -/
def sw (a b m : Nat) : Nat := if m = a then b else if m = b then a else m
def sws : List (Nat × Nat) → Nat → Nat
  | [], m => m
  | (a, b) :: r, m => sw a b (sws r m)
def swi : List (Nat × Nat) → Nat → Nat
  | [], m => m
  | (a, b) :: r, m => swi r (sw a b m)
theorem sw_sw (a b m : Nat) : sw a b (sw a b m) = m := by
  unfold sw
  by_cases h1 : m = a
  · subst h1
    by_cases h2 : b = m
    · simp [h2]
    · simp [h2]
  · by_cases h2 : m = b
    · subst h2; simp [h1]
    · simp [h1, h2]
theorem swi_sws : ∀ (l : List (Nat × Nat)) (m : Nat), swi l (sws l m) = m
  | [], m => rfl
  | (a, b) :: r, m => by simp only [swi, sws, sw_sw]; exact swi_sws r m
theorem sws_swi : ∀ (l : List (Nat × Nat)) (m : Nat), sws l (swi l m) = m
  | [], m => rfl
  | (a, b) :: r, m => by simp only [swi, sws]; rw [sws_swi r, sw_sw]
theorem MC.as (l : List (Nat × Nat)) {fn : FuncId} {args : List D} {mv : List Nat} {R : D → List (Nat × Blk) → Prop} (h : MC P GL fn args sto mv R) :
    MC P GL fn (args.map (mpD (sws l))) (mpS (sws l) sto) (mv.map (sws l)) (fun r s => R (mpD (swi l) r) (mpS (swi l) s)) := h.ren (swi_sws l) (sws_swi l)

/-- Where a function's results lie. -/
inductive RV where
  | tmp (t : Nat)
  | cell (t k : Nat) (ag : Bool)
def compRV (P : Program) : ResultVar → Option RV
  | .tmp t => some (.tmp t)
  | .cell t ty => match szT P ty, aggT P ty with | some k, some ag => if ag || k == 1 then some (.cell t k ag) else none | _, _ => none
def rvD (st : St) : RV → Option D
  | .tmp t => match getE st.env t with | .any => none | x => some x
  | .cell t k ag => match getE st.env t with
    | .i (.elt cs off) => if Nat.ble (off + k) cs.length then some (.i (pk ag cs off k)) else none
    | .ref (.loc nm off) => match getS st.sto nm with
      | some (.cells cs) => if Nat.ble (off + k) cs.length && (!ag || allI ((cs.drop off).take k)) then some (pkD ag cs off k) else none
      | _ => none
    | _ => none
def rvsD (st : St) : List RV → Option (List D)
  | [] => some []
  | r :: rs => match rvD st r, rvsD st rs with | some x, some xs => some (x :: xs) | _, _ => none
def outD : List D → Option D
  | [x] => some x
  | xs => if allI xs then some (.i (.tup (xs.map unI))) else none

def kf : List (Nat × Nat) → Nat → Nat
  | [], m => m
  | (o, nw) :: r, m => if o = m then nw else kf r m
def nodupB : List Nat → Bool
  | [] => true
  | x :: r => !(r.contains x) && nodupB r
def resS (olds : List Nat) : List (Nat × Blk) → List (Nat × Blk)
  | [] => []
  | (m, b) :: r => if olds.contains m then (m, b) :: resS olds r else resS olds r
/-- Of the names that are kept: what they are called behind the return. -/
def keepOk (given mv : List Nat) (ks : List (Nat × Nat)) : Bool :=
  nodupB (ks.map (·.1)) && nodupB (ks.map (·.2)) && ks.all fun p => p.1 == p.2 || !(given.contains p.2) || mv.contains p.2
def retD (st : St) (rs : List RV) : Option D := match rvsD st rs with | some xs => outD xs | none => none
def resV (rs : List RV) (given mv : List Nat) (R : D → List (Nat × Blk) → Prop) (st : St) : Prop :=
  ∃ l ks, match retD (frzNs l st) rs with
    | some x => keepOk given mv ks = true ∧ (inS (resS (ks.map (·.1)) (frzNs l st).sto) x.nms = true ∧ clS (resS (ks.map (·.1)) (frzNs l st).sto) (resS (ks.map (·.1)) (frzNs l st).sto) = true) ∧
        R (mpD (kf ks) x) (mpS (kf ks) (resS (ks.map (·.1)) (frzNs l st).sto))
    | none => False
/-- What a body must come to. -/
def bodyK (rs : List RV) (given mv : List Nat) (R : D → List (Nat × Blk) → Prop) : Exit → St → Prop
  | .normal, st => resV rs given mv R st
  | .ret, st => resV rs given mv R st
  | _, _ => False

def rvRun (tmps : Array Value) : ResultVar → Sem Value
  | .tmp t => pure (tmps.getD t Go.undef)
  | .cell a t => do loadVar t (← asAddr (tmps.getD a Go.undef))
theorem results_eq (fn : Func) (tmps : Array Value) : results fn tmps = (do let vs ← fn.results.mapM (rvRun tmps); pure (if h : vs.size = 1 then vs[0] else .tuple vs)) := by
  have e : (rvRun tmps) = fun rv => match rv with
    | .tmp t => pure (tmps.getD t Go.undef)
    | .cell a t => (do loadVar t (← asAddr (tmps.getD a Go.undef))) := by funext rv; cases rv <;> rfl
  rw [e]; rfl

theorem rvD_rep (h : Rel GL n S M μ st a w) {rv : ResultVar} {r : RV} {x : D} (hc : compRV P rv = some r) (hx : rvD st r = some x) : ∃ v, (rvRun a.tmps rv).run P w = .ok v w ∧ RepD M μ (names st.sto) x v := by
  cases rv with
  | tmp t =>
    simp [compRV] at hc; subst hc
    have he := h.env t
    simp only [rvD] at hx
    split at hx <;> cases hx
    exact ⟨_, rfl, he⟩
  | cell t ty =>
    show ∃ v, (do loadVar ty (← asAddr (a.tmps.getD t Go.undef)) : Sem Value).run P w = .ok v w ∧ _
    simp only [compRV] at hc
    split at hc
    · rename_i k ag hk ha
      split at hc
      · rename_i hk1
        cases hc
        have hk1' : ag = false → k = 1 := fun e => by subst e; simpa using hk1
        have he := h.env t
        have hexec : ∀ b oo, a.tmps.getD t Go.undef = .pointer (some ⟨b, oo, none⟩) → ∀ V, (loadVar ty ⟨b, oo, none⟩).run P w = .ok V w → (do loadVar ty (← asAddr (a.tmps.getD t Go.undef)) : Sem Value).run P w = .ok V w := fun b oo e V hV => by
          rw [e]; simp only [Sem.run_bind, asAddr, Sem.run_pure, Result.andThen_ok, hV]
        simp only [rvD] at hx
        split at hx
        · rename_i cs off e
          rw [e] at he
          have he := repD_i_inv he
          split at hx
          · rename_i hle
            have hle := Nat.le_of_ble_eq_true hle
            cases hx
            generalize hv : a.tmps.getD t Go.undef = vx at he
            cases he with
            | elt _ _ b oo v hm hvv =>
              refine ⟨_, by have := hexec _ _ hv _ (run_loadVar hk ha hk1' (f := fun j => v (off + j)) fun j hj => by rw [Nat.add_assoc]; exact h.sub.1 _ _ _ (hm _ (by omega))); rw [hv] at this; exact this, repD_i (rep_pk hk1' hle fun j hj => hvv _ (by omega))⟩
          · cases hx
        · rename_i nm off e
          rw [e] at he
          obtain ⟨hN, b, hμ, hxv⟩ := he
          split at hx
          · rename_i cs hcs
            split at hx
            · rename_i hcond
              cases hx
              rw [Bool.and_eq_true] at hcond
              have hle := Nat.le_of_ble_eq_true hcond.1
              have hall : ag = true → allI ((cs.drop off).take k) = true := fun e => by have := hcond.2; rw [e] at this; simpa using this
              obtain ⟨b', vs, ty, hμ', hown, hsz, hv⟩ := h.blk nm _ hcs
              obtain rfl : b' = b := by rw [hμ] at hμ'; injection hμ' with e1; injection e1 with e2; injection e2 with e3; exact e3.symm
              have hcell : ∀ j (hj : j < vs.size), w.cell? ⟨b', j, none⟩ = some vs[j] := fun j hj => by simp [World.cell?, hown.heap, hj]
              refine ⟨_, hexec _ _ hxv _ (run_loadVar hk ha hk1' (f := fun j => vs.getD (off + j) Go.undef) fun j hj => ?_), ?_⟩
              · rw [hcell _ (by omega)]; simp [show off + j < vs.size by omega]
              · cases ag with
                | true =>
                  simp only [pkD, if_true]
                  show Rep M _ _
                  refine Rep.agg' ⟨by simp; omega, fun j h1 h2 => ?_⟩
                  have hj : j < k := by simpa using h2
                  have hi : isI (cs[off + j]'(by omega)) = true := by
                    have := hall rfl
                    simp only [allI, List.all_eq_true] at this
                    exact this _ (List.mem_iff_getElem.2 ⟨j, by simp; omega, by simp⟩)
                  have := rep_of_isI (hv (off + j) (by omega) (by omega)) hi
                  simp [show off + j < vs.size by omega]
                  exact this
                | false =>
                  obtain rfl := hk1' rfl
                  simp only [pkD, Bool.false_eq_true, if_false, Nat.add_zero]
                  have : cs.getD off .any = cs[off]'(by omega) := by simp [List.getD, List.getElem?_eq_getElem (show off < cs.length by omega)]
                  rw [this]
                  have := hv off (by omega) (by omega)
                  simpa [show off < vs.size by omega] using this
            · cases hx
          · cases hx
        · cases hx
      · cases hc
    · cases hc
theorem rvsD_rep (h : Rel GL n S M μ st a w) : ∀ {rvs : List ResultVar} {rs : List RV} {xs : List D}, rvs.mapM (compRV P) = some rs → rvsD st rs = some xs → ∃ vs, (rvs.mapM (rvRun a.tmps)).run P w = .ok vs w ∧ RepDs M μ (names st.sto) xs vs
  | [], rs, xs, hc, hx => by simp at hc; subst hc; simp [rvsD] at hx; subst hx; exact ⟨[], rfl, rfl, fun j hj => by simp at hj⟩
  | rv :: rvs, rs, xs, hc, hx => by
    rw [List.mapM_cons] at hc
    cases h1 : compRV P rv with
    | none => simp [h1] at hc
    | some r =>
      cases h2 : rvs.mapM (compRV P) with
      | none => simp [h1, h2] at hc
      | some rs' =>
        simp [h1, h2] at hc
        subst hc
        simp only [rvsD] at hx
        split at hx <;> cases hx
        rename_i x xs' hx1 hx2
        obtain ⟨v, e1, r1⟩ := rvD_rep h h1 hx1
        obtain ⟨vs, e2, r2⟩ := rvsD_rep h h2 hx2
        refine ⟨v :: vs, by rw [List.mapM_cons]; simp only [Sem.run_bind, e1, Result.andThen_ok, e2, Sem.run_pure], by simp [r2.1], fun j h1 h2 => ?_⟩
        cases j with
        | zero => exact r1
        | succ j => exact r2.2 j (by simpa using h1) (by simpa using h2)
theorem retD_rep (h : Rel GL n S M μ st a w) {fn : Func} {rs : List RV} {x : D} (hrs : fn.results.toList.mapM (compRV P) = some rs) (hx : retD st rs = some x) : ∃ v, (results fn a.tmps).run P w = .ok v w ∧ RepD M μ (names st.sto) x v := by
  unfold retD at hx
  split at hx
  · rename_i xs hxs
    obtain ⟨us, e1, r1⟩ := rvsD_rep h hrs hxs
    have e2 : (results fn a.tmps).run P w = .ok (if h : us.toArray.size = 1 then us.toArray[0] else .tuple us.toArray) w := by
      rw [results_eq, Sem.run_bind, ← Array.toArray_toList (xs := fn.results), List.mapM_toArray]
      simp only [Sem.run_map, e1, Result.andThen_ok, Sem.run_pure]
    by_cases h1 : us.toArray.size = 1
    · rw [dif_pos h1] at e2
      have hl : xs.length = 1 := by have := r1.1; simp at h1; omega
      match xs, hl, hx, r1 with
      | [y], _, hx, r1 =>
        simp only [outD, Option.some.injEq] at hx
        subst hx
        exact ⟨_, e2, by have := r1.2 0 (by simp) (by simp at h1; omega); simpa using this⟩
    · rw [dif_neg h1] at e2
      have hl : xs.length ≠ 1 := by have := r1.1; simp at h1; omega
      have hx' : (if allI xs then some (D.i (.tup (xs.map unI))) else none) = some x := by
        match xs, hl, hx with
        | [], _, hx => exact hx
        | [y], h0, _ => simp at h0
        | _ :: _ :: _, _, hx => exact hx
      split at hx'
      · rename_i ha
        cases hx'
        refine ⟨_, e2, repD_i (Rep.tup' ⟨by simpa using r1.1, fun j h1 h2 => ?_⟩)⟩
        have hj : j < xs.length := by simpa using h1
        have hi : isI xs[j] = true := by simp only [allI, List.all_eq_true] at ha; exact ha _ (List.getElem_mem hj)
        have := rep_of_isI (r1.2 j hj (by simpa using h2)) hi
        rw [List.getElem_map]; simpa using this
      · cases hx'
  · cases hx

def env0 : Nat → List D → List (Nat × D)
  | _, [] => []
  | i, x :: xs => (i, x) :: env0 (i + 1) xs
theorem getL_env0 : ∀ (xs : List D) (vs : List Value) (i : Nat), RepDs M μ N xs vs → ∀ s (v : Value), (∀ h : s - i < vs.length, i ≤ s → v = vs[s - i]) → RepD M μ N (getL (env0 i xs) s) v
  | [], vs, i, h, s, v, hv => trivial
  | x :: xs, vs, i, h, s, v, hv => by
    simp only [env0, getL]
    split
    · rename_i e; subst e
      have hl : 0 < vs.length := by have := h.1; simp at this; omega
      rw [hv (by simpa using hl) (Nat.le_refl _)]
      simp only [Nat.sub_self]
      have := h.2 0 (by simp) hl; simpa using this
    · rename_i hne
      cases vs with
      | nil => have := h.1; simp at this
      | cons u us =>
        refine getL_env0 xs us (i + 1) ⟨by simpa using h.1, fun j a b => by have := h.2 (j + 1) (by simpa using a) (by simpa using b); simpa using this⟩ s v (fun hl hle => ?_)
        have e : s - i = (s - (i + 1)) + 1 := by omega
        rw [hv (by rw [e]; simpa using hl) (by omega)]
        simp [e]

theorem getS_resS (olds : List Nat) (l : List (Nat × Blk)) (m : Nat) : getS (resS olds l) m = if olds.contains m then getS l m else none := by
  induction l with
  | nil => simp [resS, getS]
  | cons x r ih =>
    obtain ⟨k, b⟩ := x
    simp only [resS]
    by_cases e : k = m
    · subst e
      by_cases hc : olds.contains k = true
      · simp only [hc, if_true, getS]
      · rw [if_neg hc, ih, if_neg hc, if_neg hc]
    · split
      · simp only [getS, if_neg e]; exact ih
      · simp only [getS, if_neg e]; exact ih
theorem subS_resS (olds : List Nat) (l : List (Nat × Blk)) : ∀ m b, getS (resS olds l) m = some b → getS l m = some b := fun m b h => by
  rw [getS_resS] at h; split at h; exact h; cases h
theorem StoOk.res (h : StoOk S.p M μ sto w) {sto' : List (Nat × Blk)} (hs : ∀ m b, getS sto' m = some b → getS sto m = some b) (hc : clS sto' sto' = true) : StoOk S.p M μ sto' w where
  sub := h.sub
  blk := fun nm b hb => (h.blk nm b (hs nm b hb)).mono (Mem.le_refl _) rfl (fun m hm _ => ⟨clS_get hc nm b hb m hm, rfl⟩) (fun _ _ _ => rfl) (fun _ _ _ => Mem.same_refl _ _)
  sep := fun m m' k k' hne h1 h2 => by
    refine h.sep m m' k k' hne ?_ ?_
    · obtain ⟨x, hx⟩ := Option.isSome_iff_exists.1 h1; simp [names, hs m x hx]
    · obtain ⟨x, hx⟩ := Option.isSome_iff_exists.1 h2; simp [names, hs m' x hx]
  low := h.low

theorem nodupB_mem {l : List Nat} {x : Nat} (h : nodupB (x :: l) = true) : x ∉ l ∧ nodupB l = true := by
  unfold nodupB at h
  rw [Bool.and_eq_true, Bool.not_eq_true'] at h
  exact ⟨fun hm => (by have := List.contains_iff_mem.2 hm; rw [h.1] at this; cases this), h.2⟩
theorem kf_mem : ∀ {ks : List (Nat × Nat)} {o : Nat}, o ∈ ks.map (·.1) → (o, kf ks o) ∈ ks
  | [], o, h => by simp at h
  | (k, nw) :: r, o, h => by
    simp only [kf]
    split
    · rename_i e; subst e; exact List.mem_cons_self
    · rename_i e
      simp only [List.map_cons, List.mem_cons] at h
      exact List.mem_cons_of_mem _ (kf_mem (h.resolve_left (Ne.symm e)))
theorem nodupB_pair : ∀ {ks : List (Nat × Nat)}, nodupB (ks.map (·.2)) = true → ∀ {o o' nw : Nat}, (o, nw) ∈ ks → (o', nw) ∈ ks → o = o'
  | [], _, o, o', nw, h, _ => by simp at h
  | (k, m) :: r, hd, o, o', nw, h, h' => by
    obtain ⟨h1, h2⟩ := nodupB_mem (by simpa using hd)
    simp only [List.mem_cons, Prod.mk.injEq] at h h'
    rcases h with ⟨e1, e2⟩ | h <;> rcases h' with ⟨e3, e4⟩ | h'
    · rw [e1, e3]
    · subst e2; exact (h1 (List.mem_map.2 ⟨_, h', rfl⟩)).elim
    · subst e4; exact (h1 (List.mem_map.2 ⟨_, h, rfl⟩)).elim
    · exact nodupB_pair h2 h h'
def kb : List (Nat × Nat) → Nat → Option Nat
  | [], _ => none
  | (o, nw) :: r, m => if nw = m then some o else kb r m
theorem kb_some : ∀ {ks : List (Nat × Nat)} {m o : Nat}, kb ks m = some o → (o, m) ∈ ks
  | [], m, o, h => by cases h
  | (k, nw) :: r, m, o, h => by
    simp only [kb] at h
    split at h
    · rename_i e; subst e; cases h; exact List.mem_cons_self
    · exact List.mem_cons_of_mem _ (kb_some h)
theorem kb_mem : ∀ {ks : List (Nat × Nat)} {m o : Nat}, (o, m) ∈ ks → (kb ks m).isSome = true
  | [], m, o, h => by simp at h
  | (k, nw) :: r, m, o, h => by
    simp only [kb]
    split
    · rfl
    · rename_i e
      simp only [List.mem_cons, Prod.mk.injEq] at h
      exact kb_mem (h.resolve_left fun q => e q.2.symm)

/-- A contract out of the code. -/
theorem MC_of_W {f : FuncId} {fn : Func} {mu : List Nat} {rt : List (Nat × Nat)} {ir : IR} {args : List D} {mv : List Nat} {R : D → List (Nat × Blk) → Prop} {rs : List RV} (hf : P.funcs[f]? = some fn) (hname : (fn.name != "runtime.NumGoroutine") = true)
    (hn : fn.ntmps = n) (hargs : Nat.ble args.length n = true) (h999 : Nat.ble n 999 = true) (hbc : fn.body.bind (comp P GL n mu rt) = some ir) (hrs : fn.results.toList.mapM (compRV P) = some rs)
    (hpin : ((sto.map (·.1)).all fun m => (Nat.ble 5000 m && Nat.blt m 5500) || mv.contains m) = true)
    (hw : W P GL ir (bodyK rs (sto.map (·.1)) mv R) ⟨.l (env0 0 args), sto⟩) : MC P GL f args sto mv R := by
  obtain ⟨c, hb, hc⟩ := Option.bind_eq_some_iff.1 hbc
  have hargs : args.length ≤ n := Nat.le_of_ble_eq_true hargs
  have h999 : n ≤ 999 := Nat.le_of_ble_eq_true h999
  intro M μ w vs hsto hglob hr
  refine .inl ⟨by unfold enters; rw [hf]; simp only [hname, Bool.true_and, hb, Option.isSome_some], ?_⟩
  have hvl : vs.size = args.length := by simpa using hr.1
  subst hn
  have h0 : Rel GL fn.ntmps (shut μ sto w) M μ ⟨.l (env0 0 args), sto⟩ { tmps := vs ++ Array.replicate (fn.ntmps - vs.size) Go.undef, defers := [] } w :=
    { toStoOk := hsto, small := h999, pin := fun _ _ => rfl, defers := rfl
      size := by simp; omega
      env := fun s => by
        refine getL_env0 args vs.toList 0 hr s _ (fun hl _ => ?_)
        simp at hl
        simp [hl, Array.getElem?_append]
      glob := hglob }
  refine calls_of_wp hf hb (wp_mono (snd_code c ir hc _ M _ _ _ w h0 hw) ?_)
  rintro e a' w' ⟨st', hk, M', μ', h', hm, hkeep⟩
  have fin : resV rs (sto.map (·.1)) mv R st' → a'.defers = [] ∧ ∃ v, (results fn a'.tmps).run P w' = .ok v w' ∧ ∃ v1, Ending.returned v = Ending.returned v1 ∧ ∃ r sto' M'' μ'', R r sto' ∧ StoOk (shut μ sto w) M'' μ'' sto' w' ∧ RepD M'' μ'' (names sto') r v1 ∧
      MExt (shut μ sto w) M M'' ∧ Keeps (shut μ sto w) w w' ∧ ∀ nm, names sto nm → nm ∉ mv → μ'' nm = μ nm := by
    intro hres
    refine ⟨h'.defers, ?_⟩
    obtain ⟨l, ks, hres⟩ := hres
    obtain ⟨M2, h2, m2⟩ := h'.frzNs l
    generalize frzNs l st' = st2 at hres h2
    split at hres
    · rename_i x hx
      obtain ⟨v, hrun, hxr⟩ := retD_rep h2 hrs hx
      obtain ⟨hko, ⟨hin, hcl⟩, hR⟩ := hres
      simp only [keepOk, Bool.and_eq_true, List.all_eq_true, Bool.or_eq_true, beq_iff_eq, Bool.not_eq_true'] at hko
      obtain ⟨⟨hk1, hk2⟩, hk3⟩ := hko
      generalize hst : resS (ks.map (·.1)) st2.sto = sto2 at hin hcl hR
      have hsub2 : ∀ m b, getS sto2 m = some b → getS st2.sto m = some b := fun m b hb => by rw [← hst] at hb; exact subS_resS _ _ m b hb
      have hold : ∀ m, names sto2 m → m ∈ ks.map (·.1) := fun m hm => by
        simp only [names] at hm
        rw [← hst, getS_resS] at hm
        split at hm
        · rename_i hc; exact List.contains_iff_mem.1 hc
        · cases hm
      have hs2 : StoOk (shut μ sto w).p M2 μ' sto2 w' := h2.toStoOk.res hsub2 hcl
      have hinj : ∀ a b, names sto2 a → names sto2 b → kf ks a = kf ks b → a = b := fun a b ha hb e => by
        have h1 := kf_mem (hold a ha)
        have h2 := kf_mem (hold b hb)
        rw [← e] at h2
        exact nodupB_pair hk2 h1 h2
      let μ2 : Place := fun m => match kb ks m with | some o => μ' o | none => μ m
      have hμ2 : ∀ m, names sto2 m → μ2 (kf ks m) = μ' m := fun m hm => by
        have h1 := kf_mem (hold m hm)
        obtain ⟨o, ho⟩ := Option.isSome_iff_exists.1 (kb_mem h1)
        have : o = m := nodupB_pair hk2 (kb_some ho) h1
        simp only [μ2, ho, this]
      refine ⟨v, hrun, v, rfl, _, _, M2, μ2, hR, hs2.mp hinj hμ2 (fun _ => Iff.rfl), ?_, hm.trans m2, hkeep, fun nm hnm hmv => ?_⟩
      · have : RepD M2 μ' (names sto2) x v := hxr.mono' (Mem.le_refl _) fun q hq _ => ⟨inS_mem hin q hq, rfl⟩
        exact this.mp (fun m hm => names_mp hm) hμ2
      · simp only [μ2]
        cases hb : kb ks nm with
        | none => rfl
        | some o =>
          have hmem := kb_some hb
          have hg : nm ∈ sto.map (·.1) := mem_names.2 hnm
          rcases hk3 _ hmem with (e | e) | e
          · simp only at e
            subst e
            simp only
            rw [List.all_eq_true] at hpin
            have := hpin _ hg
            simp only [Bool.or_eq_true, Bool.and_eq_true, Nat.ble_eq, Nat.blt_eq] at this
            rcases this with q | q
            · exact h2.pin _ q
            · exact (hmv (List.contains_iff_mem.1 q)).elim
          · have := List.contains_iff_mem.2 hg
            simp only at e
            rw [e] at this; cases this
          · exact (hmv (List.contains_iff_mem.1 e)).elim
    · exact hres.elim
  cases e with
  | normal => exact fin hk
  | ret => exact fin hk
  | _ => exact hk.elim

end
end Go.Dl
end
