/- A part of the proofs of WorkersExclude and WorkersMatchesSteps: A23. -/
import Derived.Test.YtcgjldimifeffaaGreatDoorA22
set_option linter.all false
namespace Go.Dl
open Go Go.RowKit
section
variable {P : Program} {GL : List (Nat × List I)} {n : Nat} {S : Sh} {M : Mem} {μ μ' : Place} {N N' : Nat → Prop} {f : Nat → Nat} {sto : List (Nat × Blk)} {w : World} {nm : Nat} {st : St} {a : Act}
inductive RV where
  | tmp (t : Nat)
  | cell (t k : Nat) (ag : Bool)
def compRV (P : Program) : ResultVar → Option RV
  | .tmp t => some (.tmp t)
  | .cell t ty => match szT P ty, aggT P ty with | some k, some ag => if ag || k == 1 then some (.cell t k ag) else none | _, _ => none
def rvD (st : St) : RV → Option D
  | .tmp t => match getE st.env t with | .any => none | x => some x
  | .cell t k ag => match getE st.env t with
    | .i (.elt cs off) => if Nat.ble (off + k) cs.length then some (.i (pk ag cs off k)) else none
    | .ref (.loc nm off) => match getS st.sto nm with
      | some (.cells cs) => if Nat.ble (off + k) cs.length && (!ag || allI ((cs.drop off).take k)) then some (pkD ag cs off k) else none
      | _ => none
    | _ => none
def rvsD (st : St) : List RV → Option (List D)
  | [] => some []
  | r :: rs => match rvD st r, rvsD st rs with | some x, some xs => some (x :: xs) | _, _ => none
def outD : List D → Option D
  | [x] => some x
  | xs => if allI xs then some (.i (.tup (xs.map unI))) else none
def kf : List (Nat × Nat) → Nat → Nat
  | [], m => m
  | (o, nw) :: r, m => if o = m then nw else kf r m
def resS (olds : List Nat) : List (Nat × Blk) → List (Nat × Blk)
  | [] => []
  | (m, b) :: r => if olds.contains m then (m, b) :: resS olds r else resS olds r
def keepOk (given mv : List Nat) (ks : List (Nat × Nat)) : Bool :=
  nodupB (ks.map (·.1)) && nodupB (ks.map (·.2)) && ks.all fun p => p.1 == p.2 || !(given.contains p.2) || mv.contains p.2
def retD (st : St) (rs : List RV) : Option D := match rvsD st rs with | some xs => outD xs | none => none
def resV (rs : List RV) (given mv : List Nat) (R : D → List (Nat × Blk) → Prop) (st : St) : Prop :=
  ∃ l ks, match retD (frzNs l st) rs with
    | some x => keepOk given mv ks = true ∧ (inS (resS (ks.map (·.1)) (frzNs l st).sto) x.nms = true ∧ clS (resS (ks.map (·.1)) (frzNs l st).sto) (resS (ks.map (·.1)) (frzNs l st).sto) = true) ∧
        R (mpD (kf ks) x) (mpS (kf ks) (resS (ks.map (·.1)) (frzNs l st).sto))
    | none => False
def bodyK (rs : List RV) (given mv : List Nat) (R : D → List (Nat × Blk) → Prop) : Exit → St → Prop
  | .normal, st => resV rs given mv R st
  | .ret, st => resV rs given mv R st
  | _, _ => False
def rvRun (tmps : Array Value) : ResultVar → Sem Value
  | .tmp t => pure (tmps.getD t Go.undef)
  | .cell a t => do loadVar t (← asAddr (tmps.getD a Go.undef))
theorem results_eq (fn : Func) (tmps : Array Value) : results fn tmps = (do let vs ← fn.results.mapM (rvRun tmps); pure (if h : vs.size = 1 then vs[0] else .tuple vs)) := by rfl
theorem rvD_rep (h : Rel GL n S M μ st a w) {rv : ResultVar} {r : RV} {x : D} (hc : compRV P rv = some r) (hx : rvD st r = some x) : ∃ v, (rvRun a.tmps rv).run P w = .ok v w ∧ RepD M μ (names st.sto) x v := by
  cases rv with
  | tmp t =>
    simp [compRV] at hc; subst hc
    have he := h.env t
    simp only [rvD] at hx
    split at hx <;> cases hx
    exact ⟨_, rfl, he⟩
  | cell t ty =>
    show ∃ v, (do loadVar ty (← asAddr (a.tmps.getD t Go.undef)) : Sem Value).run P w = .ok v w ∧ _
    simp only [compRV] at hc
    split at hc
    · rename_i k ag hk ha
      split at hc
      · rename_i hk1
        cases hc
        have hk1' : ag = false → k = 1 := fun e => by subst e; simpa using hk1
        have he := h.env t
        have hexec : ∀ b oo, a.tmps.getD t Go.undef = .pointer (some ⟨b, oo, none⟩) → ∀ V, (loadVar ty ⟨b, oo, none⟩).run P w = .ok V w → (do loadVar ty (← asAddr (a.tmps.getD t Go.undef)) : Sem Value).run P w = .ok V w := fun b oo e V hV => by
          rw [e]; simp only [Sem.run_bind, asAddr, Sem.run_pure, Result.andThen_ok, hV]
        simp only [rvD] at hx
        split at hx
        · rename_i cs off e
          rw [e] at he
          have he := repD_i_inv he
          split at hx
          · rename_i hle
            have hle := Nat.le_of_ble_eq_true hle
            cases hx
            generalize hv : a.tmps.getD t Go.undef = vx at he
            cases he with
            | elt _ _ b oo v hm hvv =>
              refine ⟨_, by have := hexec _ _ hv _ (run_loadVar hk ha hk1' (f := fun j => v (off + j)) fun j hj => by rw [Nat.add_assoc]; exact h.sub.1 _ _ _ (hm _ (by omega))); rw [hv] at this; exact this, repD_i (rep_pk hk1' hle fun j hj => hvv _ (by omega))⟩
          · cases hx
        · rename_i nm off e
          rw [e] at he
          obtain ⟨hN, b, hμ, hxv⟩ := he
          split at hx
          · rename_i cs hcs
            split at hx
            · rename_i hcond
              cases hx
              rw [Bool.and_eq_true] at hcond
              have hle := Nat.le_of_ble_eq_true hcond.1
              have hall : ag = true → allI ((cs.drop off).take k) = true := fun e => by have := hcond.2; rw [e] at this; simpa using this
              obtain ⟨b', vs, ty, hμ', hown, hsz, hv⟩ := h.blk nm _ hcs
              obtain rfl : b' = b := by rw [hμ] at hμ'; injection hμ' with e1; injection e1 with e2; injection e2 with e3; exact e3.symm
              have hcell : ∀ j (hj : j < vs.size), w.cell? ⟨b', j, none⟩ = some vs[j] := fun j hj => by simp [World.cell?, hown.heap, hj]
              refine ⟨_, hexec _ _ hxv _ (run_loadVar hk ha hk1' (f := fun j => vs.getD (off + j) Go.undef) fun j hj => ?_), ?_⟩
              · rw [hcell _ (by omega)]; simp [show off + j < vs.size by omega]
              · cases ag with
                | true =>
                  simp only [pkD, if_true]
                  show Rep M _ _
                  refine Rep.agg' ⟨by simp; omega, fun j h1 h2 => ?_⟩
                  have hj : j < k := by simpa using h2
                  have hi : isI (cs[off + j]'(by omega)) = true := by
                    have := hall rfl
                    simp only [allI, List.all_eq_true] at this
                    exact this _ (List.mem_iff_getElem.2 ⟨j, by simp; omega, by simp⟩)
                  have := rep_of_isI (hv (off + j) (by omega) (by omega)) hi
                  simp [show off + j < vs.size by omega]
                  exact this
                | false =>
                  obtain rfl := hk1' rfl
                  simp only [pkD, Bool.false_eq_true, if_false, Nat.add_zero]
                  have : cs.getD off .any = cs[off]'(by omega) := by simp [List.getD, List.getElem?_eq_getElem (show off < cs.length by omega)]
                  rw [this]
                  have := hv off (by omega) (by omega)
                  simpa [show off < vs.size by omega] using this
            · cases hx
          · cases hx
        · cases hx
      · cases hc
    · cases hc
theorem rvsD_rep (h : Rel GL n S M μ st a w) : ∀ {rvs : List ResultVar} {rs : List RV} {xs : List D}, rvs.mapM (compRV P) = some rs → rvsD st rs = some xs → ∃ vs, (rvs.mapM (rvRun a.tmps)).run P w = .ok vs w ∧ RepDs M μ (names st.sto) xs vs
  | [], rs, xs, hc, hx => by simp at hc; subst hc; simp [rvsD] at hx; subst hx; exact ⟨[], rfl, rfl, fun j hj => by simp at hj⟩
  | rv :: rvs, rs, xs, hc, hx => by
    rw [List.mapM_cons] at hc
    cases h1 : compRV P rv with
    | none => simp [h1] at hc
    | some r =>
      cases h2 : rvs.mapM (compRV P) with
      | none => simp [h1, h2] at hc
      | some rs' =>
        simp [h1, h2] at hc
        subst hc
        simp only [rvsD] at hx
        split at hx <;> cases hx
        rename_i x xs' hx1 hx2
        obtain ⟨v, e1, r1⟩ := rvD_rep h h1 hx1
        obtain ⟨vs, e2, r2⟩ := rvsD_rep h h2 hx2
        refine ⟨v :: vs, by rw [List.mapM_cons]; simp only [Sem.run_bind, e1, Result.andThen_ok, e2, Sem.run_pure], by simp [r2.1], fun j h1 h2 => ?_⟩
        cases j with
        | zero => exact r1
        | succ j => exact r2.2 j (by simpa using h1) (by simpa using h2)
theorem retD_rep (h : Rel GL n S M μ st a w) {fn : Func} {rs : List RV} {x : D} (hrs : fn.results.toList.mapM (compRV P) = some rs) (hx : retD st rs = some x) : ∃ v, (results fn a.tmps).run P w = .ok v w ∧ RepD M μ (names st.sto) x v := by
  unfold retD at hx
  split at hx
  · rename_i xs hxs
    obtain ⟨us, e1, r1⟩ := rvsD_rep h hrs hxs
    have e2 : (results fn a.tmps).run P w = .ok (if h : us.toArray.size = 1 then us.toArray[0] else .tuple us.toArray) w := by
      rw [results_eq, Sem.run_bind, ← Array.toArray_toList (xs := fn.results), List.mapM_toArray]
      simp_all
    by_cases h1 : us.toArray.size = 1
    · rw [dif_pos h1] at e2
      have hl : xs.length = 1 := by have := r1.1; simp at h1; omega
      match xs, hl, hx, r1 with
      | [y], _, hx, r1 =>
        simp only [outD, Option.some.injEq] at hx
        subst hx
        exact ⟨_, e2, by have := r1.2 0 (by simp) (by simp at h1; omega); simpa using this⟩
    · rw [dif_neg h1] at e2
      have hl : xs.length ≠ 1 := by have := r1.1; simp at h1; omega
      have hx' : (if allI xs then some (D.i (.tup (xs.map unI))) else none) = some x := by
        match xs, hl, hx with
        | [], _, hx => exact hx
        | [y], h0, _ => simp at h0
        | _ :: _ :: _, _, hx => exact hx
      split at hx'
      · rename_i ha
        cases hx'
        refine ⟨_, e2, repD_i (Rep.tup' ⟨by simpa using r1.1, fun j h1 h2 => ?_⟩)⟩
        have hj : j < xs.length := by grind
        have hi : isI xs[j] = true := by grind [allI]
        have := rep_of_isI (r1.2 j hj (by simpa using h2)) hi
        grind
      · cases hx'
  · cases hx
theorem getS_resS (olds : List Nat) (l : List (Nat × Blk)) (m : Nat) : getS (resS olds l) m = if olds.contains m then getS l m else none := by
  induction l with
  | nil => simp [resS, getS]
  | cons x r ih =>
    grind [resS,getS]
theorem subS_resS (olds : List Nat) (l : List (Nat × Blk)) : ∀ m b, getS (resS olds l) m = some b → getS l m = some b := fun m b h => by grind [getS_resS]
theorem StoOk.res (h : StoOk S.p M μ sto w) {sto' : List (Nat × Blk)} (hs : ∀ m b, getS sto' m = some b → getS sto m = some b) (hc : clS sto' sto' = true) : StoOk S.p M μ sto' w where
  sub := h.sub
  blk := fun nm b hb => (h.blk nm b (hs nm b hb)).mono (Mem.le_refl _) rfl (fun m hm _ => ⟨clS_get hc nm b hb m hm, rfl⟩) (fun _ _ _ => rfl) (fun _ _ _ => Mem.same_refl _ _)
  sep := fun m m' k k' hne h1 h2 => by
    refine h.sep m m' k k' hne ?_ ?_
    · obtain ⟨x, hx⟩ := Option.isSome_iff_exists.1 h1; simp [names, hs m x hx]
    · obtain ⟨x, hx⟩ := Option.isSome_iff_exists.1 h2; simp [names, hs m' x hx]
  low := h.low
theorem kf_mem : ∀ {ks : List (Nat × Nat)} {o : Nat}, o ∈ ks.map (·.1) → (o, kf ks o) ∈ ks
  | [], o, h => by simp at h
  | (k, nw) :: r, o, h => by
    simp only [kf]
    split
    · rename_i e; subst e; exact List.mem_cons_self
    · rename_i e
      simp only [List.map_cons, List.mem_cons] at h
      exact List.mem_cons_of_mem _ (kf_mem (h.resolve_left (Ne.symm e)))
theorem nodupB_pair : ∀ {ks : List (Nat × Nat)}, nodupB (ks.map (·.2)) = true → ∀ {o o' nw : Nat}, (o, nw) ∈ ks → (o', nw) ∈ ks → o = o'
  | [], _, o, o', nw, h, _ => by simp at h
  | (k, m) :: r, hd, o, o', nw, h, h' => by
    obtain ⟨h1, h2⟩ := nodupB_mem (by simpa using hd)
    simp only [List.mem_cons, Prod.mk.injEq] at h h'
    rcases h with ⟨e1, e2⟩ | h <;> rcases h' with ⟨e3, e4⟩ | h'
    · rw [e1, e3]
    · subst e2; exact (h1 (List.mem_map.2 ⟨_, h', rfl⟩)).elim
    · subst e4; exact (h1 (List.mem_map.2 ⟨_, h, rfl⟩)).elim
    · exact nodupB_pair h2 h h'
def kb : List (Nat × Nat) → Nat → Option Nat
  | [], _ => none
  | (o, nw) :: r, m => if nw = m then some o else kb r m
theorem kb_some : ∀ {ks : List (Nat × Nat)} {m o : Nat}, kb ks m = some o → (o, m) ∈ ks
  | [], m, o, h => by cases h
  | (k, nw) :: r, m, o, h => by
    simp only [kb] at h
    split at h
    · rename_i e; subst e; cases h; exact List.mem_cons_self
    · exact List.mem_cons_of_mem _ (kb_some h)
theorem kb_mem : ∀ {ks : List (Nat × Nat)} {m o : Nat}, (o, m) ∈ ks → (kb ks m).isSome = true
  | [], m, o, h => by simp at h
  | (k, nw) :: r, m, o, h => by
    simp only [kb]
    split
    · rfl
    · rename_i e
      simp only [List.mem_cons, Prod.mk.injEq] at h
      exact kb_mem (h.resolve_left fun q => e q.2.symm)
theorem BlkOk.put {S : Nat → Prop} {M : Mem} {μ : Place} {N : Nat → Prop} {w : World} {nm b : Nat} {x : Blk} {o : Obj} (h : BlkOk S M μ N w nm x) (hd : ∃ ds, w.heap[b]? = some (.deferred ds)) : BlkOk S M μ N (w.putObj b o) nm x := by
  have own : ∀ {k : Nat} {q : Obj}, Owns S M w k q → (∀ ds, q ≠ .deferred ds) → Owns S M (w.putObj b o) k q := fun {k q} hq hne => ⟨hq.low, by
    obtain ⟨ds, hd⟩ := hd
    rw [World.putObj_heap_other (fun e => by subst e; rw [hq.heap] at hd; cases hd; exact hne ds rfl)]; exact hq.heap, hq.unk⟩
  cases x with
  | cells cs => obtain ⟨bb, vs, t, e, ho, hsz, hr⟩ := h; exact ⟨bb, vs, t, e, own ho (fun _ => by simp), hsz, hr⟩
  | rows e k rs =>
    obtain ⟨aa, cap, e, hh⟩ := h
    refine ⟨aa, cap, e, hh.imp id ?_⟩
    grind
  | map ls es => obtain ⟨bb, xs, clk, e, ho, q⟩ := h; exact ⟨bb, xs, clk, e, own ho (fun _ => by simp), q⟩
  | iter cur rest => obtain ⟨bb, mm, since, seen, last, e, ho, q⟩ := h; exact ⟨bb, mm, since, seen, last, e, own ho (fun _ => by simp), q⟩
  | lp l q cs => obtain ⟨vs, e, ho, q⟩ := h; exact ⟨vs, e, own ho (fun _ => by simp), q⟩
  | gmap ls clk es => obtain ⟨bb, xs, e, ho, q⟩ := h; exact ⟨bb, xs, e, own ho (fun _ => by simp), q⟩
  | arr e k rs =>
    obtain ⟨aa, e1, hh⟩ := h
    refine ⟨aa, e1, hh.imp id ?_⟩
    grind
theorem BlkOk.shr {S S' : Nat → Prop} {M : Mem} {μ : Place} {N : Nat → Prop} {w : World} {nm : Nat} {x : Blk} (hs : ∀ b, S b → S' b) (h : BlkOk S' M μ N w nm x) : BlkOk S M μ N w nm x :=
  h.reS fun k _ hS => hs k hS
theorem StoOk.shr {S S' : Nat → Prop} {M : Mem} {μ : Place} {l : List (Nat × Blk)} {w : World} (hs : ∀ b, S b → S' b) (h : StoOk S' M μ l w) : StoOk S M μ l w :=
  ⟨h.sub, fun nm b hb => (h.blk nm b hb).shr hs, h.sep, fun b hb => h.low b (hs b hb)⟩
theorem StoOk.put {S : Nat → Prop} {M : Mem} {μ : Place} {l : List (Nat × Blk)} {w : World} {b : Nat} {o : Obj} (h : StoOk S M μ l w) (hd : ∃ ds, w.heap[b]? = some (.deferred ds)) : StoOk S M μ l (w.putObj b o) := by
  refine ⟨⟨fun k q v hk => ?_, fun k x hk => ?_⟩, fun nm x hx => (h.blk nm x hx).put hd, h.sep, fun k hk => by rw [World.putObj_size]; exact h.low k hk⟩
  · have h1 := h.sub.1 k q v hk
    obtain ⟨ds, hd⟩ := hd
    have hne : k ≠ b := fun e => by subst e; simp [World.cell?, hd] at h1
    rw [← h1]
    exact World.cell?_of_block (World.putObj_heap_other hne)
  · have h1 := h.sub.2 k x hk
    obtain ⟨ds, hd⟩ := hd
    have hne : k ≠ b := fun e => by grind
    rw [World.putObj_heap_other hne]; exact h1
theorem Keeps.put {S : Nat → Prop} {w w' : World} {b : Nat} {o : Obj} (h : Keeps S w w') (hb : ¬ S b) : Keeps S w (w'.putObj b o) :=
  ⟨h.os, h.tape, h.output, by rw [World.putObj_size]; exact h.size, fun k hk => by rw [World.putObj_heap_other (k := k) (r := b) (fun e => hb (by rw [← e]; exact hk))]; exact h.block k hk, h.drawn⟩
theorem MC_of_J {f : FuncId} {fn : Func} {mu : List Nat} {rt : List (Nat × Nat)} {j : J} {hh : List (Nat × List (List Nat))} {args : List D} {mv : List Nat} {R : D → List (Nat × Blk) → Prop} {rs : List RV} (hf : P.funcs[f]? = some fn) (hname : (fn.name != "runtime.NumGoroutine") = true)
    (hn : fn.ntmps = n) (hargs : Nat.ble args.length n = true) (h999 : Nat.ble n 999 = true) (hbc : fn.body.bind (comp P GL n mu true rt hh) = some j.ir) (hrs : fn.results.toList.mapM (compRV P) = some rs)
    (hpin : ((sto.map (·.1)).all fun m => (Nat.ble 5000 m && Nat.blt m 5500) || mv.contains m) = true)
    (hw : W2 P GL j (bodyK rs (sto.map (·.1)) mv R) ⟨.l (env0 0 args), sto⟩) (hfy : Nat.blt f 1000000000 = true := by first | rfl | assumption) : MC P GL f args sto mv R := by
  obtain ⟨c, hb, hc⟩ := Option.bind_eq_some_iff.1 hbc
  have hargs : args.length ≤ n := Nat.le_of_ble_eq_true hargs
  have h999 : n ≤ 999 := Nat.le_of_ble_eq_true h999
  intro M μ w vs hsto hglob hr
  refine .inl ⟨by unfold enters; rw [hfy, hf]; simp only [hname, Bool.true_and, hb, Option.isSome_some], ?_⟩
  have hvl : vs.size = args.length := by simpa using hr.1
  subst hn
  have h0 : Rel GL fn.ntmps (shut μ sto w) M μ ⟨.l (env0 0 args), sto⟩ { tmps := vs ++ Array.replicate (fn.ntmps - vs.size) Go.undef, defers := [] } w :=
    { toStoOk := hsto, small := h999, pin := fun _ _ => rfl, defers := rfl
      size := by simp; omega
      env := fun s => by
        refine getL_env0 args vs.toList 0 hr s _ (fun hl _ => ?_)
        simp at hl
        simp [hl, Array.getElem?_append]
      glob := hglob }
  refine callsIn_wide.1 (callsIn_of_wp_marks (n := 0) hf hb trivial (wpIn_mono (snd_code c none _ hc (.inl rfl) _ _ M _ _ _ w h0 hw) ?_))
  rintro e a' w' ⟨st', hk, S', hg', M', μ', hS', hm, hkeep'⟩
  have fin : ∀ w1, Rel GL fn.ntmps (shut μ sto w) M' μ' st' ⟨a'.tmps, []⟩ w1 → Keeps (shut μ sto w).p w w1 → resV rs (sto.map (·.1)) mv R st' → ∃ v, (results fn a'.tmps).run P w1 = .ok v w1 ∧ ∃ v1, Ending.returned v = Ending.returned v1 ∧ ∃ r sto' M'' μ'', R r sto' ∧ StoOk (shut μ sto w) M'' μ'' sto' w1 ∧ RepD M'' μ'' (names sto') r v1 ∧
      MExt (shut μ sto w) M M'' ∧ Keeps (shut μ sto w) w w1 ∧ ∀ nm, names sto nm → nm ∉ mv → μ'' nm = μ nm := by
    intro w1 h' hkeep hres
    obtain ⟨l, ks, hres⟩ := hres
    obtain ⟨M2, h2, m2⟩ := h'.frzNs l
    generalize frzNs l st' = st2 at hres h2
    split at hres
    · rename_i x hx
      obtain ⟨v, hrun, hxr⟩ := retD_rep h2 hrs hx
      obtain ⟨hko, ⟨hin, hcl⟩, hR⟩ := hres
      simp only [keepOk, Bool.and_eq_true, List.all_eq_true, Bool.or_eq_true, beq_iff_eq, Bool.not_eq_true'] at hko
      obtain ⟨⟨hk1, hk2⟩, hk3⟩ := hko
      generalize hst : resS (ks.map (·.1)) st2.sto = sto2 at hin hcl hR
      have hsub2 : ∀ m b, getS sto2 m = some b → getS st2.sto m = some b := fun m b hb => by grind [subS_resS]
      have hold : ∀ m, names sto2 m → m ∈ ks.map (·.1) := fun m hm => by grind [names,getS_resS]
      have hs2 : StoOk (shut μ sto w).p M2 μ' sto2 w1 := h2.toStoOk.res hsub2 hcl
      have hinj : ∀ a b, names sto2 a → names sto2 b → kf ks a = kf ks b → a = b := fun a b ha hb e => by grind [kf_mem,nodupB_pair]
      let μ2 : Place := fun m => match kb ks m with | some o => μ' o | none => μ m
      have hμ2 : ∀ m, names sto2 m → μ2 (kf ks m) = μ' m := fun m hm => by
        have h1 := kf_mem (hold m hm)
        obtain ⟨o, ho⟩ := Option.isSome_iff_exists.1 (kb_mem h1)
        have : o = m := nodupB_pair hk2 (kb_some ho) h1
        grind
      refine ⟨v, hrun, v, rfl, _, _, M2, μ2, hR, hs2.mp hinj hμ2 (fun _ => Iff.rfl), ?_, hm.trans m2, hkeep, fun nm hnm hmv => ?_⟩
      · have : RepD M2 μ' (names sto2) x v := hxr.mono' (Mem.le_refl _) fun q hq _ => ⟨inS_mem hin q hq, rfl⟩
        exact this.mp (fun m hm => names_mp hm) hμ2
      · simp only [μ2]
        cases hb : kb ks nm with
        | none => rfl
        | some o =>
          have hmem := kb_some hb
          have hg : nm ∈ sto.map (·.1) := mem_names.2 hnm
          rcases hk3 _ hmem with (e | e) | e
          · simp only at e
            subst e
            simp only
            rw [List.all_eq_true] at hpin
            have := hpin _ hg
            simp only [Bool.or_eq_true, Bool.and_eq_true, Nat.ble_eq, Nat.blt_eq] at this
            rcases this with q | q
            · exact h2.pin _ q
            · exact (hmv (List.contains_iff_mem.1 q)).elim
          · have := List.contains_iff_mem.2 hg
            simp only at e
            rw [e] at this; cases this
          · exact (hmv (List.contains_iff_mem.1 e)).elim
    · exact hres.elim
  obtain ⟨bs, hbs, hnd, hbl⟩ := hg'.ds
  have hds : a'.defers = bs.map mkD := by rw [hS'.defers, hbs]; exact List.append_nil _
  have hq : S'.q = (shut μ sto w).q := hg'.q
  have key : resV rs (sto.map (·.1)) mv R st' → ∀ (bs : List Nat) (w1 : World), bs.Nodup → (∀ b ∈ bs, ¬ (shut μ sto w).p b ∧ w1.heap[b]? = some (.deferred (some []))) → StoOk (shut μ sto w).p M' μ' st'.sto w1 → Keeps (shut μ sto w).p w w1 →
      LeavesInM Fence.wide 0 P fn a'.tmps (fun e w' => ∃ v, e = .returned v ∧ ∃ r sto' M' μ', R r sto' ∧ StoOk (shut μ sto w) M' μ' sto' w' ∧ RepD M' μ' (names sto') r v ∧ MExt (shut μ sto w) M M' ∧ Keeps (shut μ sto w) w w' ∧ ∀ nm, names sto nm → nm ∉ mv → μ' nm = μ nm) (bs.map mkD) .returning w1 := by
    intro hres bs
    induction bs with
    | nil =>
      intro w1 _ _ hs hk
      obtain ⟨v, hrun, hh⟩ := fin w1 { toStoOk := hs, small := hS'.small, pin := fun m hm => (hS'.pin m hm).trans (by rw [hq]), defers := rfl, size := hS'.size, env := hS'.env, glob := hS'.glob } hk hres
      exact ⟨v, hrun, hh⟩
    | cons b bs ih =>
      intro w1 hnd hbl hs hk
      have hb := hbl b List.mem_cons_self
      refine ⟨by simp, .inl ⟨b, w1.putObj b (.deferred none), rfl, run_takeDeferred hb.2, ?_⟩⟩
      refine ih _ (List.nodup_cons.1 hnd).2 (fun k (hk' : k ∈ bs) => ⟨(hbl k (List.mem_cons_of_mem _ hk')).1, ?_⟩) (hs.put ⟨_, hb.2⟩) (hk.put hb.1)
      rw [World.putObj_heap_other (k := k) (r := b) (fun e => (List.nodup_cons.1 hnd).1 (by rw [← e]; assumption))]
      exact (hbl k (List.mem_cons_of_mem _ hk')).2
  have go : resV rs (sto.map (·.1)) mv R st' → _ := fun hres => key hres bs w' hnd (fun b hb => ⟨(hbl b hb).2.1, (hbl b hb).2.2⟩) (hS'.toStoOk.shr hg'.p) hkeep'
  rw [← hds] at go
  cases e with
  | normal => exact go hk
  | ret => exact go hk
  | _ => exact hk.elim
end
end Go.Dl
