/- A part of the proofs of WorkersExclude and WorkersMatchesSteps: A8. -/
import Derived.Test.YtcgjldimifeffaaGreatDoorA7
set_option linter.unusedVariables false
namespace Go.Dl
open Go Go.RowKit
theorem flat1_rep {M M' : Mem} {x : I} {v : Value} (h : Rep M x v) (hf : flatI.flat1 x = true) : Rep M' x v := by cases x <;> simp [flatI.flat1] at hf <;> cases h <;> constructor
theorem flatL_rep {M M' : Mem} {xs : List I} {vs : List Value} (h : RepL M xs vs) (hf : xs.all flatI.flat1 = true) : RepL M' xs vs :=
  ⟨h.1, fun j a b => flat1_rep (h.2 j a b) (by rw [List.all_eq_true] at hf; exact hf _ (List.getElem_mem _))⟩
theorem flat2_rep {M M' : Mem} {x : I} {v : Value} (h : Rep M x v) (hf : flatI.flat2 x = true) : Rep M' x v := by
  cases x with
  | agg cs => obtain ⟨vs, rfl, hl⟩ := h.agg_inv; exact Rep.agg' (flatL_rep hl hf)
  | _ => first | (simp [flatI.flat2] at hf; done) | exact flat1_rep h rfl
theorem flat_rep {M M' : Mem} {x : I} {v : Value} (h : Rep M x v) (hf : flatI x = true) : Rep M' x v := by
  cases x with
  | agg cs => obtain ⟨vs, rfl, hl⟩ := h.agg_inv; exact Rep.agg' (flatL_rep hl hf)
  | tup cs =>
    obtain ⟨vs, rfl, hl⟩ := h.tup_inv
    refine Rep.tup' ⟨hl.1, fun j a b => flat2_rep (hl.2 j a b) ?_⟩
    grind [flatI]
  | _ => first | (simp [flatI] at hf; done) | exact flat1_rep h rfl
section
variable {P : Program} {GL : List (Nat × List I)} {n : Nat} {S : Sh} {M : Mem} {μ : Place} {st : St} {a : Act} {w : World} {K : St → Prop} {Q : Exit → Act → World → Prop} {o : Oper} {d : Nat}
theorem run_callFunc {f : FuncId} (h : enters P f = true) (args : Array Value) : (callFunc f args).run P w = .ok (.enter f args) w := by
  unfold enters at h
  rw [Bool.and_eq_true] at h
  replace h := h.2
  split at h
  · rename_i fn hf
    simp only [Bool.and_eq_true, bne_iff_ne, ne_eq] at h
    have hb : fn.body ≠ none := by grind
    simp [callFunc, hf, h.1, hb]
  · cases h
def invk (f : FuncId) (vs : Array Value) : Sem Next := if Nat.blt f 1000000000 = true then callFunc f vs else Instr.yield (f - 1000000000) vs
theorem wp_does {f : FuncId} {vs : Array Value} {R : Value → World → Prop} {nx : Act → World → Prop} (hex : (execOp a.eval o).run P w = (invk f vs).run P w) (h : Does P f vs w R) (hn : ∀ v w', R v w' → nx (a.put o.dst v) w') :
    o.wpX P a w nx Q := by
  unfold Oper.wpX
  rw [hex]
  rcases h with ⟨h1, h2⟩ | ⟨hy, row, h1, h2⟩ | ⟨hy, v, w', h1, h2⟩ | ⟨hy, fn, tmps, as, bd, h1, h2⟩
  · have hy : Nat.blt f 1000000000 = true := by unfold enters at h1; rw [Bool.and_eq_true] at h1; exact h1.1
    rw [show invk f vs = callFunc f vs from if_pos hy, run_callFunc h1]
    refine (Oper.uponIn_enter ..).mpr ⟨fun hh => (by simp [Fence.wide] at hh), callsIn_wide.2 (h2.mono ?_)⟩
    rintro e w' ⟨v, rfl, hR⟩
    exact hn v w' hR
  · rw [show invk f vs = callFunc f vs from if_pos hy, h1]
    refine (Oper.uponIn_row ..).mpr ⟨fun hh => (by simp [Fence.wide] at hh), fun c cs _ => ?_⟩
    obtain ⟨v, w', r, s⟩ := (h2.mono hn) c cs
    exact ⟨v, w', r, stepsIn_wide.2 s⟩
  · rw [show invk f vs = callFunc f vs from if_pos hy, h1]
    exact hn v w' h2
  · rw [show invk f vs = Instr.yield (f - 1000000000) vs from if_neg (by rw [hy]; simp), h1]
    refine (Oper.uponIn_round ..).mpr ⟨fun hh => (by simp [Fence.wide] at hh), h2.mono ?_⟩
    rintro e w' ⟨v, rfl, hR⟩
    exact hn v w' hR
theorem subS_get : ∀ {l : List (Nat × Blk)} {s : List (Nat × Blk)}, subS l s → ∀ m b, getS l m = some b → getS s m = some b
  | [], s, _, m, b, h => by cases h
  | (k, d) :: r, s, h, m, b, hb => by
    simp only [getS] at hb
    split at hb
    · rename_i e; subst e; cases hb; exact h.1
    · exact subS_get h.2 m b hb
theorem inS_mem {l : List (Nat × Blk)} {ns : List Nat} (h : inS l ns = true) : ∀ m ∈ ns, names l m := fun m hm => by simp only [inS, List.all_eq_true] at h; exact h m hm
theorem clS_get {T : List (Nat × Blk)} : ∀ {l : List (Nat × Blk)}, clS T l = true → ∀ m b, getS l m = some b → ∀ q ∈ b.nms, names T q
  | [], _, m, cs, h => by cases h
  | (k, c) :: r, hh, m, b, hb => by
    simp only [clS, Bool.and_eq_true] at hh
    simp only [getS] at hb
    split at hb
    · cases hb
      exact inS_mem hh.1
    · exact clS_get hh.2 m b hb
theorem subE_get : ∀ {l : List (Nat × D)} {e : Env}, subE l e → ∀ s, getL l s = .any ∨ getL l s = getE e s
  | [], e, _, s => .inl rfl
  | (m, d) :: r, e, h, s => by
    simp only [getL]
    split
    · rename_i e; subst e; exact .inr h.1.symm
    · exact subE_get h.2 s
theorem clE_get {T : List (Nat × Blk)} : ∀ {l : List (Nat × D)}, clE T l = true → ∀ s, ∀ q ∈ (getL l s).nms, names T q
  | [], _, s => fun q hq => by simp [getL, D.nms] at hq
  | (m, d) :: r, h, s => by
    simp only [clE, Bool.and_eq_true] at h
    simp only [getL]
    split
    · exact inS_mem h.1
    · exact clE_get h.2 s
theorem StoOk.less {M : Mem} {μ : Place} {sto sto' : List (Nat × Blk)} {w : World} (h : StoOk S M μ sto w) (hs : subS sto' sto) (hc : clS sto' sto' = true) : StoOk S M μ sto' w where
  sub := h.sub
  blk := fun nm b hb => (h.blk nm b (subS_get hs nm b hb)).mono (Mem.le_refl _) rfl (fun m hm _ => ⟨clS_get hc nm b hb m hm, rfl⟩) (fun _ _ _ => rfl) (fun _ _ _ => Mem.same_refl _ _)
  sep := fun m m' k k' hne h1 h2 => by
    refine h.sep m m' k k' hne ?_ ?_
    · obtain ⟨x, hx⟩ := Option.isSome_iff_exists.1 h1; simp [names, subS_get hs m x hx]
    · obtain ⟨x, hx⟩ := Option.isSome_iff_exists.1 h2; simp [names, subS_get hs m' x hx]
  low := h.low
theorem Rel.sub' {M : Mem} {μ : Place} {st st' : St} {a : Act} {w : World} (h : Rel GL n S M μ st a w) (hs : Sub st' st) : Rel GL n S M μ st' a w := by
  unfold Sub at hs
  split at hs
  · rename_i es he
    obtain ⟨h1, h2, h3, h4⟩ := hs
    refine { toStoOk := h.toStoOk.less h2 h4, small := h.small, pin := h.pin, defers := h.defers, size := h.size, env := fun s => ?_, glob := h.glob }
    rw [he]
    simp only [getE]
    rcases subE_get h1 s with e | e
    · rw [e]; trivial
    · have := clE_get h3 s
      rw [e] at this ⊢
      exact (h.env s).mono' (Mem.le_refl _) fun q hq _ => ⟨this q hq, rfl⟩
  · exact hs.elim
theorem repDs_names {N N' : Nat → Prop} {xs : List D} {vs : List Value} (h : RepDs M μ N xs vs) (hn : ∀ x ∈ xs, ∀ q ∈ x.nms, N' q) : RepDs M μ N' xs vs :=
  ⟨h.1, fun j a b => (h.2 j a b).mono' (Mem.le_refl _) fun q hq _ => ⟨hn _ (List.getElem_mem a) q hq, rfl⟩⟩
theorem wp_callG (h : Rel GL n S M μ st a w) {get : St → Option (FuncId × List D)} (hd : ∀ d, o.dst = some d → d < n) (hn : n ≤ 999)
    (hget : ∀ (M1 : Mem) (st1 : St), Rel GL n S M1 μ st1 a w → ∀ f ds, get st1 = some (f, ds) → ∃ vs : Array Value, RepDs M1 μ (names st1.sto) ds vs.toList ∧ (execOp a.eval o).run P w = (invk f vs).run P w)
    (hs : callG P GL get st o.dst K) : o.wpX P a w (Goal GL n S M w K) Q := by
  obtain ⟨l, hs⟩ := hs
  obtain ⟨M1, h1, m1⟩ := h.frzNs l
  cases hg : get (frzNs l st) with
  | none => simp [hg] at hs
  | some p =>
    obtain ⟨f, ds⟩ := p
    simp only [hg] at hs
    obtain ⟨vs, hrep, hex⟩ := hget M1 _ h1 f ds hg
    have hd9 : o.dst.getD 999 < 1000 := by
      cases e : o.dst with
      | none => simp
      | some d => have := hd d e; simp only [Option.getD_some]; exact Nat.lt_of_lt_of_le this (by omega)
    rcases hs with hs | hs | hs
    · obtain ⟨sto, mv, R, hmc, hsub, hcl, hin, hmvp, hR⟩ := hs
      have hands : ∀ m b, getS sto m = some b → getS (frzNs l st).sto m = some b := subS_get hsub
      have hhand := h1.toStoOk.hand (sto := sto) hands (fun m b hm q hq => clS_get hcl m b hm q hq)
      have hargs := repDs_names hrep (N' := names sto) (fun x hx => by rw [List.all_eq_true] at hin; exact inS_mem (hin x hx))
      refine wp_does hex (hmc M1 μ w vs hhand h1.glob hargs) ?_
      rintro v w' ⟨r, sto', M', μ', hr, q1, q2, q3, q4, q5⟩
      obtain ⟨hfr, hold, hK⟩ := hR r sto' hr
      obtain ⟨μ2, h2, m2, k2, hret⟩ := h1.afterCall hd9 hands q1 q3 q4 q5 (fun m hm => by
        have := hfr m (mem_names.2 hm); exact this) (fun m hm hp => by
        rw [List.all_eq_true] at hmvp
        have := hmvp m hm
        unfold pinned at hp
        simp only [Bool.or_eq_true, Nat.blt_eq, Nat.ble_eq] at this
        omega) (fun m h1 h2 => hold m (mem_names.2 h1) h2)
      refine ⟨_, hK, M', μ2, ?_, m1.trans m2, k2⟩
      cases e : o.dst with
      | none => simp only [e] at h2 ⊢; exact h2
      | some s => simp only [e, Option.getD_some] at h2 hret ⊢; exact h2.put (hd s e) (hret r v q2)
    · obtain ⟨R, hmc, hin, hR⟩ := hs
      have hempty : StoOk (shut μ [] w) M1 μ [] w := { sub := h1.sub, blk := fun m b hb => (by cases hb), sep := fun m m' k k' _ hm => (by simp [names, getS] at hm), low := fun b hb => hb.1 }
      have hargs := repDs_names hrep (N' := names []) (fun x hx => by rw [List.all_eq_true] at hin; exact inS_mem (hin x hx))
      refine wp_does hex (hmc M1 μ w vs hempty h1.glob hargs) ?_
      rintro v w' ⟨r, sto', M', μ', hr, q1, q2, q3, q4, q5⟩
      obtain ⟨y, rfl, hflat, hK⟩ := hR r sto' hr
      have hk : ∀ k, k < w.heap.size → w'.heap[k]? = w.heap[k]? := fun k hk => q4.block k ⟨hk, fun m hm => by simp [names, getS] at hm⟩
      have h2 : Rel GL n S M μ st a w' := h.of (h.toStoOk.world q4.size hk) (Mem.le_refl _) fun _ _ hv => hv
      have hy : Rep M y v := flat_rep q2 hflat
      refine ⟨_, hK, M, μ, ?_, MExt.refl _ _, q4.mono fun k hk => ⟨h.low k hk, fun m hm => by simp [names, getS] at hm⟩⟩
      cases e : o.dst with
      | none => exact h2
      | some s => exact h2.put (hd s e) (repD_i hy)
    · obtain ⟨sto, mv, R, hmc, hsub, hcl, hin, hmvp, hR⟩ := hs
      have hands : ∀ m b, getS sto m = some b → getS (frzNs l st).sto m = some b := subS_get hsub
      have hhand := h1.toStoOk.hand (sto := sto) hands (fun m b hm q hq => clS_get hcl m b hm q hq)
      have hargs := repDs_names hrep (N' := names sto) (fun x hx => by rw [List.all_eq_true] at hin; exact inS_mem (hin x hx))
      refine wp_does hex (hmc M1 μ w vs hhand h1.glob hargs) ?_
      rintro v w' ⟨r, sto', M', μ', hr, q1, q2, q3, q4, q5⟩
      obtain ⟨hfr, hold, y, s', rfl, hsub', hK⟩ := hR r sto' hr
      obtain ⟨μ2, h2, m2, k2, hret⟩ := h1.afterCall hd9 hands q1 q3 q4 q5 (fun m hm => by
        have := hfr m (mem_names.2 hm); exact this) (fun m hm hp => by
        rw [List.all_eq_true] at hmvp
        have := hmvp m hm
        unfold pinned at hp
        simp only [Bool.or_eq_true, Nat.blt_eq, Nat.ble_eq] at this
        omega) (fun m h1 h2 => hold m (mem_names.2 h1) h2)
      refine ⟨_, hK, M', μ2, ?_, m1.trans m2, k2⟩
      cases e : o.dst with
      | none => simp only [e] at h2 hsub' ⊢; exact h2.sub' hsub'
      | some s => simp only [e, Option.getD_some] at h2 hret hsub' ⊢; exact (h2.sub' hsub').put (hd s e) (repD_i q2)
theorem snd_call (h : Rel GL n S M μ st a w) {f : FuncId} {args : Array Operand} {tys : Array TypeId} {os : List O} (hfy : Nat.blt f 1000000000 = true) (ho : o.op = .call { callee := .value (.func f), args := args, argTypes := tys })
    (hd : ∀ d, o.dst = some d → d < n) (hn : n ≤ 999) (hx : args.toList.mapM (cO GL) = some os) (hs : step P GL (.call o.dst f os) st K) : o.wpX P a w (Goal GL n S M w K) Q := by
  refine wp_callG (get := getC GL f os) h hd hn (fun M1 st1 h1 f' ds hg => ?_) (by simpa only [step] using hs)
  simp only [getC, Option.some.injEq, Prod.mk.injEq] at hg
  obtain ⟨rfl, rfl⟩ := hg
  refine ⟨args.map a.eval, by simpa using opvs_repD h1 hx, ?_⟩
  rw [show invk f (args.map a.eval) = callFunc f (args.map a.eval) from if_pos hfy]
  simp [execOp, ho, resolve, Act.eval, Deferred.ofValue, invoke]
theorem snd_callo (h : Rel GL n S M μ st a w) {f d : Nat} {args : Array Operand} {tys : Array TypeId} {os : List O} (hfy : Nat.blt f 1000000000 = true) (ho : o.op = .call { callee := .value (.func f), args := args, argTypes := tys })
    (hd : o.dst = some d) (hdn : d < n) (hn : n ≤ 999) (hx : args.toList.mapM (cO GL) = some os) (hs : step P GL (.callo d f os) st K) : o.wpX P a w (Goal GL n S M w K) Q := by
  simp only [step, callO] at hs
  obtain ⟨hI, R, hmc, hR⟩ := hs
  refine snd_call h hfy ho (fun d' e => by rw [hd] at e; cases e; exact hdn) hn hx ?_
  simp only [step]
  refine ⟨[], .inl ⟨[], [], R, hmc, trivial, rfl, ?_, rfl, fun r sto' hr => ?_⟩⟩
  · rw [List.all_eq_true] at hI ⊢
    intro x hx
    have := hI x hx
    cases x <;> simp [isI] at this; rfl
  · obtain ⟨h1, h2⟩ := hR r sto' hr
    refine ⟨fun nm hm => .inr (h1 nm ?_), fun nm hm => by simp at hm, ?_⟩
    · rw [hd] at hm; exact hm
    · rw [hd]; exact h2
def isNil0 : Operand → Bool
  | .const (.slice none 0 0) => true
  | _ => false
def cN (GL : List (Nat × List I)) (x : Operand) : Option O := if isNil0 x = true then some (.c .undef) else (cO GL x).bind fun o => match o with | .c .undef => none | o => some o
theorem cN_rep (h : Rel GL n S M μ st a w) {nm k : Nat} (hn : names st.sto nm) (hm : SlAt (μ nm) k 0 0 (.slice none 0 0)) {x : Operand} {o : O} (hc : cN GL x = some o) : RepD M μ (names st.sto) (opvN GL nm k st o) (a.eval x) := by
  unfold cN at hc
  split at hc
  · rename_i hx
    cases hc
    obtain rfl : x = .const (.slice none 0 0) := by unfold isNil0 at hx; split at hx <;> simp_all
    exact ⟨hn, hm⟩
  · cases hq : cO GL x with
    | none => simp [hq] at hc
    | some q =>
      rw [hq] at hc
      simp only [Option.bind_some] at hc
      split at hc
      · cases hc
      · rename_i hne
        cases hc
        have e : opvN GL nm k st o = opv GL st o := by unfold opvN; split; exact (hne rfl).elim; rfl
        rw [e]; exact opv_rep h hq
theorem cNs_rep (h : Rel GL n S M μ st a w) {nm k : Nat} (hn : names st.sto nm) (hm : SlAt (μ nm) k 0 0 (.slice none 0 0)) : ∀ {xs : List Operand} {os : List O}, xs.mapM (cN GL) = some os → RepDs M μ (names st.sto) (os.map (opvN GL nm k st)) (xs.map a.eval)
  | [], os, hc => by simp at hc; subst hc; exact ⟨rfl, fun j hj => by simp at hj⟩
  | x :: xs, os, hc => by
    rw [List.mapM_cons] at hc
    cases h1 : cN GL x with
    | none => simp [h1] at hc
    | some o =>
      cases h2 : xs.mapM (cN GL) with
      | none => simp [h1, h2] at hc
      | some os' =>
        simp [h1, h2] at hc
        subst hc
        obtain ⟨q1, q2⟩ := cNs_rep h hn hm h2
        have q3 := cN_rep h hn hm h1
        refine ⟨by simp at q1 ⊢; exact q1, fun j hj hj' => ?_⟩
        cases j with
        | zero => exact q3
        | succ j => exact q2 j (by simpa using hj) (by simpa using hj')
theorem snd_calln (h : Rel GL n S M μ st a w) {f e k : Nat} {args : Array Operand} {tys : Array TypeId} {os : List O} (hfy : Nat.blt f 1000000000 = true) (ho : o.op = .call { callee := .value (.func f), args := args, argTypes := tys })
    (hd : o.dst = some d) (hdn : d < n) (hn : n ≤ 999) (hx : args.toList.mapM (cN GL) = some os) (hs : step P GL (.calln d f e k os) st K) : o.wpX P a w (Goal GL n S M w K) Q := by
  simp only [step, callnE] at hs
  split at hs
  · rename_i hnm
    have hb := h.bindEmptyA (nm := d + 2000) hnm (by unfold pinned; omega) none e k
    rw [← hd] at hs
    refine wp_callG (get := getN GL f (d + 2000) k os) hb (fun d' h' => by rw [hd] at h'; cases h'; exact hdn) hn (fun M1 st1 h1 f' ds hg => ?_) hs
    unfold getN at hg
    split at hg
    · rename_i hnm1
      cases hg
      have hr := cNs_rep (k := k) h1 hnm1 (by rw [updP_self]; exact slAt_empty _ _) hx
      refine ⟨(args.map a.eval), by simpa using hr, ?_⟩
      · rw [show invk f (args.map a.eval) = callFunc f (args.map a.eval) from if_pos hfy]
        simp [execOp, ho, resolve, Act.eval, Deferred.ofValue, invoke]
    · cases hg
  · exact hs.elim
theorem repDs_append {N : Nat → Prop} {xs ys : List D} {vs us : List Value} (h : RepDs M μ N xs vs) (k : RepDs M μ N ys us) : RepDs M μ N (xs ++ ys) (vs ++ us) := by
  refine ⟨by simp [h.1, k.1], fun j a b => ?_⟩
  by_cases hj : j < xs.length
  · rw [List.getElem_append_left hj, List.getElem_append_left (by rw [h.1]; exact hj)]
    exact h.2 j hj _
  · have e : vs.length = xs.length := h.1
    rw [List.getElem_append_right (by omega), List.getElem_append_right (by omega)]
    have := k.2 (j - xs.length) (by simp at a; omega) (by simp at b; omega)
    grind
theorem repL_D {N : Nat → Prop} {xs : List I} {vs : List Value} (h : RepL M xs vs) : RepDs M μ N (xs.map .i) vs :=
  ⟨by simpa using h.1, fun j a b => by rw [List.getElem_map]; exact repD_i (h.2 j (by simpa using a) b)⟩
theorem repCs_D {N : Nat → Prop} {xs : List Cp} {vs : List Value} (h : RepCs M μ N xs vs) : RepDs M μ N (xs.map Cp.toD) vs :=
  ⟨by simpa using h.1, fun j a b => by rw [List.getElem_map]; exact (h.2 j (by simpa using a) b).toD⟩
theorem meth_run {t : TypeId} {m : String} {f : FuncId} {v : Value} {w : World} (h : methF P t m = some f) (k : Nat) : (method (k + 1) t v m).run P w = .ok (f, v) w ∧ Nat.blt f 1000000000 = true := by
  unfold methF at h
  split at h
  · rename_i i hi
    split at h
    · rename_i q hq
      split at h
      · rename_i f' hf
        split at h
        · rename_i hp
          have ht : (typeInfo t).run P w = .ok i w := by simp [typeInfo, hi]
          split at h
          · cases h
          · rename_i u hne hu
            cases h
            refine ⟨?_, hp.2⟩
            simp only [method, Sem.run_bind, ht, Result.andThen_ok, hq, hp.1, follow, Sem.run_pure, hf, receiverAt, run_underlying hu w]
            simp [Place.get]
          · cases h
        · cases h
      · cases h
    · cases h
  · cases h
theorem snd_inv (h : Rel GL n S M μ st a w) {recv : Operand} {m : String} {ox : O} {args : Array Operand} {tys : Array TypeId} {os : List O} (ho : o.op = .call { callee := .invoke recv m, args := args, argTypes := tys })
    (hd : ∀ d, o.dst = some d → d < n) (hn : n ≤ 999) (hr : cO GL recv = some ox) (hx : args.toList.mapM (cO GL) = some os) (hs : step P GL (.inv o.dst m ox os) st K) : o.wpX P a w (Goal GL n S M w K) Q := by
  refine wp_callG (get := getIv P GL m ox os) h hd hn (fun M1 st1 h1 f' ds hg => ?_) (by simpa only [step] using hs)
  have hv := opv_rep h1 hr
  have hargs := opvs_repD h1 hx
  unfold getIv getIm at hg
  split at hg
  · rename_i t y e
    rw [e] at hv
    rw [Option.map_eq_some_iff] at hg
    obtain ⟨f, hf, hg⟩ := hg
    obtain ⟨rfl, rfl⟩ := Prod.mk.inj hg
    have hv := repD_i_inv hv
    generalize hev : a.eval recv = rv at hv
    cases hv with
    | iface _ _ v hyv =>
      refine ⟨#[v] ++ args.map a.eval, ?_, ?_⟩
      · have := repDs_append (repL_D (μ := μ) (N := names st1.sto) (RepL.cons hyv (RepL.nil M1))) hargs
        simpa using this
      · have hm := meth_run (v := v) (w := w) hf (P.types.size + 99)
        rw [show invk f (#[v] ++ args.map a.eval) = callFunc f (#[v] ++ args.map a.eval) from if_pos hm.2]
        have e0 : (#[Value.iface t v] ++ args.map a.eval)[0]? = some (.iface t v) := by simp [Array.getElem?_append]
        simp only [execOp, ho, resolve, hev, invoke, Sem.run_bind, Sem.run_pure, Result.andThen_ok, e0, callMethod]
        rw [show (Sem.run P program w) = .ok P w from rfl]
        simp only [Result.andThen_ok]
        rw [show P.types.size + Made.depth = P.types.size + 99 + 1 from rfl, hm.1]
        have e1 : (args.map a.eval).extract 0 args.size = args.map a.eval := Array.ext (by simp) (fun i _ _ => by simp)
        simp [e1]
  · cases hg
theorem snd_callv (h : Rel GL n S M μ st a w) {fv : Operand} {of : O} {args : Array Operand} {tys : Array TypeId} {os : List O} (ho : o.op = .call { callee := .value fv, args := args, argTypes := tys })
    (hd : ∀ d, o.dst = some d → d < n) (hn : n ≤ 999) (hfv : cO GL fv = some of) (hx : args.toList.mapM (cO GL) = some os) (hs : step P GL (.callv o.dst of os) st K) : o.wpX P a w (Goal GL n S M w K) Q := by
  refine wp_callG (get := getCv GL of os) h hd hn (fun M1 st1 h1 f' ds hg => ?_) (by simpa only [step] using hs)
  have hf := opv_rep h1 hfv
  have hargs := opvs_repD h1 hx
  simp only [getCv, getV] at hg
  split at hg
  · rename_i f first caps e
    cases hg
    rw [e] at hf
    obtain ⟨va, vb, e2, hy, ra, rb⟩ := (repD_i_inv hf).fn_inv
    refine ⟨va ++ args.map a.eval ++ vb, ?_, ?_⟩
    · have := repDs_append (repDs_append (repL_D (μ := μ) (N := names st1.sto) ra) hargs) (repL_D rb)
      simpa using this
    · cases hb : Nat.blt f' 1000000000 with
      | true =>
        rw [show invk f' (va ++ args.map a.eval ++ vb) = callFunc f' (va ++ args.map a.eval ++ vb) from if_pos hb]
        simp [execOp, ho, resolve, e2, Deferred.ofValue, invoke, cdFn, hb]
      | false =>
        have hvb : vb = #[] := by
          have h1 := hy.resolve_left (by rw [hb]; simp)
          subst h1
          have := rb.1
          grind
        subst hvb
        rw [show invk f' (va ++ args.map a.eval ++ #[]) = Instr.yield (f' - 1000000000) (va ++ args.map a.eval ++ #[]) from if_neg (by rw [hb]; simp)]
        simp [execOp, ho, resolve, e2, Deferred.ofValue, invoke, cdFn, hb]
  · rename_i f first caps e
    cases hg
    rw [e] at hf
    obtain ⟨va, vb, e2, hy, ra, rb⟩ := hf
    refine ⟨va ++ args.map a.eval ++ vb, ?_, ?_⟩
    · have := repDs_append (repDs_append (repCs_D ra) hargs) (repCs_D rb)
      simpa using this
    · cases hb : Nat.blt f' 1000000000 with
      | true =>
        rw [show invk f' (va ++ args.map a.eval ++ vb) = callFunc f' (va ++ args.map a.eval ++ vb) from if_pos hb]
        simp [execOp, ho, resolve, e2, Deferred.ofValue, invoke, cdFn, hb]
      | false =>
        have hvb : vb = #[] := by
          have h1 := hy.resolve_left (by rw [hb]; simp)
          subst h1
          have := rb.1
          grind
        subst hvb
        rw [show invk f' (va ++ args.map a.eval ++ #[]) = Instr.yield (f' - 1000000000) (va ++ args.map a.eval ++ #[]) from if_neg (by rw [hb]; simp)]
        simp [execOp, ho, resolve, e2, Deferred.ofValue, invoke, cdFn, hb]
  · cases hg
end
end Go.Dl
