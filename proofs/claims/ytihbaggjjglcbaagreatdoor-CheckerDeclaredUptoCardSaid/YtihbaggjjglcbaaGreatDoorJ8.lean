/-
  What the laws of this seat share, part 8: no statement of its own.
-/
import Derived.Test.YtihbaggjjglcbaaGreatDoorJ7
set_option linter.unusedVariables false
set_option linter.unusedSimpArgs false

section
/-
  A data-level logic, second edition: calls.
-/
set_option linter.unusedVariables false
namespace Go.Dl
open Go Go.RowKit

theorem flat1_rep {M M' : Mem} {x : I} {v : Value} (h : Rep M x v) (hf : flatI.flat1 x = true) : Rep M' x v := by
  cases x <;> simp [flatI.flat1] at hf <;> cases h <;> constructor
theorem flatL_rep {M M' : Mem} {xs : List I} {vs : List Value} (h : RepL M xs vs) (hf : xs.all flatI.flat1 = true) : RepL M' xs vs :=
  ⟨h.1, fun j a b => flat1_rep (h.2 j a b) (by rw [List.all_eq_true] at hf; exact hf _ (List.getElem_mem _))⟩
theorem flat2_rep {M M' : Mem} {x : I} {v : Value} (h : Rep M x v) (hf : flatI.flat2 x = true) : Rep M' x v := by
  cases x with
  | agg cs => obtain ⟨vs, rfl, hl⟩ := h.agg_inv; exact Rep.agg' (flatL_rep hl hf)
  | _ => first | (simp [flatI.flat2] at hf; done) | exact flat1_rep h rfl
theorem flat_rep {M M' : Mem} {x : I} {v : Value} (h : Rep M x v) (hf : flatI x = true) : Rep M' x v := by
  cases x with
  | agg cs => obtain ⟨vs, rfl, hl⟩ := h.agg_inv; exact Rep.agg' (flatL_rep hl hf)
  | tup cs =>
    obtain ⟨vs, rfl, hl⟩ := h.tup_inv
    refine Rep.tup' ⟨hl.1, fun j a b => flat2_rep (hl.2 j a b) ?_⟩
    simp only [flatI, List.all_eq_true] at hf
    exact hf _ (List.getElem_mem _)
  | _ => first | (simp [flatI] at hf; done) | exact flat1_rep h rfl

section
variable {P : Program} {GL : List (Nat × List I)} {n : Nat} {S : Sh} {M : Mem} {μ : Place} {st : St} {a : Act} {w : World} {K : St → Prop} {Q : Exit → Act → World → Prop} {o : Oper} {d : Nat}

theorem run_callFunc {f : FuncId} (h : enters P f = true) (args : Array Value) : (callFunc f args).run P w = .ok (.enter f args) w := by
  unfold enters at h
  split at h
  · rename_i fn hf
    simp only [Bool.and_eq_true, bne_iff_ne, ne_eq] at h
    have hb : fn.body ≠ none := by intro e; rw [e] at h; simp at h
    simp [callFunc, hf, h.1, hb]
  · cases h

theorem wp_does {f : FuncId} {vs : Array Value} {R : Value → World → Prop} {nx : Act → World → Prop} (hex : (execOp a.eval o).run P w = (callFunc f vs).run P w) (h : Does P f vs w R) (hn : ∀ v w', R v w' → nx (a.put o.dst v) w') :
    o.wp P a w nx Q := by
  unfold Oper.wp
  rw [hex]
  rcases h with ⟨h1, h2⟩ | ⟨row, h1, h2⟩ | ⟨v, w', h1, h2⟩
  · rw [run_callFunc h1]
    show Calls P f vs w _
    refine h2.mono ?_
    rintro e w' ⟨v, rfl, hR⟩
    exact hn v w' hR
  · rw [h1]
    exact h2.mono hn
  · rw [h1]
    exact hn v w' h2

theorem subS_get : ∀ {l : List (Nat × Blk)} {s : List (Nat × Blk)}, subS l s → ∀ m b, getS l m = some b → getS s m = some b
  | [], s, _, m, b, h => by cases h
  | (k, d) :: r, s, h, m, b, hb => by
    simp only [getS] at hb
    split at hb
    · rename_i e; subst e; cases hb; exact h.1
    · exact subS_get h.2 m b hb
theorem inS_mem {l : List (Nat × Blk)} {ns : List Nat} (h : inS l ns = true) : ∀ m ∈ ns, names l m := fun m hm => by
  simp only [inS, List.all_eq_true] at h; exact h m hm
theorem clS_get {T : List (Nat × Blk)} : ∀ {l : List (Nat × Blk)}, clS T l = true → ∀ m b, getS l m = some b → ∀ q ∈ b.nms, names T q
  | [], _, m, cs, h => by cases h
  | (k, c) :: r, hh, m, b, hb => by
    simp only [clS, Bool.and_eq_true] at hh
    simp only [getS] at hb
    split at hb
    · cases hb
      exact inS_mem hh.1
    · exact clS_get hh.2 m b hb

theorem repDs_names {N N' : Nat → Prop} {xs : List D} {vs : List Value} (h : RepDs M μ N xs vs) (hn : ∀ x ∈ xs, ∀ q ∈ x.nms, N' q) : RepDs M μ N' xs vs :=
  ⟨h.1, fun j a b => (h.2 j a b).mono' (Mem.le_refl _) fun q hq _ => ⟨hn _ (List.getElem_mem a) q hq, rfl⟩⟩

theorem wp_callG (h : Rel GL n S M μ st a w) {get : St → Option (FuncId × List D)} (hd : ∀ d, o.dst = some d → d < n) (hn : n ≤ 999)
    (hget : ∀ (M1 : Mem) (st1 : St), Rel GL n S M1 μ st1 a w → ∀ f ds, get st1 = some (f, ds) → ∃ vs : Array Value, RepDs M1 μ (names st1.sto) ds vs.toList ∧ (execOp a.eval o).run P w = (callFunc f vs).run P w)
    (hs : callG P GL get st o.dst K) : o.wp P a w (Goal GL n S M w K) Q := by
  obtain ⟨l, hs⟩ := hs
  obtain ⟨M1, h1, m1⟩ := h.frzNs l
  cases hg : get (frzNs l st) with
  | none => simp [hg] at hs
  | some p =>
    obtain ⟨f, ds⟩ := p
    simp only [hg] at hs
    obtain ⟨vs, hrep, hex⟩ := hget M1 _ h1 f ds hg
    rcases hs with hs | hs
    · obtain ⟨sto, mv, R, hmc, hsub, hcl, hin, hmvp, hR⟩ := hs
      have hd9 : o.dst.getD 999 < 1000 := by
        cases e : o.dst with
        | none => simp
        | some d => have := hd d e; simp only [Option.getD_some]; exact Nat.lt_of_lt_of_le this (by omega)
      have hands : ∀ m b, getS sto m = some b → getS (frzNs l st).sto m = some b := subS_get hsub
      have hhand := h1.toStoOk.hand (sto := sto) hands (fun m cs hm x hx q hq => clS_get hcl m _ hm q (List.mem_flatMap.2 ⟨x, hx, hq⟩))
      have hargs := repDs_names hrep (N' := names sto) (fun x hx => by rw [List.all_eq_true] at hin; exact inS_mem (hin x hx))
      refine wp_does hex (hmc M1 μ w vs hhand h1.glob hargs) ?_
      rintro v w' ⟨r, sto', M', μ', hr, q1, q2, q3, q4, q5⟩
      obtain ⟨hfr, hold, hK⟩ := hR r sto' hr
      obtain ⟨μ2, h2, m2, k2, hret⟩ := h1.afterCall hd9 hands q1 q3 q4 q5 (fun m hm => by
        have := hfr m (mem_names.2 hm); exact this) (fun m hm hp => by
        rw [List.all_eq_true] at hmvp
        have := hmvp m hm
        unfold pinned at hp
        simp only [Bool.or_eq_true, Nat.blt_eq, Nat.ble_eq] at this
        omega) (fun m h1 h2 => hold m (mem_names.2 h1) h2)
      refine ⟨_, hK, M', μ2, ?_, m1.trans m2, k2⟩
      cases e : o.dst with
      | none => simp only [e] at h2 ⊢; exact h2
      | some s => simp only [e, Option.getD_some] at h2 hret ⊢; exact h2.put (hd s e) (hret r v q2)
    · obtain ⟨R, hmc, hin, hR⟩ := hs
      have hempty : StoOk (shut μ [] w) M1 μ [] w := { sub := h1.sub, blk := fun m b hb => (by cases hb), sep := fun m m' k k' _ hm => (by simp [names, getS] at hm), low := fun b hb => hb.1 }
      have hargs := repDs_names hrep (N' := names []) (fun x hx => by rw [List.all_eq_true] at hin; exact inS_mem (hin x hx))
      refine wp_does hex (hmc M1 μ w vs hempty h1.glob hargs) ?_
      rintro v w' ⟨r, sto', M', μ', hr, q1, q2, q3, q4, q5⟩
      obtain ⟨y, rfl, hflat, hK⟩ := hR r sto' hr
      have hk : ∀ k, k < w.heap.size → w'.heap[k]? = w.heap[k]? := fun k hk => q4.block k ⟨hk, fun m hm => by simp [names, getS] at hm⟩
      have h2 : Rel GL n S M μ st a w' := h.of (h.toStoOk.world q4.size hk) (Mem.le_refl _) fun _ _ hv => hv
      have hy : Rep M y v := flat_rep q2 hflat
      refine ⟨_, hK, M, μ, ?_, MExt.refl _ _, q4.mono fun k hk => ⟨h.low k hk, fun m hm => by simp [names, getS] at hm⟩⟩
      cases e : o.dst with
      | none => exact h2
      | some s => exact h2.put (hd s e) (repD_i hy)

theorem snd_call (h : Rel GL n S M μ st a w) {f : FuncId} {args : Array Operand} {tys : Array TypeId} {os : List O} (ho : o.op = .call { callee := .value (.func f), args := args, argTypes := tys })
    (hd : ∀ d, o.dst = some d → d < n) (hn : n ≤ 999) (hx : args.toList.mapM (cO GL) = some os) (hs : step P GL (.call o.dst f os) st K) : o.wp P a w (Goal GL n S M w K) Q := by
  refine wp_callG (get := getC GL f os) h hd hn (fun M1 st1 h1 f' ds hg => ?_) (by simpa only [step] using hs)
  simp only [getC, Option.some.injEq, Prod.mk.injEq] at hg
  obtain ⟨rfl, rfl⟩ := hg
  refine ⟨args.map a.eval, by simpa using opvs_repD h1 hx, ?_⟩
  simp [execOp, ho, resolve, Act.eval, Deferred.ofValue, invoke]

theorem repDs_append {N : Nat → Prop} {xs ys : List D} {vs us : List Value} (h : RepDs M μ N xs vs) (k : RepDs M μ N ys us) : RepDs M μ N (xs ++ ys) (vs ++ us) := by
  refine ⟨by simp [h.1, k.1], fun j a b => ?_⟩
  by_cases hj : j < xs.length
  · rw [List.getElem_append_left hj, List.getElem_append_left (by rw [h.1]; exact hj)]
    exact h.2 j hj _
  · have e : vs.length = xs.length := h.1
    rw [List.getElem_append_right (by omega), List.getElem_append_right (by omega)]
    have := k.2 (j - xs.length) (by simp at a; omega) (by simp at b; omega)
    simpa [e] using this
theorem repL_D {N : Nat → Prop} {xs : List I} {vs : List Value} (h : RepL M xs vs) : RepDs M μ N (xs.map .i) vs :=
  ⟨by simpa using h.1, fun j a b => by rw [List.getElem_map]; exact repD_i (h.2 j (by simpa using a) b)⟩
theorem repCs_D {N : Nat → Prop} {xs : List Cp} {vs : List Value} (h : RepCs M μ N xs vs) : RepDs M μ N (xs.map Cp.toD) vs :=
  ⟨by simpa using h.1, fun j a b => by rw [List.getElem_map]; exact (h.2 j (by simpa using a) b).toD⟩

theorem snd_callv (h : Rel GL n S M μ st a w) {fv : Operand} {of : O} {args : Array Operand} {tys : Array TypeId} {os : List O} (ho : o.op = .call { callee := .value fv, args := args, argTypes := tys })
    (hd : ∀ d, o.dst = some d → d < n) (hn : n ≤ 999) (hfv : cO GL fv = some of) (hx : args.toList.mapM (cO GL) = some os) (hs : step P GL (.callv o.dst of os) st K) : o.wp P a w (Goal GL n S M w K) Q := by
  refine wp_callG (get := getCv GL of os) h hd hn (fun M1 st1 h1 f' ds hg => ?_) (by simpa only [step] using hs)
  have hf := opv_rep h1 hfv
  have hargs := opvs_repD h1 hx
  simp only [getCv, getV] at hg
  split at hg
  · rename_i f first caps e
    cases hg
    rw [e] at hf
    obtain ⟨va, vb, e2, ra, rb⟩ := (repD_i_inv hf).fn_inv
    refine ⟨va ++ args.map a.eval ++ vb, ?_, ?_⟩
    · have := repDs_append (repDs_append (repL_D (μ := μ) (N := names st1.sto) ra) hargs) (repL_D rb)
      simpa using this
    · simp [execOp, ho, resolve, e2, Deferred.ofValue, invoke]
  · rename_i f first caps e
    cases hg
    rw [e] at hf
    obtain ⟨va, vb, e2, ra, rb⟩ := hf
    refine ⟨va ++ args.map a.eval ++ vb, ?_, ?_⟩
    · have := repDs_append (repDs_append (repCs_D ra) hargs) (repCs_D rb)
      simpa using this
    · simp [execOp, ho, resolve, e2, Deferred.ofValue, invoke]
  · cases hg

end
end Go.Dl
end
