/- A part of the proofs of WorkersExclude and WorkersMatchesSteps: A12. -/
import Derived.Test.YtcgjldimifeffaaGreatDoorA11
set_option linter.unusedVariables false
namespace Go.Dl
open Go Go.RowKit
def flatF (fl : TypeId → Option (List LK)) : List Field → Nat → Option (List LK)
  | [], _ => some []
  | f :: r, off => if f.name ≠ "_" ∧ f.offset = off then match fl f.type with | some k => if k.length = 0 then none else (flatF fl r (off + k.length)).map (k ++ ·) | none => none else none
def flatT (P : Program) : Nat → TypeId → Option (List LK)
  | 0, _ => none
  | d + 1, t => match P.underlying t with
    | some .bool => if szT P t = some 1 then some [.b] else none
    | some (.int q) => if szT P t = some 1 then some [.i q] else none
    | some .string => if szT P t = some 1 then some [.s] else none
    | some (.struct fs) => if P.stoodInHeld t = false then (match flatF (flatT P d) fs.toList 0 with | some k => if szT P t = some k.length then some k else none | none => none) else none
    | _ => none
def isAggD : TypeDesc → Bool
  | .struct _ | .array _ _ => true
  | _ => false
section
variable {P : Program} {GL : List (Nat × List I)} {n : Nat} {S : Sh} {M : Mem} {μ : Place} {st : St} {a : Act} {w : World} {K : St → Prop} {Q : Exit → Act → World → Prop} {o : Oper} {d : Nat}
theorem eqL_len : ∀ {ls : List LK} {xs ys : List I} {r : Bool}, eqL ls xs ys = some r → xs.length = ls.length ∧ ys.length = ls.length
  | [], [], [], _, _ => ⟨rfl, rfl⟩
  | l :: ls, x :: xs, y :: ys, r, h => by
    simp only [eqL] at h
    cases h1 : eqI l x y with
    | none => simp [h1] at h
    | some b =>
      cases h2 : eqL ls xs ys with
      | none => simp [h1, h2] at h
      | some c => obtain ⟨e1, e2⟩ := eqL_len h2; simp [e1, e2]
  | [], x :: xs, _, r, h => by grind [eqL]
  | [], [], y :: ys, r, h => by grind [eqL]
  | l :: ls, [], _, r, h => by grind [eqL]
  | l :: ls, x :: xs, [], r, h => by grind [eqL]
theorem eqL_split : ∀ (ks ls : List LK) (xs ys : List I) (r : Bool), eqL (ks ++ ls) xs ys = some r → ∃ r1 r2, eqL ks (xs.take ks.length) (ys.take ks.length) = some r1 ∧ eqL ls (xs.drop ks.length) (ys.drop ks.length) = some r2 ∧ r = (r1 && r2)
  | [], ls, xs, ys, r, h => ⟨true, r, by simp [eqL], h, by simp⟩
  | k :: ks, ls, x :: xs, y :: ys, r, h => by
    simp only [List.cons_append, eqL] at h
    cases h1 : eqI k x y with
    | none => simp [h1] at h
    | some b =>
      cases h2 : eqL (ks ++ ls) xs ys with
      | none => simp [h1, h2] at h
      | some c =>
        simp [h1, h2] at h
        obtain ⟨r1, r2, e1, e2, rfl⟩ := eqL_split ks ls xs ys c h2
        refine ⟨b && r1, r2, ?_, e2, by rw [← h, Bool.and_assoc]⟩
        simp [eqL, h1, e1]
  | k :: ks, ls, [], _, r, h => by grind [eqL]
  | k :: ks, ls, x :: xs, [], r, h => by grind [eqL]
theorem aggT_of {t : TypeId} {dsc : TypeDesc} (h : P.underlying t = some dsc) : aggT P t = some (isAggD dsc) := by grind [aggT,isAggD]
theorem flat_agg {d : Nat} {t : TypeId} {k : List LK} (h : flatT P d t = some k) : szT P t = some k.length ∧ ∃ ag, aggT P t = some ag ∧ (ag = false → k.length = 1) := by
  cases d with
  | zero => simp [flatT] at h
  | succ d =>
    simp only [flatT] at h
    split at h <;> rename_i hu <;> try (cases h; done)
    · split at h <;> cases h; exact ⟨by assumption, _, aggT_of hu, fun _ => rfl⟩
    · split at h <;> cases h; exact ⟨by assumption, _, aggT_of hu, fun _ => rfl⟩
    · split at h <;> cases h; exact ⟨by assumption, _, aggT_of hu, fun _ => rfl⟩
    · split at h
      · split at h
        · split at h <;> cases h
          exact ⟨by assumption, _, aggT_of hu, fun e => by cases e⟩
        · cases h
      · cases h
theorem run_eqFields {d : Nat} {xs ys : Array Value} {ixs iys : List I} (hx : RepL M ixs xs.toList) (hy : RepL M iys ys.toList)
    (ih : ∀ t ks, flatT P d t = some ks → ∀ (ixs iys : List I) (xs ys : Array Value) (r : Bool), RepL M ixs xs.toList → RepL M iys ys.toList → eqL ks ixs iys = some r →
      (Op.equalIn d t (wrapT P t xs) (wrapT P t ys)).run P w = .ok r w) :
    ∀ (fs : List Field) (off : Nat) (ls : List LK) (r : Bool), flatF (flatT P d) fs off = some ls → eqL ls (ixs.drop off) (iys.drop off) = some r → (Op.eqFields d xs ys fs).run P w = .ok r w
  | [], off, ls, r, hf, he => by
    simp only [flatF, Option.some.injEq] at hf
    subst hf
    obtain ⟨e1, e2⟩ := eqL_len he
    rw [List.eq_nil_of_length_eq_zero e1, List.eq_nil_of_length_eq_zero e2] at he
    simp only [eqL, Option.some.injEq] at he
    subst he; rfl
  | f :: fs, off, ls, r, hf, he => by
    simp only [flatF] at hf
    split at hf
    · rename_i hc
      obtain ⟨hname, rfl⟩ := hc
      split at hf
      · rename_i ks hk
        split at hf
        · cases hf
        rename_i hkn
        cases hf2 : flatF (flatT P d) fs (f.offset + ks.length) with
        | none => simp [hf2] at hf
        | some ls' =>
          simp only [hf2, Option.map_some, Option.some.injEq] at hf
          subst hf
          obtain ⟨r1, r2, e1, e2, rfl⟩ := eqL_split ks ls' _ _ _ he
          obtain ⟨hsz, ag, hag, h1⟩ := flat_agg hk
          have hxs : xs.size = ixs.length := by simpa using hx.1
          have hys : ys.size = iys.length := by simpa using hy.1
          obtain ⟨l1, l2⟩ := eqL_len e1
          simp at l1 l2
          have q0 : f.offset + ks.length ≤ ixs.length ∧ f.offset + ks.length ≤ iys.length := by omega
          have q1 := run_part (cs := xs) (off := f.offset) hsz hag h1 (by omega) w
          have q2 := run_part (cs := ys) (off := f.offset) hsz hag h1 (by omega) w
          have q3 := ih f.type ks hk _ _ _ _ r1 (hx.slice f.offset ks.length (by omega)) (hy.slice f.offset ks.length (by omega)) e1
          have q4 := run_eqFields hx hy ih fs (f.offset + ks.length) ls' r2 hf2 (by rwa [List.drop_drop, List.drop_drop] at e2)
          simp only [Op.eqFields, if_pos hname, Sem.run_bind, q1, q2, q3, Result.andThen_ok]
          cases r1 with
          | true => simp only [Bool.not_true, Bool.false_eq_true, if_false, q4, Bool.true_and]
          | false => simp
      · cases hf
    · cases hf
theorem run_eqFlat : ∀ (d : Nat) (t : TypeId) (ks : List LK), flatT P d t = some ks → ∀ (ixs iys : List I) (xs ys : Array Value) (r : Bool), RepL M ixs xs.toList → RepL M iys ys.toList → eqL ks ixs iys = some r →
    (Op.equalIn d t (wrapT P t xs) (wrapT P t ys)).run P w = .ok r w
  | 0, t, k, h => by simp [flatT] at h
  | d + 1, t, k, h => by
    intro ixs iys xs ys r hx hy he
    have one : ∀ {dsc : TypeDesc} {l : LK}, P.underlying t = some dsc → isAggD dsc = false → k = [l] →
        ∃ x y vx vy, wrapT P t xs = vx ∧ wrapT P t ys = vy ∧ Rep M x vx ∧ Rep M y vy ∧ eqI l x y = some r := fun {dsc l} hu hd hk => by
      subst hk
      obtain ⟨hlx, hly⟩ := eqL_len he
      match ixs, iys, hlx, hly with
      | [x], [y], _, _ =>
        have h1 := hx.2 0 (by simp) (by have := hx.1; simp at this; simp; omega)
        have h2 := hy.2 0 (by simp) (by have := hy.1; simp at this; simp; omega)
        have s1 : xs.size = 1 := by simpa using hx.1
        have s2 : ys.size = 1 := by simpa using hy.1
        have ha := aggT_of hu
        rw [hd] at ha
        refine ⟨x, y, xs[0], ys[0], by simp [wrapT, ha, s1], by simp [wrapT, ha, s2], by simpa using h1, by simpa using h2, ?_⟩
        simp only [eqL] at he
        cases hxy : eqI l x y with
        | none => simp [hxy] at he
        | some b => simpa [hxy] using he
    simp only [flatT] at h
    split at h <;> rename_i hu <;> try (cases h; done)
    · split at h <;> cases h
      obtain ⟨x, y, vx, vy, e1, e2, r1, r2, e3⟩ := one hu rfl rfl
      rw [e1, e2]
      cases x <;> cases y <;> simp [eqI] at e3
      subst e3
      rw [bool_inv r1, bool_inv r2]
      exact run_equalIn_bool' w d t _ _ hu
    · split at h <;> cases h
      obtain ⟨x, y, vx, vy, e1, e2, r1, r2, e3⟩ := one hu rfl rfl
      rw [e1, e2]
      cases x <;> cases y <;> simp [eqI] at e3
      obtain ⟨⟨rfl, rfl⟩, e3⟩ := e3
      subst e3
      rw [int_inv r1, int_inv r2]
      exact run_equalIn_int w d t _ _ _ _ hu
    · split at h <;> cases h
      obtain ⟨x, y, vx, vy, e1, e2, r1, r2, e3⟩ := one hu rfl rfl
      rw [e1, e2]
      cases x <;> cases y <;> simp [eqI] at e3
      subst e3
      rw [str_inv r1, str_inv r2, run_equalIn_string w d t _ _ hu, toList_bytesOf, toList_bytesOf]
    · rename_i fs
      split at h
      · rename_i hst
        split at h
        · rename_i k' hf
          split at h <;> cases h
          have ha := aggT_of hu
          have hfo : P.fieldsOf t = fs := by unfold Program.fieldsOf; rw [hu]
          simp only [isAggD] at ha
          simp only [wrapT, ha, if_true]
          rw [run_equalIn_agg w d t xs ys (by rw [hfo]; exact hu) hst, hfo]
          exact run_eqFields hx hy (run_eqFlat d) fs.toList 0 k r hf (by simpa using he)
        · cases h
      · cases h
theorem snd_eqs (h : Rel GL n S M μ st a w) {neg : Bool} {t t' : TypeId} {x y : Operand} {ox oy : O} {ls : List LK} (ho : o.op = .binOp (if neg then .neq else .eql) t x y t') (hd : o.dst = some d) (hn : d < n)
    (hx : cO GL x = some ox) (hy : cO GL y = some oy) (ha : aggT P t = some true) (hf : flatT P 10000 t = some ls) (hg : P.eqGuardType P.depth t = false) (hs : step P GL (.eqs d neg ls ox oy) st K) :
    o.wpX P a w (Goal GL n S M w K) Q := by
  have hr := opv_rep h hx
  have hr' := opv_rep h hy
  simp only [step, eqsE] at hs
  split at hs
  · rename_i u v e1 e2
    rw [e1] at hr; rw [e2] at hr'
    obtain ⟨xs, e3, rx⟩ := (repD_i_inv hr).agg_inv
    obtain ⟨ys, e4, ry⟩ := (repD_i_inv hr').agg_inv
    unfold eqsO at hs
    split at hs
    · rename_i r he
      have hq := run_eqFlat (P := P) (w := w) 10000 t ls hf _ _ xs ys r rx ry he
      simp only [wrapT, ha, if_true] at hq
      refine wp_put h hd hn ?_ (repD_i (.bool _)) hs
      cases neg <;> simp only [Bool.false_eq_true, if_true, if_false] at ho ⊢
      · simp only [execOp, ho, e3, e4, Sem.run_bind, run_eqGuard_agg w .eql t x y xs ys hg, Result.andThen_ok, run_eql_struct w t xs ys, hq, Sem.run_pure]
      · simp only [execOp, ho, e3, e4, Sem.run_bind, run_eqGuard_agg w .neq t x y xs ys hg, Result.andThen_ok, run_neq_struct w t xs ys, hq, Sem.run_pure]
    · exact hs.elim
  · exact hs.elim
end
end Go.Dl
