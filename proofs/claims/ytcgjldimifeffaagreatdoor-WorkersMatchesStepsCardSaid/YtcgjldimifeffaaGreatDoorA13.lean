/- A part of the proofs of WorkersExclude and WorkersMatchesSteps: A13. -/
import Derived.Test.YtcgjldimifeffaaGreatDoorA12
import Derived.WideKeyRuns
import Derived.MapKept
set_option linter.unusedVariables false
namespace Go.Dl
open Go Go.RowKit
theorem fitL_len : ∀ {ls : List LK} {xs : List I}, fitL ls xs = true → xs.length = ls.length
  | [], [], _ => rfl
  | l :: ls, x :: xs, h => by simp only [fitL, Bool.and_eq_true] at h; simp [fitL_len h.2]
  | [], _ :: _, h => by grind [fitL]
  | _ :: _, [], h => by grind [fitL]
theorem fitL_split : ∀ (ks ls : List LK) (xs : List I), fitL (ks ++ ls) xs = true → fitL ks (xs.take ks.length) = true ∧ fitL ls (xs.drop ks.length) = true
  | [], ls, xs, h => ⟨by simp [fitL], h⟩
  | k :: ks, ls, x :: xs, h => by
    simp only [List.cons_append, fitL, Bool.and_eq_true] at h
    obtain ⟨h1, h2⟩ := fitL_split ks ls xs h.2
    grind [fitL]
  | k :: ks, ls, [], h => by grind [fitL]
theorem eqL_atoms : ∀ {ls : List LK} {xs ys : List I}, fitL ls xs = true → fitL ls ys = true → eqL ls xs ys = some (xs.map atomI == ys.map atomI)
  | [], [], [], _, _ => rfl
  | l :: ls, x :: xs, y :: ys, hx, hy => by
    simp only [fitL, Bool.and_eq_true] at hx hy
    have ih := eqL_atoms hx.2 hy.2
    have h1 : eqI l x y = some (atomI x == atomI y) := by
      cases l <;> cases x <;> simp [fitI] at hx <;> cases y <;> simp [fitI] at hy
      · simp only [eqI, atomI]
        congr 1
        grind
      · obtain ⟨rfl, _⟩ := hx
        obtain ⟨rfl, _⟩ := hy
        simp only [eqI, atomI, and_self, if_true]
        congr 1
        grind
      · simp only [eqI, atomI]
        congr 1
        grind
    simp_all [eqL]
  | [], [], _ :: _, _, h => by grind [fitL]
  | [], _ :: _, _, h, _ => by grind [fitL]
  | _ :: _, [], _, h, _ => by grind [fitL]
  | _ :: _, _ :: _, [], _, h => by grind [fitL]
section
variable {P : Program} {GL : List (Nat × List I)} {n : Nat} {S : Sh} {M : Mem} {μ : Place} {st : St} {a : Act} {w : World} {K : St → Prop} {Q : Exit → Act → World → Prop} {o : Oper} {d : Nat}
theorem run_ckFields {d : Nat} {em : Bool} {xs : Array Value} {ixs : List I} (hx : RepL M ixs xs.toList)
    (ih : ∀ t ks, flatT P d t = some ks → ∀ (ixs : List I) (xs : Array Value), RepL M ixs xs.toList → fitL ks ixs = true → (Instr.checkKey em d t (wrapT P t xs)).run P w = .ok () w) :
    ∀ (fs : List Field) (off : Nat) (ls : List LK), flatF (flatT P d) fs off = some ls → fitL ls (ixs.drop off) = true →
      (forIn fs PUnit.unit (fun f r => (do {if f.name ≠ "_" then {Instr.checkKey em d f.type (← part f.type xs f.offset)}; pure (ForInStep.yield PUnit.unit)} : Sem (ForInStep PUnit)))).run P w = .ok PUnit.unit w
  | [], off, ls, hf, he => by simp
  | f :: fs, off, ls, hf, he => by
    simp only [flatF] at hf
    split at hf
    · rename_i hc
      obtain ⟨hname, rfl⟩ := hc
      split at hf
      · rename_i ks hk
        split at hf
        · cases hf
        rename_i hkn
        cases hf2 : flatF (flatT P d) fs (f.offset + ks.length) with
        | none => simp [hf2] at hf
        | some ls' =>
          simp only [hf2, Option.map_some, Option.some.injEq] at hf
          subst hf
          obtain ⟨e1, e2⟩ := fitL_split ks ls' _ he
          obtain ⟨hsz, ag, hag, h1⟩ := flat_agg hk
          have hxs : xs.size = ixs.length := by simpa using hx.1
          have l1 := fitL_len e1
          simp at l1
          have q1 := run_part (cs := xs) (off := f.offset) hsz hag h1 (by omega) w
          have q3 := ih f.type ks hk _ _ (hx.slice f.offset ks.length (by omega)) e1
          have q4 := run_ckFields hx ih fs (f.offset + ks.length) ls' hf2 (by rwa [List.drop_drop] at e2)
          simp only [List.forIn_cons, Sem.run_bind, hname, ne_eq, not_false_eq_true, if_true, q1, q3, Result.andThen_ok, Sem.run_pure]
          exact q4
      · cases hf
    · cases hf
theorem run_ckFlat (em : Bool) : ∀ (d : Nat) (t : TypeId) (ks : List LK), flatT P d t = some ks → ∀ (ixs : List I) (xs : Array Value), RepL M ixs xs.toList → fitL ks ixs = true → (Instr.checkKey em d t (wrapT P t xs)).run P w = .ok () w
  | 0, t, k, h => by grind [flatT]
  | d + 1, t, k, h => by
    intro ixs xs hx he
    simp only [flatT] at h
    split at h <;> rename_i hu <;> try (cases h; done)
    · simp [Instr.checkKey, run_underlying hu]
    · simp [Instr.checkKey, run_underlying hu]
    · simp [Instr.checkKey, run_underlying hu]
    · rename_i fs
      split at h
      · rename_i hst
        split at h
        · rename_i k' hf
          split at h <;> cases h
          have ha := aggT_of hu
          simp only [isAggD] at ha
          simp only [wrapT, ha, if_true]
          unfold Instr.checkKey
          simp only [Sem.run_bind, run_underlying hu, Result.andThen_ok]
          rw [← Array.forIn_toList]
          have := run_ckFields hx (run_ckFlat em d) fs.toList 0 k hf (by simpa using he)
          simp_all
        · cases h
      · cases h
def keyT (P : Program) (t : TypeId) : Option (List LK) := match flatT P 10000 t, aggT P t with
  | some ls, some true => some (.g :: ls)
  | some ls, some false => some ls
  | _, _ => none
theorem flatT_nog {D : Nat} {t : TypeId} {ls : List LK} (h : flatT P D t = some ls) : ∀ r, ls ≠ .g :: r := by
  cases D with
  | zero => simp [flatT] at h
  | succ D =>
    simp only [flatT] at h
    split at h <;> try (cases h; done)
    · split at h <;> cases h; simp
    · split at h <;> cases h; simp
    · split at h <;> cases h; simp
    · split at h
      · split at h
        · rename_i k hf
          split at h <;> cases h
          rename_i fs _ _ _ _
          have : ∀ (fs : List Field) (off : Nat) (ls : List LK), flatF (flatT P D) fs off = some ls → ∀ r, ls ≠ .g :: r := by
            intro fs
            induction fs with
            | nil => intro off ls h; simp [flatF] at h; subst h; simp
            | cons f fs ih =>
              intro off ls h
              simp only [flatF] at h
              split at h
              · split at h
                · rename_i k hk
                  split at h
                  · cases h
                  · rename_i hk0
                    cases hf2 : flatF (flatT P D) fs (off + k.length) with
                    | none => simp [hf2] at h
                    | some ls' =>
                      simp only [hf2, Option.map_some, Option.some.injEq] at h
                      subst h
                      intro r hr
                      cases k with
                      | nil => simp at hk0
                      | cons x k => simp at hr; exact flatT_nog hk k (by rw [hr.1])
                · cases h
              · cases h
          exact this _ _ _ hf
        · cases h
      · cases h
theorem key_val {t : TypeId} {ls : List LK} (hk : keyT P t = some ls) {q : I} {v : Value} (hr : Rep M q v) (hf : fitQ ls q = true) :
    ∃ ls' vs, flatT P 10000 t = some ls' ∧ v = wrapT P t vs ∧ RepL M (cellsI q) vs.toList ∧ fitL ls' (cellsI q) = true := by
  unfold keyT at hk
  split at hk
  · rename_i ls' h1 h2
    cases hk
    cases q with
    | agg cs =>
      obtain ⟨vs, rfl, hl⟩ := hr.agg_inv
      exact ⟨ls', vs, h1, by simp [wrapT, h2], hl, hf⟩
    | _ => simp [fitQ] at hf
  · rename_i ls' h1 h2
    cases hk
    have hng := flatT_nog h1
    have one : ∀ x : I, cellsI x = [x] → Rep M x v → fitL ls [x] = true → ∃ ls' vs, flatT P 10000 t = some ls' ∧ v = wrapT P t vs ∧ RepL M (cellsI x) vs.toList ∧ fitL ls' (cellsI x) = true := fun x e hx hfx => by
      refine ⟨ls, #[v], h1, by simp [wrapT, h2], ?_, by rw [e]; exact hfx⟩
      grind [RepL.cons,RepL.nil]
    cases q with
    | agg cs =>
      exfalso
      cases ls with
      | nil => simp [fitQ] at hf
      | cons l r => cases l <;> simp [fitQ] at hf; exact hng r rfl
    | _ =>
      refine one _ rfl hr ?_
      cases ls with
      | nil => exact hf
      | cons l r => cases l <;> first | exact hf | (exact absurd rfl (hng r))
  · cases hk
theorem run_key_eq {t : TypeId} {ls : List LK} (hk : keyT P t = some ls) {q q' : I} {v v' : Value} (hr : Rep M q v) (hr' : Rep M q' v') (hf : fitQ ls q = true) (hf' : fitQ ls q' = true) :
    (Op.equal t v v').run P w = .ok (keyI q == keyI q') w := by
  obtain ⟨l1, vs, e1, rfl, r1, f1⟩ := key_val hk hr hf
  obtain ⟨l2, vs', e2, rfl, r2, f2⟩ := key_val hk hr' hf'
  rw [e1] at e2; cases e2
  exact run_eqFlat 10000 t l1 e1 _ _ vs vs' _ r1 r2 (eqL_atoms f1 f2)
theorem run_key_check {t : TypeId} {ls : List LK} (hk : keyT P t = some ls) {q : I} {v : Value} (hr : Rep M q v) (hf : fitQ ls q = true) (em : Bool) : (Instr.checkKey em 10000 t v).run P w = .ok () w := by
  obtain ⟨l1, vs, e1, rfl, r1, f1⟩ := key_val hk hr hf
  exact run_ckFlat em 10000 t l1 e1 _ vs r1 f1
def midx {β : Type} (es : List (I × β)) (q : I) : Option Nat := es.findIdx? fun e => keyI e.1 == keyI q
def KeysAt (M : Mem) {β : Type} (xs : List MapEntry) (es : List (I × β)) : Prop := xs.length = es.length ∧ ∀ j (h : j < es.length) (h' : j < xs.length), Rep M (es[j]).1 (xs[j]).key
theorem EntsAt.keys {xs : List MapEntry} {es : List (I × I)} (h : EntsAt M xs es) : KeysAt M xs es := ⟨h.1, fun j a b => (h.2 j a b).1⟩
theorem GEnts.keys {N : Nat → Prop} {xs : List MapEntry} {es : List (I × Nat × D)} (h : GEnts M μ N xs es) : KeysAt M xs es := ⟨h.1, fun j a b => (h.2 j a b).1⟩
theorem run_asking {t : TypeId} {ls : List LK} (hk : keyT P t = some ls) {q : I} {v : Value} (hr : Rep M q v) (hf : fitQ ls q = true) {β : Type} : ∀ (es : List (I × β)) (xs : List MapEntry) (i : Nat), KeysAt M xs es → (∀ e ∈ es, fitQ ls e.1 = true) →
    (Instr.findAsking t v xs i).run P w = .ok ((midx es q).bind fun j => (xs[j]?).map fun x => (i + j, x.val)) w
  | [], xs, i, h, _ => by
    have : xs = [] := List.eq_nil_of_length_eq_zero h.1
    subst this
    rfl
  | e :: es, [], i, h, _ => by grind [KeysAt]
  | e :: es, x :: xs, i, h, hfe => by
    have h0 := h.2 0 (by simp) (by simp)
    have hq := run_key_eq (P := P) (w := w) hk hr h0 hf (hfe e (by simp))
    have ih := run_asking hk hr hf es xs (i + 1) ⟨by simpa using h.1, fun j a b => h.2 (j + 1) (by simp; omega) (by simp; omega)⟩ (fun e he => hfe e (by simp [he]))
    simp only [List.getElem_cons_zero] at hq
    simp only [Instr.findAsking, Sem.run_bind, hq, Result.andThen_ok]
    have hsym : (keyI e.1 == keyI q) = (keyI q == keyI e.1) := by grind
    simp only [midx, List.findIdx?_cons, hsym]
    cases hb : (keyI q == keyI e.1) with
    | true => simp
    | false =>
      simp only [Bool.false_eq_true, if_false, ih, midx]
      congr 1
      cases es.findIdx? fun e => keyI e.1 == keyI q <;> simp [Nat.add_assoc, Nat.add_comm 1]
theorem run_now {t : TypeId} {ls : List LK} {dsc : TypeDesc} (hu : P.underlying t = some dsc) (hd : isAggD dsc = false) (hk : keyT P t = some ls) {q : I} {v : Value} (hr : Rep M q v) (hf : fitQ ls q = true) {β : Type} : ∀ (es : List (I × β)) (xs : List MapEntry) (i : Nat), KeysAt M xs es → (∀ e ∈ es, fitQ ls e.1 = true) →
    Instr.findNow dsc v xs i = some ((midx es q).bind fun j => (xs[j]?).map fun x => (i + j, x.val))
  | [], xs, i, h, _ => by
    have : xs = [] := List.eq_nil_of_length_eq_zero h.1
    subst this
    rfl
  | e :: es, [], i, h, _ => by grind [KeysAt]
  | e :: es, x :: xs, i, h, hfe => by
    have h0 := h.2 0 (by simp) (by simp)
    have ih := run_now hu hd hk hr hf es xs (i + 1) ⟨by simpa using h.1, fun j a b => h.2 (j + 1) (by simp; omega) (by simp; omega)⟩ (fun e he => hfe e (by simp [he]))
    have hfe0 := hfe e (by simp)
    have hag := aggT_of hu
    rw [hd] at hag
    have key : Instr.sameNow dsc v x.key = some (keyI e.1 == keyI q) := by
      unfold keyT at hk
      rw [hag] at hk
      have h1 : flatT P 10000 t = some ls := by grind
      simp only [List.getElem_cons_zero] at h0
      have h1 : flatT P (9999 + 1) t = some ls := h1
      unfold flatT at h1
      split at h1 <;> rename_i hu' <;> first | (cases h1; done) | (rw [hu] at hu'; cases hu'; try (simp [isAggD] at hd; done))
      · split at h1 <;> cases h1
        cases q <;> simp [fitQ, fitL, fitI] at hf
        generalize e.1 = e1 at hfe0 h0
        cases e1 <;> simp [fitQ, fitL, fitI] at hfe0
        rw [bool_inv hr, bool_inv h0]
        simp only [Instr.sameNow, keyI, cellsI, List.map_cons, List.map_nil, atomI]
        congr 1; rw [Bool.eq_iff_iff]; simp only [beq_iff_eq, List.cons.injEq, Option.some.injEq, Atom.b.injEq, and_true]; exact eq_comm
      · split at h1 <;> cases h1
        cases q <;> simp [fitQ, fitL, fitI] at hf
        generalize e.1 = e1 at hfe0 h0
        cases e1 <;> simp [fitQ, fitL, fitI] at hfe0
        subst hf; subst hfe0
        rw [int_inv hr, int_inv h0]
        simp only [Instr.sameNow, if_true, keyI, cellsI, List.map_cons, List.map_nil, atomI]
        congr 1; rw [Bool.eq_iff_iff]; simp only [beq_iff_eq, List.cons.injEq, Option.some.injEq, Atom.i.injEq, true_and, and_true]; exact eq_comm
      · split at h1 <;> cases h1
        cases q <;> simp [fitQ, fitL, fitI] at hf
        generalize e.1 = e1 at hfe0 h0
        cases e1 <;> simp [fitQ, fitL, fitI] at hfe0
        rw [str_inv hr, str_inv h0]
        simp only [Instr.sameNow, keyI, cellsI, List.map_cons, List.map_nil, atomI]
        congr 1
        rw [Bool.eq_iff_iff, MapKept.bytes_beq]
        simp only [beq_iff_eq, List.cons.injEq, Option.some.injEq, Atom.s.injEq, and_true]
        constructor
        · intro h; have := congrArg (fun b : ByteArray => b.data.toList) h; exact this.symm
        · grind
    simp only [Instr.findNow, key, midx, List.findIdx?_cons]
    cases hb : (keyI e.1 == keyI q) with
    | true => simp
    | false =>
      simp only [Bool.false_eq_true, if_false, ih, midx]
      cases es.findIdx? fun e => keyI e.1 == keyI q <;> simp [Nat.add_assoc, Nat.add_comm 1]
end
end Go.Dl
