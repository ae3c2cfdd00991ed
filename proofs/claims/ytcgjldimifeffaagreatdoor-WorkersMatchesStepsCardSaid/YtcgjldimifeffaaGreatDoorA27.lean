/- A part of the proofs of WorkersExclude and WorkersMatchesSteps: A27. -/
import Derived.Test.YtcgjldimifeffaaGreatDoorT1
set_option linter.all false
namespace Go.Dl
open Go Go.RowKit
theorem V28 : (∀ (a b : Nat), (some a).getD b = a) ∧ (∀ (b : Nat), (none : Option Nat).getD b = b) ∧ (∀ b : Blk, (some b).isSome = true) ∧ (∀ b : Blk, (some b).isNone = false) ∧ ((none : Option Blk).isSome = false) ∧ ((none : Option Blk).isNone = true) ∧
    (∀ p : Nat → Bool, List.filter p [] = []) ∧ (∀ (p : Nat → Bool) a l, List.filter p (a :: l) = if p a = true then a :: List.filter p l else List.filter p l) ∧ (∀ x : Nat, (x == x) = true) ∧ (∀ b : Bool, (b || true) = true) := by
  and_intros <;> intros <;> first | rfl | (simp; done) | (rw [List.filter_cons])
theorem take_map_len {α β : Type} (f : α → β) (l : List α) : List.take l.length (List.map f l) = List.map f l := List.take_of_length_le (by simp)
attribute [go_sem] V28 take_map_len
theorem ret_M {rs : List RV} {given mv : List Nat} {R : D → List (Nat × Blk) → Prop} {st : St} (ks : List (Nat × Nat)) {x : D} {s' : List (Nat × Blk)} (hx : retD st rs = some x) (hs : resS (ks.map (·.1)) st.sto = s') (h1 : keepOk given mv ks = true) (h2 : (inS s' x.nms && clS s' s') = true) (h3 : R (mpD (kf ks) x) (mpS (kf ks) s')) : resV rs given mv R st := by
  subst hs
  refine ⟨[], ks, ?_⟩
  show match retD st rs with | some x => _ | none => _
  rw [hx]
  rw [Bool.and_eq_true] at h2
  exact ⟨h1, h2, h3⟩
theorem V29' :
    (∀ f x, mpD f (.i x) = .i x) ∧ (∀ f e k rs, mpB f (.rows e k rs) = .rows e k rs) ∧ (∀ f ls es, mpB f (.map ls es) = .map ls es) := by
  and_intros <;> intros <;> first | rfl | (rename_i o m b r; simp [resS])
def V29 := cj @resS.eq_1 (cj @resS.eq_2 (cj @kf.eq_1 (cj @kf.eq_2 (cj @mpD.eq_1 (cj @mpR.eq_2 (cj @mpR.eq_1 (cj @mpR.eq_4 (cj @mpS.eq_1 (cj @mpS.eq_2 (cj @mpB.eq_1 @V29'))))))))))
theorem isnil_I {rows : List (List I)} {neg : Bool} {d : Nat} {st : St} {K : St → Prop} (h1 : rows = [] → ∀ b, K (st.put d (.i (.bool b)))) (h2 : rows ≠ [] → K (st.put d (.i (.bool (false != neg))))) : isnilE .sl neg (.i (.sl rows)) d st K := by
  cases rows with
  | nil => exact h1 rfl
  | cons a r => exact h2 (by simp)
def consC (a : Option Cp) (b : Option (List Cp)) : Option (List Cp) := match a, b with | some x, some xs => some (x :: xs) | _, _ => none
def capL (GL : List (Nat × List I)) (st : St) : List O → Option (List Cp)
  | [] => some []
  | o :: r => consC (toCp (opv GL st o)) (capL GL st r)
theorem capL_eq (GL : List (Nat × List I)) (st : St) (l : List O) : (l.mapM fun o => toCp (opv GL st o)) = capL GL st l := by
  induction l with
  | nil => rfl
  | cons o r ih => rw [List.mapM_cons, ih]; simp only [capL]; cases toCp (opv GL st o) <;> cases capL GL st r <;> rfl
def V30 := cj @capL.eq_1 @capL.eq_2
theorem V31 : (∀ x xs, consC (some x) (some xs) = some (x :: xs)) ∧ (∀ p : Cp → Bool, [].all p = true) ∧ (∀ (p : Cp → Bool) x l, (x :: l).all p = (p x && l.all p)) := ⟨fun _ _ => rfl, fun _ => rfl, fun _ _ _ => rfl⟩
attribute [go_sem] capL_eq V30 V31
def aget {κ α : Type} [DecidableEq κ] : List (κ × α) → κ → Option α
  | [], _ => none
  | p :: r, k => if p.1 = k then some p.2 else aget r k
def aput {κ α : Type} [DecidableEq κ] : List (κ × α) → κ → α → List (κ × α)
  | [], k, v => [(k, v)]
  | p :: r, k, v => if p.1 = k then (k, v) :: r else p :: aput r k v
section
variable {κ α : Type} [DecidableEq κ] {eK : κ → I} {f : α → I}
def KeyE (eK : κ → I) : Prop := ∀ a b, (keyI (eK a) == keyI (eK b)) = decide (a = b)
theorem mget_map (h : KeyE eK) (l : List (κ × α)) (k : κ) : mget (l.map fun p => (eK p.1, f p.2)) (eK k) = (aget l k).map f := by
  induction l with
  | nil => rfl
  | cons p r ih =>
    simp only [mget, List.map_cons, List.find?_cons, h p.1 k, aget] at ih ⊢
    grind
theorem mput_map (h : KeyE eK) (l : List (κ × α)) (k : κ) (v : α) : mput (l.map fun p => (eK p.1, f p.2)) (eK k) (f v) = (aput l k v).map fun p => (eK p.1, f p.2) := by
  induction l with
  | nil => rfl
  | cons p r ih =>
    simp only [mput, List.map_cons, h p.1 k, aput]
    grind
theorem mlook_map (h : KeyE eK) (l : List (κ × α)) (k : κ) (z : α) : mlook (l.map fun p => (eK p.1, f p.2)) (eK k) (f z) false = f ((aget l k).getD z) := by simp_all [mlook,mget_map,aget]
theorem aget_put (l : List (κ × α)) (k q : κ) (v : α) : aget (aput l k v) q = if q = k then some v else aget l q := by
  induction l with
  | nil => simp only [aput, aget]; by_cases e : k = q <;> simp [e, eq_comm]
  | cons p r ih =>
    simp only [aput]
    by_cases e : p.1 = k
    · simp only [e, if_true, aget]
      grind
    · simp only [e, if_false, aget, ih]
      grind
theorem aput_keys (l : List (κ × α)) (k : κ) (v : α) : (aput l k v).map (·.1) = if k ∈ l.map (·.1) then l.map (·.1) else l.map (·.1) ++ [k] := by
  induction l with
  | nil => simp [aput]
  | cons p r ih =>
    simp only [aput]
    grind
theorem aput_mem (l : List (κ × α)) (k : κ) (v : α) : ∀ p ∈ aput l k v, p = (k, v) ∨ p ∈ l := by
  induction l with
  | nil => intro p hp; simp [aput] at hp; exact .inl hp
  | cons q r ih =>
    grind [aput]
theorem aget_mem {l : List (κ × α)} {k : κ} {v : α} (h : aget l k = some v) : (k, v) ∈ l := by
  induction l with
  | nil => cases h
  | cons p r ih =>
    grind [aget]
theorem aget_some {l : List (κ × α)} {k : κ} (h : k ∈ l.map (·.1)) : ∃ v, aget l k = some v := by
  induction l with
  | nil => simp at h
  | cons p r ih =>
    simp only [aget]
    by_cases e : p.1 = k
    · exact ⟨_, by rw [if_pos e]⟩
    · simp only [List.map_cons, List.mem_cons] at h
      obtain ⟨v, hv⟩ := ih (h.resolve_left (Ne.symm e))
      exact ⟨v, by rw [if_neg e]; exact hv⟩
theorem aput_len (l : List (κ × α)) (k : κ) (v : α) : (aput l k v).length ≤ l.length + 1 := by
  have := congrArg List.length (aput_keys l k v)
  grind
end
theorem keyS : KeyE I.str := fun a b => by grind [keyI,cellsI,atomI]
theorem keyN (k : IntKind) : KeyE (I.int k) := fun a b => by grind [keyI,cellsI,atomI]
end Go.Dl
