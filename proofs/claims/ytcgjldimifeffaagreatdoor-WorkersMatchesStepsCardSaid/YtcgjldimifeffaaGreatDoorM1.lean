/- A part of the proofs of WorkersExclude and WorkersMatchesSteps: M1. -/
import Derived.Test.YtcgjldimifeffaaGreatDoorA20
set_option linter.all false
namespace Go.Dl
open Go Go.RowKit
def mpR (f : Nat → Nat) : Ref → Ref
  | .loc nm off => .loc (f nm) off
  | .sl nm k lo hi => .sl (f nm) k lo hi
  | .lel nm k row off => .lel (f nm) k row off
  | .mp nm => .mp (f nm)
  | .it nm => .it (f nm)
def mpC (f : Nat → Nat) : Cp → Cp
  | .ref r => .ref (mpR f r)
  | c => c
def mpD (f : Nat → Nat) : D → D
  | .ref r => .ref (mpR f r)
  | .fn g first caps => .fn g (first.map (mpC f)) (caps.map (mpC f))
  | .tup cs => .tup (cs.map (mpC f))
  | x => x
def mpB (f : Nat → Nat) : Blk → Blk
  | .cells cs => .cells (cs.map (mpD f))
  | .lp l q cs => .lp l q (cs.map (mpD f))
  | .gmap ls clk es => .gmap ls clk (es.map fun e => (e.1, e.2.1, mpD f e.2.2))
  | x => x
def mpS (f : Nat → Nat) : List (Nat × Blk) → List (Nat × Blk)
  | [] => []
  | (m, x) :: r => (f m, mpB f x) :: mpS f r
section
variable {P : Program} {GL : List (Nat × List I)} {n : Nat} {S : Sh} {M : Mem} {μ μ' : Place} {N N' : Nat → Prop} {f : Nat → Nat} {sto : List (Nat × Blk)} {w : World} {nm : Nat} {st : St} {a : Act}
theorem RepRef.mp (hN : ∀ m, N m → N' (f m)) (hμ : ∀ m, N m → μ' (f m) = μ m) {r : Ref} {v : Value} (h : RepRef μ N r v) : RepRef μ' N' (mpR f r) v := by cases r <;> exact ⟨hN _ h.1, by rw [hμ _ h.1]; exact h.2⟩
theorem RepC.mp (hN : ∀ m, N m → N' (f m)) (hμ : ∀ m, N m → μ' (f m) = μ m) {x : Cp} {v : Value} (h : RepC M μ N x v) : RepC M μ' N' (mpC f x) v := by
  cases x with
  | ref r => exact RepRef.mp hN hμ h
  | _ => exact h
theorem RepD.mp (hN : ∀ m, N m → N' (f m)) (hμ : ∀ m, N m → μ' (f m) = μ m) {x : D} {v : Value} (h : RepD M μ N x v) : RepD M μ' N' (mpD f x) v := by
  cases x with
  | ref r => exact RepRef.mp hN hμ h
  | fn g first caps =>
    obtain ⟨va, vb, e, hy, h1, h2⟩ := h
    have key : ∀ {l : List Cp} {vs : List Value}, RepCs M μ N l vs → RepCs M μ' N' (l.map (mpC f)) vs := fun h => ⟨by simpa using h.1, fun j a b => by rw [List.getElem_map]; exact (h.2 j (by simpa using a) b).mp hN hμ⟩
    exact ⟨va, vb, e, hy.imp id (fun q => by rw [q]; rfl), key h1, key h2⟩
  | tup cs =>
    obtain ⟨vs, e, h1⟩ := h
    exact ⟨vs, e, by simpa using h1.1, fun j a b => by rw [List.getElem_map]; exact (h1.2 j (by simpa using a) b).mp hN hμ⟩
  | _ => exact h
theorem BlkOk.mp {S : Nat → Prop} (hN : ∀ m, N m → N' (f m)) (hμ : ∀ m, N m → μ' (f m) = μ m) {x : Blk} (hn : N nm) (h : BlkOk S M μ N w nm x) : BlkOk S M μ' N' w (f nm) (mpB f x) := by
  cases x with
  | cells cs =>
    obtain ⟨bb, vs, t, e, ho, hs, hr⟩ := h
    exact ⟨bb, vs, t, by rw [hμ _ hn]; exact e, ho, by simpa using hs, fun j h h' => by rw [List.getElem_map]; exact (hr j (by simpa using h) h').mp hN hμ⟩
  | lp l q cs =>
    obtain ⟨vs, e, ho, hs, hr⟩ := h
    exact ⟨vs, by rw [hμ _ hn]; exact e, ho, by simpa using hs, fun j h h' => by rw [List.getElem_map]; exact (hr j (by simpa using h) h').mp hN hμ⟩
  | gmap ls clk es =>
    obtain ⟨bb, xs, e, ho, q1, q2, q3⟩ := h
    exact ⟨bb, xs, by rw [hμ _ hn]; exact e, ho, ⟨by simpa using q1.1, fun j a b => by rw [List.getElem_map]; have := q1.2 j (by simpa using a) b; exact ⟨this.1, this.2.1, this.2.2.mp hN hμ⟩⟩, q2,
      fun e he => by obtain ⟨e0, he0, rfl⟩ := List.mem_map.1 he; exact q3 e0 he0⟩
  | _ => simp only [mpB, BlkOk] at h ⊢; rw [hμ _ hn]; exact h
theorem getS_mp (hinj : ∀ a b, names sto a → names sto b → f a = f b → a = b) {m : Nat} {b' : Blk} (h : getS (mpS f sto) m = some b') : ∃ o b, getS sto o = some b ∧ f o = m ∧ b' = mpB f b := by
  induction sto with
  | nil => cases h
  | cons x r ih =>
    grind [mpS,getS,names_cons]
theorem names_mp {m : Nat} (h : names sto m) : names (mpS f sto) (f m) := by
  induction sto with
  | nil => simp [names, getS] at h
  | cons x r ih =>
    grind [names,getS,mpS]
theorem names_mp_inv (hinj : ∀ a b, names sto a → names sto b → f a = f b → a = b) {m : Nat} (h : names (mpS f sto) m) : ∃ o, names sto o ∧ f o = m := by
  obtain ⟨b', hb⟩ := Option.isSome_iff_exists.1 h
  grind [getS_mp,names]
theorem StoOk.mp {S S' : Nat → Prop} (h : StoOk S M μ sto w) (hinj : ∀ a b, names sto a → names sto b → f a = f b → a = b) (hμ : ∀ m, names sto m → μ' (f m) = μ m) (hS : ∀ b, S' b ↔ S b) : StoOk S' M μ' (mpS f sto) w := by
  obtain rfl : S' = S := funext fun b => propext (hS b)
  refine ⟨h.sub, fun nm b' hb => ?_, fun nm nm' k k' hne h1 h2 hk hk' => ?_, h.low⟩
  · obtain ⟨o, b, h1, rfl, rfl⟩ := getS_mp hinj hb
    exact (h.blk o b h1).mp (fun m hm => names_mp hm) hμ (by simp [names, h1])
  · obtain ⟨o, g1, rfl⟩ := names_mp_inv hinj h1
    obtain ⟨o', g2, rfl⟩ := names_mp_inv hinj h2
    rw [hμ _ g1] at hk
    rw [hμ _ g2] at hk'
    exact h.sep o o' k k' (fun e => hne (by rw [e])) g1 g2 hk hk'
theorem RepDs.mp (hN : ∀ m, N m → N' (f m)) (hμ : ∀ m, N m → μ' (f m) = μ m) {xs : List D} {vs : List Value} (h : RepDs M μ N xs vs) : RepDs M μ' N' (xs.map (mpD f)) vs :=
  ⟨by simpa using h.1, fun j a b => by rw [List.getElem_map]; exact (h.2 j (by simpa using a) b).mp hN hμ⟩
theorem mpD_mpD {f g : Nat → Nat} (h : ∀ m, g (f m) = m) (x : D) : mpD g (mpD f x) = x := by
  have hR : ∀ r, mpR g (mpR f r) = r := fun r => by cases r <;> simp [mpR, h]
  have hC : ∀ l : List Cp, l.map (mpC g ∘ mpC f) = l := fun l => by
    induction l with
    | nil => rfl
    | cons c l ih => rw [List.map_cons, ih]; congr 1; cases c <;> simp [mpC, hR]
  cases x <;> simp [mpD, hR, hC]
theorem mpB_mpB {f g : Nat → Nat} (h : ∀ m, g (f m) = m) (x : Blk) : mpB g (mpB f x) = x := by
  cases x with
  | cells cs => simp only [mpB, List.map_map]; congr 1; induction cs with
    | nil => rfl
    | cons c l ih => rw [List.map_cons, ih]; simp [mpD_mpD h]
  | lp l q cs => simp only [mpB, List.map_map]; congr 1; induction cs with
    | nil => rfl
    | cons c l ih => rw [List.map_cons, ih]; simp [mpD_mpD h]
  | gmap ls clk es => simp only [mpB, List.map_map]; congr 1; induction es with
    | nil => rfl
    | cons c l ih => rw [List.map_cons, ih]; simp [mpD_mpD h]
  | _ => rfl
theorem mpS_mpS {f g : Nat → Nat} (h : ∀ m, g (f m) = m) (s : List (Nat × Blk)) : mpS g (mpS f s) = s := by
  induction s with
  | nil => rfl
  | cons x r ih => obtain ⟨k, b⟩ := x; simp [mpS, h, mpB_mpB h, ih]
theorem MC.ren {g : Nat → Nat} (hfg : ∀ m, g (f m) = m) (hgf : ∀ m, f (g m) = m) {fn : FuncId} {args : List D} {mv : List Nat} {R : D → List (Nat × Blk) → Prop} (h : MC P GL fn args sto mv R) :
    MC P GL fn (args.map (mpD f)) (mpS f sto) (mv.map f) (fun r s => R (mpD g r) (mpS g s)) := by
  intro M μ w vs h1 h2 h3
  have inj : ∀ a b, f a = f b → a = b := fun a b e => by grind
  have injg : ∀ a b, g a = g b → a = b := fun a b e => by grind
  have hn : ∀ m, names (mpS f sto) m → names sto (g m) := fun m hm => by grind [names_mp_inv]
  have hS : ∀ b, (shut (fun m => μ (f m)) sto w).p b ↔ (shut μ (mpS f sto) w).p b := fun b =>
    ⟨fun hb => ⟨hb.1, fun m hm => by have := hb.2 _ (hn m hm); simpa [hgf] using this⟩, fun hb => ⟨hb.1, fun m hm => hb.2 _ (names_mp hm)⟩⟩
  have k1 : StoOk (shut (fun m => μ (f m)) sto w) M (fun m => μ (f m)) sto w := by
    have := h1.mp (f := g) (μ' := fun m => μ (f m)) (fun a b _ _ e => injg a b e) (fun m _ => by simp [hgf]) hS
    grind [mpS_mpS]
  have k3 : RepDs M (fun m => μ (f m)) (names sto) args vs.toList := by
    have := h3.mp (f := g) (μ' := fun m => μ (f m)) (N' := names sto) hn (fun m _ => by simp [hgf])
    rw [List.map_map] at this
    have e : args.map (mpD g ∘ mpD f) = args := by
      have : mpD g ∘ mpD f = id := funext fun x => mpD_mpD hfg x
      simp_all
    grind
  refine (h M _ w vs k1 h2 k3).mono ?_
  rintro v w' ⟨r, s', M', μ', hR, q1, q2, q3, q4, q5⟩
  have hSe : (shut (fun m => μ (f m)) sto w).p = (shut μ (mpS f sto) w).p := funext fun b => propext (hS b)
  rw [hSe] at q3 q4
  refine ⟨mpD f r, mpS f s', M', fun m => μ' (g m), by simp only [mpD_mpD hfg, mpS_mpS hfg]; exact hR, q1.mp (fun a b _ _ e => inj a b e) (fun m _ => by simp [hfg]) (fun b => (hS b).symm),
    q2.mp (fun m hm => names_mp hm) (fun m _ => by simp [hfg]), q3, q4, fun m hm hmv => ?_⟩
  have := q5 (g m) (hn m hm) (fun hc => hmv (List.mem_map.2 ⟨g m, hc, hgf m⟩))
  simpa [hgf] using this
def sw (a b m : Nat) : Nat := if m = a then b else if m = b then a else m
def sws : List (Nat × Nat) → Nat → Nat
  | [], m => m
  | (a, b) :: r, m => sw a b (sws r m)
def swi : List (Nat × Nat) → Nat → Nat
  | [], m => m
  | (a, b) :: r, m => swi r (sw a b m)
theorem sw_sw (a b m : Nat) : sw a b (sw a b m) = m := by grind [sw]
theorem swi_sws : ∀ (l : List (Nat × Nat)) (m : Nat), swi l (sws l m) = m
  | [], m => rfl
  | (a, b) :: r, m => by simp only [swi, sws, sw_sw]; exact swi_sws r m
theorem sws_swi : ∀ (l : List (Nat × Nat)) (m : Nat), sws l (swi l m) = m
  | [], m => rfl
  | (a, b) :: r, m => by simp only [swi, sws]; rw [sws_swi r, sw_sw]
theorem MC.as (l : List (Nat × Nat)) {fn : FuncId} {args : List D} {mv : List Nat} {R : D → List (Nat × Blk) → Prop} (h : MC P GL fn args sto mv R) :
    MC P GL fn (args.map (mpD (sws l))) (mpS (sws l) sto) (mv.map (sws l)) (fun r s => R (mpD (swi l) r) (mpS (swi l) s)) := h.ren (swi_sws l) (sws_swi l)
theorem nodupB_mem {l : List Nat} {x : Nat} (h : nodupB (x :: l) = true) : x ∉ l ∧ nodupB l = true := by grind [nodupB]
def env0 : Nat → List D → List (Nat × D)
  | _, [] => []
  | i, x :: xs => (i, x) :: env0 (i + 1) xs
theorem getL_env0 : ∀ (xs : List D) (vs : List Value) (i : Nat), RepDs M μ N xs vs → ∀ s (v : Value), (∀ h : s - i < vs.length, i ≤ s → v = vs[s - i]) → RepD M μ N (getL (env0 i xs) s) v
  | [], vs, i, h, s, v, hv => trivial
  | x :: xs, vs, i, h, s, v, hv => by
    simp only [env0, getL]
    split
    · rename_i e; subst e
      have hl : 0 < vs.length := by have := h.1; simp at this; omega
      rw [hv (by simpa using hl) (Nat.le_refl _)]
      simp only [Nat.sub_self]
      have := h.2 0 (by simp) hl; simpa using this
    · rename_i hne
      cases vs with
      | nil => have := h.1; simp at this
      | cons u us =>
        refine getL_env0 xs us (i + 1) ⟨by simpa using h.1, fun j a b => by have := h.2 (j + 1) (by simpa using a) (by simpa using b); simpa using this⟩ s v (fun hl hle => ?_)
        grind
end
end Go.Dl
