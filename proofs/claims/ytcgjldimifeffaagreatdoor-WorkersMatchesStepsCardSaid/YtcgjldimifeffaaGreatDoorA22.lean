/- A part of the proofs of WorkersExclude and WorkersMatchesSteps: A22. -/
import Derived.Test.YtcgjldimifeffaaGreatDoorA21r
import Derived.Test.YtcgjldimifeffaaGreatDoorA21c
set_option linter.all false
/-
  A data-level logic, second edition: the code does what is said of it.
-/
namespace Go.Dl
open Go Go.RowKit

/-- A loop with a ghost: the measure is that of the ghost. -/
theorem wpIn_loop_g {F : Fence} {j : Nat} {P : Program} {Q : Exit → Act → World → Prop} {a : Act} {w : World} {c : Code} {α : Type} (I : α → Act → World → Prop) (m : α → Nat) (x₀ : α) (h₀ : I x₀ a w)
    (round : ∀ x a w, I x a w → c.wpIn F j P (Exit.then (fun a' w' => ∃ x', I x' a' w' ∧ m x' < m x) Q) a w) : (Code.loop c).wpIn F j P Q a w := by
  intro b k cs hro hb hr
  have key : ∀ n x a w, m x = n → I x a w → ∃ e a' w', Q e a' w' ∧ ArrivesIn (Machine.fenced P F) P (lone (b.atR a (.code c :: .inLoop c :: k)) cs w) b k cs e a' w' := by
    intro n
    induction n using Nat.strongRecOn with
    | _ n ih =>
      intro x a w hn hI
      obtain ⟨e, a₁, w₁, hq, harr⟩ := round x a w hI b (.inLoop c :: k) cs hro hb hr
      cases e with
      | normal =>
        obtain ⟨x', hI₁, hlt⟩ := hq
        obtain ⟨e₂, a₂, w₂, hq₂, harr₂⟩ := ih (m x') (hn ▸ hlt) x' a₁ w₁ rfl hI₁
        exact ⟨e₂, a₂, w₂, hq₂, .of_steps (StepsIn.trans harr (.one (fenced_calm hb hr rfl) stepR_inLoop)) harr₂⟩
      | exit id => exact ⟨_, a₁, w₁, hq, .pass (x := .inLoop c) rfl (fun _ _ => .inl (by simp)) harr⟩
      | goto l => exact ⟨_, a₁, w₁, hq, .pass (x := .inLoop c) rfl (fun _ _ => .inl (by simp)) harr⟩
      | ret => exact ⟨_, a₁, w₁, hq, .pass (x := .inLoop c) rfl (fun _ _ => .inl (by simp)) harr⟩
      | panic ch => exact ⟨_, a₁, w₁, hq, .pass (x := .inLoop c) rfl (fun _ _ => .inl (by simp)) harr⟩
      | outgrown => exact ⟨_, a₁, w₁, hq, .pass (x := .inLoop c) rfl (fun _ _ => .inl (by simp)) harr⟩
  obtain ⟨e, a', w', hq, harr⟩ := key _ x₀ a w rfl h₀
  exact ⟨e, a', w', hq, .of_steps (.one (fenced_calm hb hr rfl) stepR_loop) harr⟩

section
variable {P : Program} {GL : List (Nat × List I)} {n : Nat} {S : Sh} {mu : List Nat} {rt : List (Nat × Nat)}
theorem lift_grow {S' : Sh} {M M' : Mem} {w w' : World} {K : Exit → St → Prop} (hg : Grow S S' w') (hm : MExt S.p M M') (hb : Keeps S.p w w') (e : Exit) (a'' : Act) (w'' : World)
    (k : liftQ GL n S' M' w' K e a'' w'') : liftQ GL n S M w K e a'' w'' := by
  obtain ⟨st'', hk, hr⟩ := k
  exact ⟨st'', hk, hr.trans hg hm hb⟩
def chE (P : Program) (GL : List (Nat × List I)) (us : List Nat) : List GI → (St → Prop) → St → Prop
  | [], T, s => ∃ v, Sim v s ∧ T v
  | g :: r, T, s => ∃ v, Sim v s ∧ stepG P GL us g v (chE P GL us r T)
theorem chE_sim {us : List Nat} {l : List GI} {T : St → Prop} {s t : St} (h : chE P GL us l T s) (hs : Sim s t) : chE P GL us l T t := by
  cases l with
  | nil => obtain ⟨v, h1, h2⟩ := h; exact ⟨v, h1.trans hs, h2⟩
  | cons g r => obtain ⟨v, h1, h2⟩ := h; exact ⟨v, h1.trans hs, h2⟩
theorem stepD_chain {sn : List Nat} {ins : Ins} (h : chainIns ins = true) (st : St) (K : St → Prop) : stepD P GL sn ins st K = stepC P GL sn ins st K := by
  cases ins <;> simp only [chainIns, Bool.false_eq_true] at h <;> rfl
theorem chE_of_evD {sn : List Nat} : ∀ (l : List GI) {T : St → Prop} {s : St}, (∀ g ∈ l, chainIns g.ins = true) → evD P GL sn l s T → chE P GL (usOf sn) l T s
  | [], T, s, _, h => ⟨s, Sim.refl s, h⟩
  | g :: r, T, s, hl, h => by
    have h1 := hl g List.mem_cons_self
    have q : ∀ s', evD P GL sn r s' T → chE P GL (usOf sn) r T s' := fun s' hs' => chE_of_evD r (fun g hg => hl g (List.mem_cons_of_mem _ hg)) hs'
    refine ⟨s, Sim.refl s, ?_⟩
    simp only [evD] at h
    unfold stepG gdOf
    split at h
    · rename_i e
      rw [e]
      rw [stepD_chain h1] at h
      exact ⟨h.1, step_mono h.2 q⟩
    · rename_i sl want e
      rw [e]
      simp only
      unfold gdE at h
      split at h
      · rename_i b ev
        rw [ev]
        simp only
        cases hb : (b == want) with
        | true =>
          have h2 := h.1 hb
          rw [stepD_chain h1] at h2
          exact ⟨h2.1, step_mono h2.2 q⟩
        | false => exact q _ (h.2 hb)
      · rename_i ev
        rw [ev]
        exact q _ h
      · exact h.elim
theorem toF_dst (ins : Ins) : (toF ins).dst = ins.dst := by
  cases ins <;> try rfl
  rename_i ps
  cases ps <;> rfl
theorem callG_of_F {get : St → Option (FuncId × List D)} {os : List O} {d : Option Nat} {st : St} {K : St → Prop} (hg : ∀ s f ds, get s = some (f, ds) → (os.all fun o => isI (opv GL s o)) = true → ds.all isI = true) (h : callF P GL get os d st K) : callG P GL get st d K := by
  unfold callF callF2 at h
  refine ⟨oN GL st os, ?_⟩
  split at h
  · rename_i p e
    obtain ⟨h1, y, h2, h3⟩ := h
    rw [e]
    refine .inl ⟨[], [], _, h2, trivial, rfl, ?_, rfl, ?_⟩
    · have := hg _ p.1 p.2 e h1
      rw [List.all_eq_true] at this ⊢
      intro x hx
      have := this x hx
      cases x <;> simp [isI] at this; rfl
    · rintro r s ⟨rfl, rfl⟩
      exact ⟨fun nm hm => by simp [renS] at hm, fun nm hm => by simp at hm, h3⟩
  · exact h.elim
theorem toF_step {ins : Ins} {st : St} {K : St → Prop} (h : step P GL (toF ins) st K) : step P GL ins st K := by
  cases ins <;> try exact h
  case call d f args =>
    refine callG_of_F (fun s f' ds e h1 => ?_) h
    simp only [getC, Option.some.injEq, Prod.mk.injEq] at e
    obtain ⟨rfl, rfl⟩ := e
    rw [List.all_eq_true] at h1 ⊢
    intro x hx
    obtain ⟨o, ho, rfl⟩ := List.mem_map.1 hx
    exact h1 o ho
  case callv d fo args =>
    refine callG_of_F (fun s f' ds e h1 => ?_) h
    rw [List.all_eq_true] at h1 ⊢
    have h0 := h1 fo (by simp)
    unfold getCv getV at e
    split at e
    · cases e
      intro x hx
      simp only [List.mem_append, List.mem_map] at hx
      rcases hx with (⟨z, _, rfl⟩ | ⟨o, ho, rfl⟩) | ⟨z, _, rfl⟩
      · rfl
      · exact h1 o (by simp [ho])
      · rfl
    · rename_i ef; rw [ef] at h0; simp [isI] at h0
    · cases e
  case bsn d e k ps =>
    cases ps with
    | nil => exact h
    | cons a l =>
      simp only [toF, step] at h ⊢
      refine ⟨?_, h.2⟩
      rw [h.1]; rfl
theorem choose_fn {α β : Type} [DecidableEq α] : ∀ (l : List α) (hn : l.Nodup) (xs : List β) (hl : xs.length = l.length) (d : β), ∃ f : α → β, l.map f = xs
  | [], _, [], hl, d => ⟨fun _ => d, rfl⟩
  | [], _, x :: xs, hl, d => by simp at hl
  | a :: l, hn, [], hl, d => by simp at hl
  | a :: l, hn, x :: xs, hl, d => by
    obtain ⟨h1, h2⟩ := List.nodup_cons.1 hn
    obtain ⟨f, hf⟩ := choose_fn l h2 xs (by simpa using hl) d
    refine ⟨fun b => if b = a then x else f b, ?_⟩
    simp only [List.map_cons, if_pos]
    congr 1
    rw [← hf]
    exact List.map_congr_left fun b hb => if_neg fun e : b = a => h1 (e ▸ hb)
theorem Rel.drew {M : Mem} {μ : Place} {st : St} {a : Act} {w : World} (h : Rel GL n S M μ st a w) : Rel GL n S M μ st a w.drew :=
  h.of h.toStoOk.drew (Mem.le_refl _) fun _ _ hv => hv

end
def dep (ops : Array Oper) (i : Nat) : List Nat := (depL ops).getD i []
def LClosed (ops : Array Oper) (l : Array Bool) : Prop := ∀ k, l.getD k false = true → ∀ d ∈ dep ops k, l.getD d false = true
def Anc (ops : Array Oper) (i j : Nat) : Prop := ∀ l : Array Bool, LClosed ops l → (∀ d ∈ dep ops i, l.getD d false = true) → l.getD j false = true
section
variable {P : Program} {ops : Array Oper} {ro : Option Nat} {Q : Exit → Act → World → Prop}
theorem ready_iff {l : Array Bool} {i : Nat} : i ∈ Region.ready .any ops l ↔ i < ops.size ∧ l.getD i true = false ∧ ∀ d ∈ dep ops i, l.getD d false = true := by
  simp only [Region.ready, List.mem_filter, List.mem_range, Bool.and_eq_true, Bool.not_eq_true']
  refine and_congr_right fun hi => and_congr_right fun _ => ?_
  rw [show dep ops i = (ops[i].after.toList.filter fun e => Region.binds .any e).map (·.on) by simp [dep, depL, List.getD_eq_getElem?_getD, hi]]
  simp only [Array.getElem?_eq_getElem hi, Option.map_some, Option.getD_some, Array.all_eq_true_iff_forall_mem, List.mem_map, List.mem_filter, Array.mem_toList_iff]
  grind
theorem getD_tf {l : Array Bool} {j : Nat} (h : j < l.size) : l.getD j true = l.getD j false := by simp [Array.getD_eq_getD_getElem?, Array.getElem?_eq_getElem h]
theorem getD_set (l : Array Bool) (i q : Nat) (hi : i < l.size) : (l.setIfInBounds i true).getD q false = (q == i || l.getD q false) := by
  simp only [Array.getD_eq_getD_getElem?, Array.getElem?_setIfInBounds]
  by_cases e : i = q
  · subst e; simp [hi]
  · simp [e, Ne.symm e]
theorem anyP {p0 p1 : Nat} (h1 : p1 ≤ ops.size) (hE : ∀ i, ∀ d ∈ dep ops i, d < i) (hS : ∀ i, p1 ≤ i → i < ops.size → ∀ j, j < p1 → Anc ops i j) (Inv : List Nat → Act → World → Prop)
    (fin : ∀ l a w, l.size = ops.size → (∀ j, j < ops.size → (l.getD j false = true ↔ j < p1)) → Inv [] a w → wpAnyIn (FR ro) 0 P .any ops Q (ops.size - p1) l a w)
    (stp : ∀ x i y a w, (x ++ i :: y).Pairwise (· < ·) → (∀ j ∈ x ++ i :: y, p0 ≤ j ∧ j < p1) → (∀ q, q < p1 → q ∉ x ++ y → ∀ j, Anc ops q j → j ∉ x ++ i :: y) → Inv (x ++ i :: y) a w → wpOpIn (FR ro) 0 P ops Q i (Inv (x ++ y)) a w) :
    ∀ (k : Nat) (T : List Nat) (l : Array Bool) (a : Act) (w : World), T.length = k → l.size = ops.size → LClosed ops l → (∀ j, j < ops.size → (l.getD j false = true ↔ j < p1 ∧ j ∉ T)) → T.Pairwise (· < ·) → (∀ j ∈ T, p0 ≤ j ∧ j < p1) → Inv T a w → wpAnyIn (FR ro) 0 P .any ops Q (k + (ops.size - p1)) l a w := by
  intro k
  induction k with
  | zero =>
    intro T l a w hk hz hc hl hp hT hI
    obtain rfl := List.eq_nil_of_length_eq_zero hk
    rw [Nat.zero_add]
    exact fin l a w hz (fun j hj => by rw [hl j hj]; simp) hI
  | succ k ih =>
    intro T l a w hk hz hc hl hp hT hI
    obtain ⟨i0, T', rfl⟩ := List.exists_cons_of_length_eq_add_one hk
    have un : ∀ j ∈ i0 :: T', ¬ l.getD j false = true := fun j hj h => ((hl j (Nat.lt_of_lt_of_le (hT j hj).2 h1)).1 h).2 hj
    have h0 := hT i0 List.mem_cons_self
    rw [Nat.succ_add]
    refine ⟨fun hn => ?_, fun i hi => ?_⟩
    · have : i0 ∈ Region.ready .any ops l := ready_iff.2 ⟨by omega, by rw [getD_tf (by omega)]; simpa using un i0 List.mem_cons_self, fun d hd => by
        have := hE i0 d hd
        refine (hl d (by omega)).2 ⟨by omega, fun hm => ?_⟩
        rcases List.mem_cons.1 hm with e | e
        · omega
        · have := (List.pairwise_cons.1 hp).1 d e; omega⟩
      rw [hn] at this; cases this
    · obtain ⟨hi1, hi2, hi3⟩ := ready_iff.1 hi
      rw [getD_tf (by omega)] at hi2
      have hlt : i < p1 := by
        rcases Nat.lt_or_ge i p1 with q | q
        · exact q
        · exact (un i0 List.mem_cons_self (hS i q hi1 i0 h0.2 l hc hi3)).elim
      have hm : i ∈ i0 :: T' := Decidable.byContradiction fun h => by rw [(hl i hi1).2 ⟨hlt, h⟩] at hi2; cases hi2
      generalize i0 :: T' = T at *
      obtain ⟨x, y, rfl⟩ := List.append_of_mem hm
      have hd := List.pairwise_append.1 hp
      have hy := List.pairwise_cons.1 hd.2.1
      have nx : ∀ j ∈ x ++ y, j ≠ i := fun j hj e => by
        rcases List.mem_append.1 hj with h | h
        · have := hd.2.2 j h i (by simp); omega
        · have := hy.1 j h; omega
      refine wpOpIn_mono (fun a' w' h => ih (x ++ y) (l.setIfInBounds i true) a' w' (by simp at hk ⊢; omega) (by simpa using hz) ?_ ?_ (List.pairwise_append.2 ⟨hd.1, hy.2, fun p hp q hq => hd.2.2 p hp q (List.mem_cons_of_mem _ hq)⟩) (fun j hj => hT j (by grind)) h) (stp x i y a w hp hT ?_ hI)
      · intro q hq d hd
        rw [getD_set _ _ _ (by omega), Bool.or_eq_true] at hq ⊢
        rcases hq with hq | hq
        · rw [beq_iff_eq.1 hq] at hd; exact .inr (hi3 d hd)
        · exact .inr (hc q hq d hd)
      · intro j hj
        rw [getD_set _ _ _ (by omega), Bool.or_eq_true, hl j hj, beq_iff_eq]
        by_cases e : j = i
        · subst e; simp only [true_or, true_iff]; exact ⟨hlt, fun h => nx j h rfl⟩
        · simp [e]
      · intro q hq hn j hj hm
        refine un j hm (hj l hc ?_)
        by_cases e : q = i
        · exact e ▸ hi3
        · exact hc q ((hl q (by omega)).2 ⟨hq, by grind⟩)
end
section
variable {P : Program} {GL : List (Nat × List I)} {n : Nat} {S : Sh} {mu mg : List Nat} {ops : Array Oper} {M : Mem} {st : St} {a : Act} {w : World} {Q : Exit → Act → World → Prop} {ro : Option Nat} {sn : List Nat}
theorem chX_0 (p0 p1 : Nat) : chX [] p0 p1 = List.range' p0 (p1 - p0) := List.filter_eq_self.2 fun _ _ => by simp
theorem chX_td {gs : List GI} {p0 p1 : Nat} (h : p1 ≤ gs.length) : (chX [] p0 p1).map (gAt gs) = (gs.take p1).drop p0 := by
  rw [chX_0]
  exact List.ext_getElem (by simp; omega) fun i h1 h2 => by
    simp at h2
    simp [gAt, show p0 + i < gs.length by omega]
theorem compOps_len {ops : Array Oper} : ∀ {gs : List GI}, compOps P GL n mu ops = some gs → gs.length = ops.size := by
  have key : ∀ (l : List Oper) (gs : List GI), l.mapM (compG P GL n mu ops) = some gs → gs.length = l.length := by
    intro l
    induction l with
    | nil => intro gs h; cases h; rfl
    | cons o l ih =>
      intro gs h
      rw [List.mapM_cons] at h
      obtain ⟨g, h1, h⟩ := Option.bind_eq_some_iff.1 h
      obtain ⟨g', h2, h⟩ := Option.bind_eq_some_iff.1 h
      cases h
      simp [ih g' h2]
  intro gs h
  simpa using key _ _ h
theorem compOps_at {gs : List GI} (h : compOps P GL n mu ops = some gs) {i : Nat} (hi : i < ops.size) : (ops[i]?).bind (compG P GL n mu ops) = some (gAt gs i) := by
  have key : ∀ (l : List Oper) (gs : List GI), l.mapM (compG P GL n mu ops) = some gs → ∀ i, i < l.length → (l[i]?).bind (compG P GL n mu ops) = some (gAt gs i) := by
    intro l
    induction l with
    | nil => intro gs h i hi; cases hi
    | cons o l ih =>
      intro gs h i hi
      rw [List.mapM_cons] at h
      obtain ⟨g, h1, h⟩ := Option.bind_eq_some_iff.1 h
      obtain ⟨g', h2, h⟩ := Option.bind_eq_some_iff.1 h
      cases h
      cases i with
      | zero => simp [h1, gAt]
      | succ i => simpa [gAt] using ih g' h2 i (by simpa using hi)
  simpa using key _ _ h i (by simpa using hi)
theorem snd_gd {μ : Place} {i : Nat} {g : GI} (l : List Nat) (hg : (ops[i]?).bind (compG P GL n mu ops) = some g) (h : Rel GL n S M μ st a w) {b : Bool} (hb : gdOf g.gd st = some b) {K : St → Prop}
    (hs : if b = true then step P GL g.ins (frzNs l st) K else K (skipI g.ins st)) {nx : Act → World → Prop} (hn : ∀ s a' w', Res GL n S M w s a' w' → K s → nx a' w') : wpOpIn (FR ro) 0 P ops Q i nx a w := by
  obtain ⟨o, ho, hg⟩ := Option.bind_eq_some_iff.1 hg
  have hw := gd_wanted h hg hb
  obtain ⟨hop, hd⟩ := compG_ins hg
  unfold wpOpIn
  rw [ho]
  simp only [hw]
  cases b with
  | true =>
    obtain ⟨M1, h1, m1⟩ := h.frzNs l
    exact Oper.wpIn_mono (fun a' w' ⟨s, hk, M', μ', h', hm, hb⟩ => hn s a' w' ⟨M', μ', h', m1.trans hm, hb⟩ hk) (wpX_in ro (step_ndef hop hs) (snd_opN h1 hop hs))
  | false =>
    obtain ⟨hdd, hdn⟩ := hd fun e => by rw [e] at hb; cases hb
    exact ⟨fun _ _ => trivial, hn _ _ _ (Res.of (skip_rel h hdd hdn)) hs⟩
theorem ev_gd {g : GI} {r : List GI} {K : St → Prop} (h : ev P GL (g :: r) st K) : ∃ b, gdOf g.gd st = some b ∧ if b = true then step P GL g.ins (frzNs (preN GL g.ins st) st) (fun s => ev P GL r s K) else ev P GL r (skipI g.ins st) K := by
  rw [ev_cons] at h
  unfold gdOf
  split at h
  · rename_i e; rw [e]; exact ⟨true, rfl, h⟩
  · rename_i s want e
    rw [e]
    simp only
    unfold gdE at h
    split at h
    · rename_i b e1
      rw [e1]
      refine ⟨_, rfl, ?_⟩
      cases hb : b == want with
      | true => exact h.1 hb
      | false => exact h.2 hb
    · rename_i e1; rw [e1]; exact ⟨_, rfl, h⟩
    · exact h.elim
theorem Res.trans {M' : Mem} {w' w'' : World} {s' : St} {a'' : Act} (h : MExt S M M') (hb : Keeps S w w') (k : Res GL n S M' w' s' a'' w'') : Res GL n S M w s' a'' w'' := by
  obtain ⟨M2, μ2, h2, m2, b2⟩ := k
  exact ⟨M2, μ2, h2, h.trans m2, hb.trans b2⟩
def Fin (P : Program) (GL : List (Nat × List I)) (n : Nat) (S : Sh) (ro : Option Nat) (ops : Array Oper) (Q : Exit → Act → World → Prop) (M : Mem) (w : World) (p1 : Nat) (K : St → Prop) : Prop :=
  ∀ l a' w', l.size = ops.size → (∀ j, j < ops.size → (l.getD j false = true ↔ j < p1)) → (∃ s, Res GL n S M w s a' w' ∧ K s) → wpAnyIn (FR ro) 0 P .any ops Q (ops.size - p1) l a' w'
theorem anyS {p0 p1 : Nat} (h0 : p0 ≤ p1) (h1 : p1 ≤ ops.size) (hE : ∀ i, ∀ d ∈ dep ops i, d < i) (hS : ∀ i, p1 ≤ i → i < ops.size → ∀ j, j < p1 → Anc ops i j) (I : List Nat → St → Prop)
    {K : St → Prop} (hK : ∀ s, I [] s → K s) (fin : Fin P GL n S ro ops Q M w p1 K)
    (stp : ∀ x i y M μ st a w, (x ++ i :: y).Pairwise (· < ·) → (∀ j ∈ x ++ i :: y, p0 ≤ j ∧ j < p1) → (∀ q, q < p1 → q ∉ x ++ y → ∀ j, Anc ops q j → j ∉ x ++ i :: y) → Rel GL n S M μ st a w → I (x ++ i :: y) st →
      ∀ nx : Act → World → Prop, (∀ s a' w', Res GL n S M w s a' w' → I (x ++ y) s → nx a' w') → wpOpIn (FR ro) 0 P ops Q i nx a w)
    {μ : Place} {l : Array Bool} (hz : l.size = ops.size) (hl : ∀ j, j < ops.size → (l.getD j false = true ↔ j < p0)) (h : Rel GL n S M μ st a w) (hI : I (chX [] p0 p1) st) : wpAnyIn (FR ro) 0 P .any ops Q (ops.size - p0) l a w := by
  have hm : ∀ j, j ∈ chX [] p0 p1 ↔ p0 ≤ j ∧ j < p1 := fun j => by simp [chX, List.mem_range'_1]; omega
  have hc := chX_0 p0 p1
  have := anyP (Q := Q) (ro := ro) (p0 := p0) h1 hE hS (fun T a' w' => ∃ s, Res GL n S M w s a' w' ∧ I T s) (fun l a' w' q1 q2 ⟨s, q3, q4⟩ => fin l a' w' q1 q2 ⟨s, q3, hK s q4⟩) (fun x i y a' w' q1 q2 q3 ⟨s, ⟨M', μ', q4, q5, q6⟩, q7⟩ =>
    stp x i y M' μ' s a' w' q1 q2 q3 q4 q7 _ fun s2 a2 w2 q8 q9 => ⟨s2, Res.trans q5 q6 q8, q9⟩) (p1 - p0) (chX [] p0 p1) l a w (by rw [hc]; simp) hz
    (fun k hk d hd => by
      have e : ∀ j, l.getD j false = true → j < ops.size := fun j hj => by
        rcases Nat.lt_or_ge j ops.size with q | q
        · exact q
        · simp [Array.getD, hz, Nat.not_lt.2 q] at hj
      have := (hl k (e k hk)).1 hk
      have := hE k d hd
      exact (hl d (by omega)).2 (by omega)) (fun j hj => by rw [hl j hj, hm]; omega) (List.Pairwise.filter _ List.pairwise_lt_range') (fun j hj => (hm j).1 hj) ⟨st, Res.of h, hI⟩
  rwa [show p1 - p0 + (ops.size - p1) = ops.size - p0 by omega] at this
theorem pieceS {gs : List GI} (hgs : compOps P GL n mu ops = some gs) {p0 p1 : Nat} (h0 : p0 ≤ p1) (h1 : p1 ≤ ops.size) (hE : ∀ i, ∀ d ∈ dep ops i, d < i) (hS : ∀ i, p1 ≤ i → i < ops.size → ∀ j, j < p1 → Anc ops i j)
    (hq : ∀ i j, p0 ≤ j → j < i → i < p1 → Anc ops i j) {K : St → Prop} (fin : Fin P GL n S ro ops Q M w p1 K)
    {μ : Place} {l : Array Bool} (hz : l.size = ops.size) (hl : ∀ j, j < ops.size → (l.getD j false = true ↔ j < p0)) (h : Rel GL n S M μ st a w) (hs : ev P GL ((chX [] p0 p1).map (gAt gs)) st K) : wpAnyIn (FR ro) 0 P .any ops Q (ops.size - p0) l a w := by
  refine anyS h0 h1 hE hS (fun T s => ev P GL (T.map (gAt gs)) s K) (fun s h => h) fin (fun x i y M μ st a w q1 q2 q3 h hs nx hn => ?_) hz hl h hs
  obtain rfl : x = [] := by
    cases x with
    | nil => rfl
    | cons j x =>
      have hi := q2 i (by simp)
      exact (q3 i hi.2 (fun hm => by
        have hd := List.pairwise_append.1 q1
        rcases List.mem_append.1 hm with e | e
        · exact Nat.lt_irrefl _ (hd.2.2 i e i (by simp))
        · exact Nat.lt_irrefl _ ((List.pairwise_cons.1 hd.2.1).1 i e)) j (hq i j (q2 j (by simp)).1 ((List.pairwise_append.1 q1).2.2 j (by simp) i (by simp)) hi.2) (by simp)).elim
  obtain ⟨b, hb, hs⟩ := ev_gd hs
  exact snd_gd _ (compOps_at hgs (Nat.lt_of_lt_of_le (q2 i (by simp)).2 h1)) h hb hs hn
theorem mem_dstG {g : GI} {d : Nat} (h : g.ins.dst = some d) : d ∈ dstG g := by simp [dstG, h]
theorem pieceC {gs gs' : List GI} (hgs : compOps P GL n mg ops = some gs) (hgs' : compOps P GL n mu ops = some gs') {p0 p1 : Nat} (h0 : p0 ≤ p1) (h1 : p1 ≤ ops.size) (hE : ∀ i, ∀ d ∈ dep ops i, d < i) (hS : ∀ i, p1 ≤ i → i < ops.size → ∀ j, j < p1 → Anc ops i j)
    {anc : List (List Nat)} (hA : ∀ i, i < ops.size → ∀ j ∈ anc.getD i [], Anc ops i j) {ql us : List Nat} (hok : chkC anc gs gs' ql us p0 p1 = true) {K : St → Prop} (fin : Fin P GL n S ro ops Q M w p1 K) (hus : us = usOf sn)
    {μ : Place} {l : Array Bool} (hz : l.size = ops.size) (hl : ∀ j, j < ops.size → (l.getD j false = true ↔ j < p0)) (h : Rel GL n S M μ st a w) (hs : evD P GL sn ((chX ql p0 p1).map (gAt gs) ++ (chQ ql p0 p1).map (gF gs')) st K) : wpAnyIn (FR ro) 0 P .any ops Q (ops.size - p0) l a w := by
  simp only [chkC, Bool.and_eq_true, Bool.or_eq_true, List.all_eq_true, List.isEmpty_iff, Nat.ble_eq, List.contains_iff_mem, Bool.not_eq_true', Bool.eq_false_iff, ne_eq, List.any_eq_true, List.mem_filter] at hok
  obtain ⟨hX, hok⟩ := hok
  have memX : ∀ i, i ∈ chX ql p0 p1 ↔ (i < p1 ∧ p0 ≤ i) ∧ i ∉ ql := fun i => by simp [chX, List.mem_range'_1]; omega
  have memQ : ∀ i, i ∈ chQ ql p0 p1 ↔ (i < p1 ∧ p0 ≤ i) ∧ i ∈ ql := fun i => by simp [chQ, List.mem_range'_1]; omega
  have sQ : (chQ ql p0 p1).Pairwise (· < ·) := List.Pairwise.filter _ List.pairwise_lt_range'
  have hQc : ∀ g ∈ (chQ ql p0 p1).map (gF gs'), chainIns g.ins = true := fun g hg => by
    obtain ⟨q, hq, rfl⟩ := List.mem_map.1 hg
    rcases hok with e | e
    · rw [e] at hq; cases hq
    · exact (e.1.2 q hq).1.1.1.1
  rw [evD_append] at hs
  obtain ⟨xs, hxs, hrun⟩ := run_of_evD _ _ _ (List.all_eq_true.2 fun g hg => by obtain ⟨x, hx, rfl⟩ := List.mem_map.1 hg; exact (hX x hx).1) hs
  obtain ⟨xf, rfl⟩ := choose_fn (chX ql p0 p1) (List.Pairwise.filter _ List.nodup_range') xs (by have := congrArg List.length hxs; simpa using this) (⟨none, .mov 0 (.t 0)⟩, none)
  have hxf : ∀ i ∈ chX ql p0 p1, (xf i).1 = gAt gs i := by
    rw [List.map_map] at hxs
    exact fun i hi => List.map_inj_left.1 hxs i hi
  have hrun := runX_mono _ (fun u hu => hus ▸ chE_of_evD _ hQc hu) hrun
  refine anyS h0 h1 hE hS (fun T s => ∃ Qd Qr, chQ ql p0 p1 = Qd ++ Qr ∧ (∀ q ∈ Qd, q ∉ T) ∧ (∀ q ∈ Qr, q ∈ T) ∧ runX P GL sn ((T.filter fun i => !ql.contains i).map xf) s (chE P GL us (Qr.map (gF gs')) K)) (K := fun s => ∃ v, Sim v s ∧ K v) ?_
    (fun l a' w' q1 q2 ⟨s, ⟨M', μ', q3, q4⟩, v, q5, q6⟩ => fin l a' w' q1 q2 ⟨v, ⟨M', μ', q3.sim q5.symm, q4⟩, q6⟩) ?_ hz hl h ⟨[], _, rfl, by simp, fun q hq => by have := (memQ q).1 hq; rw [chX_0]; simp [List.mem_range'_1]; omega, by
      rw [show ((chX [] p0 p1).filter fun i => !ql.contains i) = chX ql p0 p1 by rw [chX_0]; rfl]; exact hrun⟩
  · rintro s ⟨Qd, Qr, _, _, q3, q4⟩
    obtain rfl : Qr = [] := List.eq_nil_iff_forall_not_mem.2 fun q hq => by cases q3 q hq
    exact q4
  rintro x i y M μ st a w q1 q2 q3 h ⟨Qd, Qr, hQQ, hQd, hQr, hr⟩ nx hn
  have hi := q2 i (by simp)
  have his : i < ops.size := by omega
  have hpw := List.pairwise_append.1 q1
  have hxi : ∀ j ∈ x, j < i := fun j hj => hpw.2.2 j hj i (by simp)
  have hni : i ∉ x ++ y := fun hm => by
    rcases List.mem_append.1 hm with e | e
    · exact Nat.lt_irrefl _ (hxi i e)
    · exact Nat.lt_irrefl _ ((List.pairwise_cons.1 hpw.2.1).1 i e)
  have nA : ∀ q, q < p1 → q ∉ x ++ y → ∀ j ∈ x ++ i :: y, j ∉ anc.getD q [] := fun q hq hqn j hj hm => q3 q hq hqn j (hA q (by omega) j hm) hj
  rw [List.filter_append, List.filter_cons] at hr
  by_cases hdr : i ∈ ql
  · have hiQ := (memQ i).2 ⟨⟨hi.2, hi.1⟩, hdr⟩
    have hok := hok.resolve_left fun e => by rw [e] at hiQ; cases hiQ
    obtain ⟨⟨hU, hQ⟩, hXX⟩ := hok
    have hiR : i ∈ Qr := by
      rw [hQQ] at hiQ
      exact (List.mem_append.1 hiQ).elim (fun q => (hQd i q (by simp)).elim) id
    cases Qr with
    | nil => cases hiR
    | cons q0 Qr =>
      have hsub : ∀ q ∈ Qd ++ q0 :: Qr, q ∈ chQ ql p0 p1 := fun q hq => hQQ ▸ hq
      have hpq := List.pairwise_append.1 (hQQ ▸ sQ)
      have e0 : q0 = i := by
        rcases List.mem_cons.1 hiR with e | e
        · exact e.symm
        · have hlt : q0 < i := (List.pairwise_cons.1 hpq.2.1).1 i e
          have := ((hQ q0 (hsub q0 (by simp))).1.2 i hiQ).resolve_left (by omega)
          exact (nA i hi.2 hni q0 (hQr q0 (by simp)) this).elim
      subst e0
      obtain ⟨⟨⟨⟨c1, c3⟩, c4⟩, _⟩, hXQ⟩ := hQ q0 hiQ
      obtain ⟨d0, hd0⟩ := Option.isSome_iff_exists.1 c3
      have hTX : ∀ b ∈ (x.filter fun i => !ql.contains i) ++ (y.filter fun i => !ql.contains i), b ∈ chX ql p0 p1 ∧ b ∉ anc.getD q0 [] := fun b hb => by
        have hb' : b ∈ x ++ y ∧ b ∉ ql := by grind
        have hb2 : b ∈ x ++ q0 :: y := by grind
        have := q2 b hb2
        exact ⟨(memX b).2 ⟨⟨this.2, this.1⟩, hb'.2⟩, nA q0 hi.2 hni b hb2⟩
      rw [if_neg (by simpa using hdr)] at hr
      have hlate : Late us (gF gs' q0) (((x.filter fun i => !ql.contains i) ++ (y.filter fun i => !ql.contains i)).map xf) := by
        refine ⟨fun b hb => ?_, fun b hb u hu => ?_, fun b hb d hd => ?_, fun d hd => c4 d (mem_dstG hd), fun b hb d hd => ?_, ?_⟩
        rotate_right
        · rw [List.pairwise_map, ← List.filter_append]
          refine List.Pairwise.imp_of_mem ?_ (List.Pairwise.filter _ (List.pairwise_append.2 ⟨hpw.1, (List.pairwise_cons.1 hpw.2.1).2, fun p hp q hq => hpw.2.2 p hp q (List.mem_cons_of_mem _ hq)⟩))
          intro b c hb hc hbc d hd
          rw [List.filter_append] at hb hc
          rw [hxf c (hTX c hc).1] at hd
          rw [hxf b (hTX b hb).1]
          have := ((hXX c (hTX c hc).1 d (mem_dstG hd)).2 b (hTX b hb).1).resolve_left (by omega)
          exact ⟨this.1, fun e => this.2 (mem_dstG e)⟩
        all_goals
          obtain ⟨b, hb2, rfl⟩ := List.mem_map.1 hb
          obtain ⟨hb, hn⟩ := hTX b hb2
          have k1 := (hXQ b hb).resolve_left hn
          have k2 := hU b ⟨hb, q0, hiQ, hn⟩
          rw [hxf b hb] at *
        · exact k1.1.1
        · exact k2 u (List.mem_append.2 (.inl hu))
        · have k3 := k1.2 d (mem_dstG hd)
          refine ⟨k2 d (List.mem_append.2 (.inr (mem_dstG hd))), (hXX b hb d (mem_dstG hd)).1, fun o ho hu => k3 (List.mem_append.2 (.inl (List.mem_flatMap.2 ⟨o, ho, hu⟩))), fun hu => k3 (List.mem_append.2 (.inr hu))⟩
        · exact k1.1.2 d (mem_dstG hd)
      obtain ⟨v, hv, hs⟩ := past c1 hd0 _ st hlate hr
      have hI : ∀ s, runX P GL sn (((x.filter fun i => !ql.contains i) ++ (y.filter fun i => !ql.contains i)).map xf) s (fun s => ∃ q, Sim q s ∧ chE P GL us (Qr.map (gF gs')) K q) → ∃ Qd Qr, chQ ql p0 p1 = Qd ++ Qr ∧ (∀ q ∈ Qd, q ∉ x ++ y) ∧ (∀ q ∈ Qr, q ∈ x ++ y) ∧ runX P GL sn (((x ++ y).filter fun i => !ql.contains i).map xf) s (chE P GL us (Qr.map (gF gs')) K) := fun s hs =>
        ⟨Qd ++ [q0], Qr, by rw [hQQ]; simp, by grind, fun q hq => by
          have := hQr q (List.mem_cons_of_mem _ hq)
          have := (List.pairwise_cons.1 hpq.2.1).1 q hq
          grind, by
          rw [List.filter_append]
          exact runX_mono _ (fun u ⟨q, hq, hk⟩ => chE_sim hk hq) hs⟩
      have hg := compOps_at hgs' his
      unfold stepH at hs
      split at hs
      · rename_i e
        exact snd_gd (b := true) [] hg (h.sim hv.symm) e (toF_step hs) fun s a' w' q1 q2 => hn s a' w' q1 (hI s q2)
      · rename_i e
        refine snd_gd (b := false) (K := fun s => s = skipI (gAt gs' q0).ins v) [] hg (h.sim hv.symm) e rfl fun s a' w' q1 q2 => hn s a' w' q1 (hI s ?_)
        have e1 : skipI (toF (gAt gs' q0).ins) v = skipI (gAt gs' q0).ins v := by unfold skipI; rw [toF_dst]
        rw [q2, ← e1]; exact hs
      · exact hs.elim
  · have hiX := (memX i).2 ⟨⟨hi.2, hi.1⟩, hdr⟩
    rw [if_pos (by simpa using hdr), List.map_append, List.map_cons] at hr
    obtain ⟨hp, hrun⟩ := toFront _ _ _ st _ h.closed (fun b hb => by
      obtain ⟨j, hj, rfl⟩ := List.mem_map.1 hb
      obtain ⟨hj, hjq⟩ := List.mem_filter.1 hj
      have hjX := (memX j).2 ⟨(q2 j (by simp [hj])).symm, by simpa using hjq⟩
      rw [hxf i hiX, hxf j hjX]
      exact (((hX i hiX).2 j hjX).resolve_left (by have := hxi j hj; omega)).resolve_left (nA i hi.2 hni j (by simp [hj]))) hr
    have hg := compOps_at hgs his
    rw [← hxf i hiX] at hg
    generalize xf i = X0 at hp hrun hg
    have hgo : ∀ s a' w', Res GL n S M w s a' w' → effG GL X0 st = s → nx a' w' := fun s a' w' e1 e2 => hn s a' w' e1 ⟨Qd, Qr, hQQ, by grind, fun q hq => by
      have := hQr q hq
      have : q ≠ i := fun e => hdr (e ▸ ((memQ q).1 (by rw [hQQ]; simp [hq])).2)
      grind, by
      rw [List.filter_append, List.map_append, ← e2]
      exact runX_mono _ (fun u ⟨v, hk, hs⟩ => chE_sim hk hs) hrun⟩
    unfold preG at hp
    unfold effG at hgo
    split at hp
    · exact hp.elim
    · rename_i e
      rw [e] at hgo
      exact snd_gd (b := true) [] hg h e (step_of_pre hp rfl) hgo
    · rename_i e
      rw [e] at hgo
      exact snd_gd (b := false) (K := Eq _) [] hg h e rfl hgo
theorem ckE_iff {n : Nat} (h : ckE (depL ops) ops.size = true) : ∀ i, ∀ d ∈ dep ops i, d < i := fun i d hd => by
  have hi : i < ops.size := by
    rcases Nat.lt_or_ge i ops.size with q | q
    · exact q
    · simp [dep, depL, List.getD_eq_getElem?_getD, q] at hd
  simp only [ckE, List.all_eq_true, List.mem_range, Nat.blt_eq] at h
  exact h i hi d hd
theorem ckA_iff {anc : List (List Nat)} (hE : ∀ i, ∀ d ∈ dep ops i, d < i) (h : ckA (depL ops) anc ops.size = true) : ∀ i, i < ops.size → ∀ j ∈ anc.getD i [], Anc ops i j := by
  simp only [ckA, List.all_eq_true, List.mem_range, List.any_eq_true, Bool.or_eq_true, Nat.beq_eq, List.contains_iff_mem] at h
  intro i
  induction i using Nat.strongRecOn with
  | _ i ih =>
    intro hi j hj l hc hd
    obtain ⟨d, hm, e⟩ := h i hi j hj
    have := hE i d hm
    rcases e with e | e
    · exact e ▸ hd d hm
    · exact ih d this (by omega) j e l hc (hc d (hd d hm))
theorem ckS_iff {p0 p1 : Nat} (h : ckS (depL ops) p0 p1 = true) : ∀ i j, p0 ≤ j → j < i → i < p1 → Anc ops i j := by
  simp only [ckS, List.all_eq_true, List.mem_range, Bool.or_eq_true, Nat.ble_eq, List.contains_iff_mem] at h
  intro i
  induction i with
  | zero => intro j _ h; omega
  | succ i ih =>
    intro j h0 h1 h2 l hc hd
    have := hd i ((h (i + 1) h2).resolve_left (by omega))
    by_cases e : j = i
    · exact e ▸ this
    · exact ih j h0 (by omega) (by omega) l hc (hc i this)
theorem cutI_ir {a b : IR} {j : J} (h : cutI a b = j.ir) : ∃ x y : J, x.ir = a ∧ y.ir = b ∧ ∀ K st, W2 P GL j K st → W2 P GL x (cutK (W2 P GL y) K) st := by
  cases b
  case skip => exact ⟨j, .skip, h.symm, rfl, fun K st h => W2_mono j h fun e s hs => by cases e <;> first | exact ⟨s, .inl rfl, hs⟩ | exact hs⟩
  all_goals
    cases j <;> simp only [cutI, J.ir, reduceCtorEq, IR.cut.injEq] at h
    all_goals
      rename_i x y
      refine ⟨x, y, h.1.symm, h.2.symm, fun K st h => ?_⟩
      first | exact h | exact W2_mono _ h fun e s hs => by cases e <;> first | exact ⟨_, .inr (.inr ⟨_, rfl⟩), hs⟩ | exact hs
theorem snd_pieces {gs gs' : List GI} (hgs : compOps P GL n mg ops = some gs) (hgs' : compOps P GL n mu ops = some gs') (hE : ∀ i, ∀ d ∈ dep ops i, d < i) (hA : ∀ i, i < ops.size → ∀ j ∈ (ancT (depL ops)).getD i [], Anc ops i j)
    {rt : List (Nat × Nat)} {K : Exit → St → Prop} {M : Mem} {w : World} : ∀ (hs : List (List Nat)) (p0 : Nat) (j : J), regC mu true rt ops gs gs' ops.size hs p0 = some j.ir → p0 ≤ ops.size →
      ∀ (l : Array Bool) (s : St) (a : Act) (w' : World), l.size = ops.size → (∀ j, j < ops.size → (l.getD j false = true ↔ j < p0)) → Res GL n S M w s a w' → W2 P GL j K s → wpAnyIn (FR ro) 0 P .any ops (liftQ GL n S M w K) (ops.size - p0) l a w'
  | [], p0, j, hc, h0, l, s, a, w', hz, hl, h, hs => by
    simp only [regC, Nat.ble_eq] at hc
    split at hc
    · cases j <;> simp only [J.ir, reduceCtorEq, Option.some.injEq] at hc
      have e : ops.size - p0 = 0 := by omega
      rw [e]
      refine ⟨List.eq_nil_iff_forall_not_mem.2 fun i hi => ?_, s, hs, h.c⟩
      obtain ⟨h1, h2, _⟩ := ready_iff.1 hi
      rw [getD_tf (by omega), (hl i h1).2 (by omega)] at h2; cases h2
    · cases hc
  | hh :: r, p0, j, hc, h0, l, s, a, w', hz, hl, ⟨M', μ', h, m, k⟩, hs => by
    unfold regC at hc
    simp only [Bool.and_eq_true, Bool.or_eq_true, Nat.ble_eq, Nat.beq_eq] at hc
    generalize endP ops.size hh = p1 at hc
    split at hc
    rotate_left
    · cases hc
    rename_i hp
    obtain ⟨y0, hy, hc⟩ := Option.bind_eq_some_iff.1 hc
    have hp1 : p1 ≤ ops.size := by rcases hp.2 with e | e; exact Nat.le_of_eq e; exact e.1
    have hS : ∀ i, p1 ≤ i → i < ops.size → ∀ j, j < p1 → Anc ops i j := fun i q1 q2 j q3 => by
      rcases hp.2 with e | e
      · omega
      · have := e.2
        simp only [ckB, List.all_eq_true, List.mem_range, Bool.or_eq_true, Nat.blt_eq, List.contains_iff_mem] at this
        exact hA i q2 j ((this i q2).resolve_left (by omega) j q3)
    have fin : ∀ (y : J) (post : List Nat), y.ir = y0 → Fin P GL n S ro ops (liftQ GL n S M w K) M' w' p1 fun s => cutK (W2 P GL y) K .normal (frzNs (slotN post s) s) := fun y post e l a2 w2 q1 q2 ⟨s, ⟨M2, μ2, h2, m2, k2⟩, S', hq, q3⟩ => by
      obtain ⟨M3, h3, m3⟩ := h2.frzNs (slotN post s)
      exact snd_pieces hgs hgs' hE hA r p1 y (e ▸ hy) hp1 l S' a2 w2 q1 q2 ⟨M3, μ2, h3.subQ hq, (m.trans m2).trans m3, k.trans k2⟩ q3
    have out : ∀ {a b : IR} {c : Bool}, (if c = true then some (cutI a b) else none) = some j.ir → c = true ∧ ∃ x y : J, x.ir = a ∧ y.ir = b ∧ W2 P GL x (cutK (W2 P GL y) K) s := fun hc => by
      split at hc
      · rename_i e
        obtain ⟨x, y, e1, e2, e3⟩ := cutI_ir (P := P) (GL := GL) (Option.some.inj hc)
        exact ⟨e, x, y, e1, e2, e3 K s hs⟩
      · cases hc
    unfold pieceI at hc
    split at hc
    · obtain ⟨hk, x, y, e1, e2, hs⟩ := out hc
      cases x <;> simp only [J.ir, reduceCtorEq, IR.reg.injEq] at e1
      subst e1
      exact pieceS hgs' hp.1 hp1 hE hS (ckS_iff hk) (fin y [] e2) hz hl h (by rw [chX_td (by rw [compOps_len hgs']; exact hp1)]; exact hs)
    all_goals
      obtain ⟨hk, x, y, e1, e2, hs⟩ := out hc
      cases x <;> simp only [J.ir, reduceCtorEq, IR.dreg.injEq] at e1
      obtain ⟨rfl, rfl, rfl⟩ := e1
      obtain ⟨l2, hs⟩ := hs
      obtain ⟨M2, h2, m2⟩ := h.frzNs l2
      exact pieceC hgs hgs' hp.1 hp1 hE hS hA hk (fun l a2 w2 q1 q2 q => fin y _ e2 l a2 w2 q1 q2 (q.imp fun s q3 => ⟨Res.trans m2 (Keeps.refl _ _) q3.1, q3.2⟩)) rfl hz hl h2 (by
        first | exact hs | (rw [show chQ [] p0 p1 = [] from List.filter_eq_nil_iff.2 fun _ _ => by simp, List.map_nil, List.append_nil, chX_td (by rw [compOps_len hgs]; exact hp1)]; exact hs))
end
section
variable {P : Program} {GL : List (Nat × List I)} {n : Nat} {S : Sh} {mu : List Nat} {rt : List (Nat × Nat)}
theorem snd_seq {ops : Array Oper} {gs : List GI} (hgs : compOps P GL n mu ops = some gs) {r : Option Nat} {K : Exit → St → Prop} {M : Mem} {w : World} : ∀ (T : List Nat) (s : St) (a : Act) (w' : World), (∀ i ∈ T, i < ops.size) → Res GL n S M w s a w' →
    ev P GL (T.map (gAt gs)) s (K .normal) → wpOpsIn (FR r) 0 P ops (liftQ GL n S M w K) T a w'
  | [], s, a, w', hT, h, hs => ⟨s, hs, h.c⟩
  | i :: T, s, a, w', hT, ⟨M', μ', h, m, k⟩, hs => by
    obtain ⟨b, hb, hs⟩ := ev_gd hs
    rw [wpOpsIn_cons]
    exact snd_gd _ (compOps_at hgs (hT i List.mem_cons_self)) h hb hs fun s a w2 q1 q2 => snd_seq hgs T s a w2 (fun i hi => hT i (List.mem_cons_of_mem _ hi)) (Res.trans m k q1) q2
theorem snd_code {rt : List (Nat × Nat)} {hh : List (Nat × List (List Nat))} : ∀ (c : Code) (r : Option Nat) (j : J), comp P GL n mu true rt hh c = some j.ir → (r = none ∨ rfFree j.ir = true) → ∀ (S : Sh) (K : Exit → St → Prop) (M : Mem) (μ : Place) (st : St) (a : Act) (w : World), Rel GL n S M μ st a w → W2 P GL j K st → c.wpIn (FR r) 0 P (liftQ GL n S M w K) a w := by
  intro c
  induction c with
  | skip =>
    intro r j hc hsf S K M μ st a w h hs
    cases j <;> simp only [comp, J.ir, Option.some.injEq, reduceCtorEq] at hc
    exact wpIn_skip ⟨st, hs, ResC.of h⟩
  | region id ops draw =>
    intro r j hc hsf S K M μ st a w h hs
    unfold comp at hc
    have drew : P.follows .mixedOrders = true → wpAnyIn (FR r) 0 P .any ops (liftQ GL n S M w.drew K) (ops.size - 0) (Array.replicate ops.size false) a w.drew → draw = true → (Code.region id ops draw).wpIn (FR r) 0 P (liftQ GL n S M w K) a w := fun h1 h2 h3 => by
      subst h3
      exact wpIn_mono (wpIn_region_any h1 h2) fun e a' w' ⟨st', hk, S', hg', M', μ', h', hm, hb⟩ => ⟨st', hk, S', hg', M', μ', h', hm, ((Keeps.refl S.p w).drew).trans hb⟩
    have hz : ∀ j, j < ops.size → ((Array.replicate ops.size false).getD j false = true ↔ j < 0) := fun j hj => by simp [hj]
    simp only at hc
    split at hc
    · split at hc
      · rename_i hk
        obtain ⟨gs, hg, e⟩ := Option.map_eq_some_iff.1 hc
        cases j <;> simp only [J.ir, reduceCtorEq, IR.reg.injEq] at e
        subst e
        have hl := compOps_len hg
        cases draw with
        | false => exact wpIn_region (snd_seq hg (List.range ops.size) st a w (fun i hi => List.mem_range.1 hi) (Res.of h) (by have := chX_td (gs := gs) (p0 := 0) (Nat.le_of_eq hl.symm); rw [chX_0, Nat.sub_zero, ← List.range_eq_range', ← hl, List.take_length] at this; rw [← hl, this]; exact hs))
        | true =>
          simp only [Bool.not_true, Bool.false_or, Bool.and_eq_true] at hk
          exact drew hk.1 (pieceS (K := K .normal) hg (Nat.zero_le _) (Nat.le_refl _) (ckE_iff (n := 0) hk.2.1) (fun i h1 h2 => by omega) (ckS_iff hk.2.2) (fun l a w q1 q2 ⟨s, q3, q4⟩ => by
            rw [Nat.sub_self]
            refine ⟨List.eq_nil_iff_forall_not_mem.2 fun i hi => ?_, s, q4, q3.c⟩
            obtain ⟨h1, h2, _⟩ := ready_iff.1 hi
            rw [getD_tf (by omega), (q2 i h1).2 h1] at h2; cases h2) (by simp) hz h.drew (by rw [chX_td (Nat.le_of_eq hl.symm), ← hl, List.take_length]; exact hs)) rfl
      · cases hc
    · cases j <;> simp only [J.ir, Option.some.injEq, reduceCtorEq, IR.reg.injEq] at hc
      subst hc
      exact hs.elim
    · rename_i hne _
      have hd : draw = true := by cases draw with | true => rfl | false => exact (hne rfl).elim
      split at hc
      · rename_i gs gs' hg hg'
        split at hc
        · rename_i hk
          simp only [Bool.and_eq_true] at hk
          have hE := ckE_iff (n := 0) hk.2.1
          exact drew hk.1 (snd_pieces hg hg' hE (ckA_iff hE hk.2.2) _ 0 j hc (Nat.zero_le _) _ st a w.drew (by simp) hz (Res.of h.drew) hs) hd
        · cases hc
      · cases hc
  | seq x y ihx ihy =>
    intro r j hc hsf S K M μ st a w h hs
    simp only [comp] at hc
    split at hc <;> simp only [Option.some.injEq, reduceCtorEq] at hc
    rename_i i1 i2 h1 h2
    obtain ⟨j1, j2, rfl, rfl, hs⟩ : ∃ j1 j2 : J, j1.ir = i1 ∧ j2.ir = i2 ∧ W2 P GL j1 (cutK (W2 P GL j2) K) st := by
      cases j <;> simp only [J.ir, reduceCtorEq, IR.cut.injEq] at hc
      · exact ⟨_, _, hc.1.symm, hc.2.symm, W2_mono _ hs fun e s hs => by cases e <;> first | exact ⟨_, .inr (.inr ⟨_, rfl⟩), hs⟩ | exact hs⟩
      · exact ⟨_, _, hc.1.symm, hc.2.symm, hs⟩
    rw [← hc] at hsf
    simp only [rfFree, Bool.and_eq_true] at hsf
    refine wpIn_seq (wpIn_mono (ihx r _ h1 (hsf.imp_right And.left) S _ M μ st a w h hs) ?_)
    rintro e a' w' ⟨st', hk, hres⟩
    cases e with
    | normal =>
      obtain ⟨S', hg', M', μ', h', hm, hb⟩ := hres
      obtain ⟨T', hT, hk⟩ := hk
      exact wpIn_mono (ihy r _ h2 (hsf.imp_right And.right) S' _ M' μ' T' a' w' (h'.subQ hT) hk) (fun e a'' w'' k => lift_grow hg' hm hb e a'' w'' k)
    | _ => exact ⟨st', hk, hres⟩
  | cond c x y ihx ihy =>
    intro r j hc hsf S K M μ st a w h hs
    simp only [comp] at hc
    split at hc <;> simp only [Option.some.injEq, reduceCtorEq] at hc
    rename_i oc i1 i2 h0 h1 h2
    cases j <;> simp only [J.ir, reduceCtorEq, IR.cond.injEq] at hc
    obtain ⟨rfl, rfl, rfl⟩ := hc
    simp only [J.ir, rfFree, Bool.and_eq_true] at hsf
    have hr := opv_rep h h0
    simp only [W2] at hs
    split at hs
    · rename_i t e
      rw [e] at hr
      have hb := bool_inv (repD_i_inv hr)
      cases t with
      | true => exact wpIn_cond_true hb (ihx r _ h1 (hsf.imp_right And.left) S _ M μ st a w h (hs.1 rfl))
      | false => exact wpIn_cond_false hb (ihy r _ h2 (hsf.imp_right And.right) S _ M μ st a w h (hs.2 rfl))
    · exact hs.elim
  | block id c ih =>
    intro r j hc hsf S K M μ st a w h hs
    simp only [comp, Option.map_eq_some_iff] at hc
    obtain ⟨i1, h1, e⟩ := hc
    cases j <;> simp only [J.ir, reduceCtorEq, IR.block.injEq] at e
    obtain ⟨rfl, rfl⟩ := e
    refine wpIn_block (wpIn_mono (ih r _ h1 hsf S _ M μ st a w h hs) ?_)
    rintro e a' w' ⟨st', hk, hres⟩
    cases e with
    | exit id' =>
      simp only [blockK, Exit.inBlock] at hk ⊢
      split
      all_goals
        rename_i e
        simp only [e] at hk
        exact ⟨st', hk, hres⟩
    | _ => exact ⟨st', hk, hres⟩
  | loop c ih =>
    intro r j hc hsf S K M μ st a w h hs
    simp only [comp, Option.map_eq_some_iff] at hc
    obtain ⟨i1, h1, e⟩ := hc
    cases j <;> simp only [J.ir, reduceCtorEq, IR.loop.injEq] at e
    subst e
    obtain ⟨ι, F, m, i0, hsub, hround⟩ := hs
    refine wpIn_loop_g (α := ι) (fun i a' w' => ResC GL n S M w (F i) a' w') m i0 (ResC.of (h.sub' hsub)) ?_
    rintro i a' w' ⟨S', hg', M', μ', h', hm, hb⟩
    refine wpIn_mono (ih r _ h1 hsf S' _ M' μ' _ a' w' h' (hround i)) ?_
    rintro e a'' w'' ⟨st'', hk, hres⟩
    cases e with
    | normal =>
      obtain ⟨i', hlt, hsub'⟩ := hk
      obtain ⟨S2, g2, M2, μ2, h2, m2, b2⟩ := hres
      exact ⟨i', ResC.trans hg' hm hb ⟨S2, g2, M2, μ2, h2.sub' hsub', m2, b2⟩, hlt⟩
    | _ => exact ⟨st'', hk, hres.trans hg' hm hb⟩
  | exit id =>
    intro r j hc hsf S K M μ st a w h hs
    cases j <;> simp only [comp, J.ir, Option.some.injEq, reduceCtorEq, IR.exit.injEq] at hc
    subst hc
    exact wpIn_exit ⟨st, hs, ResC.of h⟩
  | ret =>
    intro r j hc hsf S K M μ st a w h hs
    cases j <;> simp only [comp, J.ir, Option.some.injEq, reduceCtorEq] at hc
    exact wpIn_ret ⟨st, hs, ResC.of h⟩
  | rangeFunc g ps x y ihx ihy =>
    intro r j hc hsf S K M μ st a w h hs
    simp only [comp] at hc
    split at hc
    · rename_i og ix iy h0 h1 h2
      split at hc
      · rename_i hfree
        cases j <;> simp only [J.ir, reduceCtorEq, Option.some.injEq, IR.rf.injEq] at hc
        obtain ⟨rfl, rfl, rfl, rfl, rfl⟩ := hc
        rcases hsf with rfl | hsf
        · simp only [Bool.and_eq_true, List.all_eq_true, Nat.blt_eq] at hfree
          exact snd_rf h h0 hfree.2 (fun l => ihx (some l) _ h1 (.inr hfree.1.1)) (fun l => ihy (some l) _ h2 (.inr hfree.1.2)) hs
        · simp [rfFree, J.ir] at hsf
      · cases hc
    · cases hc
  | _ => intro r j hc; simp [comp] at hc
end
end Go.Dl
