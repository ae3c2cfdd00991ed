/-
  What the laws of this seat share, part 23: no statement of its own.
-/
import Derived.Test.YtihbaggjjglcbaaGreatDoorJ22
set_option linter.unusedVariables false
set_option linter.unusedSimpArgs false

section
/-
  A data-level logic, second edition: the code does what is said of it.
-/
set_option linter.unusedVariables false
set_option linter.unusedSimpArgs false
namespace Go.Dl
open Go Go.RowKit

/-- A loop with a ghost: the measure is that of the ghost. -/
theorem wp_loop_g {P : Program} {Q : Exit → Act → World → Prop} {a : Act} {w : World} {c : Code} {α : Type} (I : α → Act → World → Prop) (m : α → Nat) (x₀ : α) (h₀ : I x₀ a w)
    (round : ∀ x a w, I x a w → c.wp P (Exit.then (fun a' w' => ∃ x', I x' a' w' ∧ m x' < m x) Q) a w) : (Code.loop c).wp P Q a w := by
  intro b k cs
  have key : ∀ n x a w, m x = n → I x a w → ∃ e a' w', Q e a' w' ∧ Arrives P (lone (b.at a (.code c :: .inLoop c :: k)) cs w) b k cs e a' w' := by
    intro n
    induction n using Nat.strongRecOn with
    | _ n ih =>
      intro x a w hn hI
      obtain ⟨e, a₁, w₁, hq, harr⟩ := round x a w hI b (.inLoop c :: k) cs
      cases e with
      | normal =>
        obtain ⟨x', hI₁, hlt⟩ := hq
        obtain ⟨e₂, a₂, w₂, hq₂, harr₂⟩ := ih (m x') (hn ▸ hlt) x' a₁ w₁ rfl hI₁
        exact ⟨e₂, a₂, w₂, hq₂, .of_steps (Steps.trans harr (.one step_inLoop)) harr₂⟩
      | exit id => exact ⟨_, a₁, w₁, hq, .pass (x := .inLoop c) rfl (fun _ _ => .inl (by simp)) harr⟩
      | goto l => exact ⟨_, a₁, w₁, hq, .pass (x := .inLoop c) rfl (fun _ _ => .inl (by simp)) harr⟩
      | ret => exact ⟨_, a₁, w₁, hq, .pass (x := .inLoop c) rfl (fun _ _ => .inl (by simp)) harr⟩
      | panic ch => exact ⟨_, a₁, w₁, hq, .pass (x := .inLoop c) rfl (fun _ _ => .inl (by simp)) harr⟩
      | outgrown => exact ⟨_, a₁, w₁, hq, .pass (x := .inLoop c) rfl (fun _ _ => .inl (by simp)) harr⟩
  obtain ⟨e, a', w', hq, harr⟩ := key _ x₀ a w rfl h₀
  exact ⟨e, a', w', hq, .of_steps (.one step_loop) harr⟩

section
variable {P : Program} {GL : List (Nat × List I)} {n : Nat} {S : Sh} {mu : List Nat} {rt : List (Nat × Nat)}

theorem wpAny_mono {P : Program} {ops : Array Oper} {Q Q' : Exit → Act → World → Prop} : ∀ {fuel : Nat} {listed : Array Bool} {a : Act} {w : World}, wpAny P .any ops Q fuel listed a w → (∀ e a w, Q e a w → Q' e a w) → wpAny P .any ops Q' fuel listed a w
  | 0, listed, a, w, h, hq => ⟨h.1, hq _ _ _ h.2⟩
  | fuel + 1, listed, a, w, h, hq => ⟨fun hn => hq _ _ _ (h.1 hn), fun i hi => by
      have := h.2 i hi
      unfold wpOp at this ⊢
      split
      · rename_i ho; simp only [ho] at this; exact wpAny_mono this hq
      · rename_i o ho
        simp only [ho] at this
        split
        · rename_i hw
          rw [if_pos hw] at this
          rcases this with h' | ⟨h1, a0, w0, h2⟩
          · exact .inl (wp_mono_next' h' (fun a w hh => wpAny_mono hh hq) hq)
          · exact .inr ⟨h1, a0, w0, hq _ _ _ h2⟩
        · rename_i hw
          rw [if_neg hw] at this
          exact wpAny_mono this hq⟩
theorem lift_mono {M M' : Mem} {μ' : Place} {w w' : World} {st' : St} {a' : Act} {K : Exit → St → Prop} (h : Rel GL n S M' μ' st' a' w') (hm : MExt S M M') (hb : Keeps S w w') (e : Exit) (a'' : Act) (w'' : World)
    (k : liftQ GL n S M' w' K e a'' w'') : liftQ GL n S M w K e a'' w'' := by
  obtain ⟨st'', hk, hr⟩ := k
  exact ⟨st'', hk, hr.trans h hm hb⟩

theorem mapM_len {ops : Array Oper} : ∀ (l : List Oper) (gs : List GI), l.mapM (compG P GL n mu ops) = some gs → gs.length = l.length := by
  intro l
  induction l with
  | nil => intro gs h; simp at h; subst h; rfl
  | cons o l ih =>
    intro gs h
    rw [List.mapM_cons] at h
    cases h1 : compG P GL n mu ops o with
    | none => simp [h1] at h
    | some g =>
      cases h2 : l.mapM (compG P GL n mu ops) with
      | none => simp [h1, h2] at h
      | some gs' => simp [h1, h2] at h; subst h; simp [ih gs' h2]
theorem compOps_len {ops : Array Oper} {gs : List GI} (hgs : compOps P GL n mu ops = some gs) : gs.length = ops.size := by rw [mapM_len _ _ hgs]; simp
theorem compOps_get {ops : Array Oper} {gs : List GI} (hgs : compOps P GL n mu ops = some gs) : ∀ i (hi : i < ops.size), ∃ g, gs[i]? = some g ∧ compG P GL n mu ops ops[i] = some g := by
  have : ∀ (l : List Oper) (gs : List GI), l.mapM (compG P GL n mu ops) = some gs → ∀ i (hi : i < l.length), ∃ g, gs[i]? = some g ∧ compG P GL n mu ops l[i] = some g := by
    intro l
    induction l with
    | nil => intro gs h i hi; simp at hi
    | cons o l ih =>
      intro gs h i hi
      rw [List.mapM_cons] at h
      cases h1 : compG P GL n mu ops o with
      | none => simp [h1] at h
      | some g =>
        cases h2 : l.mapM (compG P GL n mu ops) with
        | none => simp [h1, h2] at h
        | some gs' =>
          simp [h1, h2] at h; subst h
          cases i with
          | zero => exact ⟨g, rfl, h1⟩
          | succ i => obtain ⟨g', e1, e2⟩ := ih gs' h2 i (by simpa using hi); exact ⟨g', by simpa using e1, by simpa using e2⟩
  intro i hi
  obtain ⟨g, e1, e2⟩ := this _ _ hgs i (by simpa using hi)
  exact ⟨g, e1, by simpa using e2⟩

def ClosedL (ops : Array Oper) (listed : Array Bool) : Prop := ∀ k (hk : k < ops.size), listed.getD k false = true → ∀ e ∈ ops[k].after, Region.binds .any e = true → listed.getD e.on false = true
theorem getD_set (listed : Array Bool) (i q : Nat) (hi : i < listed.size) : (listed.setIfInBounds i true).getD q false = (q == i || listed.getD q false) := by
  simp only [Array.getD_eq_getD_getElem?, Array.getElem?_setIfInBounds]
  by_cases e : i = q
  · subst e; simp [hi]
  · simp [e, Ne.symm e]
theorem ClosedL.set {ops : Array Oper} {listed : Array Bool} {i : Nat} (h : ClosedL ops listed) (hi : i < listed.size) (hd : ∀ hi : i < ops.size, ∀ e ∈ ops[i].after, Region.binds .any e = true → listed.getD e.on false = true) : ClosedL ops (listed.setIfInBounds i true) := by
  intro k hk hl e he hb
  rw [getD_set _ _ _ hi] at hl ⊢
  rw [Bool.or_eq_true] at hl ⊢
  rcases hl with hl | hl
  · have := beq_iff_eq.1 hl; subst this
    exact .inr (hd hk e he hb)
  · exact .inr (h k hk hl e he hb)
theorem ancOk_edge {ops : Array Oper} {anc : List (List Nat)} (h : ancOk ops.toList anc = true) : ∀ i (hi : i < ops.size), ∀ e ∈ ops[i].after, Region.binds .any e = true → e.on < i := fun i hi e he hb => by
  unfold ancOk at h
  rw [List.all_eq_true] at h
  have := h i (by simpa using hi)
  simp only [Array.getElem?_toList, Array.getElem?_eq_getElem hi, Bool.and_eq_true, Array.all_eq_true_iff_forall_mem] at this
  have := this.1 e he
  simpa [hb] using this
theorem anc_listed {ops : Array Oper} {anc : List (List Nat)} {listed : Array Bool} (h : ancOk ops.toList anc = true) (hcl : ClosedL ops listed) : ∀ i (hi : i < ops.size), (∀ e ∈ ops[i].after, Region.binds .any e = true → listed.getD e.on false = true) →
    ∀ j ∈ anc.getD i [], listed.getD j false = true := by
  intro i
  induction i using Nat.strongRecOn with
  | _ i ih =>
    intro hi hd j hj
    have h0 := h
    unfold ancOk at h
    rw [List.all_eq_true] at h
    have := h i (by simpa using hi)
    simp only [Array.getElem?_toList, Array.getElem?_eq_getElem hi, Bool.and_eq_true, List.all_eq_true] at this
    have := this.2 j hj
    rw [← Array.any_toList, List.any_eq_true] at this
    obtain ⟨e, he, hb⟩ := this
    have he := Array.mem_toList_iff.1 he
    simp only [Bool.and_eq_true, Bool.or_eq_true, beq_iff_eq] at hb
    have hl := hd e he hb.1
    rcases hb.2 with e1 | e1
    · rw [← e1]; exact hl
    · have hlt := ancOk_edge h0 i hi e he hb.1
      exact ih e.on hlt (by omega) (hcl e.on (by omega) hl) j (List.contains_iff_mem.1 e1)

theorem ready_mem {ops : Array Oper} {listed : Array Bool} {i : Nat} (h : i ∈ Region.ready .any ops listed) : i < ops.size ∧ listed.getD i true = false ∧ ∃ o, ops[i]? = some o ∧ ∀ e ∈ o.after, Region.binds .any e = true → listed.getD e.on false = true := by
  simp only [Region.ready, List.mem_filter, List.mem_range, Bool.and_eq_true, Bool.not_eq_true'] at h
  obtain ⟨h1, h2, h3⟩ := h
  refine ⟨h1, h2, ?_⟩
  cases ho : ops[i]? with
  | none => simp [ho] at h3
  | some o =>
    simp only [ho, Option.map_some, Option.getD_some] at h3
    refine ⟨o, rfl, fun e he hb => ?_⟩
    rw [Array.all_eq_true_iff_forall_mem] at h3
    have := h3 e he
    simpa [hb] using this

theorem snd_any {ops : Array Oper} {gs : List GI} {sn : List Nat} {K : Exit → St → Prop} (hgs : compOps P GL n (List.range n) ops = some gs) (hok : drOk ops.toList gs = true) (xs : List X) (hxs : xs.map (·.1) = gs) :
    ∀ (fuel : Nat) (listed : Array Bool) (M : Mem) (μ : Place) (st : St) (a : Act) (w : World), listed.size = ops.size → ClosedL ops listed → ((List.range ops.size).filter fun i => !listed.getD i true).length = fuel → Rel GL n S M μ st a w →
      runX P GL sn (((List.range ops.size).filter fun i => !listed.getD i true).map fun i => xs.getD i (⟨none, .mov 0 (.t 0)⟩, none)) st (fun u => ∃ v, K .normal v ∧ Sim v u) → wpAny P .any ops (liftQ GL n S M w K) fuel listed a w := by
  have hlen := compOps_len hgs
  have hget := compOps_get hgs
  have hxl : xs.length = ops.size := by have := congrArg List.length hxs; simpa [hlen] using this
  have hx : ∀ i (hi : i < ops.size) g, gs[i]? = some g → (xs.getD i (⟨none, .mov 0 (.t 0)⟩, none)).1 = g := fun i hi g hg => by
    have h1 : (xs.map (·.1))[i]? = (gs)[i]? := by rw [hxs]
    rw [List.getElem?_map, hg, List.getElem?_eq_getElem (by omega)] at h1
    simp only [Option.map_some, Option.some.injEq] at h1
    rw [List.getD_eq_getElem?_getD, List.getElem?_eq_getElem (by omega)]
    exact h1
  obtain ⟨hok1, hok2⟩ : ancOk ops.toList (ancL ops.toList) = true ∧ _ := by unfold drOk at hok; exact Bool.and_eq_true_iff.1 hok
  generalize ancL ops.toList = anc at hok1 hok2
  have hedge := ancOk_edge hok1
  have hchk : ∀ i (hi : i < ops.size) g, gs[i]? = some g → ∀ j, j < i → j ∈ anc.getD i [] ∨ ∃ h, gs[j]? = some h ∧ indep h g = true := fun i hi g hg j hj => by
    rw [List.all_eq_true] at hok2
    have := hok2 i (by simpa using hi)
    simp only [hg, List.all_eq_true, List.mem_range] at this
    have := this j hj
    rw [Bool.or_eq_true] at this
    rcases this with h | h
    · exact .inl (List.contains_iff_mem.1 h)
    · cases hj' : gs[j]? with
      | none => simp [hj'] at h
      | some h' => simp only [hj'] at h; exact .inr ⟨h', rfl, h⟩
  intro fuel
  induction fuel with
  | zero =>
    intro listed M μ st a w hsz hcl hf h hr
    have hnil := List.eq_nil_of_length_eq_zero hf
    rw [hnil] at hr
    obtain ⟨v, hk, hs⟩ := hr
    refine ⟨?_, v, hk, M, μ, h.sim hs.symm, MExt.refl _ _, Keeps.refl _ _⟩
    rw [List.eq_nil_iff_forall_not_mem]
    intro i hi
    obtain ⟨h1, h2, _⟩ := ready_mem hi
    have : i ∈ (List.range ops.size).filter fun i => !listed.getD i true := by simp [h1]; simpa using h2
    rw [hnil] at this; cases this
  | succ fuel ih =>
    intro listed M μ st a w hsz hcl hf h hr
    generalize hT : ((List.range ops.size).filter fun i => !listed.getD i true) = T at hf hr
    have hsorted : T.Pairwise (· < ·) := by rw [← hT]; exact List.Pairwise.filter _ (List.pairwise_lt_range)
    have hmem : ∀ i, i ∈ T ↔ i < ops.size ∧ listed.getD i true = false := fun i => by rw [← hT]; simp
    refine ⟨fun hnil => ?_, fun i hi => ?_⟩
    · exfalso
      cases T with
      | nil => simp at hf
      | cons i0 T' =>
        have h0 := (hmem i0).1 (by simp)
        obtain ⟨g, hg, _⟩ := hget i0 h0.1
        have : i0 ∈ Region.ready .any ops listed := by
          simp only [Region.ready, List.mem_filter, List.mem_range, Bool.and_eq_true, Bool.not_eq_true']
          refine ⟨h0.1, h0.2, ?_⟩
          simp only [Array.getElem?_eq_getElem h0.1, Option.map_some, Option.getD_some, Array.all_eq_true_iff_forall_mem]
          intro e he
          cases hb : Region.binds .any e with
          | false => rfl
          | true =>
            have hlt := hedge i0 h0.1 e he hb
            simp only [Bool.not_true, Bool.false_or]
            cases hl : listed.getD e.on false with
            | true => rfl
            | false =>
              exfalso
              have hle : e.on < listed.size := by omega
              have hin : e.on ∈ i0 :: T' := (hmem e.on).2 ⟨by omega, by simpa [hle] using hl⟩
              rcases List.mem_cons.1 hin with e1 | e1
              · omega
              · have := (List.pairwise_cons.1 hsorted).1 _ e1; omega
        rw [hnil] at this; cases this
    · obtain ⟨hi1, hi2, o, ho, hdeps⟩ := ready_mem hi
      obtain ⟨g, hg, hcg⟩ := hget i hi1
      have hoe : ops[i] = o := by rw [Array.getElem?_eq_getElem hi1] at ho; exact Option.some.inj ho
      obtain ⟨l, r, hlr⟩ := List.append_of_mem ((hmem i).2 ⟨hi1, hi2⟩)
      rw [hlr] at hr hsorted
      have hbefore : ∀ x ∈ l, x < i := fun x hx => (List.pairwise_append.1 hsorted).2.2 x hx i (by simp)
      rw [List.map_append, List.map_cons] at hr
      have hind : ∀ x ∈ l.map (fun i => xs.getD i (⟨none, .mov 0 (.t 0)⟩, none)), indep x.1 (xs.getD i (⟨none, .mov 0 (.t 0)⟩, none)).1 = true := by
        intro x hx'
        obtain ⟨j, hj, rfl⟩ := List.mem_map.1 hx'
        have hji := hbefore j hj
        have hjT := (hmem j).1 (by rw [hlr]; simp [hj])
        rcases hchk i hi1 g hg j hji with hanc | ⟨hh, h1, h2⟩
        · exfalso
          have := anc_listed hok1 hcl i hi1 (by rw [hoe]; exact hdeps) j hanc
          have hjs : j < listed.size := by omega
          have h3 := hjT.2
          simp only [Array.getD_eq_getD_getElem?, Array.getElem?_eq_getElem hjs, Option.getD_some] at this h3
          rw [this] at h3; cases h3
        · rw [hx i hi1 g hg, hx j (by omega) hh h1]; exact h2
      obtain ⟨hp, hrun⟩ := toFront _ _ _ st _ h.closed hind hr
      have hrem : ((List.range ops.size).filter fun q => !(listed.setIfInBounds i true).getD q true) = l ++ r := by
        have : ((List.range ops.size).filter fun q => !(listed.setIfInBounds i true).getD q true) = T.filter (fun q => q != i) := by
          rw [← hT, List.filter_filter]
          apply List.filter_congr
          intro q hq
          simp only [List.mem_range] at hq
          have hqs : q < listed.size := by omega
          simp only [Array.getD_eq_getD_getElem?, Array.getElem?_setIfInBounds]
          by_cases e : i = q
          · subst e; simp [hqs]
          · simp [e, Ne.symm e]
        rw [this, hlr, List.filter_append, List.filter_cons]
        have n1 : l.filter (fun q => q != i) = l := List.filter_eq_self.2 (fun q hq => by have := hbefore q hq; simp; omega)
        have n2 : r.filter (fun q => q != i) = r := List.filter_eq_self.2 (fun q hq => by
          have := (List.pairwise_cons.1 (List.pairwise_append.1 hsorted).2.1).1 q hq; simp; omega)
        rw [n1, n2]; simp
      have hfl : ((List.range ops.size).filter fun q => !(listed.setIfInBounds i true).getD q true).length = fuel := by
        rw [hrem]; have : T.length = fuel + 1 := hf; rw [hlr] at this; simp at this ⊢; omega
      have next : ∀ (st' : St) (M' : Mem) (μ' : Place) (a' : Act) (w' : World), Rel GL n S M' μ' st' a' w' → MExt S M M' → Keeps S w w' → st' = effG GL (xs.getD i (⟨none, .mov 0 (.t 0)⟩, none)) st →
          wpAny P .any ops (liftQ GL n S M w K) fuel (listed.setIfInBounds i true) a' w' := fun st' M' μ' a' w' h' hm hb e => by
        subst e
        have := ih (listed.setIfInBounds i true) M' μ' _ a' w' (by simpa using hsz) (hcl.set (by omega) (fun _ => by rw [hoe]; exact hdeps)) hfl h' (by
          rw [hrem, List.map_append]
          refine runX_mono _ ?_ hrun
          rintro u ⟨v, ⟨v', hk, hs⟩, hs'⟩
          exact ⟨v', hk, hs.trans hs'⟩)
        refine wpAny_mono this (fun e a'' w'' k => lift_mono h' hm hb e a'' w'' k)
      unfold wpOp
      rw [ho]
      simp only
      have hxg := hx i hi1 g hg
      generalize xs.getD i (⟨none, .mov 0 (.t 0)⟩, none) = X0 at hp next hxg
      rw [hoe] at hcg
      unfold preG at hp
      have hgd0 : gdOf X0.1.gd st = gdOf g.gd st := by rw [hxg]
      have hin : X0.1.ins = g.ins := by rw [hxg]
      cases hgd : gdOf g.gd st with
      | none => rw [hgd0, hgd] at hp; exact hp.elim
      | some b =>
        have hw := gd_wanted h hcg hgd
        obtain ⟨hins, hdst⟩ := compG_ins hcg
        cases b with
        | true =>
          rw [if_pos hw]
          rw [hgd0, hgd, hin] at hp
          refine .inl (Oper.wp_mono ?_ (snd_opN h hins (step_of_pre (K := fun s => s = effI GL g.ins X0.2 st) hp rfl)))
          rintro a' w' ⟨st', rfl, M', μ', h', hm, hb⟩
          refine next _ M' μ' a' w' h' hm hb ?_
          unfold effG; rw [hgd0, hgd, hin]
        | false =>
          rw [if_neg (by rw [hw]; simp)]
          obtain ⟨hdd, hdn⟩ := hdst (fun e => by rw [e] at hgd; simp [gdOf] at hgd)
          refine next _ M μ _ w (skip_rel h hdd hdn) (MExt.refl _ _) (Keeps.refl _ _) ?_
          unfold effG; rw [hgd0, hgd, hin]

theorem soOk_edge {ops : Array Oper} (h : soOk ops.toList = true) : ∀ i (hi : i < ops.size), (∀ e ∈ ops[i].after, Region.binds .any e = true → e.on < i) ∧ (i = 0 ∨ ∃ e ∈ ops[i].after, Region.binds .any e = true ∧ e.on + 1 = i) := fun i hi => by
  unfold soOk at h
  rw [List.all_eq_true] at h
  have := h i (by simpa using hi)
  simp only [Array.getElem?_toList, Array.getElem?_eq_getElem hi, Bool.and_eq_true, Array.all_eq_true_iff_forall_mem, Bool.or_eq_true, beq_iff_eq] at this
  refine ⟨fun e he hb => by have := this.1 e he; simpa [hb] using this, ?_⟩
  rcases this.2 with e | e
  · exact .inl e
  · rw [← Array.any_toList, List.any_eq_true] at e
    obtain ⟨e, he, hb⟩ := e
    simp only [Bool.and_eq_true, beq_iff_eq] at hb
    exact .inr ⟨e, Array.mem_toList_iff.1 he, hb.1, hb.2⟩

/-- A region with one order alone. -/
theorem snd_so {ops : Array Oper} {gs : List GI} {K : Exit → St → Prop} (hgs : compOps P GL n mu ops = some gs) (hok : soOk ops.toList = true) :
    ∀ (fuel k : Nat) (listed : Array Bool) (M : Mem) (μ : Place) (st : St) (a : Act) (w : World), listed.size = ops.size → k + fuel = ops.size → (∀ j, j < ops.size → listed.getD j false = decide (j < k)) → Rel GL n S M μ st a w →
      ev P GL (gs.drop k) st (K .normal) → wpAny P .any ops (liftQ GL n S M w K) fuel listed a w := by
  have hlen := compOps_len hgs
  have hget := compOps_get hgs
  have hedge := soOk_edge hok
  intro fuel
  induction fuel with
  | zero =>
    intro k listed M μ st a w hsz hf hl h hs
    rw [List.drop_eq_nil_of_le (by omega)] at hs
    refine ⟨?_, st, hs, Res.of h⟩
    rw [List.eq_nil_iff_forall_not_mem]
    intro i hi
    obtain ⟨h1, h2, _⟩ := ready_mem hi
    have h3 := hl i h1
    have : i < listed.size := by omega
    simp only [Array.getD_eq_getD_getElem?, Array.getElem?_eq_getElem this, Option.getD_some] at h2 h3
    rw [h2] at h3
    have := of_decide_eq_false h3.symm
    omega
  | succ fuel ih =>
    intro k listed M μ st a w hsz hf hl h hs
    have hk : k < ops.size := by omega
    have hready : ∀ i, i ∈ Region.ready .any ops listed → i = k := fun i hi => by
      obtain ⟨h1, h2, o, ho, hd⟩ := ready_mem hi
      have h3 := hl i h1
      have : i < listed.size := by omega
      simp only [Array.getD_eq_getD_getElem?, Array.getElem?_eq_getElem this, Option.getD_some] at h2 h3
      rw [h2] at h3
      have hge := of_decide_eq_false h3.symm
      rcases (hedge i h1).2 with e | ⟨e, he, hb, e1⟩
      · omega
      · have hoe : ops[i] = o := by rw [Array.getElem?_eq_getElem h1] at ho; exact Option.some.inj ho
        have := hd e (hoe ▸ he) hb
        rw [hl e.on (by omega)] at this
        have := of_decide_eq_true this
        omega
    have hkin : k ∈ Region.ready .any ops listed := by
      simp only [Region.ready, List.mem_filter, List.mem_range, Bool.and_eq_true, Bool.not_eq_true']
      have hks : k < listed.size := by omega
      refine ⟨hk, ?_, ?_⟩
      · have := hl k hk
        simp only [Array.getD_eq_getD_getElem?, Array.getElem?_eq_getElem hks, Option.getD_some] at this ⊢
        rw [this]; simp
      · simp only [Array.getElem?_eq_getElem hk, Option.map_some, Option.getD_some, Array.all_eq_true_iff_forall_mem]
        intro e he
        cases hb : Region.binds .any e with
        | false => rfl
        | true =>
          have hlt := (hedge k hk).1 e he hb
          simp only [Bool.not_true, Bool.false_or]
          rw [hl e.on (by omega)]; simpa using hlt
    refine ⟨fun hnil => (by rw [hnil] at hkin; cases hkin), fun i hi => ?_⟩
    obtain rfl := hready i hi
    obtain ⟨g, hg, hcg⟩ := hget i hk
    have hdrop : gs.drop i = g :: gs.drop (i + 1) := by
      have : i < gs.length := by omega
      rw [List.drop_eq_getElem_cons this]
      congr 1
      rw [List.getElem?_eq_getElem this] at hg; exact Option.some.inj hg
    rw [hdrop] at hs
    have next : ∀ a' w', Goal GL n S M w (fun s => ev P GL (gs.drop (i + 1)) s (K .normal)) a' w' → wpAny P .any ops (liftQ GL n S M w K) fuel (listed.setIfInBounds i true) a' w' := by
      rintro a' w' ⟨st', hs', M', μ', h', hm, hb⟩
      refine wpAny_mono (ih (i + 1) _ M' μ' st' a' w' (by simpa using hsz) (by omega) (fun j hj => ?_) h' hs') (fun e a'' w'' k => lift_mono h' hm hb e a'' w'' k)
      rw [getD_set _ _ _ (by omega), hl j hj]
      rw [Bool.eq_iff_iff]; simp; omega
    unfold wpOp
    rw [Array.getElem?_eq_getElem hk]
    simp only
    rcases snd_one (Q := liftQ GL n S M w K) hcg h (ev_cons.1 hs) with ⟨hw, h2⟩ | ⟨hw, h2⟩
    · rw [if_pos hw]
      exact .inl (wp_mono_next' h2 next (fun _ _ _ h => h))
    · rw [if_neg (by rw [hw]; simp)]
      exact next _ _ h2

theorem Rel.drew {M : Mem} {μ : Place} {st : St} {a : Act} {w : World} (h : Rel GL n S M μ st a w) : Rel GL n S M μ st a w.drew :=
  h.of h.toStoOk.drew (Mem.le_refl _) fun _ _ hv => hv

theorem mapM_range {α β : Type} (f : α → Option β) (xs : Array α) : ((List.range xs.size).mapM fun i => (xs[i]?).bind f) = xs.toList.mapM f := by
  have key : ∀ (l : List α) (pre : List α), ((List.range' pre.length l.length).mapM fun i => ((pre ++ l)[i]?).bind f) = l.mapM f := by
    intro l
    induction l with
    | nil => intro pre; rfl
    | cons x l ih =>
      intro pre
      have := ih (pre ++ [x])
      simp only [List.append_assoc, List.singleton_append, List.length_append, List.length_singleton] at this
      rw [List.length_cons, List.range'_succ, List.mapM_cons, List.mapM_cons, this]
      simp
  have := key xs.toList []
  simpa [List.range_eq_range'] using this

theorem snd_code : ∀ (c : Code) (ir : IR), comp P GL n mu rt c = some ir → ∀ (K : Exit → St → Prop) (M : Mem) (μ : Place) (st : St) (a : Act) (w : World), Rel GL n S M μ st a w → W P GL ir K st → c.wp P (liftQ GL n S M w K) a w := by
  intro c
  induction c with
  | skip =>
    intro ir hc K M μ st a w h hs
    simp [comp] at hc; subst hc
    exact wp_skip ⟨st, hs, M, μ, h, MExt.refl _ _, Keeps.refl _ _⟩
  | region id ops draw =>
    intro ir hc K M μ st a w h hs
    simp only [comp] at hc
    split at hc
    · rename_i hd
      subst hd
      unfold compD at hc
      split at hc
      · rename_i hmix
        split at hc
        · rename_i hso
          cases hg : compOps P GL n mu ops with
          | none => simp [hg] at hc
          | some gs =>
            simp [hg] at hc; subst hc
            refine wp_mono (wp_region_any (Q := liftQ GL n S M w.drew K) hmix ?_) ?_
            · exact snd_so hg hso ops.size 0 (Array.replicate ops.size false) M μ st a w.drew (by simp) (by omega) (fun j hj => by simp [hj]) h.drew hs
            · rintro e a' w' ⟨st', hk, M', μ', h', hm, hb⟩
              exact ⟨st', hk, M', μ', h', hm, ((Keeps.refl S w).drew).trans hb⟩
        · split at hc
          · rename_i gs hgs
            split at hc
            · rename_i hcond
              cases hc
              generalize List.filter _ (stored gs) = post at hs
              obtain ⟨l, hs⟩ := hs
              obtain ⟨M1, h1, m1⟩ := h.frzNs l
              obtain ⟨xs, hxs, hrun⟩ := run_of_evD _ _ _ hs
              refine wp_mono (wp_region_any (Q := liftQ GL n S M1 w.drew (fun e s => e = Exit.normal ∧ K .normal (frzNs (slotN post s) s))) hmix ?_) ?_
              · refine snd_any (S := S) (K := fun e s => e = Exit.normal ∧ K .normal (frzNs (slotN post s) s)) hgs hcond xs hxs ops.size (Array.replicate ops.size false) M1 μ _ a w.drew (by simp) (fun k hk hl => by simp [hk] at hl) (by
                  rw [List.filter_eq_self.2]
                  · simp
                  · intro i hi
                    simp only [List.mem_range] at hi
                    simp [hi]) h1.drew (by
                  rw [List.filter_eq_self.2 (fun i hi => by simp only [List.mem_range] at hi; simp [hi])]
                  have e : (List.range ops.size).map (fun i => xs.getD i (⟨none, .mov 0 (.t 0)⟩, none)) = xs := by
                    have hl : xs.length = ops.size := by
                      have h1 := congrArg List.length hxs
                      have h2 := compOps_len hgs
                      simpa [h2] using h1
                    rw [← hl]
                    apply List.ext_getElem
                    · simp
                    · intro i h1 h2
                      simp [h2]
                  rw [e]
                  exact runX_mono xs (fun u hu => ⟨u, ⟨rfl, hu⟩, Sim.refl u⟩) hrun)
              · rintro e a' w' ⟨st', ⟨rfl, hk⟩, M', μ', h', hm, hb⟩
                obtain ⟨M2, h2, m2⟩ := h'.frzNs (slotN post st')
                exact ⟨_, hk, M2, μ', h2, (m1.trans hm).trans m2, ((Keeps.refl S w).drew).trans hb⟩
            · cases hc
          · cases hc
      · cases hc
    · rename_i hd
      obtain rfl : draw = false := by simpa using hd
      cases hg : compOps P GL n mu ops with
      | none => simp [hg] at hc
      | some gs =>
        simp [hg] at hc; subst hc
        refine wp_region (snd_ops (mu := mu) (List.range ops.size) gs M μ st a w ?_ h hs)
        rw [mapM_range]; exact hg
  | seq x y ihx ihy =>
    intro ir hc K M μ st a w h hs
    simp only [comp] at hc
    split at hc <;> cases hc
    rename_i i1 i2 h1 h2
    refine wp_seq (wp_mono (ihx _ h1 _ M μ st a w h hs) ?_)
    rintro e a' w' ⟨st', hk, hres⟩
    cases e with
    | normal =>
      obtain ⟨M', μ', h', hm, hb⟩ := hres
      rcases hk with hk | ⟨S', hS, hk⟩ | ⟨ks, hk⟩
      · exact wp_mono (ihy _ h2 _ M' μ' st' a' w' h' hk) (fun e a'' w'' k => lift_mono h' hm hb e a'' w'' k)
      · have h'' := h'.sub' hS
        exact wp_mono (ihy _ h2 _ M' μ' S' a' w' h'' hk) (fun e a'' w'' k => lift_mono h'' hm hb e a'' w'' k)
      · have h'' := h'.prn ks
        exact wp_mono (ihy _ h2 _ M' μ' _ a' w' h'' hk) (fun e a'' w'' k => lift_mono h'' hm hb e a'' w'' k)
    | _ => exact ⟨st', hk, hres⟩
  | cond c x y ihx ihy =>
    intro ir hc K M μ st a w h hs
    simp only [comp] at hc
    split at hc <;> cases hc
    rename_i oc i1 i2 h0 h1 h2
    have hr := opv_rep h h0
    simp only [W] at hs
    split at hs
    · rename_i t e
      rw [e] at hr
      have hb := bool_inv (repD_i_inv hr)
      cases t with
      | true => exact wp_cond_true hb (ihx _ h1 _ M μ st a w h (hs.1 rfl))
      | false => exact wp_cond_false hb (ihy _ h2 _ M μ st a w h (hs.2 rfl))
    · exact hs.elim
  | block id c ih =>
    intro ir hc K M μ st a w h hs
    simp only [comp, Option.map_eq_some_iff] at hc
    obtain ⟨i1, h1, rfl⟩ := hc
    refine wp_block (wp_mono (ih _ h1 _ M μ st a w h hs) ?_)
    rintro e a' w' ⟨st', hk, hres⟩
    cases e with
    | exit id' =>
      simp only [blockK] at hk
      simp only [Exit.inBlock]
      split
      · rename_i e; rw [if_pos e] at hk; exact ⟨st', hk, hres⟩
      · rename_i e; rw [if_neg e] at hk; exact ⟨st', hk, hres⟩
    | _ => exact ⟨st', hk, hres⟩
  | loop c ih =>
    intro ir hc K M μ st a w h hs
    simp only [comp, Option.map_eq_some_iff] at hc
    obtain ⟨i1, h1, rfl⟩ := hc
    obtain ⟨ι, F, m, i0, hsub, hround⟩ := hs
    refine wp_loop_g (α := ι) (fun i a' w' => Res GL n S M w (F i) a' w') m i0 ⟨M, μ, h.sub' hsub, MExt.refl _ _, Keeps.refl _ _⟩ ?_
    rintro i a' w' ⟨M', μ', h', hm, hb⟩
    refine wp_mono (ih _ h1 _ M' μ' _ a' w' h' (hround i)) ?_
    rintro e a'' w'' ⟨st'', hk, hres⟩
    cases e with
    | normal =>
      obtain ⟨i', hlt, hsub'⟩ := hk
      obtain ⟨M2, μ2, h2, m2, b2⟩ := hres
      exact ⟨i', ⟨M2, μ2, h2.sub' hsub', hm.trans m2, hb.trans b2⟩, hlt⟩
    | _ => exact ⟨st'', hk, hres.trans h' hm hb⟩
  | exit id =>
    intro ir hc K M μ st a w h hs
    simp [comp] at hc; subst hc
    exact wp_exit ⟨st, hs, M, μ, h, MExt.refl _ _, Keeps.refl _ _⟩
  | ret =>
    intro ir hc K M μ st a w h hs
    simp [comp] at hc; subst hc
    exact wp_ret ⟨st, hs, M, μ, h, MExt.refl _ _, Keeps.refl _ _⟩
  | _ => intro ir hc; simp [comp] at hc

end
end Go.Dl
end
