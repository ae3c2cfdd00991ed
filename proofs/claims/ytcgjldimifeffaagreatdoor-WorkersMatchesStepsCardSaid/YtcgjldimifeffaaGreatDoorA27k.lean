/- A part of the proofs of WorkersExclude and WorkersMatchesSteps: A27k. -/
import Derived.Test.YtcgjldimifeffaaGreatDoorT1
import Derived.Test.YtcgjldimifeffaaGreatDoorA27s
set_option linter.all false
/-
  A data-level logic, third edition: whole walks as lemmas (the steps stand in an autoParam). `refine Ka (cj fact contract) (cj ?_ ?_)`: facts and contracts on the left, the leaves on the right.
-/
namespace Go.Dl
open Go Go.RowKit Go.As
theorem lT {P : Program} {GL : List (Nat × List I)} {body : J} {K : Exit → St → Prop} {e : Env} {s : List (Nat × Blk)} {ι : Type} (ks : List Nat) {bs : List (Nat × D)} (C : ι → List (Nat × D)) (B : ι → List (Nat × Blk)) (I : ι → Prop) (m : ι → Nat) (k : ι)
    (round : ∀ i, I i → W2 P GL body (roundH (fun i => ⟨.l (C i ++ bs), B i⟩) I m i K) ⟨.l (C i ++ bs), B i⟩) (hi : I k := by first | omega | simp) (hb : snap e ks = bs := by (simp only [V0, V1, V2, V25, reduceIte, Nat.reduceEqDiff]; rfl)) (h0 : Sub ⟨.l (C k ++ bs), B k⟩ ⟨e, s⟩ := by simp [V0, V1, V2, V11, V8, V15, Ref.nm, D.nms, inS]; try exact ⟨rfl, rfl⟩) : W2 P GL (.lp body) K ⟨e, s⟩ := loopT ks hb C B I m k hi h0 round
theorem lS {P : Program} {GL : List (Nat × List I)} {body : J} {K : Exit → St → Prop} {e : Env} {s : List (Nat × Blk)} (ks : List Nat) {bs : List (Nat × D)} (C : Nat → List (Nat × D)) (B : Nat → List (Nat × Blk)) (I : Nat → Prop) (n : Nat)
    (round : ∀ i, i ≤ n → I i → W2 P GL body (roundI (fun i => ⟨.l (C i ++ bs), B i⟩) I n i K) ⟨.l (C i ++ bs), B i⟩) (hi : I 0 := by first | omega | simp) (hb : snap e ks = bs := by (simp only [V0, V1, V2, V25, reduceIte, Nat.reduceEqDiff]; rfl)) (h0 : Sub ⟨.l (C 0 ++ bs), B 0⟩ ⟨e, s⟩ := by simp [V0, V1, V2, V11, V8, V15, Ref.nm, D.nms, inS]; try exact ⟨rfl, rfl⟩) : W2 P GL (.lp body) K ⟨e, s⟩ := loopS ks hb C B I n 0 (Nat.zero_le _) hi h0 round
structure Kq (q : Prop) : Prop where
  o : q
def Tg (_ : Unit) (c : Prop) : Prop := c
theorem Tg.mk (m : Unit) {c : Prop} (h : c) : Tg m c := h
theorem tgU (p : Prop) : (Unit → p) = p := propext ⟨fun h => h (), fun h _ => h⟩
theorem Ky {p q : Prop} (k : Kq q) (h : q → p := by
  intro k
  with_reducible (repeat first | exact And.left k | exact k | replace k := And.right k)
  done) : p := h k.o
theorem Kx {P : Program} {GL : List (Nat × List I)} {f : FuncId} {xs : List I} {y : I} {st : St} {d : Option Nat} {K : St → Prop} {A : Prop} (a : A) (k : K (putO st d (.i y))) (h : A → Is1 P GL f (xs.map .i) y := by
  intro b
  (repeat first | (apply And.left b <;> first | assumption | omega | exact getD_mem (by omega)) | (apply b <;> first | assumption | omega | exact getD_mem (by omega)) | replace b := @And.right _ _ b)
  done) : callL P GL f xs st d K := callL_of (h a) k
theorem Ka {A p q : Prop} (a : A) (k : q) (h : A → Unit → Kq q → p := by
  intro a m k
  repeat' first
    | exact hole _
    | with_reducible rfl
    | simp (disch := omega) only [go_sem, simprocAttr, a]
    | refine' gdV_S (fun hq => ?_) (fun f => ?_) <;> try (have hq' := hq; try simp only [HB] at hq')
    | refine' gdD_S (fun hq => ?_) (fun f => ?_) <;> try (have hq' := hq; try simp only [HB] at hq')
    | refine Sx.s ?_ ?_ <;> try (intro h; have h' := h; (try simp only [HB] at h'); have h1 := Tg.mk m h; have h1' := Tg.mk m h'; try rewrite [h]; try simp only [h])
    | refine Kx @a ?_
    | refine ct_I ?_
    | refine callG_Iv ?_ ?_
    | refine drJ_I ?_
    | refine Sz.s ?_
    | (refine And.intro ?_ ?_; focus omega)
    | omega
    | fail
  all_goals first
    | (clear m; exact Ky k)
    | (revert m; simp only [Tg, tgU]; exact Ky k)) : p := h a () ⟨k⟩
theorem Kas {A p q : Prop} (a : A) (k : q) (h : A → Unit → Kq q → p := by
  intro a m k
  repeat' first
    | exact hole _
    | with_reducible rfl
    | simp (disch := omega) only [go_sem, simprocAttr, ne_eq, not_true_eq_false, not_false_eq_true, decide_true, decide_false, Nat.sub_zero, Nat.zero_add, List.map_nil, List.map_cons, List.length_map, beq_self_eq_true, if_true, if_false, Bool.false_eq_true, a]
    | refine' gdV_S (fun hq => ?_) (fun f => ?_) <;> try (have hq' := hq; try simp only [HB] at hq')
    | refine' gdD_S (fun hq => ?_) (fun f => ?_) <;> try (have hq' := hq; try simp only [HB] at hq')
    | refine Sx.s ?_ ?_ <;> try (intro h; have h' := h; (try simp only [HB] at h'); have h1 := Tg.mk m h; have h1' := Tg.mk m h'; try rewrite [h]; try simp only [h])
    | refine Kx @a ?_
    | refine ct_I ?_
    | refine callG_Iv ?_ ?_
    | refine drJ_I ?_
    | refine Sz.s ?_
    | (refine And.intro ?_ ?_; focus omega)
    | omega
    | fail
  all_goals first
    | (clear m; exact Ky k)
    | (revert m; simp only [Tg, tgU]; exact Ky k)) : p := h a () ⟨k⟩
theorem Kb {p q : Prop} (k : q) (h : Unit → Kq q → p := by
  intro m k
  repeat' first
    | exact hole _
    | with_reducible rfl
    | simp (disch := omega) only [go_sem, simprocAttr]
    | refine' gdV_S (fun hq => ?_) (fun f => ?_) <;> try (have hq' := hq; try simp only [HB] at hq')
    | refine' gdD_S (fun hq => ?_) (fun f => ?_) <;> try (have hq' := hq; try simp only [HB] at hq')
    | refine Sx.s ?_ ?_ <;> try (intro h; have h' := h; (try simp only [HB] at h'); have h1 := Tg.mk m h; have h1' := Tg.mk m h'; try rewrite [h]; try simp only [h])
    | refine ct_I ?_
    | refine callG_Iv ?_ ?_
    | refine drJ_I ?_
    | refine Sz.s ?_
    | (refine And.intro ?_ ?_; focus omega)
    | omega
    | fail
  all_goals first
    | (clear m; exact Ky k)
    | (revert m; simp only [Tg, tgU]; exact Ky k)) : p := h () ⟨k⟩
theorem Kbs {p q : Prop} (k : q) (h : Unit → Kq q → p := by
  intro m k
  repeat' first
    | exact hole _
    | with_reducible rfl
    | simp (disch := omega) only [go_sem, simprocAttr, ne_eq, not_true_eq_false, not_false_eq_true, decide_true, decide_false, Nat.sub_zero, Nat.zero_add, List.map_nil, List.map_cons, List.length_map, beq_self_eq_true, if_true, if_false, Bool.false_eq_true]
    | refine' gdV_S (fun hq => ?_) (fun f => ?_) <;> try (have hq' := hq; try simp only [HB] at hq')
    | refine' gdD_S (fun hq => ?_) (fun f => ?_) <;> try (have hq' := hq; try simp only [HB] at hq')
    | refine Sx.s ?_ ?_ <;> try (intro h; have h' := h; (try simp only [HB] at h'); have h1 := Tg.mk m h; have h1' := Tg.mk m h'; try rewrite [h]; try simp only [h])
    | refine ct_I ?_
    | refine callG_Iv ?_ ?_
    | refine drJ_I ?_
    | refine Sz.s ?_
    | (refine And.intro ?_ ?_; focus omega)
    | omega
    | fail
  all_goals first
    | (clear m; exact Ky k)
    | (revert m; simp only [Tg, tgU]; exact Ky k)) : p := h () ⟨k⟩
theorem Kan {A p q : Prop} (a : A) (k : q) (h : A → Unit → Kq q → p := by
  intro a m k
  repeat' first
    | exact hole _
    | with_reducible rfl
    | simp (disch := omega) only [go_sem, simprocAttr, a]
    | refine' gdV_S (fun hq => ?_) (fun f => ?_) <;> try (have hq' := hq; try simp only [HB] at hq')
    | refine' gdD_S (fun hq => ?_) (fun f => ?_) <;> try (have hq' := hq; try simp only [HB] at hq')
    | refine Sx.s ?_ ?_ <;> try (intro h; have h' := h; (try simp only [HB] at h'); have h1 := Tg.mk m h; have h1' := Tg.mk m h'; try rewrite [h]; try simp only [h])
    | refine Kx @a ?_
    | refine ct_I ?_
    | refine callG_Iv ?_ ?_
    | refine drJ_I ?_
    | refine Sz.s ?_
    | fail
  all_goals first
    | (clear m; exact Ky k)
    | (revert m; simp only [Tg, tgU]; exact Ky k)) : p := h a () ⟨k⟩
theorem Kans {A p q : Prop} (a : A) (k : q) (h : A → Unit → Kq q → p := by
  intro a m k
  repeat' first
    | exact hole _
    | with_reducible rfl
    | simp (disch := omega) only [go_sem, simprocAttr, ne_eq, not_true_eq_false, not_false_eq_true, decide_true, decide_false, Nat.sub_zero, Nat.zero_add, List.map_nil, List.map_cons, List.length_map, beq_self_eq_true, if_true, if_false, Bool.false_eq_true, a]
    | refine' gdV_S (fun hq => ?_) (fun f => ?_) <;> try (have hq' := hq; try simp only [HB] at hq')
    | refine' gdD_S (fun hq => ?_) (fun f => ?_) <;> try (have hq' := hq; try simp only [HB] at hq')
    | refine Sx.s ?_ ?_ <;> try (intro h; have h' := h; (try simp only [HB] at h'); have h1 := Tg.mk m h; have h1' := Tg.mk m h'; try rewrite [h]; try simp only [h])
    | refine Kx @a ?_
    | refine ct_I ?_
    | refine callG_Iv ?_ ?_
    | refine drJ_I ?_
    | refine Sz.s ?_
    | fail
  all_goals first
    | (clear m; exact Ky k)
    | (revert m; simp only [Tg, tgU]; exact Ky k)) : p := h a () ⟨k⟩
theorem Kbn {p q : Prop} (k : q) (h : Unit → Kq q → p := by
  intro m k
  repeat' first
    | exact hole _
    | with_reducible rfl
    | simp (disch := omega) only [go_sem, simprocAttr]
    | refine' gdV_S (fun hq => ?_) (fun f => ?_) <;> try (have hq' := hq; try simp only [HB] at hq')
    | refine' gdD_S (fun hq => ?_) (fun f => ?_) <;> try (have hq' := hq; try simp only [HB] at hq')
    | refine Sx.s ?_ ?_ <;> try (intro h; have h' := h; (try simp only [HB] at h'); have h1 := Tg.mk m h; have h1' := Tg.mk m h'; try rewrite [h]; try simp only [h])
    | refine ct_I ?_
    | refine callG_Iv ?_ ?_
    | refine drJ_I ?_
    | refine Sz.s ?_
    | fail
  all_goals first
    | (clear m; exact Ky k)
    | (revert m; simp only [Tg, tgU]; exact Ky k)) : p := h () ⟨k⟩
theorem Kbns {p q : Prop} (k : q) (h : Unit → Kq q → p := by
  intro m k
  repeat' first
    | exact hole _
    | with_reducible rfl
    | simp (disch := omega) only [go_sem, simprocAttr, ne_eq, not_true_eq_false, not_false_eq_true, decide_true, decide_false, Nat.sub_zero, Nat.zero_add, List.map_nil, List.map_cons, List.length_map, beq_self_eq_true, if_true, if_false, Bool.false_eq_true]
    | refine' gdV_S (fun hq => ?_) (fun f => ?_) <;> try (have hq' := hq; try simp only [HB] at hq')
    | refine' gdD_S (fun hq => ?_) (fun f => ?_) <;> try (have hq' := hq; try simp only [HB] at hq')
    | refine Sx.s ?_ ?_ <;> try (intro h; have h' := h; (try simp only [HB] at h'); have h1 := Tg.mk m h; have h1' := Tg.mk m h'; try rewrite [h]; try simp only [h])
    | refine ct_I ?_
    | refine callG_Iv ?_ ?_
    | refine drJ_I ?_
    | refine Sz.s ?_
    | fail
  all_goals first
    | (clear m; exact Ky k)
    | (revert m; simp only [Tg, tgU]; exact Ky k)) : p := h () ⟨k⟩
theorem La {A p q : Prop} (a : A) (k : q) (h : A → Unit → Kq q → p := by
  intro a m k
  repeat' first
    | exact hole _
    | with_reducible rfl
    | simp (disch := omega) only [go_sem, simprocAttr, a]
    | refine Kx @a ?_
    | refine ct_I ?_
    | refine drJ_I ?_
    | refine Sz.s ?_
    | (refine And.intro ?_ ?_; focus omega)
    | omega
    | fail
  all_goals first
    | (clear m; exact Ky k)
    | (revert m; simp only [Tg, tgU]; exact Ky k)) : p := h a () ⟨k⟩
theorem Las {A p q : Prop} (a : A) (k : q) (h : A → Unit → Kq q → p := by
  intro a m k
  repeat' first
    | exact hole _
    | with_reducible rfl
    | simp (disch := omega) only [go_sem, simprocAttr, ne_eq, not_true_eq_false, not_false_eq_true, decide_true, decide_false, Nat.sub_zero, Nat.zero_add, List.map_nil, List.map_cons, List.length_map, beq_self_eq_true, if_true, if_false, Bool.false_eq_true, a]
    | refine Kx @a ?_
    | refine ct_I ?_
    | refine drJ_I ?_
    | refine Sz.s ?_
    | (refine And.intro ?_ ?_; focus omega)
    | omega
    | fail
  all_goals first
    | (clear m; exact Ky k)
    | (revert m; simp only [Tg, tgU]; exact Ky k)) : p := h a () ⟨k⟩
theorem Lb {p q : Prop} (k : q) (h : Unit → Kq q → p := by
  intro m k
  repeat' first
    | exact hole _
    | with_reducible rfl
    | simp (disch := omega) only [go_sem, simprocAttr]
    | refine ct_I ?_
    | refine drJ_I ?_
    | refine Sz.s ?_
    | (refine And.intro ?_ ?_; focus omega)
    | omega
    | fail
  all_goals first
    | (clear m; exact Ky k)
    | (revert m; simp only [Tg, tgU]; exact Ky k)) : p := h () ⟨k⟩
theorem Lbs {p q : Prop} (k : q) (h : Unit → Kq q → p := by
  intro m k
  repeat' first
    | exact hole _
    | with_reducible rfl
    | simp (disch := omega) only [go_sem, simprocAttr, ne_eq, not_true_eq_false, not_false_eq_true, decide_true, decide_false, Nat.sub_zero, Nat.zero_add, List.map_nil, List.map_cons, List.length_map, beq_self_eq_true, if_true, if_false, Bool.false_eq_true]
    | refine ct_I ?_
    | refine drJ_I ?_
    | refine Sz.s ?_
    | (refine And.intro ?_ ?_; focus omega)
    | omega
    | fail
  all_goals first
    | (clear m; exact Ky k)
    | (revert m; simp only [Tg, tgU]; exact Ky k)) : p := h () ⟨k⟩
theorem Lan {A p q : Prop} (a : A) (k : q) (h : A → Unit → Kq q → p := by
  intro a m k
  repeat' first
    | exact hole _
    | with_reducible rfl
    | simp (disch := omega) only [go_sem, simprocAttr, a]
    | refine Kx @a ?_
    | refine ct_I ?_
    | refine drJ_I ?_
    | refine Sz.s ?_
    | fail
  all_goals first
    | (clear m; exact Ky k)
    | (revert m; simp only [Tg, tgU]; exact Ky k)) : p := h a () ⟨k⟩
theorem Lans {A p q : Prop} (a : A) (k : q) (h : A → Unit → Kq q → p := by
  intro a m k
  repeat' first
    | exact hole _
    | with_reducible rfl
    | simp (disch := omega) only [go_sem, simprocAttr, ne_eq, not_true_eq_false, not_false_eq_true, decide_true, decide_false, Nat.sub_zero, Nat.zero_add, List.map_nil, List.map_cons, List.length_map, beq_self_eq_true, if_true, if_false, Bool.false_eq_true, a]
    | refine Kx @a ?_
    | refine ct_I ?_
    | refine drJ_I ?_
    | refine Sz.s ?_
    | fail
  all_goals first
    | (clear m; exact Ky k)
    | (revert m; simp only [Tg, tgU]; exact Ky k)) : p := h a () ⟨k⟩
theorem Lbn {p q : Prop} (k : q) (h : Unit → Kq q → p := by
  intro m k
  repeat' first
    | exact hole _
    | with_reducible rfl
    | simp (disch := omega) only [go_sem, simprocAttr]
    | refine ct_I ?_
    | refine drJ_I ?_
    | refine Sz.s ?_
    | fail
  all_goals first
    | (clear m; exact Ky k)
    | (revert m; simp only [Tg, tgU]; exact Ky k)) : p := h () ⟨k⟩
theorem Lbns {p q : Prop} (k : q) (h : Unit → Kq q → p := by
  intro m k
  repeat' first
    | exact hole _
    | with_reducible rfl
    | simp (disch := omega) only [go_sem, simprocAttr, ne_eq, not_true_eq_false, not_false_eq_true, decide_true, decide_false, Nat.sub_zero, Nat.zero_add, List.map_nil, List.map_cons, List.length_map, beq_self_eq_true, if_true, if_false, Bool.false_eq_true]
    | refine ct_I ?_
    | refine drJ_I ?_
    | refine Sz.s ?_
    | fail
  all_goals first
    | (clear m; exact Ky k)
    | (revert m; simp only [Tg, tgU]; exact Ky k)) : p := h () ⟨k⟩
theorem Ma {A p q : Prop} (a : A) (k : q) (h : A → Unit → Kq q → p := by
  intro a m k
  repeat' first
    | exact hole _
    | with_reducible rfl
    | simp (disch := omega) only [go_sem, simprocAttr, a]
    | (refine And.intro ?_ ?_; focus omega)
    | omega
    | fail
  all_goals first
    | (clear m; exact Ky k)
    | (revert m; simp only [Tg, tgU]; exact Ky k)) : p := h a () ⟨k⟩
theorem Mas {A p q : Prop} (a : A) (k : q) (h : A → Unit → Kq q → p := by
  intro a m k
  repeat' first
    | exact hole _
    | with_reducible rfl
    | simp (disch := omega) only [go_sem, simprocAttr, ne_eq, not_true_eq_false, not_false_eq_true, decide_true, decide_false, Nat.sub_zero, Nat.zero_add, List.map_nil, List.map_cons, List.length_map, beq_self_eq_true, if_true, if_false, Bool.false_eq_true, a]
    | (refine And.intro ?_ ?_; focus omega)
    | omega
    | fail
  all_goals first
    | (clear m; exact Ky k)
    | (revert m; simp only [Tg, tgU]; exact Ky k)) : p := h a () ⟨k⟩
theorem Mb {p q : Prop} (k : q) (h : Unit → Kq q → p := by
  intro m k
  repeat' first
    | exact hole _
    | with_reducible rfl
    | simp (disch := omega) only [go_sem, simprocAttr]
    | (refine And.intro ?_ ?_; focus omega)
    | omega
    | fail
  all_goals first
    | (clear m; exact Ky k)
    | (revert m; simp only [Tg, tgU]; exact Ky k)) : p := h () ⟨k⟩
theorem Mbs {p q : Prop} (k : q) (h : Unit → Kq q → p := by
  intro m k
  repeat' first
    | exact hole _
    | with_reducible rfl
    | simp (disch := omega) only [go_sem, simprocAttr, ne_eq, not_true_eq_false, not_false_eq_true, decide_true, decide_false, Nat.sub_zero, Nat.zero_add, List.map_nil, List.map_cons, List.length_map, beq_self_eq_true, if_true, if_false, Bool.false_eq_true]
    | (refine And.intro ?_ ?_; focus omega)
    | omega
    | fail
  all_goals first
    | (clear m; exact Ky k)
    | (revert m; simp only [Tg, tgU]; exact Ky k)) : p := h () ⟨k⟩
theorem Man {A p q : Prop} (a : A) (k : q) (h : A → Unit → Kq q → p := by
  intro a m k
  repeat' first
    | exact hole _
    | with_reducible rfl
    | simp (disch := omega) only [go_sem, simprocAttr, a]
    | fail
  all_goals first
    | (clear m; exact Ky k)
    | (revert m; simp only [Tg, tgU]; exact Ky k)) : p := h a () ⟨k⟩
theorem Mans {A p q : Prop} (a : A) (k : q) (h : A → Unit → Kq q → p := by
  intro a m k
  repeat' first
    | exact hole _
    | with_reducible rfl
    | simp (disch := omega) only [go_sem, simprocAttr, ne_eq, not_true_eq_false, not_false_eq_true, decide_true, decide_false, Nat.sub_zero, Nat.zero_add, List.map_nil, List.map_cons, List.length_map, beq_self_eq_true, if_true, if_false, Bool.false_eq_true, a]
    | fail
  all_goals first
    | (clear m; exact Ky k)
    | (revert m; simp only [Tg, tgU]; exact Ky k)) : p := h a () ⟨k⟩
theorem Mbn {p q : Prop} (k : q) (h : Unit → Kq q → p := by
  intro m k
  repeat' first
    | exact hole _
    | with_reducible rfl
    | simp (disch := omega) only [go_sem, simprocAttr]
    | fail
  all_goals first
    | (clear m; exact Ky k)
    | (revert m; simp only [Tg, tgU]; exact Ky k)) : p := h () ⟨k⟩
theorem Mbns {p q : Prop} (k : q) (h : Unit → Kq q → p := by
  intro m k
  repeat' first
    | exact hole _
    | with_reducible rfl
    | simp (disch := omega) only [go_sem, simprocAttr, ne_eq, not_true_eq_false, not_false_eq_true, decide_true, decide_false, Nat.sub_zero, Nat.zero_add, List.map_nil, List.map_cons, List.length_map, beq_self_eq_true, if_true, if_false, Bool.false_eq_true]
    | fail
  all_goals first
    | (clear m; exact Ky k)
    | (revert m; simp only [Tg, tgU]; exact Ky k)) : p := h () ⟨k⟩
theorem Na {A p q : Prop} (a : A) (k : q) (h : A → Unit → Kq q → p := by
  intro a m k
  repeat' first
    | exact hole _
    | with_reducible rfl
    | simp (disch := omega) only [go_sem, simprocAttr, a]
    | refine' gdV_S (fun hq => ?_) (fun f => ?_) <;> try (have hq' := hq; try simp only [HB] at hq')
    | refine' gdD_S (fun hq => ?_) (fun f => ?_) <;> try (have hq' := hq; try simp only [HB] at hq')
    | refine Sx.s ?_ ?_ <;> try (intro h; have h' := h; (try simp only [HB] at h'); have h1 := Tg.mk m h; have h1' := Tg.mk m h'; try rewrite [h]; try simp only [h])
    | refine Kx @a ?_
    | (first | refine callO_S a ?_ (fun r sto' hR => ?_) | refine callO_S (And.left a) ?_ (fun r sto' hR => ?_) | refine callO_S (And.left (And.right a)) ?_ (fun r sto' hR => ?_) | refine callO_S (And.left (And.right (And.right a))) ?_ (fun r sto' hR => ?_) | refine callO_S (And.right a) ?_ (fun r sto' hR => ?_) | refine callO_S (And.right (And.right a)) ?_ (fun r sto' hR => ?_) | refine callG_S a ?_ (fun r sto' hR => ?_) | refine callG_S (And.left a) ?_ (fun r sto' hR => ?_) | refine callG_S (And.left (And.right a)) ?_ (fun r sto' hR => ?_) | refine callG_S (And.left (And.right (And.right a))) ?_ (fun r sto' hR => ?_) | refine callG_S (And.right a) ?_ (fun r sto' hR => ?_) | refine callG_S (And.right (And.right a)) ?_ (fun r sto' hR => ?_); (focus (first | rfl | (simp only [go_sem, simprocAttr]; done))); first | (obtain ⟨rfl, rfl⟩ := hR) | (obtain ⟨_, (rfl | rfl), rfl, rfl⟩ := hR))
    | refine ct_I ?_
    | refine callG_Iv ?_ ?_
    | refine drJ_I ?_
    | refine Sz.s ?_
    | (refine And.intro ?_ ?_; focus omega)
    | omega
    | fail
  all_goals first
    | (clear m; exact Ky k)
    | (revert m; simp only [Tg, tgU]; exact Ky k)) : p := h a () ⟨k⟩
theorem Nas {A p q : Prop} (a : A) (k : q) (h : A → Unit → Kq q → p := by
  intro a m k
  repeat' first
    | exact hole _
    | with_reducible rfl
    | simp (disch := omega) only [go_sem, simprocAttr, ne_eq, not_true_eq_false, not_false_eq_true, decide_true, decide_false, Nat.sub_zero, Nat.zero_add, List.map_nil, List.map_cons, List.length_map, beq_self_eq_true, if_true, if_false, Bool.false_eq_true, a]
    | refine' gdV_S (fun hq => ?_) (fun f => ?_) <;> try (have hq' := hq; try simp only [HB] at hq')
    | refine' gdD_S (fun hq => ?_) (fun f => ?_) <;> try (have hq' := hq; try simp only [HB] at hq')
    | refine Sx.s ?_ ?_ <;> try (intro h; have h' := h; (try simp only [HB] at h'); have h1 := Tg.mk m h; have h1' := Tg.mk m h'; try rewrite [h]; try simp only [h])
    | refine Kx @a ?_
    | (first | refine callO_S a ?_ (fun r sto' hR => ?_) | refine callO_S (And.left a) ?_ (fun r sto' hR => ?_) | refine callO_S (And.left (And.right a)) ?_ (fun r sto' hR => ?_) | refine callO_S (And.left (And.right (And.right a))) ?_ (fun r sto' hR => ?_) | refine callO_S (And.right a) ?_ (fun r sto' hR => ?_) | refine callO_S (And.right (And.right a)) ?_ (fun r sto' hR => ?_) | refine callG_S a ?_ (fun r sto' hR => ?_) | refine callG_S (And.left a) ?_ (fun r sto' hR => ?_) | refine callG_S (And.left (And.right a)) ?_ (fun r sto' hR => ?_) | refine callG_S (And.left (And.right (And.right a))) ?_ (fun r sto' hR => ?_) | refine callG_S (And.right a) ?_ (fun r sto' hR => ?_) | refine callG_S (And.right (And.right a)) ?_ (fun r sto' hR => ?_); (focus (first | rfl | (simp only [go_sem, simprocAttr]; done))); first | (obtain ⟨rfl, rfl⟩ := hR) | (obtain ⟨_, (rfl | rfl), rfl, rfl⟩ := hR))
    | refine ct_I ?_
    | refine callG_Iv ?_ ?_
    | refine drJ_I ?_
    | refine Sz.s ?_
    | (refine And.intro ?_ ?_; focus omega)
    | omega
    | fail
  all_goals first
    | (clear m; exact Ky k)
    | (revert m; simp only [Tg, tgU]; exact Ky k)) : p := h a () ⟨k⟩
theorem Nan {A p q : Prop} (a : A) (k : q) (h : A → Unit → Kq q → p := by
  intro a m k
  repeat' first
    | exact hole _
    | with_reducible rfl
    | simp (disch := omega) only [go_sem, simprocAttr, a]
    | refine' gdV_S (fun hq => ?_) (fun f => ?_) <;> try (have hq' := hq; try simp only [HB] at hq')
    | refine' gdD_S (fun hq => ?_) (fun f => ?_) <;> try (have hq' := hq; try simp only [HB] at hq')
    | refine Sx.s ?_ ?_ <;> try (intro h; have h' := h; (try simp only [HB] at h'); have h1 := Tg.mk m h; have h1' := Tg.mk m h'; try rewrite [h]; try simp only [h])
    | refine Kx @a ?_
    | (first | refine callO_S a ?_ (fun r sto' hR => ?_) | refine callO_S (And.left a) ?_ (fun r sto' hR => ?_) | refine callO_S (And.left (And.right a)) ?_ (fun r sto' hR => ?_) | refine callO_S (And.left (And.right (And.right a))) ?_ (fun r sto' hR => ?_) | refine callO_S (And.right a) ?_ (fun r sto' hR => ?_) | refine callO_S (And.right (And.right a)) ?_ (fun r sto' hR => ?_) | refine callG_S a ?_ (fun r sto' hR => ?_) | refine callG_S (And.left a) ?_ (fun r sto' hR => ?_) | refine callG_S (And.left (And.right a)) ?_ (fun r sto' hR => ?_) | refine callG_S (And.left (And.right (And.right a))) ?_ (fun r sto' hR => ?_) | refine callG_S (And.right a) ?_ (fun r sto' hR => ?_) | refine callG_S (And.right (And.right a)) ?_ (fun r sto' hR => ?_); (focus (first | rfl | (simp only [go_sem, simprocAttr]; done))); first | (obtain ⟨rfl, rfl⟩ := hR) | (obtain ⟨_, (rfl | rfl), rfl, rfl⟩ := hR))
    | refine ct_I ?_
    | refine callG_Iv ?_ ?_
    | refine drJ_I ?_
    | refine Sz.s ?_
    | fail
  all_goals first
    | (clear m; exact Ky k)
    | (revert m; simp only [Tg, tgU]; exact Ky k)) : p := h a () ⟨k⟩
theorem Nans {A p q : Prop} (a : A) (k : q) (h : A → Unit → Kq q → p := by
  intro a m k
  repeat' first
    | exact hole _
    | with_reducible rfl
    | simp (disch := omega) only [go_sem, simprocAttr, ne_eq, not_true_eq_false, not_false_eq_true, decide_true, decide_false, Nat.sub_zero, Nat.zero_add, List.map_nil, List.map_cons, List.length_map, beq_self_eq_true, if_true, if_false, Bool.false_eq_true, a]
    | refine' gdV_S (fun hq => ?_) (fun f => ?_) <;> try (have hq' := hq; try simp only [HB] at hq')
    | refine' gdD_S (fun hq => ?_) (fun f => ?_) <;> try (have hq' := hq; try simp only [HB] at hq')
    | refine Sx.s ?_ ?_ <;> try (intro h; have h' := h; (try simp only [HB] at h'); have h1 := Tg.mk m h; have h1' := Tg.mk m h'; try rewrite [h]; try simp only [h])
    | refine Kx @a ?_
    | (first | refine callO_S a ?_ (fun r sto' hR => ?_) | refine callO_S (And.left a) ?_ (fun r sto' hR => ?_) | refine callO_S (And.left (And.right a)) ?_ (fun r sto' hR => ?_) | refine callO_S (And.left (And.right (And.right a))) ?_ (fun r sto' hR => ?_) | refine callO_S (And.right a) ?_ (fun r sto' hR => ?_) | refine callO_S (And.right (And.right a)) ?_ (fun r sto' hR => ?_) | refine callG_S a ?_ (fun r sto' hR => ?_) | refine callG_S (And.left a) ?_ (fun r sto' hR => ?_) | refine callG_S (And.left (And.right a)) ?_ (fun r sto' hR => ?_) | refine callG_S (And.left (And.right (And.right a))) ?_ (fun r sto' hR => ?_) | refine callG_S (And.right a) ?_ (fun r sto' hR => ?_) | refine callG_S (And.right (And.right a)) ?_ (fun r sto' hR => ?_); (focus (first | rfl | (simp only [go_sem, simprocAttr]; done))); first | (obtain ⟨rfl, rfl⟩ := hR) | (obtain ⟨_, (rfl | rfl), rfl, rfl⟩ := hR))
    | refine ct_I ?_
    | refine callG_Iv ?_ ?_
    | refine drJ_I ?_
    | refine Sz.s ?_
    | fail
  all_goals first
    | (clear m; exact Ky k)
    | (revert m; simp only [Tg, tgU]; exact Ky k)) : p := h a () ⟨k⟩
end Go.Dl
