/- A part of the proofs of WorkersExclude and WorkersMatchesSteps: E82 E80 E83. -/
import Derived.Test.YtcgjldimifeffaaGreatDoorKC
import Derived.Test.YtcgjldimifeffaaGreatDoorKB
set_option linter.all false
set_option maxRecDepth 100000
set_option maxHeartbeats 8000000
namespace Go.Proofs.YtcgjldimifeffaaGreatDoor
open Go Go.Dl Go.As Go.Proofs
variable {mx : Int}
attribute [local irreducible] callG callL MC W2 evT ev evD step stepD
noncomputable def F268 : FT 268 := .of Tryz.f268
/-! W1 -/
/-! W3 -/
/-! S1 -/
/-! W13 -/
/-! W16 -/
/-! N21 -/
theorem eFtr_len (f : Ftr) : (eFtr f).length = 18 := by obtain ⟨_, _, _, b, _⟩ := f; cases b; simp [eFtr, eTyp, eE]
theorem eFtr_one (f : Ftr) : (eFtr f).all I.one = true := by obtain ⟨_, _, _, b, _⟩ := f; cases b; simp [eFtr, eTyp, eE, I.one]
/-! N22 -/
/-! N23 -/
/-! N24 -/
/-! E19 -/
/-! N33 -/
/-! E30 -/
theorem ftrGrow_mc (n : Nat) (hn : n ≤ 1073741824) : MC Tryz.prog (GLm mx) 268 [.ref (.sl 5500 18 0 0), .i (iI n)] [(5500, .arr 84 18 [])] [5500]
    (fun r s => ∃ nm, (nm = 5500 ∨ nm = 6000) ∧ r = .ref (.sl nm 18 0 0) ∧ s = [(nm, .rows 84 18 [])]) := by
  refine MC.rowsOut (R := fun r s => ∃ nm, (nm = 5500 ∨ nm = 6000) ∧ r = .ref (.sl nm 18 0 0) ∧ ∃ j, s = [(nm, .arr 84 18 (([] : List (List I)).map some ++ j))]) ?_ fun r s ⟨nm, hn, hr, j, hs⟩ => ⟨nm, _, _, [], j, [], hs, nm, hn, hr, rfl⟩
  have hF : ((n : Int) < 0) = False := eq_false (by omega)
  refine MX F268 ?_
  by_cases h0 : n = 0
  · subst h0
    (repeat' first
| simp (disch := omega) only [go_sem, simprocAttr, Nat.sub_zero, List.length_nil]
| refine ct_I ?_
| fail)
    refine ret_S [(5500, 5500)] ?_
    exact ⟨5500, .inl rfl, rfl, [], rfl⟩
  · have hp : ((n : Int) > 0) = True := eq_true (by omega)
    have hp1 : ((0 : Int) < (n : Int)) = True := eq_true (by omega)
    have hp2 : (0 < n) = True := eq_true (by omega)
    have hp3 : (n ≤ 0) = False := eq_false (by omega)
    (repeat' first
| simp (disch := omega) only [go_sem, simprocAttr, hF, hp, hp2, hp3, Nat.sub_zero, List.length_nil, Int.sub_zero, Int.toNat_natCast, List.length_replicate, Nat.zero_add, false_implies, true_implies, true_and, and_true]
| refine ct_I ?_
| (refine And.intro ?_ ?_; focus omega))
    refine ⟨⟨fun r hr => by rw [(List.mem_replicate.1 hr).2]; rfl, fun r hr => by rw [(List.mem_replicate.1 hr).2]; rfl⟩, [], rfl, ⟨by simp, by simp⟩, by omega, by omega, fun c => ?_⟩
    generalize List.replicate n _ = zs
    (repeat' first
| simp (disch := omega) only [go_sem, simprocAttr, List.nil_append]
| (refine And.intro ?_ ?_; focus omega))
    refine ret_S [(22, 6000)] ?_
    exact ⟨6000, .inr rfl, rfl, _, rfl⟩
theorem ftrGrow_at (nm : Nat) (hnm : nm < 5000) (n : Nat) (hn : n ≤ 1073741824) : MC Tryz.prog (GLm mx) 268 [.ref (.sl nm 18 0 0), .i (iI n)] [(nm, .arr 84 18 [])] [nm]
    (fun r s => ∃ m, (m = nm ∨ m = 6000) ∧ r = .ref (.sl m 18 0 0) ∧ s = [(m, .rows 84 18 [])]) := by
  have e1 : sws [(5500, nm)] 5500 = nm := by rfl
  have e2 : sws [(5500, nm)] 6000 = 6000 := by
    have : ¬ (6000 = nm) := by omega
    simp [sws, sw, this]
  have h := (MC.as [(5500, nm)] (ftrGrow_mc (mx := mx) n hn)).mono (R' := fun r s => ∃ m, (m = nm ∨ m = 6000) ∧ r = .ref (.sl m 18 0 0) ∧ s = [(m, .rows 84 18 [])]) (by
    rintro r s ⟨m, hm, h1, h2⟩
    have k := mpD_mpD (f := swi [(5500, nm)]) (g := sws [(5500, nm)]) (sws_swi _) r
    have k2 := mpS_mpS (f := swi [(5500, nm)]) (g := sws [(5500, nm)]) (sws_swi _) s
    rw [h1] at k
    rw [h2] at k2
    rcases hm with rfl | rfl
    · refine ⟨nm, .inl rfl, ?_, ?_⟩
      · rw [← k]; simp only [mpD, mpR, e1]
      · rw [← k2]; simp only [mpS, mpB, e1]
    · refine ⟨6000, .inr rfl, ?_, ?_⟩
      · rw [← k]; simp only [mpD, mpR, e2]
      · rw [← k2]; simp only [mpS, mpB, e2])
  simp only [List.map_cons, List.map_nil, mpD, mpR, mpS, mpB, e1] at h
  exact h
def rowL (l : List Ftr) : List I := [.sl (l.map eFtr)]
def joinTo (L : List (List Ftr)) (i : Nat) : List Ftr := (L.take i).flatten
theorem join_succ {L : List (List Ftr)} {i : Nat} (h : i < L.length) : joinTo L (i + 1) = joinTo L i ++ L.getD i default := by unfold joinTo; rw [take_snoc h, List.flatten_append]; simp
theorem join_le (L : List (List Ftr)) (i : Nat) : (joinTo L i).length ≤ L.flatten.length := by
  unfold joinTo
  have : L.flatten = (L.take i).flatten ++ (L.drop i).flatten := by rw [← List.flatten_append, List.take_append_drop]
  grind
theorem ftrConcat_is (L : List (List Ftr)) (hL : L.length ≤ 1000) (hl : L.flatten.length ≤ 1073741) : Is mx 186 [.sl (L.map rowL)] (.sl (L.flatten.map eFtr)) := by
  have hrow : ∀ i, i < L.length → (L.map rowL).getD i [] = [.sl ((L.getD i default).map eFtr)] := fun i h => by rw [List.getD_eq_getElem?_getD, List.getElem?_map, List.getElem?_eq_getElem h, getD_lt h]; rfl
  refine MX F186 ?_
  (repeat' first
| simp (disch := omega) only [go_sem, simprocAttr]
| fail)
  refine loopT [0, 9, 10] (by simp only [V0, V25, reduceIte, Nat.reduceEqDiff]; rfl) (fun i : Nat => [(3, .i (iI ((joinTo L i).length : Int))), (11, .i (iI i))]) (fun _ => []) (fun i => i ≤ L.length) (fun i => L.length - i) 0 (by omega) (by simp [V0, V11, V15, joinTo]) ?_
  intro i hi
  by_cases hi' : i < L.length
  · have hs := join_succ hi'
    have h1 := join_le L (i + 1)
    have hr := hrow i hi'
    have hlen : ((joinTo L (i + 1)).length : Int) = (joinTo L i).length + (L.getD i default).length := by rw [hs]; simp
    have hneg : (((joinTo L i).length : Int) + (L.getD i default).length < 0) = False := eq_false (by omega)
    refine Lan (cj (ltT hi') (cj hr hneg)) ?_
    exact ⟨i + 1, by omega, by omega, by rw [hlen], rfl⟩
  · have e : i = L.length := by omega
    subst e
    have hall : joinTo L L.length = L.flatten := by simp [joinTo]
    rw [hall]
    have m1 := ftrGrow_at (mx := mx) 2024 (by decide) L.flatten.length (by omega)
    refine Lan (ltF hi') ?_
    refine callG_N m1 rfl rfl (by simp [subS, getS]) (by simp [clS, inS, Blk.nms, D.nms, Ref.nm, getS]) (fun r sto' hR => ?_)
    obtain ⟨nm, hnm, rfl, rfl⟩ := hR
    rcases hnm with rfl | rfl
    · refine Mbn ?_
      refine lT [25, 26] (fun i : Nat => [(6, .ref (.sl 2024 18 0 (joinTo L i).length)), (27, .i (iI i))]) (fun i => [(2024, .rows 84 18 ((joinTo L i).map eFtr))]) (fun i => i ≤ L.length) (fun i => L.length - i) 0 ?_
      intro i hi
      by_cases hi' : i < L.length
      · have hs := join_succ hi'
        have h1 := join_le L (i + 1)
        have hr := hrow i hi'
        have hlen : (joinTo L (i + 1)).length = (joinTo L i).length + (L.getD i default).length := by rw [hs]; simp
        have hrw := rows_ok (L.getD i default) eFtr_len eFtr_one
        have htk : List.take (joinTo L i).length ((joinTo L i).map eFtr) = (joinTo L i).map eFtr := List.take_of_length_le (by simp)
        refine Lans (cj (ltT hi') (cj hr htk)) ?_
        exact ⟨hrw.1, hrw.2, by omega, by omega, i + 1, by omega, by omega, ⟨by rw [hlen], rfl⟩, by rw [hs, List.map_append]⟩
      · have e : i = L.length := by omega
        subst e
        refine Lan (ltF hi') ?_
        rw [hall]
    · refine Mbn ?_
      refine lT [25, 26] (fun i : Nat => [(6, .ref (.sl 24 18 0 (joinTo L i).length)), (27, .i (iI i))]) (fun i => [(24, .rows 84 18 ((joinTo L i).map eFtr))]) (fun i => i ≤ L.length) (fun i => L.length - i) 0 ?_
      intro i hi
      by_cases hi' : i < L.length
      · have hs := join_succ hi'
        have h1 := join_le L (i + 1)
        have hr := hrow i hi'
        have hlen : (joinTo L (i + 1)).length = (joinTo L i).length + (L.getD i default).length := by rw [hs]; simp
        have hrw := rows_ok (L.getD i default) eFtr_len eFtr_one
        have htk : List.take (joinTo L i).length ((joinTo L i).map eFtr) = (joinTo L i).map eFtr := List.take_of_length_le (by simp)
        refine Lans (cj (ltT hi') (cj hr htk)) ?_
        exact ⟨hrw.1, hrw.2, by omega, by omega, i + 1, by omega, by omega, ⟨by rw [hlen], rfl⟩, by rw [hs, List.map_append]⟩
      · have e : i = L.length := by omega
        subst e
        refine Lan (ltF hi') ?_
        rw [hall]
end Go.Proofs.YtcgjldimifeffaaGreatDoor
set_option maxRecDepth 100000
set_option maxHeartbeats 8000000
namespace Go.Proofs.YtcgjldimifeffaaGreatDoor
open Go Go.Dl Go.As Go.Proofs
variable {mx : Int}
attribute [local irreducible] callG callL MC W2 evT ev evD step stepD
/-! The engine over the two entries of the example. -/
def tblA (name : Str) : Tbl := ⟨name, [117, 115, 101, 114], [⟨[110], ⟨2, [], []⟩⟩], 0⟩
def chgA (name : Str) : Chg := ⟨1, tblA name, ⟨[], [], ⟨0, [], []⟩, .mk 0 [] [] [] ⟨0, 0, []⟩ [] 0 ⟨0, 0⟩ [], 0⟩, []⟩
def entA (no : Int) (name : Str) : Ent := ⟨no, 0, 3, ⟨⟨[], 0⟩, 0, 0, [], [], 0, []⟩, ⟨0, [], [], ⟨[], 0⟩⟩, chgA name⟩
abbrev sOrders : Str := [111, 114, 100, 101, 114, 115]
abbrev sVisits : Str := [118, 105, 115, 105, 116, 115]
theorem ap1 : applyR (tabCat []) (chgA sOrders) = (tabCat [tblA sOrders], 0) := by
  kernel_rfl
theorem ap2 : applyR (tabCat [tblA sOrders]) (chgA sVisits) = (tabCat [tblA sOrders, tblA sVisits], 0) := by
  kernel_rfl
theorem newIdx0_is : Is mx 64 [.sl [], .fn 65 [] []] (.agg [.map [], .sl []]) := by
  refine MX F64 ?_
  (repeat' first
  | exact hole _
  | simp (maxSteps := 9999999) (disch := omega) only [go_sem, simprocAttr]
  | (first | refine' gdV_S (fun hq => ?_) (fun f => ?_) | refine' gdD_S (fun hq => ?_) (fun f => ?_)) <;> try (have hq' := hq; try simp only [HB] at hq')
  | refine Sx.s ?_ ?_ <;> try (intro h; have h' := h; try simp only [HB] at h'; try rewrite [h]; try simp only [h])
  | refine ct_I ?_
  | refine callG_Iv ?_ ?_
  | refine drJ_I ?_
  | refine Sz.s ?_
  | refine nxt_I (fun hr => ?_) (fun q hq => ?_)
  | refine isnil_I (fun hnil b => ?_) (fun hnil => ?_)
  | (refine And.intro ?_ ?_; focus omega)
  | fail)
  refine lS [1, 4, 5, 13, 14] (fun i => [(15, .i (iI i))]) (fun _ => [(4, .cells [.i .nilmap, .i (.sl [])])]) (fun _ => True) 0 ?_
  intro i hi _
  obtain rfl : i = 0 := by omega
  (repeat' first
  | exact hole _
  | simp (maxSteps := 9999999) (disch := omega) only [go_sem, simprocAttr]
  | (first | refine' gdV_S (fun hq => ?_) (fun f => ?_) | refine' gdD_S (fun hq => ?_) (fun f => ?_)) <;> try (have hq' := hq; try simp only [HB] at hq')
  | refine Sx.s ?_ ?_ <;> try (intro h; have h' := h; try simp only [HB] at h'; try rewrite [h]; try simp only [h])
  | refine ct_I ?_
  | refine callG_Iv ?_ ?_
  | refine drJ_I ?_
  | refine Sz.s ?_
  | refine nxt_I (fun hr => ?_) (fun q hq => ?_)
  | refine isnil_I (fun hnil b => ?_) (fun hnil => ?_)
  | (refine And.intro ?_ ?_; focus omega)
  | fail)
theorem concat0_is : Is mx 186 [.sl [[.sl []], [.sl []]]] (.sl []) := by
  have h := ftrConcat_is (mx := mx) [[], []] (by decide) (by decide)
  exact h
theorem nxt0 {c : Option (I × I)} {nm d : Nat} {st : St} {K : St → Prop} (h : K (st.put d (.i (.tup [.bool false])))) : nxtB (some (.iter c [])) nm d st K := ⟨fun _ => h, fun i h => absurd h (by simp)⟩
theorem Aggs0_is (t p : I) : Is mx 123 [.agg [t, .sl [], .sl [], p]] (.sl []) := by
  have h1 := concat0_is (mx := mx)
  have m1 := strSort_at (mx := mx) 6 9 [] (by decide) (by decide)
  refine MX F123 ?_
  (repeat' first
  | exact hole _
  | simp (maxSteps := 9999999) (disch := omega) only [go_sem, simprocAttr]
  | (first | refine' gdV_S (fun hq => ?_) (fun f => ?_) | refine' gdD_S (fun hq => ?_) (fun f => ?_)) <;> try (have hq' := hq; try simp only [HB] at hq')
  | refine callL_of (h1) ?_
  | refine Sx.s ?_ ?_ <;> try (intro h; have h' := h; try simp only [HB] at h'; try rewrite [h]; try simp only [h])
  | refine ct_I ?_
  | refine callG_Iv ?_ ?_
  | refine drJ_I ?_
  | refine Sz.s ?_
  | refine nxt_I (fun hr => ?_) (fun q hq => ?_)
  | refine isnil_I (fun hnil b => ?_) (fun hnil => ?_)
  | (refine And.intro ?_ ?_; focus omega)
  | fail)
  refine lS [2, 3, 16, 17] (fun i => [(18, .i (iI i))]) (fun _ => [(2, .rows 82 12 []), (3, .cells [.ref (.mp 10)]), (10, .map [.s] [])]) (fun _ => True) 0 ?_
  intro i hi _
  obtain rfl : i = 0 := by omega
  (repeat' first
  | exact hole _
  | simp (maxSteps := 9999999) (disch := omega) only [go_sem, simprocAttr]
  | (first | refine' gdV_S (fun hq => ?_) (fun f => ?_) | refine' gdD_S (fun hq => ?_) (fun f => ?_)) <;> try (have hq' := hq; try simp only [HB] at hq')
  | refine Sx.s ?_ ?_ <;> try (intro h; have h' := h; try simp only [HB] at h'; try rewrite [h]; try simp only [h])
  | refine ct_I ?_
  | refine callG_Iv ?_ ?_
  | refine drJ_I ?_
  | refine Sz.s ?_
  | refine nxt_I (fun hr => ?_) (fun q hq => ?_)
  | refine isnil_I (fun hnil b => ?_) (fun hnil => ?_)
  | (refine And.intro ?_ ?_; focus omega)
  | fail)
  refine lS [2, 3, 28] (fun i => [(6, .ref (.sl 6 1 0 0))]) (fun _ => [(28, .iter none []), (6, .rows 9 1 []), (2, .rows 82 12 []), (3, .cells [.i (.map [])])]) (fun _ => True) 0 ?_
  intro i hi _
  obtain rfl : i = 0 := by omega
  (repeat' first
  | exact hole _
  | simp (maxSteps := 9999999) (disch := omega) only [go_sem, simprocAttr]
  | (first | refine' gdV_S (fun hq => ?_) (fun f => ?_) | refine' gdD_S (fun hq => ?_) (fun f => ?_)) <;> try (have hq' := hq; try simp only [HB] at hq')
  | refine Sx.s ?_ ?_ <;> try (intro h; have h' := h; try simp only [HB] at h'; try rewrite [h]; try simp only [h])
  | refine ct_I ?_
  | refine callG_Iv ?_ ?_
  | refine drJ_I ?_
  | refine Sz.s ?_
  | refine nxt_I (fun hr => ?_) (fun q hq => ?_)
  | refine isnil_I (fun hnil b => ?_) (fun hnil => ?_)
  | (refine And.intro ?_ ?_; focus omega)
  | fail)
  refine nxt0 ?_
  (repeat' first
  | exact hole _
  | simp (maxSteps := 9999999) (disch := omega) only [go_sem, simprocAttr]
  | (first | refine' gdV_S (fun hq => ?_) (fun f => ?_) | refine' gdD_S (fun hq => ?_) (fun f => ?_)) <;> try (have hq' := hq; try simp only [HB] at hq')
  | (first | refine callO_S (m1) ?_ (fun r sto' hR => ?_) | refine callG_S (m1) ?_ (fun r sto' hR => ?_); (focus (first | rfl | (simp only [go_sem, simprocAttr]; done))); first | (obtain ⟨rfl, rfl⟩ := hR) | (obtain ⟨_, (rfl | rfl), rfl, rfl⟩ := hR))
  | refine Sx.s ?_ ?_ <;> try (intro h; have h' := h; try simp only [HB] at h'; try rewrite [h]; try simp only [h])
  | refine ct_I ?_
  | refine callG_Iv ?_ ?_
  | refine drJ_I ?_
  | refine Sz.s ?_
  | refine nxt_I (fun hr => ?_) (fun q hq => ?_)
  | refine isnil_I (fun hnil b => ?_) (fun hnil => ?_)
  | (refine And.intro ?_ ?_; focus omega)
  | fail)
  refine lS [3, 39, 40] (fun i => [(2, .ref (.sl 2 12 0 0)), (41, .i (iI i))]) (fun _ => [(6, .rows 9 1 []), (2, .rows 82 12 []), (3, .cells [.i (.map [])])]) (fun _ => True) 0 ?_
  intro i hi _
  obtain rfl : i = 0 := by omega
  (repeat' first
  | exact hole _
  | simp (maxSteps := 9999999) (disch := omega) only [go_sem, simprocAttr]
  | (first | refine' gdV_S (fun hq => ?_) (fun f => ?_) | refine' gdD_S (fun hq => ?_) (fun f => ?_)) <;> try (have hq' := hq; try simp only [HB] at hq')
  | refine Sx.s ?_ ?_ <;> try (intro h; have h' := h; try simp only [HB] at h'; try rewrite [h]; try simp only [h])
  | refine ct_I ?_
  | refine callG_Iv ?_ ?_
  | refine drJ_I ?_
  | refine Sz.s ?_
  | refine nxt_I (fun hr => ?_) (fun q hq => ?_)
  | refine isnil_I (fun hnil b => ?_) (fun hnil => ?_)
  | (refine And.intro ?_ ?_; focus omega)
  | fail)
def eStep (g : Eng) (l : List Ent) (x : Ent) : List I := eEng g ++ [.sl (l.map eEnt)] ++ eEnt x
theorem define_is (g : Eng) (l : List Ent) (no : Int) (nm : Str) (t' : List Tbl) (ha : applyR (tabCat g.tabs) (chgA nm) = (tabCat t', 0)) (hb : bCat (tabCat g.tabs) + bChg (chgA nm) ≤ 1073741) : Is mx 81 [.agg (eStep g l (entA no nm))] (.agg (eEng ⟨g.no, g.tick, t'⟩)) := by
  have h1 := Apply0_is (mx := mx) g.tabs (chgA nm) rfl hb
  rw [ha] at h1
  have h2 := newIdx0_is (mx := mx)
  have h3 := Aggs0_is (mx := mx) (.sl (t'.map eTbl)) (.sl [])
  refine MX F81 ?_
  (repeat' first
  | exact hole _
  | simp (maxSteps := 9999999) (disch := omega) only [go_sem, simprocAttr, eStep.eq_1, entA.eq_1, chgA.eq_1, tblA.eq_1, eCE.eq_1, tabCat.eq_1]
  | (first | refine' gdV_S (fun hq => ?_) (fun f => ?_) | refine' gdD_S (fun hq => ?_) (fun f => ?_)) <;> try (have hq' := hq; try simp only [HB] at hq')
  | refine callL_of (h1) ?_
  | refine callL_of (h2) ?_
  | refine callL_of (h3) ?_
  | refine Sx.s ?_ ?_ <;> try (intro h; have h' := h; try simp only [HB] at h'; try rewrite [h]; try simp only [h])
  | refine ct_I ?_
  | refine callG_Iv ?_ ?_
  | refine drJ_I ?_
  | refine Sz.s ?_
  | refine nxt_I (fun hr => ?_) (fun q hq => ?_)
  | refine isnil_I (fun hnil b => ?_) (fun hnil => ?_)
  | (refine And.intro ?_ ?_; focus omega)
  | fail)
  refine lS [1, 2, 3, 6, 34, 35] (fun i => [(7, .ref (.sl 7 10 0 0)), (36, .i (iI i))]) (fun _ => [(7, .rows 420 10 []), (3, .cells [.i (iI g.no), .i (iI g.tick), .i (.sl (t'.map eTbl)), .i (.sl []), .i (.sl []), .i (.sl []), .i (.sl [])]), (2, .cells [.i (iI 0), .i (iI 0), .i (.sl []), .i (.sl []), .i (.sl []), .i (.sl []), .i (.sl [])])]) (fun _ => True) 0 ?_
  intro i hi _
  obtain rfl : i = 0 := by omega
  (repeat' first
  | exact hole _
  | simp (maxSteps := 9999999) (disch := omega) only [go_sem, simprocAttr]
  | (first | refine' gdV_S (fun hq => ?_) (fun f => ?_) | refine' gdD_S (fun hq => ?_) (fun f => ?_)) <;> try (have hq' := hq; try simp only [HB] at hq')
  | refine Sx.s ?_ ?_ <;> try (intro h; have h' := h; try simp only [HB] at h'; try rewrite [h]; try simp only [h])
  | refine ct_I ?_
  | refine callG_Iv ?_ ?_
  | refine drJ_I ?_
  | refine Sz.s ?_
  | refine nxt_I (fun hr => ?_) (fun q hq => ?_)
  | refine isnil_I (fun hnil b => ?_) (fun hnil => ?_)
  | (refine And.intro ?_ ?_; focus omega)
  | fail)
theorem eApply_is (g : Eng) (l : List Ent) (no : Int) (nm : Str) (t' : List Tbl) (ha : applyR (tabCat g.tabs) (chgA nm) = (tabCat t', 0)) (hb : bCat (tabCat g.tabs) + bChg (chgA nm) ≤ 1073741) (hno : g.no < no) (htk : g.tick = 0) : Is mx 50 [.agg (eEng g), .sl (l.map eEnt), .agg (eEnt (entA no nm))] (.tup [.agg (eEng ⟨no, 0, t'⟩), iI 0]) := by
  have h1 := define_is (mx := mx) g l no nm t' ha hb
  have e1 : (decide (no ≤ g.no) || decide (0 < g.tick)) = false := by simp; omega
  have ml : ∀ a b c z, mlook (mput (mput (mput [] (.int .i64 1) a) (.int .i64 2) b) (.int .i64 3) c) (.int .i64 3) z true = .tup [c, .bool true] := fun _ _ _ _ => rfl
  have e40 : ∀ x : Ent, List.take 40 (eEnt x) = eEnt x := fun x => List.take_of_length_le (by obtain ⟨_, _, _, _, _, _, _, ⟨_, _, _, b, _⟩, _⟩ := x; cases b; simp [eEnt, eChg, eFct, eErs, eFid, eTbl, eFtr, eTyp, eE])
  refine MX F50 ?_
  (repeat' first
  | exact hole _
  | simp (maxSteps := 9999999) (disch := omega) only [go_sem, simprocAttr, e1, ml, e40, entA.eq_1, chgA.eq_1, tblA.eq_1]
  | (first | refine' gdV_S (fun hq => ?_) (fun f => ?_) | refine' gdD_S (fun hq => ?_) (fun f => ?_)) <;> try (have hq' := hq; try simp only [HB] at hq')
  | refine callL_of (h1) ?_
  | refine Sx.s ?_ ?_ <;> try (intro h; have h' := h; try simp only [HB] at h'; try rewrite [h]; try simp only [h])
  | refine ct_I ?_
  | refine callG_Iv ?_ ?_
  | refine drJ_I ?_
  | refine Sz.s ?_
  | refine nxt_I (fun hr => ?_) (fun q hq => ?_)
  | refine isnil_I (fun hnil b => ?_) (fun hnil => ?_)
  | (refine And.intro ?_ ?_; focus omega)
  | fail)
end Go.Proofs.YtcgjldimifeffaaGreatDoor
set_option maxRecDepth 100000
set_option maxHeartbeats 8000000
namespace Go.Proofs.YtcgjldimifeffaaGreatDoor
open Go Go.Dl Go.As Go.Proofs
variable {mx : Int}
attribute [local irreducible] callG callL MC W2 evT ev evD step stepD
/-! The example. -/
def lea3 (to floor : Int) : Lea := ⟨0, 1, 1, to, floor⟩
def ownW (to floor now : Int) : Wrk := ⟨1, now, 0, eng0, [lea3 to floor], eng0⟩
theorem owner_is (to floor now : Int) : Is mx 27 [iI to, iI floor, iI now] (.agg (eWrk (ownW to floor now))) := by
  have h1 := wNew_is (mx := mx) 1
  have x1 : wNewR 1 = (wOf 1 0 [], 0) := rfl
  rw [x1] at h1
  have h2 := Adopt_is (mx := mx) (wOf 1 0 []) (lea3 to floor) (by decide) (by intro i j _ h; simp [wOf] at h)
  have e1 : adoptL (wOf 1 0 []).leases (lea3 to floor) = [lea3 to floor] := rfl
  rw [e1] at h2
  refine MX F27 ?_
  (repeat' first
  | exact hole _
  | simp (maxSteps := 9999999) (disch := omega) only [go_sem, simprocAttr, eWE.eq_1, wOf.eq_1, eng0.eq_1, lea3.eq_1, ownW.eq_1, List.map_nil, List.map_cons]
  | (first | refine' gdV_S (fun hq => ?_) (fun f => ?_) | refine' gdD_S (fun hq => ?_) (fun f => ?_)) <;> try (have hq' := hq; try simp only [HB] at hq')
  | refine callL_of (h1) ?_
  | refine callL_of (h2) ?_
  | refine Sx.s ?_ ?_ <;> try (intro h; have h' := h; try simp only [HB] at h'; try rewrite [h]; try simp only [h])
  | refine ct_I ?_
  | refine callG_Iv ?_ ?_
  | refine drJ_I ?_
  | refine Sz.s ?_
  | refine nxt_I (fun hr => ?_) (fun q hq => ?_)
  | refine isnil_I (fun hnil b => ?_) (fun hnil => ?_)
  | (refine And.intro ?_ ?_; focus omega)
  | fail)
def engA (i : Nat) : Eng := match i with
  | 0 => eng0
  | 1 => ⟨1, 0, [tblA sOrders]⟩
  | _ => ⟨2, 0, [tblA sOrders, tblA sVisits]⟩
@[simp] theorem engA0 : engA 0 = ⟨0, 0, []⟩ := rfl
@[simp] theorem engA1 : engA 1 = ⟨1, 0, [tblA sOrders]⟩ := rfl
@[simp] theorem engA2 : engA 2 = ⟨2, 0, [tblA sOrders, tblA sVisits]⟩ := rfl
def logA : List Ent := [entA 1 sOrders, entA 2 sVisits]
theorem Catch_is : Is mx 28 [.agg (eWrk (ownW 10 3 0)), .sl (logA.map eEnt), iI 5] (.tup [.agg (eWrk ⟨1, 0, 0, engA 2, [lea3 10 3], eng0⟩), iI 0]) := by
  have c1 := eApply_is (mx := mx) eng0 [] 1 sOrders [tblA sOrders] ap1 (by decide) (by decide) rfl
  have c2 := eApply_is (mx := mx) ⟨1, 0, [tblA sOrders]⟩ [entA 1 sOrders] 2 sVisits [tblA sOrders, tblA sVisits] ap2 (by decide) (by decide) rfl
  have eEl : ∀ x : Ent, (eEnt x).length = 40 := ETl2.2.2.2.2.1
  have r1 : (∀ r ∈ [eEnt (entA 1 sOrders), eEnt (entA 2 sVisits)], r.length = 40) = True := eq_true (by intro r hr; simp only [List.mem_cons, List.not_mem_nil, or_false] at hr; rcases hr with rfl | rfl <;> exact eEl _)
  have en1 : (entA 1 sOrders).no = 1 := rfl
  have en2 : (entA 2 sVisits).no = 2 := rfl
  refine MX F28 ?_
  (repeat' first
  | exact hole _
  | simp (maxSteps := 9999999) (disch := omega) only [go_sem, simprocAttr, ownW.eq_1, eng0.eq_1, lea3.eq_1, logA.eq_1, List.map_nil, List.map_cons]
  | (first | refine' gdV_S (fun hq => ?_) (fun f => ?_) | refine' gdD_S (fun hq => ?_) (fun f => ?_)) <;> try (have hq' := hq; try simp only [HB] at hq')
  | refine Sx.s ?_ ?_ <;> try (intro h; have h' := h; try simp only [HB] at h'; try rewrite [h]; try simp only [h])
  | refine ct_I ?_
  | refine callG_Iv ?_ ?_
  | refine drJ_I ?_
  | refine Sz.s ?_
  | refine nxt_I (fun hr => ?_) (fun q hq => ?_)
  | refine isnil_I (fun hnil b => ?_) (fun hnil => ?_)
  | (refine And.intro ?_ ?_; focus omega)
  | fail)
  refine lS [1, 3, 6, 15, 16] (fun i => [(2, .i (iI (5 - i))), (17, .i (iI i))]) (fun i => [(6, .cells [.i (iI 0), .i (iI 0), .i (iI 0), .i (iI 0), .i (iI 0), .i (.sl []), .i (.sl []), .i (.sl []), .i (.sl []), .i (.sl []), .i (.sl []), .i (iI 0), .i (iI 0), .i (.sl []), .i (.sl []), .i (.sl []), .i (.sl []), .i (.sl [])]), (3, .cells [.i (iI 1), .i (iI 0), .i (iI 0), .i (iI (engA i).no), .i (iI (engA i).tick), .i (.sl ((engA i).tabs.map eTbl)), .i (.sl []), .i (.sl []), .i (.sl []), .i (.sl []), .i (.sl [[iI 0, iI 1, iI 1, iI 10, iI 3]]), .i (iI 0), .i (iI 0), .i (.sl []), .i (.sl []), .i (.sl []), .i (.sl []), .i (.sl [])])]) (fun _ => True) 2 ?_
  intro i hi _
  by_cases h2 : i = 2
  · subst h2
    (repeat' first
    | exact hole _
    | simp (maxSteps := 9999999) (disch := omega) only [go_sem, simprocAttr, engA2]
    | (first | refine' gdV_S (fun hq => ?_) (fun f => ?_) | refine' gdD_S (fun hq => ?_) (fun f => ?_)) <;> try (have hq' := hq; try simp only [HB] at hq')
    | refine Sx.s ?_ ?_ <;> try (intro h; have h' := h; try simp only [HB] at h'; try rewrite [h]; try simp only [h])
    | refine ct_I ?_
    | refine callG_Iv ?_ ?_
    | refine drJ_I ?_
    | refine Sz.s ?_
    | refine nxt_I (fun hr => ?_) (fun q hq => ?_)
    | refine isnil_I (fun hnil b => ?_) (fun hnil => ?_)
    | (refine And.intro ?_ ?_; focus omega)
    | fail)
  · have h3 : i = 0 ∨ i = 1 := by omega
    rcases h3 with rfl | rfl
    · skip
      (repeat' first
      | exact hole _
      | simp (maxSteps := 9999999) (disch := omega) only [go_sem, simprocAttr, engA0, engA1, r1, en1, en2]
      | (first | refine' gdV_S (fun hq => ?_) (fun f => ?_) | refine' gdD_S (fun hq => ?_) (fun f => ?_)) <;> try (have hq' := hq; try simp only [HB] at hq')
      | refine callL_of (c1) ?_
      | refine Sx.s ?_ ?_ <;> try (intro h; have h' := h; try simp only [HB] at h'; try rewrite [h]; try simp only [h])
      | refine ct_I ?_
      | refine callG_Iv ?_ ?_
      | refine drJ_I ?_
      | refine Sz.s ?_
      | refine nxt_I (fun hr => ?_) (fun q hq => ?_)
      | refine isnil_I (fun hnil b => ?_) (fun hnil => ?_)
      | (refine And.intro ?_ ?_; focus omega)
      | fail)
    · skip
      (repeat' first
      | exact hole _
      | simp (maxSteps := 9999999) (disch := omega) only [go_sem, simprocAttr, engA1, engA2, r1, en1, en2]
      | (first | refine' gdV_S (fun hq => ?_) (fun f => ?_) | refine' gdD_S (fun hq => ?_) (fun f => ?_)) <;> try (have hq' := hq; try simp only [HB] at hq')
      | refine callL_of (c2) ?_
      | refine Sx.s ?_ ?_ <;> try (intro h; have h' := h; try simp only [HB] at h'; try rewrite [h]; try simp only [h])
      | refine ct_I ?_
      | refine callG_Iv ?_ ?_
      | refine drJ_I ?_
      | refine Sz.s ?_
      | refine nxt_I (fun hr => ?_) (fun q hq => ?_)
      | refine isnil_I (fun hnil b => ?_) (fun hnil => ?_)
      | (refine And.intro ?_ ?_; focus omega)
      | fail)
theorem ask_one (k : Int) (l : List Lea) (h : oneL k l) : l.length ≤ 1000 ∧ SrtR l := ⟨by have := one_len h; omega, one_srt h⟩
def wV : Wrk := ⟨1, 0, 0, engA 2, [lea3 10 3], eng0⟩
theorem example_is : Is mx 5 [] (.bool true) := by
  have n1 := wNew_is (mx := mx) 1
  have n0 := wNew_is (mx := mx) 0
  have n9 := wNew_is (mx := mx) 9
  have x1 : wNewR 1 = (wOf 1 0 [], 0) := rfl
  have x0 : wNewR 0 = (wrk0, 1) := rfl
  have x9 : wNewR 9 = (wrk0, 1) := rfl
  rw [x1] at n1; rw [x0] at n0; rw [x9] at n9
  have q0 := ask_one 1 [] trivial
  have q1 := fun to => ask_one 1 [lea3 to 0] ⟨rfl, rfl, rfl, rfl⟩
  have q3 : ([lea3 10 3] : List Lea).length ≤ 1000 ∧ SrtR [lea3 10 3] := ⟨by decide, by intro i j h1 h2; simp at h2; omega⟩
  have a0 := Answer_is (mx := mx) (wOf 1 0 []) [] q0.1 q0.2 (fun _ => rfl)
  have a1 := Answer_is (mx := mx) (ownW 10 0 9) [] (q1 10).1 (q1 10).2 (fun _ => rfl)
  have a2 := Answer_is (mx := mx) (ownW 10 0 10) [] (q1 10).1 (q1 10).2 (fun _ => rfl)
  have a3 := Answer_is (mx := mx) wV (logA.map eEnt) q3.1 q3.2 (fun h => absurd h (by decide))
  have y0 : codeR (wOf 1 0 []) = 420 := by decide
  have y1 : codeR (ownW 10 0 9) = 4 := by decide
  have y2 : codeR (ownW 10 0 10) = 420 := by decide
  have y3 : codeR wV = 431 := by decide
  rw [y0] at a0; rw [y1] at a1; rw [y2] at a2; rw [y3] at a3
  have o1 := owner_is (mx := mx) 10 0 9
  have o2 := owner_is (mx := mx) 10 0 10
  have o3 := owner_is (mx := mx) 10 3 0
  have c1 := Catch_is (mx := mx)
  have r0 := wRange_is (mx := mx) [117] 0 (by decide)
  have r1 := wRange_is (mx := mx) [117] 1 (by decide)
  have z0 : rangeR [117] 0 = (0, 1) := by unfold rangeR; rw [if_pos (by decide)]
  have z1 : rangeR [117] 1 = (0, 0) := by unfold rangeR; rw [if_neg (by decide), Int.emod_one]
  rw [z0] at r0; rw [z1] at r1
  refine MX F5 ?_
  (repeat' first
  | exact hole _
  | simp (maxSteps := 9999999) (disch := omega) only [go_sem, simprocAttr, eWE.eq_1, wOf.eq_1, eng0.eq_1, ownW.eq_1, lea3.eq_1, wrk0.eq_1, wV.eq_1, engA2, zSrv.eq_1, List.map_nil, List.map_cons]
  | (first | refine' gdV_S (fun hq => ?_) (fun f => ?_) | refine' gdD_S (fun hq => ?_) (fun f => ?_)) <;> try (have hq' := hq; try simp only [HB] at hq')
  | refine callL_of (n1) ?_
  | refine callL_of (n0) ?_
  | refine callL_of (n9) ?_
  | refine callL_of (a0) ?_
  | refine callL_of (a1) ?_
  | refine callL_of (a2) ?_
  | refine callL_of (a3) ?_
  | refine callL_of (o1) ?_
  | refine callL_of (o2) ?_
  | refine callL_of (o3) ?_
  | refine callL_of (c1) ?_
  | refine callL_of (r0) ?_
  | refine callL_of (r1) ?_
  | refine Sx.s ?_ ?_ <;> try (intro h; have h' := h; try simp only [HB] at h'; try rewrite [h]; try simp only [h])
  | refine ct_I ?_
  | refine callG_Iv ?_ ?_
  | refine drJ_I ?_
  | refine Sz.s ?_
  | refine nxt_I (fun hr => ?_) (fun q hq => ?_)
  | refine isnil_I (fun hnil b => ?_) (fun hnil => ?_)
  | (refine And.intro ?_ ?_; focus omega)
  | fail)
theorem law_exclude (n d : Int) (ms : List Mov) (p q : Int) (hms : ∀ m ∈ ms, okM m) (hl : ms.length ≤ 140737488355328) : Is mx 4 [iI n, iI d, .sl (ms.map eMov), iI p, iI q] (.bool true) := Exclude_is n d ms p q hms hl example_is
end Go.Proofs.YtcgjldimifeffaaGreatDoor
