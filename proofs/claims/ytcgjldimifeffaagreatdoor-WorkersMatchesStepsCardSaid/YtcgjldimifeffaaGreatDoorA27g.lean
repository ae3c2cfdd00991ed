/- A part of the proofs of WorkersExclude and WorkersMatchesSteps: A27g. -/
import Derived.Test.YtcgjldimifeffaaGreatDoorA27
set_option linter.all false
namespace Go.Dl
open Go Go.RowKit
def srcQ (r : Option (List (List I))) (l : Nat) : Option (Nat × List (List I)) := match r with | some r => some (l, r) | none => none
def thenN (W : (Exit → St → Prop) → St → Prop) (K : Exit → St → Prop) : Exit → St → Prop
  | .normal, s => W K s
  | _, _ => False
section
variable {P : Program} {GL : List (Nat × List I)}
def V40 := cj @step.eq_54 (cj @step.eq_55 (cj @step.eq_56 (cj @step.eq_57 (cj @step.eq_58 (cj @step.eq_59 (cj @step.eq_60 (cj @step.eq_61 (cj @step.eq_62 (cj @step.eq_64 (cj @step.eq_63 @step.eq_32))))))))))
theorem V41 (st : St) :
    (∀ d ls, preN GL (.mkgm d ls) st = []) ∧ (∀ d x q z ok ls, preN GL (.lookg d x q z ok ls) st = []) ∧ (∀ x q v ls, preN GL (.mupdg x q v ls) st = []) ∧ (∀ d x q z ls e k, preN GL (.ment d x q z ls e k) st = []) ∧ (∀ x s v, preN GL (.ests x s v) st = []) ∧ (∀ d x, preN GL (.cap d x) st = []) ∧
    (∀ d x y e k, preN GL (.cpy d x y e k) st = []) ∧ (∀ d x z, preN GL (.clr d x z) st = []) ∧ (∀ d e k b z n, preN GL (.mksl d e k b z n) st = []) ∧ (∀ d x lo hi mx, preN GL (.slc3 d x lo hi mx) st = []) ∧ (∀ d e k b x n z, preN GL (.appz d e k b x n z) st = []) ∧ (∀ d f e k os, preN GL (.calln d f e k os) st = []) := by
  and_intros <;> intros <;> rfl
theorem V42' (st : St) (K : St → Prop) :
    (∀ x key z ok ls d, lookgE (.i x) key z ok ls d st K = lookE (.i x) key z ok ls d st K) ∧ (∀ ls' es ls q z ok d, lookgB (some (.map ls' es)) ls q z ok d st K = lookB (some (.map ls' es)) ls q z ok d st K) ∧ (∀ v z d, gout false (some v) z d st K = K (st.put d v)) ∧ (∀ z d, gout false none z d st K = K (st.put d (.i z))) ∧ (∀ z d, gout true none z d st K = K (st.put d (.i (.tup [z, .bool false])))) ∧ (∀ x z d, gout true (some (.i x)) z d st K = K (st.put d (.tup [.i x, .i (.bool true)]))) ∧ (∀ r z d, gout true (some (.ref r)) z d st K = K (st.put d (.tup [.ref r, .i (.bool true)]))) := by
  and_intros <;> intros <;> rfl
def V42 := cj @mkgmE.eq_1 (cj @lookgE.eq_1 (cj @lookgB.eq_1 (cj @mupdgE.eq_1 (cj @mupdgB.eq_1 (cj @mupdgB.eq_2 (cj @mentE.eq_1 (cj @estsE.eq_1 (cj @estsB.eq_1 (cj @capE.eq_1 (cj @capB.eq_1 (cj @cpyE.eq_1 (cj @cpyB.eq_1 (cj @clrE.eq_1 (cj @clrB.eq_1 (cj @clrB.eq_2 (cj @mkslE.eq_1 (cj @slc3E.eq_1 (cj @slc3E.eq_2 (cj @appzE.eq_1 (cj @appzB.eq_1 (cj @extE.eq_2 (cj @callnE.eq_1 @V42'))))))))))))))))))))))
theorem V43' :
    (∀ σ nm k lo hi top, srcP σ (.ref (.sl nm k lo hi)) top = srcQ (srcB (σ nm) k lo (min hi (lo + top))) (hi - lo)) ∧ (∀ e k rs, inM (some (.arr e k rs)) = []) := by
  and_intros <;> intros <;> rfl
def V43 := cj @intV.eq_1 (cj @slc3L.eq_1 (cj @srcK.eq_1 (cj @srcK.eq_2 (cj @srcP.eq_1 (cj @srcQ.eq_1 (cj @srcB.eq_1 (cj @srcB.eq_2 (cj @thenN.eq_1 (cj @frzOk.eq_3 (cj @frzOk.eq_4 (cj @frzOk.eq_2 (cj @inM.eq_3 (cj @inM.eq_2 (cj @D.nms.eq_3 (cj @oneD.eq_3 @V43')))))))))))))))
theorem V44' :
    (∀ d e k rs, renB d (.arr e k rs) = .arr e k rs) ∧ (∀ f e k rs, mpB f (.arr e k rs) = .arr e k rs) := by
  and_intros <;> intros <;> rfl
def V44 := cj @renB.eq_3 (cj @renB.eq_2 (cj @renD.eq_3 (cj @mpB.eq_3 (cj @mpB.eq_2 (cj @mpD.eq_3 @V44')))))
attribute [go_sem] V40 V41 V42 V43 V44
end
@[congr] theorem mkgmE_cg {a b c d e f} (h : a = b) : mkgmE a c d e f = mkgmE b c d e f := h ▸ rfl
@[congr] theorem lookgE_cg {a b c d e f g i j l} (h : a = b)(k : c = d) : lookgE a c e f g i j l = lookgE b d e f g i j l := h ▸ k ▸ rfl
@[congr] theorem lookgB_cg {a b c d e f g i j l} (h : a = b)(k : d = e) : lookgB a c d f g i j l = lookgB b c e f g i j l := h ▸ k ▸ rfl
@[congr] theorem gout_cg {a b c d e f g} (h : b = c) : gout a b d e f g = gout a c d e f g := h ▸ rfl
@[congr] theorem mupdgE_cg {a b c d e f g i j} (h : a = b)(k : c = d)(H : e = f) : mupdgE a c e g i j = mupdgE b d f g i j := h ▸ k ▸ H ▸ rfl
@[congr] theorem mupdgB_cg {a b c d e f g i j l} (h : a = b)(k : e = f)(H : g = i) : mupdgB a c d e g j l = mupdgB b c d f i j l := h ▸ k ▸ H ▸ rfl
@[congr] theorem mentE_cg {a b c d e f g i j l m} (h : a = b)(k : c = d) : mentE a c e f g i j l m = mentE b d e f g i j l m := h ▸ k ▸ rfl
@[congr] theorem mentB_cg {a b c d e f g i j l m n} (h : a = b)(k : f = g) : mentB a c d e f i j l m n = mentB b c d e g i j l m n := h ▸ k ▸ rfl
@[congr] theorem estsE_cg {a b c d e f g i} (h : a = b)(k : c = d)(H : e = f) : estsE a c e g i = estsE b d f g i := h ▸ k ▸ H ▸ rfl
@[congr] theorem estsB_cg {a b c d e f g i j} (h : a = b)(k : d = e)(H : f = g) : estsB a c d f i j = estsB b c e g i j := h ▸ k ▸ H ▸ rfl
@[congr] theorem capE_cg {a b c d e} (h : a = b) : capE a c d e = capE b c d e := h ▸ rfl
@[congr] theorem capB_cg {a b c d e f g i j} (h : a = b)(k : c = d)(H : e = f) : capB a c e g i j = capB b d f g i j := h ▸ k ▸ H ▸ rfl
@[congr] theorem cpyE_cg {a b c d e f g i j} (h : a = b)(k : c = d) : cpyE a c e f g i j = cpyE b d e f g i j := h ▸ k ▸ rfl
@[congr] theorem cpyB_cg {a b c d e f g i j l m n o p q} (h : a = b)(k : e = f)(H : g = i)(I : j = l) : cpyB a c d e g j m n o p q = cpyB b c d f i l m n o p q := h ▸ k ▸ H ▸ I ▸ rfl
@[congr] theorem clrE_cg {a b c d e f} (h : a = b) : clrE a c d e f = clrE b c d e f := h ▸ rfl
@[congr] theorem clrB_cg {a b c d e f g i j l m n} (h : a = b)(k : e = f)(H : g = i) : clrB a c d e g j l m n = clrB b c d f i j l m n := h ▸ k ▸ H ▸ rfl
@[congr] theorem mkslE_cg {a b c d e f g i j l m} (h : a = b)(k : c = d) : mkslE a c e f g i j l m = mkslE b d e f g i j l m := h ▸ k ▸ rfl
@[congr] theorem slc3E_cg {a b c d e f g i j l m} (h : a = b)(k : c = d)(H : e = f)(I : g = i) : slc3E a c e g j l m = slc3E b d f i j l m := h ▸ k ▸ H ▸ I ▸ rfl
@[congr] theorem appS_cg {a b c d e f g i j l m n o p q r s t u} (h : a = b)(k : c = d)(H : i = j)(I : l = m)(h0 : n = o) : appS a c e f g i l n p q r s t u = appS b d e f g j m o p q r s t u := h ▸ k ▸ H ▸ I ▸ h0 ▸ rfl
@[congr] theorem appAo_cg {a b c d e f g i j l m n o p q r s t u v} (h : a = b)(k : e = f)(H : j = l)(I : m = n)(h0 : s = t) : appAo a c d e g i j m o p q r s u v = appAo b c d f g i l n o p q r t u v := h ▸ k ▸ H ▸ I ▸ h0 ▸ rfl
@[congr] theorem appzE_cg {a b c d e f g i j l m} (h : a = b)(k : c = d) : appzE a c e f g i j l m = appzE b d e f g i j l m := h ▸ k ▸ rfl
@[congr] theorem appzB_cg {a b c d e f g i j l m n o p q r s t u} (h : a = b)(k : c = d)(H : g = i)(I : j = l)(h0 : q = r) : appzB a c e f g j m n o p q s t u = appzB b d e f i l m n o p r s t u := h ▸ k ▸ H ▸ I ▸ h0 ▸ rfl
@[congr] theorem callnE_cg {a b c d e f g i j l m} (h : c = d) : callnE a b c e f g i j l m = callnE a b d e f g i j l m := h ▸ rfl
@[congr] theorem thenN_cg {a b c d e} (h : d = e) : thenN a b c d = thenN a b c e := h ▸ rfl
section
variable {P : Program} {GL : List (Nat × List I)}
theorem rf_I {n : Nat} {og : O} {ps : List Nat} {a b : J} {K : Exit → St → Prop} {st : St} {gf : FuncId} {caps : List I} {xs : List (List I)} (hg : opv GL st og = .i (.fn gf [] caps)) (hen : enters P gf = true) (hq : SeqC P GL gf caps xs)
    (f : List (Nat × Nat)) (L : List D) (m : Nat → List (Nat × Blk)) (mv : List Nat) (N : Nat) (jm : Jm) (h1 : N ≤ xs.length ∧ (jm = .none → N = xs.length) ∧ (jm ≠ .none → 0 < N)) (h2 : okV mv = true) (h3 : ∀ j, j ≤ N → okY mv (m j) = true ∧ no99 (m j) = true ∧ okL (m j) L = true ∧ (m j).map (·.1) = (m 0).map (·.1))
    (h4 : L.length = n) (h5 : subL f 0 L st.env) (h6 : sws f 5499 = 5499) (h7 : subS (mpS (swi f) (m 0)) st.sto)
    (h8 : ∀ j, j < N → (xs.getD j []).length = ps.length ∧ W2 P GL a (thenN (W2 P GL b) (rfK (m (j + 1)) (if j + 1 = N then jm else .none))) ⟨.l (setP ps (xs.getD j []) (env0 0 L)), m j⟩)
    (h9 : rfAft st (mv.map (swi f)) (mpS (swi f) (m 0)) (mpS (swi f) (m N)) (K jm.ex)) : W2 P GL (.rf n og ps a b) K st :=
  ⟨gf, caps, Nat, 0, _, _, hg, hen, hq.g, f, L, fun j => m (min j N), mv, fun j => if N ≤ j then jm else .none, by
    show (if N ≤ 0 then jm else Jm.none) = .none
    split
    · cases hj : jm with
      | none => rfl
      | _ => have := h1.2.2 (by rw [hj]; simp); omega
    · rfl, h2, fun j => by have q := h3 _ (Nat.min_le_right j N); exact ⟨q.1, q.2.1, q.2.2.1, by simp only [Nat.zero_min]; exact q.2.2.2⟩, h4, h5, h6, by simp only [Nat.zero_min]; exact h7, fun j x j' ⟨hx1, hx2, hx3⟩ hj => by
      have hjN : j < N := by grind
      subst hx2; subst hx3
      have e1 : min j N = j := by omega
      have e2 : min (j + 1) N = j + 1 := by omega
      have e3 : (if N ≤ j + 1 then jm else Jm.none) = if j + 1 = N then jm else .none := by grind
      simp only [e1, e2, e3]
      exact ⟨(h8 j hjN).1, W2_mono a (h8 j hjN).2 fun e s hs => by
        cases e with
        | normal => exact ⟨_, .inl rfl, hs⟩
        | _ => exact hs⟩, fun j hj => by
      have hjN : N ≤ j := by grind
      simp only [if_pos hjN, Nat.zero_min, Nat.min_eq_right hjN]
      exact h9⟩
theorem rf_N {n : Nat} {og : O} {ps : List Nat} {a b : J} {K : Exit → St → Prop} {st : St} {gf : FuncId} {caps : List I} {ι : Type} {i0 : ι} {Nx : ι → List I → ι → Prop} {Fin : ι → Prop} (hg : opv GL st og = .i (.fn gf [] caps)) (hen : enters P gf = true) (hq : SeqG P GL gf caps ι i0 Nx Fin)
    (f : List (Nat × Nat)) (L : List D) (m : ι → List (Nat × Blk)) (mv : List Nat) (jm : ι → Jm) (h1 : jm i0 = .none) (h2 : okV mv = true) (h3 : ∀ i, okY mv (m i) = true ∧ no99 (m i) = true ∧ okL (m i) L = true ∧ (m i).map (·.1) = (m i0).map (·.1))
    (h4 : L.length = n) (h5 : subL f 0 L st.env) (h6 : sws f 5499 = 5499) (h7 : subS (mpS (swi f) (m i0)) st.sto)
    (h8 : ∀ i x i', Nx i x i' → jm i = .none → x.length = ps.length ∧ W2 P GL a (thenN (W2 P GL b) (rfK (m i') (jm i'))) ⟨.l (setP ps x (env0 0 L)), m i⟩)
    (h9 : ∀ i, (jm i ≠ .none ∨ Fin i) → rfAft st (mv.map (swi f)) (mpS (swi f) (m i0)) (mpS (swi f) (m i)) (K (jm i).ex)) : W2 P GL (.rf n og ps a b) K st :=
  ⟨gf, caps, ι, i0, Nx, Fin, hg, hen, hq, f, L, m, mv, jm, h1, h2, h3, h4, h5, h6, h7, fun i x i' hx hi => ⟨(h8 i x i' hx hi).1, W2_mono a (h8 i x i' hx hi).2 fun e s hs => by
    cases e with
    | normal => exact ⟨_, .inl rfl, hs⟩
    | _ => exact hs⟩, h9⟩
theorem okY_subS {mv : List Nat} : ∀ {l : List (Nat × Blk)}, nodupB (l.map (·.1)) = true → ∀ s, (∀ m b, getS l m = some b → getS s m = some b) → subS l s
  | [], _, s, _ => trivial
  | (k, b) :: r, h, s, hs => by
    obtain ⟨h1, h2⟩ := nodupB_mem h
    refine ⟨hs k b (by simp [getS]), okY_subS (mv := mv) h2 s fun m c hm => hs m c ?_⟩
    grind [getS,mem_names,names]
def ownS (l : List (Nat × Blk)) : Bool := (l.map (·.1)).all (fun q => Nat.blt q 5000) && nodupB (l.map (·.1)) && l.all fun p => inS l p.2.nms
theorem scrC_low {nm : Nat} {c : Cp} (h : ∀ q ∈ c.nms, q < 5000) (hn : 5000 ≤ nm) : sbC nm (.iter none []) c = c := by
  cases c with
  | ref r =>
    simp only [sbC, sbR]
    rw [if_neg]
    have := h r.nm (by simp [Cp.nms]); omega
  | _ => rfl
theorem scrCs_low {nm : Nat} {l : List Cp} (h : ∀ q ∈ l.flatMap Cp.nms, q < 5000) (hn : 5000 ≤ nm) : l.map (sbC nm (.iter none [])) = l := by
  conv => rhs; rw [← List.map_id l]
  exact List.map_congr_left fun c hc => scrC_low (fun q hq => h q (List.mem_flatMap.2 ⟨c, hc, hq⟩)) hn
theorem scrD1_low {nm : Nat} {d : D} (h : ∀ q ∈ d.nms, q < 5000) (hn : 5000 ≤ nm) : sbD nm (.iter none []) d = d := by
  cases d with
  | ref r =>
    have := h r.nm (by simp [D.nms])
    simp only [sbD, sbR]
    rw [if_neg (by omega)]; rfl
  | fn f x y =>
    simp_all [D.nms,sbD,scrCs_low]
  | tup cs => simp only [sbD]; rw [scrCs_low h hn]
  | _ => rfl
theorem scrD_low {d : D} (h : ∀ q ∈ d.nms, q < 5000) : ∀ {l : List Nat}, (∀ nm ∈ l, 5000 ≤ nm) → scrD l d = d
  | [], _ => rfl
  | nm :: r, hl => by
    simp only [scrD]
    rw [scrD1_low h (hl nm List.mem_cons_self)]
    exact scrD_low h fun q hq => hl q (List.mem_cons_of_mem _ hq)
theorem scrB1_low {nm : Nat} {b : Blk} (h : ∀ q ∈ b.nms, q < 5000) (hn : 5000 ≤ nm) : sbB nm (.iter none []) b = b := by
  have go : ∀ l : List D, (∀ q ∈ l.flatMap D.nms, q < 5000) → l.map (sbD nm (.iter none [])) = l := fun l hl => by
    conv => rhs; rw [← List.map_id l]
    exact List.map_congr_left fun c hc => scrD1_low (fun q hq => hl q (List.mem_flatMap.2 ⟨c, hc, hq⟩)) hn
  cases b with
  | cells cs => simp only [sbB]; rw [go cs h]
  | lp l q cs => simp only [sbB]; rw [go cs h]
  | gmap ls clk es =>
    simp only [sbB]
    congr 1
    conv => rhs; rw [← List.map_id es]
    exact List.map_congr_left fun e he => by
      simp only [id_eq]
      rw [scrD1_low (fun q hq => h q (List.mem_flatMap.2 ⟨e, he, hq⟩)) hn]
  | _ => rfl
theorem scrB_low {b : Blk} (h : ∀ q ∈ b.nms, q < 5000) : ∀ {l : List Nat}, (∀ nm ∈ l, 5000 ≤ nm) → scrB l b = b
  | [], _ => rfl
  | nm :: r, hl => by
    simp only [scrB]
    rw [scrB1_low h (hl nm List.mem_cons_self)]
    exact scrB_low h fun q hq => hl q (List.mem_cons_of_mem _ hq)
theorem okY_ge {mv : List Nat} {l : List (Nat × Blk)} (h : okY mv l = true) : ∀ q, names l q → 5000 ≤ q ∧ q < 6000 := fun q hq => by
  simp only [okY, Bool.and_eq_true, List.all_eq_true] at h
  have := h.1.1 q (mem_names.2 hq)
  simp only [Bool.or_eq_true, Bool.and_eq_true, Nat.ble_eq, Nat.blt_eq] at this
  omega
theorem renD_id {d : Nat} (hd : d < 1000) {x : D} (h : ∀ q ∈ x.nms, 5000 ≤ q ∧ q < 6000) : renD d x = x := by
  have rn : ∀ q, 5000 ≤ q ∧ q < 6000 → ren d q = q := fun q hq => by grind [ren]
  have rR : ∀ r : Ref, 5000 ≤ r.nm ∧ r.nm < 6000 → renR d r = r := fun r hr => by cases r <;> simp only [Ref.nm] at hr <;> simp only [renR, rn _ hr]
  have rC : ∀ c : Cp, (∀ q ∈ c.nms, 5000 ≤ q ∧ q < 6000) → renC d c = c := fun c hc => by
    cases c with
    | ref r => simp only [renC]; rw [rR r (hc r.nm (by simp [Cp.nms]))]
    | _ => rfl
  have rCs : ∀ l : List Cp, (∀ q ∈ l.flatMap Cp.nms, 5000 ≤ q ∧ q < 6000) → l.map (renC d) = l := fun l hl => by
    conv => rhs; rw [← List.map_id l]
    exact List.map_congr_left fun c hc => rC c fun q hq => hl q (List.mem_flatMap.2 ⟨c, hc, hq⟩)
  cases x with
  | ref r => simp only [renD]; rw [rR r (h r.nm (by simp [D.nms]))]
  | fn f x y =>
    simp only [D.nms, List.mem_append] at h
    simp only [renD]
    rw [rCs x (fun q hq => h q (.inl hq)), rCs y (fun q hq => h q (.inr hq))]
  | tup cs => simp only [renD]; rw [rCs cs h]
  | _ => rfl
theorem renB_id {d : Nat} (hd : d < 1000) {b : Blk} (h : ∀ q ∈ b.nms, 5000 ≤ q ∧ q < 6000) : renB d b = b := by
  have go : ∀ l : List D, (∀ q ∈ l.flatMap D.nms, 5000 ≤ q ∧ q < 6000) → l.map (renD d) = l := fun l hl => by
    conv => rhs; rw [← List.map_id l]
    exact List.map_congr_left fun c hc => renD_id hd fun q hq => hl q (List.mem_flatMap.2 ⟨c, hc, hq⟩)
  cases b with
  | cells cs => simp only [renB]; rw [go cs h]
  | lp l q cs => simp only [renB]; rw [go cs h]
  | gmap ls clk es =>
    simp only [renB]
    congr 1
    conv => rhs; rw [← List.map_id es]
    exact List.map_congr_left fun e he => by
      simp only [id_eq]
      rw [renD_id hd (fun q hq => h q (List.mem_flatMap.2 ⟨e, he, hq⟩))]
  | _ => rfl
theorem renS_id {d : Nat} (hd : d < 1000) : ∀ {l : List (Nat × Blk)}, (∀ p ∈ l, (5000 ≤ p.1 ∧ p.1 < 6000) ∧ ∀ q ∈ p.2.nms, 5000 ≤ q ∧ q < 6000) → renS d l = l
  | [], _ => rfl
  | (k, b) :: r, h => by
    simp only [renS]
    have h0 := h _ List.mem_cons_self
    simp only at h0
    rw [renB_id hd h0.2, renS_id hd fun p hp => h p (List.mem_cons_of_mem _ hp)]
    grind [ren]
theorem clS_mem {T l : List (Nat × Blk)} (h : clS T l = true) : ∀ p ∈ l, ∀ q ∈ p.2.nms, names T q := by
  induction l with
  | nil => intro p hp; simp at hp
  | cons x r ih =>
    obtain ⟨k, b⟩ := x
    simp only [clS, Bool.and_eq_true] at h
    intro p hp q hq
    grind [inS_mem]
theorem okY_id {mv : List Nat} {l : List (Nat × Blk)} (h : okY mv l = true) {d : Nat} (hd : d < 1000) : renS d l = l := by refine renS_id hd fun p hp => ⟨okY_ge h p.1 (mem_names.1 (List.mem_map.2 ⟨p, hp, rfl⟩)), fun q hq => okY_ge h q (clS_mem (okY_cl h) p hp q hq)⟩
theorem getS_app {l r : List (Nat × Blk)} {m : Nat} (h : getS l m = none) : getS (l ++ r) m = getS r m := by rw [getS_append, h]
theorem callG_Y {mk : List (Nat × Blk)} {get : St → Option (FuncId × List D)} {E0 : Env} {own mj : List (Nat × Blk)} {d : Option Nat} {K : St → Prop} {y : FuncId} {xs : List I} {mv : List Nat} {r0 : I} (hy : MC P GL y (xs.map .i) mj mv (fun r s => r = .i r0 ∧ s = mk)) (hd : ∀ s, d = some s → s < 999)
    (hget : get ⟨E0, own ++ mj⟩ = some (y, xs.map .i)) (hj : okY mv mj = true) (hk : okY mv mk = true) (hn : mk.map (·.1) = mj.map (·.1)) (hV : okV mv = true) (ho : ownS own = true) (ks : List Nat) {E : List (Nat × D)} (hE : snap E0 ks = E) (hl : (E.all fun p => inS own p.2.nms) = true)
    (k : K (putO ⟨.l E, own ++ mk⟩ d (.i r0))) : callG P GL get ⟨E0, own ++ mj⟩ d K := by
  have hd9 : d.getD 999 < 1000 := by
    cases d with
    | none => simp
    | some s => have := hd s rfl; simp only [Option.getD_some]; omega
  simp only [ownS, Bool.and_eq_true] at ho
  obtain ⟨⟨ho1, ho2⟩, ho3⟩ := ho
  have olow : ∀ q, names own q → q < 5000 := fun q hq => by
    rw [List.all_eq_true] at ho1
    have := ho1 q (mem_names.2 hq); simpa using this
  have dis : ∀ q, names own q → getS mj q = none := fun q hq => by
    cases hg : getS mj q with
    | none => rfl
    | some b => have := okY_ge hj q (by simp [names, hg]); have := olow q hq; omega
  have dis' : ∀ q, names mj q → getS own q = none := fun q hq => by
    cases hg : getS own q with
    | none => rfl
    | some b => have := okY_ge hj q hq; have := olow q (by simp [names, hg]); omega
  have dis2 : ∀ q, names mk q → getS own q = none := fun q hq => by
    cases hg : getS own q with
    | none => rfl
    | some b => have := okY_ge hk q hq; have := olow q (by simp [names, hg]); omega
  have okn : ∀ {l : List (Nat × Blk)}, okY mv l = true → nodupB (l.map (·.1)) = true := fun h => by simp only [okY, Bool.and_eq_true] at h; exact h.2
  refine ⟨[], ?_⟩
  show match get ⟨E0, own ++ mj⟩ with | some (f, ds) => _ | none => False
  rw [hget]
  refine .inr (.inr ⟨mj, mv, _, hy, ?_, okY_cl hj, ?_, ?_, ?_⟩)
  · refine okY_subS (mv := mv) (okn hj) _ fun m b hm => ?_
    show getS (own ++ mj) m = some b
    rw [getS_app (dis' m (by simp [names, hm]))]; exact hm
  · rw [List.all_eq_true]; intro x hx
    obtain ⟨z, _, rfl⟩ := List.mem_map.1 hx
    rfl
  · rw [List.all_eq_true]; intro q hq
    unfold okV at hV
    rw [List.all_eq_true] at hV
    have := hV q hq
    simp only [Bool.and_eq_true, Nat.ble_eq, Nat.blt_eq] at this
    simp only [Bool.or_eq_true, Nat.blt_eq, Nat.ble_eq]; omega
  · rintro r s ⟨rfl, hs⟩
    have hs := hs.symm
    subst hs
    have hren := okY_id hk hd9
    refine ⟨fun nm hm => ?_, fun nm hm _ => ?_, r0, ⟨.l E, own ++ mk⟩, rfl, ?_, k⟩
    · rw [hren, hn] at hm
      exact .inl (mem_names.1 hm)
    · have h1 := okY_ge hj nm (mem_names.1 hm)
      unfold ren; rw [if_neg (by omega), if_neg (by omega), if_neg (by omega), if_neg (by omega)]
    · have hgone : ∀ q ∈ goneS mj mk mv, 5000 ≤ q := fun q hq => by
        unfold goneS at hq
        exact (okY_ge hj q (mem_names.1 (List.mem_filter.1 hq).1)).1
      have hap : ∀ q, names own q → names (own ++ mk) q := fun q hq => by
        obtain ⟨b, hb⟩ := Option.isSome_iff_exists.1 hq
        simp only [names, getS_append, hb, Option.isSome_some]
      have hap2 : ∀ q, names mk q → names (own ++ mk) q := fun q hq => by
        simp only [names, getS_app (dis2 q hq)]; exact hq
      simp only [callSt, hren, frzNs]
      refine ⟨?_, ?_, ?_, ?_⟩
      · subst hE
        clear k
        induction ks with
        | nil => trivial
        | cons s r ih =>
          simp only [snap, List.all_cons, Bool.and_eq_true] at hl
          refine ⟨?_, ih hl.2⟩
          rw [getE_scrE]
          exact scrD_low (fun q hq => olow q (inS_mem hl.1 q hq)) hgone
      · refine okY_subS (mv := mv) ?_ _ fun m b hm => ?_
        · have h1 : ∀ x ∈ own.map (·.1), x ∉ mk.map (·.1) := fun x hx hx' => by
            have := dis2 x (mem_names.1 hx')
            have := mem_names.1 hx
            simp_all [names]
          have nd : ∀ {l r : List Nat}, nodupB l = true → nodupB r = true → (∀ x ∈ l, x ∉ r) → nodupB (l ++ r) = true := fun {l r} => by
            induction l with
            | nil => intro _ h _; exact h
            | cons a l ih =>
              intro ha hb hc
              obtain ⟨a1, a2⟩ := nodupB_mem ha
              simp only [List.cons_append, nodupB, Bool.and_eq_true, Bool.not_eq_true']
              refine ⟨?_, ih a2 hb fun x hx => hc x (List.mem_cons_of_mem _ hx)⟩
              cases hcc : (l ++ r).contains a with
              | false => rfl
              | true =>
                rcases List.mem_append.1 (List.contains_iff_mem.1 hcc) with q | q
                · exact (a1 q).elim
                · exact (hc a List.mem_cons_self q).elim
          rw [List.map_append]
          exact nd ho2 (okn hk) h1
        · rw [getS_append] at hm ⊢
          cases ho : getS own m with
          | some c =>
            rw [ho] at hm
            cases hm
            have hno : names own m := by simp [names, ho]
            have hk0 : getS mk m = none := by
              cases hg : getS mk m with
              | none => rfl
              | some b' => have := dis2 m (by simp [names, hg]); rw [this] at ho; cases ho
            rw [hk0]
            simp only
            rw [getS_scrS, getS_delSs, if_neg (fun hc => by
              have := dis' m (mem_names.1 hc); rw [this] at ho; cases ho), getS_append, ho]
            simp only [Option.map_some, Option.some.injEq]
            refine scrB_low (fun q hq => olow q ?_) hgone
            rw [List.all_eq_true] at ho3
            have hmem : ∃ p ∈ own, p.2 = b := by
              clear hl hE hget k ho1 ho2 ho3 olow dis dis' dis2 hap hap2 hno
              induction own with
              | nil => cases ho
              | cons x r ih =>
                obtain ⟨k0, b0⟩ := x
                simp only [getS] at ho
                split at ho
                · cases ho; exact ⟨_, List.mem_cons_self, rfl⟩
                · obtain ⟨p, hp, e⟩ := ih ho; exact ⟨p, List.mem_cons_of_mem _ hp, e⟩
            obtain ⟨p, hp, rfl⟩ := hmem
            exact inS_mem (ho3 p hp) q hq
          | none =>
            rw [ho] at hm
            simp only at hm
            rw [hm]
      · have go : ∀ l : List (Nat × D), (l.all fun p => inS own p.2.nms) = true → clE (own ++ mk) l = true := fun l => by
          induction l with
          | nil => intro _; rfl
          | cons x l ih =>
            obtain ⟨s, z⟩ := x
            intro h
            simp only [List.all_cons, Bool.and_eq_true] at h
            simp only [clE, Bool.and_eq_true]
            refine ⟨?_, ih h.2⟩
            simp only [inS, List.all_eq_true]
            intro q hq
            exact hap q (inS_mem h.1 q hq)
        exact go E hl
      · have go : ∀ l : List (Nat × Blk), (∀ p ∈ l, ∀ q ∈ p.2.nms, names (own ++ mk) q) → clS (own ++ mk) l = true := fun l => by
          induction l with
          | nil => intro _; rfl
          | cons x l ih =>
            obtain ⟨s, z⟩ := x
            intro h
            simp only [clS, Bool.and_eq_true]
            refine ⟨?_, ih fun p hp => h p (List.mem_cons_of_mem _ hp)⟩
            simp only [inS, List.all_eq_true]
            intro q hq
            exact h _ List.mem_cons_self q hq
        refine go _ fun p hp q hq => ?_
        rcases List.mem_append.1 hp with hp | hp
        · rw [List.all_eq_true] at ho3
          exact hap q (inS_mem (ho3 p hp) q hq)
        · exact hap2 q (clS_mem (okY_cl hk) p hp q hq)
theorem names_swap {nm : Nat} {b b' : Blk} {sto : List (Nat × Blk)} : names ((nm, b) :: sto) = names ((nm, b') :: sto) := by grind [names,getS]
theorem StoOk.conv {S : Nat → Prop} {M : Mem} {μ : Place} {w : World} {nm : Nat} {b b' : Blk} {sto : List (Nat × Blk)} (h : StoOk S M μ ((nm, b) :: sto) w) (hb : BlkOk S M μ (names ((nm, b) :: sto)) w nm b → BlkOk S M μ (names ((nm, b) :: sto)) w nm b') : StoOk S M μ ((nm, b') :: sto) w where
  sub := h.sub
  blk := fun m x hx => by
    rw [← names_swap (b := b)]
    simp only [getS] at hx
    by_cases e : nm = m
    · subst e
      rw [if_pos rfl] at hx
      cases hx
      exact hb (h.blk nm b (by simp [getS]))
    · rw [if_neg e] at hx
      exact h.blk m x (by simp only [getS]; rw [if_neg e]; exact hx)
  sep := fun m m' k k' hne h1 h2 => h.sep m m' k k' hne (by rw [names_swap (b' := b')]; exact h1) (by rw [names_swap (b' := b')]; exact h2)
  low := h.low
theorem shut_swap {μ : Place} {nm : Nat} {b b' : Blk} {sto : List (Nat × Blk)} {w : World} : shut μ ((nm, b) :: sto) w = shut μ ((nm, b') :: sto) w := by unfold shut; rw [names_swap (b' := b')]
theorem MC_arr {f : FuncId} {args : List D} {mv : List Nat} {R : D → List (Nat × Blk) → Prop} {nm e k : Nat} {rs : List (List I)} {sto : List (Nat × Blk)} (h : ∀ c, MC P GL f args ((nm, .arr e k (rs.map some ++ List.replicate c none)) :: sto) mv R) :
    MC P GL f args ((nm, .rows e k rs) :: sto) mv R := by
  intro M μ w vs hsto hglob hrep
  obtain ⟨a, cap, hμ, hh⟩ := hsto.blk nm (.rows e k rs) (by simp [getS])
  have hrc : rs.length ≤ cap := by grind
  have hl : (rs.map some ++ List.replicate (cap - rs.length) (none : Option (List I))).length = cap := by simp; omega
  have h1 := hsto.conv (b' := .arr e k (rs.map some ++ List.replicate (cap - rs.length) none)) fun _ => ⟨a, by rw [hl]; exact hμ, by
    rcases hh with ⟨rfl, rfl⟩ | ⟨b, o, cur, rfl, hc, ho, q1, q2, q3, q4⟩
    · exact .inl rfl
    · refine .inr ⟨b, o, cur, rfl, fun e => by rw [e] at hl; simp at hl; omega, ho, by rw [hl]; exact q1, by rw [hl]; exact q2, fun i r hr => ?_⟩
      by_cases hi : i < rs.length
      · rw [List.getElem?_append_left (by simpa using hi)] at hr
        exact rowsAt_iff.1 q4 i r hr
      · rw [List.getElem?_append_right (by simpa using hi), List.getElem?_replicate] at hr
        split at hr <;> cases hr⟩
  have := h (cap - rs.length) M μ w vs (by rw [shut_swap (b' := .rows e k rs)]; exact h1) hglob (by rw [names_swap (b' := .rows e k rs)]; exact hrep)
  rw [shut_swap (b' := .rows e k rs), names_swap (b' := .rows e k rs)] at this
  exact this
theorem BlkOk.rowsOf {S : Nat → Prop} {M : Mem} {μ : Place} {N : Nat → Prop} {w : World} {nm e k : Nat} {rows : List (List I)} {j : List (Option (List I))} (hb : BlkOk S M μ N w nm (.arr e k (rows.map some ++ j))) : BlkOk S M μ N w nm (.rows e k rows) := by
  obtain ⟨a, hμ, hh⟩ := hb
  refine ⟨a, _, hμ, ?_⟩
  rcases hh with hh | ⟨b, o, cur, rfl, hne, ho, q1, q2, q3⟩
  · have h1 := congrArg List.length hh
    simp at h1
    exact .inl ⟨by simp [h1.1, h1.2], h1.1⟩
  · refine .inr ⟨b, o, cur, rfl, by cases hx : (rows.map some ++ j) <;> simp_all, ho, q1, q2, by simp, rowsAt_iff.2 fun i r hr => ?_⟩
    have hi : i < rows.length := by have := (List.getElem?_eq_some_iff.1 hr).1; simpa using this
    exact q3 i r (by rw [List.getElem?_append_left (by simpa using hi)]; exact hr)
theorem MC.arrIn {f : FuncId} {args : List D} {mv : List Nat} {R : D → List (Nat × Blk) → Prop} {nm e k : Nat} {rs : List (List I)} {sto : List (Nat × Blk)} (h : MC P GL f args ((nm, .rows e k rs) :: sto) mv R) (j : List (Option (List I))) :
    MC P GL f args ((nm, .arr e k (rs.map some ++ j)) :: sto) mv R := by
  intro M μ w vs hsto hglob hrep
  have h1 := hsto.conv (b' := .rows e k rs) BlkOk.rowsOf
  have := h M μ w vs (by rw [shut_swap (b' := .arr e k (rs.map some ++ j))]; exact h1) hglob (by rw [names_swap (b' := .arr e k (rs.map some ++ j))]; exact hrep)
  rw [shut_swap (b' := .arr e k (rs.map some ++ j)), names_swap (b' := .arr e k (rs.map some ++ j))] at this
  exact this
theorem MC.rowsOut {f : FuncId} {args : List D} {sto : List (Nat × Blk)} {mv : List Nat} {R R' : D → List (Nat × Blk) → Prop} (h : MC P GL f args sto mv R)
    (hR : ∀ r s, R r s → ∃ nm e k rows j s0, s = (nm, Blk.arr e k (List.map some rows ++ j)) :: s0 ∧ R' r ((nm, .rows e k rows) :: s0)) : MC P GL f args sto mv R' := by
  intro M μ w vs hsto hglob hrep
  refine (h M μ w vs hsto hglob hrep).mono ?_
  rintro v w' ⟨r, s, M', μ', hr, q1, q2, q3⟩
  obtain ⟨nm, e, k, rows, j, s0, rfl, hr'⟩ := hR r s hr
  exact ⟨r, _, M', μ', hr', q1.conv BlkOk.rowsOf, by rw [names_swap (b' := .arr e k (rows.map some ++ j))]; exact q2, q3⟩
theorem MC.frz {f : FuncId} {args : List D} {sto : List (Nat × Blk)} {mv : List Nat} {R R' : D → List (Nat × Blk) → Prop} (h : MC P GL f args sto mv R)
    (hR : ∀ r s, R r s → ∃ l, R' (getE (frzNs l ⟨.l [(0, r)], s⟩).env 0) (frzNs l ⟨.l [(0, r)], s⟩).sto) : MC P GL f args sto mv R' := by
  intro M μ w vs hsto hglob hrep
  refine (h M μ w vs hsto hglob hrep).mono ?_
  rintro v w' ⟨r, s, M', μ', hr, q1, q2, q3, q4, q5⟩
  obtain ⟨l, hl⟩ := hR r s hr
  have h0 : Rel GL 1 { (shut μ sto w) with q := μ' } M' μ' ⟨.l [(0, r)], s⟩ { tmps := #[v], defers := (shut μ sto w).ds } w' :=
    { toStoOk := q1, small := by decide, pin := fun _ _ => rfl, defers := rfl, size := rfl, glob := hglob.mono q3.le
      env := fun t => by
        simp only [getE, getL]
        split
        · rename_i e; subst e; exact q2
        · trivial }
  obtain ⟨M2, h2, m2⟩ := h0.frzNs l
  exact ⟨_, _, M2, μ', hl, h2.toStoOk, h2.env 0, q3.trans m2, q4, q5⟩
/-- A slice of its own that a call gives: given up, it is a datum. -/
theorem MC.sl {f : FuncId} {args : List D} {k e n : Nat} {rows : List (List I)} (h : MC P GL f args [] [] fun r s => r = .ref (.sl 6000 k 0 n) ∧ s = [(6000, .rows e k rows)]) (hn : n = rows.length := by simp) : MC P GL f args [] [] (isR (.sl rows)) :=
  h.frz fun r s ⟨h1, h2⟩ => ⟨[6000], by
    subst h1 h2 hn
    simp [frzNs, St.frzN, St.frz, getS, frzOk, getE, getL, sbD, sbR_cp, cpR, Ref.nm, sbS, delS, isR, Cp.toD]⟩
end
end Go.Dl
