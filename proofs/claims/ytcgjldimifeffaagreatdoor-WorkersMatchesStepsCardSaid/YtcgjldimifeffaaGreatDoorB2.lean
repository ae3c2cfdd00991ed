/- A part of the proofs of WorkersExclude and WorkersMatchesSteps: B2. -/
import Derived.Test.YtcgjldimifeffaaGreatDoorB1
set_option linter.all false
namespace Go.Dl
open Go Go.RowKit
section
variable {P : Program} {GL : List (Nat × List I)} {n : Nat} {S : Sh} {M : Mem} {μ : Place} {st : St} {a : Act} {w : World} {K : St → Prop} {Q : Exit → Act → World → Prop} {o : Oper} {d : Nat}
theorem snd_mkgm (h : Rel GL n S M μ st a w) {t : TypeId} {r : Option Operand} {ls : List LK} (ho : o.op = .makeMap t r) (hr : r = none) (hd : o.dst = some d) (hn : d < n) (hs : step P GL (.mkgm d ls) st K) : o.wpX P a w (Goal GL n S M w K) Q := by
  subst hr
  simp only [step, mkgmE] at hs
  split at hs
  · rename_i hnm
    have h0 : Rel GL n S M μ st a (w.alloc (.map #[] 0)) := h.of (h.toStoOk.alloc _) (Mem.le_refl _) fun _ _ hv => hv
    have h2 : Rel GL n S M (updP μ d (.map (some w.heap.size))) (st.bind d (.gmap ls 0 [])) a (w.alloc (.map #[] 0)) := by
      refine h0.bindName hnm hn ⟨w.heap.size, #[], updP_self _ _ _, ⟨fun hS => by have := h.low _ hS; omega, heap_alloc_self w _, Mem.unk_new h.sub (Nat.le_refl _)⟩, ⟨rfl, fun j hj => by simp at hj⟩, ⟨by simp, by simp⟩, by simp⟩ fun m k hm hk => ?_
      have := (h.toStoOk.lt hm hk).1
      grind [blockOf]
    refine wp_value (v := .map (some w.heap.size)) (w' := w.alloc (.map #[] 0)) ?_ ⟨_, hs, M, _, by rw [hd]; exact h2.put hn ⟨names_self, w.heap.size, updP_self _ _ _, rfl⟩, MExt.refl _ _, keeps_alloc w _ h.low⟩
    simp [execOp, ho, Instr.makeMap]
  · exact hs.elim
theorem repD_tup2 {N : Nat → Prop} {c1 : Cp} {x : I} {v1 v2 : Value} (h1 : RepC M μ N c1 v1) (h2 : Rep M x v2) : RepD M μ N (.tup [c1, .i x]) (.tuple #[v1, v2]) :=
  ⟨#[v1, v2], rfl, rfl, fun j a b => by
    match j with
    | 0 => exact h1
    | 1 => exact h2
    | j + 2 => simp at a; omega⟩
theorem gidx_eq (es : List (I × Nat × D)) (q : I) : gidx es q = midx es q := rfl
theorem snd_lookg (h : Rel GL n S M μ st a w) {t k e : TypeId} {x ix : Operand} {ox oi : O} {ok : Bool} {ls : List LK} {i : TypeInfo} {z : Value} {zi : I} (ho : o.op = .lookup t x ix ok) (hd : o.dst = some d) (hn : d < n) (hx : cO GL x = some ox) (hix : cO GL ix = some oi)
    (hu : P.underlying t = some (.map k e)) (hk : keyT P k = some ls) (hi : P.info? e = some i) (hz : i.zero = some z) (hc : constI z = some zi) (hs : step P GL (.lookg d ox oi zi ok ls) st K) : o.wpX P a w (Goal GL n S M w K) Q := by
  have hr := opv_rep h hx
  have hri := opv_rep h hix
  have fall : lookE (opv GL st ox) (opv GL st oi) zi ok ls d st K → o.wpX P a w (Goal GL n S M w K) Q := fun hs => snd_lookup h ho hd hn hx hix hu hk hi hz hc (by simpa only [step] using hs)
  simp only [step, lookgE] at hs
  split at hs
  · rename_i nm q e1 e2
    rw [e1] at hr; rw [e2] at hri
    obtain ⟨hf, hs⟩ := hs
    have hri := repD_i_inv hri
    obtain ⟨hN, b, hμ, hX⟩ := hr
    unfold lookgB at hs
    split at hs
    · rename_i ls' clk es hg
      obtain ⟨rfl, hs⟩ := hs
      obtain ⟨b', xs, hμ', hown, he, hbb, hfe⟩ := h.blk nm _ hg
      rw [hμ] at hμ'; cases hμ'
      have hck := run_key_check (P := P) (w := w) hk hri hf
      have hfd := run_findKey' (P := P) (w := w) hk hri hf he.keys hfe
      have fin : ∀ (V : Value) (X : D), (Instr.lookup t (a.eval x) (a.eval ix) ok).run P w = .ok V w → RepD M μ (names st.sto) X V → K (st.put d X) → o.wpX P a w (Goal GL n S M w K) Q := fun V X hrun hv hK =>
        wp_put h hd hn (by simp only [execOp, ho, Sem.run_bind, hrun, Result.andThen_ok, Sem.run_pure]) hv hK
      simp only [gget, gidx_eq] at hs
      cases hm : midx es q with
      | none =>
        rw [hm] at hfd hs
        simp only [gout] at hs
        refine fin (if ok then .tuple #[z, .bool false] else z) _ ?_ ?_ hs
        · simp only [Option.bind_none] at hfd
          rw [hX]
          simp [Instr.lookup, run_underlying hu, MapKept.run_getObj_map hown.heap, hck, hfd, zeroValue, typeInfo, hi, hz]
        · cases ok with
          | true => exact repD_i (Rep.tup' (RepL.cons (constI_rep hc) (RepL.cons (.bool _) (RepL.nil M))))
          | false => exact repD_i (constI_rep hc)
      | some j =>
        have hj := midx_lt hm
        have hj' : j < xs.size := by have := he.1; simp at this; omega
        rw [hm] at hfd hs
        simp only [List.getElem?_eq_getElem hj, Option.map_some, gout] at hs
        have hv := (he.2 j hj (by simpa using hj')).2.2
        have hrun : (Instr.lookup t (a.eval x) (a.eval ix) ok).run P w = .ok (if ok then .tuple #[xs.toList[j].val, .bool true] else xs.toList[j].val) w := by
          simp only [Option.bind_some, List.getElem?_eq_getElem (show j < xs.toList.length by simpa using hj'), Option.map_some] at hfd
          rw [hX]
          simp [Instr.lookup, run_underlying hu, MapKept.run_getObj_map hown.heap, hck, hfd]
        cases ok with
        | true =>
          simp only [if_true] at hs hrun
          split at hs
          · rename_i c hcp
            exact fin _ _ hrun (repD_tup2 (toCp_rep hv hcp) (Rep.bool true)) hs
          · exact hs.elim
        | false =>
          simp only [Bool.false_eq_true, if_false] at hs hrun
          exact fin _ _ hrun hv hs
    · refine fall ?_
      rw [e1, e2]
      exact ⟨hf, hs⟩
  · exact fall hs
theorem snd_mupdg (h : Rel GL n S M μ st a w) {t k e : TypeId} {x ix y : Operand} {ox oi oy : O} {ls : List LK} (ho : o.op = .mapUpdate t x ix y ∨ o.op = .insert t x ix y) (hd : o.dst = none) (hx : cO GL x = some ox) (hix : cO GL ix = some oi) (hy : cO GL y = some oy)
    (hu : P.underlying t = some (.map k e)) (hk : keyT P k = some ls) (hs : step P GL (.mupdg ox oi oy ls) st K) : o.wpX P a w (Goal GL n S M w K) Q := by
  have hr := opv_rep h hx
  have hri := opv_rep h hix
  have hry := opv_rep h hy
  simp only [step, mupdgE] at hs
  split at hs
  · rename_i nm q e1 e2
    obtain ⟨hf, hs⟩ := hs
    unfold mupdgB at hs
    split at hs
    · rename_i v ls' clk es hg
      rw [e1] at hr; rw [e2] at hri
      have hri := repD_i_inv hri
      obtain ⟨hN, b, hμ, hX⟩ := hr
      obtain ⟨rfl, hs⟩ := hs
      obtain ⟨b', xs, hμ', hown, he, hbb, hfe⟩ := h.blk nm _ hg
      rw [hμ] at hμ'; cases hμ'
      have hck := run_key_check (P := P) (w := w) hk hri hf false
      have hfd := run_findKey' (P := P) (w := w) hk hri hf he.keys hfe
      have fin : ∀ (xs' : Array MapEntry) (clk' : Nat) (es' : List (I × Nat × D)), (Instr.mapUpdate t (a.eval x) (a.eval ix) (a.eval y)).run P w = .ok () (putObj w b (.map xs' clk')) → GEnts M μ (names st.sto) xs'.toList es' → Births xs'.toList clk' → (∀ e ∈ es', fitQ ls' e.1 = true) →
          K (st.setB nm (.gmap ls' clk' es')) → o.wpX P a w (Goal GL n S M w K) Q := fun xs' clk' es' hrun q1 q2 q3 hK => by
        have hkp := keeps_putObj w b (.map xs' clk') hown.low
        refine wp_skipped (w' := putObj w b (.map xs' clk')) ?_ ⟨_, hK, M, μ, ?_, MExt.refl _ _, hkp⟩
        · rcases ho with ho | ho <;> simp only [execOp, ho, Sem.run_bind, hrun, Result.andThen_ok, Sem.run_pure]
        · rw [hd]
          exact h.setBlk (blk' := .gmap ls' clk' es') hg (by rw [hμ]; rfl) hkp.size (fun k hk _ => putObj_other hk) ⟨b, xs', hμ, ⟨hown.low, putObj_self hown.heap, hown.unk⟩, by rw [names_setS]; exact q1, q2, q3⟩
      simp only [gput, gidx_eq] at hs
      cases hj : midx es q with
      | none =>
        rw [hj] at hs hfd
        simp only at hs
        refine fin (xs.push { key := a.eval ix, val := a.eval y, born := clk }) (clk + 1) _ ?_ ?_ (births_push hbb _ _) (fun e he => (List.mem_append.1 he).elim (hfe e) (fun q => by simp at q; subst q; exact hf)) hs
        · simp only [Option.bind_none] at hfd
          simp [Instr.mapUpdate, run_underlying hu, hX, MapKept.run_getObj_map hown.heap, hck, hfd, MapKept.run_setObj_map _ hown.heap, putObj]
        · simp only [Array.toList_push]
          refine ⟨by simp [he.1], fun j h1 h2 => ?_⟩
          by_cases hjl : j < es.length
          · rw [List.getElem_append_left hjl, List.getElem_append_left (by rw [he.1]; exact hjl)]
            exact he.2 j hjl _
          · obtain rfl : j = es.length := by simp at h1; omega
            rw [List.getElem_append_right (by omega), List.getElem_append_right (by rw [he.1]; omega)]
            have hel := he.1
            simp only [Nat.sub_self, List.getElem_cons_zero, hel]
            exact ⟨hri, trivial, hry⟩
      | some j =>
        have hjl := midx_lt hj
        have hjx : j < xs.size := by have := he.1; simp at this; omega
        rw [hj] at hs hfd
        simp only at hs
        have hj2 := he.2 j hjl (by simpa using hjx)
        have hsb := sameBits_key hj2.1 hri (hfe _ (List.getElem_mem hjl)) hf (midx_key hj hjl)
        refine fin (xs.modify j fun e => { e with key := a.eval ix, val := a.eval y }) clk _ ?_ ?_ (births_modify hbb _ _ (fun _ => rfl)) (fun e he => ?_) hs
        · simp only [Option.bind_some, Array.getElem?_toList, Array.getElem?_eq_getElem hjx, Option.map_some] at hfd
          simp only [Array.getElem_toList] at hsb
          simp [Instr.mapUpdate, run_underlying hu, hX, MapKept.run_getObj_map hown.heap, hck, hfd, Instr.keyThatStays, hjx, hsb, MapKept.run_setObj_map _ hown.heap, putObj]
        · refine ⟨by simp; simpa using he.1, fun i h1 h2 => ?_⟩
          have hi1 : i < es.length := by grind
          have hi2 : i < xs.size := by grind
          have := he.2 i hi1 (by simpa using hi2)
          simp only [Array.getElem_toList, Array.getElem_modify, List.getElem_modify]
          by_cases hji : j = i
          · subst hji; simp only [if_true]; exact ⟨hri, by simpa using this.2.1, hry⟩
          · rw [if_neg hji, if_neg hji]; simpa using this
        · obtain ⟨i, hi1, rfl⟩ := List.getElem_of_mem he
          rw [List.getElem_modify]
          split
          · exact hf
          · exact hfe _ (List.getElem_mem _)
    · rename_i ls' es u hg e3
      refine snd_mupd h ho hd hx hix hy hu hk ?_
      simp only [step, mupdE, e1, e2, e3, hg, mupdB]
      exact ⟨hf, hs⟩
    · exact hs.elim
  · exact hs.elim
theorem constI_nilsl {z : Value} (h : constI z = some (.sl [])) : z = .slice none 0 0 := by
  unfold constI at h
  split at h
  · simp only [Option.map_eq_some_iff] at h
    obtain ⟨_, _, h⟩ := h; cases h
  · unfold const1 at h
    split at h <;> cases h
    rfl
theorem entNm_pin (d clk : Nat) : ¬ pinned (entNm d clk) := by grind [pinned,entNm]
theorem snd_ment (h : Rel GL n S M μ st a w) {t k e : TypeId} {x ix : Operand} {ox oi : O} {ls : List LK} {i : TypeInfo} {z : Value} {zi : I} {ee kk : Nat} (ho : o.op = .mapEntry t x ix) (hd : o.dst = some d) (hn : d < n) (hx : cO GL x = some ox) (hix : cO GL ix = some oi)
    (hu : P.underlying t = some (.map k e)) (hk : keyT P k = some ls) (hi : P.info? e = some i) (hz : i.zero = some z) (hc : constI z = some zi) (hs : step P GL (.ment d ox oi zi ls ee kk) st K) : o.wpX P a w (Goal GL n S M w K) Q := by
  have hr := opv_rep h hx
  have hri := opv_rep h hix
  simp only [step, mentE] at hs
  split at hs
  · rename_i nm q e1 e2
    obtain ⟨hf, hs⟩ := hs
    rw [e1] at hr; rw [e2] at hri
    have hri := repD_i_inv hri
    obtain ⟨hN, b, hμ, hX⟩ := hr
    unfold mentB at hs
    split at hs
    · rename_i ls' clk es hg
      obtain ⟨rfl, hs⟩ := hs
      obtain ⟨b', xs, hμ', hown, he, hbb, hfe⟩ := h.blk nm _ hg
      rw [hμ] at hμ'; cases hμ'
      have hck := run_key_check (P := P) (w := w) hk hri hf false
      have hfd := run_findKey' (P := P) (w := w) hk hri hf he.keys hfe
      rw [gidx_eq] at hs
      cases hj : midx es q with
      | none =>
        rw [hj] at hs hfd
        simp only at hs
        unfold mentZ at hs
        split at hs
        · rename_i hfr
          have hzv := constI_nilsl hc
          subst hzv
          have hb := h.bindEmptyN hfr (entNm_pin d clk) none ee kk
          have hkp := keeps_putObj w b (.map (xs.push { key := a.eval ix, val := .slice none 0 0, born := clk }) (clk + 1)) hown.low
          have hne : nm ≠ entNm d clk := fun e => by grind
          have hμ2 : updP μ (entNm d clk) (.slice none 0 0) nm = .map (some b) := by grind [updP_other]
          have hg2 : getS (st.bind (entNm d clk) (.rows ee kk [])).sto nm = some (.gmap ls' clk es) := by grind [St.bind,getS]
          have he2 : GEnts M (updP μ (entNm d clk) (.slice none 0 0)) (names ((entNm d clk, .rows ee kk []) :: st.sto)) xs.toList es := he.mono (Mem.le_refl _) fun e _ m _ hm => ⟨names_cons m hm, updP_other _ _ fun e => by subst e; simp [names, hfr] at hm⟩
          have hz0 : RepRef (updP μ (entNm d clk) (.slice none 0 0)) (names ((entNm d clk, .rows ee kk []) :: st.sto)) (.sl (entNm d clk) kk 0 0) (.slice none 0 0) := ⟨names_self, by rw [updP_self]; exact slAt_empty _ _⟩
          have hset : Rel GL n S M (updP μ (entNm d clk) (.slice none 0 0)) ((st.bind (entNm d clk) (.rows ee kk [])).setB nm (.gmap ls' (clk + 1) (es ++ [(q, clk, .ref (.sl (entNm d clk) kk 0 0))]))) a (putObj w b (.map (xs.push { key := a.eval ix, val := .slice none 0 0, born := clk }) (clk + 1))) := by
            refine hb.setBlk (blk' := .gmap ls' (clk + 1) (es ++ [(q, clk, .ref (.sl (entNm d clk) kk 0 0))])) hg2 (by rw [hμ2]; rfl) hkp.size (fun k hk _ => putObj_other hk) ⟨b, _, hμ2, ⟨hown.low, putObj_self hown.heap, hown.unk⟩, ?_, births_push hbb _ _, fun e he => (List.mem_append.1 he).elim (hfe e) (fun q => by simp at q; subst q; exact hf)⟩
            rw [names_setS]
            simp only [Array.toList_push]
            refine ⟨by simp [he2.1], fun j h1 h2 => ?_⟩
            by_cases hjl : j < es.length
            · rw [List.getElem_append_left hjl, List.getElem_append_left (by rw [he2.1]; exact hjl)]
              exact he2.2 j hjl _
            · obtain rfl : j = es.length := by grind
              rw [List.getElem_append_right (by omega), List.getElem_append_right (by rw [he2.1]; omega)]
              have hel := he2.1
              simp only [Nat.sub_self, List.getElem_cons_zero, hel]
              exact ⟨hri, trivial, hz0⟩
          refine wp_value (v := .tuple #[.slice none 0 0, goInt clk]) (w' := putObj w b (.map (xs.push { key := a.eval ix, val := .slice none 0 0, born := clk }) (clk + 1))) ?_ ⟨_, hs, M, _, by
            rw [hd]
            refine hset.put hn (repD_tup2 ?_ (Rep.int .i64 (clk : Int)))
            simp only [St.setB, St.bind]; rw [names_setS]; exact hz0, MExt.refl _ _, hkp⟩
          simp only [Option.bind_none] at hfd
          simp [execOp, ho, Instr.mapEntry, run_underlying hu, hX, MapKept.run_getObj_map hown.heap, hck, hfd, zeroValue, typeInfo, hi, hz, MapKept.run_setObj_map _ hown.heap, putObj]
        · exact hs.elim
      | some j =>
        have hjl := midx_lt hj
        have hjx : j < xs.size := by have := he.1; simp at this; omega
        rw [hj] at hs hfd
        simp only [List.getElem?_eq_getElem hjl, mentV] at hs
        have hj2 := he.2 j hjl (by simpa using hjx)
        have hsb := sameBits_key hj2.1 hri (hfe _ (List.getElem_mem hjl)) hf (midx_key hj hjl)
        split at hs
        · rename_i c hcp
          have hkp := keeps_putObj w b (.map (xs.modify j fun e => { e with key := a.eval ix }) clk) hown.low
          have hset : Rel GL n S M μ (st.setB nm (.gmap ls' clk (es.modify j fun e => (q, e.2)))) a (putObj w b (.map (xs.modify j fun e => { e with key := a.eval ix }) clk)) := by
            refine h.setBlk (blk' := .gmap ls' clk (es.modify j fun e => (q, e.2))) hg (by rw [hμ]; rfl) hkp.size (fun k hk _ => putObj_other hk) ⟨b, _, hμ, ⟨hown.low, putObj_self hown.heap, hown.unk⟩, ?_, births_modify hbb _ _ (fun _ => rfl), fun e he => ?_⟩
            · rw [names_setS]
              refine ⟨by simp; simpa using he.1, fun i h1 h2 => ?_⟩
              have hi1 : i < es.length := by grind
              have hi2 : i < xs.size := by grind
              have := he.2 i hi1 (by simpa using hi2)
              grind
            · obtain ⟨i, hi1, rfl⟩ := List.getElem_of_mem he
              grind
          refine wp_value (v := .tuple #[xs[j].val, goInt xs[j].born]) (w' := putObj w b (.map (xs.modify j fun e => { e with key := a.eval ix }) clk)) ?_ ⟨_, hs, M, μ, by
            rw [hd]
            have e9 : xs[j].born = es[j].2.1 := by grind
            rw [show goInt xs[j].born = Value.int .i64 (es[j].2.1 : Int) by rw [e9]; rfl]
            refine hset.put hn (repD_tup2 ?_ (Rep.int .i64 _))
            have := toCp_rep hj2.2.2 hcp
            simp only [St.setB]; rw [names_setS]
            simpa using this, MExt.refl _ _, hkp⟩
          simp only [Option.bind_some, Array.getElem?_toList, Array.getElem?_eq_getElem hjx, Option.map_some] at hfd
          simp only [Array.getElem_toList] at hsb
          simp [execOp, ho, Instr.mapEntry, run_underlying hu, hX, MapKept.run_getObj_map hown.heap, hck, hfd, Instr.keyThatStays, hjx, hsb, MapKept.run_setObj_map _ hown.heap, putObj]
        · exact hs.elim
    · exact hs.elim
  · exact hs.elim
theorem snd_ests (h : Rel GL n S M μ st a w) {t : TypeId} {x s y : Operand} {ox os oy : O} (ho : o.op = .entryStore t x s y) (hd : o.dst = none) (hx : cO GL x = some ox) (hsx : cO GL s = some os) (hy : cO GL y = some oy)
    (hs : step P GL (.ests ox os oy) st K) : o.wpX P a w (Goal GL n S M w K) Q := by
  have hr := opv_rep h hx
  have hrs := opv_rep h hsx
  have hry := opv_rep h hy
  simp only [step, estsE] at hs
  split at hs
  · rename_i nm kk sn e1 e2
    rw [e1] at hr; rw [e2] at hrs
    have hsv := int_inv (repD_i_inv hrs)
    obtain ⟨hN, b, hμ, hX⟩ := hr
    unfold estsB at hs
    split at hs
    · rename_i ls clk es hg
      obtain ⟨hany, hs⟩ := hs
      obtain ⟨b', xs, hμ', hown, he, hbb, hfe⟩ := h.blk nm _ hg
      rw [hμ] at hμ'; cases hμ'
      rw [List.any_eq_true] at hany
      obtain ⟨e0, hm0, hb0⟩ := hany
      obtain ⟨j, hj, rfl⟩ := List.getElem_of_mem hm0
      have hjx : j < xs.size := by have := he.1; simp at this; omega
      have hbj : xs[j].born = es[j].2.1 := by have := (he.2 j hj (by simpa using hjx)).2.1; rw [Array.getElem_toList] at this; exact this
      have hsn : sn = (es[j].2.1 : Int) := (beq_iff_eq.1 hb0).symm
      have huniq : ∀ i (hi : i < xs.size), xs[i].born = xs[j].born → i = j := fun i hi e => by
        have hnd := hbb.1
        have hi' : i < (xs.toList.map (·.born)).length := by grind
        have hj' : j < (xs.toList.map (·.born)).length := by grind
        rw [List.nodup_iff_pairwise_ne, List.pairwise_iff_getElem] at hnd
        grind
      have hfi : xs.findIdx? (fun e => (e.born : Int) == sn) = some j := by
        rw [Array.findIdx?_eq_some_iff_getElem]
        grind
      have hkp := keeps_putObj w b (.map (xs.modify j fun e => { e with val := a.eval y }) clk) hown.low
      have hset : Rel GL n S M μ (st.setB nm (.gmap ls clk (es.map fun e => if ((e.2.1 : Int) == sn) = true then (e.1, e.2.1, opv GL st oy) else e))) a (putObj w b (.map (xs.modify j fun e => { e with val := a.eval y }) clk)) := by
        refine h.setBlk (blk' := .gmap ls clk (es.map fun e => if ((e.2.1 : Int) == sn) = true then (e.1, e.2.1, opv GL st oy) else e)) hg (by rw [hμ]; rfl) hkp.size (fun k hk _ => putObj_other hk) ⟨b, _, hμ, ⟨hown.low, putObj_self hown.heap, hown.unk⟩, ?_, births_modify hbb _ _ (fun _ => rfl), fun e he => ?_⟩
        · rw [names_setS]
          refine ⟨by simp; simpa using he.1, fun i h1 h2 => ?_⟩
          have hi1 : i < es.length := by grind
          have hi2 : i < xs.size := by grind
          have := he.2 i hi1 (by simpa using hi2)
          grind
        all_goals grind
      refine wp_skipped (w' := putObj w b (.map (xs.modify j fun e => { e with val := a.eval y }) clk)) ?_ ⟨_, hs, M, μ, by rw [hd]; exact hset, MExt.refl _ _, hkp⟩
      simp [execOp, ho, Instr.entryStore, hX, hsv, asInt, asIntOf, MapKept.run_getObj_map hown.heap, hfi, MapKept.run_setObj_map _ hown.heap, putObj]
    · exact hs.elim
  · exact hs.elim
theorem snd_cap (h : Rel GL n S M μ st a w) {t e : TypeId} {x : Operand} {ox : O} (ho : o.op = .call { callee := .builtin .cap, args := #[x], argTypes := #[t] }) (hd : o.dst = some d) (hn : d < n)
    (hx : cO GL x = some ox) (hu : P.underlying t = some (.slice e)) (hs : step P GL (.cap d ox) st K) : o.wpX P a w (Goal GL n S M w K) Q := by
  have hr := opv_rep h hx
  simp only [step, capE] at hs
  split at hs
  · rename_i nm k0 lo hi e1
    rw [e1] at hr
    obtain ⟨hN, aa, cap, hμ, hlo, hcap, hsl⟩ := hr
    have hv : ∃ A l, a.eval x = .slice A l (cap - lo) := by
      rcases hsl with ⟨rfl, a', hv⟩ | ⟨b, oo, rfl, hv⟩
      all_goals grind
    obtain ⟨A, l, hv⟩ := hv
    have hrun : (execOp a.eval o).run P w = .ok (.value (.int .i64 ((cap - lo : Nat) : Int))) w := by
      simp only [execOp, ho, resolve, Sem.run_bind, Sem.run_pure, Result.andThen_ok, invoke, builtin, List.map_toArray, List.map_cons, List.map_nil, hv]
      simp [Builtin.cap_, run_underlying hu w, goInt]
    unfold capB at hs
    split at hs
    · rename_i e' k' rs hg
      rw [arr_cap h hg hμ] at hs
      exact wp_put h hd hn hrun (repD_i (.int .i64 _)) hs
    · exact wp_put h hd hn hrun (repD_i (.int .i64 _)) (hs (cap - lo) (by omega))
    · exact hs.elim
  · exact hs.elim
theorem run_copy_op {t t' : TypeId} {x y : Operand} {v' : Value} {w' : World} (ho : o.op = .call { callee := .builtin .copy, args := #[x, y], argTypes := #[t, t'] })
    (h : (Builtin.copy_ #[t, t'] o.type #[a.eval x, a.eval y]).run P w = .ok v' w') : (execOp a.eval o).run P w = .ok (.value v') w' := by
  simp only [execOp, ho, resolve, Sem.run_bind, Sem.run_pure, Result.andThen_ok, invoke, builtin, List.map_toArray, List.map_cons, List.map_nil, h]
theorem run_clear_op {t : TypeId} {x : Operand} {v' : Value} {w' : World} (ho : o.op = .call { callee := .builtin .clear, args := #[x], argTypes := #[t] })
    (h : (Builtin.clear_ #[t] o.type #[a.eval x]).run P w = .ok v' w') : (execOp a.eval o).run P w = .ok (.value v') w' := by
  simp only [execOp, ho, resolve, Sem.run_bind, Sem.run_pure, Result.andThen_ok, invoke, builtin, List.map_toArray, List.map_cons, List.map_nil, h]
theorem run_copy_rows (dT sT ty e k : TypeId) (hu : P.underlying dT = some (.slice e)) (hk : szT P e = some k) (g og dLen dCap : Nat) (bb : Addr) (sLen sCap : Nat) (cur : Array Value) (t : TypeId) (us : List Value)
    (hg : w.heap[g]? = some (.cells cur t (0, 0))) (hul : us.length = Nat.min sLen dLen * k) (hsrc : ∀ j u, us[j]? = some u → w.cell? (bb.add j) = some u) (hfit : og + us.length ≤ cur.size) (h1 : ∀ u ∈ us, u.oneCell' = true) :
    (Builtin.copy_ #[dT, sT] ty #[.slice (some ⟨g, og, none⟩) dLen dCap, .slice (some bb) sLen sCap]).run P w = .ok (goInt (Nat.min sLen dLen)) (w.setRow g (setL cur.toList og us).toArray) := by
  have hf := run_firstCells_some (P := P) w k (Nat.min sLen dLen) bb sLen sCap us hul hsrc
  have hst := run_storeCells_at P g og t us 0 cur w hg (by simpa using hfit) h1
  simp only [Nat.add_zero] at hst
  have hs := run_sizeOf' (P := P) hk
  simp [Builtin.copy_, run_underlying hu, Builtin.lenOf, hs, hf, hst, setL]
theorem run_copy_zero (dT sT ty e k : TypeId) (hu : P.underlying dT = some (.slice e)) (hk : szT P e = some k) (A B : Option Addr) (dLen dCap sLen sCap : Nat) (h0 : Nat.min sLen dLen = 0) :
    (Builtin.copy_ #[dT, sT] ty #[.slice A dLen dCap, .slice B sLen sCap]).run P w = .ok (goInt 0) w := by
  have hs := run_sizeOf' (P := P) hk
  have hl : ∀ (x : Addr), (loadCells x 0).run P w = .ok #[] w := fun x => by rfl
  cases A <;> cases B <;> simp [Builtin.copy_, run_underlying hu, Builtin.lenOf, Builtin.firstCells, hs, h0, storeCells, hl]
theorem Rel.setSame (h : Rel GL n S M μ st a w) {nm : Nat} {b : Blk} (hg : getS st.sto nm = some b) : Rel GL n S M μ (st.setB nm b) a w := by
  refine h.of (st' := st.setB nm b) ⟨h.sub, fun m x hx => ?_, fun m m' k k' hne h1 h2 => ?_, h.low⟩ (Mem.le_refl _) fun s v hv => by grind [St.setB,names_setS]
  · simp only [St.setB, getS_setS] at hx ⊢
    rw [names_setS]
    split at hx
    · rename_i e; subst e; rw [hg] at hx; cases hx; exact h.blk _ _ hg
    · exact h.blk _ _ hx
  · simp only [St.setB, names_setS] at h1 h2
    exact h.sep m m' k k' hne h1 h2
theorem Rel.putO (h : Rel GL n S M μ st a w) {od : Option Nat} (hd : ∀ d, od = some d → d < n) {x : D} {v : Value} (hx : RepD M μ (names st.sto) x v) : Rel GL n S M μ (Dl.putO st od x) (a.put od v) w := by
  cases od with
  | none => exact h
  | some d => exact h.put (hd d rfl) hx
theorem srcP_cells (h : Rel GL n S M μ st a w) {Y : D} {v : Value} (hr : RepD M μ (names st.sto) Y v) {top len : Nat} {ys : List (List I)} (hs : srcP (getS st.sto) Y top = some (len, ys)) {k : Nat} (hk : rowsOne k ys) :
    ys.length = min len top ∧ (∃ A c, v = .slice A len c) ∧ (ys ≠ [] → ∃ bb oo ycap, ∃ us : List Value, v = .slice (some ⟨bb, oo, none⟩) len ycap ∧ us.length = ys.length * k ∧ (∀ j u, us[j]? = some u → w.cell? ⟨bb, oo + j, none⟩ = some u) ∧ (∀ u ∈ us, u.oneCell' = true) ∧
      ∀ i (hi : i < ys.length) j (hj : j < ys[i].length), ∃ u, us[i * k + j]? = some u ∧ Rep M (ys[i][j]) u) := by
  cases Y with
  | i x =>
    cases x with
    | sl rows =>
      simp only [srcP, Option.some.injEq, Prod.mk.injEq] at hs
      obtain ⟨rfl, rfl⟩ := hs
      have hr : Rep M (.sl rows) v := hr
      have hsl : ∃ A c, v = .slice A rows.length c := by
        cases hr with
        | slnil => exact ⟨_, _, rfl⟩
        | slempty => exact ⟨_, _, rfl⟩
        | sl => exact ⟨_, _, rfl⟩
      refine ⟨by rw [List.length_take, Nat.min_comm], hsl, fun hne => ?_⟩
      cases hr with
      | slnil => simp at hne
      | slempty => simp at hne
      | sl _ k' b oo cap vv hk' hc hm hrr =>
        have hpos : 0 < (rows.take top).length := List.length_pos_iff.2 hne
        have hsub : Rep M (.sl (rows.take top)) (.slice (some ⟨b, oo, none⟩) (rows.take top).length cap) :=
          Rep.sl (rows.take top) k' b oo cap vv (fun r hr => hk' r (List.mem_of_mem_take hr)) (by rw [List.length_take]; omega)
            (fun i hi j hj => by rw [List.getElem_take] at hj; exact hm i (by rw [List.length_take] at hi; omega) j hj)
            (fun i hi j hj => by
              have hj' := hj
              rw [List.getElem_take] at hj'
              have := hrr i (by rw [List.length_take] at hi; omega) j hj'
              simpa using this)
        obtain ⟨_, s2⟩ := src_cells (Y := .i (.sl (rows.take top))) h (repD_i hsub) rfl hk
        obtain ⟨bb, o2, yc, us, e1, q⟩ := s2 hne
        injection e1 with e1 e2 e3
        injection e1 with e1
        injection e1 with e4 e5
        subst e4; subst e5
        exact ⟨b, oo, cap, us, rfl, q⟩
    | _ => simp [srcP] at hs
  | ref r =>
   cases r with
   | sl nm k0 lo hi =>
    simp only [srcP] at hs
    split at hs
    rotate_left
    · cases hs
    rename_i r hsb
    simp only [Option.some.injEq, Prod.mk.injEq] at hs
    obtain ⟨rfl, rfl⟩ := hs
    obtain ⟨hN, aa, cap, hμ, hlo, hcap, hsl⟩ := hr
    have hsl2 : ∃ A c, v = .slice A (hi - lo) c := by
      rcases hsl with ⟨rfl, a', hv⟩ | ⟨b, o, rfl, hv⟩
      · exact ⟨_, _, by rw [hv]; congr 1; omega⟩
      · exact ⟨_, _, hv⟩
    have hlen : r.length = min (hi - lo) top := by
      unfold srcB at hsb
      split at hsb
      · split at hsb
        · rename_i hc
          cases hsb
          simp; omega
        · cases hsb
      · split at hsb
        · rename_i hc
          have := congrArg List.length (allK_eq hsb)
          simp at this; omega
        · cases hsb
      · cases hsb
    refine ⟨hlen, hsl2, fun hne => ?_⟩
    have hpos : 0 < r.length := List.length_pos_iff.2 hne
    rcases hsl with ⟨rfl, a', hv⟩ | ⟨b, o, rfl, hv⟩
    · omega
    · have hr2 : RepD M μ (names st.sto) (.ref (.sl nm k0 lo (min hi (lo + top)))) (.slice (some ⟨b, o + lo * k0, none⟩) (min hi (lo + top) - lo) (cap - lo)) :=
        ⟨hN, _, cap, hμ, by omega, by omega, .inr ⟨b, o, rfl, rfl⟩⟩
      obtain ⟨_, s2⟩ := src_cells h hr2 (by simp only [srcK]; exact hsb) hk
      obtain ⟨bb, o2, yc, us, e1, q⟩ := s2 hne
      injection e1 with e1 e2 e3
      injection e1 with e1
      injection e1 with e4 e5
      subst e4; subst e5
      exact ⟨b, o + lo * k0, cap - lo, us, hv, q⟩
   | _ => simp [srcP] at hs
  | _ => simp [srcP] at hs
theorem snd_cpy (h : Rel GL n S M μ st a w) {t t' e k : TypeId} {x y : Operand} {ox oy : O} (ho : o.op = .call { callee := .builtin .copy, args := #[x, y], argTypes := #[t, t'] }) (hd : ∀ d, o.dst = some d → d < n)
    (hx : cO GL x = some ox) (hy : cO GL y = some oy) (hu : P.underlying t = some (.slice e)) (hk : szT P e = some k) (hs : step P GL (.cpy o.dst ox oy e k) st K) : o.wpX P a w (Goal GL n S M w K) Q := by
  have hr := opv_rep h hx
  have hry := opv_rep h hy
  simp only [step, cpyE] at hs
  split at hs
  · rename_i nm k0 lo hi e1
    rw [e1] at hr
    obtain ⟨hN, aa, cap, hμ, hlo, hcap, hsl⟩ := hr
    unfold cpyB at hs
    split at hs
    · rename_i e' k' rs len ys hg hsrc
      obtain ⟨rfl, rfl, rfl, hhi, hone, hs⟩ := hs
      obtain ⟨hyl, ⟨A0, c0, hyv0⟩, s2⟩ := srcP_cells h hry hsrc hone
      have hcl := arr_cap h hg hμ
      have hmin : Nat.min len (hi - lo) = min len (hi - lo) := rfl
      by_cases h0 : min len (hi - lo) = 0
      · have hz : ys.map some = [] := by
          have : ys = [] := List.eq_nil_of_length_eq_zero (by omega)
          rw [this]; rfl
        rw [hz, setL_nil, h0] at hs
        have hrun : (execOp a.eval o).run P w = .ok (.value (goInt 0)) w := by
          refine run_copy_op ho ?_
          have hxv : ∃ A l c, a.eval x = .slice A l c ∧ l = hi - lo := by
            rcases hsl with ⟨rfl, a', hv⟩ | ⟨b1, o1, rfl, hv⟩
            · exact ⟨_, _, _, hv, by omega⟩
            · exact ⟨_, _, _, hv, rfl⟩
          obtain ⟨A, l, c, hxv, rfl⟩ := hxv
          rw [hxv, hyv0]
          exact run_copy_zero t t' _ _ _ hu hk _ _ _ _ _ _ h0
        exact wp_value hrun ⟨_, hs, M, μ, (h.setSame hg).putO hd (repD_i (.int .i64 0)), MExt.refl _ _, Keeps.refl _ _⟩
      · have hne : ys ≠ [] := fun e => by subst e; simp at hyl; omega
        obtain ⟨bb, oo, ycap, us, hyv, hul, hum, huo, hur⟩ := s2 hne
        rcases hsl with ⟨rfl, a', hv⟩ | ⟨b1, o1, rfl, hv⟩
        · omega
        · obtain ⟨cur, hown, q1, q2, q3, q4⟩ := arr_blk h hg hμ (by omega)
          have hbo : blockOf (μ nm) = some b1 := by rw [hμ]; simp only [blockOf]; rw [if_neg (by omega)]
          generalize hm : min len (hi - lo) = m at h0 hs hmin hyl
          have hmh : m ≤ hi - lo := by omega
          have hul2 : us.length = m * k0 := by rw [hul, hyl]
          have hmul : lo * k0 + m * k0 ≤ hi * k0 := by rw [← Nat.add_mul]; exact Nat.mul_le_mul_right _ (by omega)
          have hhc : hi * k0 ≤ cap * k0 := Nat.mul_le_mul_right _ hcap
          have hrun := run_copy_rows (P := P) (w := w) t t' o.type e' k0 hu hk b1 (o1 + lo * k0) (hi - lo) (cap - lo) ⟨bb, oo, none⟩ len ycap cur e' us hown.heap (by rw [hul2, hmin]) (fun j u hu => by rw [add_zero_spot]; exact hum j u hu) (by rw [hul2]; omega) huo
          rw [hmin] at hrun
          have hkp := keeps_setRow w b1 (setL cur.toList (o1 + lo * k0) us).toArray hown.low
          have hset := q4.set (by rw [q1]; omega) (lo := lo) (bs := ys) (us := us) hone.1 hul hur (by omega)
          have hll : (setL rs lo (ys.map some)).length = rs.length := length_setL _ _ _ (by rw [List.length_map]; omega)
          have hrel : Rel GL n S M μ (st.setB nm (.arr e' k0 (setL rs lo (ys.map some)))) a (w.setRow b1 (setL cur.toList (o1 + lo * k0) us).toArray) := by
            refine h.setBlk (blk' := .arr e' k0 (setL rs lo (ys.map some))) hg hbo hkp.size (fun q hq _ => setRow_other w b1 q _ hq) ⟨some ⟨b1, o1, none⟩, by rw [hll]; rw [hμ, hcl], .inr ⟨b1, o1, (setL cur.toList (o1 + lo * k0) us).toArray, rfl, ?_, ⟨hown.low, setRow_heap w b1 cur _ e' _ hown.heap, hown.unk⟩, by rw [hll, q1]; exact q2, ?_, hset⟩⟩
            · intro e; rw [e] at hll; simp at hll; omega
            · rw [hll, q1]; simp only [List.size_toArray]; rw [length_setL _ _ _ (by rw [hul2]; simp; omega)]; simpa using q3
          exact wp_value (run_copy_op ho (by rw [hv, hyv]; exact hrun)) ⟨_, hs, M, μ, hrel.putO hd (repD_i (.int .i64 (m : Int))), MExt.refl _ _, hkp⟩
    · exact hs.elim
  · exact hs.elim
theorem setL_map {α β : Type} (f : α → β) (l : List α) (o : Nat) (us : List α) : setL (l.map f) o (us.map f) = (setL l o us).map f := by simp [setL]
theorem rowsAt_iff {cur : Array Value} {o k : Nat} {rs : List (List I)} : RowsAt M cur o k rs ↔ RowsAtO M cur o k (rs.map some) := by
  constructor
  · rintro ⟨h1, h2⟩ i r hr
    grind
  · intro h
    refine ⟨fun r hr => ?_, fun i hi j hj => ?_⟩
    · obtain ⟨i, hi, rfl⟩ := List.getElem_of_mem hr
      exact (h i _ (by rw [List.getElem?_map, List.getElem?_eq_getElem hi]; rfl)).1
    · exact (h i _ (by rw [List.getElem?_map, List.getElem?_eq_getElem hi]; rfl)).2 j hj
theorem zeroCells_get (zs : Array Value) (m i j : Nat) (hi : i < m) (hj : j < zs.size) : (Builtin.zeroCells zs m).toList[i * zs.size + j]? = some zs[j] := by
  have hlt : i * zs.size + j < m * zs.size := by
    have : (i + 1) * zs.size ≤ m * zs.size := Nat.mul_le_mul_right _ hi
    grind
  have hmod : (i * zs.size + j) % zs.size = j := by rw [Nat.mul_comm, Nat.mul_add_mod, Nat.mod_eq_of_lt hj]
  have hl : (Builtin.zeroCells zs m).size = m * zs.size := size_zeroCells zs m
  rw [Array.getElem?_toList, Array.getElem?_eq_getElem (by omega)]
  simp only [Builtin.zeroCells, Array.getElem_map, Array.getElem_range, hmod, getElem!_pos, hj]
theorem zero_rows {z : List I} {zs : Array Value} (hz : RepL M z zs.toList) (m : Nat) : ∀ i (hi : i < (List.replicate m z).length) j (hj : j < (List.replicate m z)[i].length), ∃ u, (Builtin.zeroCells zs m).toList[i * z.length + j]? = some u ∧ Rep M ((List.replicate m z)[i][j]) u := fun i hi j hj => by
  have hsz : zs.size = z.length := by simpa using hz.1
  simp only [List.getElem_replicate] at hj ⊢
  simp only [List.length_replicate] at hi
  refine ⟨zs[j]'(by omega), by rw [← hsz]; exact zeroCells_get zs m i j hi (by omega), ?_⟩
  have := hz.2 j hj (by simpa using (show j < zs.size by omega))
  grind
theorem zero_one {zs : Array Value} (h1 : ∀ u ∈ zs.toList, u.oneCell' = true) (m : Nat) : ∀ u ∈ (Builtin.zeroCells zs m).toList, u.oneCell' = true := fun u hu => by
  obtain ⟨p, hp, rfl⟩ := List.getElem_of_mem hu
  have hp' : p < m * zs.size := by simpa [size_zeroCells] using hp
  have hpos : 0 < zs.size := Nat.pos_of_ne_zero fun h => by grind
  have hmod := Nat.mod_lt p hpos
  have : (Builtin.zeroCells zs m).toList[p] = zs[p % zs.size] := by simp only [Array.getElem_toList, Builtin.zeroCells, Array.getElem_map, Array.getElem_range, getElem!_pos, hmod]
  grind
theorem run_clear_rows (t ty e : TypeId) (i : TypeInfo) (z : Value) (ht : P.underlying t = some (.slice e)) (hi : P.info? e = some i) (hz : i.zero = some z) (g og m c : Nat) (hm : m ≠ 0) (cur : Array Value) (tt : TypeId) (hg : w.heap[g]? = some (.cells cur tt (0, 0)))
    (hfit : og + m * z.cells.size ≤ cur.size) (h1 : ∀ u ∈ z.cells.toList, u.oneCell' = true) :
    (Builtin.clear_ #[t] ty #[.slice (some ⟨g, og, none⟩) m c]).run P w = .ok (.tuple #[]) (w.setRow g (setL cur.toList og (Builtin.zeroCells z.cells m).toList).toArray) := by
  have hst := run_storeCells_at P g og tt (Builtin.zeroCells z.cells m).toList 0 cur w hg (by have := size_zeroCells z.cells m; simp [this]; omega) (zero_one h1 m)
  simp only [Nat.add_zero] at hst
  obtain ⟨m, rfl⟩ : ∃ q, m = q + 1 := ⟨m - 1, by omega⟩
  simp [Builtin.clear_, run_underlying ht, zeroValue, typeInfo, hi, hz, hst, setL]
theorem run_clear_none (t ty e : TypeId) (ht : P.underlying t = some (.slice e)) (A : Option Addr) (c : Nat) : (Builtin.clear_ #[t] ty #[.slice A 0 c]).run P w = .ok (.tuple #[]) w := by cases A <;> simp [Builtin.clear_, run_underlying ht]
theorem snd_clr (h : Rel GL n S M μ st a w) {t e : TypeId} {i : TypeInfo} {z : Value} {zi : I} {x : Operand} {ox : O} (ho : o.op = .call { callee := .builtin .clear, args := #[x], argTypes := #[t] }) (hd : ∀ d, o.dst = some d → d < n)
    (hx : cO GL x = some ox) (hu : P.underlying t = some (.slice e)) (hi : P.info? e = some i) (hz : i.zero = some z) (hc : constI z = some zi) (hone : (cellsI zi).all I.one = true) (hs : step P GL (.clr o.dst ox (cellsI zi)) st K) : o.wpX P a w (Goal GL n S M w K) Q := by
  have hr := opv_rep h hx
  have hzl : RepL M (cellsI zi) z.cells.toList := (constI_rep hc).cellsI
  have hzs : z.cells.size = (cellsI zi).length := by simpa using hzl.1
  have h1 : ∀ u ∈ z.cells.toList, u.oneCell' = true := fun u hu => by
    obtain ⟨p, hp, rfl⟩ := List.getElem_of_mem hu
    have hp' : p < (cellsI zi).length := by rw [← hzs]; simpa using hp
    refine (hzl.2 p hp' hp).oneCell ?_
    rw [List.all_eq_true] at hone
    exact hone _ (List.getElem_mem hp')
  generalize cellsI zi = zr at hzl hzs hs
  simp only [step, clrE] at hs
  split at hs
  · rename_i nm k0 lo hi' e1
    rw [e1] at hr
    obtain ⟨hN, aa, cap, hμ, hlo, hcap, hsl⟩ := hr
    have none' : hi' - lo = 0 → ∀ st', Rel GL n S M μ st' a w → K (putO st' o.dst (.i (.tup []))) → o.wpX P a w (Goal GL n S M w K) Q := fun h0 st' hrel hK => by
      have hxv : ∃ A c, a.eval x = .slice A 0 c := by
        rcases hsl with ⟨rfl, a', hv⟩ | ⟨b1, o1, rfl, hv⟩
        · exact ⟨_, _, hv⟩
        · exact ⟨_, _, by rw [hv, h0]⟩
      obtain ⟨A, c, hv⟩ := hxv
      exact wp_value (run_clear_op ho (by rw [hv]; exact run_clear_none t _ e hu A c)) ⟨_, hK, M, μ, hrel.putO hd (repD_i (Rep.tup' (RepL.nil M))), MExt.refl _ _, Keeps.refl _ _⟩
    have nil0 : ∀ {α : Type} (x : α) (l : List α), hi' - lo = 0 → setL l lo (List.replicate (hi' - lo) x) = l := fun x l h0 => by rw [h0]; exact setL_nil l lo
    unfold clrB at hs
    split at hs
    · rename_i e' k' rs hg
      obtain ⟨rfl, hzk, hhi, hs⟩ := hs
      by_cases h0 : hi' - lo = 0
      · rw [nil0 _ _ h0] at hs
        exact none' h0 _ (h.setSame hg) hs
      · rcases hsl with ⟨rfl, a', hv⟩ | ⟨b1, o1, rfl, hv⟩
        · omega
        · obtain ⟨cur, hown, q1, q2, q3, q4⟩ := rows_blk h hg hμ (by omega)
          have hbo : blockOf (μ nm) = some b1 := by rw [hμ]; simp only [blockOf]; rw [if_neg (by omega)]
          have hmul : lo * k0 + (hi' - lo) * k0 = hi' * k0 := by rw [← Nat.add_mul]; congr 1; omega
          have hhc : hi' * k0 ≤ cap * k0 := Nat.mul_le_mul_right _ hcap
          have hrl : rs.length * k0 ≤ cap * k0 := Nat.mul_le_mul_right _ q3
          have hrun := run_clear_rows (P := P) (w := w) t o.type e i z hu hi hz b1 (o1 + lo * k0) (hi' - lo) (cap - lo) h0 cur e' hown.heap (by rw [hzs, hzk]; omega) h1
          have hul : (Builtin.zeroCells z.cells (hi' - lo)).toList.length = (List.replicate (hi' - lo) zr).length * k0 := by rw [Array.length_toList, size_zeroCells, hzs, hzk, List.length_replicate]
          have hset := (rowsAt_iff.1 q4).set (by rw [List.length_map]; omega) (lo := lo) (bs := List.replicate (hi' - lo) zr) (us := (Builtin.zeroCells z.cells (hi' - lo)).toList) (fun r hr => by rw [List.eq_of_mem_replicate hr]; exact hzk) hul (by have := zero_rows hzl (hi' - lo); rw [hzk] at this; exact this) (by simp; omega)
          rw [setL_map, ← rowsAt_iff] at hset
          have hkp := keeps_setRow w b1 (setL cur.toList (o1 + lo * k0) (Builtin.zeroCells z.cells (hi' - lo)).toList).toArray hown.low
          have hll : (setL rs lo (List.replicate (hi' - lo) zr)).length = rs.length := length_setL _ _ _ (by simp; omega)
          have hrel : Rel GL n S M μ (st.setB nm (.rows e' k0 (setL rs lo (List.replicate (hi' - lo) zr)))) a (w.setRow b1 (setL cur.toList (o1 + lo * k0) (Builtin.zeroCells z.cells (hi' - lo)).toList).toArray) := by
            refine h.setBlk (blk' := .rows e' k0 (setL rs lo (List.replicate (hi' - lo) zr))) hg hbo hkp.size (fun q hq _ => setRow_other w b1 q _ hq) ⟨some ⟨b1, o1, none⟩, cap, hμ, .inr ⟨b1, o1, _, rfl, by omega, ⟨hown.low, setRow_heap w b1 cur _ e' _ hown.heap, hown.unk⟩, q1, ?_, by rw [hll]; exact q3, hset⟩⟩
            simp only [List.size_toArray]; rw [length_setL _ _ _ (by rw [hul]; simp; omega)]; simpa using q2
          exact wp_value (run_clear_op ho (by rw [hv]; exact hrun)) ⟨_, hs, M, μ, hrel.putO hd (repD_i (Rep.tup' (RepL.nil M))), MExt.refl _ _, hkp⟩
    · rename_i e' k' rs hg
      obtain ⟨rfl, hzk, hhi, hs⟩ := hs
      by_cases h0 : hi' - lo = 0
      · rw [nil0 _ _ h0] at hs
        exact none' h0 _ (h.setSame hg) hs
      · rcases hsl with ⟨rfl, a', hv⟩ | ⟨b1, o1, rfl, hv⟩
        · omega
        · have hcl := arr_cap h hg hμ
          obtain ⟨cur, hown, q1, q2, q3, q4⟩ := arr_blk h hg hμ (by omega)
          have hbo : blockOf (μ nm) = some b1 := by rw [hμ]; simp only [blockOf]; rw [if_neg (by omega)]
          have hmul : lo * k0 + (hi' - lo) * k0 = hi' * k0 := by rw [← Nat.add_mul]; congr 1; omega
          have hhc : hi' * k0 ≤ cap * k0 := Nat.mul_le_mul_right _ hcap
          have hrun := run_clear_rows (P := P) (w := w) t o.type e i z hu hi hz b1 (o1 + lo * k0) (hi' - lo) (cap - lo) h0 cur e' hown.heap (by rw [hzs, hzk]; omega) h1
          have hul : (Builtin.zeroCells z.cells (hi' - lo)).toList.length = (List.replicate (hi' - lo) zr).length * k0 := by rw [Array.length_toList, size_zeroCells, hzs, hzk, List.length_replicate]
          have hset := q4.set (by rw [q1]; omega) (lo := lo) (bs := List.replicate (hi' - lo) zr) (us := (Builtin.zeroCells z.cells (hi' - lo)).toList) (fun r hr => by rw [List.eq_of_mem_replicate hr]; exact hzk) hul (by have := zero_rows hzl (hi' - lo); rw [hzk] at this; exact this) (by simp; omega)
          rw [List.map_replicate] at hset
          have hkp := keeps_setRow w b1 (setL cur.toList (o1 + lo * k0) (Builtin.zeroCells z.cells (hi' - lo)).toList).toArray hown.low
          have hll : (setL rs lo (List.replicate (hi' - lo) (some zr))).length = rs.length := length_setL _ _ _ (by simp; omega)
          have hrel : Rel GL n S M μ (st.setB nm (.arr e' k0 (setL rs lo (List.replicate (hi' - lo) (some zr))))) a (w.setRow b1 (setL cur.toList (o1 + lo * k0) (Builtin.zeroCells z.cells (hi' - lo)).toList).toArray) := by
            refine h.setBlk (blk' := .arr e' k0 (setL rs lo (List.replicate (hi' - lo) (some zr)))) hg hbo hkp.size (fun q hq _ => setRow_other w b1 q _ hq) ⟨some ⟨b1, o1, none⟩, by rw [hll]; rw [hμ, hcl], .inr ⟨b1, o1, _, rfl, ?_, ⟨hown.low, setRow_heap w b1 cur _ e' _ hown.heap, hown.unk⟩, by rw [hll, q1]; exact q2, ?_, hset⟩⟩
            · intro e; rw [e] at hll; simp at hll; omega
            · rw [hll, q1]; simp only [List.size_toArray]; rw [length_setL _ _ _ (by rw [hul]; simp; omega)]; simpa using q3
          exact wp_value (run_clear_op ho (by rw [hv]; exact hrun)) ⟨_, hs, M, μ, hrel.putO hd (repD_i (Rep.tup' (RepL.nil M))), MExt.refl _ _, hkp⟩
    · exact hs.elim
  · exact hs.elim
theorem snd_mksl (h : Rel GL n S M μ st a w) {t e : TypeId} {i : TypeInfo} {z : Value} {zi : I} {x : Operand} {ox : O} (ho : o.op = .makeSlice t x x) (hd : o.dst = some d) (hn : d < n)
    (hx : cO GL x = some ox) (hu : P.underlying t = some (.slice e)) (hi : P.info? e = some i) (hz : i.zero = some z) (hc : constI z = some zi) (hsz : z.cells.size = i.size) (hs : step P GL (.mksl d e i.size i.bytes (cellsI zi) ox) st K) : o.wpX P a w (Goal GL n S M w K) Q := by
  have hr := opv_rep h hx
  have hzl : RepL M (cellsI zi) z.cells.toList := (constI_rep hc).cellsI
  have hzs : z.cells.size = (cellsI zi).length := by simpa using hzl.1
  generalize cellsI zi = zr at hzl hzs hs
  simp only [step, mkslE] at hs
  split at hs
  · rename_i kk m hnm e1
    rw [e1] at hr
    have hv := int_inv (repD_i_inv hr)
    obtain ⟨h0, h47, hb, hs⟩ := hs
    obtain ⟨m, rfl⟩ : ∃ q : Nat, m = (q : Int) := ⟨m.toNat, by omega⟩
    simp only [Int.toNat_natCast] at hs
    have hrun := run_make (P := P) w t e i z hu hi hz kk kk (m : Int) (m : Int) h0 (Int.le_refl _) (by omega) (by omega)
    simp only [Int.toNat_natCast] at hrun
    have hmc : madeCells z.cells (m * i.size) = Builtin.zeroCells z.cells m := by simp only [madeCells, Builtin.zeroCells, hsz]
    rw [hmc] at hrun
    have h2 : Rel GL n S M μ st a (w.alloc (.cells (Builtin.zeroCells z.cells m) e)) := h.of (h.toStoOk.alloc _) (Mem.le_refl _) fun _ _ hv => hv
    have h3 := h2.bindName (nm := d) (b := .rows e i.size (List.replicate m zr)) (x := .slice (some ⟨w.heap.size, 0, none⟩) 0 m) hnm hn ⟨some ⟨w.heap.size, 0, none⟩, m, updP_self _ _ _, ?_⟩ (fun p q hp hq => ?_)
    · exact wp_value (v := .slice (some ⟨w.heap.size, 0, none⟩) m m) (w' := w.alloc (.cells (Builtin.zeroCells z.cells m) e)) (by simp only [execOp, ho, hv, hrun, Sem.run_bind, Result.andThen_ok, Sem.run_pure]) ⟨_, hs, M, _, by
        rw [hd]
        refine h3.put hn ⟨names_self, some ⟨w.heap.size, 0, none⟩, m, updP_self _ _ _, by omega, Nat.le_refl _, ?_⟩
        exact .inr ⟨w.heap.size, 0, rfl, by simp⟩, MExt.refl _ _, keeps_alloc w _ h.low⟩
    · by_cases hm : m = 0
      · subst hm; exact .inl ⟨rfl, rfl⟩
      · refine .inr ⟨w.heap.size, 0, _, rfl, by omega, ⟨fun hS => by have := h.low _ hS; omega, heap_alloc_self w _, Mem.unk_new h.sub (Nat.le_refl _)⟩, by simp only [maxLen]; omega, ?_, by simp, ?_⟩
        · rw [size_zeroCells, hsz]; omega
        · have hk : zr.length = i.size := by rw [← hzs, hsz]
          refine ⟨fun r hr => by rw [List.eq_of_mem_replicate hr]; exact hk, fun p hp j hj => ?_⟩
          obtain ⟨u, hu1, hu2⟩ := zero_rows hzl m p hp j hj
          rw [hk] at hu1
          exact ⟨u, by rw [Nat.zero_add]; simpa using hu1, hu2⟩
    · have := (h.toStoOk.lt hp hq).1
      simp only [blockOf]
      split
      · simp
      · intro e; cases e; omega
  · exact hs.elim
theorem intV_some {X : D} {v : Value} {N : Nat → Prop} {i : Int} (h : RepD M μ N X v) (hi : intV X = some i) : ∃ k, v = .int k i := by
  unfold intV at hi
  split at hi
  · cases hi; exact ⟨_, int_inv (repD_i_inv h)⟩
  · cases hi
theorem snd_slc3 (h : Rel GL n S M μ st a w) {t e : TypeId} {x hi mx : Operand} {lo : Option Operand} {ox ohi omx : O} {olo : Option O} {k : Nat} (ho : o.op = .slice t x lo (some hi) (some mx)) (hd : o.dst = some d) (hn : d < n) (hx : cO GL x = some ox)
    (hlo : lo.map (cO GL) = olo.map some) (hhi : cO GL hi = some ohi) (hmx : cO GL mx = some omx) (hu : P.underlying t = some (.slice e)) (hk : szT P e = some k) (hs : step P GL (.slc3 d ox olo ohi omx) st K) : o.wpX P a w (Goal GL n S M w K) Q := by
  have hr := opv_rep h hx
  have hrh := opv_rep h hhi
  have hrm := opv_rep h hmx
  simp only [step] at hs
  have core : ∀ (A : Option Addr) (len cap : Nat), a.eval x = .slice A len cap → len ≤ cap → slc3L len (loV (olo.map (opv GL st))) (intV (opv GL st ohi)) (intV (opv GL st omx)) ∧ K (st.put d .any) → o.wpX P a w (Goal GL n S M w K) Q := fun A len cap hv hlc hs => by
    obtain ⟨hl, hK⟩ := hs
    unfold slc3L at hl
    split at hl
    · rename_i l u m e1 e2 e3
      obtain ⟨b1, b2, b3, b4⟩ := hl
      obtain ⟨k1, hv1⟩ := intV_some hrh e2
      obtain ⟨k2, hv2⟩ := intV_some hrm e3
      have hbd : (Instr.sliceBounds true len cap (lo.map a.eval) (some (a.eval hi)) (some (a.eval mx))).run P w = .ok (l.toNat, u.toNat, m.toNat) w := by
        have c1 : (Instr.sliceBound (a.eval mx) cap .slice3Acap).run P w = .ok m.toNat w := run_sliceBound hv2 ⟨by omega, by omega⟩
        have c2 : (Instr.sliceBound (a.eval hi) m.toNat .slice3B).run P w = .ok u.toNat w := run_sliceBound hv1 ⟨by omega, by omega⟩
        cases lo with
        | none =>
          cases olo with
          | some _ => simp at hlo
          | none =>
            simp only [Option.map_none, loV, Option.some.injEq] at e1
            subst e1
            simp [Instr.sliceBounds, c1, c2]
        | some y =>
          cases olo with
          | none => simp at hlo
          | some oy =>
            simp only [Option.map_some, Option.some.injEq] at hlo
            have hrl := opv_rep h hlo
            simp only [Option.map_some] at e1
            have hvl : ∃ k, a.eval y = .int k l := by
              generalize opv GL st oy = V at hrl e1
              unfold loV at e1
              split at e1 <;> cases e1
              · rename_i q; cases q
              · rename_i q; cases q
                exact ⟨_, int_inv (repD_i_inv hrl)⟩
            obtain ⟨k3, hv3⟩ := hvl
            have c3 : (Instr.sliceBound (a.eval y) u.toNat .slice3C).run P w = .ok l.toNat w := run_sliceBound hv3 ⟨by omega, by omega⟩
            simp [Instr.sliceBounds, c1, c2, c3]
      have hrun : (execOp a.eval o).run P w = .ok (.value (.slice (if m.toNat = l.toNat then A else A.map (·.add (l.toNat * k))) (u.toNat - l.toNat) (m.toNat - l.toNat))) w := by
        simp only [execOp, ho, hv, Instr.sliceAt, Instr.slice, Sem.run_bind, run_underlying hu w, Result.andThen_ok, Option.map_some, hbd, run_sizeOf' hk, Sem.run_pure]
      exact wp_put (x := .any) h hd hn hrun trivial hK
    · exact hl.elim
  unfold slc3E at hs
  split at hs
  · rename_i rows e1
    rw [e1] at hr
    have hr := repD_i_inv hr
    generalize hX : a.eval x = X at hr
    cases hr with
    | slnil => exact core none 0 0 hX (Nat.le_refl _) hs
    | slempty A c => exact core (some A) 0 c hX (Nat.zero_le _) hs
    | sl _ kk b oo cap vv q1 q2 q3 q4 => exact core _ rows.length cap hX q2 hs
  · rename_i nm k0 lo' hi' e1
    rw [e1] at hr
    obtain ⟨hN, aa, cap, hμ, hl1, hl2, hsl⟩ := hr
    rcases hsl with ⟨rfl, a', hv⟩ | ⟨b1, o1, rfl, hv⟩
    · have e0 : hi' - cap = 0 := by omega
      rw [e0] at hs
      exact core _ 0 0 hv (Nat.le_refl _) hs
    · exact core _ (hi' - lo') (cap - lo') hv (by omega) hs
  · exact hs.elim
theorem run_app_op' {t t' : TypeId} {x y : Operand} {v' : Value} {w' : World} (ho : o.op = .call { callee := .builtin .append, args := #[x, y], argTypes := #[t, t'] })
    (h : (Builtin.append_ #[t, t'] o.type #[a.eval x, a.eval y]).run P w = .ok v' w') : (execOp a.eval o).run P w = .ok (.value v') w' := by
  simp only [execOp, ho, resolve, Sem.run_bind, Sem.run_pure, Result.andThen_ok, invoke, builtin, List.map_toArray, List.map_cons, List.map_nil, h]
theorem run_appz_zero (t u ty e : TypeId) {ik : IntKind} (i : TypeInfo) (z : Value) (ht : P.underlying t = some (.slice e)) (hi : P.info? e = some i) (hu : P.underlying u = some (.int ik)) (A : Option Addr) (l c : Nat) (hlc : l ≤ c) (kk : IntKind) :
    (Builtin.append_ #[t, u] ty #[.slice A l c, .int kk ((0 : Nat) : Int)]).run P w = .ok (.slice A l c) w := by
  cases A <;> simp [Builtin.append_, run_underlying ht, run_underlying hu, sizeOf, typeInfo, hi, asInt, asIntOf, IntKind.wrap_i64, storeCells, hlc]
theorem run_appz_here (t u ty e : TypeId) {ik : IntKind} (i : TypeInfo) (z : Value) (ht : P.underlying t = some (.slice e)) (hi : P.info? e = some i) (hz : i.zero = some z) (hu : P.underlying u = some (.int ik)) (g og sLen sCap : Nat) (cur : Array Value) (hg : w.heap[g]? = some (.cells cur e (0, 0)))
    (kk : IntKind) (m : Nat) (hm : (m : Int) ≤ 140737488355328) (hmb : (m : Int) * (i.bytes : Int) ≤ 140737488355328) (hm0 : 0 < m) (hk0 : 0 < i.size) (hzs : z.cells.size = i.size) (h1 : ∀ u ∈ z.cells.toList, u.oneCell' = true) (hroom : sLen + m ≤ sCap) (hfit : og + sLen * i.size + m * i.size ≤ cur.size) :
    (Builtin.append_ #[t, u] ty #[.slice (some ⟨g, og, none⟩) sLen sCap, .int kk (m : Int)]).run P w =
      .ok (.slice (some ⟨g, og, none⟩) (sLen + m) sCap) (w.setRow g (setL cur.toList (og + sLen * i.size) (Builtin.zeroCells z.cells m).toList).toArray) := by
  have hst := run_storeCells_at P g (og + sLen * i.size) e (Builtin.zeroCells z.cells m).toList 0 cur w hg (by have := size_zeroCells z.cells m; rw [hzs] at this; simp [this]; omega) (zero_one h1 m)
  simp only [Nat.add_zero] at hst
  have hw : IntKind.i64.wrap (m : Int) = m := by rw [IntKind.wrap_i64]; omega
  have n1 : ¬ ((m : Int) < 0) := by omega
  have n3 : ¬ (m = 0 ∨ i.size = 0) := by omega
  have n4 : m * i.size ≠ 0 := by rw [Nat.mul_ne_zero_iff]; omega
  have hz2 : (zeroValue e).run P w = .ok z w := by simp [zeroValue, typeInfo, hi, hz]
  have n2 : ¬ ((281474976710656 : Int) < (m : Int) * (i.bytes : Int)) := by omega
  have hf : (storeCells (⟨g, og, none⟩ : Addr) [] 0).run P w = .ok () w := by rfl
  simp [Builtin.append_, run_underlying ht, run_underlying hu, sizeOf, typeInfo, hi, asInt, asIntOf, hw, n1, n2, n4, hz2, hroom, add_zero_spot, hst, setL]
theorem run_appz_grow (t u ty e : TypeId) {ik : IntKind} (i : TypeInfo) (z : Value) (ht : P.underlying t = some (.slice e)) (hi : P.info? e = some i) (hz : i.zero = some z) (hu : P.underlying u = some (.int ik))
    (b : Option Addr) (sLen sCap : Nat) (olds : List Value) (hlo : olds.length = sLen * i.size) (holds : ∀ q, b = some q → ∀ j v, olds[j]? = some v → w.cell? (q.add j) = some v) (hb0 : b = none → sLen = 0) (hzs : z.cells.size = i.size)
    (kk : IntKind) (m : Nat) (hm : (m : Int) ≤ 140737488355328) (hmb : (m : Int) * (i.bytes : Int) ≤ 140737488355328) (hg : sCap < sLen + m) (h63 : ((sLen + m : Nat) : Int) ≤ 9223372036854775807) (hfit : Builtin.nextslicecap (sLen + m) sCap * i.bytes ≤ 281474976710656) :
    (Builtin.append_ #[t, u] ty #[.slice b sLen sCap, .int kk (m : Int)]).run P w =
      .ok (.slice (some ⟨w.heap.size, 0, none⟩) (sLen + m) (grownCap w (sLen + m) sCap e))
        (w.drew.alloc (.cells (olds.toArray ++ Builtin.zeroCells z.cells m ++ Builtin.zeroCells z.cells (grownCap w (sLen + m) sCap e - (sLen + m))) e)) := by
  have hw : IntKind.i64.wrap (m : Int) = m := by rw [IntKind.wrap_i64]; omega
  have n1 : ¬ ((m : Int) < 0) := by omega
  have n2 : ¬ ((281474976710656 : Int) < (m : Int) * (i.bytes : Int)) := by omega
  have hz2 : ∀ w : World, (zeroValue e).run P w = .ok z w := fun w => by simp [zeroValue, typeInfo, hi, hz]
  have hn : ¬ (sLen + m ≤ sCap) := by omega
  have h63' : ¬ (9223372036854775807 < ((sLen : Int) + (m : Int))) := by omega
  have h48' : ¬ (281474976710656 < Builtin.nextslicecap (sLen + m) sCap * i.bytes) := by omega
  have hfo : (Builtin.firstCells i.size sLen (.slice b sLen sCap)).run P w.drew = .ok olds.toArray w.drew := by
    cases b with
    | none =>
      have := hb0 rfl
      subst this
      have : olds = [] := List.eq_nil_of_length_eq_zero (by omega)
      subst this
      rfl
    | some q => exact run_firstCells_some (P := P) w.drew i.size sLen q sLen sCap olds hlo (by simpa using holds q rfl)
  have hz0 : ∀ m, m = 0 ∨ i.size = 0 → Builtin.zeroCells z.cells m = #[] := fun m h => by
    apply Array.ext'
    apply List.eq_nil_of_length_eq_zero
    rw [Array.length_toList, size_zeroCells, hzs]
    grind
  by_cases n3 : m * i.size = 0
  · rw [hz0 m (Nat.mul_eq_zero.1 n3)]
    simp [Builtin.append_, run_underlying ht, run_underlying hu, sizeOf, typeInfo, hi, asInt, asIntOf, hw, n1, n2, n3, hn, h63', h48', Question.forced, hfo, hz2, newRow, grownCap]
  · simp [Builtin.append_, run_underlying ht, run_underlying hu, sizeOf, typeInfo, hi, asInt, asIntOf, hw, n1, n2, n3, hn, h63', h48', Question.forced, hfo, hz2, newRow, grownCap]
theorem snd_appzA (h : Rel GL n S M μ st a w) {t t' e : TypeId} {ik kk : IntKind} {m : Nat} {i : TypeInfo} {z : Value} {zr : List I} {x y : Operand} {k b e' k' nm k0 lo hi : Nat} {rs : List (Option (List I))} {ys : List (List I)} (hys : ys = List.replicate m zr) (hzl : RepL M zr z.cells.toList) (hz1 : ∀ u ∈ z.cells.toList, u.oneCell' = true) (hm : (m : Int) ≤ 140737488355328) (hmb : (m : Int) * (i.bytes : Int) ≤ 140737488355328) (ho : o.op = .call { callee := .builtin .append, args := #[x, y], argTypes := #[t, t'] }) (hint : P.underlying t' = some (.int ik)) (hyv : a.eval y = .int kk (m : Int))
    (hd : o.dst = some d) (hn : d < n) (hr : RepRef μ (names st.sto) (.sl nm k0 lo hi) (a.eval x)) (hu' : P.underlying t = some (.slice e)) (hi' : P.info? e = some i) (hz : i.zero = some z) (hk : i.size = k) (hb : i.bytes = b)
    (hzs : z.cells.size = k) (hk0 : 0 < k) (hg : getS st.sto nm = some (.arr e' k' rs)) (hs : appA (getS st.sto d) e' k' rs nm k0 lo hi d e k b ys st K) : o.wpX P a w (Goal GL n S M w K) Q := by
  obtain ⟨rfl, rfl, rfl, hlo, hhi, hone, hin, hout⟩ := hs
  subst hk; subst hb
  obtain ⟨hN, aa, cap, hμ, hlo', hcap, hsl⟩ := hr
  have hul : (Builtin.zeroCells z.cells m).toList.length = ys.length * i.size := by rw [Array.length_toList, size_zeroCells, hzs, hys, List.length_replicate]
  have hur : ∀ p (hp : p < ys.length) j (hj : j < ys[p].length), ∃ u, (Builtin.zeroCells z.cells m).toList[p * i.size + j]? = some u ∧ Rep M (ys[p][j]) u := by
    have hk : zr.length = i.size := by rw [← hzs]; simpa using hzl.1.symm
    grind [zero_rows]
  have huo : ∀ u ∈ (Builtin.zeroCells z.cells m).toList, u.oneCell' = true := zero_one hz1 m
  have hysl : ys.length = m := by grind
  generalize hus : (Builtin.zeroCells z.cells m).toList = us at hul hur huo
  have hcl := arr_cap h hg hμ
  by_cases hroom : hi + ys.length ≤ rs.length
  · have hs := hin hroom
    by_cases hne : ys = []
    · subst hne
      have hm0 : m = 0 := by grind
      subst hm0
      simp only [List.map_nil, setL_nil, List.length_nil, Nat.add_zero] at hs
      have hrel : Rel GL n S M μ (st.setB nm (.arr e' i.size rs)) a w := by
        refine h.of (st' := st.setB nm (.arr e' i.size rs)) ⟨h.sub, fun m x hx => ?_, fun m m' k k' hne h1 h2 => ?_, h.low⟩ (Mem.le_refl _) fun s v hv => by grind [St.setB,names_setS]
        · simp only [St.setB, getS_setS] at hx ⊢
          rw [names_setS]
          split at hx
          · rename_i e; subst e; rw [hg] at hx; cases hx; exact h.blk _ _ hg
          · exact h.blk _ _ hx
        · simp only [St.setB, names_setS] at h1 h2
          exact h.sep m m' k k' hne h1 h2
      have hv : ∃ A l c', a.eval x = .slice A l c' ∧ (∀ x, A = some x → x.spot = none ∨ (l = 0 ∧ c' = 0)) ∧ l ≤ c' := by grind
      obtain ⟨A, l, c', hv, hsp, hlc⟩ := hv
      refine wp_value (v := a.eval x) (w' := w) (run_app_op' ho ?_) ⟨_, hs, M, μ, by rw [hd]; exact hrel.put hn ⟨by simp only [St.setB]; rw [names_setS]; exact hN, aa, cap, hμ, hlo', hcap, hsl⟩, MExt.refl _ _, Keeps.refl _ _⟩
      rw [hv, hyv]
      exact run_appz_zero t t' o.type e' i z hu' hi' hint A l c' hlc kk
    · have hpos : 0 < ys.length := List.length_pos_iff.2 hne
      rcases hsl with ⟨rfl, a', hv⟩ | ⟨b1, o1, rfl, hv⟩
      · omega
      · obtain ⟨cur, hown, q1, q2, q3, q4⟩ := arr_blk h hg hμ (by omega)
        have hbo : blockOf (μ nm) = some b1 := by grind [blockOf]
        have hmul : lo * i.size + (hi - lo) * i.size = hi * i.size := by rw [← Nat.add_mul]; congr 1; omega
        have hm5 : (hi + ys.length) * i.size ≤ cap * i.size := Nat.mul_le_mul_right _ (by omega)
        rw [Nat.add_mul] at hm5
        have hr := run_appz_here (P := P) t t' o.type e' i z hu' hi' hz hint b1 (o1 + lo * i.size) (hi - lo) (cap - lo) cur hown.heap kk m hm hmb (by omega) (by omega) hzs hz1 (by omega) (by rw [hysl] at hm5; omega)
        rw [show o1 + lo * i.size + (hi - lo) * i.size = o1 + hi * i.size by omega, hus] at hr
        rw [show hi - lo + m = hi - lo + ys.length by rw [hysl]] at hr
        have hkp := keeps_setRow w b1 (setL cur.toList (o1 + hi * i.size) us).toArray hown.low
        have hset := q4.set (by rw [q1]; omega) (lo := hi) hone.1 hul hur hroom
        have hll : (setL rs hi (ys.map some)).length = rs.length := length_setL _ _ _ (by simpa using hroom)
        have hrel : Rel GL n S M μ (st.setB nm (.arr e' i.size (setL rs hi (ys.map some)))) a (w.setRow b1 (setL cur.toList (o1 + hi * i.size) us).toArray) := by
          refine h.setBlk (blk' := .arr e' i.size (setL rs hi (ys.map some))) hg hbo hkp.size (fun q hq _ => setRow_other w b1 q _ hq) ⟨some ⟨b1, o1, none⟩, by rw [hll]; rw [hμ, hcl], .inr ⟨b1, o1, (setL cur.toList (o1 + hi * i.size) us).toArray, rfl, ?_, ⟨hown.low, setRow_heap w b1 cur _ e' _ hown.heap, hown.unk⟩, by rw [hll, q1]; exact q2, ?_, hset⟩⟩
          all_goals grind [length_setL]
        exact wp_value (run_app_op' ho (by rw [hv, hyv]; exact hr)) ⟨_, hs, M, μ, by
          rw [hd]
          exact hrel.put hn ⟨by simp only [St.setB]; rw [names_setS]; exact hN, _, cap, hμ, by omega, by omega, .inr ⟨b1, o1, rfl, by congr 1; omega⟩⟩, MExt.refl _ _, hkp⟩
  · obtain ⟨as, has, hao, hbytes, hlen, hfr, hs⟩ := hout (by omega)
    have ha := allK_eq has
    have hne : ys ≠ [] := fun e => by grind
    have hpos : 0 < ys.length := List.length_pos_iff.2 hne
    have hml : hi - lo + ys.length ≤ maxLen := by simp only [maxLen]; omega
    have hasl : as.length = hi - lo := by have := congrArg List.length ha; simp at this; omega
    have grow : ∀ (old : Nat) (xs : List Value), xs.length = (hi - lo) * i.size → (∀ i1 (hi1 : i1 < as.length) j (hj : j < as[i1].length), ∃ u, xs[i1 * i.size + j]? = some u ∧ Rep M (as[i1][j]) u) →
        ∀ cells : Array Value, cells.toList = xs ++ us → (execOp a.eval o).run P w = .ok (.value (.slice (some ⟨w.heap.size, 0, none⟩) (hi - lo + ys.length) (grownCap w (hi - lo + ys.length) old e'))) (w.drew.alloc (.cells (cells ++ Builtin.zeroCells z.cells (grownCap w (hi - lo + ys.length) old e' - (hi - lo + ys.length))) e')) →
        o.wpX P a w (Goal GL n S M w K) Q := fun old xs hxl hxr cells hcl2 hrun => by
      have hge := grownCap_ge w (hi - lo + ys.length) old e'
      have hcm : grownCap w (hi - lo + ys.length) old e' ≤ maxLen := grownCap_le_maxLen w (hi - lo + ys.length) old e' hml
      generalize hG : grownCap w (hi - lo + ys.length) old e' = G at hge hcm hrun
      have hcs : cells.size = (hi - lo + ys.length) * i.size := by rw [← Array.length_toList, hcl2, List.length_append, hxl, hul, Nat.add_mul]
      have hL : ((as ++ ys).map some ++ List.replicate (G - (hi - lo + ys.length)) (none : Option (List I))).length = G := by simp; omega
      have hrows : RowsAt M cells 0 i.size (as ++ ys) := rowsAt_append (xs := xs) (us := us) (by rw [hxl, hasl]) hao.1 hone.1 hxr hur (fun j v hv => by
        rw [Nat.zero_add]; rw [← hcl2] at hv; simpa using hv)
      have h0 : Rel GL n S M μ st a (w.drew.alloc (.cells (cells ++ Builtin.zeroCells z.cells (G - (hi - lo + ys.length))) e')) := h.of ((h.toStoOk.drew).alloc _) (Mem.le_refl _) fun _ _ hv => hv
      have h2 := h0.bindName (nm := d) (b := .arr e' i.size ((as ++ ys).map some ++ List.replicate (G - (hi - lo + ys.length)) none)) (x := .slice (some ⟨w.heap.size, 0, none⟩) 0 G) hfr hn ⟨_, by rw [updP_self, hL], .inr ⟨w.heap.size, 0, _, rfl, fun e => by rw [e] at hL; simp at hL; omega, ⟨fun hS => by have := h.low _ hS; omega, heap_alloc_self w.drew _, Mem.unk_new h.sub (Nat.le_refl _)⟩, by rw [hL]; exact hcm, ?_, ?_⟩⟩ (fun m q hm hq => ?_)
      · exact wp_value hrun ⟨_, hs (G - (hi - lo + ys.length)), M, _, by
          rw [hd]
          exact h2.put hn ⟨names_self, _, G, updP_self _ _ _, by omega, hge, .inr ⟨w.heap.size, 0, rfl, by simp⟩⟩, MExt.refl _ _, (Keeps.refl S w).drew.trans (keeps_alloc w.drew _ h.low)⟩
      · rw [hL]
        simp only [Array.size_append, size_zeroCells, hzs, hcs, Nat.zero_add, ← Nat.add_mul]
        congr 1; omega
      · intro i1 r hr
        by_cases hlt : i1 < (as ++ ys).length
        · rw [List.getElem?_append_left (by simpa using hlt), List.getElem?_map, List.getElem?_eq_getElem hlt] at hr
          simp only [Option.map_some, Option.some.injEq] at hr
          subst hr
          refine ⟨hrows.1 _ (List.getElem_mem hlt), fun j hj => ?_⟩
          obtain ⟨v, hv, hr⟩ := hrows.2 i1 hlt j hj
          refine ⟨v, ?_, hr⟩
          rw [Array.getElem?_append_left (Array.getElem?_eq_some_iff.1 hv).1]; exact hv
        · rw [List.getElem?_append_right (by simpa using hlt), List.getElem?_replicate] at hr
          split at hr <;> cases hr
      · have := (h.toStoOk.lt hm hq).1
        simp only [blockOf]
        rw [if_neg (by omega)]
        intro e; cases e; omega
    rcases hsl with ⟨rfl, a', hv⟩ | ⟨b1, o1, rfl, hv⟩
    · obtain rfl : hi = cap := by omega
      have has0 : as = [] := List.eq_nil_of_length_eq_zero (by omega)
      subst has0
      cases a' with
      | none =>
        have hr := run_appz_grow (P := P) (w := w) t t' o.type e' i z hu' hi' hz hint none 0 0 [] (by simp) (by simp) (by simp) hzs kk m hm hmb (by omega) (by omega) (growslice_fits (by omega) (by simpa [hysl] using hbytes))
        refine grow 0 [] (by simp) (fun i1 h1 => by simp at h1) us.toArray (by simp) (run_app_op' ho ?_)
        rw [hv, hyv, hysl, ← hus]
        simpa using hr
      | some aa =>
        have hr := run_appz_grow (P := P) (w := w) t t' o.type e' i z hu' hi' hz hint (some aa) 0 0 [] (by simp) (by simp) (by simp) hzs kk m hm hmb (by omega) (by omega) (growslice_fits (by omega) (by simpa [hysl] using hbytes))
        refine grow 0 [] (by simp) (fun i1 h1 => by simp at h1) us.toArray (by simp) (run_app_op' ho ?_)
        rw [hv, hyv, hysl, ← hus]
        simpa using hr
    · by_cases hc0 : cap = 0
      · subst hc0
        obtain rfl : lo = 0 := by omega
        obtain rfl : hi = 0 := by omega
        have has0 : as = [] := List.eq_nil_of_length_eq_zero (by omega)
        subst has0
        have hr := run_appz_grow (P := P) (w := w) t t' o.type e' i z hu' hi' hz hint (some ⟨b1, o1 + 0 * i.size, none⟩) 0 0 [] (by simp) (by simp) (by simp) hzs kk m hm hmb (by omega) (by omega) (growslice_fits (by omega) (by simpa [hysl] using hbytes))
        refine grow 0 [] (by simp) (fun i1 h1 => by simp at h1) us.toArray (by simp) (run_app_op' ho ?_)
        rw [hv, hyv, hysl, ← hus]
        simpa using hr
      · obtain ⟨cur, hown, q1, q2, q3, q4⟩ := arr_blk h hg hμ (by omega)
        obtain ⟨v0, v3, v1, v2⟩ := q4.view hlo hhi (by rw [q1]; omega) ha
        have hr := run_appz_grow (P := P) (w := w) t t' o.type e' i z hu' hi' hz hint (some ⟨b1, o1 + lo * i.size, none⟩) (hi - lo) (cap - lo) (flatV cur o1 i.size lo hi) v1 (fun q hq j v hv => by
          cases hq
          simp only [flatV, List.getElem?_take, List.getElem?_drop] at hv
          split at hv
          · rw [add_zero_spot]
            simp [World.cell?, hown.heap]
            simpa using hv
          · cases hv) (by simp) hzs kk m hm hmb (by omega) (by omega) (growslice_fits (by omega) (by rw [hysl] at hbytes; exact hbytes))
        refine grow (cap - lo) (flatV cur o1 i.size lo hi) v1 v2 ((flatV cur o1 i.size lo hi).toArray ++ us.toArray) (by simp) (run_app_op' ho ?_)
        rw [hv, hyv, hysl, ← hus]; simpa using hr
theorem snd_appz (h : Rel GL n S M μ st a w) {t t' e : TypeId} {ik : IntKind} {i : TypeInfo} {z : Value} {zi : I} {x y : Operand} {ox oy : O} (ho : o.op = .call { callee := .builtin .append, args := #[x, y], argTypes := #[t, t'] })
    (hd : o.dst = some d) (hn : d < n) (hx : cO GL x = some ox) (hy : cO GL y = some oy) (ht : P.underlying t = some (.slice e)) (hint : P.underlying t' = some (.int ik)) (hi : P.info? e = some i) (hz : i.zero = some z) (hc : constI z = some zi) (hone : (cellsI zi).all I.one = true)
    (hzs : z.cells.size = i.size) (hk0 : 0 < i.size) (hs : step P GL (.appz d e i.size i.bytes ox oy (cellsI zi)) st K) : o.wpX P a w (Goal GL n S M w K) Q := by
  have hr := opv_rep h hx
  have hry := opv_rep h hy
  have hzl : RepL M (cellsI zi) z.cells.toList := (constI_rep hc).cellsI
  have hz1 : z.cells.size = (cellsI zi).length := by simpa using hzl.1
  have h1 : ∀ u ∈ z.cells.toList, u.oneCell' = true := fun u hu => by
    obtain ⟨p, hp, rfl⟩ := List.getElem_of_mem hu
    have hp' : p < (cellsI zi).length := by grind
    refine (hzl.2 p hp' hp).oneCell ?_
    grind
  simp only [step, appzE] at hs
  split at hs
  · rename_i nm k0 lo hi' kk m e1 e2
    rw [e1] at hr; rw [e2] at hry
    have hv := int_inv (repD_i_inv hry)
    unfold appzB at hs
    split at hs
    · rename_i e' k' rs hg
      obtain ⟨h0, hm, hmb, hs⟩ := hs
      obtain ⟨m, rfl⟩ : ∃ q : Nat, m = (q : Int) := ⟨m.toNat, by omega⟩
      simp only [Int.toNat_natCast] at hs
      exact snd_appzA h (m := m) rfl hzl h1 hm hmb ho hint hv hd hn hr ht hi hz rfl rfl hzs hk0 hg hs
    · exact hs.elim
  · exact hs.elim
end
end Go.Dl
