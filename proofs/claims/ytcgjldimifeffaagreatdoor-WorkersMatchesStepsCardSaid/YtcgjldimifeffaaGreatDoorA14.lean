/- A part of the proofs of WorkersExclude and WorkersMatchesSteps: A14. -/
import Derived.Test.YtcgjldimifeffaaGreatDoorA13
set_option linter.unusedVariables false
set_option linter.unusedSimpArgs false
namespace Go.Dl
open Go Go.RowKit
section
variable {P : Program} {GL : List (Nat × List I)} {n : Nat} {S : Sh} {M : Mem} {μ : Place} {st : St} {a : Act} {w : World} {K : St → Prop} {Q : Exit → Act → World → Prop} {o : Oper} {d : Nat}
theorem run_findKey' {t : TypeId} {ls : List LK} (hk : keyT P t = some ls) {q : I} {v : Value} (hr : Rep M q v) (hf : fitQ ls q = true) {β : Type} {es : List (I × β)} {xs : List MapEntry} (h : KeysAt M xs es) (hfe : ∀ e ∈ es, fitQ ls e.1 = true) :
    (Instr.findKey t v xs).run P w = .ok ((midx es q).bind fun j => (xs[j]?).map fun x => (j, x.val)) w := by
  have hag : ∃ dsc, P.underlying t = some dsc := by grind [keyT,aggT]
  obtain ⟨dsc, hu⟩ := hag
  cases hd : isAggD dsc with
  | true =>
    rw [run_findKey_eq w (by cases dsc <;> simp [isAggD] at hd <;> simp [hu])]
    rw [run_asking hk hr hf es xs 0 h hfe]
    simp
  | false =>
    have := run_now hu hd hk hr hf es xs 0 h hfe
    rw [MapKept.run_findKey hu this]
    simp
theorem midx_lt {β : Type} {es : List (I × β)} {q : I} {j : Nat} (h : midx es q = some j) : j < es.length := (List.findIdx?_eq_some_iff_findIdx_eq.1 h).1
theorem mget_midx (es : List (I × I)) (q : I) : mget es q = (midx es q).bind fun j => (es[j]?).map (·.2) := by
  unfold mget midx
  induction es with
  | nil => rfl
  | cons e es ih =>
    simp only [List.find?_cons, List.findIdx?_cons]
    cases hb : (keyI e.1 == keyI q) with
    | true => simp
    | false =>
      simp only [Bool.false_eq_true, if_false]
      rw [ih]
      cases es.findIdx? fun e => keyI e.1 == keyI q <;> simp
theorem mput_midx (es : List (I × I)) (q u : I) : mput es q u = match midx es q with | some j => es.set j (q, u) | none => es ++ [(q, u)] := by
  unfold midx
  induction es with
  | nil => rfl
  | cons e es ih =>
    grind [mput,keyI]
theorem run_lookup {t k e : TypeId} {ls : List LK} (hu : P.underlying t = some (.map k e)) (hk : keyT P k = some ls) {i : TypeInfo} {z : Value} {zi : I} (hi : P.info? e = some i) (hz : i.zero = some z) (hzi : Rep M zi z) {q : I} {kv : Value} (hr : Rep M q kv) (hf : fitQ ls q = true)
    {X : Value} {xs : List MapEntry} {es : List (I × I)} (hX : (X = .map none ∧ xs = []) ∨ ∃ b clk, X = .map (some b) ∧ w.heap[b]? = some (.map xs.toArray clk)) (h : EntsAt M xs es) (hfe : ∀ e ∈ es, fitQ ls e.1 = true) (ok : Bool) :
    ∃ V, (Instr.lookup t X kv ok).run P w = .ok V w ∧ Rep M (mlook es q zi ok) V := by
  have hck := run_key_check (P := P) (w := w) hk hr hf
  have hfd := run_findKey' (P := P) (w := w) hk hr hf h.keys hfe
  have fin : ∀ (v : Value) (bb : Bool), bb = (mget es q).isSome → Rep M ((mget es q).getD zi) v → (Instr.lookup t X kv ok).run P w = .ok (if ok then .tuple #[v, .bool bb] else v) w → ∃ V, (Instr.lookup t X kv ok).run P w = .ok V w ∧ Rep M (mlook es q zi ok) V := fun v bb hbb hv hrun => by
    refine ⟨_, hrun, ?_⟩
    subst hbb
    unfold mlook
    cases ok with
    | true => simp only [if_true]; exact Rep.tup' (RepL.cons hv (RepL.cons (.bool _) (RepL.nil M)))
    | false => simpa using hv
  have hmg := mget_midx es q
  cases hm : midx es q with
  | none =>
    rw [hm] at hmg hfd
    simp only [Option.bind_none] at hmg hfd
    refine fin z false (by rw [hmg]; rfl) (by rw [hmg]; exact hzi) ?_
    rcases hX with ⟨rfl, rfl⟩ | ⟨b, clk, rfl, hb⟩
    · simp [Instr.lookup, run_underlying hu, hck, hfd, zeroValue, typeInfo, hi, hz]
    · simp [Instr.lookup, run_underlying hu, MapKept.run_getObj_map hb, hck, hfd, zeroValue, typeInfo, hi, hz]
  | some j =>
    have hj := midx_lt hm
    have hj' : j < xs.length := by rw [h.1]; exact hj
    rw [hm] at hmg hfd
    simp only [Option.bind_some, List.getElem?_eq_getElem hj, List.getElem?_eq_getElem hj', Option.map_some] at hmg hfd
    refine fin xs[j].val true (by rw [hmg]; rfl) (by rw [hmg]; exact (h.2 j hj hj').2) ?_
    rcases hX with ⟨rfl, rfl⟩ | ⟨b, clk, rfl, hb⟩
    · simp at hj'
    · simp [Instr.lookup, run_underlying hu, MapKept.run_getObj_map hb, hck, hfd]
theorem snd_lookup (h : Rel GL n S M μ st a w) {t k e : TypeId} {x ix : Operand} {ox oi : O} {ok : Bool} {ls : List LK} {i : TypeInfo} {z : Value} {zi : I} (ho : o.op = .lookup t x ix ok) (hd : o.dst = some d) (hn : d < n) (hx : cO GL x = some ox) (hix : cO GL ix = some oi)
    (hu : P.underlying t = some (.map k e)) (hk : keyT P k = some ls) (hi : P.info? e = some i) (hz : i.zero = some z) (hc : constI z = some zi) (hs : step P GL (.lookup d ox oi zi ok ls) st K) : o.wpX P a w (Goal GL n S M w K) Q := by
  have hr := opv_rep h hx
  have hri := opv_rep h hix
  simp only [step] at hs
  generalize opv GL st ox = V at hr hs
  generalize opv GL st oi = U at hri hs
  cases U with
  | i q =>
    obtain ⟨hf, hs⟩ := hs
    have hri := repD_i_inv hri
    have go : ∀ {xs : List MapEntry} {es : List (I × I)}, ((a.eval x = .map none ∧ xs = []) ∨ ∃ b clk, a.eval x = .map (some b) ∧ w.heap[b]? = some (.map xs.toArray clk)) → EntsAt M xs es → (∀ e ∈ es, fitQ ls e.1 = true) →
        K (st.put d (.i (mlook es q zi ok))) → o.wpX P a w (Goal GL n S M w K) Q := fun hX he hfe hK => by
      obtain ⟨v, hrun, hv⟩ := run_lookup (P := P) hu hk hi hz (constI_rep hc) hri hf hX he hfe ok
      exact wp_put h hd hn (by simp only [execOp, ho, Sem.run_bind, hrun, Result.andThen_ok, Sem.run_pure]) (repD_i hv) hK
    split at hs
    · have hr := repD_i_inv hr
      generalize hX : a.eval x = X at hr
      cases hr
      exact go (xs := []) (es := []) (.inl ⟨hX, rfl⟩) ⟨rfl, fun j hj => by simp at hj⟩ (by simp) hs
    · rename_i es
      obtain ⟨hfe, hs⟩ := hs
      have hr := repD_i_inv hr
      generalize hX : a.eval x = X at hr
      cases hr with
      | map _ b xs clk hm hl hb hk' hv =>
        exact go (xs := xs) (.inr ⟨b, clk, hX, h.sub.2 _ _ hm⟩) ⟨hl, fun j h1 h2 => ⟨hk' j h1, hv j h1⟩⟩ hfe hs
    · rename_i nm
      obtain ⟨hN, b, hμ, hX⟩ := hr
      unfold lookB at hs
      split at hs
      · rename_i ls' es hg
        obtain ⟨rfl, hs⟩ := hs
        obtain ⟨b', xs, clk, hμ', hown, he, hbb, hfe⟩ := h.blk nm _ hg
        rw [hμ] at hμ'; cases hμ'
        exact go (xs := xs.toList) (.inr ⟨b, clk, hX, by simpa using hown.heap⟩) he hfe hs
      · exact hs.elim
    · exact hs.elim
  | _ => exact hs.elim
theorem snd_mkmap (h : Rel GL n S M μ st a w) {t : TypeId} {r : Option Operand} {ls : List LK} (ho : o.op = .makeMap t r) (hr : r = none) (hd : o.dst = some d) (hn : d < n) (hs : step P GL (.mkmap d ls) st K) : o.wpX P a w (Goal GL n S M w K) Q := by
  subst hr
  have key : ∀ st0 : St, Rel GL n S M μ st0 a w → getS st0.sto d = none → K ((st0.bind d (.map ls [])).put d (.ref (.mp d))) → o.wpX P a w (Goal GL n S M w K) Q := fun st0 h hnm hs => by
    have h0 : Rel GL n S M μ st0 a (w.alloc (.map #[] 0)) := h.of (h.toStoOk.alloc _) (Mem.le_refl _) fun _ _ hv => hv
    have h2 : Rel GL n S M (updP μ d (.map (some w.heap.size))) (st0.bind d (.map ls [])) a (w.alloc (.map #[] 0)) := by
      refine h0.bindName hnm hn ⟨w.heap.size, #[], 0, updP_self _ _ _, ⟨fun hS => by have := h.low _ hS; omega, heap_alloc_self w _, Mem.unk_new h.sub (Nat.le_refl _)⟩, ⟨rfl, fun j hj => by simp at hj⟩, ⟨by simp, by simp⟩, by simp⟩ fun m k hm hk => ?_
      have := (h.toStoOk.lt hm hk).1
      simp only [blockOf]
      intro e; cases e; omega
    refine wp_value (v := .map (some w.heap.size)) (w' := w.alloc (.map #[] 0)) ?_ ⟨_, hs, M, _, by rw [hd]; exact h2.put hn ⟨names_self, w.heap.size, updP_self _ _ _, rfl⟩, MExt.refl _ _, keeps_alloc w _ h.low⟩
    simp [execOp, ho, Instr.makeMap]
  simp only [step, mkmapE] at hs
  split at hs
  · rename_i hnm
    exact key st h hnm hs
  · rename_i b hb
    exact key _ (h.drop (nm := d) (by simp [names, hb])) (by simp [St.frz, getS_delS]) hs
theorem sameBits_one {l : LK} {x y : I} {v u : Value} (hx : Rep M x v) (hy : Rep M y u) (hfx : fitI l x = true) (hfy : fitI l y = true) (he : atomI x = atomI y) (n : Nat) : Instr.sameBits n v u = true := by
  cases l <;> cases x <;> simp [fitI] at hfx <;> cases y <;> simp [fitI] at hfy <;> simp [atomI] at he
  · subst he; rw [bool_inv hx, bool_inv hy]; simp [Instr.sameBits]
  · obtain ⟨rfl, rfl⟩ := he; rw [int_inv hx, int_inv hy]; simp [Instr.sameBits]
  · subst he; rw [str_inv hx, str_inv hy]; simp [Instr.sameBits, MapKept.bytes_beq]
theorem sameBits_list {n : Nat} : ∀ {ls : List LK} {xs ys : List I} {vs us : List Value}, RepL M xs vs → RepL M ys us → fitL ls xs = true → fitL ls ys = true → xs.map atomI = ys.map atomI → ((vs.zip us).all fun p => Instr.sameBits n p.1 p.2) = true
  | [], [], [], vs, us, h1, h2, _, _, _ => by
    have : vs = [] := List.eq_nil_of_length_eq_zero h1.1
    simp_all
  | l :: ls, x :: xs, y :: ys, v :: vs, u :: us, h1, h2, f1, f2, he => by
    simp only [fitL, Bool.and_eq_true] at f1 f2
    simp only [List.map_cons, List.cons.injEq] at he
    simp only [List.zip_cons_cons, List.all_cons, Bool.and_eq_true]
    exact ⟨sameBits_one (h1.2 0 (by simp) (by simp)) (h2.2 0 (by simp) (by simp)) f1.1 f2.1 he.1 n,
      sameBits_list ⟨by simpa using h1.1, fun j a b => h1.2 (j + 1) (by simp; omega) (by simp; omega)⟩ ⟨by simpa using h2.1, fun j a b => h2.2 (j + 1) (by simp; omega) (by simp; omega)⟩ f1.2 f2.2 he.2⟩
  | l :: ls, x :: xs, y :: ys, [], us, h1, _, _, _, _ => by rfl
  | l :: ls, x :: xs, y :: ys, v :: vs, [], _, h2, _, _, _ => by rfl
  | [], _ :: _, _, _, _, _, _, f, _, _ => by grind [fitL]
  | [], [], _ :: _, _, _, _, _, _, f, _ => by grind
  | _ :: _, [], _, _, _, _, _, f, _, _ => by grind [fitL]
  | _ :: _, _ :: _, [], _, _, _, _, _, f, _ => by grind
theorem sameBits_key {ls : List LK} {q q' : I} {v v' : Value} (hr : Rep M q v) (hr' : Rep M q' v') (hf : fitQ ls q = true) (hf' : fitQ ls q' = true) (he : keyI q = keyI q') : Instr.sameBits 10000 v v' = true := by
  have hlen := congrArg List.length he
  have one : ∀ x y : I, cellsI x = [x] → cellsI y = [y] → q = x → q' = y → (∃ l, ls = [l] ∧ fitI l x = true ∧ fitI l y = true) → Instr.sameBits 10000 v v' = true := fun x y e1 e2 e3 e4 ⟨l, _, f1, f2⟩ => by
    subst e3; subst e4
    simp only [keyI, e1, e2, List.map_cons, List.map_nil, List.cons.injEq, and_true] at he
    grind [sameBits_one]
  cases ls with
  | nil => cases q <;> simp [fitQ, fitL] at hf
  | cons l r =>
    by_cases hg : l = .g
    · subst hg
      cases q <;> simp [fitQ] at hf
      cases q' <;> simp [fitQ] at hf'
      obtain ⟨vs, rfl, h1⟩ := hr.agg_inv
      obtain ⟨us, rfl, h2⟩ := hr'.agg_inv
      have := sameBits_list (n := 9999) h1 h2 hf hf' he
      have hsz : vs.size = us.size := by
        have a1 := h1.1; have a2 := h2.1
        grind [keyI,cellsI]
      show Instr.sameBits (9999 + 1) _ _ = true
      simp only [Instr.sameBits, hsz, beq_self_eq_true, Bool.true_and]
      exact this
    · have sing : ∀ x : I, (∀ cs, x ≠ .agg cs) → fitQ (l :: r) x = true → r = [] ∧ fitI l x = true := fun x hx hfx => by
        have : fitL (l :: r) [x] = true := by cases x <;> first | (exact absurd rfl (hx _)) | (cases l <;> first | exact hfx | exact absurd rfl hg)
        grind [fitL]
      have nag : ∀ x : I, fitQ (l :: r) x = true → ∀ cs, x ≠ .agg cs := fun x hx cs e => by simp_all [fitQ]
      obtain ⟨rfl, f1⟩ := sing q (nag q hf) hf
      obtain ⟨_, f2⟩ := sing q' (nag q' hf') hf'
      have c1 : cellsI q = [q] := by have := nag q hf; cases q <;> first | rfl | exact absurd rfl (this _)
      have c2 : cellsI q' = [q'] := by have := nag q' hf'; cases q' <;> first | rfl | exact absurd rfl (this _)
      grind
theorem midx_key {β : Type} {es : List (I × β)} {q : I} {j : Nat} (h : midx es q = some j) (hj : j < es.length) : keyI (es[j]).1 = keyI q := by
  have := (List.findIdx?_eq_some_iff_getElem.1 h).2.1
  grind
def putObj (w : World) (b : Nat) (ob : Obj) : World := { w with heap := w.heap.setIfInBounds b ob }
theorem putObj_self {w : World} {b : Nat} {o1 o2 : Obj} (h : w.heap[b]? = some o1) : (putObj w b o2).heap[b]? = some o2 := by grind [putObj]
theorem putObj_other {w : World} {b k : Nat} {o2 : Obj} (h : k ≠ b) : (putObj w b o2).heap[k]? = w.heap[k]? := by grind [putObj]
theorem putObj_size (w : World) (b : Nat) (o2 : Obj) : (putObj w b o2).heap.size = w.heap.size := by simp [putObj]
theorem keeps_putObj {S : Nat → Prop} (w : World) (b : Nat) (o2 : Obj) (h : ¬ S b) : Keeps S w (putObj w b o2) :=
  ⟨rfl, rfl, rfl, by rw [putObj_size]; exact Nat.le_refl _, fun k hk => putObj_other fun e => h (e ▸ hk), Nat.le_refl _⟩
theorem births_push {xs : Array MapEntry} {clk : Nat} (h : Births xs.toList clk) (k v : Value) : Births (xs.push { key := k, val := v, born := clk }).toList (clk + 1) := by
  obtain ⟨h1, h2⟩ := h
  simp only [Array.toList_push]
  refine ⟨?_, fun e he => ?_⟩
  all_goals grind
theorem births_modify {xs : Array MapEntry} {clk : Nat} (h : Births xs.toList clk) (j : Nat) (f : MapEntry → MapEntry) (hf : ∀ e, (f e).born = e.born) : Births (xs.modify j f).toList clk := by
  have e : (xs.modify j f).toList.map (·.born) = xs.toList.map (·.born) := by
    apply List.ext_getElem?
    grind
  refine ⟨by rw [e]; exact h.1, fun x hx => ?_⟩
  have : x.born ∈ (xs.modify j f).toList.map (·.born) := List.mem_map.2 ⟨x, hx, rfl⟩
  rw [e] at this
  obtain ⟨y, hy, hyb⟩ := List.mem_map.1 this
  rw [← hyb]; exact h.2 y hy
theorem snd_mupd (h : Rel GL n S M μ st a w) {t k e : TypeId} {x ix y : Operand} {ox oi oy : O} {ls : List LK} (ho : o.op = .mapUpdate t x ix y ∨ o.op = .insert t x ix y) (hd : o.dst = none) (hx : cO GL x = some ox) (hix : cO GL ix = some oi) (hy : cO GL y = some oy)
    (hu : P.underlying t = some (.map k e)) (hk : keyT P k = some ls) (hs : step P GL (.mupd ox oi oy ls) st K) : o.wpX P a w (Goal GL n S M w K) Q := by
  have hr := opv_rep h hx
  have hri := opv_rep h hix
  have hry := opv_rep h hy
  simp only [step, mupdE] at hs
  split at hs
  · rename_i nm q u e1 e2 e3
    rw [e1] at hr; rw [e2] at hri; rw [e3] at hry
    have hri := repD_i_inv hri
    have hry := repD_i_inv hry
    obtain ⟨hf, hs⟩ := hs
    obtain ⟨hN, b, hμ, hX⟩ := hr
    unfold mupdB at hs
    split at hs
    · rename_i ls' es hg
      obtain ⟨rfl, hs⟩ := hs
      obtain ⟨b', xs, clk, hμ', hown, he, hbb, hfe⟩ := h.blk nm _ hg
      rw [hμ] at hμ'; cases hμ'
      have hck := run_key_check (P := P) (w := w) hk hri hf false
      have hfd := run_findKey' (P := P) (w := w) hk hri hf he.keys hfe
      have fin : ∀ (xs' : Array MapEntry) (clk' : Nat), (Instr.mapUpdate t (a.eval x) (a.eval ix) (a.eval y)).run P w = .ok () (putObj w b (.map xs' clk')) → EntsAt M xs'.toList (mput es q u) → Births xs'.toList clk' → (∀ e ∈ mput es q u, fitQ ls' e.1 = true) → o.wpX P a w (Goal GL n S M w K) Q := fun xs' clk' hrun q1 q2 q3 => by
        have hkp := keeps_putObj w b (.map xs' clk') hown.low
        refine wp_skipped (w' := putObj w b (.map xs' clk')) ?_ ⟨_, hs, M, μ, ?_, MExt.refl _ _, hkp⟩
        · rcases ho with ho | ho <;> simp only [execOp, ho, Sem.run_bind, hrun, Result.andThen_ok, Sem.run_pure]
        · rw [hd]
          exact h.setBlk hg (by rw [hμ]; rfl) hkp.size (fun k hk _ => putObj_other hk) ⟨b, xs', clk', hμ, ⟨hown.low, putObj_self hown.heap, hown.unk⟩, q1, q2, q3⟩
      have hm := mput_midx es q u
      cases hj : midx es q with
      | none =>
        rw [hj] at hm hfd
        simp only at hm
        rw [hm] at fin
        refine fin (xs.push { key := a.eval ix, val := a.eval y, born := clk }) (clk + 1) ?_ ?_ (births_push hbb _ _) (fun e he => (List.mem_append.1 he).elim (hfe e) (fun q => by simp at q; subst q; exact hf))
        · simp only [Option.bind_none] at hfd
          simp [Instr.mapUpdate, run_underlying hu, hX, MapKept.run_getObj_map hown.heap, hck, hfd, MapKept.run_setObj_map _ hown.heap, putObj]
        · simp only [Array.toList_push]
          refine ⟨by simp [he.1], fun j h1 h2 => ?_⟩
          by_cases hjl : j < es.length
          · rw [List.getElem_append_left hjl, List.getElem_append_left (by rw [he.1]; exact hjl)]
            exact he.2 j hjl _
          · obtain rfl : j = es.length := by simp at h1; omega
            rw [List.getElem_append_right (by omega), List.getElem_append_right (by rw [he.1]; omega)]
            have hel := he.1
            simp only [Nat.sub_self, List.getElem_cons_zero, hel]
            exact ⟨hri, hry⟩
      | some j =>
        have hjl := midx_lt hj
        have hjx : j < xs.size := by have := he.1; simp at this; omega
        rw [hj] at hm hfd
        simp only at hm
        rw [hm] at fin
        have hj2 := he.2 j hjl (by simpa using hjx)
        have hsb := sameBits_key hj2.1 hri (hfe _ (List.getElem_mem hjl)) hf (midx_key hj hjl)
        refine fin (xs.modify j fun e => { e with key := a.eval ix, val := a.eval y }) clk ?_ ?_ (births_modify hbb _ _ (fun _ => rfl)) (fun e he => (List.mem_or_eq_of_mem_set he).elim (hfe e) (fun q => by subst q; exact hf))
        · simp only [Option.bind_some, Array.getElem?_toList, Array.getElem?_eq_getElem hjx, Option.map_some] at hfd
          simp only [Array.getElem_toList] at hsb
          simp [Instr.mapUpdate, run_underlying hu, hX, MapKept.run_getObj_map hown.heap, hck, hfd, Instr.keyThatStays, hjx, hsb, MapKept.run_setObj_map _ hown.heap, putObj]
        · refine ⟨by simp; simpa using he.1, fun i h1 h2 => ?_⟩
          simp only [Array.getElem_toList, Array.getElem_modify, List.getElem_set]
          by_cases hji : j = i
          · subst hji; simp only [if_true]; exact ⟨hri, hry⟩
          · rw [if_neg hji, if_neg hji]
            have := he.2 i (by simpa using h1) (by simpa using h2)
            simpa using this
    · exact hs.elim
  · exact hs.elim
theorem snd_lenm (h : Rel GL n S M μ st a w) {t k e : TypeId} {x : Operand} {ox : O} (ho : o.op = .call { callee := .builtin .len, args := #[x], argTypes := #[t] }) (hd : o.dst = some d) (hn : d < n)
    (hx : cO GL x = some ox) (hu : P.underlying t = some (.map k e)) (hs : step P GL (.lenm d ox) st K) : o.wpX P a w (Goal GL n S M w K) Q := by
  have hr := opv_rep h hx
  simp only [step, lenmE] at hs
  split at hs
  · rename_i e1
    rw [e1] at hr
    have hr := repD_i_inv hr
    generalize hX : a.eval x = X at hr
    cases hr
    refine wp_put h hd hn (run_builtin1 ho rfl ?_) (repD_i (.int .i64 0)) hs
    rw [hX]; simp [Builtin.len_, run_underlying hu w, goInt]
  · rename_i es e1
    rw [e1] at hr
    have hr := repD_i_inv hr
    generalize hX : a.eval x = X at hr
    cases hr with
    | map _ b xs clk hm hl hb hk' hv =>
      refine wp_put h hd hn (run_builtin1 ho rfl ?_) (repD_i (.int .i64 es.length)) hs
      rw [hX]; simp [Builtin.len_, run_underlying hu w, goInt, MapKept.run_getObj_map (h.sub.2 _ _ hm), hl]
  · rename_i nm e1
    rw [e1] at hr
    obtain ⟨hN, b, hμ, hX⟩ := hr
    unfold lenmB at hs
    split at hs
    · rename_i ls' es hg
      obtain ⟨b', xs, clk, hμ', hown, he, hbb, hfe⟩ := h.blk nm _ hg
      rw [hμ] at hμ'; cases hμ'
      refine wp_put h hd hn (run_builtin1 ho rfl ?_) (repD_i (.int .i64 es.length)) hs
      have hl := he.1
      simp at hl
      rw [hX]; simp [Builtin.len_, run_underlying hu w, goInt, MapKept.run_getObj_map hown.heap, hl]
    · exact hs.elim
  · exact hs.elim
theorem snd_rng (h : Rel GL n S M μ st a w) {t k e : TypeId} {x : Operand} {ox : O} (ho : o.op = .range t x) (hd : o.dst = some d) (hn : d < n)
    (hx : cO GL x = some ox) (hu : P.underlying t = some (.map k e)) (hs : step P GL (.rng d ox) st K) : o.wpX P a w (Goal GL n S M w K) Q := by
  have hr := opv_rep h hx
  simp only [step] at hs
  have fin : ∀ (ob : Obj) (rest : List (I × I)), getS st.sto d = none → (execOp a.eval o).run P w = .ok (.value (.pointer (some ⟨w.heap.size, 0, none⟩))) (w.alloc ob) →
      (∃ m since seen last, ob = .mapIter m since seen last ∧ ((m = none ∧ rest = []) ∨ ∃ q xs clk, m = some q ∧ M.m q = some (xs, clk) ∧ since = clk ∧ last = clk ∧ Births xs clk ∧ EntsAt M (xs.filter fun e => !seen.contains e.born) rest)) →
      K ((st.bind d (.iter none rest)).put d (.ref (.it d))) → o.wpX P a w (Goal GL n S M w K) Q := fun ob rest hnm hrun hob hK => by
    obtain ⟨m, since, seen, last, rfl, hob⟩ := hob
    have h0 : Rel GL n S M μ st a (w.alloc (.mapIter m since seen last)) := h.of (h.toStoOk.alloc _) (Mem.le_refl _) fun _ _ hv => hv
    have h2 : Rel GL n S M (updP μ d (.pointer (some ⟨w.heap.size, 0, none⟩))) (st.bind d (.iter none rest)) a (w.alloc (.mapIter m since seen last)) := by
      refine h0.bindName hnm hn ⟨w.heap.size, m, since, seen, last, updP_self _ _ _, ⟨fun hS => by have := h.low _ hS; omega, heap_alloc_self w _, Mem.unk_new h.sub (Nat.le_refl _)⟩, ?_⟩ fun m k hm hk => ?_
      · rcases hob with ⟨q1, q2⟩ | ⟨q, xs, clk, q1, q2, q3, q4, q5, q6⟩
        · exact .inl ⟨q1, q2, rfl⟩
        · exact .inr ⟨q, xs, clk, q1, q2, q3, q4, q5, q6, fun c hc => by cases hc⟩
      have := (h.toStoOk.lt hm hk).1
      simp only [blockOf]
      intro e; cases e; omega
    exact wp_value hrun ⟨_, hK, M, _, by rw [hd]; exact h2.put hn ⟨names_self, w.heap.size, updP_self _ _ _, rfl⟩, MExt.refl _ _, keeps_alloc w _ h.low⟩
  unfold rngE at hs
  split at hs
  · rename_i hnm e1
    rw [e1] at hr
    have hr := repD_i_inv hr
    generalize hX : a.eval x = X at hr
    cases hr
    refine fin (.mapIter none 0 #[] 0) [] hnm ?_ ⟨_, _, _, _, rfl, .inl ⟨rfl, rfl⟩⟩ hs
    simp [execOp, ho, hX, Instr.range, run_underlying hu w]
  · rename_i es hnm e1
    rw [e1] at hr
    have hr := repD_i_inv hr
    generalize hX : a.eval x = X at hr
    cases hr with
    | map _ b xs clk hm hl hb hk' hv =>
      refine fin (.mapIter (some b) clk #[] clk) es hnm ?_ ⟨_, _, _, _, rfl, .inr ⟨b, xs, clk, rfl, hm, rfl, rfl, hb, ?_⟩⟩ hs
      · simp [execOp, ho, hX, Instr.range, run_underlying hu w, MapKept.run_getObj_map (h.sub.2 _ _ hm)]
      · have : (xs.filter fun e => !(#[] : Array Nat).contains e.born) = xs := by simp
        rw [this]
        exact ⟨hl, fun j h1 h2 => ⟨hk' j h1, hv j h1⟩⟩
  · exact hs.elim
end
end Go.Dl
