/- A part of the proofs of WorkersExclude and WorkersMatchesSteps: A4. -/
import Derived.Test.YtcgjldimifeffaaGreatDoorA3
set_option linter.unusedVariables false
namespace Go.Dl
open Go Go.RowKit
def enters (P : Program) (f : FuncId) : Bool :=
  Nat.blt f 1000000000 && match P.funcs[f]? with
  | some fn => fn.name != "runtime.NumGoroutine" && fn.body.isSome
  | none => false
def Does (P : Program) (f : FuncId) (vs : Array Value) (w : World) (R : Value → World → Prop) : Prop :=
  (enters P f = true ∧ Calls P f vs w fun e w' => ∃ v, e = .returned v ∧ R v w') ∨ (Nat.blt f 1000000000 = true ∧ ∃ row, (callFunc f vs).run P w = .ok (.row row vs) w ∧ Rows P row vs w R) ∨ (Nat.blt f 1000000000 = true ∧ ∃ v w', (callFunc f vs).run P w = .ok (.value v) w' ∧ R v w') ∨
    (Nat.blt f 1000000000 = false ∧ ∃ fn tmps assign body, (Instr.yield (f - 1000000000) vs).run P w = .ok (.round (f - 1000000000) fn tmps assign body) w ∧ RoundIn Fence.wide 0 P (f - 1000000000) fn tmps assign body w fun e w' => ∃ v, e = .returned v ∧ R v w')
theorem Does.mono {P : Program} {f : FuncId} {vs : Array Value} {w : World} {R R' : Value → World → Prop} (h : Does P f vs w R) (hr : ∀ v w', R v w' → R' v w') : Does P f vs w R' := by
  rcases h with ⟨h1, h2⟩ | ⟨hy, row, h1, h2⟩ | ⟨hy, v, w', h1, h2⟩ | ⟨hy, fn, tmps, as, bd, h1, h2⟩
  · exact .inl ⟨h1, h2.mono fun _ _ ⟨v, a, b⟩ => ⟨v, a, hr _ _ b⟩⟩
  · exact .inr (.inl ⟨hy, row, h1, h2.mono hr⟩)
  · exact .inr (.inr (.inl ⟨hy, v, w', h1, hr _ _ h2⟩))
  · exact .inr (.inr (.inr ⟨hy, fn, tmps, as, bd, h1, h2.mono fun _ _ ⟨v, a, b⟩ => ⟨v, a, hr _ _ b⟩⟩))
def RepDs (M : Mem) (μ : Place) (N : Nat → Prop) (xs : List D) (vs : List Value) : Prop := vs.length = xs.length ∧ ∀ j (h : j < xs.length) (h' : j < vs.length), RepD M μ N (xs[j]) (vs[j])
def shut (μ : Place) (sto : List (Nat × Blk)) (w : World) : Sh := ⟨fun b => b < w.heap.size ∧ ∀ nm, names sto nm → blockOf (μ nm) ≠ some b, μ, []⟩
def MC (P : Program) (GL : List (Nat × List I)) (f : FuncId) (args : List D) (sto : List (Nat × Blk)) (mv : List Nat) (R : D → List (Nat × Blk) → Prop) : Prop :=
  ∀ (M : Mem) (μ : Place) (w : World) (vs : Array Value), StoOk (shut μ sto w) M μ sto w → GlobOk GL M → RepDs M μ (names sto) args vs.toList →
    Does P f vs w fun v w' => ∃ r sto' M' μ', R r sto' ∧ StoOk (shut μ sto w) M' μ' sto' w' ∧ RepD M' μ' (names sto') r v ∧ MExt (shut μ sto w) M M' ∧ Keeps (shut μ sto w) w w' ∧ ∀ nm, names sto nm → nm ∉ mv → μ' nm = μ nm
theorem MC.mono {P : Program} {GL : List (Nat × List I)} {f : FuncId} {args : List D} {sto : List (Nat × Blk)} {mv : List Nat} {R R' : D → List (Nat × Blk) → Prop} (h : MC P GL f args sto mv R) (hr : ∀ r s, R r s → R' r s) : MC P GL f args sto mv R' :=
  fun M μ w vs h1 h2 h3 => (h M μ w vs h1 h2 h3).mono fun _ _ ⟨r, s, M', μ', a, b⟩ => ⟨r, s, M', μ', hr _ _ a, b⟩
def ren (d n : Nat) : Nat := if n = 6000 then d else if n = d then 6000 else if n = 6001 then d + 1000 else if n = d + 1000 then 6001 else n
theorem ren_ren {d : Nat} (h : d < 1000) (n : Nat) : ren d (ren d n) = n := by
  unfold ren
  grind
def renR (d : Nat) : Ref → Ref
  | .loc nm off => .loc (ren d nm) off
  | .sl nm k lo hi => .sl (ren d nm) k lo hi
  | .lel nm k row off => .lel (ren d nm) k row off
  | .mp nm => .mp (ren d nm)
  | .it nm => .it (ren d nm)
def renC (d : Nat) : Cp → Cp
  | .ref r => .ref (renR d r)
  | c => c
def renD (d : Nat) : D → D
  | .ref r => .ref (renR d r)
  | .fn f first caps => .fn f (first.map (renC d)) (caps.map (renC d))
  | .tup cs => .tup (cs.map (renC d))
  | x => x
def renB (d : Nat) : Blk → Blk
  | .cells cs => .cells (cs.map (renD d))
  | .lp l q cs => .lp l q (cs.map (renD d))
  | .gmap ls clk es => .gmap ls clk (es.map fun e => (e.1, e.2.1, renD d e.2.2))
  | x => x
def renS (d : Nat) : List (Nat × Blk) → List (Nat × Blk)
  | [] => []
  | (m, x) :: r => (ren d m, renB d x) :: renS d r
theorem ren_inj {d : Nat} (h : d < 1000) {a b : Nat} (e : ren d a = ren d b) : a = b := by grind [ren_ren]
theorem getS_renS {d : Nat} (h : d < 1000) (l : List (Nat × Blk)) (m : Nat) : getS (renS d l) m = (getS l (ren d m)).map (renB d) := by
  induction l with
  | nil => rfl
  | cons x r ih =>
    grind [renS,getS,ren]
theorem names_renS {d : Nat} (h : d < 1000) (l : List (Nat × Blk)) (m : Nat) : names (renS d l) m ↔ names l (ren d m) := by grind [names,getS_renS,getS,ren]
section
variable {GL : List (Nat × List I)} {n : Nat} {S : Sh} {M M' : Mem} {μ μ' : Place} {N N' : Nat → Prop} {st : St} {sto sto' : List (Nat × Blk)} {a : Act} {w w' : World} {nm d : Nat} {b : Blk}
theorem RepRef.ren (_hd : d < 1000) (hN : ∀ m, N m → N' (ren d m)) (hμ : ∀ m, N m → μ' (Dl.ren d m) = μ m) {r : Ref} {v : Value} (h : RepRef μ N r v) : RepRef μ' N' (renR d r) v := by cases r <;> exact ⟨hN _ h.1, by rw [hμ _ h.1]; exact h.2⟩
theorem RepC.ren (hd : d < 1000) (hN : ∀ m, N m → N' (ren d m)) (hμ : ∀ m, N m → μ' (Dl.ren d m) = μ m) {x : Cp} {v : Value} (h : RepC M μ N x v) : RepC M μ' N' (renC d x) v := by
  cases x with
  | ref r => exact RepRef.ren hd hN hμ h
  | _ => exact h
theorem RepD.ren (hd : d < 1000) (hN : ∀ m, N m → N' (ren d m)) (hμ : ∀ m, N m → μ' (Dl.ren d m) = μ m) {x : D} {v : Value} (h : RepD M μ N x v) : RepD M μ' N' (renD d x) v := by
  cases x with
  | ref r => exact RepRef.ren hd hN hμ h
  | fn f first caps =>
    obtain ⟨va, vb, e, hy, h1, h2⟩ := h
    have key : ∀ {l : List Cp} {vs : List Value}, RepCs M μ N l vs → RepCs M μ' N' (l.map (renC d)) vs := fun h => ⟨by simpa using h.1, fun j a b => by rw [List.getElem_map]; exact (h.2 j (by simpa using a) b).ren hd hN hμ⟩
    exact ⟨va, vb, e, hy.imp id (fun q => by rw [q]; rfl), key h1, key h2⟩
  | tup cs =>
    obtain ⟨vs, e, h1⟩ := h
    exact ⟨vs, e, by simpa using h1.1, fun j a b => by rw [List.getElem_map]; exact (h1.2 j (by simpa using a) b).ren hd hN hμ⟩
  | _ => exact h
theorem GEnts.ren (hd : d < 1000) (hN : ∀ m, N m → N' (ren d m)) (hμ : ∀ m, N m → μ' (Dl.ren d m) = μ m) {xs : List MapEntry} {es : List (I × Nat × D)} (h : GEnts M μ N xs es) : GEnts M μ' N' xs (es.map fun e => (e.1, e.2.1, renD d e.2.2)) :=
  ⟨by simpa using h.1, fun j a b => by rw [List.getElem_map]; have := h.2 j (by simpa using a) b; exact ⟨this.1, this.2.1, this.2.2.ren hd hN hμ⟩⟩
theorem BlkOk.ren (hd : d < 1000) (hN : ∀ m, N m → N' (ren d m)) (hμ : ∀ m, N m → μ' (Dl.ren d m) = μ m) {x : Blk} (hn : N nm) (h : BlkOk S M μ N w nm x) : BlkOk S M μ' N' w (Dl.ren d nm) (renB d x) := by
  cases x with
  | cells cs =>
    obtain ⟨bb, vs, t, e, ho, hs, hr⟩ := h
    exact ⟨bb, vs, t, by rw [hμ _ hn]; exact e, ho, by simpa using hs, fun j h h' => by rw [List.getElem_map]; exact (hr j (by simpa using h) h').ren hd hN hμ⟩
  | lp l q cs =>
    obtain ⟨vs, e, ho, hs, hr⟩ := h
    exact ⟨vs, by rw [hμ _ hn]; exact e, ho, by simpa using hs, fun j h h' => by rw [List.getElem_map]; exact (hr j (by simpa using h) h').ren hd hN hμ⟩
  | gmap ls clk es =>
    obtain ⟨bb, xs, e, ho, q1, q2, q3⟩ := h
    exact ⟨bb, xs, by rw [hμ _ hn]; exact e, ho, q1.ren hd hN hμ, q2, fun e he => by obtain ⟨e0, he0, rfl⟩ := List.mem_map.1 he; exact q3 e0 he0⟩
  | _ => simp only [renB, BlkOk] at h ⊢; rw [hμ _ hn]; exact h
def scrE : List Nat → Env → Env
  | [], e => e
  | nm :: r, e => scrE r (.sb nm (.iter none []) e)
def scrD : List Nat → D → D
  | [], x => x
  | nm :: r, x => scrD r (sbD nm (.iter none []) x)
def scrS : List Nat → List (Nat × Blk) → List (Nat × Blk)
  | [], s => s
  | nm :: r, s => scrS r (sbS nm (.iter none []) s)
def scrB : List Nat → Blk → Blk
  | [], x => x
  | nm :: r, x => scrB r (sbB nm (.iter none []) x)
def delSs (sto : List (Nat × Blk)) : List Nat → List (Nat × Blk)
  | [] => sto
  | nm :: r => delSs (delS sto nm) r
theorem getE_scrE : ∀ (l : List Nat) (e : Env) (s : Nat), getE (scrE l e) s = scrD l (getE e s)
  | [], _, _ => rfl
  | nm :: r, e, s => by simp only [scrE, scrD, getE_scrE r]; rfl
theorem getS_scrS : ∀ (l : List Nat) (s : List (Nat × Blk)) (m : Nat), getS (scrS l s) m = (getS s m).map (scrB l)
  | [], s, m => by simp only [scrS]; cases getS s m <;> rfl
  | nm :: r, s, m => by simp only [scrS, getS_scrS r, getS_sbS]; cases getS s m <;> rfl
theorem getS_delSs : ∀ (l : List Nat) (s : List (Nat × Blk)) (m : Nat), getS (delSs s l) m = if m ∈ l then none else getS s m
  | [], s, m => by simp [delSs]
  | nm :: r, s, m => by
    simp only [delSs, getS_delSs r, getS_delS, List.mem_cons]
    grind
theorem RepC.scr (hN : ∀ m, m ≠ nm → N m → N' m ∧ μ' m = μ m) {x : Cp} {v : Value} (h : RepC M μ N x v) : RepC M μ' N' (sbC nm (.iter none []) x) v :=
  h.sb (Mem.le_refl _) hN fun r v e _ => by simp only [sbR, if_pos e]; cases r <;> trivial
theorem RepD.scr1 (hN : ∀ m, m ≠ nm → N m → N' m ∧ μ' m = μ m) {x : D} {v : Value} (h : RepD M μ N x v) : RepD M μ' N' (sbD nm (.iter none []) x) v :=
  h.sb (Mem.le_refl _) hN fun r v e _ => by simp only [sbR, if_pos e]; cases r <;> trivial
theorem RepD.scr : ∀ (l : List Nat) {N N' : Nat → Prop} {μ μ' : Place} {x : D} {v : Value}, (∀ m, m ∉ l → N m → N' m ∧ μ' m = μ m) → RepD M μ N x v → RepD M μ' N' (scrD l x) v
  | [], N, N', μ, μ', x, v, hN, h => h.mono' (Mem.le_refl _) fun m _ hm => hN m (by simp) hm
  | nm :: r, N, N', μ, μ', x, v, hN, h => by
    have h1 : RepD M μ (fun m => N m ∧ m ≠ nm) (sbD nm (.iter none []) x) v := h.scr1 fun m hm hn => ⟨⟨hn, hm⟩, rfl⟩
    exact RepD.scr r (fun m hm hn => hN m (by simp [hn.2, hm]) hn.1) h1
theorem BlkOk.scr : ∀ (l : List Nat) {N N' : Nat → Prop} {μ μ' : Place} {x : Blk}, (∀ m, m ∉ l → N m → N' m ∧ μ' m = μ m) → μ' nm = μ nm → BlkOk S M μ N w nm x → BlkOk S M μ' N' w nm (scrB l x)
  | [], N, N', μ, μ', x, hN, hμ, h => h.mono (Mem.le_refl _) hμ (fun m _ hm => hN m (by simp) hm) (fun _ _ _ => rfl) (fun _ _ _ => Mem.same_refl _ _)
  | p :: r, N, N', μ, μ', x, hN, hμ, h => by
    have h1 : BlkOk S M μ (fun m => N m ∧ m ≠ p) w nm (sbB p (.iter none []) x) := h.sb (Mem.le_refl _) (fun m hm hn => ⟨⟨hn, hm⟩, rfl⟩) (fun r v e _ => by simp only [sbR, if_pos e]; cases r <;> trivial) rfl (fun _ _ _ => rfl) (fun _ _ _ => Mem.same_refl _ _)
    exact BlkOk.scr r (fun m hm hn => hN m (by simp [hn.2, hm]) hn.1) hμ h1
def goneS (sto sto' : List (Nat × Blk)) (mv : List Nat) : List Nat := (sto.map (·.1)).filter fun nm => mv.contains nm || (getS sto' nm).isNone
def callSt (st : St) (sto sto' : List (Nat × Blk)) (mv : List Nat) (d : Nat) : St :=
  ⟨scrE (goneS sto sto' mv) st.env, renS d sto' ++ scrS (goneS sto sto' mv) (delSs st.sto (sto.map (·.1)))⟩
theorem getS_append (l r : List (Nat × Blk)) (m : Nat) : getS (l ++ r) m = match getS l m with | some b => some b | none => getS r m := by
  induction l with
  | nil => rfl
  | cons x l ih => obtain ⟨p, q⟩ := x; simp only [List.cons_append, getS]; split; rfl; exact ih
theorem mem_names {m : Nat} : m ∈ sto.map (·.1) ↔ names sto m := by
  induction sto with
  | nil => simp [names, getS]
  | cons x r ih =>
    grind [names,getS]
theorem StoOk.hand (h : StoOk S M μ st.sto w) (hs : ∀ nm b, getS sto nm = some b → getS st.sto nm = some b) (hc : ∀ nm b, getS sto nm = some b → ∀ m ∈ b.nms, names sto m) : StoOk (shut μ sto w) M μ sto w where
  sub := h.sub
  blk := fun m x hx => by
    have hk := h.blk m x (hs m x hx)
    have hn : names sto m := by simp [names, hx]
    have own : ∀ {bb : Nat} {o : Obj}, blockOf (μ m) = some bb → Owns S M w bb o → Owns (shut μ sto w) M w bb o := fun e ho => ⟨fun hsh => hsh.2 m hn e, ho.heap, ho.unk⟩
    cases x with
    | cells cs =>
      obtain ⟨bb, vs, t, e, ho, hsz, hr⟩ := hk
      exact ⟨bb, vs, t, e, own (by rw [e]; rfl) ho, hsz, fun j h h' => (hr j h h').mono' (Mem.le_refl _) fun q hq _ => ⟨hc m _ hx q (List.mem_flatMap.2 ⟨_, List.getElem_mem h, hq⟩), rfl⟩⟩
    | rows e k rs =>
      obtain ⟨aa, cap, e, hh⟩ := hk
      refine ⟨aa, cap, e, ?_⟩
      rcases hh with hh | ⟨bb, o, cur, rfl, hcap, ho, q⟩
      · exact .inl hh
      · exact .inr ⟨bb, o, cur, rfl, hcap, own (by rw [e]; simp only [blockOf]; rw [if_neg (by omega)]) ho, q⟩
    | map ls es =>
      obtain ⟨bb, xs, clk, e, ho, q⟩ := hk
      exact ⟨bb, xs, clk, e, own (by rw [e]; rfl) ho, q⟩
    | iter cur rest =>
      obtain ⟨bb, mm, since, seen, last, e, ho, q⟩ := hk
      exact ⟨bb, mm, since, seen, last, e, own (by rw [e]; rfl) ho, q⟩
    | gmap ls clk es =>
      obtain ⟨bb, xs, e, ho, q1, q⟩ := hk
      exact ⟨bb, xs, e, own (by rw [e]; rfl) ho, q1.mono (Mem.le_refl _) (fun e he q hq _ => ⟨hc m _ hx q (List.mem_flatMap.2 ⟨e, he, hq⟩), rfl⟩), q⟩
    | arr e k rs =>
      obtain ⟨aa, e1, hh⟩ := hk
      refine ⟨aa, e1, ?_⟩
      rcases hh with hh | ⟨bb, o, cur, rfl, hne, ho, q⟩
      · exact .inl hh
      · exact .inr ⟨bb, o, cur, rfl, hne, own (by rw [e1]; exact blockOf_pos (by simpa using hne)) ho, q⟩
    | lp l lq cs =>
      obtain ⟨vs, e, ho, hsz, hr⟩ := hk
      exact ⟨vs, e, own (by rw [e]; rfl) ho, hsz, fun j h h' => (hr j h h').mono' (Mem.le_refl _) fun q hq _ => ⟨hc m _ hx q (List.mem_flatMap.2 ⟨_, List.getElem_mem h, hq⟩), rfl⟩⟩
  sep := fun m m' k k' hne h1 h2 => by
    refine h.sep m m' k k' hne ?_ ?_
    · obtain ⟨x, hx⟩ := Option.isSome_iff_exists.1 h1; simp [names, hs m x hx]
    · obtain ⟨x, hx⟩ := Option.isSome_iff_exists.1 h2; simp [names, hs m' x hx]
  low := fun b hb => hb.1
theorem Rel.afterCall (h : Rel GL n S M μ st a w) {mv : List Nat} (hd : d < 1000) (hs : ∀ nm b, getS sto nm = some b → getS st.sto nm = some b)
    (h1 : StoOk (shut μ sto w) M' μ' sto' w') (hm : MExt (shut μ sto w) M M') (hk : Keeps (shut μ sto w) w w') (hmv : ∀ nm, names sto nm → nm ∉ mv → μ' nm = μ nm)
    (hfresh : ∀ nm, names (renS d sto') nm → names sto nm ∨ (getS st.sto nm = none ∧ nm < 5000)) (hmvp : ∀ nm ∈ mv, ¬ pinned nm) (hold : ∀ nm, names sto nm → names sto' nm → ren d nm = nm) :
    ∃ μ2, Rel GL n S M' μ2 (callSt st sto sto' mv d) a w' ∧ MExt S M M' ∧ Keeps S w w' ∧ ∀ r v, RepD M' μ' (names sto') r v → RepD M' μ2 (names (callSt st sto sto' mv d).sto) (renD d r) v := by
  have hns : ∀ m, names sto m → names st.sto m := fun m hm => by obtain ⟨x, hx⟩ := Option.isSome_iff_exists.1 hm; simp [names, hs m x hx]
  have hSsh : ∀ k, S k → shut μ sto w k := fun k hk => ⟨h.low k hk, fun m hm e => (h.toStoOk.lt (hns m hm) e).2.1 hk⟩
  have hoth : ∀ m k, names st.sto m → ¬ names sto m → blockOf (μ m) = some k → shut μ sto w k := fun m k hm hn e =>
    ⟨(h.toStoOk.lt hm e).1, fun m' hm' e' => h.sep m m' k k (fun q => hn (q ▸ hm')) hm (hns m' hm') e e' rfl⟩
  have hN2 : ∀ m, names (callSt st sto sto' mv d).sto m ↔ names sto' (ren d m) ∨ (names st.sto m ∧ ¬ names sto m) := fun m => by
    simp only [callSt, names, getS_append, getS_renS hd, getS_scrS, getS_delSs, mem_names]
    cases e1 : getS sto' (ren d m) with
    | some x => simp
    | none =>
      simp only [Option.map_none, Option.isSome_none, Bool.false_eq_true, false_or]
      by_cases e2 : (getS sto m).isSome = true
      · simp [e2]
      · cases getS st.sto m <;> simp [e2]
  have hdis : ∀ m, names sto' (ren d m) → ¬ (names st.sto m ∧ ¬ names sto m) := fun m hm hh => by
    rcases hfresh m ((names_renS hd _ _).2 hm) with q | q
    · exact hh.2 q
    · have := hh.1; simp [names, q.1] at this
  let μ2 : Place := fun m => if (getS sto' (ren d m)).isSome = true then μ' (ren d m) else μ m
  have hμ2 : ∀ m, names sto' m → μ2 (ren d m) = μ' m := fun m hm => by simp only [μ2, ren_ren hd]; exact if_pos hm
  have hμ2o : ∀ m, names st.sto m → ¬ names sto m → μ2 m = μ m := fun m h1 h2 => by
    simp only [μ2]; exact if_neg fun hc => hdis m hc ⟨h1, h2⟩
  have hsee : ∀ m, m ∉ goneS sto sto' mv → names st.sto m → names (callSt st sto sto' mv d).sto m ∧ μ2 m = μ m := fun m hg hm => by
    by_cases hin : names sto m
    · have hg' : m ∉ mv ∧ names sto' m := by
        simp only [goneS, List.mem_filter, not_and] at hg
        have := hg (mem_names.2 hin)
        simp only [Bool.or_eq_true, not_or, List.contains_iff_mem] at this
        exact ⟨this.1, by have := this.2; simp only [names]; cases hx : getS sto' m <;> simp_all⟩
      have hr := hold m hin hg'.2
      refine ⟨(hN2 m).2 (.inl (by rw [hr]; exact hg'.2)), ?_⟩
      have := hμ2 m hg'.2
      rw [hr] at this
      rw [this]; exact hmv m hin hg'.1
    · exact ⟨(hN2 m).2 (.inr ⟨hm, hin⟩), hμ2o m hm hin⟩
  refine ⟨μ2, ?_, ⟨hm.le, fun b hb => hm.old b (hSsh b hb)⟩, hk.mono hSsh, fun r v hr => hr.ren hd (fun m hm => (hN2 _).2 (.inl (by rw [ren_ren hd]; exact hm))) hμ2⟩
  have hsto : StoOk S M' μ2 (callSt st sto sto' mv d).sto w' := by
    refine ⟨h1.sub, fun m x hx => ?_, fun m m' k k' hne hm1 hm2 hb1 hb2 => ?_, fun b hb => Nat.lt_of_lt_of_le (h.low b hb) hk.size⟩
    · simp only [callSt, getS_append, getS_renS hd, getS_scrS, getS_delSs, mem_names] at hx
      cases e1 : getS sto' (ren d m) with
      | some y =>
        simp only [e1, Option.map_some, Option.some.injEq] at hx
        subst hx
        have hy := h1.blk _ y e1
        have := hy.ren (N' := names (callSt st sto sto' mv d).sto) hd (fun m hm => (hN2 _).2 (.inl (by rw [ren_ren hd]; exact hm))) hμ2 (by simp [names, e1])
        rw [ren_ren hd] at this
        have low : ∀ {bb : Nat} {o : Obj}, Owns (shut μ sto w) M' w' bb o → Owns S M' w' bb o := fun ho => ⟨fun hS => ho.low (hSsh _ hS), ho.heap, ho.unk⟩
        revert this
        generalize renB d y = z
        intro this
        cases z with
        | cells cs => obtain ⟨bb, vs, t, e, ho, q⟩ := this; exact ⟨bb, vs, t, e, low ho, q⟩
        | rows e k rs =>
          obtain ⟨aa, cap, e, hh⟩ := this
          refine ⟨aa, cap, e, ?_⟩
          rcases hh with hh | ⟨bb, o, cur, q1, hcap, ho, q⟩
          · exact .inl hh
          · exact .inr ⟨bb, o, cur, q1, hcap, low ho, q⟩
        | map ls es => obtain ⟨bb, xs, clk, e, ho, q⟩ := this; exact ⟨bb, xs, clk, e, low ho, q⟩
        | iter cur rest => obtain ⟨bb, mm, since, seen, last, e, ho, q⟩ := this; exact ⟨bb, mm, since, seen, last, e, low ho, q⟩
        | lp l lq cs => obtain ⟨vs, e, ho, q⟩ := this; exact ⟨vs, e, low ho, q⟩
        | gmap ls clk es => obtain ⟨bb, xs, e, ho, q⟩ := this; exact ⟨bb, xs, e, low ho, q⟩
        | arr e k rs =>
          obtain ⟨aa, e1, hh⟩ := this
          refine ⟨aa, e1, ?_⟩
          rcases hh with hh | ⟨bb, o, cur, q1, hne, ho, q⟩
          · exact .inl hh
          · exact .inr ⟨bb, o, cur, q1, hne, low ho, q⟩
      | none =>
        simp only [e1, Option.map_none] at hx
        by_cases hin : names sto m
        · rw [if_pos (mem_names.2 hin)] at hx; cases hx
        · rw [if_neg (fun q => hin (mem_names.1 q))] at hx
          cases e2 : getS st.sto m with
          | none => simp [e2] at hx
          | some y =>
            simp only [e2, Option.map_some, Option.some.injEq] at hx
            subst hx
            have hnm : names st.sto m := by simp [names, e2]
            have hy : BlkOk S M' μ (names st.sto) w' m y := (h.blk m y e2).mono hm.le rfl (fun _ _ k => ⟨k, rfl⟩) (fun k hk' _ => hk.block k (hoth m k hnm hin hk')) (fun k hk' _ => hm.old k (hoth m k hnm hin hk'))
            exact hy.scr _ hsee (hμ2o m hnm hin)
    ·
      rw [hN2] at hm1 hm2
      rcases hm1 with q1 | q1 <;> rcases hm2 with q2 | q2
      · refine h1.sep (ren d m) (ren d m') k k' (fun e => hne (ren_inj hd e)) q1 q2 ?_ ?_
        · rw [← hμ2 _ q1, ren_ren hd]; exact hb1
        · rw [← hμ2 _ q2, ren_ren hd]; exact hb2
      · rw [hμ2o m' q2.1 q2.2] at hb2
        have e1 : blockOf (μ' (ren d m)) = some k := by rw [← hμ2 _ q1, ren_ren hd]; exact hb1
        intro e; subst e
        exact (h1.lt q1 e1).2.1 (hoth m' k q2.1 q2.2 hb2)
      · rw [hμ2o m q1.1 q1.2] at hb1
        have e1 : blockOf (μ' (ren d m')) = some k' := by rw [← hμ2 _ q2, ren_ren hd]; exact hb2
        intro e; subst e
        exact (h1.lt q2 e1).2.1 (hoth m k q1.1 q1.2 hb1)
      · rw [hμ2o m q1.1 q1.2] at hb1
        rw [hμ2o m' q2.1 q2.2] at hb2
        exact h.sep m m' k k' hne q1.1 q2.1 hb1 hb2
  refine h.of (st' := callSt st sto sto' mv d) hsto hm.le (fun s v hv => by
    simp only [callSt, getE_scrE]
    exact RepD.scr _ hsee (hv.mono hm.le fun _ k => k)) fun m hp => ?_
  have hrm : ren d m = m := by unfold pinned at hp; unfold ren; rw [if_neg (by omega), if_neg (by omega), if_neg (by omega), if_neg (by omega)]
  by_cases hin : names sto' m
  · rcases hfresh m ((names_renS hd _ _).2 (by rw [hrm]; exact hin)) with q | q
    · have := hμ2 m hin
      rw [hrm] at this
      rw [this]; exact hmv m q fun hc => hmvp m hc hp
    · unfold pinned at hp; omega
  · simp only [μ2, hrm]; exact if_neg hin
end
end Go.Dl
