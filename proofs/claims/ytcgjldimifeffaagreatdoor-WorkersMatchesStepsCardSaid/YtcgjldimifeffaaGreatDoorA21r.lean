/- A part of the proofs of WorkersExclude and WorkersMatchesSteps: A21r. -/
import Derived.Test.YtcgjldimifeffaaGreatDoorA21
set_option linter.all false
namespace Go.Dl
open Go Go.RowKit
section
variable {P : Program} {GL : List (Nat × List I)} {n : Nat} {S : Sh} {M : Mem} {μ : Place} {st : St} {a : Act} {w : World} {sto : List (Nat × Blk)}
theorem BlkOk.reS {S S' : Nat → Prop} {M : Mem} {μ : Place} {N : Nat → Prop} {w : World} {nm : Nat} {x : Blk} (h : BlkOk S M μ N w nm x) (hs : ∀ k, blockOf (μ nm) = some k → S' k → S k) : BlkOk S' M μ N w nm x := by
  have own : ∀ {k : Nat} {q : Obj}, blockOf (μ nm) = some k → Owns S M w k q → Owns S' M w k q := fun e hq => ⟨fun hb => hq.low (hs _ e hb), hq.heap, hq.unk⟩
  cases x with
  | cells cs => obtain ⟨bb, vs, t, e, ho, hsz, hr⟩ := h; exact ⟨bb, vs, t, e, own (by rw [e]; rfl) ho, hsz, hr⟩
  | rows e k rs =>
    obtain ⟨aa, cap, e, hh⟩ := h
    refine ⟨aa, cap, e, hh.imp id ?_⟩
    grind [blockOf]
  | map ls es => obtain ⟨bb, xs, clk, e, ho, q⟩ := h; exact ⟨bb, xs, clk, e, own (by rw [e]; rfl) ho, q⟩
  | iter cur rest => obtain ⟨bb, mm, since, seen, last, e, ho, q⟩ := h; exact ⟨bb, mm, since, seen, last, e, own (by rw [e]; rfl) ho, q⟩
  | lp l q cs => obtain ⟨vs, e, ho, q⟩ := h; exact ⟨vs, e, own (by rw [e]; rfl) ho, q⟩
  | gmap ls clk es => obtain ⟨bb, xs, e, ho, q⟩ := h; exact ⟨bb, xs, e, own (by rw [e]; rfl) ho, q⟩
  | arr e k rs =>
    obtain ⟨aa, e1, hh⟩ := h
    refine ⟨aa, e1, hh.imp id ?_⟩
    rintro ⟨bb, o', cur, rfl, hne, ho, q⟩
    exact ⟨bb, o', cur, rfl, hne, own (by rw [e1]; exact blockOf_pos (by simpa using hne)) ho, q⟩
theorem BlkOk.putN {S : Nat → Prop} {M : Mem} {μ : Place} {N : Nat → Prop} {w : World} {nm b : Nat} {x : Blk} {o : Obj} (h : BlkOk S M μ N w nm x) (hb : blockOf (μ nm) ≠ some b) : BlkOk S M μ N (w.putObj b o) nm x :=
  BlkOk.mono (S := ⟨S, μ, []⟩) h (Mem.le_refl _) rfl (fun _ _ k => ⟨k, rfl⟩) (fun k hk _ => World.putObj_heap_other (fun e => hb (e ▸ hk))) (fun _ _ _ => Mem.same_refl _ _)
theorem BlkOk.nameMono {S : Nat → Prop} {M : Mem} {μ : Place} {N N' : Nat → Prop} {w : World} {nm : Nat} {x : Blk} (h : BlkOk S M μ N w nm x) (hN : ∀ m ∈ x.nms, N m → N' m) : BlkOk S M μ N' w nm x :=
  BlkOk.mono (S := ⟨S, μ, []⟩) h (Mem.le_refl _) rfl (fun m hm k => ⟨hN m hm k, rfl⟩) (fun _ _ _ => rfl) (fun _ _ _ => Mem.same_refl _ _)
theorem StoOk.putN {S : Nat → Prop} {b : Nat} {o : Obj} (h : StoOk S M μ sto w) (hu : M.unk b) (hb : ∀ m, names sto m → blockOf (μ m) ≠ some b) : StoOk S M μ sto (w.putObj b o) where
  sub := h.sub.world fun k _ hk => World.putObj_heap_other (fun e => hk (e ▸ hu))
  blk := fun nm x hx => (h.blk nm x hx).putN (hb nm (by simp [names, hx]))
  sep := h.sep
  low := fun k hk => by rw [World.putObj_size]; exact h.low k hk
theorem Rel.putN (h : Rel GL n S M μ st a w) {b : Nat} {o : Obj} (hu : M.unk b) (hb : ∀ m, names st.sto m → blockOf (μ m) ≠ some b) : Rel GL n S M μ st a (w.putObj b o) :=
  h.of (st' := st) (h.toStoOk.putN hu hb) (Mem.le_refl _) fun _ _ hv => hv
theorem StoOk.reS {S S' : Nat → Prop} (h : StoOk S M μ sto w) (hs : ∀ m k, names sto m → blockOf (μ m) = some k → S' k → S k) (hlow : ∀ b, S' b → b < w.heap.size) : StoOk S' M μ sto w where
  sub := h.sub
  blk := fun nm x hx => (h.blk nm x hx).reS fun k hk hS => hs nm k (by simp [names, hx]) hk hS
  sep := h.sep
  low := hlow
theorem StoOk.part {S : Nat → Prop} {sto' : List (Nat × Blk)} (h : StoOk S M μ sto w) (hs : ∀ m b, getS sto' m = some b → getS sto m = some b) (hc : ∀ nm b, getS sto' nm = some b → ∀ m ∈ b.nms, names sto' m) : StoOk S M μ sto' w where
  sub := h.sub
  blk := fun nm b hb => (h.blk nm b (hs nm b hb)).nameMono fun m hm _ => hc nm b hb m hm
  sep := fun m m' k k' hne h1 h2 => by
    refine h.sep m m' k k' hne ?_ ?_
    · obtain ⟨x, hx⟩ := Option.isSome_iff_exists.1 h1; simp [names, hs m x hx]
    · obtain ⟨x, hx⟩ := Option.isSome_iff_exists.1 h2; simp [names, hs m' x hx]
  low := h.low
theorem Does.calls {f : FuncId} {vs : Array Value} {R : Value → World → Prop} (he : enters P f = true) (h : Does P f vs w R) : Calls P f vs w fun e w' => ∃ v, e = .returned v ∧ R v w' := by
  have hy : Nat.blt f 1000000000 = true := by grind [enters]
  rcases h with ⟨_, h2⟩ | ⟨_, row, h1, _⟩ | ⟨_, v, w', h1, _⟩ | ⟨h1, _⟩
  all_goals grind [run_callFunc]
theorem mem_mpR {g : Nat → Nat} {r : Ref} : (mpR g r).nm = g r.nm := by cases r <;> rfl
theorem mem_mpC {g : Nat → Nat} {c : Cp} {q : Nat} (h : q ∈ (mpC g c).nms) : ∃ p ∈ c.nms, q = g p := by
  cases c with
  | ref r => simp [mpC, Cp.nms, mem_mpR] at h ⊢; exact h
  | _ => simp [mpC, Cp.nms] at h
theorem mem_mpD {g : Nat → Nat} {d : D} {q : Nat} (h : q ∈ (mpD g d).nms) : ∃ p ∈ d.nms, q = g p := by
  cases d with
  | ref r => simp [mpD, D.nms, mem_mpR] at h ⊢; exact h
  | fn f a b =>
    grind [mpD,D.nms,mem_mpC]
  | tup cs =>
    grind [mpD,D.nms,mem_mpC]
  | _ => simp [mpD, D.nms] at h
theorem mem_mpB {g : Nat → Nat} {b : Blk} {q : Nat} (h : q ∈ (mpB g b).nms) : ∃ p ∈ b.nms, q = g p := by
  cases b with
  | cells cs =>
    grind [mpB,Blk.nms,mem_mpD]
  | lp l q cs =>
    grind [mpB,Blk.nms,mem_mpD]
  | gmap ls clk es =>
    grind [mpB,Blk.nms,mem_mpD]
  | _ => simp [mpB, Blk.nms] at h
theorem clS_cons {T l : List (Nat × Blk)} {k : Nat} {b : Blk} (h : clS T l = true) : clS ((k, b) :: T) l = true := by
  induction l with
  | nil => rfl
  | cons x r ih =>
    obtain ⟨m, y⟩ := x
    simp only [clS, Bool.and_eq_true] at h ⊢
    refine ⟨?_, ih h.2⟩
    simp only [inS, List.all_eq_true] at h ⊢
    intro q hq
    exact names_cons q (h.1 q hq)
theorem okY_cl {mv : List Nat} {l : List (Nat × Blk)} (h : okY mv l = true) : clS l l = true := by grind [okY]
theorem okY_names {mv : List Nat} {l : List (Nat × Blk)} (h : okY mv l = true) : ∀ q, names l q → pinned q ∨ q ∈ mv := fun q hq => by
  simp only [okY, Bool.and_eq_true, List.all_eq_true] at h
  have := h.1.1 q (mem_names.2 hq)
  simp only [Bool.or_eq_true, Bool.and_eq_true, Nat.ble_eq, Nat.blt_eq] at this
  rcases this with q1 | q1
  · exact .inl q1
  all_goals grind
theorem no99_get {l : List (Nat × Blk)} (h : no99 l = true) : getS l 5499 = none := by
  cases hg : getS l 5499 with
  | none => rfl
  | some b =>
    grind [names,no99,mem_names]
theorem getL_setP {N : Nat → Prop} : ∀ (ps : List Nat) (xs : List I) (vs : List Value) (e : List (Nat × D)) (t : Array Value), ps.length = xs.length → RepL M xs vs → (∀ p ∈ ps, p < t.size) → (∀ s, RepD M μ N (getL e s) (t.getD s Go.undef)) →
    ∀ s, RepD M μ N (getL (setP ps xs e) s) (((ps.zip vs).foldl (fun t p => t.setIfInBounds p.1 p.2) t).getD s Go.undef)
  | [], xs, vs, e, t, _, _, _, h, s => by simp_all [setP]
  | p :: ps, [], vs, e, t, hl, _, _, _, s => by simp at hl
  | p :: ps, x :: xs, [], e, t, hl, hr, _, _, s => by have := hr.1; simp at this
  | p :: ps, x :: xs, v :: vs, e, t, hl, hr, hp, h, s => by
    simp only [setP, List.zip_cons_cons, List.foldl_cons]
    refine getL_setP ps xs vs _ _ (by simpa using hl) ⟨by simpa using hr.1, fun j a b => by have := hr.2 (j + 1) (by simpa using a) (by simpa using b); simpa using this⟩ (fun q hq => by simpa using hp q (List.mem_cons_of_mem _ hq)) (fun s => ?_) s
    have hpt : p < t.size := hp p List.mem_cons_self
    simp only [getL]
    by_cases e' : p = s
    · subst e'
      simp only [if_true]
      have := hr.2 0 (by simp) (by simp)
      show Rep M x _
      simp_all
    all_goals simp_all
theorem blt_y (l : Nat) : Nat.blt (1000000000 + l) 1000000000 = false := by
  cases h : Nat.blt (1000000000 + l) 1000000000 with
  | false => rfl
  | true => rw [Nat.blt_eq] at h; omega
theorem MC_round {q : LQ} {l : Nat} {L : List D} {mj mk : List (Nat × Blk)} {xj : List I} {mv : List Nat} {jm : Jm} {ix iy : J} (hn9 : n ≤ 999) (hq : q.jump = none)
    (hx : ∀ (S : Sh) (K : Exit → St → Prop) (M : Mem) (μ : Place) (st : St) (a : Act) (w : World), Rel GL n S M μ st a w → W2 P GL ix K st → q.assign.wpIn (FR (some l)) 0 P (liftQ GL n S M w K) a w)
    (hy : ∀ (S : Sh) (K : Exit → St → Prop) (M : Mem) (μ : Place) (st : St) (a : Act) (w : World), Rel GL n S M μ st a w → W2 P GL iy K st → q.body.wpIn (FR (some l)) 0 P (liftQ GL n S M w K) a w)
    (hok : okY mv mj = true) (hok' : okY mv mk = true) (h99 : no99 mj = true) (h99' : no99 mk = true) (hL : okL mj L = true) (hL' : okL mk L = true) (hLn : L.length = n) (hps : xj.length = q.ps.toList.length) (hpn : ∀ p ∈ q.ps.toList, p < n)
    (hw : W2 P GL ix (asgK (W2 P GL iy) (rfK mk jm)) ⟨.l (setP q.ps.toList xj (env0 0 L)), mj⟩) :
    MC P GL (1000000000 + l) (xj.map .i) ((5499, .lp l q L) :: mj) mv (fun r s => r = .i (.bool jm.go) ∧ s = (5499, .lp l { q with jump := jm.code } L) :: mk) := by
  intro Mr μr wr vs hsto hglob hrep
  obtain ⟨ts, hμ, hown, hsz, hrs⟩ := hsto.blk 5499 (.lp l q L) (by simp [getS])
  have hblk : blockOf (μr 5499) = some l := by rw [hμ]; rfl
  have h5 : getS mj 5499 = none := no99_get h99
  have h5' : getS mk 5499 = none := no99_get h99'
  have hcl : clS mj mj = true := by exact okY_cl hok
  have hcl' : clS mk mk = true := by exact okY_cl hok'
  have hup : ∀ m b, getS mj m = some b → getS ((5499, .lp l q L) :: mj) m = some b := fun m b hb => by
    simp only [getS]; rw [if_neg (fun e => by subst e; rw [h5] at hb; cases hb)]; exact hb
  have hnl : ∀ m k, names mj m → blockOf (μr m) = some k → k ≠ l := fun m k hm hk => by
    refine hsto.sep m 5499 k l (fun e => by subst e; simp [names, h5] at hm) (names_cons m hm) names_self hk hblk
  refine .inr (.inr (.inr ⟨blt_y l, q.fn, (q.ps.zip vs).foldl (fun t x => t.setIfInBounds x.1 x.2) ts, q.assign, q.body, ?_, ?_⟩))
  · have e : 1000000000 + l - 1000000000 = l := by omega
    rw [e]
    exact run_yield (P := P) (args := vs) hown.heap (by have h1 := hrep.1; have h2 : (q.lp ts).params = q.ps := rfl; rw [h2]; simp at h1 hps; omega)
  · have e : 1000000000 + l - 1000000000 = l := by omega
    rw [e]
    refine roundIn_of_wpIn (F := Fence.wide) trivial ?_
    let Sr : Sh := ⟨fun b => (shut μr ((5499, .lp l q L) :: mj) wr).p b ∨ b = l, μr, []⟩
    have hll : l < wr.heap.size := hown.lt
    have hRepL : RepDs Mr μr (names mj) L ts.toList := ⟨by simpa using hsz, fun j a b => by
      have hj : j < ts.size := by simpa using b
      have := (hrs j a hj).mono' (N' := names mj) (μ' := μr) (Mem.le_refl _) fun m hm _ => ⟨by
        simp only [okL, List.all_eq_true, Bool.and_eq_true] at hL
        exact inS_mem (hL _ (List.getElem_mem a)).1 m hm, rfl⟩
      simpa using this⟩
    have hxL : RepL Mr xj vs.toList := ⟨by simpa using hrep.1, fun j a b => by
      have := hrep.2 j (by simpa using a) b
      rw [List.getElem_map] at this; exact this⟩
    have h0 : Rel GL n Sr Mr μr ⟨.l (setP q.ps.toList xj (env0 0 L)), mj⟩ { tmps := (q.ps.zip vs).foldl (fun t x => t.setIfInBounds x.1 x.2) ts, defers := [] } wr := by
      have hsize : ∀ (l : List (Tmp × Value)) (t : Array Value), (l.foldl (fun t x => t.setIfInBounds x.1 x.2) t).size = t.size := fun l => by
        induction l with
        | nil => intro t; rfl
        | cons x l ih => intro t; simp [ih]
      have hfold : (q.ps.zip vs).foldl (fun t x => t.setIfInBounds x.1 x.2) ts = (q.ps.toList.zip vs.toList).foldl (fun t x => t.setIfInBounds x.1 x.2) ts := by
        rw [← Array.foldl_toList]; simp
      refine { toStoOk := ?_, small := hn9, pin := fun _ _ => rfl, defers := rfl, size := ?_, env := fun s => ?_, glob := hglob }
      · refine (hsto.part hup fun nm b hb => clS_get hcl nm b hb).reS (fun m k hm hk hS => ?_) (fun b hb => ?_)
        · rcases hS with hS | hS
          · exact hS
          · exact (hnl m k hm hk hS).elim
        · rcases hb with hb | rfl
          · exact hsto.low b hb
          · exact hll
      · rw [hfold, hsize]; omega
      · rw [hfold]
        refine getL_setP q.ps.toList xj vs.toList _ ts (by omega) hxL (fun p hp => Nat.lt_of_lt_of_le (hpn p hp) (by omega)) (fun s => ?_) s
        refine getL_env0 L ts.toList 0 hRepL s _ (fun hl _ => ?_)
        simp at hl
        simp [hl]
    refine wpIn_mono (hx Sr _ Mr μr _ _ wr h0 hw) ?_
    rintro e a' w' ⟨st', hk, S', hg', M', μ', h', hm, hkeep⟩
    cases e with
    | normal =>
      have hSl : Sr.p l := .inr rfl
      have hl1 : w'.heap[l]? = some (.loop (q.lp ts)) := (hkeep.block l hSl).trans hown.heap
      refine ⟨_, run_beginRound hl1 (by show (if q.jump.isNone = true then LoopState.ready else LoopState.done) = _; rw [hq]; rfl), ?_⟩
      generalize hw2 : w'.putObj l (.loop { q.lp ts with state := .busy }) = w2
      have hun : M'.unk l := Mem.unk_same hown.unk (hm.old l hSl)
      have h'' : Rel GL n S' M' μ' st' a' w2 := by
        rw [← hw2]
        exact h'.putN hun fun m hm e => (h'.toStoOk.lt hm e).2.1 (hg'.p l hSl)
      have hb : q.body.wpIn (FR (some l)) 0 P (liftQ GL n S' M' w2 (rfK mk jm)) a' w2 := by
        obtain ⟨T, hT, hk⟩ := hk
        exact hy S' _ M' μ' T a' w2 (h''.subQ hT) hk
      refine wpIn_mono hb ?_
      rintro e2 a3 w3 ⟨st3, ⟨rfl, lf, hsub⟩, S3, hg3, M3, μ3, h3, hm3, hkeep3⟩
      obtain ⟨M4, h4, m4⟩ := h3.frzNs lf
      have hS'l : S'.p l := hg'.p l hSl
      have hl3 : w3.heap[l]? = some (.loop { q.lp ts with state := .busy }) := (hkeep3.block l hS'l).trans (by rw [← hw2]; exact World.putObj_heap_same (lt_of_heap hl1))
      have hend := run_endRound (P := P) jm.code hl3
      have hgo : jm.code.isNone = jm.go := by cases jm <;> rfl
      rw [hgo] at hend
      have hpinq : ∀ m, pinned m → μ3 m = μr m := fun m hp => by rw [h4.pin m hp, hg3.q, hg'.q]
      have hlsz : l < w3.heap.size := lt_of_heap hl3
      have hMle : Mr.le M4 := Mem.le_trans hm.le (Mem.le_trans hm3.le m4.le)
      have hS3 : ∀ b, (shut μr ((5499, .lp l q L) :: mj) wr).p b → S3.p b := fun b hb => hg3.p b (hg'.p b (.inl hb))
      have hun4 : M4.unk l := Mem.unk_same (Mem.unk_same hun (hm3.old l hS'l)) (m4.old l (hg3.p l hS'l))
      have hs3 : StoOk S3.p M4 μ3 mk w3 := h4.toStoOk.part (subS_get hsub) fun nm b hb => clS_get hcl' nm b hb
      have hnl3 : ∀ m k, names mk m → blockOf (μ3 m) = some k → k ≠ l := fun m k hm hk e => (hs3.lt hm hk).2.1 (e ▸ hg3.p l hS'l)
      have hl4 : (w3.putObj l (.loop { (q.lp ts) with state := if jm.go = true then .ready else .done, pending := jm.code })).heap[l]? = some (.loop (({ q with jump := jm.code } : LQ).lp ts)) := by
        rw [World.putObj_heap_same hlsz]
        cases jm <;> rfl
      have fin : ∃ v, Ending.returned (Value.bool jm.go) = .returned v ∧ ∃ r sto' M' μ', (r = D.i (.bool jm.go) ∧ sto' = (5499, .lp l { q with jump := jm.code } L) :: mk) ∧ StoOk (shut μr ((5499, .lp l q L) :: mj) wr) M' μ' sto' (w3.putObj l (.loop { (q.lp ts) with state := if jm.go = true then .ready else .done, pending := jm.code })) ∧ RepD M' μ' (names sto') r v ∧
          MExt (shut μr ((5499, .lp l q L) :: mj) wr) Mr M' ∧ Keeps (shut μr ((5499, .lp l q L) :: mj) wr) wr (w3.putObj l (.loop { (q.lp ts) with state := if jm.go = true then .ready else .done, pending := jm.code })) ∧ ∀ nm, names ((5499, .lp l q L) :: mj) nm → nm ∉ mv → μ' nm = μr nm := by
        have hs4 : StoOk (shut μr ((5499, .lp l q L) :: mj) wr).p M4 μ3 mk (w3.putObj l (.loop { (q.lp ts) with state := if jm.go = true then .ready else .done, pending := jm.code })) :=
          (hs3.reS (fun m k _ _ hS => hS3 k hS) (fun b hb => hs3.low b (hS3 b hb))).putN hun4 fun m hm e => hnl3 m l hm e rfl
        have hbind := hs4.bind (nm := 5499) (b := .lp l { q with jump := jm.code } L) (x := .pointer (some ⟨l, 0, none⟩)) h5' ⟨ts, updP_self _ _ _, ⟨hown.low, hl4, hun4⟩, hsz, fun j a b => by
          refine (hrs j a b).mono' hMle fun m hm _ => ?_
          simp only [okL, List.all_eq_true, Bool.and_eq_true] at hL'
          obtain ⟨q1, q2⟩ := hL' _ (List.getElem_mem a)
          have q3 := q2 m hm
          simp only [Nat.ble_eq, Nat.blt_eq] at q3
          exact ⟨names_cons m (inS_mem q1 m hm), by rw [updP_other _ _ (by omega)]; exact hpinq m ⟨q3.1, by omega⟩⟩⟩ (fun m k hm hk => by
          simp only [blockOf]; intro e; cases e; exact hnl3 m l hm hk rfl)
        have hup3 : updP μ3 5499 (.pointer (some ⟨l, 0, none⟩)) = μ3 := by
          funext m
          by_cases e : m = 5499
          · subst e; rw [updP_self, hpinq 5499 ⟨by omega, by omega⟩, hμ]
          · rw [updP_other _ _ e]
        rw [hup3] at hbind
        refine ⟨_, rfl, _, _, M4, μ3, ⟨rfl, rfl⟩, hbind, repD_i (.bool _), ⟨hMle, fun b hb => ?_⟩, ?_, fun nm hnm hmv => ?_⟩
        · exact Mem.same_trans (hm.old b (.inl hb)) (Mem.same_trans (hm3.old b (hg'.p b (.inl hb))) (m4.old b (hS3 b hb)))
        · have hnsl : ¬ (shut μr ((5499, .lp l q L) :: mj) wr).p l := hown.low
          have k1 : Keeps (shut μr ((5499, .lp l q L) :: mj) wr).p wr w' := hkeep.mono fun b hb => .inl hb
          have put : ∀ {A B : World} {o : Obj}, Keeps (shut μr ((5499, .lp l q L) :: mj) wr).p A B → Keeps (shut μr ((5499, .lp l q L) :: mj) wr).p A (B.putObj l o) := fun h =>
            ⟨h.os, h.tape, h.output, by rw [World.putObj_size]; exact h.size, fun k hk => by rw [World.putObj_heap_other (k := k) (r := l) (fun e => hnsl (by rw [e] at hk; exact hk))]; exact h.block k hk, h.drawn⟩
          have k2 : Keeps (shut μr ((5499, .lp l q L) :: mj) wr).p wr w2 := by rw [← hw2]; exact put k1
          exact put (k2.trans (hkeep3.mono fun b hb => hg'.p b (.inl hb)))
        · by_cases e : nm = 5499
          · subst e; exact hpinq 5499 ⟨by omega, by omega⟩
          · have : names mj nm := by simp only [names, getS, if_neg (Ne.symm e)] at hnm; exact hnm
            exact (okY_names hok nm this).elim (hpinq nm) (fun hc => (hmv hc).elim)
      cases jm with
      | none => exact ⟨_, _, hend, fin⟩
      | ret => exact ⟨_, _, hend, fin⟩
      | exit id => exact ⟨_, _, hend, fin⟩
    | _ => exact hk.elim
theorem okY_cons {mv : List Nat} {l : List (Nat × Blk)} {k : Nat} {q : LQ} {L : List D} (h : okY mv l = true) (hL : okL l L = true) (h99 : no99 l = true) : okY mv ((5499, .lp k q L) :: l) = true := by
  have hc := okY_cl h
  simp only [okY, Bool.and_eq_true, List.map_cons, List.all_cons] at h ⊢
  refine ⟨⟨⟨by rw [Bool.or_eq_true]; left; decide, h.1.1⟩, ?_⟩, ?_⟩
  rotate_left
  · grind [nodupB,mem_names,names,no99_get]
  grind [clS,clS_cons,inS,Blk.nms,okL,names_cons,inS_mem]
theorem subL_get {f : List (Nat × Nat)} : ∀ {L : List D} {i : Nat} {e : Env}, subL f i L e → ∀ j (h : j < L.length), L[j] = .any ∨ getE e (i + j) = mpD (swi f) L[j]
  | [], i, e, _, j, h => by simp at h
  | x :: xs, i, e, hs, 0, h => hs.1
  | x :: xs, i, e, hs, j + 1, h => by
    have := subL_get hs.2 j (by simpa using h)
    grind
theorem clS_mp {g g' : Nat → Nat} (hg : ∀ m, g' (g m) = m) {l : List (Nat × Blk)} (h : clS l l = true) : ∀ nm b, getS (mpS g l) nm = some b → ∀ m ∈ b.nms, names (mpS g l) m := fun nm b hb m hm => by
  obtain ⟨o, b0, h1, rfl, rfl⟩ := getS_mp (fun a b _ _ e => by rw [← hg a, e, hg]) hb
  obtain ⟨p, hp, rfl⟩ := mem_mpB hm
  exact names_mp (clS_get h o b0 h1 p hp)
theorem snd_rf (h : Rel GL n S M μ st a w) {g : Operand} {ps : Array Tmp} {x y : Code} {og : O} {ix iy : J} {K : Exit → St → Prop} (hg : cO GL g = some og) (hpn : ∀ p ∈ ps.toList, p < n)
    (hx : ∀ (l : Nat) (S : Sh) (K : Exit → St → Prop) (M : Mem) (μ : Place) (st : St) (a : Act) (w : World), Rel GL n S M μ st a w → W2 P GL ix K st → x.wpIn (FR (some l)) 0 P (liftQ GL n S M w K) a w)
    (hy : ∀ (l : Nat) (S : Sh) (K : Exit → St → Prop) (M : Mem) (μ : Place) (st : St) (a : Act) (w : World), Rel GL n S M μ st a w → W2 P GL iy K st → y.wpIn (FR (some l)) 0 P (liftQ GL n S M w K) a w)
    (hs : rfW P GL n og ps.toList (W2 P GL ix) (W2 P GL iy) K st) : (Code.rangeFunc g ps x y).wpIn (FR none) 0 P (liftQ GL n S M w K) a w := by
  obtain ⟨gf, caps, ι, i0, Nx, Fin, e1, hen, hseq, f, L, m, mv, jm, hj0, hV, hm, hLn, hsubL, hf99, hsub, hrnd, hend0⟩ := hs
  have hgy : Nat.blt gf 1000000000 = true := by unfold enters at hen; rw [Bool.and_eq_true] at hen; exact hen.1
  have hro := opv_rep h hg
  rw [e1] at hro
  obtain ⟨va, vb, hev, _, ra, rb⟩ := (repD_i_inv hro).fn_inv
  have hva : va = #[] := by have := ra.1; simpa using this
  subst hva
  rw [show cdFn gf = Fn.func gf from if_pos hgy] at hev
  refine wpIn_rangeFunc ?_
  intro fn _
  rw [FR_none]
  let D := w.heap.size
  let l := w.heap.size + 1
  let q : LQ := { fn, ps, assign := x, body := y, defers := w.heap.size, jump := none }
  let c := mpS (swi f) (m i0)
  generalize hw1 : w.alloc (.deferred (some [])) = w1
  generalize hw2 : w1.alloc (.loop (q.lp a.tmps)) = w2
  have hsz1 : w1.heap.size = w.heap.size + 1 := by rw [← hw1, size_alloc]
  have hsz2 : w2.heap.size = w.heap.size + 2 := by rw [← hw2, size_alloc, hsz1]
  refine ⟨l, [mkD D], w2, { target := .fn (.func gf) vb, args := #[.func (.yield l) #[] #[]] }, w2, gf, #[.func (.yield l) #[] #[]] ++ vb, w2, ?_, ?_, ?_, ?_, ?_, ?_⟩
  · rw [← hw2, ← hw1]; exact run_enterLoop_outer _ _ _ _ _
  · simp only [resolve, hev]
    simp [go_sem]
  · intro _ _; trivial
  · simp [invoke, go_sem, run_callFunc hen]
  · intro hh; simp [Fence.wide] at hh
  have hcl0 : clS (m i0) (m i0) = true := okY_cl (hm i0).1
  have hcc : ∀ nm b, getS c nm = some b → ∀ p ∈ b.nms, names c p := clS_mp (sws_swi f) hcl0
  have hsubg := subS_get hsub
  let S1 : Sh := ⟨fun b => S.p b ∨ b = D, S.q, mkD D :: S.ds⟩
  let a1 : Act := { a with defers := mkD D :: a.defers }
  have h1 : Rel GL n S1 M μ st a1 w1 := by
    refine { toStoOk := ?_, small := h.small, pin := h.pin, defers := ?_, size := h.size, env := h.env, glob := h.glob }
    · rw [← hw1]
      refine (h.toStoOk.alloc _).reS (fun k b hk hb hS => ?_) (fun b hb => ?_)
      · rcases hS with hS | rfl
        · exact hS
        · have := (h.toStoOk.lt hk hb).1; simp only [D] at this; omega
      · rw [size_alloc]
        rcases hb with hb | rfl
        · have := h.low b hb; omega
        · simp only [D]; omega
    · show mkD D :: a.defers = mkD D :: S.ds
      rw [h.defers]
  have hA : StoOk (shut μ c w1).p M μ c w1 := h1.toStoOk.hand hsubg hcc
  have hA2 : StoOk (shut μ c w1).p M μ c w2 := by rw [← hw2]; exact hA.alloc _
  let μ0 : Place := fun k => μ (swi f k)
  have hback : mpS (sws f) c = m i0 := mpS_mpS (sws_swi f) (m i0)
  have hB : StoOk (shut μ c w1).p M μ0 (m i0) w2 := by
    have := hA2.mp (f := sws f) (μ' := μ0) (S' := (shut μ c w1).p) (fun a b _ _ e => by rw [← swi_sws f a, e, swi_sws]) (fun k _ => by show μ (swi f (sws f k)) = μ k; rw [swi_sws]) (fun _ => Iff.rfl)
    rwa [hback] at this
  have h5 : getS (m i0) 5499 = none := no99_get (hm i0).2.1
  let X : Value := .pointer (some ⟨l, 0, none⟩)
  have hnsl : ¬ (shut μ c w1).p l := fun hh => by have := hh.1; rw [hsz1] at this; simp only [l] at this; omega
  have hC : StoOk (shut μ c w1).p M (updP μ0 5499 X) ((5499, .lp l q L) :: m i0) w2 := by
    refine hB.bind h5 ⟨a.tmps, updP_self _ _ _, ⟨hnsl, ?_, Mem.unk_new h.sub (by simp only [l]; omega)⟩, by rw [h.size, hLn], fun j ha hb => ?_⟩ fun k b hk hb => ?_
    · rw [← hw2]; have := heap_alloc_self w1 (.loop (q.lp a.tmps)); rw [hsz1] at this; exact this
    · rcases subL_get hsubL j ha with e | e
      · rw [e]; trivial
      · have hr := h.env j
        rw [Nat.zero_add] at e
        rw [e] at hr
        have hget : a.tmps.getD j Go.undef = a.tmps[j] := by simp [hb]
        rw [hget] at hr
        have hr2 : RepD M μ (names c) (mpD (swi f) L[j]) a.tmps[j] := hr.mono' (Mem.le_refl _) fun p hp _ => by
          obtain ⟨p0, hp0, rfl⟩ := mem_mpD hp
          have hL := (hm i0).2.2.1
          simp only [okL, List.all_eq_true, Bool.and_eq_true] at hL
          exact ⟨names_mp (inS_mem (hL _ (List.getElem_mem ha)).1 p0 hp0), rfl⟩
        have := hr2.mp (f := sws f) (N' := names ((5499, .lp l q L) :: m i0)) (μ' := updP μ0 5499 X) (fun p hp => by
          have := names_mp (f := sws f) hp
          rw [hback] at this
          exact names_cons _ this) (fun p hp => by
          have := names_mp (f := sws f) hp
          rw [hback] at this
          rw [updP_other _ _ (fun e => by rw [e] at this; simp [names, h5] at this)]
          show μ (swi f (sws f p)) = μ p
          rw [swi_sws])
        rw [mpD_mpD (sws_swi f)] at this
        exact this
    · have := (hB.lt hk hb).2.1
      simp only [X, blockOf]
      intro e; cases e
      have hblk := hA.lt (m := swi f k) (by have := names_mp (f := swi f) hk; exact this) (k := l) hb
      have := hblk.1; rw [hsz1] at this; simp only [l] at this; omega
  have hP : (shut (updP μ0 5499 X) ((5499, .lp l q L) :: m i0) w2).p = (shut μ c w1).p := by
    funext b
    refine propext ⟨fun hb => ?_, fun hb => ?_⟩
    · have hbl : b ≠ l := fun e => hb.2 5499 names_self (by rw [updP_self, e]; rfl)
      refine ⟨?_, fun k hk e => ?_⟩
      · have := hb.1; rw [hsz2] at this; rw [hsz1]; simp only [l] at hbl; omega
      · have hk' := names_mp (f := sws f) hk
        rw [hback] at hk'
        refine hb.2 (sws f k) (names_cons _ hk') ?_
        rw [updP_other _ _ (fun e => by rw [e] at hk'; simp [names, h5] at hk')]
        show blockOf (μ (swi f (sws f k))) = some b
        rw [swi_sws]; exact e
    · refine ⟨?_, fun k hk e => ?_⟩
      · have := hb.1; rw [hsz1] at this; rw [hsz2]; omega
      · by_cases ek : k = 5499
        · subst ek
          rw [updP_self] at e
          simp only [X, blockOf] at e; cases e
          exact hnsl hb
        · rw [updP_other _ _ ek] at e
          have hk' : names (m i0) k := by simp only [names, getS, if_neg (Ne.symm ek)] at hk; exact hk
          exact hb.2 (swi f k) (names_mp hk') e
  let qj : ι → LQ := fun i => { q with jump := (jm i).code }
  let m' : ι → List (Nat × Blk) := fun i => (5499, .lp l (qj i) L) :: m i
  have hgo0 : ∀ i, (!(jm i).go) = false → jm i = .none := fun i h => by
    cases hj : jm i with
    | none => rfl
    | ret => rw [hj] at h; cases h
    | exit id => rw [hj] at h; cases h
  have hqn : ∀ i, jm i = .none → qj i = q := fun i h => by simp only [qj, h]; rfl
  have hMC := hseq (1000000000 + l) m' mv (fun i => !(jm i).go) hV (by show (!(jm i0).go) = false; rw [hj0]; rfl) (fun i => ⟨okY_cons (hm i).1 (hm i).2.2.1 (hm i).2.1, by
      show 5499 :: (m i).map (·.1) = 5499 :: (m i0).map (·.1)
      rw [(hm i).2.2.2]⟩) (fun i xx i' hx' hi => by
      have hin := hgo0 i hi
      obtain ⟨r1, r2⟩ := hrnd i xx i' hx' hin
      have := MC_round (P := P) (GL := GL) (n := n) (q := q) (l := l) (mv := mv) (ix := ix) (iy := iy) h.small rfl (hx l) (hy l) (hm i).1 (hm i').1 (hm i).2.1 (hm i').2.1 (hm i).2.2.1 (hm i').2.2.1 hLn r1 hpn r2
      have e2 : m' i = (5499, .lp l q L) :: m i := by simp only [m', hqn i hin]
      rw [e2]
      refine this.mono ?_
      rintro r s ⟨rfl, rfl⟩
      exact ⟨by show Dl.D.i (.bool (jm i').go) = Dl.D.i (.bool (!!(jm i').go)); rw [Bool.not_not], rfl⟩)
  have hm'0 : m' i0 = (5499, .lp l q L) :: m i0 := by simp only [m', hqn i0 hj0]
  rw [hm'0] at hMC
  have hargs : RepDs M (updP μ0 5499 X) (names ((5499, .lp l q L) :: m i0)) (.i (.fn (1000000000 + l) [] []) :: caps.map .i) (#[Value.func (.yield l) #[] #[]] ++ vb).toList := by
    have e : cdFn (1000000000 + l) = .yield l := by
      unfold cdFn
      rw [if_neg (by rw [blt_y]; simp), Nat.add_sub_cancel_left]
    have hy0 : RepD M (updP μ0 5499 X) (names ((5499, .lp l q L) :: m i0)) (.i (.fn (1000000000 + l) [] [])) (.func (.yield l) #[] #[]) := by
      rw [← e]
      exact repD_i (Rep.fn _ [] [] #[] #[] (.inr rfl) rfl rfl (fun j hj => by simp at hj) (fun j hj => by simp at hj))
    have hb := repL_D (μ := updP μ0 5499 X) (N := names ((5499, .lp l q L) :: m i0)) rb
    have := repDs_append (xs := [.i (.fn (1000000000 + l) [] [])]) (vs := [Value.func (.yield l) #[] #[]]) ⟨rfl, fun j ha hb => by
      have : j = 0 := by simpa using ha
      subst this; exact hy0⟩ hb
    simpa using this
  refine callsIn_wide.2 (((hMC M _ w2 _ (by rw [hP]; exact hC) h.glob hargs).calls hen).mono ?_)
  rintro e w3 ⟨v, rfl, r, sto', M', μ', ⟨rfl, N, hfin, rfl⟩, k1, _, k3, k4, k5⟩
  obtain ⟨hfr, hold, hmvp, hK⟩ := hend0 N (hfin.imp (fun q e => by have q2 : (!(jm N).go) = true := q; rw [e] at q2; cases q2) id)
  have hm'N : m' N = (5499, .lp l (qj N) L) :: m N := rfl
  rw [hm'N] at k1
  rw [hP] at k1 k3 k4
  obtain ⟨ts, hμ', hown', _, _⟩ := k1.blk 5499 (.lp l (qj N) L) (by simp [getS])
  have hqN : (qj N).jump = (jm N).code := rfl
  have hnb : (((qj N).lp ts).state) ≠ .busy := by
    show (if (qj N).jump.isNone = true then LoopState.ready else .done) ≠ .busy
    split <;> simp
  have hend := run_endLoop (P := P) hown'.heap hnb
  refine ⟨(jm N).code, _, by rw [hend]; show Result.ok (qj N).jump _ = _; rw [hqN], ?_⟩
  generalize hw4 : w3.putObj l (.loop { (qj N).lp ts with state := .exhausted }) = w4
  have h5N : getS (m N) 5499 = none := no99_get (hm N).2.1
  have hclN : clS (m N) (m N) = true := okY_cl (hm N).1
  have hupN : ∀ k b, getS (m N) k = some b → getS ((5499, .lp l (qj N) L) :: m N) k = some b := fun k b hb => by
    simp only [getS]; rw [if_neg (fun e => by subst e; rw [h5N] at hb; cases hb)]; exact hb
  have hs4 : StoOk (shut μ c w1).p M' μ' (m N) w4 := by
    rw [← hw4]
    refine (k1.part hupN fun nm b hb => clS_get hclN nm b hb).putN hown'.unk fun k hk e => ?_
    refine k1.sep k 5499 l l (fun e => by subst e; simp [names, h5N] at hk) ?_ (names_self) e (by rw [hμ']; rfl) rfl
    obtain ⟨b, hb⟩ := Option.isSome_iff_exists.1 hk
    simp [names, hupN k b hb]
  let μ3 : Place := fun k => μ' (sws f k)
  have hs5 : StoOk (shut μ c w1).p M' μ3 (mpS (swi f) (m N)) w4 :=
    hs4.mp (f := swi f) (fun a b _ _ e => by rw [← sws_swi f a, e, sws_swi]) (fun k _ => by show μ' (sws f (swi f k)) = μ' k; rw [sws_swi]) (fun _ => Iff.rfl)
  have hkeep : Keeps (shut μ c w1).p w1 w4 := by
    have q1 : Keeps (shut μ c w1).p w1 w2 := by rw [← hw2]; exact keeps_alloc _ _ fun k hk => hk.1
    have q2 := q1.trans k4
    rw [← hw4]
    exact ⟨q2.os, q2.tape, q2.output, by rw [World.putObj_size]; exact q2.size, fun k hk => by rw [World.putObj_heap_other (k := k) (r := l) (fun e => hnsl (by rw [e] at hk; exact hk))]; exact q2.block k hk, q2.drawn⟩
  obtain ⟨μ2, hRel, hME, hKe, _⟩ := h1.afterCall (mv := mv.map (swi f)) (d := 999) (by omega) hsubg hs5 k3 hkeep (fun nm hnm hmv => by
      have hk' := names_mp (f := sws f) hnm
      rw [hback] at hk'
      have h99 : sws f nm ≠ 5499 := fun e => by rw [e] at hk'; simp [names, h5] at hk'
      have := k5 (sws f nm) (names_cons _ hk') (fun hc => hmv (List.mem_map.2 ⟨_, hc, swi_sws f nm⟩))
      show μ' (sws f nm) = μ nm
      rw [this, updP_other _ _ h99]
      show μ (swi f (sws f nm)) = μ nm
      rw [swi_sws])
    (fun nm hnm => hfr nm (mem_names.2 hnm)) (fun nm hnm hp => by
      rw [List.all_eq_true] at hmvp
      have := hmvp nm hnm
      unfold pinned at hp
      simp only [Bool.or_eq_true, Nat.blt_eq, Nat.ble_eq] at this
      omega) (fun nm q1 q2 => hold nm (mem_names.2 q1) q2)
  have hres : ResC GL n S M w (callSt st c (mpS (swi f) (m N)) (mv.map (swi f)) 999) a1 w4 := by
    refine ⟨S1, ⟨fun b hb => .inl hb, rfl, [D], rfl, by simp, fun b hb => ?_⟩, M', μ2, hRel, hME.less fun b hb => .inl hb, ?_⟩
    · have : b = D := by simpa using hb
      subst this
      refine ⟨.inr rfl, fun hh => ?_, ?_⟩
      · have := h.low _ hh; simp only [D] at this; omega
      · rw [hKe.block D (.inr rfl), ← hw1]; exact heap_alloc_self w _
    · have q1 : Keeps S.p w w1 := by rw [← hw1]; exact keeps_alloc _ _ h.low
      exact q1.trans (hKe.mono fun b hb => .inl hb)
  generalize jm N = j at hK
  cases j with
  | none => exact ⟨_, hK, hres⟩
  | ret => exact wpIn_ret ⟨_, hK, hres⟩
  | exit id => exact wpIn_exit ⟨_, hK, hres⟩
end
end Go.Dl
