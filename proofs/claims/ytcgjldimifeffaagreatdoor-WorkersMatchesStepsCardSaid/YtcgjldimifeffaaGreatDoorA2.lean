/- A part of the proofs of WorkersExclude and WorkersMatchesSteps: A2. -/
import Derived.Test.YtcgjldimifeffaaGreatDoorA1
namespace Go.Dl
open Go Go.RowKit
structure Keeps (S : Nat → Prop) (w w' : World) : Prop where
  os : w'.os = w.os
  tape : w'.tape = w.tape
  output : w'.output = w.output
  size : w.heap.size ≤ w'.heap.size
  block : ∀ k, S k → w'.heap[k]? = w.heap[k]?
  drawn : w.drawn ≤ w'.drawn
theorem Keeps.refl (S : Nat → Prop) (w : World) : Keeps S w w := ⟨rfl, rfl, rfl, Nat.le_refl _, fun _ _ => rfl, Nat.le_refl _⟩
theorem Keeps.trans {S : Nat → Prop} {a b c : World} (h : Keeps S a b) (k : Keeps S b c) : Keeps S a c :=
  ⟨k.os.trans h.os, k.tape.trans h.tape, k.output.trans h.output, Nat.le_trans h.size k.size, fun i hi => (k.block i hi).trans (h.block i hi), Nat.le_trans h.drawn k.drawn⟩
theorem Keeps.mono {S S' : Nat → Prop} {w w' : World} (h : Keeps S w w') (hs : ∀ k, S' k → S k) : Keeps S' w w' := ⟨h.os, h.tape, h.output, h.size, fun k hk => h.block k (hs k hk), h.drawn⟩
theorem Keeps.drew {S : Nat → Prop} {a w : World} (h : Keeps S a w) : Keeps S a w.drew := ⟨h.os, h.tape, h.output, h.size, h.block, Nat.le_succ_of_le h.drawn⟩
theorem Keeps.below {B : Nat} {w w' : World} (h : Keeps (· < B) w w') : Below B w w' := ⟨h.os, h.tape, h.output, h.size, h.block⟩
theorem Below.keeps {B : Nat} {w w' : World} (h : Below B w w') (hd : w.drawn ≤ w'.drawn) {S : Nat → Prop} (hs : ∀ k, S k → k < B) : Keeps S w w' := ⟨h.os, h.tape, h.output, h.size, fun k hk => h.block k (hs k hk), hd⟩
theorem heap_alloc_lt (w : World) (o : Obj) (k : Nat) (h : k < w.heap.size) : (w.alloc o).heap[k]? = w.heap[k]? := Below.heap_alloc w o k h
theorem size_alloc (w : World) (o : Obj) : (w.alloc o).heap.size = w.heap.size + 1 := by simp
theorem heap_alloc_self (w : World) (o : Obj) : (w.alloc o).heap[w.heap.size]? = some o := by
  show (w.heap.push o)[w.heap.size]? = _
  simp
theorem keeps_alloc {S : Nat → Prop} (w : World) (o : Obj) (h : ∀ k, S k → k < w.heap.size) : Keeps S w (w.alloc o) :=
  ⟨rfl, rfl, rfl, by rw [size_alloc]; omega, fun k hk => heap_alloc_lt w o k (h k hk), Nat.le_refl _⟩
theorem keeps_setRow {S : Nat → Prop} (w : World) (g : Nat) (cs : Array Value) (h : ¬ S g) : Keeps S w (w.setRow g cs) :=
  ⟨rfl, rfl, rfl, by simp, fun k hk => setRow_other w g k cs (fun e => h (e ▸ hk)), Nat.le_refl _⟩
theorem lt_of_heap {w : World} {b : Nat} {o : Obj} (h : w.heap[b]? = some o) : b < w.heap.size := (Array.getElem?_eq_some_iff.1 h).1
theorem cell_lt {w : World} {b o : Nat} {v : Value} (h : w.cell? ⟨b, o, none⟩ = some v) : b < w.heap.size := by
  rcases Nat.lt_or_ge b w.heap.size with k | k
  · exact k
  · simp [World.cell?, Array.getElem?_eq_none k] at h
theorem names_cons {nm : Nat} {b : Blk} {sto : List (Nat × Blk)} (m : Nat) (h : names sto m) : names ((nm, b) :: sto) m := by grind [names,getS]
theorem names_self {nm : Nat} {b : Blk} {sto : List (Nat × Blk)} : names ((nm, b) :: sto) nm := by simp [names, getS]
theorem getS_setS (l : List (Nat × Blk)) (nm m : Nat) (b : Blk) : getS (setS l nm b) m = if m = nm then (getS l nm).map (fun _ => b) else getS l m := by
  induction l with
  | nil => simp [setS, getS]
  | cons x r ih =>
    grind [setS,getS]
theorem names_setS {nm : Nat} {b : Blk} {sto : List (Nat × Blk)} : names (setS sto nm b) = names sto := by grind [names,getS_setS,getS]
theorem getS_sbS (nm : Nat) (b : Blk) (l : List (Nat × Blk)) (m : Nat) : getS (sbS nm b l) m = (getS l m).map (sbB nm b) := by
  induction l with
  | nil => rfl
  | cons x r ih => obtain ⟨p, q⟩ := x; simp only [sbS, getS]; split; rfl; exact ih
theorem getS_delS (l : List (Nat × Blk)) (nm m : Nat) : getS (delS l nm) m = if m = nm then none else getS l m := by
  induction l with
  | nil => simp [delS, getS]
  | cons x r ih =>
    grind [delS,getS]
theorem names_sbS {nm : Nat} {b : Blk} {sto : List (Nat × Blk)} : names (sbS nm b sto) = names sto := by grind [names,getS_sbS,getS]
def Blk.nms : Blk → List Nat
  | .cells cs => cs.flatMap D.nms
  | .lp _ _ cs => cs.flatMap D.nms
  | .gmap _ _ es => es.flatMap fun e => e.2.2.nms
  | _ => []
def updP (μ : Place) (nm : Nat) (v : Value) : Place := fun m => if m = nm then v else μ m
theorem updP_self (μ : Place) (nm : Nat) (v : Value) : updP μ nm v nm = v := by simp [updP]
theorem updP_other (μ : Place) {nm m : Nat} (v : Value) (h : m ≠ nm) : updP μ nm v m = μ m := by simp [updP, h]
section
variable {GL : List (Nat × List I)} {n : Nat} {S : Sh} {M M' : Mem} {μ μ' : Place} {N N' : Nat → Prop} {st : St} {sto : List (Nat × Blk)} {a : Act} {w w' : World} {nm : Nat}
theorem RowsAt.mono {cur : Array Value} {o k : Nat} {rs : List (List I)} (h : RowsAt M cur o k rs) (hle : M.le M') : RowsAt M' cur o k rs :=
  ⟨h.1, fun i hi j hj => by obtain ⟨v, hv, hr⟩ := h.2 i hi j hj; exact ⟨v, hv, hr.mono hle⟩⟩
theorem EntsAt.mono {xs : List MapEntry} {es : List (I × I)} (h : EntsAt M xs es) (hle : M.le M') : EntsAt M' xs es :=
  ⟨h.1, fun j a b => ⟨(h.2 j a b).1.mono hle, (h.2 j a b).2.mono hle⟩⟩
theorem GEnts.mono {xs : List MapEntry} {es : List (I × Nat × D)} (h : GEnts M μ N xs es) (hle : M.le M') (hn : ∀ e ∈ es, ∀ m ∈ e.2.2.nms, N m → N' m ∧ μ' m = μ m) : GEnts M' μ' N' xs es :=
  ⟨h.1, fun j a b => ⟨(h.2 j a b).1.mono hle, (h.2 j a b).2.1, (h.2 j a b).2.2.mono' hle (hn _ (List.getElem_mem a))⟩⟩
theorem RowsAtO.mono {cur : Array Value} {o k : Nat} {rs : List (Option (List I))} (h : RowsAtO M cur o k rs) (hle : M.le M') : RowsAtO M' cur o k rs := fun i r hr =>
  ⟨(h i r hr).1, fun j hj => by obtain ⟨v, hv, hr'⟩ := (h i r hr).2 j hj; exact ⟨v, hv, hr'.mono hle⟩⟩
theorem blockOf_pos {b o n : Nat} (h : n ≠ 0) : blockOf (.slice (some ⟨b, o, none⟩) 0 n) = some b := by grind [blockOf]
theorem Owns.mono {b : Nat} {o : Obj} (h : Owns S M w b o) (hw : w'.heap[b]? = w.heap[b]?) (hm : M.same M' b) : Owns S M' w' b o :=
  ⟨h.low, by rw [hw]; exact h.heap, Mem.unk_same h.unk hm⟩
theorem Owns.lt {b : Nat} {o : Obj} (h : Owns S M w b o) : b < w.heap.size := lt_of_heap h.heap
theorem BlkOk.mono {b : Blk} (h : BlkOk S M μ N w nm b) (hle : M.le M') (hμ : μ' nm = μ nm) (hn : ∀ m ∈ b.nms, N m → N' m ∧ μ' m = μ m)
    (hw : ∀ k, blockOf (μ nm) = some k → k < w.heap.size → w'.heap[k]? = w.heap[k]?) (hm : ∀ k, blockOf (μ nm) = some k → k < w.heap.size → M.same M' k) : BlkOk S M' μ' N' w' nm b := by
  cases b with
  | cells cs =>
    obtain ⟨b, vs, t, e, ho, hs, hr⟩ := h
    have hb : blockOf (μ nm) = some b := by rw [e]; rfl
    exact ⟨b, vs, t, by rw [hμ]; exact e, ho.mono (hw b hb ho.lt) (hm b hb ho.lt), hs, fun j h h' => (hr j h h').mono' hle fun m hmm => hn m (List.mem_flatMap.2 ⟨_, List.getElem_mem h, hmm⟩)⟩
  | rows e k rs =>
    obtain ⟨a, cap, e1, h⟩ := h
    refine ⟨a, cap, by rw [hμ]; exact e1, ?_⟩
    rcases h with h | ⟨b, o, cur, rfl, hc, ho, q1, q2, q3, q4⟩
    · exact .inl h
    · have hb : blockOf (μ nm) = some b := by rw [e1]; simp only [blockOf]; rw [if_neg (by omega)]
      exact .inr ⟨b, o, cur, rfl, hc, ho.mono (hw b hb ho.lt) (hm b hb ho.lt), q1, q2, q3, q4.mono hle⟩
  | map ls es =>
    obtain ⟨b, xs, clk, e, ho, q1, q2, q3⟩ := h
    have hb : blockOf (μ nm) = some b := by rw [e]; rfl
    exact ⟨b, xs, clk, by rw [hμ]; exact e, ho.mono (hw b hb ho.lt) (hm b hb ho.lt), q1.mono hle, q2, q3⟩
  | iter cur rest =>
    obtain ⟨b, m, since, seen, last, e, ho, h⟩ := h
    have hb : blockOf (μ nm) = some b := by rw [e]; rfl
    refine ⟨b, m, since, seen, last, by rw [hμ]; exact e, ho.mono (hw b hb ho.lt) (hm b hb ho.lt), ?_⟩
    rcases h with h | ⟨q, xs, clk, q1, q2, q3, q4, q5, q6, q7⟩
    · exact .inl h
    · exact .inr ⟨q, xs, clk, q1, hle.2 _ _ q2, q3, q4, q5, q6.mono hle, fun c hc => by obtain ⟨e, he, h1, h2, h3⟩ := q7 c hc; exact ⟨e, he, h1, h2.mono hle, h3.mono hle⟩⟩
  | lp l q cs =>
    obtain ⟨vs, e, ho, hs, hr⟩ := h
    have hb : blockOf (μ nm) = some l := by rw [e]; rfl
    exact ⟨vs, by rw [hμ]; exact e, ho.mono (hw l hb ho.lt) (hm l hb ho.lt), hs, fun j h h' => (hr j h h').mono' hle fun m hmm => hn m (List.mem_flatMap.2 ⟨_, List.getElem_mem h, hmm⟩)⟩
  | gmap ls clk es =>
    obtain ⟨b, xs, e, ho, q1, q2, q3⟩ := h
    have hb : blockOf (μ nm) = some b := by rw [e]; rfl
    exact ⟨b, xs, by rw [hμ]; exact e, ho.mono (hw b hb ho.lt) (hm b hb ho.lt), q1.mono hle (fun e he m hmm => hn m (List.mem_flatMap.2 ⟨e, he, hmm⟩)), q2, q3⟩
  | arr e k rs =>
    obtain ⟨a, e1, h⟩ := h
    refine ⟨a, by rw [hμ]; exact e1, ?_⟩
    rcases h with h | ⟨b, o, cur, rfl, hne, ho, q1, q2, q3⟩
    · exact .inl h
    · have hb : blockOf (μ nm) = some b := by rw [e1]; exact blockOf_pos (by simpa using hne)
      exact .inr ⟨b, o, cur, rfl, hne, ho.mono (hw b hb ho.lt) (hm b hb ho.lt), q1, q2, q3.mono hle⟩
theorem BlkOk.lt {b : Blk} (h : BlkOk S M μ N w nm b) {k : Nat} (hk : blockOf (μ nm) = some k) : k < w.heap.size ∧ ¬ S k ∧ M.unk k := by
  cases b with
  | cells cs =>
    obtain ⟨b, vs, t, e, ho, _⟩ := h
    rw [e] at hk; cases hk; exact ⟨ho.lt, ho.low, ho.unk⟩
  | rows e kk rs =>
    obtain ⟨a, cap, e1, h⟩ := h
    rw [e1] at hk
    rcases h with ⟨rfl, _⟩ | ⟨b, o, cur, rfl, hc, ho, _⟩
    · cases a <;> simp [blockOf] at hk
    · simp only [blockOf] at hk; rw [if_neg (by omega)] at hk; cases hk; exact ⟨ho.lt, ho.low, ho.unk⟩
  | map ls es =>
    obtain ⟨b, xs, clk, e, ho, _⟩ := h
    rw [e] at hk; cases hk; exact ⟨ho.lt, ho.low, ho.unk⟩
  | iter cur rest =>
    obtain ⟨b, m, since, seen, last, e, ho, _⟩ := h
    rw [e] at hk; cases hk; exact ⟨ho.lt, ho.low, ho.unk⟩
  | lp l q cs =>
    obtain ⟨vs, e, ho, _⟩ := h
    rw [e] at hk; cases hk; exact ⟨ho.lt, ho.low, ho.unk⟩
  | gmap ls clk es =>
    obtain ⟨b, xs, e, ho, _⟩ := h
    rw [e] at hk; cases hk; exact ⟨ho.lt, ho.low, ho.unk⟩
  | arr e kk rs =>
    obtain ⟨a, e1, h⟩ := h
    rw [e1] at hk
    rcases h with rfl | ⟨b, o, cur, rfl, hne, ho, _⟩
    · cases a <;> simp [blockOf] at hk
    · rw [blockOf_pos (by simpa using hne)] at hk; cases hk; exact ⟨ho.lt, ho.low, ho.unk⟩
theorem StoOk.lt (h : StoOk S M μ sto w) {m k : Nat} (hm : names sto m) (hk : blockOf (μ m) = some k) : k < w.heap.size ∧ ¬ S k ∧ M.unk k := by
  obtain ⟨b, hb⟩ := Option.isSome_iff_exists.1 hm
  exact (h.blk m b hb).lt hk
theorem Mem.unk_new (h : M.Sub w) {b : Nat} (hb : w.heap.size ≤ b) : M.unk b := by
  constructor
  · intro o
    cases hm : M.c b o with
    | none => rfl
    | some v => have := cell_lt (h.1 _ _ _ hm); omega
  · cases hm : M.m b with
    | none => rfl
    | some v => have := lt_of_heap (h.2 _ _ hm); omega
theorem Mem.Sub.world (h : M.Sub w) (hw : ∀ k, k < w.heap.size → ¬ M.unk k → w'.heap[k]? = w.heap[k]?) : M.Sub w' := by
  constructor
  · intro b o v hv
    have := h.1 _ _ _ hv
    rw [World.cell?_of_block (w := w) (hw b (cell_lt this) (fun hu => by rw [hu.1] at hv; cases hv))]; exact this
  · intro b x hx
    have := h.2 _ _ hx
    rw [hw b (lt_of_heap this) (fun hu => by rw [hu.2] at hx; cases hx)]; exact this
theorem StoOk.world (h : StoOk S M μ sto w) (hs : w.heap.size ≤ w'.heap.size) (hw : ∀ k, k < w.heap.size → w'.heap[k]? = w.heap[k]?) : StoOk S M μ sto w' where
  sub := h.sub.world fun k hk _ => hw k hk
  blk := fun m b hb => (h.blk m b hb).mono (Mem.le_refl _) rfl (fun _ _ k => ⟨k, rfl⟩) (fun k _ hk => hw k hk) (fun _ _ _ => Mem.same_refl _ _)
  sep := h.sep
  low := fun b hb => Nat.lt_of_lt_of_le (h.low b hb) hs
theorem StoOk.alloc (h : StoOk S M μ sto w) (o : Obj) : StoOk S M μ sto (w.alloc o) := h.world (by rw [size_alloc]; omega) fun k hk => heap_alloc_lt w o k hk
theorem StoOk.drew (h : StoOk S M μ sto w) : StoOk S M μ sto w.drew := h.world (Nat.le_refl _) fun _ _ => rfl
theorem StoOk.know (h : StoOk S M μ sto w) (hle : M.le M') (hsub : M'.Sub w) (hm : ∀ m k, names sto m → blockOf (μ m) = some k → M.same M' k) : StoOk S M' μ sto w where
  sub := hsub
  blk := fun m b hb => (h.blk m b hb).mono hle rfl (fun _ _ k => ⟨k, rfl⟩) (fun _ _ _ => rfl) (fun k hk _ => hm m k (by simp [names, hb]) hk)
  sep := h.sep
  low := h.low
theorem StoOk.bind (h : StoOk S M μ sto w) (hnm : getS sto nm = none) {b : Blk} {x : Value} (hb : BlkOk S M (updP μ nm x) (names ((nm, b) :: sto)) w nm b)
    (hsep : ∀ m k, names sto m → blockOf (μ m) = some k → blockOf x ≠ some k) : StoOk S M (updP μ nm x) ((nm, b) :: sto) w := by
  have hne : ∀ m, names sto m → m ≠ nm := fun m hm e => by grind [names]
  refine ⟨h.sub, fun m b' hm => ?_, fun m m' k k' hmm h1 h2 hk hk' => ?_, h.low⟩
  · by_cases e : nm = m
    · subst e
      simp only [getS, if_true, Option.some.injEq] at hm
      subst hm; exact hb
    · simp only [getS, if_neg e] at hm
      exact (h.blk m b' hm).mono (Mem.le_refl _) (updP_other _ _ (Ne.symm e)) (fun q hq hN => ⟨names_cons q hN, updP_other _ _ (hne q hN)⟩) (fun _ _ _ => rfl) (fun _ _ _ => Mem.same_refl _ _)
  · have old : ∀ m, m ≠ nm → names ((nm, b) :: sto) m → names sto m := fun m e hm => by simp only [names, getS, if_neg (Ne.symm e)] at hm; exact hm
    by_cases e : m = nm
    · by_cases e' : m' = nm
      · exact absurd (e.trans e'.symm) hmm
      · subst e
        rw [updP_self] at hk; rw [updP_other _ _ e'] at hk'
        intro hkk; subst hkk
        exact hsep m' k (old m' e' h2) hk' hk
    · rw [updP_other _ _ e] at hk
      by_cases e' : m' = nm
      · subst e'
        rw [updP_self] at hk'
        intro hkk; subst hkk
        exact hsep m k (old m e h1) hk hk'
      · rw [updP_other _ _ e'] at hk'
        exact h.sep m m' k k' hmm (old m e h1) (old m' e' h2) hk hk'
theorem put_size (a : Act) (s : Option Nat) (v : Value) : (a.put s v).tmps.size = a.tmps.size := by cases s <;> simp [Act.put]
theorem put_defers (a : Act) (s : Option Nat) (v : Value) : (a.put s v).defers = a.defers := by cases s <;> simp [Act.put]
theorem put_get (a : Act) (s t : Nat) (v : Value) (hs : s < a.tmps.size) : (a.put (some s) v).tmps.getD t Go.undef = if s = t then v else a.tmps.getD t Go.undef := by
  simp only [Act.put, Array.getD_eq_getD_getElem?, Array.getElem?_setIfInBounds]
  grind
def St.put (st : St) (s : Nat) (d : D) : St := ⟨.put s d st.env, st.sto⟩
def St.bind (st : St) (nm : Nat) (b : Blk) : St := ⟨st.env, (nm, b) :: st.sto⟩
def St.setB (st : St) (nm : Nat) (b : Blk) : St := ⟨st.env, setS st.sto nm b⟩
def St.frz (st : St) (nm : Nat) (b : Blk) : St := ⟨.sb nm b st.env, delS (sbS nm b st.sto) nm⟩
theorem Rel.put (h : Rel GL n S M μ st a w) {s : Nat} (hs : s < n) {d : D} {v : Value} (hd : RepD M μ (names st.sto) d v) : Rel GL n S M μ (st.put s d) (a.put (some s) v) w where
  toStoOk := h.toStoOk
  small := h.small
  pin := h.pin
  defers := by rw [put_defers]; exact h.defers
  size := by rw [put_size]; exact h.size
  env := fun t => by
    rw [put_get _ _ _ _ (by rw [h.size]; exact hs)]
    simp only [St.put, getE]
    split
    · exact hd
    · exact h.env t
  glob := h.glob
theorem GlobOk.mono {GL : List (Nat × List I)} {M M' : Mem} (h : GlobOk GL M) (hm : M.le M') : GlobOk GL M' := fun g cs hg => (h g cs hg).mono hm
def Res (GL : List (Nat × List I)) (n : Nat) (S : Sh) (M : Mem) (w : World) (st' : St) (a' : Act) (w' : World) : Prop :=
  ∃ M' μ', Rel GL n S M' μ' st' a' w' ∧ MExt S M M' ∧ Keeps S w w'
theorem Res.of (h : Rel GL n S M μ st a w) : Res GL n S M w st a w := ⟨M, μ, h, MExt.refl _ _, Keeps.refl _ _⟩
theorem Rel.of (h : Rel GL n S M μ st a w) {st' : St} (hs : StoOk S M' μ' st'.sto w') (hg : M.le M') (he : ∀ s v, RepD M μ (names st.sto) (getE st.env s) v → RepD M' μ' (names st'.sto) (getE st'.env s) v)
    (hp : ∀ m, pinned m → μ' m = μ m := by intros; rfl) : Rel GL n S M' μ' st' a w' where
  toStoOk := hs
  small := h.small
  pin := fun m hm => (hp m hm).trans (h.pin m hm)
  defers := h.defers
  size := h.size
  env := fun s => he s _ (h.env s)
  glob := h.glob.mono hg
def Mem.with (M : Mem) (b : Nat) (vs : Array Value) : Mem := ⟨fun b' o => if b' = b then vs[o]? else M.c b' o, M.m⟩
def Mem.withM (M : Mem) (b : Nat) (x : List MapEntry × Nat) : Mem := ⟨M.c, fun b' => if b' = b then some x else M.m b'⟩
theorem Mem.le_with {b : Nat} {vs : Array Value} (h : M.unk b) : M.le (M.with b vs) :=
  ⟨fun b' o v hv => by simp only [Mem.with]; split <;> first | (rename_i e; subst e; rw [h.1 o] at hv; cases hv) | exact hv, fun b x hx => hx⟩
theorem Mem.le_withM {b : Nat} {x : List MapEntry × Nat} (h : M.unk b) : M.le (M.withM b x) :=
  ⟨fun _ _ _ hv => hv, fun b' y hy => by simp only [Mem.withM]; split <;> first | (rename_i e; subst e; rw [h.2] at hy; cases hy) | exact hy⟩
theorem Mem.with_same {b k : Nat} {vs : Array Value} (h : k ≠ b) : M.same (M.with b vs) k := ⟨fun o => by simp [Mem.with, h], rfl⟩
theorem Mem.withM_same {b k : Nat} {x : List MapEntry × Nat} (h : k ≠ b) : M.same (M.withM b x) k := ⟨fun o => rfl, by simp [Mem.withM, h]⟩
theorem Mem.Sub.with (h : M.Sub w) {b : Nat} {vs : Array Value} {t : TypeId} {fr : Nat × Nat} (hb : w.heap[b]? = some (.cells vs t fr)) : (M.with b vs).Sub w :=
  ⟨fun b' o v hv => by
    simp only [Mem.with] at hv
    split at hv
    · rename_i e; subst e; simp [World.cell?, hb, hv]
    · exact h.1 _ _ _ hv, h.2⟩
theorem Mem.Sub.withM (h : M.Sub w) {b : Nat} {x : List MapEntry × Nat} (hb : w.heap[b]? = some (.map x.1.toArray x.2)) : (M.withM b x).Sub w :=
  ⟨h.1, fun b' y hy => by
    simp only [Mem.withM] at hy
    split at hy
    · rename_i e; subst e; cases hy; exact hb
    · exact h.2 _ _ hy⟩
theorem Rel.allocKnown (h : Rel GL n S M μ st a w) (vs : Array Value) (t : TypeId) :
    Rel GL n S (M.with w.heap.size vs) μ st a (w.alloc (.cells vs t)) ∧ MExt S M (M.with w.heap.size vs) ∧ Keeps S w (w.alloc (.cells vs t)) := by
  have hle : M.le (M.with w.heap.size vs) := Mem.le_with (Mem.unk_new h.sub (Nat.le_refl _))
  have h1 := h.toStoOk.alloc (.cells vs t)
  have h2 : StoOk S (M.with w.heap.size vs) μ st.sto (w.alloc (.cells vs t)) := h1.know hle (h1.sub.with (heap_alloc_self w _)) fun m k hm hk => Mem.with_same (by have := h.toStoOk.lt hm hk; omega)
  exact ⟨h.of h2 hle fun s v hv => hv.mono hle fun _ k => k, ⟨hle, fun b hb => Mem.with_same (by have := h.low b hb; omega)⟩, keeps_alloc w _ h.low⟩
theorem Rel.bindName (h : Rel GL n S M μ st a w) (hnm : getS st.sto nm = none) (hlt : nm < n) {b : Blk} {x : Value} (hb : BlkOk S M (updP μ nm x) (names ((nm, b) :: st.sto)) w nm b)
    (hsep : ∀ m k, names st.sto m → blockOf (μ m) = some k → blockOf x ≠ some k) : Rel GL n S M (updP μ nm x) (st.bind nm b) a w := by
  refine h.of (st' := st.bind nm b) (h.toStoOk.bind hnm hb hsep) (Mem.le_refl _) (fun s v hv => hv.mono' (Mem.le_refl _) fun q _ hN => ⟨names_cons q hN, updP_other _ _ fun e => ?_⟩) fun m hm => updP_other _ _ (pinned_ne hm (by have := h.small; omega))
  subst e; simp [names, hnm] at hN
theorem Rel.bindNameN (h : Rel GL n S M μ st a w) (hnm : getS st.sto nm = none) (hp : ¬ pinned nm) {b : Blk} {x : Value} (hb : BlkOk S M (updP μ nm x) (names ((nm, b) :: st.sto)) w nm b)
    (hsep : ∀ m k, names st.sto m → blockOf (μ m) = some k → blockOf x ≠ some k) : Rel GL n S M (updP μ nm x) (st.bind nm b) a w := by
  refine h.of (st' := st.bind nm b) (h.toStoOk.bind hnm hb hsep) (Mem.le_refl _) (fun s v hv => hv.mono' (Mem.le_refl _) fun q _ hN => ⟨names_cons q hN, updP_other _ _ fun e => ?_⟩) fun m hm => updP_other _ _ (fun e => hp (e ▸ hm))
  subst e; simp [names, hnm] at hN
theorem Rel.allocMut (h : Rel GL n S M μ st a w) (hnm : getS st.sto nm = none) (hlt : nm < n) (cs : List D) (vs : Array Value) (t : TypeId) (hs : vs.size = cs.length)
    (hd : ∀ j (h : j < cs.length) (h' : j < vs.size), RepD M μ (names st.sto) (cs[j]) (vs[j])) :
    Rel GL n S M (updP μ nm (.pointer (some ⟨w.heap.size, 0, none⟩))) (st.bind nm (.cells cs)) a (w.alloc (.cells vs t)) ∧ Keeps S w (w.alloc (.cells vs t)) := by
  have h1 : Rel GL n S M μ st a (w.alloc (.cells vs t)) := h.of (h.toStoOk.alloc _) (Mem.le_refl _) fun _ _ hv => hv
  refine ⟨h1.bindName hnm hlt ⟨w.heap.size, vs, t, updP_self _ _ _, ⟨fun hS => by have := h.low _ hS; omega, heap_alloc_self w _, Mem.unk_new h.sub (Nat.le_refl _)⟩, hs, fun j a b => (hd j a b).mono' (Mem.le_refl _) fun q _ hN => ⟨names_cons q hN, updP_other _ _ fun e => ?_⟩⟩ ?_, keeps_alloc w _ h.low⟩
  · subst e; simp [names, hnm] at hN
  · intro m k hm hk
    have := (h.toStoOk.lt hm hk).1
    simp only [blockOf]
    intro e; cases e; omega
theorem StoOk.setBlk (h : StoOk S M μ sto w) {blk blk' : Blk} (hnm : getS sto nm = some blk) {b : Nat} (hμ : blockOf (μ nm) = some b) (hs : w.heap.size ≤ w'.heap.size)
    (hother : ∀ k, k ≠ b → k < w.heap.size → w'.heap[k]? = w.heap[k]?) (hblk : BlkOk S M μ (names (setS sto nm blk')) w' nm blk') : StoOk S M μ (setS sto nm blk') w' := by
  have hb := h.lt (m := nm) (by simp [names, hnm]) hμ
  refine ⟨h.sub.world fun k hk hu => hother k (fun e => by subst e; exact hu hb.2.2) hk, fun m bb hm => ?_, ?_, fun k hk => Nat.lt_of_lt_of_le (h.low k hk) hs⟩
  · by_cases e : m = nm
    · subst e
      simp only [getS_setS, if_true, hnm, Option.map_some, Option.some.injEq] at hm
      subst hm; exact hblk
    · simp only [getS_setS, if_neg e] at hm
      refine (h.blk m bb hm).mono (Mem.le_refl _) rfl (fun q _ hN => ⟨by rw [names_setS]; exact hN, rfl⟩) (fun k hk hlt => hother k ?_ hlt) (fun _ _ _ => Mem.same_refl _ _)
      exact h.sep m nm k b e (by simp [names, hm]) (by simp [names, hnm]) hk hμ
  · rw [names_setS]; exact h.sep
theorem Rel.setBlk (h : Rel GL n S M μ st a w) {blk blk' : Blk} (hnm : getS st.sto nm = some blk) {b : Nat} (hμ : blockOf (μ nm) = some b) (hs : w.heap.size ≤ w'.heap.size)
    (hother : ∀ k, k ≠ b → k < w.heap.size → w'.heap[k]? = w.heap[k]?) (hblk : BlkOk S M μ (names (setS st.sto nm blk')) w' nm blk') : Rel GL n S M μ (st.setB nm blk') a w' :=
  h.of (st' := st.setB nm blk') (h.toStoOk.setBlk hnm hμ hs hother hblk) (Mem.le_refl _) fun s v hv => by grind [St.setB,names_setS]
end
end Go.Dl
