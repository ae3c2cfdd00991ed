/- A part of the proofs of WorkersExclude and WorkersMatchesSteps: A3. -/
import Derived.Test.YtcgjldimifeffaaGreatDoorA2
namespace Go.Dl
open Go Go.RowKit
def allI (cs : List D) : Bool := cs.all isI
theorem allI_map {l : List D} (h : allI l = true) : l = (l.map unI).map D.i := by
  induction l with
  | nil => rfl
  | cons x l ih =>
    simp only [allI, List.all_cons, Bool.and_eq_true] at h
    rw [List.map_cons, List.map_cons, ← ih h.2]
    congr 1
    cases x <;> simp [isI] at h <;> rfl
section
variable {GL : List (Nat × List I)} {n : Nat} {S : Sh} {M M' : Mem} {μ μ' : Place} {N N' : Nat → Prop} {st : St} {sto : List (Nat × Blk)} {a : Act} {w w' : World} {nm : Nat} {b : Blk}
theorem RepC.sb (hle : M.le M') (hN : ∀ m, m ≠ nm → N m → N' m ∧ μ' m = μ m) (hp : ∀ r v, r.nm = nm → RepRef μ N r v → RepC M' μ' N' (sbR nm b r) v) {x : Cp} {v : Value} (h : RepC M μ N x v) : RepC M' μ' N' (sbC nm b x) v := by
  cases x with
  | any => trivial
  | i y => exact Rep.mono hle h
  | ref r =>
    by_cases e : r.nm = nm
    · exact hp r v e h
    · simp only [sbC, sbR, if_neg e]
      have := hN r.nm e (RepRef.name h)
      exact RepRef.mono h this.1 this.2
theorem RepC.toD {x : Cp} {v : Value} (h : RepC M μ N x v) : RepD M μ N x.toD v := by
  cases x with
  | any => trivial
  | i y => exact h
  | ref r => exact h
theorem RepCs.sb (hle : M.le M') (hN : ∀ m, m ≠ nm → N m → N' m ∧ μ' m = μ m) (hp : ∀ r v, r.nm = nm → RepRef μ N r v → RepC M' μ' N' (sbR nm b r) v) {xs : List Cp} {vs : List Value} (h : RepCs M μ N xs vs) :
    RepCs M' μ' N' (xs.map (sbC nm b)) vs :=
  ⟨by simpa using h.1, fun j a b => by rw [List.getElem_map]; exact (h.2 j (by simpa using a) b).sb hle hN hp⟩
theorem RepD.sb (hle : M.le M') (hN : ∀ m, m ≠ nm → N m → N' m ∧ μ' m = μ m) (hp : ∀ r v, r.nm = nm → RepRef μ N r v → RepC M' μ' N' (sbR nm b r) v) {x : D} {v : Value} (h : RepD M μ N x v) : RepD M' μ' N' (sbD nm b x) v := by
  cases x with
  | any => trivial
  | i y => exact Rep.mono hle h
  | ref r => exact (RepC.sb (x := .ref r) hle hN hp h).toD
  | fn f first caps =>
    obtain ⟨va, vb, e, hy, h1, h2⟩ := h
    exact ⟨va, vb, e, hy.imp id (fun q => by rw [q]; rfl), h1.sb hle hN hp, h2.sb hle hN hp⟩
  | tup cs => obtain ⟨vs, e, h1⟩ := h; exact ⟨vs, e, h1.sb hle hN hp⟩
theorem nms_sbC {c : Cp} (h : c.nms = []) : (sbC nm b c).nms = [] := by cases c <;> first | rfl | simp [Cp.nms] at h
theorem nms_sbD {d : D} (h : d.nms = []) : (sbD nm b d).nms = [] := by
  have go : ∀ l : List Cp, l.flatMap Cp.nms = [] → (l.map (sbC nm b)).flatMap Cp.nms = [] := fun l hl => by simp_all [nms_sbC]
  cases d with
  | ref r => simp [D.nms] at h
  | fn f x y =>
    grind [D.nms,sbD]
  | tup cs => exact go _ h
  | _ => rfl
theorem nms_sbB : ∀ {x : Blk}, x.nms = [] → (sbB nm b x).nms = []
  | .cells cs, h => by simp_all [sbB,Blk.nms,nms_sbD]
  | .lp l q cs, h => by simp_all [sbB,Blk.nms,nms_sbD]
  | .gmap ls clk es, h => by
    simp only [sbB, Blk.nms, List.flatMap_eq_nil_iff, List.mem_map] at *
    grind [nms_sbD]
  | .rows _ _ _, _ => rfl
  | .map _ _, _ => rfl
  | .iter _ _, _ => rfl
  | .arr _ _ _, _ => rfl
theorem BlkOk.sb {m : Nat} {x : Blk} (hle : M.le M') (hN : ∀ m, m ≠ nm → N m → N' m ∧ μ' m = μ m) (hp : ∀ r v, r.nm = nm → RepRef μ N r v → RepC M' μ' N' (sbR nm b r) v) (hμ : μ' m = μ m)
    (hw : ∀ k, blockOf (μ m) = some k → k < w.heap.size → w'.heap[k]? = w.heap[k]?) (hm : ∀ k, blockOf (μ m) = some k → k < w.heap.size → M.same M' k) (h : BlkOk S M μ N w m x) : BlkOk S M' μ' N' w' m (sbB nm b x) := by
  cases x with
  | cells cs =>
    obtain ⟨bb, vs, t, e, ho, hs, hr⟩ := h
    have hb : blockOf (μ m) = some bb := by rw [e]; rfl
    refine ⟨bb, vs, t, by rw [hμ]; exact e, ho.mono (hw bb hb ho.lt) (hm bb hb ho.lt), by simpa using hs, fun j h h' => ?_⟩
    rw [List.getElem_map]
    exact (hr j (by simpa using h) h').sb hle hN hp
  | rows e k rs => exact BlkOk.mono (b := .rows e k rs) h hle hμ (fun _ hx => by simp [Blk.nms] at hx) hw hm
  | map ls es => exact BlkOk.mono (b := .map ls es) h hle hμ (fun _ hx => by simp [Blk.nms] at hx) hw hm
  | iter cur rest => exact BlkOk.mono (b := .iter cur rest) h hle hμ (fun _ hx => by simp [Blk.nms] at hx) hw hm
  | lp l q cs =>
    obtain ⟨vs, e, ho, hs, hr⟩ := h
    have hb : blockOf (μ m) = some l := by rw [e]; rfl
    refine ⟨vs, by rw [hμ]; exact e, ho.mono (hw l hb ho.lt) (hm l hb ho.lt), by simpa using hs, fun j h h' => ?_⟩
    rw [List.getElem_map]
    exact (hr j (by simpa using h) h').sb hle hN hp
  | gmap ls clk es =>
    obtain ⟨bb, xs, e, ho, q1, q2, q3⟩ := h
    have hb : blockOf (μ m) = some bb := by rw [e]; rfl
    refine ⟨bb, xs, by rw [hμ]; exact e, ho.mono (hw bb hb ho.lt) (hm bb hb ho.lt), ⟨by simpa using q1.1, fun j h h' => ?_⟩, q2, fun e he => ?_⟩
    · rw [List.getElem_map]
      have := q1.2 j (by simpa using h) h'
      exact ⟨this.1.mono hle, this.2.1, this.2.2.sb hle hN hp⟩
    · obtain ⟨e0, he0, rfl⟩ := List.mem_map.1 he
      exact q3 e0 he0
  | arr e k rs => exact BlkOk.mono (b := .arr e k rs) h hle hμ (fun _ hx => by simp [Blk.nms] at hx) hw hm
theorem names_del {m : Nat} (hm : m ≠ nm) (h : names sto m) : names (delS (sbS nm b sto) nm) m := by grind [names,getS_delS,getS_sbS,getS]
theorem names_del_inv {m : Nat} (h : names (delS (sbS nm b sto) nm) m) : m ≠ nm ∧ names sto m := by grind [names,getS_delS,getS_sbS,getS]
theorem StoOk.giveup (h : StoOk S M μ sto w) (hle : M.le M') (hsub : M'.Sub w) (hp : ∀ r v, r.nm = nm → RepRef μ (names sto) r v → RepC M' μ (names (delS (sbS nm b sto) nm)) (sbR nm b r) v)
    (hm : ∀ k, blockOf (μ nm) ≠ some k → M.same M' k) (hnm : names sto nm) : StoOk S M' μ (delS (sbS nm b sto) nm) w := by
  refine ⟨hsub, fun m x hx => ?_, fun m m' k k' hmm h1 h2 hk hk' => h.sep m m' k k' hmm (names_del_inv h1).2 (names_del_inv h2).2 hk hk', h.low⟩
  simp only [getS_delS, getS_sbS] at hx
  split at hx
  · cases hx
  · rename_i hne
    cases hy : getS sto m with
    | none => simp [hy] at hx
    | some y =>
      simp only [hy, Option.map_some, Option.some.injEq] at hx
      subst hx
      refine (h.blk m y hy).sb hle (fun q hq hN => ⟨names_del hq hN, rfl⟩) hp rfl (fun _ _ _ => rfl) (fun k hk _ => hm k fun e => ?_)
      exact h.sep m nm k k hne (by simp [names, hy]) hnm hk e rfl
theorem Rel.giveup (h : Rel GL n S M μ st a w) (hle : M.le M') (hsub : M'.Sub w) (hp : ∀ r v, r.nm = nm → RepRef μ (names st.sto) r v → RepC M' μ (names (delS (sbS nm b st.sto) nm)) (sbR nm b r) v)
    (hm : ∀ k, blockOf (μ nm) ≠ some k → M.same M' k) (hnm : names st.sto nm) : Rel GL n S M' μ (st.frz nm b) a w :=
  h.of (st' := st.frz nm b) (h.toStoOk.giveup hle hsub hp hm hnm) hle fun s v hv => by
    simp only [St.frz, getE]
    exact hv.sb hle (fun q hq hN => ⟨names_del hq hN, rfl⟩) hp
theorem Rel.drop (h : Rel GL n S M μ st a w) (hnm : names st.sto nm) : Rel GL n S M μ (st.frz nm (.iter none [])) a w := by
  refine h.giveup (Mem.le_refl _) h.sub (fun r v e _ => ?_) (fun _ _ => Mem.same_refl _ _) hnm
  simp only [sbR, if_pos e]
  cases r <;> trivial
theorem rows_rep {cur : Array Value} {o k cap bb : Nat} {rs : List (List I)} (h : RowsAt M' cur o k rs) (hk : ∀ x, x < cur.size → M'.c bb x = cur[x]?) {lo hi : Nat} (hlo : lo ≤ hi) (hhi : hi ≤ rs.length) (hc : rs.length ≤ cap) :
    Rep M' (.sl ((rs.take hi).drop lo)) (.slice (some ⟨bb, o + lo * k, none⟩) (hi - lo) (cap - lo)) := by
  obtain ⟨h1, h2⟩ := h
  have hl : ((rs.take hi).drop lo).length = hi - lo := by simp; omega
  by_cases he : hi = lo
  · subst he
    have : (rs.take hi).drop hi = [] := List.eq_nil_of_length_eq_zero (by omega)
    rw [this, Nat.sub_self]; exact .slempty _ _
  have hget : ∀ i (hi' : i < ((rs.take hi).drop lo).length), ((rs.take hi).drop lo)[i] = rs[lo + i]'(by omega) := fun i hi' => by simp
  have := Rep.sl (M := M') ((rs.take hi).drop lo) k bb (o + lo * k) (cap - lo) (fun i j => cur.getD (o + (lo + i) * k + j) Go.undef) (fun r hr => h1 r (List.mem_of_mem_take (List.mem_of_mem_drop hr))) (by omega)
    (fun i hi' j hj => by
      rw [hget i hi'] at hj
      obtain ⟨v, hv, _⟩ := h2 (lo + i) (by omega) j hj
      have hx : o + lo * k + i * k + j = o + (lo + i) * k + j := by grind
      rw [hx, hk _ (Array.getElem?_eq_some_iff.1 hv).1, hv]
      simp [Array.getD_eq_getD_getElem?, hv])
    (fun i hi' j hj => by
      have hj' := hj
      rw [hget i hi'] at hj'
      obtain ⟨v, hv, hr⟩ := h2 (lo + i) (by omega) j hj'
      simp only [Array.getD_eq_getD_getElem?, hv, Option.getD_some]
      have e := hget i hi'
      have : ((rs.take hi).drop lo)[i][j] = rs[lo + i][j] := by simp
      rw [this]; exact hr)
  rw [hl] at this; exact this
theorem row_elt {cur : Array Value} {o k bb : Nat} {rs : List (List I)} (h : RowsAt M' cur o k rs) (hk : ∀ x, x < cur.size → M'.c bb x = cur[x]?) {row : Nat} (hrow : row < rs.length) (off : Nat) :
    Rep M' (.elt (rs.getD row []) off) (.pointer (some ⟨bb, o + row * k + off, none⟩)) := by
  have e : rs.getD row [] = rs[row] := by grind
  rw [e]
  refine Rep.elt _ off bb (o + row * k) (fun j => cur.getD (o + row * k + j) Go.undef) (fun j hj => ?_) (fun j hj => ?_)
  · obtain ⟨v, hv, _⟩ := h.2 row hrow j hj
    rw [hk _ (Array.getElem?_eq_some_iff.1 hv).1, hv]
    simp [Array.getD_eq_getD_getElem?, hv]
  · obtain ⟨v, hv, hr⟩ := h.2 row hrow j hj
    simp only [Array.getD_eq_getD_getElem?, hv, Option.getD_some]; exact hr
theorem ents_rep {xs : List MapEntry} {clk b : Nat} {es : List (I × I)} (h : EntsAt M' xs es) (hb : Births xs clk) (hm : M'.m b = some (xs, clk)) : Rep M' (.map es) (.map (some b)) :=
  .map es b xs clk hm h.1 hb (fun j hj => (h.2 j hj (by rw [h.1]; exact hj)).1) (fun j hj => (h.2 j hj (by rw [h.1]; exact hj)).2)
def frzOk : Blk → Bool
  | .cells cs => allI cs
  | .lp _ _ _ => false
  | .arr _ _ _ => false
  | .gmap _ _ es => es.all fun e => isI e.2.2
  | _ => true
theorem Rel.freeze (h : Rel GL n S M μ st a w) (hg : getS st.sto nm = some b) (hok : frzOk b = true) : ∃ M', Rel GL n S M' μ (st.frz nm b) a w ∧ MExt S M M' := by
  have hnm : names st.sto nm := by simp [names, hg]
  have hbk := h.blk nm b hg
  cases b with
  | cells cs =>
    obtain ⟨bb, vs, t, e, ho, hs, hr⟩ := hbk
    have hle : M.le (M.with bb vs) := Mem.le_with ho.unk
    refine ⟨M.with bb vs, h.giveup hle (h.sub.with ho.heap) (fun r v er hv => ?_) (fun k hk => Mem.with_same fun e' => hk (by rw [e, e']; rfl)) hnm, ⟨hle, fun k hk => Mem.with_same fun e' => ho.low (e' ▸ hk)⟩⟩
    simp only [sbR, if_pos er]
    cases r with
    | loc m off =>
      obtain rfl : m = nm := er
      obtain ⟨_, b', e1, rfl⟩ := hv
      obtain rfl : bb = b' := by rw [e] at e1; injection e1 with q; injection q with q; injection q
      have hall := allI_map hok
      have := Rep.elt (M := M.with bb vs) (cs.map unI) off bb 0 (fun j => vs.getD j Go.undef) (fun j hj => by
        simp at hj; simp [Mem.with, show j < vs.size by omega]) (fun j hj => by
        have hj' : j < cs.length := by simpa using hj
        have := hr j hj' (by omega)
        have e2 : cs[j] = .i ((cs.map unI)[j]) := by
          have := congrArg (·[j]?) hall
          simp [List.getElem?_eq_getElem hj'] at this
          simpa using this
        rw [e2] at this
        simp only [Array.getD_eq_getD_getElem?, show vs[j]? = some vs[j] by simp [show j < vs.size by omega], Option.getD_some]
        exact Rep.mono hle this)
      rw [Nat.zero_add] at this; exact this
    | _ => trivial
  | rows et k rs =>
    obtain ⟨aa, cap, e, hh⟩ := hbk
    rcases hh with ⟨rfl, rfl⟩ | ⟨bb, o, cur, rfl, hc, ho, q1, q2, q3, q4⟩
    · refine ⟨M, h.giveup (Mem.le_refl _) h.sub (fun r v er hv => ?_) (fun _ _ => Mem.same_refl _ _) hnm, MExt.refl _ _⟩
      simp only [sbR, if_pos er]
      cases r with
      | sl m k' lo hi =>
        obtain rfl : m = nm := er
        dsimp only
        split
        · rename_i hle
          replace hle := hle.2
          obtain ⟨_, a', cap', e1, g1, g2, g3⟩ := hv
          rw [e] at e1
          injection e1 with e2 e3 e4
          subst e4
          obtain rfl : lo = 0 := by omega
          obtain rfl : hi = 0 := by omega
          rcases g3 with ⟨_, a'', rfl⟩ | ⟨b', o', e5, rfl⟩
          · show Rep M (.sl _) _
            simp only [List.take_nil, List.drop_nil]
            cases a'' with
            | none => exact .slnil
            | some x => exact .slempty _ _
          · show Rep M (.sl _) _
            simp only [List.take_nil, List.drop_nil]
            exact .slempty _ _
        · trivial
      | lel m k' row off =>
        dsimp only
        split
        · rename_i hh; simp at hh
        · trivial
      | _ => trivial
    · have hle : M.le (M.with bb cur) := Mem.le_with ho.unk
      have hbo : blockOf (μ nm) = some bb := by rw [e]; simp only [blockOf]; rw [if_neg (by omega)]
      refine ⟨M.with bb cur, h.giveup hle (h.sub.with ho.heap) (fun r v er hv => ?_) (fun k hk => Mem.with_same fun e' => hk (by rw [e', hbo])) hnm, ⟨hle, fun k hk => Mem.with_same fun e' => ho.low (e' ▸ hk)⟩⟩
      have hkn : ∀ x, x < cur.size → (M.with bb cur).c bb x = cur[x]? := fun x hx => by simp [Mem.with]
      have q4' := q4.mono hle
      simp only [sbR, if_pos er]
      cases r with
      | sl m k' lo hi =>
        obtain rfl : m = nm := er
        dsimp only
        split
        · rename_i hcond
          obtain ⟨rfl, hle'⟩ := hcond
          obtain ⟨_, a', cap', e1, g1, g2, g3⟩ := hv
          rw [e] at e1
          injection e1 with e2 e3 e4
          subst e4; subst e2
          rcases g3 with ⟨rfl, a'', rfl⟩ | ⟨b', o', e5, rfl⟩
          · obtain rfl : hi = cap := by omega
            show Rep _ (.sl _) _
            have : (rs.take hi).drop hi = [] := by rw [List.drop_eq_nil_iff]; simp; omega
            rw [this]
            cases a'' with
            | none => exact .slnil
            | some x => exact .slempty _ _
          · injection e5 with e5; injection e5 with e5 e6; subst e5; subst e6
            exact rows_rep q4' hkn g1 hle' q3
        · trivial
      | lel m k' row off =>
        obtain rfl : m = nm := er
        dsimp only
        split
        · rename_i hcond
          obtain ⟨rfl, hrow⟩ := hcond
          obtain ⟨_, b', o', cap', e1, _, rfl⟩ := hv
          rw [e] at e1
          injection e1 with e2 e3 e4
          injection e2 with e2; injection e2 with e5 e6; subst e5; subst e6
          exact row_elt q4' hkn hrow off
        · trivial
      | _ => trivial
  | map ls es =>
    obtain ⟨bb, xs, clk, e, ho, q1, q2, q3⟩ := hbk
    have hle : M.le (M.withM bb (xs.toList, clk)) := Mem.le_withM ho.unk
    refine ⟨M.withM bb (xs.toList, clk), h.giveup hle (h.sub.withM (by simpa using ho.heap)) (fun r v er hv => ?_) (fun k hk => Mem.withM_same fun e' => hk (by rw [e, e']; rfl)) hnm, ⟨hle, fun k hk => Mem.withM_same fun e' => ho.low (e' ▸ hk)⟩⟩
    simp only [sbR, if_pos er]
    cases r with
    | mp m =>
      obtain rfl : m = nm := er
      obtain ⟨_, b', e1, rfl⟩ := hv
      rw [e] at e1; injection e1 with e1; injection e1 with e1; subst e1
      exact ents_rep (q1.mono hle) q2 (by simp [Mem.withM])
    | _ => trivial
  | iter cur rest =>
    refine ⟨M, h.giveup (Mem.le_refl _) h.sub (fun r v er _ => ?_) (fun _ _ => Mem.same_refl _ _) hnm, MExt.refl _ _⟩
    simp only [sbR, if_pos er]
    cases r <;> trivial
  | lp l q cs => simp [frzOk] at hok
  | arr e k rs => simp [frzOk] at hok
  | gmap ls clk es =>
    obtain ⟨bb, xs, e, ho, q1, q2, q3⟩ := hbk
    have hle : M.le (M.withM bb (xs.toList, clk)) := Mem.le_withM ho.unk
    refine ⟨M.withM bb (xs.toList, clk), h.giveup hle (h.sub.withM (by simpa using ho.heap)) (fun r v er hv => ?_) (fun k hk => Mem.withM_same fun e' => hk (by rw [e, e']; rfl)) hnm, ⟨hle, fun k hk => Mem.withM_same fun e' => ho.low (e' ▸ hk)⟩⟩
    simp only [sbR, if_pos er]
    cases r with
    | mp m =>
      obtain rfl : m = nm := er
      obtain ⟨_, b', e1, rfl⟩ := hv
      rw [e] at e1; injection e1 with e1; injection e1 with e1; subst e1
      dsimp only
      have hall : (es.all fun e => isI e.2.2) = true := hok
      rw [if_pos hall]
      refine ents_rep ⟨by simpa using q1.1, fun j h1 h2 => ?_⟩ q2 (by simp [Mem.withM])
      have hj : j < es.length := by simpa using h1
      have := q1.2 j hj h2
      rw [List.getElem_map]
      refine ⟨this.1.mono hle, ?_⟩
      have hi : isI es[j].2.2 = true := by rw [List.all_eq_true] at hall; exact hall _ (List.getElem_mem hj)
      have h3 := this.2.2
      revert hi h3
      cases es[j].2.2 <;> intro hi h3 <;> first | (simp [isI] at hi; done) | exact Rep.mono hle h3
    | _ => trivial
def St.frzN (st : St) (nm : Nat) : St := match getS st.sto nm with
  | some b => if frzOk b = true then st.frz nm b else st
  | none => st
theorem Rel.frzN (h : Rel GL n S M μ st a w) (nm : Nat) : ∃ M', Rel GL n S M' μ (st.frzN nm) a w ∧ MExt S M M' := by
  unfold St.frzN
  split
  · split
    · exact h.freeze ‹_› ‹_›
    · grind [MExt.refl]
  · grind [MExt.refl]
def frzNs : List Nat → St → St
  | [], st => st
  | nm :: r, st => frzNs r (st.frzN nm)
theorem Rel.frzNs : ∀ (l : List Nat) {M : Mem} {st : St}, Rel GL n S M μ st a w → ∃ M', Rel GL n S M' μ (Dl.frzNs l st) a w ∧ MExt S M M'
  | [], M, st, h => ⟨M, h, MExt.refl _ _⟩
  | x :: l, M, st, h => by
    obtain ⟨M1, h1, m1⟩ := h.frzN x
    obtain ⟨M2, h2, m2⟩ := Rel.frzNs l h1
    exact ⟨M2, h2, m1.trans m2⟩
end
end Go.Dl
