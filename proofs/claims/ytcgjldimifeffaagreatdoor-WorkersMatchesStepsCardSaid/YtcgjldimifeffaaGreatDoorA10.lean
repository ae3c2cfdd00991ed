/- A part of the proofs of WorkersExclude and WorkersMatchesSteps: A10. -/
import Derived.Test.YtcgjldimifeffaaGreatDoorA9
set_option linter.unusedVariables false
namespace Go.Dl
open Go Go.RowKit
section
variable {P : Program} {GL : List (Nat × List I)} {n : Nat} {S : Sh} {M : Mem} {μ : Place} {st : St} {sto : List (Nat × Blk)} {a : Act} {w w' : World} {K : St → Prop} {Q : Exit → Act → World → Prop} {o : Oper} {d nm : Nat}
theorem StoOk.reset (h : StoOk S M μ sto w) {blk blk' : Blk} (hnm : getS sto nm = some blk) {x : Value} (hs : w.heap.size ≤ w'.heap.size) (hother : ∀ k, k < w.heap.size → blockOf (μ nm) ≠ some k → w'.heap[k]? = w.heap[k]?)
    (hblk : ∀ q, blockOf x = some q → blockOf (μ nm) = some q ∨ w.heap.size ≤ q) (hb : BlkOk S M (updP μ nm x) (names (setS (sbS nm (.iter none []) sto) nm blk')) w' nm blk') :
    StoOk S M (updP μ nm x) (setS (sbS nm (.iter none []) sto) nm blk') w' := by
  have hN : ∀ m, names (setS (sbS nm (.iter none []) sto) nm blk') m ↔ names sto m := fun m => by rw [names_setS, names_sbS]
  have hn0 : names sto nm := by simp [names, hnm]
  have hoth : ∀ m k, m ≠ nm → names sto m → blockOf (μ m) = some k → blockOf (μ nm) ≠ some k := fun m k hm hs hk e => h.sep m nm k k hm hs hn0 hk e rfl
  refine ⟨h.sub.world fun k hk hu => hother k hk fun e => hu (h.lt hn0 e).2.2, fun m bb hm => ?_, fun m m' k k' hne h1 h2 hk hk' => ?_, fun b hb => Nat.lt_of_lt_of_le (h.low b hb) hs⟩
  · simp only [getS_setS, getS_sbS] at hm
    split at hm
    · rename_i e; subst e
      simp only [hnm, Option.map_some, Option.some.injEq] at hm
      subst hm; exact hb
    · rename_i hne
      cases hy : getS sto m with
      | none => simp [hy] at hm
      | some y =>
        simp only [hy, Option.map_some, Option.some.injEq] at hm
        subst hm
        have hmn : names sto m := by simp [names, hy]
        refine (h.blk m y hy).sb (Mem.le_refl _) (fun q hq hqn => ⟨(hN q).2 hqn, updP_other _ _ hq⟩) (fun r v e _ => by simp only [sbR, if_pos e]; cases r <;> trivial) (updP_other _ _ hne) (fun k hk hlt => hother k hlt (hoth m k hne hmn hk)) (fun _ _ _ => Mem.same_refl _ _)
  · rw [hN] at h1 h2
    have key : ∀ m q, m ≠ nm → names sto m → blockOf (μ m) = some q → blockOf x ≠ some q := fun m q hm hs hq hv => by
      rcases hblk q hv with e' | e'
      · exact hoth m q hm hs hq e'
      · have := (h.lt hs hq).1; omega
    by_cases e1 : m = nm
    · by_cases e2 : m' = nm
      · exact absurd (e1.trans e2.symm) hne
      · subst e1
        rw [updP_self] at hk; rw [updP_other _ _ e2] at hk'
        intro hqq; subst hqq
        exact key m' k e2 h2 hk' hk
    · rw [updP_other _ _ e1] at hk
      by_cases e2 : m' = nm
      · subst e2
        rw [updP_self] at hk'
        intro hqq; subst hqq
        exact key m k e1 h1 hk hk'
      · rw [updP_other _ _ e2] at hk'
        exact h.sep m m' k k' hne h1 h2 hk hk'
theorem Rel.reset (h : Rel GL n S M μ st a w) (hpin : ¬ pinned nm) {blk blk' : Blk} (hnm : getS st.sto nm = some blk) {x : Value} (hs : w.heap.size ≤ w'.heap.size) (hother : ∀ k, k < w.heap.size → blockOf (μ nm) ≠ some k → w'.heap[k]? = w.heap[k]?)
    (hblk : ∀ q, blockOf x = some q → blockOf (μ nm) = some q ∨ w.heap.size ≤ q) (hb : BlkOk S M (updP μ nm x) (names (setS (sbS nm (.iter none []) st.sto) nm blk')) w' nm blk') :
    Rel GL n S M (updP μ nm x) ((⟨.sb nm (.iter none []) st.env, sbS nm (.iter none []) st.sto⟩ : St).setB nm blk') a w' :=
  h.of (st' := (⟨.sb nm (.iter none []) st.env, sbS nm (.iter none []) st.sto⟩ : St).setB nm blk') (h.toStoOk.reset hnm hs hother hblk hb) (Mem.le_refl _) (fun s v hv => by
    simp only [St.setB, getE]
    exact hv.sb (Mem.le_refl _) (fun q hq hqn => ⟨by rw [names_setS, names_sbS]; exact hqn, updP_other _ _ hq⟩) (fun r v e _ => by simp only [sbR, if_pos e]; cases r <;> trivial)) fun m hm => updP_other _ _ fun e => hpin (e ▸ hm)
theorem rows_flat {rows : List (List I)} {v : Value} (h : Rep M (.sl rows) v) (hne : rows ≠ []) {k : Nat} (hk : ∀ r ∈ rows, r.length = k) (hone : ∀ r ∈ rows, r.all I.one = true) :
    ∃ b oo cap, ∃ us : List Value, v = .slice (some ⟨b, oo, none⟩) rows.length cap ∧ us.length = rows.length * k ∧ (∀ j u, us[j]? = some u → M.c b (oo + j) = some u) ∧ (∀ u ∈ us, u.oneCell' = true) ∧
      ∀ i (hi : i < rows.length) j (hj : j < rows[i].length), ∃ u, us[i * k + j]? = some u ∧ Rep M (rows[i][j]) u := by
  cases h with
  | slnil => exact absurd rfl hne
  | slempty => exact absurd rfl hne
  | sl _ k' b oo cap vv hk' hc hm hr =>
    have hpos : 0 < rows.length := by grind
    obtain rfl : k' = k := by rw [← hk' _ (List.getElem_mem hpos), hk _ (List.getElem_mem hpos)]
    have hcell : ∀ p, p < rows.length * k' → ∃ u, M.c b (oo + p) = some u ∧ u.oneCell' = true := fun p hp => by
      obtain ⟨i, j, hi, hj, rfl⟩ := flat_index hk hp
      have := hm i hi j hj
      rw [Nat.add_assoc] at this
      refine ⟨_, this, (hr i hi j hj).oneCell ?_⟩
      grind
    refine ⟨b, oo, cap, (List.range (rows.length * k')).map (fun p => (M.c b (oo + p)).getD Go.undef), rfl, by simp, ?_, ?_, ?_⟩
    · intro j u hu
      simp only [List.getElem?_map, Option.map_eq_some_iff] at hu
      obtain ⟨p, hp, rfl⟩ := hu
      obtain ⟨hlt, hp⟩ := List.getElem?_eq_some_iff.1 hp
      simp at hlt hp
      subst hp
      obtain ⟨u, hu, _⟩ := hcell j hlt
      simp [hu]
    · intro u hu
      simp only [List.mem_map, List.mem_range] at hu
      obtain ⟨p, hp, rfl⟩ := hu
      obtain ⟨u, hu, h1⟩ := hcell p hp
      simp [hu, h1]
    · intro i hi j hj
      have hlt : i * k' + j < rows.length * k' := by
        have : (i + 1) * k' ≤ rows.length * k' := Nat.mul_le_mul_right _ hi
        grind
      refine ⟨_, ?_, hr i hi j hj⟩
      have := hm i hi j hj
      rw [Nat.add_assoc] at this
      simp [hlt, this]
theorem run_append_here (t ty e : TypeId) (i : TypeInfo) (ht : P.underlying t = some (.slice e)) (hi : P.info? e = some i) (g og sLen sCap : Nat) (cur : Array Value) (hg : w.heap[g]? = some (.cells cur e (0, 0)))
    (b : Addr) (m c : Nat) (news : List Value) (hl : news.length = m * i.size) (hnews : ∀ j u, news[j]? = some u → w.cell? (b.add j) = some u) (h1 : ∀ u ∈ news, u.oneCell' = true)
    (hroom : sLen + m ≤ sCap) (hfit : og + sLen * i.size + news.length ≤ cur.size) :
    (Builtin.append_ #[t, t] ty #[.slice (some ⟨g, og, none⟩) sLen sCap, .slice (some b) m c]).run P w =
      .ok (.slice (some ⟨g, og, none⟩) (sLen + m) sCap) (w.setRow g (setL cur.toList (og + sLen * i.size) news).toArray) := by
  have hf := run_firstCells_some (P := P) w i.size m b m c news hl hnews
  have hst := run_storeCells_at P g (og + sLen * i.size) e news 0 cur w hg (by simpa using hfit) h1
  simp only [Nat.add_zero] at hst
  simp [Builtin.append_, run_underlying ht, sizeOf, typeInfo, hi, Builtin.lenOf, hroom, hf, add_zero_spot, hst, setL]
theorem run_app_none (t ty e : TypeId) (i : TypeInfo) (ht : P.underlying t = some (.slice e)) (hi : P.info? e = some i) (aa : Option Addr) (haa : ∀ x, aa = some x → x.spot = none) (l cap : Nat) (hlc : l ≤ cap) (b : Option Addr) (c : Nat) :
    (Builtin.append_ #[t, t] ty #[.slice aa l cap, .slice b 0 c]).run P w = .ok (.slice aa l cap) w := by
  cases aa <;> cases b <;> simp [Builtin.append_, run_underlying ht, sizeOf, typeInfo, Builtin.lenOf, Builtin.firstCells, loadCells, loadCellsFrom, storeCells, *]
def flatV (cur : Array Value) (o k lo hi : Nat) : List Value := (cur.toList.drop (o + lo * k)).take ((hi - lo) * k)
theorem RowsAt.view {cur : Array Value} {o k lo hi : Nat} {rs : List (List I)} (h : RowsAt M cur o k rs) (hlo : lo ≤ hi) (hhi : hi ≤ rs.length) (hsz : o + rs.length * k ≤ cur.size) :
    (flatV cur o k lo hi).length = (hi - lo) * k ∧ ∀ i (hi' : i < ((rs.take hi).drop lo).length) j (hj : j < ((rs.take hi).drop lo)[i].length), ∃ u, (flatV cur o k lo hi)[i * k + j]? = some u ∧ Rep M (((rs.take hi).drop lo)[i][j]) u := by
  have hm : hi * k ≤ rs.length * k := Nat.mul_le_mul_right _ hhi
  have hm2 : lo * k + (hi - lo) * k = hi * k := by rw [← Nat.add_mul]; congr 1; omega
  refine ⟨by simp [flatV]; omega, fun i hi' j hj => ?_⟩
  have hl : ((rs.take hi).drop lo).length = hi - lo := by simp; omega
  have e : ((rs.take hi).drop lo)[i] = rs[lo + i]'(by omega) := by simp
  have hj' := hj
  rw [e] at hj'
  obtain ⟨v, hv, hr⟩ := h.2 (lo + i) (by omega) j hj'
  have hjk : j < k := by rw [← h.1 _ (List.getElem_mem (show lo + i < rs.length by omega))]; exact hj'
  have hlt : i * k + j < (hi - lo) * k := by
    have : (i + 1) * k ≤ (hi - lo) * k := Nat.mul_le_mul_right _ (by omega)
    grind
  refine ⟨v, ?_, ?_⟩
  · simp only [flatV, List.getElem?_take, if_pos hlt, List.getElem?_drop]
    rw [show o + lo * k + (i * k + j) = o + (lo + i) * k + j by rw [Nat.add_mul]; omega]
    simpa using hv
  · have e9 : ((rs.take hi).drop lo)[i][j] = rs[lo + i][j] := by simp
    rw [e9]; exact hr
theorem rowsAt_append {cur : Array Value} {o k : Nat} {as bs : List (List I)} {xs us : List Value} (hxl : xs.length = as.length * k) (hka : ∀ r ∈ as, r.length = k) (hkb : ∀ r ∈ bs, r.length = k)
    (hx : ∀ i (hi : i < as.length) j (hj : j < as[i].length), ∃ u, xs[i * k + j]? = some u ∧ Rep M (as[i][j]) u) (hu : ∀ i (hi : i < bs.length) j (hj : j < bs[i].length), ∃ u, us[i * k + j]? = some u ∧ Rep M (bs[i][j]) u)
    (hcur : ∀ j v, (xs ++ us)[j]? = some v → cur[o + j]? = some v) : RowsAt M cur o k (as ++ bs) := by
  refine ⟨fun r hr => (List.mem_append.1 hr).elim (hka r) (hkb r), fun i hi j hj => ?_⟩
  by_cases hi' : i < as.length
  · have e8 : (as ++ bs)[i] = as[i] := List.getElem_append_left hi'
    obtain ⟨u, hu, hr⟩ := hx i hi' j (by rw [← e8]; exact hj)
    refine ⟨u, ?_, by simp only [e8]; exact hr⟩
    rw [Nat.add_assoc]
    refine hcur _ _ ?_
    rw [List.getElem?_append_left (List.getElem?_eq_some_iff.1 hu).1]; exact hu
  · have hi2 : i - as.length < bs.length := by rw [List.length_append] at hi; omega
    have e8 : (as ++ bs)[i] = bs[i - as.length] := List.getElem_append_right (by omega)
    obtain ⟨u, hu, hr⟩ := hu (i - as.length) hi2 j (by rw [← e8]; exact hj)
    refine ⟨u, ?_, by simp only [e8]; exact hr⟩
    have hle : as.length * k ≤ i * k := Nat.mul_le_mul_right _ (by omega)
    rw [Nat.add_assoc]
    refine hcur _ _ ?_
    rw [List.getElem?_append_right (by rw [hxl]; omega), hxl, ← hu]
    congr 1
    rw [Nat.sub_mul]; omega
theorem run_app_op {t : TypeId} {x y : Operand} {v' : Value} {w' : World} (ho : o.op = .call { callee := .builtin .append, args := #[x, y], argTypes := #[t, t] })
    (h : (Builtin.append_ #[t, t] o.type #[a.eval x, a.eval y]).run P w = .ok v' w') : (execOp a.eval o).run P w = .ok (.value v') w' := by
  simp only [execOp, ho, resolve, Sem.run_bind, Sem.run_pure, Result.andThen_ok, invoke, builtin, List.map_toArray, List.map_cons, List.map_nil, h]
theorem allK_eq : ∀ {l : List (Option (List I))} {as : List (List I)}, allK l = some as → l = as.map some
  | [], as, h => by grind [allK]
  | some r :: rs, as, h => by
    simp only [allK] at h
    split at h
    · rename_i l hl; cases h; simp [← allK_eq hl]
    · cases h
  | none :: _, as, h => by grind [allK]
theorem arr_blk (h : Rel GL n S M μ st a w) {nm e k : Nat} {rs : List (Option (List I))} (hg : getS st.sto nm = some (.arr e k rs)) {b oo cap : Nat} (hμ : μ nm = .slice (some ⟨b, oo, none⟩) 0 cap) (hcap : 0 < cap) :
    ∃ cur, Owns S M w b (.cells cur e (0, 0)) ∧ rs.length = cap ∧ cap ≤ maxLen ∧ cur.size = oo + cap * k ∧ RowsAtO M cur oo k rs := by
  obtain ⟨aa, e1, hh⟩ := h.blk nm _ hg
  rw [hμ] at e1; injection e1 with e1 _ e2
  subst e1; subst e2
  rcases hh with rfl | ⟨b', o', cur, e3, hne, ho, q1, q2, q3⟩
  · simp at hcap
  · injection e3 with e3; injection e3 with e4 e5; subst e4; subst e5
    exact ⟨cur, ho, rfl, q1, q2, q3⟩
theorem arr_cap (h : Rel GL n S M μ st a w) {nm e k : Nat} {rs : List (Option (List I))} (hg : getS st.sto nm = some (.arr e k rs)) {aa : Option Addr} {cap : Nat} (hμ : μ nm = .slice aa 0 cap) : rs.length = cap := by
  obtain ⟨aa', e1, _⟩ := h.blk nm _ hg
  grind
theorem RowsAtO.set {cur : Array Value} {o k : Nat} {rs : List (Option (List I))} (h : RowsAtO M cur o k rs) (hsz : o + rs.length * k ≤ cur.size) {lo : Nat} {bs : List (List I)} {us : List Value} (hb : ∀ r ∈ bs, r.length = k) (hul : us.length = bs.length * k)
    (hu : ∀ i (hi : i < bs.length) j (hj : j < bs[i].length), ∃ u, us[i * k + j]? = some u ∧ Rep M (bs[i][j]) u) (hfit : lo + bs.length ≤ rs.length) :
    RowsAtO M (setL cur.toList (o + lo * k) us).toArray o k (setL rs lo (bs.map some)) := by
  have hm : (lo + bs.length) * k ≤ rs.length * k := Nat.mul_le_mul_right _ hfit
  rw [Nat.add_mul] at hm
  have hfit2 : o + lo * k + us.length ≤ cur.toList.length := by simp; omega
  intro i r hr
  rw [getElem_setL _ _ _ (by simpa using hfit)] at hr
  have cell : ∀ q : Nat, (setL cur.toList (o + lo * k) us).toArray[q]? = if o + lo * k ≤ q ∧ q < o + lo * k + us.length then us[q - (o + lo * k)]? else cur[q]? := fun q => by grind [getElem_setL]
  split at hr
  · rename_i hin
    simp only [List.length_map] at hin
    have hlt : i - lo < bs.length := by omega
    simp only [List.getElem?_map, List.getElem?_eq_getElem hlt, Option.map_some, Option.some.injEq] at hr
    subst hr
    have hk := hb _ (List.getElem_mem hlt)
    refine ⟨hk, fun j hj => ?_⟩
    obtain ⟨u, hu1, hu2⟩ := hu (i - lo) hlt j hj
    refine ⟨u, ?_, hu2⟩
    have e1 : i * k = lo * k + (i - lo) * k := by rw [← Nat.add_mul]; congr 1; omega
    have h1 := (List.getElem?_eq_some_iff.1 hu1).1
    rw [cell, if_pos (by omega), ← hu1]
    congr 1; omega
  · rename_i hout
    simp only [List.length_map] at hout
    obtain ⟨h1, h2⟩ := h i r hr
    refine ⟨h1, fun j hj => ?_⟩
    obtain ⟨v, hv, hr'⟩ := h2 j hj
    refine ⟨v, ?_, hr'⟩
    rw [cell, if_neg, hv]
    rintro ⟨g1, g2⟩
    by_cases hlo : i < lo
    · have : (i + 1) * k ≤ lo * k := Nat.mul_le_mul_right _ hlo
      rw [Nat.add_mul] at this; omega
    · have : (lo + bs.length) * k ≤ i * k := Nat.mul_le_mul_right _ (by omega)
      rw [Nat.add_mul] at this; omega
theorem RowsAtO.view {cur : Array Value} {o k lo hi : Nat} {rs : List (Option (List I))} {as : List (List I)} (h : RowsAtO M cur o k rs) (hlo : lo ≤ hi) (hhi : hi ≤ rs.length) (hsz : o + rs.length * k ≤ cur.size) (ha : (rs.take hi).drop lo = as.map some) :
    as.length = hi - lo ∧ (∀ r ∈ as, r.length = k) ∧ (flatV cur o k lo hi).length = (hi - lo) * k ∧ ∀ i (hi' : i < as.length) j (hj : j < as[i].length), ∃ u, (flatV cur o k lo hi)[i * k + j]? = some u ∧ Rep M (as[i][j]) u := by
  have hl : as.length = hi - lo := by have := congrArg List.length ha; simp at this; omega
  have hget : ∀ i (hi' : i < as.length), rs[lo + i]? = some (some as[i]) := fun i hi' => by
    have := congrArg (·[i]?) ha
    grind
  have hm : hi * k ≤ rs.length * k := Nat.mul_le_mul_right _ hhi
  have hm2 : lo * k + (hi - lo) * k = hi * k := by rw [← Nat.add_mul]; congr 1; omega
  refine ⟨hl, fun r hr => ?_, by simp [flatV]; omega, fun i hi' j hj => ?_⟩
  · obtain ⟨i, hi', rfl⟩ := List.getElem_of_mem hr
    exact (h _ _ (hget i hi')).1
  · obtain ⟨hk, hc⟩ := h _ _ (hget i hi')
    obtain ⟨v, hv, hr⟩ := hc j hj
    refine ⟨v, ?_, hr⟩
    have hlt : i * k + j < (hi - lo) * k := by
      have : (i + 1) * k ≤ (hi - lo) * k := Nat.mul_le_mul_right _ (by omega)
      grind
    simp only [flatV, List.getElem?_take, if_pos hlt, List.getElem?_drop]
    rw [show o + lo * k + (i * k + j) = o + (lo + i) * k + j by rw [Nat.add_mul]; omega]
    simpa using hv
theorem one_of_view {k : Nat} {ys : List (List I)} {us : List Value} (hk : rowsOne k ys) (hul : us.length = ys.length * k) (hu : ∀ i (hi : i < ys.length) j (hj : j < ys[i].length), ∃ u, us[i * k + j]? = some u ∧ Rep M (ys[i][j]) u) : ∀ u ∈ us, u.oneCell' = true := fun u hm => by
  obtain ⟨p, hp, rfl⟩ := List.getElem_of_mem hm
  obtain ⟨i, j, hi, hj, rfl⟩ := flat_index hk.1 (by rw [← hul]; exact hp)
  obtain ⟨v, hv, hr⟩ := hu i hi j hj
  rw [List.getElem?_eq_getElem hp] at hv
  cases hv
  refine hr.oneCell ?_
  have := hk.2 _ (List.getElem_mem hi)
  grind
theorem src_cells (h : Rel GL n S M μ st a w) {Y : D} {v : Value} (hr : RepD M μ (names st.sto) Y v) {ys : List (List I)} (hs : srcK (getS st.sto) Y = some ys) {k : Nat} (hk : rowsOne k ys) :
    (ys = [] → ∃ bb c, v = .slice bb 0 c) ∧ (ys ≠ [] → ∃ bb oo ycap, ∃ us : List Value, v = .slice (some ⟨bb, oo, none⟩) ys.length ycap ∧ us.length = ys.length * k ∧ (∀ j u, us[j]? = some u → w.cell? ⟨bb, oo + j, none⟩ = some u) ∧ (∀ u ∈ us, u.oneCell' = true) ∧
      ∀ i (hi : i < ys.length) j (hj : j < ys[i].length), ∃ u, us[i * k + j]? = some u ∧ Rep M (ys[i][j]) u) := by
  have first : (Y = .i (.sl ys)) → _ := fun e => by
    subst e
    have hr : Rep M (.sl ys) v := hr
    show (ys = [] → ∃ bb c, v = .slice bb 0 c) ∧ (ys ≠ [] → ∃ bb oo ycap, ∃ us : List Value, v = .slice (some ⟨bb, oo, none⟩) ys.length ycap ∧ us.length = ys.length * k ∧ (∀ j u, us[j]? = some u → w.cell? ⟨bb, oo + j, none⟩ = some u) ∧ (∀ u ∈ us, u.oneCell' = true) ∧
      ∀ i (hi : i < ys.length) j (hj : j < ys[i].length), ∃ u, us[i * k + j]? = some u ∧ Rep M (ys[i][j]) u)
    refine ⟨fun e => ?_, fun hne => ?_⟩
    · subst e
      cases hr with
      | slnil => exact ⟨_, _, rfl⟩
      | slempty => exact ⟨_, _, rfl⟩
      | sl => exact ⟨_, _, rfl⟩
    · obtain ⟨bb, oo, ycap, us, q1, q2, q3, q4, q5⟩ := rows_flat hr hne hk.1 hk.2
      exact ⟨bb, oo, ycap, us, q1, q2, fun j u hu => h.sub.1 _ _ _ (q3 j u hu), q4, q5⟩
  cases Y with
  | i x =>
    cases x with
    | sl rows => simp only [srcK, Option.some.injEq] at hs; exact first (by rw [hs])
    | _ => simp [srcK] at hs
  | ref r =>
   cases r with
   | sl nm k0 lo hi =>
    simp only [srcK] at hs
    obtain ⟨hN, aa, cap, hμ, hlo, hcap, hsl⟩ := hr
    have fin : ∀ {e : Nat} {cur : Array Value} {b o : Nat}, hi - lo = ys.length → v = .slice (some ⟨b, o + lo * k0, none⟩) (hi - lo) (cap - lo) → Owns S M w b (.cells cur e (0, 0)) → (flatV cur o k0 lo hi).length = (hi - lo) * k0 → (∀ r ∈ ys, r.length = k0) →
        (∀ i (hi' : i < ys.length) j (hj : j < ys[i].length), ∃ u, (flatV cur o k0 lo hi)[i * k0 + j]? = some u ∧ Rep M (ys[i][j]) u) →
        (ys = [] → ∃ bb c, v = .slice bb 0 c) ∧ (ys ≠ [] → ∃ bb oo ycap, ∃ us : List Value, v = .slice (some ⟨bb, oo, none⟩) ys.length ycap ∧ us.length = ys.length * k ∧ (∀ j u, us[j]? = some u → w.cell? ⟨bb, oo + j, none⟩ = some u) ∧ (∀ u ∈ us, u.oneCell' = true) ∧
          ∀ i (hi : i < ys.length) j (hj : j < ys[i].length), ∃ u, us[i * k + j]? = some u ∧ Rep M (ys[i][j]) u) := fun {e cur b o} hl hv hown hfl hkk hvw => by
      refine ⟨fun e => ?_, fun hne => ?_⟩
      · subst e
        exact ⟨_, _, by rw [hv, hl]; rfl⟩
      · have hpos : 0 < ys.length := by cases ys <;> simp_all
        obtain rfl : k0 = k := by rw [← hkk _ (List.getElem_mem hpos), hk.1 _ (List.getElem_mem hpos)]
        refine ⟨b, o + lo * k0, cap - lo, flatV cur o k0 lo hi, by rw [hv, hl], by rw [hfl, hl], fun j u hu => ?_, one_of_view hk (by rw [hfl, hl]) hvw, hvw⟩
        simp only [flatV, List.getElem?_take, List.getElem?_drop] at hu
        split at hu
        · simp only [World.cell?, hown.heap]; simpa using hu
        · cases hu
    unfold srcB at hs
    split at hs
    · rename_i e k' rs hg
      split at hs
      · rename_i hc
        obtain ⟨rfl, hhi⟩ := hc
        cases hs
        rcases hsl with ⟨rfl, a', hv⟩ | ⟨b, o, rfl, hv⟩
        · have : (rs.take hi).drop cap = [] := by rw [List.drop_eq_nil_iff]; simp; omega
          rw [this]
          exact ⟨fun _ => ⟨_, _, hv⟩, fun hne => (hne rfl).elim⟩
        · by_cases hc0 : cap = 0
          · have : (rs.take hi).drop lo = [] := by rw [List.drop_eq_nil_iff]; simp; omega
            rw [this]
            refine ⟨fun _ => ⟨some ⟨b, o + lo * k', none⟩, cap - lo, by rw [hv]; congr 1; omega⟩, fun hne => (hne rfl).elim⟩
          · obtain ⟨cur, hown, q1, q2, q3, q4⟩ := rows_blk h hg hμ (by omega)
            have hrl : rs.length * k' ≤ cap * k' := Nat.mul_le_mul_right _ q3
            obtain ⟨v1, v2⟩ := q4.view hlo hhi (by omega)
            exact fin (by simp; omega) hv hown v1 (fun r hr => q4.1 r (List.mem_of_mem_take (List.mem_of_mem_drop hr))) v2
      · cases hs
    · rename_i e k' rs hg
      split at hs
      · rename_i hc
        obtain ⟨rfl, hhi⟩ := hc
        have ha := allK_eq hs
        have hcl := arr_cap h hg hμ
        rcases hsl with ⟨rfl, a', hv⟩ | ⟨b, o, rfl, hv⟩
        · have e0 : (rs.take hi).drop cap = [] := by rw [List.drop_eq_nil_iff]; simp; omega
          rw [e0] at ha
          have : ys = [] := by have := congrArg List.length ha; simp at this; exact List.eq_nil_of_length_eq_zero this.symm
          subst this
          exact ⟨fun _ => ⟨_, _, hv⟩, fun hne => (hne rfl).elim⟩
        · by_cases hc0 : cap = 0
          · have e0 : (rs.take hi).drop lo = [] := by rw [List.drop_eq_nil_iff]; simp; omega
            rw [e0] at ha
            have : ys = [] := by have := congrArg List.length ha; simp at this; exact List.eq_nil_of_length_eq_zero this.symm
            subst this
            refine ⟨fun _ => ⟨some ⟨b, o + lo * k', none⟩, cap - lo, by rw [hv]; congr 1; omega⟩, fun hne => (hne rfl).elim⟩
          · obtain ⟨cur, hown, q1, q2, q3, q4⟩ := arr_blk h hg hμ (by omega)
            obtain ⟨v0, v3, v1, v2⟩ := q4.view hlo hhi (by rw [q1]; omega) ha
            exact fin (by omega) hv hown v1 v3 v2
      · cases hs
    · cases hs
   | _ => simp [srcK] at hs
  | _ => simp [srcK] at hs
theorem setL_nil {α : Type} (l : List α) (o : Nat) : setL l o [] = l := by simp [setL]
theorem snd_appA (h : Rel GL n S M μ st a w) {t e : TypeId} {i : TypeInfo} {z : Value} {x y : Operand} {oy : O} {k b e' k' nm k0 lo hi : Nat} {rs : List (Option (List I))} {ys : List (List I)} (ho : o.op = .call { callee := .builtin .append, args := #[x, y], argTypes := #[t, t] })
    (hd : o.dst = some d) (hn : d < n) (hr : RepRef μ (names st.sto) (.sl nm k0 lo hi) (a.eval x)) (hy : cO GL y = some oy) (ht : P.underlying t = some (.slice e)) (hi' : P.info? e = some i) (hz : i.zero = some z) (hk : i.size = k) (hb : i.bytes = b)
    (hzs : z.cells.size = k) (hk0 : 0 < k) (hg : getS st.sto nm = some (.arr e' k' rs)) (hsrc : srcK (getS st.sto) (opv GL st oy) = some ys) (hs : appA (getS st.sto d) e' k' rs nm k0 lo hi d e k b ys st K) : o.wpX P a w (Goal GL n S M w K) Q := by
  obtain ⟨rfl, rfl, rfl, hlo, hhi, hone, hin, hout⟩ := hs
  subst hk; subst hb
  obtain ⟨hN, aa, cap, hμ, hlo', hcap, hsl⟩ := hr
  have hry := opv_rep h hy
  obtain ⟨s1, s2⟩ := src_cells h hry hsrc hone
  have hcl := arr_cap h hg hμ
  by_cases hroom : hi + ys.length ≤ rs.length
  · have hs := hin hroom
    by_cases hne : ys = []
    · subst hne
      obtain ⟨bb, c, hyv⟩ := s1 rfl
      simp only [List.map_nil, setL_nil, List.length_nil, Nat.add_zero] at hs
      have hrel : Rel GL n S M μ (st.setB nm (.arr e' i.size rs)) a w := by
        refine h.of (st' := st.setB nm (.arr e' i.size rs)) ⟨h.sub, fun m x hx => ?_, fun m m' k k' hne h1 h2 => ?_, h.low⟩ (Mem.le_refl _) fun s v hv => by simp only [St.setB]; rw [names_setS]; exact hv
        · simp only [St.setB, getS_setS] at hx ⊢
          rw [names_setS]
          split at hx
          · rename_i e; subst e; rw [hg] at hx; cases hx; exact h.blk _ _ hg
          · exact h.blk _ _ hx
        · simp only [St.setB, names_setS] at h1 h2
          exact h.sep m m' k k' hne h1 h2
      have hv : ∃ A l c', a.eval x = .slice A l c' ∧ (∀ x, A = some x → x.spot = none ∨ (l = 0 ∧ c' = 0)) ∧ l ≤ c' := by
        rcases hsl with ⟨rfl, a', hv⟩ | ⟨b1, o1, rfl, hv⟩
        · exact ⟨a', 0, 0, hv, fun _ _ => .inr ⟨rfl, rfl⟩, Nat.le_refl _⟩
        · exact ⟨_, _, _, hv, fun x e => by cases e; exact .inl rfl, by omega⟩
      obtain ⟨A, l, c', hv, hsp, hlc⟩ := hv
      refine wp_value (v := a.eval x) (w' := w) (run_app_op ho ?_) ⟨_, hs, M, μ, by rw [hd]; exact hrel.put hn ⟨by simp only [St.setB]; rw [names_setS]; exact hN, aa, cap, hμ, hlo', hcap, hsl⟩, MExt.refl _ _, Keeps.refl _ _⟩
      rw [hv, hyv]
      cases A with
      | none => cases bb <;> simp [Builtin.append_, run_underlying ht, sizeOf, typeInfo, Builtin.lenOf, Builtin.firstCells, loadCells, loadCellsFrom, hi', hlc]
      | some A => cases bb <;> simp [Builtin.append_, run_underlying ht, sizeOf, typeInfo, Builtin.lenOf, Builtin.firstCells, loadCells, loadCellsFrom, storeCells, hi', hlc]
    · obtain ⟨bb, oo, ycap, us, hyv, hul, hum, huo, hur⟩ := s2 hne
      have hpos : 0 < ys.length := by cases ys <;> simp_all
      rcases hsl with ⟨rfl, a', hv⟩ | ⟨b1, o1, rfl, hv⟩
      · omega
      · obtain ⟨cur, hown, q1, q2, q3, q4⟩ := arr_blk h hg hμ (by omega)
        have hbo : blockOf (μ nm) = some b1 := by rw [hμ]; simp only [blockOf]; rw [if_neg (by omega)]
        have hmul : lo * i.size + (hi - lo) * i.size = hi * i.size := by rw [← Nat.add_mul]; congr 1; omega
        have hm5 : (hi + ys.length) * i.size ≤ cap * i.size := Nat.mul_le_mul_right _ (by omega)
        rw [Nat.add_mul] at hm5
        have hr := run_append_here (P := P) t o.type e' i ht hi' b1 (o1 + lo * i.size) (hi - lo) (cap - lo) cur hown.heap ⟨bb, oo, none⟩ ys.length ycap us hul (fun j u hu => by rw [add_zero_spot]; exact hum j u hu) huo (by omega) (by omega)
        rw [show o1 + lo * i.size + (hi - lo) * i.size = o1 + hi * i.size by omega] at hr
        have hkp := keeps_setRow w b1 (setL cur.toList (o1 + hi * i.size) us).toArray hown.low
        have hset := q4.set (by rw [q1]; omega) (lo := hi) hone.1 hul hur hroom
        have hll : (setL rs hi (ys.map some)).length = rs.length := length_setL _ _ _ (by simpa using hroom)
        have hrel : Rel GL n S M μ (st.setB nm (.arr e' i.size (setL rs hi (ys.map some)))) a (w.setRow b1 (setL cur.toList (o1 + hi * i.size) us).toArray) := by
          refine h.setBlk (blk' := .arr e' i.size (setL rs hi (ys.map some))) hg hbo hkp.size (fun q hq _ => setRow_other w b1 q _ hq) ⟨some ⟨b1, o1, none⟩, by rw [hll]; rw [hμ, hcl], .inr ⟨b1, o1, (setL cur.toList (o1 + hi * i.size) us).toArray, rfl, ?_, ⟨hown.low, setRow_heap w b1 cur _ e' _ hown.heap, hown.unk⟩, by rw [hll, q1]; exact q2, ?_, hset⟩⟩
          · intro e; rw [e] at hll; simp at hll; omega
          · rw [hll, q1]; simp only [List.size_toArray]; rw [length_setL _ _ _ (by simp; omega)]; simpa using q3
        exact wp_value (run_app_op ho (by rw [hv, hyv]; exact hr)) ⟨_, hs, M, μ, by
          rw [hd]
          exact hrel.put hn ⟨by simp only [St.setB]; rw [names_setS]; exact hN, _, cap, hμ, by omega, by omega, .inr ⟨b1, o1, rfl, by congr 1; omega⟩⟩, MExt.refl _ _, hkp⟩
  · obtain ⟨as, has, hao, hbytes, hlen, hfr, hs⟩ := hout (by omega)
    have ha := allK_eq has
    have hne : ys ≠ [] := fun e => by subst e; simp at hroom; omega
    obtain ⟨bb, oo, ycap, us, hyv, hul, hum, huo, hur⟩ := s2 hne
    have hpos : 0 < ys.length := by cases ys <;> simp_all
    have hml : hi - lo + ys.length ≤ maxLen := by simp only [maxLen]; omega
    have hasl : as.length = hi - lo := by have := congrArg List.length ha; simp at this; omega
    have hnews : ∀ j u, us[j]? = some u → w.cell? ((⟨bb, oo, none⟩ : Addr).add j) = some u := fun j u hu => by rw [add_zero_spot]; exact hum j u hu
    have grow : ∀ (old : Nat) (xs : List Value), xs.length = (hi - lo) * i.size → (∀ i1 (hi1 : i1 < as.length) j (hj : j < as[i1].length), ∃ u, xs[i1 * i.size + j]? = some u ∧ Rep M (as[i1][j]) u) →
        ∀ cells : Array Value, cells.toList = xs ++ us → (execOp a.eval o).run P w = .ok (.value (.slice (some ⟨w.heap.size, 0, none⟩) (hi - lo + ys.length) (grownCap w (hi - lo + ys.length) old e'))) (w.drew.alloc (.cells (cells ++ Builtin.zeroCells z.cells (grownCap w (hi - lo + ys.length) old e' - (hi - lo + ys.length))) e')) →
        o.wpX P a w (Goal GL n S M w K) Q := fun old xs hxl hxr cells hcl2 hrun => by
      have hge := grownCap_ge w (hi - lo + ys.length) old e'
      have hcm : grownCap w (hi - lo + ys.length) old e' ≤ maxLen := grownCap_le_maxLen w (hi - lo + ys.length) old e' hml
      generalize hG : grownCap w (hi - lo + ys.length) old e' = G at hge hcm hrun
      have hcs : cells.size = (hi - lo + ys.length) * i.size := by rw [← Array.length_toList, hcl2, List.length_append, hxl, hul, Nat.add_mul]
      have hL : ((as ++ ys).map some ++ List.replicate (G - (hi - lo + ys.length)) (none : Option (List I))).length = G := by simp; omega
      have hrows : RowsAt M cells 0 i.size (as ++ ys) := rowsAt_append (xs := xs) (us := us) (by rw [hxl, hasl]) hao.1 hone.1 hxr hur (fun j v hv => by
        rw [Nat.zero_add]; rw [← hcl2] at hv; simpa using hv)
      have h0 : Rel GL n S M μ st a (w.drew.alloc (.cells (cells ++ Builtin.zeroCells z.cells (G - (hi - lo + ys.length))) e')) := h.of ((h.toStoOk.drew).alloc _) (Mem.le_refl _) fun _ _ hv => hv
      have h2 := h0.bindName (nm := d) (b := .arr e' i.size ((as ++ ys).map some ++ List.replicate (G - (hi - lo + ys.length)) none)) (x := .slice (some ⟨w.heap.size, 0, none⟩) 0 G) hfr hn ⟨_, by rw [updP_self, hL], .inr ⟨w.heap.size, 0, _, rfl, fun e => by rw [e] at hL; simp at hL; omega, ⟨fun hS => by have := h.low _ hS; omega, heap_alloc_self w.drew _, Mem.unk_new h.sub (Nat.le_refl _)⟩, by rw [hL]; exact hcm, ?_, ?_⟩⟩ (fun m q hm hq => ?_)
      · exact wp_value hrun ⟨_, hs (G - (hi - lo + ys.length)), M, _, by
          rw [hd]
          exact h2.put hn ⟨names_self, _, G, updP_self _ _ _, by omega, hge, .inr ⟨w.heap.size, 0, rfl, by simp⟩⟩, MExt.refl _ _, (Keeps.refl S w).drew.trans (keeps_alloc w.drew _ h.low)⟩
      · rw [hL]
        simp only [Array.size_append, size_zeroCells, hzs, hcs, Nat.zero_add, ← Nat.add_mul]
        congr 1; omega
      · intro i1 r hr
        by_cases hlt : i1 < (as ++ ys).length
        · rw [List.getElem?_append_left (by simpa using hlt), List.getElem?_map, List.getElem?_eq_getElem hlt] at hr
          simp only [Option.map_some, Option.some.injEq] at hr
          subst hr
          refine ⟨hrows.1 _ (List.getElem_mem hlt), fun j hj => ?_⟩
          obtain ⟨v, hv, hr⟩ := hrows.2 i1 hlt j hj
          refine ⟨v, ?_, hr⟩
          rw [Array.getElem?_append_left (Array.getElem?_eq_some_iff.1 hv).1]; exact hv
        · rw [List.getElem?_append_right (by simpa using hlt), List.getElem?_replicate] at hr
          split at hr <;> cases hr
      · have := (h.toStoOk.lt hm hq).1
        simp only [blockOf]
        rw [if_neg (by omega)]
        intro e; cases e; omega
    rcases hsl with ⟨rfl, a', hv⟩ | ⟨b1, o1, rfl, hv⟩
    · obtain rfl : hi = cap := by omega
      have has0 : as = [] := List.eq_nil_of_length_eq_zero (by omega)
      subst has0
      cases a' with
      | none =>
        have hr := run_append_nil (P := P) w t o.type e' i z ht hi' hz ⟨bb, oo, none⟩ ys.length ycap us hul hnews hpos (by omega) (by have hb := hbytes; simp only [Nat.sub_self, Nat.zero_add] at hb; omega)
        refine grow 0 [] (by simp) (fun i1 h1 => by simp at h1) us.toArray (by simp) (run_app_op ho ?_)
        rw [hv, hyv]
        simpa using hr
      | some aa =>
        have hr := run_append_grow (P := P) w t o.type e' i z ht hi' hz aa 0 0 [] (by simp) (by simp) ⟨bb, oo, none⟩ ys.length ycap us hul hnews (by omega) (by omega) (growslice_fits (by omega) (by simpa using hbytes))
        refine grow 0 [] (by simp) (fun i1 h1 => by simp at h1) us.toArray (by simp) (run_app_op ho ?_)
        rw [hv, hyv]
        simpa using hr
    · by_cases hc0 : cap = 0
      · subst hc0
        obtain rfl : lo = 0 := by omega
        obtain rfl : hi = 0 := by omega
        have has0 : as = [] := List.eq_nil_of_length_eq_zero (by omega)
        subst has0
        have hr := run_append_grow (P := P) w t o.type e' i z ht hi' hz ⟨b1, o1 + 0 * i.size, none⟩ 0 0 [] (by simp) (by simp) ⟨bb, oo, none⟩ ys.length ycap us hul hnews (by omega) (by omega) (growslice_fits (by omega) (by simpa using hbytes))
        refine grow 0 [] (by simp) (fun i1 h1 => by simp at h1) us.toArray (by simp) (run_app_op ho ?_)
        rw [hv, hyv]
        simpa using hr
      · obtain ⟨cur, hown, q1, q2, q3, q4⟩ := arr_blk h hg hμ (by omega)
        obtain ⟨v0, v3, v1, v2⟩ := q4.view hlo hhi (by rw [q1]; omega) ha
        have hr := run_append_grow (P := P) w t o.type e' i z ht hi' hz ⟨b1, o1 + lo * i.size, none⟩ (hi - lo) (cap - lo) (flatV cur o1 i.size lo hi) v1 (fun j v hv => by
          simp only [flatV, List.getElem?_take, List.getElem?_drop] at hv
          split at hv
          · rw [add_zero_spot]
            simp [World.cell?, hown.heap]
            simpa using hv
          · cases hv) ⟨bb, oo, none⟩ ys.length ycap us hul hnews (by omega) (by omega) (growslice_fits (by omega) hbytes)
        refine grow (cap - lo) (flatV cur o1 i.size lo hi) v1 v2 ((flatV cur o1 i.size lo hi).toArray ++ us.toArray) (by simp) (run_app_op ho ?_)
        rw [hv, hyv]; exact hr
theorem snd_app (h : Rel GL n S M μ st a w) {t e : TypeId} {i : TypeInfo} {z : Value} {x y : Operand} {ox oy : O} {k b : Nat} {t' : TypeId} (ho : o.op = .call { callee := .builtin .append, args := #[x, y], argTypes := #[t, t'] }) (htt : t = t')
    (hd : o.dst = some d) (hn : d < n) (hx : cO GL x = some ox) (hy : cO GL y = some oy) (ht : P.underlying t = some (.slice e)) (hi : P.info? e = some i) (hz : i.zero = some z) (hk : i.size = k) (hb : i.bytes = b)
    (hzs : z.cells.size = k) (hk0 : 0 < k) (hs : step P GL (.app d e k b ox oy) st K) : o.wpX P a w (Goal GL n S M w K) Q := by
  subst htt
  have hr := opv_rep h hx
  have hry := opv_rep h hy
  simp only [step, appE] at hs
  split at hs
  rotate_left
  · exact hs.elim
  rename_i nm k0 lo hi' e1
  rw [e1] at hr
  unfold appS at hs
  split at hs
  · rename_i e' k' rs hg
    split at hs
    · rename_i ys hsrc
      exact snd_appA h ho hd hn hr hy ht hi hz hk hb hzs hk0 hg hsrc hs
    · exact hs.elim
  split at hs
  · rename_i rows e2
    rw [e2] at hry
    obtain ⟨hN, aa, cap, hμ, hlo, hcap, hsl⟩ := hr
    have hry := repD_i_inv hry
    unfold appB at hs
    split at hs
    · rename_i e' k' rs hg
      obtain ⟨hpin, rfl, rfl, rfl, hhi, hrk, hone, hbytes, hlen, hs⟩ := hs
      have hpin : ¬ pinned nm := fun hp => by unfold pinned at hp; simp only [Bool.or_eq_true, Nat.blt_eq, Nat.ble_eq] at hpin; omega
      subst hk; subst hb
      have hn0 : names st.sto nm := by simp [names, hg]
      have fin : ∀ (x' : Value) (v' : Value) (w' : World), (execOp a.eval o).run P w = .ok (.value v') w' → w.heap.size ≤ w'.heap.size → Keeps S w w' → (∀ q, q < w.heap.size → blockOf (μ nm) ≠ some q → w'.heap[q]? = w.heap[q]?) →
          (∀ q, blockOf x' = some q → blockOf (μ nm) = some q ∨ w.heap.size ≤ q) → BlkOk S M (updP μ nm x') (fun _ => False) w' nm (.rows e' i.size ((rs.take hi').drop lo ++ rows)) → SlAt x' i.size 0 (hi' - lo + rows.length) v' →
          o.wpX P a w (Goal GL n S M w K) Q := fun x' v' w' hrun h1 h2 h3 h4 h5 h6 => by
        have hrel := h.reset hpin (blk' := .rows e' i.size ((rs.take hi').drop lo ++ rows)) hg h1 h3 h4 h5
        refine wp_value hrun ⟨_, hs, M, updP μ nm x', ?_, MExt.refl _ _, h2⟩
        rw [hd]
        exact hrel.put hn ⟨by simp [names, St.setB, getS_setS, getS_sbS, hg], by rw [updP_self]; exact h6⟩
      by_cases hne : rows = []
      ·
        subst hne
        have hyv : ∃ bb c, a.eval y = .slice bb 0 c := by
          generalize a.eval y = vy at hry
          cases hry with
          | slnil => exact ⟨_, _, rfl⟩
          | slempty => exact ⟨_, _, rfl⟩
          | sl => exact ⟨_, _, rfl⟩
        obtain ⟨bb, c, hyv⟩ := hyv
        rcases hsl with ⟨rfl, a', hv⟩ | ⟨b1, o1, rfl, hv⟩
        · obtain rfl : hi' = cap := by omega
          have hrows : (rs.take hi').drop hi' = [] := by rw [List.drop_eq_nil_iff]; simp; omega
          refine fin (.slice a' 0 0) (.slice a' 0 0) w ?_ (Nat.le_refl _) (Keeps.refl _ _) (fun _ _ _ => rfl) (fun q hq => by cases a' <;> simp [blockOf] at hq) ⟨a', 0, updP_self _ _ _, .inl ⟨rfl, by rw [hrows]; rfl⟩⟩ (by
            have : hi' - hi' + ([] : List (List I)).length = 0 := by simp
            rw [this]; exact slAt_empty _ _)
          refine run_app_op ho ?_
          rw [hv, hyv]
          cases a' with
          | none => exact run_app_none t _ _ i ht hi none (by simp) _ _ (Nat.le_refl _) bb c
          | some aa => cases bb <;> simp [Builtin.append_, run_underlying ht, sizeOf, typeInfo, Builtin.lenOf, Builtin.firstCells, loadCells, loadCellsFrom, storeCells, hi]
        · by_cases hc0 : cap = lo
          · subst hc0
            obtain rfl : hi' = cap := by omega
            have hrows : (rs.take hi').drop hi' = [] := by rw [List.drop_eq_nil_iff]; simp; omega
            rw [Nat.sub_self] at hv
            refine fin (.slice (some ⟨b1, o1 + hi' * i.size, none⟩) 0 0) (.slice (some ⟨b1, o1 + hi' * i.size, none⟩) 0 0) w ?_ (Nat.le_refl _) (Keeps.refl _ _) (fun _ _ _ => rfl) (fun q hq => by simp [blockOf] at hq) ⟨_, 0, updP_self _ _ _, .inl ⟨rfl, by rw [hrows]; rfl⟩⟩ (by
              have : hi' - hi' + ([] : List (List I)).length = 0 := by simp
              rw [this]; exact slAt_empty _ _)
            exact run_app_op ho (by rw [hv, hyv]; exact run_app_none t _ _ i ht hi _ (by simp) _ _ (Nat.le_refl _) bb c)
          · obtain ⟨cur, hown, q1, q2, q3, q4⟩ := rows_blk h hg hμ (by omega)
            have hmul : lo * i.size + (cap - lo) * i.size = cap * i.size := by rw [← Nat.add_mul]; congr 1; omega
            have hrl : rs.length * i.size ≤ cap * i.size := Nat.mul_le_mul_right _ q3
            have hbo : blockOf (μ nm) = some b1 := by rw [hμ]; simp only [blockOf]; rw [if_neg (by omega)]
            obtain ⟨v1, v2⟩ := q4.view hlo hhi (by omega)
            refine fin (.slice (some ⟨b1, o1 + lo * i.size, none⟩) 0 (cap - lo)) _ w (run_app_op ho (by rw [hv, hyv]; exact run_app_none t _ _ i ht hi _ (by simp) _ _ (by omega) bb c)) (Nat.le_refl _) (Keeps.refl _ _) (fun _ _ _ => rfl)
              (fun q hq => .inl (by simp only [blockOf] at hq; rw [if_neg (by omega)] at hq; rw [hbo]; exact hq)) ⟨_, _, updP_self _ _ _, .inr ⟨b1, _, cur, rfl, by omega, hown, by omega, by omega, by simp; omega, ?_⟩⟩ ⟨_, _, rfl, by omega, by simp; omega, .inr ⟨b1, _, rfl, by simp⟩⟩
            refine rowsAt_append (as := (rs.take hi').drop lo) (bs := []) (xs := flatV cur o1 i.size lo hi') (us := []) (by rw [v1]; congr 1; simp; omega) (fun r hr => q4.1 r (List.mem_of_mem_take (List.mem_of_mem_drop hr))) (by simp) v2 (by simp) (fun j v hv => ?_)
            simp only [List.append_nil, flatV, List.getElem?_take, List.getElem?_drop] at hv
            split at hv
            · simpa using hv
            · cases hv
      ·
        obtain ⟨bb, oo, ycap, us, hyv, hul, hum, huo, hur⟩ := rows_flat hry hne hrk hone
        have hpos : 0 < rows.length := by cases rows <;> simp_all
        have hnews : ∀ j u, us[j]? = some u → w.cell? ((⟨bb, oo, none⟩ : Addr).add j) = some u := fun j u hu => by rw [add_zero_spot]; exact h.sub.1 _ _ _ (hum j u hu)
        have hml : hi' - lo + rows.length ≤ maxLen := by simp only [maxLen]; omega
        have hasl : ((rs.take hi').drop lo).length = hi' - lo := by simp; omega
        have grow : ∀ (old : Nat) (xs : List Value), xs.length = (hi' - lo) * i.size → (∀ i_1 (hi_1 : i_1 < ((rs.take hi').drop lo).length) j (hj : j < ((rs.take hi').drop lo)[i_1].length), ∃ u, xs[i_1 * i.size + j]? = some u ∧ Rep M (((rs.take hi').drop lo)[i_1][j]) u) → (∀ r ∈ (rs.take hi').drop lo, r.length = i.size) →
            ∀ cells : Array Value, cells.toList = xs ++ us → (execOp a.eval o).run P w = .ok (.value (.slice (some ⟨w.heap.size, 0, none⟩) (hi' - lo + rows.length) (grownCap w (hi' - lo + rows.length) old e'))) (w.drew.alloc (.cells (cells ++ Builtin.zeroCells z.cells (grownCap w (hi' - lo + rows.length) old e' - (hi' - lo + rows.length))) e')) →
            o.wpX P a w (Goal GL n S M w K) Q := fun old xs hxl hxr hka cells hcl hrun => by
          have hge := grownCap_ge w (hi' - lo + rows.length) old e'
          have hcm : grownCap w (hi' - lo + rows.length) old e' ≤ maxLen := grownCap_le_maxLen w (hi' - lo + rows.length) old e' hml
          have hcs : cells.size = (hi' - lo + rows.length) * i.size := by rw [← Array.length_toList, hcl, List.length_append, hxl, hul, Nat.add_mul]
          refine fin (.slice (some ⟨w.heap.size, 0, none⟩) 0 (grownCap w (hi' - lo + rows.length) old e')) _ _ hrun (by rw [size_alloc]; show w.heap.size ≤ w.heap.size + 1; omega) ((Keeps.refl S w).drew.trans (keeps_alloc w.drew _ h.low)) (fun q hq _ => heap_alloc_lt w.drew _ q hq)
            (fun q hq => .inr (by simp only [blockOf] at hq; split at hq; cases hq; cases hq; exact Nat.le_refl _)) ⟨_, _, updP_self _ _ _, .inr ⟨w.heap.size, 0, _, rfl, by omega, ⟨fun hS => by have := h.low _ hS; omega, heap_alloc_self w.drew _, Mem.unk_new h.sub (Nat.le_refl _)⟩, hcm, ?_, ?_, ?_⟩⟩
            ⟨_, _, rfl, by omega, hge, .inr ⟨w.heap.size, 0, rfl, by simp⟩⟩
          · simp only [Array.size_append, size_zeroCells, hzs, hcs, Nat.zero_add, ← Nat.add_mul]
            congr 1; omega
          · simp only [List.length_append, hasl]; omega
          · refine rowsAt_append (xs := xs) (us := us) (by rw [hxl, hasl]) hka hrk hxr hur (fun j v hv => ?_)
            rw [Nat.zero_add, Array.getElem?_append_left]
            · rw [← hcl] at hv; simpa using hv
            · rw [← hcl] at hv; simpa using (List.getElem?_eq_some_iff.1 hv).1
        rcases hsl with ⟨rfl, a', hv⟩ | ⟨b1, o1, rfl, hv⟩
        · obtain rfl : hi' = cap := by omega
          have hrows : (rs.take hi').drop hi' = [] := by rw [List.drop_eq_nil_iff]; simp; omega
          cases a' with
          | none =>
            have hr := run_append_nil (P := P) w t o.type e' i z ht hi hz ⟨bb, oo, none⟩ rows.length ycap us hul hnews hpos (by omega) (by have hb := hbytes; simp only [Nat.sub_self, Nat.zero_add] at hb; omega)
            refine grow 0 [] (by simp) (fun i1 h1 => by rw [hrows] at h1; simp at h1) (fun r hr => by rw [hrows] at hr; simp at hr) us.toArray (by simp) (run_app_op ho ?_)
            rw [hv, hyv]
            simpa using hr
          | some aa =>
            have hr := run_append_grow (P := P) w t o.type e' i z ht hi hz aa 0 0 [] (by simp) (by simp) ⟨bb, oo, none⟩ rows.length ycap us hul hnews (by omega) (by omega) (growslice_fits (by omega) (by simpa using hbytes))
            refine grow 0 [] (by simp) (fun i1 h1 => by rw [hrows] at h1; simp at h1) (fun r hr => by rw [hrows] at hr; simp at hr) us.toArray (by simp) (run_app_op ho ?_)
            rw [hv, hyv]
            simpa using hr
        · by_cases hc0 : cap = lo
          · subst hc0
            obtain rfl : hi' = cap := by omega
            have hrows : (rs.take hi').drop hi' = [] := by rw [List.drop_eq_nil_iff]; simp; omega
            rw [Nat.sub_self] at hv
            have hr := run_append_grow (P := P) w t o.type e' i z ht hi hz ⟨b1, o1 + hi' * i.size, none⟩ 0 0 [] (by simp) (by simp) ⟨bb, oo, none⟩ rows.length ycap us hul hnews (by omega) (by omega) (growslice_fits (by omega) (by simpa using hbytes))
            refine grow 0 [] (by simp) (fun i1 h1 => by rw [hrows] at h1; simp at h1) (fun r hr => by rw [hrows] at hr; simp at hr) us.toArray (by simp) (run_app_op ho ?_)
            rw [hv, hyv]
            simpa using hr
          · obtain ⟨cur, hown, q1, q2, q3, q4⟩ := rows_blk h hg hμ (by omega)
            have hmul : lo * i.size + (cap - lo) * i.size = cap * i.size := by rw [← Nat.add_mul]; congr 1; omega
            have hmul2 : lo * i.size + (hi' - lo) * i.size = hi' * i.size := by rw [← Nat.add_mul]; congr 1; omega
            have hhl : hi' * i.size ≤ cap * i.size := Nat.mul_le_mul_right _ hcap
            have hrl : rs.length * i.size ≤ cap * i.size := Nat.mul_le_mul_right _ q3
            have hbo : blockOf (μ nm) = some b1 := by rw [hμ]; simp only [blockOf]; rw [if_neg (by omega)]
            obtain ⟨v1, v2⟩ := q4.view hlo hhi (by omega)
            have hka : ∀ r ∈ (rs.take hi').drop lo, r.length = i.size := fun r hr => q4.1 r (List.mem_of_mem_take (List.mem_of_mem_drop hr))
            by_cases hroom : hi' - lo + rows.length ≤ cap - lo
            · have hm5 : (hi' - lo + rows.length) * i.size ≤ (cap - lo) * i.size := Nat.mul_le_mul_right _ hroom
              rw [Nat.add_mul] at hm5
              have hr := run_append_here (P := P) t o.type e' i ht hi b1 (o1 + lo * i.size) (hi' - lo) (cap - lo) cur hown.heap ⟨bb, oo, none⟩ rows.length ycap us hul hnews huo hroom (by omega)
              have hkp := keeps_setRow w b1 (setL cur.toList (o1 + lo * i.size + (hi' - lo) * i.size) us).toArray hown.low
              refine fin (.slice (some ⟨b1, o1 + lo * i.size, none⟩) 0 (cap - lo)) _ _ (run_app_op ho (by rw [hv, hyv]; exact hr)) hkp.size hkp (fun q _ hq => setRow_other w b1 q _ (fun e => hq (by rw [hbo, e])))
                (fun q hq => .inl (by simp only [blockOf] at hq; rw [if_neg (by omega)] at hq; rw [hbo]; exact hq)) ⟨_, _, updP_self _ _ _, .inr ⟨b1, _, _, rfl, by omega, ⟨hown.low, setRow_heap w b1 cur _ e' _ hown.heap, hown.unk⟩, by omega, ?_, by rw [List.length_append, hasl]; exact hroom, ?_⟩⟩ ⟨_, _, rfl, by omega, hroom, .inr ⟨b1, _, rfl, by simp⟩⟩
              · simp only [List.size_toArray]; rw [length_setL _ _ _ (by simp; omega)]; simp; omega
              · refine rowsAt_append (xs := flatV cur o1 i.size lo hi') (us := us) (by rw [v1, hasl]) hka hrk v2 hur (fun j v hv => ?_)
                simp only [List.getElem?_toArray]
                rw [getElem_setL _ _ _ (by simp; omega)]
                by_cases hj : j < (hi' - lo) * i.size
                · rw [List.getElem?_append_left (by rw [v1]; exact hj)] at hv
                  rw [if_neg (by omega)]
                  simp only [flatV, List.getElem?_take, if_pos hj, List.getElem?_drop] at hv
                  exact hv
                · rw [List.getElem?_append_right (by rw [v1]; omega), v1] at hv
                  have := (List.getElem?_eq_some_iff.1 hv).1
                  rw [if_pos (by omega), ← hv]
                  congr 1; omega
            · have hr := run_append_grow (P := P) w t o.type e' i z ht hi hz ⟨b1, o1 + lo * i.size, none⟩ (hi' - lo) (cap - lo) (flatV cur o1 i.size lo hi') v1 (fun j v hv => by
                simp only [flatV, List.getElem?_take, List.getElem?_drop] at hv
                split at hv
                · rw [add_zero_spot]
                  simp [World.cell?, hown.heap]
                  simpa using hv
                · cases hv) ⟨bb, oo, none⟩ rows.length ycap us hul hnews (by omega) (by omega) (growslice_fits (by omega) hbytes)
              refine grow (cap - lo) (flatV cur o1 i.size lo hi') v1 v2 hka ((flatV cur o1 i.size lo hi').toArray ++ us.toArray) (by simp) (run_app_op ho ?_)
              rw [hv, hyv]; exact hr
    · exact hs.elim
  · exact hs.elim
theorem run_sliceBound {k : IntKind} {v : Value} {i : Int} {y : Nat} {c : BoundsCode} (hv : v = .int k i) (h : 0 ≤ i ∧ i ≤ (y : Int)) : (Instr.sliceBound v y c).run P w = .ok i.toNat w := by
  subst hv
  simp only [Instr.sliceBound, asIntOf, Sem.run_bind, Sem.run_pure, Result.andThen_ok, if_pos h]
theorem run_bounds0 {isS : Bool} {len cap l u : Nat} {lo hi : Option Value} (hhi : (hi = none ∧ u = len) ∨ ∃ k, hi = some (.int k (u : Int))) (hlo : (lo = none ∧ l = 0) ∨ ∃ k, lo = some (.int k (l : Int))) (hlu : l ≤ u) (huc : u ≤ cap) :
    (Instr.sliceBounds isS len cap lo hi none).run P w = .ok (l, u, cap) w := by
  have b1 : ∀ (k : IntKind) (i y : Nat) (c : BoundsCode), i ≤ y → (Instr.sliceBound (.int k (i : Int)) y c).run P w = .ok i w := fun k i y c hy => by rw [run_sliceBound rfl ⟨by omega, by omega⟩]; simp
  rcases hhi with ⟨rfl, rfl⟩ | ⟨k, rfl⟩ <;> rcases hlo with ⟨rfl, rfl⟩ | ⟨k', rfl⟩ <;>
    simp [Instr.sliceBounds, b1 _ _ _ _ huc, b1 _ _ _ _ hlu]
theorem run_bounds (h : Rel GL n S M μ st a w) {isS : Bool} {len cap top : Nat} {lo hi : Option Operand} {olo ohi : Option O} (hlo : lo.map (cO GL) = olo.map some) (hhi : hi.map (cO GL) = ohi.map some) {T : Nat → Nat → Prop} (htop : top ≤ cap)
    (hs : slcO (loV (olo.map (opv GL st))) (hiV (len : Int) (ohi.map (opv GL st))) top T) : ∃ l u, l ≤ u ∧ u ≤ top ∧ T l u ∧ (Instr.sliceBounds isS len cap (lo.map a.eval) (hi.map a.eval) none).run P w = .ok (l, u, cap) w := by
  unfold slcO at hs
  split at hs
  · rename_i l u e1 e2
    obtain ⟨⟨b1, b2, b3⟩, hT⟩ := hs
    refine ⟨l.toNat, u.toNat, by omega, by omega, hT, run_bounds0 ?_ ?_ (by omega) (by omega)⟩
    · cases hi with
      | none =>
        cases ohi with
        | some ox => simp at hhi
        | none =>
          simp only [Option.map_none, hiV, Option.some.injEq] at e2
          exact .inl ⟨rfl, by omega⟩
      | some x =>
        cases ohi with
        | none => simp at hhi
        | some ox =>
          simp only [Option.map_some, Option.some.injEq] at hhi
          have hr := opv_rep h hhi
          simp only [Option.map_some] at e2
          generalize opv GL st ox = V at hr e2
          unfold hiV at e2
          split at e2 <;> cases e2
          · rename_i q; cases q
          · rename_i q
            cases q
            exact .inr ⟨_, by simp only [Option.map_some]; rw [int_inv (repD_i_inv hr), Int.toNat_of_nonneg (by omega)]⟩
    · cases lo with
      | none =>
        cases olo with
        | some ox => simp at hlo
        | none =>
          simp only [Option.map_none, loV, Option.some.injEq] at e1
          exact .inl ⟨rfl, by omega⟩
      | some x =>
        cases olo with
        | none => simp at hlo
        | some ox =>
          simp only [Option.map_some, Option.some.injEq] at hlo
          have hr := opv_rep h hlo
          simp only [Option.map_some] at e1
          generalize opv GL st ox = V at hr e1
          unfold loV at e1
          split at e1 <;> cases e1
          · rename_i q; cases q
          · rename_i q
            cases q
            exact .inr ⟨_, by simp only [Option.map_some]; rw [int_inv (repD_i_inv hr), Int.toNat_of_nonneg (by omega)]⟩
  · exact hs.elim
theorem Rep.slice {rows : List (List I)} {k l u : Nat} {aa : Option Addr} {len cap : Nat} (h : Rep M (.sl rows) (.slice aa len cap)) (hk : ∀ r ∈ rows, r.length = k) (hlu : l ≤ u) (hu : u ≤ rows.length) :
    Rep M (.sl ((rows.take u).drop l)) (.slice (if cap = l then aa else aa.map (·.add (l * k))) (u - l) (cap - l)) := by
  have hlen : ((rows.take u).drop l).length = u - l := by simp; omega
  by_cases he : u = l
  · subst he
    have : (rows.take u).drop u = [] := List.eq_nil_of_length_eq_zero (by omega)
    rw [this, Nat.sub_self]
    cases h with
    | slnil => simp; exact .slnil
    | slempty a cap => split <;> exact .slempty _ _
    | sl _ => split <;> exact .slempty _ _
  · cases h with
    | slnil => simp at hu; omega
    | slempty => simp at hu; omega
    | sl _ k' b o cap v hk' hc hm hr =>
      have hpos : 0 < rows.length := by omega
      obtain rfl : k' = k := by rw [← hk' _ (List.getElem_mem hpos), hk _ (List.getElem_mem hpos)]
      rw [if_neg (by omega)]
      simp only [Option.map_some, add_zero_spot]
      have hget : ∀ i (hi' : i < ((rows.take u).drop l).length), ((rows.take u).drop l)[i] = rows[l + i]'(by omega) := fun i hi' => by simp
      have := Rep.sl (M := M) ((rows.take u).drop l) k' b (o + l * k') (cap - l) (fun i j => v (l + i) j) (fun r hr => hk r (List.mem_of_mem_take (List.mem_of_mem_drop hr))) (by omega)
        (fun i hi' j hj => by
          rw [hget i hi'] at hj
          have := hm (l + i) (by omega) j hj
          rw [show o + l * k' + i * k' + j = o + (l + i) * k' + j by rw [Nat.add_mul]; omega]; exact this)
        (fun i hi' j hj => by
          have hj' := hj
          rw [hget i hi'] at hj'
          have e : ((rows.take u).drop l)[i][j] = rows[l + i][j] := by simp
          rw [e]; exact hr (l + i) (by omega) j hj')
      rw [hlen] at this; exact this
theorem run_slice_op {t e : TypeId} {x : Operand} {lo hi : Option Operand} {k l u len cap : Nat} {aa : Option Addr} (ho : o.op = .slice t x lo hi none) (hu : P.underlying t = some (.slice e)) (hk : szT P e = some k) (hx : a.eval x = .slice aa len cap)
    (hb : (Instr.sliceBounds true len cap (lo.map a.eval) (hi.map a.eval) none).run P w = .ok (l, u, cap) w) :
    (execOp a.eval o).run P w = .ok (.value (.slice (if cap = l then aa else aa.map (·.add (l * k))) (u - l) (cap - l))) w := by
  simp only [execOp, ho, hx, Instr.sliceAt, Instr.slice, Sem.run_bind, run_underlying hu w, Result.andThen_ok, Option.map_none, hb, run_sizeOf' hk, Sem.run_pure]
theorem snd_slc (h : Rel GL n S M μ st a w) {t e : TypeId} {x : Operand} {ox : O} {lo hi : Option Operand} {olo ohi : Option O} {k : Nat} (ho : o.op = .slice t x lo hi none) (hd : o.dst = some d) (hn : d < n) (hx : cO GL x = some ox)
    (hlo : lo.map (cO GL) = olo.map some) (hhi : hi.map (cO GL) = ohi.map some) (hu : P.underlying t = some (.slice e)) (hk : szT P e = some k) (hs : step P GL (.slc d ox olo ohi k) st K) : o.wpX P a w (Goal GL n S M w K) Q := by
  have hr := opv_rep h hx
  simp only [step, slcE] at hs
  split at hs
  · rename_i rows e1
    rw [e1] at hr
    have hr := repD_i_inv hr
    obtain ⟨hrk, hs⟩ := hs
    obtain ⟨aa, len, cap, hv, hlen, hcap⟩ : ∃ aa len cap, a.eval x = .slice aa len cap ∧ len = rows.length ∧ rows.length ≤ cap := by
      generalize a.eval x = vx at hr
      cases hr with
      | slnil => exact ⟨_, _, _, rfl, rfl, Nat.le_refl _⟩
      | slempty => exact ⟨_, _, _, rfl, rfl, Nat.zero_le _⟩
      | sl _ _ _ _ _ _ _ hc => exact ⟨_, _, _, rfl, rfl, hc⟩
    subst hlen
    obtain ⟨l, u, q1, q2, hT, hb⟩ := run_bounds (P := P) h (isS := true) hlo hhi hcap hs
    rw [hv] at hr
    exact wp_put h hd hn (run_slice_op ho hu hk hv hb) (repD_i (hr.slice hrk q1 q2)) hT
  · rename_i nm k0 lo' hi' e1
    rw [e1] at hr
    obtain ⟨hN, aa, cap, hμ, h1, h2, hh⟩ := hr
    have core : ∀ R : Nat, R ≤ cap → k0 = k → slcO (loV (Option.map (opv GL st) olo)) (hiV ((hi' - lo' : Nat) : Int) (Option.map (opv GL st) ohi)) (R - lo') (fun a c => K (st.put d (.ref (.sl nm k (lo' + a) (lo' + c))))) → o.wpX P a w (Goal GL n S M w K) Q := by
      intro R hrc hkk hs
      subst hkk
      rcases hh with ⟨rfl, a', hv⟩ | ⟨b, oo, rfl, hv⟩
      · obtain rfl : hi' = cap := by omega
        have e0 : R - hi' = 0 := by omega
        have e00 : hi' - hi' = 0 := by omega
        rw [e0, e00] at hs
        obtain ⟨l, u, q1, q2, hT, hb⟩ := run_bounds (P := P) (cap := 0) h (isS := true) hlo hhi (Nat.le_refl _) hs
        obtain rfl : u = 0 := by omega
        obtain rfl : l = 0 := by omega
        refine wp_put h hd hn (run_slice_op ho hu hk hv hb) (x := .ref (.sl nm k0 (hi' + 0) (hi' + 0))) ⟨hN, aa, hi', hμ, by omega, by omega, .inl ⟨by omega, ?_⟩⟩ hT
        simp
      · obtain ⟨l, u, q1, q2, hT, hb⟩ := run_bounds (P := P) (cap := cap - lo') h (isS := true) hlo hhi (by omega) hs
        refine wp_put h hd hn (run_slice_op ho hu hk hv hb) (x := .ref (.sl nm k0 (lo' + l) (lo' + u))) ⟨hN, _, cap, hμ, by omega, by omega, ?_⟩ hT
        by_cases hc : cap - lo' = l
        · refine .inl ⟨by omega, ?_⟩
          have e1 : u - l = 0 := by omega
          simp_all
        · refine .inr ⟨b, oo, rfl, ?_⟩
          rw [if_neg hc]
          simp only [Option.map_some, add_zero_spot]
          grind
    unfold slcR at hs
    split at hs
    · rename_i et k' rs hg
      obtain ⟨rfl, rfl, hs⟩ := hs
      refine core rs.length ?_ rfl hs
      obtain ⟨aa', cap', e2, hbk⟩ := h.blk nm _ hg
      rw [hμ] at e2; injection e2 with _ _ e2; subst e2
      rcases hbk with ⟨rfl, rfl⟩ | ⟨_, _, _, _, _, _, _, _, q, _⟩
      · simp
      · exact q
    · rename_i et k' rs hg
      obtain ⟨rfl, rfl, hs⟩ := hs
      exact core rs.length (by rw [arr_cap h hg hμ]; exact Nat.le_refl _) rfl hs
    · exact hs.elim
  · exact hs.elim
theorem snd_slc0 (h : Rel GL n S M μ st a w) {t e : TypeId} {x : Operand} {ox : O} {hi mx : Operand} {k ee : Nat} {k1 k2 : IntKind} (ho : o.op = .slice t x none (some hi) (some mx)) (hh : hi = .const (.int k1 0)) (hm : mx = .const (.int k2 0)) (hd : o.dst = some d) (hn : d < n) (hx : cO GL x = some ox)
    (hu : P.underlying t = some (.slice e)) (hk : szT P e = some k) (hs : step P GL (.slc0 d ee k ox) st K) : o.wpX P a w (Goal GL n S M w K) Q := by
  have hr := opv_rep h hx
  simp only [step, slc0E] at hs
  split at hs
  · rename_i rows hnm e1
    rw [e1] at hr
    have hr := repD_i_inv hr
    obtain ⟨aa, len, cap, hv⟩ : ∃ aa len cap, a.eval x = .slice aa len cap := by
      generalize a.eval x = vx at hr
      cases hr with
      | slnil => exact ⟨_, _, _, rfl⟩
      | slempty => exact ⟨_, _, _, rfl⟩
      | sl _ _ _ _ _ _ _ hc => exact ⟨_, _, _, rfl⟩
    have b1 : ∀ (k : IntKind) (y : Nat) (c : BoundsCode), (Instr.sliceBound (.int k 0) y c).run P w = .ok 0 w := fun k y c => run_sliceBound (i := 0) rfl ⟨by omega, by omega⟩
    have hex : (execOp a.eval o).run P w = .ok (.value (.slice aa 0 0)) w := by
      subst hh; subst hm
      have ec : ∀ v, a.eval (.const v) = v := fun _ => rfl
      simp [execOp, ho, hv, Instr.sliceAt, Instr.slice, run_underlying hu w, Instr.sliceBounds, b1, run_sizeOf' hk, ec]
    exact wp_value hex ⟨_, hs, M, _, by rw [hd]; exact (h.bindEmpty hnm hn aa ee k).put hn ⟨names_self, by rw [updP_self]; exact slAt_empty _ _⟩, MExt.refl _ _, Keeps.refl _ _⟩
  · exact hs.elim
theorem bytes_extract (s : List UInt8) (l u : Nat) (hlu : l ≤ u) (hu : u ≤ s.length) : (bytesOf s).extract l u = bytesOf ((s.take u).drop l) := by
  have : ((bytesOf s).extract l u).data = (bytesOf ((s.take u).drop l)).data := by
    simp [bytesOf, ByteArray.data_extract]
    rw [List.drop_take]
  cases h : (bytesOf s).extract l u
  simp_all
theorem snd_sslc (h : Rel GL n S M μ st a w) {t : TypeId} {x : Operand} {ox : O} {lo hi : Option Operand} {olo ohi : Option O} (ho : o.op = .slice t x lo hi none) (hd : o.dst = some d) (hn : d < n) (hx : cO GL x = some ox)
    (hlo : lo.map (cO GL) = olo.map some) (hhi : hi.map (cO GL) = ohi.map some) (hu : P.underlying t = some .string) (hs : step P GL (.sslc d ox olo ohi) st K) : o.wpX P a w (Goal GL n S M w K) Q := by
  have hr := opv_rep h hx
  simp only [step, sslcE] at hs
  split at hs
  · rename_i s e1
    rw [e1] at hr
    have hv := str_inv (repD_i_inv hr)
    obtain ⟨l, u, q1, q2, hT, hb⟩ := run_bounds (P := P) (cap := s.length) h (isS := false) hlo hhi (Nat.le_refl _) hs
    refine wp_put h hd hn (v := .string (bytesOf ((s.take u).drop l))) ?_ (repD_i (.str _)) hT
    rw [← bytes_extract s l u q1 q2]
    simp [execOp, ho, hv, Instr.sliceAt, Instr.slice, run_underlying hu w, size_bytesOf, hb]
  · exact hs.elim
end
end Go.Dl
