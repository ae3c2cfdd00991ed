/- A part of the proofs of WorkersExclude and WorkersMatchesSteps: A28. -/
import Derived.Test.YtcgjldimifeffaaGreatDoorA27g
import Derived.ChangeArms
import Derived.Deep.Slices
set_option linter.all false
namespace Go.Dl
open Go Go.RowKit
def fullM (w : World) : Mem := ⟨fun b o => w.cell? ⟨b, o, none⟩, fun b => match w.heap[b]? with | some (.map es clk) => some (es.toList, clk) | _ => none⟩
theorem fullM_sub (w : World) : (fullM w).Sub w := by
  refine ⟨fun b o v h => h, fun b x h => ?_⟩
  simp only [fullM] at h
  split at h
  · rename_i es clk e; cases h; simpa using e
  · cases h
mutual
def flatD {H : Type} : DataW H → List I
  | .lit (.bool b) => [.bool b]
  | .lit (.int k n) => [.int k n]
  | .lit (.string s) => [.str s]
  | .nil => [.sl []]
  | .slice elems _ => [.sl (flatS elems)]
  | .agg parts => flatA parts
  | _ => [.undef]
def flatS {H : Type} : List (DataW H) → List (List I)
  | [] => []
  | d :: r => flatD d :: flatS r
def flatA {H : Type} : List (DataW H) → List I
  | [] => []
  | d :: r => flatD d ++ flatA r
end
theorem flatS_map {H : Type} : ∀ l : List (DataW H), flatS l = l.map flatD
  | [] => by simp [flatS]
  | d :: r => by simp [flatS, flatS_map r]
def offsOk (P : Program) : List Field → Nat → Nat → Bool
  | [], s, tot => s == tot
  | f :: r, s, tot => f.offset == s && offsOk P r (s + P.cellsOf f.type) tot
def plainT (P : Program) (l : List TypeId) : Bool := l.all fun t => match P.underlying t with
  | some .bool | some (.int _) | some .string => true
  | some (.slice e) => l.contains e && decide (0 < P.cellsOf e)
  | some (.struct fs) => (fs.toList.all fun f => l.contains f.type) && offsOk P fs.toList 0 (P.cellsOf t)
  | _ => false
section
variable {H : Type} {enc : TypeId × Value → H} {P : Program} {w : World} {base : Nat} {spare : Nat → Bool} {held : Bool}
theorem add_spot {a : Addr} (h : a.spot = none) (n : Nat) : a.add n = ⟨a.block, a.off + n, none⟩ := by
  unfold Addr.add; split
  · rename_i e; subst e; cases a; simp_all
  · rfl
theorem mapM_get' {α β : Type} {f : α → Option β} : ∀ {l : List α} {r : List β}, l.mapM f = some r → r.length = l.length ∧ ∀ i (h : i < l.length) (h' : i < r.length), f l[i] = some r[i]
  | [], r, h => by grind
  | x :: l, r, h => by
    rw [List.mapM_cons] at h
    cases hx : f x with
    | none => simp [hx] at h
    | some y =>
      cases hl : l.mapM f with
      | none => simp [hx, hl] at h
      | some ys =>
        simp [hx, hl] at h
        subst h
        obtain ⟨h1, h2⟩ := mapM_get' hl
        grind
theorem cells_get {a : Addr} {n : Nat} {cs : List Value} (h : w.cells? base a n = some cs) : cs.length = n ∧ ∀ j (hj : j < cs.length), w.cell? (a.add j) = some cs[j] := by
  unfold World.cells? at h
  split at h
  · obtain ⟨h1, h2⟩ := mapM_get' h
    grind
  · cases h
theorem spot_of_cell {a : Addr} {v : Value} (h : w.cell? a = some v) : a.spot = none := by
  unfold World.cell? at h
  split at h
  all_goals simp_all
theorem RepL.struct {M : Mem} (pl : TypeId → Prop) {tot : Nat} : ∀ (fs : List Field) (ds : List (DataW H)) (s : Nat) (cs : List Value), offsOk P fs s tot = true → cs.length = tot → ds.length = fs.length →
    (∀ i (h : i < fs.length) (h' : i < ds.length), RepL M (flatD ds[i]) ((cs.drop fs[i].offset).take (P.cellsOf fs[i].type))) → RepL M (flatA ds) (cs.drop s)
  | [], [], s, cs, ho, hl, _, _ => by grind [offsOk,flatA,RepL.nil]
  | [], d :: ds, s, cs, _, _, h, _ => by simp at h
  | f :: fs, [], s, cs, _, _, h, _ => by simp at h
  | f :: fs, d :: ds, s, cs, ho, hl, hd, hf => by
    simp only [offsOk, Bool.and_eq_true, beq_iff_eq] at ho
    have h0 := hf 0 (by simp) (by simp)
    simp only [List.getElem_cons_zero, ho.1] at h0
    have hr := RepL.struct pl fs ds (s + P.cellsOf f.type) cs ho.2 hl (by simpa using hd) (fun i h h' => by
      have := hf (i + 1) (by simpa using h) (by simpa using h')
      simpa using this)
    have e : cs.drop s = (cs.drop s).take (P.cellsOf f.type) ++ cs.drop (s + P.cellsOf f.type) := by rw [← List.drop_drop, List.take_append_drop]
    rw [e]
    exact h0.append hr
theorem trod_flat {l : List TypeId} (hpl : plainT P l = true) : ∀ (fuel : Nat) (t : TypeId) (cs : List Value) (x : DataW H × List MemPlace), l.contains t = true → DataW.trod enc P w base spare held fuel t cs = some x → RepL (fullM w) (flatD x.1) cs := by
  intro fuel
  induction fuel with
  | zero => intro t cs x _ h; simp [DataW.trod] at h
  | succ n ih =>
    intro t cs x ht h
    have hp := hpl
    simp only [plainT, List.all_eq_true] at hp
    have hp := hp t (List.contains_iff_mem.1 ht)
    split at hp
    · rename_i hu
      obtain ⟨b, rfl, rfl⟩ := DataW.trod_bool hu h
      exact RepL.cons (.bool b) (RepL.nil _)
    · rename_i k hu
      obtain ⟨m, rfl, rfl, _⟩ := DataW.trod_int hu h
      exact RepL.cons (.int k m) (RepL.nil _)
    · rename_i hu
      obtain ⟨s, rfl, rfl, _⟩ := DataW.trod_string hu h
      refine RepL.cons ?_ (RepL.nil _)
      have := Rep.str (M := fullM w) s.data.toList
      exact this
    · rename_i e hu
      rw [Bool.and_eq_true, decide_eq_true_eq] at hp
      rcases DataW.trod_slice hu h with ⟨rfl, rfl⟩ | ⟨a, len, cap, elems, rest, m, hm, rfl, rfl, _, hlc, _, hel, hget, _⟩
      · exact RepL.cons .slnil (RepL.nil _)
      · have hm' : n = m := by omega
        subst hm'
        refine RepL.cons ?_ (RepL.nil _)
        have hrow : ∀ i (hi : i < elems.length), ∃ cs', w.cells? base (a.add (i * P.cellsOf e)) (P.cellsOf e) = some cs' ∧ RepL (fullM w) (flatD elems[i].1) cs' := fun i hi => by
          have := hget i (by omega)
          rw [List.getElem?_eq_getElem hi] at this
          obtain ⟨cs', h1, h2⟩ := Option.bind_eq_some_iff.1 this
          exact ⟨cs', h1, ih e cs' _ hp.1 h2⟩
        by_cases h0 : len = 0
        · subst h0
          have : elems = [] := List.length_eq_zero_iff.1 hel
          subst this
          exact Rep.slempty a cap
        · have hsp : a.spot = none := by
            obtain ⟨cs', h1, _⟩ := hrow 0 (by omega)
            obtain ⟨q1, q2⟩ := cells_get h1
            have := spot_of_cell (q2 0 (by omega))
            simpa [Addr.add] using this
          have ha : a = ⟨a.block, a.off, none⟩ := by cases a; simp_all
          have key : ∀ i (hi : i < elems.length), (flatD elems[i].1).length = P.cellsOf e ∧ ∀ j (hj : j < (flatD elems[i].1).length), ∃ v, w.cell? ⟨a.block, a.off + i * P.cellsOf e + j, none⟩ = some v ∧ Rep (fullM w) ((flatD elems[i].1)[j]) v := fun i hi => by
            obtain ⟨cs', h1, h2⟩ := hrow i hi
            obtain ⟨q1, q2⟩ := cells_get h1
            have e1 := h2.1
            refine ⟨by omega, fun j hj => ⟨cs'[j], ?_, h2.2 j hj (by omega)⟩⟩
            have := q2 j (by omega)
            rw [add_spot hsp, add_spot rfl] at this
            exact this
          have hfl : flatS (elems.map (·.1)) = elems.map fun y => flatD y.1 := by rw [flatS_map, List.map_map]; rfl
          show Rep (fullM w) (.sl (flatS (elems.map (·.1)))) (.slice (some a) len cap)
          rw [hfl, ha]
          have hlr : (elems.map fun y => flatD y.1).length = len := by simpa using hel
          have := Rep.sl (M := fullM w) (elems.map fun y => flatD y.1) (P.cellsOf e) a.block a.off cap (fun i j => (w.cell? ⟨a.block, a.off + i * P.cellsOf e + j, none⟩).getD Go.undef)
            (fun r hr => by
              obtain ⟨y, hy, rfl⟩ := List.mem_map.1 hr
              obtain ⟨i, hi, rfl⟩ := List.getElem_of_mem hy
              exact (key i hi).1) (by rw [hlr]; exact hlc)
            (fun i hi j hj => by
              have hi' : i < elems.length := by simpa using hi
              rw [List.getElem_map] at hj
              obtain ⟨v, hv, _⟩ := (key i hi').2 j hj
              show w.cell? _ = _
              rw [hv]; rfl)
            (fun i hi j hj => by
              have hi' : i < elems.length := by simpa using hi
              have hj' : j < (flatD elems[i].1).length := by simpa using hj
              obtain ⟨v, hv, hr⟩ := (key i hi').2 j hj'
              simp only [hv, Option.getD_some, List.getElem_map]
              exact hr)
          rw [hlr] at this
          exact this
    · rename_i fs hu
      rw [Bool.and_eq_true] at hp
      obtain ⟨xs, m, hm, rfl, hl, hlen, hget⟩ := DataW.trod_struct hu h
      have hm' : n = m := by omega
      subst hm'
      simp only [flatD]
      have := RepL.struct (M := fullM w) (P := P) (fun _ => True) fs.toList (xs.map (·.1)) 0 cs hp.2 hl (by simpa using hlen) (fun i h1 h2 => by
        have hf := hget i fs[i] (by simp at h1; simp [h1])
        rw [List.getElem?_eq_getElem (by simpa using h2)] at hf
        have hc := hp.1
        rw [List.all_eq_true] at hc
        have := ih _ _ _ (hc fs.toList[i] (List.getElem_mem h1)) (by simpa using hf)
        simpa using this)
      simpa using this
    · cases hp
end
end Go.Dl
