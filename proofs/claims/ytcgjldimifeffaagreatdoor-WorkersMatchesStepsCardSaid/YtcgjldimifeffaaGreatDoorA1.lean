/- A part of the proofs of WorkersExclude and WorkersMatchesSteps: A1. -/
import Derived.WalkKit
import Derived.TacticsIn
import Derived.OrdersIn
import Derived.RangeFuncWrites
namespace Go.Dl
open Go Go.RowKit
inductive I where
  | undef
  | bool (b : Bool)
  | int (k : IntKind) (n : Int)
  | str (s : List UInt8)
  | nilp
  | elt (cells : List I) (off : Nat)
  | sl (rows : List (List I))
  | nilfn
  | fn (f : FuncId) (first caps : List I)
  | agg (cells : List I)
  | tup (vs : List I)
  | nilmap
  | map (es : List (I × I))
  | iface (t : Nat) (x : I)
  | nilif
  | nilsl
  | tptr (b o : Nat)
  deriving Inhabited
structure Mem where
  c : Nat → Nat → Option Value
  m : Nat → Option (List MapEntry × Nat)
def Mem.le (M M' : Mem) : Prop := (∀ b o v, M.c b o = some v → M'.c b o = some v) ∧ ∀ b x, M.m b = some x → M'.m b = some x
theorem Mem.le_refl (M : Mem) : M.le M := ⟨fun _ _ _ h => h, fun _ _ h => h⟩
theorem Mem.le_trans {A B C : Mem} (h : A.le B) (k : B.le C) : A.le C := ⟨fun b o v x => k.1 b o v (h.1 b o v x), fun b x y => k.2 b x (h.2 b x y)⟩
def Mem.unk (M : Mem) (b : Nat) : Prop := (∀ o, M.c b o = none) ∧ M.m b = none
def Mem.same (M M' : Mem) (b : Nat) : Prop := (∀ o, M'.c b o = M.c b o) ∧ M'.m b = M.m b
theorem Mem.same_refl (M : Mem) (b : Nat) : M.same M b := ⟨fun _ => rfl, rfl⟩
theorem Mem.same_trans {A B C : Mem} {b : Nat} (h : A.same B b) (k : B.same C b) : A.same C b := ⟨fun o => (k.1 o).trans (h.1 o), k.2.trans h.2⟩
theorem Mem.unk_same {A B : Mem} {b : Nat} (h : A.unk b) (k : A.same B b) : B.unk b := ⟨fun o => (k.1 o).trans (h.1 o), k.2.trans h.2⟩
def Mem.Sub (M : Mem) (w : World) : Prop := (∀ b o v, M.c b o = some v → w.cell? ⟨b, o, none⟩ = some v) ∧ ∀ b x, M.m b = some x → w.heap[b]? = some (.map x.1.toArray x.2)
def bytesOf (s : List UInt8) : ByteArray := ⟨⟨s⟩⟩
def Births (xs : List MapEntry) (clk : Nat) : Prop := (xs.map (·.born)).Nodup ∧ ∀ e ∈ xs, e.born < clk
def cdFn (f : FuncId) : Fn := if Nat.blt f 1000000000 = true then .func f else .yield (f - 1000000000)
inductive Rep (M : Mem) : I → Value → Prop where
  | undef : Rep M .undef Go.undef
  | bool (b : Bool) : Rep M (.bool b) (.bool b)
  | int (k : IntKind) (n : Int) : Rep M (.int k n) (.int k n)
  | str (s : List UInt8) : Rep M (.str s) (.string (bytesOf s))
  | nilp : Rep M .nilp (.pointer none)
  | elt (cells : List I) (off b o : Nat) (v : Nat → Value) (h : ∀ j, j < cells.length → M.c b (o + j) = some (v j)) (hr : ∀ j (h : j < cells.length), Rep M (cells[j]) (v j)) :
      Rep M (.elt cells off) (.pointer (some ⟨b, o + off, none⟩))
  | slnil : Rep M (.sl []) (.slice none 0 0)
  | slempty (a : Addr) (cap : Nat) : Rep M (.sl []) (.slice (some a) 0 cap)
  | sl (rows : List (List I)) (k b o cap : Nat) (v : Nat → Nat → Value) (hk : ∀ r ∈ rows, r.length = k) (hc : rows.length ≤ cap)
      (h : ∀ i (hi : i < rows.length) j, j < rows[i].length → M.c b (o + i * k + j) = some (v i j))
      (hr : ∀ i (hi : i < rows.length) j (hj : j < rows[i].length), Rep M (rows[i][j]) (v i j)) :
      Rep M (.sl rows) (.slice (some ⟨b, o, none⟩) rows.length cap)
  | nilfn : Rep M .nilfn .nilFunc
  | fn (f : FuncId) (first caps : List I) (vf vc : Array Value) (hy : Nat.blt f 1000000000 = true ∨ caps = []) (hf : vf.size = first.length) (hc : vc.size = caps.length)
      (rf : ∀ j (h : j < first.length), Rep M (first[j]) (vf[j]'(hf ▸ h))) (rc : ∀ j (h : j < caps.length), Rep M (caps[j]) (vc[j]'(hc ▸ h))) :
      Rep M (.fn f first caps) (.func (cdFn f) vf vc)
  | agg (cs : List I) (vs : Array Value) (h : vs.size = cs.length) (hr : ∀ j (hj : j < cs.length), Rep M (cs[j]) (vs[j]'(h ▸ hj))) : Rep M (.agg cs) (.agg vs)
  | tup (cs : List I) (vs : Array Value) (h : vs.size = cs.length) (hr : ∀ j (hj : j < cs.length), Rep M (cs[j]) (vs[j]'(h ▸ hj))) : Rep M (.tup cs) (.tuple vs)
  | nilmap : Rep M .nilmap (.map none)
  | map (es : List (I × I)) (b : Nat) (xs : List MapEntry) (clk : Nat) (h : M.m b = some (xs, clk)) (hl : xs.length = es.length) (hb : Births xs clk)
      (hk : ∀ j (h : j < es.length), Rep M (es[j]).1 (xs[j]'(hl ▸ h)).key) (hv : ∀ j (h : j < es.length), Rep M (es[j]).2 (xs[j]'(hl ▸ h)).val) : Rep M (.map es) (.map (some b))
  | iface (t : Nat) (x : I) (v : Value) (h : Rep M x v) : Rep M (.iface t x) (.iface t v)
  | nilif : Rep M .nilif .nilIface
  | nilsl : Rep M .nilsl (.slice none 0 0)
  | tptr (b o : Nat) : Rep M (.tptr b o) (.pointer (some ⟨b, o, none⟩))
theorem Rep.mono {M M' : Mem} (hm : M.le M') {x : I} {v : Value} (h : Rep M x v) : Rep M' x v := by
  induction h with
  | undef => exact .undef
  | bool b => exact .bool b
  | int k n => exact .int k n
  | str s => exact .str s
  | nilp => exact .nilp
  | elt cells off b o v h _ ih => exact .elt cells off b o v (fun j hj => hm.1 _ _ _ (h j hj)) ih
  | slnil => exact .slnil
  | slempty a cap => exact .slempty a cap
  | sl rows k b o cap v hk hc h _ ih => exact .sl rows k b o cap v hk hc (fun i hi j hj => hm.1 _ _ _ (h i hi j hj)) ih
  | nilfn => exact .nilfn
  | fn f first caps vf vc hy hf hc _ _ i1 i2 => exact .fn f first caps vf vc hy hf hc i1 i2
  | agg cs vs h _ ih => exact .agg cs vs h ih
  | tup cs vs h _ ih => exact .tup cs vs h ih
  | nilmap => exact .nilmap
  | map es b xs clk h hl hb _ _ i1 i2 => exact .map es b xs clk (hm.2 _ _ h) hl hb i1 i2
  | iface t x v _ ih => exact .iface t x v ih
  | nilif => exact .nilif
  | nilsl => exact .nilsl
  | tptr b o => exact .tptr b o
def RepL (M : Mem) (xs : List I) (vs : List Value) : Prop := vs.length = xs.length ∧ ∀ j (h : j < xs.length) (h' : j < vs.length), Rep M (xs[j]) (vs[j])
theorem RepL.mono {M M' : Mem} (hm : M.le M') {xs : List I} {vs : List Value} (h : RepL M xs vs) : RepL M' xs vs :=
  ⟨h.1, fun j a b => (h.2 j a b).mono hm⟩
theorem RepL.nil (M : Mem) : RepL M [] [] := ⟨rfl, fun _ h => absurd h (by simp)⟩
theorem RepL.cons {M : Mem} {x : I} {v : Value} {xs : List I} {vs : List Value} (h : Rep M x v) (k : RepL M xs vs) : RepL M (x :: xs) (v :: vs) := by
  refine ⟨by simp [k.1], fun j a b => ?_⟩
  cases j with
  | zero => exact h
  | succ j => exact k.2 j (by simpa using a) (by simpa using b)
theorem RepL.append {M : Mem} {xs ys : List I} {vs us : List Value} (h : RepL M xs vs) (k : RepL M ys us) : RepL M (xs ++ ys) (vs ++ us) := by
  refine ⟨by simp [h.1, k.1], fun j a b => ?_⟩
  by_cases hj : j < xs.length
  · rw [List.getElem_append_left hj, List.getElem_append_left (by rw [h.1]; exact hj)]
    exact h.2 j hj _
  · have e : vs.length = xs.length := h.1
    rw [List.getElem_append_right (by omega), List.getElem_append_right (by omega)]
    have := k.2 (j - xs.length) (by simp at a; omega) (by simp at b; omega)
    grind
theorem Rep.agg' {M : Mem} {cs : List I} {vs : Array Value} (h : RepL M cs vs.toList) : Rep M (.agg cs) (.agg vs) :=
  .agg cs vs (by simpa using h.1) (fun j hj => by have := h.2 j hj (by rw [h.1]; exact hj); simpa using this)
theorem Rep.agg_inv {M : Mem} {cs : List I} {v : Value} (h : Rep M (.agg cs) v) : ∃ vs : Array Value, v = .agg vs ∧ RepL M cs vs.toList := by
  cases h with
  | agg _ vs h hr => exact ⟨vs, rfl, by simpa using h, fun j a b => by simpa using hr j a⟩
theorem Rep.tup' {M : Mem} {cs : List I} {vs : Array Value} (h : RepL M cs vs.toList) : Rep M (.tup cs) (.tuple vs) :=
  .tup cs vs (by simpa using h.1) (fun j hj => by have := h.2 j hj (by rw [h.1]; exact hj); simpa using this)
theorem Rep.tup_inv {M : Mem} {cs : List I} {v : Value} (h : Rep M (.tup cs) v) : ∃ vs : Array Value, v = .tuple vs ∧ RepL M cs vs.toList := by
  cases h with
  | tup _ vs h hr => exact ⟨vs, rfl, by simpa using h, fun j a b => by simpa using hr j a⟩
theorem Rep.fn_inv {M : Mem} {f : FuncId} {a b : List I} {v : Value} (h : Rep M (.fn f a b) v) :
    ∃ va vb : Array Value, v = .func (cdFn f) va vb ∧ (Nat.blt f 1000000000 = true ∨ b = []) ∧ RepL M a va.toList ∧ RepL M b vb.toList := by
  cases h with
  | fn _ _ _ vf vc hy hf hc rf rc => exact ⟨vf, vc, rfl, hy, ⟨by simpa using hf, fun j a b => by simpa using rf j a⟩, ⟨by simpa using hc, fun j a b => by simpa using rc j a⟩⟩
theorem Rep.fn' {M : Mem} {f : FuncId} {a b : List I} {va vb : Array Value} (hy : Nat.blt f 1000000000 = true) (ha : RepL M a va.toList) (hb : RepL M b vb.toList) : Rep M (.fn f a b) (.func (.func f) va vb) := by
  have e : Fn.func f = cdFn f := (if_pos hy).symm
  rw [e]
  exact .fn f a b va vb (.inl hy) (by simpa using ha.1) (by simpa using hb.1) (fun j hj => by have := ha.2 j hj (by rw [ha.1]; exact hj); simpa using this)
    (fun j hj => by have := hb.2 j hj (by rw [hb.1]; exact hj); simpa using this)
def I.one : I → Bool
  | .agg _ | .tup _ | .undef => false
  | _ => true
theorem Rep.oneCell {M : Mem} {x : I} {v : Value} (h : Rep M x v) (hx : x.one = true) : v.oneCell' = true := by cases h <;> simp_all [I.one, Value.oneCell']
inductive Ref where
  | loc (nm off : Nat)
  | sl (nm k lo hi : Nat)
  | lel (nm k row off : Nat)
  | mp (nm : Nat)
  | it (nm : Nat)
  deriving Inhabited
def Ref.nm : Ref → Nat
  | .loc nm _ | .sl nm _ _ _ | .lel nm _ _ _ | .mp nm | .it nm => nm
inductive Cp where
  | any
  | i (x : I)
  | ref (r : Ref)
  deriving Inhabited
inductive D where
  | any
  | i (x : I)
  | ref (r : Ref)
  | fn (f : FuncId) (first caps : List Cp)
  | tup (cs : List Cp)
  deriving Inhabited
inductive LK where
  | b | i (k : IntKind) | s | g
  deriving Inhabited, DecidableEq
inductive Atom where
  | b (b : Bool) | i (k : IntKind) (n : Int) | s (s : List UInt8)
  deriving Inhabited, DecidableEq
def cellsI : I → List I
  | .agg cs => cs
  | x => [x]
def atomI : I → Option Atom
  | .bool b => some (.b b)
  | .int k n => some (.i k n)
  | .str s => some (.s s)
  | _ => none
def keyI (x : I) : List (Option Atom) := (cellsI x).map atomI
def fitI : LK → I → Bool
  | .b, .bool _ => true
  | .i k, .int k' _ => k == k'
  | .s, .str _ => true
  | _, _ => false
def fitL : List LK → List I → Bool
  | [], [] => true
  | l :: ls, x :: xs => fitI l x && fitL ls xs
  | _, _ => false
def fitQ : List LK → I → Bool
  | .g :: ls, .agg cs => fitL ls cs
  | .g :: _, _ => false
  | _, .agg _ => false
  | ls, x => fitL ls [x]
structure LQ where
  fn : FuncId
  ps : Array Tmp
  assign : Code
  body : Code
  defers : Nat
  jump : Option Code
  deriving Inhabited
def LQ.lp (q : LQ) (tmps : Array Value) : Loop := { state := if q.jump.isNone then .ready else .done, pending := q.jump, fn := q.fn, tmps, params := q.ps, assign := q.assign, body := q.body, defers := q.defers }
inductive Blk where
  | cells (cs : List D)
  | rows (e : TypeId) (k : Nat) (rs : List (List I))
  | map (ls : List LK) (es : List (I × I))
  | iter (cur : Option (I × I)) (rest : List (I × I))
  | lp (l : Nat) (q : LQ) (cs : List D)
  | gmap (ls : List LK) (clk : Nat) (es : List (I × Nat × D))
  | arr (e : TypeId) (k : Nat) (rs : List (Option (List I)))
  deriving Inhabited
def isI : D → Bool
  | .i _ => true
  | _ => false
def unI : D → I
  | .i x => x
  | _ => .undef
def sbR (nm : Nat) (b : Blk) (r : Ref) : Cp :=
  if r.nm = nm then match r, b with
    | .loc _ off, .cells cs => .i (.elt (cs.map unI) off)
    | .sl _ k lo hi, .rows _ k' rs => if k = k' ∧ hi ≤ rs.length then .i (.sl ((rs.take hi).drop lo)) else .any
    | .lel _ k row off, .rows _ k' rs => if k = k' ∧ row < rs.length then .i (.elt (rs.getD row []) off) else .any
    | .mp _, .map _ es => .i (.map es)
    | .mp _, .gmap _ _ es => if (es.all fun e => isI e.2.2) = true then .i (.map (es.map fun e => (e.1, unI e.2.2))) else .any
    | _, _ => .any
  else .ref r
def sbC (nm : Nat) (b : Blk) : Cp → Cp
  | .ref r => sbR nm b r
  | c => c
def Cp.toD : Cp → D
  | .any => .any
  | .i x => .i x
  | .ref r => .ref r
def sbD (nm : Nat) (b : Blk) : D → D
  | .ref r => (sbR nm b r).toD
  | .fn f first caps => .fn f (first.map (sbC nm b)) (caps.map (sbC nm b))
  | .tup cs => .tup (cs.map (sbC nm b))
  | d => d
def sbB (nm : Nat) (b : Blk) : Blk → Blk
  | .cells cs => .cells (cs.map (sbD nm b))
  | .lp l q cs => .lp l q (cs.map (sbD nm b))
  | .gmap ls clk es => .gmap ls clk (es.map fun e => (e.1, e.2.1, sbD nm b e.2.2))
  | x => x
def sbS (nm : Nat) (b : Blk) : List (Nat × Blk) → List (Nat × Blk)
  | [] => []
  | (m, x) :: r => (m, sbB nm b x) :: sbS nm b r
def delS : List (Nat × Blk) → Nat → List (Nat × Blk)
  | [], _ => []
  | (m, d) :: r, n => if m = n then delS r n else (m, d) :: delS r n
inductive Env where
  | l (e : List (Nat × D))
  | put (d : Nat) (v : D) (e : Env)
  | sb (nm : Nat) (b : Blk) (e : Env)
  deriving Inhabited
structure St where
  env : Env
  sto : List (Nat × Blk)
def getL : List (Nat × D) → Nat → D
  | [], _ => .any
  | (m, d) :: r, n => if m = n then d else getL r n
def getE : Env → Nat → D
  | .l e, n => getL e n
  | .put m d r, n => if m = n then d else getE r n
  | .sb nm b r, n => sbD nm b (getE r n)
def getS : List (Nat × Blk) → Nat → Option Blk
  | [], _ => none
  | (m, d) :: r, n => if m = n then some d else getS r n
def setS : List (Nat × Blk) → Nat → Blk → List (Nat × Blk)
  | [], _, _ => []
  | (m, d) :: r, n, b => if m = n then (m, b) :: setS r n b else (m, d) :: setS r n b
abbrev Place := Nat → Value
def blockOf : Value → Option Nat
  | .pointer (some a) => some a.block
  | .slice (some a) _ cap => if cap = 0 then none else some a.block
  | .map (some b) => some b
  | _ => none
def SlAt (p : Value) (k lo hi : Nat) (v : Value) : Prop :=
  ∃ a cap, p = .slice a 0 cap ∧ lo ≤ hi ∧ hi ≤ cap ∧ ((cap = lo ∧ ∃ a', v = .slice a' 0 0) ∨ ∃ b o, a = some ⟨b, o, none⟩ ∧ v = .slice (some ⟨b, o + lo * k, none⟩) (hi - lo) (cap - lo))
def RepRef (μ : Place) (N : Nat → Prop) : Ref → Value → Prop
  | .loc nm off, v => N nm ∧ ∃ b, μ nm = .pointer (some ⟨b, 0, none⟩) ∧ v = .pointer (some ⟨b, off, none⟩)
  | .sl nm k lo hi, v => N nm ∧ SlAt (μ nm) k lo hi v
  | .lel nm k row off, v => N nm ∧ ∃ b o cap, μ nm = .slice (some ⟨b, o, none⟩) 0 cap ∧ row < cap ∧ v = .pointer (some ⟨b, o + row * k + off, none⟩)
  | .mp nm, v => N nm ∧ ∃ b, μ nm = .map (some b) ∧ v = .map (some b)
  | .it nm, v => N nm ∧ ∃ b, μ nm = .pointer (some ⟨b, 0, none⟩) ∧ v = .pointer (some ⟨b, 0, none⟩)
def RepC (M : Mem) (μ : Place) (N : Nat → Prop) : Cp → Value → Prop
  | .any, _ => True
  | .i x, v => Rep M x v
  | .ref r, v => RepRef μ N r v
def RepCs (M : Mem) (μ : Place) (N : Nat → Prop) (cs : List Cp) (vs : List Value) : Prop := vs.length = cs.length ∧ ∀ j (h : j < cs.length) (h' : j < vs.length), RepC M μ N (cs[j]) (vs[j])
def RepD (M : Mem) (μ : Place) (N : Nat → Prop) : D → Value → Prop
  | .any, _ => True
  | .i x, v => Rep M x v
  | .ref r, v => RepRef μ N r v
  | .fn f first caps, v => ∃ va vb : Array Value, v = .func (cdFn f) va vb ∧ (Nat.blt f 1000000000 = true ∨ caps = []) ∧ RepCs M μ N first va.toList ∧ RepCs M μ N caps vb.toList
  | .tup cs, v => ∃ vs : Array Value, v = .tuple vs ∧ RepCs M μ N cs vs.toList
theorem repD_i {M : Mem} {μ : Place} {N : Nat → Prop} {x : I} {v : Value} (h : Rep M x v) : RepD M μ N (.i x) v := h
theorem repD_i_inv {M : Mem} {μ : Place} {N : Nat → Prop} {x : I} {v : Value} (h : RepD M μ N (.i x) v) : Rep M x v := h
theorem RepRef.name {μ : Place} {N : Nat → Prop} {r : Ref} {v : Value} (h : RepRef μ N r v) : N r.nm := by cases r <;> exact h.1
theorem RepRef.mono {μ μ' : Place} {N N' : Nat → Prop} {r : Ref} {v : Value} (h : RepRef μ N r v) (hn : N' r.nm) (hp : μ' r.nm = μ r.nm) : RepRef μ' N' r v := by cases r <;> simp only [Ref.nm] at hn hp <;> refine ⟨hn, ?_⟩ <;> first | (rw [hp]; exact h.2)
def Cp.nms : Cp → List Nat
  | .ref r => [r.nm]
  | _ => []
def D.nms : D → List Nat
  | .ref r => [r.nm]
  | .fn _ first caps => first.flatMap Cp.nms ++ caps.flatMap Cp.nms
  | .tup cs => cs.flatMap Cp.nms
  | _ => []
theorem RepC.mono {M M' : Mem} {μ μ' : Place} {N N' : Nat → Prop} (hm : M.le M') {d : Cp} {v : Value} (h : RepC M μ N d v) (hn : ∀ n ∈ d.nms, N n → N' n ∧ μ' n = μ n) : RepC M' μ' N' d v := by
  cases d with
  | any => trivial
  | i x => exact Rep.mono hm h
  | ref r => have := hn r.nm (by simp [Cp.nms]) h.name; exact RepRef.mono h this.1 this.2
theorem RepCs.mono {M M' : Mem} {μ μ' : Place} {N N' : Nat → Prop} (hm : M.le M') {ds : List Cp} {vs : List Value} (h : RepCs M μ N ds vs) (hn : ∀ n ∈ ds.flatMap Cp.nms, N n → N' n ∧ μ' n = μ n) : RepCs M' μ' N' ds vs :=
  ⟨h.1, fun j a b => (h.2 j a b).mono hm fun n hnn => hn n (List.mem_flatMap.2 ⟨_, List.getElem_mem a, hnn⟩)⟩
theorem RepD.mono' {M M' : Mem} {μ μ' : Place} {N N' : Nat → Prop} (hm : M.le M') {d : D} {v : Value} (h : RepD M μ N d v) (hn : ∀ n ∈ d.nms, N n → N' n ∧ μ' n = μ n) : RepD M' μ' N' d v := by
  cases d with
  | any => trivial
  | i x => exact Rep.mono hm h
  | ref r => have := hn r.nm (by simp [D.nms]) (RepRef.name h); exact RepRef.mono h this.1 this.2
  | fn f first caps =>
    obtain ⟨va, vb, e, hy, h1, h2⟩ := h
    exact ⟨va, vb, e, hy, h1.mono hm (fun n a => hn n (by simp only [D.nms, List.mem_append]; exact .inl a)), h2.mono hm (fun n a => hn n (by simp only [D.nms, List.mem_append]; exact .inr a))⟩
  | tup cs =>
    obtain ⟨vs, e, h1⟩ := h
    exact ⟨vs, e, h1.mono hm fun n a => hn n a⟩
theorem RepD.mono {M M' : Mem} {μ : Place} {N N' : Nat → Prop} (hm : M.le M') (hn : ∀ n, N n → N' n) {d : D} {v : Value} (h : RepD M μ N d v) : RepD M' μ N' d v :=
  h.mono' hm fun n _ hN => ⟨hn n hN, rfl⟩
theorem RepC.name {M : Mem} {μ : Place} {N : Nat → Prop} {d : Cp} {v : Value} (h : RepC M μ N d v) : ∀ n ∈ d.nms, N n := by
  cases d with
  | ref r => intro n hn; simp [Cp.nms] at hn; subst hn; exact RepRef.name h
  | _ => intro n hn; simp [Cp.nms] at hn
theorem RepCs.name {M : Mem} {μ : Place} {N : Nat → Prop} {ds : List Cp} {vs : List Value} (h : RepCs M μ N ds vs) : ∀ n ∈ ds.flatMap Cp.nms, N n := by
  intro n hn
  obtain ⟨c, hc, hcn⟩ := List.mem_flatMap.1 hn
  obtain ⟨j, hj, rfl⟩ := List.getElem_of_mem hc
  exact (h.2 j hj (by rw [h.1]; exact hj)).name n hcn
theorem RepD.name {M : Mem} {μ : Place} {N : Nat → Prop} {d : D} {v : Value} (h : RepD M μ N d v) : ∀ n ∈ d.nms, N n := by
  cases d with
  | ref r => intro n hn; simp [D.nms] at hn; subst hn; exact RepRef.name h
  | fn f first caps =>
    obtain ⟨va, vb, e, _, h1, h2⟩ := h
    intro n hn
    simp only [D.nms, List.mem_append] at hn
    exact hn.elim (h1.name n) (h2.name n)
  | tup cs => obtain ⟨vs, e, h1⟩ := h; exact h1.name
  | _ => intro n hn; simp [D.nms] at hn
section
variable (S : Nat → Prop) (M : Mem) (μ : Place) (N : Nat → Prop) (w : World) (nm : Nat)
structure Owns (b : Nat) (o : Obj) : Prop where
  low : ¬ S b
  heap : w.heap[b]? = some o
  unk : M.unk b
def RowsAt (cur : Array Value) (o k : Nat) (rs : List (List I)) : Prop :=
  (∀ r ∈ rs, r.length = k) ∧ ∀ i (hi : i < rs.length) j (hj : j < rs[i].length), ∃ v, cur[o + i * k + j]? = some v ∧ Rep M (rs[i][j]) v
def EntsAt (xs : List MapEntry) (es : List (I × I)) : Prop :=
  xs.length = es.length ∧ ∀ j (h : j < es.length) (h' : j < xs.length), Rep M (es[j]).1 (xs[j]).key ∧ Rep M (es[j]).2 (xs[j]).val
def GEnts (xs : List MapEntry) (es : List (I × Nat × D)) : Prop :=
  xs.length = es.length ∧ ∀ j (h : j < es.length) (h' : j < xs.length), Rep M (es[j]).1 (xs[j]).key ∧ (xs[j]).born = (es[j]).2.1 ∧ RepD M μ N (es[j]).2.2 (xs[j]).val
def RowsAtO (cur : Array Value) (o k : Nat) (rs : List (Option (List I))) : Prop :=
  ∀ i r, rs[i]? = some (some r) → r.length = k ∧ ∀ j (hj : j < r.length), ∃ v, cur[o + i * k + j]? = some v ∧ Rep M (r[j]) v
def BlkOk : Blk → Prop
  | .cells cs => ∃ b vs t, μ nm = .pointer (some ⟨b, 0, none⟩) ∧ Owns S M w b (.cells vs t (0, 0)) ∧ vs.size = cs.length ∧ ∀ j (h : j < cs.length) (h' : j < vs.size), RepD M μ N (cs[j]) (vs[j])
  | .rows e k rs => ∃ a cap, μ nm = .slice a 0 cap ∧ ((cap = 0 ∧ rs = []) ∨
      ∃ b o cur, a = some ⟨b, o, none⟩ ∧ 0 < cap ∧ Owns S M w b (.cells cur e (0, 0)) ∧ cap ≤ maxLen ∧ cur.size = o + cap * k ∧ rs.length ≤ cap ∧ RowsAt M cur o k rs)
  | .map ls es => ∃ b xs clk, μ nm = .map (some b) ∧ Owns S M w b (.map xs clk) ∧ EntsAt M xs.toList es ∧ Births xs.toList clk ∧ ∀ e ∈ es, fitQ ls e.1 = true
  | .iter cur rest => ∃ b m since seen last, μ nm = .pointer (some ⟨b, 0, none⟩) ∧ Owns S M w b (.mapIter m since seen last) ∧
      ((m = none ∧ rest = [] ∧ cur = none) ∨ ∃ q xs clk, m = some q ∧ M.m q = some (xs, clk) ∧ since = clk ∧ last = clk ∧ Births xs clk ∧ EntsAt M (xs.filter fun e => !seen.contains e.born) rest ∧
        ∀ c, cur = some c → ∃ e ∈ xs, (∃ seen0 : Array Nat, seen = seen0.push e.born) ∧ Rep M c.1 e.key ∧ Rep M c.2 e.val)
  | .gmap ls clk es => ∃ b xs, μ nm = .map (some b) ∧ Owns S M w b (.map xs clk) ∧ GEnts M μ N xs.toList es ∧ Births xs.toList clk ∧ ∀ e ∈ es, fitQ ls e.1 = true
  | .arr e k rs => ∃ a, μ nm = .slice a 0 rs.length ∧ (rs = [] ∨ ∃ b o cur, a = some ⟨b, o, none⟩ ∧ rs ≠ [] ∧ Owns S M w b (.cells cur e (0, 0)) ∧ rs.length ≤ maxLen ∧ cur.size = o + rs.length * k ∧ RowsAtO M cur o k rs)
  | .lp l q cs => ∃ vs : Array Value, μ nm = .pointer (some ⟨l, 0, none⟩) ∧ Owns S M w l (.loop (q.lp vs)) ∧ vs.size = cs.length ∧ ∀ j (h : j < cs.length) (h' : j < vs.size), RepD M μ N (cs[j]) (vs[j])
end
def GlobOk (GL : List (Nat × List I)) (M : Mem) : Prop := ∀ g cs, (g, cs) ∈ GL → Rep M (.elt cs 0) (.pointer (some ⟨g, 0, none⟩))
def names (sto : List (Nat × Blk)) : Nat → Prop := fun m => (getS sto m).isSome
structure StoOk (S : Nat → Prop) (M : Mem) (μ : Place) (sto : List (Nat × Blk)) (w : World) : Prop where
  sub : M.Sub w
  blk : ∀ nm b, getS sto nm = some b → BlkOk S M μ (names sto) w nm b
  sep : ∀ nm nm' k k', nm ≠ nm' → names sto nm → names sto nm' → blockOf (μ nm) = some k → blockOf (μ nm') = some k' → k ≠ k'
  low : ∀ b, S b → b < w.heap.size
structure Sh where
  p : Nat → Prop
  q : Place
  ds : List Deferred
instance : CoeOut Sh (Nat → Prop) := ⟨Sh.p⟩
instance : CoeFun Sh (fun _ => Nat → Prop) := ⟨Sh.p⟩
def pinned (m : Nat) : Prop := 5000 ≤ m ∧ m < 5500
theorem pinned_ne {d m : Nat} (h : pinned m) (hd : d < 5000) : m ≠ d := by grind [pinned]
structure Rel (GL : List (Nat × List I)) (n : Nat) (S : Sh) (M : Mem) (μ : Place) (st : St) (a : Act) (w : World) : Prop extends StoOk S.p M μ st.sto w where
  small : n ≤ 999
  pin : ∀ m, pinned m → μ m = S.q m
  defers : a.defers = S.ds
  size : a.tmps.size = n
  env : ∀ s, RepD M μ (names st.sto) (getE st.env s) (a.tmps.getD s Go.undef)
  glob : GlobOk GL M
structure MExt (S : Nat → Prop) (M M' : Mem) : Prop where
  le : M.le M'
  old : ∀ b, S b → M.same M' b
theorem MExt.refl (S : Nat → Prop) (M : Mem) : MExt S M M := ⟨Mem.le_refl _, fun _ _ => Mem.same_refl _ _⟩
theorem MExt.trans {S : Nat → Prop} {M M' M'' : Mem} (h : MExt S M M') (k : MExt S M' M'') : MExt S M M'' :=
  ⟨Mem.le_trans h.le k.le, fun b hb => Mem.same_trans (h.old b hb) (k.old b hb)⟩
end Go.Dl
