/-
  What the laws of this seat share, part 17: no statement of its own.
-/
import Derived.Test.YtihbaggjjglcbaaGreatDoorJ16
set_option linter.unusedVariables false
set_option linter.unusedSimpArgs false

section
/-
  A data-level logic, second edition: from the model's operations to instructions.
-/
set_option linter.unusedVariables false
namespace Go.Dl
open Go Go.RowKit

def dstOf (n : Nat) (o : Oper) : Option Nat := match o.dst with | some d => if d < n then some d else none | none => none
theorem dstOf_some {n d : Nat} {o : Oper} (h : dstOf n o = some d) : o.dst = some d ∧ d < n := by
  unfold dstOf at h
  split at h
  · split at h <;> cases h
    exact ⟨by assumption, by assumption⟩
  · cases h

section
variable (P : Program) (GL : List (Nat × List I)) (n : Nat) (mu : List Nat)

def cMov (o : Oper) (x : Operand) : Option Ins :=
  match dstOf n o, cO GL x with
  | some d, some ox => some (.mov d ox)
  | _, _ => none
def cNils (o : Oper) : Option Ins :=
  match dstOf n o, P.underlying o.type with
  | some d, some (.slice e) => match szT P e with | some k => some (.nils d e k) | none => none
  | _, _ => none
def cMove (o : Oper) (x : Operand) : Option Ins :=
  match x with
  | .const (.slice none 0 0) => cNils P n o
  | _ => cMov GL n o x
def cPick (o : Oper) (c x y : Operand) : Option Ins :=
  match dstOf n o, cO GL c, cO GL x, cO GL y with
  | some d, some oc, some ox, some oy => some (.pick d oc ox oy)
  | _, _, _, _ => none
def cBox (o : Oper) (x : Operand) : Option Ins :=
  match dstOf n o, cO GL x with
  | some d, some ox => some (if mu.contains d then .boxm d ox else .box d ox)
  | _, _ => none
def cAlloc (o : Oper) (t : TypeId) : Option Ins :=
  match dstOf n o, P.info? t with
  | some d, some i => match i.zero with
    | some z => match constI z with | some zi => some (.alloc d (cellsI zi)) | none => none
    | none => none
  | _, _ => none
def cLoad (o : Oper) (t : TypeId) (x : Operand) : Option Ins :=
  match dstOf n o, cO GL x, szT P t, aggT P t with
  | some d, some ox, some k, some ag => if ag || k == 1 then some (.load d ox k ag) else none
  | _, _, _, _ => none
def cStore (o : Oper) (t : TypeId) (x v : Operand) : Option Ins :=
  match o.dst, cO GL x, cO GL v, szT P t with
  | none, some ox, some ov, some k => some (match x with | .tmp s => if mu.contains s then .store ox ov k else .stfrz ox ov k | _ => .store ox ov k)
  | _, _, _, _ => none
def cFa (o : Oper) (t : TypeId) (x : Operand) (f : Nat) : Option Ins :=
  match dstOf n o, cO GL x, P.underlying t with
  | some d, some ox, some (.struct fs) => match fs[f]? with
    | some fl => match szT P fl.type with | some k => if k = 0 then none else some (.fa d ox fl.offset) | none => none
    | none => none
  | _, _, _ => none
def cIa (o : Oper) (t : TypeId) (x ix : Operand) : Option Ins :=
  match dstOf n o, cO GL x, cO GL ix, P.underlying t with
  | some d, some ox, some oi, some (.slice e) => match szT P e with | some k => some (.ia d ox oi k) | none => none
  | _, _, _, _ => none
def cIdx (o : Oper) (t : TypeId) (x ix : Operand) : Option Ins :=
  match dstOf n o, cO GL x, cO GL ix, P.underlying t with
  | some d, some ox, some oi, some .string => some (.idx d ox oi)
  | _, _, _, _ => none
def cFld (o : Oper) (t : TypeId) (x : Operand) (f : Nat) : Option Ins :=
  match dstOf n o, cO GL x, P.underlying t with
  | some d, some ox, some (.struct fs) => match fs[f]? with
    | some fl => match szT P fl.type, aggT P fl.type with | some k, some ag => if ag || k == 1 then some (.fld d ox fl.offset k ag) else none | _, _ => none
    | none => none
  | _, _, _ => none
def cAidx (o : Oper) (t : TypeId) (x ix : Operand) : Option Ins :=
  match dstOf n o, cO GL x, cO GL ix, P.underlying t with
  | some d, some ox, some oi, some (.array len e) => match szT P e, aggT P e with | some k, some ag => if ag || k == 1 then some (.aidx d ox oi k len ag) else none | _, _ => none
  | _, _, _, _ => none
def cIndex (o : Oper) (t : TypeId) (x ix : Operand) : Option Ins := match cIdx P GL n o t x ix with
  | some i => some i
  | none => cAidx P GL n o t x ix
def cIaa (o : Oper) (t : TypeId) (x ix : Operand) : Option Ins :=
  match dstOf n o, cO GL x, cO GL ix, P.underlying t with
  | some d, some ox, some oi, some (.array len e) => match szT P e with | some k => some (.iaa d ox oi k len) | none => none
  | _, _, _, _ => none
def cIndexA (o : Oper) (t : TypeId) (x ix : Operand) : Option Ins := match cIa P GL n o t x ix with
  | some i => some i
  | none => cIaa P GL n o t x ix
def cNil (o : Oper) (op : BinOp) (t : TypeId) (x y : Operand) : Option Ins :=
  match dstOf n o, cO GL x, P.underlying t with
  | some d, some ox, some dsc => match nilOf dsc y, op with
    | some q, .eql => some (.isnil d q false ox)
    | some q, .neq => some (.isnil d q true ox)
    | _, _ => none
  | _, _, _ => none
def cBin (o : Oper) (op : BinOp) (t : TypeId) (x y : Operand) : Option Ins :=
  match dstOf n o, cO GL x, cO GL y, P.underlying t with
  | some d, some ox, some oy, some (.int _) => match op with
    | .shl => some (.sh d .shl ox oy)
    | .shr => some (.sh d .shr ox oy)
    | op => some (.bin d op ox oy)
  | some d, some ox, some oy, some .string => some (.bin d op ox oy)
  | some d, some ox, some oy, some .bool => match op with
    | .eql => some (.eqb d false ox oy)
    | .neq => some (.eqb d true ox oy)
    | _ => none
  | some d, some ox, some oy, some (.struct _) => match flatT P 10000 t with
    | some ls => if P.eqGuardType P.depth t = false then (match op with | .eql => some (.eqs d false ls ox oy) | .neq => some (.eqs d true ls ox oy) | _ => none) else none
    | none => none
  | _, _, _, _ => none
def cUn (o : Oper) (op : UnOp) (x : Operand) : Option Ins :=
  match dstOf n o, cO GL x with
  | some d, some ox => some (.un d op ox)
  | _, _ => none
def cConv (o : Oper) (t t' : TypeId) (x : Operand) : Option Ins :=
  match dstOf n o, cO GL x, P.underlying t, P.underlying t' with
  | some d, some ox, some _, some (.int k) => some (.conv d k ox)
  | some d, some ox, some .string, some (.slice e) => (match P.underlying e with | some (.int .u8) => some (.bytes d ox) | _ => none)
  | some d, some ox, some (.slice e), some .string => (match P.underlying e with | some (.int .u8) => some (.ofb d ox) | _ => none)
  | _, _, _, _ => none
def cExt (o : Oper) (x : Operand) (i : Nat) : Option Ins :=
  match dstOf n o, cO GL x with
  | some d, some ox => some (.ext d ox i)
  | _, _ => none
def cFn (o : Oper) (f : FuncId) (first caps : Array Operand) : Option Ins :=
  match dstOf n o, first.toList.mapM (cO GL), caps.toList.mapM (cO GL) with
  | some d, some of, some oc => some (.mkfn d f of oc)
  | _, _, _ => none
def cBuild (o : Oper) (t : TypeId) (parts : Array (Nat × Operand)) : Option Ins :=
  match dstOf n o, P.info? t, P.underlying t with
  | some d, some i, some (.struct fs) => match i.zero, placesT P fs with
    | some z, some pl => match constI z with
      | some zi => match partsO GL (fun j => pl[j]?) (cellsI zi).length parts.toList with
        | some qs => some (.build d (cellsI zi) qs)
        | none => none
      | none => none
    | _, _ => none
  | _, _, _ => none
def cBuildA (o : Oper) (t : TypeId) (parts : Array (Nat × Operand)) : Option Ins :=
  match dstOf n o, P.info? t, P.underlying t with
  | some d, some i, some (.array _ e) => match i.zero, szT P e with
    | some z, some k => match constI z with
      | some zi => match partsO GL (fun j => some (j * k, k)) (cellsI zi).length parts.toList with
        | some qs => some (.build d (cellsI zi) qs)
        | none => none
      | none => none
    | _, _ => none
  | _, _, _ => none
def cBuildO (o : Oper) (t : TypeId) (parts : Array (Nat × Operand)) : Option Ins := match cBuild P GL n o t parts with
  | some i => some i
  | none => cBuildA P GL n o t parts
def cBsl (o : Oper) (t : TypeId) (len : Nat) (parts : Array (Nat × Operand)) : Option Ins :=
  match dstOf n o, P.underlying t, (parts.toList.map (·.2)).mapM (cO GL) with
  | some d, some (.slice e), some os => match P.info? e with
    | some i => match i.zero with
      | some z => match constI z with
        | some zi => if (cellsI zi).length = i.size ∧ 0 < i.size ∧ len * i.size ≤ 16777216 ∧ parts.toList.map (·.1) = List.range len then some (if os.isEmpty then .bsl d e i.size os else if mu.contains (d + 1000) then .bso d e i.size os else .bsn d e i.size os) else none
        | none => none
      | none => none
    | none => none
  | _, _, _ => none
def cLen (o : Oper) (t : TypeId) (x : Operand) : Option Ins :=
  match dstOf n o, cO GL x, P.underlying t with
  | some d, some ox, some .string => some (.lens d ox)
  | some d, some ox, some (.slice _) => some (.lenl d ox)
  | some d, some ox, some (.map _ _) => some (.lenm d ox)
  | _, _, _ => none
def cApp (o : Oper) (t : TypeId) (x y : Operand) : Option Ins :=
  match dstOf n o, cO GL x, cO GL y, P.underlying t with
  | some d, some ox, some oy, some (.slice e) => match P.info? e with
    | some i => match i.zero with
      | some z => if z.cells.size = i.size ∧ 0 < i.size then some (.app d e i.size i.bytes ox oy) else none
      | none => none
    | none => none
  | _, _, _, _ => none
def cMax (mx : Bool) (o : Oper) (x y : Operand) : Option Ins :=
  match dstOf n o, cO GL x, cO GL y with
  | some d, some ox, some oy => some (if mx then .max d ox oy else .min d ox oy)
  | _, _, _ => none
def dstOk (n : Nat) (o : Oper) : Bool := match o.dst with | some d => decide (d < n) | none => true
def cCall (o : Oper) (fv : Operand) (args : Array Operand) : Option Ins :=
  match args.toList.mapM (cO GL) with
  | some os => if dstOk n o && decide (n ≤ 999) then (match fv with
    | .func f => some (.call o.dst f os)
    | fv => match cO GL fv with | some of => some (.callv o.dst of os) | none => none) else none
  | none => none

def optO : Option Operand → Option (Option O)
  | none => some none
  | some x => (cO GL x).map some
def cSlc (o : Oper) (t : TypeId) (x : Operand) (lo hi : Option Operand) : Option Ins :=
  match dstOf n o, cO GL x, optO GL lo, optO GL hi, P.underlying t with
  | some d, some ox, some olo, some ohi, some (.slice e) => match szT P e with | some k => some (.slc d ox olo ohi k) | none => none
  | some d, some ox, some olo, some ohi, some .string => some (.sslc d ox olo ohi)
  | _, _, _, _, _ => none
def cSlc0 (o : Oper) (t : TypeId) (x : Operand) (lo hi mx : Option Operand) : Option Ins :=
  match dstOf n o, cO GL x, P.underlying t, lo, hi, mx with
  | some d, some ox, some (.slice e), none, some (.const (.int _ 0)), some (.const (.int _ 0)) => match szT P e with | some k => some (.slc0 d e k ox) | none => none
  | _, _, _, _, _, _ => none
def cLook (o : Oper) (t : TypeId) (x ix : Operand) (ok : Bool) : Option Ins :=
  match dstOf n o, cO GL x, cO GL ix, P.underlying t with
  | some d, some ox, some oi, some (.map k e) => match keyT P k, P.info? e with
    | some ls, some i => match i.zero with
      | some z => match constI z with | some zi => some (.lookup d ox oi zi ok ls) | none => none
      | none => none
    | _, _ => none
  | _, _, _, _ => none
def cUpd (o : Oper) (t : TypeId) (x ix y : Operand) : Option Ins :=
  match o.dst, cO GL x, cO GL ix, cO GL y, P.underlying t with
  | none, some ox, some oi, some oy, some (.map k _) => match keyT P k with | some ls => some (.mupd ox oi oy ls) | none => none
  | _, _, _, _, _ => none
def cMkmap (o : Oper) (t : TypeId) (r : Option Operand) : Option Ins :=
  match dstOf n o, r, P.underlying t with
  | some d, none, some (.map k _) => match keyT P k with | some ls => some (.mkmap d ls) | none => none
  | _, _, _ => none
def cRng (o : Oper) (t : TypeId) (x : Operand) : Option Ins :=
  match dstOf n o, cO GL x, P.underlying t with
  | some d, some ox, some (.map _ _) => some (.rng d ox)
  | _, _, _ => none
def cNxt (o : Oper) (x : Operand) : Option Ins :=
  match dstOf n o, cO GL x with
  | some d, some ox => some (.nxt d ox)
  | _, _ => none
def cEnt (o : Oper) (x : Operand) : Option Ins :=
  match dstOf n o, cO GL x with
  | some d, some ox => some (.ent d ox)
  | _, _ => none

def cBuiltin (o : Oper) (b : Builtin) (args : List Operand) (tys : List TypeId) : Option Ins :=
  match b, args, tys with
  | .len, [x], [t] => cLen P GL n o t x
  | .append, [x, y], [t, t'] => if t = t' then cApp P GL n o t x y else none
  | .max, [x, y], [_, _] => cMax GL n true o x y
  | .min, [x, y], [_, _] => cMax GL n false o x y
  | _, _, _ => none
def cAny (o : Oper) (c : Call) : Option Ins :=
  match c.callee with
  | .builtin b => cBuiltin P GL n o b c.args.toList c.argTypes.toList
  | .value fv => cCall GL n o fv c.args
  | _ => none

def compOp (o : Oper) : Option Ins :=
  match o.op with
  | .move x => cMove P GL n o x
  | .assign x => cMove P GL n o x
  | .pick c x y => cPick GL n o c x y
  | .box _ x => cBox GL n mu o x
  | .alloc t => cAlloc P n o t
  | .load t x => cLoad P GL n o t x
  | .store t x v => cStore P GL mu o t x v
  | .fieldAddr t x f => cFa P GL n o t x f
  | .indexAddr t x ix => cIndexA P GL n o t x ix
  | .index t x ix => cIndex P GL n o t x ix
  | .binOp op t x y _ => match cNil P GL n o op t x y with | some i => some i | none => cBin P GL n o op t x y
  | .unOp op _ x => cUn GL n o op x
  | .convert t t' x => cConv P GL n o t t' x
  | .extract x i => cExt GL n o x i
  | .makeFunc (.func f) first caps => cFn GL n o f first caps
  | .build t parts => cBuildO P GL n o t parts
  | .buildSlice t len parts => cBsl P GL n mu o t len parts
  | .call c => cAny P GL n o c
  | .field t x f => cFld P GL n o t x f
  | .slice t x lo hi none => cSlc P GL n o t x lo hi
  | .slice t x lo hi (some m) => cSlc0 P GL n o t x lo hi (some m)
  | .makeMap t r => cMkmap P n o t r
  | .lookup t x ix ok => cLook P GL n o t x ix ok
  | .mapUpdate t x ix y => cUpd P GL o t x ix y
  | .insert t x ix y => cUpd P GL o t x ix y
  | .range t x => cRng P GL n o t x
  | .next x false => cNxt GL n o x
  | .entry x => cEnt GL n o x
  | _ => none
end

section
variable {P : Program} {GL : List (Nat × List I)} {n : Nat} {S : Sh} {M : Mem} {μ : Place} {st : St} {a : Act} {w : World} {K : St → Prop} {Q : Exit → Act → World → Prop} {o : Oper} {mu : List Nat}

theorem snd_move (h : Rel GL n S M μ st a w) {x : Operand} {ins : Ins} (ho : o.op = .move x ∨ o.op = .assign x) (hc : cMove P GL n o x = some ins) (hs : step P GL ins st K) :
    o.wp P a w (Goal GL n S M w K) Q := by
  unfold cMove at hc
  split at hc
  · unfold cNils at hc
    split at hc
    · split at hc <;> cases hc
      rename_i hd _ _ _ _
      obtain ⟨h1, h2⟩ := dstOf_some hd
      exact snd_nils h ho h1 h2 hs
    · cases hc
  · unfold cMov at hc
    split at hc <;> cases hc
    rename_i hd hx
    obtain ⟨h1, h2⟩ := dstOf_some hd
    exact snd_mov h ho h1 h2 hx hs

theorem snd_op (h : Rel GL n S M μ st a w) {ins : Ins} (hc : compOp P GL n mu o = some ins) (hs : step P GL ins st K) : o.wp P a w (Goal GL n S M w K) Q := by
  unfold compOp at hc
  split at hc <;> rename_i ho
  · exact snd_move h (.inl ho) hc hs
  · exact snd_move h (.inr ho) hc hs
  · unfold cPick at hc
    split at hc <;> cases hc
    rename_i hd h1 h2 h3
    exact snd_pick h ho (dstOf_some hd).1 (dstOf_some hd).2 h1 h2 h3 hs
  · unfold cBox at hc
    split at hc <;> cases hc
    rename_i hd h1
    split at hs
    · exact snd_boxm h ho (dstOf_some hd).1 (dstOf_some hd).2 h1 hs
    · exact snd_box h ho (dstOf_some hd).1 (dstOf_some hd).2 h1 hs
  · unfold cAlloc at hc
    split at hc
    · split at hc
      · split at hc <;> cases hc
        rename_i hd hi _ z hz _ zi hzi
        exact snd_alloc h ho (dstOf_some hd).1 (dstOf_some hd).2 hi hz hzi hs
      · cases hc
    · cases hc
  · unfold cLoad at hc
    split at hc
    · split at hc <;> cases hc
      rename_i hd h1 h2 h3 h4
      exact snd_load h ho (dstOf_some hd).1 (dstOf_some hd).2 h1 h2 h3 (fun e => by subst e; simpa using h4) hs
    · cases hc
  · unfold cStore at hc
    split at hc
    · rename_i hd h1 h2 h3
      cases hc
      split at hs
      · split at hs
        · exact snd_store h ho hd h1 h2 h3 hs
        · exact snd_stfrz h ho hd h1 h2 h3 hs
      · exact snd_store h ho hd h1 h2 h3 hs
    · cases hc
  · unfold cFa at hc
    split at hc
    · split at hc
      · split at hc
        · split at hc <;> cases hc
          rename_i hd h1 h2 _ fl hf _ k hk hk0
          exact snd_fa h ho (dstOf_some hd).1 (dstOf_some hd).2 h1 h2 hf hk hk0 rfl hs
        · cases hc
      · cases hc
    · cases hc
  · unfold cIndexA at hc
    split at hc
    · rename_i hc0
      cases hc
      unfold cIa at hc0
      split at hc0
      · split at hc0 <;> cases hc0
        rename_i hd h1 h2 h3 _ k hk
        exact snd_ia h ho (dstOf_some hd).1 (dstOf_some hd).2 h1 h2 h3 hk hs
      · cases hc0
    · unfold cIaa at hc
      split at hc
      · split at hc <;> cases hc
        rename_i hd h1 h2 h3 _ k hk
        exact snd_iaa h ho (dstOf_some hd).1 (dstOf_some hd).2 h1 h2 h3 hk hs
      · cases hc
  · unfold cIndex at hc
    split at hc
    · rename_i hc0
      cases hc
      unfold cIdx at hc0
      split at hc0 <;> cases hc0
      rename_i hd h1 h2 h3
      exact snd_idx h ho (dstOf_some hd).1 (dstOf_some hd).2 h1 h2 h3 hs
    · unfold cAidx at hc
      split at hc
      · split at hc
        · split at hc <;> cases hc
          rename_i hd h1 h2 h3 _ _ _ _ hk ha hcond
          exact snd_aidx h ho (dstOf_some hd).1 (dstOf_some hd).2 h1 h2 h3 hk ha (fun e => by subst e; simpa using hcond) hs
        · cases hc
      · cases hc
  · split at hc
    · rename_i hc0
      cases hc
      unfold cNil at hc0
      split at hc0
      · rename_i hd h1 h2
        split at hc0 <;> cases hc0
        · rename_i hq; exact snd_isnil (neg := false) h ho (dstOf_some hd).1 (dstOf_some hd).2 h1 h2 hq hs
        · rename_i hq; exact snd_isnil (neg := true) h ho (dstOf_some hd).1 (dstOf_some hd).2 h1 h2 hq hs
      · cases hc0
    unfold cBin at hc
    split at hc
    · rename_i hd h1 h2 h3
      split at hc <;> cases hc
      · exact snd_sh h (.inl rfl) ho (dstOf_some hd).1 (dstOf_some hd).2 h1 h2 hs
      · exact snd_sh h (.inr rfl) ho (dstOf_some hd).1 (dstOf_some hd).2 h1 h2 hs
      · exact snd_bin h ho (dstOf_some hd).1 (dstOf_some hd).2 h1 h2 hs
    · cases hc; rename_i hd h1 h2 h3
      exact snd_bin h ho (dstOf_some hd).1 (dstOf_some hd).2 h1 h2 hs
    · rename_i hd h1 h2 h3
      split at hc <;> cases hc
      · exact snd_eqb (neg := false) h ho (dstOf_some hd).1 (dstOf_some hd).2 h1 h2 h3 hs
      · exact snd_eqb (neg := true) h ho (dstOf_some hd).1 (dstOf_some hd).2 h1 h2 h3 hs
    · rename_i hd h1 h2 h3
      split at hc
      · rename_i ls hf
        split at hc
        · rename_i hg
          split at hc <;> cases hc
          · exact snd_eqs (neg := false) h ho (dstOf_some hd).1 (dstOf_some hd).2 h1 h2 (aggT_of h3) hf hg hs
          · exact snd_eqs (neg := true) h ho (dstOf_some hd).1 (dstOf_some hd).2 h1 h2 (aggT_of h3) hf hg hs
        · cases hc
      · cases hc
    · cases hc
  · unfold cUn at hc
    split at hc <;> cases hc
    rename_i hd h1
    exact snd_un h ho (dstOf_some hd).1 (dstOf_some hd).2 h1 hs
  · unfold cConv at hc
    split at hc
    · rename_i hd h1 h2 h3
      cases hc
      exact snd_conv h ho (dstOf_some hd).1 (dstOf_some hd).2 h1 h2 h3 hs
    · rename_i hd h1 h2 h3
      split at hc <;> cases hc
      rename_i he
      exact snd_bytes h ho (dstOf_some hd).1 (dstOf_some hd).2 h1 h2 h3 he hs
    · rename_i hd h1 h2 h3
      split at hc <;> cases hc
      rename_i he
      exact snd_ofb h ho (dstOf_some hd).1 (dstOf_some hd).2 h1 h2 h3 he hs
    · cases hc
  · unfold cExt at hc
    split at hc <;> cases hc
    rename_i hd h1
    exact snd_ext h ho (dstOf_some hd).1 (dstOf_some hd).2 h1 hs
  · unfold cFn at hc
    split at hc <;> cases hc
    rename_i hd h1 h2
    exact snd_mkfn h ho (dstOf_some hd).1 (dstOf_some hd).2 h1 h2 hs
  · unfold cBuildO at hc
    split at hc
    · rename_i hc0
      cases hc
      unfold cBuild at hc0
      split at hc0
      · split at hc0
        · split at hc0
          · split at hc0 <;> cases hc0
            rename_i hd hi hu _ _ z pl hz hpl _ zi hzi _ qs hq
            exact snd_build h ho (dstOf_some hd).1 (dstOf_some hd).2 hi hz hzi hu hpl hq hs
          · cases hc0
        · cases hc0
      · cases hc0
    · unfold cBuildA at hc
      split at hc
      · split at hc
        · split at hc
          · split at hc <;> cases hc
            rename_i hd hi hu _ _ z k hz hk _ zi hzi _ qs hq
            exact snd_buildA h ho (dstOf_some hd).1 (dstOf_some hd).2 hi hz hzi hu hk hq hs
          · cases hc
        · cases hc
      · cases hc
  · unfold cBsl at hc
    split at hc
    · split at hc
      · split at hc
        · split at hc
          · split at hc <;> cases hc
            rename_i hd hu hos _ i hi _ z hz _ zi hzi hcond
            split at hs
            · exact snd_bsl h ho (dstOf_some hd).1 (dstOf_some hd).2 hu hi rfl hz hzi hcond.1 hcond.2.1 hcond.2.2.1 hcond.2.2.2 hos hs
            · split at hs
              · exact snd_bso h ho (dstOf_some hd).1 (dstOf_some hd).2 hu hi rfl hz hzi hcond.1 hcond.2.1 hcond.2.2.1 hcond.2.2.2 hos hs
              · exact snd_bsl h ho (dstOf_some hd).1 (dstOf_some hd).2 hu hi rfl hz hzi hcond.1 hcond.2.1 hcond.2.2.1 hcond.2.2.2 hos (step_bsn hs)
          · cases hc
        · cases hc
      · cases hc
    · cases hc
  · rename_i c
    obtain ⟨callee, args, tys⟩ := c
    unfold cAny at hc
    simp only at hc
    split at hc
    · unfold cBuiltin at hc
      split at hc
      · rename_i x t e1 e2
        obtain rfl : args = #[x] := by apply Array.ext'; exact e1
        obtain rfl : tys = #[t] := by apply Array.ext'; exact e2
        unfold cLen at hc
        split at hc <;> cases hc
        · rename_i hd h1 h2
          exact snd_lens h ho (dstOf_some hd).1 (dstOf_some hd).2 h1 h2 hs
        · rename_i hd h1 h2
          exact snd_lenl h ho (dstOf_some hd).1 (dstOf_some hd).2 h1 h2 hs
        · rename_i hd h1 h2
          exact snd_lenm h ho (dstOf_some hd).1 (dstOf_some hd).2 h1 h2 hs
      · rename_i x y t t' e1 e2
        obtain rfl : args = #[x, y] := by apply Array.ext'; exact e1
        obtain rfl : tys = #[t, t'] := by apply Array.ext'; exact e2
        split at hc
        · rename_i ht
          subst ht
          unfold cApp at hc
          split at hc
          · split at hc
            · split at hc
              · split at hc <;> cases hc
                rename_i hd h1 h2 h3 _ i hi _ z hz hcond
                exact snd_app h ho (dstOf_some hd).1 (dstOf_some hd).2 h1 h2 h3 hi hz rfl rfl hcond.1 hcond.2 hs
              · cases hc
            · cases hc
          · cases hc
        · cases hc
      · rename_i x y t t' e1 e2
        obtain rfl : args = #[x, y] := by apply Array.ext'; exact e1
        obtain rfl : tys = #[t, t'] := by apply Array.ext'; exact e2
        unfold cMax at hc
        split at hc <;> cases hc
        rename_i hd h1 h2
        exact snd_max (mx := true) h ho (dstOf_some hd).1 (dstOf_some hd).2 h1 h2 hs
      · rename_i x y t t' e1 e2
        obtain rfl : args = #[x, y] := by apply Array.ext'; exact e1
        obtain rfl : tys = #[t, t'] := by apply Array.ext'; exact e2
        unfold cMax at hc
        split at hc <;> cases hc
        rename_i hd h1 h2
        exact snd_max (mx := false) h ho (dstOf_some hd).1 (dstOf_some hd).2 h1 h2 hs
      · cases hc
    · unfold cCall at hc
      split at hc
      · rename_i os hos
        split at hc
        · rename_i hdd0
          rw [Bool.and_eq_true] at hdd0
          obtain ⟨hdd, hn9⟩ := hdd0
          have hn9 : n ≤ 999 := by simpa using hn9
          have hdst : ∀ d, o.dst = some d → d < n := fun d e => by unfold dstOk at hdd; rw [e] at hdd; simpa using hdd
          split at hc
          · cases hc
            exact snd_call h ho hdst hn9 hos hs
          · split at hc <;> cases hc
            rename_i hf
            exact snd_callv h ho hdst hn9 hf hos hs
        · cases hc
      · cases hc
    · cases hc
  · unfold cFld at hc
    split at hc
    · split at hc
      · split at hc
        · split at hc <;> cases hc
          rename_i hd h1 h2 _ fl hf _ _ k ag hk ha hcond
          exact snd_fld h ho (dstOf_some hd).1 (dstOf_some hd).2 h1 h2 hf hk ha (fun e => by subst e; simpa using hcond) hs
        · cases hc
      · cases hc
    · cases hc
  · unfold cSlc at hc
    have opt : ∀ {x : Option Operand} {y : Option O}, optO GL x = some y → x.map (cO GL) = y.map some := fun {x y} hxy => by
      cases x with
      | none => simp [optO] at hxy; subst hxy; rfl
      | some x => simp only [optO, Option.map_eq_some_iff] at hxy; obtain ⟨z, h1, rfl⟩ := hxy; simp [h1]
    split at hc
    · split at hc <;> cases hc
      rename_i hd h1 h2 h3 h4 _ k hk
      exact snd_slc h ho (dstOf_some hd).1 (dstOf_some hd).2 h1 (opt h2) (opt h3) h4 hk hs
    · cases hc
      rename_i hd h1 h2 h3 h4
      exact snd_sslc h ho (dstOf_some hd).1 (dstOf_some hd).2 h1 (opt h2) (opt h3) h4 hs
    · cases hc
  · unfold cSlc0 at hc
    split at hc
    · split at hc <;> cases hc
      rename_i hd h1 h2 hm _ k hk
      cases hm
      exact snd_slc0 h ho rfl rfl (dstOf_some hd).1 (dstOf_some hd).2 h1 h2 hk hs
    · cases hc
  · unfold cMkmap at hc
    split at hc
    · split at hc <;> cases hc
      rename_i hd h1 _ ls hk
      exact snd_mkmap h ho rfl (dstOf_some hd).1 (dstOf_some hd).2 hs
    · cases hc
  · unfold cLook at hc
    split at hc
    · split at hc
      · split at hc
        · split at hc <;> cases hc
          rename_i hd h1 h2 h3 _ _ ls i hk hi _ z hz _ zi hzi
          exact snd_lookup h ho (dstOf_some hd).1 (dstOf_some hd).2 h1 h2 h3 hk hi hz hzi hs
        · cases hc
      · cases hc
    · cases hc
  · unfold cUpd at hc
    split at hc
    · split at hc <;> cases hc
      rename_i hd h1 h2 h3 h4 _ ls hk
      exact snd_mupd h (.inl ho) hd h1 h2 h3 h4 hk hs
    · cases hc
  · unfold cUpd at hc
    split at hc
    · split at hc <;> cases hc
      rename_i hd h1 h2 h3 h4 _ ls hk
      exact snd_mupd h (.inr ho) hd h1 h2 h3 h4 hk hs
    · cases hc
  · unfold cRng at hc
    split at hc <;> cases hc
    rename_i hd h1 h2
    exact snd_rng h ho (dstOf_some hd).1 (dstOf_some hd).2 h1 h2 hs
  · unfold cNxt at hc
    split at hc <;> cases hc
    rename_i hd h1
    exact snd_nxt h ho (dstOf_some hd).1 (dstOf_some hd).2 h1 hs
  · unfold cEnt at hc
    split at hc <;> cases hc
    rename_i hd h1
    exact snd_ent h ho (dstOf_some hd).1 (dstOf_some hd).2 h1 hs
  · cases hc

end
end Go.Dl
end
