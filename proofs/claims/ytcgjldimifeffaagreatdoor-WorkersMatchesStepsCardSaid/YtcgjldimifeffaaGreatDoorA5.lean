/- A part of the proofs of WorkersExclude and WorkersMatchesSteps: A5. -/
import Derived.Test.YtcgjldimifeffaaGreatDoorA4
set_option linter.unusedVariables false
namespace Go.Dl
open Go Go.RowKit
inductive O where
  | t (n : Nat)
  | c (x : I)
  | f (f : FuncId)
  | g (g : Nat)
  deriving Inhabited
def getG : List (Nat × List I) → Nat → List I
  | [], _ => []
  | (m, d) :: r, n => if m = n then d else getG r n
def hasG : List (Nat × List I) → Nat → Bool
  | [], _ => false
  | (m, _) :: r, n => if m = n then true else hasG r n
inductive NK where
  | sl | mp | fn | pt | nf
  deriving Inhabited, DecidableEq
inductive Ins where
  | mov (d : Nat) (x : O)
  | pick (d : Nat) (c a b : O)
  | nils (d e k : Nat)
  | box (d : Nat) (x : O)
  | boxm (d : Nat) (x : O)
  | alloc (d : Nat) (zs : List I)
  | load (d : Nat) (x : O) (k : Nat) (ag : Bool)
  | store (x v : O) (k : Nat)
  | stfrz (x v : O) (k : Nat)
  | fa (d : Nat) (x : O) (off : Nat)
  | fld (d : Nat) (x : O) (off k : Nat) (ag : Bool)
  | ia (d : Nat) (s i : O) (k : Nat)
  | idx (d : Nat) (s i : O)
  | aidx (d : Nat) (x i : O) (k len : Nat) (ag : Bool)
  | bin (d : Nat) (op : BinOp) (x y : O)
  | sh (d : Nat) (op : BinOp) (x y : O)
  | eqs (d : Nat) (neg : Bool) (ls : List LK) (x y : O)
  | eqb (d : Nat) (neg : Bool) (x y : O)
  | isnil (d : Nat) (q : NK) (neg : Bool) (x : O)
  | un (d : Nat) (op : UnOp) (x : O)
  | lens (d : Nat) (x : O)
  | lenl (d : Nat) (x : O)
  | ext (d : Nat) (x : O) (i : Nat)
  | bsl (d e k : Nat) (parts : List O)
  | bsn (d e k : Nat) (parts : List O)
  | bso (d e k : Nat) (parts : List O)
  | build (d : Nat) (zs : List I) (parts : List (Nat × Nat × O))
  | mkfn (d f : Nat) (first caps : List O)
  | call (d : Option Nat) (f : Nat) (args : List O)
  | callv (d : Option Nat) (f : O) (args : List O)
  | calln (d f e k : Nat) (args : List O)
  | callo (d f : Nat) (args : List O)
  | callf (d : Option Nat) (f : Nat) (args : List O)
  | callvf (d : Option Nat) (f : O) (args : List O)
  | max (d : Nat) (x y : O)
  | min (d : Nat) (x y : O)
  | conv (d : Nat) (k : IntKind) (x : O)
  | app (d e k b : Nat) (x y : O)
  | slc (d : Nat) (x : O) (lo hi : Option O) (k : Nat)
  | slc0 (d e k : Nat) (x : O)
  | sslc (d : Nat) (x : O) (lo hi : Option O)
  | mkmap (d : Nat) (ls : List LK)
  | lookup (d : Nat) (x key : O) (zero : I) (ok : Bool) (ls : List LK)
  | mupd (x key v : O) (ls : List LK)
  | lenm (d : Nat) (x : O)
  | rng (d : Nat) (x : O)
  | nxt (d : Nat) (x : O)
  | ent (d : Nat) (x : O)
  | iaa (d : Nat) (x i : O) (k len : Nat)
  | bytes (d : Nat) (x : O)
  | ofb (d : Nat) (x : O)
  | no (d : Option Nat)
  | mkgm (d : Nat) (ls : List LK)
  | lookg (d : Nat) (x key : O) (zero : I) (ok : Bool) (ls : List LK)
  | mupdg (x key v : O) (ls : List LK)
  | ment (d : Nat) (x key : O) (zero : I) (ls : List LK) (e k : Nat)
  | ests (x stamp v : O)
  | cap (d : Nat) (x : O)
  | cpy (d : Option Nat) (x y : O) (e k : Nat)
  | clr (d : Option Nat) (x : O) (z : List I)
  | mksl (d e k b : Nat) (z : List I) (n : O)
  | slc3 (d : Nat) (x : O) (lo : Option O) (hi mx : O)
  | appz (d e k b : Nat) (x n : O) (z : List I)
  | mkif (d t : Nat) (x : O)
  | inv (d : Option Nat) (m : String) (x : O) (args : List O)
  deriving Inhabited
def Ins.dst : Ins → Option Nat
  | .mov d _ | .pick d _ _ _ | .nils d _ _ | .box d _ | .boxm d _ | .alloc d _ | .load d _ _ _ | .fa d _ _ | .fld d _ _ _ _ | .ia d _ _ _ | .idx d _ _ | .aidx d _ _ _ _ _ | .bin d _ _ _ | .sh d _ _ _ | .eqs d _ _ _ _ | .eqb d _ _ _ | .isnil d _ _ _ | .un d _ _ | .lens d _ | .lenl d _ | .ext d _ _
  | .bsl d _ _ _ | .bsn d _ _ _ | .bso d _ _ _ | .build d _ _ | .mkfn d _ _ _ | .max d _ _ | .min d _ _ | .conv d _ _ | .app d _ _ _ _ _ | .slc d _ _ _ _ | .slc0 d _ _ _ | .sslc d _ _ _ | .mkmap d _ | .lookup d _ _ _ _ _ | .lenm d _ | .rng d _ | .nxt d _ | .ent d _ | .iaa d _ _ _ _ | .bytes d _ | .ofb d _ | .calln d _ _ _ _ | .callo d _ _ | .mkgm d _ | .lookg d _ _ _ _ _ | .ment d _ _ _ _ _ _ | .cap d _ | .mksl d _ _ _ _ _ | .slc3 d _ _ _ _ | .appz d _ _ _ _ _ _ | .mkif d _ _ => some d
  | .call d _ _ | .callv d _ _ | .callf d _ _ | .callvf d _ _ | .no d | .cpy d _ _ _ _ | .clr d _ _ | .inv d _ _ _ => d
  | .store _ _ _ | .stfrz _ _ _ | .mupd _ _ _ _ | .mupdg _ _ _ _ | .ests _ _ _ => none
structure GI where
  gd : Option (Nat × Bool)
  ins : Ins
def br (b : Bool) (A C : Prop) : Prop := (b = true → A) ∧ (b = false → C)
@[congr] theorem br_congr {b b' : Bool} {A C : Prop} (h : b = b') : br b A C = br b' A C := by rw [h]
theorem br_true (A C : Prop) : br true A C = A := by simp [br]
theorem br_false (A C : Prop) : br false A C = C := by simp [br]
theorem br_intro {b : Bool} {A C : Prop} (h : b = true → A) (k : b = false → C) : br b A C := ⟨h, k⟩
def opv (GL : List (Nat × List I)) (st : St) : O → D
  | .t n => getE st.env n
  | .c x => .i x
  | .f k => .i (.fn k [] [])
  | .g k => .i (.elt (getG GL k) 0)
def cellsD : D → List D
  | .i (.agg cs) => cs.map .i
  | x => [x]
def oneD : D → Bool
  | .any => false
  | .i x => x.one
  | .tup _ => false
  | _ => true
def pk (ag : Bool) (cs : List I) (off k : Nat) : I := if ag then .agg ((cs.drop off).take k) else cs.getD off .undef
def pkD (ag : Bool) (cs : List D) (off k : Nat) : D := if ag then .i (.agg (((cs.drop off).take k).map unI)) else cs.getD off .any
def setL {α : Type} (cs : List α) (off : Nat) (vs : List α) : List α := cs.take off ++ vs ++ cs.drop (off + vs.length)
def fillI : List I → List (Nat × List I) → List I
  | zs, [] => zs
  | zs, (off, cs) :: r => fillI (setL zs off cs) r
def eqI : LK → I → I → Option Bool
  | .b, .bool a, .bool b => some (a == b)
  | .i q, .int k a, .int k' b => if k = q ∧ k' = q then some (a == b) else none
  | .s, .str a, .str b => some (a == b)
  | _, _, _ => none
def eqL : List LK → List I → List I → Option Bool
  | [], [], [] => some true
  | l :: ls, x :: xs, y :: ys => match eqI l x y, eqL ls xs ys with
    | some a, some b => some (a && b)
    | _, _ => none
  | _, _, _ => none
def binOk (op : BinOp) : I → I → Prop
  | .int k _, .int k' b => k = k' ∧ match op with
    | .add | .sub | .mul | .eql | .neq | .lss | .leq | .gtr | .geq | .and | .or | .xor | .andNot => True
    | .quo | .rem => b ≠ 0
    | _ => False
  | .str a, .str b => match op with
    | .add => a.length + b.length ≤ 9223372036854775807
    | .eql | .neq | .lss | .leq | .gtr | .geq => True
    | _ => False
  | _, _ => False
def bitsV (op : BinOp) (k : IntKind) (a b : Int) : I :=
  let x := BitVec.ofInt k.bits a
  let y := BitVec.ofInt k.bits b
  match op with
  | .and => .int k (k.wrap (x &&& y).toNat)
  | .or => .int k (k.wrap (x ||| y).toNat)
  | .xor => .int k (k.wrap (x ^^^ y).toNat)
  | .andNot => .int k (k.wrap (x &&& ~~~y).toNat)
  | _ => .undef
def binV (op : BinOp) : I → I → I
  | .int k a, .int _ b => match op with
    | .add => .int k (k.wrap (a + b))
    | .sub => .int k (k.wrap (a - b))
    | .mul => .int k (k.wrap (a * b))
    | .quo => .int k (k.wrap (a.tdiv b))
    | .rem => .int k (a.tmod b)
    | .eql => .bool (a == b)
    | .neq => .bool (a != b)
    | .lss => .bool (a < b)
    | .leq => .bool (a ≤ b)
    | .gtr => .bool (a > b)
    | .geq => .bool (a ≥ b)
    | op => bitsV op k a b
  | .str a, .str b => match op with
    | .add => .str (a ++ b)
    | .eql => .bool (a == b)
    | .neq => .bool (!(a == b))
    | .lss => .bool (Op.bytesLess a b)
    | .leq => .bool (Op.bytesLess a b || a == b)
    | .gtr => .bool (!(Op.bytesLess a b || a == b))
    | .geq => .bool (!Op.bytesLess a b)
    | _ => .undef
  | _, _ => .undef
def shV (op : BinOp) (k : IntKind) (a b : Int) : I := match op with
  | .shl => .int k (k.wrap (a * 2 ^ (Nat.min b.toNat k.bits)))
  | .shr => .int k (a.fdiv (2 ^ (Nat.min b.toNat k.bits)))
  | _ => .undef
def mget (es : List (I × I)) (key : I) : Option I := (es.find? fun e => keyI e.1 == keyI key).map (·.2)
def mput : List (I × I) → I → I → List (I × I)
  | [], key, v => [(key, v)]
  | e :: r, key, v => if keyI e.1 == keyI key then (key, v) :: r else e :: mput r key v
def mlook (es : List (I × I)) (key zero : I) (ok : Bool) : I := if ok then .tup [(mget es key).getD zero, .bool (mget es key).isSome] else (mget es key).getD zero
def flatI : I → Bool
  | .bool _ | .int _ _ | .str _ | .nilp | .nilfn | .nilmap | .nilif | .nilsl | .tptr .. => true
  | .agg cs => cs.all flat1
  | .tup cs => cs.all flat2
  | _ => false
where
  flat1 : I → Bool
    | .bool _ | .int _ _ | .str _ | .nilp | .nilfn | .nilmap | .nilif | .nilsl | .tptr .. => true
    | _ => false
  flat2 : I → Bool
    | .bool _ | .int _ _ | .str _ | .nilp | .nilfn | .nilmap | .nilif | .nilsl | .tptr .. => true
    | .agg cs => cs.all flat1
    | _ => false
def inM (b : Option Blk) : List Nat := match b with | some (.cells cs) => cs.flatMap D.nms | some (.lp _ _ cs) => cs.flatMap D.nms | some (.gmap _ _ es) => es.flatMap (fun e => e.2.2.nms) | _ => []
def deepN (sto : List (Nat × Blk)) (l : List Nat) : List Nat := l.flatMap fun nm => inM (getS sto nm) ++ [nm]
def frzX (v : D) (st : St) : St := frzNs (deepN st.sto v.nms) st
def toCp : D → Option Cp
  | .any => some .any
  | .i x => some (.i x)
  | .ref r => some (.ref r)
  | .fn _ _ _ => none
  | .tup _ => none
def iCp : Cp → Bool
  | .i _ => true
  | _ => false
def unC : Cp → I
  | .i x => x
  | _ => .undef
def fnD (f : FuncId) (first caps : List Cp) : D := if first.all iCp && caps.all iCp then .i (.fn f (first.map unC) (caps.map unC)) else .fn f first caps
def putO (st : St) (d : Option Nat) (y : D) : St := match d with | some s => st.put s y | none => st
section
variable (P : Program) (GL : List (Nat × List I))
def subS : List (Nat × Blk) → List (Nat × Blk) → Prop
  | [], _ => True
  | (m, b) :: r, s => getS s m = some b ∧ subS r s
def inS (l : List (Nat × Blk)) (ns : List Nat) : Bool := ns.all fun nm => (getS l nm).isSome
def clS (l : List (Nat × Blk)) : List (Nat × Blk) → Bool
  | [] => true
  | (_, b) :: r => inS l b.nms && clS l r
def nodupB : List Nat → Bool
  | [] => true
  | x :: r => !(r.contains x) && nodupB r
def subE : List (Nat × D) → Env → Prop
  | [], _ => True
  | (m, d) :: r, e => getE e m = d ∧ subE r e
def clE (l : List (Nat × Blk)) : List (Nat × D) → Bool
  | [] => true
  | (_, d) :: r => inS l d.nms && clE l r
def Sub (s t : St) : Prop := match s.env with
  | .l es => subE es t.env ∧ subS s.sto t.sto ∧ clE s.sto es = true ∧ clS s.sto s.sto = true
  | _ => False
def callT (f : FuncId) (ds : List D) (st : St) (d : Option Nat) (K : St → Prop) : Prop :=
  ∃ sto mv R, MC P GL f ds sto mv R ∧ subS sto st.sto ∧ clS sto sto = true ∧ (ds.all fun x => inS sto x.nms) = true ∧ (mv.all fun m => Nat.blt m 5000 || Nat.ble 5500 m) = true ∧ ∀ r sto', R r sto' →
    (∀ nm ∈ (renS (d.getD 999) sto').map (·.1), (getS sto nm).isSome = true ∨ (getS st.sto nm = none ∧ nm < 5000)) ∧ (∀ nm ∈ sto.map (·.1), (getS sto' nm).isSome = true → ren (d.getD 999) nm = nm) ∧
    K (putO (callSt st sto sto' mv (d.getD 999)) d (renD (d.getD 999) r))
def callB1 (f : FuncId) (ds : List D) (st : St) (d : Option Nat) (K : St → Prop) : Prop :=
  ∃ R, MC P GL f ds [] [] R ∧ (ds.all fun x => inS [] x.nms) = true ∧ ∀ r sto', R r sto' → ∃ y, r = .i y ∧ flatI y = true ∧ K (putO st d (.i y))
def callY (f : FuncId) (ds : List D) (st : St) (d : Option Nat) (K : St → Prop) : Prop :=
  ∃ sto mv R, MC P GL f ds sto mv R ∧ subS sto st.sto ∧ clS sto sto = true ∧ (ds.all fun x => inS sto x.nms) = true ∧ (mv.all fun m => Nat.blt m 5000 || Nat.ble 5500 m) = true ∧ ∀ r sto', R r sto' →
    (∀ nm ∈ (renS (d.getD 999) sto').map (·.1), (getS sto nm).isSome = true ∨ (getS st.sto nm = none ∧ nm < 5000)) ∧ (∀ nm ∈ sto.map (·.1), (getS sto' nm).isSome = true → ren (d.getD 999) nm = nm) ∧
    ∃ y s', r = .i y ∧ Sub s' (callSt st sto sto' mv (d.getD 999)) ∧ K (putO s' d (.i y))
def callG (get : St → Option (FuncId × List D)) (st : St) (d : Option Nat) (K : St → Prop) : Prop :=
  ∃ l, match get (frzNs l st) with
    | some (f, ds) => callT P GL f ds (frzNs l st) d K ∨ (callB1 P GL f ds st d K ∨ callY P GL f ds (frzNs l st) d K)
    | none => False
def getC (f : FuncId) (os : List O) (st : St) : Option (FuncId × List D) := some (f, os.map (opv GL st))
def opvN (nm k : Nat) (st : St) : O → D
  | .c .undef => .ref (.sl nm k 0 0)
  | o => opv GL st o
def getN (f nm k : Nat) (os : List O) (st : St) : Option (FuncId × List D) := if (getS st.sto nm).isSome = true then some (f, os.map (opvN GL nm k st)) else none
def callnE (b : Option Blk) (d f e k : Nat) (os : List O) (st : St) (K : St → Prop) : Prop := match b with
  | none => callG P GL (getN GL f (d + 2000) k os) (st.bind (d + 2000) (.arr e k [])) (some d) K
  | some _ => False
def callO (f : FuncId) (ds : List D) (d : Nat) (st : St) (K : St → Prop) : Prop :=
  (ds.all isI) = true ∧ ∃ R, MC P GL f ds [] [] R ∧ ∀ r sto', R r sto' → (∀ nm ∈ (renS d sto').map (·.1), getS st.sto nm = none ∧ nm < 5000) ∧ K ((⟨st.env, renS d sto' ++ st.sto⟩ : St).put d (renD d r))
def getV (fv : D) (ds : List D) : Option (FuncId × List D) := match fv with
  | .i (.fn f first caps) => some (f, first.map .i ++ ds ++ caps.map .i)
  | .fn f first caps => some (f, first.map Cp.toD ++ ds ++ caps.map Cp.toD)
  | _ => none
def getCv (fo : O) (os : List O) (st : St) : Option (FuncId × List D) := getV (opv GL st fo) (os.map (opv GL st))
/-- The function that a method of a dynamic type is (a method of the type's own, its receiver no pointer). -/
def methF (t : TypeId) (m : String) : Option FuncId := match P.info? t with
  | some i => match i.methods.find? (·.name == m) with
    | some q => match q.func with
      | some (f, false) => if q.path.toList = [] ∧ Nat.blt f 1000000000 = true then (match P.underlying t with | some (.pointer _) => none | some _ => some f | none => none) else none
      | _ => none
    | none => none
  | none => none
def getIm (v : D) (m : String) (ds : List D) : Option (FuncId × List D) := match v with
  | .i (.iface t y) => (methF P t m).map fun f => (f, .i y :: ds)
  | _ => none
def getIv (m : String) (x : O) (os : List O) (st : St) : Option (FuncId × List D) := getIm P (opv GL st x) m (os.map (opv GL st))
def mkifE (v : D) (d t : Nat) (st : St) (K : St → Prop) : Prop := match v with
  | .i y => K (st.put d (.i (.iface t y)))
  | _ => False
def pickE (v : D) (d : Nat) (A C : D) (st : St) (K : St → Prop) : Prop := match v with
  | .i (.bool t) => br t (K (st.put d A)) (K (st.put d C))
  | _ => False
def nilsE (b : Option Blk) (d e k : Nat) (st : St) (K : St → Prop) : Prop := match b with
  | none => K ((st.bind d (.rows e k [])).put d (.ref (.sl d k 0 0)))
  | some _ => K (((st.frz d (.iter none [])).bind d (.rows e k [])).put d (.ref (.sl d k 0 0)))
def boxE (v : D) (d : Nat) (st : St) (K : St → Prop) : Prop := match v with
  | .i y => K (st.put d (.i (.elt (cellsI y) 0)))
  | _ => False
def newE (b : Option Blk) (d : Nat) (cs : List D) (st : St) (K : St → Prop) : Prop := match b with
  | none => cs.all oneD = true ∧ K ((st.bind d (.cells cs)).put d (.ref (.loc d 0)))
  | some _ => False
def loadB (b : Option Blk) (d off k : Nat) (ag : Bool) (st : St) (K : St → Prop) : Prop := match b with
  | some (.cells cs) => off + k ≤ cs.length ∧ (ag = true → allI ((cs.drop off).take k) = true) ∧ K (st.put d (pkD ag cs off k))
  | _ => False
def loadR (b : Option Blk) (d kk row off k : Nat) (ag : Bool) (st : St) (K : St → Prop) : Prop := match b with
  | some (.rows _ k' rs) => kk = k' ∧ row < rs.length ∧ off + k ≤ (rs.getD row []).length ∧ K (st.put d (.i (pk ag (rs.getD row []) off k)))
  | _ => False
def loadE (v : D) (d k : Nat) (ag : Bool) (st : St) (K : St → Prop) : Prop := match v with
  | .i (.elt cs off) => off + k ≤ cs.length ∧ K (st.put d (.i (pk ag cs off k)))
  | .ref (.loc nm off) => loadB (getS st.sto nm) d off k ag st K
  | .ref (.lel nm kk row off) => loadR (getS st.sto nm) d kk row off k ag st K
  | _ => False
def storeB (b : Option Blk) (nm off k : Nat) (v : D) (st : St) (K : St → Prop) : Prop := match b with
  | some (.cells cs) => (cellsD v).length = k ∧ (cellsD v).all oneD = true ∧ off + k ≤ cs.length ∧ K (st.setB nm (.cells (setL cs off (cellsD v))))
  | _ => False
def storeR (b : Option Blk) (nm kk row off k : Nat) (v : D) (st : St) (K : St → Prop) : Prop := match b with
  | some (.rows e k' rs) => kk = k' ∧ row < rs.length ∧ isI v = true ∧ (cellsI (unI v)).length = k ∧ (cellsI (unI v)).all I.one = true ∧ off + k ≤ (rs.getD row []).length ∧
      K (st.setB nm (.rows e k' (rs.set row (setL (rs.getD row []) off (cellsI (unI v))))))
  | _ => False
def storeE (x : D) (v : D) (k : Nat) (st : St) (K : St → Prop) : Prop := match x with
  | .ref (.loc nm off) => storeB (getS st.sto nm) nm off k v st K
  | .ref (.lel nm kk row off) => storeR (getS st.sto nm) nm kk row off k v st K
  | _ => False
def stfrzB (b : Option Blk) (nm off k : Nat) (v : D) (st : St) (K : St → Prop) : Prop := match b with
  | some (.cells cs) => off = 0 ∧ cs.length = k ∧ isI v = true ∧ (cellsI (unI v)).length = k ∧ (cellsI (unI v)).all I.one = true ∧ K (st.frz nm (.cells ((cellsI (unI v)).map .i)))
  | _ => False
def stfrzE (x : D) (v : D) (k : Nat) (st : St) (K : St → Prop) : Prop := match x with
  | .ref (.loc nm off) => stfrzB (getS st.sto nm) nm off k v st K
  | _ => False
def faE (v : D) (d off : Nat) (st : St) (K : St → Prop) : Prop := match v with
  | .i (.elt cs o) => K (st.put d (.i (.elt cs (o + off))))
  | .ref (.loc nm o) => K (st.put d (.ref (.loc nm (o + off))))
  | .ref (.lel nm k row o) => K (st.put d (.ref (.lel nm k row (o + off))))
  | _ => False
def fldE (v : D) (d off k : Nat) (ag : Bool) (st : St) (K : St → Prop) : Prop := match v with
  | .i (.agg cs) => off + k ≤ cs.length ∧ K (st.put d (.i (pk ag cs off k)))
  | _ => False
def iaR (b : Option Blk) (nm d k k0 lo hi : Nat) (n : Int) (st : St) (K : St → Prop) : Prop := match b with
  | some (.rows _ k' rs) => k' = k ∧ k0 = k ∧ (0 ≤ n ∧ n < ((hi - lo : Nat) : Int)) ∧ K (st.put d (.ref (.lel nm k (lo + n.toNat) 0)))
  | _ => False
def iaE (s i : D) (d k : Nat) (st : St) (K : St → Prop) : Prop := match s, i with
  | .i (.sl rows), .i (.int _ n) => (0 ≤ n ∧ n < rows.length) ∧ (rows.getD n.toNat []).length = k ∧ K (st.put d (.i (.elt (rows.getD n.toNat []) 0)))
  | .ref (.sl nm k0 lo hi), .i (.int _ n) => iaR (getS st.sto nm) nm d k k0 lo hi n st K
  | _, _ => False
def idxE (s i : D) (d : Nat) (st : St) (K : St → Prop) : Prop := match s, i with
  | .i (.str l), .i (.int _ n) => (0 ≤ n ∧ n < l.length) ∧ K (st.put d (.i (.int .u8 ((l.getD n.toNat 0).toNat : Int))))
  | _, _ => False
def aidxE (s i : D) (d k len : Nat) (ag : Bool) (st : St) (K : St → Prop) : Prop := match s, i with
  | .i (.agg cs), .i (.int _ n) => (0 ≤ n ∧ n < (len : Int)) ∧ n.toNat * k + k ≤ cs.length ∧ K (st.put d (.i (pk ag cs (n.toNat * k) k)))
  | _, _ => False
def binE (op : BinOp) (x y : D) (d : Nat) (st : St) (K : St → Prop) : Prop := match x, y with
  | .i a, .i b => binOk op a b ∧ K (st.put d (.i (binV op a b)))
  | _, _ => False
def shE (op : BinOp) (x y : D) (d : Nat) (st : St) (K : St → Prop) : Prop := match x, y with
  | .i (.int k a), .i (.int _ b) => 0 ≤ b ∧ K (st.put d (.i (shV op k a b)))
  | _, _ => False
def eqsO (r : Option Bool) (neg : Bool) (d : Nat) (st : St) (K : St → Prop) : Prop := match r with
  | some r => K (st.put d (.i (.bool (if neg then !r else r))))
  | none => False
def eqsE (neg : Bool) (ls : List LK) (x y : D) (d : Nat) (st : St) (K : St → Prop) : Prop := match x, y with
  | .i (.agg a), .i (.agg b) => eqsO (eqL ls a b) neg d st K
  | _, _ => False
def eqbE (neg : Bool) (x y : D) (d : Nat) (st : St) (K : St → Prop) : Prop := match x, y with
  | .i (.bool a), .i (.bool b) => K (st.put d (.i (.bool (if neg then !(a == b) else a == b))))
  | _, _ => False
def nilV : NK → D → Option Bool
  | .pt, .i .nilp | .fn, .i .nilfn | .mp, .i .nilmap | .sl, .i .nilsl | .nf, .i .nilif => some true
  | .pt, .i (.elt _ _) | .fn, .i (.fn _ _ _) | .mp, .i (.map _) | .sl, .i (.sl (_ :: _)) | .pt, .ref (.loc _ _) | .pt, .ref (.lel _ _ _ _) | .mp, .ref (.mp _) | .fn, .fn _ _ _ | .nf, .i (.iface _ _) => some false
  | _, _ => none
def isnilE (q : NK) (neg : Bool) (x : D) (d : Nat) (st : St) (K : St → Prop) : Prop := match nilV q x with
  | some b => K (st.put d (.i (.bool (b != neg))))
  | none => match q, x with
    | .sl, .i (.sl _) | .sl, .ref (.sl _ _ _ _) => ∀ b, K (st.put d (.i (.bool b)))
    | _, _ => False
def unE (op : UnOp) (x : D) (d : Nat) (st : St) (K : St → Prop) : Prop := match op, x with
  | .not, .i (.bool b) => K (st.put d (.i (.bool !b)))
  | .neg, .i (.int k n) => K (st.put d (.i (.int k (k.wrap (0 - n)))))
  | _, _ => False
def lensE (x : D) (d : Nat) (st : St) (K : St → Prop) : Prop := match x with
  | .i (.str s) => K (st.put d (.i (.int .i64 s.length)))
  | _ => False
def lenlE (x : D) (d : Nat) (st : St) (K : St → Prop) : Prop := match x with
  | .i (.sl rows) => K (st.put d (.i (.int .i64 rows.length)))
  | .ref (.sl _ _ lo hi) => K (st.put d (.i (.int .i64 ((hi - lo : Nat) : Int))))
  | .i .nilsl => K (st.put d (.i (.int .i64 0)))
  | _ => False
def extE (x : D) (i d : Nat) (st : St) (K : St → Prop) : Prop := match x with
  | .i (.tup vs) => i < vs.length ∧ K (st.put d (.i (vs.getD i .undef)))
  | .tup cs => i < cs.length ∧ K (st.put d (cs.getD i .any).toD)
  | _ => False
def mkfnE (f : FuncId) (first caps : Option (List Cp)) (d : Nat) (st : St) (K : St → Prop) : Prop := match first, caps with
  | some a, some b => K (st.put d (fnD f a b))
  | _, _ => False
def maxE (mx : Bool) (x y : D) (d : Nat) (st : St) (K : St → Prop) : Prop := match x, y with
  | .i (.int k a), .i (.int _ b) => K (st.put d (.i (.int k (if mx then (if b > a then b else a) else (if b < a then b else a)))))
  | _, _ => False
def convE (k : IntKind) (x : D) (d : Nat) (st : St) (K : St → Prop) : Prop := match x with
  | .i (.int _ n) => K (st.put d (.i (.int k (k.wrap n))))
  | _ => False
def appB (bl : Option Blk) (nm k0 lo hi d e k b : Nat) (rows : List (List I)) (st : St) (K : St → Prop) : Prop := match bl with
  | some (.rows e' k' rs) => (Nat.blt nm 5000 || Nat.ble 5500 nm) = true ∧ e' = e ∧ k' = k ∧ k0 = k ∧ hi ≤ rs.length ∧ (∀ r ∈ rows, r.length = k) ∧ (∀ r ∈ rows, r.all I.one = true) ∧ (hi - lo + rows.length) * b ≤ 140737488355328 ∧ hi - lo + rows.length ≤ 140737488355328 ∧
      K (((⟨.sb nm (.iter none []) st.env, sbS nm (.iter none []) st.sto⟩ : St).setB nm (.rows e k ((rs.take hi).drop lo ++ rows))).put d (.ref (.sl nm k 0 (hi - lo + rows.length))))
  | _ => False
def loV : Option D → Option Int
  | none => some 0
  | some (.i (.int _ n)) => some n
  | _ => none
def hiV (len : Int) : Option D → Option Int
  | none => some len
  | some (.i (.int _ n)) => some n
  | _ => none
def slcO (lo hi : Option Int) (top : Nat) (K : Nat → Nat → Prop) : Prop := match lo, hi with
  | some l, some h => (0 ≤ l ∧ l ≤ h ∧ h ≤ (top : Int)) ∧ K l.toNat h.toNat
  | _, _ => False
def slcR (b : Option Blk) (nm k0 lo hi d k : Nat) (l h : Option D) (st : St) (K : St → Prop) : Prop := match b with
  | some (.rows _ k' rs) => k' = k ∧ k0 = k ∧ slcO (loV l) (hiV ((hi - lo : Nat) : Int) h) (rs.length - lo) fun a c => K (st.put d (.ref (.sl nm k (lo + a) (lo + c))))
  | some (.arr _ k' rs) => k' = k ∧ k0 = k ∧ slcO (loV l) (hiV ((hi - lo : Nat) : Int) h) (rs.length - lo) fun a c => K (st.put d (.ref (.sl nm k (lo + a) (lo + c))))
  | _ => False
def slcE (x : D) (l h : Option D) (d k : Nat) (st : St) (K : St → Prop) : Prop := match x with
  | .i (.sl rows) => (∀ r ∈ rows, r.length = k) ∧ slcO (loV l) (hiV rows.length h) rows.length fun a c => K (st.put d (.i (.sl ((rows.take c).drop a))))
  | .ref (.sl nm k0 lo hi) => slcR (getS st.sto nm) nm k0 lo hi d k l h st K
  | _ => False
def slc0E (b : Option Blk) (x : D) (d e k : Nat) (st : St) (K : St → Prop) : Prop := match b, x with
  | none, .i (.sl _) => K ((st.bind d (.rows e k [])).put d (.ref (.sl d k 0 0)))
  | _, _ => False
def sslcE (x : D) (l h : Option D) (d : Nat) (st : St) (K : St → Prop) : Prop := match x with
  | .i (.str s) => slcO (loV l) (hiV s.length h) s.length fun a c => K (st.put d (.i (.str ((s.take c).drop a))))
  | _ => False
def mkmapE (b : Option Blk) (d : Nat) (ls : List LK) (st : St) (K : St → Prop) : Prop := match b with
  | none => K ((st.bind d (.map ls [])).put d (.ref (.mp d)))
  | some _ => K (((st.frz d (.iter none [])).bind d (.map ls [])).put d (.ref (.mp d)))
def lookB (b : Option Blk) (ls : List LK) (key zero : I) (ok : Bool) (d : Nat) (st : St) (K : St → Prop) : Prop := match b with
  | some (.map ls' es) => ls' = ls ∧ K (st.put d (.i (mlook es key zero ok)))
  | _ => False
def lookE (x key : D) (zero : I) (ok : Bool) (ls : List LK) (d : Nat) (st : St) (K : St → Prop) : Prop := match key with
  | .i q => fitQ ls q = true ∧ match x with
    | .i .nilmap => K (st.put d (.i (mlook [] q zero ok)))
    | .i (.map es) => (∀ e ∈ es, fitQ ls e.1 = true) ∧ K (st.put d (.i (mlook es q zero ok)))
    | .ref (.mp nm) => lookB (getS st.sto nm) ls q zero ok d st K
    | _ => False
  | _ => False
def mupdB (b : Option Blk) (nm : Nat) (ls : List LK) (key v : I) (st : St) (K : St → Prop) : Prop := match b with
  | some (.map ls' es) => ls' = ls ∧ K (st.setB nm (.map ls (mput es key v)))
  | _ => False
def mupdE (x key v : D) (ls : List LK) (st : St) (K : St → Prop) : Prop := match x, key, v with
  | .ref (.mp nm), .i q, .i u => fitQ ls q = true ∧ mupdB (getS st.sto nm) nm ls q u st K
  | _, _, _ => False
def lenmB (b : Option Blk) (d : Nat) (st : St) (K : St → Prop) : Prop := match b with
  | some (.map _ es) => K (st.put d (.i (.int .i64 es.length)))
  | _ => False
def lenmE (x : D) (d : Nat) (st : St) (K : St → Prop) : Prop := match x with
  | .i .nilmap => K (st.put d (.i (.int .i64 0)))
  | .i (.map es) => K (st.put d (.i (.int .i64 es.length)))
  | .ref (.mp nm) => lenmB (getS st.sto nm) d st K
  | _ => False
def rngE (b : Option Blk) (x : D) (d : Nat) (st : St) (K : St → Prop) : Prop := match b, x with
  | none, .i .nilmap => K ((st.bind d (.iter none [])).put d (.ref (.it d)))
  | none, .i (.map es) => K ((st.bind d (.iter none es)).put d (.ref (.it d)))
  | _, _ => False
def nxtB (b : Option Blk) (nm d : Nat) (st : St) (K : St → Prop) : Prop := match b with
  | some (.iter _ rest) => (rest = [] → K (st.put d (.i (.tup [.bool false])))) ∧ ∀ i (h : i < rest.length), K ((st.setB nm (.iter (some rest[i]) (rest.eraseIdx i))).put d (.i (.tup [.bool true, (rest[i]).1, (rest[i]).2])))
  | _ => False
def nxtE (x : D) (d : Nat) (st : St) (K : St → Prop) : Prop := match x with
  | .ref (.it nm) => nxtB (getS st.sto nm) nm d st K
  | _ => False
def entB (b : Option Blk) (d : Nat) (st : St) (K : St → Prop) : Prop := match b with
  | some (.iter (some c) _) => K (st.put d (.i (.tup [c.1, c.2])))
  | _ => False
def entE (x : D) (d : Nat) (st : St) (K : St → Prop) : Prop := match x with
  | .ref (.it nm) => entB (getS st.sto nm) d st K
  | _ => False
def iaaE (x i : D) (d k len : Nat) (st : St) (K : St → Prop) : Prop := match x, i with
  | .i (.elt cs o), .i (.int _ n) => (0 ≤ n ∧ n < (len : Int)) ∧ K (st.put d (.i (.elt cs (o + n.toNat * k))))
  | .ref (.loc nm o), .i (.int _ n) => (0 ≤ n ∧ n < (len : Int)) ∧ K (st.put d (.ref (.loc nm (o + n.toNat * k))))
  | .ref (.lel nm kk row o), .i (.int _ n) => (0 ≤ n ∧ n < (len : Int)) ∧ K (st.put d (.ref (.lel nm kk row (o + n.toNat * k))))
  | _, _ => False
def rowsB (s : List UInt8) : List (List I) := s.map fun b => [.int .u8 (b.toNat : Int)]
def bytesI : List (List I) → Option (List UInt8)
  | [] => some []
  | [.int .u8 n] :: r => (bytesI r).map fun l => UInt8.ofNat n.toNat :: l
  | _ => none
def ownE (b : Option Blk) (d e k : Nat) (rows : List (List I)) (st : St) (K : St → Prop) : Prop := match b with
  | none => K ((st.bind d (.rows e k rows)).put d (.ref (.sl d k 0 rows.length)))
  | some _ => False
def bytesE (x : D) (d : Nat) (st : St) (K : St → Prop) : Prop := match x with
  | .i (.str s) => K (st.put d (.i (.sl (rowsB s))))
  | _ => False
def ofbO (l : Option (List UInt8)) (d : Nat) (st : St) (K : St → Prop) : Prop := match l with
  | some l => K (st.put d (.i (.str l)))
  | none => False
def ofbE (x : D) (d : Nat) (st : St) (K : St → Prop) : Prop := match x with
  | .i (.sl rows) => ofbO (bytesI rows) d st K
  | _ => False
def mkgmE (b : Option Blk) (d : Nat) (ls : List LK) (st : St) (K : St → Prop) : Prop := match b with
  | none => K ((st.bind d (.gmap ls 0 [])).put d (.ref (.mp d)))
  | some _ => False
def gidx (es : List (I × Nat × D)) (q : I) : Option Nat := es.findIdx? fun e => keyI e.1 == keyI q
def gget (es : List (I × Nat × D)) (q : I) : Option D := match gidx es q with | some j => (es[j]?).map fun e => e.2.2 | none => none
def gout (ok : Bool) (r : Option D) (zero : I) (d : Nat) (st : St) (K : St → Prop) : Prop := match r with
  | some v => if ok = true then (match toCp v with | some c => K (st.put d (.tup [c, .i (.bool true)])) | none => False) else K (st.put d v)
  | none => K (st.put d (.i (if ok = true then .tup [zero, .bool false] else zero)))
def lookgB (b : Option Blk) (ls : List LK) (q zero : I) (ok : Bool) (d : Nat) (st : St) (K : St → Prop) : Prop := match b with
  | some (.gmap ls' _ es) => ls' = ls ∧ gout ok (gget es q) zero d st K
  | b => lookB b ls q zero ok d st K
def lookgE (x key : D) (zero : I) (ok : Bool) (ls : List LK) (d : Nat) (st : St) (K : St → Prop) : Prop := match x, key with
  | .ref (.mp nm), .i q => fitQ ls q = true ∧ lookgB (getS st.sto nm) ls q zero ok d st K
  | x, key => lookE x key zero ok ls d st K
def gput (ls : List LK) (clk : Nat) (es : List (I × Nat × D)) (q : I) (v : D) : Blk := match gidx es q with
  | some j => .gmap ls clk (es.modify j fun e => (q, e.2.1, v))
  | none => .gmap ls (clk + 1) (es ++ [(q, clk, v)])
def mupdgB (b : Option Blk) (nm : Nat) (ls : List LK) (q : I) (v : D) (st : St) (K : St → Prop) : Prop := match b, v with
  | some (.gmap ls' clk es), v => ls' = ls ∧ K (st.setB nm (gput ls clk es q v))
  | some (.map ls' es), .i u => ls' = ls ∧ K (st.setB nm (.map ls (mput es q u)))
  | _, _ => False
def mupdgE (x key v : D) (ls : List LK) (st : St) (K : St → Prop) : Prop := match x, key with
  | .ref (.mp nm), .i q => fitQ ls q = true ∧ mupdgB (getS st.sto nm) nm ls q v st K
  | _, _ => False
def entNm (d clk : Nat) : Nat := 7000 + 1000000 * d + clk
def mentZ (fr : Option Blk) (nm d : Nat) (ls : List LK) (clk : Nat) (es : List (I × Nat × D)) (q zero : I) (e k : Nat) (st : St) (K : St → Prop) : Prop := match zero, fr with
  | .sl [], none => K (((st.bind (entNm d clk) (.rows e k [])).setB nm (.gmap ls (clk + 1) (es ++ [(q, clk, .ref (.sl (entNm d clk) k 0 0))]))).put d (.tup [.ref (.sl (entNm d clk) k 0 0), .i (.int .i64 clk)]))
  | _, _ => False
def mentV (r : Option (I × Nat × D)) (j nm d : Nat) (ls : List LK) (clk : Nat) (es : List (I × Nat × D)) (q : I) (st : St) (K : St → Prop) : Prop := match r with
  | some en => match toCp en.2.2 with
    | some c => K ((st.setB nm (.gmap ls clk (es.modify j fun e => (q, e.2)))).put d (.tup [c, .i (.int .i64 en.2.1)]))
    | none => False
  | none => False
def mentB (b : Option Blk) (nm d : Nat) (ls : List LK) (q zero : I) (e k : Nat) (st : St) (K : St → Prop) : Prop := match b with
  | some (.gmap ls' clk es) => ls' = ls ∧ match gidx es q with
    | some j => mentV (es[j]?) j nm d ls clk es q st K
    | none => mentZ (getS st.sto (entNm d clk)) nm d ls clk es q zero e k st K
  | _ => False
def mentE (x key : D) (zero : I) (ls : List LK) (e k d : Nat) (st : St) (K : St → Prop) : Prop := match x, key with
  | .ref (.mp nm), .i q => fitQ ls q = true ∧ mentB (getS st.sto nm) nm d ls q zero e k st K
  | _, _ => False
def estsB (b : Option Blk) (nm : Nat) (s : Int) (v : D) (st : St) (K : St → Prop) : Prop := match b with
  | some (.gmap ls clk es) => (es.any fun e => (e.2.1 : Int) == s) = true ∧ K (st.setB nm (.gmap ls clk (es.map fun e => if ((e.2.1 : Int) == s) = true then (e.1, e.2.1, v) else e)))
  | _ => False
def estsE (x stamp v : D) (st : St) (K : St → Prop) : Prop := match x, stamp with
  | .ref (.mp nm), .i (.int _ s) => estsB (getS st.sto nm) nm s v st K
  | _, _ => False
def capB (b : Option Blk) (lo hi d : Nat) (st : St) (K : St → Prop) : Prop := match b with
  | some (.arr _ _ rs) => K (st.put d (.i (.int .i64 ((rs.length - lo : Nat) : Int))))
  | some (.rows _ _ _) => ∀ c : Nat, hi - lo ≤ c → K (st.put d (.i (.int .i64 (c : Int))))
  | _ => False
def capE (x : D) (d : Nat) (st : St) (K : St → Prop) : Prop := match x with
  | .ref (.sl nm _ lo hi) => capB (getS st.sto nm) lo hi d st K
  | _ => False
def allK : List (Option (List I)) → Option (List (List I))
  | [] => some []
  | some r :: rs => match allK rs with | some l => some (r :: l) | none => none
  | none :: _ => none
def srcB (b : Option Blk) (k0 lo hi : Nat) : Option (List (List I)) := match b with
  | some (.rows _ k rs) => if k = k0 ∧ hi ≤ rs.length then some ((rs.take hi).drop lo) else none
  | some (.arr _ k rs) => if k = k0 ∧ hi ≤ rs.length then allK ((rs.take hi).drop lo) else none
  | _ => none
def srcK (σ : Nat → Option Blk) (y : D) : Option (List (List I)) := match y with
  | .i (.sl rows) => some rows
  | .ref (.sl nm k0 lo hi) => srcB (σ nm) k0 lo hi
  | _ => none
def rowsOne (k : Nat) (ys : List (List I)) : Prop := (∀ r ∈ ys, r.length = k) ∧ ∀ r ∈ ys, r.all I.one = true
def srcP (σ : Nat → Option Blk) (y : D) (top : Nat) : Option (Nat × List (List I)) := match y with
  | .i (.sl rows) => some (rows.length, rows.take top)
  | .ref (.sl nm k0 lo hi) => (match srcB (σ nm) k0 lo (min hi (lo + top)) with | some r => some (hi - lo, r) | none => none)
  | _ => none
def cpyB (b : Option Blk) (nm k0 lo hi : Nat) (src : Option (Nat × List (List I))) (d : Option Nat) (e k : Nat) (st : St) (K : St → Prop) : Prop := match b, src with
  | some (.arr e' k' rs), some (len, ys) => e' = e ∧ k' = k ∧ k0 = k ∧ hi ≤ rs.length ∧ rowsOne k ys ∧
      K (putO (st.setB nm (.arr e k (setL rs lo (ys.map some)))) d (.i (.int .i64 ((min len (hi - lo) : Nat) : Int))))
  | _, _ => False
def cpyE (x y : D) (d : Option Nat) (e k : Nat) (st : St) (K : St → Prop) : Prop := match x with
  | .ref (.sl nm k0 lo hi) => cpyB (getS st.sto nm) nm k0 lo hi (srcP (getS st.sto) y (hi - lo)) d e k st K
  | _ => False
def clrB (b : Option Blk) (nm k0 lo hi : Nat) (z : List I) (d : Option Nat) (st : St) (K : St → Prop) : Prop := match b with
  | some (.rows e k rs) => k0 = k ∧ z.length = k ∧ hi ≤ rs.length ∧ K (putO (st.setB nm (.rows e k (setL rs lo (List.replicate (hi - lo) z)))) d (.i (.tup [])))
  | some (.arr e k rs) => k0 = k ∧ z.length = k ∧ hi ≤ rs.length ∧ K (putO (st.setB nm (.arr e k (setL rs lo (List.replicate (hi - lo) (some z))))) d (.i (.tup [])))
  | _ => False
def clrE (x : D) (z : List I) (d : Option Nat) (st : St) (K : St → Prop) : Prop := match x with
  | .ref (.sl nm k0 lo hi) => clrB (getS st.sto nm) nm k0 lo hi z d st K
  | _ => False
def mkslE (b : Option Blk) (x : D) (d e k bb : Nat) (z : List I) (st : St) (K : St → Prop) : Prop := match b, x with
  | none, .i (.int _ m) => 0 ≤ m ∧ m ≤ 140737488355328 ∧ (bb : Int) * m ≤ 140737488355328 ∧ K ((st.bind d (.rows e k (List.replicate m.toNat z))).put d (.ref (.sl d k 0 m.toNat)))
  | _, _ => False
def slc3L (len : Nat) (l h m : Option Int) : Prop := match l, h, m with
  | some l, some h, some m => 0 ≤ l ∧ l ≤ h ∧ h ≤ m ∧ m ≤ (len : Int)
  | _, _, _ => False
def intV : D → Option Int
  | .i (.int _ n) => some n
  | _ => none
def slc3E (x : D) (l : Option D) (h m : D) (d : Nat) (st : St) (K : St → Prop) : Prop := match x with
  | .i (.sl rows) => slc3L rows.length (loV l) (intV h) (intV m) ∧ K (st.put d .any)
  | .ref (.sl _ _ lo hi) => slc3L (hi - lo) (loV l) (intV h) (intV m) ∧ K (st.put d .any)
  | _ => False
def appA (fr : Option Blk) (e' k' : Nat) (rs : List (Option (List I))) (nm k0 lo hi d e k b : Nat) (ys : List (List I)) (st : St) (K : St → Prop) : Prop :=
  e' = e ∧ k' = k ∧ k0 = k ∧ lo ≤ hi ∧ hi ≤ rs.length ∧ rowsOne k ys ∧
    (hi + ys.length ≤ rs.length → K ((st.setB nm (.arr e k (setL rs hi (ys.map some)))).put d (.ref (.sl nm k lo (hi + ys.length))))) ∧
    (rs.length < hi + ys.length → ∃ as, allK ((rs.take hi).drop lo) = some as ∧ rowsOne k as ∧ (hi - lo + ys.length) * b ≤ 140737488355328 ∧ hi - lo + ys.length ≤ 140737488355328 ∧ fr = none ∧
      ∀ c : Nat, K ((st.bind d (.arr e k ((as ++ ys).map some ++ List.replicate c none))).put d (.ref (.sl d k 0 (hi - lo + ys.length)))))
def appS (bl : Option Blk) (fr : Option Blk) (σ : Nat → Option Blk) (nm k0 lo hi : Nat) (y : D) (d e k b : Nat) (st : St) (K : St → Prop) : Prop := match bl with
  | some (.arr e' k' rs) => (match srcK σ y with | some ys => appA fr e' k' rs nm k0 lo hi d e k b ys st K | none => False)
  | bl => (match y with | .i (.sl rows) => appB bl nm k0 lo hi d e k b rows st K | _ => False)
def appzB (b fr : Option Blk) (nm k0 lo hi d e k bb : Nat) (m : Int) (z : List I) (st : St) (K : St → Prop) : Prop := match b with
  | some (.arr e' k' rs) => 0 ≤ m ∧ m ≤ 140737488355328 ∧ m * (bb : Int) ≤ 140737488355328 ∧ appA fr e' k' rs nm k0 lo hi d e k bb (List.replicate m.toNat z) st K
  | _ => False
def appzE (x n : D) (d e k b : Nat) (z : List I) (st : St) (K : St → Prop) : Prop := match x, n with
  | .ref (.sl nm k0 lo hi), .i (.int _ m) => appzB (getS st.sto nm) (getS st.sto d) nm k0 lo hi d e k b m z st K
  | _, _ => False
def appE (x y : D) (d e k b : Nat) (st : St) (K : St → Prop) : Prop := match x with
  | .ref (.sl nm k0 lo hi) => appS (getS st.sto nm) (getS st.sto d) (getS st.sto) nm k0 lo hi y d e k b st K
  | _ => False
def oN (st : St) (os : List O) : List Nat := deepN st.sto (os.flatMap fun o => (opv GL st o).nms)
def callF1 (os : List O) (d : Option Nat) (st : St) (K : St → Prop) (f : FuncId) (ds : List D) : Prop := (os.all fun o => isI (opv GL st o)) = true ∧ ∃ y, MC P GL f ds [] [] (fun r s => r = .i y ∧ s = []) ∧ K (putO st d (.i y))
def callF2 (get : St → Option (FuncId × List D)) (os : List O) (d : Option Nat) (st : St) (K : St → Prop) : Prop := match get st with
  | some p => callF1 P GL os d st K p.1 p.2
  | none => False
def callF (get : St → Option (FuncId × List D)) (os : List O) (d : Option Nat) (st : St) (K : St → Prop) : Prop := callF2 P GL get os d (frzNs (oN GL st os) st) K
def step (ins : Ins) (st : St) (K : St → Prop) : Prop :=
  match ins with
  | .mov d x => K (st.put d (opv GL st x))
  | .pick d c a b => pickE (opv GL st c) d (opv GL st a) (opv GL st b) st K
  | .nils d e k => nilsE (getS st.sto d) d e k st K
  | .box d x => boxE (opv GL st x) d st K
  | .boxm d x => newE (getS st.sto d) d (cellsD (opv GL st x)) st K
  | .alloc d zs => newE (getS st.sto d) d (zs.map .i) st K
  | .load d x k ag => loadE (opv GL st x) d k ag st K
  | .store x v k => storeE (opv GL st x) (opv GL st v) k st K
  | .stfrz x v k => stfrzE (opv GL st x) (opv GL st v) k st K
  | .fa d x off => faE (opv GL st x) d off st K
  | .fld d x off k ag => fldE (opv GL st x) d off k ag st K
  | .ia d s i k => iaE (opv GL st s) (opv GL st i) d k st K
  | .idx d s i => idxE (opv GL st s) (opv GL st i) d st K
  | .aidx d x i k len ag => aidxE (opv GL st x) (opv GL st i) d k len ag st K
  | .bin d op x y => binE op (opv GL st x) (opv GL st y) d st K
  | .sh d op x y => shE op (opv GL st x) (opv GL st y) d st K
  | .eqs d neg ls x y => eqsE neg ls (opv GL st x) (opv GL st y) d st K
  | .eqb d neg x y => eqbE neg (opv GL st x) (opv GL st y) d st K
  | .isnil d q neg x => isnilE q neg (opv GL st x) d st K
  | .un d op x => unE op (opv GL st x) d st K
  | .lens d x => lensE (opv GL st x) d st K
  | .lenl d x => lenlE (opv GL st x) d st K
  | .ext d x i => extE (opv GL st x) i d st K
  | .bsl d e k parts => match parts with
    | [] => nilsE' (getS st.sto d) d e k st K
    | _ => (parts.all fun o => isI (opv GL st o) && ((cellsI (unI (opv GL st o))).length == k) && (cellsI (unI (opv GL st o))).all I.one) = true ∧ K (st.put d (.i (.sl (parts.map fun o => cellsI (unI (opv GL st o))))))
  | .bsn d e k ps => (!ps.isEmpty && (ps.all fun o => isI (opv GL st o) && ((cellsI (unI (opv GL st o))).length == k) && (cellsI (unI (opv GL st o))).all I.one)) = true ∧ K (st.put d (.i (.sl (ps.map fun o => cellsI (unI (opv GL st o))))))
  | .bso d e k ps => (!ps.isEmpty && (ps.all fun o => isI (opv GL st o) && ((cellsI (unI (opv GL st o))).length == k) && (cellsI (unI (opv GL st o))).all I.one)) = true ∧ ownE (getS st.sto d) d e k (ps.map fun o => cellsI (unI (opv GL st o))) st K
  | .build d zs parts => (parts.all fun p => isI (opv GL st p.2.2) && ((cellsI (unI (opv GL st p.2.2))).length == p.2.1)) = true ∧
      K (st.put d (.i (.agg (fillI zs (parts.map fun p => (p.1, cellsI (unI (opv GL st p.2.2))))))))
  | .mkfn d f first caps => mkfnE f (first.mapM fun o => toCp (opv GL st o)) (caps.mapM fun o => toCp (opv GL st o)) d st K
  | .call d f args => callG P GL (getC GL f args) st d K
  | .callv d fv args => callG P GL (getCv GL fv args) st d K
  | .calln d f e k args => callnE P GL (getS st.sto (d + 2000)) d f e k args st K
  | .callo d f args => callO P GL f (args.map (opv GL st)) d st K
  | .callf d f args => callF P GL (getC GL f args) args d st K
  | .callvf d fv args => callF P GL (getCv GL fv args) (fv :: args) d st K
  | .max d x y => maxE true (opv GL st x) (opv GL st y) d st K
  | .min d x y => maxE false (opv GL st x) (opv GL st y) d st K
  | .conv d k x => convE k (opv GL st x) d st K
  | .app d e k b x y => appE (opv GL st x) (opv GL st y) d e k b st K
  | .slc d x lo hi k => slcE (opv GL st x) (lo.map (opv GL st)) (hi.map (opv GL st)) d k st K
  | .slc0 d e k x => slc0E (getS st.sto d) (opv GL st x) d e k st K
  | .sslc d x lo hi => sslcE (opv GL st x) (lo.map (opv GL st)) (hi.map (opv GL st)) d st K
  | .mkmap d ls => mkmapE (getS st.sto d) d ls st K
  | .lookup d x key zero ok ls => lookE (opv GL st x) (opv GL st key) zero ok ls d st K
  | .mupd x key v ls => mupdE (opv GL st x) (opv GL st key) (opv GL st v) ls st K
  | .lenm d x => lenmE (opv GL st x) d st K
  | .rng d x => rngE (getS st.sto d) (opv GL st x) d st K
  | .nxt d x => nxtE (opv GL st x) d st K
  | .ent d x => entE (opv GL st x) d st K
  | .iaa d x i k len => iaaE (opv GL st x) (opv GL st i) d k len st K
  | .bytes d x => bytesE (opv GL st x) d st K
  | .ofb d x => ofbE (opv GL st x) d st K
  | .no _ => False
  | .mkgm d ls => mkgmE (getS st.sto d) d ls st K
  | .lookg d x key zero ok ls => lookgE (opv GL st x) (opv GL st key) zero ok ls d st K
  | .mupdg x key v ls => mupdgE (opv GL st x) (opv GL st key) (opv GL st v) ls st K
  | .ment d x key zero ls e k => mentE (opv GL st x) (opv GL st key) zero ls e k d st K
  | .ests x s v => estsE (opv GL st x) (opv GL st s) (opv GL st v) st K
  | .cap d x => capE (opv GL st x) d st K
  | .cpy d x y e k => cpyE (opv GL st x) (opv GL st y) d e k st K
  | .clr d x z => clrE (opv GL st x) z d st K
  | .mksl d e k b z n => mkslE (getS st.sto d) (opv GL st n) d e k b z st K
  | .appz d e k b x n z => appzE (opv GL st x) (opv GL st n) d e k b z st K
  | .slc3 d x lo hi mx => slc3E (opv GL st x) (lo.map (opv GL st)) (opv GL st hi) (opv GL st mx) d st K
  | .mkif d t x => mkifE (opv GL st x) d t st K
  | .inv d m x args => callG P GL (getIv P GL m x args) st d K
where
  nilsE' (b : Option Blk) (d e k : Nat) (st : St) (K : St → Prop) : Prop := match b with
    | none => K ((st.bind d (.rows e k [])).put d (.ref (.sl d k 0 0)))
    | some _ => False
def inMk (b : Option Blk) (off k : Nat) : List Nat := match b with | some (.cells cs) => ((cs.drop off).take k).flatMap D.nms | _ => []
def ldN (st : St) (k : Nat) : D → List Nat
  | .ref (.loc nm off) => deepN st.sto (inMk (getS st.sto nm) off k)
  | _ => []
def ovN (b : Option Blk) (st : St) (d : Nat) : List Nat := match b with
  | none => []
  | some _ => deepN st.sto [d]
def preN (ins : Ins) (st : St) : List Nat := match ins with
  | .build _ _ ps => oN GL st (ps.map (·.2.2))
  | .bsl _ _ _ ps => oN GL st ps
  | .bsn _ _ _ ps => oN GL st ps
  | .bso _ _ _ ps => oN GL st ps
  | .load _ x k true => ldN st k (opv GL st x)
  | .app _ _ _ _ x y => match opv GL st x with | .ref (.sl nm _ _ _) => (match getS st.sto nm with | some (.arr _ _ _) => [] | _ => oN GL st [y]) | _ => oN GL st [y]
  | .mupd _ q v _ => oN GL st [q, v]
  | .rng _ x | .box _ x | .slc0 _ _ _ x | .ofb _ x => oN GL st [x]
  | .stfrz _ v _ => oN GL st [v]
  | .nils d _ _ => ovN (getS st.sto d) st d
  | .mkmap d _ => ovN (getS st.sto d) st d
  | .store x v _ => match opv GL st x with | .ref (.lel _ _ _ _) => oN GL st [v] | _ => []
  | _ => []
def skipI (ins : Ins) (st : St) : St := match ins.dst with | some d => st.put d (.i .undef) | none => st
def gdE (v : D) (want : Bool) (A C : Prop) : Prop := match v with
  | .i (.bool b) => br (b == want) A C
  | .i .undef => C
  | _ => False
def ev : List GI → St → (St → Prop) → Prop
  | [], st, K => K st
  | g :: r, st, K =>
    match g.gd with
    | none => step P GL g.ins (frzNs (preN GL g.ins st) st) fun s => ev r s K
    | some (s, want) => gdE (getE st.env s) want (step P GL g.ins (frzNs (preN GL g.ins st) st) fun s => ev r s K) (ev r (skipI g.ins st) K)
end
end Go.Dl
