/-Lemmas.-/
import Derived.WalkKit
import Derived.TacticsIn
import Derived.OrdersIn
import Derived.RangeFuncWrites
import Derived.Deep.DeepWitnessRowRef
import Derived.Lib.LaidIn
import Derived.Orders
import Derived.Lib.ConvBytes
import Derived.Laws.BytesString
import Derived.Maps.RangeRun
import Derived.WideKeyRuns
import Derived.MapKept
import Derived.Carry
import Derived.OpenShut
import Derived.Deep.DeepHandedRow
import Derived.ChangeArms
import Derived.Deep.Slices
import Derived.Lib.Overlaps
set_option linter.all false
def Zaa:=@if_pos
def Zab:=@Go.setRow_other
def Zac:=@if_neg
def Zad:=@if_true
def Zae:=@congrArg
def Zaf:=@Go.run_underlying
def Zag:=@if_false
def Zah:=@Go.run_newObj
def Zai:=@Go.run_program
def Zaj:=@ne_eq
def Zak:=@Go.run_storeCells_at
def Zal:=@Go.setRow_heap
def Zam:=@Go.run_firstCells_some
def Zan:=@Go.grownCap_ge
def Zao:=@Go.grownCap_le_maxLen
def Zap:=@Go.size_zeroCells
def Zaq:=@Go.run_append_grow
def Zar:=@Go.growslice_fits
def Zas:=@beq_iff_eq
def Zat:=@not_false_eq_true
def Zau:=@and_true
def Zav:=@true_and
def Zaw:=@beq_self_eq_true
def Zax:=@and_assoc
def Zay:=@or_false
def Zaz:=@Go.wpIn_mono
def Za0:=@decide_eq_true_eq
def Za1:=@decide_true
def Za2:=@decide_false
def Za3:=@not_true_eq_false
def Za4:=@decide_eq_false_iff_not
def Za5:=@decide_eq_true
def Za6:=@of_decide_eq_true
def Za7:=@Go.run_callFunc_extern
def Za8:=@eq_true
def Za9:=@eq_false
def Zba:=@decide_eq_false
def Zbb:=@of_eq_true
def Zbc:=@Go.returnsInHanded_of_row
def Zbd:=@Array.ext'
def Zbe:=@Array.getD_eq_getD_getElem?
def Zbf:=@Array.getElem?_append
def Zbg:=@Array.getElem?_append_left
def Zbh:=@Array.getElem?_eq_getElem
def Zbi:=@Array.getElem?_eq_none
def Zbj:=@Array.getElem?_eq_some_iff
def Zbk:=@Array.getElem?_mapIdx
def Zbl:=@Array.getElem?_modify
def Zbm:=@Array.getElem?_setIfInBounds
def Zbn:=@Array.getElem?_toList
def Zbo:=@Array.getElem_modify
def Zbp:=@Array.getElem_range
def Zbq:=@Array.getElem_toList
def Zbr:=@Array.length_toList
def Zbs:=@Array.mem_of_getElem?
def Zbt:=@Array.size_append
def Zbu:=@Array.toArray_toList
def Zbv:=@Array.toList_extract
def Zbw:=@Array.toList_push
def Zbx:=@Bool.and_assoc
def Zby:=@Bool.and_comm
def Zbz:=@Bool.and_eq_true
def Zb0:=@Bool.and_false
def Zb1:=@Bool.eq_false_iff
def Zb2:=@Bool.eq_iff_iff
def Zb3:=@Bool.false_and
def Zb4:=@Bool.false_eq_true
def Zb5:=@Bool.false_or
def Zb6:=@Bool.not_eq_false'
def Zb7:=@Bool.not_eq_true'
def Zb8:=@Bool.not_false
def Zb9:=@Bool.not_true
def Zca:=@Bool.or_eq_false_iff
def Zcb:=@Bool.or_eq_true
def Zcc:=@Bool.or_false
def Zcd:=@Bool.or_true
def Zce:=@Bool.true_and
def Zcf:=@Bool.true_or
def Zcg:=@Classical.byContradiction
def Zch:=@Classical.not_not
def Zci:=@Decidable.byContradiction
def Zcj:=@Int.eq_ofNat_of_zero_le
def Zck:=@Int.le_refl
def Zcl:=@Int.lt_irrefl
def Zcm:=@Int.natCast_zero
def Zcn:=@Int.not_lt
def Zco:=@Int.toNat_natCast
def Zcp:=@Int.toNat_of_nonneg
def Zcq:=@List.Pairwise.filter
def Zcr:=@List.Perm.append_left
def Zcs:=@List.Sublist.length_le
def Zct:=@List.all_cons
def Zcu:=@List.all_eq_true
def Zcv:=@List.all_map
def Zcw:=@List.all_nil
def Zcx:=@List.any_append
def Zcy:=@List.any_cons
def Zcz:=@List.any_eq_true
def Zc0:=@List.append_assoc
def Zc1:=@List.append_nil
def Zc2:=@List.cons.injEq
def Zc3:=@List.cons_append
def Zc4:=@List.contains_iff_mem
def Zc5:=@List.contains_nil
def Zc6:=@List.drop_append_of_le_length
def Zc7:=@List.drop_drop
def Zc8:=@List.drop_eq_getElem_cons
def Zc9:=@List.drop_eq_nil_iff
def Zda:=@List.drop_eq_nil_of_le
def Zdb:=@List.drop_length
def Zdc:=@List.drop_of_length_le
def Zdd:=@List.drop_zero
def Zde:=@List.eq_nil_iff_forall_not_mem
def Zdf:=@List.eq_nil_of_length_eq_zero
def Zdg:=@List.eq_of_mem_replicate
def Zdh:=@List.ext_getElem?
def Zdi:=@List.filter_append
def Zdj:=@List.filter_cons
def Zdk:=@List.filter_eq_self
def Zdl:=@List.find?_eq_none
def Zdm:=@List.find?_eq_some_iff_getElem
def Zdn:=@List.findIdx?_cons
def Zdo:=@List.findIdx?_eq_some_iff_getElem
def Zdp:=@List.flatMap_cons
def Zdq:=@List.flatMap_def
def Zdr:=@List.flatten_append
def Zds:=@List.foldl_append
def Zdt:=@List.foldl_cons
def Zdu:=@List.foldl_nil
def Zdv:=@List.forall_mem_cons
def Zdw:=@List.getD_cons_succ
def Zdx:=@List.getD_eq_getElem?_getD
def Zdy:=@List.getElem?_append_left
def Zdz:=@List.getElem?_append_right
def Zd0:=@List.getElem?_cons_succ
def Zd1:=@List.getElem?_drop
def Zd2:=@List.getElem?_eq_getElem
def Zd3:=@List.getElem?_eq_none
def Zd4:=@List.getElem?_eq_some_iff
def Zd5:=@List.getElem?_map
def Zd6:=@List.getElem?_replicate
def Zd7:=@List.getElem?_set
def Zd8:=@List.getElem?_take
def Zd9:=@List.getElem?_toArray
def Zea:=@List.getElem_append_left
def Zeb:=@List.getElem_append_right
def Zec:=@List.getElem_cons_succ
def Zed:=@List.getElem_cons_zero
def Zee:=@List.getElem_map
def Zef:=@List.getElem_mem
def Zeg:=@List.getElem_modify
def Zeh:=@List.getElem_of_mem
def Zei:=@List.getElem_range
def Zej:=@List.getElem_toArray
def Zek:=@List.getElem_zipWith
def Zel:=@List.length_append
def Zem:=@List.length_cons
def Zen:=@List.length_drop
def Zeo:=@List.length_eq_zero_iff
def Zep:=@List.length_eraseIdx
def Zeq:=@List.length_eraseIdx_of_lt
def Zer:=@List.length_filter_le
def Zes:=@List.length_map
def Zet:=@List.length_mergeSort
def Zeu:=@List.length_nil
def Zev:=@List.length_pos_iff
def Zew:=@List.length_replicate
def Zex:=@List.length_take
def Zey:=@List.mapM_cons
def Zez:=@List.map_append
def Ze0:=@List.map_congr_left
def Ze1:=@List.map_cons
def Ze2:=@List.map_drop
def Ze3:=@List.map_id
def Ze4:=@List.map_map
def Ze5:=@List.map_nil
def Ze6:=@List.map_set
def Ze7:=@List.map_take
def Ze8:=@List.map_toArray
def Ze9:=@List.mem_append
def Zfa:=@List.mem_append_left
def Zfb:=@List.mem_cons
def Zfc:=@List.mem_cons_of_mem
def Zfd:=@List.mem_cons_self
def Zfe:=@List.mem_filter
def Zff:=@List.mem_flatMap
def Zfg:=@List.mem_iff_getElem
def Zfh:=@List.mem_map
def Zfi:=@List.mem_of_find?_eq_some
def Zfj:=@List.mem_of_mem_drop
def Zfk:=@List.mem_of_mem_eraseIdx
def Zfl:=@List.mem_of_mem_take
def Zfm:=@List.mem_or_eq_of_mem_set
def Zfn:=@List.mem_range
def Zfo:=@List.mem_range'_1
def Zfp:=@List.mem_replicate
def Zfq:=@List.mem_singleton
def Zfr:=@List.mergeSort_perm
def Zfs:=@List.mergeSort_singleton
def Zft:=@List.nil_append
def Zfu:=@List.nodup_cons
def Zfv:=@List.nodup_iff_pairwise_ne
def Zfw:=@List.not_mem_nil
def Zfx:=@List.pairwise_append
def Zfy:=@List.pairwise_cons
def Zfz:=@List.pairwise_iff_getElem
def Zf0:=@List.pairwise_lt_range'
def Zf1:=@List.pairwise_map
def Zf2:=@List.pairwise_mergeSort
def Zf3:=@List.range_eq_range'
def Zf4:=@List.range_succ
def Zf5:=@List.replicate_succ
def Zf6:=@List.size_toArray
def Zf7:=@List.takeWhile_cons
def Zf8:=@List.takeWhile_cons_of_pos
def Zf9:=@List.takeWhile_sublist
def Zga:=@List.take_append_drop
def Zgb:=@List.take_append_of_le_length
def Zgc:=@List.take_left'
def Zgd:=@List.take_length
def Zge:=@List.take_nil
def Zgf:=@List.take_of_length_le
def Zgg:=@List.take_succ_cons
def Zgh:=@List.take_succ_eq_append_getElem
def Zgi:=@List.take_take
def Zgj:=@List.take_zero
def Zgk:=@List.zipIdx_cons
def Zgl:=@Nat.add_assoc
def Zgm:=@Nat.add_mul
def Zgn:=@Nat.add_zero
def Zgo:=@Nat.ble_eq
def Zgp:=@Nat.blt_eq
def Zgq:=@Nat.le_add_right
def Zgr:=@Nat.le_of_ble_eq_true
def Zgs:=@Nat.le_of_eq
def Zgt:=@Nat.le_of_not_lt
def Zgu:=@Nat.le_refl
def Zgv:=@Nat.le_succ_of_le
def Zgw:=@Nat.le_trans
def Zgx:=@Nat.lt_irrefl
def Zgy:=@Nat.lt_of_lt_of_le
def Zgz:=@Nat.lt_or_ge
def Zg0:=@Nat.min_self
def Zg1:=@Nat.mod_lt
def Zg2:=@Nat.mul_comm
def Zg3:=@Nat.mul_le_mul
def Zg4:=@Nat.mul_le_mul_right
def Zg5:=@Nat.sub_self
def Zg6:=@Nat.sub_zero
def Zg7:=@Nat.succ_mul
def Zg8:=@Nat.zero_add
def Zg9:=@Nat.zero_le
def Zha:=@Nat.zero_min
def Zhb:=@Nat.zero_mul
def Zhc:=@Option.bind_eq_bind
def Zhd:=@Option.bind_eq_some_iff
def Zhe:=@Option.bind_none
def Zhf:=@Option.bind_some
def Zhg:=@Option.getD_none
def Zhh:=@Option.getD_some
def Zhi:=@Option.isSome_iff_exists
def Zhj:=@Option.isSome_none
def Zhk:=@Option.isSome_some
def Zhl:=@Option.map_eq_some_iff
def Zhm:=@Option.map_none
def Zhn:=@Option.map_some
def Zho:=@Option.some.inj
def Zhp:=@Option.some.injEq
def Zhq:=@Option.some_ne_none
def Zhr:=@Prod.mk.injEq
section
namespace Go.Dl
open Go Go.RowKit
variable{v:Value}{N':Nat->Prop}{vs:List Value}
inductive I where
 |undef
 |bool (b:Bool)
 |int (k:IntKind) (n:Int)
 |str (s:List UInt8)
 |nilp
 |elt (cells:List I) (off:Nat)
 |sl (rows:List (List I))
 |nilfn
 |fn (f:FuncId) (first caps:List I)
 |agg (cells:List I)
 |tup (vs:List I)
 |nilmap
 |map (es:List (I×I))
 |iface (t:Nat) (x:I)
 |nilif
 |nilsl
 deriving Inhabited
structure Mem where
 c:Nat->Nat->Option Value
 m:Nat->Option (List MapEntry×Nat)
def Mem.le(M M':Mem):Prop:=(∀b o v,M.c b o=some v->M'.c b o=some v)/\∀b x,M.m b=some x->M'.m b=some x
theorem Mem.le_refl(M:Mem):M.le M:=⟨fun _ _ _ h=>h,fun _ _ h=>h⟩
theorem Mem.le_trans{A B C:Mem}(h:A.le B)(k:B.le C):A.le C:=⟨fun b o v x=>k.1 b o v (h.1 b o v x),fun b x y=>k.2 b x (h.2 b x y)⟩
def Mem.unk(M:Mem)(b:Nat):Prop:=(∀o,M.c b o=none)/\M.m b=none
def Mem.same(M M':Mem)(b:Nat):Prop:=(∀o,M'.c b o=M.c b o)/\M'.m b=M.m b
theorem Mem.same_refl(M:Mem)(b:Nat):M.same M b:=⟨fun _=>rfl,rfl⟩
theorem Mem.same_trans{A B C:Mem}{b:Nat}(h:A.same B b)(k:B.same C b):A.same C b:=⟨fun o=>(k.1 o).trans (h.1 o),k.2.trans h.2⟩
theorem Mem.unk_same{A B:Mem}{b:Nat}(h:A.unk b)(k:A.same B b):B.unk b:=⟨fun o=>(k.1 o).trans (h.1 o),k.2.trans h.2⟩
def Mem.Sub(M:Mem)(w:World):Prop:=(∀b o v,M.c b o=some v->w.cell? ⟨b,o,none⟩=some v)/\∀b x,M.m b=some x->w.heap[b]? =some (.map x.1.toArray x.2)
def By(s:List UInt8):ByteArray:=⟨⟨s⟩⟩
def Gz(xs:List MapEntry)(clk:Nat):Prop:=(xs.map (·.born)).Nodup/\∀e∈xs,e.born<clk
def FV(f:FuncId):Fn:=if Nat.blt f 1000000000=true then .func f else .yield (f-1000000000)
inductive Rep(M:Mem):I->Value->Prop where
 |undef:Rep M .undef Go.undef
 |bool (b:Bool):Rep M (.bool b) (.bool b)
 |int (k:IntKind) (n:Int):Rep M (.int k n) (.int k n)
 |str (s:List UInt8):Rep M (.str s) (.string (By s))
 |nilp:Rep M .nilp (.pointer none)
 |elt (cells:List I) (off b o:Nat) (v:Nat->Value) (h:∀j,j<cells.length->M.c b (o+j)=some (v j)) (hr:∀j (h:j<cells.length),Rep M (cells[j]) (v j)):
   Rep M (.elt cells off) (.pointer (some ⟨b,o+off,none⟩))
 |slnil:Rep M (.sl []) (.slice none 0 0)
 |slempty (a:Addr) (cap:Nat):Rep M (.sl []) (.slice (some a) 0 cap)
 |sl (rows:List (List I)) (k b o cap:Nat) (v:Nat->Nat->Value) (hk:∀r∈rows,r.length=k) (hc:rows.length<=cap)
   (h:∀i (hi:i<rows.length) j,j<rows[i].length->M.c b (o+i*k+j)=some (v i j))
   (hr:∀i (hi:i<rows.length) j (hj:j<rows[i].length),Rep M (rows[i][j]) (v i j)):
   Rep M (.sl rows) (.slice (some ⟨b,o,none⟩) rows.length cap)
 |nilfn:Rep M .nilfn .nilFunc
 |fn (f:FuncId) (first caps:List I) (vf vc:Array Value) (hy:Nat.blt f 1000000000=true\/caps=[]) (hf:vf.size=first.length) (hc:vc.size=caps.length)
   (rf:∀j (h:j<first.length),Rep M (first[j]) (vf[j]'(hf▸h))) (rc:∀j (h:j<caps.length),Rep M (caps[j]) (vc[j]'(hc▸h))):
   Rep M (.fn f first caps) (.func (FV f) vf vc)
 |agg (cs:List I) (vs:Array Value) (h:vs.size=cs.length) (hr:∀j (hj:j<cs.length),Rep M (cs[j]) (vs[j]'(h▸hj))):Rep M (.agg cs) (.agg vs)
 |tup (cs:List I) (vs:Array Value) (h:vs.size=cs.length) (hr:∀j (hj:j<cs.length),Rep M (cs[j]) (vs[j]'(h▸hj))):Rep M (.tup cs) (.tuple vs)
 |nilmap:Rep M .nilmap (.map none)
 |map (es:List (I×I)) (b:Nat) (xs:List MapEntry) (clk:Nat) (h:M.m b=some (xs,clk)) (hl:xs.length=es.length) (hb:Gz xs clk)
   (hk:∀j (h:j<es.length),Rep M (es[j]).1 (xs[j]'(hl▸h)).key) (hv:∀j (h:j<es.length),Rep M (es[j]).2 (xs[j]'(hl▸h)).val):Rep M (.map es) (.map (some b))
 |iface (t:Nat) (x:I) (v:Value) (h:Rep M x v):Rep M (.iface t x) (.iface t v)
 |nilif:Rep M .nilif .nilIface
 |nilsl:Rep M .nilsl (.slice none 0 0)
theorem Rep.mono{M M':Mem}(hm:M.le M'){x:I}{v:Value}(h:Rep M x v):Rep M' x v:=by
 induction h with
 |undef=>exact .undef
 |bool b=>exact .bool b
 |int k n=>exact .int k n
 |str s=>exact .str s
 |nilp=>exact .nilp
 |elt cells off b o v h _ ih=>exact .elt cells off b o v (fun j hj=>hm.1 _ _ _ (h j hj)) ih
 |slnil=>exact .slnil
 |slempty a cap=>exact .slempty a cap
 |sl rows k b o cap v hk hc h _ ih=>exact .sl rows k b o cap v hk hc (fun i hi j hj=>hm.1 _ _ _ (h i hi j hj)) ih
 |nilfn=>exact .nilfn
 |fn f first caps vf vc hy hf hc _ _ i1 i2=>exact .fn f first caps vf vc hy hf hc i1 i2
 |agg cs vs h _ ih=>exact .agg cs vs h ih
 |tup cs vs h _ ih=>exact .tup cs vs h ih
 |nilmap=>exact .nilmap
 |map es b xs clk h hl hb _ _ i1 i2=>exact .map es b xs clk (hm.2 _ _ h) hl hb i1 i2
 |iface t x v _ ih=>exact .iface t x v ih
 |nilif=>exact .nilif
 |nilsl=>exact .nilsl
def Ak(M:Mem)(xs:List I)(vs:List Value):Prop:=vs.length=xs.length/\∀j (h:j<xs.length) (h':j<vs.length),Rep M (xs[j]) (vs[j])
theorem Ak.mono{M M':Mem}(hm:M.le M'){xs:List I}{vs:List Value}(h:Ak M xs vs):Ak M' xs vs:=
 ⟨h.1,fun j a b=>(h.2 j a b).mono hm⟩
theorem Ak.nil(M:Mem):Ak M [] []:=⟨rfl,fun _ h=>absurd h (by simp)⟩
theorem Ak.cons{M:Mem}{x:I}{xs:List I}(h:Rep M x v)(k:Ak M xs vs):Ak M (x::xs) (v::vs):=by
 refine⟨by simp[k.1],fun j a b=>?_⟩;cases j with
 |zero=>exact h
 |succ j=>exact k.2 j (by simpa using a) (by simpa using b)
theorem Ak.append{M:Mem}{xs ys:List I}{us:List Value}(h:Ak M xs vs)(k:Ak M ys us):Ak M (xs++ys) (vs++us):=by
 refine⟨by simp[h.1,k.1],fun j a b=>?_⟩;by_cases hj:j<xs.length
 ·rw[Zea hj,Zea (by rw[h.1];exact hj)];exact h.2 j hj _
 ·have e:vs.length=xs.length:=h.1;rw[Zeb (by omega),Zeb (by omega)];have:=k.2 (j-xs.length) (by simp at a;omega) (by simp at b;omega);grind
theorem Rep.agg' {M:Mem}{cs:List I}{vs:Array Value}(h:Ak M cs vs.toList):Rep M (.agg cs) (.agg vs):=
 .agg cs vs (by simpa using h.1) (fun j hj=>by have:=h.2 j hj (by rw[h.1];exact hj);simpa using this)
theorem Rep.agg_inv{M:Mem}{cs:List I}(h:Rep M (.agg cs) v):∃vs:Array Value,v=.agg vs/\Ak M cs vs.toList:=by
 cases h with
 |agg _ vs h hr=>exact⟨vs,rfl,by simpa using h,fun j a b=>by simpa using hr j a⟩
theorem Rep.tup' {M:Mem}{cs:List I}{vs:Array Value}(h:Ak M cs vs.toList):Rep M (.tup cs) (.tuple vs):=
 .tup cs vs (by simpa using h.1) (fun j hj=>by have:=h.2 j hj (by rw[h.1];exact hj);simpa using this)
theorem Rep.tup_inv{M:Mem}{cs:List I}(h:Rep M (.tup cs) v):∃vs:Array Value,v=.tuple vs/\Ak M cs vs.toList:=by
 cases h with
 |tup _ vs h hr=>exact⟨vs,rfl,by simpa using h,fun j a b=>by simpa using hr j a⟩
theorem Rep.fn_inv{M:Mem}{f:FuncId}{a b:List I}(h:Rep M (.fn f a b) v):
  ∃va vb:Array Value,v=.func (FV f) va vb/\(Nat.blt f 1000000000=true\/b=[])/\Ak M a va.toList/\Ak M b vb.toList:=by
 cases h with
 |fn _ _ _ vf vc hy hf hc rf rc=>exact⟨vf,vc,rfl,hy,⟨by simpa using hf,fun j a b=>by simpa using rf j a⟩,⟨by simpa using hc,fun j a b=>by simpa using rc j a⟩⟩
theorem Rep.fn' {M:Mem}{f:FuncId}{a b:List I}{va vb:Array Value}(hy:Nat.blt f 1000000000=true)(ha:Ak M a va.toList)(hb:Ak M b vb.toList):Rep M (.fn f a b) (.func (.func f) va vb):=by
 have e:Fn.func f=FV f:=(Zaa hy).symm;rw[e];exact .fn f a b va vb (.inl hy) (by simpa using ha.1) (by simpa using hb.1) (fun j hj=>by have:=ha.2 j hj (by rw[ha.1];exact hj);simpa using this)
  (fun j hj=>by have:=hb.2 j hj (by rw[hb.1];exact hj);simpa using this)
def I.one:I->Bool
 |.agg _|.tup _|.undef=>false
 |_=>true
theorem Rep.oneCell{M:Mem}{x:I}(h:Rep M x v)(hx:x.one=true):v.oneCell'=true:=by cases h<;>simp_all[I.one,Value.oneCell']
inductive Ref where
 |loc (nm off:Nat)
 |sl (nm k lo hi:Nat)
 |lel (nm k row off:Nat)
 |mp (nm:Nat)
 |it (nm:Nat)
 deriving Inhabited
def Ref.nm:Ref->Nat
 |.loc nm _|.sl nm _ _ _|.lel nm _ _ _|.mp nm|.it nm=>nm
inductive Cp where
 |any
 |i (x:I)
 |ref (r:Ref)
 deriving Inhabited
inductive D where
 |any
 |i (x:I)
 |ref (r:Ref)
 |fn (f:FuncId) (first caps:List Cp)
 |tup (cs:List Cp)
 deriving Inhabited
inductive LK where
 |b|i (k:IntKind)|s|g
 deriving Inhabited,DecidableEq
inductive Atom where
 |b (b:Bool)|i (k:IntKind) (n:Int)|s (s:List UInt8)
 deriving Inhabited,DecidableEq
def cellsI:I->List I
 |.agg cs=>cs
 |x=>[x]
def Dr:I->Option Atom
 |.bool b=>some (.b b)
 |.int k n=>some (.i k n)
 |.str s=>some (.s s)
 |_=>none
def A3(x:I):List (Option Atom):=(cellsI x).map Dr
def Bc:LK->I->Bool
 |.b,.bool _=>true
 |.i k,.int k' _=>k==k'
 |.s,.str _=>true
 |_,_=>false
def AH:List LK->List I->Bool
 |[],[]=>true
 |l::ls,x::xs=>Bc l x&&AH ls xs
 |_,_=>false
def Ay:List LK->I->Bool
 |.g::ls,.agg cs=>AH ls cs
 |.g::_,_=>false
 |_,.agg _=>false
 |ls,x=>AH ls [x]
structure LQ where
 fn:FuncId
 ps:Array Tmp
 assign:Code
 body:Code
 defers:Nat
 jump:Option Code
 deriving Inhabited
def LQ.lp(q:LQ)(tmps:Array Value):Loop:={state:=if q.jump.isNone then .ready else .done,pending:=q.jump,fn:=q.fn,tmps,params:=q.ps,assign:=q.assign,body:=q.body,defers:=q.defers}
inductive Blk where
 |cells (cs:List D)
 |rows (e:TypeId) (k:Nat) (rs:List (List I))
 |map (ls:List LK) (es:List (I×I))
 |iter (cur:Option (I×I)) (rest:List (I×I))
 |lp (l:Nat) (q:LQ) (cs:List D)
 |gmap (ls:List LK) (clk:Nat) (es:List (I×Nat×D))
 |arr (e:TypeId) (k:Nat) (rs:List (Option (List I)))
 deriving Inhabited
def JH:D->Bool
 |.i _=>true
 |_=>false
def H1:D->I
 |.i x=>x
 |_=>.undef
def VP(nm:Nat)(b:Blk)(r:Ref):Cp:=
 if r.nm=nm then match r,b with
  |.loc _ off,.cells cs=>.i (.elt (cs.map H1) off)
  |.sl _ k lo hi,.rows _ k' rs=>if k=k'/\hi<=rs.length then .i (.sl ((rs.take hi).drop lo))else .any
  |.lel _ k row off,.rows _ k' rs=>if k=k'/\row<rs.length then .i (.elt (rs.getD row []) off)else .any
  |.mp _,.map _ es=>.i (.map es)
  |.mp _,.gmap _ _ es=>if(es.all fun e=>JH e.2.2)=true then .i (.map (es.map fun e=>(e.1,H1 e.2.2)))else .any
  |_,_=>.any
 else .ref r
def fc(nm:Nat)(b:Blk):Cp->Cp
 |.ref r=>VP nm b r
 |c=>c
def Cp.toD:Cp->D
 |.any=>.any
 |.i x=>.i x
 |.ref r=>.ref r
def PZ(nm:Nat)(b:Blk):D->D
 |.ref r=>(VP nm b r).toD
 |.fn f first caps=>.fn f (first.map (fc nm b)) (caps.map (fc nm b))
 |.tup cs=>.tup (cs.map (fc nm b))
 |d=>d
def eW(nm:Nat)(b:Blk):Blk->Blk
 |.cells cs=>.cells (cs.map (PZ nm b))
 |.lp l q cs=>.lp l q (cs.map (PZ nm b))
 |.gmap ls clk es=>.gmap ls clk (es.map fun e=>(e.1,e.2.1,PZ nm b e.2.2))
 |x=>x
def Sk(nm:Nat)(b:Blk):List (Nat×Blk)->List (Nat×Blk)
 |[]=>[]
 |(m,x)::r=>(m,eW nm b x)::Sk nm b r
def B6:List (Nat×Blk)->Nat->List (Nat×Blk)
 |[],_=>[]
 |(m,d)::r,n=>if m=n then B6 r n else(m,d)::B6 r n
inductive Env where
 |l (e:List (Nat×D))
 |put (d:Nat) (v:D) (e:Env)
 |sb (nm:Nat) (b:Blk) (e:Env)
 deriving Inhabited
structure St where
 env:Env
 sto:List (Nat×Blk)
def Cv:List (Nat×D)->Nat->D
 |[],_=>.any
 |(m,d)::r,n=>if m=n then d else Cv r n
def Aj:Env->Nat->D
 |.l e,n=>Cv e n
 |.put m d r,n=>if m=n then d else Aj r n
 |.sb nm b r,n=>PZ nm b (Aj r n)
def Aa:List (Nat×Blk)->Nat->Option Blk
 |[],_=>none
 |(m,d)::r,n=>if m=n then some d else Aa r n
def B7:List (Nat×Blk)->Nat->Blk->List (Nat×Blk)
 |[],_,_=>[]
 |(m,d)::r,n,b=>if m=n then(m,b)::B7 r n b else(m,d)::B7 r n b
abbrev Place:=Nat->Value
def An:Value->Option Nat
 |.pointer (some a)=>some a.block
 |.slice (some a) _ cap=>if cap=0 then none else some a.block
 |.map (some b)=>some b
 |_=>none
def Of(p:Value)(k lo hi:Nat)(v:Value):Prop:=
 ∃a cap,p=.slice a 0 cap/\lo<=hi/\hi<=cap/\((cap=lo/\∃a',v=.slice a' 0 0)\/∃b o,a=some ⟨b,o,none⟩/\v=.slice (some ⟨b,o+lo*k,none⟩) (hi-lo) (cap-lo))
def BF(μ:Place)(N:Nat->Prop):Ref->Value->Prop
 |.loc nm off,v=>N nm/\∃b,μ nm=.pointer (some ⟨b,0,none⟩)/\v=.pointer (some ⟨b,off,none⟩)
 |.sl nm k lo hi,v=>N nm/\Of (μ nm) k lo hi v
 |.lel nm k row off,v=>N nm/\∃b o cap,μ nm=.slice (some ⟨b,o,none⟩) 0 cap/\row<cap/\v=.pointer (some ⟨b,o+row*k+off,none⟩)
 |.mp nm,v=>N nm/\∃b,μ nm=.map (some b)/\v=.map (some b)
 |.it nm,v=>N nm/\∃b,μ nm=.pointer (some ⟨b,0,none⟩)/\v=.pointer (some ⟨b,0,none⟩)
def B8(M:Mem)(μ:Place)(N:Nat->Prop):Cp->Value->Prop
 |.any,_=>True
 |.i x,v=>Rep M x v
 |.ref r,v=>BF μ N r v
def DU(M:Mem)(μ:Place)(N:Nat->Prop)(cs:List Cp)(vs:List Value):Prop:=vs.length=cs.length/\∀j (h:j<cs.length) (h':j<vs.length),B8 M μ N (cs[j]) (vs[j])
def AD(M:Mem)(μ:Place)(N:Nat->Prop):D->Value->Prop
 |.any,_=>True
 |.i x,v=>Rep M x v
 |.ref r,v=>BF μ N r v
 |.fn f first caps,v=>∃va vb:Array Value,v=.func (FV f) va vb/\(Nat.blt f 1000000000=true\/caps=[])/\DU M μ N first va.toList/\DU M μ N caps vb.toList
 |.tup cs,v=>∃vs:Array Value,v=.tuple vs/\DU M μ N cs vs.toList
theorem AJ{M:Mem}{μ:Place}{N:Nat->Prop}{x:I}(h:Rep M x v):AD M μ N (.i x) v:=h
theorem AE{M:Mem}{μ:Place}{N:Nat->Prop}{x:I}(h:AD M μ N (.i x) v):Rep M x v:=h
theorem BF.name{μ:Place}{N:Nat->Prop}{r:Ref}(h:BF μ N r v):N r.nm:=by cases r<;>exact h.1
theorem BF.mono{μ μ':Place}{N:Nat->Prop}{r:Ref}(h:BF μ N r v)(hn:N' r.nm)(hp:μ' r.nm=μ r.nm):BF μ' N' r v:=by cases r<;>simp only[Ref.nm]at hn hp<;>refine⟨hn,?_⟩<;>first|(rw[hp];exact h.2)
def Cp.nms:Cp->List Nat
 |.ref r=>[r.nm]
 |_=>[]
def D.nms:D->List Nat
 |.ref r=>[r.nm]
 |.fn _ first caps=>first.flatMap Cp.nms++caps.flatMap Cp.nms
 |.tup cs=>cs.flatMap Cp.nms
 |_=>[]
theorem B8.mono{M M':Mem}{μ μ':Place}{N:Nat->Prop}(hm:M.le M'){d:Cp}{v:Value}(h:B8 M μ N d v)(hn:∀n∈d.nms,N n->N' n/\μ' n=μ n):B8 M' μ' N' d v:=by
 cases d with
 |any=>trivial
 |i x=>exact Rep.mono hm h
 |ref r=>have:=hn r.nm (by simp[Cp.nms]) h.name;exact BF.mono h this.1 this.2
theorem DU.mono{M M':Mem}{μ μ':Place}{N:Nat->Prop}(hm:M.le M'){ds:List Cp}{vs:List Value}(h:DU M μ N ds vs)(hn:∀n∈ds.flatMap Cp.nms,N n->N' n/\μ' n=μ n):DU M' μ' N' ds vs:=
 ⟨h.1,fun j a b=>(h.2 j a b).mono hm fun n hnn=>hn n (Zff.2 ⟨_,Zef a,hnn⟩)⟩
theorem AD.mono' {M M':Mem}{μ μ':Place}{N N':Nat->Prop}(hm:M.le M'){d:D}{v:Value}(h:AD M μ N d v)(hn:∀n∈d.nms,N n->N' n/\μ' n=μ n):AD M' μ' N' d v:=by
 cases d with
 |any=>trivial
 |i x=>exact Rep.mono hm h
 |ref r=>have:=hn r.nm (by simp[D.nms]) (BF.name h);exact BF.mono h this.1 this.2
 |fn f first caps=>obtain⟨va,vb,e,hy,h1,h2⟩:=h;exact⟨va,vb,e,hy,h1.mono hm (fun n a=>hn n (by simp only[D.nms,Ze9];exact .inl a)),h2.mono hm (fun n a=>hn n (by simp only[D.nms,Ze9];exact .inr a))⟩
 |tup cs=>obtain⟨vs,e,h1⟩:=h;exact⟨vs,e,h1.mono hm fun n a=>hn n a⟩
theorem AD.mono{M M':Mem}{μ:Place}{N:Nat->Prop}(hm:M.le M')(hn:∀n,N n->N' n){d:D}{v:Value}(h:AD M μ N d v):AD M' μ N' d v:=
 h.mono' hm fun n _ hN=>⟨hn n hN,rfl⟩
theorem B8.name{M:Mem}{μ:Place}{N:Nat->Prop}{d:Cp}(h:B8 M μ N d v):∀n∈d.nms,N n:=by
 cases d with
 |ref r=>intro n hn;simp[Cp.nms]at hn;subst hn;exact BF.name h
 |_=>intro n hn;simp[Cp.nms]at hn
theorem DU.name{M:Mem}{μ:Place}{N:Nat->Prop}{ds:List Cp}(h:DU M μ N ds vs):∀n∈ds.flatMap Cp.nms,N n:=by intro n hn;obtain⟨c,hc,hcn⟩:=Zff.1 hn;obtain⟨j,hj,rfl⟩:=Zeh hc;exact(h.2 j hj (by rw[h.1];exact hj)).name n hcn
theorem AD.name{M:Mem}{μ:Place}{N:Nat->Prop}{d:D}(h:AD M μ N d v):∀n∈d.nms,N n:=by
 cases d with
 |ref r=>intro n hn;simp[D.nms]at hn;subst hn;exact BF.name h
 |fn f first caps=>obtain⟨va,vb,e,_,h1,h2⟩:=h;intro n hn;simp only[D.nms,Ze9]at hn;exact hn.elim (h1.name n) (h2.name n)
 |tup cs=>obtain⟨vs,e,h1⟩:=h;exact h1.name
 |_=>intro n hn;simp[D.nms]at hn
section
variable (S:Nat->Prop)(M:Mem)(μ:Place)(N:Nat->Prop)(w:World)(nm:Nat)
structure Owns(b:Nat)(o:Obj):Prop where
 low:¬S b
 heap:w.heap[b]? =some o
 unk:M.unk b
def Ex(cur:Array Value)(o k:Nat)(rs:List (List I)):Prop:=
 (∀r∈rs,r.length=k)/\∀i (hi:i<rs.length) j (hj:j<rs[i].length),∃v,cur[o+i*k+j]? =some v/\Rep M (rs[i][j]) v
def EW(xs:List MapEntry)(es:List (I×I)):Prop:=
 xs.length=es.length/\∀j (h:j<es.length) (h':j<xs.length),Rep M (es[j]).1 (xs[j]).key/\Rep M (es[j]).2 (xs[j]).val
def Hj(xs:List MapEntry)(es:List (I×Nat×D)):Prop:=
 xs.length=es.length/\∀j (h:j<es.length) (h':j<xs.length),Rep M (es[j]).1 (xs[j]).key/\(xs[j]).born=(es[j]).2.1/\AD M μ N (es[j]).2.2 (xs[j]).val
def Hk(cur:Array Value)(o k:Nat)(rs:List (Option (List I))):Prop:=
 ∀i r,rs[i]? =some (some r)->r.length=k/\∀j (hj:j<r.length),∃v,cur[o+i*k+j]? =some v/\Rep M (r[j]) v
def AP:Blk->Prop
 |.cells cs=>∃b vs t,μ nm=.pointer (some ⟨b,0,none⟩)/\Owns S M w b (.cells vs t (0,0))/\vs.size=cs.length/\∀j (h:j<cs.length) (h':j<vs.size),AD M μ N (cs[j]) (vs[j])
 |.rows e k rs=>∃a cap,μ nm=.slice a 0 cap/\((cap=0/\rs=[])\/
   ∃b o cur,a=some ⟨b,o,none⟩/\0<cap/\Owns S M w b (.cells cur e (0,0))/\cap<=maxLen/\cur.size=o+cap*k/\rs.length<=cap/\Ex M cur o k rs)
 |.map ls es=>∃b xs clk,μ nm=.map (some b)/\Owns S M w b (.map xs clk)/\EW M xs.toList es/\Gz xs.toList clk/\∀e∈es,Ay ls e.1=true
 |.iter cur rest=>∃b m since seen last,μ nm=.pointer (some ⟨b,0,none⟩)/\Owns S M w b (.mapIter m since seen last)/\
   ((m=none/\rest=[]/\cur=none)\/∃q xs clk,m=some q/\M.m q=some (xs,clk)/\since=clk/\last=clk/\Gz xs clk/\EW M (xs.filter fun e=>!seen.contains e.born) rest/\
    ∀c,cur=some c->∃e∈xs,(∃seen0:Array Nat,seen=seen0.push e.born)/\Rep M c.1 e.key/\Rep M c.2 e.val)
 |.gmap ls clk es=>∃b xs,μ nm=.map (some b)/\Owns S M w b (.map xs clk)/\Hj M μ N xs.toList es/\Gz xs.toList clk/\∀e∈es,Ay ls e.1=true
 |.arr e k rs=>∃a,μ nm=.slice a 0 rs.length/\(rs=[]\/∃b o cur,a=some ⟨b,o,none⟩/\rs≠[]/\Owns S M w b (.cells cur e (0,0))/\rs.length<=maxLen/\cur.size=o+rs.length*k/\Hk M cur o k rs)
 |.lp l q cs=>∃vs:Array Value,μ nm=.pointer (some ⟨l,0,none⟩)/\Owns S M w l (.loop (q.lp vs))/\vs.size=cs.length/\∀j (h:j<cs.length) (h':j<vs.size),AD M μ N (cs[j]) (vs[j])
end
def H2(GL:List (Nat×List I))(M:Mem):Prop:=∀g cs,(g,cs)∈GL->Rep M (.elt cs 0) (.pointer (some ⟨g,0,none⟩))
def names(sto:List (Nat×Blk)):Nat->Prop:=fun m=>(Aa sto m).isSome
structure StoOk(S:Nat->Prop)(M:Mem)(μ:Place)(sto:List (Nat×Blk))(w:World):Prop where
 sub:M.Sub w
 blk:∀nm b,Aa sto nm=some b->AP S M μ (names sto) w nm b
 sep:∀nm nm' k k',nm≠nm'->names sto nm->names sto nm'->An (μ nm)=some k->An (μ nm')=some k'->k≠k'
 low:∀b,S b->b<w.heap.size
structure Sh where
 p:Nat->Prop
 q:Place
 ds:List Deferred
instance:CoeOut Sh (Nat->Prop):=⟨Sh.p⟩
instance:CoeFun Sh (fun _=>Nat->Prop):=⟨Sh.p⟩
def pinned(m:Nat):Prop:=5000<=m/\m<5500
theorem fj{d m:Nat}(h:pinned m)(hd:d<5000):m≠d:=by grind[pinned]
structure Rel(GL:List (Nat×List I))(n:Nat)(S:Sh)(M:Mem)(μ:Place)(st:St)(a:Act)(w:World):Prop extends StoOk S.p M μ st.sto w where
 small:n<=999
 pin:∀m,pinned m->μ m=S.q m
 defers:a.defers=S.ds
 size:a.tmps.size=n
 env:∀s,AD M μ (names st.sto) (Aj st.env s) (a.tmps.getD s Go.undef)
 glob:H2 GL M
structure MExt(S:Nat->Prop)(M M':Mem):Prop where
 le:M.le M'
 old:∀b,S b->M.same M' b
theorem MExt.refl(S:Nat->Prop)(M:Mem):MExt S M M:=⟨Mem.le_refl _,fun _ _=>Mem.same_refl _ _⟩
theorem MExt.trans{S:Nat->Prop}{M M' M'':Mem}(h:MExt S M M')(k:MExt S M' M''):MExt S M M'':=
 ⟨Mem.le_trans h.le k.le,fun b hb=>Mem.same_trans (h.old b hb) (k.old b hb)⟩
end Go.Dl
end
section
namespace Go.Dl
open Go Go.RowKit
variable{b o k:Nat}
structure Keeps(S:Nat->Prop)(w w':World):Prop where
 os:w'.os=w.os
 tape:w'.tape=w.tape
 output:w'.output=w.output
 size:w.heap.size<=w'.heap.size
 block:∀k,S k->w'.heap[k]? =w.heap[k]?
 drawn:w.drawn<=w'.drawn
theorem Keeps.refl(S:Nat->Prop)(w:World):Keeps S w w:=⟨rfl,rfl,rfl,Zgu _,fun _ _=>rfl,Zgu _⟩
theorem Keeps.trans{S:Nat->Prop}{a b c:World}(h:Keeps S a b)(k:Keeps S b c):Keeps S a c:=
 ⟨k.os.trans h.os,k.tape.trans h.tape,k.output.trans h.output,Zgw h.size k.size,fun i hi=>(k.block i hi).trans (h.block i hi),Zgw h.drawn k.drawn⟩
theorem Keeps.mono{S S':Nat->Prop}{w w':World}(h:Keeps S w w')(hs:∀k,S' k->S k):Keeps S' w w':=⟨h.os,h.tape,h.output,h.size,fun k hk=>h.block k (hs k hk),h.drawn⟩
theorem Keeps.drew{S:Nat->Prop}{a w:World}(h:Keeps S a w):Keeps S a w.drew:=⟨h.os,h.tape,h.output,h.size,h.block,Zgv h.drawn⟩
theorem Sl(w:World)(o:Obj)(k:Nat)(h:k<w.heap.size):(w.alloc o).heap[k]? =w.heap[k]? :=Below.heap_alloc w o k h
theorem Ml(w:World)(o:Obj):(w.alloc o).heap.size=w.heap.size+1:=by simp
theorem GA(w:World)(o:Obj):(w.alloc o).heap[w.heap.size]? =some o:=by show(w.heap.push o)[w.heap.size]? =_;simp
theorem FW{S:Nat->Prop}(w:World)(o:Obj)(h:∀k,S k->k<w.heap.size):Keeps S w (w.alloc o):=
 ⟨rfl,rfl,rfl,by rw[Ml];omega,fun k hk=>Sl w o k (h k hk),Zgu _⟩
theorem JL{S:Nat->Prop}(w:World)(g:Nat)(cs:Array Value)(h:¬S g):Keeps S w (w.setRow g cs):=
 ⟨rfl,rfl,rfl,by simp,fun k hk=>Zab w g k cs (fun e=>h (e▸hk)),Zgu _⟩
theorem Og{w:World}{o:Obj}(h:w.heap[b]? =some o):b<w.heap.size:=(Zbj.1 h).1
theorem VS{w:World}{v:Value}(h:w.cell? ⟨b,o,none⟩=some v):b<w.heap.size:=by
 rcases Zgz b w.heap.size with k|k
 ·exact k
 ·simp[World.cell?,Zbi k]at h
theorem FX{nm:Nat}{b:Blk}{sto:List (Nat×Blk)}(m:Nat)(h:names sto m):names ((nm,b)::sto) m:=by grind[names,Aa]
theorem D9{nm:Nat}{b:Blk}{sto:List (Nat×Blk)}:names ((nm,b)::sto) nm:=by simp[names,Aa]
theorem CO(l:List (Nat×Blk))(nm m:Nat)(b:Blk):Aa (B7 l nm b) m=if m=nm then(Aa l nm).map (fun _=>b)else Aa l m:=by
 induction l with
 |nil=>simp[B7,Aa]
 |cons x r ih=>grind[B7,Aa]
theorem CC{nm:Nat}{b:Blk}{sto:List (Nat×Blk)}:names (B7 sto nm b)=names sto:=by grind[names,CO,Aa]
theorem Hl(nm:Nat)(b:Blk)(l:List (Nat×Blk))(m:Nat):Aa (Sk nm b l) m=(Aa l m).map (eW nm b):=by
 induction l with
 |nil=>rfl
 |cons x r ih=>obtain⟨p,q⟩:=x;simp only[Sk,Aa];split;rfl;exact ih
theorem JM(l:List (Nat×Blk))(nm m:Nat):Aa (B6 l nm) m=if m=nm then none else Aa l m:=by
 induction l with
 |nil=>simp[B6,Aa]
 |cons x r ih=>grind[B6,Aa]
theorem VT{nm:Nat}{b:Blk}{sto:List (Nat×Blk)}:names (Sk nm b sto)=names sto:=by grind[names,Hl,Aa]
def Blk.nms:Blk->List Nat
 |.cells cs=>cs.flatMap D.nms
 |.lp _ _ cs=>cs.flatMap D.nms
 |.gmap _ _ es=>es.flatMap fun e=>e.2.2.nms
 |_=>[]
def BA(μ:Place)(nm:Nat)(v:Value):Place:=fun m=>if m=nm then v else μ m
theorem Bh(μ:Place)(nm:Nat)(v:Value):BA μ nm v nm=v:=by simp[BA]
theorem CD(μ:Place){nm m:Nat}(v:Value)(h:m≠nm):BA μ nm v m=μ m:=by simp[BA,h]
section
variable {GL:List (Nat×List I)}{n:Nat}{S:Sh}{M M':Mem}{μ μ':Place}{N N':Nat->Prop}{st:St}{sto:List (Nat×Blk)}{a:Act}{w w':World}{nm:Nat}
theorem Ex.mono{cur:Array Value}{rs:List (List I)}(h:Ex M cur o k rs)(ji:M.le M'):Ex M' cur o k rs:=
 ⟨h.1,fun i hi j hj=>by obtain⟨v,hv,hr⟩:=h.2 i hi j hj;exact⟨v,hv,hr.mono ji⟩⟩
theorem EW.mono{xs:List MapEntry}{es:List (I×I)}(h:EW M xs es)(ji:M.le M'):EW M' xs es:=
 ⟨h.1,fun j a b=>⟨(h.2 j a b).1.mono ji,(h.2 j a b).2.mono ji⟩⟩
theorem Hj.mono{xs:List MapEntry}{es:List (I×Nat×D)}(h:Hj M μ N xs es)(ji:M.le M')(hn:∀e∈es,∀m∈e.2.2.nms,N m->N' m/\μ' m=μ m):Hj M' μ' N' xs es:=
 ⟨h.1,fun j a b=>⟨(h.2 j a b).1.mono ji,(h.2 j a b).2.1,(h.2 j a b).2.2.mono' ji (hn _ (Zef a))⟩⟩
theorem Hk.mono{cur:Array Value}{rs:List (Option (List I))}(h:Hk M cur o k rs)(ji:M.le M'):Hk M' cur o k rs:=fun i r hr=>
 ⟨(h i r hr).1,fun j hj=>by obtain⟨v,hv,vl⟩:=(h i r hr).2 j hj;exact⟨v,hv,vl.mono ji⟩⟩
theorem P1{n:Nat}(h:n≠0):An (.slice (some ⟨b,o,none⟩) 0 n)=some b:=by grind[An]
theorem Owns.mono{o:Obj}(h:Owns S M w b o)(hw:w'.heap[b]? =w.heap[b]?)(hm:M.same M' b):Owns S M' w' b o:=
 ⟨h.low,by rw[hw];exact h.heap,Mem.unk_same h.unk hm⟩
theorem Owns.lt{o:Obj}(h:Owns S M w b o):b<w.heap.size:=Og h.heap
theorem AP.mono{b:Blk}(h:AP S M μ N w nm b)(ji:M.le M')(hμ:μ' nm=μ nm)(hn:∀m∈b.nms,N m->N' m/\μ' m=μ m)
  (hw:∀k,An (μ nm)=some k->k<w.heap.size->w'.heap[k]? =w.heap[k]?)(hm:∀k,An (μ nm)=some k->k<w.heap.size->M.same M' k):AP S M' μ' N' w' nm b:=by
 cases b with
 |cells cs=>
  obtain⟨b,vs,t,e,ho,hs,hr⟩:=h;have hb:An (μ nm)=some b:=by rw[e];rfl
  exact⟨b,vs,t,by rw[hμ];exact e,ho.mono (hw b hb ho.lt) (hm b hb ho.lt),hs,fun j h h'=>(hr j h h').mono' ji fun m w5=>hn m (Zff.2 ⟨_,Zef h,w5⟩)⟩
 |rows e k rs=>
  obtain⟨a,cap,e1,h⟩:=h;refine⟨a,cap,by rw[hμ];exact e1,?_⟩;rcases h with h|⟨b,o,cur,rfl,hc,ho,q1,q2,q3,q4⟩
  ·exact .inl h
  ·have hb:An (μ nm)=some b:=by rw[e1];simp only[An];rw[Zac (by omega)]
   exact .inr ⟨b,o,cur,rfl,hc,ho.mono (hw b hb ho.lt) (hm b hb ho.lt),q1,q2,q3,q4.mono ji⟩
 |map ls es=>
  obtain⟨b,xs,clk,e,ho,q1,q2,q3⟩:=h;have hb:An (μ nm)=some b:=by rw[e];rfl
  exact⟨b,xs,clk,by rw[hμ];exact e,ho.mono (hw b hb ho.lt) (hm b hb ho.lt),q1.mono ji,q2,q3⟩
 |iter cur rest=>
  obtain⟨b,m,since,seen,last,e,ho,h⟩:=h;have hb:An (μ nm)=some b:=by rw[e];rfl
  refine⟨b,m,since,seen,last,by rw[hμ];exact e,ho.mono (hw b hb ho.lt) (hm b hb ho.lt),?_⟩;rcases h with h|⟨q,xs,clk,q1,q2,q3,q4,q5,q6,q7⟩
  ·exact .inl h
  ·exact .inr ⟨q,xs,clk,q1,ji.2 _ _ q2,q3,q4,q5,q6.mono ji,fun c hc=>by obtain⟨e,he,h1,h2,h3⟩:=q7 c hc;exact⟨e,he,h1,h2.mono ji,h3.mono ji⟩⟩
 |lp l q cs=>
  obtain⟨vs,e,ho,hs,hr⟩:=h;have hb:An (μ nm)=some l:=by rw[e];rfl
  exact⟨vs,by rw[hμ];exact e,ho.mono (hw l hb ho.lt) (hm l hb ho.lt),hs,fun j h h'=>(hr j h h').mono' ji fun m w5=>hn m (Zff.2 ⟨_,Zef h,w5⟩)⟩
 |gmap ls clk es=>
  obtain⟨b,xs,e,ho,q1,q2,q3⟩:=h;have hb:An (μ nm)=some b:=by rw[e];rfl
  exact⟨b,xs,by rw[hμ];exact e,ho.mono (hw b hb ho.lt) (hm b hb ho.lt),q1.mono ji (fun e he m w5=>hn m (Zff.2 ⟨e,he,w5⟩)),q2,q3⟩
 |arr e k rs=>
  obtain⟨a,e1,h⟩:=h;refine⟨a,by rw[hμ];exact e1,?_⟩;rcases h with h|⟨b,o,cur,rfl,jg,ho,q1,q2,q3⟩
  ·exact .inl h
  ·have hb:An (μ nm)=some b:=by rw[e1];exact P1 (by simpa using jg)
   exact .inr ⟨b,o,cur,rfl,jg,ho.mono (hw b hb ho.lt) (hm b hb ho.lt),q1,q2,q3.mono ji⟩
theorem AP.lt{b:Blk}(h:AP S M μ N w nm b){k:Nat}(hk:An (μ nm)=some k):k<w.heap.size/\¬S k/\M.unk k:=by
 cases b with
 |cells cs=>obtain⟨b,vs,t,e,ho,_⟩:=h;rw[e]at hk;cases hk;exact⟨ho.lt,ho.low,ho.unk⟩
 |rows e kk rs=>
  obtain⟨a,cap,e1,h⟩:=h;rw[e1]at hk;rcases h with⟨rfl,_⟩|⟨b,o,cur,rfl,hc,ho,_⟩
  ·cases a<;>simp[An]at hk
  ·simp only[An]at hk;rw[Zac (by omega)]at hk;cases hk;exact⟨ho.lt,ho.low,ho.unk⟩
 |map ls es=>obtain⟨b,xs,clk,e,ho,_⟩:=h;rw[e]at hk;cases hk;exact⟨ho.lt,ho.low,ho.unk⟩
 |iter cur rest=>obtain⟨b,m,since,seen,last,e,ho,_⟩:=h;rw[e]at hk;cases hk;exact⟨ho.lt,ho.low,ho.unk⟩
 |lp l q cs=>obtain⟨vs,e,ho,_⟩:=h;rw[e]at hk;cases hk;exact⟨ho.lt,ho.low,ho.unk⟩
 |gmap ls clk es=>obtain⟨b,xs,e,ho,_⟩:=h;rw[e]at hk;cases hk;exact⟨ho.lt,ho.low,ho.unk⟩
 |arr e kk rs=>
  obtain⟨a,e1,h⟩:=h;rw[e1]at hk;rcases h with rfl|⟨b,o,cur,rfl,jg,ho,_⟩
  ·cases a<;>simp[An]at hk
  ·rw[P1 (by simpa using jg)]at hk;cases hk;exact⟨ho.lt,ho.low,ho.unk⟩
theorem StoOk.lt(h:StoOk S M μ sto w){m k:Nat}(hm:names sto m)(hk:An (μ m)=some k):k<w.heap.size/\¬S k/\M.unk k:=by obtain⟨b,hb⟩:=Zhi.1 hm;exact(h.blk m b hb).lt hk
theorem Mem.unk_new(h:M.Sub w){b:Nat}(hb:w.heap.size<=b):M.unk b:=by
 constructor
 ·intro o;cases hm:M.c b o with
  |none=>rfl
  |some v=>have:=VS (h.1 _ _ _ hm);omega
 ·cases hm:M.m b with
  |none=>rfl
  |some v=>have:=Og (h.2 _ _ hm);omega
theorem Mem.Sub.world(h:M.Sub w)(hw:∀k,k<w.heap.size->¬M.unk k->w'.heap[k]? =w.heap[k]?):M.Sub w':=by
 constructor
 ·intro b o v hv;have:=h.1 _ _ _ hv;rw[World.cell?_of_block (w:=w) (hw b (VS this) (fun hu=>by rw[hu.1]at hv;cases hv))];exact this
 ·intro b x hx;have:=h.2 _ _ hx;rw[hw b (Og this) (fun hu=>by rw[hu.2]at hx;cases hx)];exact this
theorem StoOk.world(h:StoOk S M μ sto w)(hs:w.heap.size<=w'.heap.size)(hw:∀k,k<w.heap.size->w'.heap[k]? =w.heap[k]?):StoOk S M μ sto w' where
 sub:=h.sub.world fun k hk _=>hw k hk
 blk:=fun m b hb=>(h.blk m b hb).mono (Mem.le_refl _) rfl (fun _ _ k=>⟨k,rfl⟩) (fun k _ hk=>hw k hk) (fun _ _ _=>Mem.same_refl _ _)
 sep:=h.sep
 low:=fun b hb=>Zgy (h.low b hb) hs
theorem StoOk.alloc(h:StoOk S M μ sto w)(o:Obj):StoOk S M μ sto (w.alloc o):=h.world (by rw[Ml];omega) fun k hk=>Sl w o k hk
theorem StoOk.drew(h:StoOk S M μ sto w):StoOk S M μ sto w.drew:=h.world (Zgu _) fun _ _=>rfl
theorem StoOk.know(h:StoOk S M μ sto w)(ji:M.le M')(kh:M'.Sub w)(hm:∀m k,names sto m->An (μ m)=some k->M.same M' k):StoOk S M' μ sto w where
 sub:=kh
 blk:=fun m b hb=>(h.blk m b hb).mono ji rfl (fun _ _ k=>⟨k,rfl⟩) (fun _ _ _=>rfl) (fun k hk _=>hm m k (by simp[names,hb]) hk)
 sep:=h.sep
 low:=h.low
theorem StoOk.bind(h:StoOk S M μ sto w)(jl:Aa sto nm=none){b:Blk}{x:Value}(hb:AP S M (BA μ nm x) (names ((nm,b)::sto)) w nm b)
  (hsep:∀m k,names sto m->An (μ m)=some k->An x≠some k):StoOk S M (BA μ nm x) ((nm,b)::sto) w:=by
 have jg:∀m,names sto m->m≠nm:=fun m hm e=>by grind[names]
 refine⟨h.sub,fun m b' hm=>?_,fun m m' k k' w5 h1 h2 hk jk=>?_,h.low⟩
 ·by_cases e:nm=m
  ·subst e;simp only[Aa,Zad,Zhp]at hm;subst hm;exact hb
  ·simp only[Aa,Zac e]at hm;exact(h.blk m b' hm).mono (Mem.le_refl _) (CD _ _ (Ne.symm e)) (fun q hq hN=>⟨FX q hN,CD _ _ (jg q hN)⟩) (fun _ _ _=>rfl) (fun _ _ _=>Mem.same_refl _ _)
 ·have old:∀m,m≠nm->names ((nm,b)::sto) m->names sto m:=fun m e hm=>by simp only[names,Aa,Zac (Ne.symm e)]at hm;exact hm
  by_cases e:m=nm
  ·by_cases e':m'=nm
   ·exact absurd (e.trans e'.symm) w5
   ·subst e;rw[Bh]at hk;rw[CD _ _ e']at jk;intro hkk;subst hkk;exact hsep m' k (old m' e' h2) jk hk
  ·rw[CD _ _ e]at hk;by_cases e':m'=nm
   ·subst e';rw[Bh]at jk;intro hkk;subst hkk;exact hsep m k (old m e h1) hk jk
   ·rw[CD _ _ e']at jk;exact h.sep m m' k k' w5 (old m e h1) (old m' e' h2) hk jk
theorem fk(a:Act)(s:Option Nat)(v:Value):(a.put s v).tmps.size=a.tmps.size:=by cases s<;>simp[Act.put]
theorem fm(a:Act)(s:Option Nat)(v:Value):(a.put s v).defers=a.defers:=by cases s<;>simp[Act.put]
theorem fp(a:Act)(s t:Nat)(v:Value)(hs:s<a.tmps.size):(a.put (some s) v).tmps.getD t Go.undef=if s=t then v else a.tmps.getD t Go.undef:=by simp only[Act.put,Zbe,Zbm];grind
def St.put(st:St)(s:Nat)(d:D):St:=⟨.put s d st.env,st.sto⟩
def St.bind(st:St)(nm:Nat)(b:Blk):St:=⟨st.env,(nm,b)::st.sto⟩
def St.setB(st:St)(nm:Nat)(b:Blk):St:=⟨st.env,B7 st.sto nm b⟩
def St.frz(st:St)(nm:Nat)(b:Blk):St:=⟨.sb nm b st.env,B6 (Sk nm b st.sto) nm⟩
theorem Rel.put(h:Rel GL n S M μ st a w){s:Nat}(hs:s<n){d:D}{v:Value}(hd:AD M μ (names st.sto) d v):Rel GL n S M μ (st.put s d) (a.put (some s) v) w where
 toStoOk:=h.toStoOk
 small:=h.small
 pin:=h.pin
 defers:=by rw[fm];exact h.defers
 size:=by rw[fk];exact h.size
 env:=fun t=>by
  rw[fp _ _ _ _ (by rw[h.size];exact hs)];simp only[St.put,Aj];split
  ·exact hd
  ·exact h.env t
 glob:=h.glob
theorem H2.mono{GL:List (Nat×List I)}{M M':Mem}(h:H2 GL M)(hm:M.le M'):H2 GL M':=fun g cs hg=>(h g cs hg).mono hm
def eQ(GL:List (Nat×List I))(n:Nat)(S:Sh)(M:Mem)(w:World)(st':St)(a':Act)(w':World):Prop:=
 ∃M' μ',Rel GL n S M' μ' st' a' w'/\MExt S M M'/\Keeps S w w'
theorem eQ.of(h:Rel GL n S M μ st a w):eQ GL n S M w st a w:=⟨M,μ,h,MExt.refl _ _,Keeps.refl _ _⟩
theorem Rel.of(h:Rel GL n S M μ st a w){st':St}(hs:StoOk S M' μ' st'.sto w')(hg:M.le M')(he:∀s v,AD M μ (names st.sto) (Aj st.env s) v->AD M' μ' (names st'.sto) (Aj st'.env s) v)
  (hp:∀m,pinned m->μ' m=μ m:=by intros;rfl):Rel GL n S M' μ' st' a w' where
 toStoOk:=hs
 small:=h.small
 pin:=fun m hm=>(hp m hm).trans (h.pin m hm)
 defers:=h.defers
 size:=h.size
 env:=fun s=>he s _ (h.env s)
 glob:=h.glob.mono hg
def Mem.with(M:Mem)(b:Nat)(vs:Array Value):Mem:=⟨fun b' o=>if b'=b then vs[o]? else M.c b' o,M.m⟩
def Mem.withM(M:Mem)(b:Nat)(x:List MapEntry×Nat):Mem:=⟨M.c,fun b'=>if b'=b then some x else M.m b'⟩
theorem Mem.le_with{vs:Array Value}(h:M.unk b):M.le (M.with b vs):=
 ⟨fun b' o v hv=>by simp only[Mem.with];split<;>first|(rename_i e;subst e;rw[h.1 o]at hv;cases hv)|exact hv,fun b x hx=>hx⟩
theorem Mem.le_withM{x:List MapEntry×Nat}(h:M.unk b):M.le (M.withM b x):=
 ⟨fun _ _ _ hv=>hv,fun b' y hy=>by simp only[Mem.withM];split<;>first|(rename_i e;subst e;rw[h.2]at hy;cases hy)|exact hy⟩
theorem Mem.with_same{vs:Array Value}(h:k≠b):M.same (M.with b vs) k:=⟨fun o=>by simp[Mem.with,h],rfl⟩
theorem Mem.withM_same{x:List MapEntry×Nat}(h:k≠b):M.same (M.withM b x) k:=⟨fun o=>rfl,by simp[Mem.withM,h]⟩
theorem Mem.Sub.with(h:M.Sub w){b:Nat}{vs:Array Value}{t:TypeId}{fr:Nat×Nat}(hb:w.heap[b]? =some (.cells vs t fr)):(M.with b vs).Sub w:=
 ⟨fun b' o v hv=>by
  simp only[Mem.with]at hv;split at hv
  ·rename_i e;subst e;simp[World.cell?,hb,hv]
  ·exact h.1 _ _ _ hv,h.2⟩
theorem Mem.Sub.withM(h:M.Sub w){b:Nat}{x:List MapEntry×Nat}(hb:w.heap[b]? =some (.map x.1.toArray x.2)):(M.withM b x).Sub w:=
 ⟨h.1,fun b' y hy=>by
  simp only[Mem.withM]at hy;split at hy
  ·rename_i e;subst e;cases hy;exact hb
  ·exact h.2 _ _ hy⟩
theorem Rel.allocKnown(h:Rel GL n S M μ st a w)(vs:Array Value)(t:TypeId):
  Rel GL n S (M.with w.heap.size vs) μ st a (w.alloc (.cells vs t))/\MExt S M (M.with w.heap.size vs)/\Keeps S w (w.alloc (.cells vs t)):=by
 have ji:M.le (M.with w.heap.size vs):=Mem.le_with (Mem.unk_new h.sub (Zgu _));have h1:=h.toStoOk.alloc (.cells vs t);have h2:StoOk S (M.with w.heap.size vs) μ st.sto (w.alloc (.cells vs t)):=h1.know ji (h1.sub.with (GA w _)) fun m k hm hk=>Mem.with_same (by have:=h.toStoOk.lt hm hk;omega)
 exact⟨h.of h2 ji fun s v hv=>hv.mono ji fun _ k=>k,⟨ji,fun b hb=>Mem.with_same (by have:=h.low b hb;omega)⟩,FW w _ h.low⟩
theorem Rel.bindName(h:Rel GL n S M μ st a w)(jl:Aa st.sto nm=none)(jn:nm<n){b:Blk}{x:Value}(hb:AP S M (BA μ nm x) (names ((nm,b)::st.sto)) w nm b)
  (hsep:∀m k,names st.sto m->An (μ m)=some k->An x≠some k):Rel GL n S M (BA μ nm x) (st.bind nm b) a w:=by
 refine h.of (st':=st.bind nm b) (h.toStoOk.bind jl hb hsep) (Mem.le_refl _) (fun s v hv=>hv.mono' (Mem.le_refl _) fun q _ hN=>⟨FX q hN,CD _ _ fun e=>?_⟩) fun m hm=>CD _ _ (fj hm (by have:=h.small;omega))
 subst e;simp[names,jl]at hN
theorem Rel.bindNameN(h:Rel GL n S M μ st a w)(jl:Aa st.sto nm=none)(hp:¬pinned nm){b:Blk}{x:Value}(hb:AP S M (BA μ nm x) (names ((nm,b)::st.sto)) w nm b)
  (hsep:∀m k,names st.sto m->An (μ m)=some k->An x≠some k):Rel GL n S M (BA μ nm x) (st.bind nm b) a w:=by
 refine h.of (st':=st.bind nm b) (h.toStoOk.bind jl hb hsep) (Mem.le_refl _) (fun s v hv=>hv.mono' (Mem.le_refl _) fun q _ hN=>⟨FX q hN,CD _ _ fun e=>?_⟩) fun m hm=>CD _ _ (fun e=>hp (e▸hm))
 subst e;simp[names,jl]at hN
theorem Rel.allocMut(h:Rel GL n S M μ st a w)(jl:Aa st.sto nm=none)(jn:nm<n)(cs:List D)(vs:Array Value)(t:TypeId)(hs:vs.size=cs.length)
  (hd:∀j (h:j<cs.length) (h':j<vs.size),AD M μ (names st.sto) (cs[j]) (vs[j])):
  Rel GL n S M (BA μ nm (.pointer (some ⟨w.heap.size,0,none⟩))) (st.bind nm (.cells cs)) a (w.alloc (.cells vs t))/\Keeps S w (w.alloc (.cells vs t)):=by
 have h1:Rel GL n S M μ st a (w.alloc (.cells vs t)):=h.of (h.toStoOk.alloc _) (Mem.le_refl _) fun _ _ hv=>hv
 refine⟨h1.bindName jl jn ⟨w.heap.size,vs,t,Bh _ _ _,⟨fun hS=>by have:=h.low _ hS;omega,GA w _,Mem.unk_new h.sub (Zgu _)⟩,hs,fun j a b=>(hd j a b).mono' (Mem.le_refl _) fun q _ hN=>⟨FX q hN,CD _ _ fun e=>?_⟩⟩ ?_,FW w _ h.low⟩
 ·subst e;simp[names,jl]at hN
 ·intro m k hm hk;have:=(h.toStoOk.lt hm hk).1;simp only[An];intro e;cases e;omega
theorem StoOk.setBlk(h:StoOk S M μ sto w){blk blk':Blk}(jl:Aa sto nm=some blk){b:Nat}(hμ:An (μ nm)=some b)(hs:w.heap.size<=w'.heap.size)
  (k7:∀k,k≠b->k<w.heap.size->w'.heap[k]? =w.heap[k]?)(qu:AP S M μ (names (B7 sto nm blk')) w' nm blk'):StoOk S M μ (B7 sto nm blk') w':=by
 have hb:=h.lt (m:=nm) (by simp[names,jl]) hμ;refine⟨h.sub.world fun k hk hu=>k7 k (fun e=>by subst e;exact hu hb.2.2) hk,fun m bb hm=>?_,?_,fun k hk=>Zgy (h.low k hk) hs⟩
 ·by_cases e:m=nm
  ·subst e;simp only[CO,Zad,jl,Zhn,Zhp]at hm;subst hm;exact qu
  ·simp only[CO,Zac e]at hm;refine(h.blk m bb hm).mono (Mem.le_refl _) rfl (fun q _ hN=>⟨by rw[CC];exact hN,rfl⟩) (fun k hk jn=>k7 k ?_ jn) (fun _ _ _=>Mem.same_refl _ _);exact h.sep m nm k b e (by simp[names,hm]) (by simp[names,jl]) hk hμ
 ·rw[CC];exact h.sep
theorem Rel.setBlk(h:Rel GL n S M μ st a w){blk blk':Blk}(jl:Aa st.sto nm=some blk){b:Nat}(hμ:An (μ nm)=some b)(hs:w.heap.size<=w'.heap.size)
  (k7:∀k,k≠b->k<w.heap.size->w'.heap[k]? =w.heap[k]?)(qu:AP S M μ (names (B7 st.sto nm blk')) w' nm blk'):Rel GL n S M μ (st.setB nm blk') a w':=
 h.of (st':=st.setB nm blk') (h.toStoOk.setBlk jl hμ hs k7 qu) (Mem.le_refl _) fun s v hv=>by grind[St.setB,CC]
end
end Go.Dl
end
section
namespace Go.Dl
open Go Go.RowKit
def BG(cs:List D):Bool:=cs.all JH
theorem fq{l:List D}(h:BG l=true):l=(l.map H1).map D.i:=by
 induction l with
 |nil=>rfl
 |cons x l ih=>simp only[BG,Zct,Zbz]at h;rw[Ze1,Ze1,<-ih h.2];congr 1;cases x<;>simp[JH]at h<;>rfl
section
variable {GL:List (Nat×List I)}{n:Nat}{S:Sh}{M M':Mem}{μ μ':Place}{N N':Nat->Prop}{st:St}{sto:List (Nat×Blk)}{a:Act}{w w':World}{nm:Nat}{b:Blk}
theorem B8.sb(ji:M.le M')(hN:∀m,m≠nm->N m->N' m/\μ' m=μ m)(hp:∀r v,r.nm=nm->BF μ N r v->B8 M' μ' N' (VP nm b r) v){x:Cp}{v:Value}(h:B8 M μ N x v):B8 M' μ' N' (fc nm b x) v:=by
 cases x with
 |any=>trivial
 |i y=>exact Rep.mono ji h
 |ref r=>
  by_cases e:r.nm=nm
  ·exact hp r v e h
  ·simp only[fc,VP,Zac e];have:=hN r.nm e (BF.name h);exact BF.mono h this.1 this.2
theorem B8.toD{x:Cp}{v:Value}(h:B8 M μ N x v):AD M μ N x.toD v:=by
 cases x with
 |any=>trivial
 |i y=>exact h
 |ref r=>exact h
theorem DU.sb(ji:M.le M')(hN:∀m,m≠nm->N m->N' m/\μ' m=μ m)(hp:∀r v,r.nm=nm->BF μ N r v->B8 M' μ' N' (VP nm b r) v){xs:List Cp}{vs:List Value}(h:DU M μ N xs vs):
  DU M' μ' N' (xs.map (fc nm b)) vs:=
 ⟨by simpa using h.1,fun j a b=>by rw[Zee];exact(h.2 j (by simpa using a) b).sb ji hN hp⟩
theorem AD.sb(ji:M.le M')(hN:∀m,m≠nm->N m->N' m/\μ' m=μ m)(hp:∀r v,r.nm=nm->BF μ N r v->B8 M' μ' N' (VP nm b r) v){x:D}{v:Value}(h:AD M μ N x v):AD M' μ' N' (PZ nm b x) v:=by
 cases x with
 |any=>trivial
 |i y=>exact Rep.mono ji h
 |ref r=>exact(B8.sb (x:=.ref r) ji hN hp h).toD
 |fn f first caps=>obtain⟨va,vb,e,hy,h1,h2⟩:=h;exact⟨va,vb,e,hy.imp id (fun q=>by rw[q];rfl),h1.sb ji hN hp,h2.sb ji hN hp⟩
 |tup cs=>obtain⟨vs,e,h1⟩:=h;exact⟨vs,e,h1.sb ji hN hp⟩
theorem AP.sb{m:Nat}{x:Blk}(ji:M.le M')(hN:∀m,m≠nm->N m->N' m/\μ' m=μ m)(hp:∀r v,r.nm=nm->BF μ N r v->B8 M' μ' N' (VP nm b r) v)(hμ:μ' m=μ m)
  (hw:∀k,An (μ m)=some k->k<w.heap.size->w'.heap[k]? =w.heap[k]?)(hm:∀k,An (μ m)=some k->k<w.heap.size->M.same M' k)(h:AP S M μ N w m x):AP S M' μ' N' w' m (eW nm b x):=by
 cases x with
 |cells cs=>
  obtain⟨bb,vs,t,e,ho,hs,hr⟩:=h;have hb:An (μ m)=some bb:=by rw[e];rfl
  refine⟨bb,vs,t,by rw[hμ];exact e,ho.mono (hw bb hb ho.lt) (hm bb hb ho.lt),by simpa using hs,fun j h h'=>?_⟩;rw[Zee];exact(hr j (by simpa using h) h').sb ji hN hp
 |rows e k rs=>exact AP.mono (b:=.rows e k rs) h ji hμ (fun _ hx=>by simp[Blk.nms]at hx) hw hm
 |map ls es=>exact AP.mono (b:=.map ls es) h ji hμ (fun _ hx=>by simp[Blk.nms]at hx) hw hm
 |iter cur rest=>exact AP.mono (b:=.iter cur rest) h ji hμ (fun _ hx=>by simp[Blk.nms]at hx) hw hm
 |lp l q cs=>
  obtain⟨vs,e,ho,hs,hr⟩:=h;have hb:An (μ m)=some l:=by rw[e];rfl
  refine⟨vs,by rw[hμ];exact e,ho.mono (hw l hb ho.lt) (hm l hb ho.lt),by simpa using hs,fun j h h'=>?_⟩;rw[Zee];exact(hr j (by simpa using h) h').sb ji hN hp
 |gmap ls clk es=>
  obtain⟨bb,xs,e,ho,q1,q2,q3⟩:=h;have hb:An (μ m)=some bb:=by rw[e];rfl
  refine⟨bb,xs,by rw[hμ];exact e,ho.mono (hw bb hb ho.lt) (hm bb hb ho.lt),⟨by simpa using q1.1,fun j h h'=>?_⟩,q2,fun e he=>?_⟩
  ·rw[Zee];have:=q1.2 j (by simpa using h) h';exact⟨this.1.mono ji,this.2.1,this.2.2.sb ji hN hp⟩
  ·obtain⟨e0,he0,rfl⟩:=Zfh.1 he;exact q3 e0 he0
 |arr e k rs=>exact AP.mono (b:=.arr e k rs) h ji hμ (fun _ hx=>by simp[Blk.nms]at hx) hw hm
theorem VU{m:Nat}(hm:m≠nm)(h:names sto m):names (B6 (Sk nm b sto) nm) m:=by grind[names,JM,Hl,Aa]
theorem VV{m:Nat}(h:names (B6 (Sk nm b sto) nm) m):m≠nm/\names sto m:=by grind[names,JM,Hl,Aa]
theorem StoOk.giveup(h:StoOk S M μ sto w)(ji:M.le M')(kh:M'.Sub w)(hp:∀r v,r.nm=nm->BF μ (names sto) r v->B8 M' μ (names (B6 (Sk nm b sto) nm)) (VP nm b r) v)
  (hm:∀k,An (μ nm)≠some k->M.same M' k)(jl:names sto nm):StoOk S M' μ (B6 (Sk nm b sto) nm) w:=by
 refine⟨kh,fun m x hx=>?_,fun m m' k k' w5 h1 h2 hk jk=>h.sep m m' k k' w5 (VV h1).2 (VV h2).2 hk jk,h.low⟩;simp only[JM,Hl]at hx;split at hx
 ·cases hx
 ·rename_i jg;cases hy:Aa sto m with
  |none=>simp[hy]at hx
  |some y=>simp only[hy,Zhn,Zhp]at hx;subst hx;refine(h.blk m y hy).sb ji (fun q hq hN=>⟨VU hq hN,rfl⟩) hp rfl (fun _ _ _=>rfl) (fun k hk _=>hm k fun e=>?_);exact h.sep m nm k k jg (by simp[names,hy]) jl hk e rfl
theorem Rel.giveup(h:Rel GL n S M μ st a w)(ji:M.le M')(kh:M'.Sub w)(hp:∀r v,r.nm=nm->BF μ (names st.sto) r v->B8 M' μ (names (B6 (Sk nm b st.sto) nm)) (VP nm b r) v)
  (hm:∀k,An (μ nm)≠some k->M.same M' k)(jl:names st.sto nm):Rel GL n S M' μ (st.frz nm b) a w:=
 h.of (st':=st.frz nm b) (h.toStoOk.giveup ji kh hp hm jl) ji fun s v hv=>by simp only[St.frz,Aj];exact hv.sb ji (fun q hq hN=>⟨VU hq hN,rfl⟩) hp
theorem Rel.drop(h:Rel GL n S M μ st a w)(jl:names st.sto nm):Rel GL n S M μ (st.frz nm (.iter none [])) a w:=by refine h.giveup (Mem.le_refl _) h.sub (fun r v e _=>?_) (fun _ _=>Mem.same_refl _ _) jl;simp only[VP,Zaa e];cases r<;>trivial
theorem fu{cur:Array Value}{o k cap bb:Nat}{rs:List (List I)}(h:Ex M' cur o k rs)(hk:∀x,x<cur.size->M'.c bb x=cur[x]?){lo hi:Nat}(qi:lo<=hi)(qw:hi<=rs.length)(hc:rs.length<=cap):
  Rep M' (.sl ((rs.take hi).drop lo)) (.slice (some ⟨bb,o+lo*k,none⟩) (hi-lo) (cap-lo)):=by
 obtain⟨h1,h2⟩:=h;have hl:((rs.take hi).drop lo).length=hi-lo:=by simp;omega
 by_cases he:hi=lo
 ·subst he;have:(rs.take hi).drop hi=[]:=Zdf (by omega);rw[this,Zg5];exact .slempty _ _
 have ki:∀i (ja:i<((rs.take hi).drop lo).length),((rs.take hi).drop lo)[i]=rs[lo+i]'(by omega):=fun i ja=>by simp
 have:=Rep.sl (M:=M') ((rs.take hi).drop lo) k bb (o+lo*k) (cap-lo) (fun i j=>cur.getD (o+(lo+i)*k+j) Go.undef) (fun r hr=>h1 r (Zfl (Zfj hr))) (by omega)
  (fun i ja j hj=>by
   rw[ki i ja]at hj;obtain⟨v,hv,_⟩:=h2 (lo+i) (by omega) j hj;have hx:o+lo*k+i*k+j=o+(lo+i)*k+j:=by grind
   rw[hx,hk _ (Zbj.1 hv).1,hv];simp[Zbe,hv])
  (fun i ja j hj=>by
   have jp:=hj;rw[ki i ja]at jp;obtain⟨v,hv,hr⟩:=h2 (lo+i) (by omega) j jp;simp only[Zbe,hv,Zhh];have e:=ki i ja;have:((rs.take hi).drop lo)[i][j]=rs[lo+i][j]:=by simp
   rw[this];exact hr)
 rw[hl]at this;exact this
theorem fw{cur:Array Value}{o k bb:Nat}{rs:List (List I)}(h:Ex M' cur o k rs)(hk:∀x,x<cur.size->M'.c bb x=cur[x]?){row:Nat}(jv:row<rs.length)(off:Nat):
  Rep M' (.elt (rs.getD row []) off) (.pointer (some ⟨bb,o+row*k+off,none⟩)):=by
 have e:rs.getD row []=rs[row]:=by grind
 rw[e];refine Rep.elt _ off bb (o+row*k) (fun j=>cur.getD (o+row*k+j) Go.undef) (fun j hj=>?_) (fun j hj=>?_)
 ·obtain⟨v,hv,_⟩:=h.2 row jv j hj;rw[hk _ (Zbj.1 hv).1,hv];simp[Zbe,hv]
 ·obtain⟨v,hv,hr⟩:=h.2 row jv j hj;simp only[Zbe,hv,Zhh];exact hr
theorem VW{xs:List MapEntry}{clk b:Nat}{es:List (I×I)}(h:EW M' xs es)(hb:Gz xs clk)(hm:M'.m b=some (xs,clk)):Rep M' (.map es) (.map (some b)):=
 .map es b xs clk hm h.1 hb (fun j hj=>(h.2 j hj (by rw[h.1];exact hj)).1) (fun j hj=>(h.2 j hj (by rw[h.1];exact hj)).2)
def Fr:Blk->Bool
 |.cells cs=>BG cs
 |.lp _ _ _=>false
 |.arr _ _ _=>false
 |.gmap _ _ es=>es.all fun e=>JH e.2.2
 |_=>true
theorem Rel.freeze(h:Rel GL n S M μ st a w)(hg:Aa st.sto nm=some b)(k8:Fr b=true):∃M',Rel GL n S M' μ (st.frz nm b) a w/\MExt S M M':=by
 have jl:names st.sto nm:=by simp[names,hg]
 have hbk:=h.blk nm b hg;cases b with
 |cells cs=>
  obtain⟨bb,vs,t,e,ho,hs,hr⟩:=hbk;have ji:M.le (M.with bb vs):=Mem.le_with ho.unk;refine⟨M.with bb vs,h.giveup ji (h.sub.with ho.heap) (fun r v er hv=>?_) (fun k hk=>Mem.with_same fun e'=>hk (by rw[e,e'];rfl)) jl,⟨ji,fun k hk=>Mem.with_same fun e'=>ho.low (e'▸hk)⟩⟩;simp only[VP,Zaa er];cases r with
  |loc m off=>
   obtain rfl:m=nm:=er;obtain⟨_,b',e1,rfl⟩:=hv;obtain rfl:bb=b':=by rw[e]at e1;injection e1 with q;injection q with q;injection q
   have jj:=fq k8;have:=Rep.elt (M:=M.with bb vs) (cs.map H1) off bb 0 (fun j=>vs.getD j Go.undef) (fun j hj=>by
    simp at hj;simp[Mem.with,show j<vs.size by omega]) (fun j hj=>by
    have jp:j<cs.length:=by simpa using hj
    have:=hr j jp (by omega);have e2:cs[j]=.i ((cs.map H1)[j]):=by have:=Zae (·[j]?) jj;simp[Zd2 jp]at this;simpa using this
    rw[e2]at this;simp only[Zbe,show vs[j]? =some vs[j] by simp[show j<vs.size by omega],Zhh];exact Rep.mono ji this)
   rw[Zg8]at this;exact this
  |_=>trivial
 |rows et k rs=>
  obtain⟨aa,cap,e,hh⟩:=hbk;rcases hh with⟨rfl,rfl⟩|⟨bb,o,cur,rfl,hc,ho,q1,q2,q3,q4⟩
  ·refine⟨M,h.giveup (Mem.le_refl _) h.sub (fun r v er hv=>?_) (fun _ _=>Mem.same_refl _ _) jl,MExt.refl _ _⟩;simp only[VP,Zaa er];cases r with
   |sl m k' lo hi=>
    obtain rfl:m=nm:=er;dsimp only;split
    ·rename_i ji;replace ji:=ji.2;obtain⟨_,a',cap',e1,g1,g2,g3⟩:=hv;rw[e]at e1;injection e1 with e2 e3 e4
     subst e4;obtain rfl:lo=0:=by omega
     obtain rfl:hi=0:=by omega
     rcases g3 with⟨_,a'',rfl⟩|⟨b',o',e5,rfl⟩
     ·show Rep M (.sl _) _;simp only[Zge,List.drop_nil];cases a'' with
      |none=>exact .slnil
      |some x=>exact .slempty _ _
     ·show Rep M (.sl _) _;simp only[Zge,List.drop_nil];exact .slempty _ _
    ·trivial
   |lel m k' row off=>
    dsimp only;split
    ·rename_i hh;simp at hh
    ·trivial
   |_=>trivial
  ·have ji:M.le (M.with bb cur):=Mem.le_with ho.unk;have hbo:An (μ nm)=some bb:=by rw[e];simp only[An];rw[Zac (by omega)]
   refine⟨M.with bb cur,h.giveup ji (h.sub.with ho.heap) (fun r v er hv=>?_) (fun k hk=>Mem.with_same fun e'=>hk (by rw[e',hbo])) jl,⟨ji,fun k hk=>Mem.with_same fun e'=>ho.low (e'▸hk)⟩⟩;have hkn:∀x,x<cur.size->(M.with bb cur).c bb x=cur[x]? :=fun x hx=>by simp[Mem.with]
   have q4':=q4.mono ji;simp only[VP,Zaa er];cases r with
   |sl m k' lo hi=>
    obtain rfl:m=nm:=er;dsimp only;split
    ·rename_i kl;obtain⟨rfl,hle'⟩:=kl;obtain⟨_,a',cap',e1,g1,g2,g3⟩:=hv;rw[e]at e1;injection e1 with e2 e3 e4
     subst e4;subst e2;rcases g3 with⟨rfl,a'',rfl⟩|⟨b',o',e5,rfl⟩
     ·obtain rfl:hi=cap:=by omega
      show Rep _ (.sl _) _;have:(rs.take hi).drop hi=[]:=by rw[Zc9];simp;omega
      rw[this];cases a'' with
      |none=>exact .slnil
      |some x=>exact .slempty _ _
     ·injection e5 with e5;injection e5 with e5 e6;subst e5;subst e6
      exact fu q4' hkn g1 hle' q3
    ·trivial
   |lel m k' row off=>
    obtain rfl:m=nm:=er;dsimp only;split
    ·rename_i kl;obtain⟨rfl,jv⟩:=kl;obtain⟨_,b',o',cap',e1,_,rfl⟩:=hv;rw[e]at e1;injection e1 with e2 e3 e4
     injection e2 with e2;injection e2 with e5 e6;subst e5;subst e6
     exact fw q4' hkn jv off
    ·trivial
   |_=>trivial
 |map ls es=>
  obtain⟨bb,xs,clk,e,ho,q1,q2,q3⟩:=hbk;have ji:M.le (M.withM bb (xs.toList,clk)):=Mem.le_withM ho.unk;refine⟨M.withM bb (xs.toList,clk),h.giveup ji (h.sub.withM (by simpa using ho.heap)) (fun r v er hv=>?_) (fun k hk=>Mem.withM_same fun e'=>hk (by rw[e,e'];rfl)) jl,⟨ji,fun k hk=>Mem.withM_same fun e'=>ho.low (e'▸hk)⟩⟩;simp only[VP,Zaa er];cases r with
  |mp m=>obtain rfl:m=nm:=er;obtain⟨_,b',e1,rfl⟩:=hv;rw[e]at e1;injection e1 with e1;injection e1 with e1;subst e1;exact VW (q1.mono ji) q2 (by simp[Mem.withM])
  |_=>trivial
 |iter cur rest=>refine⟨M,h.giveup (Mem.le_refl _) h.sub (fun r v er _=>?_) (fun _ _=>Mem.same_refl _ _) jl,MExt.refl _ _⟩;simp only[VP,Zaa er];cases r<;>trivial
 |lp l q cs=>simp[Fr]at k8
 |arr e k rs=>simp[Fr]at k8
 |gmap ls clk es=>
  obtain⟨bb,xs,e,ho,q1,q2,q3⟩:=hbk;have ji:M.le (M.withM bb (xs.toList,clk)):=Mem.le_withM ho.unk;refine⟨M.withM bb (xs.toList,clk),h.giveup ji (h.sub.withM (by simpa using ho.heap)) (fun r v er hv=>?_) (fun k hk=>Mem.withM_same fun e'=>hk (by rw[e,e'];rfl)) jl,⟨ji,fun k hk=>Mem.withM_same fun e'=>ho.low (e'▸hk)⟩⟩;simp only[VP,Zaa er];cases r with
  |mp m=>
   obtain rfl:m=nm:=er;obtain⟨_,b',e1,rfl⟩:=hv;rw[e]at e1;injection e1 with e1;injection e1 with e1;subst e1;dsimp only;have jj:(es.all fun e=>JH e.2.2)=true:=k8;rw[Zaa jj];refine VW ⟨by simpa using q1.1,fun j h1 h2=>?_⟩ q2 (by simp[Mem.withM]);have hj:j<es.length:=by simpa using h1
   have:=q1.2 j hj h2;rw[Zee];refine⟨this.1.mono ji,?_⟩;have hi:JH es[j].2.2=true:=by rw[Zcu]at jj;exact jj _ (Zef hj)
   have h3:=this.2.2;revert hi h3;cases es[j].2.2<;>intro hi h3<;>first|(simp[JH]at hi;done)|exact Rep.mono ji h3
  |_=>trivial
def St.frzN(st:St)(nm:Nat):St:=match Aa st.sto nm with
 |some b=>if Fr b=true then st.frz nm b else st
 |none=>st
theorem Rel.frzN(h:Rel GL n S M μ st a w)(nm:Nat):∃M',Rel GL n S M' μ (st.frzN nm) a w/\MExt S M M':=by
 unfold St.frzN;split
 ·split
  ·exact h.freeze ‹_› ‹_›
  ·grind[MExt.refl]
 ·grind[MExt.refl]
def frzNs:List Nat->St->St
 |[],st=>st
 |nm::r,st=>frzNs r (st.frzN nm)
theorem Rel.frzNs:∀(l:List Nat) {M:Mem} {st:St},Rel GL n S M μ st a w->∃M',Rel GL n S M' μ (Dl.frzNs l st) a w/\MExt S M M'
 |[],M,st,h=>⟨M,h,MExt.refl _ _⟩
 |x::l,M,st,h=>by obtain⟨M1,h1,m1⟩:=h.frzN x;obtain⟨M2,h2,m2⟩:=Rel.frzNs l h1;exact⟨M2,h2,m1.trans m2⟩
end
end Go.Dl
end
section
namespace Go.Dl
open Go Go.RowKit
def Ck(P:Program)(f:FuncId):Bool:=
 Nat.blt f 1000000000&&match P.funcs[f]? with
 |some fn=>fn.name != "runtime.NumGoroutine"&&fn.body.isSome
 |none=>false
def KO(P:Program)(f:FuncId)(vs:Array Value)(w:World)(R:Value->World->Prop):Prop:=
 (Ck P f=true/\Calls P f vs w fun e w'=>∃v,e=.returned v/\R v w')\/(Nat.blt f 1000000000=true/\∃row,(callFunc f vs).run P w=.ok (.row row vs) w/\Rows P row vs w R)\/(Nat.blt f 1000000000=true/\∃v w',(callFunc f vs).run P w=.ok (.value v) w'/\R v w')\/
  (Nat.blt f 1000000000=false/\∃fn tmps assign body,(Instr.yield (f-1000000000) vs).run P w=.ok (.round (f-1000000000) fn tmps assign body) w/\RoundIn Fence.wide 0 P (f-1000000000) fn tmps assign body w fun e w'=>∃v,e=.returned v/\R v w')
theorem KO.mono{P:Program}{f:FuncId}{vs:Array Value}{w:World}{R R':Value->World->Prop}(h:KO P f vs w R)(hr:∀v w',R v w'->R' v w'):KO P f vs w R':=by
 rcases h with⟨h1,h2⟩|⟨hy,row,h1,h2⟩|⟨hy,v,w',h1,h2⟩|⟨hy,fn,tmps,as,bd,h1,h2⟩
 ·exact .inl ⟨h1,h2.mono fun _ _ ⟨v,a,b⟩=>⟨v,a,hr _ _ b⟩⟩
 ·exact .inr (.inl ⟨hy,row,h1,h2.mono hr⟩)
 ·exact .inr (.inr (.inl ⟨hy,v,w',h1,hr _ _ h2⟩))
 ·exact .inr (.inr (.inr ⟨hy,fn,tmps,as,bd,h1,h2.mono fun _ _ ⟨v,a,b⟩=>⟨v,a,hr _ _ b⟩⟩))
def Db(M:Mem)(μ:Place)(N:Nat->Prop)(xs:List D)(vs:List Value):Prop:=vs.length=xs.length/\∀j (h:j<xs.length) (h':j<vs.length),AD M μ N (xs[j]) (vs[j])
def AL(μ:Place)(sto:List (Nat×Blk))(w:World):Sh:=⟨fun b=>b<w.heap.size/\∀nm,names sto nm->An (μ nm)≠some b,μ,[]⟩
def MC(P:Program)(GL:List (Nat×List I))(f:FuncId)(args:List D)(sto:List (Nat×Blk))(mv:List Nat)(R:D->List (Nat×Blk)->Prop):Prop:=
 ∀(M:Mem) (μ:Place) (w:World) (vs:Array Value),StoOk (AL μ sto w) M μ sto w->H2 GL M->Db M μ (names sto) args vs.toList->
  KO P f vs w fun v w'=>∃r sto' M' μ',R r sto'/\StoOk (AL μ sto w) M' μ' sto' w'/\AD M' μ' (names sto') r v/\MExt (AL μ sto w) M M'/\Keeps (AL μ sto w) w w'/\∀nm,names sto nm->nm∉mv->μ' nm=μ nm
theorem MC.mono{P:Program}{GL:List (Nat×List I)}{f:FuncId}{args:List D}{sto:List (Nat×Blk)}{mv:List Nat}{R R':D->List (Nat×Blk)->Prop}(h:MC P GL f args sto mv R)(hr:∀r s,R r s->R' r s):MC P GL f args sto mv R':=
 fun M μ w vs h1 h2 h3=>(h M μ w vs h1 h2 h3).mono fun _ _ ⟨r,s,M',μ',a,b⟩=>⟨r,s,M',μ',hr _ _ a,b⟩
def ren(d n:Nat):Nat:=if n=6000 then d else if n=d then 6000 else if n=6001 then d+1000 else if n=d+1000 then 6001 else n
theorem IN{d:Nat}(h:d<1000)(n:Nat):ren d (ren d n)=n:=by unfold ren;grind
def JN(d:Nat):Ref->Ref
 |.loc nm off=>.loc (ren d nm) off
 |.sl nm k lo hi=>.sl (ren d nm) k lo hi
 |.lel nm k row off=>.lel (ren d nm) k row off
 |.mp nm=>.mp (ren d nm)
 |.it nm=>.it (ren d nm)
def JO(d:Nat):Cp->Cp
 |.ref r=>.ref (JN d r)
 |c=>c
def CW(d:Nat):D->D
 |.ref r=>.ref (JN d r)
 |.fn f first caps=>.fn f (first.map (JO d)) (caps.map (JO d))
 |.tup cs=>.tup (cs.map (JO d))
 |x=>x
def Ey(d:Nat):Blk->Blk
 |.cells cs=>.cells (cs.map (CW d))
 |.lp l q cs=>.lp l q (cs.map (CW d))
 |.gmap ls clk es=>.gmap ls clk (es.map fun e=>(e.1,e.2.1,CW d e.2.2))
 |x=>x
def A7(d:Nat):List (Nat×Blk)->List (Nat×Blk)
 |[]=>[]
 |(m,x)::r=>(ren d m,Ey d x)::A7 d r
theorem fx{d:Nat}(h:d<1000){a b:Nat}(e:ren d a=ren d b):a=b:=by grind[IN]
theorem Sm{d:Nat}(h:d<1000)(l:List (Nat×Blk))(m:Nat):Aa (A7 d l) m=(Aa l (ren d m)).map (Ey d):=by
 induction l with
 |nil=>rfl
 |cons x r ih=>grind[A7,Aa,ren]
theorem VX{d:Nat}(h:d<1000)(l:List (Nat×Blk))(m:Nat):names (A7 d l) m↔names l (ren d m):=by grind[names,Sm,Aa,ren]
section
variable {GL:List (Nat×List I)}{n:Nat}{S:Sh}{M M':Mem}{μ μ':Place}{N N':Nat->Prop}{st:St}{sto sto':List (Nat×Blk)}{a:Act}{w w':World}{nm d:Nat}{b:Blk}
theorem BF.ren(_hd:d<1000)(hN:∀m,N m->N' (ren d m))(hμ:∀m,N m->μ' (Dl.ren d m)=μ m){r:Ref}{v:Value}(h:BF μ N r v):BF μ' N' (JN d r) v:=by cases r<;>exact⟨hN _ h.1,by rw[hμ _ h.1];exact h.2⟩
theorem B8.ren(hd:d<1000)(hN:∀m,N m->N' (ren d m))(hμ:∀m,N m->μ' (Dl.ren d m)=μ m){x:Cp}{v:Value}(h:B8 M μ N x v):B8 M μ' N' (JO d x) v:=by
 cases x with
 |ref r=>exact BF.ren hd hN hμ h
 |_=>exact h
theorem AD.ren(hd:d<1000)(hN:∀m,N m->N' (ren d m))(hμ:∀m,N m->μ' (Dl.ren d m)=μ m){x:D}{v:Value}(h:AD M μ N x v):AD M μ' N' (CW d x) v:=by
 cases x with
 |ref r=>exact BF.ren hd hN hμ h
 |fn f first caps=>
  obtain⟨va,vb,e,hy,h1,h2⟩:=h;have key:∀{l:List Cp} {vs:List Value},DU M μ N l vs->DU M μ' N' (l.map (JO d)) vs:=fun h=>⟨by simpa using h.1,fun j a b=>by rw[Zee];exact(h.2 j (by simpa using a) b).ren hd hN hμ⟩
  exact⟨va,vb,e,hy.imp id (fun q=>by rw[q];rfl),key h1,key h2⟩
 |tup cs=>obtain⟨vs,e,h1⟩:=h;exact⟨vs,e,by simpa using h1.1,fun j a b=>by rw[Zee];exact(h1.2 j (by simpa using a) b).ren hd hN hμ⟩
 |_=>exact h
theorem Hj.ren(hd:d<1000)(hN:∀m,N m->N' (ren d m))(hμ:∀m,N m->μ' (Dl.ren d m)=μ m){xs:List MapEntry}{es:List (I×Nat×D)}(h:Hj M μ N xs es):Hj M μ' N' xs (es.map fun e=>(e.1,e.2.1,CW d e.2.2)):=
 ⟨by simpa using h.1,fun j a b=>by rw[Zee];have:=h.2 j (by simpa using a) b;exact⟨this.1,this.2.1,this.2.2.ren hd hN hμ⟩⟩
theorem AP.ren(hd:d<1000)(hN:∀m,N m->N' (ren d m))(hμ:∀m,N m->μ' (Dl.ren d m)=μ m){x:Blk}(hn:N nm)(h:AP S M μ N w nm x):AP S M μ' N' w (Dl.ren d nm) (Ey d x):=by
 cases x with
 |cells cs=>obtain⟨bb,vs,t,e,ho,hs,hr⟩:=h;exact⟨bb,vs,t,by rw[hμ _ hn];exact e,ho,by simpa using hs,fun j h h'=>by rw[Zee];exact(hr j (by simpa using h) h').ren hd hN hμ⟩
 |lp l q cs=>obtain⟨vs,e,ho,hs,hr⟩:=h;exact⟨vs,by rw[hμ _ hn];exact e,ho,by simpa using hs,fun j h h'=>by rw[Zee];exact(hr j (by simpa using h) h').ren hd hN hμ⟩
 |gmap ls clk es=>obtain⟨bb,xs,e,ho,q1,q2,q3⟩:=h;exact⟨bb,xs,by rw[hμ _ hn];exact e,ho,q1.ren hd hN hμ,q2,fun e he=>by obtain⟨e0,he0,rfl⟩:=Zfh.1 he;exact q3 e0 he0⟩
 |_=>simp only[Ey,AP]at h⊢;rw[hμ _ hn];exact h
def Mm:List Nat->Env->Env
 |[],e=>e
 |nm::r,e=>Mm r (.sb nm (.iter none []) e)
def Mn:List Nat->D->D
 |[],x=>x
 |nm::r,x=>Mn r (PZ nm (.iter none []) x)
def KP:List Nat->List (Nat×Blk)->List (Nat×Blk)
 |[],s=>s
 |nm::r,s=>KP r (Sk nm (.iter none []) s)
def Oh:List Nat->Blk->Blk
 |[],x=>x
 |nm::r,x=>Oh r (eW nm (.iter none []) x)
def KQ(sto:List (Nat×Blk)):List Nat->List (Nat×Blk)
 |[]=>sto
 |nm::r=>KQ (B6 sto nm) r
theorem Sn:∀(l:List Nat) (e:Env) (s:Nat),Aj (Mm l e) s=Mn l (Aj e s)
 |[],_,_=>rfl
 |nm::r,e,s=>by simp only[Mm,Mn,Sn r];rfl
theorem P2:∀(l:List Nat) (s:List (Nat×Blk)) (m:Nat),Aa (KP l s) m=(Aa s m).map (Oh l)
 |[],s,m=>by simp only[KP];cases Aa s m<;>rfl
 |nm::r,s,m=>by simp only[KP,P2 r,Hl];cases Aa s m<;>rfl
theorem P3:∀(l:List Nat) (s:List (Nat×Blk)) (m:Nat),Aa (KQ s l) m=if m∈l then none else Aa s m
 |[],s,m=>by simp[KQ]
 |nm::r,s,m=>by simp only[KQ,P3 r,JM,Zfb];grind
theorem B8.scr(hN:∀m,m≠nm->N m->N' m/\μ' m=μ m){x:Cp}{v:Value}(h:B8 M μ N x v):B8 M μ' N' (fc nm (.iter none []) x) v:=
 h.sb (Mem.le_refl _) hN fun r v e _=>by simp only[VP,Zaa e];cases r<;>trivial
theorem AD.scr1(hN:∀m,m≠nm->N m->N' m/\μ' m=μ m){x:D}{v:Value}(h:AD M μ N x v):AD M μ' N' (PZ nm (.iter none []) x) v:=
 h.sb (Mem.le_refl _) hN fun r v e _=>by simp only[VP,Zaa e];cases r<;>trivial
theorem AD.scr:∀(l:List Nat) {N N':Nat->Prop} {μ μ':Place} {x:D} {v:Value},(∀m,m∉l->N m->N' m/\μ' m=μ m)->AD M μ N x v->AD M μ' N' (Mn l x) v
 |[],N,N',μ,μ',x,v,hN,h=>h.mono' (Mem.le_refl _) fun m _ hm=>hN m (by simp) hm
 |nm::r,N,N',μ,μ',x,v,hN,h=>by
  have h1:AD M μ (fun m=>N m/\m≠nm) (PZ nm (.iter none []) x) v:=h.scr1 fun m hm hn=>⟨⟨hn,hm⟩,rfl⟩
  exact AD.scr r (fun m hm hn=>hN m (by simp[hn.2,hm]) hn.1) h1
theorem AP.scr:∀(l:List Nat) {N N':Nat->Prop} {μ μ':Place} {x:Blk},(∀m,m∉l->N m->N' m/\μ' m=μ m)->μ' nm=μ nm->AP S M μ N w nm x->AP S M μ' N' w nm (Oh l x)
 |[],N,N',μ,μ',x,hN,hμ,h=>h.mono (Mem.le_refl _) hμ (fun m _ hm=>hN m (by simp) hm) (fun _ _ _=>rfl) (fun _ _ _=>Mem.same_refl _ _)
 |p::r,N,N',μ,μ',x,hN,hμ,h=>by have h1:AP S M μ (fun m=>N m/\m≠p) w nm (eW p (.iter none []) x):=h.sb (Mem.le_refl _) (fun m hm hn=>⟨⟨hn,hm⟩,rfl⟩) (fun r v e _=>by simp only[VP,Zaa e];cases r<;>trivial) rfl (fun _ _ _=>rfl) (fun _ _ _=>Mem.same_refl _ _);exact AP.scr r (fun m hm hn=>hN m (by simp[hn.2,hm]) hn.1) hμ h1
def KR(sto sto':List (Nat×Blk))(mv:List Nat):List Nat:=(sto.map (·.1)).filter fun nm=>mv.contains nm||(Aa sto' nm).isNone
def Ds(st:St)(sto sto':List (Nat×Blk))(mv:List Nat)(d:Nat):St:=
 ⟨Mm (KR sto sto' mv) st.env,A7 d sto'++KP (KR sto sto' mv) (KQ st.sto (sto.map (·.1)))⟩
theorem JP(l r:List (Nat×Blk))(m:Nat):Aa (l++r) m=match Aa l m with|some b=>some b|none=>Aa r m:=by
 induction l with
 |nil=>rfl
 |cons x l ih=>obtain⟨p,q⟩:=x;simp only[Zc3,Aa];split;rfl;exact ih
theorem Cl{m:Nat}:m∈sto.map (·.1)↔names sto m:=by
 induction sto with
 |nil=>simp[names,Aa]
 |cons x r ih=>grind[names,Aa]
theorem StoOk.hand(h:StoOk S M μ st.sto w)(hs:∀nm b,Aa sto nm=some b->Aa st.sto nm=some b)(hc:∀nm b,Aa sto nm=some b->∀m∈b.nms,names sto m):StoOk (AL μ sto w) M μ sto w where
 sub:=h.sub
 blk:=fun m x hx=>by
  have hk:=h.blk m x (hs m x hx);have hn:names sto m:=by simp[names,hx]
  have own:∀{bb:Nat} {o:Obj},An (μ m)=some bb->Owns S M w bb o->Owns (AL μ sto w) M w bb o:=fun e ho=>⟨fun w6=>w6.2 m hn e,ho.heap,ho.unk⟩
  cases x with
  |cells cs=>obtain⟨bb,vs,t,e,ho,j0,hr⟩:=hk;exact⟨bb,vs,t,e,own (by rw[e];rfl) ho,j0,fun j h h'=>(hr j h h').mono' (Mem.le_refl _) fun q hq _=>⟨hc m _ hx q (Zff.2 ⟨_,Zef h,hq⟩),rfl⟩⟩
  |rows e k rs=>
   obtain⟨aa,cap,e,hh⟩:=hk;refine⟨aa,cap,e,?_⟩;rcases hh with hh|⟨bb,o,cur,rfl,km,ho,q⟩
   ·exact .inl hh
   ·exact .inr ⟨bb,o,cur,rfl,km,own (by rw[e];simp only[An];rw[Zac (by omega)]) ho,q⟩
  |map ls es=>obtain⟨bb,xs,clk,e,ho,q⟩:=hk;exact⟨bb,xs,clk,e,own (by rw[e];rfl) ho,q⟩
  |iter cur rest=>obtain⟨bb,mm,since,seen,last,e,ho,q⟩:=hk;exact⟨bb,mm,since,seen,last,e,own (by rw[e];rfl) ho,q⟩
  |gmap ls clk es=>obtain⟨bb,xs,e,ho,q1,q⟩:=hk;exact⟨bb,xs,e,own (by rw[e];rfl) ho,q1.mono (Mem.le_refl _) (fun e he q hq _=>⟨hc m _ hx q (Zff.2 ⟨e,he,hq⟩),rfl⟩),q⟩
  |arr e k rs=>
   obtain⟨aa,e1,hh⟩:=hk;refine⟨aa,e1,?_⟩;rcases hh with hh|⟨bb,o,cur,rfl,jg,ho,q⟩
   ·exact .inl hh
   ·exact .inr ⟨bb,o,cur,rfl,jg,own (by rw[e1];exact P1 (by simpa using jg)) ho,q⟩
  |lp l lq cs=>obtain⟨vs,e,ho,j0,hr⟩:=hk;exact⟨vs,e,own (by rw[e];rfl) ho,j0,fun j h h'=>(hr j h h').mono' (Mem.le_refl _) fun q hq _=>⟨hc m _ hx q (Zff.2 ⟨_,Zef h,hq⟩),rfl⟩⟩
 sep:=fun m m' k k' jg h1 h2=>by
  refine h.sep m m' k k' jg ?_ ?_
  ·obtain⟨x,hx⟩:=Zhi.1 h1;simp[names,hs m x hx]
  ·obtain⟨x,hx⟩:=Zhi.1 h2;simp[names,hs m' x hx]
 low:=fun b hb=>hb.1
theorem Rel.afterCall(h:Rel GL n S M μ st a w){mv:List Nat}(hd:d<1000)(hs:∀nm b,Aa sto nm=some b->Aa st.sto nm=some b)
  (h1:StoOk (AL μ sto w) M' μ' sto' w')(hm:MExt (AL μ sto w) M M')(hk:Keeps (AL μ sto w) w w')(hmv:∀nm,names sto nm->nm∉mv->μ' nm=μ nm)
  (hfresh:∀nm,names (A7 d sto') nm->names sto nm\/(Aa st.sto nm=none/\nm<5000))(w7:∀nm∈mv,¬pinned nm)(wm:∀nm,names sto nm->names sto' nm->ren d nm=nm):
  ∃μ2,Rel GL n S M' μ2 (Ds st sto sto' mv d) a w'/\MExt S M M'/\Keeps S w w'/\∀r v,AD M' μ' (names sto') r v->AD M' μ2 (names (Ds st sto sto' mv d).sto) (CW d r) v:=by
 have hns:∀m,names sto m->names st.sto m:=fun m hm=>by obtain⟨x,hx⟩:=Zhi.1 hm;simp[names,hs m x hx]
 have hSsh:∀k,S k->AL μ sto w k:=fun k hk=>⟨h.low k hk,fun m hm e=>(h.toStoOk.lt (hns m hm) e).2.1 hk⟩
 have hoth:∀m k,names st.sto m->¬names sto m->An (μ m)=some k->AL μ sto w k:=fun m k hm hn e=>
  ⟨(h.toStoOk.lt hm e).1,fun m' hm' e'=>h.sep m m' k k (fun q=>hn (q▸hm')) hm (hns m' hm') e e' rfl⟩
 have hN2:∀m,names (Ds st sto sto' mv d).sto m↔names sto' (ren d m)\/(names st.sto m/\¬names sto m):=fun m=>by
  simp only[Ds,names,JP,Sm hd,P2,P3,Cl];cases e1:Aa sto' (ren d m)with
  |some x=>simp
  |none=>
   simp only[Zhm,Zhj,Zb4,false_or];by_cases e2:(Aa sto m).isSome=true
   ·simp[e2]
   ·cases Aa st.sto m<;>simp[e2]
 have hdis:∀m,names sto' (ren d m)->¬(names st.sto m/\¬names sto m):=fun m hm hh=>by
  rcases hfresh m ((VX hd _ _).2 hm)with q|q
  ·exact hh.2 q
  ·have:=hh.1;simp[names,q.1]at this
 let μ2:Place:=fun m=>if(Aa sto' (ren d m)).isSome=true then μ' (ren d m)else μ m
 have hμ2:∀m,names sto' m->μ2 (ren d m)=μ' m:=fun m hm=>by simp only[μ2,IN hd];exact Zaa hm
 have hμ2o:∀m,names st.sto m->¬names sto m->μ2 m=μ m:=fun m h1 h2=>by simp only[μ2];exact Zac fun hc=>hdis m hc ⟨h1,h2⟩
 have hsee:∀m,m∉KR sto sto' mv->names st.sto m->names (Ds st sto sto' mv d).sto m/\μ2 m=μ m:=fun m hg hm=>by
  by_cases j9:names sto m
  ·have vu:m∉mv/\names sto' m:=by simp only[KR,Zfe,not_and]at hg;have:=hg (Cl.2 j9);simp only[Zcb,not_or,Zc4]at this;exact⟨this.1,by have:=this.2;simp only[names];cases hx:Aa sto' m<;>simp_all⟩
   have hr:=wm m j9 vu.2;refine⟨(hN2 m).2 (.inl (by rw[hr];exact vu.2)),?_⟩;have:=hμ2 m vu.2;rw[hr]at this;rw[this];exact hmv m j9 vu.1
  ·exact⟨(hN2 m).2 (.inr ⟨hm,j9⟩),hμ2o m hm j9⟩
 refine⟨μ2,?_,⟨hm.le,fun b hb=>hm.old b (hSsh b hb)⟩,hk.mono hSsh,fun r v hr=>hr.ren hd (fun m hm=>(hN2 _).2 (.inl (by rw[IN hd];exact hm))) hμ2⟩;have kr:StoOk S M' μ2 (Ds st sto sto' mv d).sto w':=by
  refine⟨h1.sub,fun m x hx=>?_,fun m m' k k' jg hm1 hm2 k6 jy=>?_,fun b hb=>Zgy (h.low b hb) hk.size⟩
  ·simp only[Ds,JP,Sm hd,P2,P3,Cl]at hx;cases e1:Aa sto' (ren d m)with
   |some y=>
    simp only[e1,Zhn,Zhp]at hx;subst hx;have hy:=h1.blk _ y e1;have:=hy.ren (N':=names (Ds st sto sto' mv d).sto) hd (fun m hm=>(hN2 _).2 (.inl (by rw[IN hd];exact hm))) hμ2 (by simp[names,e1]);rw[IN hd]at this;have low:∀{bb:Nat} {o:Obj},Owns (AL μ sto w) M' w' bb o->Owns S M' w' bb o:=fun ho=>⟨fun hS=>ho.low (hSsh _ hS),ho.heap,ho.unk⟩
    revert this;generalize Ey d y=z;intro this;cases z with
    |cells cs=>obtain⟨bb,vs,t,e,ho,q⟩:=this;exact⟨bb,vs,t,e,low ho,q⟩
    |rows e k rs=>
     obtain⟨aa,cap,e,hh⟩:=this;refine⟨aa,cap,e,?_⟩;rcases hh with hh|⟨bb,o,cur,q1,km,ho,q⟩
     ·exact .inl hh
     ·exact .inr ⟨bb,o,cur,q1,km,low ho,q⟩
    |map ls es=>obtain⟨bb,xs,clk,e,ho,q⟩:=this;exact⟨bb,xs,clk,e,low ho,q⟩
    |iter cur rest=>obtain⟨bb,mm,since,seen,last,e,ho,q⟩:=this;exact⟨bb,mm,since,seen,last,e,low ho,q⟩
    |lp l lq cs=>obtain⟨vs,e,ho,q⟩:=this;exact⟨vs,e,low ho,q⟩
    |gmap ls clk es=>obtain⟨bb,xs,e,ho,q⟩:=this;exact⟨bb,xs,e,low ho,q⟩
    |arr e k rs=>
     obtain⟨aa,e1,hh⟩:=this;refine⟨aa,e1,?_⟩;rcases hh with hh|⟨bb,o,cur,q1,jg,ho,q⟩
     ·exact .inl hh
     ·exact .inr ⟨bb,o,cur,q1,jg,low ho,q⟩
   |none=>
    simp only[e1,Zhm]at hx;by_cases j9:names sto m
    ·rw[Zaa (Cl.2 j9)]at hx;cases hx
    ·rw[Zac (fun q=>j9 (Cl.1 q))]at hx;cases e2:Aa st.sto m with
     |none=>simp[e2]at hx
     |some y=>
      simp only[e2,Zhn,Zhp]at hx;subst hx;have jl:names st.sto m:=by simp[names,e2]
      have hy:AP S M' μ (names st.sto) w' m y:=(h.blk m y e2).mono hm.le rfl (fun _ _ k=>⟨k,rfl⟩) (fun k jk _=>hk.block k (hoth m k jl j9 jk)) (fun k jk _=>hm.old k (hoth m k jl j9 jk));exact hy.scr _ hsee (hμ2o m jl j9)
  ·
   rw[hN2]at hm1 hm2;rcases hm1 with q1|q1<;>rcases hm2 with q2|q2
   ·refine h1.sep (ren d m) (ren d m') k k' (fun e=>jg (fx hd e)) q1 q2 ?_ ?_
    ·rw[<-hμ2 _ q1,IN hd];exact k6
    ·rw[<-hμ2 _ q2,IN hd];exact jy
   ·rw[hμ2o m' q2.1 q2.2]at jy;have e1:An (μ' (ren d m))=some k:=by rw[<-hμ2 _ q1,IN hd];exact k6
    intro e;subst e;exact(h1.lt q1 e1).2.1 (hoth m' k q2.1 q2.2 jy)
   ·rw[hμ2o m q1.1 q1.2]at k6;have e1:An (μ' (ren d m'))=some k':=by rw[<-hμ2 _ q2,IN hd];exact jy
    intro e;subst e;exact(h1.lt q2 e1).2.1 (hoth m k q1.1 q1.2 k6)
   ·rw[hμ2o m q1.1 q1.2]at k6;rw[hμ2o m' q2.1 q2.2]at jy;exact h.sep m m' k k' jg q1.1 q2.1 k6 jy
 refine h.of (st':=Ds st sto sto' mv d) kr hm.le (fun s v hv=>by simp only[Ds,Sn];exact AD.scr _ hsee (hv.mono hm.le fun _ k=>k)) fun m hp=>?_
 have hrm:ren d m=m:=by unfold pinned at hp;unfold ren;rw[Zac (by omega),Zac (by omega),Zac (by omega),Zac (by omega)]
 by_cases j9:names sto' m
 ·rcases hfresh m ((VX hd _ _).2 (by rw[hrm];exact j9))with q|q
  ·have:=hμ2 m j9;rw[hrm]at this;rw[this];exact hmv m q fun hc=>w7 m hc hp
  ·unfold pinned at hp;omega
 ·simp only[μ2,hrm];exact Zac j9
end
end Go.Dl
end
