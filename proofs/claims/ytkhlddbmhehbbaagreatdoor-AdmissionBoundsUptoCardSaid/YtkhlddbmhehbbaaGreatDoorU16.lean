/-Lemmas.-/
import Derived.Test.YtkhlddbmhehbbaaGreatDoorU12
import Derived.Test.YtkhlddbmhehbbaaGreatDoorU13
import Derived.Test.YtkhlddbmhehbbaaGreatDoorU14
import Derived.Test.YtkhlddbmhehbbaaGreatDoorU15
import Derived.Shelf.Strings.Search1
import Derived.Shelf.Strings.Search2
import Derived.Shelf.Strings.Search3
import Derived.Shelf.LaysM
import Derived.Shelf.Strings.Shaped
import Derived.Shelf.Sort.Plain
import Derived.Shelf.Slices.In.SortNone
import Derived.Test.YtkhlddbmhehbbaaGreatDoorProg
import Derived.Test.YtkhlddbmhehbbaaGreatDoorCards
import Derived.Test.YtkhlddbmhehbbaaGreatDoorTie
import Derived.Deep.DeepWitnessRowRef
import Derived.Lib.LaidIn
set_option linter.all false
set_option maxRecDepth 100000
set_option maxHeartbeats 8000000
namespace Go.Proofs.YtkhlddbmhehbbaaGreatDoor
open Go Go.Dl Go.As Go.Proofs
variable {mx:Int}
attribute[local irreducible] Ah Ai MC W2 EM ev evD step Ad
section
abbrev Is(mx:Int)(f:Nat)(args:List I)(y:I):Prop:=MC Tryz.prog (OE mx) f (args.map D.i) [] [] (gu y)
def C7(t:Typ):Bool:=t.kind==2||t.kind==3
theorem Pp(t:Typ):Is mx 237 [.agg (Ar t)] (.bool (C7 t)):=by
 refine MX pm ?_;refine WB ?_
 all_goals intros
 all_goals(refine congrArg I.bool ?_;(try simp only[C7]);(first|rfl|(simp_all;done)|(rw[Bool.eq_iff_iff];simp_all;done)|(rw[Bool.eq_iff_iff];simp_all;omega)))
theorem Y9(n l:Int)(hl:0<=l/\l<=1000):Is mx 272 [iI n,iI l] (.bool (decide (n>l\/n< -l))):=by
 refine MX sk ?_;have hw:IntKind.i64.wrap (0-l)=-l:=by grind[BH]
 refine Dp hw ?_
 all_goals intros
 all_goals(refine congrArg I.bool ?_;(try simp only[gt_iff_lt]);(first|rfl|(simp_all;done)|(rw[Bool.eq_iff_iff];simp_all;done)|(rw[Bool.eq_iff_iff];simp_all;omega)))
theorem Dg(e:Int):Is mx 244 [iI e] (.tup [.agg (Ar ⟨0,[],[]⟩),iI e]):=by refine MX nY ?_;exact Lbn trivial
theorem Za{α:Type}[DecidableEq α]{a b:List α}{i:Nat}(h:a.take i=b.take i)(ha:i<a.length)(hb:i<b.length)(e:a[i]=b[i]):a.take (i+1)=b.take (i+1):=by rw[List.take_succ_eq_append_getElem ha,List.take_succ_eq_append_getElem hb,h,e]
theorem Zb{a b:Fac}(h:a.name=b.name)(k:a.exp=b.exp):a=b:=by cases a;cases b;simp_all
theorem Zc(a b:List Fac)(h:a.length<4611686018427387904):Is mx 281 [.sl (a.map Aw),.sl (b.map Aw)] (.bool (decide (a=b))):=by
 refine MX oe ?_;refine WB (cj ?_ ?_)
 ·intro _ _;refine congrArg I.bool ?_;have:a≠b:=fun e=>by grind
  simp[this]
 ·intro h h';refine DQ [0,1,12] (by simp only[V0,MQ,reduceIte,Nat.reduceEqDiff];rfl) (fun i=>[(13,.i (iI i))]) (fun _=>[]) (fun i=>a.take i=b.take i) a.length 0 (by omega) (by simp) ?_ ?_
  ·simp[V0,I9,L9]
  ·intro i hi jb;refine Kb (cj ?_ (cj ?_ ?_))
   ·intro h h' h h';rename_i h;refine congrArg I.bool ?_;have:a≠b:=fun e=>by grind
    simp[this]
   ·intro h h' h h';rename_i hl h;have ja:i<a.length:=by omega
    have jt:i<b.length:=by omega
    refine Za jb ja jt ?_;simp only[Bool.not_eq_false',Bool.and_eq_true,beq_iff_eq]at h;simp only[AS ja,AS jt]at h;exact Zb h.1 h.2
   ·intro _ _;refine congrArg I.bool ?_;have ja:i=a.length:=by omega
    rw[ja]at jb;rw[List.take_length,List.take_of_length_le (by omega)]at jb;simp[jb]
theorem Zd(a b:List Fac)(h:a.length<4611686018427387904):Is mx 246 [.sl (a.map Aw),.sl (b.map Aw)] (.bool (decide (a=b))):=by refine MX qK ?_;exact Dp @Zc trivial
def lc(b:UInt8):Bool:=decide (97<=b.toNat/\b.toNat<=122)
def wc(b:UInt8):Bool:=decide ((97<=b.toNat/\b.toNat<=122)\/(48<=b.toNat/\b.toNat<=57)\/b.toNat=95)
def B5(s:AT):Bool:=decide (s≠[])&&decide (s.length<=24)&&lc (s.getD 0 0)&&s.all wc
theorem Ze(s:AT):Is mx 271 [.str s] (.bool (B5 s)):=by
 refine MX qP ?_
 (repeat' first|exact Av _|simp(disch:=omega)only[go_sem,simprocAttr]|refine' AD (fun hq=>?_) (fun f=>?_)<;>try(have je:=hq;try simp only[HB]at je)|refine Sx.s ?_ ?_<;>try(intro h;have h':=h;try simp only[HB]at h';try rewrite [h];try simp only[h])|refine Ae ?_|refine Sz.s ?_|(refine And.intro ?_ ?_;focus omega))
 ·refine congrArg I.bool ?_;have e:(decide (s≠[])&&decide (s.length<=24)&&lc (s.getD 0 0))=false:=by grind[lc]
  simp only[B5,e,Bool.false_and]
 ·have w0:B5 s=s.all wc:=by
   have e1:lc (s.getD 0 0)=true:=by grind[lc]
   have e2:s≠[]:=fun e=>by grind
   have e3:s.length<=24:=by omega
   simp_all[B5,e1,e2,e3]
  refine DQ [0,24] (by simp only[V0,MQ,reduceIte,Nat.reduceEqDiff];rfl) (fun i=>[(25,.i (iI i))]) (fun _=>[]) (fun i=>(s.take i).all wc=true) s.length 0 (by omega) (by simp) ?_ ?_
  ·simp[V0,I9,L9]
  ·intro i hi jb
   (repeat' first|exact Av _|simp(disch:=omega)only[go_sem,simprocAttr]|refine' AD (fun hq=>?_) (fun f=>?_)<;>try(have je:=hq;try simp only[HB]at je)|refine' Dr (fun hq=>?_) (fun f=>?_)<;>try(have je:=hq;try simp only[HB]at je)|refine Sx.s ?_ ?_<;>try(intro h;have h':=h;try simp only[HB]at h';try rewrite [h];try simp only[h])|refine Ae ?_|refine Sz.s ?_|(refine And.intro ?_ ?_;focus omega))
   all_goals first
    |(exfalso;omega)
    |(refine congrArg I.bool ?_;rw[w0];first
      |(exact(TZ (d:=0) (i:=i) (by omega) (by simp only[wc,decide_eq_false_iff_not];omega)).symm)
      |(have e:i=s.length:=by omega
        rw[e,List.take_length]at jb;exact jb.symm))
    |(exact BR (d:=0) jb (by omega) (by simp only[wc,decide_eq_true_eq];omega))
end
section
def uc:Option AT->List Fac->Int
 |_,[]=>0
 |p,f::r=>if(!B5 f.name)=true then 1 else if(decide (f.exp=0)||decide (f.exp>8\/f.exp< -8))=true then 70 else
  if(match p with|some q=>Op.bytesLess f.name q||decide (f.name=q)|none=>false)=true then 3 else uc (some f.name) r
def Fq(u:List Fac)(i:Nat):Option AT:=if i=0 then none else some (u.getD (i-1) default).name
def BJ(u:List Fac):Int:=if u.length>4 then 2 else uc none u
theorem Zf{u:List Fac}{i:Nat}(h:i<u.length)(p):uc p (u.drop i)=if(!B5 (u.getD i default).name)=true then 1 else if(decide ((u.getD i default).exp=0)||decide ((u.getD i default).exp>8\/(u.getD i default).exp< -8))=true then 70 else
  if(match p with|some q=>Op.bytesLess (u.getD i default).name q||decide ((u.getD i default).name=q)|none=>false)=true then 3 else uc (some (u.getD i default).name) (u.drop (i+1)):=by
 rw[AS h,List.drop_eq_getElem_cons h];simp only[uc]
theorem T8(u:List Fac)(hu:u.length<=1073741824):Is mx 238 [.sl (u.map Aw)] (iI (BJ u)):=by
 refine MX qI ?_;refine WB (cj ?_ ?_)
 ·intro _ _;simp only[BJ];rw[if_pos (by omega)]
 ·intro h h';have e:BJ u=uc none u:=by simp only[BJ];rw[if_neg (by omega)]
  rw[e];refine DQ [0,8,9] (by simp only[V0,MQ,reduceIte,Nat.reduceEqDiff];rfl) (fun i=>[(10,.i (iI i))]) (fun _=>[]) (fun i=>uc none u=uc (Fq u i) (u.drop i)) u.length 0 (by omega) (by simp[Fq]) ?_ ?_
  ·simp[V0,I9,L9]
  ·intro i hi jb
   (repeat' first|exact Av _|simp(disch:=omega)only[go_sem,simprocAttr]|refine' AD (fun hq=>?_) (fun f=>?_)<;>try(have je:=hq;try simp only[HB]at je)|refine' Dr (fun hq=>?_) (fun f=>?_)<;>try(have je:=hq;try simp only[HB]at je)|refine Sx.s ?_ ?_<;>try(intro h;have h':=h;try simp only[HB]at h';try rewrite [h];try simp only[h])|refine Ab (Ze _) ?_|refine Ab (Y9 _ _ (by omega)) ?_|refine Ae ?_|refine AG ?_|refine Sz.s ?_|(refine And.intro ?_ ?_;focus omega))
   all_goals try
    (have ja:i<u.length:=by omega
     have hm:(match Fq u i with|some q=>Op.bytesLess (u.getD i default).name q||decide ((u.getD i default).name=q)|none=>false)=(decide (0<(i:Int))&&(Op.bytesLess (u.getD i default).name (u.getD (↑i-1:Int).toNat default).name||decide ((u.getD i default).name=(u.getD (↑i-1:Int).toNat default).name))):=by
      have e1:(↑i-1:Int).toNat=i-1:=by omega
      by_cases h0:i=0
      ·simp[Fq,h0]
      ·have:0<(i:Int):=by omega
       simp only[Fq,h0,if_false,e1,decide_eq_true this,Bool.true_and]
     have hs:Fq u (i+1)=some (u.getD i default).name:=by simp[Fq]
     rw[jb,Zf ja,hm]
     first
      |(rw[if_pos h];done)
      |(rw[if_neg (by simp only[‹(!B5 (u.getD i default).name)=false›,Bool.false_eq_true,not_false_eq_true]),if_pos h];done)
      |(rw[if_neg (by simp only[‹(!B5 (u.getD i default).name)=false›,Bool.false_eq_true,not_false_eq_true]),if_neg (by simp only[‹(decide ((u.getD i default).exp=0)||decide ((u.getD i default).exp>8\/(u.getD i default).exp< -8))=false›,Bool.false_eq_true,not_false_eq_true])];first|(rw[if_pos h];done)|(rw[if_neg (by simp only[h,Bool.false_eq_true,not_false_eq_true]),hs];done)))
   have e':i=u.length:=by omega
   rw[jb,e',List.drop_length];rfl
end
end Go.Proofs.YtkhlddbmhehbbaaGreatDoor
section
namespace Go.Proofs
open Go.Shelf
open Go.RowKit Go.Lib in
open Go.RowKit Go.Lib in
open Go.RowKit Go.Lib in
open Go.RowKit Go.Lib in
open Go.RowKit Go.Lib in
open Go.RowKit Go.Lib in
open Go.RowKit Go.Lib in
open Go.RowKit Go.Lib in
def Tryz.lays144_ren:Go.Shelf.Ren:=⟨fun|144=>182|143=>225|219=>267|217=>295|225=>296|224=>297|267=>298|266=>330|314=>331|n=>n,fun|9=>9|4=>4|3=>3|5=>5|46=>158|146=>318|51=>193|n=>n,fun|1=>3|n=>n⟩
theorem Tryz.lays144:Go.Proofs.Lays.n144 Tryz.prog Tryz.lays144_ren:={mixed:=by kernel_rfl,f143:=Tryz.func225.trans (congrArg some (by kernel_rfl)),f144:=Tryz.func182.trans (congrArg some (by kernel_rfl)),f217:=Tryz.func295.trans (congrArg some (by kernel_rfl)),f219:=Tryz.func267.trans (congrArg some (by kernel_rfl)),f224:=Tryz.func297.trans (congrArg some (by kernel_rfl)),f225:=Tryz.func296.trans (congrArg some (by kernel_rfl)),f266:=Tryz.func330.trans (congrArg some (by kernel_rfl)),f267:=Tryz.func298.trans (congrArg some (by kernel_rfl)),f314:=Tryz.func331.trans (congrArg some (by kernel_rfl)),t3:=Tryz.underlying3,a3:=Tryz.isAgg3,z3:=Tryz.sizeOf3,v3:=Tryz.zeroValue3,t4:=Tryz.underlying4,a4:=Tryz.isAgg4,z4:=Tryz.sizeOf4,v4:=Tryz.zeroValue4,t5:=Tryz.underlying5,a5:=Tryz.isAgg5,z5:=Tryz.sizeOf5,v5:=Tryz.zeroValue5,t9:=Tryz.underlying9,a9:=Tryz.isAgg9,z9:=Tryz.sizeOf9,v9:=Tryz.zeroValue9,t46:=Tryz.underlying158,a46:=Tryz.isAgg158,z46:=Tryz.sizeOf158,v46:=Tryz.zeroValue158,t51:=Tryz.underlying193,a51:=Tryz.isAgg193,z51:=Tryz.sizeOf193,v51:=Tryz.zeroValue193,t146:=Tryz.underlying318,a146:=Tryz.isAgg318,z146:=Tryz.sizeOf318,v146:=Tryz.zeroValue318,g1:=by kernel_rfl}
open Go.RowKit Go.Lib in
open Go.RowKit Go.Lib in
theorem Tryz.strings_Contains(s sub:ByteArray)(m:Int)(w:World)(hs:s.size<4294967281)(hm:w.cell? ⟨3,0,none⟩=some (.int .i64 m)):
  Calls Tryz.prog 182 #[.string s,.string sub] w fun e w'=>e=.returned (.bool (Lib.contains s.data.toList sub.data.toList))/\w'=w:=Any.strings_Contains Tryz.lays144 s sub m w hs hm
open Go.RowKit Go.Lib in
open Go.RowKit Go.Lib in
open Go.RowKit Go.Lib in
def Tryz.lays190_ren:Go.Shelf.Ren:=⟨fun|190=>251|125=>110|258=>283|128=>163|129=>164|302=>311|303=>312|304=>313|305=>314|306=>315|307=>316|308=>317|309=>318|310=>319|333=>336|329=>215|330=>216|334=>337|335=>338|336=>165|344=>346|n=>n,fun|31=>175|9=>9|3=>3|46=>158|0=>0|51=>193|53=>195|4=>4|183=>186|182=>185|131=>190|5=>5|218=>240|222=>244|228=>280|229=>31|n=>n,fun|n=>n⟩
theorem Tryz.lays190:Go.Proofs.Lays.n190 Tryz.prog Tryz.lays190_ren:={mixed:=by kernel_rfl,f125:=Tryz.func110.trans (congrArg some (by kernel_rfl)),f128:=Tryz.func163.trans (congrArg some (by kernel_rfl)),f129:=Tryz.func164.trans (congrArg some (by kernel_rfl)),f190:=Tryz.func251.trans (congrArg some (by kernel_rfl)),f258:=Tryz.func283.trans (congrArg some (by kernel_rfl)),f302:=Tryz.func311.trans (congrArg some (by kernel_rfl)),f303:=Tryz.func312.trans (congrArg some (by kernel_rfl)),f304:=Tryz.func313.trans (congrArg some (by kernel_rfl)),f305:=Tryz.func314.trans (congrArg some (by kernel_rfl)),f306:=Tryz.func315.trans (congrArg some (by kernel_rfl)),f307:=Tryz.func316.trans (congrArg some (by kernel_rfl)),f308:=Tryz.func317.trans (congrArg some (by kernel_rfl)),f309:=Tryz.func318.trans (congrArg some (by kernel_rfl)),f310:=Tryz.func319.trans (congrArg some (by kernel_rfl)),f329:=Tryz.func215.trans (congrArg some (by kernel_rfl)),f330:=Tryz.func216.trans (congrArg some (by kernel_rfl)),f333:=Tryz.func336.trans (congrArg some (by kernel_rfl)),f334:=Tryz.func337.trans (congrArg some (by kernel_rfl)),f335:=Tryz.func338.trans (congrArg some (by kernel_rfl)),f336:=Tryz.func165.trans (congrArg some (by kernel_rfl)),f344:=Tryz.func346.trans (congrArg some (by kernel_rfl)),t0:=Tryz.underlying0,a0:=Tryz.isAgg0,z0:=Tryz.sizeOf0,v0:=Tryz.zeroValue0,t3:=Tryz.underlying3,a3:=Tryz.isAgg3,z3:=Tryz.sizeOf3,v3:=Tryz.zeroValue3,t4:=Tryz.underlying4,a4:=Tryz.isAgg4,z4:=Tryz.sizeOf4,v4:=Tryz.zeroValue4,t5:=Tryz.underlying5,a5:=Tryz.isAgg5,z5:=Tryz.sizeOf5,v5:=Tryz.zeroValue5,t9:=Tryz.underlying9,a9:=Tryz.isAgg9,z9:=Tryz.sizeOf9,v9:=Tryz.zeroValue9,t31:=Tryz.underlying175,a31:=Tryz.isAgg175,z31:=Tryz.sizeOf175,v31:=Tryz.zeroValue175,t46:=Tryz.underlying158,a46:=Tryz.isAgg158,z46:=Tryz.sizeOf158,v46:=Tryz.zeroValue158,t51:=Tryz.underlying193,a51:=Tryz.isAgg193,z51:=Tryz.sizeOf193,v51:=Tryz.zeroValue193,t53:=Tryz.underlying195,a53:=Tryz.isAgg195,z53:=Tryz.sizeOf195,v53:=Tryz.zeroValue195,t131:=Tryz.underlying190,a131:=Tryz.isAgg190,z131:=Tryz.sizeOf190,v131:=Tryz.zeroValue190,t182:=Tryz.underlying185,a182:=Tryz.isAgg185,z182:=Tryz.sizeOf185,v182:=Tryz.zeroValue185,t183:=Tryz.underlying186,a183:=Tryz.isAgg186,z183:=Tryz.sizeOf186,v183:=Tryz.zeroValue186,t218:=Tryz.underlying240,a218:=Tryz.isAgg240,z218:=Tryz.sizeOf240,v218:=Tryz.zeroValue240,t222:=Tryz.underlying244,a222:=Tryz.isAgg244,z222:=Tryz.sizeOf244,v222:=Tryz.zeroValue244,t228:=Tryz.underlying280,a228:=Tryz.isAgg280,z228:=Tryz.sizeOf280,v228:=Tryz.zeroValue280,t229:=Tryz.underlying31,a229:=Tryz.isAgg31,z229:=Tryz.sizeOf31,v229:=Tryz.zeroValue31}
open Go.Sort Go.RowKit in
theorem Tryz.slices_Sort_string(blk off cap:Nat)(ss:List (List UInt8))(w:World)(hH:Holds encStr w blk off ss.toArray)(qn:blk<w.heap.size)(j0:ss.length<4611686018427387904):
  Calls Tryz.prog 251 #[.slice (some ⟨blk,off,none⟩) ss.length cap] w fun e w'=>
   e=.returned (.tuple #[])/\∃n os,w'=grow (putRow encStr (Sort.ahead w n) blk off (ss.mergeSort fun x y=>decide (x<=y)).toArray) os:=Any.slices_Sort_string Tryz.lays190 blk off cap ss w hH qn j0
open Go.RowKit Go.Sort in
theorem Tryz.slices_Sort_string_none(p:Option Addr)(cap:Nat)(w:World):
  Calls Tryz.prog 251 #[.slice p 0 cap] w fun e w'=>e=.returned (.tuple #[])/\w'=w:=Any.slices_Sort_string_none Tryz.lays190 p cap w
end Go.Proofs
end
namespace Go.Proofs.YtkhlddbmhehbbaaGreatDoor
open Go Go.Dl Go.As Go.Proofs
variable {mx:Int}
attribute[local irreducible] Ah Ai MC W2 EM ev evD step Ad
section
theorem T9{M:Mem}{s:AT}{v:Value}(h:Rep M (.str s) v):v=.string ⟨s.toArray⟩:=by cases h;rfl
theorem sL{M:Mem}{x y:I}{vs:Array Value}(h:Ak M [x,y] vs.toList):∃v u,vs=#[v,u]/\Rep M x v/\Rep M y u:=by
 obtain⟨hl,hr⟩:=h;obtain⟨l⟩:=vs
 match l,hl with
 |[v,u],_=>exact⟨v,u,rfl,hr 0 (by simp) (by simp),hr 1 (by simp) (by simp)⟩
theorem sM{M:Mem}{w:World}(h1:∀b o v,M.c b o=some v->w.cell? ⟨b,o,none⟩=some v)(h2:Ij (OE mx) M):w.cell? ⟨3,0,none⟩=some (.int .i64 mx):=by
 have:=h2 3 [.int .i64 mx] (by simp[OE]);generalize hp:Value.pointer (some ⟨3,0,none⟩)=p at this;generalize hx:I.elt [.int .i64 mx] 0=x at this;cases this<;>cases hx;rename_i b o v h hr;injection hp with hp;injection hp with hp;injection hp with hb ho
 have e:=h 0 (by simp);have r:=hr 0 (by simp);simp only[List.getElem_cons_zero,Nat.add_zero]at r e ho;subst hb;subst ho;rw[h1 _ _ _ e];generalize hy:I.int .i64 mx=y at r;generalize hz:v 0=z at r;cases r<;>cases hy;rfl
theorem Zg(s t:AT)(hs:s.length<4294967281):Is mx 182 [.str s,.str t] (.bool (Lib.contains s t)):=by
 refine ms (by kernel_rfl) fun M w vs h1 h2 h3=>?_
 obtain⟨v,u,rfl,hv,hu⟩:=sL h3;rw[T9 hv,T9 hu];exact⟨_,.bool _,Tryz.strings_Contains ⟨s.toArray⟩ ⟨t.toArray⟩ mx w hs (sM h1.1 h2)⟩
def Ua:AT:=[32,116,97,98,108,101,32,102,101,97,116,117,114,101,32,111,102,32,107,101,101,112,32,98,111,111,108,32,116,101,120,116,32,107,101,121,32,105,110,116,32,100,101,99,32,105,102,32,116,104,101,110,32,101,108,115,101,32,100,101,102,97,117,108,116,32,111,114,32,97,110,100,32,110,111,116,32,116,114,117,101,32,102,97,108,115,101,32,110,117,108,108,32,99,111,117,110,116,32,115,117,109,32,109,101,97,110,32,109,105,110,32,109,97,120,32,102,105,114,115,116,32,108,97,115,116,32,100,105,115,116,105,110,99,116,32,113,117,97,110,116,105,108,101,32,100,101,99,97,121,32,97,108,108,32,115,108,105,100,105,110,103,32,116,117,109,98,108,105,110,103,32,115,101,115,115,105,111,110,32,119,104,101,114,101,32]
def Rj(s:AT):Bool:=decide (s≠[])&&!Lib.contains s [32]&&Lib.contains Ua (32::(s++[32]))
theorem sN(s:AT)(hs:s.length<=1073741824):Is mx 126 [.str s] (.bool (Rj s)):=by
 refine MX pS ?_
 (repeat' first|exact Av _|simp(disch:=omega)only[go_sem,simprocAttr]|refine' AD (fun hq=>?_) (fun f=>?_)<;>try(have je:=hq;try simp only[HB]at je)|refine Ab (Zg _ _ (by omega)) ?_|refine Ab (Zg Ua _ (by decide)) ?_|refine Sz.s ?_|(refine And.intro ?_ ?_;focus omega))
 all_goals(simp_all[Rj])
def CQ(s:AT):Bool:=B5 s&&!Rj s
theorem FZ(s:AT):Is mx 95 [.str s] (.bool (CQ s)):=by
 refine MX F95 ?_;refine Dp @sN (cj ?_ ?_)
 ·intro h h';refine congrArg I.bool ?_;rcases h' with(e|e)|e
  ·subst e;rfl
  ·have:¬s.length<=24:=by omega
   simp[CQ,B5,this]
  ·simp[CQ,e]
 ·intro h h';obtain⟨⟨e2,e0⟩,jk⟩:=h';have w0:CQ s=(lc (s.getD 0 0)&&s.all wc):=by
   have e3:s.length<=24:=by omega
   simp_all[CQ,B5,e3,e2]
  refine DQ [0,17] (by simp only[V0,MQ,reduceIte,Nat.reduceEqDiff];rfl) (fun i=>[(18,.i (iI i))]) (fun _=>[]) (fun i=>(s.take i).all wc=true/\(i≠0->lc (s.getD 0 0)=true)) s.length 0 (by omega) (by simp) ?_ ?_
  ·simp[V0,I9,L9]
  ·intro i hi jb;have hinv1:=jb.1;have qw:=jb.2;have jx:0<s.length:=by grind
   (repeat' first|exact Av _|simp(disch:=omega)only[go_sem,simprocAttr]|refine' AD (fun hq=>?_) (fun f=>?_)<;>try(have je:=hq;try simp only[HB]at je)|refine' Dr (fun hq=>?_) (fun f=>?_)<;>try(have je:=hq;try simp only[HB]at je)|refine Sx.s ?_ ?_<;>try(intro h;have h':=h;try simp only[HB]at h';try rewrite [h];try simp only[h])|refine Ae ?_|refine Sz.s ?_|(refine And.intro ?_ ?_;focus omega))
   all_goals first
    |(exfalso;omega)
    |(refine congrArg I.bool ?_;rw[w0];first
      |(have e:i=s.length:=by omega
        rw[e,List.take_length]at hinv1;rw[hinv1,qw (by omega)];rfl)
      |(by_cases h0:i=0
        ·subst h0;have:lc (s.getD 0 0)=false:=by grind[lc]
         rw[this];rfl
        ·have h1:0<(i:Int):=by omega
         have h2:=h' h1;rw[TZ (d:=0) (i:=i) (by omega) (by simp only[wc,decide_eq_false_iff_not];omega),Bool.and_false]))
    |(refine⟨BR (d:=0) hinv1 (by omega) (by simp only[wc,decide_eq_true_eq];omega),fun _=>?_⟩
      by_cases h0:i=0
      ·subst h0;simp only[lc,decide_eq_true_eq];omega
      ·exact qw h0)
end
section
def Bk{α:Type}(p:α->Bool)(l:List α):Int:=match l.findIdx? p with|some i=>i|none=>-1
theorem KP{α:Type}{p:α->Bool}{l:List α}{i:Nat}(hi:i<l.length)(hp:p l[i]=true)(hn:∀j (h:j<l.length),j<i->p l[j]=false):Bk p l=i:=by have:l.findIdx? p=some i:=List.findIdx?_eq_some_iff_getElem.2 ⟨hi,hp,fun j hj=>by rw[hn j (by omega) hj];simp⟩;grind[Bk]
theorem KQ{α:Type}{p:α->Bool}{l:List α}(hn:∀j (h:j<l.length),p l[j]=false):Bk p l=-1:=by
 have:l.findIdx? p=none:=List.findIdx?_eq_none_iff.2 fun x hx=>by obtain⟨j,hj,rfl⟩:=List.getElem_of_mem hx;exact hn j hj
 grind[Bk]
theorem Ub{α:Type}{p:α->Bool}{l:List α}:(0<=Bk p l)↔l.any p=true:=by grind[Bk]
theorem sO(p:Fac->Bool)(l:List Fac)(f:Nat)(fs cs:List I)(hl:l.length<=1073741824)(hp:∀x∈l,Is mx f (fs++[.agg (Aw x)]++cs) (.bool (p x))):
  Is mx 273 [.sl (l.map Aw),.fn f fs cs] (iI (Bk p l)):=by
 refine MX n9 ?_;refine OG ?_;refine DQ [0,1,7] (by simp only[V0,MQ,reduceIte,Nat.reduceEqDiff];rfl) (fun i=>[(8,.i (iI i))]) (fun _=>[]) (fun i=>∀j (h:j<l.length),j<i->p l[j]=false) l.length 0 (by omega) (by simp) ?_ ?_
 ·simp[V0,I9,L9]
 ·intro i hi jb;refine Ka @hp (cj ?_ (cj ?_ ?_))
  ·intro _ _ _ _;refine congrArg (I.int .i64) ?_;exact(KP (by omega) (by rw[<-AS (by omega)];assumption) jb).symm
  ·intro _ _ _ _;intro j hj hji;by_cases e:j=i
   ·subst e;rw[<-AS hj];assumption
   ·exact jb j hj (by omega)
  ·intro _ _;refine congrArg (I.int .i64) ?_;exact(KQ fun j hj=>jb j hj (by omega)).symm
theorem sP(p:Fac->Bool)(l:List Fac)(f:Nat)(fs cs:List I)(hl:l.length<=1073741824)(hp:∀x∈l,Is mx f (fs++[.agg (Aw x)]++cs) (.bool (p x))):
  Is mx 239 [.sl (l.map Aw),.fn f fs cs] (.bool (l.any p)):=by
 refine MX rZ ?_;refine Dp @sO ?_;refine congrArg I.bool ?_;have:=@Ub _ p l;rw[Bool.eq_iff_iff];simpa using this
theorem sR(f:Fac):Is mx 240 [.agg (Aw f)] (.bool (!CQ f.name)):=by refine MX nX ?_;exact Dp @FZ trivial
def ty1(t:Typ):Bool:=decide (t.kind<1)||decide (t.kind>5)||(decide (0<t.unit.length)&&!C7 t)
def ty2(t:Typ):Bool:=(decide (t.kind=5)!=decide (t.of≠[]))||(decide (t.of≠[])&&!CQ t.of)
def ty3(t:Typ):Bool:=decide (BJ t.unit≠0)||t.unit.any (fun f=>!CQ f.name)
def JD(t:Typ):Int:=if ty1 t=true then 3 else if ty2 t=true then 3 else if ty3 t=true then 70 else 0
theorem Rk(t:Typ)(ht:t.unit.length<=1073741824):Is mx 192 [.agg (Ar t)] (iI (JD t)):=by
 refine MX p9 ?_
 (repeat' first|exact Av _|simp(disch:=omega)only[go_sem,simprocAttr]|refine' AD (fun hq=>?_) (fun f=>?_)<;>try(have je:=hq;try simp only[HB]at je)|refine' Dr (fun hq=>?_) (fun f=>?_)<;>try(have je:=hq;try simp only[HB]at je)|refine Sx.s ?_ ?_<;>try(intro h;have h':=h;try simp only[HB]at h';try rewrite [h];try simp only[h])|refine Ab (Pp t) ?_|refine Ab (FZ _) ?_|refine Ab (T8 _ ht) ?_|refine Ab (sP (fun f ↦ !CQ f.name) _ _ _ _ ht (fun x _ ↦ sR x)) ?_|refine Ae ?_|refine Sz.s ?_|fail)
 all_goals(refine congrArg (I.int .i64) ?_;simp only[JD,ty1,ty2,ty3];grind)
end
section
theorem sS(l:List AT)(x:AT)(hl:l.length<=1073741824):
  Is mx 301 [.sl (l.map fun s=>[.str s]),.str x] (iI (Bk (fun y=>decide (x=y)) l)):=by
 refine MX sy ?_;refine OG ?_;refine DQ [0,1,7] (by simp only[V0,MQ,reduceIte,Nat.reduceEqDiff];rfl) (fun i=>[(8,.i (iI i))]) (fun _=>[]) (fun i=>∀j (h:j<l.length),j<i->(fun y=>decide (x=y)) l[j]=false) l.length 0 (by omega) (by simp) ?_ ?_
 ·simp[V0,I9,L9]
 ·intro i hi jb;refine Kb (cj ?_ (cj ?_ ?_))
  ·intro _ _ _ _;refine congrArg (I.int .i64) ?_;exact(KP (p:=fun y=>decide (x=y)) (by omega) (by rw[<-AS (by omega)];assumption) jb).symm
  ·intro _ _ _ _;intro j hj hji;by_cases e:j=i
   ·subst e;rw[<-AS hj];assumption
   ·exact jb j hj (by omega)
  ·intro _ _;refine congrArg (I.int .i64) ?_;exact(KQ fun j hj=>jb j hj (by omega)).symm
theorem sU(l:List AT)(x:AT)(hl:l.length<=1073741824):
  Is mx 274 [.sl (l.map fun s=>[.str s]),.str x] (.bool (l.any fun y=>decide (x=y))):=by
 refine MX pw ?_;refine Dp @sS ?_;refine congrArg I.bool ?_;have:=@Ub _ (fun y=>decide (x=y)) l;rw[Bool.eq_iff_iff];simpa using this
end
section
def KR(a b:Xpr):Bool:=a.kind==b.kind&&(a.op==b.op&&(a.name==b.name&&(a.table==b.table&&(a.val==b.val&&(a.unit==b.unit&&(a.param==b.param&&a.win==b.win))))))
theorem sV(a b:Val):(a==b)=(a.kind==b.kind&&(a.n==b.n&&a.s==b.s)):=by cases a;cases b;rw[Bool.eq_iff_iff];simp
theorem sW(a b:Win):(a==b)=(a.kind==b.kind&&a.size==b.size):=by cases a;cases b;rw[Bool.eq_iff_iff];simp
theorem Zh(a b:Xpr)(ha:a.unit.length<=1073741824):Is mx 275 [.agg (eE a),.agg (eE b)] (.bool (KR a b)):=by
 refine MX qQ ?_;refine Dp @Zc ?_
 all_goals intros
 all_goals(refine congrArg I.bool ?_;rw[KR,sV,sW,Bool.eq_iff_iff];simp[and_assoc];done)
end
section
mutual
def Bs:Xpr->Nat
 |.mk _ _ _ _ _ _ _ _ a=>sizeXs a+1
def sizeXs:List Xpr->Nat
 |[]=>0
 |x::r=>Bs x+sizeXs r
end
mutual
def JE:Xpr->Nat
 |.mk _ _ _ _ _ _ _ _ a=>depthXs a+1
def depthXs:List Xpr->Nat
 |[]=>0
 |x::r=>max (JE x) (depthXs r)
end
theorem Hd(l:List Xpr)(k:Nat)(h:k<l.length):sizeXs (l.take (k+1))=sizeXs (l.take k)+Bs l[k]:=by
 induction l generalizing k with
 |nil=>simp at h
 |cons x l ih=>grind[sizeXs]
theorem Fr(l:List Xpr)(k:Nat):sizeXs (l.take k)<=sizeXs l:=by
 induction l generalizing k with
 |nil=>simp
 |cons x l ih=>cases k with
  |zero=>simp[sizeXs]
  |succ k=>simp only[List.take_succ_cons,sizeXs];have:=ih k;omega
theorem Ej(x:Xpr):Bs x=sizeXs x.args+1:=by cases x;rfl
theorem Fs(x:Xpr):1<=Bs x:=by simp[Ej]
theorem ND:∀l:List Xpr,l.length<=sizeXs l
 |[]=>by simp[sizeXs]
 |x::r=>by have:=ND r;have:=Fs x;simp only[List.length_cons,sizeXs];omega
theorem sX:∀(m:Nat) (x:Xpr),Bs x<=m->Bs x<=1073741824->Is mx 241 [.agg (eE x)] (iI (Bs x)):=by
 intro m
 induction m with
 |zero=>intro x h;have:=Ej x;omega
 |succ m ih=>
  intro x hm hb;have j0:=Ej x;have jd:=ND x.args;refine MX pn ?_
  (repeat' first|simp(disch:=omega)only[go_sem,simprocAttr]|fail)
  refine DQ [6,7] (by simp only[V0,MQ,reduceIte,Nat.reduceEqDiff];rfl) (fun i=>[(8,.i (iI i)),(2,.i (iI ((sizeXs (x.args.take i)+1:Nat):Int)))]) (fun _=>[]) (fun _=>True) x.args.length 0 (by omega) trivial ?_ ?_
  ·simp[V0,I9,L9,sizeXs]
  ·intro i hi _;have jj:=Fr x.args (i+1);have hle0:=Fr x.args i;by_cases ja:i<x.args.length
   ·have hsi:=Hd x.args i ja;have jn:=Fs x.args[i];rw[<-AS ja]at hsi jn;have i1:=ih (x.args.getD i default) (by omega) (by omega)
    (repeat' first|simp(disch:=omega)only[go_sem,simprocAttr]|refine Sx.s ?_ ?_<;>try(intro h;have h':=h;try simp only[HB]at h';try rewrite [h];try simp only[h])|refine Ab (i1) ?_|refine Ae ?_|refine Sz.s ?_|(refine And.intro ?_ ?_;focus omega))
    ·refine congrArg (fun n=>D.i (I.int .i64 n)) ?_;omega
    ·exfalso;omega
   ·(repeat' first|simp(disch:=omega)only[go_sem,simprocAttr]|refine Sx.s ?_ ?_<;>try(intro h;have h':=h;try simp only[HB]at h';try rewrite [h];try simp only[h])|refine Ae ?_|refine Sz.s ?_|(refine And.intro ?_ ?_;focus omega))
    ·exfalso;omega
    ·refine congrArg (I.int .i64) ?_;have e:i=x.args.length:=by omega
     rw[e,List.take_length];omega
theorem Zi(l:List Xpr)(k:Nat)(h:k<l.length):depthXs (l.take (k+1))=max (depthXs (l.take k)) (JE l[k]):=by
 induction l generalizing k with
 |nil=>simp at h
 |cons x l ih=>grind[depthXs]
theorem Zj(x:Xpr):JE x=depthXs x.args+1:=by cases x;rfl
mutual
theorem sY:∀x:Xpr,JE x<=Bs x
 |.mk _ _ _ _ _ _ _ _ a=>by simp[depths_sizes,JE,Bs]
theorem depths_sizes:∀l:List Xpr,depthXs l<=sizeXs l
 |[]=>by simp[depthXs]
 |x::r=>by have:=sY x;have:=depths_sizes r;simp only[depthXs,sizeXs];omega
end
theorem sZ:∀(m:Nat) (x:Xpr),Bs x<=m->Bs x<=1073741824->Is mx 242 [.agg (eE x)] (iI (JE x)):=by
 intro m
 induction m with
 |zero=>intro x h;have:=Ej x;omega
 |succ m ih=>
  intro x hm hb;have j0:=Ej x;have jd:=ND x.args;have wu:=depths_sizes x.args;have hda:=Zj x;refine MX qJ ?_
  (repeat' first|simp(disch:=omega)only[go_sem,simprocAttr]|fail)
  refine DQ [6,7] (by simp only[V0,MQ,reduceIte,Nat.reduceEqDiff];rfl) (fun i=>[(8,.i (iI i)),(2,.i (iI ((depthXs (x.args.take i):Nat):Int)))]) (fun _=>[]) (fun _=>True) x.args.length 0 (by omega) trivial ?_ ?_
  ·simp[V0,I9,L9,depthXs]
  ·intro i hi _;have jj:=Fr x.args (i+1);by_cases ja:i<x.args.length
   ·have hsi:=Hd x.args i ja;have hdi:=Zi x.args i ja;have jn:=Fs x.args[i];rw[<-AS ja]at hsi hdi jn;have i1:=ih (x.args.getD i default) (by omega) (by omega)
    (repeat' first|simp(disch:=omega)only[go_sem,simprocAttr]|refine Sx.s ?_ ?_<;>try(intro h;have h':=h;try simp only[HB]at h';try rewrite [h];try simp only[h])|refine Ab (i1) ?_|refine Ae ?_|refine Sz.s ?_|(refine And.intro ?_ ?_;focus omega))
    ·refine congrArg (fun n=>D.i (I.int .i64 n)) ?_;split<;>omega
    ·exfalso;omega
   ·(repeat' first|simp(disch:=omega)only[go_sem,simprocAttr]|refine Sx.s ?_ ?_<;>try(intro h;have h':=h;try simp only[HB]at h';try rewrite [h];try simp only[h])|refine Ae ?_|refine Sz.s ?_|(refine And.intro ?_ ?_;focus omega))
    ·exfalso;omega
    ·have e:i=x.args.length:=by omega
     subst e;rw[List.take_length];refine congrArg (I.int .i64) ?_;rw[BH (by omega) (by omega)];omega
end
section
abbrev AK:Typ:=⟨0,[],[]⟩
def AH(r:Typ×Int):I:=.tup [.agg (Ar r.1),iI r.2]
def Gy(a b:Typ):Typ×Int:=
 if a.kind≠b.kind\/a.of≠b.of then(AK,5)else if a.unit≠b.unit then(AK,70)else(a,0)
theorem Uc(a b:Typ)(ha:a.unit.length<=1073741824):Is mx 195 [.agg (Ar a),.agg (Ar b)] (AH (Gy a b)):=by
 refine MX pb ?_
 (repeat' first|exact Av _|simp(disch:=omega)only[go_sem,simprocAttr]|refine' AD (fun hq=>?_) (fun f=>?_)<;>try(have je:=hq;try simp only[HB]at je)|refine Sx.s ?_ ?_<;>try(intro h;have h':=h;try simp only[HB]at h';try rewrite [h];try simp only[h])|refine Ab (Dg _) ?_|refine Ab (Zd _ _ (by omega)) ?_|refine Ae ?_|refine Sz.s ?_|fail)
 all_goals(simp_all[Gy,AH,Ar])
end
section
def eqS(a b:List UInt8):Bool:=decide (a=b)
def neS(a b:List UInt8):Bool:=decide (a≠b)
def Pq(v:Val):Bool:=decide (v.kind=2)||decide (v.kind=3)
def NE(v:Val):Bool:=decide (v.kind=4)||decide (v.kind=5)
def CI(low:Int)(c:UInt8):Bool:=decide ((c.toNat:Int)<low)||decide (126<(c.toNat:Int))||decide ((c.toNat:Int)=34)||decide ((c.toNat:Int)=92)
def F0(v:Val):Int:=
 if(decide (v.kind<0)||decide (5<v.kind))=true then 1
 else if(!NE v&&neS v.s [])=true then 1
 else if(!Pq v&&decide (v.n≠0)&&(decide (v.kind≠1)||decide (v.n≠1)))=true then 1
 else if(decide (v.n< -1152921504606846976)||decide (1152921504606846976<v.n))=true then 2
 else if(!NE v)=true then 0
 else if decide (v.kind=5)=true then
  if decide (32<(v.s.length:Int))=true then 2 else if(decide (v.kind=5)&&eqS v.s [])=true then 3 else if v.s.any (CI 33)=true then 3 else 0
 else if decide (64<(v.s.length:Int))=true then 2 else if v.s.any (CI 32)=true then 3 else 0
theorem Zk(v:Val)(low:Int)(hv:F0 v=if v.s.any (CI low)=true then 3 else 0){e:Env}(h0:Dl.Sub ⟨.l [(89,.i (iI 0)),(1,.i (.elt (Bn v) 0)),(6,.i (.int .u8 low)),(88,.i (iI v.s.length))],[]⟩ ⟨e,[]⟩)(jd:v.s.length<=64)
  (hs:Ey e [1,6,88]=[(1,.i (.elt (Bn v) 0)),(6,.i (.int .u8 low)),(88,.i (iI v.s.length))]):
  W2 Tryz.prog (OE mx) (.lp (.sq [1,6,88,89,90] (.rg [⟨none,(.bin 90 .lss (.t 89) (.t 88))⟩]) (.ct [1,6,88,89] (.cond (.t 90) .skip (.exit 1)) (.ct [1,6,88,89] (.block 2 (.sq [1,6,7,88,89] (.rg [⟨none,(.mov 91 (.t 89))⟩,⟨none,(.mov 7 (.t 91))⟩]) (.sq [1,6,8,88,89] (.rg [⟨none,(.fa 92 (.t 1) 2)⟩,⟨none,(.load 93 (.t 92) 1 false)⟩,⟨none,(.mov 94 (.t 7))⟩,⟨none,(.idx 95 (.t 93) (.t 94))⟩,⟨none,(.mov 8 (.t 95))⟩]) (.sq [1,6,88,89,110] (.rg [⟨none,(.mov 96 (.t 8))⟩,⟨none,(.mov 97 (.t 6))⟩,⟨none,(.bin 98 .lss (.t 96) (.t 97))⟩,⟨none,(.mov 99 (.t 98))⟩,⟨(some (99,false)),(.mov 100 (.t 8))⟩,⟨(some (99,false)),(.bin 101 .gtr (.t 100) (.c (.int .u8 126)))⟩,⟨none,(.pick 102 (.t 99) (.c (.bool true)) (.t 101))⟩,⟨none,(.mov 103 (.t 102))⟩,⟨(some (103,false)),(.mov 104 (.t 8))⟩,⟨(some (103,false)),(.bin 105 .eql (.t 104) (.c (.int .u8 34)))⟩,⟨none,(.pick 106 (.t 103) (.c (.bool true)) (.t 105))⟩,⟨none,(.mov 107 (.t 106))⟩,⟨(some (107,false)),(.mov 108 (.t 8))⟩,⟨(some (107,false)),(.bin 109 .eql (.t 108) (.c (.int .u8 92)))⟩,⟨none,(.pick 110 (.t 107) (.c (.bool true)) (.t 109))⟩]) (.cond (.t 110) (.sq [2] (.rg [⟨none,(.mov 2 (.c (.int .i64 3)))⟩]) .ret) .skip))))) (.rg [⟨none,(.bin 111 .add (.t 89) (.c (.int .i64 1)))⟩,⟨none,(.mov 89 (.t 111))⟩]))))) (FV 1 (KH [] (W2 Tryz.prog (OE mx) (.sq [2] (.rg [⟨none,(.mov 2 (.c (.int .i64 0)))⟩]) .ret)) (L7 [.tmp 2] [] [] (gu (iI (F0 v)))))) ⟨e,[]⟩:=by
 refine DQ _ hs (fun i=>[(89,.i (iI i))]) (fun _=>[]) (fun i=>(v.s.take i).all (fun c=>!CI low c)=true) v.s.length 0 (by omega) (by simp) h0 ?_;intro i hi jb
 (repeat' first|exact Av _|simp(disch:=omega)only[go_sem,simprocAttr]|refine' AD (fun hq=>?_) (fun f=>?_)<;>try(have je:=hq;try simp only[HB]at je)|refine Sx.s ?_ ?_<;>try(intro h;have h':=h;try simp only[HB]at h';try rewrite [h];try simp only[h])|refine Ae ?_|refine Sz.s ?_|(refine And.intro ?_ ?_;focus omega))
 ·have:v.s.any (CI low)=true:=by
   rw[List.any_eq_true];have ja:i<v.s.length:=by omega
   refine⟨v.s.getD i 0,?_,h⟩;grind
  rw[hv,if_pos this]
 ·exact BR (d:=0) jb (by omega) (by rw[show CI low (v.s.getD i 0)=false from h];rfl)
 ·have e:i=v.s.length:=by omega
  rw[e,List.take_length]at jb;have:v.s.any (CI low)=false:=by grind
  rw[hv,this];rfl
theorem Ud(v:Val):Is mx 97 [.agg (Bn v)] (iI (F0 v)):=by
 refine MX F97 ?_
 (repeat' first|exact Av _|simp(disch:=omega)only[go_sem,simprocAttr]|refine' AD (fun hq=>?_) (fun f=>?_)<;>try(have je:=hq;try simp only[HB]at je)|refine' Dr (fun hq=>?_) (fun f=>?_)<;>try(have je:=hq;try simp only[HB]at je)|refine Sx.s ?_ ?_<;>try(intro h;have h':=h;try simp only[HB]at h';try rewrite [h];try simp only[h])|refine Ae ?_|refine Sz.s ?_|fail)
 all_goals try(refine congrArg (I.int .i64) ?_;simp only[F0,NE,Pq,eqS,neS];grind)
 ·refine Zk v 33 (by simp only[F0,NE,Pq,eqS,neS];grind) ?_ (by omega) rfl;simp[V0,I9,L9,Bn]
 ·refine Zk v 32 (by simp only[F0,NE,Pq,eqS,neS];grind) ?_ (by omega) rfl;simp[V0,I9,L9,Bn]
end
section
theorem HP(x:Xpr):eE x=[.int .i64 x.kind,.str x.op,.str x.name,.str x.table,.int .i64 x.val.kind,.int .i64 x.val.n,.str x.val.s,.sl (x.unit.map Aw),.int .i64 x.param,.int .i64 x.win.kind,.int .i64 x.win.size,.sl (x.args.map eE)]:=by cases x;simp[eE,Re,Xpr.kind,Xpr.op,Xpr.name,Xpr.table,Xpr.val,Xpr.unit,Xpr.param,Xpr.win,Xpr.args]
theorem Cq{i n:Nat}(h:i<n):((i:Int)<(n:Int))=True:=by simp;omega
theorem Ih{i n:Nat}(h:¬i<n):((i:Int)<(n:Int))=False:=by simp;omega
def A5(f:Fac):Nat:=f.name.length+1
def Af{α:Type}(b:α->Nat):List α->Nat
 |[]=>0
 |x::r=>b x+Af b r
def EZ(v:Val):Nat:=v.s.length+1
def Ek(t:Typ):Nat:=Af A5 t.unit+t.of.length+1
mutual
def bX:Xpr->Nat
 |.mk _ o n t v u _ _ a=>o.length+n.length+t.length+EZ v+Af A5 u+bXs a+1
def bXs:List Xpr->Nat
 |[]=>0
 |x::r=>bX x+bXs r
end
theorem IC{α:Type}{b:α->Nat}(h:∀x,1<=b x):∀l,l.length<=Af b l
 |[]=>by simp[Af]
 |x::r=>by have:=h x;have:=IC h r;simp only[List.length_cons,Af];omega
theorem Cd{α:Type}{b:α->Nat}:∀{l:List α} {x:α},x∈l->b x<=Af b l
 |y::r,x,h=>by
  simp only[Af];rcases List.mem_cons.1 h with e|e
  ·subst e;omega
  ·have:=Cd (b:=b) e;omega
theorem Ft(u:List Fac):u.length<=Af A5 u:=IC (fun f=>by unfold A5;omega) u
theorem Zl:∀l,bXs l=Af bX l
 |[]=>rfl
 |x::r=>by simp[bXs,Af,Zl r]
theorem HQ(x:Xpr):bX x=x.op.length+x.name.length+x.table.length+EZ x.val+Af A5 x.unit+Af bX x.args+1:=by cases x;simp only[bX,Zl];rfl
theorem ID(x:Xpr):x.unit.length<=bX x:=by grind[HQ,Ft]
theorem Fu{x a:Xpr}(h:a∈x.args):bX a<bX x:=by grind[HQ,Cd,bX]
mutual
theorem NF:∀x,Bs x<=bX x
 |.mk _ o n t v u _ _ a=>by have:=sizeXs_bXs a;simp only[Bs,bX];omega
theorem sizeXs_bXs:∀l,sizeXs l<=bXs l
 |[]=>by simp[sizeXs,bXs]
 |x::r=>by have:=NF x;have:=sizeXs_bXs r;simp only[sizeXs,bXs];omega
end
theorem Mh(x:Xpr):x.args.length<=bX x:=by grind[HQ,IC,bX]
abbrev Fv:Win:=⟨0,0⟩
abbrev F1:Val:=⟨0,0,[]⟩
def BA(l:List AT)(x:AT):Bool:=l.any fun y=>decide (x=y)
def Gz(x:Xpr):Xpr:=
 if x.kind=1 then .mk x.kind [] x.name [] x.val x.unit 0 Fv []
 else if x.kind=2\/x.kind=3\/x.kind=4 then .mk x.kind [] x.name [] F1 [] 0 Fv []
 else if x.kind=5 then .mk x.kind x.op [] x.table F1 [] x.param x.win []
 else if x.kind=6\/x.kind=7 then .mk x.kind x.op [] [] F1 [] 0 Fv []
 else .mk x.kind [] [] [] F1 [] 0 Fv []
def JF(k:Int):Int:=if k=4\/k=6 then 1 else if k=5\/k=7\/k=9 then 2 else if k=8 then 3 else 0
def JG:AT:=[113,117,97,110,116,105,108,101]
def He:AT:=[100,101,99,97,121]
def HR:AT:=[99,111,117,110,116]
def Pr(op:AT):Int:=if op=JG then 1 else if op=He then 1 else 0
def Ps(op:AT):Int:=if op=JG then 1000 else if op=He then 1073741824 else 0
def Pt(w:Win):Bool:= !(decide (w.kind<1)||decide (4<w.kind)||(decide (w.kind=1)!=decide (w.size=0))||decide (w.size<0)||decide (1099511627776<w.size))
def Rl(x:Xpr):Bool:=decide (F0 x.val=0)&&!decide (x.val.n<0)&&decide (JD ⟨x.val.kind,x.unit,x.name⟩=0)
def Rm(x:Xpr)(inside:Bool):Bool:= !inside&&BA IA x.op&&CQ x.table&&!decide (x.param<Pr x.op)&&!decide (Ps x.op<x.param)&&Pt x.win
def IE(x:Xpr)(inside:Bool):Bool:=
 if x.kind=1 then Rl x
 else if x.kind=2\/x.kind=3\/x.kind=4 then(inside==decide (x.kind=2))&&CQ x.name
 else if x.kind=5 then Rm x inside
 else if x.kind=6 then BA JC x.op
 else if x.kind=7 then BA IB x.op
 else decide (x.kind=8)||decide (x.kind=9)
def Fw:Xpr:=.mk 1 [] [] [] ⟨1,1,[]⟩ [] 0 Fv []
def Mi(x:Xpr):Bool:=KR x (Gz x)
mutual
def HS:Xpr->Bool->Bool
 |.mk k o n t v u p w a,inside=>IE (.mk k o n t v u p w a) inside&&Mi (.mk k o n t v u p w a)&&decide ((a.length:Int)=JF k)&&properXs a (inside||decide (k=5))&&(!(decide (o=HR)&&decide (k=5))||KR (a.getD 0 default) Fw)
def properXs:List Xpr->Bool->Bool
 |[],_=>true
 |x::r,inside=>HS x inside&&properXs r inside
end
theorem Mj(x:Xpr)(inside:Bool):HS x inside=(IE x inside&&Mi x&&decide ((x.args.length:Int)=JF x.kind)&&properXs x.args (inside||decide (x.kind=5))&&(!(decide (x.op=HR)&&decide (x.kind=5))||KR (x.args.getD 0 default) Fw)):=by cases x;simp only[HS,Xpr.args,Xpr.kind,Xpr.op];rfl
theorem Rn(l:List Xpr)(inside:Bool):properXs l inside=l.all fun x=>HS x inside:=by
 induction l with
 |nil=>rfl
 |cons x r ih=>simp[properXs,ih]
def IF(x:Xpr):Int:=if 64<Bs x\/12<JE x then 2 else if HS x false then 0 else 3
end
section
theorem J7.cons{H:Type}{P:Program}{m:Nat}{t:TypeId}{ts:List TypeId}{l:List (DataW H)}(h:J7 P m (t::ts) l):∃d r,l=d::r/\Rd P m t d/\J7 P m ts r:=by
 cases l with
 |nil=>exact h.elim
 |cons d r=>exact⟨d,r,rfl,h.1,h.2⟩
theorem J7.nil{H:Type}{P:Program}{m:Nat}{l:List (DataW H)}(h:J7 P m [] l):l=[]:=by
 cases l with
 |nil=>rfl
 |cons d r=>exact h.elim
def F2(f:Fld):Nat:=f.name.length+Ek f.typ+1
def Dt(t:Tbl):Nat:=t.name.length+t.entity.length+Af F2 t.fields+1
def Bl(f:Ftr):Nat:=f.name.length+f.entity.length+Ek f.typ+bX f.body+1
def AP(c:Cat):Nat:=Af Dt c.tables+Af Bl c.features+Af Bl c.drafts+Af Bl c.past+1
section
variable {H:Type}{n:Nat}{d:DataW H}
theorem s4(h:Rd Tryz.prog n 249 d):∃x:Fac,Aq d=Aw x/\A5 x<=A9 d/\True:=by obtain⟨parts,m,hm,rfl,hp⟩:=h.struct Tryz.underlying249;obtain⟨d1,r1,rfl,h1,hp⟩:=J7.cons hp;obtain⟨d2,r2,rfl,h2,hp⟩:=J7.cons hp;obtain rfl:=J7.nil hp;obtain⟨a1,rfl⟩:=h1.str (by kernel_rfl);obtain⟨a2,rfl,_⟩:=h2.int (k:=.i64) (by kernel_rfl);exact⟨⟨a1,a2⟩,rfl,by simp only[A9,bulkL,A5];omega,trivial⟩
theorem Zm(h:Rd Tryz.prog n 55 d):∃x:Val,Aq d=Bn x/\EZ x<=A9 d/\True:=by obtain⟨parts,m,hm,rfl,hp⟩:=h.struct Tryz.underlying55;obtain⟨d1,r1,rfl,h1,hp⟩:=J7.cons hp;obtain⟨d2,r2,rfl,h2,hp⟩:=J7.cons hp;obtain⟨d3,r3,rfl,h3,hp⟩:=J7.cons hp;obtain rfl:=J7.nil hp;obtain⟨a1,rfl,_⟩:=h1.int (k:=.i64) (by kernel_rfl);obtain⟨a2,rfl,_⟩:=h2.int (k:=.i64) (by kernel_rfl);obtain⟨a3,rfl⟩:=h3.str (by kernel_rfl);exact⟨⟨a1,a2,a3⟩,rfl,by simp only[A9,bulkL,EZ];omega,trivial⟩
theorem s5(h:Rd Tryz.prog n 57 d):∃x:Win,Aq d=Gx x/\True:=by obtain⟨parts,m,hm,rfl,hp⟩:=h.struct Tryz.underlying57;obtain⟨d1,r1,rfl,h1,hp⟩:=J7.cons hp;obtain⟨d2,r2,rfl,h2,hp⟩:=J7.cons hp;obtain rfl:=J7.nil hp;obtain⟨a1,rfl,_⟩:=h1.int (k:=.i64) (by kernel_rfl);obtain⟨a2,rfl,_⟩:=h2.int (k:=.i64) (by kernel_rfl);exact⟨⟨a1,a2⟩,rfl,trivial⟩
theorem Zn(h:Rd Tryz.prog n 51 d):∃xs:List Fac,Aq d=[.sl (xs.map Aw)]/\Af A5 xs+1<=A9 d/\∀x∈xs,True:=
 h.list (f:=Aw) (b:=A5) (bs:=Af A5) rfl (fun _ _=>rfl) Tryz.underlying51 fun m y _ hy=>s4 hy
theorem Zo(h:Rd Tryz.prog n 53 d):∃x:Typ,Aq d=Ar x/\Ek x<=A9 d/\True:=by obtain⟨parts,m,hm,rfl,hp⟩:=h.struct Tryz.underlying53;obtain⟨d1,r1,rfl,h1,hp⟩:=J7.cons hp;obtain⟨d2,r2,rfl,h2,hp⟩:=J7.cons hp;obtain⟨d3,r3,rfl,h3,hp⟩:=J7.cons hp;obtain rfl:=J7.nil hp;obtain⟨a1,rfl,_⟩:=h1.int (k:=.i64) (by kernel_rfl);obtain⟨a2,e2,b2,_⟩:=Zn h2;obtain⟨a3,rfl⟩:=h3.str (by kernel_rfl);exact⟨⟨a1,a2,a3⟩,by simp only[Aq,flatA,e2];rfl,by simp only[A9,bulkL,Ek]at b2⊢;omega,trivial⟩
theorem s6:∀(n:Nat) (d:DataW H),Rd Tryz.prog n 60 d->∃x:Xpr,Aq d=eE x/\bX x<=A9 d/\True:=by
 intro n
 induction n using Nat.strongRecOn with
 |ind n ih=>
 intro d h;obtain⟨parts,m,hm,rfl,hp⟩:=h.struct Tryz.underlying60;obtain⟨d1,r1,rfl,h1,hp⟩:=J7.cons hp;obtain⟨d2,r2,rfl,h2,hp⟩:=J7.cons hp;obtain⟨d3,r3,rfl,h3,hp⟩:=J7.cons hp;obtain⟨d4,r4,rfl,h4,hp⟩:=J7.cons hp;obtain⟨d5,r5,rfl,h5,hp⟩:=J7.cons hp;obtain⟨d6,r6,rfl,h6,hp⟩:=J7.cons hp;obtain⟨d7,r7,rfl,h7,hp⟩:=J7.cons hp;obtain⟨d8,r8,rfl,h8,hp⟩:=J7.cons hp;obtain⟨d9,r9,rfl,h9,hp⟩:=J7.cons hp;obtain rfl:=J7.nil hp;obtain⟨a1,rfl,_⟩:=h1.int (k:=.i64) (by kernel_rfl);obtain⟨a2,rfl⟩:=h2.str (by kernel_rfl);obtain⟨a3,rfl⟩:=h3.str (by kernel_rfl);obtain⟨a4,rfl⟩:=h4.str (by kernel_rfl);obtain⟨a5,e5,b5,_⟩:=Zm h5;obtain⟨a6,e6,b6,_⟩:=Zn h6;obtain⟨a7,rfl,_⟩:=h7.int (k:=.i64) (by kernel_rfl);obtain⟨a8,e8,_⟩:=s5 h8;obtain⟨a9,e9,b9,_⟩:=h9.list (f:=eE) (b:=bX) (bs:=Af bX) (Q:=fun _=>True) rfl (fun _ _=>rfl) Tryz.underlying58 fun k y hk hy=>ih k (by omega) y hy
 refine⟨.mk a1 a2 a3 a4 a5 a6 a7 a8 a9,?_,?_,trivial⟩
 ·rw[HP];simp only[Aq,flatA,e5,e6,e8,e9];rfl
 ·rw[HQ];simp only[A9,bulkL,Xpr.op,Xpr.name,Xpr.table,Xpr.val,Xpr.unit,Xpr.args]at*;omega
theorem s7(h:Rd Tryz.prog n 99 d):∃x:Fld,Aq d=Cc x/\F2 x<=A9 d/\True:=by obtain⟨parts,m,hm,rfl,hp⟩:=h.struct Tryz.underlying99;obtain⟨d1,r1,rfl,h1,hp⟩:=J7.cons hp;obtain⟨d2,r2,rfl,h2,hp⟩:=J7.cons hp;obtain rfl:=J7.nil hp;obtain⟨a1,rfl⟩:=h1.str (by kernel_rfl);obtain⟨a2,e2,b2,_⟩:=Zo h2;exact⟨⟨a1,a2⟩,by simp only[Aq,flatA,e2];rfl,by simp only[A9,bulkL,F2]at b2⊢;omega,trivial⟩
theorem s8(h:Rd Tryz.prog n 50 d):∃x:Tbl,Aq d=AR x/\Dt x<=A9 d/\True:=by
 obtain⟨parts,m,hm,rfl,hp⟩:=h.struct Tryz.underlying50;obtain⟨d1,r1,rfl,h1,hp⟩:=J7.cons hp;obtain⟨d2,r2,rfl,h2,hp⟩:=J7.cons hp;obtain⟨d3,r3,rfl,h3,hp⟩:=J7.cons hp;obtain⟨d4,r4,rfl,h4,hp⟩:=J7.cons hp;obtain rfl:=J7.nil hp;obtain⟨a1,rfl⟩:=h1.str (by kernel_rfl);obtain⟨a2,rfl⟩:=h2.str (by kernel_rfl);obtain⟨a3,e3,b3,_⟩:=h3.list (f:=Cc) (b:=F2) (bs:=Af F2) (Q:=fun _=>True) rfl (fun _ _=>rfl) Tryz.underlying48 fun m y _ hy=>s7 hy
 obtain⟨a4,rfl,_⟩:=h4.int (k:=.i64) (by kernel_rfl);exact⟨⟨a1,a2,a3,a4⟩,by simp only[Aq,flatA,e3];rfl,by simp only[A9,bulkL,Dt]at b3⊢;omega,trivial⟩
theorem s9(h:Rd Tryz.prog n 62 d):∃x:Ftr,Aq d=Ag x/\Bl x<=A9 d/\True:=by obtain⟨parts,m,hm,rfl,hp⟩:=h.struct Tryz.underlying62;obtain⟨d1,r1,rfl,h1,hp⟩:=J7.cons hp;obtain⟨d2,r2,rfl,h2,hp⟩:=J7.cons hp;obtain⟨d3,r3,rfl,h3,hp⟩:=J7.cons hp;obtain⟨d4,r4,rfl,h4,hp⟩:=J7.cons hp;obtain⟨d5,r5,rfl,h5,hp⟩:=J7.cons hp;obtain rfl:=J7.nil hp;obtain⟨a1,rfl⟩:=h1.str (by kernel_rfl);obtain⟨a2,rfl⟩:=h2.str (by kernel_rfl);obtain⟨a3,e3,b3,_⟩:=Zo h3;obtain⟨a4,e4,b4,_⟩:=s6 _ _ h4;obtain⟨a5,rfl,_⟩:=h5.int (k:=.i64) (by kernel_rfl);exact⟨⟨a1,a2,a3,a4,a5⟩,by simp only[Aq,flatA,e3,e4,Ag,List.append_assoc,List.cons_append,List.nil_append,List.append_nil],by simp only[A9,bulkL,Bl]at b3 b4⊢;omega,trivial⟩
end
theorem Mk(t:Typ):t.unit.length<=Ek t:=by grind[Ft,Ek]
end
section
open Go Go.Dl Go.As Go.RowKit Go.ChangeShapes Go.WideShapes
theorem E1{P:Program}{t:TypeId}{cs:List I}{fs:Array Field}(h:P.underlying t=some (.struct fs)):Bx P t cs=.agg cs:=by grind[Bx]
theorem Ga{P:Program}{t:TypeId}{x:I}(h:∀fs,P.underlying t≠some (.struct fs)):Bx P t [x]=x:=by simp[Bx]
theorem own:ownKnob Tryz.prog.godebug=none:=by kernel_rfl
theorem Ml:laidOutB Tryz.prog=true:=by kernel_rfl
def ta:List TypeId:=[24,68,44,3,9,4,70,71,73,55,51,57,58,60,53,249,62,48,99,50,175,27,26,29,47,64,66,22]
theorem IG:Me Tryz.prog ta=true:=by kernel_rfl
def HT:List (String×DataW Unit):=[("asof/checker.aggregates",Rows.laid_asof_checker_aggregates),("asof/checker.unary",Rows.laid_asof_checker_unary),("asof/checker.binary",Rows.laid_asof_checker_binary)]
theorem Ue{P:Program}{l:List TypeId}(vp:Me P l=true){W:World}{nm:String}{g:Nat}{t:TypeId}{cs:Array Value}{fuel:Nat}{d:DataW Unit}{p:List MemPlace}{is:List I}(hg:P.globalNamed nm=some g)(hv:W.var? P nm=some cs)(ht:l.contains t=true)
  (hd:DataW.trod (fun _=>()) P W 0 (fun _=>true) false fuel t cs.toList=some (d,p))(he:Aq d=is):Rep (Ds W) (.elt is 0) (.pointer (some ⟨g,0,none⟩)):=by
 have hR:=Y1 vp fuel t _ _ ht hd;rw[he]at hR;have:=Rep.elt (M:=Ds W) is 0 g 0 (fun j=>cs.toList.getD j Go.undef) (fun j hj=>by
  have jq:j<cs.toList.length:=by rw[hR.1];exact hj
  show W.cell? ⟨g,0+j,none⟩=_;rw[Nat.zero_add,World.var?_cell hg hv j];simp only[List.getD,List.getElem?_eq_getElem jq,Option.getD_some];simp at jq;simp[jq]) (fun j hj=>by
  have jq:j<cs.toList.length:=by rw[hR.1];exact hj
  simp only[List.getD,List.getElem?_eq_getElem jq,Option.getD_some];exact hR.2 j hj jq)
 simpa using this
theorem tc{P:Program}{w:World}{g:Nat}{t:TypeId}{k:IntKind}{zero:Array Value}(h:w.ShapedOpen P)(hg:g<P.globals.size)
  (h0:((begin P (fun _ _=>0) default).world.heap[g]?).bind Obj.row? =some (zero,t))(hz:zero.size=1)
  (hb:P.buildable t=true)(hc:P.cellTypes P.depth t=some [t])(hu:P.underlying t=some (.int k)):∃n,w.cell? ⟨g,0,none⟩=some (.int k n):=by
 obtain⟨cs,hh,hs,hr⟩:=h.1 g zero t hg h0;obtain⟨ts,hts,_,jg⟩:=hr hb;rw[hc]at hts;cases hts;have h1:0<cs.size:=by omega
 obtain⟨u,hu',kg⟩:=jg 0 cs[0] (by simp[h1]);have:u=t:=by grind
 subst this;have j4:w.cell? ⟨g,0,none⟩=some cs[0]:=by simp[World.cell?,hh,h1]
 rw[j4];unfold Cell.ok at kg;rw[hu]at kg;cases hv:cs[0]<;>rw[hv]at kg<;>simp at kg;obtain⟨rfl,_⟩:=kg;exact⟨_,rfl⟩
theorem Mm{W:World}(hL:laidMetH Tryz.prog HT W)(hS:W.ShapedOpen Tryz.prog):∃mx,Ij (OE mx) (Ds W):=by
 obtain⟨mx,hm⟩:=tc (k:=.i64) (t:=3) (g:=3) (zero:=#[.int .i64 0]) hS (of_decide_eq_true (by kernel_rfl)) (by kernel_rfl) rfl (by kernel_rfl) (by kernel_rfl) (by kernel_rfl);have h:laidMet Tryz.prog HT W:=hL;obtain⟨ps,hv,_⟩:=h;obtain⟨g0,t0,cs0,f0,p0,q0,a1,a2,a3,a4,hv,_⟩:=hv;obtain⟨g1,t1,cs1,f1,p1,q1,b1,b2,b3,b4,hv,_⟩:=hv;obtain⟨g2,t2,cs2,f2,p2,q2,c1,c2,c3,c4,hv,_⟩:=hv;obtain rfl:0=g0:=Option.some.inj ((show Tryz.prog.globalNamed "asof/checker.aggregates"=some 0 by kernel_rfl).symm.trans a1);obtain rfl:1=g1:=Option.some.inj ((show Tryz.prog.globalNamed "asof/checker.unary"=some 1 by kernel_rfl).symm.trans b1);obtain rfl:2=g2:=Option.some.inj ((show Tryz.prog.globalNamed "asof/checker.binary"=some 2 by kernel_rfl).symm.trans c1);obtain rfl:175=t0:=Option.some.inj ((show(Tryz.prog.globals[0]?).map (·.type)=some 175 by kernel_rfl).symm.trans a2);obtain rfl:175=t1:=Option.some.inj ((show(Tryz.prog.globals[1]?).map (·.type)=some 175 by kernel_rfl).symm.trans b2);obtain rfl:175=t2:=Option.some.inj ((show(Tryz.prog.globals[2]?).map (·.type)=some 175 by kernel_rfl).symm.trans c2);have k0:=Ue IG (is:=[.sl (IA.map fun s=>[.str s])]) a1 a3 (by decide) a4 (by rfl);have k1:=Ue IG (is:=[.sl (JC.map fun s=>[.str s])]) b1 b3 (by decide) b4 (by rfl);have k2:=Ue IG (is:=[.sl (IB.map fun s=>[.str s])]) c1 c3 (by decide) c4 (by rfl);refine⟨mx,fun g cs hg=>?_⟩;simp only[OE,List.mem_cons,List.not_mem_nil,or_false,Prod.mk.injEq]at hg;rcases hg with⟨rfl,rfl⟩|⟨rfl,rfl⟩|⟨rfl,rfl⟩|⟨rfl,rfl⟩
 ·have:=Rep.elt (M:=Ds W) [.int .i64 mx] 0 3 0 (fun _=>.int .i64 mx) (fun j hj=>by
   obtain rfl:j=0:=by grind
   exact hm) (fun j hj=>by
   obtain rfl:j=0:=by grind
   exact .int _ _)
  exact this
 all_goals omega
mutual
theorem Ro{H:Type}:∀d:DataW H,Rows.uptoBulk d=A9 d
 |.lit l=>by cases l<;>rfl
 |.nil=>rfl
 |.ptr d=>by simp only[Rows.uptoBulk,A9,Ro d]
 |.slice e s=>by simp only[Rows.uptoBulk,A9,bulks_eq e,bulks_eq s]
 |.agg p=>by simp only[Rows.uptoBulk,A9,bulks_eq p]
 |.iface _ d=>by simp only[Rows.uptoBulk,A9,Ro d]
 |.map es=>by simp only[Rows.uptoBulk,A9,bulkes_eq es]
 |.held _=>rfl
theorem bulks_eq{H:Type}:∀l:List (DataW H),Rows.uptoBulkAll l=bulkL l
 |[]=>rfl
 |d::r=>by simp only[Rows.uptoBulkAll,bulkL,Ro d,bulks_eq r]
theorem bulkes_eq{H:Type}:∀l:List (Lit×DataW H),Rows.uptoBulkEntries l=bulkE l
 |[]=>rfl
 |(k,d)::r=>by cases k<;>simp only[Rows.uptoBulkEntries,Rows.uptoBulkEntry,bulkE,bulk1,Ro d,bulkes_eq r]
end
noncomputable def Uf(l:List (List UInt8)):Array Value:=(l.map fun s=>Value.string ⟨s.toArray⟩).toArray
noncomputable def Du(os:Os):World:=
 let N:=(World.settled Tryz.prog os).heap.size
 let w0:=World.holding Tryz.prog os ⟨#[.cells (Uf IA) 9,.cells (Uf JC) 9,.cells (Uf IB) 9],#[],[]⟩
 let put (h:Array Obj) (g:Nat) (cs:Array Value):Array Obj:=h.modify g fun
  |.cells _ t frozen=>.cells cs t frozen
  |o=>o
 let h0:=put w0.heap 0 #[.slice (some ⟨N,0,none⟩) 10 10]
 let h1:=put h0 1 #[.slice (some ⟨N+1,0,none⟩) 3 3]
 let h2:=put h1 2 #[.slice (some ⟨N+2,0,none⟩) 10 10]
 {w0 with heap:=h2}
noncomputable abbrev N0:Nat:=(World.settled Tryz.prog default).heap.size
theorem Mn(os:Os)(args:Array Value):laidMet Tryz.prog HT ((Du os).forCall (fun _ _=>0) ⟨#[],args,[]⟩).memory:=
 (LaidIn.of_run (l:=HT) [0,1,2,N0,N0+1,N0+2] 8 (by kernel_rfl) (by kernel_rfl) (by kernel_rfl) (by kernel_rfl)).met
end
section
def Hf(x:Fid):Nat:=x.source.length+1
def Bz(x:Fct):Nat:=Hf x.id+x.table.length+x.key.length+Af EZ x.fields+1
def DD(x:Ers):Nat:=x.entity.length+x.key.length+Hf x.id+1
def Cl(x:Chg):Nat:=Dt x.table+Bl x.feature+x.name.length+1
def Am(x:Ent):Nat:=Bz x.fact+DD x.erasure+Cl x.change+1
section
variable {H:Type}{n:Nat}{d:DataW H}
theorem td(h:Rd Tryz.prog n 27 d):∃xs:List Val,Aq d=[.sl (xs.map Bn)]/\Af EZ xs+1<=A9 d/\∀x∈xs,True:=
 h.list (f:=Bn) (b:=EZ) (bs:=Af EZ) rfl (fun _ _=>rfl) Tryz.underlying27 fun m y _ hy=>Zm hy
theorem Zp(h:Rd Tryz.prog n 26 d):∃x:Fid,Aq d=Ao x/\Hf x<=A9 d/\True:=by obtain⟨parts,m,hm,rfl,hp⟩:=h.struct Tryz.underlying26;obtain⟨d1,r1,rfl,h1,hp⟩:=J7.cons hp;obtain⟨d2,r2,rfl,h2,hp⟩:=J7.cons hp;obtain rfl:=J7.nil hp;obtain⟨a1,rfl⟩:=h1.str (by kernel_rfl);obtain⟨a2,rfl,_⟩:=h2.int (k:=.i64) (by kernel_rfl);exact⟨⟨a1,a2⟩,by simp only[Aq,flatA,Ao,List.cons_append,List.nil_append,List.append_nil],by simp only[A9,bulkL,Hf];omega,trivial⟩
theorem KS(h:Rd Tryz.prog n 29 d):∃x:Fct,Aq d=Ap x/\Bz x<=A9 d/\True:=by obtain⟨parts,m,hm,rfl,hp⟩:=h.struct Tryz.underlying29;obtain⟨d1,r1,rfl,h1,hp⟩:=J7.cons hp;obtain⟨d2,r2,rfl,h2,hp⟩:=J7.cons hp;obtain⟨d3,r3,rfl,h3,hp⟩:=J7.cons hp;obtain⟨d4,r4,rfl,h4,hp⟩:=J7.cons hp;obtain⟨d5,r5,rfl,h5,hp⟩:=J7.cons hp;obtain⟨d6,r6,rfl,h6,hp⟩:=J7.cons hp;obtain⟨d7,r7,rfl,h7,hp⟩:=J7.cons hp;obtain rfl:=J7.nil hp;obtain⟨a1,e1,b1,_⟩:=Zp h1;obtain⟨a2,rfl,_⟩:=h2.int (k:=.i64) (by kernel_rfl);obtain⟨a3,rfl,_⟩:=h3.int (k:=.i64) (by kernel_rfl);obtain⟨a4,rfl⟩:=h4.str (by kernel_rfl);obtain⟨a5,rfl⟩:=h5.str (by kernel_rfl);obtain⟨a6,rfl,_⟩:=h6.int (k:=.i64) (by kernel_rfl);obtain⟨a7,e7,b7,_⟩:=td h7;exact⟨⟨a1,a2,a3,a4,a5,a6,a7⟩,by simp only[Aq,flatA,e1,e7,Ap,List.cons_append,List.nil_append,List.append_nil],by simp only[A9,bulkL,Bz]at b1 b7⊢;omega,trivial⟩
theorem Rp(h:Rd Tryz.prog n 47 d):∃x:Ers,Aq d=BL x/\DD x<=A9 d/\True:=by obtain⟨parts,m,hm,rfl,hp⟩:=h.struct Tryz.underlying47;obtain⟨d1,r1,rfl,h1,hp⟩:=J7.cons hp;obtain⟨d2,r2,rfl,h2,hp⟩:=J7.cons hp;obtain⟨d3,r3,rfl,h3,hp⟩:=J7.cons hp;obtain⟨d4,r4,rfl,h4,hp⟩:=J7.cons hp;obtain rfl:=J7.nil hp;obtain⟨a1,rfl,_⟩:=h1.int (k:=.i64) (by kernel_rfl);obtain⟨a2,rfl⟩:=h2.str (by kernel_rfl);obtain⟨a3,rfl⟩:=h3.str (by kernel_rfl);obtain⟨a4,e4,b4,_⟩:=Zp h4;exact⟨⟨a1,a2,a3,a4⟩,by simp only[Aq,flatA,e4,BL,List.cons_append,List.nil_append,List.append_nil],by simp only[A9,bulkL,DD]at b4⊢;omega,trivial⟩
theorem Zq(h:Rd Tryz.prog n 64 d):∃x:Chg,Aq d=AE x/\Cl x<=A9 d/\True:=by obtain⟨parts,m,hm,rfl,hp⟩:=h.struct Tryz.underlying64;obtain⟨d1,r1,rfl,h1,hp⟩:=J7.cons hp;obtain⟨d2,r2,rfl,h2,hp⟩:=J7.cons hp;obtain⟨d3,r3,rfl,h3,hp⟩:=J7.cons hp;obtain⟨d4,r4,rfl,h4,hp⟩:=J7.cons hp;obtain rfl:=J7.nil hp;obtain⟨a1,rfl,_⟩:=h1.int (k:=.i64) (by kernel_rfl);obtain⟨a2,e2,b2,_⟩:=s8 h2;obtain⟨a3,e3,b3,_⟩:=s9 h3;obtain⟨a4,rfl⟩:=h4.str (by kernel_rfl);exact⟨⟨a1,a2,a3,a4⟩,by simp only[Aq,flatA,e2,e3,AE,List.append_assoc,List.cons_append,List.nil_append,List.append_nil],by simp only[A9,bulkL,Cl]at b2 b3⊢;omega,trivial⟩
theorem te(h:Rd Tryz.prog n 66 d):∃x:Ent,Aq d=Ac x/\Am x<=A9 d/\True:=by obtain⟨parts,m,hm,rfl,hp⟩:=h.struct Tryz.underlying66;obtain⟨d1,r1,rfl,h1,hp⟩:=J7.cons hp;obtain⟨d2,r2,rfl,h2,hp⟩:=J7.cons hp;obtain⟨d3,r3,rfl,h3,hp⟩:=J7.cons hp;obtain⟨d4,r4,rfl,h4,hp⟩:=J7.cons hp;obtain⟨d5,r5,rfl,h5,hp⟩:=J7.cons hp;obtain⟨d6,r6,rfl,h6,hp⟩:=J7.cons hp;obtain rfl:=J7.nil hp;obtain⟨a1,rfl,_⟩:=h1.int (k:=.i64) (by kernel_rfl);obtain⟨a2,rfl,_⟩:=h2.int (k:=.i64) (by kernel_rfl);obtain⟨a3,rfl,_⟩:=h3.int (k:=.i64) (by kernel_rfl);obtain⟨a4,e4,b4,_⟩:=KS h4;obtain⟨a5,e5,b5,_⟩:=Rp h5;obtain⟨a6,e6,b6,_⟩:=Zq h6;exact⟨⟨a1,a2,a3,a4,a5,a6⟩,by simp only[Aq,flatA,e4,e5,e6,Ac,List.append_assoc,List.cons_append,List.nil_append,List.append_nil],by simp only[A9,bulkL,Am]at b4 b5 b6⊢;omega,trivial⟩
theorem Mo(h:Rd Tryz.prog n 22 d):∃xs:List Ent,Aq d=[.sl (xs.map Ac)]/\Af Am xs+1<=A9 d/\∀x∈xs,True:=
 h.list (f:=Ac) (b:=Am) (bs:=Af Am) rfl (fun _ _=>rfl) Tryz.underlying22 fun m y _ hy=>te hy
end
end
section
abbrev iW(n:Int):I:=.int .u64 n
abbrev AX(n:Int):List I:=[iI n]
def dig(n:Int)(k:Nat):List Int:=(List.range k).map fun j=>n/65536 ^ j%65536
theorem Pu{α:Type}[Inhabited α]{l:List α}{i:Nat}(h:i<l.length):l.drop i=l.getD i default::l.drop (i+1):=by simp_all
theorem Zr(n:Int)(k:Nat):dig n (k+1)=dig n k++[n/65536 ^ k%65536]:=by simp[dig,List.range_succ]
theorem Ug(n:Int)(k:Nat):(dig n k).length=k:=by simp[dig]
theorem tf{n:Int}{k:Nat}{x:Int}(h:x∈dig n k):0<=x/\x<65536:=by grind[dig]
def Bt(hi lo:Int):List Int:=dig lo 4++dig (hi%18446744073709551616) 4
theorem Pv(hi lo:Int):(Bt hi lo).length=8:=by rfl
theorem Rq{hi lo x:Int}(h:x∈Bt hi lo):0<=x/\x<65536:=by rcases List.mem_append.1 h with h|h<;>exact tf h
theorem Zs(n:Int)(k:Nat):n/65536 ^ k/65536=n/65536 ^ (k+1):=by rw[Int.pow_succ,Int.ediv_ediv_of_nonneg (by exact Int.pow_nonneg (by decide))]
theorem Zt{n:Int}(k:Nat)(h:0<=n):0<=n/65536 ^ k/\n/65536 ^ k<=n:=by refine⟨Int.ediv_nonneg h (Int.pow_nonneg (by decide)),Int.ediv_le_self _ h⟩
theorem Pw(hi0 lo:Int)(hh:-9223372036854775808<=hi0/\hi0<=9223372036854775807)(hl:0<=lo/\lo<18446744073709551616):MC Tryz.prog (OE mx) 363 [.i (.agg [iI hi0,iW lo])] [] []
  (fun r s=>r=.ref (.sl 6000 1 0 8)/\s=[(6000,.rows 3 1 ((Bt hi0 lo).map AX))]):=by
 have hw:IntKind.u64.wrap hi0=hi0%18446744073709551616:=by rfl
 refine MX pM ?_
 (repeat' first|simp(disch:=omega)only[go_sem,reduceCtorEq,Nat.reduceAdd,Nat.reduceEqDiff,Nat.reduceLeDiff,hw]|fail)
 refine BG [5] (by simp only[V0,MQ,reduceIte,Nat.reduceEqDiff];rfl) (fun i:Nat=>[(3,.ref (.sl 3 1 0 i)),(4,.i (iW (lo/65536 ^ i))),(6,.i (iI i))]) (fun i=>[(3,.rows 3 1 ((dig lo i).map AX)),(2,.rows 3 1 [])])
  (fun i=>i<=4) (fun i=>4-i) 0 (by omega) (by simp[V0,I9,L9,Ref.nm,dig]) ?_
 intro i hi;have hb:=Zt i hl.1;have xh:=Ug lo i;have e4:(lo/65536 ^ i).tdiv 65536=lo/65536 ^ i/65536:=by grind
 have e5:(lo/65536 ^ i).tmod 65536=lo/65536 ^ i%65536:=by grind
 have e6:IntKind.i64.wrap (lo/65536 ^ i%65536)=lo/65536 ^ i%65536:=BH (by omega) (by omega);have e7:IntKind.u64.wrap (lo/65536 ^ i/65536)=lo/65536 ^ i/65536:=by simp only[IntKind.wrap,IntKind.signed,IntKind.bits];simp;omega
 by_cases ja:i<4
 ·have h1:((i:Int)<4)=True:=eq_true (by omega)
  (repeat' first|simp(disch:=omega)only[go_sem,Nat.reduceAdd,Nat.reduceEqDiff,Nat.reduceLeDiff,h1,e4,e5,e6,e7,Nat.sub_zero]|refine Ae ?_|(refine And.intro ?_ ?_;focus omega))
  refine⟨by simp,by simp[I.one],by omega,by omega,by decide,i+1,by omega,by omega,⟨rfl,by rw[Zs],rfl⟩,?_⟩;rw[List.take_of_length_le (by simp[xh]),Zr,List.map_append];rfl
 ·have h1:((i:Int)<4)=False:=eq_false (by omega);have e:i=4:=by omega
  (repeat' first|simp(disch:=omega)only[go_sem,Nat.reduceEqDiff,h1]|refine Ae ?_|fail)
  have hm:0<=hi0%18446744073709551616/\hi0%18446744073709551616<18446744073709551616:=by omega
  generalize hg:hi0%18446744073709551616=h at hm;refine BG [] (by simp only[MQ];rfl) (fun i:Nat=>[(3,.ref (.sl 3 1 0 (4+i))),(5,.i (iW (h/65536 ^ i))),(7,.i (iI i))]) (fun i=>[(3,.rows 3 1 ((dig lo 4++dig h i).map AX)),(2,.rows 3 1 [])])
   (fun i=>i<=4) (fun i=>4-i) 0 (by omega) (by simp[V0,I9,L9,Ref.nm,dig,e]) ?_
  intro k hk;have ko:=Zt k hm.1;have hdl2:=Ug h k;have hdl4:=Ug lo 4;have f4:(h/65536 ^ k).tdiv 65536=h/65536 ^ k/65536:=by grind
  have f5:(h/65536 ^ k).tmod 65536=h/65536 ^ k%65536:=by grind
  have f6:IntKind.i64.wrap (h/65536 ^ k%65536)=h/65536 ^ k%65536:=BH (by omega) (by omega);have f7:IntKind.u64.wrap (h/65536 ^ k/65536)=h/65536 ^ k/65536:=by simp only[IntKind.wrap,IntKind.signed,IntKind.bits];simp;omega
  by_cases jk:k<4
  ·have h2:((k:Int)<4)=True:=eq_true (by omega)
   (repeat' first|simp(disch:=omega)only[go_sem,Nat.reduceAdd,Nat.reduceEqDiff,Nat.reduceLeDiff,h2,f4,f5,f6,f7,Nat.sub_zero]|refine Ae ?_|(refine And.intro ?_ ?_;focus omega))
   refine⟨by simp,by simp[I.one],by omega,by omega,by decide,k+1,by omega,by omega,⟨rfl,by rw[Zs],rfl⟩,?_⟩;rw[List.take_of_length_le (by simp[hdl2,hdl4]),Zr h k,<-List.append_assoc];simp only[List.map_append];rfl
  ·have h2:((k:Int)<4)=False:=eq_false (by omega);have e':k=4:=by omega
   refine Hw h2 ?_;refine Ez [(3,6000)] (by simp only[go_sem,V10];rfl) (by simp[YI];rfl) (by decide) (by simp[V0,I9,L9,Ref.nm]) ?_;refine⟨by rw[e'];rfl,?_⟩;rw[<-hg,e'];rfl
theorem Zu(n:Int):(n.tmod 65536<0->n.tmod 65536+65536=n%65536/\n.tdiv 65536-1=n/65536)/\(0<=n.tmod 65536->n.tmod 65536=n%65536/\n.tdiv 65536=n/65536):=by grind
def WC:Int->List Int->List Int
 |_,[]=>[]
 |m,x::r=>(x+m)%65536::WC ((x+m)/65536) r
theorem Uh:∀(m:Int) (l:List Int),(WC m l).length=l.length
 |_,[]=>rfl
 |m,x::r=>by simp[WC,Uh _ r]
theorem Rr(d:List Int)(hd:d.length=8)(hb:∀x∈d,-1099511627776<=x/\x<=1099511627776):Is mx 365 [.sl (d.map AX)] (.sl ((WC 0 d).map AX)):=by
 refine MX sI ?_;refine OG ?_;refine lT [0] (fun g:Nat×Int×List Int=>[(3,.ref (.sl 3 1 0 g.1)),(4,.i (iI g.2.1)),(5,.i (iI g.1))]) (fun g=>[(3,.rows 3 1 (g.2.2.map AX)),(2,.rows 3 1 [])]) (fun g=>g.1<=8/\-33554432<=g.2.1/\g.2.1<=33554432/\g.2.2.length=g.1/\WC 0 d=g.2.2++WC g.2.1 (d.drop g.1)) (fun g=>8-g.1) (0,0,[]) ?_;rintro⟨i,m,out⟩ ⟨hi,hm1,hm2,hol,hc⟩;simp only at hi hm1 hm2 hol hc;by_cases ja:i<8
 ·have h1:((i:Int)<8)=True:=eq_true (by omega);have v8:i<d.length:=by omega
  have hx:=hb _ (AA v8);rw[Pu v8,WC]at hc;generalize hxx:d.getD i default=x at hx hc;have e0:IntKind.i64.wrap (x+m)=x+m:=BH (by omega) (by omega);refine Kas (cj h1 (cj hxx (cj e0 (Cq v8)))) (cj ?_ ?_)
  ·intro _ _;obtain⟨f1,f2⟩:=(Zu (x+m)).1 (by omega);have w1:IntKind.i64.wrap ((x+m).tmod 65536+65536)=(x+m)%65536:=by grind[BH]
   have w2:IntKind.i64.wrap (IntKind.i64.wrap ((x+m).tdiv 65536)-1)=(x+m)/65536:=by grind[BH]
   rw[w1,w2];refine⟨by simp,by simp[I.one],by omega,by omega,(i+1,(x+m)/65536,out++[(x+m)%65536]),⟨by show i+1<=8;omega,by show _<=(x+m)/65536;omega,by show(x+m)/65536<=_;omega,by simp[hol],by rw[hc,List.append_assoc];rfl⟩,by show 8-(i+1)<8-i;omega,⟨rfl,rfl,rfl⟩,?_⟩;rw[List.take_of_length_le (by simp[hol]),List.map_append];rfl
  ·intro _ _;obtain⟨f1,f2⟩:=(Zu (x+m)).2 (by omega);have w2:IntKind.i64.wrap ((x+m).tdiv 65536)=(x+m)/65536:=by grind[BH]
   rw[f1,w2];refine⟨by simp,by simp[I.one],by omega,by omega,(i+1,(x+m)/65536,out++[(x+m)%65536]),⟨by show i+1<=8;omega,by show _<=(x+m)/65536;omega,by show(x+m)/65536<=_;omega,by simp[hol],by rw[hc,List.append_assoc];rfl⟩,by show 8-(i+1)<8-i;omega,⟨rfl,rfl,rfl⟩,?_⟩;rw[List.take_of_length_le (by simp[hol]),List.map_append];rfl
 ·have h1:((i:Int)<8)=False:=eq_false (by omega);have hcar:WC 0 d=out:=by grind[WC]
  have jj:(i<=out.length)=True:=eq_true (by omega);have ke:(out.map AX).take i=out.map AX:=List.take_of_length_le (by simp[hol]);refine Hw (cj h1 (cj jj ke)) ?_
  all_goals intros
  all_goals rw[hcar]
def val:List Int->Int
 |[]=>0
 |x::r=>x+65536*val r
def vld(l:List Int):Prop:=∀x∈l,0<=x/\x<65536
theorem Zv:∀(l:List Int),vld l->l.length<=3->0<=val l/\val l<281474976710656
 |[],_,_=>by simp[val]
 |[a],h,_=>by have:=h a (by simp);simp only[val];omega
 |[a,b],h,_=>by have:=h a (by simp);have:=h b (by simp);simp only[val];omega
 |[a,b,c],h,_=>by have:=h a (by simp);have:=h b (by simp);have:=h c (by simp);simp only[val];omega
 |_::_::_::_::_,_,h=>by simp at h
def mkP(d:List Int):Int×Int:=(IntKind.i64.wrap (val (d.drop 4)),val (d.take 4))
abbrev mkW(d:List Int):List I:=[iI (mkP d).1,iW (mkP d).2]
theorem NG{n:Int}(h:0<=n)(h2:n<18446744073709551616):IntKind.u64.wrap n=n:=by simp only[IntKind.wrap,IntKind.signed,IntKind.bits];simp;omega
theorem Zw(d:List Int)(hd:d.length=8)(hb:vld d):Is mx 364 [.sl (d.map AX)] (.agg (mkW d)):=by
 refine MX rl ?_
 (repeat' first|simp(disch:=omega)only[go_sem,reduceCtorEq,Nat.reduceEqDiff]|fail)
 refine BG [0,2] (by simp only[V0,MQ,reduceIte,Nat.reduceEqDiff];rfl) (fun j:Nat=>[(3,.i (iW (val ((d.take 4).drop (4-j))))),(4,.i (iW (val (d.drop (8-j))))),(5,.i (iI (3-j)))]) (fun _=>[(2,.cells [.i (iI 0),.i (iW 0)])])
  (fun j=>j<=4) (fun j=>4-j) 0 (by omega) (by simp[V0,I9,L9,Ref.nm,List.drop_eq_nil_of_le,hd,val]) ?_
 intro j hj;by_cases jq:j<4
 ·have h1:((3-j:Int)≥0)=True:=eq_true (by omega);have h1b:((0:Int)<=3-j)=True:=eq_true (by omega);have k1:(3-j:Int).toNat=3-j:=by omega
  have k2:(3-j+4:Int).toNat=7-j:=by omega
  have d1:(d.take 4).drop (4-(j+1))=d.getD (3-j) default::(d.take 4).drop (4-j):=by grind[Pu,AS]
  have d2:d.drop (8-(j+1))=d.getD (7-j) default::d.drop (8-j):=by grind[Pu]
  have b1:=Zv ((d.take 4).drop (4-j)) (fun x hx=>hb x (List.mem_of_mem_take (List.mem_of_mem_drop hx))) (by simp;omega);have b2:=Zv (d.drop (8-j)) (fun x hx=>hb x (List.mem_of_mem_drop hx)) (by simp;omega);have m1:=hb _ (AA (n:=3-j) (l:=d) (by omega));have m2:=hb _ (AA (n:=7-j) (l:=d) (by omega));have g1:val ((d.take 4).drop (4-(j+1)))=d.getD (3-j) default+65536*val ((d.take 4).drop (4-j)):=by rw[d1,val]
  have g2:val (d.drop (8-(j+1)))=d.getD (7-j) default+65536*val (d.drop (8-j)):=by rw[d2,val]
  generalize val ((d.take 4).drop (4-j))=lo at b1 g1;generalize val (d.drop (8-j))=hi at b2 g2;have l1:((3-j:Int)<(d.length:Int))=True:=eq_true (by omega);have l2:((3-j+4:Int)<(d.length:Int))=True:=eq_true (by omega);have n1:IntKind.i64.wrap (3-j+4)=3-j+4:=BH (by omega) (by omega);have u1:=NG (n:=lo*65536) (by omega) (by omega);have u2:=NG (n:=hi*65536) (by omega) (by omega);have u3:=NG (n:=d.getD (3-j) default) (by omega) (by omega);have u4:=NG (n:=d.getD (7-j) default) (by omega) (by omega);have u5:=NG (n:=lo*65536+d.getD (3-j) default) (by omega) (by omega);have u6:=NG (n:=hi*65536+d.getD (7-j) default) (by omega) (by omega);refine La (cj h1 (cj k1 (cj k2 (cj l1 (cj l2 (cj n1 (cj u1 (cj u2 (cj u3 (cj u4 (cj u5 u6))))))))))) ?_;refine⟨j+1,by omega,by omega,?_,?_,?_⟩
  ·rw[g1];refine congrArg (fun n=>D.i (I.int .u64 n)) ?_;omega
  ·rw[g2];refine congrArg (fun n=>D.i (I.int .u64 n)) ?_;omega
  ·refine congrArg (fun n=>D.i (I.int .i64 n)) ?_;omega
 ·have h1b:((0:Int)<=3-j)=False:=eq_false (by omega);have e:j=4:=by omega
  refine Hw h1b ?_;rw[e];rfl
def ofW(n:Int):List I:=if n<0 then[iI (-1),iW (n%18446744073709551616)]else[iI 0,iW n]
theorem Ui(n:Int)(h:-9223372036854775808<=n/\n<=9223372036854775807):Is mx 357 [iI n] (.agg (ofW n)):=by
 have hw:IntKind.u64.wrap n=n%18446744073709551616:=by rfl
 refine MX oF ?_;refine Dp hw (cj ?_ ?_)
 ·intro h h';simp[ofW,h']
 ·intro _ _;have:n%18446744073709551616=n:=by omega
  simp[ofW,show¬n<0 by omega,this]
def wOk(hi lo:Int):Prop:=(-9223372036854775808<=hi/\hi<=9223372036854775807)/\(0<=lo/\lo<18446744073709551616)
def E2(f:Int->Int->Int):List Int->List Int->Nat->List Int
 |a::x,b::y,i+1=>f a b::E2 f x y i
 |x,_,_=>x
theorem Zx(f:Int->Int->Int)(x y:List Int):E2 f x y 0=x:=by cases x<;>cases y<;>rfl
theorem Uj(f:Int->Int->Int):∀(x y:List Int) (i:Nat),(E2 f x y i).length=x.length
 |[],y,i=>by rfl
 |a::x,[],i=>by rfl
 |a::x,b::y,0=>rfl
 |a::x,b::y,i+1=>by simp[E2,Uj f x y i]
theorem Uk(f:Int->Int->Int):∀(x y:List Int) (i:Nat),(E2 f x y i).getD i default=x.getD i default
 |[],y,i=>by rfl
 |a::x,[],i=>by rfl
 |a::x,b::y,0=>rfl
 |a::x,b::y,i+1=>by simpa[E2]using Uk f x y i
theorem Ul(f:Int->Int->Int):∀(x y:List Int) (i:Nat),x.length=y.length->i<x.length->(E2 f x y i).set i (f (x.getD i default) (y.getD i default))=E2 f x y (i+1)
 |[],y,i,_,h=>by simp at h
 |a::x,[],i,h,_=>by simp at h
 |a::x,b::y,0,_,_=>by simp[E2]
 |a::x,b::y,i+1,h,h2=>by simpa[E2]using Ul f x y i (by simpa using h) (by simpa using h2)
theorem Um(f:Int->Int->Int):∀(x y:List Int),x.length=y.length->E2 f x y x.length=List.zipWith f x y
 |[],[],_=>rfl
 |a::x,b::y,h=>by simp[E2,Um f x y (by simpa using h)]
theorem Un:∀{m:Int} {l:List Int},vld (WC m l)
 |_,[],x,h=>by simp[WC]at h
 |m,a::r,x,h=>by
  simp only[WC,List.mem_cons]at h;rcases h with rfl|h
  ·omega
  ·exact Un x h
theorem tg(ah al bh bl:Int)(ha:wOk ah al)(hb:wOk bh bl):Is mx 358 [.agg [iI ah,iW al],.agg [iI bh,iW bl]] (.agg (mkW (WC 0 (List.zipWith (·+·) (Bt ah al) (Bt bh bl))))):=by
 have hxm:∀x∈Bt ah al,0<=x/\x<65536:=fun x h=>Rq h
 have hym:∀x∈Bt bh bl,0<=x/\x<65536:=fun x h=>Rq h
 have vl:=Pv ah al;have hyl:=Pv bh bl;have m1:=Pw (mx:=mx) ah al ha.1 ha.2;have m2:=Pw (mx:=mx) bh bl hb.1 hb.2;generalize Bt ah al=x at hxm vl m1;generalize Bt bh bl=y at hym hyl m2;have w5:∀z∈List.zipWith (·+·) x y,-1099511627776<=z/\z<=1099511627776:=by intro z hz;obtain⟨k,hk,rfl⟩:=List.mem_iff_getElem.1 hz;rw[List.getElem_zipWith];have h1:=hxm _ (List.getElem_mem (l:=x) (n:=k) (by simp at hk;omega));have h2:=hym _ (List.getElem_mem (l:=y) (n:=k) (by simp at hk;omega));omega
 have h3:=Rr (mx:=mx) (List.zipWith (·+·) x y) (by simp[vl,hyl]) w5;have h4:=Zw (mx:=mx) (WC 0 (List.zipWith (·+·) x y)) (by simp[Uh,vl,hyl]) Un;refine MX pL ?_
 (repeat' first|simp(disch:=omega)only[go_sem,reduceCtorEq,Nat.reduceAdd,Nat.reduceEqDiff]|(refine Iy (m1) ?_ (by simp[I9]) (by simp[I9,L9]) (fun r sto' hR=>?_);(focus(first|rfl|(simp only[go_sem,Nat.reduceEqDiff];done)));first|(obtain⟨rfl,rfl⟩:=hR)|(obtain⟨_,(rfl|rfl),rfl,rfl⟩:=hR))|(refine Iy (m2) ?_ (by simp[I9]) (by simp[I9,L9]) (fun r sto' hR=>?_);(focus(first|rfl|(simp only[go_sem,reduceCtorEq,Int.reduceToNat,Int.reduceNeg,Int.reduceLT,Int.reduceLE,Int.reduceEq,Int.reduceAdd,Int.reduceSub,Int.reduceMul,Nat.reduceAdd,Nat.reduceSub,Nat.reduceMul,Nat.reduceEqDiff,Nat.reduceBEq,Nat.reduceBneDiff,Nat.reduceLeDiff,Nat.reduceLT,reduceIte];done)));first|(obtain⟨rfl,rfl⟩:=hR)|(obtain⟨_,(rfl|rfl),rfl,rfl⟩:=hR))|fail)
 refine BG [4,5,6] (by simp only[V0,MQ,reduceIte,Nat.reduceEqDiff];rfl) (fun i:Nat=>[(7,.i (iI i))]) (fun i=>[(9,.rows 3 1 ((E2 (·+·) x y i).map AX)),(4,.cells [.i (iI 0),.i (iW 0)]),(11,.rows 3 1 (y.map AX))])
  (fun i=>i<=8) (fun i=>8-i) 0 (by omega) (by simp[V0,I9,L9,Ref.nm,Zx]) ?_
 intro i hi;have vh:=Uj (·+·) x y i;by_cases ja:i<8
 ·have h1:((i:Int)<8)=True:=eq_true (by omega);have vi:i<x.length:=by omega
  have hiy:i<y.length:=by omega
  have a1:=hxm _ (AA vi);have a2:=hym _ (AA hiy);have e0:IntKind.i64.wrap (x.getD i default+y.getD i default)=x.getD i default+y.getD i default:=BH (by omega) (by omega);have e1:=Uk (·+·) x y i;have e2:=Ul (·+·) x y i (by omega) vi;refine ne (cj h1 (cj e1 e0)) ?_;refine⟨i+1,by omega,by omega,rfl,?_⟩;rw[<-e2,List.map_set]
 ·have h1:((i:Int)<8)=False:=eq_false (by omega);have e:E2 (·+·) x y i=List.zipWith (·+·) x y:=by grind[Um]
  rw[e];have jj:(8<=(List.zipWith (·+·) x y).length)=True:=eq_true (by simp[vl,hyl]);have ke:((List.zipWith (·+·) x y).map AX).take 8=(List.zipWith (·+·) x y).map AX:=List.take_of_length_le (by simp[vl,hyl]);exact Dp (cj h3 (cj h4 (cj h1 (cj jj ke)))) trivial
theorem th(ah al bh bl:Int)(ha:wOk ah al)(hb:wOk bh bl):Is mx 374 [.agg [iI ah,iW al],.agg [iI bh,iW bl]] (.agg (mkW (WC 0 (List.zipWith (·-·) (Bt ah al) (Bt bh bl))))):=by
 have hxm:∀x∈Bt ah al,0<=x/\x<65536:=fun x h=>Rq h
 have hym:∀x∈Bt bh bl,0<=x/\x<65536:=fun x h=>Rq h
 have vl:=Pv ah al;have hyl:=Pv bh bl;have m1:=Pw (mx:=mx) ah al ha.1 ha.2;have m2:=Pw (mx:=mx) bh bl hb.1 hb.2;generalize Bt ah al=x at hxm vl m1;generalize Bt bh bl=y at hym hyl m2;have w5:∀z∈List.zipWith (·-·) x y,-1099511627776<=z/\z<=1099511627776:=by intro z hz;obtain⟨k,hk,rfl⟩:=List.mem_iff_getElem.1 hz;rw[List.getElem_zipWith];have h1:=hxm _ (List.getElem_mem (l:=x) (n:=k) (by simp at hk;omega));have h2:=hym _ (List.getElem_mem (l:=y) (n:=k) (by simp at hk;omega));omega
 have h3:=Rr (mx:=mx) (List.zipWith (·-·) x y) (by simp[vl,hyl]) w5;have h4:=Zw (mx:=mx) (WC 0 (List.zipWith (·-·) x y)) (by simp[Uh,vl,hyl]) Un;refine MX oI ?_
 (repeat' first|simp(disch:=omega)only[go_sem,reduceCtorEq,Nat.reduceAdd,Nat.reduceEqDiff]|(refine Iy (m1) ?_ (by simp[I9]) (by simp[I9,L9]) (fun r sto' hR=>?_);(focus(first|rfl|(simp only[go_sem,Nat.reduceEqDiff];done)));first|(obtain⟨rfl,rfl⟩:=hR)|(obtain⟨_,(rfl|rfl),rfl,rfl⟩:=hR))|(refine Iy (m2) ?_ (by simp[I9]) (by simp[I9,L9]) (fun r sto' hR=>?_);(focus(first|rfl|(simp only[go_sem,reduceCtorEq,Int.reduceToNat,Int.reduceNeg,Int.reduceLT,Int.reduceLE,Int.reduceEq,Int.reduceAdd,Int.reduceSub,Int.reduceMul,Nat.reduceAdd,Nat.reduceSub,Nat.reduceMul,Nat.reduceEqDiff,Nat.reduceBEq,Nat.reduceBneDiff,Nat.reduceLeDiff,Nat.reduceLT,reduceIte];done)));first|(obtain⟨rfl,rfl⟩:=hR)|(obtain⟨_,(rfl|rfl),rfl,rfl⟩:=hR))|fail)
 refine BG [4,5,6] (by simp only[V0,MQ,reduceIte,Nat.reduceEqDiff];rfl) (fun i:Nat=>[(7,.i (iI i))]) (fun i=>[(9,.rows 3 1 ((E2 (·-·) x y i).map AX)),(4,.cells [.i (iI 0),.i (iW 0)]),(11,.rows 3 1 (y.map AX))])
  (fun i=>i<=8) (fun i=>8-i) 0 (by omega) (by simp[V0,I9,L9,Ref.nm,Zx]) ?_
 intro i hi;have vh:=Uj (·-·) x y i;by_cases ja:i<8
 ·have h1:((i:Int)<8)=True:=eq_true (by omega);have vi:i<x.length:=by omega
  have hiy:i<y.length:=by omega
  have a1:=hxm _ (AA vi);have a2:=hym _ (AA hiy);have e0:IntKind.i64.wrap (x.getD i default-y.getD i default)=x.getD i default-y.getD i default:=BH (by omega) (by omega);have e1:=Uk (·-·) x y i;have e2:=Ul (·-·) x y i (by omega) vi;refine ne (cj h1 (cj e1 e0)) ?_;refine⟨i+1,by omega,by omega,rfl,?_⟩;rw[<-e2,List.map_set]
 ·have h1:((i:Int)<8)=False:=eq_false (by omega);have e:E2 (·-·) x y i=List.zipWith (·-·) x y:=by grind[Um]
  rw[e];have jj:(8<=(List.zipWith (·-·) x y).length)=True:=eq_true (by simp[vl,hyl]);have ke:((List.zipWith (·-·) x y).map AX).take 8=(List.zipWith (·-·) x y).map AX:=List.take_of_length_le (by simp[vl,hyl]);exact Dp (cj h3 (cj h4 (cj h1 (cj jj ke)))) trivial
theorem ti:wOk 0 0:=by refine⟨by omega,by omega⟩
theorem tj(h l:Int)(ha:wOk h l):Is mx 372 [.agg [iI h,iW l]] (.agg (mkW (WC 0 (List.zipWith (·-·) (Bt 0 0) (Bt h l))))):=by have h0:Is mx 357 [iI 0] (.agg [iI 0,iW 0]):=Ui 0 (by omega);have h1:=th (mx:=mx) 0 0 h l ti ha;refine MX rq ?_;exact Hw (cj h0 h1) trivial
theorem tl(hi0 lo:Int)(hh:-9223372036854775808<=hi0/\hi0<=9223372036854775807)(hl:0<=lo/\lo<18446744073709551616):Is mx 363 [.agg [iI hi0,iW lo]] (.sl ((Bt hi0 lo).map AX)):=(Pw hi0 lo hh hl).sl (by simp[Pv])
theorem Zy(hi lo:Int)(ha:wOk hi lo):Is mx 363 [.agg [iI hi,iW lo]] (.sl ((Bt hi lo).map AX)):=by exact tl hi lo ha.1 ha.2
def Rs(h l:Int):List Int:=if h<0 then Bt (mkP (WC 0 (List.zipWith (·-·) (Bt 0 0) (Bt h l)))).1 (mkP (WC 0 (List.zipWith (·-·) (Bt 0 0) (Bt h l)))).2 else Bt h l
theorem tn(h l:Int)(ha:wOk h l)(hb:h<0->wOk (mkP (WC 0 (List.zipWith (·-·) (Bt 0 0) (Bt h l)))).1 (mkP (WC 0 (List.zipWith (·-·) (Bt 0 0) (Bt h l)))).2):Is mx 366 [.agg [iI h,iW l]] (.sl ((Rs h l).map AX)):=by
 have h1:=tj (mx:=mx) h l ha;by_cases hn:h<0
 ·have h2:=Zy (mx:=mx) _ _ (hb hn);have e:Rs h l=_:=if_pos hn;refine MX Y5 ?_
  (repeat' first|simp(disch:=omega)only[go_sem,reduceCtorEq,Nat.reduceAdd,Nat.reduceEqDiff,Nat.reduceLeDiff,eq_true hn]|refine Ab (h1) ?_|refine Ab (h2) ?_|refine Ae ?_|refine Pj ?_ ?_|refine Gw (R:=gu _) ?_|fail)
  all_goals rw[e]
 ·have h2:=Zy (mx:=mx) _ _ ha;have e:Rs h l=_:=if_neg hn;refine MX Y5 ?_;refine Dp (cj h2 hn) ?_
  all_goals intros
  all_goals rw[e]
def ltR:List Int->List Int->Bool
 |x::a,y::b=>if x≠y then decide (x<y)else ltR a b
 |_,_=>false
theorem Zz{l:List Int}{j:Nat}(hl:l.length=8)(hj:j<8):l.reverse.getD j default=l.getD (7-j) default:=by grind
theorem tp(a b:List Int)(ha:a.length=8)(hb:b.length=8):Is mx 368 [.sl (a.map AX),.sl (b.map AX)] (.bool (ltR a.reverse b.reverse)):=by
 refine MX rp ?_;refine OG ?_;refine lT [0,1] (fun j:Nat=>[(5,.i (iI (7-j)))]) (fun _=>[]) (fun j=>j<=8/\ltR a.reverse b.reverse=ltR (a.reverse.drop j) (b.reverse.drop j)) (fun j=>8-j) 0 ?_;rintro j ⟨hj,jb⟩;by_cases jq:j<8
 ·have h1:((7-j:Int)≥0)=True:=eq_true (by omega);have h1b:((0:Int)<=7-j)=True:=eq_true (by omega);have k1:(7-j:Int).toNat=7-j:=by omega
  have l1:((7-j:Int)<(a.length:Int))=True:=eq_true (by omega);have l2:((7-j:Int)<(b.length:Int))=True:=eq_true (by omega);rw[Pu (by simp;omega),Pu (l:=b.reverse) (by simp;omega),Zz ha jq,Zz hb jq,ltR]at jb;refine Dp (cj h1b (cj k1 (cj l1 l2))) (cj ?_ ?_)
  ·intro h h';rw[jb,if_pos h']
  ·intro _ _;rw[if_neg (by omega)]at jb;exact⟨j+1,⟨by omega,jb⟩,by omega,congrArg (fun n=>D.i (I.int .i64 n)) (by omega)⟩
 ·have h1b:((0:Int)<=7-j)=False:=eq_false (by omega);refine Hw h1b ?_;rw[jb,List.drop_eq_nil_of_le (by simp;omega)];rfl
end
section
theorem tq(f:Int->Int->Int){a b:List Int}{i:Nat}(ha:i<a.length)(hb:i<b.length):List.zipWith f (a.take (i+1)) (b.take (i+1))=List.zipWith f (a.take i) (b.take i)++[f (a.getD i default) (b.getD i default)]:=by rw[List.take_succ_eq_append_getElem ha,List.take_succ_eq_append_getElem hb,List.zipWith_append (by simp;omega),AS ha,AS hb];rfl
theorem tu(a b:List Int)(ha:a.length=8)(hb:b.length=8)(va:∀x∈a,0<=x/\x<=1099511627775)(vb:∀x∈b,0<=x/\x<=1099511627775):Is mx 369 [.sl (a.map AX),.sl (b.map AX)] (.sl ((WC 0 (List.zipWith (·-·) a b)).map AX)):=by
 have w5:∀z∈List.zipWith (·-·) a b,-1099511627776<=z/\z<=1099511627776:=by intro z hz;obtain⟨k,hk,rfl⟩:=List.mem_iff_getElem.1 hz;rw[List.getElem_zipWith];have h1:=va _ (List.getElem_mem (l:=a) (n:=k) (by simp at hk;omega));have h2:=vb _ (List.getElem_mem (l:=b) (n:=k) (by simp at hk;omega));omega
 have h3:=Rr (mx:=mx) (List.zipWith (·-·) a b) (by simp[ha,hb]) w5;refine MX sJ ?_;refine OG ?_;refine lT [0,1] (fun i:Nat=>[(5,.ref (.sl 5 1 0 i)),(6,.i (iI i))]) (fun i=>[(5,.rows 3 1 ((List.zipWith (·-·) (a.take i) (b.take i)).map AX)),(4,.rows 3 1 [])]) (fun i=>i<=8) (fun i=>8-i) 0 ?_;intro i hi;have vh:(List.zipWith (·-·) (a.take i) (b.take i)).length=i:=by simp;omega
 by_cases ja:i<8
 ·have h1:((i:Int)<8)=True:=eq_true (by omega);have a1:=va _ (AA (n:=i) (l:=a) (by omega));have b1:=vb _ (AA (n:=i) (l:=b) (by omega));have e0:IntKind.i64.wrap (a.getD i default-b.getD i default)=a.getD i default-b.getD i default:=BH (by omega) (by omega);refine ne (cj h1 e0) ?_;refine⟨by simp,by simp[I.one],by omega,by omega,i+1,by omega,by omega,⟨rfl,rfl⟩,?_⟩;rw[List.take_of_length_le (by rw[List.length_map,vh];omega),tq _ (by omega) (by omega)];simp
 ·have h1:((i:Int)<8)=False:=eq_false (by omega);have jj:(i<=(List.zipWith (·-·) (a.take i) (b.take i)).length)=True:=eq_true (by omega);have ke:((List.zipWith (·-·) (a.take i) (b.take i)).map AX).take i=(List.zipWith (·-·) (a.take i) (b.take i)).map AX:=List.take_of_length_le (by rw[List.length_map,vh];omega);have e:List.zipWith (·-·) (a.take i) (b.take i)=List.zipWith (·-·) a b:=by grind
  rw[<-e]at h3⊢;exact Dp (cj h3 (cj h1 (cj jj ke))) trivial
def NH(n:Int):List Int->List Int
 |[]=>[]
 |x::r=>(x+n)::r
theorem tv(a:List Int)(n:Int)(ha:a.length=8)(va:∀x∈a,0<=x/\x<=65535)(hn:0<=n/\n<=1):Is mx 367 [.sl (a.map AX),iI n] (.sl ((WC 0 (NH n (a.map (2*·)))).map AX)):=by
 have w5:∀z∈NH n (a.map (2*·)),-1099511627776<=z/\z<=1099511627776:=by
  intro z hz;cases a with
  |nil=>simp at ha
  |cons x r=>
   simp only[List.map_cons,NH,List.mem_cons,List.mem_map]at hz;rcases hz with rfl|⟨y,hy,rfl⟩
   ·have:=va x (by simp);omega
   all_goals grind
 have h3:=Rr (mx:=mx) (NH n (a.map (2*·))) (by cases a<;>simp_all[NH]) w5;refine MX pN ?_;refine OG ?_;refine lT [0,1] (fun i:Nat=>[(5,.ref (.sl 5 1 0 i)),(6,.i (iI i))]) (fun i=>[(5,.rows 3 1 (((a.take i).map (2*·)).map AX)),(4,.rows 3 1 [])]) (fun i=>i<=8) (fun i=>8-i) 0 ?_ (by omega);intro i hi;have vh:((a.take i).map (2*·)).length=i:=by simp;omega
 by_cases ja:i<8
 ·have h1:((i:Int)<8)=True:=eq_true (by omega);have a1:=va _ (AA (n:=i) (l:=a) (by omega));have e0:IntKind.i64.wrap (2*a.getD i default)=2*a.getD i default:=BH (by omega) (by omega);have hle2:(i<=min i a.length)=True:=eq_true (by omega)
  (repeat' first|simp(disch:=omega)only[go_sem,simprocAttr,h1,Nat.sub_zero,e0,List.length_map,List.length_take,hle2]|refine Ae ?_|(refine And.intro ?_ ?_;focus omega))
  refine⟨by simp,by simp[I.one],by omega,by omega,i+1,by omega,by omega,⟨rfl,rfl⟩,?_⟩;have et:(a.take (i+1)).map (2*·)=(a.take i).map (2*·)++[2*a.getD i default]:=by rw[List.take_succ_eq_append_getElem (show i<a.length by omega),List.map_append,AS];rfl
  rw[et,List.take_of_length_le (by rw[List.length_map,vh];omega),List.map_append];rfl
 ·have h1:((i:Int)<8)=False:=eq_false (by omega);have e:a.take i=a:=List.take_of_length_le (by omega);rw[e]at vh⊢;cases a with
  |nil=>simp at ha
  |cons x r=>
   have hx:=va x (by simp);have e0:IntKind.i64.wrap (2*x+n)=2*x+n:=BH (by omega) (by omega);have hi0:0<i:=by omega
   simp only[List.map_cons,List.map_map,NH]at h3 vh⊢;have jj:(i<=r.length+1)=True:=eq_true (by simp at vh;omega);have ke:([I.int .i64 (2*x+n)]::List.map (AX ∘ fun x=>2*x) r).take i=[I.int .i64 (2*x+n)]::List.map (AX ∘ fun x=>2*x) r:=List.take_of_length_le (by simp at vh⊢;omega)
   (repeat' first|simp(disch:=omega)only[go_sem,simprocAttr,h1,e0,Nat.sub_zero,List.set_cons_zero,List.length_cons,List.length_map,jj,ke]|refine Sx.s ?_ ?_<;>try(intro h;have h':=h;try simp only[HB]at h';try simp only[h])|refine Ab (h3) ?_|refine Ae ?_|refine Sz.s ?_|(refine And.intro ?_ ?_;focus omega))
def Qt(n:Int):Int×Int:=if n<0 then(-1,n%18446744073709551616)else(0,n)
def DE(a:Int):List Int:=[a,0,0,0,0,0,0,0]
def Uo(n:Int):Bool:=decide (Rs (Qt n).1 (Qt n).2=DE (n.natAbs:Int))&&(decide (0<=n)||
 (decide (-9223372036854775808<=(mkP (WC 0 (List.zipWith (·-·) (Bt 0 0) (Bt (Qt n).1 (Qt n).2)))).1)&&decide ((mkP (WC 0 (List.zipWith (·-·) (Bt 0 0) (Bt (Qt n).1 (Qt n).2)))).1<=9223372036854775807)&&
  decide (0<=(mkP (WC 0 (List.zipWith (·-·) (Bt 0 0) (Bt (Qt n).1 (Qt n).2)))).2)&&decide ((mkP (WC 0 (List.zipWith (·-·) (Bt 0 0) (Bt (Qt n).1 (Qt n).2)))).2<18446744073709551616)))
theorem tw:(List.range 257).all (fun k=>Uo ((k:Int)-128))=true:=by rfl
theorem tx{n:Int}(h:-128<=n/\n<=128):Uo n=true:=by have:=List.all_eq_true.1 tw (n+128).toNat (by simp;omega);grind
theorem tz{n:Int}(h:-128<=n/\n<=128):wOk (Qt n).1 (Qt n).2:=by unfold Qt;split<;>exact⟨by constructor<;>omega,by constructor<;>omega⟩
theorem NI(n:Int):ofW n=[iI (Qt n).1,iW (Qt n).2]:=by grind[ofW,Qt]
theorem ZA(n:Int)(h:-128<=n/\n<=128):Is mx 366 [.agg (ofW n)] (.sl ((DE (n.natAbs:Int)).map AX)):=by
 have hc:=tx h;simp only[Uo,Bool.and_eq_true,Bool.or_eq_true,decide_eq_true_eq]at hc;obtain⟨h1,h2⟩:=hc;rw[NI,<-h1];refine tn _ _ (tz h) fun hn=>?_
 have:n<0:=by unfold Qt at hn;split at hn<;>simp_all
 rcases h2 with h2|h2
 ·omega
 ·exact⟨⟨h2.1.1.1,h2.1.1.2⟩,⟨h2.1.2,h2.2⟩⟩
def GA:List Int:=[0,0,0,0,0,0,0,0]
theorem ZB(b:Int)(hb:b=0\/b=1):Is mx 367 [.sl (GA.map AX),iI b] (.sl ((DE b).map AX)):=by have:=tv (mx:=mx) GA b rfl (by decide) (by omega);rcases hb with rfl|rfl<;>exact this
theorem Up(a b:Int):Is mx 368 [.sl ((DE a).map AX),.sl ((DE b).map AX)] (.bool (decide (a<b))):=by
 have:=tp (mx:=mx) (DE a) (DE b) rfl rfl;have e:ltR (DE a).reverse (DE b).reverse=decide (a<b):=by simp[DE,ltR];grind
 grind
theorem ZC:Is mx 369 [.sl ((DE 1).map AX),.sl ((DE 1).map AX)] (.sl (GA.map AX)):=
 tu (DE 1) (DE 1) rfl rfl (by decide) (by decide)
theorem tC(a:Nat)(i:Nat):a/2 ^ i=2*(a/2 ^ (i+1))+a/2 ^ i%2:=by rw[Nat.pow_succ,<-Nat.div_div_eq_div_mul];omega
theorem tD(a:Int)(k:Nat)(h:k<8):((DE a).map AX).getD k []=AX ((DE a).getD k default):=by rw[AS (by simpa[DE]using h)];grind
theorem tE(a:Int)(k:Nat):(DE a).getD (k+1) default=0:=by
 match k with
 |0|1|2|3|4|5|6=>rfl
 |k+7=>rfl
def rst(r:Nat):D:=if r=128 then .ref (.sl 20 1 0 8)else .i (.sl (GA.map AX))
def NJ(r:Nat):List (Nat×Blk):=if r=128 then[(20,.rows 3 1 (GA.map AX))]else[]
theorem tF(a i:Nat)(ha:a<=128)(hi:i<128):(((DE (a:Int)).getD (i/16) default).fdiv (2 ^ (i%16).min 64)).tmod 2=((a/2 ^ i%2:Nat):Int):=by
 by_cases h:i<16
 ·rw[show i/16=0 by omega,show(i%16).min 64=i by show min (i%16) 64=i;omega];show((a:Int).fdiv (2 ^ i)).tmod 2=_;grind
 ·obtain⟨k,hk⟩:∃k,i/16=k+1:=⟨i/16-1,by omega⟩;rw[hk,tE];have h2:a<2 ^ i:=Nat.lt_of_lt_of_le (show a<2 ^ 16 by omega) (Nat.pow_le_pow_right (by decide) (by omega));rw[Nat.div_eq_of_lt h2];simp
theorem tG(n:Int)(h:-128<=n/\n<=128):Is mx 359 [.agg (ofW n),iI 1] (.tup [iI n,.bool true]):=by
 have h1:=ZA (mx:=mx) n h;have h2:Is mx 366 [.agg (ofW 1)] (.sl ((DE 1).map AX)):=ZA 1 (by omega);have h3:Is mx 357 [iI 1] (.agg (ofW 1)):=Ui 1 (by omega);have hneg:(pk false (ofW n) 0 1=iI (Qt n).1):=by rw[NI];rfl
 have hsg:((Qt n).1<0)=(n<0):=by grind[Qt]
 have hof:(ofW n).length=2:=by rw[NI];rfl
 have hnat:(n.natAbs:Int)=if n<0 then-n else n:=by omega
 have hab:n.natAbs<=128:=by omega
 rw[NI]at h1 hneg hof⊢;generalize n.natAbs=a at h1 hnat hab;refine MX rk ?_
 (repeat' first|simp(disch:=omega)only[go_sem,simprocAttr]|refine Sx.s ?_ ?_<;>try(intro h;have h':=h;try simp only[HB]at h';try simp only[h])|refine Ab (h1) ?_|refine Ab (h3) ?_|refine Ab (h2) ?_|refine Ae ?_|(refine And.intro ?_ ?_;focus omega))
 refine BG [1,2,6,7] (by simp only[V0,MQ,reduceIte,Nat.reduceEqDiff];rfl) (fun r:Nat=>[(8,rst r),(9,.i (iI ((a/2 ^ r:Nat):Int))),(10,.i (iI ((r:Int)-1)))]) NJ
  (fun r=>r<=128) (fun r=>r) 128 (by omega) (by simp[V0,I9,L9,Ref.nm,rst,NJ,GA];omega) ?_
 intro r hr;have hz8:(8<=GA.length)=True:=eq_true (by decide);have hzt:(GA.map AX).take 8=GA.map AX:=rfl;cases r with
 |zero=>
  rw[show rst 0=.i (.sl (GA.map AX))from rfl,show NJ 0=[]from rfl,show(((0:Nat):Int)-1)=-1 from rfl]
  (repeat' first|simp(disch:=omega)only[go_sem,simprocAttr,Nat.pow_zero,Nat.div_one]|refine Sx.s ?_ ?_<;>try(intro h;have h':=h;try simp only[HB]at h';try simp only[h])|refine Ab (ZB 0 (.inl rfl)) ?_|refine Ab (Up 1 0) ?_|refine Ab (Up 0 1) ?_|refine Ae ?_|refine Sz.s ?_|fail)
  ·exfalso;omega
  all_goals(refine congrArg (fun m=>I.tup [I.int .i64 m,I.bool true]) ?_;simp only[hsg]at*;by_cases hn0:n<0<;>simp_all<;>omega)
 |succ i=>
  have q1:(((i+1:Nat):Int)-1)=(i:Int):=by omega
  have q2:((i:Int)≥0)=True:=eq_true (by omega);have q3:(i:Int).tdiv 16=((i/16:Nat):Int):=by rfl
  have q4:(i:Int).tmod 16=((i%16:Nat):Int):=by rfl
  have q5:(((i/16:Nat):Int)<((DE (a:Int)).length:Int))=True:=eq_true (by show((i/16:Nat):Int)<8;omega);have q6:=tD (a:Int) (i/16) (by omega);have q7:=tF a i hab (by omega);have q8:=tC a i;have q9:a/2 ^ (i+1)<=128:=Nat.le_trans (Nat.div_le_self _ _) hab;have ko:((a/2 ^ i%2:Nat):Int)=0\/((a/2 ^ i%2:Nat):Int)=1:=by omega
  have q10:∃b:Int,((a/2 ^ i%2:Nat):Int)=b/\(b=0\/b=1)/\((a/2 ^ i:Nat):Int)=2*((a/2 ^ (i+1):Nat):Int)+b:=⟨_,rfl,ko,by omega⟩;obtain⟨b,q11,q12,q13⟩:=q10;rw[q11]at q7;generalize hqq:((a/2 ^ (i+1):Nat):Int)=q at q13;have q14:0<=q/\q<=128:=by omega
  have q15:IntKind.i64.wrap (2*q)=2*q:=BH (by omega) (by omega);have q16:IntKind.i64.wrap (2*q+1)=2*q+1:=BH (by omega) (by omega);have c1:=ZB (mx:=mx) b q12;have c2:=Up (mx:=mx) b 1;have e3:rst i=.i (.sl (GA.map AX)):=if_neg (by omega);have e4:NJ i=[]:=if_neg (by omega);by_cases h0:i+1=128
  ·have e1:rst (i+1)=.ref (.sl 20 1 0 8):=if_pos h0;have e2:NJ (i+1)=[(20,.rows 3 1 (GA.map AX))]:=if_pos h0;rw[e1,e2,q1];rcases q12 with rfl|rfl
   ·(repeat' first|simp(disch:=omega)only[go_sem,simprocAttr,q2,q3,q4,q5,q6,q7,q15,hz8,hzt,shV,IntKind.bits]|refine Sx.s ?_ ?_<;>try(intro h;have h':=h;try simp only[HB]at h';try simp only[h])|refine Ab (c1) ?_|refine Ab (c2) ?_|refine Ae ?_|refine Sz.s ?_|fail)
    ·exfalso;omega
    ·refine⟨i,by omega,by omega,⟨by rw[e3];try rfl,by rw[q13];try simp,rfl⟩,?_⟩;rw[e3,e4];simp[I9,L9]
   ·(repeat' first|simp(disch:=omega)only[go_sem,simprocAttr,q2,q3,q4,q5,q6,q7,q15,q16,hz8,hzt,shV,IntKind.bits]|refine Sx.s ?_ ?_<;>try(intro h;have h':=h;try simp only[HB]at h';try simp only[h])|refine Ab (c1) ?_|refine Ab (c2) ?_|refine Ab (ZC) ?_|refine Ae ?_|refine Sz.s ?_|fail)
    ·exfalso;omega
    ·refine⟨i,by omega,by omega,⟨by rw[e3];try rfl,by rw[q13];try simp,rfl⟩,?_⟩;rw[e3,e4];simp[I9,L9]
  ·have e1:rst (i+1)=.i (.sl (GA.map AX)):=if_neg h0;have e2:NJ (i+1)=[]:=if_neg h0;rw[e1,e2,q1];rcases q12 with rfl|rfl
   ·(repeat' first|simp(disch:=omega)only[go_sem,simprocAttr,q2,q3,q4,q5,q6,q7,q15,shV,IntKind.bits]|refine Sx.s ?_ ?_<;>try(intro h;have h':=h;try simp only[HB]at h';try simp only[h])|refine Ab (c1) ?_|refine Ab (c2) ?_|refine Ae ?_|refine Sz.s ?_|fail)
    ·exfalso;omega
    ·refine⟨i,by omega,by omega,⟨by rw[e3];try rfl,by rw[q13];try simp,rfl⟩,?_⟩;rw[e3,e4];simp[I9,L9]
   ·(repeat' first|simp(disch:=omega)only[go_sem,simprocAttr,q2,q3,q4,q5,q6,q7,q15,q16,shV,IntKind.bits]|refine Sx.s ?_ ?_<;>try(intro h;have h':=h;try simp only[HB]at h';try simp only[h])|refine Ab (c1) ?_|refine Ab (c2) ?_|refine Ab (ZC) ?_|refine Ae ?_|refine Sz.s ?_|fail)
    ·exfalso;omega
    ·refine⟨i,by omega,by omega,⟨by rw[e3];try rfl,by rw[q13];try simp,rfl⟩,?_⟩;rw[e3,e4];simp[I9,L9]
end
end Go.Proofs.YtkhlddbmhehbbaaGreatDoor
