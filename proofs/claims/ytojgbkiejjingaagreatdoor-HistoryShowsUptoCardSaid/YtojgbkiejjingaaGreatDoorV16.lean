/-Lemmas.-/
import Derived.Test.YtojgbkiejjingaaGreatDoorV12
import Derived.Test.YtojgbkiejjingaaGreatDoorV13
import Derived.Test.YtojgbkiejjingaaGreatDoorV14
import Derived.Test.YtojgbkiejjingaaGreatDoorV15
import Derived.Shelf.Strings.Search1
import Derived.Shelf.Strings.Search2
import Derived.Shelf.Strings.Search3
import Derived.Shelf.LaysM
import Derived.Shelf.Strings.Shaped
import Derived.Shelf.Sort.Plain
import Derived.Shelf.Slices.In.SortNone
import Derived.Test.YtojgbkiejjingaaGreatDoorProg
import Derived.Test.YtojgbkiejjingaaGreatDoorCards
import Derived.Test.YtojgbkiejjingaaGreatDoorTie
import Derived.Deep.DeepWitnessRowRef
import Derived.Lib.LaidIn
import Derived.Shelf.Spec.BitsCarry
import Derived.Shelf.SlSortCmp.WholeK
import Derived.Shelf.SlSortCmp.NoneTotal
import Derived.Ground.SlsfProg
set_option linter.all false
set_option maxRecDepth 100000
set_option maxHeartbeats 8000000
namespace Go.Proofs.YtojgbkiejjingaaGreatDoor
open Go Go.Dl Go.As Go.Proofs
variable {mx:Int}
attribute[local irreducible] Ah Ai MC W2 Fq ev evD step Ad
section
abbrev Is(mx:Int)(f:Nat)(args:List I)(y:I):Prop:=MC Tryz.prog (Mi mx) f (args.map D.i) [] [] (fd y)
def CS(t:Typ):Bool:=t.kind==2||t.kind==3
theorem O0(t:Typ):Is mx 207 [.agg (Aq t)] (.bool (CS t)):=by
 refine MX pS ?_;refine eP ?_
 all_goals intros
 all_goals(refine Zae I.bool ?_;(try simp only[CS]);(first|rfl|(simp_all;done)|(rw[Zb2];simp_all;done)|(rw[Zb2];simp_all;omega)))
theorem YB(n l:Int)(hl:0<=l/\l<=1000):Is mx 248 [iI n,iI l] (.bool (decide (n>l\/n< -l))):=by
 refine MX p4 ?_;have hw:IntKind.i64.wrap (0-l)=-l:=by grind[B3]
 refine EV hw ?_
 all_goals intros
 all_goals(refine Zae I.bool ?_;(try simp only[gt_iff_lt]);(first|rfl|(simp_all;done)|(rw[Zb2];simp_all;done)|(rw[Zb2];simp_all;omega)))
theorem CX(e:Int):Is mx 214 [iI e] (.tup [.agg (Aq ⟨0,[],[]⟩),iI e]):=by refine MX oS ?_;exact eS trivial
theorem YC{α:Type}[DecidableEq α]{a b:List α}{i:Nat}(h:a.take i=b.take i)(ha:i<a.length)(hb:i<b.length)(e:a[i]=b[i]):a.take (i+1)=b.take (i+1):=by rw[Zgh ha,Zgh hb,h,e]
theorem YD{a b:Fac}(h:a.name=b.name)(k:a.exp=b.exp):a=b:=by cases a;cases b;simp_all
theorem YE(a b:List Fac)(h:a.length<4611686018427387904):Is mx 257 [.sl (a.map Ax),.sl (b.map Ax)] (.bool (decide (a=b))):=by
 refine MX mQ ?_;refine eP (cj ?_ ?_)
 ·intro _ _;refine Zae I.bool ?_;have:a≠b:=fun e=>by grind
  simp[this]
 ·intro h h';refine Df [0,1,12] (by simp only[V0,JK,reduceIte,Nat.reduceEqDiff];rfl) (fun i=>[(13,.i (iI i))]) (fun _=>[]) (fun i=>a.take i=b.take i) a.length 0 (by omega) (by simp) ?_ ?_
  ·simp[V0,H0,JJ]
  ·intro i hi jb;refine Kb (cj ?_ (cj ?_ ?_))
   ·intro h h' h h';rename_i h;refine Zae I.bool ?_;have:a≠b:=fun e=>by grind
    simp[this]
   ·intro h h' h h';rename_i hl h;have ja:i<a.length:=by omega
    have jx:i<b.length:=by omega
    refine YC jb ja jx ?_;simp only[Zb6,Zbz,Zas]at h;simp only[AK ja,AK jx]at h;exact YD h.1 h.2
   ·intro _ _;refine Zae I.bool ?_;have ja:i=a.length:=by omega
    rw[ja]at jb;rw[Zgd,Zgf (by omega)]at jb;simp[jb]
theorem YF(a b:List Fac)(h:a.length<4611686018427387904):Is mx 216 [.sl (a.map Ax),.sl (b.map Ax)] (.bool (decide (a=b))):=by refine MX mI ?_;exact EV @YE trivial
def lc(b:UInt8):Bool:=decide (97<=b.toNat/\b.toNat<=122)
def wc(b:UInt8):Bool:=decide ((97<=b.toNat/\b.toNat<=122)\/(48<=b.toNat/\b.toNat<=57)\/b.toNat=95)
def BX(s:AQ):Bool:=decide (s≠[])&&decide (s.length<=24)&&lc (s.getD 0 0)&&s.all wc
theorem YG(s:AQ):Is mx 247 [.str s] (.bool (BX s)):=by
 refine MX oZ ?_
 (repeat' first|exact Ao _|simp(disch:=omega)only[go_sem,simprocAttr]|refine' Av (fun hq=>?_) (fun f=>?_)<;>try(have jd:=hq;try simp only[HB]at jd)|refine Sx.s ?_ ?_<;>try(intro h;have h':=h;try simp only[HB]at h';try rewrite [h];try simp only[h])|refine Ac ?_|refine Sz.s ?_|(refine And.intro ?_ ?_;focus omega))
 ·refine Zae I.bool ?_;have e:(decide (s≠[])&&decide (s.length<=24)&&lc (s.getD 0 0))=false:=by grind[lc]
  simp only[BX,e,Zb3]
 ·have w0:BX s=s.all wc:=by
   have e1:lc (s.getD 0 0)=true:=by grind[lc]
   have e2:s≠[]:=fun e=>by grind
   have e3:s.length<=24:=by omega
   simp_all[BX,e1,e2,e3]
  refine Df [0,24] (by simp only[V0,JK,reduceIte,Nat.reduceEqDiff];rfl) (fun i=>[(25,.i (iI i))]) (fun _=>[]) (fun i=>(s.take i).all wc=true) s.length 0 (by omega) (by simp) ?_ ?_
  ·simp[V0,H0,JJ]
  ·intro i hi jb
   (repeat' first|exact Ao _|simp(disch:=omega)only[go_sem,simprocAttr]|refine' Av (fun hq=>?_) (fun f=>?_)<;>try(have jd:=hq;try simp only[HB]at jd)|refine' CI (fun hq=>?_) (fun f=>?_)<;>try(have jd:=hq;try simp only[HB]at jd)|refine Sx.s ?_ ?_<;>try(intro h;have h':=h;try simp only[HB]at h';try rewrite [h];try simp only[h])|refine Ac ?_|refine Sz.s ?_|(refine And.intro ?_ ?_;focus omega))
   all_goals first
    |(exfalso;omega)
    |(refine Zae I.bool ?_;rw[w0];first
      |(exact(Tz (d:=0) (i:=i) (by omega) (by simp only[wc,Za4];omega)).symm)
      |(have e:i=s.length:=by omega
        rw[e,Zgd]at jb;exact jb.symm))
    |(exact BW (d:=0) jb (by omega) (by simp only[wc,Za0];omega))
end
section
def uc:Option AQ->List Fac->Int
 |_,[]=>0
 |p,f::r=>if(!BX f.name)=true then 1 else if(decide (f.exp=0)||decide (f.exp>8\/f.exp< -8))=true then 70 else
  if(match p with|some q=>Op.bytesLess f.name q||decide (f.name=q)|none=>false)=true then 3 else uc (some f.name) r
def E6(u:List Fac)(i:Nat):Option AQ:=if i=0 then none else some (u.getD (i-1) default).name
def Bx(u:List Fac):Int:=if u.length>4 then 2 else uc none u
theorem YH{u:List Fac}{i:Nat}(h:i<u.length)(p):uc p (u.drop i)=if(!BX (u.getD i default).name)=true then 1 else if(decide ((u.getD i default).exp=0)||decide ((u.getD i default).exp>8\/(u.getD i default).exp< -8))=true then 70 else
  if(match p with|some q=>Op.bytesLess (u.getD i default).name q||decide ((u.getD i default).name=q)|none=>false)=true then 3 else uc (some (u.getD i default).name) (u.drop (i+1)):=by
 rw[AK h,Zc8 h];simp only[uc]
theorem TJ(u:List Fac)(hu:u.length<=1073741824):Is mx 208 [.sl (u.map Ax)] (iI (Bx u)):=by
 refine MX mG ?_;refine eP (cj ?_ ?_)
 ·intro _ _;simp only[Bx];rw[Zaa (by omega)]
 ·intro h h';have e:Bx u=uc none u:=by simp only[Bx];rw[Zac (by omega)]
  rw[e];refine Df [0,8,9] (by simp only[V0,JK,reduceIte,Nat.reduceEqDiff];rfl) (fun i=>[(10,.i (iI i))]) (fun _=>[]) (fun i=>uc none u=uc (E6 u i) (u.drop i)) u.length 0 (by omega) (by simp[E6]) ?_ ?_
  ·simp[V0,H0,JJ]
  ·intro i hi jb
   (repeat' first|exact Ao _|simp(disch:=omega)only[go_sem,simprocAttr]|refine' Av (fun hq=>?_) (fun f=>?_)<;>try(have jd:=hq;try simp only[HB]at jd)|refine' CI (fun hq=>?_) (fun f=>?_)<;>try(have jd:=hq;try simp only[HB]at jd)|refine Sx.s ?_ ?_<;>try(intro h;have h':=h;try simp only[HB]at h';try rewrite [h];try simp only[h])|refine Ab (YG _) ?_|refine Ab (YB _ _ (by omega)) ?_|refine Ac ?_|refine Au ?_|refine Sz.s ?_|(refine And.intro ?_ ?_;focus omega))
   all_goals try
    (have ja:i<u.length:=by omega
     have hm:(match E6 u i with|some q=>Op.bytesLess (u.getD i default).name q||decide ((u.getD i default).name=q)|none=>false)=(decide (0<(i:Int))&&(Op.bytesLess (u.getD i default).name (u.getD (↑i-1:Int).toNat default).name||decide ((u.getD i default).name=(u.getD (↑i-1:Int).toNat default).name))):=by
      have e1:(↑i-1:Int).toNat=i-1:=by omega
      by_cases h0:i=0
      ·simp[E6,h0]
      ·have:0<(i:Int):=by omega
       simp only[E6,h0,Zag,e1,Za5 this,Zce]
     have hs:E6 u (i+1)=some (u.getD i default).name:=by simp[E6]
     rw[jb,YH ja,hm]
     first
      |(rw[Zaa h];done)
      |(rw[Zac (by simp only[‹(!BX (u.getD i default).name)=false›,Zb4,Zat]),Zaa h];done)
      |(rw[Zac (by simp only[‹(!BX (u.getD i default).name)=false›,Zb4,Zat]),Zac (by simp only[‹(decide ((u.getD i default).exp=0)||decide ((u.getD i default).exp>8\/(u.getD i default).exp< -8))=false›,Zb4,Zat])];first|(rw[Zaa h];done)|(rw[Zac (by simp only[h,Zb4,Zat]),hs];done)))
   have e':i=u.length:=by omega
   rw[jb,e',Zdb];rfl
end
end Go.Proofs.YtojgbkiejjingaaGreatDoor
section
namespace Go.Proofs
open Go.Shelf
open Go.RowKit Go.Lib in
open Go.RowKit Go.Lib in
open Go.RowKit Go.Lib in
open Go.RowKit Go.Lib in
open Go.RowKit Go.Lib in
open Go.RowKit Go.Lib in
open Go.RowKit Go.Lib in
open Go.RowKit Go.Lib in
def Tryz.lays144_ren:Go.Shelf.Ren:=⟨fun|144=>153|143=>195|219=>243|217=>274|225=>275|224=>276|267=>277|266=>309|314=>310|n=>n,fun|9=>9|4=>4|3=>3|5=>5|46=>142|146=>301|51=>173|n=>n,fun|1=>3|n=>n⟩
theorem Tryz.lays144:Go.Proofs.Lays.n144 Tryz.prog Tryz.lays144_ren:={mixed:=by kernel_rfl,f143:=Tryz.func195.trans (Zae some (by kernel_rfl)),f144:=Tryz.func153.trans (Zae some (by kernel_rfl)),f217:=Tryz.func274.trans (Zae some (by kernel_rfl)),f219:=Tryz.func243.trans (Zae some (by kernel_rfl)),f224:=Tryz.func276.trans (Zae some (by kernel_rfl)),f225:=Tryz.func275.trans (Zae some (by kernel_rfl)),f266:=Tryz.func309.trans (Zae some (by kernel_rfl)),f267:=Tryz.func277.trans (Zae some (by kernel_rfl)),f314:=Tryz.func310.trans (Zae some (by kernel_rfl)),t3:=Tryz.underlying3,a3:=Tryz.isAgg3,z3:=Tryz.sizeOf3,v3:=Tryz.zeroValue3,t4:=Tryz.underlying4,a4:=Tryz.isAgg4,z4:=Tryz.sizeOf4,v4:=Tryz.zeroValue4,t5:=Tryz.underlying5,a5:=Tryz.isAgg5,z5:=Tryz.sizeOf5,v5:=Tryz.zeroValue5,t9:=Tryz.underlying9,a9:=Tryz.isAgg9,z9:=Tryz.sizeOf9,v9:=Tryz.zeroValue9,t46:=Tryz.underlying142,a46:=Tryz.isAgg142,z46:=Tryz.sizeOf142,v46:=Tryz.zeroValue142,t51:=Tryz.underlying173,a51:=Tryz.isAgg173,z51:=Tryz.sizeOf173,v51:=Tryz.zeroValue173,t146:=Tryz.underlying301,a146:=Tryz.isAgg301,z146:=Tryz.sizeOf301,v146:=Tryz.zeroValue301,g1:=by kernel_rfl}
open Go.RowKit Go.Lib in
open Go.RowKit Go.Lib in
theorem Tryz.strings_Contains(s sub:ByteArray)(m:Int)(w:World)(hs:s.size<4294967281)(hm:w.cell? ⟨3,0,none⟩=some (.int .i64 m)):
  Calls Tryz.prog 153 #[.string s,.string sub] w fun e w'=>e=.returned (.bool (Lib.contains s.data.toList sub.data.toList))/\w'=w:=Any.strings_Contains Tryz.lays144 s sub m w hs hm
open Go.RowKit Go.Lib in
open Go.RowKit Go.Lib in
open Go.RowKit Go.Lib in
def Tryz.lays190_ren:Go.Shelf.Ren:=⟨fun|190=>221|125=>89|258=>259|128=>141|129=>142|302=>290|303=>291|304=>292|305=>293|306=>294|307=>295|308=>296|309=>297|310=>298|333=>315|329=>188|330=>189|334=>316|335=>317|336=>151|344=>330|n=>n,fun|31=>160|9=>9|3=>3|46=>142|0=>0|51=>173|53=>175|4=>4|183=>166|182=>165|131=>170|5=>5|218=>219|222=>223|228=>264|229=>265|n=>n,fun|n=>n⟩
theorem Tryz.lays190:Go.Proofs.Lays.n190 Tryz.prog Tryz.lays190_ren:={mixed:=by kernel_rfl,f125:=Tryz.func89.trans (Zae some (by kernel_rfl)),f128:=Tryz.func141.trans (Zae some (by kernel_rfl)),f129:=Tryz.func142.trans (Zae some (by kernel_rfl)),f190:=Tryz.func221.trans (Zae some (by kernel_rfl)),f258:=Tryz.func259.trans (Zae some (by kernel_rfl)),f302:=Tryz.func290.trans (Zae some (by kernel_rfl)),f303:=Tryz.func291.trans (Zae some (by kernel_rfl)),f304:=Tryz.func292.trans (Zae some (by kernel_rfl)),f305:=Tryz.func293.trans (Zae some (by kernel_rfl)),f306:=Tryz.func294.trans (Zae some (by kernel_rfl)),f307:=Tryz.func295.trans (Zae some (by kernel_rfl)),f308:=Tryz.func296.trans (Zae some (by kernel_rfl)),f309:=Tryz.func297.trans (Zae some (by kernel_rfl)),f310:=Tryz.func298.trans (Zae some (by kernel_rfl)),f329:=Tryz.func188.trans (Zae some (by kernel_rfl)),f330:=Tryz.func189.trans (Zae some (by kernel_rfl)),f333:=Tryz.func315.trans (Zae some (by kernel_rfl)),f334:=Tryz.func316.trans (Zae some (by kernel_rfl)),f335:=Tryz.func317.trans (Zae some (by kernel_rfl)),f336:=Tryz.func151.trans (Zae some (by kernel_rfl)),f344:=Tryz.func330.trans (Zae some (by kernel_rfl)),t0:=Tryz.underlying0,a0:=Tryz.isAgg0,z0:=Tryz.sizeOf0,v0:=Tryz.zeroValue0,t3:=Tryz.underlying3,a3:=Tryz.isAgg3,z3:=Tryz.sizeOf3,v3:=Tryz.zeroValue3,t4:=Tryz.underlying4,a4:=Tryz.isAgg4,z4:=Tryz.sizeOf4,v4:=Tryz.zeroValue4,t5:=Tryz.underlying5,a5:=Tryz.isAgg5,z5:=Tryz.sizeOf5,v5:=Tryz.zeroValue5,t9:=Tryz.underlying9,a9:=Tryz.isAgg9,z9:=Tryz.sizeOf9,v9:=Tryz.zeroValue9,t31:=Tryz.underlying160,a31:=Tryz.isAgg160,z31:=Tryz.sizeOf160,v31:=Tryz.zeroValue160,t46:=Tryz.underlying142,a46:=Tryz.isAgg142,z46:=Tryz.sizeOf142,v46:=Tryz.zeroValue142,t51:=Tryz.underlying173,a51:=Tryz.isAgg173,z51:=Tryz.sizeOf173,v51:=Tryz.zeroValue173,t53:=Tryz.underlying175,a53:=Tryz.isAgg175,z53:=Tryz.sizeOf175,v53:=Tryz.zeroValue175,t131:=Tryz.underlying170,a131:=Tryz.isAgg170,z131:=Tryz.sizeOf170,v131:=Tryz.zeroValue170,t182:=Tryz.underlying165,a182:=Tryz.isAgg165,z182:=Tryz.sizeOf165,v182:=Tryz.zeroValue165,t183:=Tryz.underlying166,a183:=Tryz.isAgg166,z183:=Tryz.sizeOf166,v183:=Tryz.zeroValue166,t218:=Tryz.underlying219,a218:=Tryz.isAgg219,z218:=Tryz.sizeOf219,v218:=Tryz.zeroValue219,t222:=Tryz.underlying223,a222:=Tryz.isAgg223,z222:=Tryz.sizeOf223,v222:=Tryz.zeroValue223,t228:=Tryz.underlying264,a228:=Tryz.isAgg264,z228:=Tryz.sizeOf264,v228:=Tryz.zeroValue264,t229:=Tryz.underlying265,a229:=Tryz.isAgg265,z229:=Tryz.sizeOf265,v229:=Tryz.zeroValue265}
open Go.Sort Go.RowKit in
theorem Tryz.slices_Sort_string(blk off cap:Nat)(ss:List (List UInt8))(w:World)(hH:Holds encStr w blk off ss.toArray)(qu:blk<w.heap.size)(j0:ss.length<4611686018427387904):
  Calls Tryz.prog 221 #[.slice (some ⟨blk,off,none⟩) ss.length cap] w fun e w'=>
   e=.returned (.tuple #[])/\∃n os,w'=grow (putRow encStr (Sort.ahead w n) blk off (ss.mergeSort fun x y=>decide (x<=y)).toArray) os:=Any.slices_Sort_string Tryz.lays190 blk off cap ss w hH qu j0
open Go.RowKit Go.Sort in
theorem Tryz.slices_Sort_string_none(p:Option Addr)(cap:Nat)(w:World):
  Calls Tryz.prog 221 #[.slice p 0 cap] w fun e w'=>e=.returned (.tuple #[])/\w'=w:=Any.slices_Sort_string_none Tryz.lays190 p cap w
end Go.Proofs
end
namespace Go.Proofs.YtojgbkiejjingaaGreatDoor
open Go Go.Dl Go.As Go.Proofs
variable {mx:Int}
attribute[local irreducible] Ah Ai MC W2 Fq ev evD step Ad
section
theorem TK{M:Mem}{s:AQ}{v:Value}(h:Rep M (.str s) v):v=.string ⟨s.toArray⟩:=by cases h;rfl
theorem qQ{M:Mem}{x y:I}{vs:Array Value}(h:Ak M [x,y] vs.toList):∃v u,vs=#[v,u]/\Rep M x v/\Rep M y u:=by
 obtain⟨hl,hr⟩:=h;obtain⟨l⟩:=vs
 match l,hl with
 |[v,u],_=>exact⟨v,u,rfl,hr 0 (by simp) (by simp),hr 1 (by simp) (by simp)⟩
theorem qR{M:Mem}{w:World}(h1:∀b o v,M.c b o=some v->w.cell? ⟨b,o,none⟩=some v)(h2:H2 (Mi mx) M):w.cell? ⟨3,0,none⟩=some (.int .i64 mx):=by
 have:=h2 3 [.int .i64 mx] (by simp[Mi]);generalize hp:Value.pointer (some ⟨3,0,none⟩)=p at this;generalize hx:I.elt [.int .i64 mx] 0=x at this;cases this<;>cases hx;rename_i b o v h hr;injection hp with hp;injection hp with hp;injection hp with hb ho
 have e:=h 0 (by simp);have r:=hr 0 (by simp);simp only[Zed,Zgn]at r e ho;subst hb;subst ho;rw[h1 _ _ _ e];generalize hy:I.int .i64 mx=y at r;generalize hz:v 0=z at r;cases r<;>cases hy;rfl
theorem YI(s t:AQ)(hs:s.length<4294967281):Is mx 153 [.str s,.str t] (.bool (Lib.contains s t)):=by
 refine lg (by kernel_rfl) fun M w vs h1 h2 h3=>?_
 obtain⟨v,u,rfl,hv,hu⟩:=qQ h3;rw[TK hv,TK hu];exact⟨_,.bool _,Tryz.strings_Contains ⟨s.toArray⟩ ⟨t.toArray⟩ mx w hs (qR h1.1 h2)⟩
def TL:AQ:=[32,116,97,98,108,101,32,102,101,97,116,117,114,101,32,111,102,32,107,101,101,112,32,98,111,111,108,32,116,101,120,116,32,107,101,121,32,105,110,116,32,100,101,99,32,105,102,32,116,104,101,110,32,101,108,115,101,32,100,101,102,97,117,108,116,32,111,114,32,97,110,100,32,110,111,116,32,116,114,117,101,32,102,97,108,115,101,32,110,117,108,108,32,99,111,117,110,116,32,115,117,109,32,109,101,97,110,32,109,105,110,32,109,97,120,32,102,105,114,115,116,32,108,97,115,116,32,100,105,115,116,105,110,99,116,32,113,117,97,110,116,105,108,101,32,100,101,99,97,121,32,97,108,108,32,115,108,105,100,105,110,103,32,116,117,109,98,108,105,110,103,32,115,101,115,115,105,111,110,32,119,104,101,114,101,32]
def QQ(s:AQ):Bool:=decide (s≠[])&&!Lib.contains s [32]&&Lib.contains TL (32::(s++[32]))
theorem qS(s:AQ)(hs:s.length<=1073741824):Is mx 106 [.str s] (.bool (QQ s)):=by
 refine MX oA ?_
 (repeat' first|exact Ao _|simp(disch:=omega)only[go_sem,simprocAttr]|refine' Av (fun hq=>?_) (fun f=>?_)<;>try(have jd:=hq;try simp only[HB]at jd)|refine Ab (YI _ _ (by omega)) ?_|refine Ab (YI TL _ (by decide)) ?_|refine Sz.s ?_|(refine And.intro ?_ ?_;focus omega))
 all_goals(simp_all[QQ])
def Cz(s:AQ):Bool:=BX s&&!QQ s
theorem Fz(s:AQ):Is mx 76 [.str s] (.bool (Cz s)):=by
 refine MX F76 ?_;refine EV @qS (cj ?_ ?_)
 ·intro h h';refine Zae I.bool ?_;rcases h' with(e|e)|e
  ·subst e;rfl
  ·have:¬s.length<=24:=by omega
   simp[Cz,BX,this]
  ·simp[Cz,e]
 ·intro h h';obtain⟨⟨e2,e0⟩,jk⟩:=h';have w0:Cz s=(lc (s.getD 0 0)&&s.all wc):=by
   have e3:s.length<=24:=by omega
   simp_all[Cz,BX,e3,e2]
  refine Df [0,17] (by simp only[V0,JK,reduceIte,Nat.reduceEqDiff];rfl) (fun i=>[(18,.i (iI i))]) (fun _=>[]) (fun i=>(s.take i).all wc=true/\(i≠0->lc (s.getD 0 0)=true)) s.length 0 (by omega) (by simp) ?_ ?_
  ·simp[V0,H0,JJ]
  ·intro i hi jb;have hinv1:=jb.1;have ve:=jb.2;have ju:0<s.length:=by grind
   (repeat' first|exact Ao _|simp(disch:=omega)only[go_sem,simprocAttr]|refine' Av (fun hq=>?_) (fun f=>?_)<;>try(have jd:=hq;try simp only[HB]at jd)|refine' CI (fun hq=>?_) (fun f=>?_)<;>try(have jd:=hq;try simp only[HB]at jd)|refine Sx.s ?_ ?_<;>try(intro h;have h':=h;try simp only[HB]at h';try rewrite [h];try simp only[h])|refine Ac ?_|refine Sz.s ?_|(refine And.intro ?_ ?_;focus omega))
   all_goals first
    |(exfalso;omega)
    |(refine Zae I.bool ?_;rw[w0];first
      |(have e:i=s.length:=by omega
        rw[e,Zgd]at hinv1;rw[hinv1,ve (by omega)];rfl)
      |(by_cases h0:i=0
        ·subst h0;have:lc (s.getD 0 0)=false:=by grind[lc]
         rw[this];rfl
        ·have h1:0<(i:Int):=by omega
         have h2:=h' h1;rw[Tz (d:=0) (i:=i) (by omega) (by simp only[wc,Za4];omega),Zb0]))
    |(refine⟨BW (d:=0) hinv1 (by omega) (by simp only[wc,Za0];omega),fun _=>?_⟩
      by_cases h0:i=0
      ·subst h0;simp only[lc,Za0];omega
      ·exact ve h0)
end
section
def Br{α:Type}(p:α->Bool)(l:List α):Int:=match l.findIdx? p with|some i=>i|none=>-1
theorem LA{α:Type}{p:α->Bool}{l:List α}{i:Nat}(hi:i<l.length)(hp:p l[i]=true)(hn:∀j (h:j<l.length),j<i->p l[j]=false):Br p l=i:=by have:l.findIdx? p=some i:=Zdo.2 ⟨hi,hp,fun j hj=>by rw[hn j (by omega) hj];simp⟩;grind[Br]
theorem LB{α:Type}{p:α->Bool}{l:List α}(hn:∀j (h:j<l.length),p l[j]=false):Br p l=-1:=by
 have:l.findIdx? p=none:=List.findIdx?_eq_none_iff.2 fun x hx=>by obtain⟨j,hj,rfl⟩:=Zeh hx;exact hn j hj
 grind[Br]
theorem TM{α:Type}{p:α->Bool}{l:List α}:(0<=Br p l)↔l.any p=true:=by grind[Br]
theorem qT(p:Fac->Bool)(l:List Fac)(f:Nat)(fs cs:List I)(hl:l.length<=1073741824)(hp:∀x∈l,Is mx f (fs++[.agg (Ax x)]++cs) (.bool (p x))):
  Is mx 249 [.sl (l.map Ax),.fn f fs cs] (iI (Br p l)):=by
 refine MX mO ?_;refine Od ?_;refine Df [0,1,7] (by simp only[V0,JK,reduceIte,Nat.reduceEqDiff];rfl) (fun i=>[(8,.i (iI i))]) (fun _=>[]) (fun i=>∀j (h:j<l.length),j<i->p l[j]=false) l.length 0 (by omega) (by simp) ?_ ?_
 ·simp[V0,H0,JJ]
 ·intro i hi jb;refine Ka @hp (cj ?_ (cj ?_ ?_))
  ·intro _ _ _ _;refine Zae (I.int .i64) ?_;exact(LA (by omega) (by rw[<-AK (by omega)];assumption) jb).symm
  ·intro _ _ _ _;intro j hj hji;by_cases e:j=i
   ·subst e;rw[<-AK hj];assumption
   ·exact jb j hj (by omega)
  ·intro _ _;refine Zae (I.int .i64) ?_;exact(LB fun j hj=>jb j hj (by omega)).symm
theorem qU(p:Fac->Bool)(l:List Fac)(f:Nat)(fs cs:List I)(hl:l.length<=1073741824)(hp:∀x∈l,Is mx f (fs++[.agg (Ax x)]++cs) (.bool (p x))):
  Is mx 209 [.sl (l.map Ax),.fn f fs cs] (.bool (l.any p)):=by
 refine MX nJ ?_;refine EV @qT ?_;refine Zae I.bool ?_;have:=@TM _ p l;rw[Zb2];simpa using this
theorem qV(f:Fac):Is mx 210 [.agg (Ax f)] (.bool (!Cz f.name)):=by refine MX oR ?_;exact EV @Fz trivial
def ty1(t:Typ):Bool:=decide (t.kind<1)||decide (t.kind>5)||(decide (0<t.unit.length)&&!CS t)
def ty2(t:Typ):Bool:=(decide (t.kind=5)!=decide (t.of≠[]))||(decide (t.of≠[])&&!Cz t.of)
def ty3(t:Typ):Bool:=decide (Bx t.unit≠0)||t.unit.any (fun f=>!Cz f.name)
def Jh(t:Typ):Int:=if ty1 t=true then 3 else if ty2 t=true then 3 else if ty3 t=true then 70 else 0
theorem QR(t:Typ)(ht:t.unit.length<=1073741824):Is mx 163 [.agg (Aq t)] (iI (Jh t)):=by
 refine MX ny ?_
 (repeat' first|exact Ao _|simp(disch:=omega)only[go_sem,simprocAttr]|refine' Av (fun hq=>?_) (fun f=>?_)<;>try(have jd:=hq;try simp only[HB]at jd)|refine' CI (fun hq=>?_) (fun f=>?_)<;>try(have jd:=hq;try simp only[HB]at jd)|refine Sx.s ?_ ?_<;>try(intro h;have h':=h;try simp only[HB]at h';try rewrite [h];try simp only[h])|refine Ab (O0 t) ?_|refine Ab (Fz _) ?_|refine Ab (TJ _ ht) ?_|refine Ab (qU (fun f ↦ !Cz f.name) _ _ _ _ ht (fun x _ ↦ qV x)) ?_|refine Ac ?_|refine Sz.s ?_|fail)
 all_goals(refine Zae (I.int .i64) ?_;simp only[Jh,ty1,ty2,ty3];grind)
end
section
theorem qW(l:List AQ)(x:AQ)(hl:l.length<=1073741824):
  Is mx 280 [.sl (l.map fun s=>[.str s]),.str x] (iI (Br (fun y=>decide (x=y)) l)):=by
 refine MX pg ?_;refine Od ?_;refine Df [0,1,7] (by simp only[V0,JK,reduceIte,Nat.reduceEqDiff];rfl) (fun i=>[(8,.i (iI i))]) (fun _=>[]) (fun i=>∀j (h:j<l.length),j<i->(fun y=>decide (x=y)) l[j]=false) l.length 0 (by omega) (by simp) ?_ ?_
 ·simp[V0,H0,JJ]
 ·intro i hi jb;refine Kb (cj ?_ (cj ?_ ?_))
  ·intro _ _ _ _;refine Zae (I.int .i64) ?_;exact(LA (p:=fun y=>decide (x=y)) (by omega) (by rw[<-AK (by omega)];assumption) jb).symm
  ·intro _ _ _ _;intro j hj hji;by_cases e:j=i
   ·subst e;rw[<-AK hj];assumption
   ·exact jb j hj (by omega)
  ·intro _ _;refine Zae (I.int .i64) ?_;exact(LB fun j hj=>jb j hj (by omega)).symm
theorem qX(l:List AQ)(x:AQ)(hl:l.length<=1073741824):
  Is mx 250 [.sl (l.map fun s=>[.str s]),.str x] (.bool (l.any fun y=>decide (x=y))):=by
 refine MX nQ ?_;refine EV @qW ?_;refine Zae I.bool ?_;have:=@TM _ (fun y=>decide (x=y)) l;rw[Zb2];simpa using this
end
section
def Km(a b:Xpr):Bool:=a.kind==b.kind&&(a.op==b.op&&(a.name==b.name&&(a.table==b.table&&(a.val==b.val&&(a.unit==b.unit&&(a.param==b.param&&a.win==b.win))))))
theorem qY(a b:Val):(a==b)=(a.kind==b.kind&&(a.n==b.n&&a.s==b.s)):=by cases a;cases b;rw[Zb2];simp
theorem qZ(a b:Win):(a==b)=(a.kind==b.kind&&a.size==b.size):=by cases a;cases b;rw[Zb2];simp
theorem YJ(a b:Xpr)(ha:a.unit.length<=1073741824):Is mx 251 [.agg (eE a),.agg (eE b)] (.bool (Km a b)):=by
 refine MX pa ?_;refine EV @YE ?_
 all_goals intros
 all_goals(refine Zae I.bool ?_;rw[Km,qY,qZ,Zb2];simp[Zax];done)
end
section
mutual
def Bj:Xpr->Nat
 |.mk _ _ _ _ _ _ _ _ a=>sizeXs a+1
def sizeXs:List Xpr->Nat
 |[]=>0
 |x::r=>Bj x+sizeXs r
end
mutual
def Ji:Xpr->Nat
 |.mk _ _ _ _ _ _ _ _ a=>depthXs a+1
def depthXs:List Xpr->Nat
 |[]=>0
 |x::r=>max (Ji x) (depthXs r)
end
theorem GW(l:List Xpr)(k:Nat)(h:k<l.length):sizeXs (l.take (k+1))=sizeXs (l.take k)+Bj l[k]:=by
 induction l generalizing k with
 |nil=>simp at h
 |cons x l ih=>grind[sizeXs]
theorem E7(l:List Xpr)(k:Nat):sizeXs (l.take k)<=sizeXs l:=by
 induction l generalizing k with
 |nil=>simp
 |cons x l ih=>cases k with
  |zero=>simp[sizeXs]
  |succ k=>simp only[Zgg,sizeXs];have:=ih k;omega
theorem D3(x:Xpr):Bj x=sizeXs x.args+1:=by cases x;rfl
theorem E8(x:Xpr):1<=Bj x:=by simp[D3]
theorem M5:∀l:List Xpr,l.length<=sizeXs l
 |[]=>by simp[sizeXs]
 |x::r=>by have:=M5 r;have:=E8 x;simp only[Zem,sizeXs];omega
theorem rd:∀(m:Nat) (x:Xpr),Bj x<=m->Bj x<=1073741824->Is mx 211 [.agg (eE x)] (iI (Bj x)):=by
 intro m
 induction m with
 |zero=>intro x h;have:=D3 x;omega
 |succ m ih=>
  intro x hm hb;have j0:=D3 x;have je:=M5 x.args;refine MX pT ?_
  (repeat' first|simp(disch:=omega)only[go_sem,simprocAttr]|fail)
  refine Df [6,7] (by simp only[V0,JK,reduceIte,Nat.reduceEqDiff];rfl) (fun i=>[(8,.i (iI i)),(2,.i (iI ((sizeXs (x.args.take i)+1:Nat):Int)))]) (fun _=>[]) (fun _=>True) x.args.length 0 (by omega) trivial ?_ ?_
  ·simp[V0,H0,JJ,sizeXs]
  ·intro i hi _;have ji:=E7 x.args (i+1);have hle0:=E7 x.args i;by_cases ja:i<x.args.length
   ·have hsi:=GW x.args i ja;have jn:=E8 x.args[i];rw[<-AK ja]at hsi jn;have i1:=ih (x.args.getD i default) (by omega) (by omega)
    (repeat' first|simp(disch:=omega)only[go_sem,simprocAttr]|refine Sx.s ?_ ?_<;>try(intro h;have h':=h;try simp only[HB]at h';try rewrite [h];try simp only[h])|refine Ab (i1) ?_|refine Ac ?_|refine Sz.s ?_|(refine And.intro ?_ ?_;focus omega))
    ·refine Zae (fun n=>D.i (I.int .i64 n)) ?_;omega
    ·exfalso;omega
   ·(repeat' first|simp(disch:=omega)only[go_sem,simprocAttr]|refine Sx.s ?_ ?_<;>try(intro h;have h':=h;try simp only[HB]at h';try rewrite [h];try simp only[h])|refine Ac ?_|refine Sz.s ?_|(refine And.intro ?_ ?_;focus omega))
    ·exfalso;omega
    ·refine Zae (I.int .i64) ?_;have e:i=x.args.length:=by omega
     rw[e,Zgd];omega
theorem YK(l:List Xpr)(k:Nat)(h:k<l.length):depthXs (l.take (k+1))=max (depthXs (l.take k)) (Ji l[k]):=by
 induction l generalizing k with
 |nil=>simp at h
 |cons x l ih=>grind[depthXs]
theorem YL(x:Xpr):Ji x=depthXs x.args+1:=by cases x;rfl
mutual
theorem re:∀x:Xpr,Ji x<=Bj x
 |.mk _ _ _ _ _ _ _ _ a=>by simp[depths_sizes,Ji,Bj]
theorem depths_sizes:∀l:List Xpr,depthXs l<=sizeXs l
 |[]=>by simp[depthXs]
 |x::r=>by have:=re x;have:=depths_sizes r;simp only[depthXs,sizeXs];omega
end
theorem rh:∀(m:Nat) (x:Xpr),Bj x<=m->Bj x<=1073741824->Is mx 212 [.agg (eE x)] (iI (Ji x)):=by
 intro m
 induction m with
 |zero=>intro x h;have:=D3 x;omega
 |succ m ih=>
  intro x hm hb;have j0:=D3 x;have je:=M5 x.args;have wy:=depths_sizes x.args;have hda:=YL x;refine MX mH ?_
  (repeat' first|simp(disch:=omega)only[go_sem,simprocAttr]|fail)
  refine Df [6,7] (by simp only[V0,JK,reduceIte,Nat.reduceEqDiff];rfl) (fun i=>[(8,.i (iI i)),(2,.i (iI ((depthXs (x.args.take i):Nat):Int)))]) (fun _=>[]) (fun _=>True) x.args.length 0 (by omega) trivial ?_ ?_
  ·simp[V0,H0,JJ,depthXs]
  ·intro i hi _;have ji:=E7 x.args (i+1);by_cases ja:i<x.args.length
   ·have hsi:=GW x.args i ja;have hdi:=YK x.args i ja;have jn:=E8 x.args[i];rw[<-AK ja]at hsi hdi jn;have i1:=ih (x.args.getD i default) (by omega) (by omega)
    (repeat' first|simp(disch:=omega)only[go_sem,simprocAttr]|refine Sx.s ?_ ?_<;>try(intro h;have h':=h;try simp only[HB]at h';try rewrite [h];try simp only[h])|refine Ab (i1) ?_|refine Ac ?_|refine Sz.s ?_|(refine And.intro ?_ ?_;focus omega))
    ·refine Zae (fun n=>D.i (I.int .i64 n)) ?_;split<;>omega
    ·exfalso;omega
   ·(repeat' first|simp(disch:=omega)only[go_sem,simprocAttr]|refine Sx.s ?_ ?_<;>try(intro h;have h':=h;try simp only[HB]at h';try rewrite [h];try simp only[h])|refine Ac ?_|refine Sz.s ?_|(refine And.intro ?_ ?_;focus omega))
    ·exfalso;omega
    ·have e:i=x.args.length:=by omega
     subst e;rw[Zgd];refine Zae (I.int .i64) ?_;rw[B3 (by omega) (by omega)];omega
end
section
abbrev AI:Typ:=⟨0,[],[]⟩
def AC(r:Typ×Int):I:=.tup [.agg (Aq r.1),iI r.2]
def F4(a b:Typ):Typ×Int:=
 if a.kind≠b.kind\/a.of≠b.of then(AI,5)else if a.unit≠b.unit then(AI,70)else(a,0)
theorem TN(a b:Typ)(ha:a.unit.length<=1073741824):Is mx 166 [.agg (Aq a),.agg (Aq b)] (AC (F4 a b)):=by
 refine MX my ?_
 (repeat' first|exact Ao _|simp(disch:=omega)only[go_sem,simprocAttr]|refine' Av (fun hq=>?_) (fun f=>?_)<;>try(have jd:=hq;try simp only[HB]at jd)|refine Sx.s ?_ ?_<;>try(intro h;have h':=h;try simp only[HB]at h';try rewrite [h];try simp only[h])|refine Ab (CX _) ?_|refine Ab (YF _ _ (by omega)) ?_|refine Ac ?_|refine Sz.s ?_|fail)
 all_goals(simp_all[F4,AC,Aq])
end
section
def eqS(a b:List UInt8):Bool:=decide (a=b)
def neS(a b:List UInt8):Bool:=decide (a≠b)
def O1(v:Val):Bool:=decide (v.kind=2)||decide (v.kind=3)
def M6(v:Val):Bool:=decide (v.kind=4)||decide (v.kind=5)
def Cq(low:Int)(c:UInt8):Bool:=decide ((c.toNat:Int)<low)||decide (126<(c.toNat:Int))||decide ((c.toNat:Int)=34)||decide ((c.toNat:Int)=92)
def FA(v:Val):Int:=
 if(decide (v.kind<0)||decide (5<v.kind))=true then 1
 else if(!M6 v&&neS v.s [])=true then 1
 else if(!O1 v&&decide (v.n≠0)&&(decide (v.kind≠1)||decide (v.n≠1)))=true then 1
 else if(decide (v.n< -1152921504606846976)||decide (1152921504606846976<v.n))=true then 2
 else if(!M6 v)=true then 0
 else if decide (v.kind=5)=true then
  if decide (32<(v.s.length:Int))=true then 2 else if(decide (v.kind=5)&&eqS v.s [])=true then 3 else if v.s.any (Cq 33)=true then 3 else 0
 else if decide (64<(v.s.length:Int))=true then 2 else if v.s.any (Cq 32)=true then 3 else 0
theorem YM(v:Val)(low:Int)(hv:FA v=if v.s.any (Cq low)=true then 3 else 0){e:Env}(h0:Dl.Sub ⟨.l [(89,.i (iI 0)),(1,.i (.elt (Bi v) 0)),(6,.i (.int .u8 low)),(88,.i (iI v.s.length))],[]⟩ ⟨e,[]⟩)(je:v.s.length<=64)
  (hs:Ei e [1,6,88]=[(1,.i (.elt (Bi v) 0)),(6,.i (.int .u8 low)),(88,.i (iI v.s.length))]):
  W2 Tryz.prog (Mi mx) (.lp (.sq [1,6,88,89,90] (.rg [⟨none,(.bin 90 .lss (.t 89) (.t 88))⟩]) (.ct [1,6,88,89] (.cond (.t 90) .skip (.exit 1)) (.ct [1,6,88,89] (.block 2 (.sq [1,6,7,88,89] (.rg [⟨none,(.mov 91 (.t 89))⟩,⟨none,(.mov 7 (.t 91))⟩]) (.sq [1,6,8,88,89] (.rg [⟨none,(.fa 92 (.t 1) 2)⟩,⟨none,(.load 93 (.t 92) 1 false)⟩,⟨none,(.mov 94 (.t 7))⟩,⟨none,(.idx 95 (.t 93) (.t 94))⟩,⟨none,(.mov 8 (.t 95))⟩]) (.sq [1,6,88,89,110] (.rg [⟨none,(.mov 96 (.t 8))⟩,⟨none,(.mov 97 (.t 6))⟩,⟨none,(.bin 98 .lss (.t 96) (.t 97))⟩,⟨none,(.mov 99 (.t 98))⟩,⟨(some (99,false)),(.mov 100 (.t 8))⟩,⟨(some (99,false)),(.bin 101 .gtr (.t 100) (.c (.int .u8 126)))⟩,⟨none,(.pick 102 (.t 99) (.c (.bool true)) (.t 101))⟩,⟨none,(.mov 103 (.t 102))⟩,⟨(some (103,false)),(.mov 104 (.t 8))⟩,⟨(some (103,false)),(.bin 105 .eql (.t 104) (.c (.int .u8 34)))⟩,⟨none,(.pick 106 (.t 103) (.c (.bool true)) (.t 105))⟩,⟨none,(.mov 107 (.t 106))⟩,⟨(some (107,false)),(.mov 108 (.t 8))⟩,⟨(some (107,false)),(.bin 109 .eql (.t 108) (.c (.int .u8 92)))⟩,⟨none,(.pick 110 (.t 107) (.c (.bool true)) (.t 109))⟩]) (.cond (.t 110) (.sq [2] (.rg [⟨none,(.mov 2 (.c (.int .i64 3)))⟩]) .ret) .skip))))) (.rg [⟨none,(.bin 111 .add (.t 89) (.c (.int .i64 1)))⟩,⟨none,(.mov 89 (.t 111))⟩]))))) (E3 1 (Kh [] (W2 Tryz.prog (Mi mx) (.sq [2] (.rg [⟨none,(.mov 2 (.c (.int .i64 0)))⟩]) .ret)) (Lu [.tmp 2] [] [] (fd (iI (FA v)))))) ⟨e,[]⟩:=by
 refine Df _ hs (fun i=>[(89,.i (iI i))]) (fun _=>[]) (fun i=>(v.s.take i).all (fun c=>!Cq low c)=true) v.s.length 0 (by omega) (by simp) h0 ?_;intro i hi jb
 (repeat' first|exact Ao _|simp(disch:=omega)only[go_sem,simprocAttr]|refine' Av (fun hq=>?_) (fun f=>?_)<;>try(have jd:=hq;try simp only[HB]at jd)|refine Sx.s ?_ ?_<;>try(intro h;have h':=h;try simp only[HB]at h';try rewrite [h];try simp only[h])|refine Ac ?_|refine Sz.s ?_|(refine And.intro ?_ ?_;focus omega))
 ·have:v.s.any (Cq low)=true:=by
   rw[Zcz];have ja:i<v.s.length:=by omega
   refine⟨v.s.getD i 0,?_,h⟩;grind
  rw[hv,Zaa this]
 ·exact BW (d:=0) jb (by omega) (by rw[show Cq low (v.s.getD i 0)=false from h];rfl)
 ·have e:i=v.s.length:=by omega
  rw[e,Zgd]at jb;have:v.s.any (Cq low)=false:=by grind
  rw[hv,this];rfl
theorem TO(v:Val):Is mx 105 [.agg (Bi v)] (iI (FA v)):=by
 refine MX nk ?_
 (repeat' first|exact Ao _|simp(disch:=omega)only[go_sem,simprocAttr]|refine' Av (fun hq=>?_) (fun f=>?_)<;>try(have jd:=hq;try simp only[HB]at jd)|refine' CI (fun hq=>?_) (fun f=>?_)<;>try(have jd:=hq;try simp only[HB]at jd)|refine Sx.s ?_ ?_<;>try(intro h;have h':=h;try simp only[HB]at h';try rewrite [h];try simp only[h])|refine Ac ?_|refine Sz.s ?_|fail)
 all_goals try(refine Zae (I.int .i64) ?_;simp only[FA,M6,O1,eqS,neS];grind)
 ·refine YM v 33 (by simp only[FA,M6,O1,eqS,neS];grind) ?_ (by omega) rfl;simp[V0,H0,JJ,Bi]
 ·refine YM v 32 (by simp only[FA,M6,O1,eqS,neS];grind) ?_ (by omega) rfl;simp[V0,H0,JJ,Bi]
end
section
theorem HD(x:Xpr):eE x=[.int .i64 x.kind,.str x.op,.str x.name,.str x.table,.int .i64 x.val.kind,.int .i64 x.val.n,.str x.val.s,.sl (x.unit.map Ax),.int .i64 x.param,.int .i64 x.win.kind,.int .i64 x.win.size,.sl (x.args.map eE)]:=by cases x;simp[eE,QL,Xpr.kind,Xpr.op,Xpr.name,Xpr.table,Xpr.val,Xpr.unit,Xpr.param,Xpr.win,Xpr.args]
theorem BV{i n:Nat}(h:i<n):((i:Int)<(n:Int))=True:=by simp;omega
theorem Hi{i n:Nat}(h:¬i<n):((i:Int)<(n:Int))=False:=by simp;omega
def AY(f:Fac):Nat:=f.name.length+1
def Ag{α:Type}(b:α->Nat):List α->Nat
 |[]=>0
 |x::r=>b x+Ag b r
def EI(v:Val):Nat:=v.s.length+1
def D4(t:Typ):Nat:=Ag AY t.unit+t.of.length+1
mutual
def bX:Xpr->Nat
 |.mk _ o n t v u _ _ a=>o.length+n.length+t.length+EI v+Ag AY u+bXs a+1
def bXs:List Xpr->Nat
 |[]=>0
 |x::r=>bX x+bXs r
end
theorem Il{α:Type}{b:α->Nat}(h:∀x,1<=b x):∀l,l.length<=Ag b l
 |[]=>by simp[Ag]
 |x::r=>by have:=h x;have:=Il h r;simp only[Zem,Ag];omega
theorem B4{α:Type}{b:α->Nat}:∀{l:List α} {x:α},x∈l->b x<=Ag b l
 |y::r,x,h=>by
  simp only[Ag];rcases Zfb.1 h with e|e
  ·subst e;omega
  ·have:=B4 (b:=b) e;omega
theorem E9(u:List Fac):u.length<=Ag AY u:=Il (fun f=>by unfold AY;omega) u
theorem YN:∀l,bXs l=Ag bX l
 |[]=>rfl
 |x::r=>by simp[bXs,Ag,YN r]
theorem HE(x:Xpr):bX x=x.op.length+x.name.length+x.table.length+EI x.val+Ag AY x.unit+Ag bX x.args+1:=by cases x;simp only[bX,YN];rfl
theorem Im(x:Xpr):x.unit.length<=bX x:=by grind[HE,E9]
theorem Fa{x a:Xpr}(h:a∈x.args):bX a<bX x:=by grind[HE,B4,bX]
mutual
theorem M7:∀x,Bj x<=bX x
 |.mk _ o n t v u _ _ a=>by have:=sizeXs_bXs a;simp only[Bj,bX];omega
theorem sizeXs_bXs:∀l,sizeXs l<=bXs l
 |[]=>by simp[sizeXs,bXs]
 |x::r=>by have:=M7 x;have:=sizeXs_bXs r;simp only[sizeXs,bXs];omega
end
theorem LC(x:Xpr):x.args.length<=bX x:=by grind[HE,Il,bX]
abbrev Fb:Win:=⟨0,0⟩
abbrev FB:Val:=⟨0,0,[]⟩
def Bm(l:List AQ)(x:AQ):Bool:=l.any fun y=>decide (x=y)
def F7(x:Xpr):Xpr:=
 if x.kind=1 then .mk x.kind [] x.name [] x.val x.unit 0 Fb []
 else if x.kind=2\/x.kind=3\/x.kind=4 then .mk x.kind [] x.name [] FB [] 0 Fb []
 else if x.kind=5 then .mk x.kind x.op [] x.table FB [] x.param x.win []
 else if x.kind=6\/x.kind=7 then .mk x.kind x.op [] [] FB [] 0 Fb []
 else .mk x.kind [] [] [] FB [] 0 Fb []
def Jj(k:Int):Int:=if k=4\/k=6 then 1 else if k=5\/k=7\/k=9 then 2 else if k=8 then 3 else 0
def Jk:AQ:=[113,117,97,110,116,105,108,101]
def GX:AQ:=[100,101,99,97,121]
def HF:AQ:=[99,111,117,110,116]
def O2(op:AQ):Int:=if op=Jk then 1 else if op=GX then 1 else 0
def O3(op:AQ):Int:=if op=Jk then 1000 else if op=GX then 1073741824 else 0
def O4(w:Win):Bool:= !(decide (w.kind<1)||decide (4<w.kind)||(decide (w.kind=1)!=decide (w.size=0))||decide (w.size<0)||decide (1099511627776<w.size))
def QS(x:Xpr):Bool:=decide (FA x.val=0)&&!decide (x.val.n<0)&&decide (Jh ⟨x.val.kind,x.unit,x.name⟩=0)
def QT(x:Xpr)(inside:Bool):Bool:= !inside&&Bm Ij x.op&&Cz x.table&&!decide (x.param<O2 x.op)&&!decide (O3 x.op<x.param)&&O4 x.win
def In(x:Xpr)(inside:Bool):Bool:=
 if x.kind=1 then QS x
 else if x.kind=2\/x.kind=3\/x.kind=4 then(inside==decide (x.kind=2))&&Cz x.name
 else if x.kind=5 then QT x inside
 else if x.kind=6 then Bm Jg x.op
 else if x.kind=7 then Bm Ik x.op
 else decide (x.kind=8)||decide (x.kind=9)
def Fc:Xpr:=.mk 1 [] [] [] ⟨1,1,[]⟩ [] 0 Fb []
def LD(x:Xpr):Bool:=Km x (F7 x)
mutual
def HG:Xpr->Bool->Bool
 |.mk k o n t v u p w a,inside=>In (.mk k o n t v u p w a) inside&&LD (.mk k o n t v u p w a)&&decide ((a.length:Int)=Jj k)&&properXs a (inside||decide (k=5))&&(!(decide (o=HF)&&decide (k=5))||Km (a.getD 0 default) Fc)
def properXs:List Xpr->Bool->Bool
 |[],_=>true
 |x::r,inside=>HG x inside&&properXs r inside
end
theorem LF(x:Xpr)(inside:Bool):HG x inside=(In x inside&&LD x&&decide ((x.args.length:Int)=Jj x.kind)&&properXs x.args (inside||decide (x.kind=5))&&(!(decide (x.op=HF)&&decide (x.kind=5))||Km (x.args.getD 0 default) Fc)):=by cases x;simp only[HG,Xpr.args,Xpr.kind,Xpr.op];rfl
theorem QU(l:List Xpr)(inside:Bool):properXs l inside=l.all fun x=>HG x inside:=by
 induction l with
 |nil=>rfl
 |cons x r ih=>simp[properXs,ih]
def Io(x:Xpr):Int:=if 64<Bj x\/12<Ji x then 2 else if HG x false then 0 else 3
end
section
theorem KM.cons{H:Type}{P:Program}{m:Nat}{t:TypeId}{ts:List TypeId}{l:List (DataW H)}(h:KM P m (t::ts) l):∃d r,l=d::r/\Rd P m t d/\KM P m ts r:=by
 cases l with
 |nil=>exact h.elim
 |cons d r=>exact⟨d,r,rfl,h.1,h.2⟩
theorem KM.nil{H:Type}{P:Program}{m:Nat}{l:List (DataW H)}(h:KM P m [] l):l=[]:=by
 cases l with
 |nil=>rfl
 |cons d r=>exact h.elim
def FC(f:Fld):Nat:=f.name.length+D4 f.typ+1
def Dh(t:Tbl):Nat:=t.name.length+t.entity.length+Ag FC t.fields+1
def Bd(f:Ftr):Nat:=f.name.length+f.entity.length+D4 f.typ+bX f.body+1
def AR(c:Cat):Nat:=Ag Dh c.tables+Ag Bd c.features+Ag Bd c.drafts+Ag Bd c.past+1
section
variable {H:Type}{n:Nat}{d:DataW H}
theorem ri(h:Rd Tryz.prog n 239 d):∃x:Fac,AG d=Ax x/\AY x<=Ba d/\True:=by obtain⟨parts,m,hm,rfl,hp⟩:=h.struct Tryz.underlying239;obtain⟨d1,r1,rfl,h1,hp⟩:=KM.cons hp;obtain⟨d2,r2,rfl,h2,hp⟩:=KM.cons hp;obtain rfl:=KM.nil hp;obtain⟨a1,rfl⟩:=h1.str (by kernel_rfl);obtain⟨a2,rfl,_⟩:=h2.int (k:=.i64) (by kernel_rfl);exact⟨⟨a1,a2⟩,rfl,by simp only[Ba,bulkL,AY];omega,trivial⟩
theorem YO(h:Rd Tryz.prog n 43 d):∃x:Val,AG d=Bi x/\EI x<=Ba d/\True:=by obtain⟨parts,m,hm,rfl,hp⟩:=h.struct Tryz.underlying43;obtain⟨d1,r1,rfl,h1,hp⟩:=KM.cons hp;obtain⟨d2,r2,rfl,h2,hp⟩:=KM.cons hp;obtain⟨d3,r3,rfl,h3,hp⟩:=KM.cons hp;obtain rfl:=KM.nil hp;obtain⟨a1,rfl,_⟩:=h1.int (k:=.i64) (by kernel_rfl);obtain⟨a2,rfl,_⟩:=h2.int (k:=.i64) (by kernel_rfl);obtain⟨a3,rfl⟩:=h3.str (by kernel_rfl);exact⟨⟨a1,a2,a3⟩,rfl,by simp only[Ba,bulkL,EI];omega,trivial⟩
theorem rk(h:Rd Tryz.prog n 45 d):∃x:Win,AG d=F2 x/\True:=by obtain⟨parts,m,hm,rfl,hp⟩:=h.struct Tryz.underlying45;obtain⟨d1,r1,rfl,h1,hp⟩:=KM.cons hp;obtain⟨d2,r2,rfl,h2,hp⟩:=KM.cons hp;obtain rfl:=KM.nil hp;obtain⟨a1,rfl,_⟩:=h1.int (k:=.i64) (by kernel_rfl);obtain⟨a2,rfl,_⟩:=h2.int (k:=.i64) (by kernel_rfl);exact⟨⟨a1,a2⟩,rfl,trivial⟩
theorem YP(h:Rd Tryz.prog n 39 d):∃xs:List Fac,AG d=[.sl (xs.map Ax)]/\Ag AY xs+1<=Ba d/\∀x∈xs,True:=
 h.list (f:=Ax) (b:=AY) (bs:=Ag AY) rfl (fun _ _=>rfl) Tryz.underlying39 fun m y _ hy=>ri hy
theorem YQ(h:Rd Tryz.prog n 41 d):∃x:Typ,AG d=Aq x/\D4 x<=Ba d/\True:=by obtain⟨parts,m,hm,rfl,hp⟩:=h.struct Tryz.underlying41;obtain⟨d1,r1,rfl,h1,hp⟩:=KM.cons hp;obtain⟨d2,r2,rfl,h2,hp⟩:=KM.cons hp;obtain⟨d3,r3,rfl,h3,hp⟩:=KM.cons hp;obtain rfl:=KM.nil hp;obtain⟨a1,rfl,_⟩:=h1.int (k:=.i64) (by kernel_rfl);obtain⟨a2,e2,b2,_⟩:=YP h2;obtain⟨a3,rfl⟩:=h3.str (by kernel_rfl);exact⟨⟨a1,a2,a3⟩,by simp only[AG,flatA,e2];rfl,by simp only[Ba,bulkL,D4]at b2⊢;omega,trivial⟩
theorem rl:∀(n:Nat) (d:DataW H),Rd Tryz.prog n 48 d->∃x:Xpr,AG d=eE x/\bX x<=Ba d/\True:=by
 intro n
 induction n using Nat.strongRecOn with
 |ind n ih=>
 intro d h;obtain⟨parts,m,hm,rfl,hp⟩:=h.struct Tryz.underlying48;obtain⟨d1,r1,rfl,h1,hp⟩:=KM.cons hp;obtain⟨d2,r2,rfl,h2,hp⟩:=KM.cons hp;obtain⟨d3,r3,rfl,h3,hp⟩:=KM.cons hp;obtain⟨d4,r4,rfl,h4,hp⟩:=KM.cons hp;obtain⟨d5,r5,rfl,h5,hp⟩:=KM.cons hp;obtain⟨d6,r6,rfl,h6,hp⟩:=KM.cons hp;obtain⟨d7,r7,rfl,h7,hp⟩:=KM.cons hp;obtain⟨d8,r8,rfl,h8,hp⟩:=KM.cons hp;obtain⟨d9,r9,rfl,h9,hp⟩:=KM.cons hp;obtain rfl:=KM.nil hp;obtain⟨a1,rfl,_⟩:=h1.int (k:=.i64) (by kernel_rfl);obtain⟨a2,rfl⟩:=h2.str (by kernel_rfl);obtain⟨a3,rfl⟩:=h3.str (by kernel_rfl);obtain⟨a4,rfl⟩:=h4.str (by kernel_rfl);obtain⟨a5,e5,b5,_⟩:=YO h5;obtain⟨a6,e6,b6,_⟩:=YP h6;obtain⟨a7,rfl,_⟩:=h7.int (k:=.i64) (by kernel_rfl);obtain⟨a8,e8,_⟩:=rk h8;obtain⟨a9,e9,b9,_⟩:=h9.list (f:=eE) (b:=bX) (bs:=Ag bX) (Q:=fun _=>True) rfl (fun _ _=>rfl) Tryz.underlying46 fun k y hk hy=>ih k (by omega) y hy
 refine⟨.mk a1 a2 a3 a4 a5 a6 a7 a8 a9,?_,?_,trivial⟩
 ·rw[HD];simp only[AG,flatA,e5,e6,e8,e9];rfl
 ·rw[HE];simp only[Ba,bulkL,Xpr.op,Xpr.name,Xpr.table,Xpr.val,Xpr.unit,Xpr.args]at*;omega
theorem rm(h:Rd Tryz.prog n 91 d):∃x:Fld,AG d=B2 x/\FC x<=Ba d/\True:=by obtain⟨parts,m,hm,rfl,hp⟩:=h.struct Tryz.underlying91;obtain⟨d1,r1,rfl,h1,hp⟩:=KM.cons hp;obtain⟨d2,r2,rfl,h2,hp⟩:=KM.cons hp;obtain rfl:=KM.nil hp;obtain⟨a1,rfl⟩:=h1.str (by kernel_rfl);obtain⟨a2,e2,b2,_⟩:=YQ h2;exact⟨⟨a1,a2⟩,by simp only[AG,flatA,e2];rfl,by simp only[Ba,bulkL,FC]at b2⊢;omega,trivial⟩
theorem rp(h:Rd Tryz.prog n 38 d):∃x:Tbl,AG d=AS x/\Dh x<=Ba d/\True:=by
 obtain⟨parts,m,hm,rfl,hp⟩:=h.struct Tryz.underlying38;obtain⟨d1,r1,rfl,h1,hp⟩:=KM.cons hp;obtain⟨d2,r2,rfl,h2,hp⟩:=KM.cons hp;obtain⟨d3,r3,rfl,h3,hp⟩:=KM.cons hp;obtain⟨d4,r4,rfl,h4,hp⟩:=KM.cons hp;obtain rfl:=KM.nil hp;obtain⟨a1,rfl⟩:=h1.str (by kernel_rfl);obtain⟨a2,rfl⟩:=h2.str (by kernel_rfl);obtain⟨a3,e3,b3,_⟩:=h3.list (f:=B2) (b:=FC) (bs:=Ag FC) (Q:=fun _=>True) rfl (fun _ _=>rfl) Tryz.underlying36 fun m y _ hy=>rm hy
 obtain⟨a4,rfl,_⟩:=h4.int (k:=.i64) (by kernel_rfl);exact⟨⟨a1,a2,a3,a4⟩,by simp only[AG,flatA,e3];rfl,by simp only[Ba,bulkL,Dh]at b3⊢;omega,trivial⟩
theorem rq(h:Rd Tryz.prog n 50 d):∃x:Ftr,AG d=Af x/\Bd x<=Ba d/\True:=by obtain⟨parts,m,hm,rfl,hp⟩:=h.struct Tryz.underlying50;obtain⟨d1,r1,rfl,h1,hp⟩:=KM.cons hp;obtain⟨d2,r2,rfl,h2,hp⟩:=KM.cons hp;obtain⟨d3,r3,rfl,h3,hp⟩:=KM.cons hp;obtain⟨d4,r4,rfl,h4,hp⟩:=KM.cons hp;obtain⟨d5,r5,rfl,h5,hp⟩:=KM.cons hp;obtain rfl:=KM.nil hp;obtain⟨a1,rfl⟩:=h1.str (by kernel_rfl);obtain⟨a2,rfl⟩:=h2.str (by kernel_rfl);obtain⟨a3,e3,b3,_⟩:=YQ h3;obtain⟨a4,e4,b4,_⟩:=rl _ _ h4;obtain⟨a5,rfl,_⟩:=h5.int (k:=.i64) (by kernel_rfl);exact⟨⟨a1,a2,a3,a4,a5⟩,by simp only[AG,flatA,e3,e4,Af,Zc0,Zc3,Zft,Zc1],by simp only[Ba,bulkL,Bd]at b3 b4⊢;omega,trivial⟩
end
theorem LG(t:Typ):t.unit.length<=D4 t:=by grind[E9,D4]
end
section
open Go Go.Dl Go.As Go.RowKit Go.ChangeShapes Go.WideShapes
theorem YR{P:Program}{t:TypeId}{cs:List I}{fs:Array Field}(h:P.underlying t=some (.struct fs)):C5 P t cs=.agg cs:=by grind[C5]
theorem Ip{P:Program}{t:TypeId}{x:I}(h:∀fs,P.underlying t≠some (.struct fs)):C5 P t [x]=x:=by simp[C5]
theorem own:ownKnob Tryz.prog.godebug=none:=by kernel_rfl
theorem O5:laidOutB Tryz.prog=true:=by kernel_rfl
def ru:List TypeId:=[3,9,4,62,63,65,43,39,45,46,48,41,239,50,36,91,38,160,31,30,33,35,52,54,22]
theorem Kn:Lz Tryz.prog ru=true:=by kernel_rfl
def Jl:List (String×DataW Unit):=[("asof/checker.aggregates",Rows.laid_asof_checker_aggregates),("asof/checker.unary",Rows.laid_asof_checker_unary),("asof/checker.binary",Rows.laid_asof_checker_binary)]
theorem TP{P:Program}{l:List TypeId}(vz:Lz P l=true){W:World}{nm:String}{g:Nat}{t:TypeId}{cs:Array Value}{fuel:Nat}{d:DataW Unit}{p:List MemPlace}{is:List I}(hg:P.globalNamed nm=some g)(hv:W.var? P nm=some cs)(ht:l.contains t=true)
  (hd:DataW.trod (fun _=>()) P W 0 (fun _=>true) false fuel t cs.toList=some (d,p))(he:AG d=is):Rep (C4 W) (.elt is 0) (.pointer (some ⟨g,0,none⟩)):=by
 have hR:=Ym vz fuel t _ _ ht hd;rw[he]at hR;have:=Rep.elt (M:=C4 W) is 0 g 0 (fun j=>cs.toList.getD j Go.undef) (fun j hj=>by
  have jp:j<cs.toList.length:=by rw[hR.1];exact hj
  show W.cell? ⟨g,0+j,none⟩=_;rw[Zg8,World.var?_cell hg hv j];simp only[List.getD,Zd2 jp,Zhh];simp at jp;simp[jp]) (fun j hj=>by
  have jp:j<cs.toList.length:=by rw[hR.1];exact hj
  simp only[List.getD,Zd2 jp,Zhh];exact hR.2 j hj jp)
 simpa using this
theorem rz{P:Program}{w:World}{g:Nat}{t:TypeId}{k:IntKind}{zero:Array Value}(h:w.ShapedOpen P)(hg:g<P.globals.size)
  (h0:((begin P (fun _ _=>0) default).world.heap[g]?).bind Obj.row? =some (zero,t))(hz:zero.size=1)
  (hb:P.buildable t=true)(hc:P.cellTypes P.depth t=some [t])(hu:P.underlying t=some (.int k)):∃n,w.cell? ⟨g,0,none⟩=some (.int k n):=by
 obtain⟨cs,hh,hs,hr⟩:=h.1 g zero t hg h0;obtain⟨ts,hts,_,jj⟩:=hr hb;rw[hc]at hts;cases hts;have h1:0<cs.size:=by omega
 obtain⟨u,hu',k8⟩:=jj 0 cs[0] (by simp[h1]);have:u=t:=by grind
 subst this;have j6:w.cell? ⟨g,0,none⟩=some cs[0]:=by simp[World.cell?,hh,h1]
 rw[j6];unfold Cell.ok at k8;rw[hu]at k8;cases hv:cs[0]<;>rw[hv]at k8<;>simp at k8;obtain⟨rfl,_⟩:=k8;exact⟨_,rfl⟩
theorem O6{W:World}(hL:laidMetH Tryz.prog Jl W)(hS:W.ShapedOpen Tryz.prog):∃mx,H2 (Mi mx) (C4 W):=by
 obtain⟨mx,hm⟩:=rz (k:=.i64) (t:=3) (g:=3) (zero:=#[.int .i64 0]) hS (Za6 (by kernel_rfl)) (by kernel_rfl) rfl (by kernel_rfl) (by kernel_rfl) (by kernel_rfl);have h:laidMet Tryz.prog Jl W:=hL;obtain⟨ps,hv,_⟩:=h;obtain⟨g0,t0,cs0,f0,p0,q0,a1,a2,a3,a4,hv,_⟩:=hv;obtain⟨g1,t1,cs1,f1,p1,q1,b1,b2,b3,b4,hv,_⟩:=hv;obtain⟨g2,t2,cs2,f2,p2,q2,c1,c2,c3,c4,hv,_⟩:=hv;obtain rfl:0=g0:=Zho ((show Tryz.prog.globalNamed "asof/checker.aggregates"=some 0 by kernel_rfl).symm.trans a1);obtain rfl:1=g1:=Zho ((show Tryz.prog.globalNamed "asof/checker.unary"=some 1 by kernel_rfl).symm.trans b1);obtain rfl:2=g2:=Zho ((show Tryz.prog.globalNamed "asof/checker.binary"=some 2 by kernel_rfl).symm.trans c1);obtain rfl:160=t0:=Zho ((show(Tryz.prog.globals[0]?).map (·.type)=some 160 by kernel_rfl).symm.trans a2);obtain rfl:160=t1:=Zho ((show(Tryz.prog.globals[1]?).map (·.type)=some 160 by kernel_rfl).symm.trans b2);obtain rfl:160=t2:=Zho ((show(Tryz.prog.globals[2]?).map (·.type)=some 160 by kernel_rfl).symm.trans c2);have k0:=TP Kn (is:=[.sl (Ij.map fun s=>[.str s])]) a1 a3 (by decide) a4 (by rfl);have k1:=TP Kn (is:=[.sl (Jg.map fun s=>[.str s])]) b1 b3 (by decide) b4 (by rfl);have k2:=TP Kn (is:=[.sl (Ik.map fun s=>[.str s])]) c1 c3 (by decide) c4 (by rfl);refine⟨mx,fun g cs hg=>?_⟩;simp only[Mi,Zfb,Zfw,Zay,Zhr]at hg;rcases hg with⟨rfl,rfl⟩|⟨rfl,rfl⟩|⟨rfl,rfl⟩|⟨rfl,rfl⟩
 ·have:=Rep.elt (M:=C4 W) [.int .i64 mx] 0 3 0 (fun _=>.int .i64 mx) (fun j hj=>by
   obtain rfl:j=0:=by grind
   exact hm) (fun j hj=>by
   obtain rfl:j=0:=by grind
   exact .int _ _)
  exact this
 all_goals omega
mutual
theorem QV{H:Type}:∀d:DataW H,Rows.uptoBulk d=Ba d
 |.lit l=>by cases l<;>rfl
 |.nil=>rfl
 |.ptr d=>by simp only[Rows.uptoBulk,Ba,QV d]
 |.slice e s=>by simp only[Rows.uptoBulk,Ba,bulks_eq e,bulks_eq s]
 |.agg p=>by simp only[Rows.uptoBulk,Ba,bulks_eq p]
 |.iface _ d=>by simp only[Rows.uptoBulk,Ba,QV d]
 |.map es=>by simp only[Rows.uptoBulk,Ba,bulkes_eq es]
 |.held _=>rfl
theorem bulks_eq{H:Type}:∀l:List (DataW H),Rows.uptoBulkAll l=bulkL l
 |[]=>rfl
 |d::r=>by simp only[Rows.uptoBulkAll,bulkL,QV d,bulks_eq r]
theorem bulkes_eq{H:Type}:∀l:List (Lit×DataW H),Rows.uptoBulkEntries l=bulkE l
 |[]=>rfl
 |(k,d)::r=>by cases k<;>simp only[Rows.uptoBulkEntries,Rows.uptoBulkEntry,bulkE,bulk1,QV d,bulkes_eq r]
end
noncomputable def TQ(l:List (List UInt8)):Array Value:=(l.map fun s=>Value.string ⟨s.toArray⟩).toArray
noncomputable def EJ(os:Os):World:=
 let N:=(World.settled Tryz.prog os).heap.size
 let w0:=World.holding Tryz.prog os ⟨#[.cells (TQ Ij) 9,.cells (TQ Jg) 9,.cells (TQ Ik) 9],#[],[]⟩
 let put (h:Array Obj) (g:Nat) (cs:Array Value):Array Obj:=h.modify g fun
  |.cells _ t frozen=>.cells cs t frozen
  |o=>o
 let h0:=put w0.heap 0 #[.slice (some ⟨N,0,none⟩) 10 10]
 let h1:=put h0 1 #[.slice (some ⟨N+1,0,none⟩) 3 3]
 let h2:=put h1 2 #[.slice (some ⟨N+2,0,none⟩) 10 10]
 {w0 with heap:=h2}
noncomputable abbrev N0:Nat:=(World.settled Tryz.prog default).heap.size
theorem O7(os:Os)(args:Array Value):laidMet Tryz.prog Jl ((EJ os).forCall (fun _ _=>0) ⟨#[],args,[]⟩).memory:=
 (LaidIn.of_run (l:=Jl) [0,1,2,N0,N0+1,N0+2] 8 (by kernel_rfl) (by kernel_rfl) (by kernel_rfl) (by kernel_rfl)).met
end
section
def LH(x:Fid):Nat:=x.source.length+1
def GY(x:Fct):Nat:=LH x.id+x.table.length+x.key.length+Ag EI x.fields+1
def Iq(x:Ers):Nat:=x.entity.length+x.key.length+LH x.id+1
def D5(x:Chg):Nat:=Dh x.table+Bd x.feature+x.name.length+1
def AB(x:Ent):Nat:=GY x.fact+Iq x.erasure+D5 x.change+1
section
variable {H:Type}{n:Nat}{d:DataW H}
theorem rA(h:Rd Tryz.prog n 31 d):∃xs:List Val,AG d=[.sl (xs.map Bi)]/\Ag EI xs+1<=Ba d/\∀x∈xs,True:=
 h.list (f:=Bi) (b:=EI) (bs:=Ag EI) rfl (fun _ _=>rfl) Tryz.underlying31 fun m y _ hy=>YO hy
theorem TR(h:Rd Tryz.prog n 30 d):∃x:Fid,AG d=Am x/\LH x<=Ba d/\True:=by obtain⟨parts,m,hm,rfl,hp⟩:=h.struct Tryz.underlying30;obtain⟨d1,r1,rfl,h1,hp⟩:=KM.cons hp;obtain⟨d2,r2,rfl,h2,hp⟩:=KM.cons hp;obtain rfl:=KM.nil hp;obtain⟨a1,rfl⟩:=h1.str (by kernel_rfl);obtain⟨a2,rfl,_⟩:=h2.int (k:=.i64) (by kernel_rfl);exact⟨⟨a1,a2⟩,by simp only[AG,flatA,Am,Zc3,Zft,Zc1],by simp only[Ba,bulkL,LH];omega,trivial⟩
theorem rB(h:Rd Tryz.prog n 33 d):∃x:Fct,AG d=BJ x/\GY x<=Ba d/\True:=by obtain⟨parts,m,hm,rfl,hp⟩:=h.struct Tryz.underlying33;obtain⟨d1,r1,rfl,h1,hp⟩:=KM.cons hp;obtain⟨d2,r2,rfl,h2,hp⟩:=KM.cons hp;obtain⟨d3,r3,rfl,h3,hp⟩:=KM.cons hp;obtain⟨d4,r4,rfl,h4,hp⟩:=KM.cons hp;obtain⟨d5,r5,rfl,h5,hp⟩:=KM.cons hp;obtain⟨d6,r6,rfl,h6,hp⟩:=KM.cons hp;obtain⟨d7,r7,rfl,h7,hp⟩:=KM.cons hp;obtain rfl:=KM.nil hp;obtain⟨a1,e1,b1,_⟩:=TR h1;obtain⟨a2,rfl,_⟩:=h2.int (k:=.i64) (by kernel_rfl);obtain⟨a3,rfl,_⟩:=h3.int (k:=.i64) (by kernel_rfl);obtain⟨a4,rfl⟩:=h4.str (by kernel_rfl);obtain⟨a5,rfl⟩:=h5.str (by kernel_rfl);obtain⟨a6,rfl,_⟩:=h6.int (k:=.i64) (by kernel_rfl);obtain⟨a7,e7,b7,_⟩:=rA h7;exact⟨⟨a1,a2,a3,a4,a5,a6,a7⟩,by simp only[AG,flatA,e1,e7,BJ,Zc3,Zft,Zc1],by simp only[Ba,bulkL,GY]at b1 b7⊢;omega,trivial⟩
theorem YS(h:Rd Tryz.prog n 35 d):∃x:Ers,AG d=Cy x/\Iq x<=Ba d/\True:=by obtain⟨parts,m,hm,rfl,hp⟩:=h.struct Tryz.underlying35;obtain⟨d1,r1,rfl,h1,hp⟩:=KM.cons hp;obtain⟨d2,r2,rfl,h2,hp⟩:=KM.cons hp;obtain⟨d3,r3,rfl,h3,hp⟩:=KM.cons hp;obtain⟨d4,r4,rfl,h4,hp⟩:=KM.cons hp;obtain rfl:=KM.nil hp;obtain⟨a1,rfl,_⟩:=h1.int (k:=.i64) (by kernel_rfl);obtain⟨a2,rfl⟩:=h2.str (by kernel_rfl);obtain⟨a3,rfl⟩:=h3.str (by kernel_rfl);obtain⟨a4,e4,b4,_⟩:=TR h4;exact⟨⟨a1,a2,a3,a4⟩,by simp only[AG,flatA,e4,Cy,Zc3,Zft,Zc1],by simp only[Ba,bulkL,Iq]at b4⊢;omega,trivial⟩
theorem rD(h:Rd Tryz.prog n 52 d):∃x:Chg,AG d=AF x/\D5 x<=Ba d/\True:=by obtain⟨parts,m,hm,rfl,hp⟩:=h.struct Tryz.underlying52;obtain⟨d1,r1,rfl,h1,hp⟩:=KM.cons hp;obtain⟨d2,r2,rfl,h2,hp⟩:=KM.cons hp;obtain⟨d3,r3,rfl,h3,hp⟩:=KM.cons hp;obtain⟨d4,r4,rfl,h4,hp⟩:=KM.cons hp;obtain rfl:=KM.nil hp;obtain⟨a1,rfl,_⟩:=h1.int (k:=.i64) (by kernel_rfl);obtain⟨a2,e2,b2,_⟩:=rp h2;obtain⟨a3,e3,b3,_⟩:=rq h3;obtain⟨a4,rfl⟩:=h4.str (by kernel_rfl);exact⟨⟨a1,a2,a3,a4⟩,by simp only[AG,flatA,e2,e3,AF,Zc0,Zc3,Zft,Zc1],by simp only[Ba,bulkL,D5]at b2 b3⊢;omega,trivial⟩
theorem rE(h:Rd Tryz.prog n 54 d):∃x:Ent,AG d=Ae x/\AB x<=Ba d/\True:=by obtain⟨parts,m,hm,rfl,hp⟩:=h.struct Tryz.underlying54;obtain⟨d1,r1,rfl,h1,hp⟩:=KM.cons hp;obtain⟨d2,r2,rfl,h2,hp⟩:=KM.cons hp;obtain⟨d3,r3,rfl,h3,hp⟩:=KM.cons hp;obtain⟨d4,r4,rfl,h4,hp⟩:=KM.cons hp;obtain⟨d5,r5,rfl,h5,hp⟩:=KM.cons hp;obtain⟨d6,r6,rfl,h6,hp⟩:=KM.cons hp;obtain rfl:=KM.nil hp;obtain⟨a1,rfl,_⟩:=h1.int (k:=.i64) (by kernel_rfl);obtain⟨a2,rfl,_⟩:=h2.int (k:=.i64) (by kernel_rfl);obtain⟨a3,rfl,_⟩:=h3.int (k:=.i64) (by kernel_rfl);obtain⟨a4,e4,b4,_⟩:=rB h4;obtain⟨a5,e5,b5,_⟩:=YS h5;obtain⟨a6,e6,b6,_⟩:=rD h6;exact⟨⟨a1,a2,a3,a4,a5,a6⟩,by simp only[AG,flatA,e4,e5,e6,Ae,Zc0,Zc3,Zft,Zc1],by simp only[Ba,bulkL,AB]at b4 b5 b6⊢;omega,trivial⟩
theorem O8(h:Rd Tryz.prog n 22 d):∃xs:List Ent,AG d=[.sl (xs.map Ae)]/\Ag AB xs+1<=Ba d/\∀x∈xs,True:=
 h.list (f:=Ae) (b:=AB) (bs:=Ag AB) rfl (fun _ _=>rfl) Tryz.underlying22 fun m y _ hy=>rE hy
end
end
section
theorem rF:∀(m:Nat) (x:Xpr) (inside:Bool),bX x<=m->bX x<=1073741824->Is mx 213 [.agg (eE x),.bool inside] (.bool (HG x inside)):=by
 intro m
 induction m with
 |zero=>intro x inside h;have:=HE x;omega
 |succ m ih=>
  intro x inside hm hu;have hu:=Im x;have je:=LC x;refine MX nK ?_;refine Od ?_;refine cutS [2,5] (by simp only[V0,JK,reduceIte,Nat.reduceEqDiff];rfl) [(1,.i (.bool (inside||decide (x.kind=5)))),(6,.i (iI (Jj x.kind)))] [(5,.cells ((eE (F7 x)).map .i))] (In x inside=true) ?_ (fun h1=>?_)
  ·(repeat' first|exact Ao _|simp(disch:=omega)only[go_sem,simprocAttr,GLe]|refine' Av (fun hq=>?_) (fun f=>?_)<;>try(have jd:=hq;try simp only[HB]at jd)|refine Sx.s ?_ ?_<;>try(intro h;have h':=h;try simp only[HB]at h';try rewrite [h];try simp only[h])|refine Ab (TO _) ?_|refine Ab (QR ⟨x.val.kind,x.unit,x.name⟩ (by show x.unit.length<=_;omega)) ?_|refine Ab (Fz _) ?_|refine Ab (qX _ _ (by decide)) ?_|refine Ac ?_|refine Au ?_|refine Sz.s ?_|(refine And.intro ?_ ?_;focus omega))
   all_goals first
    |(rw[LF];have e:In x inside=false:=by simp only[In,QS,QT,O4,Bm,O2,O3,Jk,GX];grind
      rw[e];rfl)
    |(and_intros<;>first
      |rfl
      |(simp only[In,QS,QT,O4,Bm,O2,O3,Jk,GX];grind)
      |(simp_all[Jj,F7,HD,Xpr.kind,Xpr.op,Xpr.name,Xpr.table,Xpr.val,Xpr.unit,Xpr.param,Xpr.win,Xpr.args];done))
  refine EV @YJ (cj ?_ ?_)
  ·intro _ _;refine Zae I.bool ?_;rw[LF,h1,LD];grind
  ·intro h h';have hb:LD x=true:=by rw[LD];grind
   have hl:(x.args.length:Int)=Jj x.kind:=by grind
   refine lS [1,2,186,187] (fun i=>[(188,.i (iI i))]) (fun _=>[]) (fun i=>properXs (x.args.take i) (inside||decide (x.kind=5))=true) x.args.length ?_ rfl;intro i hi jb;by_cases ja:i<x.args.length
   ·have kw:=At ja;have hba:=Fa kw;have i1:=ih (x.args.getD i default) (inside||decide (x.kind=5)) (by omega) (by omega);refine Ka (cj i1 (BV ja)) (cj ?_ ?_)
    ·intro _ _;refine Zae I.bool ?_;rw[LF,QU];have:(x.args.all fun y=>HG y (inside||decide (x.kind=5)))=false:=by grind
     rw[this];simp
    ·intro h h';rw[QU]at jb⊢;exact BW (d:=default) jb ja h'
   ·have e:i=x.args.length:=by omega
    rw[e,Zgd]at jb;refine EV (Hi ja) (cj ?_ ?_)
    ·intro h h';have hk:x.kind=5:=h'.2;have hl2:x.args.length=2:=by grind[Jj]
     have qy:=Im (x.args.getD 0 default);have hba:=Fa (At (l:=x.args) (n:=0) (by omega));have jy:=YJ (mx:=mx) (x.args.getD 0 default) Fc (by omega);have e1:eE Fc=[.int .i64 1,.str [],.str [],.str [],.int .i64 1,.int .i64 1,.str [],.sl [],.int .i64 0,.int .i64 0,.int .i64 0,.sl []]:=by rfl
     rw[e1]at jy;refine Ka jy ?_;refine Zae I.bool ?_;rw[LF,h1,hb,jb];simp[hl,HF,h']
    ·intro _ _;refine Zae I.bool ?_;rw[LF,h1,hb,jb];simp only[hl,HF];grind
theorem TS(x:Xpr)(hx:bX x<=1073741824):Is mx 164 [.agg (eE x)] (iI (Io x)):=by
 have hs:=M7 x;refine MX oJ ?_
 (repeat' first|exact Ao _|simp(disch:=omega)only[go_sem,simprocAttr]|refine' Av (fun hq=>?_) (fun f=>?_)<;>try(have jd:=hq;try simp only[HB]at jd)|refine Sx.s ?_ ?_<;>try(intro h;have h':=h;try simp only[HB]at h';try rewrite [h];try simp only[h])|refine Ab (rd _ _ (Zgu _) (by omega)) ?_|refine Ab (rh _ _ (Zgu _) (by omega)) ?_|refine Ab (rF _ _ _ (Zgu _) (by omega)) ?_|refine Ac ?_|refine Sz.s ?_|fail)
 all_goals(refine Zae (I.int .i64) ?_;simp only[Io];grind)
end
section
theorem M8(x:Int):IntKind.u64.wrap x=x%18446744073709551616:=by rfl
theorem YT(x:Int):IntKind.i64.wrap x=(x+9223372036854775808)%18446744073709551616-9223372036854775808:=by simp[IntKind.wrap,IntKind.signed,IntKind.bits];omega
abbrev iU(n:Int):I:=.int .u64 n
def CY(n:Int):List I:=[iI (n/18446744073709551616),iU (n%18446744073709551616)]
theorem YU(n:Int)(h:-9223372036854775808<=n/\n<=9223372036854775807):Is mx 341 [iI n] (.agg (CY n)):=by
 refine MX nc ?_;have e1:n.fdiv (2 ^ Nat.min 63 64)=n/18446744073709551616:=by grind
 have e2:=M8 n
 (repeat' first|simp only[go_sem,simprocAttr,shV,IntKind.bits,e1,e2,CY]|refine Sz.s ?_|fail)
 all_goals rfl
theorem YV{M:Mem}{x y z:I}{vs:Array Value}(h:Ak M [x,y,z] vs.toList):∃v u t,vs=#[v,u,t]/\Rep M x v/\Rep M y u/\Rep M z t:=by
 obtain⟨hl,hr⟩:=h;obtain⟨l⟩:=vs
 match l,hl with
 |[v,u,t],_=>exact⟨v,u,t,rfl,hr 0 (by simp) (by simp),hr 1 (by simp) (by simp),hr 2 (by simp) (by simp)⟩
theorem M9{M:Mem}{k:IntKind}{n:Int}{v:Value}(h:Rep M (.int k n) v):v=.int k n:=by cases h;rfl
theorem YW{M:Mem}{k k':IntKind}(a b:Int):Rep M (.tup [.int k a,.int k' b]) (.tuple #[.int k a,.int k' b]):=
 Rep.tup' (Ak.cons (.int _ _) (Ak.cons (.int _ _) (Ak.nil M)))
theorem rG(x y c:Int)(hx:0<=x)(hy:0<=y)(hc:0<=c/\c<=1):Is mx 346 [iU x,iU y,iU c] (.tup [iU ((x+y+c)%18446744073709551616),iU ((x+y+c)/18446744073709551616)]):=by
 refine XU fun M w vs h=>?_
 obtain⟨v,u,t,rfl,hv,hu,ht⟩:=YV h;rw[M9 hv,M9 hu,M9 ht];refine⟨_,YW _ _,?_⟩;rw[Za7 Tryz.func346 (by kernel_rfl) (by kernel_rfl) (by kernel_rfl) (e:=add64Entry) (by kernel_rfl),run_add64 x y c hx hy hc.1 hc.2];rfl
theorem rH(x y b:Int)(hx:0<=x)(hy:0<=y)(hb:0<=b/\b<=1)(hy2:y<18446744073709551616):Is mx 363 [iU x,iU y,iU b] (.tup [iU ((x-y-b)%18446744073709551616),iU (if x<y+b then 1 else 0)]):=by
 refine XU fun M w vs h=>?_
 obtain⟨v,u,t,rfl,hv,hu,ht⟩:=YV h;rw[M9 hv,M9 hu,M9 ht];refine⟨_,YW _ _,?_⟩;obtain⟨X,rfl⟩:=Zcj hx;obtain⟨Y,rfl⟩:=Zcj hy;obtain⟨B,rfl⟩:=Zcj hb.1;rw[Za7 Tryz.func363 (by kernel_rfl) (by kernel_rfl) (by kernel_rfl) (e:=sub64Entry) (by kernel_rfl),run_sub64 X Y B (by omega)];have e1:(((X+18446744073709551616-Y-B)%18446744073709551616:Nat):Int)=((X:Int)-Y-B)%18446744073709551616:=by omega
 have e2:((if X<Y+B then 1 else 0:Nat):Int)=if(X:Int)<Y+B then 1 else 0:=by grind
 simp_all
theorem rI(a b:Int)(ha:-42535295865117307932921825928971026432<=a/\a<=42535295865117307932921825928971026432)(hb:-42535295865117307932921825928971026432<=b/\b<=42535295865117307932921825928971026432):
  Is mx 340 [.agg (CY a),.agg (CY b)] (.agg (CY (a+b))):=by
 refine MX qM ?_;simp only[CY];refine EV (cj @rG @M8) ?_;simp only[YT,iI,I.agg.injEq,Zc2,I.int.injEq,Zav,Zau];omega
theorem rJ(a b:Int)(ha:-42535295865117307932921825928971026432<=a/\a<=42535295865117307932921825928971026432)(hb:-42535295865117307932921825928971026432<=b/\b<=42535295865117307932921825928971026432):
  Is mx 361 [.agg (CY a),.agg (CY b)] (.agg (CY (a-b))):=by
 refine MX qP ?_;simp only[CY];refine EV (cj @rH @M8) ?_;simp only[YT,iI,I.agg.injEq,Zc2,I.int.injEq,Zav,Zau];split<;>omega
theorem rK(a:Int)(ha:-42535295865117307932921825928971026432<=a/\a<=42535295865117307932921825928971026432):Is mx 352 [.agg (CY a)] (.agg (CY (-a))):=by refine MX py ?_;have h:=rJ (mx:=mx) 0 a (by omega) ha;rw[show(0:Int)-a=-a by omega]at h;simp only[CY,Int.zero_ediv,Int.zero_emod]at h⊢;exact EV h trivial
def Cg(n:Int):Int:=if n<0 then-n else n
theorem YX(a:Int)(ha:-42535295865117307932921825928971026432<=a/\a<=42535295865117307932921825928971026432):Is mx 347 [.agg (CY a)] (.agg [iU (Cg a%18446744073709551616),iU (Cg a/18446744073709551616)]):=by
 refine MX ol ?_;have hN:=rK (mx:=mx) a ha;simp only[CY]at hN⊢
 (repeat' first|simp only[go_sem,simprocAttr,M8]|refine Sx.s ?_ ?_<;>try(intro h;have h':=h;try simp only[HB]at h';try rewrite [h];try simp only[h])|refine Ab (hN) ?_|refine Ac ?_|refine Sz.s ?_|fail)
 all_goals
  simp only[I.agg.injEq,Zc2,I.int.injEq,Zav,Zau,Cg]
  (try split)<;>omega
theorem rL(lo y:Int)(hl:0<=lo/\lo<18446744073709551616)(hy:0<y/\y<18446744073709551616):Is mx 348 [iU 0,iU lo,iU y] (.tup [iU (lo/y),iU (lo%y)]):=by
 refine MX px ?_;have e1:decide (y=0)=false:=by simp;omega
 have e2:decide (y<=0)=false:=by simp;omega
 have e3:y≠0:=by omega
 have e4:lo.tdiv y=lo/y:=by grind
 have e5:lo.tmod y=lo%y:=by grind
 have e6:IntKind.u64.wrap (lo/y)=lo/y:=by rw[M8];have h1:=Int.ediv_nonneg hl.1 (Int.le_of_lt hy.1);have h2:=Int.ediv_le_self y hl.1;omega
 exact A8 (cj e2 (cj e3 (cj e4 (cj e5 e6)))) trivial
theorem YY(a:Int)(ha:-42535295865117307932921825928971026432<=a/\a<=42535295865117307932921825928971026432):
  Is mx 343 [.agg (CY a),iI 1] (.tup [iI (if Cg a<=1152921504606846976 then a else 0),.bool (decide (Cg a<=1152921504606846976))]):=by
 refine MX pw ?_;have hS:=YX (mx:=mx) a ha;have hS1:=YX (mx:=mx) 1 (by omega);have hO:=YU (mx:=mx) 1 (by omega);have hab:0<=Cg a:=by grind[Cg]
 have hab2:Cg a<=42535295865117307932921825928971026432:=by grind[Cg]
 simp only[CY,show Cg 1=1 from rfl,Int.reduceMod,Int.reduceDiv]at hS hS1 hO⊢;by_cases hb:Cg a/18446744073709551616=0
 ·have e1:Cg a%18446744073709551616=Cg a:=by omega
  have hD:=rL (mx:=mx) (Cg a%18446744073709551616) 1 (by omega) (by omega);rw[e1]at hD hS;simp only[Int.ediv_one,Int.emod_one,hb]at hD hS;have d1:(1:Int)<=0↔False:=by simp
  have hq:a/18446744073709551616<0↔a<0:=by omega
  refine EV (cj hS (cj hO (cj hS1 (cj hD (cj @M8 d1))))) (cj ?_ (cj ?_ ?_))
  ·intro _ _;have:¬Cg a<=1152921504606846976:=by omega
   simp[this]
  ·intro _ _ _ _;have:a<0:=by grind
   have e2:Cg a=-a:=by grind[Cg]
   have e3:Cg a<=1152921504606846976:=by omega
   simp only[e3,Zad,Za1];rw[e2];try simp
  ·intro _ _ _ _;have:¬a<0:=by grind
   have e2:Cg a=a:=by grind[Cg]
   have e3:Cg a<=1152921504606846976:=by omega
   simp only[e3,Zad,Za1];rw[e2];try simp
 ·have jy:decide (1<=Cg a/18446744073709551616)=true:=by simp;omega
  refine EV (cj hS (cj hO (cj hS1 jy))) ?_;have:¬Cg a<=1152921504606846976:=by omega
  simp[this]
end
section
open Go.Sort Go.RowKit in
theorem rM(e:Nat)(ss:List AQ)(hl:ss.length<4611686018427387904):
  MC Tryz.prog (Mi mx) 221 [.ref (.sl 5000 1 0 ss.length)] [(5000,.rows e 1 (ss.map fun s=>[.str s]))] []
   (fun r s=>r=.i (.tup [])/\s=[(5000,.rows e 1 ((ss.mergeSort fun x y=>decide (x<=y)).map fun s=>[.str s]))]):=by
 delta MC
 intro M μ w vs h1 h2 h3;obtain⟨v,rfl,hN,a,cap,hμ,_,km,hv⟩:∃v,vs=#[v]/\names [(5000,Blk.rows e 1 (ss.map fun s=>[.str s]))] 5000/\Of (μ 5000) 1 0 ss.length v:=by
  obtain⟨l⟩:=vs;obtain⟨hl1,hr⟩:=h3
  match l,hl1 with
  |[v],_=>exact⟨v,rfl,hr 0 (by simp) (by simp)⟩
 have ku:Ck Tryz.prog 221=true:=by kernel_rfl
 by_cases h0:ss=[]
 ·obtain⟨p,c,hvv⟩:∃p c,v=.slice p 0 c:=by
   subst h0;rcases hv with⟨_,a',e⟩|⟨b,o,_,e⟩
   ·exact⟨_,_,e⟩
   ·exact⟨_,_,e⟩
  subst hvv;refine .inl ⟨ku,(Tryz.slices_Sort_string_none p c w).mono ?_⟩;rintro e' w' ⟨rfl,rfl⟩;refine⟨_,rfl,.i (.tup []),_,M,μ,⟨rfl,rfl⟩,?_,AJ (Rep.tup' (Ak.nil M)),MExt.refl _ _,Keeps.refl _ _,fun _ _ _=>rfl⟩;subst h0;simpa using h1
 have ju:0<ss.length:=by cases ss;exact(h0 rfl).elim;simp
 rcases hv with⟨rfl,a',rfl⟩|⟨b,o,rfl,rfl⟩
 ·omega
 obtain⟨a1,cap1,e1,hb⟩:=h1.blk 5000 _ rfl;rw[hμ]at e1;injection e1 with e1 e2 e3
 subst e1;subst e3;rcases hb with⟨wh,_⟩|⟨b1,o1,cur,e1,hcp,ho,hm,j0,hln,hk,js⟩
 ·omega
 injection e1 with e1;injection e1 with e1 e2
 subst e1;subst e2;have hbk:An (μ 5000)=some b:=by rw[hμ];simp only[An];rw[Zac (by omega)]
 have j6:∀j (hj:j<ss.length),cur[o+j]? =some (encStr ss[j]):=fun j hj=>by obtain⟨v,hv,hr⟩:=js j (by simpa using hj) 0 (by simp);simp only[Zee,Zed,Nat.mul_one,Zgn]at hv hr;rw[hv,TK hr]
 have hH:Holds encStr w b o ss.toArray:=fun j hj=>by
  have jp:j<ss.length:=by simpa using hj
  refine⟨?_,?_⟩
  ·simp only[World.cell?,ho.heap];rw[j6 j jp];simp[jp]
  ·simp[World.frozen?,ho.heap]
 have jn:=ho.lt;simp only[Zhb,Zgn,Zg6];refine .inl ⟨ku,(Tryz.slices_Sort_string b o cap ss w hH jn hl).mono ?_⟩;rintro e' w' ⟨rfl,n,os,rfl⟩;generalize hS:(ss.mergeSort fun x y=>decide (x<=y))=so;have hso:so.length=ss.length:=by rw[<-hS];exact Zet _
 have k7:∀k,k≠b->k<w.heap.size->(grow (putRow encStr (Sort.ahead w n) b o so.toArray) os).heap[k]? =w.heap[k]? :=fun k hk wj=>by rw[heap_grow_old _ _ (by rw[size_putRow];exact wj)];simp only[putRow,mapBlock,Sort.ahead,Zbl];rw[Zac (fun e=>hk e.symm)]
 have hself:(grow (putRow encStr (Sort.ahead w n) b o so.toArray) os).heap[b]? =some (.cells (putCells encStr o so.toArray cur) e (0,0)):=by rw[heap_grow_old _ _ (by rw[size_putRow];exact jn)];simp only[putRow,mapBlock,Sort.ahead,Zbl,Zad];rw[ho.heap];rfl
 have qu:AP (AL μ [(5000,Blk.rows e 1 (ss.map fun s=>[.str s]))] w) M μ (names (B7 [(5000,Blk.rows e 1 (ss.map fun s=>[.str s]))] 5000 (.rows e 1 (so.map fun s=>[.str s])))) (grow (putRow encStr (Sort.ahead w n) b o so.toArray) os) 5000 (.rows e 1 (so.map fun s=>[.str s])):=by
  refine⟨some ⟨b,o,none⟩,cap,hμ,.inr ⟨b,o,putCells encStr o so.toArray cur,rfl,hcp,⟨ho.low,hself,ho.unk⟩,hm,?_,?_,?_,?_⟩⟩
  ·simp[putCells,j0]
  ·simpa[hso]using km
  ·intro r hr;obtain⟨s,_,rfl⟩:=Zfh.1 hr;rfl
  ·intro i hi j hj;have ja:i<so.length:=by simpa using hi
   have jp:j=0:=by simp at hj;omega
   subst jp;refine⟨encStr so[i],?_,?_⟩
   ·simp only[putCells,Nat.mul_one,Zgn,Zbk];rw[j6 i (by omega)];simp[ja]
   ·simp only[Zee,Zed];exact Rep.str _
 refine⟨_,rfl,.i (.tup []),[(5000,.rows e 1 (so.map fun s=>[.str s]))],M,μ,⟨rfl,rfl⟩,?_,AJ (Rep.tup' (Ak.nil M)),MExt.refl _ _,⟨rfl,rfl,rfl,?_,fun k hk=>k7 k ?_ hk.1,?_⟩,fun _ _ _=>rfl⟩
 ·exact h1.setBlk (nm:=5000) (blk':=.rows e 1 (so.map fun s=>[.str s])) rfl hbk (by rw[size_grow,size_putRow];exact Zgq _ _) k7 qu
 ·rw[size_grow,size_putRow];exact Zgq _ _
 ·intro e';subst e';exact hk.2 5000 (by simp[names,Aa]) hbk
 ·exact Zgq w.drawn n
theorem QW(nm e:Nat)(ss:List AQ)(hn:nm<5000)(hl:ss.length<4611686018427387904):
  MC Tryz.prog (Mi mx) 221 [.ref (.sl nm 1 0 ss.length)] [(nm,.rows e 1 (ss.map fun s=>[.str s]))] []
   (fun r s=>r=.i (.tup [])/\s=[(nm,.rows e 1 ((ss.mergeSort fun x y=>decide (x<=y)).map fun s=>[.str s]))]):=by
 have e1:KN [(5000,nm)] 5000=nm:=by rfl
 have h:=(MC.as [(5000,nm)] (rM (mx:=mx) e ss hl)).mono (R':=fun r s=>r=.i (.tup [])/\s=[(nm,.rows e 1 ((ss.mergeSort fun x y=>decide (x<=y)).map fun s=>[.str s]))]) (by
  rintro r s ⟨h1,h2⟩;have k:=DX (f:=IM [(5000,nm)]) (g:=KN [(5000,nm)]) (BQ _) r;have k2:=E2 (f:=IM [(5000,nm)]) (g:=KN [(5000,nm)]) (BQ _) s;rw[h1]at k;rw[h2]at k2;refine⟨k.symm,?_⟩;rw[<-k2];simp only[IL,KL,e1])
 simp only[Ze1,Ze5,I8,OF,IL,KL,e1]at h;exact h
end
section
def Cr(l:List AQ):List AQ:=l.mergeSort fun x y=>decide (x<=y)
def O9(p:AQ×I):I×I:=(.str p.1,p.2)
abbrev Fd(s:AQ):List I:=[.str s]
theorem rN(a b:AQ):(decide (a<=b)||decide (b<=a))=true:=by grind
theorem rO(a b c:AQ)(h:decide (a<=b)=true)(k:decide (b<=c)=true):decide (a<=c)=true:=by grind
theorem TT(l:List AQ):(Cr l).Pairwise (·<=·):=by have:=Zf2 (le:=fun x y:AQ=>decide (x<=y)) rO rN l;exact this.imp fun h=>by simpa using h
theorem Pa{α:Type}{l:List α}{q:Nat}(h:q<l.length):(l[q]::l.eraseIdx q).Perm l:=by
 induction l generalizing q with
 |nil=>simp at h
 |cons a l ih=>cases q with
  |zero=>simp
  |succ q=>
   have h':q<l.length:=by simpa using h
   simp only[Zec,List.eraseIdx_cons_succ];exact(List.Perm.swap a l[q] _).trans ((ih h').cons a)
theorem YZ{a b:List AQ}(h:a.Perm b):Cr a=Cr b:=by have hp:(Cr a).Perm (Cr b):=((Zfr a _).trans h).trans (Zfr b _).symm;exact hp.eq_of_pairwise (fun x y _ _ h1 h2=>List.le_antisymm h1 h2) (TT a) (TT b)
theorem rQ(l:List (AQ×I))(hl:l.length<=1073741824):
  Is mx 342 [.map (l.map O9)] (.sl ((Cr (l.map (·.1))).map Fd)):=by
 refine MX oj ?_;refine Od ?_;refine lT [6] (fun g:List AQ×List (AQ×I)×Option (I×I)=>[(3,.ref (.sl 3 1 0 g.1.length))]) (fun g=>[(6,.iter g.2.2 (g.2.1.map O9)),(3,.rows 9 1 (g.1.map Fd))]) (fun g=>(g.1++g.2.1.map (·.1)).Perm (l.map (·.1))) (fun g=>g.2.1.length) ([],l,none) ?_;rintro⟨acc,rest,cur⟩ jb;have je:=jb.length_eq;simp only[Zel,Zes]at je
 (repeat' first|simp(disch:=omega)only[go_sem,simprocAttr,O9,Zg6]|(first|refine D2 (QW 3 9 acc (by omega) (by omega)) ?_ (fun r sto' hR=>?_)|refine Dg (QW 3 9 acc (by omega) (by omega)) ?_ (fun r sto' hR=>?_);(focus(first|rfl|(simp only[go_sem,simprocAttr,O9,Zg6];done)));first|(obtain⟨rfl,rfl⟩:=hR)|(obtain⟨_,(rfl|rfl),rfl,rfl⟩:=hR))|refine Ac ?_|refine Sz.s ?_|refine Ih (fun hr=>?_) (fun q hq=>?_)|fail)
 ·subst hr;have hms:(acc.mergeSort fun x y=>decide (x<=y)).length=acc.length:=Zet _;have e1:List.take acc.length (List.map (fun s=>[I.str s]) (acc.mergeSort fun x y=>decide (x<=y)))=List.map (fun s=>[I.str s]) (acc.mergeSort fun x y=>decide (x<=y)):=by rw[Zgf];rw[Zes,hms];exact Zgu _
  rw[Zaa (by rw[hms];exact Zgu _),e1];refine⟨Zae D.i (Zae I.sl ?_),rfl⟩;have hp:acc.Perm (l.map (·.1)):=by grind
  have:Cr (l.map (·.1))=Cr acc:=(YZ hp).symm;rw[this];rfl
 ·refine⟨by simp,by simp[I.one],by omega,by omega,⟨acc++[rest[q].1],rest.eraseIdx q,some (O9 rest[q])⟩,?_,?_,by simp,rfl,?_⟩
  ·refine List.Perm.trans ?_ jb;have:=(Pa hq).map (fun x:AQ×I=>x.1);simp only[Ze1]at this;rw[Zc0];exact Zcr acc this
  ·rw[Zep];simp[hq];omega
  ·simp
end
section
def Na(p:AQ×Int):I×I:=(.str p.1,.agg (CY p.2))
def Ej:List Fac->List (AQ×Int)->List (AQ×Int)
 |[],m=>m
 |f::r,m=>Ej r (AM m f.name ((Al m f.name).getD 0+f.exp))
def HH(l:List Fac):Bool:=l.all fun f=>BX f.name
def FE(n:Int):Bool:=decide (n>8\/n< -8)
def Ga(m:List (AQ×Int)):List AQ->List Fac->List Fac×Int
 |[],u=>if 4<u.length then([],2)else(u,0)
 |s::r,u=>
  let n:=(Al m s).getD 0
  if(!decide (Cg n<=1152921504606846976)||FE n)=true then([],70)
  else if n≠0 then Ga m r (u++[⟨s,n⟩])else Ga m r u
def HI(l:List Fac):List Fac×Int:=
 if HH l=true then Ga (Ej l []) (Cr ((Ej l []).map (·.1))) []else([],1)
def fe(r:List Fac×Int):I:=.tup [.sl (r.1.map Ax),iI r.2]
theorem TU(m:List (AQ×Int))(k:AQ):CF (m.map Na) (.str k) (.agg [.int .i64 0,.int .u64 0]) false=.agg (CY ((Al m k).getD 0)):=by exact MY (f:=fun n=>I.agg (CY n)) Jd m k 0
theorem rS(m:List (AQ×Int))(k:AQ)(v:Int):DV (m.map Na) (.str k) (.agg (CY v))=(AM m k v).map Na:=MW (f:=fun n=>I.agg (CY n)) Jd m k v
def TV(m:List (AQ×Int))(b:Int):Prop:=∀p∈m,-b<=p.2/\p.2<=b
theorem Y0{m:List (AQ×Int)}{b:Int}(h:TV m b)(hb:0<=b)(k:AQ):-b<=(Al m k).getD 0/\(Al m k).getD 0<=b:=by
 cases e:Al m k with
 |none=>simp;omega
 |some v=>exact h _ (aget_mem e)
theorem Y1(m:List (AQ×Int)):(∀e∈m.map Na,Ay [.s] e.1=true)=True:=by refine Za8 ?_;intro e he;obtain⟨p,_,rfl⟩:=Zfh.1 he;rfl
theorem rT(l:List Fac)(hl:l.length<=1073741824)(hx:∀f∈l,-9223372036854775808<=f.exp/\f.exp<=9223372036854775807):Is mx 337 [.sl (l.map Ax)] (fe (HI l)):=by
 refine MX m9 ?_;refine Od ?_;refine lT [4,12,13] (fun g:Nat×List (AQ×Int)=>[(2,.ref (.sl 2 2 0 0)),(14,.i (iI g.1))]) (fun g=>[(11,.map [.s] (g.2.map Na)),(2,.rows 239 2 [])]) (fun g=>g.1<=l.length/\HH (l.take g.1)=true/\Ej (l.drop g.1) g.2=Ej l []/\TV g.2 (g.1*9223372036854775808)/\g.2.length<=g.1) (fun g=>l.length-g.1) (0,[]) ?_ (by simp[HH,TV]);rintro⟨i,m⟩ ⟨hi,hw,hs,hb,qr⟩;simp only at hi hw hs hb qr;by_cases ja:i<l.length
 ·have kw:=At ja;have hx1:=hx _ kw;have hg:=Y0 hb (by omega) (l.getD i default).name;refine EV (cj @YG (cj @YU (cj @rI (cj (BV ja) (cj @TU @rS))))) (cj ?_ ?_)
  ·intro _ _;have:HH l=false:=by grind[HH]
   simp[HI,this,fe]
  ·intro h h';refine⟨(i+1,_),⟨by omega,?_,?_,?_,?_⟩,by show l.length-(i+1)<l.length-i;omega,rfl,rfl⟩
   ·exact BW (d:=default) hw ja h'
   ·rw[<-hs,Zc8 ja,<-AK ja];rfl
   ·intro p hp;rcases lN _ _ _ p hp with e|e
    ·subst e;simp only;push_cast;omega
    ·have:=hb p e;push_cast;omega
   ·have:=aput_len m (l.getD i default).name ((Al m (l.getD i default).name).getD 0+(l.getD i default).exp);show List.length (AM _ _ _)<=i+1;omega
 ·have e:i=l.length:=by omega
  subst e;rw[Zgd]at hw;rw[Zdb]at hs;simp only[Ej]at hs;have hN:HI l=Ga m (Cr (m.map (·.1))) []:=by grind[HI]
  have qq:Is mx 342 [.map (m.map Na)] (.sl ((Cr (m.map (·.1))).map Fd)):=by have:=rQ (mx:=mx) (m.map fun p=>(p.1,I.agg (CY p.2))) (by simp;omega);rw[Ze4,Ze4]at this;exact this
  generalize hns:Cr (m.map (·.1))=ns at hN qq;have hnl:ns.length<=1073741824:=by rw[<-hns];simp only[Cr,Zet,Zes];omega
  refine EV (cj qq (Hi ja)) ?_;refine lT [4,35,36] (fun g:Nat×List Fac=>[(2,.ref (.sl 2 2 0 g.2.length)),(37,.i (iI g.1))]) (fun g=>[(2,.rows 239 2 (g.2.map Ax))]) (fun g=>g.1<=ns.length/\Ga m (ns.drop g.1) g.2=HI l/\g.2.length<=g.1) (fun g=>ns.length-g.1) (0,[]) ?_ (by simp[hN]);rintro⟨i,u⟩ ⟨hi,we,qg⟩;simp only at hi we qg;by_cases jx:i<ns.length
  ·have hg:=Y0 hb (by omega) (ns.getD i default);rw[Zc8 jx,<-AK jx]at we;simp only[Ga]at we;generalize hn:(Al m (ns.getD i default)).getD 0=n at we hg;by_cases hn8:Cg n<=1152921504606846976
   ·simp only[hn8,Za1,Zb9,Zb5]at we;refine AU (cj @YY (cj @YB (cj (BV jx) (cj @TU (cj @Y1 (cj hn hn8)))))) (cj ?_ (cj ?_ ?_))
    ·intro h h';rw[Zaa (by simp only[FE];exact h)]at we;rw[<-we];rfl
    ·intro _ _ h h'
     skip
     have hf:FE n=false:=by grind[FE]
     rw[Zac (by rw[hf];simp),Zaa h']at we;refine⟨by simp,by simp[I.one],by omega,by omega,⟨i+1,u++[⟨ns.getD i default,n⟩]⟩,⟨by omega,we,by simp;omega⟩,by show ns.length-(i+1)<_;omega,⟨by simp,rfl⟩,?_⟩;simp[Ax]
    ·intro _ _ _ _;have hf:FE n=false:=by simp only[FE];grind
     rw[Zac (by rw[hf];simp),Zac (by omega)]at we;exact⟨⟨i+1,u⟩,⟨by omega,we,by show u.length<=i+1;omega⟩,by show ns.length-(i+1)<_;omega,⟨rfl,rfl⟩,rfl⟩
   ·simp only[hn8,Za2,Zb8,Zcf,Zad]at we;refine Kas (cj @YY (cj (BV jx) (cj @TU (cj @Y1 (cj hn hn8))))) ?_
    all_goals intros
    all_goals(rw[<-we];rfl)
  ·have e:i=ns.length:=by omega
   subst e;rw[Zdb]at we;simp only[Ga]at we;refine AU (Hi jx) (cj ?_ ?_)
   ·intro _ _;rw[Zaa (by omega)]at we;rw[<-we];rfl
   ·intro _ _;rw[Zac (by omega)]at we;rw[<-we];rfl
end
section
abbrev Mk:=AQ×AQ
abbrev Ir(w:Mk):I:=.agg [.str w.1,.str w.2]
theorem rU:Ly Ir:=fun a b=>by grind[A3,cellsI,Dr]
theorem QX:Ly (fun id:Fid=>I.agg (Am id)):=fun a b=>by obtain⟨a1,a2⟩:=a;obtain⟨b1,b2⟩:=b;grind[A3,cellsI,Dr,Am]
def VK(d kk:Nat):Nat->List (Mk×List (List I))->List (I×Nat×D)
 |_,[]=>[]
 |k,p::r=>(Ir p.1,k,.ref (.sl (Ar d k) kk 0 p.2.length))::VK d kk (k+1) r
def BK(d e kk:Nat):Nat->List (Mk×List (List I))->List (Nat×Blk)
 |_,[]=>[]
 |k,p::r=>(Ar d k,.rows e kk p.2)::BK d e kk (k+1) r
def Pb(r:Option Nat)(nm d:Nat)(ls:List LK)(clk:Nat)(es:List (I×Nat×D))(q zero:I)(e k:Nat)(st:St)(K:St->Prop):Prop:=match r with
 |some j=>I0 (es[j]?) j nm d ls clk es q st K
 |none=>IZ (Aa st.sto (Ar d clk)) nm d ls clk es q zero e k st K
@[congr] theorem aIk{r r':Option Nat}{nm d:Nat}{ls:List LK}{clk:Nat}{es:List (I×Nat×D)}{q z:I}{e k:Nat}{st:St}{K:St->Prop}(h:r=r'):Pb r nm d ls clk es q z e k st K=Pb r' nm d ls clk es q z e k st K:=by rw[h]
@[congr] theorem aIl{r r':Option (I×Nat×D)}{j nm d:Nat}{ls:List LK}{clk:Nat}{es:List (I×Nat×D)}{q:I}{st:St}{K:St->Prop}(h:r=r'):I0 r j nm d ls clk es q st K=I0 r' j nm d ls clk es q st K:=by rw[h]
@[congr] theorem aIm{r r':Option Blk}{nm d:Nat}{ls:List LK}{clk:Nat}{es:List (I×Nat×D)}{q z:I}{e k:Nat}{st:St}{K:St->Prop}(h:r=r'):IZ r nm d ls clk es q z e k st K=IZ r' nm d ls clk es q z e k st K:=by rw[h]
def Ko:List (Mk×List (List I))->Mk->List I->List (Mk×List (List I))
 |[],w,x=>[(w,[x])]
 |p::r,w,x=>if p.1=w then(w,p.2++[x])::r else p::Ko r w x
@[go_sem] theorem aIn(d:Nat)(ls:List LK)(st:St)(K:St->Prop):K9 none d ls st K=K ((st.bind d (.gmap ls 0 [])).put d (.ref (.mp d))):=rfl
@[go_sem] theorem aIo(nm:Nat)(q z:I)(ok:Bool)(ls:List LK)(d:Nat)(st:St)(K:St->Prop):IX (.ref (.mp nm)) (.i q) z ok ls d st K=(Ay ls q=true/\IW (Aa st.sto nm) ls q z ok d st K):=rfl
@[go_sem] theorem aIp(ls':List LK)(clk:Nat)(es:List (I×Nat×D))(ls:List LK)(q z:I)(ok:Bool)(d:Nat)(st:St)(K:St->Prop):IW (some (.gmap ls' clk es)) ls q z ok d st K=(ls'=ls/\ED ok (Fs es q) z d st K):=rfl
@[go_sem] theorem aIq(v:D)(z:I)(d:Nat)(st:St)(K:St->Prop):ED false (some v) z d st K=K (st.put d v):=rfl
@[go_sem] theorem aIr(z:I)(d:Nat)(st:St)(K:St->Prop):ED false none z d st K=K (st.put d (.i z)):=rfl
@[go_sem] theorem aIs(nm:Nat)(q z:I)(ls:List LK)(e k d:Nat)(st:St)(K:St->Prop):JW (.ref (.mp nm)) (.i q) z ls e k d st K=(Ay ls q=true/\JV (Aa st.sto nm) nm d ls q z e k st K):=rfl
@[go_sem] theorem aIt(ls':List LK)(clk:Nat)(es:List (I×Nat×D))(nm d:Nat)(ls:List LK)(q z:I)(e k:Nat)(st:St)(K:St->Prop):JV (some (.gmap ls' clk es)) nm d ls q z e k st K=(ls'=ls/\Pb (Ec es q) nm d ls clk es q z e k st K):=rfl
@[go_sem] theorem aIu(j nm d:Nat)(ls:List LK)(clk:Nat)(es:List (I×Nat×D))(q z:I)(e k:Nat)(st:St)(K:St->Prop):Pb (some j) nm d ls clk es q z e k st K=I0 (es[j]?) j nm d ls clk es q st K:=rfl
@[go_sem] theorem aIv(nm d:Nat)(ls:List LK)(clk:Nat)(es:List (I×Nat×D))(q:I)(e k:Nat)(st:St)(K:St->Prop):Pb none nm d ls clk es q (.sl []) e k st K=IZ (Aa st.sto (Ar d clk)) nm d ls clk es q (.sl []) e k st K:=rfl
@[go_sem] theorem aIw(nm d:Nat)(ls:List LK)(clk:Nat)(es:List (I×Nat×D))(q:I)(e k:Nat)(st:St)(K:St->Prop):IZ none nm d ls clk es q (.sl []) e k st K=K (((st.bind (Ar d clk) (.rows e k [])).setB nm (.gmap ls (clk+1) (es++[(q,clk,.ref (.sl (Ar d clk) k 0 0))]))).put d (.tup [.ref (.sl (Ar d clk) k 0 0),.i (.int .i64 clk)])):=rfl
@[go_sem] theorem aIx(a:I)(c:Nat)(r:Ref)(j nm d:Nat)(ls:List LK)(clk:Nat)(es:List (I×Nat×D))(q:I)(st:St)(K:St->Prop):I0 (some (a,c,.ref r)) j nm d ls clk es q st K=K ((st.setB nm (.gmap ls clk (es.modify j fun e=>(q,e.2)))).put d (.tup [.ref r,.i (.int .i64 c)])):=rfl
@[go_sem] theorem aIy(nm:Nat)(q:IntKind)(s:Int)(v:D)(st:St)(K:St->Prop):Lc (.ref (.mp nm)) (.i (.int q s)) v st K=JX (Aa st.sto nm) nm s v st K:=rfl
@[go_sem] theorem aIz(ls:List LK)(clk:Nat)(es:List (I×Nat×D))(nm:Nat)(s:Int)(v:D)(st:St)(K:St->Prop):JX (some (.gmap ls clk es)) nm s v st K=((es.any fun e=>(e.2.1:Int)==s)=true/\K (st.setB nm (.gmap ls clk (es.map fun e=>if((e.2.1:Int)==s)=true then(e.1,e.2.1,v)else e)))):=rfl
@[go_sem] theorem aJ0(cs:List Cp)(i d:Nat)(st:St)(K:St->Prop):IT (.tup cs) i d st K=(i<cs.length/\K (st.put d (cs.getD i .any).toD)):=rfl
theorem Nb{d a b:Nat}:Ar d a=Ar d b↔a=b:=by simp[Ar]
@[go_sem] theorem aJ1{d c k:Nat}(h:k<7000):(Ar d c=k)=False:=by grind[Ar]
@[go_sem] theorem aJ2 {d c k:Nat}(h:k<7000):(k=Ar d c)=False:=by grind[Ar]
@[go_sem] theorem aJ3{d c:Nat}:(Nat.blt (Ar d c) 5000||Nat.ble 5500 (Ar d c))=true:=by unfold Ar;rw[Zcb,Zgo];right;omega
theorem Y2(d kk:Nat):∀(A:List (Mk×List (List I))) (k:Nat),(VK d kk k A).length=A.length
 |[],_=>rfl
 |p::r,k=>by simp[VK,Y2 d kk r]
theorem Pc(d kk:Nat):∀(A:List (Mk×List (List I))) (k j:Nat),(VK d kk k A)[j]? =(A[j]?).map fun p=>(Ir p.1,k+j,.ref (.sl (Ar d (k+j)) kk 0 p.2.length))
 |[],_,_=>rfl
 |p::r,k,0=>rfl
 |p::r,k,j+1=>by simp only[VK,Zd0,Pc d kk r (k+1) j];grind
theorem FF(d e kk:Nat):∀(A:List (Mk×List (List I))) (k j:Nat),Aa (BK d e kk k A) (Ar d (k+j))=(A[j]?).map fun p=>.rows e kk p.2
 |[],_,_=>rfl
 |p::r,k,0=>by simp[BK,Aa]
 |p::r,k,j+1=>by
  have h:¬Ar d k=Ar d (k+(j+1)):=by simp[Nb]
  simp only[BK,Aa,Zac h,Zd0];rw[show k+(j+1)=k+1+j from by omega,FF d e kk r (k+1) j]
theorem Y3(d e kk:Nat){m:Nat}(hm:m<7000):∀(A:List (Mk×List (List I))) (k:Nat),Aa (BK d e kk k A) m=none
 |[],_=>rfl
 |p::r,k=>by
  have h:¬Ar d k=m:=by grind[Ar]
  simp only[BK,Aa,Zac h,Y3 d e kk hm r]
@[go_sem] theorem aJ4(d e kk:Nat){m k:Nat}(A:List (Mk×List (List I)))(hm:m<7000):Aa (BK d e kk k A) m=none:=Y3 d e kk hm A k
@[go_sem] theorem rV(d e kk:Nat){m:Nat}(hm:m<7000):∀(A:List (Mk×List (List I))) (k:Nat),B6 (BK d e kk k A) m=BK d e kk k A
 |[],_=>rfl
 |p::r,k=>by
  have h:¬Ar d k=m:=by grind[Ar]
  simp only[BK,B6,Zac h,rV d e kk hm r]
@[go_sem] theorem rW(ls:List LK)(c:Nat):(Blk.gmap ls c []).nms=[]:=rfl
@[go_sem] theorem rX(d e kk:Nat){m:Nat}(b:Blk)(hm:m<7000):∀(A:List (Mk×List (List I))) (k:Nat),B7 (BK d e kk k A) m b=BK d e kk k A
 |[],_=>rfl
 |p::r,k=>by
  have h:¬Ar d k=m:=by grind[Ar]
  simp only[BK,B7,Zac h,rX d e kk b hm r]
theorem Y4(d e kk nm:Nat)(b:Blk):∀(A:List (Mk×List (List I))) (k:Nat),Sk nm b (BK d e kk k A)=BK d e kk k A
 |[],_=>rfl
 |p::r,k=>by simp only[BK,Sk,eW,Y4 d e kk nm b r]
theorem TW(d kk:Nat)(w:Mk):∀(A:List (Mk×List (List I))) (k:Nat),Ec (VK d kk k A) (Ir w)=A.findIdx? fun p=>decide (p.1=w)
 |[],_=>rfl
 |p::r,k=>by have ih:=TW d kk w r (k+1);simp only[Ec]at ih⊢;rw[VK,Zdn,Zdn,rU p.1 w,ih]
theorem rY{A:List (Mk×List (List I))}{w:Mk}{x:List I}(h:A.findIdx? (fun p=>decide (p.1=w))=none):Ko A w x=A++[(w,[x])]:=by
 induction A with
 |nil=>rfl
 |cons p r ih=>grind[Ko]
theorem rZ{A:List (Mk×List (List I))}{w:Mk}{x:List I}{j:Nat}(h:A.findIdx? (fun p=>decide (p.1=w))=some j):∃(hj:j<A.length),A[j].1=w/\Ko A w x=A.set j (w,A[j].2++[x]):=by
 induction A generalizing j with
 |nil=>simp at h
 |cons p r ih=>
  rw[Zdn]at h;by_cases e:p.1=w
  ·simp[e]at h;subst h;exact⟨by simp,e,by simp[Ko,e]⟩
  ·simp only[e,Za2,Zb4,Zag,Zhl]at h;obtain⟨q,hq,rfl⟩:=h;obtain⟨h1,h2,h3⟩:=ih hq;exact⟨by simpa using h1,by simpa using h2,by simp[Ko,Zac e,h3]⟩
theorem Y5(d kk:Nat)(q:Mk×List (List I)):∀(A:List (Mk×List (List I))) (k:Nat),VK d kk k (A++[q])=VK d kk k A++[(Ir q.1,k+A.length,.ref (.sl (Ar d (k+A.length)) kk 0 q.2.length))]
 |[],k=>rfl
 |p::r,k=>by simp only[Zc3,VK,Y5 d kk q r (k+1),Zem];rw[show k+1+r.length=k+(r.length+1)from by omega]
theorem Y6(d kk:Nat):∀(A:List (Mk×List (List I))) (k:Nat),(VK d kk k A).flatMap (fun e=>e.2.2.nms)=(List.range A.length).map fun j=>Ar d (k+j)
 |[],k=>rfl
 |p::r,k=>by have ih:=Y6 d kk r (k+1);simp only[VK,Zdp,Zem,List.range_succ_eq_map,Ze1,Ze4,Zgn]at ih⊢;rw[ih];refine Zae (Ar d k::·) (Ze0 fun j _=>?_);grind
theorem TX{nm m k lo hi:Nat}{b:Blk}(h:nm≠m):PZ nm b (.ref (.sl m k lo hi))=.ref (.sl m k lo hi):=by simp[PZ,VP,Ref.nm,Ne.symm h,Cp.toD]
theorem sd(d kk:Nat){A:List (Mk×List (List I))}{j:Nat}(hj:j<A.length)(w:Mk)(x:List I)(b:Blk):
  (((VK d kk 0 A).modify j (fun e=>(Ir w,e.2))).map (fun e=>(e.1,e.2.1,PZ (Ar d j) b e.2.2))).map (fun e=>if((e.2.1:Int)==(j:Int))=true then(e.1,e.2.1,D.ref (.sl (Ar d j) kk 0 (A[j].2.length+1)))else e)=VK d kk 0 (A.set j (w,A[j].2++[x])):=by
 apply Zdh;intro i;simp only[Zd5,List.getElem?_modify,Pc,Zd7,Zg8];by_cases h:j=i
 ·subst h;simp[hj]
 ·have h2:¬((i:Int)=(j:Int)):=by omega
  have h3:Ar d j≠Ar d i:=by grind[Nb]
  simp only[Zac h];cases A[i]? with
  |none=>rfl
  |some p=>simp[h2,TX h3]
theorem se(d kk:Nat)(A:List (Mk×List (List I)))(w:Mk)(x:List I)(b:Blk):
  ((VK d kk 0 A++[(Ir w,A.length,D.ref (.sl (Ar d A.length) kk 0 0))]).map (fun e=>(e.1,e.2.1,PZ (Ar d A.length) b e.2.2))).map (fun e=>if((e.2.1:Int)==(A.length:Int))=true then(e.1,e.2.1,D.ref (.sl (Ar d A.length) kk 0 1))else e)=VK d kk 0 (A++[(w,[x])]):=by
 rw[Y5];simp only[Zez,Ze4,Ze1,Ze5,Zg8];congr 1
 ·conv=>rhs;rw[<-Ze3 (VK d kk 0 A)]
  refine Ze0 fun e he=>?_
  obtain⟨i,hi,rfl⟩:=Zfg.1 he;have jx:i<A.length:=by grind[Y2]
  have e1:=Pc d kk A 0 i;rw[Zd2 hi,Zd2 jx,Zhn,Zhp,Zg8]at e1;have h2:¬((i:Int)=(A.length:Int)):=by omega
  have h3:Ar d A.length≠Ar d i:=by grind[Nb]
  rw[e1];simp[h2,TX h3]
 ·simp
@[go_sem] theorem aJ5(d kk:Nat){n:Nat}(b:Blk)(A:List (Mk×List (List I)))(k:Nat)(hn:n<7000):(VK d kk k A).map (fun e=>(e.1,e.2.1,PZ n b e.2.2))=VK d kk k A:=by
 induction A generalizing k with
 |nil=>rfl
 |cons p r ih=>grind[Ar,VK,TX]
theorem sf(d kk:Nat){A:List (Mk×List (List I))}{j:Nat}(hj:j<A.length)(q:I)(b:Blk):(((VK d kk 0 A).modify j (fun e=>(q,e.2))).map (fun e:I×Nat×D=>((e.1,e.2.1,PZ (Ar d j) b e.2.2):I×Nat×D))).any (fun e=>((e.2.1:Int)==(j:Int)))=true:=by
 rw[Zcz];have h1:(((VK d kk 0 A).modify j (fun e=>(q,e.2))).map (fun e:I×Nat×D=>((e.1,e.2.1,PZ (Ar d j) b e.2.2):I×Nat×D)))[j]? =some (q,j,PZ (Ar d j) b (.ref (.sl (Ar d j) kk 0 A[j].2.length))):=by simp_all[Pc]
 grind
theorem si(d kk:Nat)(A:List (Mk×List (List I)))(q:I)(b:Blk):(((VK d kk 0 A++[(q,A.length,D.ref (.sl (Ar d A.length) kk 0 0))]).map (fun e:I×Nat×D=>((e.1,e.2.1,PZ (Ar d A.length) b e.2.2):I×Nat×D))).any (fun e=>((e.2.1:Int)==(A.length:Int))))=true:=by simp
theorem Pd(d e kk:Nat){A:List (Mk×List (List I))}{j:Nat}(hj:j<A.length):Aa (BK d e kk 0 A) (Ar d j)=some (.rows e kk A[j].2):=by have:=FF d e kk A 0 j;grind
theorem sj(d e kk:Nat)(A:List (Mk×List (List I))):Aa (BK d e kk 0 A) (Ar d A.length)=none:=by have:=FF d e kk A 0 A.length;grind
theorem Y7(d kk:Nat){A:List (Mk×List (List I))}{j:Nat}(hj:j<A.length):(VK d kk 0 A)[j]? =some (Ir A[j].1,j,.ref (.sl (Ar d j) kk 0 A[j].2.length)):=by grind[Pc]
theorem sk(d kk:Nat){A:List (Mk×List (List I))}{q:I}{j:Nat}(h:Ec (VK d kk 0 A) q=some j)(hj:j<A.length):Fs (VK d kk 0 A) q=some (.ref (.sl (Ar d j) kk 0 A[j].2.length)):=by grind[Fs,Y7]
theorem sr{es:List (I×Nat×D)}{q:I}(h:Ec es q=none):Fs es q=none:=by grind[Fs]
@[go_sem] theorem aJ6{d c:Nat}:(decide (Ar d c<5000)||decide (5500<=Ar d c))=true:=by grind[Ar]
theorem su(d e kk:Nat){A:List (Mk×List (List I))}{q p:Mk×List (List I)}{j:Nat}{x:Option Blk}(hp:(A++[q])[j]? =some p)(hx:j<A.length->x=Aa (BK d e kk 0 A) (Ar d (0+j))):(if Ar d A.length=Ar d (0+j)then some (.rows e kk q.2)else x)=some (.rows e kk p.2):=by grind[Nb,Pd]
theorem sv(d e kk:Nat){A:List (Mk×List (List I))}{q p:Mk×List (List I)}{i j:Nat}{x:Option Blk}(hi:i<A.length)(hp:(A.set i q)[j]? =some p)(hx:j<A.length->x=Aa (BK d e kk 0 A) (Ar d (0+j))):(if Ar d (0+j)=Ar d i then some (.rows e kk q.2)else x)=some (.rows e kk p.2):=by grind[Nb,Pd]
theorem sx{α:Type}{A:List (Mk×α)}{w:Mk}(h:A.findIdx? (fun p=>decide (p.1=w))=none):Al A w=none:=by
 induction A with
 |nil=>rfl
 |cons p r ih=>grind[Al]
theorem aget_some{α:Type}{A:List (Mk×α)}{w:Mk}{j:Nat}(h:A.findIdx? (fun p=>decide (p.1=w))=some j):∃(hj:j<A.length),Al A w=some A[j].2:=by
 induction A generalizing j with
 |nil=>simp at h
 |cons p r ih=>
  rw[Zdn]at h;by_cases e:p.1=w
  ·simp[e]at h;subst h;exact⟨by simp,by simp[Al,e]⟩
  ·simp only[e,Za2,Zb4,Zag,Zhl]at h;obtain⟨q,hq,rfl⟩:=h;obtain⟨h1,h2⟩:=ih hq;exact⟨by simpa using h1,by simp[Al,Zac e,h2]⟩
end
end Go.Proofs.YtojgbkiejjingaaGreatDoor
section
namespace Go.Proofs
open Go.Shelf
def Tryz.sortFid_ren:Go.Shelf.Ren:=⟨fun|6=>54|15=>89|14=>90|28=>141|29=>142|20=>143|21=>144|22=>145|23=>146|24=>147|25=>148|26=>149|27=>150|46=>192|47=>188|48=>189|49=>193|50=>194|57=>242|n=>n,fun|22=>59|24=>30|25=>104|3=>3|39=>142|0=>0|53=>173|55=>175|4=>4|46=>166|45=>165|50=>170|5=>5|9=>9|66=>219|70=>223|76=>264|77=>265|n=>n,fun|n=>n⟩
theorem Tryz.sortFid:Go.Proofs.SlLaysF0.n6 Tryz.prog Tryz.sortFid_ren:={mixed:=by kernel_rfl,f6:=⟨Tryz.f54.name,by decide,Tryz.func54.trans (Zae some (by kernel_rfl))⟩,f14:=⟨Tryz.f90.name,by decide,Tryz.func90.trans (Zae some (by kernel_rfl))⟩,f15:=Tryz.func89.trans (Zae some (by kernel_rfl)),f20:=⟨Tryz.f143.name,by decide,Tryz.func143.trans (Zae some (by kernel_rfl))⟩,f21:=⟨Tryz.f144.name,by decide,Tryz.func144.trans (Zae some (by kernel_rfl))⟩,f22:=⟨Tryz.f145.name,by decide,Tryz.func145.trans (Zae some (by kernel_rfl))⟩,f23:=⟨Tryz.f146.name,by decide,Tryz.func146.trans (Zae some (by kernel_rfl))⟩,f24:=⟨Tryz.f147.name,by decide,Tryz.func147.trans (Zae some (by kernel_rfl))⟩,f25:=⟨Tryz.f148.name,by decide,Tryz.func148.trans (Zae some (by kernel_rfl))⟩,f26:=⟨Tryz.f149.name,by decide,Tryz.func149.trans (Zae some (by kernel_rfl))⟩,f27:=⟨Tryz.f150.name,by decide,Tryz.func150.trans (Zae some (by kernel_rfl))⟩,f28:=Tryz.func141.trans (Zae some (by kernel_rfl)),f29:=Tryz.func142.trans (Zae some (by kernel_rfl)),f46:=⟨Tryz.f192.name,by decide,Tryz.func192.trans (Zae some (by kernel_rfl))⟩,f47:=Tryz.func188.trans (Zae some (by kernel_rfl)),f48:=Tryz.func189.trans (Zae some (by kernel_rfl)),f49:=⟨Tryz.f193.name,by decide,Tryz.func193.trans (Zae some (by kernel_rfl))⟩,f50:=⟨Tryz.f194.name,by decide,Tryz.func194.trans (Zae some (by kernel_rfl))⟩,f57:=⟨Tryz.f242.name,by decide,Tryz.func242.trans (Zae some (by kernel_rfl))⟩,t0:=Tryz.underlying0,a0:=Tryz.isAgg0,z0:=Tryz.sizeOf0,v0:=Tryz.zeroValue0,t3:=Tryz.underlying3,a3:=Tryz.isAgg3,z3:=Tryz.sizeOf3,v3:=Tryz.zeroValue3,t4:=Tryz.underlying4,a4:=Tryz.isAgg4,z4:=Tryz.sizeOf4,v4:=Tryz.zeroValue4,t5:=Tryz.underlying5,a5:=Tryz.isAgg5,z5:=Tryz.sizeOf5,v5:=Tryz.zeroValue5,t9:=Tryz.underlying9,a9:=Tryz.isAgg9,z9:=Tryz.sizeOf9,v9:=Tryz.zeroValue9,t22:=Tryz.underlying59,a22:=Tryz.isAgg59,z22:=Tryz.sizeOf59,v22:=Tryz.zeroValue59,t25:=Tryz.underlying104,a25:=Tryz.isAgg104,z25:=Tryz.sizeOf104,v25:=Tryz.zeroValue104,t39:=Tryz.underlying142,a39:=Tryz.isAgg142,z39:=Tryz.sizeOf142,v39:=Tryz.zeroValue142,t45:=Tryz.underlying165,a45:=Tryz.isAgg165,z45:=Tryz.sizeOf165,v45:=Tryz.zeroValue165,t46:=Tryz.underlying166,a46:=Tryz.isAgg166,z46:=Tryz.sizeOf166,v46:=Tryz.zeroValue166,t50:=Tryz.underlying170,a50:=Tryz.isAgg170,z50:=Tryz.sizeOf170,v50:=Tryz.zeroValue170,t53:=Tryz.underlying173,a53:=Tryz.isAgg173,z53:=Tryz.sizeOf173,v53:=Tryz.zeroValue173,t55:=Tryz.underlying175,a55:=Tryz.isAgg175,z55:=Tryz.sizeOf175,v55:=Tryz.zeroValue175,t66:=Tryz.underlying219,a66:=Tryz.isAgg219,z66:=Tryz.sizeOf219,v66:=Tryz.zeroValue219,t70:=Tryz.underlying223,a70:=Tryz.isAgg223,z70:=Tryz.sizeOf223,v70:=Tryz.zeroValue223,t76:=Tryz.underlying264,a76:=Tryz.isAgg264,z76:=Tryz.sizeOf264,v76:=Tryz.zeroValue264,t77:=Tryz.underlying265,a77:=Tryz.isAgg265,z77:=Tryz.sizeOf265,v77:=Tryz.zeroValue265}
def Tryz.sortRow_ren:Go.Shelf.Ren:=⟨fun|6=>53|15=>89|14=>88|28=>141|29=>142|20=>133|21=>134|22=>135|23=>136|24=>137|25=>138|26=>139|27=>140|46=>187|47=>188|48=>189|49=>190|50=>191|57=>241|n=>n,fun|22=>56|24=>68|25=>78|3=>3|39=>142|0=>0|53=>173|55=>175|4=>4|46=>166|45=>165|50=>170|5=>5|9=>9|66=>219|70=>223|76=>264|77=>265|n=>n,fun|n=>n⟩
theorem Tryz.sortRow:Go.Proofs.SlLaysF0.n6 Tryz.prog Tryz.sortRow_ren:={mixed:=by kernel_rfl,f6:=⟨Tryz.f53.name,by decide,Tryz.func53.trans (Zae some (by kernel_rfl))⟩,f14:=⟨Tryz.f88.name,by decide,Tryz.func88.trans (Zae some (by kernel_rfl))⟩,f15:=Tryz.func89.trans (Zae some (by kernel_rfl)),f20:=⟨Tryz.f133.name,by decide,Tryz.func133.trans (Zae some (by kernel_rfl))⟩,f21:=⟨Tryz.f134.name,by decide,Tryz.func134.trans (Zae some (by kernel_rfl))⟩,f22:=⟨Tryz.f135.name,by decide,Tryz.func135.trans (Zae some (by kernel_rfl))⟩,f23:=⟨Tryz.f136.name,by decide,Tryz.func136.trans (Zae some (by kernel_rfl))⟩,f24:=⟨Tryz.f137.name,by decide,Tryz.func137.trans (Zae some (by kernel_rfl))⟩,f25:=⟨Tryz.f138.name,by decide,Tryz.func138.trans (Zae some (by kernel_rfl))⟩,f26:=⟨Tryz.f139.name,by decide,Tryz.func139.trans (Zae some (by kernel_rfl))⟩,f27:=⟨Tryz.f140.name,by decide,Tryz.func140.trans (Zae some (by kernel_rfl))⟩,f28:=Tryz.func141.trans (Zae some (by kernel_rfl)),f29:=Tryz.func142.trans (Zae some (by kernel_rfl)),f46:=⟨Tryz.f187.name,by decide,Tryz.func187.trans (Zae some (by kernel_rfl))⟩,f47:=Tryz.func188.trans (Zae some (by kernel_rfl)),f48:=Tryz.func189.trans (Zae some (by kernel_rfl)),f49:=⟨Tryz.f190.name,by decide,Tryz.func190.trans (Zae some (by kernel_rfl))⟩,f50:=⟨Tryz.f191.name,by decide,Tryz.func191.trans (Zae some (by kernel_rfl))⟩,f57:=⟨Tryz.f241.name,by decide,Tryz.func241.trans (Zae some (by kernel_rfl))⟩,t0:=Tryz.underlying0,a0:=Tryz.isAgg0,z0:=Tryz.sizeOf0,v0:=Tryz.zeroValue0,t3:=Tryz.underlying3,a3:=Tryz.isAgg3,z3:=Tryz.sizeOf3,v3:=Tryz.zeroValue3,t4:=Tryz.underlying4,a4:=Tryz.isAgg4,z4:=Tryz.sizeOf4,v4:=Tryz.zeroValue4,t5:=Tryz.underlying5,a5:=Tryz.isAgg5,z5:=Tryz.sizeOf5,v5:=Tryz.zeroValue5,t9:=Tryz.underlying9,a9:=Tryz.isAgg9,z9:=Tryz.sizeOf9,v9:=Tryz.zeroValue9,t22:=Tryz.underlying56,a22:=Tryz.isAgg56,z22:=Tryz.sizeOf56,v22:=Tryz.zeroValue56,t25:=Tryz.underlying78,a25:=Tryz.isAgg78,z25:=Tryz.sizeOf78,v25:=Tryz.zeroValue78,t39:=Tryz.underlying142,a39:=Tryz.isAgg142,z39:=Tryz.sizeOf142,v39:=Tryz.zeroValue142,t45:=Tryz.underlying165,a45:=Tryz.isAgg165,z45:=Tryz.sizeOf165,v45:=Tryz.zeroValue165,t46:=Tryz.underlying166,a46:=Tryz.isAgg166,z46:=Tryz.sizeOf166,v46:=Tryz.zeroValue166,t50:=Tryz.underlying170,a50:=Tryz.isAgg170,z50:=Tryz.sizeOf170,v50:=Tryz.zeroValue170,t53:=Tryz.underlying173,a53:=Tryz.isAgg173,z53:=Tryz.sizeOf173,v53:=Tryz.zeroValue173,t55:=Tryz.underlying175,a55:=Tryz.isAgg175,z55:=Tryz.sizeOf175,v55:=Tryz.zeroValue175,t66:=Tryz.underlying219,a66:=Tryz.isAgg219,z66:=Tryz.sizeOf219,v66:=Tryz.zeroValue219,t70:=Tryz.underlying223,a70:=Tryz.isAgg223,z70:=Tryz.sizeOf223,v70:=Tryz.zeroValue223,t76:=Tryz.underlying264,a76:=Tryz.isAgg264,z76:=Tryz.sizeOf264,v76:=Tryz.zeroValue264,t77:=Tryz.underlying265,a77:=Tryz.isAgg265,z77:=Tryz.sizeOf265,v77:=Tryz.zeroValue265}
end Go.Proofs
end
