/-
  Lemmas, no statement.
-/
import Derived.Test.YtojgbkiejjingaaGreatDoorK39
import Derived.Test.YtojgbkiejjingaaGreatDoorProg
import Derived.Shelf.Strings.Search1
import Derived.Shelf.Strings.Search2
import Derived.Shelf.Strings.Search3
import Derived.Shelf.LaysM
import Derived.Shelf.Strings.Shaped
import Derived.Shelf.Sort.Plain
import Derived.Shelf.Slices.In.SortNone
import Derived.Test.YtojgbkiejjingaaGreatDoorCards
import Derived.Test.YtojgbkiejjingaaGreatDoorTie
import Derived.Deep.DeepWitnessRowRef
import Derived.Lib.LaidIn
import Derived.Shelf.Spec.BitsCarry
import Derived.Shelf.SlSortCmp.WholeK
import Derived.Shelf.SlSortCmp.NoneTotal
import Derived.Ground.SlsfProg
set_option linter.all false
set_option maxRecDepth 100000
set_option maxHeartbeats 8000000
namespace Go.Proofs.YtojgbkiejjingaaGreatDoor
open Go Go.Dl Go.As Go.Proofs
variable {mx:Int}
attribute[local irreducible] Ah Aj MC W W2 FA ev evD step Ae
section
def J1:List (List UInt8):=[[99,111,117,110,116],[115,117,109],[109,101,97,110],[109,105,110],[109,97,120],[102,105,114,115,116],[108,97,115,116],[100,105,115,116,105,110,99,116],[113,117,97,110,116,105,108,101],[100,101,99,97,121]]
def K4:List (List UInt8):=[[45],[110,111,116],[110,117,108,108]]
def J2:List (List UInt8):=[[43],[45],[42],[47],[61,61],[33,61],[60],[60,61],[97,110,100],[111,114]]
def Nt(mx:Int):List (Nat×List I):=[(3,[.int .i64 mx]),(0,[.sl (J1.map fun s=>[.str s])]),(1,[.sl (K4.map fun s=>[.str s])]),(2,[.sl (J2.map fun s=>[.str s])])]
variable {mx:Int}
noncomputable def Q0:Program:=⟨Tryz.progTables,#[]⟩
abbrev FT:=FP Tryz.prog Q0 Nt
noncomputable def F4:FT 4:=.of Tryz.f4
noncomputable def F7:FT 7:=.of Tryz.f7
noncomputable def xY:FT 10:=.of Tryz.f10
noncomputable def xZ:FT 11:=.of Tryz.f11 [3] [] [(11,[[0]])]
noncomputable def x5:FT 12:=.of Tryz.f12 [3]
noncomputable def x7:FT 13:=.of Tryz.f13 [1017] [] [(10,[[0]]),(12,[[0]]),(16,[[5,2,0,2,3,107,6,109,109,110],[]]),(17,[[0]]),(18,[[23,5,13,15,18,19,21,141,3,143,141,7,145,141,145,146,141,1,149,141,1,151],[]])]
noncomputable def x8:FT 14:=.of Tryz.f14
noncomputable def x9:FT 15:=.of Tryz.f15 [] [] [(6,[[0]])]
noncomputable def xt:FT 16:=.of Tryz.f16 [5,28,26,24,19,14] [] [(6,[[8],[]])]
noncomputable def ya:FT 17:=.of Tryz.f17 [6,31,29,23,20]
noncomputable def yb:FT 18:=.of Tryz.f18 [] [] [(6,[[0]])]
noncomputable def xu:FT 19:=.of Tryz.f19
noncomputable def yd:FT 20:=.of Tryz.f20 [] [] [(6,[[0]])]
noncomputable def ye:FT 21:=.of Tryz.f21
noncomputable def yf:FT 22:=.of Tryz.f22 [4]
noncomputable def yg:FT 23:=.of Tryz.f23 [4]
noncomputable def yh:FT 24:=.of Tryz.f24
noncomputable def yi:FT 25:=.of Tryz.f25
noncomputable def yj:FT 26:=.of Tryz.f26
noncomputable def yk:FT 27:=.of Tryz.f27
noncomputable def yl:FT 28:=.of Tryz.f28
noncomputable def ym:FT 29:=.of Tryz.f29 [] [] [(9,[[0]])]
noncomputable def yn:FT 33:=.of Tryz.f33
noncomputable def yo:FT 35:=.of Tryz.f35 [2]
noncomputable def yp:FT 36:=.of Tryz.f36 [] [] [(1,[[0]])]
noncomputable def yq:FT 37:=.of Tryz.f37
noncomputable def yr:FT 38:=.of Tryz.f38
noncomputable def yt:FT 39:=.of Tryz.f39 [] [] [(1,[[0]])]
noncomputable def yu:FT 40:=.of Tryz.f40 [] [] [(13,[[0]])]
noncomputable def yv:FT 41:=.of Tryz.f41
noncomputable def wN:FT 42:=.of Tryz.f42 [4,2] [] [(1,[[0]])]
noncomputable def yw:FT 43:=.of Tryz.f43 [6] [] [(2,[[0]])]
noncomputable def yx:FT 44:=.of Tryz.f44 [2]
noncomputable def yy:FT 45:=.of Tryz.f45 [6]
noncomputable def yz:FT 46:=.of Tryz.f46
noncomputable def yA:FT 47:=.of Tryz.f47 [6]
noncomputable def yB:FT 48:=.of Tryz.f48
noncomputable def yC:FT 49:=.of Tryz.f49 [] [] [(11,[[6],[7,0],[10,1,8,67],[11,0]])]
noncomputable def yD:FT 50:=.of Tryz.f50 [2]
noncomputable def yE:FT 51:=.of Tryz.f51 [] [] [(4,[[0]])]
noncomputable def yF:FT 52:=.of Tryz.f52 [8,5,43,39,38,37,36,31,23]
noncomputable def yG:FT 55:=.of Tryz.f55 [] [] [(3,[[0]])]
noncomputable def yH:FT 56:=.of Tryz.f56
noncomputable def yI:FT 57:=.of Tryz.f57 [] [] [(6,[[0]])]
noncomputable def yJ:FT 58:=.of Tryz.f58 [3004]
noncomputable def yK:FT 59:=.of Tryz.f59
noncomputable def yL:FT 60:=.of Tryz.f60 [33]
noncomputable def yM:FT 61:=.of Tryz.f61
noncomputable def yN:FT 62:=.of Tryz.f62 [] [] [(2,[[0]]),(4,[[0]])]
noncomputable def yO:FT 63:=.of Tryz.f63
noncomputable def yP:FT 64:=.of Tryz.f64 [5,4] [] [(6,[[0]])]
noncomputable def yQ:FT 67:=.of Tryz.f67 [33]
noncomputable def yR:FT 68:=.of Tryz.f68
noncomputable def yS:FT 70:=.of Tryz.f70
noncomputable def yT:FT 71:=.of Tryz.f71
noncomputable def yU:FT 72:=.of Tryz.f72
noncomputable def yV:FT 73:=.of Tryz.f73 [] [] [(1,[[0]])]
noncomputable def yW:FT 74:=.of Tryz.f74
noncomputable def yX:FT 75:=.of Tryz.f75
noncomputable def yY:FT 76:=.of Tryz.f76
noncomputable def yZ:FT 77:=.of Tryz.f77
noncomputable def y3:FT 78:=.of Tryz.f78
noncomputable def xv:FT 79:=.of Tryz.f79 [] [] [(9,[[0]])]
noncomputable def y4:FT 80:=.of Tryz.f80
noncomputable def y5:FT 81:=.of Tryz.f81 [] [] [(13,[[0]])]
noncomputable def y7:FT 82:=.of Tryz.f82 [] [] [(4,[[0]])]
noncomputable def y8:FT 83:=.of Tryz.f83
noncomputable def y9:FT 84:=.of Tryz.f84 [4]
noncomputable def za:FT 85:=.of Tryz.f85
noncomputable def zb:FT 86:=.of Tryz.f86 [] [] [(6,[[0]]),(7,[[0]])]
noncomputable def zc:FT 87:=.of Tryz.f87
noncomputable def zd:FT 91:=.of Tryz.f91
noncomputable def ze:FT 92:=.of Tryz.f92 [4]
noncomputable def zf:FT 93:=.of Tryz.f93 [2]
noncomputable def zg:FT 94:=.of Tryz.f94
noncomputable def zh:FT 95:=.of Tryz.f95
noncomputable def zj:FT 96:=.of Tryz.f96
noncomputable def zk:FT 97:=.of Tryz.f97 [4]
noncomputable def cK:FT 101:=.of Tryz.f101
noncomputable def cL:FT 102:=.of Tryz.f102
noncomputable def cM:FT 103:=.of Tryz.f103
noncomputable def cN:FT 104:=.of Tryz.f104
noncomputable def cP:FT 105:=.of Tryz.f105
noncomputable def cQ:FT 106:=.of Tryz.f106
noncomputable def cR:FT 107:=.of Tryz.f107 [6,5,4,2,39,31,12,9,5033] [(39,2)] [(9,[[7,1,2,6,34,3,35,35,36,36,37],[]])]
noncomputable def cS:FT 108:=.of Tryz.f108
noncomputable def cT:FT 109:=.of Tryz.f109
noncomputable def cU:FT 111:=.of Tryz.f111
noncomputable def cV:FT 112:=.of Tryz.f112
noncomputable def cW:FT 114:=.of Tryz.f114
noncomputable def cX:FT 117:=.of Tryz.f117
noncomputable def cY:FT 118:=.of Tryz.f118 [] [] [(16,[[0]])]
noncomputable def cZ:FT 120:=.of Tryz.f120 [2002]
noncomputable def c7:FT 121:=.of Tryz.f121
noncomputable def c8:FT 122:=.of Tryz.f122
noncomputable def c9:FT 123:=.of Tryz.f123
noncomputable def da:FT 124:=.of Tryz.f124
noncomputable def db:FT 125:=.of Tryz.f125
noncomputable def dc:FT 126:=.of Tryz.f126
noncomputable def Vp:FT 127:=.of Tryz.f127 [3,25,18,13]
noncomputable def dd:FT 128:=.of Tryz.f128 [4]
noncomputable def Vq:FT 129:=.of Tryz.f129 [] [] [(15,[[0]]),(20,[[0]]),(25,[[0]])]
noncomputable def de:FT 130:=.of Tryz.f130 [] [] [(6,[[0]])]
noncomputable def df:FT 131:=.of Tryz.f131
noncomputable def dh:FT 132:=.of Tryz.f132 [] [] [(6,[[0]])]
noncomputable def di:FT 151:=.of Tryz.f151
noncomputable def dj:FT 152:=.of Tryz.f152
noncomputable def dm:FT 154:=.of Tryz.f154
noncomputable def dn:FT 155:=.of Tryz.f155 [] [] [(11,[[8],[]]),(15,[[8],[]])]
noncomputable def dp:FT 156:=.of Tryz.f156
noncomputable def dq:FT 161:=.of Tryz.f161
noncomputable def dt:FT 162:=.of Tryz.f162
noncomputable def du:FT 163:=.of Tryz.f163
noncomputable def dw:FT 167:=.of Tryz.f167 [3]
noncomputable def dx:FT 168:=.of Tryz.f168
noncomputable def dy:FT 169:=.of Tryz.f169
noncomputable def dz:FT 171:=.of Tryz.f171
noncomputable def dA:FT 172:=.of Tryz.f172
noncomputable def dB:FT 173:=.of Tryz.f173
noncomputable def dC:FT 174:=.of Tryz.f174
noncomputable def dD:FT 175:=.of Tryz.f175
noncomputable def dE:FT 176:=.of Tryz.f176 [4,2,52,47,38,25,20] [(52,2)] [(5,[[0]]),(8,[[8,1,3,2,47,47,48,8,49,48,49,50],[]])]
noncomputable def dF:FT 177:=.of Tryz.f177 [4,3,2,41,37,36,32,26,13,11,7]
noncomputable def dG:FT 178:=.of Tryz.f178 [4,2,50,46,45,41,40,34,32,26,25,21,16,9] [(40,2)] [(8,[[7],[]])]
noncomputable def dH:FT 179:=.of Tryz.f179 [4,2,55,51,50,44,43,37,35,30,23,16,9] [(50,2),(43,2)] [(8,[[7],[]]),(9,[[5],[]])]
noncomputable def dJ:FT 180:=.of Tryz.f180 [4,2,18,14,7]
noncomputable def dK:FT 181:=.of Tryz.f181 [] [] [(7,[[0]])]
noncomputable def dL:FT 182:=.of Tryz.f182
noncomputable def dM:FT 183:=.of Tryz.f183
noncomputable def dO:FT 184:=.of Tryz.f184
noncomputable def dP:FT 185:=.of Tryz.f185 [1045]
noncomputable def dQ:FT 186:=.of Tryz.f186 [] [] [(6,[[0]])]
noncomputable def dR:FT 196:=.of Tryz.f196
noncomputable def dS:FT 206:=.of Tryz.f206
noncomputable def dU:FT 207:=.of Tryz.f207
noncomputable def dV:FT 208:=.of Tryz.f208 [] [] [(10,[[0]])]
noncomputable def dW:FT 209:=.of Tryz.f209
noncomputable def dX:FT 210:=.of Tryz.f210
noncomputable def dY:FT 220:=.of Tryz.f220 [3004]
noncomputable def dZ:FT 222:=.of Tryz.f222
noncomputable def ec:FT 225:=.of Tryz.f225
noncomputable def eg:FT 226:=.of Tryz.f226
noncomputable def ei:FT 227:=.of Tryz.f227
noncomputable def el:FT 228:=.of Tryz.f228
noncomputable def ep:FT 229:=.of Tryz.f229
noncomputable def eq:FT 230:=.of Tryz.f230 [] [] [(1,[[9,3,0,3,6,2,9,9,10,2,12,12,13,2,15,15,16],[]])]
noncomputable def eu:FT 231:=.of Tryz.f231 [] [] [(2,[[0]]),(5,[[7,1,3,0,32,5,33,32,33,34],[]])]
noncomputable def ew:FT 232:=.of Tryz.f232
noncomputable def ey:FT 233:=.of Tryz.f233
noncomputable def ez:FT 234:=.of Tryz.f234 [] [] [(13,[[0]])]
noncomputable def eA:FT 235:=.of Tryz.f235
noncomputable def eB:FT 236:=.of Tryz.f236
noncomputable def eC:FT 237:=.of Tryz.f237 [6]
noncomputable def eD:FT 238:=.of Tryz.f238
noncomputable def eF:FT 239:=.of Tryz.f239 [] [] [(6,[[0]])]
noncomputable def eG:FT 240:=.of Tryz.f240 [22,68]
noncomputable def eH:FT 247:=.of Tryz.f247
noncomputable def eI:FT 248:=.of Tryz.f248
noncomputable def eJ:FT 249:=.of Tryz.f249
noncomputable def eM:FT 258:=.of Tryz.f258 [2]
noncomputable def eN:FT 261:=.of Tryz.f261
noncomputable def eO:FT 262:=.of Tryz.f262
noncomputable def eP:FT 263:=.of Tryz.f263
noncomputable def eQ:FT 264:=.of Tryz.f264
noncomputable def eR:FT 265:=.of Tryz.f265 [] [] [(11,[[0]])]
noncomputable def eS:FT 266:=.of Tryz.f266
noncomputable def eT:FT 267:=.of Tryz.f267
noncomputable def eU:FT 268:=.of Tryz.f268 [] [] [(7,[[0]]),(9,[[0]])]
noncomputable def eV:FT 269:=.of Tryz.f269 [6,4] [] [(11,[[0]])]
noncomputable def eW:FT 270:=.of Tryz.f270 [] [] [(6,[[0]])]
noncomputable def eX:FT 271:=.of Tryz.f271
noncomputable def eY:FT 272:=.of Tryz.f272 [] [] [(7,[[0]])]
noncomputable def eZ:FT 273:=.of Tryz.f273
noncomputable def fb:FT 299:=.of Tryz.f299
noncomputable def fc:FT 300:=.of Tryz.f300
noncomputable def fd:FT 301:=.of Tryz.f301 [] [] [(17,[[0]]),(19,[[0]]),(21,[[0]])]
noncomputable def fe:FT 302:=.of Tryz.f302 [] [] [(6,[[0]])]
noncomputable def ff:FT 303:=.of Tryz.f303 [0]
noncomputable def fg:FT 304:=.of Tryz.f304 [4]
noncomputable def fh:FT 305:=.of Tryz.f305 [6] [] [(11,[[0]]),(13,[[0]]),(21,[[0]]),(26,[[0]])]
noncomputable def fi:FT 306:=.of Tryz.f306
noncomputable def fj:FT 307:=.of Tryz.f307 [4]
noncomputable def fk:FT 308:=.of Tryz.f308
noncomputable def fm:FT 318:=.of Tryz.f318
noncomputable def fp:FT 319:=.of Tryz.f319
noncomputable def fq:FT 320:=.of Tryz.f320 [] [] [(6,[[0]])]
noncomputable def ft:FT 321:=.of Tryz.f321
noncomputable def fu:FT 322:=.of Tryz.f322
noncomputable def fw:FT 323:=.of Tryz.f323 [4]
noncomputable def fx:FT 324:=.of Tryz.f324 [6]
noncomputable def fy:FT 325:=.of Tryz.f325 [6]
noncomputable def fA:FT 326:=.of Tryz.f326 [6]
noncomputable def fB:FT 327:=.of Tryz.f327 [4]
noncomputable def fC:FT 331:=.of Tryz.f331
noncomputable def fD:FT 332:=.of Tryz.f332
noncomputable def fE:FT 333:=.of Tryz.f333
noncomputable def QO:FT 334:=.of Tryz.f334
noncomputable def QP:FT 335:=.of Tryz.f335
noncomputable def fF:FT 338:=.of Tryz.f338
noncomputable def fG:FT 339:=.of Tryz.f339 [] [] [(5,[[14],[]])]
noncomputable def fH:FT 344:=.of Tryz.f344 [] [] [(6,[[0]]),(8,[[0]])]
noncomputable def fI:FT 345:=.of Tryz.f345 [6] [] [(6,[[7],[]])]
noncomputable def fJ:FT 349:=.of Tryz.f349 [2]
noncomputable def fK:FT 350:=.of Tryz.f350 [4,27] [] [(6,[[11],[]])]
noncomputable def fL:FT 351:=.of Tryz.f351
noncomputable def Vr:FT 354:=.of Tryz.f354
noncomputable def fM:FT 355:=.of Tryz.f355 [2]
noncomputable def fN:FT 356:=.of Tryz.f356
noncomputable def Vs:FT 357:=.of Tryz.f357
noncomputable def fO:FT 358:=.of Tryz.f358 [25]
noncomputable def fP:FT 359:=.of Tryz.f359 [] [] [(4,[[0]]),(5,[[0]])]
noncomputable def fQ:FT 360:=.of Tryz.f360 [] [] [(5,[[11],[]])]
noncomputable def fR:FT 362:=.of Tryz.f362 [2] [] [(1,[[0]])]
noncomputable def fS:FT 364:=.of Tryz.f364 [4,27] [] [(6,[[11],[]])]
end
section
abbrev Is(mx:Int)(f:Nat)(args:List I)(y:I):Prop:=MC Tryz.prog (Nt mx) f (args.map D.i) [] [] (Sf y)
def C7(t:Typ):Bool:=t.kind==2||t.kind==3
theorem fT(t:Typ):Is mx 207 [.agg (AM t)] (.bool (C7 t)):=by
 refine MX dU ?_
 (repeat' first|exact Al _|simp(disch:=omega)only[go_sem,simprocAttr]|refine' Ao (fun hq=>?_) (fun f=>?_)<;>try(have jc:=hq;try simp only[HB]at jc)|refine Sz.s ?_|fail)
 all_goals(refine congrArg I.bool ?_;(try simp only[C7]);(first|rfl|(simp_all;done)|(rw[Bool.eq_iff_iff];simp_all;done)|(rw[Bool.eq_iff_iff];simp_all;omega)))
theorem fU(n l:Int)(hl:0<=l/\l<=1000):Is mx 248 [iI n,iI l] (.bool (decide (n>l\/n< -l))):=by
 refine MX eI ?_;have hw:IntKind.i64.wrap (0-l)=-l:=by grind[CE]
 (repeat' first|exact Al _|simp(disch:=omega)only[go_sem,simprocAttr,hw]|refine' Ao (fun hq=>?_) (fun f=>?_)<;>try(have jc:=hq;try simp only[HB]at jc)|refine Sz.s ?_|fail)
 all_goals(refine congrArg I.bool ?_;(try simp only[gt_iff_lt]);(first|rfl|(simp_all;done)|(rw[Bool.eq_iff_iff];simp_all;done)|(rw[Bool.eq_iff_iff];simp_all;omega)))
theorem fV{α:Type}[DecidableEq α]{a b:List α}{i:Nat}(h:a.take i=b.take i)(ha:i<a.length)(hb:i<b.length)(e:a[i]=b[i]):a.take (i+1)=b.take (i+1):=by rw[List.take_succ_eq_append_getElem ha,List.take_succ_eq_append_getElem hb,h,e]
theorem fW{a b:Fac}(h:a.name=b.name)(k:a.exp=b.exp):a=b:=by cases a;cases b;simp_all
def lc(b:UInt8):Bool:=decide (97<=b.toNat/\b.toNat<=122)
def wc(b:UInt8):Bool:=decide ((97<=b.toNat/\b.toNat<=122)\/(48<=b.toNat/\b.toNat<=57)\/b.toNat=95)
def BA(s:Bs):Bool:=decide (s≠[])&&decide (s.length<=24)&&lc (s.getD 0 0)&&s.all wc
theorem fX(s:Bs):Is mx 247 [.str s] (.bool (BA s)):=by
 refine MX eH ?_
 (repeat' first|exact Al _|simp(disch:=omega)only[go_sem,simprocAttr]|refine' Ao (fun hq=>?_) (fun f=>?_)<;>try(have jc:=hq;try simp only[HB]at jc)|refine Sx.s ?_ ?_<;>try(intro h;have h':=h;try simp only[HB]at h';try rewrite [h];try simp only[h])|refine Aa ?_|refine Sz.s ?_|(refine And.intro ?_ ?_;focus omega))
 ·refine congrArg I.bool ?_;have e:(decide (s≠[])&&decide (s.length<=24)&&lc (s.getD 0 0))=false:=by grind[lc]
  simp only[BA,e,Bool.false_and]
 ·have w0:BA s=s.all wc:=by
   have e1:lc (s.getD 0 0)=true:=by grind[lc]
   have e2:s≠[]:=fun e=>by grind
   have e3:s.length<=24:=by omega
   simp_all[BA,e1,e2,e3]
  refine CP [0,24] (by simp only[V0,G4,reduceIte,Nat.reduceEqDiff];rfl) (fun i=>[(25,.i (iI i))]) (fun _=>[]) (fun i=>(s.take i).all wc=true) s.length 0 (by omega) (by simp) ?_ ?_
  ·simp[V0,Fz,GF]
  ·intro i hi jb
   (repeat' first|exact Al _|simp(disch:=omega)only[go_sem,simprocAttr]|refine' Ao (fun hq=>?_) (fun f=>?_)<;>try(have jc:=hq;try simp only[HB]at jc)|refine' Cf (fun hq=>?_) (fun f=>?_)<;>try(have jc:=hq;try simp only[HB]at jc)|refine Sx.s ?_ ?_<;>try(intro h;have h':=h;try simp only[HB]at h';try rewrite [h];try simp only[h])|refine Aa ?_|refine Sz.s ?_|(refine And.intro ?_ ?_;focus omega))
   all_goals first
    |(exfalso;omega)
    |(refine congrArg I.bool ?_;rw[w0];first
      |(exact(QC (d:=0) (i:=i) (by omega) (by simp only[wc,decide_eq_false_iff_not];omega)).symm)
      |(have e:i=s.length:=by omega
        rw[e,List.take_length]at jb;exact jb.symm))
    |(exact BO (d:=0) jb (by omega) (by simp only[wc,decide_eq_true_eq];omega))
end
section
def uc:Option Bs->List Fac->Int
 |_,[]=>0
 |p,f::r=>if(!BA f.name)=true then 1 else if(decide (f.exp=0)||decide (f.exp>8\/f.exp< -8))=true then 70 else
  if(match p with|some q=>Op.bytesLess f.name q||decide (f.name=q)|none=>false)=true then 3 else uc (some f.name) r
def D5(u:List Fac)(i:Nat):Option Bs:=if i=0 then none else some (u.getD (i-1) default).name
def Bv(u:List Fac):Int:=if u.length>4 then 2 else uc none u
theorem Vt{u:List Fac}{i:Nat}(h:i<u.length)(p):uc p (u.drop i)=if(!BA (u.getD i default).name)=true then 1 else if(decide ((u.getD i default).exp=0)||decide ((u.getD i default).exp>8\/(u.getD i default).exp< -8))=true then 70 else
  if(match p with|some q=>Op.bytesLess (u.getD i default).name q||decide ((u.getD i default).name=q)|none=>false)=true then 3 else uc (some (u.getD i default).name) (u.drop (i+1)):=by
 rw[A7 h,List.drop_eq_getElem_cons h];simp only[uc]
theorem fY(u:List Fac)(hu:u.length<=1073741824):Is mx 208 [.sl (u.map AC)] (iI (Bv u)):=by
 refine MX dV ?_
 (repeat' first|simp(disch:=omega)only[go_sem,simprocAttr]|refine Sx.s ?_ ?_<;>try(intro h;have h':=h;try simp only[HB]at h';try rewrite [h];try simp only[h])|refine Aa ?_|refine Sz.s ?_|fail)
 ·simp only[Bv];rw[if_pos (by omega)]
 ·have e:Bv u=uc none u:=by simp only[Bv];rw[if_neg (by omega)]
  rw[e];refine CP [0,8,9] (by simp only[V0,G4,reduceIte,Nat.reduceEqDiff];rfl) (fun i=>[(10,.i (iI i))]) (fun _=>[]) (fun i=>uc none u=uc (D5 u i) (u.drop i)) u.length 0 (by omega) (by simp[D5]) ?_ ?_
  ·simp[V0,Fz,GF]
  ·intro i hi jb
   (repeat' first|exact Al _|simp(disch:=omega)only[go_sem,simprocAttr]|refine' Ao (fun hq=>?_) (fun f=>?_)<;>try(have jc:=hq;try simp only[HB]at jc)|refine' Cf (fun hq=>?_) (fun f=>?_)<;>try(have jc:=hq;try simp only[HB]at jc)|refine Sx.s ?_ ?_<;>try(intro h;have h':=h;try simp only[HB]at h';try rewrite [h];try simp only[h])|refine Ab (fX _) ?_|refine Ab (fU _ _ (by omega)) ?_|refine Aa ?_|refine Am ?_|refine Sz.s ?_|(refine And.intro ?_ ?_;focus omega))
   all_goals try
    (have ja:i<u.length:=by omega
     have hm:(match D5 u i with|some q=>Op.bytesLess (u.getD i default).name q||decide ((u.getD i default).name=q)|none=>false)=(decide (0<(i:Int))&&(Op.bytesLess (u.getD i default).name (u.getD (↑i-1:Int).toNat default).name||decide ((u.getD i default).name=(u.getD (↑i-1:Int).toNat default).name))):=by
      have e1:(↑i-1:Int).toNat=i-1:=by omega
      by_cases h0:i=0
      ·simp[D5,h0]
      ·have:0<(i:Int):=by omega
       simp only[D5,h0,if_false,e1,decide_eq_true this,Bool.true_and]
     have hs:D5 u (i+1)=some (u.getD i default).name:=by simp[D5]
     rw[jb,Vt ja,hm]
     first
      |(rw[if_pos h];done)
      |(rw[if_neg (by simp only[‹(!BA (u.getD i default).name)=false›,Bool.false_eq_true,not_false_eq_true]),if_pos h];done)
      |(rw[if_neg (by simp only[‹(!BA (u.getD i default).name)=false›,Bool.false_eq_true,not_false_eq_true]),if_neg (by simp only[‹(decide ((u.getD i default).exp=0)||decide ((u.getD i default).exp>8\/(u.getD i default).exp< -8))=false›,Bool.false_eq_true,not_false_eq_true])];first|(rw[if_pos h];done)|(rw[if_neg (by simp only[h,Bool.false_eq_true,not_false_eq_true]),hs];done)))
   have e':i=u.length:=by omega
   rw[jb,e',List.drop_length];rfl
end
end Go.Proofs.YtojgbkiejjingaaGreatDoor
section
namespace Go.Proofs
open Go.Shelf
open Go.RowKit Go.Lib in
open Go.RowKit Go.Lib in
open Go.RowKit Go.Lib in
open Go.RowKit Go.Lib in
open Go.RowKit Go.Lib in
open Go.RowKit Go.Lib in
open Go.RowKit Go.Lib in
open Go.RowKit Go.Lib in
def Tryz.lays144_ren:Go.Shelf.Ren:=⟨fun|144=>153|143=>195|219=>243|217=>274|225=>275|224=>276|267=>277|266=>309|314=>310|n=>n,fun|9=>9|4=>4|3=>3|5=>5|46=>142|146=>301|51=>173|n=>n,fun|1=>3|n=>n⟩
theorem Tryz.lays144:Go.Proofs.Lays.n144 Tryz.prog Tryz.lays144_ren:={mixed:=by kernel_rfl,f143:=Tryz.func195.trans (congrArg some (by kernel_rfl)),f144:=Tryz.func153.trans (congrArg some (by kernel_rfl)),f217:=Tryz.func274.trans (congrArg some (by kernel_rfl)),f219:=Tryz.func243.trans (congrArg some (by kernel_rfl)),f224:=Tryz.func276.trans (congrArg some (by kernel_rfl)),f225:=Tryz.func275.trans (congrArg some (by kernel_rfl)),f266:=Tryz.func309.trans (congrArg some (by kernel_rfl)),f267:=Tryz.func277.trans (congrArg some (by kernel_rfl)),f314:=Tryz.func310.trans (congrArg some (by kernel_rfl)),t3:=Tryz.underlying3,a3:=Tryz.isAgg3,z3:=Tryz.sizeOf3,v3:=Tryz.zeroValue3,t4:=Tryz.underlying4,a4:=Tryz.isAgg4,z4:=Tryz.sizeOf4,v4:=Tryz.zeroValue4,t5:=Tryz.underlying5,a5:=Tryz.isAgg5,z5:=Tryz.sizeOf5,v5:=Tryz.zeroValue5,t9:=Tryz.underlying9,a9:=Tryz.isAgg9,z9:=Tryz.sizeOf9,v9:=Tryz.zeroValue9,t46:=Tryz.underlying142,a46:=Tryz.isAgg142,z46:=Tryz.sizeOf142,v46:=Tryz.zeroValue142,t51:=Tryz.underlying173,a51:=Tryz.isAgg173,z51:=Tryz.sizeOf173,v51:=Tryz.zeroValue173,t146:=Tryz.underlying301,a146:=Tryz.isAgg301,z146:=Tryz.sizeOf301,v146:=Tryz.zeroValue301,g1:=by kernel_rfl}
open Go.RowKit Go.Lib in
open Go.RowKit Go.Lib in
theorem Tryz.strings_Contains(s sub:ByteArray)(m:Int)(w:World)(hs:s.size<4294967281)(hm:w.cell? ⟨3,0,none⟩=some (.int .i64 m)):
  Calls Tryz.prog 153 #[.string s,.string sub] w fun e w'=>e=.returned (.bool (Lib.contains s.data.toList sub.data.toList))/\w'=w:=Any.strings_Contains Tryz.lays144 s sub m w hs hm
open Go.RowKit Go.Lib in
open Go.RowKit Go.Lib in
open Go.RowKit Go.Lib in
def Tryz.lays190_ren:Go.Shelf.Ren:=⟨fun|190=>221|125=>89|258=>259|128=>141|129=>142|302=>290|303=>291|304=>292|305=>293|306=>294|307=>295|308=>296|309=>297|310=>298|333=>315|329=>188|330=>189|334=>316|335=>317|336=>151|344=>330|n=>n,fun|31=>160|9=>9|3=>3|46=>142|0=>0|51=>173|53=>175|4=>4|183=>166|182=>165|131=>170|5=>5|218=>219|222=>223|228=>264|229=>265|n=>n,fun|n=>n⟩
theorem Tryz.lays190:Go.Proofs.Lays.n190 Tryz.prog Tryz.lays190_ren:={mixed:=by kernel_rfl,f125:=Tryz.func89.trans (congrArg some (by kernel_rfl)),f128:=Tryz.func141.trans (congrArg some (by kernel_rfl)),f129:=Tryz.func142.trans (congrArg some (by kernel_rfl)),f190:=Tryz.func221.trans (congrArg some (by kernel_rfl)),f258:=Tryz.func259.trans (congrArg some (by kernel_rfl)),f302:=Tryz.func290.trans (congrArg some (by kernel_rfl)),f303:=Tryz.func291.trans (congrArg some (by kernel_rfl)),f304:=Tryz.func292.trans (congrArg some (by kernel_rfl)),f305:=Tryz.func293.trans (congrArg some (by kernel_rfl)),f306:=Tryz.func294.trans (congrArg some (by kernel_rfl)),f307:=Tryz.func295.trans (congrArg some (by kernel_rfl)),f308:=Tryz.func296.trans (congrArg some (by kernel_rfl)),f309:=Tryz.func297.trans (congrArg some (by kernel_rfl)),f310:=Tryz.func298.trans (congrArg some (by kernel_rfl)),f329:=Tryz.func188.trans (congrArg some (by kernel_rfl)),f330:=Tryz.func189.trans (congrArg some (by kernel_rfl)),f333:=Tryz.func315.trans (congrArg some (by kernel_rfl)),f334:=Tryz.func316.trans (congrArg some (by kernel_rfl)),f335:=Tryz.func317.trans (congrArg some (by kernel_rfl)),f336:=Tryz.func151.trans (congrArg some (by kernel_rfl)),f344:=Tryz.func330.trans (congrArg some (by kernel_rfl)),t0:=Tryz.underlying0,a0:=Tryz.isAgg0,z0:=Tryz.sizeOf0,v0:=Tryz.zeroValue0,t3:=Tryz.underlying3,a3:=Tryz.isAgg3,z3:=Tryz.sizeOf3,v3:=Tryz.zeroValue3,t4:=Tryz.underlying4,a4:=Tryz.isAgg4,z4:=Tryz.sizeOf4,v4:=Tryz.zeroValue4,t5:=Tryz.underlying5,a5:=Tryz.isAgg5,z5:=Tryz.sizeOf5,v5:=Tryz.zeroValue5,t9:=Tryz.underlying9,a9:=Tryz.isAgg9,z9:=Tryz.sizeOf9,v9:=Tryz.zeroValue9,t31:=Tryz.underlying160,a31:=Tryz.isAgg160,z31:=Tryz.sizeOf160,v31:=Tryz.zeroValue160,t46:=Tryz.underlying142,a46:=Tryz.isAgg142,z46:=Tryz.sizeOf142,v46:=Tryz.zeroValue142,t51:=Tryz.underlying173,a51:=Tryz.isAgg173,z51:=Tryz.sizeOf173,v51:=Tryz.zeroValue173,t53:=Tryz.underlying175,a53:=Tryz.isAgg175,z53:=Tryz.sizeOf175,v53:=Tryz.zeroValue175,t131:=Tryz.underlying170,a131:=Tryz.isAgg170,z131:=Tryz.sizeOf170,v131:=Tryz.zeroValue170,t182:=Tryz.underlying165,a182:=Tryz.isAgg165,z182:=Tryz.sizeOf165,v182:=Tryz.zeroValue165,t183:=Tryz.underlying166,a183:=Tryz.isAgg166,z183:=Tryz.sizeOf166,v183:=Tryz.zeroValue166,t218:=Tryz.underlying219,a218:=Tryz.isAgg219,z218:=Tryz.sizeOf219,v218:=Tryz.zeroValue219,t222:=Tryz.underlying223,a222:=Tryz.isAgg223,z222:=Tryz.sizeOf223,v222:=Tryz.zeroValue223,t228:=Tryz.underlying264,a228:=Tryz.isAgg264,z228:=Tryz.sizeOf264,v228:=Tryz.zeroValue264,t229:=Tryz.underlying265,a229:=Tryz.isAgg265,z229:=Tryz.sizeOf265,v229:=Tryz.zeroValue265}
open Go.Sort Go.RowKit in
theorem Tryz.slices_Sort_string(blk off cap:Nat)(ss:List (List UInt8))(w:World)(hH:Holds encStr w blk off ss.toArray)(qp:blk<w.heap.size)(js:ss.length<4611686018427387904):
  Calls Tryz.prog 221 #[.slice (some ⟨blk,off,none⟩) ss.length cap] w fun e w'=>
   e=.returned (.tuple #[])/\∃n os,w'=grow (putRow encStr (Sort.ahead w n) blk off (ss.mergeSort fun x y=>decide (x<=y)).toArray) os:=Any.slices_Sort_string Tryz.lays190 blk off cap ss w hH qp js
open Go.RowKit Go.Sort in
theorem Tryz.slices_Sort_string_none(p:Option Addr)(cap:Nat)(w:World):
  Calls Tryz.prog 221 #[.slice p 0 cap] w fun e w'=>e=.returned (.tuple #[])/\w'=w:=Any.slices_Sort_string_none Tryz.lays190 p cap w
end Go.Proofs
end
namespace Go.Proofs.YtojgbkiejjingaaGreatDoor
open Go Go.Dl Go.As Go.Proofs
variable {mx:Int}
attribute[local irreducible] Ah Aj MC W W2 FA ev evD step Ae
section
theorem QQ{M:Mem}{s:Bs}{v:Value}(h:Rep M (.str s) v):v=.string ⟨s.toArray⟩:=by cases h;rfl
theorem fZ{M:Mem}{x y:I}{vs:Array Value}(h:Ai M [x,y] vs.toList):∃v u,vs=#[v,u]/\Rep M x v/\Rep M y u:=by
 obtain⟨hl,hr⟩:=h;obtain⟨l⟩:=vs
 match l,hl with
 |[v,u],_=>exact⟨v,u,rfl,hr 0 (by simp) (by simp),hr 1 (by simp) (by simp)⟩
theorem f9{M:Mem}{w:World}(h1:∀b o v,M.c b o=some v->w.cell? ⟨b,o,none⟩=some v)(h2:Gl (Nt mx) M):w.cell? ⟨3,0,none⟩=some (.int .i64 mx):=by
 have:=h2 3 [.int .i64 mx] (by simp[Nt]);generalize hp:Value.pointer (some ⟨3,0,none⟩)=p at this;generalize hx:I.elt [.int .i64 mx] 0=x at this;cases this<;>cases hx;rename_i b o v h hr;injection hp with hp;injection hp with hp;injection hp with hb ho
 have e:=h 0 (by simp);have r:=hr 0 (by simp);simp only[List.getElem_cons_zero,Nat.add_zero]at r e ho;subst hb;subst ho;rw[h1 _ _ _ e];generalize hy:I.int .i64 mx=y at r;generalize hz:v 0=z at r;cases r<;>cases hy;rfl
theorem Vu(s t:Bs)(hs:s.length<4294967281):Is mx 153 [.str s,.str t] (.bool (Lib.contains s t)):=by
 refine bO (by kernel_rfl) fun M w vs h1 h2 h3=>?_
 obtain⟨v,u,rfl,hv,hu⟩:=fZ h3;rw[QQ hv,QQ hu];exact⟨_,.bool _,Tryz.strings_Contains ⟨s.toArray⟩ ⟨t.toArray⟩ mx w hs (f9 h1.1 h2)⟩
def QR:Bs:=[32,116,97,98,108,101,32,102,101,97,116,117,114,101,32,111,102,32,107,101,101,112,32,98,111,111,108,32,116,101,120,116,32,107,101,121,32,105,110,116,32,100,101,99,32,105,102,32,116,104,101,110,32,101,108,115,101,32,100,101,102,97,117,108,116,32,111,114,32,97,110,100,32,110,111,116,32,116,114,117,101,32,102,97,108,115,101,32,110,117,108,108,32,99,111,117,110,116,32,115,117,109,32,109,101,97,110,32,109,105,110,32,109,97,120,32,102,105,114,115,116,32,108,97,115,116,32,100,105,115,116,105,110,99,116,32,113,117,97,110,116,105,108,101,32,100,101,99,97,121,32,97,108,108,32,115,108,105,100,105,110,103,32,116,117,109,98,108,105,110,103,32,115,101,115,115,105,111,110,32,119,104,101,114,101,32]
def Om(s:Bs):Bool:=decide (s≠[])&&!Lib.contains s [32]&&Lib.contains QR (32::(s++[32]))
theorem ga(s:Bs)(hs:s.length<=1073741824):Is mx 106 [.str s] (.bool (Om s)):=by
 refine MX cQ ?_
 (repeat' first|exact Al _|simp(disch:=omega)only[go_sem,simprocAttr]|refine' Ao (fun hq=>?_) (fun f=>?_)<;>try(have jc:=hq;try simp only[HB]at jc)|refine Ab (Vu _ _ (by omega)) ?_|refine Ab (Vu QR _ (by decide)) ?_|refine Sz.s ?_|(refine And.intro ?_ ?_;focus omega))
 all_goals(simp_all[Om])
def Dg(s:Bs):Bool:=BA s&&!Om s
theorem K5(s:Bs):Is mx 76 [.str s] (.bool (Dg s)):=by
 refine MX yY ?_
 (repeat' first|exact Al _|simp(disch:=omega)only[go_sem,simprocAttr]|refine' Ao (fun hq=>?_) (fun f=>?_)<;>try(have jc:=hq;try simp only[HB]at jc)|refine Sx.s ?_ ?_<;>try(intro h;have h':=h;try simp only[HB]at h';try rewrite [h];try simp only[h])|refine Ab (ga _ (by omega)) ?_|refine Aa ?_|refine Sz.s ?_|fail)
 ·refine congrArg I.bool ?_;rcases h' with(e|e)|e
  ·subst e;rfl
  ·have:¬s.length<=24:=by omega
   simp[Dg,BA,this]
  ·simp[Dg,e]
 ·obtain⟨⟨e2,e0⟩,jn⟩:=h';have w0:Dg s=(lc (s.getD 0 0)&&s.all wc):=by
   have e3:s.length<=24:=by omega
   simp_all[Dg,BA,e3,e2]
  refine CP [0,17] (by simp only[V0,G4,reduceIte,Nat.reduceEqDiff];rfl) (fun i=>[(18,.i (iI i))]) (fun _=>[]) (fun i=>(s.take i).all wc=true/\(i≠0->lc (s.getD 0 0)=true)) s.length 0 (by omega) (by simp) ?_ ?_
  ·simp[V0,Fz,GF]
  ·intro i hi jb;have hinv1:=jb.1;have vi:=jb.2;have jy:0<s.length:=by grind
   (repeat' first|exact Al _|simp(disch:=omega)only[go_sem,simprocAttr]|refine' Ao (fun hq=>?_) (fun f=>?_)<;>try(have jc:=hq;try simp only[HB]at jc)|refine' Cf (fun hq=>?_) (fun f=>?_)<;>try(have jc:=hq;try simp only[HB]at jc)|refine Sx.s ?_ ?_<;>try(intro h;have h':=h;try simp only[HB]at h';try rewrite [h];try simp only[h])|refine Aa ?_|refine Sz.s ?_|(refine And.intro ?_ ?_;focus omega))
   all_goals first
    |(exfalso;omega)
    |(refine congrArg I.bool ?_;rw[w0];first
      |(have e:i=s.length:=by omega
        rw[e,List.take_length]at hinv1;rw[hinv1,vi (by omega)];rfl)
      |(by_cases h0:i=0
        ·subst h0;have:lc (s.getD 0 0)=false:=by grind[lc]
         rw[this];rfl
        ·have h1:0<(i:Int):=by omega
         have h2:=h' h1;rw[QC (d:=0) (i:=i) (by omega) (by simp only[wc,decide_eq_false_iff_not];omega),Bool.and_false]))
    |(refine⟨BO (d:=0) hinv1 (by omega) (by simp only[wc,decide_eq_true_eq];omega),fun _=>?_⟩
      by_cases h0:i=0
      ·subst h0;simp only[lc,decide_eq_true_eq];omega
      ·exact vi h0)
end
section
def CG{α:Type}(p:α->Bool)(l:List α):Int:=match l.findIdx? p with|some i=>i|none=>-1
theorem MB{α:Type}{p:α->Bool}{l:List α}{i:Nat}(hi:i<l.length)(hp:p l[i]=true)(hn:∀j (h:j<l.length),j<i->p l[j]=false):CG p l=i:=by have:l.findIdx? p=some i:=List.findIdx?_eq_some_iff_getElem.2 ⟨hi,hp,fun j hj=>by rw[hn j (by omega) hj];simp⟩;grind[CG]
theorem MD{α:Type}{p:α->Bool}{l:List α}(hn:∀j (h:j<l.length),p l[j]=false):CG p l=-1:=by
 have:l.findIdx? p=none:=List.findIdx?_eq_none_iff.2 fun x hx=>by obtain⟨j,hj,rfl⟩:=List.getElem_of_mem hx;exact hn j hj
 grind[CG]
theorem Vv{α:Type}{p:α->Bool}{l:List α}:(0<=CG p l)↔l.any p=true:=by grind[CG]
theorem gb(p:Fac->Bool)(l:List Fac)(f:Nat)(fs cs:List I)(hl:l.length<=1073741824)(hp:∀x∈l,Is mx f (fs++[.agg (AC x)]++cs) (.bool (p x))):
  Is mx 249 [.sl (l.map AC),.fn f fs cs] (iI (CG p l)):=by
 refine MX eJ ?_
 (repeat' first|simp(disch:=omega)only[go_sem,simprocAttr]|fail)
 refine CP [0,1,7] (by simp only[V0,G4,reduceIte,Nat.reduceEqDiff];rfl) (fun i=>[(8,.i (iI i))]) (fun _=>[]) (fun i=>∀j (h:j<l.length),j<i->p l[j]=false) l.length 0 (by omega) (by simp) ?_ ?_
 ·simp[V0,Fz,GF]
 ·intro i hi jb
  (repeat' first|simp(disch:=omega)only[go_sem,simprocAttr]|refine Sx.s ?_ ?_<;>try(intro h;have h':=h;try simp only[HB]at h';try rewrite [h];try simp only[h])|refine Ab (hp (l.getD i default) (AE (by omega))) ?_|refine Aa ?_|refine D2 ?_ ?_|refine Sz.s ?_|(refine And.intro ?_ ?_;focus omega))
  ·refine congrArg (I.int .i64) ?_;exact(MB (by omega) (by rw[<-A7 (by omega)];assumption) jb).symm
  ·intro j hj hji;by_cases e:j=i
   ·subst e;rw[<-A7 hj];assumption
   ·exact jb j hj (by omega)
  ·refine congrArg (I.int .i64) ?_;exact(MD fun j hj=>jb j hj (by omega)).symm
theorem gc(p:Fac->Bool)(l:List Fac)(f:Nat)(fs cs:List I)(hl:l.length<=1073741824)(hp:∀x∈l,Is mx f (fs++[.agg (AC x)]++cs) (.bool (p x))):
  Is mx 209 [.sl (l.map AC),.fn f fs cs] (.bool (l.any p)):=by
 refine MX dW ?_
 (repeat' first|simp(disch:=omega)only[go_sem,simprocAttr]|refine Sx.s ?_ ?_<;>try(intro h;have h':=h;try simp only[HB]at h';try rewrite [h];try simp only[h])|refine Ab (gb p _ _ _ _ hl hp) ?_|refine Sz.s ?_|fail)
 refine congrArg I.bool ?_;have:=@Vv _ p l;rw[Bool.eq_iff_iff];simpa using this
theorem ge(f:Fac):Is mx 210 [.agg (AC f)] (.bool (!Dg f.name)):=by
 refine MX dX ?_
 (repeat' first|simp(disch:=omega)only[go_sem,simprocAttr]|refine Sx.s ?_ ?_<;>try(intro h;have h':=h;try simp only[HB]at h';try rewrite [h];try simp only[h])|refine Ab (K5 _) ?_|refine Sz.s ?_|fail)
def wZ(t:Typ):Bool:=decide (t.kind<1)||decide (t.kind>5)||(decide (0<t.unit.length)&&!C7 t)
def xi(t:Typ):Bool:=(decide (t.kind=5)!=decide (t.of≠[]))||(decide (t.of≠[])&&!Dg t.of)
def xk(t:Typ):Bool:=decide (Bv t.unit≠0)||t.unit.any (fun f=>!Dg f.name)
def J3(t:Typ):Int:=if wZ t=true then 3 else if xi t=true then 3 else if xk t=true then 70 else 0
theorem gg(t:Typ)(ht:t.unit.length<=1073741824):Is mx 163 [.agg (AM t)] (iI (J3 t)):=by
 refine MX du ?_
 (repeat' first|exact Al _|simp(disch:=omega)only[go_sem,simprocAttr]|refine' Ao (fun hq=>?_) (fun f=>?_)<;>try(have jc:=hq;try simp only[HB]at jc)|refine' Cf (fun hq=>?_) (fun f=>?_)<;>try(have jc:=hq;try simp only[HB]at jc)|refine Sx.s ?_ ?_<;>try(intro h;have h':=h;try simp only[HB]at h';try rewrite [h];try simp only[h])|refine Ab (fT t) ?_|refine Ab (K5 _) ?_|refine Ab (fY _ ht) ?_|refine Ab (gc (fun f ↦ !Dg f.name) _ _ _ _ ht (fun x _ ↦ ge x)) ?_|refine Aa ?_|refine Sz.s ?_|fail)
 all_goals(refine congrArg (I.int .i64) ?_;simp only[J3,wZ,xi,xk];grind)
end
section

end
section
def Vw(a b:Xpr):Bool:=a.kind==b.kind&&(a.op==b.op&&(a.name==b.name&&(a.table==b.table&&(a.val==b.val&&(a.unit==b.unit&&(a.param==b.param&&a.win==b.win))))))
end
section
mutual
def BT:Xpr->Nat
 |.mk _ _ _ _ _ _ _ _ a=>sizeXs a+1
def sizeXs:List Xpr->Nat
 |[]=>0
 |x::r=>BT x+sizeXs r
end
mutual
def J4:Xpr->Nat
 |.mk _ _ _ _ _ _ _ _ a=>depthXs a+1
def depthXs:List Xpr->Nat
 |[]=>0
 |x::r=>max (J4 x) (depthXs r)
end
theorem J5(l:List Xpr)(k:Nat)(h:k<l.length):sizeXs (l.take (k+1))=sizeXs (l.take k)+BT l[k]:=by
 induction l generalizing k with
 |nil=>simp at h
 |cons x l ih=>grind[sizeXs]
theorem HH(l:List Xpr)(k:Nat):sizeXs (l.take k)<=sizeXs l:=by
 induction l generalizing k with
 |nil=>simp
 |cons x l ih=>cases k with
  |zero=>simp[sizeXs]
  |succ k=>simp only[List.take_succ_cons,sizeXs];have:=ih k;omega
theorem F5(x:Xpr):BT x=sizeXs x.args+1:=by cases x;rfl
theorem GJ(x:Xpr):1<=BT x:=by simp[F5]
theorem On:∀l:List Xpr,l.length<=sizeXs l
 |[]=>by simp[sizeXs]
 |x::r=>by have:=On r;have:=GJ x;simp only[List.length_cons,sizeXs];omega
theorem gh(l:List Xpr)(k:Nat)(h:k<l.length):depthXs (l.take (k+1))=max (depthXs (l.take k)) (J4 l[k]):=by
 induction l generalizing k with
 |nil=>simp at h
 |cons x l ih=>grind[depthXs]
theorem gi(x:Xpr):J4 x=depthXs x.args+1:=by cases x;rfl
mutual
theorem gj:∀x:Xpr,J4 x<=BT x
 |.mk _ _ _ _ _ _ _ _ a=>by simp[depths_sizes,J4,BT]
theorem depths_sizes:∀l:List Xpr,depthXs l<=sizeXs l
 |[]=>by simp[depthXs]
 |x::r=>by have:=gj x;have:=depths_sizes r;simp only[depthXs,sizeXs];omega
end
end
section
abbrev AO:Typ:=⟨0,[],[]⟩
def BU(r:Typ×Int):I:=.tup [.agg (AM r.1),iI r.2]
def Vx(a b:Typ):Typ×Int:=
 if a.kind≠b.kind\/a.of≠b.of then(AO,5)else if a.unit≠b.unit then(AO,70)else(a,0)
end
section
def wO(a b:List UInt8):Bool:=decide (a=b)
def wP(a b:List UInt8):Bool:=decide (a≠b)
def ME(v:Val):Bool:=decide (v.kind=2)||decide (v.kind=3)
def K6(v:Val):Bool:=decide (v.kind=4)||decide (v.kind=5)
def BZ(low:Int)(c:UInt8):Bool:=decide ((c.toNat:Int)<low)||decide (126<(c.toNat:Int))||decide ((c.toNat:Int)=34)||decide ((c.toNat:Int)=92)
def Er(v:Val):Int:=
 if(decide (v.kind<0)||decide (5<v.kind))=true then 1
 else if(!K6 v&&wP v.s [])=true then 1
 else if(!ME v&&decide (v.n≠0)&&(decide (v.kind≠1)||decide (v.n≠1)))=true then 1
 else if(decide (v.n< -1152921504606846976)||decide (1152921504606846976<v.n))=true then 2
 else if(!K6 v)=true then 0
 else if decide (v.kind=5)=true then
  if decide (32<(v.s.length:Int))=true then 2 else if(decide (v.kind=5)&&wO v.s [])=true then 3 else if v.s.any (BZ 33)=true then 3 else 0
 else if decide (64<(v.s.length:Int))=true then 2 else if v.s.any (BZ 32)=true then 3 else 0
theorem Vy(v:Val)(low:Int)(hv:Er v=if v.s.any (BZ low)=true then 3 else 0){e:Env}(h0:Dl.Sub ⟨.l [(89,.i (iI 0)),(1,.i (.elt (A9 v) 0)),(6,.i (.int .u8 low)),(88,.i (iI v.s.length))],[]⟩ ⟨e,[]⟩)(je:v.s.length<=64)
  (hs:C6 e [1,6,88]=[(1,.i (.elt (A9 v) 0)),(6,.i (.int .u8 low)),(88,.i (iI v.s.length))]):
  W2 Tryz.prog (Nt mx) (.lp (.sq [1,6,88,89,90] (.rg [⟨none,(.bin 90 .lss (.t 89) (.t 88))⟩]) (.ct [1,6,88,89] (.cond (.t 90) .skip (.exit 1)) (.ct [1,6,88,89] (.block 2 (.sq [1,6,7,88,89] (.rg [⟨none,(.mov 91 (.t 89))⟩,⟨none,(.mov 7 (.t 91))⟩]) (.sq [1,6,8,88,89] (.rg [⟨none,(.fa 92 (.t 1) 2)⟩,⟨none,(.load 93 (.t 92) 1 false)⟩,⟨none,(.mov 94 (.t 7))⟩,⟨none,(.idx 95 (.t 93) (.t 94))⟩,⟨none,(.mov 8 (.t 95))⟩]) (.sq [1,6,88,89,110] (.rg [⟨none,(.mov 96 (.t 8))⟩,⟨none,(.mov 97 (.t 6))⟩,⟨none,(.bin 98 .lss (.t 96) (.t 97))⟩,⟨none,(.mov 99 (.t 98))⟩,⟨(some (99,false)),(.mov 100 (.t 8))⟩,⟨(some (99,false)),(.bin 101 .gtr (.t 100) (.c (.int .u8 126)))⟩,⟨none,(.pick 102 (.t 99) (.c (.bool true)) (.t 101))⟩,⟨none,(.mov 103 (.t 102))⟩,⟨(some (103,false)),(.mov 104 (.t 8))⟩,⟨(some (103,false)),(.bin 105 .eql (.t 104) (.c (.int .u8 34)))⟩,⟨none,(.pick 106 (.t 103) (.c (.bool true)) (.t 105))⟩,⟨none,(.mov 107 (.t 106))⟩,⟨(some (107,false)),(.mov 108 (.t 8))⟩,⟨(some (107,false)),(.bin 109 .eql (.t 108) (.c (.int .u8 92)))⟩,⟨none,(.pick 110 (.t 107) (.c (.bool true)) (.t 109))⟩]) (.cond (.t 110) (.sq [2] (.rg [⟨none,(.mov 2 (.c (.int .i64 3)))⟩]) .ret) .skip))))) (.rg [⟨none,(.bin 111 .add (.t 89) (.c (.int .i64 1)))⟩,⟨none,(.mov 89 (.t 111))⟩]))))) (C5 1 (HE [] (W2 Tryz.prog (Nt mx) (.sq [2] (.rg [⟨none,(.mov 2 (.c (.int .i64 0)))⟩]) .ret)) (IZ [.tmp 2] [] [] (Sf (iI (Er v)))))) ⟨e,[]⟩:=by
 refine CP _ hs (fun i=>[(89,.i (iI i))]) (fun _=>[]) (fun i=>(v.s.take i).all (fun c=>!BZ low c)=true) v.s.length 0 (by omega) (by simp) h0 ?_;intro i hi jb
 (repeat' first|exact Al _|simp(disch:=omega)only[go_sem,simprocAttr]|refine' Ao (fun hq=>?_) (fun f=>?_)<;>try(have jc:=hq;try simp only[HB]at jc)|refine Sx.s ?_ ?_<;>try(intro h;have h':=h;try simp only[HB]at h';try rewrite [h];try simp only[h])|refine Aa ?_|refine Sz.s ?_|(refine And.intro ?_ ?_;focus omega))
 ·have:v.s.any (BZ low)=true:=by
   rw[List.any_eq_true];have ja:i<v.s.length:=by omega
   refine⟨v.s.getD i 0,?_,h⟩;grind
  rw[hv,if_pos this]
 ·exact BO (d:=0) jb (by omega) (by rw[show BZ low (v.s.getD i 0)=false from h];rfl)
 ·have e:i=v.s.length:=by omega
  rw[e,List.take_length]at jb;have:v.s.any (BZ low)=false:=by grind
  rw[hv,this];rfl
theorem Vz(v:Val):Is mx 105 [.agg (A9 v)] (iI (Er v)):=by
 refine MX cP ?_
 (repeat' first|exact Al _|simp(disch:=omega)only[go_sem,simprocAttr]|refine' Ao (fun hq=>?_) (fun f=>?_)<;>try(have jc:=hq;try simp only[HB]at jc)|refine' Cf (fun hq=>?_) (fun f=>?_)<;>try(have jc:=hq;try simp only[HB]at jc)|refine Sx.s ?_ ?_<;>try(intro h;have h':=h;try simp only[HB]at h';try rewrite [h];try simp only[h])|refine Aa ?_|refine Sz.s ?_|fail)
 all_goals try(refine congrArg (I.int .i64) ?_;simp only[Er,K6,ME,wO,wP];grind)
 ·refine Vy v 33 (by simp only[Er,K6,ME,wO,wP];grind) ?_ (by omega) rfl;simp[V0,Fz,GF,A9]
 ·refine Vy v 32 (by simp only[Er,K6,ME,wO,wP];grind) ?_ (by omega) rfl;simp[V0,Fz,GF,A9]
end
section
theorem Oo(x:Xpr):eE x=[.int .i64 x.kind,.str x.op,.str x.name,.str x.table,.int .i64 x.val.kind,.int .i64 x.val.n,.str x.val.s,.sl (x.unit.map AC),.int .i64 x.param,.int .i64 x.win.kind,.int .i64 x.win.size,.sl (x.args.map eE)]:=by cases x;simp[eE,Oj,Xpr.kind,Xpr.op,Xpr.name,Xpr.table,Xpr.val,Xpr.unit,Xpr.param,Xpr.win,Xpr.args]
theorem Ck{i n:Nat}(h:i<n):((i:Int)<(n:Int))=True:=by simp;omega
theorem Ie{i n:Nat}(h:¬i<n):((i:Int)<(n:Int))=False:=by simp;omega
def AX(f:Fac):Nat:=f.name.length+1
def Ag{α:Type}(b:α->Nat):List α->Nat
 |[]=>0
 |x::r=>b x+Ag b r
def Es(v:Val):Nat:=v.s.length+1
def DM(t:Typ):Nat:=Ag AX t.unit+t.of.length+1
mutual
def bX:Xpr->Nat
 |.mk _ o n t v u _ _ a=>o.length+n.length+t.length+Es v+Ag AX u+bXs a+1
def bXs:List Xpr->Nat
 |[]=>0
 |x::r=>bX x+bXs r
end
theorem HI{α:Type}{b:α->Nat}(h:∀x,1<=b x):∀l,l.length<=Ag b l
 |[]=>by simp[Ag]
 |x::r=>by have:=h x;have:=HI h r;simp only[List.length_cons,Ag];omega
theorem B0{α:Type}{b:α->Nat}:∀{l:List α} {x:α},x∈l->b x<=Ag b l
 |y::r,x,h=>by
  simp only[Ag];rcases List.mem_cons.1 h with e|e
  ·subst e;omega
  ·have:=B0 (b:=b) e;omega
theorem EL(u:List Fac):u.length<=Ag AX u:=HI (fun f=>by unfold AX;omega) u
theorem VA:∀l,bXs l=Ag bX l
 |[]=>rfl
 |x::r=>by simp[bXs,Ag,VA r]
theorem I2(x:Xpr):bX x=x.op.length+x.name.length+x.table.length+Es x.val+Ag AX x.unit+Ag bX x.args+1:=by cases x;simp only[bX,VA];rfl
theorem J6(x:Xpr):x.unit.length<=bX x:=by grind[I2,EL]
theorem HJ{x a:Xpr}(h:a∈x.args):bX a<bX x:=by grind[I2,B0,bX]
mutual
theorem MF:∀x,BT x<=bX x
 |.mk _ o n t v u _ _ a=>by have:=sizeXs_bXs a;simp only[BT,bX];omega
theorem sizeXs_bXs:∀l,sizeXs l<=bXs l
 |[]=>by simp[sizeXs,bXs]
 |x::r=>by have:=MF x;have:=sizeXs_bXs r;simp only[sizeXs,bXs];omega
end
theorem Oq(x:Xpr):x.args.length<=bX x:=by grind[I2,HI,bX]
abbrev Et:Win:=⟨0,0⟩
abbrev EM:Val:=⟨0,0,[]⟩
def BQ(l:List Bs)(x:Bs):Bool:=l.any fun y=>decide (x=y)
def gk(x:Xpr):Xpr:=
 if x.kind=1 then .mk x.kind [] x.name [] x.val x.unit 0 Et []
 else if x.kind=2\/x.kind=3\/x.kind=4 then .mk x.kind [] x.name [] EM [] 0 Et []
 else if x.kind=5 then .mk x.kind x.op [] x.table EM [] x.param x.win []
 else if x.kind=6\/x.kind=7 then .mk x.kind x.op [] [] EM [] 0 Et []
 else .mk x.kind [] [] [] EM [] 0 Et []
def gl(k:Int):Int:=if k=4\/k=6 then 1 else if k=5\/k=7\/k=9 then 2 else if k=8 then 3 else 0
def MG:Bs:=[113,117,97,110,116,105,108,101]
def I3:Bs:=[100,101,99,97,121]
def MH:Bs:=[99,111,117,110,116]
def gm(op:Bs):Int:=if op=MG then 1 else if op=I3 then 1 else 0
def gn(op:Bs):Int:=if op=MG then 1000 else if op=I3 then 1073741824 else 0
def gp(w:Win):Bool:= !(decide (w.kind<1)||decide (4<w.kind)||(decide (w.kind=1)!=decide (w.size=0))||decide (w.size<0)||decide (1099511627776<w.size))
def gq(x:Xpr):Bool:=decide (Er x.val=0)&&!decide (x.val.n<0)&&decide (J3 ⟨x.val.kind,x.unit,x.name⟩=0)
def gr(x:Xpr)(inside:Bool):Bool:= !inside&&BQ J1 x.op&&Dg x.table&&!decide (x.param<gm x.op)&&!decide (gn x.op<x.param)&&gp x.win
def gt(x:Xpr)(inside:Bool):Bool:=
 if x.kind=1 then gq x
 else if x.kind=2\/x.kind=3\/x.kind=4 then(inside==decide (x.kind=2))&&Dg x.name
 else if x.kind=5 then gr x inside
 else if x.kind=6 then BQ K4 x.op
 else if x.kind=7 then BQ J2 x.op
 else decide (x.kind=8)||decide (x.kind=9)
def Or:Xpr:=.mk 1 [] [] [] ⟨1,1,[]⟩ [] 0 Et []
def gu(x:Xpr):Bool:=Vw x (gk x)
mutual
def gv:Xpr->Bool->Bool
 |.mk k o n t v u p w a,inside=>gt (.mk k o n t v u p w a) inside&&gu (.mk k o n t v u p w a)&&decide ((a.length:Int)=gl k)&&properXs a (inside||decide (k=5))&&(!(decide (o=MH)&&decide (k=5))||Vw (a.getD 0 default) Or)
def properXs:List Xpr->Bool->Bool
 |[],_=>true
 |x::r,inside=>gv x inside&&properXs r inside
end
end
section
theorem Jo.cons{H:Type}{P:Program}{m:Nat}{t:TypeId}{ts:List TypeId}{l:List (DataW H)}(h:Jo P m (t::ts) l):∃d r,l=d::r/\Rd P m t d/\Jo P m ts r:=by
 cases l with
 |nil=>exact h.elim
 |cons d r=>exact⟨d,r,rfl,h.1,h.2⟩
theorem Jo.nil{H:Type}{P:Program}{m:Nat}{l:List (DataW H)}(h:Jo P m [] l):l=[]:=by
 cases l with
 |nil=>rfl
 |cons d r=>exact h.elim
def EN(f:Fld):Nat:=f.name.length+DM f.typ+1
def CW(t:Tbl):Nat:=t.name.length+t.entity.length+Ag EN t.fields+1
def Bc(f:Ftr):Nat:=f.name.length+f.entity.length+DM f.typ+bX f.body+1
def AV(c:Cat):Nat:=Ag CW c.tables+Ag Bc c.features+Ag Bc c.drafts+Ag Bc c.past+1
section
variable {H:Type}{n:Nat}{d:DataW H}
theorem gw(h:Rd Tryz.prog n 239 d):∃x:Fac,AJ d=AC x/\AX x<=A4 d/\True:=by obtain⟨parts,m,hm,rfl,hp⟩:=h.struct Tryz.underlying239;obtain⟨d1,r1,rfl,h1,hp⟩:=Jo.cons hp;obtain⟨d2,r2,rfl,h2,hp⟩:=Jo.cons hp;obtain rfl:=Jo.nil hp;obtain⟨a1,rfl⟩:=h1.str (by kernel_rfl);obtain⟨a2,rfl,_⟩:=h2.int (k:=.i64) (by kernel_rfl);exact⟨⟨a1,a2⟩,rfl,by simp only[A4,bulkL,AX];omega,trivial⟩
theorem VB(h:Rd Tryz.prog n 43 d):∃x:Val,AJ d=A9 x/\Es x<=A4 d/\True:=by obtain⟨parts,m,hm,rfl,hp⟩:=h.struct Tryz.underlying43;obtain⟨d1,r1,rfl,h1,hp⟩:=Jo.cons hp;obtain⟨d2,r2,rfl,h2,hp⟩:=Jo.cons hp;obtain⟨d3,r3,rfl,h3,hp⟩:=Jo.cons hp;obtain rfl:=Jo.nil hp;obtain⟨a1,rfl,_⟩:=h1.int (k:=.i64) (by kernel_rfl);obtain⟨a2,rfl,_⟩:=h2.int (k:=.i64) (by kernel_rfl);obtain⟨a3,rfl⟩:=h3.str (by kernel_rfl);exact⟨⟨a1,a2,a3⟩,rfl,by simp only[A4,bulkL,Es];omega,trivial⟩
theorem gx(h:Rd Tryz.prog n 45 d):∃x:Win,AJ d=EK x/\True:=by obtain⟨parts,m,hm,rfl,hp⟩:=h.struct Tryz.underlying45;obtain⟨d1,r1,rfl,h1,hp⟩:=Jo.cons hp;obtain⟨d2,r2,rfl,h2,hp⟩:=Jo.cons hp;obtain rfl:=Jo.nil hp;obtain⟨a1,rfl,_⟩:=h1.int (k:=.i64) (by kernel_rfl);obtain⟨a2,rfl,_⟩:=h2.int (k:=.i64) (by kernel_rfl);exact⟨⟨a1,a2⟩,rfl,trivial⟩
theorem VC(h:Rd Tryz.prog n 39 d):∃xs:List Fac,AJ d=[.sl (xs.map AC)]/\Ag AX xs+1<=A4 d/\∀x∈xs,True:=
 h.list (f:=AC) (b:=AX) (bs:=Ag AX) rfl (fun _ _=>rfl) Tryz.underlying39 fun m y _ hy=>gw hy
theorem VD(h:Rd Tryz.prog n 41 d):∃x:Typ,AJ d=AM x/\DM x<=A4 d/\True:=by obtain⟨parts,m,hm,rfl,hp⟩:=h.struct Tryz.underlying41;obtain⟨d1,r1,rfl,h1,hp⟩:=Jo.cons hp;obtain⟨d2,r2,rfl,h2,hp⟩:=Jo.cons hp;obtain⟨d3,r3,rfl,h3,hp⟩:=Jo.cons hp;obtain rfl:=Jo.nil hp;obtain⟨a1,rfl,_⟩:=h1.int (k:=.i64) (by kernel_rfl);obtain⟨a2,e2,b2,_⟩:=VC h2;obtain⟨a3,rfl⟩:=h3.str (by kernel_rfl);exact⟨⟨a1,a2,a3⟩,by simp only[AJ,flatA,e2];rfl,by simp only[A4,bulkL,DM]at b2⊢;omega,trivial⟩
theorem gy:∀(n:Nat) (d:DataW H),Rd Tryz.prog n 48 d->∃x:Xpr,AJ d=eE x/\bX x<=A4 d/\True:=by
 intro n
 induction n using Nat.strongRecOn with
 |ind n ih=>
 intro d h;obtain⟨parts,m,hm,rfl,hp⟩:=h.struct Tryz.underlying48;obtain⟨d1,r1,rfl,h1,hp⟩:=Jo.cons hp;obtain⟨d2,r2,rfl,h2,hp⟩:=Jo.cons hp;obtain⟨d3,r3,rfl,h3,hp⟩:=Jo.cons hp;obtain⟨d4,r4,rfl,h4,hp⟩:=Jo.cons hp;obtain⟨d5,r5,rfl,h5,hp⟩:=Jo.cons hp;obtain⟨d6,r6,rfl,h6,hp⟩:=Jo.cons hp;obtain⟨d7,r7,rfl,h7,hp⟩:=Jo.cons hp;obtain⟨d8,r8,rfl,h8,hp⟩:=Jo.cons hp;obtain⟨d9,r9,rfl,h9,hp⟩:=Jo.cons hp;obtain rfl:=Jo.nil hp;obtain⟨a1,rfl,_⟩:=h1.int (k:=.i64) (by kernel_rfl);obtain⟨a2,rfl⟩:=h2.str (by kernel_rfl);obtain⟨a3,rfl⟩:=h3.str (by kernel_rfl);obtain⟨a4,rfl⟩:=h4.str (by kernel_rfl);obtain⟨a5,e5,b5,_⟩:=VB h5;obtain⟨a6,e6,b6,_⟩:=VC h6;obtain⟨a7,rfl,_⟩:=h7.int (k:=.i64) (by kernel_rfl);obtain⟨a8,e8,_⟩:=gx h8;obtain⟨a9,e9,b9,_⟩:=h9.list (f:=eE) (b:=bX) (bs:=Ag bX) (Q:=fun _=>True) rfl (fun _ _=>rfl) Tryz.underlying46 fun k y hk hy=>ih k (by omega) y hy
 refine⟨.mk a1 a2 a3 a4 a5 a6 a7 a8 a9,?_,?_,trivial⟩
 ·rw[Oo];simp only[AJ,flatA,e5,e6,e8,e9];rfl
 ·rw[I2];simp only[A4,bulkL,Xpr.op,Xpr.name,Xpr.table,Xpr.val,Xpr.unit,Xpr.args]at*;omega
theorem gz(h:Rd Tryz.prog n 91 d):∃x:Fld,AJ d=BN x/\EN x<=A4 d/\True:=by obtain⟨parts,m,hm,rfl,hp⟩:=h.struct Tryz.underlying91;obtain⟨d1,r1,rfl,h1,hp⟩:=Jo.cons hp;obtain⟨d2,r2,rfl,h2,hp⟩:=Jo.cons hp;obtain rfl:=Jo.nil hp;obtain⟨a1,rfl⟩:=h1.str (by kernel_rfl);obtain⟨a2,e2,b2,_⟩:=VD h2;exact⟨⟨a1,a2⟩,by simp only[AJ,flatA,e2];rfl,by simp only[A4,bulkL,EN]at b2⊢;omega,trivial⟩
theorem gA(h:Rd Tryz.prog n 38 d):∃x:Tbl,AJ d=AP x/\CW x<=A4 d/\True:=by
 obtain⟨parts,m,hm,rfl,hp⟩:=h.struct Tryz.underlying38;obtain⟨d1,r1,rfl,h1,hp⟩:=Jo.cons hp;obtain⟨d2,r2,rfl,h2,hp⟩:=Jo.cons hp;obtain⟨d3,r3,rfl,h3,hp⟩:=Jo.cons hp;obtain⟨d4,r4,rfl,h4,hp⟩:=Jo.cons hp;obtain rfl:=Jo.nil hp;obtain⟨a1,rfl⟩:=h1.str (by kernel_rfl);obtain⟨a2,rfl⟩:=h2.str (by kernel_rfl);obtain⟨a3,e3,b3,_⟩:=h3.list (f:=BN) (b:=EN) (bs:=Ag EN) (Q:=fun _=>True) rfl (fun _ _=>rfl) Tryz.underlying36 fun m y _ hy=>gz hy
 obtain⟨a4,rfl,_⟩:=h4.int (k:=.i64) (by kernel_rfl);exact⟨⟨a1,a2,a3,a4⟩,by simp only[AJ,flatA,e3];rfl,by simp only[A4,bulkL,CW]at b3⊢;omega,trivial⟩
theorem gB(h:Rd Tryz.prog n 50 d):∃x:Ftr,AJ d=At x/\Bc x<=A4 d/\True:=by obtain⟨parts,m,hm,rfl,hp⟩:=h.struct Tryz.underlying50;obtain⟨d1,r1,rfl,h1,hp⟩:=Jo.cons hp;obtain⟨d2,r2,rfl,h2,hp⟩:=Jo.cons hp;obtain⟨d3,r3,rfl,h3,hp⟩:=Jo.cons hp;obtain⟨d4,r4,rfl,h4,hp⟩:=Jo.cons hp;obtain⟨d5,r5,rfl,h5,hp⟩:=Jo.cons hp;obtain rfl:=Jo.nil hp;obtain⟨a1,rfl⟩:=h1.str (by kernel_rfl);obtain⟨a2,rfl⟩:=h2.str (by kernel_rfl);obtain⟨a3,e3,b3,_⟩:=VD h3;obtain⟨a4,e4,b4,_⟩:=gy _ _ h4;obtain⟨a5,rfl,_⟩:=h5.int (k:=.i64) (by kernel_rfl);exact⟨⟨a1,a2,a3,a4,a5⟩,by simp only[AJ,flatA,e3,e4,At,List.append_assoc,List.cons_append,List.nil_append,List.append_nil],by simp only[A4,bulkL,Bc]at b3 b4⊢;omega,trivial⟩
end
theorem MI(t:Typ):t.unit.length<=DM t:=by grind[EL,DM]
end
section
open Go Go.Dl Go.As Go.RowKit Go.ChangeShapes Go.WideShapes
theorem Ot{P:Program}{t:TypeId}{x:I}(h:∀fs,P.underlying t≠some (.struct fs)):Fh P t [x]=x:=by simp[Fh]
theorem own:ownKnob Tryz.prog.godebug=none:=by kernel_rfl
theorem VF:laidOutB Tryz.prog=true:=by kernel_rfl
def gC:List TypeId:=[3,9,4,62,63,65,43,39,45,46,48,41,239,50,36,91,38,160,31,30,33,35,52,54,22]
theorem MJ:J0 Tryz.prog gC=true:=by kernel_rfl
def K7:List (String×DataW Unit):=[("asof/checker.aggregates",Rows.laid_asof_checker_aggregates),("asof/checker.unary",Rows.laid_asof_checker_unary),("asof/checker.binary",Rows.laid_asof_checker_binary)]
theorem QS{P:Program}{l:List TypeId}(wd:J0 P l=true){W:World}{nm:String}{g:Nat}{t:TypeId}{cs:Array Value}{fuel:Nat}{d:DataW Unit}{p:List MemPlace}{is:List I}(hg:P.globalNamed nm=some g)(hv:W.var? P nm=some cs)(ht:l.contains t=true)
  (hd:DataW.trod (fun _=>()) P W 0 (fun _=>true) false fuel t cs.toList=some (d,p))(he:AJ d=is):Rep (CF W) (.elt is 0) (.pointer (some ⟨g,0,none⟩)):=by
 have hR:=Vk wd fuel t _ _ ht hd;rw[he]at hR;have:=Rep.elt (M:=CF W) is 0 g 0 (fun j=>cs.toList.getD j Go.undef) (fun j hj=>by
  have jt:j<cs.toList.length:=by rw[hR.1];exact hj
  show W.cell? ⟨g,0+j,none⟩=_;rw[Nat.zero_add,World.var?_cell hg hv j];simp only[List.getD,List.getElem?_eq_getElem jt,Option.getD_some];simp at jt;simp[jt]) (fun j hj=>by
  have jt:j<cs.toList.length:=by rw[hR.1];exact hj
  simp only[List.getD,List.getElem?_eq_getElem jt,Option.getD_some];exact hR.2 j hj jt)
 simpa using this
theorem gD{P:Program}{w:World}{g:Nat}{t:TypeId}{k:IntKind}{zero:Array Value}(h:w.ShapedOpen P)(hg:g<P.globals.size)
  (h0:((begin P (fun _ _=>0) default).world.heap[g]?).bind Obj.row? =some (zero,t))(hz:zero.size=1)
  (hb:P.buildable t=true)(hc:P.cellTypes P.depth t=some [t])(hu:P.underlying t=some (.int k)):∃n,w.cell? ⟨g,0,none⟩=some (.int k n):=by
 obtain⟨cs,hh,hs,hr⟩:=h.1 g zero t hg h0;obtain⟨ts,hts,_,jj⟩:=hr hb;rw[hc]at hts;cases hts;have h1:0<cs.size:=by omega
 obtain⟨u,hu',kc⟩:=jj 0 cs[0] (by simp[h1]);have:u=t:=by grind
 subst this;have j0:w.cell? ⟨g,0,none⟩=some cs[0]:=by simp[World.cell?,hh,h1]
 rw[j0];unfold Cell.ok at kc;rw[hu]at kc;cases hv:cs[0]<;>rw[hv]at kc<;>simp at kc;obtain⟨rfl,_⟩:=kc;exact⟨_,rfl⟩
theorem VG{W:World}(hL:laidMetH Tryz.prog K7 W)(hS:W.ShapedOpen Tryz.prog):∃mx,Gl (Nt mx) (CF W):=by
 obtain⟨mx,hm⟩:=gD (k:=.i64) (t:=3) (g:=3) (zero:=#[.int .i64 0]) hS (of_decide_eq_true (by kernel_rfl)) (by kernel_rfl) rfl (by kernel_rfl) (by kernel_rfl) (by kernel_rfl);have h:laidMet Tryz.prog K7 W:=hL;obtain⟨ps,hv,_⟩:=h;obtain⟨g0,t0,cs0,f0,p0,q0,a1,a2,a3,a4,hv,_⟩:=hv;obtain⟨g1,t1,cs1,f1,p1,q1,b1,b2,b3,b4,hv,_⟩:=hv;obtain⟨g2,t2,cs2,f2,p2,q2,c1,c2,c3,c4,hv,_⟩:=hv;obtain rfl:0=g0:=Option.some.inj ((show Tryz.prog.globalNamed "asof/checker.aggregates"=some 0 by kernel_rfl).symm.trans a1);obtain rfl:1=g1:=Option.some.inj ((show Tryz.prog.globalNamed "asof/checker.unary"=some 1 by kernel_rfl).symm.trans b1);obtain rfl:2=g2:=Option.some.inj ((show Tryz.prog.globalNamed "asof/checker.binary"=some 2 by kernel_rfl).symm.trans c1);obtain rfl:160=t0:=Option.some.inj ((show(Tryz.prog.globals[0]?).map (·.type)=some 160 by kernel_rfl).symm.trans a2);obtain rfl:160=t1:=Option.some.inj ((show(Tryz.prog.globals[1]?).map (·.type)=some 160 by kernel_rfl).symm.trans b2);obtain rfl:160=t2:=Option.some.inj ((show(Tryz.prog.globals[2]?).map (·.type)=some 160 by kernel_rfl).symm.trans c2);have k0:=QS MJ (is:=[.sl (J1.map fun s=>[.str s])]) a1 a3 (by decide) a4 (by rfl);have k1:=QS MJ (is:=[.sl (K4.map fun s=>[.str s])]) b1 b3 (by decide) b4 (by rfl);have k2:=QS MJ (is:=[.sl (J2.map fun s=>[.str s])]) c1 c3 (by decide) c4 (by rfl);refine⟨mx,fun g cs hg=>?_⟩;simp only[Nt,List.mem_cons,List.not_mem_nil,or_false,Prod.mk.injEq]at hg;rcases hg with⟨rfl,rfl⟩|⟨rfl,rfl⟩|⟨rfl,rfl⟩|⟨rfl,rfl⟩
 ·have:=Rep.elt (M:=CF W) [.int .i64 mx] 0 3 0 (fun _=>.int .i64 mx) (fun j hj=>by
   obtain rfl:j=0:=by grind
   exact hm) (fun j hj=>by
   obtain rfl:j=0:=by grind
   exact .int _ _)
  exact this
 all_goals omega
mutual
theorem Ou{H:Type}:∀d:DataW H,Rows.uptoBulk d=A4 d
 |.lit l=>by cases l<;>rfl
 |.nil=>rfl
 |.ptr d=>by simp only[Rows.uptoBulk,A4,Ou d]
 |.slice e s=>by simp only[Rows.uptoBulk,A4,bulks_eq e,bulks_eq s]
 |.agg p=>by simp only[Rows.uptoBulk,A4,bulks_eq p]
 |.iface _ d=>by simp only[Rows.uptoBulk,A4,Ou d]
 |.map es=>by simp only[Rows.uptoBulk,A4,bulkes_eq es]
 |.held _=>rfl
theorem bulks_eq{H:Type}:∀l:List (DataW H),Rows.uptoBulkAll l=bulkL l
 |[]=>rfl
 |d::r=>by simp only[Rows.uptoBulkAll,bulkL,Ou d,bulks_eq r]
theorem bulkes_eq{H:Type}:∀l:List (Lit×DataW H),Rows.uptoBulkEntries l=bulkE l
 |[]=>rfl
 |(k,d)::r=>by cases k<;>simp only[Rows.uptoBulkEntries,Rows.uptoBulkEntry,bulkE,bulk1,Ou d,bulkes_eq r]
end
noncomputable def QT(l:List (List UInt8)):Array Value:=(l.map fun s=>Value.string ⟨s.toArray⟩).toArray
noncomputable def J7(os:Os):World:=
 let N:=(World.settled Tryz.prog os).heap.size
 let w0:=World.holding Tryz.prog os ⟨#[.cells (QT J1) 9,.cells (QT K4) 9,.cells (QT J2) 9],#[],[]⟩
 let put (h:Array Obj) (g:Nat) (cs:Array Value):Array Obj:=h.modify g fun
  |.cells _ t frozen=>.cells cs t frozen
  |o=>o
 let h0:=put w0.heap 0 #[.slice (some ⟨N,0,none⟩) 10 10]
 let h1:=put h0 1 #[.slice (some ⟨N+1,0,none⟩) 3 3]
 let h2:=put h1 2 #[.slice (some ⟨N+2,0,none⟩) 10 10]
 {w0 with heap:=h2}
noncomputable abbrev N0:Nat:=(World.settled Tryz.prog default).heap.size
theorem VH(os:Os)(args:Array Value):laidMet Tryz.prog K7 ((J7 os).forCall (fun _ _=>0) ⟨#[],args,[]⟩).memory:=
 (LaidIn.of_run (l:=K7) [0,1,2,N0,N0+1,N0+2] 8 (by kernel_rfl) (by kernel_rfl) (by kernel_rfl) (by kernel_rfl)).met
end
section
def F6(x:Fid):Nat:=x.source.length+1
def F8(x:Fct):Nat:=F6 x.id+x.table.length+x.key.length+Ag Es x.fields+1
def GK(x:Ers):Nat:=x.entity.length+x.key.length+F6 x.id+1
def Dx(x:Chg):Nat:=CW x.table+Bc x.feature+x.name.length+1
def AF(x:Ent):Nat:=F8 x.fact+GK x.erasure+Dx x.change+1
section
variable {H:Type}{n:Nat}{d:DataW H}
theorem gE(h:Rd Tryz.prog n 31 d):∃xs:List Val,AJ d=[.sl (xs.map A9)]/\Ag Es xs+1<=A4 d/\∀x∈xs,True:=
 h.list (f:=A9) (b:=Es) (bs:=Ag Es) rfl (fun _ _=>rfl) Tryz.underlying31 fun m y _ hy=>VB hy
theorem VI(h:Rd Tryz.prog n 30 d):∃x:Fid,AJ d=Ak x/\F6 x<=A4 d/\True:=by obtain⟨parts,m,hm,rfl,hp⟩:=h.struct Tryz.underlying30;obtain⟨d1,r1,rfl,h1,hp⟩:=Jo.cons hp;obtain⟨d2,r2,rfl,h2,hp⟩:=Jo.cons hp;obtain rfl:=Jo.nil hp;obtain⟨a1,rfl⟩:=h1.str (by kernel_rfl);obtain⟨a2,rfl,_⟩:=h2.int (k:=.i64) (by kernel_rfl);exact⟨⟨a1,a2⟩,by simp only[AJ,flatA,Ak,List.cons_append,List.nil_append,List.append_nil],by simp only[A4,bulkL,F6];omega,trivial⟩
theorem gG(h:Rd Tryz.prog n 33 d):∃x:Fct,AJ d=Bu x/\F8 x<=A4 d/\True:=by obtain⟨parts,m,hm,rfl,hp⟩:=h.struct Tryz.underlying33;obtain⟨d1,r1,rfl,h1,hp⟩:=Jo.cons hp;obtain⟨d2,r2,rfl,h2,hp⟩:=Jo.cons hp;obtain⟨d3,r3,rfl,h3,hp⟩:=Jo.cons hp;obtain⟨d4,r4,rfl,h4,hp⟩:=Jo.cons hp;obtain⟨d5,r5,rfl,h5,hp⟩:=Jo.cons hp;obtain⟨d6,r6,rfl,h6,hp⟩:=Jo.cons hp;obtain⟨d7,r7,rfl,h7,hp⟩:=Jo.cons hp;obtain rfl:=Jo.nil hp;obtain⟨a1,e1,b1,_⟩:=VI h1;obtain⟨a2,rfl,_⟩:=h2.int (k:=.i64) (by kernel_rfl);obtain⟨a3,rfl,_⟩:=h3.int (k:=.i64) (by kernel_rfl);obtain⟨a4,rfl⟩:=h4.str (by kernel_rfl);obtain⟨a5,rfl⟩:=h5.str (by kernel_rfl);obtain⟨a6,rfl,_⟩:=h6.int (k:=.i64) (by kernel_rfl);obtain⟨a7,e7,b7,_⟩:=gE h7;exact⟨⟨a1,a2,a3,a4,a5,a6,a7⟩,by simp only[AJ,flatA,e1,e7,Bu,List.cons_append,List.nil_append,List.append_nil],by simp only[A4,bulkL,F8]at b1 b7⊢;omega,trivial⟩
theorem gH(h:Rd Tryz.prog n 35 d):∃x:Ers,AJ d=Cy x/\GK x<=A4 d/\True:=by obtain⟨parts,m,hm,rfl,hp⟩:=h.struct Tryz.underlying35;obtain⟨d1,r1,rfl,h1,hp⟩:=Jo.cons hp;obtain⟨d2,r2,rfl,h2,hp⟩:=Jo.cons hp;obtain⟨d3,r3,rfl,h3,hp⟩:=Jo.cons hp;obtain⟨d4,r4,rfl,h4,hp⟩:=Jo.cons hp;obtain rfl:=Jo.nil hp;obtain⟨a1,rfl,_⟩:=h1.int (k:=.i64) (by kernel_rfl);obtain⟨a2,rfl⟩:=h2.str (by kernel_rfl);obtain⟨a3,rfl⟩:=h3.str (by kernel_rfl);obtain⟨a4,e4,b4,_⟩:=VI h4;exact⟨⟨a1,a2,a3,a4⟩,by simp only[AJ,flatA,e4,Cy,List.cons_append,List.nil_append,List.append_nil],by simp only[A4,bulkL,GK]at b4⊢;omega,trivial⟩
theorem gI(h:Rd Tryz.prog n 52 d):∃x:Chg,AJ d=AD x/\Dx x<=A4 d/\True:=by obtain⟨parts,m,hm,rfl,hp⟩:=h.struct Tryz.underlying52;obtain⟨d1,r1,rfl,h1,hp⟩:=Jo.cons hp;obtain⟨d2,r2,rfl,h2,hp⟩:=Jo.cons hp;obtain⟨d3,r3,rfl,h3,hp⟩:=Jo.cons hp;obtain⟨d4,r4,rfl,h4,hp⟩:=Jo.cons hp;obtain rfl:=Jo.nil hp;obtain⟨a1,rfl,_⟩:=h1.int (k:=.i64) (by kernel_rfl);obtain⟨a2,e2,b2,_⟩:=gA h2;obtain⟨a3,e3,b3,_⟩:=gB h3;obtain⟨a4,rfl⟩:=h4.str (by kernel_rfl);exact⟨⟨a1,a2,a3,a4⟩,by simp only[AJ,flatA,e2,e3,AD,List.append_assoc,List.cons_append,List.nil_append,List.append_nil],by simp only[A4,bulkL,Dx]at b2 b3⊢;omega,trivial⟩
theorem gJ(h:Rd Tryz.prog n 54 d):∃x:Ent,AJ d=Ad x/\AF x<=A4 d/\True:=by obtain⟨parts,m,hm,rfl,hp⟩:=h.struct Tryz.underlying54;obtain⟨d1,r1,rfl,h1,hp⟩:=Jo.cons hp;obtain⟨d2,r2,rfl,h2,hp⟩:=Jo.cons hp;obtain⟨d3,r3,rfl,h3,hp⟩:=Jo.cons hp;obtain⟨d4,r4,rfl,h4,hp⟩:=Jo.cons hp;obtain⟨d5,r5,rfl,h5,hp⟩:=Jo.cons hp;obtain⟨d6,r6,rfl,h6,hp⟩:=Jo.cons hp;obtain rfl:=Jo.nil hp;obtain⟨a1,rfl,_⟩:=h1.int (k:=.i64) (by kernel_rfl);obtain⟨a2,rfl,_⟩:=h2.int (k:=.i64) (by kernel_rfl);obtain⟨a3,rfl,_⟩:=h3.int (k:=.i64) (by kernel_rfl);obtain⟨a4,e4,b4,_⟩:=gG h4;obtain⟨a5,e5,b5,_⟩:=gH h5;obtain⟨a6,e6,b6,_⟩:=gI h6;exact⟨⟨a1,a2,a3,a4,a5,a6⟩,by simp only[AJ,flatA,e4,e5,e6,Ad,List.append_assoc,List.cons_append,List.nil_append,List.append_nil],by simp only[A4,bulkL,AF]at b4 b5 b6⊢;omega,trivial⟩
theorem VJ(h:Rd Tryz.prog n 22 d):∃xs:List Ent,AJ d=[.sl (xs.map Ad)]/\Ag AF xs+1<=A4 d/\∀x∈xs,True:=
 h.list (f:=Ad) (b:=AF) (bs:=Ag AF) rfl (fun _ _=>rfl) Tryz.underlying22 fun m y _ hy=>gJ hy
end
end
section

end
section
def gK(n:Int):Int:=if n<0 then-n else n
end
section
open Go.Sort Go.RowKit in
theorem gL(e:Nat)(ss:List Bs)(hl:ss.length<4611686018427387904):
  MC Tryz.prog (Nt mx) 221 [.ref (.sl 5000 1 0 ss.length)] [(5000,.rows e 1 (ss.map fun s=>[.str s]))] []
   (fun r s=>r=.i (.tup [])/\s=[(5000,.rows e 1 ((ss.mergeSort fun x y=>decide (x<=y)).map fun s=>[.str s]))]):=by
 delta MC
 intro M μ w vs h1 h2 h3;obtain⟨v,rfl,hN,a,cap,hμ,_,kd,hv⟩:∃v,vs=#[v]/\names [(5000,Blk.rows e 1 (ss.map fun s=>[.str s]))] 5000/\LM (μ 5000) 1 0 ss.length v:=by
  obtain⟨l⟩:=vs;obtain⟨hl1,hr⟩:=h3
  match l,hl1 with
  |[v],_=>exact⟨v,rfl,hr 0 (by simp) (by simp)⟩
 have ku:B9 Tryz.prog 221=true:=by kernel_rfl
 by_cases h0:ss=[]
 ·obtain⟨p,c,hvv⟩:∃p c,v=.slice p 0 c:=by
   subst h0;rcases hv with⟨_,a',e⟩|⟨b,o,_,e⟩
   ·exact⟨_,_,e⟩
   ·exact⟨_,_,e⟩
  subst hvv;refine .inl ⟨ku,(Tryz.slices_Sort_string_none p c w).mono ?_⟩;rintro e' w' ⟨rfl,rfl⟩;refine⟨_,rfl,.i (.tup []),_,M,μ,⟨rfl,rfl⟩,?_,AG (Rep.tup' (Ai.nil M)),MExt.refl _ _,Keeps.refl _ _,fun _ _ _=>rfl⟩;subst h0;simpa using h1
 have jy:0<ss.length:=by cases ss;exact(h0 rfl).elim;simp
 rcases hv with⟨rfl,a',rfl⟩|⟨b,o,rfl,rfl⟩
 ·omega
 obtain⟨a1,cap1,e1,hb⟩:=h1.blk 5000 _ rfl;rw[hμ]at e1;injection e1 with e1 e2 e3
 subst e1;subst e3;rcases hb with⟨qb,_⟩|⟨b1,o1,cur,e1,hcp,ho,hm,js,hln,hk,ju⟩
 ·omega
 injection e1 with e1;injection e1 with e1 e2
 subst e1;subst e2;have hbk:An (μ 5000)=some b:=by rw[hμ];simp only[An];rw[if_neg (by omega)]
 have j0:∀j (hj:j<ss.length),cur[o+j]? =some (encStr ss[j]):=fun j hj=>by obtain⟨v,hv,hr⟩:=ju j (by simpa using hj) 0 (by simp);simp only[List.getElem_map,List.getElem_cons_zero,Nat.mul_one,Nat.add_zero]at hv hr;rw[hv,QQ hr]
 have hH:Holds encStr w b o ss.toArray:=fun j hj=>by
  have jt:j<ss.length:=by simpa using hj
  refine⟨?_,?_⟩
  ·simp only[World.cell?,ho.heap];rw[j0 j jt];simp[jt]
  ·simp[World.frozen?,ho.heap]
 have jl:=ho.lt;simp only[Nat.zero_mul,Nat.add_zero,Nat.sub_zero];refine .inl ⟨ku,(Tryz.slices_Sort_string b o cap ss w hH jl hl).mono ?_⟩;rintro e' w' ⟨rfl,n,os,rfl⟩;generalize hS:(ss.mergeSort fun x y=>decide (x<=y))=so;have hso:so.length=ss.length:=by rw[<-hS];exact List.length_mergeSort _
 have kn:∀k,k≠b->k<w.heap.size->(grow (putRow encStr (Sort.ahead w n) b o so.toArray) os).heap[k]? =w.heap[k]? :=fun k hk zW=>by rw[heap_grow_old _ _ (by rw[size_putRow];exact zW)];simp only[putRow,mapBlock,Sort.ahead,Array.getElem?_modify];rw[if_neg (fun e=>hk e.symm)]
 have hself:(grow (putRow encStr (Sort.ahead w n) b o so.toArray) os).heap[b]? =some (.cells (putCells encStr o so.toArray cur) e (0,0)):=by rw[heap_grow_old _ _ (by rw[size_putRow];exact jl)];simp only[putRow,mapBlock,Sort.ahead,Array.getElem?_modify,if_true];rw[ho.heap];rfl
 have qp:AI (AH μ [(5000,Blk.rows e 1 (ss.map fun s=>[.str s]))] w) M μ (names (BD [(5000,Blk.rows e 1 (ss.map fun s=>[.str s]))] 5000 (.rows e 1 (so.map fun s=>[.str s])))) (grow (putRow encStr (Sort.ahead w n) b o so.toArray) os) 5000 (.rows e 1 (so.map fun s=>[.str s])):=by
  refine⟨some ⟨b,o,none⟩,cap,hμ,.inr ⟨b,o,putCells encStr o so.toArray cur,rfl,hcp,⟨ho.low,hself,ho.unk⟩,hm,?_,?_,?_,?_⟩⟩
  ·simp[putCells,js]
  ·simpa[hso]using kd
  ·intro r hr;obtain⟨s,_,rfl⟩:=List.mem_map.1 hr;rfl
  ·intro i hi j hj;have ja:i<so.length:=by simpa using hi
   have jt:j=0:=by simp at hj;omega
   subst jt;refine⟨encStr so[i],?_,?_⟩
   ·simp only[putCells,Nat.mul_one,Nat.add_zero,Array.getElem?_mapIdx];rw[j0 i (by omega)];simp[ja]
   ·simp only[List.getElem_map,List.getElem_cons_zero];exact Rep.str _
 refine⟨_,rfl,.i (.tup []),[(5000,.rows e 1 (so.map fun s=>[.str s]))],M,μ,⟨rfl,rfl⟩,?_,AG (Rep.tup' (Ai.nil M)),MExt.refl _ _,⟨rfl,rfl,rfl,?_,fun k hk=>kn k ?_ hk.1,?_⟩,fun _ _ _=>rfl⟩
 ·exact h1.setBlk (nm:=5000) (blk':=.rows e 1 (so.map fun s=>[.str s])) rfl hbk (by rw[size_grow,size_putRow];exact Nat.le_add_right _ _) kn qp
 ·rw[size_grow,size_putRow];exact Nat.le_add_right _ _
 ·intro e';subst e';exact hk.2 5000 (by simp[names,Ac]) hbk
 ·exact Nat.le_add_right w.drawn n
theorem gM(nm e:Nat)(ss:List Bs)(hn:nm<5000)(hl:ss.length<4611686018427387904):
  MC Tryz.prog (Nt mx) 221 [.ref (.sl nm 1 0 ss.length)] [(nm,.rows e 1 (ss.map fun s=>[.str s]))] []
   (fun r s=>r=.i (.tup [])/\s=[(nm,.rows e 1 ((ss.mergeSort fun x y=>decide (x<=y)).map fun s=>[.str s]))]):=by
 have e1:LL [(5000,nm)] 5000=nm:=by rfl
 have h:=(MC.as [(5000,nm)] (gL (mx:=mx) e ss hl)).mono (R':=fun r s=>r=.i (.tup [])/\s=[(nm,.rows e 1 ((ss.mergeSort fun x y=>decide (x<=y)).map fun s=>[.str s]))]) (by
  rintro r s ⟨h1,h2⟩;have k:=El (f:=Ih [(5000,nm)]) (g:=LL [(5000,nm)]) (Cq _) r;have k2:=FN (f:=Ih [(5000,nm)]) (g:=LL [(5000,nm)]) (Cq _) s;rw[h1]at k;rw[h2]at k2;refine⟨k.symm,?_⟩;rw[<-k2];simp only[Ig,KC,e1])
 simp only[List.map_cons,List.map_nil,If,Nv,Ig,KC,e1]at h;exact h
end
section
def gN(l:List Bs):List Bs:=l.mergeSort fun x y=>decide (x<=y)
theorem QU{α:Type}{l:List α}{q:Nat}(h:q<l.length):(l[q]::l.eraseIdx q).Perm l:=by
 induction l generalizing q with
 |nil=>simp at h
 |cons a l ih=>cases q with
  |zero=>simp
  |succ q=>
   have h':q<l.length:=by simpa using h
   simp only[List.getElem_cons_succ,List.eraseIdx_cons_succ];exact(List.Perm.swap a l[q] _).trans ((ih h').cons a)
end
section
def QV:List Fac->List (Bs×Int)->List (Bs×Int)
 |[],m=>m
 |f::r,m=>QV r (BG m f.name ((AR m f.name).getD 0+f.exp))
def J8(l:List Fac):Bool:=l.all fun f=>BA f.name
def MK(n:Int):Bool:=decide (n>8\/n< -8)
def QW(m:List (Bs×Int)):List Bs->List Fac->List Fac×Int
 |[],u=>if 4<u.length then([],2)else(u,0)
 |s::r,u=>
  let n:=(AR m s).getD 0
  if(!decide (gK n<=1152921504606846976)||MK n)=true then([],70)
  else if n≠0 then QW m r (u++[⟨s,n⟩])else QW m r u
def gO(l:List Fac):List Fac×Int:=
 if J8 l=true then QW (QV l []) (gN ((QV l []).map (·.1))) []else([],1)
def vV(r:List Fac×Int):I:=.tup [.sl (r.1.map AC),iI r.2]
end
section
abbrev KD:=Bs×Bs
abbrev GM(w:KD):I:=.agg [.str w.1,.str w.2]
theorem gP:KZ GM:=fun a b=>by grind[A1,cellsI,CZ]
theorem Ov:KZ (fun id:Fid=>I.agg (Ak id)):=fun a b=>by obtain⟨a1,a2⟩:=a;obtain⟨b1,b2⟩:=b;grind[A1,cellsI,CZ,Ak]
def Se(d kk:Nat):Nat->List (KD×List (List I))->List (I×Nat×D)
 |_,[]=>[]
 |k,p::r=>(GM p.1,k,.ref (.sl (Aq d k) kk 0 p.2.length))::Se d kk (k+1) r
def Bq(d e kk:Nat):Nat->List (KD×List (List I))->List (Nat×Blk)
 |_,[]=>[]
 |k,p::r=>(Aq d k,.rows e kk p.2)::Bq d e kk (k+1) r
def ML(r:Option Nat)(nm d:Nat)(ls:List LK)(clk:Nat)(es:List (I×Nat×D))(q zero:I)(e k:Nat)(st:St)(K:St->Prop):Prop:=match r with
 |some j=>Hk (es[j]?) j nm d ls clk es q st K
 |none=>Hj (Ac st.sto (Aq d clk)) nm d ls clk es q zero e k st K
@[congr] theorem ux{r r':Option Nat}{nm d:Nat}{ls:List LK}{clk:Nat}{es:List (I×Nat×D)}{q z:I}{e k:Nat}{st:St}{K:St->Prop}(h:r=r'):ML r nm d ls clk es q z e k st K=ML r' nm d ls clk es q z e k st K:=by rw[h]
@[congr] theorem uy{r r':Option (I×Nat×D)}{j nm d:Nat}{ls:List LK}{clk:Nat}{es:List (I×Nat×D)}{q:I}{st:St}{K:St->Prop}(h:r=r'):Hk r j nm d ls clk es q st K=Hk r' j nm d ls clk es q st K:=by rw[h]
@[congr] theorem uz{r r':Option Blk}{nm d:Nat}{ls:List LK}{clk:Nat}{es:List (I×Nat×D)}{q z:I}{e k:Nat}{st:St}{K:St->Prop}(h:r=r'):Hj r nm d ls clk es q z e k st K=Hj r' nm d ls clk es q z e k st K:=by rw[h]
def I4:List (KD×List (List I))->KD->List I->List (KD×List (List I))
 |[],w,x=>[(w,[x])]
 |p::r,w,x=>if p.1=w then(w,p.2++[x])::r else p::I4 r w x
@[go_sem] theorem uA(d:Nat)(ls:List LK)(st:St)(K:St->Prop):IB none d ls st K=K ((st.bind d (.gmap ls 0 [])).put d (.ref (.mp d))):=rfl
@[go_sem] theorem uC(nm:Nat)(q z:I)(ok:Bool)(ls:List LK)(d:Nat)(st:St)(K:St->Prop):Hi (.ref (.mp nm)) (.i q) z ok ls d st K=(Au ls q=true/\Gs (Ac st.sto nm) ls q z ok d st K):=rfl
@[go_sem] theorem uD(ls':List LK)(clk:Nat)(es:List (I×Nat×D))(ls:List LK)(q z:I)(ok:Bool)(d:Nat)(st:St)(K:St->Prop):Gs (some (.gmap ls' clk es)) ls q z ok d st K=(ls'=ls/\Ds ok (IC es q) z d st K):=rfl
@[go_sem] theorem uE(v:D)(z:I)(d:Nat)(st:St)(K:St->Prop):Ds false (some v) z d st K=K (st.put d v):=rfl
@[go_sem] theorem uF(z:I)(d:Nat)(st:St)(K:St->Prop):Ds false none z d st K=K (st.put d (.i z)):=rfl
@[go_sem] theorem uG(nm:Nat)(q z:I)(ls:List LK)(e k d:Nat)(st:St)(K:St->Prop):Hm (.ref (.mp nm)) (.i q) z ls e k d st K=(Au ls q=true/\Hl (Ac st.sto nm) nm d ls q z e k st K):=rfl
@[go_sem] theorem uH(ls':List LK)(clk:Nat)(es:List (I×Nat×D))(nm d:Nat)(ls:List LK)(q z:I)(e k:Nat)(st:St)(K:St->Prop):Hl (some (.gmap ls' clk es)) nm d ls q z e k st K=(ls'=ls/\ML (Hh es q) nm d ls clk es q z e k st K):=rfl
@[go_sem] theorem uI(j nm d:Nat)(ls:List LK)(clk:Nat)(es:List (I×Nat×D))(q z:I)(e k:Nat)(st:St)(K:St->Prop):ML (some j) nm d ls clk es q z e k st K=Hk (es[j]?) j nm d ls clk es q st K:=rfl
@[go_sem] theorem uJ(nm d:Nat)(ls:List LK)(clk:Nat)(es:List (I×Nat×D))(q:I)(e k:Nat)(st:St)(K:St->Prop):ML none nm d ls clk es q (.sl []) e k st K=Hj (Ac st.sto (Aq d clk)) nm d ls clk es q (.sl []) e k st K:=rfl
@[go_sem] theorem uK(nm d:Nat)(ls:List LK)(clk:Nat)(es:List (I×Nat×D))(q:I)(e k:Nat)(st:St)(K:St->Prop):Hj none nm d ls clk es q (.sl []) e k st K=K (((st.bind (Aq d clk) (.rows e k [])).setB nm (.gmap ls (clk+1) (es++[(q,clk,.ref (.sl (Aq d clk) k 0 0))]))).put d (.tup [.ref (.sl (Aq d clk) k 0 0),.i (.int .i64 clk)])):=rfl
@[go_sem] theorem uL(a:I)(c:Nat)(r:Ref)(j nm d:Nat)(ls:List LK)(clk:Nat)(es:List (I×Nat×D))(q:I)(st:St)(K:St->Prop):Hk (some (a,c,.ref r)) j nm d ls clk es q st K=K ((st.setB nm (.gmap ls clk (es.modify j fun e=>(q,e.2)))).put d (.tup [.ref r,.i (.int .i64 c)])):=rfl
@[go_sem] theorem uM(nm:Nat)(q:IntKind)(s:Int)(v:D)(st:St)(K:St->Prop):ID (.ref (.mp nm)) (.i (.int q s)) v st K=Hn (Ac st.sto nm) nm s v st K:=rfl
@[go_sem] theorem uN(ls:List LK)(clk:Nat)(es:List (I×Nat×D))(nm:Nat)(s:Int)(v:D)(st:St)(K:St->Prop):Hn (some (.gmap ls clk es)) nm s v st K=((es.any fun e=>(e.2.1:Int)==s)=true/\K (st.setB nm (.gmap ls clk (es.map fun e=>if((e.2.1:Int)==s)=true then(e.1,e.2.1,v)else e)))):=rfl
@[go_sem] theorem uO(cs:List Cp)(i d:Nat)(st:St)(K:St->Prop):Gq (.tup cs) i d st K=(i<cs.length/\K (st.put d (cs.getD i .any).toD)):=rfl
theorem K8{d a b:Nat}:Aq d a=Aq d b↔a=b:=by simp[Aq]
@[go_sem] theorem uP{d c k:Nat}(h:k<7000):(Aq d c=k)=False:=by grind[Aq]
@[go_sem] theorem uQ {d c k:Nat}(h:k<7000):(k=Aq d c)=False:=by grind[Aq]
@[go_sem] theorem uR{d c:Nat}:(Nat.blt (Aq d c) 5000||Nat.ble 5500 (Aq d c))=true:=by unfold Aq;rw[Bool.or_eq_true,Nat.ble_eq];right;omega
theorem VK(d kk:Nat):∀(A:List (KD×List (List I))) (k:Nat),(Se d kk k A).length=A.length
 |[],_=>rfl
 |p::r,k=>by simp[Se,VK d kk r]
theorem MM(d kk:Nat):∀(A:List (KD×List (List I))) (k j:Nat),(Se d kk k A)[j]? =(A[j]?).map fun p=>(GM p.1,k+j,.ref (.sl (Aq d (k+j)) kk 0 p.2.length))
 |[],_,_=>rfl
 |p::r,k,0=>rfl
 |p::r,k,j+1=>by simp only[Se,List.getElem?_cons_succ,MM d kk r (k+1) j];grind
theorem Eu(d e kk:Nat):∀(A:List (KD×List (List I))) (k j:Nat),Ac (Bq d e kk k A) (Aq d (k+j))=(A[j]?).map fun p=>.rows e kk p.2
 |[],_,_=>rfl
 |p::r,k,0=>by simp[Bq,Ac]
 |p::r,k,j+1=>by
  have h:¬Aq d k=Aq d (k+(j+1)):=by simp[K8]
  simp only[Bq,Ac,if_neg h,List.getElem?_cons_succ];rw[show k+(j+1)=k+1+j from by omega,Eu d e kk r (k+1) j]
theorem VL(d e kk:Nat){m:Nat}(hm:m<7000):∀(A:List (KD×List (List I))) (k:Nat),Ac (Bq d e kk k A) m=none
 |[],_=>rfl
 |p::r,k=>by
  have h:¬Aq d k=m:=by grind[Aq]
  simp only[Bq,Ac,if_neg h,VL d e kk hm r]
@[go_sem] theorem uS(d e kk:Nat){m k:Nat}(A:List (KD×List (List I)))(hm:m<7000):Ac (Bq d e kk k A) m=none:=VL d e kk hm A k
@[go_sem] theorem gQ(d e kk:Nat){m:Nat}(hm:m<7000):∀(A:List (KD×List (List I))) (k:Nat),BC (Bq d e kk k A) m=Bq d e kk k A
 |[],_=>rfl
 |p::r,k=>by
  have h:¬Aq d k=m:=by grind[Aq]
  simp only[Bq,BC,if_neg h,gQ d e kk hm r]
@[go_sem] theorem gR(ls:List LK)(c:Nat):(Blk.gmap ls c []).nms=[]:=rfl
@[go_sem] theorem gS(d e kk:Nat){m:Nat}(b:Blk)(hm:m<7000):∀(A:List (KD×List (List I))) (k:Nat),BD (Bq d e kk k A) m b=Bq d e kk k A
 |[],_=>rfl
 |p::r,k=>by
  have h:¬Aq d k=m:=by grind[Aq]
  simp only[Bq,BD,if_neg h,gS d e kk b hm r]
theorem VM(d e kk nm:Nat)(b:Blk):∀(A:List (KD×List (List I))) (k:Nat),Pt nm b (Bq d e kk k A)=Bq d e kk k A
 |[],_=>rfl
 |p::r,k=>by simp only[Bq,Pt,YO,VM d e kk nm b r]
theorem QX(d kk:Nat)(w:KD):∀(A:List (KD×List (List I))) (k:Nat),Hh (Se d kk k A) (GM w)=A.findIdx? fun p=>decide (p.1=w)
 |[],_=>rfl
 |p::r,k=>by have ih:=QX d kk w r (k+1);simp only[Hh]at ih⊢;rw[Se,List.findIdx?_cons,List.findIdx?_cons,gP p.1 w,ih]
theorem gT{A:List (KD×List (List I))}{w:KD}{x:List I}(h:A.findIdx? (fun p=>decide (p.1=w))=none):I4 A w x=A++[(w,[x])]:=by
 induction A with
 |nil=>rfl
 |cons p r ih=>grind[I4]
theorem gU{A:List (KD×List (List I))}{w:KD}{x:List I}{j:Nat}(h:A.findIdx? (fun p=>decide (p.1=w))=some j):∃(hj:j<A.length),A[j].1=w/\I4 A w x=A.set j (w,A[j].2++[x]):=by
 induction A generalizing j with
 |nil=>simp at h
 |cons p r ih=>
  rw[List.findIdx?_cons]at h;by_cases e:p.1=w
  ·simp[e]at h;subst h;exact⟨by simp,e,by simp[I4,e]⟩
  ·simp only[e,decide_false,Bool.false_eq_true,if_false,Option.map_eq_some_iff]at h;obtain⟨q,hq,rfl⟩:=h;obtain⟨h1,h2,h3⟩:=ih hq;exact⟨by simpa using h1,by simpa using h2,by simp[I4,if_neg e,h3]⟩
theorem VN(d kk:Nat)(q:KD×List (List I)):∀(A:List (KD×List (List I))) (k:Nat),Se d kk k (A++[q])=Se d kk k A++[(GM q.1,k+A.length,.ref (.sl (Aq d (k+A.length)) kk 0 q.2.length))]
 |[],k=>rfl
 |p::r,k=>by simp only[List.cons_append,Se,VN d kk q r (k+1),List.length_cons];rw[show k+1+r.length=k+(r.length+1)from by omega]
theorem VO(d kk:Nat):∀(A:List (KD×List (List I))) (k:Nat),(Se d kk k A).flatMap (fun e=>e.2.2.nms)=(List.range A.length).map fun j=>Aq d (k+j)
 |[],k=>rfl
 |p::r,k=>by have ih:=VO d kk r (k+1);simp only[Se,List.flatMap_cons,List.length_cons,List.range_succ_eq_map,List.map_cons,List.map_map,Nat.add_zero]at ih⊢;rw[ih];refine congrArg (Aq d k::·) (List.map_congr_left fun j _=>?_);grind
theorem QY{nm m k lo hi:Nat}{b:Blk}(h:nm≠m):Pp nm b (.ref (.sl m k lo hi))=.ref (.sl m k lo hi):=by simp[Pp,Sj,Ref.nm,Ne.symm h,Cp.toD]
theorem gV(d kk:Nat){A:List (KD×List (List I))}{j:Nat}(hj:j<A.length)(w:KD)(x:List I)(b:Blk):
  (((Se d kk 0 A).modify j (fun e=>(GM w,e.2))).map (fun e=>(e.1,e.2.1,Pp (Aq d j) b e.2.2))).map (fun e=>if((e.2.1:Int)==(j:Int))=true then(e.1,e.2.1,D.ref (.sl (Aq d j) kk 0 (A[j].2.length+1)))else e)=Se d kk 0 (A.set j (w,A[j].2++[x])):=by
 apply List.ext_getElem?;intro i;simp only[List.getElem?_map,List.getElem?_modify,MM,List.getElem?_set,Nat.zero_add];by_cases h:j=i
 ·subst h;simp[hj]
 ·have h2:¬((i:Int)=(j:Int)):=by omega
  have h3:Aq d j≠Aq d i:=by grind[K8]
  simp only[if_neg h];cases A[i]? with
  |none=>rfl
  |some p=>simp[h2,QY h3]
theorem gW(d kk:Nat)(A:List (KD×List (List I)))(w:KD)(x:List I)(b:Blk):
  ((Se d kk 0 A++[(GM w,A.length,D.ref (.sl (Aq d A.length) kk 0 0))]).map (fun e=>(e.1,e.2.1,Pp (Aq d A.length) b e.2.2))).map (fun e=>if((e.2.1:Int)==(A.length:Int))=true then(e.1,e.2.1,D.ref (.sl (Aq d A.length) kk 0 1))else e)=Se d kk 0 (A++[(w,[x])]):=by
 rw[VN];simp only[List.map_append,List.map_map,List.map_cons,List.map_nil,Nat.zero_add];congr 1
 ·conv=>rhs;rw[<-List.map_id (Se d kk 0 A)]
  refine List.map_congr_left fun e he=>?_
  obtain⟨i,hi,rfl⟩:=List.mem_iff_getElem.1 he;have jz:i<A.length:=by grind[VK]
  have e1:=MM d kk A 0 i;rw[List.getElem?_eq_getElem hi,List.getElem?_eq_getElem jz,Option.map_some,Option.some.injEq,Nat.zero_add]at e1;have h2:¬((i:Int)=(A.length:Int)):=by omega
  have h3:Aq d A.length≠Aq d i:=by grind[K8]
  rw[e1];simp[h2,QY h3]
 ·simp
@[go_sem] theorem uU(d kk:Nat){n:Nat}(b:Blk)(A:List (KD×List (List I)))(k:Nat)(hn:n<7000):(Se d kk k A).map (fun e=>(e.1,e.2.1,Pp n b e.2.2))=Se d kk k A:=by
 induction A generalizing k with
 |nil=>rfl
 |cons p r ih=>grind[Aq,Se,QY]
theorem gX(d kk:Nat){A:List (KD×List (List I))}{j:Nat}(hj:j<A.length)(q:I)(b:Blk):(((Se d kk 0 A).modify j (fun e=>(q,e.2))).map (fun e:I×Nat×D=>((e.1,e.2.1,Pp (Aq d j) b e.2.2):I×Nat×D))).any (fun e=>((e.2.1:Int)==(j:Int)))=true:=by
 rw[List.any_eq_true];have h1:(((Se d kk 0 A).modify j (fun e=>(q,e.2))).map (fun e:I×Nat×D=>((e.1,e.2.1,Pp (Aq d j) b e.2.2):I×Nat×D)))[j]? =some (q,j,Pp (Aq d j) b (.ref (.sl (Aq d j) kk 0 A[j].2.length))):=by simp_all[MM]
 grind
theorem gY(d kk:Nat)(A:List (KD×List (List I)))(q:I)(b:Blk):(((Se d kk 0 A++[(q,A.length,D.ref (.sl (Aq d A.length) kk 0 0))]).map (fun e:I×Nat×D=>((e.1,e.2.1,Pp (Aq d A.length) b e.2.2):I×Nat×D))).any (fun e=>((e.2.1:Int)==(A.length:Int))))=true:=by simp
theorem MN(d e kk:Nat){A:List (KD×List (List I))}{j:Nat}(hj:j<A.length):Ac (Bq d e kk 0 A) (Aq d j)=some (.rows e kk A[j].2):=by have:=Eu d e kk A 0 j;grind
theorem gZ(d e kk:Nat)(A:List (KD×List (List I))):Ac (Bq d e kk 0 A) (Aq d A.length)=none:=by have:=Eu d e kk A 0 A.length;grind
theorem VP(d kk:Nat){A:List (KD×List (List I))}{j:Nat}(hj:j<A.length):(Se d kk 0 A)[j]? =some (GM A[j].1,j,.ref (.sl (Aq d j) kk 0 A[j].2.length)):=by grind[MM]
theorem g9(d kk:Nat){A:List (KD×List (List I))}{q:I}{j:Nat}(h:Hh (Se d kk 0 A) q=some j)(hj:j<A.length):IC (Se d kk 0 A) q=some (.ref (.sl (Aq d j) kk 0 A[j].2.length)):=by grind[IC,VP]
theorem hJ{es:List (I×Nat×D)}{q:I}(h:Hh es q=none):IC es q=none:=by grind[IC]
@[go_sem] theorem uV{d c:Nat}:(decide (Aq d c<5000)||decide (5500<=Aq d c))=true:=by grind[Aq]
theorem hU(d e kk:Nat){A:List (KD×List (List I))}{q p:KD×List (List I)}{j:Nat}{x:Option Blk}(hp:(A++[q])[j]? =some p)(hx:j<A.length->x=Ac (Bq d e kk 0 A) (Aq d (0+j))):(if Aq d A.length=Aq d (0+j)then some (.rows e kk q.2)else x)=some (.rows e kk p.2):=by grind[K8,MN]
theorem hZ(d e kk:Nat){A:List (KD×List (List I))}{q p:KD×List (List I)}{i j:Nat}{x:Option Blk}(hi:i<A.length)(hp:(A.set i q)[j]? =some p)(hx:j<A.length->x=Ac (Bq d e kk 0 A) (Aq d (0+j))):(if Aq d (0+j)=Aq d i then some (.rows e kk q.2)else x)=some (.rows e kk p.2):=by grind[K8,MN]
theorem ic{α:Type}{A:List (KD×α)}{w:KD}(h:A.findIdx? (fun p=>decide (p.1=w))=none):AR A w=none:=by
 induction A with
 |nil=>rfl
 |cons p r ih=>grind[AR]
theorem aget_some{α:Type}{A:List (KD×α)}{w:KD}{j:Nat}(h:A.findIdx? (fun p=>decide (p.1=w))=some j):∃(hj:j<A.length),AR A w=some A[j].2:=by
 induction A generalizing j with
 |nil=>simp at h
 |cons p r ih=>
  rw[List.findIdx?_cons]at h;by_cases e:p.1=w
  ·simp[e]at h;subst h;exact⟨by simp,by simp[AR,e]⟩
  ·simp only[e,decide_false,Bool.false_eq_true,if_false,Option.map_eq_some_iff]at h;obtain⟨q,hq,rfl⟩:=h;obtain⟨h1,h2⟩:=ih hq;exact⟨by simpa using h1,by simp[AR,if_neg e,h2]⟩
end
end Go.Proofs.YtojgbkiejjingaaGreatDoor
section
namespace Go.Proofs
open Go.Shelf
def Tryz.sortFid_ren:Go.Shelf.Ren:=⟨fun|6=>54|15=>89|14=>90|28=>141|29=>142|20=>143|21=>144|22=>145|23=>146|24=>147|25=>148|26=>149|27=>150|46=>192|47=>188|48=>189|49=>193|50=>194|57=>242|n=>n,fun|22=>59|24=>30|25=>104|3=>3|39=>142|0=>0|53=>173|55=>175|4=>4|46=>166|45=>165|50=>170|5=>5|9=>9|66=>219|70=>223|76=>264|77=>265|n=>n,fun|n=>n⟩
theorem Tryz.sortFid:Go.Proofs.SlLaysF0.n6 Tryz.prog Tryz.sortFid_ren:={mixed:=by kernel_rfl,f6:=⟨Tryz.f54.name,by decide,Tryz.func54.trans (congrArg some (by kernel_rfl))⟩,f14:=⟨Tryz.f90.name,by decide,Tryz.func90.trans (congrArg some (by kernel_rfl))⟩,f15:=Tryz.func89.trans (congrArg some (by kernel_rfl)),f20:=⟨Tryz.f143.name,by decide,Tryz.func143.trans (congrArg some (by kernel_rfl))⟩,f21:=⟨Tryz.f144.name,by decide,Tryz.func144.trans (congrArg some (by kernel_rfl))⟩,f22:=⟨Tryz.f145.name,by decide,Tryz.func145.trans (congrArg some (by kernel_rfl))⟩,f23:=⟨Tryz.f146.name,by decide,Tryz.func146.trans (congrArg some (by kernel_rfl))⟩,f24:=⟨Tryz.f147.name,by decide,Tryz.func147.trans (congrArg some (by kernel_rfl))⟩,f25:=⟨Tryz.f148.name,by decide,Tryz.func148.trans (congrArg some (by kernel_rfl))⟩,f26:=⟨Tryz.f149.name,by decide,Tryz.func149.trans (congrArg some (by kernel_rfl))⟩,f27:=⟨Tryz.f150.name,by decide,Tryz.func150.trans (congrArg some (by kernel_rfl))⟩,f28:=Tryz.func141.trans (congrArg some (by kernel_rfl)),f29:=Tryz.func142.trans (congrArg some (by kernel_rfl)),f46:=⟨Tryz.f192.name,by decide,Tryz.func192.trans (congrArg some (by kernel_rfl))⟩,f47:=Tryz.func188.trans (congrArg some (by kernel_rfl)),f48:=Tryz.func189.trans (congrArg some (by kernel_rfl)),f49:=⟨Tryz.f193.name,by decide,Tryz.func193.trans (congrArg some (by kernel_rfl))⟩,f50:=⟨Tryz.f194.name,by decide,Tryz.func194.trans (congrArg some (by kernel_rfl))⟩,f57:=⟨Tryz.f242.name,by decide,Tryz.func242.trans (congrArg some (by kernel_rfl))⟩,t0:=Tryz.underlying0,a0:=Tryz.isAgg0,z0:=Tryz.sizeOf0,v0:=Tryz.zeroValue0,t3:=Tryz.underlying3,a3:=Tryz.isAgg3,z3:=Tryz.sizeOf3,v3:=Tryz.zeroValue3,t4:=Tryz.underlying4,a4:=Tryz.isAgg4,z4:=Tryz.sizeOf4,v4:=Tryz.zeroValue4,t5:=Tryz.underlying5,a5:=Tryz.isAgg5,z5:=Tryz.sizeOf5,v5:=Tryz.zeroValue5,t9:=Tryz.underlying9,a9:=Tryz.isAgg9,z9:=Tryz.sizeOf9,v9:=Tryz.zeroValue9,t22:=Tryz.underlying59,a22:=Tryz.isAgg59,z22:=Tryz.sizeOf59,v22:=Tryz.zeroValue59,t25:=Tryz.underlying104,a25:=Tryz.isAgg104,z25:=Tryz.sizeOf104,v25:=Tryz.zeroValue104,t39:=Tryz.underlying142,a39:=Tryz.isAgg142,z39:=Tryz.sizeOf142,v39:=Tryz.zeroValue142,t45:=Tryz.underlying165,a45:=Tryz.isAgg165,z45:=Tryz.sizeOf165,v45:=Tryz.zeroValue165,t46:=Tryz.underlying166,a46:=Tryz.isAgg166,z46:=Tryz.sizeOf166,v46:=Tryz.zeroValue166,t50:=Tryz.underlying170,a50:=Tryz.isAgg170,z50:=Tryz.sizeOf170,v50:=Tryz.zeroValue170,t53:=Tryz.underlying173,a53:=Tryz.isAgg173,z53:=Tryz.sizeOf173,v53:=Tryz.zeroValue173,t55:=Tryz.underlying175,a55:=Tryz.isAgg175,z55:=Tryz.sizeOf175,v55:=Tryz.zeroValue175,t66:=Tryz.underlying219,a66:=Tryz.isAgg219,z66:=Tryz.sizeOf219,v66:=Tryz.zeroValue219,t70:=Tryz.underlying223,a70:=Tryz.isAgg223,z70:=Tryz.sizeOf223,v70:=Tryz.zeroValue223,t76:=Tryz.underlying264,a76:=Tryz.isAgg264,z76:=Tryz.sizeOf264,v76:=Tryz.zeroValue264,t77:=Tryz.underlying265,a77:=Tryz.isAgg265,z77:=Tryz.sizeOf265,v77:=Tryz.zeroValue265}
def Tryz.sortRow_ren:Go.Shelf.Ren:=⟨fun|6=>53|15=>89|14=>88|28=>141|29=>142|20=>133|21=>134|22=>135|23=>136|24=>137|25=>138|26=>139|27=>140|46=>187|47=>188|48=>189|49=>190|50=>191|57=>241|n=>n,fun|22=>56|24=>68|25=>78|3=>3|39=>142|0=>0|53=>173|55=>175|4=>4|46=>166|45=>165|50=>170|5=>5|9=>9|66=>219|70=>223|76=>264|77=>265|n=>n,fun|n=>n⟩
theorem Tryz.sortRow:Go.Proofs.SlLaysF0.n6 Tryz.prog Tryz.sortRow_ren:={mixed:=by kernel_rfl,f6:=⟨Tryz.f53.name,by decide,Tryz.func53.trans (congrArg some (by kernel_rfl))⟩,f14:=⟨Tryz.f88.name,by decide,Tryz.func88.trans (congrArg some (by kernel_rfl))⟩,f15:=Tryz.func89.trans (congrArg some (by kernel_rfl)),f20:=⟨Tryz.f133.name,by decide,Tryz.func133.trans (congrArg some (by kernel_rfl))⟩,f21:=⟨Tryz.f134.name,by decide,Tryz.func134.trans (congrArg some (by kernel_rfl))⟩,f22:=⟨Tryz.f135.name,by decide,Tryz.func135.trans (congrArg some (by kernel_rfl))⟩,f23:=⟨Tryz.f136.name,by decide,Tryz.func136.trans (congrArg some (by kernel_rfl))⟩,f24:=⟨Tryz.f137.name,by decide,Tryz.func137.trans (congrArg some (by kernel_rfl))⟩,f25:=⟨Tryz.f138.name,by decide,Tryz.func138.trans (congrArg some (by kernel_rfl))⟩,f26:=⟨Tryz.f139.name,by decide,Tryz.func139.trans (congrArg some (by kernel_rfl))⟩,f27:=⟨Tryz.f140.name,by decide,Tryz.func140.trans (congrArg some (by kernel_rfl))⟩,f28:=Tryz.func141.trans (congrArg some (by kernel_rfl)),f29:=Tryz.func142.trans (congrArg some (by kernel_rfl)),f46:=⟨Tryz.f187.name,by decide,Tryz.func187.trans (congrArg some (by kernel_rfl))⟩,f47:=Tryz.func188.trans (congrArg some (by kernel_rfl)),f48:=Tryz.func189.trans (congrArg some (by kernel_rfl)),f49:=⟨Tryz.f190.name,by decide,Tryz.func190.trans (congrArg some (by kernel_rfl))⟩,f50:=⟨Tryz.f191.name,by decide,Tryz.func191.trans (congrArg some (by kernel_rfl))⟩,f57:=⟨Tryz.f241.name,by decide,Tryz.func241.trans (congrArg some (by kernel_rfl))⟩,t0:=Tryz.underlying0,a0:=Tryz.isAgg0,z0:=Tryz.sizeOf0,v0:=Tryz.zeroValue0,t3:=Tryz.underlying3,a3:=Tryz.isAgg3,z3:=Tryz.sizeOf3,v3:=Tryz.zeroValue3,t4:=Tryz.underlying4,a4:=Tryz.isAgg4,z4:=Tryz.sizeOf4,v4:=Tryz.zeroValue4,t5:=Tryz.underlying5,a5:=Tryz.isAgg5,z5:=Tryz.sizeOf5,v5:=Tryz.zeroValue5,t9:=Tryz.underlying9,a9:=Tryz.isAgg9,z9:=Tryz.sizeOf9,v9:=Tryz.zeroValue9,t22:=Tryz.underlying56,a22:=Tryz.isAgg56,z22:=Tryz.sizeOf56,v22:=Tryz.zeroValue56,t25:=Tryz.underlying78,a25:=Tryz.isAgg78,z25:=Tryz.sizeOf78,v25:=Tryz.zeroValue78,t39:=Tryz.underlying142,a39:=Tryz.isAgg142,z39:=Tryz.sizeOf142,v39:=Tryz.zeroValue142,t45:=Tryz.underlying165,a45:=Tryz.isAgg165,z45:=Tryz.sizeOf165,v45:=Tryz.zeroValue165,t46:=Tryz.underlying166,a46:=Tryz.isAgg166,z46:=Tryz.sizeOf166,v46:=Tryz.zeroValue166,t50:=Tryz.underlying170,a50:=Tryz.isAgg170,z50:=Tryz.sizeOf170,v50:=Tryz.zeroValue170,t53:=Tryz.underlying173,a53:=Tryz.isAgg173,z53:=Tryz.sizeOf173,v53:=Tryz.zeroValue173,t55:=Tryz.underlying175,a55:=Tryz.isAgg175,z55:=Tryz.sizeOf175,v55:=Tryz.zeroValue175,t66:=Tryz.underlying219,a66:=Tryz.isAgg219,z66:=Tryz.sizeOf219,v66:=Tryz.zeroValue219,t70:=Tryz.underlying223,a70:=Tryz.isAgg223,z70:=Tryz.sizeOf223,v70:=Tryz.zeroValue223,t76:=Tryz.underlying264,a76:=Tryz.isAgg264,z76:=Tryz.sizeOf264,v76:=Tryz.zeroValue264,t77:=Tryz.underlying265,a77:=Tryz.isAgg265,z77:=Tryz.sizeOf265,v77:=Tryz.zeroValue265}
end Go.Proofs
end
