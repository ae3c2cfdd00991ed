/-Lemmas.-/
import Derived.Test.YtojgbkiejjingaaGreatDoorV11
set_option linter.all false
set_option maxRecDepth 100000
set_option maxHeartbeats 8000000
namespace Go.Proofs.YtojgbkiejjingaaGreatDoor
open Go Go.Dl Go.As Go.Proofs
variable {mx:Int}
attribute[local irreducible] Ah Ai MC W2 Fq ev evD step Ad
noncomputable def F3:FT 3:=.of Tryz.f3
noncomputable def F11:FT 11:=.of Tryz.f11 [3] [] [(11,[[0]])]
noncomputable def F15:FT 15:=.of Tryz.f15 [] [] [(6,[[0]])]
noncomputable def F19:FT 19:=.of Tryz.f19
noncomputable def F23:FT 23:=.of Tryz.f23 [4]
noncomputable def F31:FT 31:=.of Tryz.f31 [6] [] [(1,[[0]])]
noncomputable def F35:FT 35:=.of Tryz.f35 [2]
noncomputable def F39:FT 39:=.of Tryz.f39 [] [] [(1,[[0]])]
noncomputable def F43:FT 43:=.of Tryz.f43 [6] [] [(2,[[0]])]
noncomputable def F47:FT 47:=.of Tryz.f47 [6]
noncomputable def F51:FT 51:=.of Tryz.f51 [] [] [(4,[[0]])]
noncomputable def F57:FT 57:=.of Tryz.f57 [] [] [(6,[[0]])]
noncomputable def F65:FT 65:=.of Tryz.f65 [8]
noncomputable def F69:FT 69:=.of Tryz.f69 [] [] [(5,[[0]]),(6,[[0]])]
noncomputable def F73:FT 73:=.of Tryz.f73 [] [] [(1,[[0]])]
noncomputable def F77:FT 77:=.of Tryz.f77
noncomputable def F81:FT 81:=.of Tryz.f81 [] [] [(13,[[0]])]
noncomputable def F85:FT 85:=.of Tryz.f85
noncomputable def F92:FT 92:=.of Tryz.f92 [4]
noncomputable def F96:FT 96:=.of Tryz.f96
noncomputable def mf:FT 100:=.of Tryz.f100
noncomputable def mh:FT 104:=.of Tryz.f104
noncomputable def mi:FT 108:=.of Tryz.f108
noncomputable def ml:FT 112:=.of Tryz.f112
noncomputable def mn:FT 116:=.of Tryz.f116 [4,2,19,15,7]
noncomputable def Yp:FT 120:=.of Tryz.f120 [2002]
noncomputable def mo:FT 124:=.of Tryz.f124
noncomputable def mq:FT 128:=.of Tryz.f128 [4]
noncomputable def mr:FT 132:=.of Tryz.f132 [] [] [(6,[[0]])]
noncomputable def ms:FT 154:=.of Tryz.f154
noncomputable def mt:FT 158:=.of Tryz.f158 [3024]
noncomputable def mw:FT 162:=.of Tryz.f162
noncomputable def my:FT 166:=.of Tryz.f166 [4]
noncomputable def mz:FT 170:=.of Tryz.f170 [2004]
noncomputable def mA:FT 174:=.of Tryz.f174
noncomputable def mB:FT 178:=.of Tryz.f178 [4,2,50,46,45,41,40,34,32,26,25,21,16,9] [(40,2)] [(8,[[7],[]])]
noncomputable def mC:FT 182:=.of Tryz.f182
noncomputable def mD:FT 186:=.of Tryz.f186 [] [] [(6,[[0]])]
noncomputable def mE:FT 200:=.of Tryz.f200
noncomputable def mF:FT 204:=.of Tryz.f204
noncomputable def mG:FT 208:=.of Tryz.f208 [] [] [(10,[[0]])]
noncomputable def mH:FT 212:=.of Tryz.f212
noncomputable def mI:FT 216:=.of Tryz.f216
noncomputable def Yq:FT 220:=.of Tryz.f220 [3004]
noncomputable def mJ:FT 225:=.of Tryz.f225
noncomputable def mK:FT 229:=.of Tryz.f229
noncomputable def mL:FT 233:=.of Tryz.f233
noncomputable def mM:FT 237:=.of Tryz.f237 [6]
noncomputable def mO:FT 249:=.of Tryz.f249
noncomputable def mP:FT 253:=.of Tryz.f253
noncomputable def mQ:FT 257:=.of Tryz.f257 [] [] [(6,[[0]])]
noncomputable def mR:FT 262:=.of Tryz.f262
noncomputable def mS:FT 266:=.of Tryz.f266
noncomputable def mT:FT 270:=.of Tryz.f270 [] [] [(6,[[0]])]
noncomputable def mU:FT 282:=.of Tryz.f282 [6]
noncomputable def mV:FT 286:=.of Tryz.f286 [6]
noncomputable def mW:FT 299:=.of Tryz.f299
noncomputable def mX:FT 303:=.of Tryz.f303 [0]
noncomputable def mY:FT 307:=.of Tryz.f307 [4]
noncomputable def mZ:FT 313:=.of Tryz.f313
noncomputable def m5:FT 320:=.of Tryz.f320 [] [] [(6,[[0]])]
noncomputable def m6:FT 324:=.of Tryz.f324 [6]
noncomputable def m7:FT 328:=.of Tryz.f328
noncomputable def m8:FT 333:=.of Tryz.f333
noncomputable def m9:FT 337:=.of Tryz.f337 [] [] [(7,[[0]])]
noncomputable def nc:FT 341:=.of Tryz.f341 [2]
noncomputable def ne:FT 345:=.of Tryz.f345 [6] [] [(6,[[7],[]])]
noncomputable def ng:FT 350:=.of Tryz.f350 [4,27] [] [(6,[[11],[]])]
noncomputable def Yr:FT 354:=.of Tryz.f354
noncomputable def nh:FT 358:=.of Tryz.f358 [25]
noncomputable def ni:FT 362:=.of Tryz.f362 [2] [] [(1,[[0]])]
end Go.Proofs.YtojgbkiejjingaaGreatDoor
