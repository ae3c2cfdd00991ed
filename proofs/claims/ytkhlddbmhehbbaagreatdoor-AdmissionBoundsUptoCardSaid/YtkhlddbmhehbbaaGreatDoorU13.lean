/-Lemmas.-/
import Derived.Test.YtkhlddbmhehbbaaGreatDoorU11
set_option linter.all false
set_option maxRecDepth 100000
set_option maxHeartbeats 8000000
namespace Go.Proofs.YtkhlddbmhehbbaaGreatDoor
open Go Go.Dl Go.As Go.Proofs
variable {mx:Int}
attribute[local irreducible] Ah Ai MC W2 EM ev evD step Ad
noncomputable def F4:FT 4:=.of Tryz.f4
noncomputable def F8:FT 8:=.of Tryz.f8 [] [] [(8,[[0]])]
noncomputable def F12:FT 12:=.of Tryz.f12
noncomputable def F16:FT 16:=.of Tryz.f16 [1058] [] [(4,[[0]])]
noncomputable def F20:FT 20:=.of Tryz.f20
noncomputable def F24:FT 24:=.of Tryz.f24 [3] [] [(11,[[0]])]
noncomputable def F28:FT 28:=.of Tryz.f28 [3033] [] [(4,[[0]])]
noncomputable def F32:FT 32:=.of Tryz.f32 [] [] [(4,[[0]])]
noncomputable def F36:FT 36:=.of Tryz.f36 [3]
noncomputable def F40:FT 40:=.of Tryz.f40
noncomputable def F44:FT 44:=.of Tryz.f44 [2]
noncomputable def F48:FT 48:=.of Tryz.f48
noncomputable def F52:FT 52:=.of Tryz.f52
noncomputable def F56:FT 56:=.of Tryz.f56
noncomputable def F60:FT 60:=.of Tryz.f60 [] [] [(13,[[0]])]
noncomputable def F64:FT 64:=.of Tryz.f64
noncomputable def F68:FT 68:=.of Tryz.f68
noncomputable def F72:FT 72:=.of Tryz.f72 [4,2] [] [(1,[[0]])]
noncomputable def F76:FT 76:=.of Tryz.f76 [] [] [(11,[[6],[7,0],[10,1,8,67],[11,0]])]
noncomputable def F82:FT 82:=.of Tryz.f82 [] [] [(1,[[0]])]
noncomputable def F86:FT 86:=.of Tryz.f86 [] [] [(2,[[0]]),(4,[[0]])]
noncomputable def F90:FT 90:=.of Tryz.f90
noncomputable def F94:FT 94:=.of Tryz.f94
noncomputable def F98:FT 98:=.of Tryz.f98 [4]
noncomputable def oJ:FT 102:=.of Tryz.f102
noncomputable def Y6:FT 106:=.of Tryz.f106 [3,25,18,13]
noncomputable def oK:FT 112:=.of Tryz.f112
noncomputable def oL:FT 117:=.of Tryz.f117
noncomputable def oM:FT 121:=.of Tryz.f121
noncomputable def oO:FT 125:=.of Tryz.f125 [] [] [(6,[[0]])]
noncomputable def oP:FT 129:=.of Tryz.f129
noncomputable def oQ:FT 133:=.of Tryz.f133
noncomputable def oR:FT 137:=.of Tryz.f137 [4,2,19,15,7]
noncomputable def oS:FT 141:=.of Tryz.f141 [2002]
noncomputable def oT:FT 145:=.of Tryz.f145 [4,2,52,47,38,25,20] [(52,2)] [(5,[[0]]),(8,[[8,1,3,2,47,47,48,8,49,48,49,50],[]])]
noncomputable def oU:FT 149:=.of Tryz.f149 [4,2,18,14,7]
noncomputable def oV:FT 153:=.of Tryz.f153
noncomputable def oW:FT 166:=.of Tryz.f166
noncomputable def oX:FT 178:=.of Tryz.f178
noncomputable def oY:FT 183:=.of Tryz.f183
noncomputable def oZ:FT 187:=.of Tryz.f187 [3024]
noncomputable def pa:FT 191:=.of Tryz.f191
noncomputable def pb:FT 195:=.of Tryz.f195 [4]
noncomputable def pc:FT 199:=.of Tryz.f199 [2004]
noncomputable def pe:FT 203:=.of Tryz.f203 [] [] [(1,[[9,3,0,3,6,2,9,9,10,2,12,12,13,2,15,15,16],[]])]
noncomputable def pf:FT 207:=.of Tryz.f207 [] [] [(13,[[0]])]
noncomputable def pg:FT 211:=.of Tryz.f211
noncomputable def ph:FT 223:=.of Tryz.f223
noncomputable def pi:FT 229:=.of Tryz.f229
noncomputable def pj:FT 233:=.of Tryz.f233 [] [] [(11,[[8],[]]),(15,[[8],[]])]
noncomputable def pm:FT 237:=.of Tryz.f237
noncomputable def pn:FT 241:=.of Tryz.f241
noncomputable def po:FT 245:=.of Tryz.f245 [6,4,43] [] [(19,[[0]])]
noncomputable def pp:FT 249:=.of Tryz.f249
noncomputable def pq:FT 254:=.of Tryz.f254
noncomputable def pr:FT 258:=.of Tryz.f258
noncomputable def pu:FT 262:=.of Tryz.f262
noncomputable def pw:FT 274:=.of Tryz.f274
noncomputable def px:FT 278:=.of Tryz.f278 [3]
noncomputable def py:FT 282:=.of Tryz.f282 [2]
noncomputable def pz:FT 287:=.of Tryz.f287 [] [] [(17,[[0]]),(19,[[0]]),(21,[[0]])]
noncomputable def pA:FT 291:=.of Tryz.f291 [6] [] [(11,[[0]]),(13,[[0]]),(21,[[0]]),(26,[[0]])]
noncomputable def pB:FT 303:=.of Tryz.f303 [6]
noncomputable def pC:FT 307:=.of Tryz.f307 [6]
noncomputable def pD:FT 320:=.of Tryz.f320
noncomputable def pE:FT 324:=.of Tryz.f324
noncomputable def pF:FT 328:=.of Tryz.f328 [6]
noncomputable def pG:FT 334:=.of Tryz.f334
noncomputable def pH:FT 341:=.of Tryz.f341
noncomputable def pI:FT 345:=.of Tryz.f345
noncomputable def pJ:FT 350:=.of Tryz.f350 [] [] [(7,[[0]])]
noncomputable def pK:FT 354:=.of Tryz.f354 [2]
noncomputable def pL:FT 358:=.of Tryz.f358 [4,27] [] [(6,[[11],[]])]
noncomputable def pM:FT 363:=.of Tryz.f363
noncomputable def pN:FT 367:=.of Tryz.f367 [25]
end Go.Proofs.YtkhlddbmhehbbaaGreatDoor
