/-Lemmas.-/
import Derived.Test.YtkhlddbmhehbbaaGreatDoorU11
set_option linter.all false
set_option maxRecDepth 100000
set_option maxHeartbeats 8000000
namespace Go.Proofs.YtkhlddbmhehbbaaGreatDoor
open Go Go.Dl Go.As Go.Proofs
variable {mx:Int}
attribute[local irreducible] Ah Ai MC W2 EM ev evD step Ad
noncomputable def F5:FT 5:=.of Tryz.f5 [11,67]
noncomputable def F9:FT 9:=.of Tryz.f9
noncomputable def F13:FT 13:=.of Tryz.f13
noncomputable def F17:FT 17:=.of Tryz.f17 [] [] [(3,[[0]]),(6,[[0]])]
noncomputable def F21:FT 21:=.of Tryz.f21
noncomputable def F25:FT 25:=.of Tryz.f25
noncomputable def F29:FT 29:=.of Tryz.f29 [] [] [(3,[[0]])]
noncomputable def F33:FT 33:=.of Tryz.f33 [2]
noncomputable def F37:FT 37:=.of Tryz.f37 [2]
noncomputable def F41:FT 41:=.of Tryz.f41 [2]
noncomputable def F45:FT 45:=.of Tryz.f45
noncomputable def F49:FT 49:=.of Tryz.f49
noncomputable def F53:FT 53:=.of Tryz.f53 [] [] [(1,[[0]])]
noncomputable def F57:FT 57:=.of Tryz.f57
noncomputable def F61:FT 61:=.of Tryz.f61 [] [] [(4,[[0]]),(5,[[0]])]
noncomputable def F65:FT 65:=.of Tryz.f65 [] [] [(6,[[0]])]
noncomputable def F69:FT 69:=.of Tryz.f69
noncomputable def F73:FT 73:=.of Tryz.f73
noncomputable def F78:FT 78:=.of Tryz.f78 [] [] [(3,[[0]])]
noncomputable def F83:FT 83:=.of Tryz.f83 [6] [] [(2,[[0]])]
noncomputable def F87:FT 87:=.of Tryz.f87
noncomputable def F91:FT 91:=.of Tryz.f91
noncomputable def F95:FT 95:=.of Tryz.f95
noncomputable def F99:FT 99:=.of Tryz.f99
noncomputable def Y7:FT 103:=.of Tryz.f103 [] [] [(9,[[0]])]
noncomputable def pO:FT 107:=.of Tryz.f107 [4]
noncomputable def pP:FT 113:=.of Tryz.f113
noncomputable def pQ:FT 118:=.of Tryz.f118 [] [] [(4,[[0]])]
noncomputable def pR:FT 122:=.of Tryz.f122
noncomputable def pS:FT 126:=.of Tryz.f126
noncomputable def pT:FT 130:=.of Tryz.f130
noncomputable def pU:FT 134:=.of Tryz.f134 [4,2,52,48,47,43,42,36,34,27,26,22,17,9] [(42,2)] [(8,[[7],[]])]
noncomputable def pV:FT 138:=.of Tryz.f138
noncomputable def pW:FT 142:=.of Tryz.f142
noncomputable def pX:FT 146:=.of Tryz.f146 [4,3,2,41,37,36,32,26,13,11,7]
noncomputable def pY:FT 150:=.of Tryz.f150 [] [] [(7,[[0]])]
noncomputable def pZ:FT 154:=.of Tryz.f154 [1045]
noncomputable def p5:FT 167:=.of Tryz.f167
noncomputable def p6:FT 179:=.of Tryz.f179
noncomputable def p7:FT 184:=.of Tryz.f184 [] [] [(11,[[8],[]]),(15,[[8],[]])]
noncomputable def p8:FT 188:=.of Tryz.f188 [5014] [] [(4,[[5,1,1,5,15,3,16,16,17],[]])]
noncomputable def p9:FT 192:=.of Tryz.f192
noncomputable def qA:FT 196:=.of Tryz.f196 [3]
noncomputable def qB:FT 200:=.of Tryz.f200
noncomputable def qC:FT 204:=.of Tryz.f204 [] [] [(2,[[0]]),(5,[[7,1,3,0,32,5,33,32,33,34],[]])]
noncomputable def qD:FT 208:=.of Tryz.f208
noncomputable def qE:FT 212:=.of Tryz.f212 [] [] [(6,[[0]])]
noncomputable def qF:FT 224:=.of Tryz.f224
noncomputable def qG:FT 230:=.of Tryz.f230
noncomputable def qH:FT 234:=.of Tryz.f234
noncomputable def qI:FT 238:=.of Tryz.f238 [] [] [(10,[[0]])]
noncomputable def qJ:FT 242:=.of Tryz.f242
noncomputable def qK:FT 246:=.of Tryz.f246
noncomputable def qL:FT 250:=.of Tryz.f250 [3004]
noncomputable def qM:FT 255:=.of Tryz.f255
noncomputable def qN:FT 259:=.of Tryz.f259 [] [] [(7,[[0]]),(9,[[0]])]
noncomputable def qO:FT 263:=.of Tryz.f263 [] [] [(7,[[0]])]
noncomputable def qP:FT 271:=.of Tryz.f271
noncomputable def qQ:FT 275:=.of Tryz.f275
noncomputable def qR:FT 279:=.of Tryz.f279
noncomputable def qS:FT 284:=.of Tryz.f284
noncomputable def qT:FT 288:=.of Tryz.f288 [] [] [(6,[[0]])]
noncomputable def qU:FT 292:=.of Tryz.f292
noncomputable def qV:FT 304:=.of Tryz.f304 [6]
noncomputable def qW:FT 308:=.of Tryz.f308 [13,6,142,133,130] [] [(1,[[0]])]
noncomputable def qX:FT 321:=.of Tryz.f321
noncomputable def qY:FT 325:=.of Tryz.f325 [4]
noncomputable def qZ:FT 329:=.of Tryz.f329 [4]
noncomputable def rd:FT 335:=.of Tryz.f335
noncomputable def T6:FT 342:=.of Tryz.f342
noncomputable def re:FT 347:=.of Tryz.f347
noncomputable def rh:FT 351:=.of Tryz.f351 [] [] [(6,[[0]]),(8,[[0]])]
noncomputable def ri:FT 355:=.of Tryz.f355
noncomputable def rk:FT 359:=.of Tryz.f359
noncomputable def rl:FT 364:=.of Tryz.f364 [2]
noncomputable def rp:FT 368:=.of Tryz.f368 [] [] [(4,[[0]]),(5,[[0]])]
noncomputable def rq:FT 372:=.of Tryz.f372 [2] [] [(1,[[0]])]
end Go.Proofs.YtkhlddbmhehbbaaGreatDoor
