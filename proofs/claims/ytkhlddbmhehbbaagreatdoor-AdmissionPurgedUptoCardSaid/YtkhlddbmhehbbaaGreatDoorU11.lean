/-Lemmas.-/
import Derived.Test.YtkhlddbmhehbbaaGreatDoorU10
import Derived.Test.YtkhlddbmhehbbaaGreatDoorProg
set_option linter.all false
set_option maxRecDepth 100000
set_option maxHeartbeats 8000000
namespace Go.Proofs.YtkhlddbmhehbbaaGreatDoor
open Go Go.Dl Go.As Go.Proofs
variable {mx:Int}
attribute[local irreducible] Ah Ai MC W2 EM ev evD step Ad
def IA:List (List UInt8):=[[99,111,117,110,116],[115,117,109],[109,101,97,110],[109,105,110],[109,97,120],[102,105,114,115,116],[108,97,115,116],[100,105,115,116,105,110,99,116],[113,117,97,110,116,105,108,101],[100,101,99,97,121]]
def JC:List (List UInt8):=[[45],[110,111,116],[110,117,108,108]]
def IB:List (List UInt8):=[[43],[45],[42],[47],[61,61],[33,61],[60],[60,61],[97,110,100],[111,114]]
def OE(mx:Int):List (Nat×List I):=[(3,[.int .i64 mx]),(0,[.sl (IA.map fun s=>[.str s])]),(1,[.sl (JC.map fun s=>[.str s])]),(2,[.sl (IB.map fun s=>[.str s])])]
variable {mx:Int}
theorem GLe:Lt (OE mx) 0=[.sl (IA.map fun s=>[.str s])]/\Lt (OE mx) 1=[.sl (JC.map fun s=>[.str s])]/\Lt (OE mx) 2=[.sl (IB.map fun s=>[.str s])]:=⟨rfl,rfl,rfl⟩
noncomputable def Q0:Program:=⟨Tryz.progTables,#[]⟩
abbrev FT:=FP Tryz.prog Q0 OE
end Go.Proofs.YtkhlddbmhehbbaaGreatDoor
