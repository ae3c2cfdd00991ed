/-Lemmas.-/
import Derived.Test.YtojgbkiejjingaaGreatDoorV10
import Derived.Test.YtojgbkiejjingaaGreatDoorProg
set_option linter.all false
set_option maxRecDepth 100000
set_option maxHeartbeats 8000000
namespace Go.Proofs.YtojgbkiejjingaaGreatDoor
open Go Go.Dl Go.As Go.Proofs
variable {mx:Int}
attribute[local irreducible] Ah Ai MC W2 Fq ev evD step Ad
def Ij:List (List UInt8):=[[99,111,117,110,116],[115,117,109],[109,101,97,110],[109,105,110],[109,97,120],[102,105,114,115,116],[108,97,115,116],[100,105,115,116,105,110,99,116],[113,117,97,110,116,105,108,101],[100,101,99,97,121]]
def Jg:List (List UInt8):=[[45],[110,111,116],[110,117,108,108]]
def Ik:List (List UInt8):=[[43],[45],[42],[47],[61,61],[33,61],[60],[60,61],[97,110,100],[111,114]]
def Mi(mx:Int):List (Nat×List I):=[(3,[.int .i64 mx]),(0,[.sl (Ij.map fun s=>[.str s])]),(1,[.sl (Jg.map fun s=>[.str s])]),(2,[.sl (Ik.map fun s=>[.str s])])]
variable {mx:Int}
theorem GLe:KS (Mi mx) 0=[.sl (Ij.map fun s=>[.str s])]/\KS (Mi mx) 1=[.sl (Jg.map fun s=>[.str s])]/\KS (Mi mx) 2=[.sl (Ik.map fun s=>[.str s])]:=⟨rfl,rfl,rfl⟩
noncomputable def Q0:Program:=⟨Tryz.progTables,#[]⟩
abbrev FT:=FP Tryz.prog Q0 Mi
end Go.Proofs.YtojgbkiejjingaaGreatDoor
