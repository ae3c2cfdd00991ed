/-Lemmas.-/
import Derived.Test.YtkhlddbmhehbbaaGreatDoorU24
set_option linter.all false
set_option maxRecDepth 100000
set_option maxHeartbeats 8000000
namespace Go.Proofs.YtkhlddbmhehbbaaGreatDoor
open Go Go.Dl Go.As Go.Proofs
variable {mx:Int}
attribute[local irreducible] Ah Ai MC W2 EM ev evD step Ad
theorem aE7(l:List Ent)(p:Pol)(f:Fct)(hb:Af Am l+Bz f<=1048576):Is mx 3 [.sl (l.map Ac),.agg (Bf p),.agg (Ap f)] (.bool true):=by
 have v1:=MN (mx:=mx) l (by omega);have ex:=MO (mx:=mx);cases hf:decide (l.length<=60)&&decide (AW l=0)
 ·rw[hf]at v1;refine MX F3 ?_;exact Dp v1 trivial
 rw[hf]at v1;rw[Bool.and_eq_true,decide_eq_true_eq,decide_eq_true_eq]at hf;have c1:=SA (mx:=mx) hf.2 f (by omega);have c2:=eS (mx:=mx) l f (by omega) (by omega);have c3:=eT (mx:=mx) p;have c4:=VW (mx:=mx) p;generalize A7 l f=n at c1 c2;generalize CM p=e at c3 c4;refine MX F3 ?_;exact Dp (cj v1 (cj c1 (cj c2 (cj c3 (cj c4 (cj ex @DK)))))) trivial
end Go.Proofs.YtkhlddbmhehbbaaGreatDoor
