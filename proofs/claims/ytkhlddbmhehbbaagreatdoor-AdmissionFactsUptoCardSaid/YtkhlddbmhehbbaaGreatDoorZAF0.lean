/-Lemmas.-/
import Derived.Test.YtkhlddbmhehbbaaGreatDoorU24
set_option linter.all false
set_option maxRecDepth 100000
set_option maxHeartbeats 8000000
namespace Go.Proofs.YtkhlddbmhehbbaaGreatDoor
open Go Go.Dl Go.As Go.Proofs
variable {mx:Int}
attribute[local irreducible] Ah Ai MC W2 EM ev evD step Ad
theorem Wj(l:List Ent)(e:Ent):Af Am (Db l e).1<=Am e/\(Db l e).1.length<=1:=by
 unfold Db;split
 ·simp[Af]
 ·simp[Af,DS,Ba]
theorem fB(tick:Int)(f:Fct):Am (BN tick f)<=Bz f+200:=by
 have h1:=DS (BN tick f);have h4:DD JS<=40:=by decide
 have h5:Cl CU<=40:=by decide
 unfold BN at*;simp only at h1;omega
theorem SC(l:List Ent)(p:Pol)(tick:Int)(f:Fct):Af Am (Bg l p tick f).1<=Bz f+200/\(Bg l p tick f).1.length<=1:=by
 have h1:=Wj l (BN tick f);have h2:=fB tick f;unfold Bg
 repeat' split
 all_goals first|(simp[Af];done)|(exact⟨by omega,by omega⟩)
theorem Qn{m:List Ent}(hb:Af Am m<=1073700):Is mx 18 [.sl (m.map Ac),.sl (m.map Ac)] (.bool true):=by
 have wy:∀x∈m,Am x<=1073741824:=fun x hx=>by have:=Cd (b:=Am) hx;omega
 have hl:=KW m;have s1:=vA (mx:=mx) m m (by omega) (by omega) wy wy;rw[aDp]at s1;exact s1
theorem aEb(l:List Ent)(p:Pol)(tick:Int)(f:Fct)(hb:Af Am l+Bz f<=1048576):Is mx 4 [.sl (l.map Ac),.agg (Bf p),iI tick,.agg (Ap f)] (.bool true):=by
 have v1:=MN (mx:=mx) l (by omega);have ex:=MO (mx:=mx);cases hf:decide (l.length<=60)&&decide (AW l=0)
 ·rw[hf]at v1;refine MX F4 ?_;exact Dp v1 trivial
 rw[hf]at v1;rw[Bool.and_eq_true,decide_eq_true_eq,decide_eq_true_eq]at hf;have hn:=Qk hf.2;have c1:=EL (mx:=mx) hf.2 p tick f (by omega) (by omega);have c2:=aCt (mx:=mx) l p tick f (by omega) (by omega) (by omega) (fun h=>⟨⟨by have:=hn h;omega,(hn h).1.2⟩,(hn h).2⟩);have c3:=Qn (mx:=mx) (m:=(Bg l p tick f).1) (by have:=SC l p tick f;omega);generalize Bg l p tick f=r at c1 c2 c3;refine MX F4 ?_;exact Dp (cj v1 (cj c1 (cj c2 (cj c3 (cj ex (cj @DK @Ww.eq_1)))))) trivial
end Go.Proofs.YtkhlddbmhehbbaaGreatDoor
