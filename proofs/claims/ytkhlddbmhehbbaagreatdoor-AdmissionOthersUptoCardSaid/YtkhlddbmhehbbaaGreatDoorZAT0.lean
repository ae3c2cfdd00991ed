/-Lemmas.-/
import Derived.Test.YtkhlddbmhehbbaaGreatDoorU24
set_option linter.all false
set_option maxRecDepth 100000
set_option maxHeartbeats 8000000
namespace Go.Proofs.YtkhlddbmhehbbaaGreatDoor
open Go Go.Dl Go.As Go.Proofs
variable {mx:Int}
attribute[local irreducible] Ah Ai MC W2 EM ev evD step Ad
theorem Wj(l:List Ent)(e:Ent):Af Am (Db l e).1<=Am e/\(Db l e).1.length<=1:=by
 unfold Db;split
 ·simp[Af]
 ·simp[Af,DS,Ba]
theorem aE8(tick:Int)(x:Ers):Am (EI tick x)<=DD x+200:=by
 have h1:=DS (EI tick x);have h4:Bz CT<=40:=by decide
 have h5:Cl CU<=40:=by decide
 unfold EI at*;simp only at h1;omega
theorem aE9(tick:Int)(x:Chg):Am (K8 tick x)<=Cl x+200:=by
 have h1:=DS (K8 tick x);have h4:Bz CT<=40:=by decide
 have h5:DD JS<=40:=by decide
 unfold K8 at*;simp only at h1;omega
theorem Wk(l:List Ent)(tick:Int)(x:Ers):Af Am (CC l tick x).1<=DD x+200/\(CC l tick x).1.length<=1:=by
 have h1:=Wj l (EI tick x);have h2:=aE8 tick x;unfold CC
 repeat' split
 all_goals first|(simp[Af];done)|(exact⟨by omega,by omega⟩)
theorem aEa(l:List Ent)(tick:Int)(x:Chg):Af Am (IY l tick x).1<=Cl x+200/\(IY l tick x).1.length<=1:=by
 have h1:=Wj l (K8 tick x);have h2:=aE9 tick x;unfold IY
 repeat' split
 all_goals first|(simp[Af];done)|(exact⟨by omega,by omega⟩)
theorem Qn{m:List Ent}(hb:Af Am m<=1073700):Is mx 18 [.sl (m.map Ac),.sl (m.map Ac)] (.bool true):=by
 have wy:∀x∈m,Am x<=1073741824:=fun x hx=>by have:=Cd (b:=Am) hx;omega
 have hl:=KW m;have s1:=vA (mx:=mx) m m (by omega) (by omega) wy wy;rw[aDp]at s1;exact s1
theorem aEc(l:List Ent)(tick:Int)(x:Ers)(c:Chg)(hb:Af Am l+DD x+Cl c<=1048576):Is mx 7 [.sl (l.map Ac),iI tick,.agg (BL x),.agg (AE c)] (.bool true):=by
 have v1:=MN (mx:=mx) l (by omega);have ex:=MO (mx:=mx);cases hf:decide (l.length<=60)&&decide (AW l=0)
 ·rw[hf]at v1;refine MX F7 ?_;exact Dp (cj v1 @Bw) trivial
 rw[hf]at v1;rw[Bool.and_eq_true,decide_eq_true_eq,decide_eq_true_eq]at hf;have hsx:=NF c.feature.body;have e2:=GD c;have e3:=Hj c.feature;have z1:=aDu (mx:=mx) (Bs c.feature.body) c.feature.body 500 (Nat.le_refl _) (by omega) (by omega) (by omega);rw[HP]at z1;by_cases hz:500<szX c.feature.body 500
 ·refine MX F7 ?_;exact Dp (cj v1 (cj z1 (cj hz @Bw))) trivial
 have hn:=Qk hf.2;have c1:=Ql (mx:=mx) hf.2 tick x (by omega) (by omega);have c2:=aCr (mx:=mx) l tick x (by omega) (by omega) (fun h=>⟨by have:=hn h;omega,(hn h).1.2⟩);have c3:=aDv (mx:=mx) hf.2 tick c (by omega);have c4:=aCs (mx:=mx) l tick c (by omega) (by omega) (by have h1:=K5 l 1099511627776 l.length (Nat.le_refl _);have h2:=Hp Am l l.length;show AP (AZ l 1099511627776 l.length)+_<=_;omega) (fun h=>⟨by have:=hn h;omega,(hn h).1.2⟩);have c5:=Qn (mx:=mx) (m:=(CC l tick x).1) (by have:=Wk l tick x;omega);have c6:=Qn (mx:=mx) (m:=(IY l tick c).1) (by have:=aEa l tick c;omega);rw[Bw]at c3 c4;generalize CC l tick x=r at c1 c2 c5;generalize IY l tick c=q at c3 c4 c6;refine MX F7 ?_;exact Dp (cj v1 (cj z1 (cj hz (cj c1 (cj c2 (cj c3 (cj c4 (cj c5 (cj c6 (cj ex (cj @Ww.eq_1 @Bw))))))))))) trivial
end Go.Proofs.YtkhlddbmhehbbaaGreatDoor
