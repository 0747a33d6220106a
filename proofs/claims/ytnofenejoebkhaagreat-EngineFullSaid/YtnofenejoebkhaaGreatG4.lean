/- PART 4 OF WHAT THE LAW EngineFull STANDS ON: SrtH5, SrtI5, SrtJ5, SrtK5, SrtL5, RefA5, RefB5, RefC5, RefD5, IterA, IterB5, IterC5, IterD5, RefG5, MrkA5, MrkB5, RetG5, IterB6, IterC6, IterD6, RunP5, LogF5, PlyF5, FunE5, FunG5, FunH5, MakA5, PlyG5, MakB5, LogA5, TskF5, TskA5, LogB5, TskP5, TskB5, TskC5. Conditions: none but those that each lemma states. -/
import Derived.Test.YtnofenejoebkhaaGreatG3
import Derived.RangeFuncGives
import Derived.RangeFuncLeaves
import Derived.RangeFuncOwn
import Derived.Maps.OwnIn
import Derived.Maps.AppendAt
import Derived.WalkKit
import Derived.RegionIn
import Derived.LoopNIn
import Derived.LoopIn
import Derived.TacticsInMore
import Derived.Shelf.Abstract
namespace Go.Proofs.YtnofenejoebkhaaGreat.Ev
open Go
set_option linter.defProp false
section
def Pt(a e i j:Nat)(g:Nat->Int):Prop:=(∀k,a<k->k<i->g k<g a)/\(∀k,j<k->k<e->g a<=g k)
def u5(a e m:Nat)(g:Nat->Int):Prop:=(∀k,a<=k->k<m->g k<=g m)/\(∀k,m<k->k<e->g m<=g k)
def Pt.ext{a e i j i' j':Nat}{g:Nat->Int}(H:Pt a e i j g)(hi: ∀k,i<=k->k<i'->g k<g a)(hj: ∀k,j'<k->k<=j->g a<=g k):Pt a e i' j' g:=
 ⟨λk h1 h2=>by
  by_cases h:k<i
  ·exact H.1 k h1 h
  ·exact hi k Y h2,λk h1 h2=>by
  by_cases h:j<k
  ·exact H.2 k h h2
  ·exact hj k h1 Y⟩
def Pt.fin{a e i j:Nat}{g:Nat->Int}(H:Pt a e i j g)(ha:a<=j)(hi:i=j+1):u5 a e j (swp g j a):=by
 subst hi;refine⟨λk h1 h2=> ?_,λk h1 h2=> ?_⟩
 ·rw[ib];by_cases hk:k=a
  ·subst hk;rw[lQ];exact Int.le_of_lt (H.1 j h2 Y)
  ·rw[df g Y hk];exact Int.le_of_lt (H.1 k Y Y)
 ·rw[ib,df g Y Y];exact H.2 k h1 h2
def Pt.swap{a e i j:Nat}{g:Nat->Int}(H:Pt a e i j g)(ha:a<i)(hij:i<j)(hi:g a<=g i)(hj:g j<g a):Pt a e (i+1) (j-1) (swp g i j):=by
 refine⟨λk h1 h2=> ?_,λk h1 h2=> ?_⟩
 ·rw[df g (k:=a) Y Y];by_cases hk:k=i
  ·subst hk;rw[ib];exact hj
  ·rw[df g hk Y];exact H.1 k h1 Y
 ·rw[df g (k:=a) Y Y];by_cases hk:k=j
  ·subst hk;rw[lQ];exact hi
  ·rw[df g Y hk];exact H.2 k Y h2
section
variable {b n a e c:Nat}{sp:List Value}{K:KK}
def Cc{h:aA}{j:Nat}{g:Nat->Int}(A:bI .u32 h b n g sp)(hj:j<n)(ha:a<=j)(hK: ∀h',bI .u32 h' b n (swp g j a) sp->aF [b] h h'->K (.tuple #[ac (j:Int),aq]) h'):
  F321.wk21 (some (ah b)) n c a j h K:=by
 unfold F321.wk21 F321.Jk21;refine A.ld rfl Y (A.ld rfl Y (A.sto rfl Y λk1 A1 O1=>⟨rfl,rfl,A1.sto rfl Y λk2 A2 O2=> ?_⟩));exact hK k2 A2 (O1.trans O2 Z)
def CE(he:e<=n)(hn:n<=LB/4):
  ∀(d i j:Nat) (g:Nat->Int) (h:aA),bI .u32 h b n g sp->a<i->i<=j+1->j<e->j+1<=i+d->Pt a e i j g->
   (∀h' m g',bI .u32 h' b n g' sp->cP a e g g'->u5 a e m g'->a<=m->m<e->aF [b] h h'->K (.tuple #[ac (m:Int),aq]) h')->F321.wL13 (d+1) (some (ah b)) n c a i j h K:=by
 intro d;have hLB:LB=140737488355328:=rfl
 induction d using Nat.strongRecOn with
 |_ d ih=>
  intro i j g h A ha hij hj hd P hK;unfold F321.wL13 F321.JL13;refine⟨_,Cu A Y Y hn (j+1-i) i Y λi' h1 h2 h3 h4=> ?_⟩;unfold F321.wk15 F321.Jk15;refine⟨_,CV A he Y hn Y (j+1-i') j hj Y λj' h5 h6 h7 h8=> ?_⟩;have P':=P.ext h3 h7;unfold F321.wk17 F321.Jk17;refine aH (λhc=> ?_) λhc=> ?_
  ·simp only[decide_eq_true_eq]at hc;exact Cc A Y Y λh' A' O'=>hK h' j' _ A' (cP.one g Y Y Y Y) (P'.fin Y Y) Y Y O'
  ·simp only[decide_eq_false_iff_not]at hc
   have q1:g a<=g i':=by
                 rcases h4 with h|h
                 ·omega
                 ·exact h
   have q2:g j'<g a:=by
                 rcases h8 with h|h
                 ·omega
                 ·exact h
   have hne:i'≠j':=λe=>by subst e;omega
   refine A.ld rfl Y (A.ld rfl Y (A.sto rfl Y λk1 A1 O1=>⟨rfl,rfl,A1.sto rfl Y λk2 A2 O2=> ?_⟩));have A2':bI .u32 k2 b n (swp g i' j') sp:=A2;rw[show ai ((i':Int)+1)=((i'+1:Nat):Int) by rw[aV Y Y];omega,show ai ((j':Int)-1)=((j'-1:Nat):Int) by rw[aV Y Y];omega];cases d with
   |zero=>omega
   |succ d=>
    exact ih d Y (i'+1) (j'-1) _ k2 A2' Y Y Y Y (P'.swap Y Y q1 q2) λh' m g' A' S' R' m1 m2 O'=>hK h' m g' A' ((cP.one g Y Y Y Y).trans S') R' m1 m2 ((O1.trans O2 Z).trans O' Z)
def xy{h:aA}{g:Nat->Int}{pv:Nat}(A:bI .u32 h b n g sp)(he:e<=n)(ha:a+1<e)(hp:a<=pv)(hp':pv<e)(hn:n<=LB/4)
  (hK: ∀h' m g' f,bI .u32 h' b n g' sp->cP a e g g'->u5 a e m g'->a<=m->m<e->aF [b] h h'->K (.tuple #[ac (m:Int),aw f]) h'):
  Cl 321 [.slice (some (ah b)) n c,ac a,ac e,ac pv] h K:=by
 refine F321.spec _ _ _ _ _ _ h K ?_;have hLB:LB=140737488355328:=rfl;unfold F321.w F321.J0;refine A.ld rfl Y (A.ld rfl Y (A.sto rfl Y λk1 A1 O1=>⟨rfl,rfl,A1.sto rfl Y λk2 A2 O2=> ?_⟩));have A2':bI .u32 k2 b n (swp g a pv) sp:=A2;clear A2;have S0:cP a e g (swp g a pv):=cP.one g Y Y Y Y;have O12:=O1.trans O2 Z;rw[show ai ((a:Int)+1)=((a+1:Nat):Int) by rw[aV Y Y];omega,show ai ((e:Int)-1)=((e-1:Nat):Int) by rw[aV Y Y];omega];generalize swp g a pv=g2 at A2' S0;unfold F321.wk3 F321.Jk3;refine⟨_,Cr A2' Y Y hn (e-1+1-(a+1)) (a+1) Y λi' h1 h2 h3 h4=> ?_⟩;unfold F321.wk5 F321.Jk5;refine⟨_,BX A2' he Y hn Y (e-1+1-i') (e-1) Y Y λj' h5 h6 h7 h8=> ?_⟩;have P':Pt a e i' j' g2:=Pt.ext (i:=a+1) (j:=e-1) ⟨λk _ _=>Y,λk _ _=>Y⟩ h3 h7;unfold F321.wk7 F321.Jk7;refine aH (λhc=> ?_) λhc=> ?_
 ·simp only[decide_eq_true_eq]at hc;refine A2'.ld rfl Y (A2'.ld rfl Y (A2'.sto rfl Y λk3 A3 O3=>⟨rfl,rfl,A3.sto rfl Y λk4 A4 O4=> ?_⟩));exact hK k4 j' (swp g2 j' a) true A4 (S0.trans (cP.one g2 Y Y Y Y)) (P'.fin Y Y) Y Y ((O12.trans O3 Z).trans O4 Z)
 ·simp only[decide_eq_false_iff_not]at hc
  have q1:g2 a<=g2 i':=by
                 rcases h4 with h|h
                 ·omega
                 ·exact h
  have q2:g2 j'<g2 a:=by
                 rcases h8 with h|h
                 ·omega
                 ·exact h
  have hne:i'≠j':=λe=>by subst e;omega
  refine A2'.ld rfl Y (A2'.ld rfl Y (A2'.sto rfl Y λk3 A3 O3=>⟨rfl,rfl,A3.sto rfl Y λk4 A4 O4=> ?_⟩));have A4':bI .u32 k4 b n (swp g2 i' j') sp:=A4;rw[show ai ((i':Int)+1)=((i'+1:Nat):Int) by rw[aV Y Y];omega,show ai ((j':Int)-1)=((j'-1:Nat):Int) by rw[aV Y Y];omega];unfold F321.wk13 F321.Jk13;exact⟨_,CE he hn e (i'+1) (j'-1) _ k4 A4' Y Y Y Y (P'.swap Y Y q1 q2) λh' m g' A' S' R' m1 m2 O'=>hK h' m g' false A' ((S0.trans (cP.one g2 Y Y Y Y)).trans S') R' m1 m2 (((O12.trans O3 Z).trans O4 Z).trans O' Z)⟩
end
end
section
def Pe(a e i j:Nat)(g:Nat->Int):Prop:=(∀k,a<k->k<i->g k<=g a)/\(∀k,j<k->k<e->g a<g k)
def Pe.ext{a e i j i' j':Nat}{g:Nat->Int}(H:Pe a e i j g)(hi: ∀k,i<=k->k<i'->g k<=g a)(hj: ∀k,j'<k->k<=j->g a<g k):Pe a e i' j' g:=
 ⟨λk h1 h2=>by
  by_cases h:k<i
  ·exact H.1 k h1 h
  ·exact hi k Y h2,λk h1 h2=>by
  by_cases h:j<k
  ·exact H.2 k h h2
  ·exact hj k h1 Y⟩
def Pe.swap{a e i j:Nat}{g:Nat->Int}(H:Pe a e i j g)(ha:a<i)(hij:i<j)(hi:g a<g i)(hj:g j<=g a):Pe a e (i+1) (j-1) (swp g i j):=by
 refine⟨λk h1 h2=> ?_,λk h1 h2=> ?_⟩
 ·rw[df g (k:=a) Y Y];by_cases hk:k=i
  ·subst hk;rw[ib];exact hj
  ·rw[df g hk Y];exact H.1 k h1 Y
 ·rw[df g (k:=a) Y Y];by_cases hk:k=j
  ·subst hk;rw[lQ];exact hi
  ·rw[df g Y hk];exact H.2 k Y h2
section
variable {b n a e c:Nat}{sp:List Value}{K:KK}
def Cm(he:e<=n)(hn:n<=LB/4)(v:Int):
  ∀(d i j:Nat) (g:Nat->Int) (h:aA),bI .u32 h b n g sp->a<i->i<=j+1->j<e->j+1<=i+d->Pe a e i j g->g a=v->
   (∀h' m g',bI .u32 h' b n g' sp->cP a e g g'->(∀k,a<=k->k<m->g' k<=v)->(∀k,m<=k->k<e->v<g' k)->a<m->m<=e->aF [b] h h'->K (ac (m:Int)) h')->F320.wL3 (d+1) (some (ah b)) n c a i j h K:=by
 intro d;have hLB:LB=140737488355328:=rfl
 induction d using Nat.strongRecOn with
 |_ d ih=>
  intro i j g h A ha hij hj hd P hv hK;unfold F320.wL3 F320.JL3;refine⟨_,Eh A Y Y hn (j+1-i) i Y λi' h1 h2 h3 h4=> ?_⟩;unfold F320.wk5 F320.Jk5;refine⟨_,EN A he Y hn Y (j+1-i') j hj Y λj' h5 h6 h7 h8=> ?_⟩;have P':=P.ext h3 h7;unfold F320.wk7 F320.Jk7;refine aH (λhc=> ?_) λhc=> ?_
  ·simp only[decide_eq_true_eq]at hc;refine hK h i' g A (.refl g) (λk k1 k2=> ?_) (λk k1 k2=> ?_) Y Y (aF.refl _ _)
   ·by_cases hk:k=a
    ·subst hk;omega
    ·have:=P'.1 k Y k2;omega
   ·have:=P'.2 k Y k2;omega
  ·simp only[decide_eq_false_iff_not]at hc
   have q1:g a<g i':=by
                 rcases h4 with h|h
                 ·omega
                 ·exact h
   have q2:g j'<=g a:=by
                 rcases h8 with h|h
                 ·omega
                 ·exact h
   have hne:i'≠j':=λe=>by subst e;omega
   refine A.ld rfl Y (A.ld rfl Y (A.sto rfl Y λk1 A1 O1=>⟨rfl,rfl,A1.sto rfl Y λk2 A2 O2=> ?_⟩));have A2':bI .u32 k2 b n (swp g i' j') sp:=A2;rw[show ai ((i':Int)+1)=((i'+1:Nat):Int) by rw[aV Y Y];omega,show ai ((j':Int)-1)=((j'-1:Nat):Int) by rw[aV Y Y];omega];cases d with
   |zero=>omega
   |succ d=>
    exact ih d Y (i'+1) (j'-1) _ k2 A2' Y Y Y Y (P'.swap Y Y q1 q2) (by rw[df g Y Y];exact hv)
     λh' m g' A' S' R1 R2 m1 m2 O'=>hK h' m g' A' ((cP.one g Y Y Y Y).trans S') R1 R2 m1 m2 ((O1.trans O2 Z).trans O' Z)
def Bq{h:aA}{g:Nat->Int}{pv:Nat}(A:bI .u32 h b n g sp)(he:e<=n)(ha:a+1<e)(hp:a<=pv)(hp':pv<e)(hn:n<=LB/4)
  (hK: ∀h' m g',bI .u32 h' b n g' sp->cP a e g g'->(∀k,a<=k->k<m->g' k<=g pv)->(∀k,m<=k->k<e->g pv<g' k)->a<m->m<=e->aF [b] h h'->K (ac (m:Int)) h'):
  Cl 320 [.slice (some (ah b)) n c,ac a,ac e,ac pv] h K:=by
 refine F320.spec _ _ _ _ _ _ h K ?_;have hLB:LB=140737488355328:=rfl;unfold F320.w F320.J0;refine A.ld rfl Y (A.ld rfl Y (A.sto rfl Y λk1 A1 O1=>⟨rfl,rfl,A1.sto rfl Y λk2 A2 O2=> ?_⟩));have A2':bI .u32 k2 b n (swp g a pv) sp:=A2;clear A2;have S0:cP a e g (swp g a pv):=cP.one g Y Y Y Y;have O12:=O1.trans O2 Z;rw[show ai ((a:Int)+1)=((a+1:Nat):Int) by rw[aV Y Y];omega,show ai ((e:Int)-1)=((e-1:Nat):Int) by rw[aV Y Y];omega];have hv:=ib g a pv;generalize swp g a pv=g2 at A2' S0 hv;unfold F320.wk3 F320.Jk3
 exact⟨_,Cm he hn (g pv) e (a+1) (e-1) g2 k2 A2' Y Y Y Y ⟨λk _ _=>Y,λk _ _=>Y⟩ hv
  λh' m g' A' S' R1 R2 m1 m2 O'=>hK h' m g' A' (S0.trans S') R1 R2 m1 m2 (O12.trans O' Z)⟩
variable {h:aA}{B:Nat}{s:Int}{g:Nat->Int}
def rG{i j:Nat}(A:bI .u32 h b n g sp)(AB:At h B [ac s])(hB:B≠b)(hi:i<n)(hj:j<n)
  (hK: ∀h' s' p q,(p=i/\q=j)\/(p=j/\q=i)->bI .u32 h' b n g sp->At h' B [ac s']->aF [B] h h'->K (.tuple #[ac ((p:Nat):Int),ac ((q:Nat):Int)]) h'):
  Cl 366 [.slice (some (ah b)) n c,ac i,ac j,ag (ah B)] h K:=by
 refine F366.spec ?_;refine A.ld rfl Y (A.ld rfl Y (dr ?_));rw[bC];refine aH (λhl=> ?_) λhl=> ?_
 ·rw[show rd h (ah B)=some (ac s)from AB.rd 0,aU,aE];refine aK AB Z rfl λh1 A1 O1 _=> ?_;exact hK h1 _ j i (.inr ⟨rfl,rfl⟩) (A.only O1 (by simpa using Ne.symm hB)) A1 O1
 ·exact hK h s i j (.inl ⟨rfl,rfl⟩) A AB (aF.refl _ _)
def zI{i j k:Nat}(A:bI .u32 h b n g sp)(AB:At h B [ac s])(hB:B≠b)(hi:i<n)(hj:j<n)(hk:k<n)
  (hK: ∀h' s' m,m=i\/m=j\/m=k->bI .u32 h' b n g sp->At h' B [ac s']->aF [B] h h'->K (ac ((m:Nat):Int)) h'):
  Cl 347 [.slice (some (ah b)) n c,ac i,ac j,ac k,ag (ah B)] h K:=by
 refine F347.spec ?_;refine rG A AB hB hi hj λh1 s1 p q hpq A1 AB1 O1=>⟨_,_,rfl,?_⟩;refine rG A1 AB1 hB Y hk λh2 s2 p2 q2 hpq2 A2 AB2 O2=>⟨_,_,rfl,?_⟩;refine rG A2 AB2 hB Y Y λh3 s3 p3 q3 hpq3 A3 AB3 O3=>⟨_,_,rfl,?_⟩;exact hK h3 s3 q3 Y A3 AB3 ((O1.trans O2 Z).trans O3 Z)
def vG{i:Nat}(A:bI .u32 h b n g sp)(AB:At h B [ac s])(hB:B≠b)(hi:1<=i)(hi':i+1<n)(hn:n<=LB/4)
  (hK: ∀h' s' m,i<=m+1->m<=i+1->bI .u32 h' b n g sp->At h' B [ac s']->aF [B] h h'->K (ac ((m:Nat):Int)) h'):
  Cl 346 [.slice (some (ah b)) n c,ac i,ag (ah B)] h K:=by
 refine F346.spec ?_;have hLB:LB=140737488355328:=rfl;rw[show ai ((i:Int)+1)=((i+1:Nat):Int) by rw[aV Y Y];omega,show ai ((i:Int)-1)=((i-1:Nat):Int) by rw[aV Y Y];omega];exact zI A AB hB Y Y Y λh' s' m hm A' AB' O'=>by rw[aU];exact hK h' s' m Y Y A' AB' O'
def DE(A:bI .u32 h b n g sp)(he:e<=n)(ha:a+12<e)(hn:n<=LB/4)
  (hK: ∀h' pv (t:Int),bI .u32 h' b n g sp->a<=pv->pv<e->aF [] h h'->K (.tuple #[ac ((pv:Nat):Int),ac t]) h'):
  Cl 316 [.slice (some (ah b)) n c,ac a,ac e] h K:=by
 refine F316.spec ?_;have hLB:LB=140737488355328:=rfl;obtain⟨d,rfl⟩: ∃d,e=a+d:=⟨e-a,Y⟩;refine aM λh1 A1 O1 z1=>⟨by decide,by decide,by decide,?_⟩;rw[show ai (((a+d:Nat):Int)-(a:Int))=(d:Int) by rw[aV Y Y];omega];have w0:ai (Int.tdiv (d:Int) 4)=((d/4:Nat):Int):=by rw[Int.tdiv_eq_ediv_of_nonneg Y,aV Y Y];omega
 have wm: ∀q:Nat,q<=3->ai ((a:Int)+ai (((d/4:Nat):Int)*(q:Int)))=((a+d/4*q:Nat):Int):=λq hq=>by
  have:d/4*q<=d:=by have:=Nat.mul_le_mul_left (d/4) hq;omega
  have e1:((d/4:Nat):Int)*(q:Int)=((d/4*q:Nat):Int):=Z;rw[e1];generalize d/4*q=z at this;rw[aV (x:=(z:Int)) Y Y,aV Y Y];omega
 have w1:=wm 1 Y;have w2:=wm 2 Y;have w3:=wm 3 Y;rw[w0,show(1:Int)=((1:Nat):Int)from rfl,show(2:Int)=((2:Nat):Int)from rfl,show(3:Int)=((3:Nat):Int)from rfl,w1,w2,w3];rw[show decide ((d:Int)>=8)=true by simp;omega,aG];have A0:bI .u32 h1 b n g sp:=A.only O1 Z;have hb:=A.lt
 have fin: ∀(h2:aA) (s:Int) (m:Nat),a<=m->m<a+d->bI .u32 h2 b n g sp->At h2 h.size [ac s]->aF [] h h2->F316.wk12 (ah h.size) m h2 K:=by intro h2 s m m1 m2 A2 AB2 O2;unfold F316.wk12;rw[show rd h2 (ah h.size)=some (ac s)from AB2.rd 0,aU];refine aH (λ_=>hK h2 m _ A2 m1 m2 O2) λ_=>aH (λ_=>hK h2 m _ A2 m1 m2 O2) λ_=>hK h2 m _ A2 m1 m2 O2
 have k11: ∀(h2:aA) (s:Int) (i j k:Nat),a<=i->i<a+d->a<=j->j<a+d->a<=k->k<a+d->bI .u32 h2 b n g sp->At h2 h.size [ac s]->aF [] h h2->F316.wk11 (some (ah b)) n c (ah h.size) i j k h2 K:=by intro h2 s i j k i1 i2 j1 j2 kk1 kk2 A2 AB2 O2;unfold F316.wk11;refine zI A2 AB2 Y Y Y Y λh3 s3 m hm A3 AB3 O3=> ?_;rw[aU];exact fin h3 s3 m Y Y A3 AB3 (O2.trans O3 Z)
 refine aH (λhc=> ?_) λhc=> ?_
 ·simp only[decide_eq_true_eq]at hc;refine vG A0 A1 Y Y Y hn λh2 s2 m2 p1 p2 A2 AB2 O2=> ?_;rw[aU];refine vG A2 AB2 Y Y Y hn λh3 s3 m3 p3 p4 A3 AB3 O3=> ?_;rw[aU];refine vG A3 AB3 Y Y Y hn λh4 s4 m4 p5 p6 A4 AB4 O4=> ?_;rw[aU];exact k11 h4 s4 m2 m3 m4 Y Y Y Y Y Y A4 AB4 (((O1.trans O2 Z).trans O3 Z).trans O4 Z)
 ·exact k11 h1 0 _ _ _ Y Y Y Y Y Y A0 A1 O1
end
end
section
def Lb(a e:Nat)(g:Nat->Int):Prop:=a=0\/ ∀k,a<=k->k<e->g (a-1)<=g k
def Lb.swp{a e:Nat}{g g':Nat->Int}(H:Lb a e g)(S:cP a e g g'):Lb a e g':=by
 rcases H with h|h
 ·exact .inl h
 ·by_cases h0:a=0
  ·exact .inl h0
  ·refine .inr ?_;rw[S.out (k:=a-1) (.inl Y)];exact S.all h
def d9.snoc{a i:Nat}{g:Nat->Int}(H:d9 a i g)(h:g (i-1)<=g i)(ha:a<i):d9 a (i+1) g:=λp q h1 h2 h3=>by
 by_cases hq:q=i
 ·subst hq;by_cases hp:p=q-1
  ·subst hp;exact h
  ·exact Int.le_trans (H p (q-1) h1 Y Y) h
 ·exact H p q h1 h2 Y
def d9.out{a i e:Nat}{g g':Nat->Int}(H:d9 a i g)(S:cP i e g g'):d9 a i g':=λp q h1 h2 h3=>by rw[S.out (k:=p) (.inl Y),S.out (k:=q) (.inl h3)];exact H p q h1 h2 h3
section
variable {b n a e c:Nat}{sp:List Value}{K:KK}{bk:(ak)->Nat->Nat->Int->Int->Int->Int->aA->Prop}
def xU{s:Int}(he:e<=n)(hn:n<=LB/4){i:Nat}: ∀(d j:Nat) (g:Nat->Int) (h:aA),bI .u32 h b n g sp->i<j->j+d=e->
  (∀h' g',bI .u32 h' b n g' sp->cP i e g g'->aF [b] h h'->bk (some (ah b)) n c a e i (ai (s+1)) h')->F318.wL20 bk (d+1) (some (ah b)) n c a e i s j h K:=by
 intro d;have hLB:LB=140737488355328:=rfl
 induction d with
 |zero=>
  intro j g h A hj hd hK;unfold F318.wL20 F318.JL20;rw[show decide ((j:Int)<(e:Int))=false by simp;omega];exact hK h g A (.refl g) (aF.refl _ _)
 |succ d ih=>
  intro j g h A hj hd hK;unfold F318.wL20 F318.JL20;rw[show decide ((j:Int)<(e:Int))=true by simp;omega,aG,show ai ((j:Int)-1)=((j-1:Nat):Int) by rw[aV Y Y];omega];refine A.ld rfl Y (A.ld rfl Y (dr ?_));rw[bC];refine aH (λhl=> ?_) λhl=> ?_
  ·exact hK h g A (.refl g) (aF.refl _ _)
  ·refine A.ld rfl Y (A.ld rfl Y (A.sto rfl Y λk1 A1 O1=>⟨rfl,rfl,rfl,A1.sto rfl Y λk2 A2 O2=> ?_⟩));have A2':bI .u32 k2 b n (swp g j (j-1)) sp:=A2;rw[show ai ((j:Int)+1)=((j+1:Nat):Int) by rw[aV Y Y];omega];exact ih (j+1) _ k2 A2' Y Y λh' g' A' S' O'=>hK h' g' A' ((cP.one g Y Y Y Y).trans S') ((O1.trans O2 Z).trans O' Z)
def sg{s:Int}(he:e<=n)(hn:n<=LB/4){i:Nat}{g:Nat->Int}{h:aA}(A:bI .u32 h b n g sp)(hi:i<e)
  (hK: ∀h' g',bI .u32 h' b n g' sp->cP i e g g'->aF [b] h h'->bk (some (ah b)) n c a e i (ai (s+1)) h'):F318.wk18 bk (some (ah b)) n c a e i s h K:=by
 have hLB:LB=140737488355328:=rfl;unfold F318.wk18 F318.Jk18;rw[show ai ((e:Int)-(i:Int))=((e-i:Nat):Int) by rw[aV Y Y];omega,show ai ((i:Int)+1)=((i+1:Nat):Int) by rw[aV Y Y];omega];refine aH (λhc=> ?_) λhc=> ?_
 ·unfold F318.wk20 F318.Jk20;exact⟨_,xU he hn (e-(i+1)) (i+1) g h A Y Y hK⟩
 ·exact hK h g A (.refl g) (aF.refl _ _)
def Af{s:Int}(he:e<=n)(hn:n<=LB/4){i:Nat}(hi:i<e)(hai:a<i): ∀(j:Nat) (g:Nat->Int) (h:aA),bI .u32 h b n g sp->Lb a e g->uB a (i-1) j g->a<=j->j<=i-1->
  (∀h' g',bI .u32 h' b n g' sp->cP a e g g'->d9 a i g'->aF [b] h h'->bk (some (ah b)) n c a e i (ai (s+1)) h')->F318.wL14 bk (j+1) (some (ah b)) n c a e i s j h K:=by
 intro j;have hLB:LB=140737488355328:=rfl
 induction j with
 |zero=>
  intro g h A L I ha hj hK;unfold F318.wL14 F318.JL14;rw[show decide (((0:Nat):Int)>=1)=false by simp];have R:=I.stop (.inl Y);rw[show i-1+1=i by omega]at R;exact sg he hn A hi λh' g' A' S' O'=>hK h' g' A' (S'.mono Y (Nat.le_refl _)) (R.out S') O'
 |succ j ih=>
  intro g h A L I ha hj hK;unfold F318.wL14 F318.JL14;rw[show decide (((j+1:Nat):Int)>=1)=true by simp;omega,aG,show ai (((j+1:Nat):Int)-1)=(j:Int) by rw[aV Y Y];omega];refine A.ld rfl Y (A.ld rfl Y (dr ?_));rw[bC];refine aH (λhl=> ?_) λhl=> ?_
  ·simp only[Bool.not_eq_true',decide_eq_false_iff_not]at hl;have R:=I.stop (.inr (by rw[show j+1-1=j by omega];omega));rw[show i-1+1=i by omega]at R;exact sg he hn A hi λh' g' A' S' O'=>hK h' g' A' (S'.mono Y (Nat.le_refl _)) (R.out S') O'
  ·simp only[Bool.not_eq_false',decide_eq_true_eq]at hl
   have haj:a<=j:=by
    rcases Nat.lt_or_ge j a with h|h
    ·have:a=j+1:=Y;rcases L with L|L
     ·omega
     ·have:=L (j+1) Y Y;rw[show a-1=j by omega]at this;omega
    ·exact h
   refine A.ld rfl Y (A.ld rfl Y (A.sto rfl Y λk1 A1 O1=>⟨rfl,rfl,rfl,A1.sto rfl Y λk2 A2 O2=> ?_⟩));have A2':bI .u32 k2 b n (swp g (j+1) j) sp:=A2;have S2:cP a e g (swp g (j+1) j):=cP.one g Y Y Y Y;have I2:=I.step Y hj (by rw[show j+1-1=j by omega];exact hl);rw[show j+1-1=j by omega]at I2;exact ih _ k2 A2' (L.swp S2) I2 Y Y λh' g' A' S' R' O'=>hK h' g' A' (S2.trans S') R' ((O1.trans O2 Z).trans O' Z)
def Et{s:Int}{g:Nat->Int}{h:aA}(A:bI .u32 h b n g sp)(he:e<=n)(hn:n<=LB/4): ∀(d i:Nat),i+d=e->a<i->d9 a i g->
  (∀i',a<i'->i'<=e->d9 a i' g->(i'=e\/g i'<g (i'-1))->F318.wk7 bk (some (ah b)) n c a e i' s h K)->F318.wL5 bk (d+1) (some (ah b)) n c a e i s h K:=by
 intro d;have hLB:LB=140737488355328:=rfl
 induction d with
 |zero=>
  intro i hd ha R hK;unfold F318.wL5 F318.JL5;rw[show decide ((i:Int)<(e:Int))=false by simp;omega];exact hK i ha Y R (.inl Y)
 |succ d ih=>
  intro i hd ha R hK;unfold F318.wL5 F318.JL5;rw[show decide ((i:Int)<(e:Int))=true by simp;omega,aG,show ai ((i:Int)-1)=((i-1:Nat):Int) by rw[aV Y Y];omega];refine A.ld rfl Y (A.ld rfl Y (dr ?_));rw[bC];refine aH (λhl=> ?_) λhl=> ?_
  ·simp only[Bool.not_eq_true',decide_eq_false_iff_not]at hl;rw[show ai ((i:Int)+1)=((i+1:Nat):Int) by rw[aV Y Y];omega];exact ih (i+1) Y Y (R.snoc Y ha) hK
  ·simp only[Bool.not_eq_false',decide_eq_true_eq]at hl;exact hK i ha Y R (.inr hl)
def Dt(he:e<=n)(hn:n<=LB/4): ∀(t s i:Nat) (g:Nat->Int) (h:aA),bI .u32 h b n g sp->Lb a e g->s+t=5->a<i->i<=e->d9 a i g->
  (∀h' g' r,bI .u32 h' b n g' sp->cP a e g g'->(r=true->d9 a e g')->aF [b] h h'->K (aw r) h')->F318.wL3 (t+1) (some (ah b)) n c a e i s h K:=by
 intro t;have hLB:LB=140737488355328:=rfl
 induction t with
 |zero=>
  intro s i g h A L hs ha hi R hK;unfold F318.wL3 F318.JL3;rw[show decide ((s:Int)<5)=false by simp;omega];exact hK h g false A (.refl g) Z (aF.refl _ _)
 |succ t ih=>
  intro s i g h A L hs ha hi R hK;unfold F318.wL3 F318.JL3;rw[show decide ((s:Int)<5)=true by simp;omega,aG];unfold F318.wk5 F318.Jk5;refine⟨_,Et A he hn (e-i) i Y ha R λi' ha' hi' R' hx=> ?_⟩;unfold F318.wk7 F318.Jk7;refine aH (λhc=> ?_) λhc=> ?_
  ·simp only[beq_iff_eq]at hc;have:i'=e:=Y;subst this;exact hK h g true A (.refl g) (λ_=>R') (aF.refl _ _)
  ·have hne:i'≠e:=λe'=>by subst e';simp at hc
   have hlt:g i'<g (i'-1):=by
                     rcases hx with h|h
                     ·omega
                     ·exact h
   refine aH (λhc=> ?_) λhc=> ?_
   ·exact hK h g false A (.refl g) Z (aF.refl _ _)
   ·rw[show ai ((i':Int)-1)=((i'-1:Nat):Int) by rw[aV Y Y];omega];refine A.ld rfl Y (A.ld rfl Y (A.sto rfl Y λk1 A1 O1=>⟨rfl,rfl,rfl,A1.sto rfl Y λk2 A2 O2=> ?_⟩));have A2':bI .u32 k2 b n (swp g i' (i'-1)) sp:=A2;have S2:cP a e g (swp g i' (i'-1)):=cP.one g Y Y Y Y;have O12:=O1.trans O2 Z
    have dA: ∀h' g',bI .u32 h' b n g' sp->cP a e (swp g i' (i'-1)) g'->d9 a i' g'->aF [b] k2 h'->F318.wL3 (t+1) (some (ah b)) n c a e i' (ai ((s:Int)+1)) h' K:=by intro h' g' A' S' R'' O';rw[show ai ((s:Int)+1)=((s+1:Nat):Int) by rw[aV Y Y];omega];exact ih (s+1) i' g' h' A' (L.swp (S2.trans S')) Y ha' hi' R'' λh'' g'' r A'' S'' R3 O''=>hK h'' g'' r A'' ((S2.trans S').trans S'') R3 ((O12.trans O' Z).trans O'' Z)
    rw[show ai ((i':Int)-(a:Int))=((i'-a:Nat):Int) by rw[aV Y Y];omega];refine aH (λhc=> ?_) λhc=> ?_
    ·unfold F318.wk14 F318.Jk14;refine⟨_,Af he hn Y ha' (i'-1) _ k2 A2' (L.swp S2) (uB.start λp q h1 h2 h3=> ?_) Y Y dA⟩;rw[df g Y Y,df g Y Y];exact R' p q h1 h2 Y
    ·simp only[decide_eq_false_iff_not]at hc;exact sg he hn A2' Y λh' g' A' S' O'=>dA h' g' A' (S'.mono Y (Nat.le_refl _)) (d9.single g' Y) O'
def AS{h:aA}{g:Nat->Int}(A:bI .u32 h b n g sp)(L:Lb a e g)(he:e<=n)(ha:a<e)(hn:n<=LB/4)
  (hK: ∀h' g' r,bI .u32 h' b n g' sp->cP a e g g'->(r=true->d9 a e g')->aF [b] h h'->K (aw r) h'):Cl 318 [.slice (some (ah b)) n c,ac a,ac e] h K:=by
 refine F318.spec _ _ _ _ _ h K ?_;have hLB:LB=140737488355328:=rfl;unfold F318.w F318.J0 F318.wk3 F318.Jk3;rw[show ai ((a:Int)+1)=((a+1:Nat):Int) by rw[aV Y Y];omega];exact⟨_,Dt he hn 5 0 (a+1) g h A L Y Y Y (d9.single g Y) hK⟩
end
end
section
def u5.left{a e m:Nat}{g g':Nat->Int}(H:u5 a e m g)(S:cP a m g g'):u5 a e m g':=by
 refine⟨?_,λk h1 h2=> ?_⟩
 ·rw[S.out (k:=m) (.inr (Nat.le_refl _))];exact S.all (Q:=λv=>v<=g m) H.1
 ·rw[S.out (k:=m) (.inr (Nat.le_refl _)),S.out (k:=k) (.inr Y)];exact H.2 k h1 h2
def u5.right{a e m:Nat}{g g':Nat->Int}(H:u5 a e m g)(S:cP (m+1) e g g'):u5 a e m g':=by
 refine⟨λk h1 h2=> ?_,λk h1 h2=> ?_⟩
 ·rw[S.out (k:=m) (.inl Y),S.out (k:=k) (.inl Y)];exact H.1 k h1 h2
 ·rw[S.out (k:=m) (.inl Y)];exact S.all (Q:=λv=>g m<=v) (λk h1 h2=>H.2 k Y h2) k Y h2
def u5.join{a e m:Nat}{g:Nat->Int}(H:u5 a e m g)(L:d9 a m g)(R:d9 (m+1) e g):d9 a e g:=λp q h1 h2 h3=>by
 by_cases hq:q<m
 ·exact L p q h1 h2 hq
 ·by_cases hp:m<p
  ·exact R p q Y h2 h3
  ·have e1:g p<=g m:=by
    by_cases h:p=m
    ·subst h;exact Int.le_refl _
    ·exact H.1 p h1 Y
   have e2:g m<=g q:=by
    by_cases h:q=m
    ·subst h;exact Int.le_refl _
    ·exact H.2 q Y h3
   exact Int.le_trans e1 e2
def Lb.sub{a e m:Nat}{g:Nat->Int}(H:Lb a e g)(h:m<=e):Lb a m g:=by
 rcases H with H|H
 ·exact .inl H
 ·exact .inr λk h1 h2=>H k h1 Y
def d9.leftOut{a m e:Nat}{g g':Nat->Int}(H:d9 a m g)(S:cP (m+1) e g g'):d9 a m g':=λp q h1 h2 h3=>by rw[S.out (k:=p) (.inl Y),S.out (k:=q) (.inl Y)];exact H p q h1 h2 h3
def d9.rightOut{a m e:Nat}{g g':Nat->Int}(H:d9 (m+1) e g)(S:cP a m g g'):d9 (m+1) e g':=λp q h1 h2 h3=>by rw[S.out (k:=p) (.inr Y),S.out (k:=q) (.inr Y)];exact H p q h1 h2 h3
def Ad{b n c:Nat}{sp:List Value}(hn:n<=LB/4):
  ∀(d a e:Nat) (lim:Int) (x8 x9:Bool) (g:Nat->Int) (h:aA) (K:KK),e<=a+d->a<=e->e<=n->bI .u32 h b n g sp->Lb a e g->
   (∀h' g',bI .u32 h' b n g' sp->d9 a e g'->cP a e g g'->aF [b] h h'->K ax h')->F294.wL2 (d+1) (some (ah b)) n c a e lim x8 x9 h K:=by
 intro d;have hLB:LB=140737488355328:=rfl
 induction d with
 |zero=>
  intro a e lim x8 x9 g h K hd hae he A L hK;rw[F294.sL2];rw[show ai ((e:Int)-(a:Int))=((e-a:Nat):Int) by rw[aV Y Y];omega,show decide (((e-a:Nat):Int)<=12)=true by simp;omega,aG];exact ins76 A he Y Y λh' g' A' R' S' O'=>⟨rfl,hK h' g' A' R' S' O'⟩
 |succ d ih=>
  intro a e lim x8 x9 g h K hd hae he A L hK;rw[F294.sL2];rw[show ai ((e:Int)-(a:Int))=((e-a:Nat):Int) by rw[aV Y Y];omega];refine aH (λ_=> ?_) λhc=> ?_
  ·exact ins76 A he Y Y λh' g' A' R' S' O'=>⟨rfl,hK h' g' A' R' S' O'⟩
  simp only[decide_eq_false_iff_not]at hc;refine aH (λ_=> ?_) λ_=> ?_
  ·exact AJ A he hae hn λh' g' A' R' S' O'=>⟨rfl,hK h' g' A' R' S' O'⟩
  have call: ∀(a e:Nat) (lim:Int) (g:Nat->Int) (h:aA) (K:KK),e<=a+d->a<=e->e<=n->bI .u32 h b n g sp->Lb a e g->
    (∀h' g',bI .u32 h' b n g' sp->d9 a e g'->cP a e g g'->aF [b] h h'->K ax h')->Cl 294 [.slice (some (ah b)) n c,ac a,ac e,ac lim] h K:=
   λa e lim g h K h1 h2 h3 A L hK=>F294.spec _ _ _ _ _ _ h K ⟨d+1,ih a e lim true true g h K h1 h2 h3 A L hK⟩
  have k84: ∀(lim x10:Int) (x8:Bool) (m:Nat) (f:Bool) (g1:Nat->Int) (h1:aA),bI .u32 h1 b n g1 sp->Lb a e g1->u5 a e m g1->a<=m->m<e->
    (∀h' g',bI .u32 h' b n g' sp->d9 a e g'->cP a e g1 g'->aF [b] h1 h'->K ax h')->
    (∃n13:Int,∃b14:Bool,(Value.tuple #[ac (m:Int),aw f])=(.tuple #[(ac n13),(aw b14)])/\((8:Int)≠0/\aC (decide ((ai (n13-a))<(ai (e-n13)))) (Cl 294 [(.slice (some (ah b)) n c),(ac a),(ac n13),(ac lim)] h1 (λv15 h16=>(v15=ax/\F294.wL2 (d+1) (some (ah b)) n c (ai (n13+(1:Int))) e lim (decide ((ai (n13-a))>=(ai (Int.tdiv x10 (8:Int))))) b14 h16 K))) (Cl 294 [(.slice (some (ah b)) n c),(ac (ai (n13+(1:Int)))),(ac e),(ac lim)] h1 (λv17 h18=>(v17=ax/\F294.wL2 (d+1) (some (ah b)) n c a n13 lim (decide ((ai (e-n13))>=(ai (Int.tdiv x10 (8:Int))))) b14 h18 K))))):=by
   intro lim x10 x8 m f g1 h1 A1 L1 P m1 m2 hK1;refine⟨_,_,rfl,by decide,?_⟩;rw[show ai ((m:Int)+1)=((m+1:Nat):Int) by rw[aV Y Y];omega];refine aH (λ_=> ?_) λ_=> ?_
   ·refine call a m lim g1 h1 _ Y m1 Y A1 (L1.sub Y) λh2 g2 A2 R2 S2 O2=>⟨rfl,?_⟩;have P2:=P.left S2;refine ih (m+1) e lim _ _ g2 h2 K Y Y he A2 (.inr λk k1 k2=>by rw[show m+1-1=m by omega];exact P2.2 k Y k2) λh3 g3 A3 R3 S3 O3=> ?_;exact hK1 h3 g3 A3 ((P2.right S3).join (R2.leftOut S3) R3) ((S2.mono (Nat.le_refl _) Y).trans (S3.mono Y (Nat.le_refl _))) (O2.trans O3 Z)
   ·refine call (m+1) e lim g1 h1 _ Y Y he A1 (.inr λk k1 k2=>by rw[show m+1-1=m by omega];exact P.2 k Y k2) λh2 g2 A2 R2 S2 O2=>⟨rfl,?_⟩;have P2:=P.right S2;refine ih a m lim _ _ g2 h2 K Y m1 Y A2 ((L1.swp (S2.mono Y (Nat.le_refl _))).sub Y) λh3 g3 A3 R3 S3 O3=> ?_;exact hK1 h3 g3 A3 ((P2.left S3).join R3 (R2.rightOut S3)) ((S2.mono Y (Nat.le_refl _)).trans (S3.mono (Nat.le_refl _) Y)) (O2.trans O3 Z)
  have k17: ∀(lim x10:Int) (x8 x9:Bool) (pv:Nat) (g1:Nat->Int) (h1:aA),bI .u32 h1 b n g1 sp->Lb a e g1->a<=pv->pv<e->
    (∀h' g',bI .u32 h' b n g' sp->d9 a e g'->cP a e g1 g'->aF [b] h1 h'->K ax h')->
    F294.wk17 (λx0p x0l x0c x1 x2 x3 x8 x9 h=>F294.wL2 (d+1) x0p x0l x0c x1 x2 x3 x8 x9 h K) (some (ah b)) n c a e lim x8 x9 x10 pv h1 K:=by
   intro lim x10 x8 x9 pv g1 h1 A1 L1 p1 p2 hK1;unfold F294.wk17;refine aH (λha=> ?_) λha=> ?_
   ·simp only[decide_eq_true_eq]at ha;rw[show ai ((a:Int)-1)=((a-1:Nat):Int) by rw[aV Y Y];omega];refine A1.ld rfl Y (A1.ld rfl Y (dr ?_));rw[bC];refine aH (λhl=> ?_) λhl=> ?_
    ·simp only[Bool.not_eq_true',decide_eq_false_iff_not]at hl;refine Bq A1 he Y p1 p2 hn λh2 m g2 A2 S2 R1 R2 m1 m2 O2=> ?_;rw[aU]
     have lo: ∀k,a<=k->k<e->g1 pv<=g2 k:=by
      have L2:=L1.swp S2;rcases L2 with h0|L2
      ·omega
      ·intro k k1 k2;have:=L2 k k1 k2;rw[S2.out (k:=a-1) (.inl Y)]at this;omega
     refine ih m e lim _ _ g2 h2 K Y m2 he A2 (.inr λk k1 k2=>Int.le_trans (R1 (m-1) Y Y) (Int.le_of_lt (R2 k k1 k2))) λh3 g3 A3 R3 S3 O3=> ?_;refine hK1 h3 g3 A3 (λp q h1 h2 h3=> ?_) (S2.trans (S3.mono Y (Nat.le_refl _))) (O2.trans O3 Z);by_cases hp:m<=p
     ·exact R3 p q hp h2 h3
     ·have e1:g3 p<=g1 pv:=by rw[S3.out (k:=p) (.inl Y)];exact R1 p h1 Y
      have e2:g1 pv<=g3 q:=by
       by_cases hq:m<=q
       ·exact Int.le_of_lt (S3.all (Q:=λv=>g1 pv<v) (λk k1 k2=>R2 k k1 k2) q hq h3)
       ·rw[S3.out (k:=q) (.inl Y)];exact lo q Y h3
      exact Int.le_trans e1 e2
    ·exact xy A1 he Y p1 p2 hn λh2 m g2 f A2 S2 P2 m1 m2 O2=>k84 lim x10 x8 m f g2 h2 A2 (L1.swp S2) P2 m1 m2 λh' g' A' R' S' O'=>hK1 h' g' A' R' (S2.trans S') (O2.trans O' Z)
   ·exact xy A1 he Y p1 p2 hn λh2 m g2 f A2 S2 P2 m1 m2 O2=>k84 lim x10 x8 m f g2 h2 A2 (L1.swp S2) P2 m1 m2 λh' g' A' R' S' O'=>hK1 h' g' A' R' (S2.trans S') (O2.trans O' Z)
  have k10: ∀(lim x10:Int) (x8 x9:Bool) (g1:Nat->Int) (h1:aA),bI .u32 h1 b n g1 sp->Lb a e g1->
    (∀h' g',bI .u32 h' b n g' sp->d9 a e g'->cP a e g1 g'->aF [b] h1 h'->K ax h')->
    F294.wk10 (λx0p x0l x0c x1 x2 x3 x8 x9 h=>F294.wL2 (d+1) x0p x0l x0c x1 x2 x3 x8 x9 h K) (some (ah b)) n c a e lim x8 x9 x10 h1 K:=by
   intro lim x10 x8 x9 g1 h1 A1 L1 hK1
   have k15: ∀(pv:Nat) (t:Int) (g1:Nat->Int) (h1:aA),bI .u32 h1 b n g1 sp->Lb a e g1->a<=pv->pv<e->
     (∀h' g',bI .u32 h' b n g' sp->d9 a e g'->cP a e g1 g'->aF [b] h1 h'->K ax h')->
     F294.wk15 (λx0p x0l x0c x1 x2 x3 x8 x9 h=>F294.wL2 (d+1) x0p x0l x0c x1 x2 x3 x8 x9 h K) (some (ah b)) n c a e lim x8 x9 x10 pv t h1 K:=by
    intro pv t g1 h1 A1 L1 p1 p2 hK1;unfold F294.wk15;have o:=k17 lim x10 x8 x9 pv g1 h1 A1 L1 p1 p2 hK1;refine aH (λ_=>aH (λ_=>aH (λ_=> ?_) λ_=>o) λ_=>o) λ_=>o;refine AS A1 L1 he Y hn λh2 g2 r A2 S2 R2 O2=> ?_;rw[bC];refine aH (λhr=>hK1 h2 g2 A2 (R2 hr) S2 O2) λ_=> ?_;exact k17 lim x10 x8 x9 pv g2 h2 A2 (L1.swp S2) p1 p2 λh' g' A' R' S' O'=>hK1 h' g' A' R' (S2.trans S') (O2.trans O' Z)
   unfold F294.wk10;refine DE A1 he Y hn λh2 pv t A2 p1 p2 O2=>⟨_,_,rfl,?_⟩;refine aH (λ_=> ?_) λ_=> ?_
   ·refine CI A2 he Y Y λh3 g3 A3 S3 O3=>⟨rfl,?_⟩
    rw[show ai (ai ((e:Int)-1)-ai ((pv:Int)-(a:Int)))=((e-1-(pv-a):Nat):Int) by rw[aV (x:=(e:Int)-1) Y Y,aV (x:=(pv:Int)-(a:Int)) Y Y,aV Y Y];omega]
    exact k15 _ _ g3 h3 A3 (L1.swp S3) Y Y λh' g' A' R' S' O'=>hK1 h' g' A' R' (S3.trans S') (((O2.mono Z).trans O3 Z).trans O' Z)
   ·exact k15 pv t g1 h2 A2 L1 p1 p2 λh' g' A' R' S' O'=>hK1 h' g' A' R' S' ((O2.mono Z).trans O' Z)
  refine aH (λ_=> ?_) λ_=> ?_
  ·refine Cw A he hae hn λh2 g2 A2 S2 O2=>⟨rfl,?_⟩;exact k10 _ _ x8 x9 g2 h2 A2 (L.swp S2) λh' g' A' R' S' O'=>hK h' g' A' R' (S2.trans S') (O2.trans O' Z)
  ·exact k10 _ _ x8 x9 g h A L hK
def Ag{h:aA}{b n c:Nat}{g:Nat->Int}{sp:List Value}{K:KK}(A:bI .u32 h b n g sp)(hn:n<=LB/4)
  (hK: ∀h' g',bI .u32 h' b n g' sp->d9 0 n g'->cP 0 n g g'->aF [b] h h'->K ax h'):Cl 260 [.slice (some (ah b)) n c] h K:=by
 refine F260.spec ?_;have hLB:LB=140737488355328:=rfl;rw[bG Y Y];refine zR Y λL _ _=> ?_;rw[aU];exact F294.spec _ _ _ _ _ _ h _ ⟨n+1,Ad hn n 0 n L true true g h _ Y (Nat.zero_le _) (Nat.le_refl _) A (.inl rfl) λh' g' A' R' S' O'=>⟨rfl,hK h' g' A' R' S' O'⟩⟩
end
section
def EC{tb:ByteArray}{y:Nat}{K:Int->Prop}(h:((List.range 256).all λy=>tb[y]?.isSome)=true)(hy:y<256)(hK: ∀n:Int,K n):xN tb (y:Int) K:=by rw[List.all_eq_true]at h;obtain⟨b,hb⟩:=Option.isSome_iff_exists.1 (h y (List.mem_range.2 hy));exact⟨b,by rw[Int.toNat_natCast];exact hb,hK _⟩
def rn{X:Nat}{h:aA}{K:KK}(hX:X<256)(hK: ∀L:Int,K (ac L) h):Cl 295 [af (X:Int)] h K:=by
 refine F295.spec ?_;refine F323.spec ?_;rw[decide_eq_false Y,aD];show F323.wk4 _ _ _ _;unfold F323.wk4;rw[decide_eq_false Y,aD];show F323.wk7 _ _ _ _;unfold F323.wk7;rw[decide_eq_false Y,aD];show F323.wk10 _ _ _ _;unfold F323.wk10;have:IntKind.wrap .u8 (X:Int)=X:=by simp[IntKind.wrap,IntKind.bits,IntKind.signed];omega
 rw[this];exact⟨Y,EC (by decide+kernel) hX λn=>aB rfl (hK _)⟩
def si{h:aA}{c:Nat}{p:ak}{K:KK}(hK:K ax h):Cl 260 [.slice p 0 c] h K:=by refine F260.spec ?_;rw[bG Y Y];refine rn (X:=0) Y λL=>aB rfl ?_;refine F294.spec _ _ _ _ _ _ h _ ⟨1,?_⟩;rw[F294.sL2];rw[show ai ((((0:Nat):Int))-0)=0 by decide,show decide ((0:Int)<=12)=true by decide,aG];refine F313.spec _ _ _ _ _ h _ ⟨1,?_⟩;unfold F313.wL1 F313.JL1;rw[show decide (ai ((0:Int)+1)<((0:Nat):Int))=false by decide,aD];exact⟨rfl,rfl,hK⟩
def yh{h:aA}{c n:Nat}{p:ak}{K:KK}(hn:n<=1)(hK:K ax h):Cl 265 [.slice p n c] h K:=by refine F265.spec ?_;rw[bG Y Y];refine rn Y λL=>aB rfl ?_;refine F298.spec _ _ _ _ _ _ h _ ⟨1,?_⟩;rw[F298.sL2];rw[wrap_i64 Y Y,decide_eq_true Y,aG];refine F324.spec _ _ _ _ _ h _ ⟨1,?_⟩;unfold F324.wL1 F324.JL1;rw[show decide (ai ((0:Int)+1)<((n:Nat):Int))=false by rw[decide_eq_false];rw[wrap_i64 Y Y];omega,aD];exact⟨rfl,rfl,hK⟩
end
section
def bI.ldo{q:IntKind}{h:aA}{b n:Nat}{g:Nat->Int}{sp:List Value}(A:bI q h b n g sp){o l:Nat}{x:Int}{k:Nat}(hx:x=k)(hk:k<l)(hn:o+k<n){Q:Int->Prop}(hQ:Q (g (o+k))):
  aN (some ⟨b,o,none⟩) λa=>(0<=x/\x<(l:Int)/\aI q (Ev.rd h (Addr.add a (Int.toNat x*1))) Q):=by
 subst hx;rw[aL];refine⟨Y,Y,?_⟩;rw[aE,show o+Int.toNat (k:Int)*1=o+k by omega,A.rd hn,aU];exact hQ
def bI.clr{q:IntKind}{h:aA}{b n:Nat}{g:Nat->Int}{sp:List Value}(A:bI q h b n g sp){k c m:Nat}(hk:k<=n)(hm:m=n-k)(hc:n<=c){K:aA->Prop}
  (hK: ∀h' sp',bI q h' b k g sp'->sp'.length=n-k+sp.length->aF [b] h h'->K h'):
  sq h #[.int q 0] (if c=k then some (ah b)else Option.map (λa=>Addr.add a (k*1)) (some (ah b))) m K:=by
 subst hm
 have e0:bS n (λk=>Value.int q (g k))=bS k (λk=>Value.int q (g k))++(bS n (λk=>Value.int q (g k))).drop k:=by
  conv=>lhs;rw[<-List.take_append_drop k (bS n (λk=>Value.int q (g k)))]
  congr 1
  apply List.ext_getElem?;intro i;by_cases hi:i<k
  ·rw[List.getElem?_take_of_lt hi,bY Y,bY hi]
  ·rw[List.getElem?_eq_none (by simp[bu];omega),List.getElem?_eq_none (by simp[bu];omega)]
 by_cases hck:c=k
 ·rw[if_pos hck];have:n-k=0:=Y;unfold sq;rw[this];have hz:(Builtin.zeroCells #[Value.int q 0] 0).toList=[]:=by simp[Builtin.zeroCells]
  dsimp only;rw[hz];unfold mt;have:n=k:=Y;subst this;exact hK h sp A Y (aF.refl _ _)
 ·rw[if_neg hck,Option.map_some,aE];unfold sq;simp only[Nat.zero_add,Nat.mul_one];have hz:(Builtin.zeroCells #[Value.int q 0] (n-k)).toList.length=n-k:=by rw[dD];simp
  refine ip _ 0 _ h A (by rw[hz,List.length_append,bu];omega) (λv hv=> ?_) λh' A' O' _=> ?_
  ·simp[Builtin.zeroCells]at hv;obtain⟨i,_,rfl⟩:=hv;rw[Nat.mod_one]
   rfl
  ·refine hK h' ((Builtin.zeroCells #[Value.int q 0] (n-k)).toList++(bS n (λk=>Value.int q (g k))++sp).drop (k+(n-k))) ?_ ?_ O'
   ·have e1:(bS n (λk=>Value.int q (g k))++sp).take k=bS k (λk=>Value.int q (g k)):=by
     rw[e0,List.append_assoc,List.take_append_of_le_length (by rw[bu];exact Nat.le_refl _),List.take_of_length_le (by rw[bu];exact Nat.le_refl _)]
    rw[Nat.add_zero,hz,e1,List.append_assoc]at A';exact A'
   ·rw[List.length_append,hz,List.length_drop,List.length_append,bu];omega
structure xI(n k j:Nat)(g g':Nat->Int):Prop where
 k1:1<=k
 kj:k<=j
 up: ∀p q,p<q->q<k->g' p<g' q
 fw: ∀p,p<k-> ∃q,q<j/\g' p=g q
 bw: ∀q,q<j-> ∃p,p<k/\g' p=g q
 last:g' (k-1)=g (j-1)
 rest: ∀i,j<=i+1->i<n->k<=i->g' i=g i
def xI.same{n k j:Nat}{g g':Nat->Int}(H:xI n k j g g')(h:g j=g (j-1))(hk:k<=j):xI n k (j+1) g g' where
 k1:=H.k1
 kj:=Y
 up:=H.up
 fw:=λp hp=>by obtain⟨q,h1,h2⟩:=H.fw p hp;exact⟨q,Y,h2⟩
 bw:=λq hq=>by
  by_cases e:q=j
  ·subst e;exact⟨k-1,by have:=H.k1;omega,by rw[H.last,h]⟩
  ·exact H.bw q Y
 last:=by rw[H.last,show j+1-1=j by omega,h]
 rest:=λi h1 h2 h3=>H.rest i Y h2 h3
def xI.new{n k j:Nat}{g g':Nat->Int}(H:xI n k j g g')(h:g (j-1)<g j)(hj:j<n):xI n (k+1) (j+1) g (λi=>if i=k then g j else g' i) where
 k1:=Y
 kj:=by have:=H.kj;omega
 up:=λp q h1 h2=>by
  rw[if_neg (by omega:p≠k)];by_cases hq:q=k
  ·rw[if_pos hq];have l:=H.last;by_cases hp:p=k-1
   ·rw[hp,l];exact h
   ·have:=H.up p (k-1) Y Y;rw[l]at this;exact Int.lt_trans this h
  ·rw[if_neg hq];exact H.up p q h1 Y
 fw:=λp hp=>by
  by_cases e:p=k
  ·exact⟨j,Y,by rw[if_pos e]⟩
  ·obtain⟨q,h1,h2⟩:=H.fw p Y;exact⟨q,Y,by rw[if_neg e];exact h2⟩
 bw:=λq hq=>by
  by_cases e:q=j
  ·subst e;exact⟨k,Y,by rw[if_pos rfl]⟩
  ·obtain⟨p,h1,h2⟩:=H.bw q Y;exact⟨p,Y,by rw[if_neg Y];exact h2⟩
 last:=by rw[show k+1-1=k by omega,if_pos rfl,show j+1-1=j by omega]
 rest:=λi h1 h2 h3=>by rw[if_neg Y];exact H.rest i Y h2 Y
section
variable {b n c:Nat}{g:Nat->Int}{K:KK}
def Dr{h0 h:aA}{k:Nat}{g':Nat->Int}{sp:List Value}{bk:(ak)->Nat->Nat->Int->aA->Prop}(A:bI .u32 h b n g' sp)(hk:k<=n)(hc:n<=c)(hn:n<=LB/4)(O:aF [b] h0 h)
  (hK: ∀h' sp',bI .u32 h' b k g' sp'->sp'.length=n-k+sp.length->aF [b] h0 h'->K (.slice (some (ah b)) k c) h'):F261.wk14 bk (some (ah b)) n c k h K:=by
 unfold F261.wk14 F261.Jk14;refine⟨Y,Y,?_⟩;rw[Int.toNat_natCast];refine A.clr hk rfl hc λh' sp' A' hl O'=>⟨Y,Y,?_⟩
 have e:(if c=0 then(some ((ah b):Addr))else Option.map (λa=>Addr.add a (0*1)) (some (ah b)))=some (ah b):=by
  split
  ·rfl
  ·simp
 rw[e];exact hK h' sp' A' hl (O.trans O' Z)
def El{sp:List Value}{bk:(ak)->Nat->Nat->Int->aA->Prop}{k0:Nat}(hc:n<=c)(hn:n<=LB/4)(R:d9 0 n g)(h0:1<=k0){hh:aA}:
  ∀(d k2 k:Nat) (g':Nat->Int) (h:aA),k0+k2+d=n->1<=k2->bI .u32 h b n g' sp->xI n k (k0+k2) g g'->k0<=k->k<k0+k2->aF [b] hh h->
   (∀h' k' g'' sp',bI .u32 h' b k' g'' sp'->sp'.length=n-k'+sp.length->xI n k' n g g''->k'<=n->aF [b] hh h'->K (.slice (some (ah b)) k' c) h')->
   F261.wL9 bk (d+1) (some (ah b)) n c k (some ⟨b,k0,none⟩) (n-k0) (c-k0) k2 h K:=by
 intro d;have hLB:LB=140737488355328:=rfl
 induction d with
 |zero=>
  intro k2 k g' h hd h2 A C hk hk' O hK;unfold F261.wL9 F261.JL9;rw[show decide ((k2:Int)<((n-k0:Nat):Int))=false by simp;omega,aD];rw[show k0+k2=n by omega]at C;exact Dr A Y hc hn O λh' sp' A' hl O'=>hK h' k g' sp' A' hl C Y O'
 |succ d ih=>
  intro k2 k g' h hd h2 A C hk hk' O hK;unfold F261.wL9 F261.JL9
  rw[show decide ((k2:Int)<((n-k0:Nat):Int))=true by simp;omega,aG,show ai ((k2:Int)-1)=((k2-1:Nat):Int) by rw[aV Y Y];omega,
   show ai ((k2:Int)+1)=((k2+1:Nat):Int) by rw[aV Y Y];omega]
  refine A.ldo rfl Y Y (A.ldo rfl Y Y ?_);rw[C.rest (k0+k2) Y Y Y];by_cases hkk:k<=k0+(k2-1)
  ·have e1:g' (k0+(k2-1))=g (k0+k2-1):=by rw[C.rest (k0+(k2-1)) Y Y hkk,show k0+(k2-1)=k0+k2-1 by omega]
   rw[e1];refine aH (λhc1=> ?_) λhc1=> ?_
   ·simp only[bne_iff_ne,ne_eq]at hc1;refine A.ldo rfl Y Y (A.sto rfl Y λh1 A1 O1=> ?_);rw[C.rest (k0+k2) Y Y Y]at A1;rw[show ai ((k:Int)+1)=((k+1:Nat):Int) by rw[aV Y Y];omega]
    have lt:g (k0+k2-1)<g (k0+k2):=by have:=R (k0+k2-1) (k0+k2) Y Y Y;omega
    exact ih (k2+1) (k+1) _ h1 Y Y A1 (C.new lt Y) Y Y (O.trans O1 Z) hK
   ·have hc1':g (k0+k2)=g (k0+k2-1):=by simpa using hc1
    exact ih (k2+1) k g' h Y Y A (C.same hc1' Y) hk Y O hK
  ·have:k=k0+k2:=Y;omega
def DM{sp:List Value}(hc:n<=c)(hn:n<=LB/4)(R:d9 0 n g){h:aA}(A:bI .u32 h b n g sp): ∀(d k:Nat),k+d=n->1<=k->xI n k k g g->
   (∀h' k' g'' sp',bI .u32 h' b k' g'' sp'->sp'.length=n-k'+sp.length->xI n k' n g g''->k'<=n->aF [b] h h'->K (.slice (some (ah b)) k' c) h')->
   F261.wL4 (d+1) (some (ah b)) n c k h K:=by
 intro d;have hLB:LB=140737488355328:=rfl
 induction d with
 |zero=>
  intro k hd h1 C hK;unfold F261.wL4 F261.JL4;rw[show decide ((k:Int)<(n:Int))=false by simp;omega,aD];have:k=n:=Y;subst this;exact hK h k g sp A Y C (Nat.le_refl _) (aF.refl _ _)
 |succ d ih=>
  intro k hd h1 C hK;unfold F261.wL4 F261.JL4;rw[show decide ((k:Int)<(n:Int))=true by simp;omega,aG,show ai ((k:Int)-1)=((k-1:Nat):Int) by rw[aV Y Y];omega];refine A.ld rfl Y (A.ld rfl Y ?_);refine aH (λhe=> ?_) λhe=> ?_
  ·have he':g k=g (k-1):=by simpa using he
   refine⟨Y,Y,?_⟩;unfold F261.wk9 F261.Jk9;rw[Int.toNat_natCast,if_neg Y,Option.map_some,aE,Nat.zero_add,Nat.mul_one];exact⟨_,El hc hn R h1 (n-(k+1)) 1 k g h Y (Nat.le_refl _) A (C.same he' (Nat.le_refl _)) (Nat.le_refl _) Y (aF.refl _ _) hK⟩
  ·have he': ¬g k=g (k-1):=by simpa using he
   rw[show ai ((k:Int)+1)=((k+1:Nat):Int) by rw[aV Y Y];omega]
   have lt:g (k-1)<g k:=by have:=R (k-1) k Y Y Y;omega
   have C':=C.new lt Y;rw[show(λi=>if i=k then g k else g i)=g by funext i;by_cases e:i=k<;>simp[e]]at C';exact ih (k+1) Y Y C' hK
def Cx{h:aA}{sp:List Value}(A:bI .u32 h b n g sp)(hc:n<=c)(hn:n<=LB/4)(R:d9 0 n g)
  (hK: ∀h' k g' sp',bI .u32 h' b k g' sp'->sp'.length=n-k+sp.length->k<=n->(∀p q,p<q->q<k->g' p<g' q)->(∀p,p<k-> ∃q,q<n/\g' p=g q)->(∀q,q<n-> ∃p,p<k/\g' p=g q)->aF [b] h h'->K (.slice (some (ah b)) k c) h'):
  Cl 261 [.slice (some (ah b)) n c] h K:=by
 refine F261.spec _ _ _ h K ?_;unfold F261.w F261.J0;refine aH (λh2=> ?_) λh2=> ?_
 ·simp only[decide_eq_true_eq]at h2;exact hK h n g sp A Y (Nat.le_refl _) (λp q _ _=>Y) (λp hp=>⟨p,hp,rfl⟩) (λq hq=>⟨q,hq,rfl⟩) (aF.refl _ _)
 ·simp only[decide_eq_false_iff_not]at h2;unfold F261.wk4 F261.Jk4
  exact⟨_,DM hc hn R A (n-1) 1 Y (Nat.le_refl _) ⟨Nat.le_refl _,Nat.le_refl _,λp q _ _=>Y,λp hp=>⟨p,hp,rfl⟩,λq hq=>⟨q,hq,rfl⟩,rfl,λi _ _ _=>rfl⟩
   λh' k g' sp' A' hl C hk O'=>hK h' k g' sp' A' hl hk C.up C.fw C.bw O'⟩
end
def xj{h:aA}{c:Nat}{p:ak}{K:KK}(hK:K (.slice p 0 c) h):Cl 261 [.slice p 0 c] h K:=by refine F261.spec _ _ _ h K ?_;unfold F261.w F261.J0;rw[show decide (((0:Nat):Int)<2)=true by decide,aG];exact hK
end
section
def s0(x:Int):Bool:=decide (1<x)
structure xz(i j:Nat)(g g':Nat->Int):Prop where
 ij:i<=j
 eq:(List.range i).map g'=((List.range j).map g).filter s0
 rest: ∀k,j<=k->g' k=g k
def xz.keep{i j:Nat}{g g':Nat->Int}(H:xz i j g g')(h:1<g j):xz (i+1) (j+1) g (λk=>if k=i then g j else g' k) where
 ij:=by have:=H.ij;omega
 eq:=by
  rw[List.range_succ,List.range_succ,List.map_append,List.map_append,List.filter_append,<-H.eq]
  congr 1
  ·apply List.map_congr_left;intro k hk;rw[List.mem_range]at hk;rw[if_neg Y]
  ·simp[s0,h]
 rest:=λk hk=>by have:=H.ij;rw[if_neg Y];exact H.rest k Y
def xz.drop{i j:Nat}{g g':Nat->Int}(H:xz i j g g')(h: ¬1<g j):xz i (j+1) g g' where
 ij:=by have:=H.ij;omega
 eq:=by rw[H.eq,List.range_succ,List.map_append,List.filter_append];simp[s0,h]
 rest:=λk hk=>H.rest k Y
def xz.all{i:Nat}{g:Nat->Int}(h: ∀k,k<i->1<g k):xz i i g g where
 ij:=Nat.le_refl _
 eq:=by symm;rw[List.filter_eq_self];intro x hx;obtain⟨k,hk,rfl⟩:=List.mem_map.1 hx;rw[List.mem_range]at hk;simp[s0,h k hk]
 rest:=λk _=>rfl
def zX{x:Int}{h:aA}{K:KK}(hK:K (aw (!s0 x)) h):gn Tryz.prog X (.func (.func 263) #[] #[]) [ae x] h K:=
 bz (by kernel_rfl) (F263.spec (by rw[show decide (x<=1)= !s0 x by unfold s0;by_cases h:1<x<;>simp[h]<;>omega];exact hK))
section
variable {b n c:Nat}{g:Nat->Int}{K:KK}
def CT{h:aA}{sp:List Value}(A:bI .u32 h b n g sp)(hn:n<=LB/4)(hK: ∀i:Nat,i<n->(∀k,k<i->1<g k)-> ¬1<g i->K (ac (i:Int)) h)(hN:(∀k,k<n->1<g k)->K (ac (-1)) h):
  Cl 296 [.slice (some (ah b)) n c,.func (.func 263) #[] #[]] h K:=by
 refine F296.spec _ _ _ h K ?_;have hLB:LB=140737488355328:=rfl;unfold F296.wk2
 have main: ∀(d i:Nat),i+d=n->(∀k,k<i->1<g k)->F296.wL2 (d+1) (some (ah b)) n c (.func (.func 263) #[] #[]) n i h K:=by
  intro d
  induction d with
  |zero=>
   intro i hd hi;rw[F296.sL2];rw[show decide ((i:Int)<(n:Int))=false by simp;omega,aD];exact hN λk hk=>hi k Y
  |succ d ih=>
   intro i hd hi;rw[F296.sL2];rw[show decide ((i:Int)<(n:Int))=true by simp;omega,aG];refine A.ld rfl Y (zX ?_);rw[bC];refine aH (λho=> ?_) λho=> ?_
   ·exact hK i Y hi (by simpa[s0]using ho)
   ·rw[show ai ((i:Int)+1)=((i+1:Nat):Int) by rw[aV Y Y];omega];refine ih (i+1) Y λk hk=> ?_;by_cases e:k=i
    ·subst e;simpa[s0]using ho
    ·exact hi k Y
 exact⟨_,main n 0 Y λk hk=>Y⟩
def CU{h0 h:aA}{k:Nat}{g':Nat->Int}{sp:List Value}(A:bI .u32 h b n g' sp)(hk:k<=n)(hc:n<=c)(O:aF [b] h0 h)
  (hK: ∀h' sp',bI .u32 h' b k g' sp'->sp'.length=n-k+sp.length->aF [b] h0 h'->K (.slice (some (ah b)) k c) h'):F262.wk11 (some (ah b)) n c k h K:=by
 unfold F262.wk11;refine⟨Y,Y,?_⟩;rw[Int.toNat_natCast];refine A.clr hk rfl hc λh' sp' A' hl O'=>⟨Y,Y,?_⟩
 have e:(if c=0 then(some ((ah b):Addr))else Option.map (λa=>Addr.add a (0*1)) (some (ah b)))=some (ah b):=by
  split
  ·rfl
  ·simp
 rw[e];exact hK h' sp' A' hl (O.trans O' Z)
def Dh{sp:List Value}(hc:n<=c)(hn:n<=LB/4){hh:aA}:
  ∀(d j i:Nat) (g':Nat->Int) (h:aA),j+d=n->i<j->bI .u32 h b n g' sp->xz i j g g'->aF [b] hh h->
   (∀h' k g'' sp',bI .u32 h' b k g'' sp'->sp'.length=n-k+sp.length->k<=n->(List.range k).map g''=((List.range n).map g).filter s0->aF [b] hh h'->K (.slice (some (ah b)) k c) h')->
   F262.wL5 (d+1) (some (ah b)) n c (.func (.func 263) #[] #[]) i j h K:=by
 intro d;have hLB:LB=140737488355328:=rfl
 induction d with
 |zero=>
  intro j i g' h hd hij A C O hK;rw[F262.sL5];rw[show decide ((j:Int)<(n:Int))=false by simp;omega,aD];have:j=n:=Y;subst this;exact CU A Y hc O λh' sp' A' hl O'=>hK h' i g' sp' A' hl Y C.eq O'
 |succ d ih=>
  intro j i g' h hd hij A C O hK;rw[F262.sL5];rw[show decide ((j:Int)<(n:Int))=true by simp;omega,aG,show ai ((j:Int)+1)=((j+1:Nat):Int) by rw[aV Y Y];omega];refine A.ld rfl Y (zX ?_);rw[bC];have ej:g' j=g j:=C.rest j (Nat.le_refl _);refine aH (λho=> ?_) λho=> ?_
  ·have ho':1<g j:=by rw[<-ej];simpa[s0]using ho
   refine A.sto rfl Y λh1 A1 O1=> ?_;rw[ej]at A1;rw[show ai ((i:Int)+1)=((i+1:Nat):Int) by rw[aV Y Y];omega];exact ih (j+1) (i+1) _ h1 Y Y A1 (C.keep ho') (O.trans O1 Z) hK
  ·have ho': ¬1<g j:=by rw[<-ej];simpa[s0]using ho
   exact ih (j+1) i g' h Y Y A (C.drop ho') O hK
def CF{h:aA}{sp:List Value}(A:bI .u32 h b n g sp)(hc:n<=c)(hn:n<=LB/4)
  (hK: ∀h' k g' sp',bI .u32 h' b k g' sp'->sp'.length=n-k+sp.length->k<=n->(List.range k).map g'=((List.range n).map g).filter s0->aF [b] h h'->K (.slice (some (ah b)) k c) h'):
  Cl 262 [.slice (some (ah b)) n c,.func (.func 263) #[] #[]] h K:=by
 refine F262.spec _ _ _ h K ?_;have hLB:LB=140737488355328:=rfl;refine CT A hn (λi hi h1 h2=> ?_) λh1=> ?_
 ·rw[aU,show((i:Int)==(-1))=false by simp,aD,show ai ((i:Int)+1)=((i+1:Nat):Int) by rw[aV Y Y];omega];unfold F262.wk5;exact⟨_,Dh hc hn (n-(i+1)) (i+1) i g h Y Y A ((xz.all h1).drop h2) (aF.refl _ _) hK⟩
 ·rw[aU,show((-1:Int)==(-1))=true by decide,aG];exact hK h n g sp A Y (Nat.le_refl _) (xz.all h1).eq (aF.refl _ _)
end
def wX{h:aA}{c:Nat}{p:ak}{K:KK}(hK:K (.slice p 0 c) h):Cl 262 [.slice p 0 c,.func (.func 263) #[] #[]] h K:=by
 refine F262.spec _ _ _ h K ?_;refine F296.spec _ _ _ h _ ?_;unfold F296.wk2;refine⟨1,?_⟩;rw[F296.sL2];rw[show decide ((0:Int)<((0:Nat):Int))=false by decide,aD]
 try dsimp only
 rw[aU,show((-1:Int)==(-1))=true by decide,aG];exact hK
end
section
structure Rf(lo:Nat)(h:aA)(r M S W N:Nat)(f:Int->Int)(p:Nat->ak)(c:Nat->Nat)(L:Nat->List Int):Prop where
 R:At h r [.map (some M),.slice (some (ah S)) W W]
 T:At h S (bS W λk=> .slice (p k) (L k).length (c k))
 Mm: ∃m,bU h M .u32 m/\(∀x,m.lookup x=if f x=0 then none else some (ac (f x)))/\m.length<=N
 fr: ∀x,0<=f x/\f x<=N
 fx: ∀x,f x≠0->0<=x/\x<=4294967295
 own: ∀k,k<W->ct h lo 1 (p k) (L k).length (c k) ((L k).map (Value.int .u32))
 len: ∀k,k<W->(L k).length<=N
 ge:lo<=r/\lo<=S/\lo<=M
 rS:r≠S
 sep: ∀k,k<W-> ∀b∈aR (p k),b≠r/\b≠S/\ ∀k',k'<W->k'≠k->b∉aR (p k')
def At.ne_map{h:aA}{b M:Nat}{c:List Value}{k:IntKind}{m:List (Int×Value)}(A:At h b c)(H:bU h M k m):b≠M:=by obtain⟨es,cl,h1,-⟩:=H;obtain⟨e,A⟩:=A;intro e';subst e';rw[oq h1]at A;cases A
section
variable {lo:Nat}{h h':aA}{r M S W N:Nat}{f:Int->Int}{p:Nat->ak}{c:Nat->Nat}{L:Nat->List Int}{K:KK}
def Rf.rM(H:Rf lo h r M S W N f p c L):r≠M:=by obtain⟨m,a,-⟩:=H.Mm;exact H.R.ne_map a
def Rf.SM(H:Rf lo h r M S W N f p c L):S≠M:=by obtain⟨m,a,-⟩:=H.Mm;exact H.T.ne_map a
def Rf.pM(H:Rf lo h r M S W N f p c L){k:Nat}(hk:k<W){b:Nat}(hb:b∈aR (p k)):b≠M:=by obtain⟨m,a,-⟩:=H.Mm;obtain⟨c,A⟩:=(H.own k hk).cells b hb;exact A.ne_map a
def Rf.only(H:Rf lo h r M S W N f p c L){X:List Nat}(O:aF X h h')(hr:r∉X)(hS:S∉X)(hM:M∉X)(hp: ∀k,k<W-> ∀b∈aR (p k),b∉X):Rf lo h' r M S W N f p c L where
 R:=H.R.only O hr
 T:=H.T.only O hS
 Mm:=by obtain⟨m,a,b,d⟩:=H.Mm;exact⟨m,a.only O hM,b,d⟩
 fr:=H.fr
 fx:=H.fx
 own:=λk hk=>(H.own k hk).onlyC O λb hb _=>hp k hk b hb
 len:=H.len
 ge:=H.ge
 rS:=H.rS
 sep:=H.sep
def Rf.new(H:Rf lo h r M S W N f p c L)(O:aF [] h h'):Rf lo h' r M S W N f p c L:=H.only O Z Z Z Z
def Rf.lt(H:Rf lo h r M S W N f p c L):r<h.size/\S<h.size/\M<h.size/\ ∀k,k<W-> ∀b∈aR (p k),lo<=b/\b<h.size:=by obtain⟨m,a,-⟩:=H.Mm;exact⟨H.R.lt,H.T.lt,a.lt,λk hk=>(H.own k hk).lt⟩
def Rf.grow(H:Rf lo h r M S W N f p c L){N':Nat}(hN:N<=N'):Rf lo h r M S W N' f p c L:=
 {H with
  Mm:=by obtain⟨m,a,b,d⟩:=H.Mm;exact⟨m,a,b,Nat.le_trans d hN⟩
  fr:=λx=>⟨(H.fr x).1,by have:=(H.fr x).2;omega⟩
  len:=λk hk=>Nat.le_trans (H.len k hk) hN}
def Rf.rd0(H:Rf lo h r M S W N f p c L):rd h (ah r)=some (.map (some M)):=H.R.rd 0
def Rf.rd1(H:Rf lo h r M S W N f p c L):rd h ⟨r,1,none⟩=some (.slice (some (ah S)) W W):=H.R.rd 1
def Rf.rdT(H:Rf lo h r M S W N f p c L){k:Nat}(hk:k<W):rd h ⟨S,k,none⟩=some (.slice (p k) (L k).length (c k)):=by rw[H.T.rd,bY hk]
def oK(H:Rf lo h r M S W N f p c L){x:Int}{K:Int->Prop}(hK:K (f x)):dW h (some M) .u32 .u32 x λo=>aI .i64 (some (lS (ac (0:Int)) o)) K:=by
 obtain⟨m,a,b,-⟩:=H.Mm;refine dt a (λe=> ?_) λi v e=> ?_
 ·rw[b x]at e
  have:f x=0:=by
   by_cases h0:f x=0
   ·exact h0
   ·rw[if_neg h0]at e;cases e
  rw[this]at hK;show aI .i64 (some (ac 0)) K;rw[aU];exact hK
 ·rw[b x]at e;by_cases h0:f x=0
  ·rw[if_pos h0]at e;cases e
  ·rw[if_neg h0]at e;injection e with e;subst e;show aI .i64 (some (ac (f x))) K;rw[aU];exact hK
def qY(f:Int->Int)(x v:Int):Int->Int:=λy=>if y=x then v else f y
def lR{m:List (Int×Value)}{x:Int}{v:Value}:(iP m x v).length<=m.length+1:=by unfold iP;split<;>simp
def xm{m:List (Int×Value)}{x:Int}:(jn m x).length<=m.length:=by unfold jn;exact List.length_filter_le _ _
def pV(H:Rf lo h r M S W N f p c L)(O:aF [M] h h'){N':Nat}{f':Int->Int}(hN:N<=N')(hm: ∃m,bU h' M .u32 m/\(∀x,m.lookup x=if f' x=0 then none else some (ac (f' x)))/\m.length<=N')
  (hfr: ∀x,0<=f' x/\f' x<=N') (hfx: ∀x,f' x≠0->0<=x/\x<=4294967295):Rf lo h' r M S W N' f' p c L where
 R:=H.R.only O (by simpa using H.rM)
 T:=H.T.only O (by simpa using H.SM)
 Mm:=hm
 fr:=hfr
 fx:=hfx
 own:=λk hk=>(H.own k hk).onlyC O λb hb _=>by simpa using H.pM hk hb
 len:=λk hk=>Nat.le_trans (H.len k hk) hN
 ge:=H.ge
 rS:=H.rS
 sep:=H.sep
def AT(H:Rf lo h r M S W N f p c L){x:Int}(hx:0<=x/\x<=4294967295)(hN:N<=LB)(hK: ∀h',Rf lo h' r M S W (N+1) (qY f x (f x+1)) p c L->aF [M] h h'->K ax h'):
  Cl 210 [ag (ah r),ae x] h K:=by
 refine F210.spec ?_;have hLB:LB=140737488355328:=rfl;rw[aE,H.rd0,fM];have b:=H.fr x;refine oK H ?_;obtain⟨m,a,b',d⟩:=H.Mm;refine ir a λh1 M1 O1 z1=> ?_;rw[wrap_i64 Y Y]at M1;refine hK h1 (pV H O1 Y ⟨_,M1,λy=> ?_,Nat.le_trans lR Y⟩ (λy=> ?_) λy=> ?_) O1
 ·rw[cH];unfold qY;by_cases hy:y=x
  ·rw[if_pos hy,if_pos hy,if_neg Y]
  ·rw[if_neg hy,if_neg hy];exact b' y
 ·unfold qY;have:=H.fr y;split<;>omega
 ·unfold qY;by_cases hy:y=x
  ·subst hy;intro _;exact hx
  ·rw[if_neg hy];exact H.fx y
def CK(H:Rf lo h r M S W N f p c L){x:Int}(hN:N<=LB)(h0:f x=0->K (ac 61) h)(hK:f x≠0-> ∀h',Rf lo h' r M S W (N+1) (qY f x (f x-1)) p c L->aF [M] h h'->K (ac 0) h'):
  Cl 209 [ag (ah r),ae x] h K:=by
 refine F209.spec ?_;have hLB:LB=140737488355328:=rfl;rw[aE,H.rd0,fM];have b:=H.fr x;refine oK H ?_;refine aH (λe=>h0 (by simpa using e)) λe=> ?_;have e':f x≠0:=by simpa using e
 have hx:=H.fx x e';rw[fM];refine oK H ?_;obtain⟨m,a,b',d⟩:=H.Mm;refine ir a λh1 M1 O1 z1=> ?_;rw[wrap_i64 Y Y]at M1;have R1:=H.R.only O1 (by simpa using H.rM);rw[show rd h1 ⟨r,0+0,none⟩=some (.map (some M))from R1.rd 0,fM];refine dt M1 (λe=> ?_) λi v e=> ?_
 ·rw[cH,if_pos rfl]at e;cases e
 ·rw[cH,if_pos rfl]at e;injection e with e;subst e;show aI .i64 (some (ac (f x-1))) _;rw[aU]
  have fin: ∀(h2:aA) (m2:List (Int×Value)),bU h2 M .u32 m2->(∀y,m2.lookup y=if qY f x (f x-1) y=0 then none else some (ac (qY f x (f x-1) y)))->m2.length<=m.length+1->aF [M] h h2->K (ac 0) h2:=by
   intro h2 m2 M2 l2 n2 O2;refine hK e' h2 (pV H O2 Y ⟨_,M2,l2,Y⟩ (λy=> ?_) λy=> ?_) O2
   ·unfold qY;have:=H.fr y;split<;>omega
   ·unfold qY;by_cases hy:y=x
    ·subst hy;intro _;exact hx
    ·rw[if_neg hy];exact H.fx y
  refine aH (λe0=> ?_) λe0=> ?_
  ·have e0':f x-1=0:=by simpa using e0
   rw[fM];refine tP M1 λh2 M2 O2 z2=> ?_;refine fin h2 _ M2 (λy=> ?_) (Nat.le_trans xm lR) (O1.trans O2 Z);rw[pJ,cH];unfold qY;by_cases hy:y=x
   ·rw[if_pos hy,if_pos hy,if_pos e0']
   ·rw[if_neg hy,if_neg hy,if_neg hy];exact b' y
  ·have e0':f x-1≠0:=by simpa using e0
   refine fin h1 _ M1 (λy=> ?_) lR O1;rw[cH];unfold qY;by_cases hy:y=x
   ·rw[if_pos hy,if_pos hy,if_neg e0']
   ·rw[if_neg hy,if_neg hy];exact b' y
end
end
section
def tH(x:Int):Int:=if(4:Int)<(if(1:Int)>x then(1:Int)else x)then(4:Int)else(if(1:Int)>x then(1:Int)else x)
def nQ(x:Int):1<=tH x/\tH x<=4:=by
 unfold tH
 repeat' split
 all_goals omega
def wI(n:Nat)(v:Value):List.replicate n v=bS n λ_=>v:=by unfold bS;rw[List.map_const'];simp
def wV{h:aA}{k:IntKind}{K:Nat->aA->Prop}(hK: ∀h',bU h' h.size k []->aF [] h h'->h'.size=h.size+1->K h.size h'):aZ h (.map #[] 0) K:=
 hK _ (bU.empty (by unfold mp;simp)) (aF.push_map h _ _) Z
def Cz{h:aA}{x:Int}{K:KK}(hK: ∀h' r M S,Rf h.size h' r M S (tH x).toNat 0 (λ_=>0) (λ_=>none) (λ_=>0) (λ_=> [])->aF [] h h'->K (ag (ah r)) h'):
  Cl 67 [ac x] h K:=by
 refine F67.spec ?_;change aZ h (.map #[] 0) λb1 h2=>(0<=tH x/\tH x<=tH x/\((Nat.cast 24:Int)*tH x<=281474976710656)/\tH x<=9223372036854775807/\aZ h2 (.cells (madeCells #[(.slice none 0 0)] (Int.toNat (tH x)*1)) 56) (λb3 h4=>aZ h4 (.cells #[(.map (some b1)),(.slice (some (ah b3)) (Int.toNat (tH x)) (Int.toNat (tH x)))] 207) (λb5 h6=>K (ag (ah b5)) h6)));have hw:=nQ x;generalize tH x=y at hw hK ⊢;refine wV (k:= .u32) λh1 M1 O1 z1=>⟨Y,Y,Y,Y,?_⟩;refine aM λh2 A2 O2 z2=> ?_;refine aM λh3 A3 O3 z3=> ?_;rw[toList_madeCells_one,wI,Nat.mul_one]at A2;refine hK h3 _ h.size _ ⟨A3,A2.only O3 Z,⟨[],(M1.only O2 Z).only O3 Z,λx=>by simp[List.lookup],Nat.le_refl _⟩,λx=>Y,λx h=>absurd rfl h,λk hk=>ct.nil _ _ _,λk hk=>Nat.le_refl _,⟨Y,Y,Nat.le_refl _⟩,Y,λk hk b hb=>by simp[aR]at hb⟩ ((O1.trans O2 Z).trans O3 Z)
section
variable {lo:Nat}{h h':aA}{r M S W N:Nat}{f:Int->Int}{p:Nat->ak}{c:Nat->Nat}{L:Nat->List Int}{K:KK}
def yF(H:Rf lo h r M S W N f p c L){w:Int}(hK:K (ac (if 0<=w/\w<W then((L w.toNat).length:Int)else 0)) h):Cl 219 [ag (ah r),ac w] h K:=by
 refine F219.spec ?_;refine aH (λh1=> ?_) λh1=> ?_
 ·simp only[decide_eq_true_eq]at h1;rw[if_neg Y]at hK;exact hK
 ·simp only[decide_eq_false_iff_not]at h1;rw[aE,Nat.zero_add,H.rd1,bD];refine aH (λh2=> ?_) λh2=> ?_
  ·simp only[decide_eq_true_eq]at h2;rw[if_neg Y]at hK;exact hK
  ·simp only[decide_eq_false_iff_not]at h2;obtain⟨k,rfl⟩: ∃k:Nat,w=k:=⟨w.toNat,Y⟩;rw[if_pos Y,Int.toNat_natCast]at hK;rw[bD,aL];refine⟨Y,Y,?_⟩;rw[aE,show 0+Int.toNat (k:Int)*1=k by omega,H.rdT Y,bD];exact hK
def fK{α:Type}(p:Nat->α)(w:Nat)(v:α):Nat->α:=λk=>if k=w then v else p k
def qO(H:Rf lo h r M S W N f p c L){w:Nat}(hw:w<W){h2:aA}(O:aF (S::aR (p w)) h h2){p':ak}{c':Nat}{l':List Int}{N':Nat}(hN:N<=N')(hl:l'.length<=N')
  (A:At h2 S (bS W λk=> .slice (fK p w p' k) (fK L w l' k).length (fK c w c' k))) (Ow:ct h2 lo 1 p' l'.length c' (l'.map (Value.int .u32))) (hp': ∀b∈aR p',b∈aR (p w)\/h.size<=b):
  Rf lo h2 r M S W N' f (fK p w p') (fK c w c') (fK L w l') where
 R:=H.R.only O (by simp only[List.mem_cons,not_or];exact⟨H.rS,λhb=>(H.sep w hw r hb).1 rfl⟩)
 T:=A
 Mm:=by obtain⟨m,a,b,d⟩:=H.Mm;refine⟨m,a.only O ?_,b,Nat.le_trans d hN⟩;simp only[List.mem_cons,not_or];exact⟨λe=>H.SM e.symm,λhb=>H.pM hw hb rfl⟩
 fr:=λx=>⟨(H.fr x).1,by have:=(H.fr x).2;omega⟩
 fx:=H.fx
 own:=λk hk=>by
  unfold fK;by_cases e:k=w
  ·subst e;rw[if_pos rfl,if_pos rfl,if_pos rfl];exact Ow
  ·rw[if_neg e,if_neg e,if_neg e];refine(H.own k hk).onlyC O λb hb _=> ?_;simp only[List.mem_cons,not_or];exact⟨(H.sep k hk b hb).2.1,(H.sep k hk b hb).2.2 w hw (Ne.symm e)⟩
 len:=λk hk=>by
  unfold fK;by_cases e:k=w
  ·rw[if_pos e];exact hl
  ·rw[if_neg e];exact Nat.le_trans (H.len k hk) hN
 ge:=H.ge
 rS:=H.rS
 sep:=λk hk b hb=>by
  have old: ∀b∈aR p',b≠r/\b≠S/\ ∀k',k'<W->k'≠w->b∉aR (p k'):=λb hb=>by
   rcases hp' b hb with h1|h1
   ·exact H.sep w hw b h1
   ·have l:=H.lt;exact⟨Y,Y,λk' hk' _ hb'=>by have:=(l.2.2.2 k' hk' b hb').2;omega⟩
  unfold fK at hb ⊢;by_cases e:k=w
  ·subst e;rw[if_pos rfl]at hb;obtain⟨a1,a2,a3⟩:=old b hb;refine⟨a1,a2,λk' hk' hne=> ?_⟩;rw[if_neg hne];exact a3 k' hk' hne
  ·rw[if_neg e]at hb;obtain⟨a1,a2,a3⟩:=H.sep k hk b hb;refine⟨a1,a2,λk' hk' hne=> ?_⟩;by_cases e':k'=w
   ·rw[if_pos e'];intro hb';exact(old b hb').2.2 k hk e hb
   ·rw[if_neg e'];exact a3 k' hk' hne
def qV{w:Nat}{p':ak}{c':Nat}{l':List Int}:(bS W λk=>Value.slice (p k) (L k).length (c k)).set w (.slice p' l'.length c')=bS W λk=> .slice (fK p w p' k) (fK L w l' k).length (fK c w c' k):=by rw[dS];apply dg;intro k _;unfold fK;split<;>rfl
def AX(H:Rf lo h r M S W N f p c L){w x:Int}(hN:N<=LB/8)(hlo:lo<=h.size)(hx: ¬(0<=w/\w<W)->K aq h)
  (hK: ∀k:Nat,w=k->k<W-> ∀h' p' c',Rf lo h' r M S W (N+1) f (fK p k p') (fK c k c') (fK L k (L k++[x]))->aF (S::aR (p k)) h h'->(∀b∈aR p',b∈aR (p k)\/h.size<=b)->K au h'):
  Cl 174 [ag (ah r),ac w,ae x] h K:=by
 refine F174.spec ?_;have hLB:LB=140737488355328:=rfl;refine aH (λh1=> ?_) λh1=> ?_
 ·simp only[decide_eq_true_eq]at h1;exact hx Y
 ·simp only[decide_eq_false_iff_not]at h1;rw[aE,Nat.zero_add,H.rd1,bD];refine aH (λh2=> ?_) λh2=> ?_
  ·simp only[decide_eq_true_eq]at h2;exact hx Y
  ·simp only[decide_eq_false_iff_not]at h2;obtain⟨k,rfl⟩: ∃k:Nat,w=k:=⟨w.toNat,Y⟩;have hk:k<W:=Y;rw[bD,bD,aL];refine⟨Y,Y,?_⟩;rw[aE,show 0+Int.toNat (k:Int)*1=k by omega,H.rdT hk,bD];refine aM λh3 A3 O3 z3=> ?_;have H3:=H.new O3;refine⟨rfl,rfl,rfl,?_⟩;rw[H3.rd1,bD];refine⟨rfl,rfl,rfl,rfl,rfl,?_⟩;rw[bD];refine⟨rfl,rfl,?_⟩;rw[aL];refine⟨Y,Y,by rw[aE,show 0+Int.toNat (k:Int)*1=k by omega],?_⟩;rw[H3.rdT hk,bD];refine⟨rfl,?_⟩;have hb:=H3.len k hk;refine gv (lo:=lo) (H3.own k hk) A3 rfl rfl Y (by simp[Value.oneCell']) Y λp' c' h4 Ow O4 hp'=>⟨rfl,rfl,rfl,?_⟩;have nS:S∉aR (p k):=λhb=>(H.sep k hk S hb).2.1 rfl;have nr:r∉aR (p k):=λhb=>(H.sep k hk r hb).1 rfl;have R4:=H3.R.only O4 nr;have T4:=H3.T.only O4 nS;rw[show rd h4 ⟨r,1,none⟩=some (.slice (some (ah S)) W W)from R4.rd 1,bD];refine⟨rfl,rfl,?_⟩;rw[aL];refine⟨Y,Y,?_⟩;rw[aE,aE,show 0+Int.toNat (k:Int)*1+0=k by omega];refine aK T4 (by rw[bu];exact hk) rfl λh5 A5 O5 z5=> ?_;have O35:aF (S::aR (p k)) h h5:=((O3.mono (T:=S::aR (p k)) Z).trans O4 (by intro b hb _;simp[hb])).trans O5 (by intro b hb _;simp at hb;simp[hb])
   have hp5: ∀b∈aR p',b∈aR (p k)\/h.size<=b:=λb hb=>by
    rcases hp' b hb with h|h
    ·exact .inl h
    ·exact .inr Y
   have A5':At h5 S (bS W λj=> .slice (fK p k p' j) (fK L k (L k++[x]) j).length (fK c k c' j)):=by rw[<-qV];rw[List.length_append,List.length_singleton];exact A5
   refine hK k rfl hk h5 p' c' (qO H hk O35 Y (by simp;have:=H.len k hk;omega) A5' ?_ hp5) O35 hp5;rw[List.length_append,List.length_singleton,List.map_append,List.map_singleton];refine Ow.onlyC O5 λb hb _ hbS=> ?_;simp at hbS;subst hbS;rcases hp' b hb with h|h
   ·exact nS h
   ·have:=H.lt;omega
def CP(H:Rf lo h r M S W N f p c L){w:Int}(hN:N<=LB/8)(h0:(¬(0<=w/\w<W)\/L w.toNat=[])->K (.tuple #[ae 0,aq]) h)
  (hK: ∀(k:Nat) (l:List Int) (x:Int),w=k->k<W->L k=l++[x]-> ∀h',Rf lo h' r M S W N f p c (fK L k l)->aF [S] h h'->K (.tuple #[ae x,au]) h'):
  Cl 176 [ag (ah r),ac w] h K:=by
 refine F176.spec ?_;have hLB:LB=140737488355328:=rfl;refine yF H ?_;rw[aU];by_cases hin:0<=w/\w<W
 ·rw[if_pos hin];obtain⟨k,rfl⟩: ∃k:Nat,w=k:=⟨w.toNat,Y⟩;have hk:k<W:=Y;rw[Int.toNat_natCast]at h0 ⊢;rcases List.eq_nil_or_concat (L k)with e|⟨l,x,e⟩
  ·rw[e,show(((([]:List Int).length:Nat):Int)==0)=true by simp,aG];exact h0 (.inr e)
  ·rw[List.concat_eq_append]at e;have hlen:(L k).length=l.length+1:=by rw[e];simp
   have hb:=H.len k hk;rw[show((((L k).length:Nat):Int)==0)=false from beq_eq_false_iff_ne.2 Y,aD,aE,Nat.zero_add,H.rd1,bD,aL];refine⟨Y,Y,?_⟩;rw[aE,show 0+k*1=k by omega,H.rdT hk,bD,bD,show ai (((L k).length:Int)-1)=(l.length:Int) by rw[aV Y Y];omega];have Ow:=H.own k hk
   have hc:(L k).length<=c k:=by
    rcases Ow.2 with⟨_,e1,_⟩|⟨b,sp,_,_,h3,_⟩
    ·omega
    ·exact h3
   obtain⟨b,sp,hpb,hlob,h3,h4,h5⟩: ∃(b:Nat) (sp:List Value),p k=some (ah b)/\lo<=b/\(L k).length<=c k/\sp.length=(c k-(L k).length)*1/\At h b ((L k).map (Value.int .u32)++sp):=by
    rcases Ow.2 with⟨_,e1,_⟩|h
    ·omega
    ·exact h
   refine⟨Y,Y,?_⟩;rw[aL];refine⟨Y,Y,?_⟩;rw[aE,aE,show 0+k*1+0=k by omega,if_neg (by omega: ¬c k=0)];have ep:Option.map (λa=>Addr.add a (0*1)) (p k)=p k:=by rw[hpb];simp
   rw[ep,Nat.sub_zero,Int.toNat_natCast,Nat.sub_zero];refine aK H.T (by rw[bu];exact hk) rfl λh6 A6 O6 z6=> ?_;have nbS:b≠S:=λe=>(H.sep k hk b (by rw[hpb];simp[aR])).2.1 e;have h5':=h5.only O6 (by simpa using nbS);rw[hpb,aL];refine⟨Y,Y,?_⟩;rw[aE,h5'.rd,show 0+l.length*1=l.length by omega,List.getElem?_append_left (by simp;omega)];have ex:((L k).map (Value.int .u32))[l.length]? =some (ae x):=by rw[e];simp
   rw[ex,aU];have e1:fK p k (p k)=p:=by funext j;unfold fK;split<;>simp_all
   have e2:fK c k (c k)=c:=by funext j;unfold fK;split<;>simp_all
   have A6':At h6 S (bS W λj=> .slice (fK p k (p k) j) (fK L k l j).length (fK c k (c k) j)):=by rw[<-qV];exact A6
   have R6:=qO H hk (O6.mono (T:=S::aR (p k)) (by intro b hb _;simp at hb;simp[hb])) (Nat.le_refl _) Y A6' ⟨Z,.inr ⟨b,ae x::sp,hpb,hlob,Y,by simp;omega,by rw[e]at h5';simpa using h5'⟩⟩ λb hb=> .inl hb;rw[e1,e2]at R6;exact hK k l x rfl hk e h6 R6 O6
 ·rw[if_neg hin,show((0:Int)==0)=true by decide,aG];exact h0 (.inl hin)
end
end
section
open Go Go.RowKit Go.Maps
def iW(_:Value):Option (DataW Unit×List MemPlace):=some (.nil,[])
def wv(q:IntKind)(p:Int×Value):Lit×DataW Unit:=(.int q p.1,.nil)
def tQ{P:Program}{kt:TypeId}{q:IntKind}(hk:P.underlying kt=some (.int q)){w:World}{b:Nat}{m:List (Int×Value)}(M:bU w.heap b q m)
  (hwf: ∀x∈m.map (·.1),(Lit.int q x).wf=true) (hsz:m.length<=maxLen):
  ∃D:DataW Unit,w.ownsMap P kt iW b m.length D/\Maps.size D=m.length/\ ∀x,Maps.has D (.int q x)=true↔x∈m.map (·.1):=by
 obtain⟨es,cl,h1,h2,h3,h4,h5⟩:=M;have hlen:es.toList.length=m.length:=by simpa using congrArg List.length h2
 have hrd: ∀(l:List MapEntry) (m:List (Int×Value)),l.map (λe=>(e.key,e.val))=m.map (λp=>(Value.int q p.1,p.2))->(∀x∈m.map (·.1),(Lit.int q x).wf=true)->
   l.map (WideElems.rg P kt iW)=m.map (wv q)/\ ∀x∈l,∃y,WideElems.rd P kt iW x=some y:=by
  intro l
  induction l with
  |nil=>intro m h _;cases m with
   |nil=>exact⟨rfl,Z⟩
   |cons p m=>simp at h
  |cons e l ih=>intro m h hw;cases m with
   |nil=>simp at h
   |cons p m=>
    simp only[List.map_cons,List.cons.injEq,Prod.mk.injEq]at h;obtain⟨⟨a1,a2⟩,a3⟩:=h;obtain⟨i1,i2⟩:=ih m a3 λx hx=>hw x (by simp[hx])
    have hr:WideElems.rd P kt iW e=some (wv q p):=by
     unfold WideElems.rd;rw[a1,keyOf_int_mk hk (hw p.1 Z)]
     rfl
    refine⟨by rw[List.map_cons,List.map_cons,i1];unfold WideElems.rg;rw[hr];rfl,λx hx=> ?_⟩;rcases List.mem_cons.1 hx with rfl|hx
    ·exact⟨_,hr⟩
    ·exact i2 x hx
 obtain⟨r1,r2⟩:=hrd _ m h2 hwf;refine⟨_,⟨es,cl,oq h1,⟨by rw[<-Array.length_toList,hlen];exact hsz,⟨h5,h4,?_⟩,r2⟩,by rw[<-Array.length_toList,hlen];exact Nat.le_refl _,rfl⟩,?_,λx=> ?_⟩
 ·have e:es.toList.map (·.key)=(m.map (·.1)).map (Value.int q):=by
   have:=congrArg (List.map Prod.fst) h2;simpa[List.map_map,Function.comp_def]using this
  rw[e];exact h3.map _ λa b hab e=>hab (by injection e)
 ·rw[Maps.size_eq,length_sorted,List.length_map,hlen]
 ·rw[Maps.has_eq,List.any_eq_true,r1];constructor
  ·rintro ⟨p,hp,hs⟩;rw[mem_sorted,List.mem_map]at hp;obtain⟨y,hy,rfl⟩:=hp;simp[wv,Lit.sameKey]at hs;exact List.mem_map.2 ⟨y,hy,hs⟩
  ·intro hx;obtain⟨p,hp,rfl⟩:=List.mem_map.1 hx;exact⟨wv q p,mem_sorted.2 (List.mem_map.2 ⟨p,hp,rfl⟩),by simp[wv,Lit.sameKey]⟩
def fS(q:IntKind)(D0:DataW Unit)(left:Lit->Bool)(ss:List Int):Prop:=ss.Nodup/\ ∀x,x∈ss↔(Maps.has D0 (.int q x)=true/\left (.int q x)=false)
def fS.start(q:IntKind)(D0:DataW Unit):fS q D0 (Maps.has D0) []:=⟨List.nodup_nil,λx=>by cases Maps.has D0 (.int q x)<;>simp⟩
def fS.step{q:IntKind}{D0:DataW Unit}{left:Lit->Bool}{ss:List Int}(h:fS q D0 left ss){x:Int}{y:DataW Unit}(hlk:left (.int q x)=true)(hat: ∀zd,D0.atKey (.int q x) zd=y):
  fS q D0 (λz=>left z&& !z.sameKey (.int q x)) (ss++[x]):=by
 have hhas:Maps.has D0 (.int q x)=true:=Maps.has_true_of_atKey hat;have hnew:x∉ss:=λhx=>by have:=((h.2 x).1 hx).2;rw[hlk]at this;cases this
 refine⟨List.nodup_append.2 ⟨h.1,Z,λa ha b hb=>by simp at hb;subst hb;exact λe=>hnew (e▸ha)⟩,λy=> ?_⟩;by_cases hy:y=x
 ·subst hy;simp[hhas,Lit.sameKey]
 ·simp[h.2 y,hy,Lit.sameKey]
def fS.perm{q:IntKind}{D0:DataW Unit}{left:Lit->Bool}{ss ks:List Int}(h:fS q D0 left ss)(hl: ∀kl,left kl=false)(hnd:ks.Nodup)(hm: ∀x,Maps.has D0 (.int q x)=true↔x∈ks):ss.Perm ks:=
 (List.perm_ext_iff_of_nodup h.1 hnd).2 λx=>by rw[h.2 x,hl,<-hm];simp
def pu(W W':World):Prop:= ∀a,fz W'.heap a=fz W.heap a
def mh{h:aA}{a:Addr}{o:Obj}(ho:h[a.block]? =some o)(hc:o.isCells=false):fz h a=false:=by unfold fz;rw[ho];cases o<;>first|rfl|(simp[Obj.isCells]at hc)
def pu.alloc(W:World){o:Obj}(hc:o.isCells=false):pu W (W.alloc o):=λa=>by
 by_cases ha:a.block=W.heap.size
 ·rw[mh (o:=o) (by rw[ha];exact World.alloc_heap_new W o) hc];unfold fz;rw[ha,Array.getElem?_eq_none (Nat.le_refl _)]
 ·unfold fz;show(match (W.heap.push o)[a.block]? with|some (.cells _ _ (lo,hi))=>lo<=a.off&&a.off<hi|_=>false)=_;rw[Array.getElem?_push,if_neg ha]
  rfl
def pu.put{W:World}{l:Nat}{o:Obj}(o':Obj)(hl:W.heap[l]? =some o)(hc:o.isCells=false)(hc':o'.isCells=false):pu W (W.putObj l o'):=λa=>by
 by_cases ha:a.block=l
 ·rw[mh (o:=o') (by rw[ha];exact World.putObj_heap_same (Array.getElem?_eq_some_iff.1 hl).1) hc',mh (o:=o) (by rw[ha];exact hl) hc]
 ·unfold fz;rw[World.putObj_heap_other ha]
def pu.one{W W':World}{r:Nat}(hs: ∀k,k<W.heap.size->k≠r->W'.heap[k]? =W.heap[k]?){o:Obj}(hr:W.heap[r]? =some o\/W.heap.size=r)(ho:W.heap[r]? =some o->o.isCells=false){o':Obj}(hr':W'.heap[r]? =some o')(ho':o'.isCells=false)
  (hsz:W'.heap.size<=max W.heap.size (r+1)):pu W W':=λa=>by
 by_cases ha:a.block=r
 ·rw[mh (o:=o') (by rw[ha];exact hr') ho'];rcases hr with hr|hr
  ·rw[mh (o:=o) (by rw[ha];exact hr) (ho hr)]
  ·unfold fz;rw[ha,Array.getElem?_eq_none (Nat.le_of_eq hr)]
 ·unfold fz;by_cases hk:a.block<W.heap.size
  ·rw[hs _ hk ha]
  ·have:W'.heap.size<=a.block:=by
    rcases Nat.le_total W.heap.size (r+1)with h|h
    ·rw[Nat.max_eq_right h]at hsz;rcases hr with hr|hr
     ·have:=(Array.getElem?_eq_some_iff.1 hr).1;omega
     ·omega
    ·rw[Nat.max_eq_left h]at hsz;omega
   rw[Array.getElem?_eq_none (Nat.le_of_not_lt hk),Array.getElem?_eq_none this]
def aF.allocW(W:World){o:Obj}(hc:o.isCells=false):aF [] W.heap (W.alloc o).heap:=
 ⟨Z,λb hb _=>Below.heap_alloc W o b hb,pu.alloc W hc⟩
def aF.putW{W:World}{l:Nat}{o:Obj}(o':Obj)(hl:W.heap[l]? =some o)(hc:o.isCells=false)(hc':o'.isCells=false):aF [l] W.heap (W.putObj l o').heap:=
 ⟨Z,λb _ hS=>World.putObj_heap_other (λe=>hS (by simp[e])),pu.put o' hl hc hc'⟩
def vK{a:Addr}{K K':aA->Prop}: ∀(cs:List Value) (i:Nat) (h:aA),mt a i cs h K->(∀h',K h'->K' h')->mt a i cs h K':=by
 intro cs
 induction cs with
 |nil=>intro i h H hK;unfold mt at H ⊢;exact hK h H
 |cons v vs ih=>
  intro i h H hK;unfold mt aP at H ⊢;cases hv:v.oneCell' with
  |false=>rw[hv]at H;exact H
  |true=>rw[hv]at H;exact⟨H.1,H.2.1,ih _ _ H.2.2 hK⟩
def kW(B:Nat)(J:List Int->World->Prop):Prop:=
 ∀s W W' row,J s W->W.grownBy W' row->pu W W'->(∀r,row=some r->B<=r/\ ∃o:Obj,W.heap[r]? =some o/\o.isWalk=true)->J s W'
def lD{W W':World}{row:Option Nat}(hg:W.grownBy W' row)(hf:pu W W'):aF row.toList W.heap W'.heap:=
 ⟨hg.size,λb hb hS=>hg.block b hb (λe=>hS (by rw[<-e];simp)),hf⟩
def rt{W W':World}{row:Option Nat}(hg:W.grownBy W' row):W'.os=W.os/\W'.tape=W.tape/\W'.output=W.output:=by obtain⟨a,b,c,-⟩:=hg;constructor<;>(try constructor)<;>assumption
def uy{h:aA}{e:TypeId}{sz by_:Nat}{z:Array Value}{p q:ak}{l c m:Nat}{K K':ak->Nat->Nat->aA->Prop}(H:fA h e sz by_ z p l c q m K)
  (hK: ∀p' l' c' h',K p' l' c' h'->K' p' l' c' h'):fA h e sz by_ z p l c q m K':=by
 obtain⟨new,a1,a2,a3,a4⟩:=H;refine⟨new,a1,a2,λhle=> ?_,λhlt=> ?_⟩
 ·have:=a3 hle;cases p with
  |none=>exact⟨this.1,hK _ _ _ _ this.2⟩
  |some ad=>exact vK _ _ _ this λh' hk=>hK _ _ _ _ hk
 ·obtain⟨old,b1,b2,b3,b4⟩:=a4 hlt;exact⟨old,b1,b2,b3,λcap hc=>hK _ _ _ _ (b4 cap hc)⟩
def jC{F:Fence}{n:Nat}{P:Program}(w:World){ops:Array Oper}{rest:List Oper}{o:Oper}{a:Act}{Q:Exit->Act->World->Prop}(hg:o.guard=none)(x y:Operand)(t:TypeId)
  (ho:o.op= .call {callee:= .builtin .append,args:= #[x,y],argTypes:= #[t,t]}) {e:TypeId} {sz by_:Nat} {z:Array Value} {p q:ak} {l c m c':Nat}
  (ht:P.underlying t=some (.slice e)) (hs:iR P e=some (sz,by_,z)) (hby:1<=by_) (hx:a.eval x= .slice p l c) (hy:a.eval y= .slice q m c')
  {K:ak->Nat->Nat->aA->Prop} (H:fA w.heap e sz by_ z p l c q m K)
  (h: ∀p' l' c' w',bN w w'->K p' l' c' w'.heap->wpListIn F n P ops Q rest (a.put o.dst (.slice p' l' c')) w'):wpListIn F n P ops Q (o::rest) a w:=by
 refine wpListIn_plain hg λK' hK'=> ?_
 obtain⟨v,w',hr,hsame,⟨p',l',c',hv,hk⟩⟩:=lU (P:=P) (ty:=o.type) (c':=c') (K:=λv h=> ∃p' l' c',v= .slice p' l' c'/\K p' l' c' h) ht ⟨e,ht⟩ hs hby
  (uy H λp' l' c' h' hk=>⟨p',l',c',rfl,hk⟩) w rfl
 unfold Oper.wpIn;refine⟨by simp[Oper.about,ho,resolve,Target.leads,Sem.run_pure],?_⟩;rw[Oper.semAt_plain F _ _ (by rw[ho];intro c hc';cases hc')];simp[execOp,ho,resolve,invoke,builtin,hx,hy,hr,Result.andThen];subst hv;exact hK' _ _ (h _ _ _ _ hsame hk)
end
section
open Go Go.RowKit Go.Maps
def CX:Tryz.prog.underlying 46=some (.int .u32):=by kernel_rfl
def Ei:Tryz.prog.underlying 204=some (.map 46 3):=by kernel_rfl
def E8:Tryz.prog.underlying 56=some (.slice 46):=by kernel_rfl
set_option maxRecDepth 100000 in
set_option maxHeartbeats 2000000 in
def wM{F:Fence}{n:Nat}(h66:F.fn 293)(hro:F.round=none)(hn:1<=n)(l Bm b nn:Nat)(D0:DataW Unit)(J:List Int->World->Prop)
  (hY: ∀pre x W,J pre W->pre.length<Maps.size D0->YieldAt F (n-1) Tryz.prog l #[ae x] W λe W'=>e= .returned au/\J (pre++[x]) W'/\KeepsWalks W W')
  (W:World) (hJ:kW W.heap.size J) (hm:W.cell? (ah Bm)=some (.map (some b))) (hown:W.ownsMap Tryz.prog 46 iW b nn D0) (h0:J [] W):
  CallsIn F n Tryz.prog 293 #[.func (.yield l) #[] #[],ag (ah Bm)] W λe W'=>(∃v,e= .returned v)/\ ∃ss:List Int,J ss W'/\ ∃left,fS .u32 D0 left ss/\ ∀kl,left kl=false:=by
 refine callsIn_of_wp Tryz.func293 rfl h66 ?_ hro;simp only[Tryz.ntmps293,List.size_toArray,List.length_cons,List.length_nil,Nat.reduceAdd,Nat.reduceSub,Array.replicate_succ,Array.replicate_zero,List.push_toArray,List.append_toArray,List.nil_append,List.cons_append]
 gi_wp2_with (first
  |(gi_at_range;refine wpListIn_range_own _ rfl _ 204 rfl 46 3 (int_keyed CX) Ei _ b nn _ rfl hown ?_;intro w0 hrg0 hg0 hs0)
  |gi_in)
 go_frame
 gi_loopw [3] (λ_ wr=> ∃(left:Lit->Bool) (cnt:Nat) (ss:List Int),wr.ranges Tryz.prog 46 iW b W.heap.size nn D0 left cnt/\ss.length+cnt<=Maps.size D0/\fS .u32 D0 left ss/\J ss wr)
  (λ_ wr=>wr.rangeLeft b W.heap.size)
 case atStart=>
  have hf0:pu W w0:=by obtain⟨es,clock,since,seen,c0,_,_,_,_,hr,_⟩:=hrg0;exact pu.one (r:=W.heap.size) (o:= .mapIter none 0 #[] 0) (λk hk _=>hg0.block k hk Z) (.inr rfl) (λ_=>rfl) hr rfl Y
  exact⟨_,_,[],hrg0,Z,fS.start .u32 D0,hJ [] W w0 none h0 hg0 hf0 (λr e=>by cases e)⟩
 case round=>
  obtain⟨left,cnt,ss,hrg,hcs,hC,hJs⟩:=hrel
  gi_wp2_with (first
   |(gi_at_next;refine wpListIn_next_ranges _ rfl _ rfl 46 (int_keyed CX) iW (Value.int .u32) (λv:Value=>v) (λkey kl hk=>by obtain⟨x,hx,_⟩:=Maps.keyOf_int_inv CX hk;exact⟨x,hx⟩) (λv y hv=>⟨v,rfl⟩) b W.heap.size nn _ _ _ rfl hrg ?_ ?_)
   |gi_in)
  ·intro hc0 hl0
   gi_wp2
   go_end0
   exact⟨⟨_,rfl⟩,ss,hJs,left,hC,hl0⟩
  ·intro x c kl yd yp w2 cnt2 hkey hlk hv hat hrg2 hlt hg2 hs2 hen;obtain⟨x',ex,rfl,_⟩:=Maps.keyOf_int_inv CX hkey;cases ex
   have hf2:pu wr w2:=by obtain⟨es,clock,since,seen,c0,_,_,_,_,hr,_⟩:=hrg;obtain⟨es',clock',since',seen',c0',_,_,_,_,hr',_⟩:=hrg2;exact pu.one (r:=W.heap.size) (o:= .mapIter (some b) since seen c0) (λk hk hne=>hg2.block k hk (by simpa using hne)) (.inl hr) (λ_=>rfl) hr' rfl Y
   have hJ2:J ss w2:=hJ ss wr w2 (some W.heap.size) hJs hg2 hf2 (λr e=>by cases e;exact⟨Nat.le_refl _,hrg.iter_walk⟩);obtain⟨fn,tmps,assign,body,hy,hR⟩:=hY ss x w2 hJ2 Y;clear hs2 hf2
   gi_wp2
   refine hR.mono ?_;rintro e W3 ⟨rfl,hJ3,hk3⟩
   gi_wp2
   have hrg3:=hrg2.of_walks hk3
   go_roundw
   case rel=>exact⟨_,cnt2,ss++[x],hrg3,by simp;omega,hC.step hlk hat,hJ3⟩
   case measure=>rw[hrg3.left_eq,hrg.left_eq];exact hlt
end
section
open Go Go.RowKit Go.Maps
def io:Code->Option (Code×Code)
 | .seq a b=>(io a).or (io b)
 | .block _ c=>io c
 | .rangeFunc _ _ a b=>some (a,b)
 |_=>none
noncomputable def fg:Code:=((Tryz.f292.body.bind io).map (·.1)).getD .skip
noncomputable def i6:Code:=((Tryz.f292.body.bind io).map (·.2)).getD .skip
noncomputable def cU(fn:FuncId)(sv:Value)(Bs D:Nat)(st:LoopState)(pend:Option Code):Loop:=
 {state:=st,pending:=pend,fn,tmps:= #[.slice none 0 0,sv,ag (ah Bs),undef,.slice none 0 0,undef,sv,undef,undef,undef,undef,undef,undef],params:= #[7],assign:=fg,body:=i6,defers:=D}
structure lN(w0:World)(fn:FuncId)(sv:Value)(Bs l D:Nat)(ss:List Int)(W:World):Prop where
 box: ∃p c,At W.heap Bs [.slice p ss.length c]/\ct W.heap (Bs+1) 1 p ss.length c (ss.map (Value.int .u32))
 L:W.heap[l]? =some (.loop (cU fn sv Bs D .ready none))
 K:W.heap[D]? =some (.deferred (some []))
 only:aF [] w0.heap W.heap
 same:bN w0 W
def At.notWalk{h:aA}{b r:Nat}{c:List Value}(A:At h b c)(hr: ∃o:Obj,h[r]? =some o/\o.isWalk=true):b≠r:=by obtain⟨e,A⟩:=A;obtain⟨o,hr,hw⟩:=hr;intro e';subst e';rw[A]at hr;cases hr;cases hw
def bN.of_grown{W W':World}{row:Option Nat}(hg:W.grownBy W' row):bN W W':=rt hg
def jW(w0:World)(fn:FuncId)(sv:Value)(Bs l D B:Nat)(hB:w0.heap.size<=B):kW B (lN w0 fn sv Bs l D):=λs W W' row h hg hf hrow=>by
 have hrow': ∀r,row=some r-> ∃o:Obj,W.heap[r]? =some o/\o.isWalk=true:=λr e=>(hrow r e).2;have O:=lD hg hf
 have hno: ∀b,(∃c,At W.heap b c)->b∉row.toList:=λb ⟨c,A⟩ hb=>by
  cases row with
  |none=>simp at hb
  |some r=>simp at hb;exact A.notWalk (hrow' r rfl) hb
 obtain⟨p,c,A,H⟩:=h.box
 exact⟨⟨p,c,A.only O (hno _ ⟨_,A⟩),H.onlyC O λb _ hc=>hno b hc⟩,(grownBy_keeps hg hrow' h.L rfl).trans h.L,(grownBy_keeps hg hrow' h.K rfl).trans h.K,
  h.only.trans O (λb hb hlt=>by
   cases row with
   |none=>simp at hb
   |some r=>
    simp at hb;have:=(hrow r rfl).1;omega),h.same.trans (bN.of_grown hg)⟩
def lH{S:List Nat}{W W':World}(O:aF S W.heap W'.heap)(h: ∀r∈S,∀o:Obj,W.heap[r]? =some o->o.isWalk=false):KeepsWalks W W':=
 ⟨O.size,λk o hk ho=>(O.same k (Array.getElem?_eq_some_iff.1 hk).1 (λhS=>by rw[h k hS o hk]at ho;cases ho)).trans hk⟩
def At.ne_obj{h:aA}{b r:Nat}{c:List Value}(A:At h b c){o:Obj}(hr:h[r]? =some o)(ho:o.isCells=false):b≠r:=by obtain⟨e,A⟩:=A;intro e';subst e';rw[A]at hr;cases hr;cases ho
def At.walkF{h:aA}{b:Nat}{c:List Value}(A:At h b c): ∀o:Obj,h[b]? =some o->o.isWalk=false:=by
 obtain⟨e,A⟩:=A;intro o ho;rw[A]at ho;cases ho
 rfl
def D9:iR Tryz.prog 46=some (1,4,#[ae 0]):=by kernel_rfl
set_option maxRecDepth 100000 in
set_option maxHeartbeats 2000000 in
def ot{F:Fence}{m:Nat}(w0:World)(fn:FuncId)(hfn:F.fn fn)(sv:Value)(Bs l D:Nat)(hBl:Bs≠l)(hDl:D≠l)(hDB:D≠Bs)(h0B:w0.heap.size<=Bs)(h0l:w0.heap.size<=l)
  (N:Nat) (hN:N*4<=140737488355328) (ss:List Int) (x:Int) (W:World) (h:lN w0 fn sv Bs l D ss W) (hlen:ss.length<N):
  YieldAt F m Tryz.prog l #[ae x] W λe W'=>e= .returned au/\lN w0 fn sv Bs l D (ss++[x]) W'/\KeepsWalks W W':=by
 obtain⟨p,c,A,H⟩:=h.box;refine⟨fn,#[.slice none 0 0,sv,ag (ah Bs),undef,.slice none 0 0,undef,sv,ae x,undef,undef,undef,undef,undef],fg,i6,by simpa[cU]using run_yield (P:=Tryz.prog) (args:= #[ae x]) h.L rfl,roundIn_of_wpIn hfn ?_⟩;have hl:l<W.heap.size:=(Array.getElem?_eq_some_iff.1 h.L).1;have hbr:=run_beginRound (P:=Tryz.prog) h.L rfl;obtain⟨W2,hW2⟩: ∃W2,W.putObj l (.loop {cU fn sv Bs D .ready none with state:= .busy})=W2:=⟨_,rfl⟩;rw[hW2]at hbr;have hnl: ∀b,(∃c,At W.heap b c)->b∉[l]:=λb ⟨c,A⟩ hb=>A.ne_obj h.L rfl (by simpa using hb);have O2:aF [l] W.heap W2.heap:=by rw[<-hW2];exact aF.putW _ h.L rfl rfl
 have A2:At W2.heap Bs [.slice p ss.length c]:=A.only O2 (hnl _ ⟨_,A⟩);have H2:=H.onlyC O2 λb _ hc=>hnl b hc;have hK2:W2.heap[D]? =some (.deferred (some [])):=by rw[<-hW2];exact(World.putObj_heap_other hDl).trans h.K
 have hL2:W2.heap[l]? =some (.loop {cU fn sv Bs D .ready none with state:= .busy}):=by rw[<-hW2];exact World.putObj_heap_same hl
 have S2:bN W W2:=by rw[<-hW2];exact⟨rfl,rfl,rfl⟩
 have hc2:W2.cell? (ah Bs)=some (.slice p ss.length c):=A2.rd 0;have hf2:W2.frozen? (ah Bs)=false:=A2.fz 0 none;have A3:At (W2.alloc (.cells #[ae x] 46)).heap W2.heap.size [ae x]:=At.push _ _ _;have O3:aF [] W2.heap (W2.alloc (.cells #[ae x] 46)).heap:=aF.push_cells _ _ _;have H3:=H2.onlyC O3 λb _ _=>Z;have A3':=A2.only O3 Z;have hBlt:=A2.lt;have hz3:=O3.size;clear hW2;simp only[fg,Tryz.f292,io,Option.bind_some,Option.map_some,Option.getD_some,Option.none_or,Option.some_or]
 gi_wp2_with (rw[Oper.semAt_eq _ _ _ (λc h=>by cases h)];go_simp;try go_bits)
 simp only[i6,Tryz.f292,io,Option.bind_some,Option.map_some,Option.getD_some,Option.none_or,Option.some_or]
 gi_wp2_with (first
  |(gi_at_builtin;refine jC _ rfl _ _ 56 rfl E8 D9 (by decide) rfl rfl (gv (K:=λp' l' c' h'=>l'=ss.length+1/\ct h' (Bs+1) 1 p' (ss.length+1) c' (ss.map (Value.int .u32)++[ae x])/\aF (aR p) (W2.alloc (.cells #[ae x] 46)).heap h'/\ ∀b∈aR p',b∈aR p\/(W2.alloc (.cells #[ae x] 46)).heap.size<=b) H3 A3 rfl rfl Y (by simp[Value.oneCell']) Y λp' c' h' a b c=>⟨rfl,a,b,c⟩) ?_;rintro p' l' c' w3 S3 ⟨rfl,H4,O4,hp'⟩
    have hnB:Bs∉aR p:=λhb=>by have:=H2.lt Bs hb;omega
    have A4:=A3'.only O4 hnB;have hc3:w3.cell? (ah Bs)=some (.slice p ss.length c):=A4.rd 0;have hf3:w3.frozen? (ah Bs)=false:=A4.fz 0 none
    go_frame)
  |(rw[Oper.semAt_eq _ _ _ (λc h=>by cases h)];go_simp;try go_bits))
 have hlB:l∉aR p:=λhb=>by obtain⟨c,A⟩:=H3.cells l hb;exact A.ne_obj ((Below.heap_alloc _ _ l (Array.getElem?_eq_some_iff.1 hL2).1).trans hL2) rfl rfl
 have hDB':D∉aR p:=λhb=>by obtain⟨c,A⟩:=H3.cells D hb;exact A.ne_obj ((Below.heap_alloc _ _ D (Array.getElem?_eq_some_iff.1 hK2).1).trans hK2) rfl rfl
 have hL3:w3.heap[l]? =some (.loop {cU fn sv Bs D .ready none with state:= .busy}):=(O4.same l (Nat.lt_of_lt_of_le (Array.getElem?_eq_some_iff.1 hL2).1 hz3) hlB).trans ((O3.same l (Array.getElem?_eq_some_iff.1 hL2).1 Z).trans hL2);have hK3:w3.heap[D]? =some (.deferred (some [])):=(O4.same D (Nat.lt_of_lt_of_le (Array.getElem?_eq_some_iff.1 hK2).1 hz3) hDB').trans ((O3.same D (Array.getElem?_eq_some_iff.1 hK2).1 Z).trans hK2);obtain⟨w4,hw4⟩: ∃w4,w3.setCell (ah Bs) (.slice p' (ss.length+1) c')=w4:=⟨_,rfl⟩;rw[hw4];have O5:aF [Bs] w3.heap w4.heap:=by rw[<-hw4];exact aF.wr w3.heap (ah Bs) _
 have A5:At w4.heap Bs [.slice p' (ss.length+1) c']:=by rw[<-hw4];exact A4.wr 0 _
 have S4:bN w3 w4:=by rw[<-hw4];exact⟨rfl,rfl,rfl⟩
 have hL4:w4.heap[l]? =some (.loop {cU fn sv Bs D .ready none with state:= .busy}):=(O5.same l (Array.getElem?_eq_some_iff.1 hL3).1 (by simpa using Ne.symm hBl)).trans hL3;have hK4:w4.heap[D]? =some (.deferred (some [])):=(O5.same D (Array.getElem?_eq_some_iff.1 hK3).1 (by simpa using hDB)).trans hK3
 have H5:=H4.onlyC O5 λb hb _ hbB=>by simp at hbB;subst hbB;have:=H4.lt b hb;omega
 clear hw4;have O6:aF [l] w4.heap (w4.putObj l (.loop {{cU fn sv Bs D .ready none with state:= .busy}with state:=if(none:Option Code).isNone then .ready else .done,pending:=none})).heap:=aF.putW _ hL4 rfl rfl;have hnl4: ∀b,(∃c,At w4.heap b c)->b∉[l]:=λb ⟨c,A⟩ hb=>A.ne_obj hL4 rfl (by simpa using hb)
 have OO:aF (l::Bs::aR p) W.heap (w4.putObj l (.loop {{cU fn sv Bs D .ready none with state:= .busy}with state:=if(none:Option Code).isNone then .ready else .done,pending:=none})).heap:=by refine(((((O2.mono (T:=l::Bs::aR p) (by simp+contextual)).trans O3 Z).trans O4 (by simp+contextual)).trans O5 (by simp+contextual)).trans O6 (by simp+contextual))
 refine⟨_,_,run_endRound none hL4,rfl,⟨⟨p',c',?_,?_⟩,World.putObj_heap_same (Array.getElem?_eq_some_iff.1 hL4).1,(World.putObj_heap_other hDl).trans hK4,h.only.trans OO ?_,?_⟩,lH OO ?_⟩
 ·rw[List.length_append,List.length_singleton];exact A5.only O6 (hnl4 _ ⟨_,A5⟩)
 ·rw[List.length_append,List.length_singleton,List.map_append,List.map_singleton];exact H5.onlyC O6 λb _ hc=>hnl4 b hc
 ·intro b hb hlt;rcases List.mem_cons.1 hb with rfl|hb
  ·omega
  ·rcases List.mem_cons.1 hb with rfl|hb
   ·omega
   ·have:=H.lt b hb;omega
 ·exact((((h.same.trans S2).trans ⟨rfl,rfl,rfl⟩).trans S3).trans S4).trans ⟨rfl,rfl,rfl⟩
 ·intro r hr o ho;rcases List.mem_cons.1 hr with rfl|hr
  ·rw[h.L]at ho;cases ho;rfl
  ·rcases List.mem_cons.1 hr with rfl|hr
   ·exact A.walkF o ho
   ·obtain⟨c,A'⟩:=H.cells r hr;exact A'.walkF o ho
end
section
open Go Go.RowKit Go.Maps Go.Shelf
set_option maxRecDepth 100000 in
set_option maxHeartbeats 2000000 in
def jY{F:Fence}{n:Nat}(h65:F.fn 292)(h66:F.fn 293)(hro:F.round=none)(hn:2<=n)(Bm b:Nat)(m:List (Int×Value))(w:World)(A:At w.heap Bm [.map (some b)])(M:bU w.heap b .u32 m)
  (hwf: ∀x∈m.map (·.1),(Lit.int .u32 x).wf=true) (hsz:m.length*4<=140737488355328):
  CallsIn F n Tryz.prog 292 #[.slice none 0 0,.func (.func 293) #[] #[ag (ah Bm)]] w λe w'=> ∃(p:ak) (c:Nat) (ss:List Int),e= .returned (.slice p ss.length c)/\ss.Perm (m.map (·.1))/\
   ct w'.heap (w.heap.size+1) 1 p ss.length c (ss.map (Value.int .u32))/\aF [] w.heap w'.heap/\bN w w':=by
 have h1:1<=n:=Y;have hnd:(m.map (·.1)).Nodup:=by obtain⟨_,_,_,_,h,_⟩:=M;exact h
 have eg: ∀args w,(callFunc 293 args).run Tryz.prog w= .ok (.enter 293 args) w:=enters_of Tryz.func293 (by kernel_rfl) rfl;refine callsIn_of_wp_marks Tryz.func292 rfl h65 ?_ hro;simp only[Tryz.ntmps292,List.size_toArray,List.length_cons,List.length_nil,Nat.reduceAdd,Nat.reduceSub,Array.replicate_succ,Array.replicate_zero,List.push_toArray,List.append_toArray,List.nil_append,List.cons_append]
 gi_wp2
 refine wpIn_rangeFunc ?_;intro fn hfn;rw[hro];obtain⟨W0,hW0⟩: ∃W0,w.alloc (.cells #[.slice none 0 0] 56)=W0:=⟨_,rfl⟩;have hs0:W0.heap.size=w.heap.size+1:=by rw[<-hW0];simp
 have O0:aF [] w.heap W0.heap:=by rw[<-hW0];exact aF.push_cells _ _ _
 have A0:At W0.heap w.heap.size [.slice none 0 0]:=by rw[<-hW0];exact At.push _ _ _
 have S0:bN w W0:=by rw[<-hW0];exact⟨rfl,rfl,rfl⟩
 rw[hW0];obtain⟨W1,hW1⟩: ∃W1,(W0.alloc (.deferred (some []))).alloc (.loop (cU fn (.func (.func 293) #[] #[ag (ah Bm)]) w.heap.size W0.heap.size .ready none))=W1:=⟨_,rfl⟩;have O1:aF [] W0.heap W1.heap:=by rw[<-hW1];exact(aF.allocW W0 rfl).trans (aF.allocW _ rfl) Z
 have hs1:W1.heap.size=W0.heap.size+2:=by rw[<-hW1];simp
 have S1:bN W0 W1:=by rw[<-hW1];exact⟨rfl,rfl,rfl⟩
 have OW:=O0.trans O1 Z
 have hM:lN w fn (.func (.func 293) #[] #[ag (ah Bm)]) w.heap.size (W0.heap.size+1) W0.heap.size [] W1:=
  ⟨⟨none,0,A0.only O1 Z,ct.nil _ _ _⟩,
   by rw[<-hW1];have:=World.alloc_heap_new (W0.alloc (.deferred (some []))) (.loop (cU fn (.func (.func 293) #[] #[ag (ah Bm)]) w.heap.size W0.heap.size .ready none));rwa[World.size_alloc]at this,
   by rw[<-hW1];exact(Below.heap_alloc _ _ _ Z).trans (World.alloc_heap_new W0 _),OW,S0.trans S1⟩
 obtain⟨D0,hown,hD1,hD2⟩:=tQ CX (M.only OW Z) hwf (by simp[maxLen];omega)
 refine⟨W0.heap.size+1,[{target:= .collected W0.heap.size,args:= #[]}],W1,{target:= .fn (.func 293) #[ag (ah Bm)],args:= #[.func (.yield (W0.heap.size+1)) #[] #[]]},W1,293,
  #[.func (.yield (W0.heap.size+1)) #[] #[]]++ #[ag (ah Bm)],W1,?_,?_,?_,?_,λ_=>h1,?_⟩
 ·rw[<-hW1];exact run_enterLoop_outer _ _ _ _ _
 ·simp[resolve,go_sem]
 ·intro f' hf';simp[Target.leads]at hf';subst hf';exact h66
 ·simp[invoke,go_sem,eg]
 ·refine(wM (F:=F) (n:=n-1) h66 hro Y (W0.heap.size+1) Bm b m.length D0 (lN w fn (.func (.func 293) #[] #[ag (ah Bm)]) w.heap.size (W0.heap.size+1) W0.heap.size)
   (λpre x W hJ hl=>ot (F:=F) (m:=n-1-1) w fn hfn _ w.heap.size (W0.heap.size+1) W0.heap.size Y Y Y (Nat.le_refl _) Y m.length hsz pre x W hJ Y) W1 (jW _ _ _ _ _ _ _ Y)
   ((A.only OW Z).rd 0) hown hM).mono ?_
  rintro e W2 ⟨⟨v0,rfl⟩,ss,h2,left,hC,hl⟩;obtain⟨p,c,A2,H2⟩:=h2.box;have hend:=run_endLoop (P:=Tryz.prog) h2.L (by simp[cU]);obtain⟨W3,hW3⟩: ∃W3,W2.putObj (W0.heap.size+1) (.loop {cU fn (.func (.func 293) #[] #[ag (ah Bm)]) w.heap.size W0.heap.size .ready none with state:= .exhausted})=W3:=⟨_,rfl⟩;rw[hW3]at hend;have O3:aF [W0.heap.size+1] W2.heap W3.heap:=by rw[<-hW3];exact aF.putW _ h2.L rfl rfl
  have S3:bN W2 W3:=by rw[<-hW3];exact⟨rfl,rfl,rfl⟩
  have hnl: ∀b,(∃c,At W2.heap b c)->b∉[W0.heap.size+1]:=λb ⟨c,A⟩ hb=>A.ne_obj h2.L rfl (by simpa using hb);have A3:=A2.only O3 (hnl _ ⟨_,A2⟩);have H3:=H2.onlyC O3 λb _ hc=>hnl b hc;have hK3:W3.heap[W0.heap.size]? =some (.deferred (some [])):=by rw[<-hW3];exact(World.putObj_heap_other Y).trans h2.K
  have hc3:W3.cell? (ah w.heap.size)=some (.slice p ss.length c):=A3.rd 0;have hf3:W3.frozen? (ah w.heap.size)=false:=A3.fz 0 none;clear hW3;refine⟨none,W3,hend,?_⟩
  gi_wp2
  rw[<-hs0];refine⟨Z,.inl ⟨_,_,rfl,run_takeDeferred hK3,?_⟩⟩;have O4:aF [W0.heap.size] W3.heap (W3.putObj W0.heap.size (.deferred none)).heap:=aF.putW _ hK3 rfl rfl;have hF:=H3.onlyC O4 (λb _ hc hb=>by obtain⟨c,A⟩:=hc;exact A.ne_obj hK3 rfl (by simpa using hb));rw[<-hs0]at hF
  exact⟨_,results_tmp rfl _ _ _,p,c,ss,rfl,hC.perm hl hnd hD2,hF,
   (h2.only.trans O3 (by intro b hb hlt;simp at hb;omega)).trans O4 (by intro b hb hlt;simp at hb;omega),(h2.same.trans S3).trans ⟨rfl,rfl,rfl⟩⟩
def appSeq{h:aA}{Bm b:Nat}{m:List (Int×Value)}{K:KK}(A:At h Bm [.map (some b)])(M:bU h b .u32 m)
  (hwf: ∀x∈m.map (·.1),(Lit.int .u32 x).wf=true) (hsz:m.length*4<=140737488355328)
  (hK: ∀(p:ak) (c:Nat) (h':aA) (ss:List Int),ss.Perm (m.map (·.1))->ct h' (h.size+1) 1 p ss.length c (ss.map (Value.int .u32))->aF [] h h'->K (.slice p ss.length c) h'):
  Cl 292 [.slice none 0 0,.func (.func 293) #[] #[ag (ah Bm)]] h K:=λw hw=>by
 subst hw;refine((callsIn_wide (n:=2)).1 (jY (F:=Fence.wide) (n:=2) trivial trivial rfl Y Bm b m w A M hwf hsz)).mono ?_;rintro e w' ⟨p,c,ss,rfl,h1,h2,h3,h4⟩;exact⟨_,rfl,h4,hK p c _ ss h1 h2 h3⟩
end
section
def Db(h:aA)(q:ak)(m:Nat)(new:List Value):Prop:=match q with|some b=>lX h b new|none=>m=0
def ct.weak{h:aA}{lo lo' N:Nat}{p:ak}{l c:Nat}{cs:List Value}(H:ct h lo N p l c cs)(hl:lo'<=lo):ct h lo' N p l c cs:=by
 obtain⟨e,H⟩:=H;refine⟨e,?_⟩;rcases H with h|⟨b,sp,h1,h2,h3⟩
 ·exact .inl h
 ·exact .inr ⟨b,sp,h1,Y,h3⟩
def ic{h:aA}{lo by_:Nat}{z:Array Value}{p q:ak}{l c m:Nat}{cs new:List Value}{e:TypeId}{K:ak->Nat->Nat->aA->Prop}
  (H:ct h lo 1 p l c cs) (hnew:new.length=m) (hq:Db h q m new) (hz:z.size=1) (hcap:(l+m)*by_<=140737488355328) (hv: ∀v∈new,v.oneCell'=true) (hlo:lo<=h.size)
  (hK: ∀p' c' h',ct h' lo 1 p' (l+m) c' (cs++new)->aF (aR p) h h'->(∀b∈aR p',b∈aR p\/h.size<=b)->K p' (l+m) c' h'):
  fA h e 1 by_ z p l c q m K:=by
 obtain⟨hlen,H⟩:=H;refine⟨new,Y,?_,λhle=> ?_,λhlt=>⟨cs,hlen,?_,hcap,λcap hc=> ?_⟩⟩
 ·cases q with
  |none=>exact hq
  |some b=>exact hq
 ·rcases H with⟨rfl,h0,h1⟩|⟨b,sp,rfl,h2,h3,h4,h5⟩
  ·have hm:m=0:=Y;have hn:new=[]:=List.eq_nil_of_length_eq_zero Y;subst hm;refine⟨Y,hK _ _ _ ⟨by simp[hlen,hn],.inl ⟨rfl,Y,h1⟩⟩ (aF.refl _ _) λb hb=> .inl hb⟩
  ·show mt (((ah b):Addr).add (l*1)) 0 new h _;rw[aE,Nat.zero_add];have hsp:m<=sp.length:=Y;refine ip new 0 _ h h5 (by simp;omega) hv λh' A' O' z'=>hK _ _ h' ⟨by simp;omega,Or.inr ⟨b,sp.drop m,rfl,h2,hle,?_,?_⟩⟩ O' λx hx=>Or.inl hx
   ·rw[List.length_drop,h4];omega
   ·rw[Nat.add_zero,<-hlen,List.take_left,hnew,List.drop_append,List.drop_eq_nil_of_le (by omega:cs.length<=cs.length+m)]at A';simpa using A'
 ·rcases H with⟨e,h0,-⟩|⟨b,sp,rfl,-,-,-,h5⟩
  ·subst e;exact h0
  ·exact dT h5 λj v hj=>by rw[Nat.zero_add,List.getElem?_append_left (List.getElem?_eq_some_iff.1 hj).1];exact hj
 ·refine hK _ _ _ ⟨by simp;omega,Or.inr ⟨h.size,(Builtin.zeroCells z (cap-(l+m))).toList,rfl,hlo,hc,by rw[dD,hz],?_⟩⟩ ((aF.push_cells h _ e).mono Z) λx hx=>Or.inr ?_
  ·have:=At.push h (cs.toArray++new.toArray++Builtin.zeroCells z (cap-(l+m))) e;simpa using this
  ·simp[aR]at hx;omega
def ct.row{h:aA}{lo:Nat}{p:ak}{l c:Nat}{cs:List Value}(H:ct h lo 1 p l c cs):Db h p l cs:=by
 obtain⟨e,H⟩:=H;rcases H with⟨rfl,h0,-⟩|⟨b,sp,rfl,-,-,-,h5⟩
 ·exact h0
 ·exact dT h5 λj v hj=>by rw[Nat.zero_add,List.getElem?_append_left (List.getElem?_eq_some_iff.1 hj).1];exact hj
def nB(k:IntKind)(xs:List Int):xs.map (Value.int k)=bS xs.length λi=> .int k (xs.getD i 0):=by
 apply List.ext_getElem?;intro i;by_cases hi:i<xs.length
 ·rw[bY hi];simp[List.getD,hi]
 ·rw[List.getElem?_eq_none (by simpa using Nat.le_of_not_lt hi),List.getElem?_eq_none (by rw[bu];omega)]
def qp(xs:List Int):(List.range xs.length).map (λi=>xs.getD i 0)=xs:=by
 apply List.ext_getElem?;intro i;by_cases hi:i<xs.length
 ·simp[hi,List.getD]
 ·rw[List.getElem?_eq_none (by simpa using Nat.le_of_not_lt hi),List.getElem?_eq_none Y]
def qz(k:IntKind)(n:Nat)(g:Nat->Int):bS n (λi=>Value.int k (g i))=((List.range n).map g).map (Value.int k):=by
 unfold bS;rw[List.map_map]
 rfl
def iM(L:Nat->List Int)(i:Nat):List Int:=(List.range i).flatMap L
def jU(L:Nat->List Int)(i:Nat):iM L (i+1)=iM L i++L i:=by simp[iM,List.range_succ]
def vH{L:Nat->List Int}{i:Nat}{x:Int}:x∈iM L i↔ ∃k,k<i/\x∈L k:=by simp[iM]
def qn{L:Nat->List Int}{N:Nat}: ∀(i:Nat),(∀k,k<i->(L k).length<=N)->(iM L i).length<=i*N:=by
 intro i
 induction i with
 |zero=>intro _;simp[iM]
 |succ i ih=>
  intro h;rw[jU,List.length_append,Nat.add_mul];have:=ih λk hk=>h k Y;have:=h i Y;omega
def Ey{h:aA}{lo:Nat}{p:ak}{c:Nat}{xs:List Int}{K:KK}(H:ct h lo 1 p xs.length c (xs.map (Value.int .u32)))(hn:xs.length<=LB/4)
  (hK: ∀h' (p':ak) c' (R:List Int),R.Pairwise (· < ·)->(∀x,x∈R↔1<x/\x∈xs)->ct h' lo 1 p' R.length c' (R.map (Value.int .u32))->aF (aR p) h h'->aR p'=aR p->K (.slice p' R.length c') h'):
  Cl 260 [.slice p xs.length c] h λv1 h2=>(v1=ax/\Cl 261 [(.slice p xs.length c)] h2 (λv3 h4=>cW (some v3) (λp5 l6 c7=>Cl 262 [(.slice p5 l6 c7),(.func (.func 263) #[] #[])] h4 (λv8 h9=>cW (some v8) (λp10 l11 c12=>K (.slice p10 l11 c12) h9))))):=by
 rcases H.2 with⟨rfl,h0,h1⟩|⟨b,sp,rfl,h2,h3,h4,h5⟩
 ·have hx:xs=[]:=List.eq_nil_of_length_eq_zero h0;subst hx;refine si ⟨rfl,xj ?_⟩;rw[bD];refine wX ?_;rw[bD];exact hK h none c [] List.Pairwise.nil (λx=>Z) ⟨rfl,.inl ⟨rfl,rfl,h1⟩⟩ (aF.refl _ _) rfl
 ·have A:bI .u32 h b xs.length (λi=>xs.getD i 0) sp:=by
   unfold bI;rw[<-nB];exact h5
  refine Ag A hn λh1 g1 A1 R1 S1 O1=>⟨rfl,?_⟩;refine Cx A1 h3 hn R1 λh2' k g2 sp2 A2 hl2 hk2 up fw bw O2=> ?_;rw[bD];refine CF A2 Y Y λh3' k3 g3 sp3 A3 hl3 hk3 e3 O3=> ?_;rw[bD];have hR:((List.range k3).map g3).length=k3:=Z;have:=hK h3' (some (ah b)) c ((List.range k3).map g3) ?_ (λx=> ?_) ?_ ((O1.trans O2 (by simp[aR])).trans O3 (by simp[aR])) rfl
  ·rw[hR]at this;exact this
  ·rw[e3];refine List.Pairwise.filter _ ?_;rw[List.pairwise_map];exact(List.pairwise_lt_range (n:=k)).imp_of_mem λ{p q} _ hq hpq=>up p q hpq (List.mem_range.1 hq)
  ·rw[e3,List.mem_filter];have P:=S1.perm (n:=xs.length) (Nat.le_refl _);rw[qp]at P
   have:x∈(List.range k).map g2↔x∈xs:=by
    rw[<-P.mem_iff];simp only[List.mem_map,List.mem_range];constructor
    ·rintro ⟨p,hp,rfl⟩;obtain⟨q,hq,e⟩:=fw p hp;exact⟨q,hq,e.symm⟩
    ·rintro ⟨q,hq,rfl⟩;obtain⟨p,hp,e⟩:=bw q hq;exact⟨p,hp,e⟩
   rw[this];simp only[s0,decide_eq_true_eq];exact⟨λ⟨a,b⟩=>⟨b,a⟩,λ⟨a,b⟩=>⟨b,a⟩⟩
  ·rw[hR];refine⟨Z,.inr ⟨b,sp3,rfl,h2,Y,Y,?_⟩⟩;rw[<-qz];exact A3
section
variable {lo:Nat}{h h':aA}{r M S W N:Nat}{f:Int->Int}{p:Nat->ak}{c:Nat->Nat}{L:Nat->List Int}{K:KK}
def An{h:aA}{M:Nat}{K:KK}(hK: ∀h1,At h1 h.size [.map (some M)]->aF [] h h1->h1.size=h.size+1->K (.func (.func 293) #[] #[ag (ah h.size)]) h1):
  Cl 259 [.map (some M)] h K:=by
 refine F259.spec _ h _ ?_;refine aM λh1 A1 O1 z1=>hK h1 A1 O1 z1
def Av{B:Nat}(H:Rf lo h r M S W N f p c L)(A:At h B [.map (some M)])(hN:N<=LB/64){K:KK}
  (hK: ∀(p:ak) (c:Nat) (h':aA) (ks:List Int),ks.Nodup->(∀x,x∈ks↔f x≠0)->ks.length<=N->ct h' h.size 1 p ks.length c (ks.map (Value.int .u32))->aF [] h h'->K (.slice p ks.length c) h'):
  Cl 258 [.func (.func 293) #[] #[ag (ah B)]] h K:=by
 have hLB:LB=140737488355328:=rfl;refine F258.spec ?_;obtain⟨m,a,b,d⟩:=H.Mm
 have hmem: ∀x,x∈m.map (·.1)↔f x≠0:=λx=>by
  have h2:=b x;by_cases h0:f x=0
  ·rw[if_pos h0,dz]at h2;exact⟨λh=>absurd h h2,λh=>absurd h0 h⟩
  ·rw[if_neg h0]at h2;refine⟨λ_=>h0,λ_=> ?_⟩;apply Classical.byContradiction;intro hn;rw[dz.2 hn]at h2;cases h2
 refine appSeq A a (λx hx=> ?_) Y λp c h2 ss hp Ow O2=> ?_
 ·have:=H.fx x ((hmem x).1 hx);simp only[Lit.wf,decide_eq_true_eq,Bool.and_eq_true];exact⟨this.1,this.2⟩
 ·rw[bD];have nd:(m.map (·.1)).Nodup:=by obtain⟨_,_,_,_,h,_⟩:=a;exact h
  exact hK p c h2 ss (hp.nodup_iff.2 nd) (λx=>by rw[hp.mem_iff];exact hmem x) (by rw[hp.length_eq];simpa using d) (Ow.weak Y) O2
def za(H:Rf lo h r M S W N f p c L)(hN:N<=LB/64)(hW:W<=4)
  (hK: ∀h' (p':ak) c' (R:List Int),R.Pairwise (· < ·)->(∀x,x∈R↔1<x/\(f x≠0\/ ∃k,k<W/\x∈L k))->ct h' h.size 1 p' R.length c' (R.map (Value.int .u32))->aF [] h h'->K (.slice p' R.length c') h'):
  Cl 213 [ag (ah r)] h K:=by
 refine F213.spec _ h K ?_;have hLB:LB=140737488355328:=rfl;rw[aE,H.rd0,fM];refine An λhB AB OB zB=> ?_;rw[qT];refine Av (H.new OB) AB hN λpk ck h1 ks nd hks hkn Ow1 O1=> ?_
 replace Ow1:=Ow1.weak (lo':=h.size) Y
 replace O1:=OB.trans O1 Z
 rw[bD,aE,show rd h1 ⟨r,0+1,none⟩=some (.slice (some (ah S)) W W)from(H.new O1).rd1,bD];unfold F213.wk3
 have main: ∀(d i:Nat) (q:ak) (cq:Nat) (h2:aA),i+d=W->ct h2 h.size 1 q (ks++iM L i).length cq ((ks++iM L i).map (Value.int .u32))->aF [] h h2->
   F213.wL3 (d+1) q (ks++iM L i).length cq (some (ah S)) W W W i h2 K:=by
  intro d
  induction d with
  |zero=>
   intro i q cq h2 hd Ow O;rw[F213.sL3];rw[show decide ((i:Int)<(W:Int))=false by simp;omega,aD];unfold F213.wk7;have hi:i=W:=Y;subst hi;have hl:=qn (L:=L) (N:=N) i H.len;have:i*N<=4*N:=Nat.mul_le_mul_right _ hW;refine Ey Ow (by rw[List.length_append];omega) λh3 p3 c3 R hR hm Ow3 O3 _=> ?_;refine hK h3 p3 c3 R hR (λx=> ?_) Ow3 (O.trans O3 λb hb hlt=> ?_)
   ·rw[hm x,List.mem_append,hks,vH]
   ·have:=Ow.lt b hb;omega
  |succ d ih=>
   intro i q cq h2 hd Ow O;rw[F213.sL3];rw[show decide ((i:Int)<(W:Int))=true by simp;omega,aG,aL];refine⟨Y,Y,?_⟩;have H2:=H.new O;rw[aE,show 0+Int.toNat (i:Int)*1=i by omega,H2.rdT Y,bD,show ai ((i:Int)+1)=((i+1:Nat):Int) by rw[aV Y Y];omega];have Owi:=H2.own i Y;have hl:=qn (L:=L) (N:=N) i λk hk=>H.len k Y;have:i*N<=4*N:=Nat.mul_le_mul_right _ Y;have hli:=H.len i Y;have hs:=O.size;refine ic (new:=(L i).map (Value.int .u32)) Ow Z Owi.row rfl (by rw[List.length_append];omega) (by simp[Value.oneCell']) hs λp' c' h3 Ow3 O3 hp3=> ?_;have e:(ks++iM L i).length+(L i).length=(ks++iM L (i+1)).length:=by rw[jU];simp;omega
   have e2:(ks++iM L i).map (Value.int .u32)++(L i).map (Value.int .u32)=(ks++iM L (i+1)).map (Value.int .u32):=by rw[jU];simp
   rw[e,e2]at Ow3;rw[e];exact ih (i+1) p' c' h3 Y Ow3 (O.trans O3 λb hb hlt=>by have:=Ow.lt b hb;omega)
 have e0:ks=ks++iM L 0:=by simp[iM]
 refine⟨W+1,?_⟩;have:=main W 0 pk ck h1 Y (by rw[<-e0];exact Ow1) O1;rw[<-e0]at this;exact this
end
end
section
abbrev hv(a:Nat):Value:=ae (a:Int)
def ct.pop{h:aA}{lo:Nat}{p:ak}{l c:Nat}{cs:List Value}{v:Value}(H:ct h lo 1 p (l+1) c (cs++[v])):ct h lo 1 p l c cs:=by
 obtain⟨e,H⟩:=H;rw[List.length_append,List.length_singleton]at e;refine⟨Y,?_⟩;rcases H with⟨-,h0,-⟩|⟨b,sp,h1,h2,h3,h4,h5⟩
 ·omega
 ·exact .inr ⟨b,v::sp,h1,h2,Y,by simp;omega,by simpa using h5⟩
def ct.none_nil{h:aA}{lo N:Nat}{l c:Nat}{cs:List Value}(H:ct h lo N none l c cs):l=0/\cs=[]:=by
 obtain⟨e,H⟩:=H;rcases H with⟨-,h0,-⟩|⟨b,sp,h1,-⟩
 ·subst h0;exact⟨rfl,List.eq_nil_of_length_eq_zero Y⟩
 ·cases h1
def wJ{h:aA}{lo:Nat}{p:ak}{l c:Nat}{cs:List Value}{K:KK}(H:ct h lo 1 p l c cs)(hv: ∀v∈cs,v.oneCell'=true)(hl:l<=1000000)
  (hK: ∀p' c' h',ct h' h.size 1 p' l c' cs->aF [] h h'->K (.slice p' l c') h'):Cl 299 [.slice p l c] h K:=by
 apply F299.spec;refine aH (λg=> ?_) λg=> ?_
 ·obtain rfl:p=none:=by simpa using g
  obtain⟨rfl,rfl⟩:=H.none_nil;exact hK none 0 h (ct.nil _ _ _) (aF.refl _ _)
 ·refine aM λh1 A1 O1 z1=> ?_;have B:ct h1 h.size 1 (some (ah h.size)) 0 0 []:=⟨rfl,.inr ⟨h.size,[],rfl,Nat.le_refl _,Nat.le_refl _,rfl,A1⟩⟩;have HH:=H.only O1 Z;have hlen:cs.length=l:=by have:=H.1;omega
  refine ic (new:=cs) B hlen HH.row rfl Y hv Y λp' c' h2 W2 O2 hb2=> ?_;rw[Nat.zero_add]at W2 ⊢;rw[List.nil_append]at W2;exact hK p' c' h2 W2 (O1.trans O2 (by intro b hb hl;simp[aR]at hb;omega))
def Bt(keep:Nat->Bool)(N:aj):Nat:=aT (bR (λa=> !keep a) N)
def iZ(keep:Nat->Bool)(k a:Nat):Bool:=keep a||a==k
def yA{keep:Nat->Bool}{N:aj}{k:Nat}{x:Nd}(h2:2<=k)(hx:nd N (k-2)=some x)(hk:keep k=false):Bt (iZ keep k) N+1=Bt keep N:=by
 have hi:N[k-2]? =some (some x):=eS.1 hx;have hl:=(List.getElem?_eq_some_iff.1 hi).1
 have e:bR (λa=> !iZ keep k a) N=(bR (λa=> !keep a) N).set (k-2) none:=by
  apply List.ext_getElem?;intro i;rw[List.getElem?_set];split
  ·rename_i e;subst e
   have e1:(!iZ keep k (k-2+2))=false:=by unfold iZ;rw[show k-2+2=k by omega];simp
   rw[dE hi,e1,if_neg Z,if_pos (by rw[eD];exact hl)]
  ·rename_i e;cases h:N[i]? with
   |none=>rw[List.getElem?_eq_none,List.getElem?_eq_none]<;>rw[eD]<;>exact List.getElem?_eq_none_iff.1 h
   |some o=>
    rw[dE h,dE h];have:(i+2==k)=false:=by simp;omega
    simp[iZ,this]
 unfold Bt;rw[e];refine kC (x:=x) ?_;rw[dE hi];simp[show k-2+2=k by omega,hk]
structure Mk(N:aj)(rs:List Nat)(keep:Nat->Bool)(left:List Nat):Prop where
 is: ∀a,keep a=true->2<=a/\isN N a
 li: ∀a∈left,isN N a
 cl: ∀i x,nd N i=some x->keep (i+2)=true->(x.2.1<2\/keep x.2.1=true\/x.2.1∈left)/\(x.2.2<2\/keep x.2.2=true\/x.2.2∈left)
 ro: ∀r∈rs,r<2\/keep r=true\/r∈left
 mi: ∀P:Nat->Prop,(∀r∈rs,P r)->(∀i x,nd N i=some x->P (i+2)->P x.2.1/\P x.2.2)->(∀a,keep a=true->P a)/\ ∀a∈left,P a
def Mk.start{N:aj}{rs:List Nat}(h: ∀r∈rs,isN N r):Mk N rs (λ_=>false) rs:=
 ⟨λa h=>(by cases h),h,λi x _ h=>(by cases h),λr hr=> .inr (.inr hr),λP h1 _=>⟨λa h=>(by cases h),h1⟩⟩
def Mk.skip{N:aj}{rs:List Nat}{keep:Nat->Bool}{left:List Nat}{a:Nat}(M:Mk N rs keep (left++[a]))(ha:a<2\/keep a=true):Mk N rs keep left:=by
 have w: ∀b,b<2\/keep b=true\/b∈left++[a]->b<2\/keep b=true\/b∈left:=λb hb=>by
  rcases hb with q|q|q
  ·exact .inl q
  ·exact .inr (.inl q)
  ·rcases List.mem_append.1 q with q|q
   ·exact .inr (.inr q)
   ·simp at q;subst q;rcases ha with z|z
    ·exact .inl z
    ·exact .inr (.inl z)
 exact⟨M.is,λb hb=>M.li b (by simp[hb]),λi x hx hk=>⟨w _ (M.cl i x hx hk).1,w _ (M.cl i x hx hk).2⟩,λr hr=>w _ (M.ro r hr),λP h1 h2=>⟨(M.mi P h1 h2).1,λb hb=>(M.mi P h1 h2).2 b (by simp[hb])⟩⟩
def Mk.step{n:Nat}{N:aj}{rs:List Nat}{keep:Nat->Bool}{left:List Nat}{a:Nat}(H:ey n N)(M:Mk N rs keep (left++[a]))(h2:2<=a):Mk N rs (iZ keep a) (left++[low N a,high N a]):=by
 have ia:isN N a:=M.li a Z
 obtain⟨x,hx⟩: ∃x,nd N (a-2)=some x:=by
  rcases ia with q|q
  ·omega
  ·exact q
 have el:low N a=x.2.1:=by unfold low;rw[if_neg Y,hx]
 have eh:high N a=x.2.2:=by unfold high;rw[if_neg Y,hx]
 obtain⟨-,n1,n2,-⟩:=H.node _ x hx
 have w: ∀b,b<2\/keep b=true\/b∈left++[a]->b<2\/iZ keep a b=true\/b∈left++[low N a,high N a]:=λb hb=>by
  rcases hb with q|q|q
  ·exact .inl q
  ·exact .inr (.inl (by simp[iZ,q]))
  ·rcases List.mem_append.1 q with q|q
   ·exact .inr (.inr (by simp[q]))
   ·simp at q;exact .inr (.inl (by simp[iZ,q]))
 refine⟨λb hb=> ?_,λb hb=> ?_,λi y hy hk=> ?_,λr hr=>w _ (M.ro r hr),λP p1 p2=> ?_⟩
 ·unfold iZ at hb;rw[Bool.or_eq_true]at hb;rcases hb with q|q
  ·exact M.is b q
  ·have:b=a:=by simpa using q
   rw[this];exact⟨h2,ia⟩
 ·rcases List.mem_append.1 hb with q|q
  ·exact M.li b (by simp[q])
  ·simp at q;rcases q with q|q
   ·rw[q,el];exact n1
   ·rw[q,eh];exact n2
 ·unfold iZ at hk;rw[Bool.or_eq_true]at hk;rcases hk with q|q
  ·exact⟨w _ (M.cl i y hy q).1,w _ (M.cl i y hy q).2⟩
  ·have:i+2=a:=by simpa using q
   have:i=a-2:=Y;subst this;rw[hx]at hy;injection hy with hy;subst hy;exact⟨.inr (.inr (by simp[el])),.inr (.inr (by simp[eh]))⟩
 ·obtain⟨m1,m2⟩:=M.mi P p1 p2;have pa:=m2 a Z;have:=p2 (a-2) x hx (by rw[show a-2+2=a by omega];exact pa);refine⟨λb hb=> ?_,λb hb=> ?_⟩
  ·unfold iZ at hb;rw[Bool.or_eq_true]at hb;rcases hb with q|q
   ·exact m1 b q
   ·have:b=a:=by simpa using q
    rw[this];exact pa
  ·rcases List.mem_append.1 hb with q|q
   ·exact m2 b (by simp[q])
   ·simp at q;rcases q with q|q
    ·rw[q,el];exact this.1
    ·rw[q,eh];exact this.2
def zT.add{mo:List (Int×Value)}{keep:Nat->Bool}{k:Nat}(H:zT mo keep):zT (iP mo (k:Int) (.agg #[])) (iZ keep k):=λa=>by
 have e:(a==k)=decide ((a:Int)=(k:Int)):=by
  by_cases h:a=k
  ·simp[h]
  ·rw[decide_eq_false Y];simpa using h
 unfold iZ;rw[cH,e];by_cases h:(a:Int)=(k:Int)
 ·rw[if_pos h,decide_eq_true h,Bool.or_true];exact⟨λ_=>rfl,λh=>by cases h⟩
 ·rw[if_neg h,decide_eq_false h,Bool.or_false];exact H a
end
section
section
variable {h:aA}{s:Nat}{L:List Nat}{X:SX}{K:KK}
set_option maxRecDepth 100000 in
def xa{lo:Nat}{p:ak}{c:Nat}{rs:List Nat}(H:cG h s L X)(Hr:ct h lo 1 p rs.length c (rs.map hv))(hr: ∀r∈rs,isN X.N r)(hl:rs.length<=100000)
  (hK: ∀h' mb mo keep,bU h' mb .u32 mo->zT mo keep->h.size<=mb->Mk X.N rs keep []->aF [] h h'->K (.tuple #[.map (some mb),ac 0]) h'):
  Cl 267 [ag (ah s),.slice p rs.length c] h K:=by
 apply F267.spec;refine iE (k:= .u32) λh1 M1 O1 z1=> ?_;unfold F267.wk3;have H1:=H.only0 O1;have Hr1:=Hr.only O1 Z;have nr: ∀r∈rs,r<32770:=λr hr'=>H.isN_lt (hr r hr');have ok:=H.ok;have lL:=H.lt
 have second: ∀(d:Nat) (h':aA) (mo:List (Int×Value)) (keep:Nat->Bool) (left:List Nat) (q:ak) (qc:Nat),3*Bt keep X.N+left.length<d->Mk X.N rs keep left->zT mo keep->bU h' h.size .u32 mo->
   ct h' h1.size 1 q left.length qc (left.map hv)->aF [] h h'->2*Bt keep X.N+left.length<=170000->F267.wL10 d (ah s) (some h.size) q left.length qc h' K:=by
  intro d
  induction d with
  |zero=>intro h' mo keep left q qc hd;omega
  |succ d ih=>
   intro h' mo keep left q qc hd Mk Kp Mm Ow O cap;rw[F267.sL10];rcases List.eq_nil_or_concat left with e|⟨l0,a,e⟩
   ·subst e;rw[decide_eq_false Z,aD];exact hK h' h.size mo keep Mm Kp (Nat.le_refl _) Mk O
   ·rw[List.concat_eq_append]at e;subst e;have el:(l0++[a]).length=l0.length+1:=Z;rw[el]at Ow hd cap ⊢;have em:(l0++[a]).map hv=l0.map hv++[hv a]:=Z;rw[em]at Ow;rw[decide_eq_true Y,aG];obtain⟨b,eb,rr⟩:=Ow.rd (j:=l0.length) Z;have w1:ai (((l0.length+1:Nat):Int)-1)=(l0.length:Int):=by rw[wrap_i64 Y Y];omega
    have cap1:l0.length+1<=qc:=by
     rcases Ow.2 with⟨e,-⟩|⟨_,_,_,_,h3,_⟩
     ·rw[eb]at e;cases e
     ·exact h3
    rw[eb,aL];simp only[w1,aE,Nat.zero_add];refine⟨Y,Y,?_⟩;have ia:=Mk.li a Z;have ha:=H.isN_lt ia;refine aB (n:=(a:Int)) (by rw[show Int.toNat (l0.length:Int)*1=l0.length by omega,rr];simp) ⟨Y,Y,?_⟩;rw[<-eb,lV,Nat.sub_zero,Nat.sub_zero,Int.toNat_natCast];have Ow0:=Ow.pop
    have tail: ∀(o:Option (Nat×Value)),o.isSome=keep a->(lS (.agg #[]) o= .agg #[])-> ∀KK:aA->Prop,(∀k6,aF [] h' k6->aC (keep a) (F267.wL10 d (ah s) (some h.size) q l0.length qc k6 K) (aC (decide ((a:Int)<=1)) (F267.wL10 d (ah s) (some h.size) q l0.length qc k6 K) (KK k6)))->
      qW (some (lS (.agg #[]) o)) (λv4=>aZ h' (.cells #[] 218) (λb5 h6=>ff Tryz.prog 218 (some (ah b5)) v4 h6 (λh7=>aC (Option.isSome o) (F267.wL10 d (ah s) (some h.size) q l0.length qc h7 K) (aC (decide ((a:Int)<=1)) (F267.wL10 d (ah s) (some h.size) q l0.length qc h7 K) (KK h7))))):=by
     intro o e1 e2 KK hk;rw[e2];refine⟨_,rfl,aM λk6 B6 P6 y6=>lG ?_⟩;rw[e1];exact hk k6 P6
    have body: ∀k6,aF [] h' k6->aC (keep a) (F267.wL10 d (ah s) (some h.size) q l0.length qc k6 K) (aC (decide ((a:Int)<=1)) (F267.wL10 d (ah s) (some h.size) q l0.length qc k6 K) (F267.wk15 (λx0 x6 x9p x9l x9c h=>F267.wL10 d x0 x6 x9p x9l x9c h K) (ah s) (some h.size) q l0.length qc (a:Int) k6 K)):=by
     intro k6 P6;have O6:=O.trans P6 Z;have z6:=P6.size;have zO:=O.size
     have go:a<2\/keep a=true->F267.wL10 d (ah s) (some h.size) q l0.length qc k6 K:=λhs=>
      ih k6 mo keep l0 q qc Y (Mk.skip hs) Kp (Mm.only P6 Z) (Ow0.only P6 Z) O6 Y
     cases hka:keep a with
     |true=>exact go (.inr hka)
     |false=>
      rw[aD];refine aH (λg=>go (.inl (by have:=of_decide_eq_true g;omega))) λg=> ?_;have g: ¬(a:Int)<=1:=of_decide_eq_false g;have h2:2<=a:=Y
      obtain⟨x,hx⟩: ∃x,nd X.N (a-2)=some x:=by
       rcases ia with q|q
       ·omega
       ·exact q
      have hu:=yA h2 hx hka;unfold F267.wk15;refine ir (Mm.only P6 Z) λh7 M7 O7 z7=> ?_;have O67:aF [] h h7:=O6.trans O7 (by intro b hb hl;simp at hb;omega);have H7:=H.only0 O67;refine iv H7 ia (aB rfl (fW H7 ia (aB rfl ?_)));refine aM λh8 A8 O8 z8=> ?_
      have nb: ∀b,q=some (ah b)->b∉[h.size]:=λb e hm=>by have:=Ow.lt b (by rw[e];simp[aR]);simp at hm;omega
      have Ow8:=((Ow0.only P6 Z).only O7 nb).only O8 Z;refine ic (new:=[hv (low X.N a),hv (high X.N a)]) (q:=some (ah h7.size)) Ow8 rfl (dT A8 Z) rfl Y (by simp[Value.oneCell']) Y λp' c' h9 W9 O9 hb9=> ?_;have e9:l0.map hv++[hv (low X.N a),hv (high X.N a)]=(l0++[low X.N a,high X.N a]).map hv:=Z;have e10:l0.length+2=(l0++[low X.N a,high X.N a]).length:=Z;rw[e9,e10]at W9;rw[e10];have lq: ∀b∈aR q,h1.size<=b:=λb hb=>(Ow.lt b hb).1;refine ih h9 _ (iZ keep a) _ p' c' (by simp;omega) (Mk.step ok.1 h2) Kp.add ((M7.only O8 Z).only O9 λhm=>by have:=lq _ hm;omega) W9 ((O67.trans O8 Z).trans O9 λb hb hl=>by have:=lq b hb;omega) (by simp;omega)
    refine dt (m:=mo) Mm (λhn=> ?_) λj v hv'=> ?_
    ·have k0:keep a=false:=by
      cases hk:keep a with
      |false=>rfl
      |true=>
       rw[(Kp a).1 hk]at hn;cases hn
     exact tail none (by rw[k0];rfl) rfl _ body
    ·have k1:keep a=true:=by
      cases hk:keep a with
      |true=>rfl
      |false=>
       rw[(Kp a).2 hk]at hv';cases hv'
     rw[(Kp a).1 k1]at hv';injection hv' with hv';subst hv';exact tail (some (j,.agg #[])) (by rw[k1];rfl) rfl _ body
 have first: ∀(d i:Nat),i+d=rs.length->F267.wL3 (d+1) (ah s) p rs.length c (some h.size) p rs.length c (rs.length:Int) (i:Int) h1 K:=by
  intro d
  induction d with
  |zero=>
   intro i hi;rw[F267.sL3];rw[decide_eq_false Y,aD];unfold F267.wk9;refine wJ Hr1 (by simp[Value.oneCell']) Y λp' c' h2 W2 O2=>bj rfl ?_;unfold F267.wk10
   have hu:Bt (λ_=>false) X.N<=X.N.length:=by have:Bt (λ_=>false) X.N<=(bR (λa=> !(λ_=>false) a) X.N).length:=kX _;rw[eD]at this;exact this
   exact⟨_,second _ h2 [] (λ_=>false) rs p' c' (Nat.lt_succ_self _) (Mk.start hr) (λk=>⟨λh=>(by cases h),λ_=>rfl⟩) (M1.only O2 Z) W2 (O1.trans O2 Z) Y⟩
  |succ d ih=>
   intro i hi;rw[F267.sL3];rw[decide_eq_true Y,aG];obtain⟨b,eb,rr⟩:=Hr1.rd (j:=i) (by simp;omega);rw[eb,aL,<-eb];refine⟨Y,Y,?_⟩;rw[aE,Nat.zero_add,show Int.toNat (i:Int)*1=i by omega,rr];obtain⟨a,ha⟩: ∃a,rs[i]? =some a:=⟨_,List.getElem?_eq_getElem Y⟩;have hm:=List.mem_of_getElem? ha;refine aB (n:=(a:Int)) (by simp[ha]) (eK H1 (hr a hm) (aQ rfl ?_));rw[Bool.not_true,aD,show ai ((i:Int)+1)=((i+1:Nat):Int) by rw[wrap_i64 Y Y];omega];exact ih (i+1) Y
 exact⟨_,first rs.length 0 Y⟩
def ry(Q':(Nat->Bool)->Int->Int->Prop){lo:Nat}{p:ak}{c:Nat}{rs:List Nat}(H:cG h s L X)(Hr:ct h lo 1 p rs.length c (rs.map hv))(hr: ∀r∈rs,isN X.N r)(hl:rs.length<=100000)
  (hK: ∀h' L' gone keep,Mk X.N rs keep []->cG h' s L' {X with N:=bR keep X.N,Q:=Q' keep}->aF L h h'->cj L L' h->K (.tuple #[ac gone,ac 0]) h'):
  Cl 218 [ag (ah s),.slice p rs.length c] h K:=by
 apply F218.spec;refine xa H Hr hr hl λh1 mb mo keep M1 Kp gm M O1=>⟨_,_,rfl,?_⟩;rw[show((0:Int) !=0)=false from rfl,aD]
 have cl: ∀i x,nd X.N i=some x->keep (i+2)=true->(x.2.1<2\/keep x.2.1=true)/\(x.2.2<2\/keep x.2.2=true):=λi x hx hk=>by have:=M.cl i x hx hk;simpa using this
 have z1:=O1.size;refine rC (Q' keep) (H.only0 O1) M1 Kp (λhm=>by have:=H.lt mb hm;omega) cl λh2 L2 gone S2 O2 F2=>aB rfl ?_
 exact hK h2 L2 gone keep M S2 ((O1.mono Z).trans O2 λb hb _=>hb) λb hb=>by
  rcases F2 b hb with q|q
  ·exact .inl q
  ·exact .inr Y
end
end
section
variable {i j k l m n o p q r s t:Int}{a b c d:Addr}{u v:Nat}{x y:ak}{h:aA}{K:KK}
def F215.spec(H:Cl 264 [.func (.func 266) #[] #[ag a]] h λa b=>cW (some a) λa c d=>Cl 265 [.slice a c d] b λb e=>b=ax/\K (.slice a c d) e):Cl 215 [.func (.func 266) #[] #[ag a]] h K:=cN Tryz.func215 H
def F216.spec(a:Option Nat)(h:aA)(K:KK)(H:aZ h (.cells #[.map a] 154) λa b=>K (.func (.func 266) #[] #[ag (ah a)]) b):Cl 216 [.map a] h K:=cN Tryz.func216 H
def F264.spec(H:Cl 297 [.slice none 0 0,.func (.func 266) #[] #[ag a]] h λa b=>cW (some a) λa c d=>K (.slice a c d) b):Cl 264 [.func (.func 266) #[] #[ag a]] h K:=cN Tryz.func264 H
end
namespace IN
open Go Go.RowKit Go.Maps
def uI3:Tryz.prog.underlying 3=some (.int .i64):=by kernel_rfl
def u154:Tryz.prog.underlying 154=some (.map 3 167):=by kernel_rfl
def u84:Tryz.prog.underlying 84=some (.slice 3):=by kernel_rfl
set_option maxRecDepth 100000 in
set_option maxHeartbeats 2000000 in
def wM{F:Fence}{n:Nat}(h66:F.fn 266)(hro:F.round=none)(hn:1<=n)(l Bm b nn:Nat)(D0:DataW Unit)(J:List Int->World->Prop)
  (hY: ∀pre x W,J pre W->pre.length<Maps.size D0->YieldAt F (n-1) Tryz.prog l #[ac x] W λe W'=>e= .returned au/\J (pre++[x]) W'/\KeepsWalks W W')
  (W:World) (hJ:kW W.heap.size J) (hm:W.cell? (ah Bm)=some (.map (some b))) (hown:W.ownsMap Tryz.prog 3 iW b nn D0) (h0:J [] W):
  CallsIn F n Tryz.prog 266 #[.func (.yield l) #[] #[],ag (ah Bm)] W λe W'=>(∃v,e= .returned v)/\ ∃ss:List Int,J ss W'/\ ∃left,fS .i64 D0 left ss/\ ∀kl,left kl=false:=by
 refine callsIn_of_wp Tryz.func266 rfl h66 ?_ hro;simp only[Tryz.ntmps266,List.size_toArray,List.length_cons,List.length_nil,Nat.reduceAdd,Nat.reduceSub,Array.replicate_succ,Array.replicate_zero,List.push_toArray,List.append_toArray,List.nil_append,List.cons_append]
 gi_wp2_with (first
  |(gi_at_range;refine wpListIn_range_own _ rfl _ 154 rfl 3 167 (int_keyed uI3) u154 _ b nn _ rfl hown ?_;intro w0 hrg0 hg0 hs0)
  |gi_in)
 go_frame
 gi_loopw [3] (λ_ wr=> ∃(left:Lit->Bool) (cnt:Nat) (ss:List Int),wr.ranges Tryz.prog 3 iW b W.heap.size nn D0 left cnt/\ss.length+cnt<=Maps.size D0/\fS .i64 D0 left ss/\J ss wr)
  (λ_ wr=>wr.rangeLeft b W.heap.size)
 case atStart=>
  have hf0:pu W w0:=by obtain⟨es,clock,since,seen,c0,_,_,_,_,hr,_⟩:=hrg0;exact pu.one (r:=W.heap.size) (o:= .mapIter none 0 #[] 0) (λk hk _=>hg0.block k hk Z) (.inr rfl) (λ_=>rfl) hr rfl Y
  exact⟨_,_,[],hrg0,Z,fS.start .i64 D0,hJ [] W w0 none h0 hg0 hf0 (λr e=>by cases e)⟩
 case round=>
  obtain⟨left,cnt,ss,hrg,hcs,hC,hJs⟩:=hrel
  gi_wp2_with (first
   |(gi_at_next;refine wpListIn_next_ranges _ rfl _ rfl 3 (int_keyed uI3) iW (Value.int .i64) (λv:Value=>v) (λkey kl hk=>by obtain⟨x,hx,_⟩:=Maps.keyOf_int_inv uI3 hk;exact⟨x,hx⟩) (λv y hv=>⟨v,rfl⟩) b W.heap.size nn _ _ _ rfl hrg ?_ ?_)
   |gi_in)
  ·intro hc0 hl0
   gi_wp2
   go_end0
   exact⟨⟨_,rfl⟩,ss,hJs,left,hC,hl0⟩
  ·intro x c kl yd yp w2 cnt2 hkey hlk hv hat hrg2 hlt hg2 hs2 hen;obtain⟨x',ex,rfl,_⟩:=Maps.keyOf_int_inv uI3 hkey;cases ex
   have hf2:pu wr w2:=by obtain⟨es,clock,since,seen,c0,_,_,_,_,hr,_⟩:=hrg;obtain⟨es',clock',since',seen',c0',_,_,_,_,hr',_⟩:=hrg2;exact pu.one (r:=W.heap.size) (o:= .mapIter (some b) since seen c0) (λk hk hne=>hg2.block k hk (by simpa using hne)) (.inl hr) (λ_=>rfl) hr' rfl Y
   have hJ2:J ss w2:=hJ ss wr w2 (some W.heap.size) hJs hg2 hf2 (λr e=>by cases e;exact⟨Nat.le_refl _,hrg.iter_walk⟩);obtain⟨fn,tmps,assign,body,hy,hR⟩:=hY ss x w2 hJ2 Y;clear hs2 hf2
   gi_wp2
   refine hR.mono ?_;rintro e W3 ⟨rfl,hJ3,hk3⟩
   gi_wp2
   have hrg3:=hrg2.of_walks hk3
   go_roundw
   case rel=>exact⟨_,cnt2,ss++[x],hrg3,by simp;omega,hC.step hlk hat,hJ3⟩
   case measure=>rw[hrg3.left_eq,hrg.left_eq];exact hlt
end IN
namespace IN
open Go Go.RowKit Go.Maps
noncomputable def fg:Code:=((Tryz.f297.body.bind io).map (·.1)).getD .skip
noncomputable def i6:Code:=((Tryz.f297.body.bind io).map (·.2)).getD .skip
noncomputable def cU(fn:FuncId)(sv:Value)(Bs D:Nat)(st:LoopState)(pend:Option Code):Loop:=
 {state:=st,pending:=pend,fn,tmps:= #[.slice none 0 0,sv,ag (ah Bs),undef,.slice none 0 0,undef,sv,undef,undef,undef,undef,undef,undef],params:= #[7],assign:=fg,body:=i6,defers:=D}
structure lN(w0:World)(fn:FuncId)(sv:Value)(Bs l D:Nat)(ss:List Int)(W:World):Prop where
 box: ∃p c,At W.heap Bs [.slice p ss.length c]/\ct W.heap (Bs+1) 1 p ss.length c (ss.map (Value.int .i64))
 L:W.heap[l]? =some (.loop (cU fn sv Bs D .ready none))
 K:W.heap[D]? =some (.deferred (some []))
 only:aF [] w0.heap W.heap
 same:bN w0 W
def jW(w0:World)(fn:FuncId)(sv:Value)(Bs l D B:Nat)(hB:w0.heap.size<=B):kW B (lN w0 fn sv Bs l D):=λs W W' row h hg hf hrow=>by
 have hrow': ∀r,row=some r-> ∃o:Obj,W.heap[r]? =some o/\o.isWalk=true:=λr e=>(hrow r e).2;have O:=lD hg hf
 have hno: ∀b,(∃c,At W.heap b c)->b∉row.toList:=λb ⟨c,A⟩ hb=>by
  cases row with
  |none=>simp at hb
  |some r=>simp at hb;exact A.notWalk (hrow' r rfl) hb
 obtain⟨p,c,A,H⟩:=h.box
 exact⟨⟨p,c,A.only O (hno _ ⟨_,A⟩),H.onlyC O λb _ hc=>hno b hc⟩,(grownBy_keeps hg hrow' h.L rfl).trans h.L,(grownBy_keeps hg hrow' h.K rfl).trans h.K,
  h.only.trans O (λb hb hlt=>by
   cases row with
   |none=>simp at hb
   |some r=>
    simp at hb;have:=(hrow r rfl).1;omega),h.same.trans (bN.of_grown hg)⟩
def sB3:iR Tryz.prog 3=some (1,8,#[ac 0]):=by kernel_rfl
set_option maxRecDepth 100000 in
set_option maxHeartbeats 2000000 in
def ot{F:Fence}{m:Nat}(w0:World)(fn:FuncId)(hfn:F.fn fn)(sv:Value)(Bs l D:Nat)(hBl:Bs≠l)(hDl:D≠l)(hDB:D≠Bs)(h0B:w0.heap.size<=Bs)(h0l:w0.heap.size<=l)
  (N:Nat) (hN:N*8<=140737488355328) (ss:List Int) (x:Int) (W:World) (h:lN w0 fn sv Bs l D ss W) (hlen:ss.length<N):
  YieldAt F m Tryz.prog l #[ac x] W λe W'=>e= .returned au/\lN w0 fn sv Bs l D (ss++[x]) W'/\KeepsWalks W W':=by
 obtain⟨p,c,A,H⟩:=h.box;refine⟨fn,#[.slice none 0 0,sv,ag (ah Bs),undef,.slice none 0 0,undef,sv,ac x,undef,undef,undef,undef,undef],fg,i6,by simpa[cU]using run_yield (P:=Tryz.prog) (args:= #[ac x]) h.L rfl,roundIn_of_wpIn hfn ?_⟩;have hl:l<W.heap.size:=(Array.getElem?_eq_some_iff.1 h.L).1;have hbr:=run_beginRound (P:=Tryz.prog) h.L rfl;obtain⟨W2,hW2⟩: ∃W2,W.putObj l (.loop {cU fn sv Bs D .ready none with state:= .busy})=W2:=⟨_,rfl⟩;rw[hW2]at hbr;have hnl: ∀b,(∃c,At W.heap b c)->b∉[l]:=λb ⟨c,A⟩ hb=>A.ne_obj h.L rfl (by simpa using hb);have O2:aF [l] W.heap W2.heap:=by rw[<-hW2];exact aF.putW _ h.L rfl rfl
 have A2:At W2.heap Bs [.slice p ss.length c]:=A.only O2 (hnl _ ⟨_,A⟩);have H2:=H.onlyC O2 λb _ hc=>hnl b hc;have hK2:W2.heap[D]? =some (.deferred (some [])):=by rw[<-hW2];exact(World.putObj_heap_other hDl).trans h.K
 have hL2:W2.heap[l]? =some (.loop {cU fn sv Bs D .ready none with state:= .busy}):=by rw[<-hW2];exact World.putObj_heap_same hl
 have S2:bN W W2:=by rw[<-hW2];exact⟨rfl,rfl,rfl⟩
 have hc2:W2.cell? (ah Bs)=some (.slice p ss.length c):=A2.rd 0;have hf2:W2.frozen? (ah Bs)=false:=A2.fz 0 none;have A3:At (W2.alloc (.cells #[ac x] 3)).heap W2.heap.size [ac x]:=At.push _ _ _;have O3:aF [] W2.heap (W2.alloc (.cells #[ac x] 3)).heap:=aF.push_cells _ _ _;have H3:=H2.onlyC O3 λb _ _=>Z;have A3':=A2.only O3 Z;have hBlt:=A2.lt;have hz3:=O3.size;clear hW2;simp only[fg,Tryz.f297,io,Option.bind_some,Option.map_some,Option.getD_some,Option.none_or,Option.some_or]
 gi_wp2_with (rw[Oper.semAt_eq _ _ _ (λc h=>by cases h)];go_simp;try go_bits)
 simp only[i6,Tryz.f297,io,Option.bind_some,Option.map_some,Option.getD_some,Option.none_or,Option.some_or]
 gi_wp2_with (first
  |(gi_at_builtin;refine jC _ rfl _ _ 84 rfl u84 sB3 (by decide) rfl rfl (gv (K:=λp' l' c' h'=>l'=ss.length+1/\ct h' (Bs+1) 1 p' (ss.length+1) c' (ss.map (Value.int .i64)++[ac x])/\aF (aR p) (W2.alloc (.cells #[ac x] 3)).heap h'/\ ∀b∈aR p',b∈aR p\/(W2.alloc (.cells #[ac x] 3)).heap.size<=b) H3 A3 rfl rfl Y (by simp[Value.oneCell']) Y λp' c' h' a b c=>⟨rfl,a,b,c⟩) ?_;rintro p' l' c' w3 S3 ⟨rfl,H4,O4,hp'⟩
    have hnB:Bs∉aR p:=λhb=>by have:=H2.lt Bs hb;omega
    have A4:=A3'.only O4 hnB;have hc3:w3.cell? (ah Bs)=some (.slice p ss.length c):=A4.rd 0;have hf3:w3.frozen? (ah Bs)=false:=A4.fz 0 none
    go_frame)
  |(rw[Oper.semAt_eq _ _ _ (λc h=>by cases h)];go_simp;try go_bits))
 have hlB:l∉aR p:=λhb=>by obtain⟨c,A⟩:=H3.cells l hb;exact A.ne_obj ((Below.heap_alloc _ _ l (Array.getElem?_eq_some_iff.1 hL2).1).trans hL2) rfl rfl
 have hDB':D∉aR p:=λhb=>by obtain⟨c,A⟩:=H3.cells D hb;exact A.ne_obj ((Below.heap_alloc _ _ D (Array.getElem?_eq_some_iff.1 hK2).1).trans hK2) rfl rfl
 have hL3:w3.heap[l]? =some (.loop {cU fn sv Bs D .ready none with state:= .busy}):=(O4.same l (Nat.lt_of_lt_of_le (Array.getElem?_eq_some_iff.1 hL2).1 hz3) hlB).trans ((O3.same l (Array.getElem?_eq_some_iff.1 hL2).1 Z).trans hL2);have hK3:w3.heap[D]? =some (.deferred (some [])):=(O4.same D (Nat.lt_of_lt_of_le (Array.getElem?_eq_some_iff.1 hK2).1 hz3) hDB').trans ((O3.same D (Array.getElem?_eq_some_iff.1 hK2).1 Z).trans hK2);obtain⟨w4,hw4⟩: ∃w4,w3.setCell (ah Bs) (.slice p' (ss.length+1) c')=w4:=⟨_,rfl⟩;rw[hw4];have O5:aF [Bs] w3.heap w4.heap:=by rw[<-hw4];exact aF.wr w3.heap (ah Bs) _
 have A5:At w4.heap Bs [.slice p' (ss.length+1) c']:=by rw[<-hw4];exact A4.wr 0 _
 have S4:bN w3 w4:=by rw[<-hw4];exact⟨rfl,rfl,rfl⟩
 have hL4:w4.heap[l]? =some (.loop {cU fn sv Bs D .ready none with state:= .busy}):=(O5.same l (Array.getElem?_eq_some_iff.1 hL3).1 (by simpa using Ne.symm hBl)).trans hL3;have hK4:w4.heap[D]? =some (.deferred (some [])):=(O5.same D (Array.getElem?_eq_some_iff.1 hK3).1 (by simpa using hDB)).trans hK3
 have H5:=H4.onlyC O5 λb hb _ hbB=>by simp at hbB;subst hbB;have:=H4.lt b hb;omega
 clear hw4;have O6:aF [l] w4.heap (w4.putObj l (.loop {{cU fn sv Bs D .ready none with state:= .busy}with state:=if(none:Option Code).isNone then .ready else .done,pending:=none})).heap:=aF.putW _ hL4 rfl rfl;have hnl4: ∀b,(∃c,At w4.heap b c)->b∉[l]:=λb ⟨c,A⟩ hb=>A.ne_obj hL4 rfl (by simpa using hb)
 have OO:aF (l::Bs::aR p) W.heap (w4.putObj l (.loop {{cU fn sv Bs D .ready none with state:= .busy}with state:=if(none:Option Code).isNone then .ready else .done,pending:=none})).heap:=by refine(((((O2.mono (T:=l::Bs::aR p) (by simp+contextual)).trans O3 Z).trans O4 (by simp+contextual)).trans O5 (by simp+contextual)).trans O6 (by simp+contextual))
 refine⟨_,_,run_endRound none hL4,rfl,⟨⟨p',c',?_,?_⟩,World.putObj_heap_same (Array.getElem?_eq_some_iff.1 hL4).1,(World.putObj_heap_other hDl).trans hK4,h.only.trans OO ?_,?_⟩,lH OO ?_⟩
 ·rw[List.length_append,List.length_singleton];exact A5.only O6 (hnl4 _ ⟨_,A5⟩)
 ·rw[List.length_append,List.length_singleton,List.map_append,List.map_singleton];exact H5.onlyC O6 λb _ hc=>hnl4 b hc
 ·intro b hb hlt;rcases List.mem_cons.1 hb with rfl|hb
  ·omega
  ·rcases List.mem_cons.1 hb with rfl|hb
   ·omega
   ·have:=H.lt b hb;omega
 ·exact((((h.same.trans S2).trans ⟨rfl,rfl,rfl⟩).trans S3).trans S4).trans ⟨rfl,rfl,rfl⟩
 ·intro r hr o ho;rcases List.mem_cons.1 hr with rfl|hr
  ·rw[h.L]at ho;cases ho;rfl
  ·rcases List.mem_cons.1 hr with rfl|hr
   ·exact A.walkF o ho
   ·obtain⟨c,A'⟩:=H.cells r hr;exact A'.walkF o ho
end IN
namespace IN
open Go Go.RowKit Go.Maps Go.Shelf
set_option maxRecDepth 100000 in
set_option maxHeartbeats 2000000 in
def jY{F:Fence}{n:Nat}(h65:F.fn 297)(h66:F.fn 266)(hro:F.round=none)(hn:2<=n)(Bm b:Nat)(m:List (Int×Value))(w:World)(A:At w.heap Bm [.map (some b)])(M:bU w.heap b .i64 m)
  (hwf: ∀x∈m.map (·.1),(Lit.int .i64 x).wf=true) (hsz:m.length*8<=140737488355328):
  CallsIn F n Tryz.prog 297 #[.slice none 0 0,.func (.func 266) #[] #[ag (ah Bm)]] w λe w'=> ∃(p:ak) (c:Nat) (ss:List Int),e= .returned (.slice p ss.length c)/\ss.Perm (m.map (·.1))/\
   ct w'.heap (w.heap.size+1) 1 p ss.length c (ss.map (Value.int .i64))/\aF [] w.heap w'.heap/\bN w w':=by
 have h1:1<=n:=Y;have hnd:(m.map (·.1)).Nodup:=by obtain⟨_,_,_,_,h,_⟩:=M;exact h
 have eg: ∀args w,(callFunc 266 args).run Tryz.prog w= .ok (.enter 266 args) w:=enters_of Tryz.func266 (by kernel_rfl) rfl;refine callsIn_of_wp_marks Tryz.func297 rfl h65 ?_ hro;simp only[Tryz.ntmps297,List.size_toArray,List.length_cons,List.length_nil,Nat.reduceAdd,Nat.reduceSub,Array.replicate_succ,Array.replicate_zero,List.push_toArray,List.append_toArray,List.nil_append,List.cons_append]
 gi_wp2
 refine wpIn_rangeFunc ?_;intro fn hfn;rw[hro];obtain⟨W0,hW0⟩: ∃W0,w.alloc (.cells #[.slice none 0 0] 84)=W0:=⟨_,rfl⟩;have hs0:W0.heap.size=w.heap.size+1:=by rw[<-hW0];simp
 have O0:aF [] w.heap W0.heap:=by rw[<-hW0];exact aF.push_cells _ _ _
 have A0:At W0.heap w.heap.size [.slice none 0 0]:=by rw[<-hW0];exact At.push _ _ _
 have S0:bN w W0:=by rw[<-hW0];exact⟨rfl,rfl,rfl⟩
 rw[hW0];obtain⟨W1,hW1⟩: ∃W1,(W0.alloc (.deferred (some []))).alloc (.loop (cU fn (.func (.func 266) #[] #[ag (ah Bm)]) w.heap.size W0.heap.size .ready none))=W1:=⟨_,rfl⟩;have O1:aF [] W0.heap W1.heap:=by rw[<-hW1];exact(aF.allocW W0 rfl).trans (aF.allocW _ rfl) Z
 have hs1:W1.heap.size=W0.heap.size+2:=by rw[<-hW1];simp
 have S1:bN W0 W1:=by rw[<-hW1];exact⟨rfl,rfl,rfl⟩
 have OW:=O0.trans O1 Z
 have hM:lN w fn (.func (.func 266) #[] #[ag (ah Bm)]) w.heap.size (W0.heap.size+1) W0.heap.size [] W1:=
  ⟨⟨none,0,A0.only O1 Z,ct.nil _ _ _⟩,
   by rw[<-hW1];have:=World.alloc_heap_new (W0.alloc (.deferred (some []))) (.loop (cU fn (.func (.func 266) #[] #[ag (ah Bm)]) w.heap.size W0.heap.size .ready none));rwa[World.size_alloc]at this,
   by rw[<-hW1];exact(Below.heap_alloc _ _ _ Z).trans (World.alloc_heap_new W0 _),OW,S0.trans S1⟩
 obtain⟨D0,hown,hD1,hD2⟩:=tQ uI3 (M.only OW Z) hwf (by simp[maxLen];omega)
 refine⟨W0.heap.size+1,[{target:= .collected W0.heap.size,args:= #[]}],W1,{target:= .fn (.func 266) #[ag (ah Bm)],args:= #[.func (.yield (W0.heap.size+1)) #[] #[]]},W1,266,
  #[.func (.yield (W0.heap.size+1)) #[] #[]]++ #[ag (ah Bm)],W1,?_,?_,?_,?_,λ_=>h1,?_⟩
 ·rw[<-hW1];exact run_enterLoop_outer _ _ _ _ _
 ·simp[resolve,go_sem]
 ·intro f' hf';simp[Target.leads]at hf';subst hf';exact h66
 ·simp[invoke,go_sem,eg]
 ·refine(wM (F:=F) (n:=n-1) h66 hro Y (W0.heap.size+1) Bm b m.length D0 (lN w fn (.func (.func 266) #[] #[ag (ah Bm)]) w.heap.size (W0.heap.size+1) W0.heap.size)
   (λpre x W hJ hl=>ot (F:=F) (m:=n-1-1) w fn hfn _ w.heap.size (W0.heap.size+1) W0.heap.size Y Y Y (Nat.le_refl _) Y m.length hsz pre x W hJ Y) W1 (jW _ _ _ _ _ _ _ Y)
   ((A.only OW Z).rd 0) hown hM).mono ?_
  rintro e W2 ⟨⟨v0,rfl⟩,ss,h2,left,hC,hl⟩;obtain⟨p,c,A2,H2⟩:=h2.box;have hend:=run_endLoop (P:=Tryz.prog) h2.L (by simp[cU]);obtain⟨W3,hW3⟩: ∃W3,W2.putObj (W0.heap.size+1) (.loop {cU fn (.func (.func 266) #[] #[ag (ah Bm)]) w.heap.size W0.heap.size .ready none with state:= .exhausted})=W3:=⟨_,rfl⟩;rw[hW3]at hend;have O3:aF [W0.heap.size+1] W2.heap W3.heap:=by rw[<-hW3];exact aF.putW _ h2.L rfl rfl
  have S3:bN W2 W3:=by rw[<-hW3];exact⟨rfl,rfl,rfl⟩
  have hnl: ∀b,(∃c,At W2.heap b c)->b∉[W0.heap.size+1]:=λb ⟨c,A⟩ hb=>A.ne_obj h2.L rfl (by simpa using hb);have A3:=A2.only O3 (hnl _ ⟨_,A2⟩);have H3:=H2.onlyC O3 λb _ hc=>hnl b hc;have hK3:W3.heap[W0.heap.size]? =some (.deferred (some [])):=by rw[<-hW3];exact(World.putObj_heap_other Y).trans h2.K
  have hc3:W3.cell? (ah w.heap.size)=some (.slice p ss.length c):=A3.rd 0;have hf3:W3.frozen? (ah w.heap.size)=false:=A3.fz 0 none;clear hW3;refine⟨none,W3,hend,?_⟩
  gi_wp2
  rw[<-hs0];refine⟨Z,.inl ⟨_,_,rfl,run_takeDeferred hK3,?_⟩⟩;have O4:aF [W0.heap.size] W3.heap (W3.putObj W0.heap.size (.deferred none)).heap:=aF.putW _ hK3 rfl rfl;have hF:=H3.onlyC O4 (λb _ hc hb=>by obtain⟨c,A⟩:=hc;exact A.ne_obj hK3 rfl (by simpa using hb));rw[<-hs0]at hF
  exact⟨_,results_tmp rfl _ _ _,p,c,ss,rfl,hC.perm hl hnd hD2,hF,
   (h2.only.trans O3 (by intro b hb hlt;simp at hb;omega)).trans O4 (by intro b hb hlt;simp at hb;omega),(h2.same.trans S3).trans ⟨rfl,rfl,rfl⟩⟩
def appSeq{h:aA}{Bm b:Nat}{m:List (Int×Value)}{K:KK}(A:At h Bm [.map (some b)])(M:bU h b .i64 m)
  (hwf: ∀x∈m.map (·.1),(Lit.int .i64 x).wf=true) (hsz:m.length*8<=140737488355328)
  (hK: ∀(p:ak) (c:Nat) (h':aA) (ss:List Int),ss.Perm (m.map (·.1))->ct h' (h.size+1) 1 p ss.length c (ss.map (Value.int .i64))->aF [] h h'->K (.slice p ss.length c) h'):
  Cl 297 [.slice none 0 0,.func (.func 266) #[] #[ag (ah Bm)]] h K:=λw hw=>by
 subst hw;refine((callsIn_wide (n:=2)).1 (jY (F:=Fence.wide) (n:=2) trivial trivial rfl Y Bm b m w A M hwf hsz)).mono ?_;rintro e w' ⟨p,c,ss,rfl,h1,h2,h3,h4⟩;exact⟨_,rfl,h4,hK p c _ ss h1 h2 h3⟩
end IN
section
def gf(n m:Nat)(leaf:Nat->Nat->Bool)(c:Nat->Nat->Bool->Bool->Bool)(N:aj):Nat->Nat->Nat->Bool
 |0,a,x=>leaf a x
 |d+1,a,x=>if m<=lvl n N a then leaf a x else c (lvl n N a) x (gf n m leaf c N d (low N a) x) (gf n m leaf c N d (high N a) x)
section
variable {n m:Nat}{leaf leaf':Nat->Nat->Bool}{c:Nat->Nat->Bool->Bool->Bool}{N N':aj}{a x:Nat}
def AD(H:ey n N)(E:Ex N N')(hm:m<=n)(hl: ∀b,isN N b->leaf' b x=leaf b x): ∀(d:Nat) {a:Nat},isN N a->gf n m leaf' c N' d a x=gf n m leaf c N d a x:=by
 intro d
 induction d with
 |zero=>intro a ha;exact hl a ha
 |succ d ih=>
  intro a ha;unfold gf;rw[E.lvl ha];by_cases h2:m<=lvl n N a
  ·rw[if_pos h2,if_pos h2];exact hl a ha
  ·have a2:2<=a:=by
    apply Classical.byContradiction;intro hn;have:lvl n N a=n:=by unfold lvl;rw[if_pos Y]
    omega
   obtain⟨h3,h4,h5,-,h6,h7⟩:=H.at ha a2;rw[if_neg h2,if_neg h2,E.low ha,E.high ha,ih h4,ih h5]
end
def Fj(fo:Nat->Nat)(op mask:Nat)(l x:Nat)(p q:Bool):Bool:=if mask.testBit (fo l)then(if op=7 then p&&q else p||q)else if x.testBit (fo l)then q else p
def Eq(n:Nat)(fo:Nat->Nat)(op mask:Nat)(N:aj)(a x:Nat):Bool:=gf n n (λa _=>a==1) (Fj fo op mask) N n a x
section
variable {n:Nat}{fo:Nat->Nat}{N N':aj}{a x:Nat}
def xZ{op mask:Nat}(H:ey n N)(E:Ex N N')(ha:isN N a):Eq n fo op mask N' a x=Eq n fo op mask N a x:=AD H E (Nat.le_refl _) (λb hb=>rfl) n ha
structure QR(n:Nat)(fo:Nat->Nat)(N:aj)(op mask a r:Nat):Prop where
 is:isN N r
 lv:lvl n N a<=lvl n N r
 sm: ∀x,sm n fo N r x=Eq n fo op mask N a x
def QR.ext{op mask r:Nat}(R:QR n fo N op mask a r)(H:ey n N)(E:Ex N N')(ha:isN N a):QR n fo N' op mask a r:=
 ⟨E.isN R.is,by rw[E.lvl ha,E.lvl R.is];exact R.lv,λx=>by rw[E.sm H R.is,R.sm,xZ H E ha]⟩
end
end
section
end
section
end
section
end
section
end
section
def gd{h:aA}{b:Nat}{g0 g:Nat->Nat}{K:aA->Prop}(A:At h b (cr g0))(hK: ∀h',At h' b (cr g)->aF [b] h h'->K h'):
  aP h (Addr.add (ah b) 0) (af ((g 0:Nat):Int)) λh1=>aP h1 (Addr.add (ah b) 1) (af ((g 1:Nat):Int)) λh2=>aP h2 (Addr.add (ah b) 2) (af ((g 2:Nat):Int)) λh3=>aP h3 (Addr.add (ah b) 3) (af ((g 3:Nat):Int)) K:=by
 simp only[aE,Nat.zero_add]
 exact gy A (by decide) λh1 C1 O1=>gy C1 (by decide) λh2 C2 O2=>gy C2 (by decide) λh3 C3 O3=>gy C3 (by decide) λh4 C4 O4=>
  hK h4 C4 (((O1.trans O2 Z).trans O3 Z).trans O4 Z)
def yB: ∀y:Fin 256,∀v:Fin 8,(aY .and .i64 (Int.fdiv ((y.1:Nat):Int) (2^(min (Int.toNat (IntKind.wrap .u64 ((v.1:Nat):Int))) (IntKind.bits .i64)))) 1==1)=y.1.testBit v.1:=by decide+kernel
set_option maxRecDepth 100000 in
def zW{h:aA}{v:Int}{K:KK}
  (hK: ∀h' g,gA g->(∀y,y<256->fb g y=(decide (0<=v/\v<8)&&y.testBit v.toNat))->aF [] h h'->K (gp g) h'):Cl 33 [ac v] h K:=by
 refine F33.spec _ h K ?_;refine aM λh1 A1 O1 z1=>aM λh2 A2 O2 z2=> ?_
 replace A1:At h1 h.size (cr λ_=>0):=A1
 replace A2:At h2 h1.size (cr λ_=>0):=A2
 have B1:=A1.only O2 Z;have hne:h1.size≠h.size:=Y;refine gd (g:=λ_=>0) A2 λh3 A3 O3=> ?_;have B3:=B1.only O3 (by simp;omega);have O03:aF [] h h3:=(O1.trans O2 Z).trans O3 (by intro b hb hlt;simp at hb;omega);unfold F33.wk3;by_cases hv:0<=v/\v<8
 ·obtain⟨n,rfl⟩: ∃n:Nat,v=n:=⟨v.toNat,Y⟩;have hn:n<8:=Y
  have main: ∀(d k:Nat) (g:Nat->Nat) (h':aA),k+d=256->gA g->(∀y,y<256->fb g y=(y.testBit n&&decide (y<k)))->At h' h1.size (cr g)->At h' h.size (cr λ_=>0)->aF [] h h'->
    F33.wL3 (d+1) n (ah h.size) (ah h1.size) k h' K:=by
   intro d
   induction d with
   |zero=>
    intro k g h' hd hg hf A C O;rw[F33.sL3];rw[show decide ((k:Int)<256)=false by simp;omega,aD];refine nG A C hne λh'' O''=>hK h'' g hg (λy hy=> ?_) (O.trans O'' (by intro b hb hlt;simp at hb;omega));rw[hf y hy,decide_eq_true Y,Bool.and_true,decide_eq_true hv,Bool.true_and,Int.toNat_natCast]
   |succ d ih=>
    intro k g h' hd hg hf A C O;rw[F33.sL3];have e:=yB ⟨k,Y⟩ ⟨n,hn⟩;dsimp only at e
    rw[show decide ((k:Int)<256)=true by simp;omega,aG,show decide ((n:Int)>=0)=true by simp,aG,show decide ((n:Int)<8)=true by simp;omega,aG,e,
     m9 Y,show ai ((k:Int)+1)=((k+1:Nat):Int) by rw[wrap_i64 Y Y];omega,kI (a:=n) (by unfold eU;omega)]
    refine⟨Y,?_⟩;refine CR A hg Y λh'' A'' O''=>⟨rfl,ih (k+1) _ h'' Y (yP hg) (λy hy=> ?_) A'' (C.only O'' (by simp;omega)) (O.trans O'' (by intro b hb hlt;simp at hb;omega))⟩;rw[yO,hf y hy];by_cases e:y=k
    ·subst e;simp
    ·by_cases l:y<k
     ·simp[e,l,show y<k+1 by omega]
     ·simp[e,l,show ¬y<k+1 by omega]
  exact⟨_,main 256 0 _ h3 rfl (λ_ _=>by decide) (λy _=>by rw[sY];simp) A3 B3 O03⟩
 ·refine⟨1,?_⟩;rw[F33.sL3];rw[show decide ((0:Int)<256)=true by decide,aG];have out: ∀h',aF [h.size] h3 h'->K (gp λ_=>0) h':=λh' O=>hK h' _ (λ_ _=>by decide) (λy _=>by rw[sY,decide_eq_false hv,Bool.false_and]) (O03.trans O (by intro b hb hlt;simp at hb;omega));refine aH (λhb=> ?_) λhb=> ?_
  ·have hb:=of_decide_eq_true hb;rw[decide_eq_false Y,aD];exact nG A3 B3 hne out
  ·exact nG A3 B3 hne out
end
section
def qX{h:aA}{b:Nat}{g:Nat->Nat}{K:Int->Int->Int->Int->Prop}(A:At h b (cr g))(hK:K (g 0:Int) (g 1:Int) (g 2:Int) (g 3:Int)):
  aI .u64 (rd h (Addr.add (ah b) 0)) λn1=>aI .u64 (rd h (Addr.add (ah b) 1)) λn2=>aI .u64 (rd h (Addr.add (ah b) 2)) λn3=>aI .u64 (rd h (Addr.add (ah b) 3)) λn4=>K n1 n2 n3 n4:=by
 simp only[aE,Nat.zero_add];exact aB (dF A (by decide)) (aB (dF A (by decide)) (aB (dF A (by decide)) (aB (dF A (by decide)) hK)))
def C9(n:Nat)(f:Nat->Nat):List Value:=((List.range n).map λi=>(f i:Int)).map (.int .i64)
end
section
end
section
def EY{g c:Nat->Nat}(hg:gA g)(hc:gA c):(((g 0:Int)==(c 0:Int))&&(((g 1:Int)==(c 1:Int))&&(((g 2:Int)==(c 2:Int))&&(((g 3:Int)==(c 3:Int))&&true))))=true↔ ∀y,y<256->fb g y=fb c y:=by
 simp only[Bool.and_eq_true,beq_iff_eq,and_true];constructor
 ·rintro ⟨h0,h1,h2,h3⟩ y hy;unfold fb;have:y/64=0\/y/64=1\/y/64=2\/y/64=3:=Y;rcases this with e|e|e|e<;>rw[e]<;>congr 1<;>omega
 ·intro h;have:=AH hg hc h;exact⟨by rw[this 0 Y],by rw[this 1 Y],by rw[this 2 Y],by rw[this 3 Y]⟩
end
section
def lu(op:Nat)(x y z:Bool):Bool:=if op=2 then x&&y else if op=3 then x||y else if op=4 then x !=y else if x then y else z
structure iS(n:Nat)(f:Nat->Nat)(N:aj)(op a b c r:Nat):Prop where
 is:isN N r
 lv: ∀k,k<=lvl n N a->k<=lvl n N b->k<=lvl n N c->k<=lvl n N r
 sm: ∀x,sm n f N r x=lu op (sm n f N a x) (sm n f N b x) (sm n f N c x)
def iS.ext{n:Nat}{f:Nat->Nat}{N N':aj}{op a b c r:Nat}(R:iS n f N op a b c r)(H:ey n N)(E:Ex N N')(ha:isN N a)(hb:isN N b)(hc:isN N c):iS n f N' op a b c r:=
 ⟨E.isN R.is,λk h1 h2 h3=>by rw[E.lvl ha]at h1;rw[E.lvl hb]at h2;rw[E.lvl hc]at h3;rw[E.lvl R.is];exact R.lv k h1 h2 h3,λx=>by rw[E.sm H R.is,E.sm H ha,E.sm H hb,E.sm H hc,R.sm]⟩
def QL(n:Nat)(f:Nat->Nat)(N:aj)(k v:Int):Prop:= ∃op mask a b c r:Nat,k=(qP op mask a b c:Nat)/\v=(r:Int)/\mask<2^8/\isN N a/\isN N b/\isN N c/\a<2^16/\b<2^16/\c<2^16/\
 ((op<6/\mask=0/\iS n f N op a b c r)\/((op=6\/op=7)/\QR n f N op mask a r))
def QL.ext{n:Nat}{f:Nat->Nat}{N N':aj}{k v:Int}(Q:QL n f N k v)(H:ey n N)(E:Ex N N'):QL n f N' k v:=by obtain⟨op,mask,a,b,c,r,h1,h2,h3,h4,h5,h6,h7,h8,h9,R⟩:=Q;exact⟨op,mask,a,b,c,r,h1,h2,h3,E.isN h4,E.isN h5,E.isN h6,h7,h8,h9,R.imp (λ⟨x,y,R⟩=>⟨x,y,R.ext H E h4 h5 h6⟩) λ⟨x,R⟩=>⟨x,R.ext H E h4⟩⟩
def QL.get{n:Nat}{f:Nat->Nat}{N:aj}{op a b c:Nat}{v:Int}(h6:op<6)(Q:QL n f N (qP op 0 a b c:Nat) v)(ha:a<2^16)(hb:b<2^16)(hc:c<2^16): ∃r:Nat,v=r/\iS n f N op a b c r:=by
 obtain⟨op',mask',a',b',c',r,h1,h2,h3,-,-,-,h7,h8,h9,R⟩:=Q;obtain⟨e1,e0,e2,e3,e4⟩:=xu (by decide) ha hb hc h3 h7 h8 h9 (Int.ofNat.inj h1);subst e1 e0 e2 e3 e4;rcases R with⟨-,-,R⟩|⟨h,-⟩
 ·exact⟨r,h2,R⟩
 ·omega
def BW{h:aA}{s:Nat}{L:List Nat}{X:SX}(H:cG h s L X){Q':Int->Int->Prop}(hQ: ∀k v,X.Q k v->Q' k v):cG h s L {X with Q:=Q'}:=by obtain⟨B,F,e,H⟩:=H;obtain⟨cs,o,fl,c1,c2⟩:=H.m.cac;refine⟨B,F,e,⟨⟨H.m.S,H.m.O,H.m.own,H.m.fre,⟨cs,o,fl,c1,λl hl=> ?_⟩,H.m.n8,H.m.len,H.m.sep⟩,H.t,H.ok,H.cnt,H.fre⟩⟩;obtain⟨g1,g2,g3,g4⟩:=c2 l hl;exact⟨g1,g2,g3,λe=>hQ _ _ (g4 e)⟩
def XL(n room:Nat)(f g:Nat->Nat)(N:aj)(off:Bool):SX:=⟨n,room,f,g,N,QL n f N,off⟩
def we{h:aA}{s n room:Nat}{f g:Nat->Nat}{L:List Nat}{N N':aj}{off:Bool}(H:cG h s L {XL n room f g N off with N:=N'})(ok:ey n N)(E:Ex N N'):cG h s L (XL n room f g N' off):=
 BW H λ_ _ h=>QL.ext h ok E
def ll{n:Nat}{N:aj}{a:Nat}(h:a<2):lvl n N a=n:=by unfold lvl;rw[if_pos h]
def dP{a b:Nat}:((a:Int)==(b:Int))=decide (a=b):=by
 by_cases h:a=b
 ·subst h;simp
 ·rw[decide_eq_false h];simp;omega
end
section
variable {i j k l m n o p q r s t:Int}{a b c d:Addr}{u v:Nat}{x y:ak}{h:aA}{K:KK}
def F91.T:bf:=⟨[(7,[3,7,8,9]),(10,[3,7,8])],[(13,[[(0,[]),(1,[]),(2,[]),(3,[]),(4,[]),(5,[]),(6,[]),(7,[1,2,3,4]),(8,[]),(9,[]),(10,[])]])]⟩
section
variable (n:Nat)(o:Addr)(f g i j l:Int)(b a c:Addr)(d:Int)(h:aA)(K:KK)
def F91.JL7(bk7:Addr->Addr->Addr->Int->aA->Prop)(k10:Addr->Addr->Addr->aA->Prop)(b a c:Addr)(d:Int)(h:aA)(_K:KK):Prop:=aC (d<3) ((0<=d/\d<3/\aP h ((c.add (d.toNat*1)).add 0) (ae 0) λe=>bk7 b a c (ai (d+1)) e)) (k10 b a c h)
def F91.wk10:Prop:=aI .i64 (rd h (b.add 0)) λd=>aI .u8 (rd h (b.add 4)) λe=>aI .u32 (rd h (c.add 0)) λf=>aI .u32 (rd h (c.add 1)) λg=>aI .u32 (rd h (c.add 2)) λc=>Cl 135 [ag a,.int .u8 (IntKind.wrap .u8 d),.int .u8 e,.agg #[ae f,ae g,ae c]] h λc d=>bi (some c) λc=>aI .i64 (rd d (b.add 0)) λe=>aC (e==1) (aI .u32 (rd d (b.add 1)) λe=>aN c λf=>aP d ((f.add 1).add 0) (.int .u8 4) λd=>ay (ap c)/\ay (ag (b.add 1))/\aI .u32 (rd d (b.add 1)) λb=>az (ae b) (ae e)/\ay (.agg #[ae 1,ae e,ae 0])/\aN c λb=>aP d ((b.add 3).add 0) (ae 1) λc=>aP c ((b.add 3).add 1) (ae e) λc=>aP c ((b.add 3).add 2) (ae 0) λb=>K (.tuple #[ag a,ac 0]) b) (aC (e==6) (aC (e==6) (aN c λb=>aP d ((b.add 8).add 0) (.func (.func 136) #[ap c] #[]) λb=>K (.tuple #[ag a,ac 0]) b) (aC (e==8) (aN c λb=>aP d ((b.add 8).add 0) (.func (.func 137) #[ap c] #[]) λb=>K (.tuple #[ag a,ac 0]) b) (aC (e==9) (aN c λb=>aP d ((b.add 8).add 0) (.func (.func 138) #[ap c] #[]) λb=>K (.tuple #[ag a,ac 0]) b) (aC (e==10) (aN c λb=>aP d ((b.add 8).add 0) (.func (.func 139) #[ap c] #[]) λb=>K (.tuple #[ag a,ac 0]) b) (K (.tuple #[ag a,ac 0]) d))))) (aC (e==7) (aN c λb=>aP d ((b.add 8).add 0) (.func (.func 136) #[ap c] #[]) λb=>K (.tuple #[ag a,ac 0]) b) (aC (e==8) (aN c λb=>aP d ((b.add 8).add 0) (.func (.func 137) #[ap c] #[]) λb=>K (.tuple #[ag a,ac 0]) b) (aC (e==9) (aN c λb=>aP d ((b.add 8).add 0) (.func (.func 138) #[ap c] #[]) λb=>K (.tuple #[ag a,ac 0]) b) (aC (e==10) (aN c λb=>aP d ((b.add 8).add 0) (.func (.func 139) #[ap c] #[]) λb=>K (.tuple #[ag a,ac 0]) b) (K (.tuple #[ag a,ac 0]) d))))))
def F91.wL7:Prop:=Lp Tryz.f91 F91.T [1,1,1,1,0,1,0] n [(3,(ag b)),(7,(ag a)),(8,(ag c)),(9,(ac d))] h K
def F91.sL7:F91.wL7 (n+1) b a c d h K=(F91.JL7 (λa b c d e=>F91.wL7 n a b c d e K) (λa b c d=>F91.wk10 a b c d K) b a c d h K):=by kernel_rfl
def F91.wk7:Prop:=(∃e,F91.wL7 e b a c d h K)
def F91.spec(H:aZ h (.cells #[ac f,ae g,ae i,ae j,.int .u8 l] 66) λa b=>aI .i64 (rd b ((ah a).add 0)) λc=>aI .u32 (rd b ((ah a).add 1)) λd=>aI .u32 (rd b ((ah a).add 2)) λe=>aI .u32 (rd b ((ah a).add 3)) λf=>aI .u8 (rd b ((ah a).add 4)) λg=>Cl 133 [ag o,.agg #[ac c,ae d,ae e,ae f,.int .u8 g]] b λb c=>aI .i64 (some b) λb=>aC (b !=0) (K (.tuple #[ap none,ac b]) c) (aZ c (.cells #[ag o,.slice none 0 0,ae 0,aq,ac 0] 228) λb c=>aI .u32 (rd c ((ah a).add 1)) λd=>aI .u32 (rd c ((ah a).add 2)) λe=>aI .u32 (rd c ((ah a).add 3)) λf=>aZ c (.cells #[ae 0,ae 0,ae 0] 115) λc g=>aP g ((ah c).add 0) (ae d) λd=>aP d ((ah c).add 1) (ae e) λd=>aP d ((ah c).add 2) (ae f) λd=>aI .i64 (rd d ((ah a).add 0)) λe=>Cl 134 [ac e] d λd e=>aI .i64 (some d) λd=>F91.wk7 (ah a) (ah b) (ah c) d e K)):Cl 91 [ag o,.agg #[ac f,ae g,ae i,ae j,.int .u8 l]] h K:=cT F91.T Tryz.func91 H
end
def F133.T:bf:=⟨[(5,[0,3,21,22,23]),(10,[0,3])],[(13,[[(0,[]),(1,[]),(2,[]),(3,[]),(4,[0,1,2]),(5,[]),(6,[])]]),(16,[[(0,[]),(1,[]),(2,[]),(3,[]),(4,[0,1,2]),(5,[])]])]⟩
section
variable (n:Nat)(c:Addr)(l o q r s:Int)(b:Addr)(f:ak)(d i:Nat)(j g:Int)(h:aA)(K:KK)
def F133.wk10:Prop:=aI .i64 (rd h (b.add 0)) λa=>aC (a==6) (aC (a==6) (aI .u8 (rd h (b.add 4)) λa=>Cl 75 [ag c] h λc d=>aI .i64 (some c) λc=>ay (ag (b.add 4))/\aI .u8 (rd d (b.add 4)) λb=>az (.int .u8 b) (.int .u8 a)/\ay (ac (ai a))/\0<=c/\aC ((Int.fdiv (ai a) (2^(min (c.toNat) (IntKind.bits .i64)))) !=0) (K (ac 40) d) (K (ac 0) d)) (aC (a==8) (aI .u8 (rd h (b.add 4)) λa=>Cl 75 [ag c] h λc d=>aI .i64 (some c) λc=>ay (ag (b.add 4))/\aI .u8 (rd d (b.add 4)) λb=>az (.int .u8 b) (.int .u8 a)/\ay (ac (ai a))/\aC ((ai a)>=c) (K (ac 40) d) (K (ac 0) d)) (aC (a==9) (aC (a==9) (Cl 75 [ag c] h λa d=>aI .i64 (some a) λa=>(2:Int)≠0/\aC ((Int.tmod a 2)==1) (K (ac 160) d) (aI .u32 (rd d (b.add 1)) λa=>Cl 179 [ag c,ae a] d λa b=>bA (some a) λa=>aC (!a) (K (ac 160) b) (K (ac 0) b))) (K (ac 0) h)) (aC (a==10) (Cl 75 [ag c] h λa d=>aI .i64 (some a) λa=>(2:Int)≠0/\aC ((Int.tmod a 2)==1) (K (ac 160) d) (aI .u32 (rd d (b.add 1)) λa=>Cl 179 [ag c,ae a] d λa b=>bA (some a) λa=>aC (!a) (K (ac 160) b) (K (ac 0) b))) (K (ac 0) h))))) (aC (a==7) (aI .u8 (rd h (b.add 4)) λa=>Cl 75 [ag c] h λc d=>aI .i64 (some c) λc=>ay (ag (b.add 4))/\aI .u8 (rd d (b.add 4)) λb=>az (.int .u8 b) (.int .u8 a)/\ay (ac (ai a))/\0<=c/\aC ((Int.fdiv (ai a) (2^(min (c.toNat) (IntKind.bits .i64)))) !=0) (K (ac 40) d) (K (ac 0) d)) (aC (a==8) (aI .u8 (rd h (b.add 4)) λa=>Cl 75 [ag c] h λc d=>aI .i64 (some c) λc=>ay (ag (b.add 4))/\aI .u8 (rd d (b.add 4)) λb=>az (.int .u8 b) (.int .u8 a)/\ay (ac (ai a))/\aC ((ai a)>=c) (K (ac 40) d) (K (ac 0) d)) (aC (a==9) (aC (a==9) (Cl 75 [ag c] h λa d=>aI .i64 (some a) λa=>(2:Int)≠0/\aC ((Int.tmod a 2)==1) (K (ac 160) d) (aI .u32 (rd d (b.add 1)) λa=>Cl 179 [ag c,ae a] d λa b=>bA (some a) λa=>aC (!a) (K (ac 160) b) (K (ac 0) b))) (K (ac 0) h)) (aC (a==10) (Cl 75 [ag c] h λa d=>aI .i64 (some a) λa=>(2:Int)≠0/\aC ((Int.tmod a 2)==1) (K (ac 160) d) (aI .u32 (rd d (b.add 1)) λa=>Cl 179 [ag c,ae a] d λa b=>bA (some a) λa=>aC (!a) (K (ac 160) b) (K (ac 0) b))) (K (ac 0) h)))))
def F133.wL5:Prop:=Lp Tryz.f133 F133.T [1,1,1,0,1,0] n [(0,(ag c)),(3,(ag b)),(21,(.slice f d i)),(22,(ac j)),(23,(ac g))] h K
def F133.sL5:F133.wL5 (n+1) c b f d i j g h K=(aC (g<j) (aN f λa=>0<=g/\g<(d:Int)/\aI .u32 (rd h (a.add (g.toNat*1))) λa=>Cl 74 [ag c,ae a] h λa e=>bA (some a) λa=>aC (!a) (K (ac 101) e) (F133.wL5 n c b f d i j (ai (g+1)) e K)) (F133.wk10 c b h K)):=by kernel_rfl
def F133.wk5:Prop:=(∃a,F133.wL5 a c b f d i j g h K)
def F133.spec(H:aZ h (.cells #[ac l,ae o,ae q,ae r,.int .u8 s] 66) λa b=>aI .i64 (rd b ((ah a).add 0)) λd=>Cl 134 [ac d] b λb d=>aI .i64 (some b) λb=>aC (b==0) (K (ac 200) d) (aI .u32 (rd d ((ah a).add 1)) λe=>aI .u32 (rd d ((ah a).add 2)) λf=>aI .u32 (rd d ((ah a).add 3)) λg=>aZ d (.cells #[ae e,ae f,ae g] 46) λd e=>0<=b/\b<=3/\F133.wk5 c (ah a) (if 3=0 then(some (ah d))else Option.map (λa=>Addr.add a (0*1)) (some (ah d))) (b.toNat-0) (3-0) (Nat.cast (b.toNat-0):Int) 0 e K)):Cl 133 [ag c,.agg #[ac l,ae o,ae q,ae r,.int .u8 s]] h K:=cT F133.T Tryz.func133 H
end
def F134.spec(H:aC (i==1) (aC (i==1) (K (ac 1) h) (aC (i==2) (aC (i==2) (K (ac 2) h) (aC (i==5) (K (ac 3) h) (K (ac 0) h))) (aC (i==3) (aC (i==3) (K (ac 2) h) (aC (i==5) (K (ac 3) h) (K (ac 0) h))) (aC (i==4) (aC (i==4) (K (ac 2) h) (aC (i==5) (K (ac 3) h) (K (ac 0) h))) (aC (i==8) (aC (i==8) (K (ac 2) h) (aC (i==5) (K (ac 3) h) (K (ac 0) h))) (aC (i==9) (aC (i==9) (K (ac 2) h) (aC (i==5) (K (ac 3) h) (K (ac 0) h))) (aC (i==10) (K (ac 2) h) (aC (i==5) (K (ac 3) h) (K (ac 0) h))))))))) (aC (i==6) (aC (i==6) (K (ac 1) h) (aC (i==2) (aC (i==2) (K (ac 2) h) (aC (i==5) (K (ac 3) h) (K (ac 0) h))) (aC (i==3) (aC (i==3) (K (ac 2) h) (aC (i==5) (K (ac 3) h) (K (ac 0) h))) (aC (i==4) (aC (i==4) (K (ac 2) h) (aC (i==5) (K (ac 3) h) (K (ac 0) h))) (aC (i==8) (aC (i==8) (K (ac 2) h) (aC (i==5) (K (ac 3) h) (K (ac 0) h))) (aC (i==9) (aC (i==9) (K (ac 2) h) (aC (i==5) (K (ac 3) h) (K (ac 0) h))) (aC (i==10) (K (ac 2) h) (aC (i==5) (K (ac 3) h) (K (ac 0) h))))))))) (aC (i==7) (K (ac 1) h) (aC (i==2) (aC (i==2) (K (ac 2) h) (aC (i==5) (K (ac 3) h) (K (ac 0) h))) (aC (i==3) (aC (i==3) (K (ac 2) h) (aC (i==5) (K (ac 3) h) (K (ac 0) h))) (aC (i==4) (aC (i==4) (K (ac 2) h) (aC (i==5) (K (ac 3) h) (K (ac 0) h))) (aC (i==8) (aC (i==8) (K (ac 2) h) (aC (i==5) (K (ac 3) h) (K (ac 0) h))) (aC (i==9) (aC (i==9) (K (ac 2) h) (aC (i==5) (K (ac 3) h) (K (ac 0) h))) (aC (i==10) (K (ac 2) h) (aC (i==5) (K (ac 3) h) (K (ac 0) h))))))))))):Cl 134 [ac i] h K:=cN Tryz.func134 H
def F135.spec(H:aZ h (.cells #[ae k,ae l,ae m] 115) λb c=>aI .u32 (rd c ((ah b).add 0)) λd=>aI .u32 (rd c ((ah b).add 1)) λe=>aI .u32 (rd c ((ah b).add 2)) λb=>aZ c (.cells #[ag a,.int .u8 i,.int .u8 j,ae d,ae e,ae b,ac 0,ae 0,.nilFunc] 232) λb c=>aP c (((ah b).add 8).add 0) (.func (.func 180) #[ag (ah b)] #[]) λc=>cW (rd c (a.add 1)) λd e f=>aZ c (.cells #[ag (ah b)] 229) λc g=>fA g 229 1 8 #[ap none] d e f (some (ah c)) 1 λc d e f=>aP f ((a.add 1).add 0) (.slice c d e) λa=>K (ag (ah b)) a):Cl 135 [ag a,.int .u8 i,.int .u8 j,.agg #[ae k,ae l,ae m]] h K:=cN Tryz.func135 H
def F114.T:bf:=⟨[(2,[0,3]),(4,[0])],[(3,[[(0,[]),(1,[]),(2,[]),(3,[]),(4,[]),(5,[]),(6,[]),(7,[]),(8,[]),(9,[]),(10,[]),(11,[]),(12,[]),(13,[]),(14,[]),(15,[])]])]⟩
section
variable (n:Nat)(a:Addr)(b:Int)(h:aA)(K:KK)
def F114.wk4:Prop:=bA (rd h (a.add 3)) λa=>K (aw a) h
def F114.wL2:Prop:=Lp Tryz.f114 F114.T [1,1,0,0] n [(0,(ag a)),(3,(ac b))] h K
def F114.sL2:F114.wL2 (n+1) a b h K=(bA (rd h (a.add 3)) λc=>aC (!c) (bi (rd h (a.add 0)) λc=>Cl 45 [ap c] h λc d=>aI .i64 (some c) λc=>aC (c==b) (cW (rd d (a.add 1)) λc e _=>cW (rd d (a.add 1)) λ_ f _=>aN c λc=>0<=(ai ((f:Int)-(1:Int)))/\(ai ((f:Int)-(1:Int)))<(e:Int)/\bi (rd d (c.add ((ai ((f:Int)-(1:Int))).toNat*1))) λc=>aN c λc=>qW (rd d (c.add 8)) λc=>gn Tryz.prog X c [] d λc d=>c=ax/\F114.wL2 n a b d K) (F114.wk4 a d K)) (F114.wk4 a h K)):=by kernel_rfl
def F114.wk2:Prop:=(∃c,F114.wL2 c a b h K)
def F114.spec(H:bi (rd h (a.add 0)) λb=>Cl 45 [ap b] h λb c=>aI .i64 (some b) λb=>F114.wk2 a b c K):Cl 114 [ag a] h K:=cT F114.T Tryz.func114 H
end
def F180.T:bf:=⟨[(4,[0,2,3,4]),(6,[0,2,3,4]),(10,[0,2,67,68]),(14,[0,2])],[(5,[[(0,[]),(1,[]),(2,[]),(3,[]),(4,[]),(5,[]),(6,[]),(7,[]),(8,[]),(9,[]),(10,[]),(11,[]),(12,[]),(13,[]),(14,[]),(15,[]),(16,[]),(17,[]),(18,[]),(19,[]),(20,[]),(21,[]),(22,[]),(23,[]),(24,[]),(25,[])]]),(12,[[(0,[]),(1,[]),(2,[]),(3,[]),(4,[]),(5,[]),(6,[]),(7,[0,1,2,3,4]),(8,[]),(9,[]),(10,[]),(11,[])]]),(15,[[(0,[]),(1,[]),(2,[]),(3,[]),(4,[]),(5,[]),(6,[]),(7,[]),(8,[]),(9,[]),(10,[]),(11,[0,1,2,3,4,5,6,7]),(12,[])]])]⟩
section
variable (n:Nat)(a:Addr)(g:ak)(j:Int)(i:Bool)(b c d f:Int)(h:aA)(K:KK)
def F180.JL10(bk10:Addr->(ak)->Int->Int->Int->Int->aA->Prop)(k14:Addr->(ak)->aA->Prop)(a:Addr)(g:ak)(b c d f:Int)(h:aA)(_K:KK):Prop:=aC (f<3) ((0<=f/\f<3/\aI .u32 ([ae b,ae c,ae d]:List Value)[f.toNat]? (λe=>aI .i64 (rd h (a.add 6)) λi=>Cl 71 [ap g,ae e] h λe j=>aI .i64 (some e) λe=>ay (ag a)/\ay (ag a)/\ay (ag a)/\ay (ag (a.add 6))/\aI .i64 (rd j (a.add 6)) λk=>az (ac k) (ac i)/\aP j ((a.add 6).add 0) (ac (if e<i then e else i)) λe=>bk10 a g b c d (ai (f+1)) e))) (k14 a g h)
def F180.wk14:Prop:=aP h ((a.add 8).add 0) (.func (.func 225) #[ag a] #[]) λb=>bi (rd b (a.add 0)) λc=>aI .u8 (rd b (a.add 1)) λd=>Cl 226 [ag a,.func (.func 72) #[ap g] #[]] b λb e=> ∃f:Int,∃g:Int,∃i:Int,b=(.agg #[ae f,ae g,ae i])/\ay (ag a)/\ay (ag a)/\ay (ag (a.add 0))/\bi (rd e (a.add 0)) λb=>az (ap b) (ap c)/\ay (ag a)/\ay (ag a)/\ay (ag (a.add 1))/\aI .u8 (rd e (a.add 1)) λa=>az (.int .u8 a) (.int .u8 d)/\Cl 135 [ap c,.int .u8 d,.int .u8 0,.agg #[ae f,ae g,ae i]] e λa b=>bi (some a) λ_=>K ax b
def F180.wL10:Prop:=Lp Tryz.f180 F180.T [1,1,1,1,1,1,0,1,0] n [(0,(ag a)),(2,(ap g)),(67,(.agg #[ae b,ae c,ae d])),(68,(ac f))] h K
def F180.sL10:F180.wL10 (n+1) a g b c d f h K=(F180.JL10 (λa b c d e f g=>F180.wL10 n a b c d e f g K) (λa b c=>F180.wk14 a b c K) a g b c d f h K):=by kernel_rfl
def F180.wk10:Prop:=(∃e,F180.wL10 e a g b c d f h K)
def F180.wk6:Prop:=aC i (bi (rd h (a.add 0)) λa=>Cl 181 [ap a,ae j] h λa b=>a=ax/\K ax b) (Cl 75 [ap g] h λb c=>aI .i64 (some b) λb=>aP c ((a.add 6).add 0) (ac b) λb=>aI .u32 (rd b ((a.add 3).add 0)) λc=>aI .u32 (rd b ((a.add 3).add 1)) λd=>aI .u32 (rd b ((a.add 3).add 2)) λe=>F180.wk10 a g c d e 0 b K)
def F180.wk4:Prop:=aC (!i) (aI .u8 (rd h (a.add 1)) λb=>0<=(0:Int)/\(0:Int)<(3:Int)/\aI .u32 (rd h ((a.add 3).add ((0:Int).toNat*1))) λc=>0<=(1:Int)/\(1:Int)<(3:Int)/\aI .u32 (rd h ((a.add 3).add ((1:Int).toNat*1))) λd=>0<=(2:Int)/\(2:Int)<(3:Int)/\aI .u32 (rd h ((a.add 3).add ((2:Int).toNat*1))) λe=>Cl 182 [ap g,.int .u8 b,.int .u8 0,ae c,ae d,ae e] h λb c=> ∃d:Int,∃e:Bool,b=(.tuple #[ae d,aw e])/\F180.wk6 a g d e c K) (F180.wk6 a g j i h K)
def F180.spec(H:bi (rd h (a.add 0)) λb=>aN b λb=>bi (rd h (b.add 0)) λb=>Cl 223 [ag a] h λc d=> ∃e:Int,∃f:Bool,c=(.tuple #[ae e,aw f])/\aC (!f) (Cl 224 [ag a] d λc d=> ∃e:Int,∃f:Bool,c=(.tuple #[ae e,aw f])/\F180.wk4 a b e f d K) (F180.wk4 a b e f d K)):Cl 180 [ag a] h K:=cT F180.T Tryz.func180 H
end
def F181.T:bf:=⟨[],[(1,[[(0,[]),(1,[]),(2,[]),(3,[]),(4,[]),(5,[]),(6,[]),(7,[]),(8,[]),(9,[]),(10,[]),(11,[]),(12,[]),(13,[]),(14,[])]])]⟩
def F181.spec(H:aP h ((a.add 2).add 0) (ae i) λb=>cW (rd b (a.add 1)) λc _ d=>cW (rd b (a.add 1)) λ_ e _=>0<=(ai ((e:Int)-(1:Int)))/\(ai ((e:Int)-(1:Int)))<=(d:Int)/\aP b ((a.add 1).add 0) (.slice (if d=0 then c else Option.map (λa=>Addr.add a (0*1)) c) ((ai ((e:Int)-(1:Int))).toNat-0) (d-0)) λb=>cW (rd b (a.add 1)) λ_ c _=>aP b ((a.add 3).add 0) (aw ((c:Int)==(0:Int))) λa=>K ax a):Cl 181 [ag a,ae i] h K:=cT F181.T Tryz.func181 H
def F223.T:bf:=⟨[(5,[0,4,5,6])],[(1,[[(0,[]),(1,[]),(2,[]),(3,[]),(4,[]),(5,[]),(6,[]),(7,[]),(8,[]),(9,[]),(10,[]),(11,[])]])]⟩
section
variable (a:Addr)(c b d:Int)(h:aA)(K:KK)
def F223.wk5:Prop:=aI .u8 (rd h (a.add 1)) λe=>aC (e==5) (K (.tuple #[ae 0,aq]) h) (aC (c==d) (K (.tuple #[ae b,au]) h) (aC (c==b) (aI .u8 (rd h (a.add 1)) λa=>aC (a !=4) (K (.tuple #[ae b,au]) h) (aC (b==d) (K (.tuple #[ae c,au]) h) (K (.tuple #[ae 0,aq]) h))) (aC (b==d) (K (.tuple #[ae c,au]) h) (K (.tuple #[ae 0,aq]) h))))
end
def F223.spec(H:(0<=(0:Int)/\(0:Int)<(3:Int)/\aI .u32 (rd h ((a.add 3).add ((0:Int).toNat*1))) λb=>0<=(1:Int)/\(1:Int)<(3:Int)/\aI .u32 (rd h ((a.add 3).add ((1:Int).toNat*1))) λc=>aI .u8 (rd h (a.add 1)) λd=>aC (d==2) (F223.wk5 a b c 1 h K) (F223.wk5 a b c 0 h K))):Cl 223 [ag a] h K:=cT F223.T Tryz.func223 H
def F224.T:bf:=⟨[],[(1,[[(0,[]),(1,[]),(2,[]),(3,[]),(4,[]),(5,[]),(6,[]),(7,[]),(8,[]),(9,[]),(10,[]),(11,[]),(12,[]),(13,[]),(14,[]),(15,[]),(16,[]),(17,[])]])]⟩
def F224.spec(H:(0<=(0:Int)/\(0:Int)<(3:Int)/\aI .u32 (rd h ((a.add 3).add ((0:Int).toNat*1))) λb=>0<=(1:Int)/\(1:Int)<(3:Int)/\aI .u32 (rd h ((a.add 3).add ((1:Int).toNat*1))) λc=>0<=(2:Int)/\(2:Int)<(3:Int)/\aI .u32 (rd h ((a.add 3).add ((2:Int).toNat*1))) λd=>aI .u8 (rd h (a.add 1)) λa=>aC (a==2) (aC (b<=1) (aC (c<=1) (K (.tuple #[ae (aY .and .u32 b c),au]) h) (aC (b==0) (K (.tuple #[ae (aY .and .u32 b c),au]) h) (K (.tuple #[ae (aY .and .u32 b c),aw (c==0)]) h))) (aC (b==0) (K (.tuple #[ae (aY .and .u32 b c),au]) h) (K (.tuple #[ae (aY .and .u32 b c),aw (c==0)]) h))) (aC (a==3) (aC (b==1) (K (.tuple #[ae 1,au]) h) (K (.tuple #[ae 1,aw (c==1)]) h)) (aC (a==4) (aC (b==c) (K (.tuple #[ae (aY .xor .u32 b c),au]) h) (aC (b<=1) (K (.tuple #[ae (aY .xor .u32 b c),aw (c<=1)]) h) (K (.tuple #[ae (aY .xor .u32 b c),aq]) h))) (aC (b==1) (K (.tuple #[ae c,au]) h) (aC (c==d) (K (.tuple #[ae c,au]) h) (aC (b==0) (K (.tuple #[ae d,au]) h) (K (.tuple #[ae 0,aq]) h)))))))):Cl 224 [ag a] h K:=cT F224.T Tryz.func224 H
def F226.T:bf:=⟨[(3,[0,1,4,5,12,13])],[(5,[[(0,[]),(1,[]),(2,[]),(3,[]),(4,[]),(5,[]),(6,[]),(7,[]),(9,[]),(10,[]),(11,[]),(12,[]),(8,[9,10,11,12]),(13,[])]])]⟩
section
variable (n:Nat)(f:Addr)(j:Value)(g i:Addr)(a b c d:Int)(h:aA)(K:KK)
def F226.JL3(bk3:Addr->Value->Addr->Addr->Int->Int->Int->Int->aA->Prop)(f:Addr)(j:Value)(g i:Addr)(a b c d:Int)(h:aA)(K:KK):Prop:=aC (d<3) ((0<=d/\d<3/\aI .u32 ([ae a,ae b,ae c]:List Value)[d.toNat]? (λe=>bi (rd h (f.add 0)) λk=>aN k λk=>bi (rd h (k.add 0)) λk=>aI .i64 (rd h (f.add 6)) λl=>Cl 71 [ap k,ae e] h λk m=>aI .i64 (some k) λk=>ay (ag f)/\ay (ag f)/\ay (ag (f.add 6))/\aI .i64 (rd m (f.add 6)) λn=>az (ac n) (ac l)/\aC (k==l) (gn Tryz.prog X j [ae e] m λe k=>aI .u32 (some e) λe=>0<=d/\d<3/\aP k ((i.add (d.toNat*1)).add 0) (ae e) λe=>bk3 f j g i a b c (ai (d+1)) e) (bk3 f j g i a b c (ai (d+1)) m)))) (aI .u32 (rd h (i.add 0)) λa=>aI .u32 (rd h (i.add 1)) λb=>aI .u32 (rd h (i.add 2)) λc=>aP h (g.add 0) (ae a) λa=>aP a (g.add 1) (ae b) λa=>aP a (g.add 2) (ae c) λa=>aI .u32 (rd a (g.add 0)) λb=>aI .u32 (rd a (g.add 1)) λc=>aI .u32 (rd a (g.add 2)) λd=>K (.agg #[ae b,ae c,ae d]) a)
def F226.wL3:Prop:=Lp Tryz.f226 F226.T [1,1,0,1,0] n [(0,(ag f)),(1,j),(4,(ag g)),(5,(ag i)),(12,(.agg #[ae a,ae b,ae c])),(13,(ac d))] h K
def F226.sL3:F226.wL3 (n+1) f j g i a b c d h K=(F226.JL3 (λa b c d e f g i j=>F226.wL3 n a b c d e f g i j K) f j g i a b c d h K):=by kernel_rfl
def F226.wk3:Prop:=(∃e,F226.wL3 e f j g i a b c d h K)
def F226.spec(H:aZ h (.cells #[ae 0,ae 0,ae 0] 115) λa b=>aI .u32 (rd b ((f.add 3).add 0)) λc=>aI .u32 (rd b ((f.add 3).add 1)) λd=>aI .u32 (rd b ((f.add 3).add 2)) λe=>aZ b (.cells #[ae 0,ae 0,ae 0] 115) λb g=>aP g ((ah b).add 0) (ae c) λc=>aP c ((ah b).add 1) (ae d) λc=>aP c ((ah b).add 2) (ae e) λc=>aI .u32 (rd c ((ah b).add 0)) λd=>aI .u32 (rd c ((ah b).add 1)) λe=>aI .u32 (rd c ((ah b).add 2)) λg=>F226.wk3 f j (ah a) (ah b) d e g 0 c K):Cl 226 [ag f,j] h K:=cT F226.T Tryz.func226 H
end
def F225.T:bf:=⟨[],[(2,[[(0,[]),(1,[]),(2,[]),(3,[]),(4,[]),(5,[]),(6,[]),(7,[]),(8,[]),(9,[]),(10,[]),(11,[]),(12,[]),(13,[]),(14,[]),(15,[]),(16,[]),(17,[0,1,2,3,4,5,6,7]),(18,[])]])]⟩
def F225.spec(H:bi (rd h (a.add 0)) λb=>aN b λb=>aI .u32 (rd h (b.add 2)) λb=>aP h ((a.add 7).add 0) (ae b) λb=>aP b ((a.add 8).add 0) (.func (.func 273) #[ag a] #[]) λb=>bi (rd b (a.add 0)) λc=>aI .u8 (rd b (a.add 1)) λd=>bi (rd b (a.add 0)) λe=>aN e λe=>bi (rd b (e.add 0)) λe=>Cl 226 [ag a,.func (.func 73) #[ap e] #[]] b λb e=> ∃f:Int,∃g:Int,∃i:Int,b=(.agg #[ae f,ae g,ae i])/\ay (ag a)/\ay (ag a)/\ay (ag (a.add 0))/\bi (rd e (a.add 0)) λb=>az (ap b) (ap c)/\ay (ag a)/\ay (ag a)/\ay (ag (a.add 1))/\aI .u8 (rd e (a.add 1)) λa=>az (.int .u8 a) (.int .u8 d)/\Cl 135 [ap c,.int .u8 d,.int .u8 0,.agg #[ae f,ae g,ae i]] e λa b=>bi (some a) λ_=>K ax b):Cl 225 [ag a] h K:=cT F225.T Tryz.func225 H
def F273.T:bf:=⟨[],[(0,[[(0,[]),(1,[]),(2,[]),(3,[]),(4,[]),(5,[]),(6,[]),(7,[]),(8,[]),(9,[]),(10,[]),(11,[]),(12,[]),(13,[]),(14,[]),(15,[]),(16,[]),(17,[]),(18,[]),(19,[]),(20,[]),(21,[])]]),(2,[[(0,[]),(1,[]),(2,[]),(3,[]),(4,[]),(5,[]),(6,[]),(7,[]),(8,[]),(9,[]),(10,[]),(11,[]),(12,[]),(13,[]),(14,[]),(15,[]),(16,[]),(17,[]),(18,[]),(19,[]),(20,[]),(21,[]),(22,[]),(23,[]),(24,[]),(25,[]),(26,[]),(27,[])]])]⟩
def F273.spec(H:aI .i64 (rd h (a.add 6)) λb=>aI .u32 (rd h (a.add 7)) λc=>bi (rd h (a.add 0)) λd=>aN d λd=>aI .u32 (rd h (d.add 2)) λd=>Cl 276 [ag a,ac b,ae c,ae d] h λb c=> ∃d:Int,∃e:Bool,b=(.tuple #[ae d,aw e])/\aC e (bi (rd c (a.add 0)) λb=>aN b λb=>bi (rd c (b.add 0)) λb=>aI .u8 (rd c (a.add 1)) λe=>0<=(0:Int)/\(0:Int)<(3:Int)/\aI .u32 (rd c ((a.add 3).add ((0:Int).toNat*1))) λf=>0<=(1:Int)/\(1:Int)<(3:Int)/\aI .u32 (rd c ((a.add 3).add ((1:Int).toNat*1))) λg=>0<=(2:Int)/\(2:Int)<(3:Int)/\aI .u32 (rd c ((a.add 3).add ((2:Int).toNat*1))) λi=>Cl 207 [ap b,.int .u8 e,.int .u8 0,ae f,ae g,ae i,ae d] c λb c=>b=ax/\bi (rd c (a.add 0)) λa=>Cl 181 [ap a,ae d] c λa b=>a=ax/\K ax b) (K ax c)):Cl 273 [ag a] h K:=cT F273.T Tryz.func273 H
def F276.T:bf:=⟨[(4,[10,11])],[(3,[[(0,[]),(1,[]),(2,[]),(3,[]),(4,[]),(5,[]),(6,[]),(7,[]),(8,[]),(9,[]),(10,[]),(11,[]),(12,[]),(13,[]),(14,[]),(15,[]),(16,[]),(17,[]),(18,[]),(19,[]),(20,[]),(21,[])]])]⟩
section
variable (b c:Int)(h:aA)(K:KK)
def F276.wk4:Prop:=K (.tuple #[ae b,aw (c==0)]) h
end
def F276.spec(H:bi (rd h (a.add 0)) λb=>aN b λb=>bi (rd h (b.add 0)) λb=>Cl 161 [ap b,ac i,ae j,ae k] h λb c=> ∃d:Int,∃e:Int,b=(.tuple #[ae d,ac e])/\aC (e !=0) (bi (rd c (a.add 0)) λb=>bi (rd c (a.add 0)) λf=>bi (rd c (a.add 0)) λa=>aN b λb=>aP c ((b.add 4).add 0) (ac e) λb=>aN f λc=>aP b ((c.add 3).add 0) au λb=>aN a λa=>aP b ((a.add 1).add 0) (.slice none 0 0) λa=>F276.wk4 d e a K) (F276.wk4 d e c K)):Cl 276 [ag a,ac i,ae j,ae k] h K:=cT F276.T Tryz.func276 H
def F94.T:bf:=⟨[],[(4,[[(0,[]),(1,[]),(2,[]),(3,[]),(4,[]),(5,[])]])]⟩
def F94.spec(H:bA (rd h (a.add 3)) λb=>aC (!b) (K (.tuple #[ae 0,ac 61]) h) (aI .i64 (rd h (a.add 4)) λb=>aC (b !=0) (aI .i64 (rd h (a.add 4)) λa=>K (.tuple #[ae 0,ac a]) h) (aI .u32 (rd h (a.add 2)) λa=>K (.tuple #[ae a,ac 0]) h))):Cl 94 [ag a] h K:=cT F94.T Tryz.func94 H
def F95.spec(H:bA (rd h (a.add 3)) λa=>K (aw a) h):Cl 95 [ag a] h K:=cN Tryz.func95 H
end
section
structure Fk where
 b:Nat
 op:Nat
 mask:Nat
 a0:Nat
 a1:Nat
 a2:Nat
 level:Nat
 low:Nat
 fn:Nat
structure MA where
 m:Nat
 fp:ak
 fc:Nat
 fs:List Fk
 told:Nat
 done:Bool
 e:Nat
def BO(fn b:Nat):Value:= .func (.func fn) #[ag (ah b)] #[]
def aX(b:Nat):Value:=ag (ah b)
def gP(m:Nat)(f:Fk):List Value:=[aX m,.int .u8 (f.op:Int),.int .u8 (f.mask:Int),ae (f.a0:Int),ae (f.a1:Int),ae (f.a2:Int),ac (f.level:Int),ae (f.low:Int),BO f.fn f.b]
def cy(s:Nat)(A:MA):List Value:=[aX s,.slice A.fp A.fs.length A.fc,ae (A.told:Int),aw A.done,ac (A.e:Int)]
def MA.bl(A:MA):List Nat:=A.m::(aR A.fp++A.fs.map (·.b))
structure bX(h:aA)(s:Nat)(A:MA):Prop where
 own:At h A.m (cy s A)
 win:kR h 0 A.fp A.fs.length A.fc (A.fs.map λf=>aX f.b)
 frm: ∀f∈A.fs,At h f.b (gP A.m f)
 sep:A.bl.Nodup
def bX.only{h h':aA}{s:Nat}{A:MA}{S:List Nat}(H:bX h s A)(O:aF S h h')(hS: ∀b∈S,b∉A.bl):bX h' s A:=by refine⟨H.own.only O λhm=>hS _ hm (by simp[MA.bl]),H.win.only O λb hb hm=>hS _ hm (by simp[MA.bl,hb]),λf hf=>(H.frm f hf).only O λhm=>hS _ hm ?_,H.sep⟩;simp only[MA.bl,List.mem_cons,List.mem_append,List.mem_map];exact .inr (.inr ⟨f,hf,rfl⟩)
def bX.only0{h h':aA}{s:Nat}{A:MA}(H:bX h s A)(O:aF [] h h'):bX h' s A:=H.only O Z
def bX.lt{h:aA}{s:Nat}{A:MA}(H:bX h s A): ∀b∈A.bl,b<h.size:=λb hb=>by
 simp only[MA.bl,List.mem_cons,List.mem_append,List.mem_map]at hb;rcases hb with e|hb|⟨f,hf,e⟩
 ·subst e;exact H.own.lt
 ·exact(H.win.lt b hb).2
 ·subst e;exact(H.frm f hf).lt
def Ba{a b:Nat}(ha:a<2^32)(hb:b<2^32):aY .xor .u32 (a:Int) (b:Int)=((a^^^b:Nat):Int):=by unfold aY;show IntKind.wrap .u32 ((BitVec.ofInt 32 (a:Int)^^^BitVec.ofInt 32 (b:Int)).toNat:Int)=_;rw[BitVec.toNat_xor,lc ha,lc hb];exact gi (Nat.xor_lt_two_pow ha hb)
section
variable {h:aA}{s m:Nat}{f:Fk}{K:KK}
def bX.top{fl:List Fk}{f':Fk}{A:MA}{j:Nat}{v:Value}{K:aA->Prop}(H:bX h s {A with fs:=fl++[f]})(hj:j<9)(hv:v.oneCell'=true)(hb:f'.b=f.b)(hc:(gP A.m f).set j v=gP A.m f')
  (hK: ∀h',bX h' s {A with fs:=fl++[f']}->aF [f.b] h h'->K h'):aP h ⟨f.b,j,none⟩ v K:=by
 have hf:f∈fl++[f]:=Z;refine aK (H.frm f hf) (by simpa[gP]using hj) hv λh' A' O' z=>hK h' ?_ O';rw[hc]at A';have sp:=H.sep;simp only[MA.bl,List.map_append,List.map_cons,List.map_nil,List.nodup_cons,List.mem_append,List.nodup_append,List.mem_singleton,not_or,ne_eq,forall_eq]at sp;obtain⟨⟨s1,s2,s3⟩,s4,⟨s5,s6,s7⟩,s8⟩:=sp;have e1:A.m∉[f.b]:=by simp;omega
 have ew:(fl++[f']).map (λf=>aX f.b)=(fl++[f]).map (λf=>aX f.b):=by simp[hb]
 refine⟨?_,?_,λg hg=> ?_,?_⟩
 ·have:=H.own.only O' e1;simpa[cy]using this
 ·have:=H.win.only O' (λb hb hm=>by
   simp only[List.mem_singleton]at hm;subst hm;exact s8 _ hb _ (.inr rfl) rfl)
  show kR h' 0 A.fp (fl++[f']).length A.fc ((fl++[f']).map λf=>aX f.b);rw[ew];simpa using this
 ·rcases List.mem_append.1 hg with hg|hg
  ·refine(H.frm g (by simp[hg])).only O' λhm=> ?_;simp only[List.mem_singleton]at hm;exact s7 _ (List.mem_map.2 ⟨g,hg,rfl⟩) hm
  ·simp only[List.mem_singleton]at hg;subst hg;rw[hb];exact A'
 ·have:=H.sep;simp only[MA.bl]at this ⊢;rw[show(fl++[f']).map (·.b)=(fl++[f]).map (·.b) by simp[hb]];exact this
end
def mK{h:aA}{s op mask a0 a1 a2:Nat}{A:MA}{K:KK}(H:bX h s A)(hl:A.fs.length<1000000)
  (hK: ∀h' f fp fc,(∃b,f=⟨b,op,mask,a0,a1,a2,0,0,180⟩/\h.size<=b)->bX h' s {A with fp:=fp,fc:=fc,fs:=A.fs++[f]}->aF (A.m::aR A.fp) h h'->(∀b∈aR fp,b∈aR A.fp\/h.size<=b)->K (aX f.b) h'):
  Cl 135 [aX A.m,.int .u8 (op:Int),.int .u8 (mask:Int),.agg #[ae (a0:Int),ae (a1:Int),ae (a2:Int)]] h K:=by
 refine F135.spec ?_;refine aM λh1 A1 O1 z1=> ?_;simp only[aE,Nat.zero_add,Nat.add_zero];have r: ∀k,rd h1 ⟨h.size,k,none⟩=([ae (a0:Int),ae (a1:Int),ae (a2:Int)]:List Value)[k]? :=λk=>At.rd A1 k;refine aB (by rw[r];rfl) (aB (by rw[r];rfl) (aB (by rw[r];rfl) ?_));refine aM λh2 A2 O2 z2=> ?_;refine aK A2 Z rfl λh3 A3 O3 z3=> ?_;have hlt:=H.lt;have mlt: ∀b∈A.bl,b<h1.size:=λb hb=>by have:=hlt b hb;omega
 have O13:aF [] h h3:=((O1.trans O2 Z).trans O3 (by intro x hx hl;simp at hx;omega));have H3:=H.only0 O13;refine bj (by rw[At.rd H3.own];rfl) ?_;refine aM λh4 A4 O4 z4=> ?_;have H4:=H3.only0 O4;have F4:At h4 h1.size (gP A.m ⟨h1.size,op,mask,a0,a1,a2,0,0,180⟩):=A3.only O4 Z;refine tc H4.win A4 Y rfl Y λp' c' h5 W5 O5 g5=> ?_
 have nm:A.m∉aR A.fp:=λhm=>by have:=H.sep;simp only[MA.bl,List.nodup_cons,List.mem_append,not_or]at this;exact this.1.1 hm
 have M5:=H4.own.only O5 nm;refine aK M5 (by simp[cy]) rfl λh6 M6 O6 z6=> ?_;have O46:aF (A.m::aR A.fp) h4 h6:=(O5.mono λb hb _=>List.mem_cons_of_mem _ hb).trans O6 λb hb hl=>by simp only[List.mem_singleton]at hb;exact List.mem_cons.2 (.inl hb)
 have hO:aF (A.m::aR A.fp) h h6:=((O13.trans O4 Z).mono Z).trans O46 λb hb _=>hb;have z4':h1.size<h4.size:=F4.lt;have sp:=H.sep;simp only[MA.bl,List.nodup_cons,List.mem_append,List.mem_map,List.nodup_append,not_or]at sp;have ownlt: ∀b∈aR A.fp,b<h1.size:=λb hb=>mlt b (by simp[MA.bl,hb]);have frlt: ∀f∈A.fs,f.b<h1.size:=λf hf=>mlt f.b (by simp only[MA.bl,List.mem_cons,List.mem_append,List.mem_map];exact .inr (.inr ⟨f,hf,rfl⟩));have hm1:=mlt A.m (by simp[MA.bl])
 have nP:h1.size∉A.m::aR A.fp:=λhm=>by
  rcases List.mem_cons.1 hm with e|hm
  ·omega
  ·have:=ownlt _ hm;omega
 have g5': ∀b∈aR p',b∈aR A.fp\/h4.size<=b:=g5;refine hK h6 ⟨h1.size,op,mask,a0,a1,a2,0,0,180⟩ p' c' ⟨h1.size,rfl,Y⟩ ⟨?_,?_,λg hg=> ?_,?_⟩ hO λb hb=>(g5 b hb).imp id λh=>Y
 ·have:(cy s A).set 1 (.slice p' (A.fs.length+1) c')=cy s {A with fp:=p',fc:=c',fs:=A.fs++[⟨h1.size,op,mask,a0,a1,a2,0,0,180⟩]}:=by simp[cy]
  rw[<-this];exact M6
 ·have:=W5.only O6 (λb hb hm=>by
   simp only[List.mem_singleton]at hm;subst hm;rcases g5' _ hb with h|h
   ·exact nm h
   ·omega)
  simpa[aX]using this
 ·rcases List.mem_append.1 hg with hg|hg
  ·refine((H4.frm g hg)).only O46 λhm=> ?_;rcases List.mem_cons.1 hm with e|hm
   ·exact sp.1.2 ⟨g,hg,e⟩
   ·exact sp.2.2.2 _ hm _ ⟨g,hg,rfl⟩ rfl
  ·simp only[List.mem_singleton]at hg;subst hg;exact F4.only O46 nP
 ·show(A.m::(aR p'++(A.fs++[(⟨h1.size,op,mask,a0,a1,a2,0,0,180⟩:Fk)]).map (·.b))).Nodup;have np:(aR p').Nodup:=by cases p'<;>simp[aR]
  simp only[List.map_append,List.map_cons,List.map_nil,List.nodup_cons,List.mem_append,List.mem_map,List.mem_singleton,List.nodup_append,not_or,ne_eq];refine⟨⟨λhm=> ?_,sp.1.2,Y⟩,np,⟨sp.2.2.1,Z,?_⟩,?_⟩
  ·rcases g5' _ hm with h|h
   ·exact nm h
   ·omega
  ·rintro b ⟨g,hg,rfl⟩ c rfl;have:=frlt g hg;omega
  ·rintro b hb c (⟨g,hg,rfl⟩|rfl) e
   ·rcases g5' _ hb with h|h
    ·exact sp.2.2.2 _ h _ ⟨g,hg,rfl⟩ e
    ·have:=frlt g hg;omega
   ·rcases g5' _ hb with h|h
    ·have:=ownlt _ h;omega
    ·omega
def pX{h:aA}{s r:Nat}{A:MA}{fl:List Fk}{f:Fk}{K:KK}(H:bX h s {A with fs:=fl++[f]})(hl:fl.length<1000000)
  (hK: ∀h' fp,bX h' s {A with fp:=fp,fs:=fl,told:=r,done:=fl.isEmpty}->aR fp=aR A.fp->aF [A.m] h h'->K ax h'):
  Cl 181 [aX A.m,ae (r:Int)] h K:=by
 refine F181.spec ?_;simp only[aE,Nat.zero_add,Nat.add_zero];have M0:=H.own;refine aK M0 (by simp[cy]) rfl λh1 M1 O1 z1=> ?_;have len:(fl++[f]).length=fl.length+1:=Z;have rs:rd h1 ⟨A.m,1,none⟩=some (.slice A.fp (fl.length+1) A.fc):=by rw[At.rd M1];simp[cy]
 refine bj rs (bj rs ?_);have e1:ai (((fl.length+1:Nat):Int)-1)=(fl.length:Int):=by rw[wrap_i64 Y Y];omega
 have W:=H.win;have W1:kR h 0 A.fp (fl.length+1) A.fc (fl.map (λf=>aX f.b)++[aX f.b]):=by simpa using W
 have cap:=W1.cap;rw[e1];refine⟨Y,Y,?_⟩;refine aK M1 (by simp[cy]) rfl λh2 M2 O2 z2=> ?_;refine bj (p:=if A.fc=0 then A.fp else Option.map (λa=>Addr.add a (0*1)) A.fp) (l:=fl.length) (c:=A.fc) (by rw[At.rd M2];simp[cy]) ?_;refine aK M2 (by simp[cy]) rfl λh3 M3 O3 z3=> ?_;have O:aF [A.m] h h3:=(O1.trans O2 λb hb _=>hb).trans O3 λb hb _=>hb
 have ep:(if A.fc=0 then A.fp else Option.map (λa=>Addr.add a (0*1)) A.fp)=A.fp:=by
  split
  ·rfl
  ·cases A.fp with
   |none=>rfl
   |some a=>simp[Addr.add]
 have Wp:=W1.pop;have sp:=H.sep;simp only[MA.bl,List.map_append,List.map_cons,List.map_nil,List.nodup_cons,List.mem_append,List.nodup_append,List.mem_singleton,not_or]at sp;refine hK h3 A.fp ⟨?_,?_,λg hg=> ?_,?_⟩ rfl O
 ·have e:((((cy s {A with fs:=fl++[f]}).set 2 (ae (r:Int))).set 1 (.slice (if A.fc=0 then A.fp else Option.map (λa=>Addr.add a (0*1)) A.fp) (Int.toNat (fl.length:Int)-0) (A.fc-0))).set 3 (aw ((fl.length:Int)==(0:Int))))=cy s {A with fs:=fl,told:=r,done:=fl.isEmpty}:=by
   rw[ep];have:((fl.length:Int)==(0:Int))=fl.isEmpty:=by cases fl<;>simp;omega
   simp[cy,this]
  rw[<-e];exact M3
 ·rw[ep]at Wp
  exact Wp.only O λb hb hm=>by simp only[List.mem_singleton]at hm;subst hm;exact sp.1.1 hb
 ·refine(H.frm g (by simp[hg])).only O λhm=> ?_;simp only[List.mem_singleton]at hm;exact sp.1.2.1 (List.mem_map.2 ⟨g,hg,hm⟩)
 ·show(A.m::(aR A.fp++fl.map (·.b))).Nodup;simp only[List.nodup_cons,List.mem_append,List.nodup_append,not_or];exact⟨⟨sp.1.1,sp.1.2.1⟩,sp.2.1,sp.2.2.1.1,λa ha b hb=>sp.2.2.2 a ha b (.inl hb)⟩
end
section
def EB:bW X 72=some cJ.go:=by kernel_rfl
def Ee:bW X 73=some cJ.go:=by kernel_rfl
def ch(n:Nat)(N:aj)(l:Nat)(side:Bool)(a:Nat):Nat:=if lvl n N a=l then(if side then high N a else low N a)else a
section
variable {n:Nat}{f:Nat->Nat}{N N':aj}{a l:Nat}{side:Bool}
def fO(H:ey n N)(ha:isN N a)(hl:l<=lvl n N a)(hn:l<n):isN N (ch n N l side a)/\l+1<=lvl n N (ch n N l side a):=by
 unfold ch;by_cases e:lvl n N a=l
 ·rw[if_pos e]
  have h2:2<=a:=by apply Classical.byContradiction;intro h;have:=ll (n:=n) (N:=N) (a:=a) Y;omega
  obtain⟨h3,h4,h5,-,h6,h7⟩:=H.at ha h2;cases side with
  |true=>exact⟨h5,by rw[if_pos rfl];omega⟩
  |false=>exact⟨h4,by rw[if_neg Z];omega⟩
 ·rw[if_neg e];exact⟨ha,Y⟩
def xD(H:ey n N)(ha:isN N a)(hn:l<n)(x:Nat):sm n f N a x=if x.testBit (f l)then sm n f N (ch n N l true a) x else sm n f N (ch n N l false a) x:=by
 unfold ch;by_cases e:lvl n N a=l
 ·have h2:2<=a:=by
   apply Classical.byContradiction;intro h;have:=ll (n:=n) (N:=N) (a:=a) Y;omega
  rw[if_pos e,if_pos e,lr H ha h2,e]
  rfl
 ·rw[if_neg e,if_neg e];simp
def Ex.ch(E:Ex N N')(ha:Ev.isN N a):ch n N' l side a=ch n N l side a:=by unfold Ev.ch;rw[E.lvl ha,E.low ha,E.high ha]
end
section
variable {h:aA}{s:Nat}{L:List Nat}{X:SX}
end
def CH{p q:Nat}:(if(p:Int)<(q:Int)then(p:Int)else(q:Int))=((min p q:Nat):Int):=by
 by_cases h:(p:Int)<(q:Int)
 ·rw[if_pos h,show min p q=p by omega]
 ·rw[if_neg h,show min p q=q by omega]
end
section
def jS(op:Nat):Prop:=op=2\/op=3\/op=4\/op=5
def gF(n:Nat)(N:aj)(f:Fk):Nat:=min (lvl n N f.a2) (min (lvl n N f.a1) (min (lvl n N f.a0) n))
def kK(n:Nat)(fo:Nat->Nat)(N:aj)(g:Fk)(r:Nat):Prop:=
 (g.fn=225/\iS n fo N g.op (ch n N g.level false g.a0) (ch n N g.level false g.a1) (ch n N g.level false g.a2) r)\/
 (g.fn=273/\iS n fo N g.op (ch n N g.level true g.a0) (ch n N g.level true g.a1) (ch n N g.level true g.a2) r)
def kh(n:Nat)(N:aj)(g f:Fk):Prop:=f.op=g.op/\
 ((g.fn=225/\f.a0=ch n N g.level false g.a0/\f.a1=ch n N g.level false g.a1/\f.a2=ch n N g.level false g.a2)\/
  (g.fn=273/\f.a0=ch n N g.level true g.a0/\f.a1=ch n N g.level true g.a1/\f.a2=ch n N g.level true g.a2))
structure eO(n:Nat)(fo:Nat->Nat)(N:aj)(f:Fk):Prop where
 op:jS f.op
 a:isN N f.a0/\isN N f.a1/\isN N f.a2
 fn:f.fn=180\/((f.fn=225\/f.fn=273)/\f.level=gF n N f/\f.level<n)
 low:f.fn=273->iS n fo N f.op (ch n N f.level false f.a0) (ch n N f.level false f.a1) (ch n N f.level false f.a2) f.low
 lw:isN N f.low
def eO.lev{n:Nat}{fo:Nat->Nat}{N:aj}{f:Fk}(F:eO n fo N f)(h:f.fn=225\/f.fn=273):f.level<n/\f.level<=lvl n N f.a0/\f.level<=lvl n N f.a1/\f.level<=lvl n N f.a2:=by
 rcases F.fn with e|⟨-,e,hn⟩
 ·omega
 ·unfold gF at e;omega
structure i4 where
 op:Nat
 a0:Nat
 a1:Nat
 a2:Nat
structure fT(n:Nat)(fo:Nat->Nat)(N:aj)(G:i4)(fs:List Fk)(told:Nat):Prop where
 frs: ∀f∈fs,eO n fo N f
 lnk: ∀(i:Nat) (g f:Fk),fs[i]? =some g->fs[i+1]? =some f->kh n N g f
 bot: ∃f,fs[0]? =some f/\f.op=G.op/\f.a0=G.a0/\f.a1=G.a1/\f.a2=G.a2
 top: ∀fl fr,fs=fl++[fr]->fr.fn=180\/kK n fo N fr told
 tld:isN N told
def qw(n:Nat)(N:aj)(f:Fk):Nat:=if f.fn=180 then 4*2^(n-gF n N f)-3 else if f.fn=225 then 4*2^(n-(f.level+1))-1 else 1
def dX(n:Nat)(N:aj)(fs:List Fk):Nat:=(fs.map (qw n N)).sum
def pL(n:Nat)(N:aj)(f:Fk):Nat:=if f.fn=180 then 2^(n-gF n N f)-1 else if f.fn=225 then 2^(n-(f.level+1))else 1
def fu(n:Nat)(N:aj)(fs:List Fk):Nat:=(fs.map (pL n N)).sum
section
variable {n:Nat}{fo:Nat->Nat}{N N':aj}{G:i4}{fs fl:List Fk}{f g fr:Fk}{told r:Nat}
def cZ(H:ey n N){l a:Nat}{side:Bool}(ha:isN N a)(hl:l<=lvl n N a)(hn:l<n):isN N (ch n N l side a):=(fO H ha hl hn).1
def kK.ext(H:ey n N)(E:Ex N N')(F:eO n fo N g)(W:kK n fo N g r):kK n fo N' g r:=by
 obtain⟨a0,a1,a2⟩:=F.a;have lv:=F.lev;rcases W with⟨e,R⟩|⟨e,R⟩
 ·obtain⟨l1,l2,l3,l4⟩:=lv (.inl e);refine .inl ⟨e,?_⟩;rw[E.ch a0,E.ch a1,E.ch a2];exact R.ext H E (cZ H a0 l2 l1) (cZ H a1 l3 l1) (cZ H a2 l4 l1)
 ·obtain⟨l1,l2,l3,l4⟩:=lv (.inr e);refine .inr ⟨e,?_⟩;rw[E.ch a0,E.ch a1,E.ch a2];exact R.ext H E (cZ H a0 l2 l1) (cZ H a1 l3 l1) (cZ H a2 l4 l1)
def kh.ext(E:Ex N N')(F:eO n fo N g)(W:kh n N g f):kh n N' g f:=by obtain⟨a0,a1,a2⟩:=F.a;unfold kh at W ⊢;rw[E.ch a0,E.ch a1,E.ch a2,E.ch a0,E.ch a1,E.ch a2];exact W
def eO.ext(H:ey n N)(E:Ex N N')(F:eO n fo N f):eO n fo N' f:=by
 obtain⟨a0,a1,a2⟩:=F.a;refine⟨F.op,⟨E.isN a0,E.isN a1,E.isN a2⟩,?_,λe=> ?_,E.isN F.lw⟩
 ·unfold gF;rw[E.lvl a0,E.lvl a1,E.lvl a2];exact F.fn
 ·have lv:=F.lev (.inr e);obtain⟨l1,l2,l3,l4⟩:=lv;rw[E.ch a0,E.ch a1,E.ch a2];exact(F.low e).ext H E (cZ H a0 l2 l1) (cZ H a1 l3 l1) (cZ H a2 l4 l1)
def fT.ext(H:ey n N)(E:Ex N N')(R:fT n fo N G fs told):fT n fo N' G fs told:=
 ⟨λf hf=>(R.frs f hf).ext H E,λi g f h1 h2=>(R.lnk i g f h1 h2).ext E (R.frs g (List.mem_of_getElem? h1)),R.bot,λfl fr e=>(R.top fl fr e).imp id λW=>W.ext H E (R.frs fr (by rw[e];simp)),E.isN R.tld⟩
def tI(E:Ex N N')(F:eO n fo N f):gF n N' f=gF n N f:=by obtain⟨a0,a1,a2⟩:=F.a;unfold gF;rw[E.lvl a0,E.lvl a1,E.lvl a2]
def jo(E:Ex N N')(H: ∀f∈fs,eO n fo N f):dX n N' fs=dX n N fs:=by
 unfold dX
 congr 1
 refine List.map_congr_left λf hf=> ?_;unfold qw;rw[tI E (H f hf)]
def kY(E:Ex N N')(H: ∀f∈fs,eO n fo N f):fu n N' fs=fu n N fs:=by
 unfold fu
 congr 1
 refine List.map_congr_left λf hf=> ?_;unfold pL;rw[tI E (H f hf)]
def gq:dX n N (fl++[f])=dX n N fl+qw n N f:=by simp[dX]
def eQ:fu n N (fl++[f])=fu n N fl+pL n N f:=by simp[fu]
def kh.wants(W:kh n N g fr)(R:iS n fo N fr.op fr.a0 fr.a1 fr.a2 r):kK n fo N g r:=by
 obtain⟨e,h|h⟩:=W
 ·obtain⟨e1,e2,e3,e4⟩:=h;rw[e,e2,e3,e4]at R;exact .inl ⟨e1,R⟩
 ·obtain⟨e1,e2,e3,e4⟩:=h;rw[e,e2,e3,e4]at R;exact .inr ⟨e1,R⟩
def fT.pop(R:fT n fo N G (fl++[fr]) told)(hr:iS n fo N fr.op fr.a0 fr.a1 fr.a2 r)(hne:fl≠[]):fT n fo N G fl r:=by
 refine⟨λf hf=>R.frs f (by simp[hf]),λi g f h1 h2=> ?_,?_,λfl' g e=> .inr ?_,hr.is⟩
 ·have l2:=(List.getElem?_eq_some_iff.1 h2).1;refine R.lnk i g f ?_ ?_
  ·rw[List.getElem?_append_left Y];exact h1
  ·rw[List.getElem?_append_left l2];exact h2
 ·obtain⟨f,h1,h2⟩:=R.bot;refine⟨f,?_,h2⟩;rw[List.getElem?_append_left (List.length_pos_iff.2 hne)]at h1;exact h1
 ·subst e;refine(R.lnk fl'.length g fr ?_ ?_).wants hr
  ·simp
  ·simp
def fT.goal(R:fT n fo N G [fr] told)(hr:iS n fo N fr.op fr.a0 fr.a1 fr.a2 r):iS n fo N G.op G.a0 G.a1 G.a2 r:=by obtain⟨f,h1,h2,h3,h4,h5⟩:=R.bot;simp at h1;subst h1;rw[<-h2,<-h3,<-h4,<-h5];exact hr
def fT.push{fr':Fk}(R:fT n fo N G (fl++[fr]) told)(e:fr'.op=fr.op/\fr'.a0=fr.a0/\fr'.a1=fr.a1/\fr'.a2=fr.a2)(F:eO n fo N fr')(W:eO n fo N g)(hl:kh n N fr' g)(hg:g.fn=180):fT n fo N G (fl++[fr']++[g]) told:=by
 refine⟨λf hf=> ?_,λi x f h1 h2=> ?_,?_,λfl' x e'=> .inl ?_,R.tld⟩
 ·simp only[List.mem_append,List.mem_singleton]at hf;rcases hf with(hf|hf)|hf
  ·exact R.frs f (by simp[hf])
  ·subst hf;exact F
  ·subst hf;exact W
 ·have l2:=(List.getElem?_eq_some_iff.1 h2).1;simp only[List.length_append,List.length_singleton]at l2;by_cases hi:i+1<fl.length
  ·rw[List.append_assoc,List.getElem?_append_left Y]at h1;rw[List.append_assoc,List.getElem?_append_left hi]at h2;refine R.lnk i x f ?_ ?_
   ·rw[List.getElem?_append_left Y];exact h1
   ·rw[List.getElem?_append_left hi];exact h2
  ·by_cases hi2:i+1=fl.length
   ·rw[List.append_assoc,List.getElem?_append_left Y]at h1
    have h2':f=fr':=by rw[List.append_assoc,List.getElem?_append_right Y,hi2]at h2;simp at h2;exact h2.symm
    subst h2';have L:=R.lnk i x fr (by rw[List.getElem?_append_left Y];exact h1) (by rw[hi2];simp);unfold kh at L ⊢;rw[e.1,e.2.1,e.2.2.1,e.2.2.2];exact L
   ·have hi3:i=fl.length:=Y;subst hi3
    have e1:x=fr':=by rw[List.append_assoc,List.getElem?_append_right (Nat.le_refl _)]at h1;simp at h1;exact h1.symm
    have e2:f=g:=by rw[List.append_assoc,List.getElem?_append_right Y]at h2;simp at h2;exact h2.symm
    subst e1 e2;exact hl
 ·obtain⟨f,h1,h2,h3,h4,h5⟩:=R.bot;by_cases hz:fl=[]
  ·subst hz;simp at h1;subst h1;exact⟨fr',Z,by rw[e.1];exact h2,by rw[e.2.1];exact h3,by rw[e.2.2.1];exact h4,by rw[e.2.2.2];exact h5⟩
  ·refine⟨f,?_,h2,h3,h4,h5⟩;rw[List.getElem?_append_left (List.length_pos_iff.2 hz)]at h1;rw[List.append_assoc,List.getElem?_append_left (List.length_pos_iff.2 hz)];exact h1
 ·have:=List.append_inj' e' rfl;have:=this.2;simp at this;rw[<-this];exact hg
def jy(k:Nat):1<=2^k:=Nat.two_pow_pos k
def im(h:f.fn=180):qw n N f=4*2^(n-gF n N f)-3/\pL n N f=2^(n-gF n N f)-1:=by unfold qw pL;rw[if_pos h,if_pos h];exact⟨rfl,rfl⟩
def od(h:f.fn=225):qw n N f=4*2^(n-(f.level+1))-1/\pL n N f=2^(n-(f.level+1)):=by unfold qw pL;rw[if_neg Y,if_pos h,if_neg Y,if_pos h];exact⟨rfl,rfl⟩
def sB(h:f.fn=273):qw n N f=1/\pL n N f=1:=by unfold qw pL;rw[if_neg Y,if_neg Y,if_neg Y,if_neg Y];exact⟨rfl,rfl⟩
def v7(hl:gF n N fr<n)(hg:g.fn=180)(hgl:gF n N fr+1<=gF n N g){fr':Fk}(h0:fr.fn=180)(h1:fr'.fn=225)(h2:fr'.level=gF n N fr):
  qw n N fr'+qw n N g+1<=qw n N fr/\pL n N fr'+pL n N g<=pL n N fr:=by
 rw[(im h0).1,(im h0).2,(im hg).1,(im hg).2,(od h1).1,(od h1).2,h2]
 have e:2^(n-gF n N fr)=2*2^(n-(gF n N fr+1)):=by rw[show n-gF n N fr=(n-(gF n N fr+1))+1 by omega,Nat.pow_succ];omega
 have le:2^(n-gF n N g)<=2^(n-(gF n N fr+1)):=Nat.pow_le_pow_right (by decide) Y;have p:=jy (n-gF n N g);omega
def yc(hl:fr.level<n)(hg:g.fn=180)(hgl:fr.level+1<=gF n N g){fr':Fk}(h0:fr.fn=225)(h1:fr'.fn=273):
  qw n N fr'+qw n N g+1<=qw n N fr/\pL n N fr'+pL n N g<=pL n N fr:=by
 rw[(od h0).1,(od h0).2,(im hg).1,(im hg).2,(sB h1).1,(sB h1).2];have le:2^(n-gF n N g)<=2^(n-(fr.level+1)):=Nat.pow_le_pow_right (by decide) Y;have p:=jy (n-gF n N g);omega
def tn:1<=qw n N f:=by
 unfold qw;have p:=jy (n-gF n N f);have q:=jy (n-(f.level+1));split
 ·omega
 ·split<;>omega
end
end
section
def vh(op a b c r:Nat):Prop:= ∀n f N,ey n N->isN N a->isN N b->isN N c->iS n f N op a b c r
def xC{n:Nat}{f:Nat->Nat}{N:aj}{op a b c:Nat}(H:ey n N)(ha:isN N a)(h: ∀x,false=lu op (sm n f N a x) (sm n f N b x) (sm n f N c x)):iS n f N op a b c 0:=
 ⟨.inl Y,λk h1 _ _=>by rw[ll (a:=0) Y];have:=rX H ha;omega,λx=>by rw[bH Y];exact h x⟩
def rE{n:Nat}{f:Nat->Nat}{N:aj}{op a b c:Nat}(H:ey n N)(ha:isN N a)(h: ∀x,true=lu op (sm n f N a x) (sm n f N b x) (sm n f N c x)):iS n f N op a b c 1:=
 ⟨.inl Y,λk h1 _ _=>by rw[ll (a:=1) Y];have:=rX H ha;omega,λx=>by rw[bH Y];exact h x⟩
section
variable {h:aA}{s m:Nat}{f:Fk}{K:KK}
def bL(A:At h f.b (gP m f)):rd h (ah f.b)=some (aX m)/\rd h ⟨f.b,1,none⟩=some (.int .u8 (f.op:Int))/\rd h ⟨f.b,3,none⟩=some (ae (f.a0:Int))/\rd h ⟨f.b,4,none⟩=some (ae (f.a1:Int))/\rd h ⟨f.b,5,none⟩=some (ae (f.a2:Int))/\rd h ⟨f.b,6,none⟩=some (ac (f.level:Int))/\rd h ⟨f.b,7,none⟩=some (ae (f.low:Int))/\rd h ⟨f.b,8,none⟩=some (BO f.fn f.b):=
 ⟨by rw[At.rd A];rfl,by rw[At.rd A];rfl,by rw[At.rd A];rfl,by rw[At.rd A];rfl,by rw[At.rd A];rfl,by rw[At.rd A];rfl,by rw[At.rd A];rfl,by rw[At.rd A];rfl⟩
def db{A:MA}(M:At h A.m (cy s A)):rd h (ah A.m)=some (aX s)/\rd h ⟨A.m,1,none⟩=some (.slice A.fp A.fs.length A.fc)/\rd h ⟨A.m,2,none⟩=some (ae (A.told:Int))/\rd h ⟨A.m,3,none⟩=some (aw A.done)/\rd h ⟨A.m,4,none⟩=some (ac (A.e:Int)):=
 ⟨by rw[At.rd M];rfl,by rw[At.rd M];rfl,by rw[At.rd M];rfl,by rw[At.rd M];rfl,by rw[At.rd M];rfl⟩
def ya(F:At h f.b (gP m f))(hop:jS f.op)(hT: ∀r:Nat,vh f.op f.a0 f.a1 f.a2 r->K (.tuple #[ae (r:Int),au]) h)
  (hF: ∀r:Nat,(f.op=3->f.a0≠0)->K (.tuple #[ae (r:Int),aq]) h):Cl 223 [aX f.b] h K:=by
 obtain⟨-,r1,r3,r4,r5,-⟩:=bL F;refine F223.spec ?_;simp only[aE,Nat.zero_add,Nat.add_zero];have r3':rd h ⟨f.b,3+Int.toNat (0:Int)*1,none⟩=some (ae (f.a0:Int)):=r3;have r4':rd h ⟨f.b,3+Int.toNat (1:Int)*1,none⟩=some (ae (f.a1:Int)):=r4;refine⟨Y,Y,aB r3' ⟨Y,Y,aB r4' (aB r1 ?_)⟩⟩
 have tail: ∀z:Nat,(z=1/\f.op=2)\/(z=0/\f.op≠2)->F223.wk5 (ah f.b) (f.a0:Int) (f.a1:Int) (z:Int) h K:=by
  intro z hz;unfold F223.wk5;simp only[aE,Nat.zero_add,Nat.add_zero];refine aB r1 ?_;rw[show(5:Int)=((5:Nat):Int)from rfl,dP];refine aH (λe=> ?_) λe5=> ?_
  ·have e:=of_decide_eq_true e;exact hF 0 λh3=>Y
  have e5:=of_decide_eq_false e5;have hop':f.op=2\/f.op=3\/f.op=4:=by rcases hop with h|h|h|h<;>omega
  rw[dP];refine aH (λe=> ?_) λe0=> ?_
  ·have e:=of_decide_eq_true e;refine hT _ λn fo N H ha hb hc=>⟨hb,λk _ h2 _=>h2,λx=> ?_⟩;rcases hz with⟨h1,h2⟩|⟨h1,h2⟩
   ·rw[h2,e,h1,bH (a:=1) Y];simp[lu]
   ·rcases hop' with h|h|h
    ·omega
    ·rw[h,e,h1,bH (a:=0) Y];simp[lu]
    ·rw[h,e,h1,bH (a:=0) Y];simp[lu]
  have e0:=of_decide_eq_false e0
  have last:aC ((f.a1:Int)==(z:Int)) (K (.tuple #[ae (f.a0:Int),au]) h) (K (.tuple #[ae (0:Int),aq]) h):=by
   rw[dP];refine aH (λe=> ?_) λe=> ?_
   ·have e:=of_decide_eq_true e;refine hT _ λn fo N H ha hb hc=>⟨ha,λk h2 _ _=>h2,λx=> ?_⟩;rcases hz with⟨h1,h2⟩|⟨h1,h2⟩
    ·rw[h2,e,h1,bH (a:=1) Y];simp[lu]
    ·rcases hop' with h|h|h
     ·omega
     ·rw[h,e,h1,bH (a:=0) Y];simp[lu]
     ·rw[h,e,h1,bH (a:=0) Y];simp[lu]
   ·exact hF 0 λh3=>Y
  rw[dP];refine aH (λe=>aB r1 ?_) λe=>last;have e:=of_decide_eq_true e;rw[show((f.op:Int) !=(4:Int))= !decide (f.op=4) by rw[show(4:Int)=((4:Nat):Int)from rfl,<-dP];rfl];refine aH (λe4=> ?_) λe4=>last;have e4:f.op≠4:=by simpa using e4
  refine hT _ λn fo N H ha hb hc=>⟨hb,λk _ h2 _=>h2,λx=> ?_⟩;rw[e];rcases hop' with h|h|h
  ·rw[h];simp[lu]
  ·rw[h];simp[lu]
  ·omega
 rw[show(2:Int)=((2:Nat):Int)from rfl,dP];refine aH (λe=> ?_) λe=> ?_
 ·exact tail 1 (.inl ⟨rfl,of_decide_eq_true e⟩)
 ·exact tail 0 (.inr ⟨rfl,of_decide_eq_false e⟩)
def sV{a:Nat}:decide ((a:Int)<=(1:Int))=decide (a<=1):=by
 by_cases h:a<=1
 ·rw[decide_eq_true h,decide_eq_true Y]
 ·rw[decide_eq_false h,decide_eq_false Y]
def vb{n:Nat}{f:Nat->Nat}{N:aj}{a x:Nat}(h:a<=1):sm n f N a x=decide (a=1):=by rw[bH Y];by_cases e:a=1<;>simp[e]
def yf(F:At h f.b (gP m f))(hop:jS f.op)(h32:f.a0<2^32/\f.a1<2^32)(h3:f.op=3->f.a0≠0)(hT: ∀r:Nat,vh f.op f.a0 f.a1 f.a2 r->K (.tuple #[ae (r:Int),au]) h)
  (hF: ∀r:Nat,(2<=f.a0\/2<=f.a1\/2<=f.a2)->K (.tuple #[ae (r:Int),aq]) h):Cl 224 [aX f.b] h K:=by
 obtain⟨-,r1,r3,r4,r5,-⟩:=bL F;refine F224.spec ?_;simp only[aE,Nat.zero_add,Nat.add_zero];have r3':rd h ⟨f.b,3+Int.toNat (0:Int)*1,none⟩=some (ae (f.a0:Int)):=r3;have r4':rd h ⟨f.b,3+Int.toNat (1:Int)*1,none⟩=some (ae (f.a1:Int)):=r4;have r5':rd h ⟨f.b,3+Int.toNat (2:Int)*1,none⟩=some (ae (f.a2:Int)):=r5;refine⟨Y,Y,aB r3' ⟨Y,Y,aB r4' ⟨Y,Y,aB r5' (aB r1 ?_)⟩⟩⟩;rw[wZ h32.1 h32.2,Ba h32.1 h32.2,sV,sV];simp only[show(2:Int)=((2:Nat):Int)from rfl,show(3:Int)=((3:Nat):Int)from rfl,show(4:Int)=((4:Nat):Int)from rfl,show(1:Int)=((1:Nat):Int)from rfl,show(0:Int)=((0:Nat):Int)from rfl,dP]
 have and0:f.op=2->(f.a0=0\/f.a1=0)->K (.tuple #[ae ((f.a0&&&f.a1:Nat):Int),au]) h:=λe he=>by
  have:f.a0&&&f.a1=0:=by rcases he with h|h<;>rw[h]<;>simp
  rw[this];refine hT 0 λn fo N H ha hb hc=>xC H ha λx=> ?_;rw[e];rcases he with h|h
  ·rw[h,bH (a:=0) Y];simp[lu]
  ·rw[h,bH (a:=0) Y];simp[lu]
 refine aH (λe=> ?_) λe2=> ?_
 ·have e:=of_decide_eq_true e;have no0:f.a0≠0->aC (decide (f.a0=0)) (K (.tuple #[ae ((f.a0&&&f.a1:Nat):Int),au]) h) (K (.tuple #[ae ((f.a0&&&f.a1:Nat):Int),aw (decide (f.a1=0))]) h)->True:=λ_ _=>trivial
  have rest:(2<=f.a0\/2<=f.a1)->aC (decide (f.a0=0)) (K (.tuple #[ae ((f.a0&&&f.a1:Nat):Int),au]) h) (K (.tuple #[ae ((f.a0&&&f.a1:Nat):Int),aw (decide (f.a1=0))]) h):=λh2=>by
   refine aH (λe0=>and0 e (.inl (of_decide_eq_true e0))) λe0=> ?_;by_cases h1:f.a1=0
   ·rw[decide_eq_true h1];exact and0 e (.inr h1)
   ·rw[decide_eq_false h1];exact hF _ (h2.imp id .inl)
  refine aH (λe0=> ?_) λe0=>rest (.inl (by have:=of_decide_eq_false e0;omega));have e0:=of_decide_eq_true e0;refine aH (λe1=> ?_) λe1=>rest (.inr (by have:=of_decide_eq_false e1;omega));have e1:=of_decide_eq_true e1;by_cases hz:f.a0=0\/f.a1=0
  ·exact and0 e hz
  ·have q0:f.a0=1:=Y;have q1:f.a1=1:=Y;rw[show f.a0&&&f.a1=1 by rw[q0,q1];rfl];refine hT 1 λn fo N H ha hb hc=>rE H ha λx=> ?_;rw[e,q0,q1,bH (a:=1) Y];simp[lu]
 have e2:=of_decide_eq_false e2;refine aH (λe=> ?_) λe3=> ?_
 ·have e:=of_decide_eq_true e
  have or1:(f.a0=1\/f.a1=1)->K (.tuple #[ae ((1:Nat):Int),au]) h:=λhe=>by
   refine hT 1 λn fo N H ha hb hc=>rE H ha λx=> ?_;rw[e];rcases he with h|h
   ·rw[h,bH (a:=1) Y];simp[lu]
   ·rw[h,bH (a:=1) Y];simp[lu]
  refine aH (λe0=>or1 (.inl (of_decide_eq_true e0))) λe0=> ?_;by_cases h1:f.a1=1
  ·rw[decide_eq_true h1];exact or1 (.inr h1)
  ·rw[decide_eq_false h1];refine hF 1 (.inl ?_);have:=of_decide_eq_false e0;have:=h3 e;omega
 have e3:=of_decide_eq_false e3;refine aH (λe=> ?_) λe4=> ?_
 ·have e:=of_decide_eq_true e;refine aH (λe0=> ?_) λe0=> ?_
  ·have e0:=of_decide_eq_true e0;rw[e0,Nat.xor_self];refine hT 0 λn fo N H ha hb hc=>xC H ha λx=> ?_;rw[e,e0];simp[lu]
  ·have e0:=of_decide_eq_false e0;refine aH (λe1=> ?_) λe1=>hF _ (.inl (by have:=of_decide_eq_false e1;omega));have e1:=of_decide_eq_true e1;by_cases h1:f.a1<=1
   ·rw[decide_eq_true h1]
    have q:f.a0^^^f.a1=1:=by have:(f.a0=0/\f.a1=1)\/(f.a0=1/\f.a1=0):=Y;rcases this with⟨h,h'⟩|⟨h,h'⟩<;>rw[h,h']<;>rfl
    rw[q];refine hT 1 λn fo N H ha hb hc=>rE H ha λx=> ?_;rw[e,vb e1,vb h1];have:(f.a0=0/\f.a1=1)\/(f.a0=1/\f.a1=0):=Y;rcases this with⟨h,h'⟩|⟨h,h'⟩<;>rw[h,h']<;>simp[lu]
   ·rw[decide_eq_false h1];exact hF _ (.inr (.inl Y))
 have e4:=of_decide_eq_false e4;have e5:f.op=5:=by rcases hop with h|h|h|h<;>omega
 refine aH (λe=> ?_) λe1=>aH (λe=> ?_) λe12=>aH (λe=> ?_) λe0=> ?_
 ·have e:=of_decide_eq_true e;refine hT _ λn fo N H ha hb hc=>⟨hb,λk _ h2 _=>h2,λx=> ?_⟩;rw[e5,e,bH (a:=1) Y];simp[lu]
 ·have e:=of_decide_eq_true e;refine hT _ λn fo N H ha hb hc=>⟨hb,λk _ h2 _=>h2,λx=> ?_⟩;rw[e5,e];simp[lu]
 ·have e:=of_decide_eq_true e;refine hT _ λn fo N H ha hb hc=>⟨hc,λk _ _ h2=>h2,λx=> ?_⟩;rw[e5,e,bH (a:=0) Y];simp[lu]
 ·exact hF 0 (.inl (by have:=of_decide_eq_false e1;have:=of_decide_eq_false e0;omega))
end
end
section
def qo(side:Bool)(s:Nat):Value:= .func (.func (if side then 73 else 72)) #[ag (ah s)] #[]
section
variable {h:aA}{s m:Nat}{f:Fk}{K:KK}{L:List Nat}{X:SX}
set_option maxRecDepth 100000 in
def tO{A:MA}{side:Bool}(H:cG h s L X)(F:At h f.b (gP A.m f))(M:At h A.m (cy s A))(ha:isN X.N f.a0)(hb:isN X.N f.a1)(hc:isN X.N f.a2)
  (hK: ∀h',aF [] h h'->K (.agg #[ae (ch X.n X.N f.level side f.a0:Int),ae (ch X.n X.N f.level side f.a1:Int),ae (ch X.n X.N f.level side f.a2:Int)]) h'):
  Cl 226 [aX f.b,qo side s] h K:=by
 refine F226.spec _ _ h K ?_;refine aM λh1 A1 O1 z1=> ?_;simp only[aE,Nat.zero_add,Nat.add_zero];have F1:=F.only O1 Z;obtain⟨-,-,r3,r4,r5,-⟩:=bL F1;refine aB r3 (aB r4 (aB r5 ?_));refine aM λh2 A2 O2 z2=> ?_;refine aK A2 Z rfl λh3 A3 O3 z3=>aK A3 Z rfl λh4 A4 O4 z4=>aK A4 Z rfl λh5 A5 O5 z5=> ?_;have A5:At h5 h1.size [ae (f.a0:Int),ae (f.a1:Int),ae (f.a2:Int)]:=A5;have r: ∀k,rd h5 ⟨h1.size,k,none⟩=([ae (f.a0:Int),ae (f.a1:Int),ae (f.a2:Int)]:List Value)[k]? :=λk=>At.rd A5 k;refine aB (by rw[r];rfl) (aB (by rw[r];rfl) (aB (by rw[r];rfl) ?_));unfold F226.wk3;have O15:aF [h1.size] h1 h5:=((O2.mono (T:=[h1.size]) Z).trans O3 λb hb _=>hb).trans O4 (λb hb _=>hb)|>.trans O5 λb hb _=>hb;have B5:At h5 h.size [ae 0,ae 0,ae 0]:=A1.only O15 (by simp;omega);have O05:aF [] h h5:=O1.trans O15 (by intro b hb hl;simp at hb;omega)
 have step: ∀(bk:Addr->Value->Addr->Addr->Int->Int->Int->Int->aA->Prop) (h':aA) (i y:Nat) (l':List Value),i<3->(if i=0 then f.a0 else if i=1 then f.a1 else f.a2)=y->isN X.N y->l'.length=3->(l'[i]? =some (ae (y:Int)))->
   At h' h.size [ae 0,ae 0,ae 0]->At h' h1.size l'->aF [] h h'->
   (∀h'',At h'' h.size [ae 0,ae 0,ae 0]->At h'' h1.size (l'.set i (ae (ch X.n X.N f.level side y:Int)))->aF [] h h''->bk (ah f.b) (qo side s) (ah h.size) (ah h1.size) (f.a0:Int) (f.a1:Int) (f.a2:Int) ((i+1:Nat):Int) h'')->
   F226.JL3 bk (ah f.b) (qo side s) (ah h.size) (ah h1.size) (f.a0:Int) (f.a1:Int) (f.a2:Int) (i:Int) h' K:=by
  intro bk h' i y l' hi hy hN hl' hy' B A O hB;unfold F226.JL3;have F':=F.only O Z;have M':=M.only O Z;have S':=H.only0 O;obtain⟨r0,-,-,-,-,r6,-⟩:=bL F';have m0:=(db M').1;rw[decide_eq_true Y,aG];refine⟨Y,Y,aB (n:=(y:Int)) ?_ ?_⟩
  ·rw[Int.toNat_natCast];subst hy;have:i=0\/i=1\/i=2:=Y;rcases this with e|e|e<;>subst e<;>rfl
  simp only[aE,Nat.zero_add,Nat.add_zero];refine aJ r0 ?_;rw[aL];simp only[aE,Nat.zero_add,Nat.add_zero];refine aJ m0 (aB r6 (dj S' hN (aB rfl ⟨by trivial,by trivial,by trivial,aB r6 ⟨by trivial,?_⟩⟩)));have ew:ai ((i:Int)+1)=((i+1:Nat):Int):=by rw[wrap_i64 Y Y];omega
  rw[ew,dP];refine aH (λe=> ?_) λe=> ?_
  ·have e:=of_decide_eq_true e;have ech:ch X.n X.N f.level side y=if side then high X.N y else low X.N y:=by unfold ch;rw[if_pos e]
   have wr: ∀z:Nat,z=ch X.n X.N f.level side y->aI .u32 (some (ae (z:Int))) λn12=>0<=(i:Int)/\(i:Int)<(Nat.cast 3:Int)/\aP h' ⟨h1.size,Int.toNat (i:Int)*1,none⟩ (ae n12) λh13=>bk (ah f.b) (qo side s) (ah h.size) (ah h1.size) (f.a0:Int) (f.a1:Int) (f.a2:Int) ((i+1:Nat):Int) h13:=λz hz=>by refine aB rfl ⟨Y,Y,?_⟩;rw[Int.toNat_natCast,Nat.mul_one,hz];exact aK A Y rfl λh'' A' O' z'=>hB h'' (B.only O' (by simp;omega)) A' (O.trans O' (by intro x hx hlt;simp at hx;omega))
   unfold qo at wr ⊢;cases side with
   |true=>exact bz Ee (fW S' hN (wr _ (by rw[ech];rfl)))
   |false=>exact bz EB (iv S' hN (wr _ (by rw[ech];rfl)))
  ·have e:=of_decide_eq_false e;have ech:ch X.n X.N f.level side y=y:=by unfold ch;rw[if_neg e]
   refine hB h' B ?_ O;rw[ech]
   have:l'.set i (ae (y:Int))=l':=by
    apply List.ext_getElem?;intro j;rw[List.getElem?_set];by_cases hij:i=j
    ·subst hij;rw[if_pos rfl,if_pos Y,hy']
    ·rw[if_neg hij]
   rw[this];exact A
 refine⟨4,?_⟩;rw[F226.sL3];refine step _ h5 0 f.a0 _ Y rfl ha rfl rfl B5 A5 O05 λh6 B6 A6 O6=> ?_;rw[F226.sL3];refine step _ h6 1 f.a1 _ Y rfl hb rfl rfl B6 A6 O6 λh7 B7 A7 O7=> ?_;rw[F226.sL3];refine step _ h7 2 f.a2 _ Y rfl hc rfl rfl B7 A7 O7 λh8 B8 A8 O8=> ?_;rw[F226.sL3];unfold F226.JL3;rw[decide_eq_false Y,aD];simp only[aE,Nat.zero_add,Nat.add_zero];have A8:At h8 h1.size [ae (ch X.n X.N f.level side f.a0:Int),ae (ch X.n X.N f.level side f.a1:Int),ae (ch X.n X.N f.level side f.a2:Int)]:=A8;have r8: ∀k,rd h8 ⟨h1.size,k,none⟩=([ae (ch X.n X.N f.level side f.a0:Int),ae (ch X.n X.N f.level side f.a1:Int),ae (ch X.n X.N f.level side f.a2:Int)]:List Value)[k]? :=λk=>At.rd A8 k;refine aB (by rw[r8];rfl) (aB (by rw[r8];rfl) (aB (by rw[r8];rfl) ?_));refine aK B8 Z rfl λh9 A9 O9 z9=>aK A9 Z rfl λh10 A10 O10 z10=>aK A10 Z rfl λh11 A11 O11 z11=> ?_;have A11:At h11 h.size [ae (ch X.n X.N f.level side f.a0:Int),ae (ch X.n X.N f.level side f.a1:Int),ae (ch X.n X.N f.level side f.a2:Int)]:=A11;have r11: ∀k,rd h11 ⟨h.size,k,none⟩=([ae (ch X.n X.N f.level side f.a0:Int),ae (ch X.n X.N f.level side f.a1:Int),ae (ch X.n X.N f.level side f.a2:Int)]:List Value)[k]? :=λk=>At.rd A11 k;refine aB (by rw[r11];rfl) (aB (by rw[r11];rfl) (aB (by rw[r11];rfl) ?_));exact hK h11 (((O8.trans O9 (by intro b hb hl;simp at hb;omega)).trans O10 (by intro b hb hl;simp at hb;omega)).trans O11 (by intro b hb hl;simp at hb;omega))
end
end
end Go.Proofs.YtnofenejoebkhaaGreat.Ev
