/- PART 7 OF WHAT THE LAW EngineStands STANDS ON: LiF5, RunA5, RunB5, TskG5, RunC5, RunD5, RunE5, RunF5, RunG5, RunH5, RunI5, RunJ5, RunK5, RunL5, CchF5, CchG5, CchA5, CchB5, SftF5, SwpF5, SwpC5, SwpP5, SwpA5, SwpB5, SwpD5, SwpE5, SwpG5, SwpH5, SwpI5, SwpJ5. Conditions: none but those that each lemma states. -/
import Derived.Test.YtnofenejoebkhaaGreatG6
namespace Go.Proofs.YtnofenejoebkhaaGreat.Ev
open Go
set_option linter.defProp false
section
namespace F12
def T:bj:=⟨[(11,[1,5,7,8,9]),(18,[1,5,7,8]),(19,[1,5,7,8,14]),(24,[1,5,7,8,14,15]),(31,[1,5,7,8,14,19]),(36,[5])],[(17,[[(0,[]),(1,[]),(2,[]),(3,[]),(4,[]),(5,[1,3]),(6,[]),(7,[])]]),(34,[[(0,[]),(1,[]),(2,[]),(3,[]),(4,[]),(5,[]),(6,[]),(7,[]),(8,[]),(9,[]),(10,[]),(12,[]),(13,[]),(14,[]),(15,[]),(11,[12,13,14,15]),(16,[]),(17,[]),(18,[])]])]⟩
noncomputable def body:Code:=(Tryz.f12.body).getD .skip
noncomputable def en(S:bD)(p:List Nat)(κ:XK):Fr->aH->Prop:=E Tryz.prog X T S (sub body p) κ
noncomputable def ln(S:bD)(p:List Nat)(κ:XK)(n:Nat):Fr->aH->Prop:=jw S (E Tryz.prog X T S (sub body p)) (df T (sub body p)) κ n
def fn(K:KK):XK:=fin Tryz.prog Tryz.f12.results.toList K
noncomputable def c0(S:bD)(K:KK):XK:=jS S (df T (sub body [1,1,1,1,1,1,1,1])) (en S [1,1,1,1,1,1,1,1] (fn K)) (fn K)
noncomputable def c1(S:bD)(K:KK):XK:=cA 0 (c0 S K)
noncomputable def c2(S:bD)(n11:Nat)(K:KK):XK:=gh S (df T (sub body [1,1,1,1,1,1,1,0,1,0,0])) (ln S [1,1,1,1,1,1,1,0,1,0,0] (c1 S K) n11) (c1 S K)
noncomputable def c3(S:bD)(K:KK):XK:=jS S (df T (sub body [1,1,1,1,1,1,1,1,1])) (en S [1,1,1,1,1,1,1,1,1] (fn K)) (fn K)
noncomputable def c4(S:bD)(K:KK):XK:=cA 2 (c3 S K)
noncomputable def c5(S:bD)(n19:Nat)(K:KK):XK:=gh S (df T (sub body [1,1,1,1,1,1,1,1,0,1,0,0])) (ln S [1,1,1,1,1,1,1,1,0,1,0,0] (c4 S K) n19) (c4 S K)
noncomputable def c6(S:bD)(n19:Nat)(K:KK):XK:=jS S (df T (sub body [1,1,1,1,1,1,1,1,0,1,0,0,1,1])) (en S [1,1,1,1,1,1,1,1,0,1,0,0,1,1] (c5 S n19 K)) (c5 S n19 K)
noncomputable def c7(S:bD)(n19:Nat)(K:KK):XK:=cA 3 (c6 S n19 K)
noncomputable def c8(S:bD)(n19:Nat)(K:KK):XK:=cA 4 (c7 S n19 K)
noncomputable def c9(S:bD)(n19:Nat)(n31:Nat)(K:KK):XK:=gh S (df T (sub body [1,1,1,1,1,1,1,1,0,1,0,0,1,0,0,1,1,1,1,1,1,1,0,0])) (ln S [1,1,1,1,1,1,1,1,0,1,0,0,1,0,0,1,1,1,1,1,1,1,0,0] (c8 S n19 K) n31) (c8 S n19 K)
def f11(b:az)(a c:Nat)(f:az)(i g:Addr)(l:Int):Fr:=[(1,(.slice b a c)),(5,(.pointer f)),(7,(au i)),(8,(au g)),(9,(al l))]
def f18(b:az)(a c:Nat)(f:az)(i g:Addr):Fr:=[(1,(.slice b a c)),(5,(.pointer f)),(7,(au i)),(8,(au g))]
def f19(b:az)(a c:Nat)(f:az)(i g:Addr)(d:Int):Fr:=[(1,(.slice b a c)),(5,(.pointer f)),(7,(au i)),(8,(au g)),(14,(al d))]
def f24(b:az)(a c:Nat)(f:az)(i g:Addr)(d:Int)(o:Addr):Fr:=[(1,(.slice b a c)),(5,(.pointer f)),(7,(au i)),(8,(au g)),(14,(al d)),(15,(au o))]
def f31(b:az)(a c:Nat)(f:az)(i g:Addr)(d j:Int):Fr:=[(1,(.slice b a c)),(5,(.pointer f)),(7,(au i)),(8,(au g)),(14,(al d)),(19,(al j))]
def f36(f:az):Fr:=[(5,(.pointer f))]
def J0(k11:(az)->Nat->Nat->(az)->Addr->Addr->Int->aH->Prop)(s:az)(q r:Nat)(b:az)(a c:Nat)(h:aH)(K:KK):Prop:=
 Cl 40 [] h (λv1 h2=>bI (some v1) (λb3=>aK (!b3) (K aB h2) (aK (decide ((Nat.cast q:Int)>(10:Int))) (K aC h2) (aK (decide ((Nat.cast a:Int)>(6:Int))) (K aC h2) (Cl 18 [(al 8),(al 16384),(al 2)] h2 (λv4 h5=>(∃p6:az,∃n7:Int,v4=(.tuple #[(.pointer p6),(al n7)])/\aK (n7 !=(0:Int)) (K aB h5) (Cl 55 [(.pointer p6),(al 0),(.slice s q r)] h5 (λv8 h9=>bI (some v8) (λb10=>aK (!b10) (K aB h9) (a9 h9 (.cells #[(ap 0),(ap 0),(ap 0),(ap 0)] 104) (λb11 h12=>a9 h12 (.cells (Array.replicate 16 ((aq 0):Value)) 105) (λb13 h14=>k11 b a c p6 (aw b11) (aw b13) (0:Int) h14)))))))))))))
def E0(S:bD)(s:az)(q r:Nat)(b:az)(a c:Nat)(h:aH)(K:KK):(E Tryz.prog X T S body (fin Tryz.prog Tryz.f12.results.toList K) (dI 0 [(.slice s q r),(.slice b a c)]) h)=J0 (λb a c f i g l h=>S (en S [1,1,1,1,1,1,1,0,1] (c0 S K)) (f11 b a c f i g l) h) s q r b a c h K:=by kernel_rfl
def Jk11(lp11:(az)->Nat->Nat->(az)->Addr->Addr->Int->aH->Prop)(b:az)(a c:Nat)(f:az)(i g:Addr)(l:Int)(h:aH)(_K:KK):Prop:=
 lp11 b a c f i g l h
def Ek11(S:bD)(b:az)(a c:Nat)(f:az)(i g:Addr)(l:Int)(h:aH)(K:KK):(en S [1,1,1,1,1,1,1,0,1] (c0 S K) (f11 b a c f i g l) h)=Jk11 (λb a c f i g l h=> ∃n,S (ln S [1,1,1,1,1,1,1,0,1,0,0] (c1 S K) n) (f11 b a c f i g l) h) b a c f i g l h K:=by kernel_rfl
def JL11(bk11:(az)->Nat->Nat->(az)->Addr->Addr->Int->aH->Prop)(k18:(az)->Nat->Nat->(az)->Addr->Addr->aH->Prop)(b:az)(a c:Nat)(f:az)(i g:Addr)(l:Int)(h:aH)(K:KK):Prop:=
 aK (decide (l<(4:Int))) (Cl 28 [(.pointer f),(al 0),(al l)] h (λv1 h2=>(∃n3:Int,∃b4:Bool,v1=(.tuple #[(ap n3),(aD b4)])/\Cl 23 [(.pointer f)] h2 (λv5 h6=>ba (some v5) (λp7=>Cl 29 [(.pointer p7),(ap n3)] h6 (λv8 h9=>(∃n10:Int,∃n11:Int,∃n12:Int,∃n13:Int,∃b14:Bool,v8=(.tuple #[(.agg #[(aq n10),(aq n11),(aq n12),(aq n13)]),(aD b14)])/\a9 h9 (.cells #[(aq 0),(aq 0),(aq 0),(aq 0)] 51) (λb15 h16=>aW h16 ((aw b15).add 0) (aq n10) (λh17=>aW h17 ((aw b15).add 1) (aq n11) (λh18=>aW h18 ((aw b15).add 2) (aq n12) (λh19=>aW h19 ((aw b15).add 3) (aq n13) (λh20=>aK (!b14) (K aB h20) (aQ .u64 (rd h20 ((aw b15).add 0)) (λn21=>aQ .u64 (rd h20 ((aw b15).add 1)) (λn22=>aQ .u64 (rd h20 ((aw b15).add 2)) (λn23=>aQ .u64 (rd h20 ((aw b15).add 3)) (λn24=>(0<=l/\l<(Nat.cast 4:Int)/\aW h20 ((i.add (Int.toNat l*1)).add 0) (ap n3) (λh25=>((al l)=((al l):Value)/\aQ .u64 (rd h25 ((aw b15).add 0)) (λn26=>aQ .u64 (rd h25 ((aw b15).add 1)) (λn27=>aQ .u64 (rd h25 ((aw b15).add 2)) (λn28=>aQ .u64 (rd h25 ((aw b15).add 3)) (λn29=>((.agg #[(aq n26),(aq n27),(aq n28),(aq n29)])=((.agg #[(aq n21),(aq n22),(aq n23),(aq n24)]):Value)/\(0<=l/\l<(Nat.cast 4:Int)/\aW h25 ((g.add (Int.toNat l*4)).add 0) (aq n21) (λh30=>aW h30 ((g.add (Int.toNat l*4)).add 1) (aq n22) (λh31=>aW h31 ((g.add (Int.toNat l*4)).add 2) (aq n23) (λh32=>aW h32 ((g.add (Int.toNat l*4)).add 3) (aq n24) (λh33=>bk11 b a c f i g (ax (l+(1:Int))) h33)))))))))))))))))))))))))))))) (k18 b a c f i g h)
def EL11(S:bD)(n11:Nat)(b:az)(a c:Nat)(f:az)(i g:Addr)(l:Int)(h:aH)(K:KK):(en S [1,1,1,1,1,1,1,0,1,0,0] (c2 S n11 K) (f11 b a c f i g l) h)=JL11 (λb a c f i g l h=>S (ln S [1,1,1,1,1,1,1,0,1,0,0] (c1 S K) n11) (f11 b a c f i g l) h) (λb a c f i g h=>S (en S [1,1,1,1,1,1,1,1] (fn K)) (f18 b a c f i g) h) b a c f i g l h K:=by kernel_rfl
def Jk18(k19:(az)->Nat->Nat->(az)->Addr->Addr->Int->aH->Prop)(b:az)(a c:Nat)(f:az)(i g:Addr)(h:aH)(_K:KK):Prop:=
 k19 b a c f i g (0:Int) h
def Ek18(S:bD)(b:az)(a c:Nat)(f:az)(i g:Addr)(h:aH)(K:KK):(en S [1,1,1,1,1,1,1,1] (fn K) (f18 b a c f i g) h)=Jk18 (λb a c f i g d h=>S (en S [1,1,1,1,1,1,1,1,0,1] (c3 S K)) (f19 b a c f i g d) h) b a c f i g h K:=by kernel_rfl
def Jk19(lp19:(az)->Nat->Nat->(az)->Addr->Addr->Int->aH->Prop)(b:az)(a c:Nat)(f:az)(i g:Addr)(d:Int)(h:aH)(_K:KK):Prop:=
 lp19 b a c f i g d h
def Ek19(S:bD)(b:az)(a c:Nat)(f:az)(i g:Addr)(d:Int)(h:aH)(K:KK):(en S [1,1,1,1,1,1,1,1,0,1] (c3 S K) (f19 b a c f i g d) h)=Jk19 (λb a c f i g d h=> ∃n,S (ln S [1,1,1,1,1,1,1,1,0,1,0,0] (c4 S K) n) (f19 b a c f i g d) h) b a c f i g d h K:=by kernel_rfl
def JL19(k24:(az)->Nat->Nat->(az)->Addr->Addr->Int->Addr->aH->Prop)(k36:(az)->aH->Prop)(b:az)(a c:Nat)(f:az)(i g:Addr)(d:Int)(h:aH)(_K:KK):Prop:=
 aK (decide (d<(Nat.cast a:Int))) (a9 h (.cells #[(al 0),(al 0),(al 0),(al 0),(al 0),(al 0),(.int .u8 0)] 41) (λb1 h2=>aW h2 ((aw b1).add 0) (al 7) (λh3=>aW h3 ((aw b1).add 1) (al 0) (λh4=>aW h4 ((aw b1).add 2) (al 0) (λh5=>aW h5 ((aw b1).add 3) (al 0) (λh6=>aW h6 ((aw b1).add 4) (al 0) (λh7=>aW h7 ((aw b1).add 5) (al 0) (λh8=>aW h8 ((aw b1).add 6) (.int .u8 0) (λh9=>bf b (λa10=>(0<=d/\d<(Nat.cast a:Int)/\bI (rd h9 (a10.add (Int.toNat d*1))) (λb11=>aK b11 (aW h9 ((aw b1).add 0) (al 8) (λh12=>aW h12 ((aw b1).add 1) (al 0) (λh13=>aW h13 ((aw b1).add 2) (al 0) (λh14=>aW h14 ((aw b1).add 3) (al 0) (λh15=>aW h15 ((aw b1).add 4) (al 0) (λh16=>aW h16 ((aw b1).add 5) (al 0) (λh17=>aW h17 ((aw b1).add 6) (.int .u8 0) (λh18=>k24 b a c f i g d (aw b1) h18)))))))) (k24 b a c f i g d (aw b1) h9))))))))))))) (k36 f h)
def EL19(S:bD)(n19:Nat)(b:az)(a c:Nat)(f:az)(i g:Addr)(d:Int)(h:aH)(K:KK):(en S [1,1,1,1,1,1,1,1,0,1,0,0] (c5 S n19 K) (f19 b a c f i g d) h)=JL19 (λb a c f i g d o h=>S (en S [1,1,1,1,1,1,1,1,0,1,0,0,1,0,0,1,1] (c7 S n19 K)) (f24 b a c f i g d o) h) (λf h=>S (en S [1,1,1,1,1,1,1,1,1] (fn K)) (f36 f) h) b a c f i g d h K:=by kernel_rfl
def Jk24(k31:(az)->Nat->Nat->(az)->Addr->Addr->Int->Int->aH->Prop)(b:az)(a c:Nat)(f:az)(i g:Addr)(d:Int)(o:Addr)(h:aH)(K:KK):Prop:=
 aQ .i64 (rd h (o.add 0)) (λn1=>aQ .i64 (rd h (o.add 1)) (λn2=>aQ .i64 (rd h (o.add 2)) (λn3=>aQ .i64 (rd h (o.add 3)) (λn4=>aQ .i64 (rd h (o.add 4)) (λn5=>aQ .i64 (rd h (o.add 5)) (λn6=>aQ .u8 (rd h (o.add 6)) (λn7=>Cl 53 [(.pointer f),(al 2),(.agg #[(al n1),(al n2),(al n3),(al n4),(al n5),(al n6),(.int .u8 n7)])] h (λv8 h9=>(∃n10:Int,∃n11:Int,∃b12:Bool,v8=(.tuple #[(.agg #[(al n10),(aq n11)]),(aD b12)])/\a9 h9 (.cells #[(al 0),(aq 0)] 76) (λb13 h14=>aW h14 ((aw b13).add 0) (al n10) (λh15=>aW h15 ((aw b13).add 1) (aq n11) (λh16=>aK (!b12) (K aB h16) (aQ .i64 (rd h16 ((aw b13).add 0)) (λn17=>aK (n17 !=(0:Int)) (K aB h16) (aQ .u64 (rd h16 ((aw b13).add 1)) (λn18=>aK (n18 !=(0:Int)) (K aB h16) (Cl 53 [(.pointer f),(al 2),(.agg #[(al 1),(al 0),(al 5),(al 0),(al 0),(al 0),(.int .u8 (IntKind.wrap .u8 d))])] h16 (λv19 h20=>(∃n21:Int,∃n22:Int,∃b23:Bool,v19=(.tuple #[(.agg #[(al n21),(aq n22)]),(aD b23)])/\a9 h20 (.cells #[(al 0),(aq 0)] 76) (λb24 h25=>aW h25 ((aw b24).add 0) (al n21) (λh26=>aW h26 ((aw b24).add 1) (aq n22) (λh27=>aK (!b23) (K aB h27) (aQ .i64 (rd h27 ((aw b24).add 0)) (λn28=>aK (n28 !=(0:Int)) (K aB h27) (k31 b a c f i g d (0:Int) h27)))))))))))))))))))))))))
def Ek24(S:bD)(n19:Nat)(b:az)(a c:Nat)(f:az)(i g:Addr)(d:Int)(o:Addr)(h:aH)(K:KK):(en S [1,1,1,1,1,1,1,1,0,1,0,0,1,0,0,1,1] (c7 S n19 K) (f24 b a c f i g d o) h)=Jk24 (λb a c f i g d j h=>S (en S [1,1,1,1,1,1,1,1,0,1,0,0,1,0,0,1,1,1,1,1,1,1] (c7 S n19 K)) (f31 b a c f i g d j) h) b a c f i g d o h K:=by kernel_rfl
def Jk31(lp31:(az)->Nat->Nat->(az)->Addr->Addr->Int->Int->aH->Prop)(b:az)(a c:Nat)(f:az)(i g:Addr)(d j:Int)(h:aH)(_K:KK):Prop:=
 lp31 b a c f i g d j h
def Ek31(S:bD)(n19:Nat)(b:az)(a c:Nat)(f:az)(i g:Addr)(d j:Int)(h:aH)(K:KK):(en S [1,1,1,1,1,1,1,1,0,1,0,0,1,0,0,1,1,1,1,1,1,1] (c7 S n19 K) (f31 b a c f i g d j) h)=Jk31 (λb a c f i g d j h=> ∃n,S (ln S [1,1,1,1,1,1,1,1,0,1,0,0,1,0,0,1,1,1,1,1,1,1,0,0] (c8 S n19 K) n) (f31 b a c f i g d j) h) b a c f i g d j h K:=by kernel_rfl
def JL31(bk31:(az)->Nat->Nat->(az)->Addr->Addr->Int->Int->aH->Prop)(bk19:(az)->Nat->Nat->(az)->Addr->Addr->Int->aH->Prop)(b:az)(a c:Nat)(f:az)(i g:Addr)(d j:Int)(h:aH)(K:KK):Prop:=
 aK (decide (j<(4:Int))) (Cl 28 [(.pointer f),(al 0),(al j)] h (λv1 h2=>(∃n3:Int,∃b4:Bool,v1=(.tuple #[(ap n3),(aD b4)])/\aK (!b4) ((aE=undef/\(aE=undef/\(aE=undef/\(aE=undef/\K aB h2))))) ((0<=j/\j<(Nat.cast 4:Int)/\aQ .u32 (rd h2 (i.add (Int.toNat j*1))) (λn5=>aK (n3 !=n5) ((aE=undef/\(aE=undef/\(aE=undef/\(aE=undef/\K aB h2))))) ((0<=j/\j<(Nat.cast 4:Int)/\aQ .u64 (rd h2 ((g.add (Int.toNat j*4)).add 0)) (λn6=>aQ .u64 (rd h2 ((g.add (Int.toNat j*4)).add 1)) (λn7=>aQ .u64 (rd h2 ((g.add (Int.toNat j*4)).add 2)) (λn8=>aQ .u64 (rd h2 ((g.add (Int.toNat j*4)).add 3)) (λn9=>Cl 23 [(.pointer f)] h2 (λv10 h11=>ba (some v10) (λp12=>((ap n3)=((ap n3):Value)/\((al j)=((al j):Value)/\(0<=j/\j<(Nat.cast 4:Int)/\((au (g.add (Int.toNat j*4)))=((au (g.add (Int.toNat j*4))):Value)/\aQ .u64 (rd h11 ((g.add (Int.toNat j*4)).add 0)) (λn13=>aQ .u64 (rd h11 ((g.add (Int.toNat j*4)).add 1)) (λn14=>aQ .u64 (rd h11 ((g.add (Int.toNat j*4)).add 2)) (λn15=>aQ .u64 (rd h11 ((g.add (Int.toNat j*4)).add 3)) (λn16=>((.agg #[(aq n13),(aq n14),(aq n15),(aq n16)])=((.agg #[(aq n6),(aq n7),(aq n8),(aq n9)]):Value)/\Cl 58 [(.pointer p12),(ap n3),(.agg #[(aq n6),(aq n7),(aq n8),(aq n9)])] h11 (λv17 h18=>bI (some v17) (λb19=>aK (!b19) (K aB h18) (bk31 b a c f i g d (ax (j+(1:Int))) h18)))))))))))))))))))))))))) (bk19 b a c f i g (ax (d+(1:Int))) h)
def EL31(S:bD)(n19:Nat)(n31:Nat)(b:az)(a c:Nat)(f:az)(i g:Addr)(d j:Int)(h:aH)(K:KK):(en S [1,1,1,1,1,1,1,1,0,1,0,0,1,0,0,1,1,1,1,1,1,1,0,0] (c9 S n19 n31 K) (f31 b a c f i g d j) h)=JL31 (λb a c f i g d j h=>S (ln S [1,1,1,1,1,1,1,1,0,1,0,0,1,0,0,1,1,1,1,1,1,1,0,0] (c8 S n19 K) n31) (f31 b a c f i g d j) h) (λb a c f i g d h=>S (ln S [1,1,1,1,1,1,1,1,0,1,0,0] (c4 S K) n19) (f19 b a c f i g d) h) b a c f i g d j h K:=by kernel_rfl
def Jk36(f:az)(h:aH)(K:KK):Prop:=
 Cl 23 [(.pointer f)] h (λv1 h2=>ba (some v1) (λp3=>Cl 22 [(.pointer p3)] h2 (λv4 h5=>bI (some v4) (λb6=>K (aD b6) h5))))
def Ek36(S:bD)(f:az)(h:aH)(K:KK):(en S [1,1,1,1,1,1,1,1,1] (fn K) (f36 f) h)=Jk36 f h K:=by kernel_rfl
def wL31(bk19:(az)->Nat->Nat->(az)->Addr->Addr->Int->aH->Prop):Nat->(az)->Nat->Nat->(az)->Addr->Addr->Int->Int->aH->KK->Prop
 |0,_,_,_,_,_,_,_,_,_,_=>False
 |n+1,b,a,c,f,i,g,d,j,h,K=>JL31 (λb a c f i g d j h=>wL31 bk19 n b a c f i g d j h K) bk19 b a c f i g d j h K
def eL31(K:KK)(n19:Nat)(bk19:(az)->Nat->Nat->(az)->Addr->Addr->Int->aH->Prop)(hb19: ∀(b:az) (a c:Nat) (f:az) (i g:Addr) (d:Int) (h:aH),(ln S0 [1,1,1,1,1,1,1,1,0,1,0,0] (c4 S0 K) n19 (f19 b a c f i g d) h)=bk19 b a c f i g d h): ∀(n:Nat) (b:az) (a c:Nat) (f:az) (i g:Addr) (d j:Int) (h:aH),(ln S0 [1,1,1,1,1,1,1,1,0,1,0,0,1,0,0,1,1,1,1,1,1,1,0,0] (c8 S0 n19 K) n (f31 b a c f i g d j) h)=wL31 bk19 n b a c f i g d j h K
 |0,_,_,_,_,_,_,_,_,_=>rfl
 |n+1,b,a,c,f,i,g,d,j,h=>(EL31 S0 n19 n b a c f i g d j h K).trans (BE (λq0 q1=>JL31 q0 q1 b a c f i g d j h K) (by funext b a c f i g d j h;exact(λb a c f i g d j h=>eL31 K n19 bk19 hb19 n b a c f i g d j h) b a c f i g d j h) (by funext b a c f i g d h;exact hb19 b a c f i g d h))
def wk31(bk19:(az)->Nat->Nat->(az)->Addr->Addr->Int->aH->Prop)(b:az)(a c:Nat)(f:az)(i g:Addr)(d j:Int)(h:aH)(K:KK):Prop:=
 Jk31 (λb a c f i g d j h=> ∃m,wL31 bk19 m b a c f i g d j h K) b a c f i g d j h K
def ek31(K:KK)(n19:Nat)(bk19:(az)->Nat->Nat->(az)->Addr->Addr->Int->aH->Prop)(hb19: ∀(b:az) (a c:Nat) (f:az) (i g:Addr) (d:Int) (h:aH),(ln S0 [1,1,1,1,1,1,1,1,0,1,0,0] (c4 S0 K) n19 (f19 b a c f i g d) h)=bk19 b a c f i g d h)(b:az)(a c:Nat)(f:az)(i g:Addr)(d j:Int)(h:aH):(en S0 [1,1,1,1,1,1,1,1,0,1,0,0,1,0,0,1,1,1,1,1,1,1] (c7 S0 n19 K) (f31 b a c f i g d j) h)=wk31 bk19 b a c f i g d j h K:=(Ek31 S0 n19 b a c f i g d j h K).trans (lP (λq0=>Jk31 q0 b a c f i g d j h K) (by funext b a c f i g d j h;exact cR λm=>eL31 K n19 bk19 hb19 m b a c f i g d j h))
def wk24(bk19:(az)->Nat->Nat->(az)->Addr->Addr->Int->aH->Prop)(b:az)(a c:Nat)(f:az)(i g:Addr)(d:Int)(o:Addr)(h:aH)(K:KK):Prop:=
 Jk24 (λb a c f i g d j h=>wk31 bk19 b a c f i g d j h K) b a c f i g d o h K
def ek24(K:KK)(n19:Nat)(bk19:(az)->Nat->Nat->(az)->Addr->Addr->Int->aH->Prop)(hb19: ∀(b:az) (a c:Nat) (f:az) (i g:Addr) (d:Int) (h:aH),(ln S0 [1,1,1,1,1,1,1,1,0,1,0,0] (c4 S0 K) n19 (f19 b a c f i g d) h)=bk19 b a c f i g d h)(b:az)(a c:Nat)(f:az)(i g:Addr)(d:Int)(o:Addr)(h:aH):(en S0 [1,1,1,1,1,1,1,1,0,1,0,0,1,0,0,1,1] (c7 S0 n19 K) (f24 b a c f i g d o) h)=wk24 bk19 b a c f i g d o h K:=(Ek24 S0 n19 b a c f i g d o h K).trans (lP (λq0=>Jk24 q0 b a c f i g d o h K) (by funext b a c f i g d j h;exact ek31 K n19 bk19 hb19 b a c f i g d j h))
def wk36(f:az)(h:aH)(K:KK):Prop:=
 Jk36 f h K
def ek36(K:KK)(f:az)(h:aH):(en S0 [1,1,1,1,1,1,1,1,1] (fn K) (f36 f) h)=wk36 f h K:=(Ek36 S0 f h K).trans (rfl)
def wL19:Nat->(az)->Nat->Nat->(az)->Addr->Addr->Int->aH->KK->Prop
 |0,_,_,_,_,_,_,_,_,_=>False
 |n+1,b,a,c,f,i,g,d,h,K=>JL19 (λb a c f i g d o h=>wk24 (λb a c f i g d h=>wL19 n b a c f i g d h K) b a c f i g d o h K) (λf h=>wk36 f h K) b a c f i g d h K
def eL19(K:KK): ∀(n:Nat) (b:az) (a c:Nat) (f:az) (i g:Addr) (d:Int) (h:aH),(ln S0 [1,1,1,1,1,1,1,1,0,1,0,0] (c4 S0 K) n (f19 b a c f i g d) h)=wL19 n b a c f i g d h K
 |0,_,_,_,_,_,_,_,_=>rfl
 |n+1,b,a,c,f,i,g,d,h=>(EL19 S0 n b a c f i g d h K).trans (BE (λq0 q1=>JL19 q0 q1 b a c f i g d h K) (by funext b a c f i g d o h;exact ek24 K n (λb a c f i g d h=>wL19 n b a c f i g d h K) (λb a c f i g d h=>eL19 K n b a c f i g d h) b a c f i g d o h) (by funext f h;exact ek36 K f h))
def wk19(b:az)(a c:Nat)(f:az)(i g:Addr)(d:Int)(h:aH)(K:KK):Prop:=
 Jk19 (λb a c f i g d h=> ∃m,wL19 m b a c f i g d h K) b a c f i g d h K
def ek19(K:KK)(b:az)(a c:Nat)(f:az)(i g:Addr)(d:Int)(h:aH):(en S0 [1,1,1,1,1,1,1,1,0,1] (c3 S0 K) (f19 b a c f i g d) h)=wk19 b a c f i g d h K:=(Ek19 S0 b a c f i g d h K).trans (lP (λq0=>Jk19 q0 b a c f i g d h K) (by funext b a c f i g d h;exact cR λm=>eL19 K m b a c f i g d h))
def wk18(b:az)(a c:Nat)(f:az)(i g:Addr)(h:aH)(K:KK):Prop:=
 Jk18 (λb a c f i g d h=>wk19 b a c f i g d h K) b a c f i g h K
def ek18(K:KK)(b:az)(a c:Nat)(f:az)(i g:Addr)(h:aH):(en S0 [1,1,1,1,1,1,1,1] (fn K) (f18 b a c f i g) h)=wk18 b a c f i g h K:=(Ek18 S0 b a c f i g h K).trans (lP (λq0=>Jk18 q0 b a c f i g h K) (by funext b a c f i g d h;exact ek19 K b a c f i g d h))
def wL11:Nat->(az)->Nat->Nat->(az)->Addr->Addr->Int->aH->KK->Prop
 |0,_,_,_,_,_,_,_,_,_=>False
 |n+1,b,a,c,f,i,g,l,h,K=>JL11 (λb a c f i g l h=>wL11 n b a c f i g l h K) (λb a c f i g h=>wk18 b a c f i g h K) b a c f i g l h K
def eL11(K:KK): ∀(n:Nat) (b:az) (a c:Nat) (f:az) (i g:Addr) (l:Int) (h:aH),(ln S0 [1,1,1,1,1,1,1,0,1,0,0] (c1 S0 K) n (f11 b a c f i g l) h)=wL11 n b a c f i g l h K
 |0,_,_,_,_,_,_,_,_=>rfl
 |n+1,b,a,c,f,i,g,l,h=>(EL11 S0 n b a c f i g l h K).trans (BE (λq0 q1=>JL11 q0 q1 b a c f i g l h K) (by funext b a c f i g l h;exact(λb a c f i g l h=>eL11 K n b a c f i g l h) b a c f i g l h) (by funext b a c f i g h;exact ek18 K b a c f i g h))
def wk11(b:az)(a c:Nat)(f:az)(i g:Addr)(l:Int)(h:aH)(K:KK):Prop:=
 Jk11 (λb a c f i g l h=> ∃m,wL11 m b a c f i g l h K) b a c f i g l h K
def ek11(K:KK)(b:az)(a c:Nat)(f:az)(i g:Addr)(l:Int)(h:aH):(en S0 [1,1,1,1,1,1,1,0,1] (c0 S0 K) (f11 b a c f i g l) h)=wk11 b a c f i g l h K:=(Ek11 S0 b a c f i g l h K).trans (lP (λq0=>Jk11 q0 b a c f i g l h K) (by funext b a c f i g l h;exact cR λm=>eL11 K m b a c f i g l h))
def w(s:az)(q r:Nat)(b:az)(a c:Nat)(h:aH)(K:KK):Prop:=
 J0 (λb a c f i g l h=>wk11 b a c f i g l h K) s q r b a c h K
def e0(K:KK)(s:az)(q r:Nat)(b:az)(a c:Nat)(h:aH):(E Tryz.prog X T S0 body (fin Tryz.prog Tryz.f12.results.toList K) (dI 0 [(.slice s q r),(.slice b a c)]) h)=w s q r b a c h K:=(E0 S0 s q r b a c h K).trans (lP (λq0=>J0 q0 s q r b a c h K) (by funext b a c f i g l h;exact ek11 K b a c f i g l h))
def hb:Tryz.f12.body=some body:=by kernel_rfl
def ok:cX T Tryz.f12.ntmps body=true:=by kernel_rfl
def spec(s:az)(q r:Nat)(b:az)(a c:Nat)(h:aH)(K:KK)(H:w s q r b a c h K):Cl 12 [(.slice s q r),(.slice b a c)] h K:=
 dk (T:=T) Ed Ei Tryz.func12 hb ok rfl (by rw[e0];exact H)
end F12
end
section
noncomputable def RK(m:Nat)(K:KK)(v:Nat):KK:=λr h2=>bI (some r) λb=>aK (!b) (F64.wL5 v (some (aw m)) (.func (.func 114) #[bh m] #[]) h2 K) (F64.wk6 (some (aw m)) h2 K)
noncomputable def Rn(m:Nat)(K:KK)(d:Nat)(h:aH):Prop:= ∀c u v:Nat,d<=u->d<=v->F114.wL2 u (aw m) (c:Int) h (RK m K v)
section
variable {h h' h0:aH}{s n room d:Nat}{fo gg:Nat->Nat}{off:Bool}{N N' N0:ay}{A A':MA}{fl:List Fk}{fr:Fk}{K:KK}{L L' L0:List Nat}{Y:SX}
structure RS(h0:aH)(L0:List Nat)(N0:ay)(s n room:Nat)(fo gg:Nat->Nat)(off:Bool)(h:aH)(L:List Nat)(N:ay)(A:MA):Prop where
 S:cI h s L (XL n room fo gg N off)
 M:cB h s A
 D: ∀b∈A.bl,b∉L
 O:aM L0 h0 h
 g:bH L0 L h0
 b: ∀x∈A.bl,h0.size<=x
 E:Ex N0 N
end
end
section
def IZ(h0:aH)(L0:List Nat)(N0:ay)(s n room:Nat)(fo gg:Nat->Nat)(off:Bool)(m:Nat)(K:KK):Prop:=
 ∀h' L' N' A',A'.m=m->RS h0 L0 N0 s n room fo gg off h' L' N' A'->A'.fs=[]->A'.done=true->A'.e=60->Rn m K 1 h'
def jc:Nat->Nat
 |0=>1
 |k+1=>2*jc k+3
section
variable {h0:aH}{s n room m:Nat}{fo gg:Nat->Nat}{off:Bool}{N0:ay}{K:KK}{L0:List Nat}
end
end
section
end
section
section
variable {h:aH}{s n room:Nat}{fo gg:Nat->Nat}{off:Bool}{N:ay}{A:MA}{fl:List Fk}{fr:Fk}{K:KK}{L:List Nat}
end
end
section
section
variable {h:aH}{s n room:Nat}{fo gg:Nat->Nat}{off:Bool}{N:ay}{A:MA}{fl:List Fk}{fr:Fk}{K:KK}{L:List Nat}
end
end
section
section
variable {n room:Nat}{fo:Nat->Nat}{N N':ay}{op mask a lo hi r:Nat}
end
def qc(n:Nat):Nat->Nat
 |0=>1
 |k+1=>2*qc n k+jc n+4
section
variable {h0 h:aH}{s n room m:Nat}{fo gg:Nat->Nat}{off:Bool}{N0 N:ay}{K:KK}{L0 L:List Nat}{A:MA}{fl:List Fk}{fr:Fk}
end
end
section
section
variable {h:aH}{s n room:Nat}{fo gg:Nat->Nat}{off:Bool}{N:ay}{A:MA}{fl:List Fk}{fr:Fk}{K:KK}{L:List Nat}
end
end
section
section
variable {n:Nat}{fo:Nat->Nat}{N N':ay}{at_ g a lo hi v r:Nat}
end
def cc(n:Nat):Nat->Nat
 |0=>jc n+1
 |k+1=>2*cc n k+jc n+5
section
variable {h0:aH}{s n room m:Nat}{fo gg:Nat->Nat}{off:Bool}{N0:ay}{K:KK}{L0:List Nat}
end
end
section
section
variable {n:Nat}{fo:Nat->Nat}{N N':ay}{a lo hi v r:Nat}
end
section
variable {h:aH}{s n room:Nat}{fo gg:Nat->Nat}{off:Bool}{N:ay}{A:MA}{fl:List Fk}{fr:Fk}{K:KK}{L:List Nat}
end
def tc(n:Nat):Nat->Nat
 |0=>1
 |k+1=>2*tc n k+jc n+4
section
variable {h0:aH}{s n room m:Nat}{fo gg:Nat->Nat}{off:Bool}{N0:ay}{K:KK}{L0:List Nat}
end
end
section
def laid(A:MA)(fl:List Fk)(fr:Fk)(nx:Nat)(fp:az)(fc b op mask a0 a1 q:Nat):MA:={A with fp:=fp,fc:=fc,fs:=fl++[{fr with fn:=nx}]++[⟨b,op,mask,a0,a1,0,0,0,q⟩]}
section
variable {h:aH}{s n room:Nat}{fo gg:Nat->Nat}{off:Bool}{N:ay}{A:MA}{fl:List Fk}{fr:Fk}{K:KK}{L:List Nat}
end
end
section
section
variable {h0:aH}{s n room m:Nat}{fo gg:Nat->Nat}{off:Bool}{N0:ay}{K:KK}{L0:List Nat}
end
end
section
section
variable {h:aH}{s n room a b c op:Nat}{fo gg:Nat->Nat}{off:Bool}{N:ay}{K:KK}{L:List Nat}{X:SX}
end
end
section
section
variable {h:aH}{s n room a b c op mask d:Nat}{fo gg:Nat->Nat}{off:Bool}{N:ay}{K:KK}{L:List Nat}{A:MA}{Y:SX}
end
end
section
namespace F271
noncomputable def XX:List (Nat×cY):=(1000023,.ent 46 218)::X
def XXok:ug Tryz.prog XX:=Ed.ent
def T:bj:=⟨[(6,[0,8,23])],[]⟩
noncomputable def body:Code:=(Tryz.f271.body).getD .skip
noncomputable def en(S:bD)(p:List Nat)(κ:XK):Fr->aH->Prop:=E Tryz.prog XX T S (sub body p) κ
noncomputable def ln(S:bD)(p:List Nat)(κ:XK)(n:Nat):Fr->aH->Prop:=jw S (E Tryz.prog XX T S (sub body p)) (df T (sub body p)) κ n
def fn(K:KK):XK:=fin Tryz.prog Tryz.f271.results.toList K
noncomputable def c0(S:bD)(K:KK):XK:=jS S (df T (sub body [1,1,1,1,1])) (en S [1,1,1,1,1] (fn K)) (fn K)
noncomputable def c1(S:bD)(K:KK):XK:=cA 0 (c0 S K)
noncomputable def c2(S:bD)(n6:Nat)(K:KK):XK:=gh S (df T (sub body [1,1,1,1,0,1,0,0])) (ln S [1,1,1,1,0,1,0,0] (c1 S K) n6) (c1 S K)
def f6(f:Addr)(b:az)(a d:Nat)(c:az):Fr:=[(0,(au f)),(8,(.slice b a d)),(23,(.pointer c))]
def J0(k6:Addr->(az)->Nat->Nat->(az)->aH->Prop)(f:Addr)(j:az)(i g:Nat)(h:aH)(K:KK):Prop:=
 Cl 107 [(au f),(.slice j i g)] h (λv1 h2=>(∃r3:Option Nat,∃n4:Int,v1=(.tuple #[(.map r3),(al n4)])/\aK (n4 !=(0:Int)) (K (.tuple #[(.slice none 0 0),(al n4)]) h2) (Cl 75 [(au f)] h2 (λv5 h6=>aQ .i64 (some v5) (λn7=>(0<=n7/\n7<=n7/\((Nat.cast 8:Int)*n7<=281474976710656)/\n7<=9223372036854775807/\a9 h6 (.cells (madeCells #[(al 0)] (Int.toNat n7*1)) 3) (λb8 h9=>BV h9 r3 (λp10 h11=>k6 f (some (aw b8)) (Int.toNat n7) (Int.toNat n7) p10 h11))))))))
def E0(S:bD)(f:Addr)(j:az)(i g:Nat)(h:aH)(K:KK):(E Tryz.prog XX T S body (fin Tryz.prog Tryz.f271.results.toList K) (dI 0 [(au f),(.slice j i g)]) h)=J0 (λf b a d c h=>S (en S [1,1,1,1,0,1] (c0 S K)) (f6 f b a d c) h) f j i g h K:=by kernel_rfl
def Jk6(lp6:Addr->(az)->Nat->Nat->(az)->aH->Prop)(f:Addr)(b:az)(a d:Nat)(c:az)(h:aH)(_K:KK):Prop:=
 lp6 f b a d c h
def Ek6(S:bD)(f:Addr)(b:az)(a d:Nat)(c:az)(h:aH)(K:KK):(en S [1,1,1,1,0,1] (c0 S K) (f6 f b a d c) h)=Jk6 (λf b a d c h=> ∃n,S (ln S [1,1,1,1,0,1,0,0] (c1 S K) n) (f6 f b a d c) h) f b a d c h K:=by kernel_rfl
def JL6(bk6:Addr->(az)->Nat->Nat->(az)->aH->Prop)(f:Addr)(b:az)(a d:Nat)(c:az)(h:aH)(K:KK):Prop:=
 EH h c (K (.tuple #[(.slice b a d),(al 0)]) h) (λ_ _ h3=>Ay h3 c (λv4 v5=>(∃n7:Int,(.tuple #[v4,v5])=((.tuple #[(ap n7),(.agg #[])]):Value)/\Cl 71 [(au f),(ap n7)] h3 (λv8 h9=>aQ .i64 (some v8) (λn10=>bf b (λa11=>(0<=n10/\n10<(Nat.cast a:Int)/\aQ .i64 (rd h9 (a11.add (Int.toNat n10*1))) (λn12=>bf b (λa13=>(0<=n10/\n10<(Nat.cast a:Int)/\aW h9 ((a13.add (Int.toNat n10*1)).add 0) (al (ax (n12+(1:Int)))) (λh14=>bk6 f b a d c h14)))))))))))
def EL6(S:bD)(n6:Nat)(f:Addr)(b:az)(a d:Nat)(c:az)(h:aH)(K:KK):(en S [1,1,1,1,0,1,0,0] (c2 S n6 K) (f6 f b a d c) h)=JL6 (λf b a d c h=>S (ln S [1,1,1,1,0,1,0,0] (c1 S K) n6) (f6 f b a d c) h) f b a d c h K:=by kernel_rfl
def wL6:Nat->Addr->(az)->Nat->Nat->(az)->aH->KK->Prop
 |0,_,_,_,_,_,_,_=>False
 |n+1,f,b,a,d,c,h,K=>JL6 (λf b a d c h=>wL6 n f b a d c h K) f b a d c h K
def eL6(K:KK): ∀(n:Nat) (f:Addr) (b:az) (a d:Nat) (c:az) (h:aH),(ln S0 [1,1,1,1,0,1,0,0] (c1 S0 K) n (f6 f b a d c) h)=wL6 n f b a d c h K
 |0,_,_,_,_,_,_=>rfl
 |n+1,f,b,a,d,c,h=>(EL6 S0 n f b a d c h K).trans (lP (λq0=>JL6 q0 f b a d c h K) (by funext f b a d c h;exact(λf b a d c h=>eL6 K n f b a d c h) f b a d c h))
def wk6(f:Addr)(b:az)(a d:Nat)(c:az)(h:aH)(K:KK):Prop:=
 Jk6 (λf b a d c h=> ∃m,wL6 m f b a d c h K) f b a d c h K
def ek6(K:KK)(f:Addr)(b:az)(a d:Nat)(c:az)(h:aH):(en S0 [1,1,1,1,0,1] (c0 S0 K) (f6 f b a d c) h)=wk6 f b a d c h K:=(Ek6 S0 f b a d c h K).trans (lP (λq0=>Jk6 q0 f b a d c h K) (by funext f b a d c h;exact cR λm=>eL6 K m f b a d c h))
def w(f:Addr)(j:az)(i g:Nat)(h:aH)(K:KK):Prop:=
 J0 (λf b a d c h=>wk6 f b a d c h K) f j i g h K
def e0(K:KK)(f:Addr)(j:az)(i g:Nat)(h:aH):(E Tryz.prog XX T S0 body (fin Tryz.prog Tryz.f271.results.toList K) (dI 0 [(au f),(.slice j i g)]) h)=w f j i g h K:=(E0 S0 f j i g h K).trans (lP (λq0=>J0 q0 f j i g h K) (by funext f b a d c h;exact ek6 K f b a d c h))
def hb:Tryz.f271.body=some body:=by kernel_rfl
def ok:cX T Tryz.f271.ntmps body=true:=by kernel_rfl
def spec(f:Addr)(j:az)(i g:Nat)(h:aH)(K:KK)(H:w f j i g h K):Cl 271 [(au f),(.slice j i g)] h K:=
 dk (T:=T) XXok Ei Tryz.func271 hb ok rfl (by rw[e0];exact H)
end F271
def F107.T:bj:=⟨[(5,[1,2,6,7,14,15,16]),(10,[1,6,7]),(11,[6,7,25,26,27])],[]⟩
section
variable (n:Nat)(y:Addr)(c:az)(a b:Nat)(v t u:Addr)(f:az)(d o:Nat)(r g:Int)(j:az)(i q:Nat)(s l:Int)(h:aH)(K:KK)
def F107.wL11:Prop:=Lp Tryz.f107 F107.T [1,1,1,1,1,0,1,0] n [(6,(au t)),(7,(au u)),(25,(.slice j i q)),(26,(al s)),(27,(al l))] h K
def F107.sL11:F107.wL11 (n+1) t u j i q s l h K=(aK (l<s) (bf j λa=>0<=l/\l<(i:Int)/\aQ .u32 (rd h (a.add (l.toNat*1))) λa=>lI (rd h u) λb=>eV Tryz.prog X b [ap a] h λa b=>a=aE/\F107.wL11 n t u j i q s (ax (l+1)) b K) (bK (rd h t) λa=>K (.tuple #[.map a,al 0]) h)):=by kernel_rfl
def F107.wk11:Prop:=(∃a,F107.wL11 a t u j i q s l h K)
def F107.wk10:Prop:=F107.wk11 t u c a b (a:Int) 0 h K
def F107.wL5:Prop:=Lp Tryz.f107 F107.T [1,1,1,1,0,1,0] n [(1,(.slice c a b)),(2,(au v)),(6,(au t)),(7,(au u)),(14,(.slice f d o)),(15,(al r)),(16,(al g))] h K
def F107.sL5:F107.wL5 (n+1) c a b v t u f d o r g h K=(aK (g<r) (bf f λe=>0<=g/\g<(d:Int)/\aQ .u32 (rd h (e.add (g.toNat*1))) λe=>ba (rd h v) λi=>Cl 74 [aA i,ap e] h λe i=>bI (some e) λe=>aK (!e) (K (.tuple #[.map none,al 101]) i) (F107.wL5 n c a b v t u f d o r (ax (g+1)) i K)) (F107.wk10 c a b t u h K)):=by kernel_rfl
def F107.wk5:Prop:=(∃e,F107.wL5 e c a b v t u f d o r g h K)
def F107.spec(H:a9 h (.cells #[au y] 33) λd e=>a9 e (.map #[] 0) λe f=>a9 f (.cells #[.map none] 191) λf g=>aW g ((aw f).add 0) (.map (some e)) λe=>a9 e (.cells #[.nilFunc] 244) λe g=>aW g ((aw e).add 0) (.func (.func 158) #[] #[au (aw f),au (aw e),au (aw d)]) λg=>F107.wk5 c a b (aw d) (aw f) (aw e) c a b (a:Int) 0 g K):Cl 107 [au y,.slice c a b] h K:=cT F107.T Tryz.func107 H
end
end
section
variable {i j k l m n o p q r s t:Int}{a b c d:Addr}{u v:Nat}{x y:az}{h:aH}{K:KK}
def F158.T:bj:=⟨[(2,[0,1,2,3])],[(3,[[(0,[]),(1,[]),(2,[]),(3,[0]),(4,[])]]),(4,[[(0,[]),(1,[]),(2,[]),(3,[0]),(4,[])]])]⟩
section
variable (a:Int)(c b d:Addr)(h:aH)(K:KK)
def F158.wk2:Prop:=bK (rd h c) λc=>lO h c .u32 .u32 a (.agg #[]) λc=>lI (rd c b) λe=>ba (rd c d) λf=>Cl 72 [aA f,ap a] c λc f=>aQ .u32 (some c) λc=>lI (rd f b) λg=>g=(e:Value)/\eV Tryz.prog X e [ap c] f λc e=>c=aE/\lI (rd e b) λc=>ba (rd e d) λd=>Cl 73 [aA d,ap a] e λa d=>aQ .u32 (some a) λa=>lI (rd d b) λb=>b=(c:Value)/\eV Tryz.prog X c [ap a] d λa b=>a=aE/\K aE b
end
def F158.spec(H:bK (rd h a) λd=>dP h d .u32 .u32 i λd=>lI (some (kE (.agg #[]) d)) λe=>a9 h (.cells #[] 218) λf g=>dF Tryz.prog 218 (some (aw f)) e g λe=>aK (Option.isSome d) (K aE e) (aK (i<=1) (K aE e) (F158.wk2 i a b c e K))):Cl 158 [ap i,au a,au b,au c] h K:=cT F158.T Tryz.func158 H
end
section
inductive wI (N:ay):Nat->Nat->Prop
 |self {a:Nat} (h:2<=a):wI N a a
 |lo {a b:Nat} (h:2<=a) (r:wI N (low N a) b):wI N a b
 |hi {a b:Nat} (h:2<=a) (r:wI N (high N a) b):wI N a b
def F8(n:Nat)(N:ay)(keep:Nat->Bool)(l:Nat):Prop:= ∀b,keep b=true->l<=lvl n N b->(low N b<2\/keep (low N b)=true)/\(high N b<2\/keep (high N b)=true)
def KM(mo:List (Int×Value))(keep:Nat->Bool):Prop:=Cf mo keep/\ ∀p∈mo,∃k:Nat,keep k=true/\p=((k:Int),Value.agg #[])
def ot{k:Int}{v:Value}: ∀{m:List (Int×Value)},m.lookup k=some v->(k,v)∈m
 | [],h=>by cases h
 |(x,y)::m,h=>by
  rw[List.lookup_cons]at h;split at h
  ·rename_i e;have e:k=x:=by simpa using e
   injection h with h;subst h e;exact List.mem_cons_self ..
  ·exact List.mem_cons_of_mem _ (ot h)
def KM.add{mo:List (Int×Value)}{keep:Nat->Bool}{k:Nat}(H:KM mo keep):KM (ig mo (k:Int) (.agg #[])) (fd keep k):=by
 refine⟨H.1.add,λp hp=> ?_⟩;have kk:fd keep k k=true:=by unfold fd;simp
 have up: ∀j,keep j=true->fd keep k j=true:=λj hj=>by unfold fd;rw[hj];rfl
 unfold ig at hp;split at hp
 ·obtain⟨q,hq,e⟩:=List.mem_map.1 hp;split at e
  ·exact⟨k,kk,e.symm⟩
  ·obtain⟨j,h1,h2⟩:=H.2 q hq;exact⟨j,up j h1,by rw[<-e];exact h2⟩
 ·rcases List.mem_append.1 hp with h|h
  ·obtain⟨j,h1,h2⟩:=H.2 p h;exact⟨j,up j h1,h2⟩
  ·simp only[List.mem_singleton]at h;exact⟨k,kk,h⟩
def q9{x:Option Value}{K:Option Nat->Prop}{n:Option Nat}(hx:x=some (.map n))(hK:K n):bK x K:=⟨n,hx,hK⟩
def Bu:bZ X 158=some cY.go:=by kernel_rfl
section
variable {h:aH}{s:Nat}{L:List Nat}{Y:SX}{K:KK}
def wI.lvl_le{n:Nat}{N:ay}(ok:dz n N){a b:Nat}(R:wI N a b):isN N a->isN N b/\2<=b/\lvl n N a<=lvl n N b:=by
 induction R with
 |self h=>exact λha=>⟨ha,h,Nat.le_refl _⟩
 |lo h r ih=>
  intro ha;obtain⟨h3,h4,h5,-,h6,h7⟩:=ok.at ha h;obtain⟨x,y,z⟩:=ih h4;exact⟨x,y,ah⟩
 |hi h r ih=>
  intro ha;obtain⟨h3,h4,h5,-,h6,h7⟩:=ok.at ha h;obtain⟨x,y,z⟩:=ih h5;exact⟨x,y,ah⟩
structure GM(h:aH)(s mb b1 b5 b8:Nat):Prop where
 m:At h b5 [.map (some mb)]
 g:At h b8 [.func (.func 158) #[] #[au (aw b5),au (aw b8),au (aw b1)]]
 s:At h b1 [au (aw s)]
 d:mb≠b1/\mb≠b5/\mb≠b8
def GM.only{S:List Nat}{h h':aH}{s mb b1 b5 b8:Nat}(G:GM h s mb b1 b5 b8)(O:aM S h h')(h1:b1∉S)(h5:b5∉S)(h8:b8∉S):GM h' s mb b1 b5 b8:=⟨G.m.only O h5,G.g.only O h8,G.s.only O h1,G.d⟩
set_option maxRecDepth 100000 in
def Ct{mb b1 b5 b8:Nat}(dm:mb∉L): ∀(d:Nat) {h:aH} {a:Nat} {keep:Nat->Bool} {mo:List (Int×Value)} {K:KK},Y.n-lvl Y.n Y.N a<=d->cI h s L Y->GM h s mb b1 b5 b8->bO h mb .u32 mo->KM mo keep->isN Y.N a->F8 Y.n Y.N keep (lvl Y.n Y.N a)->
  (∀h' mo' keep',bO h' mb .u32 mo'->KM mo' keep'->(∀b,keep b=true->keep' b=true)->(a<2\/keep' a=true)->(∀l,l<=lvl Y.n Y.N a->F8 Y.n Y.N keep l->F8 Y.n Y.N keep' l)->(∀b,keep' b=true->keep b=true\/wI Y.N a b)->aM [mb] h h'->K aE h')->
  Cl 158 [ap (a:Int),au (aw b5),au (aw b8),au (aw b1)] h K:=by
 intro d
 induction d using Nat.strongRecOn with
 |_ d ih=>
  intro h a keep mo K hd H G M Kp ha hC hK;have ok:=H.ok;refine F158.spec ?_;refine q9 (by rw[At.rd G.m];rfl) ?_;have same: ∀k6,aM [] h k6->(a<2\/keep a=true)->K aE k6:=λk6 O q=>hK k6 mo keep (M.only O ak) Kp (λb hb=>hb) q (λl _ c=>c) (λb hb=> .inl hb) (O.mono ak)
  have body: ∀o:Option (Nat×Value),o.isSome=keep a->kE (.agg #[]) o= .agg #[]->lI (some (kE (.agg #[]) o)) (λv3=>a9 h (.cells #[] 218) (λb4 h5=>dF Tryz.prog 218 (some (aw b4)) v3 h5 (λh6=>aK (Option.isSome o) (K aE h6) (aK (decide ((a:Int)<=(1:Int))) (K aE h6) (F158.wk2 (a:Int) (aw b5) (aw b8) (aw b1) h6 K))))):=by
   intro o e1 e2;rw[e2];refine⟨_,rfl,aV λk6 B6 P6 y6=>ja ?_⟩;rw[e1];refine aT (λq=>same k6 P6 (.inr q)) λq=>aT (λp=>same k6 P6 (.inl (by have:=of_decide_eq_true p;omega))) λp=> ?_;have p:=of_decide_eq_false p;have a2:2<=a:=ah;obtain⟨h3,h4,h5,-,h6,h7⟩:=ok.1.at ha a2;unfold F158.wk2;have G6:=G.only P6 ak ak ak;have H6:=H.only0 P6;refine q9 (by rw[At.rd G6.m];rfl) (ft (M.only P6 ak) λk7 M7 O7 z7=> ?_);have nd1:b1∉[mb]:=by simpa using λe=>G.d.1 e.symm
   have nd5:b5∉[mb]:=by simpa using λe=>G.d.2.1 e.symm
   have nd8:b8∉[mb]:=by simpa using λe=>G.d.2.2 e.symm
   have nL: ∀b∈[mb],b∉L:=λb hb hm=>by simp only[List.mem_singleton]at hb;subst hb;exact dm hm
   have G7:=G6.only O7 nd1 nd5 nd8;have H7:=H6.only O7 nL;have O07:aM [mb] h k7:=(P6.mono ak).trans O7 λb hb _=>hb;have K7:=Kp.add (k:=a);have up: ∀b,keep b=true->fd keep a b=true:=λb hb=>by unfold fd;rw[hb];rfl
   have k7a:fd keep a a=true:=by unfold fd;simp
   have ad: ∀b,fd keep a b=true->keep b=true\/b=a:=λb hb=>by unfold fd at hb;rw[Bool.or_eq_true]at hb;exact hb.imp id λe=>by simpa using e
   have C7: ∀l,lvl Y.n Y.N a<l->F8 Y.n Y.N (fd keep a) l:=λl hl b hb hbl=>by
    rcases ad b hb with q|q
    ·obtain⟨x,y⟩:=hC b q ah;exact⟨x.imp id (up _),y.imp id (up _)⟩
    ·subst q;omega
   rw[At.rd G7.g,show([.func (.func 158) #[] #[au (aw b5),au (aw b8),au (aw b1)]]:List Value)[0]? =some (.func (.func 158) #[] #[au (aw b5),au (aw b8),au (aw b1)])from rfl,eS];refine aR (by rw[At.rd G7.s];rfl) (iB H7 ha (aI rfl ?_));rw[At.rd G7.g,show([.func (.func 158) #[] #[au (aw b5),au (aw b8),au (aw b1)]]:List Value)[0]? =some (.func (.func 158) #[] #[au (aw b5),au (aw b8),au (aw b1)])from rfl,eS];refine⟨rfl,bE Bu ?_⟩;refine ih (Y.n-lvl Y.n Y.N (low Y.N a)) ah (Nat.le_refl _) H7 G7 M7 K7 h4 (C7 _ h6) λk8 mo8 keep8 M8 K8 up8 in8 C8 sub8 O8=>⟨rfl,?_⟩;have G8:=G7.only O8 nd1 nd5 nd8;have H8:=H7.only O8 nL;rw[At.rd G8.g,show([.func (.func 158) #[] #[au (aw b5),au (aw b8),au (aw b1)]]:List Value)[0]? =some (.func (.func 158) #[] #[au (aw b5),au (aw b8),au (aw b1)])from rfl,eS];refine aR (by rw[At.rd G8.s];rfl) (gp H8 ha (aI rfl ?_));rw[At.rd G8.g,show([.func (.func 158) #[] #[au (aw b5),au (aw b8),au (aw b1)]]:List Value)[0]? =some (.func (.func 158) #[] #[au (aw b5),au (aw b8),au (aw b1)])from rfl,eS]
   have C8':F8 Y.n Y.N keep8 (lvl Y.n Y.N a+1):=by
    intro b hb hbl;by_cases q:lvl Y.n Y.N (low Y.N a)<=lvl Y.n Y.N b
    ·exact C8 _ (Nat.le_refl _) (C7 _ h6) b hb q
    ·rcases sub8 b hb with z|z
     ·obtain⟨x,y⟩:=C7 (lvl Y.n Y.N a+1) ah b z hbl;exact⟨x.imp id (up8 _),y.imp id (up8 _)⟩
     ·have:=(z.lvl_le ok.1 h4).2.2;omega
   refine⟨rfl,bE Bu ?_⟩;refine ih (Y.n-lvl Y.n Y.N (high Y.N a)) ah (Nat.le_refl _) H8 G8 M8 K8 h5 (λb hb hbl=>C8' b hb ah) λk9 mo9 keep9 M9 K9 up9 in9 C9 sub9 O9=>⟨rfl,?_⟩
   have sub: ∀b,keep9 b=true->keep b=true\/b=a\/(wI Y.N (low Y.N a) b\/wI Y.N (high Y.N a) b):=λb hb=>by
    rcases sub9 b hb with q|q
    ·rcases sub8 b q with q|q
     ·exact(ad b q).imp id .inl
     ·exact .inr (.inr (.inl q))
    ·exact .inr (.inr (.inr q))
   refine hK k9 mo9 keep9 M9 K9 (λb hb=>up9 b (up8 b (up b hb))) (.inr (up9 a (up8 a k7a))) (λl hl c b hb hbl=> ?_) (λb hb=> ?_) ((O07.trans O8 λb hb _=>hb).trans O9 λb hb _=>hb)
   ·rcases sub b hb with q|q|q
    ·obtain⟨x,y⟩:=c b q hbl;exact⟨x.imp id λz=>up9 _ (up8 _ (up _ z)),y.imp id λz=>up9 _ (up8 _ (up _ z))⟩
    ·subst q;exact⟨in8.imp id (up9 _),in9⟩
    ·have lb:lvl Y.n Y.N a+1<=lvl Y.n Y.N b:=by
      rcases q with q|q
      ·have:=(q.lvl_le ok.1 h4).2.2;omega
      ·have:=(q.lvl_le ok.1 h5).2.2;omega
     by_cases z:lvl Y.n Y.N (high Y.N a)<=lvl Y.n Y.N b
     ·exact C9 _ (Nat.le_refl _) (λb hb hbl=>C8' b hb ah) b hb z
     ·rcases sub9 b hb with w|w
      ·obtain⟨x,y⟩:=C8' b w lb;exact⟨x.imp id (up9 _),y.imp id (up9 _)⟩
      ·have:=(w.lvl_le ok.1 h5).2.2;omega
   ·rcases sub b hb with q|q|q|q
    ·exact .inl q
    ·subst q;exact .inr (.self a2)
    ·exact .inr (.lo a2 q)
    ·exact .inr (.hi a2 q)
  refine dt (m:=mo) M (λhn=> ?_) λj v hv'=> ?_
  ·have k0:keep a=false:=by
    cases hk:keep a with
    |false=>rfl
    |true=>rw[(Kp.1 a).1 hk]at hn;cases hn
   exact body none (by rw[k0];rfl) rfl
  ·have k1:keep a=true:=by
    cases hk:keep a with
    |true=>rfl
    |false=>rw[(Kp.1 a).2 hk]at hv';cases hv'
   rw[(Kp.1 a).1 k1]at hv';injection hv' with hv';subst hv';exact body (some (j,.agg #[])) (by rw[k1];rfl) rfl
def pE{lo:Nat}{p:az}{c:Nat}{rs:List Nat}(H:cI h s L Y)(Hr:cj h lo 1 p rs.length c (rs.map hv))(hr: ∀r∈rs,isN Y.N r)(hl:rs.length<=100000)
  (hK: ∀h' mb mo keep,bO h' mb .u32 mo->KM mo keep->h.size<=mb->(∀b,keep b=true↔ ∃r∈rs,wI Y.N r b)->aM [] h h'->K (.tuple #[.map (some mb),al 0]) h'):
  Cl 107 [au (aw s),.slice p rs.length c] h K:=by
 have ok:=H.ok;refine F107.spec _ _ _ _ h K ?_;refine aV λh1 A1 O1 z1=>fi (k:= .u32) λh2 M2 O2 z2=>aV λh3 A3 O3 z3=> ?_;rw[aL];refine aS A3 ak rfl λh4 A4 O4 z4=>aV λh5 A5 O5 z5=> ?_;rw[aL];refine aS A5 ak rfl λh6 A6 O6 z6=> ?_;have O02:aM [] h h2:=O1.trans O2 ak;have O04:aM [] h h4:=(O02.trans O3 ak).trans O4 (by intro x hx hl;simp only[List.mem_singleton]at hx;omega);have O06:aM [] h h6:=(O04.trans O5 ak).trans O6 (by intro x hx hl;simp only[List.mem_singleton]at hx;omega);have H6:=H.only0 O06;have Hr6:=Hr.only O06 ak;have M6:bO h6 h1.size .u32 []:=(((M2.only O3 ak).only O4 (by simp;omega)).only O5 ak).only O6 (by simp;omega)
 have G6:GM h6 s h1.size h.size h2.size h4.size:=by refine⟨(A4.only O5 ak).only O6 (by simp;omega),A6,?_,⟨ah,ah,ah⟩⟩;exact((((A1.only O2 ak).only O3 ak).only O4 (by simp;omega)).only O5 ak).only O6 (by simp;omega)
 have dm:h1.size∉L:=λhm=>by have:=H.lt _ hm;omega
 have second: ∀(d i:Nat) (k:aH) (mo:List (Int×Value)) (keep:Nat->Bool),i+d=rs.length->bO k h1.size .u32 mo->KM mo keep->F8 Y.n Y.N keep 0->(∀r∈rs.take i,r<2\/keep r=true)->(∀b,keep b=true-> ∃r∈rs,wI Y.N r b)->aM [h1.size] h6 k->
   F107.wL11 (d+1) (aw h2.size) (aw h4.size) p rs.length c (rs.length:Int) (i:Int) k K:=by
  intro d
  induction d with
  |zero=>
   intro i k mo keep hi M Kp hC hin hsub O;rw[F107.sL11];rw[decide_eq_false ah,aJ];have G:=G6.only O (by simp;omega) (by simp;omega) (by simp;omega);refine q9 (by rw[At.rd G.m];rfl) ?_;have et:rs.take i=rs:=List.take_of_length_le ah;rw[et]at hin
   have down: ∀{r b:Nat},wI Y.N r b->isN Y.N r->(r<2\/keep r=true)->keep b=true:=λ{r b} R=>by
    induction R with
    |self h=>exact λ_ q=>q.resolve_left ah
    |lo h r ih=>
     intro hr q;obtain⟨h3,h4,h5,-,h6,h7⟩:=ok.1.at hr h;exact ih h4 (hC _ (q.resolve_left ah) (Nat.zero_le _)).1
    |hi h r ih=>
     intro hr q;obtain⟨h3,h4,h5,-,h6,h7⟩:=ok.1.at hr h;exact ih h5 (hC _ (q.resolve_left ah) (Nat.zero_le _)).2
   exact hK k h1.size mo keep M Kp ah (λb=>⟨hsub b,λ⟨r,hr',R⟩=>down R (hr r hr') (hin r hr')⟩) (O06.trans O (by intro x hx hl;simp only[List.mem_singleton]at hx;omega))
  |succ d ih=>
   intro i k mo keep hi M Kp hC hin hsub O;rw[F107.sL11];rw[decide_eq_true ah,aO];have Ok:aM [] h k:=O06.trans O (by intro x hx hl;simp only[List.mem_singleton]at hx;omega);have Hrk:=Hr.only Ok ak;have Hk:=H.only0 Ok;have G:=G6.only O (by simp;omega) (by simp;omega) (by simp;omega);obtain⟨b,eb,rr⟩:=Hrk.rd (j:=i) (by simp;omega);rw[eb,aU,<-eb];refine⟨ah,ah,?_⟩;rw[aL,Nat.zero_add,show Int.toNat (i:Int)*1=i by omega,rr];obtain⟨a,ha⟩: ∃a,rs[i]? =some a:=⟨_,List.getElem?_eq_getElem ah⟩;have hm:=List.mem_of_getElem? ha;refine aI (n:=(a:Int)) (by simp[ha]) ?_;rw[At.rd G.g,show([.func (.func 158) #[] #[au (aw h2.size),au (aw h4.size),au (aw h.size)]]:List Value)[0]? =some (.func (.func 158) #[] #[au (aw h2.size),au (aw h4.size),au (aw h.size)])from rfl,eS];refine bE Bu (Ct dm Y.n (Nat.sub_le _ _) Hk G M Kp (hr a hm) (λb hb hbl=>hC b hb (Nat.zero_le _)) λk2 mo2 keep2 M2 K2 up2 in2 C2 sub2 O2=>⟨rfl,?_⟩);rw[show ax ((i:Int)+1)=((i+1:Nat):Int) by rw[wrap_i64 ah ah];omega];refine ih (i+1) k2 mo2 keep2 ah M2 K2 (C2 0 (Nat.zero_le _) hC) (λr hr'=> ?_) (λb hb=> ?_) (O.trans O2 λx hx _=>hx)
   ·rw[List.take_add_one,ha]at hr';rcases List.mem_append.1 hr' with q|q
    ·exact(hin r q).imp id (up2 r)
    ·simp only[Option.toList_some,List.mem_singleton]at q;subst q;exact in2
   ·rcases sub2 b hb with q|q
    ·exact hsub b q
    ·exact⟨a,hm,q⟩
 unfold F107.wk5
 have first: ∀(d i:Nat),i+d=rs.length->F107.wL5 (d+1) p rs.length c (aw h.size) (aw h2.size) (aw h4.size) p rs.length c (rs.length:Int) (i:Int) h6 K:=by
  intro d
  induction d with
  |zero=>
   intro i hi;rw[F107.sL5];rw[decide_eq_false ah,aJ];unfold F107.wk10 F107.wk11;exact⟨_,second rs.length 0 h6 [] (λ_=>false) ah M6 ⟨λk=>⟨λh=>(by cases h),λ_=>rfl⟩,λp hp=>(by cases hp)⟩ (λb hb=>(by cases hb)) (λr hr'=>(by simp at hr')) (λb hb=>(by cases hb)) (aM.refl _ _)⟩
  |succ d ih=>
   intro i hi;rw[F107.sL5];rw[decide_eq_true ah,aO];obtain⟨b,eb,rr⟩:=Hr6.rd (j:=i) (by simp;omega);rw[eb,aU,<-eb];refine⟨ah,ah,?_⟩;rw[aL,Nat.zero_add,show Int.toNat (i:Int)*1=i by omega,rr];obtain⟨a,ha⟩: ∃a,rs[i]? =some a:=⟨_,List.getElem?_eq_getElem ah⟩;have hm:=List.mem_of_getElem? ha;refine aI (n:=(a:Int)) (by simp[ha]) (aR (by rw[At.rd G6.s];rfl) (fk H6 (hr a hm) (aY rfl ?_)));rw[Bool.not_true,aJ,show ax ((i:Int)+1)=((i+1:Nat):Int) by rw[wrap_i64 ah ah];omega];exact ih (i+1) ah
 exact⟨_,first rs.length 0 ah⟩
end
end
section
open Classical in
section
variable {h:aH}{s:Nat}{L:List Nat}{Y:SX}{K:KK}
def zL(n:Nat)(g:Nat->Nat):List Value:=(List.range n).map λl=>al (g l:Int)
def rP{n:Nat}{g:Nat->Nat}{l:Nat}(hl:l<n):(zL n g)[l]? =some (al (g l:Int)):=by simp[zL,hl]
def FC{n:Nat}{g:Nat->Nat}{k v:Nat}:(zL n g).set k (al (v:Int))=zL n (upd g k v):=by
 apply List.ext_getElem?;intro i;rw[List.getElem?_set];by_cases hi:i<n
 ·rw[rP (g:=upd g k v) hi];by_cases e:k=i
  ·subst e;rw[if_pos rfl,if_pos (by simpa[zL]using hi)];unfold upd;rw[if_pos rfl]
  ·rw[if_neg e,rP hi];unfold upd;rw[if_neg (λh=>e h.symm)]
 ·have:(zL n (upd g k v))[i]? =none:=List.getElem?_eq_none (by simpa[zL]using hi);rw[this];split
  ·rename_i e;subst e;rw[if_neg (by simpa[zL]using hi)]
  ·exact List.getElem?_eq_none (by simpa[zL]using hi)
def xb{lo:Nat}{p:az}{c:Nat}{rs:List Nat}(H:cI h s L Y)(Hr:cj h lo 1 p rs.length c (rs.map hv))(hr: ∀r∈rs,isN Y.N r)(hl:rs.length<=100000)
  (hK: ∀h' b g,At h' b (zL Y.n g)->h.size<=b->(∀l,l<Y.n->(0<g l↔ ∃x,(∃r∈rs,wI Y.N r x)/\lvl Y.n Y.N x=l))->(∀l,g l<=40000)->aM [] h h'->K (.tuple #[.slice (some (aw b)) Y.n Y.n,al 0]) h'):
  Cl 271 [au (aw s),.slice p rs.length c] h K:=by
 have ok:=H.ok;have n8:=ok.2.2.1;refine F271.spec _ _ _ _ h K ?_;unfold F271.w F271.J0;refine pE H Hr hr hl λh1 mb mo keep M1 Kp gm sem O1=>⟨_,_,rfl,?_⟩;rw[show((0:Int) !=(0:Int))=false from rfl,aJ];have H1:=H.only0 O1;refine fD H1 (aI rfl ⟨Int.natCast_nonneg _,Int.le_refl _,ah,ah,aV λh2 A2 O2 z2=> ?_⟩);have z1:=O1.size
 have A2:At h2 h1.size (zL Y.n λ_=>0):=by
  have e:(madeCells #[(al (0:Int))] (Int.toNat (Y.n:Int)*1)).toList=zL Y.n λ_=>0:=by
   rw[toList_madeCells_one,Int.toNat_natCast,Nat.mul_one];unfold zL;rw[List.map_const',List.length_range]
   rfl
  rw[<-e];exact A2
 rw[Int.toNat_natCast];have M2:=M1.only O2 ak;have mlt:=M1.lt;refine xF M2 λh3 R3 O3 z3=> ?_
 have isk: ∀k,keep k=true->isN Y.N k/\2<=k/\lvl Y.n Y.N k<Y.n:=λk hk=>by obtain⟨r,hr',R⟩:=(sem k).1 hk;obtain⟨a,b,-⟩:=R.lvl_le ok.1 (hr r hr');exact⟨a,b,(ok.1.at a b).1⟩
 have mlen:mo.length<=32770:=by
  obtain⟨es,cl,-,-,nd,-⟩:=M1
  have:=gW (mo.map (·.1)) ((List.range 32770).map λi:Nat=>(i:Int)) nd λx hx=>by obtain⟨q,hq,e⟩:=List.mem_map.1 hx;obtain⟨k,hk,e2⟩:=Kp.2 q hq;have:=H.isN_lt (isk k hk).1;refine List.mem_map.2 ⟨k,List.mem_range.2 this,?_⟩;rw[<-e,e2]
  simpa using this
 unfold F271.wk6 F271.Jk6
 have main: ∀(d:Nat) (left:List (Int×Value)) (g:Nat->Nat) (k:aH),left.length<=d->(∀q∈left,q∈mo)->ET k h2.size mb .u32 mo left->At k h1.size (zL Y.n g)->(∀q∈mo,q∈left\/ ∀a:Nat,q.1=(a:Int)->0<g (lvl Y.n Y.N a))->
   (∀l,0<g l-> ∃a,keep a=true/\lvl Y.n Y.N a=l)->(∀l,g l+left.length<=mo.length)->aM [] h k->F271.wL6 (d+1) (aw s) (some (aw h1.size)) Y.n Y.n (some (aw h2.size)) k K:=by
  have fin: ∀(g:Nat->Nat) (k:aH),At k h1.size (zL Y.n g)->(∀q∈mo,∀a:Nat,q.1=(a:Int)->0<g (lvl Y.n Y.N a))->(∀l,0<g l-> ∃a,keep a=true/\lvl Y.n Y.N a=l)->(∀l,g l<=mo.length)->aM [] h k->K (.tuple #[.slice (some (aw h1.size)) Y.n Y.n,al 0]) k:=λg k A c1 c2 c3 O=>by
   refine hK k h1.size g A ah (λl hl=>⟨λhg=> ?_,λ⟨x,hx,e⟩=> ?_⟩) (λl=>by have:=c3 l;omega) O
   ·obtain⟨a,ha,e⟩:=c2 l hg;exact⟨a,(sem a).1 ha,e⟩
   ·rw[<-e];exact c1 _ (ot ((Kp.1 x).1 ((sem x).2 hx))) x rfl
  intro d
  induction d with
  |zero=>
   intro left g k hd hs R A c1 c2 c3 O;have e:left=[]:=List.eq_nil_of_length_eq_zero ah;subst e;unfold F271.wL6 F271.JL6;refine sM R ah (λ_=>fin g k A (λq hq=>(c1 q hq).resolve_left ak) c2 (λl=>by have:=c3 l;simpa using this) O) λA x v B h3 e=> ?_;simp at e
  |succ d ih=>
   intro left g k hd hs R A c1 c2 c3 O;unfold F271.wL6 F271.JL6;refine sM R ah (λe=> ?_) λL1 x v L2 k2 e R2 P2 O2' z2'=> ?_
   ·subst e;exact fin g k A (λq hq=>(c1 q hq).resolve_left ak) c2 (λl=>by have:=c3 l;simpa using this) O
   ·subst e;obtain⟨a,ha,e2⟩:=Kp.2 _ (hs (x,v) ak);injection e2 with e3 e4;subst e3 e4;obtain⟨i1,i2,i3⟩:=isk a ha;have O':aM [] h k2:=O.trans O2' (by intro b hb hl;simp at hb;omega);refine xA P2 ⟨(a:Int),rfl,?_⟩;have Hk:=H.only0 O';refine dy Hk i1 (aI rfl ?_);have Ak:=A.only O2' (by simp;omega);rw[aU];have cl:=c3 (lvl Y.n Y.N a);have lenL:(L1++((a:Int),Value.agg #[])::L2).length=L1.length+L2.length+1:=by simp;omega
    refine⟨Int.natCast_nonneg _,ah,?_⟩;rw[aL,Nat.zero_add,Int.toNat_natCast,Nat.mul_one];refine aI (n:=(g (lvl Y.n Y.N a):Int)) (by rw[At.rd Ak,rP i3]) ?_;rw[aU];refine⟨Int.natCast_nonneg _,ah,?_⟩;have ew:ax ((g (lvl Y.n Y.N a):Int)+1)=((g (lvl Y.n Y.N a)+1:Nat):Int):=by rw[wrap_i64 ah ah];omega
    rw[ew,aL];simp only[Nat.zero_add,Nat.add_zero];refine aS Ak (by simpa[zL]using i3) rfl λk3 A3 O3' z3'=> ?_;rw[FC]at A3
    have gu: ∀l,g l<=upd g (lvl Y.n Y.N a) (g (lvl Y.n Y.N a)+1) l/\upd g (lvl Y.n Y.N a) (g (lvl Y.n Y.N a)+1) l<=g l+1:=λl=>by
     unfold upd;split
     ·rename_i q;subst q;omega
     ·omega
    refine ih (L1++L2) _ k3 (by simp;omega) (λq hq=>hs q (by rcases List.mem_append.1 hq with w|w<;>simp[w])) ?_ A3 (λq hq=> ?_) (λl hg=> ?_) (λl=> ?_) (O'.trans O3' (by intro b hb hl;simp at hb;omega))
    ·exact R2.only O3' (by simp;omega) (by simp;omega)
    ·rcases c1 q hq with w|w
     ·rcases List.mem_append.1 w with w|w
      ·exact .inl (by simp[w])
      ·rcases List.mem_cons.1 w with w|w
       ·subst w;refine .inr λa' e=> ?_;have:a'=a:=by have e:(a:Int)=(a':Int):=e;omega
        subst this;unfold upd;rw[if_pos rfl];omega
       ·exact .inl (by simp[w])
     ·exact .inr λa' e=>by have:=w a' e;have:=(gu (lvl Y.n Y.N a')).1;omega
    ·by_cases q:l=lvl Y.n Y.N a
     ·exact⟨a,ha,q.symm⟩
     ·unfold upd at hg;rw[if_neg q]at hg;exact c2 l hg
    ·have:=(gu l).2;have:=c3 l;simp only[List.length_append]at*
     omega
 exact⟨_,main mo.length mo (λ_=>0) h3 (Nat.le_refl _) (λq hq=>hq) R3 (A2.only O3 ak) (λq hq=> .inl hq) (λl hg=>absurd hg (Nat.lt_irrefl _)) (λl=>ak) (((O1.trans O2 ak).trans O3 ak))⟩
end
end
section
variable {i j k l m n o p q r s t:Int}{a b c d:Addr}{u v:Nat}{x y:az}{h:aH}{K:KK}
def F51.spec(H:Cl 107 [au a,.slice x u v] h λa b=> ∃c:Option Nat,∃d:Int,a=(.tuple #[.map c,al d])/\dl c λa=> ∃c e,mp b a=some (c,e)/\K (.tuple #[al (Nat.cast (Array.size c):Int),al d]) b):Cl 51 [au a,.slice x u v] h K:=cN Tryz.func51 H
def F369.T:bj:=⟨[],[(3,[[(0,[]),(1,[]),(2,[]),(3,[]),(4,[]),(5,[]),(6,[]),(7,[]),(8,[]),(9,[]),(10,[]),(11,[]),(12,[]),(13,[]),(14,[])]])]⟩
def F369.spec(H:aK (i<0) (K (al 40) h) (aQ .i64 (rd h (a.add 0)) λb=>aK (i>=(ax (b-1))) (K (al 40) h) ((0<=i/\i<8/\aQ .i64 (rd h ((a.add 1).add (i.toNat*1))) λb=>0<=(ax (i+1))/\(ax (i+1))<8/\aQ .i64 (rd h ((a.add 1).add ((ax (i+1)).toNat*1))) λc=>Cl 370 [au a,al i,al c] h λc d=>c=aE/\Cl 370 [au a,al (ax (i+1)),al b] d λa b=>a=aE/\K (al 0) b)))):Cl 369 [au a,al i] h K:=cT F369.T Tryz.func369 H
def F370.T:bj:=⟨[],[(0,[[(0,[]),(1,[]),(2,[]),(3,[]),(4,[]),(5,[]),(6,[]),(7,[]),(8,[]),(10,[]),(11,[]),(9,[2,3,5,10,11]),(12,[]),(13,[])]])]⟩
def F370.spec(H:(0<=i/\i<8/\aW h (((a.add 1).add (i.toNat*1)).add 0) (al j) λb=>aF (au a)/\aF (al j)/\aF (al i)/\aF (au a)/\aF (au (a.add 9))/\0<=j/\j<8/\aW b (((a.add 9).add (j.toNat*1)).add 0) (al i) λa=>K aE a)):Cl 370 [au a,al i,al j] h K:=cT F370.T Tryz.func370 H
def F359.spec(H:Cl 360 [au a,al i] h λa b=>cv (some a) λ_ a _=>K (al (ax ((2:Int)*(a:Int)))) b):Cl 359 [au a,al i] h K:=cN Tryz.func359 H
def F360.T:bj:=⟨[(3,[1,5,11,12,13])],[]⟩
section
variable (n:Nat)(o:Addr)(l:Int)(j:az)(i g:Nat)(c:az)(b d:Nat)(f a:Int)(h:aH)(K:KK)
def F360.wL3:Prop:=Lp Tryz.f360 F360.T [1,1,0,1,0] n [(1,(al l)),(5,(.slice j i g)),(11,(.slice c b d)),(12,(al f)),(13,(al a))] h K
def F360.sL3:F360.wL3 (n+1) l j i g c b d f a h K=(aK (a<f) (bf c λe=>0<=a/\a<(b:Int)/\bI (rd h ((e.add (a.toNat*4)).add 0)) λk=>aQ .i64 (rd h ((e.add (a.toNat*4)).add 1)) λm=>aQ .u32 (rd h ((e.add (a.toNat*4)).add 2)) λo=>aQ .u32 (rd h ((e.add (a.toNat*4)).add 3)) λe=>a9 h (.cells #[aB,al 0,ap 0,ap 0] 195) λp q=>aW q ((aw p).add 0) (aD k) λk=>aW k ((aw p).add 1) (al m) λk=>aW k ((aw p).add 2) (ap o) λk=>aW k ((aw p).add 3) (ap e) λe=>bI (rd e ((aw p).add 0)) λk=>aK k (aQ .i64 (rd e ((aw p).add 1)) λk=>aK (k==l) (a9 e (.cells #[ap (IntKind.wrap .u32 (ax (a+2)))] 46) λe k=>fB k 46 1 4 #[ap 0] j i g (some (aw e)) 1 λe g i j=>F360.wL3 n l e g i c b d f (ax (a+1)) j K) (F360.wL3 n l j i g c b d f (ax (a+1)) e K)) (F360.wL3 n l j i g c b d f (ax (a+1)) e K)) (K (.slice j i g) h)):=by kernel_rfl
def F360.wk3:Prop:=(∃e,F360.wL3 e l j i g c b d f a h K)
def F360.spec(H:cv (rd h (o.add 2)) λa b c=>F360.wk3 l none 0 0 a b c (b:Int) 0 h K):Cl 360 [au o,al l] h K:=cT F360.T Tryz.func360 H
end
def F361.T:bj:=⟨[(3,[0,1,2,6,7,8,25,26,27]),(10,[0,1,2,6,7,8]),(12,[0,1,2,6,8,70,71,72]),(16,[0,1,2,6,8]),(17,[0,1,2,8,83,84,85]),(23,[0,2,8]),(24,[0,2,8,17]),(26,[0,2,8,17])],[]⟩
section
variable (n:Nat)(d:Addr)(g:Int)(i:Value)(l:az)(f j:Nat)(ad:az)(v ac:Nat)(c:az)(a b:Nat)(af:Int)(q:az)(o s:Nat)(ag r:Int)(aa:az)(z ai:Nat)(am ab:Int)(u:az)(t ae:Nat)(aj y:Int)(h:aH)(K:KK)
def F361.wk26:Prop:=Cl 111 [au d,al af,.slice c a b] h λd e=>d=aE/\eV Tryz.prog X i [.slice c a b] e λa b=>a=aE/\K aE b
def F361.wL24:Prop:=Lp Tryz.f361 F361.T [1,1,1,1,1,1,1,0,0] n [(0,(au d)),(2,i),(8,(.slice c a b)),(17,(al af))] h K
def F361.sL24:F361.wL24 (n+1) d i c a b af h K=(Cl 45 [au d] h λe f=>aQ .i64 (some e) λe=>aK ((ax (2*(ax ((ax (e+(ax ((2:Int)*(a:Int)))))+1))))>af) (F361.wL24 n d i c a b (ax (af*2)) f K) (F361.wk26 d i c a b af f K)):=by kernel_rfl
def F361.wk24:Prop:=(∃e,F361.wL24 e d i c a b af h K)
def F361.wk23:Prop:=ba (rd h (d.add 4)) λe=>Cl 200 [aA e] h λe f=>aQ .i64 (some e) λe=>F361.wk24 d i c a b e f K
def F361.wL17:Prop:=Lp Tryz.f361 F361.T [1,1,1,1,1,0,1,0] n [(0,(au d)),(1,(al g)),(2,i),(8,(.slice c a b)),(83,(.slice u t ae)),(84,(al aj)),(85,(al y))] h K
def F361.sL17:F361.wL17 (n+1) d g i c a b u t ae aj y h K=(aK (y<aj) (bf u λe=>0<=y/\y<(t:Int)/\aQ .u32 (rd h (e.add (y.toNat*1))) λe=>Cl 117 [au d,ap e] h λe f=>ba (some e) λe=>bf e λj=>aQ .i64 (rd f (j.add 1)) λj=>aK (j==(ax (g+2))) (bf e λe=>aW f ((e.add 1).add 0) (al (ax (g+1))) λe=>F361.wL17 n d g i c a b u t ae aj (ax (y+1)) e K) (F361.wL17 n d g i c a b u t ae aj (ax (y+1)) f K)) (F361.wk23 d i c a b h K)):=by kernel_rfl
def F361.wk17:Prop:=(∃e,F361.wL17 e d g i c a b u t ae aj y h K)
def F361.wk16:Prop:=F361.wk17 d g i c a b l f j (f:Int) 0 h K
def F361.wL12:Prop:=Lp Tryz.f361 F361.T [1,1,1,1,0,1,0] n [(0,(au d)),(1,(al g)),(2,i),(6,(.slice l f j)),(8,(.slice c a b)),(70,(.slice aa z ai)),(71,(al am)),(72,(al ab))] h K
def F361.sL12:F361.wL12 (n+1) d g i l f j c a b aa z ai am ab h K=(aK (ab<am) (bf aa λe=>0<=ab/\ab<(z:Int)/\aQ .u32 (rd h (e.add (ab.toNat*1))) λe=>Cl 117 [au d,ap e] h λe k=>ba (some e) λe=>bf e λe=>aW k ((e.add 1).add 0) (al g) λe=>F361.wL12 n d g i l f j c a b aa z ai am (ax (ab+1)) e K) (F361.wk16 d g i l f j c a b h K)):=by kernel_rfl
def F361.wk12:Prop:=(∃e,F361.wL12 e d g i l f j c a b aa z ai am ab h K)
def F361.wk10:Prop:=ba (rd h (d.add 1)) λe=>Cl 369 [aA e,al g] h λe k=>aQ .i64 (some e) λ_=>F361.wk12 d g i l f j c a b ad v ac (v:Int) 0 k K
def F361.wL3:Prop:=Lp Tryz.f361 F361.T [1,1,0,1,0] n [(0,(au d)),(1,(al g)),(2,i),(6,(.slice l f j)),(7,(.slice ad v ac)),(8,(.slice c a b)),(25,(.slice q o s)),(26,(al ag)),(27,(al r))] h K
def F361.sL3:F361.wL3 (n+1) d g i l f j ad v ac c a b q o s ag r h K=(aK (r<ag) (bf q λe=>0<=r/\r<(o:Int)/\aQ .u32 (rd h (e.add (r.toNat*1))) λe=>Cl 117 [au d,ap e] h λk m=>ba (some k) λk=>bf k λp=>aQ .u32 (rd m (p.add 2)) λp=>Cl 71 [au d,ap p] m λm p=>aQ .i64 (some m) λm=>aK (m==(ax (g+1))) (a9 p (.cells #[ap e] 46) λe k=>fB k 46 1 4 #[ap 0] c a b (some (aw e)) 1 λa b c e=>F361.wL3 n d g i l f j ad v ac a b c q o s ag (ax (r+1)) e K) (bf k λm=>aQ .u32 (rd p (m.add 3)) λm=>Cl 71 [au d,ap m] p λm p=>aQ .i64 (some m) λm=>aK (m==(ax (g+1))) (a9 p (.cells #[ap e] 46) λe k=>fB k 46 1 4 #[ap 0] c a b (some (aw e)) 1 λa b c e=>F361.wL3 n d g i l f j ad v ac a b c q o s ag (ax (r+1)) e K) (bf k λe=>aW p ((e.add 1).add 0) (al (ax (g+2))) λe=>F361.wL3 n d g i l f j ad v ac c a b q o s ag (ax (r+1)) e K))) (F361.wk10 d g i l f j ad v ac c a b h K)):=by kernel_rfl
def F361.wk3:Prop:=(∃e,F361.wL3 e d g i l f j ad v ac c a b q o s ag r h K)
def F361.spec(H:Cl 360 [au d,al g] h λa b=>cv (some a) λa c e=>Cl 360 [au d,al (ax (g+1))] b λb f=>cv (some b) λb j k=>F361.wk3 d g i a c e b j k none 0 0 a c e (c:Int) 0 f K):Cl 361 [au d,al g,i] h K:=cT F361.T Tryz.func361 H
end
def F342.T:bj:=⟨[(5,[2,3]),(7,[2,3,5,32,33,34]),(11,[2,3,5])],[(1,[[(0,[]),(1,[]),(2,[]),(3,[]),(4,[]),(5,[3]),(6,[]),(7,[]),(8,[]),(9,[])]]),(3,[[(0,[]),(1,[]),(3,[]),(5,[]),(2,[3,5]),(4,[5]),(6,[]),(7,[]),(8,[]),(9,[])]])]⟩
section
variable (n:Nat)(l:Addr)(o:Int)(g i j:Addr)(b:az)(a d:Nat)(f c:Int)(h:aH)(K:KK)
def F342.wk11:Prop:=ba (rd h g) λa=>aQ .i64 (rd h i) λb=>Cl 361 [aA a,al b,.func (.func 362) #[] #[au g,au j,au i]] h λa b=>a=aE/\K (al 0) b
def F342.wL7:Prop:=Lp Tryz.f342 F342.T [1,1,1,0,1,0] n [(2,(au g)),(3,(au i)),(5,(au j)),(32,(.slice b a d)),(33,(al f)),(34,(al c))] h K
def F342.sL7:F342.wL7 (n+1) g i j b a d f c h K=(aK (c<f) (bf b λe=>0<=c/\c<(a:Int)/\aQ .u32 (rd h (e.add (c.toNat*1))) λe=>bK (rd h j) λk=>lO h k .u32 .u32 e (.agg #[]) λe=>F342.wL7 n g i j b a d f (ax (c+1)) e K) (F342.wk11 g i j h K)):=by kernel_rfl
def F342.wk7:Prop:=(∃e,F342.wL7 e g i j b a d f c h K)
def F342.wk5:Prop:=a9 h (.map #[] 0) λa b=>a9 b (.cells #[.map none] 191) λb c=>aW c ((aw b).add 0) (.map (some a)) λa=>ba (rd a g) λc=>aQ .i64 (rd a i) λd=>Cl 360 [aA c,al (ax (d+1))] a λa c=>cv (some a) λa d e=>F342.wk7 g i (aw b) a d e (d:Int) 0 c K
def F342.spec(H:a9 h (.cells #[au l] 33) λa b=>a9 b (.cells #[al o] 3) λb c=>aQ .i64 (rd c (aw b)) λd=>aK (d<0) ((aE=undef/\K (al 40) c)) (aQ .i64 (rd c (aw b)) λd=>ba (rd c (aw a)) λe=>Cl 75 [aA e] c λc e=>aQ .i64 (some c) λc=>aQ .i64 (rd e (aw b)) λf=>aG (al f) (al d)/\aK (d>=(ax (c-1))) (K (al 40) e) (ba (rd e (aw a)) λc=>aQ .i64 (rd e (aw b)) λd=>ba (rd e (aw a)) λf=>ba (rd e (aw a)) λg=>Cl 359 [aA c,al d] e λc d=>aQ .i64 (some c) λc=>ba (rd d (aw a)) λe=>aG (aA e) (aA f)/\ba (rd d (aw a)) λe=>aG (aA e) (aA g)/\Cl 70 [aA f] d λd e=>aQ .i64 (some d) λd=>ba (rd e (aw a)) λf=>aG (aA f) (aA g)/\Cl 45 [aA g] e λe f=>aQ .i64 (some e) λe=>aK (c>(ax (d-e))) (K (al 60) f) (F342.wk5 (aw a) (aw b) f K)))):Cl 342 [au l,al o] h K:=cT F342.T Tryz.func342 H
end
def F254.T:bj:=⟨[(3,[3,7,8,9]),(8,[3])],[]⟩
section
variable (n:Nat)(l:az)(g j:Nat)(f:Option Nat)(b:az)(a c:Nat)(i d:Int)(h:aH)(K:KK)
def F254.wk8:Prop:=dl f λa=> ∃b c,mp h a=some (b,c)/\K (al (ax (200*(if 1>(Nat.cast (Array.size b):Int)then 1 else(Nat.cast (Array.size b):Int))))) h
def F254.wL3:Prop:=Lp Tryz.f254 F254.T [1,1,0,1,0] n [(3,(.map f)),(7,(.slice b a c)),(8,(al i)),(9,(al d))] h K
def F254.sL3:F254.wL3 (n+1) f b a c i d h K=(aK (d<i) (bf b λe=>0<=d/\d<(a:Int)/\aQ .u32 (rd h (e.add (d.toNat*1))) λe=>aK (e>1) (lO h f .u32 .u32 e (.agg #[]) λe=>F254.wL3 n f b a c i (ax (d+1)) e K) (F254.wL3 n f b a c i (ax (d+1)) h K)) (F254.wk8 f h K)):=by kernel_rfl
def F254.wk3:Prop:=(∃e,F254.wL3 e f b a c i d h K)
def F254.spec(H:a9 h (.map #[] 0) λa b=>F254.wk3 (some a) l g j (g:Int) 0 b K):Cl 254 [.slice l g j] h K:=cT F254.T Tryz.func254 H
end
def F255.spec(H:a9 h (.cells #[aA x,.slice y u v] 330) λa b=>ba (rd b ((aw a).add 0)) λc=>cv (rd b ((aw a).add 1)) λa d e=>Cl 51 [aA c,.slice a d e] b λa b=> ∃c:Int,∃d:Int,a=(.tuple #[al c,al d])/\K (al c) b):Cl 255 [.agg #[aA x,.slice y u v]] h K:=cN Tryz.func255 H
def F212.T:bj:=⟨[(11,[4,6,9,11,42,43,44]),(17,[4,6,9])],[]⟩
section
variable (n:Nat)(s:Addr)(j:az)(i g:Nat)(q r:Int)(o:Addr)(f:Value)(b:az)(a d:Nat)(l c:Int)(h:aH)(K:KK)
def F212.wk17:Prop:=ba (rd h (o.add 0)) λa=>cv (rd h (o.add 1)) λb c d=>Cl 255 [.agg #[aA a,.slice b c d]] h λa b=>aQ .i64 (some a) λa=>K (.tuple #[al q,al a,al r]) b
def F212.wL11:Prop:=Lp Tryz.f212 F212.T [1,1,1,1,1,1,1,0,1,0] n [(4,(al q)),(6,(al r)),(9,(au o)),(11,f),(42,(.slice b a d)),(43,(al l)),(44,(al c))] h K
def F212.sL11:F212.wL11 (n+1) q r o f b a d l c h K=(aK (c<l) (bf b λe=>0<=c/\c<(a:Int)/\aQ .i64 (rd h (e.add (c.toNat*1))) λe=>eV Tryz.prog X f [al e] h λe g=>aQ .i64 (some e) λe=>aK (e !=0) (K (.tuple #[al 0,al 0,al e]) g) (F212.wL11 n q r o f b a d l (ax (c+1)) g K)) (F212.wk17 q r o h K)):=by kernel_rfl
def F212.wk11:Prop:=(∃e,F212.wL11 e q r o f b a d l c h K)
def F212.spec(H:Cl 218 [au s,.slice j i g] h λa b=> ∃c:Int,∃d:Int,a=(.tuple #[al c,al d])/\aK (d !=0) (K (.tuple #[al 0,al 0,al d]) b) (Cl 254 [.slice j i g] b λa b=>aQ .i64 (some a) λa=>Cl 70 [au s] b λb c=>aQ .i64 (some b) λb=>aK (a>b) (K (.tuple #[al 0,al 0,al 60]) c) (a9 c (.cells #[aA none,.slice none 0 0] 330) λa b=>aW b ((aw a).add 0) (au s) λb=>aW b ((aw a).add 1) (.slice j i g) λb=>ba (rd b ((aw a).add 0)) λc=>cv (rd b ((aw a).add 1)) λd e f=>Cl 255 [.agg #[aA c,.slice d e f]] b λb c=>aQ .i64 (some b) λb=>Cl 256 [au s,.slice j i g] c λc d=> ∃e:az,∃f:Nat,∃g:Nat,∃i:Int,c=(.tuple #[.slice e f g,al i])/\ba (rd d ((aw a).add 0)) λc=>cv (rd d ((aw a).add 1)) λj k l=>F212.wk11 b i (aw a) (.func (.func 257) #[.agg #[aA c,.slice j k l]] #[]) e f g (f:Int) 0 d K))):Cl 212 [au s,.slice j i g] h K:=cT F212.T Tryz.func212 H
end
def F256.T:bj:=⟨[(7,[8,9,28,29,30]),(11,[8]),(14,[12,13,14,15])],[]⟩
section
variable (n:Nat)(y:Addr)(u:az)(t s:Nat)(r v d:az)(c b:Nat)(l:Value)(j:Addr)(q:Bool)(g:az)(f i:Nat)(o a:Int)(h:aH)(K:KK)
def F256.wL14:Prop:=Lp Tryz.f256 F256.T [1,1,1,1,1,1,1,1,0,1,0] n [(12,(.slice d c b)),(13,l),(14,(au j)),(15,(aD q))] h K
def F256.sL14:F256.wL14 (n+1) d c b l j q h K=(aK q (aQ .i64 (rd h (j.add 0)) λa=>a9 h (.cells #[al a] 3) λa e=>fB e 3 1 8 #[al 0] d c b (some (aw a)) 1 λa b c d=>aQ .i64 (rd d (j.add 0)) λe=>aQ .i64 (rd d (j.add 1)) λf=>a9 d (.cells #[al 0,al 0] 357) λd g=>aW g ((aw d).add 0) (al e) λe=>aW e ((aw d).add 1) (al f) λe=>eV Tryz.prog X l [] e λe f=> ∃g:Int,∃i:Int,∃j:Bool,e=(.tuple #[.agg #[al g,al i],aD j])/\aW f ((aw d).add 0) (al g) λe=>aW e ((aw d).add 1) (al i) λe=>F256.wL14 n a b c l (aw d) j e K) (K (.tuple #[.slice d c b,al 0]) h)):=by kernel_rfl
def F256.wk14:Prop:=(∃a,F256.wL14 a d c b l j q h K)
def F256.wk11:Prop:=Cl 290 [aA r] h λa b=> ∃c:Int,∃d:Int,∃e:Bool,a=(.tuple #[.agg #[al c,al d],aD e])/\a9 b (.cells #[al 0,al 0] 357) λa b=>aW b ((aw a).add 0) (al c) λb=>aW b ((aw a).add 1) (al d) λb=>F256.wk14 none 0 0 (.func (.func 290) #[aA r] #[]) (aw a) e b K
def F256.wL7:Prop:=Lp Tryz.f256 F256.T [1,1,1,1,1,0,1,0] n [(8,(aA r)),(9,(aA v)),(28,(.slice g f i)),(29,(al o)),(30,(al a))] h K
def F256.sL7:F256.wL7 (n+1) r v g f i o a h K=(aK (a<o) (bf g λb=>0<=a/\a<(f:Int)/\aQ .i64 (rd h (b.add (a.toNat*1))) λb=>Cl 272 [aA v,al a] h λc d=>aQ .i64 (some c) λc=>Cl 289 [aA r,al c,al b] d λb c=>bI (some b) λ_=>F256.wL7 n r v g f i o (ax (a+1)) c K) (F256.wk11 r h K)):=by kernel_rfl
def F256.wk7:Prop:=(∃b,F256.wL7 b r v g f i o a h K)
def F256.spec(H:Cl 271 [au y,.slice u t s] h λa b=> ∃c:az,∃d:Nat,∃e:Nat,∃f:Int,a=(.tuple #[.slice c d e,al f])/\aK (f !=0) (K (.tuple #[.slice none 0 0,al f]) b) (Cl 288 [] b λa b=>ba (some a) λa=>Cl 47 [au y] b λb f=>ba (some b) λb=>F256.wk7 a b c d e (d:Int) 0 f K)):Cl 256 [au y,.slice u t s] h K:=cT F256.T Tryz.func256 H
end
def F257.T:bj:=⟨[(3,[1,2,5,6,12,13]),(12,[1,2,5])],[]⟩
section
variable (n:Nat)(j g:az)(f d:Nat)(i:Int)(c:Addr)(l o b a:Int)(h:aH)(K:KK)
def F257.wk12:Prop:=ba (rd h (c.add 0)) λa=>cv (rd h (c.add 1)) λb c d=>Cl 291 [.agg #[aA a,.slice b c d],al i,al l] h λa b=>aQ .i64 (some a) λa=>K (al a) b
def F257.wL3:Prop:=Lp Tryz.f257 F257.T [1,1,0,1,0] n [(1,(al i)),(2,(au c)),(5,(al l)),(6,(al o)),(12,(al b)),(13,(al a))] h K
def F257.sL3:F257.wL3 (n+1) i c l o b a h K=(aK (a<b) (ba (rd h (c.add 0)) λd=>cv (rd h (c.add 1)) λe f g=>Cl 291 [.agg #[aA d,.slice e f g],al i,al a] h λd e=>aQ .i64 (some d) λd=>aK (d !=0) (K (al d) e) (ba (rd e (c.add 0)) λd=>cv (rd e (c.add 1)) λf g j=>Cl 255 [.agg #[aA d,.slice f g j]] e λd e=>aQ .i64 (some d) λd=>aK (o<0) (F257.wL3 n i c a d b (ax (a+1)) e K) (aK (d<o) (F257.wL3 n i c a d b (ax (a+1)) e K) (F257.wL3 n i c l o b (ax (a+1)) e K)))) (F257.wk12 i c l h K)):=by kernel_rfl
def F257.wk3:Prop:=(∃d,F257.wL3 d i c l o b a h K)
def F257.spec(H:a9 h (.cells #[aA j,.slice g f d] 330) λa b=>ba (rd b ((aw a).add 0)) λc=>Cl 75 [aA c] b λb c=>aQ .i64 (some b) λb=>F257.wk3 i (aw a) 0 (-1) b 0 c K):Cl 257 [.agg #[aA j,.slice g f d],al i] h K:=cT F257.T Tryz.func257 H
end
def F291.T:bj:=⟨[(1,[1,2,3])],[]⟩
section
variable (n:Nat)(f c:az)(b a:Nat)(g d:Int)(i:Addr)(h:aH)(K:KK)
def F291.wL1:Prop:=Lp Tryz.f291 F291.T [1,0] n [(1,(al g)),(2,(al d)),(3,(au i))] h K
def F291.sL1:F291.wL1 (n+1) g d i h K=(ba (rd h (i.add 0)) λa=>Cl 47 [aA a] h λa b=>ba (some a) λa=>Cl 186 [aA a,al g] b λa b=>aQ .i64 (some a) λa=>aK (a==d) (K (al 0) b) (ba (rd b (i.add 0)) λc=>cv (rd b (i.add 1)) λe f j=>Cl 312 [.agg #[aA c,.slice e f j],al (if(if d>(ax (a-1))then d else(ax (a-1)))<a then(if d>(ax (a-1))then d else(ax (a-1)))else a)] b λa b=>aQ .i64 (some a) λa=>aK (a !=0) (K (al a) b) (F291.wL1 n g d i b K))):=by kernel_rfl
def F291.wk1:Prop:=(∃a,F291.wL1 a g d i h K)
def F291.spec(H:a9 h (.cells #[aA f,.slice c b a] 330) λa b=>F291.wk1 g d (aw a) b K):Cl 291 [.agg #[aA f,.slice c b a],al g,al d] h K:=cT F291.T Tryz.func291 H
end
def F312.spec(H:a9 h (.cells #[aA x,.slice y u v] 330) λa b=>ba (rd b ((aw a).add 0)) λc=>Cl 342 [aA c,al i] b λb c=>aQ .i64 (some b) λb=>aK (b !=0) (K (al b) c) (ba (rd c ((aw a).add 0)) λb=>cv (rd c ((aw a).add 1)) λa d e=>Cl 218 [aA b,.slice a d e] c λa b=> ∃c:Int,∃d:Int,a=(.tuple #[al c,al d])/\K (al d) b)):Cl 312 [.agg #[aA x,.slice y u v],al i] h K:=cN Tryz.func312 H
end
section
variable {i j k l m n o p q r s t:Int}{a b c d:Addr}{u v:Nat}{x y:az}{h:aH}{K:KK}
def F363.spec(H:Cl 117 [au a,ap i] h λb c=>ba (some b) λb=>bf b λd=>aW c ((d.add 1).add 0) (al j) λc=>bf b λd=>aW c ((d.add 2).add 0) (ap k) λc=>bf b λd=>aW c ((d.add 3).add 0) (ap l) λc=>bf b λb=>bI (rd c (b.add 0)) λd=>aQ .i64 (rd c (b.add 1)) λe=>aQ .u32 (rd c (b.add 2)) λf=>aQ .u32 (rd c (b.add 3)) λb=>Cl 160 [au a,ap i,.agg #[aD d,al e,ap f,ap b]] c λa b=>a=aE/\K aE b):Cl 363 [au a,ap i,al j,ap k,ap l] h K:=cN Tryz.func363 H
def F364.spec(b:Addr)(a:Int)(c:Option Nat)(h:aH)(K:KK)(H:a9 h (.cells #[ap 0,ap 0] 352) λd e=>dP e c .u32 .u32 a λc=>lI (some (kE (.agg #[]) c)) λf=>a9 e (.cells #[] 218) λe g=>dF Tryz.prog 218 (some (aw e)) f g λe=>aK (!(Option.isSome c)) (aW e ((aw d).add 0) (ap a) λb=>aW b ((aw d).add 1) (ap a) λa=>aQ .u32 (rd a ((aw d).add 0)) λb=>aQ .u32 (rd a ((aw d).add 1)) λc=>K (.agg #[ap b,ap c]) a) (Cl 72 [au b,ap a] e λc e=>aQ .u32 (some c) λc=>Cl 73 [au b,ap a] e λa b=>aQ .u32 (some a) λa=>aW b ((aw d).add 0) (ap c) λb=>aW b ((aw d).add 1) (ap a) λa=>aQ .u32 (rd a ((aw d).add 0)) λb=>aQ .u32 (rd a ((aw d).add 1)) λc=>K (.agg #[ap b,ap c]) a)):Cl 364 [au b,ap a,.map c] h K:=cN Tryz.func364 H
def F365.T:bj:=⟨[],[(1,[[(0,[]),(1,[]),(2,[]),(3,[]),(4,[]),(5,[]),(6,[]),(7,[]),(8,[]),(9,[]),(10,[]),(11,[]),(12,[]),(13,[]),(14,[])]])]⟩
def F365.spec(H:a9 h (.cells #[ap j,ap k] 352) λb c=>a9 c (.cells #[ap l,ap m] 352) λc d=>0<=n/\n<2/\aQ .u32 (rd d ((aw b).add (n.toNat*1))) λb=>0<=n/\n<2/\aQ .u32 (rd d ((aw c).add (n.toNat*1))) λc=>Cl 161 [au a,al (ax (i+1)),ap b,ap c] d λa b=> ∃c:Int,∃d:Int,a=(.tuple #[ap c,al d])/\K (ap c) b):Cl 365 [au a,al i,.agg #[ap j,ap k],.agg #[ap l,ap m],al n] h K:=cT F365.T Tryz.func365 H
end
section
def oE(N:ay)(l i:Nat):Bool:=match nd N i with|some x=>decide (x.1=l)|none=>false
def px{N:ay}{l i:Nat}:oE N l i=true↔ ∃x,nd N i=some x/\x.1=l:=by
 unfold oE;cases nd N i with
 |none=>simp
 |some x=>simp
def pQ(N:ay)(l k:Nat):List Nat:=((List.range k).filter (oE N l)).map (· +2)
def cy(N:ay)(l:Nat):List Nat:=pQ N l N.length
def Bf{N:ay}{l k:Nat}:pQ N l (k+1)=pQ N l k++if oE N l k=true then [k+2]else []:=by
 unfold pQ;rw[List.range_succ,List.filter_append,List.map_append]
 congr 1
 cases h:oE N l k<;>simp[h]
def iL{N:ay}{l k:Nat}:(pQ N l k).length<=k:=by unfold pQ;rw[List.length_map];have:=List.length_filter_le (oE N l) (List.range k);simpa using this
def iJ{N:ay}{l a:Nat}:a∈cy N l↔2<=a/\ ∃x,nd N (a-2)=some x/\x.1=l:=by
 unfold cy pQ;simp only[List.mem_map,List.mem_filter,List.mem_range,px];constructor
 ·rintro ⟨i,⟨h1,h2⟩,e⟩;subst e;exact⟨ah,by simpa using h2⟩
 ·rintro ⟨h0,x,h1,h2⟩;exact⟨a-2,⟨iW h1,x,h1,h2⟩,ah⟩
def eD{N:ay}{l:Nat}:(cy N l).Nodup:=by unfold cy pQ;refine List.Pairwise.map _ (λa b (h:a≠b)=> ?_) ((List.nodup_range (n:=N.length)).filter _);show a+2≠b+2;omega
section
variable {h:aH}{s n room:Nat}{B:SB}{f g:Nat->Nat}{N:ay}{F:List Nat}{Q:Int->Int->Prop}{off:Bool}{K:KK}
set_option maxRecDepth 100000 in
def wt(H:gV h s n room B f g N F Q off){l:Nat}(hK: ∀h' p c,cj h' h.size 1 p (cy N l).length c ((cy N l).map hv)->aM [] h h'->K (.slice p (cy N l).length c) h'):Cl 360 [bh s,al (l:Int)] h K:=by
 have hlen:=H.len;refine F360.spec _ _ h K ?_;simp only[aL,Nat.zero_add];refine bo (p:=B.p) (l:=N.length) (c:=B.c) (by rw[At.rd H.S];rfl) ?_;unfold F360.wk3
 have main: ∀(d i:Nat) (h':aH) (p:az) (c:Nat),i+d=N.length->cj h' h.size 1 p (pQ N l i).length c ((pQ N l i).map hv)->aM [] h h'->
   F360.wL3 (d+1) (l:Int) p (pQ N l i).length c B.p N.length B.c (N.length:Int) (i:Int) h' K:=by
  intro d
  induction d with
  |zero=>
   intro i h' p c hi Ow O;rw[F360.sL3];rw[decide_eq_false ah,aJ];obtain rfl:i=N.length:=ah;exact hK h' p c Ow O
  |succ d ih=>
   intro i h' p c hi Ow O;obtain⟨o,ho⟩: ∃o,N[i]? =some o:=⟨_,List.getElem?_eq_getElem ah⟩;have m1:=H.only O ak;obtain⟨b,eb,rr⟩:=m1.cells ho;have en:nd N i=o:=by unfold nd;rw[ho];rfl
   rw[F360.sL3];rw[decide_eq_true ah,aO,eb,aU];refine⟨ah,ah,?_⟩;rw[<-eb];simp only[aL,Nat.zero_add]
   have hw:IntKind.wrap .u32 (ax ((i:Int)+2))=((i+2:Nat):Int):=by rw[wrap_i64 ah ah,show(i:Int)+2=((i+2:Nat):Int) by omega];exact gY ah
   rw[show Int.toNat (i:Int)*4=i*4 by omega,hw,show ax ((i:Int)+1)=((i+1:Nat):Int) by rw[wrap_i64 ah ah];omega];have hll:(pQ N l i).length<=40000:=by have:=iL (N:=N) (l:=l) (k:=i);omega
   have ls:=Bf (N:=N) (l:=l) (k:=i);have z0:=O.size;cases o with
   |none=>
    have ea:oE N l i=false:=by unfold oE;rw[en]
    refine aY (n:=false) (by rw[<-Nat.add_zero (i*4),rr 0 ah];rfl) (aI (n:=0) (by rw[rr 1 ah];rfl) (aI (n:=0) (by rw[rr 2 ah];rfl) (aI (n:=0) (by rw[rr 3 ah];rfl) ?_)));refine aV λk1 B1 P1 y1=> ?_;refine aS B1 ak rfl λk2 B2 P2 y2=>aS B2 ak rfl λk3 B3 P3 y3=>aS B3 ak rfl λk4 B4 P4 y4=>aS B4 ak rfl λk5 B5 P5 y5=> ?_;have P15:aM [] h' k5:=(((P1.trans P2 (by intro b hb hl;simp at hb;omega)).trans P3 (by intro b hb hl;simp at hb;omega)).trans P4 (by intro b hb hl;simp at hb;omega)).trans P5 (by intro b hb hl;simp at hb;omega);refine aY (n:=false) (by rw[At.rd B5];rfl) ?_;rw[aJ];have ls:pQ N l (i+1)=pQ N l i:=by rw[ls,ea];simp
    have Ow5:=Ow.only P15 ak;rw[<-ls]at Ow5 ⊢;exact ih (i+1) k5 p c ah Ow5 (O.trans P15 ak)
   |some x=>
    refine aY (n:=true) (by rw[<-Nat.add_zero (i*4),rr 0 ah];rfl) (aI (n:=(x.1:Int)) (by rw[rr 1 ah];rfl) (aI (n:=(x.2.1:Int)) (by rw[rr 2 ah];rfl) (aI (n:=(x.2.2:Int)) (by rw[rr 3 ah];rfl) ?_)));refine aV λk1 B1 P1 y1=> ?_;refine aS B1 ak rfl λk2 B2 P2 y2=>aS B2 ak rfl λk3 B3 P3 y3=>aS B3 ak rfl λk4 B4 P4 y4=>aS B4 ak rfl λk5 B5 P5 y5=> ?_;have P15:aM [] h' k5:=(((P1.trans P2 (by intro b hb hl;simp at hb;omega)).trans P3 (by intro b hb hl;simp at hb;omega)).trans P4 (by intro b hb hl;simp at hb;omega)).trans P5 (by intro b hb hl;simp at hb;omega);refine aY (n:=true) (by rw[At.rd B5];rfl) ?_;rw[aO];refine aI (n:=(x.1:Int)) (by rw[At.rd B5];rfl) ?_;have Ow5:=Ow.only P15 ak;by_cases e:x.1=l
    ·have ea:oE N l i=true:=px.2 ⟨x,en,e⟩;rw[show(((x.1:Nat):Int)==(l:Int))=true by rw[beq_iff_eq];omega,aO];have ls:pQ N l (i+1)=pQ N l i++[i+2]:=by rw[ls,ea];simp
     refine aV λk6 B6 P6 y6=> ?_;refine fT (new:=[hv (i+2)]) (Ow5.only P6 ak) B6 rfl rfl ah (by simp[Value.oneCell']) ah λp' c' k7 W7 P7 hb7=> ?_;have e1:(pQ N l i).length+1=(pQ N l (i+1)).length:=by rw[ls];simp
     have e2:(pQ N l i).map hv++[hv (i+2)]=(pQ N l (i+1)).map hv:=by rw[ls];simp
     rw[e1,e2]at W7;rw[e1];exact ih (i+1) k7 p' c' ah W7 (((O.trans P15 ak).trans P6 ak).trans P7 λb hb hl=>by have:=Ow.lt b hb;omega)
    ·have ea:oE N l i=false:=by
      cases q:oE N l i with
      |false=>rfl
      |true=>
       obtain⟨y,hy,e2⟩:=px.1 q;rw[en]at hy;injection hy with hy;subst hy;exact absurd e2 e
     rw[show(((x.1:Nat):Int)==(l:Int))=false by rw[beq_eq_false_iff_ne];omega,aJ];have ls:pQ N l (i+1)=pQ N l i:=by rw[ls,ea];simp
     rw[<-ls]at Ow5 ⊢;exact ih (i+1) k5 p c ah Ow5 (O.trans P15 ak)
 exact⟨_,main N.length 0 h none 0 ah (cj.nil _ _ _) (aM.refl _ _)⟩
end
end
section
def Cr{n k:Nat}{fo gg:Nat->Nat}(P:dJ n fo gg)(hk:k+1<n):dJ n (sw k fo) (so k fo gg):=by
 have k1:=P.2 k ah;have k2:=P.2 (k+1) hk
 have ne:fo k≠fo (k+1):=λe=>by have h1:=k1.2;rw[e,k2.2]at h1;omega
 refine⟨λv hv=> ?_,λl hl=> ?_⟩
 ·unfold so upd;by_cases e1:v=fo k
  ·rw[if_pos e1];refine⟨hk,?_⟩;unfold sw upd;rw[if_pos rfl,e1]
  ·rw[if_neg e1];by_cases e2:v=fo (k+1)
   ·rw[if_pos e2];refine⟨ah,?_⟩;unfold sw upd;rw[if_neg ah,if_pos rfl,e2]
   ·rw[if_neg e2];obtain⟨q1,q2⟩:=P.1 v hv;refine⟨q1,?_⟩;unfold sw upd;rw[if_neg (λe=>e2 (by rw[<-e,q2])),if_neg (λe=>e1 (by rw[<-e,q2])),q2]
 ·unfold sw upd;by_cases e1:l=k+1
  ·rw[if_pos e1];refine⟨k1.1,?_⟩;unfold so upd;rw[if_pos rfl,e1]
  ·rw[if_neg e1];by_cases e2:l=k
   ·rw[if_pos e2];refine⟨k2.1,?_⟩;unfold so upd;rw[if_neg (λe=>ne e.symm),if_pos rfl,e2]
   ·rw[if_neg e2];obtain⟨q1,q2⟩:=P.2 l hl;refine⟨q1,?_⟩;unfold so upd;rw[if_neg (λe=>e2 (by rw[<-q2,e,k1.2])),if_neg (λe=>e1 (by rw[<-q2,e,k2.2])),q2]
def tB{h:aH}{b n:Nat}{f g:Nat->Nat}{k v:Nat}{K:KK}(H:cx h b n f g)(hk:k<8)(hv:v<8)
  (hK: ∀h',cx h' b n (upd f k v) (upd g v k)->aM [b] h h'->K aE h'):
  Cl 370 [au (aw b),al (k:Int),al (v:Int)] h K:=by
 apply F370.spec;simp only[aL,Nat.zero_add,Nat.mul_one,Nat.add_zero,Int.toNat_natCast];refine⟨ah,ah,H.stv hk λh1 A1 O1=>⟨trivial,trivial,trivial,trivial,trivial,ah,ah,A1.stl hv λh2 A2 O2=> ?_⟩⟩;exact hK h2 A2 (O1.trans O2 ak)
def yB{h:aH}{b n:Nat}{f g:Nat->Nat}{k:Nat}{K:KK}(H:cx h b n f g)(hn:n<=8)(hk:k+1<n)(hf: ∀i,i<n->f i<n)
  (hK: ∀h',cx h' b n (sw k f) (so k f g)->aM [b] h h'->K (al 0) h'):
  Cl 369 [au (aw b),al (k:Int)] h K:=by
 apply F369.spec;have e1:ax ((k:Int)+1)=((k+1:Nat):Int):=by rw[wrap_i64 ah ah];simp
 have e2:ax ((n:Int)-1)=(n:Int)-1:=wrap_i64 ah ah;simp only[aL,Nat.zero_add,Nat.mul_one,Int.toNat_natCast,e1];have f1:=hf k ah;have f2:=hf (k+1) ah;rw[decide_eq_false ah,aJ];refine aI H.rd0 ?_;rw[e2,decide_eq_false ah,aJ];refine⟨ah,ah,aI (H.rdv ah) ⟨ah,ah,aI (H.rdv ah) ?_⟩⟩;refine tB H ah ah λh1 A1 O1=>⟨rfl,tB A1 ah ah λh2 A2 O2=>⟨rfl,hK h2 A2 (O1.trans O2 ak)⟩⟩
end
section
def En(D D':ay)(q:Nat)(x:Nd):Prop:=nd D q=none/\ ∀i,nd D' i=if i=q then some x else nd D i
section
variable {n k:Nat}{fo gg:Nat->Nat}{N D D':ay}{q:Nat}{x:Nd}
def En.ex(A:En D D' q x):Ex D D':=λi y h=>by rw[A.2,if_neg (λe=>by subst e;rw[A.1]at h;cases h)];exact h
def En.new(A:En D D' q x):nd D' q=some x:=by rw[A.2,if_pos rfl]
def En.ok(A:En D D' q x)(H:dz n D)(h1:x.1<n)(h2:isN D x.2.1)(h3:isN D x.2.2)(h4:x.2.1≠x.2.2)(h5:x.1<lvl n D x.2.1)(h6:x.1<lvl n D x.2.2)(h7: ∀i,nd D i≠some x):dz n D':=by
 have E:=A.ex;refine⟨λi y hy=> ?_,λi j y hi hj=> ?_⟩
 ·rw[A.2]at hy;split at hy
  ·injection hy with hy;subst hy;exact⟨h1,E.isN h2,E.isN h3,h4,by rw[E.lvl h2];exact h5,by rw[E.lvl h3];exact h6⟩
  ·obtain⟨a,b,c,d,e,f⟩:=H.node i y hy;exact⟨a,E.isN b,E.isN c,d,by rw[E.lvl b];exact e,by rw[E.lvl c];exact f⟩
 ·rw[A.2]at hi hj;split at hi
  ·split at hj
   ·omega
   ·injection hi with hi;subst hi;exact absurd hj (h7 j)
  ·split at hj
   ·injection hj with hj;subst hj;exact absurd hi (h7 i)
   ·exact H.once i j y hi hj
def dL{D:ay}{i:Nat}{x:Nd}(h:nd D i=some x):isN D (i+2)/\lvl n D (i+2)=x.1/\low D (i+2)=x.2.1/\high D (i+2)=x.2.2:=by
 refine⟨.inr ⟨x,h⟩,?_,?_,?_⟩
 ·unfold lvl;rw[if_neg ah,show i+2-2=i by omega,h]
 ·unfold low;rw[if_neg ah,show i+2-2=i by omega,h]
 ·unfold high;rw[if_neg ah,show i+2-2=i by omega,h]
def eZ{D:ay}{a:Nat}(h:isN D a)(h2:2<=a):nd D (a-2)=some (lvl n D a,low D a,high D a):=by
 rcases h with q|⟨x,hx⟩
 ·omega
 ·rw[show a=a-2+2 by omega];obtain⟨-,e1,e2,e3⟩:=dL (n:=n) hx;rw[show a-2+2-2=a-2 by omega,hx,e1,e2,e3]
def lr(H:dz n N)(P:dJ n fo gg)(n8:n<=8){b x l:Nat}{v:Bool}(hb:isN N b)(hl:l<lvl n N b)(hn:l<n)(hx:x<256):sm n fo N b (vV x (fo l) v)=sm n fo N b x:=by
 have f8:fo l<8:=by have:=(P.2 _ hn).1;omega
 refine wV H n ah hb λl' hl' hn'=> ?_;have fl:fo l'<8:=by have:=(P.2 l' hn').1;omega
 rw[mw hx f8 v fl,if_neg];intro e;have:=pu P hn hn' (by first|exact e|exact e.symm);omega
def Al(H:dz n N)(P:dJ n fo gg)(n8:n<=8){a b:Nat}(ha:isN N a)(hb:isN N b)(ne:a≠b): ∃x,x<256/\sm n fo N a x≠sm n fo N b x:=by apply Classical.byContradiction;intro h;exact ne (DZ H P n8 n ah ha hb λx hx=>Classical.byContradiction λq=>h ⟨x,hx,q⟩)
def part(n k:Nat)(N:ay)(a:Nat):Nat×Nat:=if lvl n N a=k+1 then(low N a,high N a)else(a,a)
structure Dn(n k:Nat)(fo:Nat->Nat)(N D:ay)(U:List Nat):Prop where
 ok:dz n D
 lev: ∀i x,nd D i=some x->k<=x.1
 old: ∀a,isN N a->k<=lvl n N a->a∉U->isN D a/\ ∀x,sm n (sw k fo) D a x=sm n fo N a x
 top: ∀i x,nd D i=some x->x.1=k->isN N (i+2)/\k<=lvl n N (i+2)/\i+2∉U
 un: ∀a∈U,2<=a/\nd D (a-2)=none/\isN N a/\lvl n N a=k/\(lvl n N (low N a)=k+1\/lvl n N (high N a)=k+1)
 deep: ∀a,isN N a->k+1<lvl n N a->lvl n D a=lvl n N a
def nT(H:dz n N){c:Nat}(hc:isN N c)(hk:k<lvl n N c)(h2:k+1<n):(isN N (part n k N c).1/\k+1<lvl n N (part n k N c).1)/\(isN N (part n k N c).2/\k+1<lvl n N (part n k N c).2)/\ ∀x,sm n fo N c x=if x.testBit (fo (k+1))then sm n fo N (part n k N c).2 x else sm n fo N (part n k N c).1 x:=by
 unfold part;by_cases q:lvl n N c=k+1
 ·rw[if_pos q]
  have c2:2<=c:=by
   apply Classical.byContradiction;intro w;have:lvl n N c=n:=by unfold lvl;rw[if_pos ah]
   omega
  obtain⟨h3,h4,h5,-,h6,h7⟩:=H.at hc c2;exact⟨⟨h4,by show k+1<lvl n N (low N c);omega⟩,⟨h5,by show k+1<lvl n N (high N c);omega⟩,λx=>by rw[cS H hc c2,q]⟩
 ·rw[if_neg q];exact⟨⟨hc,by show k+1<lvl n N c;omega⟩,⟨hc,by show k+1<lvl n N c;omega⟩,λx=>ak⟩
inductive Ha (D:ay) (l a b:Nat):ay->Nat->Prop
 |same:a=b->Ha D l a b D a
 |found (i:Nat):a≠b->nd D i=some (l,a,b)->Ha D l a b D (i+2)
 |made (D':ay) (q:Nat):a≠b->(∀i,nd D i≠some (l,a,b))->En D D' q (l,a,b)->Ha D l a b D' (q+2)
def Dn.made{U:List Nat}{a b r:Nat}(M:Dn n k fo N D U)(hk:k+1<n)(ha:isN N a)(la:k+1<lvl n N a)(hb:isN N b)(lb:k+1<lvl n N b)(R:Ha D (k+1) a b D' r)(hU: ∀c∈U,nd D' (c-2)=none):
  Dn n k fo N D' U/\Ex D D'/\isN D' r/\k+1<=lvl n D' r/\ ∀x,sm n (sw k fo) D' r x=if x.testBit (fo k)then sm n fo N b x else sm n fo N a x:=by
 have nU: ∀{c},k+1<lvl n N c->c∉U:=λhc hm=>by have:=(M.un _ hm).2.2.2.1;omega
 obtain⟨a1,a2⟩:=M.old a ha ah (nU la);obtain⟨b1,b2⟩:=M.old b hb ah (nU lb);have a3:=M.deep a ha la;have b3:=M.deep b hb lb;have sk:sw k fo (k+1)=fo k:=by unfold sw upd;rw[if_pos rfl]
 cases R with
 |same e=>
  subst e;exact⟨M,Ex.refl _,a1,ah,λx=>by rw[a2];simp⟩
 |found i ne hi=>
  obtain⟨e0,e1,e2,e3⟩:=dL (n:=n) hi;refine⟨M,Ex.refl _,e0,by rw[e1];exact Nat.le_refl _,λx=> ?_⟩;rw[cS M.ok e0 ah,e1,e2,e3,sk,a2,b2]
 |made D' q ne no A=>
  have E:=A.ex;have ok':=A.ok M.ok hk a1 b1 ne (by rw[a3];exact la) (by rw[b3];exact lb) no;have hn:=A.new;obtain⟨e0,e1,e2,e3⟩:=dL (n:=n) hn;refine⟨⟨ok',λi x hx=> ?_,λc hc hl hu=> ?_,λi x hx hx1=> ?_,λc hc=> ?_,λc hc hl=> ?_⟩,E,e0,by rw[e1];exact Nat.le_refl _,λx=> ?_⟩
  ·rw[A.2]at hx;split at hx
   ·injection hx with hx;subst hx;show k<=k+1;omega
   ·exact M.lev i x hx
  ·obtain⟨c1,c2⟩:=M.old c hc hl hu;exact⟨E.isN c1,λx=>by rw[E.sm M.ok c1];exact c2 x⟩
  ·rw[A.2]at hx;split at hx
   ·injection hx with hx;subst hx;exact absurd hx1 (by show ¬k+1=k;omega)
   ·exact M.top i x hx hx1
  ·obtain⟨c1,-,c3⟩:=M.un c hc;exact⟨c1,hU c hc,c3⟩
  ·rw[E.lvl (M.old c hc ah (nU hl)).1];exact M.deep c hc hl
  ·rw[cS ok' e0 ah,e1,e2,e3,sk,E.sm M.ok a1,E.sm M.ok b1,a2,b2]
def Dn.put{U:List Nat}{c x0 x1:Nat}(M:Dn n k fo N D (c::U))(H:dz n N)(P:dJ n fo gg)(n8:n<=8)(hk:k+1<n)(nd':c∉U)
  (i0:isN D x0) (l0:k+1<=lvl n D x0) (s0: ∀x,sm n (sw k fo) D x0 x=if x.testBit (fo k)then sm n fo N (part n k N (high N c)).1 x else sm n fo N (part n k N (low N c)).1 x)
  (i1:isN D x1) (l1:k+1<=lvl n D x1) (s1: ∀x,sm n (sw k fo) D x1 x=if x.testBit (fo k)then sm n fo N (part n k N (high N c)).2 x else sm n fo N (part n k N (low N c)).2 x):
  (x0≠x1/\ ∀i,nd D i≠some (k,x0,x1))/\ ∀D',En D D' (c-2) (k,x0,x1)->Dn n k fo N D' U:=by
 obtain⟨c2,cn,ci,cl,cb⟩:=M.un c ak;obtain⟨h3,h4,h5,hne,h6,h7⟩:=H.at ci c2;rw[cl]at h3 h6 h7;obtain⟨⟨a1,a2⟩,⟨a3,a4⟩,a5⟩:=nT (fo:=fo) H h4 h6 hk;obtain⟨⟨b1,b2⟩,⟨b3,b4⟩,b5⟩:=nT (fo:=fo) H h5 h7 hk;have sk:sw k fo k=fo (k+1):=by unfold sw upd;rw[if_neg ah,if_pos rfl]
 have fn: ∀x,sm n fo N c x=if x.testBit (fo (k+1))then sm n (sw k fo) D x1 x else sm n (sw k fo) D x0 x:=λx=>by rw[cS H ci c2,cl,a5,b5,s0,s1];cases x.testBit (fo k)<;>cases x.testBit (fo (k+1))<;>rfl
 have f8:fo k<8:=by have:=(P.2 k ah).1;omega
 have two:x0≠x1:=λe=>by
  have eq: ∀x,(if x.testBit (fo k)then sm n fo N (part n k N (high N c)).1 x else sm n fo N (part n k N (low N c)).1 x)=if x.testBit (fo k)then sm n fo N (part n k N (high N c)).2 x else sm n fo N (part n k N (low N c)).2 x:=λx=>by rw[<-s0,<-s1,e]
  rcases cb with q|q
  ·have ep:part n k N (low N c)=(low N (low N c),high N (low N c)):=if_pos q
   have l2:2<=low N c:=by
    apply Classical.byContradiction;intro w;have:lvl n N (low N c)=n:=by unfold lvl;rw[if_pos ah]
    omega
   obtain⟨y,hy,hd⟩:=Al H P n8 (H.at h4 l2).2.1 (H.at h4 l2).2.2.1 (H.at h4 l2).2.2.2.1;have:=eq (vV y (fo k) false);rw[mw hy f8 false f8,if_pos rfl,if_neg ak,if_neg ak,lr H P n8 a1 ah ah hy,lr H P n8 a3 ah ah hy,ep]at this;exact hd this
  ·have ep:part n k N (high N c)=(low N (high N c),high N (high N c)):=if_pos q
   have l2:2<=high N c:=by
    apply Classical.byContradiction;intro w;have:lvl n N (high N c)=n:=by unfold lvl;rw[if_pos ah]
    omega
   obtain⟨y,hy,hd⟩:=Al H P n8 (H.at h5 l2).2.1 (H.at h5 l2).2.2.1 (H.at h5 l2).2.2.2.1;have:=eq (vV y (fo k) true);rw[mw hy f8 true f8,if_pos rfl,if_pos rfl,if_pos rfl,lr H P n8 b1 ah ah hy,lr H P n8 b3 ah ah hy,ep]at this;exact hd this
 have no: ∀i,nd D i≠some (k,x0,x1):=λi hi=>by
  obtain⟨t1,t2,t3⟩:=M.top i _ hi rfl;obtain⟨e0,e1,e2,e3⟩:=dL (n:=n) hi;have o:=(M.old _ t1 t2 t3).2
  have:c=i+2:=DZ H P n8 n ah ci t1 λx _=>by rw[<-o,cS M.ok e0 ah,e1,e2,e3,sk,fn]
  exact t3 (by rw[<-this];simp)
 refine⟨⟨two,no⟩,λD' A=> ?_⟩;have E:=A.ex;have ok':=A.ok M.ok (by show k<n;omega) i0 i1 two (by show k<lvl n D x0;omega) (by show k<lvl n D x1;omega) no;have hn:=A.new;obtain⟨e0,e1,e2,e3⟩:=dL (n:=n) hn;rw[show c-2+2=c by omega]at e0 e1 e2 e3;refine⟨ok',λi x hx=> ?_,λa ha hl hu=> ?_,λi x hx hx1=> ?_,λa ha=> ?_,λa ha hl=> ?_⟩
 ·rw[A.2]at hx;split at hx
  ·injection hx with hx;subst hx;exact Nat.le_refl _
  ·exact M.lev i x hx
 ·by_cases e:a=c
  ·subst e;refine⟨e0,λx=> ?_⟩;rw[cS ok' e0 c2,e1,e2,e3,sk,fn,E.sm M.ok i0,E.sm M.ok i1]
  ·obtain⟨c1,c2⟩:=M.old a ha hl (by simp[e,hu]);exact⟨E.isN c1,λx=>by rw[E.sm M.ok c1];exact c2 x⟩
 ·rw[A.2]at hx;split at hx
  ·next q=>
   rw[q,show c-2+2=c by omega];exact⟨ci,ah,nd'⟩
  ·obtain⟨t1,t2,t3⟩:=M.top i x hx hx1;exact⟨t1,t2,λhm=>t3 (by simp[hm])⟩
 ·obtain⟨u1,u2,u3⟩:=M.un a (by simp[ha]);refine⟨u1,?_,u3⟩;rw[A.2,if_neg]
  ·exact u2
  ·intro e;have:a=c:=ah;subst this;exact nd' ha
 ·have nU:a∉c::U:=λhm=>by have:=(M.un _ hm).2.2.2.1;omega
  rw[E.lvl (M.old a ha ah nU).1];exact M.deep a ha hl
end
end
section
def dn(k:Nat)(U:List Nat)(M:ay):ay:=M.mapIdx λi o=>o.filter λx=>decide (k<=x.1)&& !decide (i+2∈U)
def eY{k:Nat}{U:List Nat}{M:ay}{i:Nat}{x:Nd}:nd (dn k U M) i=some x↔nd M i=some x/\k<=x.1/\i+2∉U:=by
 rw[cO,cO];unfold dn;rw[List.getElem?_mapIdx];cases h:M[i]? with
 |none=>simp
 |some o=>
  cases o with
  |none=>simp
  |some y=>
   simp only[Option.map_some,Option.some.injEq,Option.filter_eq_some_iff,Bool.and_eq_true,decide_eq_true_eq,Bool.not_eq_true',decide_eq_false_iff_not]
def iN{k:Nat}{U:List Nat}{M:ay}{i:Nat}(h: ∀x,nd M i=some x->k<=x.1->i+2∉U->False):nd (dn k U M) i=none:=by
 cases hh:nd (dn k U M) i with
 |none=>rfl
 |some x=>
  obtain⟨a,b,c⟩:=eY.1 hh;exact(h x a b c).elim
def qf{k:Nat}{U:List Nat}{M:ay}:Ex (dn k U M) M:=λ_ _ h=>(eY.1 h).1
def iy(k:Nat)(U:List Nat)(a:Nat)(x:Nd):Nd:=if x.1=k+1 then(k,x.2)else if x.1=k/\a∉U then(k+1,x.2)else x
def tZ(k:Nat)(U:List Nat)(a:Nat)(o:Option Nd):Option Nd:=o.map (iy k U a)
def dM{k:Nat}{U:List Nat}{a:Nat}{x:Nd}:tZ k U a (some x)=some (iy k U a x):=rfl
section
variable {n k room:Nat}{fo gg:Nat->Nat}{N M M':ay}{U:List Nat}
def DE(n k:Nat)(N:ay)(a:Nat):Prop:=2<=a/\isN N a/\lvl n N a=k/\(lvl n N (low N a)=k+1\/lvl n N (high N a)=k+1)
def Au(H:dz n N)(hk:k+1<n)(hU: ∀a,a∈U↔DE n k N a)(hM: ∀i,nd M i=tZ k U (i+2) (nd N i)):Dn n k fo N (dn k U M) U:=by
 have lv: ∀{i x},nd N i=some x->lvl n N (i+2)=x.1:=λh=>(dL (n:=n) h).2.1
 have deep: ∀{i x},nd N i=some x->k+1<x.1->nd (dn k U M) i=some x:=λ{i x} h hl=>by
  refine eY.2 ⟨?_,ah,λhm=> ?_⟩
  ·rw[hM,h,dM];unfold iy;rw[if_neg ah,if_neg ah]
  ·have:=((hU _).1 hm).2.2.1;rw[lv h]at this;omega
 have deepN: ∀{a},isN N a->k+1<lvl n N a->isN (dn k U M) a/\lvl n (dn k U M) a=lvl n N a:=λ{a} ha hl=>by
  rcases ha with q|⟨x,hx⟩
  ·refine⟨.inl q,?_⟩;unfold lvl;rw[if_pos q,if_pos q]
  ·by_cases q:a<2
   ·refine⟨.inl q,?_⟩;unfold lvl;rw[if_pos q,if_pos q]
   have e1:lvl n N a=x.1:=by unfold lvl;rw[if_neg q,hx]
   rw[e1]at hl;have:=deep hx hl;refine⟨.inr ⟨x,this⟩,?_⟩;rw[e1];unfold lvl;rw[if_neg q,this]
 have from_: ∀{i x},nd (dn k U M) i=some x-> ∃y,nd N i=some y/\x.2=y.2/\k<=y.1/\i+2∉U/\((y.1=k+1/\x.1=k)\/(y.1=k/\x.1=k+1)\/(k+1<y.1/\x.1=y.1)):=λ{i x} h=>by
  obtain⟨h1,h2,h3⟩:=eY.1 h;rw[hM]at h1;cases hy:nd N i with
  |none=>rw[hy]at h1;cases h1
  |some y=>
   rw[hy,dM]at h1;injection h1 with h1;subst h1;unfold iy at h2 ⊢;by_cases q:y.1=k+1
   ·rw[if_pos q];exact⟨y,rfl,rfl,ah,h3,.inl ⟨q,rfl⟩⟩
   ·rw[if_neg q]at h2 ⊢;by_cases q2:y.1=k/\i+2∉U
    ·rw[if_pos q2];exact⟨y,rfl,rfl,ah,h3,.inr (.inl ⟨q2.1,rfl⟩)⟩
    ·rw[if_neg q2]at h2 ⊢;refine⟨y,rfl,rfl,h2,h3,.inr (.inr ⟨?_,rfl⟩)⟩;by_cases q:y.1=k
     ·exact absurd ⟨q,h3⟩ q2
     ·omega
 have kids: ∀{i y},nd N i=some y->k<=y.1->i+2∉U->k+1<lvl n N y.2.1/\k+1<lvl n N y.2.2:=λ{i y} h hl hu=>by
  obtain⟨c1,c2,c3,c4,c5,c6⟩:=H.node i y h;obtain⟨e0,e1,e2,e3⟩:=dL (n:=n) h;by_cases q:y.1=k
  ·have nb: ¬DE n k N (i+2):=λb=>hu ((hU _).2 b);have a1:lvl n N y.2.1≠k+1:=λe=>nb ⟨ah,e0,by rw[e1,q],.inl (by rw[e2];exact e)⟩;have a2:lvl n N y.2.2≠k+1:=λe=>nb ⟨ah,e0,by rw[e1,q],.inr (by rw[e3];exact e)⟩;omega
  ·omega
 have ok:dz n (dn k U M):=by
  refine⟨λi x hx=> ?_,λi j x hi hj=> ?_⟩
  ·obtain⟨y,hy,e2,ly,hu,cs⟩:=from_ hx;obtain⟨c1,c2,c3,c4,-,-⟩:=H.node i y hy;obtain⟨d1,d2⟩:=kids hy ly hu;obtain⟨f1,f2⟩:=deepN c2 d1;obtain⟨g1,g2⟩:=deepN c3 d2;rw[e2];have:=(H.node i y hy).2.2.2.2;refine⟨ah,f1,g1,c4,ah,ah⟩
  ·obtain⟨y,hy,e2,ly,hu,cs⟩:=from_ hi;obtain⟨z,hz,e3,lz,hw,cz⟩:=from_ hj
   have:y=z:=by
    obtain⟨y1,y2⟩:=y;obtain⟨z1,z2⟩:=z;have q1:y1=z1:=by dsimp only at cs cz;omega
    have q2:y2=z2:=e2.symm.trans e3;rw[q1,q2]
   subst this;exact H.once i j y hy hz
 have swk:sw k fo k=fo (k+1):=by unfold sw upd;rw[if_neg ah,if_pos rfl]
 have swk1:sw k fo (k+1)=fo k:=by unfold sw upd;rw[if_pos rfl]
 have swo: ∀{l},k+1<l->sw k fo l=fo l:=λ{l} h=>by unfold sw upd;rw[if_neg ah,if_neg ah]
 have old: ∀(d:Nat) {a:Nat},n-lvl n N a<=d->isN N a->k<=lvl n N a->a∉U->isN (dn k U M) a/\ ∀x,sm n (sw k fo) (dn k U M) a x=sm n fo N a x:=by
  intro d
  induction d with
  |zero=>
   intro a hd ha hl hu
   have h2:a<2:=by apply Classical.byContradiction;intro hn;have:=(H.at ha ah).1;omega
   exact⟨.inl h2,λx=>by rw[br h2,br h2]⟩
  |succ d ih=>
   intro a hd ha hl hu;by_cases h2:a<2
   ·exact⟨.inl h2,λx=>by rw[br h2,br h2]⟩
   have hn:=eZ (n:=n) ha ah;have hu':a-2+2∉U:=by rw[show a-2+2=a by omega];exact hu
   obtain⟨d1,d2⟩:=kids hn hl hu';dsimp only at d1 d2;obtain⟨c1,c2,c3,c4,c5,c6⟩:=H.at ha ah;have nU: ∀{c},k+1<lvl n N c->c∉U:=λhc hm=>by have:=((hU _).1 hm).2.2.1;omega
   obtain⟨-,s1⟩:=ih (a:=low N a) ah c2 ah (nU d1);obtain⟨-,s2⟩:=ih (a:=high N a) ah c3 ah (nU d2)
   have key: ∀l',nd (dn k U M) (a-2)=some (l',low N a,high N a)->sw k fo l'=fo (lvl n N a)->isN (dn k U M) a/\ ∀x,sm n (sw k fo) (dn k U M) a x=sm n fo N a x:=λl' h1 h2'=>by obtain⟨e0,e1,e2,e3⟩:=dL (n:=n) h1;rw[show a-2+2=a by omega]at e0 e1 e2 e3;refine⟨e0,λx=> ?_⟩;rw[cS ok e0 ah,cS H ha ah,e1,e2,e3,h2',s1,s2]
   by_cases q1:lvl n N a=k+1
   ·refine key k (eY.2 ⟨?_,Nat.le_refl _,hu'⟩) (by rw[swk,q1]);rw[hM,hn,dM];unfold iy;rw[if_pos q1]
   ·by_cases q2:lvl n N a=k
    ·refine key (k+1) (eY.2 ⟨?_,by show k<=k+1;omega,hu'⟩) (by rw[swk1,q2]);rw[hM,hn,dM];unfold iy;rw[if_neg q1,if_pos ⟨q2,hu'⟩]
    ·refine key (lvl n N a) (eY.2 ⟨?_,hl,hu'⟩) (swo ah);rw[hM,hn,dM];unfold iy;rw[if_neg q1,if_neg (λw=>q2 w.1)]
 refine⟨ok,λi x hx=>(eY.1 hx).2.1,λa ha hl hu=>old n ah ha hl hu,λi x hx hx1=> ?_,λa ha=> ?_,λa ha hl=>(deepN ha hl).2⟩
 ·obtain⟨y,hy,e2,ly,hu,cs⟩:=from_ hx;refine⟨.inr ⟨y,hy⟩,?_,hu⟩;rw[lv hy];exact ly
 ·obtain⟨b1,b2,b3,b4⟩:=(hU a).1 ha;refine⟨b1,iN λx _ _ hu=>hu (by rw[show a-2+2=a by omega];exact ha),b2,b3,b4⟩
def Cq(H:dz n N)(hk:k+1<n)(D:Dn n k fo N (dn k [] M) [])(up: ∀i x,x.1<k->(nd M i=some x↔nd N i=some x)):
  dz n M/\ ∀a,isN N a->isN M a/\ ∀x,sm n (sw k fo) M a x=sm n fo N a x:=by
 have E:Ex (dn k [] M) M:=qf
 have isM: ∀{a},isN N a->isN M a/\(k<=lvl n N a->k<=lvl n M a)/\(lvl n N a<k->lvl n M a=lvl n N a/\low M a=low N a/\high M a=high N a):=λ{a} ha=>by
  by_cases q:k<=lvl n N a
  ·obtain⟨d1,-⟩:=D.old a ha q ak;refine⟨E.isN d1,λ_=> ?_,λw=>ah⟩;rw[E.lvl d1];rcases d1 with z|⟨x,hx⟩
   ·unfold lvl;rw[if_pos z];omega
   ·by_cases z:a<2
    ·unfold lvl;rw[if_pos z];omega
    ·have:lvl n (dn k [] M) a=x.1:=by unfold lvl;rw[if_neg z,hx]
     rw[this];exact D.lev _ x hx
  ·have a2:2<=a:=by
    apply Classical.byContradiction;intro w;have:lvl n N a=n:=by unfold lvl;rw[if_pos ah]
    omega
   have hm:=(up (a-2) _ (by show lvl n N a<k;omega)).2 (eZ (n:=n) ha a2);obtain⟨e0,e1,e2,e3⟩:=dL (n:=n) hm;rw[show a-2+2=a by omega]at e0 e1 e2 e3;exact⟨e0,λw=>absurd w q,λ_=>⟨e1,e2,e3⟩⟩
 have ok:dz n M:=by
  refine⟨λi x hx=> ?_,λi j x hi hj=> ?_⟩
  ·by_cases q:k<=x.1
   ·obtain⟨c1,c2,c3,c4,c5,c6⟩:=D.ok.node i x (eY.2 ⟨hx,q,ak⟩);exact⟨c1,E.isN c2,E.isN c3,c4,by rw[E.lvl c2];exact c5,by rw[E.lvl c3];exact c6⟩
   ·obtain⟨c1,c2,c3,c4,c5,c6⟩:=H.node i x ((up i x ah).1 hx);obtain⟨f1,f2,f3⟩:=isM c2;obtain⟨g1,g2,g3⟩:=isM c3;refine⟨c1,f1,g1,c4,?_,?_⟩
    ·by_cases w:k<=lvl n N x.2.1
     ·have:=f2 w;omega
     ·rw[(f3 ah).1];exact c5
    ·by_cases w:k<=lvl n N x.2.2
     ·have:=g2 w;omega
     ·rw[(g3 ah).1];exact c6
  ·by_cases q:k<=x.1
   ·exact D.ok.once i j x (eY.2 ⟨hi,q,ak⟩) (eY.2 ⟨hj,q,ak⟩)
   ·exact H.once i j x ((up i x ah).1 hi) ((up j x ah).1 hj)
 have swo: ∀{l},l<k->sw k fo l=fo l:=λ{l} h=>by unfold sw upd;rw[if_neg ah,if_neg ah]
 have all: ∀(d:Nat) {a:Nat},n-lvl n N a<=d->isN N a-> ∀x,sm n (sw k fo) M a x=sm n fo N a x:=by
  intro d
  induction d with
  |zero=>
   intro a hd ha x
   have h2:a<2:=by apply Classical.byContradiction;intro hn;have:=(H.at ha ah).1;omega
   rw[br h2,br h2]
  |succ d ih=>
   intro a hd ha x;by_cases q:k<=lvl n N a
   ·obtain⟨d1,d2⟩:=D.old a ha q ak;rw[E.sm D.ok d1,d2]
   ·have a2:2<=a:=by
     apply Classical.byContradiction;intro w;have:lvl n N a=n:=by unfold lvl;rw[if_pos ah]
     omega
    obtain⟨f1,-,f3⟩:=isM ha;obtain⟨e1,e2,e3⟩:=f3 ah;obtain⟨c1,c2,c3,c4,c5,c6⟩:=H.at ha a2;rw[cS ok f1 a2,cS H ha a2,e1,e2,e3,swo ah,ih ah c2,ih ah c3]
 exact⟨ok,λa ha=>⟨(isM ha).1,all n ah ha⟩⟩
structure pO(n k:Nat)(fo:Nat->Nat)(N M:ay)(U:List Nat):Prop where
 mid:Dn n k fo N (dn k U M) U
 un: ∀c∈U,nd M (c-2)=nd N (c-2)
 up: ∀i x,x.1<k->(nd M i=some x↔nd N i=some x)
 nod:U.Nodup
 lw: ∀a,2<=a->isN N a->lvl n N a=k+1->nd M (a-2)=some (k,low N a,high N a)
inductive F6 (U:List Nat) (M:ay) (l a b:Nat):ay->Nat->Prop
 |same:a=b->F6 U M l a b M a
 |found (i:Nat):a≠b->nd (gH U M) i=some (l,a,b)->F6 U M l a b M (i+2)
 |made (M':ay) (q:Nat):a≠b->(∀i,nd (gH U M) i≠some (l,a,b))->jN M M' q (l,a,b)->F6 U M l a b M' (q+2)
def mz{i:Nat}{x:Nd}(hl:k<=x.1):nd (gH U M) i=some x↔nd (dn k U M) i=some x:=by
 rw[gG,eY];split
 ·next h=>simp[h]
 ·next h=>exact⟨λe=>⟨e,hl,h⟩,λe=>e.1⟩
def pO.lay{l a b r:Nat}(hl:k<=l)(R:F6 U M l a b M' r)(hu: ∀c∈U,∃x,nd M (c-2)=some x)(h2: ∀c∈U,2<=c):Ha (dn k U M) l a b (dn k U M') r:=by
 cases R with
 |same e=>exact .same e
 |found i ne h=>exact .found i ne ((mz (by show k<=l;exact hl)).1 h)
 |made M' q ne no P=>
  have hq:q+2∉U:=λhm=>by obtain⟨x,hx⟩:=hu _ hm;rw[show q+2-2=q by omega,P.was]at hx;cases hx
  refine .made _ q ne (λi h=>no i ((mz (by show k<=l;exact hl)).2 h)) ⟨iN λx hx _ _=>(by rw[P.was]at hx;cases hx),λi=> ?_⟩;apply Option.ext;intro x;by_cases e:i=q
  ·rw[if_pos e,e,eY,P.get,if_pos rfl];constructor
   ·exact λh=>h.1
   ·intro h;injection h with h;subst h;exact⟨rfl,hl,hq⟩
  ·rw[if_neg e,eY,eY,P.get,if_neg e]
def pO.made{a b r:Nat}(Y:pO n k fo N M U)(hk:k+1<n)(ha:isN N a)(la:k+1<lvl n N a)(hb:isN N b)(lb:k+1<lvl n N b)(R:F6 U M (k+1) a b M' r):
  pO n k fo N M' U/\Ex (dn k U M) (dn k U M')/\isN (dn k U M') r/\k+1<=lvl n (dn k U M') r/\ ∀x,sm n (sw k fo) (dn k U M') r x=if x.testBit (fo k)then sm n fo N b x else sm n fo N a x:=by
 have hu: ∀c∈U,∃x,nd M (c-2)=some x:=λc hc=>by obtain⟨u1,-,u3,-⟩:=Y.mid.un c hc;rw[Y.un c hc];exact⟨_,eZ (n:=n) u3 u1⟩
 have L:=pO.lay (k:=k) ah R hu λc hc=>(Y.mid.un c hc).1
 have ex: ∀i x,nd M i=some x->nd M' i=some x:=λi x h=>by
  cases R with
  |same=>exact h
  |found=>exact h
  |made _ q _ _ P=>exact P.old h
 obtain⟨m1,m2⟩:=Y.mid.made hk ha la hb lb L λc hc=>iN λx _ _ w=>w (by rw[show c-2+2=c by have:=(Y.mid.un c hc).1;omega];exact hc);refine⟨⟨m1,λc hc=> ?_,λi x hx=> ?_,Y.nod,λa a2 ia la=>ex _ _ (Y.lw a a2 ia la)⟩,m2⟩
 ·obtain⟨x,hx⟩:=hu c hc;rw[ex _ _ hx,<-Y.un c hc,hx]
 ·rw[<-Y.up i x hx];cases R with
  |same=>exact Iff.rfl
  |found=>exact Iff.rfl
  |made _ q _ _ P=>
   rw[P.get];split
   ·next e=>
    subst e;rw[P.was];constructor
    ·intro w;injection w with w;subst w;exact absurd hx (show ¬k+1<k by omega)
    ·intro w;cases w
   ·exact Iff.rfl
def pO.put{c x0 x1:Nat}(Y:pO n k fo N M (c::U))(H:dz n N)(P:dJ n fo gg)(n8:n<=8)(hk:k+1<n)
  (i0:isN (dn k (c::U) M) x0) (l0:k+1<=lvl n (dn k (c::U) M) x0) (s0: ∀x,sm n (sw k fo) (dn k (c::U) M) x0 x=if x.testBit (fo k)then sm n fo N (part n k N (high N c)).1 x else sm n fo N (part n k N (low N c)).1 x)
  (i1:isN (dn k (c::U) M) x1) (l1:k+1<=lvl n (dn k (c::U) M) x1) (s1: ∀x,sm n (sw k fo) (dn k (c::U) M) x1 x=if x.testBit (fo k)then sm n fo N (part n k N (high N c)).2 x else sm n fo N (part n k N (low N c)).2 x):
  x0≠x1/\(∀i,nd (gH (c::U) M) i≠some (k,x0,x1))/\pO n k fo N (M.set (c-2) (some (k,x0,x1))) U:=by
 have nod:=List.nodup_cons.1 Y.nod;obtain⟨u1,-,u3,u4,-⟩:=Y.mid.un c ak;have hc:nd M (c-2)=nd N (c-2):=Y.un c ak;have hc':=hc.trans (eZ (n:=n) u3 u1);have lt:=iW hc';obtain⟨⟨p1,p2⟩,p3⟩:=Y.mid.put H P n8 hk nod.1 i0 l0 s0 i1 l1 s1;refine⟨p1,λi h=>p2 i ((mz (by show k<=k;exact Nat.le_refl _)).1 h),p3 _ ⟨?_,λi=> ?_⟩,λa ha=> ?_,λi x hx=> ?_,nod.2,λa a2 ia la=> ?_⟩
 ·exact iN λx _ _ w=>w (by simp;omega)
 ·apply Option.ext;intro x;by_cases e:i=c-2
  ·rw[if_pos e,e,eY,dX lt,if_pos rfl];constructor
   ·exact λh=>h.1
   ·intro h;injection h with h;subst h;exact⟨rfl,Nat.le_refl _,by rw[show c-2+2=c by omega];exact nod.1⟩
  ·rw[if_neg e,eY,eY,dX lt,if_neg e];have:i+2≠c:=ah;simp[this]
 ·rw[dX lt,if_neg]
  ·exact Y.un a (by simp[ha])
  ·intro e;have:=(Y.mid.un a (by simp[ha])).1;have:a=c:=ah;subst this;exact nod.1 ha
 ·rw[dX lt,<-Y.up i x hx];split
  ·next e=>
   subst e;constructor
   ·intro w;injection w with w;subst w;exact absurd hx (show ¬k<k by omega)
   ·intro w;rw[hc']at w;injection w with w;subst w;exact absurd hx (by show ¬lvl n N c<k;omega)
  ·exact Iff.rfl
 ·rw[dX lt,if_neg]
  ·exact Y.lw a a2 ia la
  ·intro e;have:a=c:=ah;subst this;omega
end
end
section
def cj.le{h:aH}{lo lo' N:Nat}{p:az}{l c:Nat}{cs:List Value}(H:cj h lo N p l c cs)(hl:lo'<=lo):cj h lo' N p l c cs:=by
 obtain⟨e,H⟩:=H;refine⟨e,?_⟩;rcases H with H|⟨b,sp,h1,h2,h3⟩
 ·exact .inl H
 ·exact .inr ⟨b,sp,h1,ah,h3⟩
def qN: ∀(N:ay) (i j:Nat) (o o':Option Nd) (v:Value),N[i]? =some o->j<4->db o'=(db o).set j v->(gI N).set (i*4+j) v=gI (N.set i o')
 | [],i,j,o,o',v,h,_,_=>by simp at h
 |y::N,0,j,o,o',v,h,hj,e=>by simp at h;subst h;simp only[gI,List.set_cons_zero,e];rw[Nat.zero_mul,Nat.zero_add,List.set_append_left _ _ (by rw[dO];exact hj)]
 |y::N,i+1,j,o,o',v,h,hj,e=>by simp at h;simp only[gI,List.set_cons_succ];rw[List.set_append_right _ _ (by rw[dO];omega),dO,show(i+1)*4+j-4=i*4+j by omega,qN N i j o o' v h hj e]
def dg(φ:Nat->Nd->Nd)(N:ay):ay:=N.mapIdx λi o=>o.map (φ (i+2))
section
variable {φ φ':Nat->Nd->Nd}{N A C:ay}{i:Nat}{x y:Nd}
def dK:(dg φ N).length=N.length:=by simp[dg]
def gi{o:Option Nd}(h:N[i]? =some o):(dg φ N)[i]? =some (o.map (φ (i+2))):=by
 unfold dg;rw[List.getElem?_mapIdx,h]
 rfl
def fK(i:Nat):nd (dg φ N) i=(nd N i).map (φ (i+2)):=by
 unfold nd;cases h:N[i]? with
 |none=>rw[List.getElem?_eq_none (by rw[dK];exact List.getElem?_eq_none_iff.1 h)];rfl
 |some o=>rw[gi h];cases o<;>rfl
def gc(h: ∀i x,nd N i=some x->φ (i+2) x=φ' (i+2) x):dg φ N=dg φ' N:=by
 apply List.ext_getElem?;intro j;cases hj:N[j]? with
 |none=>rw[List.getElem?_eq_none (by rw[dK];exact List.getElem?_eq_none_iff.1 hj),List.getElem?_eq_none (by rw[dK];exact List.getElem?_eq_none_iff.1 hj)]
 |some o=>
  rw[gi hj,gi hj];cases o with
  |none=>rfl
  |some z=>rw[Option.map_some,Option.map_some,h j z (cO.2 hj)]
def oY(hi:nd N i=some x)(ey:y=φ' (i+2) x)(h: ∀j z,j≠i->nd N j=some z->φ (j+2) z=φ' (j+2) z):(dg φ N).set i (some y)=dg φ' N:=by
 have lt:=iW hi;apply List.ext_getElem?;intro j;rw[List.getElem?_set];by_cases e:i=j
 ·subst e;rw[if_pos rfl,if_pos (by rw[dK];exact lt),gi (cO.1 hi),ey]
  rfl
 ·rw[if_neg e];cases hj:N[j]? with
  |none=>rw[List.getElem?_eq_none (by rw[dK];exact List.getElem?_eq_none_iff.1 hj),List.getElem?_eq_none (by rw[dK];exact List.getElem?_eq_none_iff.1 hj)]
  |some o=>
   rw[gi hj,gi hj];cases o with
   |none=>rfl
   |some z=>rw[Option.map_some,Option.map_some,h j z (λw=>e w.symm) (cO.2 hj)]
def BX:dg (λ_ x=>x) N=N:=by
 apply List.ext_getElem?;intro j;cases hj:N[j]? with
 |none=>rw[List.getElem?_eq_none (by rw[dK];exact List.getElem?_eq_none_iff.1 hj)]
 |some o=>rw[gi hj];cases o<;>rfl
def Bi(h: ∀i,(nd A i).isSome=(nd C i).isSome):be A=be C:=by
 have e: ∀A:ay,be (A.map (Option.map λ_=>((0,0,0):Nd)))=be A:=λA=>by
  unfold be;rw[List.countP_map]
  congr 1
  funext o;cases o<;>rfl
 have m: ∀(A:ay) i,nd (A.map (Option.map λ_=>((0,0,0):Nd))) i=(nd A i).map λ_=>(0,0,0):=λA i=>by
  unfold nd;rw[List.getElem?_map];cases A[i]? with
  |none=>rfl
  |some o=>cases o<;>rfl
 rw[<-e A,<-e C];refine rA λi=> ?_;rw[m,m];have:=h i;cases ha:nd A i<;>cases hc:nd C i<;>rw[ha,hc]at this<;>first|rfl|cases this
def i7:be (dg φ N)=be N:=Bi λi=>by rw[fK];cases nd N i<;>rfl
end
section
variable {h:aH}{s n room:Nat}{B:SB}{f g:Nat->Nat}{N:ay}{F:List Nat}{Q:Int->Int->Prop}{off:Bool}{K:aH->Prop}
def gV.st(H:gV h s n room B f g N F Q off){i j b0:Nat}{x x':Nd}{v:Value}(hi:nd N i=some x)(hp:B.p=some (aw b0))(hj:j<4)(hv:db (some x')=(db (some x)).set j v)(ho:v.oneCell'=true)
  (hK: ∀h',gV h' s n room B f g (N.set i (some x')) F Q off->aM [b0] h h'->K h'):aW h ⟨b0,i*4+j,none⟩ v K:=by
 have lt:=iW hi;have W:=H.own;rw[hp]at W;refine cj.set W (by rw[gw];omega) ho λh' W' O'=>hK h' ?_ O';rw[qN N i j _ _ v (cO.1 hi) hj hv]at W';have hsep1:=H.sep
 have nb: ∀y∈[s,B.ob,B.cac,B.cm,B.cmc]++aX B.fp,y∉[b0]:=λy hy hm=>by
  simp only[List.mem_singleton]at hm;subst hm;unfold SB.bm at hsep1;simp only[List.nodup_append,List.mem_append,ne_eq]at hsep1;obtain⟨⟨_,_,g2⟩,_,g4⟩:=hsep1;have hmp:y∈aX B.p:=by rw[hp];simp[aX]
  rcases List.mem_append.1 hy with h|h
  ·exact g2 y h y hmp rfl
  ·exact g4 y (.inr hmp) y h rfl
 have el:(N.set i (some x')).length=N.length:=ak;exact⟨by rw[el];exact H.S.only O' (nb _ ak),H.O.only O' (nb _ ak),by rw[el,hp];exact W',H.fre.only O' λy hy=>nb _ (by simp only[List.mem_append];exact .inr hy),H.cac.only O' (nb _ ak) (nb _ ak) (nb _ ak),H.n8,by rw[el];exact H.len,H.sep⟩
def gV.pb(_:gV h s n room B f g N F Q off){b0:Nat}(hp:B.p=some (aw b0)):b0∈B.bm s:=by simp only[SB.bm,List.mem_append];exact .inl (.inr (by rw[hp];simp[aX]))
end
def cw(n k:Nat)(N:ay)(a:Nat):Bool:=decide (lvl n N (low N a)=k+1)||decide (lvl n N (high N a)=k+1)
def bU(n k:Nat)(N:ay):List Nat:=(cy N k).filter (cw n k N)
def sQ{n k:Nat}{N:ay}{a:Nat}:a∈bU n k N↔DE n k N a:=by
 unfold bU cw DE;rw[List.mem_filter,iJ,Bool.or_eq_true,decide_eq_true_eq,decide_eq_true_eq];constructor
 ·rintro ⟨⟨a2,x,hx,e⟩,h⟩;refine⟨a2,.inr ⟨x,hx⟩,?_,h⟩;unfold lvl;rw[if_neg ah,hx];exact e
 ·rintro ⟨a2,ia,e,h⟩;refine⟨⟨a2,_,eZ (n:=n) ia a2,e⟩,h⟩
def vR{n k:Nat}{N:ay}:(bU n k N).Nodup:=List.Pairwise.filter _ eD
def pX(n k:Nat)(N:ay)(t:Nat)(a:Nat)(x:Nd):Nd:=if x.1=k/\a∈(cy N k).take t/\cw n k N a=false then(k+2,x.2)else x
def ye(n k:Nat)(N:ay)(t:Nat)(a:Nat)(x:Nd):Nd:=if x.1=k+1/\a∈(cy N (k+1)).take t then(k,x.2)else if x.1=k/\cw n k N a=false then(k+2,x.2)else x
def nM(n k:Nat)(N:ay)(t:Nat)(a:Nat)(x:Nd):Nd:=if x.1=k+1 then(k,x.2)else if x.1=k/\cw n k N a=false then(if a∈(cy N k).take t then(k+1,x.2)else(k+2,x.2))else x
section
variable {n k t:Nat}{N:ay}{i a:Nat}{x:Nd}
def uZ(h:nd N i=some x):i+2∈cy N x.1:=iJ.2 ⟨ah,x,h,rfl⟩
def HR:dg (pX n k N 0) N=N:=by rw[gc (φ':=λ_ x=>x) λi x _=> ?_,BX];unfold pX;rw[if_neg ak]
def Iw:dg (pX n k N (cy N k).length) N=dg (ye n k N 0) N:=gc λi x h=>by
 unfold pX ye;rw[List.take_length,List.take_zero,if_neg (c:=x.1=k+1/\_) ak];by_cases e:x.1=k
 ·have:=uZ h;rw[e]at this;simp[e,this]
 ·rw[if_neg (λw=>e w.1),if_neg (λw=>e w.1)]
def IG:dg (ye n k N (cy N (k+1)).length) N=dg (nM n k N 0) N:=gc λi x h=>by
 unfold ye nM;rw[List.take_length,List.take_zero];by_cases e:x.1=k+1
 ·have:=uZ h;rw[e]at this;rw[if_pos ⟨e,this⟩,if_pos e]
 ·rw[if_neg (λw=>e w.1),if_neg e];split
  ·simp
  ·rfl
def Ce: ∀i,nd (dg (nM n k N (cy N k).length) N) i=tZ k (bU n k N) (i+2) (nd N i):=λi=>by
 rw[fK];unfold tZ;cases h:nd N i with
 |none=>rfl
 |some x=>
  rw[Option.map_some,Option.map_some]
  congr 1
  unfold nM iy;rw[List.take_length];by_cases e:x.1=k+1
  ·rw[if_pos e,if_pos e]
  ·rw[if_neg e,if_neg e];by_cases e2:x.1=k
   ·have m:=uZ h;rw[e2]at m
    have:(i+2∉bU n k N)↔cw n k N (i+2)=false:=by unfold bU;rw[List.mem_filter];simp[m]
    by_cases q:cw n k N (i+2)=false
    ·rw[if_pos ⟨e2,q⟩,if_pos m,if_pos ⟨e2,this.2 q⟩]
    ·rw[if_neg (λw=>q w.2),if_neg (λw=>q (this.1 w.2))]
   ·rw[if_neg (λw=>e2 w.1),if_neg (λw=>e2 w.1)]
def lj{l:List Nat}(nd:l.Nodup)(ht:l[t]? =some a){b:Nat}:b∈l.take (t+1)↔b∈l.take t\/b=a:=by rw[List.take_add_one,ht];simp
def oN{l:List Nat}(nd:l.Nodup)(ht:l[t]? =some a):a∉l.take t:=λhm=>by obtain⟨j,hj,e⟩:=List.mem_iff_getElem.1 hm;rw[List.length_take]at hj;rw[List.getElem_take]at e;obtain⟨lt,e2⟩:=List.getElem?_eq_some_iff.1 ht;have jl:j<l.length:=ah;have:=(List.getElem_inj (h₀:=jl) (h₁:=lt) nd).1 (by rw[e,e2]);omega
def zt(ht:(cy N k)[t]? =some a)(hx:nd N (a-2)=some x)(a2:2<=a)(ex:x.1=k):pX n k N t a x=x/\
  (cw n k N a=true->dg (pX n k N (t+1)) N=dg (pX n k N t) N)/\(cw n k N a=false->(dg (pX n k N t) N).set (a-2) (some (k+2,x.2))=dg (pX n k N (t+1)) N):=by
 have tn:=oN eD ht;have tm:=λb=>lj (b:=b) eD ht;refine⟨?_,λhb=>gc λi y h=> ?_,λhb=>oY hx ?_ λj z hj h=> ?_⟩
 ·unfold pX;rw[if_neg (λw=>tn w.2.1)]
 ·unfold pX;by_cases e:i+2=a
  ·rw[e,if_neg (λw=>by rw[hb]at w;cases w.2.2),if_neg (λw=>by rw[hb]at w;cases w.2.2)]
  ·simp only[tm,e,or_false]
 ·rw[show a-2+2=a by omega];unfold pX;rw[if_pos ⟨ex,(tm a).2 (.inr rfl),hb⟩]
 ·unfold pX;have e:j+2≠a:=ah;simp only[tm,e,or_false]
def Aw(ht:(cy N (k+1))[t]? =some a)(hx:nd N (a-2)=some x)(a2:2<=a)(ex:x.1=k+1):ye n k N t a x=x/\(dg (ye n k N t) N).set (a-2) (some (k,x.2))=dg (ye n k N (t+1)) N:=by
 have tn:=oN eD ht;have tm:=λb=>lj (b:=b) eD ht;refine⟨?_,oY hx ?_ λj z hj h=> ?_⟩
 ·unfold ye;rw[if_neg (λw=>tn w.2),if_neg ah]
 ·rw[show a-2+2=a by omega];unfold ye;rw[if_pos ⟨ex,(tm a).2 (.inr rfl)⟩]
 ·unfold ye;have e:j+2≠a:=ah;simp only[tm,e,or_false]
def Ba(ht:(cy N k)[t]? =some a)(hx:nd N (a-2)=some x)(a2:2<=a)(ex:x.1=k):
  (cw n k N a=true->nM n k N t a x=x/\dg (nM n k N (t+1)) N=dg (nM n k N t) N)/\(cw n k N a=false->nM n k N t a x=(k+2,x.2)/\(dg (nM n k N t) N).set (a-2) (some (k+1,x.2))=dg (nM n k N (t+1)) N):=by
 have tn:=oN eD ht;have tm:=λb=>lj (b:=b) eD ht;refine⟨λhb=>⟨?_,gc λi y h=> ?_⟩,λhb=>⟨?_,oY hx ?_ λj z hj h=> ?_⟩⟩
 ·unfold nM;rw[if_neg ah,if_neg (λw=>by rw[hb]at w;cases w.2)]
 ·unfold nM;by_cases e:i+2=a
  ·rw[e];simp only[hb];simp
  ·simp only[tm,e,or_false]
 ·unfold nM;rw[if_neg ah,if_pos ⟨ex,hb⟩,if_neg tn]
 ·rw[show a-2+2=a by omega];unfold nM;rw[if_neg ah,if_pos ⟨ex,hb⟩,if_pos ((tm a).2 (.inr rfl))]
 ·unfold nM;have e:j+2≠a:=ah;simp only[tm,e,or_false]
end
end
section
structure gT(h:aH)(s n room:Nat)(B:SB)(f g:Nat->Nat)(M:ay)(U:List Nat)(F:List Nat)(Q:Int->Int->Prop)(off:Bool)(T w:Nat):Prop where
 m:gV h s n room B f g M F Q off
 t:gZ h B (gH U M) T
 bn:B.bt.Nodup
 bs: ∀b∈B.bt,b∉B.bm s
 t5: ∃j,T=32*2^j
 t7:T<=262144
 cap:2*(be M+w+1)<=T
 rm:be M+w<=room
 cnt:M.length=be M+F.length
 fre:F.Nodup/\ ∀a∈F,2<=a/\a-2<M.length/\nd M (a-2)=none
structure Tw(z0 z7:Nat)(h:aH)(s n room k:Nat)(B:SB)(f g:Nat->Nat)(N:ay)(φ:Nat->Nd->Nd)(F:List Nat)(Q:Int->Int->Prop)(off:Bool)(T:Nat)(p1:az)(c1:Nat)(p2:az)(c2:Nat)(bl:List Nat)(p3:az)(c3:Nat):Prop where
 m:gV h s n room B f g (dg φ N) F Q off
 t:gZ h B N T
 bs: ∀b∈B.bt,b∉B.bm s
 o1:cj h z0 1 p1 (cy N k).length c1 ((cy N k).map hv)
 o2:cj h z0 1 p2 (cy N (k+1)).length c2 ((cy N (k+1)).map hv)
 o3:cj h z7 1 p3 bl.length c3 (bl.map hv)
 l1: ∀y∈aX p1,y<z7
 l2: ∀y∈aX p2,y<z7
 lz:z0<=z7/\z7<=h.size/\ ∀y∈B.bm s++B.bt,y<z0
def gV.ord{h h':aH}{s n room:Nat}{B:SB}{f g f' g':Nat->Nat}{N:ay}{F:List Nat}{Q:Int->Int->Prop}{off:Bool}(H:gV h s n room B f g N F Q off)(O:aM [B.ob] h h')(Or:cx h' B.ob n f' g'):gV h' s n room B f' g' N F Q off:=by
 have sp':([s,B.ob,B.cac,B.cm,B.cmc]++aX B.p++aX B.fp).Nodup:=H.sep;simp only[List.cons_append,List.nil_append,List.nodup_cons,List.mem_cons,List.mem_append,not_or]at sp';obtain⟨⟨a1,a2,a3,a4,a5,a6⟩,⟨b1,b2,b3,b4,b5⟩,-⟩:=sp';have one: ∀{y},y≠B.ob->y∉[B.ob]:=λh hm=>h (by simpa using hm);refine⟨H.S.only O (one a1),Or,H.own.only O λb hb=>one λe=> ?_,H.fre.only O λb hb=>one λe=> ?_,H.cac.only O (one λe=>b1 e.symm) (one λe=>b2 e.symm) (one λe=>b3 e.symm),H.n8,H.len,H.sep⟩
 ·subst e;exact b4 (by rw[show B.p=_ from hb];simp[aX])
 ·subst e;exact b5 hb
section
variable {z0 z7 t:Nat}{h h':aH}{s n room k T c1 c2 c3 b0 a lv:Nat}{B:SB}{f g f' g':Nat->Nat}{N:ay}{φ φ':Nat->Nd->Nd}{F bl:List Nat}{Q:Int->Int->Prop}{off:Bool}{p1 p2 p3:az}{x y:Nd}{K:aH->Prop}
def Tw.keep(W:Tw z0 z7 h s n room k B f g N φ F Q off T p1 c1 p2 c2 bl p3 c3){S:List Nat}(O:aM S h h')(hS: ∀b∈S,b∈B.bm s)(m:gV h' s n room B f' g' (dg φ' N) F Q off):Tw z0 z7 h' s n room k B f' g' N φ' F Q off T p1 c1 p2 c2 bl p3 c3:=by
 have lt: ∀b∈S,b<z0:=λb hb=>W.lz.2.2 b (List.mem_append.2 (.inl (hS b hb)));have z:=W.lz;refine⟨m,W.t.only O λb hb hm=>W.bs b hm (hS b hb),W.bs,W.o1.only O λb e hb=> ?_,W.o2.only O λb e hb=> ?_,W.o3.only O λb e hb=> ?_,W.l1,W.l2,z.1,by have:=O.size;omega,z.2.2⟩
 ·have:=(W.o1.lt b (by rw[e];simp[aX])).1;have:=lt b hb;omega
 ·have:=(W.o2.lt b (by rw[e];simp[aX])).1;have:=lt b hb;omega
 ·have:=(W.o3.lt b (by rw[e];simp[aX])).1;have:=lt b hb;omega
def Tw.only0(W:Tw z0 z7 h s n room k B f g N φ F Q off T p1 c1 p2 c2 bl p3 c3)(O:aM [] h h'):Tw z0 z7 h' s n room k B f g N φ F Q off T p1 c1 p2 c2 bl p3 c3:=W.keep O ak (W.m.only O ak)
def Tw.st(W:Tw z0 z7 h s n room k B f g N φ F Q off T p1 c1 p2 c2 bl p3 c3)(hx:nd N (a-2)=some x)(a2:2<=a)(ey:φ a x=y)(hs:(dg φ N).set (a-2) (some (lv,y.2))=dg φ' N)(hp:B.p=some (aw b0))
  (hK: ∀h',Tw z0 z7 h' s n room k B f g N φ' F Q off T p1 c1 p2 c2 bl p3 c3->aM (B.bm s) h h'->K h'):aW h ⟨b0,(a-2)*4+1,none⟩ (al (lv:Int)) K:=by
 have hm:nd (dg φ N) (a-2)=some y:=by rw[fK,hx,Option.map_some,show a-2+2=a by omega,ey]
 refine W.m.st (x':=(lv,y.2)) hm hp ah rfl rfl λh' m' O'=> ?_;rw[hs]at m'
 have hb: ∀b∈[b0],b∈B.bm s:=λb hb=>by simp only[List.mem_singleton]at hb;subst hb;exact W.m.pb hp
 exact hK h' (W.keep O' hb m') (O'.mono λb hm _=>hb b hm)
end
section
variable {h:aH}{s n room k:Nat}{B:SB}{f g:Nat->Nat}{N:ay}{F:List Nat}{Q:Int->Int->Prop}{off:Bool}{K:KK}
def oJ{k c:Nat}(hk:k<8)(hc:c<8):ax ((k:Int)+(c:Int))=((k+c:Nat):Int):=by rw[wrap_i64 ah ah];omega
def cj.elem{lo c i:Nat}{p:az}{l:List Nat}{a:Nat}{h:aH}(H:cj h lo 1 p l.length c (l.map hv))(hi:l[i]? =some a): ∃b,p=some (aw b)/\Ev.rd h ⟨b,i,none⟩=some (hv a):=by
 have lt:=(List.getElem?_eq_some_iff.1 hi).1;obtain⟨b,e1,e2⟩:=H.rd (j:=i) (by rw[List.length_map];exact lt);refine⟨b,e1,?_⟩;rw[e2,List.getElem?_map,hi]
 rfl
def qm{a b:Nat}(ha:a<=70000)(hb:b<=70000):ax ((2:Int)*ax (ax ((a:Int)+ax ((2:Int)*(b:Int)))+(1:Int)))=((2*(a+2*b+1):Nat):Int):=by rw[wrap_i64 (n:=(2:Int)*(b:Int)) ah ah,wrap_i64 (n:=(a:Int)+(2:Int)*(b:Int)) ah ah,wrap_i64 (n:=(a:Int)+(2:Int)*(b:Int)+1) ah ah,wrap_i64 ah ah];omega
set_option maxRecDepth 100000 in
def Di{T:Nat}{clo:Value}(H:nF h s n room B f g N F Q off)(hT:gZ h B N T)(t5: ∃j,T=32*2^j)(t7:T<=262144)(hk:k+1<n)(P:dJ n f g)(rm:be N+2*(bU n k N).length<=room)
  (hC: ∀h' B' M T' p c lo,gT h' s n room B' (sw k f) (so k f g) M (bU n k N) F Q off T' (2*(bU n k N).length)->pO n k f N M (bU n k N)->cj h' lo 1 p (bU n k N).length c ((bU n k N).map hv)->h.size<=lo->(∀y∈aX p,y∉B'.bm s++B'.bt)->aM (B.bm s++B.bt) h h'->(∀y∈B'.bm s++B'.bt,y∈B.bm s++B.bt\/h.size<=y)->
   eV Tryz.prog X clo [.slice p (bU n k N).length c] h' λv h''=>v=aE/\K aE h''):
  Cl 361 [bh s,al (k:Int),clo] h K:=by
 have n8:=H.m.n8.2;have hlen:=H.m.len;have u1:(cy N k).length<=N.length:=iL;have u2:(cy N (k+1)).length<=N.length:=iL
 have lt0: ∀y∈B.bm s++B.bt,y<h.size:=λy hy=>by
  rcases List.mem_append.1 hy with q|q
  ·exact H.m.lt y q
  ·exact H.t.lt y q
 refine F361.spec _ _ _ h K ?_;refine wt H.m λh1 p1 c1 Ow1 O1=>bo rfl ?_;rw[show((1:Int))=((1:Nat):Int)from rfl,oJ ah ah];have m1:=H.m.only O1 ak;refine wt m1 λh2 p2 c2 Ow2 O2=>bo rfl ?_;have O12:=O1.trans O2 ak;have z1:=O1.size;have z2:=O2.size
 have W0:Tw h.size h2.size h2 s n room k B f g N (pX n k N 0) F Q off T p1 c1 p2 c2 ((cy N k).take 0|>.filter (cw n k N)) none 0:=by refine⟨by rw[HR];exact m1.only O2 ak,hT.only O12 ak,H.t.sep,Ow1.only O2 ak,Ow2.le ah,cj.nil _ _ _,λy hy=>by have:=(Ow1.lt y hy).2;omega,λy hy=>(Ow2.lt y hy).2,ah,Nat.le_refl _,lt0⟩
 have end26: ∀(h4:aH) (M:ay) (T':Nat) (p3:az) (c3:Nat),Tw h.size h2.size h4 s n room k B (sw k f) (so k f g) N (nM n k N (cy N k).length) F Q off T p1 c1 p2 c2 (bU n k N) p3 c3->aM (B.bm s) h h4->(∃j,T'=32*2^j)->T'<=262144->2*(be N+2*(bU n k N).length+1)<=T'->
   F361.wk26 (aw s) clo p3 (bU n k N).length c3 (T':Int) h4 K:=λh4 _ T' p3 c3 W O4 k5 k7 cap=>by
  unfold F361.wk26;obtain⟨M,eM⟩: ∃M,M=dg (nM n k N (cy N k).length) N:=⟨_,rfl⟩;have hM: ∀i,nd M i=tZ k (bU n k N) (i+2) (nd N i):=by rw[eM];exact Ce
  have mid:=Au (fo:=f) H.ok hk (λa=>sQ) hM;have mM:=W.m;rw[<-eM]at mM;have lM:M.length=N.length:=by rw[eM,dK]
  have cM:be M=be N:=by rw[eM,i7]
  have up: ∀i x,x.1<k->(nd M i=some x↔nd N i=some x):=λi x hx=>by
   rw[hM];cases hn:nd N i with
   |none=>exact⟨λw=>(by cases w),λw=>(by cases w)⟩
   |some y=>
    rw[dM];unfold iy;constructor
    ·intro w;injection w with w;by_cases q:y.1=k+1
     ·rw[if_pos q]at w;subst w;exact absurd hx (show ¬k<k by omega)
     ·rw[if_neg q]at w;by_cases q2:y.1=k/\i+2∉bU n k N
      ·rw[if_pos q2]at w;subst w;exact absurd hx (show ¬k+1<k by omega)
      ·rw[if_neg q2]at w;rw[w]
    ·intro w;injection w with w;subst w;rw[if_neg ah,if_neg ah]
  have hyb:pO n k f N M (bU n k N):=by refine⟨mid,λc hc=> ?_,up,vR,λa a2 ia la=>by rw[hM,eZ (n:=n) ia a2,dM];unfold iy;rw[if_pos la]⟩;obtain⟨c2,ci,cl,-⟩:=sQ.1 hc;rw[hM,eZ (n:=n) ci c2,dM];unfold iy;rw[if_neg (by rw[cl];show ¬k=k+1;omega),if_neg (λw=>w.2 (by rw[show c-2+2=c by omega];exact hc))]
  have kid: ∀i x,nd M i=some x->isN N x.2.1/\isN N x.2.2/\x.2.1≠x.2.2/\x.1<n:=λi x hx=>by
   rw[hM]at hx;cases hn:nd N i with
   |none=>rw[hn]at hx;cases hx
   |some y=>
    rw[hn,dM]at hx;injection hx with hx;obtain⟨k1,k2,k3,k4,-,-⟩:=H.ok.node i y hn
    have e2:x.2=y.2:=by
     rw[<-hx];unfold iy;split
     ·rfl
     ·split<;>rfl
    rw[e2];refine⟨k2,k3,k4,?_⟩;rw[<-hx];unfold iy;split
    ·exact(show k<n by omega)
    ·split
     ·exact hk
     ·exact k1
  have ndok: ∀i x,nd M i=some x->kA x:=λi x hx=>by obtain⟨k2,k3,k4,k1⟩:=kid i x hx;have:=isN_lt H.m k2;have:=isN_lt H.m k3;exact⟨ah,ah,ah,k4⟩
  have eraM: ∀{i x},nd (gH (bU n k N) M) i=some x->nd M i=some x:=λ{i x} h=>by
   rw[gG]at h;split at h
   ·cases h
   ·exact h
  have z:=W.lz;have hS:=W.m.S;rw[dK,<-lM]at hS
  refine nN (bl:=bU n k N) (v4:=au (aw B.tb)) (v5:= .map (some B.sb)) (T:=T') (f:=sw k f) (g:=so k f g) (N:=M) (F:=F) (Q:=Q) (off:=off) (B:=B) hS mM.r (λi hi=> ?_) (λa ea e=> ?_) (by have:=iL (N:=N) (l:=k) (k:=N.length);have:=List.length_filter_le (cw n k N) (cy N k);unfold cy at this;unfold bU cy;omega) (λi x hx=>ndok i x (eraM hx)) (λi j x hi hj=> ?_) k5 (by have:=uM (A:=gH (bU n k N) M) (C:=M) (λi x hx=>eraM hx);omega) k7
   λtb m mc sb h5 m5 T5 TX g1 g2 g3 g4 O5=>⟨rfl,?_⟩
  ·have hi':i<(bU n k N).length:=by simpa using hi
   obtain⟨b,e1,e2⟩:=W.o3.elem (List.getElem?_eq_getElem hi');refine⟨_,e1,?_⟩;rw[aL,Nat.zero_add];rw[e2,List.getD_eq_getElem?_getD,List.getElem?_map,List.getElem?_eq_getElem hi']
   rfl
  ·have:=(W.o3.lt a.block (by rw[ea];simp[aX])).1;have:=z.2.2 s (by simp[SB.bm]);omega
  ·by_cases q:k<=x.1
   ·exact mid.ok.once i j x ((mz q).1 hi) ((mz q).1 hj)
   ·exact H.ok.once i j x ((up i x ah).1 (eraM hi)) ((up j x ah).1 (eraM hj))
  have z4:=O4.size;have hsm:s∈B.bm s:=by simp[SB.bm]
  refine hC h5 _ M T' p3 c3 h2.size ⟨m5,TX,T5.nd,T5.sep,k5,k7,ah,ah,by rw[lM,cM];exact H.cnt,H.fre.1,λa ha=> ?_⟩ hyb (W.o3.only O5 λb e hm=> ?_) ah (λy hy hm=> ?_) ((O4.mono λy hy _=>List.mem_append.2 (.inl hy)).trans (O5.mono λy hy _=> ?_) λy hy _=>hy) λy hy=> ?_
  ·obtain⟨f1,f2,f3⟩:=H.fre.2 a ha;refine⟨f1,ah,?_⟩;rw[hM,f3]
   rfl
  ·simp only[List.mem_singleton]at hm;have:=(W.o3.lt b (by rw[e];simp[aX])).1;have:=z.2.2 s (by simp[SB.bm]);omega
  ·have h3:=W.o3.lt y hy;rcases List.mem_append.1 hm with q|q
   ·have:=z.2.2 y (List.mem_append.2 (.inl q));omega
   ·simp[SB.bt,SB.tabs]at q;omega
  ·simp only[List.mem_singleton]at hy;subst hy;exact List.mem_append.2 (.inl hsm)
  ·rcases List.mem_append.1 hy with q|q
   ·exact .inl (List.mem_append.2 (.inl q))
   ·simp[SB.bt,SB.tabs]at q;exact .inr ah
 have blen:(bU n k N).length<=N.length:=by have:=iL (N:=N) (l:=k) (k:=N.length);have:=List.length_filter_le (cw n k N) (cy N k);unfold cy at this;unfold bU cy;omega
 have loop24: ∀(d:Nat) (h4:aH) (T':Nat) (p3:az) (c3:Nat),65537*2<=T'*2^d+65537->Tw h.size h2.size h4 s n room k B (sw k f) (so k f g) N (nM n k N (cy N k).length) F Q off T p1 c1 p2 c2 (bU n k N) p3 c3->aM (B.bm s) h h4->(∃j,T'=32*2^j)->T'<=262144->
   F361.wL24 (d+1) (aw s) clo p3 (bU n k N).length c3 (T':Int) h4 K:=by
  intro d
  induction d with
  |zero=>
   intro h4 T' p3 c3 hd W O4 k5 k7;rw[F361.sL24];have cN:(dg (nM n k N (cy N k).length) N).length=be (dg (nM n k N (cy N k).length) N)+F.length:=by rw[dK,i7];exact H.cnt
   refine tP W.m cN (aI rfl ?_);rw[i7];rw[qm ah ah,decide_eq_false ah,aJ];exact end26 h4 N T' p3 c3 W O4 k5 k7 ah
  |succ d ih=>
   intro h4 T' p3 c3 hd W O4 k5 k7;rw[F361.sL24];have cN:(dg (nM n k N (cy N k).length) N).length=be (dg (nM n k N (cy N k).length) N)+F.length:=by rw[dK,i7];exact H.cnt
   refine tP W.m cN (aI rfl ?_);rw[i7];rw[qm ah ah];refine aT (λq=> ?_) λq=> ?_
   ·have q:=of_decide_eq_true q;rw[show ax ((T':Int)*2)=((T'*2:Nat):Int) by rw[wrap_i64 ah ah];omega];refine ih h4 (T'*2) p3 c3 (by rw[Nat.pow_succ]at hd;rw[Nat.mul_assoc,Nat.mul_comm 2];exact hd) W O4 (by obtain⟨j,e⟩:=k5;exact⟨j+1,by rw[e,Nat.pow_succ];omega⟩) ah
   ·have q:=of_decide_eq_false q;exact end26 h4 N T' p3 c3 W O4 k5 k7 ah
 have loop17: ∀(d t:Nat) (h4:aH) (p3:az) (c3:Nat),t+d=(cy N k).length->Tw h.size h2.size h4 s n room k B (sw k f) (so k f g) N (nM n k N t) F Q off T p1 c1 p2 c2 (bU n k N) p3 c3->aM (B.bm s) h h4->
   F361.wL17 (d+1) (aw s) (k:Int) clo p3 (bU n k N).length c3 p1 (cy N k).length c1 ((cy N k).length:Int) (t:Int) h4 K:=by
  intro d
  induction d with
  |zero=>
   intro t h4 p3 c3 ht W O4;rw[F361.sL17];rw[decide_eq_false ah,aJ];obtain rfl:t=(cy N k).length:=ah;unfold F361.wk23;simp only[aL,Nat.zero_add];refine aR (n:=some (aw B.tb)) (by rw[At.rd W.m.S];rfl) ?_;obtain⟨cs,mm,o,f',t1,-⟩:=id W.t;refine gC t1 (aI rfl ?_);unfold F361.wk24;refine⟨14,loop24 13 h4 T p3 c3 ?_ W O4 t5 t7⟩;obtain⟨j,e⟩:=t5;have:=Nat.two_pow_pos j;omega
  |succ d ih=>
   intro t h4 p3 c3 ht W O4;rw[F361.sL17];rw[decide_eq_true ah,aO];obtain⟨a,ha⟩: ∃a,(cy N k)[t]? =some a:=⟨_,List.getElem?_eq_getElem ah⟩;obtain⟨a2,x,hx,ex⟩:=iJ.1 (List.mem_of_getElem? ha);obtain⟨b,eb,rb⟩:=W.o1.elem ha;rw[eb,aU,<-eb];refine⟨ah,ah,?_⟩;simp only[aL,Nat.zero_add,Nat.mul_one,Int.toNat_natCast];have aN:=isN_lt H.m (a:=a) (.inr ⟨x,hx⟩);refine aI (n:=(a:Int)) rb (tf W.m ah (λw=> ?_) λb1 y eb1 _ hy rr=>aR rfl ?_)
   ·exact absurd (by rw[fK,hx];rfl) (w (nM n k N t (a-2+2) x) a2)
   rw[aU];simp only[aL,Nat.add_zero];rw[fK,hx,Option.map_some,show a-2+2=a by omega]at hy;injection hy with hy;refine aI (n:=(y.1:Int)) (by rw[rr 1 ah];rfl) ?_;rw[show((2:Int))=((2:Nat):Int)from rfl,oJ ah ah,show((1:Int))=((1:Nat):Int)from rfl,oJ (k:=k) ah ah,show ax ((t:Int)+((1:Nat):Int))=((t+1:Nat):Int) by rw[wrap_i64 ah ah];omega];obtain⟨s1,s2⟩:=Ba (n:=n) ha hx a2 ex;cases hb:cw n k N a with
   |true=>
    obtain⟨e1,e2⟩:=s1 hb;rw[e1]at hy;rw[show(((y.1:Nat):Int)==((k+2:Nat):Int))=false by rw[beq_eq_false_iff_ne,<-hy];omega,aJ];refine ih (t+1) h4 p3 c3 ah (W.keep (aM.refl [] _) ak (by rw[e2];exact W.m)) O4
   |false=>
    obtain⟨e1,e2⟩:=s2 hb;rw[e1]at hy;rw[show(((y.1:Nat):Int)==((k+2:Nat):Int))=true by rw[beq_iff_eq,<-hy],aO,aU];simp only[aL,Nat.add_zero];refine W.st hx a2 (e1.trans hy) (by rw[<-hy];exact e2) eb1 λh5 W5 O5=>ih (t+1) h5 p3 c3 ah W5 (O4.trans O5 λy hy _=>hy)
 have loop12: ∀(d t:Nat) (h4:aH) (p3:az) (c3:Nat),t+d=(cy N (k+1)).length->Tw h.size h2.size h4 s n room k B (sw k f) (so k f g) N (ye n k N t) F Q off T p1 c1 p2 c2 (bU n k N) p3 c3->aM (B.bm s) h h4->
   F361.wL12 (d+1) (aw s) (k:Int) clo p1 (cy N k).length c1 p3 (bU n k N).length c3 p2 (cy N (k+1)).length c2 ((cy N (k+1)).length:Int) (t:Int) h4 K:=by
  intro d
  induction d with
  |zero=>
   intro t h4 p3 c3 ht W O4;rw[F361.sL12];rw[decide_eq_false ah,aJ];obtain rfl:t=(cy N (k+1)).length:=ah;unfold F361.wk16 F361.wk17;exact⟨_,loop17 (cy N k).length 0 h4 p3 c3 ah (W.keep (aM.refl [] _) ak (by rw[<-IG];exact W.m)) O4⟩
  |succ d ih=>
   intro t h4 p3 c3 ht W O4;rw[F361.sL12];rw[decide_eq_true ah,aO];obtain⟨a,ha⟩: ∃a,(cy N (k+1))[t]? =some a:=⟨_,List.getElem?_eq_getElem ah⟩;obtain⟨a2,x,hx,ex⟩:=iJ.1 (List.mem_of_getElem? ha);obtain⟨b,eb,rb⟩:=W.o2.elem ha;rw[eb,aU,<-eb];refine⟨ah,ah,?_⟩;simp only[aL,Nat.zero_add,Nat.mul_one,Int.toNat_natCast];have aN:=isN_lt H.m (a:=a) (.inr ⟨x,hx⟩);refine aI (n:=(a:Int)) rb (tf W.m ah (λw=> ?_) λb1 y eb1 _ hy rr=>aR rfl ?_)
   ·exact absurd (by rw[fK,hx];rfl) (w (ye n k N t (a-2+2) x) a2)
   rw[aU];simp only[aL,Nat.add_zero];rw[show ax ((t:Int)+1)=((t+1:Nat):Int) by rw[wrap_i64 ah ah];omega];obtain⟨e1,e2⟩:=Aw (n:=n) ha hx a2 ex;refine W.st hx a2 e1 e2 eb1 λh5 W5 O5=>ih (t+1) h5 p3 c3 ah W5 (O4.trans O5 λy hy _=>hy)
 unfold F361.wk3
 have loop3: ∀(d t:Nat) (h4:aH) (p3:az) (c3:Nat),t+d=(cy N k).length->Tw h.size h2.size h4 s n room k B f g N (pX n k N t) F Q off T p1 c1 p2 c2 (((cy N k).take t).filter (cw n k N)) p3 c3->aM (B.bm s) h h4->
   F361.wL3 (d+1) (aw s) (k:Int) clo p1 (cy N k).length c1 p2 (cy N (k+1)).length c2 p3 (((cy N k).take t).filter (cw n k N)).length c3 p1 (cy N k).length c1 ((cy N k).length:Int) (t:Int) h4 K:=by
  intro d
  induction d with
  |zero=>
   intro t h4 p3 c3 ht W O4;rw[F361.sL3];rw[decide_eq_false ah,aJ];obtain rfl:t=(cy N k).length:=ah;rw[List.take_length]at W ⊢;have W:Tw h.size h2.size h4 s n room k B f g N (pX n k N (cy N k).length) F Q off T p1 c1 p2 c2 (bU n k N) p3 c3:=W;show F361.wk10 _ _ _ _ _ _ _ _ _ _ (bU n k N).length _ _ _;unfold F361.wk10;simp only[aL,Nat.zero_add];refine aR (n:=some (aw B.ob)) (by rw[At.rd W.m.S];rfl) ?_;refine yB W.m.O n8 hk (λi hi=>(P.2 i hi).1) λh5 Or O5=>aI rfl ?_;have ob: ∀b∈[B.ob],b∈B.bm s:=λb hb=>by simp only[List.mem_singleton]at hb;subst hb;simp[SB.bm]
   unfold F361.wk12;exact⟨_,loop12 (cy N (k+1)).length 0 h5 p3 c3 ah (W.keep O5 ob (by rw[<-Iw];exact W.m.ord O5 Or)) (O4.trans (O5.mono λb hb _=>ob b hb) λy hy _=>hy)⟩
  |succ d ih=>
   intro t h4 p3 c3 ht W O4;rw[F361.sL3];rw[decide_eq_true ah,aO];obtain⟨a,ha⟩: ∃a,(cy N k)[t]? =some a:=⟨_,List.getElem?_eq_getElem ah⟩;obtain⟨a2,x,hx,ex⟩:=iJ.1 (List.mem_of_getElem? ha);obtain⟨b,eb,rb⟩:=W.o1.elem ha;rw[eb,aU,<-eb];refine⟨ah,ah,?_⟩;simp only[aL,Nat.zero_add,Nat.mul_one,Int.toNat_natCast];have aN:=isN_lt H.m (a:=a) (.inr ⟨x,hx⟩);refine aI (n:=(a:Int)) rb (tf W.m ah (λw=> ?_) λb1 y eb1 _ hy rr=>aR rfl ?_)
   ·exact absurd (by rw[fK,hx];rfl) (w (pX n k N t (a-2+2) x) a2)
   rw[aU];simp only[aL,Nat.add_zero];rw[fK,hx,Option.map_some,show a-2+2=a by omega]at hy;injection hy with hy;obtain⟨e1,e2,e3⟩:=zt (n:=n) ha hx a2 ex;rw[e1]at hy;subst hy;obtain⟨k1,k2,k3,k4,k5,k6⟩:=H.ok.node _ x hx
   have kidl: ∀{c},isN N c->k<lvl n N c->isN (dg (pX n k N t) N) c/\lvl n (dg (pX n k N t) N) c=lvl n N c:=λ{c} hc hl=>by
    by_cases q:c<2
    ·exact⟨.inl q,by unfold lvl;rw[if_pos q,if_pos q]⟩
    ·have hn:=eZ (n:=n) hc ah
     have hm:nd (dg (pX n k N t) N) (c-2)=some (lvl n N c,low N c,high N c):=by rw[fK,hn,Option.map_some];unfold pX;rw[if_neg (λw=>by have:=w.1;dsimp only at this;omega)]
     refine⟨.inr ⟨_,hm⟩,?_⟩
     conv=>lhs;unfold lvl
     rw[if_neg q,hm]
   obtain⟨i1,v1⟩:=kidl k2 ah;obtain⟨i2,v2⟩:=kidl k3 ah;obtain⟨-,-,lw,hg⟩:=dL (n:=n) hx;rw[show a-2+2=a by omega]at lw hg;have eb':cw n k N a=(decide (lvl n N x.2.1=k+1)||decide (lvl n N x.2.2=k+1)):=by unfold cw;rw[lw,hg]
   have ew:ax ((t:Int)+1)=((t+1:Nat):Int):=by rw[wrap_i64 ah ah];omega
   have et:(cy N k).take (t+1)=(cy N k).take t++[a]:=by rw[List.take_add_one,ha];rfl
   have lens:(((cy N k).take t).filter (cw n k N)).length<=40000:=by
    have:=List.length_filter_le (cw n k N) ((cy N k).take t);have:=List.length_take_le t (cy N k);have:=iL (N:=N) (l:=k) (k:=N.length);unfold cy at*
    omega
   have app: ∀h6,aM [] h4 h6->cw n k N a=true->a9 h6 (.cells #[ap (a:Int)] 46) (λb11 h12=>fB h12 46 1 4 #[(ap (0:Int))] p3 (((cy N k).take t).filter (cw n k N)).length c3 (some (aw b11)) 1 (λp13 l14 c15 h16=>F361.wL3 (d+1) (aw s) (k:Int) clo p1 (cy N k).length c1 p2 (cy N (k+1)).length c2 p13 l14 c15 p1 (cy N k).length c1 ((cy N k).length:Int) ((t+1:Nat):Int) h16 K)):=λh6 O6 hb=>by
    have W6:=W.only0 O6;have z6:=W6.lz;refine aV λh7 B7 P7 y7=> ?_;have W7:=W6.only0 P7;refine fT (new:=[hv a]) W7.o3 B7 rfl rfl ah (by simp[Value.oneCell']) W7.lz.2.1 λp' c' h8 W8 P8 hb8=> ?_;have ef:((cy N k).take (t+1)).filter (cw n k N)=((cy N k).take t).filter (cw n k N)++[a]:=by rw[et,List.filter_append];simp[hb]
    have e4:(((cy N k).take t).filter (cw n k N)).length+1=(((cy N k).take (t+1)).filter (cw n k N)).length:=by rw[ef];simp
    have e5:(((cy N k).take t).filter (cw n k N)).map hv++[hv a]=(((cy N k).take (t+1)).filter (cw n k N)).map hv:=by rw[ef];simp
    rw[e4,e5]at W8;rw[e4];have old: ∀y∈aX p3,h2.size<=y:=λy hy=>(W7.o3.lt y hy).1;have nbm: ∀b∈aX p3,b∉B.bm s++B.bt:=λb hb hm=>by have:=old b hb;have:=z6.2.2 b hm;omega
    refine ih (t+1) h8 p' c' ah ⟨by rw[e2 hb];exact W7.m.only P8 λb hb hm=>nbm b hb (List.mem_append.2 (.inl hm)),W7.t.only P8 λb hb hm=>nbm b hb (List.mem_append.2 (.inr hm)),W7.bs,W7.o1.only P8 λb e hm=> ?_,W7.o2.only P8 λb e hm=> ?_,W8,W7.l1,W7.l2,z6.1,by have:=P8.size;have:=W7.lz.2.1;omega,z6.2.2⟩ (((O4.trans (O6.mono ak) λy hy _=>hy).trans (P7.mono ak) λy hy _=>hy).trans P8 λy hy hl=> ?_)
    ·have:=old b hm;have:=W7.l1 b (by rw[e];simp[aX]);omega
    ·have:=old b hm;have:=W7.l2 b (by rw[e];simp[aX]);omega
    ·have:=old y hy;omega
   refine aI (n:=(x.2.1:Int)) (by rw[rr 2 ah];rfl) (lu W.m i1 (aI rfl ?_));rw[v1,show((1:Int))=((1:Nat):Int)from rfl,oJ (k:=k) ah ah,show ax ((t:Int)+((1:Nat):Int))=((t+1:Nat):Int)from ew];refine aT (λq=> ?_) λq=> ?_
   ·have q:lvl n N x.2.1=k+1:=by
     have:=eq_of_beq q;omega
    exact app h4 (aM.refl _ _) (by rw[eb',q];simp)
   have q: ¬lvl n N x.2.1=k+1:=λw=>by rw[w]at q;simp at q
   rw[aU];simp only[aL];refine aI (n:=(x.2.2:Int)) (by rw[rr 3 ah];rfl) (lu W.m i2 (aI rfl ?_));rw[v2];refine aT (λq2=> ?_) λq2=> ?_
   ·have q2:lvl n N x.2.2=k+1:=by
     have:=eq_of_beq q2;omega
    exact app h4 (aM.refl _ _) (by rw[eb',q2];simp)
   have q2: ¬lvl n N x.2.2=k+1:=λw=>by rw[w]at q2;simp at q2
   have hb:cw n k N a=false:=by rw[eb'];simp[q,q2]
   rw[show((2:Int))=((2:Nat):Int)from rfl,oJ ah ah];have ef:((cy N k).take (t+1)).filter (cw n k N)=((cy N k).take t).filter (cw n k N):=by rw[et,List.filter_append];simp[hb]
   rw[<-ef,aU];simp only[aL,Nat.add_zero];refine W.st hx a2 e1 (e3 hb) eb1 λh5 W5 O5=> ?_;rw[<-ef]at W5;exact ih (t+1) h5 p3 c3 ah W5 (O4.trans O5 λy hy _=>hy)
 exact⟨_,loop3 (cy N k).length 0 h2 none 0 ah W0 (O12.mono ak)⟩
end
end
section
def F362.T:bj:=⟨[(2,[1,2,3,5,12,13,14]),(3,[1,2,3,5,12,13,14]),(4,[1,2,3,5,7,12,13,14]),(5,[1,2,3,5,7,8,9,12,13,14])],[(4,[[(0,[]),(1,[]),(2,[]),(4,[]),(6,[]),(7,[]),(8,[]),(10,[]),(3,[0,4,6,7,8,10]),(5,[6,7,8,10]),(9,[6,10]),(11,[]),(12,[0,1,2,4,6,7,8,10]),(13,[0,1,2,4,6,7,8,10]),(14,[]),(15,[])],[(0,[]),(1,[]),(2,[]),(4,[]),(6,[]),(7,[]),(8,[]),(10,[]),(3,[0,4,6,7,8,10]),(5,[6,7,8,10]),(9,[6,10]),(11,[]),(13,[0,1,2,4,6,7,8,10]),(12,[0,1,2,4,6,7,8,10]),(14,[]),(15,[])],[(0,[]),(1,[]),(2,[]),(4,[]),(6,[]),(7,[]),(8,[]),(10,[]),(3,[0,4,6,7,8,10]),(5,[6,7,8,10]),(9,[6,10]),(12,[0,1,2,4,6,7,8,10]),(11,[]),(13,[0,1,2,4,6,7,8,10]),(14,[]),(15,[])],[(0,[]),(1,[]),(2,[]),(4,[]),(6,[]),(7,[]),(8,[]),(10,[]),(3,[0,4,6,7,8,10]),(5,[6,7,8,10]),(9,[6,10]),(12,[0,1,2,4,6,7,8,10]),(13,[0,1,2,4,6,7,8,10]),(11,[]),(14,[]),(15,[])],[(0,[]),(1,[]),(2,[]),(4,[]),(6,[]),(7,[]),(8,[]),(10,[]),(3,[0,4,6,7,8,10]),(5,[6,7,8,10]),(9,[6,10]),(13,[0,1,2,4,6,7,8,10]),(11,[]),(12,[0,1,2,4,6,7,8,10]),(14,[]),(15,[])],[(0,[]),(1,[]),(2,[]),(4,[]),(6,[]),(7,[]),(8,[]),(10,[]),(3,[0,4,6,7,8,10]),(5,[6,7,8,10]),(9,[6,10]),(13,[0,1,2,4,6,7,8,10]),(12,[0,1,2,4,6,7,8,10]),(11,[]),(14,[]),(15,[])],[(0,[]),(1,[]),(2,[]),(4,[]),(6,[]),(7,[]),(8,[]),(10,[]),(3,[0,4,6,7,8,10]),(5,[6,7,8,10]),(12,[0,1,2,4,6,7,8,10]),(9,[6,10]),(11,[]),(13,[0,1,2,4,6,7,8,10]),(14,[]),(15,[])],[(0,[]),(1,[]),(2,[]),(4,[]),(6,[]),(7,[]),(8,[]),(10,[]),(3,[0,4,6,7,8,10]),(5,[6,7,8,10]),(12,[0,1,2,4,6,7,8,10]),(9,[6,10]),(13,[0,1,2,4,6,7,8,10]),(11,[]),(14,[]),(15,[])],[(0,[]),(1,[]),(2,[]),(4,[]),(6,[]),(7,[]),(8,[]),(10,[]),(3,[0,4,6,7,8,10]),(5,[6,7,8,10]),(12,[0,1,2,4,6,7,8,10]),(13,[0,1,2,4,6,7,8,10]),(9,[6,10]),(11,[]),(14,[]),(15,[])],[(0,[]),(1,[]),(2,[]),(4,[]),(6,[]),(7,[]),(8,[]),(10,[]),(3,[0,4,6,7,8,10]),(5,[6,7,8,10]),(13,[0,1,2,4,6,7,8,10]),(9,[6,10]),(11,[]),(12,[0,1,2,4,6,7,8,10]),(14,[]),(15,[])],[(0,[]),(1,[]),(2,[]),(4,[]),(6,[]),(7,[]),(8,[]),(10,[]),(3,[0,4,6,7,8,10]),(5,[6,7,8,10]),(13,[0,1,2,4,6,7,8,10]),(9,[6,10]),(12,[0,1,2,4,6,7,8,10]),(11,[]),(14,[]),(15,[])],[(0,[]),(1,[]),(2,[]),(4,[]),(6,[]),(7,[]),(8,[]),(10,[]),(3,[0,4,6,7,8,10]),(5,[6,7,8,10]),(13,[0,1,2,4,6,7,8,10]),(12,[0,1,2,4,6,7,8,10]),(9,[6,10]),(11,[]),(14,[]),(15,[])],[(0,[]),(1,[]),(2,[]),(4,[]),(6,[]),(7,[]),(8,[]),(10,[]),(3,[0,4,6,7,8,10]),(12,[0,1,2,4,6,7,8,10]),(5,[6,7,8,10]),(9,[6,10]),(11,[]),(13,[0,1,2,4,6,7,8,10]),(14,[]),(15,[])],[(0,[]),(1,[]),(2,[]),(4,[]),(6,[]),(7,[]),(8,[]),(10,[]),(3,[0,4,6,7,8,10]),(12,[0,1,2,4,6,7,8,10]),(5,[6,7,8,10]),(9,[6,10]),(13,[0,1,2,4,6,7,8,10]),(11,[]),(14,[]),(15,[])],[(0,[]),(1,[]),(2,[]),(4,[]),(6,[]),(7,[]),(8,[]),(10,[]),(3,[0,4,6,7,8,10]),(12,[0,1,2,4,6,7,8,10]),(5,[6,7,8,10]),(13,[0,1,2,4,6,7,8,10]),(9,[6,10]),(11,[]),(14,[]),(15,[])],[(0,[]),(1,[]),(2,[]),(4,[]),(6,[]),(7,[]),(8,[]),(10,[]),(3,[0,4,6,7,8,10]),(12,[0,1,2,4,6,7,8,10]),(13,[0,1,2,4,6,7,8,10]),(5,[6,7,8,10]),(9,[6,10]),(11,[]),(14,[]),(15,[])],[(0,[]),(1,[]),(2,[]),(4,[]),(6,[]),(7,[]),(8,[]),(10,[]),(3,[0,4,6,7,8,10]),(13,[0,1,2,4,6,7,8,10]),(5,[6,7,8,10]),(9,[6,10]),(11,[]),(12,[0,1,2,4,6,7,8,10]),(14,[]),(15,[])],[(0,[]),(1,[]),(2,[]),(4,[]),(6,[]),(7,[]),(8,[]),(10,[]),(3,[0,4,6,7,8,10]),(13,[0,1,2,4,6,7,8,10]),(5,[6,7,8,10]),(9,[6,10]),(12,[0,1,2,4,6,7,8,10]),(11,[]),(14,[]),(15,[])],[(0,[]),(1,[]),(2,[]),(4,[]),(6,[]),(7,[]),(8,[]),(10,[]),(3,[0,4,6,7,8,10]),(13,[0,1,2,4,6,7,8,10]),(5,[6,7,8,10]),(12,[0,1,2,4,6,7,8,10]),(9,[6,10]),(11,[]),(14,[]),(15,[])],[(0,[]),(1,[]),(2,[]),(4,[]),(6,[]),(7,[]),(8,[]),(10,[]),(3,[0,4,6,7,8,10]),(13,[0,1,2,4,6,7,8,10]),(12,[0,1,2,4,6,7,8,10]),(5,[6,7,8,10]),(9,[6,10]),(11,[]),(14,[]),(15,[])],[(0,[]),(1,[]),(2,[]),(4,[]),(6,[]),(7,[]),(8,[]),(10,[]),(12,[0,1,2,4,6,7,8,10]),(3,[0,4,6,7,8,10]),(5,[6,7,8,10]),(9,[6,10]),(11,[]),(13,[0,1,2,4,6,7,8,10]),(14,[]),(15,[])],[(0,[]),(1,[]),(2,[]),(4,[]),(6,[]),(7,[]),(8,[]),(10,[]),(12,[0,1,2,4,6,7,8,10]),(3,[0,4,6,7,8,10]),(5,[6,7,8,10]),(9,[6,10]),(13,[0,1,2,4,6,7,8,10]),(11,[]),(14,[]),(15,[])],[(0,[]),(1,[]),(2,[]),(4,[]),(6,[]),(7,[]),(8,[]),(10,[]),(12,[0,1,2,4,6,7,8,10]),(3,[0,4,6,7,8,10]),(5,[6,7,8,10]),(13,[0,1,2,4,6,7,8,10]),(9,[6,10]),(11,[]),(14,[]),(15,[])],[(0,[]),(1,[]),(2,[]),(4,[]),(6,[]),(7,[]),(8,[]),(10,[]),(12,[0,1,2,4,6,7,8,10]),(3,[0,4,6,7,8,10]),(13,[0,1,2,4,6,7,8,10]),(5,[6,7,8,10]),(9,[6,10]),(11,[]),(14,[]),(15,[])],[(0,[]),(1,[]),(2,[]),(4,[]),(6,[]),(7,[]),(8,[]),(10,[]),(12,[0,1,2,4,6,7,8,10]),(13,[0,1,2,4,6,7,8,10]),(3,[0,4,6,7,8,10]),(5,[6,7,8,10]),(9,[6,10]),(11,[]),(14,[]),(15,[])],[(0,[]),(1,[]),(2,[]),(4,[]),(6,[]),(7,[]),(8,[]),(10,[]),(13,[0,1,2,4,6,7,8,10]),(3,[0,4,6,7,8,10]),(5,[6,7,8,10]),(9,[6,10]),(11,[]),(12,[0,1,2,4,6,7,8,10]),(14,[]),(15,[])],[(0,[]),(1,[]),(2,[]),(4,[]),(6,[]),(7,[]),(8,[]),(10,[]),(13,[0,1,2,4,6,7,8,10]),(3,[0,4,6,7,8,10]),(5,[6,7,8,10]),(9,[6,10]),(12,[0,1,2,4,6,7,8,10]),(11,[]),(14,[]),(15,[])],[(0,[]),(1,[]),(2,[]),(4,[]),(6,[]),(7,[]),(8,[]),(10,[]),(13,[0,1,2,4,6,7,8,10]),(3,[0,4,6,7,8,10]),(5,[6,7,8,10]),(12,[0,1,2,4,6,7,8,10]),(9,[6,10]),(11,[]),(14,[]),(15,[])],[(0,[]),(1,[]),(2,[]),(4,[]),(6,[]),(7,[]),(8,[]),(10,[]),(13,[0,1,2,4,6,7,8,10]),(3,[0,4,6,7,8,10]),(12,[0,1,2,4,6,7,8,10]),(5,[6,7,8,10]),(9,[6,10]),(11,[]),(14,[]),(15,[])],[(0,[]),(1,[]),(2,[]),(4,[]),(6,[]),(7,[]),(8,[]),(10,[]),(13,[0,1,2,4,6,7,8,10]),(12,[0,1,2,4,6,7,8,10]),(3,[0,4,6,7,8,10]),(5,[6,7,8,10]),(9,[6,10]),(11,[]),(14,[]),(15,[])]]),(5,[[(0,[]),(1,[]),(2,[]),(3,[]),(4,[]),(5,[]),(6,[]),(8,[]),(9,[]),(10,[]),(11,[]),(7,[0,1,2,8,9,10,11]),(12,[0,1,2]),(13,[])]])]⟩
section
variable (bk2:Addr->Addr->Addr->Value->(az)->Nat->Nat->Int->Int->aH->Prop)(n:Nat)(u:az)(q t:Nat)(a c l:Addr)(o:Value)(b:Int)(f:az)(d g:Nat)(j i:Int)(h:aH)(K:KK)
def F362.wk5(bk2:Addr->Addr->Addr->Value->(az)->Nat->Nat->Int->Int->aH->Prop)(a c l:Addr)(o:Value)(b:Int)(r s:Addr)(f:az)(d g:Nat)(j i:Int)(h:aH)(K:KK):Prop:=aQ .i64 (rd h l) λe=>ba (rd h a) λk=>aQ .i64 (rd h l) λm=>aQ .u32 (rd h (r.add 0)) λn=>aQ .u32 (rd h (r.add 1)) λp=>aQ .u32 (rd h (s.add 0)) λq=>aQ .u32 (rd h (s.add 1)) λt=>ba (rd h a) λu=>aQ .i64 (rd h l) λv=>aQ .u32 (rd h (r.add 0)) λw=>aQ .u32 (rd h (r.add 1)) λx=>aQ .u32 (rd h (s.add 0)) λy=>aQ .u32 (rd h (s.add 1)) λz=>Cl 365 [aA k,al m,.agg #[ap n,ap p],.agg #[ap q,ap t],al 0] h λk m=>aQ .u32 (some k) λk=>o=(o:Value)/\aF (ap b)/\aQ .i64 (rd m l) λn=>aG (al n) (al e)/\ba (rd m a) λn=>aG (aA n) (aA u)/\aQ .i64 (rd m l) λn=>aG (al n) (al v)/\aQ .u32 (rd m (r.add 0)) λn=>aQ .u32 (rd m (r.add 1)) λp=>aG (.agg #[ap n,ap p]) (.agg #[ap w,ap x])/\aQ .u32 (rd m (s.add 0)) λn=>aQ .u32 (rd m (s.add 1)) λp=>aG (.agg #[ap n,ap p]) (.agg #[ap y,ap z])/\Cl 365 [aA u,al v,.agg #[ap w,ap x],.agg #[ap y,ap z],al 1] m λm n=>aQ .u32 (some m) λm=>o=(o:Value)/\aF (ap b)/\aQ .i64 (rd n l) λp=>aG (al p) (al e)/\eV Tryz.prog X o [ap b,al e,ap k,ap m] n λb e=>b=aE/\bk2 a c l o f d g j (ax (i+1)) e
def F362.wk4:Prop:=ba (rd h a) λe=>ba (rd h a) λk=>bK (rd h c) λm=>ba (rd h a) λn=>ba (rd h a) λp=>bK (rd h c) λq=>Cl 72 [aA k,ap b] h (λr s=>aQ .u32 (some r) λr=>ba (rd s a) λt=>aG (aA t) (aA e)/\bK (rd s c) λt=>aG (.map t) (.map m)/\ba (rd s a) λt=>aG (aA t) (aA n)/\ba (rd s a) λt=>aG (aA t) (aA p)/\aF (ap b)/\bK (rd s c) λt=>aG (.map t) (.map q)/\Cl 364 [aA e,ap r,.map m] s (λr s=> ∃t:Int,∃u:Int,r=(.agg #[ap t,ap u])/\ba (rd s a) λr=>aG (aA r) (aA n)/\ba (rd s a) λr=>aG (aA r) (aA p)/\aF (ap b)/\bK (rd s c) λr=>aG (.map r) (.map q)/\Cl 73 [aA p,ap b] s (λr s=>aQ .u32 (some r) λr=>ba (rd s a) λv=>aG (aA v) (aA n)/\bK (rd s c) λv=>aG (.map v) (.map q)/\Cl 364 [aA n,ap r,.map q] s (λr s=> ∃v:Int,∃w:Int,r=(.agg #[ap v,ap w])/\a9 s (.cells #[ap 0,ap 0] 352) (λr s=>ba (rd s a) λx=>aG (aA x) (aA e)/\ba (rd s a) λx=>aG (aA x) (aA k)/\aF (ap b)/\bK (rd s c) λx=>aG (.map x) (.map m)/\ba (rd s a) λx=>aG (aA x) (aA n)/\ba (rd s a) λx=>aG (aA x) (aA p)/\aF (ap b)/\bK (rd s c) λx=>aG (.map x) (.map q)/\a9 s (.cells #[ap 0,ap 0] 352) λs x=>ba (rd x a) λy=>aG (aA y) (aA e)/\ba (rd x a) λe=>aG (aA e) (aA k)/\aF (ap b)/\bK (rd x c) λe=>aG (.map e) (.map m)/\ba (rd x a) λe=>aG (aA e) (aA n)/\ba (rd x a) λe=>aG (aA e) (aA p)/\aF (ap b)/\bK (rd x c) λe=>aG (.map e) (.map q)/\aW x ((aw r).add 0) (ap t) λe=>aW e ((aw r).add 1) (ap u) λe=>aW e ((aw s).add 0) (ap v) λe=>aW e ((aw s).add 1) (ap w) λe=>F362.wk5 bk2 a c l o b (aw r) (aw s) f d g j i e K)/\a9 s (.cells #[ap 0,ap 0] 352) λr s=>ba (rd s a) λx=>aG (aA x) (aA e)/\ba (rd s a) λx=>aG (aA x) (aA k)/\aF (ap b)/\bK (rd s c) λx=>aG (.map x) (.map m)/\ba (rd s a) λx=>aG (aA x) (aA n)/\ba (rd s a) λx=>aG (aA x) (aA p)/\aF (ap b)/\bK (rd s c) λx=>aG (.map x) (.map q)/\a9 s (.cells #[ap 0,ap 0] 352) λs x=>ba (rd x a) λy=>aG (aA y) (aA e)/\ba (rd x a) λe=>aG (aA e) (aA k)/\aF (ap b)/\bK (rd x c) λe=>aG (.map e) (.map m)/\ba (rd x a) λe=>aG (aA e) (aA n)/\ba (rd x a) λe=>aG (aA e) (aA p)/\aF (ap b)/\bK (rd x c) λe=>aG (.map e) (.map q)/\aW x ((aw s).add 0) (ap t) λe=>aW e ((aw s).add 1) (ap u) λe=>aW e ((aw r).add 0) (ap v) λe=>aW e ((aw r).add 1) (ap w) λe=>F362.wk5 bk2 a c l o b (aw s) (aw r) f d g j i e K)/\a9 s (.cells #[ap 0,ap 0] 352) (λs v=>ba (rd v a) λw=>aG (aA w) (aA e)/\ba (rd v a) λw=>aG (aA w) (aA k)/\aF (ap b)/\bK (rd v c) λw=>aG (.map w) (.map m)/\ba (rd v a) λw=>aG (aA w) (aA n)/\ba (rd v a) λw=>aG (aA w) (aA p)/\aF (ap b)/\bK (rd v c) λw=>aG (.map w) (.map q)/\Cl 364 [aA n,ap r,.map q] v (λr v=> ∃w:Int,∃x:Int,r=(.agg #[ap w,ap x])/\a9 v (.cells #[ap 0,ap 0] 352) λr v=>ba (rd v a) λy=>aG (aA y) (aA e)/\ba (rd v a) λe=>aG (aA e) (aA k)/\aF (ap b)/\bK (rd v c) λe=>aG (.map e) (.map m)/\ba (rd v a) λe=>aG (aA e) (aA n)/\ba (rd v a) λe=>aG (aA e) (aA p)/\aF (ap b)/\bK (rd v c) λe=>aG (.map e) (.map q)/\aW v ((aw s).add 0) (ap t) λe=>aW e ((aw s).add 1) (ap u) λe=>aW e ((aw r).add 0) (ap w) λe=>aW e ((aw r).add 1) (ap x) λe=>F362.wk5 bk2 a c l o b (aw s) (aw r) f d g j i e K)/\a9 v (.cells #[ap 0,ap 0] 352) λv w=>ba (rd w a) λx=>aG (aA x) (aA e)/\ba (rd w a) λe=>aG (aA e) (aA k)/\aF (ap b)/\bK (rd w c) λe=>aG (.map e) (.map m)/\ba (rd w a) λe=>aG (aA e) (aA n)/\ba (rd w a) λe=>aG (aA e) (aA p)/\aF (ap b)/\bK (rd w c) λe=>aG (.map e) (.map q)/\Cl 364 [aA n,ap r,.map q] w λe k=> ∃m:Int,∃n:Int,e=(.agg #[ap m,ap n])/\aW k ((aw s).add 0) (ap t) λe=>aW e ((aw s).add 1) (ap u) λe=>aW e ((aw v).add 0) (ap m) λe=>aW e ((aw v).add 1) (ap n) λe=>F362.wk5 bk2 a c l o b (aw s) (aw v) f d g j i e K)/\a9 s (.cells #[ap 0,ap 0] 352) λs v=>ba (rd v a) λw=>aG (aA w) (aA e)/\ba (rd v a) λw=>aG (aA w) (aA k)/\aF (ap b)/\bK (rd v c) λw=>aG (.map w) (.map m)/\ba (rd v a) λw=>aG (aA w) (aA n)/\ba (rd v a) λw=>aG (aA w) (aA p)/\aF (ap b)/\bK (rd v c) λw=>aG (.map w) (.map q)/\Cl 364 [aA n,ap r,.map q] v (λr v=> ∃w:Int,∃x:Int,r=(.agg #[ap w,ap x])/\a9 v (.cells #[ap 0,ap 0] 352) λr v=>ba (rd v a) λy=>aG (aA y) (aA e)/\ba (rd v a) λe=>aG (aA e) (aA k)/\aF (ap b)/\bK (rd v c) λe=>aG (.map e) (.map m)/\ba (rd v a) λe=>aG (aA e) (aA n)/\ba (rd v a) λe=>aG (aA e) (aA p)/\aF (ap b)/\bK (rd v c) λe=>aG (.map e) (.map q)/\aW v ((aw r).add 0) (ap t) λe=>aW e ((aw r).add 1) (ap u) λe=>aW e ((aw s).add 0) (ap w) λe=>aW e ((aw s).add 1) (ap x) λe=>F362.wk5 bk2 a c l o b (aw r) (aw s) f d g j i e K)/\a9 v (.cells #[ap 0,ap 0] 352) λv w=>ba (rd w a) λx=>aG (aA x) (aA e)/\ba (rd w a) λe=>aG (aA e) (aA k)/\aF (ap b)/\bK (rd w c) λe=>aG (.map e) (.map m)/\ba (rd w a) λe=>aG (aA e) (aA n)/\ba (rd w a) λe=>aG (aA e) (aA p)/\aF (ap b)/\bK (rd w c) λe=>aG (.map e) (.map q)/\Cl 364 [aA n,ap r,.map q] w λe k=> ∃m:Int,∃n:Int,e=(.agg #[ap m,ap n])/\aW k ((aw v).add 0) (ap t) λe=>aW e ((aw v).add 1) (ap u) λe=>aW e ((aw s).add 0) (ap m) λe=>aW e ((aw s).add 1) (ap n) λe=>F362.wk5 bk2 a c l o b (aw v) (aw s) f d g j i e K)/\a9 s (.cells #[ap 0,ap 0] 352) (λr s=>ba (rd s a) λv=>aG (aA v) (aA e)/\ba (rd s a) λv=>aG (aA v) (aA k)/\aF (ap b)/\bK (rd s c) λv=>aG (.map v) (.map m)/\ba (rd s a) λv=>aG (aA v) (aA n)/\ba (rd s a) λv=>aG (aA v) (aA p)/\aF (ap b)/\bK (rd s c) λv=>aG (.map v) (.map q)/\Cl 73 [aA p,ap b] s (λs v=>aQ .u32 (some s) λs=>ba (rd v a) λw=>aG (aA w) (aA n)/\bK (rd v c) λw=>aG (.map w) (.map q)/\Cl 364 [aA n,ap s,.map q] v (λs v=> ∃w:Int,∃x:Int,s=(.agg #[ap w,ap x])/\a9 v (.cells #[ap 0,ap 0] 352) λs v=>ba (rd v a) λy=>aG (aA y) (aA e)/\ba (rd v a) λe=>aG (aA e) (aA k)/\aF (ap b)/\bK (rd v c) λe=>aG (.map e) (.map m)/\ba (rd v a) λe=>aG (aA e) (aA n)/\ba (rd v a) λe=>aG (aA e) (aA p)/\aF (ap b)/\bK (rd v c) λe=>aG (.map e) (.map q)/\aW v ((aw r).add 0) (ap t) λe=>aW e ((aw r).add 1) (ap u) λe=>aW e ((aw s).add 0) (ap w) λe=>aW e ((aw s).add 1) (ap x) λe=>F362.wk5 bk2 a c l o b (aw r) (aw s) f d g j i e K)/\a9 v (.cells #[ap 0,ap 0] 352) λv w=>ba (rd w a) λx=>aG (aA x) (aA e)/\ba (rd w a) λe=>aG (aA e) (aA k)/\aF (ap b)/\bK (rd w c) λe=>aG (.map e) (.map m)/\ba (rd w a) λe=>aG (aA e) (aA n)/\ba (rd w a) λe=>aG (aA e) (aA p)/\aF (ap b)/\bK (rd w c) λe=>aG (.map e) (.map q)/\Cl 364 [aA n,ap s,.map q] w λe k=> ∃m:Int,∃n:Int,e=(.agg #[ap m,ap n])/\aW k ((aw r).add 0) (ap t) λe=>aW e ((aw r).add 1) (ap u) λe=>aW e ((aw v).add 0) (ap m) λe=>aW e ((aw v).add 1) (ap n) λe=>F362.wk5 bk2 a c l o b (aw r) (aw v) f d g j i e K)/\a9 s (.cells #[ap 0,ap 0] 352) λs v=>ba (rd v a) λw=>aG (aA w) (aA e)/\ba (rd v a) λe=>aG (aA e) (aA k)/\aF (ap b)/\bK (rd v c) λe=>aG (.map e) (.map m)/\ba (rd v a) λe=>aG (aA e) (aA n)/\ba (rd v a) λe=>aG (aA e) (aA p)/\aF (ap b)/\bK (rd v c) λe=>aG (.map e) (.map q)/\Cl 73 [aA p,ap b] v λe k=>aQ .u32 (some e) λe=>ba (rd k a) λm=>aG (aA m) (aA n)/\bK (rd k c) λm=>aG (.map m) (.map q)/\Cl 364 [aA n,ap e,.map q] k λe k=> ∃m:Int,∃n:Int,e=(.agg #[ap m,ap n])/\aW k ((aw r).add 0) (ap t) λe=>aW e ((aw r).add 1) (ap u) λe=>aW e ((aw s).add 0) (ap m) λe=>aW e ((aw s).add 1) (ap n) λe=>F362.wk5 bk2 a c l o b (aw r) (aw s) f d g j i e K)/\a9 s (.cells #[ap 0,ap 0] 352) λr s=>ba (rd s a) λv=>aG (aA v) (aA e)/\ba (rd s a) λv=>aG (aA v) (aA k)/\aF (ap b)/\bK (rd s c) λv=>aG (.map v) (.map m)/\ba (rd s a) λv=>aG (aA v) (aA n)/\ba (rd s a) λv=>aG (aA v) (aA p)/\aF (ap b)/\bK (rd s c) λv=>aG (.map v) (.map q)/\Cl 73 [aA p,ap b] s (λs v=>aQ .u32 (some s) λs=>ba (rd v a) λw=>aG (aA w) (aA n)/\bK (rd v c) λw=>aG (.map w) (.map q)/\Cl 364 [aA n,ap s,.map q] v (λs v=> ∃w:Int,∃x:Int,s=(.agg #[ap w,ap x])/\a9 v (.cells #[ap 0,ap 0] 352) λs v=>ba (rd v a) λy=>aG (aA y) (aA e)/\ba (rd v a) λe=>aG (aA e) (aA k)/\aF (ap b)/\bK (rd v c) λe=>aG (.map e) (.map m)/\ba (rd v a) λe=>aG (aA e) (aA n)/\ba (rd v a) λe=>aG (aA e) (aA p)/\aF (ap b)/\bK (rd v c) λe=>aG (.map e) (.map q)/\aW v ((aw s).add 0) (ap t) λe=>aW e ((aw s).add 1) (ap u) λe=>aW e ((aw r).add 0) (ap w) λe=>aW e ((aw r).add 1) (ap x) λe=>F362.wk5 bk2 a c l o b (aw s) (aw r) f d g j i e K)/\a9 v (.cells #[ap 0,ap 0] 352) λv w=>ba (rd w a) λx=>aG (aA x) (aA e)/\ba (rd w a) λe=>aG (aA e) (aA k)/\aF (ap b)/\bK (rd w c) λe=>aG (.map e) (.map m)/\ba (rd w a) λe=>aG (aA e) (aA n)/\ba (rd w a) λe=>aG (aA e) (aA p)/\aF (ap b)/\bK (rd w c) λe=>aG (.map e) (.map q)/\Cl 364 [aA n,ap s,.map q] w λe k=> ∃m:Int,∃n:Int,e=(.agg #[ap m,ap n])/\aW k ((aw v).add 0) (ap t) λe=>aW e ((aw v).add 1) (ap u) λe=>aW e ((aw r).add 0) (ap m) λe=>aW e ((aw r).add 1) (ap n) λe=>F362.wk5 bk2 a c l o b (aw v) (aw r) f d g j i e K)/\a9 s (.cells #[ap 0,ap 0] 352) λs v=>ba (rd v a) λw=>aG (aA w) (aA e)/\ba (rd v a) λe=>aG (aA e) (aA k)/\aF (ap b)/\bK (rd v c) λe=>aG (.map e) (.map m)/\ba (rd v a) λe=>aG (aA e) (aA n)/\ba (rd v a) λe=>aG (aA e) (aA p)/\aF (ap b)/\bK (rd v c) λe=>aG (.map e) (.map q)/\Cl 73 [aA p,ap b] v λe k=>aQ .u32 (some e) λe=>ba (rd k a) λm=>aG (aA m) (aA n)/\bK (rd k c) λm=>aG (.map m) (.map q)/\Cl 364 [aA n,ap e,.map q] k λe k=> ∃m:Int,∃n:Int,e=(.agg #[ap m,ap n])/\aW k ((aw s).add 0) (ap t) λe=>aW e ((aw s).add 1) (ap u) λe=>aW e ((aw r).add 0) (ap m) λe=>aW e ((aw r).add 1) (ap n) λe=>F362.wk5 bk2 a c l o b (aw s) (aw r) f d g j i e K)/\a9 s (.cells #[ap 0,ap 0] 352) (λs t=>ba (rd t a) λu=>aG (aA u) (aA e)/\ba (rd t a) λu=>aG (aA u) (aA k)/\aF (ap b)/\bK (rd t c) λu=>aG (.map u) (.map m)/\ba (rd t a) λu=>aG (aA u) (aA n)/\ba (rd t a) λu=>aG (aA u) (aA p)/\aF (ap b)/\bK (rd t c) λu=>aG (.map u) (.map q)/\Cl 364 [aA e,ap r,.map m] t (λr t=> ∃u:Int,∃v:Int,r=(.agg #[ap u,ap v])/\ba (rd t a) λr=>aG (aA r) (aA n)/\ba (rd t a) λr=>aG (aA r) (aA p)/\aF (ap b)/\bK (rd t c) λr=>aG (.map r) (.map q)/\Cl 73 [aA p,ap b] t (λr t=>aQ .u32 (some r) λr=>ba (rd t a) λw=>aG (aA w) (aA n)/\bK (rd t c) λw=>aG (.map w) (.map q)/\Cl 364 [aA n,ap r,.map q] t (λr t=> ∃w:Int,∃x:Int,r=(.agg #[ap w,ap x])/\a9 t (.cells #[ap 0,ap 0] 352) λr t=>ba (rd t a) λy=>aG (aA y) (aA e)/\ba (rd t a) λe=>aG (aA e) (aA k)/\aF (ap b)/\bK (rd t c) λe=>aG (.map e) (.map m)/\ba (rd t a) λe=>aG (aA e) (aA n)/\ba (rd t a) λe=>aG (aA e) (aA p)/\aF (ap b)/\bK (rd t c) λe=>aG (.map e) (.map q)/\aW t ((aw s).add 0) (ap u) λe=>aW e ((aw s).add 1) (ap v) λe=>aW e ((aw r).add 0) (ap w) λe=>aW e ((aw r).add 1) (ap x) λe=>F362.wk5 bk2 a c l o b (aw s) (aw r) f d g j i e K)/\a9 t (.cells #[ap 0,ap 0] 352) λt w=>ba (rd w a) λx=>aG (aA x) (aA e)/\ba (rd w a) λe=>aG (aA e) (aA k)/\aF (ap b)/\bK (rd w c) λe=>aG (.map e) (.map m)/\ba (rd w a) λe=>aG (aA e) (aA n)/\ba (rd w a) λe=>aG (aA e) (aA p)/\aF (ap b)/\bK (rd w c) λe=>aG (.map e) (.map q)/\Cl 364 [aA n,ap r,.map q] w λe k=> ∃m:Int,∃n:Int,e=(.agg #[ap m,ap n])/\aW k ((aw s).add 0) (ap u) λe=>aW e ((aw s).add 1) (ap v) λe=>aW e ((aw t).add 0) (ap m) λe=>aW e ((aw t).add 1) (ap n) λe=>F362.wk5 bk2 a c l o b (aw s) (aw t) f d g j i e K)/\a9 t (.cells #[ap 0,ap 0] 352) λr t=>ba (rd t a) λw=>aG (aA w) (aA e)/\ba (rd t a) λe=>aG (aA e) (aA k)/\aF (ap b)/\bK (rd t c) λe=>aG (.map e) (.map m)/\ba (rd t a) λe=>aG (aA e) (aA n)/\ba (rd t a) λe=>aG (aA e) (aA p)/\aF (ap b)/\bK (rd t c) λe=>aG (.map e) (.map q)/\Cl 73 [aA p,ap b] t λe k=>aQ .u32 (some e) λe=>ba (rd k a) λm=>aG (aA m) (aA n)/\bK (rd k c) λm=>aG (.map m) (.map q)/\Cl 364 [aA n,ap e,.map q] k λe k=> ∃m:Int,∃n:Int,e=(.agg #[ap m,ap n])/\aW k ((aw s).add 0) (ap u) λe=>aW e ((aw s).add 1) (ap v) λe=>aW e ((aw r).add 0) (ap m) λe=>aW e ((aw r).add 1) (ap n) λe=>F362.wk5 bk2 a c l o b (aw s) (aw r) f d g j i e K)/\a9 t (.cells #[ap 0,ap 0] 352) λt u=>ba (rd u a) λv=>aG (aA v) (aA e)/\ba (rd u a) λv=>aG (aA v) (aA k)/\aF (ap b)/\bK (rd u c) λk=>aG (.map k) (.map m)/\ba (rd u a) λk=>aG (aA k) (aA n)/\ba (rd u a) λk=>aG (aA k) (aA p)/\aF (ap b)/\bK (rd u c) λk=>aG (.map k) (.map q)/\Cl 364 [aA e,ap r,.map m] u λe k=> ∃m:Int,∃r:Int,e=(.agg #[ap m,ap r])/\ba (rd k a) λe=>aG (aA e) (aA n)/\ba (rd k a) λe=>aG (aA e) (aA p)/\aF (ap b)/\bK (rd k c) λe=>aG (.map e) (.map q)/\Cl 73 [aA p,ap b] k λe k=>aQ .u32 (some e) λe=>ba (rd k a) λp=>aG (aA p) (aA n)/\bK (rd k c) λp=>aG (.map p) (.map q)/\Cl 364 [aA n,ap e,.map q] k λe k=> ∃n:Int,∃p:Int,e=(.agg #[ap n,ap p])/\aW k ((aw s).add 0) (ap m) λe=>aW e ((aw s).add 1) (ap r) λe=>aW e ((aw t).add 0) (ap n) λe=>aW e ((aw t).add 1) (ap p) λe=>F362.wk5 bk2 a c l o b (aw s) (aw t) f d g j i e K)/\a9 s (.cells #[ap 0,ap 0] 352) λs t=>ba (rd t a) λu=>aG (aA u) (aA e)/\ba (rd t a) λu=>aG (aA u) (aA k)/\aF (ap b)/\bK (rd t c) λu=>aG (.map u) (.map m)/\ba (rd t a) λu=>aG (aA u) (aA n)/\ba (rd t a) λu=>aG (aA u) (aA p)/\aF (ap b)/\bK (rd t c) λu=>aG (.map u) (.map q)/\Cl 364 [aA e,ap r,.map m] t (λr t=> ∃u:Int,∃v:Int,r=(.agg #[ap u,ap v])/\ba (rd t a) λr=>aG (aA r) (aA n)/\ba (rd t a) λr=>aG (aA r) (aA p)/\aF (ap b)/\bK (rd t c) λr=>aG (.map r) (.map q)/\Cl 73 [aA p,ap b] t (λr t=>aQ .u32 (some r) λr=>ba (rd t a) λw=>aG (aA w) (aA n)/\bK (rd t c) λw=>aG (.map w) (.map q)/\Cl 364 [aA n,ap r,.map q] t (λr t=> ∃w:Int,∃x:Int,r=(.agg #[ap w,ap x])/\a9 t (.cells #[ap 0,ap 0] 352) λr t=>ba (rd t a) λy=>aG (aA y) (aA e)/\ba (rd t a) λe=>aG (aA e) (aA k)/\aF (ap b)/\bK (rd t c) λe=>aG (.map e) (.map m)/\ba (rd t a) λe=>aG (aA e) (aA n)/\ba (rd t a) λe=>aG (aA e) (aA p)/\aF (ap b)/\bK (rd t c) λe=>aG (.map e) (.map q)/\aW t ((aw r).add 0) (ap u) λe=>aW e ((aw r).add 1) (ap v) λe=>aW e ((aw s).add 0) (ap w) λe=>aW e ((aw s).add 1) (ap x) λe=>F362.wk5 bk2 a c l o b (aw r) (aw s) f d g j i e K)/\a9 t (.cells #[ap 0,ap 0] 352) λt w=>ba (rd w a) λx=>aG (aA x) (aA e)/\ba (rd w a) λe=>aG (aA e) (aA k)/\aF (ap b)/\bK (rd w c) λe=>aG (.map e) (.map m)/\ba (rd w a) λe=>aG (aA e) (aA n)/\ba (rd w a) λe=>aG (aA e) (aA p)/\aF (ap b)/\bK (rd w c) λe=>aG (.map e) (.map q)/\Cl 364 [aA n,ap r,.map q] w λe k=> ∃m:Int,∃n:Int,e=(.agg #[ap m,ap n])/\aW k ((aw t).add 0) (ap u) λe=>aW e ((aw t).add 1) (ap v) λe=>aW e ((aw s).add 0) (ap m) λe=>aW e ((aw s).add 1) (ap n) λe=>F362.wk5 bk2 a c l o b (aw t) (aw s) f d g j i e K)/\a9 t (.cells #[ap 0,ap 0] 352) λr t=>ba (rd t a) λw=>aG (aA w) (aA e)/\ba (rd t a) λe=>aG (aA e) (aA k)/\aF (ap b)/\bK (rd t c) λe=>aG (.map e) (.map m)/\ba (rd t a) λe=>aG (aA e) (aA n)/\ba (rd t a) λe=>aG (aA e) (aA p)/\aF (ap b)/\bK (rd t c) λe=>aG (.map e) (.map q)/\Cl 73 [aA p,ap b] t λe k=>aQ .u32 (some e) λe=>ba (rd k a) λm=>aG (aA m) (aA n)/\bK (rd k c) λm=>aG (.map m) (.map q)/\Cl 364 [aA n,ap e,.map q] k λe k=> ∃m:Int,∃n:Int,e=(.agg #[ap m,ap n])/\aW k ((aw r).add 0) (ap u) λe=>aW e ((aw r).add 1) (ap v) λe=>aW e ((aw s).add 0) (ap m) λe=>aW e ((aw s).add 1) (ap n) λe=>F362.wk5 bk2 a c l o b (aw r) (aw s) f d g j i e K)/\a9 t (.cells #[ap 0,ap 0] 352) λt u=>ba (rd u a) λv=>aG (aA v) (aA e)/\ba (rd u a) λv=>aG (aA v) (aA k)/\aF (ap b)/\bK (rd u c) λk=>aG (.map k) (.map m)/\ba (rd u a) λk=>aG (aA k) (aA n)/\ba (rd u a) λk=>aG (aA k) (aA p)/\aF (ap b)/\bK (rd u c) λk=>aG (.map k) (.map q)/\Cl 364 [aA e,ap r,.map m] u λe k=> ∃m:Int,∃r:Int,e=(.agg #[ap m,ap r])/\ba (rd k a) λe=>aG (aA e) (aA n)/\ba (rd k a) λe=>aG (aA e) (aA p)/\aF (ap b)/\bK (rd k c) λe=>aG (.map e) (.map q)/\Cl 73 [aA p,ap b] k λe k=>aQ .u32 (some e) λe=>ba (rd k a) λp=>aG (aA p) (aA n)/\bK (rd k c) λp=>aG (.map p) (.map q)/\Cl 364 [aA n,ap e,.map q] k λe k=> ∃n:Int,∃p:Int,e=(.agg #[ap n,ap p])/\aW k ((aw t).add 0) (ap m) λe=>aW e ((aw t).add 1) (ap r) λe=>aW e ((aw s).add 0) (ap n) λe=>aW e ((aw s).add 1) (ap p) λe=>F362.wk5 bk2 a c l o b (aw t) (aw s) f d g j i e K)/\a9 h (.cells #[ap 0,ap 0] 352) (λr s=>ba (rd s a) λt=>aG (aA t) (aA e)/\ba (rd s a) λt=>aG (aA t) (aA k)/\aF (ap b)/\bK (rd s c) λt=>aG (.map t) (.map m)/\ba (rd s a) λt=>aG (aA t) (aA n)/\ba (rd s a) λt=>aG (aA t) (aA p)/\aF (ap b)/\bK (rd s c) λt=>aG (.map t) (.map q)/\Cl 72 [aA k,ap b] s (λs t=>aQ .u32 (some s) λs=>ba (rd t a) λu=>aG (aA u) (aA e)/\bK (rd t c) λu=>aG (.map u) (.map m)/\ba (rd t a) λu=>aG (aA u) (aA n)/\ba (rd t a) λu=>aG (aA u) (aA p)/\aF (ap b)/\bK (rd t c) λu=>aG (.map u) (.map q)/\Cl 364 [aA e,ap s,.map m] t (λs t=> ∃u:Int,∃v:Int,s=(.agg #[ap u,ap v])/\ba (rd t a) λs=>aG (aA s) (aA n)/\ba (rd t a) λs=>aG (aA s) (aA p)/\aF (ap b)/\bK (rd t c) λs=>aG (.map s) (.map q)/\Cl 73 [aA p,ap b] t (λs t=>aQ .u32 (some s) λs=>ba (rd t a) λw=>aG (aA w) (aA n)/\bK (rd t c) λw=>aG (.map w) (.map q)/\Cl 364 [aA n,ap s,.map q] t (λs t=> ∃w:Int,∃x:Int,s=(.agg #[ap w,ap x])/\a9 t (.cells #[ap 0,ap 0] 352) λs t=>ba (rd t a) λy=>aG (aA y) (aA e)/\ba (rd t a) λe=>aG (aA e) (aA k)/\aF (ap b)/\bK (rd t c) λe=>aG (.map e) (.map m)/\ba (rd t a) λe=>aG (aA e) (aA n)/\ba (rd t a) λe=>aG (aA e) (aA p)/\aF (ap b)/\bK (rd t c) λe=>aG (.map e) (.map q)/\aW t ((aw r).add 0) (ap u) λe=>aW e ((aw r).add 1) (ap v) λe=>aW e ((aw s).add 0) (ap w) λe=>aW e ((aw s).add 1) (ap x) λe=>F362.wk5 bk2 a c l o b (aw r) (aw s) f d g j i e K)/\a9 t (.cells #[ap 0,ap 0] 352) λt w=>ba (rd w a) λx=>aG (aA x) (aA e)/\ba (rd w a) λe=>aG (aA e) (aA k)/\aF (ap b)/\bK (rd w c) λe=>aG (.map e) (.map m)/\ba (rd w a) λe=>aG (aA e) (aA n)/\ba (rd w a) λe=>aG (aA e) (aA p)/\aF (ap b)/\bK (rd w c) λe=>aG (.map e) (.map q)/\Cl 364 [aA n,ap s,.map q] w λe k=> ∃m:Int,∃n:Int,e=(.agg #[ap m,ap n])/\aW k ((aw r).add 0) (ap u) λe=>aW e ((aw r).add 1) (ap v) λe=>aW e ((aw t).add 0) (ap m) λe=>aW e ((aw t).add 1) (ap n) λe=>F362.wk5 bk2 a c l o b (aw r) (aw t) f d g j i e K)/\a9 t (.cells #[ap 0,ap 0] 352) λs t=>ba (rd t a) λw=>aG (aA w) (aA e)/\ba (rd t a) λe=>aG (aA e) (aA k)/\aF (ap b)/\bK (rd t c) λe=>aG (.map e) (.map m)/\ba (rd t a) λe=>aG (aA e) (aA n)/\ba (rd t a) λe=>aG (aA e) (aA p)/\aF (ap b)/\bK (rd t c) λe=>aG (.map e) (.map q)/\Cl 73 [aA p,ap b] t λe k=>aQ .u32 (some e) λe=>ba (rd k a) λm=>aG (aA m) (aA n)/\bK (rd k c) λm=>aG (.map m) (.map q)/\Cl 364 [aA n,ap e,.map q] k λe k=> ∃m:Int,∃n:Int,e=(.agg #[ap m,ap n])/\aW k ((aw r).add 0) (ap u) λe=>aW e ((aw r).add 1) (ap v) λe=>aW e ((aw s).add 0) (ap m) λe=>aW e ((aw s).add 1) (ap n) λe=>F362.wk5 bk2 a c l o b (aw r) (aw s) f d g j i e K)/\a9 t (.cells #[ap 0,ap 0] 352) λt u=>ba (rd u a) λv=>aG (aA v) (aA e)/\ba (rd u a) λv=>aG (aA v) (aA k)/\aF (ap b)/\bK (rd u c) λk=>aG (.map k) (.map m)/\ba (rd u a) λk=>aG (aA k) (aA n)/\ba (rd u a) λk=>aG (aA k) (aA p)/\aF (ap b)/\bK (rd u c) λk=>aG (.map k) (.map q)/\Cl 364 [aA e,ap s,.map m] u λe k=> ∃m:Int,∃s:Int,e=(.agg #[ap m,ap s])/\ba (rd k a) λe=>aG (aA e) (aA n)/\ba (rd k a) λe=>aG (aA e) (aA p)/\aF (ap b)/\bK (rd k c) λe=>aG (.map e) (.map q)/\Cl 73 [aA p,ap b] k λe k=>aQ .u32 (some e) λe=>ba (rd k a) λp=>aG (aA p) (aA n)/\bK (rd k c) λp=>aG (.map p) (.map q)/\Cl 364 [aA n,ap e,.map q] k λe k=> ∃n:Int,∃p:Int,e=(.agg #[ap n,ap p])/\aW k ((aw r).add 0) (ap m) λe=>aW e ((aw r).add 1) (ap s) λe=>aW e ((aw t).add 0) (ap n) λe=>aW e ((aw t).add 1) (ap p) λe=>F362.wk5 bk2 a c l o b (aw r) (aw t) f d g j i e K)/\a9 s (.cells #[ap 0,ap 0] 352) λs t=>ba (rd t a) λu=>aG (aA u) (aA e)/\ba (rd t a) λu=>aG (aA u) (aA k)/\aF (ap b)/\bK (rd t c) λu=>aG (.map u) (.map m)/\ba (rd t a) λu=>aG (aA u) (aA n)/\ba (rd t a) λu=>aG (aA u) (aA p)/\aF (ap b)/\bK (rd t c) λu=>aG (.map u) (.map q)/\Cl 72 [aA k,ap b] t λk t=>aQ .u32 (some k) λk=>ba (rd t a) λu=>aG (aA u) (aA e)/\bK (rd t c) λu=>aG (.map u) (.map m)/\ba (rd t a) λu=>aG (aA u) (aA n)/\ba (rd t a) λu=>aG (aA u) (aA p)/\aF (ap b)/\bK (rd t c) λu=>aG (.map u) (.map q)/\Cl 364 [aA e,ap k,.map m] t λe k=> ∃m:Int,∃t:Int,e=(.agg #[ap m,ap t])/\ba (rd k a) λe=>aG (aA e) (aA n)/\ba (rd k a) λe=>aG (aA e) (aA p)/\aF (ap b)/\bK (rd k c) λe=>aG (.map e) (.map q)/\Cl 73 [aA p,ap b] k λe k=>aQ .u32 (some e) λe=>ba (rd k a) λp=>aG (aA p) (aA n)/\bK (rd k c) λp=>aG (.map p) (.map q)/\Cl 364 [aA n,ap e,.map q] k λe k=> ∃n:Int,∃p:Int,e=(.agg #[ap n,ap p])/\aW k ((aw r).add 0) (ap m) λe=>aW e ((aw r).add 1) (ap t) λe=>aW e ((aw s).add 0) (ap n) λe=>aW e ((aw s).add 1) (ap p) λe=>F362.wk5 bk2 a c l o b (aw r) (aw s) f d g j i e K)/\a9 h (.cells #[ap 0,ap 0] 352) λr s=>ba (rd s a) λt=>aG (aA t) (aA e)/\ba (rd s a) λt=>aG (aA t) (aA k)/\aF (ap b)/\bK (rd s c) λt=>aG (.map t) (.map m)/\ba (rd s a) λt=>aG (aA t) (aA n)/\ba (rd s a) λt=>aG (aA t) (aA p)/\aF (ap b)/\bK (rd s c) λt=>aG (.map t) (.map q)/\Cl 72 [aA k,ap b] s (λs t=>aQ .u32 (some s) λs=>ba (rd t a) λu=>aG (aA u) (aA e)/\bK (rd t c) λu=>aG (.map u) (.map m)/\ba (rd t a) λu=>aG (aA u) (aA n)/\ba (rd t a) λu=>aG (aA u) (aA p)/\aF (ap b)/\bK (rd t c) λu=>aG (.map u) (.map q)/\Cl 364 [aA e,ap s,.map m] t (λs t=> ∃u:Int,∃v:Int,s=(.agg #[ap u,ap v])/\ba (rd t a) λs=>aG (aA s) (aA n)/\ba (rd t a) λs=>aG (aA s) (aA p)/\aF (ap b)/\bK (rd t c) λs=>aG (.map s) (.map q)/\Cl 73 [aA p,ap b] t (λs t=>aQ .u32 (some s) λs=>ba (rd t a) λw=>aG (aA w) (aA n)/\bK (rd t c) λw=>aG (.map w) (.map q)/\Cl 364 [aA n,ap s,.map q] t (λs t=> ∃w:Int,∃x:Int,s=(.agg #[ap w,ap x])/\a9 t (.cells #[ap 0,ap 0] 352) λs t=>ba (rd t a) λy=>aG (aA y) (aA e)/\ba (rd t a) λe=>aG (aA e) (aA k)/\aF (ap b)/\bK (rd t c) λe=>aG (.map e) (.map m)/\ba (rd t a) λe=>aG (aA e) (aA n)/\ba (rd t a) λe=>aG (aA e) (aA p)/\aF (ap b)/\bK (rd t c) λe=>aG (.map e) (.map q)/\aW t ((aw s).add 0) (ap u) λe=>aW e ((aw s).add 1) (ap v) λe=>aW e ((aw r).add 0) (ap w) λe=>aW e ((aw r).add 1) (ap x) λe=>F362.wk5 bk2 a c l o b (aw s) (aw r) f d g j i e K)/\a9 t (.cells #[ap 0,ap 0] 352) λt w=>ba (rd w a) λx=>aG (aA x) (aA e)/\ba (rd w a) λe=>aG (aA e) (aA k)/\aF (ap b)/\bK (rd w c) λe=>aG (.map e) (.map m)/\ba (rd w a) λe=>aG (aA e) (aA n)/\ba (rd w a) λe=>aG (aA e) (aA p)/\aF (ap b)/\bK (rd w c) λe=>aG (.map e) (.map q)/\Cl 364 [aA n,ap s,.map q] w λe k=> ∃m:Int,∃n:Int,e=(.agg #[ap m,ap n])/\aW k ((aw t).add 0) (ap u) λe=>aW e ((aw t).add 1) (ap v) λe=>aW e ((aw r).add 0) (ap m) λe=>aW e ((aw r).add 1) (ap n) λe=>F362.wk5 bk2 a c l o b (aw t) (aw r) f d g j i e K)/\a9 t (.cells #[ap 0,ap 0] 352) λs t=>ba (rd t a) λw=>aG (aA w) (aA e)/\ba (rd t a) λe=>aG (aA e) (aA k)/\aF (ap b)/\bK (rd t c) λe=>aG (.map e) (.map m)/\ba (rd t a) λe=>aG (aA e) (aA n)/\ba (rd t a) λe=>aG (aA e) (aA p)/\aF (ap b)/\bK (rd t c) λe=>aG (.map e) (.map q)/\Cl 73 [aA p,ap b] t λe k=>aQ .u32 (some e) λe=>ba (rd k a) λm=>aG (aA m) (aA n)/\bK (rd k c) λm=>aG (.map m) (.map q)/\Cl 364 [aA n,ap e,.map q] k λe k=> ∃m:Int,∃n:Int,e=(.agg #[ap m,ap n])/\aW k ((aw s).add 0) (ap u) λe=>aW e ((aw s).add 1) (ap v) λe=>aW e ((aw r).add 0) (ap m) λe=>aW e ((aw r).add 1) (ap n) λe=>F362.wk5 bk2 a c l o b (aw s) (aw r) f d g j i e K)/\a9 t (.cells #[ap 0,ap 0] 352) λt u=>ba (rd u a) λv=>aG (aA v) (aA e)/\ba (rd u a) λv=>aG (aA v) (aA k)/\aF (ap b)/\bK (rd u c) λk=>aG (.map k) (.map m)/\ba (rd u a) λk=>aG (aA k) (aA n)/\ba (rd u a) λk=>aG (aA k) (aA p)/\aF (ap b)/\bK (rd u c) λk=>aG (.map k) (.map q)/\Cl 364 [aA e,ap s,.map m] u λe k=> ∃m:Int,∃s:Int,e=(.agg #[ap m,ap s])/\ba (rd k a) λe=>aG (aA e) (aA n)/\ba (rd k a) λe=>aG (aA e) (aA p)/\aF (ap b)/\bK (rd k c) λe=>aG (.map e) (.map q)/\Cl 73 [aA p,ap b] k λe k=>aQ .u32 (some e) λe=>ba (rd k a) λp=>aG (aA p) (aA n)/\bK (rd k c) λp=>aG (.map p) (.map q)/\Cl 364 [aA n,ap e,.map q] k λe k=> ∃n:Int,∃p:Int,e=(.agg #[ap n,ap p])/\aW k ((aw t).add 0) (ap m) λe=>aW e ((aw t).add 1) (ap s) λe=>aW e ((aw r).add 0) (ap n) λe=>aW e ((aw r).add 1) (ap p) λe=>F362.wk5 bk2 a c l o b (aw t) (aw r) f d g j i e K)/\a9 s (.cells #[ap 0,ap 0] 352) λs t=>ba (rd t a) λu=>aG (aA u) (aA e)/\ba (rd t a) λu=>aG (aA u) (aA k)/\aF (ap b)/\bK (rd t c) λu=>aG (.map u) (.map m)/\ba (rd t a) λu=>aG (aA u) (aA n)/\ba (rd t a) λu=>aG (aA u) (aA p)/\aF (ap b)/\bK (rd t c) λu=>aG (.map u) (.map q)/\Cl 72 [aA k,ap b] t λk t=>aQ .u32 (some k) λk=>ba (rd t a) λu=>aG (aA u) (aA e)/\bK (rd t c) λu=>aG (.map u) (.map m)/\ba (rd t a) λu=>aG (aA u) (aA n)/\ba (rd t a) λu=>aG (aA u) (aA p)/\aF (ap b)/\bK (rd t c) λu=>aG (.map u) (.map q)/\Cl 364 [aA e,ap k,.map m] t λe k=> ∃m:Int,∃t:Int,e=(.agg #[ap m,ap t])/\ba (rd k a) λe=>aG (aA e) (aA n)/\ba (rd k a) λe=>aG (aA e) (aA p)/\aF (ap b)/\bK (rd k c) λe=>aG (.map e) (.map q)/\Cl 73 [aA p,ap b] k λe k=>aQ .u32 (some e) λe=>ba (rd k a) λp=>aG (aA p) (aA n)/\bK (rd k c) λp=>aG (.map p) (.map q)/\Cl 364 [aA n,ap e,.map q] k λe k=> ∃n:Int,∃p:Int,e=(.agg #[ap n,ap p])/\aW k ((aw s).add 0) (ap m) λe=>aW e ((aw s).add 1) (ap t) λe=>aW e ((aw r).add 0) (ap n) λe=>aW e ((aw r).add 1) (ap p) λe=>F362.wk5 bk2 a c l o b (aw s) (aw r) f d g j i e K
def F362.wk3:Prop:=bf f λb=>0<=i/\i<(d:Int)/\aQ .u32 (rd h (b.add (i.toNat*1))) λb=>F362.wk4 bk2 a c l o b f d g j i h K
def F362.wL2:Prop:=Lp Tryz.f362 F362.T [1,1,0] n [(1,(au a)),(2,(au c)),(3,(au l)),(5,o),(12,(.slice f d g)),(13,(al j)),(14,(al i))] h K
def F362.sL2:F362.wL2 (n+1) a c l o f d g j i h K=(aK (i<j) (F362.wk3 (λa b c d e f g i j k=>F362.wL2 n a b c d e f g i j k K) a c l o f d g j i h K) (K aE h)):=by kernel_rfl
def F362.wk2:Prop:=(∃b,F362.wL2 b a c l o f d g j i h K)
def F362.spec(H:ba (rd h a) λb=>F362.wk2 a c l (.func (.func 363) #[aA b] #[]) u q t (q:Int) 0 h K):Cl 362 [.slice u q t,au a,au c,au l] h K:=cT F362.T Tryz.func362 H
end
end
section
section
variable {h h':aH}{s n room k T w lo:Nat}{B:SB}{f g fo gg:Nat->Nat}{N M:ay}{U F:List Nat}{Q:Int->Int->Prop}{off:Bool}{K:KK}
def gT.only(Y:gT h s n room B f g M U F Q off T w){S:List Nat}(O:aM S h h')(hS: ∀b∈S,b∉B.bm s++B.bt):gT h' s n room B f g M U F Q off T w:=
 ⟨Y.m.only O λb hb hm=>hS b hb (List.mem_append.2 (.inl hm)),Y.t.only O λb hb hm=>hS b hb (List.mem_append.2 (.inr hm)),Y.bn,Y.bs,Y.t5,Y.t7,Y.cap,Y.rm,Y.cnt,Y.fre⟩
def gT.only0(Y:gT h s n room B f g M U F Q off T w)(O:aM [] h h'):gT h' s n room B f g M U F Q off T w:=Y.only O ak
def gT.lt(Y:gT h s n room B f g M U F Q off T w): ∀b∈B.bm s++B.bt,b<h.size:=λb hb=>by
 rcases List.mem_append.1 hb with q|q
 ·exact Y.m.lt b q
 ·exact Y.t.lt b q
def pO.isN(V:pO n k fo N M U){a:Nat}(ha:isN N a):isN M a:=by
 by_cases q:a<2
 ·exact .inl q
 have hn:=eZ (n:=n) ha ah;by_cases u:a∈U
 ·exact .inr ⟨_,(V.un a u).trans hn⟩
 by_cases l:k<=lvl n N a
 ·exact qf.isN (V.mid.old a ha l u).1
 ·exact .inr ⟨_,(V.up _ _ (by show lvl n N a<k;omega)).2 hn⟩
def pO.ndok(V:pO n k fo N M U)(H:dz n N)(hn:n<=8)(lN:N.length<=32768)(lM:M.length<=32768): ∀i x,nd (gH U M) i=some x->kA x:=λi x hx=>by
 have lt: ∀{D:ay} {y},D.length<=32768->Ev.isN D y->y<2^28:=λ{D y} hl h=>by
  rcases h with h|⟨z,h⟩
  ·omega
  ·have:=iW h;omega
 by_cases q:k<=x.1
 ·have hd:=(mz q).1 hx;obtain⟨c1,c2,c3,c4,-,-⟩:=V.mid.ok.node i x hd;exact⟨ah,lt lM (qf.isN c2),lt lM (qf.isN c3),c4⟩
 ·rw[gG]at hx;split at hx
  ·cases hx
  obtain⟨c1,c2,c3,c4,-,-⟩:=H.node i x ((V.up i x ah).1 hx);exact⟨ah,lt lN c2,lt lN c3,c4⟩
set_option maxRecDepth 100000 in
def uq{wb a:Nat}{mo:List (Int×Value)}(Y:gT h s n room B f g M U F Q off T w)(V:pO n k fo N M U)(Mp:bO h wb .u32 mo)(Om:sZ mo (cy N (k+1)))(hk:k+1<n)(ha:isN N a)
  (hK: ∀h',aM [] h h'->K (.agg #[ap ((part n k N a).1:Int),ap ((part n k N a).2:Int)]) h'):Cl 364 [bh s,ap (a:Int),.map (some wb)] h K:=by
 refine F364.spec _ _ _ h K ?_;refine aV λh1 A1 O1 z1=> ?_;have iM:=V.isN ha
 have st: ∀(h2:aH) (u v:Nat) (K':aH->Prop),At h2 h.size [ap 0,ap 0]->(∀h3,aM [h.size] h2 h3->At h3 h.size [ap (u:Int),ap (v:Int)]->K' h3)->
   aW h2 (Addr.add (aw h.size) 0) (ap (u:Int)) (λh3=>aW h3 (Addr.add (aw h.size) 1) (ap (v:Int)) K'):=λh2 u v K' A hK'=>by
  simp only[aL,Nat.zero_add];refine aS A ak rfl λh3 A3 O3 z3=>aS A3 ak rfl λh4 A4 O4 z4=>hK' h4 (O3.trans O4 λy hy _=>hy) A4
 have rest: ∀o3:Option (Nat×Value),o3.isSome=decide (a∈cy N (k+1))->kE (.agg #[]) o3= .agg #[]->lI (some (kE (.agg #[]) o3)) (λv4=>a9 h1 (.cells #[] 218) (λb5 h6=>dF Tryz.prog 218 (some (aw b5)) v4 h6 (λh7=>aK (!(Option.isSome o3)) (aW h7 (Addr.add (aw h.size) 0) (ap (a:Int)) (λh8=>aW h8 (Addr.add (aw h.size) 1) (ap (a:Int)) (λh9=>aQ .u32 (rd h9 (Addr.add (aw h.size) 0)) (λn10=>aQ .u32 (rd h9 (Addr.add (aw h.size) 1)) (λn11=>K (.agg #[(ap n10),(ap n11)]) h9))))) (Cl 72 [(au (aw s)),(ap (a:Int))] h7 (λv12 h13=>aQ .u32 (some v12) (λn14=>Cl 73 [(au (aw s)),(ap (a:Int))] h13 (λv15 h16=>aQ .u32 (some v15) (λn17=>aW h16 (Addr.add (aw h.size) 0) (ap n14) (λh18=>aW h18 (Addr.add (aw h.size) 1) (ap n17) (λh19=>aQ .u32 (rd h19 (Addr.add (aw h.size) 0)) (λn20=>aQ .u32 (rd h19 (Addr.add (aw h.size) 1)) (λn21=>K (.agg #[(ap n20),(ap n21)]) h19)))))))))))):=λo3 e1 e2=>by
  rw[e2];refine⟨_,rfl,aV λh2 A2 O2 z2=>ja ?_⟩;have A3:=A1.only O2 ak;have O02:=O1.trans O2 ak;have Y2:=Y.only0 O02;rw[e1];by_cases q:a∈cy N (k+1)
  ·rw[decide_eq_true q,Bool.not_true,aJ];obtain⟨a2,x,hx,ex⟩:=iJ.1 q;have la:lvl n N a=k+1:=by unfold lvl;rw[if_neg ah,hx];exact ex
   have hm:=V.lw a a2 ha la;obtain⟨-,-,lw,hg⟩:=dL (n:=n) hm;rw[show a-2+2=a by omega]at lw hg;refine yi Y2.m iM (aI rfl (uN Y2.m iM (aI rfl ?_)));rw[lw,hg];refine st h2 _ _ _ A3 λh4 O4 A4=> ?_;simp only[aL,Nat.zero_add];refine aI (by rw[At.rd A4];rfl) (aI (by rw[At.rd A4];rfl) ?_);have:=hK h4 (O02.trans O4 λy hy hl=>by simp at hy;omega);unfold part at this;rw[if_pos la]at this;exact this
  ·rw[decide_eq_false q,Bool.not_false,aO]
   have la: ¬lvl n N a=k+1:=λe=>by
    have a2:2<=a:=by
     apply Classical.byContradiction;intro w;have:lvl n N a=n:=by unfold lvl;rw[if_pos ah]
     omega
    exact q (iJ.2 ⟨a2,_,eZ (n:=n) ha a2,e⟩)
   refine st h2 _ _ _ A3 λh4 O4 A4=> ?_;simp only[aL,Nat.zero_add];refine aI (by rw[At.rd A4];rfl) (aI (by rw[At.rd A4];rfl) ?_);have:=hK h4 (O02.trans O4 λy hy hl=>by simp at hy;omega);unfold part at this;rw[if_neg la]at this;exact this
 refine dt (m:=mo) (Mp.only O1 ak) (λhn=> ?_) λj v hv=> ?_
 ·have:a∉cy N (k+1):=λhm=>by
   rw[(Om a).1 hm]at hn;cases hn
  exact rest none (by rw[decide_eq_false this];rfl) rfl
 ·have:a∈cy N (k+1):=Classical.byContradiction λhm=>by
   rw[(Om a).2 hm]at hv;cases hv
  rw[(Om a).1 this]at hv;injection hv with hv;subst hv;exact rest (some (j,.agg #[])) (by rw[decide_eq_true this];rfl) rfl
def wJ{a0 a1 b0 b1 i:Nat}(Y:gT h s n room B f g M U F Q off T (w+1))(V:pO n k fo N M U)(H:dz n N)(lN:N.length<=32768)(hk:k+1<n)(hi:i<2){a b:Nat}(ea:a=if i=0 then a0 else a1)(eb:b=if i=0 then b0 else b1)
  (ha:isN N a) (la:k+1<lvl n N a) (hb:isN N b) (lb:k+1<lvl n N b)
  (hK: ∀h' B' M' F' r,gT h' s n room B' f g M' U F' Q off T w->pO n k fo N M' U->Ex (dn k U M) (dn k U M')->Ev.isN (dn k U M') r->k+1<=lvl n (dn k U M') r->(∀x,sm n (sw k fo) (dn k U M') r x=if x.testBit (fo k)then sm n fo N b x else sm n fo N a x)->
   aM (B.bm s++B.bt) h h'->bH (B.bm s++B.bt) (B'.bm s++B'.bt) h->K (ap (r:Int)) h'):
  Cl 365 [bh s,al (k:Int),.agg #[ap (a0:Int),ap (a1:Int)],.agg #[ap (b0:Int),ap (b1:Int)],al (i:Int)] h K:=by
 have n8:=Y.m.n8.2;have lM:=Y.m.len;have cap:=Y.cap;have rm:=Y.rm;refine F365.spec ?_;refine aV λh1 A1 O1 z1=>aV λh2 A2 O2 z2=> ?_;have A12:=A1.only O2 ak;have O02:=O1.trans O2 ak;have Y2:=Y.only0 O02;simp only[aL,Nat.zero_add,Nat.mul_one,Int.toNat_natCast];refine⟨ah,ah,aI (n:=(a:Int)) ?_ ⟨ah,ah,aI (n:=(b:Int)) ?_ ?_⟩⟩
 ·rw[At.rd A12,ea];have:i=0\/i=1:=ah;rcases this with e|e<;>subst e<;>rfl
 ·rw[At.rd A2,eb];have:i=0\/i=1:=ah;rcases this with e|e<;>subst e<;>rfl
 rw[show((1:Int))=((1:Nat):Int)from rfl,oJ (k:=k) ah ah]
 have deepM: ∀{c},Ev.isN N c->k+1<lvl n N c->k+1<lvl n M c:=λ{c} hc hl=>by
  have nU:c∉U:=λhm=>by have:=(V.mid.un _ hm).2.2.2.1;omega
  obtain⟨d1,-⟩:=V.mid.old c hc ah nU;rw[qf.lvl d1,V.mid.deep c hc hl];exact hl
 refine IU Y2.m Y2.t Y2.bn Y2.bs Y2.t5 Y2.t7 Y2.cnt Y2.fre (V.ndok H n8 lN ah) hk (V.isN ha) (V.isN hb) (deepM ha la) (deepM hb lb) (.inl ah) (λc hc=> ?_) λh3 B3 M3 F3 r e T3 R m3 t3 eT _ k5 k7 n3 s3 c3 f3 O3 fr=> ?_
 ·obtain⟨u1,-,u3,-⟩:=V.mid.un c hc;refine⟨u1,?_⟩;rw[V.un c hc,eZ (n:=n) u3 u1];simp
 have eT:=eT ah;subst eT
 have key:F6 U M (k+1) a b M3 r/\be M3<=be M+1:=by
  rcases R with⟨r1,r2,-,r3⟩|⟨r0,j,r1,r2,-,r3⟩|⟨-,-,r1,-⟩|⟨r0,r1,-,-,q,r2,P⟩
  ·subst r2 r3;exact⟨.same r1,ah⟩
  ·subst r2 r3;exact⟨.found j r0 r1,ah⟩
  ·omega
  ·subst r2;exact⟨.made M3 q r0 r1 P,by rw[P.cnt];omega⟩
 obtain⟨V3,E3,i3,l3,s3'⟩:=V.made hk ha la hb lb key.1;refine⟨_,_,rfl,?_⟩;have z:=O02.size;exact hK h3 B3 M3 F3 r ⟨m3,t3,n3,s3,k5,k7,by have:=key.2;omega,by have:=key.2;omega,c3,f3⟩ V3 E3 i3 l3 s3' ((O02.mono ak).trans O3 λy hy _=>hy) λy hy=>(fr y hy).imp id λq=>ah
set_option maxRecDepth 100000 in
def vr{c x0 x1:Nat}{y:Nd}(Y:gT h s n room B f g M (c::U) F Q off T w)(hc:nd M (c-2)=some y)(c2:2<=c)(hx:kA (k,x0,x1))(hnew:qI (gH (c::U) M) (kf (k,x0,x1)))(cU:c∉U)
  (hK: ∀h',gT h' s n room B f g (M.set (c-2) (some (k,x0,x1))) U F Q off T w->aM (B.bm s++B.bt) h h'->K aE h'):
  Cl 363 [bh s,ap (c:Int),al (k:Int),ap (x0:Int),ap (x1:Int)] h K:=by
 have lM:=Y.m.len;have lt:=iW hc;have cap:=Y.cap;refine F363.spec ?_;refine tf Y.m ah (λw=>absurd hc (w y c2)) λb0 y' eb _ hy rr=>aR rfl ?_;rw[hc]at hy;injection hy with hy;subst hy;rw[aU];simp only[aL,Nat.add_zero];obtain⟨y1,y2,y3⟩:=y;refine Y.m.st (x':=(k,y2,y3)) hc eb ah rfl rfl λh1 m1 O1=> ?_;rw[aU];have hc1:nd (M.set (c-2) (some (k,y2,y3))) (c-2)=some (k,y2,y3):=by rw[dX lt,if_pos rfl]
 refine m1.st (x':=(k,x0,y3)) hc1 eb ah rfl rfl λh2 m2 O2=> ?_;rw[List.set_set]at m2;rw[aU];have hc2:nd (M.set (c-2) (some (k,x0,y3))) (c-2)=some (k,x0,y3):=by rw[dX lt,if_pos rfl]
 refine m2.st (x':=(k,x0,x1)) hc2 eb ah rfl rfl λh3 m3 O3=> ?_;rw[List.set_set]at m3;have hc3:nd (M.set (c-2) (some (k,x0,x1))) (c-2)=some (k,x0,x1):=by rw[dX lt,if_pos rfl]
 have O03:aM [b0] h h3:=(O1.trans O2 λy hy _=>hy).trans O3 λy hy _=>hy;obtain⟨b3,eb3,r3⟩:=m3.cells (i:=c-2) (cO.1 hc3);rw[eb]at eb3;injection eb3 with eb3;injection eb3 with eb3;subst eb3;rw[aU];simp only[aL];refine aY (n:=true) (by rw[r3 0 ah];rfl) (aI (n:=(k:Int)) (by rw[r3 1 ah];rfl) (aI (n:=(x0:Int)) (by rw[r3 2 ah];rfl) (aI (n:=(x1:Int)) (by rw[r3 3 ah];rfl) ?_)));have bm0:=Y.m.pb eb
 have T3:=Y.t.only O03 λb hb hm=>by simp only[List.mem_singleton]at hb;subst hb;exact Y.bs b hm bm0
 have bl:=T3.lt;obtain⟨cs,mm,ops,fails,t1,t2,t3,L⟩:=T3;have nn:=Y.bn;simp only[SB.bt,List.nodup_cons,List.mem_cons,List.not_mem_nil,or_false,not_or,List.nodup_nil,and_true,not_false_eq_true]at nn;have sp:s∉B.bt:=λhm=>Y.bs s hm (by simp[SB.bm]);simp only[SB.bt,List.mem_cons,List.not_mem_nil,or_false,not_or]at sp;have S3:=m3.S;have t7:=Y.t7
 have er:be (gH (c::U) M)<=be M:=uM λi x hx=>by
  rw[gG]at hx;split at hx
  ·cases hx
  ·exact hx
 have hq:nd (gH (c::U) M) (c-2)=none:=by rw[gG,if_pos (by simp;omega)]
 have hN': ∀i,nd (gH U (M.set (c-2) (some (k,x0,x1)))) i=if i=c-2 then some (k,x0,x1)else nd (gH (c::U) M) i:=λi=>by
  rw[gG,gG,dX lt];by_cases e:i=c-2
  ·rw[if_pos e,if_pos e,if_neg];rw[e,show c-2+2=c by omega];exact cU
  ·rw[if_neg e,if_neg e];have:i+2≠c:=ah;simp[this]
 have cs':(c:Int)=((c-2+2:Nat):Int):=by rw[show c-2+2=c by omega]
 rw[cs']
 refine uI S3 (t:=B.tb) (m:=B.m) (mc:=B.mc) (sb:=B.sb) (T:=T) (x:=(k,x0,x1)) (q:=c-2) (N':=gH U (M.set (c-2) (some (k,x0,x1)))) rfl rfl (by simp;omega) t1 t2 t3 ah (by simp;omega) ah ah (bl _ (by simp[SB.bt])) (bl _ (by simp[SB.bt])) (bl _ (by simp[SB.bt]))
  L hx hnew ah hq hN' (wQ hq hN') λh6 cs' mm' ops' fails' A6 T6 M6 Mp6 L6 O6=>⟨rfl,?_⟩
 have Hm6:=m3.only O6 λy hy hm=>Y.bs y (by simp[SB.bt]at hy ⊢;omega) hm;have cM:be (M.set (c-2) (some (k,x0,x1)))=be M:=qj (cO.1 hc);refine hK h6 ⟨Hm6,⟨cs',mm',ops',fails',T6,M6,Mp6,L6⟩,Y.bn,Y.bs,Y.t5,Y.t7,by rw[cM];exact Y.cap,by rw[cM];exact Y.rm,by rw[cM,List.length_set];exact Y.cnt,Y.fre.1,λa ha=> ?_⟩ ((O03.mono λy hy _=> ?_).trans O6 λy hy _=> ?_)
 ·obtain⟨f1,f2,f3⟩:=Y.fre.2 a ha;refine⟨f1,by rw[List.length_set];exact f2,?_⟩;rw[dX lt,if_neg]
  ·exact f3
  ·intro e;rw[e,hc]at f3;cases f3
 ·simp only[List.mem_singleton]at hy;subst hy;exact List.mem_append.2 (.inl bm0)
 ·simp only[List.mem_append,SB.bt];simp at hy ⊢;omega
end
end
section
def HA:bZ X 363=some cY.go:=by kernel_rfl
structure Cx(h:aH)(s k x1 x2 x3 wb:Nat)(mo:List (Int×Value)):Prop where
 a1:At h x1 [bh s]
 a2:At h x2 [.map (some wb)]
 a3:At h x3 [al (k:Int)]
 mp:bO h wb .u32 mo
structure Za(h0 h:aH)(Bs:List Nat):Prop where
 O:aM [] h0 h
 A: ∀b∈Bs,At h b [ap 0,ap 0]/\h0.size<=b
 nd:Bs.Nodup
section
variable {h h' h0:aH}{s n room k T w x1 x2 x3 wb c cc:Nat}{B:SB}{f g fo gg:Nat->Nat}{N M:ay}{U F:List Nat}{Q:Int->Int->Prop}{off:Bool}{K:KK}{mo:List (Int×Value)}{p:az}
def Cx.only(C:Cx h s k x1 x2 x3 wb mo){S:List Nat}(O:aM S h h')(hS:x1∉S/\x2∉S/\x3∉S/\wb∉S):Cx h' s k x1 x2 x3 wb mo:=
 ⟨C.a1.only O hS.1,C.a2.only O hS.2.1,C.a3.only O hS.2.2.1,C.mp.only O hS.2.2.2⟩
def Cx.lt(C:Cx h s k x1 x2 x3 wb mo):x1<h.size/\x2<h.size/\x3<h.size/\wb<h.size:=⟨C.a1.lt,C.a2.lt,C.a3.lt,C.mp.lt⟩
def Za.only{Bs:List Nat}(Z:Za h0 h Bs)(O:aM [] h h'):Za h0 h' Bs:=⟨Z.O.trans O ak,λb hb=>⟨(Z.A b hb).1.only O ak,(Z.A b hb).2⟩,Z.nd⟩
def Za.new{Bs:List Nat}{K:Nat->aH->Prop}(Z:Za h0 h Bs)(hK: ∀h',Za h0 h' (h.size::Bs)->K h.size h'):a9 h (.cells #[ap (0:Int),ap (0:Int)] 352) K:=by
 refine aV λh1 A1 O1 z1=>hK h1 ⟨Z.O.trans O1 ak,λb hb=> ?_,List.nodup_cons.2 ⟨λhm=> ?_,Z.nd⟩⟩
 ·rcases List.mem_cons.1 hb with e|hb
  ·subst e;exact⟨A1,Z.O.size⟩
  ·exact⟨(Z.A b hb).1.only O1 ak,(Z.A b hb).2⟩
 ·have:=(Z.A _ hm).1.lt;omega
def Za.fin{Bs:List Nat}{a b u0 u1 v0 v1:Nat}{K:aH->Prop}(Z:Za h0 h Bs)(ha:a∈Bs)(hb:b∈Bs)(ne:a≠b)(hK: ∀h',aM [] h0 h'->At h' a [ap (u0:Int),ap (u1:Int)]->At h' b [ap (v0:Int),ap (v1:Int)]->h0.size<=a->h0.size<=b->K h'):
  aW h (Addr.add (aw a) 0) (ap (u0:Int)) λh1=>aW h1 (Addr.add (aw a) 1) (ap (u1:Int)) λh2=>aW h2 (Addr.add (aw b) 0) (ap (v0:Int)) λh3=>aW h3 (Addr.add (aw b) 1) (ap (v1:Int)) K:=by
 obtain⟨A,la⟩:=Z.A a ha;obtain⟨A',lb⟩:=Z.A b hb;simp only[aL,Nat.zero_add];have n1:a∉[b]:=by simpa using ne
 have n2:b∉[a]:=by simpa using λe=>ne e.symm
 have zz:=Z.O.size;refine aS A ak rfl λk1 A1 O1 z1=>aS A1 ak rfl λk2 A2 O2 z2=>aS ((A'.only O1 n2).only O2 n2) ak rfl λk3 A3 O3 z3=>aS A3 ak rfl λk4 A4 O4 z4=> ?_;refine hK k4 ((((Z.O.trans O1 λy hy hl=>by simp at hy;omega).trans O2 λy hy hl=>by simp at hy;omega).trans O3 λy hy hl=>by simp at hy;omega).trans O4 λy hy hl=>by simp at hy;omega) ((A2.only O3 n1).only O4 n1) A4 la lb
variable {bk2:Addr->Addr->Addr->Value->(az)->Nat->Nat->Int->Int->aH->Prop}{x5:Value}{l:Nat}{x13 x14:Int}
set_option maxRecDepth 100000 in
def CI(Y:gT h s n room B f g M U F Q off T w)(V:pO n k fo N M U)(C:Cx h s k x1 x2 x3 wb mo)(Om:sZ mo (cy N (k+1)))(H:dz n N)(hk:k+1<n)(hc:c∈U)
  (hK: ∀h' x8 x9,aM [] h h'->At h' x8 [ap ((part n k N (low N c)).1:Int),ap ((part n k N (low N c)).2:Int)]->At h' x9 [ap ((part n k N (high N c)).1:Int),ap ((part n k N (high N c)).2:Int)]->h.size<=x8->h.size<=x9->
   F362.wk5 bk2 (aw x1) (aw x2) (aw x3) x5 (c:Int) (aw x8) (aw x9) p l cc x13 x14 h' K):
  F362.wk4 bk2 (aw x1) (aw x2) (aw x3) x5 (c:Int) p l cc x13 x14 h K:=by
 obtain⟨c2,-,ci,cl,-⟩:=V.mid.un c hc;obtain⟨-,h4,h5,-,-,-⟩:=H.at ci c2;have hm:=(V.un c hc).trans (eZ (n:=n) ci c2);obtain⟨iM,-,lw,hg⟩:=dL (n:=n) hm;rw[show c-2+2=c by omega]at iM lw hg;have zP: ∀{hX Bs},Za h hX Bs->rd hX (aw x1)=some (au (aw s)):=λZ=>by rw[At.rd (C.a1.only Z.O ak)];rfl
 have zM: ∀{hX Bs},Za h hX Bs->rd hX (aw x2)=some (.map (some wb)):=λZ=>by rw[At.rd (C.a2.only Z.O ak)];rfl
 have zlow: ∀{hX Bs} {K':KK},Za h hX Bs->K' (ap (low N c:Int)) hX->Cl 72 [au (aw s),ap (c:Int)] hX K':=λZ hk'=>yi (Y.only0 Z.O).m iM (by rw[lw];exact hk');have zhigh: ∀{hX Bs} {K':KK},Za h hX Bs->K' (ap (high N c:Int)) hX->Cl 73 [au (aw s),ap (c:Int)] hX K':=λZ hk'=>uN (Y.only0 Z.O).m iM (by rw[hg];exact hk')
 have zpa: ∀{hX Bs} {K':KK},Za h hX Bs->(∀h',Za h h' Bs->K' (.agg #[ap ((part n k N (low N c)).1:Int),ap ((part n k N (low N c)).2:Int)]) h')->Cl 364 [au (aw s),ap (low N c:Int),.map (some wb)] hX K':=λZ hk'=>
  uq (Y.only0 Z.O) V (C.mp.only Z.O ak) Om hk h4 λh' O'=>hk' h' (Z.only O')
 have zpb: ∀{hX Bs} {K':KK},Za h hX Bs->(∀h',Za h h' Bs->K' (.agg #[ap ((part n k N (high N c)).1:Int),ap ((part n k N (high N c)).2:Int)]) h')->Cl 364 [au (aw s),ap (high N c:Int),.map (some wb)] hX K':=λZ hk'=>
  uq (Y.only0 Z.O) V (C.mp.only Z.O ak) Om hk h5 λh' O'=>hk' h' (Z.only O')
 have zf1: ∀{hX x y},Za h hX [y,x]->aW hX (Addr.add (aw x) 0) (ap ((part n k N (low N c)).1:Int)) λh1=>aW h1 (Addr.add (aw x) 1) (ap ((part n k N (low N c)).2:Int)) λh2=>aW h2 (Addr.add (aw y) 0) (ap ((part n k N (high N c)).1:Int)) λh3=>aW h3 (Addr.add (aw y) 1) (ap ((part n k N (high N c)).2:Int)) λh50=>F362.wk5 bk2 (aw x1) (aw x2) (aw x3) x5 (c:Int) (aw x) (aw y) p l cc x13 x14 h50 K:=λ{hX x y} Z=>
  Z.fin ak ak (λe=>by have:=Z.nd;simp at this;exact this e.symm) λh' O' A A' la lb=>hK h' x y O' A A' la lb
 have zf2: ∀{hX x y},Za h hX [y,x]->aW hX (Addr.add (aw y) 0) (ap ((part n k N (low N c)).1:Int)) λh1=>aW h1 (Addr.add (aw y) 1) (ap ((part n k N (low N c)).2:Int)) λh2=>aW h2 (Addr.add (aw x) 0) (ap ((part n k N (high N c)).1:Int)) λh3=>aW h3 (Addr.add (aw x) 1) (ap ((part n k N (high N c)).2:Int)) λh50=>F362.wk5 bk2 (aw x1) (aw x2) (aw x3) x5 (c:Int) (aw y) (aw x) p l cc x13 x14 h50 K:=λ{hX x y} Z=>
  Z.fin ak ak (λe=>by have:=Z.nd;simp at this;exact this e) λh' O' A A' la lb=>hK h' y x O' A A' la lb
 have Z0:Za h h []:=⟨aM.refl _ _,ak,ak⟩;clear hK;unfold F362.wk4
 repeat' first
  |exact zf1 (by assumption)
  |exact zf2 (by assumption)
  |refine aR (zP (by assumption)) ?_
  |refine⟨_,zM (by assumption),?_⟩
  |refine zlow (by assumption) ?_
  |refine zhigh (by assumption) ?_
  |refine zpa (by assumption) λhX ZX=> ?_
  |refine zpb (by assumption) λhX ZX=> ?_
  |refine Za.new (by assumption) λhX ZX=> ?_
  |refine aI rfl ?_
  |refine⟨_,_,rfl,?_⟩
  |refine⟨rfl,?_⟩
  |refine⟨?_,?_⟩
end
end
section
def Fp:bZ X 362=some cY.go:=by kernel_rfl
section
variable {h h':aH}{s n room k T w x1 x2 x3 wb c cc x8 x9 lo:Nat}{B:SB}{f g fo gg:Nat->Nat}{N M:ay}{U F:List Nat}{Q:Int->Int->Prop}{off:Bool}{K:KK}{mo:List (Int×Value)}{p:az}
variable {bk2:Addr->Addr->Addr->Value->(az)->Nat->Nat->Int->Int->aH->Prop}{l:Nat}{x13 x14:Int}
def Et(s:Nat):Value:= .func (.func 363) #[au (aw s)] #[]
set_option maxRecDepth 100000 in
def CQ(Y:gT h s n room B f g M (c::U) F Q off T (w+2))(V:pO n k fo N M (c::U))(C:Cx h s k x1 x2 x3 wb mo)(H:dz n N)(P:dJ n fo gg)(lN:N.length<=32768)(hk:k+1<n)
  (A8:At h x8 [ap ((part n k N (low N c)).1:Int),ap ((part n k N (low N c)).2:Int)]) (A9:At h x9 [ap ((part n k N (high N c)).1:Int),ap ((part n k N (high N c)).2:Int)]) (D: ∀y∈[x1,x2,x3,wb,x8,x9],y∉B.bm s++B.bt)
  (hK: ∀h' B' M' F',gT h' s n room B' f g M' U F' Q off T w->pO n k fo N M' U->aM (B.bm s++B.bt) h h'->bH (B.bm s++B.bt) (B'.bm s++B'.bt) h->bk2 (aw x1) (aw x2) (aw x3) (Et s) p l cc x13 (ax (x14+(1:Int))) h'):
  F362.wk5 bk2 (aw x1) (aw x2) (aw x3) (Et s) (c:Int) (aw x8) (aw x9) p l cc x13 x14 h K:=by
 have n8:=Y.m.n8.2;obtain⟨c2,-,ci,cl,-⟩:=V.mid.un c ak;obtain⟨-,h4,h5,-,h6,h7⟩:=H.at ci c2;rw[cl]at h6 h7;obtain⟨⟨a1,a2⟩,⟨a3,a4⟩,a5⟩:=nT (fo:=fo) H h4 h6 hk;obtain⟨⟨b1,b2⟩,⟨b3,b4⟩,b5⟩:=nT (fo:=fo) H h5 h7 hk;have lt1:=C.lt;have lt8:=A8.lt;have lt9:=A9.lt;unfold F362.wk5;simp only[aL,Nat.zero_add];have r1: ∀{hX},At hX x1 [bh s]->rd hX (aw x1)=some (au (aw s)):=λA=>by rw[At.rd A];rfl
 have r3: ∀{hX},At hX x3 [al (k:Int)]->rd hX (aw x3)=some (al (k:Int)):=λA=>by rw[At.rd A];rfl
 have r0: ∀{hX y u v},At hX y [ap u,ap v]->rd hX (aw y)=some (ap u)/\rd hX ⟨y,1,none⟩=some (ap v):=λA=>⟨by rw[At.rd A];rfl,by rw[At.rd A];rfl⟩;refine aI (r3 C.a3) (aR (r1 C.a1) (aI (r3 C.a3) (aI (r0 A8).1 (aI (r0 A8).2 (aI (r0 A9).1 (aI (r0 A9).2 (aR (r1 C.a1) (aI (r3 C.a3) (aI (r0 A8).1 (aI (r0 A8).2 (aI (r0 A9).1 (aI (r0 A9).2 ?_))))))))))));have Y':gT h s n room B f g M (c::U) F Q off T ((w+1)+1):=Y;refine wJ (i:=0) Y' V H lN hk ah (if_pos rfl).symm (if_pos rfl).symm a1 a2 b1 b2 λk1 B1 M1 F1 q0 Y1 V1 E1 i0 l0 s0 O1 Fr1=>aI rfl ⟨by trivial,by trivial,?_⟩;have S1: ∀{S},S=B.bm s++B.bt->x1∉S/\x2∉S/\x3∉S/\wb∉S:=λe=>by subst e;exact⟨D _ ak,D _ ak,D _ ak,D _ ak⟩
 have C1:=C.only O1 (S1 rfl);have A81:=A8.only O1 (D _ ak);have A91:=A9.only O1 (D _ ak)
 have D1: ∀y∈[x1,x2,x3,wb,x8,x9],y∉B1.bm s++B1.bt:=λy hy hm=>by
  rcases Fr1 y hm with q|q
  ·exact D y hy q
  ·simp at hy;omega
 refine aI (r3 C1.a3) ⟨rfl,aR (r1 C1.a1) ⟨rfl,aI (r3 C1.a3) ⟨rfl,aI (r0 A81).1 (aI (r0 A81).2 ⟨rfl,aI (r0 A91).1 (aI (r0 A91).2 ⟨rfl,?_⟩)⟩)⟩⟩⟩;refine wJ (i:=1) Y1 V1 H lN hk ah (if_neg ah).symm (if_neg ah).symm a3 a4 b3 b4 λk2 B2 M2 F2 q1 Y2 V2 E2 i1 l1 s1 O2 Fr2=>aI rfl ⟨by trivial,by trivial,?_⟩;have C2:=C1.only O2 ⟨D1 _ ak,D1 _ ak,D1 _ ak,D1 _ ak⟩;refine aI (r3 C2.a3) ⟨rfl,bE HA ?_⟩;have i0':=E2.isN i0;have l0':k+1<=lvl n (dn k (c::U) M2) q0:=by rw[E2.lvl i0];exact l0
 obtain⟨ne,no,V3⟩:=V2.put H P n8 hk i0' l0' (λx=>by rw[E2.sm V1.mid.ok i0];exact s0 x) i1 l1 s1;have hm:=(V2.un c ak).trans (eZ (n:=n) ci c2);have lM2:=Y2.m.len
 have F9: ∀{q},isN (dn k (c::U) M2) q->q<2^28:=λ{q} hq=>by
  rcases(qf (k:=k) (U:=c::U)).isN hq with z|⟨z,hz⟩
  ·omega
  ·have:=iW hz;omega
 have nk:kA (k,q0,q1):=⟨by show k<256;omega,F9 i0',F9 i1,ne⟩;refine vr Y2 hm c2 nk (λi x hx e=> ?_) (List.nodup_cons.1 V2.nod).1 λh3 Y3 O3=>⟨rfl,?_⟩
 ·have:=vT (V2.ndok H n8 lN ah i x hx) nk e;subst this;exact no i hx
 have O12:=O1.app O2 Fr1;have F12:=Fr1.trans Fr2 O1.size;exact hK h3 B2 _ F2 Y3 V3 (O12.app O3 F12) F12
def Ck{U0:List Nat}: ∀(d t:Nat) {h:aH} {B:SB} {M:ay} {F:List Nat},t+d=U0.length->gT h s n room B f g M (U0.drop t) F Q off T (2*d)->pO n k fo N M (U0.drop t)->Cx h s k x1 x2 x3 wb mo->sZ mo (cy N (k+1))->dz n N->dJ n fo gg->N.length<=32768->k+1<n->
  cj h lo 1 p U0.length cc (U0.map hv)->(∀y∈[x1,x2,x3,wb]++aX p,y∉B.bm s++B.bt)->U0.length<=40000->
  (∀h' B' M' F',gT h' s n room B' f g M' [] F' Q off T 0->pO n k fo N M' []->aM (B.bm s++B.bt) h h'->bH (B.bm s++B.bt) (B'.bm s++B'.bt) h->K aE h')->
  F362.wL2 (d+1) (aw x1) (aw x2) (aw x3) (Et s) p U0.length cc (U0.length:Int) (t:Int) h K:=by
 intro d
 induction d with
 |zero=>
  intro t h B M F ht Y V C Om H P lN hk Ow D hl hK;rw[F362.sL2];rw[decide_eq_false ah,aJ];have e:U0.drop t=[]:=List.drop_eq_nil_of_le ah;rw[e]at Y V;exact hK h B M F Y V (aM.refl _ _) (bH.refl _ _)
 |succ d ih=>
  intro t h B M F ht Y V C Om H P lN hk Ow D hl hK;have ltt:t<U0.length:=ah;have e:U0.drop t=U0[t]::U0.drop (t+1):=List.drop_eq_getElem_cons ltt;obtain⟨c,ec⟩: ∃c,c=U0[t]:=⟨_,rfl⟩;rw[<-ec]at e;rw[e]at Y V;obtain⟨b,eb,rb⟩:=Ow.elem (i:=t) (a:=c) (by rw[ec];exact List.getElem?_eq_getElem ltt);rw[F362.sL2];rw[decide_eq_true ah,aO];unfold F362.wk3
  try dsimp only
  rw[eb,aU,<-eb];refine⟨ah,ah,?_⟩;simp only[aL,Nat.zero_add,Nat.mul_one,Int.toNat_natCast];refine aI (n:=(c:Int)) rb ?_;have lt:=C.lt;refine CI Y V C Om H hk ak λh1 x8 x9 O1 A8 A9 l8 l9=> ?_;have blt:=Y.lt;have Y1:=Y.only0 O1;have C1:=C.only O1 ak;have Y1':gT h1 s n room B f g M (c::U0.drop (t+1)) F Q off T (2*d+2):=Y1;refine CQ Y1' V C1 H P lN hk A8 A9 (λy hy hm=> ?_) λh2 B2 M2 F2 Y2 V2 O2 Fr2=> ?_
  ·have:=blt y hm;simp only[List.mem_cons,List.not_mem_nil,or_false]at hy;rcases hy with q|q|q|q|q|q
   ·exact D y (by simp[q]) hm
   ·exact D y (by simp[q]) hm
   ·exact D y (by simp[q]) hm
   ·exact D y (by simp[q]) hm
   ·omega
   ·omega
  rw[show ax ((t:Int)+(1:Int))=((t+1:Nat):Int) by rw[wrap_i64 ah ah];omega];have z1:=O1.size;have D4:x1∉B.bm s++B.bt/\x2∉B.bm s++B.bt/\x3∉B.bm s++B.bt/\wb∉B.bm s++B.bt:=⟨D _ ak,D _ ak,D _ ak,D _ ak⟩;refine ih (t+1) ah Y2 V2 (C1.only O2 D4) Om H P lN hk ((Ow.only O1 ak).only O2 λb' e'=>D b' (by rw[e'];simp[aX])) (λy hy hm=> ?_) hl λh3 B3 M3 F3 Y3 V3 O3 Fr3=>hK h3 B3 M3 F3 Y3 V3 ?_ ?_
  ·rcases Fr2 y hm with q|q
   ·exact D y hy q
   ·have:y<h.size:=by
     rcases List.mem_append.1 hy with w|w
     ·simp at w;omega
     ·exact(Ow.lt y w).2
    omega
  ·exact((O1.mono ak).trans O2 λy hy _=>hy).app O3 λy hy=>(Fr2 y hy).imp id λq=>ah
  ·have fr:bH (B.bm s++B.bt) (B2.bm s++B2.bt) h:=λy hy=>(Fr2 y hy).imp id λq=>ah;have O02:aM (B.bm s++B.bt) h h2:=(O1.mono ak).trans O2 λy hy _=>hy;exact fr.trans Fr3 O02.size
end
section
variable {h:aH}{s k:Nat}{L:List Nat}{Y:SX}{K:KK}
set_option maxRecDepth 100000 in
def Dz(S:cI h s L Y)(hk:k+1<Y.n)(P:dJ Y.n Y.f Y.g)(hF: ∀h',aM [] h h'->K (al 60) h')
  (hK: ∀h' L' N',(∀a,isN Y.N a->isN N' a/\ ∀x,sm Y.n (sw k Y.f) N' a x=sm Y.n Y.f Y.N a x)->cI h' s L' {Y with f:=sw k Y.f,g:=so k Y.f Y.g,N:=N'}->aM L h h'->bH L L' h->K (al 0) h'):
  Cl 342 [bh s,al (k:Int)] h K:=by
 have S0:=S;obtain⟨B,F,eL,H⟩:=S;subst eL;have n8:=H.m.n8.2;have hlen:=H.m.len;have cl:=lE Y.N;have onl: ∀l,(cy Y.N l).length<=Y.N.length:=λl=>iL;refine F342.spec _ _ h K ?_;refine aV λh1 A1 O1 z1=>aV λh2 A2 O2 z2=> ?_;have O02:=O1.trans O2 ak;have H2:=S0.only0 O02;have A12:=A1.only O2 ak;have rs: ∀{hX},At hX h.size [bh s]->rd hX (aw h.size)=some (bh s):=λA=>by rw[At.rd A];rfl
 have rk: ∀{hX},At hX h1.size [al (k:Int)]->rd hX (aw h1.size)=some (al (k:Int)):=λA=>by rw[At.rd A];rfl
 refine aI (rk A2) ?_;rw[decide_eq_false ah,aJ];refine aI (rk A2) (aR (rs A12) (fD H2 (aI rfl (aI (rk A2) ⟨rfl,?_⟩))));rw[show ax ((Y.n:Int)-1)=(Y.n:Int)-1 from wrap_i64 ah ah,decide_eq_false ah,aJ];refine aR (rs A12) (aI (rk A2) (aR (rs A12) (aR (rs A12) ?_)));refine F359.spec ?_;have m2:=H.m.only O02 ak;refine wt m2 λh3 p3 c3 Ow3 O3=>bo rfl (aI rfl ?_);have A13:=A12.only O3 ak;have A23:=A2.only O3 ak;have O03:=O02.trans O3 ak;have H3:=S0.only0 O03;refine aR (rs A13) ⟨rfl,aR (rs A13) ⟨rfl,oV H3 (aI rfl (aR (rs A13) ⟨rfl,lD H3 (aI rfl ?_)⟩))⟩⟩;have ol:=onl k;have ol1:=onl (k+1);rw[wrap_i64 (n:=(2:Int)*(((cy Y.N k).length:Nat):Int)) ah ah,wrap_i64 (n:=((Y.room:Nat):Int)-((be Y.N:Nat):Int)) ah ah];refine aT (λq=>hF h3 O03) λq=> ?_;have q:=of_decide_eq_false q
 have rm:be Y.N+2*(bU Y.n k Y.N).length<=Y.room:=by have:=List.length_filter_le (cw Y.n k Y.N) (cy Y.N k);unfold bU;omega
 unfold F342.wk5;refine fi (k:= .u32) λh4 Mp4 O4 z4=>aV λh5 A5 O5 z5=> ?_;rw[aL];refine aS A5 ak rfl λh6 A6 O6 z6=> ?_;have A6:At h6 h4.size [.map (some h3.size)]:=A6;have O36:aM [] h3 h6:=(O4.trans O5 ak).trans O6 (by intro y hy hl;simp only[List.mem_singleton]at hy;omega);have O06:=O03.trans O36 ak;have A16:=A13.only O36 ak;have A26:=A23.only O36 ak;have s2:=O02.size;have s3:=O3.size;have s1:=O1.size;have l4:=Mp4.lt;have Mp6:bO h6 h3.size .u32 []:=(Mp4.only O5 ak).only O6 (by simp only[List.mem_singleton];omega);refine aR (rs A16) (aI (rk A26) ?_);rw[show((1:Int))=((1:Nat):Int)from rfl,oJ (k:=k) ah ah];refine wt (H.m.only O06 ak) λh7 p7 c7 Ow7 O7=>bo rfl ?_;have s6:=O36.size;have l6:=A6.lt;unfold F342.wk7;have A17:=A16.only O7 ak;have A27:=A26.only O7 ak;have A67:=A6.only O7 ak;have Mp7:=Mp6.only O7 ak;have l1:=A1.lt;have l2:=A2.lt;have O07:=O06.trans O7 ak;have s7:=O7.size
 have main: ∀(d t:Nat) (h8:aH) (mo:List (Int×Value)),t+d=(cy Y.N (k+1)).length->bO h8 h3.size .u32 mo->sZ mo ((cy Y.N (k+1)).take t)->aM [h3.size] h7 h8->F342.wL7 (d+1) (aw h.size) (aw h1.size) (aw h4.size) p7 (cy Y.N (k+1)).length c7 ((cy Y.N (k+1)).length:Int) (t:Int) h8 K:=by
  intro d
  induction d with
  |zero=>
   intro t h8 mo ht Mp8 Om O8;rw[F342.sL7];rw[decide_eq_false ah,aJ];obtain rfl:t=(cy Y.N (k+1)).length:=ah;rw[List.take_length]at Om;unfold F342.wk11;have A18:=A17.only O8 (by simp;omega);have A28:=A27.only O8 (by simp;omega);have A68:=A67.only O8 (by simp;omega);have O08:aM [] h h8:=O07.trans O8 λy hy hl=>by simp only[List.mem_singleton]at hy;omega
   refine aR (rs A18) (aI (rk A28) ?_)
   have lt0: ∀y∈B.bm s++B.bt,y<h.size:=λy hy=>by
    rcases List.mem_append.1 hy with q|q
    ·exact H.m.lt y q
    ·exact H.t.lt y q
   have H8:nF h8 s Y.n Y.room B Y.f Y.g Y.N F Y.Q Y.off:=H.only O08 ak;obtain⟨T,t,t5,t6,t7⟩:=H8.t.tab;refine Di (K:=λv h4=>v=aE/\K (al 0) h4) H8 t t5 t7 hk P rm λh9 B9 M9 T9 p9 c9 lo9 Y9 V9 Ow9 g9 D9 O9 Fr9=>bE Fp ?_;have dis: ∀y,h.size<=y->y<h8.size->y∉B.bm s++B.bt:=λy hy _ hm=>by have:=lt0 y hm;omega
   have z8:=O08.size;have l8:=Mp8.lt;have C9:Cx h9 s k h.size h4.size h1.size h3.size mo:=⟨A18.only O9 (dis _ ah ah),A68.only O9 (dis _ ah A68.lt),A28.only O9 (dis _ ah A28.lt),Mp8.only O9 (dis _ ah l8)⟩;refine F362.spec _ _ _ _ _ _ h9 _ ?_;refine aR (by rw[At.rd C9.a1];rfl) ?_;unfold F362.wk2
   have bl:(bU Y.n k Y.N).length<=40000:=by have:=List.length_filter_le (cw Y.n k Y.N) (cy Y.N k);unfold bU;omega
   refine⟨_,Ck (U0:=bU Y.n k Y.N) (lo:=lo9) (bU Y.n k Y.N).length 0 ah Y9 V9 C9 Om H.ok P ah hk Ow9 (λy hy hm=> ?_) bl λh10 B10 M10 F10 Y10 V10 O10 Fr10=>⟨rfl,rfl,?_⟩⟩
   ·rcases List.mem_append.1 hy with w|w
    ·have w2:h.size<=y/\y<h8.size:=by
      have:=A18.lt;have:=A28.lt;have:=A68.lt;simp at w;omega
     rcases Fr9 y hm with z|z
     ·exact dis y w2.1 w2.2 z
     ·omega
    ·exact D9 y w hm
   obtain⟨ok,sms⟩:=Cq H.ok hk V10.mid V10.up;have t10:=Y10.t;rw[dE]at t10;have Fr':bH (B.bm s++B.bt) (B9.bm s++B9.bt) h8:=Fr9;have O810:=O9.app O10 Fr';have F810:=Fr'.trans Fr10 O9.size;refine hK h10 _ M10 sms ⟨B10,F10,rfl,⟨Y10.m,⟨⟨T9,t10,Y10.t5,by have:=Y10.cap;show 2*be M10<=T9;omega,Y10.t7⟩,Y10.bn,Y10.bs⟩,ok,Y10.cnt,Y10.fre⟩⟩ ((O08.mono ak).trans O810 λy hy _=>hy) λy hy=>(F810 y hy).imp id λz=>ah
  |succ d ih=>
   intro t h8 mo ht Mp8 Om O8;rw[F342.sL7];rw[decide_eq_true ah,aO];obtain⟨a,ha⟩: ∃a,(cy Y.N (k+1))[t]? =some a:=⟨_,List.getElem?_eq_getElem ah⟩;have b7: ∀b∈aX p7,h6.size<=b:=λb hb=>(Ow7.lt b hb).1
   obtain⟨b,eb,rb⟩:=(Ow7.only O8 λb e hm=>by simp only[List.mem_singleton]at hm;have:=b7 b (by rw[e];simp[aX]);omega).elem ha
   rw[eb,aU,<-eb];refine⟨ah,ah,?_⟩;simp only[aL,Nat.zero_add,Nat.mul_one,Int.toNat_natCast];refine aI (n:=(a:Int)) rb ⟨_,by rw[At.rd (A67.only O8 (by simp;omega))];rfl,?_⟩;refine ft Mp8 λh9 Mp9 O9 z9=> ?_;rw[show ax ((t:Int)+1)=((t+1:Nat):Int) by rw[wrap_i64 ah ah];omega];refine ih (t+1) h9 _ ah Mp9 (λx=> ?_) (O8.trans O9 λy hy _=>hy);rw[bX,lj eD ha];by_cases e:x=a
   ·subst e;rw[if_pos rfl];exact⟨λ_=>rfl,λw=>absurd (.inr rfl) w⟩
   ·rw[if_neg ah];simp only[e,or_false];exact Om x
 exact⟨_,main (cy Y.N (k+1)).length 0 h7 [] ah Mp7 (λx=>⟨λw=>by simp at w,λ_=>rfl⟩) (aM.refl _ _)⟩
end
end
end Go.Proofs.YtnofenejoebkhaaGreat.Ev
