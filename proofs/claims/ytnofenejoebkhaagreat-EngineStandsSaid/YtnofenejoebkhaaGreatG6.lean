/- PART 6 OF WHAT THE LAW EngineStands STANDS ON: LgF5, LawP5, RetF5, RetG5, LhF5, NodL5, NodM5, NodN5, NodO5, SrtA, SrtF5, SrtB5, SrtB6, SrtL5, RefA5, RefB5, IterA, IterB5, IterC5, IterD5, RefG5, MrkA5, MrkB5, IterB6, IterC6, IterD6, ColA5, ColB5, ColC5, EngC65, OncA5, OncB5, UndA5, LawR5. Conditions: none but those that each lemma states. -/
import Derived.Test.YtnofenejoebkhaaGreatG5
import Derived.RangeFuncGives
import Derived.RangeFuncLeaves
import Derived.RangeFuncOwn
import Derived.Maps.OwnIn
import Derived.Maps.AppendAt
import Derived.WalkKit
import Derived.RegionIn
import Derived.LoopNIn
import Derived.LoopIn
import Derived.TacticsInMore
import Derived.Shelf.Abstract
namespace Go.Proofs.YtnofenejoebkhaaGreat.Ev
open Go
set_option linter.defProp false
section
variable {i j k l m n o p q r s t:Int}{a b c d:Addr}{u v:Nat}{x y:az}{h:aH}{K:KK}
def F10.spec(H:Cl 40 [] h λa b=>bI (some a) λa=>aK (!a) (K aB b) (aK ((u:Int)>(10:Int)) (K aC b) (((5:Int)≠0/\Cl 18 [al (ax ((ax (Int.tmod i 5))+4)),al 16384,al 3] b λa b=> ∃c:az,∃d:Int,a=(.tuple #[aA c,al d])/\aK (d !=0) (K aB b) (Cl 55 [aA c,al 0,.slice x u v] b λa b=>bI (some a) λa=>aK (!a) (K aB b) (Cl 53 [aA c,al 0,.agg #[al 3,al 1,al 4,al 0,al 0,al 0,.int .u8 0]] b λa b=> ∃d:Int,∃e:Int,∃f:Bool,a=(.tuple #[.agg #[al d,aq e],aD f])/\a9 b (.cells #[al 0,aq 0] 76) λa b=>aW b ((aw a).add 0) (al d) λb=>aW b ((aw a).add 1) (aq e) λb=>Cl 53 [aA c,al 0,.agg #[al 4,al 0,al 0,al 0,al 0,al 0,.int .u8 0]] b λb d=> ∃e:Int,∃g:Int,∃j:Bool,b=(.tuple #[.agg #[al e,aq g],aD j])/\a9 d (.cells #[al 0,aq 0] 76) λb d=>aW d ((aw b).add 0) (al e) λd=>aW d ((aw b).add 1) (aq g) λd=>Cl 53 [aA c,al 0,.agg #[al 4,al 0,al 0,al 4,al 0,al 0,.int .u8 0]] d λd e=> ∃g:Int,∃k:Int,∃l:Bool,d=(.tuple #[.agg #[al g,aq k],aD l])/\a9 e (.cells #[al 0,aq 0] 76) λd e=>aW e ((aw d).add 0) (al g) λe=>aW e ((aw d).add 1) (aq k) λe=>Cl 53 [aA c,al 0,.agg #[al 5,al 0,al 0,al 0,al 0,al 0,.int .u8 0]] e λe g=> ∃k:Int,∃m:Int,∃n:Bool,e=(.tuple #[.agg #[al k,aq m],aD n])/\a9 g (.cells #[al 0,aq 0] 76) λe g=>aW g ((aw e).add 0) (al k) λg=>aW g ((aw e).add 1) (aq m) λg=>Cl 53 [aA c,al 0,.agg #[al 5,al 0,al 0,al 0,al 4,al 0,.int .u8 0]] g λc g=> ∃k:Int,∃m:Int,∃o:Bool,c=(.tuple #[.agg #[al k,aq m],aD o])/\a9 g (.cells #[al 0,aq 0] 76) λc g=>aW g ((aw c).add 0) (al k) λg=>aW g ((aw c).add 1) (aq m) λg=>aK f (aK j (aK l (aK n (aK o (aQ .i64 (rd g ((aw a).add 0)) λa=>aK (a==0) (aQ .u64 (rd g ((aw b).add 1)) λa=>aQ .u64 (rd g ((aw d).add 1)) λb=>0<=(IntKind.wrap .u64 (ax ((ax (Int.tmod i 5))+4)))/\aK ((IntKind.wrap .u64 (a+b))==(IntKind.wrap .u64 ((1:Int)*2^(min ((IntKind.wrap .u64 (ax ((ax (Int.tmod i 5))+4))).toNat) (IntKind.bits .u64))))) (aQ .u64 (rd g ((aw e).add 1)) λa=>aK (a==1) (aQ .u64 (rd g ((aw c).add 1)) λa=>K (aD (a==0)) g) (K aB g)) (K aB g)) (K aB g)) (K aB g)) (K aB g)) (K aB g)) (K aB g)) (K aB g))))))):Cl 10 [.int .u8 i,.slice x u v] h K:=cN Tryz.func10 H
end
section
def FG{zs:List Int}(hz: ∀z∈zs,IntKind.min .u8<=z/\z<=IntKind.max .u8):zs=(zs.map Int.toNat).map λ(o:Nat)=>(o:Int):=by
 induction zs with
 |nil=>rfl
 |cons z l ih=>
  have h1:=hz z ak;have h2:=ih λy hy=>hz y (by simp[hy]);have:(0:Int)<=z:=h1.1;rw[List.map_cons,List.map_cons,<-h2]
  congr 1
  omega
def AX{zs:List Int}(hz: ∀z∈zs,IntKind.min .u8<=z/\z<=IntKind.max .u8): ∀o∈zs.map Int.toNat,o<256:=λo ho=>by obtain⟨z,hz',e⟩:=List.mem_map.1 ho;have h1:=hz z hz';have h2:z<=255:=h1.2;omega
def yF{s:Nat}: ∀{xs:List Nat} {F:iU},rU F s->rU (va F s xs) s:=by
 intro xs
 induction xs with
 |nil=>intro F H;exact H
 |cons o l ih=>intro F H;exact ih H.upd
def Du(F:iU)(s:Nat):rU (bY (bY (bY (bY F s 0) s 1) s 2) s 3) s:=λr hr=>by
 have:r=0\/r=1\/r=2\/r=3:=ah;rcases this with z|z|z|z<;>subst z
 ·exact⟨_,by show cf (cf (cf (cf F s 0 _) s 1 _) s 2 _) s 3 _ s 0=_;unfold cf;simp;rfl⟩
 ·exact⟨_,by show cf (cf (cf (cf F s 0 _) s 1 _) s 2 _) s 3 _ s 1=_;unfold cf;simp;rfl⟩
 ·exact⟨_,by show cf (cf (cf (cf F s 0 _) s 1 _) s 2 _) s 3 _ s 2=_;unfold cf;simp;rfl⟩
 ·exact⟨_,by show cf (cf (cf (cf F s 0 _) s 1 _) s 2 _) s 3 _ s 3=_;unfold cf;simp;rfl⟩
def bg.at{h h':aH}{e b:Nat}{G G':EG}{c:List Value}(S:bg e G h G' h')(A:At h b c)(nb:b∉iD e G):At h' b c/\b∉iD e G':=
 ⟨A.only (S.O (iD e G) λ_ h=>h) nb,λhm=>by
  rcases S.B b hm with q|q
  ·exact nb q
  ·have:=A.lt;omega⟩
def If:iU:=λ_ _=>none
def Fj{h:aH}{e:Nat}{G:EG}(W:cg h e G)(s1:G.E.ses=(pC 0 0 0).ses)(a1:G.E.ans=0)(N1:G.N=[])(j1:G.P.jobs=[])(l1:G.P.last=0)(M1:G.M=0):Qt h e G If 0:=
 ⟨W,λk _ r _=>⟨λ_=>by rw[s1];rfl,λf q=>by cases q⟩,j1,λk _=>by rw[s1];rfl,ah,ah,ah,by rw[N1];exact Nat.le_refl _,ah⟩
end
section
variable {i j k l m n o p q r s t:Int}{a b c d:Addr}{u v:Nat}{x y:az}{h:aH}{K:KK}
def F268.T:bj:=⟨[(3,[0,1,5,14,15,16]),(12,[0,5])],[]⟩
section
variable (n:Nat)(f:Addr)(i:Option Nat)(j:Int)(c:az)(b d:Nat)(g a:Int)(h:aH)(K:KK)
def F268.wk12:Prop:=ba (rd h (f.add 6)) λa=>Cl 113 [aA a] h λa b=>a=aE/\ba (rd b (f.add 4)) λa=>Cl 200 [aA a] b λa b=>aQ .i64 (some a) λa=>Cl 111 [au f,al (if a>32 then a else 32),.slice none 0 0] b λa b=>a=aE/\K (al j) b
def F268.wL3:Prop:=Lp Tryz.f268 F268.T [1,1,0,1,0] n [(0,(au f)),(1,(.map i)),(5,(al j)),(14,(.slice c b d)),(15,(al g)),(16,(al a))] h K
def F268.sL3:F268.wL3 (n+1) f i j c b d g a h K=(aK (a<g) (bf c λe=>0<=a/\a<(b:Int)/\bI (rd h ((e.add (a.toNat*4)).add 0)) λk=>aQ .i64 (rd h ((e.add (a.toNat*4)).add 1)) λl=>aQ .u32 (rd h ((e.add (a.toNat*4)).add 2)) λm=>aQ .u32 (rd h ((e.add (a.toNat*4)).add 3)) λe=>a9 h (.cells #[aB,al 0,ap 0,ap 0] 195) λo p=>aW p ((aw o).add 0) (aD k) λk=>aW k ((aw o).add 1) (al l) λk=>aW k ((aw o).add 2) (ap m) λk=>aW k ((aw o).add 3) (ap e) λe=>dP e i .u32 .u32 (IntKind.wrap .u32 (ax (a+2))) λk=>lI (some (kE (.agg #[]) k)) λl=>a9 e (.cells #[] 218) λe m=>dF Tryz.prog 218 (some (aw e)) l m λe=>bI (rd e ((aw o).add 0)) λl=>aK l (aK (!(Option.isSome k)) (cv (rd e (f.add 2)) λk l _=>bf k λk=>0<=a/\a<(l:Int)/\aW e ((k.add (a.toNat*4)).add 0) aB λe=>aW e ((k.add (a.toNat*4)).add 1) (al 0) λe=>aW e ((k.add (a.toNat*4)).add 2) (ap 0) λe=>aW e ((k.add (a.toNat*4)).add 3) (ap 0) λe=>cv (rd e (f.add 3)) λk l m=>a9 e (.cells #[ap (IntKind.wrap .u32 (ax (a+2)))] 46) λe o=>fB o 46 1 4 #[ap 0] k l m (some (aw e)) 1 λe k l m=>aW m ((f.add 3).add 0) (.slice e k l) λe=>F268.wL3 n f i (ax (j+1)) c b d g (ax (a+1)) e K) (F268.wL3 n f i j c b d g (ax (a+1)) e K)) (F268.wL3 n f i j c b d g (ax (a+1)) e K)) (F268.wk12 f j h K)):=by kernel_rfl
def F268.wk3:Prop:=(∃e,F268.wL3 e f i j c b d g a h K)
def F268.spec(H:cv (rd h (f.add 2)) λa b c=>F268.wk3 f i 0 a b c (b:Int) 0 h K):Cl 268 [au f,.map i] h K:=cT F268.T Tryz.func268 H
end
def F267.T:bj:=⟨[(3,[0,1,6,14,15,16]),(9,[0,1,6]),(10,[0,6,9]),(15,[0,6,9,10])],[]⟩
section
variable (n:Nat)(f:Addr)(j:az)(g i:Nat)(l:Option Nat)(d:az)(b c:Nat)(q:az)(o s:Nat)(t r:Int)(h:aH)(K:KK)
def F267.wk15(bk10:Addr->(Option Nat)->(az)->Nat->Nat->aH->Prop)(f:Addr)(l:Option Nat)(d:az)(b c:Nat)(u:Int)(h:aH)(K:KK):Prop:=lO h l .u32 .u32 u (.agg #[]) λa=>Cl 72 [au f,ap u] a λa e=>aQ .u32 (some a) λa=>Cl 73 [au f,ap u] e λe g=>aQ .u32 (some e) λe=>a9 g (.cells #[ap a,ap e] 46) λa e=>fB e 46 1 4 #[ap 0] d b c (some (aw a)) 2 λa b c d=>bk10 f l a b c d
def F267.wL10:Prop:=Lp Tryz.f267 F267.T [1,1,1,1,0,0] n [(0,(au f)),(6,(.map l)),(9,(.slice d b c))] h K
def F267.sL10:F267.wL10 (n+1) f l d b c h K=(aK ((b:Int)>(0:Int)) (bf d λa=>0<=(ax ((b:Int)-(1:Int)))/\(ax ((b:Int)-(1:Int)))<(b:Int)/\aQ .u32 (rd h (a.add ((ax ((b:Int)-(1:Int))).toNat*1))) λa=>0<=(ax ((b:Int)-(1:Int)))/\(ax ((b:Int)-(1:Int)))<=(c:Int)/\dP h l .u32 .u32 a λe=>lI (some (kE (.agg #[]) e)) λg=>a9 h (.cells #[] 218) λi j=>dF Tryz.prog 218 (some (aw i)) g j λg=>aK (Option.isSome e) (F267.wL10 n f l (if c=0 then d else Option.map (λa=>Addr.add a (0*1)) d) ((ax ((b:Int)-(1:Int))).toNat-0) (c-0) g K) (aK (a<=1) (F267.wL10 n f l (if c=0 then d else Option.map (λa=>Addr.add a (0*1)) d) ((ax ((b:Int)-(1:Int))).toNat-0) (c-0) g K) (F267.wk15 (λa b c d e f=>F267.wL10 n a b c d e f K) f l (if c=0 then d else Option.map (λa=>Addr.add a (0*1)) d) ((ax ((b:Int)-(1:Int))).toNat-0) (c-0) a g K))) (K (.tuple #[.map l,al 0]) h)):=by kernel_rfl
def F267.wk10:Prop:=(∃a,F267.wL10 a f l d b c h K)
def F267.wk9:Prop:=Cl 299 [.slice j g i] h λa b=>cv (some a) λa c d=>F267.wk10 f l a c d b K
def F267.wL3:Prop:=Lp Tryz.f267 F267.T [1,1,0,1,0] n [(0,(au f)),(1,(.slice j g i)),(6,(.map l)),(14,(.slice q o s)),(15,(al t)),(16,(al r))] h K
def F267.sL3:F267.wL3 (n+1) f j g i l q o s t r h K=(aK (r<t) (bf q λa=>0<=r/\r<(o:Int)/\aQ .u32 (rd h (a.add (r.toNat*1))) λa=>Cl 74 [au f,ap a] h λa b=>bI (some a) λa=>aK (!a) False (F267.wL3 n f j g i l q o s t (ax (r+1)) b K)) (F267.wk9 f j g i l h K)):=by kernel_rfl
def F267.wk3:Prop:=(∃a,F267.wL3 a f j g i l q o s t r h K)
def F267.spec(H:a9 h (.map #[] 0) λa b=>F267.wk3 f j g i (some a) j g i (g:Int) 0 b K):Cl 267 [au f,.slice j g i] h K:=cT F267.T Tryz.func267 H
end
def F218.spec(H:Cl 267 [au a,.slice x u v] h λb c=> ∃d:Option Nat,∃e:Int,b=(.tuple #[.map d,al e])/\aK (e !=0) (K (.tuple #[al 0,al e]) c) (Cl 268 [au a,.map d] c λa b=>aQ .i64 (some a) λa=>K (.tuple #[al a,al 0]) b)):Cl 218 [au a,.slice x u v] h K:=cN Tryz.func218 H
def F175.spec(H:Cl 213 [au b] h λb c=>cv (some b) λb d e=>Cl 218 [au a,.slice b d e] c λa b=> ∃c:Int,∃d:Int,a=(.tuple #[al c,al d])/\K (.tuple #[al c,al d]) b):Cl 175 [au a,au b] h K:=cN Tryz.func175 H
def F113.T:bj:=⟨[(1,[0,8,9])],[]⟩
section
variable (n:Nat)(a:Addr)(c b:Int)(h:aH)(K:KK)
def F113.wL1:Prop:=Lp Tryz.f113 F113.T [1,0] n [(0,(au a)),(8,(al c)),(9,(al b))] h K
def F113.sL1:F113.wL1 (n+1) a c b h K=(aK (b<c) (aQ .i64 (rd h (a.add 1)) λd=>ba (rd h (a.add 0)) λe=>Cl 162 [aA e,al (ax (d+(ax (3*b))))] h λe f=>aQ .u64 (some e) λe=>aK ((bB .and .u64 e 1)==0) (aK (e !=0) (ba (rd f (a.add 0)) λg=>Cl 163 [aA g,al (ax (d+(ax (3*b)))),aq e,aq (IntKind.wrap .u64 ((bB .andNot .u64 e 2)+4))] f λd e=>bI (some d) λ_=>F113.wL1 n a c (ax (b+1)) e K) (F113.wL1 n a c (ax (b+1)) f K)) (F113.wL1 n a c (ax (b+1)) f K)) (K aE h)):=by kernel_rfl
def F113.wk1:Prop:=(∃d,F113.wL1 d a c b h K)
def F113.spec(H:aQ .i64 (rd h (a.add 2)) λb=>F113.wk1 a b 0 h K):Cl 113 [au a] h K:=cT F113.T Tryz.func113 H
end
def F299.spec(H:aK (Option.isNone x) (K (.slice none 0 0) h) (a9 h (.cells #[] 46) λa b=>fB b 46 1 4 #[ap 0] (some (aw a)) 0 0 x u λa b c d=>K (.slice a b c) d)):Cl 299 [.slice x u v] h K:=cN Tryz.func299 H
end
section
variable {i j k l m n o p q r s t:Int}{a b c d:Addr}{u v:Nat}{x y:az}{h:aH}{K:KK}
def F215.spec(H:Cl 264 [.func (.func 266) #[] #[au a]] h λa b=>cv (some a) λa c d=>Cl 265 [.slice a c d] b λb e=>b=aE/\K (.slice a c d) e):Cl 215 [.func (.func 266) #[] #[au a]] h K:=cN Tryz.func215 H
def F216.spec(a:Option Nat)(h:aH)(K:KK)(H:a9 h (.cells #[.map a] 154) λa b=>K (.func (.func 266) #[] #[au (aw a)]) b):Cl 216 [.map a] h K:=cN Tryz.func216 H
def F264.spec(H:Cl 297 [.slice none 0 0,.func (.func 266) #[] #[au a]] h λa b=>cv (some a) λa c d=>K (.slice a c d) b):Cl 264 [.func (.func 266) #[] #[au a]] h K:=cN Tryz.func264 H
end
section
def F13.T:bj:=⟨[(10,[5,7,8]),(17,[5,7])],[]⟩
section
variable (n:Nat)(g:az)(d f:Nat)(i:Int)(a:az)(c b:Int)(h:aH)(K:KK)
def F13.wk17:Prop:=Cl 28 [aA a,al 1,al c] h λb c=> ∃d:Int,∃e:Bool,b=(.tuple #[ap d,aD e])/\Cl 53 [aA a,al 3,.agg #[al 7,al 0,al 0,al 0,al 0,al 0,.int .u8 0]] c λb c=> ∃f:Int,∃g:Int,∃i:Bool,b=(.tuple #[.agg #[al f,aq g],aD i])/\a9 c (.cells #[al 0,aq 0] 76) λb c=>aW c ((aw b).add 0) (al f) λc=>aW c ((aw b).add 1) (aq g) λc=>aK (!e) (K aB c) (aK (!i) (K aB c) (aQ .i64 (rd c ((aw b).add 0)) λb=>aK (b !=0) (K aB c) (Cl 23 [aA a] c λb c=>ba (some b) λb=>Cl 59 [aA b] c λb c=>cv (some b) λ_ b _=>Cl 60 [aA a,ap d,.slice none 0 0] c λc d=>cv (some c) λ_ c _=>aK ((b:Int)==(c:Int)) (Cl 23 [aA a] d λa b=>ba (some a) λa=>Cl 22 [aA a] b λa b=>bI (some a) λa=>K (aD a) b) (K aB d))))
def F13.wL10:Prop:=Lp Tryz.f13 F13.T [1,1,1,1,1,1,0,1,0] n [(5,(aA a)),(7,(al c)),(8,(al b))] h K
def F13.sL10:F13.wL10 (n+1) a c b h K=(aK (b<4) (aK (b==c) (F13.wL10 n a c (ax (b+1)) h K) (Cl 53 [aA a,al 1,.agg #[al 6,al 0,al b,al 0,al 0,al 0,.int .u8 0]] h λd e=> ∃f:Int,∃g:Int,∃i:Bool,d=(.tuple #[.agg #[al f,aq g],aD i])/\a9 e (.cells #[al 0,aq 0] 76) λd e=>aW e ((aw d).add 0) (al f) λe=>aW e ((aw d).add 1) (aq g) λe=>Cl 28 [aA a,al 1,al b] e λe f=> ∃g:Int,∃j:Bool,e=(.tuple #[ap g,aD j])/\aK (!i) (K aB f) (aQ .i64 (rd f ((aw d).add 0)) λd=>aK (d !=0) (K aB f) (aK j (K aB f) (Cl 24 [aA a,al 1,.agg #[al 4,al 0,al 0,al b,al 0,al 0,.int .u8 0]] f λd e=>aQ .i64 (some d) λd=>aK (d !=221) (K aB e) (F13.wL10 n a c (ax (b+1)) e K)))))) (F13.wk17 a c h K)):=by kernel_rfl
def F13.wk10:Prop:=(∃d,F13.wL10 d a c b h K)
def F13.spec(H:Cl 40 [] h λa b=>bI (some a) λa=>aK (!a) (K aB b) (aK ((d:Int)>(10:Int)) (K aC b) (Cl 18 [al 8,al 16384,al 2] b λa b=> ∃c:az,∃e:Int,a=(.tuple #[aA c,al e])/\aK (e !=0) (K aB b) (Cl 55 [aA c,al 1,.slice g d f] b λa b=>bI (some a) λa=>aK (!a) (K aB b) (((4:Int)≠0/\F13.wk10 c (ax (Int.tmod i 4)) 0 b K)))))):Cl 13 [.slice g d f,.int .u8 i] h K:=cT F13.T Tryz.func13 H
end
end
section
section
variable {h:aH}{c m mc base n:Nat}{cs:List Int}{ops fails:Int}{K:KK}
def Bl(W:CW h c m mc base n cs ops fails)(hb:base<100000)(hv: ∀l,l<n->0<=cs.getD (base+3*l) 0/\cs.getD (base+3*l) 0<18446744073709551616/\cs.getD (base+3*l) 0%2=0)
  (hK: ∀h' ops' fails' cs',(∀l,l<n->0<=cs'.getD (base+3*l) 0/\cs'.getD (base+3*l) 0<18446744073709551616/\cs'.getD (base+3*l) 0%4=0)->CW h' c m mc base n cs' ops' fails'->aM [m,mc] h h'->K aE h'):
  Cl 113 [au (aw c)] h K:=by
 apply F113.spec;simp only[aL,Nat.zero_add];refine aI (n:=(n:Int)) (by rw[At.rd W.cac];rfl) ?_;unfold F113.wk1;have hn2:=W.hn2
 have: ∀(g i:Nat) (h1:aH) (cs1:List Int) (ops1 fails1:Int),n-i<g->i<=n->(∀l,l<i->0<=cs1.getD (base+3*l) 0/\cs1.getD (base+3*l) 0<18446744073709551616/\cs1.getD (base+3*l) 0%4=0)->
   (∀l,i<=l->l<n->cs1.getD (base+3*l) 0=cs.getD (base+3*l) 0)->CW h1 c m mc base n cs1 ops1 fails1->aM [m,mc] h h1->F113.wL1 g (aw c) (n:Int) (i:Int) h1 K:=by
  intro g
  induction g with
  |zero=>intro i h1 cs1 ops1 fails1 hg;omega
  |succ g ih=>
   intro i h1 cs1 ops1 fails1 hg hi z1 z2 W1 O1;rw[F113.sL1];by_cases hlt:i<n
   ·rw[decide_eq_true ah,aO];simp only[aL,Nat.zero_add];have hc:=W1.hc;have ei:ax ((i:Int)+1)=((i+1:Nat):Int):=by rw[wrap_i64 ah ah];simp
    have ea:ax ((base:Int)+ax (3*(i:Int)))=((base+3*i:Nat):Int):=by rw[wrap_i64 (n:=3*(i:Int)) ah ah,wrap_i64 ah ah];simp
    refine aI (n:=(base:Int)) (by rw[At.rd W1.cac];rfl) (aR (by rw[At.rd W1.cac];rfl) ?_);rw[ea,ei];refine eI W1.mem ah ah λh2 M2 O2=>aI rfl ?_;rw[Int.toNat_natCast,z2 i (Nat.le_refl _) hlt];obtain⟨v0,v1,v2⟩:=hv i hlt;have hz2:=z2 i (Nat.le_refl _) hlt;generalize cs.getD (base+3*i) 0=V at*
    have O12:=O1.trans O2 λb hb _=>hb;have W2:CW h2 c m mc base n cs1 _ fails1:=⟨W1.cac.only O2 (by simp[W1.d4,W1.d5]),M2,W1.d4,W1.d5,W1.hn,W1.hn2,W1.hc,W1.hl⟩;rw[De v0 ah,show(V%2==0)=true by simpa using v2,aO];refine aT (λe=> ?_) λe=> ?_
    ·refine aR (by rw[At.rd W2.cac];rfl) (pf M2 ah ah (λe' h3 M3 O3=>aY rfl ?_) λe'=> ?_)
     ·rw[Int.toNat_natCast,vf v0 ah,mQ]at M3;have W3:CW h3 c m mc base n (cs1.set (base+3*i) ((4*(V/4)+V%2+4)%18446744073709551616)) _ fails1:=⟨W2.cac.only O3 (by simp[W1.d4,W1.d5]),M3,W1.d4,W1.d5,W1.hn,W1.hn2,by simpa using W1.hc,by simpa using W1.hl⟩;refine ih (i+1) h3 _ _ _ ah ah (λl hl=> ?_) (λl hl hln=> ?_) W3 (O12.trans O3 λb hb _=>hb)
      ·rw[dv ah];by_cases h':l=i
       ·subst h';rw[if_pos rfl];omega
       ·rw[if_neg ah];exact z1 l ah
      ·rw[dv ah,if_neg ah];exact z2 l ah hln
     ·rw[Int.toNat_natCast]at e';exact absurd hz2 e'
    ·refine ih (i+1) h2 cs1 _ fails1 ah ah (λl hl=> ?_) (λl hl hln=>z2 l ah hln) W2 O12;by_cases h':l=i
     ·subst h';have:V=0:=by simpa using e
      rw[hz2,this]
      decide
     ·exact z1 l ah
   ·rw[decide_eq_false ah,aJ];obtain rfl:i=n:=ah;exact hK h1 ops1 fails1 cs1 z1 W1 O1
 exact⟨n+1,this (n+1) 0 h cs ops fails ah ah ah (λ_ _ _=>rfl) W (aM.refl _ _)⟩
end
def bP(keep:Nat->Bool)(N:ay):ay:=N.mapIdx λi o=>if keep (i+2)then o else none
def gA(keep:Nat->Bool)(i:Nat)(a:Nat):Bool:=decide (i+2<=a)||keep a
def fN{keep:Nat->Bool}{N:ay}:(bP keep N).length=N.length:=by simp[bP]
def pG{keep:Nat->Bool}{N:ay}(i:Nat):nd (bP keep N) i=if keep (i+2)then nd N i else none:=by
 unfold nd bP;rw[List.getElem?_mapIdx];cases h:N[i]? with
 |none=>simp
 |some o=>
  simp only[Option.map_some,Option.join_some]
def eQ{keep:Nat->Bool}{N:ay}{i:Nat}{o:Option Nd}(h:N[i]? =some o):(bP keep N)[i]? =some (if keep (i+2)then o else none):=by
 unfold bP;rw[List.getElem?_mapIdx,h]
 rfl
def oA{keep:Nat->Bool}{N:ay}:bP (gA keep 0) N=N:=by
 apply List.ext_getElem?;intro i;cases h:N[i]? with
 |none=>rw[List.getElem?_eq_none];rw[fN];exact List.getElem?_eq_none_iff.1 h
 |some o=>
  rw[eQ h];unfold gA;rw[show decide (0+2<=i+2)=true by simp]
  rfl
def BU{keep:Nat->Bool}{N:ay}:bP (gA keep N.length) N=bP keep N:=by
 apply List.ext_getElem?;intro i;cases h:N[i]? with
 |none=>rw[List.getElem?_eq_none,List.getElem?_eq_none]<;>rw[fN]<;>exact List.getElem?_eq_none_iff.1 h
 |some o=>
  have hl:=(List.getElem?_eq_some_iff.1 h).1;rw[eQ h,eQ h];unfold gA;rw[show decide (N.length+2<=i+2)=false by simp;omega]
  rfl
def oQ{keep:Nat->Bool}{N:ay}{i:Nat}{o:Option Nd}(h:N[i]? =some o):bP (gA keep (i+1)) N=(bP (gA keep i) N).set i (if keep (i+2)then o else none):=by
 have hl:=(List.getElem?_eq_some_iff.1 h).1;apply List.ext_getElem?;intro k;rw[List.getElem?_set];by_cases hk:i=k
 ·subst hk;rw[if_pos rfl,if_pos (by rw[fN];exact hl),eQ h];unfold gA;rw[show decide (i+1+2<=i+2)=false by simp]
  rfl
 ·rw[if_neg hk];cases h2:N[k]? with
  |none=>rw[List.getElem?_eq_none,List.getElem?_eq_none]<;>rw[fN]<;>exact List.getElem?_eq_none_iff.1 h2
  |some o2=>
   rw[eQ h2,eQ h2];unfold gA
   rw[show decide (i+1+2<=k+2)=decide (i+2<=k+2) by
    by_cases z:i+1<=k
    ·rw[decide_eq_true ah,decide_eq_true ah]
    ·rw[decide_eq_false ah,decide_eq_false ah]]
def uG{keep:Nat->Bool}{N:ay}{i:Nat}{o:Option Nd}(h:N[i]? =some o):(bP (gA keep i) N)[i]? =some o:=by
 rw[eQ h];unfold gA;rw[show decide (i+2<=i+2)=true by simp]
 rfl
def nY{n:Nat}{keep:Nat->Bool}{N:ay}(H:dz n N)(hk: ∀i x,nd N i=some x->keep (i+2)=true->(x.2.1<2\/keep x.2.1=true)/\(x.2.2<2\/keep x.2.2=true)):dz n (bP keep N)/\(∀a,isN (bP keep N) a↔(a<2\/isN N a/\keep a=true))/\Ex (bP keep N) N:=by
 have ex:Ex (bP keep N) N:=λi x hx=>by
  rw[pG]at hx;split at hx
  ·exact hx
  ·cases hx
 have is: ∀a,isN (bP keep N) a↔(a<2\/isN N a/\keep a=true):=λa=>by
  constructor
  ·intro ha;rcases ha with q|⟨x,hx⟩
   ·exact .inl q
   ·rw[pG]at hx;by_cases a2:a<2
    ·exact .inl a2
    ·split at hx
     ·rename_i hk';rw[show a-2+2=a by omega]at hk';exact .inr ⟨.inr ⟨x,hx⟩,hk'⟩
     ·cases hx
  ·intro ha;rcases ha with q|⟨q|⟨x,hx⟩,r⟩
   ·exact .inl q
   ·exact .inl q
   ·by_cases a2:a<2
    ·exact .inl a2
    ·right;refine⟨x,?_⟩;rw[pG,show a-2+2=a by omega,if_pos r];exact hx
 refine⟨⟨λi x hx=> ?_,λi j x hi hj=>H.once i j x (ex i x hi) (ex j x hj)⟩,is,ex⟩;have h0:=ex i x hx
 have hki:keep (i+2)=true:=by
  rw[pG]at hx;split at hx
  ·rename_i q;exact q
  ·cases hx
 obtain⟨a,b,c,d,e,f⟩:=H.node i x h0;obtain⟨k1,k2⟩:=hk i x h0 hki;have i1:isN (bP keep N) x.2.1:=(is _).2 (by rcases k1 with q|q;exact .inl q;exact .inr ⟨b,q⟩);have i2:isN (bP keep N) x.2.2:=(is _).2 (by rcases k2 with q|q;exact .inl q;exact .inr ⟨c,q⟩);have l1:=ex.lvl (n:=n) i1;have l2:=ex.lvl (n:=n) i2;exact⟨a,i1,i2,d,by rw[<-l1];exact e,by rw[<-l2];exact f⟩
end
section
def Cf(mo:List (Int×Value))(keep:Nat->Bool):Prop:= ∀k:Nat,(keep k=true->mo.lookup (k:Int)=some (.agg #[]))/\(keep k=false->mo.lookup (k:Int)=none)
def tH{α:Type}{l:List α}{i:Nat}{o:α}(h:l[i]? =some o):l.set i o=l:=by
 apply List.ext_getElem?;intro k;rw[List.getElem?_set];split
 ·rename_i e;subst e;rw[if_pos (List.getElem?_eq_some_iff.1 h).1,h]
 ·rfl
def my{x:Nd}: ∀{N:ay} {i:Nat},N[i]? =some (some x)->be (N.set i none)+1=be N
 | [],i,h=>by simp at h
 |o::N,0,h=>by simp at h;subst h;simp[be]
 |o::N,i+1,h=>by have:=my (N:=N) (i:=i) (by simpa using h);simp only[be,List.set_cons_succ,List.countP_cons]at this ⊢;omega
section
variable {h:aH}{s n room:Nat}{B:SB}{f g:Nat->Nat}{N:ay}{F:List Nat}{Q:Int->Int->Prop}{off:Bool}{K:KK}
def SB.growf{s:Nat}{fp':az}{fc':Nat}(H:(B.bm s).Nodup)(hlt: ∀b∈B.bm s,b<h.size)(hp: ∀b∈aX fp',b∈aX B.fp\/h.size<=b):
  (SB.bm {B with fp:=fp',fc:=fc'} s).Nodup/\ ∀b∈SB.bm {B with fp:=fp',fc:=fc'} s,b∈B.bm s\/h.size<=b:=by
 refine⟨?_,λb hb=> ?_⟩
 ·unfold SB.bm at H ⊢;simp only at H ⊢;rw[List.nodup_append]at H ⊢;refine⟨H.1,qo fp',λa ha b hb e=> ?_⟩;rcases hp b hb with h1|h1
  ·exact H.2.2 a ha b h1 e
  ·have:=hlt a (by unfold SB.bm;exact List.mem_append.2 (.inl ha));omega
 ·simp only[SB.bm,List.mem_append]at hb ⊢;rcases hb with(hb|hb)|hb
  ·exact .inl (.inl (.inl hb))
  ·exact .inl (.inl (.inr hb))
  ·rcases hp b hb with h1|h1
   ·exact .inl (.inr h1)
   ·exact .inr h1
def xD{M:ay}{i:Nat}{x:Nd}{F1:List Nat}{b0:Nat}{KK:aH->Prop}(H:gV h s n room B f g M F1 Q off)(hi:M[i]? =some (some x))(eb:B.p=some (aw b0))(hlt:F1.length<M.length)(hs:s<h.size)
  (hK: ∀fp' fc' h',gV h' s n room {B with fp:=fp',fc:=fc'} f g (M.set i none) (F1++[i+2]) Q off->aM (s::aX B.p++aX B.fp) h h'->(∀b∈aX fp',b∈aX B.fp\/h.size<=b)->KK h'):
  aW h ⟨b0,i*4,none⟩ aB (λh22=>aW h22 ⟨b0,i*4+1,none⟩ (al 0) (λh23=>aW h23 ⟨b0,i*4+2,none⟩ (ap 0) (λh24=>aW h24 ⟨b0,i*4+3,none⟩ (ap 0) (λh25=>cv (rd h25 ⟨s,3,none⟩) (λp26 l27 c28=>a9 h25 (.cells #[(ap ((i+2:Nat):Int))] 46) (λb29 h30=>fB h30 46 1 4 #[(ap (0:Int))] p26 l27 c28 (some (aw b29)) 1 (λp31 l32 c33 h34=>aW h34 ⟨s,3,none⟩ (.slice p31 l32 c33) (λh35=>KK h35)))))))):=by
 have hil:=(List.getElem?_eq_some_iff.1 hi).1;have W:=H.own;rw[eb]at W;have nl:(gI M).length=M.length*4:=gw M;have hln:=H.len;refine cj.set (j:=i*4+0) W ah rfl λh2 W2 O2=>cj.set W2 (by simp;omega) rfl λh3 W3 O3=>cj.set W3 (by simp;omega) rfl λh4 W4 O4=>cj.set W4 (by simp;omega) rfl λh5 W5 O5=> ?_;rw[mC M i none _ _ _ _ hil rfl]at W5;have O25:aM [b0] h h5:=((O2.trans O3 ak).trans O4 ak).trans O5 ak;have hsep:=H.sep
 have nb: ∀y∈[s,B.ob,B.cac,B.cm,B.cmc]++aX B.fp,y∉[b0]:=λy hy hm=>by
  simp only[List.mem_singleton]at hm;subst hm;unfold SB.bm at hsep;simp only[List.nodup_append,List.mem_append,ne_eq]at hsep;obtain⟨⟨_,_,g2⟩,_,g4⟩:=hsep;have hmp:y∈aX B.p:=by rw[eb];simp[aX]
  rcases List.mem_append.1 hy with h|h
  ·exact g2 y h y hmp rfl
  ·exact g4 y (.inr hmp) y h rfl
 have nf: ∀y∈[s,B.ob,B.cac,B.cm,B.cmc]++aX B.p,y∉aX B.fp:=λy hy hm=>by unfold SB.bm at hsep;simp only[List.nodup_append,List.mem_append,ne_eq]at hsep;obtain⟨⟨_,_,g2⟩,_,g4⟩:=hsep;exact g4 y (by simpa only[List.mem_append]using hy) y hm rfl
 have ns: ∀y∈[B.ob,B.cac,B.cm,B.cmc]++aX B.p++aX B.fp,y∉[s]:=λy hy hm=>by simp only[List.mem_singleton]at hm;subst hm;unfold SB.bm at hsep;simp only[List.cons_append,List.nodup_cons,List.nil_append]at hsep;exact hsep.1 (by simpa[or_assoc]using hy)
 have S5:=H.S.only O25 (nb _ ak);have z5:=O25.size;refine bo (p:=B.fp) (l:=F1.length) (c:=B.fc) (by rw[At.rd S5];rfl) ?_;have fr5:=H.fre.only O25 λy hy=>nb _ (List.mem_append.2 (.inr hy));refine aV λh6 A6 O6 z6=> ?_;refine wR (fr5.only O6 ak) A6 ah rfl ah λfp' fc' h7 W7 O7 hb7=> ?_;have lp: ∀b∈aX B.fp,b<h.size:=λb hb=>(H.fre.lt b hb).2;have S7:=(S5.only O6 ak).only O7 (λhm=>nf s ak hm);refine aS S7 (by simp[i5]) rfl λh8 A8 O8 z8=> ?_;have O58:aM (s::aX B.fp) h5 h8:=((O6.mono ak).trans O7 (by intro b hb _;simp[hb])).trans O8 (by intro b hb _;simp at hb;simp[hb])
 have nn: ∀y∈[B.ob,B.cac,B.cm,B.cmc]++aX B.p,y∉s::aX B.fp:=λy hy hm=>by
  rcases List.mem_cons.1 hm with e|e
  ·exact ns y (List.mem_append.2 (.inl hy)) (by simp[e])
  ·exact nf y (by rcases List.mem_append.1 hy with q|q;exact List.mem_append.2 (.inl (List.mem_cons_of_mem _ q));exact List.mem_append.2 (.inr q)) e
 have hbf: ∀b∈aX fp',b∈aX B.fp\/h.size<=b:=λb hb=>by
  rcases hb7 b hb with q|q
  ·exact .inl q
  ·exact .inr ah
 have es:s∉aX fp':=λhm=>by
  rcases hbf s hm with q|q
  ·exact nf s ak q
  ·omega
 have el:(M.set i none).length=M.length:=ak;have g1:=SB.growf (fc':=fc') hsep H.lt hbf;refine hK fp' fc' h8 ⟨?_,(H.O.only O25 (nb _ ak)).only O58 (nn _ ak),?_,?_,(H.cac.only O25 (nb _ ak) (nb _ ak) (nb _ ak)).only O58 (nn _ ak) (nn _ ak) (nn _ ak),H.n8,by rw[el];exact⟨hln.1,hln.2.1,by simp;omega⟩,g1.1⟩ ((O25.mono (by intro b hb _;simp at hb;subst hb;rw[eb];simp[aX])).trans O58 (by intro b hb _;rcases List.mem_cons.1 hb with q|q;simp[q];exact List.mem_append.2 (.inr q))) hbf
 ·rw[el,List.length_append];exact A8
 ·rw[el];show cj h8 0 4 B.p M.length B.c _;rw[eb]
  exact W5.only O58 λb hb=>by injection hb with hb;injection hb with hb;subst hb;exact nn b0 (by rw[eb];simp[aX])
 ·have:pJ (F1++[i+2])=pJ F1++[ap ((i+2:Nat):Int)]:=by simp[pJ]
  rw[this,List.length_append];exact W7.only O8 λb hb hm=>es (by simp at hm;subst hm;exact hb)
end
end
section
section
variable {h:aH}{s n room:Nat}{B:SB}{f g:Nat->Nat}{N:ay}{F:List Nat}{Q Q':Int->Int->Prop}{off:Bool}{K:KK}{mb:Nat}{mo:List (Int×Value)}{keep:Nat->Bool}
def CT{i:Nat}(k:keep (i+2)=true){o:Option Nd}(hi:N[i]? =some o):bP (gA keep (i+1)) N=bP (gA keep i) N:=by rw[oQ hi,if_pos k,tH (uG hi)]
def Cd{i:Nat}(hi:N[i]? =some none):bP (gA keep (i+1)) N=bP (gA keep i) N:=by rw[oQ hi,show(if keep (i+2)=true then none else none:Option Nd)=none by split<;>rfl,tH (uG hi)]
def Cm{i:Nat}(k:keep (i+2)=false){o:Option Nd}(hi:N[i]? =some o):bP (gA keep (i+1)) N=(bP (gA keep i) N).set i none:=by
 rw[oQ hi,k]
 rfl
structure Rt(h0 h:aH)(s n room:Nat)(B:SB)(f g:Nat->Nat)(N:ay)(Q:Int->Int->Prop)(off:Bool)(mb:Nat)(mo:List (Int×Value))(keep:Nat->Bool)(i:Nat)(fp:az)(fc:Nat)(F:List Nat):Prop where
 m:gV h s n room {B with fp:=fp,fc:=fc} f g (bP (gA keep i) N) F Q off
 M:bO h mb .u32 mo
 cnt:N.length=be (bP (gA keep i) N)+F.length
 fre:F.Nodup/\ ∀a∈F,2<=a/\a-2<N.length/\nd (bP (gA keep i) N) (a-2)=none
 O:aM (B.bm s) h0 h
 fr: ∀b∈aX fp,b∈aX B.fp\/h0.size<=b
set_option maxRecDepth 100000 in
def tD{h0:aH}(sep0:(B.bm s).Nodup)(Hk:Cf mo keep)(dm:mb∉B.bm s)(lm:mb<h0.size)(lb: ∀b∈B.bm s,b<h0.size)(hn:N.length<=room/\room<=32768)
  (hK: ∀h' fp fc F gone,Rt h0 h' s n room B f g N Q off mb mo keep N.length fp fc F->F268.wk12 (aw s) gone h' K):
  ∀(d i:Nat) (h':aH) (fp:az) (fc:Nat) (F:List Nat) (gone:Int),i+d=N.length->Rt h0 h' s n room B f g N Q off mb mo keep i fp fc F->
   F268.wL3 (d+1) (aw s) (some mb) gone B.p N.length B.c (N.length:Int) (i:Int) h' K:=by
 intro d
 induction d with
 |zero=>
  intro i h' fp fc F gone hd R;rw[F268.sL3];rw[decide_eq_false ah,aJ];obtain rfl:i=N.length:=ah;exact hK h' fp fc F gone R
 |succ d ih=>
  intro i h' fp fc F gone hd R;have hi:i<N.length:=ah;obtain⟨o,ho⟩: ∃o,N[i]? =some o:=⟨_,List.getElem?_eq_getElem hi⟩;have hm:=uG (keep:=keep) ho;obtain⟨b,eb,rr⟩:=R.m.cells hm;have eb:B.p=some (aw b):=eb;have z0:=R.O.size
  have hw:IntKind.wrap .u32 (ax ((i:Int)+2))=((i+2:Nat):Int):=by rw[wrap_i64 ah ah,show(i:Int)+2=((i+2:Nat):Int) by omega];exact gY ah
  have hs1:s<h'.size:=R.m.S.lt
  have stay: ∀k6,aM [] h' k6->bP (gA keep (i+1)) N=bP (gA keep i) N->F268.wL3 (d+1) (aw s) (some mb) gone B.p N.length B.c (N.length:Int) (ax ((i:Int)+1)) k6 K:=λk6 P e=>by rw[show ax ((i:Int)+1)=((i+1:Nat):Int) by rw[wrap_i64 ah ah];omega];refine ih (i+1) k6 fp fc F gone ah ⟨?_,R.M.only P ak,by rw[e];exact R.cnt,by rw[e];exact R.fre,R.O.trans P ak,R.fr⟩;rw[e];exact R.m.only P ak
  rw[F268.sL3];rw[decide_eq_true ah,aO,eb,aU];refine⟨ah,ah,?_⟩;rw[<-eb];simp only[aL,Nat.zero_add];rw[show Int.toNat (i:Int)*4=i*4 by omega,hw]
  obtain⟨tv,lv,av,bv,ec⟩: ∃tv lv av bv,db o=[aD tv,al lv,ap av,ap bv]:=by
   cases o with
   |none=>exact⟨_,_,_,_,rfl⟩
   |some x=>exact⟨_,_,_,_,rfl⟩
  rw[ec]at rr;refine aY (by rw[<-Nat.add_zero (i*4),rr 0 ah];rfl) (aI (by rw[rr 1 ah];rfl) (aI (by rw[rr 2 ah];rfl) (aI (by rw[rr 3 ah];rfl) ?_)));refine aV λk1 B1 P1 y1=> ?_;refine aS B1 ak rfl λk2 B2 P2 y2=>aS B2 ak rfl λk3 B3 P3 y3=>aS B3 ak rfl λk4 B4 P4 y4=>aS B4 ak rfl λk5 B5 P5 y5=> ?_
  replace B5:At k5 h'.size [aD tv,al lv,ap av,ap bv]:=B5
  have P15:aM [] h' k5:=(((P1.trans P2 (by intro b hb hl;simp at hb;omega)).trans P3 (by intro b hb hl;simp at hb;omega)).trans P4 (by intro b hb hl;simp at hb;omega)).trans P5 (by intro b hb hl;simp at hb;omega)
  have tail: ∀(o12:Option (Nat×Value)),(o12.isSome=keep (i+2))->(kE (.agg #[]) o12= .agg #[])-> ∀KK:aH->Prop,(∀k6,aM [] h' k6->k5.size<=k6.size->aK tv (aK (!(keep (i+2))) (KK k6) (F268.wL3 (d+1) (aw s) (some mb) gone B.p N.length B.c (N.length:Int) (ax ((i:Int)+1)) k6 K)) (F268.wL3 (d+1) (aw s) (some mb) gone B.p N.length B.c (N.length:Int) (ax ((i:Int)+1)) k6 K))->
    lI (some (kE (.agg #[]) o12)) (λv13=>a9 k5 (.cells #[] 218) (λb14 h15=>dF Tryz.prog 218 (some (aw b14)) v13 h15 (λh16=>bI (rd h16 (aw h'.size)) (λb17=>aK b17 (aK (!(Option.isSome o12)) (KK h16) (F268.wL3 (d+1) (aw s) (some mb) gone B.p N.length B.c (N.length:Int) (ax ((i:Int)+1)) h16 K)) (F268.wL3 (d+1) (aw s) (some mb) gone B.p N.length B.c (N.length:Int) (ax ((i:Int)+1)) h16 K))))):=by
   intro o12 e1 e2 KK hk;rw[e2];refine⟨_,rfl,?_⟩;refine aV λk6 B6 P6 y6=> ?_;refine ja ?_;have C6:=B5.only P6 ak;have P16:aM [] h' k6:=P15.trans P6 ak;refine aY (by rw[At.rd C6 0];rfl) ?_;rw[e1];exact hk k6 P16 ah
  have body: ∀k6,aM [] h' k6->k5.size<=k6.size->aK tv (aK (!(keep (i+2))) (cv (rd k6 ⟨s,2,none⟩) (λp18 l19 _=>bf p18 (λa21=>(0<=(i:Int)/\(i:Int)<(Nat.cast l19:Int)/\aW k6 (Addr.add (Addr.add a21 (i*4)) 0) aB (λh22=>aW h22 (Addr.add (Addr.add a21 (i*4)) 1) (al (0:Int)) (λh23=>aW h23 (Addr.add (Addr.add a21 (i*4)) 2) (ap (0:Int)) (λh24=>aW h24 (Addr.add (Addr.add a21 (i*4)) 3) (ap (0:Int)) (λh25=>cv (rd h25 ⟨s,3,none⟩) (λp26 l27 c28=>a9 h25 (.cells #[(ap ((i+2:Nat):Int))] 46) (λb29 h30=>fB h30 46 1 4 #[(ap (0:Int))] p26 l27 c28 (some (aw b29)) 1 (λp31 l32 c33 h34=>aW h34 ⟨s,3,none⟩ (.slice p31 l32 c33) (λh35=>F268.wL3 (d+1) (aw s) (some mb) (ax (gone+(1:Int))) B.p N.length B.c (N.length:Int) (ax ((i:Int)+(1:Int))) h35 K)))))))))))) (F268.wL3 (d+1) (aw s) (some mb) gone B.p N.length B.c (N.length:Int) (ax ((i:Int)+1)) k6 K)) (F268.wL3 (d+1) (aw s) (some mb) gone B.p N.length B.c (N.length:Int) (ax ((i:Int)+1)) k6 K):=by
   intro k6 P16 y6;cases o with
   |none=>
    simp only[db,List.cons.injEq,Value.bool.injEq]at ec;rw[<-ec.1,aJ];exact stay k6 P16 (Cd ho)
   |some x=>
    simp only[db,List.cons.injEq,Value.bool.injEq,Value.int.injEq,true_and,and_true]at ec;rw[<-ec.1,aO];cases hkp:keep (i+2)with
    |true=>rw[Bool.not_true,aJ];exact stay k6 P16 (CT hkp ho)
    |false=>
     rw[Bool.not_false,aO];have m6:=R.m.only P16 ak;have el:(bP (gA keep i) N).length=N.length:=fN;refine bo (p:=B.p) (l:=N.length) (c:=B.c) (by rw[At.rd m6.S,el];rfl) ?_;rw[eb,aU];refine⟨ah,ah,?_⟩;simp only[aL,Nat.zero_add,Nat.add_zero]
     have c1:F.length<N.length:=by have:0<be (bP (gA keep i) N):=List.countP_pos_iff.2 ⟨some x,List.mem_of_getElem? hm,rfl⟩;have:=R.cnt;omega
     refine xD (B:={B with fp:=fp,fc:=fc}) m6 hm eb (by rw[el];exact c1) (by have:=P16.size;omega) λfp' fc' h7 H7 O7 hf7=> ?_;rw[show ax ((i:Int)+1)=((i+1:Nat):Int) by rw[wrap_i64 ah ah];omega,<-eb];have e:=Cm hkp ho;have z6:=P16.size
     have ni:i+2∉F:=λhm2=>by have:=(R.fre.2 _ hm2).2.2;rw[show i+2-2=i by omega]at this;rw[cO.2 hm]at this;cases this
     have sub: ∀b∈s::aX B.p++aX fp,b<h0.size->b∈B.bm s:=λb hb hl=>by
      simp only[SB.bm,List.mem_append,List.mem_cons]at hb ⊢;rcases hb with(q|q)|q
      ·exact .inl (.inl (.inl q))
      ·exact .inl (.inr q)
      ·rcases R.fr b q with r|r
       ·exact .inr r
       ·omega
     have nm:mb∉s::aX B.p++aX fp:=λhm2=>dm (sub mb hm2 lm);refine ih (i+1) h7 fp' fc' _ _ ah ⟨by rw[e];exact H7,(R.M.only P16 ak).only O7 nm,?_,?_,(R.O.trans P16 ak).trans O7 sub,λb hb=> ?_⟩
     ·rw[e];have:=my hm;have:=R.cnt;simp;omega
     ·rw[e];refine⟨List.nodup_append.2 ⟨R.fre.1,ak,λa ha c hc e2=> ?_⟩,λa ha=> ?_⟩
      ·simp at hc;subst hc e2;exact ni ha
      ·rw[dX (by rw[el];exact hi)];rcases List.mem_append.1 ha with q|q
       ·obtain⟨q1,q2,q3⟩:=R.fre.2 a q;refine⟨q1,q2,?_⟩;split
        ·rfl
        ·exact q3
       ·simp at q;subst q;exact⟨ah,ah,by rw[if_pos ah]⟩
     ·rcases hf7 b hb with q|q
      ·exact R.fr b q
      ·exact .inr ah
  refine dt (m:=mo) (R.M.only P15 ak) (λhn=> ?_) λj v hv=> ?_
  ·have k0:keep (i+2)=false:=by
    cases hk:keep (i+2)with
    |false=>rfl
    |true=>
     rw[(Hk (i+2)).1 hk]at hn;cases hn
   exact tail none (by rw[k0];rfl) rfl _ body
  ·have k1:keep (i+2)=true:=by
    cases hk:keep (i+2)with
    |true=>rfl
    |false=>
     rw[(Hk (i+2)).2 hk]at hv;cases hv
   rw[(Hk (i+2)).1 k1]at hv;injection hv with hv;subst hv;exact tail (some (j,.agg #[])) (by rw[k1];rfl) rfl _ body
end
end
section
section
variable {h:aH}{s n room:Nat}{B:SB}{f g:Nat->Nat}{N:ay}{F:List Nat}{Q Q':Int->Int->Prop}{off:Bool}{K:KK}{mb:Nat}{mo:List (Int×Value)}{keep:Nat->Bool}
set_option maxRecDepth 100000 in
def xf(Q':Int->Int->Prop)(H:nF h s n room B f g N F Q off)(M0:bO h mb .u32 mo)(Hk:Cf mo keep)(dm:mb∉B.bm s++B.bt)
  (hk: ∀i x,nd N i=some x->keep (i+2)=true->(x.2.1<2\/keep x.2.1=true)/\(x.2.2<2\/keep x.2.2=true))
  (hK: ∀h' B' F' gone,nF h' s n room B' f g (bP keep N) F' Q' off->aM (B.bm s++B.bt) h h'->(∀y∈B'.bm s++B'.bt,y∈B.bm s++B.bt\/h.size<=y)->K (al gone) h'):
  Cl 268 [au (aw s),.map (some mb)] h K:=by
 have hlen:=H.m.len;have hn8:=H.m.n8;apply F268.spec;simp only[aL,Nat.zero_add];refine bo (p:=B.p) (l:=N.length) (c:=B.c) (by rw[At.rd H.m.S];rfl) ?_;unfold F268.wk3;have dm1:mb∉B.bm s:=λhm=>dm (List.mem_append.2 (.inl hm));have R0:Rt h h s n room B f g N Q off mb mo keep 0 B.fp B.fc F:=⟨by rw[oA];exact H.m,M0,by rw[oA];exact H.cnt,by rw[oA];exact H.fre,aM.refl _ _,λb hb=> .inl hb⟩;refine⟨_,tD H.m.sep Hk dm1 M0.lt H.m.lt ⟨hlen.1,hlen.2.1⟩ (λh1 fp fc F1 gone R=> ?_) N.length 0 h B.fp B.fc F 0 ah R0⟩;obtain⟨m1,-,cnt1,fre1,O1,fr1⟩:=R;rw[BU]at m1 cnt1 fre1;have el:(bP keep N).length=N.length:=fN;obtain⟨ok1,is1,Hv⟩:=nY H.ok hk;have tsep: ∀b∈B.bt,b∉B.bm s:=H.t.sep;have T1:=H.t.only O1 λb hb hm=>tsep b hm hb;unfold F268.wk12;simp only[aL,Nat.zero_add];refine aR (by rw[At.rd m1.S];rfl) ?_;obtain⟨cs,ops,fails,W1,S1⟩:=m1.cac;have W1:CW h1 B.cac B.cm B.cmc 0 256 cs ops fails:=W1;refine Bl W1 ah (λl hl=> ?_) λh2 ops2 fails2 cs2 z2 W2 O2=>⟨rfl,?_⟩
 ·rw[Nat.zero_add];have:=S1 l hl;exact⟨this.1,this.2.1,this.2.2.1⟩
 have sep1:=m1.sep
 have nm: ∀y∈[s,B.ob,B.cac]++aX B.p++aX fp,y∉[B.cm,B.cmc]:=λy hy hm=>by
  have sep1:([s,B.ob,B.cac,B.cm,B.cmc]++aX B.p++aX fp).Nodup:=sep1;simp only[List.cons_append,List.nil_append,List.nodup_cons,List.mem_cons,List.mem_append,not_or]at sep1;obtain⟨⟨a1,a2,a3,a4,a5,a6⟩,⟨b1,b2,b3,b4,b5⟩,⟨c1,c2,c3,c4⟩,⟨d1,d2,d3⟩,⟨e1,e2⟩,-⟩:=sep1;simp only[List.mem_cons,List.not_mem_nil,or_false]at hm;simp only[List.cons_append,List.nil_append,List.mem_cons,List.mem_append]at hy;rcases hy with q|q|q|q|q<;>rcases hm with r|r<;>subst r
  ·exact a3 q.symm
  ·exact a4 q.symm
  ·exact b2 q.symm
  ·exact b3 q.symm
  ·exact c1 q.symm
  ·exact c2 q.symm
  ·exact d2 q
  ·exact e1 q
  ·exact d3 q
  ·exact e2 q
 have nt: ∀y∈B.bt,y∉[B.cm,B.cmc]:=λy hy hm=>tsep y hy (by simp at hm;rcases hm with q|q<;>subst q<;>simp[SB.bm]);have S2:=m1.S.only O2 (nm _ ak);have S2':At h2 s (tg room {B with fp:=fp,fc:=fc} (bP keep N).length F1.length off (au (aw B.tb)) (.map (some B.sb))):=S2;have T2:=T1.only O2 λb hb hm=>nt b hm hb;refine aR (by rw[At.rd S2];rfl) ?_;obtain⟨T,⟨tcs,mm,tops,tfails,t1,t2,t3,L⟩,t5,t6,t7⟩:=T2.tab;refine gC t1 (aI rfl ?_)
 have T32:32<=T:=by obtain⟨k,e⟩:=t5;have:=Nat.two_pow_pos k;omega
 rw[show(if(T:Int)>32 then(T:Int)else 32)=(T:Int) by split<;>omega]
 have cle:be (bP keep N)<=be N:=by
  have:=H.cnt
  have h1: ∀(N:ay) (k:Nat->Bool),be (N.mapIdx λi o=>if k i then o else none)<=be N:=by
   intro N
   induction N with
   |nil=>intro k;simp[be]
   |cons o N ih=>
    intro k;have:=ih λi=>k (i+1);simp only[be,List.mapIdx_cons,List.countP_cons]at this ⊢;split
    ·omega
    ·simp;omega
  exact h1 N λi=>keep (i+2)
 have R2:Ga h2 s n room {B with fp:=fp,fc:=fc} f g (bP keep N) F1 Q':=
  ⟨m1.O.only O2 (nm _ ak),m1.own.only O2 λb hb=>nm _ (by rw[show B.p=_ from hb];simp[aX]),m1.fre.only O2 λb hb=>nm _ (List.mem_append.2 (.inr hb)),⟨cs2,ops2,fails2,W2,λl hl=>by have:=z2 l hl;rw[Nat.zero_add]at this;exact⟨this.1,this.2.1,ah,λe=>ah⟩⟩,m1.n8,m1.len,m1.sep⟩
 refine nN (bl:=[]) S2' R2 (λi hi=>by simp at hi) (λa e=>by cases e) ak (λi x hx=> ?_) (λi j x hi hj=> ?_) t5 (by rw[dE];omega) t7 λtb m mc sb h3 m3 T3 _ g1 g2 g3 g4 O3=>⟨rfl,?_⟩
 ·rw[dE]at hx;exact ok1.ndok hn8.2 (by rw[el];omega) hx
 ·rw[dE]at hi hj;exact ok1.once i j x hi hj
 rw[dE]at T3;have z1:=O1.size;have z2':=O2.size;have z3:=O3.size;refine hK h3 _ F1 gone ⟨m3,T3,ok1,by rw[el];exact cnt1,fre1.1,λa ha=>by rw[el];exact fre1.2 a ha⟩ (((O1.mono λb hb _=>List.mem_append.2 (.inl hb)).trans O2 λb hb _=>List.mem_append.2 (.inl (by simp at hb;rcases hb with q|q<;>subst q<;>simp[SB.bm]))).trans O3 λb hb _=>List.mem_append.2 (.inl (by simp at hb;subst hb;simp[SB.bm]))) λy hy=> ?_
 have new: ∀y,y∈SB.bt (SB.tabs {B with fp:=fp,fc:=fc} tb m mc sb)->h.size<=y:=λy hy=>by simp[SB.bt,SB.tabs]at hy;omega
 rcases List.mem_append.1 hy with q|q
 ·have q:y∈[s,B.ob,B.cac,B.cm,B.cmc]++aX B.p++aX fp:=q;simp only[SB.bm,List.mem_append]at q ⊢;rcases q with(q|q)|q
  ·exact .inl (.inl (.inl (.inl q)))
  ·exact .inl (.inl (.inl (.inr q)))
  ·rcases fr1 y q with r|r
   ·exact .inl (.inl (.inr r))
   ·exact .inr r
 ·exact .inr (new y q)
end
def vQ{h:aH}{s:Nat}{L:List Nat}{X:SX}{mb:Nat}{mo:List (Int×Value)}{keep:Nat->Bool}{K:KK}(Q':Int->Int->Prop)(H:cI h s L X)(M0:bO h mb .u32 mo)(Hk:Cf mo keep)(dm:mb∉L)
  (hk: ∀i x,nd X.N i=some x->keep (i+2)=true->(x.2.1<2\/keep x.2.1=true)/\(x.2.2<2\/keep x.2.2=true))
  (hK: ∀h' L' gone,cI h' s L' {X with N:=bP keep X.N,Q:=Q'}->aM L h h'->bH L L' h->K (al gone) h'):
  Cl 268 [au (aw s),.map (some mb)] h K:=by
 obtain⟨B,F,e,H⟩:=H;subst e;exact xf Q' H M0 Hk dm hk λh' B' F' gone S O fr=>hK h' _ gone ⟨B',F',rfl,S⟩ O fr
end
section
def wO(g:Nat->Int)(i j:Nat):Nat->Int:=λk=>if k=j then g i else if k=i then g j else g k
inductive pP (a b:Nat):(Nat->Int)->(Nat->Int)->Prop
 |refl (g:Nat->Int):pP a b g g
 |step {g g':Nat->Int} {i j:Nat}:a<=i->i<b->a<=j->j<b->pP a b (wO g i j) g'->pP a b g g'
def pP.trans{a b:Nat}{f g k:Nat->Int}(H:pP a b f g)(G:pP a b g k):pP a b f k:=by
 induction H with
 |refl _=>exact G
 |step h1 h2 h3 h4 _ ih=>exact .step h1 h2 h3 h4 (ih G)
def pP.one{a b i j:Nat}(g:Nat->Int)(h1:a<=i)(h2:i<b)(h3:a<=j)(h4:j<b):pP a b g (wO g i j):= .step h1 h2 h3 h4 (.refl _)
def pP.perm{a b n:Nat}{f g:Nat->Int}(H:pP a b f g)(hb:b<=n):((List.range n).map g).Perm ((List.range n).map f):=by
 induction H with
 |refl g=>exact List.Perm.refl _
 | @step g g' i j h1 h2 h3 h4 _ ih=>
  refine ih.trans ?_
  have e:(List.range n).map (wO g i j)=((List.range n).map λk=>if k=j then i else if k=i then j else k).map g:=by
   rw[List.map_map];apply List.map_congr_left;intro k _;simp only[Function.comp,wO];split
   ·rfl
   ·split<;>rfl
  rw[e];refine List.Perm.map g ?_;refine(List.perm_ext_iff_of_nodup ?_ List.nodup_range).2 λk=> ?_
  ·refine List.Pairwise.map _ (λx y (hxy:x≠y)=> ?_) List.nodup_range
   (repeat' split)<;>omega
  ·rw[List.mem_map];constructor
   ·rintro ⟨x,hx,rfl⟩;rw[List.mem_range]at hx ⊢;split
    ·omega
    ·split<;>omega
   ·intro hk;rw[List.mem_range]at hk;by_cases h:k=j
    ·exact⟨i,by rw[List.mem_range];omega,by by_cases h':i=j<;>simp[h,h']⟩
    ·by_cases h':k=i
     ·exact⟨j,by rw[List.mem_range];omega,by simp[h']⟩
     ·exact⟨k,by rw[List.mem_range];omega,by simp[h,h']⟩
def sq(a b:Nat)(g:Nat->Int):Prop:= ∀p q,a<=p->p<q->q<b->g p<=g q
def sq.single{a b:Nat}(g:Nat->Int)(h:b<=a+1):sq a b g:=λp q _ _ _=>ah
def zq(a i j:Nat)(g:Nat->Int):Prop:= ∀p q,a<=p->p<q->q<=i->q≠j->g p<=g q
def zq.start{a i:Nat}{g:Nat->Int}(H:sq a i g):zq a i i g:=λp q h1 h2 h3 h4=>H p q h1 h2 ah
def zq.stop{a i j:Nat}{g:Nat->Int}(H:zq a i j g)(h:j<=a\/g (j-1)<=g j):sq a (i+1) g:=λp q h1 h2 h3=>by
 by_cases hq:q=j
 ·subst hq;rcases h with h|h
  ·omega
  ·by_cases hp:p=q-1
   ·subst hp;exact h
   ·exact Int.le_trans (H p (q-1) h1 ah ah ah) h
 ·exact H p q h1 h2 ah hq
def Ee(g:Nat->Int)(i j:Nat):wO g i j i=g j:=by
 unfold wO;by_cases h:i=j
 ·rw[if_pos h,h]
 ·rw[if_neg h,if_pos rfl]
def DT(g:Nat->Int)(i j:Nat):wO g i j j=g i:=if_pos rfl
def yu(g:Nat->Int){i j k:Nat}(hi:k≠i)(hj:k≠j):wO g i j k=g k:=by unfold wO;rw[if_neg hj,if_neg hi]
def zq.step{a i j:Nat}{g:Nat->Int}(H:zq a i j g)(hj:a<j)(hji:j<=i)(hl:g j<g (j-1)):zq a i (j-1) (wO g j (j-1)):=λp q h1 h2 h3 h4=>by
 by_cases hq:q=j
 ·subst hq;rw[Ee];by_cases hp:p=q-1
  ·subst hp;rw[DT];omega
  ·rw[yu g ah hp];exact H p (q-1) h1 ah ah ah
 ·rw[yu g hq h4];by_cases hp:p=j
  ·subst hp;rw[Ee];exact H (p-1) q ah ah h3 hq
  ·by_cases hp':p=j-1
   ·subst hp';rw[DT];exact H j q ah ah h3 hq
   ·rw[yu g hp hp'];exact H p q h1 h2 h3 hq
def fW(q:IntKind)(h:aH)(b n:Nat)(g:Nat->Int)(sp:List Value):Prop:=At h b (co n (λk=> .int q (g k))++sp)
def fW.rd{q:IntKind}{h:aH}{b n:Nat}{g:Nat->Int}{sp:List Value}(A:fW q h b n g sp){k:Nat}(hk:k<n):Ev.rd h ⟨b,k,none⟩=some (.int q (g k)):=by rw[At.rd A,List.getElem?_append_left (by rw[bJ];exact hk),cF hk]
def fW.st{q:IntKind}{h:aH}{b n:Nat}{g:Nat->Int}{sp:List Value}(A:fW q h b n g sp){k:Nat}(hk:k<n){v:Int}{K:aH->Prop}
  (hK: ∀h',fW q h' b n (λj=>if j=k then v else g j) sp->aM [b] h h'->K h'):aW h ⟨b,k,none⟩ (.int q v) K:=
 aS A (by simp[bJ];omega) rfl λh' A' O' _=>hK h' (by
  have e:(co n (λj=>Value.int q (g j))++sp).set k (.int q v)=co n (λj=>Value.int q (if j=k then v else g j))++sp:=by
   rw[List.set_append_left _ _ (by rw[bJ];exact hk),dQ]
   congr 1
   apply dR;intro j _;split<;>rfl
  rw[e]at A';exact A') O'
def fW.ld{q:IntKind}{h:aH}{b n:Nat}{g:Nat->Int}{sp:List Value}(A:fW q h b n g sp){x:Int}{k:Nat}(hx:x=k)(hk:k<n){Q:Int->Prop}(hQ:Q (g k)):
  bf (some (aw b)) λa=>(0<=x/\x<(n:Int)/\aQ q (Ev.rd h (Addr.add a (Int.toNat x*1))) Q):=by
 subst hx;rw[aU];refine⟨ah,ah,?_⟩;rw[aL,show 0+Int.toNat (k:Int)*1=k by omega,A.rd hk,bC];exact hQ
def fW.sto{q:IntKind}{h:aH}{b n:Nat}{g:Nat->Int}{sp:List Value}(A:fW q h b n g sp){x:Int}{k:Nat}(hx:x=k)(hk:k<n){v:Int}{K:aH->Prop}
  (hK: ∀h',fW q h' b n (λj=>if j=k then v else g j) sp->aM [b] h h'->K h'):
  bf (some (aw b)) λa=>(0<=x/\x<(n:Int)/\aW h (Addr.add (Addr.add a (Int.toNat x*1)) 0) (.int q v) K):=by
 subst hx;rw[aU];refine⟨ah,ah,?_⟩;rw[aL,aL,show 0+Int.toNat (k:Int)*1+0=k by omega];exact A.st hk hK
end
section
variable {i j k l m n o p q r s t:Int}{a b c d:Addr}{u v:Nat}{x y:az}{h:aH}{K:KK}
def F295.spec(H:Cl 323 [aq i] h λa b=>aQ .i64 (some a) λa=>K (al a) b):Cl 295 [aq i] h K:=cN Tryz.func295 H
def F323.T:bj:=⟨[(4,[0,2]),(7,[0,2]),(10,[0,2])],[]⟩
section
variable (a b:Int)(h:aH)(K:KK)
def F323.wk10:Prop:=(0<=(IntKind.wrap .u8 a)/\E7 (ByteArray.mk #[0,1,2,2,3,3,3,3,4,4,4,4,4,4,4,4,5,5,5,5,5,5,5,5,5,5,5,5,5,5,5,5,6,6,6,6,6,6,6,6,6,6,6,6,6,6,6,6,6,6,6,6,6,6,6,6,6,6,6,6,6,6,6,6,7,7,7,7,7,7,7,7,7,7,7,7,7,7,7,7,7,7,7,7,7,7,7,7,7,7,7,7,7,7,7,7,7,7,7,7,7,7,7,7,7,7,7,7,7,7,7,7,7,7,7,7,7,7,7,7,7,7,7,7,7,7,7,7,8,8,8,8,8,8,8,8,8,8,8,8,8,8,8,8,8,8,8,8,8,8,8,8,8,8,8,8,8,8,8,8,8,8,8,8,8,8,8,8,8,8,8,8,8,8,8,8,8,8,8,8,8,8,8,8,8,8,8,8,8,8,8,8,8,8,8,8,8,8,8,8,8,8,8,8,8,8,8,8,8,8,8,8,8,8,8,8,8,8,8,8,8,8,8,8,8,8,8,8,8,8,8,8,8,8,8,8,8,8,8,8,8,8,8,8,8,8,8,8,8,8,8,8,8,8,8,8]) (IntKind.wrap .u8 a) λa=>K (al (ax (b+(ax a)))) h)
def F323.wk7:Prop:=aK (a>=256) ((0<=(8:Int)/\F323.wk10 (Int.fdiv a (2^(min (Int.toNat 8) (IntKind.bits .u64)))) (ax (b+8)) h K)) (F323.wk10 a b h K)
def F323.wk4:Prop:=aK (a>=65536) ((0<=(16:Int)/\F323.wk7 (Int.fdiv a (2^(min (Int.toNat 16) (IntKind.bits .u64)))) (ax (b+16)) h K)) (F323.wk7 a b h K)
end
def F323.spec(H:aK (i>=4294967296) ((0<=(32:Int)/\F323.wk4 (Int.fdiv i (2^(min (Int.toNat 32) (IntKind.bits .u64)))) 32 h K)) (F323.wk4 i 0 h K)):Cl 323 [aq i] h K:=cT F323.T Tryz.func323 H
def F294.T:bj:=⟨[(2,[0,1,2,3,8,9]),(10,[0,1,2,3,8,9,10]),(15,[0,1,2,3,8,9,10,11,12]),(17,[0,1,2,3,8,9,10,11])],[(17,[[(0,[]),(1,[]),(2,[]),(3,[]),(4,[]),(5,[]),(6,[]),(7,[]),(8,[]),(9,[]),(10,[]),(11,[]),(12,[]),(13,[]),(14,[])]])]⟩
section
variable (bk2:(az)->Nat->Nat->Int->Int->Int->Bool->Bool->aH->Prop)(n:Nat)(b:az)(a c:Nat)(d f g:Int)(l o:Bool)(i j q:Int)(h:aH)(K:KK)
def F294.wk17(bk2:(az)->Nat->Nat->Int->Int->Int->Bool->Bool->aH->Prop)(b:az)(a c:Nat)(d f g:Int)(l o:Bool)(i j:Int)(h:aH)(K:KK):Prop:=aK (d>0) (bf b λe=>0<=(ax (d-1))/\(ax (d-1))<(a:Int)/\aQ .u32 (rd h (e.add ((ax (d-1)).toNat*1))) λe=>bf b λk=>0<=j/\j<(a:Int)/\aQ .u32 (rd h (k.add (j.toNat*1))) λk=>Cl 319 [ap e,ap k] h λe k=>bI (some e) λe=>aK (!e) (Cl 320 [.slice b a c,al d,al f,al j] k λd e=>aQ .i64 (some d) λd=>bk2 b a c d f g l o e) (Cl 321 [.slice b a c,al d,al f,al j] k λe j=> ∃k:Int,∃l:Bool,e=(.tuple #[al k,aD l])/\(8:Int)≠0/\aK ((ax (k-d))<(ax (f-k))) (Cl 294 [.slice b a c,al d,al k,al g] j λe j=>e=aE/\bk2 b a c (ax (k+1)) f g (decide ((ax (k-d))>=(ax (Int.tdiv i 8)))) l j) (Cl 294 [.slice b a c,al (ax (k+1)),al f,al g] j λe j=>e=aE/\bk2 b a c d k g (decide ((ax (f-k))>=(ax (Int.tdiv i 8)))) l j))) (Cl 321 [.slice b a c,al d,al f,al j] h λe j=> ∃k:Int,∃l:Bool,e=(.tuple #[al k,aD l])/\(8:Int)≠0/\aK ((ax (k-d))<(ax (f-k))) (Cl 294 [.slice b a c,al d,al k,al g] j λe j=>e=aE/\bk2 b a c (ax (k+1)) f g (decide ((ax (k-d))>=(ax (Int.tdiv i 8)))) l j) (Cl 294 [.slice b a c,al (ax (k+1)),al f,al g] j λe j=>e=aE/\bk2 b a c d k g (decide ((ax (f-k))>=(ax (Int.tdiv i 8)))) l j))
def F294.wk15:Prop:=aK l (aK o (aK (q==1) (Cl 318 [.slice b a c,al d,al f] h λe k=>bI (some e) λe=>aK e (K aE k) (F294.wk17 bk2 b a c d f g l o i j k K)) (F294.wk17 bk2 b a c d f g l o i j h K)) (F294.wk17 bk2 b a c d f g l o i j h K)) (F294.wk17 bk2 b a c d f g l o i j h K)
def F294.wk10:Prop:=Cl 316 [.slice b a c,al d,al f] h λe j=> ∃k:Int,∃m:Int,e=(.tuple #[al k,al m])/\aK (m==2) (Cl 317 [.slice b a c,al d,al f] j λe j=>e=aE/\F294.wk15 bk2 b a c d f g l o i (ax ((ax (f-1))-(ax (k-d)))) 1 j K) (F294.wk15 bk2 b a c d f g l o i k m j K)
def F294.wL2:Prop:=Lp Tryz.f294 F294.T [1,1,0] n [(0,(.slice b a c)),(1,(al d)),(2,(al f)),(3,(al g)),(8,(aD l)),(9,(aD o))] h K
def F294.sL2:F294.wL2 (n+1) b a c d f g l o h K=(aK ((ax (f-d))<=12) (Cl 313 [.slice b a c,al d,al f] h λa b=>a=aE/\K aE b) (aK (g==0) (Cl 314 [.slice b a c,al d,al f] h λa b=>a=aE/\K aE b) (aK (!l) (Cl 315 [.slice b a c,al d,al f] h λe i=>e=aE/\F294.wk10 (λa b c d e f g i j=>F294.wL2 n a b c d e f g i j K) b a c d f (ax (g-1)) l o (ax (f-d)) i K) (F294.wk10 (λa b c d e f g i j=>F294.wL2 n a b c d e f g i j K) b a c d f g l o (ax (f-d)) h K)))):=by kernel_rfl
def F294.wk2:Prop:=(∃e,F294.wL2 e b a c d f g l o h K)
def F294.spec(H:F294.wk2 b a c d f g true true h K):Cl 294 [.slice b a c,al d,al f,al g] h K:=cT F294.T Tryz.func294 H
end
namespace F313
def T:bj:=⟨[(1,[0,1,2,6]),(4,[0,1,2,6,7])],[(4,[[(0,[]),(1,[]),(2,[]),(3,[]),(4,[]),(5,[]),(6,[]),(7,[]),(8,[]),(9,[]),(10,[]),(11,[]),(12,[]),(13,[]),(14,[])]]),(6,[[(0,[]),(1,[]),(2,[]),(3,[]),(4,[]),(5,[]),(6,[]),(7,[]),(8,[]),(9,[]),(10,[]),(11,[]),(12,[]),(13,[]),(14,[]),(15,[2,3,4]),(16,[]),(17,[])]])]⟩
noncomputable def body:Code:=(Tryz.f313.body).getD .skip
noncomputable def en(S:bD)(p:List Nat)(κ:XK):Fr->aH->Prop:=E Tryz.prog X T S (sub body p) κ
noncomputable def ln(S:bD)(p:List Nat)(κ:XK)(n:Nat):Fr->aH->Prop:=jw S (E Tryz.prog X T S (sub body p)) (df T (sub body p)) κ n
def fn(K:KK):XK:=fin Tryz.prog Tryz.f313.results.toList K
noncomputable def c0(_S:bD)(K:KK):XK:=cA 0 (fn K)
noncomputable def c1(S:bD)(n1:Nat)(K:KK):XK:=gh S (df T (sub body [1,0,0])) (ln S [1,0,0] (c0 S K) n1) (c0 S K)
noncomputable def c2(S:bD)(n1:Nat)(K:KK):XK:=jS S (df T (sub body [1,0,0,1,1])) (en S [1,0,0,1,1] (c1 S n1 K)) (c1 S n1 K)
noncomputable def c3(S:bD)(n1:Nat)(K:KK):XK:=cA 1 (c2 S n1 K)
noncomputable def c4(S:bD)(n1:Nat)(K:KK):XK:=cA 2 (c3 S n1 K)
noncomputable def c5(S:bD)(n1:Nat)(n4:Nat)(K:KK):XK:=gh S (df T (sub body [1,0,0,1,0,0,1,0,0])) (ln S [1,0,0,1,0,0,1,0,0] (c4 S n1 K) n4) (c4 S n1 K)
def f1(b:az)(a c:Nat)(d f g:Int):Fr:=[(0,(.slice b a c)),(1,(al d)),(2,(al f)),(6,(al g))]
def f4(b:az)(a c:Nat)(d f g i:Int):Fr:=[(0,(.slice b a c)),(1,(al d)),(2,(al f)),(6,(al g)),(7,(al i))]
def J0(k1:(az)->Nat->Nat->Int->Int->Int->aH->Prop)(b:az)(a c:Nat)(d f:Int)(h:aH)(_K:KK):Prop:=
 k1 b a c d f (ax (d+(1:Int))) h
def E0(S:bD)(b:az)(a c:Nat)(d f:Int)(h:aH)(K:KK):(E Tryz.prog X T S body (fin Tryz.prog Tryz.f313.results.toList K) (dI 0 [(.slice b a c),(al d),(al f)]) h)=J0 (λb a c d f g h=>S (en S [1] (fn K)) (f1 b a c d f g) h) b a c d f h K:=by kernel_rfl
def Jk1(lp1:(az)->Nat->Nat->Int->Int->Int->aH->Prop)(b:az)(a c:Nat)(d f g:Int)(h:aH)(_K:KK):Prop:=
 lp1 b a c d f g h
def Ek1(S:bD)(b:az)(a c:Nat)(d f g:Int)(h:aH)(K:KK):(en S [1] (fn K) (f1 b a c d f g) h)=Jk1 (λb a c d f g h=> ∃n,S (ln S [1,0,0] (c0 S K) n) (f1 b a c d f g) h) b a c d f g h K:=by kernel_rfl
def JL1(k4:(az)->Nat->Nat->Int->Int->Int->Int->aH->Prop)(b:az)(a c:Nat)(d f g:Int)(h:aH)(K:KK):Prop:=
 aK (decide (g<f)) (k4 b a c d f g g h) (K aE h)
def EL1(S:bD)(n1:Nat)(b:az)(a c:Nat)(d f g:Int)(h:aH)(K:KK):(en S [1,0,0] (c1 S n1 K) (f1 b a c d f g) h)=JL1 (λb a c d f g i h=>S (en S [1,0,0,1,0,0,1] (c3 S n1 K)) (f4 b a c d f g i) h) b a c d f g h K:=by kernel_rfl
def Jk4(lp4:(az)->Nat->Nat->Int->Int->Int->Int->aH->Prop)(b:az)(a c:Nat)(d f g i:Int)(h:aH)(_K:KK):Prop:=
 lp4 b a c d f g i h
def Ek4(S:bD)(n1:Nat)(b:az)(a c:Nat)(d f g i:Int)(h:aH)(K:KK):(en S [1,0,0,1,0,0,1] (c3 S n1 K) (f4 b a c d f g i) h)=Jk4 (λb a c d f g i h=> ∃n,S (ln S [1,0,0,1,0,0,1,0,0] (c4 S n1 K) n) (f4 b a c d f g i) h) b a c d f g i h K:=by kernel_rfl
def JL4(bk4:(az)->Nat->Nat->Int->Int->Int->Int->aH->Prop)(bk1:(az)->Nat->Nat->Int->Int->Int->aH->Prop)(b:az)(a c:Nat)(d f g i:Int)(h:aH)(_K:KK):Prop:=
 aK (decide (i>d)) (bf b (λa1=>(0<=i/\i<(Nat.cast a:Int)/\aQ .u32 (rd h (a1.add (Int.toNat i*1))) (λn2=>bf b (λa3=>(0<=(ax (i-(1:Int)))/\(ax (i-(1:Int)))<(Nat.cast a:Int)/\aQ .u32 (rd h (a3.add (Int.toNat (ax (i-(1:Int)))*1))) (λn4=>Cl 319 [(ap n2),(ap n4)] h (λv5 h6=>bI (some v5) (λb7=>aK b7 (bf b (λa8=>(0<=(ax (i-(1:Int)))/\(ax (i-(1:Int)))<(Nat.cast a:Int)/\aQ .u32 (rd h6 (a8.add (Int.toNat (ax (i-(1:Int)))*1))) (λn9=>bf b (λa10=>(0<=i/\i<(Nat.cast a:Int)/\aQ .u32 (rd h6 (a10.add (Int.toNat i*1))) (λn11=>bf b (λa12=>(0<=i/\i<(Nat.cast a:Int)/\aW h6 ((a12.add (Int.toNat i*1)).add 0) (ap n9) (λh13=>((.slice b a c)=((.slice b a c):Value)/\((al i)=((al i):Value)/\((al (ax (i-(1:Int))))=((al (ax (i-(1:Int)))):Value)/\bf b (λa14=>(0<=(ax (i-(1:Int)))/\(ax (i-(1:Int)))<(Nat.cast a:Int)/\aW h13 ((a14.add (Int.toNat (ax (i-(1:Int)))*1)).add 0) (ap n11) (λh15=>bk4 b a c d f g (ax (i-(1:Int))) h15)))))))))))))))) (bk1 b a c d f (ax (g+(1:Int))) h6)))))))))) (bk1 b a c d f (ax (g+(1:Int))) h)
def EL4(S:bD)(n1:Nat)(n4:Nat)(b:az)(a c:Nat)(d f g i:Int)(h:aH)(K:KK):(en S [1,0,0,1,0,0,1,0,0] (c5 S n1 n4 K) (f4 b a c d f g i) h)=JL4 (λb a c d f g i h=>S (ln S [1,0,0,1,0,0,1,0,0] (c4 S n1 K) n4) (f4 b a c d f g i) h) (λb a c d f g h=>S (ln S [1,0,0] (c0 S K) n1) (f1 b a c d f g) h) b a c d f g i h K:=by kernel_rfl
def wL4(bk1:(az)->Nat->Nat->Int->Int->Int->aH->Prop):Nat->(az)->Nat->Nat->Int->Int->Int->Int->aH->KK->Prop
 |0,_,_,_,_,_,_,_,_,_=>False
 |n+1,b,a,c,d,f,g,i,h,K=>JL4 (λb a c d f g i h=>wL4 bk1 n b a c d f g i h K) bk1 b a c d f g i h K
def eL4(K:KK)(n1:Nat)(bk1:(az)->Nat->Nat->Int->Int->Int->aH->Prop)(hb1: ∀(b:az) (a c:Nat) (d f g:Int) (h:aH),(ln S0 [1,0,0] (c0 S0 K) n1 (f1 b a c d f g) h)=bk1 b a c d f g h): ∀(n:Nat) (b:az) (a c:Nat) (d f g i:Int) (h:aH),(ln S0 [1,0,0,1,0,0,1,0,0] (c4 S0 n1 K) n (f4 b a c d f g i) h)=wL4 bk1 n b a c d f g i h K
 |0,_,_,_,_,_,_,_,_=>rfl
 |n+1,b,a,c,d,f,g,i,h=>(EL4 S0 n1 n b a c d f g i h K).trans (BE (λq0 q1=>JL4 q0 q1 b a c d f g i h K) (by funext b a c d f g i h;exact(λb a c d f g i h=>eL4 K n1 bk1 hb1 n b a c d f g i h) b a c d f g i h) (by funext b a c d f g h;exact hb1 b a c d f g h))
def wk4(bk1:(az)->Nat->Nat->Int->Int->Int->aH->Prop)(b:az)(a c:Nat)(d f g i:Int)(h:aH)(K:KK):Prop:=
 Jk4 (λb a c d f g i h=> ∃m,wL4 bk1 m b a c d f g i h K) b a c d f g i h K
def ek4(K:KK)(n1:Nat)(bk1:(az)->Nat->Nat->Int->Int->Int->aH->Prop)(hb1: ∀(b:az) (a c:Nat) (d f g:Int) (h:aH),(ln S0 [1,0,0] (c0 S0 K) n1 (f1 b a c d f g) h)=bk1 b a c d f g h)(b:az)(a c:Nat)(d f g i:Int)(h:aH):(en S0 [1,0,0,1,0,0,1] (c3 S0 n1 K) (f4 b a c d f g i) h)=wk4 bk1 b a c d f g i h K:=(Ek4 S0 n1 b a c d f g i h K).trans (lP (λq0=>Jk4 q0 b a c d f g i h K) (by funext b a c d f g i h;exact cR λm=>eL4 K n1 bk1 hb1 m b a c d f g i h))
def wL1:Nat->(az)->Nat->Nat->Int->Int->Int->aH->KK->Prop
 |0,_,_,_,_,_,_,_,_=>False
 |n+1,b,a,c,d,f,g,h,K=>JL1 (λb a c d f g i h=>wk4 (λb a c d f g h=>wL1 n b a c d f g h K) b a c d f g i h K) b a c d f g h K
def eL1(K:KK): ∀(n:Nat) (b:az) (a c:Nat) (d f g:Int) (h:aH),(ln S0 [1,0,0] (c0 S0 K) n (f1 b a c d f g) h)=wL1 n b a c d f g h K
 |0,_,_,_,_,_,_,_=>rfl
 |n+1,b,a,c,d,f,g,h=>(EL1 S0 n b a c d f g h K).trans (lP (λq0=>JL1 q0 b a c d f g h K) (by funext b a c d f g i h;exact ek4 K n (λb a c d f g h=>wL1 n b a c d f g h K) (λb a c d f g h=>eL1 K n b a c d f g h) b a c d f g i h))
def wk1(b:az)(a c:Nat)(d f g:Int)(h:aH)(K:KK):Prop:=
 Jk1 (λb a c d f g h=> ∃m,wL1 m b a c d f g h K) b a c d f g h K
def ek1(K:KK)(b:az)(a c:Nat)(d f g:Int)(h:aH):(en S0 [1] (fn K) (f1 b a c d f g) h)=wk1 b a c d f g h K:=(Ek1 S0 b a c d f g h K).trans (lP (λq0=>Jk1 q0 b a c d f g h K) (by funext b a c d f g h;exact cR λm=>eL1 K m b a c d f g h))
def w(b:az)(a c:Nat)(d f:Int)(h:aH)(K:KK):Prop:=
 J0 (λb a c d f g h=>wk1 b a c d f g h K) b a c d f h K
def e0(K:KK)(b:az)(a c:Nat)(d f:Int)(h:aH):(E Tryz.prog X T S0 body (fin Tryz.prog Tryz.f313.results.toList K) (dI 0 [(.slice b a c),(al d),(al f)]) h)=w b a c d f h K:=(E0 S0 b a c d f h K).trans (lP (λq0=>J0 q0 b a c d f h K) (by funext b a c d f g h;exact ek1 K b a c d f g h))
def hb:Tryz.f313.body=some body:=by kernel_rfl
def ok:cX T Tryz.f313.ntmps body=true:=by kernel_rfl
def spec(b:az)(a c:Nat)(d f:Int)(h:aH)(K:KK)(H:w b a c d f h K):Cl 313 [(.slice b a c),(al d),(al f)] h K:=
 dk (T:=T) Ed Ei Tryz.func313 hb ok rfl (by rw[e0];exact H)
end F313
def F319.spec(H:Cl 348 [ap i] h λa b=>bI (some a) λa=>aK a (Cl 348 [ap j] b λa b=>bI (some a) λa=>aK (!a) (K aC b) (K (aD (i<j)) b)) (K (aD (i<j)) b)):Cl 319 [ap i,ap j] h K:=cN Tryz.func319 H
def F348.spec(H:K (aD (i !=i)) h):Cl 348 [ap i] h K:=cN Tryz.func348 H
def F265.spec(H:Cl 295 [aq (IntKind.wrap .u64 (u:Int))] h λa b=>aQ .i64 (some a) λa=>Cl 298 [.slice x u v,al 0,al (u:Int),al a] b λa b=>a=aE/\K aE b):Cl 265 [.slice x u v] h K:=cN Tryz.func265 H
def F298.T:bj:=⟨[(2,[0,1,2,3,8,9]),(10,[0,1,2,3,8,9,10]),(15,[0,1,2,3,8,9,10,11,12]),(17,[0,1,2,3,8,9,10,11])],[(17,[[(0,[]),(1,[]),(2,[]),(3,[]),(4,[]),(5,[]),(6,[]),(7,[]),(8,[]),(9,[]),(10,[]),(11,[]),(12,[]),(13,[]),(14,[])]])]⟩
section
variable (bk2:(az)->Nat->Nat->Int->Int->Int->Bool->Bool->aH->Prop)(n:Nat)(b:az)(a c:Nat)(d f g:Int)(l o:Bool)(i j q:Int)(h:aH)(K:KK)
def F298.wk17(bk2:(az)->Nat->Nat->Int->Int->Int->Bool->Bool->aH->Prop)(b:az)(a c:Nat)(d f g:Int)(l o:Bool)(i j:Int)(h:aH)(K:KK):Prop:=aK (d>0) (bf b λe=>0<=(ax (d-1))/\(ax (d-1))<(a:Int)/\aQ .i64 (rd h (e.add ((ax (d-1)).toNat*1))) λe=>bf b λk=>0<=j/\j<(a:Int)/\aQ .i64 (rd h (k.add (j.toNat*1))) λk=>Cl 330 [al e,al k] h λe k=>bI (some e) λe=>aK (!e) (Cl 331 [.slice b a c,al d,al f,al j] k λd e=>aQ .i64 (some d) λd=>bk2 b a c d f g l o e) (Cl 332 [.slice b a c,al d,al f,al j] k λe j=> ∃k:Int,∃l:Bool,e=(.tuple #[al k,aD l])/\(8:Int)≠0/\aK ((ax (k-d))<(ax (f-k))) (Cl 298 [.slice b a c,al d,al k,al g] j λe j=>e=aE/\bk2 b a c (ax (k+1)) f g (decide ((ax (k-d))>=(ax (Int.tdiv i 8)))) l j) (Cl 298 [.slice b a c,al (ax (k+1)),al f,al g] j λe j=>e=aE/\bk2 b a c d k g (decide ((ax (f-k))>=(ax (Int.tdiv i 8)))) l j))) (Cl 332 [.slice b a c,al d,al f,al j] h λe j=> ∃k:Int,∃l:Bool,e=(.tuple #[al k,aD l])/\(8:Int)≠0/\aK ((ax (k-d))<(ax (f-k))) (Cl 298 [.slice b a c,al d,al k,al g] j λe j=>e=aE/\bk2 b a c (ax (k+1)) f g (decide ((ax (k-d))>=(ax (Int.tdiv i 8)))) l j) (Cl 298 [.slice b a c,al (ax (k+1)),al f,al g] j λe j=>e=aE/\bk2 b a c d k g (decide ((ax (f-k))>=(ax (Int.tdiv i 8)))) l j))
def F298.wk15:Prop:=aK l (aK o (aK (q==1) (Cl 329 [.slice b a c,al d,al f] h λe k=>bI (some e) λe=>aK e (K aE k) (F298.wk17 bk2 b a c d f g l o i j k K)) (F298.wk17 bk2 b a c d f g l o i j h K)) (F298.wk17 bk2 b a c d f g l o i j h K)) (F298.wk17 bk2 b a c d f g l o i j h K)
def F298.wk10:Prop:=Cl 327 [.slice b a c,al d,al f] h λe j=> ∃k:Int,∃m:Int,e=(.tuple #[al k,al m])/\aK (m==2) (Cl 328 [.slice b a c,al d,al f] j λe j=>e=aE/\F298.wk15 bk2 b a c d f g l o i (ax ((ax (f-1))-(ax (k-d)))) 1 j K) (F298.wk15 bk2 b a c d f g l o i k m j K)
def F298.wL2:Prop:=Lp Tryz.f298 F298.T [1,1,0] n [(0,(.slice b a c)),(1,(al d)),(2,(al f)),(3,(al g)),(8,(aD l)),(9,(aD o))] h K
def F298.sL2:F298.wL2 (n+1) b a c d f g l o h K=(aK ((ax (f-d))<=12) (Cl 324 [.slice b a c,al d,al f] h λa b=>a=aE/\K aE b) (aK (g==0) (Cl 325 [.slice b a c,al d,al f] h λa b=>a=aE/\K aE b) (aK (!l) (Cl 326 [.slice b a c,al d,al f] h λe i=>e=aE/\F298.wk10 (λa b c d e f g i j=>F298.wL2 n a b c d e f g i j K) b a c d f (ax (g-1)) l o (ax (f-d)) i K) (F298.wk10 (λa b c d e f g i j=>F298.wL2 n a b c d e f g i j K) b a c d f g l o (ax (f-d)) h K)))):=by kernel_rfl
def F298.wk2:Prop:=(∃e,F298.wL2 e b a c d f g l o h K)
def F298.spec(H:F298.wk2 b a c d f g true true h K):Cl 298 [.slice b a c,al d,al f,al g] h K:=cT F298.T Tryz.func298 H
end
namespace F324
def T:bj:=⟨[(1,[0,1,2,6]),(4,[0,1,2,6,7])],[(4,[[(0,[]),(1,[]),(2,[]),(3,[]),(4,[]),(5,[]),(6,[]),(7,[]),(8,[]),(9,[]),(10,[]),(11,[]),(12,[]),(13,[]),(14,[])]]),(6,[[(0,[]),(1,[]),(2,[]),(3,[]),(4,[]),(5,[]),(6,[]),(7,[]),(8,[]),(9,[]),(10,[]),(11,[]),(12,[]),(13,[]),(14,[]),(15,[2,3,4]),(16,[]),(17,[])]])]⟩
noncomputable def body:Code:=(Tryz.f324.body).getD .skip
noncomputable def en(S:bD)(p:List Nat)(κ:XK):Fr->aH->Prop:=E Tryz.prog X T S (sub body p) κ
noncomputable def ln(S:bD)(p:List Nat)(κ:XK)(n:Nat):Fr->aH->Prop:=jw S (E Tryz.prog X T S (sub body p)) (df T (sub body p)) κ n
def fn(K:KK):XK:=fin Tryz.prog Tryz.f324.results.toList K
noncomputable def c0(_S:bD)(K:KK):XK:=cA 0 (fn K)
noncomputable def c1(S:bD)(n1:Nat)(K:KK):XK:=gh S (df T (sub body [1,0,0])) (ln S [1,0,0] (c0 S K) n1) (c0 S K)
noncomputable def c2(S:bD)(n1:Nat)(K:KK):XK:=jS S (df T (sub body [1,0,0,1,1])) (en S [1,0,0,1,1] (c1 S n1 K)) (c1 S n1 K)
noncomputable def c3(S:bD)(n1:Nat)(K:KK):XK:=cA 1 (c2 S n1 K)
noncomputable def c4(S:bD)(n1:Nat)(K:KK):XK:=cA 2 (c3 S n1 K)
noncomputable def c5(S:bD)(n1:Nat)(n4:Nat)(K:KK):XK:=gh S (df T (sub body [1,0,0,1,0,0,1,0,0])) (ln S [1,0,0,1,0,0,1,0,0] (c4 S n1 K) n4) (c4 S n1 K)
def f1(b:az)(a c:Nat)(d f g:Int):Fr:=[(0,(.slice b a c)),(1,(al d)),(2,(al f)),(6,(al g))]
def f4(b:az)(a c:Nat)(d f g i:Int):Fr:=[(0,(.slice b a c)),(1,(al d)),(2,(al f)),(6,(al g)),(7,(al i))]
def J0(k1:(az)->Nat->Nat->Int->Int->Int->aH->Prop)(b:az)(a c:Nat)(d f:Int)(h:aH)(_K:KK):Prop:=
 k1 b a c d f (ax (d+(1:Int))) h
def E0(S:bD)(b:az)(a c:Nat)(d f:Int)(h:aH)(K:KK):(E Tryz.prog X T S body (fin Tryz.prog Tryz.f324.results.toList K) (dI 0 [(.slice b a c),(al d),(al f)]) h)=J0 (λb a c d f g h=>S (en S [1] (fn K)) (f1 b a c d f g) h) b a c d f h K:=by kernel_rfl
def Jk1(lp1:(az)->Nat->Nat->Int->Int->Int->aH->Prop)(b:az)(a c:Nat)(d f g:Int)(h:aH)(_K:KK):Prop:=
 lp1 b a c d f g h
def Ek1(S:bD)(b:az)(a c:Nat)(d f g:Int)(h:aH)(K:KK):(en S [1] (fn K) (f1 b a c d f g) h)=Jk1 (λb a c d f g h=> ∃n,S (ln S [1,0,0] (c0 S K) n) (f1 b a c d f g) h) b a c d f g h K:=by kernel_rfl
def JL1(k4:(az)->Nat->Nat->Int->Int->Int->Int->aH->Prop)(b:az)(a c:Nat)(d f g:Int)(h:aH)(K:KK):Prop:=
 aK (decide (g<f)) (k4 b a c d f g g h) (K aE h)
def EL1(S:bD)(n1:Nat)(b:az)(a c:Nat)(d f g:Int)(h:aH)(K:KK):(en S [1,0,0] (c1 S n1 K) (f1 b a c d f g) h)=JL1 (λb a c d f g i h=>S (en S [1,0,0,1,0,0,1] (c3 S n1 K)) (f4 b a c d f g i) h) b a c d f g h K:=by kernel_rfl
def Jk4(lp4:(az)->Nat->Nat->Int->Int->Int->Int->aH->Prop)(b:az)(a c:Nat)(d f g i:Int)(h:aH)(_K:KK):Prop:=
 lp4 b a c d f g i h
def Ek4(S:bD)(n1:Nat)(b:az)(a c:Nat)(d f g i:Int)(h:aH)(K:KK):(en S [1,0,0,1,0,0,1] (c3 S n1 K) (f4 b a c d f g i) h)=Jk4 (λb a c d f g i h=> ∃n,S (ln S [1,0,0,1,0,0,1,0,0] (c4 S n1 K) n) (f4 b a c d f g i) h) b a c d f g i h K:=by kernel_rfl
def JL4(bk4:(az)->Nat->Nat->Int->Int->Int->Int->aH->Prop)(bk1:(az)->Nat->Nat->Int->Int->Int->aH->Prop)(b:az)(a c:Nat)(d f g i:Int)(h:aH)(_K:KK):Prop:=
 aK (decide (i>d)) (bf b (λa1=>(0<=i/\i<(Nat.cast a:Int)/\aQ .i64 (rd h (a1.add (Int.toNat i*1))) (λn2=>bf b (λa3=>(0<=(ax (i-(1:Int)))/\(ax (i-(1:Int)))<(Nat.cast a:Int)/\aQ .i64 (rd h (a3.add (Int.toNat (ax (i-(1:Int)))*1))) (λn4=>Cl 330 [(al n2),(al n4)] h (λv5 h6=>bI (some v5) (λb7=>aK b7 (bf b (λa8=>(0<=(ax (i-(1:Int)))/\(ax (i-(1:Int)))<(Nat.cast a:Int)/\aQ .i64 (rd h6 (a8.add (Int.toNat (ax (i-(1:Int)))*1))) (λn9=>bf b (λa10=>(0<=i/\i<(Nat.cast a:Int)/\aQ .i64 (rd h6 (a10.add (Int.toNat i*1))) (λn11=>bf b (λa12=>(0<=i/\i<(Nat.cast a:Int)/\aW h6 ((a12.add (Int.toNat i*1)).add 0) (al n9) (λh13=>((.slice b a c)=((.slice b a c):Value)/\((al i)=((al i):Value)/\((al (ax (i-(1:Int))))=((al (ax (i-(1:Int)))):Value)/\bf b (λa14=>(0<=(ax (i-(1:Int)))/\(ax (i-(1:Int)))<(Nat.cast a:Int)/\aW h13 ((a14.add (Int.toNat (ax (i-(1:Int)))*1)).add 0) (al n11) (λh15=>bk4 b a c d f g (ax (i-(1:Int))) h15)))))))))))))))) (bk1 b a c d f (ax (g+(1:Int))) h6)))))))))) (bk1 b a c d f (ax (g+(1:Int))) h)
def EL4(S:bD)(n1:Nat)(n4:Nat)(b:az)(a c:Nat)(d f g i:Int)(h:aH)(K:KK):(en S [1,0,0,1,0,0,1,0,0] (c5 S n1 n4 K) (f4 b a c d f g i) h)=JL4 (λb a c d f g i h=>S (ln S [1,0,0,1,0,0,1,0,0] (c4 S n1 K) n4) (f4 b a c d f g i) h) (λb a c d f g h=>S (ln S [1,0,0] (c0 S K) n1) (f1 b a c d f g) h) b a c d f g i h K:=by kernel_rfl
def wL4(bk1:(az)->Nat->Nat->Int->Int->Int->aH->Prop):Nat->(az)->Nat->Nat->Int->Int->Int->Int->aH->KK->Prop
 |0,_,_,_,_,_,_,_,_,_=>False
 |n+1,b,a,c,d,f,g,i,h,K=>JL4 (λb a c d f g i h=>wL4 bk1 n b a c d f g i h K) bk1 b a c d f g i h K
def eL4(K:KK)(n1:Nat)(bk1:(az)->Nat->Nat->Int->Int->Int->aH->Prop)(hb1: ∀(b:az) (a c:Nat) (d f g:Int) (h:aH),(ln S0 [1,0,0] (c0 S0 K) n1 (f1 b a c d f g) h)=bk1 b a c d f g h): ∀(n:Nat) (b:az) (a c:Nat) (d f g i:Int) (h:aH),(ln S0 [1,0,0,1,0,0,1,0,0] (c4 S0 n1 K) n (f4 b a c d f g i) h)=wL4 bk1 n b a c d f g i h K
 |0,_,_,_,_,_,_,_,_=>rfl
 |n+1,b,a,c,d,f,g,i,h=>(EL4 S0 n1 n b a c d f g i h K).trans (BE (λq0 q1=>JL4 q0 q1 b a c d f g i h K) (by funext b a c d f g i h;exact(λb a c d f g i h=>eL4 K n1 bk1 hb1 n b a c d f g i h) b a c d f g i h) (by funext b a c d f g h;exact hb1 b a c d f g h))
def wk4(bk1:(az)->Nat->Nat->Int->Int->Int->aH->Prop)(b:az)(a c:Nat)(d f g i:Int)(h:aH)(K:KK):Prop:=
 Jk4 (λb a c d f g i h=> ∃m,wL4 bk1 m b a c d f g i h K) b a c d f g i h K
def ek4(K:KK)(n1:Nat)(bk1:(az)->Nat->Nat->Int->Int->Int->aH->Prop)(hb1: ∀(b:az) (a c:Nat) (d f g:Int) (h:aH),(ln S0 [1,0,0] (c0 S0 K) n1 (f1 b a c d f g) h)=bk1 b a c d f g h)(b:az)(a c:Nat)(d f g i:Int)(h:aH):(en S0 [1,0,0,1,0,0,1] (c3 S0 n1 K) (f4 b a c d f g i) h)=wk4 bk1 b a c d f g i h K:=(Ek4 S0 n1 b a c d f g i h K).trans (lP (λq0=>Jk4 q0 b a c d f g i h K) (by funext b a c d f g i h;exact cR λm=>eL4 K n1 bk1 hb1 m b a c d f g i h))
def wL1:Nat->(az)->Nat->Nat->Int->Int->Int->aH->KK->Prop
 |0,_,_,_,_,_,_,_,_=>False
 |n+1,b,a,c,d,f,g,h,K=>JL1 (λb a c d f g i h=>wk4 (λb a c d f g h=>wL1 n b a c d f g h K) b a c d f g i h K) b a c d f g h K
def eL1(K:KK): ∀(n:Nat) (b:az) (a c:Nat) (d f g:Int) (h:aH),(ln S0 [1,0,0] (c0 S0 K) n (f1 b a c d f g) h)=wL1 n b a c d f g h K
 |0,_,_,_,_,_,_,_=>rfl
 |n+1,b,a,c,d,f,g,h=>(EL1 S0 n b a c d f g h K).trans (lP (λq0=>JL1 q0 b a c d f g h K) (by funext b a c d f g i h;exact ek4 K n (λb a c d f g h=>wL1 n b a c d f g h K) (λb a c d f g h=>eL1 K n b a c d f g h) b a c d f g i h))
def wk1(b:az)(a c:Nat)(d f g:Int)(h:aH)(K:KK):Prop:=
 Jk1 (λb a c d f g h=> ∃m,wL1 m b a c d f g h K) b a c d f g h K
def ek1(K:KK)(b:az)(a c:Nat)(d f g:Int)(h:aH):(en S0 [1] (fn K) (f1 b a c d f g) h)=wk1 b a c d f g h K:=(Ek1 S0 b a c d f g h K).trans (lP (λq0=>Jk1 q0 b a c d f g h K) (by funext b a c d f g h;exact cR λm=>eL1 K m b a c d f g h))
def w(b:az)(a c:Nat)(d f:Int)(h:aH)(K:KK):Prop:=
 J0 (λb a c d f g h=>wk1 b a c d f g h K) b a c d f h K
def e0(K:KK)(b:az)(a c:Nat)(d f:Int)(h:aH):(E Tryz.prog X T S0 body (fin Tryz.prog Tryz.f324.results.toList K) (dI 0 [(.slice b a c),(al d),(al f)]) h)=w b a c d f h K:=(E0 S0 b a c d f h K).trans (lP (λq0=>J0 q0 b a c d f h K) (by funext b a c d f g h;exact ek1 K b a c d f g h))
def hb:Tryz.f324.body=some body:=by kernel_rfl
def ok:cX T Tryz.f324.ntmps body=true:=by kernel_rfl
def spec(b:az)(a c:Nat)(d f:Int)(h:aH)(K:KK)(H:w b a c d f h K):Cl 324 [(.slice b a c),(al d),(al f)] h K:=
 dk (T:=T) Ed Ei Tryz.func324 hb ok rfl (by rw[e0];exact H)
end F324
def F330.spec(H:Cl 352 [al i] h λa b=>bI (some a) λa=>aK a (Cl 352 [al j] b λa b=>bI (some a) λa=>aK (!a) (K aC b) (K (aD (i<j)) b)) (K (aD (i<j)) b)):Cl 330 [al i,al j] h K:=cN Tryz.func330 H
def F352.spec(H:K (aD (i !=i)) h):Cl 352 [al i] h K:=cN Tryz.func352 H
end
section
def yV{x:Int}{h:aH}{K:KK}(hK:K aB h):Cl 348 [ap x] h K:=by refine F348.spec ?_;rw[show(x !=x)=false by simp];exact hK
def vm{x y:Int}{h:aH}{K:KK}(hK:K (aD (decide (x<y))) h):Cl 319 [ap x,ap y] h K:=by refine F319.spec ?_;exact yV (by rw[dS];exact hK)
def qU{b n a e c i:Nat}{sp:List Value}{K:KK}{bk:(az)->Nat->Nat->Int->Int->Int->aH->Prop}(he:e<=n)(hie:i<e)(hn:n<=LB-2):
  ∀(j:Nat) (g:Nat->Int) (h:aH),fW .u32 h b n g sp->zq a i j g->a<=j->j<=i->(∀h' g',fW .u32 h' b n g' sp->sq a (i+1) g'->pP a e g g'->aM [b] h h'->bk (some (aw b)) n c a e ((i+1:Nat):Int) h')->
   F313.wL4 bk (j+1) (some (aw b)) n c a e i j h K:=by
 intro j;have hLB:LB=140737488355328:=rfl;have w1:ax ((i:Int)+1)=((i+1:Nat):Int):=by rw[fI ah ah];omega
 induction j with
 |zero=>
  intro g h A I ha hj hK;unfold F313.wL4 F313.JL4;rw[w1,show decide (((0:Nat):Int)>(a:Int))=false by simp];exact hK h g A (I.stop (.inl ah)) (.refl g) (aM.refl _ _)
 |succ j ih=>
  intro g h A I ha hj hK;unfold F313.wL4 F313.JL4;have w2:ax (((j+1:Nat):Int)-1)=(j:Int):=by rw[fI ah ah];omega
  rw[w1,w2];refine aT (λhc=> ?_) λhc=> ?_
  ·simp only[decide_eq_true_eq]at hc;refine A.ld rfl ah (A.ld rfl ah (vm ?_));rw[dS];refine aT (λhl=> ?_) λhl=> ?_
   ·simp only[decide_eq_true_eq]at hl;refine A.ld rfl ah (A.ld rfl ah (A.sto rfl ah λh1 A1 O1=>⟨rfl,rfl,rfl,A1.sto rfl ah λh2 A2 O2=> ?_⟩));have O:aM [b] h h2:=O1.trans O2 ak;have S:pP a e g (wO g (j+1) j):=pP.one g ah ah ah ah;have A2':fW .u32 h2 b n (wO g (j+1) j) sp:=A2;have I2:=I.step ah hj hl;rw[show j+1-1=j by omega]at I2;exact ih _ h2 A2' I2 ah ah λh' g' A' R' S' O'=>hK h' g' A' R' (S.trans S') (O.trans O' ak)
   ·simp only[decide_eq_false_iff_not]at hl;exact hK h g A (I.stop (.inr (by rw[show j+1-1=j by omega];omega))) (.refl g) (aM.refl _ _)
  ·simp only[decide_eq_false_iff_not]at hc;exact hK h g A (I.stop (.inl ah)) (.refl g) (aM.refl _ _)
def rD{b n a e c:Nat}{sp:List Value}{K:KK}(he:e<=n)(hn:n<=LB-2):
  ∀(d i:Nat) (g:Nat->Int) (h:aH),e<=i+d->fW .u32 h b n g sp->a<i->i<=e\/e<=a->sq a i g->(∀h' g',fW .u32 h' b n g' sp->sq a e g'->pP a e g g'->aM [b] h h'->K aE h')->
   F313.wL1 (d+1) (some (aw b)) n c a e i h K:=by
 intro d
 induction d with
 |zero=>
  intro i g h hd A ha hi R hK;unfold F313.wL1 F313.JL1;rw[show decide ((i:Int)<(e:Int))=false by simp;omega];exact hK h g A (λp q h1 h2 h3=>R p q h1 h2 ah) (.refl g) (aM.refl _ _)
 |succ d ih=>
  intro i g h hd A ha hi R hK;unfold F313.wL1 F313.JL1;refine aT (λhc=> ?_) λhc=> ?_
  ·simp only[decide_eq_true_eq]at hc;refine⟨i+1,qU he ah hn i g h A (zq.start R) ah (Nat.le_refl _) λh1 g1 A1 R1 S1 O1=> ?_⟩;exact ih (i+1) g1 h1 ah A1 ah ah R1 λh' g' A' R' S' O'=>hK h' g' A' R' (S1.trans S') (O1.trans O' ak)
  ·simp only[decide_eq_false_iff_not]at hc;exact hK h g A (λp q h1 h2 h3=>R p q h1 h2 ah) (.refl g) (aM.refl _ _)
def D3{h:aH}{b n a e c:Nat}{g:Nat->Int}{sp:List Value}{K:KK}(A:fW .u32 h b n g sp)(he:e<=n)(ha:a<=n)(hn:n<=LB-2)
  (hK: ∀h' g',fW .u32 h' b n g' sp->sq a e g'->pP a e g g'->aM [b] h h'->K aE h'):Cl 313 [.slice (some (aw b)) n c,al a,al e] h K:=by
 refine F313.spec _ _ _ _ _ h K ?_;unfold F313.w F313.J0 F313.wk1 F313.Jk1;have hLB:LB=140737488355328:=rfl;rw[show ax ((a:Int)+1)=((a+1:Nat):Int) by rw[fI ah ah];omega];exact⟨e+1,rD he hn e (a+1) g h ah A ah ah (sq.single g ah) hK⟩
end
namespace IN
def yV{x:Int}{h:aH}{K:KK}(hK:K aB h):Cl 352 [al x] h K:=by refine F352.spec ?_;rw[show(x !=x)=false by simp];exact hK
def vm{x y:Int}{h:aH}{K:KK}(hK:K (aD (decide (x<y))) h):Cl 330 [al x,al y] h K:=by refine F330.spec ?_;exact yV (by rw[dS];exact hK)
def qU{b n a e c i:Nat}{sp:List Value}{K:KK}{bk:(az)->Nat->Nat->Int->Int->Int->aH->Prop}(he:e<=n)(hie:i<e)(hn:n<=LB-2):
  ∀(j:Nat) (g:Nat->Int) (h:aH),fW .i64 h b n g sp->zq a i j g->a<=j->j<=i->(∀h' g',fW .i64 h' b n g' sp->sq a (i+1) g'->pP a e g g'->aM [b] h h'->bk (some (aw b)) n c a e ((i+1:Nat):Int) h')->
   F324.wL4 bk (j+1) (some (aw b)) n c a e i j h K:=by
 intro j;have hLB:LB=140737488355328:=rfl;have w1:ax ((i:Int)+1)=((i+1:Nat):Int):=by rw[fI ah ah];omega
 induction j with
 |zero=>
  intro g h A I ha hj hK;unfold F324.wL4 F324.JL4;rw[w1,show decide (((0:Nat):Int)>(a:Int))=false by simp];exact hK h g A (I.stop (.inl ah)) (.refl g) (aM.refl _ _)
 |succ j ih=>
  intro g h A I ha hj hK;unfold F324.wL4 F324.JL4;have w2:ax (((j+1:Nat):Int)-1)=(j:Int):=by rw[fI ah ah];omega
  rw[w1,w2];refine aT (λhc=> ?_) λhc=> ?_
  ·simp only[decide_eq_true_eq]at hc;refine A.ld rfl ah (A.ld rfl ah (vm ?_));rw[dS];refine aT (λhl=> ?_) λhl=> ?_
   ·simp only[decide_eq_true_eq]at hl;refine A.ld rfl ah (A.ld rfl ah (A.sto rfl ah λh1 A1 O1=>⟨rfl,rfl,rfl,A1.sto rfl ah λh2 A2 O2=> ?_⟩));have O:aM [b] h h2:=O1.trans O2 ak;have S:pP a e g (wO g (j+1) j):=pP.one g ah ah ah ah;have A2':fW .i64 h2 b n (wO g (j+1) j) sp:=A2;have I2:=I.step ah hj hl;rw[show j+1-1=j by omega]at I2;exact ih _ h2 A2' I2 ah ah λh' g' A' R' S' O'=>hK h' g' A' R' (S.trans S') (O.trans O' ak)
   ·simp only[decide_eq_false_iff_not]at hl;exact hK h g A (I.stop (.inr (by rw[show j+1-1=j by omega];omega))) (.refl g) (aM.refl _ _)
  ·simp only[decide_eq_false_iff_not]at hc;exact hK h g A (I.stop (.inl ah)) (.refl g) (aM.refl _ _)
def rD{b n a e c:Nat}{sp:List Value}{K:KK}(he:e<=n)(hn:n<=LB-2):
  ∀(d i:Nat) (g:Nat->Int) (h:aH),e<=i+d->fW .i64 h b n g sp->a<i->i<=e\/e<=a->sq a i g->(∀h' g',fW .i64 h' b n g' sp->sq a e g'->pP a e g g'->aM [b] h h'->K aE h')->
   F324.wL1 (d+1) (some (aw b)) n c a e i h K:=by
 intro d
 induction d with
 |zero=>
  intro i g h hd A ha hi R hK;unfold F324.wL1 F324.JL1;rw[show decide ((i:Int)<(e:Int))=false by simp;omega];exact hK h g A (λp q h1 h2 h3=>R p q h1 h2 ah) (.refl g) (aM.refl _ _)
 |succ d ih=>
  intro i g h hd A ha hi R hK;unfold F324.wL1 F324.JL1;refine aT (λhc=> ?_) λhc=> ?_
  ·simp only[decide_eq_true_eq]at hc;refine⟨i+1,qU he ah hn i g h A (zq.start R) ah (Nat.le_refl _) λh1 g1 A1 R1 S1 O1=> ?_⟩;exact ih (i+1) g1 h1 ah A1 ah ah R1 λh' g' A' R' S' O'=>hK h' g' A' R' (S1.trans S') (O1.trans O' ak)
  ·simp only[decide_eq_false_iff_not]at hc;exact hK h g A (λp q h1 h2 h3=>R p q h1 h2 ah) (.refl g) (aM.refl _ _)
def D3{h:aH}{b n a e c:Nat}{g:Nat->Int}{sp:List Value}{K:KK}(A:fW .i64 h b n g sp)(he:e<=n)(ha:a<=n)(hn:n<=LB-2)
  (hK: ∀h' g',fW .i64 h' b n g' sp->sq a e g'->pP a e g g'->aM [b] h h'->K aE h'):Cl 324 [.slice (some (aw b)) n c,al a,al e] h K:=by
 refine F324.spec _ _ _ _ _ h K ?_;unfold F324.w F324.J0 F324.wk1 F324.Jk1;have hLB:LB=140737488355328:=rfl;rw[show ax ((a:Int)+1)=((a+1:Nat):Int) by rw[fI ah ah];omega];exact⟨e+1,rD he hn e (a+1) g h ah A ah ah (sq.single g ah) hK⟩
end IN
section
def IO{tb:ByteArray}{y:Nat}{K:Int->Prop}(h:((List.range 256).all λy=>tb[y]?.isSome)=true)(hy:y<256)(hK: ∀n:Int,K n):E7 tb (y:Int) K:=by rw[List.all_eq_true]at h;obtain⟨b,hb⟩:=Option.isSome_iff_exists.1 (h y (List.mem_range.2 hy));exact⟨b,by rw[Int.toNat_natCast];exact hb,hK _⟩
def uC{X:Nat}{h:aH}{K:KK}(hX:X<256)(hK: ∀L:Int,K (al L) h):Cl 295 [aq (X:Int)] h K:=by
 refine F295.spec ?_;refine F323.spec ?_;rw[decide_eq_false ah,aJ];show F323.wk4 _ _ _ _;unfold F323.wk4;rw[decide_eq_false ah,aJ];show F323.wk7 _ _ _ _;unfold F323.wk7;rw[decide_eq_false ah,aJ];show F323.wk10 _ _ _ _;unfold F323.wk10;have:IntKind.wrap .u8 (X:Int)=X:=by simp[IntKind.wrap,IntKind.bits,IntKind.signed];omega
 rw[this];exact⟨ah,IO (by decide+kernel) hX λn=>aI rfl (hK _)⟩
def BI{h:aH}{b n c:Nat}{g:Nat->Int}{sp:List Value}{K:KK}(A:fW .u32 h b n g sp)(hn:n<=12)
  (hK: ∀h' g',fW .u32 h' b n g' sp->sq 0 n g'->pP 0 n g g'->aM [b] h h'->K aE h'):Cl 260 [.slice (some (aw b)) n c] h K:=by
 refine F260.spec ?_;have hLB:LB=140737488355328:=rfl;rw[cd ah ah];refine uC ah λL=>aI rfl ?_;refine F294.spec _ _ _ _ _ _ h _ ⟨1,?_⟩;rw[F294.sL2];rw[wrap_i64 ah ah,decide_eq_true ah,aO];exact D3 (a:=0) A (Nat.le_refl n) (Nat.zero_le n) ah λh' g' A' R' S' O'=>⟨rfl,rfl,hK h' g' A' R' S' O'⟩
def vA{h:aH}{c:Nat}{p:az}{K:KK}(hK:K aE h):Cl 260 [.slice p 0 c] h K:=by refine F260.spec ?_;rw[cd ah ah];refine uC (X:=0) ah λL=>aI rfl ?_;refine F294.spec _ _ _ _ _ _ h _ ⟨1,?_⟩;rw[F294.sL2];rw[show ax ((((0:Nat):Int))-0)=0 by decide,show decide ((0:Int)<=12)=true by decide,aO];refine F313.spec _ _ _ _ _ h _ ⟨1,?_⟩;unfold F313.wL1 F313.JL1;rw[show decide (ax ((0:Int)+1)<((0:Nat):Int))=false by decide,aJ];exact⟨rfl,rfl,hK⟩
def DC{h:aH}{c n:Nat}{p:az}{K:KK}(hn:n<=1)(hK:K aE h):Cl 265 [.slice p n c] h K:=by refine F265.spec ?_;rw[cd ah ah];refine uC ah λL=>aI rfl ?_;refine F298.spec _ _ _ _ _ _ h _ ⟨1,?_⟩;rw[F298.sL2];rw[wrap_i64 ah ah,decide_eq_true ah,aO];refine F324.spec _ _ _ _ _ h _ ⟨1,?_⟩;unfold F324.wL1 F324.JL1;rw[show decide (ax ((0:Int)+1)<((n:Nat):Int))=false by rw[decide_eq_false];rw[wrap_i64 ah ah];omega,aJ];exact⟨rfl,rfl,hK⟩
end
section
def fW.ldo{q:IntKind}{h:aH}{b n:Nat}{g:Nat->Int}{sp:List Value}(A:fW q h b n g sp){o l:Nat}{x:Int}{k:Nat}(hx:x=k)(hk:k<l)(hn:o+k<n){Q:Int->Prop}(hQ:Q (g (o+k))):
  bf (some ⟨b,o,none⟩) λa=>(0<=x/\x<(l:Int)/\aQ q (Ev.rd h (Addr.add a (Int.toNat x*1))) Q):=by
 subst hx;rw[aU];refine⟨ah,ah,?_⟩;rw[aL,show o+Int.toNat (k:Int)*1=o+k by omega,A.rd hn,bC];exact hQ
def fW.clr{q:IntKind}{h:aH}{b n:Nat}{g:Nat->Int}{sp:List Value}(A:fW q h b n g sp){k c m:Nat}(hk:k<=n)(hm:m=n-k)(hc:n<=c){K:aH->Prop}
  (hK: ∀h' sp',fW q h' b k g sp'->sp'.length=n-k+sp.length->aM [b] h h'->K h'):
  uW h #[.int q 0] (if c=k then some (aw b)else Option.map (λa=>Addr.add a (k*1)) (some (aw b))) m K:=by
 subst hm
 have e0:co n (λk=>Value.int q (g k))=co k (λk=>Value.int q (g k))++(co n (λk=>Value.int q (g k))).drop k:=by
  conv=>lhs;rw[<-List.take_append_drop k (co n (λk=>Value.int q (g k)))]
  congr 1
  apply List.ext_getElem?;intro i;by_cases hi:i<k
  ·rw[List.getElem?_take_of_lt hi,cF ah,cF hi]
  ·rw[List.getElem?_eq_none (by simp[bJ];omega),List.getElem?_eq_none (by simp[bJ];omega)]
 by_cases hck:c=k
 ·rw[if_pos hck];have:n-k=0:=ah;unfold uW;rw[this];have hz:(Builtin.zeroCells #[Value.int q 0] 0).toList=[]:=by simp[Builtin.zeroCells]
  dsimp only;rw[hz];unfold pd;have:n=k:=ah;subst this;exact hK h sp A ah (aM.refl _ _)
 ·rw[if_neg hck,Option.map_some,aL];unfold uW;simp only[Nat.zero_add,Nat.mul_one];have hz:(Builtin.zeroCells #[Value.int q 0] (n-k)).toList.length=n-k:=by rw[eK];simp
  refine jB _ 0 _ h A (by rw[hz,List.length_append,bJ];omega) (λv hv=> ?_) λh' A' O' _=> ?_
  ·simp[Builtin.zeroCells]at hv;obtain⟨i,_,rfl⟩:=hv;rw[Nat.mod_one]
   rfl
  ·refine hK h' ((Builtin.zeroCells #[Value.int q 0] (n-k)).toList++(co n (λk=>Value.int q (g k))++sp).drop (k+(n-k))) ?_ ?_ O'
   ·have e1:(co n (λk=>Value.int q (g k))++sp).take k=co k (λk=>Value.int q (g k)):=by
     rw[e0,List.append_assoc,List.take_append_of_le_length (by rw[bJ];exact Nat.le_refl _),List.take_of_length_le (by rw[bJ];exact Nat.le_refl _)]
    rw[Nat.add_zero,hz,e1,List.append_assoc]at A';exact A'
   ·rw[List.length_append,hz,List.length_drop,List.length_append,bJ];omega
structure BD(n k j:Nat)(g g':Nat->Int):Prop where
 k1:1<=k
 kj:k<=j
 up: ∀p q,p<q->q<k->g' p<g' q
 fw: ∀p,p<k-> ∃q,q<j/\g' p=g q
 bw: ∀q,q<j-> ∃p,p<k/\g' p=g q
 last:g' (k-1)=g (j-1)
 rest: ∀i,j<=i+1->i<n->k<=i->g' i=g i
def BD.same{n k j:Nat}{g g':Nat->Int}(H:BD n k j g g')(h:g j=g (j-1))(hk:k<=j):BD n k (j+1) g g' where
 k1:=H.k1
 kj:=ah
 up:=H.up
 fw:=λp hp=>by obtain⟨q,h1,h2⟩:=H.fw p hp;exact⟨q,ah,h2⟩
 bw:=λq hq=>by
  by_cases e:q=j
  ·subst e;exact⟨k-1,by have:=H.k1;omega,by rw[H.last,h]⟩
  ·exact H.bw q ah
 last:=by rw[H.last,show j+1-1=j by omega,h]
 rest:=λi h1 h2 h3=>H.rest i ah h2 h3
def BD.new{n k j:Nat}{g g':Nat->Int}(H:BD n k j g g')(h:g (j-1)<g j)(hj:j<n):BD n (k+1) (j+1) g (λi=>if i=k then g j else g' i) where
 k1:=ah
 kj:=by have:=H.kj;omega
 up:=λp q h1 h2=>by
  rw[if_neg (by omega:p≠k)];by_cases hq:q=k
  ·rw[if_pos hq];have l:=H.last;by_cases hp:p=k-1
   ·rw[hp,l];exact h
   ·have:=H.up p (k-1) ah ah;rw[l]at this;exact Int.lt_trans this h
  ·rw[if_neg hq];exact H.up p q h1 ah
 fw:=λp hp=>by
  by_cases e:p=k
  ·exact⟨j,ah,by rw[if_pos e]⟩
  ·obtain⟨q,h1,h2⟩:=H.fw p ah;exact⟨q,ah,by rw[if_neg e];exact h2⟩
 bw:=λq hq=>by
  by_cases e:q=j
  ·subst e;exact⟨k,ah,by rw[if_pos rfl]⟩
  ·obtain⟨p,h1,h2⟩:=H.bw q ah;exact⟨p,ah,by rw[if_neg ah];exact h2⟩
 last:=by rw[show k+1-1=k by omega,if_pos rfl,show j+1-1=j by omega]
 rest:=λi h1 h2 h3=>by rw[if_neg ah];exact H.rest i ah h2 ah
section
variable {b n c:Nat}{g:Nat->Int}{K:KK}
def HQ{h0 h:aH}{k:Nat}{g':Nat->Int}{sp:List Value}{bk:(az)->Nat->Nat->Int->aH->Prop}(A:fW .u32 h b n g' sp)(hk:k<=n)(hc:n<=c)(hn:n<=LB/4)(O:aM [b] h0 h)
  (hK: ∀h' sp',fW .u32 h' b k g' sp'->sp'.length=n-k+sp.length->aM [b] h0 h'->K (.slice (some (aw b)) k c) h'):F261.wk14 bk (some (aw b)) n c k h K:=by
 unfold F261.wk14 F261.Jk14;refine⟨ah,ah,?_⟩;rw[Int.toNat_natCast];refine A.clr hk rfl hc λh' sp' A' hl O'=>⟨ah,ah,?_⟩
 have e:(if c=0 then(some ((aw b):Addr))else Option.map (λa=>Addr.add a (0*1)) (some (aw b)))=some (aw b):=by
  split
  ·rfl
  ·simp
 rw[e];exact hK h' sp' A' hl (O.trans O' ak)
def IM{sp:List Value}{bk:(az)->Nat->Nat->Int->aH->Prop}{k0:Nat}(hc:n<=c)(hn:n<=LB/4)(R:sq 0 n g)(h0:1<=k0){hh:aH}:
  ∀(d k2 k:Nat) (g':Nat->Int) (h:aH),k0+k2+d=n->1<=k2->fW .u32 h b n g' sp->BD n k (k0+k2) g g'->k0<=k->k<k0+k2->aM [b] hh h->
   (∀h' k' g'' sp',fW .u32 h' b k' g'' sp'->sp'.length=n-k'+sp.length->BD n k' n g g''->k'<=n->aM [b] hh h'->K (.slice (some (aw b)) k' c) h')->
   F261.wL9 bk (d+1) (some (aw b)) n c k (some ⟨b,k0,none⟩) (n-k0) (c-k0) k2 h K:=by
 intro d;have hLB:LB=140737488355328:=rfl
 induction d with
 |zero=>
  intro k2 k g' h hd h2 A C hk hk' O hK;unfold F261.wL9 F261.JL9;rw[show decide ((k2:Int)<((n-k0:Nat):Int))=false by simp;omega,aJ];rw[show k0+k2=n by omega]at C;exact HQ A ah hc hn O λh' sp' A' hl O'=>hK h' k g' sp' A' hl C ah O'
 |succ d ih=>
  intro k2 k g' h hd h2 A C hk hk' O hK;unfold F261.wL9 F261.JL9
  rw[show decide ((k2:Int)<((n-k0:Nat):Int))=true by simp;omega,aO,show ax ((k2:Int)-1)=((k2-1:Nat):Int) by rw[fI ah ah];omega,
   show ax ((k2:Int)+1)=((k2+1:Nat):Int) by rw[fI ah ah];omega]
  refine A.ldo rfl ah ah (A.ldo rfl ah ah ?_);rw[C.rest (k0+k2) ah ah ah];by_cases hkk:k<=k0+(k2-1)
  ·have e1:g' (k0+(k2-1))=g (k0+k2-1):=by rw[C.rest (k0+(k2-1)) ah ah hkk,show k0+(k2-1)=k0+k2-1 by omega]
   rw[e1];refine aT (λhc1=> ?_) λhc1=> ?_
   ·simp only[bne_iff_ne,ne_eq]at hc1;refine A.ldo rfl ah ah (A.sto rfl ah λh1 A1 O1=> ?_);rw[C.rest (k0+k2) ah ah ah]at A1;rw[show ax ((k:Int)+1)=((k+1:Nat):Int) by rw[fI ah ah];omega]
    have lt:g (k0+k2-1)<g (k0+k2):=by have:=R (k0+k2-1) (k0+k2) ah ah ah;omega
    exact ih (k2+1) (k+1) _ h1 ah ah A1 (C.new lt ah) ah ah (O.trans O1 ak) hK
   ·have hc1':g (k0+k2)=g (k0+k2-1):=by simpa using hc1
    exact ih (k2+1) k g' h ah ah A (C.same hc1' ah) hk ah O hK
  ·have:k=k0+k2:=ah;omega
def Gl{sp:List Value}(hc:n<=c)(hn:n<=LB/4)(R:sq 0 n g){h:aH}(A:fW .u32 h b n g sp): ∀(d k:Nat),k+d=n->1<=k->BD n k k g g->
   (∀h' k' g'' sp',fW .u32 h' b k' g'' sp'->sp'.length=n-k'+sp.length->BD n k' n g g''->k'<=n->aM [b] h h'->K (.slice (some (aw b)) k' c) h')->
   F261.wL4 (d+1) (some (aw b)) n c k h K:=by
 intro d;have hLB:LB=140737488355328:=rfl
 induction d with
 |zero=>
  intro k hd h1 C hK;unfold F261.wL4 F261.JL4;rw[show decide ((k:Int)<(n:Int))=false by simp;omega,aJ];have:k=n:=ah;subst this;exact hK h k g sp A ah C (Nat.le_refl _) (aM.refl _ _)
 |succ d ih=>
  intro k hd h1 C hK;unfold F261.wL4 F261.JL4;rw[show decide ((k:Int)<(n:Int))=true by simp;omega,aO,show ax ((k:Int)-1)=((k-1:Nat):Int) by rw[fI ah ah];omega];refine A.ld rfl ah (A.ld rfl ah ?_);refine aT (λhe=> ?_) λhe=> ?_
  ·have he':g k=g (k-1):=by simpa using he
   refine⟨ah,ah,?_⟩;unfold F261.wk9 F261.Jk9;rw[Int.toNat_natCast,if_neg ah,Option.map_some,aL,Nat.zero_add,Nat.mul_one];exact⟨_,IM hc hn R h1 (n-(k+1)) 1 k g h ah (Nat.le_refl _) A (C.same he' (Nat.le_refl _)) (Nat.le_refl _) ah (aM.refl _ _) hK⟩
  ·have he': ¬g k=g (k-1):=by simpa using he
   rw[show ax ((k:Int)+1)=((k+1:Nat):Int) by rw[fI ah ah];omega]
   have lt:g (k-1)<g k:=by have:=R (k-1) k ah ah ah;omega
   have C':=C.new lt ah;rw[show(λi=>if i=k then g k else g i)=g by funext i;by_cases e:i=k<;>simp[e]]at C';exact ih (k+1) ah ah C' hK
def HB{h:aH}{sp:List Value}(A:fW .u32 h b n g sp)(hc:n<=c)(hn:n<=LB/4)(R:sq 0 n g)
  (hK: ∀h' k g' sp',fW .u32 h' b k g' sp'->sp'.length=n-k+sp.length->k<=n->(∀p q,p<q->q<k->g' p<g' q)->(∀p,p<k-> ∃q,q<n/\g' p=g q)->(∀q,q<n-> ∃p,p<k/\g' p=g q)->aM [b] h h'->K (.slice (some (aw b)) k c) h'):
  Cl 261 [.slice (some (aw b)) n c] h K:=by
 refine F261.spec _ _ _ h K ?_;unfold F261.w F261.J0;refine aT (λh2=> ?_) λh2=> ?_
 ·simp only[decide_eq_true_eq]at h2;exact hK h n g sp A ah (Nat.le_refl _) (λp q _ _=>ah) (λp hp=>⟨p,hp,rfl⟩) (λq hq=>⟨q,hq,rfl⟩) (aM.refl _ _)
 ·simp only[decide_eq_false_iff_not]at h2;unfold F261.wk4 F261.Jk4
  exact⟨_,Gl hc hn R A (n-1) 1 ah (Nat.le_refl _) ⟨Nat.le_refl _,Nat.le_refl _,λp q _ _=>ah,λp hp=>⟨p,hp,rfl⟩,λq hq=>⟨q,hq,rfl⟩,rfl,λi _ _ _=>rfl⟩
   λh' k g' sp' A' hl C hk O'=>hK h' k g' sp' A' hl hk C.up C.fw C.bw O'⟩
end
def yh{h:aH}{c:Nat}{p:az}{K:KK}(hK:K (.slice p 0 c) h):Cl 261 [.slice p 0 c] h K:=by refine F261.spec _ _ _ h K ?_;unfold F261.w F261.J0;rw[show decide (((0:Nat):Int)<2)=true by decide,aO];exact hK
end
section
def wK(x:Int):Bool:=decide (1<x)
structure AP(i j:Nat)(g g':Nat->Int):Prop where
 ij:i<=j
 eq:(List.range i).map g'=((List.range j).map g).filter wK
 rest: ∀k,j<=k->g' k=g k
def AP.keep{i j:Nat}{g g':Nat->Int}(H:AP i j g g')(h:1<g j):AP (i+1) (j+1) g (λk=>if k=i then g j else g' k) where
 ij:=by have:=H.ij;omega
 eq:=by
  rw[List.range_succ,List.range_succ,List.map_append,List.map_append,List.filter_append,<-H.eq]
  congr 1
  ·apply List.map_congr_left;intro k hk;rw[List.mem_range]at hk;rw[if_neg ah]
  ·simp[wK,h]
 rest:=λk hk=>by have:=H.ij;rw[if_neg ah];exact H.rest k ah
def AP.drop{i j:Nat}{g g':Nat->Int}(H:AP i j g g')(h: ¬1<g j):AP i (j+1) g g' where
 ij:=by have:=H.ij;omega
 eq:=by rw[H.eq,List.range_succ,List.map_append,List.filter_append];simp[wK,h]
 rest:=λk hk=>H.rest k ah
def AP.all{i:Nat}{g:Nat->Int}(h: ∀k,k<i->1<g k):AP i i g g where
 ij:=Nat.le_refl _
 eq:=by symm;rw[List.filter_eq_self];intro x hx;obtain⟨k,hk,rfl⟩:=List.mem_map.1 hx;rw[List.mem_range]at hk;simp[wK,h k hk]
 rest:=λk _=>rfl
def Em{x:Int}{h:aH}{K:KK}(hK:K (aD (!wK x)) h):eV Tryz.prog X (.func (.func 263) #[] #[]) [ap x] h K:=
 bE (by kernel_rfl) (F263.spec (by rw[show decide (x<=1)= !wK x by unfold wK;by_cases h:1<x<;>simp[h]<;>omega];exact hK))
section
variable {b n c:Nat}{g:Nat->Int}{K:KK}
def Gn{h:aH}{sp:List Value}(A:fW .u32 h b n g sp)(hn:n<=LB/4)(hK: ∀i:Nat,i<n->(∀k,k<i->1<g k)-> ¬1<g i->K (al (i:Int)) h)(hN:(∀k,k<n->1<g k)->K (al (-1)) h):
  Cl 296 [.slice (some (aw b)) n c,.func (.func 263) #[] #[]] h K:=by
 refine F296.spec _ _ _ h K ?_;have hLB:LB=140737488355328:=rfl;unfold F296.wk2
 have main: ∀(d i:Nat),i+d=n->(∀k,k<i->1<g k)->F296.wL2 (d+1) (some (aw b)) n c (.func (.func 263) #[] #[]) n i h K:=by
  intro d
  induction d with
  |zero=>
   intro i hd hi;rw[F296.sL2];rw[show decide ((i:Int)<(n:Int))=false by simp;omega,aJ];exact hN λk hk=>hi k ah
  |succ d ih=>
   intro i hd hi;rw[F296.sL2];rw[show decide ((i:Int)<(n:Int))=true by simp;omega,aO];refine A.ld rfl ah (Em ?_);rw[dS];refine aT (λho=> ?_) λho=> ?_
   ·exact hK i ah hi (by simpa[wK]using ho)
   ·rw[show ax ((i:Int)+1)=((i+1:Nat):Int) by rw[fI ah ah];omega];refine ih (i+1) ah λk hk=> ?_;by_cases e:k=i
    ·subst e;simpa[wK]using ho
    ·exact hi k ah
 exact⟨_,main n 0 ah λk hk=>ah⟩
def Gg{h0 h:aH}{k:Nat}{g':Nat->Int}{sp:List Value}(A:fW .u32 h b n g' sp)(hk:k<=n)(hc:n<=c)(O:aM [b] h0 h)
  (hK: ∀h' sp',fW .u32 h' b k g' sp'->sp'.length=n-k+sp.length->aM [b] h0 h'->K (.slice (some (aw b)) k c) h'):F262.wk11 (some (aw b)) n c k h K:=by
 unfold F262.wk11;refine⟨ah,ah,?_⟩;rw[Int.toNat_natCast];refine A.clr hk rfl hc λh' sp' A' hl O'=>⟨ah,ah,?_⟩
 have e:(if c=0 then(some ((aw b):Addr))else Option.map (λa=>Addr.add a (0*1)) (some (aw b)))=some (aw b):=by
  split
  ·rfl
  ·simp
 rw[e];exact hK h' sp' A' hl (O.trans O' ak)
def HT{sp:List Value}(hc:n<=c)(hn:n<=LB/4){hh:aH}:
  ∀(d j i:Nat) (g':Nat->Int) (h:aH),j+d=n->i<j->fW .u32 h b n g' sp->AP i j g g'->aM [b] hh h->
   (∀h' k g'' sp',fW .u32 h' b k g'' sp'->sp'.length=n-k+sp.length->k<=n->(List.range k).map g''=((List.range n).map g).filter wK->aM [b] hh h'->K (.slice (some (aw b)) k c) h')->
   F262.wL5 (d+1) (some (aw b)) n c (.func (.func 263) #[] #[]) i j h K:=by
 intro d;have hLB:LB=140737488355328:=rfl
 induction d with
 |zero=>
  intro j i g' h hd hij A C O hK;rw[F262.sL5];rw[show decide ((j:Int)<(n:Int))=false by simp;omega,aJ];have:j=n:=ah;subst this;exact Gg A ah hc O λh' sp' A' hl O'=>hK h' i g' sp' A' hl ah C.eq O'
 |succ d ih=>
  intro j i g' h hd hij A C O hK;rw[F262.sL5];rw[show decide ((j:Int)<(n:Int))=true by simp;omega,aO,show ax ((j:Int)+1)=((j+1:Nat):Int) by rw[fI ah ah];omega];refine A.ld rfl ah (Em ?_);rw[dS];have ej:g' j=g j:=C.rest j (Nat.le_refl _);refine aT (λho=> ?_) λho=> ?_
  ·have ho':1<g j:=by rw[<-ej];simpa[wK]using ho
   refine A.sto rfl ah λh1 A1 O1=> ?_;rw[ej]at A1;rw[show ax ((i:Int)+1)=((i+1:Nat):Int) by rw[fI ah ah];omega];exact ih (j+1) (i+1) _ h1 ah ah A1 (C.keep ho') (O.trans O1 ak) hK
  ·have ho': ¬1<g j:=by rw[<-ej];simpa[wK]using ho
   exact ih (j+1) i g' h ah ah A (C.drop ho') O hK
def Hd{h:aH}{sp:List Value}(A:fW .u32 h b n g sp)(hc:n<=c)(hn:n<=LB/4)
  (hK: ∀h' k g' sp',fW .u32 h' b k g' sp'->sp'.length=n-k+sp.length->k<=n->(List.range k).map g'=((List.range n).map g).filter wK->aM [b] h h'->K (.slice (some (aw b)) k c) h'):
  Cl 262 [.slice (some (aw b)) n c,.func (.func 263) #[] #[]] h K:=by
 refine F262.spec _ _ _ h K ?_;have hLB:LB=140737488355328:=rfl;refine Gn A hn (λi hi h1 h2=> ?_) λh1=> ?_
 ·rw[bC,show((i:Int)==(-1))=false by simp,aJ,show ax ((i:Int)+1)=((i+1:Nat):Int) by rw[fI ah ah];omega];unfold F262.wk5;exact⟨_,HT hc hn (n-(i+1)) (i+1) i g h ah ah A ((AP.all h1).drop h2) (aM.refl _ _) hK⟩
 ·rw[bC,show((-1:Int)==(-1))=true by decide,aO];exact hK h n g sp A ah (Nat.le_refl _) (AP.all h1).eq (aM.refl _ _)
end
def za{h:aH}{c:Nat}{p:az}{K:KK}(hK:K (.slice p 0 c) h):Cl 262 [.slice p 0 c,.func (.func 263) #[] #[]] h K:=by
 refine F262.spec _ _ _ h K ?_;refine F296.spec _ _ _ h _ ?_;unfold F296.wk2;refine⟨1,?_⟩;rw[F296.sL2];rw[show decide ((0:Int)<((0:Nat):Int))=false by decide,aJ]
 try dsimp only
 rw[bC,show((-1:Int)==(-1))=true by decide,aO];exact hK
end
section
open Go Go.RowKit Go.Maps
def jX(_:Value):Option (DataW Unit×List MemPlace):=some (.nil,[])
def yJ(q:IntKind)(p:Int×Value):Lit×DataW Unit:=(.int q p.1,.nil)
def wT{P:Program}{kt:TypeId}{q:IntKind}(hk:P.underlying kt=some (.int q)){w:World}{b:Nat}{m:List (Int×Value)}(M:bO w.heap b q m)
  (hwf: ∀x∈m.map (·.1),(Lit.int q x).wf=true) (hsz:m.length<=maxLen):
  ∃D:DataW Unit,w.ownsMap P kt jX b m.length D/\Maps.size D=m.length/\ ∀x,Maps.has D (.int q x)=true↔x∈m.map (·.1):=by
 obtain⟨es,cl,h1,h2,h3,h4,h5⟩:=M;have hlen:es.toList.length=m.length:=by simpa using congrArg List.length h2
 have hrd: ∀(l:List MapEntry) (m:List (Int×Value)),l.map (λe=>(e.key,e.val))=m.map (λp=>(Value.int q p.1,p.2))->(∀x∈m.map (·.1),(Lit.int q x).wf=true)->
   l.map (WideElems.rg P kt jX)=m.map (yJ q)/\ ∀x∈l,∃y,WideElems.rd P kt jX x=some y:=by
  intro l
  induction l with
  |nil=>intro m h _;cases m with
   |nil=>exact⟨rfl,ak⟩
   |cons p m=>simp at h
  |cons e l ih=>intro m h hw;cases m with
   |nil=>simp at h
   |cons p m=>
    simp only[List.map_cons,List.cons.injEq,Prod.mk.injEq]at h;obtain⟨⟨a1,a2⟩,a3⟩:=h;obtain⟨i1,i2⟩:=ih m a3 λx hx=>hw x (by simp[hx])
    have hr:WideElems.rd P kt jX e=some (yJ q p):=by
     unfold WideElems.rd;rw[a1,keyOf_int_mk hk (hw p.1 ak)]
     rfl
    refine⟨by rw[List.map_cons,List.map_cons,i1];unfold WideElems.rg;rw[hr];rfl,λx hx=> ?_⟩;rcases List.mem_cons.1 hx with rfl|hx
    ·exact⟨_,hr⟩
    ·exact i2 x hx
 obtain⟨r1,r2⟩:=hrd _ m h2 hwf;refine⟨_,⟨es,cl,kg h1,⟨by rw[<-Array.length_toList,hlen];exact hsz,⟨h5,h4,?_⟩,r2⟩,by rw[<-Array.length_toList,hlen];exact Nat.le_refl _,rfl⟩,?_,λx=> ?_⟩
 ·have e:es.toList.map (·.key)=(m.map (·.1)).map (Value.int q):=by
   have:=congrArg (List.map Prod.fst) h2;simpa[List.map_map,Function.comp_def]using this
  rw[e];exact h3.map _ λa b hab e=>hab (by injection e)
 ·rw[Maps.size_eq,length_sorted,List.length_map,hlen]
 ·rw[Maps.has_eq,List.any_eq_true,r1];constructor
  ·rintro ⟨p,hp,hs⟩;rw[mem_sorted,List.mem_map]at hp;obtain⟨y,hy,rfl⟩:=hp;simp[yJ,Lit.sameKey]at hs;exact List.mem_map.2 ⟨y,hy,hs⟩
  ·intro hx;obtain⟨p,hp,rfl⟩:=List.mem_map.1 hx;exact⟨yJ q p,mem_sorted.2 (List.mem_map.2 ⟨p,hp,rfl⟩),by simp[yJ,Lit.sameKey]⟩
def ib(q:IntKind)(D0:DataW Unit)(left:Lit->Bool)(ss:List Int):Prop:=ss.Nodup/\ ∀x,x∈ss↔(Maps.has D0 (.int q x)=true/\left (.int q x)=false)
def ib.start(q:IntKind)(D0:DataW Unit):ib q D0 (Maps.has D0) []:=⟨List.nodup_nil,λx=>by cases Maps.has D0 (.int q x)<;>simp⟩
def ib.step{q:IntKind}{D0:DataW Unit}{left:Lit->Bool}{ss:List Int}(h:ib q D0 left ss){x:Int}{y:DataW Unit}(hlk:left (.int q x)=true)(hat: ∀zd,D0.atKey (.int q x) zd=y):
  ib q D0 (λz=>left z&& !z.sameKey (.int q x)) (ss++[x]):=by
 have hhas:Maps.has D0 (.int q x)=true:=Maps.has_true_of_atKey hat;have hnew:x∉ss:=λhx=>by have:=((h.2 x).1 hx).2;rw[hlk]at this;cases this
 refine⟨List.nodup_append.2 ⟨h.1,ak,λa ha b hb=>by simp at hb;subst hb;exact λe=>hnew (e▸ha)⟩,λy=> ?_⟩;by_cases hy:y=x
 ·subst hy;simp[hhas,Lit.sameKey]
 ·simp[h.2 y,hy,Lit.sameKey]
def ib.perm{q:IntKind}{D0:DataW Unit}{left:Lit->Bool}{ss ks:List Int}(h:ib q D0 left ss)(hl: ∀kl,left kl=false)(hnd:ks.Nodup)(hm: ∀x,Maps.has D0 (.int q x)=true↔x∈ks):ss.Perm ks:=
 (List.perm_ext_iff_of_nodup h.1 hnd).2 λx=>by rw[h.2 x,hl,<-hm];simp
def su(W W':World):Prop:= ∀a,fz W'.heap a=fz W.heap a
def pc{h:aH}{a:Addr}{o:Obj}(ho:h[a.block]? =some o)(hc:o.isCells=false):fz h a=false:=by unfold fz;rw[ho];cases o<;>first|rfl|(simp[Obj.isCells]at hc)
def su.alloc(W:World){o:Obj}(hc:o.isCells=false):su W (W.alloc o):=λa=>by
 by_cases ha:a.block=W.heap.size
 ·rw[pc (o:=o) (by rw[ha];exact World.alloc_heap_new W o) hc];unfold fz;rw[ha,Array.getElem?_eq_none (Nat.le_refl _)]
 ·unfold fz;show(match (W.heap.push o)[a.block]? with|some (.cells _ _ (lo,hi))=>lo<=a.off&&a.off<hi|_=>false)=_;rw[Array.getElem?_push,if_neg ha]
  rfl
def su.put{W:World}{l:Nat}{o:Obj}(o':Obj)(hl:W.heap[l]? =some o)(hc:o.isCells=false)(hc':o'.isCells=false):su W (W.putObj l o'):=λa=>by
 by_cases ha:a.block=l
 ·rw[pc (o:=o') (by rw[ha];exact World.putObj_heap_same (Array.getElem?_eq_some_iff.1 hl).1) hc',pc (o:=o) (by rw[ha];exact hl) hc]
 ·unfold fz;rw[World.putObj_heap_other ha]
def su.one{W W':World}{r:Nat}(hs: ∀k,k<W.heap.size->k≠r->W'.heap[k]? =W.heap[k]?){o:Obj}(hr:W.heap[r]? =some o\/W.heap.size=r)(ho:W.heap[r]? =some o->o.isCells=false){o':Obj}(hr':W'.heap[r]? =some o')(ho':o'.isCells=false)
  (hsz:W'.heap.size<=max W.heap.size (r+1)):su W W':=λa=>by
 by_cases ha:a.block=r
 ·rw[pc (o:=o') (by rw[ha];exact hr') ho'];rcases hr with hr|hr
  ·rw[pc (o:=o) (by rw[ha];exact hr) (ho hr)]
  ·unfold fz;rw[ha,Array.getElem?_eq_none (Nat.le_of_eq hr)]
 ·unfold fz;by_cases hk:a.block<W.heap.size
  ·rw[hs _ hk ha]
  ·have:W'.heap.size<=a.block:=by
    rcases Nat.le_total W.heap.size (r+1)with h|h
    ·rw[Nat.max_eq_right h]at hsz;rcases hr with hr|hr
     ·have:=(Array.getElem?_eq_some_iff.1 hr).1;omega
     ·omega
    ·rw[Nat.max_eq_left h]at hsz;omega
   rw[Array.getElem?_eq_none (Nat.le_of_not_lt hk),Array.getElem?_eq_none this]
def aM.allocW(W:World){o:Obj}(hc:o.isCells=false):aM [] W.heap (W.alloc o).heap:=
 ⟨ak,λb hb _=>Below.heap_alloc W o b hb,su.alloc W hc⟩
def aM.putW{W:World}{l:Nat}{o:Obj}(o':Obj)(hl:W.heap[l]? =some o)(hc:o.isCells=false)(hc':o'.isCells=false):aM [l] W.heap (W.putObj l o').heap:=
 ⟨ak,λb _ hS=>World.putObj_heap_other (λe=>hS (by simp[e])),su.put o' hl hc hc'⟩
def Bn{a:Addr}{K K':aH->Prop}: ∀(cs:List Value) (i:Nat) (h:aH),pd a i cs h K->(∀h',K h'->K' h')->pd a i cs h K':=by
 intro cs
 induction cs with
 |nil=>intro i h H hK;unfold pd at H ⊢;exact hK h H
 |cons v vs ih=>
  intro i h H hK;unfold pd aW at H ⊢;cases hv:v.oneCell' with
  |false=>rw[hv]at H;exact H
  |true=>rw[hv]at H;exact⟨H.1,H.2.1,ih _ _ H.2.2 hK⟩
def oe(B:Nat)(J:List Int->World->Prop):Prop:=
 ∀s W W' row,J s W->W.grownBy W' row->su W W'->(∀r,row=some r->B<=r/\ ∃o:Obj,W.heap[r]? =some o/\o.isWalk=true)->J s W'
def oy{W W':World}{row:Option Nat}(hg:W.grownBy W' row)(hf:su W W'):aM row.toList W.heap W'.heap:=
 ⟨hg.size,λb hb hS=>hg.block b hb (λe=>hS (by rw[<-e];simp)),hf⟩
def uz{W W':World}{row:Option Nat}(hg:W.grownBy W' row):W'.os=W.os/\W'.tape=W.tape/\W'.output=W.output:=by obtain⟨a,b,c,-⟩:=hg;constructor<;>(try constructor)<;>assumption
def xp{h:aH}{e:TypeId}{sz by_:Nat}{z:Array Value}{p q:az}{l c m:Nat}{K K':az->Nat->Nat->aH->Prop}(H:fB h e sz by_ z p l c q m K)
  (hK: ∀p' l' c' h',K p' l' c' h'->K' p' l' c' h'):fB h e sz by_ z p l c q m K':=by
 obtain⟨new,a1,a2,a3,a4⟩:=H;refine⟨new,a1,a2,λhle=> ?_,λhlt=> ?_⟩
 ·have:=a3 hle;cases p with
  |none=>exact⟨this.1,hK _ _ _ _ this.2⟩
  |some ad=>exact Bn _ _ _ this λh' hk=>hK _ _ _ _ hk
 ·obtain⟨old,b1,b2,b3,b4⟩:=a4 hlt;exact⟨old,b1,b2,b3,λcap hc=>hK _ _ _ _ (b4 cap hc)⟩
def kU{F:Fence}{n:Nat}{P:Program}(w:World){ops:Array Oper}{rest:List Oper}{o:Oper}{a:Act}{Q:Exit->Act->World->Prop}(hg:o.guard=none)(x y:Operand)(t:TypeId)
  (ho:o.op= .call {callee:= .builtin .append,args:= #[x,y],argTypes:= #[t,t]}) {e:TypeId} {sz by_:Nat} {z:Array Value} {p q:az} {l c m c':Nat}
  (ht:P.underlying t=some (.slice e)) (hs:jU P e=some (sz,by_,z)) (hby:1<=by_) (hx:a.eval x= .slice p l c) (hy:a.eval y= .slice q m c')
  {K:az->Nat->Nat->aH->Prop} (H:fB w.heap e sz by_ z p l c q m K)
  (h: ∀p' l' c' w',bT w w'->K p' l' c' w'.heap->wpListIn F n P ops Q rest (a.put o.dst (.slice p' l' c')) w'):wpListIn F n P ops Q (o::rest) a w:=by
 refine wpListIn_plain hg λK' hK'=> ?_
 obtain⟨v,w',hr,hsame,⟨p',l',c',hv,hk⟩⟩:=pn (P:=P) (ty:=o.type) (c':=c') (K:=λv h=> ∃p' l' c',v= .slice p' l' c'/\K p' l' c' h) ht ⟨e,ht⟩ hs hby
  (xp H λp' l' c' h' hk=>⟨p',l',c',rfl,hk⟩) w rfl
 unfold Oper.wpIn;refine⟨by simp[Oper.about,ho,resolve,Target.leads,Sem.run_pure],?_⟩;rw[Oper.semAt_plain F _ _ (by rw[ho];intro c hc';cases hc')];simp[execOp,ho,resolve,invoke,builtin,hx,hy,hr,Result.andThen];subst hv;exact hK' _ _ (h _ _ _ _ hsame hk)
end
section
open Go Go.RowKit Go.Maps
def Gp:Tryz.prog.underlying 46=some (.int .u32):=by kernel_rfl
def In:Tryz.prog.underlying 204=some (.map 46 3):=by kernel_rfl
def Jj:Tryz.prog.underlying 56=some (.slice 46):=by kernel_rfl
set_option maxRecDepth 100000 in
set_option maxHeartbeats 2000000 in
def Bq{F:Fence}{n:Nat}(h66:F.fn 293)(hro:F.round=none)(hn:1<=n)(l Bm b nn:Nat)(D0:DataW Unit)(J:List Int->World->Prop)
  (hY: ∀pre x W,J pre W->pre.length<Maps.size D0->YieldAt F (n-1) Tryz.prog l #[ap x] W λe W'=>e= .returned aC/\J (pre++[x]) W'/\KeepsWalks W W')
  (W:World) (hJ:oe W.heap.size J) (hm:W.cell? (aw Bm)=some (.map (some b))) (hown:W.ownsMap Tryz.prog 46 jX b nn D0) (h0:J [] W):
  CallsIn F n Tryz.prog 293 #[.func (.yield l) #[] #[],au (aw Bm)] W λe W'=>(∃v,e= .returned v)/\ ∃ss:List Int,J ss W'/\ ∃left,ib .u32 D0 left ss/\ ∀kl,left kl=false:=by
 refine callsIn_of_wp Tryz.func293 rfl h66 ?_ hro;simp only[Tryz.ntmps293,List.size_toArray,List.length_cons,List.length_nil,Nat.reduceAdd,Nat.reduceSub,Array.replicate_succ,Array.replicate_zero,List.push_toArray,List.append_toArray,List.nil_append,List.cons_append]
 gi_wp2_with (first
  |(gi_at_range;refine wpListIn_range_own _ rfl _ 204 rfl 46 3 (int_keyed Gp) In _ b nn _ rfl hown ?_;intro w0 hrg0 hg0 hs0)
  |gi_in)
 go_frame
 gi_loopw [3] (λ_ wr=> ∃(left:Lit->Bool) (cnt:Nat) (ss:List Int),wr.ranges Tryz.prog 46 jX b W.heap.size nn D0 left cnt/\ss.length+cnt<=Maps.size D0/\ib .u32 D0 left ss/\J ss wr)
  (λ_ wr=>wr.rangeLeft b W.heap.size)
 case atStart=>
  have hf0:su W w0:=by obtain⟨es,clock,since,seen,c0,_,_,_,_,hr,_⟩:=hrg0;exact su.one (r:=W.heap.size) (o:= .mapIter none 0 #[] 0) (λk hk _=>hg0.block k hk ak) (.inr rfl) (λ_=>rfl) hr rfl ah
  exact⟨_,_,[],hrg0,ak,ib.start .u32 D0,hJ [] W w0 none h0 hg0 hf0 (λr e=>by cases e)⟩
 case round=>
  obtain⟨left,cnt,ss,hrg,hcs,hC,hJs⟩:=hrel
  gi_wp2_with (first
   |(gi_at_next;refine wpListIn_next_ranges _ rfl _ rfl 46 (int_keyed Gp) jX (Value.int .u32) (λv:Value=>v) (λkey kl hk=>by obtain⟨x,hx,_⟩:=Maps.keyOf_int_inv Gp hk;exact⟨x,hx⟩) (λv y hv=>⟨v,rfl⟩) b W.heap.size nn _ _ _ rfl hrg ?_ ?_)
   |gi_in)
  ·intro hc0 hl0
   gi_wp2
   go_end0
   exact⟨⟨_,rfl⟩,ss,hJs,left,hC,hl0⟩
  ·intro x c kl yd yp w2 cnt2 hkey hlk hv hat hrg2 hlt hg2 hs2 hen;obtain⟨x',ex,rfl,_⟩:=Maps.keyOf_int_inv Gp hkey;cases ex
   have hf2:su wr w2:=by obtain⟨es,clock,since,seen,c0,_,_,_,_,hr,_⟩:=hrg;obtain⟨es',clock',since',seen',c0',_,_,_,_,hr',_⟩:=hrg2;exact su.one (r:=W.heap.size) (o:= .mapIter (some b) since seen c0) (λk hk hne=>hg2.block k hk (by simpa using hne)) (.inl hr) (λ_=>rfl) hr' rfl ah
   have hJ2:J ss w2:=hJ ss wr w2 (some W.heap.size) hJs hg2 hf2 (λr e=>by cases e;exact⟨Nat.le_refl _,hrg.iter_walk⟩);obtain⟨fn,tmps,assign,body,hy,hR⟩:=hY ss x w2 hJ2 ah;clear hs2 hf2
   gi_wp2
   refine hR.mono ?_;rintro e W3 ⟨rfl,hJ3,hk3⟩
   gi_wp2
   have hrg3:=hrg2.of_walks hk3
   go_roundw
   case rel=>exact⟨_,cnt2,ss++[x],hrg3,by simp;omega,hC.step hlk hat,hJ3⟩
   case measure=>rw[hrg3.left_eq,hrg.left_eq];exact hlt
end
section
open Go Go.RowKit Go.Maps
def iZ:Code->Option (Code×Code)
 | .seq a b=>(iZ a).or (iZ b)
 | .block _ c=>iZ c
 | .rangeFunc _ _ a b=>some (a,b)
 |_=>none
noncomputable def gk:Code:=((Tryz.f292.body.bind iZ).map (·.1)).getD .skip
noncomputable def ko:Code:=((Tryz.f292.body.bind iZ).map (·.2)).getD .skip
noncomputable def dr(fn:FuncId)(sv:Value)(Bs D:Nat)(st:LoopState)(pend:Option Code):Loop:=
 {state:=st,pending:=pend,fn,tmps:= #[.slice none 0 0,sv,au (aw Bs),undef,.slice none 0 0,undef,sv,undef,undef,undef,undef,undef,undef],params:= #[7],assign:=gk,body:=ko,defers:=D}
structure oC(w0:World)(fn:FuncId)(sv:Value)(Bs l D:Nat)(ss:List Int)(W:World):Prop where
 box: ∃p c,At W.heap Bs [.slice p ss.length c]/\cj W.heap (Bs+1) 1 p ss.length c (ss.map (Value.int .u32))
 L:W.heap[l]? =some (.loop (dr fn sv Bs D .ready none))
 K:W.heap[D]? =some (.deferred (some []))
 only:aM [] w0.heap W.heap
 same:bT w0 W
def At.notWalk{h:aH}{b r:Nat}{c:List Value}(A:At h b c)(hr: ∃o:Obj,h[r]? =some o/\o.isWalk=true):b≠r:=by obtain⟨e,A⟩:=A;obtain⟨o,hr,hw⟩:=hr;intro e';subst e';rw[A]at hr;cases hr;cases hw
def bT.of_grown{W W':World}{row:Option Nat}(hg:W.grownBy W' row):bT W W':=uz hg
def lQ(w0:World)(fn:FuncId)(sv:Value)(Bs l D B:Nat)(hB:w0.heap.size<=B):oe B (oC w0 fn sv Bs l D):=λs W W' row h hg hf hrow=>by
 have hrow': ∀r,row=some r-> ∃o:Obj,W.heap[r]? =some o/\o.isWalk=true:=λr e=>(hrow r e).2;have O:=oy hg hf
 have hno: ∀b,(∃c,At W.heap b c)->b∉row.toList:=λb ⟨c,A⟩ hb=>by
  cases row with
  |none=>simp at hb
  |some r=>simp at hb;exact A.notWalk (hrow' r rfl) hb
 obtain⟨p,c,A,H⟩:=h.box
 exact⟨⟨p,c,A.only O (hno _ ⟨_,A⟩),H.onlyC O λb _ hc=>hno b hc⟩,(grownBy_keeps hg hrow' h.L rfl).trans h.L,(grownBy_keeps hg hrow' h.K rfl).trans h.K,
  h.only.trans O (λb hb hlt=>by
   cases row with
   |none=>simp at hb
   |some r=>
    simp at hb;have:=(hrow r rfl).1;omega),h.same.trans (bT.of_grown hg)⟩
def og{S:List Nat}{W W':World}(O:aM S W.heap W'.heap)(h: ∀r∈S,∀o:Obj,W.heap[r]? =some o->o.isWalk=false):KeepsWalks W W':=
 ⟨O.size,λk o hk ho=>(O.same k (Array.getElem?_eq_some_iff.1 hk).1 (λhS=>by rw[h k hS o hk]at ho;cases ho)).trans hk⟩
def At.ne_obj{h:aH}{b r:Nat}{c:List Value}(A:At h b c){o:Obj}(hr:h[r]? =some o)(ho:o.isCells=false):b≠r:=by obtain⟨e,A⟩:=A;intro e';subst e';rw[A]at hr;cases hr;cases ho
def At.walkF{h:aH}{b:Nat}{c:List Value}(A:At h b c): ∀o:Obj,h[b]? =some o->o.isWalk=false:=by
 obtain⟨e,A⟩:=A;intro o ho;rw[A]at ho;cases ho
 rfl
def Ix:jU Tryz.prog 46=some (1,4,#[ap 0]):=by kernel_rfl
set_option maxRecDepth 100000 in
set_option maxHeartbeats 2000000 in
def ru{F:Fence}{m:Nat}(w0:World)(fn:FuncId)(hfn:F.fn fn)(sv:Value)(Bs l D:Nat)(hBl:Bs≠l)(hDl:D≠l)(hDB:D≠Bs)(h0B:w0.heap.size<=Bs)(h0l:w0.heap.size<=l)
  (N:Nat) (hN:N*4<=140737488355328) (ss:List Int) (x:Int) (W:World) (h:oC w0 fn sv Bs l D ss W) (hlen:ss.length<N):
  YieldAt F m Tryz.prog l #[ap x] W λe W'=>e= .returned aC/\oC w0 fn sv Bs l D (ss++[x]) W'/\KeepsWalks W W':=by
 obtain⟨p,c,A,H⟩:=h.box;refine⟨fn,#[.slice none 0 0,sv,au (aw Bs),undef,.slice none 0 0,undef,sv,ap x,undef,undef,undef,undef,undef],gk,ko,by simpa[dr]using run_yield (P:=Tryz.prog) (args:= #[ap x]) h.L rfl,roundIn_of_wpIn hfn ?_⟩;have hl:l<W.heap.size:=(Array.getElem?_eq_some_iff.1 h.L).1;have hbr:=run_beginRound (P:=Tryz.prog) h.L rfl;obtain⟨W2,hW2⟩: ∃W2,W.putObj l (.loop {dr fn sv Bs D .ready none with state:= .busy})=W2:=⟨_,rfl⟩;rw[hW2]at hbr;have hnl: ∀b,(∃c,At W.heap b c)->b∉[l]:=λb ⟨c,A⟩ hb=>A.ne_obj h.L rfl (by simpa using hb);have O2:aM [l] W.heap W2.heap:=by rw[<-hW2];exact aM.putW _ h.L rfl rfl
 have A2:At W2.heap Bs [.slice p ss.length c]:=A.only O2 (hnl _ ⟨_,A⟩);have H2:=H.onlyC O2 λb _ hc=>hnl b hc;have hK2:W2.heap[D]? =some (.deferred (some [])):=by rw[<-hW2];exact(World.putObj_heap_other hDl).trans h.K
 have hL2:W2.heap[l]? =some (.loop {dr fn sv Bs D .ready none with state:= .busy}):=by rw[<-hW2];exact World.putObj_heap_same hl
 have S2:bT W W2:=by rw[<-hW2];exact⟨rfl,rfl,rfl⟩
 have hc2:W2.cell? (aw Bs)=some (.slice p ss.length c):=A2.rd 0;have hf2:W2.frozen? (aw Bs)=false:=A2.fz 0 none;have A3:At (W2.alloc (.cells #[ap x] 46)).heap W2.heap.size [ap x]:=At.push _ _ _;have O3:aM [] W2.heap (W2.alloc (.cells #[ap x] 46)).heap:=aM.push_cells _ _ _;have H3:=H2.onlyC O3 λb _ _=>ak;have A3':=A2.only O3 ak;have hBlt:=A2.lt;have hz3:=O3.size;clear hW2;simp only[gk,Tryz.f292,iZ,Option.bind_some,Option.map_some,Option.getD_some,Option.none_or,Option.some_or]
 gi_wp2_with (rw[Oper.semAt_eq _ _ _ (λc h=>by cases h)];go_simp;try go_bits)
 simp only[ko,Tryz.f292,iZ,Option.bind_some,Option.map_some,Option.getD_some,Option.none_or,Option.some_or]
 gi_wp2_with (first
  |(gi_at_builtin;refine kU _ rfl _ _ 56 rfl Jj Ix (by decide) rfl rfl (fT (K:=λp' l' c' h'=>l'=ss.length+1/\cj h' (Bs+1) 1 p' (ss.length+1) c' (ss.map (Value.int .u32)++[ap x])/\aM (aX p) (W2.alloc (.cells #[ap x] 46)).heap h'/\ ∀b∈aX p',b∈aX p\/(W2.alloc (.cells #[ap x] 46)).heap.size<=b) H3 A3 rfl rfl ah (by simp[Value.oneCell']) ah λp' c' h' a b c=>⟨rfl,a,b,c⟩) ?_;rintro p' l' c' w3 S3 ⟨rfl,H4,O4,hp'⟩
    have hnB:Bs∉aX p:=λhb=>by have:=H2.lt Bs hb;omega
    have A4:=A3'.only O4 hnB;have hc3:w3.cell? (aw Bs)=some (.slice p ss.length c):=A4.rd 0;have hf3:w3.frozen? (aw Bs)=false:=A4.fz 0 none
    go_frame)
  |(rw[Oper.semAt_eq _ _ _ (λc h=>by cases h)];go_simp;try go_bits))
 have hlB:l∉aX p:=λhb=>by obtain⟨c,A⟩:=H3.cells l hb;exact A.ne_obj ((Below.heap_alloc _ _ l (Array.getElem?_eq_some_iff.1 hL2).1).trans hL2) rfl rfl
 have hDB':D∉aX p:=λhb=>by obtain⟨c,A⟩:=H3.cells D hb;exact A.ne_obj ((Below.heap_alloc _ _ D (Array.getElem?_eq_some_iff.1 hK2).1).trans hK2) rfl rfl
 have hL3:w3.heap[l]? =some (.loop {dr fn sv Bs D .ready none with state:= .busy}):=(O4.same l (Nat.lt_of_lt_of_le (Array.getElem?_eq_some_iff.1 hL2).1 hz3) hlB).trans ((O3.same l (Array.getElem?_eq_some_iff.1 hL2).1 ak).trans hL2);have hK3:w3.heap[D]? =some (.deferred (some [])):=(O4.same D (Nat.lt_of_lt_of_le (Array.getElem?_eq_some_iff.1 hK2).1 hz3) hDB').trans ((O3.same D (Array.getElem?_eq_some_iff.1 hK2).1 ak).trans hK2);obtain⟨w4,hw4⟩: ∃w4,w3.setCell (aw Bs) (.slice p' (ss.length+1) c')=w4:=⟨_,rfl⟩;rw[hw4];have O5:aM [Bs] w3.heap w4.heap:=by rw[<-hw4];exact aM.wr w3.heap (aw Bs) _
 have A5:At w4.heap Bs [.slice p' (ss.length+1) c']:=by rw[<-hw4];exact A4.wr 0 _
 have S4:bT w3 w4:=by rw[<-hw4];exact⟨rfl,rfl,rfl⟩
 have hL4:w4.heap[l]? =some (.loop {dr fn sv Bs D .ready none with state:= .busy}):=(O5.same l (Array.getElem?_eq_some_iff.1 hL3).1 (by simpa using Ne.symm hBl)).trans hL3;have hK4:w4.heap[D]? =some (.deferred (some [])):=(O5.same D (Array.getElem?_eq_some_iff.1 hK3).1 (by simpa using hDB)).trans hK3
 have H5:=H4.onlyC O5 λb hb _ hbB=>by simp at hbB;subst hbB;have:=H4.lt b hb;omega
 clear hw4;have O6:aM [l] w4.heap (w4.putObj l (.loop {{dr fn sv Bs D .ready none with state:= .busy}with state:=if(none:Option Code).isNone then .ready else .done,pending:=none})).heap:=aM.putW _ hL4 rfl rfl;have hnl4: ∀b,(∃c,At w4.heap b c)->b∉[l]:=λb ⟨c,A⟩ hb=>A.ne_obj hL4 rfl (by simpa using hb)
 have OO:aM (l::Bs::aX p) W.heap (w4.putObj l (.loop {{dr fn sv Bs D .ready none with state:= .busy}with state:=if(none:Option Code).isNone then .ready else .done,pending:=none})).heap:=by refine(((((O2.mono (T:=l::Bs::aX p) (by simp+contextual)).trans O3 ak).trans O4 (by simp+contextual)).trans O5 (by simp+contextual)).trans O6 (by simp+contextual))
 refine⟨_,_,run_endRound none hL4,rfl,⟨⟨p',c',?_,?_⟩,World.putObj_heap_same (Array.getElem?_eq_some_iff.1 hL4).1,(World.putObj_heap_other hDl).trans hK4,h.only.trans OO ?_,?_⟩,og OO ?_⟩
 ·rw[List.length_append,List.length_singleton];exact A5.only O6 (hnl4 _ ⟨_,A5⟩)
 ·rw[List.length_append,List.length_singleton,List.map_append,List.map_singleton];exact H5.onlyC O6 λb _ hc=>hnl4 b hc
 ·intro b hb hlt;rcases List.mem_cons.1 hb with rfl|hb
  ·omega
  ·rcases List.mem_cons.1 hb with rfl|hb
   ·omega
   ·have:=H.lt b hb;omega
 ·exact((((h.same.trans S2).trans ⟨rfl,rfl,rfl⟩).trans S3).trans S4).trans ⟨rfl,rfl,rfl⟩
 ·intro r hr o ho;rcases List.mem_cons.1 hr with rfl|hr
  ·rw[h.L]at ho;cases ho;rfl
  ·rcases List.mem_cons.1 hr with rfl|hr
   ·exact A.walkF o ho
   ·obtain⟨c,A'⟩:=H.cells r hr;exact A'.walkF o ho
end
section
open Go Go.RowKit Go.Maps Go.Shelf
set_option maxRecDepth 100000 in
set_option maxHeartbeats 2000000 in
def ms{F:Fence}{n:Nat}(h65:F.fn 292)(h66:F.fn 293)(hro:F.round=none)(hn:2<=n)(Bm b:Nat)(m:List (Int×Value))(w:World)(A:At w.heap Bm [.map (some b)])(M:bO w.heap b .u32 m)
  (hwf: ∀x∈m.map (·.1),(Lit.int .u32 x).wf=true) (hsz:m.length*4<=140737488355328):
  CallsIn F n Tryz.prog 292 #[.slice none 0 0,.func (.func 293) #[] #[au (aw Bm)]] w λe w'=> ∃(p:az) (c:Nat) (ss:List Int),e= .returned (.slice p ss.length c)/\ss.Perm (m.map (·.1))/\
   cj w'.heap (w.heap.size+1) 1 p ss.length c (ss.map (Value.int .u32))/\aM [] w.heap w'.heap/\bT w w':=by
 have h1:1<=n:=ah;have hnd:(m.map (·.1)).Nodup:=by obtain⟨_,_,_,_,h,_⟩:=M;exact h
 have eg: ∀args w,(callFunc 293 args).run Tryz.prog w= .ok (.enter 293 args) w:=enters_of Tryz.func293 (by kernel_rfl) rfl;refine callsIn_of_wp_marks Tryz.func292 rfl h65 ?_ hro;simp only[Tryz.ntmps292,List.size_toArray,List.length_cons,List.length_nil,Nat.reduceAdd,Nat.reduceSub,Array.replicate_succ,Array.replicate_zero,List.push_toArray,List.append_toArray,List.nil_append,List.cons_append]
 gi_wp2
 refine wpIn_rangeFunc ?_;intro fn hfn;rw[hro];obtain⟨W0,hW0⟩: ∃W0,w.alloc (.cells #[.slice none 0 0] 56)=W0:=⟨_,rfl⟩;have hs0:W0.heap.size=w.heap.size+1:=by rw[<-hW0];simp
 have O0:aM [] w.heap W0.heap:=by rw[<-hW0];exact aM.push_cells _ _ _
 have A0:At W0.heap w.heap.size [.slice none 0 0]:=by rw[<-hW0];exact At.push _ _ _
 have S0:bT w W0:=by rw[<-hW0];exact⟨rfl,rfl,rfl⟩
 rw[hW0];obtain⟨W1,hW1⟩: ∃W1,(W0.alloc (.deferred (some []))).alloc (.loop (dr fn (.func (.func 293) #[] #[au (aw Bm)]) w.heap.size W0.heap.size .ready none))=W1:=⟨_,rfl⟩;have O1:aM [] W0.heap W1.heap:=by rw[<-hW1];exact(aM.allocW W0 rfl).trans (aM.allocW _ rfl) ak
 have hs1:W1.heap.size=W0.heap.size+2:=by rw[<-hW1];simp
 have S1:bT W0 W1:=by rw[<-hW1];exact⟨rfl,rfl,rfl⟩
 have OW:=O0.trans O1 ak
 have hM:oC w fn (.func (.func 293) #[] #[au (aw Bm)]) w.heap.size (W0.heap.size+1) W0.heap.size [] W1:=
  ⟨⟨none,0,A0.only O1 ak,cj.nil _ _ _⟩,
   by rw[<-hW1];have:=World.alloc_heap_new (W0.alloc (.deferred (some []))) (.loop (dr fn (.func (.func 293) #[] #[au (aw Bm)]) w.heap.size W0.heap.size .ready none));rwa[World.size_alloc]at this,
   by rw[<-hW1];exact(Below.heap_alloc _ _ _ ak).trans (World.alloc_heap_new W0 _),OW,S0.trans S1⟩
 obtain⟨D0,hown,hD1,hD2⟩:=wT Gp (M.only OW ak) hwf (by simp[maxLen];omega)
 refine⟨W0.heap.size+1,[{target:= .collected W0.heap.size,args:= #[]}],W1,{target:= .fn (.func 293) #[au (aw Bm)],args:= #[.func (.yield (W0.heap.size+1)) #[] #[]]},W1,293,
  #[.func (.yield (W0.heap.size+1)) #[] #[]]++ #[au (aw Bm)],W1,?_,?_,?_,?_,λ_=>h1,?_⟩
 ·rw[<-hW1];exact run_enterLoop_outer _ _ _ _ _
 ·simp[resolve,go_sem]
 ·intro f' hf';simp[Target.leads]at hf';subst hf';exact h66
 ·simp[invoke,go_sem,eg]
 ·refine(Bq (F:=F) (n:=n-1) h66 hro ah (W0.heap.size+1) Bm b m.length D0 (oC w fn (.func (.func 293) #[] #[au (aw Bm)]) w.heap.size (W0.heap.size+1) W0.heap.size)
   (λpre x W hJ hl=>ru (F:=F) (m:=n-1-1) w fn hfn _ w.heap.size (W0.heap.size+1) W0.heap.size ah ah ah (Nat.le_refl _) ah m.length hsz pre x W hJ ah) W1 (lQ _ _ _ _ _ _ _ ah)
   ((A.only OW ak).rd 0) hown hM).mono ?_
  rintro e W2 ⟨⟨v0,rfl⟩,ss,h2,left,hC,hl⟩;obtain⟨p,c,A2,H2⟩:=h2.box;have hend:=run_endLoop (P:=Tryz.prog) h2.L (by simp[dr]);obtain⟨W3,hW3⟩: ∃W3,W2.putObj (W0.heap.size+1) (.loop {dr fn (.func (.func 293) #[] #[au (aw Bm)]) w.heap.size W0.heap.size .ready none with state:= .exhausted})=W3:=⟨_,rfl⟩;rw[hW3]at hend;have O3:aM [W0.heap.size+1] W2.heap W3.heap:=by rw[<-hW3];exact aM.putW _ h2.L rfl rfl
  have S3:bT W2 W3:=by rw[<-hW3];exact⟨rfl,rfl,rfl⟩
  have hnl: ∀b,(∃c,At W2.heap b c)->b∉[W0.heap.size+1]:=λb ⟨c,A⟩ hb=>A.ne_obj h2.L rfl (by simpa using hb);have A3:=A2.only O3 (hnl _ ⟨_,A2⟩);have H3:=H2.onlyC O3 λb _ hc=>hnl b hc;have hK3:W3.heap[W0.heap.size]? =some (.deferred (some [])):=by rw[<-hW3];exact(World.putObj_heap_other ah).trans h2.K
  have hc3:W3.cell? (aw w.heap.size)=some (.slice p ss.length c):=A3.rd 0;have hf3:W3.frozen? (aw w.heap.size)=false:=A3.fz 0 none;clear hW3;refine⟨none,W3,hend,?_⟩
  gi_wp2
  rw[<-hs0];refine⟨ak,.inl ⟨_,_,rfl,run_takeDeferred hK3,?_⟩⟩;have O4:aM [W0.heap.size] W3.heap (W3.putObj W0.heap.size (.deferred none)).heap:=aM.putW _ hK3 rfl rfl;have hF:=H3.onlyC O4 (λb _ hc hb=>by obtain⟨c,A⟩:=hc;exact A.ne_obj hK3 rfl (by simpa using hb));rw[<-hs0]at hF
  exact⟨_,results_tmp rfl _ _ _,p,c,ss,rfl,hC.perm hl hnd hD2,hF,
   (h2.only.trans O3 (by intro b hb hlt;simp at hb;omega)).trans O4 (by intro b hb hlt;simp at hb;omega),(h2.same.trans S3).trans ⟨rfl,rfl,rfl⟩⟩
def appSeq{h:aH}{Bm b:Nat}{m:List (Int×Value)}{K:KK}(A:At h Bm [.map (some b)])(M:bO h b .u32 m)
  (hwf: ∀x∈m.map (·.1),(Lit.int .u32 x).wf=true) (hsz:m.length*4<=140737488355328)
  (hK: ∀(p:az) (c:Nat) (h':aH) (ss:List Int),ss.Perm (m.map (·.1))->cj h' (h.size+1) 1 p ss.length c (ss.map (Value.int .u32))->aM [] h h'->K (.slice p ss.length c) h'):
  Cl 292 [.slice none 0 0,.func (.func 293) #[] #[au (aw Bm)]] h K:=λw hw=>by
 subst hw;refine((callsIn_wide (n:=2)).1 (ms (F:=Fence.wide) (n:=2) trivial trivial rfl ah Bm b m w A M hwf hsz)).mono ?_;rintro e w' ⟨p,c,ss,rfl,h1,h2,h3,h4⟩;exact⟨_,rfl,h4,hK p c _ ss h1 h2 h3⟩
end
section
def GW(h:aH)(q:az)(m:Nat)(new:List Value):Prop:=match q with|some b=>pB h b new|none=>m=0
def cj.weak{h:aH}{lo lo' N:Nat}{p:az}{l c:Nat}{cs:List Value}(H:cj h lo N p l c cs)(hl:lo'<=lo):cj h lo' N p l c cs:=by
 obtain⟨e,H⟩:=H;refine⟨e,?_⟩;rcases H with h|⟨b,sp,h1,h2,h3⟩
 ·exact .inl h
 ·exact .inr ⟨b,sp,h1,ah,h3⟩
def kG{h:aH}{lo by_:Nat}{z:Array Value}{p q:az}{l c m:Nat}{cs new:List Value}{e:TypeId}{K:az->Nat->Nat->aH->Prop}
  (H:cj h lo 1 p l c cs) (hnew:new.length=m) (hq:GW h q m new) (hz:z.size=1) (hcap:(l+m)*by_<=140737488355328) (hv: ∀v∈new,v.oneCell'=true) (hlo:lo<=h.size)
  (hK: ∀p' c' h',cj h' lo 1 p' (l+m) c' (cs++new)->aM (aX p) h h'->(∀b∈aX p',b∈aX p\/h.size<=b)->K p' (l+m) c' h'):
  fB h e 1 by_ z p l c q m K:=by
 obtain⟨hlen,H⟩:=H;refine⟨new,ah,?_,λhle=> ?_,λhlt=>⟨cs,hlen,?_,hcap,λcap hc=> ?_⟩⟩
 ·cases q with
  |none=>exact hq
  |some b=>exact hq
 ·rcases H with⟨rfl,h0,h1⟩|⟨b,sp,rfl,h2,h3,h4,h5⟩
  ·have hm:m=0:=ah;have hn:new=[]:=List.eq_nil_of_length_eq_zero ah;subst hm;refine⟨ah,hK _ _ _ ⟨by simp[hlen,hn],.inl ⟨rfl,ah,h1⟩⟩ (aM.refl _ _) λb hb=> .inl hb⟩
  ·show pd (((aw b):Addr).add (l*1)) 0 new h _;rw[aL,Nat.zero_add];have hsp:m<=sp.length:=ah;refine jB new 0 _ h h5 (by simp;omega) hv λh' A' O' z'=>hK _ _ h' ⟨by simp;omega,Or.inr ⟨b,sp.drop m,rfl,h2,hle,?_,?_⟩⟩ O' λx hx=>Or.inl hx
   ·rw[List.length_drop,h4];omega
   ·rw[Nat.add_zero,<-hlen,List.take_left,hnew,List.drop_append,List.drop_eq_nil_of_le (by omega:cs.length<=cs.length+m)]at A';simpa using A'
 ·rcases H with⟨e,h0,-⟩|⟨b,sp,rfl,-,-,-,h5⟩
  ·subst e;exact h0
  ·exact fA h5 λj v hj=>by rw[Nat.zero_add,List.getElem?_append_left (List.getElem?_eq_some_iff.1 hj).1];exact hj
 ·refine hK _ _ _ ⟨by simp;omega,Or.inr ⟨h.size,(Builtin.zeroCells z (cap-(l+m))).toList,rfl,hlo,hc,by rw[eK,hz],?_⟩⟩ ((aM.push_cells h _ e).mono ak) λx hx=>Or.inr ?_
  ·have:=At.push h (cs.toArray++new.toArray++Builtin.zeroCells z (cap-(l+m))) e;simpa using this
  ·simp[aX]at hx;omega
def cj.row{h:aH}{lo:Nat}{p:az}{l c:Nat}{cs:List Value}(H:cj h lo 1 p l c cs):GW h p l cs:=by
 obtain⟨e,H⟩:=H;rcases H with⟨rfl,h0,-⟩|⟨b,sp,rfl,-,-,-,h5⟩
 ·exact h0
 ·exact fA h5 λj v hj=>by rw[Nat.zero_add,List.getElem?_append_left (List.getElem?_eq_some_iff.1 hj).1];exact hj
def w9(k:IntKind)(xs:List Int):xs.map (Value.int k)=co xs.length λi=> .int k (xs.getD i 0):=by
 apply List.ext_getElem?;intro i;by_cases hi:i<xs.length
 ·rw[cF hi];simp[List.getD,hi]
 ·rw[List.getElem?_eq_none (by simpa using Nat.le_of_not_lt hi),List.getElem?_eq_none (by rw[bJ];omega)]
def yO(xs:List Int):(List.range xs.length).map (λi=>xs.getD i 0)=xs:=by
 apply List.ext_getElem?;intro i;by_cases hi:i<xs.length
 ·simp[hi,List.getD]
 ·rw[List.getElem?_eq_none (by simpa using Nat.le_of_not_lt hi),List.getElem?_eq_none ah]
def AZ(k:IntKind)(n:Nat)(g:Nat->Int):co n (λi=>Value.int k (g i))=((List.range n).map g).map (Value.int k):=by
 unfold co;rw[List.map_map]
 rfl
def iV(L:Nat->List Int)(i:Nat):List Int:=(List.range i).flatMap L
def mF(L:Nat->List Int)(i:Nat):iV L (i+1)=iV L i++L i:=by simp[iV,List.range_succ]
def AF{L:Nat->List Int}{i:Nat}{x:Int}:x∈iV L i↔ ∃k,k<i/\x∈L k:=by simp[iV]
def oH{L:Nat->List Int}{N:Nat}: ∀(i:Nat),(∀k,k<i->(L k).length<=N)->(iV L i).length<=i*N:=by
 intro i
 induction i with
 |zero=>intro _;simp[iV]
 |succ i ih=>
  intro h;rw[mF,List.length_append,Nat.add_mul];have:=ih λk hk=>h k ah;have:=h i ah;omega
def IJ{h:aH}{lo:Nat}{p:az}{c:Nat}{xs:List Int}{K:KK}(H:cj h lo 1 p xs.length c (xs.map (Value.int .u32)))(hn12:xs.length<=12)
  (hK: ∀h' (p':az) c' (R:List Int),R.Pairwise (· < ·)->(∀x,x∈R↔1<x/\x∈xs)->cj h' lo 1 p' R.length c' (R.map (Value.int .u32))->aM (aX p) h h'->aX p'=aX p->K (.slice p' R.length c') h'):
  Cl 260 [.slice p xs.length c] h λv1 h2=>(v1=aE/\Cl 261 [(.slice p xs.length c)] h2 (λv3 h4=>cv (some v3) (λp5 l6 c7=>Cl 262 [(.slice p5 l6 c7),(.func (.func 263) #[] #[])] h4 (λv8 h9=>cv (some v8) (λp10 l11 c12=>K (.slice p10 l11 c12) h9))))):=by
 have hn:xs.length<=LB/4:=by unfold LB;omega
 rcases H.2 with⟨rfl,h0,h1⟩|⟨b,sp,rfl,h2,h3,h4,h5⟩
 ·have hx:xs=[]:=List.eq_nil_of_length_eq_zero h0;subst hx;refine vA ⟨rfl,yh ?_⟩;rw[bV];refine za ?_;rw[bV];exact hK h none c [] List.Pairwise.nil (λx=>ak) ⟨rfl,.inl ⟨rfl,rfl,h1⟩⟩ (aM.refl _ _) rfl
 ·have A:fW .u32 h b xs.length (λi=>xs.getD i 0) sp:=by
   unfold fW;rw[<-w9];exact h5
  refine BI A hn12 λh1 g1 A1 R1 S1 O1=>⟨rfl,?_⟩;refine HB A1 h3 hn R1 λh2' k g2 sp2 A2 hl2 hk2 up fw bw O2=> ?_;rw[bV];refine Hd A2 ah ah λh3' k3 g3 sp3 A3 hl3 hk3 e3 O3=> ?_;rw[bV];have hR:((List.range k3).map g3).length=k3:=ak;have:=hK h3' (some (aw b)) c ((List.range k3).map g3) ?_ (λx=> ?_) ?_ ((O1.trans O2 (by simp[aX])).trans O3 (by simp[aX])) rfl
  ·rw[hR]at this;exact this
  ·rw[e3];refine List.Pairwise.filter _ ?_;rw[List.pairwise_map];exact(List.pairwise_lt_range (n:=k)).imp_of_mem λ{p q} _ hq hpq=>up p q hpq (List.mem_range.1 hq)
  ·rw[e3,List.mem_filter];have P:=S1.perm (n:=xs.length) (Nat.le_refl _);rw[yO]at P
   have:x∈(List.range k).map g2↔x∈xs:=by
    rw[<-P.mem_iff];simp only[List.mem_map,List.mem_range];constructor
    ·rintro ⟨p,hp,rfl⟩;obtain⟨q,hq,e⟩:=fw p hp;exact⟨q,hq,e.symm⟩
    ·rintro ⟨q,hq,rfl⟩;obtain⟨p,hp,e⟩:=bw q hq;exact⟨p,hp,e⟩
   rw[this];simp only[wK,decide_eq_true_eq];exact⟨λ⟨a,b⟩=>⟨b,a⟩,λ⟨a,b⟩=>⟨b,a⟩⟩
  ·rw[hR];refine⟨ak,.inr ⟨b,sp3,rfl,h2,ah,ah,?_⟩⟩;rw[<-AZ];exact A3
section
variable {lo:Nat}{h h':aH}{r M S W N:Nat}{f:Int->Int}{p:Nat->az}{c:Nat->Nat}{L:Nat->List Int}{K:KK}
def FU{h:aH}{M:Nat}{K:KK}(hK: ∀h1,At h1 h.size [.map (some M)]->aM [] h h1->h1.size=h.size+1->K (.func (.func 293) #[] #[au (aw h.size)]) h1):
  Cl 259 [.map (some M)] h K:=by
 refine F259.spec _ h _ ?_;refine aV λh1 A1 O1 z1=>hK h1 A1 O1 z1
def ES{B:Nat}(H:Rf lo h r M S W N f p c L)(A:At h B [.map (some M)])(hN:N<=LB/64){K:KK}
  (hK: ∀(p:az) (c:Nat) (h':aH) (ks:List Int),ks.Nodup->(∀x,x∈ks↔f x≠0)->ks.length<=N->cj h' h.size 1 p ks.length c (ks.map (Value.int .u32))->aM [] h h'->K (.slice p ks.length c) h'):
  Cl 258 [.func (.func 293) #[] #[au (aw B)]] h K:=by
 have hLB:LB=140737488355328:=rfl;refine F258.spec ?_;obtain⟨m,a,b,d⟩:=H.Mm
 have hmem: ∀x,x∈m.map (·.1)↔f x≠0:=λx=>by
  have h2:=b x;by_cases h0:f x=0
  ·rw[if_pos h0,cr]at h2;exact⟨λh=>absurd h h2,λh=>absurd h0 h⟩
  ·rw[if_neg h0]at h2;refine⟨λ_=>h0,λ_=> ?_⟩;apply Classical.byContradiction;intro hn;rw[cr.2 hn]at h2;cases h2
 refine appSeq A a (λx hx=> ?_) ah λp c h2 ss hp Ow O2=> ?_
 ·have:=H.fx x ((hmem x).1 hx);simp only[Lit.wf,decide_eq_true_eq,Bool.and_eq_true];exact⟨this.1,this.2⟩
 ·rw[bV];have nd:(m.map (·.1)).Nodup:=by obtain⟨_,_,_,_,h,_⟩:=a;exact h
  exact hK p c h2 ss (hp.nodup_iff.2 nd) (λx=>by rw[hp.mem_iff];exact hmem x) (by rw[hp.length_eq];simpa using d) (Ow.weak ah) O2
def wy(H:Rf lo h r M S W N f p c L)(hN:N<=LB/64)(hW:W<=4)(few: ∀ks:List Int,ks.Nodup->(∀x,x∈ks↔f x≠0)->ks.length+(iV L W).length<=12)
  (hK: ∀h' (p':az) c' (R:List Int),R.Pairwise (· < ·)->(∀x,x∈R↔1<x/\(f x≠0\/ ∃k,k<W/\x∈L k))->cj h' h.size 1 p' R.length c' (R.map (Value.int .u32))->aM [] h h'->K (.slice p' R.length c') h'):
  Cl 213 [au (aw r)] h K:=by
 refine F213.spec _ h K ?_;have hLB:LB=140737488355328:=rfl;rw[aL,H.rd0,gq];refine FU λhB AB OB zB=> ?_;rw[eS];refine ES (H.new OB) AB hN λpk ck h1 ks nd hks hkn Ow1 O1=> ?_
 replace Ow1:=Ow1.weak (lo':=h.size) ah
 replace O1:=OB.trans O1 ak
 rw[bV,aL,show rd h1 ⟨r,0+1,none⟩=some (.slice (some (aw S)) W W)from(H.new O1).rd1,bV];unfold F213.wk3
 have main: ∀(d i:Nat) (q:az) (cq:Nat) (h2:aH),i+d=W->cj h2 h.size 1 q (ks++iV L i).length cq ((ks++iV L i).map (Value.int .u32))->aM [] h h2->
   F213.wL3 (d+1) q (ks++iV L i).length cq (some (aw S)) W W W i h2 K:=by
  intro d
  induction d with
  |zero=>
   intro i q cq h2 hd Ow O;rw[F213.sL3];rw[show decide ((i:Int)<(W:Int))=false by simp;omega,aJ];unfold F213.wk7;have hi:i=W:=ah;subst hi;have hl:=oH (L:=L) (N:=N) i H.len;have:i*N<=4*N:=Nat.mul_le_mul_right _ hW;refine IJ Ow (by rw[List.length_append];exact few ks nd hks) λh3 p3 c3 R hR hm Ow3 O3 _=> ?_;refine hK h3 p3 c3 R hR (λx=> ?_) Ow3 (O.trans O3 λb hb hlt=> ?_)
   ·rw[hm x,List.mem_append,hks,AF]
   ·have:=Ow.lt b hb;omega
  |succ d ih=>
   intro i q cq h2 hd Ow O;rw[F213.sL3];rw[show decide ((i:Int)<(W:Int))=true by simp;omega,aO,aU];refine⟨ah,ah,?_⟩;have H2:=H.new O;rw[aL,show 0+Int.toNat (i:Int)*1=i by omega,H2.rdT ah,bV,show ax ((i:Int)+1)=((i+1:Nat):Int) by rw[fI ah ah];omega];have Owi:=H2.own i ah;have hl:=oH (L:=L) (N:=N) i λk hk=>H.len k ah;have:i*N<=4*N:=Nat.mul_le_mul_right _ ah;have hli:=H.len i ah;have hs:=O.size;refine kG (new:=(L i).map (Value.int .u32)) Ow ak Owi.row rfl (by rw[List.length_append];omega) (by simp[Value.oneCell']) hs λp' c' h3 Ow3 O3 hp3=> ?_;have e:(ks++iV L i).length+(L i).length=(ks++iV L (i+1)).length:=by rw[mF];simp;omega
   have e2:(ks++iV L i).map (Value.int .u32)++(L i).map (Value.int .u32)=(ks++iV L (i+1)).map (Value.int .u32):=by rw[mF];simp
   rw[e,e2]at Ow3;rw[e];exact ih (i+1) p' c' h3 ah Ow3 (O.trans O3 λb hb hlt=>by have:=Ow.lt b hb;omega)
 have e0:ks=ks++iV L 0:=by simp[iV]
 refine⟨W+1,?_⟩;have:=main W 0 pk ck h1 ah (by rw[<-e0];exact Ow1) O1;rw[<-e0]at this;exact this
end
end
section
abbrev hv(a:Nat):Value:=ap (a:Int)
def cj.pop{h:aH}{lo:Nat}{p:az}{l c:Nat}{cs:List Value}{v:Value}(H:cj h lo 1 p (l+1) c (cs++[v])):cj h lo 1 p l c cs:=by
 obtain⟨e,H⟩:=H;rw[List.length_append,List.length_singleton]at e;refine⟨ah,?_⟩;rcases H with⟨-,h0,-⟩|⟨b,sp,h1,h2,h3,h4,h5⟩
 ·omega
 ·exact .inr ⟨b,v::sp,h1,h2,ah,by simp;omega,by simpa using h5⟩
def cj.none_nil{h:aH}{lo N:Nat}{l c:Nat}{cs:List Value}(H:cj h lo N none l c cs):l=0/\cs=[]:=by
 obtain⟨e,H⟩:=H;rcases H with⟨-,h0,-⟩|⟨b,sp,h1,-⟩
 ·subst h0;exact⟨rfl,List.eq_nil_of_length_eq_zero ah⟩
 ·cases h1
def zZ{h:aH}{lo:Nat}{p:az}{l c:Nat}{cs:List Value}{K:KK}(H:cj h lo 1 p l c cs)(hv: ∀v∈cs,v.oneCell'=true)(hl:l<=1000000)
  (hK: ∀p' c' h',cj h' h.size 1 p' l c' cs->aM [] h h'->K (.slice p' l c') h'):Cl 299 [.slice p l c] h K:=by
 apply F299.spec;refine aT (λg=> ?_) λg=> ?_
 ·obtain rfl:p=none:=by simpa using g
  obtain⟨rfl,rfl⟩:=H.none_nil;exact hK none 0 h (cj.nil _ _ _) (aM.refl _ _)
 ·refine aV λh1 A1 O1 z1=> ?_;have B:cj h1 h.size 1 (some (aw h.size)) 0 0 []:=⟨rfl,.inr ⟨h.size,[],rfl,Nat.le_refl _,Nat.le_refl _,rfl,A1⟩⟩;have HH:=H.only O1 ak;have hlen:cs.length=l:=by have:=H.1;omega
  refine kG (new:=cs) B hlen HH.row rfl ah hv ah λp' c' h2 W2 O2 hb2=> ?_;rw[Nat.zero_add]at W2 ⊢;rw[List.nil_append]at W2;exact hK p' c' h2 W2 (O1.trans O2 (by intro b hb hl;simp[aX]at hb;omega))
def EZ(keep:Nat->Bool)(N:ay):Nat:=be (bP (λa=> !keep a) N)
def fd(keep:Nat->Bool)(k a:Nat):Bool:=keep a||a==k
def CY{keep:Nat->Bool}{N:ay}{k:Nat}{x:Nd}(h2:2<=k)(hx:nd N (k-2)=some x)(hk:keep k=false):EZ (fd keep k) N+1=EZ keep N:=by
 have hi:N[k-2]? =some (some x):=cO.1 hx;have hl:=(List.getElem?_eq_some_iff.1 hi).1
 have e:bP (λa=> !fd keep k a) N=(bP (λa=> !keep a) N).set (k-2) none:=by
  apply List.ext_getElem?;intro i;rw[List.getElem?_set];split
  ·rename_i e;subst e
   have e1:(!fd keep k (k-2+2))=false:=by unfold fd;rw[show k-2+2=k by omega];simp
   rw[eQ hi,e1,if_neg ak,if_pos (by rw[fN];exact hl)]
  ·rename_i e;cases h:N[i]? with
   |none=>rw[List.getElem?_eq_none,List.getElem?_eq_none]<;>rw[fN]<;>exact List.getElem?_eq_none_iff.1 h
   |some o=>
    rw[eQ h,eQ h];have:(i+2==k)=false:=by simp;omega
    simp[fd,this]
 unfold EZ;rw[e];refine my (x:=x) ?_;rw[eQ hi];simp[show k-2+2=k by omega,hk]
structure Mk(N:ay)(rs:List Nat)(keep:Nat->Bool)(left:List Nat):Prop where
 is: ∀a,keep a=true->2<=a/\isN N a
 li: ∀a∈left,isN N a
 cl: ∀i x,nd N i=some x->keep (i+2)=true->(x.2.1<2\/keep x.2.1=true\/x.2.1∈left)/\(x.2.2<2\/keep x.2.2=true\/x.2.2∈left)
 ro: ∀r∈rs,r<2\/keep r=true\/r∈left
 mi: ∀P:Nat->Prop,(∀r∈rs,P r)->(∀i x,nd N i=some x->P (i+2)->P x.2.1/\P x.2.2)->(∀a,keep a=true->P a)/\ ∀a∈left,P a
def Mk.start{N:ay}{rs:List Nat}(h: ∀r∈rs,isN N r):Mk N rs (λ_=>false) rs:=
 ⟨λa h=>(by cases h),h,λi x _ h=>(by cases h),λr hr=> .inr (.inr hr),λP h1 _=>⟨λa h=>(by cases h),h1⟩⟩
def Mk.skip{N:ay}{rs:List Nat}{keep:Nat->Bool}{left:List Nat}{a:Nat}(M:Mk N rs keep (left++[a]))(ha:a<2\/keep a=true):Mk N rs keep left:=by
 have w: ∀b,b<2\/keep b=true\/b∈left++[a]->b<2\/keep b=true\/b∈left:=λb hb=>by
  rcases hb with q|q|q
  ·exact .inl q
  ·exact .inr (.inl q)
  ·rcases List.mem_append.1 q with q|q
   ·exact .inr (.inr q)
   ·simp at q;subst q;rcases ha with z|z
    ·exact .inl z
    ·exact .inr (.inl z)
 exact⟨M.is,λb hb=>M.li b (by simp[hb]),λi x hx hk=>⟨w _ (M.cl i x hx hk).1,w _ (M.cl i x hx hk).2⟩,λr hr=>w _ (M.ro r hr),λP h1 h2=>⟨(M.mi P h1 h2).1,λb hb=>(M.mi P h1 h2).2 b (by simp[hb])⟩⟩
def Mk.step{n:Nat}{N:ay}{rs:List Nat}{keep:Nat->Bool}{left:List Nat}{a:Nat}(H:dz n N)(M:Mk N rs keep (left++[a]))(h2:2<=a):Mk N rs (fd keep a) (left++[low N a,high N a]):=by
 have ia:isN N a:=M.li a ak
 obtain⟨x,hx⟩: ∃x,nd N (a-2)=some x:=by
  rcases ia with q|q
  ·omega
  ·exact q
 have el:low N a=x.2.1:=by unfold low;rw[if_neg ah,hx]
 have eh:high N a=x.2.2:=by unfold high;rw[if_neg ah,hx]
 obtain⟨-,n1,n2,-⟩:=H.node _ x hx
 have w: ∀b,b<2\/keep b=true\/b∈left++[a]->b<2\/fd keep a b=true\/b∈left++[low N a,high N a]:=λb hb=>by
  rcases hb with q|q|q
  ·exact .inl q
  ·exact .inr (.inl (by simp[fd,q]))
  ·rcases List.mem_append.1 q with q|q
   ·exact .inr (.inr (by simp[q]))
   ·simp at q;exact .inr (.inl (by simp[fd,q]))
 refine⟨λb hb=> ?_,λb hb=> ?_,λi y hy hk=> ?_,λr hr=>w _ (M.ro r hr),λP p1 p2=> ?_⟩
 ·unfold fd at hb;rw[Bool.or_eq_true]at hb;rcases hb with q|q
  ·exact M.is b q
  ·have:b=a:=by simpa using q
   rw[this];exact⟨h2,ia⟩
 ·rcases List.mem_append.1 hb with q|q
  ·exact M.li b (by simp[q])
  ·simp at q;rcases q with q|q
   ·rw[q,el];exact n1
   ·rw[q,eh];exact n2
 ·unfold fd at hk;rw[Bool.or_eq_true]at hk;rcases hk with q|q
  ·exact⟨w _ (M.cl i y hy q).1,w _ (M.cl i y hy q).2⟩
  ·have:i+2=a:=by simpa using q
   have:i=a-2:=ah;subst this;rw[hx]at hy;injection hy with hy;subst hy;exact⟨.inr (.inr (by simp[el])),.inr (.inr (by simp[eh]))⟩
 ·obtain⟨m1,m2⟩:=M.mi P p1 p2;have pa:=m2 a ak;have:=p2 (a-2) x hx (by rw[show a-2+2=a by omega];exact pa);refine⟨λb hb=> ?_,λb hb=> ?_⟩
  ·unfold fd at hb;rw[Bool.or_eq_true]at hb;rcases hb with q|q
   ·exact m1 b q
   ·have:b=a:=by simpa using q
    rw[this];exact pa
  ·rcases List.mem_append.1 hb with q|q
   ·exact m2 b (by simp[q])
   ·simp at q;rcases q with q|q
    ·rw[q,el];exact this.1
    ·rw[q,eh];exact this.2
def Cf.add{mo:List (Int×Value)}{keep:Nat->Bool}{k:Nat}(H:Cf mo keep):Cf (ig mo (k:Int) (.agg #[])) (fd keep k):=λa=>by
 have e:(a==k)=decide ((a:Int)=(k:Int)):=by
  by_cases h:a=k
  ·simp[h]
  ·rw[decide_eq_false ah];simpa using h
 unfold fd;rw[bX,e];by_cases h:(a:Int)=(k:Int)
 ·rw[if_pos h,decide_eq_true h,Bool.or_true];exact⟨λ_=>rfl,λh=>by cases h⟩
 ·rw[if_neg h,decide_eq_false h,Bool.or_false];exact H a
end
section
section
variable {h:aH}{s:Nat}{L:List Nat}{X:SX}{K:KK}
set_option maxRecDepth 100000 in
def zY{lo:Nat}{p:az}{c:Nat}{rs:List Nat}(H:cI h s L X)(Hr:cj h lo 1 p rs.length c (rs.map hv))(hr: ∀r∈rs,isN X.N r)(hl:rs.length<=100000)
  (hK: ∀h' mb mo keep,bO h' mb .u32 mo->Cf mo keep->h.size<=mb->Mk X.N rs keep []->aM [] h h'->K (.tuple #[.map (some mb),al 0]) h'):
  Cl 267 [au (aw s),.slice p rs.length c] h K:=by
 apply F267.spec;refine fi (k:= .u32) λh1 M1 O1 z1=> ?_;unfold F267.wk3;have H1:=H.only0 O1;have Hr1:=Hr.only O1 ak;have nr: ∀r∈rs,r<32770:=λr hr'=>H.isN_lt (hr r hr');have ok:=H.ok;have lL:=H.lt
 have second: ∀(d:Nat) (h':aH) (mo:List (Int×Value)) (keep:Nat->Bool) (left:List Nat) (q:az) (qc:Nat),3*EZ keep X.N+left.length<d->Mk X.N rs keep left->Cf mo keep->bO h' h.size .u32 mo->
   cj h' h1.size 1 q left.length qc (left.map hv)->aM [] h h'->2*EZ keep X.N+left.length<=170000->F267.wL10 d (aw s) (some h.size) q left.length qc h' K:=by
  intro d
  induction d with
  |zero=>intro h' mo keep left q qc hd;omega
  |succ d ih=>
   intro h' mo keep left q qc hd Mk Kp Mm Ow O cap;rw[F267.sL10];rcases List.eq_nil_or_concat left with e|⟨l0,a,e⟩
   ·subst e;rw[decide_eq_false ak,aJ];exact hK h' h.size mo keep Mm Kp (Nat.le_refl _) Mk O
   ·rw[List.concat_eq_append]at e;subst e;have el:(l0++[a]).length=l0.length+1:=ak;rw[el]at Ow hd cap ⊢;have em:(l0++[a]).map hv=l0.map hv++[hv a]:=ak;rw[em]at Ow;rw[decide_eq_true ah,aO];obtain⟨b,eb,rr⟩:=Ow.rd (j:=l0.length) ak;have w1:ax (((l0.length+1:Nat):Int)-1)=(l0.length:Int):=by rw[wrap_i64 ah ah];omega
    have cap1:l0.length+1<=qc:=by
     rcases Ow.2 with⟨e,-⟩|⟨_,_,_,_,h3,_⟩
     ·rw[eb]at e;cases e
     ·exact h3
    rw[eb,aU];simp only[w1,aL,Nat.zero_add];refine⟨ah,ah,?_⟩;have ia:=Mk.li a ak;have ha:=H.isN_lt ia;refine aI (n:=(a:Int)) (by rw[show Int.toNat (l0.length:Int)*1=l0.length by omega,rr];simp) ⟨ah,ah,?_⟩;rw[<-eb,oL,Nat.sub_zero,Nat.sub_zero,Int.toNat_natCast];have Ow0:=Ow.pop
    have tail: ∀(o:Option (Nat×Value)),o.isSome=keep a->(kE (.agg #[]) o= .agg #[])-> ∀KK:aH->Prop,(∀k6,aM [] h' k6->aK (keep a) (F267.wL10 d (aw s) (some h.size) q l0.length qc k6 K) (aK (decide ((a:Int)<=1)) (F267.wL10 d (aw s) (some h.size) q l0.length qc k6 K) (KK k6)))->
      lI (some (kE (.agg #[]) o)) (λv4=>a9 h' (.cells #[] 218) (λb5 h6=>dF Tryz.prog 218 (some (aw b5)) v4 h6 (λh7=>aK (Option.isSome o) (F267.wL10 d (aw s) (some h.size) q l0.length qc h7 K) (aK (decide ((a:Int)<=1)) (F267.wL10 d (aw s) (some h.size) q l0.length qc h7 K) (KK h7))))):=by
     intro o e1 e2 KK hk;rw[e2];refine⟨_,rfl,aV λk6 B6 P6 y6=>ja ?_⟩;rw[e1];exact hk k6 P6
    have body: ∀k6,aM [] h' k6->aK (keep a) (F267.wL10 d (aw s) (some h.size) q l0.length qc k6 K) (aK (decide ((a:Int)<=1)) (F267.wL10 d (aw s) (some h.size) q l0.length qc k6 K) (F267.wk15 (λx0 x6 x9p x9l x9c h=>F267.wL10 d x0 x6 x9p x9l x9c h K) (aw s) (some h.size) q l0.length qc (a:Int) k6 K)):=by
     intro k6 P6;have O6:=O.trans P6 ak;have z6:=P6.size;have zO:=O.size
     have go:a<2\/keep a=true->F267.wL10 d (aw s) (some h.size) q l0.length qc k6 K:=λhs=>
      ih k6 mo keep l0 q qc ah (Mk.skip hs) Kp (Mm.only P6 ak) (Ow0.only P6 ak) O6 ah
     cases hka:keep a with
     |true=>exact go (.inr hka)
     |false=>
      rw[aJ];refine aT (λg=>go (.inl (by have:=of_decide_eq_true g;omega))) λg=> ?_;have g: ¬(a:Int)<=1:=of_decide_eq_false g;have h2:2<=a:=ah
      obtain⟨x,hx⟩: ∃x,nd X.N (a-2)=some x:=by
       rcases ia with q|q
       ·omega
       ·exact q
      have hu:=CY h2 hx hka;unfold F267.wk15;refine ft (Mm.only P6 ak) λh7 M7 O7 z7=> ?_;have O67:aM [] h h7:=O6.trans O7 (by intro b hb hl;simp at hb;omega);have H7:=H.only0 O67;refine iB H7 ia (aI rfl (gp H7 ia (aI rfl ?_)));refine aV λh8 A8 O8 z8=> ?_
      have nb: ∀b,q=some (aw b)->b∉[h.size]:=λb e hm=>by have:=Ow.lt b (by rw[e];simp[aX]);simp at hm;omega
      have Ow8:=((Ow0.only P6 ak).only O7 nb).only O8 ak;refine kG (new:=[hv (low X.N a),hv (high X.N a)]) (q:=some (aw h7.size)) Ow8 rfl (fA A8 ak) rfl ah (by simp[Value.oneCell']) ah λp' c' h9 W9 O9 hb9=> ?_;have e9:l0.map hv++[hv (low X.N a),hv (high X.N a)]=(l0++[low X.N a,high X.N a]).map hv:=ak;have e10:l0.length+2=(l0++[low X.N a,high X.N a]).length:=ak;rw[e9,e10]at W9;rw[e10];have lq: ∀b∈aX q,h1.size<=b:=λb hb=>(Ow.lt b hb).1;refine ih h9 _ (fd keep a) _ p' c' (by simp;omega) (Mk.step ok.1 h2) Kp.add ((M7.only O8 ak).only O9 λhm=>by have:=lq _ hm;omega) W9 ((O67.trans O8 ak).trans O9 λb hb hl=>by have:=lq b hb;omega) (by simp;omega)
    refine dt (m:=mo) Mm (λhn=> ?_) λj v hv'=> ?_
    ·have k0:keep a=false:=by
      cases hk:keep a with
      |false=>rfl
      |true=>
       rw[(Kp a).1 hk]at hn;cases hn
     exact tail none (by rw[k0];rfl) rfl _ body
    ·have k1:keep a=true:=by
      cases hk:keep a with
      |true=>rfl
      |false=>
       rw[(Kp a).2 hk]at hv';cases hv'
     rw[(Kp a).1 k1]at hv';injection hv' with hv';subst hv';exact tail (some (j,.agg #[])) (by rw[k1];rfl) rfl _ body
 have first: ∀(d i:Nat),i+d=rs.length->F267.wL3 (d+1) (aw s) p rs.length c (some h.size) p rs.length c (rs.length:Int) (i:Int) h1 K:=by
  intro d
  induction d with
  |zero=>
   intro i hi;rw[F267.sL3];rw[decide_eq_false ah,aJ];unfold F267.wk9;refine zZ Hr1 (by simp[Value.oneCell']) ah λp' c' h2 W2 O2=>bo rfl ?_;unfold F267.wk10
   have hu:EZ (λ_=>false) X.N<=X.N.length:=by have:EZ (λ_=>false) X.N<=(bP (λa=> !(λ_=>false) a) X.N).length:=lE _;rw[fN]at this;exact this
   exact⟨_,second _ h2 [] (λ_=>false) rs p' c' (Nat.lt_succ_self _) (Mk.start hr) (λk=>⟨λh=>(by cases h),λ_=>rfl⟩) (M1.only O2 ak) W2 (O1.trans O2 ak) ah⟩
  |succ d ih=>
   intro i hi;rw[F267.sL3];rw[decide_eq_true ah,aO];obtain⟨b,eb,rr⟩:=Hr1.rd (j:=i) (by simp;omega);rw[eb,aU,<-eb];refine⟨ah,ah,?_⟩;rw[aL,Nat.zero_add,show Int.toNat (i:Int)*1=i by omega,rr];obtain⟨a,ha⟩: ∃a,rs[i]? =some a:=⟨_,List.getElem?_eq_getElem ah⟩;have hm:=List.mem_of_getElem? ha;refine aI (n:=(a:Int)) (by simp[ha]) (fk H1 (hr a hm) (aY rfl ?_));rw[Bool.not_true,aJ,show ax ((i:Int)+1)=((i+1:Nat):Int) by rw[wrap_i64 ah ah];omega];exact ih (i+1) ah
 exact⟨_,first rs.length 0 ah⟩
def kr(Q':(Nat->Bool)->Int->Int->Prop){lo:Nat}{p:az}{c:Nat}{rs:List Nat}(H:cI h s L X)(Hr:cj h lo 1 p rs.length c (rs.map hv))(hr: ∀r∈rs,isN X.N r)(hl:rs.length<=100000)
  (hK: ∀h' L' gone keep,Mk X.N rs keep []->cI h' s L' {X with N:=bP keep X.N,Q:=Q' keep}->aM L h h'->bH L L' h->K (.tuple #[al gone,al 0]) h'):
  Cl 218 [au (aw s),.slice p rs.length c] h K:=by
 apply F218.spec;refine zY H Hr hr hl λh1 mb mo keep M1 Kp gm M O1=>⟨_,_,rfl,?_⟩;rw[show((0:Int) !=0)=false from rfl,aJ]
 have cl: ∀i x,nd X.N i=some x->keep (i+2)=true->(x.2.1<2\/keep x.2.1=true)/\(x.2.2<2\/keep x.2.2=true):=λi x hx hk=>by have:=M.cl i x hx hk;simpa using this
 have z1:=O1.size;refine vQ (Q' keep) (H.only0 O1) M1 Kp (λhm=>by have:=H.lt mb hm;omega) cl λh2 L2 gone S2 O2 F2=>aI rfl ?_
 exact hK h2 L2 gone keep M S2 ((O1.mono ak).trans O2 λb hb _=>hb) λb hb=>by
  rcases F2 b hb with q|q
  ·exact .inl q
  ·exact .inr ah
end
end
namespace IN
open Go Go.RowKit Go.Maps
def uI3:Tryz.prog.underlying 3=some (.int .i64):=by kernel_rfl
def u154:Tryz.prog.underlying 154=some (.map 3 167):=by kernel_rfl
def u84:Tryz.prog.underlying 84=some (.slice 3):=by kernel_rfl
set_option maxRecDepth 100000 in
set_option maxHeartbeats 2000000 in
def Bq{F:Fence}{n:Nat}(h66:F.fn 266)(hro:F.round=none)(hn:1<=n)(l Bm b nn:Nat)(D0:DataW Unit)(J:List Int->World->Prop)
  (hY: ∀pre x W,J pre W->pre.length<Maps.size D0->YieldAt F (n-1) Tryz.prog l #[al x] W λe W'=>e= .returned aC/\J (pre++[x]) W'/\KeepsWalks W W')
  (W:World) (hJ:oe W.heap.size J) (hm:W.cell? (aw Bm)=some (.map (some b))) (hown:W.ownsMap Tryz.prog 3 jX b nn D0) (h0:J [] W):
  CallsIn F n Tryz.prog 266 #[.func (.yield l) #[] #[],au (aw Bm)] W λe W'=>(∃v,e= .returned v)/\ ∃ss:List Int,J ss W'/\ ∃left,ib .i64 D0 left ss/\ ∀kl,left kl=false:=by
 refine callsIn_of_wp Tryz.func266 rfl h66 ?_ hro;simp only[Tryz.ntmps266,List.size_toArray,List.length_cons,List.length_nil,Nat.reduceAdd,Nat.reduceSub,Array.replicate_succ,Array.replicate_zero,List.push_toArray,List.append_toArray,List.nil_append,List.cons_append]
 gi_wp2_with (first
  |(gi_at_range;refine wpListIn_range_own _ rfl _ 154 rfl 3 167 (int_keyed uI3) u154 _ b nn _ rfl hown ?_;intro w0 hrg0 hg0 hs0)
  |gi_in)
 go_frame
 gi_loopw [3] (λ_ wr=> ∃(left:Lit->Bool) (cnt:Nat) (ss:List Int),wr.ranges Tryz.prog 3 jX b W.heap.size nn D0 left cnt/\ss.length+cnt<=Maps.size D0/\ib .i64 D0 left ss/\J ss wr)
  (λ_ wr=>wr.rangeLeft b W.heap.size)
 case atStart=>
  have hf0:su W w0:=by obtain⟨es,clock,since,seen,c0,_,_,_,_,hr,_⟩:=hrg0;exact su.one (r:=W.heap.size) (o:= .mapIter none 0 #[] 0) (λk hk _=>hg0.block k hk ak) (.inr rfl) (λ_=>rfl) hr rfl ah
  exact⟨_,_,[],hrg0,ak,ib.start .i64 D0,hJ [] W w0 none h0 hg0 hf0 (λr e=>by cases e)⟩
 case round=>
  obtain⟨left,cnt,ss,hrg,hcs,hC,hJs⟩:=hrel
  gi_wp2_with (first
   |(gi_at_next;refine wpListIn_next_ranges _ rfl _ rfl 3 (int_keyed uI3) jX (Value.int .i64) (λv:Value=>v) (λkey kl hk=>by obtain⟨x,hx,_⟩:=Maps.keyOf_int_inv uI3 hk;exact⟨x,hx⟩) (λv y hv=>⟨v,rfl⟩) b W.heap.size nn _ _ _ rfl hrg ?_ ?_)
   |gi_in)
  ·intro hc0 hl0
   gi_wp2
   go_end0
   exact⟨⟨_,rfl⟩,ss,hJs,left,hC,hl0⟩
  ·intro x c kl yd yp w2 cnt2 hkey hlk hv hat hrg2 hlt hg2 hs2 hen;obtain⟨x',ex,rfl,_⟩:=Maps.keyOf_int_inv uI3 hkey;cases ex
   have hf2:su wr w2:=by obtain⟨es,clock,since,seen,c0,_,_,_,_,hr,_⟩:=hrg;obtain⟨es',clock',since',seen',c0',_,_,_,_,hr',_⟩:=hrg2;exact su.one (r:=W.heap.size) (o:= .mapIter (some b) since seen c0) (λk hk hne=>hg2.block k hk (by simpa using hne)) (.inl hr) (λ_=>rfl) hr' rfl ah
   have hJ2:J ss w2:=hJ ss wr w2 (some W.heap.size) hJs hg2 hf2 (λr e=>by cases e;exact⟨Nat.le_refl _,hrg.iter_walk⟩);obtain⟨fn,tmps,assign,body,hy,hR⟩:=hY ss x w2 hJ2 ah;clear hs2 hf2
   gi_wp2
   refine hR.mono ?_;rintro e W3 ⟨rfl,hJ3,hk3⟩
   gi_wp2
   have hrg3:=hrg2.of_walks hk3
   go_roundw
   case rel=>exact⟨_,cnt2,ss++[x],hrg3,by simp;omega,hC.step hlk hat,hJ3⟩
   case measure=>rw[hrg3.left_eq,hrg.left_eq];exact hlt
end IN
namespace IN
open Go Go.RowKit Go.Maps
noncomputable def gk:Code:=((Tryz.f297.body.bind iZ).map (·.1)).getD .skip
noncomputable def ko:Code:=((Tryz.f297.body.bind iZ).map (·.2)).getD .skip
noncomputable def dr(fn:FuncId)(sv:Value)(Bs D:Nat)(st:LoopState)(pend:Option Code):Loop:=
 {state:=st,pending:=pend,fn,tmps:= #[.slice none 0 0,sv,au (aw Bs),undef,.slice none 0 0,undef,sv,undef,undef,undef,undef,undef,undef],params:= #[7],assign:=gk,body:=ko,defers:=D}
structure oC(w0:World)(fn:FuncId)(sv:Value)(Bs l D:Nat)(ss:List Int)(W:World):Prop where
 box: ∃p c,At W.heap Bs [.slice p ss.length c]/\cj W.heap (Bs+1) 1 p ss.length c (ss.map (Value.int .i64))
 L:W.heap[l]? =some (.loop (dr fn sv Bs D .ready none))
 K:W.heap[D]? =some (.deferred (some []))
 only:aM [] w0.heap W.heap
 same:bT w0 W
def lQ(w0:World)(fn:FuncId)(sv:Value)(Bs l D B:Nat)(hB:w0.heap.size<=B):oe B (oC w0 fn sv Bs l D):=λs W W' row h hg hf hrow=>by
 have hrow': ∀r,row=some r-> ∃o:Obj,W.heap[r]? =some o/\o.isWalk=true:=λr e=>(hrow r e).2;have O:=oy hg hf
 have hno: ∀b,(∃c,At W.heap b c)->b∉row.toList:=λb ⟨c,A⟩ hb=>by
  cases row with
  |none=>simp at hb
  |some r=>simp at hb;exact A.notWalk (hrow' r rfl) hb
 obtain⟨p,c,A,H⟩:=h.box
 exact⟨⟨p,c,A.only O (hno _ ⟨_,A⟩),H.onlyC O λb _ hc=>hno b hc⟩,(grownBy_keeps hg hrow' h.L rfl).trans h.L,(grownBy_keeps hg hrow' h.K rfl).trans h.K,
  h.only.trans O (λb hb hlt=>by
   cases row with
   |none=>simp at hb
   |some r=>
    simp at hb;have:=(hrow r rfl).1;omega),h.same.trans (bT.of_grown hg)⟩
def sB3:jU Tryz.prog 3=some (1,8,#[al 0]):=by kernel_rfl
set_option maxRecDepth 100000 in
set_option maxHeartbeats 2000000 in
def ru{F:Fence}{m:Nat}(w0:World)(fn:FuncId)(hfn:F.fn fn)(sv:Value)(Bs l D:Nat)(hBl:Bs≠l)(hDl:D≠l)(hDB:D≠Bs)(h0B:w0.heap.size<=Bs)(h0l:w0.heap.size<=l)
  (N:Nat) (hN:N*8<=140737488355328) (ss:List Int) (x:Int) (W:World) (h:oC w0 fn sv Bs l D ss W) (hlen:ss.length<N):
  YieldAt F m Tryz.prog l #[al x] W λe W'=>e= .returned aC/\oC w0 fn sv Bs l D (ss++[x]) W'/\KeepsWalks W W':=by
 obtain⟨p,c,A,H⟩:=h.box;refine⟨fn,#[.slice none 0 0,sv,au (aw Bs),undef,.slice none 0 0,undef,sv,al x,undef,undef,undef,undef,undef],gk,ko,by simpa[dr]using run_yield (P:=Tryz.prog) (args:= #[al x]) h.L rfl,roundIn_of_wpIn hfn ?_⟩;have hl:l<W.heap.size:=(Array.getElem?_eq_some_iff.1 h.L).1;have hbr:=run_beginRound (P:=Tryz.prog) h.L rfl;obtain⟨W2,hW2⟩: ∃W2,W.putObj l (.loop {dr fn sv Bs D .ready none with state:= .busy})=W2:=⟨_,rfl⟩;rw[hW2]at hbr;have hnl: ∀b,(∃c,At W.heap b c)->b∉[l]:=λb ⟨c,A⟩ hb=>A.ne_obj h.L rfl (by simpa using hb);have O2:aM [l] W.heap W2.heap:=by rw[<-hW2];exact aM.putW _ h.L rfl rfl
 have A2:At W2.heap Bs [.slice p ss.length c]:=A.only O2 (hnl _ ⟨_,A⟩);have H2:=H.onlyC O2 λb _ hc=>hnl b hc;have hK2:W2.heap[D]? =some (.deferred (some [])):=by rw[<-hW2];exact(World.putObj_heap_other hDl).trans h.K
 have hL2:W2.heap[l]? =some (.loop {dr fn sv Bs D .ready none with state:= .busy}):=by rw[<-hW2];exact World.putObj_heap_same hl
 have S2:bT W W2:=by rw[<-hW2];exact⟨rfl,rfl,rfl⟩
 have hc2:W2.cell? (aw Bs)=some (.slice p ss.length c):=A2.rd 0;have hf2:W2.frozen? (aw Bs)=false:=A2.fz 0 none;have A3:At (W2.alloc (.cells #[al x] 3)).heap W2.heap.size [al x]:=At.push _ _ _;have O3:aM [] W2.heap (W2.alloc (.cells #[al x] 3)).heap:=aM.push_cells _ _ _;have H3:=H2.onlyC O3 λb _ _=>ak;have A3':=A2.only O3 ak;have hBlt:=A2.lt;have hz3:=O3.size;clear hW2;simp only[gk,Tryz.f297,iZ,Option.bind_some,Option.map_some,Option.getD_some,Option.none_or,Option.some_or]
 gi_wp2_with (rw[Oper.semAt_eq _ _ _ (λc h=>by cases h)];go_simp;try go_bits)
 simp only[ko,Tryz.f297,iZ,Option.bind_some,Option.map_some,Option.getD_some,Option.none_or,Option.some_or]
 gi_wp2_with (first
  |(gi_at_builtin;refine kU _ rfl _ _ 84 rfl u84 sB3 (by decide) rfl rfl (fT (K:=λp' l' c' h'=>l'=ss.length+1/\cj h' (Bs+1) 1 p' (ss.length+1) c' (ss.map (Value.int .i64)++[al x])/\aM (aX p) (W2.alloc (.cells #[al x] 3)).heap h'/\ ∀b∈aX p',b∈aX p\/(W2.alloc (.cells #[al x] 3)).heap.size<=b) H3 A3 rfl rfl ah (by simp[Value.oneCell']) ah λp' c' h' a b c=>⟨rfl,a,b,c⟩) ?_;rintro p' l' c' w3 S3 ⟨rfl,H4,O4,hp'⟩
    have hnB:Bs∉aX p:=λhb=>by have:=H2.lt Bs hb;omega
    have A4:=A3'.only O4 hnB;have hc3:w3.cell? (aw Bs)=some (.slice p ss.length c):=A4.rd 0;have hf3:w3.frozen? (aw Bs)=false:=A4.fz 0 none
    go_frame)
  |(rw[Oper.semAt_eq _ _ _ (λc h=>by cases h)];go_simp;try go_bits))
 have hlB:l∉aX p:=λhb=>by obtain⟨c,A⟩:=H3.cells l hb;exact A.ne_obj ((Below.heap_alloc _ _ l (Array.getElem?_eq_some_iff.1 hL2).1).trans hL2) rfl rfl
 have hDB':D∉aX p:=λhb=>by obtain⟨c,A⟩:=H3.cells D hb;exact A.ne_obj ((Below.heap_alloc _ _ D (Array.getElem?_eq_some_iff.1 hK2).1).trans hK2) rfl rfl
 have hL3:w3.heap[l]? =some (.loop {dr fn sv Bs D .ready none with state:= .busy}):=(O4.same l (Nat.lt_of_lt_of_le (Array.getElem?_eq_some_iff.1 hL2).1 hz3) hlB).trans ((O3.same l (Array.getElem?_eq_some_iff.1 hL2).1 ak).trans hL2);have hK3:w3.heap[D]? =some (.deferred (some [])):=(O4.same D (Nat.lt_of_lt_of_le (Array.getElem?_eq_some_iff.1 hK2).1 hz3) hDB').trans ((O3.same D (Array.getElem?_eq_some_iff.1 hK2).1 ak).trans hK2);obtain⟨w4,hw4⟩: ∃w4,w3.setCell (aw Bs) (.slice p' (ss.length+1) c')=w4:=⟨_,rfl⟩;rw[hw4];have O5:aM [Bs] w3.heap w4.heap:=by rw[<-hw4];exact aM.wr w3.heap (aw Bs) _
 have A5:At w4.heap Bs [.slice p' (ss.length+1) c']:=by rw[<-hw4];exact A4.wr 0 _
 have S4:bT w3 w4:=by rw[<-hw4];exact⟨rfl,rfl,rfl⟩
 have hL4:w4.heap[l]? =some (.loop {dr fn sv Bs D .ready none with state:= .busy}):=(O5.same l (Array.getElem?_eq_some_iff.1 hL3).1 (by simpa using Ne.symm hBl)).trans hL3;have hK4:w4.heap[D]? =some (.deferred (some [])):=(O5.same D (Array.getElem?_eq_some_iff.1 hK3).1 (by simpa using hDB)).trans hK3
 have H5:=H4.onlyC O5 λb hb _ hbB=>by simp at hbB;subst hbB;have:=H4.lt b hb;omega
 clear hw4;have O6:aM [l] w4.heap (w4.putObj l (.loop {{dr fn sv Bs D .ready none with state:= .busy}with state:=if(none:Option Code).isNone then .ready else .done,pending:=none})).heap:=aM.putW _ hL4 rfl rfl;have hnl4: ∀b,(∃c,At w4.heap b c)->b∉[l]:=λb ⟨c,A⟩ hb=>A.ne_obj hL4 rfl (by simpa using hb)
 have OO:aM (l::Bs::aX p) W.heap (w4.putObj l (.loop {{dr fn sv Bs D .ready none with state:= .busy}with state:=if(none:Option Code).isNone then .ready else .done,pending:=none})).heap:=by refine(((((O2.mono (T:=l::Bs::aX p) (by simp+contextual)).trans O3 ak).trans O4 (by simp+contextual)).trans O5 (by simp+contextual)).trans O6 (by simp+contextual))
 refine⟨_,_,run_endRound none hL4,rfl,⟨⟨p',c',?_,?_⟩,World.putObj_heap_same (Array.getElem?_eq_some_iff.1 hL4).1,(World.putObj_heap_other hDl).trans hK4,h.only.trans OO ?_,?_⟩,og OO ?_⟩
 ·rw[List.length_append,List.length_singleton];exact A5.only O6 (hnl4 _ ⟨_,A5⟩)
 ·rw[List.length_append,List.length_singleton,List.map_append,List.map_singleton];exact H5.onlyC O6 λb _ hc=>hnl4 b hc
 ·intro b hb hlt;rcases List.mem_cons.1 hb with rfl|hb
  ·omega
  ·rcases List.mem_cons.1 hb with rfl|hb
   ·omega
   ·have:=H.lt b hb;omega
 ·exact((((h.same.trans S2).trans ⟨rfl,rfl,rfl⟩).trans S3).trans S4).trans ⟨rfl,rfl,rfl⟩
 ·intro r hr o ho;rcases List.mem_cons.1 hr with rfl|hr
  ·rw[h.L]at ho;cases ho;rfl
  ·rcases List.mem_cons.1 hr with rfl|hr
   ·exact A.walkF o ho
   ·obtain⟨c,A'⟩:=H.cells r hr;exact A'.walkF o ho
end IN
namespace IN
open Go Go.RowKit Go.Maps Go.Shelf
set_option maxRecDepth 100000 in
set_option maxHeartbeats 2000000 in
def ms{F:Fence}{n:Nat}(h65:F.fn 297)(h66:F.fn 266)(hro:F.round=none)(hn:2<=n)(Bm b:Nat)(m:List (Int×Value))(w:World)(A:At w.heap Bm [.map (some b)])(M:bO w.heap b .i64 m)
  (hwf: ∀x∈m.map (·.1),(Lit.int .i64 x).wf=true) (hsz:m.length*8<=140737488355328):
  CallsIn F n Tryz.prog 297 #[.slice none 0 0,.func (.func 266) #[] #[au (aw Bm)]] w λe w'=> ∃(p:az) (c:Nat) (ss:List Int),e= .returned (.slice p ss.length c)/\ss.Perm (m.map (·.1))/\
   cj w'.heap (w.heap.size+1) 1 p ss.length c (ss.map (Value.int .i64))/\aM [] w.heap w'.heap/\bT w w':=by
 have h1:1<=n:=ah;have hnd:(m.map (·.1)).Nodup:=by obtain⟨_,_,_,_,h,_⟩:=M;exact h
 have eg: ∀args w,(callFunc 266 args).run Tryz.prog w= .ok (.enter 266 args) w:=enters_of Tryz.func266 (by kernel_rfl) rfl;refine callsIn_of_wp_marks Tryz.func297 rfl h65 ?_ hro;simp only[Tryz.ntmps297,List.size_toArray,List.length_cons,List.length_nil,Nat.reduceAdd,Nat.reduceSub,Array.replicate_succ,Array.replicate_zero,List.push_toArray,List.append_toArray,List.nil_append,List.cons_append]
 gi_wp2
 refine wpIn_rangeFunc ?_;intro fn hfn;rw[hro];obtain⟨W0,hW0⟩: ∃W0,w.alloc (.cells #[.slice none 0 0] 84)=W0:=⟨_,rfl⟩;have hs0:W0.heap.size=w.heap.size+1:=by rw[<-hW0];simp
 have O0:aM [] w.heap W0.heap:=by rw[<-hW0];exact aM.push_cells _ _ _
 have A0:At W0.heap w.heap.size [.slice none 0 0]:=by rw[<-hW0];exact At.push _ _ _
 have S0:bT w W0:=by rw[<-hW0];exact⟨rfl,rfl,rfl⟩
 rw[hW0];obtain⟨W1,hW1⟩: ∃W1,(W0.alloc (.deferred (some []))).alloc (.loop (dr fn (.func (.func 266) #[] #[au (aw Bm)]) w.heap.size W0.heap.size .ready none))=W1:=⟨_,rfl⟩;have O1:aM [] W0.heap W1.heap:=by rw[<-hW1];exact(aM.allocW W0 rfl).trans (aM.allocW _ rfl) ak
 have hs1:W1.heap.size=W0.heap.size+2:=by rw[<-hW1];simp
 have S1:bT W0 W1:=by rw[<-hW1];exact⟨rfl,rfl,rfl⟩
 have OW:=O0.trans O1 ak
 have hM:oC w fn (.func (.func 266) #[] #[au (aw Bm)]) w.heap.size (W0.heap.size+1) W0.heap.size [] W1:=
  ⟨⟨none,0,A0.only O1 ak,cj.nil _ _ _⟩,
   by rw[<-hW1];have:=World.alloc_heap_new (W0.alloc (.deferred (some []))) (.loop (dr fn (.func (.func 266) #[] #[au (aw Bm)]) w.heap.size W0.heap.size .ready none));rwa[World.size_alloc]at this,
   by rw[<-hW1];exact(Below.heap_alloc _ _ _ ak).trans (World.alloc_heap_new W0 _),OW,S0.trans S1⟩
 obtain⟨D0,hown,hD1,hD2⟩:=wT uI3 (M.only OW ak) hwf (by simp[maxLen];omega)
 refine⟨W0.heap.size+1,[{target:= .collected W0.heap.size,args:= #[]}],W1,{target:= .fn (.func 266) #[au (aw Bm)],args:= #[.func (.yield (W0.heap.size+1)) #[] #[]]},W1,266,
  #[.func (.yield (W0.heap.size+1)) #[] #[]]++ #[au (aw Bm)],W1,?_,?_,?_,?_,λ_=>h1,?_⟩
 ·rw[<-hW1];exact run_enterLoop_outer _ _ _ _ _
 ·simp[resolve,go_sem]
 ·intro f' hf';simp[Target.leads]at hf';subst hf';exact h66
 ·simp[invoke,go_sem,eg]
 ·refine(Bq (F:=F) (n:=n-1) h66 hro ah (W0.heap.size+1) Bm b m.length D0 (oC w fn (.func (.func 266) #[] #[au (aw Bm)]) w.heap.size (W0.heap.size+1) W0.heap.size)
   (λpre x W hJ hl=>ru (F:=F) (m:=n-1-1) w fn hfn _ w.heap.size (W0.heap.size+1) W0.heap.size ah ah ah (Nat.le_refl _) ah m.length hsz pre x W hJ ah) W1 (lQ _ _ _ _ _ _ _ ah)
   ((A.only OW ak).rd 0) hown hM).mono ?_
  rintro e W2 ⟨⟨v0,rfl⟩,ss,h2,left,hC,hl⟩;obtain⟨p,c,A2,H2⟩:=h2.box;have hend:=run_endLoop (P:=Tryz.prog) h2.L (by simp[dr]);obtain⟨W3,hW3⟩: ∃W3,W2.putObj (W0.heap.size+1) (.loop {dr fn (.func (.func 266) #[] #[au (aw Bm)]) w.heap.size W0.heap.size .ready none with state:= .exhausted})=W3:=⟨_,rfl⟩;rw[hW3]at hend;have O3:aM [W0.heap.size+1] W2.heap W3.heap:=by rw[<-hW3];exact aM.putW _ h2.L rfl rfl
  have S3:bT W2 W3:=by rw[<-hW3];exact⟨rfl,rfl,rfl⟩
  have hnl: ∀b,(∃c,At W2.heap b c)->b∉[W0.heap.size+1]:=λb ⟨c,A⟩ hb=>A.ne_obj h2.L rfl (by simpa using hb);have A3:=A2.only O3 (hnl _ ⟨_,A2⟩);have H3:=H2.onlyC O3 λb _ hc=>hnl b hc;have hK3:W3.heap[W0.heap.size]? =some (.deferred (some [])):=by rw[<-hW3];exact(World.putObj_heap_other ah).trans h2.K
  have hc3:W3.cell? (aw w.heap.size)=some (.slice p ss.length c):=A3.rd 0;have hf3:W3.frozen? (aw w.heap.size)=false:=A3.fz 0 none;clear hW3;refine⟨none,W3,hend,?_⟩
  gi_wp2
  rw[<-hs0];refine⟨ak,.inl ⟨_,_,rfl,run_takeDeferred hK3,?_⟩⟩;have O4:aM [W0.heap.size] W3.heap (W3.putObj W0.heap.size (.deferred none)).heap:=aM.putW _ hK3 rfl rfl;have hF:=H3.onlyC O4 (λb _ hc hb=>by obtain⟨c,A⟩:=hc;exact A.ne_obj hK3 rfl (by simpa using hb));rw[<-hs0]at hF
  exact⟨_,results_tmp rfl _ _ _,p,c,ss,rfl,hC.perm hl hnd hD2,hF,
   (h2.only.trans O3 (by intro b hb hlt;simp at hb;omega)).trans O4 (by intro b hb hlt;simp at hb;omega),(h2.same.trans S3).trans ⟨rfl,rfl,rfl⟩⟩
def appSeq{h:aH}{Bm b:Nat}{m:List (Int×Value)}{K:KK}(A:At h Bm [.map (some b)])(M:bO h b .i64 m)
  (hwf: ∀x∈m.map (·.1),(Lit.int .i64 x).wf=true) (hsz:m.length*8<=140737488355328)
  (hK: ∀(p:az) (c:Nat) (h':aH) (ss:List Int),ss.Perm (m.map (·.1))->cj h' (h.size+1) 1 p ss.length c (ss.map (Value.int .i64))->aM [] h h'->K (.slice p ss.length c) h'):
  Cl 297 [.slice none 0 0,.func (.func 266) #[] #[au (aw Bm)]] h K:=λw hw=>by
 subst hw;refine((callsIn_wide (n:=2)).1 (ms (F:=Fence.wide) (n:=2) trivial trivial rfl ah Bm b m w A M hwf hsz)).mono ?_;rintro e w' ⟨p,c,ss,rfl,h1,h2,h3,h4⟩;exact⟨_,rfl,h4,hK p c _ ss h1 h2 h3⟩
end IN
section
section
variable {h h':aH}{e s p:Nat}{G:EG}{P:PS}{K:KK}
def Da{m:List (Int×Value)}(e:m=[]): ∀x∈m.map (·.1),(Lit.int .i64 x).wf=true:=by subst e;intro x hx;cases hx
def AS(H:bG h p s P)(hj:P.jobs=[])(hK: ∀h' c,aM [] h h'->K (.slice none 0 c) h'):Cl 173 [bh p] h K:=by refine F173.spec _ h K ?_;simp only[aL,Nat.zero_add];refine⟨_,by rw[At.rd H.own];rfl,?_⟩;refine F216.spec _ h _ ?_;refine aV λh1 A1 O1 z1=>⟨_,rfl,?_⟩;refine F215.spec ?_;refine F264.spec ?_;have M1:=H.jbm.only O1 ak;rw[hj]at M1;refine IN.appSeq A1 M1 (Da rfl) ak λq c h2 ss hp Ow O2=>bo rfl ?_;obtain rfl:ss=[]:=List.eq_nil_of_length_eq_zero (by rw[hp.length_eq];rfl);refine bo rfl (DC ak ⟨rfl,bo rfl ?_⟩);unfold F173.wk3;refine⟨1,?_⟩;rw[F173.sL3];rw[decide_eq_false ak,aJ];exact hK h2 0 (O1.trans O2 ak)
end
end
section
def Dg{g:Nat->Nat}: ∀n,fu g n≠0-> ∃k,k<n/\g k≠0:=by
 intro n
 induction n with
 |zero=>intro h;exact absurd rfl h
 |succ n ih=>
  intro h;unfold fu at h;by_cases q:g n=0
  ·obtain⟨k,hk,hg⟩:=ih ah;exact⟨k,ah,hg⟩
  ·exact⟨n,ah,q⟩
def held{f:Int->Int}{E:fV}(C:kP f E){a:Nat}:f (a:Int)≠0↔ ∃i,i<4/\ ∃r,r<6/\(E.ses i).there r=true/\(E.ses i).hnd r=a:=by
 rw[C a];constructor
 ·intro h;obtain⟨k,hk,hg⟩:=Dg 24 (show fu (fe E a) 24≠0 from λz=>h (by show((kL E a:Nat):Int)=0;unfold kL;omega));unfold fe at hg;split at hg
  ·next q=>exact⟨k/6,ah,k%6,ah,q.1,q.2⟩
  ·exact absurd rfl hg
 ·rintro ⟨i,hi,r,hr,ht,he⟩ z
  have:1<=fu (fe E a) 24:=uc (k:=6*i+r) 24 ah (by unfold fe;rw[show(6*i+r)/6=i by omega,show(6*i+r)%6=r by omega,if_pos ⟨ht,he⟩];exact Nat.le_refl _)
  have:kL E a=fu (fe E a) 24:=rfl;omega
def Ie(G:EG):Prop:= ∀ks:List Int,ks.Nodup->(∀x,x∈ks↔G.f x≠0)->ks.length<=12
section
variable {h h':aH}{e:Nat}{G G':EG}{K:KK}
def cg.ret(W:cg h e G)(hj:G.P.jobs=[]){keep:Nat->Bool}{rs:List Nat}{L':List Nat}(M:Mk G.N rs keep [])(hrs: ∀a:Nat,1<a->G.f (a:Int)≠0->a∈rs)
  (S:cI h' G.E.s L' (XL G.n G.room G.fo G.gg (bP keep G.N) G.off)) (O:aM G.L h h') (F:bH G.L L' h):cg h' e (ny G (bP keep G.N) L')/\bg e G h (ny G (bP keep G.N) L') h':=by
 have lt:=W.lt
 have DP: ∀b,dx G.E.p G.P b->b∉L':=λb hb hm=>by
  rcases F b hm with q|q
  ·exact W.W.D b hb q
  ·have:=lt b (bi.2 (.inr (.inr (.inr hb))));omega
 have Ok:=W.W.Ok;have Ok':bQ G.n G.fo (bP keep G.N) G.P:=⟨λj hm=>(by rw[hj]at hm;cases hm),Ok.at_,Ok.one,Ok.loc,Ok.T,Ok.len,Ok.last,Ok.steals⟩
 have cl: ∀i x,nd G.N i=some x->keep (i+2)=true->(x.2.1<2\/keep x.2.1=true)/\(x.2.2<2\/keep x.2.2=true):=λi x hx hk=>by have:=M.cl i x hx hk;simpa using this
 have ok0:dz G.n G.N:=W.W.S.ok.1;obtain⟨-,is1,-⟩:=nY ok0 cl
 have rg: ∀i,i<4-> ∀r,r<6->(G.E.ses i).there r=true->isN (bP keep G.N) ((G.E.ses i).hnd r):=λi hi r hr ht=>by
  rw[is1];by_cases q:(G.E.ses i).hnd r<2
  ·exact .inl q
  ·refine .inr ⟨W.rg i hi r hr ht,?_⟩;have:=M.ro _ (hrs ((G.E.ses i).hnd r) ah ((held W.C).2 ⟨i,hi,r,hr,ht,rfl⟩));rcases this with z|z|z
   ·omega
   ·exact z
   ·cases z
 refine⟨⟨⟨S,W.W.H.only O λb hb hp=>W.W.D b hp hb,Ok',(λj hm=>by rw[show(ny G (bP keep G.N) L').P.jobs=[]from hj]at hm;cases hm),DP⟩,W.R.only O (λb hb hm=>(W.dB b hm).1 hb),W.I.only O W.de.1,W.C,⟨λhm=> ?_,W.de.2.1,W.de.2.2⟩,λb hb=>⟨λhm=> ?_,(W.dB b hb).2⟩,rg,W.r0,W.mq,W.po⟩,⟨λT hT=>O.mono λb hb _=>hT b (bi.2 (.inr (.inl hb))),λb hb=> ?_⟩⟩
 ·rcases F e hm with q|q
  ·exact W.de.1 q
  ·have:=lt e (bi.2 (.inl rfl));omega
 ·rcases F b hm with q|q
  ·exact(W.dB b hb).1 q
  ·have:=lt b (bi.2 (.inr (.inr (.inl hb))));omega
 ·rcases bi.1 hb with q|q|q|q
  ·exact .inl (bi.2 (.inl q))
  ·rcases F b q with q|q
   ·exact .inl (bi.2 (.inr (.inl q)))
   ·exact .inr q
  ·exact .inl (bi.2 (.inr (.inr (.inl q))))
  ·exact .inl (bi.2 (.inr (.inr (.inr q))))
def qQ(i:Nat):(iV (λ_=> []) i).length=0:=by have:=oH (L:=λ_=> []) (N:=0) i λk _=>Nat.le_refl _;omega
def oG(G G':EG):Prop:= ∃(keep:Nat->Bool) (rs L':List Nat),(∀a:Nat,a∈rs↔1<a/\G.f (a:Int)≠0)/\Mk G.N rs keep []/\G'=ny G (bP keep G.N) L'
def AM(W:cg h e G)(hj:G.P.jobs=[])(few:Ie G)(hM:G.M<=LB/1000)
  (hK: ∀h' G' a b,oG G G'->cg h' e G'->bg e G h G' h'->K (.tuple #[al a,al b]) h'):Cl 175 [bh G.E.s,bh G.E.r] h K:=by
 have hLB:LB=140737488355328:=rfl;refine F175.spec ?_;obtain⟨lo,M,S,Wn,p,c,R,w1,w4,hl,eB⟩:=W.R;refine wy R ah w4 (λks nd hks=>by rw[qQ];have:=few ks nd hks;omega) λh1 q c1 Rs pw mem Ow O1=>bo rfl ?_;obtain⟨rs,ers⟩: ∃rs,rs=Rs.map Int.toNat:=⟨_,rfl⟩;have pos: ∀x∈Rs,1<x:=λx hx=>((mem x).1 hx).1
 have eR:Rs.map (Value.int .u32)=rs.map hv:=by rw[ers,List.map_map];refine List.map_congr_left λx hx=> ?_;have:=pos x hx;show ap x=ap ((x.toNat:Nat):Int);rw[Int.toNat_of_nonneg ah]
 have el:Rs.length=rs.length:=by rw[ers];simp
 have mrs: ∀a:Nat,a∈rs↔1<a/\G.f (a:Int)≠0:=λa=>by
  rw[ers,List.mem_map];constructor
  ·rintro ⟨x,hx,e⟩;have h1:=(mem x).1 hx;have h2:x=(a:Int):=by rw[<-e];exact(Int.toNat_of_nonneg (Int.le_of_lt (Int.lt_trans (by decide) h1.1))).symm
   rw[h2]at h1;refine⟨Int.ofNat_lt.1 h1.1,?_⟩;rcases h1.2 with z|⟨k,-,z⟩
   ·exact z
   ·cases z
  ·rintro ⟨h1,h2⟩;exact⟨(a:Int),(mem _).2 ⟨ah,.inl h2⟩,ak⟩
 have is: ∀r∈rs,isN G.N r:=λr hr=>by obtain⟨i,hi,q,hq,ht,he⟩:=(held W.C).1 ((mrs r).1 hr).2;rw[<-he];exact W.rg i hi q hq ht
 have few1:rs.length<=100000:=by
  have ks:Rs.Nodup:=pw.imp λh=>ah;have:=R.Mm;obtain⟨m,mm,lk,lm⟩:=this
  have sub:Rs.length<=m.length:=by
   have: ∀x∈Rs,x∈m.map (·.1):=λx hx=>by
    apply Classical.byContradiction;intro hn;have h1:=(mem x).1 hx;have h2:=lk x;rw[cr.2 hn]at h2;rcases h1.2 with z|⟨k,-,z⟩
    ·rw[if_neg z]at h2;cases h2
    ·cases z
   have:=ks.length_le_of_subset this;simpa using this
  have mfew:m.length<=12:=by
   have nd:(m.map (·.1)).Nodup:=by obtain⟨_,_,_,_,h,_⟩:=mm;exact h
   have:=few (m.map (·.1)) nd λx=>by
    have h2:=lk x;by_cases h0:G.f x=0
    ·rw[if_pos h0,cr]at h2;exact⟨λh=>absurd h h2,λh=>absurd h0 h⟩
    ·rw[if_neg h0]at h2;refine⟨λ_=>h0,λ_=>Classical.byContradiction λhn=> ?_⟩;rw[cr.2 hn]at h2;cases h2
   simpa using this
  omega
 have S1:=W.W.S.only0 O1;rw[el,eR]at Ow;rw[el];refine kr (λkeep=>QL G.n G.fo (bP keep G.N)) S1 Ow is few1 λh2 L2 gone keep Mk2 S2 O2 F2=>⟨_,_,rfl,?_⟩;have W1:=W.only0 O1;obtain⟨W2,T2⟩:=W1.ret hj Mk2 (λa h1 h2=>(mrs a).2 ⟨h1,h2⟩) S2 O2 F2;exact hK h2 _ gone 0 ⟨keep,rs,L2,mrs,Mk2,rfl⟩ W2 ((bg.only0 O1).trans T2)
end
end
section
section
variable {h h':aH}{e s t:Nat}{G G0 G1 G':EG}{K:KK}{F:iU}{c:kB}
def th(W:cg h e G)(hj:G.P.jobs=[])(few:Ie G)(hM:G.M<=LB/1000)
  (hK: ∀h' G',oG G G'->cg h' e G'->bg e G h G' h'->K aE h'):Cl 128 [bh e] h K:=by
 refine F128.spec _ h K ?_;simp only[aL,Nat.zero_add];refine aR W.I.p (AS W.W.H hj λh1 c1 O1=>bo rfl ?_);unfold F128.wk2;refine⟨1,?_⟩;rw[F128.sL2];rw[decide_eq_false ak,aJ];unfold F128.wk6;have W1:=W.only0 O1;simp only[aL,Nat.zero_add];refine aR W1.I.s (aR W1.I.r (AM W1 hj few hM λh2 G2 a b Sw W2 S2=>⟨_,_,rfl,?_⟩));unfold F128.wk8;refine⟨1,?_⟩;rw[F128.sL8];rw[decide_eq_false ak,aJ];exact hK h2 G2 Sw W2 ((bg.only0 O1).trans S2)
def Fb{i:Nat}(W:cg h e G)(hi:i<4)(ha:G.E.ans<1000000000)(hj:G.P.jobs=[])(few:Ie G)(hM:G.M<=LB/1000)
  (hK: ∀h' G1,oG G G1->cg h' e (fL G1 i 0 0)->bg e G h (fL G1 i 0 0) h'->K aC h'):Cl 125 [bh e,nu e i] h K:=by
 refine F125.spec ?_;refine th W hj few hM λh1 G1 Sw W1 S1=>⟨rfl,?_⟩
 have ea:G1.E.ans<1000000000:=by obtain⟨_,_,_,_,_,e1⟩:=Sw;rw[e1];exact ha
 exact fZ (n:=0) W1 hi ea λh2 W2 S2=>⟨rfl,hK h2 G1 Sw W2 (S1.trans S2)⟩
def AA(Q:Qt h e G F t)(hs:s<4)(hm:c.mask<256)(kd:c.kind=7)(few:Ie G)(room:255*t+5<G.room)(ht:t+1<1000)
  (hK: ∀h' G',Qt h' e G' F (t+1)->bg e G h G' h'->(G'.n=G.n/\G'.fo=G.fo/\G'.room=G.room/\G'.gg=G.gg)->(∀k,(G'.E.ses k).there=(G.E.ses k).there/\(G'.E.ses k).hnd=(G.E.ses k).hnd)->
   (∃(keep:Nat->Bool) (rs:List Nat),(∀a:Nat,a∈rs↔1<a/\G.f (a:Int)≠0)/\Mk G.N rs keep []/\Ex G'.N (bP keep G.N))->K (.tuple #[.agg #[al 0,aq 0],aC]) h'):
  Cl 53 [bh e,al (s:Int),jR c] h K:=by
 have hLB:LB=140737488355328:=rfl;have qM:=Q.M;have qa:=Q.ans;have qc:=Q.cnt;have ql:=Q.last;have qt:=Q.t;have sE: ∀k,(cu G s c).E.ses k=if k=s then eU (G.E.ses s) c else G.E.ses k:=λk=>rfl
 have ss:(cu G s c).E.ses s=eU (G.E.ses s) c:=by rw[sE,if_pos rfl]
 have rf:refu G.n (G.E.ses s) c=0:=by
  have er:fX c=[]:=by unfold fX;rw[kd];rfl
  unfold refu iR;rw[if_neg ah,if_neg (λw=>by have:=w.1;unfold vF at this;omega),if_neg (λw=>w (λr hr=>by rw[er]at hr;cases hr)),if_neg (λw=>ah),if_neg (λw=>ah),if_neg (λw=>ah)]
 have hn:fJ ((cu G s c).E.ses s).cal.kind=125:=by rw[ss];show fJ c.kind=125;unfold fJ;rw[if_neg ah,if_neg ah,if_pos kd]
 have s3: ∀{G2:EG} (k:Nat),oG (cu G s c) G2->(fL G2 s 0 0).E.ses k=if k=s then eO (eU (G.E.ses s) c) 0 0 else G.E.ses k:=λ{G2} k Sw=>by
  obtain⟨_,_,_,_,_,e1⟩:=Sw;rw[e1];show gx (gx G.E.ses s _) s (eO (gx G.E.ses s (eU (G.E.ses s) c) s) 0 _) k=_;rw[gP,cp]
  rfl
 have sr: ∀q,((if q=s then eO (eU (G.E.ses s) c) 0 0 else G.E.ses q:fE)).there=(G.E.ses q).there/\((if q=s then eO (eU (G.E.ses s) c) 0 0 else G.E.ses q:fE)).hnd=(G.E.ses q).hnd:=λq=>by
  by_cases z:q=s
  ·rw[if_pos z,z];exact⟨rfl,rfl⟩
  ·rw[if_neg z];exact⟨rfl,rfl⟩
 have mdx: ∀{N':ay},Ex N' G.N->dz G.n N'->(∀k,k<4-> ∀r,r<6->(G.E.ses k).there r=true->isN N' ((G.E.ses k).hnd r))-> ∀k,k<4-> ∀r,r<6->(G.E.ses k).there r=true-> ∀y,sm G.n G.fo N' ((G.E.ses k).hnd r) y=sm G.n G.fo G.N ((G.E.ses k).hnd r) y:=
  λE ok rg k hk r hr ht y=>(E.sm ok (rg k hk r hr ht)).symm
 have okG:dz G.n G.N:=Q.W.W.S.ok.1
 have R1: ∀{G2:EG},oG (cu G s c) G2->dz G.n G2.N->(∀k,k<4-> ∀r,r<6->(G.E.ses k).there r=true->isN G2.N ((G.E.ses k).hnd r))->Ex G2.N G.N/\DU (cu G s c) s (eO (eU (G.E.ses s) c) 0 0) (λr y=>sm G.n G.fo G.N ((G.E.ses s).hnd r) y) 0 (fL G2 s 0 0):=λ{G2} Sw ok2 rg2=>by
  have Sw0:=Sw;obtain⟨keep,rs,L',m1,m2,e1⟩:=Sw
  have cl: ∀i x,nd G.N i=some x->keep (i+2)=true->(x.2.1<2\/keep x.2.1=true)/\(x.2.2<2\/keep x.2.2=true):=λi x hx hk=>by have:=m2.cl i x hx hk;simpa using this
  have ex:Ex G2.N G.N:=by rw[e1];exact(nY okG cl).2.2
  have smk:=mdx ex ok2 rg2;refine⟨ex,by rw[e1];exact⟨rfl,rfl,rfl⟩,by rw[e1];rfl,by rw[e1];rfl,by rw[e1];rfl,by rw[e1];rfl,by rw[e1];rfl,by rw[e1];rfl,by rw[e1];exact Nat.le_add_right _ _,by rw[e1];exact Q.jobs,by rw[e1];rfl,by rw[e1];exact Nat.le_add_right _ _,rfl,by rw[s3 s Sw0,if_pos rfl],λk hk z=>by rw[s3 k Sw0,if_neg z,sE,if_neg z],λr hr ht y=> ?_,λk hk z r hr ht y=> ?_,?_⟩
  ·exact smk s hs r hr ht y
  ·rw[sE,if_neg z]at ht ⊢;exact smk k hk r hr ht y
  ·exact oX ex
 refine wa hs Q.W (Q.pend s hs) hm rf (λG2=> ∃G1,(∃G3,oG (cu G s c) G3/\G1=fL G3 s 0 0/\dz G.n G3.N/\ ∀k,k<4-> ∀r,r<6->(G.E.ses k).there r=true->isN G3.N ((G.E.ses k).hnd r))/\kH G1 G2) (λ{h1 Q1} W1 hQ=> ?_) (λ{G2} R=> ?_) λh2 G2 W2 S2 R=> ?_
 ·refine xe kI W1 hs (by rw[ss];rfl) (λk hk z=>by rw[sE,if_neg z];exact Q.pend k hk) (by show G.M+_<=_;omega) (λG1=> ∃G3,oG (cu G s c) G3/\G1=fL G3 s 0 0/\dz G.n G3.N/\ ∀k,k<4-> ∀r,r<6->(G.E.ses k).there r=true->isN G3.N ((G.E.ses k).hnd r)) (λ{h2 Q2} O2 hQ2=> ?_) (λ{G1} R=> ?_) λh2 G1 G2 r1 k W2 S2=>hQ h2 G2 W2 S2 ⟨G1,r1,k⟩
  ·rw[hn];refine Fb (W1.only0 O2) hs (by show G.E.ans<_;omega) Q.jobs few (by show G.M<=_;omega) λh3 G3 Sw W3 S3=>hQ2 true h3 _ W3 ((bg.only0 O2).trans S3) ⟨G3,Sw,rfl,?_,λk hk r hr ht=> ?_⟩
   ·have:=W3.W.S.ok.1;obtain⟨_,_,_,_,_,e1⟩:=Sw;rw[e1]at this ⊢;exact this
   ·have:=W3.rg k hk r hr;rw[s3 k Sw,(sr k).1,(sr k).2]at this;exact this ht
  ·obtain⟨G3,Sw,eq,ok3,rg3⟩:=R;obtain⟨ex,A⟩:=R1 Sw ok3 rg3;subst eq;obtain⟨_,_,_,_,_,e1⟩:=Sw;refine⟨⟨_,_,_,A⟩,?_,?_⟩
   ·have c1:=oX ex;show be G3.N<G3.room;rw[e1]at c1 ⊢;show _<G.room;have c1:be (ny (cu G s c) (bP _ (cu G s c).N) _).N<=be G.N:=c1;omega
   ·rw[e1];exact Nat.le_add_right _ _
 ·obtain⟨G1,⟨G3,Sw,q,-,-⟩,k⟩:=R;subst q;rw[k.E,s3 s Sw,if_pos rfl]
  rfl
 ·obtain⟨G1,⟨G3,Sw,q,ok3,rg3⟩,k⟩:=R;obtain⟨ex,A⟩:=R1 Sw ok3 rg3;have s4:=λq=>s3 q Sw;obtain⟨keep,rs,L',m1,m2,e1⟩:=Sw;have kM:=k.M;have e3M:G1.M=G.M:=by rw[q,e1];rfl
  rw[<-q]at A s4;have A2:=A.kept hs k (by show _<=G.M+_;omega);have no:=A2.none (λk hk z=>by rw[sE,if_neg z];exact Q.pend k hk)
  have sr2: ∀q,(G2.E.ses q).there=(G.E.ses q).there/\(G2.E.ses q).hnd=(G.E.ses q).hnd:=λq=>by rw[k.E,s4];exact sr q
  have N1:G1.N=G3.N:=by rw[q];rfl
  have md:Md G2 F:=λq hq r hr2=>by obtain⟨m1,m2⟩:=Q.md q hq r hr2;rw[(sr2 q).1,(sr2 q).2];refine⟨m1,λf z=> ?_⟩;obtain⟨a,b⟩:=m2 f z;refine⟨a,λy=> ?_⟩;have:=k.sm q hq r hr2 (by rw[<-k.E,(sr2 q).1];exact a) y;rw[<-k.E,(sr2 q).2,A.n,A.fo,N1]at this;rw[A2.n,A2.fo];refine Eq.trans this ?_;have:=mdx ex ok3 rg3 q hq r hr2 a y;exact this.trans (b y)
  have rc:=A2.cnt;have rc:be G2.N<=be G.N+0:=rc;have rl:G2.P.last<=G.P.last+1:=A2.last;have ra:G2.E.ans=G.E.ans+1:=A2.ans;have Q2:Qt h2 e G2 F (t+1):=⟨W2,md,A2.jobs,no,ah,ah,ah,ah,ht⟩;have sb:Ex G2.N G1.N:=k.sub A.jobs;have:=hK h2 G2 Q2 S2 ⟨A2.n,A2.fo,A2.room,A2.gg⟩ sr2 ⟨keep,rs,m1,m2,by rw[N1,e1]at sb;exact sb⟩;rw[A2.ses];exact this
end
end
section
section
variable {h h':aH}{e s d t:Nat}{G G':EG}{K:KK}{F:iU}{c:kB}
end
end
section
def gJ(N:ay)(k:Nat):List Nat:=((List.range k).filter λi=>(nd N i).isSome).map (· +2)
def nB(N:ay):List Nat:=gJ N N.length
def qr{N:ay}{k:Nat}:gJ N (k+1)=gJ N k++if(nd N k).isSome then [k+2]else []:=by
 unfold gJ;rw[List.range_succ,List.filter_append,List.map_append]
 congr 1
 cases h:(nd N k).isSome<;>simp[h]
def zj{N:ay}{k a:Nat}:a∈gJ N k↔2<=a/\a-2<k/\ ∃x,nd N (a-2)=some x:=by
 unfold gJ;simp only[List.mem_map,List.mem_filter,List.mem_range,Option.isSome_iff_exists];constructor
 ·rintro ⟨i,⟨h1,h2⟩,e⟩;subst e;exact⟨ah,by simpa using h1,by simpa using h2⟩
 ·rintro ⟨h0,h1,h2⟩;exact⟨a-2,⟨h1,h2⟩,ah⟩
def wG{N:ay}{a:Nat}:a∈nB N↔2<=a/\ ∃x,nd N (a-2)=some x:=by unfold nB;rw[zj];exact⟨λh=>⟨h.1,h.2.2⟩,λh=>⟨h.1,by obtain⟨x,hx⟩:=h.2;exact iW hx,h.2⟩⟩
def yW{N:ay}(k:Nat):(gJ N k).Pairwise (· < ·):=by unfold gJ;rw[List.pairwise_map];refine List.Pairwise.filter _ ((List.pairwise_lt_range (n:=k)).imp ?_);intro a b h;show a+2<b+2;omega
def ul{N:ay}: ∀k,k<=N.length->(gJ N k).length=be (N.take k):=by
 intro k
 induction k with
 |zero=>intro _;simp[gJ,be]
 |succ k ih=>
  intro hk;have:=ih ah;obtain⟨o,ho⟩: ∃o,N[k]? =some o:=⟨_,List.getElem?_eq_getElem ah⟩;rw[qr,ga ho,nR,List.length_append,this];have e:nd N k=o:=by unfold nd;rw[ho];rfl
  rw[e];cases o<;>rfl
def nW(N:ay):(nB N).length=be N:=by have:=ul (N:=N) N.length (Nat.le_refl _);rw[List.take_length]at this;exact this
section
variable {h:aH}{s:Nat}{L:List Nat}{X:SX}{K:KK}
set_option maxRecDepth 100000 in
def Gu(H:cI h s L X)(hK: ∀h' p c,cj h' h.size 1 p (nB X.N).length c ((nB X.N).map hv)->aM [] h h'->K (.slice p (nB X.N).length c) h'):Cl 59 [au (aw s)] h K:=by
 obtain⟨B,F,eL,H⟩:=H;have hlen:=H.m.len;refine F59.spec _ h K ?_;simp only[aL,Nat.zero_add];refine bo (p:=B.p) (l:=X.N.length) (c:=B.c) (by rw[At.rd H.m.S];rfl) ?_;unfold F59.wk3
 have main: ∀(d i:Nat) (h':aH) (p:az) (c:Nat),i+d=X.N.length->cj h' h.size 1 p (gJ X.N i).length c ((gJ X.N i).map hv)->aM [] h h'->
   F59.wL3 (d+1) p (gJ X.N i).length c B.p X.N.length B.c (X.N.length:Int) (i:Int) h' K:=by
  intro d
  induction d with
  |zero=>
   intro i h' p c hi Ow O;rw[F59.sL3];rw[decide_eq_false ah,aJ];obtain rfl:i=X.N.length:=ah;exact hK h' p c Ow O
  |succ d ih=>
   intro i h' p c hi Ow O;obtain⟨o,ho⟩: ∃o,X.N[i]? =some o:=⟨_,List.getElem?_eq_getElem ah⟩;have m1:=H.m.only O ak;obtain⟨b,eb,rr⟩:=m1.cells ho;have en:nd X.N i=o:=by unfold nd;rw[ho];rfl
   rw[F59.sL3];rw[decide_eq_true ah,aO,eb,aU];refine⟨ah,ah,?_⟩;rw[<-eb];simp only[aL,Nat.zero_add]
   have hw:IntKind.wrap .u32 (ax ((i:Int)+2))=((i+2:Nat):Int):=by rw[wrap_i64 ah ah,show(i:Int)+2=((i+2:Nat):Int) by omega];exact gY ah
   rw[show Int.toNat (i:Int)*4=i*4 by omega,hw,show ax ((i:Int)+1)=((i+1:Nat):Int) by rw[wrap_i64 ah ah];omega]
   obtain⟨tv,lv,av,bv,ec⟩: ∃tv lv av bv,db o=[aD tv,al lv,ap av,ap bv]:=by
    cases o with
    |none=>exact⟨_,_,_,_,rfl⟩
    |some x=>exact⟨_,_,_,_,rfl⟩
   have et:tv=o.isSome:=by cases o<;>simp only[db,List.cons.injEq,Value.bool.injEq]at ec<;>exact ec.1.symm
   rw[ec]at rr;refine aY (by rw[<-Nat.add_zero (i*4),rr 0 ah];rfl) (aI (by rw[rr 1 ah];rfl) (aI (by rw[rr 2 ah];rfl) (aI (by rw[rr 3 ah];rfl) ?_)));refine aV λk1 B1 P1 y1=> ?_;refine aS B1 ak rfl λk2 B2 P2 y2=>aS B2 ak rfl λk3 B3 P3 y3=>aS B3 ak rfl λk4 B4 P4 y4=>aS B4 ak rfl λk5 B5 P5 y5=> ?_;have P15:aM [] h' k5:=(((P1.trans P2 (by intro b hb hl;simp at hb;omega)).trans P3 (by intro b hb hl;simp at hb;omega)).trans P4 (by intro b hb hl;simp at hb;omega)).trans P5 (by intro b hb hl;simp at hb;omega);refine aY (n:=tv) (by rw[At.rd B5];rfl) ?_;have z0:=O.size;have z1:=P15.size;have Ow5:=Ow.only P15 ak
   have hll:(gJ X.N i).length<=40000:=by rw[ul i ah];have:=lE (X.N.take i);rw[List.length_take]at this;omega
   have ls:=qr (N:=X.N) (k:=i);rw[en]at ls;cases o with
   |none=>
    rw[et,Option.isSome_none,aJ];have ls:gJ X.N (i+1)=gJ X.N i:=by rw[ls];simp
    rw[<-ls]at Ow5 ⊢;exact ih (i+1) k5 p c ah Ow5 (O.trans P15 ak)
   |some x=>
    rw[et,Option.isSome_some,aO];have ls:gJ X.N (i+1)=gJ X.N i++[i+2]:=ls;refine aV λk6 B6 P6 y6=> ?_;refine fT (new:=[hv (i+2)]) (Ow5.only P6 ak) B6 rfl rfl ah (by simp[Value.oneCell']) ah λp' c' k7 W7 P7 hb7=> ?_;have e1:(gJ X.N i).length+1=(gJ X.N (i+1)).length:=by rw[ls];simp
    have e2:(gJ X.N i).map hv++[hv (i+2)]=(gJ X.N (i+1)).map hv:=by rw[ls];simp
    rw[e1,e2]at W7;rw[e1];exact ih (i+1) k7 p' c' ah W7 (((O.trans P15 ak).trans P6 ak).trans P7 λb hb hl=>by have:=Ow.lt b hb;omega)
 exact⟨_,main X.N.length 0 h none 0 ah (cj.nil _ _ _) (aM.refl _ _)⟩
end
end
section
section
variable {h:aH}{s:Nat}{L:List Nat}{X:SX}{K:KK}
set_option maxRecDepth 100000 in
def Ez(H:cI h s L X)(hK: ∀h',aM [] h h'->K aC h'):Cl 22 [au (aw s)] h K:=by
 have ok:=H.ok;have okN:=ok.1;refine F22.spec _ h K ?_;unfold F22.w F22.J0;refine Gu H λh1 p c Ow O1=>bo rfl ?_;have H1:=H.only0 O1;refine lD H1 (aI rfl ?_);rw[nW,show(((be X.N:Nat):Int) !=((be X.N:Nat):Int))=false by simp,aJ]
 have sr:Cl 70 [au (aw s)] h1 λv9 h10=>v9=al (X.room:Int)/\h10=h1:=by obtain⟨B,F,e,H⟩:=H1;refine F70.spec ?_;exact aI (by rw[aL,At.rd H.m.S];rfl) ⟨rfl,rfl⟩
 refine sr.mono λv9 h10 ⟨e1,e2⟩=> ?_;subst e1 e2;refine aI rfl ?_;have hc:be X.N<=X.room:=ah;rw[decide_eq_false ah,aJ,<-nW];unfold F22.wk5 F22.Jk5
 have at_: ∀i,i<(nB X.N).length-> ∃a x,(nB X.N)[i]? =some a/\2<=a/\nd X.N (a-2)=some x/\isN X.N a/\lvl X.n X.N a=x.1/\low X.N a=x.2.1/\high X.N a=x.2.2/\a<32770:=λi hi=>by
  have h0:(nB X.N)[i]? =some (nB X.N)[i]:=List.getElem?_eq_getElem hi;obtain⟨h2,x,hx⟩:=wG.1 (List.mem_of_getElem? h0);refine⟨_,x,h0,h2,hx,.inr ⟨x,hx⟩,?_,?_,?_,H.isN_lt (.inr ⟨x,hx⟩)⟩
  ·unfold lvl;rw[if_neg ah,hx]
  ·unfold low;rw[if_neg ah,hx]
  ·unfold high;rw[if_neg ah,hx]
 have up: ∀i j a b,i<j->(nB X.N)[i]? =some a->(nB X.N)[j]? =some b->a<b:=λi j a b hij ha hb=>by have:=List.pairwise_iff_getElem.1 (show(nB X.N).Pairwise (· < ·)from yW _) i j (List.getElem?_eq_some_iff.1 ha).1 (List.getElem?_eq_some_iff.1 hb).1 hij;rw[(List.getElem?_eq_some_iff.1 ha).2,(List.getElem?_eq_some_iff.1 hb).2]at this;exact this
 have ldl: ∀{i:Nat} {a:Nat} {Q:Int->Prop},(nB X.N)[i]? =some a->Q (a:Int)->bf p (λa1=>(0<=(i:Int)/\(i:Int)<(Nat.cast (nB X.N).length:Int)/\aQ .u32 (rd h10 (Addr.add a1 (Int.toNat (i:Int)*1))) Q)):=λ{i a Q} ha hQ=>by have hi:=(List.getElem?_eq_some_iff.1 ha).1;obtain⟨b,eb,rr⟩:=Ow.rd (j:=i) (by simpa using hi);rw[eb,aU,aL,Nat.zero_add,show Int.toNat (i:Int)*1=i by omega,rr];exact⟨ah,ah,aI (n:=(a:Int)) (by simp[ha]) hQ⟩
 have hll:(nB X.N).length<=32768:=by rw[nW];omega
 have inner: ∀{bk:Addr->az->Nat->Nat->Int->aH->Prop} {i a:Nat} {x:Nd},(nB X.N)[i]? =some a->nd X.N (a-2)=some x->bk (aw s) p (nB X.N).length c ((i+1:Nat):Int) h10->
   ∀(d j:Nat),j+d=i->F22.wL12 bk (d+1) (aw s) p (nB X.N).length c (i:Int) (x.1:Int) (x.2.1:Int) (x.2.2:Int) (j:Int) h10 K:=by
  intro bk i a x ha hx hbk d;have hi:=(List.getElem?_eq_some_iff.1 ha).1
  induction d with
  |zero=>
   intro j hj;unfold F22.wL12 F22.JL12;rw[decide_eq_false ah,aJ,show ax ((i:Int)+1)=((i+1:Nat):Int) by rw[wrap_i64 ah ah];omega];exact hbk
  |succ d ih=>
   intro j hj;obtain⟨b,y,hb,b2,hy,nb,el,elo,ehi,-⟩:=at_ j ah;have lt:=up j i b a ah hb ha;unfold F22.wL12 F22.JL12;rw[decide_eq_true ah,aO,show ax ((j:Int)+1)=((j+1:Nat):Int) by rw[wrap_i64 ah ah];omega];have nx:=ih (j+1) ah;refine ldl hb (dy H1 nb (aI rfl (aT (λg1=> ?_) λ_=>nx)));refine ldl hb (iB H1 nb (aI rfl (aT (λg2=> ?_) λ_=>nx)));refine ldl hb (gp H1 nb (aI rfl (aT (λg3=> ?_) λ_=>nx)));exfalso;have e1:(lvl X.n X.N b:Int)=(x.1:Int):=eq_of_beq g1;have e2:(low X.N b:Int)=(x.2.1:Int):=eq_of_beq g2;have e3:(high X.N b:Int)=(x.2.2:Int):=eq_of_beq g3;rw[el]at e1;rw[elo]at e2;rw[ehi]at e3
   have:y=x:=by obtain⟨y1,y2,y3⟩:=y;obtain⟨x1,x2,x3⟩:=x;have e1:(y1:Int)=x1:=e1;have e2:(y2:Int)=x2:=e2;have e3:(y3:Int)=x3:=e3;rw[Int.ofNat.inj e1,Int.ofNat.inj e2,Int.ofNat.inj e3]
   subst this;have:=okN.once _ _ _ hy hx;omega
 have main: ∀(d i:Nat),i+d=(nB X.N).length->F22.wL5 (d+1) (aw s) p (nB X.N).length c (i:Int) h10 K:=by
  intro d
  induction d with
  |zero=>
   intro i hi;unfold F22.wL5 F22.JL5;rw[decide_eq_false ah,aJ];exact hK _ O1
  |succ d ih=>
   intro i hi;obtain⟨a,x,ha,a2,hx,na,el,elo,ehi,alt⟩:=at_ i ah;obtain⟨q1,q2,q3,q4,q5,q6⟩:=okN.node _ x hx;have q2':=H.isN_lt q2;have q3':=H.isN_lt q3;unfold F22.wL5 F22.JL5;rw[decide_eq_true ah,aO];have nx:=ih (i+1) ah
   have w12:F22.wk12 (λx0 x3p x3l x3c x4 h=>F22.wL5 (d+1) x0 x3p x3l x3c x4 h K) (aw s) p (nB X.N).length c (i:Int) (x.1:Int) (x.2.1:Int) (x.2.2:Int) 0 h10 K:=by unfold F22.wk12 F22.Jk12;exact⟨_,inner ha hx nx i 0 ah⟩
   refine ldl ha (dy H1 na (aI rfl (iB H1 na (aI rfl (gp H1 na (aI rfl ?_))))));rw[el,elo,ehi,decide_eq_false ah,aJ];refine aT (λg=> ?_) λg=> ?_
   ·have g:(i:Int)>0:=of_decide_eq_true g;obtain⟨b,y,hb,-⟩:=at_ (i-1) ah;have lt:=up (i-1) i b a ah hb ha;rw[show ax ((i:Int)-1)=((i-1:Nat):Int) by rw[wrap_i64 ah ah];omega];refine ldl hb ?_;rw[decide_eq_false ah,aJ];refine fk H1 na (aY rfl ?_);rw[Bool.not_true,aJ,decide_eq_false ah,aJ];refine fD H1 (aI rfl ?_);rw[decide_eq_false ah,aJ,show((x.2.1:Int)==(x.2.2:Int))=false by simp;omega,aJ];refine fk H1 q2 (aY rfl ?_);rw[Bool.not_true,aJ];refine fk H1 q3 (aY rfl ?_);rw[Bool.not_true,aJ];refine dy H1 q2 (aI rfl ?_);rw[decide_eq_false ah,aJ];refine dy H1 q3 (aI rfl ?_);rw[decide_eq_false ah,aJ];exact w12
   ·refine fk H1 na (aY rfl ?_);rw[Bool.not_true,aJ,decide_eq_false ah,aJ];refine fD H1 (aI rfl ?_);rw[decide_eq_false ah,aJ,show((x.2.1:Int)==(x.2.2:Int))=false by simp;omega,aJ];refine fk H1 q2 (aY rfl ?_);rw[Bool.not_true,aJ];refine fk H1 q3 (aY rfl ?_);rw[Bool.not_true,aJ];refine dy H1 q2 (aI rfl ?_);rw[decide_eq_false ah,aJ];refine dy H1 q3 (aI rfl ?_);rw[decide_eq_false ah,aJ];exact w12
 exact⟨_,main (nB X.N).length 0 ah⟩
end
end
section
section
variable {e s lo:Nat}{L:List Nat}{X:SX}{K:KK}{ec:List Value}
end
end
section
def xm{s q r:Nat}(hn:q≠s\/4<=r): ∀{xs:List Nat} {F:iU},va F s xs q r=F q r:=by
 intro xs
 induction xs with
 |nil=>intro F;rfl
 |cons o l ih=>
  intro F;show va (sW F s o) s l q r=_;rw[ih];unfold sW cf;rw[if_neg];rintro ⟨a,b⟩;omega
def AE{s q r:Nat}(hn:q≠s\/4<=r):bY (bY (bY (bY If s 0) s 1) s 2) s 3 q r=none:=by
 unfold bY cf;rw[if_neg (by rintro ⟨a,b⟩;omega),if_neg (by rintro ⟨a,b⟩;omega),if_neg (by rintro ⟨a,b⟩;omega),if_neg (by rintro ⟨a,b⟩;omega)]
 rfl
def ww{E:fV}{i r:Nat}(hi:i<4)(hr:r<6):rT E (i:Int) (r:Int)=(((E.ses i).hnd r:Int),(E.ses i).there r):=by unfold rT;rw[if_pos ⟨ah,by unfold iQ;omega⟩,Int.toNat_natCast,Int.toNat_natCast]
section
variable {h h0:aH}{e t k:Nat}{G:EG}{F:iU}
end
end
end Go.Proofs.YtnofenejoebkhaaGreat.Ev
