/- PART 3 OF WHAT THE LAW EngineStands STANDS ON: StoA5, SemA5, RunP5, RecF5, StoB5, StoC5, LogF5, PlyF5, FunE5, FunG5, FunH5, MakA5, PlyG5, MakB5, LogA5, TskF5, TskA5, LogB5, TskP5, TskB5, TskC5, TskD5, TskE5, TskH5, TskI5, TskJ5, DeqF5, DeqA405, DeqA415, DeqA425, DeqC5, DeqS5, DeqT5, DeqG5, DeqU5, DeqV5, PolF5, DeqP5. Conditions: none but those that each lemma states. -/
import Derived.Test.YtnofenejoebkhaaGreatG2
namespace Go.Proofs.YtnofenejoebkhaaGreat.Ev
open Go
set_option linter.defProp false
section
structure SX where
 n:Nat
 room:Nat
 f:Nat->Nat
 g:Nat->Nat
 N:ay
 Q:Int->Int->Prop
 off:Bool
def cI(h:aH)(s:Nat)(L:List Nat)(X:SX):Prop:= ∃B F,L=B.bm s++B.bt/\nF h s X.n X.room B X.f X.g X.N F X.Q X.off
def bH(L L':List Nat)(h:aH):Prop:= ∀b∈L',b∈L\/h.size<=b
def bH.refl(L:List Nat)(h:aH):bH L L h:=λ_ hb=> .inl hb
def bH.trans{L L' L'':List Nat}{h h':aH}(a:bH L L' h)(b:bH L' L'' h')(hz:h.size<=h'.size):bH L L'' h:=λx hx=>by
 rcases b x hx with h1|h1
 ·exact a x h1
 ·exact .inr ah
def aM.app{L L':List Nat}{h h' h'':aH}(a:aM L h h')(b:aM L' h' h'')(f:bH L L' h):aM L h h'':=a.trans b λx hx hl=>by
 rcases f x hx with h1|h1
 ·exact h1
 ·omega
section
variable {h h':aH}{s:Nat}{L S:List Nat}{X:SX}{K:KK}
def cI.only(H:cI h s L X)(O:aM S h h')(hS: ∀b∈S,b∉L):cI h' s L X:=by obtain⟨B,F,e,H⟩:=H;subst e;exact⟨B,F,rfl,H.only O λb hb=>⟨λhm=>hS b hb (List.mem_append.2 (.inl hm)),λhm=>hS b hb (List.mem_append.2 (.inr hm))⟩⟩
def cI.only0(H:cI h s L X)(O:aM [] h h'):cI h' s L X:=H.only O ak
def cI.lt(H:cI h s L X): ∀b∈L,b<h.size:=λb hb=>by
 obtain⟨B,F,e,H⟩:=H;subst e;rcases List.mem_append.1 hb with h1|h1
 ·exact H.m.lt b h1
 ·exact H.t.lt b h1
def cI.ok(H:cI h s L X):dz X.n X.N/\1<=X.n/\X.n<=8/\X.N.length<=X.room/\X.room<=32768/\be X.N<=X.N.length:=by obtain⟨B,F,e,H⟩:=H;exact⟨H.ok,H.m.n8.1,H.m.n8.2,H.m.len.1,H.m.len.2.1,lE _⟩
def cI.isN_lt(H:cI h s L X){a:Nat}(ha:isN X.N a):a<32770:=by obtain⟨B,F,e,H⟩:=H;have:=Ev.isN_lt H.m ha;have:=H.m.len;omega
def fD(H:cI h s L X)(hK:K (al (X.n:Int)) h):Cl 75 [au (aw s)] h K:=by obtain⟨B,F,e,H⟩:=H;exact vk H.m hK
def E5(H:cI h s L X){a:Nat}(ha:a<4294967296)(h1:isN X.N a->K aC h)(h0: ¬isN X.N a->K aB h):Cl 74 [au (aw s),ap (a:Int)] h K:=by obtain⟨B,F,e,H⟩:=H;exact FD H.m ha h1 h0
def fk(H:cI h s L X){a:Nat}(ha:isN X.N a)(h1:K aC h):Cl 74 [au (aw s),ap (a:Int)] h K:=
 E5 H (by have:=H.isN_lt ha;omega) (λ_=>h1) λe=>absurd ha e
def dy(H:cI h s L X){a:Nat}(ha:isN X.N a)(hK:K (al (lvl X.n X.N a:Int)) h):Cl 71 [au (aw s),ap (a:Int)] h K:=by obtain⟨B,F,e,H⟩:=H;exact lu H.m ha hK
def iB(H:cI h s L X){a:Nat}(ha:isN X.N a)(hK:K (ap (low X.N a:Int)) h):Cl 72 [au (aw s),ap (a:Int)] h K:=by obtain⟨B,F,e,H⟩:=H;exact yi H.m ha hK
def gp(H:cI h s L X){a:Nat}(ha:isN X.N a)(hK:K (ap (high X.N a:Int)) h):Cl 73 [au (aw s),ap (a:Int)] h K:=by obtain⟨B,F,e,H⟩:=H;exact uN H.m ha hK
def lD(H:cI h s L X)(hK:K (al (be X.N:Int)) h):Cl 45 [au (aw s)] h K:=by obtain⟨B,F,e,H⟩:=H;exact tP H.m H.cnt hK
def yD(H:cI h s L X){l a b:Nat}(hl:l<X.n)(ha:isN X.N a)(hb:isN X.N b)(la:l<lvl X.n X.N a)(lb:l<lvl X.n X.N b)
  (hK: ∀h' L' N' r e,jr X.room X.N l a b N' r e->cI h' s L' {X with N:=N'}->aM L h h'->bH L L' h->K (.tuple #[ap (r:Int),al (e:Int)]) h'):
  Cl 161 [au (aw s),al (l:Int),ap (a:Int),ap (b:Int)] h K:=by
 obtain⟨B,F,e,H⟩:=H;subst e;exact Il H hl ha hb la lb λh' B' N' F' r e R S O fr=>hK h' _ N' r e R ⟨B',F',rfl,S⟩ O fr
def yS{b n:Nat}{f g:Nat->Nat}(H:cx h b n f g)(hK: ∀c h',cx h' c n f g->h.size<=c->aM [] h h'->K (au (aw c)) h'):
  Cl 104 [au (aw b)] h K:=by
 refine F104.spec ?_;have r: ∀k,rd h ⟨b,k,none⟩=(al (n:Int)::(L8 f++L8 g))[k]? :=λk=>At.rd H k;refine aI (by rw[aL,r];rfl) (aI (by rw[aL,r];rfl) (aI (by rw[aL,r];rfl) (aI (by rw[aL,r];rfl) (aI (by rw[aL,r];rfl) (aI (by rw[aL,r];rfl) (aI (by rw[aL,r];rfl) (aI (by rw[aL,r];rfl) (aI (by rw[aL,r];rfl) (aI (by rw[aL,r];rfl) (aI (by rw[aL,r];rfl) (aI (by rw[aL,r];rfl) (aI (by rw[aL,r];rfl) (aI (by rw[aL,r];rfl) (aI (by rw[aL,r];rfl) (aI (by rw[aL,r];rfl) (aI (by rw[aL,r];rfl) ?_))))))))))))))));refine aV λh0 A0 O0 z0=> ?_;show pd (aw h.size) 0 (al (n:Int)::(L8 f++L8 g)) h0 λh'=>K (au (aw h.size)) h';refine jB (o:=0) _ 0 _ h0 A0 (by simp[L8]) (λv hv=> ?_) λh' A' O' z=>hK h.size h' ?_ (Nat.le_refl _) (O0.trans O' (by intro x hx hlt;simp at hx;omega))
 ·simp only[List.mem_cons,List.mem_append,L8,List.mem_map]at hv;rcases hv with e|⟨i,_,e⟩|⟨i,_,e⟩<;>subst e<;>rfl
 ·simp[fG]at A';exact A'
end
end
section
def sem(f:Nat->Nat)(N:ay):Nat->Nat->Nat->Bool
 |0,a,_=>a==1
 |d+1,a,x=>if a<2 then a==1 else if x.testBit (f (lvl 0 N a))then sem f N d (high N a) x else sem f N d (low N a) x
def sm(n:Nat)(f:Nat->Nat)(N:ay)(a x:Nat):Bool:=sem f N n a x
def Dw{n m:Nat}{N:ay}{a:Nat}(h:2<=a):lvl n N a=lvl m N a:=by unfold lvl;rw[if_neg ah,if_neg ah]
section
variable {n:Nat}{f:Nat->Nat}{N N':ay}{a b x:Nat}
def dz.at(H:dz n N)(ha:isN N a)(h2:2<=a):lvl n N a<n/\isN N (low N a)/\isN N (high N a)/\low N a≠high N a/\lvl n N a<lvl n N (low N a)/\lvl n N a<lvl n N (high N a):=by
 rcases ha with h|⟨x,h⟩
 ·omega
 ·have:=H.node _ x h;have e1:lvl n N a=x.1:=by unfold lvl;rw[if_neg ah,h]
  have e2:low N a=x.2.1:=by unfold low;rw[if_neg ah,h]
  have e3:high N a=x.2.2:=by unfold high;rw[if_neg ah,h]
  rw[e1,e2,e3];exact this
def lvl_le(H:dz n N)(ha:isN N a):lvl n N a<=n:=by
 by_cases h2:a<2
 ·unfold lvl;rw[if_pos h2];exact Nat.le_refl _
 ·have:=(H.at ha ah).1;omega
def uk(H:dz n N): ∀(d e:Nat) {a:Nat},isN N a->n-lvl n N a<=d->n-lvl n N a<=e->sem f N d a x=sem f N e a x:=by
 intro d
 induction d with
 |zero=>
  intro e a ha hd he
  have h2:a<2:=by apply Classical.byContradiction;intro hn;have:=(H.at ha ah).1;omega
  cases e with
  |zero=>rfl
  |succ e=>unfold sem;rw[if_pos h2]
 |succ d ih=>
  intro e a ha hd he;cases e with
  |zero=>
   have h2:a<2:=by apply Classical.byContradiction;intro hn;have:=(H.at ha ah).1;omega
   unfold sem;rw[if_pos h2]
  |succ e=>
   unfold sem;by_cases h2:a<2
   ·rw[if_pos h2,if_pos h2]
   ·rw[if_neg h2,if_neg h2];obtain⟨h3,h4,h5,-,h6,h7⟩:=H.at ha ah;split
    ·exact ih e h5 ah ah
    ·exact ih e h4 ah ah
def br(h:a<2):sm n f N a x=(a==1):=by
 unfold sm;cases n with
 |zero=>rfl
 |succ n=>unfold sem;rw[if_pos h]
def cS(H:dz n N)(ha:isN N a)(h2:2<=a):sm n f N a x=if x.testBit (f (lvl n N a))then sm n f N (high N a) x else sm n f N (low N a) x:=by
 obtain⟨h3,h4,h5,-,h6,h7⟩:=H.at ha h2;unfold sm;cases n with
 |zero=>omega
 |succ n=>
  conv=>lhs;unfold sem
  rw[if_neg ah,Dw (n:=0) (m:=n+1) h2,uk H n (n+1) h4 ah ah,uk H n (n+1) h5 ah ah]
def Ex(N N':ay):Prop:= ∀i x,nd N i=some x->nd N' i=some x
def Ex.refl(N:ay):Ex N N:=λ_ _ h=>h
def Ex.trans{N'':ay}(h:Ex N N')(g:Ex N' N''):Ex N N'':=λi x e=>g i x (h i x e)
def jN.ext{q:Nat}{x:Nd}(P:jN N N' q x):Ex N N':=λ_ _ h=>P.old h
def Ex.isN(E:Ex N N')(h:Ev.isN N a):Ev.isN N' a:=h.imp id λ⟨x,h⟩=>⟨x,E _ x h⟩
def Ex.lvl(E:Ex N N')(h:Ev.isN N a):lvl n N' a=lvl n N a:=by
 unfold Ev.lvl;rcases h with h|⟨x,h⟩
 ·rw[if_pos h,if_pos h]
 ·rw[E _ x h,h]
def Ex.low(E:Ex N N')(h:Ev.isN N a):low N' a=low N a:=by
 unfold Ev.low;rcases h with h|⟨x,h⟩
 ·rw[if_pos h,if_pos h]
 ·rw[E _ x h,h]
def Ex.high(E:Ex N N')(h:Ev.isN N a):high N' a=high N a:=by
 unfold Ev.high;rcases h with h|⟨x,h⟩
 ·rw[if_pos h,if_pos h]
 ·rw[E _ x h,h]
def Ex.sem(H:dz n N)(E:Ex N N'): ∀(d:Nat) {a:Nat},Ev.isN N a->Ev.sem f N' d a x=Ev.sem f N d a x:=by
 intro d
 induction d with
 |zero=>intro a _;rfl
 |succ d ih=>
  intro a ha;unfold Ev.sem;by_cases h2:a<2
  ·rw[if_pos h2,if_pos h2]
  ·obtain⟨h3,h4,h5,-,h6,h7⟩:=H.at ha ah;rw[if_neg h2,if_neg h2,E.lvl ha,E.low ha,E.high ha,ih h4,ih h5]
def Ex.sm(H:dz n N)(E:Ex N N')(ha:Ev.isN N a):sm n f N' a x=sm n f N a x:=E.sem H n ha
def lF{room l r:Nat}(H:dz n N)(H':dz n N')(ha:isN N a)(hb:isN N b)(la:l<lvl n N a)(R:jr room N l a b N' r 0):
  Ex N N'/\isN N' r/\l<=lvl n N' r/\ ∀x,sm n f N' r x=if x.testBit (f l)then sm n f N b x else sm n f N a x:=by
 rcases R with⟨h1,h2,-,h4⟩|⟨h1,i,h2,h3,-,h4⟩|⟨-,-,-,-,h,-⟩|⟨h1,-,-,-,q,h3,P⟩
 ·subst h1 h2 h4;exact⟨Ex.refl _,ha,ah,λx=>ak⟩
 ·subst h3 h4;have hr:isN N' (i+2):= .inr ⟨_,h2⟩;have e1:lvl n N' (i+2)=l:=by unfold lvl;rw[if_neg ah,show i+2-2=i by omega,h2]
  have e2:low N' (i+2)=a:=by unfold low;rw[if_neg ah,show i+2-2=i by omega,h2]
  have e3:high N' (i+2)=b:=by unfold high;rw[if_neg ah,show i+2-2=i by omega,h2]
  refine⟨Ex.refl _,hr,ah,λx=> ?_⟩;rw[cS H hr ah,e1,e2,e3]
 ·omega
 ·subst h3;have E:=P.ext;have hn:nd N' q=some (l,a,b):=by rw[P.get,if_pos rfl]
  have hr:isN N' (q+2):= .inr ⟨_,hn⟩;have e1:lvl n N' (q+2)=l:=by unfold lvl;rw[if_neg ah,show q+2-2=q by omega,hn]
  have e2:low N' (q+2)=a:=by unfold low;rw[if_neg ah,show q+2-2=q by omega,hn]
  have e3:high N' (q+2)=b:=by unfold high;rw[if_neg ah,show q+2-2=q by omega,hn]
  refine⟨E,hr,ah,λx=> ?_⟩;rw[cS H' hr ah,e1,e2,e3,E.sm H ha,E.sm H hb]
end
def rC{o:Option Nd}{N:ay}{i:Nat}:nd (o::N) (i+1)=nd N i:=by simp[nd]
end
section
def gf(n m:Nat)(leaf:Nat->Nat->Bool)(c:Nat->Nat->Bool->Bool->Bool)(N:ay):Nat->Nat->Nat->Bool
 |0,a,x=>leaf a x
 |d+1,a,x=>if m<=lvl n N a then leaf a x else c (lvl n N a) x (gf n m leaf c N d (low N a) x) (gf n m leaf c N d (high N a) x)
section
variable {n m:Nat}{leaf leaf':Nat->Nat->Bool}{c:Nat->Nat->Bool->Bool->Bool}{N N':ay}{a x:Nat}
def FZ(H:dz n N)(E:Ex N N')(hm:m<=n)(hl: ∀b,isN N b->leaf' b x=leaf b x): ∀(d:Nat) {a:Nat},isN N a->gf n m leaf' c N' d a x=gf n m leaf c N d a x:=by
 intro d
 induction d with
 |zero=>intro a ha;exact hl a ha
 |succ d ih=>
  intro a ha;unfold gf;rw[E.lvl ha];by_cases h2:m<=lvl n N a
  ·rw[if_pos h2,if_pos h2];exact hl a ha
  ·have a2:2<=a:=by
    apply Classical.byContradiction;intro hn;have:lvl n N a=n:=by unfold lvl;rw[if_pos ah]
    omega
   obtain⟨h3,h4,h5,-,h6,h7⟩:=H.at ha a2;rw[if_neg h2,if_neg h2,E.low ha,E.high ha,ih h4,ih h5]
end
def Ju(fo:Nat->Nat)(op mask:Nat)(l x:Nat)(p q:Bool):Bool:=if mask.testBit (fo l)then(if op=7 then p&&q else p||q)else if x.testBit (fo l)then q else p
def Ij(n:Nat)(fo:Nat->Nat)(op mask:Nat)(N:ay)(a x:Nat):Bool:=gf n n (λa _=>a==1) (Ju fo op mask) N n a x
section
variable {n:Nat}{fo:Nat->Nat}{N N':ay}{a x:Nat}
def Dj{op mask:Nat}(H:dz n N)(E:Ex N N')(ha:isN N a):Ij n fo op mask N' a x=Ij n fo op mask N a x:=FZ H E (Nat.le_refl _) (λb hb=>rfl) n ha
structure QR(n:Nat)(fo:Nat->Nat)(N:ay)(op mask a r:Nat):Prop where
 is:isN N r
 lv:lvl n N a<=lvl n N r
 sm: ∀x,sm n fo N r x=Ij n fo op mask N a x
def QR.ext{op mask r:Nat}(R:QR n fo N op mask a r)(H:dz n N)(E:Ex N N')(ha:isN N a):QR n fo N' op mask a r:=
 ⟨E.isN R.is,by rw[E.lvl ha,E.lvl R.is];exact R.lv,λx=>by rw[E.sm H R.is,R.sm,Dj H E ha]⟩
end
end
section
variable {i j k l m n o p q r s t:Int}{a b c d:Addr}{u v:Nat}{x y:az}{h:aH}{K:KK}
def F182.T:bj:=⟨[(5,[14,15]),(6,[14])],[(3,[[(0,[]),(1,[]),(2,[]),(3,[]),(4,[]),(5,[]),(6,[]),(7,[]),(8,[]),(9,[0,1,2,3]),(10,[]),(11,[])]])]⟩
section
variable (n:Nat)(c:Addr)(d f g i j:Int)(a:az)(b:Value)(h:aH)(K:KK)
def F182.wk6:Prop:=Cl 230 [aA a] h λa b=> ∃c:Int,∃d:Bool,a=(.tuple #[aq c,aD d])/\K (.tuple #[ap (IntKind.wrap .u32 c),aD d]) b
def F182.wL5:Prop:=Lp Tryz.f182 F182.T [1,1,1,0,1,0] n [(14,(aA a)),(15,b)] h K
def F182.sL5:F182.wL5 (n+1) a b h K=(eV Tryz.prog X b [] h λc d=>bI (some c) λc=>aK (!c) (F182.wL5 n a b d K) (F182.wk6 a d K)):=by kernel_rfl
def F182.wk5:Prop:=(∃c,F182.wL5 c a b h K)
def F182.spec(H:bI (rd h (c.add 7)) λa=>aK a (K (.tuple #[ap 0,aB]) h) (ba (rd h (c.add 6)) λa=>Cl 228 [.int .u8 d,.int .u8 f,ap g,ap i,ap j] h λb d=>aQ .u64 (some b) λb=>aF (au c)/\aF (au c)/\aF (au (c.add 6))/\ba (rd d (c.add 6)) λc=>aG (aA c) (aA a)/\Cl 227 [aA a,aq b] d λa b=>ba (some a) λa=>F182.wk5 a (.func (.func 229) #[aA a] #[]) b K)):Cl 182 [au c,.int .u8 d,.int .u8 f,ap g,ap i,ap j] h K:=cT F182.T Tryz.func182 H
end
def F207.T:bj:=⟨[(3,[15])],[(1,[[(0,[]),(1,[]),(2,[]),(3,[]),(4,[]),(5,[]),(6,[]),(7,[]),(8,[]),(10,[]),(11,[]),(9,[0,1,2,3,10,11]),(12,[]),(13,[])]])]⟩
section
variable (n:Nat)(b:Addr)(d f g i j c:Int)(a:Value)(h:aH)(K:KK)
def F207.wL3:Prop:=Lp Tryz.f207 F207.T [1,1,1,0] n [(15,a)] h K
def F207.sL3:F207.wL3 (n+1) a h K=(eV Tryz.prog X a [] h λb c=>bI (some b) λb=>aK (!b) (F207.wL3 n a c K) (K aE c)):=by kernel_rfl
def F207.wk3:Prop:=(∃b,F207.wL3 b a h K)
def F207.spec(H:bI (rd h (b.add 7)) λa=>aK a (K aE h) (ba (rd h (b.add 6)) λa=>Cl 228 [.int .u8 d,.int .u8 f,ap g,ap i,ap j] h λd e=>aQ .u64 (some d) λd=>aF (au b)/\aF (au b)/\aF (au (b.add 6))/\ba (rd e (b.add 6)) λb=>aG (aA b) (aA a)/\aF (ap c)/\aF (aq (IntKind.wrap .u64 c))/\Cl 252 [aA a,aq d,aq (IntKind.wrap .u64 c)] e λa b=>ba (some a) λa=>F207.wk3 (.func (.func 229) #[aA a] #[]) b K)):Cl 207 [au b,.int .u8 d,.int .u8 f,ap g,ap i,ap j,ap c] h K:=cT F207.T Tryz.func207 H
end
def F228.spec(H:(0<=(56:Int)/\0<=(48:Int)/\0<=(32:Int)/\0<=(16:Int)/\K (aq (bB .or .u64 (bB .or .u64 (bB .or .u64 (bB .or .u64 (IntKind.wrap .u64 ((IntKind.wrap .u64 i)*2^(min (Int.toNat 56) (IntKind.bits .u64)))) (IntKind.wrap .u64 ((IntKind.wrap .u64 j)*2^(min (Int.toNat 48) (IntKind.bits .u64))))) (IntKind.wrap .u64 ((IntKind.wrap .u64 k)*2^(min (Int.toNat 32) (IntKind.bits .u64))))) (IntKind.wrap .u64 ((IntKind.wrap .u64 l)*2^(min (Int.toNat 16) (IntKind.bits .u64))))) (IntKind.wrap .u64 m))) h)):Cl 228 [.int .u8 i,.int .u8 j,ap k,ap l,ap m] h K:=cN Tryz.func228 H
end
section
set_option maxRecDepth 100000 in
def BS{h:aH}{n room:Nat}{Q:Int->Int->Prop}{K:KK}(h1:1<=n)(h8:n<=8)(r1:1<=room)(r2:room<=32768)
  (hK: ∀h' s L,cI h' s L ⟨n,room,fill n,fill n,[],Q,false⟩->aM [] h h'->(∀b∈L,h.size<=b)->K (.tuple #[au (aw s),al 0]) h'):
  Cl 61 [al (n:Int),al (room:Int)] h K:=by
 refine F61.spec ?_;rw[decide_eq_false ah,aJ,decide_eq_false ah,aJ,decide_eq_false ah,aJ,decide_eq_false ah,aJ];unfold F61.wk5;simp only[aL,Nat.zero_add];refine BJ h1 h8 λob k1 Or g1 O1=>aR rfl ?_;have lo:ob<k1.size:=At.lt Or;refine aV λk2 A2 O2 z2=> ?_;refine o9 (k:=256) ah ah (aI rfl ?_);rw[show(3*256:Int)=((768:Nat):Int)from rfl];refine pj λcm cmc k3 M3 O3 g2 g3=>aR rfl ?_;rw[jy ah]at M3;have l1:=M3.head.lt;have l2:=M3.body.lt;refine sA (base:=0) (n:=256) M3 ah ah ak ak λcac k4 C4 O4 g4=>⟨_,_,rfl,?_⟩;have l3:=At.lt C4;have A4:=(A2.only O3 ak).only O4 ak;refine aS A4 ak rfl λk5 A5 O5 z5=> ?_;have hB: ∃B:SB,B=⟨ob,0,0,0,0,cac,cm,cmc,none,0,none,0⟩:=⟨_,rfl⟩;obtain⟨B,eB⟩:=hB
 have H5:Ga k5 k1.size n room B (fill n) (fill n) [] [] Q:=by
  subst eB;refine⟨(((Or.only O2 ak).only O3 ak).only O4 ak).only O5 (by simp;omega),cj.nil _ _ _,nq.nil _ _,⟨List.replicate 768 0,0,0,⟨C4.only O5 (by simp;omega),(M3.only O4 ak ak).only O5 (by simp;omega) (by simp;omega),by have:=M3.head.lt;show cac≠cm;omega,by show cac≠cmc;omega,by omega,by omega,by simp,by simp⟩,?_⟩,⟨h1,h8⟩,⟨ak,r2,ak⟩,?_⟩
  ·intro l hl
   have: ∀j,(List.replicate 768 (0:Int)).getD j 0=0:=λj=>by rw[List.getD_eq_getElem?_getD,List.getElem?_replicate];split<;>rfl
   rw[this];exact⟨ah,ah,ah,λe=>ah⟩
  ·have:=M3.ne;simp[SB.bm,aX];omega
 have:=nN (T:=32) (bp:=none) (bc:=0) (bl:=[]) (K:=λv h'=>(v=aE/\K (.tuple #[(au (aw k1.size)),(al (0:Int))]) h')) (show At k5 k1.size (tg room B 0 0 false (.pointer none) (.map none)) by subst eB;exact A5) H5 (λi hi=>absurd hi ak) (λa e=>by cases e) ak (by rw[dE];simp[nd]) (by rw[dE];simp[nd]) ⟨0,rfl⟩ (by rw[dE];simp[be]) ah λtb m mc sb k6 H6 T6 _ p1 p2 p3 p4 O6=>⟨rfl,?_⟩
 ·exact this
 rw[dE]at T6;have OO:aM [] h k6:=((((((O1.trans O2 ak).trans O3 ak).trans O4 ak).trans O5 (by intro b hb hl;simp at hb;have:=O1.size;omega)).trans O6 (by intro b hb hl;simp at hb;have:=O1.size;omega)));have z1:=O1.size;have z3:=O3.size;have z4:=O4.size;refine hK k6 k1.size _ ⟨_,[],rfl,H6,T6,⟨by simp[nd],by simp[nd]⟩,by simp[be],ak⟩ OO λb hb=> ?_;subst eB;simp[SB.bm,SB.bt,SB.tabs,aX]at hb;omega
section
variable {h h':aH}{s:Nat}{L S:List Nat}{X:SX}{K:KK}
def ic(H:cI h s L X)(hK: ∀c h',cx h' c X.n X.f X.g->h.size<=c->aM [] h h'->K (au (aw c)) h'):Cl 47 [au (aw s)] h K:=by obtain⟨B,F,e,H⟩:=H;refine F47.spec ?_;simp only[aL,Nat.zero_add];refine aR (by rw[At.rd H.m.S];rfl) ?_;exact yS H.m.O λc h' a b d=>aR rfl (hK c h' a b d)
end
end
section
def sP(op mask a b c:Nat):Nat:=op*2^56+(mask*2^48+(a*2^32+(b*2^16+c)))
def Ai{op mask a b c op' mask' a' b' c':Nat}(h2:mask<2^8)(h3:a<2^16)(h4:b<2^16)(h5:c<2^16)(g2:mask'<2^8)(g3:a'<2^16)(g4:b'<2^16)(g5:c'<2^16)(e:sP op mask a b c=sP op' mask' a' b' c'):
  op=op'/\mask=mask'/\a=a'/\b=b'/\c=c':=by
 unfold sP at e;omega
def vU{h:aH}{op mask a b c:Nat}{K:KK}(h1:op<2^8)(h2:mask<2^8)(h3:a<2^16)(h4:b<2^16)(h5:c<2^16)(hK:K (aq ((sP op mask a b c:Nat):Int)) h):
  Cl 228 [.int .u8 (op:Int),.int .u8 (mask:Int),ap (a:Int),ap (b:Int),ap (c:Int)] h K:=by
 refine F228.spec ?_;have U: ∀{x:Nat},x<2^64->IntKind.wrap .u64 (x:Int)=(x:Int):=λh=>mW (by unfold fP;omega)
 have e1:IntKind.wrap .u64 ((IntKind.wrap .u64 (op:Int))*2^(min (Int.toNat (56:Int)) (IntKind.bits .u64)))=((op<<<56:Nat):Int):=by rw[U ah,show min (Int.toNat (56:Int)) (IntKind.bits .u64)=56 by rfl,show(op:Int)*2^56=((op*2^56:Nat):Int) by omega,U ah,Nat.shiftLeft_eq]
 have e2:IntKind.wrap .u64 ((IntKind.wrap .u64 (mask:Int))*2^(min (Int.toNat (48:Int)) (IntKind.bits .u64)))=((mask<<<48:Nat):Int):=by rw[U ah,show min (Int.toNat (48:Int)) (IntKind.bits .u64)=48 by rfl,show(mask:Int)*2^48=((mask*2^48:Nat):Int) by omega,U ah,Nat.shiftLeft_eq]
 have e3:IntKind.wrap .u64 ((IntKind.wrap .u64 (a:Int))*2^(min (Int.toNat (32:Int)) (IntKind.bits .u64)))=((a<<<32:Nat):Int):=by rw[U ah,show min (Int.toNat (32:Int)) (IntKind.bits .u64)=32 by rfl,show(a:Int)*2^32=((a*2^32:Nat):Int) by omega,U ah,Nat.shiftLeft_eq]
 have e4:IntKind.wrap .u64 ((IntKind.wrap .u64 (b:Int))*2^(min (Int.toNat (16:Int)) (IntKind.bits .u64)))=((b<<<16:Nat):Int):=by rw[U ah,show min (Int.toNat (16:Int)) (IntKind.bits .u64)=16 by rfl,show(b:Int)*2^16=((b*2^16:Nat):Int) by omega,U ah,Nat.shiftLeft_eq]
 refine⟨ah,ah,ah,ah,?_⟩;rw[e1,e2,e3,e4,U ah];have s1:op<<<56<fP:=by rw[Nat.shiftLeft_eq];unfold fP;omega
 have s2:mask<<<48<fP:=by rw[Nat.shiftLeft_eq];unfold fP;omega
 have s3:a<<<32<fP:=by rw[Nat.shiftLeft_eq];unfold fP;omega
 have s4:b<<<16<fP:=by rw[Nat.shiftLeft_eq];unfold fP;omega
 have s5:c<fP:=by unfold fP;omega
 rw[Ej s1 s2,Ej (mU s1 s2) s3,Ej (mU (mU s1 s2) s3) s4,Ej (mU (mU (mU s1 s2) s3) s4) s5,Nat.or_assoc,Nat.or_assoc,Nat.or_assoc,<-Nat.shiftLeft_add_eq_or_of_lt h5,
  <-Nat.shiftLeft_add_eq_or_of_lt (b:=b<<<16+c) (by rw[Nat.shiftLeft_eq];omega),<-Nat.shiftLeft_add_eq_or_of_lt (b:=a<<<32+(b<<<16+c)) (by rw[Nat.shiftLeft_eq,Nat.shiftLeft_eq];omega),
  <-Nat.shiftLeft_add_eq_or_of_lt (b:=mask<<<48+(a<<<32+(b<<<16+c))) (by rw[Nat.shiftLeft_eq,Nat.shiftLeft_eq,Nat.shiftLeft_eq];omega)]
 rw[Nat.shiftLeft_eq,Nat.shiftLeft_eq,Nat.shiftLeft_eq,Nat.shiftLeft_eq];exact hK
def mP.get{Q:Int->Int->Prop}{cs:List Int}{key v:Int}(S:mP Q cs)(G:vC (dZ 0 256 key) key cs v true):Q key v:=by
 rcases G with⟨-,h1,h2,h3⟩|⟨h,-⟩
 ·have hl:=fU key (n:=256) ah;obtain⟨a,b,c,d⟩:=S (gL key 256) hl;unfold dZ at h1 h2 h3;rw[Nat.zero_add]at h1 h2 h3;rw[xG a b]at h1;rw[<-h2,h3];exact d h1
 ·cases h
def mP.put{Q:Int->Int->Prop}{cs cs':List Int}{key v:Int}(S:mP Q cs)(G:u5 (dZ 0 256 key) key v cs cs')(hq:Q key v):mP Q cs':=by
 obtain⟨h1,h2,h3⟩:=G;have hl:=fU key (n:=256) ah;unfold dZ at h2 h3;generalize gL key 256=y at hl h2 h3;rw[Nat.zero_add]at h2 h3;rcases h3 with⟨h4,h5,h6,h7⟩|⟨-,h4⟩
 ·intro l hl';by_cases e:l=y
  ·subst e;obtain⟨a,b,c,d⟩:=S l hl';rw[FM a b]at h5;rw[h5,h6,h7];have w:=mQ (4*(cs.getD (3*l) 0/4)+2+cs.getD (3*l) 0%2+4);rw[w];refine⟨ah,ah,ah,λ_=>hq⟩
  ·rw[h2 (3*l) ah ah ah,h2 (3*l+1) ah ah ah,h2 (3*l+2) ah ah ah];exact S l hl'
 ·subst h4;exact S
def D6:bZ X 229=some cY.go:=by kernel_rfl
section
variable {h:aH}{s:Nat}{L S:List Nat}{X:SX}{K:KK}
def ui{c m mc f:Nat}{cs:List Int}{ops fails:Int}{key:Int}(W:CW h c m mc 0 256 cs ops fails)(H:gr h f m (Fm 0 256 key))(d1:f≠c)(d2:f≠m)(d3:f≠mc)
  (hK: ∀h' ops' fails' v ok,vC (dZ 0 256 key) key cs v ok->CW h' c m mc 0 256 cs ops' fails'->aM [f,m,mc] h h'->K (.tuple #[ap (IntKind.wrap .u32 v),aD ok]) h'):
  F182.wk5 (some (aw f)) (.func (.func 229) #[au (aw f)] #[]) h K:=by
 unfold F182.wk5
 have main: ∀(d:Nat) (A:Ac) (h1:aH) (ops1 fails1:Int),9-A.ph<=d->A.ph<=8->CL cs A->A.pos=dZ 0 256 key->A.key=key->gr h1 f m A->CW h1 c m mc 0 256 cs ops1 fails1->aM [f,m,mc] h h1->
   F182.wL5 (d+1) (some (aw f)) (.func (.func 229) #[au (aw f)] #[]) h1 K:=by
  intro d
  induction d with
  |zero=>intro A h1 ops1 fails1 hg hp;omega
  |succ d ih=>
   intro A h1 ops1 fails1 hg hph G hp hk H1 W1 O1;rw[F182.sL5];refine bE D6 ?_;refine ta W1 H1 (by rw[hp];exact W1.pos key) hph d1 d2 d3 λh2 ops2 fails2 H2 W2 O2=>aY rfl ?_;obtain⟨s1,s2,s3,s4⟩:=G.step;rw[s1]at W2;have O12:=O1.trans O2 λb hb _=>hb;rcases s4 with⟨e,r⟩|⟨G',e⟩
   ·rw[e,Bool.not_true,aJ];unfold F182.wk6;refine Bx H2 ⟨_,_,rfl,?_⟩;rw[hp,hk]at r;exact hK h2 ops2 fails2 _ _ r W2 O12
   ·rw[G'.1,Bool.not_false,aO]
    have hp8:(bL cs A).1.ph<=8:=by rcases G'.2.2 with e'|⟨e',_⟩|⟨e',_⟩|⟨e',_⟩<;>omega
    exact ih _ h2 ops2 fails2 ah hp8 G' (s2.trans hp) (s3.trans hk) H2 W2 O12
 exact⟨_,main 5 (Fm 0 256 key) h ops fails (by show 9-5<=5;omega) (by show 5<=8;omega) ⟨rfl,rfl,Or.inl rfl⟩ rfl rfl H W (aM.refl _ _)⟩
def xq{c m mc f:Nat}{cs:List Int}{ops fails:Int}{key val:Int}(W:CW h c m mc 0 256 cs ops fails)(H:gr h f m (FV 0 256 key val))(d1:f≠c)(d2:f≠m)(d3:f≠mc)
  (hK: ∀h' ops' fails' cs',u5 (dZ 0 256 key) key val cs cs'->CW h' c m mc 0 256 cs' ops' fails'->aM [f,m,mc] h h'->K aE h'):
  F207.wk3 (.func (.func 229) #[au (aw f)] #[]) h K:=by
 unfold F207.wk3
 have main: ∀(d:Nat) (A:Ac) (cs1:List Int) (h1:aH) (ops1 fails1:Int),5-A.ph<=d->A.ph<=4->wF cs cs1 A->A.pos=dZ 0 256 key->A.key=key->A.val=val->gr h1 f m A->CW h1 c m mc 0 256 cs1 ops1 fails1->aM [f,m,mc] h h1->
   F207.wL3 (d+1) (.func (.func 229) #[au (aw f)] #[]) h1 K:=by
  intro d
  induction d with
  |zero=>intro A cs1 h1 ops1 fails1 hg hp;omega
  |succ d ih=>
   intro A cs1 h1 ops1 fails1 hg hph G hp hk hv H1 W1 O1;rw[F207.sL3];refine bE D6 ?_;refine ta W1 H1 (by rw[hp];exact W1.pos key) ah d1 d2 d3 λh2 ops2 fails2 H2 W2 O2=>aY rfl ?_;obtain⟨s2,s3,s3',s4⟩:=G.step (by rw[hp];exact W.pos key);have O12:=O1.trans O2 λb hb _=>hb;rcases s4 with⟨e,eo,r⟩|⟨G',e⟩
   ·rw[e,Bool.not_true,aJ];rw[hp,hk,hv]at r;exact hK h2 ops2 fails2 _ r W2 O12
   ·rw[G'.1,Bool.not_false,aO]
    have hp4:(bL cs1 A).1.ph<=4:=by rcases G'.2.2 with⟨e',_⟩|⟨_,_,⟨e',_⟩|⟨e',_⟩|⟨e',_⟩|⟨e',_⟩⟩<;>omega
    exact ih _ _ h2 ops2 fails2 ah hp4 G' (s2.trans hp) (s3.trans hk) (s3'.trans hv) H2 W2 O12
 exact⟨_,main 5 (FV 0 256 key val) cs h ops fails (by show 5-0<=5;omega) (Nat.zero_le _) ⟨rfl,rfl,Or.inl ⟨rfl,rfl⟩⟩ rfl rfl rfl H W (aM.refl _ _)⟩
def sG{B:SB}{F:List Nat}{h':aH}(H:nF h s X.n X.room B X.f X.g X.N F X.Q X.off)(O:aM [B.cm,B.cmc] h h')(C:qB h' B X.Q):nF h' s X.n X.room B X.f X.g X.N F X.Q X.off:=by
 have sp:=H.m.sep;have ts:=H.t.sep
 have n1: ∀b,b∈[s,B.ob]++aX B.p++aX B.fp->b∉[B.cm,B.cmc]:=λb hb hm=>by
  unfold SB.bm at sp;simp only[List.nodup_append,List.mem_append,ne_eq,List.nodup_cons,List.mem_cons,List.not_mem_nil,or_false,not_or]at sp;obtain⟨⟨g1,_,g2⟩,_,g4⟩:=sp;have hc:b=s\/b=B.ob\/b=B.cac\/b=B.cm\/b=B.cmc:=by simp at hm;omega
  simp only[List.mem_append,List.mem_cons,List.not_mem_nil,or_false]at hb hm;rcases hb with(hb|hb)|hb
  ·omega
  ·exact g2 b hc b hb rfl
  ·exact g4 b (.inl hc) b hb rfl
 refine⟨⟨H.m.S.only O (n1 _ ak),H.m.O.only O (n1 _ ak),H.m.own.only O λb hb=>n1 _ (by simp[hb,aX]),H.m.fre.only O λb hb=>n1 _ (by simp[hb]),C,H.m.n8,H.m.len,H.m.sep⟩,H.t.only O λb hb hm=>ts b hm (by simp[SB.bm]at hb ⊢;omega),H.ok,H.cnt,H.fre⟩
def uJ(H:cI h s L X){op mask a b c:Nat}(h1:op<2^8)(h2:mask<2^8)(h3:a<2^16)(h4:b<2^16)(h5:c<2^16)
  (hN: ∀h',cI h' s L X->aM L h h'->K (.tuple #[ap 0,aB]) h') (hY: ∀h' v,X.Q (sP op mask a b c:Nat) v->cI h' s L X->aM L h h'->K (.tuple #[ap (IntKind.wrap .u32 v),aC]) h'):
  Cl 182 [au (aw s),.int .u8 (op:Int),.int .u8 (mask:Int),ap (a:Int),ap (b:Int),ap (c:Int)] h K:=by
 have H0:=H;obtain⟨B,F,e,H⟩:=H;obtain⟨cs,o,f',W,S⟩:=H.m.cac;refine F182.spec _ _ _ _ _ _ h K ?_;simp only[aL,Nat.zero_add];refine aY (n:=X.off) (by rw[At.rd H.m.S];rfl) (aT (λ_=>hN h H0 (aM.refl _ _)) λ_=> ?_);have rc:rd h ⟨s,6,none⟩=some (au (aw B.cac)):=by rw[At.rd H.m.S];rfl
 refine aR rc (vU h1 h2 h3 h4 h5 (aI rfl ⟨trivial,trivial,trivial,aR rc ⟨rfl,?_⟩⟩));refine zR W.cac ah ah ah λf k1 A1 O1 g1=>aR rfl ?_;have wl:=W.lt;refine ui (W.only O1 ak ak ak) A1 ah ah ah λh' ops' fails' v ok G W' O'=> ?_;have OO:aM [B.cm,B.cmc] h h':=((aM.refl [B.cm,B.cmc] h).trans O1 ak).trans O' (by intro x hx hl;simp at hx ⊢;omega);have S':cI h' s L X:=⟨B,F,e,sG H OO ⟨cs,ops',fails',W',S⟩⟩
 have OL:aM L h h':=OO.mono λx hx _=>by subst e;simp[SB.bm]at hx ⊢;omega
 cases ok with
 |true=>exact hY h' v (S.get G) S' OL
 |false=>
  rcases G with⟨g,-⟩|⟨-,g,-⟩
  ·cases g
  ·subst g;exact hN h' S' OL
def zm(H:cI h s L X){op mask a b c r:Nat}(h1:op<2^8)(h2:mask<2^8)(h3:a<2^16)(h4:b<2^16)(h5:c<2^16)(h6:r<2^32)(hq:X.Q (sP op mask a b c:Nat) (r:Int))
  (hK: ∀h',cI h' s L X->aM L h h'->K aE h'):
  Cl 207 [au (aw s),.int .u8 (op:Int),.int .u8 (mask:Int),ap (a:Int),ap (b:Int),ap (c:Int),ap (r:Int)] h K:=by
 have H0:=H;obtain⟨B,F,e,H⟩:=H;obtain⟨cs,o,f',W,S⟩:=H.m.cac;refine F207.spec _ _ _ _ _ _ _ h K ?_;simp only[aL,Nat.zero_add];refine aY (n:=X.off) (by rw[At.rd H.m.S];rfl) (aT (λ_=>hK h H0 (aM.refl _ _)) λ_=> ?_);have rc:rd h ⟨s,6,none⟩=some (au (aw B.cac)):=by rw[At.rd H.m.S];rfl
 refine aR rc (vU h1 h2 h3 h4 h5 (aI rfl ⟨trivial,trivial,trivial,aR rc ⟨rfl,by trivial,by trivial,?_⟩⟩));rw[mW (a:=r) (by unfold fP;omega)];refine An W.cac ah ah ah λf k1 A1 O1 g1=>aR rfl ?_;have wl:=W.lt;refine xq (W.only O1 ak ak ak) A1 ah ah ah λh' ops' fails' cs' G W' O'=> ?_;have OO:aM [B.cm,B.cmc] h h':=((aM.refl [B.cm,B.cmc] h).trans O1 ak).trans O' (by intro x hx hl;simp at hx ⊢;omega);have S':cI h' s L X:=⟨B,F,e,sG H OO ⟨cs',ops',fails',W',S.put G hq⟩⟩
 have OL:aM L h h':=OO.mono λx hx _=>by subst e;simp[SB.bm]at hx ⊢;omega
 exact hK h' S' OL
end
end
section
end
section
end
section
def Fs: ∀y:Fin 256,∀v:Fin 8,∀b:Bool,vV y.1 v.1 b<256:=by decide+kernel
end
section
end
section
def iG{h:aH}{b:Nat}{g0 g:Nat->Nat}{K:aH->Prop}(A:At h b (cQ g0))(hK: ∀h',At h' b (cQ g)->aM [b] h h'->K h'):
  aW h (Addr.add (aw b) 0) (aq ((g 0:Nat):Int)) λh1=>aW h1 (Addr.add (aw b) 1) (aq ((g 1:Nat):Int)) λh2=>aW h2 (Addr.add (aw b) 2) (aq ((g 2:Nat):Int)) λh3=>aW h3 (Addr.add (aw b) 3) (aq ((g 3:Nat):Int)) K:=by
 simp only[aL,Nat.zero_add]
 exact iS A (by decide) λh1 C1 O1=>iS C1 (by decide) λh2 C2 O2=>iS C2 (by decide) λh3 C3 O3=>iS C3 (by decide) λh4 C4 O4=>
  hK h4 C4 (((O1.trans O2 ak).trans O3 ak).trans O4 ak)
def DG: ∀y:Fin 256,∀v:Fin 8,(bB .and .i64 (Int.fdiv ((y.1:Nat):Int) (2^(min (Int.toNat (IntKind.wrap .u64 ((v.1:Nat):Int))) (IntKind.bits .i64)))) 1==1)=y.1.testBit v.1:=by decide+kernel
set_option maxRecDepth 100000 in
def Ec{h:aH}{v:Int}{K:KK}
  (hK: ∀h' g,iA g->(∀y,y<256->fb g y=(decide (0<=v/\v<8)&&y.testBit v.toNat))->aM [] h h'->K (iK g) h'):Cl 33 [al v] h K:=by
 refine F33.spec _ h K ?_;refine aV λh1 A1 O1 z1=>aV λh2 A2 O2 z2=> ?_
 replace A1:At h1 h.size (cQ λ_=>0):=A1
 replace A2:At h2 h1.size (cQ λ_=>0):=A2
 have B1:=A1.only O2 ak;have hne:h1.size≠h.size:=ah;refine iG (g:=λ_=>0) A2 λh3 A3 O3=> ?_;have B3:=B1.only O3 (by simp;omega);have O03:aM [] h h3:=(O1.trans O2 ak).trans O3 (by intro b hb hlt;simp at hb;omega);unfold F33.wk3;by_cases hv:0<=v/\v<8
 ·obtain⟨n,rfl⟩: ∃n:Nat,v=n:=⟨v.toNat,ah⟩;have hn:n<8:=ah
  have main: ∀(d k:Nat) (g:Nat->Nat) (h':aH),k+d=256->iA g->(∀y,y<256->fb g y=(y.testBit n&&decide (y<k)))->At h' h1.size (cQ g)->At h' h.size (cQ λ_=>0)->aM [] h h'->
    F33.wL3 (d+1) n (aw h.size) (aw h1.size) k h' K:=by
   intro d
   induction d with
   |zero=>
    intro k g h' hd hg hf A C O;rw[F33.sL3];rw[show decide ((k:Int)<256)=false by simp;omega,aJ];refine qk A C hne λh'' O''=>hK h'' g hg (λy hy=> ?_) (O.trans O'' (by intro b hb hlt;simp at hb;omega));rw[hf y hy,decide_eq_true ah,Bool.and_true,decide_eq_true hv,Bool.true_and,Int.toNat_natCast]
   |succ d ih=>
    intro k g h' hd hg hf A C O;rw[F33.sL3];have e:=DG ⟨k,ah⟩ ⟨n,hn⟩;dsimp only at e
    rw[show decide ((k:Int)<256)=true by simp;omega,aO,show decide ((n:Int)>=0)=true by simp,aO,show decide ((n:Int)<8)=true by simp;omega,aO,e,
     tV ah,show ax ((k:Int)+1)=((k+1:Nat):Int) by rw[wrap_i64 ah ah];omega,mW (a:=n) (by unfold fP;omega)]
    refine⟨ah,?_⟩;refine Gi A hg ah λh'' A'' O''=>⟨rfl,ih (k+1) _ h'' ah (CF hg) (λy hy=> ?_) A'' (C.only O'' (by simp;omega)) (O.trans O'' (by intro b hb hlt;simp at hb;omega))⟩;rw[Cg,hf y hy];by_cases e:y=k
    ·subst e;simp
    ·by_cases l:y<k
     ·simp[e,l,show y<k+1 by omega]
     ·simp[e,l,show ¬y<k+1 by omega]
  exact⟨_,main 256 0 _ h3 rfl (λ_ _=>by decide) (λy _=>by rw[wm];simp) A3 B3 O03⟩
 ·refine⟨1,?_⟩;rw[F33.sL3];rw[show decide ((0:Int)<256)=true by decide,aO];have out: ∀h',aM [h.size] h3 h'->K (iK λ_=>0) h':=λh' O=>hK h' _ (λ_ _=>by decide) (λy _=>by rw[wm,decide_eq_false hv,Bool.false_and]) (O03.trans O (by intro b hb hlt;simp at hb;omega));refine aT (λhb=> ?_) λhb=> ?_
  ·have hb:=of_decide_eq_true hb;rw[decide_eq_false ah,aJ];exact qk A3 B3 hne out
  ·exact qk A3 B3 hne out
end
section
def uw{h:aH}{b:Nat}{g:Nat->Nat}{K:Int->Int->Int->Int->Prop}(A:At h b (cQ g))(hK:K (g 0:Int) (g 1:Int) (g 2:Int) (g 3:Int)):
  aQ .u64 (rd h (Addr.add (aw b) 0)) λn1=>aQ .u64 (rd h (Addr.add (aw b) 1)) λn2=>aQ .u64 (rd h (Addr.add (aw b) 2)) λn3=>aQ .u64 (rd h (Addr.add (aw b) 3)) λn4=>K n1 n2 n3 n4:=by
 simp only[aL,Nat.zero_add];exact aI (eW A (by decide)) (aI (eW A (by decide)) (aI (eW A (by decide)) (aI (eW A (by decide)) hK)))
def Gt(n:Nat)(f:Nat->Nat):List Value:=((List.range n).map λi=>(f i:Int)).map (.int .i64)
end
section
end
section
def Ca: ∀y:Fin 256,∀v:Fin 8,∀b:Bool,∀i:Fin 8,(vV y.1 v.1 b).testBit i.1=if i.1=v.1 then b else y.1.testBit i.1:=by decide+kernel
def mw{y v i:Nat}(hy:y<256)(hv:v<8)(b:Bool)(hi:i<8):(vV y v b).testBit i=if i=v then b else y.testBit i:=Ca ⟨y,hy⟩ ⟨v,hv⟩ b ⟨i,hi⟩
def Cy{y v:Nat}(hy:y<256)(hv:v<8)(b:Bool):vV y v b<256:=Fs ⟨y,hy⟩ ⟨v,hv⟩ b
def Jl{g c:Nat->Nat}(hg:iA g)(hc:iA c):(((g 0:Int)==(c 0:Int))&&(((g 1:Int)==(c 1:Int))&&(((g 2:Int)==(c 2:Int))&&(((g 3:Int)==(c 3:Int))&&true))))=true↔ ∀y,y<256->fb g y=fb c y:=by
 simp only[Bool.and_eq_true,beq_iff_eq,and_true];constructor
 ·rintro ⟨h0,h1,h2,h3⟩ y hy;unfold fb;have:y/64=0\/y/64=1\/y/64=2\/y/64=3:=ah;rcases this with e|e|e|e<;>rw[e]<;>congr 1<;>omega
 ·intro h;have:=FP hg hc h;exact⟨by rw[this 0 ah],by rw[this 1 ah],by rw[this 2 ah],by rw[this 3 ah]⟩
end
section
def od(op:Nat)(x y z:Bool):Bool:=if op=2 then x&&y else if op=3 then x||y else if op=4 then x !=y else if x then y else z
structure kS(n:Nat)(f:Nat->Nat)(N:ay)(op a b c r:Nat):Prop where
 is:isN N r
 lv: ∀k,k<=lvl n N a->k<=lvl n N b->k<=lvl n N c->k<=lvl n N r
 sm: ∀x,sm n f N r x=od op (sm n f N a x) (sm n f N b x) (sm n f N c x)
def kS.ext{n:Nat}{f:Nat->Nat}{N N':ay}{op a b c r:Nat}(R:kS n f N op a b c r)(H:dz n N)(E:Ex N N')(ha:isN N a)(hb:isN N b)(hc:isN N c):kS n f N' op a b c r:=
 ⟨E.isN R.is,λk h1 h2 h3=>by rw[E.lvl ha]at h1;rw[E.lvl hb]at h2;rw[E.lvl hc]at h3;rw[E.lvl R.is];exact R.lv k h1 h2 h3,λx=>by rw[E.sm H R.is,E.sm H ha,E.sm H hb,E.sm H hc,R.sm]⟩
def QL(n:Nat)(f:Nat->Nat)(N:ay)(k v:Int):Prop:= ∃op mask a b c r:Nat,k=(sP op mask a b c:Nat)/\v=(r:Int)/\mask<2^8/\isN N a/\isN N b/\isN N c/\a<2^16/\b<2^16/\c<2^16/\
 ((op<6/\mask=0/\kS n f N op a b c r)\/((op=6\/op=7)/\QR n f N op mask a r))
def QL.ext{n:Nat}{f:Nat->Nat}{N N':ay}{k v:Int}(Q:QL n f N k v)(H:dz n N)(E:Ex N N'):QL n f N' k v:=by obtain⟨op,mask,a,b,c,r,h1,h2,h3,h4,h5,h6,h7,h8,h9,R⟩:=Q;exact⟨op,mask,a,b,c,r,h1,h2,h3,E.isN h4,E.isN h5,E.isN h6,h7,h8,h9,R.imp (λ⟨x,y,R⟩=>⟨x,y,R.ext H E h4 h5 h6⟩) λ⟨x,R⟩=>⟨x,R.ext H E h4⟩⟩
def QL.get{n:Nat}{f:Nat->Nat}{N:ay}{op a b c:Nat}{v:Int}(h6:op<6)(Q:QL n f N (sP op 0 a b c:Nat) v)(ha:a<2^16)(hb:b<2^16)(hc:c<2^16): ∃r:Nat,v=r/\kS n f N op a b c r:=by
 obtain⟨op',mask',a',b',c',r,h1,h2,h3,-,-,-,h7,h8,h9,R⟩:=Q;obtain⟨e1,e0,e2,e3,e4⟩:=Ai (by decide) ha hb hc h3 h7 h8 h9 (Int.ofNat.inj h1);subst e1 e0 e2 e3 e4;rcases R with⟨-,-,R⟩|⟨h,-⟩
 ·exact⟨r,h2,R⟩
 ·omega
def Gz{h:aH}{s:Nat}{L:List Nat}{X:SX}(H:cI h s L X){Q':Int->Int->Prop}(hQ: ∀k v,X.Q k v->Q' k v):cI h s L {X with Q:=Q'}:=by obtain⟨B,F,e,H⟩:=H;obtain⟨cs,o,fl,c1,c2⟩:=H.m.cac;refine⟨B,F,e,⟨⟨H.m.S,H.m.O,H.m.own,H.m.fre,⟨cs,o,fl,c1,λl hl=> ?_⟩,H.m.n8,H.m.len,H.m.sep⟩,H.t,H.ok,H.cnt,H.fre⟩⟩;obtain⟨g1,g2,g3,g4⟩:=c2 l hl;exact⟨g1,g2,g3,λe=>hQ _ _ (g4 e)⟩
def XL(n room:Nat)(f g:Nat->Nat)(N:ay)(off:Bool):SX:=⟨n,room,f,g,N,QL n f N,off⟩
def yM{h:aH}{s n room:Nat}{f g:Nat->Nat}{L:List Nat}{N N':ay}{off:Bool}(H:cI h s L {XL n room f g N off with N:=N'})(ok:dz n N)(E:Ex N N'):cI h s L (XL n room f g N' off):=
 Gz H λ_ _ h=>QL.ext h ok E
def nV{n:Nat}{N:ay}{a:Nat}(h:a<2):lvl n N a=n:=by unfold lvl;rw[if_pos h]
def fj{a b:Nat}:((a:Int)==(b:Int))=decide (a=b):=by
 by_cases h:a=b
 ·subst h;simp
 ·rw[decide_eq_false h];simp;omega
end
section
variable {i j k l m n o p q r s t:Int}{a b c d:Addr}{u v:Nat}{x y:az}{h:aH}{K:KK}
def F91.T:bj:=⟨[(7,[3,7,8,9]),(10,[3,7,8])],[(13,[[(0,[]),(1,[]),(2,[]),(3,[]),(4,[]),(5,[]),(6,[]),(7,[1,2,3,4]),(8,[]),(9,[]),(10,[])]])]⟩
section
variable (n:Nat)(o:Addr)(f g i j l:Int)(b a c:Addr)(d:Int)(h:aH)(K:KK)
def F91.JL7(bk7:Addr->Addr->Addr->Int->aH->Prop)(k10:Addr->Addr->Addr->aH->Prop)(b a c:Addr)(d:Int)(h:aH)(_K:KK):Prop:=aK (d<3) ((0<=d/\d<3/\aW h ((c.add (d.toNat*1)).add 0) (ap 0) λe=>bk7 b a c (ax (d+1)) e)) (k10 b a c h)
def F91.wk10:Prop:=aQ .i64 (rd h (b.add 0)) λd=>aQ .u8 (rd h (b.add 4)) λe=>aQ .u32 (rd h (c.add 0)) λf=>aQ .u32 (rd h (c.add 1)) λg=>aQ .u32 (rd h (c.add 2)) λc=>Cl 135 [au a,.int .u8 (IntKind.wrap .u8 d),.int .u8 e,.agg #[ap f,ap g,ap c]] h λc d=>ba (some c) λc=>aQ .i64 (rd d (b.add 0)) λe=>aK (e==1) (aQ .u32 (rd d (b.add 1)) λe=>bf c λf=>aW d ((f.add 1).add 0) (.int .u8 4) λd=>aF (aA c)/\aF (au (b.add 1))/\aQ .u32 (rd d (b.add 1)) λb=>aG (ap b) (ap e)/\aF (.agg #[ap 1,ap e,ap 0])/\bf c λb=>aW d ((b.add 3).add 0) (ap 1) λc=>aW c ((b.add 3).add 1) (ap e) λc=>aW c ((b.add 3).add 2) (ap 0) λb=>K (.tuple #[au a,al 0]) b) (aK (e==6) (aK (e==6) (bf c λb=>aW d ((b.add 8).add 0) (.func (.func 136) #[aA c] #[]) λb=>K (.tuple #[au a,al 0]) b) (aK (e==8) (bf c λb=>aW d ((b.add 8).add 0) (.func (.func 137) #[aA c] #[]) λb=>K (.tuple #[au a,al 0]) b) (aK (e==9) (bf c λb=>aW d ((b.add 8).add 0) (.func (.func 138) #[aA c] #[]) λb=>K (.tuple #[au a,al 0]) b) (aK (e==10) (bf c λb=>aW d ((b.add 8).add 0) (.func (.func 139) #[aA c] #[]) λb=>K (.tuple #[au a,al 0]) b) (K (.tuple #[au a,al 0]) d))))) (aK (e==7) (bf c λb=>aW d ((b.add 8).add 0) (.func (.func 136) #[aA c] #[]) λb=>K (.tuple #[au a,al 0]) b) (aK (e==8) (bf c λb=>aW d ((b.add 8).add 0) (.func (.func 137) #[aA c] #[]) λb=>K (.tuple #[au a,al 0]) b) (aK (e==9) (bf c λb=>aW d ((b.add 8).add 0) (.func (.func 138) #[aA c] #[]) λb=>K (.tuple #[au a,al 0]) b) (aK (e==10) (bf c λb=>aW d ((b.add 8).add 0) (.func (.func 139) #[aA c] #[]) λb=>K (.tuple #[au a,al 0]) b) (K (.tuple #[au a,al 0]) d))))))
def F91.wL7:Prop:=Lp Tryz.f91 F91.T [1,1,1,1,0,1,0] n [(3,(au b)),(7,(au a)),(8,(au c)),(9,(al d))] h K
def F91.sL7:F91.wL7 (n+1) b a c d h K=(F91.JL7 (λa b c d e=>F91.wL7 n a b c d e K) (λa b c d=>F91.wk10 a b c d K) b a c d h K):=by kernel_rfl
def F91.wk7:Prop:=(∃e,F91.wL7 e b a c d h K)
def F91.spec(H:a9 h (.cells #[al f,ap g,ap i,ap j,.int .u8 l] 66) λa b=>aQ .i64 (rd b ((aw a).add 0)) λc=>aQ .u32 (rd b ((aw a).add 1)) λd=>aQ .u32 (rd b ((aw a).add 2)) λe=>aQ .u32 (rd b ((aw a).add 3)) λf=>aQ .u8 (rd b ((aw a).add 4)) λg=>Cl 133 [au o,.agg #[al c,ap d,ap e,ap f,.int .u8 g]] b λb c=>aQ .i64 (some b) λb=>aK (b !=0) (K (.tuple #[aA none,al b]) c) (a9 c (.cells #[au o,.slice none 0 0,ap 0,aB,al 0] 228) λb c=>aQ .u32 (rd c ((aw a).add 1)) λd=>aQ .u32 (rd c ((aw a).add 2)) λe=>aQ .u32 (rd c ((aw a).add 3)) λf=>a9 c (.cells #[ap 0,ap 0,ap 0] 115) λc g=>aW g ((aw c).add 0) (ap d) λd=>aW d ((aw c).add 1) (ap e) λd=>aW d ((aw c).add 2) (ap f) λd=>aQ .i64 (rd d ((aw a).add 0)) λe=>Cl 134 [al e] d λd e=>aQ .i64 (some d) λd=>F91.wk7 (aw a) (aw b) (aw c) d e K)):Cl 91 [au o,.agg #[al f,ap g,ap i,ap j,.int .u8 l]] h K:=cT F91.T Tryz.func91 H
end
def F133.T:bj:=⟨[(5,[0,3,21,22,23]),(10,[0,3])],[(13,[[(0,[]),(1,[]),(2,[]),(3,[]),(4,[0,1,2]),(5,[]),(6,[])]]),(16,[[(0,[]),(1,[]),(2,[]),(3,[]),(4,[0,1,2]),(5,[])]])]⟩
section
variable (n:Nat)(c:Addr)(l o q r s:Int)(b:Addr)(f:az)(d i:Nat)(j g:Int)(h:aH)(K:KK)
def F133.wk10:Prop:=aQ .i64 (rd h (b.add 0)) λa=>aK (a==6) (aK (a==6) (aQ .u8 (rd h (b.add 4)) λa=>Cl 75 [au c] h λc d=>aQ .i64 (some c) λc=>aF (au (b.add 4))/\aQ .u8 (rd d (b.add 4)) λb=>aG (.int .u8 b) (.int .u8 a)/\aF (al (ax a))/\0<=c/\aK ((Int.fdiv (ax a) (2^(min (c.toNat) (IntKind.bits .i64)))) !=0) (K (al 40) d) (K (al 0) d)) (aK (a==8) (aQ .u8 (rd h (b.add 4)) λa=>Cl 75 [au c] h λc d=>aQ .i64 (some c) λc=>aF (au (b.add 4))/\aQ .u8 (rd d (b.add 4)) λb=>aG (.int .u8 b) (.int .u8 a)/\aF (al (ax a))/\aK ((ax a)>=c) (K (al 40) d) (K (al 0) d)) (aK (a==9) (aK (a==9) (Cl 75 [au c] h λa d=>aQ .i64 (some a) λa=>(2:Int)≠0/\aK ((Int.tmod a 2)==1) (K (al 160) d) (aQ .u32 (rd d (b.add 1)) λa=>Cl 179 [au c,ap a] d λa b=>bI (some a) λa=>aK (!a) (K (al 160) b) (K (al 0) b))) (K (al 0) h)) (aK (a==10) (Cl 75 [au c] h λa d=>aQ .i64 (some a) λa=>(2:Int)≠0/\aK ((Int.tmod a 2)==1) (K (al 160) d) (aQ .u32 (rd d (b.add 1)) λa=>Cl 179 [au c,ap a] d λa b=>bI (some a) λa=>aK (!a) (K (al 160) b) (K (al 0) b))) (K (al 0) h))))) (aK (a==7) (aQ .u8 (rd h (b.add 4)) λa=>Cl 75 [au c] h λc d=>aQ .i64 (some c) λc=>aF (au (b.add 4))/\aQ .u8 (rd d (b.add 4)) λb=>aG (.int .u8 b) (.int .u8 a)/\aF (al (ax a))/\0<=c/\aK ((Int.fdiv (ax a) (2^(min (c.toNat) (IntKind.bits .i64)))) !=0) (K (al 40) d) (K (al 0) d)) (aK (a==8) (aQ .u8 (rd h (b.add 4)) λa=>Cl 75 [au c] h λc d=>aQ .i64 (some c) λc=>aF (au (b.add 4))/\aQ .u8 (rd d (b.add 4)) λb=>aG (.int .u8 b) (.int .u8 a)/\aF (al (ax a))/\aK ((ax a)>=c) (K (al 40) d) (K (al 0) d)) (aK (a==9) (aK (a==9) (Cl 75 [au c] h λa d=>aQ .i64 (some a) λa=>(2:Int)≠0/\aK ((Int.tmod a 2)==1) (K (al 160) d) (aQ .u32 (rd d (b.add 1)) λa=>Cl 179 [au c,ap a] d λa b=>bI (some a) λa=>aK (!a) (K (al 160) b) (K (al 0) b))) (K (al 0) h)) (aK (a==10) (Cl 75 [au c] h λa d=>aQ .i64 (some a) λa=>(2:Int)≠0/\aK ((Int.tmod a 2)==1) (K (al 160) d) (aQ .u32 (rd d (b.add 1)) λa=>Cl 179 [au c,ap a] d λa b=>bI (some a) λa=>aK (!a) (K (al 160) b) (K (al 0) b))) (K (al 0) h)))))
def F133.wL5:Prop:=Lp Tryz.f133 F133.T [1,1,1,0,1,0] n [(0,(au c)),(3,(au b)),(21,(.slice f d i)),(22,(al j)),(23,(al g))] h K
def F133.sL5:F133.wL5 (n+1) c b f d i j g h K=(aK (g<j) (bf f λa=>0<=g/\g<(d:Int)/\aQ .u32 (rd h (a.add (g.toNat*1))) λa=>Cl 74 [au c,ap a] h λa e=>bI (some a) λa=>aK (!a) (K (al 101) e) (F133.wL5 n c b f d i j (ax (g+1)) e K)) (F133.wk10 c b h K)):=by kernel_rfl
def F133.wk5:Prop:=(∃a,F133.wL5 a c b f d i j g h K)
def F133.spec(H:a9 h (.cells #[al l,ap o,ap q,ap r,.int .u8 s] 66) λa b=>aQ .i64 (rd b ((aw a).add 0)) λd=>Cl 134 [al d] b λb d=>aQ .i64 (some b) λb=>aK (b==0) (K (al 200) d) (aQ .u32 (rd d ((aw a).add 1)) λe=>aQ .u32 (rd d ((aw a).add 2)) λf=>aQ .u32 (rd d ((aw a).add 3)) λg=>a9 d (.cells #[ap e,ap f,ap g] 46) λd e=>0<=b/\b<=3/\F133.wk5 c (aw a) (if 3=0 then(some (aw d))else Option.map (λa=>Addr.add a (0*1)) (some (aw d))) (b.toNat-0) (3-0) (Nat.cast (b.toNat-0):Int) 0 e K)):Cl 133 [au c,.agg #[al l,ap o,ap q,ap r,.int .u8 s]] h K:=cT F133.T Tryz.func133 H
end
def F134.spec(H:aK (i==1) (aK (i==1) (K (al 1) h) (aK (i==2) (aK (i==2) (K (al 2) h) (aK (i==5) (K (al 3) h) (K (al 0) h))) (aK (i==3) (aK (i==3) (K (al 2) h) (aK (i==5) (K (al 3) h) (K (al 0) h))) (aK (i==4) (aK (i==4) (K (al 2) h) (aK (i==5) (K (al 3) h) (K (al 0) h))) (aK (i==8) (aK (i==8) (K (al 2) h) (aK (i==5) (K (al 3) h) (K (al 0) h))) (aK (i==9) (aK (i==9) (K (al 2) h) (aK (i==5) (K (al 3) h) (K (al 0) h))) (aK (i==10) (K (al 2) h) (aK (i==5) (K (al 3) h) (K (al 0) h))))))))) (aK (i==6) (aK (i==6) (K (al 1) h) (aK (i==2) (aK (i==2) (K (al 2) h) (aK (i==5) (K (al 3) h) (K (al 0) h))) (aK (i==3) (aK (i==3) (K (al 2) h) (aK (i==5) (K (al 3) h) (K (al 0) h))) (aK (i==4) (aK (i==4) (K (al 2) h) (aK (i==5) (K (al 3) h) (K (al 0) h))) (aK (i==8) (aK (i==8) (K (al 2) h) (aK (i==5) (K (al 3) h) (K (al 0) h))) (aK (i==9) (aK (i==9) (K (al 2) h) (aK (i==5) (K (al 3) h) (K (al 0) h))) (aK (i==10) (K (al 2) h) (aK (i==5) (K (al 3) h) (K (al 0) h))))))))) (aK (i==7) (K (al 1) h) (aK (i==2) (aK (i==2) (K (al 2) h) (aK (i==5) (K (al 3) h) (K (al 0) h))) (aK (i==3) (aK (i==3) (K (al 2) h) (aK (i==5) (K (al 3) h) (K (al 0) h))) (aK (i==4) (aK (i==4) (K (al 2) h) (aK (i==5) (K (al 3) h) (K (al 0) h))) (aK (i==8) (aK (i==8) (K (al 2) h) (aK (i==5) (K (al 3) h) (K (al 0) h))) (aK (i==9) (aK (i==9) (K (al 2) h) (aK (i==5) (K (al 3) h) (K (al 0) h))) (aK (i==10) (K (al 2) h) (aK (i==5) (K (al 3) h) (K (al 0) h))))))))))):Cl 134 [al i] h K:=cN Tryz.func134 H
def F135.spec(H:a9 h (.cells #[ap k,ap l,ap m] 115) λb c=>aQ .u32 (rd c ((aw b).add 0)) λd=>aQ .u32 (rd c ((aw b).add 1)) λe=>aQ .u32 (rd c ((aw b).add 2)) λb=>a9 c (.cells #[au a,.int .u8 i,.int .u8 j,ap d,ap e,ap b,al 0,ap 0,.nilFunc] 232) λb c=>aW c (((aw b).add 8).add 0) (.func (.func 180) #[au (aw b)] #[]) λc=>cv (rd c (a.add 1)) λd e f=>a9 c (.cells #[au (aw b)] 229) λc g=>fB g 229 1 8 #[aA none] d e f (some (aw c)) 1 λc d e f=>aW f ((a.add 1).add 0) (.slice c d e) λa=>K (au (aw b)) a):Cl 135 [au a,.int .u8 i,.int .u8 j,.agg #[ap k,ap l,ap m]] h K:=cN Tryz.func135 H
def F114.T:bj:=⟨[(2,[0,3]),(4,[0])],[(3,[[(0,[]),(1,[]),(2,[]),(3,[]),(4,[]),(5,[]),(6,[]),(7,[]),(8,[]),(9,[]),(10,[]),(11,[]),(12,[]),(13,[]),(14,[]),(15,[])]])]⟩
section
variable (n:Nat)(a:Addr)(b:Int)(h:aH)(K:KK)
def F114.wk4:Prop:=bI (rd h (a.add 3)) λa=>K (aD a) h
def F114.wL2:Prop:=Lp Tryz.f114 F114.T [1,1,0,0] n [(0,(au a)),(3,(al b))] h K
def F114.sL2:F114.wL2 (n+1) a b h K=(bI (rd h (a.add 3)) λc=>aK (!c) (ba (rd h (a.add 0)) λc=>Cl 45 [aA c] h λc d=>aQ .i64 (some c) λc=>aK (c==b) (cv (rd d (a.add 1)) λc e _=>cv (rd d (a.add 1)) λ_ f _=>bf c λc=>0<=(ax ((f:Int)-(1:Int)))/\(ax ((f:Int)-(1:Int)))<(e:Int)/\ba (rd d (c.add ((ax ((f:Int)-(1:Int))).toNat*1))) λc=>bf c λc=>lI (rd d (c.add 8)) λc=>eV Tryz.prog X c [] d λc d=>c=aE/\F114.wL2 n a b d K) (F114.wk4 a d K)) (F114.wk4 a h K)):=by kernel_rfl
def F114.wk2:Prop:=(∃c,F114.wL2 c a b h K)
def F114.spec(H:ba (rd h (a.add 0)) λb=>Cl 45 [aA b] h λb c=>aQ .i64 (some b) λb=>F114.wk2 a b c K):Cl 114 [au a] h K:=cT F114.T Tryz.func114 H
end
def F180.T:bj:=⟨[(4,[0,2,3,4]),(6,[0,2,3,4]),(10,[0,2,67,68]),(14,[0,2])],[(5,[[(0,[]),(1,[]),(2,[]),(3,[]),(4,[]),(5,[]),(6,[]),(7,[]),(8,[]),(9,[]),(10,[]),(11,[]),(12,[]),(13,[]),(14,[]),(15,[]),(16,[]),(17,[]),(18,[]),(19,[]),(20,[]),(21,[]),(22,[]),(23,[]),(24,[]),(25,[])]]),(12,[[(0,[]),(1,[]),(2,[]),(3,[]),(4,[]),(5,[]),(6,[]),(7,[0,1,2,3,4]),(8,[]),(9,[]),(10,[]),(11,[])]]),(15,[[(0,[]),(1,[]),(2,[]),(3,[]),(4,[]),(5,[]),(6,[]),(7,[]),(8,[]),(9,[]),(10,[]),(11,[0,1,2,3,4,5,6,7]),(12,[])]])]⟩
section
variable (n:Nat)(a:Addr)(g:az)(j:Int)(i:Bool)(b c d f:Int)(h:aH)(K:KK)
def F180.JL10(bk10:Addr->(az)->Int->Int->Int->Int->aH->Prop)(k14:Addr->(az)->aH->Prop)(a:Addr)(g:az)(b c d f:Int)(h:aH)(_K:KK):Prop:=aK (f<3) ((0<=f/\f<3/\aQ .u32 ([ap b,ap c,ap d]:List Value)[f.toNat]? (λe=>aQ .i64 (rd h (a.add 6)) λi=>Cl 71 [aA g,ap e] h λe j=>aQ .i64 (some e) λe=>aF (au a)/\aF (au a)/\aF (au a)/\aF (au (a.add 6))/\aQ .i64 (rd j (a.add 6)) λk=>aG (al k) (al i)/\aW j ((a.add 6).add 0) (al (if e<i then e else i)) λe=>bk10 a g b c d (ax (f+1)) e))) (k14 a g h)
def F180.wk14:Prop:=aW h ((a.add 8).add 0) (.func (.func 225) #[au a] #[]) λb=>ba (rd b (a.add 0)) λc=>aQ .u8 (rd b (a.add 1)) λd=>Cl 226 [au a,.func (.func 72) #[aA g] #[]] b λb e=> ∃f:Int,∃g:Int,∃i:Int,b=(.agg #[ap f,ap g,ap i])/\aF (au a)/\aF (au a)/\aF (au (a.add 0))/\ba (rd e (a.add 0)) λb=>aG (aA b) (aA c)/\aF (au a)/\aF (au a)/\aF (au (a.add 1))/\aQ .u8 (rd e (a.add 1)) λa=>aG (.int .u8 a) (.int .u8 d)/\Cl 135 [aA c,.int .u8 d,.int .u8 0,.agg #[ap f,ap g,ap i]] e λa b=>ba (some a) λ_=>K aE b
def F180.wL10:Prop:=Lp Tryz.f180 F180.T [1,1,1,1,1,1,0,1,0] n [(0,(au a)),(2,(aA g)),(67,(.agg #[ap b,ap c,ap d])),(68,(al f))] h K
def F180.sL10:F180.wL10 (n+1) a g b c d f h K=(F180.JL10 (λa b c d e f g=>F180.wL10 n a b c d e f g K) (λa b c=>F180.wk14 a b c K) a g b c d f h K):=by kernel_rfl
def F180.wk10:Prop:=(∃e,F180.wL10 e a g b c d f h K)
def F180.wk6:Prop:=aK i (ba (rd h (a.add 0)) λa=>Cl 181 [aA a,ap j] h λa b=>a=aE/\K aE b) (Cl 75 [aA g] h λb c=>aQ .i64 (some b) λb=>aW c ((a.add 6).add 0) (al b) λb=>aQ .u32 (rd b ((a.add 3).add 0)) λc=>aQ .u32 (rd b ((a.add 3).add 1)) λd=>aQ .u32 (rd b ((a.add 3).add 2)) λe=>F180.wk10 a g c d e 0 b K)
def F180.wk4:Prop:=aK (!i) (aQ .u8 (rd h (a.add 1)) λb=>0<=(0:Int)/\(0:Int)<(3:Int)/\aQ .u32 (rd h ((a.add 3).add ((0:Int).toNat*1))) λc=>0<=(1:Int)/\(1:Int)<(3:Int)/\aQ .u32 (rd h ((a.add 3).add ((1:Int).toNat*1))) λd=>0<=(2:Int)/\(2:Int)<(3:Int)/\aQ .u32 (rd h ((a.add 3).add ((2:Int).toNat*1))) λe=>Cl 182 [aA g,.int .u8 b,.int .u8 0,ap c,ap d,ap e] h λb c=> ∃d:Int,∃e:Bool,b=(.tuple #[ap d,aD e])/\F180.wk6 a g d e c K) (F180.wk6 a g j i h K)
def F180.spec(H:ba (rd h (a.add 0)) λb=>bf b λb=>ba (rd h (b.add 0)) λb=>Cl 223 [au a] h λc d=> ∃e:Int,∃f:Bool,c=(.tuple #[ap e,aD f])/\aK (!f) (Cl 224 [au a] d λc d=> ∃e:Int,∃f:Bool,c=(.tuple #[ap e,aD f])/\F180.wk4 a b e f d K) (F180.wk4 a b e f d K)):Cl 180 [au a] h K:=cT F180.T Tryz.func180 H
end
def F181.T:bj:=⟨[],[(1,[[(0,[]),(1,[]),(2,[]),(3,[]),(4,[]),(5,[]),(6,[]),(7,[]),(8,[]),(9,[]),(10,[]),(11,[]),(12,[]),(13,[]),(14,[])]])]⟩
def F181.spec(H:aW h ((a.add 2).add 0) (ap i) λb=>cv (rd b (a.add 1)) λc _ d=>cv (rd b (a.add 1)) λ_ e _=>0<=(ax ((e:Int)-(1:Int)))/\(ax ((e:Int)-(1:Int)))<=(d:Int)/\aW b ((a.add 1).add 0) (.slice (if d=0 then c else Option.map (λa=>Addr.add a (0*1)) c) ((ax ((e:Int)-(1:Int))).toNat-0) (d-0)) λb=>cv (rd b (a.add 1)) λ_ c _=>aW b ((a.add 3).add 0) (aD ((c:Int)==(0:Int))) λa=>K aE a):Cl 181 [au a,ap i] h K:=cT F181.T Tryz.func181 H
def F223.T:bj:=⟨[(5,[0,4,5,6])],[(1,[[(0,[]),(1,[]),(2,[]),(3,[]),(4,[]),(5,[]),(6,[]),(7,[]),(8,[]),(9,[]),(10,[]),(11,[])]])]⟩
section
variable (a:Addr)(c b d:Int)(h:aH)(K:KK)
def F223.wk5:Prop:=aQ .u8 (rd h (a.add 1)) λe=>aK (e==5) (K (.tuple #[ap 0,aB]) h) (aK (c==d) (K (.tuple #[ap b,aC]) h) (aK (c==b) (aQ .u8 (rd h (a.add 1)) λa=>aK (a !=4) (K (.tuple #[ap b,aC]) h) (aK (b==d) (K (.tuple #[ap c,aC]) h) (K (.tuple #[ap 0,aB]) h))) (aK (b==d) (K (.tuple #[ap c,aC]) h) (K (.tuple #[ap 0,aB]) h))))
end
def F223.spec(H:(0<=(0:Int)/\(0:Int)<(3:Int)/\aQ .u32 (rd h ((a.add 3).add ((0:Int).toNat*1))) λb=>0<=(1:Int)/\(1:Int)<(3:Int)/\aQ .u32 (rd h ((a.add 3).add ((1:Int).toNat*1))) λc=>aQ .u8 (rd h (a.add 1)) λd=>aK (d==2) (F223.wk5 a b c 1 h K) (F223.wk5 a b c 0 h K))):Cl 223 [au a] h K:=cT F223.T Tryz.func223 H
def F224.T:bj:=⟨[],[(1,[[(0,[]),(1,[]),(2,[]),(3,[]),(4,[]),(5,[]),(6,[]),(7,[]),(8,[]),(9,[]),(10,[]),(11,[]),(12,[]),(13,[]),(14,[]),(15,[]),(16,[]),(17,[])]])]⟩
def F224.spec(H:(0<=(0:Int)/\(0:Int)<(3:Int)/\aQ .u32 (rd h ((a.add 3).add ((0:Int).toNat*1))) λb=>0<=(1:Int)/\(1:Int)<(3:Int)/\aQ .u32 (rd h ((a.add 3).add ((1:Int).toNat*1))) λc=>0<=(2:Int)/\(2:Int)<(3:Int)/\aQ .u32 (rd h ((a.add 3).add ((2:Int).toNat*1))) λd=>aQ .u8 (rd h (a.add 1)) λa=>aK (a==2) (aK (b<=1) (aK (c<=1) (K (.tuple #[ap (bB .and .u32 b c),aC]) h) (aK (b==0) (K (.tuple #[ap (bB .and .u32 b c),aC]) h) (K (.tuple #[ap (bB .and .u32 b c),aD (c==0)]) h))) (aK (b==0) (K (.tuple #[ap (bB .and .u32 b c),aC]) h) (K (.tuple #[ap (bB .and .u32 b c),aD (c==0)]) h))) (aK (a==3) (aK (b==1) (K (.tuple #[ap 1,aC]) h) (K (.tuple #[ap 1,aD (c==1)]) h)) (aK (a==4) (aK (b==c) (K (.tuple #[ap (bB .xor .u32 b c),aC]) h) (aK (b<=1) (K (.tuple #[ap (bB .xor .u32 b c),aD (c<=1)]) h) (K (.tuple #[ap (bB .xor .u32 b c),aB]) h))) (aK (b==1) (K (.tuple #[ap c,aC]) h) (aK (c==d) (K (.tuple #[ap c,aC]) h) (aK (b==0) (K (.tuple #[ap d,aC]) h) (K (.tuple #[ap 0,aB]) h)))))))):Cl 224 [au a] h K:=cT F224.T Tryz.func224 H
def F226.T:bj:=⟨[(3,[0,1,4,5,12,13])],[(5,[[(0,[]),(1,[]),(2,[]),(3,[]),(4,[]),(5,[]),(6,[]),(7,[]),(9,[]),(10,[]),(11,[]),(12,[]),(8,[9,10,11,12]),(13,[])]])]⟩
section
variable (n:Nat)(f:Addr)(j:Value)(g i:Addr)(a b c d:Int)(h:aH)(K:KK)
def F226.JL3(bk3:Addr->Value->Addr->Addr->Int->Int->Int->Int->aH->Prop)(f:Addr)(j:Value)(g i:Addr)(a b c d:Int)(h:aH)(K:KK):Prop:=aK (d<3) ((0<=d/\d<3/\aQ .u32 ([ap a,ap b,ap c]:List Value)[d.toNat]? (λe=>ba (rd h (f.add 0)) λk=>bf k λk=>ba (rd h (k.add 0)) λk=>aQ .i64 (rd h (f.add 6)) λl=>Cl 71 [aA k,ap e] h λk m=>aQ .i64 (some k) λk=>aF (au f)/\aF (au f)/\aF (au (f.add 6))/\aQ .i64 (rd m (f.add 6)) λn=>aG (al n) (al l)/\aK (k==l) (eV Tryz.prog X j [ap e] m λe k=>aQ .u32 (some e) λe=>0<=d/\d<3/\aW k ((i.add (d.toNat*1)).add 0) (ap e) λe=>bk3 f j g i a b c (ax (d+1)) e) (bk3 f j g i a b c (ax (d+1)) m)))) (aQ .u32 (rd h (i.add 0)) λa=>aQ .u32 (rd h (i.add 1)) λb=>aQ .u32 (rd h (i.add 2)) λc=>aW h (g.add 0) (ap a) λa=>aW a (g.add 1) (ap b) λa=>aW a (g.add 2) (ap c) λa=>aQ .u32 (rd a (g.add 0)) λb=>aQ .u32 (rd a (g.add 1)) λc=>aQ .u32 (rd a (g.add 2)) λd=>K (.agg #[ap b,ap c,ap d]) a)
def F226.wL3:Prop:=Lp Tryz.f226 F226.T [1,1,0,1,0] n [(0,(au f)),(1,j),(4,(au g)),(5,(au i)),(12,(.agg #[ap a,ap b,ap c])),(13,(al d))] h K
def F226.sL3:F226.wL3 (n+1) f j g i a b c d h K=(F226.JL3 (λa b c d e f g i j=>F226.wL3 n a b c d e f g i j K) f j g i a b c d h K):=by kernel_rfl
def F226.wk3:Prop:=(∃e,F226.wL3 e f j g i a b c d h K)
def F226.spec(H:a9 h (.cells #[ap 0,ap 0,ap 0] 115) λa b=>aQ .u32 (rd b ((f.add 3).add 0)) λc=>aQ .u32 (rd b ((f.add 3).add 1)) λd=>aQ .u32 (rd b ((f.add 3).add 2)) λe=>a9 b (.cells #[ap 0,ap 0,ap 0] 115) λb g=>aW g ((aw b).add 0) (ap c) λc=>aW c ((aw b).add 1) (ap d) λc=>aW c ((aw b).add 2) (ap e) λc=>aQ .u32 (rd c ((aw b).add 0)) λd=>aQ .u32 (rd c ((aw b).add 1)) λe=>aQ .u32 (rd c ((aw b).add 2)) λg=>F226.wk3 f j (aw a) (aw b) d e g 0 c K):Cl 226 [au f,j] h K:=cT F226.T Tryz.func226 H
end
def F225.T:bj:=⟨[],[(2,[[(0,[]),(1,[]),(2,[]),(3,[]),(4,[]),(5,[]),(6,[]),(7,[]),(8,[]),(9,[]),(10,[]),(11,[]),(12,[]),(13,[]),(14,[]),(15,[]),(16,[]),(17,[0,1,2,3,4,5,6,7]),(18,[])]])]⟩
def F225.spec(H:ba (rd h (a.add 0)) λb=>bf b λb=>aQ .u32 (rd h (b.add 2)) λb=>aW h ((a.add 7).add 0) (ap b) λb=>aW b ((a.add 8).add 0) (.func (.func 273) #[au a] #[]) λb=>ba (rd b (a.add 0)) λc=>aQ .u8 (rd b (a.add 1)) λd=>ba (rd b (a.add 0)) λe=>bf e λe=>ba (rd b (e.add 0)) λe=>Cl 226 [au a,.func (.func 73) #[aA e] #[]] b λb e=> ∃f:Int,∃g:Int,∃i:Int,b=(.agg #[ap f,ap g,ap i])/\aF (au a)/\aF (au a)/\aF (au (a.add 0))/\ba (rd e (a.add 0)) λb=>aG (aA b) (aA c)/\aF (au a)/\aF (au a)/\aF (au (a.add 1))/\aQ .u8 (rd e (a.add 1)) λa=>aG (.int .u8 a) (.int .u8 d)/\Cl 135 [aA c,.int .u8 d,.int .u8 0,.agg #[ap f,ap g,ap i]] e λa b=>ba (some a) λ_=>K aE b):Cl 225 [au a] h K:=cT F225.T Tryz.func225 H
def F273.T:bj:=⟨[],[(0,[[(0,[]),(1,[]),(2,[]),(3,[]),(4,[]),(5,[]),(6,[]),(7,[]),(8,[]),(9,[]),(10,[]),(11,[]),(12,[]),(13,[]),(14,[]),(15,[]),(16,[]),(17,[]),(18,[]),(19,[]),(20,[]),(21,[])]]),(2,[[(0,[]),(1,[]),(2,[]),(3,[]),(4,[]),(5,[]),(6,[]),(7,[]),(8,[]),(9,[]),(10,[]),(11,[]),(12,[]),(13,[]),(14,[]),(15,[]),(16,[]),(17,[]),(18,[]),(19,[]),(20,[]),(21,[]),(22,[]),(23,[]),(24,[]),(25,[]),(26,[]),(27,[])]])]⟩
def F273.spec(H:aQ .i64 (rd h (a.add 6)) λb=>aQ .u32 (rd h (a.add 7)) λc=>ba (rd h (a.add 0)) λd=>bf d λd=>aQ .u32 (rd h (d.add 2)) λd=>Cl 276 [au a,al b,ap c,ap d] h λb c=> ∃d:Int,∃e:Bool,b=(.tuple #[ap d,aD e])/\aK e (ba (rd c (a.add 0)) λb=>bf b λb=>ba (rd c (b.add 0)) λb=>aQ .u8 (rd c (a.add 1)) λe=>0<=(0:Int)/\(0:Int)<(3:Int)/\aQ .u32 (rd c ((a.add 3).add ((0:Int).toNat*1))) λf=>0<=(1:Int)/\(1:Int)<(3:Int)/\aQ .u32 (rd c ((a.add 3).add ((1:Int).toNat*1))) λg=>0<=(2:Int)/\(2:Int)<(3:Int)/\aQ .u32 (rd c ((a.add 3).add ((2:Int).toNat*1))) λi=>Cl 207 [aA b,.int .u8 e,.int .u8 0,ap f,ap g,ap i,ap d] c λb c=>b=aE/\ba (rd c (a.add 0)) λa=>Cl 181 [aA a,ap d] c λa b=>a=aE/\K aE b) (K aE c)):Cl 273 [au a] h K:=cT F273.T Tryz.func273 H
def F276.T:bj:=⟨[(4,[10,11])],[(3,[[(0,[]),(1,[]),(2,[]),(3,[]),(4,[]),(5,[]),(6,[]),(7,[]),(8,[]),(9,[]),(10,[]),(11,[]),(12,[]),(13,[]),(14,[]),(15,[]),(16,[]),(17,[]),(18,[]),(19,[]),(20,[]),(21,[])]])]⟩
section
variable (b c:Int)(h:aH)(K:KK)
def F276.wk4:Prop:=K (.tuple #[ap b,aD (c==0)]) h
end
def F276.spec(H:ba (rd h (a.add 0)) λb=>bf b λb=>ba (rd h (b.add 0)) λb=>Cl 161 [aA b,al i,ap j,ap k] h λb c=> ∃d:Int,∃e:Int,b=(.tuple #[ap d,al e])/\aK (e !=0) (ba (rd c (a.add 0)) λb=>ba (rd c (a.add 0)) λf=>ba (rd c (a.add 0)) λa=>bf b λb=>aW c ((b.add 4).add 0) (al e) λb=>bf f λc=>aW b ((c.add 3).add 0) aC λb=>bf a λa=>aW b ((a.add 1).add 0) (.slice none 0 0) λa=>F276.wk4 d e a K) (F276.wk4 d e c K)):Cl 276 [au a,al i,ap j,ap k] h K:=cT F276.T Tryz.func276 H
def F94.T:bj:=⟨[],[(4,[[(0,[]),(1,[]),(2,[]),(3,[]),(4,[]),(5,[])]])]⟩
def F94.spec(H:bI (rd h (a.add 3)) λb=>aK (!b) (K (.tuple #[ap 0,al 61]) h) (aQ .i64 (rd h (a.add 4)) λb=>aK (b !=0) (aQ .i64 (rd h (a.add 4)) λa=>K (.tuple #[ap 0,al a]) h) (aQ .u32 (rd h (a.add 2)) λa=>K (.tuple #[ap a,al 0]) h))):Cl 94 [au a] h K:=cT F94.T Tryz.func94 H
def F95.spec(H:bI (rd h (a.add 3)) λa=>K (aD a) h):Cl 95 [au a] h K:=cN Tryz.func95 H
def F64.T:bj:=⟨[(5,[6,8]),(6,[6])],[]⟩
section
variable (n:Nat)(j:Addr)(a b c d f:Int)(g:az)(i:Value)(h:aH)(K:KK)
def F64.wk6:Prop:=Cl 94 [aA g] h λa b=> ∃c:Int,∃d:Int,a=(.tuple #[ap c,al d])/\K (.tuple #[ap c,al d]) b
def F64.wL5:Prop:=Lp Tryz.f64 F64.T [1,1,1,0,1,0] n [(6,(aA g)),(8,i)] h K
def F64.sL5:F64.wL5 (n+1) g i h K=(eV Tryz.prog X i [] h λa b=>bI (some a) λa=>aK (!a) (F64.wL5 n g i b K) (F64.wk6 g b K)):=by kernel_rfl
def F64.wk5:Prop:=(∃a,F64.wL5 a g i h K)
def F64.spec(H:a9 h (.cells #[al a,ap b,ap c,ap d,.int .u8 f] 66) λa b=>aQ .i64 (rd b ((aw a).add 0)) λc=>aQ .u32 (rd b ((aw a).add 1)) λd=>aQ .u32 (rd b ((aw a).add 2)) λe=>aQ .u32 (rd b ((aw a).add 3)) λf=>aQ .u8 (rd b ((aw a).add 4)) λa=>Cl 91 [au j,.agg #[al c,ap d,ap e,ap f,.int .u8 a]] b λa b=> ∃c:az,∃d:Int,a=(.tuple #[aA c,al d])/\aK (d !=0) (K (.tuple #[ap 0,al d]) b) (F64.wk5 c (.func (.func 114) #[aA c] #[]) b K)):Cl 64 [au j,.agg #[al a,ap b,ap c,ap d,.int .u8 f]] h K:=cT F64.T Tryz.func64 H
end
end
section
structure Fk where
 b:Nat
 op:Nat
 mask:Nat
 a0:Nat
 a1:Nat
 a2:Nat
 level:Nat
 low:Nat
 fn:Nat
structure MA where
 m:Nat
 fp:az
 fc:Nat
 fs:List Fk
 told:Nat
 done:Bool
 e:Nat
def F0(fn b:Nat):Value:= .func (.func fn) #[au (aw b)] #[]
def bh(b:Nat):Value:=au (aw b)
def iY(m:Nat)(f:Fk):List Value:=[bh m,.int .u8 (f.op:Int),.int .u8 (f.mask:Int),ap (f.a0:Int),ap (f.a1:Int),ap (f.a2:Int),al (f.level:Int),ap (f.low:Int),F0 f.fn f.b]
def dc(s:Nat)(A:MA):List Value:=[bh s,.slice A.fp A.fs.length A.fc,ap (A.told:Int),aD A.done,al (A.e:Int)]
def MA.bl(A:MA):List Nat:=A.m::(aX A.fp++A.fs.map (·.b))
structure cB(h:aH)(s:Nat)(A:MA):Prop where
 own:At h A.m (dc s A)
 win:nq h 0 A.fp A.fs.length A.fc (A.fs.map λf=>bh f.b)
 frm: ∀f∈A.fs,At h f.b (iY A.m f)
 sep:A.bl.Nodup
def cB.only{h h':aH}{s:Nat}{A:MA}{S:List Nat}(H:cB h s A)(O:aM S h h')(hS: ∀b∈S,b∉A.bl):cB h' s A:=by refine⟨H.own.only O λhm=>hS _ hm (by simp[MA.bl]),H.win.only O λb hb hm=>hS _ hm (by simp[MA.bl,hb]),λf hf=>(H.frm f hf).only O λhm=>hS _ hm ?_,H.sep⟩;simp only[MA.bl,List.mem_cons,List.mem_append,List.mem_map];exact .inr (.inr ⟨f,hf,rfl⟩)
def cB.only0{h h':aH}{s:Nat}{A:MA}(H:cB h s A)(O:aM [] h h'):cB h' s A:=H.only O ak
def cB.lt{h:aH}{s:Nat}{A:MA}(H:cB h s A): ∀b∈A.bl,b<h.size:=λb hb=>by
 simp only[MA.bl,List.mem_cons,List.mem_append,List.mem_map]at hb;rcases hb with e|hb|⟨f,hf,e⟩
 ·subst e;exact H.own.lt
 ·exact(H.win.lt b hb).2
 ·subst e;exact(H.frm f hf).lt
def Fc{a b:Nat}(ha:a<2^32)(hb:b<2^32):bB .xor .u32 (a:Int) (b:Int)=((a^^^b:Nat):Int):=by unfold bB;show IntKind.wrap .u32 ((BitVec.ofInt 32 (a:Int)^^^BitVec.ofInt 32 (b:Int)).toNat:Int)=_;rw[BitVec.toNat_xor,oa ha,oa hb];exact gY (Nat.xor_lt_two_pow ha hb)
section
variable {h:aH}{s m:Nat}{f:Fk}{K:KK}
def cB.top{fl:List Fk}{f':Fk}{A:MA}{j:Nat}{v:Value}{K:aH->Prop}(H:cB h s {A with fs:=fl++[f]})(hj:j<9)(hv:v.oneCell'=true)(hb:f'.b=f.b)(hc:(iY A.m f).set j v=iY A.m f')
  (hK: ∀h',cB h' s {A with fs:=fl++[f']}->aM [f.b] h h'->K h'):aW h ⟨f.b,j,none⟩ v K:=by
 have hf:f∈fl++[f]:=ak;refine aS (H.frm f hf) (by simpa[iY]using hj) hv λh' A' O' z=>hK h' ?_ O';rw[hc]at A';have sp:=H.sep;simp only[MA.bl,List.map_append,List.map_cons,List.map_nil,List.nodup_cons,List.mem_append,List.nodup_append,List.mem_singleton,not_or,ne_eq,forall_eq]at sp;obtain⟨⟨s1,s2,s3⟩,s4,⟨s5,s6,s7⟩,s8⟩:=sp;have e1:A.m∉[f.b]:=by simp;omega
 have ew:(fl++[f']).map (λf=>bh f.b)=(fl++[f]).map (λf=>bh f.b):=by simp[hb]
 refine⟨?_,?_,λg hg=> ?_,?_⟩
 ·have:=H.own.only O' e1;simpa[dc]using this
 ·have:=H.win.only O' (λb hb hm=>by
   simp only[List.mem_singleton]at hm;subst hm;exact s8 _ hb _ (.inr rfl) rfl)
  show nq h' 0 A.fp (fl++[f']).length A.fc ((fl++[f']).map λf=>bh f.b);rw[ew];simpa using this
 ·rcases List.mem_append.1 hg with hg|hg
  ·refine(H.frm g (by simp[hg])).only O' λhm=> ?_;simp only[List.mem_singleton]at hm;exact s7 _ (List.mem_map.2 ⟨g,hg,rfl⟩) hm
  ·simp only[List.mem_singleton]at hg;subst hg;rw[hb];exact A'
 ·have:=H.sep;simp only[MA.bl]at this ⊢;rw[show(fl++[f']).map (·.b)=(fl++[f]).map (·.b) by simp[hb]];exact this
end
def oI{h:aH}{s op mask a0 a1 a2:Nat}{A:MA}{K:KK}(H:cB h s A)(hl:A.fs.length<1000000)
  (hK: ∀h' f fp fc,(∃b,f=⟨b,op,mask,a0,a1,a2,0,0,180⟩/\h.size<=b)->cB h' s {A with fp:=fp,fc:=fc,fs:=A.fs++[f]}->aM (A.m::aX A.fp) h h'->(∀b∈aX fp,b∈aX A.fp\/h.size<=b)->K (bh f.b) h'):
  Cl 135 [bh A.m,.int .u8 (op:Int),.int .u8 (mask:Int),.agg #[ap (a0:Int),ap (a1:Int),ap (a2:Int)]] h K:=by
 refine F135.spec ?_;refine aV λh1 A1 O1 z1=> ?_;simp only[aL,Nat.zero_add,Nat.add_zero];have r: ∀k,rd h1 ⟨h.size,k,none⟩=([ap (a0:Int),ap (a1:Int),ap (a2:Int)]:List Value)[k]? :=λk=>At.rd A1 k;refine aI (by rw[r];rfl) (aI (by rw[r];rfl) (aI (by rw[r];rfl) ?_));refine aV λh2 A2 O2 z2=> ?_;refine aS A2 ak rfl λh3 A3 O3 z3=> ?_;have hlt:=H.lt;have mlt: ∀b∈A.bl,b<h1.size:=λb hb=>by have:=hlt b hb;omega
 have O13:aM [] h h3:=((O1.trans O2 ak).trans O3 (by intro x hx hl;simp at hx;omega));have H3:=H.only0 O13;refine bo (by rw[At.rd H3.own];rfl) ?_;refine aV λh4 A4 O4 z4=> ?_;have H4:=H3.only0 O4;have F4:At h4 h1.size (iY A.m ⟨h1.size,op,mask,a0,a1,a2,0,0,180⟩):=A3.only O4 ak;refine wR H4.win A4 ah rfl ah λp' c' h5 W5 O5 g5=> ?_
 have nm:A.m∉aX A.fp:=λhm=>by have:=H.sep;simp only[MA.bl,List.nodup_cons,List.mem_append,not_or]at this;exact this.1.1 hm
 have M5:=H4.own.only O5 nm;refine aS M5 (by simp[dc]) rfl λh6 M6 O6 z6=> ?_;have O46:aM (A.m::aX A.fp) h4 h6:=(O5.mono λb hb _=>List.mem_cons_of_mem _ hb).trans O6 λb hb hl=>by simp only[List.mem_singleton]at hb;exact List.mem_cons.2 (.inl hb)
 have hO:aM (A.m::aX A.fp) h h6:=((O13.trans O4 ak).mono ak).trans O46 λb hb _=>hb;have z4':h1.size<h4.size:=F4.lt;have sp:=H.sep;simp only[MA.bl,List.nodup_cons,List.mem_append,List.mem_map,List.nodup_append,not_or]at sp;have ownlt: ∀b∈aX A.fp,b<h1.size:=λb hb=>mlt b (by simp[MA.bl,hb]);have frlt: ∀f∈A.fs,f.b<h1.size:=λf hf=>mlt f.b (by simp only[MA.bl,List.mem_cons,List.mem_append,List.mem_map];exact .inr (.inr ⟨f,hf,rfl⟩));have hm1:=mlt A.m (by simp[MA.bl])
 have nP:h1.size∉A.m::aX A.fp:=λhm=>by
  rcases List.mem_cons.1 hm with e|hm
  ·omega
  ·have:=ownlt _ hm;omega
 have g5': ∀b∈aX p',b∈aX A.fp\/h4.size<=b:=g5;refine hK h6 ⟨h1.size,op,mask,a0,a1,a2,0,0,180⟩ p' c' ⟨h1.size,rfl,ah⟩ ⟨?_,?_,λg hg=> ?_,?_⟩ hO λb hb=>(g5 b hb).imp id λh=>ah
 ·have:(dc s A).set 1 (.slice p' (A.fs.length+1) c')=dc s {A with fp:=p',fc:=c',fs:=A.fs++[⟨h1.size,op,mask,a0,a1,a2,0,0,180⟩]}:=by simp[dc]
  rw[<-this];exact M6
 ·have:=W5.only O6 (λb hb hm=>by
   simp only[List.mem_singleton]at hm;subst hm;rcases g5' _ hb with h|h
   ·exact nm h
   ·omega)
  simpa[bh]using this
 ·rcases List.mem_append.1 hg with hg|hg
  ·refine((H4.frm g hg)).only O46 λhm=> ?_;rcases List.mem_cons.1 hm with e|hm
   ·exact sp.1.2 ⟨g,hg,e⟩
   ·exact sp.2.2.2 _ hm _ ⟨g,hg,rfl⟩ rfl
  ·simp only[List.mem_singleton]at hg;subst hg;exact F4.only O46 nP
 ·show(A.m::(aX p'++(A.fs++[(⟨h1.size,op,mask,a0,a1,a2,0,0,180⟩:Fk)]).map (·.b))).Nodup;have np:(aX p').Nodup:=by cases p'<;>simp[aX]
  simp only[List.map_append,List.map_cons,List.map_nil,List.nodup_cons,List.mem_append,List.mem_map,List.mem_singleton,List.nodup_append,not_or,ne_eq];refine⟨⟨λhm=> ?_,sp.1.2,ah⟩,np,⟨sp.2.2.1,ak,?_⟩,?_⟩
  ·rcases g5' _ hm with h|h
   ·exact nm h
   ·omega
  ·rintro b ⟨g,hg,rfl⟩ c rfl;have:=frlt g hg;omega
  ·rintro b hb c (⟨g,hg,rfl⟩|rfl) e
   ·rcases g5' _ hb with h|h
    ·exact sp.2.2.2 _ h _ ⟨g,hg,rfl⟩ e
    ·have:=frlt g hg;omega
   ·rcases g5' _ hb with h|h
    ·have:=ownlt _ h;omega
    ·omega
def te{h:aH}{s r:Nat}{A:MA}{fl:List Fk}{f:Fk}{K:KK}(H:cB h s {A with fs:=fl++[f]})(hl:fl.length<1000000)
  (hK: ∀h' fp,cB h' s {A with fp:=fp,fs:=fl,told:=r,done:=fl.isEmpty}->aX fp=aX A.fp->aM [A.m] h h'->K aE h'):
  Cl 181 [bh A.m,ap (r:Int)] h K:=by
 refine F181.spec ?_;simp only[aL,Nat.zero_add,Nat.add_zero];have M0:=H.own;refine aS M0 (by simp[dc]) rfl λh1 M1 O1 z1=> ?_;have len:(fl++[f]).length=fl.length+1:=ak;have rs:rd h1 ⟨A.m,1,none⟩=some (.slice A.fp (fl.length+1) A.fc):=by rw[At.rd M1];simp[dc]
 refine bo rs (bo rs ?_);have e1:ax (((fl.length+1:Nat):Int)-1)=(fl.length:Int):=by rw[wrap_i64 ah ah];omega
 have W:=H.win;have W1:nq h 0 A.fp (fl.length+1) A.fc (fl.map (λf=>bh f.b)++[bh f.b]):=by simpa using W
 have cap:=W1.cap;rw[e1];refine⟨ah,ah,?_⟩;refine aS M1 (by simp[dc]) rfl λh2 M2 O2 z2=> ?_;refine bo (p:=if A.fc=0 then A.fp else Option.map (λa=>Addr.add a (0*1)) A.fp) (l:=fl.length) (c:=A.fc) (by rw[At.rd M2];simp[dc]) ?_;refine aS M2 (by simp[dc]) rfl λh3 M3 O3 z3=> ?_;have O:aM [A.m] h h3:=(O1.trans O2 λb hb _=>hb).trans O3 λb hb _=>hb
 have ep:(if A.fc=0 then A.fp else Option.map (λa=>Addr.add a (0*1)) A.fp)=A.fp:=by
  split
  ·rfl
  ·cases A.fp with
   |none=>rfl
   |some a=>simp[Addr.add]
 have Wp:=W1.pop;have sp:=H.sep;simp only[MA.bl,List.map_append,List.map_cons,List.map_nil,List.nodup_cons,List.mem_append,List.nodup_append,List.mem_singleton,not_or]at sp;refine hK h3 A.fp ⟨?_,?_,λg hg=> ?_,?_⟩ rfl O
 ·have e:((((dc s {A with fs:=fl++[f]}).set 2 (ap (r:Int))).set 1 (.slice (if A.fc=0 then A.fp else Option.map (λa=>Addr.add a (0*1)) A.fp) (Int.toNat (fl.length:Int)-0) (A.fc-0))).set 3 (aD ((fl.length:Int)==(0:Int))))=dc s {A with fs:=fl,told:=r,done:=fl.isEmpty}:=by
   rw[ep];have:((fl.length:Int)==(0:Int))=fl.isEmpty:=by cases fl<;>simp;omega
   simp[dc,this]
  rw[<-e];exact M3
 ·rw[ep]at Wp
  exact Wp.only O λb hb hm=>by simp only[List.mem_singleton]at hm;subst hm;exact sp.1.1 hb
 ·refine(H.frm g (by simp[hg])).only O λhm=> ?_;simp only[List.mem_singleton]at hm;exact sp.1.2.1 (List.mem_map.2 ⟨g,hg,hm⟩)
 ·show(A.m::(aX A.fp++fl.map (·.b))).Nodup;simp only[List.nodup_cons,List.mem_append,List.nodup_append,not_or];exact⟨⟨sp.1.1,sp.1.2.1⟩,sp.2.1,sp.2.2.1.1,λa ha b hb=>sp.2.2.2 a ha b (.inl hb)⟩
end
section
def Iu:bZ X 72=some cY.go:=by kernel_rfl
def Ip:bZ X 73=some cY.go:=by kernel_rfl
def ch(n:Nat)(N:ay)(l:Nat)(side:Bool)(a:Nat):Nat:=if lvl n N a=l then(if side then high N a else low N a)else a
section
variable {n:Nat}{f:Nat->Nat}{N N':ay}{a l:Nat}{side:Bool}
def iz(H:dz n N)(ha:isN N a)(hl:l<=lvl n N a)(hn:l<n):isN N (ch n N l side a)/\l+1<=lvl n N (ch n N l side a):=by
 unfold ch;by_cases e:lvl n N a=l
 ·rw[if_pos e]
  have h2:2<=a:=by apply Classical.byContradiction;intro h;have:=nV (n:=n) (N:=N) (a:=a) ah;omega
  obtain⟨h3,h4,h5,-,h6,h7⟩:=H.at ha h2;cases side with
  |true=>exact⟨h5,by rw[if_pos rfl];omega⟩
  |false=>exact⟨h4,by rw[if_neg ak];omega⟩
 ·rw[if_neg e];exact⟨ha,ah⟩
def yr(H:dz n N)(ha:isN N a)(hn:l<n)(x:Nat):sm n f N a x=if x.testBit (f l)then sm n f N (ch n N l true a) x else sm n f N (ch n N l false a) x:=by
 unfold ch;by_cases e:lvl n N a=l
 ·have h2:2<=a:=by
   apply Classical.byContradiction;intro h;have:=nV (n:=n) (N:=N) (a:=a) ah;omega
  rw[if_pos e,if_pos e,cS H ha h2,e]
  rfl
 ·rw[if_neg e,if_neg e];simp
def Ex.ch(E:Ex N N')(ha:Ev.isN N a):ch n N' l side a=ch n N l side a:=by unfold Ev.ch;rw[E.lvl ha,E.low ha,E.high ha]
end
section
variable {h:aH}{s:Nat}{L:List Nat}{X:SX}
end
def GI{p q:Nat}:(if(p:Int)<(q:Int)then(p:Int)else(q:Int))=((min p q:Nat):Int):=by
 by_cases h:(p:Int)<(q:Int)
 ·rw[if_pos h,show min p q=p by omega]
 ·rw[if_neg h,show min p q=q by omega]
end
section
def mL(op:Nat):Prop:=op=2\/op=3\/op=4\/op=5
def jO(n:Nat)(N:ay)(f:Fk):Nat:=min (lvl n N f.a2) (min (lvl n N f.a1) (min (lvl n N f.a0) n))
def tz(n:Nat)(fo:Nat->Nat)(N:ay)(g:Fk)(r:Nat):Prop:=
 (g.fn=225/\kS n fo N g.op (ch n N g.level false g.a0) (ch n N g.level false g.a1) (ch n N g.level false g.a2) r)\/
 (g.fn=273/\kS n fo N g.op (ch n N g.level true g.a0) (ch n N g.level true g.a1) (ch n N g.level true g.a2) r)
def sg(n:Nat)(N:ay)(g f:Fk):Prop:=f.op=g.op/\
 ((g.fn=225/\f.a0=ch n N g.level false g.a0/\f.a1=ch n N g.level false g.a1/\f.a2=ch n N g.level false g.a2)\/
  (g.fn=273/\f.a0=ch n N g.level true g.a0/\f.a1=ch n N g.level true g.a1/\f.a2=ch n N g.level true g.a2))
structure ie(n:Nat)(fo:Nat->Nat)(N:ay)(f:Fk):Prop where
 op:mL f.op
 a:isN N f.a0/\isN N f.a1/\isN N f.a2
 fn:f.fn=180\/((f.fn=225\/f.fn=273)/\f.level=jO n N f/\f.level<n)
 low:f.fn=273->kS n fo N f.op (ch n N f.level false f.a0) (ch n N f.level false f.a1) (ch n N f.level false f.a2) f.low
def ie.lev{n:Nat}{fo:Nat->Nat}{N:ay}{f:Fk}(F:ie n fo N f)(h:f.fn=225\/f.fn=273):f.level<n/\f.level<=lvl n N f.a0/\f.level<=lvl n N f.a1/\f.level<=lvl n N f.a2:=by
 rcases F.fn with e|⟨-,e,hn⟩
 ·omega
 ·unfold jO at e;omega
structure kO where
 op:Nat
 a0:Nat
 a1:Nat
 a2:Nat
structure jo(n:Nat)(fo:Nat->Nat)(N:ay)(G:kO)(fs:List Fk)(told:Nat):Prop where
 frs: ∀f∈fs,ie n fo N f
 lnk: ∀(i:Nat) (g f:Fk),fs[i]? =some g->fs[i+1]? =some f->sg n N g f
 bot: ∃f,fs[0]? =some f/\f.op=G.op/\f.a0=G.a0/\f.a1=G.a1/\f.a2=G.a2
 top: ∀fl fr,fs=fl++[fr]->fr.fn=180\/tz n fo N fr told
 tld:isN N told
def sJ(n:Nat)(N:ay)(f:Fk):Nat:=if f.fn=180 then 4*2^(n-jO n N f)-3 else if f.fn=225 then 4*2^(n-(f.level+1))-1 else 1
def fy(n:Nat)(N:ay)(fs:List Fk):Nat:=(fs.map (sJ n N)).sum
def sB(n:Nat)(N:ay)(f:Fk):Nat:=if f.fn=180 then 2^(n-jO n N f)-1 else if f.fn=225 then 2^(n-(f.level+1))else 1
def gK(n:Nat)(N:ay)(fs:List Fk):Nat:=(fs.map (sB n N)).sum
section
variable {n:Nat}{fo:Nat->Nat}{N N':ay}{G:kO}{fs fl:List Fk}{f g fr:Fk}{told r:Nat}
def iP(H:dz n N){l a:Nat}{side:Bool}(ha:isN N a)(hl:l<=lvl n N a)(hn:l<n):isN N (ch n N l side a):=(iz H ha hl hn).1
def tz.ext(H:dz n N)(E:Ex N N')(F:ie n fo N g)(W:tz n fo N g r):tz n fo N' g r:=by
 obtain⟨a0,a1,a2⟩:=F.a;have lv:=F.lev;rcases W with⟨e,R⟩|⟨e,R⟩
 ·obtain⟨l1,l2,l3,l4⟩:=lv (.inl e);refine .inl ⟨e,?_⟩;rw[E.ch a0,E.ch a1,E.ch a2];exact R.ext H E (iP H a0 l2 l1) (iP H a1 l3 l1) (iP H a2 l4 l1)
 ·obtain⟨l1,l2,l3,l4⟩:=lv (.inr e);refine .inr ⟨e,?_⟩;rw[E.ch a0,E.ch a1,E.ch a2];exact R.ext H E (iP H a0 l2 l1) (iP H a1 l3 l1) (iP H a2 l4 l1)
def sg.ext(E:Ex N N')(F:ie n fo N g)(W:sg n N g f):sg n N' g f:=by obtain⟨a0,a1,a2⟩:=F.a;unfold sg at W ⊢;rw[E.ch a0,E.ch a1,E.ch a2,E.ch a0,E.ch a1,E.ch a2];exact W
def ie.ext(H:dz n N)(E:Ex N N')(F:ie n fo N f):ie n fo N' f:=by
 obtain⟨a0,a1,a2⟩:=F.a;refine⟨F.op,⟨E.isN a0,E.isN a1,E.isN a2⟩,?_,λe=> ?_⟩
 ·unfold jO;rw[E.lvl a0,E.lvl a1,E.lvl a2];exact F.fn
 ·have lv:=F.lev (.inr e);obtain⟨l1,l2,l3,l4⟩:=lv;rw[E.ch a0,E.ch a1,E.ch a2];exact(F.low e).ext H E (iP H a0 l2 l1) (iP H a1 l3 l1) (iP H a2 l4 l1)
def jo.ext(H:dz n N)(E:Ex N N')(R:jo n fo N G fs told):jo n fo N' G fs told:=
 ⟨λf hf=>(R.frs f hf).ext H E,λi g f h1 h2=>(R.lnk i g f h1 h2).ext E (R.frs g (List.mem_of_getElem? h1)),R.bot,λfl fr e=>(R.top fl fr e).imp id λW=>W.ext H E (R.frs fr (by rw[e];simp)),E.isN R.tld⟩
def wD(E:Ex N N')(F:ie n fo N f):jO n N' f=jO n N f:=by obtain⟨a0,a1,a2⟩:=F.a;unfold jO;rw[E.lvl a0,E.lvl a1,E.lvl a2]
def nX(E:Ex N N')(H: ∀f∈fs,ie n fo N f):fy n N' fs=fy n N fs:=by
 unfold fy
 congr 1
 refine List.map_congr_left λf hf=> ?_;unfold sJ;rw[wD E (H f hf)]
def nQ(E:Ex N N')(H: ∀f∈fs,ie n fo N f):gK n N' fs=gK n N fs:=by
 unfold gK
 congr 1
 refine List.map_congr_left λf hf=> ?_;unfold sB;rw[wD E (H f hf)]
def iI:fy n N (fl++[f])=fy n N fl+sJ n N f:=by simp[fy]
def fQ:gK n N (fl++[f])=gK n N fl+sB n N f:=by simp[gK]
def sg.wants(W:sg n N g fr)(R:kS n fo N fr.op fr.a0 fr.a1 fr.a2 r):tz n fo N g r:=by
 obtain⟨e,h|h⟩:=W
 ·obtain⟨e1,e2,e3,e4⟩:=h;rw[e,e2,e3,e4]at R;exact .inl ⟨e1,R⟩
 ·obtain⟨e1,e2,e3,e4⟩:=h;rw[e,e2,e3,e4]at R;exact .inr ⟨e1,R⟩
def jo.pop(R:jo n fo N G (fl++[fr]) told)(hr:kS n fo N fr.op fr.a0 fr.a1 fr.a2 r)(hne:fl≠[]):jo n fo N G fl r:=by
 refine⟨λf hf=>R.frs f (by simp[hf]),λi g f h1 h2=> ?_,?_,λfl' g e=> .inr ?_,hr.is⟩
 ·have l2:=(List.getElem?_eq_some_iff.1 h2).1;refine R.lnk i g f ?_ ?_
  ·rw[List.getElem?_append_left ah];exact h1
  ·rw[List.getElem?_append_left l2];exact h2
 ·obtain⟨f,h1,h2⟩:=R.bot;refine⟨f,?_,h2⟩;rw[List.getElem?_append_left (List.length_pos_iff.2 hne)]at h1;exact h1
 ·subst e;refine(R.lnk fl'.length g fr ?_ ?_).wants hr
  ·simp
  ·simp
def jo.goal(R:jo n fo N G [fr] told)(hr:kS n fo N fr.op fr.a0 fr.a1 fr.a2 r):kS n fo N G.op G.a0 G.a1 G.a2 r:=by obtain⟨f,h1,h2,h3,h4,h5⟩:=R.bot;simp at h1;subst h1;rw[<-h2,<-h3,<-h4,<-h5];exact hr
def jo.push{fr':Fk}(R:jo n fo N G (fl++[fr]) told)(e:fr'.op=fr.op/\fr'.a0=fr.a0/\fr'.a1=fr.a1/\fr'.a2=fr.a2)(F:ie n fo N fr')(W:ie n fo N g)(hl:sg n N fr' g)(hg:g.fn=180):jo n fo N G (fl++[fr']++[g]) told:=by
 refine⟨λf hf=> ?_,λi x f h1 h2=> ?_,?_,λfl' x e'=> .inl ?_,R.tld⟩
 ·simp only[List.mem_append,List.mem_singleton]at hf;rcases hf with(hf|hf)|hf
  ·exact R.frs f (by simp[hf])
  ·subst hf;exact F
  ·subst hf;exact W
 ·have l2:=(List.getElem?_eq_some_iff.1 h2).1;simp only[List.length_append,List.length_singleton]at l2;by_cases hi:i+1<fl.length
  ·rw[List.append_assoc,List.getElem?_append_left ah]at h1;rw[List.append_assoc,List.getElem?_append_left hi]at h2;refine R.lnk i x f ?_ ?_
   ·rw[List.getElem?_append_left ah];exact h1
   ·rw[List.getElem?_append_left hi];exact h2
  ·by_cases hi2:i+1=fl.length
   ·rw[List.append_assoc,List.getElem?_append_left ah]at h1
    have h2':f=fr':=by rw[List.append_assoc,List.getElem?_append_right ah,hi2]at h2;simp at h2;exact h2.symm
    subst h2';have L:=R.lnk i x fr (by rw[List.getElem?_append_left ah];exact h1) (by rw[hi2];simp);unfold sg at L ⊢;rw[e.1,e.2.1,e.2.2.1,e.2.2.2];exact L
   ·have hi3:i=fl.length:=ah;subst hi3
    have e1:x=fr':=by rw[List.append_assoc,List.getElem?_append_right (Nat.le_refl _)]at h1;simp at h1;exact h1.symm
    have e2:f=g:=by rw[List.append_assoc,List.getElem?_append_right ah]at h2;simp at h2;exact h2.symm
    subst e1 e2;exact hl
 ·obtain⟨f,h1,h2,h3,h4,h5⟩:=R.bot;by_cases hz:fl=[]
  ·subst hz;simp at h1;subst h1;exact⟨fr',ak,by rw[e.1];exact h2,by rw[e.2.1];exact h3,by rw[e.2.2.1];exact h4,by rw[e.2.2.2];exact h5⟩
  ·refine⟨f,?_,h2,h3,h4,h5⟩;rw[List.getElem?_append_left (List.length_pos_iff.2 hz)]at h1;rw[List.append_assoc,List.getElem?_append_left (List.length_pos_iff.2 hz)];exact h1
 ·have:=List.append_inj' e' rfl;have:=this.2;simp at this;rw[<-this];exact hg
def kZ(k:Nat):1<=2^k:=Nat.two_pow_pos k
def je(h:f.fn=180):sJ n N f=4*2^(n-jO n N f)-3/\sB n N f=2^(n-jO n N f)-1:=by unfold sJ sB;rw[if_pos h,if_pos h];exact⟨rfl,rfl⟩
def si(h:f.fn=225):sJ n N f=4*2^(n-(f.level+1))-1/\sB n N f=2^(n-(f.level+1)):=by unfold sJ sB;rw[if_neg ah,if_pos h,if_neg ah,if_pos h];exact⟨rfl,rfl⟩
def vg(h:f.fn=273):sJ n N f=1/\sB n N f=1:=by unfold sJ sB;rw[if_neg ah,if_neg ah,if_neg ah,if_neg ah];exact⟨rfl,rfl⟩
def yT(hl:jO n N fr<n)(hg:g.fn=180)(hgl:jO n N fr+1<=jO n N g){fr':Fk}(h0:fr.fn=180)(h1:fr'.fn=225)(h2:fr'.level=jO n N fr):
  sJ n N fr'+sJ n N g+1<=sJ n N fr/\sB n N fr'+sB n N g<=sB n N fr:=by
 rw[(je h0).1,(je h0).2,(je hg).1,(je hg).2,(si h1).1,(si h1).2,h2]
 have e:2^(n-jO n N fr)=2*2^(n-(jO n N fr+1)):=by rw[show n-jO n N fr=(n-(jO n N fr+1))+1 by omega,Nat.pow_succ];omega
 have le:2^(n-jO n N g)<=2^(n-(jO n N fr+1)):=Nat.pow_le_pow_right (by decide) ah;have p:=kZ (n-jO n N g);omega
def BN(hl:fr.level<n)(hg:g.fn=180)(hgl:fr.level+1<=jO n N g){fr':Fk}(h0:fr.fn=225)(h1:fr'.fn=273):
  sJ n N fr'+sJ n N g+1<=sJ n N fr/\sB n N fr'+sB n N g<=sB n N fr:=by
 rw[(si h0).1,(si h0).2,(je hg).1,(je hg).2,(vg h1).1,(vg h1).2];have le:2^(n-jO n N g)<=2^(n-(fr.level+1)):=Nat.pow_le_pow_right (by decide) ah;have p:=kZ (n-jO n N g);omega
def wM:1<=sJ n N f:=by
 unfold sJ;have p:=kZ (n-jO n N f);have q:=kZ (n-(f.level+1));split
 ·omega
 ·split<;>omega
end
end
section
def zX(op a b c r:Nat):Prop:= ∀n f N,dz n N->isN N a->isN N b->isN N c->kS n f N op a b c r
def By{n:Nat}{f:Nat->Nat}{N:ay}{op a b c:Nat}(H:dz n N)(ha:isN N a)(h: ∀x,false=od op (sm n f N a x) (sm n f N b x) (sm n f N c x)):kS n f N op a b c 0:=
 ⟨.inl ah,λk h1 _ _=>by rw[nV (a:=0) ah];have:=lvl_le H ha;omega,λx=>by rw[br ah];exact h x⟩
def uT{n:Nat}{f:Nat->Nat}{N:ay}{op a b c:Nat}(H:dz n N)(ha:isN N a)(h: ∀x,true=od op (sm n f N a x) (sm n f N b x) (sm n f N c x)):kS n f N op a b c 1:=
 ⟨.inl ah,λk h1 _ _=>by rw[nV (a:=1) ah];have:=lvl_le H ha;omega,λx=>by rw[br ah];exact h x⟩
section
variable {h:aH}{s m:Nat}{f:Fk}{K:KK}
def bW(A:At h f.b (iY m f)):rd h (aw f.b)=some (bh m)/\rd h ⟨f.b,1,none⟩=some (.int .u8 (f.op:Int))/\rd h ⟨f.b,3,none⟩=some (ap (f.a0:Int))/\rd h ⟨f.b,4,none⟩=some (ap (f.a1:Int))/\rd h ⟨f.b,5,none⟩=some (ap (f.a2:Int))/\rd h ⟨f.b,6,none⟩=some (al (f.level:Int))/\rd h ⟨f.b,7,none⟩=some (ap (f.low:Int))/\rd h ⟨f.b,8,none⟩=some (F0 f.fn f.b):=
 ⟨by rw[At.rd A];rfl,by rw[At.rd A];rfl,by rw[At.rd A];rfl,by rw[At.rd A];rfl,by rw[At.rd A];rfl,by rw[At.rd A];rfl,by rw[At.rd A];rfl,by rw[At.rd A];rfl⟩
def dV{A:MA}(M:At h A.m (dc s A)):rd h (aw A.m)=some (bh s)/\rd h ⟨A.m,1,none⟩=some (.slice A.fp A.fs.length A.fc)/\rd h ⟨A.m,2,none⟩=some (ap (A.told:Int))/\rd h ⟨A.m,3,none⟩=some (aD A.done)/\rd h ⟨A.m,4,none⟩=some (al (A.e:Int)):=
 ⟨by rw[At.rd M];rfl,by rw[At.rd M];rfl,by rw[At.rd M];rfl,by rw[At.rd M];rfl,by rw[At.rd M];rfl⟩
def Dk(F:At h f.b (iY m f))(hop:mL f.op)(hT: ∀r:Nat,zX f.op f.a0 f.a1 f.a2 r->K (.tuple #[ap (r:Int),aC]) h)
  (hF: ∀r:Nat,(f.op=3->f.a0≠0)->K (.tuple #[ap (r:Int),aB]) h):Cl 223 [bh f.b] h K:=by
 obtain⟨-,r1,r3,r4,r5,-⟩:=bW F;refine F223.spec ?_;simp only[aL,Nat.zero_add,Nat.add_zero];have r3':rd h ⟨f.b,3+Int.toNat (0:Int)*1,none⟩=some (ap (f.a0:Int)):=r3;have r4':rd h ⟨f.b,3+Int.toNat (1:Int)*1,none⟩=some (ap (f.a1:Int)):=r4;refine⟨ah,ah,aI r3' ⟨ah,ah,aI r4' (aI r1 ?_)⟩⟩
 have tail: ∀z:Nat,(z=1/\f.op=2)\/(z=0/\f.op≠2)->F223.wk5 (aw f.b) (f.a0:Int) (f.a1:Int) (z:Int) h K:=by
  intro z hz;unfold F223.wk5;simp only[aL,Nat.zero_add,Nat.add_zero];refine aI r1 ?_;rw[show(5:Int)=((5:Nat):Int)from rfl,fj];refine aT (λe=> ?_) λe5=> ?_
  ·have e:=of_decide_eq_true e;exact hF 0 λh3=>ah
  have e5:=of_decide_eq_false e5;have hop':f.op=2\/f.op=3\/f.op=4:=by rcases hop with h|h|h|h<;>omega
  rw[fj];refine aT (λe=> ?_) λe0=> ?_
  ·have e:=of_decide_eq_true e;refine hT _ λn fo N H ha hb hc=>⟨hb,λk _ h2 _=>h2,λx=> ?_⟩;rcases hz with⟨h1,h2⟩|⟨h1,h2⟩
   ·rw[h2,e,h1,br (a:=1) ah];simp[od]
   ·rcases hop' with h|h|h
    ·omega
    ·rw[h,e,h1,br (a:=0) ah];simp[od]
    ·rw[h,e,h1,br (a:=0) ah];simp[od]
  have e0:=of_decide_eq_false e0
  have last:aK ((f.a1:Int)==(z:Int)) (K (.tuple #[ap (f.a0:Int),aC]) h) (K (.tuple #[ap (0:Int),aB]) h):=by
   rw[fj];refine aT (λe=> ?_) λe=> ?_
   ·have e:=of_decide_eq_true e;refine hT _ λn fo N H ha hb hc=>⟨ha,λk h2 _ _=>h2,λx=> ?_⟩;rcases hz with⟨h1,h2⟩|⟨h1,h2⟩
    ·rw[h2,e,h1,br (a:=1) ah];simp[od]
    ·rcases hop' with h|h|h
     ·omega
     ·rw[h,e,h1,br (a:=0) ah];simp[od]
     ·rw[h,e,h1,br (a:=0) ah];simp[od]
   ·exact hF 0 λh3=>ah
  rw[fj];refine aT (λe=>aI r1 ?_) λe=>last;have e:=of_decide_eq_true e;rw[show((f.op:Int) !=(4:Int))= !decide (f.op=4) by rw[show(4:Int)=((4:Nat):Int)from rfl,<-fj];rfl];refine aT (λe4=> ?_) λe4=>last;have e4:f.op≠4:=by simpa using e4
  refine hT _ λn fo N H ha hb hc=>⟨hb,λk _ h2 _=>h2,λx=> ?_⟩;rw[e];rcases hop' with h|h|h
  ·rw[h];simp[od]
  ·rw[h];simp[od]
  ·omega
 rw[show(2:Int)=((2:Nat):Int)from rfl,fj];refine aT (λe=> ?_) λe=> ?_
 ·exact tail 1 (.inl ⟨rfl,of_decide_eq_true e⟩)
 ·exact tail 0 (.inr ⟨rfl,of_decide_eq_false e⟩)
def wN{a:Nat}:decide ((a:Int)<=(1:Int))=decide (a<=1):=by
 by_cases h:a<=1
 ·rw[decide_eq_true h,decide_eq_true ah]
 ·rw[decide_eq_false h,decide_eq_false ah]
def zb{n:Nat}{f:Nat->Nat}{N:ay}{a x:Nat}(h:a<=1):sm n f N a x=decide (a=1):=by rw[br ah];by_cases e:a=1<;>simp[e]
def Cs(F:At h f.b (iY m f))(hop:mL f.op)(h32:f.a0<2^32/\f.a1<2^32)(h3:f.op=3->f.a0≠0)(hT: ∀r:Nat,zX f.op f.a0 f.a1 f.a2 r->K (.tuple #[ap (r:Int),aC]) h)
  (hF: ∀r:Nat,(2<=f.a0\/2<=f.a1\/2<=f.a2)->K (.tuple #[ap (r:Int),aB]) h):Cl 224 [bh f.b] h K:=by
 obtain⟨-,r1,r3,r4,r5,-⟩:=bW F;refine F224.spec ?_;simp only[aL,Nat.zero_add,Nat.add_zero];have r3':rd h ⟨f.b,3+Int.toNat (0:Int)*1,none⟩=some (ap (f.a0:Int)):=r3;have r4':rd h ⟨f.b,3+Int.toNat (1:Int)*1,none⟩=some (ap (f.a1:Int)):=r4;have r5':rd h ⟨f.b,3+Int.toNat (2:Int)*1,none⟩=some (ap (f.a2:Int)):=r5;refine⟨ah,ah,aI r3' ⟨ah,ah,aI r4' ⟨ah,ah,aI r5' (aI r1 ?_)⟩⟩⟩;rw[yE h32.1 h32.2,Fc h32.1 h32.2,wN,wN];simp only[show(2:Int)=((2:Nat):Int)from rfl,show(3:Int)=((3:Nat):Int)from rfl,show(4:Int)=((4:Nat):Int)from rfl,show(1:Int)=((1:Nat):Int)from rfl,show(0:Int)=((0:Nat):Int)from rfl,fj]
 have and0:f.op=2->(f.a0=0\/f.a1=0)->K (.tuple #[ap ((f.a0&&&f.a1:Nat):Int),aC]) h:=λe he=>by
  have:f.a0&&&f.a1=0:=by rcases he with h|h<;>rw[h]<;>simp
  rw[this];refine hT 0 λn fo N H ha hb hc=>By H ha λx=> ?_;rw[e];rcases he with h|h
  ·rw[h,br (a:=0) ah];simp[od]
  ·rw[h,br (a:=0) ah];simp[od]
 refine aT (λe=> ?_) λe2=> ?_
 ·have e:=of_decide_eq_true e;have no0:f.a0≠0->aK (decide (f.a0=0)) (K (.tuple #[ap ((f.a0&&&f.a1:Nat):Int),aC]) h) (K (.tuple #[ap ((f.a0&&&f.a1:Nat):Int),aD (decide (f.a1=0))]) h)->True:=λ_ _=>trivial
  have rest:(2<=f.a0\/2<=f.a1)->aK (decide (f.a0=0)) (K (.tuple #[ap ((f.a0&&&f.a1:Nat):Int),aC]) h) (K (.tuple #[ap ((f.a0&&&f.a1:Nat):Int),aD (decide (f.a1=0))]) h):=λh2=>by
   refine aT (λe0=>and0 e (.inl (of_decide_eq_true e0))) λe0=> ?_;by_cases h1:f.a1=0
   ·rw[decide_eq_true h1];exact and0 e (.inr h1)
   ·rw[decide_eq_false h1];exact hF _ (h2.imp id .inl)
  refine aT (λe0=> ?_) λe0=>rest (.inl (by have:=of_decide_eq_false e0;omega));have e0:=of_decide_eq_true e0;refine aT (λe1=> ?_) λe1=>rest (.inr (by have:=of_decide_eq_false e1;omega));have e1:=of_decide_eq_true e1;by_cases hz:f.a0=0\/f.a1=0
  ·exact and0 e hz
  ·have q0:f.a0=1:=ah;have q1:f.a1=1:=ah;rw[show f.a0&&&f.a1=1 by rw[q0,q1];rfl];refine hT 1 λn fo N H ha hb hc=>uT H ha λx=> ?_;rw[e,q0,q1,br (a:=1) ah];simp[od]
 have e2:=of_decide_eq_false e2;refine aT (λe=> ?_) λe3=> ?_
 ·have e:=of_decide_eq_true e
  have or1:(f.a0=1\/f.a1=1)->K (.tuple #[ap ((1:Nat):Int),aC]) h:=λhe=>by
   refine hT 1 λn fo N H ha hb hc=>uT H ha λx=> ?_;rw[e];rcases he with h|h
   ·rw[h,br (a:=1) ah];simp[od]
   ·rw[h,br (a:=1) ah];simp[od]
  refine aT (λe0=>or1 (.inl (of_decide_eq_true e0))) λe0=> ?_;by_cases h1:f.a1=1
  ·rw[decide_eq_true h1];exact or1 (.inr h1)
  ·rw[decide_eq_false h1];refine hF 1 (.inl ?_);have:=of_decide_eq_false e0;have:=h3 e;omega
 have e3:=of_decide_eq_false e3;refine aT (λe=> ?_) λe4=> ?_
 ·have e:=of_decide_eq_true e;refine aT (λe0=> ?_) λe0=> ?_
  ·have e0:=of_decide_eq_true e0;rw[e0,Nat.xor_self];refine hT 0 λn fo N H ha hb hc=>By H ha λx=> ?_;rw[e,e0];simp[od]
  ·have e0:=of_decide_eq_false e0;refine aT (λe1=> ?_) λe1=>hF _ (.inl (by have:=of_decide_eq_false e1;omega));have e1:=of_decide_eq_true e1;by_cases h1:f.a1<=1
   ·rw[decide_eq_true h1]
    have q:f.a0^^^f.a1=1:=by have:(f.a0=0/\f.a1=1)\/(f.a0=1/\f.a1=0):=ah;rcases this with⟨h,h'⟩|⟨h,h'⟩<;>rw[h,h']<;>rfl
    rw[q];refine hT 1 λn fo N H ha hb hc=>uT H ha λx=> ?_;rw[e,zb e1,zb h1];have:(f.a0=0/\f.a1=1)\/(f.a0=1/\f.a1=0):=ah;rcases this with⟨h,h'⟩|⟨h,h'⟩<;>rw[h,h']<;>simp[od]
   ·rw[decide_eq_false h1];exact hF _ (.inr (.inl ah))
 have e4:=of_decide_eq_false e4;have e5:f.op=5:=by rcases hop with h|h|h|h<;>omega
 refine aT (λe=> ?_) λe1=>aT (λe=> ?_) λe12=>aT (λe=> ?_) λe0=> ?_
 ·have e:=of_decide_eq_true e;refine hT _ λn fo N H ha hb hc=>⟨hb,λk _ h2 _=>h2,λx=> ?_⟩;rw[e5,e,br (a:=1) ah];simp[od]
 ·have e:=of_decide_eq_true e;refine hT _ λn fo N H ha hb hc=>⟨hb,λk _ h2 _=>h2,λx=> ?_⟩;rw[e5,e];simp[od]
 ·have e:=of_decide_eq_true e;refine hT _ λn fo N H ha hb hc=>⟨hc,λk _ _ h2=>h2,λx=> ?_⟩;rw[e5,e,br (a:=0) ah];simp[od]
 ·exact hF 0 (.inl (by have:=of_decide_eq_false e1;have:=of_decide_eq_false e0;omega))
end
end
section
def tq(side:Bool)(s:Nat):Value:= .func (.func (if side then 73 else 72)) #[au (aw s)] #[]
section
variable {h:aH}{s m:Nat}{f:Fk}{K:KK}{L:List Nat}{X:SX}
set_option maxRecDepth 100000 in
def wW{A:MA}{side:Bool}(H:cI h s L X)(F:At h f.b (iY A.m f))(M:At h A.m (dc s A))(ha:isN X.N f.a0)(hb:isN X.N f.a1)(hc:isN X.N f.a2)
  (hK: ∀h',aM [] h h'->K (.agg #[ap (ch X.n X.N f.level side f.a0:Int),ap (ch X.n X.N f.level side f.a1:Int),ap (ch X.n X.N f.level side f.a2:Int)]) h'):
  Cl 226 [bh f.b,tq side s] h K:=by
 refine F226.spec _ _ h K ?_;refine aV λh1 A1 O1 z1=> ?_;simp only[aL,Nat.zero_add,Nat.add_zero];have F1:=F.only O1 ak;obtain⟨-,-,r3,r4,r5,-⟩:=bW F1;refine aI r3 (aI r4 (aI r5 ?_));refine aV λh2 A2 O2 z2=> ?_;refine aS A2 ak rfl λh3 A3 O3 z3=>aS A3 ak rfl λh4 A4 O4 z4=>aS A4 ak rfl λh5 A5 O5 z5=> ?_;have A5:At h5 h1.size [ap (f.a0:Int),ap (f.a1:Int),ap (f.a2:Int)]:=A5;have r: ∀k,rd h5 ⟨h1.size,k,none⟩=([ap (f.a0:Int),ap (f.a1:Int),ap (f.a2:Int)]:List Value)[k]? :=λk=>At.rd A5 k;refine aI (by rw[r];rfl) (aI (by rw[r];rfl) (aI (by rw[r];rfl) ?_));unfold F226.wk3;have O15:aM [h1.size] h1 h5:=((O2.mono (T:=[h1.size]) ak).trans O3 λb hb _=>hb).trans O4 (λb hb _=>hb)|>.trans O5 λb hb _=>hb;have B5:At h5 h.size [ap 0,ap 0,ap 0]:=A1.only O15 (by simp;omega);have O05:aM [] h h5:=O1.trans O15 (by intro b hb hl;simp at hb;omega)
 have step: ∀(bk:Addr->Value->Addr->Addr->Int->Int->Int->Int->aH->Prop) (h':aH) (i y:Nat) (l':List Value),i<3->(if i=0 then f.a0 else if i=1 then f.a1 else f.a2)=y->isN X.N y->l'.length=3->(l'[i]? =some (ap (y:Int)))->
   At h' h.size [ap 0,ap 0,ap 0]->At h' h1.size l'->aM [] h h'->
   (∀h'',At h'' h.size [ap 0,ap 0,ap 0]->At h'' h1.size (l'.set i (ap (ch X.n X.N f.level side y:Int)))->aM [] h h''->bk (aw f.b) (tq side s) (aw h.size) (aw h1.size) (f.a0:Int) (f.a1:Int) (f.a2:Int) ((i+1:Nat):Int) h'')->
   F226.JL3 bk (aw f.b) (tq side s) (aw h.size) (aw h1.size) (f.a0:Int) (f.a1:Int) (f.a2:Int) (i:Int) h' K:=by
  intro bk h' i y l' hi hy hN hl' hy' B A O hB;unfold F226.JL3;have F':=F.only O ak;have M':=M.only O ak;have S':=H.only0 O;obtain⟨r0,-,-,-,-,r6,-⟩:=bW F';have m0:=(dV M').1;rw[decide_eq_true ah,aO];refine⟨ah,ah,aI (n:=(y:Int)) ?_ ?_⟩
  ·rw[Int.toNat_natCast];subst hy;have:i=0\/i=1\/i=2:=ah;rcases this with e|e|e<;>subst e<;>rfl
  simp only[aL,Nat.zero_add,Nat.add_zero];refine aR r0 ?_;rw[aU];simp only[aL,Nat.zero_add,Nat.add_zero];refine aR m0 (aI r6 (dy S' hN (aI rfl ⟨by trivial,by trivial,by trivial,aI r6 ⟨by trivial,?_⟩⟩)));have ew:ax ((i:Int)+1)=((i+1:Nat):Int):=by rw[wrap_i64 ah ah];omega
  rw[ew,fj];refine aT (λe=> ?_) λe=> ?_
  ·have e:=of_decide_eq_true e;have ech:ch X.n X.N f.level side y=if side then high X.N y else low X.N y:=by unfold ch;rw[if_pos e]
   have wr: ∀z:Nat,z=ch X.n X.N f.level side y->aQ .u32 (some (ap (z:Int))) λn12=>0<=(i:Int)/\(i:Int)<(Nat.cast 3:Int)/\aW h' ⟨h1.size,Int.toNat (i:Int)*1,none⟩ (ap n12) λh13=>bk (aw f.b) (tq side s) (aw h.size) (aw h1.size) (f.a0:Int) (f.a1:Int) (f.a2:Int) ((i+1:Nat):Int) h13:=λz hz=>by refine aI rfl ⟨ah,ah,?_⟩;rw[Int.toNat_natCast,Nat.mul_one,hz];exact aS A ah rfl λh'' A' O' z'=>hB h'' (B.only O' (by simp;omega)) A' (O.trans O' (by intro x hx hlt;simp at hx;omega))
   unfold tq at wr ⊢;cases side with
   |true=>exact bE Ip (gp S' hN (wr _ (by rw[ech];rfl)))
   |false=>exact bE Iu (iB S' hN (wr _ (by rw[ech];rfl)))
  ·have e:=of_decide_eq_false e;have ech:ch X.n X.N f.level side y=y:=by unfold ch;rw[if_neg e]
   refine hB h' B ?_ O;rw[ech]
   have:l'.set i (ap (y:Int))=l':=by
    apply List.ext_getElem?;intro j;rw[List.getElem?_set];by_cases hij:i=j
    ·subst hij;rw[if_pos rfl,if_pos ah,hy']
    ·rw[if_neg hij]
   rw[this];exact A
 refine⟨4,?_⟩;rw[F226.sL3];refine step _ h5 0 f.a0 _ ah rfl ha rfl rfl B5 A5 O05 λh6 B6 A6 O6=> ?_;rw[F226.sL3];refine step _ h6 1 f.a1 _ ah rfl hb rfl rfl B6 A6 O6 λh7 B7 A7 O7=> ?_;rw[F226.sL3];refine step _ h7 2 f.a2 _ ah rfl hc rfl rfl B7 A7 O7 λh8 B8 A8 O8=> ?_;rw[F226.sL3];unfold F226.JL3;rw[decide_eq_false ah,aJ];simp only[aL,Nat.zero_add,Nat.add_zero];have A8:At h8 h1.size [ap (ch X.n X.N f.level side f.a0:Int),ap (ch X.n X.N f.level side f.a1:Int),ap (ch X.n X.N f.level side f.a2:Int)]:=A8;have r8: ∀k,rd h8 ⟨h1.size,k,none⟩=([ap (ch X.n X.N f.level side f.a0:Int),ap (ch X.n X.N f.level side f.a1:Int),ap (ch X.n X.N f.level side f.a2:Int)]:List Value)[k]? :=λk=>At.rd A8 k;refine aI (by rw[r8];rfl) (aI (by rw[r8];rfl) (aI (by rw[r8];rfl) ?_));refine aS B8 ak rfl λh9 A9 O9 z9=>aS A9 ak rfl λh10 A10 O10 z10=>aS A10 ak rfl λh11 A11 O11 z11=> ?_;have A11:At h11 h.size [ap (ch X.n X.N f.level side f.a0:Int),ap (ch X.n X.N f.level side f.a1:Int),ap (ch X.n X.N f.level side f.a2:Int)]:=A11;have r11: ∀k,rd h11 ⟨h.size,k,none⟩=([ap (ch X.n X.N f.level side f.a0:Int),ap (ch X.n X.N f.level side f.a1:Int),ap (ch X.n X.N f.level side f.a2:Int)]:List Value)[k]? :=λk=>At.rd A11 k;refine aI (by rw[r11];rfl) (aI (by rw[r11];rfl) (aI (by rw[r11];rfl) ?_));exact hK h11 (((O8.trans O9 (by intro b hb hl;simp at hb;omega)).trans O10 (by intro b hb hl;simp at hb;omega)).trans O11 (by intro b hb hl;simp at hb;omega))
end
end
section
def Hh:bZ X 180=some cY.go:=by kernel_rfl
def Gh:bZ X 225=some cY.go:=by kernel_rfl
def Hn:bZ X 273=some cY.go:=by kernel_rfl
section
variable {h:aH}{s n room:Nat}{fo gg:Nat->Nat}{off:Bool}{N:ay}{A:MA}{fl:List Fk}{fr:Fk}{K:KK}{L:List Nat}
def cB.ftop(M:cB h s {A with fs:=fl++[fr]}):At h fr.b (iY A.m fr):=M.frm fr ak
def lG:fr.b∈({A with fs:=fl++[fr]}:MA).bl:=by simp[MA.bl]
set_option maxRecDepth 100000 in
def Ae(H:cI h s L (XL n room fo gg N off))(M:cB h s {A with fs:=fl++[fr]})(D: ∀b∈({A with fs:=fl++[fr]}:MA).bl,b∉L)(hl:fl.length<100000)(hop:mL fr.op)(ha:isN N fr.a0)(hb:isN N fr.a1)(hc:isN N fr.a2)
  (hT: ∀h' fp r,kS n fo N fr.op fr.a0 fr.a1 fr.a2 r->cI h' s L (XL n room fo gg N off)->cB h' s {A with fp:=fp,fs:=fl,told:=r,done:=fl.isEmpty}->aX fp=aX A.fp->aM (L++({A with fs:=fl++[fr]}:MA).bl) h h'->K aE h')
  (hP: ∀h' l b fp fc,l=min (lvl n N fr.a2) (min (lvl n N fr.a1) (min (lvl n N fr.a0) n))->l<n->h.size<=b->cI h' s L (XL n room fo gg N off)->
   cB h' s {A with fp:=fp,fc:=fc,fs:=fl++[{fr with level:=l,fn:=225}]++[⟨b,fr.op,0,ch n N l false fr.a0,ch n N l false fr.a1,ch n N l false fr.a2,0,0,180⟩]}->(∀b∈aX fp,b∈aX A.fp\/h.size<=b)->aM (L++({A with fs:=fl++[fr]}:MA).bl) h h'->K aE h'):
  Cl 180 [bh fr.b] h K:=by
 have ok:=H.ok;dsimp only[XL]at ok;have hn8:=ok.2.2.1;have nlt: ∀{y},isN N y->y<2^16:=λhy=>by have:=H.isN_lt hy;omega
 have opl:fr.op<2^8:=by rcases hop with h|h|h|h<;>omega
 refine F180.spec _ h K ?_;simp only[aL,Nat.zero_add,Nat.add_zero];have F:=M.ftop;have r0:=(bW F).1;have m0:=(dV M.own).1;refine aR r0 ?_;rw[aU];simp only[aL,Nat.zero_add,Nat.add_zero];refine aR m0 ?_
 have tell: ∀h' r,kS n fo N fr.op fr.a0 fr.a1 fr.a2 r->cI h' s L (XL n room fo gg N off)->cB h' s {A with fs:=fl++[fr]}->aM L h h'->F180.wk6 (aw fr.b) (some (aw s)) (r:Int) true h' K:=by
  intro h' r R S M' O;unfold F180.wk6;rw[aO];simp only[aL,Nat.zero_add,Nat.add_zero];refine aR (bW M'.ftop).1 (te M' ah λh2 fp M2 e2 O2=>⟨rfl,?_⟩);refine hT h2 fp r R (S.only O2 λb hb hm=> ?_) M2 e2 ((O.mono λb hb _=>List.mem_append.2 (.inl hb)).trans O2 λb hb _=> ?_)
  ·simp only[List.mem_singleton]at hb;subst hb;exact D A.m (by simp[MA.bl]) hm
  ·simp only[List.mem_singleton]at hb;subst hb;exact List.mem_append.2 (.inr (by simp[MA.bl]))
 have down: ∀h' (z:Int),(2<=fr.a0\/2<=fr.a1\/2<=fr.a2)->cI h' s L (XL n room fo gg N off)->cB h' s {A with fs:=fl++[fr]}->aM L h h'->F180.wk6 (aw fr.b) (some (aw s)) z false h' K:=by
  intro h' z h2 S M' O;unfold F180.wk6;rw[aJ];simp only[aL,Nat.zero_add,Nat.add_zero];refine fD S (aI rfl ?_);have hsz:=O.size;have nfr:fr.b∉L:=D _ lG;have zL:=H.lt;refine M'.top (f':={fr with level:=n}) (by decide) rfl rfl rfl λh3 M3 O3=> ?_;have S3:=S.only O3 (λb hb hm=>by simp only[List.mem_singleton]at hb;subst hb;exact nfr hm);obtain⟨q0,q1,q3,q4,q5,q6,-⟩:=bW M3.ftop;refine aI q3 (aI q4 (aI q5 ?_));unfold F180.wk10;have O03:aM (L++[fr.b]) h h3:=(O.mono λb hb _=>List.mem_append.2 (.inl hb)).trans O3 λb hb _=>List.mem_append.2 (.inr hb)
  have lstep: ∀(bk:Addr->az->Int->Int->Int->Int->aH->Prop) (k14:Addr->az->aH->Prop) (h4:aH) (i y l:Nat),i<3->(if i=0 then fr.a0 else if i=1 then fr.a1 else fr.a2)=y->isN N y->cI h4 s L (XL n room fo gg N off)->cB h4 s {A with fs:=fl++[{fr with level:=l}]}->aM (L++[fr.b]) h h4->
    (∀h5,cI h5 s L (XL n room fo gg N off)->cB h5 s {A with fs:=fl++[{fr with level:=min (lvl n N y) l}]}->aM (L++[fr.b]) h h5->bk (aw fr.b) (some (aw s)) (fr.a0:Int) (fr.a1:Int) (fr.a2:Int) ((i+1:Nat):Int) h5)->
    F180.JL10 bk k14 (aw fr.b) (some (aw s)) (fr.a0:Int) (fr.a1:Int) (fr.a2:Int) (i:Int) h4 K:=by
   intro bk k14 h4 i y l hi hy hN S4 M4 O4 hB;unfold F180.JL10;rw[decide_eq_true ah,aO];simp only[aL,Nat.zero_add,Nat.add_zero];obtain⟨p0,p1,p3,p4,p5,p6,-⟩:=bW M4.ftop;refine⟨ah,ah,aI (n:=(y:Int)) ?_ (aI p6 (dy S4 hN (aI rfl ⟨by trivial,by trivial,by trivial,by trivial,aI p6 ⟨by trivial,?_⟩⟩)))⟩
   ·rw[Int.toNat_natCast];subst hy;have:i=0\/i=1\/i=2:=ah;rcases this with e|e|e<;>subst e<;>rfl
   ·have ew:ax ((i:Int)+1)=((i+1:Nat):Int):=by rw[wrap_i64 ah ah];omega
    rw[ew];show aW h4 ⟨fr.b,6,none⟩ (al (if((lvl n N y:Nat):Int)<(l:Int)then((lvl n N y:Nat):Int)else(l:Int))) _;rw[GI];refine M4.top (f':={fr with level:=min (lvl n N y) l}) (by decide) rfl rfl rfl λh5 M5 O5=>hB h5 (S4.only O5 λb hb hm=>by simp only[List.mem_singleton]at hb;subst hb;exact nfr hm) M5 (O4.trans O5 λb hb _=>List.mem_append.2 (.inr hb))
  refine⟨4,?_⟩;rw[F180.sL10];refine lstep _ _ h3 0 fr.a0 n ah rfl ha S3 M3 O03 λh4 S4 M4 O4=> ?_;rw[F180.sL10];refine lstep _ _ h4 1 fr.a1 _ ah rfl hb S4 M4 O4 λh5 S5 M5 O5=> ?_;rw[F180.sL10];refine lstep _ _ h5 2 fr.a2 _ ah rfl hc S5 M5 O5 λh6 S6 M6 O6=> ?_;rw[F180.sL10];unfold F180.JL10;rw[decide_eq_false ah,aJ];obtain⟨l,el⟩: ∃l,l=min (lvl n N fr.a2) (min (lvl n N fr.a1) (min (lvl n N fr.a0) n)):=⟨_,rfl⟩;rw[<-el]at M6;have lt2: ∀{y},isN N y->2<=y->lvl n N y<n:=λhy h2=>(ok.1.at hy h2).1
  have hln:l<n:=by
   rcases h2 with h2|h2|h2
   ·have:=lt2 ha h2;omega
   ·have:=lt2 hb h2;omega
   ·have:=lt2 hc h2;omega
  unfold F180.wk14;simp only[aL,Nat.zero_add,Nat.add_zero];refine M6.top (f':={fr with level:=l,fn:=225}) (by decide) rfl rfl rfl λh7 M7 O7=> ?_;have S7:=S6.only O7 (λb hb hm=>by simp only[List.mem_singleton]at hb;subst hb;exact nfr hm);have F7:=M7.ftop;obtain⟨q0,q1,-⟩:=bW F7;refine aR q0 (aI q1 ?_);have O07:aM (L++[fr.b]) h h7:=O6.trans O7 λb hb _=>List.mem_append.2 (.inr hb);refine wW (A:={A with fs:=fl++[{fr with level:=l,fn:=225}]}) (side:=false) (f:={fr with level:=l,fn:=225}) S7 F7 M7.own ha hb hc λh8 O8=>⟨_,_,_,rfl,by trivial,by trivial,by trivial,?_⟩;have M8:=M7.only0 O8;have S8:=S7.only0 O8;obtain⟨p0,p1,-⟩:=bW M8.ftop;refine aR p0 ⟨by trivial,by trivial,by trivial,by trivial,aI p1 ⟨by trivial,?_⟩⟩;refine oI (A:={A with fs:=fl++[{fr with level:=l,fn:=225}]}) (mask:=0) M8 (by simp;omega) λh9 g fp fc hg M9 O9 g9=>aR rfl ?_;obtain⟨b,rfl,hb9⟩:=hg;have hz8:h.size<=h8.size:=Nat.le_trans O07.size O8.size;refine hP h9 l b fp fc el hln ah (S8.only O9 λx hx hm=> ?_) M9 (λx hx=>(g9 x hx).imp id λh=>ah) ?_
  ·rcases List.mem_cons.1 hx with e|hx
   ·subst e;exact D A.m (by simp[MA.bl]) hm
   ·have hx:x∈aX A.fp:=hx;exact D x (by simp[MA.bl,hx]) hm
  ·refine((O07.trans O8 ak).mono (T:=L++({A with fs:=fl++[fr]}:MA).bl) λx hx _=> ?_).trans O9 λx hx _=>List.mem_append.2 (.inr ?_)
   ·rcases List.mem_append.1 hx with h|h
    ·exact List.mem_append.2 (.inl h)
    ·simp only[List.mem_singleton]at h;subst h;exact List.mem_append.2 (.inr lG)
   ·rcases List.mem_cons.1 hx with e|hx
    ·subst e;simp[MA.bl]
    ·have hx:x∈aX A.fp:=hx;simp[MA.bl,hx]
 have h32:fr.a0<2^32/\fr.a1<2^32:=⟨by have:=nlt ha;omega,by have:=nlt hb;omega⟩;refine Dk F hop (λr R=>⟨_,_,rfl,?_⟩) λr h3=>⟨_,_,rfl,?_⟩
 ·rw[Bool.not_true,aJ];unfold F180.wk4;rw[Bool.not_true,aJ];exact tell h r (R n fo N ok.1 ha hb hc) H M (aM.refl _ _)
 ·rw[Bool.not_false,aO];refine Cs F hop h32 h3 (λr R=>⟨_,_,rfl,?_⟩) λr h2=>⟨_,_,rfl,?_⟩
  ·unfold F180.wk4;rw[Bool.not_true,aJ];exact tell h r (R n fo N ok.1 ha hb hc) H M (aM.refl _ _)
  ·unfold F180.wk4;rw[Bool.not_false,aO];simp only[aL,Nat.zero_add,Nat.add_zero];obtain⟨-,p1,p3,p4,p5,-⟩:=bW F;have r3':rd h ⟨fr.b,3+Int.toNat (0:Int)*1,none⟩=some (ap (fr.a0:Int)):=p3;have r4':rd h ⟨fr.b,3+Int.toNat (1:Int)*1,none⟩=some (ap (fr.a1:Int)):=p4;have r5':rd h ⟨fr.b,3+Int.toNat (2:Int)*1,none⟩=some (ap (fr.a2:Int)):=p5;refine aI p1 ⟨ah,ah,aI r3' ⟨ah,ah,aI r4' ⟨ah,ah,aI r5' ?_⟩⟩⟩;refine uJ (mask:=0) H opl (by decide) (nlt ha) (nlt hb) (nlt hc) (λh4 S4 O4=>⟨_,_,rfl,?_⟩) λh4 v hv S4 O4=>⟨_,_,rfl,?_⟩
   ·exact down h4 _ h2 S4 (M.only O4 λb hb hm=>D b hm hb) O4
   ·obtain⟨r,rfl,R⟩:=QL.get (by rcases hop with h|h|h|h<;>omega) hv (nlt ha) (nlt hb) (nlt hc);have hr:=H.isN_lt R.is;rw[gY ah];exact tell h4 r R S4 (M.only O4 λb hb hm=>D b hm hb) O4
end
end
section
section
variable {h:aH}{s n room:Nat}{fo gg:Nat->Nat}{off:Bool}{N:ay}{A:MA}{fl:List Fk}{fr:Fk}{K:KK}{L:List Nat}
set_option maxRecDepth 100000 in
def qW(H:cI h s L (XL n room fo gg N off))(M:cB h s {A with fs:=fl++[fr]})(D: ∀b∈({A with fs:=fl++[fr]}:MA).bl,b∉L)(hl:fl.length<100000)(ha:isN N fr.a0)(hb:isN N fr.a1)(hc:isN N fr.a2)
  (hP: ∀h' b fp fc,h.size<=b->cI h' s L (XL n room fo gg N off)->
   cB h' s {A with fp:=fp,fc:=fc,fs:=fl++[{fr with low:=A.told,fn:=273}]++[⟨b,fr.op,0,ch n N fr.level true fr.a0,ch n N fr.level true fr.a1,ch n N fr.level true fr.a2,0,0,180⟩]}->(∀b∈aX fp,b∈aX A.fp\/h.size<=b)->aM (L++({A with fs:=fl++[fr]}:MA).bl) h h'->K aE h'):
  Cl 225 [bh fr.b] h K:=by
 refine F225.spec ?_;simp only[aL,Nat.zero_add,Nat.add_zero];have nfr:fr.b∉L:=D _ lG;have rm:=dV M.own;refine aR (bW M.ftop).1 ?_;rw[aU];simp only[aL,Nat.zero_add,Nat.add_zero];refine aI rm.2.2.1 ?_;refine M.top (f':={fr with low:=A.told}) (by decide) rfl rfl rfl λh1 M1 O1=> ?_;refine M1.top (f':={fr with low:=A.told,fn:=273}) (by decide) rfl rfl rfl λh2 M2 O2=> ?_;have O02:aM [fr.b] h h2:=O1.trans O2 λb hb _=>hb;have S2:=H.only O02 (λb hb hm=>by simp only[List.mem_singleton]at hb;subst hb;exact nfr hm);have F2:=M2.ftop;obtain⟨q0,q1,-⟩:=bW F2;refine aR q0 (aI q1 (aR q0 ?_));rw[aU];simp only[aL,Nat.zero_add,Nat.add_zero];refine aR (dV M2.own).1 ?_;refine wW (A:={A with fs:=fl++[{fr with low:=A.told,fn:=273}]}) (side:=true) (f:={fr with low:=A.told,fn:=273}) S2 F2 M2.own ha hb hc λh8 O8=>⟨_,_,_,rfl,by trivial,by trivial,by trivial,?_⟩;have M8:=M2.only0 O8;have S8:=S2.only0 O8;obtain⟨p0,p1,-⟩:=bW M8.ftop;refine aR p0 ⟨by trivial,by trivial,by trivial,by trivial,aI p1 ⟨by trivial,?_⟩⟩;refine oI (A:={A with fs:=fl++[{fr with low:=A.told,fn:=273}]}) (mask:=0) M8 (by simp;omega) λh9 g fp fc hg M9 O9 g9=>aR rfl ?_;obtain⟨b,rfl,hb9⟩:=hg;have hz8:h.size<=h8.size:=Nat.le_trans O02.size O8.size;refine hP h9 b fp fc ah (S8.only O9 λx hx hm=> ?_) M9 (λx hx=>(g9 x hx).imp id λh=>ah) ?_
 ·rcases List.mem_cons.1 hx with e|hx
  ·subst e;exact D A.m (by simp[MA.bl]) hm
  ·have hx:x∈aX A.fp:=hx;exact D x (by simp[MA.bl,hx]) hm
 ·refine((O02.trans O8 ak).mono (T:=L++({A with fs:=fl++[fr]}:MA).bl) λx hx _=> ?_).trans O9 λx hx _=>List.mem_append.2 (.inr ?_)
  ·simp only[List.mem_singleton]at hx;subst hx;exact List.mem_append.2 (.inr lG)
  ·rcases List.mem_cons.1 hx with e|hx
   ·subst e;simp[MA.bl]
   ·have hx:x∈aX A.fp:=hx;simp[MA.bl,hx]
set_option maxRecDepth 100000 in
def sa(H:cI h s L (XL n room fo gg N off))(M:cB h s {A with fs:=fl++[fr]})(D: ∀b∈({A with fs:=fl++[fr]}:MA).bl,b∉L)(hl:fl.length<100000)(hop:mL fr.op)(ha:isN N fr.a0)(hb:isN N fr.a1)(hc:isN N fr.a2)
  (hln:fr.level<n) (hlo:isN N fr.low) (htd:isN N A.told) (llo:fr.level<lvl n N fr.low) (ltd:fr.level<lvl n N A.told)
  (hR: ∀N' r,Ex N N'->jr room N fr.level fr.low A.told N' r 0->dz n N'->kS n fo N' fr.op fr.a0 fr.a1 fr.a2 r)
  (hT: ∀h' L' N' fp r,jr room N fr.level fr.low A.told N' r 0->kS n fo N' fr.op fr.a0 fr.a1 fr.a2 r->cI h' s L' (XL n room fo gg N' off)->cB h' s {A with fp:=fp,fs:=fl,told:=r,done:=fl.isEmpty}->aX fp=aX A.fp->aM (L++({A with fs:=fl++[fr]}:MA).bl) h h'->bH L L' h->K aE h')
  (hE: ∀h' L',room<=be N->cI h' s L' (XL n room fo gg N off)->cB h' s {A with fp:=none,fc:=0,fs:=[],done:=true,e:=60}->aM (L++({A with fs:=fl++[fr]}:MA).bl) h h'->bH L L' h->K aE h'):
  Cl 273 [bh fr.b] h K:=by
 have ok:=H.ok;dsimp only[XL]at ok;have hn8:=ok.2.2.1;have nlt: ∀{y},isN N y->y<2^16:=λhy=>by have:=H.isN_lt hy;omega
 have opl:fr.op<2^8:=by rcases hop with h|h|h|h<;>omega
 refine F273.spec ?_;simp only[aL,Nat.zero_add,Nat.add_zero];have nfr:fr.b∉L:=D _ lG;have hlt:=M.lt;obtain⟨q0,q1,-,-,-,q6,q7,-⟩:=bW M.ftop;refine aI q6 (aI q7 (aR q0 ?_));rw[aU];simp only[aL,Nat.zero_add,Nat.add_zero];refine aI (dV M.own).2.2.1 ?_;refine F276.spec ?_;simp only[aL,Nat.zero_add,Nat.add_zero];refine aR q0 ?_;rw[aU];simp only[aL,Nat.zero_add,Nat.add_zero];refine aR (dV M.own).1 ?_;refine yD H (l:=fr.level) hln hlo htd llo ltd λh1 L1 N1 r e R S1 O1 g1=>⟨_,_,rfl,?_⟩;dsimp only[XL]at R
 have DD: ∀b∈({A with fs:=fl++[fr]}:MA).bl,b∉L1:=λb hb hm=>by
  rcases g1 b hm with h|h
  ·exact D b hb h
  ·have:=hlt b hb;omega
 have M1:=M.only O1 (λb hb hm=>D b hm hb);have ok1:=S1.ok;dsimp only[XL]at ok1;by_cases he:e=0
 ·subst he;have E1:Ex N N1:=(lF (f:=fo) ok.1 ok1.1 hlo htd llo R).1;have S1':=yM S1 ok.1 E1;have RR:=hR N1 r E1 R ok1.1;rw[show((((0:Nat):Int)) !=(0:Int))=false from rfl,aJ];unfold F276.wk4;refine⟨_,_,rfl,?_⟩;rw[show((((0:Nat):Int))==(0:Int))=true from rfl,aO];obtain⟨p0,p1,p3,p4,p5,-⟩:=bW M1.ftop;refine aR p0 ?_;rw[aU];simp only[aL,Nat.zero_add,Nat.add_zero];refine aR (dV M1.own).1 (aI p1 ?_);have r3':rd h1 ⟨fr.b,3+Int.toNat (0:Int)*1,none⟩=some (ap (fr.a0:Int)):=p3;have r4':rd h1 ⟨fr.b,3+Int.toNat (1:Int)*1,none⟩=some (ap (fr.a1:Int)):=p4;have r5':rd h1 ⟨fr.b,3+Int.toNat (2:Int)*1,none⟩=some (ap (fr.a2:Int)):=p5;have hr:=S1'.isN_lt RR.is;refine⟨ah,ah,aI r3' ⟨ah,ah,aI r4' ⟨ah,ah,aI r5' ?_⟩⟩⟩;refine zm (mask:=0) S1' opl (by decide) (nlt ha) (nlt hb) (nlt hc) ah ⟨fr.op,0,fr.a0,fr.a1,fr.a2,r,rfl,rfl,by decide,E1.isN ha,E1.isN hb,E1.isN hc,nlt ha,nlt hb,nlt hc,.inl ⟨by rcases hop with h|h|h|h<;>omega,rfl,RR⟩⟩ λh2 S2 O2=>⟨rfl,?_⟩;have M2:=M1.only O2 (λb hb hm=>DD b hm hb);refine aR (bW M2.ftop).1 (te M2 ah λh3 fp M3 e3 O3=>⟨rfl,?_⟩);have nm:A.m∉L1:=DD A.m (by simp[MA.bl]);refine hT h3 L1 N1 fp r R RR (S2.only O3 λb hb hm=>by simp only[List.mem_singleton]at hb;subst hb;exact nm hm) M3 e3 ?_ g1;refine((O1.app O2 g1).mono (T:=L++({A with fs:=fl++[fr]}:MA).bl) λx hx _=>List.mem_append.2 (.inl hx)).trans O3 λx hx _=> ?_;simp only[List.mem_singleton]at hx;subst hx;exact List.mem_append.2 (.inr (by simp[MA.bl]))
 ·have hfull:room<=be N/\e=60/\N1=N:=by
   rcases R with⟨-,-,h,-⟩|⟨-,_,-,-,h,-⟩|⟨-,-,h1,-,h2,h3⟩|⟨-,-,-,h,-⟩
   ·exact absurd h he
   ·exact absurd h he
   ·exact⟨h1,h2,h3⟩
   ·exact absurd h he
  obtain⟨hf1,rfl,rfl⟩:=hfull;rw[show((((60:Nat):Int)) !=(0:Int))=true from rfl,aO];obtain⟨p0,-⟩:=bW M1.ftop;refine aR p0 (aR p0 (aR p0 ?_));rw[aU];simp only[aL,Nat.zero_add,Nat.add_zero];refine aS M1.own (by simp[dc]) rfl λh2 A2 O2 z2=> ?_;rw[aU];simp only[aL,Nat.zero_add,Nat.add_zero];refine aS A2 (by simp[dc]) rfl λh3 A3 O3 z3=> ?_;rw[aU];simp only[aL,Nat.zero_add,Nat.add_zero];refine aS A3 (by simp[dc]) rfl λh4 A4 O4 z4=> ?_;unfold F276.wk4;refine⟨_,_,rfl,?_⟩;rw[show((((60:Nat):Int))==(0:Int))=false from rfl,aJ];have O14:aM [A.m] h1 h4:=(O2.trans O3 λb hb _=>hb).trans O4 λb hb _=>hb;have nm:A.m∉L1:=DD A.m (by simp[MA.bl]);refine hE h4 L1 hf1 (S1.only O14 λb hb hm=>by simp only[List.mem_singleton]at hb;subst hb;exact nm hm) ⟨?_,nq.nil _ _,(λf hf=>by cases hf),by simp[MA.bl,aX]⟩ ?_ g1
  ·have e:(((dc s {A with fs:=fl++[fr]}).set 4 (al ((60:Nat):Int))).set 3 aC).set 1 (.slice none 0 0)=dc s {A with fp:=none,fc:=0,fs:=[],done:=true,e:=60}:=by simp[dc]
   rw[<-e];exact A4
  ·refine(O1.mono (T:=L++({A with fs:=fl++[fr]}:MA).bl) λx hx _=>List.mem_append.2 (.inl hx)).trans O14 λx hx _=> ?_;simp only[List.mem_singleton]at hx;subst hx;exact List.mem_append.2 (.inr (by simp[MA.bl]))
end
end
section
def GQ(n:Nat)(fo:Nat->Nat)(room:Nat)(G:kO)(N N':ay)(A A':MA):Prop:=
 (A'.done=false/\A'.e=0/\A'.fs≠[]/\jo n fo N' G A'.fs A'.told/\fy n N' A'.fs+1<=fy n N A.fs/\be N'+gK n N' A'.fs<=be N+gK n N A.fs)\/
 (A'.done=true/\A'.e=0/\A'.fs=[]/\kS n fo N' G.op G.a0 G.a1 G.a2 A'.told/\be N'<=be N+gK n N A.fs)\/
 (A'.done=true/\A'.e=60/\A'.fs=[]/\N'=N/\room<=be N/\1<=gK n N A.fs)
def yX{room:Nat}{N N':ay}{l a b r:Nat}(R:jr room N l a b N' r 0):be N'<=be N+1:=by
 rcases R with⟨-,-,-,e⟩|⟨-,_,-,-,-,e⟩|⟨-,-,-,-,e,-⟩|⟨-,-,-,-,q,-,P⟩
 ·rw[e];omega
 ·rw[e];omega
 ·omega
 ·rw[P.cnt];exact Nat.le_refl _
section
variable {h:aH}{s n room:Nat}{fo gg:Nat->Nat}{off:Bool}{N:ay}{A:MA}{fl:List Fk}{fr:Fk}{K:KK}{L:List Nat}{G:kO}
def wx{N':ay}{r:Nat}{fp:az}(ok:dz n N)(E:Ex N N')(R:jo n fo N G (fl++[fr]) A.told)(hr:kS n fo N' fr.op fr.a0 fr.a1 fr.a2 r)(he:A.e=0)(hc:be N'<=be N+sB n N fr):
  GQ n fo room G N N' {A with fs:=fl++[fr]} {A with fp:=fp,fs:=fl,told:=r,done:=fl.isEmpty}:=by
 have R':=R.ext ok E;by_cases hz:fl=[]
 ·subst hz;refine .inr (.inl ⟨rfl,he,rfl,?_,?_⟩)
  ·exact R'.goal hr
  ·show be N'<=be N+gK n N ([]++[fr]);rw[fQ];omega
 ·refine .inl ⟨?_,he,hz,R'.pop hr hz,?_,?_⟩
  ·show fl.isEmpty=false;cases fl with
   |nil=>exact absurd rfl hz
   |cons a l=>rfl
  ·show fy n N' fl+1<=fy n N (fl++[fr]);rw[iI,nX (fo:=fo) E λf hf=>R.frs f (by simp[hf])];have:=wM (n:=n) (N:=N) (f:=fr);omega
  ·show be N'+gK n N' fl<=be N+gK n N (fl++[fr]);rw[fQ,nQ (fo:=fo) E λf hf=>R.frs f (by simp[hf])];omega
def Cj(H:cI h s L (XL n room fo gg N off))(M:cB h s {A with fs:=fl++[fr]})(D: ∀b∈({A with fs:=fl++[fr]}:MA).bl,b∉L)(hl:fl.length<100000)(R:jo n fo N G (fl++[fr]) A.told)(he:A.e=0)(hd:A.done=false)
  (hK: ∀h' L' N' A',A'.m=A.m->cI h' s L' (XL n room fo gg N' off)->cB h' s A'->(∀b∈A'.bl,b∉L')->Ex N N'->GQ n fo room G N N' {A with fs:=fl++[fr]} A'->A'.fs.length<=fl.length+2->aM (L++({A with fs:=fl++[fr]}:MA).bl) h h'->bH L L' h->(∀b∈A'.bl,b∈({A with fs:=fl++[fr]}:MA).bl\/h.size<=b)->K aE h'):
  eV Tryz.prog X (F0 fr.fn fr.b) [] h K:=by
 have ok:=H.ok;dsimp only[XL]at ok;have F:=R.frs fr ak;obtain⟨a0,a1,a2⟩:=F.a;have hlt:=M.lt;have zL:=H.lt;rcases F.fn with e|⟨e|e,lm,-⟩
 ·unfold F0;rw[e];refine bE Hh (Ae H M D hl F.op a0 a1 a2 (λh' fp r OR S' M' ep O=> ?_) λh' l b fp fc el hln hb S' M' g O=> ?_)
  ·have sub: ∀x∈({A with fp:=fp,fs:=fl,told:=r,done:=fl.isEmpty}:MA).bl,x∈({A with fs:=fl++[fr]}:MA).bl:=λx hx=>by
    simp only[MA.bl,List.mem_cons,List.mem_append,List.map_append]at hx ⊢;rw[ep]at hx;rcases hx with h|h|h
    ·exact .inl h
    ·exact .inr (.inl h)
    ·exact .inr (.inr (.inl h))
   exact hK h' L N {A with fp:=fp,fs:=fl,told:=r,done:=fl.isEmpty} rfl S' M' (λx hx=>D x (sub x hx)) (Ex.refl _) (wx ok.1 (Ex.refl _) R OR he ah) (by show fl.length<=_;omega) O (bH.refl _ _) λx hx=> .inl (sub x hx)
  ·have em:jO n N fr=l:=by unfold jO;exact el.symm
   have k0:l<=lvl n N fr.a0:=ah;have k1:l<=lvl n N fr.a1:=ah;have k2:l<=lvl n N fr.a2:=ah;have c0:=iz (side:=false) ok.1 a0 k0 hln;have c1:=iz (side:=false) ok.1 a1 k1 hln;have c2:=iz (side:=false) ok.1 a2 k2 hln;have Fr':ie n fo N {fr with level:=l,fn:=225}:=⟨F.op,F.a,.inr ⟨.inl rfl,em.symm,hln⟩,λe=>by cases e⟩;have Fg:ie n fo N ⟨b,fr.op,0,ch n N l false fr.a0,ch n N l false fr.a1,ch n N l false fr.a2,0,0,180⟩:=⟨F.op,⟨c0.1,c1.1,c2.1⟩,.inl rfl,λe=>by cases e⟩;have R':=R.push (fr':={fr with level:=l,fn:=225}) (g:=⟨b,fr.op,0,ch n N l false fr.a0,ch n N l false fr.a1,ch n N l false fr.a2,0,0,180⟩) ⟨rfl,rfl,rfl,rfl⟩ Fr' Fg ⟨rfl,.inl ⟨rfl,rfl,rfl,rfl⟩⟩ rfl
   have mg:l+1<=jO n N ⟨b,fr.op,0,ch n N l false fr.a0,ch n N l false fr.a1,ch n N l false fr.a2,0,0,180⟩:=by unfold jO;have:=c0.2;have:=c1.2;have:=c2.2;dsimp only;omega
   have sp:=yT (n:=n) (N:=N) (fr:=fr) (fr':={fr with level:=l,fn:=225}) (g:=⟨b,fr.op,0,ch n N l false fr.a0,ch n N l false fr.a1,ch n N l false fr.a2,0,0,180⟩) ah rfl ah e rfl em.symm
   have sub: ∀x∈({A with fp:=fp,fc:=fc,fs:=fl++[{fr with level:=l,fn:=225}]++[⟨b,fr.op,0,ch n N l false fr.a0,ch n N l false fr.a1,ch n N l false fr.a2,0,0,180⟩]}:MA).bl,x∈({A with fs:=fl++[fr]}:MA).bl\/h.size<=x:=λx hx=>by
    simp only[MA.bl,List.mem_cons,List.mem_append,List.map_append,List.map_cons,List.map_nil,List.not_mem_nil,or_false]at hx ⊢;rcases hx with h|h|(h|h)|h
    ·exact .inl (.inl h)
    ·exact(g x h).imp (λh=> .inr (.inl h)) id
    ·exact .inl (.inr (.inr (.inl h)))
    ·exact .inl (.inr (.inr (.inr h)))
    ·exact .inr ah
   refine hK h' L N {A with fp:=fp,fc:=fc,fs:=fl++[{fr with level:=l,fn:=225}]++[⟨b,fr.op,0,ch n N l false fr.a0,ch n N l false fr.a1,ch n N l false fr.a2,0,0,180⟩]} rfl S' M' (λx hx hm=> ?_) (Ex.refl _) (.inl ⟨hd,he,ak,R',?_,?_⟩) ak O (bH.refl _ _) sub
   ·rcases sub x hx with h|h
    ·exact D x h hm
    ·have:=zL x hm;omega
   ·dsimp only;rw[iI,iI,iI];omega
   ·dsimp only;rw[fQ,fQ,fQ];omega
 ·obtain⟨l1,l2,l3,l4⟩:=F.lev (.inl e);unfold F0;rw[e]
  have W:kS n fo N fr.op (ch n N fr.level false fr.a0) (ch n N fr.level false fr.a1) (ch n N fr.level false fr.a2) A.told:=by
   rcases R.top fl fr rfl with h|⟨-,h⟩|⟨h,-⟩
   ·omega
   ·exact h
   ·omega
  refine bE Gh (qW H M D hl a0 a1 a2 λh' b fp fc hb S' M' g O=> ?_);have c0:=iz (side:=true) ok.1 a0 l2 l1;have c1:=iz (side:=true) ok.1 a1 l3 l1;have c2:=iz (side:=true) ok.1 a2 l4 l1;have Fr':ie n fo N {fr with low:=A.told,fn:=273}:=⟨F.op,F.a,.inr ⟨.inr rfl,lm,l1⟩,λ_=>W⟩;have Fg:ie n fo N ⟨b,fr.op,0,ch n N fr.level true fr.a0,ch n N fr.level true fr.a1,ch n N fr.level true fr.a2,0,0,180⟩:=⟨F.op,⟨c0.1,c1.1,c2.1⟩,.inl rfl,λe=>by cases e⟩;have R':=R.push (fr':={fr with low:=A.told,fn:=273}) (g:=⟨b,fr.op,0,ch n N fr.level true fr.a0,ch n N fr.level true fr.a1,ch n N fr.level true fr.a2,0,0,180⟩) ⟨rfl,rfl,rfl,rfl⟩ Fr' Fg ⟨rfl,.inr ⟨rfl,rfl,rfl,rfl⟩⟩ rfl
  have mg:fr.level+1<=jO n N ⟨b,fr.op,0,ch n N fr.level true fr.a0,ch n N fr.level true fr.a1,ch n N fr.level true fr.a2,0,0,180⟩:=by unfold jO;have:=c0.2;have:=c1.2;have:=c2.2;dsimp only;omega
  have sp:=BN (n:=n) (N:=N) (fr:=fr) (fr':={fr with low:=A.told,fn:=273}) (g:=⟨b,fr.op,0,ch n N fr.level true fr.a0,ch n N fr.level true fr.a1,ch n N fr.level true fr.a2,0,0,180⟩) l1 rfl mg e rfl
  have sub: ∀x∈({A with fp:=fp,fc:=fc,fs:=fl++[{fr with low:=A.told,fn:=273}]++[⟨b,fr.op,0,ch n N fr.level true fr.a0,ch n N fr.level true fr.a1,ch n N fr.level true fr.a2,0,0,180⟩]}:MA).bl,x∈({A with fs:=fl++[fr]}:MA).bl\/h.size<=x:=λx hx=>by
   simp only[MA.bl,List.mem_cons,List.mem_append,List.map_append,List.map_cons,List.map_nil,List.not_mem_nil,or_false]at hx ⊢;rcases hx with h|h|(h|h)|h
   ·exact .inl (.inl h)
   ·exact(g x h).imp (λh=> .inr (.inl h)) id
   ·exact .inl (.inr (.inr (.inl h)))
   ·exact .inl (.inr (.inr (.inr h)))
   ·exact .inr ah
  refine hK h' L N {A with fp:=fp,fc:=fc,fs:=fl++[{fr with low:=A.told,fn:=273}]++[⟨b,fr.op,0,ch n N fr.level true fr.a0,ch n N fr.level true fr.a1,ch n N fr.level true fr.a2,0,0,180⟩]} rfl S' M' (λx hx hm=> ?_) (Ex.refl _) (.inl ⟨hd,he,ak,R',?_,?_⟩) ak O (bH.refl _ _) sub
  ·rcases sub x hx with h|h
   ·exact D x h hm
   ·have:=zL x hm;omega
  ·dsimp only;rw[iI,iI,iI];omega
  ·dsimp only;rw[fQ,fQ,fQ];omega
 ·obtain⟨l1,l2,l3,l4⟩:=F.lev (.inr e);unfold F0;rw[e]
  have W:kS n fo N fr.op (ch n N fr.level true fr.a0) (ch n N fr.level true fr.a1) (ch n N fr.level true fr.a2) A.told:=by
   rcases R.top fl fr rfl with h|⟨h,-⟩|⟨-,h⟩
   ·omega
   ·omega
   ·exact h
  have V:=F.low e;have c0:=iz (side:=false) ok.1 a0 l2 l1;have c1:=iz (side:=false) ok.1 a1 l3 l1;have c2:=iz (side:=false) ok.1 a2 l4 l1;have d0:=iz (side:=true) ok.1 a0 l2 l1;have d1:=iz (side:=true) ok.1 a1 l3 l1;have d2:=iz (side:=true) ok.1 a2 l4 l1;have llo:fr.level<lvl n N fr.low:=V.lv (fr.level+1) c0.2 c1.2 c2.2;have ltd:fr.level<lvl n N A.told:=W.lv (fr.level+1) d0.2 d1.2 d2.2;have f1:sB n N fr=1:=(vg e).2;refine bE Hn (sa H M D hl F.op a0 a1 a2 l1 V.is W.is llo ltd (λN' r E Rk ok'=> ?_) (λh' L' N' fp r Rk OR S' M' ep O g=> ?_) λh' L' hf S' M' O g=> ?_)
  ·obtain⟨m1,m2,m3,m4⟩:=lF (f:=fo) ok.1 ok' V.is W.is llo Rk;refine⟨m2,λk' k1 k2 k3=> ?_,λx=> ?_⟩
   ·rw[m1.lvl a0]at k1;rw[m1.lvl a1]at k2;rw[m1.lvl a2]at k3
    have:k'<=fr.level:=by rw[lm];unfold jO;have:=lvl_le ok.1 a0;omega
    omega
   ·rw[m4 x,m1.sm ok.1 a0,m1.sm ok.1 a1,m1.sm ok.1 a2,yr ok.1 a0 l1,yr (a:=fr.a1) ok.1 a1 l1,yr (a:=fr.a2) ok.1 a2 l1,V.sm,W.sm];split<;>rfl
  ·have E:Ex N N':=by
    have ok':=S'.ok.1;dsimp only[XL]at ok';exact(lF (f:=fo) ok.1 ok' V.is W.is llo Rk).1
   have sub: ∀x∈({A with fp:=fp,fs:=fl,told:=r,done:=fl.isEmpty}:MA).bl,x∈({A with fs:=fl++[fr]}:MA).bl:=λx hx=>by
    simp only[MA.bl,List.mem_cons,List.mem_append,List.map_append]at hx ⊢;rw[ep]at hx;rcases hx with h|h|h
    ·exact .inl h
    ·exact .inr (.inl h)
    ·exact .inr (.inr (.inl h))
   refine hK h' L' N' {A with fp:=fp,fs:=fl,told:=r,done:=fl.isEmpty} rfl S' M' (λx hx hm=> ?_) E (wx ok.1 E R OR he (by rw[f1];exact yX Rk)) (by show fl.length<=_;omega) O g λx hx=> .inl (sub x hx);rcases g x hm with h|h
   ·exact D x (sub x hx) h
   ·have:=hlt x (sub x hx);omega
  ·have sub: ∀x∈({A with fp:=none,fc:=0,fs:=[],done:=true,e:=60}:MA).bl,x∈({A with fs:=fl++[fr]}:MA).bl:=λx hx=>by
    simp only[MA.bl,aX,List.map_nil,List.append_nil,List.mem_singleton]at hx;simp[MA.bl,hx]
   refine hK h' L' N {A with fp:=none,fc:=0,fs:=[],done:=true,e:=60} rfl S' M' (λx hx hm=> ?_) (Ex.refl _) (.inr (.inr ⟨rfl,rfl,rfl,rfl,hf,?_⟩)) (by show 0<=_;omega) O g λx hx=> .inl (sub x hx)
   ·rcases g x hm with h|h
    ·exact D x (sub x hx) h
    ·have:=hlt x (sub x hx);omega
   ·show 1<=gK n N (fl++[fr]);rw[fQ];omega
end
end
section
def vH(n:Nat)(fo:Nat->Nat)(N:ay)(G:kO)(A:MA):Prop:=
 (A.done=false/\A.e=0/\A.fs≠[]/\jo n fo N G A.fs A.told)\/(A.done=true/\A.e=0/\A.fs=[]/\kS n fo N G.op G.a0 G.a1 G.a2 A.told)\/(A.done=true/\A.e=60/\A.fs=[])
def kq{n:Nat}{N:ay}: ∀fs:List Fk,fs.length<=fy n N fs
 | []=>by simp[fy]
 |f::fs=>by have ih:=kq (n:=n) (N:=N) fs;have:=wM (n:=n) (N:=N) (f:=f);simp only[fy,List.map_cons,List.sum_cons,List.length_cons]at ih ⊢;omega
section
variable {h:aH}{s n room:Nat}{fo gg:Nat->Nat}{off:Bool}{N:ay}{A:MA}{K:KK}{L:List Nat}{G:kO}
def vH.run(M:vH n fo N G A)(h:A.done=false):A.e=0/\A.fs≠[]/\jo n fo N G A.fs A.told:=by
 rcases M with⟨-,h1⟩|⟨h1,-⟩|⟨h1,-⟩
 ·exact h1
 ·rw[h1]at h;cases h
 ·rw[h1]at h;cases h
def xw{B0 B1 B2:List Nat}{z0 z1:Nat}(a: ∀b∈B1,b∈B0\/z0<=b)(b: ∀b∈B2,b∈B1\/z1<=b)(hz:z0<=z1): ∀x∈B2,x∈B0\/z0<=x:=λx hx=>by
 rcases b x hx with h|h
 ·exact a x h
 ·exact .inr ah
def Co(H:cI h s L (XL n room fo gg N off))(M:cB h s A)(D: ∀b∈A.bl,b∉L)(hm:fy n N A.fs<=90000)(R:vH n fo N G A)(hd:A.done=false)
  (hK: ∀h' L' N' A',A'.m=A.m->cI h' s L' (XL n room fo gg N' off)->cB h' s A'->(∀b∈A'.bl,b∉L')->Ex N N'->vH n fo N' G A'->fy n N' A'.fs+1<=fy n N A.fs->be N'+gK n N' A'.fs<=be N+gK n N A.fs->(A'.e=60->room+1<=be N+gK n N A.fs)->
   aM (L++A.bl) h h'->bH L L' h->(∀b∈A'.bl,b∈A.bl\/h.size<=b)->K (aD A'.done) h'):
  Cl 114 [bh A.m] h K:=by
 refine F114.spec _ h K ?_;simp only[aL,Nat.zero_add];refine aR (dV M.own).1 (lD H (aI rfl ?_));unfold F114.wk2
 have main: ∀(d:Nat) (h1:aH) (L1:List Nat) (N1:ay) (A1:MA),fy n N1 A1.fs<=d->A1.m=A.m->cI h1 s L1 (XL n room fo gg N1 off)->cB h1 s A1->(∀b∈A1.bl,b∉L1)->Ex N N1->vH n fo N1 G A1->
   (fy n N1 A1.fs+1<=fy n N A.fs\/(fy n N1 A1.fs<=fy n N A.fs/\be N1=be N/\A1.done=false))->be N1+gK n N1 A1.fs<=be N+gK n N A.fs->(A1.e=60->room+1<=be N+gK n N A.fs)->
   aM (L++A.bl) h h1->bH L L1 h->(∀b∈A1.bl,b∈A.bl\/h.size<=b)->F114.wL2 (d+1) (aw A.m) (be N:Int) h1 K:=by
  intro d
  induction d with
  |zero=>
   intro h1 L1 N1 A1 hd1 em S1 M1 D1 E1 R1 P1 C1 F1 O1 g1 s1;have hz:A1.fs=[]:=List.eq_nil_of_length_eq_zero (by have:=kq (n:=n) (N:=N1) A1.fs;omega)
   have hdn:A1.done=true:=by
    rcases R1 with⟨-,-,h,-⟩|⟨h,-⟩|⟨h,-⟩
    ·exact absurd hz h
    ·exact h
    ·exact h
   have rm:=dV M1.own;rw[em]at rm;rw[F114.sL2];simp only[aL,Nat.zero_add];refine aY rm.2.2.2.1 ?_;rw[hdn,Bool.not_true,aJ];unfold F114.wk4;simp only[aL,Nat.zero_add];refine aY rm.2.2.2.1 (hK h1 L1 N1 A1 em S1 M1 D1 E1 R1 ?_ C1 F1 O1 g1 s1);rcases P1 with h|⟨-,-,h⟩
   ·exact h
   ·rw[hdn]at h;cases h
  |succ d ih=>
   intro h1 L1 N1 A1 hd1 em S1 M1 D1 E1 R1 P1 C1 F1 O1 g1 s1;have rm:=dV M1.own;rw[em]at rm;rw[F114.sL2];simp only[aL,Nat.zero_add];refine aY rm.2.2.2.1 (aT (λhn=> ?_) λhn=> ?_)
   ·have hn:A1.done=false:=by simpa using hn
    refine aR rm.1 (lD S1 (aI rfl ?_));dsimp only[XL];rw[fj];refine aT (λe=> ?_) λe=> ?_
    ·have e:=of_decide_eq_true e;obtain⟨he,hne,RR⟩:=R1.run hn;obtain⟨fl,fr,hfs⟩: ∃fl fr,A1.fs=fl++[fr]:=⟨A1.fs.dropLast,A1.fs.getLast hne,(List.dropLast_concat_getLast hne).symm⟩;have eA:A1={A1 with fs:=fl++[fr]}:=by rw[<-hfs]
     have hlen:A1.fs.length=fl.length+1:=by rw[hfs];simp
     have hml:A1.fs.length<=fy n N1 A1.fs:=kq _;have hmb:fy n N1 A1.fs<=fy n N A.fs:=ah;rw[hlen]at rm;refine bo rm.2.1 (bo rm.2.1 ?_);have W:nq h1 0 A1.fp A1.fs.length A1.fc (A1.fs.map λf=>bh f.b):=M1.win;obtain⟨ad,ep,rr⟩:=W.rd (j:=fl.length) (by simp;omega);have e1:ax (((fl.length+1:Nat):Int)-1)=(fl.length:Int):=by rw[wrap_i64 ah ah];omega
     rw[ep,aU,e1];refine⟨ah,ah,?_⟩;rw[Int.toNat_natCast,Nat.mul_one,rr];refine aR (n:=some (aw fr.b)) (by rw[hfs];simp[bh]) ?_;rw[aU];simp only[aL,Nat.zero_add];have F1':At h1 fr.b (iY A1.m fr):=M1.frm fr (by rw[hfs];simp);rw[(bW F1').2.2.2.2.2.2.2,eS];rw[hfs]at RR;rw[eA]at M1 D1;refine Cj S1 M1 D1 ah RR he hn λh2 L2 N2 A2 em2 S2 M2 D2 E2 R2 hl2 O2 g2 s2=>⟨rfl,?_⟩;rw[<-eA]at O2 s2 R2
     have hO:aM (L++A.bl) h h2:=O1.trans O2 λb hb hlt=>by
      rcases List.mem_append.1 hb with h|h
      ·rcases g1 b h with h|h
       ·exact List.mem_append.2 (.inl h)
       ·omega
      ·rcases s1 b h with h|h
       ·exact List.mem_append.2 (.inr h)
       ·omega
     have key:vH n fo N2 G A2/\fy n N2 A2.fs+1<=fy n N1 A1.fs/\be N2+gK n N2 A2.fs<=be N1+gK n N1 A1.fs/\(A2.e=60->room+1<=be N1+gK n N1 A1.fs):=by
      rcases R2 with⟨q1,q2,q3,q4,q5,q6⟩|⟨q1,q2,q3,q4,q5⟩|⟨q1,q2,q3,q4,q5,q6⟩
      ·exact⟨.inl ⟨q1,q2,q3,q4⟩,q5,q6,λh=>ah⟩
      ·refine⟨.inr (.inl ⟨q1,q2,q3,q4⟩),?_,?_,λh=>ah⟩
       ·rw[q3];simp[fy];simp[fy]at hml;omega
       ·rw[q3];simpa[gK]using q5
      ·refine⟨.inr (.inr ⟨q1,q2,q3⟩),?_,?_,λ_=>ah⟩
       ·rw[q3];simp[fy];simp[fy]at hml;omega
       ·rw[q3,q4];simp[gK]
     obtain⟨k1,k2,k3,k4⟩:=key;have hz1:=O1.size;refine ih h2 L2 N2 A2 ah (em2.trans em) S2 M2 D2 (E1.trans E2) k1 (.inl ah) ah (λh=>by have:=k4 h;omega) hO (g1.trans g2 hz1) (xw s1 s2 hz1)
    ·have e:=of_decide_eq_false e;unfold F114.wk4;simp only[aL,Nat.zero_add];refine aY rm.2.2.2.1 (hK h1 L1 N1 A1 em S1 M1 D1 E1 R1 ?_ C1 F1 O1 g1 s1);rcases P1 with h|⟨-,h,-⟩
     ·exact h
     ·exact absurd h e
   ·have hn:A1.done=true:=by simpa using hn
    unfold F114.wk4;simp only[aL,Nat.zero_add];refine aY rm.2.2.2.1 (hK h1 L1 N1 A1 em S1 M1 D1 E1 R1 ?_ C1 F1 O1 g1 s1);rcases P1 with h|⟨-,-,h⟩
    ·exact h
    ·rw[hn]at h;cases h
 refine⟨_,main (fy n N A.fs) h L N A (Nat.le_refl _) rfl H M D (Ex.refl _) R (.inr ⟨Nat.le_refl _,rfl,hd⟩) (Nat.le_refl _) (λh=> ?_) (aM.refl _ _) (bH.refl _ _) λb hb=> .inl hb⟩;have:=(R.run hd).1;omega
def ED(M:cB h s A)(hK:K (aD A.done) h):Cl 95 [bh A.m] h K:=by refine F95.spec ?_;simp only[aL,Nat.zero_add];exact aY (dV M.own).2.2.2.1 hK
def Bd(M:cB h s A)(hK:K (.tuple #[ap (if A.done=true/\A.e=0 then(A.told:Int)else 0),al (if A.done=true then(A.e:Int)else 61)]) h):Cl 94 [bh A.m] h K:=by
 refine F94.spec ?_;simp only[aL,Nat.zero_add];have rm:=dV M.own;refine aY rm.2.2.2.1 (aT (λe=> ?_) λe=>aI rm.2.2.2.2 ?_)
 ·have e:A.done=false:=by simpa using e
  rw[if_neg (by rw[e];simp),if_neg (by rw[e];simp)]at hK;exact hK
 ·have e:A.done=true:=by simpa using e
  rw[show((A.e:Int) !=(0:Int))= !decide (A.e=0) by rw[show(0:Int)=((0:Nat):Int)from rfl,<-fj];rfl];by_cases h0:A.e=0
  ·rw[decide_eq_true h0,Bool.not_true,aJ];rw[if_pos ⟨e,h0⟩,if_pos e,h0]at hK;exact aI rm.2.2.1 hK
  ·rw[decide_eq_false h0,Bool.not_false,aO];rw[if_neg (λh=>h0 h.2),if_pos e]at hK;exact aI rm.2.2.2.2 hK
end
end
section
def cL(x:Int):Int:=if x=1\/x=6\/x=7 then 1 else if x=2\/x=3\/x=4\/x=8\/x=9\/x=10 then 2 else if x=5 then 3 else 0
def kD{x y:Int}(h:x≠y):(x==y)=false:=by simp[h]
def tE{h:aH}{x:Int}{K:KK}(hK:K (al (cL x)) h):Cl 134 [al x] h K:=by
 refine F134.spec ?_;unfold cL at hK;by_cases h1:x=1
 ·subst h1;exact hK
 by_cases h2:x=2
 ·subst h2;exact hK
 by_cases h3:x=3
 ·subst h3;exact hK
 by_cases h4:x=4
 ·subst h4;exact hK
 by_cases h5:x=5
 ·subst h5;exact hK
 by_cases h6:x=6
 ·subst h6;exact hK
 by_cases h7:x=7
 ·subst h7;exact hK
 by_cases h8:x=8
 ·subst h8;exact hK
 by_cases h9:x=9
 ·subst h9;exact hK
 by_cases h10:x=10
 ·subst h10;exact hK
 rw[if_neg ah,if_neg ah,if_neg h5]at hK;simp only[kD h1,kD h2,kD h3,kD h4,kD h5,kD h6,kD h7,kD h8,kD h9,kD h10,aJ];exact hK
def FL(op:Int)(a b c:Nat)(mask:Int):Value:= .agg #[al op,ap (a:Int),ap (b:Int),ap (c:Int),.int .u8 mask]
section
variable {h:aH}{s n room a b c op:Nat}{mask:Int}{fo gg:Nat->Nat}{off:Bool}{N:ay}{K:KK}{L:List Nat}{X:SX}
def rn(H:cI h s L X)(hop:op=1\/op=2\/op=3\/op=4\/op=5)(ha:isN X.N a)(hb:op≠1->isN X.N b)(hc:op=5->isN X.N c)(hK: ∀h',aM [] h h'->K (al 0) h'):
  Cl 133 [bh s,FL (op:Int) a b c mask] h K:=by
 refine F133.spec _ _ _ _ _ _ h K ?_;refine aV λh1 A1 O1 z1=> ?_;simp only[aL,Nat.zero_add];have r: ∀k,rd h1 ⟨h.size,k,none⟩=([al (op:Int),ap (a:Int),ap (b:Int),ap (c:Int),.int .u8 mask]:List Value)[k]? :=λk=>At.rd A1 k;refine aI (by rw[r];rfl) (tE (aI rfl ?_))
 obtain⟨t,ht,ht1,ht3,htb,htc⟩: ∃t:Nat,cL (op:Int)=(t:Int)/\1<=t/\t<=3/\(2<=t->op≠1)/\(3<=t->op=5):=by
  rcases hop with e|e|e|e|e<;>subst e
  ·exact⟨1,rfl,ah⟩
  ·exact⟨2,rfl,ah⟩
  ·exact⟨2,rfl,ah⟩
  ·exact⟨2,rfl,ah⟩
  ·exact⟨3,rfl,ah⟩
 rw[ht,show((t:Int)==(0:Int))=false by simp;omega,aJ];refine aI (by rw[r];rfl) (aI (by rw[r];rfl) (aI (by rw[r];rfl) ?_));refine aV λh2 A2 O2 z2=>⟨ah,ah,?_⟩;have H2:=(H.only0 O1).only0 O2;have A12:=A1.only O2 ak;have r2: ∀k,rd h2 ⟨h.size,k,none⟩=([al (op:Int),ap (a:Int),ap (b:Int),ap (c:Int),.int .u8 mask]:List Value)[k]? :=λk=>At.rd A12 k;have l2: ∀k,rd h2 ⟨h1.size,k,none⟩=([ap (a:Int),ap (b:Int),ap (c:Int)]:List Value)[k]? :=λk=>At.rd A2 k;have ep:(if 3=0 then(some (aw h1.size))else Option.map (λa=>Addr.add a (0*1)) (some (aw h1.size)))=some (aw h1.size):=by simp[Addr.add]
 rw[ep,show Int.toNat (t:Int)-0=t by omega];unfold F133.wk5
 have main: ∀(d i:Nat),i+d=t->F133.wL5 (d+1) (aw s) (aw h.size) (some (aw h1.size)) t (3-0) (t:Int) (i:Int) h2 K:=by
  intro d
  induction d with
  |zero=>
   intro i hi;rw[F133.sL5];rw[decide_eq_false ah,aJ];unfold F133.wk10;simp only[aL,Nat.zero_add];refine aI (n:=(op:Int)) (by rw[r2];rfl) ?_;have:=hK h2 (O1.trans O2 ak);rcases hop with e|e|e|e|e<;>subst e<;>exact this
  |succ d ih=>
   intro i hi;rw[F133.sL5];rw[decide_eq_true ah,aO,aU];refine⟨ah,ah,?_⟩;have ew:ax ((i:Int)+1)=((i+1:Nat):Int):=by rw[wrap_i64 ah ah];omega
   rw[ew,aL,Nat.zero_add,Int.toNat_natCast,Nat.mul_one,l2]
   have go: ∀y,isN X.N y->([ap (a:Int),ap (b:Int),ap (c:Int)]:List Value)[i]? =some (ap (y:Int))->aQ .u32 (([ap (a:Int),ap (b:Int),ap (c:Int)]:List Value)[i]?) λn2=>Cl 74 [au (aw s),ap n2] h2 λv3 h4=>bI (some v3) λb5=>aK (!b5) (K (al 101) h4) (F133.wL5 (d+1) (aw s) (aw h.size) (some (aw h1.size)) t (3-0) (t:Int) ((i+1:Nat):Int) h4 K):=λy hy e=>by refine aI e (fk H2 hy (aY rfl ?_));rw[Bool.not_true,aJ];exact ih (i+1) ah
   have:i=0\/i=1\/i=2:=ah;rcases this with e|e|e
   ·subst e;exact go a ha rfl
   ·subst e;exact go b (hb (htb ah)) rfl
   ·subst e;exact go c (hc (htc ah)) rfl
 exact⟨_,main t 0 ah⟩
def du(op a b c:Nat):kO:=if op=1 then⟨4,1,a,0⟩else if op=5 then⟨5,a,b,c⟩else⟨op,a,b,0⟩
set_option maxRecDepth 100000 in
def Ht{mask:Nat}(hmask:mask<256)(H:cI h s L (XL n room fo gg N off))(hop:op=1\/op=2\/op=3\/op=4\/op=5)(ha:isN N a)(hb:op≠1->isN N b)(hc:op=5->isN N c)
  (hK: ∀h' A f,cB h' s A->(∀x∈A.bl,h.size<=x)->A.fs=[f]->f.fn=180->f.op=(du op a b c).op->f.a0=(du op a b c).a0->f.a1=(du op a b c).a1->f.a2=(du op a b c).a2->A.told=0->A.done=false->A.e=0->aM [] h h'->K (.tuple #[bh A.m,al 0]) h'):
  Cl 91 [bh s,FL (op:Int) a b c (mask:Int)] h K:=by
 refine F91.spec _ _ _ _ _ _ h K ?_;refine aV λh1 A1 O1 z1=> ?_;simp only[aL,Nat.zero_add];have r: ∀k,rd h1 ⟨h.size,k,none⟩=([al (op:Int),ap (a:Int),ap (b:Int),ap (c:Int),.int .u8 (mask:Int)]:List Value)[k]? :=λk=>At.rd A1 k;refine aI (by rw[r];rfl) (aI (by rw[r];rfl) (aI (by rw[r];rfl) (aI (by rw[r];rfl) (aI (by rw[r];rfl) ?_))));refine rn (H.only0 O1) hop ha hb hc λh2 O2=>aI rfl ?_;rw[show((0:Int) !=(0:Int))=false from rfl,aJ];refine aV λh3 A3 O3 z3=> ?_;have B3:=(A1.only O2 ak).only O3 ak;have r3: ∀k,rd h3 ⟨h.size,k,none⟩=([al (op:Int),ap (a:Int),ap (b:Int),ap (c:Int),.int .u8 (mask:Int)]:List Value)[k]? :=λk=>At.rd B3 k;refine aI (by rw[r3];rfl) (aI (by rw[r3];rfl) (aI (by rw[r3];rfl) ?_));refine aV λh4 A4 O4 z4=>aS A4 ak rfl λh5 A5 O5 z5=>aS A5 ak rfl λh6 A6 O6 z6=>aS A6 ak rfl λh7 A7 O7 z7=> ?_;have A7:At h7 h3.size [ap (a:Int),ap (b:Int),ap (c:Int)]:=A7;have z12:=O2.size;have O37:aM [h3.size] h3 h7:=((O4.mono (T:=[h3.size]) ak).trans O5 λb hb _=>hb).trans O6 (λb hb _=>hb)|>.trans O7 λb hb _=>hb;have B7:=B3.only O37 (by simp;omega);have M7:At h7 h2.size (dc s ⟨h2.size,none,0,[],0,false,0⟩):=At.only (show At h3 h2.size (dc s ⟨h2.size,none,0,[],0,false,0⟩)from A3) O37 (by simp;omega);refine aI (n:=(op:Int)) (by rw[At.rd B7];rfl) (tE (aI rfl ?_));unfold F91.wk7
 have rest: ∀(h8:aH) (a' b' c':Nat),At h8 h.size [al (op:Int),ap (a:Int),ap (b:Int),ap (c:Int),.int .u8 (mask:Int)]->At h8 h3.size [ap (a':Int),ap (b':Int),ap (c':Int)]->At h8 h2.size (dc s ⟨h2.size,none,0,[],0,false,0⟩)->aM [] h h8->
   (if op=1 then(⟨4,1,a,0⟩:kO)else⟨op,a',b',c'⟩)=du op a b c->F91.wk10 (aw h.size) (aw h2.size) (aw h3.size) h8 K:=by
  intro h8 a' b' c' B8 A8 M8 O8 hG;unfold F91.wk10;simp only[aL,Nat.zero_add];have r8: ∀k,rd h8 ⟨h.size,k,none⟩=([al (op:Int),ap (a:Int),ap (b:Int),ap (c:Int),.int .u8 (mask:Int)]:List Value)[k]? :=λk=>At.rd B8 k;have q8: ∀k,rd h8 ⟨h3.size,k,none⟩=([ap (a':Int),ap (b':Int),ap (c':Int)]:List Value)[k]? :=λk=>At.rd A8 k;refine aI (by rw[r8];rfl) (aI (by rw[r8];rfl) (aI (by rw[q8];rfl) (aI (by rw[q8];rfl) (aI (by rw[q8];rfl) ?_))));have op8:IntKind.wrap .u8 (op:Int)=(op:Int):=tV ah;rw[op8];have MI:cB h8 s ⟨h2.size,none,0,[],0,false,0⟩:=⟨M8,nq.nil _ _,(λf hf=>by cases hf),by simp[MA.bl,aX]⟩;refine oI (A:=⟨h2.size,none,0,[],0,false,0⟩) MI ak λh9 f fp fc hf M9 O9 g9=>aR rfl ?_;obtain⟨bb,rfl,hb9⟩:=hf;have z08:=O8.size;have lB:=B8.lt;have lM:=M8.lt;have O9':aM [h2.size] h8 h9:=O9;have B9:=B8.only O9' (by simp;omega);have O09:aM [] h h9:=O8.trans O9' (by intro x hx hl;simp at hx;omega);have r9: ∀k,rd h9 ⟨h.size,k,none⟩=([al (op:Int),ap (a:Int),ap (b:Int),ap (c:Int),.int .u8 (mask:Int)]:List Value)[k]? :=λk=>At.rd B9 k;refine aI (by rw[r9];rfl) ?_
  have blk: ∀(f:Fk),f.b=bb-> ∀x∈({m:=h2.size,fp:=fp,fc:=fc,fs:=[]++[f],told:=0,done:=false,e:=0}:MA).bl,h.size<=x:=λf hf x hx=>by
   simp only[MA.bl,List.mem_cons,List.mem_append,List.map_append,List.map_cons,List.map_nil,List.not_mem_nil,or_false,false_or,List.nil_append]at hx;rcases hx with h|h|h
   ·omega
   ·rcases g9 x h with h|h
    ·simp[aX]at h
    ·omega
   ·omega
  by_cases h1:op=1
  ·subst h1;rw[show((((1:Nat):Int))==(1:Int))=true from rfl,aO];refine aI (by rw[r9];rfl) ?_;rw[aU];simp only[aL,Nat.zero_add];refine cB.top (A:=⟨h2.size,fp,fc,[],0,false,0⟩) (fl:=[]) (f':=⟨bb,4,mask,a',b',c',0,0,180⟩) M9 (by decide) rfl rfl rfl λh10 M10 O10=> ?_;have nb:h.size≠bb:=ah;have B10:=B9.only O10 (by simp;omega);refine⟨by trivial,by trivial,aI (n:=(a:Int)) (by rw[At.rd B10];rfl) ⟨by trivial,by trivial,?_⟩⟩;rw[aU];simp only[aL,Nat.zero_add];refine cB.top (A:=⟨h2.size,fp,fc,[],0,false,0⟩) (fl:=[]) (f':=⟨bb,4,mask,1,b',c',0,0,180⟩) M10 (by decide) rfl rfl rfl λh11 M11 O11=> ?_;refine cB.top (A:=⟨h2.size,fp,fc,[],0,false,0⟩) (fl:=[]) (f':=⟨bb,4,mask,1,a,c',0,0,180⟩) M11 (by decide) rfl rfl rfl λh12 M12 O12=> ?_;refine cB.top (A:=⟨h2.size,fp,fc,[],0,false,0⟩) (fl:=[]) (f':=⟨bb,4,mask,1,a,0,0,0,180⟩) M12 (by decide) rfl rfl rfl λh13 M13 O13=> ?_;have OO:aM [bb] h9 h13:=((O10.trans O11 λb hb _=>hb).trans O12 λb hb _=>hb).trans O13 λb hb _=>hb;exact hK h13 _ ⟨bb,4,mask,1,a,0,0,0,180⟩ M13 (blk _ rfl) rfl rfl rfl rfl rfl rfl rfl rfl rfl (O09.trans OO (by intro x hx hl;simp at hx;omega))
  ·have hG':(⟨op,a',b',c'⟩:kO)=du op a b c:=by rw[if_neg h1]at hG;exact hG
   have fin:=hK h9 _ ⟨bb,op,mask,a',b',c',0,0,180⟩ M9 (blk _ rfl) rfl rfl (by rw[<-hG']) (by rw[<-hG']) (by rw[<-hG']) (by rw[<-hG']) rfl rfl rfl O09;rcases hop with e|e|e|e|e
   ·exact absurd e h1
   ·subst e;exact fin
   ·subst e;exact fin
   ·subst e;exact fin
   ·subst e;exact fin
 have zstep: ∀(bk:Addr->Addr->Addr->Int->aH->Prop) (k10:Addr->Addr->Addr->aH->Prop) (h8:aH) (i:Nat) (l:List Value),i<3->l.length=3->At h8 h3.size l->At h8 h.size [al (op:Int),ap (a:Int),ap (b:Int),ap (c:Int),.int .u8 (mask:Int)]->At h8 h2.size (dc s ⟨h2.size,none,0,[],0,false,0⟩)->aM [] h h8->
   (∀h9,At h9 h3.size (l.set i (ap 0))->At h9 h.size [al (op:Int),ap (a:Int),ap (b:Int),ap (c:Int),.int .u8 (mask:Int)]->At h9 h2.size (dc s ⟨h2.size,none,0,[],0,false,0⟩)->aM [] h h9->bk (aw h.size) (aw h2.size) (aw h3.size) ((i+1:Nat):Int) h9)->
   F91.JL7 bk k10 (aw h.size) (aw h2.size) (aw h3.size) (i:Int) h8 K:=by
  intro bk k10 h8 i l hi hl A B M O hB;unfold F91.JL7;have ew:ax ((i:Int)+1)=((i+1:Nat):Int):=by rw[wrap_i64 ah ah];omega
  rw[decide_eq_true ah,aO,ew];simp only[aL,Nat.zero_add,Nat.add_zero,Int.toNat_natCast,Nat.mul_one];exact⟨ah,ah,aS A ah rfl λh9 A9 O9 z9=>hB h9 A9 (B.only O9 (by simp;omega)) (M.only O9 (by simp;omega)) (O.trans O9 (by intro x hx hl;simp at hx;omega))⟩
 have O07:aM [] h h7:=(((O1.trans O2 ak).trans O3 ak).trans O37 (by intro x hx hl;simp at hx;omega));rcases hop with e|e|e|e|e
 ·subst e;refine⟨3,?_⟩;rw[F91.sL7];refine zstep _ _ h7 1 _ ah rfl A7 B7 M7 O07 λh8 A8 B8 M8 O8=> ?_;rw[F91.sL7];refine zstep _ _ h8 2 _ ah rfl A8 B8 M8 O8 λh9 A9 B9 M9 O9=> ?_;rw[F91.sL7];unfold F91.JL7;rw[decide_eq_false ah,aJ];exact rest h9 a 0 0 B9 A9 M9 O9 rfl
 ·subst e;refine⟨2,?_⟩;rw[F91.sL7];refine zstep _ _ h7 2 _ ah rfl A7 B7 M7 O07 λh8 A8 B8 M8 O8=> ?_;rw[F91.sL7];unfold F91.JL7;rw[decide_eq_false ah,aJ];exact rest h8 a b 0 B8 A8 M8 O8 rfl
 ·subst e;refine⟨2,?_⟩;rw[F91.sL7];refine zstep _ _ h7 2 _ ah rfl A7 B7 M7 O07 λh8 A8 B8 M8 O8=> ?_;rw[F91.sL7];unfold F91.JL7;rw[decide_eq_false ah,aJ];exact rest h8 a b 0 B8 A8 M8 O8 rfl
 ·subst e;refine⟨2,?_⟩;rw[F91.sL7];refine zstep _ _ h7 2 _ ah rfl A7 B7 M7 O07 λh8 A8 B8 M8 O8=> ?_;rw[F91.sL7];unfold F91.JL7;rw[decide_eq_false ah,aJ];exact rest h8 a b 0 B8 A8 M8 O8 rfl
 ·subst e;refine⟨1,?_⟩;rw[F91.sL7];unfold F91.JL7;rw[show decide (cL ((5:Nat):Int)<(3:Int))=false from rfl,aJ];exact rest h7 a b c B7 A7 M7 O07 rfl
end
end
section
variable {i j k l m n o p q r s t:Int}{a b c d:Addr}{u v:Nat}{x y:az}{h:aH}{K:KK}
def F88.spec(H:aK (i<0) (K (.tuple #[aA none,al 61]) h) (aK (j<1) (K (.tuple #[aA none,al 61]) h) (aK (j>256) (K (.tuple #[aA none,al 61]) h) (Cl 132 [au a] h λb c=>aQ .i64 (some b) λb=>aK (i>b) (K (.tuple #[aA none,al 61]) c) (Cl 90 [al j] c λb c=>aQ .i64 (some b) λb=>Cl 132 [au a] c λc d=>aQ .i64 (some c) λc=>aK (b>(ax (c-i))) (K (.tuple #[aA none,al 61]) d) (a9 d (.cells #[au a,al i,al j] 216) λa b=>K (.tuple #[au (aw a),al 0]) b)))))):Cl 88 [au a,al i,al j] h K:=cN Tryz.func88 H
def F90.spec(H:aK (i<1) (K (al 0) h) (K (al (ax (i+2))) h)):Cl 90 [al i] h K:=cN Tryz.func90 H
def F193.spec(H:lI (rd h a) λa=>ba (rd h b) λb=>eV Tryz.prog X a [aA b] h λa b=>a=aE/\K aE b):Cl 193 [au a,au b] h K:=cN Tryz.func193 H
def F194.T:bj:=⟨[],[(1,[[(0,[]),(1,[]),(2,[]),(3,[]),(4,[]),(5,[]),(6,[]),(7,[]),(8,[]),(9,[]),(10,[]),(11,[]),(12,[])]])]⟩
def F194.spec(H:ba (rd h (a.add 0)) λb=>aQ .i64 (rd h (a.add 1)) λa=>Cl 162 [aA b,al (ax (a+i))] h λa b=>aQ .u64 (some a) λa=>K (al (ax a)) b):Cl 194 [au a,al i] h K:=cT F194.T Tryz.func194 H
def F143.spec(H:ba (rd h (a.add 0)) λb=>Cl 194 [aA b,al 1] h λb c=>aQ .i64 (some b) λb=>aW c ((a.add 3).add 0) (al b) λb=>aW b ((a.add 4).add 0) (.func (.func 195) #[au a] #[]) λa=>K aE a):Cl 143 [au a] h K:=cN Tryz.func143 H
def F195.T:bj:=⟨[],[(2,[[(0,[]),(1,[]),(2,[]),(3,[]),(4,[]),(5,[]),(6,[]),(7,[]),(8,[]),(9,[]),(10,[]),(11,[]),(12,[]),(13,[]),(14,[]),(15,[]),(16,[])]])]⟩
def F195.spec(H:ba (rd h (a.add 0)) λb=>Cl 194 [aA b,al 0] h λb c=>aQ .i64 (some b) λb=>aW c ((a.add 2).add 0) (al b) λb=>aW b ((a.add 4).add 0) (.func (.func 239) #[au a] #[]) λb=>aQ .i64 (rd b (a.add 3)) λc=>aQ .i64 (rd b (a.add 2)) λd=>ba (rd b (a.add 0)) λe=>bf e λe=>aQ .i64 (rd b (e.add 2)) λe=>aK ((ax (c-d))>=e) (Cl 240 [au a,aB] b λa b=>a=aE/\K aE b) (K aE b)):Cl 195 [au a] h K:=cT F195.T Tryz.func195 H
def F239.T:bj:=⟨[],[(0,[[(0,[]),(1,[]),(2,[]),(3,[]),(4,[]),(5,[]),(6,[]),(7,[]),(8,[]),(9,[]),(10,[]),(11,[]),(12,[]),(13,[]),(14,[]),(16,[]),(17,[]),(18,[]),(19,[]),(15,[0,1,2,3,4,5,6,16,17,18,19]),(20,[])]])]⟩
def F239.spec(H:ba (rd h (a.add 0)) λb=>bf b λc=>ba (rd h (c.add 0)) λd=>ba (rd h (a.add 0)) λe=>aQ .i64 (rd h (a.add 3)) λf=>aQ .u64 (rd h (a.add 1)) λg=>Cl 283 [aA e,al f] h λe f=>aQ .i64 (some e) λe=>aF (au a)/\aF (au a)/\aF (au (a.add 0))/\ba (rd f (a.add 0)) λi=>aG (aA i) (aA b)/\bf b λb=>aG (au b) (au c)/\aF (au (c.add 0))/\ba (rd f (c.add 0)) λb=>aG (aA b) (aA d)/\aF (au a)/\aF (au a)/\aF (au (a.add 1))/\aQ .u64 (rd f (a.add 1)) λb=>aG (aq b) (aq g)/\Cl 282 [aA d,al e,aq g] f λb c=>b=aE/\aW c ((a.add 4).add 0) (.func (.func 284) #[au a] #[]) λa=>K aE a):Cl 239 [au a] h K:=cT F239.T Tryz.func239 H
def F240.spec(a:Addr)(b:Bool)(h:aH)(K:KK)(H:aW h ((a.add 5).add 0) aC λc=>aW c ((a.add 6).add 0) (aD b) λa=>K aE a):Cl 240 [au a,aD b] h K:=cN Tryz.func240 H
def F284.T:bj:=⟨[],[(0,[[(0,[]),(1,[]),(2,[]),(3,[]),(4,[]),(5,[]),(6,[]),(7,[]),(8,[]),(9,[]),(10,[]),(11,[]),(12,[]),(13,[]),(14,[]),(15,[]),(16,[]),(17,[]),(18,[]),(19,[]),(20,[]),(21,[])]])]⟩
def F284.spec(H:ba (rd h (a.add 0)) λb=>bf b λb=>ba (rd h (b.add 0)) λb=>ba (rd h (a.add 0)) λc=>bf c λc=>aQ .i64 (rd h (c.add 1)) λc=>aQ .i64 (rd h (a.add 3)) λd=>Cl 282 [aA b,al (ax (c+1)),aq (IntKind.wrap .u64 (ax (d+1)))] h λb c=>b=aE/\Cl 240 [au a,aC] c λa b=>a=aE/\K aE b):Cl 284 [au a] h K:=cT F284.T Tryz.func284 H
def F220.spec(H:ba (rd h (a.add 0)) λb=>Cl 194 [aA b,al 1] h λb c=>aQ .i64 (some b) λb=>aW c ((a.add 3).add 0) (al (ax (b-1))) λb=>aW b ((a.add 4).add 0) (.func (.func 269) #[au a] #[]) λa=>K aE a):Cl 220 [au a] h K:=cN Tryz.func220 H
def F269.T:bj:=⟨[],[(0,[[(0,[]),(1,[]),(2,[]),(3,[]),(4,[]),(5,[]),(6,[]),(7,[]),(8,[]),(9,[]),(10,[]),(11,[]),(12,[]),(13,[]),(14,[]),(15,[]),(16,[]),(17,[]),(18,[]),(19,[]),(20,[])]])]⟩
def F269.spec(H:ba (rd h (a.add 0)) λb=>bf b λb=>ba (rd h (b.add 0)) λb=>ba (rd h (a.add 0)) λc=>bf c λc=>aQ .i64 (rd h (c.add 1)) λc=>aQ .i64 (rd h (a.add 3)) λd=>Cl 282 [aA b,al (ax (c+1)),aq (IntKind.wrap .u64 d)] h λb c=>b=aE/\aW c ((a.add 4).add 0) (.func (.func 300) #[au a] #[]) λa=>K aE a):Cl 269 [au a] h K:=cT F269.T Tryz.func269 H
def F300.T:bj:=⟨[],[(2,[[(0,[]),(1,[]),(2,[]),(3,[]),(4,[]),(5,[]),(6,[]),(7,[]),(8,[])]])]⟩
def F300.spec(H:ba (rd h (a.add 0)) λb=>Cl 194 [aA b,al 0] h λb c=>aQ .i64 (some b) λb=>aW c ((a.add 2).add 0) (al b) λb=>aW b ((a.add 4).add 0) (.func (.func 333) #[au a] #[]) λb=>aQ .i64 (rd b (a.add 2)) λc=>aQ .i64 (rd b (a.add 3)) λd=>aK (c>d) (aW b ((a.add 4).add 0) (.func (.func 334) #[au a] #[]) λa=>K aE a) (K aE b)):Cl 300 [au a] h K:=cT F300.T Tryz.func300 H
def F333.T:bj:=⟨[],[(0,[[(0,[]),(1,[]),(2,[]),(3,[]),(4,[]),(5,[]),(6,[]),(7,[]),(8,[]),(9,[]),(10,[]),(11,[]),(12,[]),(13,[]),(14,[]),(15,[]),(16,[0,1,2,3,4,5,6,7]),(17,[0]),(18,[]),(19,[]),(20,[])]]),(1,[[(0,[]),(1,[]),(2,[]),(3,[]),(4,[]),(5,[]),(6,[]),(7,[]),(8,[])]])]⟩
def F333.spec(H:ba (rd h (a.add 0)) λb=>bf b λc=>ba (rd h (c.add 0)) λd=>ba (rd h (a.add 0)) λe=>aQ .i64 (rd h (a.add 3)) λf=>Cl 283 [aA e,al f] h λe f=>aQ .i64 (some e) λe=>aF (au a)/\aF (au a)/\aF (au a)/\aF (au (a.add 0))/\ba (rd f (a.add 0)) λg=>aG (aA g) (aA b)/\bf b λb=>aG (au b) (au c)/\aF (au (c.add 0))/\ba (rd f (c.add 0)) λb=>aG (aA b) (aA d)/\Cl 162 [aA d,al e] f λb c=>aQ .u64 (some b) λb=>aF (au a)/\aW c ((a.add 1).add 0) (aq b) λb=>aQ .i64 (rd b (a.add 2)) λc=>aQ .i64 (rd b (a.add 3)) λd=>aK (c<d) (Cl 240 [au a,aC] b λa b=>a=aE/\K aE b) (aW b ((a.add 4).add 0) (.func (.func 353) #[au a] #[]) λa=>K aE a)):Cl 333 [au a] h K:=cT F333.T Tryz.func333 H
def F353.T:bj:=⟨[],[(0,[[(0,[]),(1,[]),(2,[]),(3,[]),(4,[]),(5,[]),(6,[]),(7,[]),(8,[]),(9,[]),(10,[]),(11,[]),(12,[]),(13,[]),(14,[]),(15,[]),(16,[]),(17,[]),(18,[]),(19,[]),(20,[]),(21,[]),(22,[]),(23,[]),(24,[]),(25,[]),(26,[]),(27,[0]),(28,[]),(29,[]),(30,[])]])]⟩
def F353.spec(H:ba (rd h (a.add 0)) λb=>bf b λb=>ba (rd h (b.add 0)) λb=>ba (rd h (a.add 0)) λc=>bf c λc=>aQ .i64 (rd h (c.add 1)) λc=>aQ .i64 (rd h (a.add 2)) λd=>aQ .i64 (rd h (a.add 2)) λe=>Cl 163 [aA b,al (ax (c+0)),aq (IntKind.wrap .u64 d),aq (IntKind.wrap .u64 (ax (e+1)))] h λb c=>bI (some b) λb=>aF (au a)/\aW c ((a.add 6).add 0) (aD b) λb=>aW b ((a.add 4).add 0) (.func (.func 354) #[au a] #[]) λa=>K aE a):Cl 353 [au a] h K:=cT F353.T Tryz.func353 H
def F334.spec(H:aW h ((a.add 6).add 0) aB λb=>Cl 354 [au a] b λa b=>a=aE/\K aE b):Cl 334 [au a] h K:=cN Tryz.func334 H
def F354.T:bj:=⟨[],[(0,[[(0,[]),(1,[]),(2,[]),(3,[]),(4,[]),(5,[]),(6,[]),(7,[]),(8,[]),(9,[]),(10,[]),(11,[]),(12,[]),(13,[]),(14,[]),(15,[]),(16,[]),(17,[]),(18,[]),(19,[]),(20,[]),(21,[])]])]⟩
def F354.spec(H:ba (rd h (a.add 0)) λb=>bf b λb=>ba (rd h (b.add 0)) λb=>ba (rd h (a.add 0)) λc=>bf c λc=>aQ .i64 (rd h (c.add 1)) λc=>aQ .i64 (rd h (a.add 3)) λd=>Cl 282 [aA b,al (ax (c+1)),aq (IntKind.wrap .u64 (ax (d+1)))] h λb c=>b=aE/\bI (rd c (a.add 6)) λb=>Cl 240 [au a,aD b] c λa b=>a=aE/\K aE b):Cl 354 [au a] h K:=cT F354.T Tryz.func354 H
def F221.spec(H:ba (rd h (a.add 0)) λb=>Cl 194 [aA b,al 0] h λb c=>aQ .i64 (some b) λb=>aW c ((a.add 2).add 0) (al b) λb=>aW b ((a.add 4).add 0) (.func (.func 270) #[au a] #[]) λa=>K aE a):Cl 221 [au a] h K:=cN Tryz.func221 H
def F270.T:bj:=⟨[],[(2,[[(0,[]),(1,[]),(2,[]),(3,[]),(4,[]),(5,[]),(6,[]),(7,[]),(8,[])]])]⟩
def F270.spec(H:ba (rd h (a.add 0)) λb=>Cl 194 [aA b,al 1] h λb c=>aQ .i64 (some b) λb=>aW c ((a.add 3).add 0) (al b) λb=>aW b ((a.add 4).add 0) (.func (.func 301) #[au a] #[]) λb=>aQ .i64 (rd b (a.add 2)) λc=>aQ .i64 (rd b (a.add 3)) λd=>aK (c>=d) (Cl 240 [au a,aB] b λa b=>a=aE/\K aE b) (K aE b)):Cl 270 [au a] h K:=cT F270.T Tryz.func270 H
def F301.T:bj:=⟨[],[(0,[[(0,[]),(1,[]),(2,[]),(3,[]),(4,[]),(5,[]),(6,[]),(7,[]),(8,[]),(9,[]),(10,[]),(11,[]),(12,[]),(13,[]),(14,[]),(15,[]),(16,[0,1,2,3,4,5,6,7]),(17,[0]),(18,[]),(19,[]),(20,[])]])]⟩
def F301.spec(H:ba (rd h (a.add 0)) λb=>bf b λc=>ba (rd h (c.add 0)) λd=>ba (rd h (a.add 0)) λe=>aQ .i64 (rd h (a.add 2)) λf=>Cl 283 [aA e,al f] h λe f=>aQ .i64 (some e) λe=>aF (au a)/\aF (au a)/\aF (au a)/\aF (au (a.add 0))/\ba (rd f (a.add 0)) λg=>aG (aA g) (aA b)/\bf b λb=>aG (au b) (au c)/\aF (au (c.add 0))/\ba (rd f (c.add 0)) λb=>aG (aA b) (aA d)/\Cl 162 [aA d,al e] f λb c=>aQ .u64 (some b) λb=>aF (au a)/\aW c ((a.add 1).add 0) (aq b) λb=>aW b ((a.add 4).add 0) (.func (.func 335) #[au a] #[]) λa=>K aE a):Cl 301 [au a] h K:=cT F301.T Tryz.func301 H
def F335.T:bj:=⟨[],[(0,[[(0,[]),(1,[]),(2,[]),(3,[]),(4,[]),(5,[]),(6,[]),(7,[]),(8,[]),(9,[]),(10,[]),(11,[]),(12,[]),(13,[]),(14,[]),(15,[]),(16,[]),(17,[]),(18,[]),(19,[]),(20,[]),(21,[]),(22,[]),(23,[]),(24,[]),(25,[]),(26,[]),(27,[0]),(28,[])]])]⟩
def F335.spec(H:ba (rd h (a.add 0)) λb=>bf b λb=>ba (rd h (b.add 0)) λb=>ba (rd h (a.add 0)) λc=>bf c λc=>aQ .i64 (rd h (c.add 1)) λc=>aQ .i64 (rd h (a.add 2)) λd=>aQ .i64 (rd h (a.add 2)) λe=>Cl 163 [aA b,al (ax (c+0)),aq (IntKind.wrap .u64 d),aq (IntKind.wrap .u64 (ax (e+1)))] h λb c=>bI (some b) λb=>aF (au a)/\Cl 240 [au a,aD b] c λa b=>a=aE/\K aE b):Cl 335 [au a] h K:=cT F335.T Tryz.func335 H
def F140.T:bj:=⟨[(3,[0])],[]⟩
section
variable (a:Addr)(h:aH)(K:KK)
def F140.wk3:Prop:=bI (rd h (a.add 5)) λa=>K (aD a) h
end
def F140.spec(H:bI (rd h (a.add 5)) λb=>aK (!b) (lI (rd h (a.add 4)) λb=>eV Tryz.prog X b [] h λb c=>b=aE/\F140.wk3 a c K) (F140.wk3 a h K)):Cl 140 [au a] h K:=cT F140.T Tryz.func140 H
def F141.spec(H:bI (rd h (a.add 5)) λb=>aK (!b) (K (.tuple #[aq 0,aB]) h) (bI (rd h (a.add 6)) λb=>aK (!b) (K (.tuple #[aq 0,aB]) h) (aQ .u64 (rd h (a.add 1)) λa=>K (.tuple #[aq a,aC]) h))):Cl 141 [au a] h K:=cN Tryz.func141 H
def F283.T:bj:=⟨[],[(1,[[(0,[]),(1,[]),(2,[]),(3,[]),(4,[]),(5,[]),(6,[]),(7,[]),(8,[]),(9,[]),(10,[]),(11,[]),(12,[])]])]⟩
def F283.spec(H:aQ .i64 (rd h (a.add 1)) λb=>aQ .i64 (rd h (a.add 2)) λa=>a≠0/\K (al (ax ((ax (b+2))+(Int.tmod i a)))) h):Cl 283 [au a,al i] h K:=cT F283.T Tryz.func283 H
end
namespace A40
variable {i j k l m n o p q r s t:Int}{a b c d:Addr}{u v:Nat}{x y:az}{h:aH}{K:KK}
def F142.spec(H:a9 h (.cells #[.func (.func 143) #[] #[]] 235) λb c=>a9 c (.cells #[au a,aq i,al 0,al 0,.nilFunc,aB,aB] 272) λa c=>a9 c (.cells #[aA none] 172) λc d=>aW d ((aw c).add 0) (au (aw a)) λa=>ba (rd a (aw c)) λd=>bf d λd=>aW a ((d.add 4).add 0) (.func (.func 193) #[] #[au (aw b),au (aw c)]) λa=>ba (rd a (aw c)) λb=>K (aA b) a):Cl 142 [au a,aq i,.func (.func 143) #[] #[]] h K:=cN Tryz.func142 H
end A40
namespace A41
variable {i j k l m n o p q r s t:Int}{a b c d:Addr}{u v:Nat}{x y:az}{h:aH}{K:KK}
def F142.spec(H:a9 h (.cells #[.func (.func 220) #[] #[]] 235) λb c=>a9 c (.cells #[au a,aq i,al 0,al 0,.nilFunc,aB,aB] 272) λa c=>a9 c (.cells #[aA none] 172) λc d=>aW d ((aw c).add 0) (au (aw a)) λa=>ba (rd a (aw c)) λd=>bf d λd=>aW a ((d.add 4).add 0) (.func (.func 193) #[] #[au (aw b),au (aw c)]) λa=>ba (rd a (aw c)) λb=>K (aA b) a):Cl 142 [au a,aq i,.func (.func 220) #[] #[]] h K:=cN Tryz.func142 H
end A41
namespace A42
variable {i j k l m n o p q r s t:Int}{a b c d:Addr}{u v:Nat}{x y:az}{h:aH}{K:KK}
def F142.spec(H:a9 h (.cells #[.func (.func 221) #[] #[]] 235) λb c=>a9 c (.cells #[au a,aq i,al 0,al 0,.nilFunc,aB,aB] 272) λa c=>a9 c (.cells #[aA none] 172) λc d=>aW d ((aw c).add 0) (au (aw a)) λa=>ba (rd a (aw c)) λd=>bf d λd=>aW a ((d.add 4).add 0) (.func (.func 193) #[] #[au (aw b),au (aw c)]) λa=>ba (rd a (aw c)) λb=>K (aA b) a):Cl 142 [au a,aq i,.func (.func 221) #[] #[]] h K:=cN Tryz.func142 H
end A42
section
def pV(h:aH)(d m base n:Nat):Prop:=At h d [au (aw m),al (base:Int),al (n:Int)]
def pV.only{S:List Nat}{h h':aH}{t m base n:Nat}(H:pV h t m base n)(O:aM S h h')(ht:t∉S):pV h' t m base n:=At.only H O ht
structure Dc where
 v:Int
 t:Int
 b:Int
 ph:Nat
 done:Bool
 ok:Bool
def IT:Nat->Nat
 |0=>143
 |1=>195
 |2=>239
 |3=>284
 |4=>220
 |5=>269
 |6=>300
 |7=>333
 |8=>353
 |9=>354
 |10=>334
 |11=>221
 |12=>270
 |13=>301
 |_=>335
def Gv:bZ X 143=some cY.go:=by kernel_rfl
def GX:bZ X 195=some cY.go:=by kernel_rfl
def GK:bZ X 239=some cY.go:=by kernel_rfl
def GR:bZ X 284=some cY.go:=by kernel_rfl
def GL:bZ X 220=some cY.go:=by kernel_rfl
def HW:bZ X 269=some cY.go:=by kernel_rfl
def GJ:bZ X 300=some cY.go:=by kernel_rfl
def Gm:bZ X 333=some cY.go:=by kernel_rfl
def HN:bZ X 353=some cY.go:=by kernel_rfl
def Ho:bZ X 354=some cY.go:=by kernel_rfl
def GF:bZ X 334=some cY.go:=by kernel_rfl
def Hp:bZ X 221=some cY.go:=by kernel_rfl
def Gf:bZ X 270=some cY.go:=by kernel_rfl
def Gr:bZ X 301=some cY.go:=by kernel_rfl
def GE:bZ X 335=some cY.go:=by kernel_rfl
def yG:bZ X 193=some cY.go:=by kernel_rfl
def nO(ph:Nat):Bool:=ph==0||ph==4||ph==11
def IV(f bx by_ ph:Nat):Value:=
 if nO ph then .func (.func 193) #[] #[au (aw bx),au (aw by_)]else .func (.func (IT ph)) #[au (aw f)] #[]
def yx(f d bx by_:Nat)(A:Dc):List Value:=
 [au (aw d),aq A.v,al A.t,al A.b,IV f bx by_ A.ph,aD A.done,aD A.ok]
structure cG(h:aH)(f d bx by_:Nat)(A:Dc):Prop where
 act:At h f (yx f d bx by_ A)
 fn:nO A.ph=true->At h bx [.func (.func (IT A.ph)) #[] #[]]
 me:nO A.ph=true->At h by_ [au (aw f)]
section
variable {h:aH}{f d m mc base n:Nat}{cs:List Int}{ops fails:Int}{K:KK}
def mE{c:Int}(Q:pV h d m base n)(M:bu h m mc cs ops fails)(hb:base<1000000000)(hc0:0<=c)(hc1:c<=1)(hl:base+2<=cs.length)
  (hK: ∀h',bu h' m mc cs (up ops) fails->aM [m,mc] h h'->K (al (ax (cs.getD (base+c.toNat) 0))) h'):
  Cl 194 [au (aw d),al c] h K:=by
 apply F194.spec;simp only[aL,Nat.zero_add];refine aR (by rw[At.rd Q];rfl) (aI (n:=(base:Int)) (by rw[At.rd Q];rfl) ?_);rw[show ax ((base:Int)+c)=((base+c.toNat:Nat):Int) by rw[wrap_i64 ah ah];omega];refine eI M ah ah λh1 M1 O1=>aI rfl ?_;rw[Int.toNat_natCast];exact hK h1 M1 O1
def dC(base n:Nat)(x:Int):Nat:=base+2+(x.tmod n).toNat
def jz{base n:Nat}{x:Int}(hn:1<=n)(hx:0<=x):dC base n x<base+2+n:=by unfold dC;rw[Int.tmod_eq_emod_of_nonneg hx];have:=Int.emod_lt_of_pos x (by omega:(0:Int)<n);omega
def rX{x:Int}(Q:pV h d m base n)(hb:base<1000000000)(hn:1<=n)(hn2:n<1000000000)(hx:0<=x)(hK:K (al (dC base n x:Int)) h):
  Cl 283 [au (aw d),al x] h K:=by
 apply F283.spec;simp only[aL,Nat.zero_add];refine aI (n:=(base:Int)) (by rw[At.rd Q];rfl) (aI (n:=(n:Int)) (by rw[At.rd Q];rfl) ⟨ah,?_⟩)
 have e:x.tmod n=(((x.tmod n).toNat:Nat):Int):=by rw[Int.tmod_eq_emod_of_nonneg hx];have:=Int.emod_nonneg x (by omega:(n:Int)≠0);omega
 have hlt:=jz (base:=base) hn hx;unfold dC at hK hlt;rw[e,wrap_i64 (n:=(base:Int)+2) ah ah,wrap_i64 ah ah];rw[show((base:Int)+2+((x.tmod n).toNat:Int))=((base+2+(x.tmod n).toNat:Nat):Int) by simp];exact hK
def mI{c:List Value}{ok:Bool}(H:At h f c)(hl:c.length=7)(hK: ∀h',At h' f ((c.set 5 aC).set 6 (aD ok))->aM [f] h h'->K aE h'):
  Cl 240 [au (aw f),aD ok] h K:=by
 apply F240.spec;simp only[aL,Nat.zero_add,Nat.add_zero];refine aS H ah rfl λh1 A1 O1 _=>aS A1 (by simp;omega) rfl λh2 A2 O2 _=> ?_;exact hK h2 A2 (O1.trans O2 ak)
end
def bR(base n:Nat)(cs:List Int)(A:Dc):Dc×List Int:=
 if A.done then(A,cs)else
 match A.ph with
 |0=>({A with b:=ax (cs.getD (base+1) 0),ph:=1},cs)
 |1=>({A with t:=ax (cs.getD base 0),ph:=2,done:=decide (ax (A.b-ax (cs.getD base 0))>=(n:Int)),ok:=if decide (ax (A.b-ax (cs.getD base 0))>=(n:Int))then false else A.ok},cs)
 |2=>({A with ph:=3},cs.set (dC base n A.b) A.v)
 |3=>({A with done:=true,ok:=true},cs.set (base+1) (IntKind.wrap .u64 (ax (A.b+1))))
 |4=>({A with b:=ax (ax (cs.getD (base+1) 0)-1),ph:=5},cs)
 |5=>({A with ph:=6},cs.set (base+1) (IntKind.wrap .u64 A.b))
 |6=>({A with t:=ax (cs.getD base 0),ph:=if decide (ax (cs.getD base 0)>A.b)then 10 else 7},cs)
 |7=>if decide (A.t<A.b)then({A with v:=cs.getD (dC base n A.b) 0,done:=true,ok:=true},cs)else({A with v:=cs.getD (dC base n A.b) 0,ph:=8},cs)
 |8=>if cs.getD base 0=IntKind.wrap .u64 A.t then({A with ok:=true,ph:=9},cs.set base (IntKind.wrap .u64 (ax (A.t+1))))else({A with ok:=false,ph:=9},cs)
 |9=>({A with done:=true},cs.set (base+1) (IntKind.wrap .u64 (ax (A.b+1))))
 |10=>({A with done:=true,ok:=false},cs.set (base+1) (IntKind.wrap .u64 (ax (A.b+1))))
 |11=>({A with t:=ax (cs.getD base 0),ph:=12},cs)
 |12=>({A with b:=ax (cs.getD (base+1) 0),ph:=13,done:=decide (A.t>=ax (cs.getD (base+1) 0)),ok:=if decide (A.t>=ax (cs.getD (base+1) 0))then false else A.ok},cs)
 |13=>({A with v:=cs.getD (dC base n A.t) 0,ph:=14},cs)
 |_=>if cs.getD base 0=IntKind.wrap .u64 A.t then({A with done:=true,ok:=true},cs.set base (IntKind.wrap .u64 (ax (A.t+1))))else({A with done:=true,ok:=false},cs)
end
section
def cD(d:Nat)(v t b:Int)(x:Value)(dn ok:Bool):List Value:=[au (aw d),aq v,al t,al b,x,aD dn,aD ok]
def nf(g f:Nat):Value:= .func (.func g) #[au (aw f)] #[]
section
variable {h:aH}{f d m mc base n:Nat}{cs:List Int}{ops fails:Int}{K:KK}{v t b:Int}{x:Value}{dn ok:Bool}
variable (Q:pV h d m base n)(M:bu h m mc cs ops fails)(H:At h f (cD d v t b x dn ok))(hb:base<1000000)(hn:1<=n)(hn2:n<1000000)(hl:base+2+n<=cs.length)(d1:f≠d)(d2:f≠m)(d3:f≠mc)(d4:d≠m)(d5:d≠mc)
include Q M H hb hn hl d2 d3
theorem Jz(hK: ∀h',At h' f (cD d v t (ax (cs.getD (base+1) 0)) (nf 195 f) dn ok)->bu h' m mc cs (up ops) fails->aM [f,m,mc] h h'->K aE h'):Cl 143 [au (aw f)] h K:=by apply F143.spec;simp only[aL,Nat.zero_add,Nat.add_zero];refine aR (by rw[H.rd];rfl) (mE Q M ah (by decide) (by decide) ah λh1 M1 O1=>aI rfl ?_);refine aS (H.only O1 (by simp[d2,d3])) (by simp[cD]) rfl λh2 A2 O2 _=>aS A2 (by simp[cD]) rfl λh3 A3 O3 _=> ?_;have O23:=O2.trans O3 ak;exact hK h3 A3 (M1.only O23 (by simp[d2.symm]) (by simp[d3.symm])) ((O1.mono (T:=[f,m,mc]) (by simp+contextual)).trans O23 ak)
theorem Jk(hK: ∀h',At h' f (cD d v t (ax (ax (cs.getD (base+1) 0)-1)) (nf 269 f) dn ok)->bu h' m mc cs (up ops) fails->aM [f,m,mc] h h'->K aE h'):Cl 220 [au (aw f)] h K:=by apply F220.spec;simp only[aL,Nat.zero_add,Nat.add_zero];refine aR (by rw[H.rd];rfl) (mE Q M ah (by decide) (by decide) ah λh1 M1 O1=>aI rfl ?_);refine aS (H.only O1 (by simp[d2,d3])) (by simp[cD]) rfl λh2 A2 O2 _=>aS A2 (by simp[cD]) rfl λh3 A3 O3 _=> ?_;have O23:=O2.trans O3 ak;exact hK h3 A3 (M1.only O23 (by simp[d2.symm]) (by simp[d3.symm])) ((O1.mono (T:=[f,m,mc]) (by simp+contextual)).trans O23 ak)
theorem Jc(hK: ∀h',At h' f (cD d v (ax (cs.getD base 0)) b (nf 270 f) dn ok)->bu h' m mc cs (up ops) fails->aM [f,m,mc] h h'->K aE h'):Cl 221 [au (aw f)] h K:=by apply F221.spec;simp only[aL,Nat.zero_add,Nat.add_zero];refine aR (by rw[H.rd];rfl) (mE Q M ah (by decide) (by decide) ah λh1 M1 O1=>aI rfl ?_);refine aS (H.only O1 (by simp[d2,d3])) (by simp[cD]) rfl λh2 A2 O2 _=>aS A2 (by simp[cD]) rfl λh3 A3 O3 _=> ?_;have O23:=O2.trans O3 ak;exact hK h3 A3 (M1.only O23 (by simp[d2.symm]) (by simp[d3.symm])) ((O1.mono (T:=[f,m,mc]) (by simp+contextual)).trans O23 ak)
theorem JB(hK: ∀h',At h' f (cD d v t (ax (cs.getD (base+1) 0)) (nf 301 f) (if decide (t>=ax (cs.getD (base+1) 0))then true else dn) (if decide (t>=ax (cs.getD (base+1) 0))then false else ok))->
  bu h' m mc cs (up ops) fails->aM [f,m,mc] h h'->K aE h'):Cl 270 [au (aw f)] h K:=by
 apply F270.spec;simp only[aL,Nat.zero_add,Nat.add_zero];refine aR (by rw[H.rd];rfl) (mE Q M ah (by decide) (by decide) ah λh1 M1 O1=>aI rfl ?_);refine aS (H.only O1 (by simp[d2,d3])) (by simp[cD]) rfl λh2 A2 O2 _=>aS A2 (by simp[cD]) rfl λh3 A3 O3 _=> ?_;have O23:=O2.trans O3 ak;have M3:=M1.only O23 (by simp[d2.symm]) (by simp[d3.symm]);have P3:=(O1.mono (T:=[f,m,mc]) (by simp+contextual)).trans O23 ak;refine aI (n:=t) (by rw[A3.rd];rfl) (aI (n:=ax (cs.getD (base+1) 0)) (by rw[A3.rd];rfl) (aT (λe=> ?_) λe=> ?_))
 ·refine mI A3 (by simp[cD]) λh4 A4 O4=>⟨by trivial,hK h4 ?_ (M3.only O4 (by simp[d2.symm]) (by simp[d3.symm])) (P3.trans O4 ak)⟩;rw[e];exact A4
 ·refine hK h3 ?_ M3 P3;rw[e];exact A3
theorem Jm(hK: ∀h',At h' f (cD d v (ax (cs.getD base 0)) b (if decide (ax (cs.getD base 0)>b)then nf 334 f else nf 333 f) dn ok)->
  bu h' m mc cs (up ops) fails->aM [f,m,mc] h h'->K aE h'):Cl 300 [au (aw f)] h K:=by
 apply F300.spec;simp only[aL,Nat.zero_add,Nat.add_zero];refine aR (by rw[H.rd];rfl) (mE Q M ah (by decide) (by decide) ah λh1 M1 O1=>aI rfl ?_);refine aS (H.only O1 (by simp[d2,d3])) (by simp[cD]) rfl λh2 A2 O2 _=>aS A2 (by simp[cD]) rfl λh3 A3 O3 _=> ?_;have O23:=O2.trans O3 ak;have M3:=M1.only O23 (by simp[d2.symm]) (by simp[d3.symm]);have P3:=(O1.mono (T:=[f,m,mc]) (by simp+contextual)).trans O23 ak;refine aI (n:=ax (cs.getD base 0)) (by rw[A3.rd];rfl) (aI (n:=b) (by rw[A3.rd];rfl) (aT (λe=> ?_) λe=> ?_))
 ·refine aS A3 (by simp[cD]) rfl λh4 A4 O4 _=>hK h4 ?_ (M3.only O4 (by simp[d2.symm]) (by simp[d3.symm])) (P3.trans O4 ak);rw[e];exact A4
 ·refine hK h3 ?_ M3 P3;rw[e];exact A3
theorem Jt(hK: ∀h',At h' f (cD d v t b x true true)->bu h' m mc (cs.set (base+1) (IntKind.wrap .u64 (ax (b+1)))) (up ops) fails->aM [f,m,mc] h h'->K aE h'):Cl 284 [au (aw f)] h K:=by apply F284.spec;simp only[aL,Nat.zero_add,Nat.add_zero];refine aR (by rw[H.rd];rfl) ?_;simp only[aU,aL,Nat.zero_add];refine aR (by rw[At.rd Q];rfl) (aR (by rw[H.rd];rfl) ?_);simp only[aU,aL,Nat.zero_add];refine aI (n:=(base:Int)) (by rw[At.rd Q];rfl) (aI (n:=b) (by rw[H.rd];rfl) ?_);rw[show ax ((base:Int)+1)=((base+1:Nat):Int) by rw[wrap_i64 ah ah];simp];refine gd M ah ah λh1 M1 O1=>⟨rfl,?_⟩;rw[Int.toNat_natCast]at M1;refine mI (H.only O1 (by simp[d2,d3])) (by simp[cD]) λh2 A2 O2=>⟨rfl,hK h2 A2 (M1.only O2 (by simp[d2.symm]) (by simp[d3.symm])) ((O1.mono (T:=[f,m,mc]) (by simp+contextual)).trans O2 ak)⟩
theorem Ja(hK: ∀h',At h' f (cD d v t b (nf 300 f) dn ok)->bu h' m mc (cs.set (base+1) (IntKind.wrap .u64 b)) (up ops) fails->aM [f,m,mc] h h'->K aE h'):Cl 269 [au (aw f)] h K:=by apply F269.spec;simp only[aL,Nat.zero_add,Nat.add_zero];refine aR (by rw[H.rd];rfl) ?_;simp only[aU,aL,Nat.zero_add];refine aR (by rw[At.rd Q];rfl) (aR (by rw[H.rd];rfl) ?_);simp only[aU,aL,Nat.zero_add];refine aI (n:=(base:Int)) (by rw[At.rd Q];rfl) (aI (n:=b) (by rw[H.rd];rfl) ?_);rw[show ax ((base:Int)+1)=((base+1:Nat):Int) by rw[wrap_i64 ah ah];simp];refine gd M ah ah λh1 M1 O1=>⟨rfl,?_⟩;rw[Int.toNat_natCast]at M1;refine aS (H.only O1 (by simp[d2,d3])) (by simp[cD]) rfl λh2 A2 O2 _=> ?_;exact hK h2 A2 (M1.only O2 (by simp[d2.symm]) (by simp[d3.symm])) ((O1.mono (T:=[f,m,mc]) (by simp+contextual)).trans O2 ak)
theorem GA(hK: ∀h',At h' f (cD d v t b x true ok)->bu h' m mc (cs.set (base+1) (IntKind.wrap .u64 (ax (b+1)))) (up ops) fails->aM [f,m,mc] h h'->K aE h'):Cl 354 [au (aw f)] h K:=by apply F354.spec;simp only[aL,Nat.zero_add,Nat.add_zero];refine aR (by rw[H.rd];rfl) ?_;simp only[aU,aL,Nat.zero_add];refine aR (by rw[At.rd Q];rfl) (aR (by rw[H.rd];rfl) ?_);simp only[aU,aL,Nat.zero_add];refine aI (n:=(base:Int)) (by rw[At.rd Q];rfl) (aI (n:=b) (by rw[H.rd];rfl) ?_);rw[show ax ((base:Int)+1)=((base+1:Nat):Int) by rw[wrap_i64 ah ah];simp];refine gd M ah ah λh1 M1 O1=>⟨rfl,?_⟩;rw[Int.toNat_natCast]at M1;have H1:=H.only O1 (by simp[d2,d3]);refine aY (n:=ok) (by rw[H1.rd];rfl) (mI H1 (by simp[cD]) λh2 A2 O2=>⟨rfl,hK h2 A2 (M1.only O2 (by simp[d2.symm]) (by simp[d3.symm])) ((O1.mono (T:=[f,m,mc]) (by simp+contextual)).trans O2 ak)⟩)
theorem Jr(hT:cs.getD base 0=IntKind.wrap .u64 t-> ∀h',At h' f (cD d v t b (nf 354 f) dn true)->bu h' m mc (cs.set base (IntKind.wrap .u64 (ax (t+1)))) (up ops) fails->aM [f,m,mc] h h'->K aE h')
  (hF:cs.getD base 0≠IntKind.wrap .u64 t-> ∀h' fails',At h' f (cD d v t b (nf 354 f) dn false)->bu h' m mc cs (up ops) fails'->aM [f,m,mc] h h'->K aE h'):Cl 353 [au (aw f)] h K:=by
 apply F353.spec;simp only[aL,Nat.zero_add,Nat.add_zero];refine aR (by rw[H.rd];rfl) ?_;simp only[aU,aL,Nat.zero_add];refine aR (by rw[At.rd Q];rfl) (aR (by rw[H.rd];rfl) ?_);simp only[aU,aL,Nat.zero_add];refine aI (n:=(base:Int)) (by rw[At.rd Q];rfl) (aI (n:=t) (by rw[H.rd];rfl) (aI (n:=t) (by rw[H.rd];rfl) ?_));rw[show ax ((base:Int)+0)=(base:Int) by rw[wrap_i64 ah ah];simp];refine pf M ah ah (λe h1 M1 O1=>aY rfl ⟨by trivial,?_⟩) λe h1 M1 O1=>aY rfl ⟨by trivial,?_⟩
 all_goals
  rw[Int.toNat_natCast]at e;refine aS (H.only O1 (by simp[d2,d3])) (by simp[cD]) rfl λh2 A2 O2 _=>aS A2 (by simp[cD]) rfl λh3 A3 O3 _=> ?_;have O23:=O2.trans O3 ak;have M3:=M1.only O23 (by simp[d2.symm]) (by simp[d3.symm]);have P3:=(O1.mono (T:=[f,m,mc]) (by simp+contextual)).trans O23 ak
 ·rw[Int.toNat_natCast]at M3;exact hT e h3 A3 M3 P3
 ·exact hF e h3 _ A3 M3 P3
theorem Jw(hT:cs.getD base 0=IntKind.wrap .u64 t-> ∀h',At h' f (cD d v t b x true true)->bu h' m mc (cs.set base (IntKind.wrap .u64 (ax (t+1)))) (up ops) fails->aM [f,m,mc] h h'->K aE h')
  (hF:cs.getD base 0≠IntKind.wrap .u64 t-> ∀h' fails',At h' f (cD d v t b x true false)->bu h' m mc cs (up ops) fails'->aM [f,m,mc] h h'->K aE h'):Cl 335 [au (aw f)] h K:=by
 apply F335.spec;simp only[aL,Nat.zero_add,Nat.add_zero];refine aR (by rw[H.rd];rfl) ?_;simp only[aU,aL,Nat.zero_add];refine aR (by rw[At.rd Q];rfl) (aR (by rw[H.rd];rfl) ?_);simp only[aU,aL,Nat.zero_add];refine aI (n:=(base:Int)) (by rw[At.rd Q];rfl) (aI (n:=t) (by rw[H.rd];rfl) (aI (n:=t) (by rw[H.rd];rfl) ?_));rw[show ax ((base:Int)+0)=(base:Int) by rw[wrap_i64 ah ah];simp];refine pf M ah ah (λe h1 M1 O1=>aY rfl ⟨by trivial,?_⟩) λe h1 M1 O1=>aY rfl ⟨by trivial,?_⟩
 all_goals
  rw[Int.toNat_natCast]at e;refine mI (H.only O1 (by simp[d2,d3])) (by simp[cD]) λh2 A2 O2=>⟨by trivial,?_⟩;have M3:=M1.only O2 (by simp[d2.symm]) (by simp[d3.symm]);have P3:=(O1.mono (T:=[f,m,mc]) (by simp+contextual)).trans O2 ak
 ·rw[Int.toNat_natCast]at M3;exact hT e h2 A2 M3 P3
 ·exact hF e h2 _ A2 M3 P3
include d1 d4 d5
theorem Jp(hK: ∀h',At h' f (cD d v (ax (cs.getD base 0)) b (nf 239 f) (if decide (ax (b-ax (cs.getD base 0))>=(n:Int))then true else dn) (if decide (ax (b-ax (cs.getD base 0))>=(n:Int))then false else ok))->
  bu h' m mc cs (up ops) fails->aM [f,m,mc] h h'->K aE h'):Cl 195 [au (aw f)] h K:=by
 apply F195.spec;simp only[aL,Nat.zero_add,Nat.add_zero];refine aR (by rw[H.rd];rfl) (mE Q M ah (by decide) (by decide) ah λh1 M1 O1=>aI rfl ?_);refine aS (H.only O1 (by simp[d2,d3])) (by simp[cD]) rfl λh2 A2 O2 _=>aS A2 (by simp[cD]) rfl λh3 A3 O3 _=> ?_;have O23:=O2.trans O3 ak;have M3:=M1.only O23 (by simp[d2.symm]) (by simp[d3.symm]);have P3:=(O1.mono (T:=[f,m,mc]) (by simp+contextual)).trans O23 ak;have Q3:=Q.only P3 (by simp[d1.symm,d4,d5]);refine aI (n:=b) (by rw[A3.rd];rfl) (aI (n:=ax (cs.getD base 0)) (by rw[A3.rd];rfl) (aR (by rw[A3.rd];rfl) ?_));simp only[aU,aL,Nat.zero_add];refine aI (n:=(n:Int)) (by rw[At.rd Q3];rfl) (aT (λe=> ?_) λe=> ?_)
 ·refine mI A3 (by simp[cD]) λh4 A4 O4=>⟨by trivial,hK h4 ?_ (M3.only O4 (by simp[d2.symm]) (by simp[d3.symm])) (P3.trans O4 ak)⟩;rw[e];exact A4
 ·refine hK h3 ?_ M3 P3;rw[e];exact A3
end
end
section
section
variable {h:aH}{f d m mc base n:Nat}{cs:List Int}{ops fails:Int}{K:KK}{v t b:Int}{x:Value}{dn ok:Bool}
variable (Q:pV h d m base n)(M:bu h m mc cs ops fails)(H:At h f (cD d v t b x dn ok))(hb:base<1000000)(hn:1<=n)(hn2:n<1000000)(hl:base+2+n<=cs.length)(d1:f≠d)(d2:f≠m)(d3:f≠mc)(d4:d≠m)(d5:d≠mc)
include Q M H hb hn hn2 hl d2 d3
theorem Je(hp:0<=b)(hK: ∀h',At h' f (cD d v t b (nf 284 f) dn ok)->bu h' m mc (cs.set (dC base n b) v) (up ops) fails->aM [f,m,mc] h h'->K aE h'):Cl 239 [au (aw f)] h K:=by
 have hsl:=jz (base:=base) hn hp;apply F239.spec;simp only[aL,Nat.zero_add,Nat.add_zero];have r0:rd h (aw f)=some (au (aw d)):=by rw[H.rd];rfl
 have rm:rd h (aw d)=some (au (aw m)):=by rw[At.rd Q];rfl
 refine aR r0 ?_;simp only[aU,aL,Nat.zero_add];refine aR rm (aR r0 (aI (n:=b) (by rw[H.rd];rfl) (aI (n:=v) (by rw[H.rd];rfl) (rX Q ah hn ah hp (aI rfl ⟨by trivial,by trivial,by trivial,aR r0 ⟨by trivial,?_⟩⟩)))));refine⟨by trivial,by trivial,aR rm ⟨by trivial,by trivial,by trivial,by trivial,aI (n:=v) (by rw[H.rd];rfl) ⟨rfl,?_⟩⟩⟩;refine gd M ah ah λh1 M1 O1=>⟨rfl,?_⟩;rw[Int.toNat_natCast]at M1;refine aS (H.only O1 (by simp[d2,d3])) (by simp[cD]) rfl λh2 A2 O2 _=> ?_;exact hK h2 A2 (M1.only O2 (by simp[d2.symm]) (by simp[d3.symm])) ((O1.mono (T:=[f,m,mc]) (by simp+contextual)).trans O2 ak)
theorem Ji(hp:0<=b)(hT:t<b-> ∀h',At h' f (cD d (cs.getD (dC base n b) 0) t b x true true)->bu h' m mc cs (up ops) fails->aM [f,m,mc] h h'->K aE h')
  (hF: ¬t<b-> ∀h',At h' f (cD d (cs.getD (dC base n b) 0) t b (nf 353 f) dn ok)->bu h' m mc cs (up ops) fails->aM [f,m,mc] h h'->K aE h'):Cl 333 [au (aw f)] h K:=by
 have hsl:=jz (base:=base) hn hp;apply F333.spec;simp only[aL,Nat.zero_add,Nat.add_zero];have r0:rd h (aw f)=some (au (aw d)):=by rw[H.rd];rfl
 have rm:rd h (aw d)=some (au (aw m)):=by rw[At.rd Q];rfl
 refine aR r0 ?_;simp only[aU,aL,Nat.zero_add];refine aR rm (aR r0 (aI (n:=b) (by rw[H.rd];rfl) (rX Q ah hn ah hp (aI rfl ⟨by trivial,by trivial,by trivial,by trivial,aR r0 ⟨by trivial,?_⟩⟩))));refine⟨by trivial,by trivial,aR rm ⟨by trivial,eI M ah ah λh1 M1 O1=>aI rfl ⟨by trivial,?_⟩⟩⟩;rw[Int.toNat_natCast];refine aS (H.only O1 (by simp[d2,d3])) (by simp[cD]) rfl λh2 A2 O2 _=> ?_;have M2:=M1.only O2 (by simp[d2.symm]) (by simp[d3.symm]);have P2:=(O1.mono (T:=[f,m,mc]) (by simp+contextual)).trans O2 ak;refine aI (n:=t) (by rw[A2.rd];rfl) (aI (n:=b) (by rw[A2.rd];rfl) (aT (λe=> ?_) λe=> ?_))
 ·refine mI A2 (by simp[cD]) λh3 A3 O3=>⟨rfl,hT (of_decide_eq_true e) h3 A3 (M2.only O3 (by simp[d2.symm]) (by simp[d3.symm])) (P2.trans O3 ak)⟩
 ·refine aS A2 (by simp[cD]) rfl λh3 A3 O3 _=> ?_;exact hF (of_decide_eq_false e) h3 A3 (M2.only O3 (by simp[d2.symm]) (by simp[d3.symm])) (P2.trans O3 ak)
theorem Jq(hp:0<=t)(hK: ∀h',At h' f (cD d (cs.getD (dC base n t) 0) t b (nf 335 f) dn ok)->bu h' m mc cs (up ops) fails->aM [f,m,mc] h h'->K aE h'):Cl 301 [au (aw f)] h K:=by
 have hsl:=jz (base:=base) hn hp;apply F301.spec;simp only[aL,Nat.zero_add,Nat.add_zero];have r0:rd h (aw f)=some (au (aw d)):=by rw[H.rd];rfl
 have rm:rd h (aw d)=some (au (aw m)):=by rw[At.rd Q];rfl
 refine aR r0 ?_;simp only[aU,aL,Nat.zero_add];refine aR rm (aR r0 (aI (n:=t) (by rw[H.rd];rfl) (rX Q ah hn ah hp (aI rfl ⟨by trivial,by trivial,by trivial,by trivial,aR r0 ⟨by trivial,?_⟩⟩))));refine⟨by trivial,by trivial,aR rm ⟨by trivial,eI M ah ah λh1 M1 O1=>aI rfl ⟨by trivial,?_⟩⟩⟩;rw[Int.toNat_natCast];refine aS (H.only O1 (by simp[d2,d3])) (by simp[cD]) rfl λh2 A2 O2 _=>aS A2 (by simp[cD]) rfl λh3 A3 O3 _=> ?_;have O23:=O2.trans O3 ak;exact hK h3 A3 (M1.only O23 (by simp[d2.symm]) (by simp[d3.symm])) ((O1.mono (T:=[f,m,mc]) (by simp+contextual)).trans O23 ak)
omit hn2
include d1
theorem Jg(hK: ∀h',At h' f (cD d v t b x true false)->bu h' m mc (cs.set (base+1) (IntKind.wrap .u64 (ax (b+1)))) (up ops) fails->aM [f,m,mc] h h'->K aE h'):Cl 334 [au (aw f)] h K:=by apply F334.spec;simp only[aL,Nat.zero_add,Nat.add_zero];refine aS H (by simp[cD]) rfl λh1 A1 O1 _=> ?_;have A1:At h1 f (cD d v t b x dn false):=A1;refine GA (Q.only O1 (by simp[d1.symm])) (M.only O1 (by simp[d2.symm]) (by simp[d3.symm])) A1 hb hn hl d2 d3 λh2 A2 M2 O2=>⟨rfl,hK h2 A2 M2 ?_⟩;exact(O1.mono (T:=[f,m,mc]) (by simp+contextual)).trans O2 ak
end
end
section
variable {i j k l m n o p q r s t:Int}{a b c d:Addr}{u v:Nat}{x y:az}{h:aH}{K:KK}
def F93.spec(H:Cl 142 [au a,aq i,.func (.func 143) #[] #[]] h λa b=>ba (some a) λa=>K (aA a) b):Cl 93 [au a,aq i] h K:=cN Tryz.func93 H
def F177.spec(H:Cl 142 [au a,aq 0,.func (.func 220) #[] #[]] h λa b=>ba (some a) λa=>K (aA a) b):Cl 177 [au a] h K:=cN Tryz.func177 H
def F178.spec(H:Cl 142 [au a,aq 0,.func (.func 221) #[] #[]] h λa b=>ba (some a) λa=>K (aA a) b):Cl 178 [au a] h K:=cN Tryz.func178 H
end
section
def xr{base n:Nat}{cs:List Int}{A:Dc}:(bR base n cs A).2.length=cs.length:=by
 unfold bR
 repeat' split
 all_goals simp
def cG.of{h:aH}{f d bx by_:Nat}{A:Dc}(H:At h f (yx f d bx by_ A))(e:nO A.ph=false):cG h f d bx by_ A:=
 ⟨H,(λe'=>by rw[e]at e';cases e'),(λe'=>by rw[e]at e';cases e')⟩
section
variable {h:aH}{f d bx by_ m mc base n:Nat}{cs:List Int}{ops fails:Int}{K:KK}{A:Dc}
def IH{g:Nat}(F:At h bx [.func (.func g) #[] #[]])(B:At h by_ [au (aw f)])(hg:bZ X g=some .go)
  (hK:Cl g [au (aw f)] h (λv h'=>v=aE/\K aE h')):
  Cl 193 [au (aw bx),au (aw by_)] h K:=by
 apply F193.spec;refine⟨_,by rw[F.rd];rfl,aR (by rw[B.rd];rfl) (bE hg ?_)⟩;simpa using hK
def uL(Q:pV h d m base n)(M:bu h m mc cs ops fails)(H:cG h f d bx by_ A)(hb:base<1000000)(hn:1<=n)(hn2:n<1000000)(hl:base+2+n<=cs.length)(d1:f≠d)(d2:f≠m)(d3:f≠mc)(d4:d≠m)(d5:d≠mc)
  (hph:A.ph<=14) (hp1:A.ph=2\/A.ph=7->0<=A.b) (hp2:A.ph=13->0<=A.t)
  (hK: ∀h' fails',cG h' f d bx by_ (bR base n cs A).1->bu h' m mc (bR base n cs A).2 (if A.done then ops else up ops) fails'->aM [f,m,mc] h h'->K (aD (bR base n cs A).1.done) h'):
  Cl 140 [au (aw f)] h K:=by
 apply F140.spec;simp only[aL,Nat.zero_add];obtain⟨v,t,b,ph,dn,ok⟩:=A;have H0:At h f (cD d v t b (IV f bx by_ ph) dn ok):=H.act;refine aY (n:=dn) (by rw[H0.rd];rfl) ?_
 have hend: ∀h' fails',cG h' f d bx by_ (bR base n cs ⟨v,t,b,ph,dn,ok⟩).1->bu h' m mc (bR base n cs ⟨v,t,b,ph,dn,ok⟩).2 (if dn then ops else up ops) fails'->aM [f,m,mc] h h'->F140.wk3 (aw f) h' K:=by intro h' fails' a1 a2 a3;unfold F140.wk3;simp only[aL,Nat.zero_add];exact aY (by rw[a1.act.rd];rfl) (hK h' fails' a1 a2 a3)
 clear hK;dsimp only at hph hp1 hp2;cases dn with
 |true=>
  rw[Bool.not_true,aJ];exact hend h fails H M (aM.refl _ _)
 |false=>
  rw[Bool.not_false,aO];simp only[bR,Bool.false_eq_true,if_false]at hend;refine⟨_,by rw[H0.rd];rfl,?_⟩
  match ph,hph,H,H0,hend,hp1,hp2 with
  |0,_,H,H0,hend,_,_=>
   refine bE yG (IH (H.fn rfl) (H.me rfl) Gv (Jz Q M H0 hb hn hl d2 d3 λh1 A1 M1 O1=>⟨rfl,rfl,hend h1 _ (cG.of A1 rfl) M1 O1⟩))
  |1,_,H,H0,hend,_,_=>
   refine bE GX (Jp Q M H0 hb hn hl d1 d2 d3 d4 d5 λh1 A1 M1 O1=>⟨rfl,hend h1 _ (cG.of ?_ rfl) M1 O1⟩);show At h1 f (cD d v _ b (nf 239 f) (decide _) _);simpa using A1
  |2,_,H,H0,hend,hp,_=>
   exact bE GK (Je Q M H0 hb hn hn2 hl d2 d3 (hp (Or.inl rfl)) λh1 A1 M1 O1=>⟨rfl,hend h1 _ (cG.of A1 rfl) M1 O1⟩)
  |3,_,H,H0,hend,_,_=>
   exact bE GR (Jt Q M H0 hb hn hl d2 d3 λh1 A1 M1 O1=>⟨rfl,hend h1 _ (cG.of A1 rfl) M1 O1⟩)
  |4,_,H,H0,hend,_,_=>
   refine bE yG (IH (H.fn rfl) (H.me rfl) GL (Jk Q M H0 hb hn hl d2 d3 λh1 A1 M1 O1=>⟨rfl,rfl,hend h1 _ (cG.of A1 rfl) M1 O1⟩))
  |5,_,H,H0,hend,_,_=>
   exact bE HW (Ja Q M H0 hb hn hl d2 d3 λh1 A1 M1 O1=>⟨rfl,hend h1 _ (cG.of A1 rfl) M1 O1⟩)
  |6,_,H,H0,hend,_,_=>
   refine bE GJ (Jm Q M H0 hb hn hl d2 d3 λh1 A1 M1 O1=>⟨rfl,?_⟩);refine hend h1 _ ?_ M1 O1;cases hd:decide (ax (cs.getD base 0)>b)with
   |true=>
    rw[hd]at A1;exact cG.of A1 rfl
   |false=>
    rw[hd]at A1;exact cG.of A1 rfl
  |7,_,H,H0,hend,hp,_=>
   refine bE Gm (Ji Q M H0 hb hn hn2 hl d2 d3 (hp (Or.inr rfl)) (λe h1 A1 M1 O1=>⟨rfl,?_⟩) λe h1 A1 M1 O1=>⟨rfl,?_⟩)
   ·exact hend h1 _ (by
     show cG h1 f d bx by_ (ite _ _ _:Dc×List Int).1;rw[if_pos (decide_eq_true e)];exact cG.of A1 rfl) (by
     show bu h1 m mc (ite _ _ _:Dc×List Int).2 _ _;rw[if_pos (decide_eq_true e)];exact M1) O1
   ·exact hend h1 _ (by
     show cG h1 f d bx by_ (ite _ _ _:Dc×List Int).1;rw[if_neg (by simpa using e)];exact cG.of A1 rfl) (by
     show bu h1 m mc (ite _ _ _:Dc×List Int).2 _ _;rw[if_neg (by simpa using e)];exact M1) O1
  |8,_,H,H0,hend,_,_=>
   refine bE HN (Jr Q M H0 hb hn hl d2 d3 (λe h1 A1 M1 O1=>⟨rfl,?_⟩) λe h1 fails' A1 M1 O1=>⟨rfl,?_⟩)
   ·exact hend h1 _ (by
     show cG h1 f d bx by_ (ite _ _ _:Dc×List Int).1;rw[if_pos e];exact cG.of A1 rfl) (by
     show bu h1 m mc (ite _ _ _:Dc×List Int).2 _ _;rw[if_pos e];exact M1) O1
   ·exact hend h1 _ (by
     show cG h1 f d bx by_ (ite _ _ _:Dc×List Int).1;rw[if_neg e];exact cG.of A1 rfl) (by
     show bu h1 m mc (ite _ _ _:Dc×List Int).2 _ _;rw[if_neg e];exact M1) O1
  |9,_,H,H0,hend,_,_=>
   exact bE Ho (GA Q M H0 hb hn hl d2 d3 λh1 A1 M1 O1=>⟨rfl,hend h1 _ (cG.of A1 rfl) M1 O1⟩)
  |10,_,H,H0,hend,_,_=>
   exact bE GF (Jg Q M H0 hb hn hl d1 d2 d3 λh1 A1 M1 O1=>⟨rfl,hend h1 _ (cG.of A1 rfl) M1 O1⟩)
  |11,_,H,H0,hend,_,_=>
   refine bE yG (IH (H.fn rfl) (H.me rfl) Hp (Jc Q M H0 hb hn hl d2 d3 λh1 A1 M1 O1=>⟨rfl,rfl,hend h1 _ (cG.of A1 rfl) M1 O1⟩))
  |12,_,H,H0,hend,_,_=>
   refine bE Gf (JB Q M H0 hb hn hl d2 d3 λh1 A1 M1 O1=>⟨rfl,hend h1 _ (cG.of ?_ rfl) M1 O1⟩);show At h1 f (cD d v t _ (nf 301 f) (decide _) _);simpa using A1
  |13,_,H,H0,hend,_,hp=>
   exact bE Gr (Jq Q M H0 hb hn hn2 hl d2 d3 (hp rfl) λh1 A1 M1 O1=>⟨rfl,hend h1 _ (cG.of A1 rfl) M1 O1⟩)
  |14,_,H,H0,hend,_,_=>
   refine bE GE (Jw Q M H0 hb hn hl d2 d3 (λe h1 A1 M1 O1=>⟨rfl,?_⟩) λe h1 fails' A1 M1 O1=>⟨rfl,?_⟩)
   ·exact hend h1 _ (by
     show cG h1 f d bx by_ (ite _ _ _:Dc×List Int).1;rw[if_pos e];exact cG.of A1 rfl) (by
     show bu h1 m mc (ite _ _ _:Dc×List Int).2 _ _;rw[if_pos e];exact M1) O1
   ·exact hend h1 _ (by
     show cG h1 f d bx by_ (ite _ _ _:Dc×List Int).1;rw[if_neg e];exact cG.of A1 rfl) (by
     show bu h1 m mc (ite _ _ _:Dc×List Int).2 _ _;rw[if_neg e];exact M1) O1
end
end
section
structure DW(h:aH)(d m mc base n:Nat)(cs:List Int)(ops fails:Int):Prop where
 deq:pV h d m base n
 mem:bu h m mc cs ops fails
 d4:d≠m
 d5:d≠mc
 hn:1<=n
 hn2:n<=256
 hb:base<100000
 hl:base+2+n<=cs.length
def DW.only{h h':aH}{d m mc base n:Nat}{cs:List Int}{ops fails:Int}{S:List Nat}(W:DW h d m mc base n cs ops fails)(O:aM S h h')(h1:d∉S)(h2:m∉S)(h3:mc∉S):DW h' d m mc base n cs ops fails:=
 ⟨W.deq.only O h1,W.mem.only O h2 h3,W.d4,W.d5,W.hn,W.hn2,W.hb,W.hl⟩
def DW.lt{h:aH}{d m mc base n:Nat}{cs:List Int}{ops fails:Int}(W:DW h d m mc base n cs ops fails):d<h.size/\m<h.size/\mc<h.size:=⟨At.lt W.deq,W.mem.head.lt,W.mem.body.lt⟩
section
variable {h:aH}{f d bx by_ m mc base n:Nat}{cs:List Int}{ops fails:Int}{K:KK}{A:Dc}
def yo(W:DW h d m mc base n cs ops fails)(H:cG h f d bx by_ A)(d1:f≠d)(d2:f≠m)(d3:f≠mc)(hph:A.ph<=14)(hp1:A.ph=2\/A.ph=7->0<=A.b)(hp2:A.ph=13->0<=A.t)
  (hK: ∀h' fails',cG h' f d bx by_ (bR base n cs A).1->DW h' d m mc base n (bR base n cs A).2 (if A.done then ops else up ops) fails'->aM [f,m,mc] h h'->K (aD (bR base n cs A).1.done) h'):
  Cl 140 [au (aw f)] h K:=
 uL W.deq W.mem H (Nat.lt_of_lt_of_le W.hb (by decide)) W.hn (Nat.lt_of_le_of_lt W.hn2 (by decide)) W.hl d1 d2 d3 W.d4 W.d5 hph hp1 hp2 λh' fails' a b O=>
  hK h' fails' a ⟨W.deq.only O (by simp[d1.symm,W.d4,W.d5]),b,W.d4,W.d5,W.hn,W.hn2,W.hb,by rw[xr];exact W.hl⟩ O
def GC{v:Int}(hK: ∀f bx by_ h',cG h' f d bx by_ ⟨v,0,0,0,false,false⟩->aM [] h h'->h.size<=f->h.size<=bx->h.size<=by_->f<h'.size->bx<h'.size->by_<h'.size->f≠bx->f≠by_->bx≠by_->K (au (aw f)) h'):
  Cl 142 [au (aw d),aq v,.func (.func 143) #[] #[]] h K:=by
 apply A40.F142.spec;refine aV λh1 A1 O1 z1=>aV λh2 A2 O2 z2=>aV λh3 A3 O3 z3=> ?_;simp only[aL,Nat.zero_add];refine aS A3 ak rfl λh4 A4 O4 z4=>aR (by rw[A4.rd];rfl) ?_;simp only[aU,aL,Nat.zero_add,Nat.add_zero];have B4:=((A2.only O3 ak).only O4 (by simp;omega));have C4:=(((A1.only O2 ak).only O3 ak).only O4 (by simp;omega));refine aS B4 ak rfl λh5 A5 O5 z5=>aR (n:=some (aw h1.size)) (by rw[(A4.only O5 (by simp;omega)).rd];rfl) ?_;have P5:aM [] h h5:=(((O1.trans O2 ak).trans O3 ak).trans O4 λb hb hl=>absurd (show b=h2.size by simpa using hb) ah).trans O5 λb hb hl=>absurd (show b=h1.size by simpa using hb) ah;refine hK h1.size h.size h2.size h5 ⟨A5,λ_=>C4.only O5 (by simp;omega),λ_=>A4.only O5 (by simp;omega)⟩ P5 ah ah ah ah ah ah ah ah ah
def Gk{v:Int}(hK: ∀f bx by_ h',cG h' f d bx by_ ⟨v,0,0,4,false,false⟩->aM [] h h'->h.size<=f->h.size<=bx->h.size<=by_->f<h'.size->bx<h'.size->by_<h'.size->f≠bx->f≠by_->bx≠by_->K (au (aw f)) h'):
  Cl 142 [au (aw d),aq v,.func (.func 220) #[] #[]] h K:=by
 apply A41.F142.spec;refine aV λh1 A1 O1 z1=>aV λh2 A2 O2 z2=>aV λh3 A3 O3 z3=> ?_;simp only[aL,Nat.zero_add];refine aS A3 ak rfl λh4 A4 O4 z4=>aR (by rw[A4.rd];rfl) ?_;simp only[aU,aL,Nat.zero_add,Nat.add_zero];have B4:=((A2.only O3 ak).only O4 (by simp;omega));have C4:=(((A1.only O2 ak).only O3 ak).only O4 (by simp;omega));refine aS B4 ak rfl λh5 A5 O5 z5=>aR (n:=some (aw h1.size)) (by rw[(A4.only O5 (by simp;omega)).rd];rfl) ?_;have P5:aM [] h h5:=(((O1.trans O2 ak).trans O3 ak).trans O4 λb hb hl=>absurd (show b=h2.size by simpa using hb) ah).trans O5 λb hb hl=>absurd (show b=h1.size by simpa using hb) ah;refine hK h1.size h.size h2.size h5 ⟨A5,λ_=>C4.only O5 (by simp;omega),λ_=>A4.only O5 (by simp;omega)⟩ P5 ah ah ah ah ah ah ah ah ah
def Hu{v:Int}(hK: ∀f bx by_ h',cG h' f d bx by_ ⟨v,0,0,11,false,false⟩->aM [] h h'->h.size<=f->h.size<=bx->h.size<=by_->f<h'.size->bx<h'.size->by_<h'.size->f≠bx->f≠by_->bx≠by_->K (au (aw f)) h'):
  Cl 142 [au (aw d),aq v,.func (.func 221) #[] #[]] h K:=by
 apply A42.F142.spec;refine aV λh1 A1 O1 z1=>aV λh2 A2 O2 z2=>aV λh3 A3 O3 z3=> ?_;simp only[aL,Nat.zero_add];refine aS A3 ak rfl λh4 A4 O4 z4=>aR (by rw[A4.rd];rfl) ?_;simp only[aU,aL,Nat.zero_add,Nat.add_zero];have B4:=((A2.only O3 ak).only O4 (by simp;omega));have C4:=(((A1.only O2 ak).only O3 ak).only O4 (by simp;omega));refine aS B4 ak rfl λh5 A5 O5 z5=>aR (n:=some (aw h1.size)) (by rw[(A4.only O5 (by simp;omega)).rd];rfl) ?_;have P5:aM [] h h5:=(((O1.trans O2 ak).trans O3 ak).trans O4 λb hb hl=>absurd (show b=h2.size by simpa using hb) ah).trans O5 λb hb hl=>absurd (show b=h1.size by simpa using hb) ah;refine hK h1.size h.size h2.size h5 ⟨A5,λ_=>C4.only O5 (by simp;omega),λ_=>A4.only O5 (by simp;omega)⟩ P5 ah ah ah ah ah ah ah ah ah
def Cn{v:Int}(hK: ∀f bx by_ h',cG h' f d bx by_ ⟨v,0,0,0,false,false⟩->aM [] h h'->h.size<=f->h.size<=bx->h.size<=by_->f<h'.size->bx<h'.size->by_<h'.size->f≠bx->f≠by_->bx≠by_->K (au (aw f)) h'):
  Cl 93 [au (aw d),aq v] h K:=by
 apply F93.spec;exact GC λf bx by_ h' a b c e g i j k l m o=>aR rfl (hK f bx by_ h' a b c e g i j k l m o)
def Fl(hK: ∀f bx by_ h',cG h' f d bx by_ ⟨0,0,0,4,false,false⟩->aM [] h h'->h.size<=f->h.size<=bx->h.size<=by_->f<h'.size->bx<h'.size->by_<h'.size->f≠bx->f≠by_->bx≠by_->K (au (aw f)) h'):
  Cl 177 [au (aw d)] h K:=by
 apply F177.spec;exact Gk λf bx by_ h' a b c e g i j k l m o=>aR rfl (hK f bx by_ h' a b c e g i j k l m o)
def zE(hK: ∀f bx by_ h',cG h' f d bx by_ ⟨0,0,0,11,false,false⟩->aM [] h h'->h.size<=f->h.size<=bx->h.size<=by_->f<h'.size->bx<h'.size->by_<h'.size->f≠bx->f≠by_->bx≠by_->K (au (aw f)) h'):
  Cl 178 [au (aw d)] h K:=by
 apply F178.spec;exact Hu λf bx by_ h' a b c e g i j k l m o=>aR rfl (hK f bx by_ h' a b c e g i j k l m o)
def iX(A:Dc):Int:=if A.done&&A.ok then A.v else 0
def jp(A:Dc):Bool:=A.done&&A.ok
def xk(H:cG h f d bx by_ A)(hK:K (.tuple #[aq (iX A),aD (jp A)]) h):Cl 141 [au (aw f)] h K:=by
 apply F141.spec;simp only[aL,Nat.zero_add];unfold iX jp at hK;refine aY (n:=A.done) (by rw[H.act.rd];rfl) (aT (λe=> ?_) λe=>aY (n:=A.ok) (by rw[H.act.rd];rfl) (aT (λe'=> ?_) λe'=>aI (n:=A.v) (by rw[H.act.rd];rfl) ?_))
 ·have e:A.done=false:=by simpa using e
  simpa[e]using hK
 ·have e:A.done=true:=by simpa using e
  have e':A.ok=false:=by simpa using e'
  simpa[e,e']using hK
 ·have e:A.done=true:=by simpa using e
  have e':A.ok=true:=by simpa using e'
  simpa[e,e']using hK
def m9{k:Int}(h0:1<=k)(h1:k<1000000)(hK:K (al (k+2)) h):Cl 90 [al k] h K:=by apply F90.spec;rw[decide_eq_false ah,aJ,wrap_i64 ah ah];exact hK
def ut(M:bu h m mc cs ops fails)(hn:1<=n)(hn2:n<=256)(hb:base+2+n<=cs.length)(hc:cs.length<100000)
  (hK: ∀c h',pV h' c m base n->aM [] h h'->h.size<=c->K (.tuple #[au (aw c),al 0]) h'):
  Cl 88 [au (aw m),al (base:Int),al (n:Int)] h K:=by
 apply F88.spec;rw[decide_eq_false ah,aJ,decide_eq_false ah,aJ,decide_eq_false ah,aJ];refine iq M (aI rfl ?_);rw[decide_eq_false ah,aJ];refine m9 ah ah (aI rfl (iq M (aI rfl ?_)));rw[wrap_i64 ah ah,decide_eq_false ah,aJ];exact aV λh1 A1 O1 z1=>hK h.size h1 A1 O1 (Nat.le_refl _)
end
end
section
variable {i j k l m n o p q r s t:Int}{a b c d:Addr}{u v:Nat}{x y:az}{h:aH}{K:KK}
def F34.T:bj:=⟨[(3,[5,14,15])],[]⟩
section
variable (n:Nat)(f:Addr)(d:Int)(c:Addr)(a b:Int)(h:aH)(K:KK)
def F34.wL3:Prop:=Lp Tryz.f34 F34.T [1,1,0,1,0] n [(5,(au c)),(14,(al a)),(15,(al b))] h K
def F34.sL3:F34.wL3 (n+1) c a b h K=(aK (b<a) (Cl 90 [al 64] h λd e=>aQ .i64 (some d) λd=>Cl 89 [al d] e λd e=>ba (some d) λd=>Cl 88 [aA d,al 0,al 64] e λd e=> ∃f:az,∃g:Int,d=(.tuple #[aA f,al g])/\cv (rd e (c.add 1)) λd g i=>a9 e (.cells #[aA f,al 0] 166) λe f=>a9 f (.cells #[au (aw e)] 164) λe f=>fB f 164 1 8 #[aA none] d g i (some (aw e)) 1 λd e f g=>aW g ((c.add 1).add 0) (.slice d e f) λd=>F34.wL3 n c a (ax (b+1)) d K) (K (au c) h)):=by kernel_rfl
def F34.wk3:Prop:=(∃d,F34.wL3 d c a b h K)
def F34.spec(H:a9 h (.map #[] 0) λa b=>a9 b (.cells #[au f,.slice none 0 0,.map (some a),al 0,al 0] 157) λa b=>F34.wk3 (aw a) (if 4<(if 1>d then 1 else d)then 4 else(if 1>d then 1 else d)) 0 b K):Cl 34 [au f,al d] h K:=cT F34.T Tryz.func34 H
end
def F68.spec(H:cv (rd h (a.add 1)) λ_ a _=>K (al (a:Int)) h):Cl 68 [au a] h K:=cN Tryz.func68 H
def F92.T:bj:=⟨[(2,[0,4]),(3,[0])],[]⟩
section
variable (n:Nat)(a:Addr)(b:Value)(h:aH)(K:KK)
def F92.wk3:Prop:=Cl 141 [au a] h λa b=> ∃c:Int,∃d:Bool,a=(.tuple #[aq c,aD d])/\K (.tuple #[aq c,aD d]) b
def F92.wL2:Prop:=Lp Tryz.f92 F92.T [1,0,1,0] n [(0,(au a)),(4,b)] h K
def F92.sL2:F92.wL2 (n+1) a b h K=(eV Tryz.prog X b [] h λc d=>bI (some c) λc=>aK (!c) (F92.wL2 n a b d K) (F92.wk3 a d K)):=by kernel_rfl
def F92.wk2:Prop:=(∃c,F92.wL2 c a b h K)
def F92.spec(H:F92.wk2 a (.func (.func 140) #[au a] #[]) h K):Cl 92 [au a] h K:=cT F92.T Tryz.func92 H
end
def F35.T:bj:=⟨[],[(1,[[(0,[]),(1,[]),(2,[]),(3,[]),(4,[]),(5,[]),(6,[]),(7,[]),(8,[]),(9,[]),(10,[])]]),(7,[[(0,[]),(1,[]),(2,[]),(3,[]),(4,[]),(5,[]),(6,[]),(7,[]),(8,[]),(9,[])]]),(8,[[(0,[]),(1,[]),(2,[]),(3,[]),(4,[]),(5,[]),(6,[]),(7,[]),(8,[]),(9,[]),(10,[]),(11,[]),(12,[]),(13,[]),(14,[]),(15,[]),(16,[]),(17,[]),(18,[]),(19,[]),(20,[]),(21,[]),(22,[]),(23,[]),(24,[]),(25,[])]])]⟩
def F35.spec(H:a9 h (.cells #[al i,ap j,ap k,ap l,.int .u8 m] 66) λb c=>ba (rd c (a.add 0)) λd=>aQ .i64 (rd c ((aw b).add 0)) λe=>aQ .u32 (rd c ((aw b).add 1)) λf=>aQ .u32 (rd c ((aw b).add 2)) λg=>aQ .u32 (rd c ((aw b).add 3)) λi=>aQ .u8 (rd c ((aw b).add 4)) λb=>Cl 91 [aA d,.agg #[al e,ap f,ap g,ap i,.int .u8 b]] c λb c=> ∃d:az,∃e:Int,b=(.tuple #[aA d,al e])/\aK (e !=0) (K (.tuple #[al 0,al e]) c) (bK (rd c (a.add 2)) λb=>dl b λb=> ∃e f,mp c b=some (e,f)/\aK ((Nat.cast (Array.size e):Int)>=(64:Int)) (K (.tuple #[al 0,al 60]) c) (aQ .i64 (rd c (a.add 3)) λb=>aW c ((a.add 3).add 0) (al (ax (b+1))) λb=>bK (rd b (a.add 2)) λc=>aQ .i64 (rd b (a.add 3)) λe=>lO b c .i64 .i64 e (aA d) λb=>cv (rd b (a.add 1)) λc d _=>aQ .i64 (rd b (a.add 3)) λe=>cv (rd b (a.add 1)) λ_ f _=>(f:Int)≠0/\bf c λc=>0<=(Int.tmod e (f:Int))/\(Int.tmod e (f:Int))<(d:Int)/\ba (rd b (c.add ((Int.tmod e (f:Int)).toNat*1))) λc=>bf c λc=>ba (rd b (c.add 0)) λc=>aQ .i64 (rd b (a.add 3)) λd=>Cl 93 [aA c,aq (IntKind.wrap .u64 d)] b λb c=>ba (some b) λb=>Cl 92 [aA b] c λb c=> ∃d:Int,∃e:Bool,b=(.tuple #[aq d,aD e])/\aQ .i64 (rd c (a.add 3)) λa=>K (.tuple #[al a,al 0]) c))):Cl 35 [au a,.agg #[al i,ap j,ap k,ap l,.int .u8 m]] h K:=cT F35.T Tryz.func35 H
def F129.spec(H:ba (rd h (a.add 0)) λb=>Cl 177 [aA b] h λb c=>ba (some b) λb=>Cl 92 [aA b] c λb c=> ∃d:Int,∃e:Bool,b=(.tuple #[aq d,aD e])/\aK e (aW c ((a.add 1).add 0) (al (ax d)) λa=>K (aD e) a) (K (aD e) c)):Cl 129 [au a] h K:=cN Tryz.func129 H
def F130.T:bj:=⟨[(3,[0,1,2,7,17,18])],[(5,[[(0,[]),(1,[]),(2,[]),(3,[]),(4,[]),(5,[]),(6,[]),(7,[]),(8,[]),(9,[]),(10,[]),(11,[]),(12,[]),(13,[]),(14,[]),(15,[]),(16,[]),(17,[])]])]⟩
section
variable (n:Nat)(d g:Addr)(f a c b:Int)(h:aH)(K:KK)
def F130.wL3:Prop:=Lp Tryz.f130 F130.T [1,1,0,1,0] n [(0,(au d)),(1,(au g)),(2,(al f)),(7,(al a)),(17,(al c)),(18,(al b))] h K
def F130.sL3:F130.wL3 (n+1) d g f a c b h K=(aK (b<c) (cv (rd h (d.add 1)) λe i _=>a≠0/\a≠0/\a≠0/\bf e λe=>0<=(Int.tmod (ax ((Int.tmod (ax ((Int.tmod f a)+b)) a)+a)) a)/\(Int.tmod (ax ((Int.tmod (ax ((Int.tmod f a)+b)) a)+a)) a)<(i:Int)/\ba (rd h (e.add ((Int.tmod (ax ((Int.tmod (ax ((Int.tmod f a)+b)) a)+a)) a).toNat*1))) λe=>EX Tryz.prog h 164 (aA e) (au g) λi=>aK i (F130.wL3 n d g f a c (ax (b+1)) h K) (bf e λe=>ba (rd h (e.add 0)) λe=>Cl 178 [aA e] h λe i=>ba (some e) λe=>Cl 92 [aA e] i λe i=> ∃j:Int,∃k:Bool,e=(.tuple #[aq j,aD k])/\aK k (aW i ((g.add 1).add 0) (al (ax j)) λa=>aQ .i64 (rd a (d.add 4)) λb=>aW a ((d.add 4).add 0) (al (ax (b+1))) λa=>K aC a) (F130.wL3 n d g f a c (ax (b+1)) i K))) (K aB h)):=by kernel_rfl
def F130.wk3:Prop:=(∃e,F130.wL3 e d g f a c b h K)
def F130.spec(H:cv (rd h (d.add 1)) λ_ a _=>F130.wk3 d g f (a:Int) (a:Int) 0 h K):Cl 130 [au d,au g,al f] h K:=cT F130.T Tryz.func130 H
end
def F81.T:bj:=⟨[],[(6,[[(0,[]),(1,[]),(2,[]),(3,[]),(4,[]),(5,[]),(6,[]),(7,[]),(8,[]),(9,[]),(10,[])]])]⟩
def F81.spec(H:aK (i<0) (K aB h) (cv (rd h (a.add 1)) λ_ b _=>aK (i>=(b:Int)) (K aB h) (cv (rd h (a.add 1)) λb c _=>bf b λb=>0<=i/\i<(c:Int)/\ba (rd h (b.add (i.toNat*1))) λb=>bf b λc=>aQ .i64 (rd h (c.add 1)) λc=>aK (c==0) (Cl 129 [aA b] h λc d=>bI (some c) λc=>aK (!c) (Cl 130 [au a,aA b,al j] d λa b=>bI (some a) λa=>K (aD a) b) (bK (rd d (a.add 2)) λa=>bf b λc=>aQ .i64 (rd d (c.add 1)) λc=>dP d a .i64 .i64 c λa=>ba (some (kE (aA none) a)) λa=>Cl 114 [aA a] d λa c=>bI (some a) λa=>aK a (bf b λa=>aW c ((a.add 1).add 0) (al 0) λa=>K aC a) (K aC c))) (bK (rd h (a.add 2)) λa=>bf b λc=>aQ .i64 (rd h (c.add 1)) λc=>dP h a .i64 .i64 c λa=>ba (some (kE (aA none) a)) λa=>Cl 114 [aA a] h λa c=>bI (some a) λa=>aK a (bf b λa=>aW c ((a.add 1).add 0) (al 0) λa=>K aC a) (K aC c))))):Cl 81 [au a,al i,al j] h K:=cT F81.T Tryz.func81 H
def F39.spec(H:bK (rd h (a.add 2)) λa=>dP h a .i64 .i64 i λa=>ba (some (kE (aA none) a)) λa=>aK (!(Option.isNone a)) (Cl 95 [aA a] h λa b=>bI (some a) λa=>K (aD a) b) (K aB h)):Cl 39 [au a,al i] h K:=cN Tryz.func39 H
def F38.spec(H:Cl 39 [au a,al i] h λb c=>bI (some b) λb=>aK (!b) (K (.tuple #[ap 0,al 61]) c) (bK (rd c (a.add 2)) λa=>dP c a .i64 .i64 i λa=>ba (some (kE (aA none) a)) λa=>Cl 94 [aA a] c λa b=> ∃c:Int,∃d:Int,a=(.tuple #[ap c,al d])/\K (.tuple #[ap c,al d]) b)):Cl 38 [au a,al i] h K:=cN Tryz.func38 H
def F36.spec(H:Cl 39 [au a,al i] h λb c=>bI (some b) λb=>aK b (bK (rd c (a.add 2)) λa=>xo c a .i64 .i64 i λa=>K (aD b) a) (K (aD b) c)):Cl 36 [au a,al i] h K:=cN Tryz.func36 H
def F173.T:bj:=⟨[(3,[0,3,11,12,13])],[]⟩
section
variable (n:Nat)(l:Addr)(j:az)(i g:Nat)(b:az)(a d:Nat)(f c:Int)(h:aH)(K:KK)
def F173.wL3:Prop:=Lp Tryz.f173 F173.T [1,1,0,1,0] n [(0,(au l)),(3,(.slice j i g)),(11,(.slice b a d)),(12,(al f)),(13,(al c))] h K
def F173.sL3:F173.wL3 (n+1) l j i g b a d f c h K=(aK (c<f) (bf b λe=>0<=c/\c<(a:Int)/\aQ .i64 (rd h (e.add (c.toNat*1))) λe=>bK (rd h (l.add 2)) λk=>dP h k .i64 .i64 e λe=>ba (some (kE (aA none) e)) λe=>Cl 217 [aA e] h λe k=>cv (some e) λe m _=>fB k 46 1 4 #[ap 0] j i g e m λe g i j=>F173.wL3 n l e g i b a d f (ax (c+1)) j K) (K (.slice j i g) h)):=by kernel_rfl
def F173.wk3:Prop:=(∃e,F173.wL3 e l j i g b a d f c h K)
def F173.spec(H:bK (rd h (l.add 2)) λa=>Cl 216 [.map a] h λa b=>lI (some a) λa=>Cl 215 [a] b λa b=>cv (some a) λa c d=>F173.wk3 l none 0 0 a c d (c:Int) 0 b K):Cl 173 [au l] h K:=cT F173.T Tryz.func173 H
end
end
section
def wX(f:Nat):Value:= .func (.func 140) #[au (aw f)] #[]
def GH:bZ X 140=some cY.go:=by kernel_rfl
structure DS(base n:Nat)(cs:List Int)(T:Nat)(q:List Int):Prop where
 top:cs.getD base 0=T
 bot:cs.getD (base+1) 0=((T+q.length:Nat):Int)
 len:q.length<=n
 val: ∀i,i<q.length->cs.getD (base+2+(T+i)%n) 0=q.getD i 0
def yA(base n x:Nat):dC base n (x:Int)=base+2+x%n:=by
 unfold dC;rw[Int.tmod_eq_emod_of_nonneg ah]
 congr 1
def bF{l:List Int}{i j:Nat}{v:Int}(hi:i<l.length):(l.set i v).getD j 0=if i=j then v else l.getD j 0:=by
 by_cases h:i=j
 ·subst h;simp[hi]
 ·simp[List.getD,h]
section
variable {h h0:aH}{f d bx by_ m mc base n:Nat}{cs:List Int}{ops fails:Int}{K:KK}{A:Dc}
def zg{g:Nat}(hi:True)(W:DW h d m mc base n cs ops fails)(H:cG h f d bx by_ A)(d1:f≠d)(d2:f≠m)(d3:f≠mc)(hph:A.ph<=14)(hp1:A.ph=2\/A.ph=7->0<=A.b)(hp2:A.ph=13->0<=A.t)
  (hD:(bR base n cs A).1.done=true-> ∀h' ops' fails',DW h' d m mc base n (bR base n cs A).2 ops' fails'->aM [f,m,mc] h h'->K (.tuple #[aq (iX (bR base n cs A).1),aD (jp (bR base n cs A).1)]) h')
  (hN:(bR base n cs A).1.done=false-> ∀h' ops' fails',cG h' f d bx by_ (bR base n cs A).1->DW h' d m mc base n (bR base n cs A).2 ops' fails'->aM [f,m,mc] h h'->F92.wL2 g (aw f) (wX f) h' K):
  F92.wL2 (g+1) (aw f) (wX f) h K:=by
 rw[F92.sL2];unfold wX;refine bE GH (yo W H d1 d2 d3 hph hp1 hp2 λh1 fails1 H1 W1 O1=>aY rfl ?_);cases hd:(bR base n cs A).1.done with
 |true=>
  rw[Bool.not_true,aJ];unfold F92.wk3;exact xk H1 ⟨_,_,rfl,hD hd h1 _ _ W1 O1⟩
 |false=>
  rw[Bool.not_false,aO];exact hN hd h1 _ _ H1 W1 O1
def fF{g:Nat}{A':Dc}{cs':List Int}(e:bR base n cs A=(A',cs'))(hi:True)(W:DW h d m mc base n cs ops fails)(H:cG h f d bx by_ A)(d1:f≠d)(d2:f≠m)(d3:f≠mc)(hph:A.ph<=14)(hp1:A.ph=2\/A.ph=7->0<=A.b)(hp2:A.ph=13->0<=A.t)(hd:A'.done=false)
  (hN: ∀h' ops' fails',cG h' f d bx by_ A'->DW h' d m mc base n cs' ops' fails'->aM [f,m,mc] h h'->F92.wL2 g (aw f) (wX f) h' K):
  F92.wL2 (g+1) (aw f) (wX f) h K:=by
 refine zg hi W H d1 d2 d3 hph hp1 hp2 (λh'=> ?_) λ_=> ?_
 ·rw[e,hd]at h';cases h'
 ·rw[e];exact hN
def iE{g:Nat}{A':Dc}{cs':List Int}(e:bR base n cs A=(A',cs'))(hi:True)(W:DW h d m mc base n cs ops fails)(H:cG h f d bx by_ A)(d1:f≠d)(d2:f≠m)(d3:f≠mc)(hph:A.ph<=14)(hp1:A.ph=2\/A.ph=7->0<=A.b)(hp2:A.ph=13->0<=A.t)(hd:A'.done=true)
  (hD: ∀h' ops' fails',DW h' d m mc base n cs' ops' fails'->aM [f,m,mc] h h'->K (.tuple #[aq (iX A'),aD (jp A')]) h'):
  F92.wL2 (g+1) (aw f) (wX f) h K:=by
 refine zg hi W H d1 d2 d3 hph hp1 hp2 (λ_=> ?_) λh'=> ?_
 ·rw[e];exact hD
 ·rw[e,hd]at h';cases h'
def kT(base n:Nat)(cs cs':List Int):Prop:=cs'.length=cs.length/\ ∀x,x<base\/base+2+n<=x->cs'.getD x 0=cs.getD x 0
def BG{v:Int}{T:Nat}{q:List Int}(W:DW h d m mc base n cs ops fails)(S:DS base n cs T q)(hT:T+q.length<1000000000)(H:cG h f d bx by_ ⟨v,0,0,0,false,false⟩)(d1:f≠d)(d2:f≠m)(d3:f≠mc)
  (hK: ∀h' ops' fails' cs',(q.length<n->DS base n cs' T (q++[v]))->(¬q.length<n->cs'=cs)->kT base n cs cs'->DW h' d m mc base n cs' ops' fails'->aM [f,m,mc] h h'->K (.tuple #[aq (if q.length<n then v else 0),aD (decide (q.length<n))]) h'):
  Cl 92 [au (aw f)] h K:=by
 apply F92.spec;unfold F92.wk2;have hb:ax (cs.getD (base+1) 0)=((T+q.length:Nat):Int):=by rw[S.bot,wrap_i64 ah ah]
 have ht:ax (cs.getD base 0)=(T:Int):=by rw[S.top,wrap_i64 ah ah]
 have hl:=W.hl;have hn:=W.hn;refine⟨4,?_⟩
 refine fF (A':=⟨v,0,((T+q.length:Nat):Int),1,false,false⟩) (cs':=cs) (by unfold bR;simp only[Bool.false_eq_true,if_false,hb]) (by decide) W H d1 d2 d3 ak ak ak rfl λh1 o1 f1 H1 W1 O1=> ?_
 have hw:ax (((T+q.length:Nat):Int)-(T:Int))=(q.length:Int):=by rw[wrap_i64 ah ah];omega
 by_cases hlt:q.length<n
 ·have e1:bR base n cs ⟨v,0,((T+q.length:Nat):Int),1,false,false⟩=(⟨v,T,((T+q.length:Nat):Int),2,false,false⟩,cs):=by
   unfold bR;simp only[Bool.false_eq_true,if_false,ht,hw];rw[decide_eq_false ah];simp
  refine fF e1 (by decide) W1 H1 d1 d2 d3 ak ak ak rfl λh2 o2 f2 H2 W2 O2=> ?_;refine fF (A':=⟨v,T,((T+q.length:Nat):Int),3,false,false⟩) (cs':=cs.set (dC base n ((T+q.length:Nat):Int)) v) (by simp[bR]) (by decide) W2 H2 d1 d2 d3 ak (λ_=>by show(0:Int)<=((T+q.length:Nat):Int);omega) ak rfl λh3 o3 f3 H3 W3 O3=> ?_
  refine iE (A':=⟨v,T,((T+q.length:Nat):Int),3,true,true⟩) (cs':=(cs.set (dC base n ((T+q.length:Nat):Int)) v).set (base+1) (((T+q.length+1:Nat):Int))) (by unfold bR;simp only[Bool.false_eq_true,if_false];rw[wrap_i64 ah ah,cd ah ah];simp) (by decide) W3 H3 d1 d2 d3 ak ak ak rfl λh4 o4 f4 W4 O4=> ?_
  have P:=((O1.trans O2 λb hb _=>hb).trans O3 λb hb _=>hb).trans O4 λb hb _=>hb;have hs:=yA base n (T+q.length);have hm:(T+q.length)%n<n:=Nat.mod_lt _ ah;have:=hK h4 o4 f4 _ (λ_=> ?_) (λh=>absurd hlt h) ?_ W4 P
  ·rw[if_pos hlt,decide_eq_true hlt]at this;simpa[iX,jp]using this
  ·rw[hs];refine⟨?_,?_,by simp;omega,λi hi=> ?_⟩
   ·rw[bF (by simp;omega),if_neg ah,bF ah,if_neg ah];exact S.top
   ·rw[bF (by simp;omega),if_pos rfl];simp;omega
   ·rw[bF (by simp;omega),if_neg ah,bF ah];simp at hi;by_cases hi':i=q.length
    ·subst hi';rw[if_pos rfl];simp[List.getD]
    ·have hi2:i<q.length:=ah
     have hne: ¬base+2+(T+q.length)%n=base+2+(T+i)%n:=by intro e;have e:(T+q.length)%n=(T+i)%n:=ah;have h1:=Nat.sub_mod_eq_zero_of_mod_eq e;rw[show T+q.length-(T+i)=q.length-i by omega,Nat.mod_eq_of_lt ah]at h1;omega
     rw[if_neg hne,S.val i hi2];simp only[List.getD,List.getElem?_append_left hi2]
  ·rw[hs];refine⟨ak,λx hx=> ?_⟩;rw[bF (by simp;omega),if_neg ah,bF ah,if_neg ah]
 ·have e1:bR base n cs ⟨v,0,((T+q.length:Nat):Int),1,false,false⟩=(⟨v,T,((T+q.length:Nat):Int),2,true,false⟩,cs):=by
   unfold bR;simp only[Bool.false_eq_true,if_false,ht,hw];rw[decide_eq_true ah];simp
  refine iE e1 (by decide) W1 H1 d1 d2 d3 ak ak ak rfl λh2 o2 f2 W2 O2=> ?_;have:=hK h2 o2 f2 cs (λh=>absurd h hlt) (λ_=>rfl) ⟨rfl,λ_ _=>rfl⟩ W2 (O1.trans O2 λb hb _=>hb);rw[if_neg hlt,decide_eq_false hlt]at this;simpa[iX,jp]using this
end
end
end Go.Proofs.YtnofenejoebkhaaGreat.Ev
