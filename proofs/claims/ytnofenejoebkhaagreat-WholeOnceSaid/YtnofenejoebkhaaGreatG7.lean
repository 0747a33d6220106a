/- PART 7 OF WHAT THE LAW WholeOnce STANDS ON. Conditions: none but those that each lemma states. -/
import Derived.Test.YtnofenejoebkhaaGreatG6
namespace Go.Proofs.YtnofenejoebkhaaGreat.Ev
open Go
set_option linter.defProp false
set_option maxRecDepth 100000
set_option autoImplicit true
set_option relaxedAutoImplicit true
structure EG where
 E:gN
 n:Nat
 room:Nat
 fo:Nat->Nat
 gg:Nat->Nat
 off:Bool
 N:ay
 P:PS
 L:List Nat
 B:List Nat
 M:Nat
 f:Int->Int
structure db(h:aI)(e:Nat)(G:EG):Prop where
 W:yi h G.E.p G.E.s G.n G.room G.fo G.gg G.off G.N G.P G.L
 R:qq h G.E.r G.M G.f G.B
 I:dy h e G.E
 C:kV G.f G.E
 de:e∉G.L/\(¬dI G.E.p G.P e)/\e∉G.B
 dB: ∀b∈G.B,b∉G.L/\ ¬dI G.E.p G.P b
 rg: ∀i,i<4-> ∀r,r<6->(G.E.ses i).there r=true->isN G.N ((G.E.ses i).hnd r)
 r0: ∀i,i<4-> ∀r,r<6->(G.E.ses i).there r=false->(G.E.ses i).hnd r=0
 mq: ∀i,i<4->(G.E.ses i).cal.mask<256
 po:cF G.n G.fo G.gg
def mF(e:Nat)(G:EG):List Nat:=e::(G.L++(G.B++FS G.E.p G.P))
structure bD(e:Nat)(G:EG)(h:aI)(G':EG)(h':aI):Prop where
 O: ∀T,(∀b∈mF e G,b∈T)->aM T h h'
 B: ∀b∈mF e G',b∈mF e G\/h.size<=b
def bq:b∈mF e G↔b=e\/b∈G.L\/b∈G.B\/dI G.E.p G.P b:=by simp only[mF,List.mem_cons,List.mem_append,gj]
def bD.refl:bD e G h G h:=⟨λT _=>aM.refl _ _,λb hb=> .inl hb⟩
def bD.size{h h':aI}(a:bD e G h G' h'):h.size<=h'.size:=(a.O (mF e G) λb hb=>hb).size
def bD.trans(a:bD e G h G' h')(b:bD e G' h' G'' h''):bD e G h G'' h'':=by
 have hz:=a.size;refine⟨λT hT=>(a.O T hT).trans (b.O (mF e G') λx hx=>hx) λx hx hl=> ?_,λx hx=> ?_⟩
 ·rcases a.B x hx with h|h
  ·exact hT x h
  ·omega
 ·rcases b.B x hx with h|h
  ·exact a.B x h
  ·exact .inr ah
def bD.only0(O:aM [] h h'):bD e G h G h':=⟨λT _=>O.mono ak,λb hb=> .inl hb⟩
def bD.only{h0:aI}(a:bD e G h G' h')(O:aM [] h0 h)(hb: ∀b∈mF e G,h0.size<=b):aM [] h0 h':=
 O.trans (a.O (mF e G) λb hb=>hb) λb c hl=>by have:=hb b c;omega
def bD.ge{h:aI}(a:bD e G h G' h')(hz:z<=h.size)(hb: ∀b∈mF e G,z<=b): ∀b∈mF e G',z<=b:=λb c=>by
 rcases a.B b c with h|h
 ·exact hb b h
 ·omega
def bD.some(O:aM S h h')(hS: ∀b∈S,b∈mF e G)(hb: ∀b∈mF e G',b∈mF e G):bD e G h G' h':=⟨λ_ hT=>O.mono λb hb _=>hT b (hS b hb),λb h=> .inl (hb b h)⟩
def db.only0(W:db h e G)(O:aM [] h h'):db h' e G:=⟨W.W.only0 O,W.R.only0 O,W.I.only0 O,W.C,W.de,W.dB,W.rg,W.r0,W.mq,W.po⟩
def db.lt{h:aI}(W:db h e G): ∀b∈mF e G,b<h.size:=λb hb=>by
 rcases bq.1 hb with hb|hb|hb|hb
 ·subst hb;exact At.lt W.I
 ·exact W.W.S.lt b hb
 ·exact W.R.lt b hb
 ·exact W.W.H.lt b hb
def yi.only{h h':aI}{p s n room:Nat}{fo gg:Nat->Nat}{off:Bool}{N:ay}{P:PS}{L S:List Nat}(W:yi h p s n room fo gg off N P L)(O:aM S h h')(h1: ∀b∈S,b∉L)(h2: ∀b∈S,¬dI p P b):yi h' p s n room fo gg off N P L:=
 ⟨W.S.only O h1,W.H.only O h2,W.Ok,W.po,W.D⟩
def bX.ext(H:bX n fo N P)(ok:cY n N)(E:Ex N N'):bX n fo N' P/\fM n N' P=fM n N P:=by have em: ∀j∈P.jobs,_:=λj hj=>(H.mst j hj).1.same ok E;refine⟨⟨λj hj=>⟨(H.mst j hj).1.ext ok E,by rw[(em j hj).1,(em j hj).2.1];exact(H.mst j hj).2⟩,H.at_,H.one,H.loc,H.T,H.len,H.last,H.steals⟩,?_⟩;unfold fM;rw[NG λj hj=>(em j hj).2.2]
def oI{X:SX}(H:bV h s L X)(hK:K (ap (X.room:Int)) h):Cl 70 [bg s] h K:=by obtain⟨B,F,e,H⟩:=H;refine F70.spec ?_;exact aH (by rw[aL,At.rd H.m.S];rfl) hK
def CS{X:SX}(H:bV h s L X)(hv:v<X.n)(hg:X.g v<X.n)
  (hK: ∀h' L' N' r er,ig X.room X.N (X.g v) 0 1 N' r er->bV h' s L' {X with N:=N'}->aM L h h'->bH L L' h->K (.tuple #[aq (r:Int),ap (er:Int)]) h'):
  Cl 208 [bg s,ap (v:Int)] h K:=by
 have ok:=H.ok;refine F208.spec ?_;refine dX H λc h1 Or g1 O1=>aR rfl ?_;refine iD Or ok.2.2.1 hv (aH rfl ?_);have H1:=H.only0 O1;have e0:lvl X.n X.N 0=X.n:=by unfold lvl;rw[MK ah]
 have e1:lvl X.n X.N 1=X.n:=by unfold lvl;rw[MK ah]
 refine va H1 (l:=X.g v) (a:=0) (b:=1) hg (.inl ah) (.inl ah) (by rw[e0];exact hg) (by rw[e1];exact hg) λh2 L2 N2 r er R S2 O2 F2=>⟨_,_,rfl,?_⟩
 exact hK h2 L2 N2 r er R S2 ((O1.mono ak).trans O2 λb hb _=>hb) λb hb=>by
  rcases F2 b hb with q|q
  ·exact .inl q
  ·exact .inr (by have:=O1.size;omega)
def F6{h:aI}(h1:1<=n)(h8:n<=8)(r1:1<=room)(r2:room<=32768)
  (hK: ∀h' e G,db h' e G->G.E.ses=(wg 0 0 0).ses->G.E.ans=0->G.n=n->G.room=room->G.fo=fill n->G.gg=fill n->G.off=false->G.N=[]->G.P.jobs=[]->G.P.ws.length=CG x->locs G.P.ws=[]->G.P.last=0->G.M=0->(∀b∈mF e G,h.size<=b)->aM [] h h'->K (.tuple #[bg e,ap 0]) h'):
  Cl 18 [ap (n:Int),ap (room:Int),ap x] h K:=by
 refine F18.spec ?_;refine DC (Q:=QL n (fill n) []) h1 h8 r1 r2 λk1 s L S1 O1 g1=>⟨_,_,rfl,?_⟩;have S1:bV k1 s L (XL n room (fill n) (fill n) [] false):=S1;rw[show((0:Int) !=0)=false from rfl,aJ];refine IQ (s:=s) (x:=x) λk2 p P H2 e1 e2 e3 e4 e5 g2 O2=>aR rfl ?_;refine rG H2 (aH rfl ?_);refine Ia λk3 r B R3 g3 O3=>aR rfl ?_;refine aX λk4 A4 O4 z4=> ?_;have wl:=Ah x;obtain⟨Ok,lo,ql⟩:=we (n:=n) (fo:=fill n) (N:=[]) (P:=P) ah e2 e3 e4 e5;have z1:=O1.size;have z2:=O2.size;have z3:=O3.size;have hL:=S1.lt;have hP:=H2.lt;have hB:=R3.lt;have W2:yi k2 p s n room (fill n) (fill n) false [] P L:=⟨S1.only0 O2,H2,Ok,q9 n,λb hb hm=>by have:=g2 b hb;have:=hL b hm;omega⟩;have W4:=(W2.only0 O3).only0 O4;have R4:=R3.only0 O4;have I4:dy k4 k3.size (wg s p r):=A4;refine hK k4 k3.size ⟨wg s p r,n,room,fill n,fill n,false,[],P,L,B,0,λ_=>0⟩ ⟨W4,R4,I4,IV s p r,⟨λhm=>by have:=hL _ hm;omega,λhm=>by have:=hP _ hm;omega,λhm=>by have:=hB _ hm;omega⟩,λb hb=>⟨λhm=>by have:=hL b hm;have:=g3 b hb;omega,λhm=>by have:=hP b hm;have:=g3 b hb;omega⟩,λi hi r hr ht=>(by cases ht),λi hi r hr ht=>rfl,λi hi=>(by show 0<256;omega),q9 n⟩ rfl rfl rfl rfl rfl rfl rfl rfl e2 e1 lo e4 rfl (λb hb=> ?_) (((O1.trans O2 ak).trans O3 ak).trans O4 ak);rcases bq.1 hb with hb|hb|hb|hb
 ·subst hb;omega
 ·exact g1 b hb
 ·have:=g3 b hb;omega
 ·have:=g2 b hb;omega
def gR(G:EG)(i:Nat)(er:Int)(n:Nat):EG:={G with E:={G.E.put i (iF (G.E.ses i) er n)with ans:=G.E.ans+1}}
def fR{E:gN}:(E.put i x).ses k=if k=i then x else E.ses k:=rfl
def pN{E E':gN}(hh: ∀k,(E'.ses k).there=(E.ses k).there/\(E'.ses k).hnd=(E.ses k).hnd)(x:Nat):lS E' x=lS E x:=by
 have:fL E' x=fL E x:=by funext k;unfold fL;rw[(hh (k/6)).1,(hh (k/6)).2]
 unfold lS;rw[this]
def dJ{h:aI}{e:Nat}{G:EG}{K:KK}{i:Nat}(W:db h e G)(hi:i<4){er:Int}{n:Nat}(ha:G.E.ans<1000000000)(hK: ∀h',db h' e (gR G i er n)->bD e G h (gR G i er n) h'->K aE h'):
  Cl 168 [bg e,au ⟨e,3+24*i,none⟩,.agg #[ap er,ar (n:Int)]] h K:=by
 refine vZ W.I hi ha λh' I' O'=> ?_
 have hs: ∀k,((gR G i er n).E.ses k).there=(G.E.ses k).there/\((gR G i er n).E.ses k).hnd=(G.E.ses k).hnd/\((gR G i er n).E.ses k).cal=(G.E.ses k).cal:=λk=>by
  show((G.E.put i (iF (G.E.ses i) er n)).ses k).there=_/\((G.E.put i (iF (G.E.ses i) er n)).ses k).hnd=_/\((G.E.put i (iF (G.E.ses i) er n)).ses k).cal=_;rw[fR];by_cases q:k=i
  ·rw[MK q,q];exact⟨rfl,rfl,rfl⟩
  ·rw[MG q];exact⟨rfl,rfl,rfl⟩
 refine hK h' ⟨W.W.only O' (λb hb=>by simp at hb;subst hb;exact W.de.1) (λb hb=>by simp at hb;subst hb;exact W.de.2.1),W.R.only O' (λb hb=>by simp at hb;subst hb;exact W.de.2.2),I',λx=> ?_,W.de,W.dB,λk hk r hr ht=> ?_,λk hk r hr ht=> ?_,λk hk=> ?_,W.po⟩ (bD.some O' (λb hb=>by simp at hb;subst hb;exact bq.2 (.inl rfl)) λb hb=>hb)
 ·rw[pN λk=>⟨(hs k).1,(hs k).2.1⟩];exact W.C x
 ·rw[(hs k).2.1];rw[(hs k).1]at ht;exact W.rg k hk r hr ht
 ·rw[(hs k).2.1];rw[(hs k).1]at ht;exact W.r0 k hk r hr ht
 ·rw[(hs k).2.2];exact W.mq k hk
def vd(G:EG)(i d v:Nat)(f':Int->Int):EG:={G with E:=G.E.put i (setS (G.E.ses i) d v),M:=G.M+2,f:=f'}
def vD{h:aI}{e:Nat}{G:EG}{K:KK}{i d v:Nat}(W:db h e G)(hi:i<4)(hd:d<6)(ed:(G.E.ses i).cal.dst=(d:Int))(hv:isN G.N v)(hM:G.M+1<=LB)
  (hK: ∀h' f',db h' e (vd G i d v f')->bD e G h (vd G i d v f') h'->K aE h'):Cl 167 [bg e,au ⟨e,3+24*i,none⟩,aq (v:Int)] h K:=by
 have lt:=W.W.S.isN_lt hv;refine Dm W.I W.R W.C W.de.2.2 hi hd ed ah hM λh' f' I' R' C' O'=> ?_
 have hS: ∀b∈e::G.B,b∉G.L/\ ¬dI G.E.p G.P b:=λb hb=>by
  rcases List.mem_cons.1 hb with q|q
  ·subst q;exact⟨W.de.1,W.de.2.1⟩
  ·exact W.dB b q
 refine hK h' f' ⟨W.W.only O' (λb hb=>(hS b hb).1) (λb hb=>(hS b hb).2),R',I',C',W.de,W.dB,λk hk r hr ht=> ?_,λk hk r hr ht=> ?_,λk hk=> ?_,W.po⟩ (bD.some O' (λb hb=> ?_) λb hb=>hb)
 ·have ht:((G.E.put i (setS (G.E.ses i) d v)).ses k).there r=true:=ht;show isN G.N (((G.E.put i (setS (G.E.ses i) d v)).ses k).hnd r);rw[fR]at ht ⊢;by_cases q:k=i
  ·rw[MK q]at ht ⊢;by_cases w:r=d
   ·subst w;rw[show(setS (G.E.ses i) r v).hnd r=v from dt];exact hv
   ·rw[show(setS (G.E.ses i) d v).hnd r=(G.E.ses i).hnd r from cO w];rw[show(setS (G.E.ses i) d v).there r=(G.E.ses i).there r from cO w]at ht;exact W.rg i hi r hr ht
  ·rw[MG q]at ht ⊢;exact W.rg k hk r hr ht
 ·have ht:((G.E.put i (setS (G.E.ses i) d v)).ses k).there r=false:=ht;show((G.E.put i (setS (G.E.ses i) d v)).ses k).hnd r=0;rw[fR]at ht ⊢;by_cases q:k=i
  ·rw[MK q]at ht ⊢;by_cases w:r=d
   ·subst w;rw[show(setS (G.E.ses i) r v).there r=true from dt]at ht;cases ht
   ·rw[show(setS (G.E.ses i) d v).hnd r=(G.E.ses i).hnd r from cO w];rw[show(setS (G.E.ses i) d v).there r=(G.E.ses i).there r from cO w]at ht;exact W.r0 i hi r hr ht
  ·rw[MG q]at ht ⊢;exact W.r0 k hk r hr ht
 ·show((G.E.put i (setS (G.E.ses i) d v)).ses k).cal.mask<256;rw[fR];by_cases q:k=i
  ·rw[MK q];exact W.mq i hi
  ·rw[MG q];exact W.mq k hk
 ·rcases List.mem_cons.1 hb with q|q
  ·subst q;exact bq.2 (.inl rfl)
  ·exact bq.2 (.inr (.inr (.inl q)))
def KQ(p:Nat->Bool)(k:Nat):List Nat:=(List.range k).filter p
def BY(p:Nat->Bool)(k:Nat):KQ p (k+1)=KQ p k++if p k then [k]else []:=by unfold KQ;rw[OD,NX];cases h:p k<;>simp[h]
def tN(p:Nat->Bool)(k:Nat):Nat:=(KQ p k).length
def CT(p:Nat->Bool):tN p 0=0:=rfl
def iO(p:Nat->Bool)(k:Nat):tN p (k+1)=tN p k+if p k then 1 else 0:=by unfold tN;rw[BY,MZ];cases p k<;>rfl
def eE: ∀{k:Nat},(∀x,x<k->p x=q x)->tN p k=tN q k
 |0,_=>rfl
 |k+1,h=>by rw[iO,iO,eE λx hx=>h x ah,h k ah]
def sA(p:Nat->Bool)(a:Nat): ∀b,tN p (a+b)=tN p a+tN (λx=>p (a+x)) b
 |0=>by rw[CT];rfl
 |b+1=>by rw[<-Nat.add_assoc,iO,sA p a b,iO];omega
def Az(p:Nat->Bool): ∀k,tN p k<=k
 |0=>MN _
 |k+1=>by have:=Az p k;rw[iO];split<;>omega
def EC(k:Nat):tN (λ_=>true) k=k:=by
 induction k with
 |zero=>rfl
 |succ k ih=>rw[iO,ih];rfl
def Cg(k:Nat):tN (λ_=>false) k=0:=by
 induction k with
 |zero=>rfl
 |succ k ih=>rw[iO,ih];rfl
def jC(h:x<2^n):x^^^2^n=2^n+x:=by
 refine Qg λi=> ?_;rw[Nat.testBit_xor,Qq];rcases Nat.lt_trichotomy i n with h1|h1|h1
 ·rw[Nat.testBit_two_pow_add_gt h1,MJ ah,Bool.xor_false]
 ·subst h1;rw[Nat.testBit_two_pow_add_eq,MP rfl,Bool.xor_true]
 ·have e:2^(n+1)<=2^i:=OG (by decide) h1;rw[OF]at e;rw[Ou (show x<2^i by omega),Ou (show 2^n+x<2^i by omega),MJ ah,Bool.xor_false]
def rX: ∀(n v:Nat) {p q:Nat->Bool},v<n->(∀x,x<2^n->p (x^^^2^v)=p x)->(∀x,x<2^n->q (x^^^2^v)=q x)->
  2*tN (λx=>if x.testBit v then q x else p x) (2^n)=tN p (2^n)+tN q (2^n)
 |0,v,p,q,hv,_,_=>ah
 |n+1,v,p,q,hv,hp,hq=>by
  have e:2^(n+1)=2^n+2^n:=by rw[OF];omega
  rw[e,sA,sA,sA];rcases Nat.lt_or_ge v n with h|h
  ·have cm: ∀x,x<2^n->2^n+(x^^^2^v)=(2^n+x)^^^2^v:=λx hx=>by
    have lt:x^^^2^v<2^n:=PE hx (Pq (by decide) h);rw[<-jC lt,<-jC hx,Nat.xor_assoc,Nat.xor_assoc,Nat.xor_comm (2^v)]
   have i1:=rX n v (p:=p) (q:=q) h (λx hx=>hp x ah) λx hx=>hq x ah;have i2:=rX n v (p:=λx=>p (2^n+x)) (q:=λx=>q (2^n+x)) h (λx hx=>by show p _=p _;rw[cm x hx,hp _ ah]) λx hx=>by show q _=q _;rw[cm x hx,hq _ ah]
   have e2:tN (λx=>if(2^n+x).testBit v then q (2^n+x)else p (2^n+x)) (2^n)=tN (λx=>if x.testBit v then q (2^n+x)else p (2^n+x)) (2^n):=
    eE λx _=>by rw[Nat.testBit_two_pow_add_gt h]
   rw[e2];omega
  ·have:v=n:=ah;subst this;have p2:tN (λx=>p (2^v+x)) (2^v)=tN p (2^v):=eE λx hx=>by rw[<-jC hx,hp x ah]
   have q2:tN (λx=>q (2^v+x)) (2^v)=tN q (2^v):=eE λx hx=>by rw[<-jC hx,hq x ah]
   have l1:tN (λx=>if x.testBit v then q x else p x) (2^v)=tN p (2^v):=eE λx hx=>by rw[Ou hx];rfl
   have l2:tN (λx=>if(2^v+x).testBit v then q (2^v+x)else p (2^v+x)) (2^v)=tN q (2^v):=eE λx hx=>by
    rw[Nat.testBit_two_pow_add_eq,Ou hx,<-jC hx,hq x ah]
    rfl
   rw[p2,q2,l1,l2];omega
def FX(n:Nat)(f:Nat->Nat):Prop:= ∀j,j<n->f j<n/\ ∀i,i<n->f i=f j->i=j
def xH(H:cY n N)(hf:FX n f): ∀(d:Nat) {a v x:Nat},n-lvl n N a<=d->isN N a->v<lvl n N a->sm n f N a (x^^^2^f v)=sm n f N a x:=by
 intro d
 induction d with
 |zero=>
  intro a v x hd ha hv
  have h2:a<2:=by apply MS;intro hn;have:=(H.at ha ah).1;omega
  rw[bC h2,bC h2]
 |succ d ih=>
  intro a v x hd ha hv;by_cases h2:a<2
  ·rw[bC h2,bC h2]
  ·obtain⟨h3,h4,h5,-,h6,h7⟩:=H.at ha ah;rw[cJ H ha ah,cJ H ha ah,ih ah h4 ah,ih ah h5 ah,Nat.testBit_xor,Qq,MJ λq=>(by have:=(hf _ h3).2 v ah q;omega),Bool.xor_false]
def tA(n:Nat)(f:Nat->Nat)(N:ay)(a:Nat):Nat:=tN (sm n f N a) (2^n)
def cA(n:Nat)(f:Nat->Nat)(N:ay)(a:Nat):Nat:=tA n f N a/2^lvl n N a
def xa(H:cY n N)(hf:FX n f)(ha:isN N a)(h2:2<=a):2*tA n f N a=tA n f N (low N a)+tA n f N (high N a):=by
 obtain⟨h3,h4,h5,-,h6,h7⟩:=H.at ha h2;unfold tA;rw[<-rX n (f (lvl n N a)) (hf _ h3).1 (λx _=>xH H hf n ah h4 h6) λx _=>xH H hf n ah h5 h7]
 congr 1
 refine eE λx _=> ?_;rw[cJ H ha h2]
def uk(h:a<2):tA n f N a=a*2^n:=by
 unfold tA;have:a=0\/a=1:=ah;rcases this with e|e<;>subst e
 ·rw[eE λx _=>bC h];rw[show(λ_:Nat=>((0:Nat)==1))=λ_=>false from rfl,Cg];omega
 ·rw[eE λx _=>bC h];rw[show(λ_:Nat=>((1:Nat)==1))=λ_=>true from rfl,EC];omega
def um(H:cY n N)(hf:FX n f): ∀(d:Nat) {a:Nat},n-lvl n N a<=d->isN N a->tA n f N a=cA n f N a*2^lvl n N a:=by
 intro d
 have base: ∀{a:Nat},a<2->tA n f N a=cA n f N a*2^lvl n N a:=λ{a} h=>by
  have e:lvl n N a=n:=by unfold lvl;rw[MK h]
  unfold cA;rw[uk h,e,Nat.mul_div_cancel _ (OC n)]
 induction d with
 |zero=>
  intro a hd ha;refine base ?_;apply MS;intro hn;have:=(H.at ha ah).1;omega
 |succ d ih=>
  intro a hd ha;by_cases h2:a<2
  ·exact base h2
  ·obtain⟨h3,h4,h5,-,h6,h7⟩:=H.at ha ah;have e:=xa H hf ha ah;rw[ih ah h4,ih ah h5]at e;obtain⟨u,hu⟩: ∃u,lvl n N (low N a)=lvl n N a+1+u:=⟨lvl n N (low N a)-lvl n N a-1,ah⟩;obtain⟨w,hw⟩: ∃w,lvl n N (high N a)=lvl n N a+1+w:=⟨lvl n N (high N a)-lvl n N a-1,ah⟩;rw[hu,hw,Pr _ _ u,Pr _ _ w,OF]at e
   have:tA n f N a=(cA n f N (low N a)*2^u+cA n f N (high N a)*2^w)*2^lvl n N a:=by
    generalize cA n f N (low N a)=p at e ⊢;generalize cA n f N (high N a)=q at e ⊢;generalize 2^u=r at e ⊢;generalize 2^w=s at e ⊢;generalize 2^lvl n N a=t at e ⊢;generalize tA n f N a=z at e ⊢
    have:p*(t*2*r)+q*(t*2*s)=2*((p*r+q*s)*t):=by
     rw[Ps,Nat.mul_add]
     congr 1
     ·rw[show t*2*r=2*(r*t) by rw[Ov t 2,Ol,Ov t r],PL,Ol]
     ·rw[show t*2*s=2*(s*t) by rw[Ov t 2,Ol,Ov t s],PL,Ol]
    omega
   unfold cA;rw[Nat.div_mul_cancel];exact⟨_,by rw[this,Ov]⟩
def BV(h:a<2):cA n f N a=a:=by
 have e:lvl n N a=n:=by unfold lvl;rw[MK h]
 unfold cA;rw[uk h,e,Nat.mul_div_cancel _ (OC n)]
def CL(H:cY n N)(hf:FX n f)(ha:isN N a)(h2:2<=a):
  cA n f N a=cA n f N (low N a)*2^(lvl n N (low N a)-lvl n N a-1)+cA n f N (high N a)*2^(lvl n N (high N a)-lvl n N a-1):=by
 obtain⟨h3,h4,h5,-,h6,h7⟩:=H.at ha h2;have e:=xa H hf ha h2;have t0:=um H hf n ah ha;rw[um H hf n ah h4,um H hf n ah h5,t0]at e;obtain⟨u,hu⟩: ∃u,lvl n N (low N a)=lvl n N a+1+u:=⟨lvl n N (low N a)-lvl n N a-1,ah⟩;obtain⟨w,hw⟩: ∃w,lvl n N (high N a)=lvl n N a+1+w:=⟨lvl n N (high N a)-lvl n N a-1,ah⟩;rw[hu,hw]at e ⊢;rw[show lvl n N a+1+u-lvl n N a-1=u by omega,show lvl n N a+1+w-lvl n N a-1=w by omega];rw[Pr _ _ u,Pr _ _ w,OF]at e;have b:=OC (lvl n N a);generalize cA n f N (low N a)=p at e ⊢;generalize cA n f N (high N a)=q at e ⊢;generalize 2^u=r at e ⊢;generalize 2^w=s at e ⊢;generalize 2^lvl n N a=t at e b;generalize cA n f N a=z at e ⊢
 have:p*(t*2*r)+q*(t*2*s)=2*((p*r+q*s)*t):=by
  rw[Ps,Nat.mul_add]
  congr 1
  ·rw[show t*2*r=2*(r*t) by rw[Ov t 2,Ol,Ov t r],PL,Ol]
  ·rw[show t*2*s=2*(s*t) by rw[Ov t 2,Ol,Ov t s],PL,Ol]
 exact Nat.eq_of_mul_eq_mul_right b ah
def zN(H:cY n N)(hf:FX n f)(ha:isN N a)(hk:k<=lvl n N a):cA n f N a*2^k<=2^n:=
 NK (OZ _ (OG (by decide) hk)) (by rw[<-um H hf n ah ha];exact Az _ _)
section
variable {i j k l m n o p q r s t:Int}{a b c d:Addr}{u v:Nat}{x y:az}{h:aI}{K:KK}
def F211.spec{a:Addr}(H:Cl 74 [au a,aq i] h λb c=>bP (some b) λb=>aK (!b) (K (.tuple #[ar 0,ap 101]) c) (bf c (.map #[] 0) λb c=>bf c (.cells #[aA none,.map none] 326) λc d=>aW d ((aw c).add 0) (au a) λd=>aW d ((aw c).add 1) (.map (some b)) λb=>a8 (rd b ((aw c).add 0)) λd=>bR (rd b ((aw c).add 1)) λc=>Cl 253 [.agg #[aA d,.map c],aq i] b λb c=>aQ .u64 (some b) λb=>Cl 71 [au a,aq i] c λa c=>aQ .i64 (some a) λa=>0<=a/\K (.tuple #[ar (IntKind.wrap .u64 (b*2^(min (a.toNat) (IntKind.bits .u64)))),ap 0]) c)):Cl 211 [au a,aq i] h K:=cN Tryz.func211 H
def F253.T:bi:=⟨[(8,[1,2,7,31,32]),(12,[1,2,7])],[(7,[[(0,[]),(1,[]),(2,[]),(4,[]),(5,[]),(6,[]),(9,[]),(3,[4,5,6,9]),(7,[9]),(8,[])]]),(10,[[(0,[]),(1,[]),(2,[]),(4,[]),(5,[]),(6,[]),(8,[]),(9,[]),(10,[]),(3,[0,4,5,6,8,9,10]),(7,[0,8,9,10]),(11,[0]),(12,[]),(13,[]),(14,[]),(15,[]),(16,[])]])]⟩
section
variable (n:Nat)(i:az)(j:Option Nat)(c:Int)(d:Addr)(g a b f:Int)(h:aI)(K:KK)
def F253.wL8:Prop:=Lp Tryz.f253 F253.T [1,1,1,1,0,1,0] n [(1,(aq c)),(2,(au d)),(7,(ar g)),(31,(.agg #[aq a,aq b])),(32,(ap f))] h K
def F253.JL8(A:Int->Addr->Int->Int->Int->Int->aI->Prop)(z:Int->Addr->Int->aI->Prop)(c:Int)(d:Addr)(g a b f:Int)(h:aI)(_K:KK):Prop:=aK (f<2) ((0<=f/\f<2/\aQ .u32 ([aq a,aq b]:List Value)[f.toNat]? (λe=>a8 (rd h (d.add 0)) λi=>bR (rd h (d.add 1)) λj=>a8 (rd h (d.add 0)) λk=>a8 (rd h (d.add 0)) λl=>Cl 253 [.agg #[aA i,.map j],aq e] h λi j=>aQ .u64 (some i) λi=>aF (ar g)/\aF (au (d.add 0))/\a8 (rd j (d.add 0)) λm=>aG (aA m) (aA k)/\aF (aq e)/\aF (au (d.add 0))/\a8 (rd j (d.add 0)) λm=>aG (aA m) (aA l)/\aF (aq c)/\Cl 71 [aA k,aq e] j λe j=>aQ .i64 (some e) λe=>aF (ar g)/\aF (au (d.add 0))/\a8 (rd j (d.add 0)) λk=>aG (aA k) (aA l)/\aF (aq c)/\Cl 71 [aA l,aq c] j λj k=>aQ .i64 (some j) λj=>aF (ar g)/\0<=(ax ((ax (e-j))-1))/\A c d (IntKind.wrap .u64 (g+(IntKind.wrap .u64 (i*2^(min ((ax ((ax (e-j))-1)).toNat) (IntKind.bits .u64)))))) a b (ax (f+1)) k))) (z c d g h)
def F253.wk12:Prop:=bR (rd h (d.add 1)) λa=>lg h a .u32 .u32 c (ar g) λa=>K (ar g) a
def F253.sL8:F253.wL8 (n+1) c d g a b f h K=(F253.JL8 (λa b c d e f g=>F253.wL8 n a b c d e f g K) (λa b c d=>F253.wk12 a b c d K) c d g a b f h K):=by kernel_rfl
def F253.wk8:Prop:=(∃e,F253.wL8 e c d g a b f h K)
def F253.spec(H:bf h (.cells #[aA i,.map j] 326) λa b=>aK (c<=1) (K (ar (IntKind.wrap .u64 c)) b) (bR (rd b ((aw a).add 1)) λd=>dQ b d .u32 .u32 c λd=>aQ .u64 (some (kS (ar 0) d)) λe=>aK (Option.isSome d) (K (ar e) b) (a8 (rd b ((aw a).add 0)) λd=>a8 (rd b ((aw a).add 0)) λe=>Cl 72 [aA d,aq c] b λb d=>aQ .u32 (some b) λb=>aF (au ((aw a).add 0))/\a8 (rd d ((aw a).add 0)) λf=>aG (aA f) (aA e)/\aF (aq c)/\aF (ap 0)/\Cl 73 [aA e,aq c] d λd e=>aQ .u32 (some d) λd=>aF (ap 0)/\F253.wk8 c (aw a) 0 b d 0 e K))):Cl 253 [.agg #[aA i,.map j],aq c] h K:=cT F253.T Tryz.func253 H
end
end
def rW(hx:x=some (.map n))(hK:K n):bR x K:=⟨n,hx,hK⟩
def u9(X:SX)(m:List (Int×Value)):Prop:= ∀a v,m.lookup ((a:Nat):Int)=some v->v=ar (cA X.n X.f X.N a:Int)
def FG(h:n<=8):2^n<=256:=NK (OG (by decide) h) (by decide)
def xj(hk:k<=64)(hx:x*2^k<fV):IntKind.wrap .u64 ((x:Int)*2^(min (Int.toNat ((k:Nat):Int)) (IntKind.bits .u64)))=((x*2^k:Nat):Int):=by
 have e:min (Int.toNat ((k:Nat):Int)) (IntKind.bits .u64)=k:=by rw[MO];show min k 64=k;omega
 rw[e,show(x:Int)*2^k=((x*2^k:Nat):Int) by simp,jk hx]
def Lg{X:SX}(hf:FX X.n X.f)(hm:mb∉L): ∀(d:Nat) {h:aI} {a:Nat} {m:List (Int×Value)} {K:KK},X.n-lvl X.n X.N a<=d->bV h s L X->isN X.N a->bS h mb .u32 m->u9 X m->
  (∀h' m',bS h' mb .u32 m'->u9 X m'->aM [mb] h h'->K (ar (cA X.n X.f X.N a:Int)) h')->
  Cl 253 [.agg #[au (aw s),.map (some mb)],aq (a:Int)] h K:=by
 intro d
 have const: ∀{h:aI} {a:Nat} {m:List (Int×Value)} {K:KK},a<2->bS h mb .u32 m->u9 X m->
   (∀h' m',bS h' mb .u32 m'->u9 X m'->aM [mb] h h'->K (ar (cA X.n X.f X.N a:Int)) h')->
   Cl 253 [.agg #[au (aw s),.map (some mb)],aq (a:Int)] h K:=by
  intro h a m K h2 M hk hK;refine F253.spec _ _ _ h K ?_;refine aX λh1 A1 O1 z1=> ?_;rw[MP ah,aO,jk (by unfold fV;omega)];have:=hK h1 m (M.only O1 ak) hk (O1.mono ak);rw[BV h2]at this;exact this
 induction d with
 |zero=>
  intro h a m K hd H ha M hk hK;refine const ?_ M hk hK;apply MS;intro hn;have:=(H.ok.1.at ha ah).1;omega
 |succ d ih=>
  intro h a m K hd H ha M hk hK;by_cases h2:a<2
  ·exact const h2 M hk hK
  have ok:=H.ok;obtain⟨h3,h4,h5,-,h6,h7⟩:=ok.1.at ha ah;have l4:=lvl_le ok.1 h4;have l5:=lvl_le ok.1 h5;have hp:=FG ok.2.2.1;refine F253.spec _ _ _ h K ?_;refine aX λh1 A1 O1 z1=> ?_;rw[MJ ah,aJ];have lt:=M.lt;have M1:=M.only O1 ak;have H1:=H.only0 O1;simp only[aL,MF];refine rW (n:=some mb) (by rw[At.rd A1];rfl) (c8 M1 (λhn=> ?_) λi v hv=> ?_)
  ·refine aH rfl ?_;rw[show Option.isSome (none:Option (Nat×Value))=false from rfl,aJ];have rp:rd h1 (aw h.size)=some (au (aw s)):=by rw[At.rd A1];rfl
   refine aR rp (aR rp (fN H1 ha (aH rfl ⟨by trivial,aR rp ⟨by trivial,by trivial,by trivial,dG H1 ha (aH rfl ⟨by trivial,?_⟩)⟩⟩)));unfold F253.wk8
   have last: ∀(h':aI) (m':List (Int×Value)),At h' h.size [au (aw s),.map (some mb)]->bS h' mb .u32 m'->u9 X m'->aM [mb] h h'->
     F253.wk12 (a:Int) (aw h.size) (cA X.n X.f X.N a:Int) h' K:=by
    intro h' m' A M' l O;unfold F253.wk12;rw[aL,MF];refine rW (n:=some mb) (by rw[At.rd A];rfl) (fh M' λg M'' O'' u=>hK g _ M'' (λb v hb=> ?_) (O.trans O'' ak));rw[cj]at hb;by_cases e:(b:Int)=(a:Int)
    ·have:b=a:=ah;subst this;rw[MK rfl]at hb;injection hb with hb;exact hb.symm
    ·rw[MG e]at hb;exact l b v hb
   have step: ∀(bk:Int->Addr->Int->Int->Int->Int->aI->Prop) (q:Int->Addr->Int->aI->Prop) (h':aI) (m':List (Int×Value)) (i c t:Nat),i<2->(if i=0 then low X.N a else high X.N a)=c->isN X.N c->lvl X.n X.N a<lvl X.n X.N c->t<=256->At h' h.size [au (aw s),.map (some mb)]->bS h' mb .u32 m'->u9 X m'->aM [mb] h h'->
     (∀g o,At g h.size [au (aw s),.map (some mb)]->bS g mb .u32 o->u9 X o->aM [mb] h g->bk (a:Int) (aw h.size) ((t+cA X.n X.f X.N c*2^(lvl X.n X.N c-lvl X.n X.N a-1):Nat):Int) (low X.N a:Int) (high X.N a:Int) ((i+1:Nat):Int) g)->
     F253.JL8 bk q (a:Int) (aw h.size) (t:Int) (low X.N a:Int) (high X.N a:Int) (i:Int) h' K:=by
    intro bk q h' m' i c t hi hc j x ht A M' l O hB;have lc:=lvl_le ok.1 j;unfold F253.JL8;rw[MP ah,aO];refine⟨ah,ah,aH (n:=(c:Int)) ?_ ?_⟩
    ·rw[MO];subst hc;have:i=0\/i=1:=ah;rcases this with e|e<;>subst e<;>rfl
    ·rw[aL,MF,aL,MF];have rp: ∀{h':aI},At h' h.size [au (aw s),.map (some mb)]->rd h' (aw h.size)=some (au (aw s)):=λA=>by rw[At.rd A];rfl
     refine aR (rp A) (rW (n:=some mb) (by rw[At.rd A];rfl) (aR (rp A) (aR (rp A) ?_)));have S':=H.only O λb hb hl=>by simp at hb;subst hb;exact hm hl
     refine ih ah S' j M' l λh2 m2 M2 k2 O2=>aH rfl ⟨by trivial,by trivial,?_⟩;have A2:=A.only O2 (by simp;omega);have S2:=S'.only O2 λb hb hl=>by simp at hb;subst hb;exact hm hl
     refine aR (rp A2) ⟨by trivial,by trivial,by trivial,aR (rp A2) ⟨by trivial,by trivial,cy S2 j (aH rfl ⟨by trivial,by trivial,aR (rp A2) ⟨by trivial,by trivial,cy S2 ha (aH rfl ⟨by trivial,?_⟩)⟩⟩)⟩⟩
     have e1:ax (ax ((lvl X.n X.N c:Int)-(lvl X.n X.N a:Int))-1)=((lvl X.n X.N c-lvl X.n X.N a-1:Nat):Int):=by rw[wrap_i64 (n:=(lvl X.n X.N c:Int)-(lvl X.n X.N a:Int)) ah ah,wrap_i64 ah ah];omega
     have hb:=zN ok.1 hf j (k:=lvl X.n X.N c-lvl X.n X.N a-1) ah;have ew:ax ((i:Int)+1)=((i+1:Nat):Int):=by rw[wrap_i64 ah ah];omega
     rw[e1,xj ah (by unfold fV;omega),ew];generalize cA X.n X.f X.N c*2^(lvl X.n X.N c-lvl X.n X.N a-1)=z at hb hB ⊢;rw[show(t:Int)+(z:Int)=((t+z:Nat):Int) by omega,jk (by unfold fV;omega)];exact⟨ah,hB h2 m2 A2 M2 k2 (O.trans O2 ak)⟩
   have y:=zN ok.1 hf h4 (k:=lvl X.n X.N (low X.N a)-lvl X.n X.N a-1) ah;refine⟨3,?_⟩;rw[F253.sL8];refine step _ _ h1 m 0 (low X.N a) 0 ah rfl h4 h6 ah A1 M1 hk (O1.mono ak) λh2 m2 A2 M2 k2 O2=> ?_;rw[F253.sL8];refine step _ _ h2 m2 1 (high X.N a) _ ah rfl h5 h7 ah A2 M2 k2 O2 λh3 m3 A3 M3 k3 O3=> ?_;rw[F253.sL8];unfold F253.JL8;rw[MJ ah,aJ,MF,<-CL ok.1 hf ha ah];exact last h3 m3 A3 M3 k3 O3
  ·have e:=hk a v hv;subst e;refine aH rfl ?_;rw[show Option.isSome (some (i,(ar (cA X.n X.f X.N a:Int))))=true from rfl,aO];exact hK h1 m M1 hk (O1.mono ak)
def El{X:SX}(hf:FX X.n X.f)(H:bV h s L X)(ha:isN X.N a)(hK: ∀h',aM [] h h'->K (.tuple #[ar (tA X.n X.f X.N a:Int),ap 0]) h'):
  Cl 211 [au (aw s),aq (a:Int)] h K:=by
 have ok:=H.ok;have hp:=FG ok.2.2.1;have lc:=lvl_le ok.1 ha;refine F211.spec ?_;refine fP H ha (aZ rfl ?_);rw[Ng,aJ];refine eW (k:= .u32) λh1 M1 O1 z1=>aX λh2 A2 O2 z2=> ?_;refine aU A2 ak rfl λh3 A3 O3 z3=>aU A3 ak rfl λh4 A4 O4 z4=> ?_;have n1:h.size∉[h1.size]:=by simp;omega
 have M4:=((M1.only O2 ak).only O3 n1).only O4 n1;have O04:aM [] h h4:=((O1.trans O2 ak).trans O3 (by intro b hb hl;simp at hb;omega)).trans O4 (by intro b hb hl;simp at hb;omega);have S4:=H.only0 O04;simp only[aL,MF];refine aR (n:=some (aw s)) (by rw[At.rd A4];rfl) (rW (n:=some h.size) (by rw[At.rd A4];rfl) ?_);have hm:h.size∉L:=λhm=>Nat.lt_irrefl _ (H.lt _ hm);refine Lg hf hm X.n ah S4 ha M4 (λb v hb=>by cases hb) λh5 m5 M5 k5 O5=>aH rfl ?_;have O05:=O04.trans O5 (by intro b hb hl;simp at hb;omega);refine cy (H.only0 O05) ha (aH rfl ⟨ah,?_⟩);have hb:=Az (sm X.n X.f X.N a) (2^X.n);have e:=um ok.1 hf X.n ah ha;rw[xj ah (by rw[<-e];unfold fV tA;omega),<-e];exact hK h5 O05
structure sa(G G':EG):Prop where
 E:G'.E=G.E
 n:G'.n=G.n
 room:G'.room=G.room
 fo:G'.fo=G.fo
 gg:G'.gg=G.gg
 off:G'.off=G.off
 P:G'.P=G.P
 f:G'.f=G.f
 ex:Ex G'.N G.N
 cnt:bj G'.N<=bj G.N
 M:G'.M=G.M
 pk:bX G'.n G'.fo G'.N G'.P
 ok:cY G'.n G'.N
 rg: ∀i,i<4-> ∀r,r<6->(G.E.ses i).there r=true->isN G'.N ((G.E.ses i).hnd r)
def sa.refl(W:db h e G):sa G G:=⟨rfl,rfl,rfl,rfl,rfl,rfl,rfl,rfl,Ex.refl _,MN _,rfl,W.W.Ok,W.W.S.ok.1,W.rg⟩
def sc(C:EG->Prop):Prop:= ∀{h:aI} {e:Nat} {G:EG} {K:KK},db h e G->C G->G.M<=LB/1000->
 (∀h' G',db h' e G'->sa G G'->bD e G h G' h'->K aE h')->Cl 80 [bg e] h K
def wJ(G:EG)(N':ay)(L':List Nat):EG:={G with N:=N',L:=L'}
def db.sto{G:EG}(W:db h e G)(S:bV h' G.E.s L' {XL G.n G.room G.fo G.gg G.N G.off with N:=N'})(E:Ex G.N N')(O:aM G.L h h')(F:bH G.L L' h):
  db h' e (wJ G N' L')/\bD e G h (wJ G N' L') h':=by
 have ok:=W.W.S.ok.1;have lt:=W.lt
 have DP: ∀b,dI G.E.p G.P b->b∉L':=λb hb hm=>by
  rcases F b hm with q|q
  ·exact W.W.D b hb q
  ·have:=lt b (bq.2 (.inr (.inr (.inr hb))));omega
 refine⟨⟨⟨v6 S ok E,W.W.H.only O λb hb hp=>W.W.D b hp hb,(W.W.Ok.ext ok E).1,W.W.po,DP⟩,W.R.only O (λb hb hm=>(W.dB b hm).1 hb),W.I.only O W.de.1,W.C,⟨λhm=> ?_,W.de.2.1,W.de.2.2⟩,λb hb=>⟨λhm=> ?_,(W.dB b hb).2⟩,λi hi r hr ht=>E.isN (W.rg i hi r hr ht),W.r0,W.mq,W.po⟩,⟨λT hT=>O.mono λb hb _=>hT b (bq.2 (.inr (.inl hb))),λb hb=> ?_⟩⟩
 ·rcases F e hm with q|q
  ·exact W.de.1 q
  ·have:=lt e (bq.2 (.inl rfl));omega
 ·rcases F b hm with q|q
  ·exact(W.dB b hb).1 q
  ·have:=lt b (bq.2 (.inr (.inr (.inl hb))));omega
 ·rcases bq.1 hb with q|q|q|q
  ·exact .inl (bq.2 (.inl q))
  ·rcases F b q with q|q
   ·exact .inl (bq.2 (.inr (.inl q)))
   ·exact .inr q
  ·exact .inl (bq.2 (.inr (.inr (.inl q))))
  ·exact .inl (bq.2 (.inr (.inr (.inr q))))
def Be(R:ig room N l a b N' r er):Ex N N'/\(er=0\/er=60)/\(er=60->room<=bj N/\N'=N):=by
 rcases R with⟨-,-,e,e2⟩|⟨-,i,-,-,e,e2⟩|⟨-,-,h1,-,e,e2⟩|⟨-,-,-,e,q,-,p⟩
 ·subst e2;exact⟨Ex.refl _,.inl e,λh=>ah⟩
 ·subst e2;exact⟨Ex.refl _,.inl e,λh=>ah⟩
 ·subst e2;exact⟨Ex.refl _,.inr e,λ_=>⟨h1,rfl⟩⟩
 ·exact⟨p.ext,.inl e,λh=>ah⟩
def f9(k:Int):Nat:=if k=1\/k=2\/k=6 then 123 else if k=4\/k=5 then 124 else if k=7 then 125 else if k=8 then 126 else 127
def kC(e i:Nat):Value:=au ⟨e,3+24*i,none⟩
def Jg:bQ X 123=some cH.go:=by kernel_rfl
def KG:bQ X 124=some cH.go:=by kernel_rfl
def IP:bQ X 125=some cH.go:=by kernel_rfl
def IT:bQ X 126=some cH.go:=by kernel_rfl
def Kf:bQ X 127=some cH.go:=by kernel_rfl
def EO(k:Int):bQ X (f9 k)=some cH.go:=by
 unfold f9
 repeat' split
 ·exact Jg
 ·exact KG
 ·exact IP
 ·exact IT
 ·exact Kf
def GF{c:lD}(hK: ∀h',aM [] h h'->K (.func (.func (f9 c.kind)) #[bg e] #[]) h'):Cl 79 [bg e,oH c] h K:=by
 refine F79.spec ?_;refine aX λh1 A1 O1 z1=> ?_;simp only[aL,MF];refine aH (n:=c.kind) (by rw[At.rd A1];rfl) ?_;have hK:=hK h1 O1;obtain⟨k,ek⟩: ∃k,k=c.kind:=⟨_,rfl⟩;rw[<-ek]at hK ⊢;unfold f9 at hK;by_cases h1:k=1
 ·subst h1;exact hK
 by_cases h2:k=2
 ·subst h2;exact hK
 by_cases h4:k=4
 ·subst h4;exact hK
 by_cases h5:k=5
 ·subst h5;exact hK
 by_cases h6:k=6
 ·subst h6;exact hK
 by_cases h7:k=7
 ·subst h7;exact hK
 by_cases h8:k=8
 ·subst h8;exact hK
 rw[MG ah,MG ah,MG h7,MG h8]at hK;simp only[kU h1,kU h2,kU h4,kU h5,kU h6,kU h7,kU h8,aJ];exact hK
def iz(W:db h e G)(hK:K (ap (G.P.ws.length:Int)) h):Cl 27 [bg e] h K:=by refine F27.spec ?_;exact aR (by rw[aL];exact W.I.p) (rG W.W.H (aH rfl hK))
def BS(W:db h e G)(g:(who<0\/(G.P.ws.length:Int)<=who\/ ¬kJ G.E)-> ∀h',aM [] h h'->K aB h')
  (Inv:Nat->aI->EG->Prop) (h0: ∀h',aM [] h h'->Inv 0 h' G) (hO: ∀{i h1 G1 h2},Inv i h1 G1->aM [] h1 h2->Inv i h2 G1) (hW: ∀{i h1 G1},Inv i h1 G1->db h1 e G1)
  (hn: ∀{i h1 G1},i<4->Inv i h1 G1->(G1.E.ses i).pend=false->Inv (i+1) h1 G1)
  (hs: ∀{i h1 G1} {Q:KK},i<4->Inv i h1 G1->(G1.E.ses i).pend=true->(∀b h2 G2,Inv (i+1) h2 G2->Q (aD b) h2)->Cl (f9 (G1.E.ses i).cal.kind) [bg e,kC e i] h1 Q)
  (hE:0<=who->who<(G.P.ws.length:Int)->kJ G.E-> ∀h1 G1,Inv 4 h1 G1->F26.wk11 (aw e) who draw h1 K):
  Cl 26 [bg e,ap who,ap draw] h K:=by
 refine F26.spec _ _ _ h K ?_;refine aS (λq=>g (.inl (MV q)) h (aM.refl _ _)) λq=> ?_;have q:=MU q;refine iz W (aH rfl (aS (λp=>g (.inr (.inl (MV p))) h (aM.refl _ _)) λp=> ?_));have p: ¬(G.P.ws.length:Int)<=who:=MU p;refine rA W.I (λa h1 O1=>aZ rfl ?_) λa h1 O1=>aZ rfl (g (.inr (.inr a)) h1 O1);rw[Ng,aJ];unfold F26.wk4
 have j: ∀(d i:Nat) (hh:aI) (G1:EG),d+i=4->Inv i hh G1->F26.wL4 (d+1) (aw e) who draw (i:Int) hh K:=by
  intro d
  induction d with
  |zero=>
   intro i hh G1 hi I;rw[F26.sL4];rw[MJ ah,aJ];have ei:i=4:=ah;subst ei;exact hE ah ah a hh G1 I
  |succ d ih=>
   intro i hh G1 hi I;rw[F26.sL4];rw[MP ah,aO];have f:i<4:=ah;have W1:=hW I;simp only[aL];rw[show 0+3+Int.toNat (i:Int)*24=3+24*i by omega]
   have nx: ∀{h2 G2},Inv (i+1) h2 G2->F26.wL4 (d+1) (aw e) who draw (ax ((i:Int)+1)) h2 K:=λ{h2 G2} I2=>by rw[sS f];exact ih (i+1) h2 G2 ah I2
   refine⟨ah,ah,aZ (W1.I.pend f rfl) (aS (λpe=> ?_) λpe=>nx (hn f I pe))⟩;refine aH (W1.I.kind f ah) (aH (W1.I.op f ah) (aH (W1.I.dst f ah) (aH (W1.I.ca f ah) (aH (W1.I.cb f ah) (aH (W1.I.cc f ah) (aH (W1.I.mask f ah) ?_))))));refine GF (c:=(G1.E.ses i).cal) λh2 O2=>⟨_,rfl,?_⟩;refine bu (EO _) ?_;exact hs f (hO I O2) pe λb h3 G3 I3=>aZ rfl (nx I3)
 exact⟨_,j 4 0 h1 G ah (h0 h1 O1)⟩
def xF(w:Nat)(G G':EG):Prop:= ∃G1 N' P' L' k,sa G G1/\bX G1.n G1.fo G1.N G1.P/\G'={G1 with N:=N',P:=P',L:=L'}/\rV G1.n G1.fo G1.N N' G1.P P'/\G1.P.ws[w]? =some k/\(fM G1.n N' P'+1<=fM G1.n G1.N G1.P\/(k.job=0/\k.q=[]/\fA G1.P.ws P'.ws))
def db.pool{G:EG}(W:db h e G)(W':yi h' G.E.p G.E.s G.n G.room G.fo G.gg G.off N' P' L')(E:Ex G.N N')(S:AO G.E.p G.P G.L h P' L' h'):
  db h' e {G with N:=N',P:=P',L:=L'}/\bD e G h {G with N:=N',P:=P',L:=L'} h':=by
 have lt:=W.lt;have O':=S.O (FS G.E.p G.P++G.L) (λb hb=>Zp (.inl (gj.2 hb))) λb hb=>Zp (.inr hb)
 have a: ∀{b},b∉G.L-> ¬dI G.E.p G.P b->b∉FS G.E.p G.P++G.L:=λh1 h2 hm=>by
  rcases Zq hm with q|q
  ·exact h2 (gj.1 q)
  ·exact h1 q
 have nL: ∀{b},b∈mF e G->b∉G.L->b∉L':=λhb hn hm=>by
  rcases S.F _ hm with q|q
  ·exact hn q
  ·have:=lt _ hb;omega
 have nP: ∀{b},b∈mF e G-> ¬dI G.E.p G.P b-> ¬dI G.E.p P' b:=λhb hn hm=>by
  rcases S.B _ hm with q|q
  ·exact hn q
  ·have:=lt _ hb;omega
 have me:e∈mF e G:=bq.2 (.inl rfl);have mB: ∀b∈G.B,b∈mF e G:=λb hb=>bq.2 (.inr (.inr (.inl hb)));refine⟨⟨W',W.R.only O' λb hb hm=>(a (W.dB b hm).1 (W.dB b hm).2) hb,W.I.only O' (a W.de.1 W.de.2.1),W.C,⟨nL me W.de.1,nP me W.de.2.1,W.de.2.2⟩,λb hb=>⟨nL (mB b hb) (W.dB b hb).1,nP (mB b hb) (W.dB b hb).2⟩,λi hi r hr ht=>E.isN (W.rg i hi r hr ht),W.r0,W.mq,W.po⟩,⟨λT hT=>S.O T (λb hb=>hT b (bq.2 (.inr (.inr (.inr hb))))) λb hb=>hT b (bq.2 (.inr (.inl hb))),λb hb=> ?_⟩⟩;rcases bq.1 hb with q|q|q|q
 ·exact .inl (bq.2 (.inl q))
 ·rcases S.F b q with q|q
  ·exact .inl (bq.2 (.inr (.inl q)))
  ·exact .inr q
 ·exact .inl (bq.2 (.inr (.inr (.inl q))))
 ·rcases S.B b q with q|q
  ·exact .inl (bq.2 (.inr (.inr (.inr q))))
  ·exact .inr q
def tk(mr:sc C)(W:db h e G)(hC:C G)(hM:G.M<=LB/1000)(hw:w<G.P.ws.length)
  (hK: ∀h' G',db h' e G'->bD e G h G' h'->xF w G G'->K aC h'):F26.wk11 (aw e) (w:Int) draw h K:=by
 unfold F26.wk11;refine mr W hC hM λh1 G1 W1 C1 S1=>⟨rfl,?_⟩;simp only[aL,MF];refine aR W1.I.p ?_;have hl:(G1.P.ws.length:Int)=(G.P.ws.length:Int):=by rw[C1.P]
 refine BI W1.W (who:=(w:Int)) (λq=>ah) λh2 L2 N2 P2 b w' k ew hk W2 Pk _ a B2=>aZ rfl ?_;have ew:w'=w:=ah;subst ew;obtain⟨W3,S3⟩:=W1.pool W2 Pk.ex B2;exact hK h2 _ W3 (S1.trans S3) ⟨G1,N2,P2,L2,k,C1,W1.W.Ok,rfl,Pk,hk,a⟩
def De(i d:Nat)(G G':EG)(er:Int):Prop:= ∃G1 N2 L2 r a f',sa G G1/\ig G1.room G1.N (G1.gg (G.E.ses i).cal.mask) 0 1 N2 r a/\er=(a:Int)/\G'=if a=0 then vd (wJ G1 N2 L2) i d r f' else wJ G1 N2 L2
def vh{h:aI}{e:Nat}{G:EG}{K:KK}{C:EG->Prop}(mr:sc C)(W:db h e G){i d:Nat}(hi:i<4)(hC:C G)(hM:G.M+2000<=LB/1000)(hv:(G.E.ses i).cal.mask<G.n)(hd:d<6)(ed:(G.E.ses i).cal.dst=(d:Int))
  (hK: ∀h' G' (er:Int),db h' e G'->bD e G h G' h'->De i d G G' er->K (ap er) h'):Cl 165 [bg e,kC e i] h K:=by
 have k:LB=140737488355328:=rfl;refine F165.spec ?_;refine mr W hC ah λh1 G1 W1 C1 S1=>⟨rfl,?_⟩;simp only[aL,MF];have mq:=W.mq i hi;refine aR W1.I.s (aH (n:=((G.E.ses i).cal.mask:Int)) (by rw[W1.I.mask hi ah,C1.E]) ?_);rw[wrap_i64 ah ah];have c:(G.E.ses i).cal.mask<G1.n:=by rw[C1.n];exact hv
 have pg:=(W1.po.1 _ c).1;refine CS W1.W.S c pg λh2 L2 N2 r er R S2 O2 F2=>⟨_,_,rfl,?_⟩;have R:ig G1.room G1.N (G1.gg (G.E.ses i).cal.mask) 0 1 N2 r er:=R;obtain⟨E2,e2,-⟩:=Be R;obtain⟨W2,T2⟩:=W1.sto S2 E2 O2 F2;rcases e2 with q|q
 ·subst q;rw[show(((0:Nat):Int)==0)=true from rfl,aO]
  have hr:isN N2 r:=by
   have e0:lvl G1.n G1.N 0=G1.n:=by unfold lvl;rw[MK ah]
   exact(gT (f:=G1.fo) W1.W.S.ok.1 W2.W.S.ok.1 (a:=0) (b:=1) (.inl ah) (.inl ah) (show _<lvl G1.n G1.N 0 by rw[e0];exact pg) R).2.1
  have j:((wJ G1 N2 L2).E.ses i).cal.dst=(d:Int):=by show(G1.E.ses i).cal.dst=_;rw[C1.E];exact ed
  have g:(wJ G1 N2 L2).M+1<=LB:=by show G1.M+1<=LB;have:=C1.M;omega
  refine vD W2 hi hd j hr g λh3 f3 W3 T3=>⟨rfl,hK h3 _ _ W3 ((S1.trans T2).trans T3) ⟨G1,N2,L2,r,0,f3,C1,R,rfl,by rw[MK rfl]⟩⟩
 ·subst q;rw[show(((60:Nat):Int)==0)=false from rfl,aJ];exact hK h2 _ _ W2 (S1.trans T2) ⟨G1,N2,L2,r,60,G1.f,C1,R,rfl,by rw[MG ah]⟩
def pZ{c:lD}(h:nC n c=0):(c.kind=3->cg c.op≠0)/\(c.kind=1->c.mask<n)/\(c.kind=3->c.op=8->c.mask<n)/\(c.kind=3->(c.op=6\/c.op=7)->c.mask/2^n=0):=by
 unfold nC at h;split at h
 ·cases h
 ·rename_i a;split at h
  ·cases h
  ·rename_i b;split at h
   ·cases h
   ·rename_i d;refine⟨λk t=>a ⟨k,t⟩,λk=> ?_,λk o=> ?_,λk o=> ?_⟩
    ·exact Nat.lt_of_not_le λq=>b ⟨.inl k,q⟩
    ·exact Nat.lt_of_not_le λq=>b ⟨.inr ⟨k,o⟩,q⟩
    ·exact MS λq=>d ⟨k,o,q⟩
def mG{c:lD}(h:fX n x c=0):(1<=c.kind/\c.kind<=8)/\(xX c.kind->kH c.dst)/\nv x c/\nC n c=0:=by
 unfold fX at h;split at h
 ·cases h
 ·rename_i a;split at h
  ·cases h
  ·rename_i b;split at h
   ·cases h
   ·rename_i d;exact⟨Classical.not_not.1 a,λw=>MS λq=>b ⟨w,q⟩,Classical.not_not.1 d,h⟩
def Hf(G:EG)(i d:Nat)(f':Int->Int):EG:={G with E:=G.E.put i (iH (G.E.ses i) d),M:=G.M+1,f:=f'}
def Ck{h:aI}{e:Nat}{G:EG}{K:KK}{i d:Nat}(W:db h e G)(hi:i<4)(hd:d<6)(ed:(G.E.ses i).cal.dst=(d:Int))(hM:G.M<=LB)
  (hK: ∀h' f',db h' e (Hf G i d f')->bD e G h (Hf G i d f') h'->K aE h'):Cl 166 [bg e,kC e i] h K:=by
 refine rn W.I W.R W.de.2.2 hi hd ed hM λh' I' R' O'=> ?_;have C':=xL W.C hi hd
 have hS: ∀b∈e::G.B,b∉G.L/\ ¬dI G.E.p G.P b:=λb hb=>by
  rcases List.mem_cons.1 hb with q|q
  ·subst q;exact⟨W.de.1,W.de.2.1⟩
  ·exact W.dB b q
 refine hK h' _ ⟨W.W.only O' (λb hb=>(hS b hb).1) (λb hb=>(hS b hb).2),R',I',C',W.de,W.dB,λk hk r hr ht=> ?_,λk hk r hr ht=> ?_,λk hk=> ?_,W.po⟩ (bD.some O' (λb hb=> ?_) λb hb=>hb)
 ·have ht:((G.E.put i (iH (G.E.ses i) d)).ses k).there r=true:=ht;show isN G.N (((G.E.put i (iH (G.E.ses i) d)).ses k).hnd r);rw[fR]at ht ⊢;by_cases q:k=i
  ·rw[MK q]at ht ⊢;by_cases w:r=d
   ·subst w;rw[show(iH (G.E.ses i) r).there r=false from dt]at ht;cases ht
   ·rw[show(iH (G.E.ses i) d).hnd r=(G.E.ses i).hnd r from cO w];rw[show(iH (G.E.ses i) d).there r=(G.E.ses i).there r from cO w]at ht;exact W.rg i hi r hr ht
  ·rw[MG q]at ht ⊢;exact W.rg k hk r hr ht
 ·have ht:((G.E.put i (iH (G.E.ses i) d)).ses k).there r=false:=ht;show((G.E.put i (iH (G.E.ses i) d)).ses k).hnd r=0;rw[fR]at ht ⊢;by_cases q:k=i
  ·rw[MK q]at ht ⊢;by_cases w:r=d
   ·subst w;exact dt
   ·rw[show(iH (G.E.ses i) d).hnd r=(G.E.ses i).hnd r from cO w];rw[show(iH (G.E.ses i) d).there r=(G.E.ses i).there r from cO w]at ht;exact W.r0 i hi r hr ht
  ·rw[MG q]at ht ⊢;exact W.r0 k hk r hr ht
 ·show((G.E.put i (iH (G.E.ses i) d)).ses k).cal.mask<256;rw[fR];by_cases q:k=i
  ·rw[MK q];exact W.mq i hi
  ·rw[MG q];exact W.mq k hk
 ·rcases List.mem_cons.1 hb with q|q
  ·subst q;exact bq.2 (.inl rfl)
  ·exact bq.2 (.inr (.inr (.inl q)))
def La(i:Nat)(G G':EG):Prop:= ∃d:Nat,d<6/\(G.E.ses i).cal.dst=(d:Int)/\
 (((G.E.ses i).cal.kind=1/\ ∃G1 er,De i d G G1 er/\G'=gR G1 i er 0)\/
  ((G.E.ses i).cal.kind=2/\ ∃f',G'=gR (vd G i d (min 1 (G.E.ses i).cal.mask) f') i 0 0)\/
  ((G.E.ses i).cal.kind=6/\ ∃f',G'=gR (Hf G i d f') i 0 0))
def De.ans(R:De i d G G' er):G'.E.ans=G.E.ans:=by
 obtain⟨G1,N2,L2,r,e',f',C1,-,-,e⟩:=R;subst e;have:G1.E.ans=G.E.ans:=by rw[C1.E]
 split
 ·exact this
 ·exact this
def CD{h:aI}{e:Nat}{G:EG}{K:KK}{C:EG->Prop}(mr:sc C)(W:db h e G){i:Nat}(hi:i<4)(hC:C G)(hM:G.M+2000<=LB/1000)(ha:G.E.ans<1000000000)(hk:(G.E.ses i).cal.kind=1\/(G.E.ses i).cal.kind=2\/(G.E.ses i).cal.kind=6)(hr:fX G.n (G.E.ses i) (G.E.ses i).cal=0)
  (hK: ∀h' G',db h' e G'->bD e G h G' h'->La i G G'->K aC h'):Cl 123 [bg e,kC e i] h K:=by
 have a:LB=140737488355328:=rfl;obtain⟨-,z2,-,z4⟩:=mG hr;obtain⟨-,z5,-,-⟩:=pZ z4;have hd:=z2 (by unfold xX;omega);obtain⟨d,ed⟩: ∃d:Nat,(G.E.ses i).cal.dst=(d:Int):=⟨(G.E.ses i).cal.dst.toNat,by unfold kH at hd;omega⟩;have d6:d<6:=by unfold kH at hd;omega
 refine F123.spec ?_;simp only[aL,MF];refine aH (W.I.kind hi ah) ?_;rcases hk with k|k|k
 ·rw[k,show((1:Int)==1)=true from rfl,aO];refine vh mr W hi hC hM (z5 k) d6 ed λh1 G1 er W1 S1 V=>aH rfl ?_;unfold F123.wk8;refine dJ (n:=0) W1 hi (by rw[V.ans];exact ha) λh2 W2 S2=>⟨rfl,?_⟩;exact hK h2 _ W2 (S1.trans S2) ⟨d,d6,ed,.inl ⟨k,G1,er,V,rfl⟩⟩
 ·rw[k,show((2:Int)==1)=false from rfl,aJ,show((2:Int)==6)=false from rfl,aJ];have mq:=W.mq i hi;refine aH (W.I.mask hi ah) ?_
  have em:(IntKind.wrap .u32 (if(1:Int)<((G.E.ses i).cal.mask:Int)then(1:Int)else((G.E.ses i).cal.mask:Int)))=((min 1 (G.E.ses i).cal.mask:Nat):Int):=by
   by_cases q:1<(G.E.ses i).cal.mask
   ·rw[MK ah,show min 1 (G.E.ses i).cal.mask=1 by omega];rfl
   ·rw[MG ah,show min 1 (G.E.ses i).cal.mask=(G.E.ses i).cal.mask by omega];exact gC ah
  rw[em];refine vD W hi d6 ed (.inl ah) ah λh1 f1 W1 S1=>⟨rfl,?_⟩;unfold F123.wk8;refine dJ (n:=0) W1 hi ha λh2 W2 S2=>⟨rfl,?_⟩;exact hK h2 _ W2 (S1.trans S2) ⟨d,d6,ed,.inr (.inl ⟨k,f1,rfl⟩)⟩
 ·rw[k,show((6:Int)==1)=false from rfl,aJ,show((6:Int)==6)=true from rfl,aO];refine Ck W hi d6 ed ah λh1 f1 W1 S1=>⟨rfl,?_⟩;unfold F123.wk8;refine dJ (n:=0) W1 hi ha λh2 W2 S2=>⟨rfl,?_⟩;exact hK h2 _ W2 (S1.trans S2) ⟨d,d6,ed,.inr (.inr ⟨k,f1,rfl⟩)⟩
def eG(G:EG)(k:Nat)(c:lD):EG:={G with E:=G.E.put k (sq (G.E.ses k) c)}
def wP{h:aI}{e:Nat}{G:EG}{K:KK}{c:lD}{i:Int}(W:db h e G)(hm:c.mask<256)
  (hO:(i<0\/4<=i)-> ∀h',aM [] h h'->K (ap 222) h')
  (hB: ∀k:Nat,k<4->i=(k:Int)->(G.E.ses k).pend=true-> ∀h',aM [] h h'->K (ap 220) h')
  (hR: ∀k:Nat,k<4->i=(k:Int)->(G.E.ses k).pend=false->fX G.n (G.E.ses k) c≠0-> ∀h',aM [] h h'->K (ap (fX G.n (G.E.ses k) c)) h')
  (hK: ∀k:Nat,k<4->i=(k:Int)->(G.E.ses k).pend=false->fX G.n (G.E.ses k) c=0-> ∀h',db h' e (eG G k c)->bD e G h (eG G k c) h'->K (ap 0) h'):
  Cl 24 [bg e,ap i,oH c] h K:=by
 refine EA W.I W.W.S W.de.1 hm hO hB hR λk hk ek hp hr h' I' O'=>hK k hk ek hp hr h' ?_ (bD.some O' (λb hb=>by simp at hb;subst hb;exact bq.2 (.inl rfl)) λb hb=>hb)
 have hs: ∀q,((eG G k c).E.ses q).there=(G.E.ses q).there/\((eG G k c).E.ses q).hnd=(G.E.ses q).hnd:=λq=>by
  show((G.E.put k (sq (G.E.ses k) c)).ses q).there=_/\((G.E.put k (sq (G.E.ses k) c)).ses q).hnd=_;rw[fR];by_cases z:q=k
  ·rw[MK z,z];exact⟨rfl,rfl⟩
  ·rw[MG z];exact⟨rfl,rfl⟩
 refine⟨W.W.only O' (λb hb=>by simp at hb;subst hb;exact W.de.1) (λb hb=>by simp at hb;subst hb;exact W.de.2.1),W.R.only O' (λb hb=>by simp at hb;subst hb;exact W.de.2.2),I',λx=> ?_,W.de,W.dB,λq hq r hr ht=> ?_,λq hq r hr ht=> ?_,λq hq=> ?_,W.po⟩
 ·rw[pN hs];exact W.C x
 ·rw[(hs q).2];rw[(hs q).1]at ht;exact W.rg q hq r hr ht
 ·rw[(hs q).2];rw[(hs q).1]at ht;exact W.r0 q hq r hr ht
 ·show((G.E.put k (sq (G.E.ses k) c)).ses q).cal.mask<256;rw[fR];by_cases z:q=k
  ·rw[MK z];exact hm
  ·rw[MG z];exact W.mq q hq
def oQ(x:gl)(i:Nat):Nat:=match (kg x.cal)[i]? with|some r=>x.hnd r.toNat|none=>0
def qW{x:gl}{r:Int}(h:(kg x.cal)[i]? =some r):oQ x i=x.hnd r.toNat:=by unfold oQ;rw[h]
def qU{x:gl}(h:(kg x.cal)[i]? =none):oQ x i=0:=by unfold oQ;rw[h]
def iC(x:gl)(n:Nat):gl:={x with job:=n}
def ER{h:aI}{e i:Nat}{G:EG}{K:KK}{b:Nat}{p:az}{l cc:Nat}{x5:Addr}{hb:aI}(hi:i<4)(W:db h e G)(A:At h b (cX 3 λ_=>aq (0:Int)))(c:b∉mF e G)(R:EB hb h p l (kg (G.E.ses i).cal))(m: ∀q L,p=some (aw q)->At h q L->q≠b)(ok:nv (G.E.ses i) (G.E.ses i).cal)
  (hK: ∀h',db h' e G->At h' b (cX 3 λj=>aq (oQ (G.E.ses i) j:Int))->aM [b] h h'->F172.wk10 (aw e) ⟨e,3+24*i,none⟩ x5 (aw b) h' K):
  F172.wk6 (aw e) ⟨e,3+24*i,none⟩ x5 (aw b) p l cc (Nat.cast l:Int) 0 h K:=by
 obtain⟨el,R⟩:=R;have l3:=wY (G.E.ses i).cal;unfold F172.wk6
 have f: ∀(d k:Nat) (hh:aI),d+k=l->db hh e G->At hh b (cX 3 λj=>aq ((if j<k then oQ (G.E.ses i) j else 0:Nat):Int))->aM [b] h hh->F172.wL6 (d+1) (aw e) ⟨e,3+24*i,none⟩ x5 (aw b) p l cc (Nat.cast l:Int) (k:Int) hh K:=by
  intro d
  induction d with
  |zero=>
   intro k hh hk W1 A1 O1;rw[F172.sL6];rw[MJ ah,aJ];refine hK hh W1 ?_ O1;rw[fq (g':=λj=>aq ((if j<k then oQ (G.E.ses i) j else 0:Nat):Int)) λj hj=> ?_]
   ·exact A1
   ·by_cases q:j<k
    ·rw[MK q]
    ·rw[MG q,qU (Nb ah)]
  |succ d ih=>
   intro k hh hk W1 A1 O1;rw[F172.sL6];rw[MP ah,aO];have a:k<(kg (G.E.ses i).cal).length:=ah;obtain⟨x,hx⟩: ∃x,(kg (G.E.ses i).cal)[k]? =some x:=⟨_,MT a⟩;rcases R with R|⟨q,Lc,ep,gb,Ab,g⟩
   ·rw[R]at a;simp at a
   have qb:=m q Lc ep Ab;have Aq:=Ab.only O1 (by simp;exact qb);obtain⟨rx,tx⟩:=ok x (MM hx);have r6:x.toNat<6:=by unfold kH at rx;omega
   rw[ep];refine⟨ah,ah,aH (n:=x) (by simp only[aL];rw[At.rd Aq,show 0+Int.toNat (Nat.cast k:Int)*1=k by simp];exact g k x hx) ⟨rx.1,rx.2,?_⟩⟩;refine aH (n:=((G.E.ses i).hnd x.toNat:Int)) (by simp only[aL];exact W1.I.hnd hi r6 ah) ⟨ah,ah,?_⟩;simp only[aL];rw[show 0+Int.toNat (Nat.cast k:Int)*1+0=k by simp];refine aU A1 (by rw[bZ];omega) rfl λh2 A2 O2 z2=> ?_;rw[sS ah,<-ep];have W2:db h2 e G:=⟨W1.W.only O2 (λy hy hm=>by simp at hy;subst hy;exact c (bq.2 (.inr (.inl hm)))) (λy hy hm=>by simp at hy;subst hy;exact c (bq.2 (.inr (.inr (.inr hm))))),W1.R.only O2 (λy hy hm=>by simp at hy;subst hy;exact c (bq.2 (.inr (.inr (.inl hm))))),W1.I.only O2 (λhm=>by simp at hm;exact c (bq.2 (.inl hm.symm))),W1.C,W1.de,W1.dB,W1.rg,W1.r0,W1.mq,W1.po⟩;refine ih (k+1) h2 ah W2 ?_ (O1.trans O2 λy hy _=>hy);rw[il]at A2;rw[fq (g':=λj=>if j=k then aq ((G.E.ses i).hnd x.toNat:Int)else aq ((if j<k then oQ (G.E.ses i) j else 0:Nat):Int)) λj hj=> ?_]
   ·exact A2
   ·by_cases z:j=k
    ·rw[MK z,MK ah,z,qW hx]
    ·rw[MG z];by_cases z2:j<k
     ·rw[MK z2,MK ah]
     ·rw[MG z2,MG ah]
 refine⟨_,f l 0 h ah W ?_ (aM.refl _ _)⟩;rw[fq (g':=λ_=>aq (0:Int)) λj hj=>by rw[MG ah];rfl];exact A
def wy(G:EG)(i:Nat)(ws:List Wk)(A:MA):EG:=
 {G with E:=G.E.put i (iC (G.E.ses i) (G.P.last+1)),P:={G.P with ws:=ws,jobs:=G.P.jobs++[⟨G.P.last+1,A⟩],last:=G.P.last+1}}
def Aw{h h':aI}{e i:Nat}{G:EG}{n:Nat}(W:db h e G)(hi:i<4)(I:dy h' e (G.E.put i (iC (G.E.ses i) n)))(O:aM [e] h h'):db h' e {G with E:=G.E.put i (iC (G.E.ses i) n)}/\bD e G h {G with E:=G.E.put i (iC (G.E.ses i) n)} h':=by
 have hs: ∀q,((G.E.put i (iC (G.E.ses i) n)).ses q).there=(G.E.ses q).there/\((G.E.put i (iC (G.E.ses i) n)).ses q).hnd=(G.E.ses q).hnd/\((G.E.put i (iC (G.E.ses i) n)).ses q).cal=(G.E.ses q).cal:=λq=>by
  rw[fR];by_cases z:q=i
  ·rw[MK z,z];exact⟨rfl,rfl,rfl⟩
  ·rw[MG z];exact⟨rfl,rfl,rfl⟩
 refine⟨⟨W.W.only O (λb hb=>by simp at hb;subst hb;exact W.de.1) (λb hb=>by simp at hb;subst hb;exact W.de.2.1),W.R.only O (λb hb=>by simp at hb;subst hb;exact W.de.2.2),I,λx=> ?_,W.de,W.dB,λk hk r hr ht=> ?_,λk hk r hr ht=> ?_,λk hk=> ?_,W.po⟩,bD.some O (λb hb=>by simp at hb;subst hb;exact bq.2 (.inl rfl)) λb hb=>hb⟩
 ·show G.f (x:Int)=(lS (G.E.put i (iC (G.E.ses i) n)) x:Int);rw[pN λk=>⟨(hs k).1,(hs k).2.1⟩];exact W.C x
 ·show isN G.N (((G.E.put i (iC (G.E.ses i) n)).ses k).hnd r);have ht:((G.E.put i (iC (G.E.ses i) n)).ses k).there r=true:=ht;rw[(hs k).2.1];rw[(hs k).1]at ht;exact W.rg k hk r hr ht
 ·show((G.E.put i (iC (G.E.ses i) n)).ses k).hnd r=0;have ht:((G.E.put i (iC (G.E.ses i) n)).ses k).there r=false:=ht;rw[(hs k).2.1];rw[(hs k).1]at ht;exact W.r0 k hk r hr ht
 ·show((G.E.put i (iC (G.E.ses i) n)).ses k).cal.mask<256;rw[(hs k).2.2];exact W.mq k hk
def CR(W:db h e G)(hi:i<4)(ok:nv (G.E.ses i) (G.E.ses i).cal)(hj:j<(kg (G.E.ses i).cal).length):isN G.N (oQ (G.E.ses i) j):=by obtain⟨x,hx⟩: ∃x,(kg (G.E.ses i).cal)[j]? =some x:=⟨_,MT hj⟩;obtain⟨rx,tx⟩:=ok x (MM hx);rw[qW hx];exact W.rg i hi _ (by unfold kH at rx;omega) tx
def wH{h:aI}{e i:Nat}{G:EG}{K:KK}(W:db h e G)(hi:i<4)(k3:(G.E.ses i).cal.kind=3){op:Nat}(eo:(G.E.ses i).cal.op=(op:Int))(f:op=1\/op=2\/op=3\/op=4\/op=5\/op=6\/op=7\/op=8\/op=9\/op=10)(ok:nv (G.E.ses i) (G.E.ses i).cal)(hl:G.P.last+1<100000000)(ha:G.E.ans<1000000000)(hR:AX G.E-> ∀h',aM [] h h'->K aB h')
  (hF: ∀h' (er:Nat),(er=40\/er=60\/er=160)->db h' e (gR G i (er:Int) 0)->bD e G h (gR G i (er:Int) 0) h'->K aC h')
  (hK: ∀h' ws A,db h' e (wy G i ws A)->bD e G h (wy G i ws A) h'->ws.length=G.P.ws.length->A.done=false->qlen ws=qlen G.P.ws+1->K aB h'):
  Cl 172 [bg e,kC e i] h K:=by
 refine F172.spec _ _ h K ?_;refine Cy W.I (λa h1 O1=>aZ rfl (by rw[aO];exact hR a h1 O1)) λ_ h1 O1=>aZ rfl ?_;rw[aJ];have W1:=W.only0 O1;simp only[aL,MF];refine aH (W1.I.kind hi ah) (aH (W1.I.op hi ah) (aH (W1.I.dst hi ah) (aH (W1.I.ca hi ah) (aH (W1.I.cb hi ah) (aH (W1.I.cc hi ah) (aH (W1.I.mask hi ah) ?_))))));obtain⟨c,ec⟩: ∃c,c=(G.E.ses i).cal:=⟨_,rfl⟩;rw[<-ec];refine aX λh2 A2 O2 z2=> ?_;refine aU A2 ak rfl λh3 A3 O3 z3=>aU A3 ak rfl λh4 A4 O4 z4=>aU A4 ak rfl λh5 A5 O5 z5=>aU A5 ak rfl λh6 A6 O6 z6=>aU A6 ak rfl λh7 A7 O7 z7=>aU A7 ak rfl λh8 A8 O8 z8=>aU A8 ak rfl λh9 A9 O9 z9=> ?_;have A9:At h9 h1.size [ap c.kind,ap c.op,ap c.dst,ap c.a,ap c.b,ap c.c,.int .u8 (c.mask:Int)]:=A9;have O29:aM [h1.size] h2 h9:=(((((O3.trans O4 λb hb _=>hb).trans O5 λb hb _=>hb).trans O6 λb hb _=>hb).trans O7 λb hb _=>hb).trans O8 λb hb _=>hb).trans O9 λb hb _=>hb;have O19:aM [] h1 h9:=O2.trans O29 (by intro x hx hl;simp at hx;omega);refine aX λu A10 O10 B=> ?_;have C:=A9.lt;have A9':=A9.only O10 ak;have r: ∀k,rd u ⟨h1.size,k,none⟩=([ap c.kind,ap c.op,ap c.dst,ap c.a,ap c.b,ap c.c,.int .u8 (c.mask:Int)]:List Value)[k]? :=λk=>At.rd A9' k;refine aH (n:=c.kind) (by rw[r];rfl) (aH (n:=c.op) (by rw[r];rfl) (aH (n:=c.dst) (by rw[r];rfl) (aH (n:=c.a) (by rw[r];rfl) (aH (n:=c.b) (by rw[r];rfl) (aH (n:=c.c) (by rw[r];rfl) (aH (n:=(c.mask:Int)) (by rw[r];rfl) ?_))))));refine uB (c:=c) λo p l cc O11 R11=>⟨_,_,_,rfl,?_⟩;have W10:=(W1.only0 O19).only0 O10;have W11:=W10.only0 O11;have t:=(W1.only0 O19).lt;have A11:At o h9.size (cX 3 λ_=>aq (0:Int)):=A10.only O11 ak;rw[ec]at R11;have nb:h9.size∉mF e G:=λhm=>by have:=t _ hm;omega
 refine ER (b:=h9.size) hi W11 A11 nb R11 (λq L ep Aq=> ?_) ok λd W12 A12 O12=> ?_
 ·obtain⟨el,R⟩:=R11;rcases R with R|⟨q2,L2,e2,g2,-,-⟩
  ·intro eq;have l0:l=0:=by rw[el,R];rfl
   have hh:(kg (G.E.ses i).cal).length=(cg (G.E.ses i).cal.op).toNat:=by unfold kg;rw[MG ah,MG ah,MK k3,N7];have:=uu (G.E.ses i).cal.op;simp;omega
   rw[R,eo]at hh;rcases f with z|z|z|z|z|z|z|z|z|z<;>subst z<;>cases hh
  ·rw[ep]at e2;injection e2 with e2;injection e2 with e2;omega
 ·unfold F172.wk10;have A9'':At d h1.size [ap c.kind,ap c.op,ap c.dst,ap c.a,ap c.b,ap c.c,.int .u8 (c.mask:Int)]:=(A9'.only O11 ak).only O12 (by simp;omega);have rc: ∀k,rd d ⟨h1.size,k,none⟩=([ap c.kind,ap c.op,ap c.dst,ap c.a,ap c.b,ap c.c,.int .u8 (c.mask:Int)]:List Value)[k]? :=λk=>At.rd A9'' k;have ra: ∀k,k<3->rd d ⟨h9.size,k,none⟩=some (aq (oQ (G.E.ses i) k:Int)):=λk hk=>by rw[At.rd A12,dk hk]
  simp only[aL,MF];refine aR W12.I.p (aH (n:=c.op) (by rw[rc];rfl) ⟨ah,ah,aH (ra 0 ah) ⟨ah,ah,aH (ra 1 ah) ⟨ah,ah,aH (ra 2 ah) (aH (n:=(c.mask:Int)) (by rw[rc];rfl) ?_)⟩⟩⟩)
  have hn: ∀j,isN G.N (oQ (G.E.ses i) j):=λj=>by
   by_cases q:j<(kg (G.E.ses i).cal).length
   ·exact CR W12 hi ok q
   ·rw[qU (Nb ah)];exact .inl ah
  rw[ec,eo];have mq:=W.mq i hi;have O0:aM [] h d:=((((O1.trans O19 ak).trans O10 ak).trans O11 ak).trans O12 (by intro x hx hl;simp at hx;have:=O1.size;have:=O19.size;omega));have S0:bD e G h G d:=bD.only0 O0;refine Es mq W12.W.S W12.W.H W12.W.Ok W12.po W12.W.D f (hn 0) (hn 1) (hn 2) hl (λm er ez O13=>⟨_,_,rfl,?_⟩) λ_ m ws A S13 H13 Ok13 g D13 wl dn ql O13=>⟨_,_,rfl,?_⟩
  ·rw[show((er:Int) !=0)=true by simp;omega,aO];have W13:=W12.only0 O13;refine dJ (n:=0) W13 hi ha λy W14 S14=>⟨rfl,hF y er ez W14 ((S0.trans (bD.only0 O13)).trans S14)⟩
  rw[show((0:Int) !=0)=false from rfl,aJ];have W13:yi m G.E.p G.E.s G.n G.room G.fo G.gg G.off G.N {G.P with ws:=ws,jobs:=G.P.jobs++[⟨G.P.last+1,A⟩],last:=G.P.last+1} G.L:=⟨S13,H13,Ok13,W12.po,D13⟩;obtain⟨W14,S14⟩:=W12.pool W13 (Ex.refl _) ⟨λT hT _=>O13 T hT,bH.refl _ _,g⟩;refine dy.setS (x:=iC (G.E.ses i) (G.P.last+1)) W14.I hi (j:=20) ah ah rfl (λq hq=>Bx (x:=G.E.ses i) q hq) λv I15 O15 _=> ?_;obtain⟨W15,S15⟩:=Aw W14 hi I15 O15;exact hK v ws A W15 ((S0.trans S14).trans S15) wl dn ql
def wA(G:EG)(id:Nat):EG:={G with P:={G.P with jobs:=G.P.jobs.filter λz=>decide (z.id≠id)}}
def Ce{h:aI}{e:Nat}{G:EG}{K:KK}{id:Nat}(W:db h e G){x:Nat}{j:Jb}(hx:G.P.jobs[x]? =some j)(ej:j.id=id)(hd:j.A.done=true)
  (hK: ∀h' b,db h' e (wA G id)->bD e G h (wA G id) h'->K (aD b) h'):Cl 36 [bg G.E.p,ap (id:Int)] h K:=by
 have hm:=MM hx;refine Bi W.W.H W.W.Ok (λq=> ?_) λh1 j' c f a H1 Ok1 O1=> ?_
 ·exfalso;rcases q with q|⟨j',c,f,a⟩
  ·exact q j hm (by rw[ej])
  ·have ids:=W.W.H.ids
   have:j'=j:=by
    obtain⟨y,hy⟩:=OI c;have e1:(G.P.jobs.map (·.id))[y]? =some id:=by rw[Nf,hy];exact congrArg some (show j'.id=_ by omega)
    have e2:(G.P.jobs.map (·.id))[x]? =some id:=by rw[Nf,hx];exact congrArg some ej
    have:=fJ ids.1 e1 e2;subst this;rw[hy]at hx;injection hx
   subst this;rw[hd]at a;cases a
 ·have d:j'.id=id:=ah;rw[d]at H1 Ok1
  have sub: ∀b,dI G.E.p {G.P with jobs:=G.P.jobs.filter λz=>decide (z.id≠id)} b->dI G.E.p G.P b:=λb hb=>by
   rcases hb with hb|hb|hb|hb|⟨y,hy,hb⟩
   ·exact .inl hb
   ·exact .inr (.inl hb)
   ·exact .inr (.inr (.inl hb))
   ·exact .inr (.inr (.inr (.inl hb)))
   ·exact .inr (.inr (.inr (.inr ⟨y,(List.mem_filter.1 hy).1,hb⟩)))
  have W1:yi h1 G.E.p G.E.s G.n G.room G.fo G.gg G.off G.N {G.P with jobs:=G.P.jobs.filter λz=>decide (z.id≠id)} G.L:=
   ⟨W.W.S.only O1 (λb hb hm=>by simp at hb;subst hb;exact W.W.D _ (.inr (.inl rfl)) hm),H1,Ok1,W.W.po,λb hb=>W.W.D b (sub b hb)⟩
  obtain⟨W2,S2⟩:=W.pool W1 (Ex.refl _) ⟨λT hT _=>O1.mono λb hb _=>by simp at hb;subst hb;exact hT _ (.inr (.inl rfl)),bH.refl _ _,λb hb=> .inl (sub b hb)⟩;exact hK h1 true W2 S2
def vS{h:aI}{e i:Nat}{G:EG}{K:KK}(W:db h e G)(hi:i<4){x:Nat}{j:Jb}(hx:G.P.jobs[x]? =some j)(ej:j.id=(G.E.ses i).job)(h0:(G.E.ses i).job≠0)(hd:j.A.done=false)(hK:K aB h):Cl 127 [bg e,kC e i] h K:=by
 have hm:=MM hx;refine F127.spec ?_;simp only[aL,MF];refine aH (W.I.job hi ah) ?_;rw[kU ah,aJ];refine aR W.I.p (aH (W.I.job hi ah) ?_);refine uC W.W.H (λq=>Nc ah (q j hm)) λy j' hy a=>⟨_,_,rfl,?_⟩
 have:j'=j:=by
  have e1:(G.P.jobs.map (·.id))[y]? =some j.id:=by rw[Nf,hy];exact congrArg some (show j'.id=_ by omega)
  have e2:(G.P.jobs.map (·.id))[x]? =some j.id:=by rw[Nf,hx];rfl
  have:=fJ W.W.H.ids.1 e1 e2;subst this;rw[hy]at hx;injection hx
 subst this;rw[MG (by rw[hd];simp),show((61:Int)==61)=true from rfl,aO];exact hK
def mD(G:EG)(i d:Nat)(told er:Nat)(f':Int->Int):EG:=gR (wA (if er=0 then vd G i d told f' else G) (G.E.ses i).job) i (er:Int) 0
def vA{h:aI}{e i:Nat}{G:EG}{K:KK}(W:db h e G)(hi:i<4){d x:Nat}{j:Jb}(hx:G.P.jobs[x]? =some j)(ej:j.id=(G.E.ses i).job)(h0:(G.E.ses i).job≠0)(hd:j.A.done=true)(he:j.A.e=0\/j.A.e=60)(hv:j.A.e=0->isN G.N j.A.told)(a:d<6)(ed:(G.E.ses i).cal.dst=(d:Int))
  (hM:G.M+1<=LB) (ha:G.E.ans<1000000000) (hK: ∀h' f',db h' e (mD G i d j.A.told j.A.e f')->bD e G h (mD G i d j.A.told j.A.e f') h'->K aC h'):Cl 127 [bg e,kC e i] h K:=by
 have hm:=MM hx;refine F127.spec ?_;simp only[aL,MF];refine aH (W.I.job hi ah) ?_;rw[kU ah,aJ];refine aR W.I.p (aH (W.I.job hi ah) ?_);refine uC W.W.H (λq=>Nc ah (q j hm)) λy j' hy c=>⟨_,_,rfl,?_⟩
 have:j'=j:=by
  have e1:(G.P.jobs.map (·.id))[y]? =some j.id:=by rw[Nf,hy];exact congrArg some (show j'.id=_ by omega)
  have e2:(G.P.jobs.map (·.id))[x]? =some j.id:=by rw[Nf,hx];rfl
  have:=fJ W.W.H.ids.1 e1 e2;subst this;rw[hy]at hx;injection hx
 subst this;rw[MK hd]
 have fin: ∀{hh:aI} {G1:EG} {er:Nat},db hh e G1->bD e G h G1 hh->G1.P=G.P->(G1.E.ses i).job=(G.E.ses i).job->G1.E.ans=G.E.ans->(∀h2,db h2 e (gR (wA G1 (G.E.ses i).job) i (er:Int) 0)->bD e G h (gR (wA G1 (G.E.ses i).job) i (er:Int) 0) h2->K aC h2)->F127.wk8 (aw e) ⟨e,3+24*i,none⟩ (er:Int) hh K:=λ{hh G1 er} W1 S1 eP eJ eA hK=>by unfold F127.wk8;simp only[aL,MF];refine aR W1.I.p (aH (W1.I.job hi ah) ?_);rw[eJ];refine Ce W1 (x:=x) (j:=j') (by rw[eP];exact hx) ej hd λh2 b W2 S2=>aZ rfl ?_;refine dJ (n:=0) W2 hi (by show G1.E.ans<_;rw[eA];exact ha) λh3 W3 S3=>⟨rfl,hK h3 W3 ((S1.trans S2).trans S3)⟩
 unfold mD at hK;rcases he with z|z
 ·rw[z,MK ⟨hd,rfl⟩,show(((0:Nat):Int)==61)=false from rfl,aJ,show(((0:Nat):Int)==0)=true from rfl,aO];refine vD W hi a ed (hv z) hM λh1 f1 W1 S1=>⟨rfl,?_⟩;rw[z]at hK;refine fin W1 S1 rfl (by show((G.E.put i (setS (G.E.ses i) d j'.A.told)).ses i).job=_;rw[cW];rfl) rfl λh2 W2 S2=> ?_;have:=hK h2 f1;rw[MK rfl]at this;exact this W2 S2
 ·rw[z,MG ah,show(((60:Nat):Int)==61)=false from rfl,aJ,show(((60:Nat):Int)==0)=false from rfl,aJ];rw[z]at hK;refine fin W bD.refl rfl rfl rfl λh2 W2 S2=> ?_;have:=hK h2 G.f;rw[MG ah]at this;exact this W2 S2
def xf(H:cY n N): ∀(d:Nat) {a x y:Nat},n-lvl n N a<=d->isN N a->(∀l,lvl n N a<=l->l<n->x.testBit (fo l)=y.testBit (fo l))->sm n fo N a x=sm n fo N a y:=by
 intro d
 induction d with
 |zero=>
  intro a x y hd ha hb
  have h2:a<2:=by apply MS;intro hn;have:=(H.at ha ah).1;omega
  rw[bC h2,bC h2]
 |succ d ih=>
  intro a x y hd ha hb;by_cases h2:a<2
  ·rw[bC h2,bC h2]
  ·obtain⟨h3,h4,h5,-,h6,h7⟩:=H.at ha ah;rw[cJ H ha ah,cJ H ha ah,hb _ (MN _) h3,ih (a:=high N a) (x:=x) (y:=y) ah h5 (λl hl=>hb l ah),ih (a:=low N a) (x:=x) (y:=y) ah h4 (λl hl=>hb l ah)]
def qi(P:cF n fo gg)(hl:l<n)(a:l'<n)(e:fo l=fo l'):l=l':=by rw[<-(P.2 l hl).2,<-(P.2 l' a).2,e]
def FT(H:cY n N)(P:cF n fo gg)(n8:n<=8): ∀(d:Nat) {a b:Nat},n-min (lvl n N a) (lvl n N b)<=d->isN N a->isN N b->(∀x,x<256->sm n fo N a x=sm n fo N b x)->a=b:=by
 have rX: ∀{a x:Nat} {v:Bool},isN N a->2<=a->x<256->sm n fo N a (wV x (fo (lvl n N a)) v)=if v=true then sm n fo N (high N a) x else sm n fo N (low N a) x:=λ{a x v} ha h2 hx=>by
  obtain⟨h3,h4,h5,-,h6,h7⟩:=H.at ha h2;have f8:fo (lvl n N a)<8:=by have:=(P.2 _ h3).1;omega
  have f: ∀l,lvl n N a<l->l<n->(wV x (fo (lvl n N a)) v).testBit (fo l)=x.testBit (fo l):=λl hl hn=>by
   have fl:fo l<8:=by have:=(P.2 l hn).1;omega
   rw[mK hx f8 v fl,MG];intro e;have:=qi P h3 hn (by first|exact e|exact e.symm);omega
  rw[cJ H ha h2,mK hx f8 v f8,MK rfl];cases v with
  |true=>
   rw[MK rfl,MK rfl];exact xf H n ah h5 λl hl hn=>f l ah hn
  |false=>
   rw[MG ak,MG ak];exact xf H n ah h4 λl hl hn=>f l ah hn
 have g: ∀{b x l:Nat} {v:Bool},isN N b->l<lvl n N b->l<n->x<256->sm n fo N b (wV x (fo l) v)=sm n fo N b x:=λ{b x l v} hb hl hn hx=>by
  have f8:fo l<8:=by have:=(P.2 _ hn).1;omega
  refine xf H n ah hb λl' m i=> ?_;have fl:fo l'<8:=by have:=(P.2 l' i).1;omega
  rw[mK hx f8 v fl,MG];intro e;have:=qi P hn i (by first|exact e|exact e.symm);omega
 intro d
 induction d with
 |zero=>
  intro a b hd ha hb he
  have a2:a<2:=by apply MS;intro hn;have:=(H.at ha ah).1;omega
  have b2:b<2:=by apply MS;intro hn;have:=(H.at hb ah).1;omega
  have:=he 0 ah;rw[bC a2,bC b2]at this;have e2:(a==1)=(b==1):=this;have:a=0\/a=1:=ah;have:b=0\/b=1:=ah;rcases ‹a=0\/a=1› with q|q<;>rcases ‹b=0\/b=1› with r|r<;>subst q r<;>first|rfl|(simp at e2)
 |succ d ih=>
  have c: ∀{a b:Nat},n-min (lvl n N a) (lvl n N b)<=d+1->isN N a->isN N b->(∀x,x<256->sm n fo N a x=sm n fo N b x)->lvl n N a<lvl n N b->False:=λ{a b} hd ha hb he hl=>by
   have a2:2<=a:=by
    apply MS;intro hn;have e1:lvl n N a=n:=by unfold lvl;rw[MK ah]
    have:=lvl_le H hb;omega
   obtain⟨h3,h4,h5,j,h6,h7⟩:=H.at ha a2;apply j;refine ih ah h4 h5 λx hx=> ?_;have f8:fo (lvl n N a)<8:=by have:=(P.2 _ h3).1;omega
   have e1:=he (wV x (fo (lvl n N a)) false) (DG hx f8 _);have e2:=he (wV x (fo (lvl n N a)) true) (DG hx f8 _);rw[rX ha a2 hx,g hb hl h3 hx]at e1 e2;rw[MG ak]at e1;rw[MK rfl]at e2;rw[e1,e2]
  intro a b hd ha hb he;by_cases a2:2<=a
  ·by_cases b2:2<=b
   ·by_cases hl:lvl n N a=lvl n N b
    ·obtain⟨a3,a4,a5,-,a6,a7⟩:=H.at ha a2;obtain⟨b3,b4,b5,-,b6,b7⟩:=H.at hb b2;have f8:fo (lvl n N a)<8:=by have:=(P.2 _ a3).1;omega
     have el:low N a=low N b:=by refine ih ah a4 b4 λx hx=> ?_;have e1:=he (wV x (fo (lvl n N a)) false) (DG hx f8 _);rw[rX ha a2 hx,hl,rX hb b2 hx,MG ak,MG ak]at e1;exact e1
     have eh:high N a=high N b:=by refine ih ah a5 b5 λx hx=> ?_;have e1:=he (wV x (fo (lvl n N a)) true) (DG hx f8 _);rw[rX ha a2 hx,hl,rX hb b2 hx,MK rfl,MK rfl]at e1;exact e1
     rcases ha with q|⟨x,hx⟩
     ·omega
     rcases hb with q|⟨y,hy⟩
     ·omega
     have la:lvl n N a=x.1/\low N a=x.2.1/\high N a=x.2.2:=by unfold lvl low high;rw[MG ah,MG ah,MG ah,hx];exact⟨rfl,rfl,rfl⟩
     have lb:lvl n N b=y.1/\low N b=y.2.1/\high N b=y.2.2:=by unfold lvl low high;rw[MG ah,MG ah,MG ah,hy];exact⟨rfl,rfl,rfl⟩
     have k:x=y:=by obtain⟨x1,x2,x3⟩:=x;obtain⟨y1,y2,y3⟩:=y;have c1:x1=y1:=la.1.symm.trans (hl.trans lb.1);have c2:x2=y2:=la.2.1.symm.trans (el.trans lb.2.1);have c3:x3=y3:=la.2.2.symm.trans (eh.trans lb.2.2);rw[c1,c2,c3]
     subst k;have:=H.once _ _ _ hx hy;omega
    ·by_cases h:lvl n N a<lvl n N b
     ·exact(c hd ha hb he h).elim
     ·exact(c (by rw[Nat.min_comm];exact hd) hb ha (λx hx=>(he x hx).symm) ah).elim
   ·have e1:lvl n N b=n:=by unfold lvl;rw[MK ah]
    exact(c hd ha hb he (by rw[e1];exact(H.at ha a2).1)).elim
  ·by_cases b2:2<=b
   ·have e1:lvl n N a=n:=by unfold lvl;rw[MK ah]
    exact(c (by rw[Nat.min_comm];exact hd) hb ha (λx hx=>(he x hx).symm) (by rw[e1];exact(H.at hb b2).1)).elim
   ·have:=he 0 ah;rw[bC ah,bC ah]at this;have e2:(a==1)=(b==1):=this;have qa:a=0\/a=1:=ah;have qb:b=0\/b=1:=ah;rcases qa with q|q<;>rcases qb with r|r<;>subst q r<;>first|rfl|(simp at e2)
def Dg(P:cF n fo gg)(hk:k+1<n):cF n (sw k fo) (tf k fo gg):=by
 have k1:=P.2 k ah;have k2:=P.2 (k+1) hk
 have ne:fo k≠fo (k+1):=λe=>by have h1:=k1.2;rw[e,k2.2]at h1;omega
 refine⟨λv hv=> ?_,λl hl=> ?_⟩
 ·unfold tf iX;by_cases e1:v=fo k
  ·rw[MK e1];refine⟨hk,?_⟩;unfold sw iX;rw[MK rfl,e1]
  ·rw[MG e1];by_cases e2:v=fo (k+1)
   ·rw[MK e2];refine⟨ah,?_⟩;unfold sw iX;rw[MG ah,MK rfl,e2]
   ·rw[MG e2];obtain⟨q1,q2⟩:=P.1 v hv;refine⟨q1,?_⟩;unfold sw iX;rw[MG (λe=>e2 (by rw[<-e,q2])),MG (λe=>e1 (by rw[<-e,q2])),q2]
 ·unfold sw iX;by_cases e1:l=k+1
  ·rw[MK e1];refine⟨k1.1,?_⟩;unfold tf iX;rw[MK rfl,e1]
  ·rw[MG e1];by_cases e2:l=k
   ·rw[MK e2];refine⟨k2.1,?_⟩;unfold tf iX;rw[MG (λe=>ne e.symm),MK rfl,e2]
   ·rw[MG e2];obtain⟨q1,q2⟩:=P.2 l hl;refine⟨q1,?_⟩;unfold tf iX;rw[MG (λe=>e2 (by rw[<-q2,e,k1.2])),MG (λe=>e1 (by rw[<-q2,e,k2.2])),q2]
def ur(H:cK h b n f g)(hk:k<8)(hv:v<8)
  (hK: ∀h',cK h' b n (iX f k v) (iX g v k)->aM [b] h h'->K aE h'):
  Cl 370 [au (aw b),ap (k:Int),ap (v:Int)] h K:=by
 apply F370.spec;simp only[aL,MF,Nz,ML,MO];refine⟨ah,ah,H.stv hk λh1 A1 O1=>⟨trivial,trivial,trivial,trivial,trivial,ah,ah,A1.stl hv λh2 A2 O2=> ?_⟩⟩;exact hK h2 A2 (O1.trans O2 ak)
def Cn(H:cK h b n f g)(hn:n<=8)(hk:k+1<n)(hf: ∀i,i<n->f i<n)
  (hK: ∀h',cK h' b n (sw k f) (tf k f g)->aM [b] h h'->K (ap 0) h'):
  Cl 369 [au (aw b),ap (k:Int)] h K:=by
 apply F369.spec;have e1:ax ((k:Int)+1)=((k+1:Nat):Int):=by rw[wrap_i64 ah ah];simp
 have e2:ax ((n:Int)-1)=(n:Int)-1:=wrap_i64 ah ah;simp only[aL,MF,Nz,MO,e1];have f1:=hf k ah;have f2:=hf (k+1) ah;rw[MJ ah,aJ];refine aH H.rd0 ?_;rw[e2,MJ ah,aJ];refine⟨ah,ah,aH (H.rdv ah) ⟨ah,ah,aH (H.rdv ah) ?_⟩⟩;refine ur H ah ah λh1 A1 O1=>⟨rfl,ur A1 ah ah λh2 A2 O2=>⟨rfl,hK h2 A2 (O1.trans O2 ak)⟩⟩
def FR(D D':ay)(q:Nat)(x:Nd):Prop:=nd D q=none/\ ∀i,nd D' i=if i=q then some x else nd D i
def FR.ex(A:FR D D' q x):Ex D D':=λi y h=>by rw[A.2,MG (λe=>by subst e;rw[A.1]at h;cases h)];exact h
def FR.new(A:FR D D' q x):nd D' q=some x:=by rw[A.2,MK rfl]
def FR.ok(A:FR D D' q x)(H:cY n D)(h1:x.1<n)(h2:isN D x.2.1)(h3:isN D x.2.2)(h4:x.2.1≠x.2.2)(h5:x.1<lvl n D x.2.1)(h6:x.1<lvl n D x.2.2)(h7: ∀i,nd D i≠some x):cY n D':=by
 have E:=A.ex;refine⟨λi y hy=> ?_,λi j y hi hj=> ?_⟩
 ·rw[A.2]at hy;split at hy
  ·injection hy with hy;subst hy;exact⟨h1,E.isN h2,E.isN h3,h4,by rw[E.lvl h2];exact h5,by rw[E.lvl h3];exact h6⟩
  ·obtain⟨a,b,c,d,e,f⟩:=H.node i y hy;exact⟨a,E.isN b,E.isN c,d,by rw[E.lvl b];exact e,by rw[E.lvl c];exact f⟩
 ·rw[A.2]at hi hj;split at hi
  ·split at hj
   ·omega
   ·injection hi with hi;subst hi;exact Nc hj (h7 j)
  ·split at hj
   ·injection hj with hj;subst hj;exact Nc hi (h7 i)
   ·exact H.once i j y hi hj
def eO(h:nd D i=some x):isN D (i+2)/\lvl n D (i+2)=x.1/\low D (i+2)=x.2.1/\high D (i+2)=x.2.2:=by
 refine⟨.inr ⟨x,h⟩,?_,?_,?_⟩
 ·unfold lvl;rw[MG ah,show i+2-2=i by omega,h]
 ·unfold low;rw[MG ah,show i+2-2=i by omega,h]
 ·unfold high;rw[MG ah,show i+2-2=i by omega,h]
def fI(h:isN D a)(h2:2<=a):nd D (a-2)=some (lvl n D a,low D a,high D a):=by
 rcases h with q|⟨x,hx⟩
 ·omega
 ·rw[show a=a-2+2 by omega];obtain⟨-,e1,e2,e3⟩:=eO (n:=n) hx;rw[show a-2+2-2=a-2 by omega,hx,e1,e2,e3]
def lF(H:cY n N)(P:cF n fo gg)(n8:n<=8)(hb:isN N b)(hl:l<lvl n N b)(hn:l<n)(hx:x<256):sm n fo N b (wV x (fo l) v)=sm n fo N b x:=by
 have f8:fo l<8:=by have:=(P.2 _ hn).1;omega
 refine xf H n ah hb λl' c a=> ?_;have fl:fo l'<8:=by have:=(P.2 l' a).1;omega
 rw[mK hx f8 v fl,MG];intro e;have:=qi P hn a (by first|exact e|exact e.symm);omega
def Cu(H:cY n N)(P:cF n fo gg)(n8:n<=8)(ha:isN N a)(hb:isN N b)(ne:a≠b): ∃x,x<256/\sm n fo N a x≠sm n fo N b x:=by apply MS;intro h;exact ne (FT H P n8 n ah ha hb λx hx=>MS λq=>h ⟨x,hx,q⟩)
def part(n k:Nat)(N:ay)(a:Nat):Nat×Nat:=if lvl n N a=k+1 then(low N a,high N a)else(a,a)
structure DJ(n k:Nat)(fo:Nat->Nat)(N D:ay)(U:List Nat):Prop where
 ok:cY n D
 lev: ∀i x,nd D i=some x->k<=x.1
 old: ∀a,isN N a->k<=lvl n N a->a∉U->isN D a/\ ∀x,sm n (sw k fo) D a x=sm n fo N a x
 top: ∀i x,nd D i=some x->x.1=k->isN N (i+2)/\k<=lvl n N (i+2)/\i+2∉U
 un: ∀a∈U,2<=a/\nd D (a-2)=none/\isN N a/\lvl n N a=k/\(lvl n N (low N a)=k+1\/lvl n N (high N a)=k+1)
 deep: ∀a,isN N a->k+1<lvl n N a->lvl n D a=lvl n N a
def nV(H:cY n N)(hc:isN N c)(hk:k<lvl n N c)(h2:k+1<n):(isN N (part n k N c).1/\k+1<lvl n N (part n k N c).1)/\(isN N (part n k N c).2/\k+1<lvl n N (part n k N c).2)/\ ∀x,sm n fo N c x=if x.testBit (fo (k+1))then sm n fo N (part n k N c).2 x else sm n fo N (part n k N c).1 x:=by
 unfold part;by_cases q:lvl n N c=k+1
 ·rw[MK q]
  have c2:2<=c:=by
   apply MS;intro w;have:lvl n N c=n:=by unfold lvl;rw[MK ah]
   omega
  obtain⟨h3,h4,h5,-,h6,h7⟩:=H.at hc c2;exact⟨⟨h4,by show k+1<lvl n N (low N c);omega⟩,⟨h5,by show k+1<lvl n N (high N c);omega⟩,λx=>by rw[cJ H hc c2,q]⟩
 ·rw[MG q];exact⟨⟨hc,by show k+1<lvl n N c;omega⟩,⟨hc,by show k+1<lvl n N c;omega⟩,λx=>ak⟩
inductive JJ (D:ay) (l a b:Nat):ay->Nat->Prop
 |same:a=b->JJ D l a b D a
 |found (i:Nat):a≠b->nd D i=some (l,a,b)->JJ D l a b D (i+2)
 |made (D':ay) (q:Nat):a≠b->(∀i,nd D i≠some (l,a,b))->FR D D' q (l,a,b)->JJ D l a b D' (q+2)
def DJ.made(M:DJ n k fo N D U)(hk:k+1<n)(ha:isN N a)(la:k+1<lvl n N a)(hb:isN N b)(lb:k+1<lvl n N b)(R:JJ D (k+1) a b D' r)(hU: ∀c∈U,nd D' (c-2)=none):
  DJ n k fo N D' U/\Ex D D'/\isN D' r/\k+1<=lvl n D' r/\ ∀x,sm n (sw k fo) D' r x=if x.testBit (fo k)then sm n fo N b x else sm n fo N a x:=by
 have nU: ∀{c},k+1<lvl n N c->c∉U:=λhc hm=>by have:=(M.un _ hm).2.2.2.1;omega
 obtain⟨a1,a2⟩:=M.old a ha ah (nU la);obtain⟨b1,b2⟩:=M.old b hb ah (nU lb);have a3:=M.deep a ha la;have b3:=M.deep b hb lb;have sk:sw k fo (k+1)=fo k:=by unfold sw iX;rw[MK rfl]
 cases R with
 |same e=>
  subst e;exact⟨M,Ex.refl _,a1,ah,λx=>by rw[a2];simp⟩
 |found i ne hi=>
  obtain⟨e0,e1,e2,e3⟩:=eO (n:=n) hi;refine⟨M,Ex.refl _,e0,by rw[e1];exact MN _,λx=> ?_⟩;rw[cJ M.ok e0 ah,e1,e2,e3,sk,a2,b2]
 |made D' q ne no A=>
  have E:=A.ex;have d:=A.ok M.ok hk a1 b1 ne (by rw[a3];exact la) (by rw[b3];exact lb) no;have hn:=A.new;obtain⟨e0,e1,e2,e3⟩:=eO (n:=n) hn;refine⟨⟨d,λi x hx=> ?_,λc hc hl hu=> ?_,λi x hx f=> ?_,λc hc=> ?_,λc hc hl=> ?_⟩,E,e0,by rw[e1];exact MN _,λx=> ?_⟩
  ·rw[A.2]at hx;split at hx
   ·injection hx with hx;subst hx;show k<=k+1;omega
   ·exact M.lev i x hx
  ·obtain⟨c1,c2⟩:=M.old c hc hl hu;exact⟨E.isN c1,λx=>by rw[E.sm M.ok c1];exact c2 x⟩
  ·rw[A.2]at hx;split at hx
   ·injection hx with hx;subst hx;exact Nc f (by show ¬k+1=k;omega)
   ·exact M.top i x hx f
  ·obtain⟨c1,-,c3⟩:=M.un c hc;exact⟨c1,hU c hc,c3⟩
  ·rw[E.lvl (M.old c hc ah (nU hl)).1];exact M.deep c hc hl
  ·rw[cJ d e0 ah,e1,e2,e3,sk,E.sm M.ok a1,E.sm M.ok b1,a2,b2]
def DJ.put(M:DJ n k fo N D (c::U))(H:cY n N)(P:cF n fo gg)(n8:n<=8)(hk:k+1<n)(f:c∉U)
  (i0:isN D x0) (l0:k+1<=lvl n D x0) (s0: ∀x,sm n (sw k fo) D x0 x=if x.testBit (fo k)then sm n fo N (part n k N (high N c)).1 x else sm n fo N (part n k N (low N c)).1 x)
  (i1:isN D x1) (l1:k+1<=lvl n D x1) (s1: ∀x,sm n (sw k fo) D x1 x=if x.testBit (fo k)then sm n fo N (part n k N (high N c)).2 x else sm n fo N (part n k N (low N c)).2 x):
  (x0≠x1/\ ∀i,nd D i≠some (k,x0,x1))/\ ∀D',FR D D' (c-2) (k,x0,x1)->DJ n k fo N D' U:=by
 obtain⟨c2,cn,ci,cl,cb⟩:=M.un c ak;obtain⟨h3,h4,h5,h,h6,h7⟩:=H.at ci c2;rw[cl]at h3 h6 h7;obtain⟨⟨a1,a2⟩,⟨a3,a4⟩,a5⟩:=nV (fo:=fo) H h4 h6 hk;obtain⟨⟨b1,b2⟩,⟨b3,b4⟩,b5⟩:=nV (fo:=fo) H h5 h7 hk;have sk:sw k fo k=fo (k+1):=by unfold sw iX;rw[MG ah,MK rfl]
 have fn: ∀x,sm n fo N c x=if x.testBit (fo (k+1))then sm n (sw k fo) D x1 x else sm n (sw k fo) D x0 x:=λx=>by rw[cJ H ci c2,cl,a5,b5,s0,s1];cases x.testBit (fo k)<;>cases x.testBit (fo (k+1))<;>rfl
 have f8:fo k<8:=by have:=(P.2 k ah).1;omega
 have d:x0≠x1:=λe=>by
  have eq: ∀x,(if x.testBit (fo k)then sm n fo N (part n k N (high N c)).1 x else sm n fo N (part n k N (low N c)).1 x)=if x.testBit (fo k)then sm n fo N (part n k N (high N c)).2 x else sm n fo N (part n k N (low N c)).2 x:=λx=>by rw[<-s0,<-s1,e]
  rcases cb with q|q
  ·have ep:part n k N (low N c)=(low N (low N c),high N (low N c)):=MK q
   have l2:2<=low N c:=by
    apply MS;intro w;have:lvl n N (low N c)=n:=by unfold lvl;rw[MK ah]
    omega
   obtain⟨y,hy,hd⟩:=Cu H P n8 (H.at h4 l2).2.1 (H.at h4 l2).2.2.1 (H.at h4 l2).2.2.2.1;have:=eq (wV y (fo k) false);rw[mK hy f8 false f8,MK rfl,MG ak,MG ak,lF H P n8 a1 ah ah hy,lF H P n8 a3 ah ah hy,ep]at this;exact hd this
  ·have ep:part n k N (high N c)=(low N (high N c),high N (high N c)):=MK q
   have l2:2<=high N c:=by
    apply MS;intro w;have:lvl n N (high N c)=n:=by unfold lvl;rw[MK ah]
    omega
   obtain⟨y,hy,hd⟩:=Cu H P n8 (H.at h5 l2).2.1 (H.at h5 l2).2.2.1 (H.at h5 l2).2.2.2.1;have:=eq (wV y (fo k) true);rw[mK hy f8 true f8,MK rfl,MK rfl,MK rfl,lF H P n8 b1 ah ah hy,lF H P n8 b3 ah ah hy,ep]at this;exact hd this
 have no: ∀i,nd D i≠some (k,x0,x1):=λi hi=>by
  obtain⟨t1,t2,t3⟩:=M.top i _ hi rfl;obtain⟨e0,e1,e2,e3⟩:=eO (n:=n) hi;have o:=(M.old _ t1 t2 t3).2
  have:c=i+2:=FT H P n8 n ah ci t1 λx _=>by rw[<-o,cJ M.ok e0 ah,e1,e2,e3,sk,fn]
  exact t3 (by rw[<-this];simp)
 refine⟨⟨d,no⟩,λD' A=> ?_⟩;have E:=A.ex;have b:=A.ok M.ok (by show k<n;omega) i0 i1 d (by show k<lvl n D x0;omega) (by show k<lvl n D x1;omega) no;have hn:=A.new;obtain⟨e0,e1,e2,e3⟩:=eO (n:=n) hn;rw[show c-2+2=c by omega]at e0 e1 e2 e3;refine⟨b,λi x hx=> ?_,λa ha hl hu=> ?_,λi x hx g=> ?_,λa ha=> ?_,λa ha hl=> ?_⟩
 ·rw[A.2]at hx;split at hx
  ·injection hx with hx;subst hx;exact MN _
  ·exact M.lev i x hx
 ·by_cases e:a=c
  ·subst e;refine⟨e0,λx=> ?_⟩;rw[cJ b e0 c2,e1,e2,e3,sk,fn,E.sm M.ok i0,E.sm M.ok i1]
  ·obtain⟨c1,c2⟩:=M.old a ha hl (by simp[e,hu]);exact⟨E.isN c1,λx=>by rw[E.sm M.ok c1];exact c2 x⟩
 ·rw[A.2]at hx;split at hx
  ·next q=>
   rw[q,show c-2+2=c by omega];exact⟨ci,ah,f⟩
  ·obtain⟨t1,t2,t3⟩:=M.top i x hx g;exact⟨t1,t2,λhm=>t3 (by simp[hm])⟩
 ·obtain⟨u1,u2,u3⟩:=M.un a (by simp[ha]);refine⟨u1,?_,u3⟩;rw[A.2,MG]
  ·exact u2
  ·intro e;have:a=c:=ah;subst this;exact f ha
 ·have nU:a∉c::U:=λhm=>by have:=(M.un _ hm).2.2.2.1;omega
  rw[E.lvl (M.old a ha ah nU).1];exact M.deep a ha hl
def dn(k:Nat)(U:List Nat)(M:ay):ay:=M.mapIdx λi o=>o.filter λx=>decide (k<=x.1)&& !decide (i+2∈U)
def fE:nd (dn k U M) i=some x↔nd M i=some x/\k<=x.1/\i+2∉U:=by
 rw[dh,dh];unfold dn;rw[OJ];cases h:M[i]? with
 |none=>simp
 |some o=>
  cases o with
  |none=>simp
  |some y=>
   simp only[NF,Ny,Option.filter_eq_some_iff,Nm,Na,NC,MX]
def iK(h: ∀x,nd M i=some x->k<=x.1->i+2∉U->False):nd (dn k U M) i=none:=by
 cases hh:nd (dn k U M) i with
 |none=>rfl
 |some x=>
  obtain⟨a,b,c⟩:=fE.1 hh;exact(h x a b c).elim
def qQ:Ex (dn k U M) M:=λ_ _ h=>(fE.1 h).1
def iA(k:Nat)(U:List Nat)(a:Nat)(x:Nd):Nd:=if x.1=k+1 then(k,x.2)else if x.1=k/\a∉U then(k+1,x.2)else x
def tD(k:Nat)(U:List Nat)(a:Nat)(o:Option Nd):Option Nd:=o.map (iA k U a)
def dY:tD k U a (some x)=some (iA k U a x):=rfl
def EF(n k:Nat)(N:ay)(a:Nat):Prop:=2<=a/\isN N a/\lvl n N a=k/\(lvl n N (low N a)=k+1\/lvl n N (high N a)=k+1)
def zI(H:cY n N)(hk:k+1<n)(hU: ∀a,a∈U↔EF n k N a)(hM: ∀i,nd M i=tD k U (i+2) (nd N i)):DJ n k fo N (dn k U M) U:=by
 have lv: ∀{i x},nd N i=some x->lvl n N (i+2)=x.1:=λh=>(eO (n:=n) h).2.1
 have deep: ∀{i x},nd N i=some x->k+1<x.1->nd (dn k U M) i=some x:=λ{i x} h hl=>by
  refine fE.2 ⟨?_,ah,λhm=> ?_⟩
  ·rw[hM,h,dY];unfold iA;rw[MG ah,MG ah]
  ·have:=((hU _).1 hm).2.2.1;rw[lv h]at this;omega
 have g: ∀{a},isN N a->k+1<lvl n N a->isN (dn k U M) a/\lvl n (dn k U M) a=lvl n N a:=λ{a} ha hl=>by
  rcases ha with q|⟨x,hx⟩
  ·refine⟨.inl q,?_⟩;unfold lvl;rw[MK q,MK q]
  ·by_cases q:a<2
   ·refine⟨.inl q,?_⟩;unfold lvl;rw[MK q,MK q]
   have e1:lvl n N a=x.1:=by unfold lvl;rw[MG q,hx]
   rw[e1]at hl;have:=deep hx hl;refine⟨.inr ⟨x,this⟩,?_⟩;rw[e1];unfold lvl;rw[MG q,this]
 have f: ∀{i x},nd (dn k U M) i=some x-> ∃y,nd N i=some y/\x.2=y.2/\k<=y.1/\i+2∉U/\((y.1=k+1/\x.1=k)\/(y.1=k/\x.1=k+1)\/(k+1<y.1/\x.1=y.1)):=λ{i x} h=>by
  obtain⟨h1,h2,h3⟩:=fE.1 h;rw[hM]at h1;cases hy:nd N i with
  |none=>rw[hy]at h1;cases h1
  |some y=>
   rw[hy,dY]at h1;injection h1 with h1;subst h1;unfold iA at h2 ⊢;by_cases q:y.1=k+1
   ·rw[MK q];exact⟨y,rfl,rfl,ah,h3,.inl ⟨q,rfl⟩⟩
   ·rw[MG q]at h2 ⊢;by_cases q2:y.1=k/\i+2∉U
    ·rw[MK q2];exact⟨y,rfl,rfl,ah,h3,.inr (.inl ⟨q2.1,rfl⟩)⟩
    ·rw[MG q2]at h2 ⊢;refine⟨y,rfl,rfl,h2,h3,.inr (.inr ⟨?_,rfl⟩)⟩;by_cases q:y.1=k
     ·exact Nc ⟨q,h3⟩ q2
     ·omega
 have o: ∀{i y},nd N i=some y->k<=y.1->i+2∉U->k+1<lvl n N y.2.1/\k+1<lvl n N y.2.2:=λ{i y} h hl hu=>by
  obtain⟨c1,c2,c3,c4,c5,c6⟩:=H.node i y h;obtain⟨e0,e1,e2,e3⟩:=eO (n:=n) h;by_cases q:y.1=k
  ·have nb: ¬EF n k N (i+2):=λb=>hu ((hU _).2 b);have a1:lvl n N y.2.1≠k+1:=λe=>nb ⟨ah,e0,by rw[e1,q],.inl (by rw[e2];exact e)⟩;have a2:lvl n N y.2.2≠k+1:=λe=>nb ⟨ah,e0,by rw[e1,q],.inr (by rw[e3];exact e)⟩;omega
  ·omega
 have ok:cY n (dn k U M):=by
  refine⟨λi x hx=> ?_,λi j x hi hj=> ?_⟩
  ·obtain⟨y,hy,e2,ly,hu,cs⟩:=f hx;obtain⟨c1,c2,c3,c4,-,-⟩:=H.node i y hy;obtain⟨d1,d2⟩:=o hy ly hu;obtain⟨f1,f2⟩:=g c2 d1;obtain⟨g1,g2⟩:=g c3 d2;rw[e2];have:=(H.node i y hy).2.2.2.2;refine⟨ah,f1,g1,c4,ah,ah⟩
  ·obtain⟨y,hy,e2,ly,hu,cs⟩:=f hi;obtain⟨z,hz,e3,lz,hw,cz⟩:=f hj
   have:y=z:=by
    obtain⟨y1,y2⟩:=y;obtain⟨z1,z2⟩:=z;have q1:y1=z1:=by dsimp only at cs cz;omega
    have q2:y2=z2:=e2.symm.trans e3;rw[q1,q2]
   subst this;exact H.once i j y hy hz
 have A:sw k fo k=fo (k+1):=by unfold sw iX;rw[MG ah,MK rfl]
 have t:sw k fo (k+1)=fo k:=by unfold sw iX;rw[MK rfl]
 have u: ∀{l},k+1<l->sw k fo l=fo l:=λ{l} h=>by unfold sw iX;rw[MG ah,MG ah]
 have old: ∀(d:Nat) {a:Nat},n-lvl n N a<=d->isN N a->k<=lvl n N a->a∉U->isN (dn k U M) a/\ ∀x,sm n (sw k fo) (dn k U M) a x=sm n fo N a x:=by
  intro d
  induction d with
  |zero=>
   intro a hd ha hl hu
   have h2:a<2:=by apply MS;intro hn;have:=(H.at ha ah).1;omega
   exact⟨.inl h2,λx=>by rw[bC h2,bC h2]⟩
  |succ d ih=>
   intro a hd ha hl hu;by_cases h2:a<2
   ·exact⟨.inl h2,λx=>by rw[bC h2,bC h2]⟩
   have hn:=fI (n:=n) ha ah;have m:a-2+2∉U:=by rw[show a-2+2=a by omega];exact hu
   obtain⟨d1,d2⟩:=o hn hl m;dsimp only at d1 d2;obtain⟨c1,c2,c3,c4,c5,c6⟩:=H.at ha ah;have nU: ∀{c},k+1<lvl n N c->c∉U:=λhc hm=>by have:=((hU _).1 hm).2.2.1;omega
   obtain⟨-,s1⟩:=ih (a:=low N a) ah c2 ah (nU d1);obtain⟨-,s2⟩:=ih (a:=high N a) ah c3 ah (nU d2)
   have key: ∀l',nd (dn k U M) (a-2)=some (l',low N a,high N a)->sw k fo l'=fo (lvl n N a)->isN (dn k U M) a/\ ∀x,sm n (sw k fo) (dn k U M) a x=sm n fo N a x:=λl' h1 v=>by obtain⟨e0,e1,e2,e3⟩:=eO (n:=n) h1;rw[show a-2+2=a by omega]at e0 e1 e2 e3;refine⟨e0,λx=> ?_⟩;rw[cJ ok e0 ah,cJ H ha ah,e1,e2,e3,v,s1,s2]
   by_cases q1:lvl n N a=k+1
   ·refine key k (fE.2 ⟨?_,MN _,m⟩) (by rw[A,q1]);rw[hM,hn,dY];unfold iA;rw[MK q1]
   ·by_cases q2:lvl n N a=k
    ·refine key (k+1) (fE.2 ⟨?_,by show k<=k+1;omega,m⟩) (by rw[t,q2]);rw[hM,hn,dY];unfold iA;rw[MG q1,MK ⟨q2,m⟩]
    ·refine key (lvl n N a) (fE.2 ⟨?_,hl,m⟩) (u ah);rw[hM,hn,dY];unfold iA;rw[MG q1,MG (λw=>q2 w.1)]
 refine⟨ok,λi x hx=>(fE.1 hx).2.1,λa ha hl hu=>old n ah ha hl hu,λi x hx B=> ?_,λa ha=> ?_,λa ha hl=>(g ha hl).2⟩
 ·obtain⟨y,hy,e2,ly,hu,cs⟩:=f hx;refine⟨.inr ⟨y,hy⟩,?_,hu⟩;rw[lv hy];exact ly
 ·obtain⟨b1,b2,b3,b4⟩:=(hU a).1 ha;refine⟨b1,iK λx _ _ hu=>hu (by rw[show a-2+2=a by omega];exact ha),b2,b3,b4⟩
def Em(H:cY n N)(hk:k+1<n)(D:DJ n k fo N (dn k [] M) [])(up: ∀i x,x.1<k->(nd M i=some x↔nd N i=some x)):
  cY n M/\ ∀a,isN N a->isN M a/\ ∀x,sm n (sw k fo) M a x=sm n fo N a x:=by
 have E:Ex (dn k [] M) M:=qQ
 have b: ∀{a},isN N a->isN M a/\(k<=lvl n N a->k<=lvl n M a)/\(lvl n N a<k->lvl n M a=lvl n N a/\low M a=low N a/\high M a=high N a):=λ{a} ha=>by
  by_cases q:k<=lvl n N a
  ·obtain⟨d1,-⟩:=D.old a ha q ak;refine⟨E.isN d1,λ_=> ?_,λw=>ah⟩;rw[E.lvl d1];rcases d1 with z|⟨x,hx⟩
   ·unfold lvl;rw[MK z];omega
   ·by_cases z:a<2
    ·unfold lvl;rw[MK z];omega
    ·have:lvl n (dn k [] M) a=x.1:=by unfold lvl;rw[MG z,hx]
     rw[this];exact D.lev _ x hx
  ·have a2:2<=a:=by
    apply MS;intro w;have:lvl n N a=n:=by unfold lvl;rw[MK ah]
    omega
   have hm:=(up (a-2) _ (by show lvl n N a<k;omega)).2 (fI (n:=n) ha a2);obtain⟨e0,e1,e2,e3⟩:=eO (n:=n) hm;rw[show a-2+2=a by omega]at e0 e1 e2 e3;exact⟨e0,λw=>Nc w q,λ_=>⟨e1,e2,e3⟩⟩
 have ok:cY n M:=by
  refine⟨λi x hx=> ?_,λi j x hi hj=> ?_⟩
  ·by_cases q:k<=x.1
   ·obtain⟨c1,c2,c3,c4,c5,c6⟩:=D.ok.node i x (fE.2 ⟨hx,q,ak⟩);exact⟨c1,E.isN c2,E.isN c3,c4,by rw[E.lvl c2];exact c5,by rw[E.lvl c3];exact c6⟩
   ·obtain⟨c1,c2,c3,c4,c5,c6⟩:=H.node i x ((up i x ah).1 hx);obtain⟨f1,f2,f3⟩:=b c2;obtain⟨g1,g2,g3⟩:=b c3;refine⟨c1,f1,g1,c4,?_,?_⟩
    ·by_cases w:k<=lvl n N x.2.1
     ·have:=f2 w;omega
     ·rw[(f3 ah).1];exact c5
    ·by_cases w:k<=lvl n N x.2.2
     ·have:=g2 w;omega
     ·rw[(g3 ah).1];exact c6
  ·by_cases q:k<=x.1
   ·exact D.ok.once i j x (fE.2 ⟨hi,q,ak⟩) (fE.2 ⟨hj,q,ak⟩)
   ·exact H.once i j x ((up i x ah).1 hi) ((up j x ah).1 hj)
 have c: ∀{l},l<k->sw k fo l=fo l:=λ{l} h=>by unfold sw iX;rw[MG ah,MG ah]
 have all: ∀(d:Nat) {a:Nat},n-lvl n N a<=d->isN N a-> ∀x,sm n (sw k fo) M a x=sm n fo N a x:=by
  intro d
  induction d with
  |zero=>
   intro a hd ha x
   have h2:a<2:=by apply MS;intro hn;have:=(H.at ha ah).1;omega
   rw[bC h2,bC h2]
  |succ d ih=>
   intro a hd ha x;by_cases q:k<=lvl n N a
   ·obtain⟨d1,d2⟩:=D.old a ha q ak;rw[E.sm D.ok d1,d2]
   ·have a2:2<=a:=by
     apply MS;intro w;have:lvl n N a=n:=by unfold lvl;rw[MK ah]
     omega
    obtain⟨f1,-,f3⟩:=b ha;obtain⟨e1,e2,e3⟩:=f3 ah;obtain⟨c1,c2,c3,c4,c5,c6⟩:=H.at ha a2;rw[cJ ok f1 a2,cJ H ha a2,e1,e2,e3,c ah,ih ah c2,ih ah c3]
 exact⟨ok,λa ha=>⟨(b ha).1,all n ah ha⟩⟩
structure qp(n k:Nat)(fo:Nat->Nat)(N M:ay)(U:List Nat):Prop where
 mid:DJ n k fo N (dn k U M) U
 un: ∀c∈U,nd M (c-2)=nd N (c-2)
 up: ∀i x,x.1<k->(nd M i=some x↔nd N i=some x)
 nod:U.Nodup
 lw: ∀a,2<=a->isN N a->lvl n N a=k+1->nd M (a-2)=some (k,low N a,high N a)
inductive If (U:List Nat) (M:ay) (l a b:Nat):ay->Nat->Prop
 |same:a=b->If U M l a b M a
 |found (i:Nat):a≠b->nd (gM U M) i=some (l,a,b)->If U M l a b M (i+2)
 |made (M':ay) (q:Nat):a≠b->(∀i,nd (gM U M) i≠some (l,a,b))->jW M M' q (l,a,b)->If U M l a b M' (q+2)
def mC(hl:k<=x.1):nd (gM U M) i=some x↔nd (dn k U M) i=some x:=by
 rw[gA,fE];split
 ·next h=>simp[h]
 ·next h=>exact⟨λe=>⟨e,hl,h⟩,λe=>e.1⟩
def qp.lay(hl:k<=l)(R:If U M l a b M' r)(hu: ∀c∈U,∃x,nd M (c-2)=some x)(h2: ∀c∈U,2<=c):JJ (dn k U M) l a b (dn k U M') r:=by
 cases R with
 |same e=>exact .same e
 |found i ne h=>exact .found i ne ((mC (by show k<=l;exact hl)).1 h)
 |made M' q ne no P=>
  have hq:q+2∉U:=λhm=>by obtain⟨x,hx⟩:=hu _ hm;rw[show q+2-2=q by omega,P.was]at hx;cases hx
  refine .made _ q ne (λi h=>no i ((mC (by show k<=l;exact hl)).2 h)) ⟨iK λx hx _ _=>(by rw[P.was]at hx;cases hx),λi=> ?_⟩;apply Option.ext;intro x;by_cases e:i=q
  ·rw[MK e,e,fE,P.get,MK rfl];constructor
   ·exact λh=>h.1
   ·intro h;injection h with h;subst h;exact⟨rfl,hl,hq⟩
  ·rw[MG e,fE,fE,P.get,MG e]
def qp.made(Y:qp n k fo N M U)(hk:k+1<n)(ha:isN N a)(la:k+1<lvl n N a)(hb:isN N b)(lb:k+1<lvl n N b)(R:If U M (k+1) a b M' r):
  qp n k fo N M' U/\Ex (dn k U M) (dn k U M')/\isN (dn k U M') r/\k+1<=lvl n (dn k U M') r/\ ∀x,sm n (sw k fo) (dn k U M') r x=if x.testBit (fo k)then sm n fo N b x else sm n fo N a x:=by
 have hu: ∀c∈U,∃x,nd M (c-2)=some x:=λc hc=>by obtain⟨u1,-,u3,-⟩:=Y.mid.un c hc;rw[Y.un c hc];exact⟨_,fI (n:=n) u3 u1⟩
 have L:=qp.lay (k:=k) ah R hu λc hc=>(Y.mid.un c hc).1
 have ex: ∀i x,nd M i=some x->nd M' i=some x:=λi x h=>by
  cases R with
  |same=>exact h
  |found=>exact h
  |made _ q _ _ P=>exact P.old h
 obtain⟨m1,m2⟩:=Y.mid.made hk ha la hb lb L λc hc=>iK λx _ _ w=>w (by rw[show c-2+2=c by have:=(Y.mid.un c hc).1;omega];exact hc);refine⟨⟨m1,λc hc=> ?_,λi x hx=> ?_,Y.nod,λa a2 ia la=>ex _ _ (Y.lw a a2 ia la)⟩,m2⟩
 ·obtain⟨x,hx⟩:=hu c hc;rw[ex _ _ hx,<-Y.un c hc,hx]
 ·rw[<-Y.up i x hx];cases R with
  |same=>exact Iff.rfl
  |found=>exact Iff.rfl
  |made _ q _ _ P=>
   rw[P.get];split
   ·next e=>
    subst e;rw[P.was];constructor
    ·intro w;injection w with w;subst w;exact Nc hx (show ¬k+1<k by omega)
    ·intro w;cases w
   ·exact Iff.rfl
def qp.put{M:ay}(Y:qp n k fo N M (c::U))(H:cY n N)(P:cF n fo gg)(n8:n<=8)(hk:k+1<n)
  (i0:isN (dn k (c::U) M) x0) (l0:k+1<=lvl n (dn k (c::U) M) x0) (s0: ∀x,sm n (sw k fo) (dn k (c::U) M) x0 x=if x.testBit (fo k)then sm n fo N (part n k N (high N c)).1 x else sm n fo N (part n k N (low N c)).1 x)
  (i1:isN (dn k (c::U) M) x1) (l1:k+1<=lvl n (dn k (c::U) M) x1) (s1: ∀x,sm n (sw k fo) (dn k (c::U) M) x1 x=if x.testBit (fo k)then sm n fo N (part n k N (high N c)).2 x else sm n fo N (part n k N (low N c)).2 x):
  x0≠x1/\(∀i,nd (gM (c::U) M) i≠some (k,x0,x1))/\qp n k fo N (M.set (c-2) (some (k,x0,x1))) U:=by
 have nod:=Nt.1 Y.nod;obtain⟨u1,-,u3,u4,-⟩:=Y.mid.un c ak;have hc:nd M (c-2)=nd N (c-2):=Y.un c ak;have b:=hc.trans (fI (n:=n) u3 u1);have lt:=jf b;obtain⟨⟨p1,p2⟩,p3⟩:=Y.mid.put H P n8 hk nod.1 i0 l0 s0 i1 l1 s1;refine⟨p1,λi h=>p2 i ((mC (by show k<=k;exact MN _)).1 h),p3 _ ⟨?_,λi=> ?_⟩,λa ha=> ?_,λi x hx=> ?_,nod.2,λa a2 ia la=> ?_⟩
 ·exact iK λx _ _ w=>w (by simp;omega)
 ·apply Option.ext;intro x;by_cases e:i=c-2
  ·rw[MK e,e,fE,fy lt,MK rfl];constructor
   ·exact λh=>h.1
   ·intro h;injection h with h;subst h;exact⟨rfl,MN _,by rw[show c-2+2=c by omega];exact nod.1⟩
  ·rw[MG e,fE,fE,fy lt,MG e];have:i+2≠c:=ah;simp[this]
 ·rw[fy lt,MG]
  ·exact Y.un a (by simp[ha])
  ·intro e;have:=(Y.mid.un a (by simp[ha])).1;have:a=c:=ah;subst this;exact nod.1 ha
 ·rw[fy lt,<-Y.up i x hx];split
  ·next e=>
   subst e;constructor
   ·intro w;injection w with w;subst w;exact Nc hx (show ¬k<k by omega)
   ·intro w;rw[b]at w;injection w with w;subst w;exact Nc hx (by show ¬lvl n N c<k;omega)
  ·exact Iff.rfl
 ·rw[fy lt,MG]
  ·exact Y.lw a a2 ia la
  ·intro e;have:a=c:=ah;subst this;omega
def cw.le(H:cw h lo N p l c cs)(hl:lo'<=lo):cw h lo' N p l c cs:=by
 obtain⟨e,H⟩:=H;refine⟨e,?_⟩;rcases H with H|⟨b,sp,h1,h2,h3⟩
 ·exact .inl H
 ·exact .inr ⟨b,sp,h1,ah,h3⟩
def ry: ∀(N:ay) (i j:Nat) (o o':Option Nd) (v:Value),N[i]? =some o->j<4->dr o'=(dr o).set j v->(gQ N).set (i*4+j) v=gQ (N.set i o')
 | [],i,j,o,o',v,h,_,_=>by simp at h
 |y::N,0,j,o,o',v,h,hj,e=>by simp at h;subst h;simp only[gQ,PH,e];rw[Nat.zero_mul,MF,Pu _ _ (by rw[dU];exact hj)]
 |y::N,i+1,j,o,o',v,h,hj,e=>by simp at h;simp only[gQ,NM];rw[Pi _ _ (by rw[dU];omega),dU,show(i+1)*4+j-4=i*4+j by omega,ry N i j o o' v h hj e]
def du(φ:Nat->Nd->Nd)(N:ay):ay:=N.mapIdx λi o=>o.map (φ (i+2))
def dP{N:ay}:(du φ N).length=N.length:=by simp[du]
def gw{o:Option Nd}(h:N[i]? =some o):(du φ N)[i]? =some (o.map (φ (i+2))):=by
 unfold du;rw[OJ,h]
 rfl
def gi(i:Nat):nd (du φ N) i=(nd N i).map (φ (i+2)):=by
 unfold nd;cases h:N[i]? with
 |none=>rw[Nb (by rw[dP];exact NB.1 h)];rfl
 |some o=>rw[gw h];cases o<;>rfl
def gx(h: ∀i x,nd N i=some x->φ (i+2) x=φ' (i+2) x):du φ N=du φ' N:=by
 apply Ns;intro j;cases hj:N[j]? with
 |none=>rw[Nb (by rw[dP];exact NB.1 hj),Nb (by rw[dP];exact NB.1 hj)]
 |some o=>
  rw[gw hj,gw hj];cases o with
  |none=>rfl
  |some z=>rw[NF,NF,h j z (dh.2 hj)]
def oN(hi:nd N i=some x)(ey:y=φ' (i+2) x)(h: ∀j z,j≠i->nd N j=some z->φ (j+2) z=φ' (j+2) z):(du φ N).set i (some y)=du φ' N:=by
 have lt:=jf hi;apply Ns;intro j;rw[Nl];by_cases e:i=j
 ·subst e;rw[MK rfl,MK (by rw[dP];exact lt),gw (dh.1 hi),ey]
  rfl
 ·rw[MG e];cases hj:N[j]? with
  |none=>rw[Nb (by rw[dP];exact NB.1 hj),Nb (by rw[dP];exact NB.1 hj)]
  |some o=>
   rw[gw hj,gw hj];cases o with
   |none=>rfl
   |some z=>rw[NF,NF,h j z (λw=>e w.symm) (dh.2 hj)]
def ES:du (λ_ x=>x) N=N:=by
 apply Ns;intro j;cases hj:N[j]? with
 |none=>rw[Nb (by rw[dP];exact NB.1 hj)]
 |some o=>rw[gw hj];cases o<;>rfl
def Bj(h: ∀i,(nd A i).isSome=(nd C i).isSome):bj A=bj C:=by
 have e: ∀A:ay,bj (A.map (Option.map λ_=>((0,0,0):Nd)))=bj A:=λA=>by
  unfold bj;rw[List.countP_map]
  congr 1
  funext o;cases o<;>rfl
 have m: ∀(A:ay) i,nd (A.map (Option.map λ_=>((0,0,0):Nd))) i=(nd A i).map λ_=>(0,0,0):=λA i=>by
  unfold nd;rw[Nf];cases A[i]? with
  |none=>rfl
  |some o=>cases o<;>rfl
 rw[<-e A,<-e C];refine sT λi=> ?_;rw[m,m];have:=h i;cases ha:nd A i<;>cases hc:nd C i<;>rw[ha,hc]at this<;>first|rfl|cases this
def jq:bj (du φ N)=bj N:=Bj λi=>by rw[gi];cases nd N i<;>rfl
def gZ.st{B:SB}{N:ay}(H:gZ h s n room B f g N F Q off){v:Value}(hi:nd N i=some x)(hp:B.p=some (aw b0))(hj:j<4)(hv:dr (some x')=(dr (some x)).set j v)(ho:v.oneCell'=true)
  (hK: ∀h',gZ h' s n room B f g (N.set i (some x')) F Q off->aM [b0] h h'->K h'):aW h ⟨b0,i*4+j,none⟩ v K:=by
 have lt:=jf hi;have W:=H.own;rw[hp]at W;refine cw.set W (by rw[gH];omega) ho λh' W' O'=>hK h' ?_ O';rw[ry N i j _ _ v (dh.1 hi) hj hv]at W';have b:=H.sep
 have nb: ∀y∈[s,B.ob,B.cac,B.cm,B.cmc]++aV B.fp,y∉[b0]:=λy hy hm=>by
  simp only[MH]at hm;subst hm;unfold SB.bm at b;simp only[Nq,List.mem_append,PY]at b;obtain⟨⟨_,_,g2⟩,_,g4⟩:=b;have c:y∈aV B.p:=by rw[hp];simp[aV]
  rcases Zq hy with h|h
  ·exact g2 y h y c rfl
  ·exact g4 y (.inr c) y h rfl
 have el:(N.set i (some x')).length=N.length:=ak;exact⟨by rw[el];exact H.S.only O' (nb _ ak),H.O.only O' (nb _ ak),by rw[el,hp];exact W',H.fre.only O' λy hy=>nb _ (by simp only[List.mem_append];exact .inr hy),H.cac.only O' (nb _ ak) (nb _ ak) (nb _ ak),H.n8,by rw[el];exact H.len,H.sep⟩
def gZ.pb{B:SB}(_:gZ h s n room B f g N F Q off)(hp:B.p=some (aw b0)):b0∈B.bm s:=by simp only[SB.bm,List.mem_append];exact .inl (.inr (by rw[hp];simp[aV]))
def cL(n k:Nat)(N:ay)(a:Nat):Bool:=decide (lvl n N (low N a)=k+1)||decide (lvl n N (high N a)=k+1)
def cv(n k:Nat)(N:ay):List Nat:=(cQ N k).filter (cL n k N)
def uq:a∈cv n k N↔EF n k N a:=by
 unfold cv cL EF;rw[List.mem_filter,iU,NO,Na,Na];constructor
 ·rintro ⟨⟨a2,x,hx,e⟩,h⟩;refine⟨a2,.inr ⟨x,hx⟩,?_,h⟩;unfold lvl;rw[MG ah,hx];exact e
 ·rintro ⟨a2,ia,e,h⟩;refine⟨⟨a2,_,fI (n:=n) ia a2,e⟩,h⟩
def vC:(cv n k N).Nodup:=Qm _ eX
def qx(n k:Nat)(N:ay)(t:Nat)(a:Nat)(x:Nd):Nd:=if x.1=k/\a∈(cQ N k).take t/\cL n k N a=false then(k+2,x.2)else x
def y8(n k:Nat)(N:ay)(t:Nat)(a:Nat)(x:Nd):Nd:=if x.1=k+1/\a∈(cQ N (k+1)).take t then(k,x.2)else if x.1=k/\cL n k N a=false then(k+2,x.2)else x
def oh(n k:Nat)(N:ay)(t:Nat)(a:Nat)(x:Nd):Nd:=if x.1=k+1 then(k,x.2)else if x.1=k/\cL n k N a=false then(if a∈(cQ N k).take t then(k+1,x.2)else(k+2,x.2))else x
def vN(h:nd N i=some x):i+2∈cQ N x.1:=iU.2 ⟨ah,x,h,rfl⟩
def Iq:du (qx n k N 0) N=N:=by rw[gx (φ':=λ_ x=>x) λi x _=> ?_,ES];unfold qx;rw[MG ak]
def Lt:du (qx n k N (cQ N k).length) N=du (y8 n k N 0) N:=gx λi x h=>by
 unfold qx y8;rw[Oi,List.take_zero,MG (c:=x.1=k+1/\_) ak];by_cases e:x.1=k
 ·have:=vN h;rw[e]at this;simp[e,this]
 ·rw[MG (λw=>e w.1),MG (λw=>e w.1)]
def KZ:du (y8 n k N (cQ N (k+1)).length) N=du (oh n k N 0) N:=gx λi x h=>by
 unfold y8 oh;rw[Oi,List.take_zero];by_cases e:x.1=k+1
 ·have:=vN h;rw[e]at this;rw[MK ⟨e,this⟩,MK e]
 ·rw[MG (λw=>e w.1),MG e];split
  ·simp
  ·rfl
def Dt: ∀i,nd (du (oh n k N (cQ N k).length) N) i=tD k (cv n k N) (i+2) (nd N i):=λi=>by
 rw[gi];unfold tD;cases h:nd N i with
 |none=>rfl
 |some x=>
  rw[NF,NF]
  congr 1
  unfold oh iA;rw[Oi];by_cases e:x.1=k+1
  ·rw[MK e,MK e]
  ·rw[MG e,MG e];by_cases e2:x.1=k
   ·have m:=vN h;rw[e2]at m
    have:(i+2∉cv n k N)↔cL n k N (i+2)=false:=by unfold cv;rw[List.mem_filter];simp[m]
    by_cases q:cL n k N (i+2)=false
    ·rw[MK ⟨e2,q⟩,MK m,MK ⟨e2,this.2 q⟩]
    ·rw[MG (λw=>q w.2),MG (λw=>q (this.1 w.2))]
   ·rw[MG (λw=>e2 w.1),MG (λw=>e2 w.1)]
def kW{l:List Nat}(nd:l.Nodup)(ht:l[t]? =some a):b∈l.take (t+1)↔b∈l.take t\/b=a:=by rw[Oo,ht];simp
def oS{l:List Nat}(nd:l.Nodup)(ht:l[t]? =some a):a∉l.take t:=λhm=>by obtain⟨j,hj,e⟩:=List.mem_iff_getElem.1 hm;rw[N7]at hj;rw[List.getElem_take]at e;obtain⟨lt,e2⟩:=MQ.1 ht;have jl:j<l.length:=ah;have:=(List.getElem_inj (h₀:=jl) (h₁:=lt) nd).1 (by rw[e,e2]);omega
def zU(ht:(cQ N k)[t]? =some a)(hx:nd N (a-2)=some x)(a2:2<=a)(ex:x.1=k):qx n k N t a x=x/\
  (cL n k N a=true->du (qx n k N (t+1)) N=du (qx n k N t) N)/\(cL n k N a=false->(du (qx n k N t) N).set (a-2) (some (k+2,x.2))=du (qx n k N (t+1)) N):=by
 have tn:=oS eX ht;have tm:=λb=>kW (b:=b) eX ht;refine⟨?_,λhb=>gx λi y h=> ?_,λhb=>oN hx ?_ λj z hj h=> ?_⟩
 ·unfold qx;rw[MG (λw=>tn w.2.1)]
 ·unfold qx;by_cases e:i+2=a
  ·rw[e,MG (λw=>by rw[hb]at w;cases w.2.2),MG (λw=>by rw[hb]at w;cases w.2.2)]
  ·simp only[tm,e,NP]
 ·rw[show a-2+2=a by omega];unfold qx;rw[MK ⟨ex,(tm a).2 (.inr rfl),hb⟩]
 ·unfold qx;have e:j+2≠a:=ah;simp only[tm,e,NP]
def Am(ht:(cQ N (k+1))[t]? =some a)(hx:nd N (a-2)=some x)(a2:2<=a)(ex:x.1=k+1):y8 n k N t a x=x/\(du (y8 n k N t) N).set (a-2) (some (k,x.2))=du (y8 n k N (t+1)) N:=by
 have tn:=oS eX ht;have tm:=λb=>kW (b:=b) eX ht;refine⟨?_,oN hx ?_ λj z hj h=> ?_⟩
 ·unfold y8;rw[MG (λw=>tn w.2),MG ah]
 ·rw[show a-2+2=a by omega];unfold y8;rw[MK ⟨ex,(tm a).2 (.inr rfl)⟩]
 ·unfold y8;have e:j+2≠a:=ah;simp only[tm,e,NP]
def zX(ht:(cQ N k)[t]? =some a)(hx:nd N (a-2)=some x)(a2:2<=a)(ex:x.1=k):
  (cL n k N a=true->oh n k N t a x=x/\du (oh n k N (t+1)) N=du (oh n k N t) N)/\(cL n k N a=false->oh n k N t a x=(k+2,x.2)/\(du (oh n k N t) N).set (a-2) (some (k+1,x.2))=du (oh n k N (t+1)) N):=by
 have tn:=oS eX ht;have tm:=λb=>kW (b:=b) eX ht;refine⟨λhb=>⟨?_,gx λi y h=> ?_⟩,λhb=>⟨?_,oN hx ?_ λj z hj h=> ?_⟩⟩
 ·unfold oh;rw[MG ah,MG (λw=>by rw[hb]at w;cases w.2)]
 ·unfold oh;by_cases e:i+2=a
  ·rw[e];simp only[hb];simp
  ·simp only[tm,e,NP]
 ·unfold oh;rw[MG ah,MK ⟨ex,hb⟩,MG tn]
 ·rw[show a-2+2=a by omega];unfold oh;rw[MG ah,MK ⟨ex,hb⟩,MK ((tm a).2 (.inr rfl))]
 ·unfold oh;have e:j+2≠a:=ah;simp only[tm,e,NP]
structure hH(h:aI)(s n room:Nat)(B:SB)(f g:Nat->Nat)(M:ay)(U:List Nat)(F:List Nat)(Q:Int->Int->Prop)(off:Bool)(T w:Nat):Prop where
 m:gZ h s n room B f g M F Q off
 t:gY h B (gM U M) T
 bn:B.bt.Nodup
 bs: ∀b∈B.bt,b∉B.bm s
 t5: ∃j,T=32*2^j
 t7:T<=262144
 cap:2*(bj M+w+1)<=T
 rm:bj M+w<=room
 cnt:M.length=bj M+F.length
 fre:F.Nodup/\ ∀a∈F,2<=a/\a-2<M.length/\nd M (a-2)=none
structure Tw(z0 z7:Nat)(h:aI)(s n room k:Nat)(B:SB)(f g:Nat->Nat)(N:ay)(φ:Nat->Nd->Nd)(F:List Nat)(Q:Int->Int->Prop)(off:Bool)(T:Nat)(p1:az)(c1:Nat)(p2:az)(c2:Nat)(bl:List Nat)(p3:az)(c3:Nat):Prop where
 m:gZ h s n room B f g (du φ N) F Q off
 t:gY h B N T
 bs: ∀b∈B.bt,b∉B.bm s
 o1:cw h z0 1 p1 (cQ N k).length c1 ((cQ N k).map hv)
 o2:cw h z0 1 p2 (cQ N (k+1)).length c2 ((cQ N (k+1)).map hv)
 o3:cw h z7 1 p3 bl.length c3 (bl.map hv)
 l1: ∀y∈aV p1,y<z7
 l2: ∀y∈aV p2,y<z7
 lz:z0<=z7/\z7<=h.size/\ ∀y∈B.bm s++B.bt,y<z0
def gZ.ord{B:SB}(H:gZ h s n room B f g N F Q off)(O:aM [B.ob] h h')(Or:cK h' B.ob n f' g'):gZ h' s n room B f' g' N F Q off:=by
 have c:([s,B.ob,B.cac,B.cm,B.cmc]++aV B.p++aV B.fp).Nodup:=H.sep;simp only[NV,NN,Nt,List.mem_cons,List.mem_append,Oz]at c;obtain⟨⟨a1,a2,a3,a4,a5,a6⟩,⟨b1,b2,b3,b4,b5⟩,-⟩:=c;have one: ∀{y},y≠B.ob->y∉[B.ob]:=λh hm=>h (by simpa using hm);refine⟨H.S.only O (one a1),Or,H.own.only O λb hb=>one λe=> ?_,H.fre.only O λb hb=>one λe=> ?_,H.cac.only O (one λe=>b1 e.symm) (one λe=>b2 e.symm) (one λe=>b3 e.symm),H.n8,H.len,H.sep⟩
 ·subst e;exact b4 (by rw[show B.p=_ from hb];simp[aV])
 ·subst e;exact b5 hb
def Tw.keep{B:SB}(W:Tw z0 z7 h s n room k B f g N φ F Q off T p1 c1 p2 c2 bl p3 c3)(O:aM S h h')(hS: ∀b∈S,b∈B.bm s)(m:gZ h' s n room B f' g' (du φ' N) F Q off):Tw z0 z7 h' s n room k B f' g' N φ' F Q off T p1 c1 p2 c2 bl p3 c3:=by
 have lt: ∀b∈S,b<z0:=λb hb=>W.lz.2.2 b (Zp (.inl (hS b hb)));have z:=W.lz;refine⟨m,W.t.only O λb hb hm=>W.bs b hm (hS b hb),W.bs,W.o1.only O λb e hb=> ?_,W.o2.only O λb e hb=> ?_,W.o3.only O λb e hb=> ?_,W.l1,W.l2,z.1,by have:=O.size;omega,z.2.2⟩
 ·have:=(W.o1.lt b (by rw[e];simp[aV])).1;have:=lt b hb;omega
 ·have:=(W.o2.lt b (by rw[e];simp[aV])).1;have:=lt b hb;omega
 ·have:=(W.o3.lt b (by rw[e];simp[aV])).1;have:=lt b hb;omega
def Tw.only0(W:Tw z0 z7 h s n room k B f g N φ F Q off T p1 c1 p2 c2 bl p3 c3)(O:aM [] h h'):Tw z0 z7 h' s n room k B f g N φ F Q off T p1 c1 p2 c2 bl p3 c3:=W.keep O ak (W.m.only O ak)
def Tw.st{B:SB}(W:Tw z0 z7 h s n room k B f g N φ F Q off T p1 c1 p2 c2 bl p3 c3)(hx:nd N (a-2)=some x)(a2:2<=a)(ey:φ a x=y)(hs:(du φ N).set (a-2) (some (lv,y.2))=du φ' N)(hp:B.p=some (aw b0))
  (hK: ∀h',Tw z0 z7 h' s n room k B f g N φ' F Q off T p1 c1 p2 c2 bl p3 c3->aM (B.bm s) h h'->K h'):aW h ⟨b0,(a-2)*4+1,none⟩ (ap (lv:Int)) K:=by
 have hm:nd (du φ N) (a-2)=some y:=by rw[gi,hx,NF,show a-2+2=a by omega,ey]
 refine W.m.st (x':=(lv,y.2)) hm hp ah rfl rfl λh' m' O'=> ?_;rw[hs]at m'
 have hb: ∀b∈[b0],b∈B.bm s:=λb hb=>by simp only[MH]at hb;subst hb;exact W.m.pb hp
 exact hK h' (W.keep O' hb m') (O'.mono λb hm _=>hb b hm)
def oJ{k c:Nat}(hk:k<8)(hc:c<8):ax ((k:Int)+(c:Int))=((k+c:Nat):Int):=by rw[wrap_i64 ah ah];omega
def cw.elem{l:List Nat}(H:cw h lo 1 p l.length c (l.map hv))(hi:l[i]? =some a): ∃b,p=some (aw b)/\Ev.rd h ⟨b,i,none⟩=some (hv a):=by
 have lt:=(MQ.1 hi).1;obtain⟨b,e1,e2⟩:=H.rd (j:=i) (by rw[Oc];exact lt);refine⟨b,e1,?_⟩;rw[e2,Nf,hi]
 rfl
def qN{a b:Nat}(ha:a<=70000)(hb:b<=70000):ax ((2:Int)*ax (ax ((a:Int)+ax ((2:Int)*(b:Int)))+(1:Int)))=((2*(a+2*b+1):Nat):Int):=by rw[wrap_i64 (n:=(2:Int)*(b:Int)) ah ah,wrap_i64 (n:=(a:Int)+(2:Int)*(b:Int)) ah ah,wrap_i64 (n:=(a:Int)+(2:Int)*(b:Int)+1) ah ah,wrap_i64 ah ah];omega
def CQ{h:aI}{s n room k:Nat}{B:SB}{f g:Nat->Nat}{N:ay}{F:List Nat}{Q:Int->Int->Prop}{off:Bool}{K:KK}{T:Nat}{u:Value}(H:nH h s n room B f g N F Q off)(hT:gY h B N T)(t5: ∃j,T=32*2^j)(t7:T<=262144)(hk:k+1<n)(P:cF n f g)(rm:bj N+2*(cv n k N).length<=room)
  (hC: ∀h' B' M T' p c lo,hH h' s n room B' (sw k f) (tf k f g) M (cv n k N) F Q off T' (2*(cv n k N).length)->qp n k f N M (cv n k N)->cw h' lo 1 p (cv n k N).length c ((cv n k N).map hv)->h.size<=lo->(∀y∈aV p,y∉B'.bm s++B'.bt)->aM (B.bm s++B.bt) h h'->(∀y∈B'.bm s++B'.bt,y∈B.bm s++B.bt\/h.size<=y)->
   eD Tryz.prog X u [.slice p (cv n k N).length c] h' λv b2=>v=aE/\K aE b2):
  Cl 361 [bg s,ap (k:Int),u] h K:=by
 have n8:=H.m.n8.2;have b8:=H.m.len;have u1:(cQ N k).length<=N.length:=iP;have u2:(cQ N (k+1)).length<=N.length:=iP
 have a3: ∀y∈B.bm s++B.bt,y<h.size:=λy hy=>by
  rcases Zq hy with q|q
  ·exact H.m.lt y q
  ·exact H.t.lt y q
 refine F361.spec _ _ _ h K ?_;refine xg H.m λh1 p1 c1 Ow1 O1=>bB rfl ?_;rw[show((1:Int))=((1:Nat):Int)from rfl,oJ ah ah];have m1:=H.m.only O1 ak;refine xg m1 λh2 p2 c2 Ow2 O2=>bB rfl ?_;have O12:=O1.trans O2 ak;have z1:=O1.size;have z2:=O2.size
 have W0:Tw h.size h2.size h2 s n room k B f g N (qx n k N 0) F Q off T p1 c1 p2 c2 ((cQ N k).take 0|>.filter (cL n k N)) none 0:=by refine⟨by rw[Iq];exact m1.only O2 ak,hT.only O12 ak,H.t.sep,Ow1.only O2 ak,Ow2.le ah,cw.nil _ _ _,λy hy=>by have:=(Ow1.lt y hy).2;omega,λy hy=>(Ow2.lt y hy).2,ah,MN _,a3⟩
 have I: ∀(h4:aI) (M:ay) (T':Nat) (p3:az) (c3:Nat),Tw h.size h2.size h4 s n room k B (sw k f) (tf k f g) N (oh n k N (cQ N k).length) F Q off T p1 c1 p2 c2 (cv n k N) p3 c3->aM (B.bm s) h h4->(∃j,T'=32*2^j)->T'<=262144->2*(bj N+2*(cv n k N).length+1)<=T'->
   F361.wk26 (aw s) u p3 (cv n k N).length c3 (T':Int) h4 K:=λh4 _ T' p3 c3 W O4 k5 k7 cap=>by
  unfold F361.wk26;obtain⟨M,eM⟩: ∃M,M=du (oh n k N (cQ N k).length) N:=⟨_,rfl⟩;have hM: ∀i,nd M i=tD k (cv n k N) (i+2) (nd N i):=by rw[eM];exact Dt
  have mid:=zI (fo:=f) H.ok hk (λa=>uq) hM;have mM:=W.m;rw[<-eM]at mM;have lM:M.length=N.length:=by rw[eM,dP]
  have cM:bj M=bj N:=by rw[eM,jq]
  have up: ∀i x,x.1<k->(nd M i=some x↔nd N i=some x):=λi x hx=>by
   rw[hM];cases hn:nd N i with
   |none=>exact⟨λw=>(by cases w),λw=>(by cases w)⟩
   |some y=>
    rw[dY];unfold iA;constructor
    ·intro w;injection w with w;by_cases q:y.1=k+1
     ·rw[MK q]at w;subst w;exact Nc hx (show ¬k<k by omega)
     ·rw[MG q]at w;by_cases q2:y.1=k/\i+2∉cv n k N
      ·rw[MK q2]at w;subst w;exact Nc hx (show ¬k+1<k by omega)
      ·rw[MG q2]at w;rw[w]
    ·intro w;injection w with w;subst w;rw[MG ah,MG ah]
  have a7:qp n k f N M (cv n k N):=by refine⟨mid,λc hc=> ?_,up,vC,λa a2 ia la=>by rw[hM,fI (n:=n) ia a2,dY];unfold iA;rw[MK la]⟩;obtain⟨c2,ci,cl,-⟩:=uq.1 hc;rw[hM,fI (n:=n) ci c2,dY];unfold iA;rw[MG (by rw[cl];show ¬k=k+1;omega),MG (λw=>w.2 (by rw[show c-2+2=c by omega];exact hc))]
  have a5: ∀i x,nd M i=some x->isN N x.2.1/\isN N x.2.2/\x.2.1≠x.2.2/\x.1<n:=λi x hx=>by
   rw[hM]at hx;cases hn:nd N i with
   |none=>rw[hn]at hx;cases hx
   |some y=>
    rw[hn,dY]at hx;injection hx with hx;obtain⟨k1,k2,k3,k4,-,-⟩:=H.ok.node i y hn
    have e2:x.2=y.2:=by
     rw[<-hx];unfold iA;split
     ·rfl
     ·split<;>rfl
    rw[e2];refine⟨k2,k3,k4,?_⟩;rw[<-hx];unfold iA;split
    ·exact(show k<n by omega)
    ·split
     ·exact hk
     ·exact k1
  have ndok: ∀i x,nd M i=some x->ky x:=λi x hx=>by obtain⟨k2,k3,k4,k1⟩:=a5 i x hx;have:=isN_lt H.m k2;have:=isN_lt H.m k3;exact⟨ah,ah,ah,k4⟩
  have D: ∀{i x},nd (gM (cv n k N) M) i=some x->nd M i=some x:=λ{i x} h=>by
   rw[gA]at h;split at h
   ·cases h
   ·exact h
  have z:=W.lz;have hS:=W.m.S;rw[dP,<-lM]at hS
  refine od (bl:=cv n k N) (v4:=au (aw B.tb)) (v5:= .map (some B.sb)) (T:=T') (f:=sw k f) (g:=tf k f g) (N:=M) (F:=F) (Q:=Q) (off:=off) (B:=B) hS mM.r (λi hi=> ?_) (λa ea e=> ?_) (by have:=iP (N:=N) (l:=k) (k:=N.length);have:=Og (cL n k N) (cQ N k);unfold cQ at this;unfold cv cQ;omega) (λi x hx=>ndok i x (D hx)) (λi j x hi hj=> ?_) k5 (by have:=wj (A:=gM (cv n k N) M) (C:=M) (λi x hx=>D hx);omega) k7
   λtb m mc sb h5 m5 T5 TX g1 g2 g3 g4 O5=>⟨rfl,?_⟩
  ·have Z:i<(cv n k N).length:=by simpa using hi
   obtain⟨b,e1,e2⟩:=W.o3.elem (MT Z);refine⟨_,e1,?_⟩;rw[aL,MF];rw[e2,PI,Nf,MT Z]
   rfl
  ·have:=(W.o3.lt a.block (by rw[ea];simp[aV])).1;have:=z.2.2 s (by simp[SB.bm]);omega
  ·by_cases q:k<=x.1
   ·exact mid.ok.once i j x ((mC q).1 hi) ((mC q).1 hj)
   ·exact H.ok.once i j x ((up i x ah).1 (D hi)) ((up j x ah).1 (D hj))
  have z4:=O4.size;have b5:s∈B.bm s:=by simp[SB.bm]
  refine hC h5 _ M T' p3 c3 h2.size ⟨m5,TX,T5.nd,T5.sep,k5,k7,ah,ah,by rw[lM,cM];exact H.cnt,H.fre.1,λa ha=> ?_⟩ a7 (W.o3.only O5 λb e hm=> ?_) ah (λy hy hm=> ?_) ((O4.mono λy hy _=>Zp (.inl hy)).trans (O5.mono λy hy _=> ?_) λy hy _=>hy) λy hy=> ?_
  ·obtain⟨f1,f2,f3⟩:=H.fre.2 a ha;refine⟨f1,ah,?_⟩;rw[hM,f3]
   rfl
  ·simp only[MH]at hm;have:=(W.o3.lt b (by rw[e];simp[aV])).1;have:=z.2.2 s (by simp[SB.bm]);omega
  ·have h3:=W.o3.lt y hy;rcases Zq hm with q|q
   ·have:=z.2.2 y (Zp (.inl q));omega
   ·simp[SB.bt,SB.tabs]at q;omega
  ·simp only[MH]at hy;subst hy;exact Zp (.inl b5)
  ·rcases Zq hy with q|q
   ·exact .inl (Zp (.inl q))
   ·simp[SB.bt,SB.tabs]at q;exact .inr ah
 have b7:(cv n k N).length<=N.length:=by have:=iP (N:=N) (l:=k) (k:=N.length);have:=Og (cL n k N) (cQ N k);unfold cQ at this;unfold cv cQ;omega
 have L: ∀(d:Nat) (h4:aI) (T':Nat) (p3:az) (c3:Nat),65537*2<=T'*2^d+65537->Tw h.size h2.size h4 s n room k B (sw k f) (tf k f g) N (oh n k N (cQ N k).length) F Q off T p1 c1 p2 c2 (cv n k N) p3 c3->aM (B.bm s) h h4->(∃j,T'=32*2^j)->T'<=262144->
   F361.wL24 (d+1) (aw s) u p3 (cv n k N).length c3 (T':Int) h4 K:=by
  intro d
  induction d with
  |zero=>
   intro h4 T' p3 c3 hd W O4 k5 k7;rw[F361.sL24];have cN:(du (oh n k N (cQ N k).length) N).length=bj (du (oh n k N (cQ N k).length) N)+F.length:=by rw[dP,jq];exact H.cnt
   refine tC W.m cN (aH rfl ?_);rw[jq];rw[qN ah ah,MJ ah,aJ];exact I h4 N T' p3 c3 W O4 k5 k7 ah
  |succ d ih=>
   intro h4 T' p3 c3 hd W O4 k5 k7;rw[F361.sL24];have cN:(du (oh n k N (cQ N k).length) N).length=bj (du (oh n k N (cQ N k).length) N)+F.length:=by rw[dP,jq];exact H.cnt
   refine tC W.m cN (aH rfl ?_);rw[jq];rw[qN ah ah];refine aS (λq=> ?_) λq=> ?_
   ·have q:=MV q;rw[show ax ((T':Int)*2)=((T'*2:Nat):Int) by rw[wrap_i64 ah ah];omega];refine ih h4 (T'*2) p3 c3 (by rw[OF]at hd;rw[Ol,Ov 2];exact hd) W O4 (by obtain⟨j,e⟩:=k5;exact⟨j+1,by rw[e,OF];omega⟩) ah
   ·have q:=MU q;exact I h4 N T' p3 c3 W O4 k5 k7 ah
 have J: ∀(d t:Nat) (h4:aI) (p3:az) (c3:Nat),t+d=(cQ N k).length->Tw h.size h2.size h4 s n room k B (sw k f) (tf k f g) N (oh n k N t) F Q off T p1 c1 p2 c2 (cv n k N) p3 c3->aM (B.bm s) h h4->
   F361.wL17 (d+1) (aw s) (k:Int) u p3 (cv n k N).length c3 p1 (cQ N k).length c1 ((cQ N k).length:Int) (t:Int) h4 K:=by
  intro d
  induction d with
  |zero=>
   intro t h4 p3 c3 ht W O4;rw[F361.sL17];rw[MJ ah,aJ];obtain rfl:t=(cQ N k).length:=ah;unfold F361.wk23;simp only[aL,MF];refine aR (n:=some (aw B.tb)) (by rw[At.rd W.m.S];rfl) ?_;obtain⟨cs,mm,o,f',t1,-⟩:=id W.t;refine gr t1 (aH rfl ?_);unfold F361.wk24;refine⟨14,L 13 h4 T p3 c3 ?_ W O4 t5 t7⟩;obtain⟨j,e⟩:=t5;have:=OC j;omega
  |succ d ih=>
   intro t h4 p3 c3 ht W O4;rw[F361.sL17];rw[MP ah,aO];obtain⟨a,ha⟩: ∃a,(cQ N k)[t]? =some a:=⟨_,MT ah⟩;obtain⟨a2,x,hx,ex⟩:=iU.1 (MM ha);obtain⟨b,eb,rb⟩:=W.o1.elem ha;rw[eb,aT,<-eb];refine⟨ah,ah,?_⟩;simp only[aL,MF,Nz,MO];have aN:=isN_lt H.m (a:=a) (.inr ⟨x,hx⟩);refine aH (n:=(a:Int)) rb (tR W.m ah (λw=> ?_) λb1 y G _ hy rr=>aR rfl ?_)
   ·exact Nc (by rw[gi,hx];rfl) (w (oh n k N t (a-2+2) x) a2)
   rw[aT];simp only[aL,ML];rw[gi,hx,NF,show a-2+2=a by omega]at hy;injection hy with hy;refine aH (n:=(y.1:Int)) (by rw[rr 1 ah];rfl) ?_;rw[show((2:Int))=((2:Nat):Int)from rfl,oJ ah ah,show((1:Int))=((1:Nat):Int)from rfl,oJ (k:=k) ah ah,show ax ((t:Int)+((1:Nat):Int))=((t+1:Nat):Int) by rw[wrap_i64 ah ah];omega];obtain⟨s1,s2⟩:=zX (n:=n) ha hx a2 ex;cases hb:cL n k N a with
   |true=>
    obtain⟨e1,e2⟩:=s1 hb;rw[e1]at hy;rw[show(((y.1:Nat):Int)==((k+2:Nat):Int))=false by rw[Pz,<-hy];omega,aJ];refine ih (t+1) h4 p3 c3 ah (W.keep (aM.refl [] _) ak (by rw[e2];exact W.m)) O4
   |false=>
    obtain⟨e1,e2⟩:=s2 hb;rw[e1]at hy;rw[show(((y.1:Nat):Int)==((k+2:Nat):Int))=true by rw[ON,<-hy],aO,aT];simp only[aL,ML];refine W.st hx a2 (e1.trans hy) (by rw[<-hy];exact e2) G λh5 W5 O5=>ih (t+1) h5 p3 c3 ah W5 (O4.trans O5 λy hy _=>hy)
 have R: ∀(d t:Nat) (h4:aI) (p3:az) (c3:Nat),t+d=(cQ N (k+1)).length->Tw h.size h2.size h4 s n room k B (sw k f) (tf k f g) N (y8 n k N t) F Q off T p1 c1 p2 c2 (cv n k N) p3 c3->aM (B.bm s) h h4->
   F361.wL12 (d+1) (aw s) (k:Int) u p1 (cQ N k).length c1 p3 (cv n k N).length c3 p2 (cQ N (k+1)).length c2 ((cQ N (k+1)).length:Int) (t:Int) h4 K:=by
  intro d
  induction d with
  |zero=>
   intro t h4 p3 c3 ht W O4;rw[F361.sL12];rw[MJ ah,aJ];obtain rfl:t=(cQ N (k+1)).length:=ah;unfold F361.wk16 F361.wk17;exact⟨_,J (cQ N k).length 0 h4 p3 c3 ah (W.keep (aM.refl [] _) ak (by rw[<-KZ];exact W.m)) O4⟩
  |succ d ih=>
   intro t h4 p3 c3 ht W O4;rw[F361.sL12];rw[MP ah,aO];obtain⟨a,ha⟩: ∃a,(cQ N (k+1))[t]? =some a:=⟨_,MT ah⟩;obtain⟨a2,x,hx,ex⟩:=iU.1 (MM ha);obtain⟨b,eb,rb⟩:=W.o2.elem ha;rw[eb,aT,<-eb];refine⟨ah,ah,?_⟩;simp only[aL,MF,Nz,MO];have aN:=isN_lt H.m (a:=a) (.inr ⟨x,hx⟩);refine aH (n:=(a:Int)) rb (tR W.m ah (λw=> ?_) λb1 y G _ hy rr=>aR rfl ?_)
   ·exact Nc (by rw[gi,hx];rfl) (w (y8 n k N t (a-2+2) x) a2)
   rw[aT];simp only[aL,ML];rw[show ax ((t:Int)+1)=((t+1:Nat):Int) by rw[wrap_i64 ah ah];omega];obtain⟨e1,e2⟩:=Am (n:=n) ha hx a2 ex;refine W.st hx a2 e1 e2 G λh5 W5 O5=>ih (t+1) h5 p3 c3 ah W5 (O4.trans O5 λy hy _=>hy)
 unfold F361.wk3
 have Y: ∀(d t:Nat) (h4:aI) (p3:az) (c3:Nat),t+d=(cQ N k).length->Tw h.size h2.size h4 s n room k B f g N (qx n k N t) F Q off T p1 c1 p2 c2 (((cQ N k).take t).filter (cL n k N)) p3 c3->aM (B.bm s) h h4->
   F361.wL3 (d+1) (aw s) (k:Int) u p1 (cQ N k).length c1 p2 (cQ N (k+1)).length c2 p3 (((cQ N k).take t).filter (cL n k N)).length c3 p1 (cQ N k).length c1 ((cQ N k).length:Int) (t:Int) h4 K:=by
  intro d
  induction d with
  |zero=>
   intro t h4 p3 c3 ht W O4;rw[F361.sL3];rw[MJ ah,aJ];obtain rfl:t=(cQ N k).length:=ah;rw[Oi]at W ⊢;have W:Tw h.size h2.size h4 s n room k B f g N (qx n k N (cQ N k).length) F Q off T p1 c1 p2 c2 (cv n k N) p3 c3:=W;show F361.wk10 _ _ _ _ _ _ _ _ _ _ (cv n k N).length _ _ _;unfold F361.wk10;simp only[aL,MF];refine aR (n:=some (aw B.ob)) (by rw[At.rd W.m.S];rfl) ?_;refine Cn W.m.O n8 hk (λi hi=>(P.2 i hi).1) λh5 Or O5=>aH rfl ?_;have ob: ∀b∈[B.ob],b∈B.bm s:=λb hb=>by simp only[MH]at hb;subst hb;simp[SB.bm]
   unfold F361.wk12;exact⟨_,R (cQ N (k+1)).length 0 h5 p3 c3 ah (W.keep O5 ob (by rw[<-Lt];exact W.m.ord O5 Or)) (O4.trans (O5.mono λb hb _=>ob b hb) λy hy _=>hy)⟩
  |succ d ih=>
   intro t h4 p3 c3 ht W O4;rw[F361.sL3];rw[MP ah,aO];obtain⟨a,ha⟩: ∃a,(cQ N k)[t]? =some a:=⟨_,MT ah⟩;obtain⟨a2,x,hx,ex⟩:=iU.1 (MM ha);obtain⟨b,eb,rb⟩:=W.o1.elem ha;rw[eb,aT,<-eb];refine⟨ah,ah,?_⟩;simp only[aL,MF,Nz,MO];have aN:=isN_lt H.m (a:=a) (.inr ⟨x,hx⟩);refine aH (n:=(a:Int)) rb (tR W.m ah (λw=> ?_) λb1 y G _ hy rr=>aR rfl ?_)
   ·exact Nc (by rw[gi,hx];rfl) (w (qx n k N t (a-2+2) x) a2)
   rw[aT];simp only[aL,ML];rw[gi,hx,NF,show a-2+2=a by omega]at hy;injection hy with hy;obtain⟨e1,e2,e3⟩:=zU (n:=n) ha hx a2 ex;rw[e1]at hy;subst hy;obtain⟨k1,k2,k3,k4,k5,k6⟩:=H.ok.node _ x hx
   have U: ∀{c},isN N c->k<lvl n N c->isN (du (qx n k N t) N) c/\lvl n (du (qx n k N t) N) c=lvl n N c:=λ{c} hc hl=>by
    by_cases q:c<2
    ·exact⟨.inl q,by unfold lvl;rw[MK q,MK q]⟩
    ·have hn:=fI (n:=n) hc ah
     have hm:nd (du (qx n k N t) N) (c-2)=some (lvl n N c,low N c,high N c):=by rw[gi,hn,NF];unfold qx;rw[MG (λw=>by have:=w.1;dsimp only at this;omega)]
     refine⟨.inr ⟨_,hm⟩,?_⟩
     conv=>lhs;unfold lvl
     rw[MG q,hm]
   obtain⟨i1,v1⟩:=U k2 ah;obtain⟨i2,v2⟩:=U k3 ah;obtain⟨-,-,lw,hg⟩:=eO (n:=n) hx;rw[show a-2+2=a by omega]at lw hg;have V:cL n k N a=(decide (lvl n N x.2.1=k+1)||decide (lvl n N x.2.2=k+1)):=by unfold cL;rw[lw,hg]
   have ew:ax ((t:Int)+1)=((t+1:Nat):Int):=by rw[wrap_i64 ah ah];omega
   have et:(cQ N k).take (t+1)=(cQ N k).take t++[a]:=by rw[Oo,ha];rfl
   have b9:(((cQ N k).take t).filter (cL n k N)).length<=40000:=by
    have:=Og (cL n k N) ((cQ N k).take t);have:=List.length_take_le t (cQ N k);have:=iP (N:=N) (l:=k) (k:=N.length);unfold cQ at*
    omega
   have app: ∀h6,aM [] h4 h6->cL n k N a=true->bf h6 (.cells #[aq (a:Int)] 46) (λb4 a6=>fC a6 46 1 4 #[(aq (0:Int))] p3 (((cQ N k).take t).filter (cL n k N)).length c3 (some (aw b4)) 1 (λa1 b6 b3 a4=>F361.wL3 (d+1) (aw s) (k:Int) u p1 (cQ N k).length c1 p2 (cQ N (k+1)).length c2 a1 b6 b3 p1 (cQ N k).length c1 ((cQ N k).length:Int) ((t+1:Nat):Int) a4 K)):=λh6 O6 hb=>by
    have W6:=W.only0 O6;have z6:=W6.lz;refine aX λh7 B7 P7 y7=> ?_;have W7:=W6.only0 P7;refine fO (new:=[hv a]) W7.o3 B7 rfl rfl ah (by simp[Value.oneCell']) W7.lz.2.1 λp' c' h8 W8 P8 c4=> ?_;have ef:((cQ N k).take (t+1)).filter (cL n k N)=((cQ N k).take t).filter (cL n k N)++[a]:=by rw[et,NX];simp[hb]
    have e4:(((cQ N k).take t).filter (cL n k N)).length+1=(((cQ N k).take (t+1)).filter (cL n k N)).length:=by rw[ef];simp
    have e5:(((cQ N k).take t).filter (cL n k N)).map hv++[hv a]=(((cQ N k).take (t+1)).filter (cL n k N)).map hv:=by rw[ef];simp
    rw[e4,e5]at W8;rw[e4];have old: ∀y∈aV p3,h2.size<=y:=λy hy=>(W7.o3.lt y hy).1;have a0: ∀b∈aV p3,b∉B.bm s++B.bt:=λb hb hm=>by have:=old b hb;have:=z6.2.2 b hm;omega
    refine ih (t+1) h8 p' c' ah ⟨by rw[e2 hb];exact W7.m.only P8 λb hb hm=>a0 b hb (Zp (.inl hm)),W7.t.only P8 λb hb hm=>a0 b hb (Zp (.inr hm)),W7.bs,W7.o1.only P8 λb e hm=> ?_,W7.o2.only P8 λb e hm=> ?_,W8,W7.l1,W7.l2,z6.1,by have:=P8.size;have:=W7.lz.2.1;omega,z6.2.2⟩ (((O4.trans (O6.mono ak) λy hy _=>hy).trans (P7.mono ak) λy hy _=>hy).trans P8 λy hy hl=> ?_)
    ·have:=old b hm;have:=W7.l1 b (by rw[e];simp[aV]);omega
    ·have:=old b hm;have:=W7.l2 b (by rw[e];simp[aV]);omega
    ·have:=old y hy;omega
   refine aH (n:=(x.2.1:Int)) (by rw[rr 2 ah];rfl) (lj W.m i1 (aH rfl ?_));rw[v1,show((1:Int))=((1:Nat):Int)from rfl,oJ (k:=k) ah ah,show ax ((t:Int)+((1:Nat):Int))=((t+1:Nat):Int)from ew];refine aS (λq=> ?_) λq=> ?_
   ·have q:lvl n N x.2.1=k+1:=by
     have:=Qp q;omega
    exact app h4 (aM.refl _ _) (by rw[V,q];simp)
   have q: ¬lvl n N x.2.1=k+1:=λw=>by rw[w]at q;simp at q
   rw[aT];simp only[aL];refine aH (n:=(x.2.2:Int)) (by rw[rr 3 ah];rfl) (lj W.m i2 (aH rfl ?_));rw[v2];refine aS (λq2=> ?_) λq2=> ?_
   ·have q2:lvl n N x.2.2=k+1:=by
     have:=Qp q2;omega
    exact app h4 (aM.refl _ _) (by rw[V,q2];simp)
   have q2: ¬lvl n N x.2.2=k+1:=λw=>by rw[w]at q2;simp at q2
   have hb:cL n k N a=false:=by rw[V];simp[q,q2]
   rw[show((2:Int))=((2:Nat):Int)from rfl,oJ ah ah];have ef:((cQ N k).take (t+1)).filter (cL n k N)=((cQ N k).take t).filter (cL n k N):=by rw[et,NX];simp[hb]
   rw[<-ef,aT];simp only[aL,ML];refine W.st hx a2 e1 (e3 hb) G λh5 W5 O5=> ?_;rw[<-ef]at W5;exact ih (t+1) h5 p3 c3 ah W5 (O4.trans O5 λy hy _=>hy)
 exact⟨_,Y (cQ N k).length 0 h2 none 0 ah W0 (O12.mono ak)⟩
def F362.T:bi:=⟨[(2,[1,2,3,5,12,13,14]),(3,[1,2,3,5,12,13,14]),(4,[1,2,3,5,7,12,13,14]),(5,[1,2,3,5,7,8,9,12,13,14])],[(4,[[(0,[]),(1,[]),(2,[]),(4,[]),(6,[]),(7,[]),(8,[]),(10,[]),(3,[0,4,6,7,8,10]),(5,[6,7,8,10]),(9,[6,10]),(11,[]),(12,[0,1,2,4,6,7,8,10]),(13,[0,1,2,4,6,7,8,10]),(14,[]),(15,[])],[(0,[]),(1,[]),(2,[]),(4,[]),(6,[]),(7,[]),(8,[]),(10,[]),(3,[0,4,6,7,8,10]),(5,[6,7,8,10]),(9,[6,10]),(11,[]),(13,[0,1,2,4,6,7,8,10]),(12,[0,1,2,4,6,7,8,10]),(14,[]),(15,[])],[(0,[]),(1,[]),(2,[]),(4,[]),(6,[]),(7,[]),(8,[]),(10,[]),(3,[0,4,6,7,8,10]),(5,[6,7,8,10]),(9,[6,10]),(12,[0,1,2,4,6,7,8,10]),(11,[]),(13,[0,1,2,4,6,7,8,10]),(14,[]),(15,[])],[(0,[]),(1,[]),(2,[]),(4,[]),(6,[]),(7,[]),(8,[]),(10,[]),(3,[0,4,6,7,8,10]),(5,[6,7,8,10]),(9,[6,10]),(12,[0,1,2,4,6,7,8,10]),(13,[0,1,2,4,6,7,8,10]),(11,[]),(14,[]),(15,[])],[(0,[]),(1,[]),(2,[]),(4,[]),(6,[]),(7,[]),(8,[]),(10,[]),(3,[0,4,6,7,8,10]),(5,[6,7,8,10]),(9,[6,10]),(13,[0,1,2,4,6,7,8,10]),(11,[]),(12,[0,1,2,4,6,7,8,10]),(14,[]),(15,[])],[(0,[]),(1,[]),(2,[]),(4,[]),(6,[]),(7,[]),(8,[]),(10,[]),(3,[0,4,6,7,8,10]),(5,[6,7,8,10]),(9,[6,10]),(13,[0,1,2,4,6,7,8,10]),(12,[0,1,2,4,6,7,8,10]),(11,[]),(14,[]),(15,[])],[(0,[]),(1,[]),(2,[]),(4,[]),(6,[]),(7,[]),(8,[]),(10,[]),(3,[0,4,6,7,8,10]),(5,[6,7,8,10]),(12,[0,1,2,4,6,7,8,10]),(9,[6,10]),(11,[]),(13,[0,1,2,4,6,7,8,10]),(14,[]),(15,[])],[(0,[]),(1,[]),(2,[]),(4,[]),(6,[]),(7,[]),(8,[]),(10,[]),(3,[0,4,6,7,8,10]),(5,[6,7,8,10]),(12,[0,1,2,4,6,7,8,10]),(9,[6,10]),(13,[0,1,2,4,6,7,8,10]),(11,[]),(14,[]),(15,[])],[(0,[]),(1,[]),(2,[]),(4,[]),(6,[]),(7,[]),(8,[]),(10,[]),(3,[0,4,6,7,8,10]),(5,[6,7,8,10]),(12,[0,1,2,4,6,7,8,10]),(13,[0,1,2,4,6,7,8,10]),(9,[6,10]),(11,[]),(14,[]),(15,[])],[(0,[]),(1,[]),(2,[]),(4,[]),(6,[]),(7,[]),(8,[]),(10,[]),(3,[0,4,6,7,8,10]),(5,[6,7,8,10]),(13,[0,1,2,4,6,7,8,10]),(9,[6,10]),(11,[]),(12,[0,1,2,4,6,7,8,10]),(14,[]),(15,[])],[(0,[]),(1,[]),(2,[]),(4,[]),(6,[]),(7,[]),(8,[]),(10,[]),(3,[0,4,6,7,8,10]),(5,[6,7,8,10]),(13,[0,1,2,4,6,7,8,10]),(9,[6,10]),(12,[0,1,2,4,6,7,8,10]),(11,[]),(14,[]),(15,[])],[(0,[]),(1,[]),(2,[]),(4,[]),(6,[]),(7,[]),(8,[]),(10,[]),(3,[0,4,6,7,8,10]),(5,[6,7,8,10]),(13,[0,1,2,4,6,7,8,10]),(12,[0,1,2,4,6,7,8,10]),(9,[6,10]),(11,[]),(14,[]),(15,[])],[(0,[]),(1,[]),(2,[]),(4,[]),(6,[]),(7,[]),(8,[]),(10,[]),(3,[0,4,6,7,8,10]),(12,[0,1,2,4,6,7,8,10]),(5,[6,7,8,10]),(9,[6,10]),(11,[]),(13,[0,1,2,4,6,7,8,10]),(14,[]),(15,[])],[(0,[]),(1,[]),(2,[]),(4,[]),(6,[]),(7,[]),(8,[]),(10,[]),(3,[0,4,6,7,8,10]),(12,[0,1,2,4,6,7,8,10]),(5,[6,7,8,10]),(9,[6,10]),(13,[0,1,2,4,6,7,8,10]),(11,[]),(14,[]),(15,[])],[(0,[]),(1,[]),(2,[]),(4,[]),(6,[]),(7,[]),(8,[]),(10,[]),(3,[0,4,6,7,8,10]),(12,[0,1,2,4,6,7,8,10]),(5,[6,7,8,10]),(13,[0,1,2,4,6,7,8,10]),(9,[6,10]),(11,[]),(14,[]),(15,[])],[(0,[]),(1,[]),(2,[]),(4,[]),(6,[]),(7,[]),(8,[]),(10,[]),(3,[0,4,6,7,8,10]),(12,[0,1,2,4,6,7,8,10]),(13,[0,1,2,4,6,7,8,10]),(5,[6,7,8,10]),(9,[6,10]),(11,[]),(14,[]),(15,[])],[(0,[]),(1,[]),(2,[]),(4,[]),(6,[]),(7,[]),(8,[]),(10,[]),(3,[0,4,6,7,8,10]),(13,[0,1,2,4,6,7,8,10]),(5,[6,7,8,10]),(9,[6,10]),(11,[]),(12,[0,1,2,4,6,7,8,10]),(14,[]),(15,[])],[(0,[]),(1,[]),(2,[]),(4,[]),(6,[]),(7,[]),(8,[]),(10,[]),(3,[0,4,6,7,8,10]),(13,[0,1,2,4,6,7,8,10]),(5,[6,7,8,10]),(9,[6,10]),(12,[0,1,2,4,6,7,8,10]),(11,[]),(14,[]),(15,[])],[(0,[]),(1,[]),(2,[]),(4,[]),(6,[]),(7,[]),(8,[]),(10,[]),(3,[0,4,6,7,8,10]),(13,[0,1,2,4,6,7,8,10]),(5,[6,7,8,10]),(12,[0,1,2,4,6,7,8,10]),(9,[6,10]),(11,[]),(14,[]),(15,[])],[(0,[]),(1,[]),(2,[]),(4,[]),(6,[]),(7,[]),(8,[]),(10,[]),(3,[0,4,6,7,8,10]),(13,[0,1,2,4,6,7,8,10]),(12,[0,1,2,4,6,7,8,10]),(5,[6,7,8,10]),(9,[6,10]),(11,[]),(14,[]),(15,[])],[(0,[]),(1,[]),(2,[]),(4,[]),(6,[]),(7,[]),(8,[]),(10,[]),(12,[0,1,2,4,6,7,8,10]),(3,[0,4,6,7,8,10]),(5,[6,7,8,10]),(9,[6,10]),(11,[]),(13,[0,1,2,4,6,7,8,10]),(14,[]),(15,[])],[(0,[]),(1,[]),(2,[]),(4,[]),(6,[]),(7,[]),(8,[]),(10,[]),(12,[0,1,2,4,6,7,8,10]),(3,[0,4,6,7,8,10]),(5,[6,7,8,10]),(9,[6,10]),(13,[0,1,2,4,6,7,8,10]),(11,[]),(14,[]),(15,[])],[(0,[]),(1,[]),(2,[]),(4,[]),(6,[]),(7,[]),(8,[]),(10,[]),(12,[0,1,2,4,6,7,8,10]),(3,[0,4,6,7,8,10]),(5,[6,7,8,10]),(13,[0,1,2,4,6,7,8,10]),(9,[6,10]),(11,[]),(14,[]),(15,[])],[(0,[]),(1,[]),(2,[]),(4,[]),(6,[]),(7,[]),(8,[]),(10,[]),(12,[0,1,2,4,6,7,8,10]),(3,[0,4,6,7,8,10]),(13,[0,1,2,4,6,7,8,10]),(5,[6,7,8,10]),(9,[6,10]),(11,[]),(14,[]),(15,[])],[(0,[]),(1,[]),(2,[]),(4,[]),(6,[]),(7,[]),(8,[]),(10,[]),(12,[0,1,2,4,6,7,8,10]),(13,[0,1,2,4,6,7,8,10]),(3,[0,4,6,7,8,10]),(5,[6,7,8,10]),(9,[6,10]),(11,[]),(14,[]),(15,[])],[(0,[]),(1,[]),(2,[]),(4,[]),(6,[]),(7,[]),(8,[]),(10,[]),(13,[0,1,2,4,6,7,8,10]),(3,[0,4,6,7,8,10]),(5,[6,7,8,10]),(9,[6,10]),(11,[]),(12,[0,1,2,4,6,7,8,10]),(14,[]),(15,[])],[(0,[]),(1,[]),(2,[]),(4,[]),(6,[]),(7,[]),(8,[]),(10,[]),(13,[0,1,2,4,6,7,8,10]),(3,[0,4,6,7,8,10]),(5,[6,7,8,10]),(9,[6,10]),(12,[0,1,2,4,6,7,8,10]),(11,[]),(14,[]),(15,[])],[(0,[]),(1,[]),(2,[]),(4,[]),(6,[]),(7,[]),(8,[]),(10,[]),(13,[0,1,2,4,6,7,8,10]),(3,[0,4,6,7,8,10]),(5,[6,7,8,10]),(12,[0,1,2,4,6,7,8,10]),(9,[6,10]),(11,[]),(14,[]),(15,[])],[(0,[]),(1,[]),(2,[]),(4,[]),(6,[]),(7,[]),(8,[]),(10,[]),(13,[0,1,2,4,6,7,8,10]),(3,[0,4,6,7,8,10]),(12,[0,1,2,4,6,7,8,10]),(5,[6,7,8,10]),(9,[6,10]),(11,[]),(14,[]),(15,[])],[(0,[]),(1,[]),(2,[]),(4,[]),(6,[]),(7,[]),(8,[]),(10,[]),(13,[0,1,2,4,6,7,8,10]),(12,[0,1,2,4,6,7,8,10]),(3,[0,4,6,7,8,10]),(5,[6,7,8,10]),(9,[6,10]),(11,[]),(14,[]),(15,[])]]),(5,[[(0,[]),(1,[]),(2,[]),(3,[]),(4,[]),(5,[]),(6,[]),(8,[]),(9,[]),(10,[]),(11,[]),(7,[0,1,2,8,9,10,11]),(12,[0,1,2]),(13,[])]])]⟩
section
variable (bk2:Addr->Addr->Addr->Value->(az)->Nat->Nat->Int->Int->aI->Prop)(n:Nat)(u:az)(q t:Nat)(a c l:Addr)(o:Value)(b:Int)(f:az)(d g:Nat)(j i:Int)(h:aI)(K:KK)
def F362.wL2:Prop:=Lp Tryz.f362 F362.T [1,1,0] n [(1,(au a)),(2,(au c)),(3,(au l)),(5,o),(12,(.slice f d g)),(13,(ap j)),(14,(ap i))] h K
def F362.wk5(bk2:Addr->Addr->Addr->Value->(az)->Nat->Nat->Int->Int->aI->Prop)(a c l:Addr)(o:Value)(b:Int)(r s:Addr)(f:az)(d g:Nat)(j i:Int)(h:aI)(K:KK):Prop:=aQ .i64 (rd h l) λe=>a8 (rd h a) λk=>aQ .i64 (rd h l) λm=>aQ .u32 (rd h (r.add 0)) λn=>aQ .u32 (rd h (r.add 1)) λp=>aQ .u32 (rd h (s.add 0)) λq=>aQ .u32 (rd h (s.add 1)) λt=>a8 (rd h a) λu=>aQ .i64 (rd h l) λv=>aQ .u32 (rd h (r.add 0)) λw=>aQ .u32 (rd h (r.add 1)) λx=>aQ .u32 (rd h (s.add 0)) λy=>aQ .u32 (rd h (s.add 1)) λz=>Cl 365 [aA k,ap m,.agg #[aq n,aq p],.agg #[aq q,aq t],ap 0] h λk m=>aQ .u32 (some k) λk=>o=(o:Value)/\aF (aq b)/\aQ .i64 (rd m l) λn=>aG (ap n) (ap e)/\a8 (rd m a) λn=>aG (aA n) (aA u)/\aQ .i64 (rd m l) λn=>aG (ap n) (ap v)/\aQ .u32 (rd m (r.add 0)) λn=>aQ .u32 (rd m (r.add 1)) λp=>aG (.agg #[aq n,aq p]) (.agg #[aq w,aq x])/\aQ .u32 (rd m (s.add 0)) λn=>aQ .u32 (rd m (s.add 1)) λp=>aG (.agg #[aq n,aq p]) (.agg #[aq y,aq z])/\Cl 365 [aA u,ap v,.agg #[aq w,aq x],.agg #[aq y,aq z],ap 1] m λm n=>aQ .u32 (some m) λm=>o=(o:Value)/\aF (aq b)/\aQ .i64 (rd n l) λp=>aG (ap p) (ap e)/\eD Tryz.prog X o [aq b,ap e,aq k,aq m] n λb e=>b=aE/\bk2 a c l o f d g j (ax (i+1)) e
def F362.wk4:Prop:=a8 (rd h a) λe=>a8 (rd h a) λk=>bR (rd h c) λm=>a8 (rd h a) λn=>a8 (rd h a) λp=>bR (rd h c) λq=>Cl 72 [aA k,aq b] h (λr s=>aQ .u32 (some r) λr=>a8 (rd s a) λt=>aG (aA t) (aA e)/\bR (rd s c) λt=>aG (.map t) (.map m)/\a8 (rd s a) λt=>aG (aA t) (aA n)/\a8 (rd s a) λt=>aG (aA t) (aA p)/\aF (aq b)/\bR (rd s c) λt=>aG (.map t) (.map q)/\Cl 364 [aA e,aq r,.map m] s (λr s=> ∃t:Int,∃u:Int,r=(.agg #[aq t,aq u])/\a8 (rd s a) λr=>aG (aA r) (aA n)/\a8 (rd s a) λr=>aG (aA r) (aA p)/\aF (aq b)/\bR (rd s c) λr=>aG (.map r) (.map q)/\Cl 73 [aA p,aq b] s (λr s=>aQ .u32 (some r) λr=>a8 (rd s a) λv=>aG (aA v) (aA n)/\bR (rd s c) λv=>aG (.map v) (.map q)/\Cl 364 [aA n,aq r,.map q] s (λr s=> ∃v:Int,∃w:Int,r=(.agg #[aq v,aq w])/\bf s (.cells #[aq 0,aq 0] 352) (λr s=>a8 (rd s a) λx=>aG (aA x) (aA e)/\a8 (rd s a) λx=>aG (aA x) (aA k)/\aF (aq b)/\bR (rd s c) λx=>aG (.map x) (.map m)/\a8 (rd s a) λx=>aG (aA x) (aA n)/\a8 (rd s a) λx=>aG (aA x) (aA p)/\aF (aq b)/\bR (rd s c) λx=>aG (.map x) (.map q)/\bf s (.cells #[aq 0,aq 0] 352) λs x=>a8 (rd x a) λy=>aG (aA y) (aA e)/\a8 (rd x a) λe=>aG (aA e) (aA k)/\aF (aq b)/\bR (rd x c) λe=>aG (.map e) (.map m)/\a8 (rd x a) λe=>aG (aA e) (aA n)/\a8 (rd x a) λe=>aG (aA e) (aA p)/\aF (aq b)/\bR (rd x c) λe=>aG (.map e) (.map q)/\aW x ((aw r).add 0) (aq t) λe=>aW e ((aw r).add 1) (aq u) λe=>aW e ((aw s).add 0) (aq v) λe=>aW e ((aw s).add 1) (aq w) λe=>F362.wk5 bk2 a c l o b (aw r) (aw s) f d g j i e K)/\bf s (.cells #[aq 0,aq 0] 352) λr s=>a8 (rd s a) λx=>aG (aA x) (aA e)/\a8 (rd s a) λx=>aG (aA x) (aA k)/\aF (aq b)/\bR (rd s c) λx=>aG (.map x) (.map m)/\a8 (rd s a) λx=>aG (aA x) (aA n)/\a8 (rd s a) λx=>aG (aA x) (aA p)/\aF (aq b)/\bR (rd s c) λx=>aG (.map x) (.map q)/\bf s (.cells #[aq 0,aq 0] 352) λs x=>a8 (rd x a) λy=>aG (aA y) (aA e)/\a8 (rd x a) λe=>aG (aA e) (aA k)/\aF (aq b)/\bR (rd x c) λe=>aG (.map e) (.map m)/\a8 (rd x a) λe=>aG (aA e) (aA n)/\a8 (rd x a) λe=>aG (aA e) (aA p)/\aF (aq b)/\bR (rd x c) λe=>aG (.map e) (.map q)/\aW x ((aw s).add 0) (aq t) λe=>aW e ((aw s).add 1) (aq u) λe=>aW e ((aw r).add 0) (aq v) λe=>aW e ((aw r).add 1) (aq w) λe=>F362.wk5 bk2 a c l o b (aw s) (aw r) f d g j i e K)/\bf s (.cells #[aq 0,aq 0] 352) (λs v=>a8 (rd v a) λw=>aG (aA w) (aA e)/\a8 (rd v a) λw=>aG (aA w) (aA k)/\aF (aq b)/\bR (rd v c) λw=>aG (.map w) (.map m)/\a8 (rd v a) λw=>aG (aA w) (aA n)/\a8 (rd v a) λw=>aG (aA w) (aA p)/\aF (aq b)/\bR (rd v c) λw=>aG (.map w) (.map q)/\Cl 364 [aA n,aq r,.map q] v (λr v=> ∃w:Int,∃x:Int,r=(.agg #[aq w,aq x])/\bf v (.cells #[aq 0,aq 0] 352) λr v=>a8 (rd v a) λy=>aG (aA y) (aA e)/\a8 (rd v a) λe=>aG (aA e) (aA k)/\aF (aq b)/\bR (rd v c) λe=>aG (.map e) (.map m)/\a8 (rd v a) λe=>aG (aA e) (aA n)/\a8 (rd v a) λe=>aG (aA e) (aA p)/\aF (aq b)/\bR (rd v c) λe=>aG (.map e) (.map q)/\aW v ((aw s).add 0) (aq t) λe=>aW e ((aw s).add 1) (aq u) λe=>aW e ((aw r).add 0) (aq w) λe=>aW e ((aw r).add 1) (aq x) λe=>F362.wk5 bk2 a c l o b (aw s) (aw r) f d g j i e K)/\bf v (.cells #[aq 0,aq 0] 352) λv w=>a8 (rd w a) λx=>aG (aA x) (aA e)/\a8 (rd w a) λe=>aG (aA e) (aA k)/\aF (aq b)/\bR (rd w c) λe=>aG (.map e) (.map m)/\a8 (rd w a) λe=>aG (aA e) (aA n)/\a8 (rd w a) λe=>aG (aA e) (aA p)/\aF (aq b)/\bR (rd w c) λe=>aG (.map e) (.map q)/\Cl 364 [aA n,aq r,.map q] w λe k=> ∃m:Int,∃n:Int,e=(.agg #[aq m,aq n])/\aW k ((aw s).add 0) (aq t) λe=>aW e ((aw s).add 1) (aq u) λe=>aW e ((aw v).add 0) (aq m) λe=>aW e ((aw v).add 1) (aq n) λe=>F362.wk5 bk2 a c l o b (aw s) (aw v) f d g j i e K)/\bf s (.cells #[aq 0,aq 0] 352) λs v=>a8 (rd v a) λw=>aG (aA w) (aA e)/\a8 (rd v a) λw=>aG (aA w) (aA k)/\aF (aq b)/\bR (rd v c) λw=>aG (.map w) (.map m)/\a8 (rd v a) λw=>aG (aA w) (aA n)/\a8 (rd v a) λw=>aG (aA w) (aA p)/\aF (aq b)/\bR (rd v c) λw=>aG (.map w) (.map q)/\Cl 364 [aA n,aq r,.map q] v (λr v=> ∃w:Int,∃x:Int,r=(.agg #[aq w,aq x])/\bf v (.cells #[aq 0,aq 0] 352) λr v=>a8 (rd v a) λy=>aG (aA y) (aA e)/\a8 (rd v a) λe=>aG (aA e) (aA k)/\aF (aq b)/\bR (rd v c) λe=>aG (.map e) (.map m)/\a8 (rd v a) λe=>aG (aA e) (aA n)/\a8 (rd v a) λe=>aG (aA e) (aA p)/\aF (aq b)/\bR (rd v c) λe=>aG (.map e) (.map q)/\aW v ((aw r).add 0) (aq t) λe=>aW e ((aw r).add 1) (aq u) λe=>aW e ((aw s).add 0) (aq w) λe=>aW e ((aw s).add 1) (aq x) λe=>F362.wk5 bk2 a c l o b (aw r) (aw s) f d g j i e K)/\bf v (.cells #[aq 0,aq 0] 352) λv w=>a8 (rd w a) λx=>aG (aA x) (aA e)/\a8 (rd w a) λe=>aG (aA e) (aA k)/\aF (aq b)/\bR (rd w c) λe=>aG (.map e) (.map m)/\a8 (rd w a) λe=>aG (aA e) (aA n)/\a8 (rd w a) λe=>aG (aA e) (aA p)/\aF (aq b)/\bR (rd w c) λe=>aG (.map e) (.map q)/\Cl 364 [aA n,aq r,.map q] w λe k=> ∃m:Int,∃n:Int,e=(.agg #[aq m,aq n])/\aW k ((aw v).add 0) (aq t) λe=>aW e ((aw v).add 1) (aq u) λe=>aW e ((aw s).add 0) (aq m) λe=>aW e ((aw s).add 1) (aq n) λe=>F362.wk5 bk2 a c l o b (aw v) (aw s) f d g j i e K)/\bf s (.cells #[aq 0,aq 0] 352) (λr s=>a8 (rd s a) λv=>aG (aA v) (aA e)/\a8 (rd s a) λv=>aG (aA v) (aA k)/\aF (aq b)/\bR (rd s c) λv=>aG (.map v) (.map m)/\a8 (rd s a) λv=>aG (aA v) (aA n)/\a8 (rd s a) λv=>aG (aA v) (aA p)/\aF (aq b)/\bR (rd s c) λv=>aG (.map v) (.map q)/\Cl 73 [aA p,aq b] s (λs v=>aQ .u32 (some s) λs=>a8 (rd v a) λw=>aG (aA w) (aA n)/\bR (rd v c) λw=>aG (.map w) (.map q)/\Cl 364 [aA n,aq s,.map q] v (λs v=> ∃w:Int,∃x:Int,s=(.agg #[aq w,aq x])/\bf v (.cells #[aq 0,aq 0] 352) λs v=>a8 (rd v a) λy=>aG (aA y) (aA e)/\a8 (rd v a) λe=>aG (aA e) (aA k)/\aF (aq b)/\bR (rd v c) λe=>aG (.map e) (.map m)/\a8 (rd v a) λe=>aG (aA e) (aA n)/\a8 (rd v a) λe=>aG (aA e) (aA p)/\aF (aq b)/\bR (rd v c) λe=>aG (.map e) (.map q)/\aW v ((aw r).add 0) (aq t) λe=>aW e ((aw r).add 1) (aq u) λe=>aW e ((aw s).add 0) (aq w) λe=>aW e ((aw s).add 1) (aq x) λe=>F362.wk5 bk2 a c l o b (aw r) (aw s) f d g j i e K)/\bf v (.cells #[aq 0,aq 0] 352) λv w=>a8 (rd w a) λx=>aG (aA x) (aA e)/\a8 (rd w a) λe=>aG (aA e) (aA k)/\aF (aq b)/\bR (rd w c) λe=>aG (.map e) (.map m)/\a8 (rd w a) λe=>aG (aA e) (aA n)/\a8 (rd w a) λe=>aG (aA e) (aA p)/\aF (aq b)/\bR (rd w c) λe=>aG (.map e) (.map q)/\Cl 364 [aA n,aq s,.map q] w λe k=> ∃m:Int,∃n:Int,e=(.agg #[aq m,aq n])/\aW k ((aw r).add 0) (aq t) λe=>aW e ((aw r).add 1) (aq u) λe=>aW e ((aw v).add 0) (aq m) λe=>aW e ((aw v).add 1) (aq n) λe=>F362.wk5 bk2 a c l o b (aw r) (aw v) f d g j i e K)/\bf s (.cells #[aq 0,aq 0] 352) λs v=>a8 (rd v a) λw=>aG (aA w) (aA e)/\a8 (rd v a) λe=>aG (aA e) (aA k)/\aF (aq b)/\bR (rd v c) λe=>aG (.map e) (.map m)/\a8 (rd v a) λe=>aG (aA e) (aA n)/\a8 (rd v a) λe=>aG (aA e) (aA p)/\aF (aq b)/\bR (rd v c) λe=>aG (.map e) (.map q)/\Cl 73 [aA p,aq b] v λe k=>aQ .u32 (some e) λe=>a8 (rd k a) λm=>aG (aA m) (aA n)/\bR (rd k c) λm=>aG (.map m) (.map q)/\Cl 364 [aA n,aq e,.map q] k λe k=> ∃m:Int,∃n:Int,e=(.agg #[aq m,aq n])/\aW k ((aw r).add 0) (aq t) λe=>aW e ((aw r).add 1) (aq u) λe=>aW e ((aw s).add 0) (aq m) λe=>aW e ((aw s).add 1) (aq n) λe=>F362.wk5 bk2 a c l o b (aw r) (aw s) f d g j i e K)/\bf s (.cells #[aq 0,aq 0] 352) λr s=>a8 (rd s a) λv=>aG (aA v) (aA e)/\a8 (rd s a) λv=>aG (aA v) (aA k)/\aF (aq b)/\bR (rd s c) λv=>aG (.map v) (.map m)/\a8 (rd s a) λv=>aG (aA v) (aA n)/\a8 (rd s a) λv=>aG (aA v) (aA p)/\aF (aq b)/\bR (rd s c) λv=>aG (.map v) (.map q)/\Cl 73 [aA p,aq b] s (λs v=>aQ .u32 (some s) λs=>a8 (rd v a) λw=>aG (aA w) (aA n)/\bR (rd v c) λw=>aG (.map w) (.map q)/\Cl 364 [aA n,aq s,.map q] v (λs v=> ∃w:Int,∃x:Int,s=(.agg #[aq w,aq x])/\bf v (.cells #[aq 0,aq 0] 352) λs v=>a8 (rd v a) λy=>aG (aA y) (aA e)/\a8 (rd v a) λe=>aG (aA e) (aA k)/\aF (aq b)/\bR (rd v c) λe=>aG (.map e) (.map m)/\a8 (rd v a) λe=>aG (aA e) (aA n)/\a8 (rd v a) λe=>aG (aA e) (aA p)/\aF (aq b)/\bR (rd v c) λe=>aG (.map e) (.map q)/\aW v ((aw s).add 0) (aq t) λe=>aW e ((aw s).add 1) (aq u) λe=>aW e ((aw r).add 0) (aq w) λe=>aW e ((aw r).add 1) (aq x) λe=>F362.wk5 bk2 a c l o b (aw s) (aw r) f d g j i e K)/\bf v (.cells #[aq 0,aq 0] 352) λv w=>a8 (rd w a) λx=>aG (aA x) (aA e)/\a8 (rd w a) λe=>aG (aA e) (aA k)/\aF (aq b)/\bR (rd w c) λe=>aG (.map e) (.map m)/\a8 (rd w a) λe=>aG (aA e) (aA n)/\a8 (rd w a) λe=>aG (aA e) (aA p)/\aF (aq b)/\bR (rd w c) λe=>aG (.map e) (.map q)/\Cl 364 [aA n,aq s,.map q] w λe k=> ∃m:Int,∃n:Int,e=(.agg #[aq m,aq n])/\aW k ((aw v).add 0) (aq t) λe=>aW e ((aw v).add 1) (aq u) λe=>aW e ((aw r).add 0) (aq m) λe=>aW e ((aw r).add 1) (aq n) λe=>F362.wk5 bk2 a c l o b (aw v) (aw r) f d g j i e K)/\bf s (.cells #[aq 0,aq 0] 352) λs v=>a8 (rd v a) λw=>aG (aA w) (aA e)/\a8 (rd v a) λe=>aG (aA e) (aA k)/\aF (aq b)/\bR (rd v c) λe=>aG (.map e) (.map m)/\a8 (rd v a) λe=>aG (aA e) (aA n)/\a8 (rd v a) λe=>aG (aA e) (aA p)/\aF (aq b)/\bR (rd v c) λe=>aG (.map e) (.map q)/\Cl 73 [aA p,aq b] v λe k=>aQ .u32 (some e) λe=>a8 (rd k a) λm=>aG (aA m) (aA n)/\bR (rd k c) λm=>aG (.map m) (.map q)/\Cl 364 [aA n,aq e,.map q] k λe k=> ∃m:Int,∃n:Int,e=(.agg #[aq m,aq n])/\aW k ((aw s).add 0) (aq t) λe=>aW e ((aw s).add 1) (aq u) λe=>aW e ((aw r).add 0) (aq m) λe=>aW e ((aw r).add 1) (aq n) λe=>F362.wk5 bk2 a c l o b (aw s) (aw r) f d g j i e K)/\bf s (.cells #[aq 0,aq 0] 352) (λs t=>a8 (rd t a) λu=>aG (aA u) (aA e)/\a8 (rd t a) λu=>aG (aA u) (aA k)/\aF (aq b)/\bR (rd t c) λu=>aG (.map u) (.map m)/\a8 (rd t a) λu=>aG (aA u) (aA n)/\a8 (rd t a) λu=>aG (aA u) (aA p)/\aF (aq b)/\bR (rd t c) λu=>aG (.map u) (.map q)/\Cl 364 [aA e,aq r,.map m] t (λr t=> ∃u:Int,∃v:Int,r=(.agg #[aq u,aq v])/\a8 (rd t a) λr=>aG (aA r) (aA n)/\a8 (rd t a) λr=>aG (aA r) (aA p)/\aF (aq b)/\bR (rd t c) λr=>aG (.map r) (.map q)/\Cl 73 [aA p,aq b] t (λr t=>aQ .u32 (some r) λr=>a8 (rd t a) λw=>aG (aA w) (aA n)/\bR (rd t c) λw=>aG (.map w) (.map q)/\Cl 364 [aA n,aq r,.map q] t (λr t=> ∃w:Int,∃x:Int,r=(.agg #[aq w,aq x])/\bf t (.cells #[aq 0,aq 0] 352) λr t=>a8 (rd t a) λy=>aG (aA y) (aA e)/\a8 (rd t a) λe=>aG (aA e) (aA k)/\aF (aq b)/\bR (rd t c) λe=>aG (.map e) (.map m)/\a8 (rd t a) λe=>aG (aA e) (aA n)/\a8 (rd t a) λe=>aG (aA e) (aA p)/\aF (aq b)/\bR (rd t c) λe=>aG (.map e) (.map q)/\aW t ((aw s).add 0) (aq u) λe=>aW e ((aw s).add 1) (aq v) λe=>aW e ((aw r).add 0) (aq w) λe=>aW e ((aw r).add 1) (aq x) λe=>F362.wk5 bk2 a c l o b (aw s) (aw r) f d g j i e K)/\bf t (.cells #[aq 0,aq 0] 352) λt w=>a8 (rd w a) λx=>aG (aA x) (aA e)/\a8 (rd w a) λe=>aG (aA e) (aA k)/\aF (aq b)/\bR (rd w c) λe=>aG (.map e) (.map m)/\a8 (rd w a) λe=>aG (aA e) (aA n)/\a8 (rd w a) λe=>aG (aA e) (aA p)/\aF (aq b)/\bR (rd w c) λe=>aG (.map e) (.map q)/\Cl 364 [aA n,aq r,.map q] w λe k=> ∃m:Int,∃n:Int,e=(.agg #[aq m,aq n])/\aW k ((aw s).add 0) (aq u) λe=>aW e ((aw s).add 1) (aq v) λe=>aW e ((aw t).add 0) (aq m) λe=>aW e ((aw t).add 1) (aq n) λe=>F362.wk5 bk2 a c l o b (aw s) (aw t) f d g j i e K)/\bf t (.cells #[aq 0,aq 0] 352) λr t=>a8 (rd t a) λw=>aG (aA w) (aA e)/\a8 (rd t a) λe=>aG (aA e) (aA k)/\aF (aq b)/\bR (rd t c) λe=>aG (.map e) (.map m)/\a8 (rd t a) λe=>aG (aA e) (aA n)/\a8 (rd t a) λe=>aG (aA e) (aA p)/\aF (aq b)/\bR (rd t c) λe=>aG (.map e) (.map q)/\Cl 73 [aA p,aq b] t λe k=>aQ .u32 (some e) λe=>a8 (rd k a) λm=>aG (aA m) (aA n)/\bR (rd k c) λm=>aG (.map m) (.map q)/\Cl 364 [aA n,aq e,.map q] k λe k=> ∃m:Int,∃n:Int,e=(.agg #[aq m,aq n])/\aW k ((aw s).add 0) (aq u) λe=>aW e ((aw s).add 1) (aq v) λe=>aW e ((aw r).add 0) (aq m) λe=>aW e ((aw r).add 1) (aq n) λe=>F362.wk5 bk2 a c l o b (aw s) (aw r) f d g j i e K)/\bf t (.cells #[aq 0,aq 0] 352) λt u=>a8 (rd u a) λv=>aG (aA v) (aA e)/\a8 (rd u a) λv=>aG (aA v) (aA k)/\aF (aq b)/\bR (rd u c) λk=>aG (.map k) (.map m)/\a8 (rd u a) λk=>aG (aA k) (aA n)/\a8 (rd u a) λk=>aG (aA k) (aA p)/\aF (aq b)/\bR (rd u c) λk=>aG (.map k) (.map q)/\Cl 364 [aA e,aq r,.map m] u λe k=> ∃m:Int,∃r:Int,e=(.agg #[aq m,aq r])/\a8 (rd k a) λe=>aG (aA e) (aA n)/\a8 (rd k a) λe=>aG (aA e) (aA p)/\aF (aq b)/\bR (rd k c) λe=>aG (.map e) (.map q)/\Cl 73 [aA p,aq b] k λe k=>aQ .u32 (some e) λe=>a8 (rd k a) λp=>aG (aA p) (aA n)/\bR (rd k c) λp=>aG (.map p) (.map q)/\Cl 364 [aA n,aq e,.map q] k λe k=> ∃n:Int,∃p:Int,e=(.agg #[aq n,aq p])/\aW k ((aw s).add 0) (aq m) λe=>aW e ((aw s).add 1) (aq r) λe=>aW e ((aw t).add 0) (aq n) λe=>aW e ((aw t).add 1) (aq p) λe=>F362.wk5 bk2 a c l o b (aw s) (aw t) f d g j i e K)/\bf s (.cells #[aq 0,aq 0] 352) λs t=>a8 (rd t a) λu=>aG (aA u) (aA e)/\a8 (rd t a) λu=>aG (aA u) (aA k)/\aF (aq b)/\bR (rd t c) λu=>aG (.map u) (.map m)/\a8 (rd t a) λu=>aG (aA u) (aA n)/\a8 (rd t a) λu=>aG (aA u) (aA p)/\aF (aq b)/\bR (rd t c) λu=>aG (.map u) (.map q)/\Cl 364 [aA e,aq r,.map m] t (λr t=> ∃u:Int,∃v:Int,r=(.agg #[aq u,aq v])/\a8 (rd t a) λr=>aG (aA r) (aA n)/\a8 (rd t a) λr=>aG (aA r) (aA p)/\aF (aq b)/\bR (rd t c) λr=>aG (.map r) (.map q)/\Cl 73 [aA p,aq b] t (λr t=>aQ .u32 (some r) λr=>a8 (rd t a) λw=>aG (aA w) (aA n)/\bR (rd t c) λw=>aG (.map w) (.map q)/\Cl 364 [aA n,aq r,.map q] t (λr t=> ∃w:Int,∃x:Int,r=(.agg #[aq w,aq x])/\bf t (.cells #[aq 0,aq 0] 352) λr t=>a8 (rd t a) λy=>aG (aA y) (aA e)/\a8 (rd t a) λe=>aG (aA e) (aA k)/\aF (aq b)/\bR (rd t c) λe=>aG (.map e) (.map m)/\a8 (rd t a) λe=>aG (aA e) (aA n)/\a8 (rd t a) λe=>aG (aA e) (aA p)/\aF (aq b)/\bR (rd t c) λe=>aG (.map e) (.map q)/\aW t ((aw r).add 0) (aq u) λe=>aW e ((aw r).add 1) (aq v) λe=>aW e ((aw s).add 0) (aq w) λe=>aW e ((aw s).add 1) (aq x) λe=>F362.wk5 bk2 a c l o b (aw r) (aw s) f d g j i e K)/\bf t (.cells #[aq 0,aq 0] 352) λt w=>a8 (rd w a) λx=>aG (aA x) (aA e)/\a8 (rd w a) λe=>aG (aA e) (aA k)/\aF (aq b)/\bR (rd w c) λe=>aG (.map e) (.map m)/\a8 (rd w a) λe=>aG (aA e) (aA n)/\a8 (rd w a) λe=>aG (aA e) (aA p)/\aF (aq b)/\bR (rd w c) λe=>aG (.map e) (.map q)/\Cl 364 [aA n,aq r,.map q] w λe k=> ∃m:Int,∃n:Int,e=(.agg #[aq m,aq n])/\aW k ((aw t).add 0) (aq u) λe=>aW e ((aw t).add 1) (aq v) λe=>aW e ((aw s).add 0) (aq m) λe=>aW e ((aw s).add 1) (aq n) λe=>F362.wk5 bk2 a c l o b (aw t) (aw s) f d g j i e K)/\bf t (.cells #[aq 0,aq 0] 352) λr t=>a8 (rd t a) λw=>aG (aA w) (aA e)/\a8 (rd t a) λe=>aG (aA e) (aA k)/\aF (aq b)/\bR (rd t c) λe=>aG (.map e) (.map m)/\a8 (rd t a) λe=>aG (aA e) (aA n)/\a8 (rd t a) λe=>aG (aA e) (aA p)/\aF (aq b)/\bR (rd t c) λe=>aG (.map e) (.map q)/\Cl 73 [aA p,aq b] t λe k=>aQ .u32 (some e) λe=>a8 (rd k a) λm=>aG (aA m) (aA n)/\bR (rd k c) λm=>aG (.map m) (.map q)/\Cl 364 [aA n,aq e,.map q] k λe k=> ∃m:Int,∃n:Int,e=(.agg #[aq m,aq n])/\aW k ((aw r).add 0) (aq u) λe=>aW e ((aw r).add 1) (aq v) λe=>aW e ((aw s).add 0) (aq m) λe=>aW e ((aw s).add 1) (aq n) λe=>F362.wk5 bk2 a c l o b (aw r) (aw s) f d g j i e K)/\bf t (.cells #[aq 0,aq 0] 352) λt u=>a8 (rd u a) λv=>aG (aA v) (aA e)/\a8 (rd u a) λv=>aG (aA v) (aA k)/\aF (aq b)/\bR (rd u c) λk=>aG (.map k) (.map m)/\a8 (rd u a) λk=>aG (aA k) (aA n)/\a8 (rd u a) λk=>aG (aA k) (aA p)/\aF (aq b)/\bR (rd u c) λk=>aG (.map k) (.map q)/\Cl 364 [aA e,aq r,.map m] u λe k=> ∃m:Int,∃r:Int,e=(.agg #[aq m,aq r])/\a8 (rd k a) λe=>aG (aA e) (aA n)/\a8 (rd k a) λe=>aG (aA e) (aA p)/\aF (aq b)/\bR (rd k c) λe=>aG (.map e) (.map q)/\Cl 73 [aA p,aq b] k λe k=>aQ .u32 (some e) λe=>a8 (rd k a) λp=>aG (aA p) (aA n)/\bR (rd k c) λp=>aG (.map p) (.map q)/\Cl 364 [aA n,aq e,.map q] k λe k=> ∃n:Int,∃p:Int,e=(.agg #[aq n,aq p])/\aW k ((aw t).add 0) (aq m) λe=>aW e ((aw t).add 1) (aq r) λe=>aW e ((aw s).add 0) (aq n) λe=>aW e ((aw s).add 1) (aq p) λe=>F362.wk5 bk2 a c l o b (aw t) (aw s) f d g j i e K)/\bf h (.cells #[aq 0,aq 0] 352) (λr s=>a8 (rd s a) λt=>aG (aA t) (aA e)/\a8 (rd s a) λt=>aG (aA t) (aA k)/\aF (aq b)/\bR (rd s c) λt=>aG (.map t) (.map m)/\a8 (rd s a) λt=>aG (aA t) (aA n)/\a8 (rd s a) λt=>aG (aA t) (aA p)/\aF (aq b)/\bR (rd s c) λt=>aG (.map t) (.map q)/\Cl 72 [aA k,aq b] s (λs t=>aQ .u32 (some s) λs=>a8 (rd t a) λu=>aG (aA u) (aA e)/\bR (rd t c) λu=>aG (.map u) (.map m)/\a8 (rd t a) λu=>aG (aA u) (aA n)/\a8 (rd t a) λu=>aG (aA u) (aA p)/\aF (aq b)/\bR (rd t c) λu=>aG (.map u) (.map q)/\Cl 364 [aA e,aq s,.map m] t (λs t=> ∃u:Int,∃v:Int,s=(.agg #[aq u,aq v])/\a8 (rd t a) λs=>aG (aA s) (aA n)/\a8 (rd t a) λs=>aG (aA s) (aA p)/\aF (aq b)/\bR (rd t c) λs=>aG (.map s) (.map q)/\Cl 73 [aA p,aq b] t (λs t=>aQ .u32 (some s) λs=>a8 (rd t a) λw=>aG (aA w) (aA n)/\bR (rd t c) λw=>aG (.map w) (.map q)/\Cl 364 [aA n,aq s,.map q] t (λs t=> ∃w:Int,∃x:Int,s=(.agg #[aq w,aq x])/\bf t (.cells #[aq 0,aq 0] 352) λs t=>a8 (rd t a) λy=>aG (aA y) (aA e)/\a8 (rd t a) λe=>aG (aA e) (aA k)/\aF (aq b)/\bR (rd t c) λe=>aG (.map e) (.map m)/\a8 (rd t a) λe=>aG (aA e) (aA n)/\a8 (rd t a) λe=>aG (aA e) (aA p)/\aF (aq b)/\bR (rd t c) λe=>aG (.map e) (.map q)/\aW t ((aw r).add 0) (aq u) λe=>aW e ((aw r).add 1) (aq v) λe=>aW e ((aw s).add 0) (aq w) λe=>aW e ((aw s).add 1) (aq x) λe=>F362.wk5 bk2 a c l o b (aw r) (aw s) f d g j i e K)/\bf t (.cells #[aq 0,aq 0] 352) λt w=>a8 (rd w a) λx=>aG (aA x) (aA e)/\a8 (rd w a) λe=>aG (aA e) (aA k)/\aF (aq b)/\bR (rd w c) λe=>aG (.map e) (.map m)/\a8 (rd w a) λe=>aG (aA e) (aA n)/\a8 (rd w a) λe=>aG (aA e) (aA p)/\aF (aq b)/\bR (rd w c) λe=>aG (.map e) (.map q)/\Cl 364 [aA n,aq s,.map q] w λe k=> ∃m:Int,∃n:Int,e=(.agg #[aq m,aq n])/\aW k ((aw r).add 0) (aq u) λe=>aW e ((aw r).add 1) (aq v) λe=>aW e ((aw t).add 0) (aq m) λe=>aW e ((aw t).add 1) (aq n) λe=>F362.wk5 bk2 a c l o b (aw r) (aw t) f d g j i e K)/\bf t (.cells #[aq 0,aq 0] 352) λs t=>a8 (rd t a) λw=>aG (aA w) (aA e)/\a8 (rd t a) λe=>aG (aA e) (aA k)/\aF (aq b)/\bR (rd t c) λe=>aG (.map e) (.map m)/\a8 (rd t a) λe=>aG (aA e) (aA n)/\a8 (rd t a) λe=>aG (aA e) (aA p)/\aF (aq b)/\bR (rd t c) λe=>aG (.map e) (.map q)/\Cl 73 [aA p,aq b] t λe k=>aQ .u32 (some e) λe=>a8 (rd k a) λm=>aG (aA m) (aA n)/\bR (rd k c) λm=>aG (.map m) (.map q)/\Cl 364 [aA n,aq e,.map q] k λe k=> ∃m:Int,∃n:Int,e=(.agg #[aq m,aq n])/\aW k ((aw r).add 0) (aq u) λe=>aW e ((aw r).add 1) (aq v) λe=>aW e ((aw s).add 0) (aq m) λe=>aW e ((aw s).add 1) (aq n) λe=>F362.wk5 bk2 a c l o b (aw r) (aw s) f d g j i e K)/\bf t (.cells #[aq 0,aq 0] 352) λt u=>a8 (rd u a) λv=>aG (aA v) (aA e)/\a8 (rd u a) λv=>aG (aA v) (aA k)/\aF (aq b)/\bR (rd u c) λk=>aG (.map k) (.map m)/\a8 (rd u a) λk=>aG (aA k) (aA n)/\a8 (rd u a) λk=>aG (aA k) (aA p)/\aF (aq b)/\bR (rd u c) λk=>aG (.map k) (.map q)/\Cl 364 [aA e,aq s,.map m] u λe k=> ∃m:Int,∃s:Int,e=(.agg #[aq m,aq s])/\a8 (rd k a) λe=>aG (aA e) (aA n)/\a8 (rd k a) λe=>aG (aA e) (aA p)/\aF (aq b)/\bR (rd k c) λe=>aG (.map e) (.map q)/\Cl 73 [aA p,aq b] k λe k=>aQ .u32 (some e) λe=>a8 (rd k a) λp=>aG (aA p) (aA n)/\bR (rd k c) λp=>aG (.map p) (.map q)/\Cl 364 [aA n,aq e,.map q] k λe k=> ∃n:Int,∃p:Int,e=(.agg #[aq n,aq p])/\aW k ((aw r).add 0) (aq m) λe=>aW e ((aw r).add 1) (aq s) λe=>aW e ((aw t).add 0) (aq n) λe=>aW e ((aw t).add 1) (aq p) λe=>F362.wk5 bk2 a c l o b (aw r) (aw t) f d g j i e K)/\bf s (.cells #[aq 0,aq 0] 352) λs t=>a8 (rd t a) λu=>aG (aA u) (aA e)/\a8 (rd t a) λu=>aG (aA u) (aA k)/\aF (aq b)/\bR (rd t c) λu=>aG (.map u) (.map m)/\a8 (rd t a) λu=>aG (aA u) (aA n)/\a8 (rd t a) λu=>aG (aA u) (aA p)/\aF (aq b)/\bR (rd t c) λu=>aG (.map u) (.map q)/\Cl 72 [aA k,aq b] t λk t=>aQ .u32 (some k) λk=>a8 (rd t a) λu=>aG (aA u) (aA e)/\bR (rd t c) λu=>aG (.map u) (.map m)/\a8 (rd t a) λu=>aG (aA u) (aA n)/\a8 (rd t a) λu=>aG (aA u) (aA p)/\aF (aq b)/\bR (rd t c) λu=>aG (.map u) (.map q)/\Cl 364 [aA e,aq k,.map m] t λe k=> ∃m:Int,∃t:Int,e=(.agg #[aq m,aq t])/\a8 (rd k a) λe=>aG (aA e) (aA n)/\a8 (rd k a) λe=>aG (aA e) (aA p)/\aF (aq b)/\bR (rd k c) λe=>aG (.map e) (.map q)/\Cl 73 [aA p,aq b] k λe k=>aQ .u32 (some e) λe=>a8 (rd k a) λp=>aG (aA p) (aA n)/\bR (rd k c) λp=>aG (.map p) (.map q)/\Cl 364 [aA n,aq e,.map q] k λe k=> ∃n:Int,∃p:Int,e=(.agg #[aq n,aq p])/\aW k ((aw r).add 0) (aq m) λe=>aW e ((aw r).add 1) (aq t) λe=>aW e ((aw s).add 0) (aq n) λe=>aW e ((aw s).add 1) (aq p) λe=>F362.wk5 bk2 a c l o b (aw r) (aw s) f d g j i e K)/\bf h (.cells #[aq 0,aq 0] 352) λr s=>a8 (rd s a) λt=>aG (aA t) (aA e)/\a8 (rd s a) λt=>aG (aA t) (aA k)/\aF (aq b)/\bR (rd s c) λt=>aG (.map t) (.map m)/\a8 (rd s a) λt=>aG (aA t) (aA n)/\a8 (rd s a) λt=>aG (aA t) (aA p)/\aF (aq b)/\bR (rd s c) λt=>aG (.map t) (.map q)/\Cl 72 [aA k,aq b] s (λs t=>aQ .u32 (some s) λs=>a8 (rd t a) λu=>aG (aA u) (aA e)/\bR (rd t c) λu=>aG (.map u) (.map m)/\a8 (rd t a) λu=>aG (aA u) (aA n)/\a8 (rd t a) λu=>aG (aA u) (aA p)/\aF (aq b)/\bR (rd t c) λu=>aG (.map u) (.map q)/\Cl 364 [aA e,aq s,.map m] t (λs t=> ∃u:Int,∃v:Int,s=(.agg #[aq u,aq v])/\a8 (rd t a) λs=>aG (aA s) (aA n)/\a8 (rd t a) λs=>aG (aA s) (aA p)/\aF (aq b)/\bR (rd t c) λs=>aG (.map s) (.map q)/\Cl 73 [aA p,aq b] t (λs t=>aQ .u32 (some s) λs=>a8 (rd t a) λw=>aG (aA w) (aA n)/\bR (rd t c) λw=>aG (.map w) (.map q)/\Cl 364 [aA n,aq s,.map q] t (λs t=> ∃w:Int,∃x:Int,s=(.agg #[aq w,aq x])/\bf t (.cells #[aq 0,aq 0] 352) λs t=>a8 (rd t a) λy=>aG (aA y) (aA e)/\a8 (rd t a) λe=>aG (aA e) (aA k)/\aF (aq b)/\bR (rd t c) λe=>aG (.map e) (.map m)/\a8 (rd t a) λe=>aG (aA e) (aA n)/\a8 (rd t a) λe=>aG (aA e) (aA p)/\aF (aq b)/\bR (rd t c) λe=>aG (.map e) (.map q)/\aW t ((aw s).add 0) (aq u) λe=>aW e ((aw s).add 1) (aq v) λe=>aW e ((aw r).add 0) (aq w) λe=>aW e ((aw r).add 1) (aq x) λe=>F362.wk5 bk2 a c l o b (aw s) (aw r) f d g j i e K)/\bf t (.cells #[aq 0,aq 0] 352) λt w=>a8 (rd w a) λx=>aG (aA x) (aA e)/\a8 (rd w a) λe=>aG (aA e) (aA k)/\aF (aq b)/\bR (rd w c) λe=>aG (.map e) (.map m)/\a8 (rd w a) λe=>aG (aA e) (aA n)/\a8 (rd w a) λe=>aG (aA e) (aA p)/\aF (aq b)/\bR (rd w c) λe=>aG (.map e) (.map q)/\Cl 364 [aA n,aq s,.map q] w λe k=> ∃m:Int,∃n:Int,e=(.agg #[aq m,aq n])/\aW k ((aw t).add 0) (aq u) λe=>aW e ((aw t).add 1) (aq v) λe=>aW e ((aw r).add 0) (aq m) λe=>aW e ((aw r).add 1) (aq n) λe=>F362.wk5 bk2 a c l o b (aw t) (aw r) f d g j i e K)/\bf t (.cells #[aq 0,aq 0] 352) λs t=>a8 (rd t a) λw=>aG (aA w) (aA e)/\a8 (rd t a) λe=>aG (aA e) (aA k)/\aF (aq b)/\bR (rd t c) λe=>aG (.map e) (.map m)/\a8 (rd t a) λe=>aG (aA e) (aA n)/\a8 (rd t a) λe=>aG (aA e) (aA p)/\aF (aq b)/\bR (rd t c) λe=>aG (.map e) (.map q)/\Cl 73 [aA p,aq b] t λe k=>aQ .u32 (some e) λe=>a8 (rd k a) λm=>aG (aA m) (aA n)/\bR (rd k c) λm=>aG (.map m) (.map q)/\Cl 364 [aA n,aq e,.map q] k λe k=> ∃m:Int,∃n:Int,e=(.agg #[aq m,aq n])/\aW k ((aw s).add 0) (aq u) λe=>aW e ((aw s).add 1) (aq v) λe=>aW e ((aw r).add 0) (aq m) λe=>aW e ((aw r).add 1) (aq n) λe=>F362.wk5 bk2 a c l o b (aw s) (aw r) f d g j i e K)/\bf t (.cells #[aq 0,aq 0] 352) λt u=>a8 (rd u a) λv=>aG (aA v) (aA e)/\a8 (rd u a) λv=>aG (aA v) (aA k)/\aF (aq b)/\bR (rd u c) λk=>aG (.map k) (.map m)/\a8 (rd u a) λk=>aG (aA k) (aA n)/\a8 (rd u a) λk=>aG (aA k) (aA p)/\aF (aq b)/\bR (rd u c) λk=>aG (.map k) (.map q)/\Cl 364 [aA e,aq s,.map m] u λe k=> ∃m:Int,∃s:Int,e=(.agg #[aq m,aq s])/\a8 (rd k a) λe=>aG (aA e) (aA n)/\a8 (rd k a) λe=>aG (aA e) (aA p)/\aF (aq b)/\bR (rd k c) λe=>aG (.map e) (.map q)/\Cl 73 [aA p,aq b] k λe k=>aQ .u32 (some e) λe=>a8 (rd k a) λp=>aG (aA p) (aA n)/\bR (rd k c) λp=>aG (.map p) (.map q)/\Cl 364 [aA n,aq e,.map q] k λe k=> ∃n:Int,∃p:Int,e=(.agg #[aq n,aq p])/\aW k ((aw t).add 0) (aq m) λe=>aW e ((aw t).add 1) (aq s) λe=>aW e ((aw r).add 0) (aq n) λe=>aW e ((aw r).add 1) (aq p) λe=>F362.wk5 bk2 a c l o b (aw t) (aw r) f d g j i e K)/\bf s (.cells #[aq 0,aq 0] 352) λs t=>a8 (rd t a) λu=>aG (aA u) (aA e)/\a8 (rd t a) λu=>aG (aA u) (aA k)/\aF (aq b)/\bR (rd t c) λu=>aG (.map u) (.map m)/\a8 (rd t a) λu=>aG (aA u) (aA n)/\a8 (rd t a) λu=>aG (aA u) (aA p)/\aF (aq b)/\bR (rd t c) λu=>aG (.map u) (.map q)/\Cl 72 [aA k,aq b] t λk t=>aQ .u32 (some k) λk=>a8 (rd t a) λu=>aG (aA u) (aA e)/\bR (rd t c) λu=>aG (.map u) (.map m)/\a8 (rd t a) λu=>aG (aA u) (aA n)/\a8 (rd t a) λu=>aG (aA u) (aA p)/\aF (aq b)/\bR (rd t c) λu=>aG (.map u) (.map q)/\Cl 364 [aA e,aq k,.map m] t λe k=> ∃m:Int,∃t:Int,e=(.agg #[aq m,aq t])/\a8 (rd k a) λe=>aG (aA e) (aA n)/\a8 (rd k a) λe=>aG (aA e) (aA p)/\aF (aq b)/\bR (rd k c) λe=>aG (.map e) (.map q)/\Cl 73 [aA p,aq b] k λe k=>aQ .u32 (some e) λe=>a8 (rd k a) λp=>aG (aA p) (aA n)/\bR (rd k c) λp=>aG (.map p) (.map q)/\Cl 364 [aA n,aq e,.map q] k λe k=> ∃n:Int,∃p:Int,e=(.agg #[aq n,aq p])/\aW k ((aw s).add 0) (aq m) λe=>aW e ((aw s).add 1) (aq t) λe=>aW e ((aw r).add 0) (aq n) λe=>aW e ((aw r).add 1) (aq p) λe=>F362.wk5 bk2 a c l o b (aw s) (aw r) f d g j i e K
def F362.wk3:Prop:=aY f λb=>0<=i/\i<(d:Int)/\aQ .u32 (rd h (b.add (i.toNat*1))) λb=>F362.wk4 bk2 a c l o b f d g j i h K
def F362.sL2:F362.wL2 (n+1) a c l o f d g j i h K=(aK (i<j) (F362.wk3 (λa b c d e f g i j k=>F362.wL2 n a b c d e f g i j k K) a c l o f d g j i h K) (K aE h)):=by kernel_rfl
def F362.wk2:Prop:=(∃b,F362.wL2 b a c l o f d g j i h K)
def F362.spec(H:a8 (rd h a) λb=>F362.wk2 a c l (.func (.func 363) #[aA b] #[]) u q t (q:Int) 0 h K):Cl 362 [.slice u q t,au a,au c,au l] h K:=cT F362.T Tryz.func362 H
end
def hH.only{B:SB}(Y:hH h s n room B f g M U F Q off T w)(O:aM S h h')(hS: ∀b∈S,b∉B.bm s++B.bt):hH h' s n room B f g M U F Q off T w:=
 ⟨Y.m.only O λb hb hm=>hS b hb (Zp (.inl hm)),Y.t.only O λb hb hm=>hS b hb (Zp (.inr hm)),Y.bn,Y.bs,Y.t5,Y.t7,Y.cap,Y.rm,Y.cnt,Y.fre⟩
def hH.only0(Y:hH h s n room B f g M U F Q off T w)(O:aM [] h h'):hH h' s n room B f g M U F Q off T w:=Y.only O ak
def hH.lt{h:aI}{B:SB}(Y:hH h s n room B f g M U F Q off T w): ∀b∈B.bm s++B.bt,b<h.size:=λb hb=>by
 rcases Zq hb with q|q
 ·exact Y.m.lt b q
 ·exact Y.t.lt b q
def qp.isN(V:qp n k fo N M U)(ha:isN N a):isN M a:=by
 by_cases q:a<2
 ·exact .inl q
 have hn:=fI (n:=n) ha ah;by_cases u:a∈U
 ·exact .inr ⟨_,(V.un a u).trans hn⟩
 by_cases l:k<=lvl n N a
 ·exact qQ.isN (V.mid.old a ha l u).1
 ·exact .inr ⟨_,(V.up _ _ (by show lvl n N a<k;omega)).2 hn⟩
def qp.ndok{N M:ay}(V:qp n k fo N M U)(H:cY n N)(hn:n<=8)(lN:N.length<=32768)(lM:M.length<=32768): ∀i x,nd (gM U M) i=some x->ky x:=λi x hx=>by
 have lt: ∀{D:ay} {y},D.length<=32768->Ev.isN D y->y<2^28:=λ{D y} hl h=>by
  rcases h with h|⟨z,h⟩
  ·omega
  ·have:=jf h;omega
 by_cases q:k<=x.1
 ·have hd:=(mC q).1 hx;obtain⟨c1,c2,c3,c4,-,-⟩:=V.mid.ok.node i x hd;exact⟨ah,lt lM (qQ.isN c2),lt lM (qQ.isN c3),c4⟩
 ·rw[gA]at hx;split at hx
  ·cases hx
  obtain⟨c1,c2,c3,c4,-,-⟩:=H.node i x ((V.up i x ah).1 hx);exact⟨ah,lt lN c2,lt lN c3,c4⟩
def tI(Y:hH h s n room B f g M U F Q off T w)(V:qp n k fo N M U)(Mp:bS h wb .u32 mo)(Om:tE mo (cQ N (k+1)))(hk:k+1<n)(ha:isN N a)
  (hK: ∀h',aM [] h h'->K (.agg #[aq ((part n k N a).1:Int),aq ((part n k N a).2:Int)]) h'):Cl 364 [bg s,aq (a:Int),.map (some wb)] h K:=by
 refine F364.spec _ _ _ h K ?_;refine aX λh1 A1 O1 z1=> ?_;have iM:=V.isN ha
 have st: ∀(h2:aI) (u v:Nat) (K':aI->Prop),At h2 h.size [aq 0,aq 0]->(∀h3,aM [h.size] h2 h3->At h3 h.size [aq (u:Int),aq (v:Int)]->K' h3)->
   aW h2 (Addr.add (aw h.size) 0) (aq (u:Int)) (λh3=>aW h3 (Addr.add (aw h.size) 1) (aq (v:Int)) K'):=λh2 u v K' A z=>by
  simp only[aL,MF];refine aU A ak rfl λh3 A3 O3 z3=>aU A3 ak rfl λh4 A4 O4 z4=>z h4 (O3.trans O4 λy hy _=>hy) A4
 have rest: ∀o3:Option (Nat×Value),o3.isSome=decide (a∈cQ N (k+1))->kS (.agg #[]) o3= .agg #[]->lV (some (kS (.agg #[]) o3)) (λv4=>bf h1 (.cells #[] 218) (λb5 h6=>dp Tryz.prog 218 (some (aw b5)) v4 h6 (λh7=>aK (!(Option.isSome o3)) (aW h7 (Addr.add (aw h.size) 0) (aq (a:Int)) (λh8=>aW h8 (Addr.add (aw h.size) 1) (aq (a:Int)) (λh9=>aQ .u32 (rd h9 (Addr.add (aw h.size) 0)) (λD=>aQ .u32 (rd h9 (Addr.add (aw h.size) 1)) (λc=>K (.agg #[(aq D),(aq c)]) h9))))) (Cl 72 [(au (aw s)),(aq (a:Int))] h7 (λG H=>aQ .u32 (some G) (λd=>Cl 73 [(au (aw s)),(aq (a:Int))] H (λI i=>aQ .u32 (some I) (λC=>aW i (Addr.add (aw h.size) 0) (aq d) (λl=>aW l (Addr.add (aw h.size) 1) (aq C) (λb=>aQ .u32 (rd b (Addr.add (aw h.size) 0)) (λt=>aQ .u32 (rd b (Addr.add (aw h.size) 1)) (λo=>K (.agg #[(aq t),(aq o)]) b)))))))))))):=λo3 e1 e2=>by
  rw[e2];refine⟨_,rfl,aX λh2 A2 O2 z2=>je ?_⟩;have A3:=A1.only O2 ak;have O02:=O1.trans O2 ak;have Y2:=Y.only0 O02;rw[e1];by_cases q:a∈cQ N (k+1)
  ·rw[MP q,Ng,aJ];obtain⟨a2,x,hx,ex⟩:=iU.1 q;have la:lvl n N a=k+1:=by unfold lvl;rw[MG ah,hx];exact ex
   have hm:=V.lw a a2 ha la;obtain⟨-,-,lw,hg⟩:=eO (n:=n) hm;rw[show a-2+2=a by omega]at lw hg;refine AM Y2.m iM (aH rfl (wI Y2.m iM (aH rfl ?_)));rw[lw,hg];refine st h2 _ _ _ A3 λh4 O4 A4=> ?_;simp only[aL,MF];refine aH (by rw[At.rd A4];rfl) (aH (by rw[At.rd A4];rfl) ?_);have:=hK h4 (O02.trans O4 λy hy hl=>by simp at hy;omega);unfold part at this;rw[MK la]at this;exact this
  ·rw[MJ q,Nx,aO]
   have la: ¬lvl n N a=k+1:=λe=>by
    have a2:2<=a:=by
     apply MS;intro w;have:lvl n N a=n:=by unfold lvl;rw[MK ah]
     omega
    exact q (iU.2 ⟨a2,_,fI (n:=n) ha a2,e⟩)
   refine st h2 _ _ _ A3 λh4 O4 A4=> ?_;simp only[aL,MF];refine aH (by rw[At.rd A4];rfl) (aH (by rw[At.rd A4];rfl) ?_);have:=hK h4 (O02.trans O4 λy hy hl=>by simp at hy;omega);unfold part at this;rw[MG la]at this;exact this
 refine c8 (m:=mo) (Mp.only O1 ak) (λhn=> ?_) λj v hv=> ?_
 ·have:a∉cQ N (k+1):=λhm=>by
   rw[(Om a).1 hm]at hn;cases hn
  exact rest none (by rw[MJ this];rfl) rfl
 ·have:a∈cQ N (k+1):=MS λhm=>by
   rw[(Om a).2 hm]at hv;cases hv
  rw[(Om a).1 this]at hv;injection hv with hv;subst hv;exact rest (some (j,.agg #[])) (by rw[MP this];rfl) rfl
def xJ{h:aI}{s n room k T w:Nat}{B:SB}{f g fo:Nat->Nat}{N M:ay}{U F:List Nat}{Q:Int->Int->Prop}{off:Bool}{K:KK}{a0 a1 b0 b1 i:Nat}(Y:hH h s n room B f g M U F Q off T (w+1))(V:qp n k fo N M U)(H:cY n N)(lN:N.length<=32768)(hk:k+1<n)(hi:i<2){a b:Nat}(ea:a=if i=0 then a0 else a1)(eb:b=if i=0 then b0 else b1)
  (ha:isN N a) (la:k+1<lvl n N a) (hb:isN N b) (lb:k+1<lvl n N b)
  (hK: ∀h' B' M' F' r,hH h' s n room B' f g M' U F' Q off T w->qp n k fo N M' U->Ex (dn k U M) (dn k U M')->Ev.isN (dn k U M') r->k+1<=lvl n (dn k U M') r->(∀x,sm n (sw k fo) (dn k U M') r x=if x.testBit (fo k)then sm n fo N b x else sm n fo N a x)->
   aM (B.bm s++B.bt) h h'->bH (B.bm s++B.bt) (B'.bm s++B'.bt) h->K (aq (r:Int)) h'):
  Cl 365 [bg s,ap (k:Int),.agg #[aq (a0:Int),aq (a1:Int)],.agg #[aq (b0:Int),aq (b1:Int)],ap (i:Int)] h K:=by
 have n8:=Y.m.n8.2;have lM:=Y.m.len;have cap:=Y.cap;have rm:=Y.rm;refine F365.spec ?_;refine aX λh1 A1 O1 z1=>aX λh2 A2 O2 z2=> ?_;have A12:=A1.only O2 ak;have O02:=O1.trans O2 ak;have Y2:=Y.only0 O02;simp only[aL,MF,Nz,MO];refine⟨ah,ah,aH (n:=(a:Int)) ?_ ⟨ah,ah,aH (n:=(b:Int)) ?_ ?_⟩⟩
 ·rw[At.rd A12,ea];have:i=0\/i=1:=ah;rcases this with e|e<;>subst e<;>rfl
 ·rw[At.rd A2,eb];have:i=0\/i=1:=ah;rcases this with e|e<;>subst e<;>rfl
 rw[show((1:Int))=((1:Nat):Int)from rfl,oJ (k:=k) ah ah]
 have d: ∀{c},Ev.isN N c->k+1<lvl n N c->k+1<lvl n M c:=λ{c} hc hl=>by
  have nU:c∉U:=λhm=>by have:=(V.mid.un _ hm).2.2.2.1;omega
  obtain⟨d1,-⟩:=V.mid.old c hc ah nU;rw[qQ.lvl d1,V.mid.deep c hc hl];exact hl
 refine LX Y2.m Y2.t Y2.bn Y2.bs Y2.t5 Y2.t7 Y2.cnt Y2.fre (V.ndok H n8 lN ah) hk (V.isN ha) (V.isN hb) (d ha la) (d hb lb) (.inl ah) (λc hc=> ?_) λh3 B3 M3 F3 r e T3 R m3 t3 eT _ k5 k7 n3 s3 c3 f3 O3 fr=> ?_
 ·obtain⟨u1,-,u3,-⟩:=V.mid.un c hc;refine⟨u1,?_⟩;rw[V.un c hc,fI (n:=n) u3 u1];simp
 have eT:=eT ah;subst eT
 have key:If U M (k+1) a b M3 r/\bj M3<=bj M+1:=by
  rcases R with⟨r1,r2,-,r3⟩|⟨r0,j,r1,r2,-,r3⟩|⟨-,-,r1,-⟩|⟨r0,r1,-,-,q,r2,P⟩
  ·subst r2 r3;exact⟨.same r1,ah⟩
  ·subst r2 r3;exact⟨.found j r0 r1,ah⟩
  ·omega
  ·subst r2;exact⟨.made M3 q r0 r1 P,by rw[P.cnt];omega⟩
 obtain⟨V3,E3,i3,l3,l⟩:=V.made hk ha la hb lb key.1;refine⟨_,_,rfl,?_⟩;have z:=O02.size;exact hK h3 B3 M3 F3 r ⟨m3,t3,n3,s3,k5,k7,by have:=key.2;omega,by have:=key.2;omega,c3,f3⟩ V3 E3 i3 l3 l ((O02.mono ak).trans O3 λy hy _=>hy) λy hy=>(fr y hy).imp id λq=>ah
def ve{B:SB}{M:ay}(Y:hH h s n room B f g M (c::U) F Q off T w)(hc:nd M (c-2)=some y)(c2:2<=c)(hx:ky (k,x0,x1))(l:rD (gM (c::U) M) (kf (k,x0,x1)))(cU:c∉U)
  (hK: ∀h',hH h' s n room B f g (M.set (c-2) (some (k,x0,x1))) U F Q off T w->aM (B.bm s++B.bt) h h'->K aE h'):
  Cl 363 [bg s,aq (c:Int),ap (k:Int),aq (x0:Int),aq (x1:Int)] h K:=by
 have lM:=Y.m.len;have lt:=jf hc;have cap:=Y.cap;refine F363.spec ?_;refine tR Y.m ah (λw=>Nc hc (w y c2)) λb0 y' eb _ hy rr=>aR rfl ?_;rw[hc]at hy;injection hy with hy;subst hy;rw[aT];simp only[aL,ML];obtain⟨y1,y2,y3⟩:=y;refine Y.m.st (x':=(k,y2,y3)) hc eb ah rfl rfl λh1 m1 O1=> ?_;rw[aT];have A:nd (M.set (c-2) (some (k,y2,y3))) (c-2)=some (k,y2,y3):=by rw[fy lt,MK rfl]
 refine m1.st (x':=(k,x0,y3)) A eb ah rfl rfl λh2 m2 O2=> ?_;rw[List.set_set]at m2;rw[aT];have C:nd (M.set (c-2) (some (k,x0,y3))) (c-2)=some (k,x0,y3):=by rw[fy lt,MK rfl]
 refine m2.st (x':=(k,x0,x1)) C eb ah rfl rfl λh3 m3 O3=> ?_;rw[List.set_set]at m3;have z:nd (M.set (c-2) (some (k,x0,x1))) (c-2)=some (k,x0,x1):=by rw[fy lt,MK rfl]
 have O03:aM [b0] h h3:=(O1.trans O2 λy hy _=>hy).trans O3 λy hy _=>hy;obtain⟨b3,d,r3⟩:=m3.cells (i:=c-2) (dh.1 z);rw[eb]at d;injection d with d;injection d with d;subst d;rw[aT];simp only[aL];refine aZ (n:=true) (by rw[r3 0 ah];rfl) (aH (n:=(k:Int)) (by rw[r3 1 ah];rfl) (aH (n:=(x0:Int)) (by rw[r3 2 ah];rfl) (aH (n:=(x1:Int)) (by rw[r3 3 ah];rfl) ?_)));have v:=Y.m.pb eb
 have T3:=Y.t.only O03 λb hb hm=>by simp only[MH]at hb;subst hb;exact Y.bs b hm v
 have bl:=T3.lt;obtain⟨cs,mm,ops,fails,t1,t2,t3,L⟩:=T3;have nn:=Y.bn;simp only[SB.bt,Nt,List.mem_cons,Nw,NP,Oz,Qi,Qd,not_false_eq_true]at nn;have sp:s∉B.bt:=λhm=>Y.bs s hm (by simp[SB.bm]);simp only[SB.bt,List.mem_cons,Nw,NP,Oz]at sp;have S3:=m3.S;have t7:=Y.t7
 have er:bj (gM (c::U) M)<=bj M:=wj λi x hx=>by
  rw[gA]at hx;split at hx
  ·cases hx
  ·exact hx
 have hq:nd (gM (c::U) M) (c-2)=none:=by rw[gA,MK (by simp;omega)]
 have o: ∀i,nd (gM U (M.set (c-2) (some (k,x0,x1)))) i=if i=c-2 then some (k,x0,x1)else nd (gM (c::U) M) i:=λi=>by
  rw[gA,gA,fy lt];by_cases e:i=c-2
  ·rw[MK e,MK e,MG];rw[e,show c-2+2=c by omega];exact cU
  ·rw[MG e,MG e];have:i+2≠c:=ah;simp[this]
 have cs':(c:Int)=((c-2+2:Nat):Int):=by rw[show c-2+2=c by omega]
 rw[cs']
 refine wB S3 (t:=B.tb) (m:=B.m) (mc:=B.mc) (sb:=B.sb) (T:=T) (x:=(k,x0,x1)) (q:=c-2) (N':=gM U (M.set (c-2) (some (k,x0,x1)))) rfl rfl (by simp;omega) t1 t2 t3 ah (by simp;omega) ah ah (bl _ (by simp[SB.bt])) (bl _ (by simp[SB.bt])) (bl _ (by simp[SB.bt]))
  L hx l ah hq o (xh hq o) λh6 cs' D u j A6 T6 M6 Mp6 L6 O6=>⟨rfl,?_⟩
 have Hm6:=m3.only O6 λy hy hm=>Y.bs y (by simp[SB.bt]at hy ⊢;omega) hm;have cM:bj (M.set (c-2) (some (k,x0,x1)))=bj M:=rH (dh.1 hc);refine hK h6 ⟨Hm6,⟨cs',D,u,j,T6,M6,Mp6,L6⟩,Y.bn,Y.bs,Y.t5,Y.t7,by rw[cM];exact Y.cap,by rw[cM];exact Y.rm,by rw[cM,NT];exact Y.cnt,Y.fre.1,λa ha=> ?_⟩ ((O03.mono λy hy _=> ?_).trans O6 λy hy _=> ?_)
 ·obtain⟨f1,f2,f3⟩:=Y.fre.2 a ha;refine⟨f1,by rw[NT];exact f2,?_⟩;rw[fy lt,MG]
  ·exact f3
  ·intro e;rw[e,hc]at f3;cases f3
 ·simp only[MH]at hy;subst hy;exact Zp (.inl v)
 ·simp only[List.mem_append,SB.bt];simp at hy ⊢;omega
def Ks:bQ X 363=some cH.go:=by kernel_rfl
structure Cx(h:aI)(s k x1 x2 x3 wb:Nat)(mo:List (Int×Value)):Prop where
 a1:At h x1 [bg s]
 a2:At h x2 [.map (some wb)]
 a3:At h x3 [ap (k:Int)]
 mp:bS h wb .u32 mo
structure Za(h0 h:aI)(Bs:List Nat):Prop where
 O:aM [] h0 h
 A: ∀b∈Bs,At h b [aq 0,aq 0]/\h0.size<=b
 nd:Bs.Nodup
def Cx.only(C:Cx h s k x1 x2 x3 wb mo)(O:aM S h h')(hS:x1∉S/\x2∉S/\x3∉S/\wb∉S):Cx h' s k x1 x2 x3 wb mo:=
 ⟨C.a1.only O hS.1,C.a2.only O hS.2.1,C.a3.only O hS.2.2.1,C.mp.only O hS.2.2.2⟩
def Cx.lt{h:aI}(C:Cx h s k x1 x2 x3 wb mo):x1<h.size/\x2<h.size/\x3<h.size/\wb<h.size:=⟨C.a1.lt,C.a2.lt,C.a3.lt,C.mp.lt⟩
def Za.only(Z:Za h0 h Bs)(O:aM [] h h'):Za h0 h' Bs:=⟨Z.O.trans O ak,λb hb=>⟨(Z.A b hb).1.only O ak,(Z.A b hb).2⟩,Z.nd⟩
def Za.new{h:aI}(Z:Za h0 h Bs)(hK: ∀h',Za h0 h' (h.size::Bs)->K h.size h'):bf h (.cells #[aq (0:Int),aq (0:Int)] 352) K:=by
 refine aX λh1 A1 O1 z1=>hK h1 ⟨Z.O.trans O1 ak,λb hb=> ?_,Nt.2 ⟨λhm=> ?_,Z.nd⟩⟩
 ·rcases List.mem_cons.1 hb with e|hb
  ·subst e;exact⟨A1,Z.O.size⟩
  ·exact⟨(Z.A b hb).1.only O1 ak,(Z.A b hb).2⟩
 ·have:=(Z.A _ hm).1.lt;omega
def Za.fin{h0:aI}(Z:Za h0 h Bs)(ha:a∈Bs)(hb:b∈Bs)(ne:a≠b)(hK: ∀h',aM [] h0 h'->At h' a [aq (u0:Int),aq (u1:Int)]->At h' b [aq (v0:Int),aq (v1:Int)]->h0.size<=a->h0.size<=b->K h'):
  aW h (Addr.add (aw a) 0) (aq (u0:Int)) λh1=>aW h1 (Addr.add (aw a) 1) (aq (u1:Int)) λh2=>aW h2 (Addr.add (aw b) 0) (aq (v0:Int)) λh3=>aW h3 (Addr.add (aw b) 1) (aq (v1:Int)) K:=by
 obtain⟨A,la⟩:=Z.A a ha;obtain⟨A',lb⟩:=Z.A b hb;simp only[aL,MF];have n1:a∉[b]:=by simpa using ne
 have n2:b∉[a]:=by simpa using λe=>ne e.symm
 have zz:=Z.O.size;refine aU A ak rfl λk1 A1 O1 z1=>aU A1 ak rfl λk2 A2 O2 z2=>aU ((A'.only O1 n2).only O2 n2) ak rfl λk3 A3 O3 z3=>aU A3 ak rfl λk4 A4 O4 z4=> ?_;refine hK k4 ((((Z.O.trans O1 λy hy hl=>by simp at hy;omega).trans O2 λy hy hl=>by simp at hy;omega).trans O3 λy hy hl=>by simp at hy;omega).trans O4 λy hy hl=>by simp at hy;omega) ((A2.only O3 n1).only O4 n1) A4 la lb
set_option maxHeartbeats 1000000 in
def EY{h:aI}(Y:hH h s n room B f g M U F Q off T w)(V:qp n k fo N M U)(C:Cx h s k x1 x2 x3 wb mo)(Om:tE mo (cQ N (k+1)))(H:cY n N)(hk:k+1<n)(hc:c∈U)
  (hK: ∀h' x8 x9,aM [] h h'->At h' x8 [aq ((part n k N (low N c)).1:Int),aq ((part n k N (low N c)).2:Int)]->At h' x9 [aq ((part n k N (high N c)).1:Int),aq ((part n k N (high N c)).2:Int)]->h.size<=x8->h.size<=x9->
   F362.wk5 bk2 (aw x1) (aw x2) (aw x3) x5 (c:Int) (aw x8) (aw x9) p l cc x13 x14 h' K):
  F362.wk4 bk2 (aw x1) (aw x2) (aw x3) x5 (c:Int) p l cc x13 x14 h K:=by
 obtain⟨c2,-,ci,cl,-⟩:=V.mid.un c hc;obtain⟨-,h4,h5,-,-,-⟩:=H.at ci c2;have hm:=(V.un c hc).trans (fI (n:=n) ci c2);obtain⟨iM,-,lw,hg⟩:=eO (n:=n) hm;rw[show c-2+2=c by omega]at iM lw hg;have zP: ∀{hX Bs},Za h hX Bs->rd hX (aw x1)=some (au (aw s)):=λZ=>by rw[At.rd (C.a1.only Z.O ak)];rfl
 have zM: ∀{hX Bs},Za h hX Bs->rd hX (aw x2)=some (.map (some wb)):=λZ=>by rw[At.rd (C.a2.only Z.O ak)];rfl
 have i: ∀{hX Bs} {K':KK},Za h hX Bs->K' (aq (low N c:Int)) hX->Cl 72 [au (aw s),aq (c:Int)] hX K':=λZ a=>AM (Y.only0 Z.O).m iM (by rw[lw];exact a);have d: ∀{hX Bs} {K':KK},Za h hX Bs->K' (aq (high N c:Int)) hX->Cl 73 [au (aw s),aq (c:Int)] hX K':=λZ a=>wI (Y.only0 Z.O).m iM (by rw[hg];exact a)
 have o: ∀{hX Bs} {K':KK},Za h hX Bs->(∀h',Za h h' Bs->K' (.agg #[aq ((part n k N (low N c)).1:Int),aq ((part n k N (low N c)).2:Int)]) h')->Cl 364 [au (aw s),aq (low N c:Int),.map (some wb)] hX K':=λZ a=>
  tI (Y.only0 Z.O) V (C.mp.only Z.O ak) Om hk h4 λh' O'=>a h' (Z.only O')
 have t: ∀{hX Bs} {K':KK},Za h hX Bs->(∀h',Za h h' Bs->K' (.agg #[aq ((part n k N (high N c)).1:Int),aq ((part n k N (high N c)).2:Int)]) h')->Cl 364 [au (aw s),aq (high N c:Int),.map (some wb)] hX K':=λZ a=>
  tI (Y.only0 Z.O) V (C.mp.only Z.O ak) Om hk h5 λh' O'=>a h' (Z.only O')
 have j: ∀{hX x y},Za h hX [y,x]->aW hX (Addr.add (aw x) 0) (aq ((part n k N (low N c)).1:Int)) λh1=>aW h1 (Addr.add (aw x) 1) (aq ((part n k N (low N c)).2:Int)) λh2=>aW h2 (Addr.add (aw y) 0) (aq ((part n k N (high N c)).1:Int)) λh3=>aW h3 (Addr.add (aw y) 1) (aq ((part n k N (high N c)).2:Int)) λb=>F362.wk5 bk2 (aw x1) (aw x2) (aw x3) x5 (c:Int) (aw x) (aw y) p l cc x13 x14 b K:=λ{hX x y} Z=>
  Z.fin ak ak (λe=>by have:=Z.nd;simp at this;exact this e.symm) λh' O' A A' la lb=>hK h' x y O' A A' la lb
 have q: ∀{hX x y},Za h hX [y,x]->aW hX (Addr.add (aw y) 0) (aq ((part n k N (low N c)).1:Int)) λh1=>aW h1 (Addr.add (aw y) 1) (aq ((part n k N (low N c)).2:Int)) λh2=>aW h2 (Addr.add (aw x) 0) (aq ((part n k N (high N c)).1:Int)) λh3=>aW h3 (Addr.add (aw x) 1) (aq ((part n k N (high N c)).2:Int)) λb=>F362.wk5 bk2 (aw x1) (aw x2) (aw x3) x5 (c:Int) (aw y) (aw x) p l cc x13 x14 b K:=λ{hX x y} Z=>
  Z.fin ak ak (λe=>by have:=Z.nd;simp at this;exact this e) λh' O' A A' la lb=>hK h' y x O' A A' la lb
 have Z0:Za h h []:=⟨aM.refl _ _,ak,ak⟩;clear hK;unfold F362.wk4
 repeat' first
  |exact j (by assumption)
  |exact q (by assumption)
  |refine aR (zP (by assumption)) ?_
  |refine⟨_,zM (by assumption),?_⟩
  |refine i (by assumption) ?_
  |refine d (by assumption) ?_
  |refine o (by assumption) λhX ZX=> ?_
  |refine t (by assumption) λhX ZX=> ?_
  |refine Za.new (by assumption) λhX ZX=> ?_
  |refine aH rfl ?_
  |refine⟨_,_,rfl,?_⟩
  |refine⟨rfl,?_⟩
  |refine⟨?_,?_⟩
def GQ:bQ X 362=some cH.go:=by kernel_rfl
def Gj(s:Nat):Value:= .func (.func 363) #[au (aw s)] #[]
def Dz{B:SB}{N:ay}(Y:hH h s n room B f g M (c::U) F Q off T (w+2))(V:qp n k fo N M (c::U))(C:Cx h s k x1 x2 x3 wb mo)(H:cY n N)(P:cF n fo gg)(lN:N.length<=32768)(hk:k+1<n)
  (A8:At h x8 [aq ((part n k N (low N c)).1:Int),aq ((part n k N (low N c)).2:Int)]) (A9:At h x9 [aq ((part n k N (high N c)).1:Int),aq ((part n k N (high N c)).2:Int)]) (D: ∀y∈[x1,x2,x3,wb,x8,x9],y∉B.bm s++B.bt)
  (hK: ∀h' B' M' F',hH h' s n room B' f g M' U F' Q off T w->qp n k fo N M' U->aM (B.bm s++B.bt) h h'->bH (B.bm s++B.bt) (B'.bm s++B'.bt) h->bk2 (aw x1) (aw x2) (aw x3) (Gj s) p l cc x13 (ax (x14+(1:Int))) h'):
  F362.wk5 bk2 (aw x1) (aw x2) (aw x3) (Gj s) (c:Int) (aw x8) (aw x9) p l cc x13 x14 h K:=by
 have n8:=Y.m.n8.2;obtain⟨c2,-,ci,cl,-⟩:=V.mid.un c ak;obtain⟨-,h4,h5,-,h6,h7⟩:=H.at ci c2;rw[cl]at h6 h7;obtain⟨⟨a1,a2⟩,⟨a3,a4⟩,a5⟩:=nV (fo:=fo) H h4 h6 hk;obtain⟨⟨b1,b2⟩,⟨b3,b4⟩,b5⟩:=nV (fo:=fo) H h5 h7 hk;have d:=C.lt;have t:=A8.lt;have j:=A9.lt;unfold F362.wk5;simp only[aL,MF];have r1: ∀{hX},At hX x1 [bg s]->rd hX (aw x1)=some (au (aw s)):=λA=>by rw[At.rd A];rfl
 have r3: ∀{hX},At hX x3 [ap (k:Int)]->rd hX (aw x3)=some (ap (k:Int)):=λA=>by rw[At.rd A];rfl
 have r0: ∀{hX y u v},At hX y [aq u,aq v]->rd hX (aw y)=some (aq u)/\rd hX ⟨y,1,none⟩=some (aq v):=λA=>⟨by rw[At.rd A];rfl,by rw[At.rd A];rfl⟩;refine aH (r3 C.a3) (aR (r1 C.a1) (aH (r3 C.a3) (aH (r0 A8).1 (aH (r0 A8).2 (aH (r0 A9).1 (aH (r0 A9).2 (aR (r1 C.a1) (aH (r3 C.a3) (aH (r0 A8).1 (aH (r0 A8).2 (aH (r0 A9).1 (aH (r0 A9).2 ?_))))))))))));have Y':hH h s n room B f g M (c::U) F Q off T ((w+1)+1):=Y;refine xJ (i:=0) Y' V H lN hk ah (MK rfl).symm (MK rfl).symm a1 a2 b1 b2 λk1 B1 M1 F1 q0 Y1 V1 E1 i0 l0 s0 O1 Fr1=>aH rfl ⟨by trivial,by trivial,?_⟩;have S1: ∀{S},S=B.bm s++B.bt->x1∉S/\x2∉S/\x3∉S/\wb∉S:=λe=>by subst e;exact⟨D _ ak,D _ ak,D _ ak,D _ ak⟩
 have C1:=C.only O1 (S1 rfl);have A81:=A8.only O1 (D _ ak);have A91:=A9.only O1 (D _ ak)
 have D1: ∀y∈[x1,x2,x3,wb,x8,x9],y∉B1.bm s++B1.bt:=λy hy hm=>by
  rcases Fr1 y hm with q|q
  ·exact D y hy q
  ·simp at hy;omega
 refine aH (r3 C1.a3) ⟨rfl,aR (r1 C1.a1) ⟨rfl,aH (r3 C1.a3) ⟨rfl,aH (r0 A81).1 (aH (r0 A81).2 ⟨rfl,aH (r0 A91).1 (aH (r0 A91).2 ⟨rfl,?_⟩)⟩)⟩⟩⟩;refine xJ (i:=1) Y1 V1 H lN hk ah (MG ah).symm (MG ah).symm a3 a4 b3 b4 λk2 B2 M2 F2 q1 Y2 V2 E2 i1 l1 s1 O2 Fr2=>aH rfl ⟨by trivial,by trivial,?_⟩;have C2:=C1.only O2 ⟨D1 _ ak,D1 _ ak,D1 _ ak,D1 _ ak⟩;refine aH (r3 C2.a3) ⟨rfl,bu Ks ?_⟩;have a:=E2.isN i0;have b:k+1<=lvl n (dn k (c::U) M2) q0:=by rw[E2.lvl i0];exact l0
 obtain⟨ne,no,V3⟩:=V2.put H P n8 hk a b (λx=>by rw[E2.sm V1.mid.ok i0];exact s0 x) i1 l1 s1;have hm:=(V2.un c ak).trans (fI (n:=n) ci c2);have o:=Y2.m.len
 have Ig: ∀{q},isN (dn k (c::U) M2) q->q<2^28:=λ{q} hq=>by
  rcases(qQ (k:=k) (U:=c::U)).isN hq with z|⟨z,hz⟩
  ·omega
  ·have:=jf hz;omega
 have nk:ky (k,q0,q1):=⟨by show k<256;omega,Ig a,Ig i1,ne⟩;refine ve Y2 hm c2 nk (λi x hx e=> ?_) (Nt.1 V2.nod).1 λh3 Y3 O3=>⟨rfl,?_⟩
 ·have:=wK (V2.ndok H n8 lN ah i x hx) nk e;subst this;exact no i hx
 have O12:=O1.app O2 Fr1;have F12:=Fr1.trans Fr2 O1.size;exact hK h3 B2 _ F2 Y3 V3 (O12.app O3 F12) F12
def E6{N:ay}{U0:List Nat}: ∀(d t:Nat) {h:aI} {B:SB} {M:ay} {F:List Nat},t+d=U0.length->hH h s n room B f g M (U0.drop t) F Q off T (2*d)->qp n k fo N M (U0.drop t)->Cx h s k x1 x2 x3 wb mo->tE mo (cQ N (k+1))->cY n N->cF n fo gg->N.length<=32768->k+1<n->
  cw h lo 1 p U0.length cc (U0.map hv)->(∀y∈[x1,x2,x3,wb]++aV p,y∉B.bm s++B.bt)->U0.length<=40000->
  (∀h' B' M' F',hH h' s n room B' f g M' [] F' Q off T 0->qp n k fo N M' []->aM (B.bm s++B.bt) h h'->bH (B.bm s++B.bt) (B'.bm s++B'.bt) h->K aE h')->
  F362.wL2 (d+1) (aw x1) (aw x2) (aw x3) (Gj s) p U0.length cc (U0.length:Int) (t:Int) h K:=by
 intro d
 induction d with
 |zero=>
  intro t h B M F ht Y V C Om H P lN hk Ow D hl hK;rw[F362.sL2];rw[MJ ah,aJ];have e:U0.drop t=[]:=OS ah;rw[e]at Y V;exact hK h B M F Y V (aM.refl _ _) (bH.refl _ _)
 |succ d ih=>
  intro t h B M F ht Y V C Om H P lN hk Ow D hl hK;have j:t<U0.length:=ah;have e:U0.drop t=U0[t]::U0.drop (t+1):=List.drop_eq_getElem_cons j;obtain⟨c,ec⟩: ∃c,c=U0[t]:=⟨_,rfl⟩;rw[<-ec]at e;rw[e]at Y V;obtain⟨b,eb,rb⟩:=Ow.elem (i:=t) (a:=c) (by rw[ec];exact MT j);rw[F362.sL2];rw[MP ah,aO];unfold F362.wk3
  try dsimp only
  rw[eb,aT,<-eb];refine⟨ah,ah,?_⟩;simp only[aL,MF,Nz,MO];refine aH (n:=(c:Int)) rb ?_;have lt:=C.lt;refine EY Y V C Om H hk ak λh1 x8 x9 O1 A8 A9 l8 l9=> ?_;have m:=Y.lt;have Y1:=Y.only0 O1;have C1:=C.only O1 ak;have Y1':hH h1 s n room B f g M (c::U0.drop (t+1)) F Q off T (2*d+2):=Y1;refine Dz Y1' V C1 H P lN hk A8 A9 (λy hy hm=> ?_) λh2 B2 M2 F2 Y2 V2 O2 Fr2=> ?_
  ·have:=m y hm;simp only[List.mem_cons,Nw,NP]at hy;rcases hy with q|q|q|q|q|q
   ·exact D y (by simp[q]) hm
   ·exact D y (by simp[q]) hm
   ·exact D y (by simp[q]) hm
   ·exact D y (by simp[q]) hm
   ·omega
   ·omega
  rw[show ax ((t:Int)+(1:Int))=((t+1:Nat):Int) by rw[wrap_i64 ah ah];omega];have z1:=O1.size;have D4:x1∉B.bm s++B.bt/\x2∉B.bm s++B.bt/\x3∉B.bm s++B.bt/\wb∉B.bm s++B.bt:=⟨D _ ak,D _ ak,D _ ak,D _ ak⟩;refine ih (t+1) ah Y2 V2 (C1.only O2 D4) Om H P lN hk ((Ow.only O1 ak).only O2 λb' e'=>D b' (by rw[e'];simp[aV])) (λy hy hm=> ?_) hl λh3 B3 M3 F3 Y3 V3 O3 Fr3=>hK h3 B3 M3 F3 Y3 V3 ?_ ?_
  ·rcases Fr2 y hm with q|q
   ·exact D y hy q
   ·have:y<h.size:=by
     rcases Zq hy with w|w
     ·simp at w;omega
     ·exact(Ow.lt y w).2
    omega
  ·exact((O1.mono ak).trans O2 λy hy _=>hy).app O3 λy hy=>(Fr2 y hy).imp id λq=>ah
  ·have fr:bH (B.bm s++B.bt) (B2.bm s++B2.bt) h:=λy hy=>(Fr2 y hy).imp id λq=>ah;have O02:aM (B.bm s++B.bt) h h2:=(O1.mono ak).trans O2 λy hy _=>hy;exact fr.trans Fr3 O02.size
def EL{Y:SX}(S:bV h s L Y)(hk:k+1<Y.n)(P:cF Y.n Y.f Y.g)(hF: ∀h',aM [] h h'->K (ap 60) h')
  (hK: ∀h' L' N',(∀a,isN Y.N a->isN N' a/\ ∀x,sm Y.n (sw k Y.f) N' a x=sm Y.n Y.f Y.N a x)->bV h' s L' {Y with f:=sw k Y.f,g:=tf k Y.f Y.g,N:=N'}->aM L h h'->bH L L' h->K (ap 0) h'):
  Cl 342 [bg s,ap (k:Int)] h K:=by
 have S0:=S;obtain⟨B,F,eL,H⟩:=S;subst eL;have n8:=H.m.n8.2;have J:=H.m.len;have cl:=lH Y.N;have u: ∀l,(cQ Y.N l).length<=Y.N.length:=λl=>iP;refine F342.spec _ _ h K ?_;refine aX λh1 A1 O1 z1=>aX λh2 A2 O2 z2=> ?_;have O02:=O1.trans O2 ak;have H2:=S0.only0 O02;have A12:=A1.only O2 ak;have rs: ∀{hX},At hX h.size [bg s]->rd hX (aw h.size)=some (bg s):=λA=>by rw[At.rd A];rfl
 have rk: ∀{hX},At hX h1.size [ap (k:Int)]->rd hX (aw h1.size)=some (ap (k:Int)):=λA=>by rw[At.rd A];rfl
 refine aH (rk A2) ?_;rw[MJ ah,aJ];refine aH (rk A2) (aR (rs A12) (dE H2 (aH rfl (aH (rk A2) ⟨rfl,?_⟩))));rw[show ax ((Y.n:Int)-1)=(Y.n:Int)-1 from wrap_i64 ah ah,MJ ah,aJ];refine aR (rs A12) (aH (rk A2) (aR (rs A12) (aR (rs A12) ?_)));refine F359.spec ?_;have m2:=H.m.only O02 ak;refine xg m2 λh3 p3 c3 Ow3 O3=>bB rfl (aH rfl ?_);have A13:=A12.only O3 ak;have A23:=A2.only O3 ak;have O03:=O02.trans O3 ak;have H3:=S0.only0 O03;refine aR (rs A13) ⟨rfl,aR (rs A13) ⟨rfl,oI H3 (aH rfl (aR (rs A13) ⟨rfl,lC H3 (aH rfl ?_)⟩))⟩⟩;have ol:=u k;have O:=u (k+1);rw[wrap_i64 (n:=(2:Int)*(((cQ Y.N k).length:Nat):Int)) ah ah,wrap_i64 (n:=((Y.room:Nat):Int)-((bj Y.N:Nat):Int)) ah ah];refine aS (λq=>hF h3 O03) λq=> ?_;have q:=MU q
 have rm:bj Y.N+2*(cv Y.n k Y.N).length<=Y.room:=by have:=Og (cL Y.n k Y.N) (cQ Y.N k);unfold cv;omega
 unfold F342.wk5;refine eW (k:= .u32) λh4 Mp4 O4 z4=>aX λh5 A5 O5 z5=> ?_;rw[aL];refine aU A5 ak rfl λh6 A6 O6 z6=> ?_;have A6:At h6 h4.size [.map (some h3.size)]:=A6;have O36:aM [] h3 h6:=(O4.trans O5 ak).trans O6 (by intro y hy hl;simp only[MH]at hy;omega);have O06:=O03.trans O36 ak;have A16:=A13.only O36 ak;have A26:=A23.only O36 ak;have s2:=O02.size;have s3:=O3.size;have s1:=O1.size;have l4:=Mp4.lt;have Mp6:bS h6 h3.size .u32 []:=(Mp4.only O5 ak).only O6 (by simp only[MH];omega);refine aR (rs A16) (aH (rk A26) ?_);rw[show((1:Int))=((1:Nat):Int)from rfl,oJ (k:=k) ah ah];refine xg (H.m.only O06 ak) λh7 p7 c7 Ow7 O7=>bB rfl ?_;have s6:=O36.size;have l6:=A6.lt;unfold F342.wk7;have A17:=A16.only O7 ak;have A27:=A26.only O7 ak;have A67:=A6.only O7 ak;have Mp7:=Mp6.only O7 ak;have l1:=A1.lt;have l2:=A2.lt;have O07:=O06.trans O7 ak;have s7:=O7.size
 have j: ∀(d t:Nat) (h8:aI) (mo:List (Int×Value)),t+d=(cQ Y.N (k+1)).length->bS h8 h3.size .u32 mo->tE mo ((cQ Y.N (k+1)).take t)->aM [h3.size] h7 h8->F342.wL7 (d+1) (aw h.size) (aw h1.size) (aw h4.size) p7 (cQ Y.N (k+1)).length c7 ((cQ Y.N (k+1)).length:Int) (t:Int) h8 K:=by
  intro d
  induction d with
  |zero=>
   intro t h8 mo ht Mp8 Om O8;rw[F342.sL7];rw[MJ ah,aJ];obtain rfl:t=(cQ Y.N (k+1)).length:=ah;rw[Oi]at Om;unfold F342.wk11;have A18:=A17.only O8 (by simp;omega);have A28:=A27.only O8 (by simp;omega);have A68:=A67.only O8 (by simp;omega);have O08:aM [] h h8:=O07.trans O8 λy hy hl=>by simp only[MH]at hy;omega
   refine aR (rs A18) (aH (rk A28) ?_)
   have C: ∀y∈B.bm s++B.bt,y<h.size:=λy hy=>by
    rcases Zq hy with q|q
    ·exact H.m.lt y q
    ·exact H.t.lt y q
   have H8:nH h8 s Y.n Y.room B Y.f Y.g Y.N F Y.Q Y.off:=H.only O08 ak;obtain⟨T,t,t5,t6,t7⟩:=H8.t.tab;refine CQ (K:=λv h4=>v=aE/\K (ap 0) h4) H8 t t5 t7 hk P rm λh9 B9 M9 T9 p9 c9 G Y9 V9 Ow9 g9 D9 O9 Fr9=>bu GQ ?_;have i: ∀y,h.size<=y->y<h8.size->y∉B.bm s++B.bt:=λy hy _ hm=>by have:=C y hm;omega
   have z8:=O08.size;have l8:=Mp8.lt;have C9:Cx h9 s k h.size h4.size h1.size h3.size mo:=⟨A18.only O9 (i _ ah ah),A68.only O9 (i _ ah A68.lt),A28.only O9 (i _ ah A28.lt),Mp8.only O9 (i _ ah l8)⟩;refine F362.spec _ _ _ _ _ _ h9 _ ?_;refine aR (by rw[At.rd C9.a1];rfl) ?_;unfold F362.wk2
   have bl:(cv Y.n k Y.N).length<=40000:=by have:=Og (cL Y.n k Y.N) (cQ Y.N k);unfold cv;omega
   refine⟨_,E6 (U0:=cv Y.n k Y.N) (lo:=G) (cv Y.n k Y.N).length 0 ah Y9 V9 C9 Om H.ok P ah hk Ow9 (λy hy hm=> ?_) bl λI B10 M10 F10 Y10 V10 O10 Fr10=>⟨rfl,rfl,?_⟩⟩
   ·rcases Zq hy with w|w
    ·have w2:h.size<=y/\y<h8.size:=by
      have:=A18.lt;have:=A28.lt;have:=A68.lt;simp at w;omega
     rcases Fr9 y hm with z|z
     ·exact i y w2.1 w2.2 z
     ·omega
    ·exact D9 y w hm
   obtain⟨ok,D⟩:=Em H.ok hk V10.mid V10.up;have o:=Y10.t;rw[dM]at o;have Fr':bH (B.bm s++B.bt) (B9.bm s++B9.bt) h8:=Fr9;have O810:=O9.app O10 Fr';have F810:=Fr'.trans Fr10 O9.size;refine hK I _ M10 D ⟨B10,F10,rfl,⟨Y10.m,⟨⟨T9,o,Y10.t5,by have:=Y10.cap;show 2*bj M10<=T9;omega,Y10.t7⟩,Y10.bn,Y10.bs⟩,ok,Y10.cnt,Y10.fre⟩⟩ ((O08.mono ak).trans O810 λy hy _=>hy) λy hy=>(F810 y hy).imp id λz=>ah
  |succ d ih=>
   intro t h8 mo ht Mp8 Om O8;rw[F342.sL7];rw[MP ah,aO];obtain⟨a,ha⟩: ∃a,(cQ Y.N (k+1))[t]? =some a:=⟨_,MT ah⟩;have b7: ∀b∈aV p7,h6.size<=b:=λb hb=>(Ow7.lt b hb).1
   obtain⟨b,eb,rb⟩:=(Ow7.only O8 λb e hm=>by simp only[MH]at hm;have:=b7 b (by rw[e];simp[aV]);omega).elem ha
   rw[eb,aT,<-eb];refine⟨ah,ah,?_⟩;simp only[aL,MF,Nz,MO];refine aH (n:=(a:Int)) rb ⟨_,by rw[At.rd (A67.only O8 (by simp;omega))];rfl,?_⟩;refine fh Mp8 λh9 Mp9 O9 z9=> ?_;rw[show ax ((t:Int)+1)=((t+1:Nat):Int) by rw[wrap_i64 ah ah];omega];refine ih (t+1) h9 _ ah Mp9 (λx=> ?_) (O8.trans O9 λy hy _=>hy);rw[cj,kW eX ha];by_cases e:x=a
   ·subst e;rw[MK rfl];exact⟨λ_=>rfl,λw=>Nc (.inr rfl) w⟩
   ·rw[MG ah];simp only[e,NP];exact Om x
 exact⟨_,j (cQ Y.N (k+1)).length 0 h7 [] ah Mp7 (λx=>⟨λw=>by simp at w,λ_=>rfl⟩) (aM.refl _ _)⟩
def gO(N:ay)(k:Nat):List Nat:=((List.range k).filter λi=>(nd N i).isSome).map (· +2)
def pj(N:ay):List Nat:=gO N N.length
def rN:gO N (k+1)=gO N k++if(nd N k).isSome then [k+2]else []:=by
 unfold gO;rw[OD,NX,No]
 congr 1
 cases h:(nd N k).isSome<;>simp[h]
def zF:a∈gO N k↔2<=a/\a-2<k/\ ∃x,nd N (a-2)=some x:=by
 unfold gO;simp only[MY,List.mem_filter,NA,N4];constructor
 ·rintro ⟨i,⟨h1,h2⟩,e⟩;subst e;exact⟨ah,by simpa using h1,by simpa using h2⟩
 ·rintro ⟨h0,h1,h2⟩;exact⟨a-2,⟨h1,h2⟩,ah⟩
def EX:a∈pj N↔2<=a/\ ∃x,nd N (a-2)=some x:=by unfold pj;rw[zF];exact⟨λh=>⟨h.1,h.2.2⟩,λh=>⟨h.1,by obtain⟨x,hx⟩:=h.2;exact jf hx,h.2⟩⟩
def HX(k:Nat):(gO N k).Pairwise (· < ·):=by unfold gO;rw[PN];refine Qm _ ((List.pairwise_lt_range (n:=k)).imp ?_);intro a b h;show a+2<b+2;omega
def uD{N:ay}: ∀k,k<=N.length->(gO N k).length=bj (N.take k):=by
 intro k
 induction k with
 |zero=>intro _;simp[gO,bj]
 |succ k ih=>
  intro hk;have:=ih ah;obtain⟨o,ho⟩: ∃o,N[k]? =some o:=⟨_,MT ah⟩;rw[rN,gp ho,nZ,MZ,this];have e:nd N k=o:=by unfold nd;rw[ho];rfl
  rw[e];cases o<;>rfl
def sX(N:ay):(pj N).length=bj N:=by have:=uD (N:=N) N.length (MN _);rw[Oi]at this;exact this
def KF{h:aI}{s:Nat}{L:List Nat}{X:SX}{K:KK}(H:bV h s L X)(hK: ∀h' p c,cw h' h.size 1 p (pj X.N).length c ((pj X.N).map hv)->aM [] h h'->K (.slice p (pj X.N).length c) h'):Cl 59 [au (aw s)] h K:=by
 obtain⟨B,F,eL,H⟩:=H;have e:=H.m.len;refine F59.spec _ h K ?_;simp only[aL,MF];refine bB (p:=B.p) (l:=X.N.length) (c:=B.c) (by rw[At.rd H.m.S];rfl) ?_;unfold F59.wk3
 have a: ∀(d i:Nat) (h':aI) (p:az) (c:Nat),i+d=X.N.length->cw h' h.size 1 p (gO X.N i).length c ((gO X.N i).map hv)->aM [] h h'->
   F59.wL3 (d+1) p (gO X.N i).length c B.p X.N.length B.c (X.N.length:Int) (i:Int) h' K:=by
  intro d
  induction d with
  |zero=>
   intro i h' p c hi Ow O;rw[F59.sL3];rw[MJ ah,aJ];obtain rfl:i=X.N.length:=ah;exact hK h' p c Ow O
  |succ d ih=>
   intro i h' p c hi Ow O;obtain⟨o,ho⟩: ∃o,X.N[i]? =some o:=⟨_,MT ah⟩;have m1:=H.m.only O ak;obtain⟨b,eb,rr⟩:=m1.cells ho;have en:nd X.N i=o:=by unfold nd;rw[ho];rfl
   rw[F59.sL3];rw[MP ah,aO,eb,aT];refine⟨ah,ah,?_⟩;rw[<-eb];simp only[aL,MF]
   have hw:IntKind.wrap .u32 (ax ((i:Int)+2))=((i+2:Nat):Int):=by rw[wrap_i64 ah ah,show(i:Int)+2=((i+2:Nat):Int) by omega];exact gC ah
   rw[show Int.toNat (i:Int)*4=i*4 by omega,hw,show ax ((i:Int)+1)=((i+1:Nat):Int) by rw[wrap_i64 ah ah];omega]
   obtain⟨tv,lv,av,bv,ec⟩: ∃tv lv av bv,dr o=[aD tv,ap lv,aq av,aq bv]:=by
    cases o with
    |none=>exact⟨_,_,_,_,rfl⟩
    |some x=>exact⟨_,_,_,_,rfl⟩
   have et:tv=o.isSome:=by cases o<;>simp only[dr,NL,Value.bool.injEq]at ec<;>exact ec.1.symm
   rw[ec]at rr;refine aZ (by rw[<-ML (i*4),rr 0 ah];rfl) (aH (by rw[rr 1 ah];rfl) (aH (by rw[rr 2 ah];rfl) (aH (by rw[rr 3 ah];rfl) ?_)));refine aX λk1 B1 P1 y1=> ?_;refine aU B1 ak rfl λk2 B2 P2 y2=>aU B2 ak rfl λk3 B3 P3 y3=>aU B3 ak rfl λk4 B4 P4 y4=>aU B4 ak rfl λk5 B5 P5 y5=> ?_;have P15:aM [] h' k5:=(((P1.trans P2 (by intro b hb hl;simp at hb;omega)).trans P3 (by intro b hb hl;simp at hb;omega)).trans P4 (by intro b hb hl;simp at hb;omega)).trans P5 (by intro b hb hl;simp at hb;omega);refine aZ (n:=tv) (by rw[At.rd B5];rfl) ?_;have z0:=O.size;have z1:=P15.size;have Ow5:=Ow.only P15 ak
   have f:(gO X.N i).length<=40000:=by rw[uD i ah];have:=lH (X.N.take i);rw[N7]at this;omega
   have ls:=rN (N:=X.N) (k:=i);rw[en]at ls;cases o with
   |none=>
    rw[et,Option.isSome_none,aJ];have ls:gO X.N (i+1)=gO X.N i:=by rw[ls];simp
    rw[<-ls]at Ow5 ⊢;exact ih (i+1) k5 p c ah Ow5 (O.trans P15 ak)
   |some x=>
    rw[et,Option.isSome_some,aO];have ls:gO X.N (i+1)=gO X.N i++[i+2]:=ls;refine aX λk6 B6 P6 y6=> ?_;refine fO (new:=[hv (i+2)]) (Ow5.only P6 ak) B6 rfl rfl ah (by simp[Value.oneCell']) ah λp' c' k7 W7 P7 g=> ?_;have e1:(gO X.N i).length+1=(gO X.N (i+1)).length:=by rw[ls];simp
    have e2:(gO X.N i).map hv++[hv (i+2)]=(gO X.N (i+1)).map hv:=by rw[ls];simp
    rw[e1,e2]at W7;rw[e1];exact ih (i+1) k7 p' c' ah W7 (((O.trans P15 ak).trans P6 ak).trans P7 λb hb hl=>by have:=Ow.lt b hb;omega)
 exact⟨_,a X.N.length 0 h none 0 ah (cw.nil _ _ _) (aM.refl _ _)⟩
end Go.Proofs.YtnofenejoebkhaaGreat.Ev
