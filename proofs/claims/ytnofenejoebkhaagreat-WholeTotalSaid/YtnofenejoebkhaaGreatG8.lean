/- PART 8 OF WHAT THE LAW WholeTotal STANDS ON. Conditions: none but those that each lemma states. -/
import Derived.Test.YtnofenejoebkhaaGreatG7
import Derived.Shelf.Abstract
namespace Go.Proofs.YtnofenejoebkhaaGreat.Ev
open Go
set_option linter.defProp false
set_option maxRecDepth 100000
set_option autoImplicit true
set_option relaxedAutoImplicit true
def fd:List It->List Value
 | []=> []
 |x::L=>ap x.1::ap x.2::fd L
def dV: ∀(L:List It),(fd L).length=L.length*2
 | []=>rfl
 |x::L=>by simp[fd,dV L];omega
def ii: ∀{L:List It} {i:Nat},i<L.length->(fd L)[i*2]? =some (ap (ct L i).1)
 |x::L,0,_=>rfl
 |x::L,i+1,h=>by
  rw[show(i+1)*2=i*2+1+1 by omega];simp only[fd,NA];rw[ii (by simpa using h)]
  rfl
def iy: ∀{L:List It} {i:Nat},i<L.length->(fd L)[i*2+1]? =some (ap (ct L i).2)
 |x::L,0,_=>rfl
 |x::L,i+1,h=>by
  rw[show(i+1)*2+1=i*2+1+1+1 by omega];simp only[fd,NA];rw[iy (by simpa using h)]
  rfl
def pN: ∀(L M:List It),fd (L++M)=fd L++fd M
 | [],M=>rfl
 |x::L,M=>by simp[fd,pN L M]
def rI: ∀(L:List It) (i:Nat) (v:Int),(fd L).set (i*2) (ap v)=fd (L.set i (v,(ct L i).2))
 | [],_,_=>by simp[fd]
 |x::L,0,v=>rfl
 |x::L,i+1,v=>by
  rw[show(i+1)*2=i*2+1+1 by omega];simp only[fd,Ni];rw[rI L i v]
  rfl
def rF: ∀(L:List It) (i:Nat) (v:Int),(fd L).set (i*2+1) (ap v)=fd (L.set i ((ct L i).1,v))
 | [],_,_=>by simp[fd]
 |x::L,0,v=>rfl
 |x::L,i+1,v=>by
  rw[show(i+1)*2+1=i*2+1+1+1 by omega];simp only[fd,Ni];rw[rF L i v]
  rfl
def mA(hx:x=some (.map n))(hK:K n):bU x K:=⟨n,hx,hK⟩
def oY(h:aI)(b:Nat)(f:Int->Option Nat):Prop:= ∃m,bV h b .i64 m/\ ∀x,m.lookup x=(f x).map λi=>ap (i:Int)
def oY.only(H:oY h b f)(O:aM S h h')(hb:b∉S):oY h' b f:=by obtain⟨m,h1,h2⟩:=H;exact⟨m,h1.only O hb,h2⟩
def nK(L:List It)(f:Int->Option Nat):Prop:= ∀id i,f id=some i↔i<L.length/\(ct L i).1=id
structure dM(h:aI)(lo pi mb:Nat)(p:az)(c:Nat)(L:List It):Prop where
 at_:At h pi [.slice p L.length c,.map (some mb)]
 own:cy h lo 2 p L.length c (fd L)
 map: ∃f,oY h mb f/\nK L f
 sep:lo<=pi/\lo<=mb/\pi∉aV p/\mb∉aV p/\pi≠mb
def dM.only(H:dM h lo pi mb p c L)(O:aM S h h')(h1:pi∉S)(h2:mb∉S)(h3: ∀b∈aV p,b∉S):dM h' lo pi mb p c L:=by obtain⟨a,b,⟨f,d,e⟩,g⟩:=H;exact⟨a.only O h1,b.only O λx hx=>h3 x (by rw[hx];simp[aV]),⟨f,d.only O h2,e⟩,g⟩
def dM.lt{h:aI}(H:dM h lo pi mb p c L):pi<h.size/\mb<h.size/\ ∀b∈aV p,lo<=b/\b<h.size:=by obtain⟨a,b,⟨f,⟨m,d,-⟩,e⟩,g⟩:=H;exact⟨a.lt,d.lt,b.lt⟩
def zU{L:List It}(P:dM h lo pi mb p c L)(hK:K (ap (L.length:Int)) h):Cl 357 [au (aw pi)] h K:=by apply F357.spec;rw[aL];exact bF (by rw[P.at_.rd];rfl) hK
def vd{L:List It}(P:dM h lo pi mb p c L)(hi:i<L.length)(hj:j<L.length)(hK: ∀h',dM h' lo pi mb p c L->aM [] h h'->K (aD (kJ (ct L i) (ct L j))) h'):
  Cl 397 [au (aw pi),ap (i:Int),ap (j:Int)] h K:=by
 apply F397.spec;obtain⟨b,ep,-⟩:=P.own.rd (j:=i*2) (by rw[dV];omega);subst ep
 have R: ∀h',dM h' lo pi mb (some (aw b)) c L->rd h' (aw pi)=some (.slice (some (aw b)) L.length c)/\rd h' ⟨b,i*2,none⟩=some (ap (ct L i).1)/\rd h' ⟨b,i*2+1,none⟩=some (ap (ct L i).2)/\rd h' ⟨b,j*2,none⟩=some (ap (ct L j).1)/\rd h' ⟨b,j*2+1,none⟩=some (ap (ct L j).2):=by
  intro h' P'
  have e: ∀k,k<L.length*2->rd h' ⟨b,k,none⟩=(fd L)[k]? :=by intro k hk;obtain⟨b',e1,e2⟩:=P'.own.rd (j:=k) (by rw[dV];omega);injection e1 with e1;injection e1 with e1;subst e1;exact e2
  refine⟨by rw[P'.at_.rd];rfl,?_,?_,?_,?_⟩
  ·rw[e _ ah,ii hi]
  ·rw[e _ ah,iy hi]
  ·rw[e _ ah,ii hj]
  ·rw[e _ ah,iy hj]
 have i0:(0:Int)<=(i:Int):=ah;have i1:(i:Int)<(L.length:Int):=ah;have j0:(0:Int)<=(j:Int):=ah;have j1:(j:Int)<(L.length:Int):=ah;have new: ∀{h h1:aI} (P:dM h lo pi mb (some (aw b)) c L) (O:aM [] h h1),dM h1 lo pi mb (some (aw b)) c L:=λP O=>P.only O ak ak ak;have st: ∀{h h1:aI} {x:Nat} (P:dM h lo pi mb (some (aw b)) c L) (O:aM [x] h h1),pi≠x->mb≠x->b≠x->dM h1 lo pi mb (some (aw b)) c L:=λP O h1 h2 h3=>P.only O (by simpa using h1) (by simpa using h2) (by simpa[aV]using h3);have lt:=P.lt;have a:=(lt.2.2 b (by simp[aV])).2;simp only[aL,LX,Ma,Md];obtain⟨r0,r1,r2,r3,r4⟩:=R h P;simp only[r0,r1,r2,r3,r4,bK,aT,bB,i0,i1,j0,j1,Ol,aL,LX,Ma];constructor
 ·refine aW λh1 A1 O1 z1=> ?_;have P1:=new P O1;obtain⟨r0,r1,r2,r3,r4⟩:=R h1 P1;simp only[r0,r1,r2,r3,r4,bK,bB,Ol];refine aW λh2 A2 O2 z2=> ?_;have P2:=new P1 O2;obtain⟨r0,r1,r2,r3,r4⟩:=R h2 P2;simp only[r0,r1,r2,r3,r4,bK,bB,Ol];refine aU (A1.only O2 ak) ak rfl λh3 A3 O3 z3=>aU A3 ak rfl λh4 A4 O4 z4=> ?_;have O34:=O3.trans O4 ak;have P4:=st P2 O34 ah ah ah;obtain⟨r0,-,-,r3,r4⟩:=R h4 P4;simp only[r0,r3,r4,bK,bB,Ol];refine aU (A2.only O34 (by simp;omega)) ak rfl λh5 A5 O5 z5=>aU A5 ak rfl λh6 A6 O6 z6=> ?_;have O56:=O5.trans O6 ak;have P6:=st P4 O56 ah ah ah;have A4':=A4.only O56 (by simp;omega);have fin:=hK h6 P6 ((((O1.trans O2 ak).nil O34 ak).nil O56 (by simp;omega)));refine aH (n:=(ct L i).2) (by rw[A4'.rd];rfl) (aH (n:=(ct L j).2) (by rw[A6.rd];rfl) (aR (λe=> ?_) λe=>aH (n:=(ct L i).2) (by rw[A4'.rd];rfl) (aH (n:=(ct L j).2) (by rw[A6.rd];rfl) (aR (λe2=>aH (n:=(ct L i).1) (by rw[A4'.rd];rfl) (aH (n:=(ct L j).1) (by rw[A6.rd];rfl) ?_)) λe2=> ?_))))
  ·unfold kJ at fin;rw[e,Bool.true_or]at fin;exact fin
  ·unfold kJ at fin;rw[e,Oc,e2,Bool.true_and]at fin;exact fin
  ·unfold kJ at fin;rw[e,Oc,e2,Bool.false_and]at fin;exact fin
 ·refine aW λh1 A1 O1 z1=> ?_;have P1:=new P O1;obtain⟨r0,r1,r2,r3,r4⟩:=R h1 P1;simp only[r0,r1,r2,r3,r4,bK,bB,Ol];refine aW λh2 A2 O2 z2=> ?_;have P2:=new P1 O2;obtain⟨r0,r1,r2,r3,r4⟩:=R h2 P2;simp only[r0,r1,r2,r3,r4,bK,bB,Ol];refine aU A2 ak rfl λh3 A3 O3 z3=>aU A3 ak rfl λh4 A4 O4 z4=> ?_;have O34:=O3.trans O4 ak;have P4:=st P2 O34 ah ah ah;obtain⟨r0,-,-,r3,r4⟩:=R h4 P4;simp only[r0,r3,r4,bK,bB,Ol];refine aU ((A1.only O2 ak).only O34 (by simp;omega)) ak rfl λh5 A5 O5 z5=>aU A5 ak rfl λh6 A6 O6 z6=> ?_;have O56:=O5.trans O6 ak;have P6:=st P4 O56 ah ah ah;have A4':=A4.only O56 (by simp;omega);have fin:=hK h6 P6 ((((O1.trans O2 ak).nil O34 (by simp;omega)).nil O56 ak));refine aH (n:=(ct L i).2) (by rw[A4'.rd];rfl) (aH (n:=(ct L j).2) (by rw[A6.rd];rfl) (aR (λe=> ?_) λe=>aH (n:=(ct L i).2) (by rw[A4'.rd];rfl) (aH (n:=(ct L j).2) (by rw[A6.rd];rfl) (aR (λe2=>aH (n:=(ct L i).1) (by rw[A4'.rd];rfl) (aH (n:=(ct L j).1) (by rw[A6.rd];rfl) ?_)) λe2=> ?_))))
  ·unfold kJ at fin;rw[e,Bool.true_or]at fin;exact fin
  ·unfold kJ at fin;rw[e,Oc,e2,Bool.true_and]at fin;exact fin
  ·unfold kJ at fin;rw[e,Oc,e2,Bool.false_and]at fin;exact fin
def nK.inj{L:List It}(H:nK L f)(ha:a<L.length)(hb:b<L.length)(e:(ct L a).1=(ct L b).1):a=b:=by have h1:=(H _ a).2 ⟨ha,rfl⟩;have h2:=(H _ b).2 ⟨hb,rfl⟩;rw[e,h2]at h1;injection h1 with h1;exact h1.symm
def nK.swap{L:List It}(H:nK L f)(hi:i<L.length)(hj:j<L.length):
  nK (gz L i j) (λy=>if y=(ct (gz L i j) j).1 then some j else if y=(ct (gz L i j) i).1 then some i else f y):=by
 intro id k;have sw:=iG (L:=L) hi hj;rw[eY,sw k,sw j,L4 rfl,sw i];dsimp only;rw[L4 (rfl:i=i)];by_cases h1:id=(ct L i).1
 ·rw[L4 h1];by_cases hk:k=j
  ·subst hk;simp[hj,h1]
  ·rw[LY hk];constructor
   ·intro e;injection e with e;exact Mw e.symm hk
   ·rintro ⟨a,b⟩;exfalso;by_cases hki:k=i
    ·rw[L4 hki]at b;have:=H.inj hj hi (b.trans h1);omega
    ·rw[LY hki]at b;exact hki (H.inj a hi (b.trans h1))
 ·rw[LY h1];by_cases hij:i=j
  ·subst hij;simp only[PF];rw[LY h1,H id k];by_cases hki:k=i
   ·subst hki;simp
   ·simp[hki]
  ·rw[LY hij];by_cases h2:id=(ct L j).1
   ·rw[L4 h2];by_cases hki:k=i
    ·subst hki;simp[hij,hi,h2]
    ·constructor
     ·intro e;injection e with e;exact Mw e.symm hki
     ·rintro ⟨a,b⟩;exfalso;by_cases hkj:k=j
      ·rw[L4 hkj]at b;exact h1 b.symm
      ·rw[LY hkj,LY hki]at b;exact hkj (H.inj a hj (b.trans h2))
   ·rw[LY h2,H id k];by_cases hkj:k=j
    ·subst hkj;rw[L4 rfl];exact⟨λ⟨a,b⟩=>Mw b.symm h2,λ⟨a,b⟩=>Mw b.symm h1⟩
    ·rw[LY hkj];by_cases hki:k=i
     ·subst hki;rw[L4 rfl];exact⟨λ⟨a,b⟩=>Mw b.symm h1,λ⟨a,b⟩=>Mw b.symm h2⟩
     ·rw[LY hki]
def nK.push{L:List It}(H:nK L f)(hx:f x.1=none):nK (L++[x]) (λy=>if y=x.1 then some L.length else f y):=by
 intro id k;dsimp only;have e1: ∀k,k<L.length->ct (L++[x]) k=ct L k:=λk hk=>by simp[ct,List.getD,Mo hk]
 have e2:ct (L++[x]) L.length=x:=by simp[ct,List.getD]
 rw[Mv,MP];by_cases h1:id=x.1
 ·rw[L4 h1];constructor
  ·intro e;injection e with e;subst e;exact⟨ah,by rw[e2,h1]⟩
  ·rintro ⟨a,b⟩;by_cases hk:k<L.length
   ·rw[e1 k hk]at b;have:=(H id k).2 ⟨hk,b⟩;rw[h1,hx]at this;cases this
   ·rw[show k=L.length by omega]
 ·rw[LY h1,H id k];constructor
  ·rintro ⟨a,b⟩;exact⟨ah,by rw[e1 k a];exact b⟩
  ·rintro ⟨a,b⟩;by_cases hk:k<L.length
   ·rw[e1 k hk]at b;exact⟨hk,b⟩
   ·rw[show k=L.length by omega,e2]at b;exact Mw b.symm h1
def nK.pop(H:nK (L++[x]) f):nK L (λy=>if y=x.1 then none else f y):=by
 intro id k;dsimp only;have e1: ∀k,k<L.length->ct (L++[x]) k=ct L k:=λk hk=>by simp[ct,List.getD,Mo hk]
 have e2:ct (L++[x]) L.length=x:=by simp[ct,List.getD]
 have hl:(L++[x]).length=L.length+1:=ak;by_cases h1:id=x.1
 ·rw[L4 h1];constructor
  ·intro e;cases e
  ·rintro ⟨a,b⟩;exfalso;have:=H.inj (a:=k) (b:=L.length) ah ah (by rw[e1 k a,e2,b,h1]);omega
 ·rw[LY h1,H id k,hl];constructor
  ·rintro ⟨a,b⟩;by_cases hk:k<L.length
   ·rw[e1 k hk]at b;exact⟨hk,b⟩
   ·rw[show k=L.length by omega,e2]at b;exact Mw b.symm h1
  ·rintro ⟨a,b⟩;exact⟨ah,by rw[e1 k a];exact b⟩
def ue{h:aI}(H:oY h b f)(hK: ∀h',oY h' b (λy=>if y=x then some i else f y)->aM [b] h h'->h'.size=h.size->K h'):
  zC h (some b) .i64 .i64 x (ap (0:Int)) (λv st h1=>aS .i64 (some v) (λ_=>zb h1 (some b) st (ap (i:Int)) K)):=by
 obtain⟨m,h1,h2⟩:=H;refine Eo h1 λv st h3 hv M3 S3 O3 z3=> ?_
 have a: ∃n:Int,v=ap n:=by
  rw[hv,h2 x];cases f x with
  |none=>exact⟨_,rfl⟩
  |some k=>exact⟨_,rfl⟩
 obtain⟨n,rfl⟩:=a;refine aH rfl (DL M3 S3 λh4 M4 O4 z4=>hK h4 ⟨_,M4,λy=> ?_⟩ (O3.trans O4 ak) (z4.trans z3));rw[cr,cr];dsimp only;by_cases hy:y=x
 ·rw[L4 hy,L4 hy]
  rfl
 ·rw[LY hy,LY hy,LY hy];exact h2 y
def BF{h:aI}(H:oY h b f)(hK: ∀h',oY h' b (λy=>if y=x then some i else f y)->aM [b] h h'->h'.size=h.size->K h'):
  lu h (some b) .i64 .i64 x (ap (i:Int)) K:=by
 obtain⟨m,h1,h2⟩:=H;refine fk h1 λh3 M3 O3 z3=>hK h3 ⟨_,M3,λy=> ?_⟩ O3 z3;rw[cr];dsimp only;by_cases hy:y=x
 ·rw[L4 hy,L4 hy]
  rfl
 ·rw[LY hy,LY hy];exact h2 y
def BQ{h:aI}(H:oY h b f)(hK: ∀h',oY h' b (λy=>if y=x then none else f y)->aM [b] h h'->h'.size=h.size->K h'):
  yy h (some b) .i64 .i64 x K:=by
 obtain⟨m,h1,h2⟩:=H;refine sn h1 λh3 M3 O3 z3=>hK h3 ⟨_,M3,λy=> ?_⟩ O3 z3;rw[ny];dsimp only;by_cases hy:y=x
 ·rw[L4 hy,L4 hy]
  rfl
 ·rw[LY hy,LY hy];exact h2 y
def yG(H:oY h b f)(hN:f x=none->K none)(hS: ∀i k,f x=some k->K (some (i,ap (k:Int)))):dT h (some b) .i64 .i64 x K:=by
 obtain⟨m,h1,h2⟩:=H;refine dg h1 (λe=>hN ?_) λi v e=> ?_
 ·rw[h2 x]at e;cases hf:f x with
  |none=>rfl
  |some k=>rw[hf]at e;cases e
 ·rw[h2 x]at e;cases hf:f x with
  |none=>rw[hf]at e;cases e
  |some k=>
   rw[hf]at e;injection e with e;subst e;exact hS i k hf
def Fn{L:List It}(H:cy h lo 2 (some (aw b)) l c (fd L))(hi:i<L.length)
  (hK: ∀h',cy h' lo 2 (some (aw b)) l c (fd (L.set i x))->aM [b] h h'->K h'):aY h ⟨b,i*2,none⟩ (ap x.1) (λh1=>aY h1 ⟨b,i*2+1,none⟩ (ap x.2) K):=by
 refine H.set (by rw[dV];omega) rfl λh1 H1 O1=> ?_;rw[rI]at H1;refine H1.set (by rw[dV,No];omega) rfl λh2 H2 O2=> ?_;rw[rF]at H2
 have e:(L.set i (x.1,(ct L i).2)).set i ((ct (L.set i (x.1,(ct L i).2)) i).1,x.2)=L.set i x:=by
  rw[List.set_set]
  congr 1
  simp[ct,hi]
 rw[e]at H2;exact hK h2 H2 (O1.trans O2 ak)
def cy.cut(H:cy h lo 2 p (l+1) c (fd (L++[x]))):cy h lo 2 p l c (fd L):=by
 obtain⟨e,H⟩:=H;rw[dV,Mv,MP]at e;refine⟨by rw[dV];omega,?_⟩;rcases H with⟨-,h0,-⟩|⟨b,sp,h1,h2,h3,h4,h5⟩
 ·omega
 ·refine Or.inr ⟨b,[ap x.1,ap x.2]++sp,h1,h2,ah,?_,?_⟩
  ·rw[Mv,h4];obtain⟨r,rfl⟩: ∃r,c=l+1+r:=⟨c-l-1,ah⟩;rw[show l+1+r-(l+1)=r by omega,show l+1+r-l=r+1 by omega];simp;omega
  ·rw[pN]at h5;simpa[fd]using h5
def vM{L:List It}(P:dM h lo pi mb p c L)(hi:i<L.length)(hj:j<L.length)(hK: ∀h',dM h' lo pi mb p c (gz L i j)->aM (mb::aV p) h h'->K aE h'):
  Cl 400 [au (aw pi),ap (i:Int),ap (j:Int)] h K:=by
 apply F400.spec;obtain⟨b,ep,-⟩:=P.own.rd (j:=i*2) (by rw[dV];omega);subst ep;obtain⟨s1,s2,s3,s4,s5⟩:=P.sep;simp only[aV,LZ]at s3 s4
 have a: ∀(h':aI) (M:List It) (k:Nat),cy h' lo 2 (some (aw b)) L.length c (fd M)->k<M.length->rd h' ⟨b,k*2,none⟩=some (ap (ct M k).1)/\rd h' ⟨b,k*2+1,none⟩=some (ap (ct M k).2):=by
  intro h' M k P' hk
  have e: ∀k,k<M.length*2->rd h' ⟨b,k,none⟩=(fd M)[k]? :=by intro k hk;obtain⟨b',e1,e2⟩:=P'.rd (j:=k) (by rw[dV];omega);injection e1 with e1;injection e1 with e1;subst e1;exact e2
  exact⟨by rw[e _ ah,ii hk],by rw[e _ ah,iy hk]⟩
 have i0:(0:Int)<=(i:Int):=ah;have i1:(i:Int)<(L.length:Int):=ah;have j0:(0:Int)<=(j:Int):=ah;have j1:(j:Int)<(L.length:Int):=ah;have r0:rd h (aw pi)=some (.slice (some (aw b)) L.length c):=by rw[P.at_.rd];rfl
 obtain⟨r1,r2⟩:=a h L i P.own hi;obtain⟨r3,r4⟩:=a h L j P.own hj;simp only[aL,LX,Ma,Md];simp only[r0,r1,r2,r3,r4,bK,aT,bB,i0,i1,j0,j1,Ol,aL,LX,Ma];refine Fn (x:=ct L j) P.own hi λh1 H1 O1=>Fn (x:=ct L i) H1 (by rw[No];exact hj) λh2 H2 O2=> ?_;have H2:cy h2 lo 2 (some (aw b)) L.length c (fd (gz L i j)):=H2;have O12:=O1.trans O2 ak;have A2:=P.at_.only O12 (by simpa using s3);obtain⟨f,hf,d⟩:=P.map;have f2:=hf.only O12 (by simpa using s4);have q0:rd h2 (aw pi)=some (.slice (some (aw b)) L.length c):=by rw[A2.rd];rfl
 have q1:rd h2 ⟨pi,1,none⟩=some (.map (some mb)):=by rw[A2.rd];rfl
 obtain⟨q2,-⟩:=a h2 _ i H2 (by rw[eY];exact hi);obtain⟨q3,-⟩:=a h2 _ j H2 (by rw[eY];exact hj);simp only[q0,q1,q2,q3,bK,gJ,aT,bB,i1,j1,Ol,aL,LX,Ma];refine ue f2 λh3 M3 O3 z3=>ue M3 λh4 M4 O4 z4=> ?_;have O34:=O3.trans O4 ak;refine hK h4 ⟨?_,?_,⟨_,M4,d.swap hi hj⟩,P.sep⟩ ?_
 ·rw[eY];exact A2.only O34 (by simpa using s5)
 ·rw[eY]
  exact H2.only O34 λx hx=>by injection hx with hx;injection hx with hx;subst hx;simpa using Ne.symm s4
 ·exact(O12.mono (T:=mb::aV (some (aw b))) (by simp[aV])).trans O34 ak
def Hc{h:aI}{L:List It}(P:dM h lo pi mb p c L)(hx: ∀k,k<L.length->(ct L k).1≠x.1)(hl:L.length<100000)(C:lo<=h.size)
  (hK: ∀h' p' c',dM h' lo pi mb p' c' (L++[x])->aM (pi::mb::aV p) h h'->(∀b∈aV p',b∈aV p\/h.size<=b)->K aE h'):
  Cl 399 [au (aw pi),.iface 357 (.agg #[ap x.1,ap x.2])] h K:=by
 apply F399.spec;simp only[aL,LX,Ma];obtain⟨s1,s2,s3,s4,s5⟩:=P.sep;obtain⟨B,z,y⟩:=P.lt;refine aW λh1 A1 O1 z1=>aU A1 ak rfl λh2 A2 O2 z2=>aU A2 ak rfl λh3 A3 O3 z3=> ?_;have A3:At h3 h.size [ap x.1,ap x.2]:=A3;have O13:aM [] h h3:=O1.nil (O2.trans O3 ak) ak;have P3:=P.only O13 ak ak ak;obtain⟨f,hf,q⟩:=P3.map
 have u:f x.1=none:=by
  cases hh:f x.1 with
  |none=>rfl
  |some k=>
   obtain⟨a,b⟩:=(q x.1 k).1 hh;exact Mw b (hx k a)
 refine mA (by rw[P3.at_.rd];rfl) (aH (n:=x.1) (by rw[A3.rd];rfl) (bF (by rw[P3.at_.rd];rfl) (BF hf λh4 M4 O4 z4=> ?_)));have P4at:=P3.at_.only O4 (by simpa using s5);have A4:=A3.only O4 (by simp;omega)
 have g:=P3.own.only O4 λb hb=>by have:mb≠b:=λe=>s4 (by rw[hb,<-e];simp[aV]);simpa using Ne.symm this
 refine bF (by rw[P4at.rd];rfl) (aH (n:=x.1) (by rw[A4.rd];rfl) (aH (n:=x.2) (by rw[A4.rd];rfl) (aW λh5 A5 O5 z5=> ?_)));have P5at:=P4at.only O5 ak;refine⟨by trivial,by trivial,by trivial,by trivial,bF (by rw[P5at.rd];rfl) ⟨by trivial,?_⟩⟩;have m:=g.only O5 ak;have A:=O13.size;refine gU m A5 rfl rfl ah (by simp[Value.oneCell']) ah λp' c' h6 l O6 v=>⟨by trivial,?_⟩;have P6at:=P5at.only O6 s3;refine aU P6at ak rfl λh7 A7 O7 z7=> ?_
 have d: ∀b∈aV p',b∈aV p\/h.size<=b:=λb hb=>by
  rcases v b hb with h|h
  ·exact Or.inl h
  ·exact Or.inr ah
 have o:pi∉aV p':=λhb=>by
  rcases d _ hb with h|h
  ·exact s3 h
  ·omega
 have t:mb∉aV p':=λhb=>by
  rcases d _ hb with h|h
  ·exact s4 h
  ·omega
 refine hK h7 p' c' ⟨?_,?_,⟨_,((M4.only O5 ak).only O6 s4).only O7 (by simpa using Ne.symm s5),q.push u⟩,s1,s2,o,t,s5⟩ ?_ d
 ·rw[Mv];exact A7
 ·rw[Mv,pN]
  exact l.only O7 λb hb=>by have:pi≠b:=λe=>o (by rw[hb,<-e];simp[aV]);simpa using Ne.symm this
 ·have g1:aM (pi::mb::aV p) h h4:=(O13.mono (T:=pi::mb::aV p) ak).trans O4 ak;exact((g1.trans O5 ak).trans O6 (λb hb _=>by simp[hb])).trans O7 ak
def Jd{L:List It}(P:dM h lo pi mb p c (L++[x]))(hl:L.length<100000)
  (hK: ∀h',dM h' lo pi mb p c L->aM [pi,mb] h h'->K (.iface 357 (.agg #[ap x.1,ap x.2])) h'):
  Cl 398 [au (aw pi)] h K:=by
 apply F398.spec;simp only[aL,LX,Ma];obtain⟨s1,s2,s3,s4,s5⟩:=P.sep;obtain⟨t,q,o⟩:=P.lt;have g:(L++[x]).length=L.length+1:=ak;obtain⟨b,ep,-⟩:=P.own.rd (j:=0) (by rw[dV];omega);subst ep
 have e: ∀k,k<(L.length+1)*2->rd h ⟨b,k,none⟩=(fd (L++[x]))[k]? :=by intro k hk;obtain⟨b',e1,e2⟩:=P.own.rd (j:=k) (by rw[dV];omega);injection e1 with e1;injection e1 with e1;subst e1;exact e2
 have ex:ct (L++[x]) L.length=x:=by simp[ct,List.getD]
 refine bF (by rw[P.at_.rd];rfl) (bF (by rw[P.at_.rd];rfl) ?_);rw[show ax (((L++[x]).length:Int)-(1:Int))=(L.length:Int) by rw[wrap_i64 ah ah];omega];simp only[aT,aL,LX,Ma,Md];refine⟨ah,ah,aH (n:=x.1) (by rw[e _ ah,ii ah,ex]) (aH (n:=x.2) (by rw[e _ ah,iy ah,ex]) ?_)⟩;refine aW λh1 A1 O1 z1=>aU A1 ak rfl λh2 A2 O2 z2=>aU A2 ak rfl λh3 A3 O3 z3=> ?_;have A3:At h3 h.size [ap x.1,ap x.2]:=A3;have O13:aM [] h h3:=O1.nil (O2.trans O3 ak) ak;have P3:=P.only O13 ak ak ak
 have m:L.length<=c:=by
  obtain⟨-,H⟩:=P.own;rcases H with⟨h1,-⟩|⟨b',sp,h1,h2,h3,h4,h5⟩
  ·cases h1
  ·omega
 refine bF (by rw[P3.at_.rd];rfl) ⟨ah,ah,?_⟩
 rw[show(if c=0 then(some (aw b):az)else Option.map (λa=>Addr.add a (0*2)) (some (aw b)))=some (aw b) by
  split
  ·rfl
  ·simp[Addr.add]]
 rw[Of,Of];refine aU P3.at_ ak rfl λh4 A4 O4 z4=> ?_;obtain⟨f,hf,l⟩:=P3.map;have f4:=hf.only O4 (by simpa using Ne.symm s5);have B4:=A3.only O4 (by simp;omega);refine mA (by rw[A4.rd];rfl) (aH (n:=x.1) (by rw[B4.rd];rfl) (BQ f4 λh5 M5 O5 z5=> ?_));have B5:=B4.only O5 (by simp;omega);refine aH (n:=x.1) (by rw[B5.rd];rfl) (aH (n:=x.2) (by rw[B5.rd];rfl) ?_);refine hK h5 ⟨A4.only O5 (by simpa using s5),?_,⟨_,M5,l.pop⟩,P.sep⟩ ?_
 ·have d:=P3.own;rw[g]at d
  exact((d.cut).only O4 λy hy=>by
   injection hy with hy;injection hy with hy;subst hy;simp only[aV,LZ]at s3
   simpa using Ne.symm s3).only O5 λy hy=>by injection hy with hy;injection hy with hy;subst hy;simp only[aV,LZ]at s4;simpa using Ne.symm s4
 ·exact((O13.mono (T:=[pi,mb]) ak).trans O4 ak).trans O5 ak
def ff.congr(H:ff L n)(e: ∀k,k<n->ct M k=ct L k):ff M n:=by
 intro k h0 h1;have hp:dG k<k:=by unfold dG;omega
 unfold kB;rw[e k h1,e (dG k) ah];exact H k h0 h1
def va{L:List It}(h:L.length=n+1): ∃M x,L=M++[x]/\M.length=n/\x=ct L n:=by
 have a:L≠[]:=by intro e;rw[e]at h;cases h
 refine⟨L.dropLast,L.getLast a,(ON a).symm,by simp[h],?_⟩;rw[List.getLast_eq_getElem,<-CV]
 ·congr 1
  omega
 ·omega
def Ej{M:List It}(hk:k<M.length):ct (M++[x]) k=ct M k:=by simp[ct,List.getD,Mo hk]
def Le{L:List It}(hl:L.length<100000)(hn:n<=L.length): ∀(j:Nat) {L':List It} {h':aI},dM h' lo pi mb p c L'->L'.Perm L->Ap L' n j->j<n->aM (mb::aV p) h h'->(∀k,n<=k->ct L' k=ct L k)->
  (∀h' L',dM h' lo pi mb p c L'->L'.Perm L->ff L' n->(∀k,n<=k->ct L' k=ct L k)->aM (mb::aV p) h h'->K aE h')-> ∀g,j<g->F339.wL0 g (aw pi) (j:Int) h' K:=by
 intro j
 induction j using Nat.strongRecOn with
 |_ j ih=>
  intro L' h' P hp U hj O a hK g hg;obtain⟨g,rfl⟩: ∃g',g=g'+1:=⟨g-1,ah⟩;have f:=hp.length_eq;rw[F339.sL0];refine⟨by decide,?_⟩;by_cases h0:j=0
  ·subst h0;rw[show((ax (Int.tdiv (ax (((0:Nat):Int)-(1:Int))) (2:Int)))==((0:Nat):Int))=true from rfl,aO];exact hK h' L' P hp (U.done (Or.inl rfl)) a O
  ·have e:ax (Int.tdiv (ax ((j:Int)-(1:Int))) (2:Int))=((dG j:Nat):Int):=by
    rw[wrap_i64 (n:=(j:Int)-1) ah ah,NT ah];unfold dG;rw[wrap_i64 ah ah];omega
   have d:dG j<j:=by unfold dG;omega
   rw[e,show(((dG j:Nat):Int)==(j:Int))=false by simp;omega,aK];refine vd P ah ah λh1 P1 O1=>a8 rfl ?_;cases hb:kJ (ct L' j) (ct L' (dG j))with
   |false=>
    rw[MS,aO];exact hK h1 L' P1 hp (U.done (Or.inr hb)) a (O.trans O1 ak)
   |true=>
    rw[MF,aK];refine vM P1 ah ah λh2 P2 O2=>⟨rfl,?_⟩;refine ih (dG j) d P2 ((kR ah ah).trans hp) (U.step ah hj ah hb) ah ((O.trans O1 ak).trans O2 λb hb _=>hb) (λk hk=> ?_) hK g ah;rw[iG ah ah,LY ah,LY ah];exact a k hk
def CJ{L:List It}(P:dM h lo pi mb p c L)(hl:L.length<100000)(hn:n<=L.length)(U:Ap L n j)(hj:j<n)
  (hK: ∀h' L',dM h' lo pi mb p c L'->L'.Perm L->ff L' n->(∀k,n<=k->ct L' k=ct L k)->aM (mb::aV p) h h'->K aE h'):
  Cl 339 [.iface 370 (au (aw pi)),ap (j:Int)] h K:=by
 apply F339.spec;exact⟨j+1,Le hl hn j P (PD _) U hj (aM.refl _ _) (λ_ _=>rfl) hK (j+1) ah⟩
def Gg{L:List It}(hl:L.length<100000)(hn:n<=L.length)
  (hK: ∀h' L' mv,dM h' lo pi mb p c L'->L'.Perm L->(mv=true->ff L' n)->(mv=false->Ap L' n i0)->(∀k,n<=k->ct L' k=ct L k)->aM (mb::aV p) h h'->K (aD mv) h'):
  ∀(d i:Nat) {L':List It} {h':aI},n-i<=d->dM h' lo pi mb p c L'->L'.Perm L->nB L' n i0 i->i<=L.length->aM (mb::aV p) h h'->(∀k,n<=k->ct L' k=ct L k)->F358.wL2 (d+1) (aw pi) (i0:Int) (n:Int) (i:Int) h' K:=by
 intro d
 induction d with
 |zero=>
  intro i L' h' hd P hp D hi O a;rw[F358.sL2]
  have e1:ax ((ax ((2:Int)*(i:Int)))+(1:Int))=((2*i+1:Nat):Int):=by rw[wrap_i64 (n:=(2:Int)*(i:Int)) ah ah,wrap_i64 ah ah];omega
  rw[e1,Mg ah,aO];unfold F358.wk11;obtain⟨d1,d2⟩:=D.done (λk h0 h1 hk=>by unfold dG at hk;omega);have le:=D.le;refine hK h' L' _ P hp (λe=>d1 ?_) (λe=>d2 ?_) a O
  ·have:=Mn e;omega
  ·have:=Me e;omega
 |succ d ih=>
  intro i L' h' hd P hp D hi O a;have m:=hp.length_eq;have le:=D.le;rw[F358.sL2]
  have e1:ax ((ax ((2:Int)*(i:Int)))+(1:Int))=((2*i+1:Nat):Int):=by rw[wrap_i64 (n:=(2:Int)*(i:Int)) ah ah,wrap_i64 ah ah];omega
  rw[e1]
  have stop: ∀h',dM h' lo pi mb p c L'->aM (mb::aV p) h h'->(∀k,0<k->k<n->dG k=i->kB L' k)->F358.wk11 (i0:Int) (i:Int) h' K:=by
   intro h' P' O' hc;unfold F358.wk11;obtain⟨d1,d2⟩:=D.done hc;refine hK h' L' _ P' hp (λe=>d1 ?_) (λe=>d2 ?_) a O'
   ·have:=Mn e;omega
   ·have:=Me e;omega
  by_cases hj1:n<=2*i+1
  ·rw[Mg ah,aO];exact stop h' P O (λk h0 h1 hk=>by unfold dG at hk;omega)
  ·rw[L7 ah,aK,L7 ah,aK];rw[show ax (((2*i+1:Nat):Int)+(1:Int))=((2*i+2:Nat):Int) by rw[wrap_i64 ah ah];omega]
   have go: ∀(jj:Nat) (h':aI),dM h' lo pi mb p c L'->aM (mb::aV p) h h'->jj<n->0<jj->dG jj=i->(∀k,0<k->k<n->dG k=i->kJ (ct L' k) (ct L' jj)=false)->
     F358.wk8 (λx0 x1 x2 x7 h=>F358.wL2 (d+1) x0 x1 x2 x7 h K) (aw pi) (i0:Int) (n:Int) (i:Int) (jj:Int) h' K:=by
    intro jj h' P' O' g l f hc;have o:i<jj:=by rw[<-f];unfold dG;omega
    unfold F358.wk8;refine vd P' ah ah λh1 P1 O1=>a8 rfl ?_;cases hb:kJ (ct L' jj) (ct L' i)with
    |false=>
     rw[MS,aO];refine stop h1 P1 (O'.trans O1 ak) λk h0 h1 hk=> ?_;unfold kB;rw[hk];exact oI (hc k h0 h1 hk) hb
    |true=>
     rw[MF,aK];refine vM P1 ah ah λh2 P2 O2=>⟨rfl,?_⟩;refine ih jj ah P2 ((kR ah ah).trans hp) (D.step g ah l f hb hc) ah ((O'.trans O1 ak).trans O2 λb hb _=>hb) (λk hk=> ?_);rw[iG ah ah,LY ah,LY ah];exact a k hk
   by_cases hj2:2*i+2<n
   ·rw[Mg ah,aO];refine vd P ah ah λh1 P1 O1=>a8 rfl ?_;cases hb:kJ (ct L' (2*i+2)) (ct L' (2*i+1))with
    |true=>
     rw[aO];refine go (2*i+2) h1 P1 (O.trans O1 ak) hj2 ah (by unfold dG;omega) λk h0 h1 hk=> ?_;have:k=2*i+1\/k=2*i+2:=by unfold dG at hk;omega
     rcases this with rfl|rfl
     ·exact oL hb
     ·exact pV _
    |false=>
     rw[aK];refine go (2*i+1) h1 P1 (O.trans O1 ak) ah ah (by unfold dG;omega) λk h0 h1 hk=> ?_;have:k=2*i+1\/k=2*i+2:=by unfold dG at hk;omega
     rcases this with rfl|rfl
     ·exact pV _
     ·exact hb
   ·rw[L7 ah,aK];refine go (2*i+1) h' P O ah ah (by unfold dG;omega) λk h0 h1 hk=> ?_;have:k=2*i+1:=by unfold dG at hk;omega
    subst this;exact pV _
def xO{L:List It}(P:dM h lo pi mb p c L)(hl:L.length<100000)(hn:n<=L.length)(hi:i0<=L.length)(D:nB L n i0 i0)
  (hK: ∀h' L' mv,dM h' lo pi mb p c L'->L'.Perm L->(mv=true->ff L' n)->(mv=false->Ap L' n i0)->(∀k,n<=k->ct L' k=ct L k)->aM (mb::aV p) h h'->K (aD mv) h'):
  Cl 358 [.iface 370 (au (aw pi)),ap (i0:Int),ap (n:Int)] h K:=by
 apply F358.spec;unfold F358.wk2;exact⟨n+1,Gg hl hn hK n i0 ah P (PD _) D hi (aM.refl _ _) λ_ _=>rfl⟩
def FW{h:aI}{L:List It}(P:dM h lo pi mb p c L)(H:ff L L.length)(hx: ∀k,k<L.length->(ct L k).1≠x.1)(hl:L.length<90000)(f:lo<=h.size)
  (hK: ∀h' p' c' L',dM h' lo pi mb p' c' L'->L'.Perm (L++[x])->ff L' L'.length->aM (pi::mb::aV p) h h'->(∀b∈aV p',b∈aV p\/h.size<=b)->K aE h'):
  Cl 309 [.iface 370 (au (aw pi)),.iface 357 (.agg #[ap x.1,ap x.2])] h K:=by
 apply F309.spec;refine Hc P hx ah f λh1 p1 c1 P1 O1 d=>⟨rfl,zU P1 (aH rfl ?_)⟩;have e:(L++[x]).length=L.length+1:=ak;rw[show ax (((L++[x]).length:Int)-(1:Int))=(L.length:Int) by rw[wrap_i64 ah ah];omega];refine CJ (n:=L.length+1) P1 ah ah (BN H) ah λh2 L2 P2 p2 H2 _ O2=>⟨rfl,?_⟩;have a:=p2.length_eq;refine hK h2 p1 c1 L2 P2 p2 (by rw[a,e];exact H2) (O1.trans O2 λb hb g=> ?_) d;simp only[List.mem_cons]at hb ⊢;rcases hb with hb|hb
 ·exact Or.inr (Or.inl hb)
 ·rcases d b hb with h3|h3
  ·exact Or.inr (Or.inr h3)
  ·omega
def GV{h:aI}{lo pi mb:Nat}{p:az}{c:Nat}{L:List It}{K:KK}{x:It}{h1:aI}{L1:List It}(P1:dM h1 lo pi mb p c L1)(a:L1.length=L.length)(hL:L.length<100000)(p1:L1.Perm L)(H1:ff L1 (L.length-1))(b:0<L.length)(hx:ct L1 (L.length-1)=x)(O1:aM (mb::aV p) h h1)
  (hK: ∀h' M,dM h' lo pi mb p c M->(M++[x]).Perm L->ff M M.length->aM (pi::mb::aV p) h h'->K (.iface 357 (.agg #[ap x.1,ap x.2])) h'):
  Cl 398 [au (aw pi)] h1 (λv h2=>jX (some v) (λv'=>K v' h2)):=by
 obtain⟨M,y,e,hM,hy⟩:=va (L:=L1) (n:=L.length-1) ah;rw[hx]at hy;subst hy;subst e;refine Jd P1 ah λh2 P2 O2=> ?_;rw[c8];refine hK h2 M P2 p1 (ff.congr (L:=M++[y]) (by rw[hM];exact H1) λk hk=>(Ej hk).symm) ((O1.mono (T:=pi::mb::aV p) (by simp+contextual)).trans O2 (by simp+contextual))
def Je{L:List It}(P:dM h lo pi mb p c L)(H:ff L L.length)(hl:L.length<100000)(d:0<L.length)
  (hK: ∀h' M,dM h' lo pi mb p c M->(M++[ct L 0]).Perm L->ff M M.length->aM (pi::mb::aV p) h h'->K (.iface 357 (.agg #[ap (ct L 0).1,ap (ct L 0).2])) h'):
  Cl 341 [.iface 370 (au (aw pi))] h K:=by
 apply F341.spec;refine zU P (aH rfl ?_);rw[show ax ((L.length:Int)-(1:Int))=((L.length-1:Nat):Int) by rw[wrap_i64 ah ah];omega];rw[show(0:Int)=((0:Nat):Int)from rfl];refine vM P ah ah λh1 P1 O1=>⟨rfl,?_⟩;have sw:=iG (L:=L) (i:=0) (j:=L.length-1) ah ah
 have D:nB (gz L 0 (L.length-1)) (L.length-1) 0 0:=by
  refine⟨λk h0 h1 hk e=> ?_,λk h0 h1 hk hi=>ah,Mb _⟩;have hp:dG k<k:=by unfold dG;omega
  unfold kB;rw[sw k,sw (dG k),LY ah,LY ah,LY ah,LY ah];exact H k h0 ah
 refine xO P1 (by rw[eY];exact hl) (by rw[eY];omega) ah D λh2 L2 mv P2 p2 m1 m2 ge O2=>a8 rfl ?_;have a:=p2.length_eq;rw[eY]at a
 have H2:ff L2 (L.length-1):=by
  cases mv with
  |true=>exact m1 rfl
  |false=>exact(m2 rfl).done (Or.inl rfl)
 refine GV (x:=ct L 0) P2 a hl (p2.trans (kR ah ah)) H2 d ?_ (O1.trans O2 λb hb _=>hb) hK;rw[ge _ (Mb _),sw,L4 rfl]
def F310.spec(H:bg h (.cells #[ap 0,ap 0] 357) λc d=>Cl 340 [au a] d λa d=>aS .i64 (some a) λa=>aJ (a==0) (aY d ((aw c).add 0) (ap 0) λa=>aY a ((aw c).add 1) (ap 0) λa=>aS .i64 (rd a ((aw c).add 0)) λb=>aS .i64 (rd a ((aw c).add 1)) λc=>K (.tuple #[.agg #[ap b,ap c],aB]) a) (Cl 311 [au b] d λa b=> ∃d:Int,∃e:Int,a=(.agg #[ap d,ap e])/\aY b ((aw c).add 0) (ap d) λa=>aY a ((aw c).add 1) (ap e) λa=>aS .i64 (rd a ((aw c).add 0)) λb=>aS .i64 (rd a ((aw c).add 1)) λc=>K (.tuple #[.agg #[ap b,ap c],aC]) a)):Cl 310 [au a,.func (.func 311) #[au b] #[]] h K:=cN Tryz.func310 H
def F290.spec(H:bg h (.cells #[ap 0,ap 0] 357) λb c=>Cl 310 [au a,.func (.func 311) #[au a] #[]] c λa c=> ∃d:Int,∃e:Int,∃f:Bool,a=(.tuple #[.agg #[ap d,ap e],aD f])/\aY c ((aw b).add 0) (ap d) λa=>aY a ((aw b).add 1) (ap e) λa=>aS .i64 (rd a ((aw b).add 0)) λc=>aS .i64 (rd a ((aw b).add 1)) λb=>K (.tuple #[.agg #[ap c,ap b],aD f]) a):Cl 290 [au a] h K:=cN Tryz.func290 H
structure Qu(h:aI)(lo q pi mb:Nat)(p:az)(c:Nat)(L:List It):Prop where
 at_:At h q [au (aw pi)]
 pile:dM h lo pi mb p c L
 heap:ff L L.length
 sep:lo<=q/\q≠pi/\q≠mb/\q∉aV p
def Qu.only(H:Qu h lo q pi mb p c L)(O:aM S h h')(hS: ∀b∈q::pi::mb::aV p,b∉S):Qu h' lo q pi mb p c L:=
 ⟨H.at_.only O (hS _ ak),H.pile.only O (hS _ ak) (hS _ ak) (λb hb=>hS b (by simp[hb])),H.heap,H.sep⟩
def Qu.lt{h:aI}(H:Qu h lo q pi mb p c L): ∀b∈q::pi::mb::aV p,lo<=b/\b<h.size:=by
 intro b hb;obtain⟨s1,s2,s3,s4⟩:=H.sep;obtain⟨u1,u2,-⟩:=H.pile.sep;obtain⟨v1,v2,v3⟩:=H.pile.lt;simp only[List.mem_cons]at hb;rcases hb with rfl|rfl|rfl|hb
 ·exact⟨s1,H.at_.lt⟩
 ·exact⟨u1,v1⟩
 ·exact⟨u2,v2⟩
 ·exact v3 b hb
def AW(L:List It)(id:Int):Prop:= ∃k,k<L.length/\(ct L k).1=id
def AU(v:Value)(K:Value->Prop):lP Tryz.prog 357 false (.iface 357 v) K=K v:=by kernel_rfl
def Em(b:Nat)(n m:Int)(h:aI)(K:aI->Prop):du Tryz.prog 357 (some (aw b)) (.agg #[ap n,ap m]) h K=aY h (Addr.add (aw b) 0) (ap n) (λh1=>aY h1 (Addr.add (aw b) 1) (ap m) K):=by kernel_rfl
def GF{h:aI}(hK: ∀q pi mb h',Qu h' h.size q pi mb none 0 []->aM [] h h'->K (au (aw q)) h'):Cl 288 [] h K:=by
 apply F288.spec;have O1:=aM.push_map h #[] 0;have m1:mp (h.push (.map #[] 0)) h.size=some (#[],0):=by simp[mp]
 have z1:(h.push (.map #[] 0)).size=h.size+1:=ak;show(λb1 h2=>bg h2 (.cells #[(.slice none 0 0),(.map (some b1))] 374) (λb3 h4=>bg h4 (.cells #[(au (aw b3))] 376) (λb5 h6=>K (au (aw b5)) h6))) h.size (h.push (.map #[] 0));generalize h.push (.map #[] 0)=h1 at*
 refine aW λh2 A2 O2 z2=>aW λh3 A3 O3 z3=> ?_;have M1:bV h1 h.size .i64 []:=bV.empty m1;have M3:=(M1.only O2 ak).only O3 ak;refine hK h2.size h1.size h.size h3 ⟨A3,⟨A2.only O3 ak,cy.nil _ _ _,⟨λ_=>none,⟨[],M3,λx=>rfl⟩,λid i=>ak⟩,ah,ah,by simp[aV],by simp[aV],ah⟩,λk h0 h1=>by simp at h1,ah,ah,ah,by simp[aV]⟩ ((O1.trans O2 ak).trans O3 ak)
def Dg{h:aI}{lo pi mb:Nat}{p:az}{c:Nat}{L:List It}{id:Int}{K:Option (Nat×Value)->Prop}(Q:dM h lo pi mb p c L)(hN: ¬AW L id->K none)(hS: ∀i k,k<L.length->(ct L k).1=id->K (some (i,ap (k:Int)))):dT h (some mb) .i64 .i64 id K:=by
 obtain⟨f,hf,d⟩:=Q.map;refine yG hf (λe=>hN ?_) λi k e=> ?_
 ·rintro ⟨k,hk,g⟩;rw[(d id k).2 ⟨hk,g⟩]at e;cases e
 ·obtain⟨a,b⟩:=(d id k).1 e;exact hS i k a b
def Ed{h:aI}{L:List It}(Q:Qu h lo q pi mb p c L)(hl:L.length<90000)(g:lo<=h.size)(hT:AW L x.1->K aB h)
  (hF: ¬AW L x.1-> ∀h' p' c' L',Qu h' lo q pi mb p' c' L'->L'.Perm (L++[x])->aM (pi::mb::aV p) h h'->(∀b∈aV p',b∈aV p\/h.size<=b)->K aC h'):
  Cl 289 [au (aw q),ap x.1,ap x.2] h K:=by
 apply F289.spec;simp only[aL,LX];obtain⟨s1,s2,s3,s4⟩:=Q.sep;refine aQ (by rw[Q.at_.rd];rfl) ?_;simp only[aT,aL,LX];refine mA (by rw[Q.pile.at_.rd];rfl) (Dg Q.pile (λhn=>aH rfl ?_) λi k hk f=>aH rfl ?_)
 ·rw[Option.isSome_none,aK];refine aQ (by rw[Q.at_.rd];rfl) (FW Q.pile Q.heap (λk hk e=>hn ⟨k,hk,e⟩) hl g λh1 p1 c1 L1 P1 d H1 O1 a=>⟨rfl,?_⟩);have hq:=Q.at_.lt;refine hF hn h1 p1 c1 L1 ⟨Q.at_.only O1 (by simp[s2,s3,s4]),P1,H1,s1,s2,s3,λhb=> ?_⟩ d O1 a;rcases a q hb with h3|h3
  ·exact s4 h3
  ·omega
 ·rw[Option.isSome_some,aO];exact hT ⟨k,hk,f⟩
def GM{L:List It}(Q:Qu h lo q pi mb p c L)(hK:K (ap (L.length:Int)) h):Cl 340 [au (aw q)] h K:=by apply F340.spec;simp only[aL,LX];exact aQ (by rw[Q.at_.rd];rfl) (zU Q.pile (aH rfl hK))
def Bi{L:List It}(Q:Qu h lo q pi mb p c L)(hl:L.length<90000)(d:0<L.length)
  (hK: ∀h' M,Qu h' lo q pi mb p c M->(M++[ct L 0]).Perm L->aM (pi::mb::aV p) h h'->K (.agg #[ap (ct L 0).1,ap (ct L 0).2]) h'):Cl 311 [au (aw q)] h K:=by
 apply F311.spec;simp only[aL,LX];have lt:=Q.lt;obtain⟨s1,s2,s3,s4⟩:=Q.sep;refine aW λh1 A1 O1 z1=> ?_;have Q1:=Q.only O1 ak;refine aQ (by rw[Q1.at_.rd];rfl) (Je Q1.pile Q1.heap ah d λh2 M P2 p2 H2 O2=> ?_);rw[c8,AU,Em]
 have a:h.size∉pi::mb::aV p:=λhb=>by have:=(lt h.size (My _ hb)).2;omega
 simp only[aL,LX,Ma];refine aU (A1.only O2 a) ak rfl λh3 A3 O3 z3=>aU A3 ak rfl λh4 A4 O4 z4=> ?_;refine aH (n:=(ct L 0).1) (by rw[A4.rd];rfl) (aH (n:=(ct L 0).2) (by rw[A4.rd];rfl) ?_);have O34:=O3.trans O4 ak;have Q2:Qu h2 lo q pi mb p c M:=⟨Q1.at_.only O2 (by simp[s2,s3,s4]),P2,H2,s1,s2,s3,s4⟩;refine hK h4 M (Q2.only O34 λb hb=> ?_) p2 ?_
 ·have:=(lt b hb).2;simp;omega
 ·exact((O1.mono (T:=pi::mb::aV p) ak).trans O2 λb hb _=>hb).trans O34 ak
def GJ{L:List It}(Q:Qu h lo q pi mb p c L)(hl:L.length<90000)(hN:L=[]-> ∀h',Qu h' lo q pi mb p c []->aM [] h h'->K (.tuple #[.agg #[ap 0,ap 0],aB]) h')
  (hK: ∀h' M,0<L.length->Qu h' lo q pi mb p c M->(M++[ct L 0]).Perm L->aM (pi::mb::aV p) h h'->K (.tuple #[.agg #[ap (ct L 0).1,ap (ct L 0).2],aC]) h'):Cl 290 [au (aw q)] h K:=by
 apply F290.spec;have lt:=Q.lt;refine aW λh1 A1 O1 z1=> ?_;have Q1:=Q.only O1 ak;apply F310.spec;refine aW λh2 A2 O2 z2=> ?_;have Q2:=Q1.only O2 ak;simp only[aL,LX];refine GM Q2 (aH rfl ?_)
 have a: ∀{h3 h4:aI} {M:List It} {x:Nat},Qu h3 lo q pi mb p c M->aM [x] h3 h4->h.size<=x->Qu h4 lo q pi mb p c M:=λQ3 O hx=>Q3.only O λb hb=>by have:=(lt b hb).2;simp;omega
 have B2:=A1.only O2 ak;by_cases hL:L=[]
 ·subst hL;rw[show(((([]:List It).length:Int))==(0:Int))=true from rfl,aO];refine aU A2 ak rfl λh3 A3 O3 z3=>aU A3 ak rfl λh4 A4 O4 z4=> ?_;refine aH (n:=0) (by rw[A4.rd];rfl) (aH (n:=0) (by rw[A4.rd];rfl) ⟨_,_,_,rfl,?_⟩);have O34:=O3.trans O4 ak;refine aU (B2.only O34 (by simp;omega)) ak rfl λh5 A5 O5 z5=>aU A5 ak rfl λh6 A6 O6 z6=> ?_;refine aH (n:=0) (by rw[A6.rd];rfl) (aH (n:=0) (by rw[A6.rd];rfl) ?_);have O56:=O5.trans O6 ak;exact hN rfl h6 (a (a Q2 O34 ah) O56 ah) (((O1.trans O2 ak).nil O34 (by simp;omega)).nil O56 ak)
 ·have d:0<L.length:=List.length_pos_iff.2 hL;rw[show((L.length:Int)==(0:Int))=false by simp;omega,aK];refine Bi Q2 hl d λh3 M Q3 p3 O3=>⟨_,_,rfl,?_⟩
  have e: ∀x,h.size<=x->x∉pi::mb::aV p:=λx hx hb=>by have:=(lt x (My _ hb)).2;omega
  refine aU (A2.only O3 (e _ ah)) ak rfl λh4 A4 O4 z4=>aU A4 ak rfl λh5 A5 O5 z5=> ?_;refine aH (n:=(ct L 0).1) (by rw[A5.rd];rfl) (aH (n:=(ct L 0).2) (by rw[A5.rd];rfl) ⟨_,_,_,rfl,?_⟩);have O45:=O4.trans O5 ak;refine aU ((B2.only O3 (e _ ah)).only O45 (by simp;omega)) ak rfl λh6 A6 O6 z6=>aU A6 ak rfl λh7 A7 O7 z7=> ?_;refine aH (n:=(ct L 0).1) (by rw[A7.rd];rfl) (aH (n:=(ct L 0).2) (by rw[A7.rd];rfl) ?_);have O67:=O6.trans O7 ak;refine hK h7 M d (a (a Q3 O45 ah) O67 ah) p3 ?_;have g1:aM (pi::mb::aV p) h h3:=((O1.trans O2 ak).mono (T:=pi::mb::aV p) ak).trans O3 λb hb _=>hb;exact(g1.trans O45 (by simp;omega)).trans O67 ak
def HK:bR X 290=some cH.go:=by kernel_rfl
structure Pl(h0 k:aI)(n lo q pi mb:Nat)(pp:az)(cc:Nat)(M:List It)(zp:az)(zc:Nat)(zs:List Int):Prop where
 Q:Qu k lo q pi mb pp cc M
 W:cy k h0.size 1 zp zs.length zc (zs.map (Value.int .i64))
 d: ∀y∈aV zp,y∉q::pi::mb::aV pp
 O:aM [] h0 k
 l:h0.size<=lo
 mi: ∀x∈M,∃i:Nat,i<n/\x.1=(i:Int)
 zi: ∀z∈zs,∃i:Nat,i<n/\z=(i:Int)
 len:M.length+zs.length<=50
def Pl.only0(P:Pl h0 h n lo q pi mb pp cc M zp zc zs)(O:aM [] h h'):Pl h0 h' n lo q pi mb pp cc M zp zc zs:=
 ⟨P.Q.only O (λb hb=>ak),P.W.only O ak,P.d,P.O.trans O ak,P.l,P.mi,P.zi,P.len⟩
def Pl.onlyB{h0:aI}(P:Pl h0 h n lo q pi mb pp cc M zp zc zs)(O:aM [b] h h')(hb:h0.size<=b)(h1:b∉q::pi::mb::aV pp)(h2:b∉aV zp):Pl h0 h' n lo q pi mb pp cc M zp zc zs:=
 ⟨P.Q.only O (λy hy hm=>by simp only[LZ]at hm;subst hm;exact h1 hy),P.W.only O (λy e hm=>by simp only[LZ]at hm;subst hm;exact h2 (by rw[e];simp[aV])),P.d,P.O.trans O (λy hy hl=>by simp only[LZ]at hy;omega),P.l,P.mi,P.zi,P.len⟩
def Pl.lt{h:aI}(P:Pl h0 h n lo q pi mb pp cc M zp zc zs):(∀y∈q::pi::mb::aV pp,y<h.size)/\ ∀y∈aV zp,y<h.size:=⟨λy hy=>(P.Q.lt y hy).2,λy hy=>(P.W.lt y hy).2⟩
def Ao{M:List It}(P:Pl h0 h n lo q pi mb pp cc M zp zc zs)(hN: ∀h',Pl h0 h' n lo q pi mb pp cc [] zp zc zs->aM [] h h'->K (.tuple #[.agg #[ap 0,ap 0],aB]) h')
  (hK: ∀h' M' (i:Nat) (z:Int),i<n->M'.length+1=M.length->Pl h0 h' n lo q pi mb pp cc M' zp zc zs->aM (pi::mb::aV pp) h h'->K (.tuple #[.agg #[ap (i:Int),ap z],aC]) h'):
  Cl 290 [au (aw q)] h K:=by
 have pl:=P.len;refine GJ P.Q ah (λe h1 Q1 O1=> ?_) λh1 M1 hl Q1 pm O1=> ?_
 ·subst e;exact hN h1 ⟨Q1,P.W.only O1 ak,P.d,P.O.trans O1 ak,P.l,P.mi,P.zi,P.len⟩ O1
 ·have e1:M1.length+1=M.length:=by
   have:=pm.length_eq;simpa using this
  have m0:ct M 0∈M:=pm.subset ak;obtain⟨i,hi,ei⟩:=P.mi _ m0;rw[ei];refine hK h1 M1 i _ hi e1 ⟨Q1,P.W.only O1 λy e hm=>P.d y (by rw[e];simp[aV]) (My _ hm),P.d,P.O.trans O1 λy hy hl=>by have:=(P.Q.lt y (My _ hy)).1;have:=P.l;omega,P.l,λx hx=>P.mi x (pm.subset (by simp[hx])),P.zi,ah⟩ O1
def Kx{h0:aI}(hK: ∀(h':aI) (zp:az) (zc:Nat) (zs:List Int),cy h' h0.size 1 zp zs.length zc (zs.map (Value.int .i64))->(∀z∈zs,∃i:Nat,i<n/\z=(i:Int))->zs.length<=50->aM [] h0 h'->K (.tuple #[.slice zp zs.length zc,ap 0]) h'):
  ∀(a:Nat) {h:aI} {M:List It} {zp:az} {zc:Nat} {zs:List Int} {b:Nat} {t:Bool},1<=a->(t=true->M.length+2<=a)->Pl h0 h n lo q pi mb pp cc M zp zc zs->(t=true->zs.length+M.length<50/\(∃i:Nat,i<n/\ ∃z:Int,At h b [ap (i:Int),ap z])/\b∉aV zp)->
   F256.wL14 a zp zs.length zc (.func (.func 290) #[au (aw q)] #[]) (aw b) t h K:=by
 intro a
 induction a with
 |zero=>intro h M zp zc zs b t hg;omega
 |succ a ih=>
  intro h M zp zc zs b t _ hg P ht;rw[F256.sL14];cases t with
  |false=>
   rw[aK];exact hK h zp zc zs P.W P.zi (by have:=P.len;omega) P.O
  |true=>
   have hg:=hg rfl;obtain⟨hz,⟨i,hi,z,A⟩,nb⟩:=ht rfl;rw[aO];simp only[aL,LX];refine aH (n:=(i:Int)) (by rw[At.rd A];rfl) (aW λh3 A3 O3 z3=> ?_);have P3:=P.only0 O3;have l3:=P3.lt;have s0:=P3.O.size;refine im (new:=[ap (i:Int)]) (q:=some (aw h.size)) P3.W rfl (fg A3 ak) rfl ah (by simp[Value.oneCell']) ah λf B h7 W7 O7 g7=> ?_;have e9:zs.map (Value.int .i64)++[ap (i:Int)]=(zs++[(i:Int)]).map (Value.int .i64):=ak;have g:zs.length+1=(zs++[(i:Int)]).length:=ak;rw[e9,g]at W7;rw[g]
   have P7:Pl h0 h7 n lo q pi mb pp cc M f B (zs++[(i:Int)]):=by
    refine⟨P3.Q.only O7 λy hy hm=>P3.d y hm hy,W7,λy hy hm=> ?_,P3.O.trans O7 λy hy hl=>by have:=(P3.W.lt y hy).1;omega,P3.l,P3.mi,λw hw=> ?_,by simp;omega⟩
    ·rcases g7 y hy with q|q
     ·exact P3.d y q hm
     ·have:=l3.1 y hm;omega
    ·rcases Zq hw with q|q
     ·exact P3.zi w q
     ·simp only[LZ]at q;exact⟨i,hi,q⟩
   have A7:=(A.only O3 ak).only O7 nb
   have I:b∉aV f:=λhm=>by
    rcases g7 b hm with q|q
    ·exact nb q
    ·have:=(A.only O3 ak).lt;omega
   refine aH (n:=(i:Int)) (by rw[At.rd A7];rfl) (aH (n:=z) (by rw[At.rd A7];rfl) (aW λN A11 O11 G=> ?_));have P11:=P7.only0 O11;have l7:=P7.lt;have s7:=P7.O.size;have n1:h7.size∉q::pi::mb::aV pp:=λhm=>by have:=l7.1 _ hm;omega
   have n2:h7.size∉aV f:=λhm=>by have:=l7.2 _ hm;omega
   refine aU A11 ak rfl λD A12 O12 J=>aU A12 ak rfl λF A13 O13 H=> ?_;have P13:=(P11.onlyB O12 ah n1 n2).onlyB O13 ah n1 n2;refine bj HK (Ao P13 (λj P15 O15=>⟨_,_,_,rfl,?_⟩) λj M' i' z' u hM P15 O15=>⟨_,_,_,rfl,?_⟩)
   ·have A15:=A13.only O15 ak;refine aU A15 ak rfl λx A16 O16 o=>aU A16 ak rfl λC A17 O17 m=> ?_;exact ih ah (λe=>by cases e) ((P15.onlyB O16 ah n1 n2).onlyB O17 ah n1 n2) λe=>by cases e
   ·have A15:=A13.only O15 λhm=>n1 (My _ hm);refine aU A15 ak rfl λx A16 O16 o=>aU A16 ak rfl λC A17 O17 m=> ?_;exact ih ah (λ_=>ah) ((P15.onlyB O16 ah n1 n2).onlyB O17 ah n1 n2) λ_=>⟨by simp;omega,⟨i',u,z',A17⟩,n2⟩
def Ip{h:aI}{rs:List Nat}(S:nO h s n room fo gg off N L rs G lo p c)
  (hK: ∀(h':aI) (zp:az) (zc:Nat) (zs:List Int),cy h' h.size 1 zp zs.length zc (zs.map (Value.int .i64))->(∀z∈zs,∃i:Nat,i<n/\z=(i:Int))->zs.length<=50->aM [] h h'->K (.tuple #[.slice zp zs.length zc,ap 0]) h'):
  Cl 256 [bf s,.slice p rs.length c] h K:=by
 have ok:=S.S.ok;dsimp only[XL]at ok;have n8:=ok.2.2.1;refine F256.spec _ _ _ _ h K ?_;refine rn S.S S.Ow (λr hr=>(S.ir r hr).1) S.rl λh1 b g A1 gb sem g4 O1=>⟨_,_,_,_,rfl,?_⟩;rw[show((0:Int) !=0)=false from rfl,aK];have S1:=S.only0 O1;refine GF λq pi mb h2 Q2 O2=>aQ rfl ?_;have S2:=S1.only0 O2;refine eX S2.S λoc h3 Or g3 O3=>aQ rfl ?_;have s1:=O1.size;have s2:=O2.size;have s3:=O3.size;have lA:=A1.lt;unfold F256.wk7
 have a: ∀(d l:Nat) (k:aI) (pp:az) (cc:Nat) (M:List It),l+d=n->Pl h k n h1.size q pi mb pp cc M none 0 []->M.length<=l->At k b (zL n g)->cL k oc n fo gg->oc∉q::pi::mb::aV pp->oc<k.size->
   F256.wL7 (d+1) (some (aw q)) (some (aw oc)) (some (aw b)) n n (n:Int) (l:Int) k K:=by
  intro d
  induction d with
  |zero=>
   intro l k pp cc M hl P hM A Or no lo;rw[F256.sL7];rw[L7 ah,aK];unfold F256.wk11
   have fin: ∀(k2:aI) (M2:List It) (i z:Int) (t:Bool),Pl h k2 n h1.size q pi mb pp cc M2 none 0 []->M2.length<=20->(t=true-> ∃j:Nat,j<n/\i=(j:Int))->bg k2 (.cells #[(ap (0:Int)),(ap (0:Int))] 357) (λb8 h9=>aY h9 (Addr.add (aw b8) 0) (ap i) (λm=>aY m (Addr.add (aw b8) 1) (ap z) (λo=>F256.wk14 none 0 0 (.func (.func 290) #[(au (aw q))] #[]) (aw b8) t o K))):=by
    intro k2 M2 i z t P2 B hj;refine aW λk3 B3 P3 y3=> ?_;have l2:=P2.lt;have s2:=P2.O.size;simp only[aL,LX];have n1:k2.size∉q::pi::mb::aV pp:=λhm=>by have:=l2.1 _ hm;omega
    refine aU B3 ak rfl λk4 B4 P4 y4=>aU B4 ak rfl λk5 B5 P5 y5=> ?_;have PP:=((P2.only0 P3).onlyB P4 ah n1 (by simp[aV])).onlyB P5 ah n1 (by simp[aV]);unfold F256.wk14;refine⟨30,Kx (zs:=[]) hK 30 ah (λ_=>ah) PP λe=>⟨by simp;omega,?_,by simp[aV]⟩⟩;obtain⟨j,f,ej⟩:=hj e;subst ej;exact⟨j,f,z,B5⟩
   exact Ao P (λk2 P2 O2=>⟨_,_,_,rfl,fin k2 [] 0 0 false P2 ak λe=>by cases e⟩) λk2 M2 i z hi u P2 O2=>⟨_,_,_,rfl,fin k2 M2 (i:Int) z true P2 ah λ_=>⟨i,hi,rfl⟩⟩
  |succ d ih=>
   intro l k pp cc M hl P hM A Or no lo;rw[F256.sL7];rw[Mg ah,aO,aT];refine⟨ah,ah,?_⟩;rw[aL,LX,Md,MU];refine aH (n:=(g l:Int)) (by rw[At.rd A,pI ah]) (nZ Or n8 ah (aH rfl ?_));have ew:ax ((l:Int)+1)=((l+1:Nat):Int):=by rw[wrap_i64 ah ah];omega
   rw[ew];have fl:=(S.P.2 l ah).1;have pz:=P.O.size;refine Ed (x:=((fo l:Int),(g l:Int))) P.Q (by have:=P.len;omega) (by have:=P.Q.sep.1;have:=P.Q.at_.lt;omega) (λ_=>a8 rfl (ih (l+1) k pp cc M ah P ah A Or no lo)) λ_ k2 p2 c2 M2 Q2 pm O2 own=>a8 rfl ?_;have lt:=P.lt;have bA:=A.lt;have hb:b∉pi::mb::aV pp:=λhm=>by have:=(P.Q.lt b (My _ hm)).1;omega
   have lM:M2.length=M.length+1:=by have:=pm.length_eq;simpa using this
   refine ih (l+1) k2 p2 c2 M2 ah ⟨Q2,cy.nil _ _ _,λy hy=>(by simp[aV]at hy),P.O.trans O2 λy hy hl=>by have:=(P.Q.lt y (My _ hy)).1;omega,P.l,λx hx=> ?_,λz hz=>(by cases hz),by simp;omega⟩ ah (A.only O2 hb) (Or.only O2 λhm=>no (My _ hm)) (λhm=> ?_) (by have:=O2.size;omega)
   ·rcases Zq (pm.subset hx)with q|q
    ·exact P.mi x q
    ·simp only[LZ]at q;subst q;exact⟨fo l,fl,rfl⟩
   ·rcases List.mem_cons.1 hm with q|q
    ·exact no (by rw[q];simp)
    ·rcases List.mem_cons.1 q with q|q
     ·exact no (by rw[q];simp)
     ·rcases List.mem_cons.1 q with q|q
      ·exact no (by rw[q];simp)
      ·rcases own oc q with q|q
       ·exact no (by simp[q])
       ·omega
 have O03:=(O1.trans O2 ak).trans O3 ak;refine⟨_,a n 0 h3 none 0 [] ah ⟨Q2.only O3 (λb hb=>ak),cy.nil _ _ _,λy hy=>(by simp[aV]at hy),O03,s1,λx hx=>(by cases hx),λz hz=>(by cases hz),ak⟩ (Mb _) ((A1.only O2 ak).only O3 ak) Or (λhm=> ?_) Or.lt⟩;have:=(Q2.lt oc hm).2;omega
def Iu:bR X 257=some cH.go:=by kernel_rfl
def JF{rs:List Nat}(S:nO h s n room fo gg off N L rs G lo p c)
  (hK: ∀h' L' B C N' a b e,nO h' s n room B C off N' L' rs G lo p c->aM L h h'->bC L L' h->K (.tuple #[ap a,ap b,ap e]) h'):Cl 212 [bf s,.slice p rs.length c] h K:=by
 have ok:=S.S.ok;dsimp only[XL]at ok;refine F212.spec _ _ _ _ h K ?_;refine Aa S λh1 L1 N1 D S1 O1 F1=>⟨_,_,rfl,?_⟩;rw[show((0:Int) !=0)=false from rfl,aK];refine In S1 λh2 zr O2=>aH rfl ?_;have S2:=S1.only0 O2;refine oJ S2.S (aH rfl ?_);refine aR (λ_=>hK h2 L1 fo gg N1 0 0 60 S2 (O1.trans (O2.mono ak) λy hy _=>hy) F1) λ_=> ?_;refine aW λh3 A3 O3 z3=> ?_;simp only[aL,LX];refine aU A3 ak rfl λh4 A4 O4 z4=>aU A4 ak rfl λh5 A5 O5 z5=> ?_;have A5:At h5 h2.size [bf s,.slice p rs.length c]:=A5;have O25:aM [] h2 h5:=(O3.trans O4 (by intro y hy hl;simp only[LZ]at hy;omega)).trans O5 (by intro y hy hl;simp only[LZ]at hy;omega);have S5:=S2.only0 O25;refine aQ (n:=some (aw s)) (by rw[At.rd A5];rfl) (bF (p:=p) (l:=rs.length) (c:=c) (by rw[At.rd A5];rfl) ?_);refine Af S5 λh6 sz O6=>aH rfl ?_;have S6:=S5.only0 O6;refine Ip S6 λh7 zp zc zs W7 zi zl O7=>⟨_,_,_,_,rfl,?_⟩;have S7:=S6.only0 O7;have A7:=(A5.only O6 ak).only O7 ak;refine aQ (n:=some (aw s)) (by rw[At.rd A7];rfl) (bF (p:=p) (l:=rs.length) (c:=c) (by rw[At.rd A7];rfl) ?_);have s2:=O2.size;have nb:h2.size∉L1:=λhm=>by have:=S2.S.lt _ hm;omega
 have l6:=S6.S.lt;have nz: ∀y∈aV zp,y∉L1/\y<h7.size:=λy hy=>⟨λhm=>by have:=(W7.lt y hy).1;have:=l6 y hm;omega,(W7.lt y hy).2⟩;unfold F212.wk11
 have o: ∀(d i:Nat) (k:aI) (L2:List Nat) (f g:Nat->Nat) (N2:ay),i+d=zs.length->nO k s n room f g off N2 L2 rs G lo p c->h2.size∉L2->(∀y∈aV zp,y∉L2)->At k h2.size [bf s,.slice p rs.length c]->cy k h6.size 1 zp zs.length zc (zs.map (Value.int .i64))->aM L1 h7 k->bC L1 L2 h7->
   F212.wL11 (d+1) sz 0 (aw h2.size) (.func (.func 257) #[HD s p rs.length c] #[]) zp zs.length zc (zs.length:Int) (i:Int) k K:=by
  intro d
  induction d with
  |zero=>
   intro i k L2 f g N2 hi Sk nk m A W O F;rw[F212.sL11];rw[L7 ah,aK];unfold F212.wk17;simp only[aL,LX];refine aQ (n:=some (aw s)) (by rw[At.rd A];rfl) (bF (p:=p) (l:=rs.length) (c:=c) (by rw[At.rd A];rfl) ?_);refine Af Sk λk2 x O2'=>aH rfl ?_;have O17:aM L1 h1 h7:=((O2.trans O25 ak).trans (O6.trans O7 ak) ak).mono ak;have Oa:aM L1 h1 k2:=(O17.trans O λy hy _=>hy).trans (O2'.mono ak) λy hy _=>hy;have Fa:bC L1 L2 h1:=λy hy=>(F y hy).imp id λq=>by have:=O17.size;omega
   exact hK k2 L2 f g N2 sz x 0 (Sk.only0 O2') (O1.app Oa F1) (F1.trans Fa O1.size)
  |succ d ih=>
   intro i k L2 f g N2 hi Sk nk m A W O F;rw[F212.sL11];rw[Mg ah,aO];obtain⟨bz,ez,rr⟩:=W.rd (j:=i) (by simp;omega);rw[ez,aT,<-ez];refine⟨ah,ah,?_⟩;rw[aL,LX,show Int.toNat (i:Int)*1=i by omega,rr];obtain⟨z,hz⟩: ∃z,zs[i]? =some z:=⟨_,Mj ah⟩;obtain⟨v,hv,ev⟩:=zi z (Mc hz);refine aH (n:=z) (by simp[hz]) ?_;subst ev;refine bj Iu (Ge Sk hv λk2 L3 t u N3 e he S3 O3' F3=>aH rfl ?_);rcases he with q|q
   rotate_left
   ·subst q;rw[show((60:Int) !=0)=true from rfl,aO];have O17:aM L1 h1 h7:=((O2.trans O25 ak).trans (O6.trans O7 ak) ak).mono ak;have Oa:aM L1 h1 k2:=O17.trans (O.app O3' F) λy hy _=>hy;have Fa:bC L1 L3 h1:=λy hy=>(F.trans F3 O.size y hy).imp id λq=>by have:=O17.size;omega
    exact hK k2 L3 t u N3 0 0 60 S3 (O1.app Oa F1) (F1.trans Fa O1.size)
   subst q;rw[show((0:Int) !=0)=false from rfl,aK,show ax ((i:Int)+1)=((i+1:Nat):Int) by rw[wrap_i64 ah ah];omega];have lA:=A.lt;refine ih (i+1) k2 L3 t u N3 ah S3 (λhm=> ?_) (λy hy hm=> ?_) (A.only O3' nk) (W.only O3' λb e=>m b (by rw[e];simp[aV])) (O.app O3' F) (F.trans F3 O.size)
   ·rcases F3 _ hm with q|q
    ·exact nk q
    ·omega
   ·rcases F3 y hm with q|q
    ·exact m y hy q
    ·have:=(W.lt y hy).2;omega
 exact⟨_,o zs.length 0 h7 L1 fo gg N1 ah S7 nb (λy hy=>(nz y hy).1) A7 W7 (aM.refl _ _) (bC.refl _ _)⟩
def F215.spec(H:Cl 264 [.func (.func 266) #[] #[au a]] h λa b=>cF (some a) λa c d=>Cl 265 [.slice a c d] b λb e=>b=aE/\K (.slice a c d) e):Cl 215 [.func (.func 266) #[] #[au a]] h K:=cN Tryz.func215 H
def F216.spec(a:Option Nat)(h:aI)(K:KK)(H:bg h (.cells #[.map a] 154) λa b=>K (.func (.func 266) #[] #[au (aw a)]) b):Cl 216 [.map a] h K:=cN Tryz.func216 H
def F264.spec(H:Cl 297 [.slice none 0 0,.func (.func 266) #[] #[au a]] h λa b=>cF (some a) λa c d=>K (.slice a c d) b):Cl 264 [.func (.func 266) #[] #[au a]] h K:=cN Tryz.func264 H
namespace IN
open Go Go.RowKit Go.Maps
def uI3:Tryz.prog.underlying 3=some (.int .i64):=by kernel_rfl
def u154:Tryz.prog.underlying 154=some (.map 3 167):=by kernel_rfl
def u84:Tryz.prog.underlying 84=some (.slice 3):=by kernel_rfl
set_option maxHeartbeats 2000000 in
def Bc{F:Fence}(R:F.fn 266)(U:F.round=none)(hn:1<=n)(l Bm b nn:Nat)(D0:DataW Unit)(J:List Int->World->Prop)
  (hY: ∀j x W,J j W->j.length<Maps.size D0->YieldAt F (n-1) Tryz.prog l #[ap x] W λe W'=>e= .returned aC/\J (j++[x]) W'/\KeepsWalks W W')
  (W:World) (hJ:nY W.heap.size J) (hm:W.cell? (aw Bm)=some (.map (some b))) (A:W.ownsMap Tryz.prog 3 ky b nn D0) (h0:J [] W):
  CallsIn F n Tryz.prog 266 #[.func (.yield l) #[] #[],au (aw Bm)] W λe W'=>(∃v,e= .returned v)/\ ∃ss:List Int,J ss W'/\ ∃left,iH .i64 D0 left ss/\ ∀kl,left kl=false:=by
 refine callsIn_of_wp Tryz.func266 rfl R ?_ U;simp only[Tryz.ntmps266,Oz,Nh,NN,Nat.reduceAdd,Nat.reduceSub,OM,OK,Pf,OQ,Nn,Nu]
 gi_wp2_with (first
  |(gi_at_range;refine wpListIn_range_own _ rfl _ 154 rfl 3 167 (int_keyed uI3) u154 _ b nn _ rfl A ?_;intro w0 i C a3)
  |gi_in)
 go_frame
 gi_loopw [3] (λ_ wr=> ∃(left:Lit->Bool) (cnt:Nat) (ss:List Int),wr.ranges Tryz.prog 3 ky b W.heap.size nn D0 left cnt/\ss.length+cnt<=Maps.size D0/\iH .i64 D0 left ss/\J ss wr)
  (λ_ wr=>wr.rangeLeft b W.heap.size)
 case atStart=>
  have L:to W w0:=by obtain⟨es,m,a,h,c0,_,_,_,_,hr,_⟩:=i;exact to.one (r:=W.heap.size) (o:= .mapIter none 0 #[] 0) (λk hk _=>C.block k hk ak) (.inr rfl) (λ_=>rfl) hr rfl ah
  exact⟨_,_,[],i,ak,iH.start .i64 D0,hJ [] W w0 none h0 C L (λr e=>by cases e)⟩
 case round=>
  obtain⟨left,cnt,ss,d,a0,hC,z⟩:=hrel
  gi_wp2_with (first
   |(gi_at_next;refine wpListIn_next_ranges _ rfl _ rfl 3 (int_keyed uI3) ky (Value.int .i64) (λv:Value=>v) (λkey kl hk=>by obtain⟨x,hx,_⟩:=Maps.keyOf_int_inv uI3 hk;exact⟨x,hx⟩) (λv y hv=>⟨v,rfl⟩) b W.heap.size nn _ _ _ rfl d ?_ ?_)
   |gi_in)
  ·intro a4 P
   gi_wp2
   go_end0
   exact⟨⟨_,rfl⟩,ss,z,left,hC,P⟩
  ·intro x c kl yd yp w2 u q Y hv S f V B I a1;obtain⟨x',ex,rfl,_⟩:=Maps.keyOf_int_inv uI3 q;cases ex
   have t:to wr w2:=by obtain⟨es,m,a,h,c0,_,_,_,_,hr,_⟩:=d;obtain⟨Z,D,G,Q,a2,_,_,_,_,K,_⟩:=f;exact to.one (r:=W.heap.size) (o:= .mapIter (some b) a h c0) (λk hk N=>B.block k hk (by simpa using N)) (.inl hr) (λ_=>rfl) K rfl ah
   have H:J ss w2:=hJ ss wr w2 (some W.heap.size) z B t (λr e=>by cases e;exact⟨Mb _,d.iter_walk⟩);obtain⟨fn,tmps,assign,body,hy,hR⟩:=hY ss x w2 H ah;clear I t
   gi_wp2
   refine hR.mono ?_;rintro e W3 ⟨rfl,O,M⟩
   gi_wp2
   have g:=f.of_walks M
   go_roundw
   case rel=>exact⟨_,u,ss++[x],g,by simp;omega,hC.step Y S,O⟩
   case measure=>rw[g.left_eq,d.left_eq];exact V
end IN
namespace IN
open Go Go.RowKit Go.Maps
noncomputable def gL:Code:=((Tryz.f297.body.bind jB).map (·.1)).getD .skip
noncomputable def kD:Code:=((Tryz.f297.body.bind jB).map (·.2)).getD .skip
noncomputable def dH(fn:FuncId)(sv:Value)(Bs D:Nat)(st:LoopState)(pend:Option Code):Loop:=
 {state:=st,pending:=pend,fn,tmps:= #[.slice none 0 0,sv,au (aw Bs),undef,.slice none 0 0,undef,sv,undef,undef,undef,undef,undef,undef],params:= #[7],assign:=gL,body:=kD,defers:=D}
structure oP(w0:World)(fn:FuncId)(sv:Value)(Bs l D:Nat)(ss:List Int)(W:World):Prop where
 box: ∃p c,At W.heap Bs [.slice p ss.length c]/\cy W.heap (Bs+1) 1 p ss.length c (ss.map (Value.int .i64))
 L:W.heap[l]? =some (.loop (dH fn sv Bs D .ready none))
 K:W.heap[D]? =some (.deferred (some []))
 only:aM [] w0.heap W.heap
 same:cw w0 W
def mG(w0:World)(fn:FuncId)(sv:Value)(Bs l D B:Nat)(hB:w0.heap.size<=B):nY B (oP w0 fn sv Bs l D):=λs W W' row h hg hf d=>by
 have a: ∀r,row=some r-> ∃o:Obj,W.heap[r]? =some o/\o.isWalk=true:=λr e=>(d r e).2;have O:=pH hg hf
 have f: ∀b,(∃c,At W.heap b c)->b∉row.toList:=λb ⟨c,A⟩ hb=>by
  cases row with
  |none=>simp at hb
  |some r=>simp at hb;exact A.notWalk (a r rfl) hb
 obtain⟨p,c,A,H⟩:=h.box
 exact⟨⟨p,c,A.only O (f _ ⟨_,A⟩),H.onlyC O λb _ hc=>f b hc⟩,(grownBy_keeps hg a h.L rfl).trans h.L,(grownBy_keeps hg a h.K rfl).trans h.K,
  h.only.trans O (λb hb g=>by
   cases row with
   |none=>simp at hb
   |some r=>
    simp at hb;have:=(d r rfl).1;omega),h.same.trans (cw.of_grown hg)⟩
def sB3:kh Tryz.prog 3=some (1,8,#[ap 0]):=by kernel_rfl
set_option maxHeartbeats 2000000 in
def su{F:Fence}(w0:World)(fn:FuncId)(M:F.fn fn)(sv:Value)(Bs l D:Nat)(I:Bs≠l)(v:D≠l)(J:D≠Bs)(U:w0.heap.size<=Bs)(V:w0.heap.size<=l)
  (N:Nat) (hN:N*8<=140737488355328) (ss:List Int) (x:Int) (W:World) (h:oP w0 fn sv Bs l D ss W) (Q:ss.length<N):
  YieldAt F m Tryz.prog l #[ap x] W λe W'=>e= .returned aC/\oP w0 fn sv Bs l D (ss++[x]) W'/\KeepsWalks W W':=by
 obtain⟨p,c,A,H⟩:=h.box;refine⟨fn,#[.slice none 0 0,sv,au (aw Bs),undef,.slice none 0 0,undef,sv,ap x,undef,undef,undef,undef,undef],gL,kD,by simpa[dH]using run_yield (P:=Tryz.prog) (args:= #[ap x]) h.L rfl,roundIn_of_wpIn M ?_⟩;have hl:l<W.heap.size:=(Mf.1 h.L).1;have G:=run_beginRound (P:=Tryz.prog) h.L rfl;obtain⟨W2,d⟩: ∃W2,W.putObj l (.loop {dH fn sv Bs D .ready none with state:= .busy})=W2:=⟨_,rfl⟩;rw[d]at G;have z: ∀b,(∃c,At W.heap b c)->b∉[l]:=λb ⟨c,A⟩ hb=>A.ne_obj h.L rfl (by simpa using hb);have O2:aM [l] W.heap W2.heap:=by rw[<-d];exact aM.putW _ h.L rfl rfl
 have A2:At W2.heap Bs [.slice p ss.length c]:=A.only O2 (z _ ⟨_,A⟩);have H2:=H.onlyC O2 λb _ hc=>z b hc;have i:W2.heap[D]? =some (.deferred (some [])):=by rw[<-d];exact(World.putObj_heap_other v).trans h.K
 have f:W2.heap[l]? =some (.loop {dH fn sv Bs D .ready none with state:= .busy}):=by rw[<-d];exact World.putObj_heap_same hl
 have S2:cw W W2:=by rw[<-d];exact⟨rfl,rfl,rfl⟩
 have Z:W2.cell? (aw Bs)=some (.slice p ss.length c):=A2.rd 0;have S:W2.frozen? (aw Bs)=false:=A2.fz 0 none;have A3:At (W2.alloc (.cells #[ap x] 3)).heap W2.heap.size [ap x]:=At.push _ _ _;have O3:aM [] W2.heap (W2.alloc (.cells #[ap x] 3)).heap:=aM.push_cells _ _ _;have H3:=H2.onlyC O3 λb _ _=>ak;have A3':=A2.only O3 ak;have R:=A2.lt;have n:=O3.size;clear d;simp only[gL,Tryz.f297,jB,On,Na,OD,Pw,Pv]
 gi_wp2_with (rw[Oper.semAt_eq _ _ _ (λc h=>by cases h)];go_simp;try go_bits)
 simp only[kD,Tryz.f297,jB,On,Na,OD,Pw,Pv]
 gi_wp2_with (first
  |(gi_at_builtin;refine lT _ rfl _ _ 84 rfl u84 sB3 (by decide) rfl rfl (gU (K:=λp' l' c' h'=>l'=ss.length+1/\cy h' (Bs+1) 1 p' (ss.length+1) c' (ss.map (Value.int .i64)++[ap x])/\aM (aV p) (W2.alloc (.cells #[ap x] 3)).heap h'/\ ∀b∈aV p',b∈aV p\/(W2.alloc (.cells #[ap x] 3)).heap.size<=b) H3 A3 rfl rfl ah (by simp[Value.oneCell']) ah λp' c' h' a b c=>⟨rfl,a,b,c⟩) ?_;rintro p' l' c' w3 S3 ⟨rfl,H4,O4,a1⟩
    have C:Bs∉aV p:=λhb=>by have:=H2.lt Bs hb;omega
    have A4:=A3'.only O4 C;have a2:w3.cell? (aw Bs)=some (.slice p ss.length c):=A4.rd 0;have Y:w3.frozen? (aw Bs)=false:=A4.fz 0 none
    go_frame)
  |(rw[Oper.semAt_eq _ _ _ (λc h=>by cases h)];go_simp;try go_bits))
 have B:l∉aV p:=λhb=>by obtain⟨c,A⟩:=H3.cells l hb;exact A.ne_obj ((Below.heap_alloc _ _ l (Mf.1 f).1).trans f) rfl rfl
 have u:D∉aV p:=λhb=>by obtain⟨c,A⟩:=H3.cells D hb;exact A.ne_obj ((Below.heap_alloc _ _ D (Mf.1 i).1).trans i) rfl rfl
 have y:w3.heap[l]? =some (.loop {dH fn sv Bs D .ready none with state:= .busy}):=(O4.same l (Nt (Mf.1 f).1 n) B).trans ((O3.same l (Mf.1 f).1 ak).trans f);have q:w3.heap[D]? =some (.deferred (some [])):=(O4.same D (Nt (Mf.1 i).1 n) u).trans ((O3.same D (Mf.1 i).1 ak).trans i);obtain⟨w4,g⟩: ∃w4,w3.setCell (aw Bs) (.slice p' (ss.length+1) c')=w4:=⟨_,rfl⟩;rw[g];have O5:aM [Bs] w3.heap w4.heap:=by rw[<-g];exact aM.wr w3.heap (aw Bs) _
 have A5:At w4.heap Bs [.slice p' (ss.length+1) c']:=by rw[<-g];exact A4.wr 0 _
 have S4:cw w3 w4:=by rw[<-g];exact⟨rfl,rfl,rfl⟩
 have j:w4.heap[l]? =some (.loop {dH fn sv Bs D .ready none with state:= .busy}):=(O5.same l (Mf.1 y).1 (by simpa using Ne.symm I)).trans y;have O:w4.heap[D]? =some (.deferred (some [])):=(O5.same D (Mf.1 q).1 (by simpa using J)).trans q
 have H5:=H4.onlyC O5 λb hb _ t=>by simp at t;subst t;have:=H4.lt b hb;omega
 clear g;have O6:aM [l] w4.heap (w4.putObj l (.loop {{dH fn sv Bs D .ready none with state:= .busy}with state:=if(none:Option Code).isNone then .ready else .done,pending:=none})).heap:=aM.putW _ j rfl rfl;have k: ∀b,(∃c,At w4.heap b c)->b∉[l]:=λb ⟨c,A⟩ hb=>A.ne_obj j rfl (by simpa using hb)
 have OO:aM (l::Bs::aV p) W.heap (w4.putObj l (.loop {{dH fn sv Bs D .ready none with state:= .busy}with state:=if(none:Option Code).isNone then .ready else .done,pending:=none})).heap:=by refine(((((O2.mono (T:=l::Bs::aV p) (by simp+contextual)).trans O3 ak).trans O4 (by simp+contextual)).trans O5 (by simp+contextual)).trans O6 (by simp+contextual))
 refine⟨_,_,run_endRound none j,rfl,⟨⟨p',c',?_,?_⟩,World.putObj_heap_same (Mf.1 j).1,(World.putObj_heap_other v).trans O,h.only.trans OO ?_,?_⟩,oZ OO ?_⟩
 ·rw[Mv,MP];exact A5.only O6 (k _ ⟨_,A5⟩)
 ·rw[Mv,MP,MJ,PJ];exact H5.onlyC O6 λb _ hc=>k b hc
 ·intro b hb a0;rcases List.mem_cons.1 hb with rfl|hb
  ·omega
  ·rcases List.mem_cons.1 hb with rfl|hb
   ·omega
   ·have:=H.lt b hb;omega
 ·exact((((h.same.trans S2).trans ⟨rfl,rfl,rfl⟩).trans S3).trans S4).trans ⟨rfl,rfl,rfl⟩
 ·intro r hr o ho;rcases List.mem_cons.1 hr with rfl|hr
  ·rw[h.L]at ho;cases ho;rfl
  ·rcases List.mem_cons.1 hr with rfl|hr
   ·exact A.walkF o ho
   ·obtain⟨c,A'⟩:=H.cells r hr;exact A'.walkF o ho
end IN
namespace IN
open Go Go.RowKit Go.Maps Go.Shelf
set_option maxHeartbeats 2000000 in
def ml{F:Fence}(v:F.fn 297)(k:F.fn 266)(j:F.round=none)(hn:2<=n)(Bm b:Nat)(m:List (Int×Value))(w:World)(A:At w.heap Bm [.map (some b)])(M:bV w.heap b .i64 m)
  (B: ∀x∈m.map (·.1),(Lit.int .i64 x).wf=true) (y:m.length*8<=140737488355328):
  CallsIn F n Tryz.prog 297 #[.slice none 0 0,.func (.func 266) #[] #[au (aw Bm)]] w λe w'=> ∃(p:az) (c:Nat) (ss:List Int),e= .returned (.slice p ss.length c)/\ss.Perm (m.map (·.1))/\
   cy w'.heap (w.heap.size+1) 1 p ss.length c (ss.map (Value.int .i64))/\aM [] w.heap w'.heap/\cw w w':=by
 have h1:1<=n:=ah;have hnd:(m.map (·.1)).Nodup:=by obtain⟨_,_,_,_,h,_⟩:=M;exact h
 have eg: ∀args w,(callFunc 266 args).run Tryz.prog w= .ok (.enter 266 args) w:=enters_of Tryz.func266 (by kernel_rfl) rfl;refine callsIn_of_wp_marks Tryz.func297 rfl v ?_ j;simp only[Tryz.ntmps297,Oz,Nh,NN,Nat.reduceAdd,Nat.reduceSub,OM,OK,Pf,OQ,Nn,Nu]
 gi_wp2
 refine wpIn_rangeFunc ?_;intro fn C;rw[j];obtain⟨W0,f⟩: ∃W0,w.alloc (.cells #[.slice none 0 0] 84)=W0:=⟨_,rfl⟩;have o:W0.heap.size=w.heap.size+1:=by rw[<-f];simp
 have O0:aM [] w.heap W0.heap:=by rw[<-f];exact aM.push_cells _ _ _
 have A0:At W0.heap w.heap.size [.slice none 0 0]:=by rw[<-f];exact At.push _ _ _
 have S0:cw w W0:=by rw[<-f];exact⟨rfl,rfl,rfl⟩
 rw[f];obtain⟨W1,a⟩: ∃W1,(W0.alloc (.deferred (some []))).alloc (.loop (dH fn (.func (.func 266) #[] #[au (aw Bm)]) w.heap.size W0.heap.size .ready none))=W1:=⟨_,rfl⟩;have O1:aM [] W0.heap W1.heap:=by rw[<-a];exact(aM.allocW W0 rfl).trans (aM.allocW _ rfl) ak
 have I:W1.heap.size=W0.heap.size+2:=by rw[<-a];simp
 have S1:cw W0 W1:=by rw[<-a];exact⟨rfl,rfl,rfl⟩
 have OW:=O0.trans O1 ak
 have hM:oP w fn (.func (.func 266) #[] #[au (aw Bm)]) w.heap.size (W0.heap.size+1) W0.heap.size [] W1:=
  ⟨⟨none,0,A0.only O1 ak,cy.nil _ _ _⟩,
   by rw[<-a];have:=World.alloc_heap_new (W0.alloc (.deferred (some []))) (.loop (dH fn (.func (.func 266) #[] #[au (aw Bm)]) w.heap.size W0.heap.size .ready none));rwa[World.size_alloc]at this,
   by rw[<-a];exact(Below.heap_alloc _ _ _ ak).trans (World.alloc_heap_new W0 _),OW,S0.trans S1⟩
 obtain⟨D0,l,H,z⟩:=wR uI3 (M.only OW ak) B (by simp[maxLen];omega)
 refine⟨W0.heap.size+1,[{target:= .collected W0.heap.size,args:= #[]}],W1,{target:= .fn (.func 266) #[au (aw Bm)],args:= #[.func (.yield (W0.heap.size+1)) #[] #[]]},W1,266,
  #[.func (.yield (W0.heap.size+1)) #[] #[]]++ #[au (aw Bm)],W1,?_,?_,?_,?_,λ_=>h1,?_⟩
 ·rw[<-a];exact run_enterLoop_outer _ _ _ _ _
 ·simp[resolve,go_sem]
 ·intro f' t;simp[Target.leads]at t;subst t;exact k
 ·simp[invoke,go_sem,eg]
 ·refine(Bc (F:=F) (n:=n-1) k j ah (W0.heap.size+1) Bm b m.length D0 (oP w fn (.func (.func 266) #[] #[au (aw Bm)]) w.heap.size (W0.heap.size+1) W0.heap.size)
   (λu x W hJ hl=>su (F:=F) (m:=n-1-1) w fn C _ w.heap.size (W0.heap.size+1) W0.heap.size ah ah ah (Mb _) ah m.length y u x W hJ ah) W1 (mG _ _ _ _ _ _ _ ah)
   ((A.only OW ak).rd 0) l hM).mono ?_
  rintro e W2 ⟨⟨v0,rfl⟩,ss,h2,left,hC,hl⟩;obtain⟨p,c,A2,H2⟩:=h2.box;have g:=run_endLoop (P:=Tryz.prog) h2.L (by simp[dH]);obtain⟨W3,d⟩: ∃W3,W2.putObj (W0.heap.size+1) (.loop {dH fn (.func (.func 266) #[] #[au (aw Bm)]) w.heap.size W0.heap.size .ready none with state:= .exhausted})=W3:=⟨_,rfl⟩;rw[d]at g;have O3:aM [W0.heap.size+1] W2.heap W3.heap:=by rw[<-d];exact aM.putW _ h2.L rfl rfl
  have S3:cw W2 W3:=by rw[<-d];exact⟨rfl,rfl,rfl⟩
  have q: ∀b,(∃c,At W2.heap b c)->b∉[W0.heap.size+1]:=λb ⟨c,A⟩ hb=>A.ne_obj h2.L rfl (by simpa using hb);have A3:=A2.only O3 (q _ ⟨_,A2⟩);have H3:=H2.onlyC O3 λb _ hc=>q b hc;have i:W3.heap[W0.heap.size]? =some (.deferred (some [])):=by rw[<-d];exact(World.putObj_heap_other ah).trans h2.K
  have J:W3.cell? (aw w.heap.size)=some (.slice p ss.length c):=A3.rd 0;have G:W3.frozen? (aw w.heap.size)=false:=A3.fz 0 none;clear d;refine⟨none,W3,g,?_⟩
  gi_wp2
  rw[<-o];refine⟨ak,.inl ⟨_,_,rfl,run_takeDeferred i,?_⟩⟩;have O4:aM [W0.heap.size] W3.heap (W3.putObj W0.heap.size (.deferred none)).heap:=aM.putW _ i rfl rfl;have hF:=H3.onlyC O4 (λb _ hc hb=>by obtain⟨c,A⟩:=hc;exact A.ne_obj i rfl (by simpa using hb));rw[<-o]at hF
  exact⟨_,results_tmp rfl _ _ _,p,c,ss,rfl,hC.perm hl hnd z,hF,
   (h2.only.trans O3 (by intro b hb D;simp at hb;omega)).trans O4 (by intro b hb D;simp at hb;omega),(h2.same.trans S3).trans ⟨rfl,rfl,rfl⟩⟩
def appSeq{h:aI}{m:List (Int×Value)}(A:At h Bm [.map (some b)])(M:bV h b .i64 m)
  (a: ∀x∈m.map (·.1),(Lit.int .i64 x).wf=true) (d:m.length*8<=140737488355328)
  (hK: ∀(p:az) (c:Nat) (h':aI) (ss:List Int),ss.Perm (m.map (·.1))->cy h' (h.size+1) 1 p ss.length c (ss.map (Value.int .i64))->aM [] h h'->K (.slice p ss.length c) h'):
  Cl 297 [.slice none 0 0,.func (.func 266) #[] #[au (aw Bm)]] h K:=λw hw=>by
 subst hw;refine((callsIn_wide (n:=2)).1 (ml (F:=Fence.wide) (n:=2) trivial trivial rfl ah Bm b m w A M a d)).mono ?_;rintro e w' ⟨p,c,ss,rfl,h1,h2,h3,h4⟩;exact⟨_,rfl,h4,hK p c _ ss h1 h2 h3⟩
end IN
def Do: ∀n,fT g n≠0-> ∃k,k<n/\g k≠0:=by
 intro n
 induction n with
 |zero=>intro h;exact Mw rfl h
 |succ n ih=>
  intro h;unfold fT at h;by_cases q:g n=0
  ·obtain⟨k,hk,hg⟩:=ih ah;exact⟨k,ah,hg⟩
  ·exact⟨n,ah,q⟩
def held{f:Int->Int}{E:gQ}(C:lf f E){a:Nat}:f (a:Int)≠0↔ ∃i,i<4/\ ∃r,r<6/\(E.ses i).there r=true/\(E.ses i).hnd r=a:=by
 rw[C a];constructor
 ·intro h;obtain⟨k,hk,hg⟩:=Do 24 (show fT (fL E a) 24≠0 from λz=>h (by show((lH E a:Nat):Int)=0;unfold lH;omega));unfold fL at hg;split at hg
  ·next q=>exact⟨k/6,ah,k%6,ah,q.1,q.2⟩
  ·exact Mw rfl hg
 ·rintro ⟨i,hi,r,hr,ht,he⟩ z
  have:1<=fT (fL E a) 24:=oF (k:=6*i+r) 24 ah (by unfold fL;rw[show(6*i+r)/6=i by omega,show(6*i+r)%6=r by omega,L4 ⟨ht,he⟩];exact Mb _)
  have:lH E a=fT (fL E a) 24:=rfl;omega
def cR(A:MA):List Nat:=if A.e=0 then A.told::A.fs.flatMap λf=> [f.a0,f.a1,f.a2,f.low]else []
def jL{A:MA}{f:Fk}(e:A.e=0)(hf:f∈A.fs)(ha:a=f.a0\/a=f.a1\/a=f.a2\/a=f.low):a∈cR A:=by unfold cR;rw[L4 e];refine My _ (Nz.2 ⟨f,hf,?_⟩);simp only[List.mem_cons,MR,Nk];exact ha
def ng{A:MA}(e:A.e=0):A.told∈cR A:=by unfold cR;rw[L4 e];exact Og
def nN.back(M:nN n fo N A)(b:cX n N')(E:Ex N' N)(hr: ∀a∈cR A,isN N' a):nN n fo N' A:=by
 rcases M with⟨d,e,ne,R⟩|⟨d,z,e|e⟩
 ·exact .inl ⟨d,e,ne,R.tr (Tr.back b E) (λf hf=>⟨hr _ (jL e hf (.inl rfl)),hr _ (jL e hf (.inr (.inl rfl))),hr _ (jL e hf (.inr (.inr (.inl rfl)))),hr _ (jL e hf (.inr (.inr (.inr rfl))))⟩) (hr _ (ng e))⟩
 ·exact .inr ⟨d,z,.inl ⟨e.1,hr _ (ng e.1)⟩⟩
 ·exact .inr ⟨d,z,.inr e⟩
def nN.roots(M:nN n fo N A): ∀a∈cR A,isN N a:=λa ha=>by
 unfold cR at ha;rcases M with⟨d,e,ne,R⟩|⟨d,z,⟨e,R⟩|e⟩
 ·rw[L4 e]at ha;rcases List.mem_cons.1 ha with q|q
  ·rw[q];exact R.tld
  ·obtain⟨f,hf,q⟩:=Nz.1 q;have F:=(R.frs f hf).nn;simp only[List.mem_cons,MR,Nk]at q;rcases q with q|q|q|q<;>rw[q]
   ·exact F.1
   ·exact F.2.1
   ·exact F.2.2.1
   ·exact F.2.2.2
 ·rw[L4 e,z]at ha;have:a=A.told:=by simpa using ha
  rw[this];exact R
 ·rw[LY ah]at ha;cases ha
def cd.back{P:PS}(H:cd n fo N P)(b:cX n N')(E:Ex N' N)(hr: ∀j∈P.jobs,∀a∈cR j.A,isN N' a):cd n fo N' P/\fH n N' P=fH n N P:=by have M: ∀j∈P.jobs,nN n fo N' j.A:=λj hj=>(H.mst j hj).1.back b E (hr j hj);have em: ∀j∈P.jobs,_:=λj hj=>(M j hj).same b E;refine⟨⟨λj hj=>⟨M j hj,by rw[<-(em j hj).1,<-(em j hj).2.1];exact(H.mst j hj).2⟩,H.at_,H.one,H.loc,H.T,H.len,H.last,H.steals⟩,?_⟩;unfold fH;rw[Nb λj hj=>(em j hj).2.2]
def vb{A:MA}:(cR A).length<=4*A.fs.length+1:=by
 have h2: ∀l:List Fk,(l.flatMap λf=> [f.a0,f.a1,f.a2,f.low]).length=4*l.length:=λl=>by
  induction l with
  |nil=>rfl
  |cons a l ih=>rw[Pg,Mv,ih];simp;omega
 unfold cR;split
 ·rw[Nh,h2];omega
 ·simp
def Hw(G:EG)(N':ay)(L' B':List Nat):EG:={G with N:=N',L:=L',B:=B'}
def dh.retJ{h h2:aI}{G:EG}(W:dh h e G)(M:Mk G.N rs keep [])(m: ∀a:Nat,1<a->G.f (a:Int)≠0->a∈rs)(d: ∀j∈G.P.jobs,∀a∈cR j.A,1<a->a∈rs)
  (S:bT h' G.E.s L' (XL G.n G.room G.fo G.gg (cv keep G.N) G.off)) (R:qn h' G.E.r G.M G.f B') (z2:h.size<=h2.size) (O:aM (G.L++G.B) h h') (F:bC G.L L' h2) (FB: ∀b∈B',b∈G.B\/(h.size<=b/\b<h2.size)):
  dh h' e (Hw G (cv keep G.N) L' B')/\bD e G h (Hw G (cv keep G.N) L' B') h':=by
 have lt:=W.lt
 have DP: ∀b,dD G.E.p G.P b->b∉L':=λb hb hm=>by
  rcases F b hm with q|q
  ·exact W.W.D b hb q
  ·have:=lt b (bo.2 (.inr (.inr (.inr hb))));omega
 have DPB: ∀b∈B',¬dD G.E.p G.P b:=λb hm hb=>by
  rcases FB b hm with q|q
  ·exact(W.dB b q).2 hb
  ·have:=lt b (bo.2 (.inr (.inr (.inr hb))));omega
 have eB:e∉B':=λhm=>by
  rcases FB e hm with q|q
  ·exact W.de.2.2 q
  ·have:=lt e (bo.2 (.inl rfl));omega
 have LB': ∀b∈B',b∉L':=λb hb hm=>by
  rcases F b hm with q|q
  ·rcases FB b hb with z|z
   ·exact(W.dB b z).1 q
   ·have:=lt b (bo.2 (.inr (.inl q)));omega
  ·rcases FB b hb with z|z
   ·have:=lt b (bo.2 (.inr (.inr (.inl z))));omega
   ·omega
 have cl: ∀i x,nd G.N i=some x->keep (i+2)=true->(x.2.1<2\/keep x.2.1=true)/\(x.2.2<2\/keep x.2.2=true):=λi x hx hk=>by have:=M.cl i x hx hk;simpa using this
 have l:cX G.n G.N:=W.W.S.ok.1;obtain⟨k,o,GX⟩:=ot l cl
 have c: ∀a,isN G.N a->(1<a->a∈rs)->isN (cv keep G.N) a:=λa ha hm=>by
  rw[o];by_cases q:a<2
  ·exact .inl q
  ·refine .inr ⟨ha,?_⟩;rcases M.ro _ (hm ah)with z|z|z
   ·omega
   ·exact z
   ·cases z
 have rg: ∀i,i<4-> ∀r,r<6->(G.E.ses i).there r=true->isN (cv keep G.N) ((G.E.ses i).hnd r):=λi hi r hr ht=>
  c _ (W.rg i hi r hr ht) λh1=>m _ h1 ((held W.C).2 ⟨i,hi,r,hr,ht,rfl⟩)
 have Ok':cd G.n G.fo (cv keep G.N) G.P:=(W.W.Ok.back k GX (λj hj a ha=>c a ((W.W.Ok.mst j hj).1.roots a ha) (d j hj a ha))).1;refine⟨⟨⟨S,W.W.H.only O λb hb hp=> ?_,Ok',W.W.po,DP⟩,R,W.I.only O (λhm=> ?_),W.C,⟨λhm=> ?_,W.de.2.1,eB⟩,λb hb=>⟨LB' b hb,DPB b hb⟩,rg,W.r0,W.mq,W.po⟩,⟨λT hT=>O.mono λb hb _=>hT b ?_,λb hb=> ?_⟩⟩
 ·rcases Zq hb with q|q
  ·exact W.W.D b hp q
  ·exact(W.dB b q).2 hp
 ·rcases Zq hm with q|q
  ·exact W.de.1 q
  ·exact W.de.2.2 q
 ·rcases F e hm with q|q
  ·exact W.de.1 q
  ·have:=lt e (bo.2 (.inl rfl));omega
 ·rcases Zq hb with q|q
  ·exact bo.2 (.inr (.inl q))
  ·exact bo.2 (.inr (.inr (.inl q)))
 ·rcases bo.1 hb with q|q|q|q
  ·exact .inl (bo.2 (.inl q))
  ·rcases F b q with q|q
   ·exact .inl (bo.2 (.inr (.inl q)))
   ·exact .inr ah
  ·rcases FB b q with q|q
   ·exact .inl (bo.2 (.inr (.inr (.inl q))))
   ·exact .inr q.1
  ·exact .inl (bo.2 (.inr (.inr (.inr q))))
def wP:ig (ig p w a) w b=ig p w b:=by
 funext k;unfold ig;by_cases q:k=w
 ·rw[L4 q,L4 q]
 ·rw[LY q,LY q,LY q]
def jI:ig p w a w=a:=L4 rfl
def AA:ig p w (p w)=p:=by
 funext k;unfold ig;by_cases q:k=w
 ·rw[L4 q,q]
 ·rw[LY q]
def yW:Nat->List Int:=λ_=> []
def tK(rs:List Nat):List Int:=rs.map λa:Nat=>(a:Int)
def Rf.back(H:Rf lo h r M S Wn N f p c L)(H':Rf lo h' r M S Wn N' f p' c' L')(hl: ∀k,k<Wn->(L' k).length<=N):Rf lo h' r M S Wn N f p' c' L':=by
 refine⟨H'.R,H'.T,?_,H.fr,H.fx,H'.own,hl,H'.ge,H'.rS,H'.sep⟩;obtain⟨m,a,b,d⟩:=H.Mm;obtain⟨m',a',b',-⟩:=H'.Mm;refine⟨m',a',b',?_⟩;have e:(m'.map (·.1)).Nodup:=by obtain⟨_,_,_,_,q,_⟩:=a';exact q
 have sub: ∀x∈m'.map (·.1),x∈m.map (·.1):=λx hx=>by
  apply Mi;intro hn;have e1:=b x;rw[dY.2 hn]at e1;have e2:=b' x;by_cases q:f x=0
  ·rw[L4 q,dY]at e2;exact e2 hx
  ·rw[LY q]at e1;cases e1
 have:=e.length_le_of_subset sub;simp only[ND]at this;omega
def DK{h h1:aI}{rs:List Nat}
  (R:Rf lo h1 r M S Wn N f p c yW) (w1:1<=Wn) (hN:N+rs.length<=LB/8) (o:lo<=h1.size) (re: ∀hh,aM B h1 hh->rd hh ⟨e,2,none⟩=some (bf r)) (Ow:cy h1 h.size 1 q rs.length cq (rs.map hv)) (hB: ∀b∈B,b<h.size) (hS:S∈B) (hp: ∀k,k<Wn-> ∀b∈aV (p k),b∈B)
  (hK: ∀h2 p2 c2,Rf lo h2 r M S Wn (N+rs.length) f p2 c2 (ig yW 0 (tK rs))->(∀k,k<Wn-> ∀b∈aV (p2 k),b∈B\/h1.size<=b)->aM B h1 h2->F128.wk6 (aw e) q rs.length cq h2 K):
  F128.wk2 (aw e) q rs.length cq q rs.length cq (Nat.cast rs.length:Int) 0 h1 K:=by
 have t:LB=140737488355328:=rfl;unfold F128.wk2
 have g: ∀(d i:Nat) (p2:Nat->az) (c2:Nat->Nat) (hh:aI),i+d=rs.length->Rf lo hh r M S Wn (N+i) f p2 c2 (ig yW 0 (tK (rs.take i)))->(∀k,k<Wn-> ∀b∈aV (p2 k),b∈B\/h1.size<=b)->aM B h1 hh->
   F128.wL2 (d+1) (aw e) q rs.length cq q rs.length cq (Nat.cast rs.length:Int) (i:Int) hh K:=by
  intro d
  induction d with
  |zero=>
   intro i p2 c2 hh hi R2 B2 O;rw[F128.sL2];rw[L7 ah,aK];have ei:i=rs.length:=ah;subst ei;rw[NS]at R2;exact hK hh p2 c2 R2 B2 O
  |succ d ih=>
   intro i p2 c2 hh hi R2 B2 O;rw[F128.sL2];rw[Mg ah,aO];have OwH:=Ow.only O λb eb hm=>by have:=hB b hm;have:=(Ow.lt b (by rw[eb];simp[aV])).1;omega
   obtain⟨b,eb,rr⟩:=OwH.rd (j:=i) (by simp;omega);rw[eb,aT,<-eb];simp only[aL,LX];refine⟨ah,ah,?_⟩;obtain⟨a,ha⟩: ∃a,rs[i]? =some a:=⟨_,Mj ah⟩;refine aH (n:=(a:Int)) (by rw[show Int.toNat (i:Int)*1=i by omega,rr];simp[ha]) (aQ (re hh O) ?_);refine FV R2 ah (Nc o O.size) (λz=>Mw ⟨ah,ah⟩ z) λk ek hk h3 p' c' R3 O3 m=>a8 rfl ?_;have k0:k=0:=ah;subst k0;have e1:ax ((i:Int)+1)=((i+1:Nat):Int):=by rw[bq ah ah];omega
   rw[e1]
   have e2:tK (rs.take (i+1))=tK (rs.take i)++[(a:Int)]:=by
    unfold tK;rw[NM,ha,MJ]
    rfl
   rw[wP,jI,<-e2]at R3;have z:=O.size;refine ih (i+1) _ _ h3 ah R3 (λk l b hb=> ?_) (O.trans O3 λb hb hl=> ?_)
   ·unfold ig at hb;by_cases q0:k=0
    ·rw[L4 q0]at hb;rcases m b hb with y|y
     ·exact B2 0 hk b y
     ·exact .inr ah
    ·rw[LY q0]at hb;exact B2 k l b hb
   ·rcases List.mem_cons.1 hb with y|y
    ·rw[y];exact hS
    ·rcases B2 0 hk b y with w|w
     ·exact w
     ·omega
 refine⟨rs.length+1,g rs.length 0 p c h1 ah ?_ (λk hk b hb=> .inl (hp k hk b hb)) (aM.refl _ _)⟩;have:ig yW 0 (tK (rs.take 0))=yW:=AA (p:=yW);rw[this];exact R
def FS{l:List Int}(R:Rf lo h r M S Wn N f p c (ig yW 0 l))(w1:1<=Wn)(hN:N<=LB/8)(re: ∀hh,aM [S] h hh->rd hh ⟨e,2,none⟩=some (bf r))
  (hK: ∀h',Rf lo h' r M S Wn N f p c yW->aM [S] h h'->K aE h'):F128.wk8 (aw e) (Nat.cast l.length:Int) 0 h K:=by
 have g:LB=140737488355328:=rfl;unfold F128.wk8;have n:=R.len 0 ah;rw[jI]at n
 have a: ∀(d i:Nat) (l':List Int) (hh:aI),i+d=l.length->l'.length=d->Rf lo hh r M S Wn N f p c (ig yW 0 l')->aM [S] h hh->F128.wL8 (d+1) (aw e) (Nat.cast l.length:Int) (i:Int) hh K:=by
  intro d
  induction d with
  |zero=>
   intro i l' hh hi hl R2 O;rw[F128.sL8];rw[L7 ah,aK];have:l'=[]:=MQ hl;subst this;have e1:ig yW 0 []=yW:=AA (p:=yW);rw[e1]at R2;exact hK hh R2 O
  |succ d ih=>
   intro i l' hh hi hl R2 O;rw[F128.sL8];rw[Mg ah,aO];simp only[aL,LX];refine aQ (re hh O) ?_;refine Kg R2 hN (λz=> ?_) λk l2 x ek hk el h3 R3 O3=>⟨_,_,rfl,?_⟩
   ·exfalso;rcases z with z|z
    ·exact z ⟨ah,ah⟩
    ·rw[show((0:Int)).toNat=0 from rfl,jI]at z;rw[z]at hl;cases hl
   ·have k0:k=0:=ah;subst k0;rw[jI]at el;rw[wP]at R3;have e1:ax ((i:Int)+1)=((i+1:Nat):Int):=by rw[bq ah ah];omega
    rw[e1];refine ih (i+1) l2 h3 ah ?_ R3 (O.trans O3 λb hb _=>hb);have:=congrArg List.length el;simp at this;omega
 exact⟨l.length+1,a l.length 0 l h ah rfl R (aM.refl _ _)⟩
def yP{lo:Nat}{h:aI}{r M S Wn N:Nat}{f:Int->Int}{p:Nat->az}{c:Nat->Nat}{L:Nat->List Int}{K:KK}{s:Nat}{Ls:List Nat}{X:SX}(Q':(Nat->Bool)->Int->Int->Prop)(H:bT h s Ls X)(R:Rf lo h r M S Wn N f p c L)(w4:Wn<=4)(hN:N<=LB/64)(hf: ∀a:Nat,f (a:Int)≠0->isN X.N a)(hL: ∀k,k<Wn-> ∀x∈L k,∃a:Nat,x=(a:Int)/\isN X.N a)
  (hK: ∀h' L' keep (rs:List Nat) (a b:Int),(∀a:Nat,a∈rs↔1<a/\(f (a:Int)≠0\/ ∃k,k<Wn/\(a:Int)∈L k))->Mk X.N rs keep []->bT h' s L' {X with N:=cv keep X.N,Q:=Q' keep}->aM Ls h h'->(∃h1:aI,h.size<=h1.size/\bC Ls L' h1)->K (.tuple #[ap a,ap b]) h'):
  Cl 175 [bf s,bf r] h K:=by
 have m:LB=140737488355328:=rfl;refine F175.spec ?_;refine xz R hN w4 λh1 q c1 Rs pw mem Ow O1=>bF rfl ?_;obtain⟨rs,d⟩: ∃rs,rs=Rs.map Int.toNat:=⟨_,rfl⟩;have pos: ∀x∈Rs,1<x:=λx hx=>((mem x).1 hx).1
 have eR:Rs.map (Value.int .u32)=rs.map hv:=by rw[d,NL];refine Nb λx hx=> ?_;have:=pos x hx;show aq x=aq ((x.toNat:Nat):Int);rw[NO ah]
 have el:Rs.length=rs.length:=by rw[d];simp
 have g: ∀a:Nat,a∈rs↔1<a/\(f (a:Int)≠0\/ ∃k,k<Wn/\(a:Int)∈L k):=λa=>by
  rw[d,Ms];constructor
  ·rintro ⟨x,hx,e⟩;have h1:=(mem x).1 hx;have h2:x=(a:Int):=by rw[<-e];exact(NO (Oo (Int.lt_trans (by decide) h1.1))).symm
   rw[h2]at h1;exact⟨Int.ofNat_lt.1 h1.1,h1.2⟩
  ·rintro ⟨h1,h2⟩;exact⟨(a:Int),(mem _).2 ⟨ah,h2⟩,ak⟩
 have is: ∀r∈rs,isN X.N r:=λr hr=>by
  rcases((g r).1 hr).2 with z|⟨k,hk,z⟩
  ·exact hf r z
  ·obtain⟨a,e,ha⟩:=hL k hk _ z;have:r=a:=ah;rw[this];exact ha
 have j:rs.length<=100000:=by
  have nd:Rs.Nodup:=pw.imp λh=>ah
  have l:Rs.length<=((List.range 32770).map λa:Nat=>(a:Int)).length:=nd.length_le_of_subset λx hx=>by
   have h1:=pos x hx;have h2:x.toNat∈rs:=by rw[d];exact Ms.2 ⟨x,hx,rfl⟩
   have h3:=H.isN_lt (is _ h2);exact Ms.2 ⟨x.toNat,MW.2 h3,NO ah⟩
  simp only[ND,PQ]at l;omega
 have H1:=H.only0 O1;rw[el,eR]at Ow;rw[el];exact kN Q' H1 Ow is j λh2 L2 i keep Mk2 S2 O2 F2=>⟨_,_,rfl,hK h2 L2 keep rs i 0 g Mk2 S2 ((O1.mono ak).trans O2 λb hb _=>hb) ⟨h1,O1.size,F2⟩⟩
def F217.T:bh:=⟨[(5,[3,19,20,21])],[(7,[[(0,[]),(1,[]),(2,[]),(3,[]),(4,[]),(5,[]),(6,[]),(7,[]),(8,[]),(9,[]),(10,[]),(11,[]),(12,[]),(13,[]),(14,[]),(15,[]),(16,[]),(17,[]),(18,[]),(19,[]),(20,[0]),(21,[]),(22,[])]])]⟩
section
variable (n:Nat)(l:Addr)(g:az)(f d:Nat)(b:az)(a i:Nat)(j c:Int)(h:aI)(K:KK)
def F217.wL5:Prop:=Lp Tryz.f217 F217.T [1,1,1,0,1,0] n [(3,(.slice g f d)),(19,(.slice b a i)),(20,(ap j)),(21,(ap c))] h K
def F217.sL5:F217.wL5 (n+1) g f d b a i j c h K=(aJ (c<j) (aX b λe=>0<=c/\c<(a:Int)/\aZ (rd h (e.add (c.toNat*1))) λe=>aX e λk=>0<=(0:Int)/\(0:Int)<(3:Int)/\aS .u32 (rd h ((k.add 3).add ((0:Int).toNat*1))) λk=>aX e λl=>0<=(1:Int)/\(1:Int)<(3:Int)/\aS .u32 (rd h ((l.add 3).add ((1:Int).toNat*1))) λl=>aX e λm=>0<=(2:Int)/\(2:Int)<(3:Int)/\aS .u32 (rd h ((m.add 3).add ((2:Int).toNat*1))) λm=>aX e λe=>aS .u32 (rd h (e.add 7)) λe=>bg h (.cells #[aq k,aq l,aq m,aq e] 46) λe k=>aF (.slice g f d)/\fQ k 46 1 4 #[aq 0] g f d (some (aw e)) 4 λd e f g=>F217.wL5 n d e f b a i j (ax (c+1)) g K) (K (.slice g f d) h)):=by kernel_rfl
def F217.wk5:Prop:=(∃e,F217.wL5 e g f d b a i j c h K)
def F217.spec(H:aS .i64 (rd h (l.add 4)) λa=>aJ (a !=0) (K (.slice none 0 0) h) (aS .u32 (rd h (l.add 2)) λa=>bg h (.cells #[aq a] 46) λa b=>cF (rd b (l.add 1)) λc d e=>F217.wk5 (some (aw a)) 1 1 c d e (d:Int) 0 b K)):Cl 217 [au l] h K:=cT F217.T Tryz.func217 H
end
def yh(f:Fk):List Nat:=[f.a0,f.a1,f.a2,f.low]
def BS{h:aI}{A:MA}(M:bG h s A)(hl:A.fs.length<=800000)(hK: ∀h' q c,cy h' h.size 1 q (cR A).length c ((cR A).map hv)->aM [] h h'->K (.slice q (cR A).length c) h'):Cl 217 [bf A.m] h K:=by
 refine F217.spec _ h K ?_;have rm:=bI M.own;simp only[aL,LX];refine aH rm.2.2.2.2 ?_;by_cases he:A.e=0
 ·have em:cR A=A.told::A.fs.flatMap yh:=by unfold cR;rw[L4 he];rfl
  rw[he,show((((0:Nat):Int)) !=0)=false from rfl,aK];refine aH rm.2.2.1 (aW λh1 A1 O1 z1=> ?_);have M1:=M.only0 O1;refine bF (bI M1.own).2.1 ?_;unfold F217.wk5
  have g: ∀(d i:Nat) (q:az) (cq:Nat) (hh:aI),i+d=A.fs.length->cy hh h.size 1 q (A.told::(A.fs.take i).flatMap yh).length cq ((A.told::(A.fs.take i).flatMap yh).map hv)->aM [] h hh->
    F217.wL5 (d+1) q (A.told::(A.fs.take i).flatMap yh).length cq A.fp A.fs.length A.fc (Nat.cast A.fs.length:Int) (i:Int) hh K:=by
   intro d
   induction d with
   |zero=>
    intro i q cq hh hi Ow O;rw[F217.sL5];rw[L7 ah,aK];have ei:i=A.fs.length:=ah;subst ei;rw[NS,<-em]at Ow ⊢;exact hK hh q cq Ow O
   |succ d ih=>
    intro i q cq hh hi Ow O;rw[F217.sL5];rw[Mg ah,aO];have Mh:=M.only0 O;obtain⟨ad,ep,rr⟩:=Mh.win.rd (j:=i) (by simp;omega);rw[ep,aT];refine⟨ah,ah,?_⟩;obtain⟨f,hf⟩: ∃f,A.fs[i]? =some f:=⟨_,Mj ah⟩;have F:=Mh.frm f (Mc hf);obtain⟨-,-,p3,p4,p5,-,p7,-⟩:=a9 F;have r3:rd hh ⟨f.b,3+Int.toNat (0:Int)*1,none⟩=some (aq (f.a0:Int)):=p3;have r4:rd hh ⟨f.b,3+Int.toNat (1:Int)*1,none⟩=some (aq (f.a1:Int)):=p4;have r5:rd hh ⟨f.b,3+Int.toNat (2:Int)*1,none⟩=some (aq (f.a2:Int)):=p5;refine aQ (n:=some (aw f.b)) (by rw[show Int.toNat (i:Int)*1=i by omega,rr];simp[hf,bf]) ?_;simp only[aT,aL,LX];refine⟨ah,ah,aH r3 ⟨ah,ah,aH r4 ⟨ah,ah,aH r5 (aH p7 (aW λh2 A2 O2 z2=>⟨by trivial,?_⟩))⟩⟩⟩
    have ln: ∀l:List Fk,(l.flatMap yh).length=4*l.length:=λl=>by
     induction l with
     |nil=>rfl
     |cons a l ih=>rw[Pg,Mv,ih];simp[yh];omega
    have zO:=O.size;refine im (new:=[hv f.a0,hv f.a1,hv f.a2,hv f.low]) (q:=some (aw hh.size)) (Ow.only O2 ak) rfl (fg A2 ak) rfl (by rw[Nh,ln,NI];omega) (by simp[Value.oneCell']) ah λp' c' h3 W3 O3 k=> ?_;have e2:A.fs.take (i+1)=A.fs.take i++[f]:=by rw[NM,hf];rfl
    have e3:A.told::(A.fs.take (i+1)).flatMap yh=(A.told::(A.fs.take i).flatMap yh)++[f.a0,f.a1,f.a2,f.low]:=by rw[e2,List.flatMap_append];simp[yh]
    have e4:(A.told::(A.fs.take i).flatMap yh).length+4=(A.told::(A.fs.take (i+1)).flatMap yh).length:=by rw[e3,Mv];rfl
    have e5:(A.told::(A.fs.take i).flatMap yh).map hv++[hv f.a0,hv f.a1,hv f.a2,hv f.low]=(A.told::(A.fs.take (i+1)).flatMap yh).map hv:=by rw[e3,MJ];rfl
    rw[e4,e5]at W3;rw[e4,<-ep,show ax ((i:Int)+1)=((i+1:Nat):Int) by rw[wrap_i64 ah ah];omega];exact ih (i+1) p' c' h3 ah W3 ((O.trans O2 ak).trans O3 λb hb hl=>by have:=(Ow.lt b hb).1;omega)
  exact⟨A.fs.length+1,g A.fs.length 0 _ _ h1 ah ⟨rfl,.inr ⟨h.size,[],rfl,Mb _,Mb _,rfl,A1⟩⟩ O1⟩
 ·have em:cR A=[]:=LY he;rw[show(((A.e:Nat):Int) !=0)=true from PH.2 ah,aO];rw[em]at hK;exact hK h none 0 (cy.nil _ _ _) (aM.refl _ _)
def An{xs:List Int}(H:cy h lo 1 q xs.length c (xs.map (Value.int .i64)))(hn:xs.length<=12)
  (hK: ∀h' ys,List.Perm ys xs->cy h' lo 1 q xs.length c (ys.map (Value.int .i64))->aM (aV q) h h'->K aE h'):Cl 265 [.slice q xs.length c] h K:=by
 have d:LB=140737488355328:=rfl;rcases H.2 with⟨rfl,h0,h1⟩|⟨b,sp,rfl,h2,h3,h4,h5⟩
 ·exact Ef ah (hK h xs (PD _) H (aM.refl _ _))
 ·have A:cf .i64 h b xs.length (λi=>xs.getD i 0) sp:=by
   unfold cf;rw[<-rO];exact h5
  refine F265.spec ?_;rw[bZ ah ah];refine vT ah λL=>aH rfl ?_;refine F298.spec _ _ _ _ _ _ h _ ⟨1,?_⟩;rw[F298.sL2];rw[wrap_i64 ah ah,Mg ah,aO];refine IN.ins76 (a:=0) A (Mb _) (Nq _) ah λh' g' A' R' S' O'=>⟨rfl,rfl,hK h' ((List.range xs.length).map g') ?_ ⟨ak,.inr ⟨b,sp,rfl,h2,h3,h4,?_⟩⟩ (O'.mono (by simp[aV]))⟩
  ·have:=S'.perm (n:=xs.length) (Mb _);rw[uc]at this;exact this
  ·rw[<-tz];exact A'
def yF{h:aI}{P:PS}(H:bO h p s P)(hj:P.jobs.length<=12)(hf: ∀j∈P.jobs,j.A.fs.length<=800000)(o:P.last<100000000)
  (hK: ∀h' q c (rs:List Nat),(∀a,a∈rs↔ ∃j∈P.jobs,a∈cR j.A)->rs.length<=40000000->cy h' h.size 1 q rs.length c (rs.map hv)->aM [] h h'->K (.slice q rs.length c) h'):Cl 173 [bf p] h K:=by
 refine F173.spec _ h K ?_;simp only[aL,LX];refine⟨_,by rw[At.rd H.own];rfl,?_⟩;refine F216.spec _ h _ ?_;refine aW λh1 A1 O1 z1=>⟨_,rfl,?_⟩;refine F215.spec ?_;refine F264.spec ?_;have M1:=H.jbm.only O1 ak;have ids:=H.ids;refine IN.appSeq A1 M1 (λx hx=> ?_) (by simp;omega) λpi ci h2 ss hp Ow O2=>bF rfl ?_
 ·simp only[NL,Ms]at hx;obtain⟨j,f,e⟩:=hx;have e:(j.id:Int)=x:=e;have b1:=ids.2 j f;rw[<-e];have m1:IntKind.min .i64= -9223372036854775808:=by decide
  have m2:IntKind.max .i64=9223372036854775807:=by decide
  simp only[Lit.wf,Mu,MG];exact⟨ah,ah⟩
 have sl:ss.length=P.jobs.length:=by rw[hp.length_eq];simp
 refine bF rfl (An (Ow.weak (lo':=h.size) ah) ah λh3 ys py OwI O3=>⟨rfl,bF rfl ?_⟩);have O03:aM [] h h3:=(O1.trans O2 ak).trans O3 λb hb hl=>by have:=(Ow.lt b hb).1;omega
 have yl:ys.length=ss.length:=py.length_eq
 have key: ∀x∈ys,∃j∈P.jobs,(j.id:Int)=x:=λx hx=>by have:=hp.mem_iff.1 (py.mem_iff.1 hx);simp only[NL,Ms]at this;obtain⟨j,f,e⟩:=this;exact⟨j,f,e⟩
 have t: ∀b∈aV pi,b<h3.size:=λb hb=>(OwI.lt b hb).2;unfold F173.wk3
 have l: ∀(d i:Nat) (out:List Nat) (q:az) (cq:Nat) (hh:aI),i+d=ss.length->cy hh h.size 1 q out.length cq (out.map hv)->(∀b∈aV q,h3.size<=b)->(∀a,a∈out↔ ∃x∈ys.take i,∃j∈P.jobs,(j.id:Int)=x/\a∈cR j.A)->out.length<=i*3200001->cy hh h.size 1 pi ss.length ci (ys.map (Value.int .i64))->aM [] h hh->h3.size<=hh.size->
   F173.wL3 (d+1) (aw p) q out.length cq pi ss.length ci (Nat.cast ss.length:Int) (i:Int) hh K:=by
  intro d
  induction d with
  |zero=>
   intro i out q cq hh hi Ow hq mem ln OwI O z3;rw[F173.sL3];rw[L7 ah,aK];have ei:i=ys.length:=ah;subst ei;rw[NS]at mem;refine hK hh q cq out (λa=> ?_) (by have:ys.length*3200001<=12*3200001:=N0 _ ah;omega) Ow O;rw[mem];constructor
   ·rintro ⟨x,-,j,f,-,ha⟩;exact⟨j,f,ha⟩
   ·rintro ⟨j,f,ha⟩;exact⟨(j.id:Int),py.mem_iff.2 (hp.mem_iff.2 (by simp only[NL,Ms];exact⟨j,f,rfl⟩)),j,f,rfl,ha⟩
  |succ d ih=>
   intro i out q cq hh hi Ow hq mem ln OwI O z3;rw[F173.sL3];rw[Mg ah,aO];obtain⟨b,eb,rr⟩:=OwI.rd (j:=i) (by simp;omega);obtain⟨x,hx⟩: ∃x,ys[i]? =some x:=⟨_,Mj ah⟩;rw[eb,aT,<-eb];simp only[aL,LX];refine⟨ah,ah,aH (n:=x) (by rw[show Int.toNat (i:Int)*1=i by omega,rr];simp[hx]) ?_⟩;have Hh:=H.only0 O;obtain⟨j,f,ej⟩:=key x (Mc hx);obtain⟨y,hy⟩:=N7 f;have lk:=jO ids.1 hy;refine⟨_,by rw[At.rd Hh.own];rfl,?_⟩;rw[<-ej];refine dg Hh.jbm (λe=> ?_) λx' v e=> ?_
   ·rw[lk]at e;cases e
   ·rw[lk]at e;injection e with e;subst e;refine aQ (n:=some (aw j.A.m)) rfl ?_;refine BS (Hh.ma j f) (hf j f) λh7 pq B Ow7 O7=>bF rfl ?_;have e2:ys.take (i+1)=ys.take i++[x]:=by rw[NM,hx];rfl
    have l7:=vb (A:=j.A);have l8:=hf j f;have zO:=O.size;refine im (new:=(cR j.A).map hv) (Ow.only O7 ak) ak Ow7.row rfl (by have:i*3200001<=12*3200001:=N0 _ ah;omega) (by simp[Value.oneCell']) (by have:=O7.size;omega) λp' c' h8 W8 O8 u=> ?_;have e4:out.length+(cR j.A).length=(out++cR j.A).length:=by rw[Mv]
    rw[e4,<-MJ]at W8;rw[e4,show ax ((i:Int)+1)=((i+1:Nat):Int) by rw[wrap_i64 ah ah];omega];refine ih (i+1) (out++cR j.A) p' c' h8 ah W8 (λb hb=> ?_) (λa=> ?_) (by rw[Mv,OH];omega) ((OwI.only O7 ak).only O8 λb eb hm=> ?_) ((O.trans O7 ak).trans O8 λb hb hl=>by have:=(Ow.lt b hb).1;omega) (by have:=O7.size;have:=O8.size;omega)
    ·rcases u b hb with w|w
     ·exact hq b w
     ·have:=O7.size;omega
    ·rw[List.mem_append,mem,e2];constructor
     ·rintro (⟨z,hz,w⟩|w)
      ·exact⟨z,Zp (.inl hz),w⟩
      ·exact⟨x,ak,j,f,ej,w⟩
     ·rintro ⟨z,hz,j',k,ez,w⟩;rcases Zq hz with hz|hz
      ·exact .inl ⟨z,hz,j',k,ez,w⟩
      ·have:z=x:=by simpa using hz
       right;obtain⟨y',g⟩:=N7 k;have i1:(P.jobs.map (·.id))[y']? =some j'.id:=by rw[Mx,g];rfl
       have i2:(P.jobs.map (·.id))[y]? =some j'.id:=by rw[Mx,hy];exact congrArg some (show j.id=j'.id by omega)
       have:=fJ ids.1 i1 i2;subst this;rw[hy]at g;injection g with g;rw[g];exact w
    ·have l1:=t b (by rw[eb];simp[aV]);have l2:=hq b hm;omega
 exact⟨ss.length+1,l ss.length 0 [] none 0 h3 ah (cy.nil _ _ _) (by simp[aV]) (λa=>ak) ak OwI O03 (Mb _)⟩
def qZ(W:dh h e G)(hj:G.P.jobs.length<=12)(hM:G.M<=LB/1000)
  (hK: ∀h' G',tg G G'->dh h' e G'->bD e G h G' h'->K aE h'):Cl 128 [bf e] h K:=by
 have t:LB=140737488355328:=rfl;refine F128.spec _ h K ?_;simp only[aL,LX];refine aQ W.I.p (yF W.W.H hj (λj hm=> ?_) W.W.Ok.last λh1 q cq rs mem ln Ow O1=>bF rfl ?_)
 ·have a1:=iU (n:=G.n) (N:=G.N) j.A.fs;have a2:=(W.W.Ok.mst j hm).2.1;omega
 have lt:=W.lt;obtain⟨lo,M,S,Wn,p,c,R,w1,w4,u,eB⟩:=W.R;have R1:=R.new O1;have z1:=O1.size;have rB:G.E.r∈G.B:=by rw[eB];simp
 have MB:M∈G.B:=by rw[eB];simp
 have SB:S∈G.B:=by rw[eB];simp
 have pB: ∀k,k<Wn-> ∀b∈aV (p k),b∈G.B:=λk hk b hb=>by rw[eB];simp only[List.mem_cons,Nz,MW];exact .inr (.inr (.inr ⟨k,hk,hb⟩))
 have d: ∀b∈G.B,b<h.size:=λb hb=>lt b (bo.2 (.inr (.inr (.inl hb))));have m: ∀b∈G.L,b<h.size:=λb hb=>lt b (bo.2 (.inr (.inl hb)));have I1:=W.I.only0 O1;refine DK (B:=G.B) (e:=e) R1 w1 ah ah (λhh O=>(I1.only O W.de.2.2).r) Ow d SB pB λh2 p2 c2 R2 B2 O2=> ?_;have z2:=O2.size;unfold F128.wk6;have I2:=I1.only O2 W.de.2.2;have S2:=(W.W.S.only0 O1).only O2 (λb hb=>(W.dB b hb).1);simp only[aL,LX];refine aQ I2.s (aQ I2.r (yP (λkeep=>QL G.n G.fo (cv keep G.N)) S2 R2 w4 ah (λa ha=> ?_) (λk hk x hx=> ?_) λh3 L3 keep ks a b g Mk3 S3 O3 F3=>⟨_,_,rfl,?_⟩))
 ·obtain⟨i,hi,q,hq,ht,he⟩:=(held W.C).1 ha;rw[<-he];exact W.rg i hi q hq ht
 ·unfold ig at hx;by_cases q0:k=0
  ·rw[L4 q0]at hx;obtain⟨a,ha,ex⟩:=Ms.1 hx;obtain⟨j,hj,hm⟩:=(mem a).1 ha;exact⟨a,ex.symm,(W.W.Ok.mst j hj).1.roots a hm⟩
  ·rw[LY q0]at hx;cases hx
 obtain⟨hf,zf,F3⟩:=F3;have nL: ∀{b},b∈G.B->b∉G.L:=λhb=>(W.dB _ hb).1
 have R3:=R2.only O3 (nL rB) (nL SB) (nL MB) λk hk b hb hm=>by
  rcases B2 k hk b hb with y|y
  ·exact nL y hm
  ·have:=m b hm;omega
 have I3:=I2.only O3 W.de.1;have el:(tK rs).length=rs.length:=by simp[tK]
 have fin:=FS (K:=K) (e:=e) R3 w1 ah (λhh O=>(I3.only O (λhm=>by simp at hm;exact W.de.2.2 (hm▸SB))).r) λh4 R4 O4=> ?_
 ·rw[el]at fin;exact fin
 have z3:=O3.size;have z4:=O4.size;have l:=R2.lt;have R5:qn h4 G.E.r G.M G.f (G.E.r::M::S::(List.range Wn).flatMap λk=>aV (p2 k)):=⟨lo,M,S,Wn,p2,c2,R.back R4 (λk hk=>Nq _),w1,w4,ah,rfl⟩
 have SL:S∉L3:=λhm=>by
  rcases F3 S hm with y|y
  ·exact nL SB y
  ·have:=d S SB;omega
 have S4:=S3.only O4 (λb hb hm=>by simp at hb;subst hb;exact SL hm)
 have OO:aM (G.L++G.B) h h4:=(((O1.mono (T:=G.L++G.B) ak).trans O2 λb hb _=>Zp (.inr hb)).trans O3 λb hb _=>Zp (.inl hb)).trans O4 λb hb _=>by simp at hb;subst hb;exact Zp (.inr SB)
 obtain⟨W5,T5⟩:=W.retJ (h2:=hf) Mk3 (λa a1 a2=>(g a).2 ⟨a1,.inl a2⟩) (λj hj a hm a1=>(g a).2 ⟨a1,.inr ⟨0,ah,by rw[jI];exact Ms.2 ⟨a,(mem a).2 ⟨j,hj,hm⟩,rfl⟩⟩⟩) S4 R5 ah OO F3 λb hb=>by
  simp only[List.mem_cons,Nz,MW]at hb;rcases hb with y|y|y|⟨k,hk,y⟩
  ·rw[y];exact .inl rB
  ·rw[y];exact .inl MB
  ·rw[y];exact .inl SB
  ·rcases B2 k hk b y with w|w
   ·exact .inl w
   ·have:=(l.2.2.2 k hk b y).2;exact .inr ⟨ah,ah⟩
 have cl: ∀i x,nd G.N i=some x->keep (i+2)=true->(x.2.1<2\/keep x.2.1=true)/\(x.2.2<2\/keep x.2.2=true):=λi x hx hk=>by have:=Mk3.cl i x hx hk;simpa using this
 have o:cX G.n G.N:=W.W.S.ok.1;have ex:Ex (cv keep G.N) G.N:=(ot o cl).2.2;exact hK h4 (Hw G (cv keep G.N) L3 _) ⟨rfl,rfl,rfl,rfl,rfl,rfl,rfl,rfl,ex,qd ex,rfl,W5.W.Ok,W5.W.S.ok.1,W5.rg⟩ W5 T5
def od:so λG=>G.P.jobs.length<=12:=by intro h e G K W hc hM hK;refine F80.spec ?_;have rs:rd h (aw e)=some (au (aw G.E.s)):=W.I.s;simp only[aL,LX];refine aQ rs (aQ rs (n0 W.W.S (aH rfl ⟨trivial,trivial,trivial,aQ rs ⟨rfl,oJ W.W.S (aH rfl ?_)⟩⟩)));exact aR (λ_=>qZ W hc hM λh1 G1 C1 W1 S1=>⟨rfl,hK h1 G1 W1 C1 S1⟩) λ_=>hK h G W (tg.refl W) bD.refl
def rN(G:EG)(fo gg:Nat->Nat)(N:ay)(L:List Nat):EG:={G with fo:=fo,gg:=gg,N:=N,L:=L}
def GL(P:cu n fo gg):FE n fo:=λj hj=>⟨(P.2 j hj).1,λi hi q=>by have a:=(P.2 i hi).2;rw[q,(P.2 j hj).2]at a;exact a.symm⟩
def dh.turn{G:EG}(W:dh h e G)(hj:G.P.jobs=[])(S:bT h' G.E.s L' (XL G.n G.room fo gg N' G.off))(P:cu G.n fo gg)(R: ∀k,k<4-> ∀r,r<6->(G.E.ses k).there r=true->isN N' ((G.E.ses k).hnd r))(O:aM G.L h h')(F:bC G.L L' h):
  dh h' e (rN G fo gg N' L')/\bD e G h (rN G fo gg N' L') h':=by
 have lt:=W.lt
 have DP: ∀b,dD G.E.p G.P b->b∉L':=λb hb hm=>by
  rcases F b hm with q|q
  ·exact W.W.D b hb q
  ·have:=lt b (bo.2 (.inr (.inr (.inr hb))));omega
 refine⟨⟨⟨S,W.W.H.only O λb hb hp=>W.W.D b hp hb,⟨λj a=>(by have a:j∈G.P.jobs:=a;rw[hj]at a;cases a),W.W.Ok.at_,W.W.Ok.one,W.W.Ok.loc,W.W.Ok.T,W.W.Ok.len,W.W.Ok.last,W.W.Ok.steals⟩,P,DP⟩,W.R.only O (λb hb hm=>(W.dB b hm).1 hb),W.I.only O W.de.1,W.C,⟨λhm=> ?_,W.de.2.1,W.de.2.2⟩,λb hb=>⟨λhm=> ?_,(W.dB b hb).2⟩,R,W.r0,W.mq,P⟩,⟨λT hT=>O.mono λb hb _=>hT b (bo.2 (.inr (.inl hb))),λb hb=> ?_⟩⟩
 ·rcases F e hm with q|q
  ·exact W.de.1 q
  ·have:=lt e (bo.2 (.inl rfl));omega
 ·rcases F b hm with q|q
  ·exact(W.dB b hb).1 q
  ·have:=lt b (bo.2 (.inr (.inr (.inl hb))));omega
 ·rcases bo.1 hb with q|q|q|q
  ·exact .inl (bo.2 (.inl q))
  ·rcases F b q with q|q
   ·exact .inl (bo.2 (.inr (.inl q)))
   ·exact .inr q
  ·exact .inl (bo.2 (.inr (.inr (.inl q))))
  ·exact .inl (bo.2 (.inr (.inr (.inr q))))
def yn{h:aI}{e:Nat}{G:EG}{K:KK}(W:dh h e G)(hj:G.P.jobs=[])(hM:G.M<=LB/1000)
  (hK: ∀h' fo gg N' L',dh h' e (rN G fo gg N' L')->bD e G h (rN G fo gg N' L') h'->K aE h'):Cl 171 [bf e] h K:=by
 have u:LB=140737488355328:=rfl;refine F171.spec ?_;simp only[aL,LX];refine aQ W.I.s (aQ W.I.r ?_);have W0:=W;obtain⟨lo,M,S,Wn,p,c,R,w1,w4,hl,eB⟩:=W.R;refine xz R ah w4 λh1 q o Rs pw mem Ow O1=>bF rfl ⟨by trivial,by trivial,by trivial,?_⟩;obtain⟨rs,d⟩: ∃rs,rs=Rs.map Int.toNat:=⟨_,rfl⟩;have pos: ∀x∈Rs,1<x:=λx hx=>((mem x).1 hx).1
 have eR:Rs.map (Value.int .u32)=rs.map hv:=by rw[d,NL];refine Nb λx hx=> ?_;have:=pos x hx;show aq x=aq ((x.toNat:Nat):Int);rw[NO ah]
 have el:Rs.length=rs.length:=by rw[d];simp
 have j: ∀a:Nat,a∈rs↔1<a/\G.f (a:Int)≠0:=λa=>by
  rw[d,Ms];constructor
  ·rintro ⟨x,hx,e⟩;have h1:=(mem x).1 hx;have h2:x=(a:Int):=by rw[<-e];exact(NO (Oo (Int.lt_trans (by decide) h1.1))).symm
   rw[h2]at h1;refine⟨Int.ofNat_lt.1 h1.1,?_⟩;rcases h1.2 with z|⟨k,-,z⟩
   ·exact z
   ·cases z
  ·rintro ⟨h1,h2⟩;exact⟨(a:Int),(mem _).2 ⟨ah,.inl h2⟩,ak⟩
 have is: ∀r∈rs,isN G.N r:=λr hr=>by obtain⟨i,hi,q,hq,ht,he⟩:=(held W0.C).1 ((j r).1 hr).2;rw[<-he];exact W0.rg i hi q hq ht
 have g:rs.length<=100000:=by
  have nd:Rs.Nodup:=pw.imp λh=>ah
  have t:Rs.length<=((List.range 32770).map λa:Nat=>(a:Int)).length:=nd.length_le_of_subset λx hx=>by
   have h1:=pos x hx;have h2:x.toNat∈rs:=by rw[d];exact Ms.2 ⟨x,hx,rfl⟩
   have h3:=W0.W.S.isN_lt (is _ h2);exact Ms.2 ⟨x.toNat,MW.2 h3,NO ah⟩
  simp only[ND,PQ]at t;omega
 rw[eR]at Ow;rw[el]at Ow ⊢;have W1:=W0.only0 O1;refine aQ W1.I.s ⟨by trivial,?_⟩
 have Sf:nO h1 G.E.s G.n G.room G.fo G.gg G.off G.N G.L rs (λr x=>sm G.n G.fo G.N r x) h.size q o:=by refine⟨W1.W.S,W1.po,Ow,λy hy hm=> ?_,λr hr=>⟨is r hr,λx=>rfl⟩,g⟩;have:=(Ow.lt y hy).1;have:=W0.W.S.lt y hm;omega
 refine JF Sf λh2 L2 l m N2 a b er S2 O2 F2=>⟨_,_,_,rfl,?_⟩
 have SR: ∀k,k<4-> ∀r,r<6->(G.E.ses k).there r=true->isN N2 ((G.E.ses k).hnd r):=λk hk r hr ht=>by
  by_cases z:(G.E.ses k).hnd r<2
  ·exact .inl z
  ·exact(S2.ir _ ((j _).2 ⟨ah,(held W0.C).2 ⟨k,hk,r,hr,ht,rfl⟩⟩)).1
 obtain⟨W2,T2⟩:=W1.turn hj S2.S S2.P SR O2 F2;exact hK h2 l m N2 L2 W2 ((bD.only0 O1).trans T2)
def CU(W:dh h e G)(hi:i<4)(hM:G.M<=LB/1000)(ha:G.E.ans<1000000000)(hj: ¬tR G.E->G.P.jobs=[])(hW:tR G.E-> ∀h',aM [] h h'->K aB h')
  (hK: ∀h' fo gg N' L',¬tR G.E->dh h' e (gS (rN G fo gg N' L') i 0 0)->bD e G h (gS (rN G fo gg N' L') i 0 0) h'->K aC h'):Cl 126 [bf e,kz e i] h K:=by
 refine F126.spec ?_;refine vr W.I (λa h1 O1=>a8 rfl (by rw[aO];exact hW a h1 O1)) λa h1 O1=>a8 rfl ?_;rw[aK];have W1:=W.only0 O1;refine yn W1 (hj a) hM λh2 fo gg N2 L2 W2 S2=>⟨rfl,?_⟩;exact dK (n:=0) W2 hi ha λh3 W3 S3=>⟨rfl,hK h3 fo gg N2 L2 a W3 (((bD.only0 O1).trans S2).trans S3)⟩
def HA(W:dh h e G)(hi:i<4)(hj:G.P.jobs.length<=12)(hM:G.M<=LB/1000)(ha:G.E.ans<1000000000)
  (hK: ∀h' G1,tg G G1->dh h' e (gS G1 i 0 0)->bD e G h (gS G1 i 0 0) h'->K aC h'):Cl 125 [bf e,kz e i] h K:=by
 refine F125.spec ?_;refine qZ W hj hM λh1 G1 C1 W1 S1=>⟨rfl,?_⟩;exact dK (n:=0) W1 hi (by rw[C1.E];exact ha) λh2 W2 S2=>⟨rfl,hK h2 G1 C1 W2 (S1.trans S2)⟩
def qz(G:EG)(x:gi):Nat:=if x.cal.kind=4 then tA G.n G.fo G.N (x.hnd x.cal.a.toNat)else if x.hnd x.cal.a.toNat=x.hnd x.cal.b.toNat then 1 else 0
def Cs(W:dh h e G)(hi:i<4)(ha:G.E.ans<1000000000)(hk:(G.E.ses i).cal.kind=4\/(G.E.ses i).cal.kind=5)(ok:nh (G.E.ses i) (G.E.ses i).cal) 
  (hK: ∀h',dh h' e (gS G i 0 (qz G (G.E.ses i)))->bD e G h (gS G i 0 (qz G (G.E.ses i))) h'->K aC h'):Cl 124 [bf e,kz e i] h K:=by
 refine F124.spec ?_;have oa:mK (G.E.ses i).cal.a/\(G.E.ses i).there (G.E.ses i).cal.a.toNat=true:=ok _ (by unfold kq;rcases hk with k|k<;>rw[k]<;>simp);have a6:(G.E.ses i).cal.a.toNat<6:=by have:=oa.1;unfold mK at this;omega
 refine F169.spec ?_;simp only[aL,LX];refine aH (W.I.ca hi ah) ⟨oa.1.1,oa.1.2,aH (W.I.hnd hi a6 ah) (aH (W.I.kind hi ah) ?_)⟩;rcases hk with k|k
 ·rw[k,show((4:Int)==4)=true from rfl,aO];refine aQ W.I.s ?_;refine Dq (X:=XL G.n G.room G.fo G.gg G.N G.off) (GL W.po) W.W.S (W.rg i hi _ a6 oa.2) λh1 O1=>⟨_,_,rfl,aH rfl ?_⟩;have W1:=W.only0 O1;have en:qz G (G.E.ses i)=tA G.n G.fo G.N ((G.E.ses i).hnd (G.E.ses i).cal.a.toNat):=L4 k;rw[en]at hK;exact dK W1 hi ha λh2 W2 S2=>⟨rfl,hK h2 W2 ((bD.only0 O1).trans S2)⟩
 ·have ob:mK (G.E.ses i).cal.b/\(G.E.ses i).there (G.E.ses i).cal.b.toNat=true:=ok _ (by unfold kq;rw[k];simp);have b6:(G.E.ses i).cal.b.toNat<6:=by have:=ob.1;unfold mK at this;omega
  rw[k,show((5:Int)==4)=false from rfl,aK];refine aH (W.I.cb hi ah) ⟨ob.1.1,ob.1.2,aH (W.I.hnd hi b6 ah) ?_⟩;have en:qz G (G.E.ses i)=if(G.E.ses i).hnd (G.E.ses i).cal.a.toNat=(G.E.ses i).hnd (G.E.ses i).cal.b.toNat then 1 else 0:=LY ah
  rw[en]at hK;refine aR (λq=> ?_) λq=> ?_
  ·have q:(G.E.ses i).hnd (G.E.ses i).cal.a.toNat=(G.E.ses i).hnd (G.E.ses i).cal.b.toNat:=by
    have:=eq_of_beq q;omega
   rw[L4 q]at hK;exact aH (n:=1) rfl (dK (n:=1) W hi ha λh2 W2 S2=>⟨rfl,hK h2 W2 S2⟩)
  ·have q: ¬(G.E.ses i).hnd (G.E.ses i).cal.a.toNat=(G.E.ses i).hnd (G.E.ses i).cal.b.toNat:=λz=>by
    rw[z]at q;simp at q
   rw[LY q]at hK;exact aH (n:=0) rfl (dK (n:=0) W hi ha λh2 W2 S2=>⟨rfl,hK h2 W2 S2⟩)
def wt(x:gi):Nat:=if x.pend=true then(if x.cal.kind=3/\x.job=0 then 131004 else 1)else 0
def frs(x:gi):Nat:=if x.pend=true/\x.cal.kind=3/\x.job=0 then 1 else 0
def yZ(x:gi):Nat:=if x.pend=true then 1 else 0
def kC(G:EG):Nat:=fT (λi=>wt (G.E.ses i)) 4+fH G.n G.N G.P
structure GI(t nw:Nat)(h:aI)(e:Nat)(G:EG):Prop where
 W:dh h e G
 ok: ∀i,i<4->(G.E.ses i).pend=true->fC G.n (G.E.ses i) (G.E.ses i).cal=0
 jb: ∀i,i<4->(G.E.ses i).pend=true->(G.E.ses i).job≠0->(G.E.ses i).cal.kind=3/\ ∃j∈G.P.jobs,j.id=(G.E.ses i).job
 js: ∀j∈G.P.jobs,∃i,i<4/\(G.E.ses i).pend=true/\(G.E.ses i).job=j.id
 un: ∀i,i<4-> ∀k,k<4->(G.E.ses i).pend=true->(G.E.ses k).pend=true->(G.E.ses i).job=(G.E.ses k).job->(G.E.ses i).job≠0->i=k
 bl:G.P.last+fT (λi=>frs (G.E.ses i)) 4<=t
 ba:G.E.ans+fT (λi=>yZ (G.E.ses i)) 4<=t
 bm:G.M<=2*G.E.ans
 bt:t<=1000000
 ws:G.P.ws.length=nw
def Fl(G:EG)(i:Nat):Prop:=((G.E.ses i).cal.kind=8/\tR G.E)\/((G.E.ses i).cal.kind=3/\(G.E.ses i).job=0/\Ar G.E)\/((G.E.ses i).cal.kind=3/\(G.E.ses i).job≠0/\ ∃j∈G.P.jobs,j.id=(G.E.ses i).job/\j.A.done=false)
def pd{G G1:EG}(C:tg G G1):fH G1.n G1.N G1.P=fH G.n G.N G.P:=by
 have em: ∀j∈G1.P.jobs,ib G1.n G.N j.A=ib G1.n G1.N j.A:=λj hj=>((C.pk.mst j hj).1.same C.ok C.ex).2.2
 have e:fH G1.n G.N G1.P=fH G1.n G1.N G1.P:=by unfold fH;rw[Nb em]
 rw[<-e,C.n,C.P]
def oX{α:Type}(f:α->Nat)(p:α->Bool): ∀l:List α,((l.filter p).map f).sum<=(l.map f).sum
 | []=>Mb _
 |a::l=>by have:=oX f p l;rw[OF];split<;>simp<;>omega
def Hn{P:PS}(H:cd n fo N P)(h4:P.jobs.length<=4):fH n N P<=4*131002:=by
 have h1:=fO (locs P.ws) (P.jobs.map λj=>(j.id:Int)) H.one λx hx=>by obtain⟨j,hj,e,-⟩:=H.at_ x hx;exact Ms.2 ⟨j,hj,e.symm⟩
 rw[ND]at h1
 have ql: ∀l:List Wk,qlen l<=(locs l).length:=λl=>by
  induction l with
  |nil=>exact Mb _
  |cons k l ih=>
   have e1:qlen (k::l)=k.q.length+qlen l:=by simp[qlen]
   have e2:(locs (k::l)).length=k.loc.length+(locs l).length:=by simp[locs]
   have:k.q.length<=k.loc.length:=by unfold Wk.loc;simp
   omega
 have h2:=ql P.ws
 have h3: ∀l:List Jb,(∀j∈l,ib n N j.A<=131001)->(l.map λj=>ib n N j.A).sum<=l.length*131001:=λl hl=>by
  induction l with
  |nil=>simp
  |cons a l ih=>
   have:=hl a Og;have:=ih λj hj=>hl j (My _ hj);simp only[Mz,Ot,Nh];omega
 have b:=h3 P.jobs λj hj=>by have:=(H.mst j hj).2.2;unfold ib;split<;>omega
 unfold fH;have:P.jobs.length*131001<=4*131001:=N0 _ h4;omega
def qV(h:bS x≠0): ∃o:Nat,x=(o:Int)/\(o=1\/o=2\/o=3\/o=4\/o=5\/o=6\/o=7\/o=8\/o=9\/o=10):=by
 unfold bS at h;refine⟨x.toNat,?_⟩;split at h
 ·omega
 split at h
 ·omega
 split at h
 ·omega
 ·exact Mw rfl h
def gW{i:Nat}{f:gi->Nat}{E E':gQ}{x:gi}(hi:i<4)(es:E'.ses=iZ E.ses i x):fT (λi=>f (E'.ses i)) 4+f (E.ses i)=fT (λi=>f (E.ses i)) 4+f x:=by have:=sD (g:=λi=>f (E.ses i)) (g':=λi=>f (E'.ses i)) (k:=i) (λj hj=>by show f (E'.ses j)=f (E.ses j);rw[es,cK hj]) 4 hi;rw[show f (E'.ses i)=f x by rw[es,dt]]at this;exact this
def GI.j4(I:GI t nw h e G):G.P.jobs.length<=4:=by
 have:=I.W.W.H.ids.1.length_le_of_subset (l₂:=(List.range 4).map λi=>(G.E.ses i).job) λx hx=>by obtain⟨j,hj,rfl⟩:=Ms.1 hx;obtain⟨i,hi,-,q⟩:=I.js j hj;exact Ms.2 ⟨i,MW.2 hi,q⟩
 simpa using this
def GI.only0(I:GI t nw h e G)(O:aM [] h h'):GI t nw h' e G:=⟨I.W.only0 O,I.ok,I.jb,I.js,I.un,I.bl,I.ba,I.bm,I.bt,I.ws⟩
def GI.bnd(I:GI t nw h e G):kC G<=1048064:=by
 have h1:=Hn I.W.W.Ok I.j4
 have h2: ∀i,wt (G.E.ses i)<=131004:=λi=>by
  unfold wt
  repeat' split
  all_goals omega
 have:fT (λi=>wt (G.E.ses i)) 4=0+wt (G.E.ses 0)+wt (G.E.ses 1)+wt (G.E.ses 2)+wt (G.E.ses 3):=rfl;have:=h2 0;have:=h2 1;have:=h2 2;have:=h2 3;unfold kC;omega
def GI.ans{G G':EG}(I:GI t nw h e G)(hi:i<4)(hp:(G.E.ses i).pend=true)(W':dh h' e G'){x':gi}(es:G'.E.ses=iZ G.E.ses i x')(xp:x'.pend=false)(en:G'.n=G.n)(ea:G'.E.ans=G.E.ans+1)(em:G'.M<=G.M+2)(el:G'.P.last=G.P.last)(ew:G'.P.ws.length=G.P.ws.length)
  (ej: ∀j,j∈G'.P.jobs↔j∈G.P.jobs/\j.id≠(G.E.ses i).job) (ep:fH G'.n G'.N G'.P<=fH G.n G.N G.P):GI t nw h' e G'/\kC G'+1<=kC G:=by
 have sk: ∀{k},k≠i->G'.E.ses k=G.E.ses k:=λhk=>by rw[es,cK hk]
 have si:G'.E.ses i=x':=by rw[es,dt]
 have ne: ∀{k},(G'.E.ses k).pend=true->k≠i:=λhk q=>by rw[q,si,xp]at hk;cases hk
 have s1:=gW (f:=wt) hi es;have s2:=gW (f:=frs) hi es;have s3:=gW (f:=yZ) hi es
 have w1:1<=wt (G.E.ses i):=by unfold wt;rw[L4 hp];split<;>omega
 have w2:wt x'=0:=by unfold wt;rw[xp];rfl
 have w3:frs x'=0:=by unfold frs;rw[xp];simp
 have w4:yZ x'=0:=by unfold yZ;rw[xp];rfl
 have w5:yZ (G.E.ses i)=1:=by unfold yZ;rw[L4 hp]
 refine⟨⟨W',λk hk q=> ?_,λk hk q z=> ?_,λj hj=> ?_,λk hk m hm q1 q2 q3 q4=> ?_,?_,?_,?_,I.bt,ew.trans I.ws⟩,?_⟩
 ·have n1:=ne q;rw[sk n1,en];rw[sk n1]at q;exact I.ok k hk q
 ·have n1:=ne q;rw[sk n1]at q z ⊢;obtain⟨a,j,hj,b⟩:=I.jb k hk q z;refine⟨a,j,(ej j).2 ⟨hj,λy=>n1 (I.un k hk i hi q hp ah z)⟩,b⟩
 ·obtain⟨h1,h2⟩:=(ej j).1 hj;obtain⟨k,hk,a,b⟩:=I.js j h1;have n1:k≠i:=λy=>h2 (by rw[<-b,y]);exact⟨k,hk,by rw[sk n1];exact a,by rw[sk n1];exact b⟩
 ·have n1:=ne q1;have n2:=ne q2;rw[sk n1]at q1 q3 q4;rw[sk n2]at q2 q3;exact I.un k hk m hm q1 q2 q3 q4
 ·have:=I.bl;omega
 ·have:=I.ba;omega
 ·have:=I.bm;omega
 ·unfold kC;omega
def LF(I:GI t nw h e G){j:Jb}(hj:j∈G.P.jobs)(h0:(G.E.ses i).job=0):j.id≠(G.E.ses i).job:=by have:=(I.W.W.H.ids.2 j hj).1;omega
def jv{E:gQ}:((E.put i x).put i (iu ((E.put i x).ses i) er n)).ses=iZ E.ses i (iu x er n):=by show iZ (iZ E.ses i x) i (iu (iZ E.ses i x i) er n)=_;rw[nX,dt]
def Gf(I:GI t nw h e G)(hi:i<4)(hp:(G.E.ses i).pend=true)
  (hK: ∀b h' G',GI t nw h' e G'->bD e G h G' h'->((G'=G/\Fl G i)\/kC G'+1<=kC G)->K (aD b) h'):Cl (fY (G.E.ses i).cal.kind) [bf e,kz e i] h K:=by
 have F:LB=140737488355328:=rfl;have W:=I.W;have rf:=I.ok i hi hp;obtain⟨z1,z2,z3,z4⟩:=mF rf;have bt:=I.bt;have ba:=I.ba;have bl:=I.bl;have bm:=I.bm;have j4:=I.j4;have hA:G.E.ans<1000000000:=ah;have hM:G.M<=LB/1000:=ah;have J0:(G.E.ses i).cal.kind≠3->(G.E.ses i).job=0:=λk=>Mi λq=>k (I.jb i hi hp q).1
 have same: ∀{G1:EG},G1.P=G.P->(G.E.ses i).job=0-> ∀j,j∈G1.P.jobs↔j∈G.P.jobs/\j.id≠(G.E.ses i).job:=λe0 q j=>by rw[e0];exact⟨λhj=>⟨hj,LF I hj q⟩,λhj=>hj.1⟩
 have hk:(G.E.ses i).cal.kind=1\/(G.E.ses i).cal.kind=2\/(G.E.ses i).cal.kind=3\/(G.E.ses i).cal.kind=4\/(G.E.ses i).cal.kind=5\/(G.E.ses i).cal.kind=6\/(G.E.ses i).cal.kind=7\/(G.E.ses i).cal.kind=8:=ah
 have lay:((G.E.ses i).cal.kind=1\/(G.E.ses i).cal.kind=2\/(G.E.ses i).cal.kind=6)->Cl 123 [bf e,kz e i] h K:=λk=>by
  have q0:=J0 ah;refine AH od W hi ah ah hA k rf λh1 G1 W1 S1 L=> ?_;obtain⟨d,d6,ed,⟨-,G2,er,⟨G3,N2,L2,v,B,f',C,R,ee,e1⟩,e2⟩|⟨-,f',e2⟩|⟨-,f',e2⟩⟩:=L
  ·have E2:=(CA R).1;have hE:=C.E;have u:=C.M;have ph:fH G3.n N2 G3.P=fH G.n G.N G.P:=(C.pk.ext C.ok E2).2.trans (pd C)
   have r: ∃x',x'.pend=false/\G1.E.ses=iZ G.E.ses i x'/\G1.E.ans=G.E.ans+1/\G1.M<=G.M+2/\G1.P=G.P/\G1.n=G.n/\fH G1.n G1.N G1.P=fH G.n G.N G.P:=by
    by_cases q:B=0
    ·rw[L4 q]at e1;subst e1 e2;refine⟨iu (setS (G.E.ses i) d v) er 0,rfl,?_,by rw[<-hE];rfl,by show G3.M+2<=_;omega,C.P,C.n,ph⟩;rw[<-hE];exact jv
    ·rw[LY q]at e1;subst e1 e2;refine⟨iu (G.E.ses i) er 0,rfl,by rw[<-hE];rfl,by rw[<-hE];rfl,by show G3.M<=_;omega,C.P,C.n,ph⟩
   obtain⟨x',r1,r2,r3,r4,r5,r6,r7⟩:=r;obtain⟨I1,P1⟩:=I.ans hi hp W1 r2 r1 r6 r3 r4 (by rw[r5]) (by rw[r5]) (same r5 q0) (Nat.le_of_eq r7);exact hK _ _ _ I1 S1 (.inr P1)
  ·subst e2;obtain⟨I1,P1⟩:=I.ans hi hp W1 (x':=iu (setS (G.E.ses i) d (min 1 (G.E.ses i).cal.mask)) 0 0) jv rfl rfl rfl (Mb _) rfl rfl (same rfl q0) (Mb _);exact hK _ _ _ I1 S1 (.inr P1)
  ·subst e2;obtain⟨I1,P1⟩:=I.ans hi hp W1 (x':=iu (iB (G.E.ses i) d) 0 0) jv rfl rfl rfl (Nat.le_succ _) rfl rfl (same rfl q0) (Mb _);exact hK _ _ _ I1 S1 (.inr P1)
 have o:((G.E.ses i).cal.kind=4\/(G.E.ses i).cal.kind=5)->Cl 124 [bf e,kz e i] h K:=λk=>by refine Cs W hi hA k z3 λh1 W1 S1=> ?_;obtain⟨I1,P1⟩:=I.ans hi hp W1 (x':=iu (G.E.ses i) 0 (qz G (G.E.ses i))) rfl rfl rfl rfl (OE _ _) rfl rfl (same rfl (J0 ah)) (Mb _);exact hK _ _ _ I1 S1 (.inr P1)
 rcases hk with k|k|k|k|k|k|k|k
 ·rw[show fY (G.E.ses i).cal.kind=123 by rw[k];rfl];exact lay (.inl k)
 ·rw[show fY (G.E.ses i).cal.kind=123 by rw[k];rfl];exact lay (.inr (.inl k))
 ·rw[show fY (G.E.ses i).cal.kind=127 by rw[k];rfl];obtain⟨op,eo,D⟩:=qV ((pO z4).1 k);by_cases q0:(G.E.ses i).job=0
  ·refine F127.spec ?_;simp only[aL,LX];refine aH (W.I.job hi ah) ?_;rw[q0,show(((0:Nat):Int)==0)=true from rfl,aO];have f1:frs (G.E.ses i)=1:=by unfold frs;rw[L4 ⟨hp,k,q0⟩]
   have f2:wt (G.E.ses i)=131004:=by unfold wt;rw[L4 hp,L4 ⟨k,q0⟩]
   have lt:G.P.last+1<=t:=by have:=oF (g:=λi=>frs (G.E.ses i)) (k:=i) 4 hi (by show 1<=frs (G.E.ses i);omega);omega
   refine wa W hi k eo D z3 ah hA (λa h1 O1=>a8 rfl (hK _ _ _ (I.only0 O1) (bD.only0 O1) (.inl ⟨rfl,.inr (.inl ⟨k,q0,a⟩)⟩))) (λh1 er _ W1 S1=>a8 rfl ?_) λh1 ws A W1 S1 wl dn ql=>a8 rfl ?_
   ·obtain⟨I1,P1⟩:=I.ans hi hp W1 (x':=iu (G.E.ses i) (er:Int) 0) rfl rfl rfl rfl (OE _ _) rfl rfl (same rfl q0) (Mb _);exact hK _ _ _ I1 S1 (.inr P1)
   ·have es:(wg G i ws A).E.ses=iZ G.E.ses i (iF (G.E.ses i) (G.P.last+1)):=rfl;have sk: ∀{m},m≠i->(wg G i ws A).E.ses m=G.E.ses m:=λhm=>by rw[es,cK hm]
    have si:(wg G i ws A).E.ses i=iF (G.E.ses i) (G.P.last+1):=by rw[es,dt]
    have s1:=gW (f:=wt) hi es;have s2:=gW (f:=frs) hi es;have s3:=gW (f:=yZ) hi es
    have g1:wt (iF (G.E.ses i) (G.P.last+1))=1:=by unfold wt;rw[L4 (show(iF (G.E.ses i) (G.P.last+1)).pend=true from hp),LY];exact λy=>Mw y.2 (Nat.succ_ne_zero _)
    have g2:frs (iF (G.E.ses i) (G.P.last+1))=0:=by unfold frs;rw[LY];exact λy=>Mw y.2.2 (Nat.succ_ne_zero _)
    have g3:yZ (iF (G.E.ses i) (G.P.last+1))=yZ (G.E.ses i):=rfl
    have old: ∀m,m<4->(G.E.ses m).pend=true->(G.E.ses m).job≠G.P.last+1:=λm hm pm y=>by obtain⟨-,j,hj,ej⟩:=I.jb m hm pm ah;have:=(W.W.H.ids.2 j hj).2;omega
    have nb:=(W1.W.Ok.mst ⟨G.P.last+1,A⟩ (by show _∈G.P.jobs++[_];simp)).2.2
    have ph:fH G.n G.N (wg G i ws A).P<=fH G.n G.N G.P+131002:=by
     unfold fH;show((G.P.jobs++[(⟨G.P.last+1,A⟩:Jb)]).map λj=>ib G.n G.N j.A).sum+qlen ws<=_
     have:ib G.n G.N A<=131001:=by have nb:iA G.n G.N A.fs<=131000:=nb;unfold ib;split<;>omega
     simp only[MJ,Mz,N4,List.sum_append,Ot,PM];omega
    refine hK _ _ _ ⟨W1,λm hm q=> ?_,λm hm q z=> ?_,λj hj=> ?_,λm hm m' l q1 q2 q3 q4=> ?_,?_,?_,bm,bt,wl.trans I.ws⟩ S1 (.inr ?_)
    ·by_cases y:m=i
     ·subst y;rw[si];exact rf
     ·rw[sk y]at q ⊢;exact I.ok m hm q
    ·by_cases y:m=i
     ·subst y;rw[si];exact⟨k,⟨G.P.last+1,A⟩,by show _∈G.P.jobs++[_];simp,rfl⟩
     ·rw[sk y]at q z ⊢;obtain⟨a,j,hj,b⟩:=I.jb m hm q z;exact⟨a,j,Zp (.inl hj),b⟩
    ·rcases Zq hj with hj|hj
     ·obtain⟨m,hm,a,b⟩:=I.js j hj;have y:m≠i:=λy=>by rw[y,q0]at b;have:=(W.W.H.ids.2 j hj).1;omega
      exact⟨m,hm,by rw[sk y];exact a,by rw[sk y];exact b⟩
     ·have:j=⟨G.P.last+1,A⟩:=by simpa using hj
      subst this;exact⟨i,hi,by rw[si];exact hp,by rw[si];rfl⟩
    ·by_cases y:m=i
     ·by_cases y':m'=i
      ·omega
      ·subst y;rw[si]at q3;rw[sk y']at q2 q3;exact Mw q3.symm (old m' l q2)
     ·by_cases y':m'=i
      ·subst y';rw[si]at q3;rw[sk y]at q1 q3;exact Mw q3 (old m hm q1)
      ·rw[sk y]at q1 q3 q4;rw[sk y']at q2 q3;exact I.un m hm m' l q1 q2 q3 q4
    ·show G.P.last+1+_<=t;omega
    ·show G.E.ans+_<=t;omega
    ·unfold kC;show _+fH G.n G.N (wg G i ws A).P+1<=_;omega
  ·obtain⟨-,j,hj,ej⟩:=I.jb i hi hp q0;obtain⟨x,hx⟩:=N7 hj;by_cases dn:j.A.done=true
   ·have hd:=z2 (by unfold ym;omega);obtain⟨d,ed⟩: ∃d:Nat,(G.E.ses i).cal.dst=(d:Int):=⟨(G.E.ses i).cal.dst.toNat,by unfold mK at hd;omega⟩;have d6:d<6:=by unfold mK at hd;omega
    have M:=(W.W.Ok.mst j hj).1
    have hz:(j.A.e=0\/j.A.e=60)/\(j.A.e=0->isN G.N j.A.told):=by
     rcases M with⟨a,-⟩|⟨-,-,a⟩
     ·rw[dn]at a;cases a
     ·exact⟨a.imp (λz=>z.1) id,λz=>(a.resolve_right ah).2⟩
    refine wi W hi hx ej q0 dn hz.1 hz.2 d6 ed ah hA λh1 f1 W1 S1=> ?_
    have fj: ∀(G1:EG),G1.P=G.P->(∀y,y∈(vH G1 (G.E.ses i).job).P.jobs↔y∈G.P.jobs/\y.id≠(G.E.ses i).job)/\fH G.n G.N (vH G1 (G.E.ses i).job).P<=fH G.n G.N G.P:=λG1 e1=>by
     refine⟨λy=> ?_,?_⟩
     ·show y∈G1.P.jobs.filter _↔_;rw[e1,List.mem_filter];simp
     ·unfold fH;show((G1.P.jobs.filter _).map _).sum+qlen G1.P.ws<=_;rw[e1];have:=oX (λj:Jb=>ib G.n G.N j.A) (λz=>decide (z.id≠(G.E.ses i).job)) G.P.jobs;omega
    have r: ∃x',x'.pend=false/\(mY G i d j.A.told j.A.e f1).E.ses=iZ G.E.ses i x'/\(mY G i d j.A.told j.A.e f1).E.ans=G.E.ans+1/\(mY G i d j.A.told j.A.e f1).M<=G.M+2/\(mY G i d j.A.told j.A.e f1).P.last=G.P.last/\(mY G i d j.A.told j.A.e f1).P.ws=G.P.ws/\(mY G i d j.A.told j.A.e f1).n=G.n/\(mY G i d j.A.told j.A.e f1).N=G.N/\(∀y,y∈(mY G i d j.A.told j.A.e f1).P.jobs↔y∈G.P.jobs/\y.id≠(G.E.ses i).job)/\fH G.n G.N (mY G i d j.A.told j.A.e f1).P<=fH G.n G.N G.P:=by
     unfold mY;by_cases q:j.A.e=0
     ·rw[L4 q];obtain⟨a,b⟩:=fj (wu G i d j.A.told f1) rfl;exact⟨iu (setS (G.E.ses i) d j.A.told) (j.A.e:Int) 0,rfl,jv,rfl,Mb _,rfl,rfl,rfl,rfl,a,b⟩
     ·rw[LY q];obtain⟨a,b⟩:=fj G rfl;exact⟨iu (G.E.ses i) (j.A.e:Int) 0,rfl,rfl,rfl,OE _ _,rfl,rfl,rfl,rfl,a,b⟩
    obtain⟨x',r1,r2,r3,r4,r5,rw,r6,r7,r8,r9⟩:=r;obtain⟨I1,P1⟩:=I.ans hi hp W1 r2 r1 r6 r3 r4 r5 (congrArg List.length rw) r8 (by rw[r6,r7];exact r9);exact hK _ _ _ I1 S1 (.inr P1)
   ·have dn:j.A.done=false:=by simpa using dn
    exact vy W hi hx ej q0 dn (hK _ _ _ I bD.refl (.inl ⟨rfl,.inr (.inr ⟨k,q0,j,hj,ej,dn⟩)⟩))
 ·rw[show fY (G.E.ses i).cal.kind=124 by rw[k];rfl];exact o (.inl k)
 ·rw[show fY (G.E.ses i).cal.kind=124 by rw[k];rfl];exact o (.inr k)
 ·rw[show fY (G.E.ses i).cal.kind=123 by rw[k];rfl];exact lay (.inr (.inr k))
 ·rw[show fY (G.E.ses i).cal.kind=125 by rw[k];rfl];refine HA W hi ah hM hA λh1 G1 C W1 S1=> ?_;have hE:=C.E;have u:=C.M;obtain⟨I1,P1⟩:=I.ans hi hp W1 (x':=iu (G.E.ses i) 0 0) (by rw[<-hE];rfl) rfl C.n (by rw[<-hE];rfl) (by show G1.M<=_;omega) (by show G1.P.last=_;rw[C.P]) (by show G1.P.ws.length=_;rw[C.P]) (same C.P (J0 ah)) (Nat.le_of_eq (show fH G1.n G1.N G1.P=_ from pd C));exact hK _ _ _ I1 S1 (.inr P1)
 ·rw[show fY (G.E.ses i).cal.kind=126 by rw[k];rfl]
  have nj: ¬tR G.E->G.P.jobs=[]:=λa=>List.eq_nil_iff_forall_not_mem.2 λj hj=>by obtain⟨m,hm,b,c⟩:=I.js j hj;exact a ⟨m,hm,b,by have:=(W.W.H.ids.2 j hj).1;omega⟩
  refine CU W hi hM hA nj (λa h1 O1=>hK _ _ _ (I.only0 O1) (bD.only0 O1) (.inl ⟨rfl,.inl ⟨k,a⟩⟩)) λh1 fo gg N1 L1 a W1 S1=> ?_;have ej:=nj a
  obtain⟨I1,P1⟩:=I.ans hi hp W1 (x':=iu (G.E.ses i) 0 0) rfl rfl rfl rfl (OE _ _) rfl rfl (same rfl (J0 ah)) (by unfold fH;show(G.P.jobs.map _).sum+_<=_;rw[ej];exact Mb _)
  exact hK _ _ _ I1 S1 (.inr P1)
section
variable {i j k l m n o p q r s t:Int}{a b c d:Addr}{u v:Nat}{x y:az}{h:aI}{K:KK}
def F17.spec(H:Cl 18 [ap 8,ap 16384,ap 2] h λa b=> ∃c:az,∃d:Int,a=(.tuple #[aA c,ap d])/\aJ (d !=0) (K aB b) (Cl 66 [aA c,ap 0,.agg #[ap 1,ap 0,ap 0,ap 0,ap 0,ap 0,.int .u8 3]] b λa b=> ∃d:Int,∃e:Int,∃f:Bool,a=(.tuple #[.agg #[ap d,ar e],aD f])/\bg b (.cells #[ap 0,ar 0] 76) λa b=>aY b ((aw a).add 0) (ap d) λb=>aY b ((aw a).add 1) (ar e) λb=>Cl 66 [aA c,ap 0,.agg #[ap 4,ap 0,ap 0,ap 0,ap 0,ap 0,.int .u8 0]] b λb c=> ∃d:Int,∃e:Int,∃g:Bool,b=(.tuple #[.agg #[ap d,ar e],aD g])/\bg c (.cells #[ap 0,ar 0] 76) λb c=>aY c ((aw b).add 0) (ap d) λc=>aY c ((aw b).add 1) (ar e) λc=>aJ f (aJ g (aS .i64 (rd c ((aw a).add 0)) λa=>aJ (a==0) (aS .u64 (rd c ((aw b).add 1)) λa=>K (aD (a==128)) c) (K aB c)) (K aB c)) (K aB c))):Cl 17 [] h K:=cN Tryz.func17 H
def F66.spec(H:bg h (.cells #[ap j,ap k,ap l,ap m,ap n,ap o,.int .u8 p] 41) λb c=>bg c (.cells #[ap 0,ar 0] 76) λc d=>aS .i64 (rd d ((aw b).add 0)) λe=>aS .i64 (rd d ((aw b).add 1)) λf=>aS .i64 (rd d ((aw b).add 2)) λg=>aS .i64 (rd d ((aw b).add 3)) λj=>aS .i64 (rd d ((aw b).add 4)) λk=>aS .i64 (rd d ((aw b).add 5)) λl=>aS .u8 (rd d ((aw b).add 6)) λb=>Cl 24 [au a,ap i,.agg #[ap e,ap f,ap g,ap j,ap k,ap l,.int .u8 b]] d λb d=>aS .i64 (some b) λb=>aJ (b !=0) (aY d ((aw c).add 0) (ap 0) λa=>aY a ((aw c).add 1) (ar 0) λa=>aS .i64 (rd a ((aw c).add 0)) λb=>aS .u64 (rd a ((aw c).add 1)) λc=>K (.tuple #[.agg #[ap b,ar c],aB]) a) (Cl 30 [au a] d λb d=>bQ (some b) λb=>aJ (!b) (aY d ((aw c).add 0) (ap 0) λa=>aY a ((aw c).add 1) (ar 0) λa=>aS .i64 (rd a ((aw c).add 0)) λb=>aS .u64 (rd a ((aw c).add 1)) λc=>K (.tuple #[.agg #[ap b,ar c],aB]) a) (Cl 43 [au a,ap i] d λa b=> ∃d:Int,∃e:Int,∃f:Bool,a=(.tuple #[.agg #[ap d,ar e],aD f])/\aY b ((aw c).add 0) (ap d) λa=>aY a ((aw c).add 1) (ar e) λa=>aS .i64 (rd a ((aw c).add 0)) λb=>aS .u64 (rd a ((aw c).add 1)) λc=>K (.tuple #[.agg #[ap b,ar c],aD f]) a))):Cl 66 [au a,ap i,.agg #[ap j,ap k,ap l,ap m,ap n,ap o,.int .u8 p]] h K:=cN Tryz.func66 H
def F30.T:bh:=⟨[(2,[0,3]),(5,[0,3,4]),(8,[0])],[]⟩
section
variable (n m2:Nat)(a:Addr)(b c:Int)(h:aI)(K:KK)
def F30.wL5:Prop:=Lr Tryz.f30 F30.T [1,0,1,0,0,1,0,0,1,0] [m2] n [(0,(au a)),(3,(ap b)),(4,(ap c))] h K
def F30.wL2:Prop:=Lp Tryz.f30 F30.T [1,0,1,0] n [(0,(au a)),(3,(ap b))] h K
def F30.sL5:F30.wL5 (n+1) m2 a b c h K=(Cl 27 [au a] h λd e=>aS .i64 (some d) λd=>aJ (c<d) (Cl 26 [au a,ap c,ap b] e λd e=>bQ (some d) λ_=>F30.wL5 n m2 a b (ax (c+1)) e K) (F30.wL2 m2 a (ax (b+1)) e K)):=by kernel_rfl
def F30.wk5:Prop:=(∃d,F30.wL5 d m2 a b c h K)
def F30.wk8:Prop:=Cl 84 [au a] h λa b=>bQ (some a) λa=>K (aD (!a)) b
def F30.sL2:F30.wL2 (n+1) a b h K=(aJ (b<1048576) (Cl 84 [au a] h λc d=>bQ (some c) λc=>aJ c (F30.wk5 n a b 0 d K) (F30.wk8 a d K)) (F30.wk8 a h K)):=by kernel_rfl
def F30.wk2:Prop:=(∃c,F30.wL2 c a b h K)
def F30.spec(H:F30.wk2 a 0 h K):Cl 30 [au a] h K:=cT F30.T Tryz.func30 H
end
def F84.T:bh:=⟨[(2,[0,3])],[]⟩
section
variable (n:Nat)(a:Addr)(b:Int)(h:aI)(K:KK)
def F84.wL2:Prop:=Lp Tryz.f84 F84.T [1,0,1,0] n [(0,(au a)),(3,(ap b))] h K
def F84.sL2:F84.wL2 (n+1) a b h K=(aJ (b<4) (Cl 56 [au a,ap b] h λc d=>bQ (some c) λc=>aJ c (K aC d) (F84.wL2 n a (ax (b+1)) d K)) (K aB h)):=by kernel_rfl
def F84.wk2:Prop:=(∃c,F84.wL2 c a b h K)
def F84.spec(H:F84.wk2 a 0 h K):Cl 84 [au a] h K:=cT F84.T Tryz.func84 H
end
end
def qJ(W:dh h e G)(hT:kL G.E->K aC h)(hF: ¬kL G.E->K aB h):Cl 84 [bf e] h K:=by
 refine F84.spec _ h K ?_;unfold F84.wk2
 have a: ∀(d k:Nat),d+k=4->(∀j,j<k->(G.E.ses j).pend=false)->F84.wL2 (d+1) (aw e) (k:Int) h K:=by
  intro d
  induction d with
  |zero=>
   intro k hk hb;rw[F84.sL2];rw[L7 ah,aK];refine hF λ⟨j,hj,hp⟩=> ?_;rw[hb j ah]at hp;cases hp
  |succ d ih=>
   intro k hk hb;rw[F84.sL2];rw[Mg ah,aO];refine yM W.I (λq=>ah) λk' b ek=>a8 rfl (aR (λp=> ?_) λp=> ?_)
   ·exact hT ⟨k',b,p⟩
   ·rw[ww ah];refine ih (k+1) ah λj hj=> ?_;by_cases q:j=k
    ·rw[q,show k=k' by omega];exact p
    ·exact hb j ah
 exact⟨_,a 4 0 ah λj hj=>ah⟩
def Bq(Inv:Nat->aI->EG->Prop)(J:Nat->Nat->aI->EG->Prop)(nw:Nat)(k:nw<=4)(h0:Inv m h G)(hm:m<1048576)
  (hW: ∀{m h1 G1},Inv m h1 G1->dh h1 e G1) (hJ: ∀{m w h1 G1},J m w h1 G1->dh h1 e G1/\G1.P.ws.length=nw)
  (hS: ∀{m h1 G1},Inv m h1 G1->kL G1.E->J m 0 h1 G1)
  (hP: ∀{m w h1 G1} {Q:KK} {draw:Int},w<nw->J m w h1 G1->(∀b h2 G2,J m (w+1) h2 G2->Q (aD b) h2)->Cl 26 [bf e,ap (w:Int),ap draw] h1 Q)
  (hE: ∀{m h1 G1},J m nw h1 G1-> ∃m',m'<m/\Inv m' h1 G1)
  (hK: ∀m' h1 G1,m'<=m->Inv m' h1 G1-> ¬kL G1.E->K aC h1):Cl 30 [bf e] h K:=by
 refine F30.spec _ h K ?_;unfold F30.wk2
 have g: ∀(d i m':Nat) (xi:Int) (h1:aI) (G1:EG),xi=(i:Int)->d+i=m+1->m'+i<=m->Inv m' h1 G1->F30.wL2 (d+1) (aw e) xi h1 K:=by
  intro d
  induction d with
  |zero=>intro i m' xi h1 G1 f hi j;omega
  |succ d ih=>
   intro i m' xi h1 G1 f hi j I;rw[F30.sL2];rw[Mg ah,aO];refine qJ (hW I) (λa=>a8 rfl ?_) λa=>a8 rfl ?_
   ·rw[aO];unfold F30.wk5
    have c: ∀(d2 w:Nat) (h2:aI) (G2:EG),d2+w=nw->J m' w h2 G2->F30.wL5 (d2+1) (d+1) (aw e) xi (w:Int) h2 K:=by
     intro d2
     induction d2 with
     |zero=>
      intro w h2 G2 hw I2;rw[F30.sL5];obtain⟨W2,wl⟩:=hJ I2;refine jR W2 (aH rfl ?_);rw[L7 ah,aK];have ew:w=nw:=ah;subst ew;obtain⟨m2,lt,I3⟩:=hE I2;exact ih (i+1) m2 _ h2 G2 (by rw[f,wrap_i64 ah ah];omega) ah ah I3
     |succ d2 ih2=>
      intro w h2 G2 hw I2;rw[F30.sL5];obtain⟨W2,wl⟩:=hJ I2;refine jR W2 (aH rfl ?_);rw[Mg ah,aO];refine hP ah I2 λb h3 G3 I3=>a8 rfl ?_;rw[ww ah];exact ih2 (w+1) h3 G3 ah I3
    exact⟨_,c nw 0 h1 G1 ah (hS I a)⟩
   ·rw[aK];unfold F30.wk8;exact qJ (hW I) (λq=>Mw q a) λq=>a8 rfl (hK m' h1 G1 ah I a)
 exact⟨_,g (m+1) 0 m 0 h G rfl ah ah h0⟩
def Et{P P':PS}(a:Ag P P'):(∃j∈P'.jobs,j.id=x)↔ ∃j∈P.jobs,j.id=x:=by have e: ∀Q:PS,(∃j∈Q.jobs,j.id=x)↔x∈Q.jobs.map (·.id):=λQ=>ak;rw[e,e,a.2.2]
def GI.pick(I:GI t nw h e G)(W':dh h' e G')(P:wO w G G'):GI t nw h' e G'/\kC G'<=kC G/\ ∃k,G.P.ws[w]? =some k/\(kC G'+1<=kC G\/(k.job=0/\k.q=[]/\fE G.P.ws G'.P.ws)):=by
 obtain⟨G1,N',P',L',k,C,-,e1,Pk,hk,c⟩:=P;have cp:=pd C;have hE:=C.E;have hn:=C.n;have hP:=C.P;have hM:=C.M;have le:=Pk.le1;rw[hn,hP]at cp;rw[hn,hP]at le c;rw[hP]at hk;have al:=Pk.alike;rw[hP]at al;subst e1
 have pe:kC {G1 with N:=N',P:=P',L:=L'}=fT (λi=>wt (G.E.ses i)) 4+fH G.n N' P':=by unfold kC;rw[<-hE,<-hn]
 have js: ∀x:Nat,_:=λx=>Et (x:=x) al;have jx: ∀x:Nat,(∃j∈P'.jobs,j.id=x)↔ ∃j∈G.P.jobs,j.id=x:=js;refine⟨⟨W',?_,?_,?_,?_,?_,?_,?_,I.bt,al.2.1.trans I.ws⟩,?_,k,hk,?_⟩
 ·show ∀i,i<4->(G1.E.ses i).pend=true->fC G1.n (G1.E.ses i) (G1.E.ses i).cal=0;rw[hE,hn];exact I.ok
 ·show ∀i,i<4->(G1.E.ses i).pend=true->(G1.E.ses i).job≠0->(G1.E.ses i).cal.kind=3/\ ∃j∈P'.jobs,j.id=(G1.E.ses i).job;rw[hE];exact λi hi a b=>⟨(I.jb i hi a b).1,(jx _).2 (I.jb i hi a b).2⟩
 ·show ∀j∈P'.jobs,∃i,i<4/\(G1.E.ses i).pend=true/\(G1.E.ses i).job=j.id;rw[hE];intro j hj;obtain⟨y,hy,ey⟩:=(jx j.id).1 ⟨j,hj,rfl⟩;rw[<-ey];exact I.js y hy
 ·show ∀i,i<4-> ∀k,k<4->(G1.E.ses i).pend=true->(G1.E.ses k).pend=true->(G1.E.ses i).job=(G1.E.ses k).job->(G1.E.ses i).job≠0->i=k;rw[hE];exact I.un
 ·show P'.last+fT (λi=>frs (G1.E.ses i)) 4<=t;rw[hE,al.1];exact I.bl
 ·show G1.E.ans+fT (λi=>yZ (G1.E.ses i)) 4<=t;rw[hE];exact I.ba
 ·show G1.M<=2*G1.E.ans;rw[hE,hM];exact I.bm
 ·rw[pe];unfold kC;omega
 ·rw[pe];unfold kC;exact c.imp (λq=>ah) id
def Bt(I:GI t nw h e G)
  (hK: ∀b h' G',GI t nw h' e G'->bD e G h G' h'->kC G'<=kC G->(∀w:Nat,who=(w:Int)->w<nw->kL G.E->kC G'+1<=kC G\/(locs G.P.ws≠[]/\ ∃k,G.P.ws[w]? =some k/\k.job=0/\k.q=[]/\fE G.P.ws G'.P.ws))->K (aD b) h'):
  Cl 26 [bf e,ap who,ap draw] h K:=by
 have c:LB=140737488355328:=rfl
 refine AL I.W (λq h1 O1=>hK _ h1 G (I.only0 O1) (bD.only0 O1) (Mb _) λw ew hw a=> ?_) (λi h1 G1=>GI t nw h1 e G1/\bD e G h G1 h1/\kC G1<=kC G/\(kC G1+1<=kC G\/(G1=G/\ ∀k,k<i->(G.E.ses k).pend=true->Fl G k)))
  (λh1 O1=>⟨I.only0 O1,bD.only0 O1,Mb _,.inr ⟨rfl,λk hk=>Mw hk (Nat.not_lt_zero k)⟩⟩) (λ{i h1 G1 h2} J O=>⟨J.1.only0 O,J.2.1.trans (bD.only0 O),J.2.2⟩) (λJ=>J.1.W) (λ{i h1 G1} hi J hp=> ?_) (λ{i h1 G1 Q} hi J hp hQ=> ?_) (λq0 q1 a h1 G1 J=> ?_)
 ·exfalso;have:=I.ws;rcases q with q|q|q
  ·omega
  ·omega
  ·exact q a
 ·obtain⟨J1,J2,J3,J5⟩:=J;refine⟨J1,J2,J3,J5.imp id λ⟨y,z⟩=>⟨y,λk hk pk=> ?_⟩⟩;by_cases q:k=i
  ·rw[q]at pk;rw[y,pk]at hp;cases hp
  ·exact z k ah pk
 ·obtain⟨J1,J2,J3,J5⟩:=J;refine Gf J1 hi hp λb h2 G2 I2 S2 r=>hQ b h2 G2 ⟨I2,J2.trans S2,?_,?_⟩
  ·rcases r with⟨r,-⟩|r
   ·rw[r];exact J3
   ·omega
  ·rcases r with⟨r,st⟩|r
   ·subst r;refine J5.imp id λ⟨y,z⟩=>⟨y,λk hk pk=> ?_⟩;by_cases q:k=i
    ·rw[q,<-y];exact st
    ·exact z k ah pk
   ·exact .inl ah
 ·obtain⟨J1,J2,J3,J5⟩:=J;obtain⟨w,ew⟩: ∃w:Nat,who=(w:Int):=⟨who.toNat,ah⟩;subst ew;have bm:=J1.bm;have ba:=J1.ba;have bt:=J1.bt;have j4:=J1.j4;refine uk od J1.W (show G1.P.jobs.length<=12 by omega) ah (w:=w) (by have:=J1.ws;have:=I.ws;omega) λh2 G2 W2 S2 P=> ?_;obtain⟨I2,p1,k,hk,p2⟩:=J1.pick W2 P;refine hK true h2 G2 I2 (J2.trans S2) ah λw' e' d _=> ?_;have:w'=w:=ah;subst this;rcases J5 with q|⟨y,z⟩
  ·exact .inl ah
  ·subst y;rcases p2 with q|q
   ·exact .inl ah
   refine .inr ⟨λln=> ?_,k,hk,q⟩
   have un: ∀m,m<4->(G1.E.ses m).pend=true->(G1.E.ses m).job≠0->False:=λm hm pm jm=>by
    rcases z m hm pm with⟨s,-⟩|⟨-,s,-⟩|⟨-,-,j,hj,-,dn⟩
    ·have:=(J1.jb m hm pm jm).1;omega
    ·exact jm s
    ·have:=J1.W.W.Ok.loc j hj dn;rw[ln]at this;cases this
   have nJ: ¬tR G1.E:=λ⟨m,hm,pm,jm⟩=>un m hm pm ah
   have nR: ¬Ar G1.E:=λ⟨m,hm,pm,km⟩=>by
    rcases z m hm pm with⟨-,s⟩|⟨s,-⟩|⟨s,-⟩
    ·exact nJ s
    ·omega
    ·omega
   obtain⟨m,hm,pm⟩:=a;rcases z m hm pm with⟨-,s⟩|⟨-,-,s⟩|⟨-,s,-⟩
   ·exact nJ s
   ·exact nR s
   ·exact un m hm pm s
def Cz(I:GI t nw h e G)(hK: ∀h' G',GI t nw h' e G'->bD e G h G' h'-> ¬kL G'.E->K aC h'):Cl 30 [bf e] h K:=by
 have l4:=I.W.W.Ok.len;have lw:=I.ws;have bd:=I.bnd
 refine Bq (m:=kC G) (λm h1 G1=>GI t nw h1 e G1/\bD e G h G1 h1/\kC G1<=m)
  (λm w h1 G1=>GI t nw h1 e G1/\bD e G h G1 h1/\kC G1<=m/\(kC G1+1<=m\/((w=0->kL G1.E)/\(w≠0->locs G1.P.ws≠[])/\ ∀v,v<w-> ∀k,G1.P.ws[v]? =some k->k.job=0/\k.q=[]))) nw ah
  ⟨I,bD.refl,Mb _⟩ ah (λJ=>J.1.W) (λJ=>⟨J.1.W,J.1.ws⟩) (λ{m h1 G1} J a=>⟨J.1,J.2.1,J.2.2,.inr ⟨λ_=>a,λq=>Mw rfl q,λv hv=>Mw hv (Nat.not_lt_zero v)⟩⟩) (λ{m w h1 G1 Q draw} hw J hQ=> ?_) (λ{m h1 G1} J=> ?_) λm' h1 G1 _ J a=>hK h1 G1 J.1 J.2.1 a
 ·obtain⟨J1,J2,J3,J4⟩:=J;refine Bt J1 λb h2 G2 I2 S2 p1 p2=>hQ b h2 G2 ⟨I2,J2.trans S2,ah,?_⟩;rcases J4 with q|⟨q0,q1,q2⟩
  ·exact .inl ah
  by_cases pr:kC G2+1<=kC G1
  ·exact .inl ah
  by_cases aP:kL G1.E
  ·rcases p2 w rfl hw aP with r|⟨r1,k,r2,r3,r4,r5⟩
   ·exact Mw r pr
   ·refine .inr ⟨λz=>Mw z (Nat.succ_ne_zero w),λ_=>by rw[r5.locs];exact r1,λv hv k' f=> ?_⟩;have lv:=(Ml.1 f).1
    obtain⟨k2,c,e2⟩: ∃k2,G1.P.ws[v]? =some k2/\qI k2 k':=by
     have:v<G1.P.ws.length:=by have:=r5.1;omega
     obtain⟨k3,h3,e3⟩:=r5.2 v _ (Mj this);rw[f]at h3;injection h3 with h3;subst h3;exact⟨_,Mj this,e3⟩
    have d:k2.job=0/\k2.q=[]:=by
     by_cases y:v=w
     ·subst y;rw[r2]at c;injection c with c;rw[<-c];exact⟨r3,r4⟩
     ·exact q2 v ah k2 c
    exact⟨by rw[e2.2.2.1];exact d.1,by rw[e2.2.1];exact d.2⟩
  ·exfalso;by_cases w0:w=0
   ·exact aP (q0 w0)
   ·obtain⟨x,hx⟩:=NE _ (q1 w0);obtain⟨j,hj,-⟩:=J1.W.W.Ok.at_ x hx;obtain⟨i,hi,pi,-⟩:=J1.js j hj;exact aP ⟨i,hi,pi⟩
 ·obtain⟨J1,J2,J3,J4⟩:=J;refine⟨kC G1,?_,J1,J2,Mb _⟩;rcases J4 with q|⟨q0,q1,q2⟩
  ·omega
  ·exfalso;refine q1 ah ?_;unfold locs;rw[List.flatMap_eq_nil_iff];intro k hk;obtain⟨v,hv⟩:=N7 hk;have lv:=(Ml.1 hv).1;obtain⟨a,b⟩:=q2 v (by have:=J1.ws;omega) k hv;unfold Wk.loc;rw[L4 a,b]
   rfl
def GI.bgn{G:EG}(I:GI t nw h e G)(hk:k<4)(hp:(G.E.ses k).pend=false)(hr:fC G.n (G.E.ses k) c=0)(W':dh h' e (eK G k c))(ht:t+1<=1000000):GI (t+1) nw h' e (eK G k c):=by
 have es:(eK G k c).E.ses=iZ G.E.ses k (rZ (G.E.ses k) c):=rfl;have sk: ∀{m},m≠k->(eK G k c).E.ses m=G.E.ses m:=λhm=>by rw[es,cK hm]
 have si:(eK G k c).E.ses k=rZ (G.E.ses k) c:=by rw[es,dt]
 have s2:=gW (f:=frs) hk es;have s3:=gW (f:=yZ) hk es;have f1:frs (rZ (G.E.ses k) c)<=1:=by unfold frs;split<;>omega
 have f2:yZ (rZ (G.E.ses k) c)=1:=rfl;have bl:=I.bl;have ba:=I.ba;refine⟨W',λm hm q=> ?_,λm hm q z=> ?_,λj hj=> ?_,λm hm m' d q1 q2 q3 q4=> ?_,?_,?_,I.bm,ht,I.ws⟩
 ·by_cases y:m=k
  ·subst y;rw[si];exact hr
  ·rw[sk y]at q ⊢;exact I.ok m hm q
 ·by_cases y:m=k
  ·subst y;rw[si]at z;exact Mw rfl z
  ·rw[sk y]at q z ⊢;exact I.jb m hm q z
 ·obtain⟨m,hm,a,b⟩:=I.js j hj;have y:m≠k:=λy=>by rw[y,hp]at a;cases a
  exact⟨m,hm,by rw[sk y];exact a,by rw[sk y];exact b⟩
 ·by_cases y:m=k
  ·subst y;rw[si]at q4;exact Mw rfl q4
  ·by_cases y':m'=k
   ·subst y';rw[si,sk y]at q3;rw[sk y]at q4;exact Mw q3 q4
   ·rw[sk y]at q1 q3 q4;rw[sk y']at q2 q3;exact I.un m hm m' d q1 q2 q3 q4
 ·show G.P.last+_<=_;omega
 ·show G.E.ans+_<=_;omega
def GI.up(I:GI t nw h e G)(ht:t+1<=1000000):GI (t+1) nw h e G:=⟨I.W,I.ok,I.jb,I.js,I.un,Nat.le_succ_of_le I.bl,Nat.le_succ_of_le I.ba,I.bm,ht,I.ws⟩
def wQ:0<=fC n x c/\fC n x c<=259:=by
 unfold fC kY
 repeat' split
 all_goals omega
def CN(I:GI t nw h e G)(ht:t+1<=1000000){c:lY}(hm:c.mask<256)(hK: ∀h' G' (x:Int),0<=x->x<=259->GI (t+1) nw h' e G'->bD e G h G' h'->K (ap x) h'):Cl 24 [bf e,ap i,sr c] h K:=by have up: ∀{h'},aM [] h h'->GI (t+1) nw h' e G:=λO=>(I.only0 O).up ht;exact w7 I.W hm (λ_ h1 O1=>hK h1 G _ ah ah (up O1) (bD.only0 O1)) (λ_ _ _ _ h1 O1=>hK h1 G _ ah ah (up O1) (bD.only0 O1)) (λ_ _ _ _ _ h1 O1=>hK h1 G _ wQ.1 wQ.2 (up O1) (bD.only0 O1)) λk hk _ hp hr h1 W1 S1=>hK h1 _ _ ah ah (I.bgn hk hp hr W1 ht) S1
def GI.new(W:dh h e G)(s1:G.E.ses=(uF 0 0 0).ses)(a1:G.E.ans=0)(j1:G.P.jobs=[])(l1:G.P.last=0)(M1:G.M=0):GI 0 G.P.ws.length h e G:=by
 have np: ∀k,(G.E.ses k).pend=false:=λk=>by rw[s1];rfl
 refine⟨W,λk _ q=>(by rw[np]at q;cases q),λk _ q=>(by rw[np]at q;cases q),λj hj=>(by rw[j1]at hj;cases hj),λk _ m _ q=>(by rw[np]at q;cases q),?_,?_,ah,ah,rfl⟩
 ·rw[l1,s1];exact Mb _
 ·rw[a1,s1];exact Mb _
def Gq{h:aI}(hE: ∀er:Int,er=40\/er=60->K (.tuple #[.pointer none,ap er]) h)
  (hK: ∀h' e G,dh h' e G->G.E.ses=(uF 0 0 0).ses->G.E.ans=0->G.P.jobs=[]->G.P.last=0->G.M=0->(∀b∈lX e G,h.size<=b)->aM [] h h'->K (.tuple #[bf e,ap 0]) h'):
  Cl 18 [ap x0,ap x1,ap x2] h K:=by
 by_cases g:1<=x0/\x0<=8/\1<=x1/\x1<=32768
 ·obtain⟨n,en⟩: ∃n:Nat,x0=(n:Int):=⟨x0.toNat,ah⟩;obtain⟨r,er⟩: ∃r:Nat,x1=(r:Int):=⟨x1.toNat,ah⟩;subst en;subst er;exact FK ah ah ah ah λh2 e G W2 s2 a2 n2 m2 f2 g2 _ N2 j2 w2 _ a M2 b2 O2=>hK h2 e G W2 s2 a2 j2 a M2 b2 O2
 ·refine F18.spec ?_;refine F61.spec ?_;refine aR (λ_=>⟨_,_,rfl,hE 40 (.inl rfl)⟩) λq1=>aR (λ_=>⟨_,_,rfl,hE 40 (.inl rfl)⟩) λq2=>aR (λ_=>⟨_,_,rfl,hE 60 (.inr rfl)⟩) λq3=>aR (λ_=>⟨_,_,rfl,hE 60 (.inr rfl)⟩) λq4=> ?_;have q1:=Me q1;have q2:=Me q2;have q3:=Me q3;have q4:=Me q4;omega
def JD:bR X 114=some cH.go:=by kernel_rfl
def BC{h0:aI}(po:cu n fo gg)(hK: ∀h' L' N' (r g:Nat),g<=259->(g=0\/r=0)->bT h' s L' (XL n room fo gg N' off)->aM L0 h0 h'->bC L0 L' h0->K (.tuple #[aq (r:Int),ap (g:Int)]) h'):
  ∀(d:Nat) (h:aI) (L:List Nat) (N:ay) (A:MA),A.m=m->bT h s L (XL n room fo gg N off)->bG h s A->(∀b∈A.bl,b∉L)->gO n N A.fs<=800000->iA n N A.fs<d->nN n fo N A->A.done=false->aM L0 h0 h->bC L0 L h0->(∀b∈A.bl,h0.size<=b)->
   F64.wL5 d (some (aw m)) (.func (.func 114) #[bf m] #[]) h K:=by
 intro d
 induction d with
 |zero=>intro h L N A em S M D hm hd;omega
 |succ d ih=>
  intro h L N A em S M D hm hd R hn O g lo;rw[F64.sL5];refine bj JD ?_;have z0:=O.size
  have key:Cl 114 [bf A.m] h λv1 h2=>bQ (some v1) λb3=>aJ (!b3) (F64.wL5 d (some (aw m)) (.func (.func 114) #[bf m] #[]) h2 K) (F64.wk6 (some (aw m)) h2 K):=by
   refine xB S M D hm R po hn λh2 L2 N2 A2 i S2 M2 D2 E2 R2 P2 C2 dn O2 g2 s2=>a8 rfl ?_
   have O02:aM L0 h0 h2:=O.trans O2 λx hx hl=>by
    rcases Zq hx with q|q
    ·rcases g x q with q|q
     ·exact q
     ·omega
    ·have:=lo x q;omega
   have f:=g.trans g2 z0;refine aR (λq=> ?_) λq=> ?_
   ·have q:A2.done=false:=by simpa using q
    rcases dn with e|e
    ·rw[q]at e;cases e
    ·exact ih h2 L2 N2 A2 (i.trans em) S2 M2 D2 ah ah R2 q O02 f λx hx=>by
      rcases s2 x hx with y|y
      ·exact lo x y
      ·omega
   ·have q:A2.done=true:=by simpa using q
    unfold F64.wk6;rw[<-em,<-i];refine tG M2 ?_;rcases R2 with⟨y,-⟩|⟨-,-,y⟩
    ·rw[q]at y;cases y
    rw[L4 q];rcases y with⟨y,-⟩|y
    ·rw[L4 ⟨q,y⟩,y];exact⟨_,_,rfl,hK h2 L2 N2 A2.told 0 ah (.inl rfl) S2 O02 f⟩
    ·rw[LY (λw=>ah),y];exact⟨_,_,rfl,hK h2 L2 N2 0 60 ah (.inr rfl) S2 O02 f⟩
  rw[em]at key;exact key
def JY{h:aI}{s n room a b c:Nat}{fo gg:Nat->Nat}{off:Bool}{N:ay}{K:KK}{L:List Nat}{x:Int}{mask:Nat}(hm:mask<256)(la:a<4294967296)(lb:b<4294967296)(lc:c<4294967296)(H:bT h s L (XL n room fo gg N off))(po:cu n fo gg)
  (hK: ∀h' L' N' (r g:Nat),g<=259->(g=0\/r=0)->bT h' s L' (XL n room fo gg N' off)->aM L h h'->bC L L' h->K (.tuple #[aq (r:Int),ap (g:Int)]) h'):
  Cl 64 [bf s,mO x a b c (mask:Int)] h K:=by
 have ok:=H.ok;dsimp only[XL]at ok;have n8:=ok.2.2.1;have hL:=H.lt;refine F64.spec _ _ _ _ _ _ h K ?_;refine aW λh1 A1 O1 z1=> ?_;simp only[aL,LX];have r: ∀k,rd h1 ⟨h.size,k,none⟩=([ap x,aq (a:Int),aq (b:Int),aq (c:Int),.int .u8 (mask:Int)]:List Value)[k]? :=λk=>At.rd A1 k;refine aH (by rw[r];rfl) (aH (by rw[r];rfl) (aH (by rw[r];rfl) (aH (by rw[r];rfl) (aH (by rw[r];rfl) ?_))))
 have no: ∀er:Nat,er≠0->er<=259->(∀{h2:aI} {Q:KK},aM [] h1 h2->(∀h3,aM [] h2 h3->Q (ap (er:Int)) h3)->Cl 133 [bf s,mO x a b c (mask:Int)] h2 Q)->
   Cl 91 [bf s,mO x a b c (mask:Int)] h1 λv8 h9=> ∃d:az,∃j:Int,v8= .tuple #[.pointer d,ap j]/\aJ (j !=(0:Int)) (K (.tuple #[aq (0:Int),ap j]) h9) (F64.wk5 d (.func (.func 114) #[.pointer d] #[]) h9 K):=λer e0 el hR=>by
  refine rJ (er:=(er:Int)) ah (λO hQ=>hR O hQ) λh2 O2=>⟨_,_,rfl,?_⟩;rw[show((er:Int) !=(0:Int))=true by simp;omega,aO];have O02:=O1.trans O2 ak;exact hK h2 L N 0 er el (.inr rfl) (H.only0 O02) (O02.mono ak) (bC.refl _ _)
 by_cases hx:bS x=0
 ·exact no 200 ah ah λ{h2 Q} O hQ=>sg hx hQ
 obtain⟨op,rfl,o⟩:=qV hx
 have rf: ∀{h2:aI} {Q:KK},aM [] h1 h2->(¬(isN N a/\(bS (op:Int)≠1->isN N b)/\(bS (op:Int)=3->isN N c))-> ∀h3,aM [] h2 h3->Q (ap 101) h3)->(isN N a->(bS (op:Int)≠1->isN N b)->(bS (op:Int)=3->isN N c)-> ∀h3,aM [] h2 h3->Q (ap (lF n op mask (qs n fo N a))) h3)->Cl 133 [bf s,mO (op:Int) a b c (mask:Int)] h2 Q:=λ{h2 Q} O q1 q2=>
  tU (ft:=qs n fo N a) hm ((H.only0 O1).only0 O) o la lb lc q1 (λna {k1 R} O2 hR=>xa (((H.only0 O1).only0 O).only0 O2) na (λl hl=>by have:fo l<n:=(po.2 l hl).1;show fo l<8;omega) hR) q2
 by_cases nn:isN N a/\(bS (op:Int)≠1->isN N b)/\(bS (op:Int)=3->isN N c)
 case neg=>exact no 101 ah ah λ{h2 Q} O hQ=>rf O (λ_=>hQ) λa b c=>Mw ⟨a,b,c⟩ nn
 obtain⟨na,nb,nc⟩:=nn;have rz:=xw (n:=n) (op:=op) (mask:=mask) (ft:=qs n fo N a)
 have rt: ∀{er:Nat},lF n op mask (qs n fo N a)=(er:Int)-> ∀{h2:aI} {Q:KK},aM [] h1 h2->(∀h3,aM [] h2 h3->Q (ap (er:Int)) h3)->Cl 133 [bf s,mO (op:Int) a b c (mask:Int)] h2 Q:=λ{er} e {h2 Q} O hQ=>
  rf O (λq=>Mw ⟨na,nb,nc⟩ q) λ_ _ _=>by rw[e];exact hQ
 rcases rz with hz|hz|hz
 ·refine Cd hm (H.only0 O1) o rfl (λ{k1 Q} O hQ=>rt (er:=0) hz O hQ) λh2 A f M2 f2 ef D C G z B M J I t ee O2=>⟨_,_,rfl,?_⟩;rw[show((0:Int) !=(0:Int))=false from rfl,aK];unfold F64.wk5;have O02:=O1.trans O2 ak;obtain⟨F,ent,fm,fb⟩:=uo (fo:=fo) n8 hm o na nb nc hz D C G z B M J
  have u:gc n fo N A.fs A.told:=by
   rw[ef];refine⟨λy hy=> ?_,λi x y hx hy=> ?_,λfl fr e=> .inl ?_,by rw[I];exact .inl ah⟩
   ·simp only[LZ]at hy;subst hy;exact F
   ·simp at hy
   ·cases fl with
    |nil=>simp at e;rw[<-e];exact ent
    |cons y fl=>
     have:=congrArg List.length e;simp at this
  have mst:nN n fo N A:= .inl ⟨t,ee,by rw[ef];simp,u⟩
  have v:gO n N A.fs<=800000:=by rw[ef];simp only[gO,Mz,N4,Ot,PM];omega
  exact⟨_,BC po hK (iA n N A.fs+1) h2 L N A rfl (H.only0 O02) M2 (λx hx hl=>by have:=f2 x hx;have:=hL x hl;omega) v (Nat.lt_succ_self _) mst t (O02.mono ak) (bC.refl _ _) λx hx=>by have:=f2 x hx;omega⟩
 ·exact no 40 ah ah λ{h2 Q} O hQ=>rt (er:=40) hz O hQ
 ·exact no 160 ah ah λ{h2 Q} O hQ=>rt (er:=160) hz O hQ
def F65.spec(H:Cl 115 [au a,.int .u8 2,.func (.func 116) #[] #[],.agg #[aq (if j<i then j else i),aq (if j>i then j else i),aq 0]] h λa b=> ∃c:Int,∃d:Int,a=(.tuple #[aq c,ap d])/\K (.tuple #[aq c,ap d]) b):Cl 65 [au a,aq i,aq j] h K:=cN Tryz.func65 H
def F116.spec(H:bg h (.cells #[aq i,aq j,aq k] 203) λa b=>0<=(0:Int)/\(0:Int)<(3:Int)/\aS .u32 (rd b ((aw a).add ((0:Int).toNat*1))) λc=>aJ (c==0) (K (.tuple #[aq 0,aC]) b) ((0<=(1:Int)/\(1:Int)<(3:Int)/\aS .u32 (rd b ((aw a).add ((1:Int).toNat*1))) λc=>aJ (c==0) (K (.tuple #[aq 0,aC]) b) ((0<=(0:Int)/\(0:Int)<(3:Int)/\aS .u32 (rd b ((aw a).add ((0:Int).toNat*1))) λc=>aJ (c==1) ((0<=(1:Int)/\(1:Int)<(3:Int)/\aS .u32 (rd b ((aw a).add ((1:Int).toNat*1))) λa=>K (.tuple #[aq a,aC]) b)) ((0<=(0:Int)/\(0:Int)<(3:Int)/\aS .u32 (rd b ((aw a).add ((0:Int).toNat*1))) λc=>0<=(1:Int)/\(1:Int)<(3:Int)/\aS .u32 (rd b ((aw a).add ((1:Int).toNat*1))) λd=>aJ (c==d) ((0<=(1:Int)/\(1:Int)<(3:Int)/\aS .u32 (rd b ((aw a).add ((1:Int).toNat*1))) λa=>K (.tuple #[aq a,aC]) b)) ((0<=(1:Int)/\(1:Int)<(3:Int)/\aS .u32 (rd b ((aw a).add ((1:Int).toNat*1))) λc=>aJ (c==1) ((0<=(0:Int)/\(0:Int)<(3:Int)/\aS .u32 (rd b ((aw a).add ((0:Int).toNat*1))) λa=>K (.tuple #[aq a,aC]) b)) (K (.tuple #[aq 0,aB]) b)))))))))):Cl 116 [.agg #[aq i,aq j,aq k]] h K:=cN Tryz.func116 H
def HU(B:op<6)(EO:vS g op)(hx:bR X g=some .go):
  ∀(d:Nat) {k:Nat} {h:aI} {L:List Nat} {N:ay} {a b c:Nat} {K:KK},n-k<=d->k<=n->bT h s L (XL n room f gg N off)->isN N a->isN N b->isN N c->k<=lvl n N a->k<=lvl n N b->k<=lvl n N c->
  (∀h' L' N' r,Ex N N'->lZ n f N' op a b c r->bT h' s L' (XL n room f gg N' off)->aM L h h'->bC L L' h->K (.tuple #[aq (r:Int),ap 0]) h')->
  (∀h' L' N',Ex N N'->bT h' s L' (XL n room f gg N' off)->aM L h h'->bC L L' h->K (.tuple #[aq 0,ap 60]) h')->
  Cl 164 [zK s op g,CE a b c] h K:=by
 intro d
 induction d using Nat.strongRecOn with
 |_ d ih=>
  intro k h L N a b c K hd hk H ha hb hc ka kb kc hK hF;have ok:=H.ok;dsimp only[XL]at ok;have c4:=ok.2.2.1;have o: ∀{y},isN N y->y<2^16:=λhy=>by have:=H.isN_lt hy;omega
  have a4:op<2^8:=ah;have zk:isN N 0:= .inl ah;refine F164.spec _ _ _ _ _ _ h K ?_;refine aW λh1 A1 O1 z1=>aW λh2 A2 O2 z2=> ?_;have A12:=A1.only O2 ak;have q0: ∀{h':aI} {v0 v1 v2:Value} {q:Nat},At h' q [v0,v1,v2]->rd h' (Addr.add (aw q) 0)=some v0/\rd h' (Addr.add (aw q) 1)=some v1/\rd h' (Addr.add (aw q) 2)=some v2:=λA=>⟨by rw[aL,At.rd A];rfl,by rw[aL,At.rd A];rfl,by rw[aL,At.rd A];rfl⟩;have qi: ∀{h':aI} {v0 v1 v2:Value} {q:Nat},At h' q [v0,v1,v2]->rd h' (Addr.add (aw q) (Int.toNat (0:Int)*1))=some v0/\rd h' (Addr.add (aw q) (Int.toNat (1:Int)*1))=some v1/\rd h' (Addr.add (aw q) (Int.toNat (2:Int)*1))=some v2:=λA=>⟨by rw[aL,At.rd A];rfl,by rw[aL,At.rd A];rfl,by rw[aL,At.rd A];rfl⟩;have w1:=q0 A12;have w2:=q0 A2;have O12:=O1.trans O2 ak
  have same: ∀{h':aI} (_:aM [] h h') (r:Nat),lZ n f N op a b c r->K (.tuple #[aq (r:Int),ap 0]) h':=λO r R=>
   hK _ L N r (Ex.refl _) R (H.only0 O) (O.mono ak) (bC.refl _ _)
  rw[w1.2.2,c8];refine aH w2.1 (aH w2.2.1 (aH w2.2.2 (bj hx ?_)));refine EO (λh3 r O3 hR=>⟨_,_,rfl,?_⟩) λh3 r O3 h2=>⟨_,_,rfl,?_⟩
  ·rw[aO];exact same (O12.trans O3 ak) r (hR n f N ok.1 ha hb hc)
  rw[aK];have A3:=A12.only O3 ak;have B3:=A2.only O3 ak;have O03:=O12.trans O3 ak;have w3:=q0 A3;have i3:=qi B3;refine aQ w3.1 (aH w3.2.1 ⟨ah,ah,aH i3.1 ⟨ah,ah,aH i3.2.1 ⟨ah,ah,aH i3.2.2 ?_⟩⟩⟩);refine kT (mask:=0) (H.only0 O03) a4 (by decide) (o ha) (o hb) (o hc) (λh4 S4 O4=>⟨_,_,rfl,?_⟩) λh4 v hv S4 O4=>⟨_,_,rfl,?_⟩
  rotate_left
  ·obtain⟨r,rfl,R⟩:=QL.get B hv (o ha) (o hb) (o hc);have hr:=H.isN_lt R.is;rw[gK ah,aO];exact hK h4 L N r (Ex.refl _) R S4 ((O03.mono ak).trans O4 λb hb _=>hb) (bC.refl _ _)
  rw[aK];have G: ∀y∈L,y<h.size:=H.lt;have b9:=O03.size;have bL:h.size∉L:=λhm=>Nat.lt_irrefl _ (G _ hm);have P:h1.size∉L:=λhm=>by have:=G _ hm;have:=O1.size;omega
  have A4:=A3.only O4 bL;have B4:=B3.only O4 P;have w4:=q0 A4;have x4:=q0 B4;refine aQ w4.1 (dX S4 (aH rfl (aH x4.1 (aH x4.2.1 (aH x4.2.2 ?_)))));unfold F164.wk9
  have u: ∀(bk:Addr->Addr->Int->Int->Int->Int->Int->aI->Prop) (V:Addr->Addr->Int->aI->Prop) (i y m:Nat),i<3->(if i=0 then a else if i=1 then b else c)=y->isN N y->
    bk (aw h.size) (aw h1.size) ((min (lvl n N y) m:Nat):Int) (a:Int) (b:Int) (c:Int) ((i+1:Nat):Int) h4->
    F164.JL9 bk V (aw h.size) (aw h1.size) (m:Int) (a:Int) (b:Int) (c:Int) (i:Int) h4 K:=by
   intro bk V i y m hi hy hN hB;unfold F164.JL9;rw[Mg ah,aO];refine⟨ah,ah,aH (n:=(y:Int)) ?_ (aQ w4.1 (dv S4 hN (aH rfl ?_)))⟩
   ·rw[Md];subst hy;have:i=0\/i=1\/i=2:=ah;rcases this with e|e|e<;>subst e<;>rfl
   ·have ew:ax ((i:Int)+1)=((i+1:Nat):Int):=by rw[wrap_i64 ah ah];omega
    show bk (aw h.size) (aw h1.size) (if((lvl n N y:Nat):Int)<(m:Int)then((lvl n N y:Nat):Int)else(m:Int)) (a:Int) (b:Int) (c:Int) _ h4;rw[Fv,ew];exact hB
  refine⟨4,?_⟩;rw[F164.sL9];refine u _ _ 0 a n ah rfl ha ?_;rw[F164.sL9];refine u _ _ 1 b _ ah rfl hb ?_;rw[F164.sL9];refine u _ _ 2 c _ ah rfl hc ?_;rw[F164.sL9];unfold F164.JL9;rw[L7 ah,aK];have la:=lvl_le ok.1 ha;have lb:=lvl_le ok.1 hb;have lc:=lvl_le ok.1 hc;have J: ∀{y},isN N y->2<=y->lvl n N y<n:=λhy h2=>(ok.1.at hy h2).1;obtain⟨l,hl⟩: ∃l,l=min (lvl n N c) (min (lvl n N b) (min (lvl n N a) n)):=⟨_,rfl⟩;rw[<-hl]
  have j:l<n:=by
   rcases h2 with h2|h2|h2
   ·have:=J ha h2;omega
   ·have:=J hb h2;omega
   ·have:=J hc h2;omega
  have c5:k<=l:=ah;have C:l<=lvl n N a:=ah;have F:l<=lvl n N b:=ah;have M:l<=lvl n N c:=ah;unfold F164.wk13;refine aQ w4.1 (aH w4.2.1 ?_);rw[w4.2.2,c8];refine aH x4.1 (aH x4.2.1 (aH x4.2.2 ?_));have ca:=fZ (side:=false) ok.1 ha C j;have cb:=fZ (side:=false) ok.1 hb F j;have cc:=fZ (side:=false) ok.1 hc M j;refine zF (side:=false) S4 ha hb hc λh5 O5=> ?_;dsimp only[XL];refine ih (n-(l+1)) ah (k:=l+1) (Mb _) ah (S4.only0 O5) ca.1 cb.1 cc.1 ca.2 cb.2 cc.2 (λh6 L6 N6 lo E6 R6 S6 O6 F6=>⟨_,_,rfl,⟨_,_,rfl,?_⟩⟩) λh6 L6 N6 E6 S6 O6 F6=>⟨_,_,rfl,⟨_,_,rfl,?_⟩⟩
  rotate_left
  ·rw[show((60:Int) !=0)=true from rfl,aO];have O04:aM L h h4:=(O03.mono ak).trans O4 λb hb _=>hb;exact hF h6 L6 N6 E6 S6 ((O04.trans O5 ak).trans O6 λb hb _=>hb) λb hb=>(F6 b hb).imp id λq=>by have:=(O04.trans O5 ak).size;omega
  rw[show((0:Int) !=0)=false from rfl,aK];have t:=S6.ok;dsimp only[XL]at t;have O04:aM L h h4:=(O03.mono ak).trans O4 λb hb _=>hb;have O06:aM L h h6:=(O04.trans O5 ak).trans O6 λb hb _=>hb
  have I: ∀{y},h.size<=y->y<h5.size->y∉L6:=λh1 h2 h3=>by
   rcases F6 _ h3 with h|h
   ·have:=G _ h;omega
   ·omega
  have a3:h1.size<h5.size:=Nt B4.lt O5.size;have a2:h.size<h5.size:=Nt A4.lt O5.size;have A6:=(A4.only O5 ak).only O6 bL;have B6:=(B4.only O5 ak).only O6 P;have w6:=q0 A6;have x6:=q0 B6;refine aQ w6.1 (aH w6.2.1 ?_);rw[w6.2.2,c8];refine aH x6.1 (aH x6.2.1 (aH x6.2.2 ?_));have Q:=E6.isN ha;have U:=E6.isN hb;have a1:=E6.isN hc;have b7:l<=lvl n N6 a:=by rw[E6.lvl ha];exact C
  have b4:l<=lvl n N6 b:=by rw[E6.lvl hb];exact F
  have b1:l<=lvl n N6 c:=by rw[E6.lvl hc];exact M
  have da:=fZ (side:=true) t.1 Q b7 j;have db:=fZ (side:=true) t.1 U b4 j;have dc:=fZ (side:=true) t.1 a1 b1 j;refine zF (side:=true) S6 Q U a1 λh7 O7=> ?_;dsimp only[XL];refine ih (n-(l+1)) ah (k:=l+1) (Mb _) ah (S6.only0 O7) da.1 db.1 dc.1 da.2 db.2 dc.2 (λh8 L8 N8 hi E8 R8 S8 O8 F8=>⟨_,_,rfl,⟨_,_,rfl,?_⟩⟩) λh8 L8 N8 E8 S8 O8 F8=>⟨_,_,rfl,⟨_,_,rfl,?_⟩⟩
  rotate_left
  ·rw[show((60:Int) !=0)=true from rfl,aO];have F06:bC L L6 h:=λb hb=>(F6 b hb).imp id λq=>ah;exact hF h8 L8 N8 (E6.trans E8) S8 ((O06.trans O7 ak).app O8 F06) (F06.trans F8 (O06.trans O7 ak).size)
  rw[show((0:Int) !=0)=false from rfl,aK];have D:=S8.ok;dsimp only[XL]at D
  have F06:bC L L6 h:=λb hb=>by
   rcases F6 b hb with h|h
   ·exact .inl h
   ·exact .inr ah
  have O08:aM L h h8:=(O06.trans O7 ak).app O8 F06;have b2:h5.size<=h7.size:=Nc O6.size O7.size;have a7:h.size∉L6:=I (Mb _) a2;have W:h1.size∉L6:=I O1.size a3;have A8:=(A6.only O7 ak).only O8 a7;have B8:=(B6.only O7 ak).only O8 W
  have S: ∀{y},h.size<=y->y<h5.size->y∉L8:=λh1 h2 h3=>by
   rcases F8 _ h3 with h|h
   ·exact I h1 h2 h
   ·omega
  have b3:h.size∉L8:=S (Mb _) a2;have Y:h1.size∉L8:=S O1.size a3;have F08:bC L L8 h:=F06.trans F8 ah;have w8:=q0 A8
  have a0:l<lvl n N8 lo:=by rw[E8.lvl R6.is];have:=R6.lv (l+1) (by rw[E6.lvl ca.1];exact ca.2) (by rw[E6.lvl cb.1];exact cb.2) (by rw[E6.lvl cc.1];exact cc.2);omega
  have b0:l<lvl n N8 hi:=by have:=R8.lv (l+1) (by rw[E8.lvl da.1];exact da.2) (by rw[E8.lvl db.1];exact db.2) (by rw[E8.lvl dc.1];exact dc.2);omega
  have z:=E8.isN R6.is;refine aQ w8.1 (sJ S8 (l:=l) j z R8.is a0 b0 λh9 L9 N9 r e R S9 O9 F9=>⟨_,_,rfl,?_⟩);have Z:=S9.ok;dsimp only[XL]at Z R
  have he:e=0\/(e=60/\r=0/\N9=N8):=by
   rcases R with⟨-,-,e,-⟩|⟨-,_,-,-,e,-⟩|⟨-,-,-,a,b,c⟩|⟨-,-,-,e,-⟩
   ·exact .inl e
   ·exact .inl e
   ·exact .inr ⟨b,a,c⟩
   ·exact .inl e
  rcases he with he|⟨he,hr,hN⟩
  rotate_left
  ·subst he hr hN;rw[show((((60:Nat):Int))==(0:Int))=false from rfl,aK];exact hF h9 L9 N9 (E6.trans E8) S9 (O08.app O9 F08) (F08.trans F9 (by have:=O08.size;omega))
  subst he;obtain⟨m1,m2,m3,m4⟩:=gh (f:=f) D.1 Z.1 z R8.is a0 R;have E08:Ex N N8:=E6.trans E8;have E09:Ex N N9:=E08.trans m1
  have RR:lZ n f N9 op a b c r:=by
   refine⟨m2,λk' k1 k2 k3=> ?_,λx=> ?_⟩
   ·rw[E09.lvl ha]at k1;rw[E09.lvl hb]at k2;rw[E09.lvl hc]at k3;omega
   ·rw[m4 x,E09.sm ok.1 ha,E09.sm ok.1 hb,E09.sm ok.1 hc,rP ok.1 ha j,rP (a:=b) ok.1 hb j,rP (a:=c) ok.1 hc j];by_cases hb':x.testBit (f l)=true
    ·rw[L4 hb',L4 hb',L4 hb',L4 hb',R8.sm,E8.sm t.1 da.1,E8.sm t.1 db.1,E8.sm t.1 dc.1,E6.ch ha,E6.ch hb,E6.ch hc];rw[E6.sm ok.1 (fZ (side:=true) ok.1 ha C j).1,E6.sm ok.1 (fZ (side:=true) ok.1 hb F j).1,E6.sm ok.1 (fZ (side:=true) ok.1 hc M j).1]
    ·rw[LY hb',LY hb',LY hb',LY hb',E8.sm t.1 R6.is,R6.sm,E6.sm ok.1 ca.1,E6.sm ok.1 cb.1,E6.sm ok.1 cc.1]
  have S9':bT h9 s L9 (XL n room f gg N9 off):=rX S9 D.1 m1;have O09:aM L h h9:=O08.app O9 F08;have F09:bC L L9 h:=F08.trans F9 (by have:=O08.size;omega);rw[show((((0:Nat):Int))==(0:Int))=true from rfl,aO];have c3:h5.size<=h8.size:=Nc b2 O8.size;have A9:=A8.only O9 b3;have B9:=B8.only O9 Y;have w9:=q0 A9;have i9:=qi B9;have b5: ∀{y},isN N9 y->y<2^16:=λhy=>by have:=S9'.isN_lt hy;omega
  have b8:=E09.isN ha;have a5:=E09.isN hb;have b6:=E09.isN hc;refine aQ w9.1 (aH w9.2.1 ⟨ah,ah,aH i9.1 ⟨ah,ah,aH i9.2.1 ⟨ah,ah,aH i9.2.2 ?_⟩⟩⟩);refine pj (mask:=0) S9' a4 (by decide) (o ha) (o hb) (o hc) (by have:=b5 m2;omega) ⟨op,0,a,b,c,r,rfl,rfl,by decide,b8,a5,b6,o ha,o hb,o hc,.inl ⟨B,rfl,RR⟩⟩ λa6 S10 O10=>⟨rfl,?_⟩;unfold F164.wk22;exact hK a6 L9 N9 r E09 RR S10 (O09.app O10 F09) F09
def Gd(d:op<6)(EO:vS g op)(hx:bR X g=some .go)
  (H:bT h s L (XL n room f gg N off)) (la:a<4294967296) (lb:b<4294967296) (lc:c<4294967296) (hN: ∀h',aM [] h h'->K (.tuple #[aq 0,ap 101]) h')
  (hK: ∀h' L' N' r,Ex N N'->lZ n f N' op a b c r->bT h' s L' (XL n room f gg N' off)->aM L h h'->bC L L' h->K (.tuple #[aq (r:Int),ap 0]) h')
  (hF: ∀h' L' N',Ex N N'->bT h' s L' (XL n room f gg N' off)->aM L h h'->bC L L' h->K (.tuple #[aq 0,ap 60]) h'):
  Cl 115 [au (aw s),.int .u8 (op:Int),.func (.func g) #[] #[],CE a b c] h K:=by
 refine F115.spec _ _ _ _ _ _ h K ?_;refine aW λh1 A1 O1 z1=> ?_;have q0: ∀{h':aI} {v0 v1 v2:Value} {q:Nat},At h' q [v0,v1,v2]->rd h' (Addr.add (aw q) 0)=some v0/\rd h' (Addr.add (aw q) 1)=some v1/\rd h' (Addr.add (aw q) 2)=some v2:=λA=>⟨by rw[aL,At.rd A];rfl,by rw[aL,At.rd A];rfl,by rw[aL,At.rd A];rfl⟩;have w1:=q0 A1;have H1:=H.only0 O1;refine aH w1.1 (aH w1.2.1 (aH w1.2.2 ?_));unfold F115.wk2
 have step: ∀(bk:Addr->Int->Nat->Addr->Int->Int->Int->Int->aI->Prop) (k7:Addr->Int->Nat->Addr->aI->Prop) (i y:Nat),i<3->(if i=0 then a else if i=1 then b else c)=y->y<4294967296->
   (isN N y->bk (aw s) (op:Int) g (aw h.size) (a:Int) (b:Int) (c:Int) ((i+1:Nat):Int) h1)->
   F115.JL2 bk k7 (aw s) (op:Int) g (aw h.size) (a:Int) (b:Int) (c:Int) (i:Int) h1 K:=by
  intro bk k7 i y hi hy ly hB;unfold F115.JL2;rw[Mg ah,aO];refine⟨ah,ah,aH (n:=(y:Int)) ?_ (vA H1 ly (λj=>a8 rfl ?_) λ_=>a8 rfl ?_)⟩
  ·rw[Md];subst hy;have:i=0\/i=1\/i=2:=ah;rcases this with e|e|e<;>subst e<;>rfl
  ·have ew:ax ((i:Int)+1)=((i+1:Nat):Int):=by rw[wrap_i64 ah ah];omega
   rw[MF,aK,ew];exact hB j
  ·rw[MS,aO];exact hN h1 O1
 refine⟨4,?_⟩;rw[F115.sL2];refine step _ _ 0 a ah rfl la λha=> ?_;rw[F115.sL2];refine step _ _ 1 b ah rfl lb λhb=> ?_;rw[F115.sL2];refine step _ _ 2 c ah rfl lc λhc=> ?_;rw[F115.sL2];unfold F115.JL2;rw[L7 ah,aK];unfold F115.wk7;refine aH w1.1 (aH w1.2.1 (aH w1.2.2 ?_));have fr: ∀{L':List Nat},bC L L' h1->bC L L' h:=λF y hy=>(F y hy).imp id λq=>by have:=O1.size;omega
 exact HU d EO hx n (k:=0) ah ah H1 ha hb hc ah ah ah (λh' L' N' r E R S O F=>⟨_,_,rfl,hK h' L' N' r E R S ((O1.mono ak).trans O λb hb _=>hb) (fr F)⟩) λh' L' N' E S O F=>⟨_,_,rfl,hF h' L' N' E S ((O1.mono ak).trans O λb hb _=>hb) (fr F)⟩
def Iq:bR X 116=some cH.go:=by kernel_rfl
def Ho:vS 116 2:=by
 intro h a b c K hT hF;refine F116.spec ?_;refine aW λh1 A1 O1 z1=> ?_;have r0:rd h1 (Addr.add (aw h.size) (Int.toNat (0:Int)*1))=some (aq (a:Int)):=by rw[aL,At.rd A1];rfl
 have r1:rd h1 (Addr.add (aw h.size) (Int.toNat (1:Int)*1))=some (aq (b:Int)):=by rw[aL,At.rd A1];rfl
 have zero:a=0\/b=0->K (.tuple #[aq (0:Int),aC]) h1:=λd=>by
  refine hT h1 0 O1 λn f N H ha hb hc=>⟨.inl ah,λk h1 _ _=>by rw[gT (a:=0) ah];have:=lvl_le H ha;omega,λx=> ?_⟩;rw[br (a:=0) ah];rcases d with e|e
  ·subst e;rw[br (a:=0) ah];simp[nv]
  ·subst e;rw[br (a:=0) ah];simp[nv]
 have g:a=1\/a=b->K (.tuple #[aq (b:Int),aC]) h1:=λd=>by
  refine hT h1 b O1 λn f N H ha hb hc=>⟨hb,λk _ h2 _=>h2,λx=> ?_⟩;rcases d with e|e
  ·subst e;rw[br (a:=1) ah];simp[nv]
  ·subst e;simp[nv]
 refine⟨ah,ah,aH r0 ?_⟩;rw[show(0:Int)=((0:Nat):Int)from rfl,cZ];refine aR (λe=>zero (.inl (Mn e))) λe=>⟨ah,ah,aH r1 ?_⟩;have e:=Me e;rw[cZ];refine aR (λe1=>zero (.inr (Mn e1))) λe1=>⟨ah,ah,aH r0 ?_⟩;have e1:=Me e1;rw[show(1:Int)=((1:Nat):Int)from rfl,cZ];refine aR (λe0=>⟨ah,ah,aH r1 (g (.inl (Mn e0)))⟩) λe0=>⟨ah,ah,aH r0 ⟨ah,ah,aH r1 ?_⟩⟩;have e0:=Me e0;rw[cZ];refine aR (λe2=>⟨ah,ah,aH r1 (g (.inr (Mn e2)))⟩) λe2=>⟨ah,ah,aH r1 ?_⟩;have e2:=Me e2;rw[cZ];refine aR (λe3=>⟨ah,ah,aH r0 ?_⟩) λe3=> ?_
 ·have e3:=Mn e3;subst e3;refine hT h1 a O1 λn f N H ha hb hc=>⟨ha,λk h2 _ _=>h2,λx=> ?_⟩;rw[br (a:=1) ah];simp[nv]
 ·have e3:=Me e3;exact hF h1 0 O1 ah
def HO{h:aI}{s n room a b:Nat}{f gg:Nat->Nat}{off:Bool}{L:List Nat}{N:ay}{K:KK}(H:bT h s L (XL n room f gg N off))(la:a<4294967296)(lb:b<4294967296)
  (hK: ∀h' (x k:Nat),(k=0\/x=0)->aM L h h'->K (.tuple #[aq (x:Int),ap (k:Int)]) h'):Cl 65 [au (aw s),aq (a:Int),aq (b:Int)] h K:=by
 refine F65.spec ?_
 have go: ∀x y:Nat,x<4294967296->y<4294967296->Cl 115 [au (aw s),.int .u8 (2:Int),.func (.func 116) #[] #[],CE x y 0] h λv1 h2=> ∃n3:Int,∃n4:Int,v1= .tuple #[aq n3,ap n4]/\K (.tuple #[aq n3,ap n4]) h2:=λx y lx ly=>
  Gd (op:=2) ah Ho Iq H lx ly ah (λh' O=>⟨_,_,rfl,hK h' 0 101 (.inr rfl) (O.mono ak)⟩) (λh' L' N' r E R S O F=>⟨_,_,rfl,hK h' r 0 (.inl rfl) O⟩) λh' L' N' E S O F=>⟨_,_,rfl,hK h' 0 60 (.inr rfl) O⟩
 by_cases hlt:(b:Int)<(a:Int)
 ·rw[L4 hlt,LY ah];exact go b a lb la
 ·rw[LY hlt]
  have e:(if(b:Int)>(a:Int)then(b:Int)else(a:Int))=(b:Int):=by
   by_cases q:(b:Int)>(a:Int)
   ·rw[L4 q]
   ·rw[LY q];omega
  rw[e];exact go a b la lb
def F16.T:bh:=⟨[(9,[3,4,11,13,15]),(17,[11,13])],[(11,[[(0,[]),(1,[]),(2,[]),(3,[]),(4,[]),(5,[]),(6,[]),(7,[]),(8,[]),(9,[]),(10,[])]])]⟩
section
variable (n:Nat)(v u y:Int)(i:az)(c j:Nat)(g:az)(d l:Nat)(o q r s t:Int)(b:Addr)(f:az)(a:Int)(h:aI)(K:KK)
def F16.wL9:Prop:=Lp Tryz.f16 F16.T [1,1,1,1,1,0,1,0] n [(3,(.slice i c j)),(4,(.slice g d l)),(11,(au b)),(13,(aA f)),(15,(ap a))] h K
def F16.wk17:Prop:=Cl 61 [ap 4,ap 300] h λa c=> ∃d:az,∃e:Int,a=(.tuple #[aA d,ap e])/\aJ (e !=0) (K aB c) (aS .i64 (rd c (b.add 0)) λa=>aS .u32 (rd c (b.add 1)) λe=>aS .u32 (rd c (b.add 2)) λg=>aS .u32 (rd c (b.add 3)) λi=>aS .u8 (rd c (b.add 4)) λj=>Cl 64 [aA d,.agg #[ap a,aq e,aq g,aq i,.int .u8 j]] c λa c=> ∃e:Int,∃g:Int,a=(.tuple #[aq e,ap g])/\aS .u32 (rd c (b.add 1)) λa=>aS .u32 (rd c (b.add 2)) λb=>Cl 65 [aA d,aq a,aq b] c λa b=> ∃c:Int,∃d:Int,a=(.tuple #[aq c,ap d])/\Cl 30 [aA f] b λa b=>bQ (some a) λa=>aJ a (aJ (g>=0) (aJ (g<=259) (aJ (g==0) (aJ (d==0) (K aC b) (K (aD (c==0)) b)) (aJ (e==0) (aJ (d==0) (K aC b) (K (aD (c==0)) b)) (K aB b))) (K aB b)) (K aB b)) (K aB b))
def F16.sL9:F16.wL9 (n+1) i c j g d l b f a h K=(aJ (a<(c:Int)) (aX g λe=>0<=a/\a<(d:Int)/\aS .i64 (rd h (e.add (a.toNat*1))) λe=>aX i λk=>0<=a/\a<(c:Int)/\aS .i64 (rd h ((k.add (a.toNat*7)).add 0)) λm=>aS .i64 (rd h ((k.add (a.toNat*7)).add 1)) λo=>aS .i64 (rd h ((k.add (a.toNat*7)).add 2)) λp=>aS .i64 (rd h ((k.add (a.toNat*7)).add 3)) λq=>aS .i64 (rd h ((k.add (a.toNat*7)).add 4)) λr=>aS .i64 (rd h ((k.add (a.toNat*7)).add 5)) λs=>aS .u8 (rd h ((k.add (a.toNat*7)).add 6)) λk=>Cl 24 [aA f,ap e,.agg #[ap m,ap o,ap p,ap q,ap r,ap s,.int .u8 k]] h λe k=>aS .i64 (some e) λe=>aJ (e<0) (K aB k) (aJ (e>259) (K aB k) (((3:Int)≠0/\aJ ((Int.tmod a 3)==0) (Cl 30 [aA f] k λe k=>bQ (some e) λe=>aJ (!e) (K aB k) (aX g λe=>0<=a/\a<(d:Int)/\aS .i64 (rd k (e.add (a.toNat*1))) λe=>Cl 26 [aA f,ap e,ap a] k λe k=>bQ (some e) λ_=>F16.wL9 n i c j g d l b f (ax (a+1)) k K)) (aX g λe=>0<=a/\a<(d:Int)/\aS .i64 (rd k (e.add (a.toNat*1))) λe=>Cl 26 [aA f,ap e,ap a] k λe k=>bQ (some e) λ_=>F16.wL9 n i c j g d l b f (ax (a+1)) k K))))) (F16.wk17 b f h K)):=by kernel_rfl
def F16.wk9:Prop:=(∃e,F16.wL9 e i c j g d l b f a h K)
def F16.spec(H:bg h (.cells #[ap o,aq q,aq r,aq s,.int .u8 t] 66) λa b=>Cl 17 [] b λb e=>bQ (some b) λb=>aJ (!b) (K aB e) (aJ ((c:Int)>(60:Int)) (K aC e) (aJ ((d:Int)<(c:Int)) (K aC e) (aJ (u>1000) (aJ (u<=32768) (K aC e) (Cl 18 [ap v,ap u,ap y] e λb e=> ∃f:az,∃k:Int,b=(.tuple #[aA f,ap k])/\aJ (k !=0) (aJ (Option.isNone f) (aJ (k==40) (K aC e) (K (aD (k==60)) e)) (K aB e)) (F16.wk9 i c j g d l (aw a) f 0 e K))) (Cl 18 [ap v,ap u,ap y] e λb e=> ∃f:az,∃k:Int,b=(.tuple #[aA f,ap k])/\aJ (k !=0) (aJ (Option.isNone f) (aJ (k==40) (K aC e) (K (aD (k==60)) e)) (K aB e)) (F16.wk9 i c j g d l (aw a) f 0 e K)))))):Cl 16 [ap v,ap u,ap y,.slice i c j,.slice g d l,.agg #[ap o,aq q,aq r,aq s,.int .u8 t]] h K:=cT F16.T Tryz.func16 H
end
structure Kp(G G':EG):Prop where
 E:G'.E=G.E
 n:G'.n=G.n
 fo:G'.fo=G.fo
 gg:G'.gg=G.gg
 room:G'.room=G.room
 ws:G'.P.ws.length=G.P.ws.length
 sm: ∀k,k<4-> ∀r,r<6->(G.E.ses k).there r=true-> ∀y,sm G.n G.fo G'.N ((G.E.ses k).hnd r) y=sm G.n G.fo G.N ((G.E.ses k).hnd r) y
 jobs:G.P.jobs=[]->G'.P.jobs=[]
 M:G'.M=G.M
def uA{G:EG}(h: ∀k,k<4->(G.E.ses k).pend=false): ¬kL G.E:=λ⟨k,hk,hp⟩=>by rw[h k hk]at hp;cases hp
def wO.kp(P:wO w G G'):Kp G G':=by
 obtain⟨G1,N',P',L',k,C,-,e,Pk,hk,a⟩:=P;have hn:=C.n;have hP:=C.P;have al:=Pk.alike;rw[hP]at al;subst e;refine⟨C.E,hn,C.fo,C.gg,C.room,al.2.1,λk hk r hr ht y=> ?_,λz=> ?_,C.M⟩
 ·have hv:=C.rg k hk r hr ht;have o1:=C.ok;rw[<-hn,<-C.fo];exact(Pk.ex.sm o1 hv).trans (C.ex.sm o1 hv).symm
 ·have:=al.2.2;rw[z]at this;exact List.map_eq_nil_iff.1 this
def yR(W:dh h e G)(hN:who<0\/(G.P.ws.length:Int)<=who\/ ¬kL G.E)(hK: ∀h',aM [] h h'->K aB h'):Cl 26 [bf e,ap who,ap draw] h K:=by
 refine F26.spec _ _ _ h K ?_;refine aR (λq=>hK h (aM.refl _ _)) λq=> ?_;have q:=Me q;refine jR W (aH rfl (aR (λp=>hK h (aM.refl _ _)) λp=> ?_));have p: ¬(G.P.ws.length:Int)<=who:=Me p;have no: ¬kL G.E:=by rcases hN with z|z|z<;>first|omega|exact z
 exact ru W.I (λa=>Mw a no) λ_ h1 O1=>a8 rfl (hK h1 O1)
def yr(W:dh h e G)(hs:s<4)(hp:(G.E.ses s).pend=true)(solo: ∀k,k<4->k≠s->(G.E.ses k).pend=false)(hw:w<G.P.ws.length)(R:aI->EG->Prop)
  (hR: ∀{h1 G1},R h1 G1->dh h1 e G1/\ ∀k,k<4->s<k->(G1.E.ses k).pend=false) (hO: ∀{h1 G1 h2},R h1 G1->aM [] h1 h2->R h2 G1)
  (f: ∀{h1} {Q:KK},aM [] h h1->(∀b h2 G2,R h2 G2->Q (aD b) h2)->Cl (fY (G.E.ses s).cal.kind) [bf e,kz e s] h1 Q)
  (hE: ∀h1 G1,R h1 G1->F26.wk11 (aw e) (w:Int) draw h1 K):Cl 26 [bf e,ap (w:Int),ap draw] h K:=by
 refine AL W (λq h1 O1=> ?_) (λi h1 G1=>(i<=s/\G1=G/\aM [] h h1)\/(s<i/\R h1 G1)) (λh1 O1=> .inl ⟨Nq _,rfl,O1⟩) (λ{i h1 G1 h2} I O=> ?_) (λ{i h1 G1} I=> ?_) (λ{i h1 G1} hi I d=> ?_) (λ{i h1 G1 Q} hi I d hQ=> ?_) (λ_ _ _ h1 G1 I=> ?_)
 ·exfalso;rcases q with q|q|q
  ·omega
  ·omega
  ·exact q ⟨s,hs,hp⟩
 ·rcases I with⟨a,b,c⟩|⟨a,b⟩
  ·exact .inl ⟨a,b,c.trans O ak⟩
  ·exact .inr ⟨a,hO b O⟩
 ·rcases I with⟨a,b,c⟩|⟨a,b⟩
  ·rw[b];exact W.only0 c
  ·exact(hR b).1
 ·rcases I with⟨a,b,c⟩|⟨a,b⟩
  ·by_cases q:i=s
   ·subst q;rw[b,hp]at d;cases d
   ·exact .inl ⟨ah,b,c⟩
  ·exact .inr ⟨ah,b⟩
 ·rcases I with⟨a,b,c⟩|⟨a,b⟩
  ·by_cases q:i=s
   ·subst q;rw[b];exact f c λb' h2 G2 R2=>hQ b' h2 G2 (.inr ⟨ah,R2⟩)
   ·rw[b,solo i hi q]at d;cases d
  ·rw[(hR b).2 i hi a]at d;cases d
 ·rcases I with⟨a,b,c⟩|⟨a,b⟩
  ·omega
  ·exact hE h1 G1 b
def ri(W:dh h e G0)(hs:s<4)(hp:(G0.E.ses s).pend=true)(solo: ∀k,k<4->k≠s->(G0.E.ses k).pend=false)(R:EG->Prop)
  (step: ∀{h1} {Q:KK},aM [] h h1->(∀b h2 G2,dh h2 e G2->bD e G0 h G2 h2->R G2->Q (aD b) h2)->Cl (fY (G0.E.ses s).cal.kind) [bf e,kz e s] h1 Q)
  (hR: ∀{G1},R G1->(∀k,k<4->(G1.E.ses k).pend=false)/\G1.P.ws.length=G0.P.ws.length/\G1.P.jobs=[]/\G1.M<=LB/1000)
  (hK: ∀h' G1 G',R G1->Kp G1 G'->dh h' e G'->bD e G0 h G' h'->K aC h'):Cl 30 [bf e] h K:=by
 have wl:=W.W.Ok.len
 refine Bq (m:=1) (λm h1 G1=>dh h1 e G1/\bD e G0 h G1 h1/\((m=1/\G1=G0/\aM [] h h1)\/(m=0/\ ∃G2,R G2/\Kp G2 G1))) (λm w h1 G1=>dh h1 e G1/\bD e G0 h G1 h1/\m=1/\((w=0/\G1=G0/\aM [] h h1)\/(1<=w/\ ∃G2,R G2/\Kp G2 G1))) G0.P.ws.length wl.2
  ⟨W,bD.refl,.inl ⟨rfl,rfl,aM.refl _ _⟩⟩ ah (λI=>I.1) (λ{m w h1 G1} I=>⟨I.1,?_⟩) (λ{m h1 G1} I a=>⟨I.1,I.2.1,?_⟩) (λ{m w h1 G1 Q draw} hw I hQ=> ?_) (λ{m h1 G1} I=> ?_) (λm' h1 G1 _ I a=> ?_)
 ·rcases I.2.2.2 with⟨-,q,-⟩|⟨-,G2,r,k⟩
  ·rw[q]
  ·rw[k.ws,(hR r).2.1]
 ·rcases I.2.2 with⟨q1,q2,q3⟩|⟨q1,G2,r,k⟩
  ·exact⟨q1,.inl ⟨rfl,q2,q3⟩⟩
  ·have:=(hR r).1;rw[<-k.E]at this;exact Mw a (uA this)
 ·obtain⟨W1,S1,m1,q⟩:=I;rcases q with⟨q1,q2,q3⟩|⟨q1,G2,r,k⟩
  ·subst q2;refine yr W1 hs hp solo hw (λh2 G2=>dh h2 e G2/\bD e G1 h G2 h2/\R G2) (λI=>⟨I.1,λk hk _=>(hR I.2.2).1 k hk⟩) (λI O=>⟨I.1.only0 O,I.2.1.trans (bD.only0 O),I.2.2⟩) (λ{h2 Q2} O2 d=> ?_) λh2 G2 I=> ?_
   ·exact step (q3.trans O2 ak) λb h3 G3 W3 S3 R3=>d b h3 G3 ⟨W3,S3,R3⟩
   ·obtain⟨W2,S2,R2⟩:=I;obtain⟨-,a2,a3,a4⟩:=hR R2;refine uk od W2 (show G2.P.jobs.length<=12 by rw[a3];exact Nq _) a4 (by rw[a2];exact hw) λh3 G3 W3 S3 P=> ?_;exact hQ _ h3 G3 ⟨W3,S2.trans S3,m1,.inr ⟨ah,G2,R2,P.kp⟩⟩
  ·have no:=(hR r).1;rw[<-k.E]at no;exact yR W1 (.inr (.inr (uA no))) λh2 O2=>hQ _ h2 G1 ⟨W1.only0 O2,S1.trans (bD.only0 O2),m1,.inr ⟨ah,G2,r,k⟩⟩
 ·obtain⟨W1,S1,m1,q⟩:=I;rcases q with⟨q1,-,-⟩|⟨q1,q2⟩
  ·omega
  ·exact⟨0,ah,W1,S1,.inr ⟨rfl,q2⟩⟩
 ·obtain⟨W1,S1,q⟩:=I;rcases q with⟨q1,q2,-⟩|⟨q1,G2,r,k⟩
  ·subst q2;exact Mw ⟨s,hs,hp⟩ a
  ·exact hK h1 G2 G1 r k W1 S1
def FL{G:EG}{c:lY}(hs:s<4)(W:dh h e G)(hp:(G.E.ses s).pend=false)(hm:c.mask<256)(hr:fC G.n (G.E.ses s) c=0)(R:EG->Prop)
  (g: ∀{h1} {Q:KK},dh h1 e (eK G s c)->(∀h2 G2,dh h2 e G2->bD e (eK G s c) h1 G2 h2->R G2->Q aC h2)->Cl 30 [bf e] h1 Q)
  (hR: ∀{G2},R G2->(G2.E.ses s).ansd=true)
  (hK: ∀h' G2,dh h' e G2->bD e G h G2 h'->R G2->K (.tuple #[.agg #[ap (G2.E.ses s).err,ar ((G2.E.ses s).num:Int)],aC]) h'):
  Cl 66 [bf e,ap (s:Int),sr c] h K:=by
 refine F66.spec ?_;refine aW λh1 A1 O1 z1=>aW λh2 A2 O2 z2=> ?_;have A1':=A1.only O2 ak;have r: ∀k,rd h2 ⟨h.size,k,none⟩=([ap c.kind,ap c.op,ap c.dst,ap c.a,ap c.b,ap c.c,.int .u8 (c.mask:Int)]:List Value)[k]? :=λk=>At.rd A1' k;simp only[aL,LX];refine aH (n:=c.kind) (by rw[r];rfl) (aH (n:=c.op) (by rw[r];rfl) (aH (n:=c.dst) (by rw[r];rfl) (aH (n:=c.a) (by rw[r];rfl) (aH (n:=c.b) (by rw[r];rfl) (aH (n:=c.c) (by rw[r];rfl) (aH (n:=(c.mask:Int)) (by rw[r];rfl) ?_))))));have O12:=O1.trans O2 ak;have W2:=W.only0 O12;have lt:=W.lt;have m:=O1.size;refine w7 (c:=c) (i:=(s:Int)) W2 hm (λq=>ah) (λk hk ek d=> ?_) (λk hk ek d j=> ?_) λk hk ek d j h3 W3 S3=>aH rfl ?_
 ·have ek:k=s:=ah;subst ek;rw[hp]at d;cases d
 ·have ek:k=s:=ah;subst ek;exact Mw hr j
 have ek:k=s:=ah;subst ek;rw[show((0:Int) !=0)=false from rfl,aK];refine g W3 λh4 G2 W4 S4 R4=>a8 rfl ?_;rw[MF,aK];refine AZ W4.I (λq=>ah) λk' l f h5 O5=>⟨_,_,_,rfl,?_⟩;have f:k'=k:=ah;subst f;have ha:=hR R4;rw[ha,L4 rfl,L4 rfl];have S24:bD e G h2 G2 h4:=S3.trans S4
 have A4:At h4 h1.size [ap (0:Int),ar (0:Int)]:=by have:=S24.O (lX e G) (λb hb=>hb);exact At.only A2 this λhm=>by have:=lt _ hm;omega
 have A5:=A4.only O5 ak;refine aU A5 ak rfl λh6 A6 O6 z6=>aU A6 ak rfl λh7 A7 O7 z7=> ?_;refine aH (n:=(G2.E.ses k').err) (by rw[At.rd A7];rfl) (aH (n:=((G2.E.ses k').num:Int)) (by rw[At.rd A7];rfl) ?_)
 have nb:h1.size∉lX e G2:=λhm=>by
  rcases S24.B _ hm with q|q
  ·have:=lt _ q;omega
  ·have:=A2.lt;omega
 have O57:aM [h1.size] h5 h7:=O6.trans O7 λb hb _=>hb;have W5:=W4.only0 O5;have W7:dh h7 e G2:=⟨W5.W.only O57 (λy hy hm=>by simp at hy;subst hy;exact nb (bo.2 (.inr (.inl hm)))) (λy hy hm=>by simp at hy;subst hy;exact nb (bo.2 (.inr (.inr (.inr hm))))),W5.R.only O57 (λy hy hm=>by simp at hy;subst hy;exact nb (bo.2 (.inr (.inr (.inl hm))))),W5.I.only O57 (λhm=>by simp at hm;exact nb (bo.2 (.inl hm.symm))),W5.C,W5.de,W5.dB,W5.rg,W5.r0,W5.mq,W5.po⟩;refine hK h7 G2 W7 ⟨λT hT=> ?_,λb hb=> ?_⟩ R4
 ·have o1:aM T h h4:=(O12.mono ak).trans (S24.O T hT) λb hb _=>hb;exact(o1.trans (O5.mono ak) λb hb _=>hb).trans O57 λb hb hl=>by simp at hb;omega
 ·rcases S24.B b hb with q|q
  ·exact .inl q
  ·exact .inr (by have:=O12.size;omega)
def Ce{h:aI}{n1 n2:Int}{Q:Nat->aI->Prop}(hQ: ∀h',At h' h.size [ap n1,ar n2]->aM [] h h'->Q h.size h'):
  bg h (.cells #[(ap (0:Int)),(ar (0:Int))] 76) (λb6 h7=>aY h7 (Addr.add (aw b6) 0) (ap n1) (λh8=>aY h8 (Addr.add (aw b6) 1) (ar n2) (λh9=>Q b6 h9))):=by
 refine aW λh1 A1 O1 z1=> ?_;rw[aL,aL];refine aU (i:=0) A1 ak rfl λh2 A2 O2 z2=>aU (i:=1) A2 ak rfl λh3 A3 O3 z3=>hQ h3 A3 ?_;exact(O1.trans O2 (by intro x hx hl;simp at hx;omega)).trans O3 (by intro x hx hl;simp at hx;omega)
structure i6(G:EG)(ans:Nat):Prop where
 n:G.n=8
 fo:G.fo=fill 8
 pend: ∀k,k<4->(G.E.ses k).pend=false
 jobs:G.P.jobs=[]
 M:G.M<=10
 ans:G.E.ans=ans
def i6.kp(Q:i6 G a)(k:Kp G G'):i6 G' a:=⟨k.n.trans Q.n,k.fo.trans Q.fo,by rw[k.E];exact Q.pend,k.jobs Q.jobs,by rw[k.M];exact Q.M,by rw[k.E];exact Q.ans⟩
def i6.solo(Q:i6 G a): ∀k,k<4->k≠0->((eK G 0 c).E.ses k).pend=false:=λk hk h0=>by show((iZ G.E.ses 0 _) k).pend=false;rw[cK h0];exact Q.pend k hk
def i6.next{G:EG}(Q:i6 G a){G1:EG}{x:gi}(es:G1.E.ses=iZ (eK G 0 c).E.ses 0 x)(xp:x.pend=false)(en:G1.n=G.n)(ef:G1.fo=G.fo)(ej:G1.P.jobs=G.P.jobs)(em:G1.M<=10)(ea:G1.E.ans=a+1):i6 G1 (a+1):=
 ⟨en.trans Q.n,ef.trans Q.fo,λk hk=>by
  rw[es];by_cases q:k=0
  ·rw[q,dt];exact xp
  ·rw[cK q];exact Q.solo k hk q,ej.trans Q.jobs,em,ea⟩
def DC(hK: ∀h',aM [] h h'->K aC h'):Cl 17 [] h K:=by
 have B:LB=140737488355328:=rfl;refine F17.spec ?_;refine FK (n:=8) (room:=16384) ah ah ah ah λh2 e G W2 s2 a2 n2 m2 f2 g2 _ N2 j2 w2 _ A M2 b2 O2=>⟨_,_,rfl,?_⟩;rw[show((0:Int) !=0)=false from rfl,aK];have Q2:i6 G 0:=⟨n2,f2,λk _=>by rw[s2];rfl,j2,ah,a2⟩
 have r1:fC G.n (G.E.ses 0) ⟨1,0,0,0,0,0,3⟩=0:=by rw[n2];unfold fC kY;rw[LY (by decide),LY (by decide),LY,LY (by decide),LY (by decide),LY (by decide)];exact λq=>q λr hr=>by simp[kq]at hr
 refine FL (s:=0) (c:=⟨1,0,0,0,0,0,3⟩) ah W2 (Q2.pend 0 ah) (by show 3<256;omega) r1
  (λG'=>i6 G' 1/\(G'.E.ses 0).there 0=true/\(∀y,sm 8 (fill 8) G'.N ((G'.E.ses 0).hnd 0) y=y.testBit 3)/\(G'.E.ses 0).err=0/\(G'.E.ses 0).ansd=true)
  (λ{h3 Q} W3 hQ=> ?_) (λR=>R.2.2.2.2) λh4 G4 W4 S4 R4=>⟨_,_,_,rfl,?_⟩
 ·have j:fC (eK G 0 ⟨1,0,0,0,0,0,3⟩).n ((eK G 0 ⟨1,0,0,0,0,0,3⟩).E.ses 0) ((eK G 0 ⟨1,0,0,0,0,0,3⟩).E.ses 0).cal=0:=r1;refine ri (s:=0) W3 ah rfl Q2.solo (λG'=>i6 G' 1/\G'.P.ws.length=G.P.ws.length/\(G'.E.ses 0).there 0=true/\(∀y,sm 8 (fill 8) G'.N ((G'.E.ses 0).hnd 0) y=y.testBit 3)/\(G'.E.ses 0).err=0/\(G'.E.ses 0).ansd=true) (λ{k1 Q1} O1 g=> ?_) (λR=>⟨R.1.pend,R.2.1,R.1.jobs,by have:=R.1.M;omega⟩) λk1 G1 G' R1 kp W' S'=>hQ k1 G' W' S' ⟨R1.1.kp kp,by rw[kp.E];exact R1.2.2.1,λy=> ?_,by rw[kp.E];exact R1.2.2.2.2⟩
  ·show Cl 123 _ _ _;refine AH od (W3.only0 O1) (i:=0) ah (show G.P.jobs.length<=12 by rw[j2];exact Nq _) (by show G.M+_<=_;omega) (by show G.E.ans<_;omega) (.inl rfl) j λk2 G1 W1 S1 L=>g true k2 G1 W1 ((bD.only0 O1).trans S1) ?_;obtain⟨d,d6,ed,⟨-,G5,er,⟨G3,N5,L5,v,t,f',C,R,ee,e1⟩,e2⟩|⟨k,-⟩|⟨k,-⟩⟩:=L
   ·have hE:=C.E
    have d0:d=0:=by have ed:(0:Int)=(d:Int):=ed;omega
    subst d0;have c0:=C.cnt;have cz:bi (eK G 0 ⟨1,0,0,0,0,0,3⟩).N=0:=by show bi G.N=0;rw[N2];rfl
    have o:t=0:=by
     obtain⟨-,z,f⟩:=CA R;rcases z with z|z
     ·exact z
     ·exfalso;have:=(f z).1;have:G3.room=16384:=C.room.trans m2;omega
    subst o;rw[L4 rfl]at e1;subst e1 e2 ee;have n3:G3.n=8:=C.n.trans n2;have po:=W3.po;have po:cu G3.n G3.fo G3.gg:=by rw[C.n,C.fo,C.gg];exact po
    have pg:=po.1 3 ah;have f3:G3.fo=fill 8:=C.fo.trans f2;have e0:lvl G3.n G3.N 0=G3.n:=by unfold lvl;rw[L4 ah]
    have m:cX G3.n N5:=W1.W.S.ok.1;have mn:=gh (f:=G3.fo) C.ok m (a:=0) (b:=1) (.inl ah) (.inl ah) (show G3.gg 3<lvl G3.n G3.N 0 by rw[e0];exact pg.1) R
    have es:(gS (wu (vw G3 N5 L5) 0 0 v f') 0 ((0:Nat):Int) 0).E.ses=iZ (eK G 0 ⟨1,0,0,0,0,0,3⟩).E.ses 0 (iu (setS ((eK G 0 ⟨1,0,0,0,0,0,3⟩).E.ses 0) 0 v) 0 0):=by rw[<-hE];exact jv
    have hM:=C.M;refine⟨Q2.next es rfl C.n C.fo (congrArg PS.jobs C.P) (by show G3.M+2<=10;rw[hM];show G.M+2<=10;omega) (by show G3.E.ans+1=0+1;rw[hE];exact congrArg (· +1) a2),(by show G3.P.ws.length=_;rw[C.P];rfl),?_⟩;rw[es];refine⟨rfl,λy=> ?_,rfl,rfl⟩;show sm 8 (fill 8) N5 v y=_;have q:=mn.2.2.2 y;rw[pg.2,br (a:=1) ah,br (a:=0) ah,n3,f3]at q;rw[q];cases y.testBit 3<;>rfl
   ·have k:(1:Int)=2:=k;omega
   ·have k:(1:Int)=6:=k;omega
  ·have q:=R1.1;have:=kp.sm 0 ah 0 ah R1.2.2.1 y;rw[q.n,q.fo]at this;rw[kp.E,this];exact R1.2.2.2.1 y
 obtain⟨Q4,t4,f4,e4,-⟩:=R4;refine Ce λh5 A5 O5=> ?_;have W5:=W4.only0 O5
 have r4:fC G4.n (G4.E.ses 0) ⟨4,0,0,0,0,0,0⟩=0:=by
  unfold fC kY;rw[LY (by decide),LY (by decide),LY,LY (by decide),LY (λq=>by rcases q.1 with z|z<;>simp at z),LY (λq=>by have:=q.1;simp at this)];refine λq=>q λr hr=> ?_
  have hr:r=0:=by have:kq (⟨4,0,0,0,0,0,0⟩:lY)=[0]:=rfl;rw[this]at hr;simpa using hr
  subst hr;exact⟨by unfold mK;omega,t4⟩
 have l:qz (eK G4 0 ⟨4,0,0,0,0,0,0⟩) ((eK G4 0 ⟨4,0,0,0,0,0,0⟩).E.ses 0)=128:=by
  have:qz (eK G4 0 ⟨4,0,0,0,0,0,0⟩) ((eK G4 0 ⟨4,0,0,0,0,0,0⟩).E.ses 0)=tA G4.n G4.fo G4.N ((G4.E.ses 0).hnd 0):=L4 rfl;rw[this,Q4.n,Q4.fo];unfold tA;rw[eI λx _=>f4 x]
  decide
 refine FL (s:=0) (c:=⟨4,0,0,0,0,0,0⟩) ah W5 (Q4.pend 0 ah) (by show 0<256;omega) r4 (λG'=>(G'.E.ses 0).num=128/\(G'.E.ses 0).ansd=true) (λ{h6 Q} W6 hQ=> ?_) (λR=>R.2) λh6 G6 W6 S6 R6=>⟨_,_,_,rfl,?_⟩
 ·refine ri (s:=0) W6 ah rfl Q4.solo (λG'=>G'=gS (eK G4 0 ⟨4,0,0,0,0,0,0⟩) 0 0 (qz (eK G4 0 ⟨4,0,0,0,0,0,0⟩) ((eK G4 0 ⟨4,0,0,0,0,0,0⟩).E.ses 0))) (λ{k1 Q1} O1 g=> ?_) (λ{G1} R=> ?_) λk1 G1 G' R1 kp W' S'=>hQ k1 G' W' S' ?_
  ·show Cl 124 _ _ _;refine Cs (W6.only0 O1) (i:=0) ah (by show G4.E.ans<_;rw[Q4.ans];omega) (.inl rfl) (mF r4).2.2.1 λk2 W1 S1=>g true k2 _ W1 ((bD.only0 O1).trans S1) rfl
  ·subst R;exact⟨(Q4.next (G1:=gS (eK G4 0 ⟨4,0,0,0,0,0,0⟩) 0 0 (qz (eK G4 0 ⟨4,0,0,0,0,0,0⟩) ((eK G4 0 ⟨4,0,0,0,0,0,0⟩).E.ses 0))) (c:=⟨4,0,0,0,0,0,0⟩) (x:=iu ((eK G4 0 ⟨4,0,0,0,0,0,0⟩).E.ses 0) 0 (qz (eK G4 0 ⟨4,0,0,0,0,0,0⟩) ((eK G4 0 ⟨4,0,0,0,0,0,0⟩).E.ses 0))) rfl rfl rfl rfl rfl Q4.M (congrArg (· +1) Q4.ans)).pend,rfl,Q4.jobs,by show G4.M<=_;have:=Q4.M;omega⟩
  ·rw[kp.E,R1];exact⟨l,rfl⟩
 refine Ce λh7 A7 O7=> ?_;have b5:h4.size∉lX e G4:=λhm=>by have:=W4.lt _ hm;omega
 have A6:At h6 h4.size [ap ((G4.E.ses 0).err),ar ((G4.E.ses 0).num:Int)]:=A5.only (S6.O (lX e G4) λb hb=>hb) b5;have A6:=A6.only O7 ak;rw[aO,aO];refine aH (n:=(G4.E.ses 0).err) (by rw[aL,At.rd A6];rfl) ?_;rw[e4,show((0:Int)==0)=true from rfl,aO];refine aH (n:=((G6.E.ses 0).num:Int)) (by rw[aL,At.rd A7];rfl) ?_;rw[R6.1,show(((128:Nat):Int)==128)=true from rfl];have O4:aM [] h h4:=S4.only O2 b2;have u:=S4.ge O2.size b2;exact hK h7 ((S6.only (O4.trans O5 ak) u).trans O7 ak)
section
open Go Go.ChangeShapes Go.WideShapes Go.ChangeAt Go.RowKit
def open_struct{H:Type}{i:TypeId×Value->H}{P:Program}{W:World}{r:Reach}{b0 base:Nat}{sp:Nat->Bool}{held:Bool}{t:TypeId}{fs:Array Field}{N:Nat}{v:Value}{d:DataW H}{ps:List MemPlace}
  (ht:P.underlying t=some (.struct fs)) (u:P.cellsOf t=N) (e:Value.okWide P W r b0 t v)
  (hd:DataW.Trod i P W base sp held t v d ps): ∃cs:List Value,cs.length=N/\v= .agg cs.toArray/\ ∀(j:Nat) (f:Field),fs[j]? =some f->P.cellsOf f.type=1->f.offset<N-> ∀k,P.underlying f.type=some (.int k)-> ∃n,cs[f.offset]? =some (.int k n)/\k.min<=n/\n<=k.max:=by
 obtain⟨cs,rfl,m⟩:=okWide_struct ht e;obtain⟨l,hf⟩:=hd;obtain⟨ys,n',-,-,-,o,b⟩:=DataW.trod_struct ht hf;have g:(Value.agg cs).cells=cs:=rfl;rw[g]at b;refine⟨cs.toList,by simp;omega,ak,λj f hj h ho k hk=> ?_⟩;have q:j<fs.size:=(Mf.1 hj).1;have h4:=b j f hj;have a:f.offset<cs.toList.length:=by simp;omega
 rw[h,Mj (by omega:j<ys.length)]at h4
 have c:(cs.toList.drop f.offset).take 1=[cs.toList[f.offset]'a]:=by
  rw[Pb a]
  rfl
 rw[c]at h4;obtain⟨z,h5,-,h6⟩:=DataW.trod_int hk h4;injection h5 with h5;exact⟨z,by rw[Mj a,h5],wf_range h6⟩
end
def five{cs:List Value}(l:cs.length=5)(e0:cs[0]? =some a0)(e1:cs[1]? =some a1)(e2:cs[2]? =some a2)(e3:cs[3]? =some a3)(e4:cs[4]? =some a4):cs=[a0,a1,a2,a3,a4]:=by
 apply MM;intro i
 match i with
 |0=>exact e0
 |1=>exact e1
 |2=>exact e2
 |3=>exact e3
 |4=>exact e4
 |i+5=>rw[Mt ah,Mt ak]
def zJ{zs:List Int}(hI:qq h .i64 p zs)(O:aM [] h h')(hi:i<zs.length)(hQ: ∀z,Q z):aX p λa=>(0<=(i:Int)/\(i:Int)<(Nat.cast zs.length:Int)/\aS .i64 (rd h' (Addr.add a (Int.toNat (i:Int)*1))) Q):=by obtain⟨a,e,r⟩:=hI.only O ak i hi;rw[e,aT];exact⟨ah,ah,aH (by rw[Md,MU];exact r) (hQ _)⟩
def Ht{h h':aI}{p:az}{l i:Nat}{sv:Nat->Nat->Value}{Q:Int->Int->Int->Int->Int->Int->Int->Prop}(R:Hg h p l 7 sv)(O:aM [] h h')(hi:i<l)(g0: ∀i,i<l-> ∃n,sv i 0=ap n/\IntKind.min .i64<=n/\n<=IntKind.max .i64)(g1: ∀i,i<l-> ∃n,sv i 1=ap n/\IntKind.min .i64<=n/\n<=IntKind.max .i64)
  (g2: ∀i,i<l-> ∃n,sv i 2=ap n/\IntKind.min .i64<=n/\n<=IntKind.max .i64) (g3: ∀i,i<l-> ∃n,sv i 3=ap n/\IntKind.min .i64<=n/\n<=IntKind.max .i64) (g4: ∀i,i<l-> ∃n,sv i 4=ap n/\IntKind.min .i64<=n/\n<=IntKind.max .i64)
  (g5: ∀i,i<l-> ∃n,sv i 5=ap n/\IntKind.min .i64<=n/\n<=IntKind.max .i64) (g6: ∀i,i<l-> ∃n,sv i 6= .int .u8 n/\IntKind.min .u8<=n/\n<=IntKind.max .u8) (hQ: ∀(y0 y1 y2 y3 y4 y5:Int) (m:Nat),m<256->Q y0 y1 y2 y3 y4 y5 (m:Int)):
  aX p λa3=>(0<=(i:Int)/\(i:Int)<(Nat.cast l:Int)/\aS .i64 (rd h' (Addr.add (Addr.add a3 (Int.toNat (i:Int)*7)) 0)) (λn4=>aS .i64 (rd h' (Addr.add (Addr.add a3 (Int.toNat (i:Int)*7)) 1)) (λn5=>aS .i64 (rd h' (Addr.add (Addr.add a3 (Int.toNat (i:Int)*7)) 2)) (λn6=>aS .i64 (rd h' (Addr.add (Addr.add a3 (Int.toNat (i:Int)*7)) 3)) (λn7=>aS .i64 (rd h' (Addr.add (Addr.add a3 (Int.toNat (i:Int)*7)) 4)) (λn8=>aS .i64 (rd h' (Addr.add (Addr.add a3 (Int.toNat (i:Int)*7)) 5)) (λn9=>aS .u8 (rd h' (Addr.add (Addr.add a3 (Int.toNat (i:Int)*7)) 6)) (λc=>Q n4 n5 n6 n7 n8 n9 c)))))))):=by
 obtain⟨a,ea,-⟩:=R i 0 hi ah
 have r: ∀j,j<7->rd h' (Addr.add (Addr.add a (Int.toNat (i:Int)*7)) j)=some (sv i j):=λj hj=>by obtain⟨b,eb,rb⟩:=R i j hi hj;rw[ea]at eb;injection eb with eb;subst eb;rw[xg,Md];exact Dr rb O ak
 obtain⟨y0,e0,-⟩:=g0 i hi;obtain⟨y1,e1,-⟩:=g1 i hi;obtain⟨y2,e2,-⟩:=g2 i hi;obtain⟨y3,e3,-⟩:=g3 i hi;obtain⟨y4,e4,-⟩:=g4 i hi;obtain⟨y5,e5,-⟩:=g5 i hi;obtain⟨y6,e6,u6⟩:=g6 i hi;have u6:0<=y6/\y6<=255:=u6;obtain⟨m,em⟩: ∃m:Nat,y6=(m:Int):=⟨y6.toNat,ah⟩;subst em;rw[ea,aT];exact⟨ah,ah,aH (by rw[r 0 ah,e0]) (aH (by rw[r 1 ah,e1]) (aH (by rw[r 2 ah,e2]) (aH (by rw[r 3 ah,e3]) (aH (by rw[r 4 ah,e4]) (aH (by rw[r 5 ah,e5]) (aH (by rw[r 6 ah,e6]) (hQ _ _ _ _ _ _ _ ah)))))))⟩
def law16(h:aI)(x0:Int)(_:IntKind.min .i64<=x0/\x0<=IntKind.max .i64)(x1:Int)(_:IntKind.min .i64<=x1/\x1<=IntKind.max .i64)(x2:Int)(_:IntKind.min .i64<=x2/\x2<=IntKind.max .i64)
  (p:az) (c l:Nat) (sv:Nat->Nat->Value) (R:Hg h p l 7 sv) (_:(l:Int)<=maxLen) (g0: ∀i,i<l-> ∃n,sv i 0=ap n/\IntKind.min .i64<=n/\n<=IntKind.max .i64) (g1: ∀i,i<l-> ∃n,sv i 1=ap n/\IntKind.min .i64<=n/\n<=IntKind.max .i64)
  (g2: ∀i,i<l-> ∃n,sv i 2=ap n/\IntKind.min .i64<=n/\n<=IntKind.max .i64) (g3: ∀i,i<l-> ∃n,sv i 3=ap n/\IntKind.min .i64<=n/\n<=IntKind.max .i64) (g4: ∀i,i<l-> ∃n,sv i 4=ap n/\IntKind.min .i64<=n/\n<=IntKind.max .i64)
  (g5: ∀i,i<l-> ∃n,sv i 5=ap n/\IntKind.min .i64<=n/\n<=IntKind.max .i64) (g6: ∀i,i<l-> ∃n,sv i 6= .int .u8 n/\IntKind.min .u8<=n/\n<=IntKind.max .u8)
  (q:az) (qc:Nat) (zs:List Int) (hI:qq h .i64 q zs) (_: ∀z∈zs,IntKind.min .i64<=z/\z<=IntKind.max .i64) (_:(zs.length:Int)<=maxLen)
  (y0:Int) (_:IntKind.min .i64<=y0/\y0<=IntKind.max .i64) (y1:Int) (m1:IntKind.min .u32<=y1/\y1<=IntKind.max .u32) (y2:Int) (m2:IntKind.min .u32<=y2/\y2<=IntKind.max .u32) (y3:Int) (m3:IntKind.min .u32<=y3/\y3<=IntKind.max .u32) (y4:Int) (m4:IntKind.min .u8<=y4/\y4<=IntKind.max .u8):
  Cl 16 [ap x0,ap x1,ap x2,.slice p l c,.slice q zs.length qc,.agg #[ap y0,aq y1,aq y2,aq y3,.int .u8 y4]] h (hZ h):=by
 have m1:0<=y1/\y1<=4294967295:=m1;have m2:0<=y2/\y2<=4294967295:=m2;have m3:0<=y3/\y3<=4294967295:=m3;have m4:0<=y4/\y4<=255:=m4;obtain⟨ja,e1⟩: ∃m:Nat,y1=(m:Int):=⟨y1.toNat,ah⟩;obtain⟨jb,e2⟩: ∃m:Nat,y2=(m:Int):=⟨y2.toNat,ah⟩;obtain⟨jc,e3⟩: ∃m:Nat,y3=(m:Int):=⟨y3.toNat,ah⟩;obtain⟨jm,e4⟩: ∃m:Nat,y4=(m:Int):=⟨y4.toNat,ah⟩;subst e1 e2 e3 e4;refine F16.spec _ _ _ _ _ _ _ _ _ _ _ _ _ _ h _ ?_;refine aW λh1 A1 O1 z1=> ?_;refine DC λh2 O2=>a8 rfl ?_;rw[MF,aK];have O02:=O1.trans O2 ak;refine aR (λ_=>⟨rfl,O02⟩) λhl=>aR (λ_=>⟨rfl,O02⟩) λhs=> ?_;have hl:=Me hl;have hs:=Me hs
 have tl:Cl 18 [ap x0,ap x1,ap x2] h2 λv6 h7=> ∃p8:az,∃n9:Int,v6= .tuple #[.pointer p8,ap n9]/\aJ (n9 !=(0:Int)) (aJ (Option.isNone p8) (aJ (n9==(40:Int)) (hZ h aC h7) (hZ h (aD (n9==(60:Int))) h7)) (hZ h aB h7)) (F16.wk9 p l c q zs.length qc (aw h.size) p8 0 h7 (hZ h)):=by
  refine Gq (λer he=>⟨_,_,rfl,?_⟩) λh3 e G W3 s3 a3 j3 o M3 b3 O3=>⟨_,_,rfl,?_⟩
  ·rcases he with e|e<;>subst e
   ·rw[show((40:Int) !=0)=true from rfl,aO,show Option.isNone (none:az)=true from rfl,aO,show((40:Int)==40)=true from rfl,aO];exact⟨rfl,O02⟩
   ·rw[show((60:Int) !=0)=true from rfl,aO,show Option.isNone (none:az)=true from rfl,aO,show((60:Int)==40)=false from rfl,aK];exact⟨rfl,O02⟩
  rw[show((0:Int) !=0)=false from rfl,aK];have I3:=GI.new W3 s3 a3 j3 o M3;obtain⟨nw,t⟩: ∃nw,nw=G.P.ws.length:=⟨_,rfl⟩;rw[<-t]at I3;unfold F16.wk9;have z2:=O2.size
  have g: ∀(d i:Nat) (h4:aI) (G4:EG),i+d=l->GI i nw h4 e G4->aM [] h1 h4->(∀b∈lX e G4,h1.size<=b)->F16.wL9 (d+1) p l c q zs.length qc (aw h.size) (some (aw e)) (i:Int) h4 (hZ h):=by
   intro d
   induction d with
   |zero=>
    intro i h4 G4 hi I4 O4 b4;rw[F16.sL9];rw[L7 ah,aK];unfold F16.wk17;simp only[aL,LX];refine xL (n:=4) (room:=300) (Q:=QL 4 (fill 4) []) ah ah ah ah λk1 s L S1 P1 f1=>⟨_,_,rfl,?_⟩;have S1:bT k1 s L (XL 4 300 (fill 4) (fill 4) [] false):=S1;rw[show((0:Int) !=0)=false from rfl,aK];have B1:=A1.only (O4.trans P1 ak) ak;have r: ∀j,rd k1 ⟨h.size,j,none⟩=([ap y0,aq (ja:Int),aq (jb:Int),aq (jc:Int),.int .u8 (jm:Int)]:List Value)[j]? :=λj=>At.rd B1 j;refine aH (by rw[r];rfl) (aH (by rw[r];rfl) (aH (by rw[r];rfl) (aH (by rw[r];rfl) (aH (by rw[r];rfl) ?_))));have z4:=O4.size;refine JY (x:=y0) (mask:=jm) ah ah ah ah S1 (mS 4) λk2 L2 N2 rr gg gl gr S2 P2 F2=>⟨_,_,rfl,?_⟩;have B2:=B1.only P2 λhm=>by have:=f1 _ hm;omega
    have r2: ∀j,rd k2 ⟨h.size,j,none⟩=([ap y0,aq (ja:Int),aq (jb:Int),aq (jc:Int),.int .u8 (jm:Int)]:List Value)[j]? :=λj=>At.rd B2 j;refine aH (by rw[r2];rfl) (aH (by rw[r2];rfl) ?_);refine HO S2 ah ah λk3 x k xk P3=>⟨_,_,rfl,?_⟩;have P12:aM [] h4 k2:=P1.trans P2 λb hb hl=>by have:=f1 b hb;omega
    have P13:aM [] h4 k3:=P12.trans P3 λb hb hl=>by
     rcases F2 b hb with w|w
     ·have:=f1 b w;omega
     ·have:=P1.size;omega
    refine Cz (I4.only0 P13) λh5 G5 I5 S5 _=>a8 rfl ?_;rw[aO,Mg ah,aO,Mg ah,aO];have O5:aM [] h h5:=S5.only (O1.trans (O4.trans P13 ak) ak) λb hb=>by have:=b4 b hb;omega
    have hx:((k:Int)==(0:Int))=false->((x:Int)==(0:Int))=true:=λw=>by
     rcases xk with y|y
     ·rw[y]at w;cases w
     ·rw[y];rfl
    have fin:aJ ((k:Int)==(0:Int)) (hZ h aC h5) (hZ h (aD ((x:Int)==(0:Int))) h5):=aR (λ_=>⟨rfl,O5⟩) λw=>by rw[hx w];exact⟨rfl,O5⟩
    refine aR (λ_=>fin) λw=> ?_
    have er:rr=0:=by
     rcases gr with y|y
     ·rw[y]at w;cases w
     ·exact y
    rw[er,show(((0:Nat):Int)==(0:Int))=true from rfl,aO];exact fin
   |succ d ih=>
    intro i h4 G4 hi I4 O4 b4;rw[F16.sL9];rw[Mg ah,aO];have O04:=O1.trans O4 ak;have z4:=O4.size
    have f: ∀{k1:aI} {G5:EG},GI (i+1) nw k1 e G5->bD e G4 h4 G5 k1->aX q λa=>(0<=(i:Int)/\(i:Int)<(Nat.cast zs.length:Int)/\aS .i64 (rd k1 (Addr.add a (Int.toNat (i:Int)*1))) λn=>Cl 26 [au (aw e),ap n,ap (i:Int)] k1 λv k2=>bQ (some v) λ_=>F16.wL9 (d+1) p l c q zs.length qc (aw h.size) (some (aw e)) (ax ((i:Int)+(1:Int))) k2 (hZ h)):=λ{k1 G5} I5 S5=>by refine zJ hI (O1.trans (S5.only O4 b4) ak) ah λz=>Bt I5 λb k2 G6 I6 S6 _ _=>a8 rfl ?_;rw[wrap_i64 ah ah,show(i:Int)+1=((i+1:Nat):Int) by omega];have S7:=S5.trans S6;exact ih (i+1) k2 G6 ah I6 (S7.only O4 b4) (S7.ge z4 b4)
    refine zJ hI O04 ah λz=>Ht R O04 ah g0 g1 g2 g3 g4 g5 g6 λc0 c1 c2 c3 c4 c5 m hm=> ?_;refine CN (c:=⟨c0,c1,c2,c3,c4,c5,m⟩) I4 ah hm λk1 G5 x xl xu I5 S5=>aH rfl ?_;rw[L7 ah,aK,L7 ah,aK];refine⟨by decide,aR (λ_=>Cz I5 λk2 G6 I6 S6 _=>a8 rfl ?_) λ_=>f I5 S5⟩;rw[MF,aK];exact f I6 (S5.trans S6)
  exact⟨_,g l 0 h3 G ah I3 (O2.trans O3 ak) λb hb=>by have:=b3 b hb;omega⟩
 exact aR (λ_=>aR (λ_=>⟨rfl,O02⟩) λ_=>tl) λ_=>tl
end Go.Proofs.YtnofenejoebkhaaGreat.Ev
