/- PART 8 OF WHAT THE LAW WholeOnce STANDS ON. Conditions: none but those that each lemma states. -/
import Derived.Test.YtnofenejoebkhaaGreatG7
import Derived.Shelf.Abstract
namespace Go.Proofs.YtnofenejoebkhaaGreat.Ev
open Go
set_option linter.defProp false
set_option maxRecDepth 100000
set_option autoImplicit true
set_option relaxedAutoImplicit true
structure nK(h:aI)(s n room:Nat)(fo gg:Nat->Nat)(off:Bool)(N:ay)(L:List Nat)(rs:List Nat)(G:Nat->Nat->Bool)(lo:Nat)(p:az)(c:Nat):Prop where
 S:bV h s L (XL n room fo gg N off)
 P:cF n fo gg
 Ow:cw h lo 1 p rs.length c (rs.map hv)
 np: ∀y∈aV p,y∉L
 ir: ∀r∈rs,isN N r/\ ∀x,sm n fo N r x=G r x
 rl:rs.length<=100000
def Bz(H:cY n N)(M:Mk N rs keep [])(hr:r∈rs)(ir:isN N r):isN (cu keep N) r/\ ∀x,sm n fo (cu keep N) r x=sm n fo N r x:=by
 have cl: ∀i x,nd N i=some x->keep (i+2)=true->(x.2.1<2\/keep x.2.1=true)/\(x.2.2<2\/keep x.2.2=true):=λi x hx hk=>by have:=M.cl i x hx hk;simpa using this
 obtain⟨ok,a,ex⟩:=nT H cl
 have i1:isN (cu keep N) r:=by
  rw[a];rcases M.ro r hr with q|q|q
  ·exact .inl q
  ·exact .inr ⟨ir,q⟩
  ·cases q
 exact⟨i1,λx=>(ex.sm ok i1).symm⟩
def Ie(s:Nat)(p:az)(l c:Nat):Value:= .agg #[bg s,.slice p l c]
def nK.lt{h:aI}(S:nK h s n room fo gg off N L rs G lo p c): ∀y∈aV p,y<h.size:=λy hy=>(S.Ow.lt y hy).2
def nK.next(S:nK h s n room fo gg off N L rs G lo p c)(S':bV h' s L' (XL n room fo' gg' N' off))(P':cF n fo' gg')(O:aM L h h')(F:bH L L' h)(ir: ∀r∈rs,isN N' r/\ ∀x,sm n fo' N' r x=G r x):nK h' s n room fo' gg' off N' L' rs G lo p c:=
 ⟨S',P',S.Ow.only O λb e=>S.np b (by rw[e];simp[aV]),λy hy hm=>by
  rcases F y hm with q|q
  ·exact S.np y hy q
  ·have:=S.lt y hy;omega,ir,S.rl⟩
def nK.only0(S:nK h s n room fo gg off N L rs G lo p c)(O:aM [] h h'):nK h' s n room fo gg off N L rs G lo p c:=S.next (S.S.only0 O) S.P (O.mono ak) (bH.refl _ _) S.ir
def Cj{rs:List Nat}(S:nK h s n room fo gg off N L rs G lo p c)(hK: ∀h' L' N' a,nK h' s n room fo gg off N' L' rs G lo p c->aM L h h'->bH L L' h->K (.tuple #[ap a,ap 0]) h'):
  Cl 218 [bg s,.slice p rs.length c] h K:=by
 refine kP (λkeep=>QL n fo (cu keep N)) S.S S.Ow (λr hr=>(S.ir r hr).1) S.rl λh1 L1 a keep M S1 O1 F1=>hK h1 L1 (cu keep N) a ?_ O1 F1;have S1:bV h1 s L1 (XL n room fo gg (cu keep N) off):=S1;have M:Mk N rs keep []:=M;have ok:cY n N:=S.S.ok.1;have n8:n<=8:=S.S.ok.2.2.1;refine S.next S1 S.P O1 F1 λr hr=> ?_;obtain⟨i1,e1⟩:=Bz (fo:=fo) ok M hr (S.ir r hr).1;exact⟨i1,λx=>by rw[e1,(S.ir r hr).2]⟩
def Hs{rs:List Nat}(S:nK h s n room fo gg off N L rs G lo p c)(hk:k+1<n)(hF: ∀h',aM [] h h'->K (ap 60) h')
  (hK: ∀h' L' N',nK h' s n room (sw k fo) (tf k fo gg) off N' L' rs G lo p c->aM L h h'->bH L L' h->K (ap 0) h'):Cl 312 [Ie s p rs.length c,ap (k:Int)] h K:=by
 refine F312.spec ?_;refine aX λh1 A1 O1 z1=> ?_;simp only[aL,MF];have S1:=S.only0 O1;refine aR (n:=some (aw s)) (by rw[At.rd A1];rfl) ?_;refine EL S1.S hk S1.P (λh2 O2=>aH rfl ?_) λh2 L2 N2 d S2 O2 F2=>aH rfl ?_
 ·rw[show((60:Int) !=0)=true from rfl,aO];exact hF h2 (O1.trans O2 ak)
 rw[show((0:Int) !=0)=false from rfl,aJ];have S2:bV h2 s L2 {XL n room (sw k fo) (tf k fo gg) N2 off with Q:=QL n fo N}:=S2;have d: ∀a,isN N a->isN N2 a/\ ∀x,sm n (sw k fo) N2 a x=sm n fo N a x:=d;have nb:h.size∉L:=λhm=>by have:=S.S.lt _ hm;omega
 have A2:=A1.only O2 nb;refine aR (n:=some (aw s)) (by rw[At.rd A2];rfl) (bB (p:=p) (l:=rs.length) (c:=c) (by rw[At.rd A2];rfl) ?_);have Ow2:=S1.Ow.only O2 λb e=>S1.np b (by rw[e];simp[aV]);have f:cY n N2:=S2.ok.1;refine kP (λkeep=>QL n (sw k fo) (cu keep N2)) S2 Ow2 (λr hr=>(d r (S.ir r hr).1).1) S.rl λh3 L3 g keep M S3 O3 F3=>⟨_,_,rfl,?_⟩;have S3:bV h3 s L3 (XL n room (sw k fo) (tf k fo gg) (cu keep N2) off):=S3;have M:Mk N2 rs keep []:=M;have O13:aM L h1 h3:=O2.app O3 F2;have F13:bH L L3 h1:=F2.trans F3 O2.size;refine hK h3 L3 _ (S1.next S3 (Dg S.P hk) O13 F13 λr hr=> ?_) ((O1.mono ak).trans O13 λy hy _=>hy) λy hy=>(F13 y hy).imp id λq=>by have:=O1.size;omega
 obtain⟨i0,e0⟩:=d r (S.ir r hr).1;obtain⟨i1,e1⟩:=Bz (fo:=sw k fo) f M hr i0;exact⟨i1,λx=>by rw[e1,e0,(S.ir r hr).2]⟩
def FD{rs:List Nat}(S:nK h s n room fo gg off N L rs G lo p c)(hv:v<n)(hl:level<n)
  (hK: ∀h' L' fo' gg' N' e,e=0\/e=60->nK h' s n room fo' gg' off N' L' rs G lo p c->aM L h h'->bH L L' h->K (ap e) h'):Cl 291 [Ie s p rs.length c,ap (v:Int),ap (level:Int)] h K:=by
 have ok:=S.S.ok;dsimp only[XL]at ok;have n8:=ok.2.2.1;refine F291.spec _ _ _ _ _ _ h K ?_;refine aX λh1 A1 O1 z1=> ?_;unfold F291.wk1
 have g: ∀(d:Nat) (k:aI) (L1:List Nat) (b a:Nat->Nat) (N1:ay),(a v-level)+(level-a v)<=d->nK k s n room b a off N1 L1 rs G lo p c->h.size∉L1->At k h.size [bg s,.slice p rs.length c]->aM L h1 k->bH L L1 h1->
   F291.wL1 (d+1) (v:Int) (level:Int) (aw h.size) k K:=by
  intro d
  induction d with
  |zero=>
   intro k L1 b a N1 hd S1 nb A O F;rw[F291.sL1];simp only[aL,MF];refine aR (n:=some (aw s)) (by rw[At.rd A];rfl) (dX S1.S λc2 k2 Or g2 O2=>aR rfl (iD Or n8 hv (aH rfl ?_)));show aK (((a v:Nat):Int)==(level:Int)) _ _;rw[show(((a v:Nat):Int)==(level:Int))=true by rw[ON];omega,aO];exact hK k2 L1 b a N1 0 (.inl rfl) (S1.only0 O2) (((O1.mono ak).trans O λy hy _=>hy).trans (O2.mono ak) λy hy _=>hy) λy hy=>(F y hy).imp id λq=>by have:=O1.size;omega
  |succ d ih=>
   intro k L1 b a N1 hd S1 nb A O F;rw[F291.sL1];simp only[aL,MF];refine aR (n:=some (aw s)) (by rw[At.rd A];rfl) (dX S1.S λc2 k2 Or g2 O2=>aR rfl (iD Or n8 hv (aH rfl ?_)));show aK (((a v:Nat):Int)==(level:Int)) _ _;by_cases e:a v=level
   ·rw[show(((a v:Nat):Int)==(level:Int))=true by rw[ON];omega,aO];exact hK k2 L1 b a N1 0 (.inl rfl) (S1.only0 O2) (((O1.mono ak).trans O λy hy _=>hy).trans (O2.mono ak) λy hy _=>hy) λy hy=>(F y hy).imp id λq=>by have:=O1.size;omega
   rw[show(((a v:Nat):Int)==(level:Int))=false by rw[Pz];omega,aJ];have A2:=A.only O2 ak;have S2:=S1.only0 O2;refine aR (n:=some (aw s)) (by rw[At.rd A2];rfl) (bB (p:=p) (l:=rs.length) (c:=c) (by rw[At.rd A2];rfl) ?_);obtain⟨gv,ev⟩:=S1.P.1 v hv
   obtain⟨j,ej,hj,f⟩: ∃j:Nat,(if(if(level:Int)>(ax (((a v:Nat):Int)-(1:Int)))then(level:Int)else(ax (((a v:Nat):Int)-(1:Int))))<((a v:Nat):Int)then(if(level:Int)>(ax (((a v:Nat):Int)-(1:Int)))then(level:Int)else(ax (((a v:Nat):Int)-(1:Int))))else((a v:Nat):Int))=(j:Int)/\j+1<n/\(if level<a v then j+1=a v else j=a v):=by
    rw[wrap_i64 ah ah];by_cases q:level<a v
    ·refine⟨a v-1,?_,ah,by rw[MK q];omega⟩;rw[MG (show ¬(level:Int)>((a v:Nat):Int)-1 by omega),MK (show((a v:Nat):Int)-1<((a v:Nat):Int) by omega)];omega
    ·refine⟨a v,?_,ah,by rw[MG q]⟩;rw[MK (show(level:Int)>((a v:Nat):Int)-1 by omega),MG (show ¬(level:Int)<((a v:Nat):Int) by omega)]
   show Cl 312 [Ie s p rs.length c,ap (if(if(level:Int)>(ax (((a v:Nat):Int)-(1:Int)))then(level:Int)else(ax (((a v:Nat):Int)-(1:Int))))<((a v:Nat):Int)then(if(level:Int)>(ax (((a v:Nat):Int)-(1:Int)))then(level:Int)else(ax (((a v:Nat):Int)-(1:Int))))else((a v:Nat):Int))] _ _;rw[ej];refine Hs S2 hj (λk3 O3=>aH rfl ?_) λk3 L3 N3 S3 O3 F3=>aH rfl ?_
   ·rw[show((60:Int) !=0)=true from rfl,aO];exact hK k3 L1 b a N1 60 (.inr rfl) (S2.only0 O3) ((((O1.mono ak).trans O λy hy _=>hy).trans (O2.mono ak) λy hy _=>hy).trans (O3.mono ak) λy hy _=>hy) λy hy=>(F y hy).imp id λq=>by have:=O1.size;omega
   rw[show((0:Int) !=0)=false from rfl,aJ];have s2:=O2.size;have lA:=A.lt
   have i:h.size∉L3:=λhm=>by
    rcases F3 _ hm with q|q
    ·exact nb q
    ·omega
   have m:tf j b a v=if level<a v then j else j+1:=by
    unfold tf iX;by_cases q:level<a v
    ·rw[MK q]at f ⊢;have e1:b (j+1)=v:=by rw[f];exact ev
     have e0:v≠b j:=λe=>by have:=(S1.P.2 j ah).2;rw[<-e]at this;omega
     rw[MG e0,MK e1.symm]
    ·rw[MG q]at f ⊢;rw[MK (by rw[f];exact ev.symm)]
   have O23:aM L1 k k3:=(O2.mono ak).trans O3 λy hy _=>hy;have F23:bH L1 L3 k:=λy hy=>(F3 y hy).imp id λq=>ah
   refine ih k3 L3 _ _ N3 (by
    rw[m];by_cases q:level<a v
    ·rw[MK q]at f ⊢;omega
    ·rw[MG q]at f ⊢;omega) S3 i (A2.only O3 nb) (O.app O23 F) (F.trans F23 O.size)
 have nb:h.size∉L:=λhm=>by have:=S.S.lt _ hm;omega
 exact⟨_,g _ h1 L fo gg N (MN _) (S.only0 O1) nb A1 (aM.refl _ _) (bH.refl _ _)⟩
def zA{rs:List Nat}(S:nK h s n room fo gg off N L rs G lo p c)(hK: ∀h' (z:Int),aM [] h h'->K (ap z) h'):Cl 255 [Ie s p rs.length c] h K:=by refine F255.spec ?_;refine aX λh1 A1 O1 z1=> ?_;simp only[aL,MF];refine aR (n:=some (aw s)) (by rw[At.rd A1];rfl) (bB (p:=p) (l:=rs.length) (c:=c) (by rw[At.rd A1];rfl) ?_);have S1:=S.only0 O1;refine F51.spec ?_;refine pR S1.S S1.Ow (λr hr=>(S.ir r hr).1) S.rl λh2 mb mo keep M Kp gm e O2=>⟨_,_,rfl,?_⟩;obtain⟨es,cl,m1,m2,-⟩:=M;exact⟨es,cl,m1,_,_,rfl,hK h2 _ (O1.trans O2 ak)⟩
def Ht{rs:List Nat}(S:nK h s n room fo gg off N L rs G lo p c)(hv:v<n)
  (hK: ∀h' L' fo' gg' N' e,e=0\/e=60->nK h' s n room fo' gg' off N' L' rs G lo p c->aM L h h'->bH L L' h->K (ap e) h'):Cl 257 [Ie s p rs.length c,ap (v:Int)] h K:=by
 have ok:=S.S.ok;dsimp only[XL]at ok;have n8:=ok.2.2.1;refine F257.spec _ _ _ _ _ h K ?_;refine aX λh1 A1 O1 z1=> ?_;simp only[aL,MF];have S1:=S.only0 O1;refine aR (n:=some (aw s)) (by rw[At.rd A1];rfl) (dE S1.S (aH rfl ?_));unfold F257.wk3;have nb:h.size∉L:=λhm=>by have:=S.S.lt _ hm;omega
 have t: ∀(d l:Nat) (k:aI) (L1:List Nat) (m o:Nat->Nat) (N1:ay) (a:Nat) (b:Int),l+d=n->a<n->nK k s n room m o off N1 L1 rs G lo p c->h.size∉L1->At k h.size [bg s,.slice p rs.length c]->aM L h1 k->bH L L1 h1->
   F257.wL3 (d+1) (v:Int) (aw h.size) (a:Int) b (n:Int) (l:Int) k K:=by
  intro d
  induction d with
  |zero=>
   intro l k L1 m o N1 a b hl hb S2 i A O F;rw[F257.sL3];rw[MJ ah,aJ];unfold F257.wk12;simp only[aL,MF];refine aR (n:=some (aw s)) (by rw[At.rd A];rfl) (bB (p:=p) (l:=rs.length) (c:=c) (by rw[At.rd A];rfl) ?_);refine FD (level:=a) S2 hv hb λh3 L3 g f N3 e he S3 O3 F3=>aH rfl ?_;have O13:=O.app O3 F;have F13:=F.trans F3 O.size;exact hK h3 L3 g f N3 e he S3 ((O1.mono ak).trans O13 λy hy _=>hy) λy hy=>(F13 y hy).imp id λq=>by have:=O1.size;omega
  |succ d ih=>
   intro l k L1 m o N1 a b hl hb S2 i A O F;rw[F257.sL3];rw[MP ah,aO];simp only[aL,MF];refine aR (n:=some (aw s)) (by rw[At.rd A];rfl) (bB (p:=p) (l:=rs.length) (c:=c) (by rw[At.rd A];rfl) ?_);refine FD (level:=l) S2 hv ah λh3 L3 g f N3 e he S3 O3 F3=>aH rfl ?_;have O13:=O.app O3 F;have F13:=F.trans F3 O.size;rcases he with q|q
   ·subst q;rw[show((0:Int) !=0)=false from rfl,aJ];have lA:=A.lt;have A3:=A.only O3 i
    have j:h.size∉L3:=λhm=>by
     rcases F3 _ hm with q|q
     ·exact i q
     ·omega
    refine aR (n:=some (aw s)) (by rw[At.rd A3];rfl) (bB (p:=p) (l:=rs.length) (c:=c) (by rw[At.rd A3];rfl) ?_);refine zA S3 λh4 z O4=>aH rfl ?_;have S4:=S3.only0 O4;have A4:=A3.only O4 ak;have O34:aM L1 k h4:=O3.trans (O4.mono ak) λy hy _=>hy;have O14:=O.app O34 F;have F14:=F.trans F3 O.size;have ew:ax ((l:Int)+1)=((l+1:Nat):Int):=by rw[wrap_i64 ah ah];omega
    rw[ew];exact aS (λ_=>ih (l+1) h4 L3 g f N3 l z ah ah S4 j A4 O14 F14) λ_=>aS (λ_=>ih (l+1) h4 L3 g f N3 l z ah ah S4 j A4 O14 F14) λ_=>ih (l+1) h4 L3 g f N3 a b ah hb S4 j A4 O14 F14
   ·subst q;rw[show((60:Int) !=0)=true from rfl,aO];exact hK h3 L3 g f N3 60 (.inr rfl) S3 ((O1.mono ak).trans O13 λy hy _=>hy) λy hy=>(F13 y hy).imp id λq=>by have:=O1.size;omega
 exact⟨_,t n 0 h1 L fo gg N 0 (-1) ah ah S1 nb A1 (aM.refl _ _) (bH.refl _ _)⟩
def IS{rs:List Nat}(S:nK h s n room fo gg off N L rs G lo p c)(hK: ∀h' (z:Int),aM [] h h'->K (ap z) h'):Cl 254 [.slice p rs.length c] h K:=by
 have rl:=S.rl;refine F254.spec _ _ _ h K ?_;refine eW (k:= .u32) λh1 M1 O1 z1=> ?_;unfold F254.wk3
 have f: ∀(d t:Nat) (k:aI) (mo:List (Int×Value)),t+d=rs.length->bS k h.size .u32 mo->aM [h.size] h1 k->F254.wL3 (d+1) (some h.size) p rs.length c (rs.length:Int) (t:Int) k K:=by
  intro d
  induction d with
  |zero=>
   intro t k mo ht M O;rw[F254.sL3];rw[MJ ah,aJ];unfold F254.wk8;obtain⟨es,cl,m1,m2,-⟩:=M;exact⟨es,cl,m1,hK k _ (O1.trans O λy hy hl=>by simp only[MH]at hy;omega)⟩
  |succ d ih=>
   intro t k mo ht M O;rw[F254.sL3];rw[MP ah,aO];obtain⟨a,ha⟩: ∃a,rs[t]? =some a:=⟨_,MT ah⟩;have lt:=S.lt
   obtain⟨b,eb,rb⟩:=((S.Ow.only O1 ak).only O λb e hm=>by simp only[MH]at hm;have:=lt b (by rw[e];simp[aV]);omega).elem ha
   rw[eb,aT,<-eb];refine⟨ah,ah,?_⟩;simp only[aL,MF,Nz,MO];rw[show ax ((t:Int)+1)=((t+1:Nat):Int) by rw[wrap_i64 ah ah];omega];exact aH (n:=(a:Int)) rb (aS (λ_=>fh M λk2 M2 O2 z2=>ih (t+1) k2 _ ah M2 (O.trans O2 λy hy _=>hy)) λ_=>ih (t+1) k mo ah M O)
 exact⟨_,f rs.length 0 h1 [] ah M1 (aM.refl _ _)⟩
abbrev It:=Int×Int
def cr(L:List It)(i:Nat):It:=L.getD i (0,0)
def kQ(a b:It):Bool:=decide (a.2>b.2)||(a.2==b.2&&decide (a.1<b.1))
def gG(L:List It)(i j:Nat):List It:=(L.set i (cr L j)).set j (cr L i)
def dD(k:Nat):Nat:=(k-1)/2
def kA(L:List It)(k:Nat):Prop:=kQ (cr L k) (cr L (dD k))=false
def fi(L:List It)(n:Nat):Prop:= ∀k,0<k->k<n->kA L k
def oy(h:kQ a b=true):kQ b a=false:=by
 simp only[kQ,NO,Nm,Na,ON,Qn,Qb,MX]at*
 omega
def oB(h1:kQ a b=false)(h2:kQ b c=false):kQ a c=false:=by
 simp only[kQ,ON,Qn,Qb,MX]at*
 omega
def BB(h1:kQ c b=false)(h2:kQ a b=true):kQ c a=false:=by
 simp only[kQ,NO,Nm,Na,ON,Qn,Qb,MX]at*
 omega
def pL(a:It):kQ a a=false:=by simp[kQ]
def eY(L:List It)(i j:Nat):(gG L i j).length=L.length:=by simp[gG]
def iG{L:List It}(hi:i<L.length)(hj:j<L.length)(k:Nat):cr (gG L i j) k=if k=j then cr L i else if k=i then cr L j else cr L k:=by
 unfold gG cr;by_cases h1:k=j
 ·subst h1;simp[hj]
 ·rw[MG h1];by_cases h2:k=i
  ·subst h2;simp[List.getD,Ne.symm h1,hi]
  ·rw[MG h2];simp[List.getD,Ne.symm h1,Ne.symm h2]
def Dd{L:List It}(hi:i<L.length):L[i]=cr L i:=by simp[cr,hi]
def kL{L:List It}(hi:i<L.length)(hj:j<L.length):(gG L i j).Perm L:=by
 have h:=Array.swap_perm (xs:=L.toArray) (i:=i) (j:=j) (by simpa using hi) (by simpa using hj)
 have e:(L.toArray.swap i j (by simpa using hi) (by simpa using hj)).toList=gG L i j:=by unfold gG;rw[Array.swap_def];simp[cr,hi,hj]
 rw[Array.perm_iff_toList_perm,e]at h;exact h
structure nB(L:List It)(n i0 i:Nat):Prop where
 a: ∀k,0<k->k<n->dD k≠i->(k≠i\/i≠i0)->kA L k
 b: ∀k,0<k->k<n->dD k=i->0<i->kQ (cr L k) (cr L (dD i))=false
 le:i0<=i
structure Ct(L:List It)(n j:Nat):Prop where
 a: ∀k,0<k->k<n->k≠j->kA L k
 b: ∀k,0<k->k<n->dD k=j->0<j->kQ (cr L k) (cr L (dD j))=false
def Ct.done(H:Ct L n j)(h:j=0\/kA L j):fi L n:=by
 intro k h0 h1;by_cases e:k=j
 ·subst e;rcases h with h|h
  ·omega
  ·exact h
 ·exact H.a k h0 h1 e
def Ct.step{L:List It}(H:Ct L n j)(c:0<j)(h:j<n)(hn:n<=L.length)(hb:kQ (cr L j) (cr L (dD j))=true):Ct (gG L (dD j) j) n (dD j):=by
 have hp:dD j<j:=by unfold dD;omega
 have sw:=iG (L:=L) (i:=dD j) (j:=j) ah ah;constructor
 ·intro k h0 h1 hk;unfold kA;rw[sw k,sw (dD k)];have g:dD k<k:=by unfold dD;omega
  by_cases e:k=j
  ·subst e;rw[MK rfl,MG ah,MK rfl];exact oy hb
  ·rw[MG e,MG hk];by_cases e2:dD k=j
   ·rw[MK e2];exact H.b k h0 h1 e2 c
   ·rw[MG e2];by_cases e3:dD k=dD j
    ·rw[MK e3];have:=H.a k h0 h1 e;unfold kA at this;rw[e3]at this;exact BB this hb
    ·rw[MG e3];exact H.a k h0 h1 e
 ·intro k h0 h1 hk hi;have f:dD (dD j)<dD j:=by unfold dD at*;omega
  rw[sw k,sw (dD (dD j)),MG (show ¬dD (dD j)=j by omega),MG (show ¬dD (dD j)=dD j by omega)];have hq:kQ (cr L (dD j)) (cr L (dD (dD j)))=false:=H.a (dD j) hi ah ah;by_cases e:k=j
  ·rw[MK e];exact hq
  ·have d:k≠dD j:=by
    intro e2;rw[e2]at hk;omega
   rw[MG e,MG d];have:=H.a k h0 h1 e;unfold kA at this;rw[hk]at this;exact oB this hq
def nB.done(H:nB L n i0 i)(h: ∀k,0<k->k<n->dD k=i->kA L k):(i≠i0->fi L n)/\(i=i0->Ct L n i0):=by
 constructor
 ·intro hi k h0 h1;by_cases e:dD k=i
  ·exact h k h0 h1 e
  ·exact H.a k h0 h1 e (Or.inr hi)
 ·intro hi;subst hi;refine⟨λk h0 h1 hk=> ?_,H.b⟩;by_cases e:dD k=i
  ·exact h k h0 h1 e
  ·exact H.a k h0 h1 e (Or.inl hk)
def nB.step{L:List It}(H:nB L n i0 i)(d:j<n)(hn:n<=L.length)(hj:0<j)(hp:dD j=i)(hb:kQ (cr L j) (cr L i)=true)(hc: ∀k,0<k->k<n->dD k=i->kQ (cr L k) (cr L j)=false):nB (gG L i j) n i0 j:=by
 have f:i<j:=by rw[<-hp];unfold dD;omega
 have sw:=iG (L:=L) (i:=i) (j:=j) ah ah;have le:=H.le;refine⟨λk h0 h1 hk _=> ?_,λk h0 h1 hk _=> ?_,ah⟩
 ·unfold kA;rw[sw k,sw (dD k)];have c:dD k<k:=by unfold dD;omega
  rw[MG hk];by_cases e:k=j
  ·subst e;rw[MK rfl,MK hp];exact oy hb
  ·rw[MG e];by_cases e2:k=i
   ·subst e2;rw[MK rfl,MG ah];exact H.b j hj d hp h0
   ·rw[MG e2];by_cases e3:dD k=i
    ·rw[MK e3];exact hc k h0 h1 e3
    ·rw[MG e3];exact H.a k h0 h1 e3 (Or.inl e2)
 ·have c:dD k<k:=by unfold dD;omega
  rw[sw k,sw (dD j),MG ah,MG ah,hp,MG ah,MK rfl];have:=H.a k h0 h1 ah (Or.inl ah);unfold kA at this;rw[hk]at this;exact this
def zR{L:List It}(H:fi L L.length):Ct (L++[x]) (L.length+1) L.length:=by
 have e: ∀k,k<L.length->cr (L++[x]) k=cr L k:=λk hk=>by simp[cr,List.getD,MW hk]
 refine⟨λk h0 h1 hk=> ?_,λk h0 h1 hk _=> ?_⟩
 ·have a:dD k<k:=by unfold dD;omega
  unfold kA;rw[e k ah,e (dD k) ah];exact H k h0 ah
 ·have a:dD k<k:=by unfold dD;omega
  omega
section
variable {i j k l m n o p q r s t:Int}{a b c d:Addr}{u v:Nat}{x y:az}{h:aI}{K:KK}
def F357.spec{a:Addr}(H:cx (rd h (a.add 0)) λ_ a _=>K (ap (a:Int)) h):Cl 357 [au a] h K:=cN Tryz.func357 H
def F397.T:bi:=⟨[],[(1,[[(0,[]),(1,[]),(2,[]),(3,[]),(4,[]),(5,[]),(6,[]),(7,[]),(8,[]),(9,[]),(10,[]),(11,[]),(12,[]),(13,[]),(14,[0,1,2,3,4,5,6,7,8,9,10,11,12,13]),(15,[0,1,2,3,4,5,6,7,8,9,10,11,12,13]),(16,[7,8,9,10,11,12,13]),(17,[])],[(0,[]),(1,[]),(2,[]),(3,[]),(4,[]),(5,[]),(6,[]),(7,[]),(8,[]),(9,[]),(10,[]),(11,[]),(12,[]),(13,[]),(15,[0,1,2,3,4,5,6,7,8,9,10,11,12,13]),(14,[0,1,2,3,4,5,6,7,8,9,10,11,12,13]),(16,[7,8,9,10,11,12,13]),(17,[])]])]⟩
def F397.spec{i j:Int}{a:Addr}(H:(cx (rd h (a.add 0)) (λb c d=>aY b λe=>0<=i/\i<(c:Int)/\aQ .i64 (rd h ((e.add (i.toNat*2)).add 0)) λf=>aQ .i64 (rd h ((e.add (i.toNat*2)).add 1)) λg=>cx (rd h (a.add 0)) λk l m=>aY k λn=>0<=j/\j<(l:Int)/\aQ .i64 (rd h ((n.add (j.toNat*2)).add 0)) λo=>aQ .i64 (rd h ((n.add (j.toNat*2)).add 1)) λp=>bf h (.cells #[ap 0,ap 0] 357) λq r=>aF (au a)/\aF (au a)/\aF (au (a.add 0))/\cx (rd r (a.add 0)) λs t u=>aG (.slice s t u) (.slice b c d)/\aF (ap i)/\aY b λs=>0<=i/\i<(c:Int)/\aG (au (s.add (i.toNat*2))) (au (e.add (i.toNat*2)))/\aQ .i64 (rd r ((e.add (i.toNat*2)).add 0)) λs=>aQ .i64 (rd r ((e.add (i.toNat*2)).add 1)) λt=>aG (.agg #[ap s,ap t]) (.agg #[ap f,ap g])/\aF (au a)/\aF (au a)/\aF (au (a.add 0))/\cx (rd r (a.add 0)) λs t u=>aG (.slice s t u) (.slice k l m)/\aF (ap j)/\aY k λs=>0<=j/\j<(l:Int)/\aG (au (s.add (j.toNat*2))) (au (n.add (j.toNat*2)))/\aQ .i64 (rd r ((n.add (j.toNat*2)).add 0)) λs=>aQ .i64 (rd r ((n.add (j.toNat*2)).add 1)) λt=>aG (.agg #[ap s,ap t]) (.agg #[ap o,ap p])/\bf r (.cells #[ap 0,ap 0] 357) λr s=>aF (au a)/\aF (au a)/\aF (au (a.add 0))/\cx (rd s (a.add 0)) λt u v=>aG (.slice t u v) (.slice b c d)/\aF (ap i)/\aY b λb=>0<=i/\i<(c:Int)/\aG (au (b.add (i.toNat*2))) (au (e.add (i.toNat*2)))/\aQ .i64 (rd s ((e.add (i.toNat*2)).add 0)) λb=>aQ .i64 (rd s ((e.add (i.toNat*2)).add 1)) λc=>aG (.agg #[ap b,ap c]) (.agg #[ap f,ap g])/\aF (au a)/\aF (au a)/\aF (au (a.add 0))/\cx (rd s (a.add 0)) λb c d=>aG (.slice b c d) (.slice k l m)/\aF (ap j)/\aY k λb=>0<=j/\j<(l:Int)/\aG (au (b.add (j.toNat*2))) (au (n.add (j.toNat*2)))/\aQ .i64 (rd s ((n.add (j.toNat*2)).add 0)) λb=>aQ .i64 (rd s ((n.add (j.toNat*2)).add 1)) λc=>aG (.agg #[ap b,ap c]) (.agg #[ap o,ap p])/\aW s ((aw q).add 0) (ap f) λb=>aW b ((aw q).add 1) (ap g) λb=>aF (au a)/\aF (au a)/\aF (au (a.add 0))/\cx (rd b (a.add 0)) λa c d=>aG (.slice a c d) (.slice k l m)/\aF (ap j)/\aY k λa=>0<=j/\j<(l:Int)/\aG (au (a.add (j.toNat*2))) (au (n.add (j.toNat*2)))/\aQ .i64 (rd b ((n.add (j.toNat*2)).add 0)) λa=>aQ .i64 (rd b ((n.add (j.toNat*2)).add 1)) λc=>aG (.agg #[ap a,ap c]) (.agg #[ap o,ap p])/\aW b ((aw r).add 0) (ap o) λa=>aW a ((aw r).add 1) (ap p) λa=>aQ .i64 (rd a ((aw q).add 1)) λb=>aQ .i64 (rd a ((aw r).add 1)) λc=>aK (b>c) (K aC a) (aQ .i64 (rd a ((aw q).add 1)) λb=>aQ .i64 (rd a ((aw r).add 1)) λc=>aK (b==c) (aQ .i64 (rd a ((aw q).add 0)) λb=>aQ .i64 (rd a ((aw r).add 0)) λc=>K (aD (b<c)) a) (K aB a)))/\cx (rd h (a.add 0)) λb c d=>aY b λe=>0<=i/\i<(c:Int)/\aQ .i64 (rd h ((e.add (i.toNat*2)).add 0)) λf=>aQ .i64 (rd h ((e.add (i.toNat*2)).add 1)) λg=>cx (rd h (a.add 0)) λk l m=>aY k λn=>0<=j/\j<(l:Int)/\aQ .i64 (rd h ((n.add (j.toNat*2)).add 0)) λo=>aQ .i64 (rd h ((n.add (j.toNat*2)).add 1)) λp=>bf h (.cells #[ap 0,ap 0] 357) λq r=>aF (au a)/\aF (au a)/\aF (au (a.add 0))/\cx (rd r (a.add 0)) λs t u=>aG (.slice s t u) (.slice b c d)/\aF (ap i)/\aY b λs=>0<=i/\i<(c:Int)/\aG (au (s.add (i.toNat*2))) (au (e.add (i.toNat*2)))/\aQ .i64 (rd r ((e.add (i.toNat*2)).add 0)) λs=>aQ .i64 (rd r ((e.add (i.toNat*2)).add 1)) λt=>aG (.agg #[ap s,ap t]) (.agg #[ap f,ap g])/\aF (au a)/\aF (au a)/\aF (au (a.add 0))/\cx (rd r (a.add 0)) λs t u=>aG (.slice s t u) (.slice k l m)/\aF (ap j)/\aY k λs=>0<=j/\j<(l:Int)/\aG (au (s.add (j.toNat*2))) (au (n.add (j.toNat*2)))/\aQ .i64 (rd r ((n.add (j.toNat*2)).add 0)) λs=>aQ .i64 (rd r ((n.add (j.toNat*2)).add 1)) λt=>aG (.agg #[ap s,ap t]) (.agg #[ap o,ap p])/\bf r (.cells #[ap 0,ap 0] 357) λr s=>aF (au a)/\aF (au a)/\aF (au (a.add 0))/\cx (rd s (a.add 0)) λt u v=>aG (.slice t u v) (.slice b c d)/\aF (ap i)/\aY b λb=>0<=i/\i<(c:Int)/\aG (au (b.add (i.toNat*2))) (au (e.add (i.toNat*2)))/\aQ .i64 (rd s ((e.add (i.toNat*2)).add 0)) λb=>aQ .i64 (rd s ((e.add (i.toNat*2)).add 1)) λc=>aG (.agg #[ap b,ap c]) (.agg #[ap f,ap g])/\aF (au a)/\aF (au a)/\aF (au (a.add 0))/\cx (rd s (a.add 0)) λb c d=>aG (.slice b c d) (.slice k l m)/\aF (ap j)/\aY k λb=>0<=j/\j<(l:Int)/\aG (au (b.add (j.toNat*2))) (au (n.add (j.toNat*2)))/\aQ .i64 (rd s ((n.add (j.toNat*2)).add 0)) λb=>aQ .i64 (rd s ((n.add (j.toNat*2)).add 1)) λc=>aG (.agg #[ap b,ap c]) (.agg #[ap o,ap p])/\aW s ((aw r).add 0) (ap f) λb=>aW b ((aw r).add 1) (ap g) λb=>aF (au a)/\aF (au a)/\aF (au (a.add 0))/\cx (rd b (a.add 0)) λa c d=>aG (.slice a c d) (.slice k l m)/\aF (ap j)/\aY k λa=>0<=j/\j<(l:Int)/\aG (au (a.add (j.toNat*2))) (au (n.add (j.toNat*2)))/\aQ .i64 (rd b ((n.add (j.toNat*2)).add 0)) λa=>aQ .i64 (rd b ((n.add (j.toNat*2)).add 1)) λc=>aG (.agg #[ap a,ap c]) (.agg #[ap o,ap p])/\aW b ((aw q).add 0) (ap o) λa=>aW a ((aw q).add 1) (ap p) λa=>aQ .i64 (rd a ((aw r).add 1)) λb=>aQ .i64 (rd a ((aw q).add 1)) λc=>aK (b>c) (K aC a) (aQ .i64 (rd a ((aw r).add 1)) λb=>aQ .i64 (rd a ((aw q).add 1)) λc=>aK (b==c) (aQ .i64 (rd a ((aw r).add 0)) λb=>aQ .i64 (rd a ((aw q).add 0)) λc=>K (aD (b<c)) a) (K aB a)))):Cl 397 [au a,ap i,ap j] h K:=cT F397.T Tryz.func397 H
def F398.T:bi:=⟨[],[(4,[[(0,[]),(1,[]),(2,[]),(3,[]),(4,[]),(5,[]),(6,[])]])]⟩
def F398.spec{a:Addr}(H:cx (rd h (a.add 0)) λ_ b _=>cx (rd h (a.add 0)) λc d _=>aY c λc=>0<=(ax ((b:Int)-(1:Int)))/\(ax ((b:Int)-(1:Int)))<(d:Int)/\aQ .i64 (rd h ((c.add ((ax ((b:Int)-(1:Int))).toNat*2)).add 0)) λd=>aQ .i64 (rd h ((c.add ((ax ((b:Int)-(1:Int))).toNat*2)).add 1)) λc=>bf h (.cells #[ap 0,ap 0] 357) λe f=>aW f ((aw e).add 0) (ap d) λd=>aW d ((aw e).add 1) (ap c) λc=>cx (rd c (a.add 0)) λd _ f=>0<=(ax ((b:Int)-(1:Int)))/\(ax ((b:Int)-(1:Int)))<=(f:Int)/\aW c ((a.add 0).add 0) (.slice (if f=0 then d else Option.map (λa=>Addr.add a (0*2)) d) ((ax ((b:Int)-(1:Int))).toNat-0) (f-0)) λb=>bR (rd b (a.add 1)) λa=>aQ .i64 (rd b ((aw e).add 0)) λc=>yQ b a .i64 .i64 c λa=>aQ .i64 (rd a ((aw e).add 0)) λb=>aQ .i64 (rd a ((aw e).add 1)) λc=>K (.iface 357 (.agg #[ap b,ap c])) a):Cl 398 [au a] h K:=cT F398.T Tryz.func398 H
def F399.T:bi:=⟨[],[(1,[[(0,[]),(1,[]),(2,[]),(3,[]),(4,[]),(5,[]),(6,[]),(7,[]),(8,[]),(9,[]),(10,[]),(11,[])]]),(2,[[(0,[]),(1,[]),(2,[]),(3,[]),(4,[]),(5,[]),(6,[0,1,2,3,4]),(7,[0]),(8,[]),(9,[]),(10,[])]])]⟩
def F399.spec{a:Addr}(H:bf h (.cells #[ap 0,ap 0] 357) λb c=>aW c ((aw b).add 0) (ap i) λc=>aW c ((aw b).add 1) (ap j) λc=>bR (rd c (a.add 1)) λd=>aQ .i64 (rd c ((aw b).add 0)) λe=>cx (rd c (a.add 0)) λ_ f _=>lg c d .i64 .i64 e (ap (f:Int)) λc=>cx (rd c (a.add 0)) λd e f=>aQ .i64 (rd c ((aw b).add 0)) λg=>aQ .i64 (rd c ((aw b).add 1)) λb=>bf c (.cells #[ap g,ap b] 357) λb c=>aF (au a)/\aF (au a)/\aF (au a)/\aF (au (a.add 0))/\cx (rd c (a.add 0)) λg i j=>aG (.slice g i j) (.slice d e f)/\fC c 357 2 16 #[ap 0,ap 0] d e f (some (aw b)) 1 λb c d e=>aF (au a)/\aW e ((a.add 0).add 0) (.slice b c d) λa=>K aE a):Cl 399 [au a,.iface 357 (.agg #[ap i,ap j])] h K:=cT F399.T Tryz.func399 H
def F400.T:bi:=⟨[],[(0,[[(0,[]),(1,[]),(2,[]),(3,[]),(4,[]),(5,[]),(6,[]),(7,[]),(8,[]),(9,[]),(10,[]),(11,[]),(12,[]),(13,[]),(14,[]),(15,[]),(16,[]),(17,[]),(18,[]),(19,[]),(20,[]),(21,[]),(22,[]),(23,[]),(24,[]),(25,[9]),(26,[]),(27,[])]]),(1,[[(0,[]),(1,[]),(2,[]),(3,[]),(4,[]),(5,[]),(6,[]),(7,[]),(8,[]),(9,[]),(10,[]),(11,[]),(12,[]),(13,[]),(14,[]),(15,[]),(16,[]),(17,[]),(18,[]),(19,[]),(20,[]),(21,[]),(22,[]),(23,[]),(24,[]),(25,[]),(26,[24,25]),(27,[]),(28,[25]),(29,[25]),(30,[]),(31,[])]])]⟩
def F400.spec{i j:Int}{a:Addr}(H:cx (rd h (a.add 0)) λb c _=>cx (rd h (a.add 0)) λd e _=>cx (rd h (a.add 0)) λf g _=>aY f λf=>0<=j/\j<(g:Int)/\aQ .i64 (rd h ((f.add (j.toNat*2)).add 0)) λg=>aQ .i64 (rd h ((f.add (j.toNat*2)).add 1)) λf=>cx (rd h (a.add 0)) λk l _=>aY k λk=>0<=i/\i<(l:Int)/\aQ .i64 (rd h ((k.add (i.toNat*2)).add 0)) λl=>aQ .i64 (rd h ((k.add (i.toNat*2)).add 1)) λk=>aY b λb=>0<=i/\i<(c:Int)/\aW h ((b.add (i.toNat*2)).add 0) (ap g) λc=>aW c ((b.add (i.toNat*2)).add 1) (ap f) λb=>aF (ap j)/\aY d λc=>0<=j/\j<(e:Int)/\aW b ((c.add (j.toNat*2)).add 0) (ap l) λb=>aW b ((c.add (j.toNat*2)).add 1) (ap k) λb=>bR (rd b (a.add 1)) λc=>cx (rd b (a.add 0)) λd e _=>aY d λd=>0<=i/\i<(e:Int)/\aQ .i64 (rd b ((d.add (i.toNat*2)).add 0)) λd=>bR (rd b (a.add 1)) λe=>cx (rd b (a.add 0)) λa f _=>aY a λa=>0<=j/\j<(f:Int)/\aQ .i64 (rd b ((a.add (j.toNat*2)).add 0)) λa=>AH b c .i64 .i64 d (ap 0) λb d f=>aQ .i64 (some b) λ_=>aF (ap i)/\aF (ap j)/\Cz f c d (ap i) λb=>aF (ap j)/\AH b e .i64 .i64 a (ap 0) λa b c=>aQ .i64 (some a) λ_=>aF (ap j)/\Cz c e b (ap j) λa=>K aE a):Cl 400 [au a,ap i,ap j] h K:=cT F400.T Tryz.func400 H
def F339.T:bi:=⟨[(0,[0,1])],[]⟩
section
variable (n:Nat)(b:Addr)(a:Int)(h:aI)(K:KK)
def F339.wL0:Prop:=Lp Tryz.f339 F339.T [0] n [(0,(.iface 370 (au b))),(1,(ap a))] h K
def F339.sL0:F339.wL0 (n+1) b a h K=(((2:Int)≠0/\aK ((ax (Int.tdiv (ax (a-1)) 2))==a) (K aE h) (Cl 397 [au b,ap a,ap (ax (Int.tdiv (ax (a-1)) 2))] h λc d=>bP (some c) λc=>aK (!c) (K aE d) (Cl 400 [au b,ap (ax (Int.tdiv (ax (a-1)) 2)),ap a] d λc d=>c=aE/\F339.wL0 n b (ax (Int.tdiv (ax (a-1)) 2)) d K)))):=by kernel_rfl
def F339.spec(H:(∃c,F339.wL0 c b a h K)):Cl 339 [.iface 370 (au b),ap a] h K:=cT F339.T Tryz.func339 H
end
def F358.T:bi:=⟨[(2,[0,1,2,7]),(8,[0,1,2,7,9]),(11,[1,7])],[]⟩
section
variable (bk2:Addr->Int->Int->Int->aI->Prop)(n:Nat)(c:Addr)(b d a f:Int)(h:aI)(K:KK)
def F358.wL2:Prop:=Lp Tryz.f358 F358.T [1,1,0,0] n [(0,(.iface 370 (au c))),(1,(ap b)),(2,(ap d)),(7,(ap a))] h K
def F358.wk11:Prop:=K (aD (a>b)) h
def F358.wk8:Prop:=Cl 397 [au c,ap f,ap a] h λe g=>bP (some e) λe=>aK (!e) (F358.wk11 b a g K) (Cl 400 [au c,ap a,ap f] g λa e=>a=aE/\bk2 c b d f e)
def F358.sL2:F358.wL2 (n+1) c b d a h K=(aK ((ax ((ax (2*a))+1))>=d) (F358.wk11 b a h K) (aK ((ax ((ax (2*a))+1))<0) (F358.wk11 b a h K) (aK ((ax ((ax ((ax (2*a))+1))+1))<d) (Cl 397 [au c,ap (ax ((ax ((ax (2*a))+1))+1)),ap (ax ((ax (2*a))+1))] h λe f=>bP (some e) λe=>aK e (F358.wk8 (λa b c d e=>F358.wL2 n a b c d e K) c b d a (ax ((ax ((ax (2*a))+1))+1)) f K) (F358.wk8 (λa b c d e=>F358.wL2 n a b c d e K) c b d a (ax ((ax (2*a))+1)) f K)) (F358.wk8 (λa b c d e=>F358.wL2 n a b c d e K) c b d a (ax ((ax (2*a))+1)) h K)))):=by kernel_rfl
def F358.wk2:Prop:=(∃e,F358.wL2 e c b d a h K)
def F358.spec(H:F358.wk2 c b d b h K):Cl 358 [.iface 370 (au c),ap b,ap d] h K:=cT F358.T Tryz.func358 H
end
def F341.spec(H:Cl 357 [au a] h λb c=>aQ .i64 (some b) λb=>Cl 400 [au a,ap 0,ap (ax (b-1))] c λc d=>c=aE/\Cl 358 [.iface 370 (au a),ap 0,ap (ax (b-1))] d λb c=>bP (some b) λ_=>Cl 398 [au a] c λa b=>lV (some a) λa=>K a b):Cl 341 [.iface 370 (au a)] h K:=cN Tryz.func341 H
def F309.spec(H:Cl 399 [au a,.iface 357 (.agg #[ap i,ap j])] h λb c=>b=aE/\Cl 357 [au a] c λb c=>aQ .i64 (some b) λb=>Cl 339 [.iface 370 (au a),ap (ax (b-1))] c λa b=>a=aE/\K aE b):Cl 309 [.iface 370 (au a),.iface 357 (.agg #[ap i,ap j])] h K:=cN Tryz.func309 H
def F288.spec(H:bf h (.map #[] 0) λa b=>bf b (.cells #[.slice none 0 0,.map (some a)] 374) λa b=>bf b (.cells #[au (aw a)] 376) λa b=>K (au (aw a)) b):Cl 288 [] h K:=cN Tryz.func288 H
def F289.spec{a:Addr}(H:a8 (rd h (a.add 0)) λb=>aY b λb=>bR (rd h (b.add 1)) λb=>dQ h b .i64 .i64 i λb=>aQ .i64 (some (kS (ap 0) b)) λ_=>aK (Option.isSome b) (K aB h) (a8 (rd h (a.add 0)) λa=>Cl 309 [.iface 370 (aA a),.iface 357 (.agg #[ap i,ap j])] h λa b=>a=aE/\K aC b)):Cl 289 [au a,ap i,ap j] h K:=cN Tryz.func289 H
def F340.spec{a:Addr}(H:a8 (rd h (a.add 0)) λa=>Cl 357 [aA a] h λa b=>aQ .i64 (some a) λa=>K (ap a) b):Cl 340 [au a] h K:=cN Tryz.func340 H
def F311.spec{a:Addr}(H:bf h (.cells #[ap 0,ap 0] 357) λb c=>a8 (rd c (a.add 0)) λa=>Cl 341 [.iface 370 (aA a)] c λa c=>lV (some a) λa=>lR Tryz.prog 357 false a λa=>dp Tryz.prog 357 (some (aw b)) a c λa=>aQ .i64 (rd a ((aw b).add 0)) λc=>aQ .i64 (rd a ((aw b).add 1)) λb=>K (.agg #[ap c,ap b]) a):Cl 311 [au a] h K:=cN Tryz.func311 H
end
def eZ:List It->List Value
 | []=> []
 |x::L=>ap x.1::ap x.2::eZ L
def dS: ∀(L:List It),(eZ L).length=L.length*2
 | []=>rfl
 |x::L=>by simp[eZ,dS L];omega
def io: ∀{L:List It} {i:Nat},i<L.length->(eZ L)[i*2]? =some (ap (cr L i).1)
 |x::L,0,_=>rfl
 |x::L,i+1,h=>by
  rw[show(i+1)*2=i*2+1+1 by omega];simp only[eZ,N8];rw[io (by simpa using h)]
  rfl
def iw: ∀{L:List It} {i:Nat},i<L.length->(eZ L)[i*2+1]? =some (ap (cr L i).2)
 |x::L,0,_=>rfl
 |x::L,i+1,h=>by
  rw[show(i+1)*2+1=i*2+1+1+1 by omega];simp only[eZ,N8];rw[iw (by simpa using h)]
  rfl
def pQ: ∀(L M:List It),eZ (L++M)=eZ L++eZ M
 | [],M=>rfl
 |x::L,M=>by simp[eZ,pQ L M]
def qV: ∀(L:List It) (i:Nat) (v:Int),(eZ L).set (i*2) (ap v)=eZ (L.set i (v,(cr L i).2))
 | [],_,_=>by simp[eZ]
 |x::L,0,v=>rfl
 |x::L,i+1,v=>by
  rw[show(i+1)*2=i*2+1+1 by omega];simp only[eZ,NM];rw[qV L i v]
  rfl
def qK: ∀(L:List It) (i:Nat) (v:Int),(eZ L).set (i*2+1) (ap v)=eZ (L.set i ((cr L i).1,v))
 | [],_,_=>by simp[eZ]
 |x::L,0,v=>rfl
 |x::L,i+1,v=>by
  rw[show(i+1)*2+1=i*2+1+1+1 by omega];simp only[eZ,NM];rw[qK L i v]
  rfl
def mz(hx:x=some (.map n))(hK:K n):bR x K:=⟨n,hx,hK⟩
def ov(h:aI)(b:Nat)(f:Int->Option Nat):Prop:= ∃m,bS h b .i64 m/\ ∀x,m.lookup x=(f x).map λi=>ap (i:Int)
def ov.only(H:ov h b f)(O:aM S h h')(hb:b∉S):ov h' b f:=by obtain⟨m,h1,h2⟩:=H;exact⟨m,h1.only O hb,h2⟩
def nF(L:List It)(f:Int->Option Nat):Prop:= ∀id i,f id=some i↔i<L.length/\(cr L i).1=id
structure dK(h:aI)(lo pi mb:Nat)(p:az)(c:Nat)(L:List It):Prop where
 at_:At h pi [.slice p L.length c,.map (some mb)]
 own:cw h lo 2 p L.length c (eZ L)
 map: ∃f,ov h mb f/\nF L f
 sep:lo<=pi/\lo<=mb/\pi∉aV p/\mb∉aV p/\pi≠mb
def dK.only(H:dK h lo pi mb p c L)(O:aM S h h')(h1:pi∉S)(h2:mb∉S)(h3: ∀b∈aV p,b∉S):dK h' lo pi mb p c L:=by obtain⟨a,b,⟨f,d,e⟩,g⟩:=H;exact⟨a.only O h1,b.only O λx hx=>h3 x (by rw[hx];simp[aV]),⟨f,d.only O h2,e⟩,g⟩
def dK.lt{h:aI}(H:dK h lo pi mb p c L):pi<h.size/\mb<h.size/\ ∀b∈aV p,lo<=b/\b<h.size:=by obtain⟨a,b,⟨f,⟨m,d,-⟩,e⟩,g⟩:=H;exact⟨a.lt,d.lt,b.lt⟩
def AY{L:List It}(P:dK h lo pi mb p c L)(hK:K (ap (L.length:Int)) h):Cl 357 [au (aw pi)] h K:=by apply F357.spec;rw[aL];exact bB (by rw[P.at_.rd];rfl) hK
def vR{L:List It}(P:dK h lo pi mb p c L)(hi:i<L.length)(hj:j<L.length)(hK: ∀h',dK h' lo pi mb p c L->aM [] h h'->K (aD (kQ (cr L i) (cr L j))) h'):
  Cl 397 [au (aw pi),ap (i:Int),ap (j:Int)] h K:=by
 apply F397.spec;obtain⟨b,ep,-⟩:=P.own.rd (j:=i*2) (by rw[dS];omega);subst ep
 have R: ∀h',dK h' lo pi mb (some (aw b)) c L->rd h' (aw pi)=some (.slice (some (aw b)) L.length c)/\rd h' ⟨b,i*2,none⟩=some (ap (cr L i).1)/\rd h' ⟨b,i*2+1,none⟩=some (ap (cr L i).2)/\rd h' ⟨b,j*2,none⟩=some (ap (cr L j).1)/\rd h' ⟨b,j*2+1,none⟩=some (ap (cr L j).2):=by
  intro h' P'
  have e: ∀k,k<L.length*2->rd h' ⟨b,k,none⟩=(eZ L)[k]? :=by intro k hk;obtain⟨b',e1,e2⟩:=P'.own.rd (j:=k) (by rw[dS];omega);injection e1 with e1;injection e1 with e1;subst e1;exact e2
  refine⟨by rw[P'.at_.rd];rfl,?_,?_,?_,?_⟩
  ·rw[e _ ah,io hi]
  ·rw[e _ ah,iw hi]
  ·rw[e _ ah,io hj]
  ·rw[e _ ah,iw hj]
 have i0:(0:Int)<=(i:Int):=ah;have i1:(i:Int)<(L.length:Int):=ah;have j0:(0:Int)<=(j:Int):=ah;have j1:(j:Int)<(L.length:Int):=ah;have new: ∀{h h1:aI} (P:dK h lo pi mb (some (aw b)) c L) (O:aM [] h h1),dK h1 lo pi mb (some (aw b)) c L:=λP O=>P.only O ak ak ak;have st: ∀{h h1:aI} {x:Nat} (P:dK h lo pi mb (some (aw b)) c L) (O:aM [x] h h1),pi≠x->mb≠x->b≠x->dK h1 lo pi mb (some (aw b)) c L:=λP O h1 h2 h3=>P.only O (by simpa using h1) (by simpa using h2) (by simpa[aV]using h3);have lt:=P.lt;have a:=(lt.2.2 b (by simp[aV])).2;simp only[aL,MF,ML,MO];obtain⟨r0,r1,r2,r3,r4⟩:=R h P;simp only[r0,r1,r2,r3,r4,bK,aT,bh,i0,i1,j0,j1,OV,aL,MF,ML];constructor
 ·refine aX λh1 A1 O1 z1=> ?_;have P1:=new P O1;obtain⟨r0,r1,r2,r3,r4⟩:=R h1 P1;simp only[r0,r1,r2,r3,r4,bK,bh,OV];refine aX λh2 A2 O2 z2=> ?_;have P2:=new P1 O2;obtain⟨r0,r1,r2,r3,r4⟩:=R h2 P2;simp only[r0,r1,r2,r3,r4,bK,bh,OV];refine aU (A1.only O2 ak) ak rfl λh3 A3 O3 z3=>aU A3 ak rfl λh4 A4 O4 z4=> ?_;have O34:=O3.trans O4 ak;have P4:=st P2 O34 ah ah ah;obtain⟨r0,-,-,r3,r4⟩:=R h4 P4;simp only[r0,r3,r4,bK,bh,OV];refine aU (A2.only O34 (by simp;omega)) ak rfl λh5 A5 O5 z5=>aU A5 ak rfl λh6 A6 O6 z6=> ?_;have O56:=O5.trans O6 ak;have P6:=st P4 O56 ah ah ah;have A4':=A4.only O56 (by simp;omega);have fin:=hK h6 P6 ((((O1.trans O2 ak).nil O34 ak).nil O56 (by simp;omega)));refine aH (n:=(cr L i).2) (by rw[A4'.rd];rfl) (aH (n:=(cr L j).2) (by rw[A6.rd];rfl) (aS (λe=> ?_) λe=>aH (n:=(cr L i).2) (by rw[A4'.rd];rfl) (aH (n:=(cr L j).2) (by rw[A6.rd];rfl) (aS (λe2=>aH (n:=(cr L i).1) (by rw[A4'.rd];rfl) (aH (n:=(cr L j).1) (by rw[A6.rd];rfl) ?_)) λe2=> ?_))))
  ·unfold kQ at fin;rw[e,Bool.true_or]at fin;exact fin
  ·unfold kQ at fin;rw[e,OK,e2,PT]at fin;exact fin
  ·unfold kQ at fin;rw[e,OK,e2,Qo]at fin;exact fin
 ·refine aX λh1 A1 O1 z1=> ?_;have P1:=new P O1;obtain⟨r0,r1,r2,r3,r4⟩:=R h1 P1;simp only[r0,r1,r2,r3,r4,bK,bh,OV];refine aX λh2 A2 O2 z2=> ?_;have P2:=new P1 O2;obtain⟨r0,r1,r2,r3,r4⟩:=R h2 P2;simp only[r0,r1,r2,r3,r4,bK,bh,OV];refine aU A2 ak rfl λh3 A3 O3 z3=>aU A3 ak rfl λh4 A4 O4 z4=> ?_;have O34:=O3.trans O4 ak;have P4:=st P2 O34 ah ah ah;obtain⟨r0,-,-,r3,r4⟩:=R h4 P4;simp only[r0,r3,r4,bK,bh,OV];refine aU ((A1.only O2 ak).only O34 (by simp;omega)) ak rfl λh5 A5 O5 z5=>aU A5 ak rfl λh6 A6 O6 z6=> ?_;have O56:=O5.trans O6 ak;have P6:=st P4 O56 ah ah ah;have A4':=A4.only O56 (by simp;omega);have fin:=hK h6 P6 ((((O1.trans O2 ak).nil O34 (by simp;omega)).nil O56 ak));refine aH (n:=(cr L i).2) (by rw[A4'.rd];rfl) (aH (n:=(cr L j).2) (by rw[A6.rd];rfl) (aS (λe=> ?_) λe=>aH (n:=(cr L i).2) (by rw[A4'.rd];rfl) (aH (n:=(cr L j).2) (by rw[A6.rd];rfl) (aS (λe2=>aH (n:=(cr L i).1) (by rw[A4'.rd];rfl) (aH (n:=(cr L j).1) (by rw[A6.rd];rfl) ?_)) λe2=> ?_))))
  ·unfold kQ at fin;rw[e,Bool.true_or]at fin;exact fin
  ·unfold kQ at fin;rw[e,OK,e2,PT]at fin;exact fin
  ·unfold kQ at fin;rw[e,OK,e2,Qo]at fin;exact fin
def nF.inj{L:List It}(H:nF L f)(ha:a<L.length)(hb:b<L.length)(e:(cr L a).1=(cr L b).1):a=b:=by have h1:=(H _ a).2 ⟨ha,rfl⟩;have h2:=(H _ b).2 ⟨hb,rfl⟩;rw[e,h2]at h1;injection h1 with h1;exact h1.symm
def nF.swap{L:List It}(H:nF L f)(hi:i<L.length)(hj:j<L.length):
  nF (gG L i j) (λy=>if y=(cr (gG L i j) j).1 then some j else if y=(cr (gG L i j) i).1 then some i else f y):=by
 intro id k;have sw:=iG (L:=L) hi hj;rw[eY,sw k,sw j,MK rfl,sw i];dsimp only;rw[MK (rfl:i=i)];by_cases h1:id=(cr L i).1
 ·rw[MK h1];by_cases hk:k=j
  ·subst hk;simp[hj,h1]
  ·rw[MG hk];constructor
   ·intro e;injection e with e;exact Nc e.symm hk
   ·rintro ⟨a,b⟩;exfalso;by_cases hki:k=i
    ·rw[MK hki]at b;have:=H.inj hj hi (b.trans h1);omega
    ·rw[MG hki]at b;exact hki (H.inj a hi (b.trans h1))
 ·rw[MG h1];by_cases hij:i=j
  ·subst hij;simp only[PC];rw[MG h1,H id k];by_cases hki:k=i
   ·subst hki;simp
   ·simp[hki]
  ·rw[MG hij];by_cases h2:id=(cr L j).1
   ·rw[MK h2];by_cases hki:k=i
    ·subst hki;simp[hij,hi,h2]
    ·constructor
     ·intro e;injection e with e;exact Nc e.symm hki
     ·rintro ⟨a,b⟩;exfalso;by_cases hkj:k=j
      ·rw[MK hkj]at b;exact h1 b.symm
      ·rw[MG hkj,MG hki]at b;exact hkj (H.inj a hj (b.trans h2))
   ·rw[MG h2,H id k];by_cases hkj:k=j
    ·subst hkj;rw[MK rfl];exact⟨λ⟨a,b⟩=>Nc b.symm h2,λ⟨a,b⟩=>Nc b.symm h1⟩
    ·rw[MG hkj];by_cases hki:k=i
     ·subst hki;rw[MK rfl];exact⟨λ⟨a,b⟩=>Nc b.symm h1,λ⟨a,b⟩=>Nc b.symm h2⟩
     ·rw[MG hki]
def nF.push{L:List It}(H:nF L f)(hx:f x.1=none):nF (L++[x]) (λy=>if y=x.1 then some L.length else f y):=by
 intro id k;dsimp only;have e1: ∀k,k<L.length->cr (L++[x]) k=cr L k:=λk hk=>by simp[cr,List.getD,MW hk]
 have e2:cr (L++[x]) L.length=x:=by simp[cr,List.getD]
 rw[MZ,Nu];by_cases h1:id=x.1
 ·rw[MK h1];constructor
  ·intro e;injection e with e;subst e;exact⟨ah,by rw[e2,h1]⟩
  ·rintro ⟨a,b⟩;by_cases hk:k<L.length
   ·rw[e1 k hk]at b;have:=(H id k).2 ⟨hk,b⟩;rw[h1,hx]at this;cases this
   ·rw[show k=L.length by omega]
 ·rw[MG h1,H id k];constructor
  ·rintro ⟨a,b⟩;exact⟨ah,by rw[e1 k a];exact b⟩
  ·rintro ⟨a,b⟩;by_cases hk:k<L.length
   ·rw[e1 k hk]at b;exact⟨hk,b⟩
   ·rw[show k=L.length by omega,e2]at b;exact Nc b.symm h1
def nF.pop(H:nF (L++[x]) f):nF L (λy=>if y=x.1 then none else f y):=by
 intro id k;dsimp only;have e1: ∀k,k<L.length->cr (L++[x]) k=cr L k:=λk hk=>by simp[cr,List.getD,MW hk]
 have e2:cr (L++[x]) L.length=x:=by simp[cr,List.getD]
 have hl:(L++[x]).length=L.length+1:=ak;by_cases h1:id=x.1
 ·rw[MK h1];constructor
  ·intro e;cases e
  ·rintro ⟨a,b⟩;exfalso;have:=H.inj (a:=k) (b:=L.length) ah ah (by rw[e1 k a,e2,b,h1]);omega
 ·rw[MG h1,H id k,hl];constructor
  ·rintro ⟨a,b⟩;by_cases hk:k<L.length
   ·rw[e1 k hk]at b;exact⟨hk,b⟩
   ·rw[show k=L.length by omega,e2]at b;exact Nc b.symm h1
  ·rintro ⟨a,b⟩;exact⟨ah,by rw[e1 k a];exact b⟩
def uv{h:aI}(H:ov h b f)(hK: ∀h',ov h' b (λy=>if y=x then some i else f y)->aM [b] h h'->h'.size=h.size->K h'):
  AH h (some b) .i64 .i64 x (ap (0:Int)) (λv st h1=>aQ .i64 (some v) (λ_=>Cz h1 (some b) st (ap (i:Int)) K)):=by
 obtain⟨m,h1,h2⟩:=H;refine ED h1 λv st h3 hv M3 S3 O3 z3=> ?_
 have a: ∃n:Int,v=ap n:=by
  rw[hv,h2 x];cases f x with
  |none=>exact⟨_,rfl⟩
  |some k=>exact⟨_,rfl⟩
 obtain⟨n,rfl⟩:=a;refine aH rfl (CN M3 S3 λh4 M4 O4 z4=>hK h4 ⟨_,M4,λy=> ?_⟩ (O3.trans O4 ak) (z4.trans z3));rw[cj,cj];dsimp only;by_cases hy:y=x
 ·rw[MK hy,MK hy]
  rfl
 ·rw[MG hy,MG hy,MG hy];exact h2 y
def zY{h:aI}(H:ov h b f)(hK: ∀h',ov h' b (λy=>if y=x then some i else f y)->aM [b] h h'->h'.size=h.size->K h'):
  lg h (some b) .i64 .i64 x (ap (i:Int)) K:=by
 obtain⟨m,h1,h2⟩:=H;refine fh h1 λh3 M3 O3 z3=>hK h3 ⟨_,M3,λy=> ?_⟩ O3 z3;rw[cj];dsimp only;by_cases hy:y=x
 ·rw[MK hy,MK hy]
  rfl
 ·rw[MG hy,MG hy];exact h2 y
def zZ{h:aI}(H:ov h b f)(hK: ∀h',ov h' b (λy=>if y=x then none else f y)->aM [b] h h'->h'.size=h.size->K h'):
  yQ h (some b) .i64 .i64 x K:=by
 obtain⟨m,h1,h2⟩:=H;refine rU h1 λh3 M3 O3 z3=>hK h3 ⟨_,M3,λy=> ?_⟩ O3 z3;rw[ny];dsimp only;by_cases hy:y=x
 ·rw[MK hy,MK hy]
  rfl
 ·rw[MG hy,MG hy];exact h2 y
def yG(H:ov h b f)(hN:f x=none->K none)(hS: ∀i k,f x=some k->K (some (i,ap (k:Int)))):dQ h (some b) .i64 .i64 x K:=by
 obtain⟨m,h1,h2⟩:=H;refine c8 h1 (λe=>hN ?_) λi v e=> ?_
 ·rw[h2 x]at e;cases hf:f x with
  |none=>rfl
  |some k=>rw[hf]at e;cases e
 ·rw[h2 x]at e;cases hf:f x with
  |none=>rw[hf]at e;cases e
  |some k=>
   rw[hf]at e;injection e with e;subst e;exact hS i k hf
def Fs{L:List It}(H:cw h lo 2 (some (aw b)) l c (eZ L))(hi:i<L.length)
  (hK: ∀h',cw h' lo 2 (some (aw b)) l c (eZ (L.set i x))->aM [b] h h'->K h'):aW h ⟨b,i*2,none⟩ (ap x.1) (λh1=>aW h1 ⟨b,i*2+1,none⟩ (ap x.2) K):=by
 refine H.set (by rw[dS];omega) rfl λh1 H1 O1=> ?_;rw[qV]at H1;refine H1.set (by rw[dS,NT];omega) rfl λh2 H2 O2=> ?_;rw[qK]at H2
 have e:(L.set i (x.1,(cr L i).2)).set i ((cr (L.set i (x.1,(cr L i).2)) i).1,x.2)=L.set i x:=by
  rw[List.set_set]
  congr 1
  simp[cr,hi]
 rw[e]at H2;exact hK h2 H2 (O1.trans O2 ak)
def cw.cut(H:cw h lo 2 p (l+1) c (eZ (L++[x]))):cw h lo 2 p l c (eZ L):=by
 obtain⟨e,H⟩:=H;rw[dS,MZ,Nu]at e;refine⟨by rw[dS];omega,?_⟩;rcases H with⟨-,h0,-⟩|⟨b,sp,h1,h2,h3,h4,h5⟩
 ·omega
 ·refine Or.inr ⟨b,[ap x.1,ap x.2]++sp,h1,h2,ah,?_,?_⟩
  ·rw[MZ,h4];obtain⟨r,rfl⟩: ∃r,c=l+1+r:=⟨c-l-1,ah⟩;rw[show l+1+r-(l+1)=r by omega,show l+1+r-l=r+1 by omega];simp;omega
  ·rw[pQ]at h5;simpa[eZ]using h5
def vv{L:List It}(P:dK h lo pi mb p c L)(hi:i<L.length)(hj:j<L.length)(hK: ∀h',dK h' lo pi mb p c (gG L i j)->aM (mb::aV p) h h'->K aE h'):
  Cl 400 [au (aw pi),ap (i:Int),ap (j:Int)] h K:=by
 apply F400.spec;obtain⟨b,ep,-⟩:=P.own.rd (j:=i*2) (by rw[dS];omega);subst ep;obtain⟨s1,s2,s3,s4,s5⟩:=P.sep;simp only[aV,MH]at s3 s4
 have a: ∀(h':aI) (M:List It) (k:Nat),cw h' lo 2 (some (aw b)) L.length c (eZ M)->k<M.length->rd h' ⟨b,k*2,none⟩=some (ap (cr M k).1)/\rd h' ⟨b,k*2+1,none⟩=some (ap (cr M k).2):=by
  intro h' M k P' hk
  have e: ∀k,k<M.length*2->rd h' ⟨b,k,none⟩=(eZ M)[k]? :=by intro k hk;obtain⟨b',e1,e2⟩:=P'.rd (j:=k) (by rw[dS];omega);injection e1 with e1;injection e1 with e1;subst e1;exact e2
  exact⟨by rw[e _ ah,io hk],by rw[e _ ah,iw hk]⟩
 have i0:(0:Int)<=(i:Int):=ah;have i1:(i:Int)<(L.length:Int):=ah;have j0:(0:Int)<=(j:Int):=ah;have j1:(j:Int)<(L.length:Int):=ah;have r0:rd h (aw pi)=some (.slice (some (aw b)) L.length c):=by rw[P.at_.rd];rfl
 obtain⟨r1,r2⟩:=a h L i P.own hi;obtain⟨r3,r4⟩:=a h L j P.own hj;simp only[aL,MF,ML,MO];simp only[r0,r1,r2,r3,r4,bK,aT,bh,i0,i1,j0,j1,OV,aL,MF,ML];refine Fs (x:=cr L j) P.own hi λh1 H1 O1=>Fs (x:=cr L i) H1 (by rw[NT];exact hj) λh2 H2 O2=> ?_;have H2:cw h2 lo 2 (some (aw b)) L.length c (eZ (gG L i j)):=H2;have O12:=O1.trans O2 ak;have A2:=P.at_.only O12 (by simpa using s3);obtain⟨f,hf,d⟩:=P.map;have f2:=hf.only O12 (by simpa using s4);have q0:rd h2 (aw pi)=some (.slice (some (aw b)) L.length c):=by rw[A2.rd];rfl
 have q1:rd h2 ⟨pi,1,none⟩=some (.map (some mb)):=by rw[A2.rd];rfl
 obtain⟨q2,-⟩:=a h2 _ i H2 (by rw[eY];exact hi);obtain⟨q3,-⟩:=a h2 _ j H2 (by rw[eY];exact hj);simp only[q0,q1,q2,q3,bK,gK,aT,bh,i1,j1,OV,aL,MF,ML];refine uv f2 λh3 M3 O3 z3=>uv M3 λh4 M4 O4 z4=> ?_;have O34:=O3.trans O4 ak;refine hK h4 ⟨?_,?_,⟨_,M4,d.swap hi hj⟩,P.sep⟩ ?_
 ·rw[eY];exact A2.only O34 (by simpa using s5)
 ·rw[eY]
  exact H2.only O34 λx hx=>by injection hx with hx;injection hx with hx;subst hx;simpa using Ne.symm s4
 ·exact(O12.mono (T:=mb::aV (some (aw b))) (by simp[aV])).trans O34 ak
def G9{h:aI}{L:List It}(P:dK h lo pi mb p c L)(hx: ∀k,k<L.length->(cr L k).1≠x.1)(hl:L.length<100000)(A:lo<=h.size)
  (hK: ∀h' p' c',dK h' lo pi mb p' c' (L++[x])->aM (pi::mb::aV p) h h'->(∀b∈aV p',b∈aV p\/h.size<=b)->K aE h'):
  Cl 399 [au (aw pi),.iface 357 (.agg #[ap x.1,ap x.2])] h K:=by
 apply F399.spec;simp only[aL,MF,ML];obtain⟨s1,s2,s3,s4,s5⟩:=P.sep;obtain⟨y,C,B⟩:=P.lt;refine aX λh1 A1 O1 z1=>aU A1 ak rfl λh2 A2 O2 z2=>aU A2 ak rfl λh3 A3 O3 z3=> ?_;have A3:At h3 h.size [ap x.1,ap x.2]:=A3;have O13:aM [] h h3:=O1.nil (O2.trans O3 ak) ak;have P3:=P.only O13 ak ak ak;obtain⟨f,hf,l⟩:=P3.map
 have t:f x.1=none:=by
  cases hh:f x.1 with
  |none=>rfl
  |some k=>
   obtain⟨a,b⟩:=(l x.1 k).1 hh;exact Nc b (hx k a)
 refine mz (by rw[P3.at_.rd];rfl) (aH (n:=x.1) (by rw[A3.rd];rfl) (bB (by rw[P3.at_.rd];rfl) (zY hf λh4 M4 O4 z4=> ?_)));have P4at:=P3.at_.only O4 (by simpa using s5);have A4:=A3.only O4 (by simp;omega)
 have q:=P3.own.only O4 λb hb=>by have:mb≠b:=λe=>s4 (by rw[hb,<-e];simp[aV]);simpa using Ne.symm this
 refine bB (by rw[P4at.rd];rfl) (aH (n:=x.1) (by rw[A4.rd];rfl) (aH (n:=x.2) (by rw[A4.rd];rfl) (aX λh5 A5 O5 z5=> ?_)));have P5at:=P4at.only O5 ak;refine⟨by trivial,by trivial,by trivial,by trivial,bB (by rw[P5at.rd];rfl) ⟨by trivial,?_⟩⟩;have g:=q.only O5 ak;have z:=O13.size;refine fO g A5 rfl rfl ah (by simp[Value.oneCell']) ah λp' c' h6 m O6 v=>⟨by trivial,?_⟩;have P6at:=P5at.only O6 s3;refine aU P6at ak rfl λh7 A7 O7 z7=> ?_
 have d: ∀b∈aV p',b∈aV p\/h.size<=b:=λb hb=>by
  rcases v b hb with h|h
  ·exact Or.inl h
  ·exact Or.inr ah
 have o:pi∉aV p':=λhb=>by
  rcases d _ hb with h|h
  ·exact s3 h
  ·omega
 have u:mb∉aV p':=λhb=>by
  rcases d _ hb with h|h
  ·exact s4 h
  ·omega
 refine hK h7 p' c' ⟨?_,?_,⟨_,((M4.only O5 ak).only O6 s4).only O7 (by simpa using Ne.symm s5),l.push t⟩,s1,s2,o,u,s5⟩ ?_ d
 ·rw[MZ];exact A7
 ·rw[MZ,pQ]
  exact m.only O7 λb hb=>by have:pi≠b:=λe=>o (by rw[hb,<-e];simp[aV]);simpa using Ne.symm this
 ·have g1:aM (pi::mb::aV p) h h4:=(O13.mono (T:=pi::mb::aV p) ak).trans O4 ak;exact((g1.trans O5 ak).trans O6 (λb hb _=>by simp[hb])).trans O7 ak
def Kh{L:List It}(P:dK h lo pi mb p c (L++[x]))(hl:L.length<100000)
  (hK: ∀h',dK h' lo pi mb p c L->aM [pi,mb] h h'->K (.iface 357 (.agg #[ap x.1,ap x.2])) h'):
  Cl 398 [au (aw pi)] h K:=by
 apply F398.spec;simp only[aL,MF,ML];obtain⟨s1,s2,s3,s4,s5⟩:=P.sep;obtain⟨o,t,q⟩:=P.lt;have g:(L++[x]).length=L.length+1:=ak;obtain⟨b,ep,-⟩:=P.own.rd (j:=0) (by rw[dS];omega);subst ep
 have e: ∀k,k<(L.length+1)*2->rd h ⟨b,k,none⟩=(eZ (L++[x]))[k]? :=by intro k hk;obtain⟨b',e1,e2⟩:=P.own.rd (j:=k) (by rw[dS];omega);injection e1 with e1;injection e1 with e1;subst e1;exact e2
 have ex:cr (L++[x]) L.length=x:=by simp[cr,List.getD]
 refine bB (by rw[P.at_.rd];rfl) (bB (by rw[P.at_.rd];rfl) ?_);rw[show ax (((L++[x]).length:Int)-(1:Int))=(L.length:Int) by rw[wrap_i64 ah ah];omega];simp only[aT,aL,MF,ML,MO];refine⟨ah,ah,aH (n:=x.1) (by rw[e _ ah,io ah,ex]) (aH (n:=x.2) (by rw[e _ ah,iw ah,ex]) ?_)⟩;refine aX λh1 A1 O1 z1=>aU A1 ak rfl λh2 A2 O2 z2=>aU A2 ak rfl λh3 A3 O3 z3=> ?_;have A3:At h3 h.size [ap x.1,ap x.2]:=A3;have O13:aM [] h h3:=O1.nil (O2.trans O3 ak) ak;have P3:=P.only O13 ak ak ak
 have m:L.length<=c:=by
  obtain⟨-,H⟩:=P.own;rcases H with⟨h1,-⟩|⟨b',sp,h1,h2,h3,h4,h5⟩
  ·cases h1
  ·omega
 refine bB (by rw[P3.at_.rd];rfl) ⟨ah,ah,?_⟩
 rw[show(if c=0 then(some (aw b):az)else Option.map (λa=>Addr.add a (0*2)) (some (aw b)))=some (aw b) by
  split
  ·rfl
  ·simp[Addr.add]]
 rw[OE,OE];refine aU P3.at_ ak rfl λh4 A4 O4 z4=> ?_;obtain⟨f,hf,l⟩:=P3.map;have f4:=hf.only O4 (by simpa using Ne.symm s5);have B4:=A3.only O4 (by simp;omega);refine mz (by rw[A4.rd];rfl) (aH (n:=x.1) (by rw[B4.rd];rfl) (zZ f4 λh5 M5 O5 z5=> ?_));have B5:=B4.only O5 (by simp;omega);refine aH (n:=x.1) (by rw[B5.rd];rfl) (aH (n:=x.2) (by rw[B5.rd];rfl) ?_);refine hK h5 ⟨A4.only O5 (by simpa using s5),?_,⟨_,M5,l.pop⟩,P.sep⟩ ?_
 ·have d:=P3.own;rw[g]at d
  exact((d.cut).only O4 λy hy=>by
   injection hy with hy;injection hy with hy;subst hy;simp only[aV,MH]at s3
   simpa using Ne.symm s3).only O5 λy hy=>by injection hy with hy;injection hy with hy;subst hy;simp only[aV,MH]at s4;simpa using Ne.symm s4
 ·exact((O13.mono (T:=[pi,mb]) ak).trans O4 ak).trans O5 ak
def fi.congr(H:fi L n)(e: ∀k,k<n->cr M k=cr L k):fi M n:=by
 intro k h0 h1;have hp:dD k<k:=by unfold dD;omega
 unfold kA;rw[e k h1,e (dD k) ah];exact H k h0 h1
def vY{L:List It}(h:L.length=n+1): ∃M x,L=M++[x]/\M.length=n/\x=cr L n:=by
 have a:L≠[]:=by intro e;rw[e]at h;cases h
 refine⟨L.dropLast,L.getLast a,(Py a).symm,by simp[h],?_⟩;rw[List.getLast_eq_getElem,<-Dd]
 ·congr 1
  omega
 ·omega
def EZ{M:List It}(hk:k<M.length):cr (M++[x]) k=cr M k:=by simp[cr,List.getD,MW hk]
def Li{L:List It}(hl:L.length<100000)(hn:n<=L.length): ∀(j:Nat) {L':List It} {h':aI},dK h' lo pi mb p c L'->L'.Perm L->Ct L' n j->j<n->aM (mb::aV p) h h'->(∀k,n<=k->cr L' k=cr L k)->
  (∀h' L',dK h' lo pi mb p c L'->L'.Perm L->fi L' n->(∀k,n<=k->cr L' k=cr L k)->aM (mb::aV p) h h'->K aE h')-> ∀g,j<g->F339.wL0 g (aw pi) (j:Int) h' K:=by
 intro j
 induction j using Nat.strongRecOn with
 |_ j ih=>
  intro L' h' P hp U hj O a hK g hg;obtain⟨g,rfl⟩: ∃g',g=g'+1:=⟨g-1,ah⟩;have f:=hp.length_eq;rw[F339.sL0];refine⟨by decide,?_⟩;by_cases h0:j=0
  ·subst h0;rw[show((ax (Int.tdiv (ax (((0:Nat):Int)-(1:Int))) (2:Int)))==((0:Nat):Int))=true from rfl,aO];exact hK h' L' P hp (U.done (Or.inl rfl)) a O
  ·have e:ax (Int.tdiv (ax ((j:Int)-(1:Int))) (2:Int))=((dD j:Nat):Int):=by
    rw[wrap_i64 (n:=(j:Int)-1) ah ah,N9 ah];unfold dD;rw[wrap_i64 ah ah];omega
   have d:dD j<j:=by unfold dD;omega
   rw[e,show(((dD j:Nat):Int)==(j:Int))=false by simp;omega,aJ];refine vR P ah ah λh1 P1 O1=>aZ rfl ?_;cases hb:kQ (cr L' j) (cr L' (dD j))with
   |false=>
    rw[Nx,aO];exact hK h1 L' P1 hp (U.done (Or.inr hb)) a (O.trans O1 ak)
   |true=>
    rw[Ng,aJ];refine vv P1 ah ah λh2 P2 O2=>⟨rfl,?_⟩;refine ih (dD j) d P2 ((kL ah ah).trans hp) (U.step ah hj ah hb) ah ((O.trans O1 ak).trans O2 λb hb _=>hb) (λk hk=> ?_) hK g ah;rw[iG ah ah,MG ah,MG ah];exact a k hk
def Et{L:List It}(P:dK h lo pi mb p c L)(hl:L.length<100000)(hn:n<=L.length)(U:Ct L n j)(hj:j<n)
  (hK: ∀h' L',dK h' lo pi mb p c L'->L'.Perm L->fi L' n->(∀k,n<=k->cr L' k=cr L k)->aM (mb::aV p) h h'->K aE h'):
  Cl 339 [.iface 370 (au (aw pi)),ap (j:Int)] h K:=by
 apply F339.spec;exact⟨j+1,Li hl hn j P (Ql _) U hj (aM.refl _ _) (λ_ _=>rfl) hK (j+1) ah⟩
def GX{L:List It}(hl:L.length<100000)(hn:n<=L.length)
  (hK: ∀h' L' mv,dK h' lo pi mb p c L'->L'.Perm L->(mv=true->fi L' n)->(mv=false->Ct L' n i0)->(∀k,n<=k->cr L' k=cr L k)->aM (mb::aV p) h h'->K (aD mv) h'):
  ∀(d i:Nat) {L':List It} {h':aI},n-i<=d->dK h' lo pi mb p c L'->L'.Perm L->nB L' n i0 i->i<=L.length->aM (mb::aV p) h h'->(∀k,n<=k->cr L' k=cr L k)->F358.wL2 (d+1) (aw pi) (i0:Int) (n:Int) (i:Int) h' K:=by
 intro d
 induction d with
 |zero=>
  intro i L' h' hd P hp D hi O a;rw[F358.sL2]
  have e1:ax ((ax ((2:Int)*(i:Int)))+(1:Int))=((2*i+1:Nat):Int):=by rw[wrap_i64 (n:=(2:Int)*(i:Int)) ah ah,wrap_i64 ah ah];omega
  rw[e1,MP ah,aO];unfold F358.wk11;obtain⟨d1,d2⟩:=D.done (λk h0 h1 hk=>by unfold dD at hk;omega);have le:=D.le;refine hK h' L' _ P hp (λe=>d1 ?_) (λe=>d2 ?_) a O
  ·have:=MV e;omega
  ·have:=MU e;omega
 |succ d ih=>
  intro i L' h' hd P hp D hi O a;have m:=hp.length_eq;have le:=D.le;rw[F358.sL2]
  have e1:ax ((ax ((2:Int)*(i:Int)))+(1:Int))=((2*i+1:Nat):Int):=by rw[wrap_i64 (n:=(2:Int)*(i:Int)) ah ah,wrap_i64 ah ah];omega
  rw[e1]
  have stop: ∀h',dK h' lo pi mb p c L'->aM (mb::aV p) h h'->(∀k,0<k->k<n->dD k=i->kA L' k)->F358.wk11 (i0:Int) (i:Int) h' K:=by
   intro h' P' O' hc;unfold F358.wk11;obtain⟨d1,d2⟩:=D.done hc;refine hK h' L' _ P' hp (λe=>d1 ?_) (λe=>d2 ?_) a O'
   ·have:=MV e;omega
   ·have:=MU e;omega
  by_cases hj1:n<=2*i+1
  ·rw[MP ah,aO];exact stop h' P O (λk h0 h1 hk=>by unfold dD at hk;omega)
  ·rw[MJ ah,aJ,MJ ah,aJ];rw[show ax (((2*i+1:Nat):Int)+(1:Int))=((2*i+2:Nat):Int) by rw[wrap_i64 ah ah];omega]
   have go: ∀(jj:Nat) (h':aI),dK h' lo pi mb p c L'->aM (mb::aV p) h h'->jj<n->0<jj->dD jj=i->(∀k,0<k->k<n->dD k=i->kQ (cr L' k) (cr L' jj)=false)->
     F358.wk8 (λx0 x1 x2 x7 h=>F358.wL2 (d+1) x0 x1 x2 x7 h K) (aw pi) (i0:Int) (n:Int) (i:Int) (jj:Int) h' K:=by
    intro jj h' P' O' l g f hc;have o:i<jj:=by rw[<-f];unfold dD;omega
    unfold F358.wk8;refine vR P' ah ah λh1 P1 O1=>aZ rfl ?_;cases hb:kQ (cr L' jj) (cr L' i)with
    |false=>
     rw[Nx,aO];refine stop h1 P1 (O'.trans O1 ak) λk h0 h1 hk=> ?_;unfold kA;rw[hk];exact oB (hc k h0 h1 hk) hb
    |true=>
     rw[Ng,aJ];refine vv P1 ah ah λh2 P2 O2=>⟨rfl,?_⟩;refine ih jj ah P2 ((kL ah ah).trans hp) (D.step l ah g f hb hc) ah ((O'.trans O1 ak).trans O2 λb hb _=>hb) (λk hk=> ?_);rw[iG ah ah,MG ah,MG ah];exact a k hk
   by_cases hj2:2*i+2<n
   ·rw[MP ah,aO];refine vR P ah ah λh1 P1 O1=>aZ rfl ?_;cases hb:kQ (cr L' (2*i+2)) (cr L' (2*i+1))with
    |true=>
     rw[aO];refine go (2*i+2) h1 P1 (O.trans O1 ak) hj2 ah (by unfold dD;omega) λk h0 h1 hk=> ?_;have:k=2*i+1\/k=2*i+2:=by unfold dD at hk;omega
     rcases this with rfl|rfl
     ·exact oy hb
     ·exact pL _
    |false=>
     rw[aJ];refine go (2*i+1) h1 P1 (O.trans O1 ak) ah ah (by unfold dD;omega) λk h0 h1 hk=> ?_;have:k=2*i+1\/k=2*i+2:=by unfold dD at hk;omega
     rcases this with rfl|rfl
     ·exact pL _
     ·exact hb
   ·rw[MJ ah,aJ];refine go (2*i+1) h' P O ah ah (by unfold dD;omega) λk h0 h1 hk=> ?_;have:k=2*i+1:=by unfold dD at hk;omega
    subst this;exact pL _
def xT{L:List It}(P:dK h lo pi mb p c L)(hl:L.length<100000)(hn:n<=L.length)(hi:i0<=L.length)(D:nB L n i0 i0)
  (hK: ∀h' L' mv,dK h' lo pi mb p c L'->L'.Perm L->(mv=true->fi L' n)->(mv=false->Ct L' n i0)->(∀k,n<=k->cr L' k=cr L k)->aM (mb::aV p) h h'->K (aD mv) h'):
  Cl 358 [.iface 370 (au (aw pi)),ap (i0:Int),ap (n:Int)] h K:=by
 apply F358.spec;unfold F358.wk2;exact⟨n+1,GX hl hn hK n i0 ah P (Ql _) D hi (aM.refl _ _) λ_ _=>rfl⟩
def Gk{h:aI}{L:List It}(P:dK h lo pi mb p c L)(H:fi L L.length)(hx: ∀k,k<L.length->(cr L k).1≠x.1)(hl:L.length<90000)(f:lo<=h.size)
  (hK: ∀h' p' c' L',dK h' lo pi mb p' c' L'->L'.Perm (L++[x])->fi L' L'.length->aM (pi::mb::aV p) h h'->(∀b∈aV p',b∈aV p\/h.size<=b)->K aE h'):
  Cl 309 [.iface 370 (au (aw pi)),.iface 357 (.agg #[ap x.1,ap x.2])] h K:=by
 apply F309.spec;refine G9 P hx ah f λh1 p1 c1 P1 O1 d=>⟨rfl,AY P1 (aH rfl ?_)⟩;have e:(L++[x]).length=L.length+1:=ak;rw[show ax (((L++[x]).length:Int)-(1:Int))=(L.length:Int) by rw[wrap_i64 ah ah];omega];refine Et (n:=L.length+1) P1 ah ah (zR H) ah λh2 L2 P2 p2 H2 _ O2=>⟨rfl,?_⟩;have a:=p2.length_eq;refine hK h2 p1 c1 L2 P2 p2 (by rw[a,e];exact H2) (O1.trans O2 λb hb g=> ?_) d;simp only[List.mem_cons]at hb ⊢;rcases hb with hb|hb
 ·exact Or.inr (Or.inl hb)
 ·rcases d b hb with h3|h3
  ·exact Or.inr (Or.inr h3)
  ·omega
def HZ{h:aI}{lo pi mb:Nat}{p:az}{c:Nat}{L:List It}{K:KK}{x:It}{h1:aI}{L1:List It}(P1:dK h1 lo pi mb p c L1)(a:L1.length=L.length)(hL:L.length<100000)(p1:L1.Perm L)(H1:fi L1 (L.length-1))(b:0<L.length)(hx:cr L1 (L.length-1)=x)(O1:aM (mb::aV p) h h1)
  (hK: ∀h' M,dK h' lo pi mb p c M->(M++[x]).Perm L->fi M M.length->aM (pi::mb::aV p) h h'->K (.iface 357 (.agg #[ap x.1,ap x.2])) h'):
  Cl 398 [au (aw pi)] h1 (λv h2=>lV (some v) (λv'=>K v' h2)):=by
 obtain⟨M,y,e,hM,hy⟩:=vY (L:=L1) (n:=L.length-1) ah;rw[hx]at hy;subst hy;subst e;refine Kh P1 ah λh2 P2 O2=> ?_;rw[eH];refine hK h2 M P2 p1 (fi.congr (L:=M++[y]) (by rw[hM];exact H1) λk hk=>(EZ hk).symm) ((O1.mono (T:=pi::mb::aV p) (by simp+contextual)).trans O2 (by simp+contextual))
def Kt{L:List It}(P:dK h lo pi mb p c L)(H:fi L L.length)(hl:L.length<100000)(d:0<L.length)
  (hK: ∀h' M,dK h' lo pi mb p c M->(M++[cr L 0]).Perm L->fi M M.length->aM (pi::mb::aV p) h h'->K (.iface 357 (.agg #[ap (cr L 0).1,ap (cr L 0).2])) h'):
  Cl 341 [.iface 370 (au (aw pi))] h K:=by
 apply F341.spec;refine AY P (aH rfl ?_);rw[show ax ((L.length:Int)-(1:Int))=((L.length-1:Nat):Int) by rw[wrap_i64 ah ah];omega];rw[show(0:Int)=((0:Nat):Int)from rfl];refine vv P ah ah λh1 P1 O1=>⟨rfl,?_⟩;have sw:=iG (L:=L) (i:=0) (j:=L.length-1) ah ah
 have D:nB (gG L 0 (L.length-1)) (L.length-1) 0 0:=by
  refine⟨λk h0 h1 hk e=> ?_,λk h0 h1 hk hi=>ah,MN _⟩;have hp:dD k<k:=by unfold dD;omega
  unfold kA;rw[sw k,sw (dD k),MG ah,MG ah,MG ah,MG ah];exact H k h0 ah
 refine xT P1 (by rw[eY];exact hl) (by rw[eY];omega) ah D λh2 L2 mv P2 p2 m1 m2 ge O2=>aZ rfl ?_;have a:=p2.length_eq;rw[eY]at a
 have H2:fi L2 (L.length-1):=by
  cases mv with
  |true=>exact m1 rfl
  |false=>exact(m2 rfl).done (Or.inl rfl)
 refine HZ (x:=cr L 0) P2 a hl (p2.trans (kL ah ah)) H2 d ?_ (O1.trans O2 λb hb _=>hb) hK;rw[ge _ (MN _),sw,MK rfl]
def F310.spec(H:bf h (.cells #[ap 0,ap 0] 357) λc d=>Cl 340 [au a] d λa d=>aQ .i64 (some a) λa=>aK (a==0) (aW d ((aw c).add 0) (ap 0) λa=>aW a ((aw c).add 1) (ap 0) λa=>aQ .i64 (rd a ((aw c).add 0)) λb=>aQ .i64 (rd a ((aw c).add 1)) λc=>K (.tuple #[.agg #[ap b,ap c],aB]) a) (Cl 311 [au b] d λa b=> ∃d:Int,∃e:Int,a=(.agg #[ap d,ap e])/\aW b ((aw c).add 0) (ap d) λa=>aW a ((aw c).add 1) (ap e) λa=>aQ .i64 (rd a ((aw c).add 0)) λb=>aQ .i64 (rd a ((aw c).add 1)) λc=>K (.tuple #[.agg #[ap b,ap c],aC]) a)):Cl 310 [au a,.func (.func 311) #[au b] #[]] h K:=cN Tryz.func310 H
def F290.spec(H:bf h (.cells #[ap 0,ap 0] 357) λb c=>Cl 310 [au a,.func (.func 311) #[au a] #[]] c λa c=> ∃d:Int,∃e:Int,∃f:Bool,a=(.tuple #[.agg #[ap d,ap e],aD f])/\aW c ((aw b).add 0) (ap d) λa=>aW a ((aw b).add 1) (ap e) λa=>aQ .i64 (rd a ((aw b).add 0)) λc=>aQ .i64 (rd a ((aw b).add 1)) λb=>K (.tuple #[.agg #[ap c,ap b],aD f]) a):Cl 290 [au a] h K:=cN Tryz.func290 H
structure Qu(h:aI)(lo q pi mb:Nat)(p:az)(c:Nat)(L:List It):Prop where
 at_:At h q [au (aw pi)]
 pile:dK h lo pi mb p c L
 heap:fi L L.length
 sep:lo<=q/\q≠pi/\q≠mb/\q∉aV p
def Qu.only(H:Qu h lo q pi mb p c L)(O:aM S h h')(hS: ∀b∈q::pi::mb::aV p,b∉S):Qu h' lo q pi mb p c L:=
 ⟨H.at_.only O (hS _ ak),H.pile.only O (hS _ ak) (hS _ ak) (λb hb=>hS b (by simp[hb])),H.heap,H.sep⟩
def Qu.lt{h:aI}(H:Qu h lo q pi mb p c L): ∀b∈q::pi::mb::aV p,lo<=b/\b<h.size:=by
 intro b hb;obtain⟨s1,s2,s3,s4⟩:=H.sep;obtain⟨u1,u2,-⟩:=H.pile.sep;obtain⟨v1,v2,v3⟩:=H.pile.lt;simp only[List.mem_cons]at hb;rcases hb with rfl|rfl|rfl|hb
 ·exact⟨s1,H.at_.lt⟩
 ·exact⟨u1,v1⟩
 ·exact⟨u2,v2⟩
 ·exact v3 b hb
def zg(L:List It)(id:Int):Prop:= ∃k,k<L.length/\(cr L k).1=id
def BF(v:Value)(K:Value->Prop):lR Tryz.prog 357 false (.iface 357 v) K=K v:=by kernel_rfl
def Ek(b:Nat)(n m:Int)(h:aI)(K:aI->Prop):dp Tryz.prog 357 (some (aw b)) (.agg #[ap n,ap m]) h K=aW h (Addr.add (aw b) 0) (ap n) (λh1=>aW h1 (Addr.add (aw b) 1) (ap m) K):=by kernel_rfl
def Gn{h:aI}(hK: ∀q pi mb h',Qu h' h.size q pi mb none 0 []->aM [] h h'->K (au (aw q)) h'):Cl 288 [] h K:=by
 apply F288.spec;have O1:=aM.push_map h #[] 0;have m1:mp (h.push (.map #[] 0)) h.size=some (#[],0):=by simp[mp]
 have z1:(h.push (.map #[] 0)).size=h.size+1:=ak;show(λb1 h2=>bf h2 (.cells #[(.slice none 0 0),(.map (some b1))] 374) (λb3 h4=>bf h4 (.cells #[(au (aw b3))] 376) (λb5 h6=>K (au (aw b5)) h6))) h.size (h.push (.map #[] 0));generalize h.push (.map #[] 0)=h1 at*
 refine aX λh2 A2 O2 z2=>aX λh3 A3 O3 z3=> ?_;have M1:bS h1 h.size .i64 []:=bS.empty m1;have M3:=(M1.only O2 ak).only O3 ak;refine hK h2.size h1.size h.size h3 ⟨A3,⟨A2.only O3 ak,cw.nil _ _ _,⟨λ_=>none,⟨[],M3,λx=>rfl⟩,λid i=>ak⟩,ah,ah,by simp[aV],by simp[aV],ah⟩,λk h0 h1=>by simp at h1,ah,ah,ah,by simp[aV]⟩ ((O1.trans O2 ak).trans O3 ak)
def EK{h:aI}{lo pi mb:Nat}{p:az}{c:Nat}{L:List It}{id:Int}{K:Option (Nat×Value)->Prop}(Q:dK h lo pi mb p c L)(hN: ¬zg L id->K none)(hS: ∀i k,k<L.length->(cr L k).1=id->K (some (i,ap (k:Int)))):dQ h (some mb) .i64 .i64 id K:=by
 obtain⟨f,hf,d⟩:=Q.map;refine yG hf (λe=>hN ?_) λi k e=> ?_
 ·rintro ⟨k,hk,g⟩;rw[(d id k).2 ⟨hk,g⟩]at e;cases e
 ·obtain⟨a,b⟩:=(d id k).1 e;exact hS i k a b
def Eg{h:aI}{L:List It}(Q:Qu h lo q pi mb p c L)(hl:L.length<90000)(d:lo<=h.size)(hT:zg L x.1->K aB h)
  (hF: ¬zg L x.1-> ∀h' p' c' L',Qu h' lo q pi mb p' c' L'->L'.Perm (L++[x])->aM (pi::mb::aV p) h h'->(∀b∈aV p',b∈aV p\/h.size<=b)->K aC h'):
  Cl 289 [au (aw q),ap x.1,ap x.2] h K:=by
 apply F289.spec;simp only[aL,MF];obtain⟨s1,s2,s3,s4⟩:=Q.sep;refine aR (by rw[Q.at_.rd];rfl) ?_;simp only[aT,aL,MF];refine mz (by rw[Q.pile.at_.rd];rfl) (EK Q.pile (λhn=>aH rfl ?_) λi k hk g=>aH rfl ?_)
 ·rw[Option.isSome_none,aJ];refine aR (by rw[Q.at_.rd];rfl) (Gk Q.pile Q.heap (λk hk e=>hn ⟨k,hk,e⟩) hl d λh1 p1 c1 L1 P1 f H1 O1 a=>⟨rfl,?_⟩);have hq:=Q.at_.lt;refine hF hn h1 p1 c1 L1 ⟨Q.at_.only O1 (by simp[s2,s3,s4]),P1,H1,s1,s2,s3,λhb=> ?_⟩ f O1 a;rcases a q hb with h3|h3
  ·exact s4 h3
  ·omega
 ·rw[Option.isSome_some,aO];exact hT ⟨k,hk,g⟩
def HW{L:List It}(Q:Qu h lo q pi mb p c L)(hK:K (ap (L.length:Int)) h):Cl 340 [au (aw q)] h K:=by apply F340.spec;simp only[aL,MF];exact aR (by rw[Q.at_.rd];rfl) (AY Q.pile (aH rfl hK))
def AJ{L:List It}(Q:Qu h lo q pi mb p c L)(hl:L.length<90000)(d:0<L.length)
  (hK: ∀h' M,Qu h' lo q pi mb p c M->(M++[cr L 0]).Perm L->aM (pi::mb::aV p) h h'->K (.agg #[ap (cr L 0).1,ap (cr L 0).2]) h'):Cl 311 [au (aw q)] h K:=by
 apply F311.spec;simp only[aL,MF];have lt:=Q.lt;obtain⟨s1,s2,s3,s4⟩:=Q.sep;refine aX λh1 A1 O1 z1=> ?_;have Q1:=Q.only O1 ak;refine aR (by rw[Q1.at_.rd];rfl) (Kt Q1.pile Q1.heap ah d λh2 M P2 p2 H2 O2=> ?_);rw[eH,BF,Ek]
 have a:h.size∉pi::mb::aV p:=λhb=>by have:=(lt h.size (Nh _ hb)).2;omega
 simp only[aL,MF,ML];refine aU (A1.only O2 a) ak rfl λh3 A3 O3 z3=>aU A3 ak rfl λh4 A4 O4 z4=> ?_;refine aH (n:=(cr L 0).1) (by rw[A4.rd];rfl) (aH (n:=(cr L 0).2) (by rw[A4.rd];rfl) ?_);have O34:=O3.trans O4 ak;have Q2:Qu h2 lo q pi mb p c M:=⟨Q1.at_.only O2 (by simp[s2,s3,s4]),P2,H2,s1,s2,s3,s4⟩;refine hK h4 M (Q2.only O34 λb hb=> ?_) p2 ?_
 ·have:=(lt b hb).2;simp;omega
 ·exact((O1.mono (T:=pi::mb::aV p) ak).trans O2 λb hb _=>hb).trans O34 ak
def HK{L:List It}(Q:Qu h lo q pi mb p c L)(hl:L.length<90000)(hN:L=[]-> ∀h',Qu h' lo q pi mb p c []->aM [] h h'->K (.tuple #[.agg #[ap 0,ap 0],aB]) h')
  (hK: ∀h' M,0<L.length->Qu h' lo q pi mb p c M->(M++[cr L 0]).Perm L->aM (pi::mb::aV p) h h'->K (.tuple #[.agg #[ap (cr L 0).1,ap (cr L 0).2],aC]) h'):Cl 290 [au (aw q)] h K:=by
 apply F290.spec;have lt:=Q.lt;refine aX λh1 A1 O1 z1=> ?_;have Q1:=Q.only O1 ak;apply F310.spec;refine aX λh2 A2 O2 z2=> ?_;have Q2:=Q1.only O2 ak;simp only[aL,MF];refine HW Q2 (aH rfl ?_)
 have a: ∀{h3 h4:aI} {M:List It} {x:Nat},Qu h3 lo q pi mb p c M->aM [x] h3 h4->h.size<=x->Qu h4 lo q pi mb p c M:=λQ3 O hx=>Q3.only O λb hb=>by have:=(lt b hb).2;simp;omega
 have B2:=A1.only O2 ak;by_cases hL:L=[]
 ·subst hL;rw[show(((([]:List It).length:Int))==(0:Int))=true from rfl,aO];refine aU A2 ak rfl λh3 A3 O3 z3=>aU A3 ak rfl λh4 A4 O4 z4=> ?_;refine aH (n:=0) (by rw[A4.rd];rfl) (aH (n:=0) (by rw[A4.rd];rfl) ⟨_,_,_,rfl,?_⟩);have O34:=O3.trans O4 ak;refine aU (B2.only O34 (by simp;omega)) ak rfl λh5 A5 O5 z5=>aU A5 ak rfl λh6 A6 O6 z6=> ?_;refine aH (n:=0) (by rw[A6.rd];rfl) (aH (n:=0) (by rw[A6.rd];rfl) ?_);have O56:=O5.trans O6 ak;exact hN rfl h6 (a (a Q2 O34 ah) O56 ah) (((O1.trans O2 ak).nil O34 (by simp;omega)).nil O56 ak)
 ·have d:0<L.length:=List.length_pos_iff.2 hL;rw[show((L.length:Int)==(0:Int))=false by simp;omega,aJ];refine AJ Q2 hl d λh3 M Q3 p3 O3=>⟨_,_,rfl,?_⟩
  have e: ∀x,h.size<=x->x∉pi::mb::aV p:=λx hx hb=>by have:=(lt x (Nh _ hb)).2;omega
  refine aU (A2.only O3 (e _ ah)) ak rfl λh4 A4 O4 z4=>aU A4 ak rfl λh5 A5 O5 z5=> ?_;refine aH (n:=(cr L 0).1) (by rw[A5.rd];rfl) (aH (n:=(cr L 0).2) (by rw[A5.rd];rfl) ⟨_,_,_,rfl,?_⟩);have O45:=O4.trans O5 ak;refine aU ((B2.only O3 (e _ ah)).only O45 (by simp;omega)) ak rfl λh6 A6 O6 z6=>aU A6 ak rfl λh7 A7 O7 z7=> ?_;refine aH (n:=(cr L 0).1) (by rw[A7.rd];rfl) (aH (n:=(cr L 0).2) (by rw[A7.rd];rfl) ?_);have O67:=O6.trans O7 ak;refine hK h7 M d (a (a Q3 O45 ah) O67 ah) p3 ?_;have g1:aM (pi::mb::aV p) h h3:=((O1.trans O2 ak).mono (T:=pi::mb::aV p) ak).trans O3 λb hb _=>hb;exact(g1.trans O45 (by simp;omega)).trans O67 ak
def JH:bQ X 290=some cH.go:=by kernel_rfl
structure Pl(h0 k:aI)(n lo q pi mb:Nat)(pp:az)(cc:Nat)(M:List It)(zp:az)(zc:Nat)(zs:List Int):Prop where
 Q:Qu k lo q pi mb pp cc M
 W:cw k h0.size 1 zp zs.length zc (zs.map (Value.int .i64))
 d: ∀y∈aV zp,y∉q::pi::mb::aV pp
 O:aM [] h0 k
 l:h0.size<=lo
 mi: ∀x∈M,∃i:Nat,i<n/\x.1=(i:Int)
 zi: ∀z∈zs,∃i:Nat,i<n/\z=(i:Int)
 len:M.length+zs.length<=50
def Pl.only0(P:Pl h0 h n lo q pi mb pp cc M zp zc zs)(O:aM [] h h'):Pl h0 h' n lo q pi mb pp cc M zp zc zs:=
 ⟨P.Q.only O (λb hb=>ak),P.W.only O ak,P.d,P.O.trans O ak,P.l,P.mi,P.zi,P.len⟩
def Pl.onlyB{h0:aI}(P:Pl h0 h n lo q pi mb pp cc M zp zc zs)(O:aM [b] h h')(hb:h0.size<=b)(h1:b∉q::pi::mb::aV pp)(h2:b∉aV zp):Pl h0 h' n lo q pi mb pp cc M zp zc zs:=
 ⟨P.Q.only O (λy hy hm=>by simp only[MH]at hm;subst hm;exact h1 hy),P.W.only O (λy e hm=>by simp only[MH]at hm;subst hm;exact h2 (by rw[e];simp[aV])),P.d,P.O.trans O (λy hy hl=>by simp only[MH]at hy;omega),P.l,P.mi,P.zi,P.len⟩
def Pl.lt{h:aI}(P:Pl h0 h n lo q pi mb pp cc M zp zc zs):(∀y∈q::pi::mb::aV pp,y<h.size)/\ ∀y∈aV zp,y<h.size:=⟨λy hy=>(P.Q.lt y hy).2,λy hy=>(P.W.lt y hy).2⟩
def Bv{M:List It}(P:Pl h0 h n lo q pi mb pp cc M zp zc zs)(hN: ∀h',Pl h0 h' n lo q pi mb pp cc [] zp zc zs->aM [] h h'->K (.tuple #[.agg #[ap 0,ap 0],aB]) h')
  (hK: ∀h' M' (i:Nat) (z:Int),i<n->M'.length+1=M.length->Pl h0 h' n lo q pi mb pp cc M' zp zc zs->aM (pi::mb::aV pp) h h'->K (.tuple #[.agg #[ap (i:Int),ap z],aC]) h'):
  Cl 290 [au (aw q)] h K:=by
 have pl:=P.len;refine HK P.Q ah (λe h1 Q1 O1=> ?_) λh1 M1 hl Q1 pm O1=> ?_
 ·subst e;exact hN h1 ⟨Q1,P.W.only O1 ak,P.d,P.O.trans O1 ak,P.l,P.mi,P.zi,P.len⟩ O1
 ·have e1:M1.length+1=M.length:=by
   have:=pm.length_eq;simpa using this
  have m0:cr M 0∈M:=pm.subset ak;obtain⟨i,hi,ei⟩:=P.mi _ m0;rw[ei];refine hK h1 M1 i _ hi e1 ⟨Q1,P.W.only O1 λy e hm=>P.d y (by rw[e];simp[aV]) (Nh _ hm),P.d,P.O.trans O1 λy hy hl=>by have:=(P.Q.lt y (Nh _ hy)).1;have:=P.l;omega,P.l,λx hx=>P.mi x (pm.subset (by simp[hx])),P.zi,ah⟩ O1
def LM{h0:aI}(hK: ∀(h':aI) (zp:az) (zc:Nat) (zs:List Int),cw h' h0.size 1 zp zs.length zc (zs.map (Value.int .i64))->(∀z∈zs,∃i:Nat,i<n/\z=(i:Int))->zs.length<=50->aM [] h0 h'->K (.tuple #[.slice zp zs.length zc,ap 0]) h'):
  ∀(a:Nat) {h:aI} {M:List It} {zp:az} {zc:Nat} {zs:List Int} {b:Nat} {t:Bool},1<=a->(t=true->M.length+2<=a)->Pl h0 h n lo q pi mb pp cc M zp zc zs->(t=true->zs.length+M.length<50/\(∃i:Nat,i<n/\ ∃z:Int,At h b [ap (i:Int),ap z])/\b∉aV zp)->
   F256.wL14 a zp zs.length zc (.func (.func 290) #[au (aw q)] #[]) (aw b) t h K:=by
 intro a
 induction a with
 |zero=>intro h M zp zc zs b t hg;omega
 |succ a ih=>
  intro h M zp zc zs b t _ hg P ht;rw[F256.sL14];cases t with
  |false=>
   rw[aJ];exact hK h zp zc zs P.W P.zi (by have:=P.len;omega) P.O
  |true=>
   have hg:=hg rfl;obtain⟨hz,⟨i,hi,z,A⟩,nb⟩:=ht rfl;rw[aO];simp only[aL,MF];refine aH (n:=(i:Int)) (by rw[At.rd A];rfl) (aX λh3 A3 O3 z3=> ?_);have P3:=P.only0 O3;have l3:=P3.lt;have s0:=P3.O.size;refine iq (new:=[ap (i:Int)]) (q:=some (aw h.size)) P3.W rfl (fa A3 ak) rfl ah (by simp[Value.oneCell']) ah λf o h7 W7 O7 g7=> ?_;have e9:zs.map (Value.int .i64)++[ap (i:Int)]=(zs++[(i:Int)]).map (Value.int .i64):=ak;have g:zs.length+1=(zs++[(i:Int)]).length:=ak;rw[e9,g]at W7;rw[g]
   have P7:Pl h0 h7 n lo q pi mb pp cc M f o (zs++[(i:Int)]):=by
    refine⟨P3.Q.only O7 λy hy hm=>P3.d y hm hy,W7,λy hy hm=> ?_,P3.O.trans O7 λy hy hl=>by have:=(P3.W.lt y hy).1;omega,P3.l,P3.mi,λw hw=> ?_,by simp;omega⟩
    ·rcases g7 y hy with q|q
     ·exact P3.d y q hm
     ·have:=l3.1 y hm;omega
    ·rcases Zq hw with q|q
     ·exact P3.zi w q
     ·simp only[MH]at q;exact⟨i,hi,q⟩
   have A7:=(A.only O3 ak).only O7 nb
   have G:b∉aV f:=λhm=>by
    rcases g7 b hm with q|q
    ·exact nb q
    ·have:=(A.only O3 ak).lt;omega
   refine aH (n:=(i:Int)) (by rw[At.rd A7];rfl) (aH (n:=z) (by rw[At.rd A7];rfl) (aX λD A11 O11 J=> ?_));have P11:=P7.only0 O11;have l7:=P7.lt;have s7:=P7.O.size;have n1:h7.size∉q::pi::mb::aV pp:=λhm=>by have:=l7.1 _ hm;omega
   have n2:h7.size∉aV f:=λhm=>by have:=l7.2 _ hm;omega
   refine aU A11 ak rfl λI A12 O12 F=>aU A12 ak rfl λN A13 O13 H=> ?_;have P13:=(P11.onlyB O12 ah n1 n2).onlyB O13 ah n1 n2;refine bu JH (Bv P13 (λx P15 O15=>⟨_,_,_,rfl,?_⟩) λx M' i' z' B hM P15 O15=>⟨_,_,_,rfl,?_⟩)
   ·have A15:=A13.only O15 ak;refine aU A15 ak rfl λj A16 O16 u=>aU A16 ak rfl λm A17 O17 C=> ?_;exact ih ah (λe=>by cases e) ((P15.onlyB O16 ah n1 n2).onlyB O17 ah n1 n2) λe=>by cases e
   ·have A15:=A13.only O15 λhm=>n1 (Nh _ hm);refine aU A15 ak rfl λj A16 O16 u=>aU A16 ak rfl λm A17 O17 C=> ?_;exact ih ah (λ_=>ah) ((P15.onlyB O16 ah n1 n2).onlyB O17 ah n1 n2) λ_=>⟨by simp;omega,⟨i',B,z',A17⟩,n2⟩
def IC{h:aI}{rs:List Nat}(S:nK h s n room fo gg off N L rs G lo p c)
  (hK: ∀(h':aI) (zp:az) (zc:Nat) (zs:List Int),cw h' h.size 1 zp zs.length zc (zs.map (Value.int .i64))->(∀z∈zs,∃i:Nat,i<n/\z=(i:Int))->zs.length<=50->aM [] h h'->K (.tuple #[.slice zp zs.length zc,ap 0]) h'):
  Cl 256 [bg s,.slice p rs.length c] h K:=by
 have ok:=S.S.ok;dsimp only[XL]at ok;have n8:=ok.2.2.1;refine F256.spec _ _ _ _ h K ?_;refine rQ S.S S.Ow (λr hr=>(S.ir r hr).1) S.rl λh1 b g A1 gb sem g4 O1=>⟨_,_,_,_,rfl,?_⟩;rw[show((0:Int) !=0)=false from rfl,aJ];have S1:=S.only0 O1;refine Gn λq pi mb h2 Q2 O2=>aR rfl ?_;have S2:=S1.only0 O2;refine dX S2.S λoc h3 Or g3 O3=>aR rfl ?_;have s1:=O1.size;have s2:=O2.size;have s3:=O3.size;have lA:=A1.lt;unfold F256.wk7
 have a: ∀(d l:Nat) (k:aI) (pp:az) (cc:Nat) (M:List It),l+d=n->Pl h k n h1.size q pi mb pp cc M none 0 []->M.length<=l->At k b (zL n g)->cK k oc n fo gg->oc∉q::pi::mb::aV pp->oc<k.size->
   F256.wL7 (d+1) (some (aw q)) (some (aw oc)) (some (aw b)) n n (n:Int) (l:Int) k K:=by
  intro d
  induction d with
  |zero=>
   intro l k pp cc M hl P hM A Or no lo;rw[F256.sL7];rw[MJ ah,aJ];unfold F256.wk11
   have fin: ∀(k2:aI) (M2:List It) (i z:Int) (t:Bool),Pl h k2 n h1.size q pi mb pp cc M2 none 0 []->M2.length<=20->(t=true-> ∃j:Nat,j<n/\i=(j:Int))->bf k2 (.cells #[(ap (0:Int)),(ap (0:Int))] 357) (λb8 h9=>aW h9 (Addr.add (aw b8) 0) (ap i) (λo=>aW o (Addr.add (aw b8) 1) (ap z) (λf=>F256.wk14 none 0 0 (.func (.func 290) #[(au (aw q))] #[]) (aw b8) t f K))):=by
    intro k2 M2 i z t P2 B hj;refine aX λk3 B3 P3 y3=> ?_;have l2:=P2.lt;have s2:=P2.O.size;simp only[aL,MF];have n1:k2.size∉q::pi::mb::aV pp:=λhm=>by have:=l2.1 _ hm;omega
    refine aU B3 ak rfl λk4 B4 P4 y4=>aU B4 ak rfl λk5 B5 P5 y5=> ?_;have PP:=((P2.only0 P3).onlyB P4 ah n1 (by simp[aV])).onlyB P5 ah n1 (by simp[aV]);unfold F256.wk14;refine⟨30,LM (zs:=[]) hK 30 ah (λ_=>ah) PP λe=>⟨by simp;omega,?_,by simp[aV]⟩⟩;obtain⟨j,m,ej⟩:=hj e;subst ej;exact⟨j,m,z,B5⟩
   exact Bv P (λk2 P2 O2=>⟨_,_,_,rfl,fin k2 [] 0 0 false P2 ak λe=>by cases e⟩) λk2 M2 i z hi u P2 O2=>⟨_,_,_,rfl,fin k2 M2 (i:Int) z true P2 ah λ_=>⟨i,hi,rfl⟩⟩
  |succ d ih=>
   intro l k pp cc M hl P hM A Or no lo;rw[F256.sL7];rw[MP ah,aO,aT];refine⟨ah,ah,?_⟩;rw[aL,MF,MO,Nz];refine aH (n:=(g l:Int)) (by rw[At.rd A,oF ah]) (nO Or n8 ah (aH rfl ?_));have ew:ax ((l:Int)+1)=((l+1:Nat):Int):=by rw[wrap_i64 ah ah];omega
   rw[ew];have fl:=(S.P.2 l ah).1;have pz:=P.O.size;refine Eg (x:=((fo l:Int),(g l:Int))) P.Q (by have:=P.len;omega) (by have:=P.Q.sep.1;have:=P.Q.at_.lt;omega) (λ_=>aZ rfl (ih (l+1) k pp cc M ah P ah A Or no lo)) λ_ k2 p2 c2 M2 Q2 pm O2 own=>aZ rfl ?_;have lt:=P.lt;have bA:=A.lt;have hb:b∉pi::mb::aV pp:=λhm=>by have:=(P.Q.lt b (Nh _ hm)).1;omega
   have lM:M2.length=M.length+1:=by have:=pm.length_eq;simpa using this
   refine ih (l+1) k2 p2 c2 M2 ah ⟨Q2,cw.nil _ _ _,λy hy=>(by simp[aV]at hy),P.O.trans O2 λy hy hl=>by have:=(P.Q.lt y (Nh _ hy)).1;omega,P.l,λx hx=> ?_,λz hz=>(by cases hz),by simp;omega⟩ ah (A.only O2 hb) (Or.only O2 λhm=>no (Nh _ hm)) (λhm=> ?_) (by have:=O2.size;omega)
   ·rcases Zq (pm.subset hx)with q|q
    ·exact P.mi x q
    ·simp only[MH]at q;subst q;exact⟨fo l,fl,rfl⟩
   ·rcases List.mem_cons.1 hm with q|q
    ·exact no (by rw[q];simp)
    ·rcases List.mem_cons.1 q with q|q
     ·exact no (by rw[q];simp)
     ·rcases List.mem_cons.1 q with q|q
      ·exact no (by rw[q];simp)
      ·rcases own oc q with q|q
       ·exact no (by simp[q])
       ·omega
 have O03:=(O1.trans O2 ak).trans O3 ak;refine⟨_,a n 0 h3 none 0 [] ah ⟨Q2.only O3 (λb hb=>ak),cw.nil _ _ _,λy hy=>(by simp[aV]at hy),O03,s1,λx hx=>(by cases hx),λz hz=>(by cases hz),ak⟩ (MN _) ((A1.only O2 ak).only O3 ak) Or (λhm=> ?_) Or.lt⟩;have:=(Q2.lt oc hm).2;omega
def Ju:bQ X 257=some cH.go:=by kernel_rfl
def IG{rs:List Nat}(S:nK h s n room fo gg off N L rs G lo p c)
  (hK: ∀h' L' x C N' a b e,nK h' s n room x C off N' L' rs G lo p c->aM L h h'->bH L L' h->K (.tuple #[ap a,ap b,ap e]) h'):Cl 212 [bg s,.slice p rs.length c] h K:=by
 have ok:=S.S.ok;dsimp only[XL]at ok;refine F212.spec _ _ _ _ h K ?_;refine Cj S λh1 L1 N1 D S1 O1 F1=>⟨_,_,rfl,?_⟩;rw[show((0:Int) !=0)=false from rfl,aJ];refine IS S1 λh2 zr O2=>aH rfl ?_;have S2:=S1.only0 O2;refine oI S2.S (aH rfl ?_);refine aS (λ_=>hK h2 L1 fo gg N1 0 0 60 S2 (O1.trans (O2.mono ak) λy hy _=>hy) F1) λ_=> ?_;refine aX λh3 A3 O3 z3=> ?_;simp only[aL,MF];refine aU A3 ak rfl λh4 A4 O4 z4=>aU A4 ak rfl λh5 A5 O5 z5=> ?_;have A5:At h5 h2.size [bg s,.slice p rs.length c]:=A5;have O25:aM [] h2 h5:=(O3.trans O4 (by intro y hy hl;simp only[MH]at hy;omega)).trans O5 (by intro y hy hl;simp only[MH]at hy;omega);have S5:=S2.only0 O25;refine aR (n:=some (aw s)) (by rw[At.rd A5];rfl) (bB (p:=p) (l:=rs.length) (c:=c) (by rw[At.rd A5];rfl) ?_);refine zA S5 λh6 sz O6=>aH rfl ?_;have S6:=S5.only0 O6;refine IC S6 λh7 zp zc zs W7 zi zl O7=>⟨_,_,_,_,rfl,?_⟩;have S7:=S6.only0 O7;have A7:=(A5.only O6 ak).only O7 ak;refine aR (n:=some (aw s)) (by rw[At.rd A7];rfl) (bB (p:=p) (l:=rs.length) (c:=c) (by rw[At.rd A7];rfl) ?_);have s2:=O2.size;have nb:h2.size∉L1:=λhm=>by have:=S2.S.lt _ hm;omega
 have l6:=S6.S.lt;have nz: ∀y∈aV zp,y∉L1/\y<h7.size:=λy hy=>⟨λhm=>by have:=(W7.lt y hy).1;have:=l6 y hm;omega,(W7.lt y hy).2⟩;unfold F212.wk11
 have o: ∀(d i:Nat) (k:aI) (L2:List Nat) (g f:Nat->Nat) (N2:ay),i+d=zs.length->nK k s n room g f off N2 L2 rs G lo p c->h2.size∉L2->(∀y∈aV zp,y∉L2)->At k h2.size [bg s,.slice p rs.length c]->cw k h6.size 1 zp zs.length zc (zs.map (Value.int .i64))->aM L1 h7 k->bH L1 L2 h7->
   F212.wL11 (d+1) sz 0 (aw h2.size) (.func (.func 257) #[Ie s p rs.length c] #[]) zp zs.length zc (zs.length:Int) (i:Int) k K:=by
  intro d
  induction d with
  |zero=>
   intro i k L2 g f N2 hi Sk nk m A W O F;rw[F212.sL11];rw[MJ ah,aJ];unfold F212.wk17;simp only[aL,MF];refine aR (n:=some (aw s)) (by rw[At.rd A];rfl) (bB (p:=p) (l:=rs.length) (c:=c) (by rw[At.rd A];rfl) ?_);refine zA Sk λk2 B O2'=>aH rfl ?_;have O17:aM L1 h1 h7:=((O2.trans O25 ak).trans (O6.trans O7 ak) ak).mono ak;have Oa:aM L1 h1 k2:=(O17.trans O λy hy _=>hy).trans (O2'.mono ak) λy hy _=>hy;have Fa:bH L1 L2 h1:=λy hy=>(F y hy).imp id λq=>by have:=O17.size;omega
   exact hK k2 L2 g f N2 sz B 0 (Sk.only0 O2') (O1.app Oa F1) (F1.trans Fa O1.size)
  |succ d ih=>
   intro i k L2 g f N2 hi Sk nk m A W O F;rw[F212.sL11];rw[MP ah,aO];obtain⟨bz,ez,rr⟩:=W.rd (j:=i) (by simp;omega);rw[ez,aT,<-ez];refine⟨ah,ah,?_⟩;rw[aL,MF,show Int.toNat (i:Int)*1=i by omega,rr];obtain⟨z,hz⟩: ∃z,zs[i]? =some z:=⟨_,MT ah⟩;obtain⟨v,hv,ev⟩:=zi z (MM hz);refine aH (n:=z) (by simp[hz]) ?_;subst ev;refine bu Ju (Ht Sk hv λk2 L3 u t N3 e he S3 O3' F3=>aH rfl ?_);rcases he with q|q
   rotate_left
   ·subst q;rw[show((60:Int) !=0)=true from rfl,aO];have O17:aM L1 h1 h7:=((O2.trans O25 ak).trans (O6.trans O7 ak) ak).mono ak;have Oa:aM L1 h1 k2:=O17.trans (O.app O3' F) λy hy _=>hy;have Fa:bH L1 L3 h1:=λy hy=>(F.trans F3 O.size y hy).imp id λq=>by have:=O17.size;omega
    exact hK k2 L3 u t N3 0 0 60 S3 (O1.app Oa F1) (F1.trans Fa O1.size)
   subst q;rw[show((0:Int) !=0)=false from rfl,aJ,show ax ((i:Int)+1)=((i+1:Nat):Int) by rw[wrap_i64 ah ah];omega];have lA:=A.lt;refine ih (i+1) k2 L3 u t N3 ah S3 (λhm=> ?_) (λy hy hm=> ?_) (A.only O3' nk) (W.only O3' λb e=>m b (by rw[e];simp[aV])) (O.app O3' F) (F.trans F3 O.size)
   ·rcases F3 _ hm with q|q
    ·exact nk q
    ·omega
   ·rcases F3 y hm with q|q
    ·exact m y hy q
    ·have:=(W.lt y hy).2;omega
 exact⟨_,o zs.length 0 h7 L1 fo gg N1 ah S7 nb (λy hy=>(nz y hy).1) A7 W7 (aM.refl _ _) (bH.refl _ _)⟩
def F215.spec(H:Cl 264 [.func (.func 266) #[] #[au a]] h λa b=>cx (some a) λa c d=>Cl 265 [.slice a c d] b λb e=>b=aE/\K (.slice a c d) e):Cl 215 [.func (.func 266) #[] #[au a]] h K:=cN Tryz.func215 H
def F216.spec(a:Option Nat)(h:aI)(K:KK)(H:bf h (.cells #[.map a] 154) λa b=>K (.func (.func 266) #[] #[au (aw a)]) b):Cl 216 [.map a] h K:=cN Tryz.func216 H
def F264.spec(H:Cl 297 [.slice none 0 0,.func (.func 266) #[] #[au a]] h λa b=>cx (some a) λa c d=>K (.slice a c d) b):Cl 264 [.func (.func 266) #[] #[au a]] h K:=cN Tryz.func264 H
namespace IN
open Go Go.RowKit Go.Maps
def uI3:Tryz.prog.underlying 3=some (.int .i64):=by kernel_rfl
def u154:Tryz.prog.underlying 154=some (.map 3 167):=by kernel_rfl
def u84:Tryz.prog.underlying 84=some (.slice 3):=by kernel_rfl
set_option maxHeartbeats 2000000 in
def BH{F:Fence}(I:F.fn 266)(L:F.round=none)(hn:1<=n)(l Bm b nn:Nat)(D0:DataW Unit)(J:List Int->World->Prop)
  (hY: ∀m x W,J m W->m.length<Maps.size D0->YieldAt F (n-1) Tryz.prog l #[ap x] W λe W'=>e= .returned aC/\J (m++[x]) W'/\KeepsWalks W W')
  (W:World) (hJ:nY W.heap.size J) (hm:W.cell? (aw Bm)=some (.map (some b))) (B:W.ownsMap Tryz.prog 3 kc b nn D0) (h0:J [] W):
  CallsIn F n Tryz.prog 266 #[.func (.yield l) #[] #[],au (aw Bm)] W λe W'=>(∃v,e= .returned v)/\ ∃ss:List Int,J ss W'/\ ∃left,ii .i64 D0 left ss/\ ∀kl,left kl=false:=by
 refine callsIn_of_wp Tryz.func266 rfl I ?_ L;simp only[Tryz.ntmps266,Pg,NJ,Oq,Nat.reduceAdd,Nat.reduceSub,Px,Pw,PM,PA,NN,NV]
 gi_wp2_with (first
  |(gi_at_range;refine wpListIn_range_own _ rfl _ 154 rfl 3 167 (int_keyed uI3) u154 _ b nn _ rfl B ?_;intro w0 f A a4)
  |gi_in)
 go_frame
 gi_loopw [3] (λ_ wr=> ∃(left:Lit->Bool) (cnt:Nat) (ss:List Int),wr.ranges Tryz.prog 3 kc b W.heap.size nn D0 left cnt/\ss.length+cnt<=Maps.size D0/\ii .i64 D0 left ss/\J ss wr)
  (λ_ wr=>wr.rangeLeft b W.heap.size)
 case atStart=>
  have V:th W w0:=by obtain⟨es,j,a,g,c0,_,_,_,_,hr,_⟩:=f;exact th.one (r:=W.heap.size) (o:= .mapIter none 0 #[] 0) (λk hk _=>A.block k hk ak) (.inr rfl) (λ_=>rfl) hr rfl ah
  exact⟨_,_,[],f,ak,ii.start .i64 D0,hJ [] W w0 none h0 A V (λr e=>by cases e)⟩
 case round=>
  obtain⟨left,cnt,ss,d,a3,hC,C⟩:=hrel
  gi_wp2_with (first
   |(gi_at_next;refine wpListIn_next_ranges _ rfl _ rfl 3 (int_keyed uI3) kc (Value.int .i64) (λv:Value=>v) (λkey kl hk=>by obtain⟨x,hx,_⟩:=Maps.keyOf_int_inv uI3 hk;exact⟨x,hx⟩) (λv y hv=>⟨v,rfl⟩) b W.heap.size nn _ _ _ rfl d ?_ ?_)
   |gi_in)
  ·intro a2 S
   gi_wp2
   go_end0
   exact⟨⟨_,rfl⟩,ss,C,left,hC,S⟩
  ·intro x c kl yd yp w2 t u P hv R h O z M a0;obtain⟨x',ex,rfl,_⟩:=Maps.keyOf_int_inv uI3 u;cases ex
   have q:th wr w2:=by obtain⟨es,j,a,g,c0,_,_,_,_,hr,_⟩:=d;obtain⟨Z,D,G,U,a1,_,_,_,_,H,_⟩:=h;exact th.one (r:=W.heap.size) (o:= .mapIter (some b) a g c0) (λk hk N=>z.block k hk (by simpa using N)) (.inl hr) (λ_=>rfl) H rfl ah
   have K:J ss w2:=hJ ss wr w2 (some W.heap.size) C z q (λr e=>by cases e;exact⟨MN _,d.iter_walk⟩);obtain⟨fn,tmps,assign,body,hy,hR⟩:=hY ss x w2 K ah;clear M q
   gi_wp2
   refine hR.mono ?_;rintro e W3 ⟨rfl,Q,Y⟩
   gi_wp2
   have i:=h.of_walks Y
   go_roundw
   case rel=>exact⟨_,t,ss++[x],i,by simp;omega,hC.step P R,Q⟩
   case measure=>rw[i.left_eq,d.left_eq];exact O
end IN
namespace IN
open Go Go.RowKit Go.Maps
noncomputable def gL:Code:=((Tryz.f297.body.bind jr).map (·.1)).getD .skip
noncomputable def kF:Code:=((Tryz.f297.body.bind jr).map (·.2)).getD .skip
noncomputable def dF(fn:FuncId)(sv:Value)(Bs D:Nat)(st:LoopState)(pend:Option Code):Loop:=
 {state:=st,pending:=pend,fn,tmps:= #[.slice none 0 0,sv,au (aw Bs),undef,.slice none 0 0,undef,sv,undef,undef,undef,undef,undef,undef],params:= #[7],assign:=gL,body:=kF,defers:=D}
structure pU(w0:World)(fn:FuncId)(sv:Value)(Bs l D:Nat)(ss:List Int)(W:World):Prop where
 box: ∃p c,At W.heap Bs [.slice p ss.length c]/\cw W.heap (Bs+1) 1 p ss.length c (ss.map (Value.int .i64))
 L:W.heap[l]? =some (.loop (dF fn sv Bs D .ready none))
 K:W.heap[D]? =some (.deferred (some []))
 only:aM [] w0.heap W.heap
 same:ct w0 W
def mO(w0:World)(fn:FuncId)(sv:Value)(Bs l D B:Nat)(hB:w0.heap.size<=B):nY B (pU w0 fn sv Bs l D):=λs W W' row h hg hf d=>by
 have a: ∀r,row=some r-> ∃o:Obj,W.heap[r]? =some o/\o.isWalk=true:=λr e=>(d r e).2;have O:=oZ hg hf
 have f: ∀b,(∃c,At W.heap b c)->b∉row.toList:=λb ⟨c,A⟩ hb=>by
  cases row with
  |none=>simp at hb
  |some r=>simp at hb;exact A.notWalk (a r rfl) hb
 obtain⟨p,c,A,H⟩:=h.box
 exact⟨⟨p,c,A.only O (f _ ⟨_,A⟩),H.onlyC O λb _ hc=>f b hc⟩,(grownBy_keeps hg a h.L rfl).trans h.L,(grownBy_keeps hg a h.K rfl).trans h.K,
  h.only.trans O (λb hb g=>by
   cases row with
   |none=>simp at hb
   |some r=>
    simp at hb;have:=(d r rfl).1;omega),h.same.trans (ct.of_grown hg)⟩
def sB3:kh Tryz.prog 3=some (1,8,#[ap 0]):=by kernel_rfl
set_option maxHeartbeats 2000000 in
def sf{F:Fence}(w0:World)(fn:FuncId)(C:F.fn fn)(sv:Value)(Bs l D:Nat)(O:Bs≠l)(u:D≠l)(M:D≠Bs)(a0:w0.heap.size<=Bs)(V:w0.heap.size<=l)
  (N:Nat) (hN:N*8<=140737488355328) (ss:List Int) (x:Int) (W:World) (h:pU w0 fn sv Bs l D ss W) (Q:ss.length<N):
  YieldAt F m Tryz.prog l #[ap x] W λe W'=>e= .returned aC/\pU w0 fn sv Bs l D (ss++[x]) W'/\KeepsWalks W W':=by
 obtain⟨p,c,A,H⟩:=h.box;refine⟨fn,#[.slice none 0 0,sv,au (aw Bs),undef,.slice none 0 0,undef,sv,ap x,undef,undef,undef,undef,undef],gL,kF,by simpa[dF]using run_yield (P:=Tryz.prog) (args:= #[ap x]) h.L rfl,roundIn_of_wpIn C ?_⟩;have hl:l<W.heap.size:=(MR.1 h.L).1;have G:=run_beginRound (P:=Tryz.prog) h.L rfl;obtain⟨W2,d⟩: ∃W2,W.putObj l (.loop {dF fn sv Bs D .ready none with state:= .busy})=W2:=⟨_,rfl⟩;rw[d]at G;have z: ∀b,(∃c,At W.heap b c)->b∉[l]:=λb ⟨c,A⟩ hb=>A.ne_obj h.L rfl (by simpa using hb);have O2:aM [l] W.heap W2.heap:=by rw[<-d];exact aM.putW _ h.L rfl rfl
 have A2:At W2.heap Bs [.slice p ss.length c]:=A.only O2 (z _ ⟨_,A⟩);have H2:=H.onlyC O2 λb _ hc=>z b hc;have i:W2.heap[D]? =some (.deferred (some [])):=by rw[<-d];exact(World.putObj_heap_other u).trans h.K
 have f:W2.heap[l]? =some (.loop {dF fn sv Bs D .ready none with state:= .busy}):=by rw[<-d];exact World.putObj_heap_same hl
 have S2:ct W W2:=by rw[<-d];exact⟨rfl,rfl,rfl⟩
 have a2:W2.cell? (aw Bs)=some (.slice p ss.length c):=A2.rd 0;have S:W2.frozen? (aw Bs)=false:=A2.fz 0 none;have A3:At (W2.alloc (.cells #[ap x] 3)).heap W2.heap.size [ap x]:=At.push _ _ _;have O3:aM [] W2.heap (W2.alloc (.cells #[ap x] 3)).heap:=aM.push_cells _ _ _;have H3:=H2.onlyC O3 λb _ _=>ak;have A3':=A2.only O3 ak;have R:=A2.lt;have n:=O3.size;clear d;simp only[gL,Tryz.f297,jr,OX,NF,Pm,Qf,Qe]
 gi_wp2_with (rw[Oper.semAt_eq _ _ _ (λc h=>by cases h)];go_simp;try go_bits)
 simp only[kF,Tryz.f297,jr,OX,NF,Pm,Qf,Qe]
 gi_wp2_with (first
  |(gi_at_builtin;refine lf _ rfl _ _ 84 rfl u84 sB3 (by decide) rfl rfl (fO (K:=λp' l' c' h'=>l'=ss.length+1/\cw h' (Bs+1) 1 p' (ss.length+1) c' (ss.map (Value.int .i64)++[ap x])/\aM (aV p) (W2.alloc (.cells #[ap x] 3)).heap h'/\ ∀b∈aV p',b∈aV p\/(W2.alloc (.cells #[ap x] 3)).heap.size<=b) H3 A3 rfl rfl ah (by simp[Value.oneCell']) ah λp' c' h' a b c=>⟨rfl,a,b,c⟩) ?_;rintro p' l' c' w3 S3 ⟨rfl,H4,O4,U⟩
    have B:Bs∉aV p:=λhb=>by have:=H2.lt Bs hb;omega
    have A4:=A3'.only O4 B;have Y:w3.cell? (aw Bs)=some (.slice p ss.length c):=A4.rd 0;have a1:w3.frozen? (aw Bs)=false:=A4.fz 0 none
    go_frame)
  |(rw[Oper.semAt_eq _ _ _ (λc h=>by cases h)];go_simp;try go_bits))
 have J:l∉aV p:=λhb=>by obtain⟨c,A⟩:=H3.cells l hb;exact A.ne_obj ((Below.heap_alloc _ _ l (MR.1 f).1).trans f) rfl rfl
 have t:D∉aV p:=λhb=>by obtain⟨c,A⟩:=H3.cells D hb;exact A.ne_obj ((Below.heap_alloc _ _ D (MR.1 i).1).trans i) rfl rfl
 have y:w3.heap[l]? =some (.loop {dF fn sv Bs D .ready none with state:= .busy}):=(O4.same l (Oh (MR.1 f).1 n) J).trans ((O3.same l (MR.1 f).1 ak).trans f);have q:w3.heap[D]? =some (.deferred (some [])):=(O4.same D (Oh (MR.1 i).1 n) t).trans ((O3.same D (MR.1 i).1 ak).trans i);obtain⟨w4,g⟩: ∃w4,w3.setCell (aw Bs) (.slice p' (ss.length+1) c')=w4:=⟨_,rfl⟩;rw[g];have O5:aM [Bs] w3.heap w4.heap:=by rw[<-g];exact aM.wr w3.heap (aw Bs) _
 have A5:At w4.heap Bs [.slice p' (ss.length+1) c']:=by rw[<-g];exact A4.wr 0 _
 have S4:ct w3 w4:=by rw[<-g];exact⟨rfl,rfl,rfl⟩
 have j:w4.heap[l]? =some (.loop {dF fn sv Bs D .ready none with state:= .busy}):=(O5.same l (MR.1 y).1 (by simpa using Ne.symm O)).trans y;have I:w4.heap[D]? =some (.deferred (some [])):=(O5.same D (MR.1 q).1 (by simpa using M)).trans q
 have H5:=H4.onlyC O5 λb hb _ v=>by simp at v;subst v;have:=H4.lt b hb;omega
 clear g;have O6:aM [l] w4.heap (w4.putObj l (.loop {{dF fn sv Bs D .ready none with state:= .busy}with state:=if(none:Option Code).isNone then .ready else .done,pending:=none})).heap:=aM.putW _ j rfl rfl;have k: ∀b,(∃c,At w4.heap b c)->b∉[l]:=λb ⟨c,A⟩ hb=>A.ne_obj j rfl (by simpa using hb)
 have OO:aM (l::Bs::aV p) W.heap (w4.putObj l (.loop {{dF fn sv Bs D .ready none with state:= .busy}with state:=if(none:Option Code).isNone then .ready else .done,pending:=none})).heap:=by refine(((((O2.mono (T:=l::Bs::aV p) (by simp+contextual)).trans O3 ak).trans O4 (by simp+contextual)).trans O5 (by simp+contextual)).trans O6 (by simp+contextual))
 refine⟨_,_,run_endRound none j,rfl,⟨⟨p',c',?_,?_⟩,World.putObj_heap_same (MR.1 j).1,(World.putObj_heap_other u).trans I,h.only.trans OO ?_,?_⟩,pI OO ?_⟩
 ·rw[MZ,Nu];exact A5.only O6 (k _ ⟨_,A5⟩)
 ·rw[MZ,Nu,No,Qv];exact H5.onlyC O6 λb _ hc=>k b hc
 ·intro b hb Z;rcases List.mem_cons.1 hb with rfl|hb
  ·omega
  ·rcases List.mem_cons.1 hb with rfl|hb
   ·omega
   ·have:=H.lt b hb;omega
 ·exact((((h.same.trans S2).trans ⟨rfl,rfl,rfl⟩).trans S3).trans S4).trans ⟨rfl,rfl,rfl⟩
 ·intro r hr o ho;rcases List.mem_cons.1 hr with rfl|hr
  ·rw[h.L]at ho;cases ho;rfl
  ·rcases List.mem_cons.1 hr with rfl|hr
   ·exact A.walkF o ho
   ·obtain⟨c,A'⟩:=H.cells r hr;exact A'.walkF o ho
end IN
namespace IN
open Go Go.RowKit Go.Maps Go.Shelf
set_option maxHeartbeats 2000000 in
def mI{F:Fence}(z:F.fn 297)(q:F.fn 266)(j:F.round=none)(hn:2<=n)(Bm b:Nat)(m:List (Int×Value))(w:World)(A:At w.heap Bm [.map (some b)])(M:bS w.heap b .i64 m)
  (B: ∀x∈m.map (·.1),(Lit.int .i64 x).wf=true) (v:m.length*8<=140737488355328):
  CallsIn F n Tryz.prog 297 #[.slice none 0 0,.func (.func 266) #[] #[au (aw Bm)]] w λe w'=> ∃(p:az) (c:Nat) (ss:List Int),e= .returned (.slice p ss.length c)/\ss.Perm (m.map (·.1))/\
   cw w'.heap (w.heap.size+1) 1 p ss.length c (ss.map (Value.int .i64))/\aM [] w.heap w'.heap/\ct w w':=by
 have h1:1<=n:=ah;have hnd:(m.map (·.1)).Nodup:=by obtain⟨_,_,_,_,h,_⟩:=M;exact h
 have eg: ∀args w,(callFunc 266 args).run Tryz.prog w= .ok (.enter 266 args) w:=enters_of Tryz.func266 (by kernel_rfl) rfl;refine callsIn_of_wp_marks Tryz.func297 rfl z ?_ j;simp only[Tryz.ntmps297,Pg,NJ,Oq,Nat.reduceAdd,Nat.reduceSub,Px,Pw,PM,PA,NN,NV]
 gi_wp2
 refine wpIn_rangeFunc ?_;intro fn u;rw[j];obtain⟨W0,d⟩: ∃W0,w.alloc (.cells #[.slice none 0 0] 84)=W0:=⟨_,rfl⟩;have o:W0.heap.size=w.heap.size+1:=by rw[<-d];simp
 have O0:aM [] w.heap W0.heap:=by rw[<-d];exact aM.push_cells _ _ _
 have A0:At W0.heap w.heap.size [.slice none 0 0]:=by rw[<-d];exact At.push _ _ _
 have S0:ct w W0:=by rw[<-d];exact⟨rfl,rfl,rfl⟩
 rw[d];obtain⟨W1,a⟩: ∃W1,(W0.alloc (.deferred (some []))).alloc (.loop (dF fn (.func (.func 266) #[] #[au (aw Bm)]) w.heap.size W0.heap.size .ready none))=W1:=⟨_,rfl⟩;have O1:aM [] W0.heap W1.heap:=by rw[<-a];exact(aM.allocW W0 rfl).trans (aM.allocW _ rfl) ak
 have H:W1.heap.size=W0.heap.size+2:=by rw[<-a];simp
 have S1:ct W0 W1:=by rw[<-a];exact⟨rfl,rfl,rfl⟩
 have OW:=O0.trans O1 ak
 have hM:pU w fn (.func (.func 266) #[] #[au (aw Bm)]) w.heap.size (W0.heap.size+1) W0.heap.size [] W1:=
  ⟨⟨none,0,A0.only O1 ak,cw.nil _ _ _⟩,
   by rw[<-a];have:=World.alloc_heap_new (W0.alloc (.deferred (some []))) (.loop (dF fn (.func (.func 266) #[] #[au (aw Bm)]) w.heap.size W0.heap.size .ready none));rwa[World.size_alloc]at this,
   by rw[<-a];exact(Below.heap_alloc _ _ _ ak).trans (World.alloc_heap_new W0 _),OW,S0.trans S1⟩
 obtain⟨D0,k,J,C⟩:=xd uI3 (M.only OW ak) B (by simp[maxLen];omega)
 refine⟨W0.heap.size+1,[{target:= .collected W0.heap.size,args:= #[]}],W1,{target:= .fn (.func 266) #[au (aw Bm)],args:= #[.func (.yield (W0.heap.size+1)) #[] #[]]},W1,266,
  #[.func (.yield (W0.heap.size+1)) #[] #[]]++ #[au (aw Bm)],W1,?_,?_,?_,?_,λ_=>h1,?_⟩
 ·rw[<-a];exact run_enterLoop_outer _ _ _ _ _
 ·simp[resolve,go_sem]
 ·intro f' l;simp[Target.leads]at l;subst l;exact q
 ·simp[invoke,go_sem,eg]
 ·refine(BH (F:=F) (n:=n-1) q j ah (W0.heap.size+1) Bm b m.length D0 (pU w fn (.func (.func 266) #[] #[au (aw Bm)]) w.heap.size (W0.heap.size+1) W0.heap.size)
   (λD x W hJ hl=>sf (F:=F) (m:=n-1-1) w fn u _ w.heap.size (W0.heap.size+1) W0.heap.size ah ah ah (MN _) ah m.length v D x W hJ ah) W1 (mO _ _ _ _ _ _ _ ah)
   ((A.only OW ak).rd 0) k hM).mono ?_
  rintro e W2 ⟨⟨v0,rfl⟩,ss,h2,left,hC,hl⟩;obtain⟨p,c,A2,H2⟩:=h2.box;have g:=run_endLoop (P:=Tryz.prog) h2.L (by simp[dF]);obtain⟨W3,f⟩: ∃W3,W2.putObj (W0.heap.size+1) (.loop {dF fn (.func (.func 266) #[] #[au (aw Bm)]) w.heap.size W0.heap.size .ready none with state:= .exhausted})=W3:=⟨_,rfl⟩;rw[f]at g;have O3:aM [W0.heap.size+1] W2.heap W3.heap:=by rw[<-f];exact aM.putW _ h2.L rfl rfl
  have S3:ct W2 W3:=by rw[<-f];exact⟨rfl,rfl,rfl⟩
  have t: ∀b,(∃c,At W2.heap b c)->b∉[W0.heap.size+1]:=λb ⟨c,A⟩ hb=>A.ne_obj h2.L rfl (by simpa using hb);have A3:=A2.only O3 (t _ ⟨_,A2⟩);have H3:=H2.onlyC O3 λb _ hc=>t b hc;have i:W3.heap[W0.heap.size]? =some (.deferred (some [])):=by rw[<-f];exact(World.putObj_heap_other ah).trans h2.K
  have G:W3.cell? (aw w.heap.size)=some (.slice p ss.length c):=A3.rd 0;have I:W3.frozen? (aw w.heap.size)=false:=A3.fz 0 none;clear f;refine⟨none,W3,g,?_⟩
  gi_wp2
  rw[<-o];refine⟨ak,.inl ⟨_,_,rfl,run_takeDeferred i,?_⟩⟩;have O4:aM [W0.heap.size] W3.heap (W3.putObj W0.heap.size (.deferred none)).heap:=aM.putW _ i rfl rfl;have hF:=H3.onlyC O4 (λb _ hc hb=>by obtain⟨c,A⟩:=hc;exact A.ne_obj i rfl (by simpa using hb));rw[<-o]at hF
  exact⟨_,results_tmp rfl _ _ _,p,c,ss,rfl,hC.perm hl hnd C,hF,
   (h2.only.trans O3 (by intro b hb y;simp at hb;omega)).trans O4 (by intro b hb y;simp at hb;omega),(h2.same.trans S3).trans ⟨rfl,rfl,rfl⟩⟩
def appSeq{h:aI}{m:List (Int×Value)}(A:At h Bm [.map (some b)])(M:bS h b .i64 m)
  (d: ∀x∈m.map (·.1),(Lit.int .i64 x).wf=true) (a:m.length*8<=140737488355328)
  (hK: ∀(p:az) (c:Nat) (h':aI) (ss:List Int),ss.Perm (m.map (·.1))->cw h' (h.size+1) 1 p ss.length c (ss.map (Value.int .i64))->aM [] h h'->K (.slice p ss.length c) h'):
  Cl 297 [.slice none 0 0,.func (.func 266) #[] #[au (aw Bm)]] h K:=λw hw=>by
 subst hw;refine((callsIn_wide (n:=2)).1 (mI (F:=Fence.wide) (n:=2) trivial trivial rfl ah Bm b m w A M d a)).mono ?_;rintro e w' ⟨p,c,ss,rfl,h1,h2,h3,h4⟩;exact⟨_,rfl,h4,hK p c _ ss h1 h2 h3⟩
end IN
def Ds: ∀n,fU g n≠0-> ∃k,k<n/\g k≠0:=by
 intro n
 induction n with
 |zero=>intro h;exact Nc rfl h
 |succ n ih=>
  intro h;unfold fU at h;by_cases q:g n=0
  ·obtain⟨k,hk,hg⟩:=ih ah;exact⟨k,ah,hg⟩
  ·exact⟨n,ah,q⟩
def held{f:Int->Int}{E:gN}(C:kV f E){a:Nat}:f (a:Int)≠0↔ ∃i,i<4/\ ∃r,r<6/\(E.ses i).there r=true/\(E.ses i).hnd r=a:=by
 rw[C a];constructor
 ·intro h;obtain⟨k,hk,hg⟩:=Ds 24 (show fU (fL E a) 24≠0 from λz=>h (by show((lS E a:Nat):Int)=0;unfold lS;omega));unfold fL at hg;split at hg
  ·next q=>exact⟨k/6,ah,k%6,ah,q.1,q.2⟩
  ·exact Nc rfl hg
 ·rintro ⟨i,hi,r,hr,ht,he⟩ z
  have:1<=fU (fL E a) 24:=pJ (k:=6*i+r) 24 ah (by unfold fL;rw[show(6*i+r)/6=i by omega,show(6*i+r)%6=r by omega,MK ⟨ht,he⟩];exact MN _)
  have:lS E a=fU (fL E a) 24:=rfl;omega
def cV(A:MA):List Nat:=if A.e=0 then A.told::A.fs.flatMap λf=> [f.a0,f.a1,f.a2,f.low]else []
def jL{A:MA}{f:Fk}(e:A.e=0)(hf:f∈A.fs)(ha:a=f.a0\/a=f.a1\/a=f.a2\/a=f.low):a∈cV A:=by unfold cV;rw[MK e];refine Nh _ (N6.2 ⟨f,hf,?_⟩);simp only[List.mem_cons,Nw,NP];exact ha
def ng{A:MA}(e:A.e=0):A.told∈cV A:=by unfold cV;rw[MK e];exact OP
def qf.back(M:qf n fo N A)(b:cY n N')(E:Ex N' N)(hr: ∀a∈cV A,isN N' a):qf n fo N' A:=by
 rcases M with⟨d,e,ne,R⟩|⟨d,z,e|e⟩
 ·exact .inl ⟨d,e,ne,R.tr (Tr.back b E) (λf hf=>⟨hr _ (jL e hf (.inl rfl)),hr _ (jL e hf (.inr (.inl rfl))),hr _ (jL e hf (.inr (.inr (.inl rfl)))),hr _ (jL e hf (.inr (.inr (.inr rfl))))⟩) (hr _ (ng e))⟩
 ·exact .inr ⟨d,z,.inl ⟨e.1,hr _ (ng e.1)⟩⟩
 ·exact .inr ⟨d,z,.inr e⟩
def qf.roots(M:qf n fo N A): ∀a∈cV A,isN N a:=λa ha=>by
 unfold cV at ha;rcases M with⟨d,e,ne,R⟩|⟨d,z,⟨e,R⟩|e⟩
 ·rw[MK e]at ha;rcases List.mem_cons.1 ha with q|q
  ·rw[q];exact R.tld
  ·obtain⟨f,hf,q⟩:=N6.1 q;have F:=(R.frs f hf).nn;simp only[List.mem_cons,Nw,NP]at q;rcases q with q|q|q|q<;>rw[q]
   ·exact F.1
   ·exact F.2.1
   ·exact F.2.2.1
   ·exact F.2.2.2
 ·rw[MK e,z]at ha;have:a=A.told:=by simpa using ha
  rw[this];exact R
 ·rw[MG ah]at ha;cases ha
def bX.back{P:PS}(H:bX n fo N P)(b:cY n N')(E:Ex N' N)(hr: ∀j∈P.jobs,∀a∈cV j.A,isN N' a):bX n fo N' P/\fM n N' P=fM n N P:=by have M: ∀j∈P.jobs,qf n fo N' j.A:=λj hj=>(H.mst j hj).1.back b E (hr j hj);have em: ∀j∈P.jobs,_:=λj hj=>(M j hj).same b E;refine⟨⟨λj hj=>⟨M j hj,by rw[<-(em j hj).1,<-(em j hj).2.1];exact(H.mst j hj).2⟩,H.at_,H.one,H.loc,H.T,H.len,H.last,H.steals⟩,?_⟩;unfold fM;rw[NG λj hj=>(em j hj).2.2]
def vk{A:MA}:(cV A).length<=4*A.fs.length+1:=by
 have h2: ∀l:List Fk,(l.flatMap λf=> [f.a0,f.a1,f.a2,f.low]).length=4*l.length:=λl=>by
  induction l with
  |nil=>rfl
  |cons a l ih=>rw[PO,MZ,ih];simp;omega
 unfold cV;split
 ·rw[NJ,h2];omega
 ·simp
def Gi(G:EG)(N':ay)(L' B':List Nat):EG:={G with N:=N',L:=L',B:=B'}
def db.retJ{h h2:aI}{G:EG}(W:db h e G)(M:Mk G.N rs keep [])(o: ∀a:Nat,1<a->G.f (a:Int)≠0->a∈rs)(m: ∀j∈G.P.jobs,∀a∈cV j.A,1<a->a∈rs)
  (S:bV h' G.E.s L' (XL G.n G.room G.fo G.gg (cu keep G.N) G.off)) (R:qq h' G.E.r G.M G.f B') (z2:h.size<=h2.size) (O:aM (G.L++G.B) h h') (F:bH G.L L' h2) (FB: ∀b∈B',b∈G.B\/(h.size<=b/\b<h2.size)):
  db h' e (Gi G (cu keep G.N) L' B')/\bD e G h (Gi G (cu keep G.N) L' B') h':=by
 have lt:=W.lt
 have DP: ∀b,dI G.E.p G.P b->b∉L':=λb hb hm=>by
  rcases F b hm with q|q
  ·exact W.W.D b hb q
  ·have:=lt b (bq.2 (.inr (.inr (.inr hb))));omega
 have DPB: ∀b∈B',¬dI G.E.p G.P b:=λb hm hb=>by
  rcases FB b hm with q|q
  ·exact(W.dB b q).2 hb
  ·have:=lt b (bq.2 (.inr (.inr (.inr hb))));omega
 have eB:e∉B':=λhm=>by
  rcases FB e hm with q|q
  ·exact W.de.2.2 q
  ·have:=lt e (bq.2 (.inl rfl));omega
 have LB': ∀b∈B',b∉L':=λb hb hm=>by
  rcases F b hm with q|q
  ·rcases FB b hb with z|z
   ·exact(W.dB b z).1 q
   ·have:=lt b (bq.2 (.inr (.inl q)));omega
  ·rcases FB b hb with z|z
   ·have:=lt b (bq.2 (.inr (.inr (.inl z))));omega
   ·omega
 have cl: ∀i x,nd G.N i=some x->keep (i+2)=true->(x.2.1<2\/keep x.2.1=true)/\(x.2.2<2\/keep x.2.2=true):=λi x hx hk=>by have:=M.cl i x hx hk;simpa using this
 have d:cY G.n G.N:=W.W.S.ok.1;obtain⟨k,l,Gt⟩:=nT d cl
 have c: ∀a,isN G.N a->(1<a->a∈rs)->isN (cu keep G.N) a:=λa ha hm=>by
  rw[l];by_cases q:a<2
  ·exact .inl q
  ·refine .inr ⟨ha,?_⟩;rcases M.ro _ (hm ah)with z|z|z
   ·omega
   ·exact z
   ·cases z
 have rg: ∀i,i<4-> ∀r,r<6->(G.E.ses i).there r=true->isN (cu keep G.N) ((G.E.ses i).hnd r):=λi hi r hr ht=>
  c _ (W.rg i hi r hr ht) λh1=>o _ h1 ((held W.C).2 ⟨i,hi,r,hr,ht,rfl⟩)
 have Ok':bX G.n G.fo (cu keep G.N) G.P:=(W.W.Ok.back k Gt (λj hj a ha=>c a ((W.W.Ok.mst j hj).1.roots a ha) (m j hj a ha))).1;refine⟨⟨⟨S,W.W.H.only O λb hb hp=> ?_,Ok',W.W.po,DP⟩,R,W.I.only O (λhm=> ?_),W.C,⟨λhm=> ?_,W.de.2.1,eB⟩,λb hb=>⟨LB' b hb,DPB b hb⟩,rg,W.r0,W.mq,W.po⟩,⟨λT hT=>O.mono λb hb _=>hT b ?_,λb hb=> ?_⟩⟩
 ·rcases Zq hb with q|q
  ·exact W.W.D b hp q
  ·exact(W.dB b q).2 hp
 ·rcases Zq hm with q|q
  ·exact W.de.1 q
  ·exact W.de.2.2 q
 ·rcases F e hm with q|q
  ·exact W.de.1 q
  ·have:=lt e (bq.2 (.inl rfl));omega
 ·rcases Zq hb with q|q
  ·exact bq.2 (.inr (.inl q))
  ·exact bq.2 (.inr (.inr (.inl q)))
 ·rcases bq.1 hb with q|q|q|q
  ·exact .inl (bq.2 (.inl q))
  ·rcases F b q with q|q
   ·exact .inl (bq.2 (.inr (.inl q)))
   ·exact .inr ah
  ·rcases FB b q with q|q
   ·exact .inl (bq.2 (.inr (.inr (.inl q))))
   ·exact .inr q.1
  ·exact .inl (bq.2 (.inr (.inr (.inr q))))
def xk:ic (ic p w a) w b=ic p w b:=by
 funext k;unfold ic;by_cases q:k=w
 ·rw[MK q,MK q]
 ·rw[MG q,MG q,MG q]
def jg:ic p w a w=a:=MK rfl
def Ax:ic p w (p w)=p:=by
 funext k;unfold ic;by_cases q:k=w
 ·rw[MK q,q]
 ·rw[MG q]
def za:Nat->List Int:=λ_=> []
def ui(rs:List Nat):List Int:=rs.map λa:Nat=>(a:Int)
def Rf.back(H:Rf lo h r M S Wn N f p c L)(H':Rf lo h' r M S Wn N' f p' c' L')(hl: ∀k,k<Wn->(L' k).length<=N):Rf lo h' r M S Wn N f p' c' L':=by
 refine⟨H'.R,H'.T,?_,H.fr,H.fx,H'.own,hl,H'.ge,H'.rS,H'.sep⟩;obtain⟨m,a,b,d⟩:=H.Mm;obtain⟨m',a',b',-⟩:=H'.Mm;refine⟨m',a',b',?_⟩;have e:(m'.map (·.1)).Nodup:=by obtain⟨_,_,_,_,q,_⟩:=a';exact q
 have sub: ∀x∈m'.map (·.1),x∈m.map (·.1):=λx hx=>by
  apply MS;intro hn;have e1:=b x;rw[dT.2 hn]at e1;have e2:=b' x;by_cases q:f x=0
  ·rw[MK q,dT]at e2;exact e2 hx
  ·rw[MG q]at e1;cases e1
 have:=e.length_le_of_subset sub;simp only[Oc]at this;omega
def DL{h h1:aI}{rs:List Nat}
  (R:Rf lo h1 r M S Wn N f p c za) (w1:1<=Wn) (hN:N+rs.length<=LB/8) (o:lo<=h1.size) (re: ∀hh,aM B h1 hh->rd hh ⟨e,2,none⟩=some (bg r)) (Ow:cw h1 h.size 1 q rs.length cq (rs.map hv)) (hB: ∀b∈B,b<h.size) (hS:S∈B) (hp: ∀k,k<Wn-> ∀b∈aV (p k),b∈B)
  (hK: ∀h2 p2 c2,Rf lo h2 r M S Wn (N+rs.length) f p2 c2 (ic za 0 (ui rs))->(∀k,k<Wn-> ∀b∈aV (p2 k),b∈B\/h1.size<=b)->aM B h1 h2->F128.wk6 (aw e) q rs.length cq h2 K):
  F128.wk2 (aw e) q rs.length cq q rs.length cq (Nat.cast rs.length:Int) 0 h1 K:=by
 have t:LB=140737488355328:=rfl;unfold F128.wk2
 have g: ∀(d i:Nat) (p2:Nat->az) (c2:Nat->Nat) (hh:aI),i+d=rs.length->Rf lo hh r M S Wn (N+i) f p2 c2 (ic za 0 (ui (rs.take i)))->(∀k,k<Wn-> ∀b∈aV (p2 k),b∈B\/h1.size<=b)->aM B h1 hh->
   F128.wL2 (d+1) (aw e) q rs.length cq q rs.length cq (Nat.cast rs.length:Int) (i:Int) hh K:=by
  intro d
  induction d with
  |zero=>
   intro i p2 c2 hh hi R2 B2 O;rw[F128.sL2];rw[MJ ah,aJ];have ei:i=rs.length:=ah;subst ei;rw[Oi]at R2;exact hK hh p2 c2 R2 B2 O
  |succ d ih=>
   intro i p2 c2 hh hi R2 B2 O;rw[F128.sL2];rw[MP ah,aO];have OwH:=Ow.only O λb eb hm=>by have:=hB b hm;have:=(Ow.lt b (by rw[eb];simp[aV])).1;omega
   obtain⟨b,eb,rr⟩:=OwH.rd (j:=i) (by simp;omega);rw[eb,aT,<-eb];simp only[aL,MF];refine⟨ah,ah,?_⟩;obtain⟨a,ha⟩: ∃a,rs[i]? =some a:=⟨_,MT ah⟩;refine aH (n:=(a:Int)) (by rw[show Int.toNat (i:Int)*1=i by omega,rr];simp[ha]) (aR (re hh O) ?_);refine Hg R2 ah (NK o O.size) (λz=>Nc ⟨ah,ah⟩ z) λk ek hk h3 p' c' R3 O3 m=>aZ rfl ?_;have k0:k=0:=ah;subst k0;have e1:ax ((i:Int)+1)=((i+1:Nat):Int):=by rw[br ah ah];omega
   rw[e1]
   have e2:ui (rs.take (i+1))=ui (rs.take i)++[(a:Int)]:=by
    unfold ui;rw[Oo,ha,No]
    rfl
   rw[xk,jg,<-e2]at R3;have z:=O.size;refine ih (i+1) _ _ h3 ah R3 (λk l b hb=> ?_) (O.trans O3 λb hb hl=> ?_)
   ·unfold ic at hb;by_cases q0:k=0
    ·rw[MK q0]at hb;rcases m b hb with y|y
     ·exact B2 0 hk b y
     ·exact .inr ah
    ·rw[MG q0]at hb;exact B2 k l b hb
   ·rcases List.mem_cons.1 hb with y|y
    ·rw[y];exact hS
    ·rcases B2 0 hk b y with w|w
     ·exact w
     ·omega
 refine⟨rs.length+1,g rs.length 0 p c h1 ah ?_ (λk hk b hb=> .inl (hp k hk b hb)) (aM.refl _ _)⟩;have:ic za 0 (ui (rs.take 0))=za:=Ax (p:=za);rw[this];exact R
def Gl{l:List Int}(R:Rf lo h r M S Wn N f p c (ic za 0 l))(w1:1<=Wn)(hN:N<=LB/8)(re: ∀hh,aM [S] h hh->rd hh ⟨e,2,none⟩=some (bg r))
  (hK: ∀h',Rf lo h' r M S Wn N f p c za->aM [S] h h'->K aE h'):F128.wk8 (aw e) (Nat.cast l.length:Int) 0 h K:=by
 have g:LB=140737488355328:=rfl;unfold F128.wk8;have n:=R.len 0 ah;rw[jg]at n
 have a: ∀(d i:Nat) (l':List Int) (hh:aI),i+d=l.length->l'.length=d->Rf lo hh r M S Wn N f p c (ic za 0 l')->aM [S] h hh->F128.wL8 (d+1) (aw e) (Nat.cast l.length:Int) (i:Int) hh K:=by
  intro d
  induction d with
  |zero=>
   intro i l' hh hi hl R2 O;rw[F128.sL8];rw[MJ ah,aJ];have:l'=[]:=Nv hl;subst this;have e1:ic za 0 []=za:=Ax (p:=za);rw[e1]at R2;exact hK hh R2 O
  |succ d ih=>
   intro i l' hh hi hl R2 O;rw[F128.sL8];rw[MP ah,aO];simp only[aL,MF];refine aR (re hh O) ?_;refine JB R2 hN (λz=> ?_) λk l2 x ek hk el h3 R3 O3=>⟨_,_,rfl,?_⟩
   ·exfalso;rcases z with z|z
    ·exact z ⟨ah,ah⟩
    ·rw[show((0:Int)).toNat=0 from rfl,jg]at z;rw[z]at hl;cases hl
   ·have k0:k=0:=ah;subst k0;rw[jg]at el;rw[xk]at R3;have e1:ax ((i:Int)+1)=((i+1:Nat):Int):=by rw[br ah ah];omega
    rw[e1];refine ih (i+1) l2 h3 ah ?_ R3 (O.trans O3 λb hb _=>hb);have:=congrArg List.length el;simp at this;omega
 exact⟨l.length+1,a l.length 0 l h ah rfl R (aM.refl _ _)⟩
def yH{lo:Nat}{h:aI}{r M S Wn N:Nat}{f:Int->Int}{p:Nat->az}{c:Nat->Nat}{L:Nat->List Int}{K:KK}{s:Nat}{Ls:List Nat}{X:SX}(Q':(Nat->Bool)->Int->Int->Prop)(H:bV h s Ls X)(R:Rf lo h r M S Wn N f p c L)(w4:Wn<=4)(hN:N<=LB/64)(hf: ∀a:Nat,f (a:Int)≠0->isN X.N a)(hL: ∀k,k<Wn-> ∀x∈L k,∃a:Nat,x=(a:Int)/\isN X.N a)
  (hK: ∀h' L' keep (rs:List Nat) (a b:Int),(∀a:Nat,a∈rs↔1<a/\(f (a:Int)≠0\/ ∃k,k<Wn/\(a:Int)∈L k))->Mk X.N rs keep []->bV h' s L' {X with N:=cu keep X.N,Q:=Q' keep}->aM Ls h h'->(∃h1:aI,h.size<=h1.size/\bH Ls L' h1)->K (.tuple #[ap a,ap b]) h'):
  Cl 175 [bg s,bg r] h K:=by
 have m:LB=140737488355328:=rfl;refine F175.spec ?_;refine wU R hN w4 λh1 q c1 Rs pw mem Ow O1=>bB rfl ?_;obtain⟨rs,d⟩: ∃rs,rs=Rs.map Int.toNat:=⟨_,rfl⟩;have pos: ∀x∈Rs,1<x:=λx hx=>((mem x).1 hx).1
 have eR:Rs.map (Value.int .u32)=rs.map hv:=by rw[d,On];refine NG λx hx=> ?_;have:=pos x hx;show aq x=aq ((x.toNat:Nat):Int);rw[Ot ah]
 have el:Rs.length=rs.length:=by rw[d];simp
 have g: ∀a:Nat,a∈rs↔1<a/\(f (a:Int)≠0\/ ∃k,k<Wn/\(a:Int)∈L k):=λa=>by
  rw[d,MY];constructor
  ·rintro ⟨x,hx,e⟩;have h1:=(mem x).1 hx;have h2:x=(a:Int):=by rw[<-e];exact(Ot (OY (Int.lt_trans (by decide) h1.1))).symm
   rw[h2]at h1;exact⟨Int.ofNat_lt.1 h1.1,h1.2⟩
  ·rintro ⟨h1,h2⟩;exact⟨(a:Int),(mem _).2 ⟨ah,h2⟩,ak⟩
 have is: ∀r∈rs,isN X.N r:=λr hr=>by
  rcases((g r).1 hr).2 with z|⟨k,hk,z⟩
  ·exact hf r z
  ·obtain⟨a,e,ha⟩:=hL k hk _ z;have:r=a:=ah;rw[this];exact ha
 have l:rs.length<=100000:=by
  have nd:Rs.Nodup:=pw.imp λh=>ah
  have j:Rs.length<=((List.range 32770).map λa:Nat=>(a:Int)).length:=nd.length_le_of_subset λx hx=>by
   have h1:=pos x hx;have h2:x.toNat∈rs:=by rw[d];exact MY.2 ⟨x,hx,rfl⟩
   have h3:=H.isN_lt (is _ h2);exact MY.2 ⟨x.toNat,NA.2 h3,Ot ah⟩
  simp only[Oc,QA]at j;omega
 have H1:=H.only0 O1;rw[el,eR]at Ow;rw[el];exact kP Q' H1 Ow is l λh2 L2 i keep Mk2 S2 O2 F2=>⟨_,_,rfl,hK h2 L2 keep rs i 0 g Mk2 S2 ((O1.mono ak).trans O2 λb hb _=>hb) ⟨h1,O1.size,F2⟩⟩
def F217.T:bi:=⟨[(5,[3,19,20,21])],[(7,[[(0,[]),(1,[]),(2,[]),(3,[]),(4,[]),(5,[]),(6,[]),(7,[]),(8,[]),(9,[]),(10,[]),(11,[]),(12,[]),(13,[]),(14,[]),(15,[]),(16,[]),(17,[]),(18,[]),(19,[]),(20,[0]),(21,[]),(22,[])]])]⟩
section
variable (n:Nat)(l:Addr)(g:az)(f d:Nat)(b:az)(a i:Nat)(j c:Int)(h:aI)(K:KK)
def F217.wL5:Prop:=Lp Tryz.f217 F217.T [1,1,1,0,1,0] n [(3,(.slice g f d)),(19,(.slice b a i)),(20,(ap j)),(21,(ap c))] h K
def F217.sL5:F217.wL5 (n+1) g f d b a i j c h K=(aK (c<j) (aY b λe=>0<=c/\c<(a:Int)/\a8 (rd h (e.add (c.toNat*1))) λe=>aY e λk=>0<=(0:Int)/\(0:Int)<(3:Int)/\aQ .u32 (rd h ((k.add 3).add ((0:Int).toNat*1))) λk=>aY e λl=>0<=(1:Int)/\(1:Int)<(3:Int)/\aQ .u32 (rd h ((l.add 3).add ((1:Int).toNat*1))) λl=>aY e λm=>0<=(2:Int)/\(2:Int)<(3:Int)/\aQ .u32 (rd h ((m.add 3).add ((2:Int).toNat*1))) λm=>aY e λe=>aQ .u32 (rd h (e.add 7)) λe=>bf h (.cells #[aq k,aq l,aq m,aq e] 46) λe k=>aF (.slice g f d)/\fC k 46 1 4 #[aq 0] g f d (some (aw e)) 4 λd e f g=>F217.wL5 n d e f b a i j (ax (c+1)) g K) (K (.slice g f d) h)):=by kernel_rfl
def F217.wk5:Prop:=(∃e,F217.wL5 e g f d b a i j c h K)
def F217.spec(H:aQ .i64 (rd h (l.add 4)) λa=>aK (a !=0) (K (.slice none 0 0) h) (aQ .u32 (rd h (l.add 2)) λa=>bf h (.cells #[aq a] 46) λa b=>cx (rd b (l.add 1)) λc d e=>F217.wk5 (some (aw a)) 1 1 c d e (d:Int) 0 b K)):Cl 217 [au l] h K:=cT F217.T Tryz.func217 H
end
def yC(f:Fk):List Nat:=[f.a0,f.a1,f.a2,f.low]
def zS{h:aI}{A:MA}(M:bF h s A)(hl:A.fs.length<=800000)(hK: ∀h' q c,cw h' h.size 1 q (cV A).length c ((cV A).map hv)->aM [] h h'->K (.slice q (cV A).length c) h'):Cl 217 [bg A.m] h K:=by
 refine F217.spec _ h K ?_;have rm:=bI M.own;simp only[aL,MF];refine aH rm.2.2.2.2 ?_;by_cases he:A.e=0
 ·have em:cV A=A.told::A.fs.flatMap yC:=by unfold cV;rw[MK he];rfl
  rw[he,show((((0:Nat):Int)) !=0)=false from rfl,aJ];refine aH rm.2.2.1 (aX λh1 A1 O1 z1=> ?_);have M1:=M.only0 O1;refine bB (bI M1.own).2.1 ?_;unfold F217.wk5
  have g: ∀(d i:Nat) (q:az) (cq:Nat) (hh:aI),i+d=A.fs.length->cw hh h.size 1 q (A.told::(A.fs.take i).flatMap yC).length cq ((A.told::(A.fs.take i).flatMap yC).map hv)->aM [] h hh->
    F217.wL5 (d+1) q (A.told::(A.fs.take i).flatMap yC).length cq A.fp A.fs.length A.fc (Nat.cast A.fs.length:Int) (i:Int) hh K:=by
   intro d
   induction d with
   |zero=>
    intro i q cq hh hi Ow O;rw[F217.sL5];rw[MJ ah,aJ];have ei:i=A.fs.length:=ah;subst ei;rw[Oi,<-em]at Ow ⊢;exact hK hh q cq Ow O
   |succ d ih=>
    intro i q cq hh hi Ow O;rw[F217.sL5];rw[MP ah,aO];have Mh:=M.only0 O;obtain⟨ad,ep,rr⟩:=Mh.win.rd (j:=i) (by simp;omega);rw[ep,aT];refine⟨ah,ah,?_⟩;obtain⟨f,hf⟩: ∃f,A.fs[i]? =some f:=⟨_,MT ah⟩;have F:=Mh.frm f (MM hf);obtain⟨-,-,p3,p4,p5,-,p7,-⟩:=a9 F;have r3:rd hh ⟨f.b,3+Int.toNat (0:Int)*1,none⟩=some (aq (f.a0:Int)):=p3;have r4:rd hh ⟨f.b,3+Int.toNat (1:Int)*1,none⟩=some (aq (f.a1:Int)):=p4;have r5:rd hh ⟨f.b,3+Int.toNat (2:Int)*1,none⟩=some (aq (f.a2:Int)):=p5;refine aR (n:=some (aw f.b)) (by rw[show Int.toNat (i:Int)*1=i by omega,rr];simp[hf,bg]) ?_;simp only[aT,aL,MF];refine⟨ah,ah,aH r3 ⟨ah,ah,aH r4 ⟨ah,ah,aH r5 (aH p7 (aX λh2 A2 O2 z2=>⟨by trivial,?_⟩))⟩⟩⟩
    have ln: ∀l:List Fk,(l.flatMap yC).length=4*l.length:=λl=>by
     induction l with
     |nil=>rfl
     |cons a l ih=>rw[PO,MZ,ih];simp[yC];omega
    have zO:=O.size;refine iq (new:=[hv f.a0,hv f.a1,hv f.a2,hv f.low]) (q:=some (aw hh.size)) (Ow.only O2 ak) rfl (fa A2 ak) rfl (by rw[NJ,ln,N7];omega) (by simp[Value.oneCell']) ah λp' c' h3 W3 O3 k=> ?_;have e2:A.fs.take (i+1)=A.fs.take i++[f]:=by rw[Oo,hf];rfl
    have e3:A.told::(A.fs.take (i+1)).flatMap yC=(A.told::(A.fs.take i).flatMap yC)++[f.a0,f.a1,f.a2,f.low]:=by rw[e2,List.flatMap_append];simp[yC]
    have e4:(A.told::(A.fs.take i).flatMap yC).length+4=(A.told::(A.fs.take (i+1)).flatMap yC).length:=by rw[e3,MZ];rfl
    have e5:(A.told::(A.fs.take i).flatMap yC).map hv++[hv f.a0,hv f.a1,hv f.a2,hv f.low]=(A.told::(A.fs.take (i+1)).flatMap yC).map hv:=by rw[e3,No];rfl
    rw[e4,e5]at W3;rw[e4,<-ep,show ax ((i:Int)+1)=((i+1:Nat):Int) by rw[wrap_i64 ah ah];omega];exact ih (i+1) p' c' h3 ah W3 ((O.trans O2 ak).trans O3 λb hb hl=>by have:=(Ow.lt b hb).1;omega)
  exact⟨A.fs.length+1,g A.fs.length 0 _ _ h1 ah ⟨rfl,.inr ⟨h.size,[],rfl,MN _,MN _,rfl,A1⟩⟩ O1⟩
 ·have em:cV A=[]:=MG he;rw[show(((A.e:Nat):Int) !=0)=true from Qs.2 ah,aO];rw[em]at hK;exact hK h none 0 (cw.nil _ _ _) (aM.refl _ _)
def zH{xs:List Int}(H:cw h lo 1 q xs.length c (xs.map (Value.int .i64)))(hn:xs.length<=12)
  (hK: ∀h' ys,List.Perm ys xs->cw h' lo 1 q xs.length c (ys.map (Value.int .i64))->aM (aV q) h h'->K aE h'):Cl 265 [.slice q xs.length c] h K:=by
 have d:LB=140737488355328:=rfl;rcases H.2 with⟨rfl,h0,h1⟩|⟨b,sp,rfl,h2,h3,h4,h5⟩
 ·exact Dw ah (hK h xs (Ql _) H (aM.refl _ _))
 ·have A:cd .i64 h b xs.length (λi=>xs.getD i 0) sp:=by
   unfold cd;rw[<-ri];exact h5
  refine F265.spec ?_;rw[bY ah ah];refine wv ah λL=>aH rfl ?_;refine F298.spec _ _ _ _ _ _ h _ ⟨1,?_⟩;rw[F298.sL2];rw[wrap_i64 ah ah,MP ah,aO];refine IN.ins76 (a:=0) A (MN _) (NS _) ah λh' g' A' R' S' O'=>⟨rfl,rfl,hK h' ((List.range xs.length).map g') ?_ ⟨ak,.inr ⟨b,sp,rfl,h2,h3,h4,?_⟩⟩ (O'.mono (by simp[aV]))⟩
  ·have:=S'.perm (n:=xs.length) (MN _);rw[tO]at this;exact this
  ·rw[<-uH];exact A'
def yr{h:aI}{P:PS}(H:bM h p s P)(hj:P.jobs.length<=12)(hf: ∀j∈P.jobs,j.A.fs.length<=800000)(u:P.last<100000000)
  (hK: ∀h' q c (rs:List Nat),(∀a,a∈rs↔ ∃j∈P.jobs,a∈cV j.A)->rs.length<=40000000->cw h' h.size 1 q rs.length c (rs.map hv)->aM [] h h'->K (.slice q rs.length c) h'):Cl 173 [bg p] h K:=by
 refine F173.spec _ h K ?_;simp only[aL,MF];refine⟨_,by rw[At.rd H.own];rfl,?_⟩;refine F216.spec _ h _ ?_;refine aX λh1 A1 O1 z1=>⟨_,rfl,?_⟩;refine F215.spec ?_;refine F264.spec ?_;have M1:=H.jbm.only O1 ak;have ids:=H.ids;refine IN.appSeq A1 M1 (λx hx=> ?_) (by simp;omega) λpi ci h2 ss hp Ow O2=>bB rfl ?_
 ·simp only[On,MY]at hx;obtain⟨j,f,e⟩:=hx;have e:(j.id:Int)=x:=e;have b1:=ids.2 j f;rw[<-e];have m1:IntKind.min .i64= -9223372036854775808:=by decide
  have m2:IntKind.max .i64=9223372036854775807:=by decide
  simp only[Lit.wf,Na,Nm];exact⟨ah,ah⟩
 have sl:ss.length=P.jobs.length:=by rw[hp.length_eq];simp
 refine bB rfl (zH (Ow.weak (lo':=h.size) ah) ah λh3 ys py OwI O3=>⟨rfl,bB rfl ?_⟩);have O03:aM [] h h3:=(O1.trans O2 ak).trans O3 λb hb hl=>by have:=(Ow.lt b hb).1;omega
 have yl:ys.length=ss.length:=py.length_eq
 have key: ∀x∈ys,∃j∈P.jobs,(j.id:Int)=x:=λx hx=>by have:=hp.mem_iff.1 (py.mem_iff.1 hx);simp only[On,MY]at this;obtain⟨j,f,e⟩:=this;exact⟨j,f,e⟩
 have t: ∀b∈aV pi,b<h3.size:=λb hb=>(OwI.lt b hb).2;unfold F173.wk3
 have k: ∀(d i:Nat) (out:List Nat) (q:az) (cq:Nat) (hh:aI),i+d=ss.length->cw hh h.size 1 q out.length cq (out.map hv)->(∀b∈aV q,h3.size<=b)->(∀a,a∈out↔ ∃x∈ys.take i,∃j∈P.jobs,(j.id:Int)=x/\a∈cV j.A)->out.length<=i*3200001->cw hh h.size 1 pi ss.length ci (ys.map (Value.int .i64))->aM [] h hh->h3.size<=hh.size->
   F173.wL3 (d+1) (aw p) q out.length cq pi ss.length ci (Nat.cast ss.length:Int) (i:Int) hh K:=by
  intro d
  induction d with
  |zero=>
   intro i out q cq hh hi Ow hq mem ln OwI O z3;rw[F173.sL3];rw[MJ ah,aJ];have ei:i=ys.length:=ah;subst ei;rw[Oi]at mem;refine hK hh q cq out (λa=> ?_) (by have:ys.length*3200001<=12*3200001:=OH _ ah;omega) Ow O;rw[mem];constructor
   ·rintro ⟨x,-,j,f,-,ha⟩;exact⟨j,f,ha⟩
   ·rintro ⟨j,f,ha⟩;exact⟨(j.id:Int),py.mem_iff.2 (hp.mem_iff.2 (by simp only[On,MY];exact⟨j,f,rfl⟩)),j,f,rfl,ha⟩
  |succ d ih=>
   intro i out q cq hh hi Ow hq mem ln OwI O z3;rw[F173.sL3];rw[MP ah,aO];obtain⟨b,eb,rr⟩:=OwI.rd (j:=i) (by simp;omega);obtain⟨x,hx⟩: ∃x,ys[i]? =some x:=⟨_,MT ah⟩;rw[eb,aT,<-eb];simp only[aL,MF];refine⟨ah,ah,aH (n:=x) (by rw[show Int.toNat (i:Int)*1=i by omega,rr];simp[hx]) ?_⟩;have Hh:=H.only0 O;obtain⟨j,f,ej⟩:=key x (MM hx);obtain⟨y,hy⟩:=OI f;have lk:=jV ids.1 hy;refine⟨_,by rw[At.rd Hh.own];rfl,?_⟩;rw[<-ej];refine c8 Hh.jbm (λe=> ?_) λx' v e=> ?_
   ·rw[lk]at e;cases e
   ·rw[lk]at e;injection e with e;subst e;refine aR (n:=some (aw j.A.m)) rfl ?_;refine zS (Hh.ma j f) (hf j f) λh7 pq B Ow7 O7=>bB rfl ?_;have e2:ys.take (i+1)=ys.take i++[x]:=by rw[Oo,hx];rfl
    have l7:=vk (A:=j.A);have l8:=hf j f;have zO:=O.size;refine iq (new:=(cV j.A).map hv) (Ow.only O7 ak) ak Ow7.row rfl (by have:i*3200001<=12*3200001:=OH _ ah;omega) (by simp[Value.oneCell']) (by have:=O7.size;omega) λp' c' h8 W8 O8 o=> ?_;have e4:out.length+(cV j.A).length=(out++cV j.A).length:=by rw[MZ]
    rw[e4,<-No]at W8;rw[e4,show ax ((i:Int)+1)=((i+1:Nat):Int) by rw[wrap_i64 ah ah];omega];refine ih (i+1) (out++cV j.A) p' c' h8 ah W8 (λb hb=> ?_) (λa=> ?_) (by rw[MZ,Ps];omega) ((OwI.only O7 ak).only O8 λb eb hm=> ?_) ((O.trans O7 ak).trans O8 λb hb hl=>by have:=(Ow.lt b hb).1;omega) (by have:=O7.size;have:=O8.size;omega)
    ·rcases o b hb with w|w
     ·exact hq b w
     ·have:=O7.size;omega
    ·rw[List.mem_append,mem,e2];constructor
     ·rintro (⟨z,hz,w⟩|w)
      ·exact⟨z,Zp (.inl hz),w⟩
      ·exact⟨x,ak,j,f,ej,w⟩
     ·rintro ⟨z,hz,j',l,ez,w⟩;rcases Zq hz with hz|hz
      ·exact .inl ⟨z,hz,j',l,ez,w⟩
      ·have:z=x:=by simpa using hz
       right;obtain⟨y',g⟩:=OI l;have i1:(P.jobs.map (·.id))[y']? =some j'.id:=by rw[Nf,g];rfl
       have i2:(P.jobs.map (·.id))[y]? =some j'.id:=by rw[Nf,hy];exact congrArg some (show j.id=j'.id by omega)
       have:=fJ ids.1 i1 i2;subst this;rw[hy]at g;injection g with g;rw[g];exact w
    ·have l1:=t b (by rw[eb];simp[aV]);have l2:=hq b hm;omega
 exact⟨ss.length+1,k ss.length 0 [] none 0 h3 ah (cw.nil _ _ _) (by simp[aV]) (λa=>ak) ak OwI O03 (MN _)⟩
def ru(W:db h e G)(hj:G.P.jobs.length<=12)(hM:G.M<=LB/1000)
  (hK: ∀h' G',sa G G'->db h' e G'->bD e G h G' h'->K aE h'):Cl 128 [bg e] h K:=by
 have u:LB=140737488355328:=rfl;refine F128.spec _ h K ?_;simp only[aL,MF];refine aR W.I.p (yr W.W.H hj (λj hm=> ?_) W.W.Ok.last λh1 q cq rs mem ln Ow O1=>bB rfl ?_)
 ·have a1:=iS (n:=G.n) (N:=G.N) j.A.fs;have a2:=(W.W.Ok.mst j hm).2.1;omega
 have lt:=W.lt;obtain⟨lo,M,S,Wn,p,c,R,w1,w4,t,eB⟩:=W.R;have R1:=R.new O1;have z1:=O1.size;have rB:G.E.r∈G.B:=by rw[eB];simp
 have MB:M∈G.B:=by rw[eB];simp
 have SB:S∈G.B:=by rw[eB];simp
 have pB: ∀k,k<Wn-> ∀b∈aV (p k),b∈G.B:=λk hk b hb=>by rw[eB];simp only[List.mem_cons,N6,NA];exact .inr (.inr (.inr ⟨k,hk,hb⟩))
 have g: ∀b∈G.B,b<h.size:=λb hb=>lt b (bq.2 (.inr (.inr (.inl hb))));have m: ∀b∈G.L,b<h.size:=λb hb=>lt b (bq.2 (.inr (.inl hb)));have I1:=W.I.only0 O1;refine DL (B:=G.B) (e:=e) R1 w1 ah ah (λhh O=>(I1.only O W.de.2.2).r) Ow g SB pB λh2 p2 c2 R2 B2 O2=> ?_;have z2:=O2.size;unfold F128.wk6;have I2:=I1.only O2 W.de.2.2;have S2:=(W.W.S.only0 O1).only O2 (λb hb=>(W.dB b hb).1);simp only[aL,MF];refine aR I2.s (aR I2.r (yH (λkeep=>QL G.n G.fo (cu keep G.N)) S2 R2 w4 ah (λa ha=> ?_) (λk hk x hx=> ?_) λh3 L3 keep ks a b d Mk3 S3 O3 F3=>⟨_,_,rfl,?_⟩))
 ·obtain⟨i,hi,q,hq,ht,he⟩:=(held W.C).1 ha;rw[<-he];exact W.rg i hi q hq ht
 ·unfold ic at hx;by_cases q0:k=0
  ·rw[MK q0]at hx;obtain⟨a,ha,ex⟩:=MY.1 hx;obtain⟨j,hj,hm⟩:=(mem a).1 ha;exact⟨a,ex.symm,(W.W.Ok.mst j hj).1.roots a hm⟩
  ·rw[MG q0]at hx;cases hx
 obtain⟨hf,zf,F3⟩:=F3;have nL: ∀{b},b∈G.B->b∉G.L:=λhb=>(W.dB _ hb).1
 have R3:=R2.only O3 (nL rB) (nL SB) (nL MB) λk hk b hb hm=>by
  rcases B2 k hk b hb with y|y
  ·exact nL y hm
  ·have:=m b hm;omega
 have I3:=I2.only O3 W.de.1;have el:(ui rs).length=rs.length:=by simp[ui]
 have fin:=Gl (K:=K) (e:=e) R3 w1 ah (λhh O=>(I3.only O (λhm=>by simp at hm;exact W.de.2.2 (hm▸SB))).r) λh4 R4 O4=> ?_
 ·rw[el]at fin;exact fin
 have z3:=O3.size;have z4:=O4.size;have o:=R2.lt;have R5:qq h4 G.E.r G.M G.f (G.E.r::M::S::(List.range Wn).flatMap λk=>aV (p2 k)):=⟨lo,M,S,Wn,p2,c2,R.back R4 (λk hk=>NS _),w1,w4,ah,rfl⟩
 have SL:S∉L3:=λhm=>by
  rcases F3 S hm with y|y
  ·exact nL SB y
  ·have:=g S SB;omega
 have S4:=S3.only O4 (λb hb hm=>by simp at hb;subst hb;exact SL hm)
 have OO:aM (G.L++G.B) h h4:=(((O1.mono (T:=G.L++G.B) ak).trans O2 λb hb _=>Zp (.inr hb)).trans O3 λb hb _=>Zp (.inl hb)).trans O4 λb hb _=>by simp at hb;subst hb;exact Zp (.inr SB)
 obtain⟨W5,T5⟩:=W.retJ (h2:=hf) Mk3 (λa a1 a2=>(d a).2 ⟨a1,.inl a2⟩) (λj hj a hm a1=>(d a).2 ⟨a1,.inr ⟨0,ah,by rw[jg];exact MY.2 ⟨a,(mem a).2 ⟨j,hj,hm⟩,rfl⟩⟩⟩) S4 R5 ah OO F3 λb hb=>by
  simp only[List.mem_cons,N6,NA]at hb;rcases hb with y|y|y|⟨k,hk,y⟩
  ·rw[y];exact .inl rB
  ·rw[y];exact .inl MB
  ·rw[y];exact .inl SB
  ·rcases B2 k hk b y with w|w
   ·exact .inl w
   ·have:=(o.2.2.2 k hk b y).2;exact .inr ⟨ah,ah⟩
 have cl: ∀i x,nd G.N i=some x->keep (i+2)=true->(x.2.1<2\/keep x.2.1=true)/\(x.2.2<2\/keep x.2.2=true):=λi x hx hk=>by have:=Mk3.cl i x hx hk;simpa using this
 have l:cY G.n G.N:=W.W.S.ok.1;have ex:Ex (cu keep G.N) G.N:=(nT l cl).2.2;exact hK h4 (Gi G (cu keep G.N) L3 _) ⟨rfl,rfl,rfl,rfl,rfl,rfl,rfl,rfl,ex,oG ex,rfl,W5.W.Ok,W5.W.S.ok.1,W5.rg⟩ W5 T5
def oe:sc λG=>G.P.jobs.length<=12:=by intro h e G K W hc hM hK;refine F80.spec ?_;have rs:rd h (aw e)=some (au (aw G.E.s)):=W.I.s;simp only[aL,MF];refine aR rs (aR rs (lC W.W.S (aH rfl ⟨trivial,trivial,trivial,aR rs ⟨rfl,oI W.W.S (aH rfl ?_)⟩⟩)));exact aS (λ_=>ru W hc hM λh1 G1 C1 W1 S1=>⟨rfl,hK h1 G1 W1 C1 S1⟩) λ_=>hK h G W (sa.refl W) bD.refl
def rP(G:EG)(fo gg:Nat->Nat)(N:ay)(L:List Nat):EG:={G with fo:=fo,gg:=gg,N:=N,L:=L}
def HL(P:cF n fo gg):FX n fo:=λj hj=>⟨(P.2 j hj).1,λi hi q=>by have a:=(P.2 i hi).2;rw[q,(P.2 j hj).2]at a;exact a.symm⟩
def db.turn{G:EG}(W:db h e G)(hj:G.P.jobs=[])(S:bV h' G.E.s L' (XL G.n G.room fo gg N' G.off))(P:cF G.n fo gg)(R: ∀k,k<4-> ∀r,r<6->(G.E.ses k).there r=true->isN N' ((G.E.ses k).hnd r))(O:aM G.L h h')(F:bH G.L L' h):
  db h' e (rP G fo gg N' L')/\bD e G h (rP G fo gg N' L') h':=by
 have lt:=W.lt
 have DP: ∀b,dI G.E.p G.P b->b∉L':=λb hb hm=>by
  rcases F b hm with q|q
  ·exact W.W.D b hb q
  ·have:=lt b (bq.2 (.inr (.inr (.inr hb))));omega
 refine⟨⟨⟨S,W.W.H.only O λb hb hp=>W.W.D b hp hb,⟨λj a=>(by have a:j∈G.P.jobs:=a;rw[hj]at a;cases a),W.W.Ok.at_,W.W.Ok.one,W.W.Ok.loc,W.W.Ok.T,W.W.Ok.len,W.W.Ok.last,W.W.Ok.steals⟩,P,DP⟩,W.R.only O (λb hb hm=>(W.dB b hm).1 hb),W.I.only O W.de.1,W.C,⟨λhm=> ?_,W.de.2.1,W.de.2.2⟩,λb hb=>⟨λhm=> ?_,(W.dB b hb).2⟩,R,W.r0,W.mq,P⟩,⟨λT hT=>O.mono λb hb _=>hT b (bq.2 (.inr (.inl hb))),λb hb=> ?_⟩⟩
 ·rcases F e hm with q|q
  ·exact W.de.1 q
  ·have:=lt e (bq.2 (.inl rfl));omega
 ·rcases F b hm with q|q
  ·exact(W.dB b hb).1 q
  ·have:=lt b (bq.2 (.inr (.inr (.inl hb))));omega
 ·rcases bq.1 hb with q|q|q|q
  ·exact .inl (bq.2 (.inl q))
  ·rcases F b q with q|q
   ·exact .inl (bq.2 (.inr (.inl q)))
   ·exact .inr q
  ·exact .inl (bq.2 (.inr (.inr (.inl q))))
  ·exact .inl (bq.2 (.inr (.inr (.inr q))))
def yh{h:aI}{e:Nat}{G:EG}{K:KK}(W:db h e G)(hj:G.P.jobs=[])(hM:G.M<=LB/1000)
  (hK: ∀h' fo gg N' L',db h' e (rP G fo gg N' L')->bD e G h (rP G fo gg N' L') h'->K aE h'):Cl 171 [bg e] h K:=by
 have u:LB=140737488355328:=rfl;refine F171.spec ?_;simp only[aL,MF];refine aR W.I.s (aR W.I.r ?_);have W0:=W;obtain⟨lo,M,S,Wn,p,c,R,w1,w4,hl,eB⟩:=W.R;refine wU R ah w4 λh1 q o Rs pw mem Ow O1=>bB rfl ⟨by trivial,by trivial,by trivial,?_⟩;obtain⟨rs,d⟩: ∃rs,rs=Rs.map Int.toNat:=⟨_,rfl⟩;have pos: ∀x∈Rs,1<x:=λx hx=>((mem x).1 hx).1
 have eR:Rs.map (Value.int .u32)=rs.map hv:=by rw[d,On];refine NG λx hx=> ?_;have:=pos x hx;show aq x=aq ((x.toNat:Nat):Int);rw[Ot ah]
 have el:Rs.length=rs.length:=by rw[d];simp
 have g: ∀a:Nat,a∈rs↔1<a/\G.f (a:Int)≠0:=λa=>by
  rw[d,MY];constructor
  ·rintro ⟨x,hx,e⟩;have h1:=(mem x).1 hx;have h2:x=(a:Int):=by rw[<-e];exact(Ot (OY (Int.lt_trans (by decide) h1.1))).symm
   rw[h2]at h1;refine⟨Int.ofNat_lt.1 h1.1,?_⟩;rcases h1.2 with z|⟨k,-,z⟩
   ·exact z
   ·cases z
  ·rintro ⟨h1,h2⟩;exact⟨(a:Int),(mem _).2 ⟨ah,.inl h2⟩,ak⟩
 have is: ∀r∈rs,isN G.N r:=λr hr=>by obtain⟨i,hi,q,hq,ht,he⟩:=(held W0.C).1 ((g r).1 hr).2;rw[<-he];exact W0.rg i hi q hq ht
 have j:rs.length<=100000:=by
  have nd:Rs.Nodup:=pw.imp λh=>ah
  have l:Rs.length<=((List.range 32770).map λa:Nat=>(a:Int)).length:=nd.length_le_of_subset λx hx=>by
   have h1:=pos x hx;have h2:x.toNat∈rs:=by rw[d];exact MY.2 ⟨x,hx,rfl⟩
   have h3:=W0.W.S.isN_lt (is _ h2);exact MY.2 ⟨x.toNat,NA.2 h3,Ot ah⟩
  simp only[Oc,QA]at l;omega
 rw[eR]at Ow;rw[el]at Ow ⊢;have W1:=W0.only0 O1;refine aR W1.I.s ⟨by trivial,?_⟩
 have Sf:nK h1 G.E.s G.n G.room G.fo G.gg G.off G.N G.L rs (λr x=>sm G.n G.fo G.N r x) h.size q o:=by refine⟨W1.W.S,W1.po,Ow,λy hy hm=> ?_,λr hr=>⟨is r hr,λx=>rfl⟩,j⟩;have:=(Ow.lt y hy).1;have:=W0.W.S.lt y hm;omega
 refine IG Sf λh2 L2 t m N2 a b er S2 O2 F2=>⟨_,_,_,rfl,?_⟩
 have SR: ∀k,k<4-> ∀r,r<6->(G.E.ses k).there r=true->isN N2 ((G.E.ses k).hnd r):=λk hk r hr ht=>by
  by_cases z:(G.E.ses k).hnd r<2
  ·exact .inl z
  ·exact(S2.ir _ ((g _).2 ⟨ah,(held W0.C).2 ⟨k,hk,r,hr,ht,rfl⟩⟩)).1
 obtain⟨W2,T2⟩:=W1.turn hj S2.S S2.P SR O2 F2;exact hK h2 t m N2 L2 W2 ((bD.only0 O1).trans T2)
def Di(W:db h e G)(hi:i<4)(hM:G.M<=LB/1000)(ha:G.E.ans<1000000000)(hj: ¬tz G.E->G.P.jobs=[])(hW:tz G.E-> ∀h',aM [] h h'->K aB h')
  (hK: ∀h' fo gg N' L',¬tz G.E->db h' e (gR (rP G fo gg N' L') i 0 0)->bD e G h (gR (rP G fo gg N' L') i 0 0) h'->K aC h'):Cl 126 [bg e,kC e i] h K:=by
 refine F126.spec ?_;refine vX W.I (λa h1 O1=>aZ rfl (by rw[aO];exact hW a h1 O1)) λa h1 O1=>aZ rfl ?_;rw[aJ];have W1:=W.only0 O1;refine yh W1 (hj a) hM λh2 fo gg N2 L2 W2 S2=>⟨rfl,?_⟩;exact dJ (n:=0) W2 hi ha λh3 W3 S3=>⟨rfl,hK h3 fo gg N2 L2 a W3 (((bD.only0 O1).trans S2).trans S3)⟩
def Gg(W:db h e G)(hi:i<4)(hj:G.P.jobs.length<=12)(hM:G.M<=LB/1000)(ha:G.E.ans<1000000000)
  (hK: ∀h' G1,sa G G1->db h' e (gR G1 i 0 0)->bD e G h (gR G1 i 0 0) h'->K aC h'):Cl 125 [bg e,kC e i] h K:=by
 refine F125.spec ?_;refine ru W hj hM λh1 G1 C1 W1 S1=>⟨rfl,?_⟩;exact dJ (n:=0) W1 hi (by rw[C1.E];exact ha) λh2 W2 S2=>⟨rfl,hK h2 G1 C1 W2 (S1.trans S2)⟩
def qE(G:EG)(x:gl):Nat:=if x.cal.kind=4 then tA G.n G.fo G.N (x.hnd x.cal.a.toNat)else if x.hnd x.cal.a.toNat=x.hnd x.cal.b.toNat then 1 else 0
def zb(W:db h e G)(hi:i<4)(ha:G.E.ans<1000000000)(hk:(G.E.ses i).cal.kind=4\/(G.E.ses i).cal.kind=5)(ok:nv (G.E.ses i) (G.E.ses i).cal) 
  (hK: ∀h',db h' e (gR G i 0 (qE G (G.E.ses i)))->bD e G h (gR G i 0 (qE G (G.E.ses i))) h'->K aC h'):Cl 124 [bg e,kC e i] h K:=by
 refine F124.spec ?_;have oa:kH (G.E.ses i).cal.a/\(G.E.ses i).there (G.E.ses i).cal.a.toNat=true:=ok _ (by unfold kg;rcases hk with k|k<;>rw[k]<;>simp);have a6:(G.E.ses i).cal.a.toNat<6:=by have:=oa.1;unfold kH at this;omega
 refine F169.spec ?_;simp only[aL,MF];refine aH (W.I.ca hi ah) ⟨oa.1.1,oa.1.2,aH (W.I.hnd hi a6 ah) (aH (W.I.kind hi ah) ?_)⟩;rcases hk with k|k
 ·rw[k,show((4:Int)==4)=true from rfl,aO];refine aR W.I.s ?_;refine El (X:=XL G.n G.room G.fo G.gg G.N G.off) (HL W.po) W.W.S (W.rg i hi _ a6 oa.2) λh1 O1=>⟨_,_,rfl,aH rfl ?_⟩;have W1:=W.only0 O1;have en:qE G (G.E.ses i)=tA G.n G.fo G.N ((G.E.ses i).hnd (G.E.ses i).cal.a.toNat):=MK k;rw[en]at hK;exact dJ W1 hi ha λh2 W2 S2=>⟨rfl,hK h2 W2 ((bD.only0 O1).trans S2)⟩
 ·have ob:kH (G.E.ses i).cal.b/\(G.E.ses i).there (G.E.ses i).cal.b.toNat=true:=ok _ (by unfold kg;rw[k];simp);have b6:(G.E.ses i).cal.b.toNat<6:=by have:=ob.1;unfold kH at this;omega
  rw[k,show((5:Int)==4)=false from rfl,aJ];refine aH (W.I.cb hi ah) ⟨ob.1.1,ob.1.2,aH (W.I.hnd hi b6 ah) ?_⟩;have en:qE G (G.E.ses i)=if(G.E.ses i).hnd (G.E.ses i).cal.a.toNat=(G.E.ses i).hnd (G.E.ses i).cal.b.toNat then 1 else 0:=MG ah
  rw[en]at hK;refine aS (λq=> ?_) λq=> ?_
  ·have q:(G.E.ses i).hnd (G.E.ses i).cal.a.toNat=(G.E.ses i).hnd (G.E.ses i).cal.b.toNat:=by
    have:=Qp q;omega
   rw[MK q]at hK;exact aH (n:=1) rfl (dJ (n:=1) W hi ha λh2 W2 S2=>⟨rfl,hK h2 W2 S2⟩)
  ·have q: ¬(G.E.ses i).hnd (G.E.ses i).cal.a.toNat=(G.E.ses i).hnd (G.E.ses i).cal.b.toNat:=λz=>by
    rw[z]at q;simp at q
   rw[MG q]at hK;exact aH (n:=0) rfl (dJ (n:=0) W hi ha λh2 W2 S2=>⟨rfl,hK h2 W2 S2⟩)
def wt(x:gl):Nat:=if x.pend=true then(if x.cal.kind=3/\x.job=0 then 131004 else 1)else 0
def frs(x:gl):Nat:=if x.pend=true/\x.cal.kind=3/\x.job=0 then 1 else 0
def yZ(x:gl):Nat:=if x.pend=true then 1 else 0
def kE(G:EG):Nat:=fU (λi=>wt (G.E.ses i)) 4+fM G.n G.N G.P
structure GI(t nw:Nat)(h:aI)(e:Nat)(G:EG):Prop where
 W:db h e G
 ok: ∀i,i<4->(G.E.ses i).pend=true->fX G.n (G.E.ses i) (G.E.ses i).cal=0
 jb: ∀i,i<4->(G.E.ses i).pend=true->(G.E.ses i).job≠0->(G.E.ses i).cal.kind=3/\ ∃j∈G.P.jobs,j.id=(G.E.ses i).job
 js: ∀j∈G.P.jobs,∃i,i<4/\(G.E.ses i).pend=true/\(G.E.ses i).job=j.id
 un: ∀i,i<4-> ∀k,k<4->(G.E.ses i).pend=true->(G.E.ses k).pend=true->(G.E.ses i).job=(G.E.ses k).job->(G.E.ses i).job≠0->i=k
 bl:G.P.last+fU (λi=>frs (G.E.ses i)) 4<=t
 ba:G.E.ans+fU (λi=>yZ (G.E.ses i)) 4<=t
 bm:G.M<=2*G.E.ans
 bt:t<=1000000
 ws:G.P.ws.length=nw
def Fm(G:EG)(i:Nat):Prop:=((G.E.ses i).cal.kind=8/\tz G.E)\/((G.E.ses i).cal.kind=3/\(G.E.ses i).job=0/\AX G.E)\/((G.E.ses i).cal.kind=3/\(G.E.ses i).job≠0/\ ∃j∈G.P.jobs,j.id=(G.E.ses i).job/\j.A.done=false)
def oL{G G1:EG}(C:sa G G1):fM G1.n G1.N G1.P=fM G.n G.N G.P:=by
 have em: ∀j∈G1.P.jobs,hZ G1.n G.N j.A=hZ G1.n G1.N j.A:=λj hj=>((C.pk.mst j hj).1.same C.ok C.ex).2.2
 have e:fM G1.n G.N G1.P=fM G1.n G1.N G1.P:=by unfold fM;rw[NG em]
 rw[<-e,C.n,C.P]
def oU{α:Type}(f:α->Nat)(p:α->Bool): ∀l:List α,((l.filter p).map f).sum<=(l.map f).sum
 | []=>MN _
 |a::l=>by have:=oU f p l;rw[Po];split<;>simp<;>omega
def HR{P:PS}(H:bX n fo N P)(h4:P.jobs.length<=4):fM n N P<=4*131002:=by
 have h1:=fQ (locs P.ws) (P.jobs.map λj=>(j.id:Int)) H.one λx hx=>by obtain⟨j,hj,e,-⟩:=H.at_ x hx;exact MY.2 ⟨j,hj,e.symm⟩
 rw[Oc]at h1
 have ql: ∀l:List Wk,qlen l<=(locs l).length:=λl=>by
  induction l with
  |nil=>exact MN _
  |cons k l ih=>
   have e1:qlen (k::l)=k.q.length+qlen l:=by simp[qlen]
   have e2:(locs (k::l)).length=k.loc.length+(locs l).length:=by simp[locs]
   have:k.q.length<=k.loc.length:=by unfold Wk.loc;simp
   omega
 have h2:=ql P.ws
 have h3: ∀l:List Jb,(∀j∈l,hZ n N j.A<=131001)->(l.map λj=>hZ n N j.A).sum<=l.length*131001:=λl hl=>by
  induction l with
  |nil=>simp
  |cons a l ih=>
   have:=hl a OP;have:=ih λj hj=>hl j (Nh _ hj);simp only[Nk,Pp,NJ];omega
 have b:=h3 P.jobs λj hj=>by have:=(H.mst j hj).2.2;unfold hZ;split<;>omega
 unfold fM;have:P.jobs.length*131001<=4*131001:=OH _ h4;omega
def ya(h:cg x≠0): ∃o:Nat,x=(o:Int)/\(o=1\/o=2\/o=3\/o=4\/o=5\/o=6\/o=7\/o=8\/o=9\/o=10):=by
 unfold cg at h;refine⟨x.toNat,?_⟩;split at h
 ·omega
 split at h
 ·omega
 split at h
 ·omega
 ·exact Nc rfl h
def gU{i:Nat}{f:gl->Nat}{E E':gN}{x:gl}(hi:i<4)(es:E'.ses=i4 E.ses i x):fU (λi=>f (E'.ses i)) 4+f (E.ses i)=fU (λi=>f (E.ses i)) 4+f x:=by have:=sd (g:=λi=>f (E.ses i)) (g':=λi=>f (E'.ses i)) (k:=i) (λj hj=>by show f (E'.ses j)=f (E.ses j);rw[es,cO hj]) 4 hi;rw[show f (E'.ses i)=f x by rw[es,dt]]at this;exact this
def GI.j4(I:GI t nw h e G):G.P.jobs.length<=4:=by
 have:=I.W.W.H.ids.1.length_le_of_subset (l₂:=(List.range 4).map λi=>(G.E.ses i).job) λx hx=>by obtain⟨j,hj,rfl⟩:=MY.1 hx;obtain⟨i,hi,-,q⟩:=I.js j hj;exact MY.2 ⟨i,NA.2 hi,q⟩
 simpa using this
def GI.only0(I:GI t nw h e G)(O:aM [] h h'):GI t nw h' e G:=⟨I.W.only0 O,I.ok,I.jb,I.js,I.un,I.bl,I.ba,I.bm,I.bt,I.ws⟩
def GI.bnd(I:GI t nw h e G):kE G<=1048064:=by
 have h1:=HR I.W.W.Ok I.j4
 have h2: ∀i,wt (G.E.ses i)<=131004:=λi=>by
  unfold wt
  repeat' split
  all_goals omega
 have:fU (λi=>wt (G.E.ses i)) 4=0+wt (G.E.ses 0)+wt (G.E.ses 1)+wt (G.E.ses 2)+wt (G.E.ses 3):=rfl;have:=h2 0;have:=h2 1;have:=h2 2;have:=h2 3;unfold kE;omega
def GI.ans{G G':EG}(I:GI t nw h e G)(hi:i<4)(hp:(G.E.ses i).pend=true)(W':db h' e G'){x':gl}(es:G'.E.ses=i4 G.E.ses i x')(xp:x'.pend=false)(en:G'.n=G.n)(ea:G'.E.ans=G.E.ans+1)(em:G'.M<=G.M+2)(el:G'.P.last=G.P.last)(ew:G'.P.ws.length=G.P.ws.length)
  (ej: ∀j,j∈G'.P.jobs↔j∈G.P.jobs/\j.id≠(G.E.ses i).job) (ep:fM G'.n G'.N G'.P<=fM G.n G.N G.P):GI t nw h' e G'/\kE G'+1<=kE G:=by
 have sk: ∀{k},k≠i->G'.E.ses k=G.E.ses k:=λhk=>by rw[es,cO hk]
 have si:G'.E.ses i=x':=by rw[es,dt]
 have ne: ∀{k},(G'.E.ses k).pend=true->k≠i:=λhk q=>by rw[q,si,xp]at hk;cases hk
 have s1:=gU (f:=wt) hi es;have s2:=gU (f:=frs) hi es;have s3:=gU (f:=yZ) hi es
 have w1:1<=wt (G.E.ses i):=by unfold wt;rw[MK hp];split<;>omega
 have w2:wt x'=0:=by unfold wt;rw[xp];rfl
 have w3:frs x'=0:=by unfold frs;rw[xp];simp
 have w4:yZ x'=0:=by unfold yZ;rw[xp];rfl
 have w5:yZ (G.E.ses i)=1:=by unfold yZ;rw[MK hp]
 refine⟨⟨W',λk hk q=> ?_,λk hk q z=> ?_,λj hj=> ?_,λk hk m hm q1 q2 q3 q4=> ?_,?_,?_,?_,I.bt,ew.trans I.ws⟩,?_⟩
 ·have n1:=ne q;rw[sk n1,en];rw[sk n1]at q;exact I.ok k hk q
 ·have n1:=ne q;rw[sk n1]at q z ⊢;obtain⟨a,j,hj,b⟩:=I.jb k hk q z;refine⟨a,j,(ej j).2 ⟨hj,λy=>n1 (I.un k hk i hi q hp ah z)⟩,b⟩
 ·obtain⟨h1,h2⟩:=(ej j).1 hj;obtain⟨k,hk,a,b⟩:=I.js j h1;have n1:k≠i:=λy=>h2 (by rw[<-b,y]);exact⟨k,hk,by rw[sk n1];exact a,by rw[sk n1];exact b⟩
 ·have n1:=ne q1;have n2:=ne q2;rw[sk n1]at q1 q3 q4;rw[sk n2]at q2 q3;exact I.un k hk m hm q1 q2 q3 q4
 ·have:=I.bl;omega
 ·have:=I.ba;omega
 ·have:=I.bm;omega
 ·unfold kE;omega
def Mt(I:GI t nw h e G){j:Jb}(hj:j∈G.P.jobs)(h0:(G.E.ses i).job=0):j.id≠(G.E.ses i).job:=by have:=(I.W.W.H.ids.2 j hj).1;omega
def jv{E:gN}:((E.put i x).put i (iF ((E.put i x).ses i) er n)).ses=i4 E.ses i (iF x er n):=by show i4 (i4 E.ses i x) i (iF (i4 E.ses i x i) er n)=_;rw[nN,dt]
def Hz(I:GI t nw h e G)(hi:i<4)(hp:(G.E.ses i).pend=true)
  (hK: ∀b h' G',GI t nw h' e G'->bD e G h G' h'->((G'=G/\Fm G i)\/kE G'+1<=kE G)->K (aD b) h'):Cl (f9 (G.E.ses i).cal.kind) [bg e,kC e i] h K:=by
 have F:LB=140737488355328:=rfl;have W:=I.W;have rf:=I.ok i hi hp;obtain⟨z1,z2,z3,z4⟩:=mG rf;have bt:=I.bt;have ba:=I.ba;have bl:=I.bl;have bm:=I.bm;have j4:=I.j4;have hA:G.E.ans<1000000000:=ah;have hM:G.M<=LB/1000:=ah;have J0:(G.E.ses i).cal.kind≠3->(G.E.ses i).job=0:=λk=>MS λq=>k (I.jb i hi hp q).1
 have same: ∀{G1:EG},G1.P=G.P->(G.E.ses i).job=0-> ∀j,j∈G1.P.jobs↔j∈G.P.jobs/\j.id≠(G.E.ses i).job:=λe0 q j=>by rw[e0];exact⟨λhj=>⟨hj,Mt I hj q⟩,λhj=>hj.1⟩
 have hk:(G.E.ses i).cal.kind=1\/(G.E.ses i).cal.kind=2\/(G.E.ses i).cal.kind=3\/(G.E.ses i).cal.kind=4\/(G.E.ses i).cal.kind=5\/(G.E.ses i).cal.kind=6\/(G.E.ses i).cal.kind=7\/(G.E.ses i).cal.kind=8:=ah
 have lay:((G.E.ses i).cal.kind=1\/(G.E.ses i).cal.kind=2\/(G.E.ses i).cal.kind=6)->Cl 123 [bg e,kC e i] h K:=λk=>by
  have q0:=J0 ah;refine CD oe W hi ah ah hA k rf λh1 G1 W1 S1 L=> ?_;obtain⟨d,d6,ed,⟨-,G2,er,⟨G3,N2,L2,v,u,f',C,R,ee,e1⟩,e2⟩|⟨-,f',e2⟩|⟨-,f',e2⟩⟩:=L
  ·have E2:=(Be R).1;have hE:=C.E;have D:=C.M;have ph:fM G3.n N2 G3.P=fM G.n G.N G.P:=(C.pk.ext C.ok E2).2.trans (oL C)
   have r: ∃x',x'.pend=false/\G1.E.ses=i4 G.E.ses i x'/\G1.E.ans=G.E.ans+1/\G1.M<=G.M+2/\G1.P=G.P/\G1.n=G.n/\fM G1.n G1.N G1.P=fM G.n G.N G.P:=by
    by_cases q:u=0
    ·rw[MK q]at e1;subst e1 e2;refine⟨iF (setS (G.E.ses i) d v) er 0,rfl,?_,by rw[<-hE];rfl,by show G3.M+2<=_;omega,C.P,C.n,ph⟩;rw[<-hE];exact jv
    ·rw[MG q]at e1;subst e1 e2;refine⟨iF (G.E.ses i) er 0,rfl,by rw[<-hE];rfl,by rw[<-hE];rfl,by show G3.M<=_;omega,C.P,C.n,ph⟩
   obtain⟨x',r1,r2,r3,r4,r5,r6,r7⟩:=r;obtain⟨I1,P1⟩:=I.ans hi hp W1 r2 r1 r6 r3 r4 (by rw[r5]) (by rw[r5]) (same r5 q0) (Nat.le_of_eq r7);exact hK _ _ _ I1 S1 (.inr P1)
  ·subst e2;obtain⟨I1,P1⟩:=I.ans hi hp W1 (x':=iF (setS (G.E.ses i) d (min 1 (G.E.ses i).cal.mask)) 0 0) jv rfl rfl rfl (MN _) rfl rfl (same rfl q0) (MN _);exact hK _ _ _ I1 S1 (.inr P1)
  ·subst e2;obtain⟨I1,P1⟩:=I.ans hi hp W1 (x':=iF (iH (G.E.ses i) d) 0 0) jv rfl rfl rfl (Nat.le_succ _) rfl rfl (same rfl q0) (MN _);exact hK _ _ _ I1 S1 (.inr P1)
 have o:((G.E.ses i).cal.kind=4\/(G.E.ses i).cal.kind=5)->Cl 124 [bg e,kC e i] h K:=λk=>by refine zb W hi hA k z3 λh1 W1 S1=> ?_;obtain⟨I1,P1⟩:=I.ans hi hp W1 (x':=iF (G.E.ses i) 0 (qE G (G.E.ses i))) rfl rfl rfl rfl (Pn _ _) rfl rfl (same rfl (J0 ah)) (MN _);exact hK _ _ _ I1 S1 (.inr P1)
 rcases hk with k|k|k|k|k|k|k|k
 ·rw[show f9 (G.E.ses i).cal.kind=123 by rw[k];rfl];exact lay (.inl k)
 ·rw[show f9 (G.E.ses i).cal.kind=123 by rw[k];rfl];exact lay (.inr (.inl k))
 ·rw[show f9 (G.E.ses i).cal.kind=127 by rw[k];rfl];obtain⟨op,eo,B⟩:=ya ((pZ z4).1 k);by_cases q0:(G.E.ses i).job=0
  ·refine F127.spec ?_;simp only[aL,MF];refine aH (W.I.job hi ah) ?_;rw[q0,show(((0:Nat):Int)==0)=true from rfl,aO];have f1:frs (G.E.ses i)=1:=by unfold frs;rw[MK ⟨hp,k,q0⟩]
   have f2:wt (G.E.ses i)=131004:=by unfold wt;rw[MK hp,MK ⟨k,q0⟩]
   have lt:G.P.last+1<=t:=by have:=pJ (g:=λi=>frs (G.E.ses i)) (k:=i) 4 hi (by show 1<=frs (G.E.ses i);omega);omega
   refine wH W hi k eo B z3 ah hA (λa h1 O1=>aZ rfl (hK _ _ _ (I.only0 O1) (bD.only0 O1) (.inl ⟨rfl,.inr (.inl ⟨k,q0,a⟩)⟩))) (λh1 er _ W1 S1=>aZ rfl ?_) λh1 ws A W1 S1 wl dn ql=>aZ rfl ?_
   ·obtain⟨I1,P1⟩:=I.ans hi hp W1 (x':=iF (G.E.ses i) (er:Int) 0) rfl rfl rfl rfl (Pn _ _) rfl rfl (same rfl q0) (MN _);exact hK _ _ _ I1 S1 (.inr P1)
   ·have es:(wy G i ws A).E.ses=i4 G.E.ses i (iC (G.E.ses i) (G.P.last+1)):=rfl;have sk: ∀{m},m≠i->(wy G i ws A).E.ses m=G.E.ses m:=λhm=>by rw[es,cO hm]
    have si:(wy G i ws A).E.ses i=iC (G.E.ses i) (G.P.last+1):=by rw[es,dt]
    have s1:=gU (f:=wt) hi es;have s2:=gU (f:=frs) hi es;have s3:=gU (f:=yZ) hi es
    have g1:wt (iC (G.E.ses i) (G.P.last+1))=1:=by unfold wt;rw[MK (show(iC (G.E.ses i) (G.P.last+1)).pend=true from hp),MG];exact λy=>Nc y.2 (Nat.succ_ne_zero _)
    have g2:frs (iC (G.E.ses i) (G.P.last+1))=0:=by unfold frs;rw[MG];exact λy=>Nc y.2.2 (Nat.succ_ne_zero _)
    have g3:yZ (iC (G.E.ses i) (G.P.last+1))=yZ (G.E.ses i):=rfl
    have old: ∀m,m<4->(G.E.ses m).pend=true->(G.E.ses m).job≠G.P.last+1:=λm hm pm y=>by obtain⟨-,j,hj,ej⟩:=I.jb m hm pm ah;have:=(W.W.H.ids.2 j hj).2;omega
    have nb:=(W1.W.Ok.mst ⟨G.P.last+1,A⟩ (by show _∈G.P.jobs++[_];simp)).2.2
    have ph:fM G.n G.N (wy G i ws A).P<=fM G.n G.N G.P+131002:=by
     unfold fM;show((G.P.jobs++[(⟨G.P.last+1,A⟩:Jb)]).map λj=>hZ G.n G.N j.A).sum+qlen ws<=_
     have:hZ G.n G.N A<=131001:=by have nb:iT G.n G.N A.fs<=131000:=nb;unfold hZ;split<;>omega
     simp only[No,Nk,OQ,List.sum_append,Pp,List.sum_nil];omega
    refine hK _ _ _ ⟨W1,λm hm q=> ?_,λm hm q z=> ?_,λj hj=> ?_,λm hm m' l q1 q2 q3 q4=> ?_,?_,?_,bm,bt,wl.trans I.ws⟩ S1 (.inr ?_)
    ·by_cases y:m=i
     ·subst y;rw[si];exact rf
     ·rw[sk y]at q ⊢;exact I.ok m hm q
    ·by_cases y:m=i
     ·subst y;rw[si];exact⟨k,⟨G.P.last+1,A⟩,by show _∈G.P.jobs++[_];simp,rfl⟩
     ·rw[sk y]at q z ⊢;obtain⟨a,j,hj,b⟩:=I.jb m hm q z;exact⟨a,j,Zp (.inl hj),b⟩
    ·rcases Zq hj with hj|hj
     ·obtain⟨m,hm,a,b⟩:=I.js j hj;have y:m≠i:=λy=>by rw[y,q0]at b;have:=(W.W.H.ids.2 j hj).1;omega
      exact⟨m,hm,by rw[sk y];exact a,by rw[sk y];exact b⟩
     ·have:j=⟨G.P.last+1,A⟩:=by simpa using hj
      subst this;exact⟨i,hi,by rw[si];exact hp,by rw[si];rfl⟩
    ·by_cases y:m=i
     ·by_cases y':m'=i
      ·omega
      ·subst y;rw[si]at q3;rw[sk y']at q2 q3;exact Nc q3.symm (old m' l q2)
     ·by_cases y':m'=i
      ·subst y';rw[si]at q3;rw[sk y]at q1 q3;exact Nc q3 (old m hm q1)
      ·rw[sk y]at q1 q3 q4;rw[sk y']at q2 q3;exact I.un m hm m' l q1 q2 q3 q4
    ·show G.P.last+1+_<=t;omega
    ·show G.E.ans+_<=t;omega
    ·unfold kE;show _+fM G.n G.N (wy G i ws A).P+1<=_;omega
  ·obtain⟨-,j,hj,ej⟩:=I.jb i hi hp q0;obtain⟨x,hx⟩:=OI hj;by_cases dn:j.A.done=true
   ·have hd:=z2 (by unfold xX;omega);obtain⟨d,ed⟩: ∃d:Nat,(G.E.ses i).cal.dst=(d:Int):=⟨(G.E.ses i).cal.dst.toNat,by unfold kH at hd;omega⟩;have d6:d<6:=by unfold kH at hd;omega
    have M:=(W.W.Ok.mst j hj).1
    have hz:(j.A.e=0\/j.A.e=60)/\(j.A.e=0->isN G.N j.A.told):=by
     rcases M with⟨a,-⟩|⟨-,-,a⟩
     ·rw[dn]at a;cases a
     ·exact⟨a.imp (λz=>z.1) id,λz=>(a.resolve_right ah).2⟩
    refine vA W hi hx ej q0 dn hz.1 hz.2 d6 ed ah hA λh1 f1 W1 S1=> ?_
    have fj: ∀(G1:EG),G1.P=G.P->(∀y,y∈(wA G1 (G.E.ses i).job).P.jobs↔y∈G.P.jobs/\y.id≠(G.E.ses i).job)/\fM G.n G.N (wA G1 (G.E.ses i).job).P<=fM G.n G.N G.P:=λG1 e1=>by
     refine⟨λy=> ?_,?_⟩
     ·show y∈G1.P.jobs.filter _↔_;rw[e1,List.mem_filter];simp
     ·unfold fM;show((G1.P.jobs.filter _).map _).sum+qlen G1.P.ws<=_;rw[e1];have:=oU (λj:Jb=>hZ G.n G.N j.A) (λz=>decide (z.id≠(G.E.ses i).job)) G.P.jobs;omega
    have r: ∃x',x'.pend=false/\(mD G i d j.A.told j.A.e f1).E.ses=i4 G.E.ses i x'/\(mD G i d j.A.told j.A.e f1).E.ans=G.E.ans+1/\(mD G i d j.A.told j.A.e f1).M<=G.M+2/\(mD G i d j.A.told j.A.e f1).P.last=G.P.last/\(mD G i d j.A.told j.A.e f1).P.ws=G.P.ws/\(mD G i d j.A.told j.A.e f1).n=G.n/\(mD G i d j.A.told j.A.e f1).N=G.N/\(∀y,y∈(mD G i d j.A.told j.A.e f1).P.jobs↔y∈G.P.jobs/\y.id≠(G.E.ses i).job)/\fM G.n G.N (mD G i d j.A.told j.A.e f1).P<=fM G.n G.N G.P:=by
     unfold mD;by_cases q:j.A.e=0
     ·rw[MK q];obtain⟨a,b⟩:=fj (vd G i d j.A.told f1) rfl;exact⟨iF (setS (G.E.ses i) d j.A.told) (j.A.e:Int) 0,rfl,jv,rfl,MN _,rfl,rfl,rfl,rfl,a,b⟩
     ·rw[MG q];obtain⟨a,b⟩:=fj G rfl;exact⟨iF (G.E.ses i) (j.A.e:Int) 0,rfl,rfl,rfl,Pn _ _,rfl,rfl,rfl,rfl,a,b⟩
    obtain⟨x',r1,r2,r3,r4,r5,rw,r6,r7,r8,r9⟩:=r;obtain⟨I1,P1⟩:=I.ans hi hp W1 r2 r1 r6 r3 r4 r5 (congrArg List.length rw) r8 (by rw[r6,r7];exact r9);exact hK _ _ _ I1 S1 (.inr P1)
   ·have dn:j.A.done=false:=by simpa using dn
    exact vS W hi hx ej q0 dn (hK _ _ _ I bD.refl (.inl ⟨rfl,.inr (.inr ⟨k,q0,j,hj,ej,dn⟩)⟩))
 ·rw[show f9 (G.E.ses i).cal.kind=124 by rw[k];rfl];exact o (.inl k)
 ·rw[show f9 (G.E.ses i).cal.kind=124 by rw[k];rfl];exact o (.inr k)
 ·rw[show f9 (G.E.ses i).cal.kind=123 by rw[k];rfl];exact lay (.inr (.inr k))
 ·rw[show f9 (G.E.ses i).cal.kind=125 by rw[k];rfl];refine Gg W hi ah hM hA λh1 G1 C W1 S1=> ?_;have hE:=C.E;have D:=C.M;obtain⟨I1,P1⟩:=I.ans hi hp W1 (x':=iF (G.E.ses i) 0 0) (by rw[<-hE];rfl) rfl C.n (by rw[<-hE];rfl) (by show G1.M<=_;omega) (by show G1.P.last=_;rw[C.P]) (by show G1.P.ws.length=_;rw[C.P]) (same C.P (J0 ah)) (Nat.le_of_eq (show fM G1.n G1.N G1.P=_ from oL C));exact hK _ _ _ I1 S1 (.inr P1)
 ·rw[show f9 (G.E.ses i).cal.kind=126 by rw[k];rfl]
  have nj: ¬tz G.E->G.P.jobs=[]:=λa=>List.eq_nil_iff_forall_not_mem.2 λj hj=>by obtain⟨m,hm,b,c⟩:=I.js j hj;exact a ⟨m,hm,b,by have:=(W.W.H.ids.2 j hj).1;omega⟩
  refine Di W hi hM hA nj (λa h1 O1=>hK _ _ _ (I.only0 O1) (bD.only0 O1) (.inl ⟨rfl,.inl ⟨k,a⟩⟩)) λh1 fo gg N1 L1 a W1 S1=> ?_;have ej:=nj a
  obtain⟨I1,P1⟩:=I.ans hi hp W1 (x':=iF (G.E.ses i) 0 0) rfl rfl rfl rfl (Pn _ _) rfl rfl (same rfl (J0 ah)) (by unfold fM;show(G.P.jobs.map _).sum+_<=_;rw[ej];exact MN _)
  exact hK _ _ _ I1 S1 (.inr P1)
section
variable {i j k l m n o p q r s t:Int}{a b c d:Addr}{u v:Nat}{x y:az}{h:aI}{K:KK}
def F17.spec(H:Cl 18 [ap 8,ap 16384,ap 2] h λa b=> ∃c:az,∃d:Int,a=(.tuple #[aA c,ap d])/\aK (d !=0) (K aB b) (Cl 66 [aA c,ap 0,.agg #[ap 1,ap 0,ap 0,ap 0,ap 0,ap 0,.int .u8 3]] b λa b=> ∃d:Int,∃e:Int,∃f:Bool,a=(.tuple #[.agg #[ap d,ar e],aD f])/\bf b (.cells #[ap 0,ar 0] 76) λa b=>aW b ((aw a).add 0) (ap d) λb=>aW b ((aw a).add 1) (ar e) λb=>Cl 66 [aA c,ap 0,.agg #[ap 4,ap 0,ap 0,ap 0,ap 0,ap 0,.int .u8 0]] b λb c=> ∃d:Int,∃e:Int,∃g:Bool,b=(.tuple #[.agg #[ap d,ar e],aD g])/\bf c (.cells #[ap 0,ar 0] 76) λb c=>aW c ((aw b).add 0) (ap d) λc=>aW c ((aw b).add 1) (ar e) λc=>aK f (aK g (aQ .i64 (rd c ((aw a).add 0)) λa=>aK (a==0) (aQ .u64 (rd c ((aw b).add 1)) λa=>K (aD (a==128)) c) (K aB c)) (K aB c)) (K aB c))):Cl 17 [] h K:=cN Tryz.func17 H
def F66.spec(H:bf h (.cells #[ap j,ap k,ap l,ap m,ap n,ap o,.int .u8 p] 41) λb c=>bf c (.cells #[ap 0,ar 0] 76) λc d=>aQ .i64 (rd d ((aw b).add 0)) λe=>aQ .i64 (rd d ((aw b).add 1)) λf=>aQ .i64 (rd d ((aw b).add 2)) λg=>aQ .i64 (rd d ((aw b).add 3)) λj=>aQ .i64 (rd d ((aw b).add 4)) λk=>aQ .i64 (rd d ((aw b).add 5)) λl=>aQ .u8 (rd d ((aw b).add 6)) λb=>Cl 24 [au a,ap i,.agg #[ap e,ap f,ap g,ap j,ap k,ap l,.int .u8 b]] d λb d=>aQ .i64 (some b) λb=>aK (b !=0) (aW d ((aw c).add 0) (ap 0) λa=>aW a ((aw c).add 1) (ar 0) λa=>aQ .i64 (rd a ((aw c).add 0)) λb=>aQ .u64 (rd a ((aw c).add 1)) λc=>K (.tuple #[.agg #[ap b,ar c],aB]) a) (Cl 30 [au a] d λb d=>bP (some b) λb=>aK (!b) (aW d ((aw c).add 0) (ap 0) λa=>aW a ((aw c).add 1) (ar 0) λa=>aQ .i64 (rd a ((aw c).add 0)) λb=>aQ .u64 (rd a ((aw c).add 1)) λc=>K (.tuple #[.agg #[ap b,ar c],aB]) a) (Cl 43 [au a,ap i] d λa b=> ∃d:Int,∃e:Int,∃f:Bool,a=(.tuple #[.agg #[ap d,ar e],aD f])/\aW b ((aw c).add 0) (ap d) λa=>aW a ((aw c).add 1) (ar e) λa=>aQ .i64 (rd a ((aw c).add 0)) λb=>aQ .u64 (rd a ((aw c).add 1)) λc=>K (.tuple #[.agg #[ap b,ar c],aD f]) a))):Cl 66 [au a,ap i,.agg #[ap j,ap k,ap l,ap m,ap n,ap o,.int .u8 p]] h K:=cN Tryz.func66 H
def F30.T:bi:=⟨[(2,[0,3]),(5,[0,3,4]),(8,[0])],[]⟩
section
variable (n m2:Nat)(a:Addr)(b c:Int)(h:aI)(K:KK)
def F30.wL5:Prop:=Lr Tryz.f30 F30.T [1,0,1,0,0,1,0,0,1,0] [m2] n [(0,(au a)),(3,(ap b)),(4,(ap c))] h K
def F30.wL2:Prop:=Lp Tryz.f30 F30.T [1,0,1,0] n [(0,(au a)),(3,(ap b))] h K
def F30.sL5:F30.wL5 (n+1) m2 a b c h K=(Cl 27 [au a] h λd e=>aQ .i64 (some d) λd=>aK (c<d) (Cl 26 [au a,ap c,ap b] e λd e=>bP (some d) λ_=>F30.wL5 n m2 a b (ax (c+1)) e K) (F30.wL2 m2 a (ax (b+1)) e K)):=by kernel_rfl
def F30.wk5:Prop:=(∃d,F30.wL5 d m2 a b c h K)
def F30.wk8:Prop:=Cl 84 [au a] h λa b=>bP (some a) λa=>K (aD (!a)) b
def F30.sL2:F30.wL2 (n+1) a b h K=(aK (b<1048576) (Cl 84 [au a] h λc d=>bP (some c) λc=>aK c (F30.wk5 n a b 0 d K) (F30.wk8 a d K)) (F30.wk8 a h K)):=by kernel_rfl
def F30.wk2:Prop:=(∃c,F30.wL2 c a b h K)
def F30.spec(H:F30.wk2 a 0 h K):Cl 30 [au a] h K:=cT F30.T Tryz.func30 H
end
def F84.T:bi:=⟨[(2,[0,3])],[]⟩
section
variable (n:Nat)(a:Addr)(b:Int)(h:aI)(K:KK)
def F84.wL2:Prop:=Lp Tryz.f84 F84.T [1,0,1,0] n [(0,(au a)),(3,(ap b))] h K
def F84.sL2:F84.wL2 (n+1) a b h K=(aK (b<4) (Cl 56 [au a,ap b] h λc d=>bP (some c) λc=>aK c (K aC d) (F84.wL2 n a (ax (b+1)) d K)) (K aB h)):=by kernel_rfl
def F84.wk2:Prop:=(∃c,F84.wL2 c a b h K)
def F84.spec(H:F84.wk2 a 0 h K):Cl 84 [au a] h K:=cT F84.T Tryz.func84 H
end
end
def rK(W:db h e G)(hT:kJ G.E->K aC h)(hF: ¬kJ G.E->K aB h):Cl 84 [bg e] h K:=by
 refine F84.spec _ h K ?_;unfold F84.wk2
 have a: ∀(d k:Nat),d+k=4->(∀j,j<k->(G.E.ses j).pend=false)->F84.wL2 (d+1) (aw e) (k:Int) h K:=by
  intro d
  induction d with
  |zero=>
   intro k hk hb;rw[F84.sL2];rw[MJ ah,aJ];refine hF λ⟨j,hj,hp⟩=> ?_;rw[hb j ah]at hp;cases hp
  |succ d ih=>
   intro k hk hb;rw[F84.sL2];rw[MP ah,aO];refine yO W.I (λq=>ah) λk' b ek=>aZ rfl (aS (λp=> ?_) λp=> ?_)
   ·exact hT ⟨k',b,p⟩
   ·rw[sS ah];refine ih (k+1) ah λj hj=> ?_;by_cases q:j=k
    ·rw[q,show k=k' by omega];exact p
    ·exact hb j ah
 exact⟨_,a 4 0 ah λj hj=>ah⟩
def AN(Inv:Nat->aI->EG->Prop)(J:Nat->Nat->aI->EG->Prop)(nw:Nat)(k:nw<=4)(h0:Inv m h G)(hm:m<1048576)
  (hW: ∀{m h1 G1},Inv m h1 G1->db h1 e G1) (hJ: ∀{m w h1 G1},J m w h1 G1->db h1 e G1/\G1.P.ws.length=nw)
  (hS: ∀{m h1 G1},Inv m h1 G1->kJ G1.E->J m 0 h1 G1)
  (hP: ∀{m w h1 G1} {Q:KK} {draw:Int},w<nw->J m w h1 G1->(∀b h2 G2,J m (w+1) h2 G2->Q (aD b) h2)->Cl 26 [bg e,ap (w:Int),ap draw] h1 Q)
  (hE: ∀{m h1 G1},J m nw h1 G1-> ∃m',m'<m/\Inv m' h1 G1)
  (hK: ∀m' h1 G1,m'<=m->Inv m' h1 G1-> ¬kJ G1.E->K aC h1):Cl 30 [bg e] h K:=by
 refine F30.spec _ h K ?_;unfold F30.wk2
 have f: ∀(d i m':Nat) (xi:Int) (h1:aI) (G1:EG),xi=(i:Int)->d+i=m+1->m'+i<=m->Inv m' h1 G1->F30.wL2 (d+1) (aw e) xi h1 K:=by
  intro d
  induction d with
  |zero=>intro i m' xi h1 G1 g hi j;omega
  |succ d ih=>
   intro i m' xi h1 G1 g hi j I;rw[F30.sL2];rw[MP ah,aO];refine rK (hW I) (λa=>aZ rfl ?_) λa=>aZ rfl ?_
   ·rw[aO];unfold F30.wk5
    have c: ∀(d2 w:Nat) (h2:aI) (G2:EG),d2+w=nw->J m' w h2 G2->F30.wL5 (d2+1) (d+1) (aw e) xi (w:Int) h2 K:=by
     intro d2
     induction d2 with
     |zero=>
      intro w h2 G2 hw I2;rw[F30.sL5];obtain⟨W2,wl⟩:=hJ I2;refine iz W2 (aH rfl ?_);rw[MJ ah,aJ];have ew:w=nw:=ah;subst ew;obtain⟨m2,lt,I3⟩:=hE I2;exact ih (i+1) m2 _ h2 G2 (by rw[g,wrap_i64 ah ah];omega) ah ah I3
     |succ d2 ih2=>
      intro w h2 G2 hw I2;rw[F30.sL5];obtain⟨W2,wl⟩:=hJ I2;refine iz W2 (aH rfl ?_);rw[MP ah,aO];refine hP ah I2 λb h3 G3 I3=>aZ rfl ?_;rw[sS ah];exact ih2 (w+1) h3 G3 ah I3
    exact⟨_,c nw 0 h1 G1 ah (hS I a)⟩
   ·rw[aJ];unfold F30.wk8;exact rK (hW I) (λq=>Nc q a) λq=>aZ rfl (hK m' h1 G1 ah I a)
 exact⟨_,f (m+1) 0 m 0 h G rfl ah ah h0⟩
def Da{P P':PS}(a:zW P P'):(∃j∈P'.jobs,j.id=x)↔ ∃j∈P.jobs,j.id=x:=by have e: ∀Q:PS,(∃j∈Q.jobs,j.id=x)↔x∈Q.jobs.map (·.id):=λQ=>ak;rw[e,e,a.2.2]
def GI.pick(I:GI t nw h e G)(W':db h' e G')(P:xF w G G'):GI t nw h' e G'/\kE G'<=kE G/\ ∃k,G.P.ws[w]? =some k/\(kE G'+1<=kE G\/(k.job=0/\k.q=[]/\fA G.P.ws G'.P.ws)):=by
 obtain⟨G1,N',P',L',k,C,-,e1,Pk,hk,c⟩:=P;have cp:=oL C;have hE:=C.E;have hn:=C.n;have hP:=C.P;have hM:=C.M;have le:=Pk.le1;rw[hn,hP]at cp;rw[hn,hP]at le c;rw[hP]at hk;have al:=Pk.alike;rw[hP]at al;subst e1
 have pe:kE {G1 with N:=N',P:=P',L:=L'}=fU (λi=>wt (G.E.ses i)) 4+fM G.n N' P':=by unfold kE;rw[<-hE,<-hn]
 have js: ∀x:Nat,_:=λx=>Da (x:=x) al;have jx: ∀x:Nat,(∃j∈P'.jobs,j.id=x)↔ ∃j∈G.P.jobs,j.id=x:=js;refine⟨⟨W',?_,?_,?_,?_,?_,?_,?_,I.bt,al.2.1.trans I.ws⟩,?_,k,hk,?_⟩
 ·show ∀i,i<4->(G1.E.ses i).pend=true->fX G1.n (G1.E.ses i) (G1.E.ses i).cal=0;rw[hE,hn];exact I.ok
 ·show ∀i,i<4->(G1.E.ses i).pend=true->(G1.E.ses i).job≠0->(G1.E.ses i).cal.kind=3/\ ∃j∈P'.jobs,j.id=(G1.E.ses i).job;rw[hE];exact λi hi a b=>⟨(I.jb i hi a b).1,(jx _).2 (I.jb i hi a b).2⟩
 ·show ∀j∈P'.jobs,∃i,i<4/\(G1.E.ses i).pend=true/\(G1.E.ses i).job=j.id;rw[hE];intro j hj;obtain⟨y,hy,ey⟩:=(jx j.id).1 ⟨j,hj,rfl⟩;rw[<-ey];exact I.js y hy
 ·show ∀i,i<4-> ∀k,k<4->(G1.E.ses i).pend=true->(G1.E.ses k).pend=true->(G1.E.ses i).job=(G1.E.ses k).job->(G1.E.ses i).job≠0->i=k;rw[hE];exact I.un
 ·show P'.last+fU (λi=>frs (G1.E.ses i)) 4<=t;rw[hE,al.1];exact I.bl
 ·show G1.E.ans+fU (λi=>yZ (G1.E.ses i)) 4<=t;rw[hE];exact I.ba
 ·show G1.M<=2*G1.E.ans;rw[hE,hM];exact I.bm
 ·rw[pe];unfold kE;omega
 ·rw[pe];unfold kE;exact c.imp (λq=>ah) id
def zh(I:GI t nw h e G)
  (hK: ∀b h' G',GI t nw h' e G'->bD e G h G' h'->kE G'<=kE G->(∀w:Nat,who=(w:Int)->w<nw->kJ G.E->kE G'+1<=kE G\/(locs G.P.ws≠[]/\ ∃k,G.P.ws[w]? =some k/\k.job=0/\k.q=[]/\fA G.P.ws G'.P.ws))->K (aD b) h'):
  Cl 26 [bg e,ap who,ap draw] h K:=by
 have c:LB=140737488355328:=rfl
 refine BS I.W (λq h1 O1=>hK _ h1 G (I.only0 O1) (bD.only0 O1) (MN _) λw ew hw a=> ?_) (λi h1 G1=>GI t nw h1 e G1/\bD e G h G1 h1/\kE G1<=kE G/\(kE G1+1<=kE G\/(G1=G/\ ∀k,k<i->(G.E.ses k).pend=true->Fm G k)))
  (λh1 O1=>⟨I.only0 O1,bD.only0 O1,MN _,.inr ⟨rfl,λk hk=>Nc hk (Nat.not_lt_zero k)⟩⟩) (λ{i h1 G1 h2} J O=>⟨J.1.only0 O,J.2.1.trans (bD.only0 O),J.2.2⟩) (λJ=>J.1.W) (λ{i h1 G1} hi J hp=> ?_) (λ{i h1 G1 Q} hi J hp hQ=> ?_) (λq0 q1 a h1 G1 J=> ?_)
 ·exfalso;have:=I.ws;rcases q with q|q|q
  ·omega
  ·omega
  ·exact q a
 ·obtain⟨J1,J2,J3,J5⟩:=J;refine⟨J1,J2,J3,J5.imp id λ⟨y,z⟩=>⟨y,λk hk pk=> ?_⟩⟩;by_cases q:k=i
  ·rw[q]at pk;rw[y,pk]at hp;cases hp
  ·exact z k ah pk
 ·obtain⟨J1,J2,J3,J5⟩:=J;refine Hz J1 hi hp λb h2 G2 I2 S2 r=>hQ b h2 G2 ⟨I2,J2.trans S2,?_,?_⟩
  ·rcases r with⟨r,-⟩|r
   ·rw[r];exact J3
   ·omega
  ·rcases r with⟨r,st⟩|r
   ·subst r;refine J5.imp id λ⟨y,z⟩=>⟨y,λk hk pk=> ?_⟩;by_cases q:k=i
    ·rw[q,<-y];exact st
    ·exact z k ah pk
   ·exact .inl ah
 ·obtain⟨J1,J2,J3,J5⟩:=J;obtain⟨w,ew⟩: ∃w:Nat,who=(w:Int):=⟨who.toNat,ah⟩;subst ew;have bm:=J1.bm;have ba:=J1.ba;have bt:=J1.bt;have j4:=J1.j4;refine tk oe J1.W (show G1.P.jobs.length<=12 by omega) ah (w:=w) (by have:=J1.ws;have:=I.ws;omega) λh2 G2 W2 S2 P=> ?_;obtain⟨I2,p1,k,hk,p2⟩:=J1.pick W2 P;refine hK true h2 G2 I2 (J2.trans S2) ah λw' e' d _=> ?_;have:w'=w:=ah;subst this;rcases J5 with q|⟨y,z⟩
  ·exact .inl ah
  ·subst y;rcases p2 with q|q
   ·exact .inl ah
   refine .inr ⟨λln=> ?_,k,hk,q⟩
   have un: ∀m,m<4->(G1.E.ses m).pend=true->(G1.E.ses m).job≠0->False:=λm hm pm jm=>by
    rcases z m hm pm with⟨s,-⟩|⟨-,s,-⟩|⟨-,-,j,hj,-,dn⟩
    ·have:=(J1.jb m hm pm jm).1;omega
    ·exact jm s
    ·have:=J1.W.W.Ok.loc j hj dn;rw[ln]at this;cases this
   have nJ: ¬tz G1.E:=λ⟨m,hm,pm,jm⟩=>un m hm pm ah
   have nR: ¬AX G1.E:=λ⟨m,hm,pm,km⟩=>by
    rcases z m hm pm with⟨-,s⟩|⟨s,-⟩|⟨s,-⟩
    ·exact nJ s
    ·omega
    ·omega
   obtain⟨m,hm,pm⟩:=a;rcases z m hm pm with⟨-,s⟩|⟨-,-,s⟩|⟨-,s,-⟩
   ·exact nJ s
   ·exact nR s
   ·exact un m hm pm s
def GM(I:GI t nw h e G)(hK: ∀h' G',GI t nw h' e G'->bD e G h G' h'-> ¬kJ G'.E->K aC h'):Cl 30 [bg e] h K:=by
 have l4:=I.W.W.Ok.len;have lw:=I.ws;have bd:=I.bnd
 refine AN (m:=kE G) (λm h1 G1=>GI t nw h1 e G1/\bD e G h G1 h1/\kE G1<=m)
  (λm w h1 G1=>GI t nw h1 e G1/\bD e G h G1 h1/\kE G1<=m/\(kE G1+1<=m\/((w=0->kJ G1.E)/\(w≠0->locs G1.P.ws≠[])/\ ∀v,v<w-> ∀k,G1.P.ws[v]? =some k->k.job=0/\k.q=[]))) nw ah
  ⟨I,bD.refl,MN _⟩ ah (λJ=>J.1.W) (λJ=>⟨J.1.W,J.1.ws⟩) (λ{m h1 G1} J a=>⟨J.1,J.2.1,J.2.2,.inr ⟨λ_=>a,λq=>Nc rfl q,λv hv=>Nc hv (Nat.not_lt_zero v)⟩⟩) (λ{m w h1 G1 Q draw} hw J hQ=> ?_) (λ{m h1 G1} J=> ?_) λm' h1 G1 _ J a=>hK h1 G1 J.1 J.2.1 a
 ·obtain⟨J1,J2,J3,J4⟩:=J;refine zh J1 λb h2 G2 I2 S2 p1 p2=>hQ b h2 G2 ⟨I2,J2.trans S2,ah,?_⟩;rcases J4 with q|⟨q0,q1,q2⟩
  ·exact .inl ah
  by_cases pr:kE G2+1<=kE G1
  ·exact .inl ah
  by_cases aP:kJ G1.E
  ·rcases p2 w rfl hw aP with r|⟨r1,k,r2,r3,r4,r5⟩
   ·exact Nc r pr
   ·refine .inr ⟨λz=>Nc z (Nat.succ_ne_zero w),λ_=>by rw[r5.locs];exact r1,λv hv k' f=> ?_⟩;have lv:=(MQ.1 f).1
    obtain⟨k2,c,e2⟩: ∃k2,G1.P.ws[v]? =some k2/\qz k2 k':=by
     have:v<G1.P.ws.length:=by have:=r5.1;omega
     obtain⟨k3,h3,e3⟩:=r5.2 v _ (MT this);rw[f]at h3;injection h3 with h3;subst h3;exact⟨_,MT this,e3⟩
    have d:k2.job=0/\k2.q=[]:=by
     by_cases y:v=w
     ·subst y;rw[r2]at c;injection c with c;rw[<-c];exact⟨r3,r4⟩
     ·exact q2 v ah k2 c
    exact⟨by rw[e2.2.2.1];exact d.1,by rw[e2.2.1];exact d.2⟩
  ·exfalso;by_cases w0:w=0
   ·exact aP (q0 w0)
   ·obtain⟨x,hx⟩:=Oe _ (q1 w0);obtain⟨j,hj,-⟩:=J1.W.W.Ok.at_ x hx;obtain⟨i,hi,pi,-⟩:=J1.js j hj;exact aP ⟨i,hi,pi⟩
 ·obtain⟨J1,J2,J3,J4⟩:=J;refine⟨kE G1,?_,J1,J2,MN _⟩;rcases J4 with q|⟨q0,q1,q2⟩
  ·omega
  ·exfalso;refine q1 ah ?_;unfold locs;rw[List.flatMap_eq_nil_iff];intro k hk;obtain⟨v,hv⟩:=OI hk;have lv:=(MQ.1 hv).1;obtain⟨a,b⟩:=q2 v (by have:=J1.ws;omega) k hv;unfold Wk.loc;rw[MK a,b]
   rfl
structure Kp(G G':EG):Prop where
 E:G'.E=G.E
 n:G'.n=G.n
 fo:G'.fo=G.fo
 gg:G'.gg=G.gg
 room:G'.room=G.room
 ws:G'.P.ws.length=G.P.ws.length
 sm: ∀k,k<4-> ∀r,r<6->(G.E.ses k).there r=true-> ∀y,sm G.n G.fo G'.N ((G.E.ses k).hnd r) y=sm G.n G.fo G.N ((G.E.ses k).hnd r) y
 jobs:G.P.jobs=[]->G'.P.jobs=[]
 M:G'.M=G.M
def uN{G:EG}(h: ∀k,k<4->(G.E.ses k).pend=false): ¬kJ G.E:=λ⟨k,hk,hp⟩=>by rw[h k hk]at hp;cases hp
def xF.kp(P:xF w G G'):Kp G G':=by
 obtain⟨G1,N',P',L',k,C,-,e,Pk,hk,a⟩:=P;have hn:=C.n;have hP:=C.P;have al:=Pk.alike;rw[hP]at al;subst e;refine⟨C.E,hn,C.fo,C.gg,C.room,al.2.1,λk hk r hr ht y=> ?_,λz=> ?_,C.M⟩
 ·have hv:=C.rg k hk r hr ht;have o1:=C.ok;rw[<-hn,<-C.fo];exact(Pk.ex.sm o1 hv).trans (C.ex.sm o1 hv).symm
 ·have:=al.2.2;rw[z]at this;exact List.map_eq_nil_iff.1 this
def yo(W:db h e G)(hN:who<0\/(G.P.ws.length:Int)<=who\/ ¬kJ G.E)(hK: ∀h',aM [] h h'->K aB h'):Cl 26 [bg e,ap who,ap draw] h K:=by
 refine F26.spec _ _ _ h K ?_;refine aS (λq=>hK h (aM.refl _ _)) λq=> ?_;have q:=MU q;refine iz W (aH rfl (aS (λp=>hK h (aM.refl _ _)) λp=> ?_));have p: ¬(G.P.ws.length:Int)<=who:=MU p;have no: ¬kJ G.E:=by rcases hN with z|z|z<;>first|omega|exact z
 exact rA W.I (λa=>Nc a no) λ_ h1 O1=>aZ rfl (hK h1 O1)
def xU(W:db h e G)(hs:s<4)(hp:(G.E.ses s).pend=true)(solo: ∀k,k<4->k≠s->(G.E.ses k).pend=false)(hw:w<G.P.ws.length)(R:aI->EG->Prop)
  (hR: ∀{h1 G1},R h1 G1->db h1 e G1/\ ∀k,k<4->s<k->(G1.E.ses k).pend=false) (hO: ∀{h1 G1 h2},R h1 G1->aM [] h1 h2->R h2 G1)
  (f: ∀{h1} {Q:KK},aM [] h h1->(∀b h2 G2,R h2 G2->Q (aD b) h2)->Cl (f9 (G.E.ses s).cal.kind) [bg e,kC e s] h1 Q)
  (hE: ∀h1 G1,R h1 G1->F26.wk11 (aw e) (w:Int) draw h1 K):Cl 26 [bg e,ap (w:Int),ap draw] h K:=by
 refine BS W (λq h1 O1=> ?_) (λi h1 G1=>(i<=s/\G1=G/\aM [] h h1)\/(s<i/\R h1 G1)) (λh1 O1=> .inl ⟨NS _,rfl,O1⟩) (λ{i h1 G1 h2} I O=> ?_) (λ{i h1 G1} I=> ?_) (λ{i h1 G1} hi I d=> ?_) (λ{i h1 G1 Q} hi I d hQ=> ?_) (λ_ _ _ h1 G1 I=> ?_)
 ·exfalso;rcases q with q|q|q
  ·omega
  ·omega
  ·exact q ⟨s,hs,hp⟩
 ·rcases I with⟨a,b,c⟩|⟨a,b⟩
  ·exact .inl ⟨a,b,c.trans O ak⟩
  ·exact .inr ⟨a,hO b O⟩
 ·rcases I with⟨a,b,c⟩|⟨a,b⟩
  ·rw[b];exact W.only0 c
  ·exact(hR b).1
 ·rcases I with⟨a,b,c⟩|⟨a,b⟩
  ·by_cases q:i=s
   ·subst q;rw[b,hp]at d;cases d
   ·exact .inl ⟨ah,b,c⟩
  ·exact .inr ⟨ah,b⟩
 ·rcases I with⟨a,b,c⟩|⟨a,b⟩
  ·by_cases q:i=s
   ·subst q;rw[b];exact f c λb' h2 G2 R2=>hQ b' h2 G2 (.inr ⟨ah,R2⟩)
   ·rw[b,solo i hi q]at d;cases d
  ·rw[(hR b).2 i hi a]at d;cases d
 ·rcases I with⟨a,b,c⟩|⟨a,b⟩
  ·omega
  ·exact hE h1 G1 b
def rR(W:db h e G0)(hs:s<4)(hp:(G0.E.ses s).pend=true)(solo: ∀k,k<4->k≠s->(G0.E.ses k).pend=false)(R:EG->Prop)
  (step: ∀{h1} {Q:KK},aM [] h h1->(∀b h2 G2,db h2 e G2->bD e G0 h G2 h2->R G2->Q (aD b) h2)->Cl (f9 (G0.E.ses s).cal.kind) [bg e,kC e s] h1 Q)
  (hR: ∀{G1},R G1->(∀k,k<4->(G1.E.ses k).pend=false)/\G1.P.ws.length=G0.P.ws.length/\G1.P.jobs=[]/\G1.M<=LB/1000)
  (hK: ∀h' G1 G',R G1->Kp G1 G'->db h' e G'->bD e G0 h G' h'->K aC h'):Cl 30 [bg e] h K:=by
 have wl:=W.W.Ok.len
 refine AN (m:=1) (λm h1 G1=>db h1 e G1/\bD e G0 h G1 h1/\((m=1/\G1=G0/\aM [] h h1)\/(m=0/\ ∃G2,R G2/\Kp G2 G1))) (λm w h1 G1=>db h1 e G1/\bD e G0 h G1 h1/\m=1/\((w=0/\G1=G0/\aM [] h h1)\/(1<=w/\ ∃G2,R G2/\Kp G2 G1))) G0.P.ws.length wl.2
  ⟨W,bD.refl,.inl ⟨rfl,rfl,aM.refl _ _⟩⟩ ah (λI=>I.1) (λ{m w h1 G1} I=>⟨I.1,?_⟩) (λ{m h1 G1} I a=>⟨I.1,I.2.1,?_⟩) (λ{m w h1 G1 Q draw} hw I hQ=> ?_) (λ{m h1 G1} I=> ?_) (λm' h1 G1 _ I a=> ?_)
 ·rcases I.2.2.2 with⟨-,q,-⟩|⟨-,G2,r,k⟩
  ·rw[q]
  ·rw[k.ws,(hR r).2.1]
 ·rcases I.2.2 with⟨q1,q2,q3⟩|⟨q1,G2,r,k⟩
  ·exact⟨q1,.inl ⟨rfl,q2,q3⟩⟩
  ·have:=(hR r).1;rw[<-k.E]at this;exact Nc a (uN this)
 ·obtain⟨W1,S1,m1,q⟩:=I;rcases q with⟨q1,q2,q3⟩|⟨q1,G2,r,k⟩
  ·subst q2;refine xU W1 hs hp solo hw (λh2 G2=>db h2 e G2/\bD e G1 h G2 h2/\R G2) (λI=>⟨I.1,λk hk _=>(hR I.2.2).1 k hk⟩) (λI O=>⟨I.1.only0 O,I.2.1.trans (bD.only0 O),I.2.2⟩) (λ{h2 Q2} O2 d=> ?_) λh2 G2 I=> ?_
   ·exact step (q3.trans O2 ak) λb h3 G3 W3 S3 R3=>d b h3 G3 ⟨W3,S3,R3⟩
   ·obtain⟨W2,S2,R2⟩:=I;obtain⟨-,a2,a3,a4⟩:=hR R2;refine tk oe W2 (show G2.P.jobs.length<=12 by rw[a3];exact NS _) a4 (by rw[a2];exact hw) λh3 G3 W3 S3 P=> ?_;exact hQ _ h3 G3 ⟨W3,S2.trans S3,m1,.inr ⟨ah,G2,R2,P.kp⟩⟩
  ·have no:=(hR r).1;rw[<-k.E]at no;exact yo W1 (.inr (.inr (uN no))) λh2 O2=>hQ _ h2 G1 ⟨W1.only0 O2,S1.trans (bD.only0 O2),m1,.inr ⟨ah,G2,r,k⟩⟩
 ·obtain⟨W1,S1,m1,q⟩:=I;rcases q with⟨q1,-,-⟩|⟨q1,q2⟩
  ·omega
  ·exact⟨0,ah,W1,S1,.inr ⟨rfl,q2⟩⟩
 ·obtain⟨W1,S1,q⟩:=I;rcases q with⟨q1,q2,-⟩|⟨q1,G2,r,k⟩
  ·subst q2;exact Nc ⟨s,hs,hp⟩ a
  ·exact hK h1 G2 G1 r k W1 S1
def F9{G:EG}{c:lD}(hs:s<4)(W:db h e G)(hp:(G.E.ses s).pend=false)(hm:c.mask<256)(hr:fX G.n (G.E.ses s) c=0)(R:EG->Prop)
  (g: ∀{h1} {Q:KK},db h1 e (eG G s c)->(∀h2 G2,db h2 e G2->bD e (eG G s c) h1 G2 h2->R G2->Q aC h2)->Cl 30 [bg e] h1 Q)
  (hR: ∀{G2},R G2->(G2.E.ses s).ansd=true)
  (hK: ∀h' G2,db h' e G2->bD e G h G2 h'->R G2->K (.tuple #[.agg #[ap (G2.E.ses s).err,ar ((G2.E.ses s).num:Int)],aC]) h'):
  Cl 66 [bg e,ap (s:Int),oH c] h K:=by
 refine F66.spec ?_;refine aX λh1 A1 O1 z1=>aX λh2 A2 O2 z2=> ?_;have A1':=A1.only O2 ak;have r: ∀k,rd h2 ⟨h.size,k,none⟩=([ap c.kind,ap c.op,ap c.dst,ap c.a,ap c.b,ap c.c,.int .u8 (c.mask:Int)]:List Value)[k]? :=λk=>At.rd A1' k;simp only[aL,MF];refine aH (n:=c.kind) (by rw[r];rfl) (aH (n:=c.op) (by rw[r];rfl) (aH (n:=c.dst) (by rw[r];rfl) (aH (n:=c.a) (by rw[r];rfl) (aH (n:=c.b) (by rw[r];rfl) (aH (n:=c.c) (by rw[r];rfl) (aH (n:=(c.mask:Int)) (by rw[r];rfl) ?_))))));have O12:=O1.trans O2 ak;have W2:=W.only0 O12;have lt:=W.lt;have l:=O1.size;refine wP (c:=c) (i:=(s:Int)) W2 hm (λq=>ah) (λk hk ek d=> ?_) (λk hk ek d f=> ?_) λk hk ek d f h3 W3 S3=>aH rfl ?_
 ·have ek:k=s:=ah;subst ek;rw[hp]at d;cases d
 ·have ek:k=s:=ah;subst ek;exact Nc hr f
 have ek:k=s:=ah;subst ek;rw[show((0:Int) !=0)=false from rfl,aJ];refine g W3 λh4 G2 W4 S4 R4=>aZ rfl ?_;rw[Ng,aJ];refine Cw W4.I (λq=>ah) λk' m j h5 O5=>⟨_,_,_,rfl,?_⟩;have j:k'=k:=ah;subst j;have ha:=hR R4;rw[ha,MK rfl,MK rfl];have S24:bD e G h2 G2 h4:=S3.trans S4
 have A4:At h4 h1.size [ap (0:Int),ar (0:Int)]:=by have:=S24.O (mF e G) (λb hb=>hb);exact At.only A2 this λhm=>by have:=lt _ hm;omega
 have A5:=A4.only O5 ak;refine aU A5 ak rfl λh6 A6 O6 z6=>aU A6 ak rfl λh7 A7 O7 z7=> ?_;refine aH (n:=(G2.E.ses k').err) (by rw[At.rd A7];rfl) (aH (n:=((G2.E.ses k').num:Int)) (by rw[At.rd A7];rfl) ?_)
 have nb:h1.size∉mF e G2:=λhm=>by
  rcases S24.B _ hm with q|q
  ·have:=lt _ q;omega
  ·have:=A2.lt;omega
 have O57:aM [h1.size] h5 h7:=O6.trans O7 λb hb _=>hb;have W5:=W4.only0 O5;have W7:db h7 e G2:=⟨W5.W.only O57 (λy hy hm=>by simp at hy;subst hy;exact nb (bq.2 (.inr (.inl hm)))) (λy hy hm=>by simp at hy;subst hy;exact nb (bq.2 (.inr (.inr (.inr hm))))),W5.R.only O57 (λy hy hm=>by simp at hy;subst hy;exact nb (bq.2 (.inr (.inr (.inl hm))))),W5.I.only O57 (λhm=>by simp at hm;exact nb (bq.2 (.inl hm.symm))),W5.C,W5.de,W5.dB,W5.rg,W5.r0,W5.mq,W5.po⟩;refine hK h7 G2 W7 ⟨λT hT=> ?_,λb hb=> ?_⟩ R4
 ·have o1:aM T h h4:=(O12.mono ak).trans (S24.O T hT) λb hb _=>hb;exact(o1.trans (O5.mono ak) λb hb _=>hb).trans O57 λb hb hl=>by simp at hb;omega
 ·rcases S24.B b hb with q|q
  ·exact .inl q
  ·exact .inr (by have:=O12.size;omega)
def Bq{h:aI}{n1 n2:Int}{Q:Nat->aI->Prop}(hQ: ∀h',At h' h.size [ap n1,ar n2]->aM [] h h'->Q h.size h'):
  bf h (.cells #[(ap (0:Int)),(ar (0:Int))] 76) (λb6 h7=>aW h7 (Addr.add (aw b6) 0) (ap n1) (λh8=>aW h8 (Addr.add (aw b6) 1) (ar n2) (λh9=>Q b6 h9))):=by
 refine aX λh1 A1 O1 z1=> ?_;rw[aL,aL];refine aU (i:=0) A1 ak rfl λh2 A2 O2 z2=>aU (i:=1) A2 ak rfl λh3 A3 O3 z3=>hQ h3 A3 ?_;exact(O1.trans O2 (by intro x hx hl;simp at hx;omega)).trans O3 (by intro x hx hl;simp at hx;omega)
structure i9(G:EG)(ans:Nat):Prop where
 n:G.n=8
 fo:G.fo=fill 8
 pend: ∀k,k<4->(G.E.ses k).pend=false
 jobs:G.P.jobs=[]
 M:G.M<=10
 ans:G.E.ans=ans
def i9.kp(Q:i9 G a)(k:Kp G G'):i9 G' a:=⟨k.n.trans Q.n,k.fo.trans Q.fo,by rw[k.E];exact Q.pend,k.jobs Q.jobs,by rw[k.M];exact Q.M,by rw[k.E];exact Q.ans⟩
def i9.solo(Q:i9 G a): ∀k,k<4->k≠0->((eG G 0 c).E.ses k).pend=false:=λk hk h0=>by show((i4 G.E.ses 0 _) k).pend=false;rw[cO h0];exact Q.pend k hk
def i9.next{G:EG}(Q:i9 G a){G1:EG}{x:gl}(es:G1.E.ses=i4 (eG G 0 c).E.ses 0 x)(xp:x.pend=false)(en:G1.n=G.n)(ef:G1.fo=G.fo)(ej:G1.P.jobs=G.P.jobs)(em:G1.M<=10)(ea:G1.E.ans=a+1):i9 G1 (a+1):=
 ⟨en.trans Q.n,ef.trans Q.fo,λk hk=>by
  rw[es];by_cases q:k=0
  ·rw[q,dt];exact xp
  ·rw[cO q];exact Q.solo k hk q,ej.trans Q.jobs,em,ea⟩
def CJ(hK: ∀h',aM [] h h'->K aC h'):Cl 17 [] h K:=by
 have B:LB=140737488355328:=rfl;refine F17.spec ?_;refine F6 (n:=8) (room:=16384) ah ah ah ah λh2 e G W2 s2 a2 n2 m2 f2 g2 _ N2 j2 w2 _ A M2 b2 O2=>⟨_,_,rfl,?_⟩;rw[show((0:Int) !=0)=false from rfl,aJ];have Q2:i9 G 0:=⟨n2,f2,λk _=>by rw[s2];rfl,j2,ah,a2⟩
 have r1:fX G.n (G.E.ses 0) ⟨1,0,0,0,0,0,3⟩=0:=by rw[n2];unfold fX nC;rw[MG (by decide),MG (by decide),MG,MG (by decide),MG (by decide),MG (by decide)];exact λq=>q λr hr=>by simp[kg]at hr
 refine F9 (s:=0) (c:=⟨1,0,0,0,0,0,3⟩) ah W2 (Q2.pend 0 ah) (by show 3<256;omega) r1
  (λG'=>i9 G' 1/\(G'.E.ses 0).there 0=true/\(∀y,sm 8 (fill 8) G'.N ((G'.E.ses 0).hnd 0) y=y.testBit 3)/\(G'.E.ses 0).err=0/\(G'.E.ses 0).ansd=true)
  (λ{h3 Q} W3 hQ=> ?_) (λR=>R.2.2.2.2) λh4 G4 W4 S4 R4=>⟨_,_,_,rfl,?_⟩
 ·have u:fX (eG G 0 ⟨1,0,0,0,0,0,3⟩).n ((eG G 0 ⟨1,0,0,0,0,0,3⟩).E.ses 0) ((eG G 0 ⟨1,0,0,0,0,0,3⟩).E.ses 0).cal=0:=r1;refine rR (s:=0) W3 ah rfl Q2.solo (λG'=>i9 G' 1/\G'.P.ws.length=G.P.ws.length/\(G'.E.ses 0).there 0=true/\(∀y,sm 8 (fill 8) G'.N ((G'.E.ses 0).hnd 0) y=y.testBit 3)/\(G'.E.ses 0).err=0/\(G'.E.ses 0).ansd=true) (λ{k1 Q1} O1 g=> ?_) (λR=>⟨R.1.pend,R.2.1,R.1.jobs,by have:=R.1.M;omega⟩) λk1 G1 G' R1 kp W' S'=>hQ k1 G' W' S' ⟨R1.1.kp kp,by rw[kp.E];exact R1.2.2.1,λy=> ?_,by rw[kp.E];exact R1.2.2.2.2⟩
  ·show Cl 123 _ _ _;refine CD oe (W3.only0 O1) (i:=0) ah (show G.P.jobs.length<=12 by rw[j2];exact NS _) (by show G.M+_<=_;omega) (by show G.E.ans<_;omega) (.inl rfl) u λk2 G1 W1 S1 L=>g true k2 G1 W1 ((bD.only0 O1).trans S1) ?_;obtain⟨d,d6,ed,⟨-,G5,er,⟨G3,N5,L5,v,j,f',C,R,ee,e1⟩,e2⟩|⟨k,-⟩|⟨k,-⟩⟩:=L
   ·have hE:=C.E
    have d0:d=0:=by have ed:(0:Int)=(d:Int):=ed;omega
    subst d0;have c0:=C.cnt;have cz:bj (eG G 0 ⟨1,0,0,0,0,0,3⟩).N=0:=by show bj G.N=0;rw[N2];rfl
    have o:j=0:=by
     obtain⟨-,z,f⟩:=Be R;rcases z with z|z
     ·exact z
     ·exfalso;have:=(f z).1;have:G3.room=16384:=C.room.trans m2;omega
    subst o;rw[MK rfl]at e1;subst e1 e2 ee;have n3:G3.n=8:=C.n.trans n2;have po:=W3.po;have po:cF G3.n G3.fo G3.gg:=by rw[C.n,C.fo,C.gg];exact po
    have pg:=po.1 3 ah;have f3:G3.fo=fill 8:=C.fo.trans f2;have e0:lvl G3.n G3.N 0=G3.n:=by unfold lvl;rw[MK ah]
    have m:cY G3.n N5:=W1.W.S.ok.1;have mn:=gT (f:=G3.fo) C.ok m (a:=0) (b:=1) (.inl ah) (.inl ah) (show G3.gg 3<lvl G3.n G3.N 0 by rw[e0];exact pg.1) R
    have es:(gR (vd (wJ G3 N5 L5) 0 0 v f') 0 ((0:Nat):Int) 0).E.ses=i4 (eG G 0 ⟨1,0,0,0,0,0,3⟩).E.ses 0 (iF (setS ((eG G 0 ⟨1,0,0,0,0,0,3⟩).E.ses 0) 0 v) 0 0):=by rw[<-hE];exact jv
    have hM:=C.M;refine⟨Q2.next es rfl C.n C.fo (congrArg PS.jobs C.P) (by show G3.M+2<=10;rw[hM];show G.M+2<=10;omega) (by show G3.E.ans+1=0+1;rw[hE];exact congrArg (· +1) a2),(by show G3.P.ws.length=_;rw[C.P];rfl),?_⟩;rw[es];refine⟨rfl,λy=> ?_,rfl,rfl⟩;show sm 8 (fill 8) N5 v y=_;have q:=mn.2.2.2 y;rw[pg.2,bC (a:=1) ah,bC (a:=0) ah,n3,f3]at q;rw[q];cases y.testBit 3<;>rfl
   ·have k:(1:Int)=2:=k;omega
   ·have k:(1:Int)=6:=k;omega
  ·have q:=R1.1;have:=kp.sm 0 ah 0 ah R1.2.2.1 y;rw[q.n,q.fo]at this;rw[kp.E,this];exact R1.2.2.2.1 y
 obtain⟨Q4,t4,f4,e4,-⟩:=R4;refine Bq λh5 A5 O5=> ?_;have W5:=W4.only0 O5
 have r4:fX G4.n (G4.E.ses 0) ⟨4,0,0,0,0,0,0⟩=0:=by
  unfold fX nC;rw[MG (by decide),MG (by decide),MG,MG (by decide),MG (λq=>by rcases q.1 with z|z<;>simp at z),MG (λq=>by have:=q.1;simp at this)];refine λq=>q λr hr=> ?_
  have hr:r=0:=by have:kg (⟨4,0,0,0,0,0,0⟩:lD)=[0]:=rfl;rw[this]at hr;simpa using hr
  subst hr;exact⟨by unfold kH;omega,t4⟩
 have l:qE (eG G4 0 ⟨4,0,0,0,0,0,0⟩) ((eG G4 0 ⟨4,0,0,0,0,0,0⟩).E.ses 0)=128:=by
  have:qE (eG G4 0 ⟨4,0,0,0,0,0,0⟩) ((eG G4 0 ⟨4,0,0,0,0,0,0⟩).E.ses 0)=tA G4.n G4.fo G4.N ((G4.E.ses 0).hnd 0):=MK rfl;rw[this,Q4.n,Q4.fo];unfold tA;rw[eE λx _=>f4 x]
  decide
 refine F9 (s:=0) (c:=⟨4,0,0,0,0,0,0⟩) ah W5 (Q4.pend 0 ah) (by show 0<256;omega) r4 (λG'=>(G'.E.ses 0).num=128/\(G'.E.ses 0).ansd=true) (λ{h6 Q} W6 hQ=> ?_) (λR=>R.2) λh6 G6 W6 S6 R6=>⟨_,_,_,rfl,?_⟩
 ·refine rR (s:=0) W6 ah rfl Q4.solo (λG'=>G'=gR (eG G4 0 ⟨4,0,0,0,0,0,0⟩) 0 0 (qE (eG G4 0 ⟨4,0,0,0,0,0,0⟩) ((eG G4 0 ⟨4,0,0,0,0,0,0⟩).E.ses 0))) (λ{k1 Q1} O1 g=> ?_) (λ{G1} R=> ?_) λk1 G1 G' R1 kp W' S'=>hQ k1 G' W' S' ?_
  ·show Cl 124 _ _ _;refine zb (W6.only0 O1) (i:=0) ah (by show G4.E.ans<_;rw[Q4.ans];omega) (.inl rfl) (mG r4).2.2.1 λk2 W1 S1=>g true k2 _ W1 ((bD.only0 O1).trans S1) rfl
  ·subst R;exact⟨(Q4.next (G1:=gR (eG G4 0 ⟨4,0,0,0,0,0,0⟩) 0 0 (qE (eG G4 0 ⟨4,0,0,0,0,0,0⟩) ((eG G4 0 ⟨4,0,0,0,0,0,0⟩).E.ses 0))) (c:=⟨4,0,0,0,0,0,0⟩) (x:=iF ((eG G4 0 ⟨4,0,0,0,0,0,0⟩).E.ses 0) 0 (qE (eG G4 0 ⟨4,0,0,0,0,0,0⟩) ((eG G4 0 ⟨4,0,0,0,0,0,0⟩).E.ses 0))) rfl rfl rfl rfl rfl Q4.M (congrArg (· +1) Q4.ans)).pend,rfl,Q4.jobs,by show G4.M<=_;have:=Q4.M;omega⟩
  ·rw[kp.E,R1];exact⟨l,rfl⟩
 refine Bq λh7 A7 O7=> ?_;have b5:h4.size∉mF e G4:=λhm=>by have:=W4.lt _ hm;omega
 have A6:At h6 h4.size [ap ((G4.E.ses 0).err),ar ((G4.E.ses 0).num:Int)]:=A5.only (S6.O (mF e G4) λb hb=>hb) b5;have A6:=A6.only O7 ak;rw[aO,aO];refine aH (n:=(G4.E.ses 0).err) (by rw[aL,At.rd A6];rfl) ?_;rw[e4,show((0:Int)==0)=true from rfl,aO];refine aH (n:=((G6.E.ses 0).num:Int)) (by rw[aL,At.rd A7];rfl) ?_;rw[R6.1,show(((128:Nat):Int)==128)=true from rfl];have O4:aM [] h h4:=S4.only O2 b2;have t:=S4.ge O2.size b2;exact hK h7 ((S6.only (O4.trans O5 ak) t).trans O7 ak)
def F4.T:bi:=⟨[(9,[1,5,7]),(15,[1,5,7]),(18,[1,5,7,9]),(21,[1,5,7,9,10]),(27,[5])],[(14,[[(0,[]),(1,[]),(2,[]),(3,[]),(4,[]),(5,[]),(6,[]),(7,[]),(10,[]),(11,[]),(12,[]),(13,[]),(14,[]),(15,[]),(8,[0,1,2,3,4,5,6,10,11,12,13,14,15]),(9,[]),(16,[])]])]⟩
section
variable (n m9 m18:Nat)(j:Int)(b:az)(a d:Nat)(f:az)(c i g:Int)(h:aI)(K:KK)
def F4.wL21:Prop:=Lr Tryz.f4 F4.T [1,1,1,1,1,0,1,0,0,1,0,0,1,1,1,1,0,0,1,0,0,1,0] [m9,m18] n [(1,(.slice b a d)),(5,(aA f)),(7,(ap c)),(9,(ap i)),(10,(ap g))] h K
def F4.wL18:Prop:=Lr Tryz.f4 F4.T [1,1,1,1,1,0,1,0,0,1,0,0,1,1,1,1,0] [m9] n [(1,(.slice b a d)),(5,(aA f)),(7,(ap c)),(9,(ap i))] h K
def F4.wL9:Prop:=Lp Tryz.f4 F4.T [1,1,1,1,1,0,1,0] n [(1,(.slice b a d)),(5,(aA f)),(7,(ap c))] h K
def F4.sL21:F4.wL21 (n+1) m9 m18 b a d f c i g h K=(aK (g<4) (Cl 28 [aA f,ap i,ap g] h λe j=> ∃k:Int,∃l:Bool,e=(.tuple #[aq k,aD l])/\Cl 23 [aA f] j λe j=>a8 (some e) λe=>Cl 29 [aA e,aq k] j λe j=> ∃k:Int,∃m:Int,∃o:Int,∃p:Int,∃q:Bool,e=(.tuple #[.agg #[ar k,ar m,ar o,ar p],aD q])/\bf j (.cells #[ar 0,ar 0,ar 0,ar 0] 51) λe j=>aW j ((aw e).add 0) (ar k) λj=>aW j ((aw e).add 1) (ar m) λj=>aW j ((aw e).add 2) (ar o) λj=>aW j ((aw e).add 3) (ar p) λe=>aK l (aK (!q) (K aB e) (F4.wL21 n m9 m18 b a d f c i (ax (g+1)) e K)) (F4.wL21 n m9 m18 b a d f c i (ax (g+1)) e K)) (F4.wL18 m18 m9 b a d f c (ax (i+1)) h K)):=by kernel_rfl
def F4.wk21:Prop:=(∃e,F4.wL21 e m9 m18 b a d f c i g h K)
def F4.sL18:F4.wL18 (n+1) m9 b a d f c i h K=(aK (i<4) (F4.wk21 m9 n b a d f c i 0 h K) (F4.wL9 m9 b a d f (ax (c+1)) h K)):=by kernel_rfl
def F4.wk18:Prop:=(∃e,F4.wL18 e m9 b a d f c i h K)
def F4.wk15:Prop:=Cl 23 [aA f] h λe g=>a8 (some e) λe=>Cl 22 [aA e] g λe g=>bP (some e) λe=>aK (!e) (K aB g) (F4.wk18 m9 b a d f c 0 g K)
def F4.wk27:Prop:=Cl 30 [aA f] h λa b=>bP (some a) λa=>aK a (Cl 23 [aA f] b λa b=>a8 (some a) λa=>Cl 22 [aA a] b λa b=>bP (some a) λa=>K (aD a) b) (K aB b)
def F4.sL9:F4.wL9 (n+1) b a d f c h K=(aK (c<(a:Int)) (aY b λe=>0<=c/\c<(a:Int)/\aQ .u8 (rd h ((e.add (c.toNat*8)).add 0)) λe=>(4:Int)≠0/\aY b λg=>0<=c/\c<(a:Int)/\bP (rd h ((g.add (c.toNat*8)).add 3)) λg=>aK g (aY b λg=>0<=c/\c<(a:Int)/\aQ .u8 (rd h ((g.add (c.toNat*8)).add 0)) λi=>aQ .u8 (rd h ((g.add (c.toNat*8)).add 1)) λj=>aQ .u8 (rd h ((g.add (c.toNat*8)).add 2)) λk=>bP (rd h ((g.add (c.toNat*8)).add 3)) λl=>aQ .u8 (rd h ((g.add (c.toNat*8)).add 4)) λm=>aQ .u8 (rd h ((g.add (c.toNat*8)).add 5)) λo=>aQ .u16 (rd h ((g.add (c.toNat*8)).add 6)) λp=>aQ .u8 (rd h ((g.add (c.toNat*8)).add 7)) λg=>Cl 25 [.agg #[.int .u8 i,.int .u8 j,.int .u8 k,aD l,.int .u8 m,.int .u8 o,.int .u16 p,.int .u8 g]] h λg i=> ∃j:Int,∃k:Int,∃l:Int,∃m:Int,∃o:Int,∃p:Int,∃q:Int,g=(.agg #[ap j,ap k,ap l,ap m,ap o,ap p,.int .u8 q])/\Cl 24 [aA f,ap (ax (Int.tmod e 4)),.agg #[ap j,ap k,ap l,ap m,ap o,ap p,.int .u8 q]] i λe g=>aQ .i64 (some e) λ_=>F4.wk15 n b a d f c g K) (aY b λe=>0<=c/\c<(a:Int)/\aQ .u8 (rd h ((e.add (c.toNat*8)).add 1)) λg=>aY b λi=>0<=c/\c<(a:Int)/\aQ .u8 (rd h ((i.add (c.toNat*8)).add 2)) λj=>Cl 27 [aA f] h λk l=>aQ .i64 (some k) λk=>aF (aA f)/\aF (.slice b a d)/\aF (ap c)/\aY b λm=>0<=c/\c<(a:Int)/\aG (au (m.add (c.toNat*8))) (au (e.add (c.toNat*8)))/\aF (au ((e.add (c.toNat*8)).add 1))/\aQ .u8 (rd l ((e.add (c.toNat*8)).add 1)) λe=>aG (.int .u8 e) (.int .u8 g)/\aF (ap (ax g))/\aF (.slice b a d)/\aF (ap c)/\aY b λe=>0<=c/\c<(a:Int)/\aG (au (e.add (c.toNat*8))) (au (i.add (c.toNat*8)))/\aF (au ((i.add (c.toNat*8)).add 2))/\aQ .u8 (rd l ((i.add (c.toNat*8)).add 2)) λe=>aG (.int .u8 e) (.int .u8 j)/\aF (ap (ax j))/\k≠0/\Cl 26 [aA f,ap (Int.tmod (ax g) k),ap (ax j)] l λe g=>bP (some e) λ_=>F4.wk15 n b a d f c g K)) (F4.wk27 f h K)):=by kernel_rfl
def F4.wk9:Prop:=(∃e,F4.wL9 e b a d f c h K)
def F4.spec(H:Cl 17 [] h λc e=>bP (some c) λc=>aK (!c) (K aB e) (aK ((a:Int)>(120:Int)) (K aC e) (((4:Int)≠0/\Cl 18 [ap 8,ap 16384,ap (ax ((ax (Int.tmod j 4))+1))] e λc e=> ∃f:az,∃g:Int,c=(.tuple #[aA f,ap g])/\aK (g !=0) (K aB e) (F4.wk9 b a d f 0 e K))))):Cl 4 [.int .u8 j,.slice b a d] h K:=cT F4.T Tryz.func4 H
end
def F25.T:bi:=⟨[(17,[2,3])],[(3,[[(0,[]),(1,[]),(2,[]),(3,[]),(4,[]),(5,[]),(6,[0,1,2,3,4]),(7,[]),(8,[])]]),(8,[[(0,[]),(1,[]),(2,[]),(3,[]),(4,[0,1,2]),(5,[]),(6,[])]])]⟩
section
variable (a m:Addr)(h:aI)(K:KK)
def F25.wk17:Prop:=aQ .i64 (rd h (m.add 0)) λb=>aQ .i64 (rd h (m.add 1)) λc=>aQ .i64 (rd h (m.add 2)) λd=>aQ .i64 (rd h (m.add 3)) λe=>aQ .i64 (rd h (m.add 4)) λf=>aQ .i64 (rd h (m.add 5)) λg=>aQ .u8 (rd h (m.add 6)) λi=>aW h (a.add 0) (ap b) λb=>aW b (a.add 1) (ap c) λb=>aW b (a.add 2) (ap d) λb=>aW b (a.add 3) (ap e) λb=>aW b (a.add 4) (ap f) λb=>aW b (a.add 5) (ap g) λb=>aW b (a.add 6) (.int .u8 i) λb=>aQ .i64 (rd b (a.add 0)) λc=>aQ .i64 (rd b (a.add 1)) λd=>aQ .i64 (rd b (a.add 2)) λe=>aQ .i64 (rd b (a.add 3)) λf=>aQ .i64 (rd b (a.add 4)) λg=>aQ .i64 (rd b (a.add 5)) λi=>aQ .u8 (rd b (a.add 6)) λa=>K (.agg #[ap c,ap d,ap e,ap f,ap g,ap i,.int .u8 a]) b
def F25.spec(b c d:Int)(f:Bool)(g i j l:Int)(h:aI)(K:KK)(H:bf h (.cells #[.int .u8 b,.int .u8 c,.int .u8 d,aD f,.int .u8 g,.int .u8 i,.int .u16 j,.int .u8 l] 38) λa b=>bf b (.cells #[ap 0,ap 0,ap 0,ap 0,ap 0,ap 0,.int .u8 0] 41) λb c=>aQ .u16 (rd c ((aw a).add 6)) λd=>(4:Int)≠0/\aQ .u16 (rd c ((aw a).add 6)) λe=>(4:Int)≠0/\(4:Int)≠0/\aQ .u16 (rd c ((aw a).add 6)) λf=>(16:Int)≠0/\(4:Int)≠0/\aQ .u16 (rd c ((aw a).add 6)) λg=>(64:Int)≠0/\(4:Int)≠0/\aQ .u8 (rd c ((aw a).add 7)) λi=>bf c (.cells #[ap 0,ap 0,ap 0,ap 0,ap 0,ap 0,.int .u8 0] 41) λc j=>aW j ((aw c).add 0) (ap 0) λj=>aW j ((aw c).add 1) (ap 0) λj=>aW j ((aw c).add 2) (ap (ax (Int.tmod d 4))) λd=>aW d ((aw c).add 3) (ap (ax (Int.tmod (IntKind.wrap .u16 (Int.tdiv e 4)) 4))) λd=>aW d ((aw c).add 4) (ap (ax (Int.tmod (IntKind.wrap .u16 (Int.tdiv f 16)) 4))) λd=>aW d ((aw c).add 5) (ap (ax (Int.tmod (IntKind.wrap .u16 (Int.tdiv g 64)) 4))) λd=>aW d ((aw c).add 6) (.int .u8 i) λd=>aQ .u8 (rd d ((aw a).add 4)) λe=>(12:Int)≠0/\aK ((Int.tmod e 12)==0) (aK ((Int.tmod e 12)==0) (aQ .u8 (rd d ((aw a).add 7)) λe=>(8:Int)≠0/\aW d (((aw c).add 0).add 0) (ap 1) λd=>aF (au ((aw a).add 7))/\aQ .u8 (rd d ((aw a).add 7)) λa=>aG (.int .u8 a) (.int .u8 e)/\(8:Int)≠0/\aF (.int .u8 (Int.tmod e 8))/\aW d (((aw c).add 6).add 0) (.int .u8 (Int.tmod e 8)) λa=>F25.wk17 (aw b) (aw c) a K) (aK ((Int.tmod e 12)==2) (aW d (((aw c).add 0).add 0) (ap 4) λa=>F25.wk17 (aw b) (aw c) a K) (aK ((Int.tmod e 12)==3) (aW d (((aw c).add 0).add 0) (ap 5) λa=>F25.wk17 (aw b) (aw c) a K) (aK ((Int.tmod e 12)==4) (aW d (((aw c).add 0).add 0) (ap 7) λa=>F25.wk17 (aw b) (aw c) a K) (aK ((Int.tmod e 12)==5) (aW d (((aw c).add 0).add 0) (ap 8) λa=>F25.wk17 (aw b) (aw c) a K) (aQ .u8 (rd d ((aw a).add 5)) λe=>(10:Int)≠0/\aW d (((aw c).add 0).add 0) (ap 3) λd=>aF (au ((aw a).add 5))/\aQ .u8 (rd d ((aw a).add 5)) λf=>aG (.int .u8 f) (.int .u8 e)/\(10:Int)≠0/\aF (.int .u8 (Int.tmod e 10))/\aF (ap (ax (Int.tmod e 10)))/\aF (ap (ax ((ax (Int.tmod e 10))+1)))/\aW d (((aw c).add 1).add 0) (ap (ax ((ax (Int.tmod e 10))+1))) λd=>aQ .i64 (rd d ((aw c).add 1)) λe=>aK (e==8) (aQ .u8 (rd d ((aw a).add 7)) λa=>(8:Int)≠0/\aW d (((aw c).add 6).add 0) (.int .u8 (Int.tmod a 8)) λa=>F25.wk17 (aw b) (aw c) a K) (F25.wk17 (aw b) (aw c) d K))))))) (aK ((Int.tmod e 12)==1) (aQ .u8 (rd d ((aw a).add 7)) λe=>(8:Int)≠0/\aW d (((aw c).add 0).add 0) (ap 1) λd=>aF (au ((aw a).add 7))/\aQ .u8 (rd d ((aw a).add 7)) λa=>aG (.int .u8 a) (.int .u8 e)/\(8:Int)≠0/\aF (.int .u8 (Int.tmod e 8))/\aW d (((aw c).add 6).add 0) (.int .u8 (Int.tmod e 8)) λa=>F25.wk17 (aw b) (aw c) a K) (aK ((Int.tmod e 12)==2) (aW d (((aw c).add 0).add 0) (ap 4) λa=>F25.wk17 (aw b) (aw c) a K) (aK ((Int.tmod e 12)==3) (aW d (((aw c).add 0).add 0) (ap 5) λa=>F25.wk17 (aw b) (aw c) a K) (aK ((Int.tmod e 12)==4) (aW d (((aw c).add 0).add 0) (ap 7) λa=>F25.wk17 (aw b) (aw c) a K) (aK ((Int.tmod e 12)==5) (aW d (((aw c).add 0).add 0) (ap 8) λa=>F25.wk17 (aw b) (aw c) a K) (aQ .u8 (rd d ((aw a).add 5)) λe=>(10:Int)≠0/\aW d (((aw c).add 0).add 0) (ap 3) λd=>aF (au ((aw a).add 5))/\aQ .u8 (rd d ((aw a).add 5)) λf=>aG (.int .u8 f) (.int .u8 e)/\(10:Int)≠0/\aF (.int .u8 (Int.tmod e 10))/\aF (ap (ax (Int.tmod e 10)))/\aF (ap (ax ((ax (Int.tmod e 10))+1)))/\aW d (((aw c).add 1).add 0) (ap (ax ((ax (Int.tmod e 10))+1))) λd=>aQ .i64 (rd d ((aw c).add 1)) λe=>aK (e==8) (aQ .u8 (rd d ((aw a).add 7)) λa=>(8:Int)≠0/\aW d (((aw c).add 6).add 0) (.int .u8 (Int.tmod a 8)) λa=>F25.wk17 (aw b) (aw c) a K) (F25.wk17 (aw b) (aw c) d K)))))))):Cl 25 [.agg #[.int .u8 b,.int .u8 c,.int .u8 d,aD f,.int .u8 g,.int .u8 i,.int .u16 j,.int .u8 l]] h K:=cT F25.T Tryz.func25 H
end
def zt{h:aI}{s:Nat}{L:List Nat}{X:SX}{K:KK}(H:bV h s L X)(hK: ∀h',aM [] h h'->K aC h'):Cl 22 [au (aw s)] h K:=by
 have ok:=H.ok;have t:=ok.1;refine F22.spec _ h K ?_;refine KF H λh1 p c Ow O1=>bB rfl ?_;have H1:=H.only0 O1;refine lC H1 (aH rfl ?_);rw[sX,show(((bj X.N:Nat):Int) !=((bj X.N:Nat):Int))=false by simp,aJ]
 have sr:Cl 70 [au (aw s)] h1 λv9 f=>v9=ap (X.room:Int)/\f=h1:=by obtain⟨B,F,e,H⟩:=H1;refine F70.spec ?_;exact aH (by rw[aL,At.rd H.m.S];rfl) ⟨rfl,rfl⟩
 refine sr.mono λv9 f ⟨e1,e2⟩=> ?_;subst e1 e2;refine aH rfl ?_;have hc:bj X.N<=X.room:=ah;rw[MJ ah,aJ,<-sX];unfold F22.wk5
 have at_: ∀i,i<(pj X.N).length-> ∃a x,(pj X.N)[i]? =some a/\2<=a/\nd X.N (a-2)=some x/\isN X.N a/\lvl X.n X.N a=x.1/\low X.N a=x.2.1/\high X.N a=x.2.2/\a<32770:=λi hi=>by
  have h0:(pj X.N)[i]? =some (pj X.N)[i]:=MT hi;obtain⟨h2,x,hx⟩:=EX.1 (MM h0);refine⟨_,x,h0,h2,hx,.inr ⟨x,hx⟩,?_,?_,?_,H.isN_lt (.inr ⟨x,hx⟩)⟩
  ·unfold lvl;rw[MG ah,hx]
  ·unfold low;rw[MG ah,hx]
  ·unfold high;rw[MG ah,hx]
 have up: ∀i j a b,i<j->(pj X.N)[i]? =some a->(pj X.N)[j]? =some b->a<b:=λi j a b z ha hb=>by have:=Od.1 (show(pj X.N).Pairwise (· < ·)from HX _) i j (MQ.1 ha).1 (MQ.1 hb).1 z;rw[(MQ.1 ha).2,(MQ.1 hb).2]at this;exact this
 have k: ∀{i:Nat} {a:Nat} {Q:Int->Prop},(pj X.N)[i]? =some a->Q (a:Int)->aY p (λa1=>(0<=(i:Int)/\(i:Int)<(Nat.cast (pj X.N).length:Int)/\aQ .u32 (rd f (Addr.add a1 (Int.toNat (i:Int)*1))) Q)):=λ{i a Q} ha hQ=>by have hi:=(MQ.1 ha).1;obtain⟨b,eb,rr⟩:=Ow.rd (j:=i) (by simpa using hi);rw[eb,aT,aL,MF,show Int.toNat (i:Int)*1=i by omega,rr];exact⟨ah,ah,aH (n:=(a:Int)) (by simp[ha]) hQ⟩
 have I:(pj X.N).length<=32768:=by rw[sX];omega
 have o: ∀{bk i a:Nat} {x:Nd},(pj X.N)[i]? =some a->nd X.N (a-2)=some x->F22.wL5 bk (aw s) p (pj X.N).length c ((i+1:Nat):Int) f K->
   ∀(d j:Nat),j+d=i->F22.wL12 (d+1) bk (aw s) p (pj X.N).length c (i:Int) (x.1:Int) (x.2.1:Int) (x.2.2:Int) (j:Int) f K:=by
  intro bk i a x ha hx A d;have hi:=(MQ.1 ha).1
  induction d with
  |zero=>
   intro j hj;rw[F22.sL12];rw[MJ ah,aJ,show ax ((i:Int)+1)=((i+1:Nat):Int) by rw[wrap_i64 ah ah];omega];exact A
  |succ d ih=>
   intro j hj;obtain⟨b,y,hb,b2,hy,nb,el,q,l,-⟩:=at_ j ah;have lt:=up j i b a ah hb ha;rw[F22.sL12];rw[MP ah,aO,show ax ((j:Int)+1)=((j+1:Nat):Int) by rw[wrap_i64 ah ah];omega];have nx:=ih (j+1) ah;refine k hb (cy H1 nb (aH rfl (aS (λg1=> ?_) λ_=>nx)));refine k hb (fN H1 nb (aH rfl (aS (λg2=> ?_) λ_=>nx)));refine k hb (dG H1 nb (aH rfl (aS (λg3=> ?_) λ_=>nx)));exfalso;have e1:(lvl X.n X.N b:Int)=(x.1:Int):=Qp g1;have e2:(low X.N b:Int)=(x.2.1:Int):=Qp g2;have e3:(high X.N b:Int)=(x.2.2:Int):=Qp g3;rw[el]at e1;rw[q]at e2;rw[l]at e3
   have:y=x:=by obtain⟨y1,y2,y3⟩:=y;obtain⟨x1,x2,x3⟩:=x;have e1:(y1:Int)=x1:=e1;have e2:(y2:Int)=x2:=e2;have e3:(y3:Int)=x3:=e3;rw[PR e1,PR e2,PR e3]
   subst this;have:=t.once _ _ _ hy hx;omega
 have u: ∀(d i:Nat),i+d=(pj X.N).length->F22.wL5 (d+1) (aw s) p (pj X.N).length c (i:Int) f K:=by
  intro d
  induction d with
  |zero=>
   intro i hi;rw[F22.sL5];rw[MJ ah,aJ];exact hK _ O1
  |succ d ih=>
   intro i hi;obtain⟨a,x,ha,a2,hx,na,el,q,l,D⟩:=at_ i ah;obtain⟨q1,q2,q3,q4,q5,q6⟩:=t.node _ x hx;have C:=H.isN_lt q2;have G:=H.isN_lt q3;rw[F22.sL5];rw[MP ah,aO];have nx:=ih (i+1) ah
   have v:F22.wk12 (d+1) (aw s) p (pj X.N).length c (i:Int) (x.1:Int) (x.2.1:Int) (x.2.2:Int) 0 f K:=by unfold F22.wk12;exact⟨_,o ha hx nx i 0 ah⟩
   refine k ha (cy H1 na (aH rfl (fN H1 na (aH rfl (dG H1 na (aH rfl ?_))))));rw[el,q,l,MJ ah,aJ];refine aS (λg=> ?_) λg=> ?_
   ·have g:(i:Int)>0:=MV g;obtain⟨b,y,hb,-⟩:=at_ (i-1) ah;have lt:=up (i-1) i b a ah hb ha;rw[show ax ((i:Int)-1)=((i-1:Nat):Int) by rw[wrap_i64 ah ah];omega];refine k hb ?_;rw[MJ ah,aJ];refine fP H1 na (aZ rfl ?_);rw[Ng,aJ,MJ ah,aJ];refine dE H1 (aH rfl ?_);rw[MJ ah,aJ,show((x.2.1:Int)==(x.2.2:Int))=false by simp;omega,aJ];refine fP H1 q2 (aZ rfl ?_);rw[Ng,aJ];refine fP H1 q3 (aZ rfl ?_);rw[Ng,aJ];refine cy H1 q2 (aH rfl ?_);rw[MJ ah,aJ];refine cy H1 q3 (aH rfl ?_);rw[MJ ah,aJ];exact v
   ·refine fP H1 na (aZ rfl ?_);rw[Ng,aJ,MJ ah,aJ];refine dE H1 (aH rfl ?_);rw[MJ ah,aJ,show((x.2.1:Int)==(x.2.2:Int))=false by simp;omega,aJ];refine fP H1 q2 (aZ rfl ?_);rw[Ng,aJ];refine fP H1 q3 (aZ rfl ?_);rw[Ng,aJ];refine cy H1 q2 (aH rfl ?_);rw[MJ ah,aJ];refine cy H1 q3 (aH rfl ?_);rw[MJ ah,aJ];exact v
 exact⟨_,u (pj X.N).length 0 ah⟩
section
open Go Go.ChangeShapes Go.WideShapes Go.ChangeAt Go.RowKit
end
end Go.Proofs.YtnofenejoebkhaaGreat.Ev
