/- PART 4 OF WHAT THE LAW WholeTotal STANDS ON. Conditions: none but those that each lemma states. -/
import Derived.Test.YtnofenejoebkhaaGreatG3
namespace Go.Proofs.YtnofenejoebkhaaGreat.Ev
open Go
set_option linter.defProp false
set_option maxRecDepth 100000
set_option autoImplicit true
set_option relaxedAutoImplicit true
def og{f:Fk}(h:FN N f)(a:fV f.op)(e:f.fn=180):dp n fo N f:=⟨h,.inl ⟨a,.inl e,λz=>ah⟩⟩
def nu{fr:Fk}{f1:Fk}(D: ∀b∈({A with fs:=fl++[fr]}:MA).bl,b∉L)(E:yB h s n room fo gg off N A fl fr K L)(H:bT h1 s L (XL n room fo gg N off))(M:bG h1 s {A with fs:=fl++[f1]})(O1:aM (L++({A with fs:=fl++[fr]}:MA).bl) h h1)(ok:cX n N)(hb:f1.b=fr.b)(hl:l<n)(n1:isN N f1.a1)(n2:isN N f1.low)(nf: ¬tj fr/\ ¬nW fr)
  (m1:bJ n+1<=eF n N fr) (m2:bN n+1<=dZ n N fr):Cl 303 [bf f1.b,ap (l:Int)] h1 (λv h'=>v=aE/\K aE h'):=by
 have eb:({A with fs:=fl++[f1]}:MA).bl=({A with fs:=fl++[fr]}:MA).bl:=by simp[MA.bl,hb]
 have z1:=O1.size;have c0: ∀{N':ay},isN N' 0:= .inl ah
 have tr: ∀{h':aI} {S:List Nat},aM (L++({A with fs:=fl++[f1]}:MA).bl) h1 h'->aM (L++({A with fs:=fl++[fr]}:MA).bl) h h':=λ{h' S} O=>by rw[eb]at O;exact O1.trans O λb hb _=>hb
 have fe: ∀{L':List Nat},bC L L' h1->bC L L' h:=λg b hb=>(g b hb).imp id λz=>ah;refine vf H M (by rw[eb];exact D) hl (λh' L' N' v E1 cN iv sv S' M' O g=>⟨rfl,?_⟩) λh' L' hf S' M' O g=>⟨rfl,E.full S' M' (tr (S:=[]) O) (fe g)⟩;have a:=S'.ok;dsimp only[XL]at a;have jl:=kS (n:=n) (N:=N') (f:={f1 with op:=5,mask:=0,a0:=v,a1:=f1.a1,a2:=f1.low,low:=0,fn:=180}) rfl;refine E.turn (fr':={f1 with op:=5,mask:=0,a0:=v,a1:=f1.a1,a2:=f1.low,low:=0,fn:=180}) hb E1 S' M' (tr (S:=[]) O) (fe g) (og ⟨iv,E1.isN n1,E1.isN n2,c0⟩ (.inr (.inr (.inr rfl))) rfl) (λg0 q=>q.free nf.1 nf.2) (.inl (.inl rfl)) ah ah
def rD{A:MA}{fl:List Fk}{fr:Fk}(H:bT h s L (XL n room fo gg N off))(M:bG h s {A with fs:=fl++[fr]})(D: ∀b∈({A with fs:=fl++[fr]}:MA).bl,b∉L)(hl:fl.length<900000)(F:dp n fo N fr)(a: ∀v,v<n->gg v<n)(hc:(fr.fn=137\/fr.fn=188\/fr.fn=233)\/fr.fn=279)(ht:fD fr\/eH n fo N fr A.told)(E:yB h s n room fo gg off N A fl fr K L):dS Tryz.prog X (iY fr.fn fr.b) [] h K:=by
 have ok:=H.ok;dsimp only[XL]at ok;obtain⟨a0,a1,a2,al⟩:=F.nn;have c0:isN N 0:= .inl ah;have nf: ¬tj fr/\ ¬nW fr:=Lg ah;rcases hc with(e|e|e)|e
 ·obtain⟨mn,-⟩:=F.co (.inl e);have m1:=CQ (n:=n) (N:=N) e;have ps:=Fq (n:=n) (k:=n-lvl n N fr.a0);unfold iY;rw[e];refine bj JU (wh H M D hl mn a0 (λhg h' fp S' M' ep O=> ?_) (λhg h' S' M' O=> ?_) λhg h' b fp fc hb S' M' g O=> ?_)
  ·exact E.pop (Ex.refl _) S' M' ep O (bC.refl _ _) (kQ nf a0) ah
  ·have c:2<=fr.a0\/fr.a0<2:=ah
   have nl:isN N (high N fr.a0)/\isN N (low N fr.a0):=by
    rcases c with z|z
    ·exact⟨(lh ok.1 a0 z).2.2.1,(lh ok.1 a0 z).2.1⟩
    ·unfold high low;rw[L4 z,L4 z];exact⟨by first|exact .inl ah|exact a0,by first|exact .inl ah|exact a0⟩
   have jl:=kS (n:=n) (N:=N) (f:={fr with op:=5,mask:=0,a0:=fr.a1,a1:=high N fr.a0,a2:=low N fr.a0,low:=0,fn:=180}) rfl;exact E.turn (fr':={fr with op:=5,mask:=0,a0:=fr.a1,a1:=high N fr.a0,a2:=low N fr.a0,low:=0,fn:=180}) rfl (Ex.refl _) S' M' O (bC.refl _ _) (og ⟨a1,nl.1,nl.2,c0⟩ (.inr (.inr (.inr rfl))) rfl) (λg0 q=>q.free nf.1 nf.2) (.inl (.inl rfl)) ah ah
  ·have h2:2<=fr.a0:=by
    apply Mi;intro hn;have:lvl n N fr.a0=n:=by unfold lvl;rw[L4 ah]
    have:=(a _ mn);omega
   obtain⟨h3,h4,h5,h6,h7⟩:=lh ok.1 a0 h2;have m2:eF n N {fr with level:=lvl n N fr.a0,fn:=188}=cS n (n-lvl n N fr.a0-1)+bJ n+3/\dZ n N {fr with level:=lvl n N fr.a0,fn:=188}=cB n (n-lvl n N fr.a0-1)+bN n+1:=FC rfl;have m3:=CQ (n:=n) (N:=N) (f:=⟨b,fr.op,fr.mask,low N fr.a0,fr.a1,0,0,0,137⟩) rfl;have mo:=eN (n:=n) (show n-lvl n N (low N fr.a0)<=n-lvl n N fr.a0-1 by omega);obtain⟨k,ek⟩: ∃k,n-lvl n N fr.a0=k+1:=⟨n-lvl n N fr.a0-1,ah⟩;have e1:cS n (k+1)=2*cS n k+bJ n+4:=rfl;have e2:cB n (k+1)=2*cB n k+bN n+1:=rfl;have d:n-lvl n N fr.a0-1=k:=ah;rw[ek]at m1;rw[d]at m2 mo;refine E.lay (fr':={fr with level:=lvl n N fr.a0,fn:=188}) (g:=⟨b,fr.op,fr.mask,low N fr.a0,fr.a1,0,0,0,137⟩) rfl rfl hb S' M' g O ⟨⟨a0,a1,a2,al⟩,.inr (.inr (.inl ⟨.inr ⟨.inl rfl,h2⟩,mn⟩))⟩ (λg0 q=>q.free nf.1 nf.2) ⟨⟨h4,a1,c0,c0⟩,.inr (.inr (.inl ⟨.inl rfl,mn⟩))⟩ (dJ.none ak) (.inr (.inr (.inl rfl))) ?_ ?_
   ·rw[m1.1,m2.1,m3.1];show _+cS n (n-lvl n N (low N fr.a0))+1<=_;omega
   ·rw[m1.2,m2.2,m3.2];show _+cB n (n-lvl n N (low N fr.a0))<=_;omega
 ·obtain⟨mn,h2⟩:=F.co (.inr (.inl e));have h2:=h2 ah;have W:eH n fo N fr A.told:=ht.resolve_left λz=>by unfold fD at z;omega
  obtain⟨h3,h4,h5,h6,h7⟩:=lh ok.1 a0 h2;unfold iY;rw[e];refine bj JJ (Dn H M D hl a0 λh' b fp fc hb M' g O=> ?_);have m1:=FC (n:=n) (N:=N) e;have m2:=Fy (n:=n) (N:=N) (f:={fr with low:=A.told,fn:=233}) rfl;have m3:=CQ (n:=n) (N:=N) (f:=⟨b,fr.op,fr.mask,high N fr.a0,fr.a1,0,0,0,137⟩) rfl;have mo:=eN (n:=n) (show n-lvl n N (high N fr.a0)<=n-lvl n N fr.a0-1 by omega);refine E.lay (fr':={fr with low:=A.told,fn:=233}) (g:=⟨b,fr.op,fr.mask,high N fr.a0,fr.a1,0,0,0,137⟩) rfl rfl hb (H.only O λb hb hm=>D b hb hm) M' g (O.mono λb hb _=>Zp (.inr hb)) ⟨⟨a0,a1,a2,W.is⟩,.inr (.inr (.inl ⟨.inr ⟨.inr rfl,h2⟩,mn⟩))⟩ (λg0 q=>q.free nf.1 nf.2) ⟨⟨h5,a1,c0,c0⟩,.inr (.inr (.inl ⟨.inl rfl,mn⟩))⟩ (dJ.none ak) (.inr (.inr (.inl rfl))) ?_ ?_
  ·rw[m1.1,m2.1,m3.1];show _+cS n (n-lvl n N (high N fr.a0))+1<=_;omega
  ·rw[m1.2,m2.2,m3.2];show _+cB n (n-lvl n N (high N fr.a0))<=_;omega
 ·obtain⟨mn,h2⟩:=F.co (.inr (.inr e));have h2:=h2 ah;have W:eH n fo N fr A.told:=ht.resolve_left λz=>by unfold fD at z;omega
  obtain⟨h3,h4,h5,h6,h7⟩:=lh ok.1 a0 h2;unfold iY;rw[e];have m1:=Fy (n:=n) (N:=N) e;have m2:=Fb (n:=n) (N:=N) (f:={fr with a1:=A.told,fn:=279,level:=lvl n N fr.a0}) rfl;refine bj IK (DO H M D a0 λh' S' M' O=> ?_);refine E.turn (fr':={fr with a1:=A.told,fn:=279,level:=lvl n N fr.a0}) rfl (Ex.refl _) S' M' (O.mono λb hb _=> ?_) (bC.refl _ _) ⟨⟨a0,W.is,a2,al⟩,.inr (.inr (.inr (.inl ⟨rfl,h3⟩)))⟩ (λg0 q=>q.free nf.1 nf.2) (.inr (vl ak W.is)) ah ah;simp only[LZ]at hb;subst hb;exact Zp (.inr bP)
 ·have ln:=F.cn e;have m1:=Fb (n:=n) (N:=N) e;unfold iY;rw[e];exact bj Jo (zX M (nu D E H M (aM.refl _ _) ok.1 rfl ln a1 al nf ah ah))
def Cu{A:MA}{fl:List Fk}{fr:Fk}(H:bT h s L (XL n room fo gg N off))(M:bG h s {A with fs:=fl++[fr]})(D: ∀b∈({A with fs:=fl++[fr]}:MA).bl,b∉L)(hl:fl.length<900000)(F:dp n fo N fr)(po:cu n fo gg)
  (hc:fr.fn=192\/fr.fn=237\/fr.fn=281\/fr.fn=138\/fr.fn=190\/fr.fn=234\/fr.fn=139\/fr.fn=191\/fr.fn=236\/fr.fn=280) (ht:fD fr\/eH n fo N fr A.told) (E:yB h s n room fo gg off N A fl fr K L):dS Tryz.prog X (iY fr.fn fr.b) [] h K:=by
 have ok:=H.ok;dsimp only[XL]at ok;have n8:n<=8:=ok.2.2.1;obtain⟨a0,a1,a2,al⟩:=F.nn;have c0:isN N 0:= .inl ah;have nf: ¬tj fr/\ ¬nW fr:=Lg ah;obtain⟨ev,t2,t0⟩:=F.tu hc;have W: ¬fD fr->eH n fo N fr A.told:=λz=>ht.resolve_left z;have a: ∀k,k<256->k%2^n<256:=λk hk=>OV (Nat.mod_le _ _) hk;rcases hc with e|e|e|e|e|e|e|e|e|e
 ·have m1:=zn (n:=n) (N:=N) e;unfold iY;rw[e];refine bj HP (Dy H M D hl a0 (λhg h' fp S' M' ep O=> ?_) λh2 h' b fp fc hb S' M' g O=> ?_)
  ·exact E.pop (Ex.refl _) S' M' ep O (bC.refl _ _) (kQ nf a0) ah
  ·obtain⟨h3,h4,h5,h6,h7⟩:=lh ok.1 a0 h2;have m2:eF n N {fr with level:=lvl n N fr.a0,fn:=237}=tS n (n-lvl n N fr.a0-1)+bJ n+2/\dZ n N {fr with level:=lvl n N fr.a0,fn:=237}=qB n (n-lvl n N fr.a0-1)+bN n+1:=E4 rfl;have m3:=zn (n:=n) (N:=N) (f:=⟨b,fr.op,fr.mask,low N fr.a0,fr.a1,0,0,0,192⟩) rfl;have mo:=eN (n:=n) (show n-lvl n N (low N fr.a0)<=n-lvl n N fr.a0-1 by omega);obtain⟨k,ek⟩: ∃k,n-lvl n N fr.a0=k+1:=⟨n-lvl n N fr.a0-1,ah⟩;have e1:tS n (k+1)=2*tS n k+bJ n+3:=rfl;have e2:qB n (k+1)=2*qB n k+bN n+1:=rfl;have c:n-lvl n N fr.a0-1=k:=ah;rw[ek]at m1;rw[c]at m2 mo;refine E.lay (fr':={fr with level:=lvl n N fr.a0,fn:=237}) (g:=⟨b,fr.op,fr.mask,low N fr.a0,fr.a1,0,0,0,192⟩) rfl rfl hb S' M' g O ⟨⟨a0,a1,a2,al⟩,.inr (.inr (.inr (.inr ⟨ev,.inr (.inl ⟨.inl rfl,h2,rfl⟩)⟩)))⟩ (λg0 q=>q.free nf.1 nf.2) ⟨⟨h4,a1,c0,c0⟩,.inr (.inr (.inr (.inr ⟨ev,.inl rfl⟩)))⟩ (dJ.none ak) (.inr (.inr (.inr (.inl rfl)))) ?_ ?_
   ·rw[m1.1,m2.1,m3.1];show _+tS n (n-lvl n N (low N fr.a0))+1<=_;omega
   ·rw[m1.2,m2.2,m3.2];show _+qB n (n-lvl n N (low N fr.a0))<=_;omega
 ·obtain⟨h2,lv⟩:=t2 (.inl e);have W:=W (λz=>by unfold fD at z;omega);obtain⟨h3,h4,h5,h6,h7⟩:=lh ok.1 a0 h2;unfold iY;rw[e];refine bj J7 (D3 H M D hl a0 λh' b fp fc hb M' g O=> ?_);have m1:=E4 (n:=n) (N:=N) e;have m2:=FG (n:=n) (N:=N) (f:={fr with low:=A.told,fn:=281}) rfl;have m3:=zn (n:=n) (N:=N) (f:=⟨b,fr.op,fr.mask,high N fr.a0,fr.a1,0,0,0,192⟩) rfl;have mo:=eN (n:=n) (show n-lvl n N (high N fr.a0)<=n-lvl n N fr.a0-1 by omega);refine E.lay (fr':={fr with low:=A.told,fn:=281}) (g:=⟨b,fr.op,fr.mask,high N fr.a0,fr.a1,0,0,0,192⟩) rfl rfl hb (H.only O λb hb hm=>D b hb hm) M' g (O.mono λb hb _=>Zp (.inr hb)) ⟨⟨a0,a1,a2,W.is⟩,.inr (.inr (.inr (.inr ⟨ev,.inr (.inl ⟨.inr rfl,h2,lv⟩)⟩)))⟩ (λg0 q=>q.free nf.1 nf.2) ⟨⟨h5,a1,c0,c0⟩,.inr (.inr (.inr (.inr ⟨ev,.inl rfl⟩)))⟩ (dJ.none ak) (.inr (.inr (.inr (.inl rfl)))) ?_ ?_
  ·rw[m1.1,m2.1,m3.1];show _+tS n (n-lvl n N (high N fr.a0))+1<=_;omega
  ·rw[m1.2,m2.2,m3.2];show _+qB n (n-lvl n N (high N fr.a0))<=_;omega
 ·obtain⟨h2,lv⟩:=t2 (.inr e);have W:=W (λz=>by unfold fD at z;omega);obtain⟨h3,h4,h5,h6,h7⟩:=lh ok.1 a0 h2;have pr:=Aw po n8 ev;have m1:=FG (n:=n) (N:=N) e;unfold iY;rw[e];refine bj JE (BG H M D pr ah λh' S' M' O=> ?_);exact nu (f1:={fr with a1:=A.told}) D E S' M' (O.mono λb hb _=>by simp only[LZ]at hb;subst hb;exact Zp (.inr bP)) ok.1 rfl (pr fr.level ah).2.2.1 W.is al nf ah ah
 ·have m1:=EY (n:=n) (N:=N) e;have z2:=t0 e;unfold iY;rw[e];refine bj JM (J8 H M D hl z2 λh' b fp fc hb S' M' g O=> ?_);have m2:=Fz (n:=n) (N:=N) (f:={fr with fn:=190}) rfl;have m3:=kS (n:=n) (N:=N) (f:=⟨b,2,0,fr.a0,fr.a1,0,0,0,180⟩) rfl;exact E.lay (fr':={fr with fn:=190}) (g:=⟨b,2,0,fr.a0,fr.a1,0,0,0,180⟩) rfl rfl hb S' M' g O ⟨⟨a0,a1,a2,al⟩,.inr (.inr (.inr (.inr ⟨ev,.inr (.inr (.inr (.inl rfl)))⟩)))⟩ (λg0 q=>q.free nf.1 nf.2) (og ⟨a0,a1,c0,c0⟩ (.inl rfl) rfl) (dJ.none ak) (.inl rfl) ah ah
 ·have W:=W (λz=>by unfold fD at z;omega);have m1:=Fz (n:=n) (N:=N) e;unfold iY;rw[e];refine bj Kf (Ii H M D hl λh' b fp fc hb S' M' g O=> ?_);have m2:=ET (n:=n) (N:=N) (f:={fr with fn:=234}) rfl;have m3:=vR (n:=n) (N:=N) (f:=⟨b,6,85%2^n,A.told,0,0,0,0,136⟩) rfl;have mo:=eN (n:=n) (show n-lvl n N A.told<=n by omega);refine E.lay (fr':={fr with fn:=234}) (g:=⟨b,6,85%2^n,A.told,0,0,0,0,136⟩) rfl rfl hb S' M' g O ⟨⟨a0,a1,a2,al⟩,.inr (.inr (.inr (.inr ⟨ev,.inr (.inr (.inr (.inr (.inl rfl))))⟩)))⟩ (λg0 q=>q.free nf.1 nf.2) ⟨⟨W.is,c0,c0,c0⟩,.inr (.inl ⟨.inl rfl,a 85 ah,.inl rfl⟩)⟩ (dJ.none ak) (.inr (.inl rfl)) ?_ ?_
  ·rw[m1.1,m2.1,m3.1];show _+qS n (n-lvl n N A.told)+1<=_;omega
  ·rw[m1.2,m2.2,m3.2];show _+qB n (n-lvl n N A.told)<=_;omega
 ·have W:=W (λz=>by unfold fD at z;omega);have m1:=ET (n:=n) (N:=N) e;unfold iY;rw[e];refine bj J6 (HN M λh' M' O=> ?_);have m2:eF n N {fr with a0:=A.told,a1:=0,a2:=0,fn:=192}=tS n (n-lvl n N A.told)/\dZ n N {fr with a0:=A.told,a1:=0,a2:=0,fn:=192}=qB n (n-lvl n N A.told):=zn rfl;have mo:=eN (n:=n) (show n-lvl n N A.told<=n by omega);refine E.turn (fr':={fr with a0:=A.told,a1:=0,a2:=0,fn:=192}) rfl (Ex.refl _) (H.only O λb hb hm=> ?_) M' (O.mono λb hb _=> ?_) (bC.refl _ _) ⟨⟨W.is,c0,c0,al⟩,.inr (.inr (.inr (.inr ⟨ev,.inl rfl⟩)))⟩ (λg0 q=>q.free nf.1 nf.2) (.inl (.inr (.inr (.inr (.inl rfl))))) ah ah
  ·simp only[LZ]at hb;subst hb;exact D _ bP hm
  ·simp only[LZ]at hb;subst hb;exact Zp (.inr bP)
 ·have m1:=FH (n:=n) (N:=N) e;unfold iY;rw[e];refine bj Jx (JZ H M D hl λh' b fp fc hb S' M' g O=> ?_);have m2:=FA (n:=n) (N:=N) (f:={fr with fn:=191}) rfl;have m3:=zn (n:=n) (N:=N) (f:=⟨b,fr.op,0,fr.a0,0,0,0,0,192⟩) rfl;have mo:=eN (n:=n) (show n-lvl n N fr.a0<=n by omega);refine E.lay (fr':={fr with fn:=191}) (g:=⟨b,fr.op,0,fr.a0,0,0,0,0,192⟩) rfl rfl hb S' M' g O ⟨⟨a0,a1,a2,al⟩,.inr (.inr (.inr (.inr ⟨ev,.inr (.inr (.inr (.inr (.inr (.inr (.inl rfl))))))⟩)))⟩ (λg0 q=>q.free nf.1 nf.2) ⟨⟨a0,c0,c0,c0⟩,.inr (.inr (.inr (.inr ⟨ev,.inl rfl⟩)))⟩ (dJ.none ak) (.inr (.inr (.inr (.inl rfl)))) ?_ ?_
  ·rw[m1.1,m2.1,m3.1];show _+tS n (n-lvl n N fr.a0)+1<=_;omega
  ·rw[m1.2,m2.2,m3.2];show _+qB n (n-lvl n N fr.a0)<=_;omega
 ·have W:=W (λz=>by unfold fD at z;omega);have m1:=FA (n:=n) (N:=N) e;unfold iY;rw[e];refine bj HR (Iz H M D hl λh' b fp fc hb S' M' g O=> ?_);have m2:=Fj (n:=n) (N:=N) (f:={fr with fn:=236}) rfl;have m3:=kS (n:=n) (N:=N) (f:=⟨b,2,0,A.told,fr.a1,0,0,0,180⟩) rfl;exact E.lay (fr':={fr with fn:=236}) (g:=⟨b,2,0,A.told,fr.a1,0,0,0,180⟩) rfl rfl hb S' M' g O ⟨⟨a0,a1,a2,al⟩,.inr (.inr (.inr (.inr ⟨ev,.inr (.inr (.inr (.inr (.inr (.inr (.inr (.inl rfl)))))))⟩)))⟩ (λg0 q=>q.free nf.1 nf.2) (og ⟨W.is,a1,c0,c0⟩ (.inl rfl) rfl) (dJ.none ak) (.inl rfl) ah ah
 ·have W:=W (λz=>by unfold fD at z;omega);have m1:=Fj (n:=n) (N:=N) e;unfold iY;rw[e];refine bj Ik (IA H M D hl λh' b fp fc hb S' M' g O=> ?_);have m2:=HX (n:=n) (N:=N) (f:={fr with fn:=280}) rfl;have m3:=vR (n:=n) (N:=N) (f:=⟨b,6,170%2^n,A.told,0,0,0,0,136⟩) rfl;have mo:=eN (n:=n) (show n-lvl n N A.told<=n by omega);refine E.lay (fr':={fr with fn:=280}) (g:=⟨b,6,170%2^n,A.told,0,0,0,0,136⟩) rfl rfl hb S' M' g O ⟨⟨a0,a1,a2,al⟩,.inr (.inr (.inr (.inr ⟨ev,.inr (.inr (.inr (.inr (.inr (.inr (.inr (.inr rfl)))))))⟩)))⟩ (λg0 q=>q.free nf.1 nf.2) ⟨⟨W.is,c0,c0,c0⟩,.inr (.inl ⟨.inl rfl,a 170 ah,.inl rfl⟩)⟩ (dJ.none ak) (.inr (.inl rfl)) ?_ ?_
  ·rw[m1.1,m2.1,m3.1];show _+qS n (n-lvl n N A.told)+1<=_;omega
  ·rw[m1.2,m2.2,m3.2];show _+qB n (n-lvl n N A.told)<=_;omega
 ·have W:=W (λz=>by unfold fD at z;omega);have m1:=HX (n:=n) (N:=N) e;unfold iY;rw[e];refine bj Ja (Bj M hl λh' fp M' ep O=> ?_);refine E.pop (Ex.refl _) (H.only O λb hb hm=> ?_) M' ep (O.mono λb hb _=> ?_) (bC.refl _ _) (kQ nf W.is) ah
  ·simp only[LZ]at hb;subst hb;exact D A.m (by simp[MA.bl]) hm
  ·simp only[LZ]at hb;subst hb;exact Zp (.inr (by simp[MA.bl]))
def nN(n:Nat)(fo:Nat->Nat)(N:ay)(A:MA):Prop:=
 (A.done=false/\A.e=0/\A.fs≠[]/\gc n fo N A.fs A.told)\/(A.done=true/\A.fs=[]/\((A.e=0/\isN N A.told)\/A.e=60))
def iU: ∀fs:List Fk,fs.length<=gO n N fs
 | []=>by simp[gO]
 |f::fs=>by have ih:=iU (n:=n) (N:=N) fs;have:=wK (n:=n) (N:=N) (f:=f);simp only[gO,Mz,Ot,Nh]at ih ⊢;omega
def qd: ∀{A B:ay},Ex A B->bi A<=bi B
 | [],B,_=>Nq _
 |none::A,[],h=>qd (A:=A) (B:=[]) λi x hx=>by have:=h (i+1) x (by rw[sG];exact hx);simp[nd]at this
 |some x::A,[],h=>by have:=h 0 x (by simp[nd]);simp[nd]at this
 |o::A,p::B,h=>by
  have:=qd (A:=A) (B:=B) λi x hx=>by have:=h (i+1) x (by rw[sG];exact hx);rwa[sG]at this
  simp only[bi,Nl]at this ⊢;cases o with
  |none=>simp;omega
  |some x=>
   have h0:=h 0 x (by simp[nd]);have e:p=some x:=by simpa[nd]using h0
   subst e;omega
def Eg{h:aI}{A:MA}{fl:List Fk}{fr:Fk}(H:bT h s L (XL n room fo gg N off))(M:bG h s {A with fs:=fl++[fr]})(D: ∀b∈({A with fs:=fl++[fr]}:MA).bl,b∉L)(hl:fl.length<900000)(R:gc n fo N (fl++[fr]) A.told)(po:cu n fo gg)(he:A.e=0)(hd:A.done=false)
  (hK: ∀h' L' N' A',A'.m=A.m->bT h' s L' (XL n room fo gg N' off)->bG h' s A'->(∀b∈A'.bl,b∉L')->Ex N N'->Ei n fo N N' {A with fs:=fl++[fr]} A'->aM (L++({A with fs:=fl++[fr]}:MA).bl) h h'->bC L L' h->(∀b∈A'.bl,b∈({A with fs:=fl++[fr]}:MA).bl\/h.size<=b)->K aE h'):
  dS Tryz.prog X (iY fr.fn fr.b) [] h K:=by
 have ok:=H.ok;dsimp only[XL]at ok;have F:=R.frs fr ak;have ht:=R.top fl fr rfl;have f:=M.lt
 have dj: ∀{L':List Nat} {A':MA},bC L L' h->(∀b∈A'.bl,b∈({A with fs:=fl++[fr]}:MA).bl)-> ∀b∈A'.bl,b∉L':=λg sub b hb hm=>by
  rcases g b hm with z|z
  ·exact D b (sub b hb) z
  ·have:=f b (sub b hb);omega
 have E:yB h s n room fo gg off N A fl fr K L:=by
  refine⟨λ{h' L' N' fp r} E S' M' ep O g T c=> ?_,λ{h' b fp fc fr' g} e1 e2 hb S' M' ow O F' lk Fg l1 eg m1 m2=> ?_,λ{h' L' N' fr'} e1 E S' M' O g F' lk t m1 m2=> ?_,λ{h' L'} S' M' O g=> ?_⟩
  ·have sub: ∀x∈({A with fp:=fp,fs:=fl,told:=r,done:=fl.isEmpty}:MA).bl,x∈({A with fs:=fl++[fr]}:MA).bl:=λx hx=>by
    simp only[MA.bl,List.mem_cons,List.mem_append,MJ]at hx ⊢;rw[ep]at hx;rcases hx with h|h|h
    ·exact .inl h
    ·exact .inr (.inl h)
    ·exact .inr (.inr (.inl h))
   have d:=S'.ok;dsimp only[XL]at d;exact hK h' L' N' {A with fp:=fp,fs:=fl,told:=r,done:=fl.isEmpty} rfl S' M' (dj g sub) E (Dd ok.1 d.1 E R T he c) O g λx hx=> .inl (sub x hx)
  ·have sub: ∀x∈({A with fp:=fp,fc:=fc,fs:=fl++[fr']++[g]}:MA).bl,x∈({A with fs:=fl++[fr]}:MA).bl\/h.size<=x:=λx hx=>by
    simp only[MA.bl,List.mem_cons,List.mem_append,MJ,Mz,N4,MR,Nk]at hx ⊢;rcases hx with h|h|(h|h)|h
    ·exact .inl (.inl h)
    ·exact(ow x h).imp (λh=> .inr (.inl h)) id
    ·exact .inl (.inr (.inr (.inl h)))
    ·exact .inl (.inr (.inr (.inr (h.trans e1))))
    ·exact .inr ah
   refine hK h' L N {A with fp:=fp,fc:=fc,fs:=fl++[fr']++[g]} rfl S' M' (λx hx hm=> ?_) (Ex.refl _) (CL R he hd F' lk Fg l1 eg m1 m2) O (bC.refl _ _) sub;rcases sub x hx with h|h
   ·exact D x h hm
   ·have:=H.lt x hm;omega
  ·have eb:({A with fs:=fl++[fr']}:MA).bl=({A with fs:=fl++[fr]}:MA).bl:=by simp[MA.bl,e1]
   exact hK h' L' N' {A with fs:=fl++[fr']} rfl S' M' (dj g λx hx=>by rw[<-eb];exact hx) E (BP ok.1 E R he hd F' lk t m1 m2) O g λx hx=> .inl (by rw[<-eb];exact hx)
  ·have sub: ∀x∈({A with fp:=none,fc:=0,fs:=[],done:=true,e:=60}:MA).bl,x∈({A with fs:=fl++[fr]}:MA).bl:=λx hx=>by
    simp[MA.bl,aV]at hx ⊢;exact .inl hx
   exact hK h' L' N {A with fp:=none,fc:=0,fs:=[],done:=true,e:=60} rfl S' M' (dj g sub) (Ex.refl _) (.inr (.inr ⟨rfl,rfl,rfl,rfl⟩)) O g λx hx=> .inl (sub x hx)
 have a: ∀v,v<n->gg v<n:=λv hv=>(po.1 v hv).1;rcases F.fns with c|c|c|c|c
 ·exact yk H M D hl F c ht E
 ·exact wI H M D hl F po c ht E
 ·exact rD H M D hl F a (.inl c) ht E
 ·exact rD H M D hl F a (.inr c) ht E
 ·exact Cu H M D hl F po c ht E
def nN.run{A:MA}(M:nN n fo N A)(h:A.done=false):A.e=0/\A.fs≠[]/\gc n fo N A.fs A.told:=by
 rcases M with⟨-,h1⟩|⟨h1,-⟩
 ·exact h1
 ·rw[h1]at h;cases h
def yu{B0 B1 B2:List Nat}{z0 z1:Nat}(a: ∀b∈B1,b∈B0\/z0<=b)(b: ∀b∈B2,b∈B1\/z1<=b)(hz:z0<=z1): ∀x∈B2,x∈B0\/z0<=x:=λx hx=>by
 rcases b x hx with h|h
 ·exact a x h
 ·exact .inr ah
def xB{h:aI}{s n room:Nat}{fo gg:Nat->Nat}{off:Bool}{N:ay}{A:MA}{K:KK}{L:List Nat}(H:bT h s L (XL n room fo gg N off))(M:bG h s A)(D: ∀b∈A.bl,b∉L)(hm:gO n N A.fs<=800000)(R:nN n fo N A)(po:cu n fo gg)(hd:A.done=false)
  (hK: ∀h' L' N' A',A'.m=A.m->bT h' s L' (XL n room fo gg N' off)->bG h' s A'->(∀b∈A'.bl,b∉L')->Ex N N'->nN n fo N' A'->gO n N' A'.fs<=gO n N A.fs->bi N'+iA n N' A'.fs<=bi N+iA n N A.fs->(A'.done=true\/bi N+1<=bi N')->
   aM (L++A.bl) h h'->bC L L' h->(∀b∈A'.bl,b∈A.bl\/h.size<=b)->K (aD A'.done) h'):
  Cl 114 [bf A.m] h K:=by
 refine F114.spec _ h K ?_;simp only[aL,LX];refine aQ (bI M.own).1 (n0 H (aH rfl ?_));unfold F114.wk2
 have k: ∀(d:Nat) (h1:aI) (L1:List Nat) (N1:ay) (A1:MA),gO n N1 A1.fs<=d->A1.m=A.m->bT h1 s L1 (XL n room fo gg N1 off)->bG h1 s A1->(∀b∈A1.bl,b∉L1)->Ex N N1->nN n fo N1 A1->
   gO n N1 A1.fs<=gO n N A.fs->bi N1+iA n N1 A1.fs<=bi N+iA n N A.fs->
   aM (L++A.bl) h h1->bC L L1 h->(∀b∈A1.bl,b∈A.bl\/h.size<=b)->F114.wL2 (d+1) (aw A.m) (bi N:Int) h1 K:=by
  intro d
  induction d with
  |zero=>
   intro h1 L1 N1 A1 q em S1 M1 D1 E1 R1 P1 C1 O1 g1 s1;have hz:A1.fs=[]:=MQ (by have:=iU (n:=n) (N:=N1) A1.fs;omega)
   have l:A1.done=true:=by
    rcases R1 with⟨-,-,h,-⟩|⟨h,-⟩
    ·exact Mw hz h
    ·exact h
   have rm:=bI M1.own;rw[em]at rm;rw[F114.sL2];simp only[aL,LX];refine a8 rm.2.2.2.1 ?_;rw[l,MF,aK];unfold F114.wk4;simp only[aL,LX];exact a8 rm.2.2.2.1 (hK h1 L1 N1 A1 em S1 M1 D1 E1 R1 P1 C1 (.inl l) O1 g1 s1)
  |succ d ih=>
   intro h1 L1 N1 A1 q em S1 M1 D1 E1 R1 P1 C1 O1 g1 s1;have rm:=bI M1.own;rw[em]at rm;rw[F114.sL2];simp only[aL,LX];refine a8 rm.2.2.2.1 (aR (λhn=> ?_) λhn=> ?_)
   ·have hn:A1.done=false:=by simpa using hn
    refine aQ rm.1 (n0 S1 (aH rfl ?_));dsimp only[XL];rw[cZ];refine aR (λe=> ?_) λe=> ?_
    ·have e:=Mn e;obtain⟨he,g,RR⟩:=R1.run hn;obtain⟨fl,fr,a⟩: ∃fl fr,A1.fs=fl++[fr]:=⟨A1.fs.dropLast,A1.fs.getLast g,(ON g).symm⟩;have eA:A1={A1 with fs:=fl++[fr]}:=by rw[<-a]
     have o:A1.fs.length=fl.length+1:=by rw[a];simp
     have c:A1.fs.length<=gO n N1 A1.fs:=iU _;rw[o]at rm;refine bF rm.2.1 (bF rm.2.1 ?_);have W:nE h1 0 A1.fp A1.fs.length A1.fc (A1.fs.map λf=>bf f.b):=M1.win;obtain⟨ad,ep,rr⟩:=W.rd (j:=fl.length) (by simp;omega);have e1:ax (((fl.length+1:Nat):Int)-1)=(fl.length:Int):=by rw[wrap_i64 ah ah];omega
     rw[ep,aT,e1];refine⟨ah,ah,?_⟩;rw[Md,MU,rr];refine aQ (n:=some (aw fr.b)) (by rw[a];simp[bf]) ?_;rw[aT];simp only[aL,LX];have F1':At h1 fr.b (fR A1.m fr):=M1.frm fr (by rw[a];simp);rw[(a9 F1').2.2.2.2.2.2.2,c8];rw[a]at RR;rw[eA]at M1 D1;refine Eg S1 M1 D1 ah RR po he hn λh2 L2 N2 A2 t S2 M2 D2 E2 R2 O2 g2 s2=>⟨rfl,?_⟩;rw[<-eA]at O2 s2 R2
     have hO:aM (L++A.bl) h h2:=O1.trans O2 λb hb u=>by
      rcases Zq hb with h|h
      ·rcases g1 b h with h|h
       ·exact Zp (.inl h)
       ·omega
      ·rcases s1 b h with h|h
       ·exact Zp (.inr h)
       ·omega
     have key:nN n fo N2 A2/\gO n N2 A2.fs+1<=gO n N1 A1.fs/\bi N2+iA n N2 A2.fs<=bi N1+iA n N1 A1.fs:=by
      rcases R2 with⟨q1,q2,q3,q4,q5,q6⟩|⟨q1,q2,q3,q4,q5⟩|⟨q1,q2,q3,q4⟩
      ·exact⟨.inl ⟨q1,q2,q3,q4⟩,q5,q6⟩
      ·refine⟨.inr ⟨q1,q3,.inl ⟨q2,q4⟩⟩,?_,?_⟩
       ·rw[q3];simp[gO];simp[gO]at c;omega
       ·rw[q3];simpa[iA]using q5
      ·refine⟨.inr ⟨q1,q3,.inr q2⟩,?_,?_⟩
       ·rw[q3];simp[gO];simp[gO]at c;omega
       ·rw[q3,q4];simp[iA]
     obtain⟨k1,k2,k3⟩:=key;have i:=O1.size;exact ih h2 L2 N2 A2 ah (t.trans em) S2 M2 D2 (E1.trans E2) k1 ah ah hO (g1.trans g2 i) (yu s1 s2 i)
    ·have e:=Me e;have ce:=qd E1;unfold F114.wk4;simp only[aL,LX];exact a8 rm.2.2.2.1 (hK h1 L1 N1 A1 em S1 M1 D1 E1 R1 P1 C1 (.inr ah) O1 g1 s1)
   ·have hn:A1.done=true:=by simpa using hn
    unfold F114.wk4;simp only[aL,LX];exact a8 rm.2.2.2.1 (hK h1 L1 N1 A1 em S1 M1 D1 E1 R1 P1 C1 (.inl hn) O1 g1 s1)
 exact⟨_,k (gO n N A.fs) h L N A (Mb _) rfl H M D (Ex.refl _) R (Mb _) (Mb _) (aM.refl _ _) (bC.refl _ _) λb hb=> .inl hb⟩
def Gw{A:MA}(M:bG h s A)(hK:K (aD A.done) h):Cl 95 [bf A.m] h K:=by refine F95.spec ?_;simp only[aL,LX];exact a8 (bI M.own).2.2.2.1 hK
def tG{A:MA}(M:bG h s A)(hK:K (.tuple #[aq (if A.done=true/\A.e=0 then(A.told:Int)else 0),ap (if A.done=true then(A.e:Int)else 61)]) h):Cl 94 [bf A.m] h K:=by
 refine F94.spec ?_;simp only[aL,LX];have rm:=bI M.own;refine a8 rm.2.2.2.1 (aR (λe=> ?_) λe=>aH rm.2.2.2.2 ?_)
 ·have e:A.done=false:=by simpa using e
  rw[LY (by rw[e];simp),LY (by rw[e];simp)]at hK;exact hK
 ·have e:A.done=true:=by simpa using e
  rw[show((A.e:Int) !=(0:Int))= !decide (A.e=0) by rw[show(0:Int)=((0:Nat):Int)from rfl,<-cZ];rfl];by_cases h0:A.e=0
  ·rw[Mg h0,MF,aK];rw[L4 ⟨e,h0⟩,L4 e,h0]at hK;exact aH rm.2.2.1 hK
  ·rw[L7 h0,MS,aO];rw[LY (λh=>h0 h.2),L4 e]at hK;exact aH rm.2.2.2.2 hK
def F179.spec(H:Cl 222 [au a,aq i] h λa b=> ∃c:Int,∃d:Int,a=(.tuple #[.int .u8 c,ap d])/\aJ (d==0) (K (aD ((bu .and .u8 c 170)==0)) b) (K aB b)):Cl 179 [au a,aq i] h K:=cN Tryz.func179 H
def F222.T:bh:=⟨[(4,[0,7,8,18,19,20]),(9,[7,8])],[]⟩
section
variable (n:Nat)(g:Addr)(l i j:Int)(c:az)(b d:Nat)(f a:Int)(h:aI)(K:KK)
def F222.wL4:Prop:=Lp Tryz.f222 F222.T [1,1,1,0,1,0] n [(0,(au g)),(7,(ap i)),(8,(.int .u8 j)),(18,(.slice c b d)),(19,(ap f)),(20,(ap a))] h K
def F222.wk9:Prop:=K (.tuple #[.int .u8 j,ap i]) h
def F222.sL4:F222.wL4 (n+1) g i j c b d f a h K=(aJ (a<f) (aX c λe=>0<=a/\a<(b:Int)/\aS .i64 (rd h (e.add (a.toNat*1))) λe=>aJ (e>0) (Cl 47 [au g] h λe k=>aZ (some e) λe=>Cl 272 [aA e,ap a] k λe k=>aS .i64 (some e) λe=>0<=e/\F222.wL4 n g i (bu .or .u8 j (IntKind.wrap .u8 ((1:Int)*2^(min (e.toNat) (IntKind.bits .u8))))) c b d f (ax (a+1)) k K) (F222.wL4 n g i j c b d f (ax (a+1)) h K)) (F222.wk9 i j h K)):=by kernel_rfl
def F222.wk4:Prop:=(∃e,F222.wL4 e g i j c b d f a h K)
def F222.spec(H:bg h (.cells #[aq l] 46) λa b=>Cl 271 [au g,.slice (some (aw a)) 1 1] b λa b=> ∃c:az,∃d:Nat,∃e:Nat,∃f:Int,a=(.tuple #[.slice c d e,ap f])/\F222.wk4 g f 0 c d e (d:Int) 0 b K):Cl 222 [au g,aq l] h K:=cT F222.T Tryz.func222 H
end
namespace F271
noncomputable def XX:List (Nat×cH):=(1000023,.ent 46 218)::X
def XXok:uN Tryz.prog XX:=Lf.ent
def T:bh:=⟨[(6,[0,8,23])],[]⟩
noncomputable def body:Code:=(Tryz.f271.body).getD .skip
noncomputable def en(S:lK)(p:List Nat)(κ:XK):Fr->aI->Prop:=E Tryz.prog XX T S (sub body p) κ
noncomputable def ln(S:lK)(p:List Nat)(κ:XK)(n:Nat):Fr->aI->Prop:=qT S (E Tryz.prog XX T S (sub body p)) (pZ T (sub body p)) κ n
def fn(K:KK):XK:=fin Tryz.prog Tryz.f271.results.toList K
noncomputable def c0(S:lK)(K:KK):XK:=Df S (pZ T (sub body [1,1,1,1,1])) (en S [1,1,1,1,1] (fn K)) (fn K)
noncomputable def c1(S:lK)(K:KK):XK:=pR 0 (c0 S K)
noncomputable def c2(S:lK)(n6:Nat)(K:KK):XK:=zA S (pZ T (sub body [1,1,1,1,0,1,0,0])) (ln S [1,1,1,1,0,1,0,0] (c1 S K) n6) (c1 S K)
def f6(f:Addr)(b:az)(a d:Nat)(c:az):Fr:=[(0,(au f)),(8,(.slice b a d)),(23,(.pointer c))]
def J0(k6:Addr->(az)->Nat->Nat->(az)->aI->Prop)(f:Addr)(j:az)(i g:Nat)(h:aI)(K:KK):Prop:=
 Cl 107 [(au f),(.slice j i g)] h (λv1 h2=>(∃r3:Option Nat,∃n4:Int,v1=(.tuple #[(.map r3),(ap n4)])/\aJ (n4 !=(0:Int)) (K (.tuple #[(.slice none 0 0),(ap n4)]) h2) (Cl 75 [(au f)] h2 (λv5 h6=>aS .i64 (some v5) (λn7=>(0<=n7/\n7<=n7/\((Nat.cast 8:Int)*n7<=281474976710656)/\n7<=9223372036854775807/\bg h6 (.cells (madeCells #[(ap 0)] (Int.toNat n7*1)) 3) (λb8 h9=>DZ h9 r3 (λe z=>k6 f (some (aw b8)) (Int.toNat n7) (Int.toNat n7) e z))))))))
def E0(S:lK)(f:Addr)(j:az)(i g:Nat)(h:aI)(K:KK):(E Tryz.prog XX T S body (fin Tryz.prog Tryz.f271.results.toList K) (jD 0 [(au f),(.slice j i g)]) h)=J0 (λf b a d c h=>S (en S [1,1,1,1,0,1] (c0 S K)) (f6 f b a d c) h) f j i g h K:=by kernel_rfl
def Jk6(e:Addr->(az)->Nat->Nat->(az)->aI->Prop)(f:Addr)(b:az)(a d:Nat)(c:az)(h:aI)(_K:KK):Prop:=
 e f b a d c h
def Ek6(S:lK)(f:Addr)(b:az)(a d:Nat)(c:az)(h:aI)(K:KK):(en S [1,1,1,1,0,1] (c0 S K) (f6 f b a d c) h)=Jk6 (λf b a d c h=> ∃n,S (ln S [1,1,1,1,0,1,0,0] (c1 S K) n) (f6 f b a d c) h) f b a d c h K:=by kernel_rfl
def JL6(z:Addr->(az)->Nat->Nat->(az)->aI->Prop)(f:Addr)(b:az)(a d:Nat)(c:az)(h:aI)(K:KK):Prop:=
 GT h c (K (.tuple #[(.slice b a d),(ap 0)]) h) (λ_ _ h3=>zT h3 c (λv4 v5=>(∃n7:Int,(.tuple #[v4,v5])=((.tuple #[(aq n7),(.agg #[])]):Value)/\Cl 71 [(au f),(aq n7)] h3 (λv8 h9=>aS .i64 (some v8) (λe=>aX b (λB=>(0<=e/\e<(Nat.cast a:Int)/\aS .i64 (rd h9 (B.add (Int.toNat e*1))) (λD=>aX b (λA=>(0<=e/\e<(Nat.cast a:Int)/\aY h9 ((A.add (Int.toNat e*1)).add 0) (ap (ax (D+(1:Int)))) (λC=>z f b a d c C)))))))))))
def EL6(S:lK)(n6:Nat)(f:Addr)(b:az)(a d:Nat)(c:az)(h:aI)(K:KK):(en S [1,1,1,1,0,1,0,0] (c2 S n6 K) (f6 f b a d c) h)=JL6 (λf b a d c h=>S (ln S [1,1,1,1,0,1,0,0] (c1 S K) n6) (f6 f b a d c) h) f b a d c h K:=by kernel_rfl
def wL6:Nat->Addr->(az)->Nat->Nat->(az)->aI->KK->Prop
 |0,_,_,_,_,_,_,_=>False
 |n+1,f,b,a,d,c,h,K=>JL6 (λf b a d c h=>wL6 n f b a d c h K) f b a d c h K
def eL6(K:KK): ∀(n:Nat) (f:Addr) (b:az) (a d:Nat) (c:az) (h:aI),(ln S0 [1,1,1,1,0,1,0,0] (c1 S0 K) n (f6 f b a d c) h)=wL6 n f b a d c h K
 |0,_,_,_,_,_,_=>rfl
 |n+1,f,b,a,d,c,h=>(EL6 S0 n f b a d c h K).trans (KH (λq0=>JL6 q0 f b a d c h K) (by funext f b a d c h;exact(λf b a d c h=>eL6 K n f b a d c h) f b a d c h))
def wk6(f:Addr)(b:az)(a d:Nat)(c:az)(h:aI)(K:KK):Prop:=
 Jk6 (λf b a d c h=> ∃m,wL6 m f b a d c h K) f b a d c h K
def ek6(K:KK)(f:Addr)(b:az)(a d:Nat)(c:az)(h:aI):(en S0 [1,1,1,1,0,1] (c0 S0 K) (f6 f b a d c) h)=wk6 f b a d c h K:=(Ek6 S0 f b a d c h K).trans (KH (λq0=>Jk6 q0 f b a d c h K) (by funext f b a d c h;exact Am λm=>eL6 K m f b a d c h))
def w(f:Addr)(j:az)(i g:Nat)(h:aI)(K:KK):Prop:=
 J0 (λf b a d c h=>wk6 f b a d c h K) f j i g h K
def e0(K:KK)(f:Addr)(j:az)(i g:Nat)(h:aI):(E Tryz.prog XX T S0 body (fin Tryz.prog Tryz.f271.results.toList K) (jD 0 [(au f),(.slice j i g)]) h)=w f j i g h K:=(E0 S0 f j i g h K).trans (KH (λq0=>J0 q0 f j i g h K) (by funext f b a d c h;exact ek6 K f b a d c h))
def hb:Tryz.f271.body=some body:=by kernel_rfl
def ok:eS T Tryz.f271.ntmps body=true:=by kernel_rfl
def spec(f:Addr)(j:az)(i g:Nat)(h:aI)(K:KK)(H:w f j i g h K):Cl 271 [(au f),(.slice j i g)] h K:=
 kA (T:=T) XXok Lh Tryz.func271 hb ok rfl (by rw[e0];exact H)
end F271
def F107.T:bh:=⟨[(5,[1,2,6,7,14,15,16]),(10,[1,6,7]),(11,[6,7,25,26,27])],[]⟩
section
variable (n:Nat)(y:Addr)(c:az)(a b:Nat)(v t u:Addr)(f:az)(d o:Nat)(r g:Int)(j:az)(i q:Nat)(s l:Int)(h:aI)(K:KK)
def F107.wL11:Prop:=Lp Tryz.f107 F107.T [1,1,1,1,1,0,1,0] n [(6,(au t)),(7,(au u)),(25,(.slice j i q)),(26,(ap s)),(27,(ap l))] h K
def F107.wL5:Prop:=Lp Tryz.f107 F107.T [1,1,1,1,0,1,0] n [(1,(.slice c a b)),(2,(au v)),(6,(au t)),(7,(au u)),(14,(.slice f d o)),(15,(ap r)),(16,(ap g))] h K
def F107.sL11:F107.wL11 (n+1) t u j i q s l h K=(aJ (l<s) (aX j λa=>0<=l/\l<(i:Int)/\aS .u32 (rd h (a.add (l.toNat*1))) λa=>jX (rd h u) λb=>dS Tryz.prog X b [aq a] h λa b=>a=aE/\F107.wL11 n t u j i q s (ax (l+1)) b K) (bU (rd h t) λa=>K (.tuple #[.map a,ap 0]) h)):=by kernel_rfl
def F107.wk11:Prop:=(∃a,F107.wL11 a t u j i q s l h K)
def F107.wk10:Prop:=F107.wk11 t u c a b (a:Int) 0 h K
def F107.sL5:F107.wL5 (n+1) c a b v t u f d o r g h K=(aJ (g<r) (aX f λe=>0<=g/\g<(d:Int)/\aS .u32 (rd h (e.add (g.toNat*1))) λe=>aZ (rd h v) λi=>Cl 74 [aA i,aq e] h λe i=>bQ (some e) λe=>aJ (!e) (K (.tuple #[.map none,ap 101]) i) (F107.wL5 n c a b v t u f d o r (ax (g+1)) i K)) (F107.wk10 c a b t u h K)):=by kernel_rfl
def F107.wk5:Prop:=(∃e,F107.wL5 e c a b v t u f d o r g h K)
def F107.spec(H:bg h (.cells #[au y] 33) λd e=>bg e (.map #[] 0) λe f=>bg f (.cells #[.map none] 191) λf g=>aY g ((aw f).add 0) (.map (some e)) λe=>bg e (.cells #[.nilFunc] 244) λe g=>aY g ((aw e).add 0) (.func (.func 158) #[] #[au (aw f),au (aw e),au (aw d)]) λg=>F107.wk5 c a b (aw d) (aw f) (aw e) c a b (a:Int) 0 g K):Cl 107 [au y,.slice c a b] h K:=cT F107.T Tryz.func107 H
end
def F158.T:bh:=⟨[(2,[0,1,2,3])],[(3,[[(0,[]),(1,[]),(2,[]),(3,[0]),(4,[])]]),(4,[[(0,[]),(1,[]),(2,[]),(3,[0]),(4,[])]])]⟩
section
variable (a:Int)(c b d:Addr)(h:aI)(K:KK)
def F158.wk2:Prop:=bU (rd h c) λc=>lu h c .u32 .u32 a (.agg #[]) λc=>jX (rd c b) λe=>aZ (rd c d) λf=>Cl 72 [aA f,aq a] c λc f=>aS .u32 (some c) λc=>jX (rd f b) λg=>g=(e:Value)/\dS Tryz.prog X e [aq c] f λc e=>c=aE/\jX (rd e b) λc=>aZ (rd e d) λd=>Cl 73 [aA d,aq a] e λa d=>aS .u32 (some a) λa=>jX (rd d b) λb=>b=(c:Value)/\dS Tryz.prog X c [aq a] d λa b=>a=aE/\K aE b
end
def F158.spec(H:bU (rd h a) λd=>dT h d .u32 .u32 i λd=>jX (some (kU (.agg #[]) d)) λe=>bg h (.cells #[] 218) λf g=>du Tryz.prog 218 (some (aw f)) e g λe=>aJ (Option.isSome d) (K aE e) (aJ (i<=1) (K aE e) (F158.wk2 i a b c e K))):Cl 158 [aq i,au a,au b,au c] h K:=cT F158.T Tryz.func158 H
def F268.T:bh:=⟨[(3,[0,1,5,14,15,16]),(12,[0,5])],[]⟩
section
variable (n:Nat)(f:Addr)(i:Option Nat)(j:Int)(c:az)(b d:Nat)(g a:Int)(h:aI)(K:KK)
def F268.wL3:Prop:=Lp Tryz.f268 F268.T [1,1,0,1,0] n [(0,(au f)),(1,(.map i)),(5,(ap j)),(14,(.slice c b d)),(15,(ap g)),(16,(ap a))] h K
def F268.wk12:Prop:=aZ (rd h (f.add 6)) λa=>Cl 113 [aA a] h λa b=>a=aE/\aZ (rd b (f.add 4)) λa=>Cl 200 [aA a] b λa b=>aS .i64 (some a) λa=>Cl 111 [au f,ap (if a>32 then a else 32),.slice none 0 0] b λa b=>a=aE/\K (ap j) b
def F268.sL3:F268.wL3 (n+1) f i j c b d g a h K=(aJ (a<g) (aX c λe=>0<=a/\a<(b:Int)/\bQ (rd h ((e.add (a.toNat*4)).add 0)) λk=>aS .i64 (rd h ((e.add (a.toNat*4)).add 1)) λl=>aS .u32 (rd h ((e.add (a.toNat*4)).add 2)) λm=>aS .u32 (rd h ((e.add (a.toNat*4)).add 3)) λe=>bg h (.cells #[aB,ap 0,aq 0,aq 0] 195) λo p=>aY p ((aw o).add 0) (aD k) λk=>aY k ((aw o).add 1) (ap l) λk=>aY k ((aw o).add 2) (aq m) λk=>aY k ((aw o).add 3) (aq e) λe=>dT e i .u32 .u32 (IntKind.wrap .u32 (ax (a+2))) λk=>jX (some (kU (.agg #[]) k)) λl=>bg e (.cells #[] 218) λe m=>du Tryz.prog 218 (some (aw e)) l m λe=>bQ (rd e ((aw o).add 0)) λl=>aJ l (aJ (!(Option.isSome k)) (cF (rd e (f.add 2)) λk l _=>aX k λk=>0<=a/\a<(l:Int)/\aY e ((k.add (a.toNat*4)).add 0) aB λe=>aY e ((k.add (a.toNat*4)).add 1) (ap 0) λe=>aY e ((k.add (a.toNat*4)).add 2) (aq 0) λe=>aY e ((k.add (a.toNat*4)).add 3) (aq 0) λe=>cF (rd e (f.add 3)) λk l m=>bg e (.cells #[aq (IntKind.wrap .u32 (ax (a+2)))] 46) λe o=>fQ o 46 1 4 #[aq 0] k l m (some (aw e)) 1 λe k l m=>aY m ((f.add 3).add 0) (.slice e k l) λe=>F268.wL3 n f i (ax (j+1)) c b d g (ax (a+1)) e K) (F268.wL3 n f i j c b d g (ax (a+1)) e K)) (F268.wL3 n f i j c b d g (ax (a+1)) e K)) (F268.wk12 f j h K)):=by kernel_rfl
def F268.wk3:Prop:=(∃e,F268.wL3 e f i j c b d g a h K)
def F268.spec(H:cF (rd h (f.add 2)) λa b c=>F268.wk3 f i 0 a b c (b:Int) 0 h K):Cl 268 [au f,.map i] h K:=cT F268.T Tryz.func268 H
end
def F267.T:bh:=⟨[(3,[0,1,6,14,15,16]),(9,[0,1,6]),(10,[0,6,9]),(15,[0,6,9,10])],[]⟩
section
variable (n:Nat)(f:Addr)(j:az)(g i:Nat)(l:Option Nat)(d:az)(b c:Nat)(q:az)(o s:Nat)(t r:Int)(h:aI)(K:KK)
def F267.wL10:Prop:=Lp Tryz.f267 F267.T [1,1,1,1,0,0] n [(0,(au f)),(6,(.map l)),(9,(.slice d b c))] h K
def F267.wL3:Prop:=Lp Tryz.f267 F267.T [1,1,0,1,0] n [(0,(au f)),(1,(.slice j g i)),(6,(.map l)),(14,(.slice q o s)),(15,(ap t)),(16,(ap r))] h K
def F267.wk15(z:Addr->(Option Nat)->(az)->Nat->Nat->aI->Prop)(f:Addr)(l:Option Nat)(d:az)(b c:Nat)(u:Int)(h:aI)(K:KK):Prop:=lu h l .u32 .u32 u (.agg #[]) λa=>Cl 72 [au f,aq u] a λa e=>aS .u32 (some a) λa=>Cl 73 [au f,aq u] e λe g=>aS .u32 (some e) λe=>bg g (.cells #[aq a,aq e] 46) λa e=>fQ e 46 1 4 #[aq 0] d b c (some (aw a)) 2 λa b c d=>z f l a b c d
def F267.sL10:F267.wL10 (n+1) f l d b c h K=(aJ ((b:Int)>(0:Int)) (aX d λa=>0<=(ax ((b:Int)-(1:Int)))/\(ax ((b:Int)-(1:Int)))<(b:Int)/\aS .u32 (rd h (a.add ((ax ((b:Int)-(1:Int))).toNat*1))) λa=>0<=(ax ((b:Int)-(1:Int)))/\(ax ((b:Int)-(1:Int)))<=(c:Int)/\dT h l .u32 .u32 a λe=>jX (some (kU (.agg #[]) e)) λg=>bg h (.cells #[] 218) λi j=>du Tryz.prog 218 (some (aw i)) g j λg=>aJ (Option.isSome e) (F267.wL10 n f l (if c=0 then d else Option.map (λa=>Addr.add a (0*1)) d) ((ax ((b:Int)-(1:Int))).toNat-0) (c-0) g K) (aJ (a<=1) (F267.wL10 n f l (if c=0 then d else Option.map (λa=>Addr.add a (0*1)) d) ((ax ((b:Int)-(1:Int))).toNat-0) (c-0) g K) (F267.wk15 (λa b c d e f=>F267.wL10 n a b c d e f K) f l (if c=0 then d else Option.map (λa=>Addr.add a (0*1)) d) ((ax ((b:Int)-(1:Int))).toNat-0) (c-0) a g K))) (K (.tuple #[.map l,ap 0]) h)):=by kernel_rfl
def F267.wk10:Prop:=(∃a,F267.wL10 a f l d b c h K)
def F267.wk9:Prop:=Cl 299 [.slice j g i] h λa b=>cF (some a) λa c d=>F267.wk10 f l a c d b K
def F267.sL3:F267.wL3 (n+1) f j g i l q o s t r h K=(aJ (r<t) (aX q λa=>0<=r/\r<(o:Int)/\aS .u32 (rd h (a.add (r.toNat*1))) λa=>Cl 74 [au f,aq a] h λa b=>bQ (some a) λa=>aJ (!a) False (F267.wL3 n f j g i l q o s t (ax (r+1)) b K)) (F267.wk9 f j g i l h K)):=by kernel_rfl
def F267.wk3:Prop:=(∃a,F267.wL3 a f j g i l q o s t r h K)
def F267.spec(H:bg h (.map #[] 0) λa b=>F267.wk3 f j g i (some a) j g i (g:Int) 0 b K):Cl 267 [au f,.slice j g i] h K:=cT F267.T Tryz.func267 H
end
def F218.spec(H:Cl 267 [au a,.slice x u v] h λb c=> ∃d:Option Nat,∃e:Int,b=(.tuple #[.map d,ap e])/\aJ (e !=0) (K (.tuple #[ap 0,ap e]) c) (Cl 268 [au a,.map d] c λa b=>aS .i64 (some a) λa=>K (.tuple #[ap a,ap 0]) b)):Cl 218 [au a,.slice x u v] h K:=cN Tryz.func218 H
def F175.spec(H:Cl 213 [au b] h λb c=>cF (some b) λb d e=>Cl 218 [au a,.slice b d e] c λa b=> ∃c:Int,∃d:Int,a=(.tuple #[ap c,ap d])/\K (.tuple #[ap c,ap d]) b):Cl 175 [au a,au b] h K:=cN Tryz.func175 H
def F113.T:bh:=⟨[(1,[0,8,9])],[]⟩
section
variable (n:Nat)(a:Addr)(c b:Int)(h:aI)(K:KK)
def F113.wL1:Prop:=Lp Tryz.f113 F113.T [1,0] n [(0,(au a)),(8,(ap c)),(9,(ap b))] h K
def F113.sL1:F113.wL1 (n+1) a c b h K=(aJ (b<c) (aS .i64 (rd h (a.add 1)) λd=>aZ (rd h (a.add 0)) λe=>Cl 162 [aA e,ap (ax (d+(ax (3*b))))] h λe f=>aS .u64 (some e) λe=>aJ ((bu .and .u64 e 1)==0) (aJ (e !=0) (aZ (rd f (a.add 0)) λg=>Cl 163 [aA g,ap (ax (d+(ax (3*b)))),ar e,ar (IntKind.wrap .u64 ((bu .andNot .u64 e 2)+4))] f λd e=>bQ (some d) λ_=>F113.wL1 n a c (ax (b+1)) e K) (F113.wL1 n a c (ax (b+1)) f K)) (F113.wL1 n a c (ax (b+1)) f K)) (K aE h)):=by kernel_rfl
def F113.wk1:Prop:=(∃d,F113.wL1 d a c b h K)
def F113.spec(H:aS .i64 (rd h (a.add 2)) λb=>F113.wk1 a b 0 h K):Cl 113 [au a] h K:=cT F113.T Tryz.func113 H
end
def F299.spec(H:aJ (Option.isNone x) (K (.slice none 0 0) h) (bg h (.cells #[] 46) λa b=>fQ b 46 1 4 #[aq 0] (some (aw a)) 0 0 x u λa b c d=>K (.slice a b c) d)):Cl 299 [.slice x u v] h K:=cN Tryz.func299 H
def BM{cs:List Int}(W:CW h c m mc base n cs ops fails)(hb:base<100000)(hv: ∀l,l<n->0<=cs.getD (base+3*l) 0/\cs.getD (base+3*l) 0<18446744073709551616/\cs.getD (base+3*l) 0%2=0)
  (hK: ∀h' ops' fails' cs',(∀l,l<n->0<=cs'.getD (base+3*l) 0/\cs'.getD (base+3*l) 0<18446744073709551616/\cs'.getD (base+3*l) 0%4=0)->CW h' c m mc base n cs' ops' fails'->aM [m,mc] h h'->K aE h'):
  Cl 113 [au (aw c)] h K:=by
 apply F113.spec;simp only[aL,LX];refine aH (n:=(n:Int)) (by rw[At.rd W.cac];rfl) ?_;unfold F113.wk1;have hn2:=W.hn2
 have: ∀(g i:Nat) (h1:aI) (cs1:List Int) (ops1 fails1:Int),n-i<g->i<=n->(∀l,l<i->0<=cs1.getD (base+3*l) 0/\cs1.getD (base+3*l) 0<18446744073709551616/\cs1.getD (base+3*l) 0%4=0)->
   (∀l,i<=l->l<n->cs1.getD (base+3*l) 0=cs.getD (base+3*l) 0)->CW h1 c m mc base n cs1 ops1 fails1->aM [m,mc] h h1->F113.wL1 g (aw c) (n:Int) (i:Int) h1 K:=by
  intro g
  induction g with
  |zero=>intro i h1 cs1 ops1 fails1 hg;omega
  |succ g ih=>
   intro i h1 cs1 ops1 fails1 hg hi z1 z2 W1 O1;rw[F113.sL1];by_cases hlt:i<n
   ·rw[Mg ah,aO];simp only[aL,LX];have hc:=W1.hc;have ei:ax ((i:Int)+1)=((i+1:Nat):Int):=by rw[wrap_i64 ah ah];simp
    have ea:ax ((base:Int)+ax (3*(i:Int)))=((base+3*i:Nat):Int):=by rw[wrap_i64 (n:=3*(i:Int)) ah ah,wrap_i64 ah ah];simp
    refine aH (n:=(base:Int)) (by rw[At.rd W1.cac];rfl) (aQ (by rw[At.rd W1.cac];rfl) ?_);rw[ea,ei];refine fi W1.mem ah ah λh2 M2 O2=>aH rfl ?_;rw[Md,z2 i (Mb _) hlt];obtain⟨v0,v1,v2⟩:=hv i hlt;have hz2:=z2 i (Mb _) hlt;generalize cs.getD (base+3*i) 0=V at*
    have O12:=O1.trans O2 λb hb _=>hb;have W2:CW h2 c m mc base n cs1 _ fails1:=⟨W1.cac.only O2 (by simp[W1.d4,W1.d5]),M2,W1.d4,W1.d5,W1.hn,W1.hn2,W1.hc,W1.hl⟩;rw[ED v0 ah,show(V%2==0)=true by simpa using v2,aO];refine aR (λe=> ?_) λe=> ?_
    ·refine aQ (by rw[At.rd W2.cac];rfl) (oW M2 ah ah (λe' h3 M3 O3=>a8 rfl ?_) λe'=> ?_)
     ·rw[Md,wz v0 ah,mN]at M3;have W3:CW h3 c m mc base n (cs1.set (base+3*i) ((4*(V/4)+V%2+4)%18446744073709551616)) _ fails1:=⟨W2.cac.only O3 (by simp[W1.d4,W1.d5]),M3,W1.d4,W1.d5,W1.hn,W1.hn2,by simpa using W1.hc,by simpa using W1.hl⟩;refine ih (i+1) h3 _ _ _ ah ah (λl hl=> ?_) (λl hl hln=> ?_) W3 (O12.trans O3 λb hb _=>hb)
      ·rw[dF ah];by_cases h':l=i
       ·subst h';rw[L4 rfl];omega
       ·rw[LY ah];exact z1 l ah
      ·rw[dF ah,LY ah];exact z2 l ah hln
     ·rw[Md]at e';exact Mw hz2 e'
    ·refine ih (i+1) h2 cs1 _ fails1 ah ah (λl hl=> ?_) (λl hl hln=>z2 l ah hln) W2 O12;by_cases h':l=i
     ·subst h';have:V=0:=by simpa using e
      rw[hz2,this]
      decide
     ·exact z1 l ah
   ·rw[L7 ah,aK];obtain rfl:i=n:=ah;exact hK h1 ops1 fails1 cs1 z1 W1 O1
 exact⟨n+1,this (n+1) 0 h cs ops fails ah ah ah (λ_ _ _=>rfl) W (aM.refl _ _)⟩
def cv(keep:Nat->Bool)(N:ay):ay:=N.mapIdx λi o=>if keep (i+2)then o else none
def gE(keep:Nat->Bool)(i:Nat)(a:Nat):Bool:=decide (i+2<=a)||keep a
def f0{N:ay}:(cv keep N).length=N.length:=by simp[cv]
def sE(i:Nat):nd (cv keep N) i=if keep (i+2)then nd N i else none:=by
 unfold nd cv;rw[Ob];cases h:N[i]? with
 |none=>simp
 |some o=>
  simp only[Na,Option.join_some]
def fh(h:N[i]? =some o):(cv keep N)[i]? =some (if keep (i+2)then o else none):=by
 unfold cv;rw[Ob,h]
 rfl
def qe:cv (gE keep 0) N=N:=by
 apply MM;intro i;cases h:N[i]? with
 |none=>rw[Mt];rw[f0];exact MV.1 h
 |some o=>
  rw[fh h];unfold gE;rw[show decide (0+2<=i+2)=true by simp]
  rfl
def Db{N:ay}:cv (gE keep N.length) N=cv keep N:=by
 apply MM;intro i;cases h:N[i]? with
 |none=>rw[Mt,Mt]<;>rw[f0]<;>exact MV.1 h
 |some o=>
  have hl:=(Ml.1 h).1;rw[fh h,fh h];unfold gE;rw[show decide (N.length+2<=i+2)=false by simp;omega]
  rfl
def pt(h:N[i]? =some o):cv (gE keep (i+1)) N=(cv (gE keep i) N).set i (if keep (i+2)then o else none):=by
 have hl:=(Ml.1 h).1;apply MM;intro k;rw[ME];by_cases hk:i=k
 ·subst hk;rw[L4 rfl,L4 (by rw[f0];exact hl),fh h];unfold gE;rw[show decide (i+1+2<=i+2)=false by simp]
  rfl
 ·rw[LY hk];cases h2:N[k]? with
  |none=>rw[Mt,Mt]<;>rw[f0]<;>exact MV.1 h2
  |some o2=>
   rw[fh h2,fh h2];unfold gE
   rw[show decide (i+1+2<=k+2)=decide (i+2<=k+2) by
    by_cases z:i+1<=k
    ·rw[Mg ah,Mg ah]
    ·rw[L7 ah,L7 ah]]
def vu(h:N[i]? =some o):(cv (gE keep i) N)[i]? =some o:=by
 rw[fh h];unfold gE;rw[show decide (i+2<=i+2)=true by simp]
 rfl
def ot(H:cX n N)(hk: ∀i x,nd N i=some x->keep (i+2)=true->(x.2.1<2\/keep x.2.1=true)/\(x.2.2<2\/keep x.2.2=true)):cX n (cv keep N)/\(∀a,isN (cv keep N) a↔(a<2\/isN N a/\keep a=true))/\Ex (cv keep N) N:=by
 have ex:Ex (cv keep N) N:=λi x hx=>by
  rw[sE]at hx;split at hx
  ·exact hx
  ·cases hx
 have is: ∀a,isN (cv keep N) a↔(a<2\/isN N a/\keep a=true):=λa=>by
  constructor
  ·intro ha;rcases ha with q|⟨x,hx⟩
   ·exact .inl q
   ·rw[sE]at hx;by_cases a2:a<2
    ·exact .inl a2
    ·split at hx
     ·rename_i g;rw[show a-2+2=a by omega]at g;exact .inr ⟨.inr ⟨x,hx⟩,g⟩
     ·cases hx
  ·intro ha;rcases ha with q|⟨q|⟨x,hx⟩,r⟩
   ·exact .inl q
   ·exact .inl q
   ·by_cases a2:a<2
    ·exact .inl a2
    ·right;refine⟨x,?_⟩;rw[sE,show a-2+2=a by omega,L4 r];exact hx
 refine⟨⟨λi x hx=> ?_,λi j x hi hj=>H.once i j x (ex i x hi) (ex j x hj)⟩,is,ex⟩;have h0:=ex i x hx
 have k:keep (i+2)=true:=by
  rw[sE]at hx;split at hx
  ·rename_i q;exact q
  ·cases hx
 obtain⟨a,b,c,d,e,f⟩:=H.node i x h0;obtain⟨k1,k2⟩:=hk i x h0 k;have i1:isN (cv keep N) x.2.1:=(is _).2 (by rcases k1 with q|q;exact .inl q;exact .inr ⟨b,q⟩);have i2:isN (cv keep N) x.2.2:=(is _).2 (by rcases k2 with q|q;exact .inl q;exact .inr ⟨c,q⟩);have l1:=ex.lvl (n:=n) i1;have l2:=ex.lvl (n:=n) i2;exact⟨a,i1,i2,d,by rw[<-l1];exact e,by rw[<-l2];exact f⟩
def CY(mo:List (Int×Value))(keep:Nat->Bool):Prop:= ∀k:Nat,(keep k=true->mo.lookup (k:Int)=some (.agg #[]))/\(keep k=false->mo.lookup (k:Int)=none)
def uJ{l:List α}(h:l[i]? =some o):l.set i o=l:=by
 apply MM;intro k;rw[ME];split
 ·rename_i e;subst e;rw[L4 (Ml.1 h).1,h]
 ·rfl
def mf: ∀{N:ay} {i:Nat},N[i]? =some (some x)->bi (N.set i none)+1=bi N
 | [],i,h=>by simp at h
 |o::N,0,h=>by simp at h;subst h;simp[bi]
 |o::N,i+1,h=>by have:=mf (N:=N) (i:=i) (by simpa using h);simp only[bi,Ni,Nl]at this ⊢;omega
def SB.growf{h:aI}{B:SB}{s:Nat}{c:az}{fc':Nat}(H:(B.bm s).Nodup)(d: ∀b∈B.bm s,b<h.size)(hp: ∀b∈aV c,b∈aV B.fp\/h.size<=b):
  (SB.bm {B with fp:=c,fc:=fc'} s).Nodup/\ ∀b∈SB.bm {B with fp:=c,fc:=fc'} s,b∈B.bm s\/h.size<=b:=by
 refine⟨?_,λb hb=> ?_⟩
 ·unfold SB.bm at H ⊢;simp only at H ⊢;rw[ML]at H ⊢;refine⟨H.1,qU c,λa ha b hb e=> ?_⟩;rcases hp b hb with h1|h1
  ·exact H.2.2 a ha b h1 e
  ·have:=d a (by unfold SB.bm;exact Zp (.inl ha));omega
 ·simp only[SB.bm,List.mem_append]at hb ⊢;rcases hb with(hb|hb)|hb
  ·exact .inl (.inl (.inl hb))
  ·exact .inl (.inl (.inr hb))
  ·rcases hp b hb with h1|h1
   ·exact .inl (.inr h1)
   ·exact .inr h1
def xY{h:aI}{s n room:Nat}{B:SB}{f g:Nat->Nat}{Q:Int->Int->Prop}{off:Bool}{M:ay}{i:Nat}{x:Nd}{F1:List Nat}{b0:Nat}{KK:aI->Prop}(H:ie h s n room B f g M F1 Q off)(hi:M[i]? =some (some x))(eb:B.p=some (aw b0))(a0:F1.length<M.length)(hs:s<h.size)
  (hK: ∀d fc' h',ie h' s n room {B with fp:=d,fc:=fc'} f g (M.set i none) (F1++[i+2]) Q off->aM (s::aV B.p++aV B.fp) h h'->(∀b∈aV d,b∈aV B.fp\/h.size<=b)->KK h'):
  aY h ⟨b0,i*4,none⟩ aB (λu=>aY u ⟨b0,i*4+1,none⟩ (ap 0) (λD=>aY D ⟨b0,i*4+2,none⟩ (aq 0) (λY=>aY Y ⟨b0,i*4+3,none⟩ (aq 0) (λm=>cF (rd m ⟨s,3,none⟩) (λL z v=>bg m (.cells #[(aq ((i+2:Nat):Int))] 46) (λV R=>fQ R 46 1 4 #[(aq (0:Int))] L z v (some (aw V)) 1 (λJ I Z U=>aY U ⟨s,3,none⟩ (.slice J I Z) (λC=>KK C)))))))):=by
 have A:=(Ml.1 hi).1;have W:=H.own;rw[eb]at W;have nl:(gR M).length=M.length*4:=gA M;have t:=H.len;refine cy.set (j:=i*4+0) W ah rfl λh2 W2 O2=>cy.set W2 (by simp;omega) rfl λh3 W3 O3=>cy.set W3 (by simp;omega) rfl λh4 W4 O4=>cy.set W4 (by simp;omega) rfl λh5 W5 O5=> ?_;rw[mI M i none _ _ _ _ A rfl]at W5;have O25:aM [b0] h h5:=((O2.trans O3 ak).trans O4 ak).trans O5 ak;have a:=H.sep
 have nb: ∀y∈[s,B.ob,B.cac,B.cm,B.cmc]++aV B.fp,y∉[b0]:=λy hy hm=>by
  simp only[LZ]at hm;subst hm;unfold SB.bm at a;simp only[ML,List.mem_append,Pp]at a;obtain⟨⟨_,_,g2⟩,_,g4⟩:=a;have o:y∈aV B.p:=by rw[eb];simp[aV]
  rcases Zq hy with h|h
  ·exact g2 y h y o rfl
  ·exact g4 y (.inr o) y h rfl
 have nf: ∀y∈[s,B.ob,B.cac,B.cm,B.cmc]++aV B.p,y∉aV B.fp:=λy hy hm=>by unfold SB.bm at a;simp only[ML,List.mem_append,Pp]at a;obtain⟨⟨_,_,g2⟩,_,g4⟩:=a;exact g4 y (by simpa only[List.mem_append]using hy) y hm rfl
 have ns: ∀y∈[B.ob,B.cac,B.cm,B.cmc]++aV B.p++aV B.fp,y∉[s]:=λy hy hm=>by simp only[LZ]at hm;subst hm;unfold SB.bm at a;simp only[Nu,MO,Nn]at a;exact a.1 (by simpa[or_assoc]using hy)
 have S5:=H.S.only O25 (nb _ ak);have z5:=O25.size;refine bF (p:=B.fp) (l:=F1.length) (c:=B.fc) (by rw[At.rd S5];rfl) ?_;have P:=H.fre.only O25 λy hy=>nb _ (Zp (.inr hy));refine aW λh6 A6 O6 z6=> ?_;refine xy (P.only O6 ak) A6 ah rfl ah λd fc' h7 W7 O7 G=> ?_;have lp: ∀b∈aV B.fp,b<h.size:=λb hb=>(H.fre.lt b hb).2;have S7:=(S5.only O6 ak).only O7 (λhm=>nf s ak hm);refine aU S7 (by simp[jz]) rfl λh8 A8 O8 z8=> ?_;have O58:aM (s::aV B.fp) h5 h8:=((O6.mono ak).trans O7 (by intro b hb _;simp[hb])).trans O8 (by intro b hb _;simp at hb;simp[hb])
 have nn: ∀y∈[B.ob,B.cac,B.cm,B.cmc]++aV B.p,y∉s::aV B.fp:=λy hy hm=>by
  rcases List.mem_cons.1 hm with e|e
  ·exact ns y (Zp (.inl hy)) (by simp[e])
  ·exact nf y (by rcases Zq hy with q|q;exact Zp (.inl (My _ q));exact Zp (.inr q)) e
 have k: ∀b∈aV d,b∈aV B.fp\/h.size<=b:=λb hb=>by
  rcases G b hb with q|q
  ·exact .inl q
  ·exact .inr ah
 have es:s∉aV d:=λhm=>by
  rcases k s hm with q|q
  ·exact nf s ak q
  ·omega
 have el:(M.set i none).length=M.length:=ak;have g1:=SB.growf (fc':=fc') a H.lt k;refine hK d fc' h8 ⟨?_,(H.O.only O25 (nb _ ak)).only O58 (nn _ ak),?_,?_,(H.cac.only O25 (nb _ ak) (nb _ ak) (nb _ ak)).only O58 (nn _ ak) (nn _ ak) (nn _ ak),H.n8,by rw[el];exact⟨t.1,t.2.1,by simp;omega⟩,g1.1⟩ ((O25.mono (by intro b hb _;simp at hb;subst hb;rw[eb];simp[aV])).trans O58 (by intro b hb _;rcases List.mem_cons.1 hb with q|q;simp[q];exact Zp (.inr q))) k
 ·rw[el,Mv];exact A8
 ·rw[el];show cy h8 0 4 B.p M.length B.c _;rw[eb]
  exact W5.only O58 λb hb=>by injection hb with hb;injection hb with hb;subst hb;exact nn b0 (by rw[eb];simp[aV])
 ·have:oO (F1++[i+2])=oO F1++[aq ((i+2:Nat):Int)]:=by simp[oO]
  rw[this,Mv];exact W7.only O8 λb hb hm=>es (by simp at hm;subst hm;exact hb)
def Ew(k:keep (i+2)=true)(hi:N[i]? =some o):cv (gE keep (i+1)) N=cv (gE keep i) N:=by rw[pt hi,L4 k,uJ (vu hi)]
def Dl(hi:N[i]? =some none):cv (gE keep (i+1)) N=cv (gE keep i) N:=by rw[pt hi,show(if keep (i+2)=true then none else none:Option Nd)=none by split<;>rfl,uJ (vu hi)]
def Eq(k:keep (i+2)=false)(hi:N[i]? =some o):cv (gE keep (i+1)) N=(cv (gE keep i) N).set i none:=by
 rw[pt hi,k]
 rfl
structure Rt(h0 h:aI)(s n room:Nat)(B:SB)(f g:Nat->Nat)(N:ay)(Q:Int->Int->Prop)(off:Bool)(mb:Nat)(mo:List (Int×Value))(keep:Nat->Bool)(i:Nat)(fp:az)(fc:Nat)(F:List Nat):Prop where
 m:ie h s n room {B with fp:=fp,fc:=fc} f g (cv (gE keep i) N) F Q off
 M:bV h mb .u32 mo
 cnt:N.length=bi (cv (gE keep i) N)+F.length
 fre:F.Nodup/\ ∀a∈F,2<=a/\a-2<N.length/\nd (cv (gE keep i) N) (a-2)=none
 O:aM (B.bm s) h0 h
 fr: ∀b∈aV fp,b∈aV B.fp\/h0.size<=b
def tQ{B:SB}{N:ay}{h0:aI}(sep0:(B.bm s).Nodup)(Hk:CY mo keep)(dm:mb∉B.bm s)(lm:mb<h0.size)(lb: ∀b∈B.bm s,b<h0.size)(hn:N.length<=room/\room<=32768)
  (hK: ∀h' fp fc F gone,Rt h0 h' s n room B f g N Q off mb mo keep N.length fp fc F->F268.wk12 (aw s) gone h' K):
  ∀(d i:Nat) (h':aI) (fp:az) (fc:Nat) (F:List Nat) (gone:Int),i+d=N.length->Rt h0 h' s n room B f g N Q off mb mo keep i fp fc F->
   F268.wL3 (d+1) (aw s) (some mb) gone B.p N.length B.c (N.length:Int) (i:Int) h' K:=by
 intro d
 induction d with
 |zero=>
  intro i h' fp fc F gone hd R;rw[F268.sL3];rw[L7 ah,aK];obtain rfl:i=N.length:=ah;exact hK h' fp fc F gone R
 |succ d ih=>
  intro i h' fp fc F gone hd R;have hi:i<N.length:=ah;obtain⟨o,ho⟩: ∃o,N[i]? =some o:=⟨_,Mj hi⟩;have hm:=vu (keep:=keep) ho;obtain⟨b,eb,rr⟩:=R.m.cells hm;have eb:B.p=some (aw b):=eb;have z0:=R.O.size
  have hw:IntKind.wrap .u32 (ax ((i:Int)+2))=((i+2:Nat):Int):=by rw[wrap_i64 ah ah,show(i:Int)+2=((i+2:Nat):Int) by omega];exact gK ah
  have hs1:s<h'.size:=R.m.S.lt
  have stay: ∀k6,aM [] h' k6->cv (gE keep (i+1)) N=cv (gE keep i) N->F268.wL3 (d+1) (aw s) (some mb) gone B.p N.length B.c (N.length:Int) (ax ((i:Int)+1)) k6 K:=λk6 P e=>by rw[show ax ((i:Int)+1)=((i+1:Nat):Int) by rw[wrap_i64 ah ah];omega];refine ih (i+1) k6 fp fc F gone ah ⟨?_,R.M.only P ak,by rw[e];exact R.cnt,by rw[e];exact R.fre,R.O.trans P ak,R.fr⟩;rw[e];exact R.m.only P ak
  rw[F268.sL3];rw[Mg ah,aO,eb,aT];refine⟨ah,ah,?_⟩;rw[<-eb];simp only[aL,LX];rw[show Int.toNat (i:Int)*4=i*4 by omega,hw]
  obtain⟨tv,lv,av,bv,ec⟩: ∃tv lv av bv,dE o=[aD tv,ap lv,aq av,aq bv]:=by
   cases o with
   |none=>exact⟨_,_,_,_,rfl⟩
   |some x=>exact⟨_,_,_,_,rfl⟩
  rw[ec]at rr;refine a8 (by rw[<-Ma (i*4),rr 0 ah];rfl) (aH (by rw[rr 1 ah];rfl) (aH (by rw[rr 2 ah];rfl) (aH (by rw[rr 3 ah];rfl) ?_)));refine aW λk1 B1 P1 y1=> ?_;refine aU B1 ak rfl λk2 B2 P2 y2=>aU B2 ak rfl λk3 B3 P3 y3=>aU B3 ak rfl λk4 B4 P4 y4=>aU B4 ak rfl λk5 B5 P5 y5=> ?_
  replace B5:At k5 h'.size [aD tv,ap lv,aq av,aq bv]:=B5
  have P15:aM [] h' k5:=(((P1.trans P2 (by intro b hb hl;simp at hb;omega)).trans P3 (by intro b hb hl;simp at hb;omega)).trans P4 (by intro b hb hl;simp at hb;omega)).trans P5 (by intro b hb hl;simp at hb;omega)
  have tail: ∀(o12:Option (Nat×Value)),(o12.isSome=keep (i+2))->(kU (.agg #[]) o12= .agg #[])-> ∀KK:aI->Prop,(∀k6,aM [] h' k6->k5.size<=k6.size->aJ tv (aJ (!(keep (i+2))) (KK k6) (F268.wL3 (d+1) (aw s) (some mb) gone B.p N.length B.c (N.length:Int) (ax ((i:Int)+1)) k6 K)) (F268.wL3 (d+1) (aw s) (some mb) gone B.p N.length B.c (N.length:Int) (ax ((i:Int)+1)) k6 K))->
    jX (some (kU (.agg #[]) o12)) (λv13=>bg k5 (.cells #[] 218) (λb14 h15=>du Tryz.prog 218 (some (aw b14)) v13 h15 (λh16=>bQ (rd h16 (aw h'.size)) (λb17=>aJ b17 (aJ (!(Option.isSome o12)) (KK h16) (F268.wL3 (d+1) (aw s) (some mb) gone B.p N.length B.c (N.length:Int) (ax ((i:Int)+1)) h16 K)) (F268.wL3 (d+1) (aw s) (some mb) gone B.p N.length B.c (N.length:Int) (ax ((i:Int)+1)) h16 K))))):=by
   intro o12 e1 e2 KK hk;rw[e2];refine⟨_,rfl,?_⟩;refine aW λk6 B6 P6 y6=> ?_;refine je ?_;have C6:=B5.only P6 ak;have P16:aM [] h' k6:=P15.trans P6 ak;refine a8 (by rw[At.rd C6 0];rfl) ?_;rw[e1];exact hk k6 P16 ah
  have body: ∀k6,aM [] h' k6->k5.size<=k6.size->aJ tv (aJ (!(keep (i+2))) (cF (rd k6 ⟨s,2,none⟩) (λp18 l19 _=>aX p18 (λa21=>(0<=(i:Int)/\(i:Int)<(Nat.cast l19:Int)/\aY k6 (Addr.add (Addr.add a21 (i*4)) 0) aB (λh22=>aY h22 (Addr.add (Addr.add a21 (i*4)) 1) (ap (0:Int)) (λh23=>aY h23 (Addr.add (Addr.add a21 (i*4)) 2) (aq (0:Int)) (λh24=>aY h24 (Addr.add (Addr.add a21 (i*4)) 3) (aq (0:Int)) (λh25=>cF (rd h25 ⟨s,3,none⟩) (λp26 l27 c28=>bg h25 (.cells #[(aq ((i+2:Nat):Int))] 46) (λb29 h30=>fQ h30 46 1 4 #[(aq (0:Int))] p26 l27 c28 (some (aw b29)) 1 (λp31 l32 c33 h34=>aY h34 ⟨s,3,none⟩ (.slice p31 l32 c33) (λh35=>F268.wL3 (d+1) (aw s) (some mb) (ax (gone+(1:Int))) B.p N.length B.c (N.length:Int) (ax ((i:Int)+(1:Int))) h35 K)))))))))))) (F268.wL3 (d+1) (aw s) (some mb) gone B.p N.length B.c (N.length:Int) (ax ((i:Int)+1)) k6 K)) (F268.wL3 (d+1) (aw s) (some mb) gone B.p N.length B.c (N.length:Int) (ax ((i:Int)+1)) k6 K):=by
   intro k6 P16 y6;cases o with
   |none=>
    simp only[dE,Ng,Value.bool.injEq]at ec;rw[<-ec.1,aK];exact stay k6 P16 (Dl ho)
   |some x=>
    simp only[dE,Ng,Value.bool.injEq,Value.int.injEq,Ol,OU]at ec;rw[<-ec.1,aO];cases hkp:keep (i+2)with
    |true=>rw[MF,aK];exact stay k6 P16 (Ew hkp ho)
    |false=>
     rw[MS,aO];have m6:=R.m.only P16 ak;have el:(cv (gE keep i) N).length=N.length:=f0;refine bF (p:=B.p) (l:=N.length) (c:=B.c) (by rw[At.rd m6.S,el];rfl) ?_;rw[eb,aT];refine⟨ah,ah,?_⟩;simp only[aL,LX,Ma]
     have c1:F.length<N.length:=by have:0<bi (cv (gE keep i) N):=List.countP_pos_iff.2 ⟨some x,Mc hm,rfl⟩;have:=R.cnt;omega
     refine xY (B:={B with fp:=fp,fc:=fc}) m6 hm eb (by rw[el];exact c1) (by have:=P16.size;omega) λfp' fc' h7 H7 O7 hf7=> ?_;rw[show ax ((i:Int)+1)=((i+1:Nat):Int) by rw[wrap_i64 ah ah];omega,<-eb];have e:=Eq hkp ho;have z6:=P16.size
     have ni:i+2∉F:=λhm2=>by have:=(R.fre.2 _ hm2).2.2;rw[show i+2-2=i by omega]at this;rw[dk.2 hm]at this;cases this
     have sub: ∀b∈s::aV B.p++aV fp,b<h0.size->b∈B.bm s:=λb hb hl=>by
      simp only[SB.bm,List.mem_append,List.mem_cons]at hb ⊢;rcases hb with(q|q)|q
      ·exact .inl (.inl (.inl q))
      ·exact .inl (.inr q)
      ·rcases R.fr b q with r|r
       ·exact .inr r
       ·omega
     have nm:mb∉s::aV B.p++aV fp:=λhm2=>dm (sub mb hm2 lm);refine ih (i+1) h7 fp' fc' _ _ ah ⟨by rw[e];exact H7,(R.M.only P16 ak).only O7 nm,?_,?_,(R.O.trans P16 ak).trans O7 sub,λb hb=> ?_⟩
     ·rw[e];have:=mf hm;have:=R.cnt;simp;omega
     ·rw[e];refine⟨ML.2 ⟨R.fre.1,ak,λa ha c hc e2=> ?_⟩,λa ha=> ?_⟩
      ·simp at hc;subst hc e2;exact ni ha
      ·rw[fq (by rw[el];exact hi)];rcases Zq ha with q|q
       ·obtain⟨q1,q2,q3⟩:=R.fre.2 a q;refine⟨q1,q2,?_⟩;split
        ·rfl
        ·exact q3
       ·simp at q;subst q;exact⟨ah,ah,by rw[L4 ah]⟩
     ·rcases hf7 b hb with q|q
      ·exact R.fr b q
      ·exact .inr ah
  refine dg (m:=mo) (R.M.only P15 ak) (λhn=> ?_) λj v hv=> ?_
  ·have k0:keep (i+2)=false:=by
    cases hk:keep (i+2)with
    |false=>rfl
    |true=>
     rw[(Hk (i+2)).1 hk]at hn;cases hn
   exact tail none (by rw[k0];rfl) rfl _ body
  ·have k1:keep (i+2)=true:=by
    cases hk:keep (i+2)with
    |true=>rfl
    |false=>
     rw[(Hk (i+2)).2 hk]at hv;cases hv
   rw[(Hk (i+2)).1 k1]at hv;injection hv with hv;subst hv;exact tail (some (j,.agg #[])) (by rw[k1];rfl) rfl _ body
def yQ{h:aI}{B:SB}(Q':Int->Int->Prop)(H:nM h s n room B f g N F Q off)(M0:bV h mb .u32 mo)(Hk:CY mo keep)(dm:mb∉B.bm s++B.bt)
  (hk: ∀i x,nd N i=some x->keep (i+2)=true->(x.2.1<2\/keep x.2.1=true)/\(x.2.2<2\/keep x.2.2=true))
  (hK: ∀h' B' F' u,nM h' s n room B' f g (cv keep N) F' Q' off->aM (B.bm s++B.bt) h h'->(∀y∈B'.bm s++B'.bt,y∈B.bm s++B.bt\/h.size<=y)->K (ap u) h'):
  Cl 268 [au (aw s),.map (some mb)] h K:=by
 have C:=H.m.len;have V:=H.m.n8;apply F268.spec;simp only[aL,LX];refine bF (p:=B.p) (l:=N.length) (c:=B.c) (by rw[At.rd H.m.S];rfl) ?_;unfold F268.wk3;have P:mb∉B.bm s:=λhm=>dm (Zp (.inl hm));have R0:Rt h h s n room B f g N Q off mb mo keep 0 B.fp B.fc F:=⟨by rw[qe];exact H.m,M0,by rw[qe];exact H.cnt,by rw[qe];exact H.fre,aM.refl _ _,λb hb=> .inl hb⟩;refine⟨_,tQ H.m.sep Hk P M0.lt H.m.lt ⟨C.1,C.2.1⟩ (λh1 fp fc F1 u R=> ?_) N.length 0 h B.fp B.fc F 0 ah R0⟩;obtain⟨m1,-,A,v,O1,U⟩:=R;rw[Db]at m1 A v;have el:(cv keep N).length=N.length:=f0;obtain⟨G,Y,GX⟩:=ot H.ok hk;have D: ∀b∈B.bt,b∉B.bm s:=H.t.sep;have T1:=H.t.only O1 λb hb hm=>D b hm hb;unfold F268.wk12;simp only[aL,LX];refine aQ (by rw[At.rd m1.S];rfl) ?_;obtain⟨cs,ops,fails,W1,S1⟩:=m1.cac;have W1:CW h1 B.cac B.cm B.cmc 0 256 cs ops fails:=W1;refine BM W1 ah (λl hl=> ?_) λh2 I z M z2 W2 O2=>⟨rfl,?_⟩
 ·rw[LX];have:=S1 l hl;exact⟨this.1,this.2.1,this.2.2.1⟩
 have d:=m1.sep
 have nm: ∀y∈[s,B.ob,B.cac]++aV B.p++aV fp,y∉[B.cm,B.cmc]:=λy hy hm=>by
  have d:([s,B.ob,B.cac,B.cm,B.cmc]++aV B.p++aV fp).Nodup:=d;simp only[Nu,Nn,MO,List.mem_cons,List.mem_append,NU]at d;obtain⟨⟨a1,a2,a3,a4,a5,a6⟩,⟨b1,b2,b3,b4,b5⟩,⟨c1,c2,c3,c4⟩,⟨d1,d2,d3⟩,⟨e1,e2⟩,-⟩:=d;simp only[List.mem_cons,MR,Nk]at hm;simp only[Nu,Nn,List.mem_cons,List.mem_append]at hy;rcases hy with q|q|q|q|q<;>rcases hm with r|r<;>subst r
  ·exact a3 q.symm
  ·exact a4 q.symm
  ·exact b2 q.symm
  ·exact b3 q.symm
  ·exact c1 q.symm
  ·exact c2 q.symm
  ·exact d2 q
  ·exact e1 q
  ·exact d3 q
  ·exact e2 q
 have nt: ∀y∈B.bt,y∉[B.cm,B.cmc]:=λy hy hm=>D y hy (by simp at hm;rcases hm with q|q<;>subst q<;>simp[SB.bm]);have S2:=m1.S.only O2 (nm _ ak);have S2':At h2 s (tW room {B with fp:=fp,fc:=fc} (cv keep N).length F1.length off (au (aw B.tb)) (.map (some B.sb))):=S2;have T2:=T1.only O2 λb hb hm=>nt b hm hb;refine aQ (by rw[At.rd S2];rfl) ?_;obtain⟨T,⟨Z,mm,W,J,t1,t2,t3,L⟩,t5,t6,t7⟩:=T2.tab;refine gq t1 (aH rfl ?_)
 have T32:32<=T:=by obtain⟨k,e⟩:=t5;have:=NX k;omega
 rw[show(if(T:Int)>32 then(T:Int)else 32)=(T:Int) by split<;>omega]
 have a0:bi (cv keep N)<=bi N:=by
  have:=H.cnt
  have h1: ∀(N:ay) (k:Nat->Bool),bi (N.mapIdx λi o=>if k i then o else none)<=bi N:=by
   intro N
   induction N with
   |nil=>intro k;simp[bi]
   |cons o N ih=>
    intro k;have:=ih λi=>k (i+1);simp only[bi,List.mapIdx_cons,Nl]at this ⊢;split
    ·omega
    ·simp;omega
  exact h1 N λi=>keep (i+2)
 have R2:HJ h2 s n room {B with fp:=fp,fc:=fc} f g (cv keep N) F1 Q':=
  ⟨m1.O.only O2 (nm _ ak),m1.own.only O2 λb hb=>nm _ (by rw[show B.p=_ from hb];simp[aV]),m1.fre.only O2 λb hb=>nm _ (Zp (.inr hb)),⟨M,I,z,W2,λl hl=>by have:=z2 l hl;rw[LX]at this;exact⟨this.1,this.2.1,ah,λe=>ah⟩⟩,m1.n8,m1.len,m1.sep⟩
 refine oA (bl:=[]) S2' R2 (λi hi=>by simp at hi) (λa e=>by cases e) ak (λi x hx=> ?_) (λi j x hi hj=> ?_) t5 (by rw[dP];omega) t7 λtb m mc sb h3 m3 T3 _ g1 g2 g3 g4 O3=>⟨rfl,?_⟩
 ·rw[dP]at hx;exact G.ndok V.2 (by rw[el];omega) hx
 ·rw[dP]at hi hj;exact G.once i j x hi hj
 rw[dP]at T3;have z1:=O1.size;have a7:=O2.size;have z3:=O3.size;refine hK h3 _ F1 u ⟨m3,T3,G,by rw[el];exact A,v.1,λa ha=>by rw[el];exact v.2 a ha⟩ (((O1.mono λb hb _=>Zp (.inl hb)).trans O2 λb hb _=>Zp (.inl (by simp at hb;rcases hb with q|q<;>subst q<;>simp[SB.bm]))).trans O3 λb hb _=>Zp (.inl (by simp at hb;subst hb;simp[SB.bm]))) λy hy=> ?_
 have new: ∀y,y∈SB.bt (SB.tabs {B with fp:=fp,fc:=fc} tb m mc sb)->h.size<=y:=λy hy=>by simp[SB.bt,SB.tabs]at hy;omega
 rcases Zq hy with q|q
 ·have q:y∈[s,B.ob,B.cac,B.cm,B.cmc]++aV B.p++aV fp:=q;simp only[SB.bm,List.mem_append]at q ⊢;rcases q with(q|q)|q
  ·exact .inl (.inl (.inl (.inl q)))
  ·exact .inl (.inl (.inl (.inr q)))
  ·rcases U y q with r|r
   ·exact .inl (.inl (.inr r))
   ·exact .inr r
 ·exact .inr (new y q)
def wC{h:aI}{s:Nat}{L:List Nat}{X:SX}{mb:Nat}{mo:List (Int×Value)}{keep:Nat->Bool}{K:KK}(Q':Int->Int->Prop)(H:bT h s L X)(M0:bV h mb .u32 mo)(Hk:CY mo keep)(dm:mb∉L)
  (hk: ∀i x,nd X.N i=some x->keep (i+2)=true->(x.2.1<2\/keep x.2.1=true)/\(x.2.2<2\/keep x.2.2=true))
  (hK: ∀h' L' a,bT h' s L' {X with N:=cv keep X.N,Q:=Q'}->aM L h h'->bC L L' h->K (ap a) h'):
  Cl 268 [au (aw s),.map (some mb)] h K:=by
 obtain⟨B,F,e,H⟩:=H;subst e;exact yQ Q' H M0 Hk dm hk λh' B' F' a S O fr=>hK h' _ a ⟨B',F',rfl,S⟩ O fr
def swp(g:Nat->Int)(i j:Nat):Nat->Int:=λk=>if k=j then g i else if k=i then g j else g k
inductive dA (a b:Nat):(Nat->Int)->(Nat->Int)->Prop
 |refl (g:Nat->Int):dA a b g g
 |step {g g':Nat->Int} {i j:Nat}:a<=i->i<b->a<=j->j<b->dA a b (swp g i j) g'->dA a b g g'
def dA.trans(H:dA a b f g)(G:dA a b g k):dA a b f k:=by
 induction H with
 |refl _=>exact G
 |step h1 h2 h3 h4 _ ih=>exact .step h1 h2 h3 h4 (ih G)
def dA.one(g:Nat->Int)(h1:a<=i)(h2:i<b)(h3:a<=j)(h4:j<b):dA a b g (swp g i j):= .step h1 h2 h3 h4 (.refl _)
def dA.mono(H:dA a b f g)(ha:a'<=a)(hb:b<=b'):dA a' b' f g:=by
 induction H with
 |refl g=>exact .refl g
 |step h1 h2 h3 h4 _ ih=>exact .step ah ah ah ah ih
def dA.out(H:dA a b f g)(hk:k<a\/b<=k):g k=f k:=by
 induction H with
 |refl g=>rfl
 |step h1 h2 h3 h4 _ ih=>
  rw[ih];unfold swp;rw[LY ah,LY ah]
def dA.all{a b:Nat}{f g:Nat->Int}(H:dA a b f g){Q:Int->Prop}(h: ∀k,a<=k->k<b->Q (f k)): ∀k,a<=k->k<b->Q (g k):=by
 induction H with
 |refl g=>exact h
 | @step g g' i j h1 h2 h3 h4 _ ih=>
  apply ih;intro k c d;unfold swp;split
  ·exact h i h1 h2
  ·split
   ·exact h j h3 h4
   ·exact h k c d
def dA.perm(H:dA a b f g)(hb:b<=n):((List.range n).map g).Perm ((List.range n).map f):=by
 induction H with
 |refl g=>exact PD _
 | @step g g' i j h1 h2 h3 h4 _ ih=>
  refine ih.trans ?_
  have e:(List.range n).map (swp g i j)=((List.range n).map λk=>if k=j then i else if k=i then j else k).map g:=by
   rw[NL];apply Nb;intro k _;simp only[Function.comp,swp];split
   ·rfl
   ·split<;>rfl
  rw[e];refine List.Perm.map g ?_;refine(List.perm_ext_iff_of_nodup ?_ List.nodup_range).2 λk=> ?_
  ·refine List.Pairwise.map _ (λx y (c:x≠y)=> ?_) List.nodup_range
   (repeat' split)<;>omega
  ·rw[Ms];constructor
   ·rintro ⟨x,hx,rfl⟩;rw[MW]at hx ⊢;split
    ·omega
    ·split<;>omega
   ·intro hk;rw[MW]at hk;by_cases h:k=j
    ·exact⟨i,by rw[MW];omega,by by_cases h':i=j<;>simp[h,h']⟩
    ·by_cases h':k=i
     ·exact⟨j,by rw[MW];omega,by simp[h']⟩
     ·exact⟨k,by rw[MW];omega,by simp[h,h']⟩
def fX(a b:Nat)(g:Nat->Int):Prop:= ∀p q,a<=p->p<q->q<b->g p<=g q
def fX.single(g:Nat->Int)(h:b<=a+1):fX a b g:=λp q _ _ _=>ah
def yC(a i j:Nat)(g:Nat->Int):Prop:= ∀p q,a<=p->p<q->q<=i->q≠j->g p<=g q
def yC.start(H:fX a i g):yC a i i g:=λp q h1 h2 h3 h4=>H p q h1 h2 ah
def yC.stop(H:yC a i j g)(h:j<=a\/g (j-1)<=g j):fX a (i+1) g:=λp q h1 h2 h3=>by
 by_cases hq:q=j
 ·subst hq;rcases h with h|h
  ·omega
  ·by_cases hp:p=q-1
   ·subst hp;exact h
   ·exact OA (H p (q-1) h1 ah ah ah) h
 ·exact H p q h1 h2 ah hq
def jp(g:Nat->Int)(i j:Nat):swp g i j i=g j:=by
 unfold swp;by_cases h:i=j
 ·rw[L4 h,h]
 ·rw[LY h,L4 rfl]
def pX(g:Nat->Int)(i j:Nat):swp g i j j=g i:=L4 rfl
def dN(g:Nat->Int)(hi:k≠i)(hj:k≠j):swp g i j k=g k:=by unfold swp;rw[LY hj,LY hi]
def yC.step(H:yC a i j g)(hj:a<j)(b:j<=i)(hl:g j<g (j-1)):yC a i (j-1) (swp g j (j-1)):=λp q h1 h2 h3 h4=>by
 by_cases hq:q=j
 ·subst hq;rw[jp];by_cases hp:p=q-1
  ·subst hp;rw[pX];omega
  ·rw[dN g ah hp];exact H p (q-1) h1 ah ah ah
 ·rw[dN g hq h4];by_cases hp:p=j
  ·subst hp;rw[jp];exact H (p-1) q ah ah h3 hq
  ·by_cases hp':p=j-1
   ·subst hp';rw[pX];exact H j q ah ah h3 hq
   ·rw[dN g hp hp'];exact H p q h1 h2 h3 hq
def cf(q:IntKind)(h:aI)(b n:Nat)(g:Nat->Int)(sp:List Value):Prop:=At h b (dQ n (λk=> .int q (g k))++sp)
def cf.rd(A:cf q h b n g sp)(hk:k<n):Ev.rd h ⟨b,k,none⟩=some (.int q (g k)):=by rw[At.rd A,Mo (by rw[cj];exact hk),dR hk]
def cf.only(A:cf q h b n g sp)(O:aM S h h')(hb:b∉S):cf q h' b n g sp:=At.only A O hb
def cf.st(A:cf q h b n g sp)(hk:k<n)
  (hK: ∀h',cf q h' b n (λj=>if j=k then v else g j) sp->aM [b] h h'->K h'):aY h ⟨b,k,none⟩ (.int q v) K:=
 aU A (by simp[cj];omega) rfl λh' A' O' _=>hK h' (by
  have e:(dQ n (λj=>Value.int q (g j))++sp).set k (.int q v)=dQ n (λj=>Value.int q (if j=k then v else g j))++sp:=by
   rw[OI _ _ (by rw[cj];exact hk),jE]
   congr 1
   apply gC;intro j _;split<;>rfl
  rw[e]at A';exact A') O'
def cf.ld{q:IntKind}{h:aI}{b n:Nat}{g:Nat->Int}{sp:List Value}(A:cf q h b n g sp){x:Int}{k:Nat}(hx:x=k)(hk:k<n){Q:Int->Prop}(hQ:Q (g k)):
  aX (some (aw b)) λa=>(0<=x/\x<(n:Int)/\aS q (Ev.rd h (Addr.add a (Int.toNat x*1))) Q):=by
 subst hx;rw[aT];refine⟨ah,ah,?_⟩;rw[aL,show 0+Int.toNat (k:Int)*1=k by omega,A.rd hk,bB];exact hQ
def cf.sto{q:IntKind}{h:aI}{b n:Nat}{g:Nat->Int}{sp:List Value}(A:cf q h b n g sp){x:Int}{k:Nat}(hx:x=k)(hk:k<n){v:Int}{K:aI->Prop}
  (hK: ∀h',cf q h' b n (λj=>if j=k then v else g j) sp->aM [b] h h'->K h'):
  aX (some (aw b)) λa=>(0<=x/\x<(n:Int)/\aY h (Addr.add (Addr.add a (Int.toNat x*1)) 0) (.int q v) K):=by
 subst hx;rw[aT];refine⟨ah,ah,?_⟩;rw[aL,aL,show 0+Int.toNat (k:Int)*1+0=k by omega];exact A.st hk hK
def F67.spec(H:bg h (.map #[] 0) λa b=>0<=(if 4<(if 1>i then 1 else i)then 4 else(if 1>i then 1 else i))/\(if 4<(if 1>i then 1 else i)then 4 else(if 1>i then 1 else i))<=(if 4<(if 1>i then 1 else i)then 4 else(if 1>i then 1 else i))/\(24*(if 4<(if 1>i then 1 else i)then 4 else(if 1>i then 1 else i))<=281474976710656)/\(if 4<(if 1>i then 1 else i)then 4 else(if 1>i then 1 else i))<=9223372036854775807/\bg b (.cells (madeCells #[.slice none 0 0] ((if 4<(if 1>i then 1 else i)then 4 else(if 1>i then 1 else i)).toNat*1)) 56) λb c=>bg c (.cells #[.map (some a),.slice (some (aw b)) ((if 4<(if 1>i then 1 else i)then 4 else(if 1>i then 1 else i)).toNat) ((if 4<(if 1>i then 1 else i)then 4 else(if 1>i then 1 else i)).toNat)] 207) λa b=>K (au (aw a)) b):Cl 67 [ap i] h K:=cN Tryz.func67 H
def F174.T:bh:=⟨[],[(3,[[(0,[]),(1,[]),(2,[]),(3,[]),(4,[]),(5,[]),(6,[]),(7,[]),(8,[]),(9,[]),(10,[]),(11,[]),(12,[]),(13,[0,1,2,3,4,5,6,7,8,9,10,11]),(14,[0,1,2,3,4]),(15,[]),(16,[])]])]⟩
def F174.spec{i:Int}{a:Addr}(H:aJ (i<0) (K aB h) (cF (rd h (a.add 1)) λ_ b _=>aJ (i>=(b:Int)) (K aB h) (cF (rd h (a.add 1)) λb c d=>cF (rd h (a.add 1)) λe f g=>aX e λk=>0<=i/\i<(f:Int)/\cF (rd h (k.add (i.toNat*1))) λl m n=>bg h (.cells #[aq j] 46) λj o=>aF (au a)/\aF (au a)/\aF (au (a.add 1))/\cF (rd o (a.add 1)) λp q r=>aG (.slice p q r) (.slice b c d)/\aF (ap i)/\aF (au a)/\aF (au a)/\aF (au (a.add 1))/\cF (rd o (a.add 1)) λp q r=>aG (.slice p q r) (.slice e f g)/\aF (ap i)/\aX e λe=>0<=i/\i<(f:Int)/\aG (au (e.add (i.toNat*1))) (au (k.add (i.toNat*1)))/\cF (rd o (k.add (i.toNat*1))) λe f g=>aG (.slice e f g) (.slice l m n)/\fQ o 46 1 4 #[aq 0] l m n (some (aw j)) 1 λe f g j=>aF (au a)/\aF (au a)/\aF (au (a.add 1))/\cF (rd j (a.add 1)) λa k l=>aG (.slice a k l) (.slice b c d)/\aF (ap i)/\aX b λa=>0<=i/\i<(c:Int)/\aY j ((a.add (i.toNat*1)).add 0) (.slice e f g) λa=>K aC a))):Cl 174 [au a,ap i,aq j] h K:=cT F174.T Tryz.func174 H
def F176.T:bh:=⟨[],[(5,[[(0,[]),(1,[]),(2,[]),(3,[]),(4,[]),(5,[]),(6,[]),(7,[]),(8,[]),(9,[]),(10,[])]])]⟩
def F176.spec{i:Int}{a:Addr}(H:Cl 219 [au a,ap i] h λb c=>aS .i64 (some b) λb=>aJ (b==0) (K (.tuple #[aq 0,aB]) c) (cF (rd c (a.add 1)) λd e _=>aX d λd=>0<=i/\i<(e:Int)/\cF (rd c (d.add (i.toNat*1))) λd e f=>cF (rd c (a.add 1)) λa g _=>0<=(ax (b-1))/\(ax (b-1))<=(f:Int)/\aX a λa=>0<=i/\i<(g:Int)/\aY c ((a.add (i.toNat*1)).add 0) (.slice (if f=0 then d else Option.map (λa=>Addr.add a (0*1)) d) ((ax (b-1)).toNat-0) (f-0)) λa=>aX d λc=>0<=(ax (b-1))/\(ax (b-1))<(e:Int)/\aS .u32 (rd a (c.add ((ax (b-1)).toNat*1))) λb=>K (.tuple #[aq b,aC]) a)):Cl 176 [au a,ap i] h K:=cT F176.T Tryz.func176 H
def F219.spec{i:Int}{a:Addr}(H:aJ (i<0) (K (ap 0) h) (cF (rd h (a.add 1)) λ_ b _=>aJ (i>=(b:Int)) (K (ap 0) h) (cF (rd h (a.add 1)) λa b _=>aX a λa=>0<=i/\i<(b:Int)/\cF (rd h (a.add (i.toNat*1))) λ_ a _=>K (ap (a:Int)) h))):Cl 219 [au a,ap i] h K:=cN Tryz.func219 H
def F213.T:bh:=⟨[(3,[3,15,16,17]),(7,[3])],[]⟩
section
variable (n:Nat)(l:Addr)(g:az)(f d:Nat)(b:az)(a i:Nat)(j c:Int)(h:aI)(K:KK)
def F213.wL3:Prop:=Lp Tryz.f213 F213.T [1,1,0,1,0] n [(3,(.slice g f d)),(15,(.slice b a i)),(16,(ap j)),(17,(ap c))] h K
def F213.wk7:Prop:=Cl 260 [.slice g f d] h λa b=>a=aE/\Cl 261 [.slice g f d] b λa b=>cF (some a) λa c d=>Cl 262 [.slice a c d,.func (.func 263) #[] #[]] b λa b=>cF (some a) λa c d=>K (.slice a c d) b
def F213.sL3:F213.wL3 (n+1) g f d b a i j c h K=(aJ (c<j) (aX b λe=>0<=c/\c<(a:Int)/\cF (rd h (e.add (c.toNat*1))) λe k _=>fQ h 46 1 4 #[aq 0] g f d e k λd e f g=>F213.wL3 n d e f b a i j (ax (c+1)) g K) (F213.wk7 g f d h K)):=by kernel_rfl
def F213.wk3:Prop:=(∃e,F213.wL3 e g f d b a i j c h K)
def F213.spec(H:bU (rd h (l.add 0)) λa=>Cl 259 [.map a] h λa b=>jX (some a) λa=>Cl 258 [a] b λa b=>cF (some a) λa c d=>cF (rd b (l.add 1)) λe f g=>F213.wk3 a c d e f g (f:Int) 0 b K):Cl 213 [au l] h K:=cT F213.T Tryz.func213 H
end
def F209.spec{a:Addr}(H:bU (rd h (a.add 0)) λb=>dT h b .u32 .u32 i λb=>aS .i64 (some (kU (ap 0) b)) λb=>aJ (b==0) (K (ap 61) h) (bU (rd h (a.add 0)) λb=>dT h b .u32 .u32 i λc=>aS .i64 (some (kU (ap 0) c)) λc=>lu h b .u32 .u32 i (ap (ax (c-1))) λb=>bU (rd b (a.add 0)) λc=>dT b c .u32 .u32 i λc=>aS .i64 (some (kU (ap 0) c)) λc=>aJ (c==0) (bU (rd b (a.add 0)) λa=>yy b a .u32 .u32 i λa=>K (ap 0) a) (K (ap 0) b))):Cl 209 [au a,aq i] h K:=cN Tryz.func209 H
def F210.spec{a:Addr}(H:bU (rd h (a.add 0)) λa=>dT h a .u32 .u32 i λb=>aS .i64 (some (kU (ap 0) b)) λb=>lu h a .u32 .u32 i (ap (ax (b+1))) λa=>K aE a):Cl 210 [au a,aq i] h K:=cN Tryz.func210 H
def F258.spec(H:Cl 292 [.slice none 0 0,.func (.func 293) #[] #[au a]] h λa b=>cF (some a) λa c d=>K (.slice a c d) b):Cl 258 [.func (.func 293) #[] #[au a]] h K:=cN Tryz.func258 H
def F259.spec(a:Option Nat)(h:aI)(K:KK)(H:bg h (.cells #[.map a] 204) λa b=>K (.func (.func 293) #[] #[au (aw a)]) b):Cl 259 [.map a] h K:=cN Tryz.func259 H
def F260.spec{u v:Nat}{x:az}{h:aI}{K:KK}(H:Cl 295 [ar (IntKind.wrap .u64 (u:Int))] h λa b=>aS .i64 (some a) λa=>Cl 294 [.slice x u v,ap 0,ap (u:Int),ap a] b λa b=>a=aE/\K aE b):Cl 260 [.slice x u v] h K:=cN Tryz.func260 H
def F261.T:bh:=⟨[(4,[0,3]),(9,[0,3,4,5]),(14,[0,3])],[(6,[[(0,[]),(1,[]),(2,[]),(3,[]),(4,[]),(5,[]),(6,[]),(7,[]),(8,[]),(9,[])]]),(11,[[(0,[]),(1,[]),(2,[]),(3,[]),(4,[]),(5,[]),(6,[]),(7,[]),(8,[]),(9,[])]])]⟩
section
variable (n m4:Nat)(c:az)(b d:Nat)(f:Int)(i:az)(g l:Nat)(j:Int)(h:aI)(K:KK)
def F261.wL9:Prop:=Lr Tryz.f261 F261.T [1,1,0,1,0,0,1,0,0,1,0,1,0,1,0] [m4] n [(0,(.slice c b d)),(3,(ap f)),(4,(.slice i g l)),(5,(ap j))] h K
def F261.wL4:Prop:=Lp Tryz.f261 F261.T [1,1,0,1,0] n [(0,(.slice c b d)),(3,(ap f))] h K
def F261.wk14(m4:Nat)(c:az)(b d:Nat)(f:Int)(h:aI)(K:KK):Prop:=(0<=f/\f<=(b:Int)/\vq h #[aq 0] (if d=(f.toNat)then c else Option.map (λa=>Addr.add a ((f.toNat)*1)) c) (b-(f.toNat)) λa=>0<=f/\f<=(d:Int)/\K (.slice (if d=0 then c else Option.map (λa=>Addr.add a (0*1)) c) (f.toNat-0) (d-0)) a)
def F261.sL9:F261.wL9 (n+1) m4 c b d f i g l j h K=(aJ (j<(g:Int)) (aX i λa=>0<=j/\j<(g:Int)/\aS .u32 (rd h (a.add (j.toNat*1))) λa=>aX i λe=>0<=(ax (j-1))/\(ax (j-1))<(g:Int)/\aS .u32 (rd h (e.add ((ax (j-1)).toNat*1))) λe=>aJ (a !=e) (aX i λa=>0<=j/\j<(g:Int)/\aS .u32 (rd h (a.add (j.toNat*1))) λa=>aX c λe=>0<=f/\f<(b:Int)/\aY h ((e.add (f.toNat*1)).add 0) (aq a) λa=>F261.wL9 n m4 c b d (ax (f+1)) i g l (ax (j+1)) a K) (F261.wL9 n m4 c b d f i g l (ax (j+1)) h K)) (F261.wk14 m4 c b d f h K)):=by kernel_rfl
def F261.wk9:Prop:=(∃a,F261.wL9 a m4 c b d f i g l j h K)
def F261.sL4:F261.wL4 (n+1) c b d f h K=(aJ (f<(b:Int)) (aX c λa=>0<=f/\f<(b:Int)/\aS .u32 (rd h (a.add (f.toNat*1))) λa=>aX c λe=>0<=(ax (f-1))/\(ax (f-1))<(b:Int)/\aS .u32 (rd h (e.add ((ax (f-1)).toNat*1))) λe=>aJ (a==e) ((0<=f/\f<=(b:Int)/\F261.wk9 n c b d f (if d=(f.toNat)then c else Option.map (λa=>Addr.add a ((f.toNat)*1)) c) (b-(f.toNat)) (d-(f.toNat)) 1 h K)) (F261.wL4 n c b d (ax (f+1)) h K)) (K (.slice c b d) h)):=by kernel_rfl
def F261.wk4:Prop:=(∃a,F261.wL4 a c b d f h K)
def F261.spec(H:aJ ((b:Int)<(2:Int)) (K (.slice c b d) h) (F261.wk4 c b d 1 h K)):Cl 261 [.slice c b d] h K:=cT F261.T Tryz.func261 H
end
def F262.T:bh:=⟨[(5,[0,1,5,6]),(11,[0,5])],[]⟩
section
variable (n:Nat)(b:az)(c d:Nat)(i:Value)(f g:Int)(h:aI)(K:KK)
def F262.wL5:Prop:=Lp Tryz.f262 F262.T [1,1,1,0,1,0] n [(0,(.slice b c d)),(1,i),(5,(ap f)),(6,(ap g))] h K
def F262.wk11:Prop:=(0<=f/\f<=(c:Int)/\vq h #[aq 0] (if d=(f.toNat)then b else Option.map (λa=>Addr.add a ((f.toNat)*1)) b) (c-(f.toNat)) λa=>0<=f/\f<=(d:Int)/\K (.slice (if d=0 then b else Option.map (λa=>Addr.add a (0*1)) b) (f.toNat-0) (d-0)) a)
def F262.sL5:F262.wL5 (n+1) b c d i f g h K=(aJ (g<(c:Int)) (aX b λa=>0<=g/\g<(c:Int)/\aS .u32 (rd h (a.add (g.toNat*1))) λa=>dS Tryz.prog X i [aq a] h λe j=>bQ (some e) λe=>aJ (!e) (aX b λe=>0<=f/\f<(c:Int)/\aY j ((e.add (f.toNat*1)).add 0) (aq a) λa=>F262.wL5 n b c d i (ax (f+1)) (ax (g+1)) a K) (F262.wL5 n b c d i f (ax (g+1)) j K)) (F262.wk11 b c d f h K)):=by kernel_rfl
def F262.wk5:Prop:=(∃a,F262.wL5 a b c d i f g h K)
def F262.spec(H:Cl 296 [.slice b c d,.func (.func 263) #[] #[]] h λa e=>aS .i64 (some a) λa=>aJ (a==(-1)) (K (.slice b c d) e) (F262.wk5 b c d (.func (.func 263) #[] #[]) a (ax (a+1)) e K)):Cl 262 [.slice b c d,.func (.func 263) #[] #[]] h K:=cT F262.T Tryz.func262 H
end
def F263.spec(H:K (aD (i<=1)) h):Cl 263 [aq i] h K:=cN Tryz.func263 H
def F296.T:bh:=⟨[(2,[0,1,7,8])],[]⟩
section
variable (n:Nat)(b:az)(a c:Nat)(f:Value)(g d:Int)(h:aI)(K:KK)
def F296.wL2:Prop:=Lp Tryz.f296 F296.T [1,0,1,0] n [(0,(.slice b a c)),(1,f),(7,(ap g)),(8,(ap d))] h K
def F296.sL2:F296.wL2 (n+1) b a c f g d h K=(aJ (d<g) (aX b λe=>0<=d/\d<(a:Int)/\aS .u32 (rd h (e.add (d.toNat*1))) λe=>dS Tryz.prog X f [aq e] h λe i=>bQ (some e) λe=>aJ e (K (ap d) i) (F296.wL2 n b a c f g (ax (d+1)) i K)) (K (ap (-1)) h)):=by kernel_rfl
def F296.wk2:Prop:=(∃e,F296.wL2 e b a c f g d h K)
def F296.spec(H:F296.wk2 b a c (.func (.func 263) #[] #[]) (a:Int) 0 h K):Cl 296 [.slice b a c,.func (.func 263) #[] #[]] h K:=cT F296.T Tryz.func296 H
end
def F295.spec(H:Cl 323 [ar i] h λa b=>aS .i64 (some a) λa=>K (ap a) b):Cl 295 [ar i] h K:=cN Tryz.func295 H
def F323.T:bh:=⟨[(4,[0,2]),(7,[0,2]),(10,[0,2])],[]⟩
section
variable (a b:Int)(h:aI)(K:KK)
def F323.wk10:Prop:=(0<=(IntKind.wrap .u8 a)/\EF (ByteArray.mk #[0,1,2,2,3,3,3,3,4,4,4,4,4,4,4,4,5,5,5,5,5,5,5,5,5,5,5,5,5,5,5,5,6,6,6,6,6,6,6,6,6,6,6,6,6,6,6,6,6,6,6,6,6,6,6,6,6,6,6,6,6,6,6,6,7,7,7,7,7,7,7,7,7,7,7,7,7,7,7,7,7,7,7,7,7,7,7,7,7,7,7,7,7,7,7,7,7,7,7,7,7,7,7,7,7,7,7,7,7,7,7,7,7,7,7,7,7,7,7,7,7,7,7,7,7,7,7,7,8,8,8,8,8,8,8,8,8,8,8,8,8,8,8,8,8,8,8,8,8,8,8,8,8,8,8,8,8,8,8,8,8,8,8,8,8,8,8,8,8,8,8,8,8,8,8,8,8,8,8,8,8,8,8,8,8,8,8,8,8,8,8,8,8,8,8,8,8,8,8,8,8,8,8,8,8,8,8,8,8,8,8,8,8,8,8,8,8,8,8,8,8,8,8,8,8,8,8,8,8,8,8,8,8,8,8,8,8,8,8,8,8,8,8,8,8,8,8,8,8,8,8,8,8,8,8,8]) (IntKind.wrap .u8 a) λa=>K (ap (ax (b+(ax a)))) h)
def F323.wk7:Prop:=aJ (a>=256) ((0<=(8:Int)/\F323.wk10 (Int.fdiv a (2^(min (Int.toNat 8) (IntKind.bits .u64)))) (ax (b+8)) h K)) (F323.wk10 a b h K)
def F323.wk4:Prop:=aJ (a>=65536) ((0<=(16:Int)/\F323.wk7 (Int.fdiv a (2^(min (Int.toNat 16) (IntKind.bits .u64)))) (ax (b+16)) h K)) (F323.wk7 a b h K)
end
def F323.spec(H:aJ (i>=4294967296) ((0<=(32:Int)/\F323.wk4 (Int.fdiv i (2^(min (Int.toNat 32) (IntKind.bits .u64)))) 32 h K)) (F323.wk4 i 0 h K)):Cl 323 [ar i] h K:=cT F323.T Tryz.func323 H
def F294.T:bh:=⟨[(2,[0,1,2,3,8,9]),(10,[0,1,2,3,8,9,10]),(15,[0,1,2,3,8,9,10,11,12]),(17,[0,1,2,3,8,9,10,11])],[(17,[[(0,[]),(1,[]),(2,[]),(3,[]),(4,[]),(5,[]),(6,[]),(7,[]),(8,[]),(9,[]),(10,[]),(11,[]),(12,[]),(13,[]),(14,[])]])]⟩
section
variable (bk2:(az)->Nat->Nat->Int->Int->Int->Bool->Bool->aI->Prop)(n:Nat)(b:az)(a c:Nat)(d f g:Int)(l o:Bool)(i j q:Int)(h:aI)(K:KK)
def F294.wL2:Prop:=Lp Tryz.f294 F294.T [1,1,0] n [(0,(.slice b a c)),(1,(ap d)),(2,(ap f)),(3,(ap g)),(8,(aD l)),(9,(aD o))] h K
def F294.wk17(bk2:(az)->Nat->Nat->Int->Int->Int->Bool->Bool->aI->Prop)(b:az)(a c:Nat)(d f g:Int)(l o:Bool)(i j:Int)(h:aI)(K:KK):Prop:=aJ (d>0) (aX b λe=>0<=(ax (d-1))/\(ax (d-1))<(a:Int)/\aS .u32 (rd h (e.add ((ax (d-1)).toNat*1))) λe=>aX b λk=>0<=j/\j<(a:Int)/\aS .u32 (rd h (k.add (j.toNat*1))) λk=>Cl 319 [aq e,aq k] h λe k=>bQ (some e) λe=>aJ (!e) (Cl 320 [.slice b a c,ap d,ap f,ap j] k λd e=>aS .i64 (some d) λd=>bk2 b a c d f g l o e) (Cl 321 [.slice b a c,ap d,ap f,ap j] k λe j=> ∃k:Int,∃l:Bool,e=(.tuple #[ap k,aD l])/\(8:Int)≠0/\aJ ((ax (k-d))<(ax (f-k))) (Cl 294 [.slice b a c,ap d,ap k,ap g] j λe j=>e=aE/\bk2 b a c (ax (k+1)) f g (decide ((ax (k-d))>=(ax (Int.tdiv i 8)))) l j) (Cl 294 [.slice b a c,ap (ax (k+1)),ap f,ap g] j λe j=>e=aE/\bk2 b a c d k g (decide ((ax (f-k))>=(ax (Int.tdiv i 8)))) l j))) (Cl 321 [.slice b a c,ap d,ap f,ap j] h λe j=> ∃k:Int,∃l:Bool,e=(.tuple #[ap k,aD l])/\(8:Int)≠0/\aJ ((ax (k-d))<(ax (f-k))) (Cl 294 [.slice b a c,ap d,ap k,ap g] j λe j=>e=aE/\bk2 b a c (ax (k+1)) f g (decide ((ax (k-d))>=(ax (Int.tdiv i 8)))) l j) (Cl 294 [.slice b a c,ap (ax (k+1)),ap f,ap g] j λe j=>e=aE/\bk2 b a c d k g (decide ((ax (f-k))>=(ax (Int.tdiv i 8)))) l j))
def F294.wk15:Prop:=aJ l (aJ o (aJ (q==1) (Cl 318 [.slice b a c,ap d,ap f] h λe k=>bQ (some e) λe=>aJ e (K aE k) (F294.wk17 bk2 b a c d f g l o i j k K)) (F294.wk17 bk2 b a c d f g l o i j h K)) (F294.wk17 bk2 b a c d f g l o i j h K)) (F294.wk17 bk2 b a c d f g l o i j h K)
def F294.wk10:Prop:=Cl 316 [.slice b a c,ap d,ap f] h λe j=> ∃k:Int,∃m:Int,e=(.tuple #[ap k,ap m])/\aJ (m==2) (Cl 317 [.slice b a c,ap d,ap f] j λe j=>e=aE/\F294.wk15 bk2 b a c d f g l o i (ax ((ax (f-1))-(ax (k-d)))) 1 j K) (F294.wk15 bk2 b a c d f g l o i k m j K)
def F294.sL2:F294.wL2 (n+1) b a c d f g l o h K=(aJ ((ax (f-d))<=12) (Cl 313 [.slice b a c,ap d,ap f] h λa b=>a=aE/\K aE b) (aJ (g==0) (Cl 314 [.slice b a c,ap d,ap f] h λa b=>a=aE/\K aE b) (aJ (!l) (Cl 315 [.slice b a c,ap d,ap f] h λe i=>e=aE/\F294.wk10 (λa b c d e f g i j=>F294.wL2 n a b c d e f g i j K) b a c d f (ax (g-1)) l o (ax (f-d)) i K) (F294.wk10 (λa b c d e f g i j=>F294.wL2 n a b c d e f g i j K) b a c d f g l o (ax (f-d)) h K)))):=by kernel_rfl
def F294.wk2:Prop:=(∃e,F294.wL2 e b a c d f g l o h K)
def F294.spec(H:F294.wk2 b a c d f g true true h K):Cl 294 [.slice b a c,ap d,ap f,ap g] h K:=cT F294.T Tryz.func294 H
end
def F313.T:bh:=⟨[(1,[0,1,2,6]),(4,[0,1,2,6,7])],[(4,[[(0,[]),(1,[]),(2,[]),(3,[]),(4,[]),(5,[]),(6,[]),(7,[]),(8,[]),(9,[]),(10,[]),(11,[]),(12,[]),(13,[]),(14,[])]]),(6,[[(0,[]),(1,[]),(2,[]),(3,[]),(4,[]),(5,[]),(6,[]),(7,[]),(8,[]),(9,[]),(10,[]),(11,[]),(12,[]),(13,[]),(14,[]),(15,[2,3,4]),(16,[]),(17,[])]])]⟩
section
variable (n m1:Nat)(b:az)(a c:Nat)(f g i d:Int)(h:aI)(K:KK)
def F313.wL4:Prop:=Lr Tryz.f313 F313.T [1,0,0,1,0,0,1,0] [m1] n [(0,(.slice b a c)),(1,(ap f)),(2,(ap g)),(6,(ap i)),(7,(ap d))] h K
def F313.wL1:Prop:=Lp Tryz.f313 F313.T [1,0] n [(0,(.slice b a c)),(1,(ap f)),(2,(ap g)),(6,(ap i))] h K
def F313.sL4:F313.wL4 (n+1) m1 b a c f g i d h K=(aJ (d>f) (aX b λe=>0<=d/\d<(a:Int)/\aS .u32 (rd h (e.add (d.toNat*1))) λe=>aX b λj=>0<=(ax (d-1))/\(ax (d-1))<(a:Int)/\aS .u32 (rd h (j.add ((ax (d-1)).toNat*1))) λj=>Cl 319 [aq e,aq j] h λe j=>bQ (some e) λe=>aJ e (aX b λe=>0<=(ax (d-1))/\(ax (d-1))<(a:Int)/\aS .u32 (rd j (e.add ((ax (d-1)).toNat*1))) λe=>aX b λk=>0<=d/\d<(a:Int)/\aS .u32 (rd j (k.add (d.toNat*1))) λk=>aX b λl=>0<=d/\d<(a:Int)/\aY j ((l.add (d.toNat*1)).add 0) (aq e) λe=>aF (.slice b a c)/\aF (ap d)/\aF (ap (ax (d-1)))/\aX b λj=>0<=(ax (d-1))/\(ax (d-1))<(a:Int)/\aY e ((j.add ((ax (d-1)).toNat*1)).add 0) (aq k) λe=>F313.wL4 n m1 b a c f g i (ax (d-1)) e K) (F313.wL1 m1 b a c f g (ax (i+1)) j K)) (F313.wL1 m1 b a c f g (ax (i+1)) h K)):=by kernel_rfl
def F313.wk4:Prop:=(∃e,F313.wL4 e m1 b a c f g i d h K)
def F313.sL1:F313.wL1 (n+1) b a c f g i h K=(aJ (i<g) (F313.wk4 n b a c f g i i h K) (K aE h)):=by kernel_rfl
def F313.wk1:Prop:=(∃d,F313.wL1 d b a c f g i h K)
def F313.spec(H:F313.wk1 b a c f g (ax (f+1)) h K):Cl 313 [.slice b a c,ap f,ap g] h K:=cT F313.T Tryz.func313 H
end
def F319.spec(H:Cl 348 [aq i] h λa b=>bQ (some a) λa=>aJ a (Cl 348 [aq j] b λa b=>bQ (some a) λa=>aJ (!a) (K aC b) (K (aD (i<j)) b)) (K (aD (i<j)) b)):Cl 319 [aq i,aq j] h K:=cN Tryz.func319 H
def F348.spec(H:K (aD (i !=i)) h):Cl 348 [aq i] h K:=cN Tryz.func348 H
def F265.spec{u v:Nat}{x:az}{h:aI}{K:KK}(H:Cl 295 [ar (IntKind.wrap .u64 (u:Int))] h λa b=>aS .i64 (some a) λa=>Cl 298 [.slice x u v,ap 0,ap (u:Int),ap a] b λa b=>a=aE/\K aE b):Cl 265 [.slice x u v] h K:=cN Tryz.func265 H
def F298.T:bh:=⟨[(2,[0,1,2,3,8,9]),(10,[0,1,2,3,8,9,10]),(15,[0,1,2,3,8,9,10,11,12]),(17,[0,1,2,3,8,9,10,11])],[(17,[[(0,[]),(1,[]),(2,[]),(3,[]),(4,[]),(5,[]),(6,[]),(7,[]),(8,[]),(9,[]),(10,[]),(11,[]),(12,[]),(13,[]),(14,[])]])]⟩
section
variable (bk2:(az)->Nat->Nat->Int->Int->Int->Bool->Bool->aI->Prop)(n:Nat)(b:az)(a c:Nat)(d f g:Int)(l o:Bool)(i j q:Int)(h:aI)(K:KK)
def F298.wL2:Prop:=Lp Tryz.f298 F298.T [1,1,0] n [(0,(.slice b a c)),(1,(ap d)),(2,(ap f)),(3,(ap g)),(8,(aD l)),(9,(aD o))] h K
def F298.wk17(bk2:(az)->Nat->Nat->Int->Int->Int->Bool->Bool->aI->Prop)(b:az)(a c:Nat)(d f g:Int)(l o:Bool)(i j:Int)(h:aI)(K:KK):Prop:=aJ (d>0) (aX b λe=>0<=(ax (d-1))/\(ax (d-1))<(a:Int)/\aS .i64 (rd h (e.add ((ax (d-1)).toNat*1))) λe=>aX b λk=>0<=j/\j<(a:Int)/\aS .i64 (rd h (k.add (j.toNat*1))) λk=>Cl 330 [ap e,ap k] h λe k=>bQ (some e) λe=>aJ (!e) (Cl 331 [.slice b a c,ap d,ap f,ap j] k λd e=>aS .i64 (some d) λd=>bk2 b a c d f g l o e) (Cl 332 [.slice b a c,ap d,ap f,ap j] k λe j=> ∃k:Int,∃l:Bool,e=(.tuple #[ap k,aD l])/\(8:Int)≠0/\aJ ((ax (k-d))<(ax (f-k))) (Cl 298 [.slice b a c,ap d,ap k,ap g] j λe j=>e=aE/\bk2 b a c (ax (k+1)) f g (decide ((ax (k-d))>=(ax (Int.tdiv i 8)))) l j) (Cl 298 [.slice b a c,ap (ax (k+1)),ap f,ap g] j λe j=>e=aE/\bk2 b a c d k g (decide ((ax (f-k))>=(ax (Int.tdiv i 8)))) l j))) (Cl 332 [.slice b a c,ap d,ap f,ap j] h λe j=> ∃k:Int,∃l:Bool,e=(.tuple #[ap k,aD l])/\(8:Int)≠0/\aJ ((ax (k-d))<(ax (f-k))) (Cl 298 [.slice b a c,ap d,ap k,ap g] j λe j=>e=aE/\bk2 b a c (ax (k+1)) f g (decide ((ax (k-d))>=(ax (Int.tdiv i 8)))) l j) (Cl 298 [.slice b a c,ap (ax (k+1)),ap f,ap g] j λe j=>e=aE/\bk2 b a c d k g (decide ((ax (f-k))>=(ax (Int.tdiv i 8)))) l j))
def F298.wk15:Prop:=aJ l (aJ o (aJ (q==1) (Cl 329 [.slice b a c,ap d,ap f] h λe k=>bQ (some e) λe=>aJ e (K aE k) (F298.wk17 bk2 b a c d f g l o i j k K)) (F298.wk17 bk2 b a c d f g l o i j h K)) (F298.wk17 bk2 b a c d f g l o i j h K)) (F298.wk17 bk2 b a c d f g l o i j h K)
def F298.wk10:Prop:=Cl 327 [.slice b a c,ap d,ap f] h λe j=> ∃k:Int,∃m:Int,e=(.tuple #[ap k,ap m])/\aJ (m==2) (Cl 328 [.slice b a c,ap d,ap f] j λe j=>e=aE/\F298.wk15 bk2 b a c d f g l o i (ax ((ax (f-1))-(ax (k-d)))) 1 j K) (F298.wk15 bk2 b a c d f g l o i k m j K)
def F298.sL2:F298.wL2 (n+1) b a c d f g l o h K=(aJ ((ax (f-d))<=12) (Cl 324 [.slice b a c,ap d,ap f] h λa b=>a=aE/\K aE b) (aJ (g==0) (Cl 325 [.slice b a c,ap d,ap f] h λa b=>a=aE/\K aE b) (aJ (!l) (Cl 326 [.slice b a c,ap d,ap f] h λe i=>e=aE/\F298.wk10 (λa b c d e f g i j=>F298.wL2 n a b c d e f g i j K) b a c d f (ax (g-1)) l o (ax (f-d)) i K) (F298.wk10 (λa b c d e f g i j=>F298.wL2 n a b c d e f g i j K) b a c d f g l o (ax (f-d)) h K)))):=by kernel_rfl
def F298.wk2:Prop:=(∃e,F298.wL2 e b a c d f g l o h K)
def F298.spec(H:F298.wk2 b a c d f g true true h K):Cl 298 [.slice b a c,ap d,ap f,ap g] h K:=cT F298.T Tryz.func298 H
end
def F324.T:bh:=⟨[(1,[0,1,2,6]),(4,[0,1,2,6,7])],[(4,[[(0,[]),(1,[]),(2,[]),(3,[]),(4,[]),(5,[]),(6,[]),(7,[]),(8,[]),(9,[]),(10,[]),(11,[]),(12,[]),(13,[]),(14,[])]]),(6,[[(0,[]),(1,[]),(2,[]),(3,[]),(4,[]),(5,[]),(6,[]),(7,[]),(8,[]),(9,[]),(10,[]),(11,[]),(12,[]),(13,[]),(14,[]),(15,[2,3,4]),(16,[]),(17,[])]])]⟩
section
variable (n m1:Nat)(b:az)(a c:Nat)(f g i d:Int)(h:aI)(K:KK)
def F324.wL4:Prop:=Lr Tryz.f324 F324.T [1,0,0,1,0,0,1,0] [m1] n [(0,(.slice b a c)),(1,(ap f)),(2,(ap g)),(6,(ap i)),(7,(ap d))] h K
def F324.wL1:Prop:=Lp Tryz.f324 F324.T [1,0] n [(0,(.slice b a c)),(1,(ap f)),(2,(ap g)),(6,(ap i))] h K
def F324.sL4:F324.wL4 (n+1) m1 b a c f g i d h K=(aJ (d>f) (aX b λe=>0<=d/\d<(a:Int)/\aS .i64 (rd h (e.add (d.toNat*1))) λe=>aX b λj=>0<=(ax (d-1))/\(ax (d-1))<(a:Int)/\aS .i64 (rd h (j.add ((ax (d-1)).toNat*1))) λj=>Cl 330 [ap e,ap j] h λe j=>bQ (some e) λe=>aJ e (aX b λe=>0<=(ax (d-1))/\(ax (d-1))<(a:Int)/\aS .i64 (rd j (e.add ((ax (d-1)).toNat*1))) λe=>aX b λk=>0<=d/\d<(a:Int)/\aS .i64 (rd j (k.add (d.toNat*1))) λk=>aX b λl=>0<=d/\d<(a:Int)/\aY j ((l.add (d.toNat*1)).add 0) (ap e) λe=>aF (.slice b a c)/\aF (ap d)/\aF (ap (ax (d-1)))/\aX b λj=>0<=(ax (d-1))/\(ax (d-1))<(a:Int)/\aY e ((j.add ((ax (d-1)).toNat*1)).add 0) (ap k) λe=>F324.wL4 n m1 b a c f g i (ax (d-1)) e K) (F324.wL1 m1 b a c f g (ax (i+1)) j K)) (F324.wL1 m1 b a c f g (ax (i+1)) h K)):=by kernel_rfl
def F324.wk4:Prop:=(∃e,F324.wL4 e m1 b a c f g i d h K)
def F324.sL1:F324.wL1 (n+1) b a c f g i h K=(aJ (i<g) (F324.wk4 n b a c f g i i h K) (K aE h)):=by kernel_rfl
def F324.wk1:Prop:=(∃d,F324.wL1 d b a c f g i h K)
def F324.spec(H:F324.wk1 b a c f g (ax (f+1)) h K):Cl 324 [.slice b a c,ap f,ap g] h K:=cT F324.T Tryz.func324 H
end
def F330.spec(H:Cl 352 [ap i] h λa b=>bQ (some a) λa=>aJ a (Cl 352 [ap j] b λa b=>bQ (some a) λa=>aJ (!a) (K aC b) (K (aD (i<j)) b)) (K (aD (i<j)) b)):Cl 330 [ap i,ap j] h K:=cN Tryz.func330 H
def F352.spec(H:K (aD (i !=i)) h):Cl 352 [ap i] h K:=cN Tryz.func352 H
def cy.onlyC(H:cy h lo N p l c cs)(O:aM S h h')(hS: ∀b∈aV p,(∃c,At h b c)->b∉S):cy h' lo N p l c cs:=by
 obtain⟨e,H⟩:=H;rcases H with H|⟨b,sp,h1,h2,h3,h4,h5⟩
 ·exact⟨e,Or.inl H⟩
 ·exact⟨e,Or.inr ⟨b,sp,h1,h2,h3,h4,h5.only O (hS b (by subst h1;simp[aV]) ⟨_,h5⟩)⟩⟩
def cy.cells(H:cy h lo N p l c cs): ∀b∈aV p,∃c,At h b c:=by
 obtain⟨e,H⟩:=H;rcases H with⟨rfl,_⟩|⟨b,sp,rfl,h2,h3,h4,h5⟩
 ·intro b hb;simp[aV]at hb
 ·intro b' hb;simp[aV]at hb;subst hb;exact⟨_,h5⟩
def LB:Nat:=140737488355328
def bq{x:Int}(h0: -LB<=x)(h1:x<=LB):ax x=x:=wrap_i64 (by unfold LB at h0;omega) (by unfold LB at h1;omega)
def Ci(hK:K aB h):Cl 348 [aq x] h K:=by refine F348.spec ?_;rw[show(x !=x)=false by simp];exact hK
def eG(hK:K (aD (decide (x<y))) h):Cl 319 [aq x,aq y] h K:=by refine F319.spec ?_;exact Ci (by rw[bX];exact hK)
def sF{b n a e c i:Nat}{sp:List Value}{K:KK}{bk:Nat}(he:e<=n)(d:i<e)(hn:n<=LB-2):
  ∀(j:Nat) (g:Nat->Int) (h:aI),cf .u32 h b n g sp->yC a i j g->a<=j->j<=i->(∀h' g',cf .u32 h' b n g' sp->fX a (i+1) g'->dA a e g g'->aM [b] h h'->F313.wL1 bk (some (aw b)) n c a e ((i+1:Nat):Int) h' K)->
   F313.wL4 (j+1) bk (some (aw b)) n c a e i j h K:=by
 intro j;have f:LB=140737488355328:=rfl;have w1:ax ((i:Int)+1)=((i+1:Nat):Int):=by rw[bq ah ah];omega
 induction j with
 |zero=>
  intro g h A I ha hj hK;rw[F313.sL4];rw[w1,show decide (((0:Nat):Int)>(a:Int))=false by simp];exact hK h g A (I.stop (.inl ah)) (.refl g) (aM.refl _ _)
 |succ j ih=>
  intro g h A I ha hj hK;rw[F313.sL4];have w2:ax (((j+1:Nat):Int)-1)=(j:Int):=by rw[bq ah ah];omega
  rw[w1,w2];refine aR (λhc=> ?_) λhc=> ?_
  ·simp only[Mu]at hc;refine A.ld rfl ah (A.ld rfl ah (eG ?_));rw[bX];refine aR (λhl=> ?_) λhl=> ?_
   ·simp only[Mu]at hl;refine A.ld rfl ah (A.ld rfl ah (A.sto rfl ah λh1 A1 O1=>⟨rfl,rfl,rfl,A1.sto rfl ah λh2 A2 O2=> ?_⟩));have O:aM [b] h h2:=O1.trans O2 ak;have S:dA a e g (swp g (j+1) j):=dA.one g ah ah ah ah;have A2':cf .u32 h2 b n (swp g (j+1) j) sp:=A2;have I2:=I.step ah hj hl;rw[show j+1-1=j by omega]at I2;exact ih _ h2 A2' I2 ah ah λh' g' A' R' S' O'=>hK h' g' A' R' (S.trans S') (O.trans O' ak)
   ·simp only[Mr]at hl;exact hK h g A (I.stop (.inr (by rw[show j+1-1=j by omega];omega))) (.refl g) (aM.refl _ _)
  ·simp only[Mr]at hc;exact hK h g A (I.stop (.inl ah)) (.refl g) (aM.refl _ _)
def sV(he:e<=n)(hn:n<=LB-2):
  ∀(d i:Nat) (g:Nat->Int) (h:aI),e<=i+d->cf .u32 h b n g sp->a<i->i<=e\/e<=a->fX a i g->(∀h' g',cf .u32 h' b n g' sp->fX a e g'->dA a e g g'->aM [b] h h'->K aE h')->
   F313.wL1 (d+1) (some (aw b)) n c a e i h K:=by
 intro d
 induction d with
 |zero=>
  intro i g h hd A ha hi R hK;rw[F313.sL1];rw[show decide ((i:Int)<(e:Int))=false by simp;omega];exact hK h g A (λp q h1 h2 h3=>R p q h1 h2 ah) (.refl g) (aM.refl _ _)
 |succ d ih=>
  intro i g h hd A ha hi R hK;rw[F313.sL1];refine aR (λhc=> ?_) λhc=> ?_
  ·simp only[Mu]at hc;refine⟨i+1,sF he ah hn i g h A (yC.start R) ah (Mb _) λh1 g1 A1 R1 S1 O1=> ?_⟩;exact ih (i+1) g1 h1 ah A1 ah ah R1 λh' g' A' R' S' O'=>hK h' g' A' R' (S1.trans S') (O1.trans O' ak)
  ·simp only[Mr]at hc;exact hK h g A (λp q h1 h2 h3=>R p q h1 h2 ah) (.refl g) (aM.refl _ _)
def ins76{h:aI}{b n a e c:Nat}{g:Nat->Int}{sp:List Value}{K:KK}(A:cf .u32 h b n g sp)(he:e<=n)(ha:a<=n)(hn:n<=LB-2)
  (hK: ∀h' g',cf .u32 h' b n g' sp->fX a e g'->dA a e g g'->aM [b] h h'->K aE h'):Cl 313 [.slice (some (aw b)) n c,ap a,ap e] h K:=by
 refine F313.spec _ _ _ _ _ h K ?_;unfold F313.wk1;have d:LB=140737488355328:=rfl;rw[show ax ((a:Int)+1)=((a+1:Nat):Int) by rw[bq ah ah];omega];exact⟨e+1,sV he hn e (a+1) g h ah A ah ah (fX.single g ah) hK⟩
namespace IN
def Ci(hK:K aB h):Cl 352 [ap x] h K:=by refine F352.spec ?_;rw[show(x !=x)=false by simp];exact hK
def eG(hK:K (aD (decide (x<y))) h):Cl 330 [ap x,ap y] h K:=by refine F330.spec ?_;exact Ci (by rw[bX];exact hK)
def sF{b n a e c i:Nat}{sp:List Value}{K:KK}{bk:Nat}(he:e<=n)(d:i<e)(hn:n<=LB-2):
  ∀(j:Nat) (g:Nat->Int) (h:aI),cf .i64 h b n g sp->yC a i j g->a<=j->j<=i->(∀h' g',cf .i64 h' b n g' sp->fX a (i+1) g'->dA a e g g'->aM [b] h h'->F324.wL1 bk (some (aw b)) n c a e ((i+1:Nat):Int) h' K)->
   F324.wL4 (j+1) bk (some (aw b)) n c a e i j h K:=by
 intro j;have f:LB=140737488355328:=rfl;have w1:ax ((i:Int)+1)=((i+1:Nat):Int):=by rw[bq ah ah];omega
 induction j with
 |zero=>
  intro g h A I ha hj hK;rw[F324.sL4];rw[w1,show decide (((0:Nat):Int)>(a:Int))=false by simp];exact hK h g A (I.stop (.inl ah)) (.refl g) (aM.refl _ _)
 |succ j ih=>
  intro g h A I ha hj hK;rw[F324.sL4];have w2:ax (((j+1:Nat):Int)-1)=(j:Int):=by rw[bq ah ah];omega
  rw[w1,w2];refine aR (λhc=> ?_) λhc=> ?_
  ·simp only[Mu]at hc;refine A.ld rfl ah (A.ld rfl ah (eG ?_));rw[bX];refine aR (λhl=> ?_) λhl=> ?_
   ·simp only[Mu]at hl;refine A.ld rfl ah (A.ld rfl ah (A.sto rfl ah λh1 A1 O1=>⟨rfl,rfl,rfl,A1.sto rfl ah λh2 A2 O2=> ?_⟩));have O:aM [b] h h2:=O1.trans O2 ak;have S:dA a e g (swp g (j+1) j):=dA.one g ah ah ah ah;have A2':cf .i64 h2 b n (swp g (j+1) j) sp:=A2;have I2:=I.step ah hj hl;rw[show j+1-1=j by omega]at I2;exact ih _ h2 A2' I2 ah ah λh' g' A' R' S' O'=>hK h' g' A' R' (S.trans S') (O.trans O' ak)
   ·simp only[Mr]at hl;exact hK h g A (I.stop (.inr (by rw[show j+1-1=j by omega];omega))) (.refl g) (aM.refl _ _)
  ·simp only[Mr]at hc;exact hK h g A (I.stop (.inl ah)) (.refl g) (aM.refl _ _)
def sV(he:e<=n)(hn:n<=LB-2):
  ∀(d i:Nat) (g:Nat->Int) (h:aI),e<=i+d->cf .i64 h b n g sp->a<i->i<=e\/e<=a->fX a i g->(∀h' g',cf .i64 h' b n g' sp->fX a e g'->dA a e g g'->aM [b] h h'->K aE h')->
   F324.wL1 (d+1) (some (aw b)) n c a e i h K:=by
 intro d
 induction d with
 |zero=>
  intro i g h hd A ha hi R hK;rw[F324.sL1];rw[show decide ((i:Int)<(e:Int))=false by simp;omega];exact hK h g A (λp q h1 h2 h3=>R p q h1 h2 ah) (.refl g) (aM.refl _ _)
 |succ d ih=>
  intro i g h hd A ha hi R hK;rw[F324.sL1];refine aR (λhc=> ?_) λhc=> ?_
  ·simp only[Mu]at hc;refine⟨i+1,sF he ah hn i g h A (yC.start R) ah (Mb _) λh1 g1 A1 R1 S1 O1=> ?_⟩;exact ih (i+1) g1 h1 ah A1 ah ah R1 λh' g' A' R' S' O'=>hK h' g' A' R' (S1.trans S') (O1.trans O' ak)
  ·simp only[Mr]at hc;exact hK h g A (λp q h1 h2 h3=>R p q h1 h2 ah) (.refl g) (aM.refl _ _)
def ins76{h:aI}{b n a e c:Nat}{g:Nat->Int}{sp:List Value}{K:KK}(A:cf .i64 h b n g sp)(he:e<=n)(ha:a<=n)(hn:n<=LB-2)
  (hK: ∀h' g',cf .i64 h' b n g' sp->fX a e g'->dA a e g g'->aM [b] h h'->K aE h'):Cl 324 [.slice (some (aw b)) n c,ap a,ap e] h K:=by
 refine F324.spec _ _ _ _ _ h K ?_;unfold F324.wk1;have d:LB=140737488355328:=rfl;rw[show ax ((a:Int)+1)=((a+1:Nat):Int) by rw[bq ah ah];omega];exact⟨e+1,sV he hn e (a+1) g h ah A ah ah (fX.single g ah) hK⟩
end IN
def F314.T:bh:=⟨[(4,[0,6,7,8,9]),(7,[0,6,7,8]),(8,[0,6,7,10])],[(10,[[(0,[]),(1,[]),(2,[]),(3,[]),(4,[]),(5,[]),(6,[]),(7,[]),(8,[]),(9,[]),(10,[]),(11,[]),(12,[]),(13,[]),(14,[]),(15,[]),(16,[]),(17,[2,3,4,5]),(18,[]),(19,[])]])]⟩
section
variable (n:Nat)(b:az)(a c:Nat)(j l f g i d:Int)(h:aI)(K:KK)
def F314.wL8:Prop:=Lp Tryz.f314 F314.T [1,1,1,1,1,0] n [(0,(.slice b a c)),(6,(ap f)),(7,(ap 0)),(10,(ap d))] h K
def F314.wL4:Prop:=Lp Tryz.f314 F314.T [1,1,1,0,1,0] n [(0,(.slice b a c)),(6,(ap f)),(7,(ap 0)),(8,(ap g)),(9,(ap i))] h K
def F314.sL8:F314.wL8 (n+1) b a c f d h K=(aJ (d>=0) (aX b λe=>0<=(ax (f+d))/\(ax (f+d))<(a:Int)/\aS .u32 (rd h (e.add ((ax (f+d)).toNat*1))) λe=>aX b λg=>0<=f/\f<(a:Int)/\aS .u32 (rd h (g.add (f.toNat*1))) λg=>aX b λi=>0<=f/\f<(a:Int)/\aY h ((i.add (f.toNat*1)).add 0) (aq e) λe=>aF (.slice b a c)/\aF (ap f)/\aF (ap d)/\aF (ap (ax (f+d)))/\aX b λi=>0<=(ax (f+d))/\(ax (f+d))<(a:Int)/\aY e ((i.add ((ax (f+d)).toNat*1)).add 0) (aq g) λe=>Cl 343 [.slice b a c,ap 0,ap d,ap f] e λe g=>e=aE/\F314.wL8 n b a c f (ax (d-1)) g K) (K aE h)):=by kernel_rfl
def F314.wk8:Prop:=(∃e,F314.wL8 e b a c f d h K)
def F314.wk7:Prop:=F314.wk8 b a c f (ax (g-1)) h K
def F314.sL4:F314.wL4 (n+1) b a c f g i h K=(aJ (i>=0) (Cl 343 [.slice b a c,ap i,ap g,ap f] h λd e=>d=aE/\F314.wL4 n b a c f g (ax (i-1)) e K) (F314.wk7 b a c f g h K)):=by kernel_rfl
def F314.wk4:Prop:=(∃d,F314.wL4 d b a c f g i h K)
def F314.spec(H:((2:Int)≠0/\F314.wk4 b a c j (ax (l-j)) (ax (Int.tdiv (ax ((ax (l-j))-1)) 2)) h K)):Cl 314 [.slice b a c,ap j,ap l] h K:=cT F314.T Tryz.func314 H
end
def F315.T:bh:=⟨[(5,[0,1,6,7,8,9]),(10,[0,1,6,7,8,9,10])],[(10,[[(0,[]),(1,[]),(2,[]),(3,[]),(4,[]),(5,[]),(6,[]),(7,[]),(8,[]),(9,[]),(10,[]),(11,[]),(12,[]),(13,[]),(14,[]),(15,[]),(16,[]),(17,[2,3,4,5]),(18,[]),(19,[])]])]⟩
section
variable (n:Nat)(b:az)(a c:Nat)(d o i:Int)(l:Addr)(j g:Int)(h:aI)(K:KK)
def F315.wL5:Prop:=Lp Tryz.f315 F315.T [1,1,0,1,1,1,0] n [(0,(.slice b a c)),(1,(ap d)),(6,(ap i)),(7,(au l)),(8,(ar j)),(9,(ap g))] h K
def F315.wk10(z:(az)->Nat->Nat->Int->Int->Addr->Int->Int->aI->Prop)(b:az)(a c:Nat)(d i:Int)(l:Addr)(j g f:Int)(h:aI)(K:KK):Prop:=aX b λe=>0<=(ax (d+f))/\(ax (d+f))<(a:Int)/\aS .u32 (rd h (e.add ((ax (d+f)).toNat*1))) λe=>aX b λk=>0<=g/\g<(a:Int)/\aS .u32 (rd h (k.add (g.toNat*1))) λk=>aX b λm=>0<=g/\g<(a:Int)/\aY h ((m.add (g.toNat*1)).add 0) (aq e) λe=>aF (.slice b a c)/\aF (ap d)/\aF (ap f)/\aF (ap (ax (d+f)))/\aX b λm=>0<=(ax (d+f))/\(ax (d+f))<(a:Int)/\aY e ((m.add ((ax (d+f)).toNat*1)).add 0) (aq k) λe=>z b a c d i l j (ax (g+1)) e
def F315.sL5:F315.wL5 (n+1) b a c d i l j g h K=(((4:Int)≠0/\aJ (g<=(ax ((ax (d+(ax ((ax (Int.tdiv i 4))*2))))+1))) (Cl 345 [au l] h λe f=>aS .u64 (some e) λe=>aJ ((ax (bu .and .u64 e (IntKind.wrap .u64 (j-1))))>=i) (F315.wk10 (λa b c d e f g i j=>F315.wL5 n a b c d e f g i j K) b a c d i l j g (ax ((ax (bu .and .u64 e (IntKind.wrap .u64 (j-1))))-i)) f K) (F315.wk10 (λa b c d e f g i j=>F315.wL5 n a b c d e f g i j K) b a c d i l j g (ax (bu .and .u64 e (IntKind.wrap .u64 (j-1)))) f K)) (K aE h))):=by kernel_rfl
def F315.wk5:Prop:=(∃e,F315.wL5 e b a c d i l j g h K)
def F315.spec(H:aJ ((ax (o-d))>=8) (bg h (.cells #[ar 0] 401) λe f=>aY f ((aw e).add 0) (ar (IntKind.wrap .u64 (ax (o-d)))) λf=>Cl 344 [ap (ax (o-d))] f λf g=>aS .u64 (some f) λf=>(4:Int)≠0/\F315.wk5 b a c d (ax (o-d)) (aw e) f (ax ((ax (d+(ax ((ax (Int.tdiv (ax (o-d)) 4))*2))))-1)) g K) (K aE h)):Cl 315 [.slice b a c,ap d,ap o] h K:=cT F315.T Tryz.func315 H
end
def F316.T:bh:=⟨[(11,[0,9,10,11,12]),(12,[9,11])],[]⟩
section
variable (c:az)(b a:Nat)(l:Addr)(i g j:Int)(h:aI)(K:KK)
def F316.wk12:Prop:=aS .i64 (rd h l) λa=>aJ (a==0) (K (.tuple #[ap g,ap 1]) h) (aJ (a==12) (K (.tuple #[ap g,ap 2]) h) (K (.tuple #[ap g,ap 0]) h))
def F316.wk11:Prop:=Cl 347 [.slice c b a,ap i,ap g,ap j,au l] h λa b=>aS .i64 (some a) λa=>F316.wk12 l a b K
end
def F316.spec(H:bg h (.cells #[ap 0] 3) λa b=>(4:Int)≠0/\(4:Int)≠0/\(4:Int)≠0/\aJ ((ax (j-i))>=8) (aJ ((ax (j-i))>=50) (Cl 346 [.slice x u v,ap (ax (i+(ax ((ax (Int.tdiv (ax (j-i)) 4))*1)))),au (aw a)] b λb c=>aS .i64 (some b) λb=>Cl 346 [.slice x u v,ap (ax (i+(ax ((ax (Int.tdiv (ax (j-i)) 4))*2)))),au (aw a)] c λc d=>aS .i64 (some c) λc=>Cl 346 [.slice x u v,ap (ax (i+(ax ((ax (Int.tdiv (ax (j-i)) 4))*3)))),au (aw a)] d λd e=>aS .i64 (some d) λd=>F316.wk11 x u v (aw a) b c d e K) (F316.wk11 x u v (aw a) (ax (i+(ax ((ax (Int.tdiv (ax (j-i)) 4))*1)))) (ax (i+(ax ((ax (Int.tdiv (ax (j-i)) 4))*2)))) (ax (i+(ax ((ax (Int.tdiv (ax (j-i)) 4))*3)))) b K)) (F316.wk12 (aw a) (ax (i+(ax ((ax (Int.tdiv (ax (j-i)) 4))*2)))) b K)):Cl 316 [.slice x u v,ap i,ap j] h K:=cT F316.T Tryz.func316 H
def F317.T:bh:=⟨[(2,[0,6,7])],[(3,[[(0,[]),(1,[]),(2,[]),(3,[]),(4,[]),(5,[]),(6,[]),(7,[]),(8,[]),(9,[]),(10,[]),(11,[]),(12,[]),(13,[2,3]),(14,[]),(15,[])]])]⟩
section
variable (n:Nat)(b:az)(a c:Nat)(g i f d:Int)(h:aI)(K:KK)
def F317.wL2:Prop:=Lp Tryz.f317 F317.T [1,1,0] n [(0,(.slice b a c)),(6,(ap f)),(7,(ap d))] h K
def F317.sL2:F317.wL2 (n+1) b a c f d h K=(aJ (f<d) (aX b λe=>0<=d/\d<(a:Int)/\aS .u32 (rd h (e.add (d.toNat*1))) λe=>aX b λg=>0<=f/\f<(a:Int)/\aS .u32 (rd h (g.add (f.toNat*1))) λg=>aX b λi=>0<=f/\f<(a:Int)/\aY h ((i.add (f.toNat*1)).add 0) (aq e) λe=>aF (.slice b a c)/\aF (ap d)/\aX b λi=>0<=d/\d<(a:Int)/\aY e ((i.add (d.toNat*1)).add 0) (aq g) λe=>F317.wL2 n b a c (ax (f+1)) (ax (d-1)) e K) (K aE h)):=by kernel_rfl
def F317.wk2:Prop:=(∃e,F317.wL2 e b a c f d h K)
def F317.spec(H:F317.wk2 b a c g (ax (i-1)) h K):Cl 317 [.slice b a c,ap g,ap i] h K:=cT F317.T Tryz.func317 H
end
def F318.T:bh:=⟨[(3,[0,1,2,7,8]),(5,[0,1,2,7,8]),(7,[0,1,2,7,8]),(14,[0,1,2,7,8,9]),(18,[0,1,2,7,8]),(20,[0,1,2,7,8,10])],[(5,[[(0,[]),(1,[]),(2,[]),(3,[]),(4,[]),(5,[]),(6,[]),(7,[]),(8,[]),(9,[]),(10,[]),(11,[]),(12,[]),(13,[]),(14,[]),(15,[])]]),(11,[[(0,[]),(1,[]),(2,[]),(3,[]),(4,[]),(5,[]),(6,[]),(7,[]),(8,[]),(9,[]),(10,[]),(11,[]),(12,[]),(13,[]),(14,[]),(15,[2,3,4]),(16,[]),(17,[])]]),(16,[[(0,[]),(1,[]),(2,[]),(3,[]),(4,[]),(5,[]),(6,[]),(7,[]),(8,[]),(9,[]),(10,[])]]),(17,[[(0,[]),(1,[]),(2,[]),(3,[]),(4,[]),(5,[]),(6,[]),(7,[]),(8,[]),(9,[]),(10,[]),(11,[]),(12,[]),(13,[]),(14,[]),(15,[2,3,4]),(16,[]),(17,[])]]),(22,[[(0,[]),(1,[]),(2,[]),(3,[]),(4,[]),(5,[]),(6,[]),(7,[]),(8,[]),(9,[]),(10,[])]]),(23,[[(0,[]),(1,[]),(2,[]),(3,[]),(4,[]),(5,[]),(6,[]),(7,[]),(8,[]),(9,[]),(10,[]),(11,[]),(12,[]),(13,[]),(14,[]),(15,[2,3,4]),(16,[]),(17,[])]])]⟩
section
variable (n m3:Nat)(b:az)(a c:Nat)(i g f j l d:Int)(h:aI)(K:KK)
def F318.wL20:Prop:=Lr Tryz.f318 F318.T [1,1,0,1,0,0,1,0,0,1,1,1,1,1,1,0,1,0] [m3] n [(0,(.slice b a c)),(1,(ap i)),(2,(ap g)),(7,(ap f)),(8,(ap j)),(10,(ap d))] h K
def F318.wL14:Prop:=Lr Tryz.f318 F318.T [1,1,0,1,0,0,1,0,0,1,1,1,1,0,1,0,1,0] [m3] n [(0,(.slice b a c)),(1,(ap i)),(2,(ap g)),(7,(ap f)),(8,(ap j)),(9,(ap l))] h K
def F318.wL5:Prop:=Lr Tryz.f318 F318.T [1,1,0,1,0,0,1,0,0,0,0] [m3] n [(0,(.slice b a c)),(1,(ap i)),(2,(ap g)),(7,(ap f)),(8,(ap j))] h K
def F318.wL3:Prop:=Lp Tryz.f318 F318.T [1,1,0,1,0] n [(0,(.slice b a c)),(1,(ap i)),(2,(ap g)),(7,(ap f)),(8,(ap j))] h K
def F318.sL20:F318.wL20 (n+1) m3 b a c i g f j d h K=(aJ (d<g) (aX b λe=>0<=d/\d<(a:Int)/\aS .u32 (rd h (e.add (d.toNat*1))) λe=>aX b λk=>0<=(ax (d-1))/\(ax (d-1))<(a:Int)/\aS .u32 (rd h (k.add ((ax (d-1)).toNat*1))) λk=>Cl 319 [aq e,aq k] h λe k=>bQ (some e) λe=>aJ (!e) (F318.wL3 m3 b a c i g f (ax (j+1)) k K) (aX b λe=>0<=(ax (d-1))/\(ax (d-1))<(a:Int)/\aS .u32 (rd k (e.add ((ax (d-1)).toNat*1))) λe=>aX b λl=>0<=d/\d<(a:Int)/\aS .u32 (rd k (l.add (d.toNat*1))) λl=>aX b λm=>0<=d/\d<(a:Int)/\aY k ((m.add (d.toNat*1)).add 0) (aq e) λe=>aF (.slice b a c)/\aF (ap d)/\aF (ap (ax (d-1)))/\aX b λk=>0<=(ax (d-1))/\(ax (d-1))<(a:Int)/\aY e ((k.add ((ax (d-1)).toNat*1)).add 0) (aq l) λe=>F318.wL20 n m3 b a c i g f j (ax (d+1)) e K)) (F318.wL3 m3 b a c i g f (ax (j+1)) h K)):=by kernel_rfl
def F318.wk20:Prop:=(∃e,F318.wL20 e m3 b a c i g f j d h K)
def F318.wk18:Prop:=aJ ((ax (g-f))>=2) (F318.wk20 m3 b a c i g f j (ax (f+1)) h K) (F318.wL3 m3 b a c i g f (ax (j+1)) h K)
def F318.sL14:F318.wL14 (n+1) m3 b a c i g f j l h K=(aJ (l>=1) (aX b λd=>0<=l/\l<(a:Int)/\aS .u32 (rd h (d.add (l.toNat*1))) λd=>aX b λe=>0<=(ax (l-1))/\(ax (l-1))<(a:Int)/\aS .u32 (rd h (e.add ((ax (l-1)).toNat*1))) λe=>Cl 319 [aq d,aq e] h λd e=>bQ (some d) λd=>aJ (!d) (F318.wk18 m3 b a c i g f j e K) (aX b λd=>0<=(ax (l-1))/\(ax (l-1))<(a:Int)/\aS .u32 (rd e (d.add ((ax (l-1)).toNat*1))) λd=>aX b λk=>0<=l/\l<(a:Int)/\aS .u32 (rd e (k.add (l.toNat*1))) λk=>aX b λm=>0<=l/\l<(a:Int)/\aY e ((m.add (l.toNat*1)).add 0) (aq d) λd=>aF (.slice b a c)/\aF (ap l)/\aF (ap (ax (l-1)))/\aX b λe=>0<=(ax (l-1))/\(ax (l-1))<(a:Int)/\aY d ((e.add ((ax (l-1)).toNat*1)).add 0) (aq k) λd=>F318.wL14 n m3 b a c i g f j (ax (l-1)) d K)) (F318.wk18 m3 b a c i g f j h K)):=by kernel_rfl
def F318.wk14:Prop:=(∃d,F318.wL14 d m3 b a c i g f j l h K)
def F318.wk7:Prop:=aJ (f==g) (K aC h) (aJ ((ax (g-i))<50) (K aB h) (aX b λd=>0<=(ax (f-1))/\(ax (f-1))<(a:Int)/\aS .u32 (rd h (d.add ((ax (f-1)).toNat*1))) λd=>aX b λe=>0<=f/\f<(a:Int)/\aS .u32 (rd h (e.add (f.toNat*1))) λe=>aX b λk=>0<=f/\f<(a:Int)/\aY h ((k.add (f.toNat*1)).add 0) (aq d) λd=>aF (.slice b a c)/\aF (ap f)/\aF (ap (ax (f-1)))/\aX b λk=>0<=(ax (f-1))/\(ax (f-1))<(a:Int)/\aY d ((k.add ((ax (f-1)).toNat*1)).add 0) (aq e) λd=>aJ ((ax (f-i))>=2) (F318.wk14 m3 b a c i g f j (ax (f-1)) d K) (F318.wk18 m3 b a c i g f j d K)))
def F318.sL5:F318.wL5 (n+1) m3 b a c i g f j h K=(aJ (f<g) (aX b λd=>0<=f/\f<(a:Int)/\aS .u32 (rd h (d.add (f.toNat*1))) λd=>aX b λe=>0<=(ax (f-1))/\(ax (f-1))<(a:Int)/\aS .u32 (rd h (e.add ((ax (f-1)).toNat*1))) λe=>Cl 319 [aq d,aq e] h λd e=>bQ (some d) λd=>aJ (!d) (F318.wL5 n m3 b a c i g (ax (f+1)) j e K) (F318.wk7 m3 b a c i g f j e K)) (F318.wk7 m3 b a c i g f j h K)):=by kernel_rfl
def F318.wk5:Prop:=(∃d,F318.wL5 d m3 b a c i g f j h K)
def F318.sL3:F318.wL3 (n+1) b a c i g f j h K=(aJ (j<5) (F318.wk5 n b a c i g f j h K) (K aB h)):=by kernel_rfl
def F318.wk3:Prop:=(∃d,F318.wL3 d b a c i g f j h K)
def F318.spec(H:F318.wk3 b a c i g (ax (i+1)) 0 h K):Cl 318 [.slice b a c,ap i,ap g] h K:=cT F318.T Tryz.func318 H
end
def F320.T:bh:=⟨[(3,[0,1,9,10]),(5,[0,1,9,10]),(7,[0,1,9,10])],[(1,[[(0,[]),(1,[]),(2,[]),(3,[]),(4,[]),(5,[]),(6,[]),(7,[]),(8,[]),(9,[]),(10,[]),(11,[]),(12,[]),(13,[2,3]),(14,[]),(15,[])]]),(3,[[(0,[]),(1,[]),(2,[]),(3,[]),(4,[]),(5,[]),(6,[]),(7,[]),(8,[]),(9,[]),(10,[]),(11,[]),(12,[]),(13,[]),(14,[])]]),(5,[[(0,[]),(1,[]),(2,[]),(3,[]),(4,[]),(5,[]),(6,[]),(7,[]),(8,[]),(9,[]),(10,[]),(11,[]),(12,[]),(13,[])]]),(8,[[(0,[]),(1,[]),(2,[]),(3,[]),(4,[]),(5,[]),(6,[]),(7,[]),(8,[]),(9,[]),(10,[]),(11,[]),(12,[]),(13,[2,3]),(14,[]),(15,[])]])]⟩
section
variable (n m3:Nat)(b:az)(a d:Nat)(f j i g c:Int)(h:aI)(K:KK)
def F320.wL5:Prop:=Lr Tryz.f320 F320.T [1,1,1,0,0,0,0,1,0,0] [m3] n [(0,(.slice b a d)),(1,(ap f)),(9,(ap g)),(10,(ap c))] h K
def F320.wL1003:Prop:=Lr Tryz.f320 F320.T [1,1,1,0,0,0,0,0,0] [m3] n [(0,(.slice b a d)),(1,(ap f)),(9,(ap g)),(10,(ap c))] h K
def F320.wL3:Prop:=Lp Tryz.f320 F320.T [1,1,1,0,0] n [(0,(.slice b a d)),(1,(ap f)),(9,(ap g)),(10,(ap c))] h K
def F320.wk7:Prop:=aJ (g>c) (K (ap g) h) (aX b λe=>0<=c/\c<(a:Int)/\aS .u32 (rd h (e.add (c.toNat*1))) λe=>aX b λi=>0<=g/\g<(a:Int)/\aS .u32 (rd h (i.add (g.toNat*1))) λi=>aX b λj=>0<=g/\g<(a:Int)/\aY h ((j.add (g.toNat*1)).add 0) (aq e) λe=>aF (.slice b a d)/\aF (ap c)/\aX b λj=>0<=c/\c<(a:Int)/\aY e ((j.add (c.toNat*1)).add 0) (aq i) λe=>F320.wL3 m3 b a d f (ax (g+1)) (ax (c-1)) e K)
def F320.sL5:F320.wL5 (n+1) m3 b a d f g c h K=(aJ (g<=c) (aX b λe=>0<=f/\f<(a:Int)/\aS .u32 (rd h (e.add (f.toNat*1))) λe=>aX b λi=>0<=c/\c<(a:Int)/\aS .u32 (rd h (i.add (c.toNat*1))) λi=>Cl 319 [aq e,aq i] h λe i=>bQ (some e) λe=>aJ e (F320.wL5 n m3 b a d f g (ax (c-1)) i K) (F320.wk7 m3 b a d f g c i K)) (F320.wk7 m3 b a d f g c h K)):=by kernel_rfl
def F320.wk5:Prop:=(∃e,F320.wL5 e m3 b a d f g c h K)
def F320.sL1003:F320.wL1003 (n+1) m3 b a d f g c h K=(aJ (g<=c) (aX b λe=>0<=f/\f<(a:Int)/\aS .u32 (rd h (e.add (f.toNat*1))) λe=>aX b λi=>0<=g/\g<(a:Int)/\aS .u32 (rd h (i.add (g.toNat*1))) λi=>Cl 319 [aq e,aq i] h λe i=>bQ (some e) λe=>aJ (!e) (F320.wL1003 n m3 b a d f (ax (g+1)) c i K) (F320.wk5 m3 b a d f g c i K)) (F320.wk5 m3 b a d f g c h K)):=by kernel_rfl
def F320.sL3:F320.wL3 (n+1) b a d f g c h K=((∃e,F320.wL1003 e n b a d f g c h K)):=by kernel_rfl
def F320.wk3:Prop:=(∃e,F320.wL3 e b a d f g c h K)
def F320.spec(H:aX b λc=>0<=i/\i<(a:Int)/\aS .u32 (rd h (c.add (i.toNat*1))) λc=>aX b λe=>0<=f/\f<(a:Int)/\aS .u32 (rd h (e.add (f.toNat*1))) λe=>aX b λg=>0<=f/\f<(a:Int)/\aY h ((g.add (f.toNat*1)).add 0) (aq c) λc=>aF (.slice b a d)/\aF (ap i)/\aX b λg=>0<=i/\i<(a:Int)/\aY c ((g.add (i.toNat*1)).add 0) (aq e) λc=>F320.wk3 b a d f (ax (f+1)) (ax (j-1)) c K):Cl 320 [.slice b a d,ap f,ap j,ap i] h K:=cT F320.T Tryz.func320 H
end
def F321.T:bh:=⟨[(3,[0,1,10,11]),(5,[0,1,10,11]),(7,[0,1,10,11]),(13,[0,1,10,11]),(15,[0,1,10,11]),(17,[0,1,10,11]),(21,[0,1,11])],[(1,[[(0,[]),(1,[]),(2,[]),(3,[]),(4,[]),(5,[]),(6,[]),(7,[]),(8,[]),(9,[]),(10,[]),(11,[]),(12,[]),(13,[2,3]),(14,[]),(15,[])]]),(3,[[(0,[]),(1,[]),(2,[]),(3,[]),(4,[]),(5,[]),(6,[]),(7,[]),(8,[]),(9,[]),(10,[]),(11,[]),(12,[]),(13,[])]]),(5,[[(0,[]),(1,[]),(2,[]),(3,[]),(4,[]),(5,[]),(6,[]),(7,[]),(8,[]),(9,[]),(10,[]),(11,[]),(12,[]),(13,[]),(14,[])]]),(8,[[(0,[]),(1,[]),(2,[]),(3,[]),(4,[]),(5,[]),(6,[]),(7,[]),(8,[]),(9,[]),(10,[]),(11,[]),(12,[]),(13,[2,3]),(14,[]),(15,[])]]),(10,[[(0,[]),(1,[]),(2,[]),(3,[]),(4,[]),(5,[]),(6,[]),(7,[]),(8,[]),(9,[]),(10,[]),(11,[]),(12,[]),(13,[2,3]),(14,[]),(15,[])]]),(13,[[(0,[]),(1,[]),(2,[]),(3,[]),(4,[]),(5,[]),(6,[]),(7,[]),(8,[]),(9,[]),(10,[]),(11,[]),(12,[]),(13,[])]]),(15,[[(0,[]),(1,[]),(2,[]),(3,[]),(4,[]),(5,[]),(6,[]),(7,[]),(8,[]),(9,[]),(10,[]),(11,[]),(12,[]),(13,[]),(14,[])]]),(18,[[(0,[]),(1,[]),(2,[]),(3,[]),(4,[]),(5,[]),(6,[]),(7,[]),(8,[]),(9,[]),(10,[]),(11,[]),(12,[]),(13,[2,3]),(14,[]),(15,[])]]),(21,[[(0,[]),(1,[]),(2,[]),(3,[]),(4,[]),(5,[]),(6,[]),(7,[]),(8,[]),(9,[]),(10,[]),(11,[]),(12,[]),(13,[2,3]),(14,[]),(15,[])]])]⟩
section
variable (n m13:Nat)(c:az)(b f:Nat)(g j i d a:Int)(h:aI)(K:KK)
def F321.wL15:Prop:=Lr Tryz.f321 F321.T [1,1,1,1,1,1,1,1,1,0,0,0,0,1,0,0] [m13] n [(0,(.slice c b f)),(1,(ap g)),(10,(ap d)),(11,(ap a))] h K
def F321.wL1013:Prop:=Lr Tryz.f321 F321.T [1,1,1,1,1,1,1,1,1,0,0,0,0,0,0] [m13] n [(0,(.slice c b f)),(1,(ap g)),(10,(ap d)),(11,(ap a))] h K
def F321.wL13:Prop:=Lp Tryz.f321 F321.T [1,1,1,1,1,1,1,1,1,0,0] n [(0,(.slice c b f)),(1,(ap g)),(10,(ap d)),(11,(ap a))] h K
def F321.wL5:Prop:=Lp Tryz.f321 F321.T [1,1,1,1,0,0] n [(0,(.slice c b f)),(1,(ap g)),(10,(ap d)),(11,(ap a))] h K
def F321.wL3:Prop:=Lp Tryz.f321 F321.T [1,1,1,0,0] n [(0,(.slice c b f)),(1,(ap g)),(10,(ap d)),(11,(ap a))] h K
def F321.wk21:Prop:=aX c λd=>0<=g/\g<(b:Int)/\aS .u32 (rd h (d.add (g.toNat*1))) λd=>aX c λe=>0<=a/\a<(b:Int)/\aS .u32 (rd h (e.add (a.toNat*1))) λe=>aX c λi=>0<=a/\a<(b:Int)/\aY h ((i.add (a.toNat*1)).add 0) (aq d) λd=>aF (.slice c b f)/\aF (ap g)/\aX c λc=>0<=g/\g<(b:Int)/\aY d ((c.add (g.toNat*1)).add 0) (aq e) λb=>K (.tuple #[ap a,aB]) b
def F321.wk17:Prop:=aJ (d>a) (F321.wk21 c b f g a h K) (aX c λe=>0<=a/\a<(b:Int)/\aS .u32 (rd h (e.add (a.toNat*1))) λe=>aX c λi=>0<=d/\d<(b:Int)/\aS .u32 (rd h (i.add (d.toNat*1))) λi=>aX c λj=>0<=d/\d<(b:Int)/\aY h ((j.add (d.toNat*1)).add 0) (aq e) λe=>aF (.slice c b f)/\aF (ap a)/\aX c λj=>0<=a/\a<(b:Int)/\aY e ((j.add (a.toNat*1)).add 0) (aq i) λe=>F321.wL13 m13 c b f g (ax (d+1)) (ax (a-1)) e K)
def F321.sL15:F321.wL15 (n+1) m13 c b f g d a h K=(aJ (d<=a) (aX c λe=>0<=a/\a<(b:Int)/\aS .u32 (rd h (e.add (a.toNat*1))) λe=>aX c λi=>0<=g/\g<(b:Int)/\aS .u32 (rd h (i.add (g.toNat*1))) λi=>Cl 319 [aq e,aq i] h λe i=>bQ (some e) λe=>aJ (!e) (F321.wL15 n m13 c b f g d (ax (a-1)) i K) (F321.wk17 m13 c b f g d a i K)) (F321.wk17 m13 c b f g d a h K)):=by kernel_rfl
def F321.wk15:Prop:=(∃e,F321.wL15 e m13 c b f g d a h K)
def F321.sL1013:F321.wL1013 (n+1) m13 c b f g d a h K=(aJ (d<=a) (aX c λe=>0<=d/\d<(b:Int)/\aS .u32 (rd h (e.add (d.toNat*1))) λe=>aX c λi=>0<=g/\g<(b:Int)/\aS .u32 (rd h (i.add (g.toNat*1))) λi=>Cl 319 [aq e,aq i] h λe i=>bQ (some e) λe=>aJ e (F321.wL1013 n m13 c b f g (ax (d+1)) a i K) (F321.wk15 m13 c b f g d a i K)) (F321.wk15 m13 c b f g d a h K)):=by kernel_rfl
def F321.sL13:F321.wL13 (n+1) c b f g d a h K=((∃e,F321.wL1013 e n c b f g d a h K)):=by kernel_rfl
def F321.wk13:Prop:=(∃e,F321.wL13 e c b f g d a h K)
def F321.wk7:Prop:=aJ (d>a) (aX c λd=>0<=g/\g<(b:Int)/\aS .u32 (rd h (d.add (g.toNat*1))) λd=>aX c λe=>0<=a/\a<(b:Int)/\aS .u32 (rd h (e.add (a.toNat*1))) λe=>aX c λi=>0<=a/\a<(b:Int)/\aY h ((i.add (a.toNat*1)).add 0) (aq d) λd=>aF (.slice c b f)/\aF (ap g)/\aX c λc=>0<=g/\g<(b:Int)/\aY d ((c.add (g.toNat*1)).add 0) (aq e) λb=>K (.tuple #[ap a,aC]) b) (aX c λe=>0<=a/\a<(b:Int)/\aS .u32 (rd h (e.add (a.toNat*1))) λe=>aX c λi=>0<=d/\d<(b:Int)/\aS .u32 (rd h (i.add (d.toNat*1))) λi=>aX c λj=>0<=d/\d<(b:Int)/\aY h ((j.add (d.toNat*1)).add 0) (aq e) λe=>aF (.slice c b f)/\aF (ap a)/\aX c λj=>0<=a/\a<(b:Int)/\aY e ((j.add (a.toNat*1)).add 0) (aq i) λe=>F321.wk13 c b f g (ax (d+1)) (ax (a-1)) e K)
def F321.sL5:F321.wL5 (n+1) c b f g d a h K=(aJ (d<=a) (aX c λe=>0<=a/\a<(b:Int)/\aS .u32 (rd h (e.add (a.toNat*1))) λe=>aX c λi=>0<=g/\g<(b:Int)/\aS .u32 (rd h (i.add (g.toNat*1))) λi=>Cl 319 [aq e,aq i] h λe i=>bQ (some e) λe=>aJ (!e) (F321.wL5 n c b f g d (ax (a-1)) i K) (F321.wk7 c b f g d a i K)) (F321.wk7 c b f g d a h K)):=by kernel_rfl
def F321.wk5:Prop:=(∃e,F321.wL5 e c b f g d a h K)
def F321.sL3:F321.wL3 (n+1) c b f g d a h K=(aJ (d<=a) (aX c λe=>0<=d/\d<(b:Int)/\aS .u32 (rd h (e.add (d.toNat*1))) λe=>aX c λi=>0<=g/\g<(b:Int)/\aS .u32 (rd h (i.add (g.toNat*1))) λi=>Cl 319 [aq e,aq i] h λe i=>bQ (some e) λe=>aJ e (F321.wL3 n c b f g (ax (d+1)) a i K) (F321.wk5 c b f g d a i K)) (F321.wk5 c b f g d a h K)):=by kernel_rfl
def F321.wk3:Prop:=(∃e,F321.wL3 e c b f g d a h K)
def F321.spec(H:aX c λa=>0<=i/\i<(b:Int)/\aS .u32 (rd h (a.add (i.toNat*1))) λa=>aX c λd=>0<=g/\g<(b:Int)/\aS .u32 (rd h (d.add (g.toNat*1))) λd=>aX c λe=>0<=g/\g<(b:Int)/\aY h ((e.add (g.toNat*1)).add 0) (aq a) λa=>aF (.slice c b f)/\aF (ap i)/\aX c λe=>0<=i/\i<(b:Int)/\aY a ((e.add (i.toNat*1)).add 0) (aq d) λa=>F321.wk3 c b f g (ax (g+1)) (ax (j-1)) a K):Cl 321 [.slice c b f,ap g,ap j,ap i] h K:=cT F321.T Tryz.func321 H
end
def F343.T:bh:=⟨[(1,[0,2,3,8]),(5,[0,2,3,8,9])],[(3,[[(0,[]),(1,[]),(2,[]),(3,[]),(4,[]),(5,[]),(6,[]),(7,[]),(8,[]),(9,[]),(10,[]),(11,[]),(12,[]),(13,[]),(14,[]),(15,[]),(16,[]),(17,[]),(18,[]),(19,[])]]),(5,[[(0,[]),(1,[]),(2,[]),(3,[]),(4,[]),(5,[]),(6,[]),(7,[]),(8,[]),(9,[]),(10,[]),(11,[]),(12,[]),(13,[])]]),(6,[[(0,[]),(1,[]),(2,[]),(3,[]),(4,[]),(5,[]),(6,[]),(7,[]),(8,[]),(9,[]),(10,[]),(11,[]),(12,[]),(13,[]),(14,[]),(15,[]),(16,[]),(17,[]),(18,[]),(19,[]),(20,[]),(21,[4,5,6,7]),(22,[]),(23,[])]])]⟩
section
variable (bk1:(az)->Nat->Nat->Int->Int->Int->aI->Prop)(n:Nat)(b:az)(a d:Nat)(j g c f i:Int)(h:aI)(K:KK)
def F343.wL1:Prop:=Lp Tryz.f343 F343.T [1,0] n [(0,(.slice b a d)),(2,(ap g)),(3,(ap c)),(8,(ap f))] h K
def F343.wk5:Prop:=aX b λe=>0<=(ax (c+f))/\(ax (c+f))<(a:Int)/\aS .u32 (rd h (e.add ((ax (c+f)).toNat*1))) λe=>aX b λj=>0<=(ax (c+i))/\(ax (c+i))<(a:Int)/\aS .u32 (rd h (j.add ((ax (c+i)).toNat*1))) λj=>Cl 319 [aq e,aq j] h λe j=>bQ (some e) λe=>aJ (!e) (K aE j) (aX b λe=>0<=(ax (c+i))/\(ax (c+i))<(a:Int)/\aS .u32 (rd j (e.add ((ax (c+i)).toNat*1))) λe=>aX b λk=>0<=(ax (c+f))/\(ax (c+f))<(a:Int)/\aS .u32 (rd j (k.add ((ax (c+f)).toNat*1))) λk=>aX b λl=>0<=(ax (c+f))/\(ax (c+f))<(a:Int)/\aY j ((l.add ((ax (c+f)).toNat*1)).add 0) (aq e) λe=>aF (.slice b a d)/\aF (ap c)/\aF (ap i)/\aF (ap (ax (c+i)))/\aX b λf=>0<=(ax (c+i))/\(ax (c+i))<(a:Int)/\aY e ((f.add ((ax (c+i)).toNat*1)).add 0) (aq k) λe=>bk1 b a d g c i e)
def F343.sL1:F343.wL1 (n+1) b a d g c f h K=(aJ ((ax ((ax (2*f))+1))>=g) (K aE h) (aJ ((ax ((ax ((ax (2*f))+1))+1))<g) (aX b λe=>0<=(ax (c+(ax ((ax (2*f))+1))))/\(ax (c+(ax ((ax (2*f))+1))))<(a:Int)/\aS .u32 (rd h (e.add ((ax (c+(ax ((ax (2*f))+1)))).toNat*1))) λe=>aX b λi=>0<=(ax ((ax (c+(ax ((ax (2*f))+1))))+1))/\(ax ((ax (c+(ax ((ax (2*f))+1))))+1))<(a:Int)/\aS .u32 (rd h (i.add ((ax ((ax (c+(ax ((ax (2*f))+1))))+1)).toNat*1))) λi=>Cl 319 [aq e,aq i] h λe i=>bQ (some e) λe=>aJ e (F343.wk5 (λa b c d e f g=>F343.wL1 n a b c d e f g K) b a d g c f (ax ((ax ((ax (2*f))+1))+1)) i K) (F343.wk5 (λa b c d e f g=>F343.wL1 n a b c d e f g K) b a d g c f (ax ((ax (2*f))+1)) i K)) (F343.wk5 (λa b c d e f g=>F343.wL1 n a b c d e f g K) b a d g c f (ax ((ax (2*f))+1)) h K))):=by kernel_rfl
def F343.wk1:Prop:=(∃e,F343.wL1 e b a d g c f h K)
def F343.spec(H:F343.wk1 b a d g c j h K):Cl 343 [.slice b a d,ap j,ap g,ap c] h K:=cT F343.T Tryz.func343 H
end
def F344.spec(H:Cl 295 [ar (IntKind.wrap .u64 i)] h λa b=>aS .i64 (some a) λa=>0<=a/\K (ar (IntKind.wrap .u64 ((1:Int)*2^(min (a.toNat) (IntKind.bits .u64))))) b):Cl 344 [ap i] h K:=cN Tryz.func344 H
def F345.T:bh:=⟨[],[(1,[[(0,[]),(1,[]),(2,[]),(3,[]),(4,[]),(5,[]),(6,[]),(7,[]),(8,[]),(9,[])]]),(2,[[(0,[]),(1,[]),(2,[]),(3,[]),(4,[]),(5,[]),(6,[]),(7,[]),(8,[]),(9,[])]]),(3,[[(0,[]),(1,[]),(2,[]),(3,[]),(4,[]),(5,[]),(6,[]),(7,[]),(8,[]),(9,[])]])]⟩
def F345.spec{a:Addr}(H:aS .u64 (rd h a) λb=>aS .u64 (rd h a) λc=>0<=(13:Int)/\aY h (a.add 0) (ar (bu .xor .u64 b (IntKind.wrap .u64 (c*2^(min (Int.toNat 13) (IntKind.bits .u64)))))) λb=>aS .u64 (rd b a) λc=>aS .u64 (rd b a) λd=>0<=(7:Int)/\aY b (a.add 0) (ar (bu .xor .u64 c (Int.fdiv d (2^(min (Int.toNat 7) (IntKind.bits .u64)))))) λb=>aS .u64 (rd b a) λc=>aS .u64 (rd b a) λd=>0<=(17:Int)/\aY b (a.add 0) (ar (bu .xor .u64 c (IntKind.wrap .u64 (d*2^(min (Int.toNat 17) (IntKind.bits .u64)))))) λb=>aS .u64 (rd b a) λa=>K (ar a) b):Cl 345 [au a] h K:=cT F345.T Tryz.func345 H
def F346.spec(H:Cl 347 [.slice x u v,ap (ax (i-1)),ap i,ap (ax (i+1)),au a] h λa b=>aS .i64 (some a) λa=>K (ap a) b):Cl 346 [.slice x u v,ap i,au a] h K:=cN Tryz.func346 H
def F347.spec(H:Cl 366 [.slice x u v,ap i,ap j,au a] h λb c=> ∃d:Int,∃e:Int,b=(.tuple #[ap d,ap e])/\Cl 366 [.slice x u v,ap e,ap k,au a] c λb c=> ∃e:Int,∃f:Int,b=(.tuple #[ap e,ap f])/\Cl 366 [.slice x u v,ap d,ap e,au a] c λa b=> ∃c:Int,∃d:Int,a=(.tuple #[ap c,ap d])/\K (ap d) b):Cl 347 [.slice x u v,ap i,ap j,ap k,au a] h K:=cN Tryz.func347 H
def F366.T:bh:=⟨[],[(1,[[(0,[]),(1,[]),(2,[]),(3,[]),(4,[]),(5,[]),(6,[]),(7,[]),(8,[])]])]⟩
def F366.spec{i j:Int}{a:Addr}{u v:Nat}{x:az}{h:aI}{K:KK}(H:aX x λb=>0<=j/\j<(u:Int)/\aS .u32 (rd h (b.add (j.toNat*1))) λb=>aX x λc=>0<=i/\i<(u:Int)/\aS .u32 (rd h (c.add (i.toNat*1))) λc=>Cl 319 [aq b,aq c] h λb c=>bQ (some b) λb=>aJ b (aS .i64 (rd c a) λb=>aY c (a.add 0) (ap (ax (b+1))) λa=>K (.tuple #[ap j,ap i]) a) (K (.tuple #[ap i,ap j]) c)):Cl 366 [.slice x u v,ap i,ap j,au a] h K:=cT F366.T Tryz.func366 H
def FX{b n a e c:Nat}{sp:List Value}{K:KK}(he:e<=n)(hn:n<=LB-2):
  ∀(d:Nat) (i:Nat) (y:Int) (g:Nat->Int) (h:aI),cf .u32 h b n g sp->a<=i->i<=n+1->y<e-> -1<=y->y<=i+d->(∀h' g',cf .u32 h' b n g' sp->dA a e g g'->aM [b] h h'->K aE h')->
   F317.wL2 (d+1) (some (aw b)) n c i y h K:=by
 intro d;have l:LB=140737488355328:=rfl
 induction d with
 |zero=>
  intro i y g h A h1 k h2 f h3 hK;rw[F317.sL2];rw[show decide ((i:Int)<y)=false by simp;omega];exact hK h g A (.refl g) (aM.refl _ _)
 |succ d ih=>
  intro i y g h A h1 k h2 f h3 hK;rw[F317.sL2];refine aR (λhc=> ?_) λhc=> ?_
  ·simp only[Mu]at hc;obtain⟨j,rfl⟩: ∃j:Nat,y=j:=⟨y.toNat,ah⟩;refine A.ld rfl ah (A.ld rfl ah (A.sto rfl ah λh1 A1 O1=>⟨rfl,rfl,A1.sto rfl ah λh2 A2 O2=> ?_⟩));have A2':cf .u32 h2 b n (swp g i j) sp:=A2;rw[show ax ((i:Int)+1)=((i+1:Nat):Int) by rw[bq ah ah];omega,bq (x:=(j:Int)-1) ah ah];exact ih (i+1) _ _ h2 A2' ah ah ah ah ah λh' g' A' S' O'=>hK h' g' A' ((dA.one g ah ah ah ah).trans S') ((O1.trans O2 ak).trans O' ak)
  ·exact hK h g A (.refl g) (aM.refl _ _)
def JI{h:aI}{b n a e c:Nat}{g:Nat->Int}{sp:List Value}{K:KK}(A:cf .u32 h b n g sp)(he:e<=n)(ha:a<=n)(hn:n<=LB-2)
  (hK: ∀h' g',cf .u32 h' b n g' sp->dA a e g g'->aM [b] h h'->K aE h'):Cl 317 [.slice (some (aw b)) n c,ap a,ap e] h K:=by
 refine F317.spec _ _ _ _ _ h K ?_;unfold F317.wk2;have d:LB=140737488355328:=rfl;rw[bq (x:=(e:Int)-1) ah ah];exact⟨e+1,FX he hn e a _ g h A (Mb _) ah ah ah ah hK⟩
def Hp(lo hi r:Nat)(u:Nat->Int):Prop:=
 (∀k c,lo<=k->k≠r->(c=2*k+1\/c=2*k+2)->c<hi->u c<=u k)/\(∀k c,lo<=k->(r=2*k+1\/r=2*k+2)->(c=2*r+1\/c=2*r+2)->c<hi->u c<=u k)
def FD(lo hi:Nat)(u:Nat->Int):Prop:= ∀k c,lo<=k->(c=2*k+1\/c=2*k+2)->c<hi->u c<=u k
def Hp.stop(H:Hp lo hi r u)(h: ∀c,(c=2*r+1\/c=2*r+2)->c<hi->u c<=u r):FD lo hi u:=λk c h1 h2 h3=>by
 by_cases hk:k=r
 ·subst hk;exact h c h2 h3
 ·exact H.1 k c h1 hk h2 h3
def Hp.step{lo hi r ch:Nat}{u:Nat->Int}(H:Hp lo hi r u)(hr:lo<=r)(b:ch=2*r+1\/ch=2*r+2)(hh:ch<hi)(hb: ∀c,(c=2*r+1\/c=2*r+2)->c<hi->u c<=u ch)(hl:u r<u ch):
  Hp lo hi ch (swp u r ch):=by
 refine⟨λk c h1 h2 h3 h4=> ?_,λk c h1 h2 h3 h4=> ?_⟩
 ·by_cases hk:k=r
  ·subst hk;rw[jp];by_cases hc:c=ch
   ·subst hc;rw[pX];exact Oo hl
   ·rw[dN u ah hc];exact hb c h3 h4
  ·rw[dN u hk h2];by_cases hc:c=r
   ·subst hc;rw[jp];exact H.2 k ch h1 h3 b hh
   ·have a:c≠ch:=ah;rw[dN u hc a];exact H.1 k c h1 hk h3 h4
 ·have hk:k=r:=ah;subst hk;rw[jp,dN u ah ah];exact H.1 ch c ah ah h3 h4
def FD.max(H:FD 0 hi u): ∀k,k<hi->u k<=u 0:=by
 intro k
 induction k using Nat.strongRecOn with
 |_ k ih=>
  intro hk;by_cases h0:k=0
  ·subst h0;exact OJ _
  ·exact OA (H ((k-1)/2) k ah ah hk) (ih ((k-1)/2) ah ah)
def sh(a:Nat)(g:Nat->Int):Nat->Int:=λk=>g (a+k)
def zu(a:Nat)(g:Nat->Int)(i j:Nat):sh a (swp g (a+i) (a+j))=swp (sh a g) i j:=by funext k;unfold sh swp;simp only[Nat.add_left_cancel_iff]
def CP{b n a e c lo:Nat}{sp:List Value}{K:KK}(he:a+e<=n)(hn:n<=LB/4):
  ∀(d:Nat) (r:Nat) (g:Nat->Int) (h:aI),cf .u32 h b n g sp->Hp lo e r (sh a g)->lo<=r->r<e->e<=r+d->(∀h' g',cf .u32 h' b n g' sp->FD lo e (sh a g')->dA (a+lo) (a+e) g g'->aM [b] h h'->K aE h')->
   F343.wL1 (d+1) (some (aw b)) n c e a r h K:=by
 intro d;have q:LB=140737488355328:=rfl
 induction d with
 |zero=>intro r g h A H h1 h2 h3;omega
 |succ d ih=>
  intro r g h A H h1 h2 h3 hK;rw[F343.sL1]
  have w1:ax (ax ((2:Int)*(r:Int))+1)=((2*r+1:Nat):Int):=by rw[bq (x:=(2:Int)*r) ah ah,bq ah ah];omega
  have w2:ax (((2*r+1:Nat):Int)+1)=((2*r+2:Nat):Int):=by rw[bq ah ah];omega
  have f: ∀ch:Nat,(ch=2*r+1\/ch=2*r+2)->ch<e->(∀c,(c=2*r+1\/c=2*r+2)->c<e->sh a g c<=sh a g ch)->
    F343.wk5 (λm k o x2 x3 x8 h=>F343.wL1 (d+1) m k o x2 x3 x8 h K) (some (aw b)) n c e a r ch h K:=by
   intro ch l j hb;unfold F343.wk5;have w4:ax ((a:Int)+(r:Int))=((a+r:Nat):Int):=by rw[bq ah ah];omega
   have w5:ax ((a:Int)+(ch:Int))=((a+ch:Nat):Int):=by rw[bq ah ah];omega
   rw[w4,w5];refine A.ld rfl ah (A.ld rfl ah (eG ?_));rw[bX];refine aR (λhl=> ?_) λhl=> ?_
   ·simp only[MX,Mr]at hl;refine hK h g A (H.stop λc h4 h5=>OA (hb c h4 h5) ?_) (.refl g) (aM.refl _ _);show g (a+ch)<=g (a+r);omega
   ·simp only[Oi,Mu]at hl;refine A.ld rfl ah (A.ld rfl ah (A.sto rfl ah λk1 A1 O1=>⟨rfl,rfl,rfl,rfl,A1.sto rfl ah λk2 A2 O2=> ?_⟩));have A2':cf .u32 k2 b n (swp g (a+r) (a+ch)) sp:=A2;have H2:=H.step h1 l j hb hl;rw[<-zu]at H2;exact ih ch _ k2 A2' H2 ah j ah λh' g' A' R' S' O'=>hK h' g' A' R' ((dA.one g ah ah ah ah).trans S') ((O1.trans O2 ak).trans O' ak)
  rw[w1,w2];refine aR (λhc=> ?_) λhc=> ?_
  ·simp only[Mu]at hc;exact hK h g A (H.stop λc h4 h5=>ah) (.refl g) (aM.refl _ _)
  ·simp only[Mr]at hc;have w3:ax ((a:Int)+((2*r+1:Nat):Int))=((a+(2*r+1):Nat):Int):=by rw[bq ah ah];omega
   rw[w3];refine aR (λi=> ?_) λi=> ?_
   ·simp only[Mu]at i;have w6:ax (((a+(2*r+1):Nat):Int)+1)=((a+(2*r+2):Nat):Int):=by rw[bq ah ah];omega
    rw[w6];refine A.ld rfl ah (A.ld rfl ah (eG ?_));rw[bX];refine aR (λhl=> ?_) λhl=> ?_
    ·simp only[Mu]at hl;refine f (2*r+2) (.inr rfl) ah λc h4 h5=> ?_;rcases h4 with rfl|rfl
     ·exact Oo hl
     ·exact OJ _
    ·simp only[Mr]at hl;refine f (2*r+1) (.inl rfl) ah λc h4 h5=> ?_;rcases h4 with rfl|rfl
     ·exact OJ _
     ·show g (a+(2*r+2))<=g (a+(2*r+1));omega
   ·simp only[Mr]at i;refine f (2*r+1) (.inl rfl) ah λc h4 h5=> ?_;rcases h4 with rfl|rfl
    ·exact OJ _
    ·omega
def CC{h:aI}{b n a e c lo:Nat}{g:Nat->Int}{sp:List Value}{K:KK}(A:cf .u32 h b n g sp)(H:FD (lo+1) e (sh a g))(d:lo<e\/e=0)(he:a+e<=n)(hn:n<=LB/4)(hl:lo<=n)
  (hK: ∀h' g',cf .u32 h' b n g' sp->FD lo e (sh a g')->dA (a+lo) (a+e) g g'->aM [b] h h'->K aE h'):Cl 343 [.slice (some (aw b)) n c,ap lo,ap e,ap a] h K:=by
 refine F343.spec _ _ _ _ _ _ h K ?_;unfold F343.wk1;have f:LB=140737488355328:=rfl;rcases d with d|h0
 ·refine⟨e+1,CP he hn e lo g h A ⟨λk c h1 h2 h3 h4=>H k c ah h3 h4,λk c h1 h2=>ah⟩ (Mb _) d ah hK⟩
 ·subst h0;refine⟨1,?_⟩;rw[F343.sL1]
  have w1:ax (ax ((2:Int)*(lo:Int))+1)=((2*lo+1:Nat):Int):=by rw[bq (x:=(2:Int)*lo) ah ah,bq ah ah];omega
  rw[w1,show decide ((((2*lo+1:Nat):Int))>=((0:Nat):Int))=true by simp;omega];exact hK h g A (λk c h1 h2 h3=>ah) (.refl g) (aM.refl _ _)
def Hx{b n a e c:Nat}{sp:List Value}{K:KK}(he:a+e<=n)(hn:n<=LB/4):
  ∀(m:Nat) (g:Nat->Int) (h:aI),cf .u32 h b n g sp->m<=e->FD 0 m (sh a g)->(∀p q,m<=p->p<q->q<e->sh a g p<=sh a g q)->(∀p q,p<m->m<=q->q<e->sh a g p<=sh a g q)->
   (∀h' g',cf .u32 h' b n g' sp->fX a (a+e) g'->dA a (a+e) g g'->aM [b] h h'->K aE h')->F314.wL8 (m+1) (some (aw b)) n c a ((m:Int)-1) h K:=by
 intro m;have j:LB=140737488355328:=rfl
 induction m with
 |zero=>
  intro g h A hm H T1 T2 hK;rw[F314.sL8];rw[show decide ((((0:Nat):Int)-1)>=0)=false by simp];refine hK h g A (λp q h1 h2 h3=> ?_) (.refl g) (aM.refl _ _);have:=T1 (p-a) (q-a) ah ah ah;unfold sh at this;rw[show a+(p-a)=p by omega,show a+(q-a)=q by omega]at this;exact this
 |succ m ih=>
  intro g h A hm H T1 T2 hK;rw[F314.sL8];rw[show(((m+1:Nat):Int)-1)=(m:Int) by omega,show decide ((m:Int)>=0)=true by simp,aO];have w4:ax ((a:Int)+(m:Int))=((a+m:Nat):Int):=by rw[bq ah ah];omega
  rw[w4];refine A.ld rfl ah (A.ld rfl ah (A.sto rfl ah λk1 A1 O1=>⟨rfl,rfl,rfl,rfl,A1.sto rfl ah λk2 A2 O2=> ?_⟩));have A2':cf .u32 k2 b n (swp g a (a+m)) sp:=A2;have e1:sh a (swp g a (a+m))=swp (sh a g) 0 m:=by have:=zu a g 0 m;simpa using this
  have M:=H.max;refine CC (lo:=0) (e:=m) A2' ?_ ah ah hn ah λh3 g3 A3 H3 S3 O3=>⟨rfl,?_⟩
  ·rw[e1];intro k c h1 h2 h3;rw[dN _ ah ah,dN _ ah ah];exact H k c ah h2 ah
  ·rw[bq (x:=(m:Int)-1) ah ah];have S3':dA (a+0) (a+m) (swp g a (a+m)) g3:=S3;have out: ∀q,m<=q->sh a g3 q=sh a (swp g a (a+m)) q:=λq hq=>S3'.out (.inr ah);have top:sh a (swp g a (a+m)) m=sh a g 0:=by rw[e1,pX]
   have rest: ∀q,m<q->sh a (swp g a (a+m)) q=sh a g q:=λq hq=>by rw[e1,dN _ ah ah]
   have i: ∀p,p<m->sh a (swp g a (a+m)) p<=sh a g 0/\ ∀q,m+1<=q->q<e->sh a (swp g a (a+m)) p<=sh a g q:=λp hp=>by
    rw[e1];by_cases h0:p=0
    ·subst h0;rw[jp];exact⟨M m ah,λq hq f=>T2 m q ah hq f⟩
    ·rw[dN _ h0 ah];exact⟨M p ah,λq hq f=>T2 p q ah hq f⟩
   have d: ∀p,p<m->sh a g3 p<=sh a g 0/\ ∀q,m+1<=q->q<e->sh a g3 p<=sh a g q:=λp hp=>by
    have:=S3'.all (Q:=λv=>v<=sh a g 0/\ ∀q,m+1<=q->q<e->v<=sh a g q) (λk h1 h2=>by have:=i (k-a) ah;unfold sh at this ⊢;rw[show a+(k-a)=k by omega]at this;exact this) (a+p) ah ah
    exact this
   refine ih g3 h3 A3 ah H3 (λp q h1 h2 h4=> ?_) (λp q h1 h2 h4=> ?_) λh' g' A' R' S' O'=>hK h' g' A' R' (((dA.one g ah ah ah ah).trans (S3'.mono ah ah)).trans S') (((O1.trans O2 ak).trans O3 ak).trans O' ak)
   ·rw[out p h1,out q ah,rest q ah];by_cases hp:p=m
    ·subst hp;rw[top];exact T2 0 q ah ah h4
    ·rw[rest p ah];exact T1 p q ah h2 h4
   ·rw[out q h2];by_cases hq:q=m
    ·subst hq;rw[top];exact(d p h1).1
    ·rw[rest q ah];exact(d p h1).2 q ah h4
def tX{b n a e c:Nat}{sp:List Value}{K:KK}(he:a+e<=n)(hn:n<=LB/4):
  ∀(m:Nat) (g:Nat->Int) (h:aI),cf .u32 h b n g sp->m<=e\/e=0->m<=n+1->FD m e (sh a g)->
   (∀h' g',cf .u32 h' b n g' sp->fX a (a+e) g'->dA a (a+e) g g'->aM [b] h h'->K aE h')->F314.wL4 (m+1) (some (aw b)) n c a e ((m:Int)-1) h K:=by
 intro m;have f:LB=140737488355328:=rfl
 induction m with
 |zero=>
  intro g h A hm d H hK;rw[F314.sL4];rw[show decide ((((0:Nat):Int)-1)>=0)=false by simp,aK];unfold F314.wk7 F314.wk8
  try dsimp only
  rw[bq (x:=(e:Int)-1) ah ah];exact⟨e+1,Hx he hn e g h A (Mb _) H (λp q h1 h2 h3=>ah) (λp q h1 h2 h3=>ah) hK⟩
 |succ m ih=>
  intro g h A hm d H hK;rw[F314.sL4];rw[show(((m+1:Nat):Int)-1)=(m:Int) by omega,show decide ((m:Int)>=0)=true by simp,aO];refine CC A H ah he hn ah λh3 g3 A3 H3 S3 O3=>⟨rfl,?_⟩;rw[bq (x:=(m:Int)-1) ah ah];exact ih g3 h3 A3 ah ah H3 λh' g' A' R' S' O'=>hK h' g' A' R' ((S3.mono ah (Mb _)).trans S') (O3.trans O' ak)
def Hi{h:aI}{b n a e c:Nat}{g:Nat->Int}{sp:List Value}{K:KK}(A:cf .u32 h b n g sp)(he:e<=n)(ha:a<=e)(hn:n<=LB/4)
  (hK: ∀h' g',cf .u32 h' b n g' sp->fX a e g'->dA a e g g'->aM [b] h h'->K aE h'):Cl 314 [.slice (some (aw b)) n c,ap a,ap e] h K:=by
 refine F314.spec _ _ _ _ _ h K ?_;unfold F314.wk4;have f:LB=140737488355328:=rfl;obtain⟨d,rfl⟩: ∃d,e=a+d:=⟨e-a,ah⟩;have w1:ax (((a+d:Nat):Int)-(a:Int))=(d:Int):=by rw[bq ah ah];omega
 rw[w1,bq (x:=(d:Int)-1) ah ah];refine⟨ah,?_⟩;by_cases hd:d=0
 ·subst hd;have w2:ax (Int.tdiv (((0:Nat):Int)-1) 2)=((1:Nat):Int)-1:=by decide
  rw[w2];exact⟨2,tX ah hn 1 g h A (.inr rfl) ah (λk c h1 h2 h3=>ah) hK⟩
 ·have w2:ax (Int.tdiv ((d:Int)-1) 2)=(((d-1)/2+1:Nat):Int)-1:=by
   rw[NT ah,bq ah ah];omega
  rw[w2];exact⟨_,tX ah hn ((d-1)/2+1) g h A (.inl ah) ah (λk c h1 h2 h3=>ah) hK⟩
def Hj(tb:ByteArray):Bool:=(List.range 256).all λy=>match tb[y]? with|some b=>b.toNat<=8&&(y==0||(1<=b.toNat&&2^(b.toNat-1)<=y))|none=>false
def yi(h:Hj tb=true)(hy:y<256): ∃b,tb[y]? =some b/\b.toNat<=8/\(1<=y->1<=b.toNat/\2^(b.toNat-1)<=y):=by
 unfold Hj at h;rw[MZ]at h;have:=h y (MW.2 hy);cases hb:tb[y]? with
 |none=>rw[hb]at this;cases this
 |some b=>
  rw[hb]at this;simp only[MG,Nj,Mu,Oe]at this;refine⟨b,rfl,this.1,λh1=> ?_⟩;rcases this.2 with h|h
  ·omega
  ·exact h
def zm{tb:ByteArray}{y:Nat}{K:Int->Prop}(h:Hj tb=true)(hy:y<256)(hK: ∀n:Nat,n<=8->(1<=y->1<=n/\2^(n-1)<=y)->K (n:Int)):EF tb (y:Int) K:=by obtain⟨b,hb,h8,h1⟩:=yi h hy;exact⟨b,by rw[Md];exact hb,hK _ h8 h1⟩
def GR{x:Nat}(h:x<256):IntKind.wrap .u8 (x:Int)=x:=by simp[IntKind.wrap,IntKind.bits,IntKind.signed];omega
def AC{x' s X:Nat}{h:aI}{K:KK}(hx:x'<256)(hs:s<=56)(h1:2^s*x'<=X)(h2:1<=X->1<=x')
  (hK: ∀L:Nat,L<=64->(1<=X->1<=L/\2^(L-1)<=X)->K (ap (L:Int)) h):F323.wk10 x' s h K:=by
 unfold F323.wk10;rw[GR hx];refine⟨ah,?_⟩;refine zm (by decide+kernel) hx λn c a=> ?_;have b:LB=140737488355328:=rfl;rw[bq (x:=(n:Int)) ah ah,bq ah ah,show(s:Int)+(n:Int)=((s+n:Nat):Int) by omega];refine hK _ ah λhX=> ?_;obtain⟨c1,c2⟩:=a (h2 hX);refine⟨ah,?_⟩;rw[show s+n-1=s+(n-1) by omega,OG];exact Nc (Oq _ c2) h1
def zZ{x k:Nat}:Int.fdiv (x:Int) ((k:Nat):Int)=((x/k:Nat):Int):=by
 rw[Pa _ ah]
 rfl
def JC{X:Nat}{h:aI}{K:KK}(hX:X<18446744073709551616)(hK: ∀L:Nat,L<=64->(1<=X->1<=L/\2^(L-1)<=X)->K (ap (L:Int)) h):
  Cl 323 [ar (X:Int)] h K:=by
 refine F323.spec ?_
 have k7: ∀x' s:Nat,x'<65536->s<=48->2^s*x'<=X->(1<=X->1<=x')->F323.wk7 x' s h K:=by
  intro x' s hx hs h1 h2;unfold F323.wk7;refine aR (λhc=> ?_) λhc=> ?_
  ·simp only[Mu]at hc;refine⟨ah,?_⟩;rw[show((2:Int)^(min (Int.toNat (8:Int)) (IntKind.bits .u64)))=((256:Nat):Int) by decide,zZ,bq (by unfold LB;omega) (by unfold LB;omega),show(s:Int)+8=((s+8:Nat):Int) by omega];refine AC ah ah (Nc ?_ h1) ah hK;rw[OG,NK];exact Oq _ ah
  ·simp only[Mr]at hc;exact AC ah ah h1 h2 hK
 have k4: ∀x' s:Nat,x'<4294967296->s<=32->2^s*x'<=X->(1<=X->1<=x')->F323.wk4 x' s h K:=by
  intro x' s hx hs h1 h2;unfold F323.wk4;refine aR (λhc=> ?_) λhc=> ?_
  ·simp only[Mu]at hc;refine⟨ah,?_⟩;rw[show((2:Int)^(min (Int.toNat (16:Int)) (IntKind.bits .u64)))=((65536:Nat):Int) by decide,zZ,bq (by unfold LB;omega) (by unfold LB;omega),show(s:Int)+16=((s+16:Nat):Int) by omega];refine k7 _ _ ah ah (Nc ?_ h1) ah;rw[OG,NK];exact Oq _ ah
  ·simp only[Mr]at hc;exact k7 _ _ ah ah h1 h2
 refine aR (λhc=> ?_) λhc=> ?_
 ·simp only[Mu]at hc;refine⟨ah,?_⟩;rw[show((2:Int)^(min (Int.toNat (32:Int)) (IntKind.bits .u64)))=((4294967296:Nat):Int) by decide,zZ];exact k4 (X/4294967296) 32 ah ah ah ah
 ·simp only[Mr]at hc;exact k4 X 0 ah ah ah ah
def Fx{X:Nat}{h:aI}{K:KK}(hX:X<18446744073709551616)(hK: ∀L:Nat,L<=64->(1<=X->1<=L/\2^(L-1)<=X)->K (ap (L:Int)) h):
  Cl 295 [ar (X:Int)] h K:=by
 refine F295.spec ?_;exact JC hX λL h1 h2=>by rw[bB];exact hK L h1 h2
def Ju{d:Nat}{h:aI}{K:KK}(h1:1<=d)(hd:d<=LB/4)(hK: ∀M:Nat,1<=M->M<=2*d->K (ar (M:Int)) h):Cl 344 [ap (d:Int)] h K:=by
 refine F344.spec ?_;have a:LB=140737488355328:=rfl;rw[bZ ah ah];refine Fx ah λL hL hl=> ?_;obtain⟨l1,l2⟩:=hl h1;rw[bB];refine⟨ah,?_⟩
 have e:min (Int.toNat (L:Int)) (IntKind.bits .u64)=L:=by rw[Md];show min L 64=L;omega
 rw[e]
 have l3:2^L<=2*d:=by rw[show L=(L-1)+1 by omega,NY];omega
 have lp:1<=2^L:=Nat.one_le_two_pow;rw[show(1:Int)*2^L=((2^L:Nat):Int) by simp];generalize 2^L=q at l3 lp ⊢;rw[bZ ah ah];exact hK _ lp l3
def F0(A:At h b [ar v])(hK: ∀h' v',At h' b [ar v']->aM [b] h h'->K (ar v') h'):Cl 345 [au (aw b)] h K:=by
 refine F345.spec ?_;have rd0: ∀{h v},At h b [ar v]->rd h (aw b)=some (ar v):=λA=>A.rd 0;rw[rd0 A,bB,bB];refine⟨by decide,?_⟩;rw[aL];refine aU A ak rfl λh1 A1 O1 _=> ?_
 replace A1:At h1 b [ar _]:=A1
 rw[rd0 A1,bB,bB];refine⟨by decide,?_⟩;refine aU A1 ak rfl λh2 A2 O2 _=> ?_
 replace A2:At h2 b [ar _]:=A2
 rw[rd0 A2,bB,bB];refine⟨by decide,?_⟩;refine aU A2 ak rfl λh3 A3 O3 _=> ?_
 replace A3:At h3 b [ar _]:=A3
 rw[rd0 A3,bB];exact hK _ _ A3 ((O1.trans O2 ak).trans O3 ak)
def GN{x:Int}{m:Nat}(hm:m<18446744073709551616):0<=bu .and .u64 x m/\bu .and .u64 x m<=m:=by
 unfold bu
 have h1:(BitVec.ofInt (IntKind.bits .u64) (m:Int)).toNat=m:=by show(BitVec.ofInt 64 (m:Int)).toNat=m;rw[BitVec.toNat_ofInt];omega
 have h2:(BitVec.ofInt (IntKind.bits .u64) x&&&BitVec.ofInt (IntKind.bits .u64) (m:Int)).toNat<=m:=by rw[BitVec.toNat_and,h1];exact Nat.and_le_right
 dsimp only;rw[bZ ah ah];omega
def Hd{b n a d c M B:Nat}{sp:List Value}{K:KK}(hd:8<=d)(he:a+d<=n)(hn:n<=LB/4)(q:1<=M)(l:M<=2*d)(hB:B≠b):
  ∀(t i:Nat) (v:Int) (g:Nat->Int) (h:aI),cf .u32 h b n g sp->At h B [ar v]->i+t=a+d/4*2+2->a<=i->
   (∀h' g',cf .u32 h' b n g' sp->dA a (a+d) g g'->aM [b,B] h h'->K aE h')->F315.wL5 (t+1) (some (aw b)) n c a d (aw B) M i h K:=by
 intro t;have u:LB=140737488355328:=rfl
 have w1:ax (ax ((a:Int)+ax (ax (Int.tdiv (d:Int) 4)*2))+1)=((a+d/4*2+1:Nat):Int):=by rw[NT ah,bq (x:=(d:Int)/4) ah ah,bq (x:=(d:Int)/4*2) ah ah,bq (x:=(a:Int)+(d:Int)/4*2) ah ah,bq ah ah];omega
 induction t with
 |zero=>
  intro i v g h A AB hi ha hK;rw[F315.sL5];rw[w1];refine⟨by decide,?_⟩;rw[show decide ((i:Int)<=((a+d/4*2+1:Nat):Int))=false by simp;omega];exact hK h g A (.refl g) (aM.refl _ _)
 |succ t ih=>
  intro i v g h A AB hi ha hK;rw[F315.sL5];rw[w1];refine⟨by decide,?_⟩;rw[show decide ((i:Int)<=((a+d/4*2+1:Nat):Int))=true by simp;omega,aO];refine F0 AB λh1 v1 AB1 O1=> ?_;rw[bB];obtain⟨o1,o2⟩:=GN (x:=v1) (m:=M-1) ah;rw[show IntKind.wrap .u64 ((M:Int)-1)=((M-1:Nat):Int) by rw[bZ ah ah];omega]
  have e: ∀o:Nat,o<d->F315.wk10 (λj f k x1 x6 x7 x8 x9 h=>F315.wL5 (t+1) j f k x1 x6 x7 x8 x9 h K) (some (aw b)) n c a d (aw B) M i o h1 K:=by intro o ho;have A1:=A.only O1 (by simpa using Ne.symm hB);unfold F315.wk10;rw[show ax ((a:Int)+(o:Int))=((a+o:Nat):Int) by rw[bq ah ah];omega];refine A1.ld rfl ah (A1.ld rfl ah (A1.sto rfl ah λk1 A2 O2=>⟨rfl,rfl,rfl,rfl,A2.sto rfl ah λk2 A3 O3=> ?_⟩));have A3':cf .u32 k2 b n (swp g i (a+o)) sp:=A3;rw[show ax ((i:Int)+1)=((i+1:Nat):Int) by rw[bq ah ah];omega];refine ih (i+1) v1 _ k2 A3' ((AB1.only O2 (by simpa using hB)).only O3 (by simpa using hB)) ah ah λh' g' A' S' O'=>hK h' g' A' ((dA.one g ah ah ah ah).trans S') ?_;exact((((O1.mono (T:=[b,B]) ak).trans O2 ak).trans O3 ak).trans O' ak)
  rw[bq (x:=bu .and .u64 v1 ((M-1:Nat):Int)) ah ah];obtain⟨o,ho⟩: ∃o:Nat,bu .and .u64 v1 ((M-1:Nat):Int)=o:=⟨_,(NO o1).symm⟩;rw[ho]at o2 ⊢;refine aR (λhc=> ?_) λhc=> ?_
  ·simp only[Mu]at hc;rw[show ax ((o:Int)-(d:Int))=((o-d:Nat):Int) by rw[bq ah ah];omega];exact e _ ah
  ·simp only[Mr]at hc;exact e o ah
def JN{h:aI}{b n a e c:Nat}{g:Nat->Int}{sp:List Value}{K:KK}(A:cf .u32 h b n g sp)(he:e<=n)(ha:a<=e)(hn:n<=LB/4)
  (hK: ∀h' g',cf .u32 h' b n g' sp->dA a e g g'->aM [b] h h'->K aE h'):Cl 315 [.slice (some (aw b)) n c,ap a,ap e] h K:=by
 refine F315.spec _ _ _ _ _ h K ?_;have j:LB=140737488355328:=rfl;obtain⟨d,rfl⟩: ∃d,e=a+d:=⟨e-a,ah⟩;rw[show ax (((a+d:Nat):Int)-(a:Int))=(d:Int) by rw[bq ah ah];omega];refine aR (λhc=> ?_) λhc=> ?_
 ·simp only[Mu]at hc;refine aW λh1 A1 O1 z1=> ?_;rw[aL];refine aU A1 ak rfl λh2 A2 O2 z2=> ?_
  replace A2:At h2 h.size [ar _]:=A2
  refine Ju ah ah λM i f=> ?_;rw[bB];refine⟨by decide,?_⟩;unfold F315.wk5
  have w1:ax (ax ((a:Int)+ax (ax (Int.tdiv (d:Int) 4)*2))-1)=((a+d/4*2-1:Nat):Int):=by rw[NT ah,bq (x:=(d:Int)/4) ah ah,bq (x:=(d:Int)/4*2) ah ah,bq (x:=(a:Int)+(d:Int)/4*2) ah ah,bq ah ah];omega
  rw[w1];have hb:=A.lt;refine⟨_,Hd ah he hn i f ah 3 _ _ g h2 ((A.only O1 ak).only O2 (by simp;omega)) A2 ah ah λh' g' A' S' O'=>hK h' g' A' S' ?_⟩;exact((O1.mono (T:=[b]) ak).trans O2 ak).trans O' ak
 ·exact hK h g A (.refl g) (aM.refl _ _)
def JB{b n a c j:Nat}{sp:List Value}{K:KK}{g:Nat->Int}{h:aI}(A:cf .u32 h b n g sp)(hj:j<n)(ha:a<n)(hn:n<=LB/4):
  ∀(d i:Nat),i+d=j+1->(∀i',i<=i'->i'<=j+1->(∀k,i<=k->k<i'->g k<g a)->(i'=j+1\/g a<=g i')->F321.wk5 (some (aw b)) n c a i' j h K)->
   F321.wL3 (d+1) (some (aw b)) n c a i j h K:=by
 intro d;have e:LB=140737488355328:=rfl
 induction d with
 |zero=>
  intro i hd hK;rw[F321.sL3];rw[show decide ((i:Int)<=(j:Int))=false by simp;omega];exact hK i (Mb _) ah (λk h1 h2=>ah) (.inl ah)
 |succ d ih=>
  intro i hd hK;rw[F321.sL3];rw[show decide ((i:Int)<=(j:Int))=true by simp;omega,aO];refine A.ld rfl ah (A.ld rfl ah (eG ?_));rw[bX];refine aR (λhl=> ?_) λhl=> ?_
  ·simp only[Mu]at hl;rw[show ax ((i:Int)+1)=((i+1:Nat):Int) by rw[bq ah ah];omega];refine ih (i+1) ah λi' h1 h2 h3 h4=>hK i' ah h2 (λk h5 h6=> ?_) h4;by_cases hk:k=i
   ·subst hk;omega
   ·exact h3 k ah h6
  ·simp only[Mr]at hl;exact hK i (Mb _) ah (λk h1 h2=>ah) (.inr ah)
def HQ{b n a c j:Nat}{sp:List Value}{K:KK}{bk:Nat}{g:Nat->Int}{h:aI}(A:cf .u32 h b n g sp)(hj:j<n)(ha:a<n)(hn:n<=LB/4):
  ∀(d i:Nat),i+d=j+1->(∀i',i<=i'->i'<=j+1->(∀k,i<=k->k<i'->g k<g a)->(i'=j+1\/g a<=g i')->F321.wk15 bk (some (aw b)) n c a i' j h K)->
   F321.wL1013 (d+1) bk (some (aw b)) n c a i j h K:=by
 intro d;have e:LB=140737488355328:=rfl
 induction d with
 |zero=>
  intro i hd hK;rw[F321.sL1013];rw[show decide ((i:Int)<=(j:Int))=false by simp;omega];exact hK i (Mb _) ah (λk h1 h2=>ah) (.inl ah)
 |succ d ih=>
  intro i hd hK;rw[F321.sL1013];rw[show decide ((i:Int)<=(j:Int))=true by simp;omega,aO];refine A.ld rfl ah (A.ld rfl ah (eG ?_));rw[bX];refine aR (λhl=> ?_) λhl=> ?_
  ·simp only[Mu]at hl;rw[show ax ((i:Int)+1)=((i+1:Nat):Int) by rw[bq ah ah];omega];refine ih (i+1) ah λi' h1 h2 h3 h4=>hK i' ah h2 (λk h5 h6=> ?_) h4;by_cases hk:k=i
   ·subst hk;omega
   ·exact h3 k ah h6
  ·simp only[Mr]at hl;exact hK i (Mb _) ah (λk h1 h2=>ah) (.inr ah)
def HY{b n a c i e:Nat}{sp:List Value}{K:KK}{g:Nat->Int}{h:aI}(A:cf .u32 h b n g sp)(he:e<=n)(ha:a<n)(hn:n<=LB/4)(hi:1<=i):
  ∀(d j:Nat),j<e->j+1=i+d->(∀j',j'<=j->i<=j'+1->(∀k,j'<k->k<=j->g a<=g k)->(j'+1=i\/g j'<g a)->F321.wk7 (some (aw b)) n c a i j' h K)->
   F321.wL5 (d+1) (some (aw b)) n c a i j h K:=by
 intro d;have f:LB=140737488355328:=rfl
 induction d with
 |zero=>
  intro j hj hd hK;rw[F321.sL5];rw[show decide ((i:Int)<=(j:Int))=false by simp;omega];exact hK j (Mb _) ah (λk h1 h2=>ah) (.inl ah)
 |succ d ih=>
  intro j hj hd hK;rw[F321.sL5];rw[show decide ((i:Int)<=(j:Int))=true by simp;omega,aO];refine A.ld rfl ah (A.ld rfl ah (eG ?_));rw[bX];refine aR (λhl=> ?_) λhl=> ?_
  ·simp only[MX,Mr]at hl;rw[show ax ((j:Int)-1)=((j-1:Nat):Int) by rw[bq ah ah];omega];refine ih (j-1) ah ah λj' h1 h2 h3 h4=>hK j' ah h2 (λk h5 h6=> ?_) h4;by_cases hk:k=j
   ·subst hk;omega
   ·exact h3 k h5 ah
  ·simp only[Oi,Mu]at hl;exact hK j (Mb _) ah (λk h1 h2=>ah) (.inr ah)
def Ki{b n a c i e:Nat}{sp:List Value}{K:KK}{bk:Nat}{g:Nat->Int}{h:aI}(A:cf .u32 h b n g sp)(he:e<=n)(ha:a<n)(hn:n<=LB/4)(hi:1<=i):
  ∀(d j:Nat),j<e->j+1=i+d->(∀j',j'<=j->i<=j'+1->(∀k,j'<k->k<=j->g a<=g k)->(j'+1=i\/g j'<g a)->F321.wk17 bk (some (aw b)) n c a i j' h K)->
   F321.wL15 (d+1) bk (some (aw b)) n c a i j h K:=by
 intro d;have f:LB=140737488355328:=rfl
 induction d with
 |zero=>
  intro j hj hd hK;rw[F321.sL15];rw[show decide ((i:Int)<=(j:Int))=false by simp;omega];exact hK j (Mb _) ah (λk h1 h2=>ah) (.inl ah)
 |succ d ih=>
  intro j hj hd hK;rw[F321.sL15];rw[show decide ((i:Int)<=(j:Int))=true by simp;omega,aO];refine A.ld rfl ah (A.ld rfl ah (eG ?_));rw[bX];refine aR (λhl=> ?_) λhl=> ?_
  ·simp only[MX,Mr]at hl;rw[show ax ((j:Int)-1)=((j-1:Nat):Int) by rw[bq ah ah];omega];refine ih (j-1) ah ah λj' h1 h2 h3 h4=>hK j' ah h2 (λk h5 h6=> ?_) h4;by_cases hk:k=j
   ·subst hk;omega
   ·exact h3 k h5 ah
  ·simp only[Oi,Mu]at hl;exact hK j (Mb _) ah (λk h1 h2=>ah) (.inr ah)
def Ky{b n a c j:Nat}{sp:List Value}{K:KK}{bk:Nat}{g:Nat->Int}{h:aI}(A:cf .u32 h b n g sp)(hj:j<n)(ha:a<n)(hn:n<=LB/4):
  ∀(d i:Nat),i+d=j+1->(∀i',i<=i'->i'<=j+1->(∀k,i<=k->k<i'->g k<=g a)->(i'=j+1\/g a<g i')->F320.wk5 bk (some (aw b)) n c a i' j h K)->
   F320.wL1003 (d+1) bk (some (aw b)) n c a i j h K:=by
 intro d;have e:LB=140737488355328:=rfl
 induction d with
 |zero=>
  intro i hd hK;rw[F320.sL1003];rw[show decide ((i:Int)<=(j:Int))=false by simp;omega];exact hK i (Mb _) ah (λk h1 h2=>ah) (.inl ah)
 |succ d ih=>
  intro i hd hK;rw[F320.sL1003];rw[show decide ((i:Int)<=(j:Int))=true by simp;omega,aO];refine A.ld rfl ah (A.ld rfl ah (eG ?_));rw[bX];refine aR (λhl=> ?_) λhl=> ?_
  ·simp only[MX,Mr]at hl;rw[show ax ((i:Int)+1)=((i+1:Nat):Int) by rw[bq ah ah];omega];refine ih (i+1) ah λi' h1 h2 h3 h4=>hK i' ah h2 (λk h5 h6=> ?_) h4;by_cases hk:k=i
   ·subst hk;omega
   ·exact h3 k ah h6
  ·simp only[Oi,Mu]at hl;exact hK i (Mb _) ah (λk h1 h2=>ah) (.inr ah)
def KN{b n a c i e:Nat}{sp:List Value}{K:KK}{bk:Nat}{g:Nat->Int}{h:aI}(A:cf .u32 h b n g sp)(he:e<=n)(ha:a<n)(hn:n<=LB/4)(hi:1<=i):
  ∀(d j:Nat),j<e->j+1=i+d->(∀j',j'<=j->i<=j'+1->(∀k,j'<k->k<=j->g a<g k)->(j'+1=i\/g j'<=g a)->F320.wk7 bk (some (aw b)) n c a i j' h K)->
   F320.wL5 (d+1) bk (some (aw b)) n c a i j h K:=by
 intro d;have f:LB=140737488355328:=rfl
 induction d with
 |zero=>
  intro j hj hd hK;rw[F320.sL5];rw[show decide ((i:Int)<=(j:Int))=false by simp;omega];exact hK j (Mb _) ah (λk h1 h2=>ah) (.inl ah)
 |succ d ih=>
  intro j hj hd hK;rw[F320.sL5];rw[show decide ((i:Int)<=(j:Int))=true by simp;omega,aO];refine A.ld rfl ah (A.ld rfl ah (eG ?_));rw[bX];refine aR (λhl=> ?_) λhl=> ?_
  ·simp only[Mu]at hl;rw[show ax ((j:Int)-1)=((j-1:Nat):Int) by rw[bq ah ah];omega];refine ih (j-1) ah ah λj' h1 h2 h3 h4=>hK j' ah h2 (λk h5 h6=> ?_) h4;by_cases hk:k=j
   ·subst hk;omega
   ·exact h3 k h5 ah
  ·simp only[Mr]at hl;exact hK j (Mb _) ah (λk h1 h2=>ah) (.inr ah)
def Pt(a e i j:Nat)(g:Nat->Int):Prop:=(∀k,a<k->k<i->g k<g a)/\(∀k,j<k->k<e->g a<=g k)
def yY(a e m:Nat)(g:Nat->Int):Prop:=(∀k,a<=k->k<m->g k<=g m)/\(∀k,m<k->k<e->g m<=g k)
def Pt.ext(H:Pt a e i j g)(hi: ∀k,i<=k->k<i'->g k<g a)(hj: ∀k,j'<k->k<=j->g a<=g k):Pt a e i' j' g:=
 ⟨λk h1 h2=>by
  by_cases h:k<i
  ·exact H.1 k h1 h
  ·exact hi k ah h2,λk h1 h2=>by
  by_cases h:j<k
  ·exact H.2 k h h2
  ·exact hj k h1 ah⟩
def Pt.fin(H:Pt a e i j g)(ha:a<=j)(hi:i=j+1):yY a e j (swp g j a):=by
 subst hi;refine⟨λk h1 h2=> ?_,λk h1 h2=> ?_⟩
 ·rw[jp];by_cases hk:k=a
  ·subst hk;rw[pX];exact Oo (H.1 j h2 ah)
  ·rw[dN g ah hk];exact Oo (H.1 k ah ah)
 ·rw[jp,dN g ah ah];exact H.2 k h1 h2
def Pt.swap(H:Pt a e i j g)(ha:a<i)(d:i<j)(hi:g a<=g i)(hj:g j<g a):Pt a e (i+1) (j-1) (swp g i j):=by
 refine⟨λk h1 h2=> ?_,λk h1 h2=> ?_⟩
 ·rw[dN g (k:=a) ah ah];by_cases hk:k=i
  ·subst hk;rw[jp];exact hj
  ·rw[dN g hk ah];exact H.1 k h1 ah
 ·rw[dN g (k:=a) ah ah];by_cases hk:k=j
  ·subst hk;rw[pX];exact hi
  ·rw[dN g ah hk];exact H.2 k ah h2
def JH{b n a c:Nat}{sp:List Value}{K:KK}{h:aI}{j:Nat}{g:Nat->Int}(A:cf .u32 h b n g sp)(hj:j<n)(ha:a<=j)(hK: ∀h',cf .u32 h' b n (swp g j a) sp->aM [b] h h'->K (.tuple #[ap (j:Int),aB]) h'):
  F321.wk21 (some (aw b)) n c a j h K:=by
 unfold F321.wk21;refine A.ld rfl ah (A.ld rfl ah (A.sto rfl ah λk1 A1 O1=>⟨rfl,rfl,A1.sto rfl ah λk2 A2 O2=> ?_⟩));exact hK k2 A2 (O1.trans O2 ak)
def Ib{b n a e c:Nat}{sp:List Value}{K:KK}(he:e<=n)(hn:n<=LB/4):
  ∀(d i j:Nat) (g:Nat->Int) (h:aI),cf .u32 h b n g sp->a<i->i<=j+1->j<e->j+1<=i+d->Pt a e i j g->
   (∀h' m g',cf .u32 h' b n g' sp->dA a e g g'->yY a e m g'->a<=m->m<e->aM [b] h h'->K (.tuple #[ap (m:Int),aB]) h')->F321.wL13 (d+1) (some (aw b)) n c a i j h K:=by
 intro d;have hLB:LB=140737488355328:=rfl
 induction d using Nat.strongRecOn with
 |_ d ih=>
  intro i j g h A ha hij hj hd P hK;rw[F321.sL13];refine⟨_,HQ A ah ah hn (j+1-i) i ah λi' h1 h2 h3 h4=> ?_⟩;unfold F321.wk15;refine⟨_,Ki A he ah hn ah (j+1-i') j hj ah λj' h5 h6 h7 h8=> ?_⟩;have P':=P.ext h3 h7;unfold F321.wk17;refine aR (λhc=> ?_) λhc=> ?_
  ·simp only[Mu]at hc;exact JH A ah ah λh' A' O'=>hK h' j' _ A' (dA.one g ah ah ah ah) (P'.fin ah ah) ah ah O'
  ·simp only[Mr]at hc
   have q1:g a<=g i':=by
                 rcases h4 with h|h
                 ·omega
                 ·exact h
   have q2:g j'<g a:=by
                 rcases h8 with h|h
                 ·omega
                 ·exact h
   have hne:i'≠j':=λe=>by subst e;omega
   refine A.ld rfl ah (A.ld rfl ah (A.sto rfl ah λk1 A1 O1=>⟨rfl,rfl,A1.sto rfl ah λk2 A2 O2=> ?_⟩));have A2':cf .u32 k2 b n (swp g i' j') sp:=A2;rw[show ax ((i':Int)+1)=((i'+1:Nat):Int) by rw[bq ah ah];omega,show ax ((j':Int)-1)=((j'-1:Nat):Int) by rw[bq ah ah];omega];cases d with
   |zero=>omega
   |succ d=>
    exact ih d ah (i'+1) (j'-1) _ k2 A2' ah ah ah ah (P'.swap ah ah q1 q2) λh' m g' A' S' R' m1 m2 O'=>hK h' m g' A' ((dA.one g ah ah ah ah).trans S') R' m1 m2 ((O1.trans O2 ak).trans O' ak)
def AS{b n a e c:Nat}{sp:List Value}{K:KK}{h:aI}{g:Nat->Int}{pv:Nat}(A:cf .u32 h b n g sp)(he:e<=n)(ha:a+1<e)(hp:a<=pv)(hp':pv<e)(hn:n<=LB/4)
  (hK: ∀h' m g' f,cf .u32 h' b n g' sp->dA a e g g'->yY a e m g'->a<=m->m<e->aM [b] h h'->K (.tuple #[ap (m:Int),aD f]) h'):
  Cl 321 [.slice (some (aw b)) n c,ap a,ap e,ap pv] h K:=by
 refine F321.spec _ _ _ _ _ _ h K ?_;have hLB:LB=140737488355328:=rfl;refine A.ld rfl ah (A.ld rfl ah (A.sto rfl ah λk1 A1 O1=>⟨rfl,rfl,A1.sto rfl ah λk2 A2 O2=> ?_⟩));have A2':cf .u32 k2 b n (swp g a pv) sp:=A2;clear A2;have S0:dA a e g (swp g a pv):=dA.one g ah ah ah ah;have O12:=O1.trans O2 ak;rw[show ax ((a:Int)+1)=((a+1:Nat):Int) by rw[bq ah ah];omega,show ax ((e:Int)-1)=((e-1:Nat):Int) by rw[bq ah ah];omega];generalize swp g a pv=g2 at A2' S0;unfold F321.wk3;refine⟨_,JB A2' ah ah hn (e-1+1-(a+1)) (a+1) ah λi' h1 h2 h3 h4=> ?_⟩;unfold F321.wk5;refine⟨_,HY A2' he ah hn ah (e-1+1-i') (e-1) ah ah λj' h5 h6 h7 h8=> ?_⟩;have P':Pt a e i' j' g2:=Pt.ext (i:=a+1) (j:=e-1) ⟨λk _ _=>ah,λk _ _=>ah⟩ h3 h7;unfold F321.wk7;refine aR (λhc=> ?_) λhc=> ?_
 ·simp only[Mu]at hc;refine A2'.ld rfl ah (A2'.ld rfl ah (A2'.sto rfl ah λk3 A3 O3=>⟨rfl,rfl,A3.sto rfl ah λk4 A4 O4=> ?_⟩));exact hK k4 j' (swp g2 j' a) true A4 (S0.trans (dA.one g2 ah ah ah ah)) (P'.fin ah ah) ah ah ((O12.trans O3 ak).trans O4 ak)
 ·simp only[Mr]at hc
  have q1:g2 a<=g2 i':=by
                 rcases h4 with h|h
                 ·omega
                 ·exact h
  have q2:g2 j'<g2 a:=by
                 rcases h8 with h|h
                 ·omega
                 ·exact h
  have hne:i'≠j':=λe=>by subst e;omega
  refine A2'.ld rfl ah (A2'.ld rfl ah (A2'.sto rfl ah λk3 A3 O3=>⟨rfl,rfl,A3.sto rfl ah λk4 A4 O4=> ?_⟩));have A4':cf .u32 k4 b n (swp g2 i' j') sp:=A4;rw[show ax ((i':Int)+1)=((i'+1:Nat):Int) by rw[bq ah ah];omega,show ax ((j':Int)-1)=((j'-1:Nat):Int) by rw[bq ah ah];omega];unfold F321.wk13;exact⟨_,Ib he hn e (i'+1) (j'-1) _ k4 A4' ah ah ah ah (P'.swap ah ah q1 q2) λh' m g' A' S' R' m1 m2 O'=>hK h' m g' false A' ((S0.trans (dA.one g2 ah ah ah ah)).trans S') R' m1 m2 (((O12.trans O3 ak).trans O4 ak).trans O' ak)⟩
def Pe(a e i j:Nat)(g:Nat->Int):Prop:=(∀k,a<k->k<i->g k<=g a)/\(∀k,j<k->k<e->g a<g k)
def Pe.ext(H:Pe a e i j g)(hi: ∀k,i<=k->k<i'->g k<=g a)(hj: ∀k,j'<k->k<=j->g a<g k):Pe a e i' j' g:=
 ⟨λk h1 h2=>by
  by_cases h:k<i
  ·exact H.1 k h1 h
  ·exact hi k ah h2,λk h1 h2=>by
  by_cases h:j<k
  ·exact H.2 k h h2
  ·exact hj k h1 ah⟩
def Pe.swap(H:Pe a e i j g)(ha:a<i)(d:i<j)(hi:g a<g i)(hj:g j<=g a):Pe a e (i+1) (j-1) (swp g i j):=by
 refine⟨λk h1 h2=> ?_,λk h1 h2=> ?_⟩
 ·rw[dN g (k:=a) ah ah];by_cases hk:k=i
  ·subst hk;rw[jp];exact hj
  ·rw[dN g hk ah];exact H.1 k h1 ah
 ·rw[dN g (k:=a) ah ah];by_cases hk:k=j
  ·subst hk;rw[pX];exact hi
  ·rw[dN g ah hk];exact H.2 k ah h2
def HM{b n a e c:Nat}{sp:List Value}{K:KK}(he:e<=n)(hn:n<=LB/4)(v:Int):
  ∀(d i j:Nat) (g:Nat->Int) (h:aI),cf .u32 h b n g sp->a<i->i<=j+1->j<e->j+1<=i+d->Pe a e i j g->g a=v->
   (∀h' m g',cf .u32 h' b n g' sp->dA a e g g'->(∀k,a<=k->k<m->g' k<=v)->(∀k,m<=k->k<e->v<g' k)->a<m->m<=e->aM [b] h h'->K (ap (m:Int)) h')->F320.wL3 (d+1) (some (aw b)) n c a i j h K:=by
 intro d;have hLB:LB=140737488355328:=rfl
 induction d using Nat.strongRecOn with
 |_ d ih=>
  intro i j g h A ha hij hj hd P hv hK;rw[F320.sL3];refine⟨_,Ky A ah ah hn (j+1-i) i ah λi' h1 h2 h3 h4=> ?_⟩;unfold F320.wk5;refine⟨_,KN A he ah hn ah (j+1-i') j hj ah λj' h5 h6 h7 h8=> ?_⟩;have P':=P.ext h3 h7;unfold F320.wk7;refine aR (λhc=> ?_) λhc=> ?_
  ·simp only[Mu]at hc;refine hK h i' g A (.refl g) (λk k1 k2=> ?_) (λk k1 k2=> ?_) ah ah (aM.refl _ _)
   ·by_cases hk:k=a
    ·subst hk;omega
    ·have:=P'.1 k ah k2;omega
   ·have:=P'.2 k ah k2;omega
  ·simp only[Mr]at hc
   have q1:g a<g i':=by
                 rcases h4 with h|h
                 ·omega
                 ·exact h
   have q2:g j'<=g a:=by
                 rcases h8 with h|h
                 ·omega
                 ·exact h
   have hne:i'≠j':=λe=>by subst e;omega
   refine A.ld rfl ah (A.ld rfl ah (A.sto rfl ah λk1 A1 O1=>⟨rfl,rfl,A1.sto rfl ah λk2 A2 O2=> ?_⟩));have A2':cf .u32 k2 b n (swp g i' j') sp:=A2;rw[show ax ((i':Int)+1)=((i'+1:Nat):Int) by rw[bq ah ah];omega,show ax ((j':Int)-1)=((j'-1:Nat):Int) by rw[bq ah ah];omega];cases d with
   |zero=>omega
   |succ d=>
    exact ih d ah (i'+1) (j'-1) _ k2 A2' ah ah ah ah (P'.swap ah ah q1 q2) (by rw[dN g ah ah];exact hv)
     λh' m g' A' S' R1 R2 m1 m2 O'=>hK h' m g' A' ((dA.one g ah ah ah ah).trans S') R1 R2 m1 m2 ((O1.trans O2 ak).trans O' ak)
def Gr{b n a e c:Nat}{sp:List Value}{K:KK}{h:aI}{g:Nat->Int}{pv:Nat}(A:cf .u32 h b n g sp)(he:e<=n)(ha:a+1<e)(hp:a<=pv)(f:pv<e)(hn:n<=LB/4)
  (hK: ∀h' m g',cf .u32 h' b n g' sp->dA a e g g'->(∀k,a<=k->k<m->g' k<=g pv)->(∀k,m<=k->k<e->g pv<g' k)->a<m->m<=e->aM [b] h h'->K (ap (m:Int)) h'):
  Cl 320 [.slice (some (aw b)) n c,ap a,ap e,ap pv] h K:=by
 refine F320.spec _ _ _ _ _ _ h K ?_;have d:LB=140737488355328:=rfl;refine A.ld rfl ah (A.ld rfl ah (A.sto rfl ah λk1 A1 O1=>⟨rfl,rfl,A1.sto rfl ah λk2 A2 O2=> ?_⟩));have A2':cf .u32 k2 b n (swp g a pv) sp:=A2;clear A2;have S0:dA a e g (swp g a pv):=dA.one g ah ah ah ah;have O12:=O1.trans O2 ak;rw[show ax ((a:Int)+1)=((a+1:Nat):Int) by rw[bq ah ah];omega,show ax ((e:Int)-1)=((e-1:Nat):Int) by rw[bq ah ah];omega];have hv:=jp g a pv;generalize swp g a pv=g2 at A2' S0 hv;unfold F320.wk3
 exact⟨_,HM he hn (g pv) e (a+1) (e-1) g2 k2 A2' ah ah ah ah ⟨λk _ _=>ah,λk _ _=>ah⟩ hv
  λh' m g' A' S' R1 R2 m1 m2 O'=>hK h' m g' A' (S0.trans S') R1 R2 m1 m2 (O12.trans O' ak)⟩
def vG{b n c:Nat}{sp:List Value}{K:KK}{h:aI}{B:Nat}{s:Int}{g:Nat->Int}{i j:Nat}(A:cf .u32 h b n g sp)(AB:At h B [ap s])(hB:B≠b)(hi:i<n)(hj:j<n)
  (hK: ∀h' s' p q,(p=i/\q=j)\/(p=j/\q=i)->cf .u32 h' b n g sp->At h' B [ap s']->aM [B] h h'->K (.tuple #[ap ((p:Nat):Int),ap ((q:Nat):Int)]) h'):
  Cl 366 [.slice (some (aw b)) n c,ap i,ap j,au (aw B)] h K:=by
 refine F366.spec ?_;refine A.ld rfl ah (A.ld rfl ah (eG ?_));rw[bX];refine aR (λhl=> ?_) λhl=> ?_
 ·rw[show rd h (aw B)=some (ap s)from AB.rd 0,bB,aL];refine aU AB ak rfl λh1 A1 O1 _=> ?_;exact hK h1 _ j i (.inr ⟨rfl,rfl⟩) (A.only O1 (by simpa using Ne.symm hB)) A1 O1
 ·exact hK h s i j (.inl ⟨rfl,rfl⟩) A AB (aM.refl _ _)
def Fu(A:cf .u32 h b n g sp)(AB:At h B [ap s])(hB:B≠b)(hi:i<n)(hj:j<n)(hk:k<n)
  (hK: ∀h' s' m,m=i\/m=j\/m=k->cf .u32 h' b n g sp->At h' B [ap s']->aM [B] h h'->K (ap ((m:Nat):Int)) h'):
  Cl 347 [.slice (some (aw b)) n c,ap i,ap j,ap k,au (aw B)] h K:=by
 refine F347.spec ?_;refine vG A AB hB hi hj λh1 s1 p q l A1 AB1 O1=>⟨_,_,rfl,?_⟩;refine vG A1 AB1 hB ah hk λh2 s2 p2 q2 f A2 AB2 O2=>⟨_,_,rfl,?_⟩;refine vG A2 AB2 hB ah ah λh3 s3 p3 q3 d A3 AB3 O3=>⟨_,_,rfl,?_⟩;exact hK h3 s3 q3 ah A3 AB3 ((O1.trans O2 ak).trans O3 ak)
def Be{b n c:Nat}{sp:List Value}{K:KK}{h:aI}{B:Nat}{s:Int}{g:Nat->Int}{i:Nat}(A:cf .u32 h b n g sp)(AB:At h B [ap s])(hB:B≠b)(hi:1<=i)(f:i+1<n)(hn:n<=LB/4)
  (hK: ∀h' s' m,i<=m+1->m<=i+1->cf .u32 h' b n g sp->At h' B [ap s']->aM [B] h h'->K (ap ((m:Nat):Int)) h'):
  Cl 346 [.slice (some (aw b)) n c,ap i,au (aw B)] h K:=by
 refine F346.spec ?_;have d:LB=140737488355328:=rfl;rw[show ax ((i:Int)+1)=((i+1:Nat):Int) by rw[bq ah ah];omega,show ax ((i:Int)-1)=((i-1:Nat):Int) by rw[bq ah ah];omega];exact Fu A AB hB ah ah ah λh' s' m hm A' AB' O'=>by rw[bB];exact hK h' s' m ah ah A' AB' O'
def JX{b n a e c:Nat}{sp:List Value}{K:KK}{h:aI}{g:Nat->Int}(A:cf .u32 h b n g sp)(he:e<=n)(ha:a+12<e)(hn:n<=LB/4)
  (hK: ∀h' pv (t:Int),cf .u32 h' b n g sp->a<=pv->pv<e->aM [] h h'->K (.tuple #[ap ((pv:Nat):Int),ap t]) h'):
  Cl 316 [.slice (some (aw b)) n c,ap a,ap e] h K:=by
 refine F316.spec ?_;have u:LB=140737488355328:=rfl;obtain⟨d,rfl⟩: ∃d,e=a+d:=⟨e-a,ah⟩;refine aW λh1 A1 O1 z1=>⟨by decide,by decide,by decide,?_⟩;rw[show ax (((a+d:Nat):Int)-(a:Int))=(d:Int) by rw[bq ah ah];omega];have w0:ax (Int.tdiv (d:Int) 4)=((d/4:Nat):Int):=by rw[NT ah,bq ah ah];omega
 have wm: ∀q:Nat,q<=3->ax ((a:Int)+ax (((d/4:Nat):Int)*(q:Int)))=((a+d/4*q:Nat):Int):=λq hq=>by
  have:d/4*q<=d:=by have:=Oq (d/4) hq;omega
  have e1:((d/4:Nat):Int)*(q:Int)=((d/4*q:Nat):Int):=ak;rw[e1];generalize d/4*q=z at this;rw[bq (x:=(z:Int)) ah ah,bq ah ah];omega
 have w1:=wm 1 ah;have w2:=wm 2 ah;have w3:=wm 3 ah;rw[w0,show(1:Int)=((1:Nat):Int)from rfl,show(2:Int)=((2:Nat):Int)from rfl,show(3:Int)=((3:Nat):Int)from rfl,w1,w2,w3];rw[show decide ((d:Int)>=8)=true by simp;omega,aO];have A0:cf .u32 h1 b n g sp:=A.only O1 ak;have hb:=A.lt
 have fin: ∀(h2:aI) (s:Int) (m:Nat),a<=m->m<a+d->cf .u32 h2 b n g sp->At h2 h.size [ap s]->aM [] h h2->F316.wk12 (aw h.size) m h2 K:=by intro h2 s m m1 m2 A2 AB2 O2;unfold F316.wk12;rw[show rd h2 (aw h.size)=some (ap s)from AB2.rd 0,bB];refine aR (λ_=>hK h2 m _ A2 m1 m2 O2) λ_=>aR (λ_=>hK h2 m _ A2 m1 m2 O2) λ_=>hK h2 m _ A2 m1 m2 O2
 have f: ∀(h2:aI) (s:Int) (i j k:Nat),a<=i->i<a+d->a<=j->j<a+d->a<=k->k<a+d->cf .u32 h2 b n g sp->At h2 h.size [ap s]->aM [] h h2->F316.wk11 (some (aw b)) n c (aw h.size) i j k h2 K:=by intro h2 s i j k i1 i2 j1 j2 o l A2 AB2 O2;unfold F316.wk11;refine Fu A2 AB2 ah ah ah ah λh3 s3 m hm A3 AB3 O3=> ?_;rw[bB];exact fin h3 s3 m ah ah A3 AB3 (O2.trans O3 ak)
 refine aR (λhc=> ?_) λhc=> ?_
 ·simp only[Mu]at hc;refine Be A0 A1 ah ah ah hn λh2 s2 m2 p1 p2 A2 AB2 O2=> ?_;rw[bB];refine Be A2 AB2 ah ah ah hn λh3 s3 m3 p3 p4 A3 AB3 O3=> ?_;rw[bB];refine Be A3 AB3 ah ah ah hn λh4 s4 m4 p5 p6 A4 AB4 O4=> ?_;rw[bB];exact f h4 s4 m2 m3 m4 ah ah ah ah ah ah A4 AB4 (((O1.trans O2 ak).trans O3 ak).trans O4 ak)
 ·exact f h1 0 _ _ _ ah ah ah ah ah ah A0 A1 O1
def Lb(a e:Nat)(g:Nat->Int):Prop:=a=0\/ ∀k,a<=k->k<e->g (a-1)<=g k
def Lb.swp(H:Lb a e g)(S:dA a e g g'):Lb a e g':=by
 rcases H with h|h
 ·exact .inl h
 ·by_cases h0:a=0
  ·exact .inl h0
  ·refine .inr ?_;rw[S.out (k:=a-1) (.inl ah)];exact S.all h
def fX.snoc(H:fX a i g)(h:g (i-1)<=g i)(ha:a<i):fX a (i+1) g:=λp q h1 h2 h3=>by
 by_cases hq:q=i
 ·subst hq;by_cases hp:p=q-1
  ·subst hp;exact h
  ·exact OA (H p (q-1) h1 ah ah) h
 ·exact H p q h1 h2 ah
def fX.out(H:fX a i g)(S:dA i e g g'):fX a i g':=λp q h1 h2 h3=>by rw[S.out (k:=p) (.inl ah),S.out (k:=q) (.inl h3)];exact H p q h1 h2 h3
def Dj{b n a e c:Nat}{sp:List Value}{K:KK}{bk:Nat}{s:Int}(he:e<=n)(hn:n<=LB/4){i:Nat}: ∀(d j:Nat) (g:Nat->Int) (h:aI),cf .u32 h b n g sp->i<j->j+d=e->
  (∀h' g',cf .u32 h' b n g' sp->dA i e g g'->aM [b] h h'->F318.wL3 bk (some (aw b)) n c a e i (ax (s+1)) h' K)->F318.wL20 (d+1) bk (some (aw b)) n c a e i s j h K:=by
 intro d;have f:LB=140737488355328:=rfl
 induction d with
 |zero=>
  intro j g h A hj hd hK;rw[F318.sL20];rw[show decide ((j:Int)<(e:Int))=false by simp;omega];exact hK h g A (.refl g) (aM.refl _ _)
 |succ d ih=>
  intro j g h A hj hd hK;rw[F318.sL20];rw[show decide ((j:Int)<(e:Int))=true by simp;omega,aO,show ax ((j:Int)-1)=((j-1:Nat):Int) by rw[bq ah ah];omega];refine A.ld rfl ah (A.ld rfl ah (eG ?_));rw[bX];refine aR (λhl=> ?_) λhl=> ?_
  ·exact hK h g A (.refl g) (aM.refl _ _)
  ·refine A.ld rfl ah (A.ld rfl ah (A.sto rfl ah λk1 A1 O1=>⟨rfl,rfl,rfl,A1.sto rfl ah λk2 A2 O2=> ?_⟩));have A2':cf .u32 k2 b n (swp g j (j-1)) sp:=A2;rw[show ax ((j:Int)+1)=((j+1:Nat):Int) by rw[bq ah ah];omega];exact ih (j+1) _ k2 A2' ah ah λh' g' A' S' O'=>hK h' g' A' ((dA.one g ah ah ah ah).trans S') ((O1.trans O2 ak).trans O' ak)
def vO{b n a e c:Nat}{sp:List Value}{K:KK}{bk:Nat}{s:Int}(he:e<=n)(hn:n<=LB/4){i:Nat}{g:Nat->Int}{h:aI}(A:cf .u32 h b n g sp)(hi:i<e)
  (hK: ∀h' g',cf .u32 h' b n g' sp->dA i e g g'->aM [b] h h'->F318.wL3 bk (some (aw b)) n c a e i (ax (s+1)) h' K):F318.wk18 bk (some (aw b)) n c a e i s h K:=by
 have d:LB=140737488355328:=rfl;unfold F318.wk18;rw[show ax ((e:Int)-(i:Int))=((e-i:Nat):Int) by rw[bq ah ah];omega,show ax ((i:Int)+1)=((i+1:Nat):Int) by rw[bq ah ah];omega];refine aR (λhc=> ?_) λhc=> ?_
 ·unfold F318.wk20;exact⟨_,Dj he hn (e-(i+1)) (i+1) g h A ah ah hK⟩
 ·exact hK h g A (.refl g) (aM.refl _ _)
def Hy{b n a e c:Nat}{sp:List Value}{K:KK}{bk:Nat}{s:Int}(he:e<=n)(hn:n<=LB/4){i:Nat}(hi:i<e)(k:a<i): ∀(j:Nat) (g:Nat->Int) (h:aI),cf .u32 h b n g sp->Lb a e g->yC a (i-1) j g->a<=j->j<=i-1->
  (∀h' g',cf .u32 h' b n g' sp->dA a e g g'->fX a i g'->aM [b] h h'->F318.wL3 bk (some (aw b)) n c a e i (ax (s+1)) h' K)->F318.wL14 (j+1) bk (some (aw b)) n c a e i s j h K:=by
 intro j;have d:LB=140737488355328:=rfl
 induction j with
 |zero=>
  intro g h A L I ha hj hK;rw[F318.sL14];rw[show decide (((0:Nat):Int)>=1)=false by simp];have R:=I.stop (.inl ah);rw[show i-1+1=i by omega]at R;exact vO he hn A hi λh' g' A' S' O'=>hK h' g' A' (S'.mono ah (Mb _)) (R.out S') O'
 |succ j ih=>
  intro g h A L I ha hj hK;rw[F318.sL14];rw[show decide (((j+1:Nat):Int)>=1)=true by simp;omega,aO,show ax (((j+1:Nat):Int)-1)=(j:Int) by rw[bq ah ah];omega];refine A.ld rfl ah (A.ld rfl ah (eG ?_));rw[bX];refine aR (λhl=> ?_) λhl=> ?_
  ·simp only[MX,Mr]at hl;have R:=I.stop (.inr (by rw[show j+1-1=j by omega];omega));rw[show i-1+1=i by omega]at R;exact vO he hn A hi λh' g' A' S' O'=>hK h' g' A' (S'.mono ah (Mb _)) (R.out S') O'
  ·simp only[Oi,Mu]at hl
   have f:a<=j:=by
    rcases Nat.lt_or_ge j a with h|h
    ·have:a=j+1:=ah;rcases L with L|L
     ·omega
     ·have:=L (j+1) ah ah;rw[show a-1=j by omega]at this;omega
    ·exact h
   refine A.ld rfl ah (A.ld rfl ah (A.sto rfl ah λk1 A1 O1=>⟨rfl,rfl,rfl,A1.sto rfl ah λk2 A2 O2=> ?_⟩));have A2':cf .u32 k2 b n (swp g (j+1) j) sp:=A2;have S2:dA a e g (swp g (j+1) j):=dA.one g ah ah ah ah;have I2:=I.step ah hj (by rw[show j+1-1=j by omega];exact hl);rw[show j+1-1=j by omega]at I2;exact ih _ k2 A2' (L.swp S2) I2 ah ah λh' g' A' S' R' O'=>hK h' g' A' (S2.trans S') R' ((O1.trans O2 ak).trans O' ak)
def KI{b n a e c:Nat}{sp:List Value}{K:KK}{bk:Nat}{s:Int}{g:Nat->Int}{h:aI}(A:cf .u32 h b n g sp)(he:e<=n)(hn:n<=LB/4): ∀(d i:Nat),i+d=e->a<i->fX a i g->
  (∀i',a<i'->i'<=e->fX a i' g->(i'=e\/g i'<g (i'-1))->F318.wk7 bk (some (aw b)) n c a e i' s h K)->F318.wL5 (d+1) bk (some (aw b)) n c a e i s h K:=by
 intro d;have f:LB=140737488355328:=rfl
 induction d with
 |zero=>
  intro i hd ha R hK;rw[F318.sL5];rw[show decide ((i:Int)<(e:Int))=false by simp;omega];exact hK i ha ah R (.inl ah)
 |succ d ih=>
  intro i hd ha R hK;rw[F318.sL5];rw[show decide ((i:Int)<(e:Int))=true by simp;omega,aO,show ax ((i:Int)-1)=((i-1:Nat):Int) by rw[bq ah ah];omega];refine A.ld rfl ah (A.ld rfl ah (eG ?_));rw[bX];refine aR (λhl=> ?_) λhl=> ?_
  ·simp only[MX,Mr]at hl;rw[show ax ((i:Int)+1)=((i+1:Nat):Int) by rw[bq ah ah];omega];exact ih (i+1) ah ah (R.snoc ah ha) hK
  ·simp only[Oi,Mu]at hl;exact hK i ha ah R (.inr hl)
def Ia{b n a e c:Nat}{sp:List Value}{K:KK}(he:e<=n)(hn:n<=LB/4): ∀(t s i:Nat) (g:Nat->Int) (h:aI),cf .u32 h b n g sp->Lb a e g->s+t=5->a<i->i<=e->fX a i g->
  (∀h' g' r,cf .u32 h' b n g' sp->dA a e g g'->(r=true->fX a e g')->aM [b] h h'->K (aD r) h')->F318.wL3 (t+1) (some (aw b)) n c a e i s h K:=by
 intro t;have hLB:LB=140737488355328:=rfl
 induction t with
 |zero=>
  intro s i g h A L hs ha hi R hK;rw[F318.sL3];rw[show decide ((s:Int)<5)=false by simp;omega];exact hK h g false A (.refl g) ak (aM.refl _ _)
 |succ t ih=>
  intro s i g h A L hs ha hi R hK;rw[F318.sL3];rw[show decide ((s:Int)<5)=true by simp;omega,aO];unfold F318.wk5;refine⟨_,KI A he hn (e-i) i ah ha R λi' ha' hi' R' hx=> ?_⟩;unfold F318.wk7;refine aR (λhc=> ?_) λhc=> ?_
  ·simp only[Oe]at hc;have:i'=e:=ah;subst this;exact hK h g true A (.refl g) (λ_=>R') (aM.refl _ _)
  ·have hne:i'≠e:=λe'=>by subst e';simp at hc
   have hlt:g i'<g (i'-1):=by
                     rcases hx with h|h
                     ·omega
                     ·exact h
   refine aR (λhc=> ?_) λhc=> ?_
   ·exact hK h g false A (.refl g) ak (aM.refl _ _)
   ·rw[show ax ((i':Int)-1)=((i'-1:Nat):Int) by rw[bq ah ah];omega];refine A.ld rfl ah (A.ld rfl ah (A.sto rfl ah λk1 A1 O1=>⟨rfl,rfl,rfl,A1.sto rfl ah λk2 A2 O2=> ?_⟩));have A2':cf .u32 k2 b n (swp g i' (i'-1)) sp:=A2;have S2:dA a e g (swp g i' (i'-1)):=dA.one g ah ah ah ah;have O12:=O1.trans O2 ak
    have fy: ∀h' g',cf .u32 h' b n g' sp->dA a e (swp g i' (i'-1)) g'->fX a i' g'->aM [b] k2 h'->F318.wL3 (t+1) (some (aw b)) n c a e i' (ax ((s:Int)+1)) h' K:=by intro h' g' A' S' R'' O';rw[show ax ((s:Int)+1)=((s+1:Nat):Int) by rw[bq ah ah];omega];exact ih (s+1) i' g' h' A' (L.swp (S2.trans S')) ah ha' hi' R'' λh'' g'' r A'' S'' R3 O''=>hK h'' g'' r A'' ((S2.trans S').trans S'') R3 ((O12.trans O' ak).trans O'' ak)
    rw[show ax ((i':Int)-(a:Int))=((i'-a:Nat):Int) by rw[bq ah ah];omega];refine aR (λhc=> ?_) λhc=> ?_
    ·unfold F318.wk14;refine⟨_,Hy he hn ah ha' (i'-1) _ k2 A2' (L.swp S2) (yC.start λp q h1 h2 h3=> ?_) ah ah fy⟩;rw[dN g ah ah,dN g ah ah];exact R' p q h1 h2 ah
    ·simp only[Mr]at hc;exact vO he hn A2' ah λh' g' A' S' O'=>fy h' g' A' (S'.mono ah (Mb _)) (fX.single g' ah) O'
def GD{b n a e c:Nat}{sp:List Value}{K:KK}{h:aI}{g:Nat->Int}(A:cf .u32 h b n g sp)(L:Lb a e g)(he:e<=n)(ha:a<e)(hn:n<=LB/4)
  (hK: ∀h' g' r,cf .u32 h' b n g' sp->dA a e g g'->(r=true->fX a e g')->aM [b] h h'->K (aD r) h'):Cl 318 [.slice (some (aw b)) n c,ap a,ap e] h K:=by
 refine F318.spec _ _ _ _ _ h K ?_;have d:LB=140737488355328:=rfl;unfold F318.wk3;rw[show ax ((a:Int)+1)=((a+1:Nat):Int) by rw[bq ah ah];omega];exact⟨_,Ia he hn 5 0 (a+1) g h A L ah ah ah (fX.single g ah) hK⟩
def yY.left(H:yY a e m g)(S:dA a m g g'):yY a e m g':=by
 refine⟨?_,λk h1 h2=> ?_⟩
 ·rw[S.out (k:=m) (.inr (Mb _))];exact S.all (Q:=λv=>v<=g m) H.1
 ·rw[S.out (k:=m) (.inr (Mb _)),S.out (k:=k) (.inr ah)];exact H.2 k h1 h2
def yY.right(H:yY a e m g)(S:dA (m+1) e g g'):yY a e m g':=by
 refine⟨λk h1 h2=> ?_,λk h1 h2=> ?_⟩
 ·rw[S.out (k:=m) (.inl ah),S.out (k:=k) (.inl ah)];exact H.1 k h1 h2
 ·rw[S.out (k:=m) (.inl ah)];exact S.all (Q:=λv=>g m<=v) (λk h1 h2=>H.2 k ah h2) k ah h2
def yY.join(H:yY a e m g)(L:fX a m g)(R:fX (m+1) e g):fX a e g:=λp q h1 h2 h3=>by
 by_cases hq:q<m
 ·exact L p q h1 h2 hq
 ·by_cases hp:m<p
  ·exact R p q ah h2 h3
  ·have e1:g p<=g m:=by
    by_cases h:p=m
    ·subst h;exact OJ _
    ·exact H.1 p h1 ah
   have e2:g m<=g q:=by
    by_cases h:q=m
    ·subst h;exact OJ _
    ·exact H.2 q ah h3
   exact OA e1 e2
def Lb.sub(H:Lb a e g)(h:m<=e):Lb a m g:=by
 rcases H with H|H
 ·exact .inl H
 ·exact .inr λk h1 h2=>H k h1 ah
def fX.leftOut(H:fX a m g)(S:dA (m+1) e g g'):fX a m g':=λp q h1 h2 h3=>by rw[S.out (k:=p) (.inl ah),S.out (k:=q) (.inl ah)];exact H p q h1 h2 h3
def fX.rightOut(H:fX (m+1) e g)(S:dA a m g g'):fX (m+1) e g':=λp q h1 h2 h3=>by rw[S.out (k:=p) (.inr ah),S.out (k:=q) (.inr ah)];exact H p q h1 h2 h3
def Gk{b n c:Nat}{sp:List Value}(hn:n<=LB/4):
  ∀(d a e:Nat) (i:Int) (x8 x9:Bool) (g:Nat->Int) (h:aI) (K:KK),e<=a+d->a<=e->e<=n->cf .u32 h b n g sp->Lb a e g->
   (∀h' g',cf .u32 h' b n g' sp->fX a e g'->dA a e g g'->aM [b] h h'->K aE h')->F294.wL2 (d+1) (some (aw b)) n c a e i x8 x9 h K:=by
 intro d;have S:LB=140737488355328:=rfl
 induction d with
 |zero=>
  intro a e i x8 x9 g h K hd F he A L hK;rw[F294.sL2];rw[show ax ((e:Int)-(a:Int))=((e-a:Nat):Int) by rw[bq ah ah];omega,show decide (((e-a:Nat):Int)<=12)=true by simp;omega,aO];exact ins76 A he ah ah λh' g' A' R' S' O'=>⟨rfl,hK h' g' A' R' S' O'⟩
 |succ d ih=>
  intro a e i x8 x9 g h K hd F he A L hK;rw[F294.sL2];rw[show ax ((e:Int)-(a:Int))=((e-a:Nat):Int) by rw[bq ah ah];omega];refine aR (λ_=> ?_) λhc=> ?_
  ·exact ins76 A he ah ah λh' g' A' R' S' O'=>⟨rfl,hK h' g' A' R' S' O'⟩
  simp only[Mr]at hc;refine aR (λ_=> ?_) λ_=> ?_
  ·exact Hi A he F hn λh' g' A' R' S' O'=>⟨rfl,hK h' g' A' R' S' O'⟩
  have C: ∀(a e:Nat) (i:Int) (g:Nat->Int) (h:aI) (K:KK),e<=a+d->a<=e->e<=n->cf .u32 h b n g sp->Lb a e g->
    (∀h' g',cf .u32 h' b n g' sp->fX a e g'->dA a e g g'->aM [b] h h'->K aE h')->Cl 294 [.slice (some (aw b)) n c,ap a,ap e,ap i] h K:=
   λa e i g h K h1 h2 h3 A L hK=>F294.spec _ _ _ _ _ _ h K ⟨d+1,ih a e i true true g h K h1 h2 h3 A L hK⟩
  have H: ∀(i j:Int) (x8:Bool) (m:Nat) (f:Bool) (g1:Nat->Int) (h1:aI),cf .u32 h1 b n g1 sp->Lb a e g1->yY a e m g1->a<=m->m<e->
    (∀h' g',cf .u32 h' b n g' sp->fX a e g'->dA a e g1 g'->aM [b] h1 h'->K aE h')->
    (∃u:Int,∃D:Bool,(Value.tuple #[ap (m:Int),aD f])=(.tuple #[(ap u),(aD D)])/\((8:Int)≠0/\aJ (decide ((ax (u-a))<(ax (e-u)))) (Cl 294 [(.slice (some (aw b)) n c),(ap a),(ap u),(ap i)] h1 (λM O=>(M=aE/\F294.wL2 (d+1) (some (aw b)) n c (ax (u+(1:Int))) e i (decide ((ax (u-a))>=(ax (Int.tdiv j (8:Int))))) D O K))) (Cl 294 [(.slice (some (aw b)) n c),(ap (ax (u+(1:Int)))),(ap e),(ap i)] h1 (λN R=>(N=aE/\F294.wL2 (d+1) (some (aw b)) n c a u i (decide ((ax (e-u))>=(ax (Int.tdiv j (8:Int))))) D R K))))):=by
   intro i j x8 m f g1 h1 A1 L1 P m1 m2 l;refine⟨_,_,rfl,by decide,?_⟩;rw[show ax ((m:Int)+1)=((m+1:Nat):Int) by rw[bq ah ah];omega];refine aR (λ_=> ?_) λ_=> ?_
   ·refine C a m i g1 h1 _ ah m1 ah A1 (L1.sub ah) λh2 g2 A2 R2 S2 O2=>⟨rfl,?_⟩;have P2:=P.left S2;refine ih (m+1) e i _ _ g2 h2 K ah ah he A2 (.inr λk k1 k2=>by rw[show m+1-1=m by omega];exact P2.2 k ah k2) λh3 g3 A3 R3 S3 O3=> ?_;exact l h3 g3 A3 ((P2.right S3).join (R2.leftOut S3) R3) ((S2.mono (Mb _) ah).trans (S3.mono ah (Mb _))) (O2.trans O3 ak)
   ·refine C (m+1) e i g1 h1 _ ah ah he A1 (.inr λk k1 k2=>by rw[show m+1-1=m by omega];exact P.2 k ah k2) λh2 g2 A2 R2 S2 O2=>⟨rfl,?_⟩;have P2:=P.right S2;refine ih a m i _ _ g2 h2 K ah m1 ah A2 ((L1.swp (S2.mono ah (Mb _))).sub ah) λh3 g3 A3 R3 S3 O3=> ?_;exact l h3 g3 A3 ((P2.left S3).join R3 (R2.rightOut S3)) ((S2.mono ah (Mb _)).trans (S3.mono (Mb _) ah)) (O2.trans O3 ak)
  have J: ∀(i j:Int) (x8 x9:Bool) (pv:Nat) (g1:Nat->Int) (h1:aI),cf .u32 h1 b n g1 sp->Lb a e g1->a<=pv->pv<e->
    (∀h' g',cf .u32 h' b n g' sp->fX a e g'->dA a e g1 g'->aM [b] h1 h'->K aE h')->
    F294.wk17 (λB z y x1 x2 x3 x8 x9 h=>F294.wL2 (d+1) B z y x1 x2 x3 x8 x9 h K) (some (aw b)) n c a e i x8 x9 j pv h1 K:=by
   intro i j x8 x9 pv g1 h1 A1 L1 p1 p2 l;unfold F294.wk17;refine aR (λha=> ?_) λha=> ?_
   ·simp only[Mu]at ha;rw[show ax ((a:Int)-1)=((a-1:Nat):Int) by rw[bq ah ah];omega];refine A1.ld rfl ah (A1.ld rfl ah (eG ?_));rw[bX];refine aR (λhl=> ?_) λhl=> ?_
    ·simp only[MX,Mr]at hl;refine Gr A1 he ah p1 p2 hn λh2 m g2 A2 S2 R1 R2 m1 m2 O2=> ?_;rw[bB]
     have lo: ∀k,a<=k->k<e->g1 pv<=g2 k:=by
      have L2:=L1.swp S2;rcases L2 with h0|L2
      ·omega
      ·intro k k1 k2;have:=L2 k k1 k2;rw[S2.out (k:=a-1) (.inl ah)]at this;omega
     refine ih m e i _ _ g2 h2 K ah m2 he A2 (.inr λk k1 k2=>OA (R1 (m-1) ah ah) (Oo (R2 k k1 k2))) λh3 g3 A3 R3 S3 O3=> ?_;refine l h3 g3 A3 (λp q h1 h2 h3=> ?_) (S2.trans (S3.mono ah (Mb _))) (O2.trans O3 ak);by_cases hp:m<=p
     ·exact R3 p q hp h2 h3
     ·have e1:g3 p<=g1 pv:=by rw[S3.out (k:=p) (.inl ah)];exact R1 p h1 ah
      have e2:g1 pv<=g3 q:=by
       by_cases hq:m<=q
       ·exact Oo (S3.all (Q:=λv=>g1 pv<v) (λk k1 k2=>R2 k k1 k2) q hq h3)
       ·rw[S3.out (k:=q) (.inl ah)];exact lo q ah h3
      exact OA e1 e2
    ·exact AS A1 he ah p1 p2 hn λh2 m g2 f A2 S2 P2 m1 m2 O2=>H i j x8 m f g2 h2 A2 (L1.swp S2) P2 m1 m2 λh' g' A' R' S' O'=>l h' g' A' R' (S2.trans S') (O2.trans O' ak)
   ·exact AS A1 he ah p1 p2 hn λh2 m g2 f A2 S2 P2 m1 m2 O2=>H i j x8 m f g2 h2 A2 (L1.swp S2) P2 m1 m2 λh' g' A' R' S' O'=>l h' g' A' R' (S2.trans S') (O2.trans O' ak)
  have G: ∀(i j:Int) (x8 x9:Bool) (g1:Nat->Int) (h1:aI),cf .u32 h1 b n g1 sp->Lb a e g1->
    (∀h' g',cf .u32 h' b n g' sp->fX a e g'->dA a e g1 g'->aM [b] h1 h'->K aE h')->
    F294.wk10 (λB z y x1 x2 x3 x8 x9 h=>F294.wL2 (d+1) B z y x1 x2 x3 x8 x9 h K) (some (aw b)) n c a e i x8 x9 j h1 K:=by
   intro i j x8 x9 g1 h1 A1 L1 l
   have I: ∀(pv:Nat) (t:Int) (g1:Nat->Int) (h1:aI),cf .u32 h1 b n g1 sp->Lb a e g1->a<=pv->pv<e->
     (∀h' g',cf .u32 h' b n g' sp->fX a e g'->dA a e g1 g'->aM [b] h1 h'->K aE h')->
     F294.wk15 (λB z y x1 x2 x3 x8 x9 h=>F294.wL2 (d+1) B z y x1 x2 x3 x8 x9 h K) (some (aw b)) n c a e i x8 x9 j pv t h1 K:=by
    intro pv t g1 h1 A1 L1 p1 p2 l;unfold F294.wk15;have o:=J i j x8 x9 pv g1 h1 A1 L1 p1 p2 l;refine aR (λ_=>aR (λ_=>aR (λ_=> ?_) λ_=>o) λ_=>o) λ_=>o;refine GD A1 L1 he ah hn λh2 g2 r A2 S2 R2 O2=> ?_;rw[bX];refine aR (λhr=>l h2 g2 A2 (R2 hr) S2 O2) λ_=> ?_;exact J i j x8 x9 pv g2 h2 A2 (L1.swp S2) p1 p2 λh' g' A' R' S' O'=>l h' g' A' R' (S2.trans S') (O2.trans O' ak)
   unfold F294.wk10;refine JX A1 he ah hn λh2 pv t A2 p1 p2 O2=>⟨_,_,rfl,?_⟩;refine aR (λ_=> ?_) λ_=> ?_
   ·refine JI A2 he ah ah λh3 g3 A3 S3 O3=>⟨rfl,?_⟩
    rw[show ax (ax ((e:Int)-1)-ax ((pv:Int)-(a:Int)))=((e-1-(pv-a):Nat):Int) by rw[bq (x:=(e:Int)-1) ah ah,bq (x:=(pv:Int)-(a:Int)) ah ah,bq ah ah];omega]
    exact I _ _ g3 h3 A3 (L1.swp S3) ah ah λh' g' A' R' S' O'=>l h' g' A' R' (S3.trans S') (((O2.mono ak).trans O3 ak).trans O' ak)
   ·exact I pv t g1 h2 A2 L1 p1 p2 λh' g' A' R' S' O'=>l h' g' A' R' S' ((O2.mono ak).trans O' ak)
  refine aR (λ_=> ?_) λ_=> ?_
  ·refine JN A he F hn λh2 g2 A2 S2 O2=>⟨rfl,?_⟩;exact G _ _ x8 x9 g2 h2 A2 (L.swp S2) λh' g' A' R' S' O'=>hK h' g' A' R' (S2.trans S') (O2.trans O' ak)
  ·exact G _ _ x8 x9 g h A L hK
def Ha{h:aI}{b n c:Nat}{g:Nat->Int}{sp:List Value}{K:KK}(A:cf .u32 h b n g sp)(hn:n<=LB/4)
  (hK: ∀h' g',cf .u32 h' b n g' sp->fX 0 n g'->dA 0 n g g'->aM [b] h h'->K aE h'):Cl 260 [.slice (some (aw b)) n c] h K:=by
 refine F260.spec ?_;have a:LB=140737488355328:=rfl;rw[bZ ah ah];refine Fx ah λL _ _=> ?_;rw[bB];exact F294.spec _ _ _ _ _ _ h _ ⟨n+1,Gk hn n 0 n L true true g h _ ah (Nq _) (Mb _) A (.inl rfl) λh' g' A' R' S' O'=>⟨rfl,hK h' g' A' R' S' O'⟩⟩
def Kt{tb:ByteArray}{y:Nat}{K:Int->Prop}(h:((List.range 256).all λy=>tb[y]?.isSome)=true)(hy:y<256)(hK: ∀n:Int,K n):EF tb (y:Int) K:=by rw[MZ]at h;obtain⟨b,hb⟩:=NJ.1 (h y (MW.2 hy));exact⟨b,by rw[Md];exact hb,hK _⟩
def vT{X:Nat}{h:aI}{K:KK}(hX:X<256)(hK: ∀L:Int,K (ap L) h):Cl 295 [ar (X:Int)] h K:=by
 refine F295.spec ?_;refine F323.spec ?_;rw[L7 ah,aK];show F323.wk4 _ _ _ _;unfold F323.wk4;rw[L7 ah,aK];show F323.wk7 _ _ _ _;unfold F323.wk7;rw[L7 ah,aK];show F323.wk10 _ _ _ _;unfold F323.wk10;have:IntKind.wrap .u8 (X:Int)=X:=by simp[IntKind.wrap,IntKind.bits,IntKind.signed];omega
 rw[this];exact⟨ah,Kt (by decide+kernel) hX λn=>aH rfl (hK _)⟩
def vz{h:aI}{c:Nat}{p:az}{K:KK}(hK:K aE h):Cl 260 [.slice p 0 c] h K:=by refine F260.spec ?_;rw[bZ ah ah];refine vT (X:=0) ah λL=>aH rfl ?_;refine F294.spec _ _ _ _ _ _ h _ ⟨1,?_⟩;rw[F294.sL2];rw[show ax ((((0:Nat):Int))-0)=0 by decide,show decide ((0:Int)<=12)=true by decide,aO];refine F313.spec _ _ _ _ _ h _ ⟨1,?_⟩;rw[F313.sL1];rw[show decide (ax ((0:Int)+1)<((0:Nat):Int))=false by decide,aK];exact⟨rfl,rfl,hK⟩
def Ef{h:aI}{c n:Nat}{p:az}{K:KK}(hn:n<=1)(hK:K aE h):Cl 265 [.slice p n c] h K:=by refine F265.spec ?_;rw[bZ ah ah];refine vT ah λL=>aH rfl ?_;refine F298.spec _ _ _ _ _ _ h _ ⟨1,?_⟩;rw[F298.sL2];rw[wrap_i64 ah ah,Mg ah,aO];refine F324.spec _ _ _ _ _ h _ ⟨1,?_⟩;rw[F324.sL1];rw[show decide (ax ((0:Int)+1)<((n:Nat):Int))=false by rw[L7];rw[wrap_i64 ah ah];omega,aK];exact⟨rfl,rfl,hK⟩
def cf.ldo{q:IntKind}{h:aI}{b n:Nat}{g:Nat->Int}{sp:List Value}(A:cf q h b n g sp){o l:Nat}{x:Int}{k:Nat}(hx:x=k)(hk:k<l)(hn:o+k<n){Q:Int->Prop}(hQ:Q (g (o+k))):
  aX (some ⟨b,o,none⟩) λa=>(0<=x/\x<(l:Int)/\aS q (Ev.rd h (Addr.add a (Int.toNat x*1))) Q):=by
 subst hx;rw[aT];refine⟨ah,ah,?_⟩;rw[aL,show o+Int.toNat (k:Int)*1=o+k by omega,A.rd hn,bB];exact hQ
def cf.clr{sp:List Value}(A:cf q h b n g sp)(hk:k<=n)(hm:m=n-k)(hc:n<=c)
  (hK: ∀h' d,cf q h' b k g d->d.length=n-k+sp.length->aM [b] h h'->K h'):
  vq h #[.int q 0] (if c=k then some (aw b)else Option.map (λa=>Addr.add a (k*1)) (some (aw b))) m K:=by
 subst hm
 have e0:dQ n (λk=>Value.int q (g k))=dQ k (λk=>Value.int q (g k))++(dQ n (λk=>Value.int q (g k))).drop k:=by
  conv=>lhs;rw[<-List.take_append_drop k (dQ n (λk=>Value.int q (g k)))]
  congr 1
  apply MM;intro i;by_cases hi:i<k
  ·rw[List.getElem?_take_of_lt hi,dR ah,dR hi]
  ·rw[Mt (by simp[cj];omega),Mt (by simp[cj];omega)]
 by_cases hck:c=k
 ·rw[L4 hck];have:n-k=0:=ah;unfold vq;rw[this];have hz:(Builtin.zeroCells #[Value.int q 0] 0).toList=[]:=by simp[Builtin.zeroCells]
  dsimp only;rw[hz];unfold rH;have:n=k:=ah;subst this;exact hK h sp A ah (aM.refl _ _)
 ·rw[LY hck,Na,aL];unfold vq;simp only[LX,MU];have hz:(Builtin.zeroCells #[Value.int q 0] (n-k)).toList.length=n-k:=by rw[fu];simp
  refine jN _ 0 _ h A (by rw[hz,Mv,cj];omega) (λv hv=> ?_) λh' A' O' _=> ?_
  ·simp[Builtin.zeroCells]at hv;obtain⟨i,_,rfl⟩:=hv;rw[Nat.mod_one]
   rfl
  ·refine hK h' ((Builtin.zeroCells #[Value.int q 0] (n-k)).toList++(dQ n (λk=>Value.int q (g k))++sp).drop (k+(n-k))) ?_ ?_ O'
   ·have e1:(dQ n (λk=>Value.int q (g k))++sp).take k=dQ k (λk=>Value.int q (g k)):=by
     rw[e0,Ns,List.take_append_of_le_length (by rw[cj];exact Mb _),Oy (by rw[cj];exact Mb _)]
    rw[Ma,hz,e1,Ns]at A';exact A'
   ·rw[Mv,hz,List.length_drop,Mv,cj];omega
structure CH(n k j:Nat)(g g':Nat->Int):Prop where
 k1:1<=k
 kj:k<=j
 up: ∀p q,p<q->q<k->g' p<g' q
 fw: ∀p,p<k-> ∃q,q<j/\g' p=g q
 bw: ∀q,q<j-> ∃p,p<k/\g' p=g q
 last:g' (k-1)=g (j-1)
 rest: ∀i,j<=i+1->i<n->k<=i->g' i=g i
def CH.same(H:CH n k j g g')(h:g j=g (j-1))(hk:k<=j):CH n k (j+1) g g' where
 k1:=H.k1
 kj:=ah
 up:=H.up
 fw:=λp hp=>by obtain⟨q,h1,h2⟩:=H.fw p hp;exact⟨q,ah,h2⟩
 bw:=λq hq=>by
  by_cases e:q=j
  ·subst e;exact⟨k-1,by have:=H.k1;omega,by rw[H.last,h]⟩
  ·exact H.bw q ah
 last:=by rw[H.last,show j+1-1=j by omega,h]
 rest:=λi h1 h2 h3=>H.rest i ah h2 h3
def CH.new(H:CH n k j g g')(h:g (j-1)<g j)(hj:j<n):CH n (k+1) (j+1) g (λi=>if i=k then g j else g' i) where
 k1:=ah
 kj:=by have:=H.kj;omega
 up:=λp q h1 h2=>by
  rw[LY (by omega:p≠k)];by_cases hq:q=k
  ·rw[L4 hq];have l:=H.last;by_cases hp:p=k-1
   ·rw[hp,l];exact h
   ·have:=H.up p (k-1) ah ah;rw[l]at this;exact Int.lt_trans this h
  ·rw[LY hq];exact H.up p q h1 ah
 fw:=λp hp=>by
  by_cases e:p=k
  ·exact⟨j,ah,by rw[L4 e]⟩
  ·obtain⟨q,h1,h2⟩:=H.fw p ah;exact⟨q,ah,by rw[LY e];exact h2⟩
 bw:=λq hq=>by
  by_cases e:q=j
  ·subst e;exact⟨k,ah,by rw[L4 rfl]⟩
  ·obtain⟨p,h1,h2⟩:=H.bw q ah;exact⟨p,ah,by rw[LY ah];exact h2⟩
 last:=by rw[show k+1-1=k by omega,L4 rfl,show j+1-1=j by omega]
 rest:=λi h1 h2 h3=>by rw[LY ah];exact H.rest i ah h2 ah
def JL{sp:List Value}(A:cf .u32 h b n g' sp)(hk:k<=n)(hc:n<=c)(hn:n<=LB/4)(O:aM [b] h0 h)
  (hK: ∀h' d,cf .u32 h' b k g' d->d.length=n-k+sp.length->aM [b] h0 h'->K (.slice (some (aw b)) k c) h'):F261.wk14 bk (some (aw b)) n c k h K:=by
 unfold F261.wk14;refine⟨ah,ah,?_⟩;rw[Md];refine A.clr hk rfl hc λh' d A' hl O'=>⟨ah,ah,?_⟩
 have e:(if c=0 then(some ((aw b):Addr))else Option.map (λa=>Addr.add a (0*1)) (some (aw b)))=some (aw b):=by
  split
  ·rfl
  ·simp
 rw[e];exact hK h' d A' hl (O.trans O' ak)
def KT{b n c:Nat}{g:Nat->Int}{K:KK}{sp:List Value}{bk:Nat}{k0:Nat}(hc:n<=c)(hn:n<=LB/4)(R:fX 0 n g)(h0:1<=k0){hh:aI}:
  ∀(d k2 k:Nat) (g':Nat->Int) (h:aI),k0+k2+d=n->1<=k2->cf .u32 h b n g' sp->CH n k (k0+k2) g g'->k0<=k->k<k0+k2->aM [b] hh h->
   (∀h' k' i a,cf .u32 h' b k' i a->a.length=n-k'+sp.length->CH n k' n g i->k'<=n->aM [b] hh h'->K (.slice (some (aw b)) k' c) h')->
   F261.wL9 (d+1) bk (some (aw b)) n c k (some ⟨b,k0,none⟩) (n-k0) (c-k0) k2 h K:=by
 intro d;have l:LB=140737488355328:=rfl
 induction d with
 |zero=>
  intro k2 k g' h hd h2 A C hk j O hK;rw[F261.sL9];rw[show decide ((k2:Int)<((n-k0:Nat):Int))=false by simp;omega,aK];rw[show k0+k2=n by omega]at C;exact JL A ah hc hn O λh' a A' hl O'=>hK h' k g' a A' hl C ah O'
 |succ d ih=>
  intro k2 k g' h hd h2 A C hk j O hK;rw[F261.sL9]
  rw[show decide ((k2:Int)<((n-k0:Nat):Int))=true by simp;omega,aO,show ax ((k2:Int)-1)=((k2-1:Nat):Int) by rw[bq ah ah];omega,
   show ax ((k2:Int)+1)=((k2+1:Nat):Int) by rw[bq ah ah];omega]
  refine A.ldo rfl ah ah (A.ldo rfl ah ah ?_);rw[C.rest (k0+k2) ah ah ah];by_cases hkk:k<=k0+(k2-1)
  ·have e1:g' (k0+(k2-1))=g (k0+k2-1):=by rw[C.rest (k0+(k2-1)) ah ah hkk,show k0+(k2-1)=k0+k2-1 by omega]
   rw[e1];refine aR (λe=> ?_) λe=> ?_
   ·simp only[PH,Pp]at e;refine A.ldo rfl ah ah (A.sto rfl ah λh1 A1 O1=> ?_);rw[C.rest (k0+k2) ah ah ah]at A1;rw[show ax ((k:Int)+1)=((k+1:Nat):Int) by rw[bq ah ah];omega]
    have lt:g (k0+k2-1)<g (k0+k2):=by have:=R (k0+k2-1) (k0+k2) ah ah ah;omega
    exact ih (k2+1) (k+1) _ h1 ah ah A1 (C.new lt ah) ah ah (O.trans O1 ak) hK
   ·have f:g (k0+k2)=g (k0+k2-1):=by simpa using e
    exact ih (k2+1) k g' h ah ah A (C.same f ah) hk ah O hK
  ·have:k=k0+k2:=ah;omega
def Ie{b n c:Nat}{g:Nat->Int}{K:KK}{sp:List Value}(hc:n<=c)(hn:n<=LB/4)(R:fX 0 n g){h:aI}(A:cf .u32 h b n g sp): ∀(d k:Nat),k+d=n->1<=k->CH n k k g g->
   (∀h' k' f a,cf .u32 h' b k' f a->a.length=n-k'+sp.length->CH n k' n g f->k'<=n->aM [b] h h'->K (.slice (some (aw b)) k' c) h')->
   F261.wL4 (d+1) (some (aw b)) n c k h K:=by
 intro d;have l:LB=140737488355328:=rfl
 induction d with
 |zero=>
  intro k hd h1 C hK;rw[F261.sL4];rw[show decide ((k:Int)<(n:Int))=false by simp;omega,aK];have:k=n:=ah;subst this;exact hK h k g sp A ah C (Mb _) (aM.refl _ _)
 |succ d ih=>
  intro k hd h1 C hK;rw[F261.sL4];rw[show decide ((k:Int)<(n:Int))=true by simp;omega,aO,show ax ((k:Int)-1)=((k-1:Nat):Int) by rw[bq ah ah];omega];refine A.ld rfl ah (A.ld rfl ah ?_);refine aR (λhe=> ?_) λhe=> ?_
  ·have j:g k=g (k-1):=by simpa using he
   refine⟨ah,ah,?_⟩;unfold F261.wk9;rw[Md,LY ah,Na,aL,LX,MU];exact⟨_,KT hc hn R h1 (n-(k+1)) 1 k g h ah (Mb _) A (C.same j (Mb _)) (Mb _) ah (aM.refl _ _) hK⟩
  ·have j: ¬g k=g (k-1):=by simpa using he
   rw[show ax ((k:Int)+1)=((k+1:Nat):Int) by rw[bq ah ah];omega]
   have lt:g (k-1)<g k:=by have:=R (k-1) k ah ah ah;omega
   have C':=C.new lt ah;rw[show(λi=>if i=k then g k else g i)=g by funext i;by_cases e:i=k<;>simp[e]]at C';exact ih (k+1) ah ah C' hK
def Jf{sp:List Value}(A:cf .u32 h b n g sp)(hc:n<=c)(hn:n<=LB/4)(R:fX 0 n g)
  (hK: ∀h' k g' a,cf .u32 h' b k g' a->a.length=n-k+sp.length->k<=n->(∀p q,p<q->q<k->g' p<g' q)->(∀p,p<k-> ∃q,q<n/\g' p=g q)->(∀q,q<n-> ∃p,p<k/\g' p=g q)->aM [b] h h'->K (.slice (some (aw b)) k c) h'):
  Cl 261 [.slice (some (aw b)) n c] h K:=by
 refine F261.spec _ _ _ h K ?_;refine aR (λh2=> ?_) λh2=> ?_
 ·simp only[Mu]at h2;exact hK h n g sp A ah (Mb _) (λp q _ _=>ah) (λp hp=>⟨p,hp,rfl⟩) (λq hq=>⟨q,hq,rfl⟩) (aM.refl _ _)
 ·simp only[Mr]at h2;unfold F261.wk4
  exact⟨_,Ie hc hn R A (n-1) 1 ah (Mb _) ⟨Mb _,Mb _,λp q _ _=>ah,λp hp=>⟨p,hp,rfl⟩,λq hq=>⟨q,hq,rfl⟩,rfl,λi _ _ _=>rfl⟩
   λh' k g' a A' hl C hk O'=>hK h' k g' a A' hl hk C.up C.fw C.bw O'⟩
def BE(hK:K (.slice p 0 c) h):Cl 261 [.slice p 0 c] h K:=by refine F261.spec _ _ _ h K ?_;rw[show decide (((0:Nat):Int)<2)=true by decide,aO];exact hK
def xb(x:Int):Bool:=decide (1<x)
structure Au(i j:Nat)(g g':Nat->Int):Prop where
 ij:i<=j
 eq:(List.range i).map g'=((List.range j).map g).filter xb
 rest: ∀k,j<=k->g' k=g k
def Au.keep(H:Au i j g g')(h:1<g j):Au (i+1) (j+1) g (λk=>if k=i then g j else g' k) where
 ij:=by have:=H.ij;omega
 eq:=by
  rw[Ou,Ou,MJ,MJ,Nx,<-H.eq]
  congr 1
  ·apply Nb;intro k hk;rw[MW]at hk;rw[LY ah]
  ·simp[xb,h]
 rest:=λk hk=>by have:=H.ij;rw[LY ah];exact H.rest k ah
def Au.drop(H:Au i j g g')(h: ¬1<g j):Au i (j+1) g g' where
 ij:=by have:=H.ij;omega
 eq:=by rw[H.eq,Ou,MJ,Nx];simp[xb,h]
 rest:=λk hk=>H.rest k ah
def Au.all(h: ∀k,k<i->1<g k):Au i i g g where
 ij:=Mb _
 eq:=by symm;rw[Nr];intro x hx;obtain⟨k,hk,rfl⟩:=Ms.1 hx;rw[MW]at hk;simp[xb,h k hk]
 rest:=λk _=>rfl
def EZ(hK:K (aD (!xb x)) h):dS Tryz.prog X (.func (.func 263) #[] #[]) [aq x] h K:=
 bj (by kernel_rfl) (F263.spec (by rw[show decide (x<=1)= !xb x by unfold xb;by_cases h:1<x<;>simp[h]<;>omega];exact hK))
def Jt{b n c:Nat}{g:Nat->Int}{K:KK}{h:aI}{sp:List Value}(A:cf .u32 h b n g sp)(hn:n<=LB/4)(hK: ∀i:Nat,i<n->(∀k,k<i->1<g k)-> ¬1<g i->K (ap (i:Int)) h)(hN:(∀k,k<n->1<g k)->K (ap (-1)) h):
  Cl 296 [.slice (some (aw b)) n c,.func (.func 263) #[] #[]] h K:=by
 refine F296.spec _ _ _ h K ?_;have f:LB=140737488355328:=rfl;unfold F296.wk2
 have a: ∀(d i:Nat),i+d=n->(∀k,k<i->1<g k)->F296.wL2 (d+1) (some (aw b)) n c (.func (.func 263) #[] #[]) n i h K:=by
  intro d
  induction d with
  |zero=>
   intro i hd hi;rw[F296.sL2];rw[show decide ((i:Int)<(n:Int))=false by simp;omega,aK];exact hN λk hk=>hi k ah
  |succ d ih=>
   intro i hd hi;rw[F296.sL2];rw[show decide ((i:Int)<(n:Int))=true by simp;omega,aO];refine A.ld rfl ah (EZ ?_);rw[bX];refine aR (λho=> ?_) λho=> ?_
   ·exact hK i ah hi (by simpa[xb]using ho)
   ·rw[show ax ((i:Int)+1)=((i+1:Nat):Int) by rw[bq ah ah];omega];refine ih (i+1) ah λk hk=> ?_;by_cases e:k=i
    ·subst e;simpa[xb]using ho
    ·exact hi k ah
 exact⟨_,a n 0 ah λk hk=>ah⟩
def IF{sp:List Value}(A:cf .u32 h b n g' sp)(hk:k<=n)(hc:n<=c)(O:aM [b] h0 h)
  (hK: ∀h' d,cf .u32 h' b k g' d->d.length=n-k+sp.length->aM [b] h0 h'->K (.slice (some (aw b)) k c) h'):F262.wk11 (some (aw b)) n c k h K:=by
 unfold F262.wk11;refine⟨ah,ah,?_⟩;rw[Md];refine A.clr hk rfl hc λh' d A' hl O'=>⟨ah,ah,?_⟩
 have e:(if c=0 then(some ((aw b):Addr))else Option.map (λa=>Addr.add a (0*1)) (some (aw b)))=some (aw b):=by
  split
  ·rfl
  ·simp
 rw[e];exact hK h' d A' hl (O.trans O' ak)
def HW{b n c:Nat}{g:Nat->Int}{K:KK}{sp:List Value}(hc:n<=c)(hn:n<=LB/4){hh:aI}:
  ∀(d j i:Nat) (g':Nat->Int) (h:aI),j+d=n->i<j->cf .u32 h b n g' sp->Au i j g g'->aM [b] hh h->
   (∀h' k f a,cf .u32 h' b k f a->a.length=n-k+sp.length->k<=n->(List.range k).map f=((List.range n).map g).filter xb->aM [b] hh h'->K (.slice (some (aw b)) k c) h')->
   F262.wL5 (d+1) (some (aw b)) n c (.func (.func 263) #[] #[]) i j h K:=by
 intro d;have m:LB=140737488355328:=rfl
 induction d with
 |zero=>
  intro j i g' h hd l A C O hK;rw[F262.sL5];rw[show decide ((j:Int)<(n:Int))=false by simp;omega,aK];have:j=n:=ah;subst this;exact IF A ah hc O λh' a A' hl O'=>hK h' i g' a A' hl ah C.eq O'
 |succ d ih=>
  intro j i g' h hd l A C O hK;rw[F262.sL5];rw[show decide ((j:Int)<(n:Int))=true by simp;omega,aO,show ax ((j:Int)+1)=((j+1:Nat):Int) by rw[bq ah ah];omega];refine A.ld rfl ah (EZ ?_);rw[bX];have ej:g' j=g j:=C.rest j (Mb _);refine aR (λho=> ?_) λho=> ?_
  ·have e:1<g j:=by rw[<-ej];simpa[xb]using ho
   refine A.sto rfl ah λh1 A1 O1=> ?_;rw[ej]at A1;rw[show ax ((i:Int)+1)=((i+1:Nat):Int) by rw[bq ah ah];omega];exact ih (j+1) (i+1) _ h1 ah ah A1 (C.keep e) (O.trans O1 ak) hK
  ·have e: ¬1<g j:=by rw[<-ej];simpa[xb]using ho
   exact ih (j+1) i g' h ah ah A (C.drop e) O hK
def Kc{b n c:Nat}{g:Nat->Int}{K:KK}{h:aI}{sp:List Value}(A:cf .u32 h b n g sp)(hc:n<=c)(hn:n<=LB/4)
  (hK: ∀h' k g' a,cf .u32 h' b k g' a->a.length=n-k+sp.length->k<=n->(List.range k).map g'=((List.range n).map g).filter xb->aM [b] h h'->K (.slice (some (aw b)) k c) h'):
  Cl 262 [.slice (some (aw b)) n c,.func (.func 263) #[] #[]] h K:=by
 refine F262.spec _ _ _ h K ?_;have d:LB=140737488355328:=rfl;refine Jt A hn (λi hi h1 h2=> ?_) λh1=> ?_
 ·rw[bB,show((i:Int)==(-1))=false by simp,aK,show ax ((i:Int)+1)=((i+1:Nat):Int) by rw[bq ah ah];omega];unfold F262.wk5;exact⟨_,HW hc hn (n-(i+1)) (i+1) i g h ah ah A ((Au.all h1).drop h2) (aM.refl _ _) hK⟩
 ·rw[bB,show((-1:Int)==(-1))=true by decide,aO];exact hK h n g sp A ah (Mb _) (Au.all h1).eq (aM.refl _ _)
def Ct(hK:K (.slice p 0 c) h):Cl 262 [.slice p 0 c,.func (.func 263) #[] #[]] h K:=by
 refine F262.spec _ _ _ h K ?_;refine F296.spec _ _ _ h _ ?_;unfold F296.wk2;refine⟨1,?_⟩;rw[F296.sL2];rw[show decide ((0:Int)<((0:Nat):Int))=false by decide,aK]
 try dsimp only
 rw[bB,show((-1:Int)==(-1))=true by decide,aO];exact hK
end Go.Proofs.YtnofenejoebkhaaGreat.Ev
