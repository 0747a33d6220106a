/- PART 4 OF WHAT THE LAW WholeOnce STANDS ON. Conditions: none but those that each lemma states. -/
import Derived.Test.YtnofenejoebkhaaGreatG3
namespace Go.Proofs.YtnofenejoebkhaaGreat.Ev
open Go
set_option linter.defProp false
set_option maxRecDepth 100000
set_option autoImplicit true
set_option relaxedAutoImplicit true
def om{f:Fk}(h:FN N f)(a:fW f.op)(e:f.fn=180):di n fo N f:=⟨h,.inl ⟨a,.inl e,λz=>ah⟩⟩
def mY{fr:Fk}{f1:Fk}(D: ∀b∈({A with fs:=fl++[fr]}:MA).bl,b∉L)(E:yU h s n room fo gg off N A fl fr K L)(H:bV h1 s L (XL n room fo gg N off))(M:bF h1 s {A with fs:=fl++[f1]})(O1:aM (L++({A with fs:=fl++[fr]}:MA).bl) h h1)(ok:cY n N)(hb:f1.b=fr.b)(hl:l<n)(n1:isN N f1.a1)(n2:isN N f1.low)(nf: ¬tg fr/\ ¬nX fr)
  (m1:bJ n+1<=dZ n N fr) (m2:bN n+1<=dV n N fr):Cl 303 [bg f1.b,ap (l:Int)] h1 (λv h'=>v=aE/\K aE h'):=by
 have eb:({A with fs:=fl++[f1]}:MA).bl=({A with fs:=fl++[fr]}:MA).bl:=by simp[MA.bl,hb]
 have z1:=O1.size;have c0: ∀{N':ay},isN N' 0:= .inl ah
 have tr: ∀{h':aI} {S:List Nat},aM (L++({A with fs:=fl++[f1]}:MA).bl) h1 h'->aM (L++({A with fs:=fl++[fr]}:MA).bl) h h':=λ{h' S} O=>by rw[eb]at O;exact O1.trans O λb hb _=>hb
 have fe: ∀{L':List Nat},bH L L' h1->bH L L' h:=λg b hb=>(g b hb).imp id λz=>ah;refine wD H M (by rw[eb];exact D) hl (λh' L' N' v E1 cN iv sv S' M' O g=>⟨rfl,?_⟩) λh' L' hf S' M' O g=>⟨rfl,E.full S' M' (tr (S:=[]) O) (fe g)⟩;have a:=S'.ok;dsimp only[XL]at a;have jl:=kD (n:=n) (N:=N') (f:={f1 with op:=5,mask:=0,a0:=v,a1:=f1.a1,a2:=f1.low,low:=0,fn:=180}) rfl;refine E.turn (fr':={f1 with op:=5,mask:=0,a0:=v,a1:=f1.a1,a2:=f1.low,low:=0,fn:=180}) hb E1 S' M' (tr (S:=[]) O) (fe g) (om ⟨iv,E1.isN n1,E1.isN n2,c0⟩ (.inr (.inr (.inr rfl))) rfl) (λg0 q=>q.free nf.1 nf.2) (.inl (.inl rfl)) ah ah
def rL{A:MA}{fl:List Fk}{fr:Fk}(H:bV h s L (XL n room fo gg N off))(M:bF h s {A with fs:=fl++[fr]})(D: ∀b∈({A with fs:=fl++[fr]}:MA).bl,b∉L)(hl:fl.length<900000)(F:di n fo N fr)(a: ∀v,v<n->gg v<n)(hc:(fr.fn=137\/fr.fn=188\/fr.fn=233)\/fr.fn=279)(ht:fB fr\/eF n fo N fr A.told)(E:yU h s n room fo gg off N A fl fr K L):eD Tryz.prog X (iZ fr.fn fr.b) [] h K:=by
 have ok:=H.ok;dsimp only[XL]at ok;obtain⟨a0,a1,a2,al⟩:=F.nn;have c0:isN N 0:= .inl ah;have nf: ¬tg fr/\ ¬nX fr:=LP ah;rcases hc with(e|e|e)|e
 ·obtain⟨mn,-⟩:=F.co (.inl e);have m1:=DR (n:=n) (N:=N) e;have ps:=FW (n:=n) (k:=n-lvl n N fr.a0);unfold iZ;rw[e];refine bu Jz (uY H M D hl mn a0 (λhg h' fp S' M' ep O=> ?_) (λhg h' S' M' O=> ?_) λhg h' b fp fc hb S' M' g O=> ?_)
  ·exact E.pop (Ex.refl _) S' M' ep O (bH.refl _ _) (kI nf a0) ah
  ·have d:2<=fr.a0\/fr.a0<2:=ah
   have nl:isN N (high N fr.a0)/\isN N (low N fr.a0):=by
    rcases d with z|z
    ·exact⟨(lh ok.1 a0 z).2.2.1,(lh ok.1 a0 z).2.1⟩
    ·unfold high low;rw[MK z,MK z];exact⟨by first|exact .inl ah|exact a0,by first|exact .inl ah|exact a0⟩
   have jl:=kD (n:=n) (N:=N) (f:={fr with op:=5,mask:=0,a0:=fr.a1,a1:=high N fr.a0,a2:=low N fr.a0,low:=0,fn:=180}) rfl;exact E.turn (fr':={fr with op:=5,mask:=0,a0:=fr.a1,a1:=high N fr.a0,a2:=low N fr.a0,low:=0,fn:=180}) rfl (Ex.refl _) S' M' O (bH.refl _ _) (om ⟨a1,nl.1,nl.2,c0⟩ (.inr (.inr (.inr rfl))) rfl) (λg0 q=>q.free nf.1 nf.2) (.inl (.inl rfl)) ah ah
  ·have h2:2<=fr.a0:=by
    apply MS;intro hn;have:lvl n N fr.a0=n:=by unfold lvl;rw[MK ah]
    have:=(a _ mn);omega
   obtain⟨h3,h4,h5,h6,h7⟩:=lh ok.1 a0 h2;have m2:dZ n N {fr with level:=lvl n N fr.a0,fn:=188}=cS n (n-lvl n N fr.a0-1)+bJ n+3/\dV n N {fr with level:=lvl n N fr.a0,fn:=188}=cB n (n-lvl n N fr.a0-1)+bN n+1:=Fy rfl;have m3:=DR (n:=n) (N:=N) (f:=⟨b,fr.op,fr.mask,low N fr.a0,fr.a1,0,0,0,137⟩) rfl;have mo:=eN (n:=n) (show n-lvl n N (low N fr.a0)<=n-lvl n N fr.a0-1 by omega);obtain⟨k,ek⟩: ∃k,n-lvl n N fr.a0=k+1:=⟨n-lvl n N fr.a0-1,ah⟩;have e1:cS n (k+1)=2*cS n k+bJ n+4:=rfl;have e2:cB n (k+1)=2*cB n k+bN n+1:=rfl;have c:n-lvl n N fr.a0-1=k:=ah;rw[ek]at m1;rw[c]at m2 mo;refine E.lay (fr':={fr with level:=lvl n N fr.a0,fn:=188}) (g:=⟨b,fr.op,fr.mask,low N fr.a0,fr.a1,0,0,0,137⟩) rfl rfl hb S' M' g O ⟨⟨a0,a1,a2,al⟩,.inr (.inr (.inl ⟨.inr ⟨.inl rfl,h2⟩,mn⟩))⟩ (λg0 q=>q.free nf.1 nf.2) ⟨⟨h4,a1,c0,c0⟩,.inr (.inr (.inl ⟨.inl rfl,mn⟩))⟩ (dH.none ak) (.inr (.inr (.inl rfl))) ?_ ?_
   ·rw[m1.1,m2.1,m3.1];show _+cS n (n-lvl n N (low N fr.a0))+1<=_;omega
   ·rw[m1.2,m2.2,m3.2];show _+cB n (n-lvl n N (low N fr.a0))<=_;omega
 ·obtain⟨mn,h2⟩:=F.co (.inr (.inl e));have h2:=h2 ah;have W:eF n fo N fr A.told:=ht.resolve_left λz=>by unfold fB at z;omega
  obtain⟨h3,h4,h5,h6,h7⟩:=lh ok.1 a0 h2;unfold iZ;rw[e];refine bu IM (Eq H M D hl a0 λh' b fp fc hb M' g O=> ?_);have m1:=Fy (n:=n) (N:=N) e;have m2:=Fe (n:=n) (N:=N) (f:={fr with low:=A.told,fn:=233}) rfl;have m3:=DR (n:=n) (N:=N) (f:=⟨b,fr.op,fr.mask,high N fr.a0,fr.a1,0,0,0,137⟩) rfl;have mo:=eN (n:=n) (show n-lvl n N (high N fr.a0)<=n-lvl n N fr.a0-1 by omega);refine E.lay (fr':={fr with low:=A.told,fn:=233}) (g:=⟨b,fr.op,fr.mask,high N fr.a0,fr.a1,0,0,0,137⟩) rfl rfl hb (H.only O λb hb hm=>D b hb hm) M' g (O.mono λb hb _=>Zp (.inr hb)) ⟨⟨a0,a1,a2,W.is⟩,.inr (.inr (.inl ⟨.inr ⟨.inr rfl,h2⟩,mn⟩))⟩ (λg0 q=>q.free nf.1 nf.2) ⟨⟨h5,a1,c0,c0⟩,.inr (.inr (.inl ⟨.inl rfl,mn⟩))⟩ (dH.none ak) (.inr (.inr (.inl rfl))) ?_ ?_
  ·rw[m1.1,m2.1,m3.1];show _+cS n (n-lvl n N (high N fr.a0))+1<=_;omega
  ·rw[m1.2,m2.2,m3.2];show _+cB n (n-lvl n N (high N fr.a0))<=_;omega
 ·obtain⟨mn,h2⟩:=F.co (.inr (.inr e));have h2:=h2 ah;have W:eF n fo N fr A.told:=ht.resolve_left λz=>by unfold fB at z;omega
  obtain⟨h3,h4,h5,h6,h7⟩:=lh ok.1 a0 h2;unfold iZ;rw[e];have m1:=Fe (n:=n) (N:=N) e;have m2:=Fz (n:=n) (N:=N) (f:={fr with a1:=A.told,fn:=279,level:=lvl n N fr.a0}) rfl;refine bu JO (DU H M D a0 λh' S' M' O=> ?_);refine E.turn (fr':={fr with a1:=A.told,fn:=279,level:=lvl n N fr.a0}) rfl (Ex.refl _) S' M' (O.mono λb hb _=> ?_) (bH.refl _ _) ⟨⟨a0,W.is,a2,al⟩,.inr (.inr (.inr (.inl ⟨rfl,h3⟩)))⟩ (λg0 q=>q.free nf.1 nf.2) (.inr (vV ak W.is)) ah ah;simp only[MH]at hb;subst hb;exact Zp (.inr bO)
 ·have ln:=F.cn e;have m1:=Fz (n:=n) (N:=N) e;unfold iZ;rw[e];exact bu Kz (BE M (mY D E H M (aM.refl _ _) ok.1 rfl ln a1 al nf ah ah))
def Cs{A:MA}{fl:List Fk}{fr:Fk}(H:bV h s L (XL n room fo gg N off))(M:bF h s {A with fs:=fl++[fr]})(D: ∀b∈({A with fs:=fl++[fr]}:MA).bl,b∉L)(hl:fl.length<900000)(F:di n fo N fr)(po:cF n fo gg)
  (hc:fr.fn=192\/fr.fn=237\/fr.fn=281\/fr.fn=138\/fr.fn=190\/fr.fn=234\/fr.fn=139\/fr.fn=191\/fr.fn=236\/fr.fn=280) (ht:fB fr\/eF n fo N fr A.told) (E:yU h s n room fo gg off N A fl fr K L):eD Tryz.prog X (iZ fr.fn fr.b) [] h K:=by
 have ok:=H.ok;dsimp only[XL]at ok;have n8:n<=8:=ok.2.2.1;obtain⟨a0,a1,a2,al⟩:=F.nn;have c0:isN N 0:= .inl ah;have nf: ¬tg fr/\ ¬nX fr:=LP ah;obtain⟨ev,t2,t0⟩:=F.tu hc;have W: ¬fB fr->eF n fo N fr A.told:=λz=>ht.resolve_left z;have a: ∀k,k<256->k%2^n<256:=λk hk=>Pa (Nat.mod_le _ _) hk;rcases hc with e|e|e|e|e|e|e|e|e|e
 ·have m1:=AU (n:=n) (N:=N) e;unfold iZ;rw[e];refine bu KJ (EJ H M D hl a0 (λhg h' fp S' M' ep O=> ?_) λh2 h' b fp fc hb S' M' g O=> ?_)
  ·exact E.pop (Ex.refl _) S' M' ep O (bH.refl _ _) (kI nf a0) ah
  ·obtain⟨h3,h4,h5,h6,h7⟩:=lh ok.1 a0 h2;have m2:dZ n N {fr with level:=lvl n N fr.a0,fn:=237}=tS n (n-lvl n N fr.a0-1)+bJ n+2/\dV n N {fr with level:=lvl n N fr.a0,fn:=237}=qB n (n-lvl n N fr.a0-1)+bN n+1:=Fu rfl;have m3:=AU (n:=n) (N:=N) (f:=⟨b,fr.op,fr.mask,low N fr.a0,fr.a1,0,0,0,192⟩) rfl;have mo:=eN (n:=n) (show n-lvl n N (low N fr.a0)<=n-lvl n N fr.a0-1 by omega);obtain⟨k,ek⟩: ∃k,n-lvl n N fr.a0=k+1:=⟨n-lvl n N fr.a0-1,ah⟩;have e1:tS n (k+1)=2*tS n k+bJ n+3:=rfl;have e2:qB n (k+1)=2*qB n k+bN n+1:=rfl;have c:n-lvl n N fr.a0-1=k:=ah;rw[ek]at m1;rw[c]at m2 mo;refine E.lay (fr':={fr with level:=lvl n N fr.a0,fn:=237}) (g:=⟨b,fr.op,fr.mask,low N fr.a0,fr.a1,0,0,0,192⟩) rfl rfl hb S' M' g O ⟨⟨a0,a1,a2,al⟩,.inr (.inr (.inr (.inr ⟨ev,.inr (.inl ⟨.inl rfl,h2,rfl⟩)⟩)))⟩ (λg0 q=>q.free nf.1 nf.2) ⟨⟨h4,a1,c0,c0⟩,.inr (.inr (.inr (.inr ⟨ev,.inl rfl⟩)))⟩ (dH.none ak) (.inr (.inr (.inr (.inl rfl)))) ?_ ?_
   ·rw[m1.1,m2.1,m3.1];show _+tS n (n-lvl n N (low N fr.a0))+1<=_;omega
   ·rw[m1.2,m2.2,m3.2];show _+qB n (n-lvl n N (low N fr.a0))<=_;omega
 ·obtain⟨h2,lv⟩:=t2 (.inl e);have W:=W (λz=>by unfold fB at z;omega);obtain⟨h3,h4,h5,h6,h7⟩:=lh ok.1 a0 h2;unfold iZ;rw[e];refine bu JR (Do H M D hl a0 λh' b fp fc hb M' g O=> ?_);have m1:=Fu (n:=n) (N:=N) e;have m2:=Fb (n:=n) (N:=N) (f:={fr with low:=A.told,fn:=281}) rfl;have m3:=AU (n:=n) (N:=N) (f:=⟨b,fr.op,fr.mask,high N fr.a0,fr.a1,0,0,0,192⟩) rfl;have mo:=eN (n:=n) (show n-lvl n N (high N fr.a0)<=n-lvl n N fr.a0-1 by omega);refine E.lay (fr':={fr with low:=A.told,fn:=281}) (g:=⟨b,fr.op,fr.mask,high N fr.a0,fr.a1,0,0,0,192⟩) rfl rfl hb (H.only O λb hb hm=>D b hb hm) M' g (O.mono λb hb _=>Zp (.inr hb)) ⟨⟨a0,a1,a2,W.is⟩,.inr (.inr (.inr (.inr ⟨ev,.inr (.inl ⟨.inr rfl,h2,lv⟩)⟩)))⟩ (λg0 q=>q.free nf.1 nf.2) ⟨⟨h5,a1,c0,c0⟩,.inr (.inr (.inr (.inr ⟨ev,.inl rfl⟩)))⟩ (dH.none ak) (.inr (.inr (.inr (.inl rfl)))) ?_ ?_
  ·rw[m1.1,m2.1,m3.1];show _+tS n (n-lvl n N (high N fr.a0))+1<=_;omega
  ·rw[m1.2,m2.2,m3.2];show _+qB n (n-lvl n N (high N fr.a0))<=_;omega
 ·obtain⟨h2,lv⟩:=t2 (.inr e);have W:=W (λz=>by unfold fB at z;omega);obtain⟨h3,h4,h5,h6,h7⟩:=lh ok.1 a0 h2;have pr:=zJ po n8 ev;have m1:=Fb (n:=n) (N:=N) e;unfold iZ;rw[e];refine bu Jl (zk H M D pr ah λh' S' M' O=> ?_);exact mY (f1:={fr with a1:=A.told}) D E S' M' (O.mono λb hb _=>by simp only[MH]at hb;subst hb;exact Zp (.inr bO)) ok.1 rfl (pr fr.level ah).2.2.1 W.is al nf ah ah
 ·have m1:=E9 (n:=n) (N:=N) e;have z2:=t0 e;unfold iZ;rw[e];refine bu Jw (Jn H M D hl z2 λh' b fp fc hb S' M' g O=> ?_);have m2:=F5 (n:=n) (N:=N) (f:={fr with fn:=190}) rfl;have m3:=kD (n:=n) (N:=N) (f:=⟨b,2,0,fr.a0,fr.a1,0,0,0,180⟩) rfl;exact E.lay (fr':={fr with fn:=190}) (g:=⟨b,2,0,fr.a0,fr.a1,0,0,0,180⟩) rfl rfl hb S' M' g O ⟨⟨a0,a1,a2,al⟩,.inr (.inr (.inr (.inr ⟨ev,.inr (.inr (.inr (.inl rfl)))⟩)))⟩ (λg0 q=>q.free nf.1 nf.2) (om ⟨a0,a1,c0,c0⟩ (.inl rfl) rfl) (dH.none ak) (.inl rfl) ah ah
 ·have W:=W (λz=>by unfold fB at z;omega);have m1:=F5 (n:=n) (N:=N) e;unfold iZ;rw[e];refine bu Ir (IU H M D hl λh' b fp fc hb S' M' g O=> ?_);have m2:=FL (n:=n) (N:=N) (f:={fr with fn:=234}) rfl;have m3:=vJ (n:=n) (N:=N) (f:=⟨b,6,85%2^n,A.told,0,0,0,0,136⟩) rfl;have mo:=eN (n:=n) (show n-lvl n N A.told<=n by omega);refine E.lay (fr':={fr with fn:=234}) (g:=⟨b,6,85%2^n,A.told,0,0,0,0,136⟩) rfl rfl hb S' M' g O ⟨⟨a0,a1,a2,al⟩,.inr (.inr (.inr (.inr ⟨ev,.inr (.inr (.inr (.inr (.inl rfl))))⟩)))⟩ (λg0 q=>q.free nf.1 nf.2) ⟨⟨W.is,c0,c0,c0⟩,.inr (.inl ⟨.inl rfl,a 85 ah,.inl rfl⟩)⟩ (dH.none ak) (.inr (.inl rfl)) ?_ ?_
  ·rw[m1.1,m2.1,m3.1];show _+qS n (n-lvl n N A.told)+1<=_;omega
  ·rw[m1.2,m2.2,m3.2];show _+qB n (n-lvl n N A.told)<=_;omega
 ·have W:=W (λz=>by unfold fB at z;omega);have m1:=FL (n:=n) (N:=N) e;unfold iZ;rw[e];refine bu Ih (Kw M λh' M' O=> ?_);have m2:dZ n N {fr with a0:=A.told,a1:=0,a2:=0,fn:=192}=tS n (n-lvl n N A.told)/\dV n N {fr with a0:=A.told,a1:=0,a2:=0,fn:=192}=qB n (n-lvl n N A.told):=AU rfl;have mo:=eN (n:=n) (show n-lvl n N A.told<=n by omega);refine E.turn (fr':={fr with a0:=A.told,a1:=0,a2:=0,fn:=192}) rfl (Ex.refl _) (H.only O λb hb hm=> ?_) M' (O.mono λb hb _=> ?_) (bH.refl _ _) ⟨⟨W.is,c0,c0,al⟩,.inr (.inr (.inr (.inr ⟨ev,.inl rfl⟩)))⟩ (λg0 q=>q.free nf.1 nf.2) (.inl (.inr (.inr (.inr (.inl rfl))))) ah ah
  ·simp only[MH]at hb;subst hb;exact D _ bO hm
  ·simp only[MH]at hb;subst hb;exact Zp (.inr bO)
 ·have m1:=Fo (n:=n) (N:=N) e;unfold iZ;rw[e];refine bu IX (Iw H M D hl λh' b fp fc hb S' M' g O=> ?_);have m2:=Fw (n:=n) (N:=N) (f:={fr with fn:=191}) rfl;have m3:=AU (n:=n) (N:=N) (f:=⟨b,fr.op,0,fr.a0,0,0,0,0,192⟩) rfl;have mo:=eN (n:=n) (show n-lvl n N fr.a0<=n by omega);refine E.lay (fr':={fr with fn:=191}) (g:=⟨b,fr.op,0,fr.a0,0,0,0,0,192⟩) rfl rfl hb S' M' g O ⟨⟨a0,a1,a2,al⟩,.inr (.inr (.inr (.inr ⟨ev,.inr (.inr (.inr (.inr (.inr (.inr (.inl rfl))))))⟩)))⟩ (λg0 q=>q.free nf.1 nf.2) ⟨⟨a0,c0,c0,c0⟩,.inr (.inr (.inr (.inr ⟨ev,.inl rfl⟩)))⟩ (dH.none ak) (.inr (.inr (.inr (.inl rfl)))) ?_ ?_
  ·rw[m1.1,m2.1,m3.1];show _+tS n (n-lvl n N fr.a0)+1<=_;omega
  ·rw[m1.2,m2.2,m3.2];show _+qB n (n-lvl n N fr.a0)<=_;omega
 ·have W:=W (λz=>by unfold fB at z;omega);have m1:=Fw (n:=n) (N:=N) e;unfold iZ;rw[e];refine bu Ku (KC H M D hl λh' b fp fc hb S' M' g O=> ?_);have m2:=FZ (n:=n) (N:=N) (f:={fr with fn:=236}) rfl;have m3:=kD (n:=n) (N:=N) (f:=⟨b,2,0,A.told,fr.a1,0,0,0,180⟩) rfl;exact E.lay (fr':={fr with fn:=236}) (g:=⟨b,2,0,A.told,fr.a1,0,0,0,180⟩) rfl rfl hb S' M' g O ⟨⟨a0,a1,a2,al⟩,.inr (.inr (.inr (.inr ⟨ev,.inr (.inr (.inr (.inr (.inr (.inr (.inr (.inl rfl)))))))⟩)))⟩ (λg0 q=>q.free nf.1 nf.2) (om ⟨W.is,a1,c0,c0⟩ (.inl rfl) rfl) (dH.none ak) (.inl rfl) ah ah
 ·have W:=W (λz=>by unfold fB at z;omega);have m1:=FZ (n:=n) (N:=N) e;unfold iZ;rw[e];refine bu KD (IA H M D hl λh' b fp fc hb S' M' g O=> ?_);have m2:=Ki (n:=n) (N:=N) (f:={fr with fn:=280}) rfl;have m3:=vJ (n:=n) (N:=N) (f:=⟨b,6,170%2^n,A.told,0,0,0,0,136⟩) rfl;have mo:=eN (n:=n) (show n-lvl n N A.told<=n by omega);refine E.lay (fr':={fr with fn:=280}) (g:=⟨b,6,170%2^n,A.told,0,0,0,0,136⟩) rfl rfl hb S' M' g O ⟨⟨a0,a1,a2,al⟩,.inr (.inr (.inr (.inr ⟨ev,.inr (.inr (.inr (.inr (.inr (.inr (.inr (.inr rfl)))))))⟩)))⟩ (λg0 q=>q.free nf.1 nf.2) ⟨⟨W.is,c0,c0,c0⟩,.inr (.inl ⟨.inl rfl,a 170 ah,.inl rfl⟩)⟩ (dH.none ak) (.inr (.inl rfl)) ?_ ?_
  ·rw[m1.1,m2.1,m3.1];show _+qS n (n-lvl n N A.told)+1<=_;omega
  ·rw[m1.2,m2.2,m3.2];show _+qB n (n-lvl n N A.told)<=_;omega
 ·have W:=W (λz=>by unfold fB at z;omega);have m1:=Ki (n:=n) (N:=N) e;unfold iZ;rw[e];refine bu IZ (Ci M hl λh' fp M' ep O=> ?_);refine E.pop (Ex.refl _) (H.only O λb hb hm=> ?_) M' ep (O.mono λb hb _=> ?_) (bH.refl _ _) (kI nf W.is) ah
  ·simp only[MH]at hb;subst hb;exact D A.m (by simp[MA.bl]) hm
  ·simp only[MH]at hb;subst hb;exact Zp (.inr (by simp[MA.bl]))
def qf(n:Nat)(fo:Nat->Nat)(N:ay)(A:MA):Prop:=
 (A.done=false/\A.e=0/\A.fs≠[]/\gI n fo N A.fs A.told)\/(A.done=true/\A.fs=[]/\((A.e=0/\isN N A.told)\/A.e=60))
def iS: ∀fs:List Fk,fs.length<=ie n N fs
 | []=>by simp[ie]
 |f::fs=>by have ih:=iS (n:=n) (N:=N) fs;have:=xb (n:=n) (N:=N) (f:=f);simp only[ie,Nk,Pp,NJ]at ih ⊢;omega
def oG: ∀{A B:ay},Ex A B->bj A<=bj B
 | [],B,_=>NS _
 |none::A,[],h=>oG (A:=A) (B:=[]) λi x hx=>by have:=h (i+1) x (by rw[sQ];exact hx);simp[nd]at this
 |some x::A,[],h=>by have:=h 0 x (by simp[nd]);simp[nd]at this
 |o::A,p::B,h=>by
  have:=oG (A:=A) (B:=B) λi x hx=>by have:=h (i+1) x (by rw[sQ];exact hx);rwa[sQ]at this
  simp only[bj,NQ]at this ⊢;cases o with
  |none=>simp;omega
  |some x=>
   have h0:=h 0 x (by simp[nd]);have e:p=some x:=by simpa[nd]using h0
   subst e;omega
def EV{h:aI}{A:MA}{fl:List Fk}{fr:Fk}(H:bV h s L (XL n room fo gg N off))(M:bF h s {A with fs:=fl++[fr]})(D: ∀b∈({A with fs:=fl++[fr]}:MA).bl,b∉L)(hl:fl.length<900000)(R:gI n fo N (fl++[fr]) A.told)(po:cF n fo gg)(he:A.e=0)(hd:A.done=false)
  (hK: ∀h' L' N' A',A'.m=A.m->bV h' s L' (XL n room fo gg N' off)->bF h' s A'->(∀b∈A'.bl,b∉L')->Ex N N'->DT n fo N N' {A with fs:=fl++[fr]} A'->aM (L++({A with fs:=fl++[fr]}:MA).bl) h h'->bH L L' h->(∀b∈A'.bl,b∈({A with fs:=fl++[fr]}:MA).bl\/h.size<=b)->K aE h'):
  eD Tryz.prog X (iZ fr.fn fr.b) [] h K:=by
 have ok:=H.ok;dsimp only[XL]at ok;have F:=R.frs fr ak;have ht:=R.top fl fr rfl;have f:=M.lt
 have dj: ∀{L':List Nat} {A':MA},bH L L' h->(∀b∈A'.bl,b∈({A with fs:=fl++[fr]}:MA).bl)-> ∀b∈A'.bl,b∉L':=λg sub b hb hm=>by
  rcases g b hm with z|z
  ·exact D b (sub b hb) z
  ·have:=f b (sub b hb);omega
 have E:yU h s n room fo gg off N A fl fr K L:=by
  refine⟨λ{h' L' N' fp r} E S' M' ep O g T c=> ?_,λ{h' b fp fc fr' g} e1 e2 hb S' M' ow O F' lk Fg l1 eg m1 m2=> ?_,λ{h' L' N' fr'} e1 E S' M' O g F' lk t m1 m2=> ?_,λ{h' L'} S' M' O g=> ?_⟩
  ·have sub: ∀x∈({A with fp:=fp,fs:=fl,told:=r,done:=fl.isEmpty}:MA).bl,x∈({A with fs:=fl++[fr]}:MA).bl:=λx hx=>by
    simp only[MA.bl,List.mem_cons,List.mem_append,No]at hx ⊢;rw[ep]at hx;rcases hx with h|h|h
    ·exact .inl h
    ·exact .inr (.inl h)
    ·exact .inr (.inr (.inl h))
   have a:=S'.ok;dsimp only[XL]at a;exact hK h' L' N' {A with fp:=fp,fs:=fl,told:=r,done:=fl.isEmpty} rfl S' M' (dj g sub) E (EE ok.1 a.1 E R T he c) O g λx hx=> .inl (sub x hx)
  ·have sub: ∀x∈({A with fp:=fp,fc:=fc,fs:=fl++[fr']++[g]}:MA).bl,x∈({A with fs:=fl++[fr]}:MA).bl\/h.size<=x:=λx hx=>by
    simp only[MA.bl,List.mem_cons,List.mem_append,No,Nk,OQ,Nw,NP]at hx ⊢;rcases hx with h|h|(h|h)|h
    ·exact .inl (.inl h)
    ·exact(ow x h).imp (λh=> .inr (.inl h)) id
    ·exact .inl (.inr (.inr (.inl h)))
    ·exact .inl (.inr (.inr (.inr (h.trans e1))))
    ·exact .inr ah
   refine hK h' L N {A with fp:=fp,fc:=fc,fs:=fl++[fr']++[g]} rfl S' M' (λx hx hm=> ?_) (Ex.refl _) (EU R he hd F' lk Fg l1 eg m1 m2) O (bH.refl _ _) sub;rcases sub x hx with h|h
   ·exact D x h hm
   ·have:=H.lt x hm;omega
  ·have eb:({A with fs:=fl++[fr']}:MA).bl=({A with fs:=fl++[fr]}:MA).bl:=by simp[MA.bl,e1]
   exact hK h' L' N' {A with fs:=fl++[fr']} rfl S' M' (dj g λx hx=>by rw[<-eb];exact hx) E (Cc ok.1 E R he hd F' lk t m1 m2) O g λx hx=> .inl (by rw[<-eb];exact hx)
  ·have sub: ∀x∈({A with fp:=none,fc:=0,fs:=[],done:=true,e:=60}:MA).bl,x∈({A with fs:=fl++[fr]}:MA).bl:=λx hx=>by
    simp[MA.bl,aV]at hx ⊢;exact .inl hx
   exact hK h' L' N {A with fp:=none,fc:=0,fs:=[],done:=true,e:=60} rfl S' M' (dj g sub) (Ex.refl _) (.inr (.inr ⟨rfl,rfl,rfl,rfl⟩)) O g λx hx=> .inl (sub x hx)
 have d: ∀v,v<n->gg v<n:=λv hv=>(po.1 v hv).1;rcases F.fns with c|c|c|c|c
 ·exact xV H M D hl F c ht E
 ·exact wh H M D hl F po c ht E
 ·exact rL H M D hl F d (.inl c) ht E
 ·exact rL H M D hl F d (.inr c) ht E
 ·exact Cs H M D hl F po c ht E
def qf.run{A:MA}(M:qf n fo N A)(h:A.done=false):A.e=0/\A.fs≠[]/\gI n fo N A.fs A.told:=by
 rcases M with⟨-,h1⟩|⟨h1,-⟩
 ·exact h1
 ·rw[h1]at h;cases h
def yX{B0 B1 B2:List Nat}{z0 z1:Nat}(a: ∀b∈B1,b∈B0\/z0<=b)(b: ∀b∈B2,b∈B1\/z1<=b)(hz:z0<=z1): ∀x∈B2,x∈B0\/z0<=x:=λx hx=>by
 rcases b x hx with h|h
 ·exact a x h
 ·exact .inr ah
def Ez{h:aI}{s n room:Nat}{fo gg:Nat->Nat}{off:Bool}{N:ay}{A:MA}{K:KK}{L:List Nat}(H:bV h s L (XL n room fo gg N off))(M:bF h s A)(D: ∀b∈A.bl,b∉L)(hm:ie n N A.fs<=800000)(R:qf n fo N A)(po:cF n fo gg)(hd:A.done=false)
  (hK: ∀h' L' N' A',A'.m=A.m->bV h' s L' (XL n room fo gg N' off)->bF h' s A'->(∀b∈A'.bl,b∉L')->Ex N N'->qf n fo N' A'->ie n N' A'.fs<=ie n N A.fs->bj N'+iT n N' A'.fs<=bj N+iT n N A.fs->(A'.done=true\/bj N+1<=bj N')->
   aM (L++A.bl) h h'->bH L L' h->(∀b∈A'.bl,b∈A.bl\/h.size<=b)->K (aD A'.done) h'):
  Cl 114 [bg A.m] h K:=by
 refine F114.spec _ h K ?_;simp only[aL,MF];refine aR (bI M.own).1 (lC H (aH rfl ?_));unfold F114.wk2
 have i: ∀(d:Nat) (h1:aI) (L1:List Nat) (N1:ay) (A1:MA),ie n N1 A1.fs<=d->A1.m=A.m->bV h1 s L1 (XL n room fo gg N1 off)->bF h1 s A1->(∀b∈A1.bl,b∉L1)->Ex N N1->qf n fo N1 A1->
   ie n N1 A1.fs<=ie n N A.fs->bj N1+iT n N1 A1.fs<=bj N+iT n N A.fs->
   aM (L++A.bl) h h1->bH L L1 h->(∀b∈A1.bl,b∈A.bl\/h.size<=b)->F114.wL2 (d+1) (aw A.m) (bj N:Int) h1 K:=by
  intro d
  induction d with
  |zero=>
   intro h1 L1 N1 A1 q em S1 M1 D1 E1 R1 P1 C1 O1 g1 s1;have hz:A1.fs=[]:=Nv (by have:=iS (n:=n) (N:=N1) A1.fs;omega)
   have k:A1.done=true:=by
    rcases R1 with⟨-,-,h,-⟩|⟨h,-⟩
    ·exact Nc hz h
    ·exact h
   have rm:=bI M1.own;rw[em]at rm;rw[F114.sL2];simp only[aL,MF];refine aZ rm.2.2.2.1 ?_;rw[k,Ng,aJ];unfold F114.wk4;simp only[aL,MF];exact aZ rm.2.2.2.1 (hK h1 L1 N1 A1 em S1 M1 D1 E1 R1 P1 C1 (.inl k) O1 g1 s1)
  |succ d ih=>
   intro h1 L1 N1 A1 q em S1 M1 D1 E1 R1 P1 C1 O1 g1 s1;have rm:=bI M1.own;rw[em]at rm;rw[F114.sL2];simp only[aL,MF];refine aZ rm.2.2.2.1 (aS (λhn=> ?_) λhn=> ?_)
   ·have hn:A1.done=false:=by simpa using hn
    refine aR rm.1 (lC S1 (aH rfl ?_));dsimp only[XL];rw[eK];refine aS (λe=> ?_) λe=> ?_
    ·have e:=MV e;obtain⟨he,c,RR⟩:=R1.run hn;obtain⟨fl,fr,a⟩: ∃fl fr,A1.fs=fl++[fr]:=⟨A1.fs.dropLast,A1.fs.getLast c,(Py c).symm⟩;have eA:A1={A1 with fs:=fl++[fr]}:=by rw[<-a]
     have g:A1.fs.length=fl.length+1:=by rw[a];simp
     have l:A1.fs.length<=ie n N1 A1.fs:=iS _;rw[g]at rm;refine bB rm.2.1 (bB rm.2.1 ?_);have W:nu h1 0 A1.fp A1.fs.length A1.fc (A1.fs.map λf=>bg f.b):=M1.win;obtain⟨ad,ep,rr⟩:=W.rd (j:=fl.length) (by simp;omega);have e1:ax (((fl.length+1:Nat):Int)-1)=(fl.length:Int):=by rw[wrap_i64 ah ah];omega
     rw[ep,aT,e1];refine⟨ah,ah,?_⟩;rw[MO,Nz,rr];refine aR (n:=some (aw fr.b)) (by rw[a];simp[bg]) ?_;rw[aT];simp only[aL,MF];have F1':At h1 fr.b (fS A1.m fr):=M1.frm fr (by rw[a];simp);rw[(a9 F1').2.2.2.2.2.2.2,eH];rw[a]at RR;rw[eA]at M1 D1;refine EV S1 M1 D1 ah RR po he hn λh2 L2 N2 A2 t S2 M2 D2 E2 R2 O2 g2 s2=>⟨rfl,?_⟩;rw[<-eA]at O2 s2 R2
     have hO:aM (L++A.bl) h h2:=O1.trans O2 λb hb u=>by
      rcases Zq hb with h|h
      ·rcases g1 b h with h|h
       ·exact Zp (.inl h)
       ·omega
      ·rcases s1 b h with h|h
       ·exact Zp (.inr h)
       ·omega
     have key:qf n fo N2 A2/\ie n N2 A2.fs+1<=ie n N1 A1.fs/\bj N2+iT n N2 A2.fs<=bj N1+iT n N1 A1.fs:=by
      rcases R2 with⟨q1,q2,q3,q4,q5,q6⟩|⟨q1,q2,q3,q4,q5⟩|⟨q1,q2,q3,q4⟩
      ·exact⟨.inl ⟨q1,q2,q3,q4⟩,q5,q6⟩
      ·refine⟨.inr ⟨q1,q3,.inl ⟨q2,q4⟩⟩,?_,?_⟩
       ·rw[q3];simp[ie];simp[ie]at l;omega
       ·rw[q3];simpa[iT]using q5
      ·refine⟨.inr ⟨q1,q3,.inr q2⟩,?_,?_⟩
       ·rw[q3];simp[ie];simp[ie]at l;omega
       ·rw[q3,q4];simp[iT]
     obtain⟨k1,k2,k3⟩:=key;have o:=O1.size;exact ih h2 L2 N2 A2 ah (t.trans em) S2 M2 D2 (E1.trans E2) k1 ah ah hO (g1.trans g2 o) (yX s1 s2 o)
    ·have e:=MU e;have ce:=oG E1;unfold F114.wk4;simp only[aL,MF];exact aZ rm.2.2.2.1 (hK h1 L1 N1 A1 em S1 M1 D1 E1 R1 P1 C1 (.inr ah) O1 g1 s1)
   ·have hn:A1.done=true:=by simpa using hn
    unfold F114.wk4;simp only[aL,MF];exact aZ rm.2.2.2.1 (hK h1 L1 N1 A1 em S1 M1 D1 E1 R1 P1 C1 (.inl hn) O1 g1 s1)
 exact⟨_,i (ie n N A.fs) h L N A (MN _) rfl H M D (Ex.refl _) R (MN _) (MN _) (aM.refl _ _) (bH.refl _ _) λb hb=> .inl hb⟩
def Gx{A:MA}(M:bF h s A)(hK:K (aD A.done) h):Cl 95 [bg A.m] h K:=by refine F95.spec ?_;simp only[aL,MF];exact aZ (bI M.own).2.2.2.1 hK
def zQ{A:MA}(M:bF h s A)(hK:K (.tuple #[aq (if A.done=true/\A.e=0 then(A.told:Int)else 0),ap (if A.done=true then(A.e:Int)else 61)]) h):Cl 94 [bg A.m] h K:=by
 refine F94.spec ?_;simp only[aL,MF];have rm:=bI M.own;refine aZ rm.2.2.2.1 (aS (λe=> ?_) λe=>aH rm.2.2.2.2 ?_)
 ·have e:A.done=false:=by simpa using e
  rw[MG (by rw[e];simp),MG (by rw[e];simp)]at hK;exact hK
 ·have e:A.done=true:=by simpa using e
  rw[show((A.e:Int) !=(0:Int))= !decide (A.e=0) by rw[show(0:Int)=((0:Nat):Int)from rfl,<-eK];rfl];by_cases h0:A.e=0
  ·rw[MP h0,Ng,aJ];rw[MK ⟨e,h0⟩,MK e,h0]at hK;exact aH rm.2.2.1 hK
  ·rw[MJ h0,Nx,aO];rw[MG (λh=>h0 h.2),MK e]at hK;exact aH rm.2.2.2.2 hK
def F179.spec(H:Cl 222 [au a,aq i] h λa b=> ∃c:Int,∃d:Int,a=(.tuple #[.int .u8 c,ap d])/\aK (d==0) (K (aD ((bo .and .u8 c 170)==0)) b) (K aB b)):Cl 179 [au a,aq i] h K:=cN Tryz.func179 H
def F222.T:bi:=⟨[(4,[0,7,8,18,19,20]),(9,[7,8])],[]⟩
section
variable (n:Nat)(g:Addr)(l i j:Int)(c:az)(b d:Nat)(f a:Int)(h:aI)(K:KK)
def F222.wL4:Prop:=Lp Tryz.f222 F222.T [1,1,1,0,1,0] n [(0,(au g)),(7,(ap i)),(8,(.int .u8 j)),(18,(.slice c b d)),(19,(ap f)),(20,(ap a))] h K
def F222.wk9:Prop:=K (.tuple #[.int .u8 j,ap i]) h
def F222.sL4:F222.wL4 (n+1) g i j c b d f a h K=(aK (a<f) (aY c λe=>0<=a/\a<(b:Int)/\aQ .i64 (rd h (e.add (a.toNat*1))) λe=>aK (e>0) (Cl 47 [au g] h λe k=>a8 (some e) λe=>Cl 272 [aA e,ap a] k λe k=>aQ .i64 (some e) λe=>0<=e/\F222.wL4 n g i (bo .or .u8 j (IntKind.wrap .u8 ((1:Int)*2^(min (e.toNat) (IntKind.bits .u8))))) c b d f (ax (a+1)) k K) (F222.wL4 n g i j c b d f (ax (a+1)) h K)) (F222.wk9 i j h K)):=by kernel_rfl
def F222.wk4:Prop:=(∃e,F222.wL4 e g i j c b d f a h K)
def F222.spec(H:bf h (.cells #[aq l] 46) λa b=>Cl 271 [au g,.slice (some (aw a)) 1 1] b λa b=> ∃c:az,∃d:Nat,∃e:Nat,∃f:Int,a=(.tuple #[.slice c d e,ap f])/\F222.wk4 g f 0 c d e (d:Int) 0 b K):Cl 222 [au g,aq l] h K:=cT F222.T Tryz.func222 H
end
namespace F271
noncomputable def XX:List (Nat×cH):=(1000023,.ent 46 218)::X
def XXok:uM Tryz.prog XX:=L0.ent
def T:bi:=⟨[(6,[0,8,23])],[]⟩
noncomputable def body:Code:=(Tryz.f271.body).getD .skip
noncomputable def en(S:lU)(p:List Nat)(κ:XK):Fr->aI->Prop:=E Tryz.prog XX T S (sub body p) κ
noncomputable def ln(S:lU)(p:List Nat)(κ:XK)(n:Nat):Fr->aI->Prop:=rJ S (E Tryz.prog XX T S (sub body p)) (pn T (sub body p)) κ n
def fn(K:KK):XK:=fin Tryz.prog Tryz.f271.results.toList K
noncomputable def c0(S:lU)(K:KK):XK:=DZ S (pn T (sub body [1,1,1,1,1])) (en S [1,1,1,1,1] (fn K)) (fn K)
noncomputable def c1(S:lU)(K:KK):XK:=pf 0 (c0 S K)
noncomputable def c2(S:lU)(n6:Nat)(K:KK):XK:=Bl S (pn T (sub body [1,1,1,1,0,1,0,0])) (ln S [1,1,1,1,0,1,0,0] (c1 S K) n6) (c1 S K)
def f6(f:Addr)(b:az)(a d:Nat)(c:az):Fr:=[(0,(au f)),(8,(.slice b a d)),(23,(.pointer c))]
def J0(k6:Addr->(az)->Nat->Nat->(az)->aI->Prop)(f:Addr)(j:az)(i g:Nat)(h:aI)(K:KK):Prop:=
 Cl 107 [(au f),(.slice j i g)] h (λv1 h2=>(∃r3:Option Nat,∃n4:Int,v1=(.tuple #[(.map r3),(ap n4)])/\aK (n4 !=(0:Int)) (K (.tuple #[(.slice none 0 0),(ap n4)]) h2) (Cl 75 [(au f)] h2 (λv5 h6=>aQ .i64 (some v5) (λn7=>(0<=n7/\n7<=n7/\((Nat.cast 8:Int)*n7<=281474976710656)/\n7<=9223372036854775807/\bf h6 (.cells (madeCells #[(ap 0)] (Int.toNat n7*1)) 3) (λb8 h9=>DQ h9 r3 (λe z=>k6 f (some (aw b8)) (Int.toNat n7) (Int.toNat n7) e z))))))))
def E0(S:lU)(f:Addr)(j:az)(i g:Nat)(h:aI)(K:KK):(E Tryz.prog XX T S body (fin Tryz.prog Tryz.f271.results.toList K) (jG 0 [(au f),(.slice j i g)]) h)=J0 (λf b a d c h=>S (en S [1,1,1,1,0,1] (c0 S K)) (f6 f b a d c) h) f j i g h K:=by kernel_rfl
def Jk6(e:Addr->(az)->Nat->Nat->(az)->aI->Prop)(f:Addr)(b:az)(a d:Nat)(c:az)(h:aI)(_K:KK):Prop:=
 e f b a d c h
def Ek6(S:lU)(f:Addr)(b:az)(a d:Nat)(c:az)(h:aI)(K:KK):(en S [1,1,1,1,0,1] (c0 S K) (f6 f b a d c) h)=Jk6 (λf b a d c h=> ∃n,S (ln S [1,1,1,1,0,1,0,0] (c1 S K) n) (f6 f b a d c) h) f b a d c h K:=by kernel_rfl
def JL6(z:Addr->(az)->Nat->Nat->(az)->aI->Prop)(f:Addr)(b:az)(a d:Nat)(c:az)(h:aI)(K:KK):Prop:=
 Hj h c (K (.tuple #[(.slice b a d),(ap 0)]) h) (λ_ _ h3=>zu h3 c (λv4 v5=>(∃n7:Int,(.tuple #[v4,v5])=((.tuple #[(aq n7),(.agg #[])]):Value)/\Cl 71 [(au f),(aq n7)] h3 (λv8 h9=>aQ .i64 (some v8) (λe=>aY b (λD=>(0<=e/\e<(Nat.cast a:Int)/\aQ .i64 (rd h9 (D.add (Int.toNat e*1))) (λB=>aY b (λA=>(0<=e/\e<(Nat.cast a:Int)/\aW h9 ((A.add (Int.toNat e*1)).add 0) (ap (ax (B+(1:Int)))) (λC=>z f b a d c C)))))))))))
def EL6(S:lU)(n6:Nat)(f:Addr)(b:az)(a d:Nat)(c:az)(h:aI)(K:KK):(en S [1,1,1,1,0,1,0,0] (c2 S n6 K) (f6 f b a d c) h)=JL6 (λf b a d c h=>S (ln S [1,1,1,1,0,1,0,0] (c1 S K) n6) (f6 f b a d c) h) f b a d c h K:=by kernel_rfl
def wL6:Nat->Addr->(az)->Nat->Nat->(az)->aI->KK->Prop
 |0,_,_,_,_,_,_,_=>False
 |n+1,f,b,a,d,c,h,K=>JL6 (λf b a d c h=>wL6 n f b a d c h K) f b a d c h K
def eL6(K:KK): ∀(n:Nat) (f:Addr) (b:az) (a d:Nat) (c:az) (h:aI),(ln S0 [1,1,1,1,0,1,0,0] (c1 S0 K) n (f6 f b a d c) h)=wL6 n f b a d c h K
 |0,_,_,_,_,_,_=>rfl
 |n+1,f,b,a,d,c,h=>(EL6 S0 n f b a d c h K).trans (Ll (λq0=>JL6 q0 f b a d c h K) (by funext f b a d c h;exact(λf b a d c h=>eL6 K n f b a d c h) f b a d c h))
def wk6(f:Addr)(b:az)(a d:Nat)(c:az)(h:aI)(K:KK):Prop:=
 Jk6 (λf b a d c h=> ∃m,wL6 m f b a d c h K) f b a d c h K
def ek6(K:KK)(f:Addr)(b:az)(a d:Nat)(c:az)(h:aI):(en S0 [1,1,1,1,0,1] (c0 S0 K) (f6 f b a d c) h)=wk6 f b a d c h K:=(Ek6 S0 f b a d c h K).trans (Ll (λq0=>Jk6 q0 f b a d c h K) (by funext f b a d c h;exact Cr λm=>eL6 K m f b a d c h))
def w(f:Addr)(j:az)(i g:Nat)(h:aI)(K:KK):Prop:=
 J0 (λf b a d c h=>wk6 f b a d c h K) f j i g h K
def e0(K:KK)(f:Addr)(j:az)(i g:Nat)(h:aI):(E Tryz.prog XX T S0 body (fin Tryz.prog Tryz.f271.results.toList K) (jG 0 [(au f),(.slice j i g)]) h)=w f j i g h K:=(E0 S0 f j i g h K).trans (Ll (λq0=>J0 q0 f j i g h K) (by funext f b a d c h;exact ek6 K f b a d c h))
def hb:Tryz.f271.body=some body:=by kernel_rfl
def ok:eQ T Tryz.f271.ntmps body=true:=by kernel_rfl
def spec(f:Addr)(j:az)(i g:Nat)(h:aI)(K:KK)(H:w f j i g h K):Cl 271 [(au f),(.slice j i g)] h K:=
 kB (T:=T) XXok LV Tryz.func271 hb ok rfl (by rw[e0];exact H)
end F271
def F107.T:bi:=⟨[(5,[1,2,6,7,14,15,16]),(10,[1,6,7]),(11,[6,7,25,26,27])],[]⟩
section
variable (n:Nat)(y:Addr)(c:az)(a b:Nat)(v t u:Addr)(f:az)(d o:Nat)(r g:Int)(j:az)(i q:Nat)(s l:Int)(h:aI)(K:KK)
def F107.wL11:Prop:=Lp Tryz.f107 F107.T [1,1,1,1,1,0,1,0] n [(6,(au t)),(7,(au u)),(25,(.slice j i q)),(26,(ap s)),(27,(ap l))] h K
def F107.wL5:Prop:=Lp Tryz.f107 F107.T [1,1,1,1,0,1,0] n [(1,(.slice c a b)),(2,(au v)),(6,(au t)),(7,(au u)),(14,(.slice f d o)),(15,(ap r)),(16,(ap g))] h K
def F107.sL11:F107.wL11 (n+1) t u j i q s l h K=(aK (l<s) (aY j λa=>0<=l/\l<(i:Int)/\aQ .u32 (rd h (a.add (l.toNat*1))) λa=>lV (rd h u) λb=>eD Tryz.prog X b [aq a] h λa b=>a=aE/\F107.wL11 n t u j i q s (ax (l+1)) b K) (bR (rd h t) λa=>K (.tuple #[.map a,ap 0]) h)):=by kernel_rfl
def F107.wk11:Prop:=(∃a,F107.wL11 a t u j i q s l h K)
def F107.wk10:Prop:=F107.wk11 t u c a b (a:Int) 0 h K
def F107.sL5:F107.wL5 (n+1) c a b v t u f d o r g h K=(aK (g<r) (aY f λe=>0<=g/\g<(d:Int)/\aQ .u32 (rd h (e.add (g.toNat*1))) λe=>a8 (rd h v) λi=>Cl 74 [aA i,aq e] h λe i=>bP (some e) λe=>aK (!e) (K (.tuple #[.map none,ap 101]) i) (F107.wL5 n c a b v t u f d o r (ax (g+1)) i K)) (F107.wk10 c a b t u h K)):=by kernel_rfl
def F107.wk5:Prop:=(∃e,F107.wL5 e c a b v t u f d o r g h K)
def F107.spec(H:bf h (.cells #[au y] 33) λd e=>bf e (.map #[] 0) λe f=>bf f (.cells #[.map none] 191) λf g=>aW g ((aw f).add 0) (.map (some e)) λe=>bf e (.cells #[.nilFunc] 244) λe g=>aW g ((aw e).add 0) (.func (.func 158) #[] #[au (aw f),au (aw e),au (aw d)]) λg=>F107.wk5 c a b (aw d) (aw f) (aw e) c a b (a:Int) 0 g K):Cl 107 [au y,.slice c a b] h K:=cT F107.T Tryz.func107 H
end
def F158.T:bi:=⟨[(2,[0,1,2,3])],[(3,[[(0,[]),(1,[]),(2,[]),(3,[0]),(4,[])]]),(4,[[(0,[]),(1,[]),(2,[]),(3,[0]),(4,[])]])]⟩
section
variable (a:Int)(c b d:Addr)(h:aI)(K:KK)
def F158.wk2:Prop:=bR (rd h c) λc=>lg h c .u32 .u32 a (.agg #[]) λc=>lV (rd c b) λe=>a8 (rd c d) λf=>Cl 72 [aA f,aq a] c λc f=>aQ .u32 (some c) λc=>lV (rd f b) λg=>g=(e:Value)/\eD Tryz.prog X e [aq c] f λc e=>c=aE/\lV (rd e b) λc=>a8 (rd e d) λd=>Cl 73 [aA d,aq a] e λa d=>aQ .u32 (some a) λa=>lV (rd d b) λb=>b=(c:Value)/\eD Tryz.prog X c [aq a] d λa b=>a=aE/\K aE b
end
def F158.spec(H:bR (rd h a) λd=>dQ h d .u32 .u32 i λd=>lV (some (kS (.agg #[]) d)) λe=>bf h (.cells #[] 218) λf g=>dp Tryz.prog 218 (some (aw f)) e g λe=>aK (Option.isSome d) (K aE e) (aK (i<=1) (K aE e) (F158.wk2 i a b c e K))):Cl 158 [aq i,au a,au b,au c] h K:=cT F158.T Tryz.func158 H
def F268.T:bi:=⟨[(3,[0,1,5,14,15,16]),(12,[0,5])],[]⟩
section
variable (n:Nat)(f:Addr)(i:Option Nat)(j:Int)(c:az)(b d:Nat)(g a:Int)(h:aI)(K:KK)
def F268.wL3:Prop:=Lp Tryz.f268 F268.T [1,1,0,1,0] n [(0,(au f)),(1,(.map i)),(5,(ap j)),(14,(.slice c b d)),(15,(ap g)),(16,(ap a))] h K
def F268.wk12:Prop:=a8 (rd h (f.add 6)) λa=>Cl 113 [aA a] h λa b=>a=aE/\a8 (rd b (f.add 4)) λa=>Cl 200 [aA a] b λa b=>aQ .i64 (some a) λa=>Cl 111 [au f,ap (if a>32 then a else 32),.slice none 0 0] b λa b=>a=aE/\K (ap j) b
def F268.sL3:F268.wL3 (n+1) f i j c b d g a h K=(aK (a<g) (aY c λe=>0<=a/\a<(b:Int)/\bP (rd h ((e.add (a.toNat*4)).add 0)) λk=>aQ .i64 (rd h ((e.add (a.toNat*4)).add 1)) λl=>aQ .u32 (rd h ((e.add (a.toNat*4)).add 2)) λm=>aQ .u32 (rd h ((e.add (a.toNat*4)).add 3)) λe=>bf h (.cells #[aB,ap 0,aq 0,aq 0] 195) λo p=>aW p ((aw o).add 0) (aD k) λk=>aW k ((aw o).add 1) (ap l) λk=>aW k ((aw o).add 2) (aq m) λk=>aW k ((aw o).add 3) (aq e) λe=>dQ e i .u32 .u32 (IntKind.wrap .u32 (ax (a+2))) λk=>lV (some (kS (.agg #[]) k)) λl=>bf e (.cells #[] 218) λe m=>dp Tryz.prog 218 (some (aw e)) l m λe=>bP (rd e ((aw o).add 0)) λl=>aK l (aK (!(Option.isSome k)) (cx (rd e (f.add 2)) λk l _=>aY k λk=>0<=a/\a<(l:Int)/\aW e ((k.add (a.toNat*4)).add 0) aB λe=>aW e ((k.add (a.toNat*4)).add 1) (ap 0) λe=>aW e ((k.add (a.toNat*4)).add 2) (aq 0) λe=>aW e ((k.add (a.toNat*4)).add 3) (aq 0) λe=>cx (rd e (f.add 3)) λk l m=>bf e (.cells #[aq (IntKind.wrap .u32 (ax (a+2)))] 46) λe o=>fC o 46 1 4 #[aq 0] k l m (some (aw e)) 1 λe k l m=>aW m ((f.add 3).add 0) (.slice e k l) λe=>F268.wL3 n f i (ax (j+1)) c b d g (ax (a+1)) e K) (F268.wL3 n f i j c b d g (ax (a+1)) e K)) (F268.wL3 n f i j c b d g (ax (a+1)) e K)) (F268.wk12 f j h K)):=by kernel_rfl
def F268.wk3:Prop:=(∃e,F268.wL3 e f i j c b d g a h K)
def F268.spec(H:cx (rd h (f.add 2)) λa b c=>F268.wk3 f i 0 a b c (b:Int) 0 h K):Cl 268 [au f,.map i] h K:=cT F268.T Tryz.func268 H
end
def F267.T:bi:=⟨[(3,[0,1,6,14,15,16]),(9,[0,1,6]),(10,[0,6,9]),(15,[0,6,9,10])],[]⟩
section
variable (n:Nat)(f:Addr)(j:az)(g i:Nat)(l:Option Nat)(d:az)(b c:Nat)(q:az)(o s:Nat)(t r:Int)(h:aI)(K:KK)
def F267.wL10:Prop:=Lp Tryz.f267 F267.T [1,1,1,1,0,0] n [(0,(au f)),(6,(.map l)),(9,(.slice d b c))] h K
def F267.wL3:Prop:=Lp Tryz.f267 F267.T [1,1,0,1,0] n [(0,(au f)),(1,(.slice j g i)),(6,(.map l)),(14,(.slice q o s)),(15,(ap t)),(16,(ap r))] h K
def F267.wk15(z:Addr->(Option Nat)->(az)->Nat->Nat->aI->Prop)(f:Addr)(l:Option Nat)(d:az)(b c:Nat)(u:Int)(h:aI)(K:KK):Prop:=lg h l .u32 .u32 u (.agg #[]) λa=>Cl 72 [au f,aq u] a λa e=>aQ .u32 (some a) λa=>Cl 73 [au f,aq u] e λe g=>aQ .u32 (some e) λe=>bf g (.cells #[aq a,aq e] 46) λa e=>fC e 46 1 4 #[aq 0] d b c (some (aw a)) 2 λa b c d=>z f l a b c d
def F267.sL10:F267.wL10 (n+1) f l d b c h K=(aK ((b:Int)>(0:Int)) (aY d λa=>0<=(ax ((b:Int)-(1:Int)))/\(ax ((b:Int)-(1:Int)))<(b:Int)/\aQ .u32 (rd h (a.add ((ax ((b:Int)-(1:Int))).toNat*1))) λa=>0<=(ax ((b:Int)-(1:Int)))/\(ax ((b:Int)-(1:Int)))<=(c:Int)/\dQ h l .u32 .u32 a λe=>lV (some (kS (.agg #[]) e)) λg=>bf h (.cells #[] 218) λi j=>dp Tryz.prog 218 (some (aw i)) g j λg=>aK (Option.isSome e) (F267.wL10 n f l (if c=0 then d else Option.map (λa=>Addr.add a (0*1)) d) ((ax ((b:Int)-(1:Int))).toNat-0) (c-0) g K) (aK (a<=1) (F267.wL10 n f l (if c=0 then d else Option.map (λa=>Addr.add a (0*1)) d) ((ax ((b:Int)-(1:Int))).toNat-0) (c-0) g K) (F267.wk15 (λa b c d e f=>F267.wL10 n a b c d e f K) f l (if c=0 then d else Option.map (λa=>Addr.add a (0*1)) d) ((ax ((b:Int)-(1:Int))).toNat-0) (c-0) a g K))) (K (.tuple #[.map l,ap 0]) h)):=by kernel_rfl
def F267.wk10:Prop:=(∃a,F267.wL10 a f l d b c h K)
def F267.wk9:Prop:=Cl 299 [.slice j g i] h λa b=>cx (some a) λa c d=>F267.wk10 f l a c d b K
def F267.sL3:F267.wL3 (n+1) f j g i l q o s t r h K=(aK (r<t) (aY q λa=>0<=r/\r<(o:Int)/\aQ .u32 (rd h (a.add (r.toNat*1))) λa=>Cl 74 [au f,aq a] h λa b=>bP (some a) λa=>aK (!a) False (F267.wL3 n f j g i l q o s t (ax (r+1)) b K)) (F267.wk9 f j g i l h K)):=by kernel_rfl
def F267.wk3:Prop:=(∃a,F267.wL3 a f j g i l q o s t r h K)
def F267.spec(H:bf h (.map #[] 0) λa b=>F267.wk3 f j g i (some a) j g i (g:Int) 0 b K):Cl 267 [au f,.slice j g i] h K:=cT F267.T Tryz.func267 H
end
def F218.spec(H:Cl 267 [au a,.slice x u v] h λb c=> ∃d:Option Nat,∃e:Int,b=(.tuple #[.map d,ap e])/\aK (e !=0) (K (.tuple #[ap 0,ap e]) c) (Cl 268 [au a,.map d] c λa b=>aQ .i64 (some a) λa=>K (.tuple #[ap a,ap 0]) b)):Cl 218 [au a,.slice x u v] h K:=cN Tryz.func218 H
def F175.spec(H:Cl 213 [au b] h λb c=>cx (some b) λb d e=>Cl 218 [au a,.slice b d e] c λa b=> ∃c:Int,∃d:Int,a=(.tuple #[ap c,ap d])/\K (.tuple #[ap c,ap d]) b):Cl 175 [au a,au b] h K:=cN Tryz.func175 H
def F113.T:bi:=⟨[(1,[0,8,9])],[]⟩
section
variable (n:Nat)(a:Addr)(c b:Int)(h:aI)(K:KK)
def F113.wL1:Prop:=Lp Tryz.f113 F113.T [1,0] n [(0,(au a)),(8,(ap c)),(9,(ap b))] h K
def F113.sL1:F113.wL1 (n+1) a c b h K=(aK (b<c) (aQ .i64 (rd h (a.add 1)) λd=>a8 (rd h (a.add 0)) λe=>Cl 162 [aA e,ap (ax (d+(ax (3*b))))] h λe f=>aQ .u64 (some e) λe=>aK ((bo .and .u64 e 1)==0) (aK (e !=0) (a8 (rd f (a.add 0)) λg=>Cl 163 [aA g,ap (ax (d+(ax (3*b)))),ar e,ar (IntKind.wrap .u64 ((bo .andNot .u64 e 2)+4))] f λd e=>bP (some d) λ_=>F113.wL1 n a c (ax (b+1)) e K) (F113.wL1 n a c (ax (b+1)) f K)) (F113.wL1 n a c (ax (b+1)) f K)) (K aE h)):=by kernel_rfl
def F113.wk1:Prop:=(∃d,F113.wL1 d a c b h K)
def F113.spec(H:aQ .i64 (rd h (a.add 2)) λb=>F113.wk1 a b 0 h K):Cl 113 [au a] h K:=cT F113.T Tryz.func113 H
end
def F299.spec(H:aK (Option.isNone x) (K (.slice none 0 0) h) (bf h (.cells #[] 46) λa b=>fC b 46 1 4 #[aq 0] (some (aw a)) 0 0 x u λa b c d=>K (.slice a b c) d)):Cl 299 [.slice x u v] h K:=cN Tryz.func299 H
def BM{cs:List Int}(W:CW h c m mc base n cs ops fails)(hb:base<100000)(hv: ∀l,l<n->0<=cs.getD (base+3*l) 0/\cs.getD (base+3*l) 0<18446744073709551616/\cs.getD (base+3*l) 0%2=0)
  (hK: ∀h' ops' fails' cs',(∀l,l<n->0<=cs'.getD (base+3*l) 0/\cs'.getD (base+3*l) 0<18446744073709551616/\cs'.getD (base+3*l) 0%4=0)->CW h' c m mc base n cs' ops' fails'->aM [m,mc] h h'->K aE h'):
  Cl 113 [au (aw c)] h K:=by
 apply F113.spec;simp only[aL,MF];refine aH (n:=(n:Int)) (by rw[At.rd W.cac];rfl) ?_;unfold F113.wk1;have hn2:=W.hn2
 have: ∀(g i:Nat) (h1:aI) (cs1:List Int) (ops1 fails1:Int),n-i<g->i<=n->(∀l,l<i->0<=cs1.getD (base+3*l) 0/\cs1.getD (base+3*l) 0<18446744073709551616/\cs1.getD (base+3*l) 0%4=0)->
   (∀l,i<=l->l<n->cs1.getD (base+3*l) 0=cs.getD (base+3*l) 0)->CW h1 c m mc base n cs1 ops1 fails1->aM [m,mc] h h1->F113.wL1 g (aw c) (n:Int) (i:Int) h1 K:=by
  intro g
  induction g with
  |zero=>intro i h1 cs1 ops1 fails1 hg;omega
  |succ g ih=>
   intro i h1 cs1 ops1 fails1 hg hi z1 z2 W1 O1;rw[F113.sL1];by_cases hlt:i<n
   ·rw[MP ah,aO];simp only[aL,MF];have hc:=W1.hc;have ei:ax ((i:Int)+1)=((i+1:Nat):Int):=by rw[wrap_i64 ah ah];simp
    have ea:ax ((base:Int)+ax (3*(i:Int)))=((base+3*i:Nat):Int):=by rw[wrap_i64 (n:=3*(i:Int)) ah ah,wrap_i64 ah ah];simp
    refine aH (n:=(base:Int)) (by rw[At.rd W1.cac];rfl) (aR (by rw[At.rd W1.cac];rfl) ?_);rw[ea,ei];refine ff W1.mem ah ah λh2 M2 O2=>aH rfl ?_;rw[MO,z2 i (MN _) hlt];obtain⟨v0,v1,v2⟩:=hv i hlt;have hz2:=z2 i (MN _) hlt;generalize cs.getD (base+3*i) 0=V at*
    have O12:=O1.trans O2 λb hb _=>hb;have W2:CW h2 c m mc base n cs1 _ fails1:=⟨W1.cac.only O2 (by simp[W1.d4,W1.d5]),M2,W1.d4,W1.d5,W1.hn,W1.hn2,W1.hc,W1.hl⟩;rw[CV v0 ah,show(V%2==0)=true by simpa using v2,aO];refine aS (λe=> ?_) λe=> ?_
    ·refine aR (by rw[At.rd W2.cac];rfl) (oz M2 ah ah (λe' h3 M3 O3=>aZ rfl ?_) λe'=> ?_)
     ·rw[MO,v7 v0 ah,mE]at M3;have W3:CW h3 c m mc base n (cs1.set (base+3*i) ((4*(V/4)+V%2+4)%18446744073709551616)) _ fails1:=⟨W2.cac.only O3 (by simp[W1.d4,W1.d5]),M3,W1.d4,W1.d5,W1.hn,W1.hn2,by simpa using W1.hc,by simpa using W1.hl⟩;refine ih (i+1) h3 _ _ _ ah ah (λl hl=> ?_) (λl hl hln=> ?_) W3 (O12.trans O3 λb hb _=>hb)
      ·rw[dC ah];by_cases h':l=i
       ·subst h';rw[MK rfl];omega
       ·rw[MG ah];exact z1 l ah
      ·rw[dC ah,MG ah];exact z2 l ah hln
     ·rw[MO]at e';exact Nc hz2 e'
    ·refine ih (i+1) h2 cs1 _ fails1 ah ah (λl hl=> ?_) (λl hl hln=>z2 l ah hln) W2 O12;by_cases h':l=i
     ·subst h';have:V=0:=by simpa using e
      rw[hz2,this]
      decide
     ·exact z1 l ah
   ·rw[MJ ah,aJ];obtain rfl:i=n:=ah;exact hK h1 ops1 fails1 cs1 z1 W1 O1
 exact⟨n+1,this (n+1) 0 h cs ops fails ah ah ah (λ_ _ _=>rfl) W (aM.refl _ _)⟩
def cu(keep:Nat->Bool)(N:ay):ay:=N.mapIdx λi o=>if keep (i+2)then o else none
def gq(keep:Nat->Bool)(i:Nat)(a:Nat):Bool:=decide (i+2<=a)||keep a
def gh{N:ay}:(cu keep N).length=N.length:=by simp[cu]
def tc(i:Nat):nd (cu keep N) i=if keep (i+2)then nd N i else none:=by
 unfold nd cu;rw[OJ];cases h:N[i]? with
 |none=>simp
 |some o=>
  simp only[NF,Option.join_some]
def fu(h:N[i]? =some o):(cu keep N)[i]? =some (if keep (i+2)then o else none):=by
 unfold cu;rw[OJ,h]
 rfl
def qj:cu (gq keep 0) N=N:=by
 apply Ns;intro i;cases h:N[i]? with
 |none=>rw[Nb];rw[gh];exact NB.1 h
 |some o=>
  rw[fu h];unfold gq;rw[show decide (0+2<=i+2)=true by simp]
  rfl
def Ec{N:ay}:cu (gq keep N.length) N=cu keep N:=by
 apply Ns;intro i;cases h:N[i]? with
 |none=>rw[Nb,Nb]<;>rw[gh]<;>exact NB.1 h
 |some o=>
  have hl:=(MQ.1 h).1;rw[fu h,fu h];unfold gq;rw[show decide (N.length+2<=i+2)=false by simp;omega]
  rfl
def qd(h:N[i]? =some o):cu (gq keep (i+1)) N=(cu (gq keep i) N).set i (if keep (i+2)then o else none):=by
 have hl:=(MQ.1 h).1;apply Ns;intro k;rw[Nl];by_cases hk:i=k
 ·subst hk;rw[MK rfl,MK (by rw[gh];exact hl),fu h];unfold gq;rw[show decide (i+1+2<=i+2)=false by simp]
  rfl
 ·rw[MG hk];cases h2:N[k]? with
  |none=>rw[Nb,Nb]<;>rw[gh]<;>exact NB.1 h2
  |some o2=>
   rw[fu h2,fu h2];unfold gq
   rw[show decide (i+1+2<=k+2)=decide (i+2<=k+2) by
    by_cases z:i+1<=k
    ·rw[MP ah,MP ah]
    ·rw[MJ ah,MJ ah]]
def vw(h:N[i]? =some o):(cu (gq keep i) N)[i]? =some o:=by
 rw[fu h];unfold gq;rw[show decide (i+2<=i+2)=true by simp]
 rfl
def nT(H:cY n N)(hk: ∀i x,nd N i=some x->keep (i+2)=true->(x.2.1<2\/keep x.2.1=true)/\(x.2.2<2\/keep x.2.2=true)):cY n (cu keep N)/\(∀a,isN (cu keep N) a↔(a<2\/isN N a/\keep a=true))/\Ex (cu keep N) N:=by
 have ex:Ex (cu keep N) N:=λi x hx=>by
  rw[tc]at hx;split at hx
  ·exact hx
  ·cases hx
 have is: ∀a,isN (cu keep N) a↔(a<2\/isN N a/\keep a=true):=λa=>by
  constructor
  ·intro ha;rcases ha with q|⟨x,hx⟩
   ·exact .inl q
   ·rw[tc]at hx;by_cases a2:a<2
    ·exact .inl a2
    ·split at hx
     ·rename_i g;rw[show a-2+2=a by omega]at g;exact .inr ⟨.inr ⟨x,hx⟩,g⟩
     ·cases hx
  ·intro ha;rcases ha with q|⟨q|⟨x,hx⟩,r⟩
   ·exact .inl q
   ·exact .inl q
   ·by_cases a2:a<2
    ·exact .inl a2
    ·right;refine⟨x,?_⟩;rw[tc,show a-2+2=a by omega,MK r];exact hx
 refine⟨⟨λi x hx=> ?_,λi j x hi hj=>H.once i j x (ex i x hi) (ex j x hj)⟩,is,ex⟩;have h0:=ex i x hx
 have k:keep (i+2)=true:=by
  rw[tc]at hx;split at hx
  ·rename_i q;exact q
  ·cases hx
 obtain⟨a,b,c,d,e,f⟩:=H.node i x h0;obtain⟨k1,k2⟩:=hk i x h0 k;have i1:isN (cu keep N) x.2.1:=(is _).2 (by rcases k1 with q|q;exact .inl q;exact .inr ⟨b,q⟩);have i2:isN (cu keep N) x.2.2:=(is _).2 (by rcases k2 with q|q;exact .inl q;exact .inr ⟨c,q⟩);have l1:=ex.lvl (n:=n) i1;have l2:=ex.lvl (n:=n) i2;exact⟨a,i1,i2,d,by rw[<-l1];exact e,by rw[<-l2];exact f⟩
def EM(mo:List (Int×Value))(keep:Nat->Bool):Prop:= ∀k:Nat,(keep k=true->mo.lookup (k:Int)=some (.agg #[]))/\(keep k=false->mo.lookup (k:Int)=none)
def tG{l:List α}(h:l[i]? =some o):l.set i o=l:=by
 apply Ns;intro k;rw[Nl];split
 ·rename_i e;subst e;rw[MK (MQ.1 h).1,h]
 ·rfl
def lY: ∀{N:ay} {i:Nat},N[i]? =some (some x)->bj (N.set i none)+1=bj N
 | [],i,h=>by simp at h
 |o::N,0,h=>by simp at h;subst h;simp[bj]
 |o::N,i+1,h=>by have:=lY (N:=N) (i:=i) (by simpa using h);simp only[bj,NM,NQ]at this ⊢;omega
def SB.growf{h:aI}{B:SB}{s:Nat}{c:az}{fc':Nat}(H:(B.bm s).Nodup)(d: ∀b∈B.bm s,b<h.size)(hp: ∀b∈aV c,b∈aV B.fp\/h.size<=b):
  (SB.bm {B with fp:=c,fc:=fc'} s).Nodup/\ ∀b∈SB.bm {B with fp:=c,fc:=fc'} s,b∈B.bm s\/h.size<=b:=by
 refine⟨?_,λb hb=> ?_⟩
 ·unfold SB.bm at H ⊢;simp only at H ⊢;rw[Nq]at H ⊢;refine⟨H.1,qZ c,λa ha b hb e=> ?_⟩;rcases hp b hb with h1|h1
  ·exact H.2.2 a ha b h1 e
  ·have:=d a (by unfold SB.bm;exact Zp (.inl ha));omega
 ·simp only[SB.bm,List.mem_append]at hb ⊢;rcases hb with(hb|hb)|hb
  ·exact .inl (.inl (.inl hb))
  ·exact .inl (.inl (.inr hb))
  ·rcases hp b hb with h1|h1
   ·exact .inl (.inr h1)
   ·exact .inr h1
def yM{h:aI}{s n room:Nat}{B:SB}{f g:Nat->Nat}{Q:Int->Int->Prop}{off:Bool}{M:ay}{i:Nat}{x:Nd}{F1:List Nat}{b0:Nat}{KK:aI->Prop}(H:gZ h s n room B f g M F1 Q off)(hi:M[i]? =some (some x))(eb:B.p=some (aw b0))(a0:F1.length<M.length)(hs:s<h.size)
  (hK: ∀d fc' h',gZ h' s n room {B with fp:=d,fc:=fc'} f g (M.set i none) (F1++[i+2]) Q off->aM (s::aV B.p++aV B.fp) h h'->(∀b∈aV d,b∈aV B.fp\/h.size<=b)->KK h'):
  aW h ⟨b0,i*4,none⟩ aB (λR=>aW R ⟨b0,i*4+1,none⟩ (ap 0) (λA=>aW A ⟨b0,i*4+2,none⟩ (aq 0) (λZ=>aW Z ⟨b0,i*4+3,none⟩ (aq 0) (λt=>cx (rd t ⟨s,3,none⟩) (λu P J=>bf t (.cells #[(aq ((i+2:Nat):Int))] 46) (λY C=>fC C 46 1 4 #[(aq (0:Int))] u P J (some (aw Y)) 1 (λL U v I=>aW I ⟨s,3,none⟩ (.slice L U v) (λG=>KK G)))))))):=by
 have z:=(MQ.1 hi).1;have W:=H.own;rw[eb]at W;have nl:(gQ M).length=M.length*4:=gH M;have m:=H.len;refine cw.set (j:=i*4+0) W ah rfl λh2 W2 O2=>cw.set W2 (by simp;omega) rfl λh3 W3 O3=>cw.set W3 (by simp;omega) rfl λh4 W4 O4=>cw.set W4 (by simp;omega) rfl λh5 W5 O5=> ?_;rw[mA M i none _ _ _ _ z rfl]at W5;have O25:aM [b0] h h5:=((O2.trans O3 ak).trans O4 ak).trans O5 ak;have a:=H.sep
 have nb: ∀y∈[s,B.ob,B.cac,B.cm,B.cmc]++aV B.fp,y∉[b0]:=λy hy hm=>by
  simp only[MH]at hm;subst hm;unfold SB.bm at a;simp only[Nq,List.mem_append,PY]at a;obtain⟨⟨_,_,g2⟩,_,g4⟩:=a;have o:y∈aV B.p:=by rw[eb];simp[aV]
  rcases Zq hy with h|h
  ·exact g2 y h y o rfl
  ·exact g4 y (.inr o) y h rfl
 have nf: ∀y∈[s,B.ob,B.cac,B.cm,B.cmc]++aV B.p,y∉aV B.fp:=λy hy hm=>by unfold SB.bm at a;simp only[Nq,List.mem_append,PY]at a;obtain⟨⟨_,_,g2⟩,_,g4⟩:=a;exact g4 y (by simpa only[List.mem_append]using hy) y hm rfl
 have ns: ∀y∈[B.ob,B.cac,B.cm,B.cmc]++aV B.p++aV B.fp,y∉[s]:=λy hy hm=>by simp only[MH]at hm;subst hm;unfold SB.bm at a;simp only[NV,Nt,NN]at a;exact a.1 (by simpa[or_assoc]using hy)
 have S5:=H.S.only O25 (nb _ ak);have z5:=O25.size;refine bB (p:=B.fp) (l:=F1.length) (c:=B.fc) (by rw[At.rd S5];rfl) ?_;have D:=H.fre.only O25 λy hy=>nb _ (Zp (.inr hy));refine aX λh6 A6 O6 z6=> ?_;refine xo (D.only O6 ak) A6 ah rfl ah λd fc' h7 W7 O7 V=> ?_;have lp: ∀b∈aV B.fp,b<h.size:=λb hb=>(H.fre.lt b hb).2;have S7:=(S5.only O6 ak).only O7 (λhm=>nf s ak hm);refine aU S7 (by simp[ja]) rfl λh8 A8 O8 z8=> ?_;have O58:aM (s::aV B.fp) h5 h8:=((O6.mono ak).trans O7 (by intro b hb _;simp[hb])).trans O8 (by intro b hb _;simp at hb;simp[hb])
 have nn: ∀y∈[B.ob,B.cac,B.cm,B.cmc]++aV B.p,y∉s::aV B.fp:=λy hy hm=>by
  rcases List.mem_cons.1 hm with e|e
  ·exact ns y (Zp (.inl hy)) (by simp[e])
  ·exact nf y (by rcases Zq hy with q|q;exact Zp (.inl (Nh _ q));exact Zp (.inr q)) e
 have k: ∀b∈aV d,b∈aV B.fp\/h.size<=b:=λb hb=>by
  rcases V b hb with q|q
  ·exact .inl q
  ·exact .inr ah
 have es:s∉aV d:=λhm=>by
  rcases k s hm with q|q
  ·exact nf s ak q
  ·omega
 have el:(M.set i none).length=M.length:=ak;have g1:=SB.growf (fc':=fc') a H.lt k;refine hK d fc' h8 ⟨?_,(H.O.only O25 (nb _ ak)).only O58 (nn _ ak),?_,?_,(H.cac.only O25 (nb _ ak) (nb _ ak) (nb _ ak)).only O58 (nn _ ak) (nn _ ak) (nn _ ak),H.n8,by rw[el];exact⟨m.1,m.2.1,by simp;omega⟩,g1.1⟩ ((O25.mono (by intro b hb _;simp at hb;subst hb;rw[eb];simp[aV])).trans O58 (by intro b hb _;rcases List.mem_cons.1 hb with q|q;simp[q];exact Zp (.inr q))) k
 ·rw[el,MZ];exact A8
 ·rw[el];show cw h8 0 4 B.p M.length B.c _;rw[eb]
  exact W5.only O58 λb hb=>by injection hb with hb;injection hb with hb;subst hb;exact nn b0 (by rw[eb];simp[aV])
 ·have:o0 (F1++[i+2])=o0 F1++[aq ((i+2:Nat):Int)]:=by simp[o0]
  rw[this,MZ];exact W7.only O8 λb hb hm=>es (by simp at hm;subst hm;exact hb)
def EP(k:keep (i+2)=true)(hi:N[i]? =some o):cu (gq keep (i+1)) N=cu (gq keep i) N:=by rw[qd hi,MK k,tG (vw hi)]
def Du(hi:N[i]? =some none):cu (gq keep (i+1)) N=cu (gq keep i) N:=by rw[qd hi,show(if keep (i+2)=true then none else none:Option Nd)=none by split<;>rfl,tG (vw hi)]
def Ea(k:keep (i+2)=false)(hi:N[i]? =some o):cu (gq keep (i+1)) N=(cu (gq keep i) N).set i none:=by
 rw[qd hi,k]
 rfl
structure Rt(h0 h:aI)(s n room:Nat)(B:SB)(f g:Nat->Nat)(N:ay)(Q:Int->Int->Prop)(off:Bool)(mb:Nat)(mo:List (Int×Value))(keep:Nat->Bool)(i:Nat)(fp:az)(fc:Nat)(F:List Nat):Prop where
 m:gZ h s n room {B with fp:=fp,fc:=fc} f g (cu (gq keep i) N) F Q off
 M:bS h mb .u32 mo
 cnt:N.length=bj (cu (gq keep i) N)+F.length
 fre:F.Nodup/\ ∀a∈F,2<=a/\a-2<N.length/\nd (cu (gq keep i) N) (a-2)=none
 O:aM (B.bm s) h0 h
 fr: ∀b∈aV fp,b∈aV B.fp\/h0.size<=b
def uP{B:SB}{N:ay}{h0:aI}(sep0:(B.bm s).Nodup)(Hk:EM mo keep)(dm:mb∉B.bm s)(lm:mb<h0.size)(lb: ∀b∈B.bm s,b<h0.size)(hn:N.length<=room/\room<=32768)
  (hK: ∀h' fp fc F gone,Rt h0 h' s n room B f g N Q off mb mo keep N.length fp fc F->F268.wk12 (aw s) gone h' K):
  ∀(d i:Nat) (h':aI) (fp:az) (fc:Nat) (F:List Nat) (gone:Int),i+d=N.length->Rt h0 h' s n room B f g N Q off mb mo keep i fp fc F->
   F268.wL3 (d+1) (aw s) (some mb) gone B.p N.length B.c (N.length:Int) (i:Int) h' K:=by
 intro d
 induction d with
 |zero=>
  intro i h' fp fc F gone hd R;rw[F268.sL3];rw[MJ ah,aJ];obtain rfl:i=N.length:=ah;exact hK h' fp fc F gone R
 |succ d ih=>
  intro i h' fp fc F gone hd R;have hi:i<N.length:=ah;obtain⟨o,ho⟩: ∃o,N[i]? =some o:=⟨_,MT hi⟩;have hm:=vw (keep:=keep) ho;obtain⟨b,eb,rr⟩:=R.m.cells hm;have eb:B.p=some (aw b):=eb;have z0:=R.O.size
  have hw:IntKind.wrap .u32 (ax ((i:Int)+2))=((i+2:Nat):Int):=by rw[wrap_i64 ah ah,show(i:Int)+2=((i+2:Nat):Int) by omega];exact gC ah
  have hs1:s<h'.size:=R.m.S.lt
  have stay: ∀k6,aM [] h' k6->cu (gq keep (i+1)) N=cu (gq keep i) N->F268.wL3 (d+1) (aw s) (some mb) gone B.p N.length B.c (N.length:Int) (ax ((i:Int)+1)) k6 K:=λk6 P e=>by rw[show ax ((i:Int)+1)=((i+1:Nat):Int) by rw[wrap_i64 ah ah];omega];refine ih (i+1) k6 fp fc F gone ah ⟨?_,R.M.only P ak,by rw[e];exact R.cnt,by rw[e];exact R.fre,R.O.trans P ak,R.fr⟩;rw[e];exact R.m.only P ak
  rw[F268.sL3];rw[MP ah,aO,eb,aT];refine⟨ah,ah,?_⟩;rw[<-eb];simp only[aL,MF];rw[show Int.toNat (i:Int)*4=i*4 by omega,hw]
  obtain⟨tv,lv,av,bv,ec⟩: ∃tv lv av bv,dr o=[aD tv,ap lv,aq av,aq bv]:=by
   cases o with
   |none=>exact⟨_,_,_,_,rfl⟩
   |some x=>exact⟨_,_,_,_,rfl⟩
  rw[ec]at rr;refine aZ (by rw[<-ML (i*4),rr 0 ah];rfl) (aH (by rw[rr 1 ah];rfl) (aH (by rw[rr 2 ah];rfl) (aH (by rw[rr 3 ah];rfl) ?_)));refine aX λk1 B1 P1 y1=> ?_;refine aU B1 ak rfl λk2 B2 P2 y2=>aU B2 ak rfl λk3 B3 P3 y3=>aU B3 ak rfl λk4 B4 P4 y4=>aU B4 ak rfl λk5 B5 P5 y5=> ?_
  replace B5:At k5 h'.size [aD tv,ap lv,aq av,aq bv]:=B5
  have P15:aM [] h' k5:=(((P1.trans P2 (by intro b hb hl;simp at hb;omega)).trans P3 (by intro b hb hl;simp at hb;omega)).trans P4 (by intro b hb hl;simp at hb;omega)).trans P5 (by intro b hb hl;simp at hb;omega)
  have tail: ∀(o12:Option (Nat×Value)),(o12.isSome=keep (i+2))->(kS (.agg #[]) o12= .agg #[])-> ∀KK:aI->Prop,(∀k6,aM [] h' k6->k5.size<=k6.size->aK tv (aK (!(keep (i+2))) (KK k6) (F268.wL3 (d+1) (aw s) (some mb) gone B.p N.length B.c (N.length:Int) (ax ((i:Int)+1)) k6 K)) (F268.wL3 (d+1) (aw s) (some mb) gone B.p N.length B.c (N.length:Int) (ax ((i:Int)+1)) k6 K))->
    lV (some (kS (.agg #[]) o12)) (λv13=>bf k5 (.cells #[] 218) (λb14 h15=>dp Tryz.prog 218 (some (aw b14)) v13 h15 (λh16=>bP (rd h16 (aw h'.size)) (λb17=>aK b17 (aK (!(Option.isSome o12)) (KK h16) (F268.wL3 (d+1) (aw s) (some mb) gone B.p N.length B.c (N.length:Int) (ax ((i:Int)+1)) h16 K)) (F268.wL3 (d+1) (aw s) (some mb) gone B.p N.length B.c (N.length:Int) (ax ((i:Int)+1)) h16 K))))):=by
   intro o12 e1 e2 KK hk;rw[e2];refine⟨_,rfl,?_⟩;refine aX λk6 B6 P6 y6=> ?_;refine je ?_;have C6:=B5.only P6 ak;have P16:aM [] h' k6:=P15.trans P6 ak;refine aZ (by rw[At.rd C6 0];rfl) ?_;rw[e1];exact hk k6 P16 ah
  have body: ∀k6,aM [] h' k6->k5.size<=k6.size->aK tv (aK (!(keep (i+2))) (cx (rd k6 ⟨s,2,none⟩) (λp18 l19 _=>aY p18 (λa21=>(0<=(i:Int)/\(i:Int)<(Nat.cast l19:Int)/\aW k6 (Addr.add (Addr.add a21 (i*4)) 0) aB (λh22=>aW h22 (Addr.add (Addr.add a21 (i*4)) 1) (ap (0:Int)) (λh23=>aW h23 (Addr.add (Addr.add a21 (i*4)) 2) (aq (0:Int)) (λh24=>aW h24 (Addr.add (Addr.add a21 (i*4)) 3) (aq (0:Int)) (λh25=>cx (rd h25 ⟨s,3,none⟩) (λp26 l27 c28=>bf h25 (.cells #[(aq ((i+2:Nat):Int))] 46) (λb29 h30=>fC h30 46 1 4 #[(aq (0:Int))] p26 l27 c28 (some (aw b29)) 1 (λp31 l32 c33 h34=>aW h34 ⟨s,3,none⟩ (.slice p31 l32 c33) (λh35=>F268.wL3 (d+1) (aw s) (some mb) (ax (gone+(1:Int))) B.p N.length B.c (N.length:Int) (ax ((i:Int)+(1:Int))) h35 K)))))))))))) (F268.wL3 (d+1) (aw s) (some mb) gone B.p N.length B.c (N.length:Int) (ax ((i:Int)+1)) k6 K)) (F268.wL3 (d+1) (aw s) (some mb) gone B.p N.length B.c (N.length:Int) (ax ((i:Int)+1)) k6 K):=by
   intro k6 P16 y6;cases o with
   |none=>
    simp only[dr,NL,Value.bool.injEq]at ec;rw[<-ec.1,aJ];exact stay k6 P16 (Du ho)
   |some x=>
    simp only[dr,NL,Value.bool.injEq,Value.int.injEq,OV,Qd]at ec;rw[<-ec.1,aO];cases hkp:keep (i+2)with
    |true=>rw[Ng,aJ];exact stay k6 P16 (EP hkp ho)
    |false=>
     rw[Nx,aO];have m6:=R.m.only P16 ak;have el:(cu (gq keep i) N).length=N.length:=gh;refine bB (p:=B.p) (l:=N.length) (c:=B.c) (by rw[At.rd m6.S,el];rfl) ?_;rw[eb,aT];refine⟨ah,ah,?_⟩;simp only[aL,MF,ML]
     have c1:F.length<N.length:=by have:0<bj (cu (gq keep i) N):=List.countP_pos_iff.2 ⟨some x,MM hm,rfl⟩;have:=R.cnt;omega
     refine yM (B:={B with fp:=fp,fc:=fc}) m6 hm eb (by rw[el];exact c1) (by have:=P16.size;omega) λfp' fc' h7 H7 O7 hf7=> ?_;rw[show ax ((i:Int)+1)=((i+1:Nat):Int) by rw[wrap_i64 ah ah];omega,<-eb];have e:=Ea hkp ho;have z6:=P16.size
     have ni:i+2∉F:=λhm2=>by have:=(R.fre.2 _ hm2).2.2;rw[show i+2-2=i by omega]at this;rw[dh.2 hm]at this;cases this
     have sub: ∀b∈s::aV B.p++aV fp,b<h0.size->b∈B.bm s:=λb hb hl=>by
      simp only[SB.bm,List.mem_append,List.mem_cons]at hb ⊢;rcases hb with(q|q)|q
      ·exact .inl (.inl (.inl q))
      ·exact .inl (.inr q)
      ·rcases R.fr b q with r|r
       ·exact .inr r
       ·omega
     have nm:mb∉s::aV B.p++aV fp:=λhm2=>dm (sub mb hm2 lm);refine ih (i+1) h7 fp' fc' _ _ ah ⟨by rw[e];exact H7,(R.M.only P16 ak).only O7 nm,?_,?_,(R.O.trans P16 ak).trans O7 sub,λb hb=> ?_⟩
     ·rw[e];have:=lY hm;have:=R.cnt;simp;omega
     ·rw[e];refine⟨Nq.2 ⟨R.fre.1,ak,λa ha c hc e2=> ?_⟩,λa ha=> ?_⟩
      ·simp at hc;subst hc e2;exact ni ha
      ·rw[fy (by rw[el];exact hi)];rcases Zq ha with q|q
       ·obtain⟨q1,q2,q3⟩:=R.fre.2 a q;refine⟨q1,q2,?_⟩;split
        ·rfl
        ·exact q3
       ·simp at q;subst q;exact⟨ah,ah,by rw[MK ah]⟩
     ·rcases hf7 b hb with q|q
      ·exact R.fr b q
      ·exact .inr ah
  refine c8 (m:=mo) (R.M.only P15 ak) (λhn=> ?_) λj v hv=> ?_
  ·have k0:keep (i+2)=false:=by
    cases hk:keep (i+2)with
    |false=>rfl
    |true=>
     rw[(Hk (i+2)).1 hk]at hn;cases hn
   exact tail none (by rw[k0];rfl) rfl _ body
  ·have k1:keep (i+2)=true:=by
    cases hk:keep (i+2)with
    |true=>rfl
    |false=>
     rw[(Hk (i+2)).2 hk]at hv;cases hv
   rw[(Hk (i+2)).1 k1]at hv;injection hv with hv;subst hv;exact tail (some (j,.agg #[])) (by rw[k1];rfl) rfl _ body
def yD{h:aI}{B:SB}(Q':Int->Int->Prop)(H:nH h s n room B f g N F Q off)(M0:bS h mb .u32 mo)(Hk:EM mo keep)(dm:mb∉B.bm s++B.bt)
  (hk: ∀i x,nd N i=some x->keep (i+2)=true->(x.2.1<2\/keep x.2.1=true)/\(x.2.2<2\/keep x.2.2=true))
  (hK: ∀h' B' F' v,nH h' s n room B' f g (cu keep N) F' Q' off->aM (B.bm s++B.bt) h h'->(∀y∈B'.bm s++B'.bt,y∈B.bm s++B.bt\/h.size<=y)->K (ap v) h'):
  Cl 268 [au (aw s),.map (some mb)] h K:=by
 have C:=H.m.len;have M:=H.m.n8;apply F268.spec;simp only[aL,MF];refine bB (p:=B.p) (l:=N.length) (c:=B.c) (by rw[At.rd H.m.S];rfl) ?_;unfold F268.wk3;have U:mb∉B.bm s:=λhm=>dm (Zp (.inl hm));have R0:Rt h h s n room B f g N Q off mb mo keep 0 B.fp B.fc F:=⟨by rw[qj];exact H.m,M0,by rw[qj];exact H.cnt,by rw[qj];exact H.fre,aM.refl _ _,λb hb=> .inl hb⟩;refine⟨_,uP H.m.sep Hk U M0.lt H.m.lt ⟨C.1,C.2.1⟩ (λh1 fp fc F1 v R=> ?_) N.length 0 h B.fp B.fc F 0 ah R0⟩;obtain⟨m1,-,D,u,O1,V⟩:=R;rw[Ec]at m1 D u;have el:(cu keep N).length=N.length:=gh;obtain⟨G,Y,Gt⟩:=nT H.ok hk;have A: ∀b∈B.bt,b∉B.bm s:=H.t.sep;have T1:=H.t.only O1 λb hb hm=>A b hm hb;unfold F268.wk12;simp only[aL,MF];refine aR (by rw[At.rd m1.S];rfl) ?_;obtain⟨cs,ops,fails,W1,S1⟩:=m1.cac;have W1:CW h1 B.cac B.cm B.cmc 0 256 cs ops fails:=W1;refine BM W1 ah (λl hl=> ?_) λh2 I z P z2 W2 O2=>⟨rfl,?_⟩
 ·rw[MF];have:=S1 l hl;exact⟨this.1,this.2.1,this.2.2.1⟩
 have d:=m1.sep
 have nm: ∀y∈[s,B.ob,B.cac]++aV B.p++aV fp,y∉[B.cm,B.cmc]:=λy hy hm=>by
  have d:([s,B.ob,B.cac,B.cm,B.cmc]++aV B.p++aV fp).Nodup:=d;simp only[NV,NN,Nt,List.mem_cons,List.mem_append,Oz]at d;obtain⟨⟨a1,a2,a3,a4,a5,a6⟩,⟨b1,b2,b3,b4,b5⟩,⟨c1,c2,c3,c4⟩,⟨d1,d2,d3⟩,⟨e1,e2⟩,-⟩:=d;simp only[List.mem_cons,Nw,NP]at hm;simp only[NV,NN,List.mem_cons,List.mem_append]at hy;rcases hy with q|q|q|q|q<;>rcases hm with r|r<;>subst r
  ·exact a3 q.symm
  ·exact a4 q.symm
  ·exact b2 q.symm
  ·exact b3 q.symm
  ·exact c1 q.symm
  ·exact c2 q.symm
  ·exact d2 q
  ·exact e1 q
  ·exact d3 q
  ·exact e2 q
 have nt: ∀y∈B.bt,y∉[B.cm,B.cmc]:=λy hy hm=>A y hy (by simp at hm;rcases hm with q|q<;>subst q<;>simp[SB.bm]);have S2:=m1.S.only O2 (nm _ ak);have S2':At h2 s (uU room {B with fp:=fp,fc:=fc} (cu keep N).length F1.length off (au (aw B.tb)) (.map (some B.sb))):=S2;have T2:=T1.only O2 λb hb hm=>nt b hm hb;refine aR (by rw[At.rd S2];rfl) ?_;obtain⟨T,⟨Z,mm,W,J,t1,t2,t3,L⟩,t5,t6,t7⟩:=T2.tab;refine gr t1 (aH rfl ?_)
 have T32:32<=T:=by obtain⟨k,e⟩:=t5;have:=OC k;omega
 rw[show(if(T:Int)>32 then(T:Int)else 32)=(T:Int) by split<;>omega]
 have a0:bj (cu keep N)<=bj N:=by
  have:=H.cnt
  have h1: ∀(N:ay) (k:Nat->Bool),bj (N.mapIdx λi o=>if k i then o else none)<=bj N:=by
   intro N
   induction N with
   |nil=>intro k;simp[bj]
   |cons o N ih=>
    intro k;have:=ih λi=>k (i+1);simp only[bj,List.mapIdx_cons,NQ]at this ⊢;split
    ·omega
    ·simp;omega
  exact h1 N λi=>keep (i+2)
 have R2:Id h2 s n room {B with fp:=fp,fc:=fc} f g (cu keep N) F1 Q':=
  ⟨m1.O.only O2 (nm _ ak),m1.own.only O2 λb hb=>nm _ (by rw[show B.p=_ from hb];simp[aV]),m1.fre.only O2 λb hb=>nm _ (Zp (.inr hb)),⟨P,I,z,W2,λl hl=>by have:=z2 l hl;rw[MF]at this;exact⟨this.1,this.2.1,ah,λe=>ah⟩⟩,m1.n8,m1.len,m1.sep⟩
 refine od (bl:=[]) S2' R2 (λi hi=>by simp at hi) (λa e=>by cases e) ak (λi x hx=> ?_) (λi j x hi hj=> ?_) t5 (by rw[dM];omega) t7 λtb m mc sb h3 m3 T3 _ g1 g2 g3 g4 O3=>⟨rfl,?_⟩
 ·rw[dM]at hx;exact G.ndok M.2 (by rw[el];omega) hx
 ·rw[dM]at hi hj;exact G.once i j x hi hj
 rw[dM]at T3;have z1:=O1.size;have a7:=O2.size;have z3:=O3.size;refine hK h3 _ F1 v ⟨m3,T3,G,by rw[el];exact D,u.1,λa ha=>by rw[el];exact u.2 a ha⟩ (((O1.mono λb hb _=>Zp (.inl hb)).trans O2 λb hb _=>Zp (.inl (by simp at hb;rcases hb with q|q<;>subst q<;>simp[SB.bm]))).trans O3 λb hb _=>Zp (.inl (by simp at hb;subst hb;simp[SB.bm]))) λy hy=> ?_
 have new: ∀y,y∈SB.bt (SB.tabs {B with fp:=fp,fc:=fc} tb m mc sb)->h.size<=y:=λy hy=>by simp[SB.bt,SB.tabs]at hy;omega
 rcases Zq hy with q|q
 ·have q:y∈[s,B.ob,B.cac,B.cm,B.cmc]++aV B.p++aV fp:=q;simp only[SB.bm,List.mem_append]at q ⊢;rcases q with(q|q)|q
  ·exact .inl (.inl (.inl (.inl q)))
  ·exact .inl (.inl (.inl (.inr q)))
  ·rcases V y q with r|r
   ·exact .inl (.inl (.inr r))
   ·exact .inr r
 ·exact .inr (new y q)
def vG{h:aI}{s:Nat}{L:List Nat}{X:SX}{mb:Nat}{mo:List (Int×Value)}{keep:Nat->Bool}{K:KK}(Q':Int->Int->Prop)(H:bV h s L X)(M0:bS h mb .u32 mo)(Hk:EM mo keep)(dm:mb∉L)
  (hk: ∀i x,nd X.N i=some x->keep (i+2)=true->(x.2.1<2\/keep x.2.1=true)/\(x.2.2<2\/keep x.2.2=true))
  (hK: ∀h' L' a,bV h' s L' {X with N:=cu keep X.N,Q:=Q'}->aM L h h'->bH L L' h->K (ap a) h'):
  Cl 268 [au (aw s),.map (some mb)] h K:=by
 obtain⟨B,F,e,H⟩:=H;subst e;exact yD Q' H M0 Hk dm hk λh' B' F' a S O fr=>hK h' _ a ⟨B',F',rfl,S⟩ O fr
def swp(g:Nat->Int)(i j:Nat):Nat->Int:=λk=>if k=j then g i else if k=i then g j else g k
inductive dz (a b:Nat):(Nat->Int)->(Nat->Int)->Prop
 |refl (g:Nat->Int):dz a b g g
 |step {g g':Nat->Int} {i j:Nat}:a<=i->i<b->a<=j->j<b->dz a b (swp g i j) g'->dz a b g g'
def dz.trans(H:dz a b f g)(G:dz a b g k):dz a b f k:=by
 induction H with
 |refl _=>exact G
 |step h1 h2 h3 h4 _ ih=>exact .step h1 h2 h3 h4 (ih G)
def dz.one(g:Nat->Int)(h1:a<=i)(h2:i<b)(h3:a<=j)(h4:j<b):dz a b g (swp g i j):= .step h1 h2 h3 h4 (.refl _)
def dz.mono(H:dz a b f g)(ha:a'<=a)(hb:b<=b'):dz a' b' f g:=by
 induction H with
 |refl g=>exact .refl g
 |step h1 h2 h3 h4 _ ih=>exact .step ah ah ah ah ih
def dz.out(H:dz a b f g)(hk:k<a\/b<=k):g k=f k:=by
 induction H with
 |refl g=>rfl
 |step h1 h2 h3 h4 _ ih=>
  rw[ih];unfold swp;rw[MG ah,MG ah]
def dz.all{a b:Nat}{f g:Nat->Int}(H:dz a b f g){Q:Int->Prop}(h: ∀k,a<=k->k<b->Q (f k)): ∀k,a<=k->k<b->Q (g k):=by
 induction H with
 |refl g=>exact h
 | @step g g' i j h1 h2 h3 h4 _ ih=>
  apply ih;intro k d c;unfold swp;split
  ·exact h i h1 h2
  ·split
   ·exact h j h3 h4
   ·exact h k d c
def dz.perm(H:dz a b f g)(hb:b<=n):((List.range n).map g).Perm ((List.range n).map f):=by
 induction H with
 |refl g=>exact Ql _
 | @step g g' i j h1 h2 h3 h4 _ ih=>
  refine ih.trans ?_
  have e:(List.range n).map (swp g i j)=((List.range n).map λk=>if k=j then i else if k=i then j else k).map g:=by
   rw[On];apply NG;intro k _;simp only[Function.comp,swp];split
   ·rfl
   ·split<;>rfl
  rw[e];refine List.Perm.map g ?_;refine(List.perm_ext_iff_of_nodup ?_ List.nodup_range).2 λk=> ?_
  ·refine List.Pairwise.map _ (λx y (c:x≠y)=> ?_) List.nodup_range
   (repeat' split)<;>omega
  ·rw[MY];constructor
   ·rintro ⟨x,hx,rfl⟩;rw[NA]at hx ⊢;split
    ·omega
    ·split<;>omega
   ·intro hk;rw[NA]at hk;by_cases h:k=j
    ·exact⟨i,by rw[NA];omega,by by_cases h':i=j<;>simp[h,h']⟩
    ·by_cases h':k=i
     ·exact⟨j,by rw[NA];omega,by simp[h']⟩
     ·exact⟨k,by rw[NA];omega,by simp[h,h']⟩
def fZ(a b:Nat)(g:Nat->Int):Prop:= ∀p q,a<=p->p<q->q<b->g p<=g q
def fZ.single(g:Nat->Int)(h:b<=a+1):fZ a b g:=λp q _ _ _=>ah
def xN(a i j:Nat)(g:Nat->Int):Prop:= ∀p q,a<=p->p<q->q<=i->q≠j->g p<=g q
def xN.start(H:fZ a i g):xN a i i g:=λp q h1 h2 h3 h4=>H p q h1 h2 ah
def xN.stop(H:xN a i j g)(h:j<=a\/g (j-1)<=g j):fZ a (i+1) g:=λp q h1 h2 h3=>by
 by_cases hq:q=j
 ·subst hq;rcases h with h|h
  ·omega
  ·by_cases hp:p=q-1
   ·subst hp;exact h
   ·exact Ph (H p (q-1) h1 ah ah ah) h
 ·exact H p q h1 h2 ah hq
def jE(g:Nat->Int)(i j:Nat):swp g i j i=g j:=by
 unfold swp;by_cases h:i=j
 ·rw[MK h,h]
 ·rw[MG h,MK rfl]
def oA(g:Nat->Int)(i j:Nat):swp g i j j=g i:=MK rfl
def dO(g:Nat->Int)(hi:k≠i)(hj:k≠j):swp g i j k=g k:=by unfold swp;rw[MG hj,MG hi]
def xN.step(H:xN a i j g)(hj:a<j)(b:j<=i)(hl:g j<g (j-1)):xN a i (j-1) (swp g j (j-1)):=λp q h1 h2 h3 h4=>by
 by_cases hq:q=j
 ·subst hq;rw[jE];by_cases hp:p=q-1
  ·subst hp;rw[oA];omega
  ·rw[dO g ah hp];exact H p (q-1) h1 ah ah ah
 ·rw[dO g hq h4];by_cases hp:p=j
  ·subst hp;rw[jE];exact H (p-1) q ah ah h3 hq
  ·by_cases hp':p=j-1
   ·subst hp';rw[oA];exact H j q ah ah h3 hq
   ·rw[dO g hp hp'];exact H p q h1 h2 h3 hq
def cd(q:IntKind)(h:aI)(b n:Nat)(g:Nat->Int)(sp:List Value):Prop:=At h b (cX n (λk=> .int q (g k))++sp)
def cd.rd(A:cd q h b n g sp)(hk:k<n):Ev.rd h ⟨b,k,none⟩=some (.int q (g k)):=by rw[At.rd A,MW (by rw[bZ];exact hk),dk hk]
def cd.only(A:cd q h b n g sp)(O:aM S h h')(hb:b∉S):cd q h' b n g sp:=At.only A O hb
def cd.st(A:cd q h b n g sp)(hk:k<n)
  (hK: ∀h',cd q h' b n (λj=>if j=k then v else g j) sp->aM [b] h h'->K h'):aW h ⟨b,k,none⟩ (.int q v) K:=
 aU A (by simp[bZ];omega) rfl λh' A' O' _=>hK h' (by
  have e:(cX n (λj=>Value.int q (g j))++sp).set k (.int q v)=cX n (λj=>Value.int q (if j=k then v else g j))++sp:=by
   rw[Pu _ _ (by rw[bZ];exact hk),il]
   congr 1
   apply fq;intro j _;split<;>rfl
  rw[e]at A';exact A') O'
def cd.ld{q:IntKind}{h:aI}{b n:Nat}{g:Nat->Int}{sp:List Value}(A:cd q h b n g sp){x:Int}{k:Nat}(hx:x=k)(hk:k<n){Q:Int->Prop}(hQ:Q (g k)):
  aY (some (aw b)) λa=>(0<=x/\x<(n:Int)/\aQ q (Ev.rd h (Addr.add a (Int.toNat x*1))) Q):=by
 subst hx;rw[aT];refine⟨ah,ah,?_⟩;rw[aL,show 0+Int.toNat (k:Int)*1=k by omega,A.rd hk,bh];exact hQ
def cd.sto{q:IntKind}{h:aI}{b n:Nat}{g:Nat->Int}{sp:List Value}(A:cd q h b n g sp){x:Int}{k:Nat}(hx:x=k)(hk:k<n){v:Int}{K:aI->Prop}
  (hK: ∀h',cd q h' b n (λj=>if j=k then v else g j) sp->aM [b] h h'->K h'):
  aY (some (aw b)) λa=>(0<=x/\x<(n:Int)/\aW h (Addr.add (Addr.add a (Int.toNat x*1)) 0) (.int q v) K):=by
 subst hx;rw[aT];refine⟨ah,ah,?_⟩;rw[aL,aL,show 0+Int.toNat (k:Int)*1+0=k by omega];exact A.st hk hK
def F67.spec(H:bf h (.map #[] 0) λa b=>0<=(if 4<(if 1>i then 1 else i)then 4 else(if 1>i then 1 else i))/\(if 4<(if 1>i then 1 else i)then 4 else(if 1>i then 1 else i))<=(if 4<(if 1>i then 1 else i)then 4 else(if 1>i then 1 else i))/\(24*(if 4<(if 1>i then 1 else i)then 4 else(if 1>i then 1 else i))<=281474976710656)/\(if 4<(if 1>i then 1 else i)then 4 else(if 1>i then 1 else i))<=9223372036854775807/\bf b (.cells (madeCells #[.slice none 0 0] ((if 4<(if 1>i then 1 else i)then 4 else(if 1>i then 1 else i)).toNat*1)) 56) λb c=>bf c (.cells #[.map (some a),.slice (some (aw b)) ((if 4<(if 1>i then 1 else i)then 4 else(if 1>i then 1 else i)).toNat) ((if 4<(if 1>i then 1 else i)then 4 else(if 1>i then 1 else i)).toNat)] 207) λa b=>K (au (aw a)) b):Cl 67 [ap i] h K:=cN Tryz.func67 H
def F174.T:bi:=⟨[],[(3,[[(0,[]),(1,[]),(2,[]),(3,[]),(4,[]),(5,[]),(6,[]),(7,[]),(8,[]),(9,[]),(10,[]),(11,[]),(12,[]),(13,[0,1,2,3,4,5,6,7,8,9,10,11]),(14,[0,1,2,3,4]),(15,[]),(16,[])]])]⟩
def F174.spec{i:Int}{a:Addr}(H:aK (i<0) (K aB h) (cx (rd h (a.add 1)) λ_ b _=>aK (i>=(b:Int)) (K aB h) (cx (rd h (a.add 1)) λb c d=>cx (rd h (a.add 1)) λe f g=>aY e λk=>0<=i/\i<(f:Int)/\cx (rd h (k.add (i.toNat*1))) λl m n=>bf h (.cells #[aq j] 46) λj o=>aF (au a)/\aF (au a)/\aF (au (a.add 1))/\cx (rd o (a.add 1)) λp q r=>aG (.slice p q r) (.slice b c d)/\aF (ap i)/\aF (au a)/\aF (au a)/\aF (au (a.add 1))/\cx (rd o (a.add 1)) λp q r=>aG (.slice p q r) (.slice e f g)/\aF (ap i)/\aY e λe=>0<=i/\i<(f:Int)/\aG (au (e.add (i.toNat*1))) (au (k.add (i.toNat*1)))/\cx (rd o (k.add (i.toNat*1))) λe f g=>aG (.slice e f g) (.slice l m n)/\fC o 46 1 4 #[aq 0] l m n (some (aw j)) 1 λe f g j=>aF (au a)/\aF (au a)/\aF (au (a.add 1))/\cx (rd j (a.add 1)) λa k l=>aG (.slice a k l) (.slice b c d)/\aF (ap i)/\aY b λa=>0<=i/\i<(c:Int)/\aW j ((a.add (i.toNat*1)).add 0) (.slice e f g) λa=>K aC a))):Cl 174 [au a,ap i,aq j] h K:=cT F174.T Tryz.func174 H
def F176.T:bi:=⟨[],[(5,[[(0,[]),(1,[]),(2,[]),(3,[]),(4,[]),(5,[]),(6,[]),(7,[]),(8,[]),(9,[]),(10,[])]])]⟩
def F176.spec{i:Int}{a:Addr}(H:Cl 219 [au a,ap i] h λb c=>aQ .i64 (some b) λb=>aK (b==0) (K (.tuple #[aq 0,aB]) c) (cx (rd c (a.add 1)) λd e _=>aY d λd=>0<=i/\i<(e:Int)/\cx (rd c (d.add (i.toNat*1))) λd e f=>cx (rd c (a.add 1)) λa g _=>0<=(ax (b-1))/\(ax (b-1))<=(f:Int)/\aY a λa=>0<=i/\i<(g:Int)/\aW c ((a.add (i.toNat*1)).add 0) (.slice (if f=0 then d else Option.map (λa=>Addr.add a (0*1)) d) ((ax (b-1)).toNat-0) (f-0)) λa=>aY d λc=>0<=(ax (b-1))/\(ax (b-1))<(e:Int)/\aQ .u32 (rd a (c.add ((ax (b-1)).toNat*1))) λb=>K (.tuple #[aq b,aC]) a)):Cl 176 [au a,ap i] h K:=cT F176.T Tryz.func176 H
def F219.spec{i:Int}{a:Addr}(H:aK (i<0) (K (ap 0) h) (cx (rd h (a.add 1)) λ_ b _=>aK (i>=(b:Int)) (K (ap 0) h) (cx (rd h (a.add 1)) λa b _=>aY a λa=>0<=i/\i<(b:Int)/\cx (rd h (a.add (i.toNat*1))) λ_ a _=>K (ap (a:Int)) h))):Cl 219 [au a,ap i] h K:=cN Tryz.func219 H
def F213.T:bi:=⟨[(3,[3,15,16,17]),(7,[3])],[]⟩
section
variable (n:Nat)(l:Addr)(g:az)(f d:Nat)(b:az)(a i:Nat)(j c:Int)(h:aI)(K:KK)
def F213.wL3:Prop:=Lp Tryz.f213 F213.T [1,1,0,1,0] n [(3,(.slice g f d)),(15,(.slice b a i)),(16,(ap j)),(17,(ap c))] h K
def F213.wk7:Prop:=Cl 260 [.slice g f d] h λa b=>a=aE/\Cl 261 [.slice g f d] b λa b=>cx (some a) λa c d=>Cl 262 [.slice a c d,.func (.func 263) #[] #[]] b λa b=>cx (some a) λa c d=>K (.slice a c d) b
def F213.sL3:F213.wL3 (n+1) g f d b a i j c h K=(aK (c<j) (aY b λe=>0<=c/\c<(a:Int)/\cx (rd h (e.add (c.toNat*1))) λe k _=>fC h 46 1 4 #[aq 0] g f d e k λd e f g=>F213.wL3 n d e f b a i j (ax (c+1)) g K) (F213.wk7 g f d h K)):=by kernel_rfl
def F213.wk3:Prop:=(∃e,F213.wL3 e g f d b a i j c h K)
def F213.spec(H:bR (rd h (l.add 0)) λa=>Cl 259 [.map a] h λa b=>lV (some a) λa=>Cl 258 [a] b λa b=>cx (some a) λa c d=>cx (rd b (l.add 1)) λe f g=>F213.wk3 a c d e f g (f:Int) 0 b K):Cl 213 [au l] h K:=cT F213.T Tryz.func213 H
end
def F209.spec{a:Addr}(H:bR (rd h (a.add 0)) λb=>dQ h b .u32 .u32 i λb=>aQ .i64 (some (kS (ap 0) b)) λb=>aK (b==0) (K (ap 61) h) (bR (rd h (a.add 0)) λb=>dQ h b .u32 .u32 i λc=>aQ .i64 (some (kS (ap 0) c)) λc=>lg h b .u32 .u32 i (ap (ax (c-1))) λb=>bR (rd b (a.add 0)) λc=>dQ b c .u32 .u32 i λc=>aQ .i64 (some (kS (ap 0) c)) λc=>aK (c==0) (bR (rd b (a.add 0)) λa=>yQ b a .u32 .u32 i λa=>K (ap 0) a) (K (ap 0) b))):Cl 209 [au a,aq i] h K:=cN Tryz.func209 H
def F210.spec{a:Addr}(H:bR (rd h (a.add 0)) λa=>dQ h a .u32 .u32 i λb=>aQ .i64 (some (kS (ap 0) b)) λb=>lg h a .u32 .u32 i (ap (ax (b+1))) λa=>K aE a):Cl 210 [au a,aq i] h K:=cN Tryz.func210 H
def F258.spec(H:Cl 292 [.slice none 0 0,.func (.func 293) #[] #[au a]] h λa b=>cx (some a) λa c d=>K (.slice a c d) b):Cl 258 [.func (.func 293) #[] #[au a]] h K:=cN Tryz.func258 H
def F259.spec(a:Option Nat)(h:aI)(K:KK)(H:bf h (.cells #[.map a] 204) λa b=>K (.func (.func 293) #[] #[au (aw a)]) b):Cl 259 [.map a] h K:=cN Tryz.func259 H
def F260.spec{u v:Nat}{x:az}{h:aI}{K:KK}(H:Cl 295 [ar (IntKind.wrap .u64 (u:Int))] h λa b=>aQ .i64 (some a) λa=>Cl 294 [.slice x u v,ap 0,ap (u:Int),ap a] b λa b=>a=aE/\K aE b):Cl 260 [.slice x u v] h K:=cN Tryz.func260 H
def F261.T:bi:=⟨[(4,[0,3]),(9,[0,3,4,5]),(14,[0,3])],[(6,[[(0,[]),(1,[]),(2,[]),(3,[]),(4,[]),(5,[]),(6,[]),(7,[]),(8,[]),(9,[])]]),(11,[[(0,[]),(1,[]),(2,[]),(3,[]),(4,[]),(5,[]),(6,[]),(7,[]),(8,[]),(9,[])]])]⟩
section
variable (n m4:Nat)(c:az)(b d:Nat)(f:Int)(i:az)(g l:Nat)(j:Int)(h:aI)(K:KK)
def F261.wL9:Prop:=Lr Tryz.f261 F261.T [1,1,0,1,0,0,1,0,0,1,0,1,0,1,0] [m4] n [(0,(.slice c b d)),(3,(ap f)),(4,(.slice i g l)),(5,(ap j))] h K
def F261.wL4:Prop:=Lp Tryz.f261 F261.T [1,1,0,1,0] n [(0,(.slice c b d)),(3,(ap f))] h K
def F261.wk14(m4:Nat)(c:az)(b d:Nat)(f:Int)(h:aI)(K:KK):Prop:=(0<=f/\f<=(b:Int)/\vF h #[aq 0] (if d=(f.toNat)then c else Option.map (λa=>Addr.add a ((f.toNat)*1)) c) (b-(f.toNat)) λa=>0<=f/\f<=(d:Int)/\K (.slice (if d=0 then c else Option.map (λa=>Addr.add a (0*1)) c) (f.toNat-0) (d-0)) a)
def F261.sL9:F261.wL9 (n+1) m4 c b d f i g l j h K=(aK (j<(g:Int)) (aY i λa=>0<=j/\j<(g:Int)/\aQ .u32 (rd h (a.add (j.toNat*1))) λa=>aY i λe=>0<=(ax (j-1))/\(ax (j-1))<(g:Int)/\aQ .u32 (rd h (e.add ((ax (j-1)).toNat*1))) λe=>aK (a !=e) (aY i λa=>0<=j/\j<(g:Int)/\aQ .u32 (rd h (a.add (j.toNat*1))) λa=>aY c λe=>0<=f/\f<(b:Int)/\aW h ((e.add (f.toNat*1)).add 0) (aq a) λa=>F261.wL9 n m4 c b d (ax (f+1)) i g l (ax (j+1)) a K) (F261.wL9 n m4 c b d f i g l (ax (j+1)) h K)) (F261.wk14 m4 c b d f h K)):=by kernel_rfl
def F261.wk9:Prop:=(∃a,F261.wL9 a m4 c b d f i g l j h K)
def F261.sL4:F261.wL4 (n+1) c b d f h K=(aK (f<(b:Int)) (aY c λa=>0<=f/\f<(b:Int)/\aQ .u32 (rd h (a.add (f.toNat*1))) λa=>aY c λe=>0<=(ax (f-1))/\(ax (f-1))<(b:Int)/\aQ .u32 (rd h (e.add ((ax (f-1)).toNat*1))) λe=>aK (a==e) ((0<=f/\f<=(b:Int)/\F261.wk9 n c b d f (if d=(f.toNat)then c else Option.map (λa=>Addr.add a ((f.toNat)*1)) c) (b-(f.toNat)) (d-(f.toNat)) 1 h K)) (F261.wL4 n c b d (ax (f+1)) h K)) (K (.slice c b d) h)):=by kernel_rfl
def F261.wk4:Prop:=(∃a,F261.wL4 a c b d f h K)
def F261.spec(H:aK ((b:Int)<(2:Int)) (K (.slice c b d) h) (F261.wk4 c b d 1 h K)):Cl 261 [.slice c b d] h K:=cT F261.T Tryz.func261 H
end
def F262.T:bi:=⟨[(5,[0,1,5,6]),(11,[0,5])],[]⟩
section
variable (n:Nat)(b:az)(c d:Nat)(i:Value)(f g:Int)(h:aI)(K:KK)
def F262.wL5:Prop:=Lp Tryz.f262 F262.T [1,1,1,0,1,0] n [(0,(.slice b c d)),(1,i),(5,(ap f)),(6,(ap g))] h K
def F262.wk11:Prop:=(0<=f/\f<=(c:Int)/\vF h #[aq 0] (if d=(f.toNat)then b else Option.map (λa=>Addr.add a ((f.toNat)*1)) b) (c-(f.toNat)) λa=>0<=f/\f<=(d:Int)/\K (.slice (if d=0 then b else Option.map (λa=>Addr.add a (0*1)) b) (f.toNat-0) (d-0)) a)
def F262.sL5:F262.wL5 (n+1) b c d i f g h K=(aK (g<(c:Int)) (aY b λa=>0<=g/\g<(c:Int)/\aQ .u32 (rd h (a.add (g.toNat*1))) λa=>eD Tryz.prog X i [aq a] h λe j=>bP (some e) λe=>aK (!e) (aY b λe=>0<=f/\f<(c:Int)/\aW j ((e.add (f.toNat*1)).add 0) (aq a) λa=>F262.wL5 n b c d i (ax (f+1)) (ax (g+1)) a K) (F262.wL5 n b c d i f (ax (g+1)) j K)) (F262.wk11 b c d f h K)):=by kernel_rfl
def F262.wk5:Prop:=(∃a,F262.wL5 a b c d i f g h K)
def F262.spec(H:Cl 296 [.slice b c d,.func (.func 263) #[] #[]] h λa e=>aQ .i64 (some a) λa=>aK (a==(-1)) (K (.slice b c d) e) (F262.wk5 b c d (.func (.func 263) #[] #[]) a (ax (a+1)) e K)):Cl 262 [.slice b c d,.func (.func 263) #[] #[]] h K:=cT F262.T Tryz.func262 H
end
def F263.spec(H:K (aD (i<=1)) h):Cl 263 [aq i] h K:=cN Tryz.func263 H
def F296.T:bi:=⟨[(2,[0,1,7,8])],[]⟩
section
variable (n:Nat)(b:az)(a c:Nat)(f:Value)(g d:Int)(h:aI)(K:KK)
def F296.wL2:Prop:=Lp Tryz.f296 F296.T [1,0,1,0] n [(0,(.slice b a c)),(1,f),(7,(ap g)),(8,(ap d))] h K
def F296.sL2:F296.wL2 (n+1) b a c f g d h K=(aK (d<g) (aY b λe=>0<=d/\d<(a:Int)/\aQ .u32 (rd h (e.add (d.toNat*1))) λe=>eD Tryz.prog X f [aq e] h λe i=>bP (some e) λe=>aK e (K (ap d) i) (F296.wL2 n b a c f g (ax (d+1)) i K)) (K (ap (-1)) h)):=by kernel_rfl
def F296.wk2:Prop:=(∃e,F296.wL2 e b a c f g d h K)
def F296.spec(H:F296.wk2 b a c (.func (.func 263) #[] #[]) (a:Int) 0 h K):Cl 296 [.slice b a c,.func (.func 263) #[] #[]] h K:=cT F296.T Tryz.func296 H
end
def F295.spec(H:Cl 323 [ar i] h λa b=>aQ .i64 (some a) λa=>K (ap a) b):Cl 295 [ar i] h K:=cN Tryz.func295 H
def F323.T:bi:=⟨[(4,[0,2]),(7,[0,2]),(10,[0,2])],[]⟩
section
variable (a b:Int)(h:aI)(K:KK)
def F323.wk10:Prop:=(0<=(IntKind.wrap .u8 a)/\DI (ByteArray.mk #[0,1,2,2,3,3,3,3,4,4,4,4,4,4,4,4,5,5,5,5,5,5,5,5,5,5,5,5,5,5,5,5,6,6,6,6,6,6,6,6,6,6,6,6,6,6,6,6,6,6,6,6,6,6,6,6,6,6,6,6,6,6,6,6,7,7,7,7,7,7,7,7,7,7,7,7,7,7,7,7,7,7,7,7,7,7,7,7,7,7,7,7,7,7,7,7,7,7,7,7,7,7,7,7,7,7,7,7,7,7,7,7,7,7,7,7,7,7,7,7,7,7,7,7,7,7,7,7,8,8,8,8,8,8,8,8,8,8,8,8,8,8,8,8,8,8,8,8,8,8,8,8,8,8,8,8,8,8,8,8,8,8,8,8,8,8,8,8,8,8,8,8,8,8,8,8,8,8,8,8,8,8,8,8,8,8,8,8,8,8,8,8,8,8,8,8,8,8,8,8,8,8,8,8,8,8,8,8,8,8,8,8,8,8,8,8,8,8,8,8,8,8,8,8,8,8,8,8,8,8,8,8,8,8,8,8,8,8,8,8,8,8,8,8,8,8,8,8,8,8,8,8,8,8,8,8]) (IntKind.wrap .u8 a) λa=>K (ap (ax (b+(ax a)))) h)
def F323.wk7:Prop:=aK (a>=256) ((0<=(8:Int)/\F323.wk10 (Int.fdiv a (2^(min (Int.toNat 8) (IntKind.bits .u64)))) (ax (b+8)) h K)) (F323.wk10 a b h K)
def F323.wk4:Prop:=aK (a>=65536) ((0<=(16:Int)/\F323.wk7 (Int.fdiv a (2^(min (Int.toNat 16) (IntKind.bits .u64)))) (ax (b+16)) h K)) (F323.wk7 a b h K)
end
def F323.spec(H:aK (i>=4294967296) ((0<=(32:Int)/\F323.wk4 (Int.fdiv i (2^(min (Int.toNat 32) (IntKind.bits .u64)))) 32 h K)) (F323.wk4 i 0 h K)):Cl 323 [ar i] h K:=cT F323.T Tryz.func323 H
def F294.T:bi:=⟨[(2,[0,1,2,3,8,9]),(10,[0,1,2,3,8,9,10]),(15,[0,1,2,3,8,9,10,11,12]),(17,[0,1,2,3,8,9,10,11])],[(17,[[(0,[]),(1,[]),(2,[]),(3,[]),(4,[]),(5,[]),(6,[]),(7,[]),(8,[]),(9,[]),(10,[]),(11,[]),(12,[]),(13,[]),(14,[])]])]⟩
section
variable (bk2:(az)->Nat->Nat->Int->Int->Int->Bool->Bool->aI->Prop)(n:Nat)(b:az)(a c:Nat)(d f g:Int)(l o:Bool)(i j q:Int)(h:aI)(K:KK)
def F294.wL2:Prop:=Lp Tryz.f294 F294.T [1,1,0] n [(0,(.slice b a c)),(1,(ap d)),(2,(ap f)),(3,(ap g)),(8,(aD l)),(9,(aD o))] h K
def F294.wk17(bk2:(az)->Nat->Nat->Int->Int->Int->Bool->Bool->aI->Prop)(b:az)(a c:Nat)(d f g:Int)(l o:Bool)(i j:Int)(h:aI)(K:KK):Prop:=aK (d>0) (aY b λe=>0<=(ax (d-1))/\(ax (d-1))<(a:Int)/\aQ .u32 (rd h (e.add ((ax (d-1)).toNat*1))) λe=>aY b λk=>0<=j/\j<(a:Int)/\aQ .u32 (rd h (k.add (j.toNat*1))) λk=>Cl 319 [aq e,aq k] h λe k=>bP (some e) λe=>aK (!e) (Cl 320 [.slice b a c,ap d,ap f,ap j] k λd e=>aQ .i64 (some d) λd=>bk2 b a c d f g l o e) (Cl 321 [.slice b a c,ap d,ap f,ap j] k λe j=> ∃k:Int,∃l:Bool,e=(.tuple #[ap k,aD l])/\(8:Int)≠0/\aK ((ax (k-d))<(ax (f-k))) (Cl 294 [.slice b a c,ap d,ap k,ap g] j λe j=>e=aE/\bk2 b a c (ax (k+1)) f g (decide ((ax (k-d))>=(ax (Int.tdiv i 8)))) l j) (Cl 294 [.slice b a c,ap (ax (k+1)),ap f,ap g] j λe j=>e=aE/\bk2 b a c d k g (decide ((ax (f-k))>=(ax (Int.tdiv i 8)))) l j))) (Cl 321 [.slice b a c,ap d,ap f,ap j] h λe j=> ∃k:Int,∃l:Bool,e=(.tuple #[ap k,aD l])/\(8:Int)≠0/\aK ((ax (k-d))<(ax (f-k))) (Cl 294 [.slice b a c,ap d,ap k,ap g] j λe j=>e=aE/\bk2 b a c (ax (k+1)) f g (decide ((ax (k-d))>=(ax (Int.tdiv i 8)))) l j) (Cl 294 [.slice b a c,ap (ax (k+1)),ap f,ap g] j λe j=>e=aE/\bk2 b a c d k g (decide ((ax (f-k))>=(ax (Int.tdiv i 8)))) l j))
def F294.wk15:Prop:=aK l (aK o (aK (q==1) (Cl 318 [.slice b a c,ap d,ap f] h λe k=>bP (some e) λe=>aK e (K aE k) (F294.wk17 bk2 b a c d f g l o i j k K)) (F294.wk17 bk2 b a c d f g l o i j h K)) (F294.wk17 bk2 b a c d f g l o i j h K)) (F294.wk17 bk2 b a c d f g l o i j h K)
def F294.wk10:Prop:=Cl 316 [.slice b a c,ap d,ap f] h λe j=> ∃k:Int,∃m:Int,e=(.tuple #[ap k,ap m])/\aK (m==2) (Cl 317 [.slice b a c,ap d,ap f] j λe j=>e=aE/\F294.wk15 bk2 b a c d f g l o i (ax ((ax (f-1))-(ax (k-d)))) 1 j K) (F294.wk15 bk2 b a c d f g l o i k m j K)
def F294.sL2:F294.wL2 (n+1) b a c d f g l o h K=(aK ((ax (f-d))<=12) (Cl 313 [.slice b a c,ap d,ap f] h λa b=>a=aE/\K aE b) (aK (g==0) (Cl 314 [.slice b a c,ap d,ap f] h λa b=>a=aE/\K aE b) (aK (!l) (Cl 315 [.slice b a c,ap d,ap f] h λe i=>e=aE/\F294.wk10 (λa b c d e f g i j=>F294.wL2 n a b c d e f g i j K) b a c d f (ax (g-1)) l o (ax (f-d)) i K) (F294.wk10 (λa b c d e f g i j=>F294.wL2 n a b c d e f g i j K) b a c d f g l o (ax (f-d)) h K)))):=by kernel_rfl
def F294.wk2:Prop:=(∃e,F294.wL2 e b a c d f g l o h K)
def F294.spec(H:F294.wk2 b a c d f g true true h K):Cl 294 [.slice b a c,ap d,ap f,ap g] h K:=cT F294.T Tryz.func294 H
end
def F313.T:bi:=⟨[(1,[0,1,2,6]),(4,[0,1,2,6,7])],[(4,[[(0,[]),(1,[]),(2,[]),(3,[]),(4,[]),(5,[]),(6,[]),(7,[]),(8,[]),(9,[]),(10,[]),(11,[]),(12,[]),(13,[]),(14,[])]]),(6,[[(0,[]),(1,[]),(2,[]),(3,[]),(4,[]),(5,[]),(6,[]),(7,[]),(8,[]),(9,[]),(10,[]),(11,[]),(12,[]),(13,[]),(14,[]),(15,[2,3,4]),(16,[]),(17,[])]])]⟩
section
variable (n m1:Nat)(b:az)(a c:Nat)(f g i d:Int)(h:aI)(K:KK)
def F313.wL4:Prop:=Lr Tryz.f313 F313.T [1,0,0,1,0,0,1,0] [m1] n [(0,(.slice b a c)),(1,(ap f)),(2,(ap g)),(6,(ap i)),(7,(ap d))] h K
def F313.wL1:Prop:=Lp Tryz.f313 F313.T [1,0] n [(0,(.slice b a c)),(1,(ap f)),(2,(ap g)),(6,(ap i))] h K
def F313.sL4:F313.wL4 (n+1) m1 b a c f g i d h K=(aK (d>f) (aY b λe=>0<=d/\d<(a:Int)/\aQ .u32 (rd h (e.add (d.toNat*1))) λe=>aY b λj=>0<=(ax (d-1))/\(ax (d-1))<(a:Int)/\aQ .u32 (rd h (j.add ((ax (d-1)).toNat*1))) λj=>Cl 319 [aq e,aq j] h λe j=>bP (some e) λe=>aK e (aY b λe=>0<=(ax (d-1))/\(ax (d-1))<(a:Int)/\aQ .u32 (rd j (e.add ((ax (d-1)).toNat*1))) λe=>aY b λk=>0<=d/\d<(a:Int)/\aQ .u32 (rd j (k.add (d.toNat*1))) λk=>aY b λl=>0<=d/\d<(a:Int)/\aW j ((l.add (d.toNat*1)).add 0) (aq e) λe=>aF (.slice b a c)/\aF (ap d)/\aF (ap (ax (d-1)))/\aY b λj=>0<=(ax (d-1))/\(ax (d-1))<(a:Int)/\aW e ((j.add ((ax (d-1)).toNat*1)).add 0) (aq k) λe=>F313.wL4 n m1 b a c f g i (ax (d-1)) e K) (F313.wL1 m1 b a c f g (ax (i+1)) j K)) (F313.wL1 m1 b a c f g (ax (i+1)) h K)):=by kernel_rfl
def F313.wk4:Prop:=(∃e,F313.wL4 e m1 b a c f g i d h K)
def F313.sL1:F313.wL1 (n+1) b a c f g i h K=(aK (i<g) (F313.wk4 n b a c f g i i h K) (K aE h)):=by kernel_rfl
def F313.wk1:Prop:=(∃d,F313.wL1 d b a c f g i h K)
def F313.spec(H:F313.wk1 b a c f g (ax (f+1)) h K):Cl 313 [.slice b a c,ap f,ap g] h K:=cT F313.T Tryz.func313 H
end
def F319.spec(H:Cl 348 [aq i] h λa b=>bP (some a) λa=>aK a (Cl 348 [aq j] b λa b=>bP (some a) λa=>aK (!a) (K aC b) (K (aD (i<j)) b)) (K (aD (i<j)) b)):Cl 319 [aq i,aq j] h K:=cN Tryz.func319 H
def F348.spec(H:K (aD (i !=i)) h):Cl 348 [aq i] h K:=cN Tryz.func348 H
def F265.spec{u v:Nat}{x:az}{h:aI}{K:KK}(H:Cl 295 [ar (IntKind.wrap .u64 (u:Int))] h λa b=>aQ .i64 (some a) λa=>Cl 298 [.slice x u v,ap 0,ap (u:Int),ap a] b λa b=>a=aE/\K aE b):Cl 265 [.slice x u v] h K:=cN Tryz.func265 H
def F298.T:bi:=⟨[(2,[0,1,2,3,8,9]),(10,[0,1,2,3,8,9,10]),(15,[0,1,2,3,8,9,10,11,12]),(17,[0,1,2,3,8,9,10,11])],[(17,[[(0,[]),(1,[]),(2,[]),(3,[]),(4,[]),(5,[]),(6,[]),(7,[]),(8,[]),(9,[]),(10,[]),(11,[]),(12,[]),(13,[]),(14,[])]])]⟩
section
variable (bk2:(az)->Nat->Nat->Int->Int->Int->Bool->Bool->aI->Prop)(n:Nat)(b:az)(a c:Nat)(d f g:Int)(l o:Bool)(i j q:Int)(h:aI)(K:KK)
def F298.wL2:Prop:=Lp Tryz.f298 F298.T [1,1,0] n [(0,(.slice b a c)),(1,(ap d)),(2,(ap f)),(3,(ap g)),(8,(aD l)),(9,(aD o))] h K
def F298.wk17(bk2:(az)->Nat->Nat->Int->Int->Int->Bool->Bool->aI->Prop)(b:az)(a c:Nat)(d f g:Int)(l o:Bool)(i j:Int)(h:aI)(K:KK):Prop:=aK (d>0) (aY b λe=>0<=(ax (d-1))/\(ax (d-1))<(a:Int)/\aQ .i64 (rd h (e.add ((ax (d-1)).toNat*1))) λe=>aY b λk=>0<=j/\j<(a:Int)/\aQ .i64 (rd h (k.add (j.toNat*1))) λk=>Cl 330 [ap e,ap k] h λe k=>bP (some e) λe=>aK (!e) (Cl 331 [.slice b a c,ap d,ap f,ap j] k λd e=>aQ .i64 (some d) λd=>bk2 b a c d f g l o e) (Cl 332 [.slice b a c,ap d,ap f,ap j] k λe j=> ∃k:Int,∃l:Bool,e=(.tuple #[ap k,aD l])/\(8:Int)≠0/\aK ((ax (k-d))<(ax (f-k))) (Cl 298 [.slice b a c,ap d,ap k,ap g] j λe j=>e=aE/\bk2 b a c (ax (k+1)) f g (decide ((ax (k-d))>=(ax (Int.tdiv i 8)))) l j) (Cl 298 [.slice b a c,ap (ax (k+1)),ap f,ap g] j λe j=>e=aE/\bk2 b a c d k g (decide ((ax (f-k))>=(ax (Int.tdiv i 8)))) l j))) (Cl 332 [.slice b a c,ap d,ap f,ap j] h λe j=> ∃k:Int,∃l:Bool,e=(.tuple #[ap k,aD l])/\(8:Int)≠0/\aK ((ax (k-d))<(ax (f-k))) (Cl 298 [.slice b a c,ap d,ap k,ap g] j λe j=>e=aE/\bk2 b a c (ax (k+1)) f g (decide ((ax (k-d))>=(ax (Int.tdiv i 8)))) l j) (Cl 298 [.slice b a c,ap (ax (k+1)),ap f,ap g] j λe j=>e=aE/\bk2 b a c d k g (decide ((ax (f-k))>=(ax (Int.tdiv i 8)))) l j))
def F298.wk15:Prop:=aK l (aK o (aK (q==1) (Cl 329 [.slice b a c,ap d,ap f] h λe k=>bP (some e) λe=>aK e (K aE k) (F298.wk17 bk2 b a c d f g l o i j k K)) (F298.wk17 bk2 b a c d f g l o i j h K)) (F298.wk17 bk2 b a c d f g l o i j h K)) (F298.wk17 bk2 b a c d f g l o i j h K)
def F298.wk10:Prop:=Cl 327 [.slice b a c,ap d,ap f] h λe j=> ∃k:Int,∃m:Int,e=(.tuple #[ap k,ap m])/\aK (m==2) (Cl 328 [.slice b a c,ap d,ap f] j λe j=>e=aE/\F298.wk15 bk2 b a c d f g l o i (ax ((ax (f-1))-(ax (k-d)))) 1 j K) (F298.wk15 bk2 b a c d f g l o i k m j K)
def F298.sL2:F298.wL2 (n+1) b a c d f g l o h K=(aK ((ax (f-d))<=12) (Cl 324 [.slice b a c,ap d,ap f] h λa b=>a=aE/\K aE b) (aK (g==0) (Cl 325 [.slice b a c,ap d,ap f] h λa b=>a=aE/\K aE b) (aK (!l) (Cl 326 [.slice b a c,ap d,ap f] h λe i=>e=aE/\F298.wk10 (λa b c d e f g i j=>F298.wL2 n a b c d e f g i j K) b a c d f (ax (g-1)) l o (ax (f-d)) i K) (F298.wk10 (λa b c d e f g i j=>F298.wL2 n a b c d e f g i j K) b a c d f g l o (ax (f-d)) h K)))):=by kernel_rfl
def F298.wk2:Prop:=(∃e,F298.wL2 e b a c d f g l o h K)
def F298.spec(H:F298.wk2 b a c d f g true true h K):Cl 298 [.slice b a c,ap d,ap f,ap g] h K:=cT F298.T Tryz.func298 H
end
def F324.T:bi:=⟨[(1,[0,1,2,6]),(4,[0,1,2,6,7])],[(4,[[(0,[]),(1,[]),(2,[]),(3,[]),(4,[]),(5,[]),(6,[]),(7,[]),(8,[]),(9,[]),(10,[]),(11,[]),(12,[]),(13,[]),(14,[])]]),(6,[[(0,[]),(1,[]),(2,[]),(3,[]),(4,[]),(5,[]),(6,[]),(7,[]),(8,[]),(9,[]),(10,[]),(11,[]),(12,[]),(13,[]),(14,[]),(15,[2,3,4]),(16,[]),(17,[])]])]⟩
section
variable (n m1:Nat)(b:az)(a c:Nat)(f g i d:Int)(h:aI)(K:KK)
def F324.wL4:Prop:=Lr Tryz.f324 F324.T [1,0,0,1,0,0,1,0] [m1] n [(0,(.slice b a c)),(1,(ap f)),(2,(ap g)),(6,(ap i)),(7,(ap d))] h K
def F324.wL1:Prop:=Lp Tryz.f324 F324.T [1,0] n [(0,(.slice b a c)),(1,(ap f)),(2,(ap g)),(6,(ap i))] h K
def F324.sL4:F324.wL4 (n+1) m1 b a c f g i d h K=(aK (d>f) (aY b λe=>0<=d/\d<(a:Int)/\aQ .i64 (rd h (e.add (d.toNat*1))) λe=>aY b λj=>0<=(ax (d-1))/\(ax (d-1))<(a:Int)/\aQ .i64 (rd h (j.add ((ax (d-1)).toNat*1))) λj=>Cl 330 [ap e,ap j] h λe j=>bP (some e) λe=>aK e (aY b λe=>0<=(ax (d-1))/\(ax (d-1))<(a:Int)/\aQ .i64 (rd j (e.add ((ax (d-1)).toNat*1))) λe=>aY b λk=>0<=d/\d<(a:Int)/\aQ .i64 (rd j (k.add (d.toNat*1))) λk=>aY b λl=>0<=d/\d<(a:Int)/\aW j ((l.add (d.toNat*1)).add 0) (ap e) λe=>aF (.slice b a c)/\aF (ap d)/\aF (ap (ax (d-1)))/\aY b λj=>0<=(ax (d-1))/\(ax (d-1))<(a:Int)/\aW e ((j.add ((ax (d-1)).toNat*1)).add 0) (ap k) λe=>F324.wL4 n m1 b a c f g i (ax (d-1)) e K) (F324.wL1 m1 b a c f g (ax (i+1)) j K)) (F324.wL1 m1 b a c f g (ax (i+1)) h K)):=by kernel_rfl
def F324.wk4:Prop:=(∃e,F324.wL4 e m1 b a c f g i d h K)
def F324.sL1:F324.wL1 (n+1) b a c f g i h K=(aK (i<g) (F324.wk4 n b a c f g i i h K) (K aE h)):=by kernel_rfl
def F324.wk1:Prop:=(∃d,F324.wL1 d b a c f g i h K)
def F324.spec(H:F324.wk1 b a c f g (ax (f+1)) h K):Cl 324 [.slice b a c,ap f,ap g] h K:=cT F324.T Tryz.func324 H
end
def F330.spec(H:Cl 352 [ap i] h λa b=>bP (some a) λa=>aK a (Cl 352 [ap j] b λa b=>bP (some a) λa=>aK (!a) (K aC b) (K (aD (i<j)) b)) (K (aD (i<j)) b)):Cl 330 [ap i,ap j] h K:=cN Tryz.func330 H
def F352.spec(H:K (aD (i !=i)) h):Cl 352 [ap i] h K:=cN Tryz.func352 H
def cw.onlyC(H:cw h lo N p l c cs)(O:aM S h h')(hS: ∀b∈aV p,(∃c,At h b c)->b∉S):cw h' lo N p l c cs:=by
 obtain⟨e,H⟩:=H;rcases H with H|⟨b,sp,h1,h2,h3,h4,h5⟩
 ·exact⟨e,Or.inl H⟩
 ·exact⟨e,Or.inr ⟨b,sp,h1,h2,h3,h4,h5.only O (hS b (by subst h1;simp[aV]) ⟨_,h5⟩)⟩⟩
def cw.cells(H:cw h lo N p l c cs): ∀b∈aV p,∃c,At h b c:=by
 obtain⟨e,H⟩:=H;rcases H with⟨rfl,_⟩|⟨b,sp,rfl,h2,h3,h4,h5⟩
 ·intro b hb;simp[aV]at hb
 ·intro b' hb;simp[aV]at hb;subst hb;exact⟨_,h5⟩
def LB:Nat:=140737488355328
def br{x:Int}(h0: -LB<=x)(h1:x<=LB):ax x=x:=wrap_i64 (by unfold LB at h0;omega) (by unfold LB at h1;omega)
def zj(hK:K aB h):Cl 348 [aq x] h K:=by refine F348.spec ?_;rw[show(x !=x)=false by simp];exact hK
def d9(hK:K (aD (decide (x<y))) h):Cl 319 [aq x,aq y] h K:=by refine F319.spec ?_;exact zj (by rw[bU];exact hK)
def se{b n a e c i:Nat}{sp:List Value}{K:KK}{bk:Nat}(he:e<=n)(f:i<e)(hn:n<=LB-2):
  ∀(j:Nat) (g:Nat->Int) (h:aI),cd .u32 h b n g sp->xN a i j g->a<=j->j<=i->(∀h' g',cd .u32 h' b n g' sp->fZ a (i+1) g'->dz a e g g'->aM [b] h h'->F313.wL1 bk (some (aw b)) n c a e ((i+1:Nat):Int) h' K)->
   F313.wL4 (j+1) bk (some (aw b)) n c a e i j h K:=by
 intro j;have d:LB=140737488355328:=rfl;have w1:ax ((i:Int)+1)=((i+1:Nat):Int):=by rw[br ah ah];omega
 induction j with
 |zero=>
  intro g h A I ha hj hK;rw[F313.sL4];rw[w1,show decide (((0:Nat):Int)>(a:Int))=false by simp];exact hK h g A (I.stop (.inl ah)) (.refl g) (aM.refl _ _)
 |succ j ih=>
  intro g h A I ha hj hK;rw[F313.sL4];have w2:ax (((j+1:Nat):Int)-1)=(j:Int):=by rw[br ah ah];omega
  rw[w1,w2];refine aS (λhc=> ?_) λhc=> ?_
  ·simp only[Na]at hc;refine A.ld rfl ah (A.ld rfl ah (d9 ?_));rw[bU];refine aS (λhl=> ?_) λhl=> ?_
   ·simp only[Na]at hl;refine A.ld rfl ah (A.ld rfl ah (A.sto rfl ah λh1 A1 O1=>⟨rfl,rfl,rfl,A1.sto rfl ah λh2 A2 O2=> ?_⟩));have O:aM [b] h h2:=O1.trans O2 ak;have S:dz a e g (swp g (j+1) j):=dz.one g ah ah ah ah;have A2':cd .u32 h2 b n (swp g (j+1) j) sp:=A2;have I2:=I.step ah hj hl;rw[show j+1-1=j by omega]at I2;exact ih _ h2 A2' I2 ah ah λh' g' A' R' S' O'=>hK h' g' A' R' (S.trans S') (O.trans O' ak)
   ·simp only[MX]at hl;exact hK h g A (I.stop (.inr (by rw[show j+1-1=j by omega];omega))) (.refl g) (aM.refl _ _)
  ·simp only[MX]at hc;exact hK h g A (I.stop (.inl ah)) (.refl g) (aM.refl _ _)
def sn(he:e<=n)(hn:n<=LB-2):
  ∀(d i:Nat) (g:Nat->Int) (h:aI),e<=i+d->cd .u32 h b n g sp->a<i->i<=e\/e<=a->fZ a i g->(∀h' g',cd .u32 h' b n g' sp->fZ a e g'->dz a e g g'->aM [b] h h'->K aE h')->
   F313.wL1 (d+1) (some (aw b)) n c a e i h K:=by
 intro d
 induction d with
 |zero=>
  intro i g h hd A ha hi R hK;rw[F313.sL1];rw[show decide ((i:Int)<(e:Int))=false by simp;omega];exact hK h g A (λp q h1 h2 h3=>R p q h1 h2 ah) (.refl g) (aM.refl _ _)
 |succ d ih=>
  intro i g h hd A ha hi R hK;rw[F313.sL1];refine aS (λhc=> ?_) λhc=> ?_
  ·simp only[Na]at hc;refine⟨i+1,se he ah hn i g h A (xN.start R) ah (MN _) λh1 g1 A1 R1 S1 O1=> ?_⟩;exact ih (i+1) g1 h1 ah A1 ah ah R1 λh' g' A' R' S' O'=>hK h' g' A' R' (S1.trans S') (O1.trans O' ak)
  ·simp only[MX]at hc;exact hK h g A (λp q h1 h2 h3=>R p q h1 h2 ah) (.refl g) (aM.refl _ _)
def ins76{h:aI}{b n a e c:Nat}{g:Nat->Int}{sp:List Value}{K:KK}(A:cd .u32 h b n g sp)(he:e<=n)(ha:a<=n)(hn:n<=LB-2)
  (hK: ∀h' g',cd .u32 h' b n g' sp->fZ a e g'->dz a e g g'->aM [b] h h'->K aE h'):Cl 313 [.slice (some (aw b)) n c,ap a,ap e] h K:=by
 refine F313.spec _ _ _ _ _ h K ?_;unfold F313.wk1;have d:LB=140737488355328:=rfl;rw[show ax ((a:Int)+1)=((a+1:Nat):Int) by rw[br ah ah];omega];exact⟨e+1,sn he hn e (a+1) g h ah A ah ah (fZ.single g ah) hK⟩
namespace IN
def zj(hK:K aB h):Cl 352 [ap x] h K:=by refine F352.spec ?_;rw[show(x !=x)=false by simp];exact hK
def d9(hK:K (aD (decide (x<y))) h):Cl 330 [ap x,ap y] h K:=by refine F330.spec ?_;exact zj (by rw[bU];exact hK)
def se{b n a e c i:Nat}{sp:List Value}{K:KK}{bk:Nat}(he:e<=n)(f:i<e)(hn:n<=LB-2):
  ∀(j:Nat) (g:Nat->Int) (h:aI),cd .i64 h b n g sp->xN a i j g->a<=j->j<=i->(∀h' g',cd .i64 h' b n g' sp->fZ a (i+1) g'->dz a e g g'->aM [b] h h'->F324.wL1 bk (some (aw b)) n c a e ((i+1:Nat):Int) h' K)->
   F324.wL4 (j+1) bk (some (aw b)) n c a e i j h K:=by
 intro j;have d:LB=140737488355328:=rfl;have w1:ax ((i:Int)+1)=((i+1:Nat):Int):=by rw[br ah ah];omega
 induction j with
 |zero=>
  intro g h A I ha hj hK;rw[F324.sL4];rw[w1,show decide (((0:Nat):Int)>(a:Int))=false by simp];exact hK h g A (I.stop (.inl ah)) (.refl g) (aM.refl _ _)
 |succ j ih=>
  intro g h A I ha hj hK;rw[F324.sL4];have w2:ax (((j+1:Nat):Int)-1)=(j:Int):=by rw[br ah ah];omega
  rw[w1,w2];refine aS (λhc=> ?_) λhc=> ?_
  ·simp only[Na]at hc;refine A.ld rfl ah (A.ld rfl ah (d9 ?_));rw[bU];refine aS (λhl=> ?_) λhl=> ?_
   ·simp only[Na]at hl;refine A.ld rfl ah (A.ld rfl ah (A.sto rfl ah λh1 A1 O1=>⟨rfl,rfl,rfl,A1.sto rfl ah λh2 A2 O2=> ?_⟩));have O:aM [b] h h2:=O1.trans O2 ak;have S:dz a e g (swp g (j+1) j):=dz.one g ah ah ah ah;have A2':cd .i64 h2 b n (swp g (j+1) j) sp:=A2;have I2:=I.step ah hj hl;rw[show j+1-1=j by omega]at I2;exact ih _ h2 A2' I2 ah ah λh' g' A' R' S' O'=>hK h' g' A' R' (S.trans S') (O.trans O' ak)
   ·simp only[MX]at hl;exact hK h g A (I.stop (.inr (by rw[show j+1-1=j by omega];omega))) (.refl g) (aM.refl _ _)
  ·simp only[MX]at hc;exact hK h g A (I.stop (.inl ah)) (.refl g) (aM.refl _ _)
def sn(he:e<=n)(hn:n<=LB-2):
  ∀(d i:Nat) (g:Nat->Int) (h:aI),e<=i+d->cd .i64 h b n g sp->a<i->i<=e\/e<=a->fZ a i g->(∀h' g',cd .i64 h' b n g' sp->fZ a e g'->dz a e g g'->aM [b] h h'->K aE h')->
   F324.wL1 (d+1) (some (aw b)) n c a e i h K:=by
 intro d
 induction d with
 |zero=>
  intro i g h hd A ha hi R hK;rw[F324.sL1];rw[show decide ((i:Int)<(e:Int))=false by simp;omega];exact hK h g A (λp q h1 h2 h3=>R p q h1 h2 ah) (.refl g) (aM.refl _ _)
 |succ d ih=>
  intro i g h hd A ha hi R hK;rw[F324.sL1];refine aS (λhc=> ?_) λhc=> ?_
  ·simp only[Na]at hc;refine⟨i+1,se he ah hn i g h A (xN.start R) ah (MN _) λh1 g1 A1 R1 S1 O1=> ?_⟩;exact ih (i+1) g1 h1 ah A1 ah ah R1 λh' g' A' R' S' O'=>hK h' g' A' R' (S1.trans S') (O1.trans O' ak)
  ·simp only[MX]at hc;exact hK h g A (λp q h1 h2 h3=>R p q h1 h2 ah) (.refl g) (aM.refl _ _)
def ins76{h:aI}{b n a e c:Nat}{g:Nat->Int}{sp:List Value}{K:KK}(A:cd .i64 h b n g sp)(he:e<=n)(ha:a<=n)(hn:n<=LB-2)
  (hK: ∀h' g',cd .i64 h' b n g' sp->fZ a e g'->dz a e g g'->aM [b] h h'->K aE h'):Cl 324 [.slice (some (aw b)) n c,ap a,ap e] h K:=by
 refine F324.spec _ _ _ _ _ h K ?_;unfold F324.wk1;have d:LB=140737488355328:=rfl;rw[show ax ((a:Int)+1)=((a+1:Nat):Int) by rw[br ah ah];omega];exact⟨e+1,sn he hn e (a+1) g h ah A ah ah (fZ.single g ah) hK⟩
end IN
def F314.T:bi:=⟨[(4,[0,6,7,8,9]),(7,[0,6,7,8]),(8,[0,6,7,10])],[(10,[[(0,[]),(1,[]),(2,[]),(3,[]),(4,[]),(5,[]),(6,[]),(7,[]),(8,[]),(9,[]),(10,[]),(11,[]),(12,[]),(13,[]),(14,[]),(15,[]),(16,[]),(17,[2,3,4,5]),(18,[]),(19,[])]])]⟩
section
variable (n:Nat)(b:az)(a c:Nat)(j l f g i d:Int)(h:aI)(K:KK)
def F314.wL8:Prop:=Lp Tryz.f314 F314.T [1,1,1,1,1,0] n [(0,(.slice b a c)),(6,(ap f)),(7,(ap 0)),(10,(ap d))] h K
def F314.wL4:Prop:=Lp Tryz.f314 F314.T [1,1,1,0,1,0] n [(0,(.slice b a c)),(6,(ap f)),(7,(ap 0)),(8,(ap g)),(9,(ap i))] h K
def F314.sL8:F314.wL8 (n+1) b a c f d h K=(aK (d>=0) (aY b λe=>0<=(ax (f+d))/\(ax (f+d))<(a:Int)/\aQ .u32 (rd h (e.add ((ax (f+d)).toNat*1))) λe=>aY b λg=>0<=f/\f<(a:Int)/\aQ .u32 (rd h (g.add (f.toNat*1))) λg=>aY b λi=>0<=f/\f<(a:Int)/\aW h ((i.add (f.toNat*1)).add 0) (aq e) λe=>aF (.slice b a c)/\aF (ap f)/\aF (ap d)/\aF (ap (ax (f+d)))/\aY b λi=>0<=(ax (f+d))/\(ax (f+d))<(a:Int)/\aW e ((i.add ((ax (f+d)).toNat*1)).add 0) (aq g) λe=>Cl 343 [.slice b a c,ap 0,ap d,ap f] e λe g=>e=aE/\F314.wL8 n b a c f (ax (d-1)) g K) (K aE h)):=by kernel_rfl
def F314.wk8:Prop:=(∃e,F314.wL8 e b a c f d h K)
def F314.wk7:Prop:=F314.wk8 b a c f (ax (g-1)) h K
def F314.sL4:F314.wL4 (n+1) b a c f g i h K=(aK (i>=0) (Cl 343 [.slice b a c,ap i,ap g,ap f] h λd e=>d=aE/\F314.wL4 n b a c f g (ax (i-1)) e K) (F314.wk7 b a c f g h K)):=by kernel_rfl
def F314.wk4:Prop:=(∃d,F314.wL4 d b a c f g i h K)
def F314.spec(H:((2:Int)≠0/\F314.wk4 b a c j (ax (l-j)) (ax (Int.tdiv (ax ((ax (l-j))-1)) 2)) h K)):Cl 314 [.slice b a c,ap j,ap l] h K:=cT F314.T Tryz.func314 H
end
def F315.T:bi:=⟨[(5,[0,1,6,7,8,9]),(10,[0,1,6,7,8,9,10])],[(10,[[(0,[]),(1,[]),(2,[]),(3,[]),(4,[]),(5,[]),(6,[]),(7,[]),(8,[]),(9,[]),(10,[]),(11,[]),(12,[]),(13,[]),(14,[]),(15,[]),(16,[]),(17,[2,3,4,5]),(18,[]),(19,[])]])]⟩
section
variable (n:Nat)(b:az)(a c:Nat)(d o i:Int)(l:Addr)(j g:Int)(h:aI)(K:KK)
def F315.wL5:Prop:=Lp Tryz.f315 F315.T [1,1,0,1,1,1,0] n [(0,(.slice b a c)),(1,(ap d)),(6,(ap i)),(7,(au l)),(8,(ar j)),(9,(ap g))] h K
def F315.wk10(z:(az)->Nat->Nat->Int->Int->Addr->Int->Int->aI->Prop)(b:az)(a c:Nat)(d i:Int)(l:Addr)(j g f:Int)(h:aI)(K:KK):Prop:=aY b λe=>0<=(ax (d+f))/\(ax (d+f))<(a:Int)/\aQ .u32 (rd h (e.add ((ax (d+f)).toNat*1))) λe=>aY b λk=>0<=g/\g<(a:Int)/\aQ .u32 (rd h (k.add (g.toNat*1))) λk=>aY b λm=>0<=g/\g<(a:Int)/\aW h ((m.add (g.toNat*1)).add 0) (aq e) λe=>aF (.slice b a c)/\aF (ap d)/\aF (ap f)/\aF (ap (ax (d+f)))/\aY b λm=>0<=(ax (d+f))/\(ax (d+f))<(a:Int)/\aW e ((m.add ((ax (d+f)).toNat*1)).add 0) (aq k) λe=>z b a c d i l j (ax (g+1)) e
def F315.sL5:F315.wL5 (n+1) b a c d i l j g h K=(((4:Int)≠0/\aK (g<=(ax ((ax (d+(ax ((ax (Int.tdiv i 4))*2))))+1))) (Cl 345 [au l] h λe f=>aQ .u64 (some e) λe=>aK ((ax (bo .and .u64 e (IntKind.wrap .u64 (j-1))))>=i) (F315.wk10 (λa b c d e f g i j=>F315.wL5 n a b c d e f g i j K) b a c d i l j g (ax ((ax (bo .and .u64 e (IntKind.wrap .u64 (j-1))))-i)) f K) (F315.wk10 (λa b c d e f g i j=>F315.wL5 n a b c d e f g i j K) b a c d i l j g (ax (bo .and .u64 e (IntKind.wrap .u64 (j-1)))) f K)) (K aE h))):=by kernel_rfl
def F315.wk5:Prop:=(∃e,F315.wL5 e b a c d i l j g h K)
def F315.spec(H:aK ((ax (o-d))>=8) (bf h (.cells #[ar 0] 401) λe f=>aW f ((aw e).add 0) (ar (IntKind.wrap .u64 (ax (o-d)))) λf=>Cl 344 [ap (ax (o-d))] f λf g=>aQ .u64 (some f) λf=>(4:Int)≠0/\F315.wk5 b a c d (ax (o-d)) (aw e) f (ax ((ax (d+(ax ((ax (Int.tdiv (ax (o-d)) 4))*2))))-1)) g K) (K aE h)):Cl 315 [.slice b a c,ap d,ap o] h K:=cT F315.T Tryz.func315 H
end
def F316.T:bi:=⟨[(11,[0,9,10,11,12]),(12,[9,11])],[]⟩
section
variable (c:az)(b a:Nat)(l:Addr)(i g j:Int)(h:aI)(K:KK)
def F316.wk12:Prop:=aQ .i64 (rd h l) λa=>aK (a==0) (K (.tuple #[ap g,ap 1]) h) (aK (a==12) (K (.tuple #[ap g,ap 2]) h) (K (.tuple #[ap g,ap 0]) h))
def F316.wk11:Prop:=Cl 347 [.slice c b a,ap i,ap g,ap j,au l] h λa b=>aQ .i64 (some a) λa=>F316.wk12 l a b K
end
def F316.spec(H:bf h (.cells #[ap 0] 3) λa b=>(4:Int)≠0/\(4:Int)≠0/\(4:Int)≠0/\aK ((ax (j-i))>=8) (aK ((ax (j-i))>=50) (Cl 346 [.slice x u v,ap (ax (i+(ax ((ax (Int.tdiv (ax (j-i)) 4))*1)))),au (aw a)] b λb c=>aQ .i64 (some b) λb=>Cl 346 [.slice x u v,ap (ax (i+(ax ((ax (Int.tdiv (ax (j-i)) 4))*2)))),au (aw a)] c λc d=>aQ .i64 (some c) λc=>Cl 346 [.slice x u v,ap (ax (i+(ax ((ax (Int.tdiv (ax (j-i)) 4))*3)))),au (aw a)] d λd e=>aQ .i64 (some d) λd=>F316.wk11 x u v (aw a) b c d e K) (F316.wk11 x u v (aw a) (ax (i+(ax ((ax (Int.tdiv (ax (j-i)) 4))*1)))) (ax (i+(ax ((ax (Int.tdiv (ax (j-i)) 4))*2)))) (ax (i+(ax ((ax (Int.tdiv (ax (j-i)) 4))*3)))) b K)) (F316.wk12 (aw a) (ax (i+(ax ((ax (Int.tdiv (ax (j-i)) 4))*2)))) b K)):Cl 316 [.slice x u v,ap i,ap j] h K:=cT F316.T Tryz.func316 H
def F317.T:bi:=⟨[(2,[0,6,7])],[(3,[[(0,[]),(1,[]),(2,[]),(3,[]),(4,[]),(5,[]),(6,[]),(7,[]),(8,[]),(9,[]),(10,[]),(11,[]),(12,[]),(13,[2,3]),(14,[]),(15,[])]])]⟩
section
variable (n:Nat)(b:az)(a c:Nat)(g i f d:Int)(h:aI)(K:KK)
def F317.wL2:Prop:=Lp Tryz.f317 F317.T [1,1,0] n [(0,(.slice b a c)),(6,(ap f)),(7,(ap d))] h K
def F317.sL2:F317.wL2 (n+1) b a c f d h K=(aK (f<d) (aY b λe=>0<=d/\d<(a:Int)/\aQ .u32 (rd h (e.add (d.toNat*1))) λe=>aY b λg=>0<=f/\f<(a:Int)/\aQ .u32 (rd h (g.add (f.toNat*1))) λg=>aY b λi=>0<=f/\f<(a:Int)/\aW h ((i.add (f.toNat*1)).add 0) (aq e) λe=>aF (.slice b a c)/\aF (ap d)/\aY b λi=>0<=d/\d<(a:Int)/\aW e ((i.add (d.toNat*1)).add 0) (aq g) λe=>F317.wL2 n b a c (ax (f+1)) (ax (d-1)) e K) (K aE h)):=by kernel_rfl
def F317.wk2:Prop:=(∃e,F317.wL2 e b a c f d h K)
def F317.spec(H:F317.wk2 b a c g (ax (i-1)) h K):Cl 317 [.slice b a c,ap g,ap i] h K:=cT F317.T Tryz.func317 H
end
def F318.T:bi:=⟨[(3,[0,1,2,7,8]),(5,[0,1,2,7,8]),(7,[0,1,2,7,8]),(14,[0,1,2,7,8,9]),(18,[0,1,2,7,8]),(20,[0,1,2,7,8,10])],[(5,[[(0,[]),(1,[]),(2,[]),(3,[]),(4,[]),(5,[]),(6,[]),(7,[]),(8,[]),(9,[]),(10,[]),(11,[]),(12,[]),(13,[]),(14,[]),(15,[])]]),(11,[[(0,[]),(1,[]),(2,[]),(3,[]),(4,[]),(5,[]),(6,[]),(7,[]),(8,[]),(9,[]),(10,[]),(11,[]),(12,[]),(13,[]),(14,[]),(15,[2,3,4]),(16,[]),(17,[])]]),(16,[[(0,[]),(1,[]),(2,[]),(3,[]),(4,[]),(5,[]),(6,[]),(7,[]),(8,[]),(9,[]),(10,[])]]),(17,[[(0,[]),(1,[]),(2,[]),(3,[]),(4,[]),(5,[]),(6,[]),(7,[]),(8,[]),(9,[]),(10,[]),(11,[]),(12,[]),(13,[]),(14,[]),(15,[2,3,4]),(16,[]),(17,[])]]),(22,[[(0,[]),(1,[]),(2,[]),(3,[]),(4,[]),(5,[]),(6,[]),(7,[]),(8,[]),(9,[]),(10,[])]]),(23,[[(0,[]),(1,[]),(2,[]),(3,[]),(4,[]),(5,[]),(6,[]),(7,[]),(8,[]),(9,[]),(10,[]),(11,[]),(12,[]),(13,[]),(14,[]),(15,[2,3,4]),(16,[]),(17,[])]])]⟩
section
variable (n m3:Nat)(b:az)(a c:Nat)(i g f j l d:Int)(h:aI)(K:KK)
def F318.wL20:Prop:=Lr Tryz.f318 F318.T [1,1,0,1,0,0,1,0,0,1,1,1,1,1,1,0,1,0] [m3] n [(0,(.slice b a c)),(1,(ap i)),(2,(ap g)),(7,(ap f)),(8,(ap j)),(10,(ap d))] h K
def F318.wL14:Prop:=Lr Tryz.f318 F318.T [1,1,0,1,0,0,1,0,0,1,1,1,1,0,1,0,1,0] [m3] n [(0,(.slice b a c)),(1,(ap i)),(2,(ap g)),(7,(ap f)),(8,(ap j)),(9,(ap l))] h K
def F318.wL5:Prop:=Lr Tryz.f318 F318.T [1,1,0,1,0,0,1,0,0,0,0] [m3] n [(0,(.slice b a c)),(1,(ap i)),(2,(ap g)),(7,(ap f)),(8,(ap j))] h K
def F318.wL3:Prop:=Lp Tryz.f318 F318.T [1,1,0,1,0] n [(0,(.slice b a c)),(1,(ap i)),(2,(ap g)),(7,(ap f)),(8,(ap j))] h K
def F318.sL20:F318.wL20 (n+1) m3 b a c i g f j d h K=(aK (d<g) (aY b λe=>0<=d/\d<(a:Int)/\aQ .u32 (rd h (e.add (d.toNat*1))) λe=>aY b λk=>0<=(ax (d-1))/\(ax (d-1))<(a:Int)/\aQ .u32 (rd h (k.add ((ax (d-1)).toNat*1))) λk=>Cl 319 [aq e,aq k] h λe k=>bP (some e) λe=>aK (!e) (F318.wL3 m3 b a c i g f (ax (j+1)) k K) (aY b λe=>0<=(ax (d-1))/\(ax (d-1))<(a:Int)/\aQ .u32 (rd k (e.add ((ax (d-1)).toNat*1))) λe=>aY b λl=>0<=d/\d<(a:Int)/\aQ .u32 (rd k (l.add (d.toNat*1))) λl=>aY b λm=>0<=d/\d<(a:Int)/\aW k ((m.add (d.toNat*1)).add 0) (aq e) λe=>aF (.slice b a c)/\aF (ap d)/\aF (ap (ax (d-1)))/\aY b λk=>0<=(ax (d-1))/\(ax (d-1))<(a:Int)/\aW e ((k.add ((ax (d-1)).toNat*1)).add 0) (aq l) λe=>F318.wL20 n m3 b a c i g f j (ax (d+1)) e K)) (F318.wL3 m3 b a c i g f (ax (j+1)) h K)):=by kernel_rfl
def F318.wk20:Prop:=(∃e,F318.wL20 e m3 b a c i g f j d h K)
def F318.wk18:Prop:=aK ((ax (g-f))>=2) (F318.wk20 m3 b a c i g f j (ax (f+1)) h K) (F318.wL3 m3 b a c i g f (ax (j+1)) h K)
def F318.sL14:F318.wL14 (n+1) m3 b a c i g f j l h K=(aK (l>=1) (aY b λd=>0<=l/\l<(a:Int)/\aQ .u32 (rd h (d.add (l.toNat*1))) λd=>aY b λe=>0<=(ax (l-1))/\(ax (l-1))<(a:Int)/\aQ .u32 (rd h (e.add ((ax (l-1)).toNat*1))) λe=>Cl 319 [aq d,aq e] h λd e=>bP (some d) λd=>aK (!d) (F318.wk18 m3 b a c i g f j e K) (aY b λd=>0<=(ax (l-1))/\(ax (l-1))<(a:Int)/\aQ .u32 (rd e (d.add ((ax (l-1)).toNat*1))) λd=>aY b λk=>0<=l/\l<(a:Int)/\aQ .u32 (rd e (k.add (l.toNat*1))) λk=>aY b λm=>0<=l/\l<(a:Int)/\aW e ((m.add (l.toNat*1)).add 0) (aq d) λd=>aF (.slice b a c)/\aF (ap l)/\aF (ap (ax (l-1)))/\aY b λe=>0<=(ax (l-1))/\(ax (l-1))<(a:Int)/\aW d ((e.add ((ax (l-1)).toNat*1)).add 0) (aq k) λd=>F318.wL14 n m3 b a c i g f j (ax (l-1)) d K)) (F318.wk18 m3 b a c i g f j h K)):=by kernel_rfl
def F318.wk14:Prop:=(∃d,F318.wL14 d m3 b a c i g f j l h K)
def F318.wk7:Prop:=aK (f==g) (K aC h) (aK ((ax (g-i))<50) (K aB h) (aY b λd=>0<=(ax (f-1))/\(ax (f-1))<(a:Int)/\aQ .u32 (rd h (d.add ((ax (f-1)).toNat*1))) λd=>aY b λe=>0<=f/\f<(a:Int)/\aQ .u32 (rd h (e.add (f.toNat*1))) λe=>aY b λk=>0<=f/\f<(a:Int)/\aW h ((k.add (f.toNat*1)).add 0) (aq d) λd=>aF (.slice b a c)/\aF (ap f)/\aF (ap (ax (f-1)))/\aY b λk=>0<=(ax (f-1))/\(ax (f-1))<(a:Int)/\aW d ((k.add ((ax (f-1)).toNat*1)).add 0) (aq e) λd=>aK ((ax (f-i))>=2) (F318.wk14 m3 b a c i g f j (ax (f-1)) d K) (F318.wk18 m3 b a c i g f j d K)))
def F318.sL5:F318.wL5 (n+1) m3 b a c i g f j h K=(aK (f<g) (aY b λd=>0<=f/\f<(a:Int)/\aQ .u32 (rd h (d.add (f.toNat*1))) λd=>aY b λe=>0<=(ax (f-1))/\(ax (f-1))<(a:Int)/\aQ .u32 (rd h (e.add ((ax (f-1)).toNat*1))) λe=>Cl 319 [aq d,aq e] h λd e=>bP (some d) λd=>aK (!d) (F318.wL5 n m3 b a c i g (ax (f+1)) j e K) (F318.wk7 m3 b a c i g f j e K)) (F318.wk7 m3 b a c i g f j h K)):=by kernel_rfl
def F318.wk5:Prop:=(∃d,F318.wL5 d m3 b a c i g f j h K)
def F318.sL3:F318.wL3 (n+1) b a c i g f j h K=(aK (j<5) (F318.wk5 n b a c i g f j h K) (K aB h)):=by kernel_rfl
def F318.wk3:Prop:=(∃d,F318.wL3 d b a c i g f j h K)
def F318.spec(H:F318.wk3 b a c i g (ax (i+1)) 0 h K):Cl 318 [.slice b a c,ap i,ap g] h K:=cT F318.T Tryz.func318 H
end
def F320.T:bi:=⟨[(3,[0,1,9,10]),(5,[0,1,9,10]),(7,[0,1,9,10])],[(1,[[(0,[]),(1,[]),(2,[]),(3,[]),(4,[]),(5,[]),(6,[]),(7,[]),(8,[]),(9,[]),(10,[]),(11,[]),(12,[]),(13,[2,3]),(14,[]),(15,[])]]),(3,[[(0,[]),(1,[]),(2,[]),(3,[]),(4,[]),(5,[]),(6,[]),(7,[]),(8,[]),(9,[]),(10,[]),(11,[]),(12,[]),(13,[]),(14,[])]]),(5,[[(0,[]),(1,[]),(2,[]),(3,[]),(4,[]),(5,[]),(6,[]),(7,[]),(8,[]),(9,[]),(10,[]),(11,[]),(12,[]),(13,[])]]),(8,[[(0,[]),(1,[]),(2,[]),(3,[]),(4,[]),(5,[]),(6,[]),(7,[]),(8,[]),(9,[]),(10,[]),(11,[]),(12,[]),(13,[2,3]),(14,[]),(15,[])]])]⟩
section
variable (n m3:Nat)(b:az)(a d:Nat)(f j i g c:Int)(h:aI)(K:KK)
def F320.wL5:Prop:=Lr Tryz.f320 F320.T [1,1,1,0,0,0,0,1,0,0] [m3] n [(0,(.slice b a d)),(1,(ap f)),(9,(ap g)),(10,(ap c))] h K
def F320.wL1003:Prop:=Lr Tryz.f320 F320.T [1,1,1,0,0,0,0,0,0] [m3] n [(0,(.slice b a d)),(1,(ap f)),(9,(ap g)),(10,(ap c))] h K
def F320.wL3:Prop:=Lp Tryz.f320 F320.T [1,1,1,0,0] n [(0,(.slice b a d)),(1,(ap f)),(9,(ap g)),(10,(ap c))] h K
def F320.wk7:Prop:=aK (g>c) (K (ap g) h) (aY b λe=>0<=c/\c<(a:Int)/\aQ .u32 (rd h (e.add (c.toNat*1))) λe=>aY b λi=>0<=g/\g<(a:Int)/\aQ .u32 (rd h (i.add (g.toNat*1))) λi=>aY b λj=>0<=g/\g<(a:Int)/\aW h ((j.add (g.toNat*1)).add 0) (aq e) λe=>aF (.slice b a d)/\aF (ap c)/\aY b λj=>0<=c/\c<(a:Int)/\aW e ((j.add (c.toNat*1)).add 0) (aq i) λe=>F320.wL3 m3 b a d f (ax (g+1)) (ax (c-1)) e K)
def F320.sL5:F320.wL5 (n+1) m3 b a d f g c h K=(aK (g<=c) (aY b λe=>0<=f/\f<(a:Int)/\aQ .u32 (rd h (e.add (f.toNat*1))) λe=>aY b λi=>0<=c/\c<(a:Int)/\aQ .u32 (rd h (i.add (c.toNat*1))) λi=>Cl 319 [aq e,aq i] h λe i=>bP (some e) λe=>aK e (F320.wL5 n m3 b a d f g (ax (c-1)) i K) (F320.wk7 m3 b a d f g c i K)) (F320.wk7 m3 b a d f g c h K)):=by kernel_rfl
def F320.wk5:Prop:=(∃e,F320.wL5 e m3 b a d f g c h K)
def F320.sL1003:F320.wL1003 (n+1) m3 b a d f g c h K=(aK (g<=c) (aY b λe=>0<=f/\f<(a:Int)/\aQ .u32 (rd h (e.add (f.toNat*1))) λe=>aY b λi=>0<=g/\g<(a:Int)/\aQ .u32 (rd h (i.add (g.toNat*1))) λi=>Cl 319 [aq e,aq i] h λe i=>bP (some e) λe=>aK (!e) (F320.wL1003 n m3 b a d f (ax (g+1)) c i K) (F320.wk5 m3 b a d f g c i K)) (F320.wk5 m3 b a d f g c h K)):=by kernel_rfl
def F320.sL3:F320.wL3 (n+1) b a d f g c h K=((∃e,F320.wL1003 e n b a d f g c h K)):=by kernel_rfl
def F320.wk3:Prop:=(∃e,F320.wL3 e b a d f g c h K)
def F320.spec(H:aY b λc=>0<=i/\i<(a:Int)/\aQ .u32 (rd h (c.add (i.toNat*1))) λc=>aY b λe=>0<=f/\f<(a:Int)/\aQ .u32 (rd h (e.add (f.toNat*1))) λe=>aY b λg=>0<=f/\f<(a:Int)/\aW h ((g.add (f.toNat*1)).add 0) (aq c) λc=>aF (.slice b a d)/\aF (ap i)/\aY b λg=>0<=i/\i<(a:Int)/\aW c ((g.add (i.toNat*1)).add 0) (aq e) λc=>F320.wk3 b a d f (ax (f+1)) (ax (j-1)) c K):Cl 320 [.slice b a d,ap f,ap j,ap i] h K:=cT F320.T Tryz.func320 H
end
def F321.T:bi:=⟨[(3,[0,1,10,11]),(5,[0,1,10,11]),(7,[0,1,10,11]),(13,[0,1,10,11]),(15,[0,1,10,11]),(17,[0,1,10,11]),(21,[0,1,11])],[(1,[[(0,[]),(1,[]),(2,[]),(3,[]),(4,[]),(5,[]),(6,[]),(7,[]),(8,[]),(9,[]),(10,[]),(11,[]),(12,[]),(13,[2,3]),(14,[]),(15,[])]]),(3,[[(0,[]),(1,[]),(2,[]),(3,[]),(4,[]),(5,[]),(6,[]),(7,[]),(8,[]),(9,[]),(10,[]),(11,[]),(12,[]),(13,[])]]),(5,[[(0,[]),(1,[]),(2,[]),(3,[]),(4,[]),(5,[]),(6,[]),(7,[]),(8,[]),(9,[]),(10,[]),(11,[]),(12,[]),(13,[]),(14,[])]]),(8,[[(0,[]),(1,[]),(2,[]),(3,[]),(4,[]),(5,[]),(6,[]),(7,[]),(8,[]),(9,[]),(10,[]),(11,[]),(12,[]),(13,[2,3]),(14,[]),(15,[])]]),(10,[[(0,[]),(1,[]),(2,[]),(3,[]),(4,[]),(5,[]),(6,[]),(7,[]),(8,[]),(9,[]),(10,[]),(11,[]),(12,[]),(13,[2,3]),(14,[]),(15,[])]]),(13,[[(0,[]),(1,[]),(2,[]),(3,[]),(4,[]),(5,[]),(6,[]),(7,[]),(8,[]),(9,[]),(10,[]),(11,[]),(12,[]),(13,[])]]),(15,[[(0,[]),(1,[]),(2,[]),(3,[]),(4,[]),(5,[]),(6,[]),(7,[]),(8,[]),(9,[]),(10,[]),(11,[]),(12,[]),(13,[]),(14,[])]]),(18,[[(0,[]),(1,[]),(2,[]),(3,[]),(4,[]),(5,[]),(6,[]),(7,[]),(8,[]),(9,[]),(10,[]),(11,[]),(12,[]),(13,[2,3]),(14,[]),(15,[])]]),(21,[[(0,[]),(1,[]),(2,[]),(3,[]),(4,[]),(5,[]),(6,[]),(7,[]),(8,[]),(9,[]),(10,[]),(11,[]),(12,[]),(13,[2,3]),(14,[]),(15,[])]])]⟩
section
variable (n m13:Nat)(c:az)(b f:Nat)(g j i d a:Int)(h:aI)(K:KK)
def F321.wL15:Prop:=Lr Tryz.f321 F321.T [1,1,1,1,1,1,1,1,1,0,0,0,0,1,0,0] [m13] n [(0,(.slice c b f)),(1,(ap g)),(10,(ap d)),(11,(ap a))] h K
def F321.wL1013:Prop:=Lr Tryz.f321 F321.T [1,1,1,1,1,1,1,1,1,0,0,0,0,0,0] [m13] n [(0,(.slice c b f)),(1,(ap g)),(10,(ap d)),(11,(ap a))] h K
def F321.wL13:Prop:=Lp Tryz.f321 F321.T [1,1,1,1,1,1,1,1,1,0,0] n [(0,(.slice c b f)),(1,(ap g)),(10,(ap d)),(11,(ap a))] h K
def F321.wL5:Prop:=Lp Tryz.f321 F321.T [1,1,1,1,0,0] n [(0,(.slice c b f)),(1,(ap g)),(10,(ap d)),(11,(ap a))] h K
def F321.wL3:Prop:=Lp Tryz.f321 F321.T [1,1,1,0,0] n [(0,(.slice c b f)),(1,(ap g)),(10,(ap d)),(11,(ap a))] h K
def F321.wk21:Prop:=aY c λd=>0<=g/\g<(b:Int)/\aQ .u32 (rd h (d.add (g.toNat*1))) λd=>aY c λe=>0<=a/\a<(b:Int)/\aQ .u32 (rd h (e.add (a.toNat*1))) λe=>aY c λi=>0<=a/\a<(b:Int)/\aW h ((i.add (a.toNat*1)).add 0) (aq d) λd=>aF (.slice c b f)/\aF (ap g)/\aY c λc=>0<=g/\g<(b:Int)/\aW d ((c.add (g.toNat*1)).add 0) (aq e) λb=>K (.tuple #[ap a,aB]) b
def F321.wk17:Prop:=aK (d>a) (F321.wk21 c b f g a h K) (aY c λe=>0<=a/\a<(b:Int)/\aQ .u32 (rd h (e.add (a.toNat*1))) λe=>aY c λi=>0<=d/\d<(b:Int)/\aQ .u32 (rd h (i.add (d.toNat*1))) λi=>aY c λj=>0<=d/\d<(b:Int)/\aW h ((j.add (d.toNat*1)).add 0) (aq e) λe=>aF (.slice c b f)/\aF (ap a)/\aY c λj=>0<=a/\a<(b:Int)/\aW e ((j.add (a.toNat*1)).add 0) (aq i) λe=>F321.wL13 m13 c b f g (ax (d+1)) (ax (a-1)) e K)
def F321.sL15:F321.wL15 (n+1) m13 c b f g d a h K=(aK (d<=a) (aY c λe=>0<=a/\a<(b:Int)/\aQ .u32 (rd h (e.add (a.toNat*1))) λe=>aY c λi=>0<=g/\g<(b:Int)/\aQ .u32 (rd h (i.add (g.toNat*1))) λi=>Cl 319 [aq e,aq i] h λe i=>bP (some e) λe=>aK (!e) (F321.wL15 n m13 c b f g d (ax (a-1)) i K) (F321.wk17 m13 c b f g d a i K)) (F321.wk17 m13 c b f g d a h K)):=by kernel_rfl
def F321.wk15:Prop:=(∃e,F321.wL15 e m13 c b f g d a h K)
def F321.sL1013:F321.wL1013 (n+1) m13 c b f g d a h K=(aK (d<=a) (aY c λe=>0<=d/\d<(b:Int)/\aQ .u32 (rd h (e.add (d.toNat*1))) λe=>aY c λi=>0<=g/\g<(b:Int)/\aQ .u32 (rd h (i.add (g.toNat*1))) λi=>Cl 319 [aq e,aq i] h λe i=>bP (some e) λe=>aK e (F321.wL1013 n m13 c b f g (ax (d+1)) a i K) (F321.wk15 m13 c b f g d a i K)) (F321.wk15 m13 c b f g d a h K)):=by kernel_rfl
def F321.sL13:F321.wL13 (n+1) c b f g d a h K=((∃e,F321.wL1013 e n c b f g d a h K)):=by kernel_rfl
def F321.wk13:Prop:=(∃e,F321.wL13 e c b f g d a h K)
def F321.wk7:Prop:=aK (d>a) (aY c λd=>0<=g/\g<(b:Int)/\aQ .u32 (rd h (d.add (g.toNat*1))) λd=>aY c λe=>0<=a/\a<(b:Int)/\aQ .u32 (rd h (e.add (a.toNat*1))) λe=>aY c λi=>0<=a/\a<(b:Int)/\aW h ((i.add (a.toNat*1)).add 0) (aq d) λd=>aF (.slice c b f)/\aF (ap g)/\aY c λc=>0<=g/\g<(b:Int)/\aW d ((c.add (g.toNat*1)).add 0) (aq e) λb=>K (.tuple #[ap a,aC]) b) (aY c λe=>0<=a/\a<(b:Int)/\aQ .u32 (rd h (e.add (a.toNat*1))) λe=>aY c λi=>0<=d/\d<(b:Int)/\aQ .u32 (rd h (i.add (d.toNat*1))) λi=>aY c λj=>0<=d/\d<(b:Int)/\aW h ((j.add (d.toNat*1)).add 0) (aq e) λe=>aF (.slice c b f)/\aF (ap a)/\aY c λj=>0<=a/\a<(b:Int)/\aW e ((j.add (a.toNat*1)).add 0) (aq i) λe=>F321.wk13 c b f g (ax (d+1)) (ax (a-1)) e K)
def F321.sL5:F321.wL5 (n+1) c b f g d a h K=(aK (d<=a) (aY c λe=>0<=a/\a<(b:Int)/\aQ .u32 (rd h (e.add (a.toNat*1))) λe=>aY c λi=>0<=g/\g<(b:Int)/\aQ .u32 (rd h (i.add (g.toNat*1))) λi=>Cl 319 [aq e,aq i] h λe i=>bP (some e) λe=>aK (!e) (F321.wL5 n c b f g d (ax (a-1)) i K) (F321.wk7 c b f g d a i K)) (F321.wk7 c b f g d a h K)):=by kernel_rfl
def F321.wk5:Prop:=(∃e,F321.wL5 e c b f g d a h K)
def F321.sL3:F321.wL3 (n+1) c b f g d a h K=(aK (d<=a) (aY c λe=>0<=d/\d<(b:Int)/\aQ .u32 (rd h (e.add (d.toNat*1))) λe=>aY c λi=>0<=g/\g<(b:Int)/\aQ .u32 (rd h (i.add (g.toNat*1))) λi=>Cl 319 [aq e,aq i] h λe i=>bP (some e) λe=>aK e (F321.wL3 n c b f g (ax (d+1)) a i K) (F321.wk5 c b f g d a i K)) (F321.wk5 c b f g d a h K)):=by kernel_rfl
def F321.wk3:Prop:=(∃e,F321.wL3 e c b f g d a h K)
def F321.spec(H:aY c λa=>0<=i/\i<(b:Int)/\aQ .u32 (rd h (a.add (i.toNat*1))) λa=>aY c λd=>0<=g/\g<(b:Int)/\aQ .u32 (rd h (d.add (g.toNat*1))) λd=>aY c λe=>0<=g/\g<(b:Int)/\aW h ((e.add (g.toNat*1)).add 0) (aq a) λa=>aF (.slice c b f)/\aF (ap i)/\aY c λe=>0<=i/\i<(b:Int)/\aW a ((e.add (i.toNat*1)).add 0) (aq d) λa=>F321.wk3 c b f g (ax (g+1)) (ax (j-1)) a K):Cl 321 [.slice c b f,ap g,ap j,ap i] h K:=cT F321.T Tryz.func321 H
end
def F343.T:bi:=⟨[(1,[0,2,3,8]),(5,[0,2,3,8,9])],[(3,[[(0,[]),(1,[]),(2,[]),(3,[]),(4,[]),(5,[]),(6,[]),(7,[]),(8,[]),(9,[]),(10,[]),(11,[]),(12,[]),(13,[]),(14,[]),(15,[]),(16,[]),(17,[]),(18,[]),(19,[])]]),(5,[[(0,[]),(1,[]),(2,[]),(3,[]),(4,[]),(5,[]),(6,[]),(7,[]),(8,[]),(9,[]),(10,[]),(11,[]),(12,[]),(13,[])]]),(6,[[(0,[]),(1,[]),(2,[]),(3,[]),(4,[]),(5,[]),(6,[]),(7,[]),(8,[]),(9,[]),(10,[]),(11,[]),(12,[]),(13,[]),(14,[]),(15,[]),(16,[]),(17,[]),(18,[]),(19,[]),(20,[]),(21,[4,5,6,7]),(22,[]),(23,[])]])]⟩
section
variable (bk1:(az)->Nat->Nat->Int->Int->Int->aI->Prop)(n:Nat)(b:az)(a d:Nat)(j g c f i:Int)(h:aI)(K:KK)
def F343.wL1:Prop:=Lp Tryz.f343 F343.T [1,0] n [(0,(.slice b a d)),(2,(ap g)),(3,(ap c)),(8,(ap f))] h K
def F343.wk5:Prop:=aY b λe=>0<=(ax (c+f))/\(ax (c+f))<(a:Int)/\aQ .u32 (rd h (e.add ((ax (c+f)).toNat*1))) λe=>aY b λj=>0<=(ax (c+i))/\(ax (c+i))<(a:Int)/\aQ .u32 (rd h (j.add ((ax (c+i)).toNat*1))) λj=>Cl 319 [aq e,aq j] h λe j=>bP (some e) λe=>aK (!e) (K aE j) (aY b λe=>0<=(ax (c+i))/\(ax (c+i))<(a:Int)/\aQ .u32 (rd j (e.add ((ax (c+i)).toNat*1))) λe=>aY b λk=>0<=(ax (c+f))/\(ax (c+f))<(a:Int)/\aQ .u32 (rd j (k.add ((ax (c+f)).toNat*1))) λk=>aY b λl=>0<=(ax (c+f))/\(ax (c+f))<(a:Int)/\aW j ((l.add ((ax (c+f)).toNat*1)).add 0) (aq e) λe=>aF (.slice b a d)/\aF (ap c)/\aF (ap i)/\aF (ap (ax (c+i)))/\aY b λf=>0<=(ax (c+i))/\(ax (c+i))<(a:Int)/\aW e ((f.add ((ax (c+i)).toNat*1)).add 0) (aq k) λe=>bk1 b a d g c i e)
def F343.sL1:F343.wL1 (n+1) b a d g c f h K=(aK ((ax ((ax (2*f))+1))>=g) (K aE h) (aK ((ax ((ax ((ax (2*f))+1))+1))<g) (aY b λe=>0<=(ax (c+(ax ((ax (2*f))+1))))/\(ax (c+(ax ((ax (2*f))+1))))<(a:Int)/\aQ .u32 (rd h (e.add ((ax (c+(ax ((ax (2*f))+1)))).toNat*1))) λe=>aY b λi=>0<=(ax ((ax (c+(ax ((ax (2*f))+1))))+1))/\(ax ((ax (c+(ax ((ax (2*f))+1))))+1))<(a:Int)/\aQ .u32 (rd h (i.add ((ax ((ax (c+(ax ((ax (2*f))+1))))+1)).toNat*1))) λi=>Cl 319 [aq e,aq i] h λe i=>bP (some e) λe=>aK e (F343.wk5 (λa b c d e f g=>F343.wL1 n a b c d e f g K) b a d g c f (ax ((ax ((ax (2*f))+1))+1)) i K) (F343.wk5 (λa b c d e f g=>F343.wL1 n a b c d e f g K) b a d g c f (ax ((ax (2*f))+1)) i K)) (F343.wk5 (λa b c d e f g=>F343.wL1 n a b c d e f g K) b a d g c f (ax ((ax (2*f))+1)) h K))):=by kernel_rfl
def F343.wk1:Prop:=(∃e,F343.wL1 e b a d g c f h K)
def F343.spec(H:F343.wk1 b a d g c j h K):Cl 343 [.slice b a d,ap j,ap g,ap c] h K:=cT F343.T Tryz.func343 H
end
def F344.spec(H:Cl 295 [ar (IntKind.wrap .u64 i)] h λa b=>aQ .i64 (some a) λa=>0<=a/\K (ar (IntKind.wrap .u64 ((1:Int)*2^(min (a.toNat) (IntKind.bits .u64))))) b):Cl 344 [ap i] h K:=cN Tryz.func344 H
def F345.T:bi:=⟨[],[(1,[[(0,[]),(1,[]),(2,[]),(3,[]),(4,[]),(5,[]),(6,[]),(7,[]),(8,[]),(9,[])]]),(2,[[(0,[]),(1,[]),(2,[]),(3,[]),(4,[]),(5,[]),(6,[]),(7,[]),(8,[]),(9,[])]]),(3,[[(0,[]),(1,[]),(2,[]),(3,[]),(4,[]),(5,[]),(6,[]),(7,[]),(8,[]),(9,[])]])]⟩
def F345.spec{a:Addr}(H:aQ .u64 (rd h a) λb=>aQ .u64 (rd h a) λc=>0<=(13:Int)/\aW h (a.add 0) (ar (bo .xor .u64 b (IntKind.wrap .u64 (c*2^(min (Int.toNat 13) (IntKind.bits .u64)))))) λb=>aQ .u64 (rd b a) λc=>aQ .u64 (rd b a) λd=>0<=(7:Int)/\aW b (a.add 0) (ar (bo .xor .u64 c (Int.fdiv d (2^(min (Int.toNat 7) (IntKind.bits .u64)))))) λb=>aQ .u64 (rd b a) λc=>aQ .u64 (rd b a) λd=>0<=(17:Int)/\aW b (a.add 0) (ar (bo .xor .u64 c (IntKind.wrap .u64 (d*2^(min (Int.toNat 17) (IntKind.bits .u64)))))) λb=>aQ .u64 (rd b a) λa=>K (ar a) b):Cl 345 [au a] h K:=cT F345.T Tryz.func345 H
def F346.spec(H:Cl 347 [.slice x u v,ap (ax (i-1)),ap i,ap (ax (i+1)),au a] h λa b=>aQ .i64 (some a) λa=>K (ap a) b):Cl 346 [.slice x u v,ap i,au a] h K:=cN Tryz.func346 H
def F347.spec(H:Cl 366 [.slice x u v,ap i,ap j,au a] h λb c=> ∃d:Int,∃e:Int,b=(.tuple #[ap d,ap e])/\Cl 366 [.slice x u v,ap e,ap k,au a] c λb c=> ∃e:Int,∃f:Int,b=(.tuple #[ap e,ap f])/\Cl 366 [.slice x u v,ap d,ap e,au a] c λa b=> ∃c:Int,∃d:Int,a=(.tuple #[ap c,ap d])/\K (ap d) b):Cl 347 [.slice x u v,ap i,ap j,ap k,au a] h K:=cN Tryz.func347 H
def F366.T:bi:=⟨[],[(1,[[(0,[]),(1,[]),(2,[]),(3,[]),(4,[]),(5,[]),(6,[]),(7,[]),(8,[])]])]⟩
def F366.spec{i j:Int}{a:Addr}{u v:Nat}{x:az}{h:aI}{K:KK}(H:aY x λb=>0<=j/\j<(u:Int)/\aQ .u32 (rd h (b.add (j.toNat*1))) λb=>aY x λc=>0<=i/\i<(u:Int)/\aQ .u32 (rd h (c.add (i.toNat*1))) λc=>Cl 319 [aq b,aq c] h λb c=>bP (some b) λb=>aK b (aQ .i64 (rd c a) λb=>aW c (a.add 0) (ap (ax (b+1))) λa=>K (.tuple #[ap j,ap i]) a) (K (.tuple #[ap i,ap j]) c)):Cl 366 [.slice x u v,ap i,ap j,au a] h K:=cT F366.T Tryz.func366 H
def GN{b n a e c:Nat}{sp:List Value}{K:KK}(he:e<=n)(hn:n<=LB-2):
  ∀(d:Nat) (i:Nat) (y:Int) (g:Nat->Int) (h:aI),cd .u32 h b n g sp->a<=i->i<=n+1->y<e-> -1<=y->y<=i+d->(∀h' g',cd .u32 h' b n g' sp->dz a e g g'->aM [b] h h'->K aE h')->
   F317.wL2 (d+1) (some (aw b)) n c i y h K:=by
 intro d;have l:LB=140737488355328:=rfl
 induction d with
 |zero=>
  intro i y g h A h1 f h2 k h3 hK;rw[F317.sL2];rw[show decide ((i:Int)<y)=false by simp;omega];exact hK h g A (.refl g) (aM.refl _ _)
 |succ d ih=>
  intro i y g h A h1 f h2 k h3 hK;rw[F317.sL2];refine aS (λhc=> ?_) λhc=> ?_
  ·simp only[Na]at hc;obtain⟨j,rfl⟩: ∃j:Nat,y=j:=⟨y.toNat,ah⟩;refine A.ld rfl ah (A.ld rfl ah (A.sto rfl ah λh1 A1 O1=>⟨rfl,rfl,A1.sto rfl ah λh2 A2 O2=> ?_⟩));have A2':cd .u32 h2 b n (swp g i j) sp:=A2;rw[show ax ((i:Int)+1)=((i+1:Nat):Int) by rw[br ah ah];omega,br (x:=(j:Int)-1) ah ah];exact ih (i+1) _ _ h2 A2' ah ah ah ah ah λh' g' A' S' O'=>hK h' g' A' ((dz.one g ah ah ah ah).trans S') ((O1.trans O2 ak).trans O' ak)
  ·exact hK h g A (.refl g) (aM.refl _ _)
def JD{h:aI}{b n a e c:Nat}{g:Nat->Int}{sp:List Value}{K:KK}(A:cd .u32 h b n g sp)(he:e<=n)(ha:a<=n)(hn:n<=LB-2)
  (hK: ∀h' g',cd .u32 h' b n g' sp->dz a e g g'->aM [b] h h'->K aE h'):Cl 317 [.slice (some (aw b)) n c,ap a,ap e] h K:=by
 refine F317.spec _ _ _ _ _ h K ?_;unfold F317.wk2;have d:LB=140737488355328:=rfl;rw[br (x:=(e:Int)-1) ah ah];exact⟨e+1,GN he hn e a _ g h A (MN _) ah ah ah ah hK⟩
def Hp(lo hi r:Nat)(u:Nat->Int):Prop:=
 (∀k c,lo<=k->k≠r->(c=2*k+1\/c=2*k+2)->c<hi->u c<=u k)/\(∀k c,lo<=k->(r=2*k+1\/r=2*k+2)->(c=2*r+1\/c=2*r+2)->c<hi->u c<=u k)
def FJ(lo hi:Nat)(u:Nat->Int):Prop:= ∀k c,lo<=k->(c=2*k+1\/c=2*k+2)->c<hi->u c<=u k
def Hp.stop(H:Hp lo hi r u)(h: ∀c,(c=2*r+1\/c=2*r+2)->c<hi->u c<=u r):FJ lo hi u:=λk c h1 h2 h3=>by
 by_cases hk:k=r
 ·subst hk;exact h c h2 h3
 ·exact H.1 k c h1 hk h2 h3
def Hp.step{lo hi r ch:Nat}{u:Nat->Int}(H:Hp lo hi r u)(hr:lo<=r)(a:ch=2*r+1\/ch=2*r+2)(hh:ch<hi)(hb: ∀c,(c=2*r+1\/c=2*r+2)->c<hi->u c<=u ch)(hl:u r<u ch):
  Hp lo hi ch (swp u r ch):=by
 refine⟨λk c h1 h2 h3 h4=> ?_,λk c h1 h2 h3 h4=> ?_⟩
 ·by_cases hk:k=r
  ·subst hk;rw[jE];by_cases hc:c=ch
   ·subst hc;rw[oA];exact OY hl
   ·rw[dO u ah hc];exact hb c h3 h4
  ·rw[dO u hk h2];by_cases hc:c=r
   ·subst hc;rw[jE];exact H.2 k ch h1 h3 a hh
   ·have b:c≠ch:=ah;rw[dO u hc b];exact H.1 k c h1 hk h3 h4
 ·have hk:k=r:=ah;subst hk;rw[jE,dO u ah ah];exact H.1 ch c ah ah h3 h4
def FJ.max(H:FJ 0 hi u): ∀k,k<hi->u k<=u 0:=by
 intro k
 induction k using Nat.strongRecOn with
 |_ k ih=>
  intro hk;by_cases h0:k=0
  ·subst h0;exact Pv _
  ·exact Ph (H ((k-1)/2) k ah ah hk) (ih ((k-1)/2) ah ah)
def sh(a:Nat)(g:Nat->Int):Nat->Int:=λk=>g (a+k)
def Ca(a:Nat)(g:Nat->Int)(i j:Nat):sh a (swp g (a+i) (a+j))=swp (sh a g) i j:=by funext k;unfold sh swp;simp only[Nat.add_left_cancel_iff]
def CY{b n a e c lo:Nat}{sp:List Value}{K:KK}(he:a+e<=n)(hn:n<=LB/4):
  ∀(d:Nat) (r:Nat) (g:Nat->Int) (h:aI),cd .u32 h b n g sp->Hp lo e r (sh a g)->lo<=r->r<e->e<=r+d->(∀h' g',cd .u32 h' b n g' sp->FJ lo e (sh a g')->dz (a+lo) (a+e) g g'->aM [b] h h'->K aE h')->
   F343.wL1 (d+1) (some (aw b)) n c e a r h K:=by
 intro d;have q:LB=140737488355328:=rfl
 induction d with
 |zero=>intro r g h A H h1 h2 h3;omega
 |succ d ih=>
  intro r g h A H h1 h2 h3 hK;rw[F343.sL1]
  have w1:ax (ax ((2:Int)*(r:Int))+1)=((2*r+1:Nat):Int):=by rw[br (x:=(2:Int)*r) ah ah,br ah ah];omega
  have w2:ax (((2*r+1:Nat):Int)+1)=((2*r+2:Nat):Int):=by rw[br ah ah];omega
  have f: ∀ch:Nat,(ch=2*r+1\/ch=2*r+2)->ch<e->(∀c,(c=2*r+1\/c=2*r+2)->c<e->sh a g c<=sh a g ch)->
    F343.wk5 (λo l m x2 x3 x8 h=>F343.wL1 (d+1) o l m x2 x3 x8 h K) (some (aw b)) n c e a r ch h K:=by
   intro ch k j hb;unfold F343.wk5;have w4:ax ((a:Int)+(r:Int))=((a+r:Nat):Int):=by rw[br ah ah];omega
   have w5:ax ((a:Int)+(ch:Int))=((a+ch:Nat):Int):=by rw[br ah ah];omega
   rw[w4,w5];refine A.ld rfl ah (A.ld rfl ah (d9 ?_));rw[bU];refine aS (λhl=> ?_) λhl=> ?_
   ·simp only[NC,MX]at hl;refine hK h g A (H.stop λc h4 h5=>Ph (hb c h4 h5) ?_) (.refl g) (aM.refl _ _);show g (a+ch)<=g (a+r);omega
   ·simp only[OT,Na]at hl;refine A.ld rfl ah (A.ld rfl ah (A.sto rfl ah λk1 A1 O1=>⟨rfl,rfl,rfl,rfl,A1.sto rfl ah λk2 A2 O2=> ?_⟩));have A2':cd .u32 k2 b n (swp g (a+r) (a+ch)) sp:=A2;have H2:=H.step h1 k j hb hl;rw[<-Ca]at H2;exact ih ch _ k2 A2' H2 ah j ah λh' g' A' R' S' O'=>hK h' g' A' R' ((dz.one g ah ah ah ah).trans S') ((O1.trans O2 ak).trans O' ak)
  rw[w1,w2];refine aS (λhc=> ?_) λhc=> ?_
  ·simp only[Na]at hc;exact hK h g A (H.stop λc h4 h5=>ah) (.refl g) (aM.refl _ _)
  ·simp only[MX]at hc;have w3:ax ((a:Int)+((2*r+1:Nat):Int))=((a+(2*r+1):Nat):Int):=by rw[br ah ah];omega
   rw[w3];refine aS (λi=> ?_) λi=> ?_
   ·simp only[Na]at i;have w6:ax (((a+(2*r+1):Nat):Int)+1)=((a+(2*r+2):Nat):Int):=by rw[br ah ah];omega
    rw[w6];refine A.ld rfl ah (A.ld rfl ah (d9 ?_));rw[bU];refine aS (λhl=> ?_) λhl=> ?_
    ·simp only[Na]at hl;refine f (2*r+2) (.inr rfl) ah λc h4 h5=> ?_;rcases h4 with rfl|rfl
     ·exact OY hl
     ·exact Pv _
    ·simp only[MX]at hl;refine f (2*r+1) (.inl rfl) ah λc h4 h5=> ?_;rcases h4 with rfl|rfl
     ·exact Pv _
     ·show g (a+(2*r+2))<=g (a+(2*r+1));omega
   ·simp only[MX]at i;refine f (2*r+1) (.inl rfl) ah λc h4 h5=> ?_;rcases h4 with rfl|rfl
    ·exact Pv _
    ·omega
def BQ{h:aI}{b n a e c lo:Nat}{g:Nat->Int}{sp:List Value}{K:KK}(A:cd .u32 h b n g sp)(H:FJ (lo+1) e (sh a g))(d:lo<e\/e=0)(he:a+e<=n)(hn:n<=LB/4)(hl:lo<=n)
  (hK: ∀h' g',cd .u32 h' b n g' sp->FJ lo e (sh a g')->dz (a+lo) (a+e) g g'->aM [b] h h'->K aE h'):Cl 343 [.slice (some (aw b)) n c,ap lo,ap e,ap a] h K:=by
 refine F343.spec _ _ _ _ _ _ h K ?_;unfold F343.wk1;have f:LB=140737488355328:=rfl;rcases d with d|h0
 ·refine⟨e+1,CY he hn e lo g h A ⟨λk c h1 h2 h3 h4=>H k c ah h3 h4,λk c h1 h2=>ah⟩ (MN _) d ah hK⟩
 ·subst h0;refine⟨1,?_⟩;rw[F343.sL1]
  have w1:ax (ax ((2:Int)*(lo:Int))+1)=((2*lo+1:Nat):Int):=by rw[br (x:=(2:Int)*lo) ah ah,br ah ah];omega
  rw[w1,show decide ((((2*lo+1:Nat):Int))>=((0:Nat):Int))=true by simp;omega];exact hK h g A (λk c h1 h2 h3=>ah) (.refl g) (aM.refl _ _)
def GK{b n a e c:Nat}{sp:List Value}{K:KK}(he:a+e<=n)(hn:n<=LB/4):
  ∀(m:Nat) (g:Nat->Int) (h:aI),cd .u32 h b n g sp->m<=e->FJ 0 m (sh a g)->(∀p q,m<=p->p<q->q<e->sh a g p<=sh a g q)->(∀p q,p<m->m<=q->q<e->sh a g p<=sh a g q)->
   (∀h' g',cd .u32 h' b n g' sp->fZ a (a+e) g'->dz a (a+e) g g'->aM [b] h h'->K aE h')->F314.wL8 (m+1) (some (aw b)) n c a ((m:Int)-1) h K:=by
 intro m;have j:LB=140737488355328:=rfl
 induction m with
 |zero=>
  intro g h A hm H T1 T2 hK;rw[F314.sL8];rw[show decide ((((0:Nat):Int)-1)>=0)=false by simp];refine hK h g A (λp q h1 h2 h3=> ?_) (.refl g) (aM.refl _ _);have:=T1 (p-a) (q-a) ah ah ah;unfold sh at this;rw[show a+(p-a)=p by omega,show a+(q-a)=q by omega]at this;exact this
 |succ m ih=>
  intro g h A hm H T1 T2 hK;rw[F314.sL8];rw[show(((m+1:Nat):Int)-1)=(m:Int) by omega,show decide ((m:Int)>=0)=true by simp,aO];have w4:ax ((a:Int)+(m:Int))=((a+m:Nat):Int):=by rw[br ah ah];omega
  rw[w4];refine A.ld rfl ah (A.ld rfl ah (A.sto rfl ah λk1 A1 O1=>⟨rfl,rfl,rfl,rfl,A1.sto rfl ah λk2 A2 O2=> ?_⟩));have A2':cd .u32 k2 b n (swp g a (a+m)) sp:=A2;have e1:sh a (swp g a (a+m))=swp (sh a g) 0 m:=by have:=Ca a g 0 m;simpa using this
  have M:=H.max;refine BQ (lo:=0) (e:=m) A2' ?_ ah ah hn ah λh3 g3 A3 H3 S3 O3=>⟨rfl,?_⟩
  ·rw[e1];intro k c h1 h2 h3;rw[dO _ ah ah,dO _ ah ah];exact H k c ah h2 ah
  ·rw[br (x:=(m:Int)-1) ah ah];have S3':dz (a+0) (a+m) (swp g a (a+m)) g3:=S3;have out: ∀q,m<=q->sh a g3 q=sh a (swp g a (a+m)) q:=λq hq=>S3'.out (.inr ah);have top:sh a (swp g a (a+m)) m=sh a g 0:=by rw[e1,oA]
   have rest: ∀q,m<q->sh a (swp g a (a+m)) q=sh a g q:=λq hq=>by rw[e1,dO _ ah ah]
   have i: ∀p,p<m->sh a (swp g a (a+m)) p<=sh a g 0/\ ∀q,m+1<=q->q<e->sh a (swp g a (a+m)) p<=sh a g q:=λp hp=>by
    rw[e1];by_cases h0:p=0
    ·subst h0;rw[jE];exact⟨M m ah,λq hq f=>T2 m q ah hq f⟩
    ·rw[dO _ h0 ah];exact⟨M p ah,λq hq f=>T2 p q ah hq f⟩
   have d: ∀p,p<m->sh a g3 p<=sh a g 0/\ ∀q,m+1<=q->q<e->sh a g3 p<=sh a g q:=λp hp=>by
    have:=S3'.all (Q:=λv=>v<=sh a g 0/\ ∀q,m+1<=q->q<e->v<=sh a g q) (λk h1 h2=>by have:=i (k-a) ah;unfold sh at this ⊢;rw[show a+(k-a)=k by omega]at this;exact this) (a+p) ah ah
    exact this
   refine ih g3 h3 A3 ah H3 (λp q h1 h2 h4=> ?_) (λp q h1 h2 h4=> ?_) λh' g' A' R' S' O'=>hK h' g' A' R' (((dz.one g ah ah ah ah).trans (S3'.mono ah ah)).trans S') (((O1.trans O2 ak).trans O3 ak).trans O' ak)
   ·rw[out p h1,out q ah,rest q ah];by_cases hp:p=m
    ·subst hp;rw[top];exact T2 0 q ah ah h4
    ·rw[rest p ah];exact T1 p q ah h2 h4
   ·rw[out q h2];by_cases hq:q=m
    ·subst hq;rw[top];exact(d p h1).1
    ·rw[rest q ah];exact(d p h1).2 q ah h4
def uK{b n a e c:Nat}{sp:List Value}{K:KK}(he:a+e<=n)(hn:n<=LB/4):
  ∀(m:Nat) (g:Nat->Int) (h:aI),cd .u32 h b n g sp->m<=e\/e=0->m<=n+1->FJ m e (sh a g)->
   (∀h' g',cd .u32 h' b n g' sp->fZ a (a+e) g'->dz a (a+e) g g'->aM [b] h h'->K aE h')->F314.wL4 (m+1) (some (aw b)) n c a e ((m:Int)-1) h K:=by
 intro m;have f:LB=140737488355328:=rfl
 induction m with
 |zero=>
  intro g h A hm d H hK;rw[F314.sL4];rw[show decide ((((0:Nat):Int)-1)>=0)=false by simp,aJ];unfold F314.wk7 F314.wk8
  try dsimp only
  rw[br (x:=(e:Int)-1) ah ah];exact⟨e+1,GK he hn e g h A (MN _) H (λp q h1 h2 h3=>ah) (λp q h1 h2 h3=>ah) hK⟩
 |succ m ih=>
  intro g h A hm d H hK;rw[F314.sL4];rw[show(((m+1:Nat):Int)-1)=(m:Int) by omega,show decide ((m:Int)>=0)=true by simp,aO];refine BQ A H ah he hn ah λh3 g3 A3 H3 S3 O3=>⟨rfl,?_⟩;rw[br (x:=(m:Int)-1) ah ah];exact ih g3 h3 A3 ah ah H3 λh' g' A' R' S' O'=>hK h' g' A' R' ((S3.mono ah (MN _)).trans S') (O3.trans O' ak)
def GS{h:aI}{b n a e c:Nat}{g:Nat->Int}{sp:List Value}{K:KK}(A:cd .u32 h b n g sp)(he:e<=n)(ha:a<=e)(hn:n<=LB/4)
  (hK: ∀h' g',cd .u32 h' b n g' sp->fZ a e g'->dz a e g g'->aM [b] h h'->K aE h'):Cl 314 [.slice (some (aw b)) n c,ap a,ap e] h K:=by
 refine F314.spec _ _ _ _ _ h K ?_;unfold F314.wk4;have f:LB=140737488355328:=rfl;obtain⟨d,rfl⟩: ∃d,e=a+d:=⟨e-a,ah⟩;have w1:ax (((a+d:Nat):Int)-(a:Int))=(d:Int):=by rw[br ah ah];omega
 rw[w1,br (x:=(d:Int)-1) ah ah];refine⟨ah,?_⟩;by_cases hd:d=0
 ·subst hd;have w2:ax (Int.tdiv (((0:Nat):Int)-1) 2)=((1:Nat):Int)-1:=by decide
  rw[w2];exact⟨2,uK ah hn 1 g h A (.inr rfl) ah (λk c h1 h2 h3=>ah) hK⟩
 ·have w2:ax (Int.tdiv ((d:Int)-1) 2)=(((d-1)/2+1:Nat):Int)-1:=by
   rw[N9 ah,br ah ah];omega
  rw[w2];exact⟨_,uK ah hn ((d-1)/2+1) g h A (.inl ah) ah (λk c h1 h2 h3=>ah) hK⟩
def GT(tb:ByteArray):Bool:=(List.range 256).all λy=>match tb[y]? with|some b=>b.toNat<=8&&(y==0||(1<=b.toNat&&2^(b.toNat-1)<=y))|none=>false
def yW(h:GT tb=true)(hy:y<256): ∃b,tb[y]? =some b/\b.toNat<=8/\(1<=y->1<=b.toNat/\2^(b.toNat-1)<=y):=by
 unfold GT at h;rw[NE]at h;have:=h y (NA.2 hy);cases hb:tb[y]? with
 |none=>rw[hb]at this;cases this
 |some b=>
  rw[hb]at this;simp only[Nm,NO,Na,ON]at this;refine⟨b,rfl,this.1,λh1=> ?_⟩;rcases this.2 with h|h
  ·omega
  ·exact h
def Bg{tb:ByteArray}{y:Nat}{K:Int->Prop}(h:GT tb=true)(hy:y<256)(hK: ∀n:Nat,n<=8->(1<=y->1<=n/\2^(n-1)<=y)->K (n:Int)):DI tb (y:Int) K:=by obtain⟨b,hb,h8,h1⟩:=yW h hy;exact⟨b,by rw[MO];exact hb,hK _ h8 h1⟩
def HJ{x:Nat}(h:x<256):IntKind.wrap .u8 (x:Int)=x:=by simp[IntKind.wrap,IntKind.bits,IntKind.signed];omega
def AL{x' s X:Nat}{h:aI}{K:KK}(hx:x'<256)(hs:s<=56)(h1:2^s*x'<=X)(h2:1<=X->1<=x')
  (hK: ∀L:Nat,L<=64->(1<=X->1<=L/\2^(L-1)<=X)->K (ap (L:Int)) h):F323.wk10 x' s h K:=by
 unfold F323.wk10;rw[HJ hx];refine⟨ah,?_⟩;refine Bg (by decide+kernel) hx λn b a=> ?_;have c:LB=140737488355328:=rfl;rw[br (x:=(n:Int)) ah ah,br ah ah,show(s:Int)+(n:Int)=((s+n:Nat):Int) by omega];refine hK _ ah λhX=> ?_;obtain⟨c1,c2⟩:=a (h2 hX);refine⟨ah,?_⟩;rw[show s+n-1=s+(n-1) by omega,Pr];exact NK (OZ _ c2) h1
def By{x k:Nat}:Int.fdiv (x:Int) ((k:Nat):Int)=((x/k:Nat):Int):=by
 rw[PK _ ah]
 rfl
def JA{X:Nat}{h:aI}{K:KK}(hX:X<18446744073709551616)(hK: ∀L:Nat,L<=64->(1<=X->1<=L/\2^(L-1)<=X)->K (ap (L:Int)) h):
  Cl 323 [ar (X:Int)] h K:=by
 refine F323.spec ?_
 have k7: ∀x' s:Nat,x'<65536->s<=48->2^s*x'<=X->(1<=X->1<=x')->F323.wk7 x' s h K:=by
  intro x' s hx hs h1 h2;unfold F323.wk7;refine aS (λhc=> ?_) λhc=> ?_
  ·simp only[Na]at hc;refine⟨ah,?_⟩;rw[show((2:Int)^(min (Int.toNat (8:Int)) (IntKind.bits .u64)))=((256:Nat):Int) by decide,By,br (by unfold LB;omega) (by unfold LB;omega),show(s:Int)+8=((s+8:Nat):Int) by omega];refine AL ah ah (NK ?_ h1) ah hK;rw[Pr,Ol];exact OZ _ ah
  ·simp only[MX]at hc;exact AL ah ah h1 h2 hK
 have k4: ∀x' s:Nat,x'<4294967296->s<=32->2^s*x'<=X->(1<=X->1<=x')->F323.wk4 x' s h K:=by
  intro x' s hx hs h1 h2;unfold F323.wk4;refine aS (λhc=> ?_) λhc=> ?_
  ·simp only[Na]at hc;refine⟨ah,?_⟩;rw[show((2:Int)^(min (Int.toNat (16:Int)) (IntKind.bits .u64)))=((65536:Nat):Int) by decide,By,br (by unfold LB;omega) (by unfold LB;omega),show(s:Int)+16=((s+16:Nat):Int) by omega];refine k7 _ _ ah ah (NK ?_ h1) ah;rw[Pr,Ol];exact OZ _ ah
  ·simp only[MX]at hc;exact k7 _ _ ah ah h1 h2
 refine aS (λhc=> ?_) λhc=> ?_
 ·simp only[Na]at hc;refine⟨ah,?_⟩;rw[show((2:Int)^(min (Int.toNat (32:Int)) (IntKind.bits .u64)))=((4294967296:Nat):Int) by decide,By];exact k4 (X/4294967296) 32 ah ah ah ah
 ·simp only[MX]at hc;exact k4 X 0 ah ah ah ah
def Fl{X:Nat}{h:aI}{K:KK}(hX:X<18446744073709551616)(hK: ∀L:Nat,L<=64->(1<=X->1<=L/\2^(L-1)<=X)->K (ap (L:Int)) h):
  Cl 295 [ar (X:Int)] h K:=by
 refine F295.spec ?_;exact JA hX λL h1 h2=>by rw[bh];exact hK L h1 h2
def JW{d:Nat}{h:aI}{K:KK}(h1:1<=d)(hd:d<=LB/4)(hK: ∀M:Nat,1<=M->M<=2*d->K (ar (M:Int)) h):Cl 344 [ap (d:Int)] h K:=by
 refine F344.spec ?_;have a:LB=140737488355328:=rfl;rw[bY ah ah];refine Fl ah λL hL hl=> ?_;obtain⟨l1,l2⟩:=hl h1;rw[bh];refine⟨ah,?_⟩
 have e:min (Int.toNat (L:Int)) (IntKind.bits .u64)=L:=by rw[MO];show min L 64=L;omega
 rw[e]
 have l3:2^L<=2*d:=by rw[show L=(L-1)+1 by omega,OF];omega
 have lp:1<=2^L:=Nat.one_le_two_pow;rw[show(1:Int)*2^L=((2^L:Nat):Int) by simp];generalize 2^L=q at l3 lp ⊢;rw[bY ah ah];exact hK _ lp l3
def Hn(A:At h b [ar v])(hK: ∀h' v',At h' b [ar v']->aM [b] h h'->K (ar v') h'):Cl 345 [au (aw b)] h K:=by
 refine F345.spec ?_;have rd0: ∀{h v},At h b [ar v]->rd h (aw b)=some (ar v):=λA=>A.rd 0;rw[rd0 A,bh,bh];refine⟨by decide,?_⟩;rw[aL];refine aU A ak rfl λh1 A1 O1 _=> ?_
 replace A1:At h1 b [ar _]:=A1
 rw[rd0 A1,bh,bh];refine⟨by decide,?_⟩;refine aU A1 ak rfl λh2 A2 O2 _=> ?_
 replace A2:At h2 b [ar _]:=A2
 rw[rd0 A2,bh,bh];refine⟨by decide,?_⟩;refine aU A2 ak rfl λh3 A3 O3 _=> ?_
 replace A3:At h3 b [ar _]:=A3
 rw[rd0 A3,bh];exact hK _ _ A3 ((O1.trans O2 ak).trans O3 ak)
def Gq{x:Int}{m:Nat}(hm:m<18446744073709551616):0<=bo .and .u64 x m/\bo .and .u64 x m<=m:=by
 unfold bo
 have h1:(BitVec.ofInt (IntKind.bits .u64) (m:Int)).toNat=m:=by show(BitVec.ofInt 64 (m:Int)).toNat=m;rw[BitVec.toNat_ofInt];omega
 have h2:(BitVec.ofInt (IntKind.bits .u64) x&&&BitVec.ofInt (IntKind.bits .u64) (m:Int)).toNat<=m:=by rw[BitVec.toNat_and,h1];exact Nat.and_le_right
 dsimp only;rw[bY ah ah];omega
def GR{b n a d c M B:Nat}{sp:List Value}{K:KK}(hd:8<=d)(he:a+d<=n)(hn:n<=LB/4)(q:1<=M)(l:M<=2*d)(hB:B≠b):
  ∀(t i:Nat) (v:Int) (g:Nat->Int) (h:aI),cd .u32 h b n g sp->At h B [ar v]->i+t=a+d/4*2+2->a<=i->
   (∀h' g',cd .u32 h' b n g' sp->dz a (a+d) g g'->aM [b,B] h h'->K aE h')->F315.wL5 (t+1) (some (aw b)) n c a d (aw B) M i h K:=by
 intro t;have u:LB=140737488355328:=rfl
 have w1:ax (ax ((a:Int)+ax (ax (Int.tdiv (d:Int) 4)*2))+1)=((a+d/4*2+1:Nat):Int):=by rw[N9 ah,br (x:=(d:Int)/4) ah ah,br (x:=(d:Int)/4*2) ah ah,br (x:=(a:Int)+(d:Int)/4*2) ah ah,br ah ah];omega
 induction t with
 |zero=>
  intro i v g h A AB hi ha hK;rw[F315.sL5];rw[w1];refine⟨by decide,?_⟩;rw[show decide ((i:Int)<=((a+d/4*2+1:Nat):Int))=false by simp;omega];exact hK h g A (.refl g) (aM.refl _ _)
 |succ t ih=>
  intro i v g h A AB hi ha hK;rw[F315.sL5];rw[w1];refine⟨by decide,?_⟩;rw[show decide ((i:Int)<=((a+d/4*2+1:Nat):Int))=true by simp;omega,aO];refine Hn AB λh1 v1 AB1 O1=> ?_;rw[bh];obtain⟨o1,o2⟩:=Gq (x:=v1) (m:=M-1) ah;rw[show IntKind.wrap .u64 ((M:Int)-1)=((M-1:Nat):Int) by rw[bY ah ah];omega]
  have e: ∀o:Nat,o<d->F315.wk10 (λk f j x1 x6 x7 x8 x9 h=>F315.wL5 (t+1) k f j x1 x6 x7 x8 x9 h K) (some (aw b)) n c a d (aw B) M i o h1 K:=by intro o ho;have A1:=A.only O1 (by simpa using Ne.symm hB);unfold F315.wk10;rw[show ax ((a:Int)+(o:Int))=((a+o:Nat):Int) by rw[br ah ah];omega];refine A1.ld rfl ah (A1.ld rfl ah (A1.sto rfl ah λk1 A2 O2=>⟨rfl,rfl,rfl,rfl,A2.sto rfl ah λk2 A3 O3=> ?_⟩));have A3':cd .u32 k2 b n (swp g i (a+o)) sp:=A3;rw[show ax ((i:Int)+1)=((i+1:Nat):Int) by rw[br ah ah];omega];refine ih (i+1) v1 _ k2 A3' ((AB1.only O2 (by simpa using hB)).only O3 (by simpa using hB)) ah ah λh' g' A' S' O'=>hK h' g' A' ((dz.one g ah ah ah ah).trans S') ?_;exact((((O1.mono (T:=[b,B]) ak).trans O2 ak).trans O3 ak).trans O' ak)
  rw[br (x:=bo .and .u64 v1 ((M-1:Nat):Int)) ah ah];obtain⟨o,ho⟩: ∃o:Nat,bo .and .u64 v1 ((M-1:Nat):Int)=o:=⟨_,(Ot o1).symm⟩;rw[ho]at o2 ⊢;refine aS (λhc=> ?_) λhc=> ?_
  ·simp only[Na]at hc;rw[show ax ((o:Int)-(d:Int))=((o-d:Nat):Int) by rw[br ah ah];omega];exact e _ ah
  ·simp only[MX]at hc;exact e o ah
def IF{h:aI}{b n a e c:Nat}{g:Nat->Int}{sp:List Value}{K:KK}(A:cd .u32 h b n g sp)(he:e<=n)(ha:a<=e)(hn:n<=LB/4)
  (hK: ∀h' g',cd .u32 h' b n g' sp->dz a e g g'->aM [b] h h'->K aE h'):Cl 315 [.slice (some (aw b)) n c,ap a,ap e] h K:=by
 refine F315.spec _ _ _ _ _ h K ?_;have j:LB=140737488355328:=rfl;obtain⟨d,rfl⟩: ∃d,e=a+d:=⟨e-a,ah⟩;rw[show ax (((a+d:Nat):Int)-(a:Int))=(d:Int) by rw[br ah ah];omega];refine aS (λhc=> ?_) λhc=> ?_
 ·simp only[Na]at hc;refine aX λh1 A1 O1 z1=> ?_;rw[aL];refine aU A1 ak rfl λh2 A2 O2 z2=> ?_
  replace A2:At h2 h.size [ar _]:=A2
  refine JW ah ah λM i f=> ?_;rw[bh];refine⟨by decide,?_⟩;unfold F315.wk5
  have w1:ax (ax ((a:Int)+ax (ax (Int.tdiv (d:Int) 4)*2))-1)=((a+d/4*2-1:Nat):Int):=by rw[N9 ah,br (x:=(d:Int)/4) ah ah,br (x:=(d:Int)/4*2) ah ah,br (x:=(a:Int)+(d:Int)/4*2) ah ah,br ah ah];omega
  rw[w1];have hb:=A.lt;refine⟨_,GR ah he hn i f ah 3 _ _ g h2 ((A.only O1 ak).only O2 (by simp;omega)) A2 ah ah λh' g' A' S' O'=>hK h' g' A' S' ?_⟩;exact((O1.mono (T:=[b]) ak).trans O2 ak).trans O' ak
 ·exact hK h g A (.refl g) (aM.refl _ _)
def Jr{b n a c j:Nat}{sp:List Value}{K:KK}{g:Nat->Int}{h:aI}(A:cd .u32 h b n g sp)(hj:j<n)(ha:a<n)(hn:n<=LB/4):
  ∀(d i:Nat),i+d=j+1->(∀i',i<=i'->i'<=j+1->(∀k,i<=k->k<i'->g k<g a)->(i'=j+1\/g a<=g i')->F321.wk5 (some (aw b)) n c a i' j h K)->
   F321.wL3 (d+1) (some (aw b)) n c a i j h K:=by
 intro d;have e:LB=140737488355328:=rfl
 induction d with
 |zero=>
  intro i hd hK;rw[F321.sL3];rw[show decide ((i:Int)<=(j:Int))=false by simp;omega];exact hK i (MN _) ah (λk h1 h2=>ah) (.inl ah)
 |succ d ih=>
  intro i hd hK;rw[F321.sL3];rw[show decide ((i:Int)<=(j:Int))=true by simp;omega,aO];refine A.ld rfl ah (A.ld rfl ah (d9 ?_));rw[bU];refine aS (λhl=> ?_) λhl=> ?_
  ·simp only[Na]at hl;rw[show ax ((i:Int)+1)=((i+1:Nat):Int) by rw[br ah ah];omega];refine ih (i+1) ah λi' h1 h2 h3 h4=>hK i' ah h2 (λk h5 h6=> ?_) h4;by_cases hk:k=i
   ·subst hk;omega
   ·exact h3 k ah h6
  ·simp only[MX]at hl;exact hK i (MN _) ah (λk h1 h2=>ah) (.inr ah)
def KB{b n a c j:Nat}{sp:List Value}{K:KK}{bk:Nat}{g:Nat->Int}{h:aI}(A:cd .u32 h b n g sp)(hj:j<n)(ha:a<n)(hn:n<=LB/4):
  ∀(d i:Nat),i+d=j+1->(∀i',i<=i'->i'<=j+1->(∀k,i<=k->k<i'->g k<g a)->(i'=j+1\/g a<=g i')->F321.wk15 bk (some (aw b)) n c a i' j h K)->
   F321.wL1013 (d+1) bk (some (aw b)) n c a i j h K:=by
 intro d;have e:LB=140737488355328:=rfl
 induction d with
 |zero=>
  intro i hd hK;rw[F321.sL1013];rw[show decide ((i:Int)<=(j:Int))=false by simp;omega];exact hK i (MN _) ah (λk h1 h2=>ah) (.inl ah)
 |succ d ih=>
  intro i hd hK;rw[F321.sL1013];rw[show decide ((i:Int)<=(j:Int))=true by simp;omega,aO];refine A.ld rfl ah (A.ld rfl ah (d9 ?_));rw[bU];refine aS (λhl=> ?_) λhl=> ?_
  ·simp only[Na]at hl;rw[show ax ((i:Int)+1)=((i+1:Nat):Int) by rw[br ah ah];omega];refine ih (i+1) ah λi' h1 h2 h3 h4=>hK i' ah h2 (λk h5 h6=> ?_) h4;by_cases hk:k=i
   ·subst hk;omega
   ·exact h3 k ah h6
  ·simp only[MX]at hl;exact hK i (MN _) ah (λk h1 h2=>ah) (.inr ah)
def Jk{b n a c i e:Nat}{sp:List Value}{K:KK}{g:Nat->Int}{h:aI}(A:cd .u32 h b n g sp)(he:e<=n)(ha:a<n)(hn:n<=LB/4)(hi:1<=i):
  ∀(d j:Nat),j<e->j+1=i+d->(∀j',j'<=j->i<=j'+1->(∀k,j'<k->k<=j->g a<=g k)->(j'+1=i\/g j'<g a)->F321.wk7 (some (aw b)) n c a i j' h K)->
   F321.wL5 (d+1) (some (aw b)) n c a i j h K:=by
 intro d;have f:LB=140737488355328:=rfl
 induction d with
 |zero=>
  intro j hj hd hK;rw[F321.sL5];rw[show decide ((i:Int)<=(j:Int))=false by simp;omega];exact hK j (MN _) ah (λk h1 h2=>ah) (.inl ah)
 |succ d ih=>
  intro j hj hd hK;rw[F321.sL5];rw[show decide ((i:Int)<=(j:Int))=true by simp;omega,aO];refine A.ld rfl ah (A.ld rfl ah (d9 ?_));rw[bU];refine aS (λhl=> ?_) λhl=> ?_
  ·simp only[NC,MX]at hl;rw[show ax ((j:Int)-1)=((j-1:Nat):Int) by rw[br ah ah];omega];refine ih (j-1) ah ah λj' h1 h2 h3 h4=>hK j' ah h2 (λk h5 h6=> ?_) h4;by_cases hk:k=j
   ·subst hk;omega
   ·exact h3 k h5 ah
  ·simp only[OT,Na]at hl;exact hK j (MN _) ah (λk h1 h2=>ah) (.inr ah)
def J7{b n a c i e:Nat}{sp:List Value}{K:KK}{bk:Nat}{g:Nat->Int}{h:aI}(A:cd .u32 h b n g sp)(he:e<=n)(ha:a<n)(hn:n<=LB/4)(hi:1<=i):
  ∀(d j:Nat),j<e->j+1=i+d->(∀j',j'<=j->i<=j'+1->(∀k,j'<k->k<=j->g a<=g k)->(j'+1=i\/g j'<g a)->F321.wk17 bk (some (aw b)) n c a i j' h K)->
   F321.wL15 (d+1) bk (some (aw b)) n c a i j h K:=by
 intro d;have f:LB=140737488355328:=rfl
 induction d with
 |zero=>
  intro j hj hd hK;rw[F321.sL15];rw[show decide ((i:Int)<=(j:Int))=false by simp;omega];exact hK j (MN _) ah (λk h1 h2=>ah) (.inl ah)
 |succ d ih=>
  intro j hj hd hK;rw[F321.sL15];rw[show decide ((i:Int)<=(j:Int))=true by simp;omega,aO];refine A.ld rfl ah (A.ld rfl ah (d9 ?_));rw[bU];refine aS (λhl=> ?_) λhl=> ?_
  ·simp only[NC,MX]at hl;rw[show ax ((j:Int)-1)=((j-1:Nat):Int) by rw[br ah ah];omega];refine ih (j-1) ah ah λj' h1 h2 h3 h4=>hK j' ah h2 (λk h5 h6=> ?_) h4;by_cases hk:k=j
   ·subst hk;omega
   ·exact h3 k h5 ah
  ·simp only[OT,Na]at hl;exact hK j (MN _) ah (λk h1 h2=>ah) (.inr ah)
def Le{b n a c j:Nat}{sp:List Value}{K:KK}{bk:Nat}{g:Nat->Int}{h:aI}(A:cd .u32 h b n g sp)(hj:j<n)(ha:a<n)(hn:n<=LB/4):
  ∀(d i:Nat),i+d=j+1->(∀i',i<=i'->i'<=j+1->(∀k,i<=k->k<i'->g k<=g a)->(i'=j+1\/g a<g i')->F320.wk5 bk (some (aw b)) n c a i' j h K)->
   F320.wL1003 (d+1) bk (some (aw b)) n c a i j h K:=by
 intro d;have e:LB=140737488355328:=rfl
 induction d with
 |zero=>
  intro i hd hK;rw[F320.sL1003];rw[show decide ((i:Int)<=(j:Int))=false by simp;omega];exact hK i (MN _) ah (λk h1 h2=>ah) (.inl ah)
 |succ d ih=>
  intro i hd hK;rw[F320.sL1003];rw[show decide ((i:Int)<=(j:Int))=true by simp;omega,aO];refine A.ld rfl ah (A.ld rfl ah (d9 ?_));rw[bU];refine aS (λhl=> ?_) λhl=> ?_
  ·simp only[NC,MX]at hl;rw[show ax ((i:Int)+1)=((i+1:Nat):Int) by rw[br ah ah];omega];refine ih (i+1) ah λi' h1 h2 h3 h4=>hK i' ah h2 (λk h5 h6=> ?_) h4;by_cases hk:k=i
   ·subst hk;omega
   ·exact h3 k ah h6
  ·simp only[OT,Na]at hl;exact hK i (MN _) ah (λk h1 h2=>ah) (.inr ah)
def Ld{b n a c i e:Nat}{sp:List Value}{K:KK}{bk:Nat}{g:Nat->Int}{h:aI}(A:cd .u32 h b n g sp)(he:e<=n)(ha:a<n)(hn:n<=LB/4)(hi:1<=i):
  ∀(d j:Nat),j<e->j+1=i+d->(∀j',j'<=j->i<=j'+1->(∀k,j'<k->k<=j->g a<g k)->(j'+1=i\/g j'<=g a)->F320.wk7 bk (some (aw b)) n c a i j' h K)->
   F320.wL5 (d+1) bk (some (aw b)) n c a i j h K:=by
 intro d;have f:LB=140737488355328:=rfl
 induction d with
 |zero=>
  intro j hj hd hK;rw[F320.sL5];rw[show decide ((i:Int)<=(j:Int))=false by simp;omega];exact hK j (MN _) ah (λk h1 h2=>ah) (.inl ah)
 |succ d ih=>
  intro j hj hd hK;rw[F320.sL5];rw[show decide ((i:Int)<=(j:Int))=true by simp;omega,aO];refine A.ld rfl ah (A.ld rfl ah (d9 ?_));rw[bU];refine aS (λhl=> ?_) λhl=> ?_
  ·simp only[Na]at hl;rw[show ax ((j:Int)-1)=((j-1:Nat):Int) by rw[br ah ah];omega];refine ih (j-1) ah ah λj' h1 h2 h3 h4=>hK j' ah h2 (λk h5 h6=> ?_) h4;by_cases hk:k=j
   ·subst hk;omega
   ·exact h3 k h5 ah
  ·simp only[MX]at hl;exact hK j (MN _) ah (λk h1 h2=>ah) (.inr ah)
def Pt(a e i j:Nat)(g:Nat->Int):Prop:=(∀k,a<k->k<i->g k<g a)/\(∀k,j<k->k<e->g a<=g k)
def yY(a e m:Nat)(g:Nat->Int):Prop:=(∀k,a<=k->k<m->g k<=g m)/\(∀k,m<k->k<e->g m<=g k)
def Pt.ext(H:Pt a e i j g)(hi: ∀k,i<=k->k<i'->g k<g a)(hj: ∀k,j'<k->k<=j->g a<=g k):Pt a e i' j' g:=
 ⟨λk h1 h2=>by
  by_cases h:k<i
  ·exact H.1 k h1 h
  ·exact hi k ah h2,λk h1 h2=>by
  by_cases h:j<k
  ·exact H.2 k h h2
  ·exact hj k h1 ah⟩
def Pt.fin(H:Pt a e i j g)(ha:a<=j)(hi:i=j+1):yY a e j (swp g j a):=by
 subst hi;refine⟨λk h1 h2=> ?_,λk h1 h2=> ?_⟩
 ·rw[jE];by_cases hk:k=a
  ·subst hk;rw[oA];exact OY (H.1 j h2 ah)
  ·rw[dO g ah hk];exact OY (H.1 k ah ah)
 ·rw[jE,dO g ah ah];exact H.2 k h1 h2
def Pt.swap(H:Pt a e i j g)(ha:a<i)(d:i<j)(hi:g a<=g i)(hj:g j<g a):Pt a e (i+1) (j-1) (swp g i j):=by
 refine⟨λk h1 h2=> ?_,λk h1 h2=> ?_⟩
 ·rw[dO g (k:=a) ah ah];by_cases hk:k=i
  ·subst hk;rw[jE];exact hj
  ·rw[dO g hk ah];exact H.1 k h1 ah
 ·rw[dO g (k:=a) ah ah];by_cases hk:k=j
  ·subst hk;rw[oA];exact hi
  ·rw[dO g ah hk];exact H.2 k ah h2
def Jq{b n a c:Nat}{sp:List Value}{K:KK}{h:aI}{j:Nat}{g:Nat->Int}(A:cd .u32 h b n g sp)(hj:j<n)(ha:a<=j)(hK: ∀h',cd .u32 h' b n (swp g j a) sp->aM [b] h h'->K (.tuple #[ap (j:Int),aB]) h'):
  F321.wk21 (some (aw b)) n c a j h K:=by
 unfold F321.wk21;refine A.ld rfl ah (A.ld rfl ah (A.sto rfl ah λk1 A1 O1=>⟨rfl,rfl,A1.sto rfl ah λk2 A2 O2=> ?_⟩));exact hK k2 A2 (O1.trans O2 ak)
def Ik{b n a e c:Nat}{sp:List Value}{K:KK}(he:e<=n)(hn:n<=LB/4):
  ∀(d i j:Nat) (g:Nat->Int) (h:aI),cd .u32 h b n g sp->a<i->i<=j+1->j<e->j+1<=i+d->Pt a e i j g->
   (∀h' m g',cd .u32 h' b n g' sp->dz a e g g'->yY a e m g'->a<=m->m<e->aM [b] h h'->K (.tuple #[ap (m:Int),aB]) h')->F321.wL13 (d+1) (some (aw b)) n c a i j h K:=by
 intro d;have hLB:LB=140737488355328:=rfl
 induction d using Nat.strongRecOn with
 |_ d ih=>
  intro i j g h A ha hij hj hd P hK;rw[F321.sL13];refine⟨_,KB A ah ah hn (j+1-i) i ah λi' h1 h2 h3 h4=> ?_⟩;unfold F321.wk15;refine⟨_,J7 A he ah hn ah (j+1-i') j hj ah λj' h5 h6 h7 h8=> ?_⟩;have P':=P.ext h3 h7;unfold F321.wk17;refine aS (λhc=> ?_) λhc=> ?_
  ·simp only[Na]at hc;exact Jq A ah ah λh' A' O'=>hK h' j' _ A' (dz.one g ah ah ah ah) (P'.fin ah ah) ah ah O'
  ·simp only[MX]at hc
   have q1:g a<=g i':=by
                 rcases h4 with h|h
                 ·omega
                 ·exact h
   have q2:g j'<g a:=by
                 rcases h8 with h|h
                 ·omega
                 ·exact h
   have hne:i'≠j':=λe=>by subst e;omega
   refine A.ld rfl ah (A.ld rfl ah (A.sto rfl ah λk1 A1 O1=>⟨rfl,rfl,A1.sto rfl ah λk2 A2 O2=> ?_⟩));have A2':cd .u32 k2 b n (swp g i' j') sp:=A2;rw[show ax ((i':Int)+1)=((i'+1:Nat):Int) by rw[br ah ah];omega,show ax ((j':Int)-1)=((j'-1:Nat):Int) by rw[br ah ah];omega];cases d with
   |zero=>omega
   |succ d=>
    exact ih d ah (i'+1) (j'-1) _ k2 A2' ah ah ah ah (P'.swap ah ah q1 q2) λh' m g' A' S' R' m1 m2 O'=>hK h' m g' A' ((dz.one g ah ah ah ah).trans S') R' m1 m2 ((O1.trans O2 ak).trans O' ak)
def Ad{b n a e c:Nat}{sp:List Value}{K:KK}{h:aI}{g:Nat->Int}{pv:Nat}(A:cd .u32 h b n g sp)(he:e<=n)(ha:a+1<e)(hp:a<=pv)(hp':pv<e)(hn:n<=LB/4)
  (hK: ∀h' m g' f,cd .u32 h' b n g' sp->dz a e g g'->yY a e m g'->a<=m->m<e->aM [b] h h'->K (.tuple #[ap (m:Int),aD f]) h'):
  Cl 321 [.slice (some (aw b)) n c,ap a,ap e,ap pv] h K:=by
 refine F321.spec _ _ _ _ _ _ h K ?_;have hLB:LB=140737488355328:=rfl;refine A.ld rfl ah (A.ld rfl ah (A.sto rfl ah λk1 A1 O1=>⟨rfl,rfl,A1.sto rfl ah λk2 A2 O2=> ?_⟩));have A2':cd .u32 k2 b n (swp g a pv) sp:=A2;clear A2;have S0:dz a e g (swp g a pv):=dz.one g ah ah ah ah;have O12:=O1.trans O2 ak;rw[show ax ((a:Int)+1)=((a+1:Nat):Int) by rw[br ah ah];omega,show ax ((e:Int)-1)=((e-1:Nat):Int) by rw[br ah ah];omega];generalize swp g a pv=g2 at A2' S0;unfold F321.wk3;refine⟨_,Jr A2' ah ah hn (e-1+1-(a+1)) (a+1) ah λi' h1 h2 h3 h4=> ?_⟩;unfold F321.wk5;refine⟨_,Jk A2' he ah hn ah (e-1+1-i') (e-1) ah ah λj' h5 h6 h7 h8=> ?_⟩;have P':Pt a e i' j' g2:=Pt.ext (i:=a+1) (j:=e-1) ⟨λk _ _=>ah,λk _ _=>ah⟩ h3 h7;unfold F321.wk7;refine aS (λhc=> ?_) λhc=> ?_
 ·simp only[Na]at hc;refine A2'.ld rfl ah (A2'.ld rfl ah (A2'.sto rfl ah λk3 A3 O3=>⟨rfl,rfl,A3.sto rfl ah λk4 A4 O4=> ?_⟩));exact hK k4 j' (swp g2 j' a) true A4 (S0.trans (dz.one g2 ah ah ah ah)) (P'.fin ah ah) ah ah ((O12.trans O3 ak).trans O4 ak)
 ·simp only[MX]at hc
  have q1:g2 a<=g2 i':=by
                 rcases h4 with h|h
                 ·omega
                 ·exact h
  have q2:g2 j'<g2 a:=by
                 rcases h8 with h|h
                 ·omega
                 ·exact h
  have hne:i'≠j':=λe=>by subst e;omega
  refine A2'.ld rfl ah (A2'.ld rfl ah (A2'.sto rfl ah λk3 A3 O3=>⟨rfl,rfl,A3.sto rfl ah λk4 A4 O4=> ?_⟩));have A4':cd .u32 k4 b n (swp g2 i' j') sp:=A4;rw[show ax ((i':Int)+1)=((i'+1:Nat):Int) by rw[br ah ah];omega,show ax ((j':Int)-1)=((j'-1:Nat):Int) by rw[br ah ah];omega];unfold F321.wk13;exact⟨_,Ik he hn e (i'+1) (j'-1) _ k4 A4' ah ah ah ah (P'.swap ah ah q1 q2) λh' m g' A' S' R' m1 m2 O'=>hK h' m g' false A' ((S0.trans (dz.one g2 ah ah ah ah)).trans S') R' m1 m2 (((O12.trans O3 ak).trans O4 ak).trans O' ak)⟩
def Pe(a e i j:Nat)(g:Nat->Int):Prop:=(∀k,a<k->k<i->g k<=g a)/\(∀k,j<k->k<e->g a<g k)
def Pe.ext(H:Pe a e i j g)(hi: ∀k,i<=k->k<i'->g k<=g a)(hj: ∀k,j'<k->k<=j->g a<g k):Pe a e i' j' g:=
 ⟨λk h1 h2=>by
  by_cases h:k<i
  ·exact H.1 k h1 h
  ·exact hi k ah h2,λk h1 h2=>by
  by_cases h:j<k
  ·exact H.2 k h h2
  ·exact hj k h1 ah⟩
def Pe.swap(H:Pe a e i j g)(ha:a<i)(d:i<j)(hi:g a<g i)(hj:g j<=g a):Pe a e (i+1) (j-1) (swp g i j):=by
 refine⟨λk h1 h2=> ?_,λk h1 h2=> ?_⟩
 ·rw[dO g (k:=a) ah ah];by_cases hk:k=i
  ·subst hk;rw[jE];exact hj
  ·rw[dO g hk ah];exact H.1 k h1 ah
 ·rw[dO g (k:=a) ah ah];by_cases hk:k=j
  ·subst hk;rw[oA];exact hi
  ·rw[dO g ah hk];exact H.2 k ah h2
def J6{b n a e c:Nat}{sp:List Value}{K:KK}(he:e<=n)(hn:n<=LB/4)(v:Int):
  ∀(d i j:Nat) (g:Nat->Int) (h:aI),cd .u32 h b n g sp->a<i->i<=j+1->j<e->j+1<=i+d->Pe a e i j g->g a=v->
   (∀h' m g',cd .u32 h' b n g' sp->dz a e g g'->(∀k,a<=k->k<m->g' k<=v)->(∀k,m<=k->k<e->v<g' k)->a<m->m<=e->aM [b] h h'->K (ap (m:Int)) h')->F320.wL3 (d+1) (some (aw b)) n c a i j h K:=by
 intro d;have hLB:LB=140737488355328:=rfl
 induction d using Nat.strongRecOn with
 |_ d ih=>
  intro i j g h A ha hij hj hd P hv hK;rw[F320.sL3];refine⟨_,Le A ah ah hn (j+1-i) i ah λi' h1 h2 h3 h4=> ?_⟩;unfold F320.wk5;refine⟨_,Ld A he ah hn ah (j+1-i') j hj ah λj' h5 h6 h7 h8=> ?_⟩;have P':=P.ext h3 h7;unfold F320.wk7;refine aS (λhc=> ?_) λhc=> ?_
  ·simp only[Na]at hc;refine hK h i' g A (.refl g) (λk k1 k2=> ?_) (λk k1 k2=> ?_) ah ah (aM.refl _ _)
   ·by_cases hk:k=a
    ·subst hk;omega
    ·have:=P'.1 k ah k2;omega
   ·have:=P'.2 k ah k2;omega
  ·simp only[MX]at hc
   have q1:g a<g i':=by
                 rcases h4 with h|h
                 ·omega
                 ·exact h
   have q2:g j'<=g a:=by
                 rcases h8 with h|h
                 ·omega
                 ·exact h
   have hne:i'≠j':=λe=>by subst e;omega
   refine A.ld rfl ah (A.ld rfl ah (A.sto rfl ah λk1 A1 O1=>⟨rfl,rfl,A1.sto rfl ah λk2 A2 O2=> ?_⟩));have A2':cd .u32 k2 b n (swp g i' j') sp:=A2;rw[show ax ((i':Int)+1)=((i'+1:Nat):Int) by rw[br ah ah];omega,show ax ((j':Int)-1)=((j'-1:Nat):Int) by rw[br ah ah];omega];cases d with
   |zero=>omega
   |succ d=>
    exact ih d ah (i'+1) (j'-1) _ k2 A2' ah ah ah ah (P'.swap ah ah q1 q2) (by rw[dO g ah ah];exact hv)
     λh' m g' A' S' R1 R2 m1 m2 O'=>hK h' m g' A' ((dz.one g ah ah ah ah).trans S') R1 R2 m1 m2 ((O1.trans O2 ak).trans O' ak)
def GB{b n a e c:Nat}{sp:List Value}{K:KK}{h:aI}{g:Nat->Int}{pv:Nat}(A:cd .u32 h b n g sp)(he:e<=n)(ha:a+1<e)(hp:a<=pv)(f:pv<e)(hn:n<=LB/4)
  (hK: ∀h' m g',cd .u32 h' b n g' sp->dz a e g g'->(∀k,a<=k->k<m->g' k<=g pv)->(∀k,m<=k->k<e->g pv<g' k)->a<m->m<=e->aM [b] h h'->K (ap (m:Int)) h'):
  Cl 320 [.slice (some (aw b)) n c,ap a,ap e,ap pv] h K:=by
 refine F320.spec _ _ _ _ _ _ h K ?_;have d:LB=140737488355328:=rfl;refine A.ld rfl ah (A.ld rfl ah (A.sto rfl ah λk1 A1 O1=>⟨rfl,rfl,A1.sto rfl ah λk2 A2 O2=> ?_⟩));have A2':cd .u32 k2 b n (swp g a pv) sp:=A2;clear A2;have S0:dz a e g (swp g a pv):=dz.one g ah ah ah ah;have O12:=O1.trans O2 ak;rw[show ax ((a:Int)+1)=((a+1:Nat):Int) by rw[br ah ah];omega,show ax ((e:Int)-1)=((e-1:Nat):Int) by rw[br ah ah];omega];have hv:=jE g a pv;generalize swp g a pv=g2 at A2' S0 hv;unfold F320.wk3
 exact⟨_,J6 he hn (g pv) e (a+1) (e-1) g2 k2 A2' ah ah ah ah ⟨λk _ _=>ah,λk _ _=>ah⟩ hv
  λh' m g' A' S' R1 R2 m1 m2 O'=>hK h' m g' A' (S0.trans S') R1 R2 m1 m2 (O12.trans O' ak)⟩
def uX{b n c:Nat}{sp:List Value}{K:KK}{h:aI}{B:Nat}{s:Int}{g:Nat->Int}{i j:Nat}(A:cd .u32 h b n g sp)(AB:At h B [ap s])(hB:B≠b)(hi:i<n)(hj:j<n)
  (hK: ∀h' s' p q,(p=i/\q=j)\/(p=j/\q=i)->cd .u32 h' b n g sp->At h' B [ap s']->aM [B] h h'->K (.tuple #[ap ((p:Nat):Int),ap ((q:Nat):Int)]) h'):
  Cl 366 [.slice (some (aw b)) n c,ap i,ap j,au (aw B)] h K:=by
 refine F366.spec ?_;refine A.ld rfl ah (A.ld rfl ah (d9 ?_));rw[bU];refine aS (λhl=> ?_) λhl=> ?_
 ·rw[show rd h (aw B)=some (ap s)from AB.rd 0,bh,aL];refine aU AB ak rfl λh1 A1 O1 _=> ?_;exact hK h1 _ j i (.inr ⟨rfl,rfl⟩) (A.only O1 (by simpa using Ne.symm hB)) A1 O1
 ·exact hK h s i j (.inl ⟨rfl,rfl⟩) A AB (aM.refl _ _)
def FA(A:cd .u32 h b n g sp)(AB:At h B [ap s])(hB:B≠b)(hi:i<n)(hj:j<n)(hk:k<n)
  (hK: ∀h' s' m,m=i\/m=j\/m=k->cd .u32 h' b n g sp->At h' B [ap s']->aM [B] h h'->K (ap ((m:Nat):Int)) h'):
  Cl 347 [.slice (some (aw b)) n c,ap i,ap j,ap k,au (aw B)] h K:=by
 refine F347.spec ?_;refine uX A AB hB hi hj λh1 s1 p q l A1 AB1 O1=>⟨_,_,rfl,?_⟩;refine uX A1 AB1 hB ah hk λh2 s2 p2 q2 f A2 AB2 O2=>⟨_,_,rfl,?_⟩;refine uX A2 AB2 hB ah ah λh3 s3 p3 q3 d A3 AB3 O3=>⟨_,_,rfl,?_⟩;exact hK h3 s3 q3 ah A3 AB3 ((O1.trans O2 ak).trans O3 ak)
def AI{b n c:Nat}{sp:List Value}{K:KK}{h:aI}{B:Nat}{s:Int}{g:Nat->Int}{i:Nat}(A:cd .u32 h b n g sp)(AB:At h B [ap s])(hB:B≠b)(hi:1<=i)(f:i+1<n)(hn:n<=LB/4)
  (hK: ∀h' s' m,i<=m+1->m<=i+1->cd .u32 h' b n g sp->At h' B [ap s']->aM [B] h h'->K (ap ((m:Nat):Int)) h'):
  Cl 346 [.slice (some (aw b)) n c,ap i,au (aw B)] h K:=by
 refine F346.spec ?_;have d:LB=140737488355328:=rfl;rw[show ax ((i:Int)+1)=((i+1:Nat):Int) by rw[br ah ah];omega,show ax ((i:Int)-1)=((i-1:Nat):Int) by rw[br ah ah];omega];exact FA A AB hB ah ah ah λh' s' m hm A' AB' O'=>by rw[bh];exact hK h' s' m ah ah A' AB' O'
def Ko{b n a e c:Nat}{sp:List Value}{K:KK}{h:aI}{g:Nat->Int}(A:cd .u32 h b n g sp)(he:e<=n)(ha:a+12<e)(hn:n<=LB/4)
  (hK: ∀h' pv (t:Int),cd .u32 h' b n g sp->a<=pv->pv<e->aM [] h h'->K (.tuple #[ap ((pv:Nat):Int),ap t]) h'):
  Cl 316 [.slice (some (aw b)) n c,ap a,ap e] h K:=by
 refine F316.spec ?_;have u:LB=140737488355328:=rfl;obtain⟨d,rfl⟩: ∃d,e=a+d:=⟨e-a,ah⟩;refine aX λh1 A1 O1 z1=>⟨by decide,by decide,by decide,?_⟩;rw[show ax (((a+d:Nat):Int)-(a:Int))=(d:Int) by rw[br ah ah];omega];have w0:ax (Int.tdiv (d:Int) 4)=((d/4:Nat):Int):=by rw[N9 ah,br ah ah];omega
 have wm: ∀q:Nat,q<=3->ax ((a:Int)+ax (((d/4:Nat):Int)*(q:Int)))=((a+d/4*q:Nat):Int):=λq hq=>by
  have:d/4*q<=d:=by have:=OZ (d/4) hq;omega
  have e1:((d/4:Nat):Int)*(q:Int)=((d/4*q:Nat):Int):=ak;rw[e1];generalize d/4*q=z at this;rw[br (x:=(z:Int)) ah ah,br ah ah];omega
 have w1:=wm 1 ah;have w2:=wm 2 ah;have w3:=wm 3 ah;rw[w0,show(1:Int)=((1:Nat):Int)from rfl,show(2:Int)=((2:Nat):Int)from rfl,show(3:Int)=((3:Nat):Int)from rfl,w1,w2,w3];rw[show decide ((d:Int)>=8)=true by simp;omega,aO];have A0:cd .u32 h1 b n g sp:=A.only O1 ak;have hb:=A.lt
 have fin: ∀(h2:aI) (s:Int) (m:Nat),a<=m->m<a+d->cd .u32 h2 b n g sp->At h2 h.size [ap s]->aM [] h h2->F316.wk12 (aw h.size) m h2 K:=by intro h2 s m m1 m2 A2 AB2 O2;unfold F316.wk12;rw[show rd h2 (aw h.size)=some (ap s)from AB2.rd 0,bh];refine aS (λ_=>hK h2 m _ A2 m1 m2 O2) λ_=>aS (λ_=>hK h2 m _ A2 m1 m2 O2) λ_=>hK h2 m _ A2 m1 m2 O2
 have f: ∀(h2:aI) (s:Int) (i j k:Nat),a<=i->i<a+d->a<=j->j<a+d->a<=k->k<a+d->cd .u32 h2 b n g sp->At h2 h.size [ap s]->aM [] h h2->F316.wk11 (some (aw b)) n c (aw h.size) i j k h2 K:=by intro h2 s i j k i1 i2 j1 j2 l o A2 AB2 O2;unfold F316.wk11;refine FA A2 AB2 ah ah ah ah λh3 s3 m hm A3 AB3 O3=> ?_;rw[bh];exact fin h3 s3 m ah ah A3 AB3 (O2.trans O3 ak)
 refine aS (λhc=> ?_) λhc=> ?_
 ·simp only[Na]at hc;refine AI A0 A1 ah ah ah hn λh2 s2 m2 p1 p2 A2 AB2 O2=> ?_;rw[bh];refine AI A2 AB2 ah ah ah hn λh3 s3 m3 p3 p4 A3 AB3 O3=> ?_;rw[bh];refine AI A3 AB3 ah ah ah hn λh4 s4 m4 p5 p6 A4 AB4 O4=> ?_;rw[bh];exact f h4 s4 m2 m3 m4 ah ah ah ah ah ah A4 AB4 (((O1.trans O2 ak).trans O3 ak).trans O4 ak)
 ·exact f h1 0 _ _ _ ah ah ah ah ah ah A0 A1 O1
def Lb(a e:Nat)(g:Nat->Int):Prop:=a=0\/ ∀k,a<=k->k<e->g (a-1)<=g k
def Lb.swp(H:Lb a e g)(S:dz a e g g'):Lb a e g':=by
 rcases H with h|h
 ·exact .inl h
 ·by_cases h0:a=0
  ·exact .inl h0
  ·refine .inr ?_;rw[S.out (k:=a-1) (.inl ah)];exact S.all h
def fZ.snoc(H:fZ a i g)(h:g (i-1)<=g i)(ha:a<i):fZ a (i+1) g:=λp q h1 h2 h3=>by
 by_cases hq:q=i
 ·subst hq;by_cases hp:p=q-1
  ·subst hp;exact h
  ·exact Ph (H p (q-1) h1 ah ah) h
 ·exact H p q h1 h2 ah
def fZ.out(H:fZ a i g)(S:dz i e g g'):fZ a i g':=λp q h1 h2 h3=>by rw[S.out (k:=p) (.inl ah),S.out (k:=q) (.inl h3)];exact H p q h1 h2 h3
def C5{b n a e c:Nat}{sp:List Value}{K:KK}{bk:Nat}{s:Int}(he:e<=n)(hn:n<=LB/4){i:Nat}: ∀(d j:Nat) (g:Nat->Int) (h:aI),cd .u32 h b n g sp->i<j->j+d=e->
  (∀h' g',cd .u32 h' b n g' sp->dz i e g g'->aM [b] h h'->F318.wL3 bk (some (aw b)) n c a e i (ax (s+1)) h' K)->F318.wL20 (d+1) bk (some (aw b)) n c a e i s j h K:=by
 intro d;have f:LB=140737488355328:=rfl
 induction d with
 |zero=>
  intro j g h A hj hd hK;rw[F318.sL20];rw[show decide ((j:Int)<(e:Int))=false by simp;omega];exact hK h g A (.refl g) (aM.refl _ _)
 |succ d ih=>
  intro j g h A hj hd hK;rw[F318.sL20];rw[show decide ((j:Int)<(e:Int))=true by simp;omega,aO,show ax ((j:Int)-1)=((j-1:Nat):Int) by rw[br ah ah];omega];refine A.ld rfl ah (A.ld rfl ah (d9 ?_));rw[bU];refine aS (λhl=> ?_) λhl=> ?_
  ·exact hK h g A (.refl g) (aM.refl _ _)
  ·refine A.ld rfl ah (A.ld rfl ah (A.sto rfl ah λk1 A1 O1=>⟨rfl,rfl,rfl,A1.sto rfl ah λk2 A2 O2=> ?_⟩));have A2':cd .u32 k2 b n (swp g j (j-1)) sp:=A2;rw[show ax ((j:Int)+1)=((j+1:Nat):Int) by rw[br ah ah];omega];exact ih (j+1) _ k2 A2' ah ah λh' g' A' S' O'=>hK h' g' A' ((dz.one g ah ah ah ah).trans S') ((O1.trans O2 ak).trans O' ak)
def vP{b n a e c:Nat}{sp:List Value}{K:KK}{bk:Nat}{s:Int}(he:e<=n)(hn:n<=LB/4){i:Nat}{g:Nat->Int}{h:aI}(A:cd .u32 h b n g sp)(hi:i<e)
  (hK: ∀h' g',cd .u32 h' b n g' sp->dz i e g g'->aM [b] h h'->F318.wL3 bk (some (aw b)) n c a e i (ax (s+1)) h' K):F318.wk18 bk (some (aw b)) n c a e i s h K:=by
 have d:LB=140737488355328:=rfl;unfold F318.wk18;rw[show ax ((e:Int)-(i:Int))=((e-i:Nat):Int) by rw[br ah ah];omega,show ax ((i:Int)+1)=((i+1:Nat):Int) by rw[br ah ah];omega];refine aS (λhc=> ?_) λhc=> ?_
 ·unfold F318.wk20;exact⟨_,C5 he hn (e-(i+1)) (i+1) g h A ah ah hK⟩
 ·exact hK h g A (.refl g) (aM.refl _ _)
def GO{b n a e c:Nat}{sp:List Value}{K:KK}{bk:Nat}{s:Int}(he:e<=n)(hn:n<=LB/4){i:Nat}(hi:i<e)(f:a<i): ∀(j:Nat) (g:Nat->Int) (h:aI),cd .u32 h b n g sp->Lb a e g->xN a (i-1) j g->a<=j->j<=i-1->
  (∀h' g',cd .u32 h' b n g' sp->dz a e g g'->fZ a i g'->aM [b] h h'->F318.wL3 bk (some (aw b)) n c a e i (ax (s+1)) h' K)->F318.wL14 (j+1) bk (some (aw b)) n c a e i s j h K:=by
 intro j;have k:LB=140737488355328:=rfl
 induction j with
 |zero=>
  intro g h A L I ha hj hK;rw[F318.sL14];rw[show decide (((0:Nat):Int)>=1)=false by simp];have R:=I.stop (.inl ah);rw[show i-1+1=i by omega]at R;exact vP he hn A hi λh' g' A' S' O'=>hK h' g' A' (S'.mono ah (MN _)) (R.out S') O'
 |succ j ih=>
  intro g h A L I ha hj hK;rw[F318.sL14];rw[show decide (((j+1:Nat):Int)>=1)=true by simp;omega,aO,show ax (((j+1:Nat):Int)-1)=(j:Int) by rw[br ah ah];omega];refine A.ld rfl ah (A.ld rfl ah (d9 ?_));rw[bU];refine aS (λhl=> ?_) λhl=> ?_
  ·simp only[NC,MX]at hl;have R:=I.stop (.inr (by rw[show j+1-1=j by omega];omega));rw[show i-1+1=i by omega]at R;exact vP he hn A hi λh' g' A' S' O'=>hK h' g' A' (S'.mono ah (MN _)) (R.out S') O'
  ·simp only[OT,Na]at hl
   have d:a<=j:=by
    rcases Nat.lt_or_ge j a with h|h
    ·have:a=j+1:=ah;rcases L with L|L
     ·omega
     ·have:=L (j+1) ah ah;rw[show a-1=j by omega]at this;omega
    ·exact h
   refine A.ld rfl ah (A.ld rfl ah (A.sto rfl ah λk1 A1 O1=>⟨rfl,rfl,rfl,A1.sto rfl ah λk2 A2 O2=> ?_⟩));have A2':cd .u32 k2 b n (swp g (j+1) j) sp:=A2;have S2:dz a e g (swp g (j+1) j):=dz.one g ah ah ah ah;have I2:=I.step ah hj (by rw[show j+1-1=j by omega];exact hl);rw[show j+1-1=j by omega]at I2;exact ih _ k2 A2' (L.swp S2) I2 ah ah λh' g' A' S' R' O'=>hK h' g' A' (S2.trans S') R' ((O1.trans O2 ak).trans O' ak)
def LK{b n a e c:Nat}{sp:List Value}{K:KK}{bk:Nat}{s:Int}{g:Nat->Int}{h:aI}(A:cd .u32 h b n g sp)(he:e<=n)(hn:n<=LB/4): ∀(d i:Nat),i+d=e->a<i->fZ a i g->
  (∀i',a<i'->i'<=e->fZ a i' g->(i'=e\/g i'<g (i'-1))->F318.wk7 bk (some (aw b)) n c a e i' s h K)->F318.wL5 (d+1) bk (some (aw b)) n c a e i s h K:=by
 intro d;have f:LB=140737488355328:=rfl
 induction d with
 |zero=>
  intro i hd ha R hK;rw[F318.sL5];rw[show decide ((i:Int)<(e:Int))=false by simp;omega];exact hK i ha ah R (.inl ah)
 |succ d ih=>
  intro i hd ha R hK;rw[F318.sL5];rw[show decide ((i:Int)<(e:Int))=true by simp;omega,aO,show ax ((i:Int)-1)=((i-1:Nat):Int) by rw[br ah ah];omega];refine A.ld rfl ah (A.ld rfl ah (d9 ?_));rw[bU];refine aS (λhl=> ?_) λhl=> ?_
  ·simp only[NC,MX]at hl;rw[show ax ((i:Int)+1)=((i+1:Nat):Int) by rw[br ah ah];omega];exact ih (i+1) ah ah (R.snoc ah ha) hK
  ·simp only[OT,Na]at hl;exact hK i ha ah R (.inr hl)
def JG{b n a e c:Nat}{sp:List Value}{K:KK}(he:e<=n)(hn:n<=LB/4): ∀(t s i:Nat) (g:Nat->Int) (h:aI),cd .u32 h b n g sp->Lb a e g->s+t=5->a<i->i<=e->fZ a i g->
  (∀h' g' r,cd .u32 h' b n g' sp->dz a e g g'->(r=true->fZ a e g')->aM [b] h h'->K (aD r) h')->F318.wL3 (t+1) (some (aw b)) n c a e i s h K:=by
 intro t;have hLB:LB=140737488355328:=rfl
 induction t with
 |zero=>
  intro s i g h A L hs ha hi R hK;rw[F318.sL3];rw[show decide ((s:Int)<5)=false by simp;omega];exact hK h g false A (.refl g) ak (aM.refl _ _)
 |succ t ih=>
  intro s i g h A L hs ha hi R hK;rw[F318.sL3];rw[show decide ((s:Int)<5)=true by simp;omega,aO];unfold F318.wk5;refine⟨_,LK A he hn (e-i) i ah ha R λi' ha' hi' R' hx=> ?_⟩;unfold F318.wk7;refine aS (λhc=> ?_) λhc=> ?_
  ·simp only[ON]at hc;have:i'=e:=ah;subst this;exact hK h g true A (.refl g) (λ_=>R') (aM.refl _ _)
  ·have hne:i'≠e:=λe'=>by subst e';simp at hc
   have hlt:g i'<g (i'-1):=by
                     rcases hx with h|h
                     ·omega
                     ·exact h
   refine aS (λhc=> ?_) λhc=> ?_
   ·exact hK h g false A (.refl g) ak (aM.refl _ _)
   ·rw[show ax ((i':Int)-1)=((i'-1:Nat):Int) by rw[br ah ah];omega];refine A.ld rfl ah (A.ld rfl ah (A.sto rfl ah λk1 A1 O1=>⟨rfl,rfl,rfl,A1.sto rfl ah λk2 A2 O2=> ?_⟩));have A2':cd .u32 k2 b n (swp g i' (i'-1)) sp:=A2;have S2:dz a e g (swp g i' (i'-1)):=dz.one g ah ah ah ah;have O12:=O1.trans O2 ak
    have fk: ∀h' g',cd .u32 h' b n g' sp->dz a e (swp g i' (i'-1)) g'->fZ a i' g'->aM [b] k2 h'->F318.wL3 (t+1) (some (aw b)) n c a e i' (ax ((s:Int)+1)) h' K:=by intro h' g' A' S' R'' O';rw[show ax ((s:Int)+1)=((s+1:Nat):Int) by rw[br ah ah];omega];exact ih (s+1) i' g' h' A' (L.swp (S2.trans S')) ah ha' hi' R'' λh'' g'' r A'' S'' R3 O''=>hK h'' g'' r A'' ((S2.trans S').trans S'') R3 ((O12.trans O' ak).trans O'' ak)
    rw[show ax ((i':Int)-(a:Int))=((i'-a:Nat):Int) by rw[br ah ah];omega];refine aS (λhc=> ?_) λhc=> ?_
    ·unfold F318.wk14;refine⟨_,GO he hn ah ha' (i'-1) _ k2 A2' (L.swp S2) (xN.start λp q h1 h2 h3=> ?_) ah ah fk⟩;rw[dO g ah ah,dO g ah ah];exact R' p q h1 h2 ah
    ·simp only[MX]at hc;exact vP he hn A2' ah λh' g' A' S' O'=>fk h' g' A' (S'.mono ah (MN _)) (fZ.single g' ah) O'
def Gp{b n a e c:Nat}{sp:List Value}{K:KK}{h:aI}{g:Nat->Int}(A:cd .u32 h b n g sp)(L:Lb a e g)(he:e<=n)(ha:a<e)(hn:n<=LB/4)
  (hK: ∀h' g' r,cd .u32 h' b n g' sp->dz a e g g'->(r=true->fZ a e g')->aM [b] h h'->K (aD r) h'):Cl 318 [.slice (some (aw b)) n c,ap a,ap e] h K:=by
 refine F318.spec _ _ _ _ _ h K ?_;have d:LB=140737488355328:=rfl;unfold F318.wk3;rw[show ax ((a:Int)+1)=((a+1:Nat):Int) by rw[br ah ah];omega];exact⟨_,JG he hn 5 0 (a+1) g h A L ah ah ah (fZ.single g ah) hK⟩
def yY.left(H:yY a e m g)(S:dz a m g g'):yY a e m g':=by
 refine⟨?_,λk h1 h2=> ?_⟩
 ·rw[S.out (k:=m) (.inr (MN _))];exact S.all (Q:=λv=>v<=g m) H.1
 ·rw[S.out (k:=m) (.inr (MN _)),S.out (k:=k) (.inr ah)];exact H.2 k h1 h2
def yY.right(H:yY a e m g)(S:dz (m+1) e g g'):yY a e m g':=by
 refine⟨λk h1 h2=> ?_,λk h1 h2=> ?_⟩
 ·rw[S.out (k:=m) (.inl ah),S.out (k:=k) (.inl ah)];exact H.1 k h1 h2
 ·rw[S.out (k:=m) (.inl ah)];exact S.all (Q:=λv=>g m<=v) (λk h1 h2=>H.2 k ah h2) k ah h2
def yY.join(H:yY a e m g)(L:fZ a m g)(R:fZ (m+1) e g):fZ a e g:=λp q h1 h2 h3=>by
 by_cases hq:q<m
 ·exact L p q h1 h2 hq
 ·by_cases hp:m<p
  ·exact R p q ah h2 h3
  ·have e1:g p<=g m:=by
    by_cases h:p=m
    ·subst h;exact Pv _
    ·exact H.1 p h1 ah
   have e2:g m<=g q:=by
    by_cases h:q=m
    ·subst h;exact Pv _
    ·exact H.2 q ah h3
   exact Ph e1 e2
def Lb.sub(H:Lb a e g)(h:m<=e):Lb a m g:=by
 rcases H with H|H
 ·exact .inl H
 ·exact .inr λk h1 h2=>H k h1 ah
def fZ.leftOut(H:fZ a m g)(S:dz (m+1) e g g'):fZ a m g':=λp q h1 h2 h3=>by rw[S.out (k:=p) (.inl ah),S.out (k:=q) (.inl ah)];exact H p q h1 h2 h3
def fZ.rightOut(H:fZ (m+1) e g)(S:dz a m g g'):fZ (m+1) e g':=λp q h1 h2 h3=>by rw[S.out (k:=p) (.inr ah),S.out (k:=q) (.inr ah)];exact H p q h1 h2 h3
def HU{b n c:Nat}{sp:List Value}(hn:n<=LB/4):
  ∀(d a e:Nat) (i:Int) (x8 x9:Bool) (g:Nat->Int) (h:aI) (K:KK),e<=a+d->a<=e->e<=n->cd .u32 h b n g sp->Lb a e g->
   (∀h' g',cd .u32 h' b n g' sp->fZ a e g'->dz a e g g'->aM [b] h h'->K aE h')->F294.wL2 (d+1) (some (aw b)) n c a e i x8 x9 h K:=by
 intro d;have S:LB=140737488355328:=rfl
 induction d with
 |zero=>
  intro a e i x8 x9 g h K hd F he A L hK;rw[F294.sL2];rw[show ax ((e:Int)-(a:Int))=((e-a:Nat):Int) by rw[br ah ah];omega,show decide (((e-a:Nat):Int)<=12)=true by simp;omega,aO];exact ins76 A he ah ah λh' g' A' R' S' O'=>⟨rfl,hK h' g' A' R' S' O'⟩
 |succ d ih=>
  intro a e i x8 x9 g h K hd F he A L hK;rw[F294.sL2];rw[show ax ((e:Int)-(a:Int))=((e-a:Nat):Int) by rw[br ah ah];omega];refine aS (λ_=> ?_) λhc=> ?_
  ·exact ins76 A he ah ah λh' g' A' R' S' O'=>⟨rfl,hK h' g' A' R' S' O'⟩
  simp only[MX]at hc;refine aS (λ_=> ?_) λ_=> ?_
  ·exact GS A he F hn λh' g' A' R' S' O'=>⟨rfl,hK h' g' A' R' S' O'⟩
  have C: ∀(a e:Nat) (i:Int) (g:Nat->Int) (h:aI) (K:KK),e<=a+d->a<=e->e<=n->cd .u32 h b n g sp->Lb a e g->
    (∀h' g',cd .u32 h' b n g' sp->fZ a e g'->dz a e g g'->aM [b] h h'->K aE h')->Cl 294 [.slice (some (aw b)) n c,ap a,ap e,ap i] h K:=
   λa e i g h K h1 h2 h3 A L hK=>F294.spec _ _ _ _ _ _ h K ⟨d+1,ih a e i true true g h K h1 h2 h3 A L hK⟩
  have H: ∀(i j:Int) (x8:Bool) (m:Nat) (f:Bool) (g1:Nat->Int) (h1:aI),cd .u32 h1 b n g1 sp->Lb a e g1->yY a e m g1->a<=m->m<e->
    (∀h' g',cd .u32 h' b n g' sp->fZ a e g'->dz a e g1 g'->aM [b] h1 h'->K aE h')->
    (∃u:Int,∃D:Bool,(Value.tuple #[ap (m:Int),aD f])=(.tuple #[(ap u),(aD D)])/\((8:Int)≠0/\aK (decide ((ax (u-a))<(ax (e-u)))) (Cl 294 [(.slice (some (aw b)) n c),(ap a),(ap u),(ap i)] h1 (λO N=>(O=aE/\F294.wL2 (d+1) (some (aw b)) n c (ax (u+(1:Int))) e i (decide ((ax (u-a))>=(ax (Int.tdiv j (8:Int))))) D N K))) (Cl 294 [(.slice (some (aw b)) n c),(ap (ax (u+(1:Int)))),(ap e),(ap i)] h1 (λM R=>(M=aE/\F294.wL2 (d+1) (some (aw b)) n c a u i (decide ((ax (e-u))>=(ax (Int.tdiv j (8:Int))))) D R K))))):=by
   intro i j x8 m f g1 h1 A1 L1 P m1 m2 l;refine⟨_,_,rfl,by decide,?_⟩;rw[show ax ((m:Int)+1)=((m+1:Nat):Int) by rw[br ah ah];omega];refine aS (λ_=> ?_) λ_=> ?_
   ·refine C a m i g1 h1 _ ah m1 ah A1 (L1.sub ah) λh2 g2 A2 R2 S2 O2=>⟨rfl,?_⟩;have P2:=P.left S2;refine ih (m+1) e i _ _ g2 h2 K ah ah he A2 (.inr λk k1 k2=>by rw[show m+1-1=m by omega];exact P2.2 k ah k2) λh3 g3 A3 R3 S3 O3=> ?_;exact l h3 g3 A3 ((P2.right S3).join (R2.leftOut S3) R3) ((S2.mono (MN _) ah).trans (S3.mono ah (MN _))) (O2.trans O3 ak)
   ·refine C (m+1) e i g1 h1 _ ah ah he A1 (.inr λk k1 k2=>by rw[show m+1-1=m by omega];exact P.2 k ah k2) λh2 g2 A2 R2 S2 O2=>⟨rfl,?_⟩;have P2:=P.right S2;refine ih a m i _ _ g2 h2 K ah m1 ah A2 ((L1.swp (S2.mono ah (MN _))).sub ah) λh3 g3 A3 R3 S3 O3=> ?_;exact l h3 g3 A3 ((P2.left S3).join R3 (R2.rightOut S3)) ((S2.mono ah (MN _)).trans (S3.mono (MN _) ah)) (O2.trans O3 ak)
  have G: ∀(i j:Int) (x8 x9:Bool) (pv:Nat) (g1:Nat->Int) (h1:aI),cd .u32 h1 b n g1 sp->Lb a e g1->a<=pv->pv<e->
    (∀h' g',cd .u32 h' b n g' sp->fZ a e g'->dz a e g1 g'->aM [b] h1 h'->K aE h')->
    F294.wk17 (λy B z x1 x2 x3 x8 x9 h=>F294.wL2 (d+1) y B z x1 x2 x3 x8 x9 h K) (some (aw b)) n c a e i x8 x9 j pv h1 K:=by
   intro i j x8 x9 pv g1 h1 A1 L1 p1 p2 l;unfold F294.wk17;refine aS (λha=> ?_) λha=> ?_
   ·simp only[Na]at ha;rw[show ax ((a:Int)-1)=((a-1:Nat):Int) by rw[br ah ah];omega];refine A1.ld rfl ah (A1.ld rfl ah (d9 ?_));rw[bU];refine aS (λhl=> ?_) λhl=> ?_
    ·simp only[NC,MX]at hl;refine GB A1 he ah p1 p2 hn λh2 m g2 A2 S2 R1 R2 m1 m2 O2=> ?_;rw[bh]
     have lo: ∀k,a<=k->k<e->g1 pv<=g2 k:=by
      have L2:=L1.swp S2;rcases L2 with h0|L2
      ·omega
      ·intro k k1 k2;have:=L2 k k1 k2;rw[S2.out (k:=a-1) (.inl ah)]at this;omega
     refine ih m e i _ _ g2 h2 K ah m2 he A2 (.inr λk k1 k2=>Ph (R1 (m-1) ah ah) (OY (R2 k k1 k2))) λh3 g3 A3 R3 S3 O3=> ?_;refine l h3 g3 A3 (λp q h1 h2 h3=> ?_) (S2.trans (S3.mono ah (MN _))) (O2.trans O3 ak);by_cases hp:m<=p
     ·exact R3 p q hp h2 h3
     ·have e1:g3 p<=g1 pv:=by rw[S3.out (k:=p) (.inl ah)];exact R1 p h1 ah
      have e2:g1 pv<=g3 q:=by
       by_cases hq:m<=q
       ·exact OY (S3.all (Q:=λv=>g1 pv<v) (λk k1 k2=>R2 k k1 k2) q hq h3)
       ·rw[S3.out (k:=q) (.inl ah)];exact lo q ah h3
      exact Ph e1 e2
    ·exact Ad A1 he ah p1 p2 hn λh2 m g2 f A2 S2 P2 m1 m2 O2=>H i j x8 m f g2 h2 A2 (L1.swp S2) P2 m1 m2 λh' g' A' R' S' O'=>l h' g' A' R' (S2.trans S') (O2.trans O' ak)
   ·exact Ad A1 he ah p1 p2 hn λh2 m g2 f A2 S2 P2 m1 m2 O2=>H i j x8 m f g2 h2 A2 (L1.swp S2) P2 m1 m2 λh' g' A' R' S' O'=>l h' g' A' R' (S2.trans S') (O2.trans O' ak)
  have I: ∀(i j:Int) (x8 x9:Bool) (g1:Nat->Int) (h1:aI),cd .u32 h1 b n g1 sp->Lb a e g1->
    (∀h' g',cd .u32 h' b n g' sp->fZ a e g'->dz a e g1 g'->aM [b] h1 h'->K aE h')->
    F294.wk10 (λy B z x1 x2 x3 x8 x9 h=>F294.wL2 (d+1) y B z x1 x2 x3 x8 x9 h K) (some (aw b)) n c a e i x8 x9 j h1 K:=by
   intro i j x8 x9 g1 h1 A1 L1 l
   have J: ∀(pv:Nat) (t:Int) (g1:Nat->Int) (h1:aI),cd .u32 h1 b n g1 sp->Lb a e g1->a<=pv->pv<e->
     (∀h' g',cd .u32 h' b n g' sp->fZ a e g'->dz a e g1 g'->aM [b] h1 h'->K aE h')->
     F294.wk15 (λy B z x1 x2 x3 x8 x9 h=>F294.wL2 (d+1) y B z x1 x2 x3 x8 x9 h K) (some (aw b)) n c a e i x8 x9 j pv t h1 K:=by
    intro pv t g1 h1 A1 L1 p1 p2 l;unfold F294.wk15;have o:=G i j x8 x9 pv g1 h1 A1 L1 p1 p2 l;refine aS (λ_=>aS (λ_=>aS (λ_=> ?_) λ_=>o) λ_=>o) λ_=>o;refine Gp A1 L1 he ah hn λh2 g2 r A2 S2 R2 O2=> ?_;rw[bU];refine aS (λhr=>l h2 g2 A2 (R2 hr) S2 O2) λ_=> ?_;exact G i j x8 x9 pv g2 h2 A2 (L1.swp S2) p1 p2 λh' g' A' R' S' O'=>l h' g' A' R' (S2.trans S') (O2.trans O' ak)
   unfold F294.wk10;refine Ko A1 he ah hn λh2 pv t A2 p1 p2 O2=>⟨_,_,rfl,?_⟩;refine aS (λ_=> ?_) λ_=> ?_
   ·refine JD A2 he ah ah λh3 g3 A3 S3 O3=>⟨rfl,?_⟩
    rw[show ax (ax ((e:Int)-1)-ax ((pv:Int)-(a:Int)))=((e-1-(pv-a):Nat):Int) by rw[br (x:=(e:Int)-1) ah ah,br (x:=(pv:Int)-(a:Int)) ah ah,br ah ah];omega]
    exact J _ _ g3 h3 A3 (L1.swp S3) ah ah λh' g' A' R' S' O'=>l h' g' A' R' (S3.trans S') (((O2.mono ak).trans O3 ak).trans O' ak)
   ·exact J pv t g1 h2 A2 L1 p1 p2 λh' g' A' R' S' O'=>l h' g' A' R' S' ((O2.mono ak).trans O' ak)
  refine aS (λ_=> ?_) λ_=> ?_
  ·refine IF A he F hn λh2 g2 A2 S2 O2=>⟨rfl,?_⟩;exact I _ _ x8 x9 g2 h2 A2 (L.swp S2) λh' g' A' R' S' O'=>hK h' g' A' R' (S2.trans S') (O2.trans O' ak)
  ·exact I _ _ x8 x9 g h A L hK
def HO{h:aI}{b n c:Nat}{g:Nat->Int}{sp:List Value}{K:KK}(A:cd .u32 h b n g sp)(hn:n<=LB/4)
  (hK: ∀h' g',cd .u32 h' b n g' sp->fZ 0 n g'->dz 0 n g g'->aM [b] h h'->K aE h'):Cl 260 [.slice (some (aw b)) n c] h K:=by
 refine F260.spec ?_;have a:LB=140737488355328:=rfl;rw[bY ah ah];refine Fl ah λL _ _=> ?_;rw[bh];exact F294.spec _ _ _ _ _ _ h _ ⟨n+1,HU hn n 0 n L true true g h _ ah (NS _) (MN _) A (.inl rfl) λh' g' A' R' S' O'=>⟨rfl,hK h' g' A' R' S' O'⟩⟩
def K3{tb:ByteArray}{y:Nat}{K:Int->Prop}(h:((List.range 256).all λy=>tb[y]?.isSome)=true)(hy:y<256)(hK: ∀n:Int,K n):DI tb (y:Int) K:=by rw[NE]at h;obtain⟨b,hb⟩:=N4.1 (h y (NA.2 hy));exact⟨b,by rw[MO];exact hb,hK _⟩
def wv{X:Nat}{h:aI}{K:KK}(hX:X<256)(hK: ∀L:Int,K (ap L) h):Cl 295 [ar (X:Int)] h K:=by
 refine F295.spec ?_;refine F323.spec ?_;rw[MJ ah,aJ];show F323.wk4 _ _ _ _;unfold F323.wk4;rw[MJ ah,aJ];show F323.wk7 _ _ _ _;unfold F323.wk7;rw[MJ ah,aJ];show F323.wk10 _ _ _ _;unfold F323.wk10;have:IntKind.wrap .u8 (X:Int)=X:=by simp[IntKind.wrap,IntKind.bits,IntKind.signed];omega
 rw[this];exact⟨ah,K3 (by decide+kernel) hX λn=>aH rfl (hK _)⟩
def vb{h:aI}{c:Nat}{p:az}{K:KK}(hK:K aE h):Cl 260 [.slice p 0 c] h K:=by refine F260.spec ?_;rw[bY ah ah];refine wv (X:=0) ah λL=>aH rfl ?_;refine F294.spec _ _ _ _ _ _ h _ ⟨1,?_⟩;rw[F294.sL2];rw[show ax ((((0:Nat):Int))-0)=0 by decide,show decide ((0:Int)<=12)=true by decide,aO];refine F313.spec _ _ _ _ _ h _ ⟨1,?_⟩;rw[F313.sL1];rw[show decide (ax ((0:Int)+1)<((0:Nat):Int))=false by decide,aJ];exact⟨rfl,rfl,hK⟩
def Dw{h:aI}{c n:Nat}{p:az}{K:KK}(hn:n<=1)(hK:K aE h):Cl 265 [.slice p n c] h K:=by refine F265.spec ?_;rw[bY ah ah];refine wv ah λL=>aH rfl ?_;refine F298.spec _ _ _ _ _ _ h _ ⟨1,?_⟩;rw[F298.sL2];rw[wrap_i64 ah ah,MP ah,aO];refine F324.spec _ _ _ _ _ h _ ⟨1,?_⟩;rw[F324.sL1];rw[show decide (ax ((0:Int)+1)<((n:Nat):Int))=false by rw[MJ];rw[wrap_i64 ah ah];omega,aJ];exact⟨rfl,rfl,hK⟩
def cd.ldo{q:IntKind}{h:aI}{b n:Nat}{g:Nat->Int}{sp:List Value}(A:cd q h b n g sp){o l:Nat}{x:Int}{k:Nat}(hx:x=k)(hk:k<l)(hn:o+k<n){Q:Int->Prop}(hQ:Q (g (o+k))):
  aY (some ⟨b,o,none⟩) λa=>(0<=x/\x<(l:Int)/\aQ q (Ev.rd h (Addr.add a (Int.toNat x*1))) Q):=by
 subst hx;rw[aT];refine⟨ah,ah,?_⟩;rw[aL,show o+Int.toNat (k:Int)*1=o+k by omega,A.rd hn,bh];exact hQ
def cd.clr{sp:List Value}(A:cd q h b n g sp)(hk:k<=n)(hm:m=n-k)(hc:n<=c)
  (hK: ∀h' d,cd q h' b k g d->d.length=n-k+sp.length->aM [b] h h'->K h'):
  vF h #[.int q 0] (if c=k then some (aw b)else Option.map (λa=>Addr.add a (k*1)) (some (aw b))) m K:=by
 subst hm
 have e0:cX n (λk=>Value.int q (g k))=cX k (λk=>Value.int q (g k))++(cX n (λk=>Value.int q (g k))).drop k:=by
  conv=>lhs;rw[<-List.take_append_drop k (cX n (λk=>Value.int q (g k)))]
  congr 1
  apply Ns;intro i;by_cases hi:i<k
  ·rw[List.getElem?_take_of_lt hi,dk ah,dk hi]
  ·rw[Nb (by simp[bZ];omega),Nb (by simp[bZ];omega)]
 by_cases hck:c=k
 ·rw[MK hck];have:n-k=0:=ah;unfold vF;rw[this];have hz:(Builtin.zeroCells #[Value.int q 0] 0).toList=[]:=by simp[Builtin.zeroCells]
  dsimp only;rw[hz];unfold pE;have:n=k:=ah;subst this;exact hK h sp A ah (aM.refl _ _)
 ·rw[MG hck,NF,aL];unfold vF;simp only[MF,Nz];have hz:(Builtin.zeroCells #[Value.int q 0] (n-k)).toList.length=n-k:=by rw[fg];simp
  refine jU _ 0 _ h A (by rw[hz,MZ,bZ];omega) (λv hv=> ?_) λh' A' O' _=> ?_
  ·simp[Builtin.zeroCells]at hv;obtain⟨i,_,rfl⟩:=hv;rw[Nat.mod_one]
   rfl
  ·refine hK h' ((Builtin.zeroCells #[Value.int q 0] (n-k)).toList++(cX n (λk=>Value.int q (g k))++sp).drop (k+(n-k))) ?_ ?_ O'
   ·have e1:(cX n (λk=>Value.int q (g k))++sp).take k=cX k (λk=>Value.int q (g k)):=by
     rw[e0,NR,List.take_append_of_le_length (by rw[bZ];exact MN _),Pf (by rw[bZ];exact MN _)]
    rw[ML,hz,e1,NR]at A';exact A'
   ·rw[MZ,hz,List.length_drop,MZ,bZ];omega
structure CH(n k j:Nat)(g g':Nat->Int):Prop where
 k1:1<=k
 kj:k<=j
 up: ∀p q,p<q->q<k->g' p<g' q
 fw: ∀p,p<k-> ∃q,q<j/\g' p=g q
 bw: ∀q,q<j-> ∃p,p<k/\g' p=g q
 last:g' (k-1)=g (j-1)
 rest: ∀i,j<=i+1->i<n->k<=i->g' i=g i
def CH.same(H:CH n k j g g')(h:g j=g (j-1))(hk:k<=j):CH n k (j+1) g g' where
 k1:=H.k1
 kj:=ah
 up:=H.up
 fw:=λp hp=>by obtain⟨q,h1,h2⟩:=H.fw p hp;exact⟨q,ah,h2⟩
 bw:=λq hq=>by
  by_cases e:q=j
  ·subst e;exact⟨k-1,by have:=H.k1;omega,by rw[H.last,h]⟩
  ·exact H.bw q ah
 last:=by rw[H.last,show j+1-1=j by omega,h]
 rest:=λi h1 h2 h3=>H.rest i ah h2 h3
def CH.new(H:CH n k j g g')(h:g (j-1)<g j)(hj:j<n):CH n (k+1) (j+1) g (λi=>if i=k then g j else g' i) where
 k1:=ah
 kj:=by have:=H.kj;omega
 up:=λp q h1 h2=>by
  rw[MG (by omega:p≠k)];by_cases hq:q=k
  ·rw[MK hq];have l:=H.last;by_cases hp:p=k-1
   ·rw[hp,l];exact h
   ·have:=H.up p (k-1) ah ah;rw[l]at this;exact Int.lt_trans this h
  ·rw[MG hq];exact H.up p q h1 ah
 fw:=λp hp=>by
  by_cases e:p=k
  ·exact⟨j,ah,by rw[MK e]⟩
  ·obtain⟨q,h1,h2⟩:=H.fw p ah;exact⟨q,ah,by rw[MG e];exact h2⟩
 bw:=λq hq=>by
  by_cases e:q=j
  ·subst e;exact⟨k,ah,by rw[MK rfl]⟩
  ·obtain⟨p,h1,h2⟩:=H.bw q ah;exact⟨p,ah,by rw[MG ah];exact h2⟩
 last:=by rw[show k+1-1=k by omega,MK rfl,show j+1-1=j by omega]
 rest:=λi h1 h2 h3=>by rw[MG ah];exact H.rest i ah h2 ah
def Jj{sp:List Value}(A:cd .u32 h b n g' sp)(hk:k<=n)(hc:n<=c)(hn:n<=LB/4)(O:aM [b] h0 h)
  (hK: ∀h' d,cd .u32 h' b k g' d->d.length=n-k+sp.length->aM [b] h0 h'->K (.slice (some (aw b)) k c) h'):F261.wk14 bk (some (aw b)) n c k h K:=by
 unfold F261.wk14;refine⟨ah,ah,?_⟩;rw[MO];refine A.clr hk rfl hc λh' d A' hl O'=>⟨ah,ah,?_⟩
 have e:(if c=0 then(some ((aw b):Addr))else Option.map (λa=>Addr.add a (0*1)) (some (aw b)))=some (aw b):=by
  split
  ·rfl
  ·simp
 rw[e];exact hK h' d A' hl (O.trans O' ak)
def K4{b n c:Nat}{g:Nat->Int}{K:KK}{sp:List Value}{bk:Nat}{k0:Nat}(hc:n<=c)(hn:n<=LB/4)(R:fZ 0 n g)(h0:1<=k0){hh:aI}:
  ∀(d k2 k:Nat) (g':Nat->Int) (h:aI),k0+k2+d=n->1<=k2->cd .u32 h b n g' sp->CH n k (k0+k2) g g'->k0<=k->k<k0+k2->aM [b] hh h->
   (∀h' k' i a,cd .u32 h' b k' i a->a.length=n-k'+sp.length->CH n k' n g i->k'<=n->aM [b] hh h'->K (.slice (some (aw b)) k' c) h')->
   F261.wL9 (d+1) bk (some (aw b)) n c k (some ⟨b,k0,none⟩) (n-k0) (c-k0) k2 h K:=by
 intro d;have l:LB=140737488355328:=rfl
 induction d with
 |zero=>
  intro k2 k g' h hd h2 A C hk j O hK;rw[F261.sL9];rw[show decide ((k2:Int)<((n-k0:Nat):Int))=false by simp;omega,aJ];rw[show k0+k2=n by omega]at C;exact Jj A ah hc hn O λh' a A' hl O'=>hK h' k g' a A' hl C ah O'
 |succ d ih=>
  intro k2 k g' h hd h2 A C hk j O hK;rw[F261.sL9]
  rw[show decide ((k2:Int)<((n-k0:Nat):Int))=true by simp;omega,aO,show ax ((k2:Int)-1)=((k2-1:Nat):Int) by rw[br ah ah];omega,
   show ax ((k2:Int)+1)=((k2+1:Nat):Int) by rw[br ah ah];omega]
  refine A.ldo rfl ah ah (A.ldo rfl ah ah ?_);rw[C.rest (k0+k2) ah ah ah];by_cases hkk:k<=k0+(k2-1)
  ·have e1:g' (k0+(k2-1))=g (k0+k2-1):=by rw[C.rest (k0+(k2-1)) ah ah hkk,show k0+(k2-1)=k0+k2-1 by omega]
   rw[e1];refine aS (λe=> ?_) λe=> ?_
   ·simp only[Qs,PY]at e;refine A.ldo rfl ah ah (A.sto rfl ah λh1 A1 O1=> ?_);rw[C.rest (k0+k2) ah ah ah]at A1;rw[show ax ((k:Int)+1)=((k+1:Nat):Int) by rw[br ah ah];omega]
    have lt:g (k0+k2-1)<g (k0+k2):=by have:=R (k0+k2-1) (k0+k2) ah ah ah;omega
    exact ih (k2+1) (k+1) _ h1 ah ah A1 (C.new lt ah) ah ah (O.trans O1 ak) hK
   ·have f:g (k0+k2)=g (k0+k2-1):=by simpa using e
    exact ih (k2+1) k g' h ah ah A (C.same f ah) hk ah O hK
  ·have:k=k0+k2:=ah;omega
def Kc{b n c:Nat}{g:Nat->Int}{K:KK}{sp:List Value}(hc:n<=c)(hn:n<=LB/4)(R:fZ 0 n g){h:aI}(A:cd .u32 h b n g sp): ∀(d k:Nat),k+d=n->1<=k->CH n k k g g->
   (∀h' k' j a,cd .u32 h' b k' j a->a.length=n-k'+sp.length->CH n k' n g j->k'<=n->aM [b] h h'->K (.slice (some (aw b)) k' c) h')->
   F261.wL4 (d+1) (some (aw b)) n c k h K:=by
 intro d;have l:LB=140737488355328:=rfl
 induction d with
 |zero=>
  intro k hd h1 C hK;rw[F261.sL4];rw[show decide ((k:Int)<(n:Int))=false by simp;omega,aJ];have:k=n:=ah;subst this;exact hK h k g sp A ah C (MN _) (aM.refl _ _)
 |succ d ih=>
  intro k hd h1 C hK;rw[F261.sL4];rw[show decide ((k:Int)<(n:Int))=true by simp;omega,aO,show ax ((k:Int)-1)=((k-1:Nat):Int) by rw[br ah ah];omega];refine A.ld rfl ah (A.ld rfl ah ?_);refine aS (λhe=> ?_) λhe=> ?_
  ·have f:g k=g (k-1):=by simpa using he
   refine⟨ah,ah,?_⟩;unfold F261.wk9;rw[MO,MG ah,NF,aL,MF,Nz];exact⟨_,K4 hc hn R h1 (n-(k+1)) 1 k g h ah (MN _) A (C.same f (MN _)) (MN _) ah (aM.refl _ _) hK⟩
  ·have f: ¬g k=g (k-1):=by simpa using he
   rw[show ax ((k:Int)+1)=((k+1:Nat):Int) by rw[br ah ah];omega]
   have lt:g (k-1)<g k:=by have:=R (k-1) k ah ah ah;omega
   have C':=C.new lt ah;rw[show(λi=>if i=k then g k else g i)=g by funext i;by_cases e:i=k<;>simp[e]]at C';exact ih (k+1) ah ah C' hK
def IL{sp:List Value}(A:cd .u32 h b n g sp)(hc:n<=c)(hn:n<=LB/4)(R:fZ 0 n g)
  (hK: ∀h' k g' a,cd .u32 h' b k g' a->a.length=n-k+sp.length->k<=n->(∀p q,p<q->q<k->g' p<g' q)->(∀p,p<k-> ∃q,q<n/\g' p=g q)->(∀q,q<n-> ∃p,p<k/\g' p=g q)->aM [b] h h'->K (.slice (some (aw b)) k c) h'):
  Cl 261 [.slice (some (aw b)) n c] h K:=by
 refine F261.spec _ _ _ h K ?_;refine aS (λh2=> ?_) λh2=> ?_
 ·simp only[Na]at h2;exact hK h n g sp A ah (MN _) (λp q _ _=>ah) (λp hp=>⟨p,hp,rfl⟩) (λq hq=>⟨q,hq,rfl⟩) (aM.refl _ _)
 ·simp only[MX]at h2;unfold F261.wk4
  exact⟨_,Kc hc hn R A (n-1) 1 ah (MN _) ⟨MN _,MN _,λp q _ _=>ah,λp hp=>⟨p,hp,rfl⟩,λq hq=>⟨q,hq,rfl⟩,rfl,λi _ _ _=>rfl⟩
   λh' k g' a A' hl C hk O'=>hK h' k g' a A' hl hk C.up C.fw C.bw O'⟩
def Bc(hK:K (.slice p 0 c) h):Cl 261 [.slice p 0 c] h K:=by refine F261.spec _ _ _ h K ?_;rw[show decide (((0:Nat):Int)<2)=true by decide,aO];exact hK
def xr(x:Int):Bool:=decide (1<x)
structure BO(i j:Nat)(g g':Nat->Int):Prop where
 ij:i<=j
 eq:(List.range i).map g'=((List.range j).map g).filter xr
 rest: ∀k,j<=k->g' k=g k
def BO.keep(H:BO i j g g')(h:1<g j):BO (i+1) (j+1) g (λk=>if k=i then g j else g' k) where
 ij:=by have:=H.ij;omega
 eq:=by
  rw[OD,OD,No,No,NX,<-H.eq]
  congr 1
  ·apply NG;intro k hk;rw[NA]at hk;rw[MG ah]
  ·simp[xr,h]
 rest:=λk hk=>by have:=H.ij;rw[MG ah];exact H.rest k ah
def BO.drop(H:BO i j g g')(h: ¬1<g j):BO i (j+1) g g' where
 ij:=by have:=H.ij;omega
 eq:=by rw[H.eq,OD,No,NX];simp[xr,h]
 rest:=λk hk=>H.rest k ah
def BO.all(h: ∀k,k<i->1<g k):BO i i g g where
 ij:=MN _
 eq:=by symm;rw[NW];intro x hx;obtain⟨k,hk,rfl⟩:=MY.1 hx;rw[NA]at hk;simp[xr,h k hk]
 rest:=λk _=>rfl
def FQ(hK:K (aD (!xr x)) h):eD Tryz.prog X (.func (.func 263) #[] #[]) [aq x] h K:=
 bu (by kernel_rfl) (F263.spec (by rw[show decide (x<=1)= !xr x by unfold xr;by_cases h:1<x<;>simp[h]<;>omega];exact hK))
def IJ{b n c:Nat}{g:Nat->Int}{K:KK}{h:aI}{sp:List Value}(A:cd .u32 h b n g sp)(hn:n<=LB/4)(hK: ∀i:Nat,i<n->(∀k,k<i->1<g k)-> ¬1<g i->K (ap (i:Int)) h)(hN:(∀k,k<n->1<g k)->K (ap (-1)) h):
  Cl 296 [.slice (some (aw b)) n c,.func (.func 263) #[] #[]] h K:=by
 refine F296.spec _ _ _ h K ?_;have f:LB=140737488355328:=rfl;unfold F296.wk2
 have a: ∀(d i:Nat),i+d=n->(∀k,k<i->1<g k)->F296.wL2 (d+1) (some (aw b)) n c (.func (.func 263) #[] #[]) n i h K:=by
  intro d
  induction d with
  |zero=>
   intro i hd hi;rw[F296.sL2];rw[show decide ((i:Int)<(n:Int))=false by simp;omega,aJ];exact hN λk hk=>hi k ah
  |succ d ih=>
   intro i hd hi;rw[F296.sL2];rw[show decide ((i:Int)<(n:Int))=true by simp;omega,aO];refine A.ld rfl ah (FQ ?_);rw[bU];refine aS (λho=> ?_) λho=> ?_
   ·exact hK i ah hi (by simpa[xr]using ho)
   ·rw[show ax ((i:Int)+1)=((i+1:Nat):Int) by rw[br ah ah];omega];refine ih (i+1) ah λk hk=> ?_;by_cases e:k=i
    ·subst e;simpa[xr]using ho
    ·exact hi k ah
 exact⟨_,a n 0 ah λk hk=>ah⟩
def Kn{sp:List Value}(A:cd .u32 h b n g' sp)(hk:k<=n)(hc:n<=c)(O:aM [b] h0 h)
  (hK: ∀h' d,cd .u32 h' b k g' d->d.length=n-k+sp.length->aM [b] h0 h'->K (.slice (some (aw b)) k c) h'):F262.wk11 (some (aw b)) n c k h K:=by
 unfold F262.wk11;refine⟨ah,ah,?_⟩;rw[MO];refine A.clr hk rfl hc λh' d A' hl O'=>⟨ah,ah,?_⟩
 have e:(if c=0 then(some ((aw b):Addr))else Option.map (λa=>Addr.add a (0*1)) (some (aw b)))=some (aw b):=by
  split
  ·rfl
  ·simp
 rw[e];exact hK h' d A' hl (O.trans O' ak)
def Jx{b n c:Nat}{g:Nat->Int}{K:KK}{sp:List Value}(hc:n<=c)(hn:n<=LB/4){hh:aI}:
  ∀(d j i:Nat) (g':Nat->Int) (h:aI),j+d=n->i<j->cd .u32 h b n g' sp->BO i j g g'->aM [b] hh h->
   (∀h' k f a,cd .u32 h' b k f a->a.length=n-k+sp.length->k<=n->(List.range k).map f=((List.range n).map g).filter xr->aM [b] hh h'->K (.slice (some (aw b)) k c) h')->
   F262.wL5 (d+1) (some (aw b)) n c (.func (.func 263) #[] #[]) i j h K:=by
 intro d;have m:LB=140737488355328:=rfl
 induction d with
 |zero=>
  intro j i g' h hd l A C O hK;rw[F262.sL5];rw[show decide ((j:Int)<(n:Int))=false by simp;omega,aJ];have:j=n:=ah;subst this;exact Kn A ah hc O λh' a A' hl O'=>hK h' i g' a A' hl ah C.eq O'
 |succ d ih=>
  intro j i g' h hd l A C O hK;rw[F262.sL5];rw[show decide ((j:Int)<(n:Int))=true by simp;omega,aO,show ax ((j:Int)+1)=((j+1:Nat):Int) by rw[br ah ah];omega];refine A.ld rfl ah (FQ ?_);rw[bU];have ej:g' j=g j:=C.rest j (MN _);refine aS (λho=> ?_) λho=> ?_
  ·have e:1<g j:=by rw[<-ej];simpa[xr]using ho
   refine A.sto rfl ah λh1 A1 O1=> ?_;rw[ej]at A1;rw[show ax ((i:Int)+1)=((i+1:Nat):Int) by rw[br ah ah];omega];exact ih (j+1) (i+1) _ h1 ah ah A1 (C.keep e) (O.trans O1 ak) hK
  ·have e: ¬1<g j:=by rw[<-ej];simpa[xr]using ho
   exact ih (j+1) i g' h ah ah A (C.drop e) O hK
def Kr{b n c:Nat}{g:Nat->Int}{K:KK}{h:aI}{sp:List Value}(A:cd .u32 h b n g sp)(hc:n<=c)(hn:n<=LB/4)
  (hK: ∀h' k g' a,cd .u32 h' b k g' a->a.length=n-k+sp.length->k<=n->(List.range k).map g'=((List.range n).map g).filter xr->aM [b] h h'->K (.slice (some (aw b)) k c) h'):
  Cl 262 [.slice (some (aw b)) n c,.func (.func 263) #[] #[]] h K:=by
 refine F262.spec _ _ _ h K ?_;have d:LB=140737488355328:=rfl;refine IJ A hn (λi hi h1 h2=> ?_) λh1=> ?_
 ·rw[bh,show((i:Int)==(-1))=false by simp,aJ,show ax ((i:Int)+1)=((i+1:Nat):Int) by rw[br ah ah];omega];unfold F262.wk5;exact⟨_,Jx hc hn (n-(i+1)) (i+1) i g h ah ah A ((BO.all h1).drop h2) (aM.refl _ _) hK⟩
 ·rw[bh,show((-1:Int)==(-1))=true by decide,aO];exact hK h n g sp A ah (MN _) (BO.all h1).eq (aM.refl _ _)
def AF(hK:K (.slice p 0 c) h):Cl 262 [.slice p 0 c,.func (.func 263) #[] #[]] h K:=by
 refine F262.spec _ _ _ h K ?_;refine F296.spec _ _ _ h _ ?_;unfold F296.wk2;refine⟨1,?_⟩;rw[F296.sL2];rw[show decide ((0:Int)<((0:Nat):Int))=false by decide,aJ]
 try dsimp only
 rw[bh,show((-1:Int)==(-1))=true by decide,aO];exact hK
end Go.Proofs.YtnofenejoebkhaaGreat.Ev
