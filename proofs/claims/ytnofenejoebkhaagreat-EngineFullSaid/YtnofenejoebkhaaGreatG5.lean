/- PART 5 OF WHAT THE LAW EngineFull STANDS ON: TskD5, TskE5, TskH5, TskI5, TskJ5, DeqF5, DeqA405, DeqA415, DeqA425, DeqC5, DeqS5, DeqT5, DeqG5, DeqU5, DeqV5, PolF5, DeqP5, DeqR5, DeqQ5, EvO, PolA5, PolB5, PolC5, PolD5, PolE5, PolG5, PolH5, PolI5, LpF5, PolJ5. Conditions: none but those that each lemma states. -/
import Derived.Test.YtnofenejoebkhaaGreatG4
namespace Go.Proofs.YtnofenejoebkhaaGreat.Ev
open Go
set_option linter.defProp false
section
def CG:bW X 180=some cJ.go:=by kernel_rfl
def Dv:bW X 225=some cJ.go:=by kernel_rfl
def Dk:bW X 273=some cJ.go:=by kernel_rfl
section
variable {h:aA}{s n room:Nat}{fo gg:Nat->Nat}{off:Bool}{N:aj}{A:MA}{fl:List Fk}{fr:Fk}{K:KK}{L:List Nat}
def bX.ftop(M:bX h s {A with fs:=fl++[fr]}):At h fr.b (gP A.m fr):=M.frm fr Z
def jE:fr.b∈({A with fs:=fl++[fr]}:MA).bl:=by simp[MA.bl]
set_option maxRecDepth 100000 in
def vu(H:cG h s L (XL n room fo gg N off))(M:bX h s {A with fs:=fl++[fr]})(D: ∀b∈({A with fs:=fl++[fr]}:MA).bl,b∉L)(hl:fl.length<100000)(hop:jS fr.op)(ha:isN N fr.a0)(hb:isN N fr.a1)(hc:isN N fr.a2)
  (hT: ∀h' fp r,iS n fo N fr.op fr.a0 fr.a1 fr.a2 r->cG h' s L (XL n room fo gg N off)->bX h' s {A with fp:=fp,fs:=fl,told:=r,done:=fl.isEmpty}->aR fp=aR A.fp->aF (L++({A with fs:=fl++[fr]}:MA).bl) h h'->K ax h')
  (hP: ∀h' l b fp fc,l=min (lvl n N fr.a2) (min (lvl n N fr.a1) (min (lvl n N fr.a0) n))->l<n->h.size<=b->cG h' s L (XL n room fo gg N off)->
   bX h' s {A with fp:=fp,fc:=fc,fs:=fl++[{fr with level:=l,fn:=225}]++[⟨b,fr.op,0,ch n N l false fr.a0,ch n N l false fr.a1,ch n N l false fr.a2,0,0,180⟩]}->(∀b∈aR fp,b∈aR A.fp\/h.size<=b)->aF (L++({A with fs:=fl++[fr]}:MA).bl) h h'->K ax h'):
  Cl 180 [aX fr.b] h K:=by
 have ok:=H.ok;dsimp only[XL]at ok;have hn8:=ok.2.2.1;have nlt: ∀{y},isN N y->y<2^16:=λhy=>by have:=H.isN_lt hy;omega
 have opl:fr.op<2^8:=by rcases hop with h|h|h|h<;>omega
 refine F180.spec _ h K ?_;simp only[aE,Nat.zero_add,Nat.add_zero];have F:=M.ftop;have r0:=(bL F).1;have m0:=(db M.own).1;refine aJ r0 ?_;rw[aL];simp only[aE,Nat.zero_add,Nat.add_zero];refine aJ m0 ?_
 have tell: ∀h' r,iS n fo N fr.op fr.a0 fr.a1 fr.a2 r->cG h' s L (XL n room fo gg N off)->bX h' s {A with fs:=fl++[fr]}->aF L h h'->F180.wk6 (ah fr.b) (some (ah s)) (r:Int) true h' K:=by
  intro h' r R S M' O;unfold F180.wk6;rw[aG];simp only[aE,Nat.zero_add,Nat.add_zero];refine aJ (bL M'.ftop).1 (pX M' Y λh2 fp M2 e2 O2=>⟨rfl,?_⟩);refine hT h2 fp r R (S.only O2 λb hb hm=> ?_) M2 e2 ((O.mono λb hb _=>List.mem_append.2 (.inl hb)).trans O2 λb hb _=> ?_)
  ·simp only[List.mem_singleton]at hb;subst hb;exact D A.m (by simp[MA.bl]) hm
  ·simp only[List.mem_singleton]at hb;subst hb;exact List.mem_append.2 (.inr (by simp[MA.bl]))
 have down: ∀h' (z:Int),(2<=fr.a0\/2<=fr.a1\/2<=fr.a2)->cG h' s L (XL n room fo gg N off)->bX h' s {A with fs:=fl++[fr]}->aF L h h'->F180.wk6 (ah fr.b) (some (ah s)) z false h' K:=by
  intro h' z h2 S M' O;unfold F180.wk6;rw[aD];simp only[aE,Nat.zero_add,Nat.add_zero];refine gS S (aB rfl ?_);have hsz:=O.size;have nfr:fr.b∉L:=D _ jE;have zL:=H.lt;refine M'.top (f':={fr with level:=n}) (by decide) rfl rfl rfl λh3 M3 O3=> ?_;have S3:=S.only O3 (λb hb hm=>by simp only[List.mem_singleton]at hb;subst hb;exact nfr hm);obtain⟨q0,q1,q3,q4,q5,q6,-⟩:=bL M3.ftop;refine aB q3 (aB q4 (aB q5 ?_));unfold F180.wk10;have O03:aF (L++[fr.b]) h h3:=(O.mono λb hb _=>List.mem_append.2 (.inl hb)).trans O3 λb hb _=>List.mem_append.2 (.inr hb)
  have lstep: ∀(bk:Addr->ak->Int->Int->Int->Int->aA->Prop) (k14:Addr->ak->aA->Prop) (h4:aA) (i y l:Nat),i<3->(if i=0 then fr.a0 else if i=1 then fr.a1 else fr.a2)=y->isN N y->cG h4 s L (XL n room fo gg N off)->bX h4 s {A with fs:=fl++[{fr with level:=l}]}->aF (L++[fr.b]) h h4->
    (∀h5,cG h5 s L (XL n room fo gg N off)->bX h5 s {A with fs:=fl++[{fr with level:=min (lvl n N y) l}]}->aF (L++[fr.b]) h h5->bk (ah fr.b) (some (ah s)) (fr.a0:Int) (fr.a1:Int) (fr.a2:Int) ((i+1:Nat):Int) h5)->
    F180.JL10 bk k14 (ah fr.b) (some (ah s)) (fr.a0:Int) (fr.a1:Int) (fr.a2:Int) (i:Int) h4 K:=by
   intro bk k14 h4 i y l hi hy hN S4 M4 O4 hB;unfold F180.JL10;rw[decide_eq_true Y,aG];simp only[aE,Nat.zero_add,Nat.add_zero];obtain⟨p0,p1,p3,p4,p5,p6,-⟩:=bL M4.ftop;refine⟨Y,Y,aB (n:=(y:Int)) ?_ (aB p6 (dj S4 hN (aB rfl ⟨by trivial,by trivial,by trivial,by trivial,aB p6 ⟨by trivial,?_⟩⟩)))⟩
   ·rw[Int.toNat_natCast];subst hy;have:i=0\/i=1\/i=2:=Y;rcases this with e|e|e<;>subst e<;>rfl
   ·have ew:ai ((i:Int)+1)=((i+1:Nat):Int):=by rw[wrap_i64 Y Y];omega
    rw[ew];show aP h4 ⟨fr.b,6,none⟩ (ac (if((lvl n N y:Nat):Int)<(l:Int)then((lvl n N y:Nat):Int)else(l:Int))) _;rw[CH];refine M4.top (f':={fr with level:=min (lvl n N y) l}) (by decide) rfl rfl rfl λh5 M5 O5=>hB h5 (S4.only O5 λb hb hm=>by simp only[List.mem_singleton]at hb;subst hb;exact nfr hm) M5 (O4.trans O5 λb hb _=>List.mem_append.2 (.inr hb))
  refine⟨4,?_⟩;rw[F180.sL10];refine lstep _ _ h3 0 fr.a0 n Y rfl ha S3 M3 O03 λh4 S4 M4 O4=> ?_;rw[F180.sL10];refine lstep _ _ h4 1 fr.a1 _ Y rfl hb S4 M4 O4 λh5 S5 M5 O5=> ?_;rw[F180.sL10];refine lstep _ _ h5 2 fr.a2 _ Y rfl hc S5 M5 O5 λh6 S6 M6 O6=> ?_;rw[F180.sL10];unfold F180.JL10;rw[decide_eq_false Y,aD];obtain⟨l,el⟩: ∃l,l=min (lvl n N fr.a2) (min (lvl n N fr.a1) (min (lvl n N fr.a0) n)):=⟨_,rfl⟩;rw[<-el]at M6;have lt2: ∀{y},isN N y->2<=y->lvl n N y<n:=λhy h2=>(ok.1.at hy h2).1
  have hln:l<n:=by
   rcases h2 with h2|h2|h2
   ·have:=lt2 ha h2;omega
   ·have:=lt2 hb h2;omega
   ·have:=lt2 hc h2;omega
  unfold F180.wk14;simp only[aE,Nat.zero_add,Nat.add_zero];refine M6.top (f':={fr with level:=l,fn:=225}) (by decide) rfl rfl rfl λh7 M7 O7=> ?_;have S7:=S6.only O7 (λb hb hm=>by simp only[List.mem_singleton]at hb;subst hb;exact nfr hm);have F7:=M7.ftop;obtain⟨q0,q1,-⟩:=bL F7;refine aJ q0 (aB q1 ?_);have O07:aF (L++[fr.b]) h h7:=O6.trans O7 λb hb _=>List.mem_append.2 (.inr hb);refine tO (A:={A with fs:=fl++[{fr with level:=l,fn:=225}]}) (side:=false) (f:={fr with level:=l,fn:=225}) S7 F7 M7.own ha hb hc λh8 O8=>⟨_,_,_,rfl,by trivial,by trivial,by trivial,?_⟩;have M8:=M7.only0 O8;have S8:=S7.only0 O8;obtain⟨p0,p1,-⟩:=bL M8.ftop;refine aJ p0 ⟨by trivial,by trivial,by trivial,by trivial,aB p1 ⟨by trivial,?_⟩⟩;refine mK (A:={A with fs:=fl++[{fr with level:=l,fn:=225}]}) (mask:=0) M8 (by simp;omega) λh9 g fp fc hg M9 O9 g9=>aJ rfl ?_;obtain⟨b,rfl,hb9⟩:=hg;have hz8:h.size<=h8.size:=Nat.le_trans O07.size O8.size;refine hP h9 l b fp fc el hln Y (S8.only O9 λx hx hm=> ?_) M9 (λx hx=>(g9 x hx).imp id λh=>Y) ?_
  ·rcases List.mem_cons.1 hx with e|hx
   ·subst e;exact D A.m (by simp[MA.bl]) hm
   ·have hx:x∈aR A.fp:=hx;exact D x (by simp[MA.bl,hx]) hm
  ·refine((O07.trans O8 Z).mono (T:=L++({A with fs:=fl++[fr]}:MA).bl) λx hx _=> ?_).trans O9 λx hx _=>List.mem_append.2 (.inr ?_)
   ·rcases List.mem_append.1 hx with h|h
    ·exact List.mem_append.2 (.inl h)
    ·simp only[List.mem_singleton]at h;subst h;exact List.mem_append.2 (.inr jE)
   ·rcases List.mem_cons.1 hx with e|hx
    ·subst e;simp[MA.bl]
    ·have hx:x∈aR A.fp:=hx;simp[MA.bl,hx]
 have h32:fr.a0<2^32/\fr.a1<2^32:=⟨by have:=nlt ha;omega,by have:=nlt hb;omega⟩;refine ya F hop (λr R=>⟨_,_,rfl,?_⟩) λr h3=>⟨_,_,rfl,?_⟩
 ·rw[Bool.not_true,aD];unfold F180.wk4;rw[Bool.not_true,aD];exact tell h r (R n fo N ok.1 ha hb hc) H M (aF.refl _ _)
 ·rw[Bool.not_false,aG];refine yf F hop h32 h3 (λr R=>⟨_,_,rfl,?_⟩) λr h2=>⟨_,_,rfl,?_⟩
  ·unfold F180.wk4;rw[Bool.not_true,aD];exact tell h r (R n fo N ok.1 ha hb hc) H M (aF.refl _ _)
  ·unfold F180.wk4;rw[Bool.not_false,aG];simp only[aE,Nat.zero_add,Nat.add_zero];obtain⟨-,p1,p3,p4,p5,-⟩:=bL F;have r3':rd h ⟨fr.b,3+Int.toNat (0:Int)*1,none⟩=some (ae (fr.a0:Int)):=p3;have r4':rd h ⟨fr.b,3+Int.toNat (1:Int)*1,none⟩=some (ae (fr.a1:Int)):=p4;have r5':rd h ⟨fr.b,3+Int.toNat (2:Int)*1,none⟩=some (ae (fr.a2:Int)):=p5;refine aB p1 ⟨Y,Y,aB r3' ⟨Y,Y,aB r4' ⟨Y,Y,aB r5' ?_⟩⟩⟩;refine q9 (mask:=0) H opl (by decide) (nlt ha) (nlt hb) (nlt hc) (λh4 S4 O4=>⟨_,_,rfl,?_⟩) λh4 v hv S4 O4=>⟨_,_,rfl,?_⟩
   ·exact down h4 _ h2 S4 (M.only O4 λb hb hm=>D b hm hb) O4
   ·obtain⟨r,rfl,R⟩:=QL.get (by rcases hop with h|h|h|h<;>omega) hv (nlt ha) (nlt hb) (nlt hc);have hr:=H.isN_lt R.is;rw[gi Y];exact tell h4 r R S4 (M.only O4 λb hb hm=>D b hm hb) O4
end
end
section
section
variable {h:aA}{s n room:Nat}{fo gg:Nat->Nat}{off:Bool}{N:aj}{A:MA}{fl:List Fk}{fr:Fk}{K:KK}{L:List Nat}
set_option maxRecDepth 100000 in
def oE(H:cG h s L (XL n room fo gg N off))(M:bX h s {A with fs:=fl++[fr]})(D: ∀b∈({A with fs:=fl++[fr]}:MA).bl,b∉L)(hl:fl.length<100000)(ha:isN N fr.a0)(hb:isN N fr.a1)(hc:isN N fr.a2)
  (hP: ∀h' b fp fc,h.size<=b->cG h' s L (XL n room fo gg N off)->
   bX h' s {A with fp:=fp,fc:=fc,fs:=fl++[{fr with low:=A.told,fn:=273}]++[⟨b,fr.op,0,ch n N fr.level true fr.a0,ch n N fr.level true fr.a1,ch n N fr.level true fr.a2,0,0,180⟩]}->(∀b∈aR fp,b∈aR A.fp\/h.size<=b)->aF (L++({A with fs:=fl++[fr]}:MA).bl) h h'->K ax h'):
  Cl 225 [aX fr.b] h K:=by
 refine F225.spec ?_;simp only[aE,Nat.zero_add,Nat.add_zero];have nfr:fr.b∉L:=D _ jE;have rm:=db M.own;refine aJ (bL M.ftop).1 ?_;rw[aL];simp only[aE,Nat.zero_add,Nat.add_zero];refine aB rm.2.2.1 ?_;refine M.top (f':={fr with low:=A.told}) (by decide) rfl rfl rfl λh1 M1 O1=> ?_;refine M1.top (f':={fr with low:=A.told,fn:=273}) (by decide) rfl rfl rfl λh2 M2 O2=> ?_;have O02:aF [fr.b] h h2:=O1.trans O2 λb hb _=>hb;have S2:=H.only O02 (λb hb hm=>by simp only[List.mem_singleton]at hb;subst hb;exact nfr hm);have F2:=M2.ftop;obtain⟨q0,q1,-⟩:=bL F2;refine aJ q0 (aB q1 (aJ q0 ?_));rw[aL];simp only[aE,Nat.zero_add,Nat.add_zero];refine aJ (db M2.own).1 ?_;refine tO (A:={A with fs:=fl++[{fr with low:=A.told,fn:=273}]}) (side:=true) (f:={fr with low:=A.told,fn:=273}) S2 F2 M2.own ha hb hc λh8 O8=>⟨_,_,_,rfl,by trivial,by trivial,by trivial,?_⟩;have M8:=M2.only0 O8;have S8:=S2.only0 O8;obtain⟨p0,p1,-⟩:=bL M8.ftop;refine aJ p0 ⟨by trivial,by trivial,by trivial,by trivial,aB p1 ⟨by trivial,?_⟩⟩;refine mK (A:={A with fs:=fl++[{fr with low:=A.told,fn:=273}]}) (mask:=0) M8 (by simp;omega) λh9 g fp fc hg M9 O9 g9=>aJ rfl ?_;obtain⟨b,rfl,hb9⟩:=hg;have hz8:h.size<=h8.size:=Nat.le_trans O02.size O8.size;refine hP h9 b fp fc Y (S8.only O9 λx hx hm=> ?_) M9 (λx hx=>(g9 x hx).imp id λh=>Y) ?_
 ·rcases List.mem_cons.1 hx with e|hx
  ·subst e;exact D A.m (by simp[MA.bl]) hm
  ·have hx:x∈aR A.fp:=hx;exact D x (by simp[MA.bl,hx]) hm
 ·refine((O02.trans O8 Z).mono (T:=L++({A with fs:=fl++[fr]}:MA).bl) λx hx _=> ?_).trans O9 λx hx _=>List.mem_append.2 (.inr ?_)
  ·simp only[List.mem_singleton]at hx;subst hx;exact List.mem_append.2 (.inr jE)
  ·rcases List.mem_cons.1 hx with e|hx
   ·subst e;simp[MA.bl]
   ·have hx:x∈aR A.fp:=hx;simp[MA.bl,hx]
set_option maxRecDepth 100000 in
def oQ(H:cG h s L (XL n room fo gg N off))(M:bX h s {A with fs:=fl++[fr]})(D: ∀b∈({A with fs:=fl++[fr]}:MA).bl,b∉L)(hl:fl.length<100000)(hop:jS fr.op)(ha:isN N fr.a0)(hb:isN N fr.a1)(hc:isN N fr.a2)
  (hln:fr.level<n) (hlo:isN N fr.low) (htd:isN N A.told) (llo:fr.level<lvl n N fr.low) (ltd:fr.level<lvl n N A.told)
  (hR: ∀N' r,Ex N N'->gU room N fr.level fr.low A.told N' r 0->ey n N'->iS n fo N' fr.op fr.a0 fr.a1 fr.a2 r)
  (hT: ∀h' L' N' fp r,gU room N fr.level fr.low A.told N' r 0->iS n fo N' fr.op fr.a0 fr.a1 fr.a2 r->cG h' s L' (XL n room fo gg N' off)->bX h' s {A with fp:=fp,fs:=fl,told:=r,done:=fl.isEmpty}->aR fp=aR A.fp->aF (L++({A with fs:=fl++[fr]}:MA).bl) h h'->cj L L' h->K ax h')
  (hE: ∀h' L',room<=aT N->cG h' s L' (XL n room fo gg N off)->bX h' s {A with fp:=none,fc:=0,fs:=[],done:=true,e:=60}->aF (L++({A with fs:=fl++[fr]}:MA).bl) h h'->cj L L' h->K ax h'):
  Cl 273 [aX fr.b] h K:=by
 have ok:=H.ok;dsimp only[XL]at ok;have hn8:=ok.2.2.1;have nlt: ∀{y},isN N y->y<2^16:=λhy=>by have:=H.isN_lt hy;omega
 have opl:fr.op<2^8:=by rcases hop with h|h|h|h<;>omega
 refine F273.spec ?_;simp only[aE,Nat.zero_add,Nat.add_zero];have nfr:fr.b∉L:=D _ jE;have hlt:=M.lt;obtain⟨q0,q1,-,-,-,q6,q7,-⟩:=bL M.ftop;refine aB q6 (aB q7 (aJ q0 ?_));rw[aL];simp only[aE,Nat.zero_add,Nat.add_zero];refine aB (db M.own).2.2.1 ?_;refine F276.spec ?_;simp only[aE,Nat.zero_add,Nat.add_zero];refine aJ q0 ?_;rw[aL];simp only[aE,Nat.zero_add,Nat.add_zero];refine aJ (db M.own).1 ?_;refine xw H (l:=fr.level) hln hlo htd llo ltd λh1 L1 N1 r e R S1 O1 g1=>⟨_,_,rfl,?_⟩;dsimp only[XL]at R
 have DD: ∀b∈({A with fs:=fl++[fr]}:MA).bl,b∉L1:=λb hb hm=>by
  rcases g1 b hm with h|h
  ·exact D b hb h
  ·have:=hlt b hb;omega
 have M1:=M.only O1 (λb hb hm=>D b hm hb);have ok1:=S1.ok;dsimp only[XL]at ok1;by_cases he:e=0
 ·subst he;have E1:Ex N N1:=(ju (f:=fo) ok.1 ok1.1 hlo htd llo R).1;have S1':=we S1 ok.1 E1;have RR:=hR N1 r E1 R ok1.1;rw[show((((0:Nat):Int)) !=(0:Int))=false from rfl,aD];unfold F276.wk4;refine⟨_,_,rfl,?_⟩;rw[show((((0:Nat):Int))==(0:Int))=true from rfl,aG];obtain⟨p0,p1,p3,p4,p5,-⟩:=bL M1.ftop;refine aJ p0 ?_;rw[aL];simp only[aE,Nat.zero_add,Nat.add_zero];refine aJ (db M1.own).1 (aB p1 ?_);have r3':rd h1 ⟨fr.b,3+Int.toNat (0:Int)*1,none⟩=some (ae (fr.a0:Int)):=p3;have r4':rd h1 ⟨fr.b,3+Int.toNat (1:Int)*1,none⟩=some (ae (fr.a1:Int)):=p4;have r5':rd h1 ⟨fr.b,3+Int.toNat (2:Int)*1,none⟩=some (ae (fr.a2:Int)):=p5;have hr:=S1'.isN_lt RR.is;refine⟨Y,Y,aB r3' ⟨Y,Y,aB r4' ⟨Y,Y,aB r5' ?_⟩⟩⟩;refine vv (mask:=0) S1' opl (by decide) (nlt ha) (nlt hb) (nlt hc) Y ⟨fr.op,0,fr.a0,fr.a1,fr.a2,r,rfl,rfl,by decide,E1.isN ha,E1.isN hb,E1.isN hc,nlt ha,nlt hb,nlt hc,.inl ⟨by rcases hop with h|h|h|h<;>omega,rfl,RR⟩⟩ λh2 S2 O2=>⟨rfl,?_⟩;have M2:=M1.only O2 (λb hb hm=>DD b hm hb);refine aJ (bL M2.ftop).1 (pX M2 Y λh3 fp M3 e3 O3=>⟨rfl,?_⟩);have nm:A.m∉L1:=DD A.m (by simp[MA.bl]);refine hT h3 L1 N1 fp r R RR (S2.only O3 λb hb hm=>by simp only[List.mem_singleton]at hb;subst hb;exact nm hm) M3 e3 ?_ g1;refine((O1.app O2 g1).mono (T:=L++({A with fs:=fl++[fr]}:MA).bl) λx hx _=>List.mem_append.2 (.inl hx)).trans O3 λx hx _=> ?_;simp only[List.mem_singleton]at hx;subst hx;exact List.mem_append.2 (.inr (by simp[MA.bl]))
 ·have hfull:room<=aT N/\e=60/\N1=N:=by
   rcases R with⟨-,-,h,-⟩|⟨-,_,-,-,h,-⟩|⟨-,-,h1,-,h2,h3⟩|⟨-,-,-,h,-⟩
   ·exact absurd h he
   ·exact absurd h he
   ·exact⟨h1,h2,h3⟩
   ·exact absurd h he
  obtain⟨hf1,rfl,rfl⟩:=hfull;rw[show((((60:Nat):Int)) !=(0:Int))=true from rfl,aG];obtain⟨p0,-⟩:=bL M1.ftop;refine aJ p0 (aJ p0 (aJ p0 ?_));rw[aL];simp only[aE,Nat.zero_add,Nat.add_zero];refine aK M1.own (by simp[cy]) rfl λh2 A2 O2 z2=> ?_;rw[aL];simp only[aE,Nat.zero_add,Nat.add_zero];refine aK A2 (by simp[cy]) rfl λh3 A3 O3 z3=> ?_;rw[aL];simp only[aE,Nat.zero_add,Nat.add_zero];refine aK A3 (by simp[cy]) rfl λh4 A4 O4 z4=> ?_;unfold F276.wk4;refine⟨_,_,rfl,?_⟩;rw[show((((60:Nat):Int))==(0:Int))=false from rfl,aD];have O14:aF [A.m] h1 h4:=(O2.trans O3 λb hb _=>hb).trans O4 λb hb _=>hb;have nm:A.m∉L1:=DD A.m (by simp[MA.bl]);refine hE h4 L1 hf1 (S1.only O14 λb hb hm=>by simp only[List.mem_singleton]at hb;subst hb;exact nm hm) ⟨?_,kR.nil _ _,(λf hf=>by cases hf),by simp[MA.bl,aR]⟩ ?_ g1
  ·have e:(((cy s {A with fs:=fl++[fr]}).set 4 (ac ((60:Nat):Int))).set 3 au).set 1 (.slice none 0 0)=cy s {A with fp:=none,fc:=0,fs:=[],done:=true,e:=60}:=by simp[cy]
   rw[<-e];exact A4
  ·refine(O1.mono (T:=L++({A with fs:=fl++[fr]}:MA).bl) λx hx _=>List.mem_append.2 (.inl hx)).trans O14 λx hx _=> ?_;simp only[List.mem_singleton]at hx;subst hx;exact List.mem_append.2 (.inr (by simp[MA.bl]))
end
end
section
def CM(n:Nat)(fo:Nat->Nat)(room:Nat)(G:i4)(N N':aj)(A A':MA):Prop:=
 (A'.done=false/\A'.e=0/\A'.fs≠[]/\fT n fo N' G A'.fs A'.told/\dX n N' A'.fs+1<=dX n N A.fs/\aT N'+fu n N' A'.fs<=aT N+fu n N A.fs)\/
 (A'.done=true/\A'.e=0/\A'.fs=[]/\iS n fo N' G.op G.a0 G.a1 G.a2 A'.told/\aT N'<=aT N+fu n N A.fs)\/
 (A'.done=true/\A'.e=60/\A'.fs=[]/\N'=N/\room<=aT N/\1<=fu n N A.fs)
def rP{room:Nat}{N N':aj}{l a b r:Nat}(R:gU room N l a b N' r 0):aT N'<=aT N+1:=by
 rcases R with⟨-,-,-,e⟩|⟨-,_,-,-,-,e⟩|⟨-,-,-,-,e,-⟩|⟨-,-,-,-,q,-,P⟩
 ·rw[e];omega
 ·rw[e];omega
 ·omega
 ·rw[P.cnt];exact Nat.le_refl _
section
variable {h:aA}{s n room:Nat}{fo gg:Nat->Nat}{off:Bool}{N:aj}{A:MA}{fl:List Fk}{fr:Fk}{K:KK}{L:List Nat}{G:i4}
def tt{N':aj}{r:Nat}{fp:ak}(ok:ey n N)(E:Ex N N')(R:fT n fo N G (fl++[fr]) A.told)(hr:iS n fo N' fr.op fr.a0 fr.a1 fr.a2 r)(he:A.e=0)(hc:aT N'<=aT N+pL n N fr):
  CM n fo room G N N' {A with fs:=fl++[fr]} {A with fp:=fp,fs:=fl,told:=r,done:=fl.isEmpty}:=by
 have R':=R.ext ok E;by_cases hz:fl=[]
 ·subst hz;refine .inr (.inl ⟨rfl,he,rfl,?_,?_⟩)
  ·exact R'.goal hr
  ·show aT N'<=aT N+fu n N ([]++[fr]);rw[eQ];omega
 ·refine .inl ⟨?_,he,hz,R'.pop hr hz,?_,?_⟩
  ·show fl.isEmpty=false;cases fl with
   |nil=>exact absurd rfl hz
   |cons a l=>rfl
  ·show dX n N' fl+1<=dX n N (fl++[fr]);rw[gq,jo (fo:=fo) E λf hf=>R.frs f (by simp[hf])];have:=tn (n:=n) (N:=N) (f:=fr);omega
  ·show aT N'+fu n N' fl<=aT N+fu n N (fl++[fr]);rw[eQ,kY (fo:=fo) E λf hf=>R.frs f (by simp[hf])];omega
def yT(H:cG h s L (XL n room fo gg N off))(M:bX h s {A with fs:=fl++[fr]})(D: ∀b∈({A with fs:=fl++[fr]}:MA).bl,b∉L)(hl:fl.length<100000)(R:fT n fo N G (fl++[fr]) A.told)(he:A.e=0)(hd:A.done=false)
  (hK: ∀h' L' N' A',A'.m=A.m->cG h' s L' (XL n room fo gg N' off)->bX h' s A'->(∀b∈A'.bl,b∉L')->Ex N N'->CM n fo room G N N' {A with fs:=fl++[fr]} A'->A'.fs.length<=fl.length+2->aF (L++({A with fs:=fl++[fr]}:MA).bl) h h'->cj L L' h->(∀b∈A'.bl,b∈({A with fs:=fl++[fr]}:MA).bl\/h.size<=b)->K ax h'):
  gn Tryz.prog X (BO fr.fn fr.b) [] h K:=by
 have ok:=H.ok;dsimp only[XL]at ok;have F:=R.frs fr Z;obtain⟨a0,a1,a2⟩:=F.a;have hlt:=M.lt;have zL:=H.lt;rcases F.fn with e|⟨e|e,lm,-⟩
 ·unfold BO;rw[e];refine bz CG (vu H M D hl F.op a0 a1 a2 (λh' fp r OR S' M' ep O=> ?_) λh' l b fp fc el hln hb S' M' g O=> ?_)
  ·have sub: ∀x∈({A with fp:=fp,fs:=fl,told:=r,done:=fl.isEmpty}:MA).bl,x∈({A with fs:=fl++[fr]}:MA).bl:=λx hx=>by
    simp only[MA.bl,List.mem_cons,List.mem_append,List.map_append]at hx ⊢;rw[ep]at hx;rcases hx with h|h|h
    ·exact .inl h
    ·exact .inr (.inl h)
    ·exact .inr (.inr (.inl h))
   exact hK h' L N {A with fp:=fp,fs:=fl,told:=r,done:=fl.isEmpty} rfl S' M' (λx hx=>D x (sub x hx)) (Ex.refl _) (tt ok.1 (Ex.refl _) R OR he Y) (by show fl.length<=_;omega) O (cj.refl _ _) λx hx=> .inl (sub x hx)
  ·have em:gF n N fr=l:=by unfold gF;exact el.symm
   have k0:l<=lvl n N fr.a0:=Y;have k1:l<=lvl n N fr.a1:=Y;have k2:l<=lvl n N fr.a2:=Y;have c0:=fO (side:=false) ok.1 a0 k0 hln;have c1:=fO (side:=false) ok.1 a1 k1 hln;have c2:=fO (side:=false) ok.1 a2 k2 hln;have Fr':eO n fo N {fr with level:=l,fn:=225}:=⟨F.op,F.a,.inr ⟨.inl rfl,em.symm,hln⟩,λe=>(by cases e),F.lw⟩;have Fg:eO n fo N ⟨b,fr.op,0,ch n N l false fr.a0,ch n N l false fr.a1,ch n N l false fr.a2,0,0,180⟩:=⟨F.op,⟨c0.1,c1.1,c2.1⟩,.inl rfl,λe=>(by cases e),.inl (show 0<2 by omega)⟩;have R':=R.push (fr':={fr with level:=l,fn:=225}) (g:=⟨b,fr.op,0,ch n N l false fr.a0,ch n N l false fr.a1,ch n N l false fr.a2,0,0,180⟩) ⟨rfl,rfl,rfl,rfl⟩ Fr' Fg ⟨rfl,.inl ⟨rfl,rfl,rfl,rfl⟩⟩ rfl
   have mg:l+1<=gF n N ⟨b,fr.op,0,ch n N l false fr.a0,ch n N l false fr.a1,ch n N l false fr.a2,0,0,180⟩:=by unfold gF;have:=c0.2;have:=c1.2;have:=c2.2;dsimp only;omega
   have sp:=v7 (n:=n) (N:=N) (fr:=fr) (fr':={fr with level:=l,fn:=225}) (g:=⟨b,fr.op,0,ch n N l false fr.a0,ch n N l false fr.a1,ch n N l false fr.a2,0,0,180⟩) Y rfl Y e rfl em.symm
   have sub: ∀x∈({A with fp:=fp,fc:=fc,fs:=fl++[{fr with level:=l,fn:=225}]++[⟨b,fr.op,0,ch n N l false fr.a0,ch n N l false fr.a1,ch n N l false fr.a2,0,0,180⟩]}:MA).bl,x∈({A with fs:=fl++[fr]}:MA).bl\/h.size<=x:=λx hx=>by
    simp only[MA.bl,List.mem_cons,List.mem_append,List.map_append,List.map_cons,List.map_nil,List.not_mem_nil,or_false]at hx ⊢;rcases hx with h|h|(h|h)|h
    ·exact .inl (.inl h)
    ·exact(g x h).imp (λh=> .inr (.inl h)) id
    ·exact .inl (.inr (.inr (.inl h)))
    ·exact .inl (.inr (.inr (.inr h)))
    ·exact .inr Y
   refine hK h' L N {A with fp:=fp,fc:=fc,fs:=fl++[{fr with level:=l,fn:=225}]++[⟨b,fr.op,0,ch n N l false fr.a0,ch n N l false fr.a1,ch n N l false fr.a2,0,0,180⟩]} rfl S' M' (λx hx hm=> ?_) (Ex.refl _) (.inl ⟨hd,he,Z,R',?_,?_⟩) Z O (cj.refl _ _) sub
   ·rcases sub x hx with h|h
    ·exact D x h hm
    ·have:=zL x hm;omega
   ·dsimp only;rw[gq,gq,gq];omega
   ·dsimp only;rw[eQ,eQ,eQ];omega
 ·obtain⟨l1,l2,l3,l4⟩:=F.lev (.inl e);unfold BO;rw[e]
  have W:iS n fo N fr.op (ch n N fr.level false fr.a0) (ch n N fr.level false fr.a1) (ch n N fr.level false fr.a2) A.told:=by
   rcases R.top fl fr rfl with h|⟨-,h⟩|⟨h,-⟩
   ·omega
   ·exact h
   ·omega
  refine bz Dv (oE H M D hl a0 a1 a2 λh' b fp fc hb S' M' g O=> ?_);have c0:=fO (side:=true) ok.1 a0 l2 l1;have c1:=fO (side:=true) ok.1 a1 l3 l1;have c2:=fO (side:=true) ok.1 a2 l4 l1;have Fr':eO n fo N {fr with low:=A.told,fn:=273}:=⟨F.op,F.a,.inr ⟨.inr rfl,lm,l1⟩,λ_=>W,R.tld⟩;have Fg:eO n fo N ⟨b,fr.op,0,ch n N fr.level true fr.a0,ch n N fr.level true fr.a1,ch n N fr.level true fr.a2,0,0,180⟩:=⟨F.op,⟨c0.1,c1.1,c2.1⟩,.inl rfl,λe=>(by cases e),.inl (show 0<2 by omega)⟩;have R':=R.push (fr':={fr with low:=A.told,fn:=273}) (g:=⟨b,fr.op,0,ch n N fr.level true fr.a0,ch n N fr.level true fr.a1,ch n N fr.level true fr.a2,0,0,180⟩) ⟨rfl,rfl,rfl,rfl⟩ Fr' Fg ⟨rfl,.inr ⟨rfl,rfl,rfl,rfl⟩⟩ rfl
  have mg:fr.level+1<=gF n N ⟨b,fr.op,0,ch n N fr.level true fr.a0,ch n N fr.level true fr.a1,ch n N fr.level true fr.a2,0,0,180⟩:=by unfold gF;have:=c0.2;have:=c1.2;have:=c2.2;dsimp only;omega
  have sp:=yc (n:=n) (N:=N) (fr:=fr) (fr':={fr with low:=A.told,fn:=273}) (g:=⟨b,fr.op,0,ch n N fr.level true fr.a0,ch n N fr.level true fr.a1,ch n N fr.level true fr.a2,0,0,180⟩) l1 rfl mg e rfl
  have sub: ∀x∈({A with fp:=fp,fc:=fc,fs:=fl++[{fr with low:=A.told,fn:=273}]++[⟨b,fr.op,0,ch n N fr.level true fr.a0,ch n N fr.level true fr.a1,ch n N fr.level true fr.a2,0,0,180⟩]}:MA).bl,x∈({A with fs:=fl++[fr]}:MA).bl\/h.size<=x:=λx hx=>by
   simp only[MA.bl,List.mem_cons,List.mem_append,List.map_append,List.map_cons,List.map_nil,List.not_mem_nil,or_false]at hx ⊢;rcases hx with h|h|(h|h)|h
   ·exact .inl (.inl h)
   ·exact(g x h).imp (λh=> .inr (.inl h)) id
   ·exact .inl (.inr (.inr (.inl h)))
   ·exact .inl (.inr (.inr (.inr h)))
   ·exact .inr Y
  refine hK h' L N {A with fp:=fp,fc:=fc,fs:=fl++[{fr with low:=A.told,fn:=273}]++[⟨b,fr.op,0,ch n N fr.level true fr.a0,ch n N fr.level true fr.a1,ch n N fr.level true fr.a2,0,0,180⟩]} rfl S' M' (λx hx hm=> ?_) (Ex.refl _) (.inl ⟨hd,he,Z,R',?_,?_⟩) Z O (cj.refl _ _) sub
  ·rcases sub x hx with h|h
   ·exact D x h hm
   ·have:=zL x hm;omega
  ·dsimp only;rw[gq,gq,gq];omega
  ·dsimp only;rw[eQ,eQ,eQ];omega
 ·obtain⟨l1,l2,l3,l4⟩:=F.lev (.inr e);unfold BO;rw[e]
  have W:iS n fo N fr.op (ch n N fr.level true fr.a0) (ch n N fr.level true fr.a1) (ch n N fr.level true fr.a2) A.told:=by
   rcases R.top fl fr rfl with h|⟨h,-⟩|⟨-,h⟩
   ·omega
   ·omega
   ·exact h
  have V:=F.low e;have c0:=fO (side:=false) ok.1 a0 l2 l1;have c1:=fO (side:=false) ok.1 a1 l3 l1;have c2:=fO (side:=false) ok.1 a2 l4 l1;have d0:=fO (side:=true) ok.1 a0 l2 l1;have d1:=fO (side:=true) ok.1 a1 l3 l1;have d2:=fO (side:=true) ok.1 a2 l4 l1;have llo:fr.level<lvl n N fr.low:=V.lv (fr.level+1) c0.2 c1.2 c2.2;have ltd:fr.level<lvl n N A.told:=W.lv (fr.level+1) d0.2 d1.2 d2.2;have f1:pL n N fr=1:=(sB e).2;refine bz Dk (oQ H M D hl F.op a0 a1 a2 l1 V.is W.is llo ltd (λN' r E Rk ok'=> ?_) (λh' L' N' fp r Rk OR S' M' ep O g=> ?_) λh' L' hf S' M' O g=> ?_)
  ·obtain⟨m1,m2,m3,m4⟩:=ju (f:=fo) ok.1 ok' V.is W.is llo Rk;refine⟨m2,λk' k1 k2 k3=> ?_,λx=> ?_⟩
   ·rw[m1.lvl a0]at k1;rw[m1.lvl a1]at k2;rw[m1.lvl a2]at k3
    have:k'<=fr.level:=by rw[lm];unfold gF;have:=rX ok.1 a0;omega
    omega
   ·rw[m4 x,m1.sm ok.1 a0,m1.sm ok.1 a1,m1.sm ok.1 a2,xD ok.1 a0 l1,xD (a:=fr.a1) ok.1 a1 l1,xD (a:=fr.a2) ok.1 a2 l1,V.sm,W.sm];split<;>rfl
  ·have E:Ex N N':=by
    have ok':=S'.ok.1;dsimp only[XL]at ok';exact(ju (f:=fo) ok.1 ok' V.is W.is llo Rk).1
   have sub: ∀x∈({A with fp:=fp,fs:=fl,told:=r,done:=fl.isEmpty}:MA).bl,x∈({A with fs:=fl++[fr]}:MA).bl:=λx hx=>by
    simp only[MA.bl,List.mem_cons,List.mem_append,List.map_append]at hx ⊢;rw[ep]at hx;rcases hx with h|h|h
    ·exact .inl h
    ·exact .inr (.inl h)
    ·exact .inr (.inr (.inl h))
   refine hK h' L' N' {A with fp:=fp,fs:=fl,told:=r,done:=fl.isEmpty} rfl S' M' (λx hx hm=> ?_) E (tt ok.1 E R OR he (by rw[f1];exact rP Rk)) (by show fl.length<=_;omega) O g λx hx=> .inl (sub x hx);rcases g x hm with h|h
   ·exact D x (sub x hx) h
   ·have:=hlt x (sub x hx);omega
  ·have sub: ∀x∈({A with fp:=none,fc:=0,fs:=[],done:=true,e:=60}:MA).bl,x∈({A with fs:=fl++[fr]}:MA).bl:=λx hx=>by
    simp only[MA.bl,aR,List.map_nil,List.append_nil,List.mem_singleton]at hx;simp[MA.bl,hx]
   refine hK h' L' N {A with fp:=none,fc:=0,fs:=[],done:=true,e:=60} rfl S' M' (λx hx hm=> ?_) (Ex.refl _) (.inr (.inr ⟨rfl,rfl,rfl,rfl,hf,?_⟩)) (by show 0<=_;omega) O g λx hx=> .inl (sub x hx)
   ·rcases g x hm with h|h
    ·exact D x (sub x hx) h
    ·have:=hlt x (sub x hx);omega
   ·show 1<=fu n N (fl++[fr]);rw[eQ];omega
end
end
section
def ng(n:Nat)(fo:Nat->Nat)(N:aj)(G:i4)(A:MA):Prop:=
 (A.done=false/\A.e=0/\A.fs≠[]/\fT n fo N G A.fs A.told)\/(A.done=true/\A.e=0/\A.fs=[]/\iS n fo N G.op G.a0 G.a1 G.a2 A.told)\/(A.done=true/\A.e=60/\A.fs=[])
def gu{n:Nat}{N:aj}: ∀fs:List Fk,fs.length<=dX n N fs
 | []=>by simp[dX]
 |f::fs=>by have ih:=gu (n:=n) (N:=N) fs;have:=tn (n:=n) (N:=N) (f:=f);simp only[dX,List.map_cons,List.sum_cons,List.length_cons]at ih ⊢;omega
section
variable {h:aA}{s n room:Nat}{fo gg:Nat->Nat}{off:Bool}{N:aj}{A:MA}{K:KK}{L:List Nat}{G:i4}
def ng.run(M:ng n fo N G A)(h:A.done=false):A.e=0/\A.fs≠[]/\fT n fo N G A.fs A.told:=by
 rcases M with⟨-,h1⟩|⟨h1,-⟩|⟨h1,-⟩
 ·exact h1
 ·rw[h1]at h;cases h
 ·rw[h1]at h;cases h
def tV{B0 B1 B2:List Nat}{z0 z1:Nat}(a: ∀b∈B1,b∈B0\/z0<=b)(b: ∀b∈B2,b∈B1\/z1<=b)(hz:z0<=z1): ∀x∈B2,x∈B0\/z0<=x:=λx hx=>by
 rcases b x hx with h|h
 ·exact a x h
 ·exact .inr Y
def yi(H:cG h s L (XL n room fo gg N off))(M:bX h s A)(D: ∀b∈A.bl,b∉L)(hm:dX n N A.fs<=90000)(R:ng n fo N G A)(hd:A.done=false)
  (hK: ∀h' L' N' A',A'.m=A.m->cG h' s L' (XL n room fo gg N' off)->bX h' s A'->(∀b∈A'.bl,b∉L')->Ex N N'->ng n fo N' G A'->dX n N' A'.fs+1<=dX n N A.fs->aT N'+fu n N' A'.fs<=aT N+fu n N A.fs->(A'.e=60->room+1<=aT N+fu n N A.fs)->
   aF (L++A.bl) h h'->cj L L' h->(∀b∈A'.bl,b∈A.bl\/h.size<=b)->K (aw A'.done) h'):
  Cl 114 [aX A.m] h K:=by
 refine F114.spec _ h K ?_;simp only[aE,Nat.zero_add];refine aJ (db M.own).1 (jG H (aB rfl ?_));unfold F114.wk2
 have main: ∀(d:Nat) (h1:aA) (L1:List Nat) (N1:aj) (A1:MA),dX n N1 A1.fs<=d->A1.m=A.m->cG h1 s L1 (XL n room fo gg N1 off)->bX h1 s A1->(∀b∈A1.bl,b∉L1)->Ex N N1->ng n fo N1 G A1->
   (dX n N1 A1.fs+1<=dX n N A.fs\/(dX n N1 A1.fs<=dX n N A.fs/\aT N1=aT N/\A1.done=false))->aT N1+fu n N1 A1.fs<=aT N+fu n N A.fs->(A1.e=60->room+1<=aT N+fu n N A.fs)->
   aF (L++A.bl) h h1->cj L L1 h->(∀b∈A1.bl,b∈A.bl\/h.size<=b)->F114.wL2 (d+1) (ah A.m) (aT N:Int) h1 K:=by
  intro d
  induction d with
  |zero=>
   intro h1 L1 N1 A1 hd1 em S1 M1 D1 E1 R1 P1 C1 F1 O1 g1 s1;have hz:A1.fs=[]:=List.eq_nil_of_length_eq_zero (by have:=gu (n:=n) (N:=N1) A1.fs;omega)
   have hdn:A1.done=true:=by
    rcases R1 with⟨-,-,h,-⟩|⟨h,-⟩|⟨h,-⟩
    ·exact absurd hz h
    ·exact h
    ·exact h
   have rm:=db M1.own;rw[em]at rm;rw[F114.sL2];simp only[aE,Nat.zero_add];refine aQ rm.2.2.2.1 ?_;rw[hdn,Bool.not_true,aD];unfold F114.wk4;simp only[aE,Nat.zero_add];refine aQ rm.2.2.2.1 (hK h1 L1 N1 A1 em S1 M1 D1 E1 R1 ?_ C1 F1 O1 g1 s1);rcases P1 with h|⟨-,-,h⟩
   ·exact h
   ·rw[hdn]at h;cases h
  |succ d ih=>
   intro h1 L1 N1 A1 hd1 em S1 M1 D1 E1 R1 P1 C1 F1 O1 g1 s1;have rm:=db M1.own;rw[em]at rm;rw[F114.sL2];simp only[aE,Nat.zero_add];refine aQ rm.2.2.2.1 (aH (λhn=> ?_) λhn=> ?_)
   ·have hn:A1.done=false:=by simpa using hn
    refine aJ rm.1 (jG S1 (aB rfl ?_));dsimp only[XL];rw[dP];refine aH (λe=> ?_) λe=> ?_
    ·have e:=of_decide_eq_true e;obtain⟨he,hne,RR⟩:=R1.run hn;obtain⟨fl,fr,hfs⟩: ∃fl fr,A1.fs=fl++[fr]:=⟨A1.fs.dropLast,A1.fs.getLast hne,(List.dropLast_concat_getLast hne).symm⟩;have eA:A1={A1 with fs:=fl++[fr]}:=by rw[<-hfs]
     have hlen:A1.fs.length=fl.length+1:=by rw[hfs];simp
     have hml:A1.fs.length<=dX n N1 A1.fs:=gu _;have hmb:dX n N1 A1.fs<=dX n N A.fs:=Y;rw[hlen]at rm;refine bj rm.2.1 (bj rm.2.1 ?_);have W:kR h1 0 A1.fp A1.fs.length A1.fc (A1.fs.map λf=>aX f.b):=M1.win;obtain⟨ad,ep,rr⟩:=W.rd (j:=fl.length) (by simp;omega);have e1:ai (((fl.length+1:Nat):Int)-1)=(fl.length:Int):=by rw[wrap_i64 Y Y];omega
     rw[ep,aL,e1];refine⟨Y,Y,?_⟩;rw[Int.toNat_natCast,Nat.mul_one,rr];refine aJ (n:=some (ah fr.b)) (by rw[hfs];simp[aX]) ?_;rw[aL];simp only[aE,Nat.zero_add];have F1':At h1 fr.b (gP A1.m fr):=M1.frm fr (by rw[hfs];simp);rw[(bL F1').2.2.2.2.2.2.2,qT];rw[hfs]at RR;rw[eA]at M1 D1;refine yT S1 M1 D1 Y RR he hn λh2 L2 N2 A2 em2 S2 M2 D2 E2 R2 hl2 O2 g2 s2=>⟨rfl,?_⟩;rw[<-eA]at O2 s2 R2
     have hO:aF (L++A.bl) h h2:=O1.trans O2 λb hb hlt=>by
      rcases List.mem_append.1 hb with h|h
      ·rcases g1 b h with h|h
       ·exact List.mem_append.2 (.inl h)
       ·omega
      ·rcases s1 b h with h|h
       ·exact List.mem_append.2 (.inr h)
       ·omega
     have key:ng n fo N2 G A2/\dX n N2 A2.fs+1<=dX n N1 A1.fs/\aT N2+fu n N2 A2.fs<=aT N1+fu n N1 A1.fs/\(A2.e=60->room+1<=aT N1+fu n N1 A1.fs):=by
      rcases R2 with⟨q1,q2,q3,q4,q5,q6⟩|⟨q1,q2,q3,q4,q5⟩|⟨q1,q2,q3,q4,q5,q6⟩
      ·exact⟨.inl ⟨q1,q2,q3,q4⟩,q5,q6,λh=>Y⟩
      ·refine⟨.inr (.inl ⟨q1,q2,q3,q4⟩),?_,?_,λh=>Y⟩
       ·rw[q3];simp[dX];simp[dX]at hml;omega
       ·rw[q3];simpa[fu]using q5
      ·refine⟨.inr (.inr ⟨q1,q2,q3⟩),?_,?_,λ_=>Y⟩
       ·rw[q3];simp[dX];simp[dX]at hml;omega
       ·rw[q3,q4];simp[fu]
     obtain⟨k1,k2,k3,k4⟩:=key;have hz1:=O1.size;refine ih h2 L2 N2 A2 Y (em2.trans em) S2 M2 D2 (E1.trans E2) k1 (.inl Y) Y (λh=>by have:=k4 h;omega) hO (g1.trans g2 hz1) (tV s1 s2 hz1)
    ·have e:=of_decide_eq_false e;unfold F114.wk4;simp only[aE,Nat.zero_add];refine aQ rm.2.2.2.1 (hK h1 L1 N1 A1 em S1 M1 D1 E1 R1 ?_ C1 F1 O1 g1 s1);rcases P1 with h|⟨-,h,-⟩
     ·exact h
     ·exact absurd h e
   ·have hn:A1.done=true:=by simpa using hn
    unfold F114.wk4;simp only[aE,Nat.zero_add];refine aQ rm.2.2.2.1 (hK h1 L1 N1 A1 em S1 M1 D1 E1 R1 ?_ C1 F1 O1 g1 s1);rcases P1 with h|⟨-,-,h⟩
    ·exact h
    ·rw[hn]at h;cases h
 refine⟨_,main (dX n N A.fs) h L N A (Nat.le_refl _) rfl H M D (Ex.refl _) R (.inr ⟨Nat.le_refl _,rfl,hd⟩) (Nat.le_refl _) (λh=> ?_) (aF.refl _ _) (cj.refl _ _) λb hb=> .inl hb⟩;have:=(R.run hd).1;omega
def Br(M:bX h s A)(hK:K (aw A.done) h):Cl 95 [aX A.m] h K:=by refine F95.spec ?_;simp only[aE,Nat.zero_add];exact aQ (db M.own).2.2.2.1 hK
def wW(M:bX h s A)(hK:K (.tuple #[ae (if A.done=true/\A.e=0 then(A.told:Int)else 0),ac (if A.done=true then(A.e:Int)else 61)]) h):Cl 94 [aX A.m] h K:=by
 refine F94.spec ?_;simp only[aE,Nat.zero_add];have rm:=db M.own;refine aQ rm.2.2.2.1 (aH (λe=> ?_) λe=>aB rm.2.2.2.2 ?_)
 ·have e:A.done=false:=by simpa using e
  rw[if_neg (by rw[e];simp),if_neg (by rw[e];simp)]at hK;exact hK
 ·have e:A.done=true:=by simpa using e
  rw[show((A.e:Int) !=(0:Int))= !decide (A.e=0) by rw[show(0:Int)=((0:Nat):Int)from rfl,<-dP];rfl];by_cases h0:A.e=0
  ·rw[decide_eq_true h0,Bool.not_true,aD];rw[if_pos ⟨e,h0⟩,if_pos e,h0]at hK;exact aB rm.2.2.1 hK
  ·rw[decide_eq_false h0,Bool.not_false,aG];rw[if_neg (λh=>h0 h.2),if_pos e]at hK;exact aB rm.2.2.2.2 hK
end
end
section
def cA(x:Int):Int:=if x=1\/x=6\/x=7 then 1 else if x=2\/x=3\/x=4\/x=8\/x=9\/x=10 then 2 else if x=5 then 3 else 0
def jh{x y:Int}(h:x≠y):(x==y)=false:=by simp[h]
def qs{h:aA}{x:Int}{K:KK}(hK:K (ac (cA x)) h):Cl 134 [ac x] h K:=by
 refine F134.spec ?_;unfold cA at hK;by_cases h1:x=1
 ·subst h1;exact hK
 by_cases h2:x=2
 ·subst h2;exact hK
 by_cases h3:x=3
 ·subst h3;exact hK
 by_cases h4:x=4
 ·subst h4;exact hK
 by_cases h5:x=5
 ·subst h5;exact hK
 by_cases h6:x=6
 ·subst h6;exact hK
 by_cases h7:x=7
 ·subst h7;exact hK
 by_cases h8:x=8
 ·subst h8;exact hK
 by_cases h9:x=9
 ·subst h9;exact hK
 by_cases h10:x=10
 ·subst h10;exact hK
 rw[if_neg Y,if_neg Y,if_neg h5]at hK;simp only[jh h1,jh h2,jh h3,jh h4,jh h5,jh h6,jh h7,jh h8,jh h9,jh h10,aD];exact hK
def Ae(op:Int)(a b c:Nat)(mask:Int):Value:= .agg #[ac op,ae (a:Int),ae (b:Int),ae (c:Int),.int .u8 mask]
section
variable {h:aA}{s n room a b c op:Nat}{mask:Int}{fo gg:Nat->Nat}{off:Bool}{N:aj}{K:KK}{L:List Nat}{X:SX}
def oX(H:cG h s L X)(hop:op=1\/op=2\/op=3\/op=4\/op=5)(ha:isN X.N a)(hb:op≠1->isN X.N b)(hc:op=5->isN X.N c)(hK: ∀h',aF [] h h'->K (ac 0) h'):
  Cl 133 [aX s,Ae (op:Int) a b c mask] h K:=by
 refine F133.spec _ _ _ _ _ _ h K ?_;refine aM λh1 A1 O1 z1=> ?_;simp only[aE,Nat.zero_add];have r: ∀k,rd h1 ⟨h.size,k,none⟩=([ac (op:Int),ae (a:Int),ae (b:Int),ae (c:Int),.int .u8 mask]:List Value)[k]? :=λk=>At.rd A1 k;refine aB (by rw[r];rfl) (qs (aB rfl ?_))
 obtain⟨t,ht,ht1,ht3,htb,htc⟩: ∃t:Nat,cA (op:Int)=(t:Int)/\1<=t/\t<=3/\(2<=t->op≠1)/\(3<=t->op=5):=by
  rcases hop with e|e|e|e|e<;>subst e
  ·exact⟨1,rfl,Y⟩
  ·exact⟨2,rfl,Y⟩
  ·exact⟨2,rfl,Y⟩
  ·exact⟨2,rfl,Y⟩
  ·exact⟨3,rfl,Y⟩
 rw[ht,show((t:Int)==(0:Int))=false by simp;omega,aD];refine aB (by rw[r];rfl) (aB (by rw[r];rfl) (aB (by rw[r];rfl) ?_));refine aM λh2 A2 O2 z2=>⟨Y,Y,?_⟩;have H2:=(H.only0 O1).only0 O2;have A12:=A1.only O2 Z;have r2: ∀k,rd h2 ⟨h.size,k,none⟩=([ac (op:Int),ae (a:Int),ae (b:Int),ae (c:Int),.int .u8 mask]:List Value)[k]? :=λk=>At.rd A12 k;have l2: ∀k,rd h2 ⟨h1.size,k,none⟩=([ae (a:Int),ae (b:Int),ae (c:Int)]:List Value)[k]? :=λk=>At.rd A2 k;have ep:(if 3=0 then(some (ah h1.size))else Option.map (λa=>Addr.add a (0*1)) (some (ah h1.size)))=some (ah h1.size):=by simp[Addr.add]
 rw[ep,show Int.toNat (t:Int)-0=t by omega];unfold F133.wk5
 have main: ∀(d i:Nat),i+d=t->F133.wL5 (d+1) (ah s) (ah h.size) (some (ah h1.size)) t (3-0) (t:Int) (i:Int) h2 K:=by
  intro d
  induction d with
  |zero=>
   intro i hi;rw[F133.sL5];rw[decide_eq_false Y,aD];unfold F133.wk10;simp only[aE,Nat.zero_add];refine aB (n:=(op:Int)) (by rw[r2];rfl) ?_;have:=hK h2 (O1.trans O2 Z);rcases hop with e|e|e|e|e<;>subst e<;>exact this
  |succ d ih=>
   intro i hi;rw[F133.sL5];rw[decide_eq_true Y,aG,aL];refine⟨Y,Y,?_⟩;have ew:ai ((i:Int)+1)=((i+1:Nat):Int):=by rw[wrap_i64 Y Y];omega
   rw[ew,aE,Nat.zero_add,Int.toNat_natCast,Nat.mul_one,l2]
   have go: ∀y,isN X.N y->([ae (a:Int),ae (b:Int),ae (c:Int)]:List Value)[i]? =some (ae (y:Int))->aI .u32 (([ae (a:Int),ae (b:Int),ae (c:Int)]:List Value)[i]?) λn2=>Cl 74 [ag (ah s),ae n2] h2 λv3 h4=>bA (some v3) λb5=>aC (!b5) (K (ac 101) h4) (F133.wL5 (d+1) (ah s) (ah h.size) (some (ah h1.size)) t (3-0) (t:Int) ((i+1:Nat):Int) h4 K):=λy hy e=>by refine aB e (eK H2 hy (aQ rfl ?_));rw[Bool.not_true,aD];exact ih (i+1) Y
   have:i=0\/i=1\/i=2:=Y;rcases this with e|e|e
   ·subst e;exact go a ha rfl
   ·subst e;exact go b (hb (htb Y)) rfl
   ·subst e;exact go c (hc (htc Y)) rfl
 exact⟨_,main t 0 Y⟩
def cQ(op a b c:Nat):i4:=if op=1 then⟨4,1,a,0⟩else if op=5 then⟨5,a,b,c⟩else⟨op,a,b,0⟩
set_option maxRecDepth 100000 in
def Dj{mask:Nat}(hmask:mask<256)(H:cG h s L (XL n room fo gg N off))(hop:op=1\/op=2\/op=3\/op=4\/op=5)(ha:isN N a)(hb:op≠1->isN N b)(hc:op=5->isN N c)
  (hK: ∀h' A f,bX h' s A->(∀x∈A.bl,h.size<=x)->A.fs=[f]->f.fn=180->f.low=0->f.op=(cQ op a b c).op->f.a0=(cQ op a b c).a0->f.a1=(cQ op a b c).a1->f.a2=(cQ op a b c).a2->A.told=0->A.done=false->A.e=0->aF [] h h'->K (.tuple #[aX A.m,ac 0]) h'):
  Cl 91 [aX s,Ae (op:Int) a b c (mask:Int)] h K:=by
 refine F91.spec _ _ _ _ _ _ h K ?_;refine aM λh1 A1 O1 z1=> ?_;simp only[aE,Nat.zero_add];have r: ∀k,rd h1 ⟨h.size,k,none⟩=([ac (op:Int),ae (a:Int),ae (b:Int),ae (c:Int),.int .u8 (mask:Int)]:List Value)[k]? :=λk=>At.rd A1 k;refine aB (by rw[r];rfl) (aB (by rw[r];rfl) (aB (by rw[r];rfl) (aB (by rw[r];rfl) (aB (by rw[r];rfl) ?_))));refine oX (H.only0 O1) hop ha hb hc λh2 O2=>aB rfl ?_;rw[show((0:Int) !=(0:Int))=false from rfl,aD];refine aM λh3 A3 O3 z3=> ?_;have B3:=(A1.only O2 Z).only O3 Z;have r3: ∀k,rd h3 ⟨h.size,k,none⟩=([ac (op:Int),ae (a:Int),ae (b:Int),ae (c:Int),.int .u8 (mask:Int)]:List Value)[k]? :=λk=>At.rd B3 k;refine aB (by rw[r3];rfl) (aB (by rw[r3];rfl) (aB (by rw[r3];rfl) ?_));refine aM λh4 A4 O4 z4=>aK A4 Z rfl λh5 A5 O5 z5=>aK A5 Z rfl λh6 A6 O6 z6=>aK A6 Z rfl λh7 A7 O7 z7=> ?_;have A7:At h7 h3.size [ae (a:Int),ae (b:Int),ae (c:Int)]:=A7;have z12:=O2.size;have O37:aF [h3.size] h3 h7:=((O4.mono (T:=[h3.size]) Z).trans O5 λb hb _=>hb).trans O6 (λb hb _=>hb)|>.trans O7 λb hb _=>hb;have B7:=B3.only O37 (by simp;omega);have M7:At h7 h2.size (cy s ⟨h2.size,none,0,[],0,false,0⟩):=At.only (show At h3 h2.size (cy s ⟨h2.size,none,0,[],0,false,0⟩)from A3) O37 (by simp;omega);refine aB (n:=(op:Int)) (by rw[At.rd B7];rfl) (qs (aB rfl ?_));unfold F91.wk7
 have rest: ∀(h8:aA) (a' b' c':Nat),At h8 h.size [ac (op:Int),ae (a:Int),ae (b:Int),ae (c:Int),.int .u8 (mask:Int)]->At h8 h3.size [ae (a':Int),ae (b':Int),ae (c':Int)]->At h8 h2.size (cy s ⟨h2.size,none,0,[],0,false,0⟩)->aF [] h h8->
   (if op=1 then(⟨4,1,a,0⟩:i4)else⟨op,a',b',c'⟩)=cQ op a b c->F91.wk10 (ah h.size) (ah h2.size) (ah h3.size) h8 K:=by
  intro h8 a' b' c' B8 A8 M8 O8 hG;unfold F91.wk10;simp only[aE,Nat.zero_add];have r8: ∀k,rd h8 ⟨h.size,k,none⟩=([ac (op:Int),ae (a:Int),ae (b:Int),ae (c:Int),.int .u8 (mask:Int)]:List Value)[k]? :=λk=>At.rd B8 k;have q8: ∀k,rd h8 ⟨h3.size,k,none⟩=([ae (a':Int),ae (b':Int),ae (c':Int)]:List Value)[k]? :=λk=>At.rd A8 k;refine aB (by rw[r8];rfl) (aB (by rw[r8];rfl) (aB (by rw[q8];rfl) (aB (by rw[q8];rfl) (aB (by rw[q8];rfl) ?_))));have op8:IntKind.wrap .u8 (op:Int)=(op:Int):=m9 Y;rw[op8];have MI:bX h8 s ⟨h2.size,none,0,[],0,false,0⟩:=⟨M8,kR.nil _ _,(λf hf=>by cases hf),by simp[MA.bl,aR]⟩;refine mK (A:=⟨h2.size,none,0,[],0,false,0⟩) MI Z λh9 f fp fc hf M9 O9 g9=>aJ rfl ?_;obtain⟨bb,rfl,hb9⟩:=hf;have z08:=O8.size;have lB:=B8.lt;have lM:=M8.lt;have O9':aF [h2.size] h8 h9:=O9;have B9:=B8.only O9' (by simp;omega);have O09:aF [] h h9:=O8.trans O9' (by intro x hx hl;simp at hx;omega);have r9: ∀k,rd h9 ⟨h.size,k,none⟩=([ac (op:Int),ae (a:Int),ae (b:Int),ae (c:Int),.int .u8 (mask:Int)]:List Value)[k]? :=λk=>At.rd B9 k;refine aB (by rw[r9];rfl) ?_
  have blk: ∀(f:Fk),f.b=bb-> ∀x∈({m:=h2.size,fp:=fp,fc:=fc,fs:=[]++[f],told:=0,done:=false,e:=0}:MA).bl,h.size<=x:=λf hf x hx=>by
   simp only[MA.bl,List.mem_cons,List.mem_append,List.map_append,List.map_cons,List.map_nil,List.not_mem_nil,or_false,false_or,List.nil_append]at hx;rcases hx with h|h|h
   ·omega
   ·rcases g9 x h with h|h
    ·simp[aR]at h
    ·omega
   ·omega
  by_cases h1:op=1
  ·subst h1;rw[show((((1:Nat):Int))==(1:Int))=true from rfl,aG];refine aB (by rw[r9];rfl) ?_;rw[aL];simp only[aE,Nat.zero_add];refine bX.top (A:=⟨h2.size,fp,fc,[],0,false,0⟩) (fl:=[]) (f':=⟨bb,4,mask,a',b',c',0,0,180⟩) M9 (by decide) rfl rfl rfl λh10 M10 O10=> ?_;have nb:h.size≠bb:=Y;have B10:=B9.only O10 (by simp;omega);refine⟨by trivial,by trivial,aB (n:=(a:Int)) (by rw[At.rd B10];rfl) ⟨by trivial,by trivial,?_⟩⟩;rw[aL];simp only[aE,Nat.zero_add];refine bX.top (A:=⟨h2.size,fp,fc,[],0,false,0⟩) (fl:=[]) (f':=⟨bb,4,mask,1,b',c',0,0,180⟩) M10 (by decide) rfl rfl rfl λh11 M11 O11=> ?_;refine bX.top (A:=⟨h2.size,fp,fc,[],0,false,0⟩) (fl:=[]) (f':=⟨bb,4,mask,1,a,c',0,0,180⟩) M11 (by decide) rfl rfl rfl λh12 M12 O12=> ?_;refine bX.top (A:=⟨h2.size,fp,fc,[],0,false,0⟩) (fl:=[]) (f':=⟨bb,4,mask,1,a,0,0,0,180⟩) M12 (by decide) rfl rfl rfl λh13 M13 O13=> ?_;have OO:aF [bb] h9 h13:=((O10.trans O11 λb hb _=>hb).trans O12 λb hb _=>hb).trans O13 λb hb _=>hb;exact hK h13 _ ⟨bb,4,mask,1,a,0,0,0,180⟩ M13 (blk _ rfl) rfl rfl rfl rfl rfl rfl rfl rfl rfl rfl (O09.trans OO (by intro x hx hl;simp at hx;omega))
  ·have hG':(⟨op,a',b',c'⟩:i4)=cQ op a b c:=by rw[if_neg h1]at hG;exact hG
   have fin:=hK h9 _ ⟨bb,op,mask,a',b',c',0,0,180⟩ M9 (blk _ rfl) rfl rfl rfl (by rw[<-hG']) (by rw[<-hG']) (by rw[<-hG']) (by rw[<-hG']) rfl rfl rfl O09;rcases hop with e|e|e|e|e
   ·exact absurd e h1
   ·subst e;exact fin
   ·subst e;exact fin
   ·subst e;exact fin
   ·subst e;exact fin
 have zstep: ∀(bk:Addr->Addr->Addr->Int->aA->Prop) (k10:Addr->Addr->Addr->aA->Prop) (h8:aA) (i:Nat) (l:List Value),i<3->l.length=3->At h8 h3.size l->At h8 h.size [ac (op:Int),ae (a:Int),ae (b:Int),ae (c:Int),.int .u8 (mask:Int)]->At h8 h2.size (cy s ⟨h2.size,none,0,[],0,false,0⟩)->aF [] h h8->
   (∀h9,At h9 h3.size (l.set i (ae 0))->At h9 h.size [ac (op:Int),ae (a:Int),ae (b:Int),ae (c:Int),.int .u8 (mask:Int)]->At h9 h2.size (cy s ⟨h2.size,none,0,[],0,false,0⟩)->aF [] h h9->bk (ah h.size) (ah h2.size) (ah h3.size) ((i+1:Nat):Int) h9)->
   F91.JL7 bk k10 (ah h.size) (ah h2.size) (ah h3.size) (i:Int) h8 K:=by
  intro bk k10 h8 i l hi hl A B M O hB;unfold F91.JL7;have ew:ai ((i:Int)+1)=((i+1:Nat):Int):=by rw[wrap_i64 Y Y];omega
  rw[decide_eq_true Y,aG,ew];simp only[aE,Nat.zero_add,Nat.add_zero,Int.toNat_natCast,Nat.mul_one];exact⟨Y,Y,aK A Y rfl λh9 A9 O9 z9=>hB h9 A9 (B.only O9 (by simp;omega)) (M.only O9 (by simp;omega)) (O.trans O9 (by intro x hx hl;simp at hx;omega))⟩
 have O07:aF [] h h7:=(((O1.trans O2 Z).trans O3 Z).trans O37 (by intro x hx hl;simp at hx;omega));rcases hop with e|e|e|e|e
 ·subst e;refine⟨3,?_⟩;rw[F91.sL7];refine zstep _ _ h7 1 _ Y rfl A7 B7 M7 O07 λh8 A8 B8 M8 O8=> ?_;rw[F91.sL7];refine zstep _ _ h8 2 _ Y rfl A8 B8 M8 O8 λh9 A9 B9 M9 O9=> ?_;rw[F91.sL7];unfold F91.JL7;rw[decide_eq_false Y,aD];exact rest h9 a 0 0 B9 A9 M9 O9 rfl
 ·subst e;refine⟨2,?_⟩;rw[F91.sL7];refine zstep _ _ h7 2 _ Y rfl A7 B7 M7 O07 λh8 A8 B8 M8 O8=> ?_;rw[F91.sL7];unfold F91.JL7;rw[decide_eq_false Y,aD];exact rest h8 a b 0 B8 A8 M8 O8 rfl
 ·subst e;refine⟨2,?_⟩;rw[F91.sL7];refine zstep _ _ h7 2 _ Y rfl A7 B7 M7 O07 λh8 A8 B8 M8 O8=> ?_;rw[F91.sL7];unfold F91.JL7;rw[decide_eq_false Y,aD];exact rest h8 a b 0 B8 A8 M8 O8 rfl
 ·subst e;refine⟨2,?_⟩;rw[F91.sL7];refine zstep _ _ h7 2 _ Y rfl A7 B7 M7 O07 λh8 A8 B8 M8 O8=> ?_;rw[F91.sL7];unfold F91.JL7;rw[decide_eq_false Y,aD];exact rest h8 a b 0 B8 A8 M8 O8 rfl
 ·subst e;refine⟨1,?_⟩;rw[F91.sL7];unfold F91.JL7;rw[show decide (cA ((5:Nat):Int)<(3:Int))=false from rfl,aD];exact rest h7 a b c B7 A7 M7 O07 rfl
end
end
section
variable {i j k l m n o p q r s t:Int}{a b c d:Addr}{u v:Nat}{x y:ak}{h:aA}{K:KK}
def F88.spec(H:aC (i<0) (K (.tuple #[ap none,ac 61]) h) (aC (j<1) (K (.tuple #[ap none,ac 61]) h) (aC (j>256) (K (.tuple #[ap none,ac 61]) h) (Cl 132 [ag a] h λb c=>aI .i64 (some b) λb=>aC (i>b) (K (.tuple #[ap none,ac 61]) c) (Cl 90 [ac j] c λb c=>aI .i64 (some b) λb=>Cl 132 [ag a] c λc d=>aI .i64 (some c) λc=>aC (b>(ai (c-i))) (K (.tuple #[ap none,ac 61]) d) (aZ d (.cells #[ag a,ac i,ac j] 216) λa b=>K (.tuple #[ag (ah a),ac 0]) b)))))):Cl 88 [ag a,ac i,ac j] h K:=cN Tryz.func88 H
def F90.spec(H:aC (i<1) (K (ac 0) h) (K (ac (ai (i+2))) h)):Cl 90 [ac i] h K:=cN Tryz.func90 H
def F193.spec(H:qW (rd h a) λa=>bi (rd h b) λb=>gn Tryz.prog X a [ap b] h λa b=>a=ax/\K ax b):Cl 193 [ag a,ag b] h K:=cN Tryz.func193 H
def F194.T:bf:=⟨[],[(1,[[(0,[]),(1,[]),(2,[]),(3,[]),(4,[]),(5,[]),(6,[]),(7,[]),(8,[]),(9,[]),(10,[]),(11,[]),(12,[])]])]⟩
def F194.spec(H:bi (rd h (a.add 0)) λb=>aI .i64 (rd h (a.add 1)) λa=>Cl 162 [ap b,ac (ai (a+i))] h λa b=>aI .u64 (some a) λa=>K (ac (ai a)) b):Cl 194 [ag a,ac i] h K:=cT F194.T Tryz.func194 H
def F143.spec(H:bi (rd h (a.add 0)) λb=>Cl 194 [ap b,ac 1] h λb c=>aI .i64 (some b) λb=>aP c ((a.add 3).add 0) (ac b) λb=>aP b ((a.add 4).add 0) (.func (.func 195) #[ag a] #[]) λa=>K ax a):Cl 143 [ag a] h K:=cN Tryz.func143 H
def F195.T:bf:=⟨[],[(2,[[(0,[]),(1,[]),(2,[]),(3,[]),(4,[]),(5,[]),(6,[]),(7,[]),(8,[]),(9,[]),(10,[]),(11,[]),(12,[]),(13,[]),(14,[]),(15,[]),(16,[])]])]⟩
def F195.spec(H:bi (rd h (a.add 0)) λb=>Cl 194 [ap b,ac 0] h λb c=>aI .i64 (some b) λb=>aP c ((a.add 2).add 0) (ac b) λb=>aP b ((a.add 4).add 0) (.func (.func 239) #[ag a] #[]) λb=>aI .i64 (rd b (a.add 3)) λc=>aI .i64 (rd b (a.add 2)) λd=>bi (rd b (a.add 0)) λe=>aN e λe=>aI .i64 (rd b (e.add 2)) λe=>aC ((ai (c-d))>=e) (Cl 240 [ag a,aq] b λa b=>a=ax/\K ax b) (K ax b)):Cl 195 [ag a] h K:=cT F195.T Tryz.func195 H
def F239.T:bf:=⟨[],[(0,[[(0,[]),(1,[]),(2,[]),(3,[]),(4,[]),(5,[]),(6,[]),(7,[]),(8,[]),(9,[]),(10,[]),(11,[]),(12,[]),(13,[]),(14,[]),(16,[]),(17,[]),(18,[]),(19,[]),(15,[0,1,2,3,4,5,6,16,17,18,19]),(20,[])]])]⟩
def F239.spec(H:bi (rd h (a.add 0)) λb=>aN b λc=>bi (rd h (c.add 0)) λd=>bi (rd h (a.add 0)) λe=>aI .i64 (rd h (a.add 3)) λf=>aI .u64 (rd h (a.add 1)) λg=>Cl 283 [ap e,ac f] h λe f=>aI .i64 (some e) λe=>ay (ag a)/\ay (ag a)/\ay (ag (a.add 0))/\bi (rd f (a.add 0)) λi=>az (ap i) (ap b)/\aN b λb=>az (ag b) (ag c)/\ay (ag (c.add 0))/\bi (rd f (c.add 0)) λb=>az (ap b) (ap d)/\ay (ag a)/\ay (ag a)/\ay (ag (a.add 1))/\aI .u64 (rd f (a.add 1)) λb=>az (af b) (af g)/\Cl 282 [ap d,ac e,af g] f λb c=>b=ax/\aP c ((a.add 4).add 0) (.func (.func 284) #[ag a] #[]) λa=>K ax a):Cl 239 [ag a] h K:=cT F239.T Tryz.func239 H
def F240.spec(a:Addr)(b:Bool)(h:aA)(K:KK)(H:aP h ((a.add 5).add 0) au λc=>aP c ((a.add 6).add 0) (aw b) λa=>K ax a):Cl 240 [ag a,aw b] h K:=cN Tryz.func240 H
def F284.T:bf:=⟨[],[(0,[[(0,[]),(1,[]),(2,[]),(3,[]),(4,[]),(5,[]),(6,[]),(7,[]),(8,[]),(9,[]),(10,[]),(11,[]),(12,[]),(13,[]),(14,[]),(15,[]),(16,[]),(17,[]),(18,[]),(19,[]),(20,[]),(21,[])]])]⟩
def F284.spec(H:bi (rd h (a.add 0)) λb=>aN b λb=>bi (rd h (b.add 0)) λb=>bi (rd h (a.add 0)) λc=>aN c λc=>aI .i64 (rd h (c.add 1)) λc=>aI .i64 (rd h (a.add 3)) λd=>Cl 282 [ap b,ac (ai (c+1)),af (IntKind.wrap .u64 (ai (d+1)))] h λb c=>b=ax/\Cl 240 [ag a,au] c λa b=>a=ax/\K ax b):Cl 284 [ag a] h K:=cT F284.T Tryz.func284 H
def F220.spec(H:bi (rd h (a.add 0)) λb=>Cl 194 [ap b,ac 1] h λb c=>aI .i64 (some b) λb=>aP c ((a.add 3).add 0) (ac (ai (b-1))) λb=>aP b ((a.add 4).add 0) (.func (.func 269) #[ag a] #[]) λa=>K ax a):Cl 220 [ag a] h K:=cN Tryz.func220 H
def F269.T:bf:=⟨[],[(0,[[(0,[]),(1,[]),(2,[]),(3,[]),(4,[]),(5,[]),(6,[]),(7,[]),(8,[]),(9,[]),(10,[]),(11,[]),(12,[]),(13,[]),(14,[]),(15,[]),(16,[]),(17,[]),(18,[]),(19,[]),(20,[])]])]⟩
def F269.spec(H:bi (rd h (a.add 0)) λb=>aN b λb=>bi (rd h (b.add 0)) λb=>bi (rd h (a.add 0)) λc=>aN c λc=>aI .i64 (rd h (c.add 1)) λc=>aI .i64 (rd h (a.add 3)) λd=>Cl 282 [ap b,ac (ai (c+1)),af (IntKind.wrap .u64 d)] h λb c=>b=ax/\aP c ((a.add 4).add 0) (.func (.func 300) #[ag a] #[]) λa=>K ax a):Cl 269 [ag a] h K:=cT F269.T Tryz.func269 H
def F300.T:bf:=⟨[],[(2,[[(0,[]),(1,[]),(2,[]),(3,[]),(4,[]),(5,[]),(6,[]),(7,[]),(8,[])]])]⟩
def F300.spec(H:bi (rd h (a.add 0)) λb=>Cl 194 [ap b,ac 0] h λb c=>aI .i64 (some b) λb=>aP c ((a.add 2).add 0) (ac b) λb=>aP b ((a.add 4).add 0) (.func (.func 333) #[ag a] #[]) λb=>aI .i64 (rd b (a.add 2)) λc=>aI .i64 (rd b (a.add 3)) λd=>aC (c>d) (aP b ((a.add 4).add 0) (.func (.func 334) #[ag a] #[]) λa=>K ax a) (K ax b)):Cl 300 [ag a] h K:=cT F300.T Tryz.func300 H
def F333.T:bf:=⟨[],[(0,[[(0,[]),(1,[]),(2,[]),(3,[]),(4,[]),(5,[]),(6,[]),(7,[]),(8,[]),(9,[]),(10,[]),(11,[]),(12,[]),(13,[]),(14,[]),(15,[]),(16,[0,1,2,3,4,5,6,7]),(17,[0]),(18,[]),(19,[]),(20,[])]]),(1,[[(0,[]),(1,[]),(2,[]),(3,[]),(4,[]),(5,[]),(6,[]),(7,[]),(8,[])]])]⟩
def F333.spec(H:bi (rd h (a.add 0)) λb=>aN b λc=>bi (rd h (c.add 0)) λd=>bi (rd h (a.add 0)) λe=>aI .i64 (rd h (a.add 3)) λf=>Cl 283 [ap e,ac f] h λe f=>aI .i64 (some e) λe=>ay (ag a)/\ay (ag a)/\ay (ag a)/\ay (ag (a.add 0))/\bi (rd f (a.add 0)) λg=>az (ap g) (ap b)/\aN b λb=>az (ag b) (ag c)/\ay (ag (c.add 0))/\bi (rd f (c.add 0)) λb=>az (ap b) (ap d)/\Cl 162 [ap d,ac e] f λb c=>aI .u64 (some b) λb=>ay (ag a)/\aP c ((a.add 1).add 0) (af b) λb=>aI .i64 (rd b (a.add 2)) λc=>aI .i64 (rd b (a.add 3)) λd=>aC (c<d) (Cl 240 [ag a,au] b λa b=>a=ax/\K ax b) (aP b ((a.add 4).add 0) (.func (.func 353) #[ag a] #[]) λa=>K ax a)):Cl 333 [ag a] h K:=cT F333.T Tryz.func333 H
def F353.T:bf:=⟨[],[(0,[[(0,[]),(1,[]),(2,[]),(3,[]),(4,[]),(5,[]),(6,[]),(7,[]),(8,[]),(9,[]),(10,[]),(11,[]),(12,[]),(13,[]),(14,[]),(15,[]),(16,[]),(17,[]),(18,[]),(19,[]),(20,[]),(21,[]),(22,[]),(23,[]),(24,[]),(25,[]),(26,[]),(27,[0]),(28,[]),(29,[]),(30,[])]])]⟩
def F353.spec(H:bi (rd h (a.add 0)) λb=>aN b λb=>bi (rd h (b.add 0)) λb=>bi (rd h (a.add 0)) λc=>aN c λc=>aI .i64 (rd h (c.add 1)) λc=>aI .i64 (rd h (a.add 2)) λd=>aI .i64 (rd h (a.add 2)) λe=>Cl 163 [ap b,ac (ai (c+0)),af (IntKind.wrap .u64 d),af (IntKind.wrap .u64 (ai (e+1)))] h λb c=>bA (some b) λb=>ay (ag a)/\aP c ((a.add 6).add 0) (aw b) λb=>aP b ((a.add 4).add 0) (.func (.func 354) #[ag a] #[]) λa=>K ax a):Cl 353 [ag a] h K:=cT F353.T Tryz.func353 H
def F334.spec(H:aP h ((a.add 6).add 0) aq λb=>Cl 354 [ag a] b λa b=>a=ax/\K ax b):Cl 334 [ag a] h K:=cN Tryz.func334 H
def F354.T:bf:=⟨[],[(0,[[(0,[]),(1,[]),(2,[]),(3,[]),(4,[]),(5,[]),(6,[]),(7,[]),(8,[]),(9,[]),(10,[]),(11,[]),(12,[]),(13,[]),(14,[]),(15,[]),(16,[]),(17,[]),(18,[]),(19,[]),(20,[]),(21,[])]])]⟩
def F354.spec(H:bi (rd h (a.add 0)) λb=>aN b λb=>bi (rd h (b.add 0)) λb=>bi (rd h (a.add 0)) λc=>aN c λc=>aI .i64 (rd h (c.add 1)) λc=>aI .i64 (rd h (a.add 3)) λd=>Cl 282 [ap b,ac (ai (c+1)),af (IntKind.wrap .u64 (ai (d+1)))] h λb c=>b=ax/\bA (rd c (a.add 6)) λb=>Cl 240 [ag a,aw b] c λa b=>a=ax/\K ax b):Cl 354 [ag a] h K:=cT F354.T Tryz.func354 H
def F221.spec(H:bi (rd h (a.add 0)) λb=>Cl 194 [ap b,ac 0] h λb c=>aI .i64 (some b) λb=>aP c ((a.add 2).add 0) (ac b) λb=>aP b ((a.add 4).add 0) (.func (.func 270) #[ag a] #[]) λa=>K ax a):Cl 221 [ag a] h K:=cN Tryz.func221 H
def F270.T:bf:=⟨[],[(2,[[(0,[]),(1,[]),(2,[]),(3,[]),(4,[]),(5,[]),(6,[]),(7,[]),(8,[])]])]⟩
def F270.spec(H:bi (rd h (a.add 0)) λb=>Cl 194 [ap b,ac 1] h λb c=>aI .i64 (some b) λb=>aP c ((a.add 3).add 0) (ac b) λb=>aP b ((a.add 4).add 0) (.func (.func 301) #[ag a] #[]) λb=>aI .i64 (rd b (a.add 2)) λc=>aI .i64 (rd b (a.add 3)) λd=>aC (c>=d) (Cl 240 [ag a,aq] b λa b=>a=ax/\K ax b) (K ax b)):Cl 270 [ag a] h K:=cT F270.T Tryz.func270 H
def F301.T:bf:=⟨[],[(0,[[(0,[]),(1,[]),(2,[]),(3,[]),(4,[]),(5,[]),(6,[]),(7,[]),(8,[]),(9,[]),(10,[]),(11,[]),(12,[]),(13,[]),(14,[]),(15,[]),(16,[0,1,2,3,4,5,6,7]),(17,[0]),(18,[]),(19,[]),(20,[])]])]⟩
def F301.spec(H:bi (rd h (a.add 0)) λb=>aN b λc=>bi (rd h (c.add 0)) λd=>bi (rd h (a.add 0)) λe=>aI .i64 (rd h (a.add 2)) λf=>Cl 283 [ap e,ac f] h λe f=>aI .i64 (some e) λe=>ay (ag a)/\ay (ag a)/\ay (ag a)/\ay (ag (a.add 0))/\bi (rd f (a.add 0)) λg=>az (ap g) (ap b)/\aN b λb=>az (ag b) (ag c)/\ay (ag (c.add 0))/\bi (rd f (c.add 0)) λb=>az (ap b) (ap d)/\Cl 162 [ap d,ac e] f λb c=>aI .u64 (some b) λb=>ay (ag a)/\aP c ((a.add 1).add 0) (af b) λb=>aP b ((a.add 4).add 0) (.func (.func 335) #[ag a] #[]) λa=>K ax a):Cl 301 [ag a] h K:=cT F301.T Tryz.func301 H
def F335.T:bf:=⟨[],[(0,[[(0,[]),(1,[]),(2,[]),(3,[]),(4,[]),(5,[]),(6,[]),(7,[]),(8,[]),(9,[]),(10,[]),(11,[]),(12,[]),(13,[]),(14,[]),(15,[]),(16,[]),(17,[]),(18,[]),(19,[]),(20,[]),(21,[]),(22,[]),(23,[]),(24,[]),(25,[]),(26,[]),(27,[0]),(28,[])]])]⟩
def F335.spec(H:bi (rd h (a.add 0)) λb=>aN b λb=>bi (rd h (b.add 0)) λb=>bi (rd h (a.add 0)) λc=>aN c λc=>aI .i64 (rd h (c.add 1)) λc=>aI .i64 (rd h (a.add 2)) λd=>aI .i64 (rd h (a.add 2)) λe=>Cl 163 [ap b,ac (ai (c+0)),af (IntKind.wrap .u64 d),af (IntKind.wrap .u64 (ai (e+1)))] h λb c=>bA (some b) λb=>ay (ag a)/\Cl 240 [ag a,aw b] c λa b=>a=ax/\K ax b):Cl 335 [ag a] h K:=cT F335.T Tryz.func335 H
def F140.T:bf:=⟨[(3,[0])],[]⟩
section
variable (a:Addr)(h:aA)(K:KK)
def F140.wk3:Prop:=bA (rd h (a.add 5)) λa=>K (aw a) h
end
def F140.spec(H:bA (rd h (a.add 5)) λb=>aC (!b) (qW (rd h (a.add 4)) λb=>gn Tryz.prog X b [] h λb c=>b=ax/\F140.wk3 a c K) (F140.wk3 a h K)):Cl 140 [ag a] h K:=cT F140.T Tryz.func140 H
def F141.spec(H:bA (rd h (a.add 5)) λb=>aC (!b) (K (.tuple #[af 0,aq]) h) (bA (rd h (a.add 6)) λb=>aC (!b) (K (.tuple #[af 0,aq]) h) (aI .u64 (rd h (a.add 1)) λa=>K (.tuple #[af a,au]) h))):Cl 141 [ag a] h K:=cN Tryz.func141 H
def F283.T:bf:=⟨[],[(1,[[(0,[]),(1,[]),(2,[]),(3,[]),(4,[]),(5,[]),(6,[]),(7,[]),(8,[]),(9,[]),(10,[]),(11,[]),(12,[])]])]⟩
def F283.spec(H:aI .i64 (rd h (a.add 1)) λb=>aI .i64 (rd h (a.add 2)) λa=>a≠0/\K (ac (ai ((ai (b+2))+(Int.tmod i a)))) h):Cl 283 [ag a,ac i] h K:=cT F283.T Tryz.func283 H
end
namespace A40
variable {i j k l m n o p q r s t:Int}{a b c d:Addr}{u v:Nat}{x y:ak}{h:aA}{K:KK}
def F142.spec(H:aZ h (.cells #[.func (.func 143) #[] #[]] 235) λb c=>aZ c (.cells #[ag a,af i,ac 0,ac 0,.nilFunc,aq,aq] 272) λa c=>aZ c (.cells #[ap none] 172) λc d=>aP d ((ah c).add 0) (ag (ah a)) λa=>bi (rd a (ah c)) λd=>aN d λd=>aP a ((d.add 4).add 0) (.func (.func 193) #[] #[ag (ah b),ag (ah c)]) λa=>bi (rd a (ah c)) λb=>K (ap b) a):Cl 142 [ag a,af i,.func (.func 143) #[] #[]] h K:=cN Tryz.func142 H
end A40
namespace A41
variable {i j k l m n o p q r s t:Int}{a b c d:Addr}{u v:Nat}{x y:ak}{h:aA}{K:KK}
def F142.spec(H:aZ h (.cells #[.func (.func 220) #[] #[]] 235) λb c=>aZ c (.cells #[ag a,af i,ac 0,ac 0,.nilFunc,aq,aq] 272) λa c=>aZ c (.cells #[ap none] 172) λc d=>aP d ((ah c).add 0) (ag (ah a)) λa=>bi (rd a (ah c)) λd=>aN d λd=>aP a ((d.add 4).add 0) (.func (.func 193) #[] #[ag (ah b),ag (ah c)]) λa=>bi (rd a (ah c)) λb=>K (ap b) a):Cl 142 [ag a,af i,.func (.func 220) #[] #[]] h K:=cN Tryz.func142 H
end A41
namespace A42
variable {i j k l m n o p q r s t:Int}{a b c d:Addr}{u v:Nat}{x y:ak}{h:aA}{K:KK}
def F142.spec(H:aZ h (.cells #[.func (.func 221) #[] #[]] 235) λb c=>aZ c (.cells #[ag a,af i,ac 0,ac 0,.nilFunc,aq,aq] 272) λa c=>aZ c (.cells #[ap none] 172) λc d=>aP d ((ah c).add 0) (ag (ah a)) λa=>bi (rd a (ah c)) λd=>aN d λd=>aP a ((d.add 4).add 0) (.func (.func 193) #[] #[ag (ah b),ag (ah c)]) λa=>bi (rd a (ah c)) λb=>K (ap b) a):Cl 142 [ag a,af i,.func (.func 221) #[] #[]] h K:=cN Tryz.func142 H
end A42
section
def mZ(h:aA)(d m base n:Nat):Prop:=At h d [ag (ah m),ac (base:Int),ac (n:Int)]
def mZ.only{S:List Nat}{h h':aA}{t m base n:Nat}(H:mZ h t m base n)(O:aF S h h')(ht:t∉S):mZ h' t m base n:=At.only H O ht
structure Dc where
 v:Int
 t:Int
 b:Int
 ph:Nat
 done:Bool
 ok:Bool
def ET:Nat->Nat
 |0=>143
 |1=>195
 |2=>239
 |3=>284
 |4=>220
 |5=>269
 |6=>300
 |7=>333
 |8=>353
 |9=>354
 |10=>334
 |11=>221
 |12=>270
 |13=>301
 |_=>335
def CB:bW X 143=some cJ.go:=by kernel_rfl
def Ci:bW X 195=some cJ.go:=by kernel_rfl
def CY:bW X 239=some cJ.go:=by kernel_rfl
def DN:bW X 284=some cJ.go:=by kernel_rfl
def Cb:bW X 220=some cJ.go:=by kernel_rfl
def DI:bW X 269=some cJ.go:=by kernel_rfl
def Dw:bW X 300=some cJ.go:=by kernel_rfl
def CJ:bW X 333=some cJ.go:=by kernel_rfl
def DJ:bW X 353=some cJ.go:=by kernel_rfl
def Dm:bW X 354=some cJ.go:=by kernel_rfl
def De:bW X 334=some cJ.go:=by kernel_rfl
def BZ:bW X 221=some cJ.go:=by kernel_rfl
def Cn:bW X 270=some cJ.go:=by kernel_rfl
def DC:bW X 301=some cJ.go:=by kernel_rfl
def Ds:bW X 335=some cJ.go:=by kernel_rfl
def u9:bW X 193=some cJ.go:=by kernel_rfl
def lh(ph:Nat):Bool:=ph==0||ph==4||ph==11
def ER(f bx by_ ph:Nat):Value:=
 if lh ph then .func (.func 193) #[] #[ag (ah bx),ag (ah by_)]else .func (.func (ET ph)) #[ag (ah f)] #[]
def xg(f d bx by_:Nat)(A:Dc):List Value:=
 [ag (ah d),af A.v,ac A.t,ac A.b,ER f bx by_ A.ph,aw A.done,aw A.ok]
structure cd(h:aA)(f d bx by_:Nat)(A:Dc):Prop where
 act:At h f (xg f d bx by_ A)
 fn:lh A.ph=true->At h bx [.func (.func (ET A.ph)) #[] #[]]
 me:lh A.ph=true->At h by_ [ag (ah f)]
section
variable {h:aA}{f d m mc base n:Nat}{cs:List Int}{ops fails:Int}{K:KK}
def km{c:Int}(Q:mZ h d m base n)(M:bg h m mc cs ops fails)(hb:base<1000000000)(hc0:0<=c)(hc1:c<=1)(hl:base+2<=cs.length)
  (hK: ∀h',bg h' m mc cs (up ops) fails->aF [m,mc] h h'->K (ac (ai (cs.getD (base+c.toNat) 0))) h'):
  Cl 194 [ag (ah d),ac c] h K:=by
 apply F194.spec;simp only[aE,Nat.zero_add];refine aJ (by rw[At.rd Q];rfl) (aB (n:=(base:Int)) (by rw[At.rd Q];rfl) ?_);rw[show ai ((base:Int)+c)=((base+c.toNat:Nat):Int) by rw[wrap_i64 Y Y];omega];refine dC M Y Y λh1 M1 O1=>aB rfl ?_;rw[Int.toNat_natCast];exact hK h1 M1 O1
def cY(base n:Nat)(x:Int):Nat:=base+2+(x.tmod n).toNat
def iG{base n:Nat}{x:Int}(hn:1<=n)(hx:0<=x):cY base n x<base+2+n:=by unfold cY;rw[Int.tmod_eq_emod_of_nonneg hx];have:=Int.emod_lt_of_pos x (by omega:(0:Int)<n);omega
def oT{x:Int}(Q:mZ h d m base n)(hb:base<1000000000)(hn:1<=n)(hn2:n<1000000000)(hx:0<=x)(hK:K (ac (cY base n x:Int)) h):
  Cl 283 [ag (ah d),ac x] h K:=by
 apply F283.spec;simp only[aE,Nat.zero_add];refine aB (n:=(base:Int)) (by rw[At.rd Q];rfl) (aB (n:=(n:Int)) (by rw[At.rd Q];rfl) ⟨Y,?_⟩)
 have e:x.tmod n=(((x.tmod n).toNat:Nat):Int):=by rw[Int.tmod_eq_emod_of_nonneg hx];have:=Int.emod_nonneg x (by omega:(n:Int)≠0);omega
 have hlt:=iG (base:=base) hn hx;unfold cY at hK hlt;rw[e,wrap_i64 (n:=(base:Int)+2) Y Y,wrap_i64 Y Y];rw[show((base:Int)+2+((x.tmod n).toNat:Int))=((base+2+(x.tmod n).toNat:Nat):Int) by simp];exact hK
def jK{c:List Value}{ok:Bool}(H:At h f c)(hl:c.length=7)(hK: ∀h',At h' f ((c.set 5 au).set 6 (aw ok))->aF [f] h h'->K ax h'):
  Cl 240 [ag (ah f),aw ok] h K:=by
 apply F240.spec;simp only[aE,Nat.zero_add,Nat.add_zero];refine aK H Y rfl λh1 A1 O1 _=>aK A1 (by simp;omega) rfl λh2 A2 O2 _=> ?_;exact hK h2 A2 (O1.trans O2 Z)
end
def bK(base n:Nat)(cs:List Int)(A:Dc):Dc×List Int:=
 if A.done then(A,cs)else
 match A.ph with
 |0=>({A with b:=ai (cs.getD (base+1) 0),ph:=1},cs)
 |1=>({A with t:=ai (cs.getD base 0),ph:=2,done:=decide (ai (A.b-ai (cs.getD base 0))>=(n:Int)),ok:=if decide (ai (A.b-ai (cs.getD base 0))>=(n:Int))then false else A.ok},cs)
 |2=>({A with ph:=3},cs.set (cY base n A.b) A.v)
 |3=>({A with done:=true,ok:=true},cs.set (base+1) (IntKind.wrap .u64 (ai (A.b+1))))
 |4=>({A with b:=ai (ai (cs.getD (base+1) 0)-1),ph:=5},cs)
 |5=>({A with ph:=6},cs.set (base+1) (IntKind.wrap .u64 A.b))
 |6=>({A with t:=ai (cs.getD base 0),ph:=if decide (ai (cs.getD base 0)>A.b)then 10 else 7},cs)
 |7=>if decide (A.t<A.b)then({A with v:=cs.getD (cY base n A.b) 0,done:=true,ok:=true},cs)else({A with v:=cs.getD (cY base n A.b) 0,ph:=8},cs)
 |8=>if cs.getD base 0=IntKind.wrap .u64 A.t then({A with ok:=true,ph:=9},cs.set base (IntKind.wrap .u64 (ai (A.t+1))))else({A with ok:=false,ph:=9},cs)
 |9=>({A with done:=true},cs.set (base+1) (IntKind.wrap .u64 (ai (A.b+1))))
 |10=>({A with done:=true,ok:=false},cs.set (base+1) (IntKind.wrap .u64 (ai (A.b+1))))
 |11=>({A with t:=ai (cs.getD base 0),ph:=12},cs)
 |12=>({A with b:=ai (cs.getD (base+1) 0),ph:=13,done:=decide (A.t>=ai (cs.getD (base+1) 0)),ok:=if decide (A.t>=ai (cs.getD (base+1) 0))then false else A.ok},cs)
 |13=>({A with v:=cs.getD (cY base n A.t) 0,ph:=14},cs)
 |_=>if cs.getD base 0=IntKind.wrap .u64 A.t then({A with done:=true,ok:=true},cs.set base (IntKind.wrap .u64 (ai (A.t+1))))else({A with done:=true,ok:=false},cs)
end
section
def cD(d:Nat)(v t b:Int)(x:Value)(dn ok:Bool):List Value:=[ag (ah d),af v,ac t,ac b,x,aw dn,aw ok]
def nf(g f:Nat):Value:= .func (.func g) #[ag (ah f)] #[]
section
variable {h:aA}{f d m mc base n:Nat}{cs:List Int}{ops fails:Int}{K:KK}{v t b:Int}{x:Value}{dn ok:Bool}
variable (Q:mZ h d m base n)(M:bg h m mc cs ops fails)(H:At h f (cD d v t b x dn ok))(hb:base<1000000)(hn:1<=n)(hn2:n<1000000)(hl:base+2+n<=cs.length)(d1:f≠d)(d2:f≠m)(d3:f≠mc)(d4:d≠m)(d5:d≠mc)
include Q M H hb hn hl d2 d3
theorem Fp(hK: ∀h',At h' f (cD d v t (ai (cs.getD (base+1) 0)) (nf 195 f) dn ok)->bg h' m mc cs (up ops) fails->aF [f,m,mc] h h'->K ax h'):Cl 143 [ag (ah f)] h K:=by apply F143.spec;simp only[aE,Nat.zero_add,Nat.add_zero];refine aJ (by rw[H.rd];rfl) (km Q M Y (by decide) (by decide) Y λh1 M1 O1=>aB rfl ?_);refine aK (H.only O1 (by simp[d2,d3])) (by simp[cD]) rfl λh2 A2 O2 _=>aK A2 (by simp[cD]) rfl λh3 A3 O3 _=> ?_;have O23:=O2.trans O3 Z;exact hK h3 A3 (M1.only O23 (by simp[d2.symm]) (by simp[d3.symm])) ((O1.mono (T:=[f,m,mc]) (by simp+contextual)).trans O23 Z)
theorem Fb(hK: ∀h',At h' f (cD d v t (ai (ai (cs.getD (base+1) 0)-1)) (nf 269 f) dn ok)->bg h' m mc cs (up ops) fails->aF [f,m,mc] h h'->K ax h'):Cl 220 [ag (ah f)] h K:=by apply F220.spec;simp only[aE,Nat.zero_add,Nat.add_zero];refine aJ (by rw[H.rd];rfl) (km Q M Y (by decide) (by decide) Y λh1 M1 O1=>aB rfl ?_);refine aK (H.only O1 (by simp[d2,d3])) (by simp[cD]) rfl λh2 A2 O2 _=>aK A2 (by simp[cD]) rfl λh3 A3 O3 _=> ?_;have O23:=O2.trans O3 Z;exact hK h3 A3 (M1.only O23 (by simp[d2.symm]) (by simp[d3.symm])) ((O1.mono (T:=[f,m,mc]) (by simp+contextual)).trans O23 Z)
theorem Fo(hK: ∀h',At h' f (cD d v (ai (cs.getD base 0)) b (nf 270 f) dn ok)->bg h' m mc cs (up ops) fails->aF [f,m,mc] h h'->K ax h'):Cl 221 [ag (ah f)] h K:=by apply F221.spec;simp only[aE,Nat.zero_add,Nat.add_zero];refine aJ (by rw[H.rd];rfl) (km Q M Y (by decide) (by decide) Y λh1 M1 O1=>aB rfl ?_);refine aK (H.only O1 (by simp[d2,d3])) (by simp[cD]) rfl λh2 A2 O2 _=>aK A2 (by simp[cD]) rfl λh3 A3 O3 _=> ?_;have O23:=O2.trans O3 Z;exact hK h3 A3 (M1.only O23 (by simp[d2.symm]) (by simp[d3.symm])) ((O1.mono (T:=[f,m,mc]) (by simp+contextual)).trans O23 Z)
theorem E6(hK: ∀h',At h' f (cD d v t (ai (cs.getD (base+1) 0)) (nf 301 f) (if decide (t>=ai (cs.getD (base+1) 0))then true else dn) (if decide (t>=ai (cs.getD (base+1) 0))then false else ok))->
  bg h' m mc cs (up ops) fails->aF [f,m,mc] h h'->K ax h'):Cl 270 [ag (ah f)] h K:=by
 apply F270.spec;simp only[aE,Nat.zero_add,Nat.add_zero];refine aJ (by rw[H.rd];rfl) (km Q M Y (by decide) (by decide) Y λh1 M1 O1=>aB rfl ?_);refine aK (H.only O1 (by simp[d2,d3])) (by simp[cD]) rfl λh2 A2 O2 _=>aK A2 (by simp[cD]) rfl λh3 A3 O3 _=> ?_;have O23:=O2.trans O3 Z;have M3:=M1.only O23 (by simp[d2.symm]) (by simp[d3.symm]);have P3:=(O1.mono (T:=[f,m,mc]) (by simp+contextual)).trans O23 Z;refine aB (n:=t) (by rw[A3.rd];rfl) (aB (n:=ai (cs.getD (base+1) 0)) (by rw[A3.rd];rfl) (aH (λe=> ?_) λe=> ?_))
 ·refine jK A3 (by simp[cD]) λh4 A4 O4=>⟨by trivial,hK h4 ?_ (M3.only O4 (by simp[d2.symm]) (by simp[d3.symm])) (P3.trans O4 Z)⟩;rw[e];exact A4
 ·refine hK h3 ?_ M3 P3;rw[e];exact A3
theorem Fh(hK: ∀h',At h' f (cD d v (ai (cs.getD base 0)) b (if decide (ai (cs.getD base 0)>b)then nf 334 f else nf 333 f) dn ok)->
  bg h' m mc cs (up ops) fails->aF [f,m,mc] h h'->K ax h'):Cl 300 [ag (ah f)] h K:=by
 apply F300.spec;simp only[aE,Nat.zero_add,Nat.add_zero];refine aJ (by rw[H.rd];rfl) (km Q M Y (by decide) (by decide) Y λh1 M1 O1=>aB rfl ?_);refine aK (H.only O1 (by simp[d2,d3])) (by simp[cD]) rfl λh2 A2 O2 _=>aK A2 (by simp[cD]) rfl λh3 A3 O3 _=> ?_;have O23:=O2.trans O3 Z;have M3:=M1.only O23 (by simp[d2.symm]) (by simp[d3.symm]);have P3:=(O1.mono (T:=[f,m,mc]) (by simp+contextual)).trans O23 Z;refine aB (n:=ai (cs.getD base 0)) (by rw[A3.rd];rfl) (aB (n:=b) (by rw[A3.rd];rfl) (aH (λe=> ?_) λe=> ?_))
 ·refine aK A3 (by simp[cD]) rfl λh4 A4 O4 _=>hK h4 ?_ (M3.only O4 (by simp[d2.symm]) (by simp[d3.symm])) (P3.trans O4 Z);rw[e];exact A4
 ·refine hK h3 ?_ M3 P3;rw[e];exact A3
theorem Ft(hK: ∀h',At h' f (cD d v t b x true true)->bg h' m mc (cs.set (base+1) (IntKind.wrap .u64 (ai (b+1)))) (up ops) fails->aF [f,m,mc] h h'->K ax h'):Cl 284 [ag (ah f)] h K:=by apply F284.spec;simp only[aE,Nat.zero_add,Nat.add_zero];refine aJ (by rw[H.rd];rfl) ?_;simp only[aL,aE,Nat.zero_add];refine aJ (by rw[At.rd Q];rfl) (aJ (by rw[H.rd];rfl) ?_);simp only[aL,aE,Nat.zero_add];refine aB (n:=(base:Int)) (by rw[At.rd Q];rfl) (aB (n:=b) (by rw[H.rd];rfl) ?_);rw[show ai ((base:Int)+1)=((base+1:Nat):Int) by rw[wrap_i64 Y Y];simp];refine fd M Y Y λh1 M1 O1=>⟨rfl,?_⟩;rw[Int.toNat_natCast]at M1;refine jK (H.only O1 (by simp[d2,d3])) (by simp[cD]) λh2 A2 O2=>⟨rfl,hK h2 A2 (M1.only O2 (by simp[d2.symm]) (by simp[d3.symm])) ((O1.mono (T:=[f,m,mc]) (by simp+contextual)).trans O2 Z)⟩
theorem E9(hK: ∀h',At h' f (cD d v t b (nf 300 f) dn ok)->bg h' m mc (cs.set (base+1) (IntKind.wrap .u64 b)) (up ops) fails->aF [f,m,mc] h h'->K ax h'):Cl 269 [ag (ah f)] h K:=by apply F269.spec;simp only[aE,Nat.zero_add,Nat.add_zero];refine aJ (by rw[H.rd];rfl) ?_;simp only[aL,aE,Nat.zero_add];refine aJ (by rw[At.rd Q];rfl) (aJ (by rw[H.rd];rfl) ?_);simp only[aL,aE,Nat.zero_add];refine aB (n:=(base:Int)) (by rw[At.rd Q];rfl) (aB (n:=b) (by rw[H.rd];rfl) ?_);rw[show ai ((base:Int)+1)=((base+1:Nat):Int) by rw[wrap_i64 Y Y];simp];refine fd M Y Y λh1 M1 O1=>⟨rfl,?_⟩;rw[Int.toNat_natCast]at M1;refine aK (H.only O1 (by simp[d2,d3])) (by simp[cD]) rfl λh2 A2 O2 _=> ?_;exact hK h2 A2 (M1.only O2 (by simp[d2.symm]) (by simp[d3.symm])) ((O1.mono (T:=[f,m,mc]) (by simp+contextual)).trans O2 Z)
theorem BS(hK: ∀h',At h' f (cD d v t b x true ok)->bg h' m mc (cs.set (base+1) (IntKind.wrap .u64 (ai (b+1)))) (up ops) fails->aF [f,m,mc] h h'->K ax h'):Cl 354 [ag (ah f)] h K:=by apply F354.spec;simp only[aE,Nat.zero_add,Nat.add_zero];refine aJ (by rw[H.rd];rfl) ?_;simp only[aL,aE,Nat.zero_add];refine aJ (by rw[At.rd Q];rfl) (aJ (by rw[H.rd];rfl) ?_);simp only[aL,aE,Nat.zero_add];refine aB (n:=(base:Int)) (by rw[At.rd Q];rfl) (aB (n:=b) (by rw[H.rd];rfl) ?_);rw[show ai ((base:Int)+1)=((base+1:Nat):Int) by rw[wrap_i64 Y Y];simp];refine fd M Y Y λh1 M1 O1=>⟨rfl,?_⟩;rw[Int.toNat_natCast]at M1;have H1:=H.only O1 (by simp[d2,d3]);refine aQ (n:=ok) (by rw[H1.rd];rfl) (jK H1 (by simp[cD]) λh2 A2 O2=>⟨rfl,hK h2 A2 (M1.only O2 (by simp[d2.symm]) (by simp[d3.symm])) ((O1.mono (T:=[f,m,mc]) (by simp+contextual)).trans O2 Z)⟩)
theorem EZ(hT:cs.getD base 0=IntKind.wrap .u64 t-> ∀h',At h' f (cD d v t b (nf 354 f) dn true)->bg h' m mc (cs.set base (IntKind.wrap .u64 (ai (t+1)))) (up ops) fails->aF [f,m,mc] h h'->K ax h')
  (hF:cs.getD base 0≠IntKind.wrap .u64 t-> ∀h' fails',At h' f (cD d v t b (nf 354 f) dn false)->bg h' m mc cs (up ops) fails'->aF [f,m,mc] h h'->K ax h'):Cl 353 [ag (ah f)] h K:=by
 apply F353.spec;simp only[aE,Nat.zero_add,Nat.add_zero];refine aJ (by rw[H.rd];rfl) ?_;simp only[aL,aE,Nat.zero_add];refine aJ (by rw[At.rd Q];rfl) (aJ (by rw[H.rd];rfl) ?_);simp only[aL,aE,Nat.zero_add];refine aB (n:=(base:Int)) (by rw[At.rd Q];rfl) (aB (n:=t) (by rw[H.rd];rfl) (aB (n:=t) (by rw[H.rd];rfl) ?_));rw[show ai ((base:Int)+0)=(base:Int) by rw[wrap_i64 Y Y];simp];refine mE M Y Y (λe h1 M1 O1=>aQ rfl ⟨by trivial,?_⟩) λe h1 M1 O1=>aQ rfl ⟨by trivial,?_⟩
 all_goals
  rw[Int.toNat_natCast]at e;refine aK (H.only O1 (by simp[d2,d3])) (by simp[cD]) rfl λh2 A2 O2 _=>aK A2 (by simp[cD]) rfl λh3 A3 O3 _=> ?_;have O23:=O2.trans O3 Z;have M3:=M1.only O23 (by simp[d2.symm]) (by simp[d3.symm]);have P3:=(O1.mono (T:=[f,m,mc]) (by simp+contextual)).trans O23 Z
 ·rw[Int.toNat_natCast]at M3;exact hT e h3 A3 M3 P3
 ·exact hF e h3 _ A3 M3 P3
theorem E4(hT:cs.getD base 0=IntKind.wrap .u64 t-> ∀h',At h' f (cD d v t b x true true)->bg h' m mc (cs.set base (IntKind.wrap .u64 (ai (t+1)))) (up ops) fails->aF [f,m,mc] h h'->K ax h')
  (hF:cs.getD base 0≠IntKind.wrap .u64 t-> ∀h' fails',At h' f (cD d v t b x true false)->bg h' m mc cs (up ops) fails'->aF [f,m,mc] h h'->K ax h'):Cl 335 [ag (ah f)] h K:=by
 apply F335.spec;simp only[aE,Nat.zero_add,Nat.add_zero];refine aJ (by rw[H.rd];rfl) ?_;simp only[aL,aE,Nat.zero_add];refine aJ (by rw[At.rd Q];rfl) (aJ (by rw[H.rd];rfl) ?_);simp only[aL,aE,Nat.zero_add];refine aB (n:=(base:Int)) (by rw[At.rd Q];rfl) (aB (n:=t) (by rw[H.rd];rfl) (aB (n:=t) (by rw[H.rd];rfl) ?_));rw[show ai ((base:Int)+0)=(base:Int) by rw[wrap_i64 Y Y];simp];refine mE M Y Y (λe h1 M1 O1=>aQ rfl ⟨by trivial,?_⟩) λe h1 M1 O1=>aQ rfl ⟨by trivial,?_⟩
 all_goals
  rw[Int.toNat_natCast]at e;refine jK (H.only O1 (by simp[d2,d3])) (by simp[cD]) λh2 A2 O2=>⟨by trivial,?_⟩;have M3:=M1.only O2 (by simp[d2.symm]) (by simp[d3.symm]);have P3:=(O1.mono (T:=[f,m,mc]) (by simp+contextual)).trans O2 Z
 ·rw[Int.toNat_natCast]at M3;exact hT e h2 A2 M3 P3
 ·exact hF e h2 _ A2 M3 P3
include d1 d4 d5
theorem Fa(hK: ∀h',At h' f (cD d v (ai (cs.getD base 0)) b (nf 239 f) (if decide (ai (b-ai (cs.getD base 0))>=(n:Int))then true else dn) (if decide (ai (b-ai (cs.getD base 0))>=(n:Int))then false else ok))->
  bg h' m mc cs (up ops) fails->aF [f,m,mc] h h'->K ax h'):Cl 195 [ag (ah f)] h K:=by
 apply F195.spec;simp only[aE,Nat.zero_add,Nat.add_zero];refine aJ (by rw[H.rd];rfl) (km Q M Y (by decide) (by decide) Y λh1 M1 O1=>aB rfl ?_);refine aK (H.only O1 (by simp[d2,d3])) (by simp[cD]) rfl λh2 A2 O2 _=>aK A2 (by simp[cD]) rfl λh3 A3 O3 _=> ?_;have O23:=O2.trans O3 Z;have M3:=M1.only O23 (by simp[d2.symm]) (by simp[d3.symm]);have P3:=(O1.mono (T:=[f,m,mc]) (by simp+contextual)).trans O23 Z;have Q3:=Q.only P3 (by simp[d1.symm,d4,d5]);refine aB (n:=b) (by rw[A3.rd];rfl) (aB (n:=ai (cs.getD base 0)) (by rw[A3.rd];rfl) (aJ (by rw[A3.rd];rfl) ?_));simp only[aL,aE,Nat.zero_add];refine aB (n:=(n:Int)) (by rw[At.rd Q3];rfl) (aH (λe=> ?_) λe=> ?_)
 ·refine jK A3 (by simp[cD]) λh4 A4 O4=>⟨by trivial,hK h4 ?_ (M3.only O4 (by simp[d2.symm]) (by simp[d3.symm])) (P3.trans O4 Z)⟩;rw[e];exact A4
 ·refine hK h3 ?_ M3 P3;rw[e];exact A3
end
end
section
section
variable {h:aA}{f d m mc base n:Nat}{cs:List Int}{ops fails:Int}{K:KK}{v t b:Int}{x:Value}{dn ok:Bool}
variable (Q:mZ h d m base n)(M:bg h m mc cs ops fails)(H:At h f (cD d v t b x dn ok))(hb:base<1000000)(hn:1<=n)(hn2:n<1000000)(hl:base+2+n<=cs.length)(d1:f≠d)(d2:f≠m)(d3:f≠mc)(d4:d≠m)(d5:d≠mc)
include Q M H hb hn hn2 hl d2 d3
theorem Fd(hp:0<=b)(hK: ∀h',At h' f (cD d v t b (nf 284 f) dn ok)->bg h' m mc (cs.set (cY base n b) v) (up ops) fails->aF [f,m,mc] h h'->K ax h'):Cl 239 [ag (ah f)] h K:=by
 have hsl:=iG (base:=base) hn hp;apply F239.spec;simp only[aE,Nat.zero_add,Nat.add_zero];have r0:rd h (ah f)=some (ag (ah d)):=by rw[H.rd];rfl
 have rm:rd h (ah d)=some (ag (ah m)):=by rw[At.rd Q];rfl
 refine aJ r0 ?_;simp only[aL,aE,Nat.zero_add];refine aJ rm (aJ r0 (aB (n:=b) (by rw[H.rd];rfl) (aB (n:=v) (by rw[H.rd];rfl) (oT Q Y hn Y hp (aB rfl ⟨by trivial,by trivial,by trivial,aJ r0 ⟨by trivial,?_⟩⟩)))));refine⟨by trivial,by trivial,aJ rm ⟨by trivial,by trivial,by trivial,by trivial,aB (n:=v) (by rw[H.rd];rfl) ⟨rfl,?_⟩⟩⟩;refine fd M Y Y λh1 M1 O1=>⟨rfl,?_⟩;rw[Int.toNat_natCast]at M1;refine aK (H.only O1 (by simp[d2,d3])) (by simp[cD]) rfl λh2 A2 O2 _=> ?_;exact hK h2 A2 (M1.only O2 (by simp[d2.symm]) (by simp[d3.symm])) ((O1.mono (T:=[f,m,mc]) (by simp+contextual)).trans O2 Z)
theorem Fw(hp:0<=b)(hT:t<b-> ∀h',At h' f (cD d (cs.getD (cY base n b) 0) t b x true true)->bg h' m mc cs (up ops) fails->aF [f,m,mc] h h'->K ax h')
  (hF: ¬t<b-> ∀h',At h' f (cD d (cs.getD (cY base n b) 0) t b (nf 353 f) dn ok)->bg h' m mc cs (up ops) fails->aF [f,m,mc] h h'->K ax h'):Cl 333 [ag (ah f)] h K:=by
 have hsl:=iG (base:=base) hn hp;apply F333.spec;simp only[aE,Nat.zero_add,Nat.add_zero];have r0:rd h (ah f)=some (ag (ah d)):=by rw[H.rd];rfl
 have rm:rd h (ah d)=some (ag (ah m)):=by rw[At.rd Q];rfl
 refine aJ r0 ?_;simp only[aL,aE,Nat.zero_add];refine aJ rm (aJ r0 (aB (n:=b) (by rw[H.rd];rfl) (oT Q Y hn Y hp (aB rfl ⟨by trivial,by trivial,by trivial,by trivial,aJ r0 ⟨by trivial,?_⟩⟩))));refine⟨by trivial,by trivial,aJ rm ⟨by trivial,dC M Y Y λh1 M1 O1=>aB rfl ⟨by trivial,?_⟩⟩⟩;rw[Int.toNat_natCast];refine aK (H.only O1 (by simp[d2,d3])) (by simp[cD]) rfl λh2 A2 O2 _=> ?_;have M2:=M1.only O2 (by simp[d2.symm]) (by simp[d3.symm]);have P2:=(O1.mono (T:=[f,m,mc]) (by simp+contextual)).trans O2 Z;refine aB (n:=t) (by rw[A2.rd];rfl) (aB (n:=b) (by rw[A2.rd];rfl) (aH (λe=> ?_) λe=> ?_))
 ·refine jK A2 (by simp[cD]) λh3 A3 O3=>⟨rfl,hT (of_decide_eq_true e) h3 A3 (M2.only O3 (by simp[d2.symm]) (by simp[d3.symm])) (P2.trans O3 Z)⟩
 ·refine aK A2 (by simp[cD]) rfl λh3 A3 O3 _=> ?_;exact hF (of_decide_eq_false e) h3 A3 (M2.only O3 (by simp[d2.symm]) (by simp[d3.symm])) (P2.trans O3 Z)
theorem Fv(hp:0<=t)(hK: ∀h',At h' f (cD d (cs.getD (cY base n t) 0) t b (nf 335 f) dn ok)->bg h' m mc cs (up ops) fails->aF [f,m,mc] h h'->K ax h'):Cl 301 [ag (ah f)] h K:=by
 have hsl:=iG (base:=base) hn hp;apply F301.spec;simp only[aE,Nat.zero_add,Nat.add_zero];have r0:rd h (ah f)=some (ag (ah d)):=by rw[H.rd];rfl
 have rm:rd h (ah d)=some (ag (ah m)):=by rw[At.rd Q];rfl
 refine aJ r0 ?_;simp only[aL,aE,Nat.zero_add];refine aJ rm (aJ r0 (aB (n:=t) (by rw[H.rd];rfl) (oT Q Y hn Y hp (aB rfl ⟨by trivial,by trivial,by trivial,by trivial,aJ r0 ⟨by trivial,?_⟩⟩))));refine⟨by trivial,by trivial,aJ rm ⟨by trivial,dC M Y Y λh1 M1 O1=>aB rfl ⟨by trivial,?_⟩⟩⟩;rw[Int.toNat_natCast];refine aK (H.only O1 (by simp[d2,d3])) (by simp[cD]) rfl λh2 A2 O2 _=>aK A2 (by simp[cD]) rfl λh3 A3 O3 _=> ?_;have O23:=O2.trans O3 Z;exact hK h3 A3 (M1.only O23 (by simp[d2.symm]) (by simp[d3.symm])) ((O1.mono (T:=[f,m,mc]) (by simp+contextual)).trans O23 Z)
omit hn2
include d1
theorem E7(hK: ∀h',At h' f (cD d v t b x true false)->bg h' m mc (cs.set (base+1) (IntKind.wrap .u64 (ai (b+1)))) (up ops) fails->aF [f,m,mc] h h'->K ax h'):Cl 334 [ag (ah f)] h K:=by apply F334.spec;simp only[aE,Nat.zero_add,Nat.add_zero];refine aK H (by simp[cD]) rfl λh1 A1 O1 _=> ?_;have A1:At h1 f (cD d v t b x dn false):=A1;refine BS (Q.only O1 (by simp[d1.symm])) (M.only O1 (by simp[d2.symm]) (by simp[d3.symm])) A1 hb hn hl d2 d3 λh2 A2 M2 O2=>⟨rfl,hK h2 A2 M2 ?_⟩;exact(O1.mono (T:=[f,m,mc]) (by simp+contextual)).trans O2 Z
end
end
section
variable {i j k l m n o p q r s t:Int}{a b c d:Addr}{u v:Nat}{x y:ak}{h:aA}{K:KK}
def F93.spec(H:Cl 142 [ag a,af i,.func (.func 143) #[] #[]] h λa b=>bi (some a) λa=>K (ap a) b):Cl 93 [ag a,af i] h K:=cN Tryz.func93 H
def F177.spec(H:Cl 142 [ag a,af 0,.func (.func 220) #[] #[]] h λa b=>bi (some a) λa=>K (ap a) b):Cl 177 [ag a] h K:=cN Tryz.func177 H
def F178.spec(H:Cl 142 [ag a,af 0,.func (.func 221) #[] #[]] h λa b=>bi (some a) λa=>K (ap a) b):Cl 178 [ag a] h K:=cN Tryz.func178 H
end
section
def t9{base n:Nat}{cs:List Int}{A:Dc}:(bK base n cs A).2.length=cs.length:=by
 unfold bK
 repeat' split
 all_goals simp
def cd.of{h:aA}{f d bx by_:Nat}{A:Dc}(H:At h f (xg f d bx by_ A))(e:lh A.ph=false):cd h f d bx by_ A:=
 ⟨H,(λe'=>by rw[e]at e';cases e'),(λe'=>by rw[e]at e';cases e')⟩
section
variable {h:aA}{f d bx by_ m mc base n:Nat}{cs:List Int}{ops fails:Int}{K:KK}{A:Dc}
def Ef{g:Nat}(F:At h bx [.func (.func g) #[] #[]])(B:At h by_ [ag (ah f)])(hg:bW X g=some .go)
  (hK:Cl g [ag (ah f)] h (λv h'=>v=ax/\K ax h')):
  Cl 193 [ag (ah bx),ag (ah by_)] h K:=by
 apply F193.spec;refine⟨_,by rw[F.rd];rfl,aJ (by rw[B.rd];rfl) (bz hg ?_)⟩;simpa using hK
def ru(Q:mZ h d m base n)(M:bg h m mc cs ops fails)(H:cd h f d bx by_ A)(hb:base<1000000)(hn:1<=n)(hn2:n<1000000)(hl:base+2+n<=cs.length)(d1:f≠d)(d2:f≠m)(d3:f≠mc)(d4:d≠m)(d5:d≠mc)
  (hph:A.ph<=14) (hp1:A.ph=2\/A.ph=7->0<=A.b) (hp2:A.ph=13->0<=A.t)
  (hK: ∀h' fails',cd h' f d bx by_ (bK base n cs A).1->bg h' m mc (bK base n cs A).2 (if A.done then ops else up ops) fails'->aF [f,m,mc] h h'->K (aw (bK base n cs A).1.done) h'):
  Cl 140 [ag (ah f)] h K:=by
 apply F140.spec;simp only[aE,Nat.zero_add];obtain⟨v,t,b,ph,dn,ok⟩:=A;have H0:At h f (cD d v t b (ER f bx by_ ph) dn ok):=H.act;refine aQ (n:=dn) (by rw[H0.rd];rfl) ?_
 have hend: ∀h' fails',cd h' f d bx by_ (bK base n cs ⟨v,t,b,ph,dn,ok⟩).1->bg h' m mc (bK base n cs ⟨v,t,b,ph,dn,ok⟩).2 (if dn then ops else up ops) fails'->aF [f,m,mc] h h'->F140.wk3 (ah f) h' K:=by intro h' fails' a1 a2 a3;unfold F140.wk3;simp only[aE,Nat.zero_add];exact aQ (by rw[a1.act.rd];rfl) (hK h' fails' a1 a2 a3)
 clear hK;dsimp only at hph hp1 hp2;cases dn with
 |true=>
  rw[Bool.not_true,aD];exact hend h fails H M (aF.refl _ _)
 |false=>
  rw[Bool.not_false,aG];simp only[bK,Bool.false_eq_true,if_false]at hend;refine⟨_,by rw[H0.rd];rfl,?_⟩
  match ph,hph,H,H0,hend,hp1,hp2 with
  |0,_,H,H0,hend,_,_=>
   refine bz u9 (Ef (H.fn rfl) (H.me rfl) CB (Fp Q M H0 hb hn hl d2 d3 λh1 A1 M1 O1=>⟨rfl,rfl,hend h1 _ (cd.of A1 rfl) M1 O1⟩))
  |1,_,H,H0,hend,_,_=>
   refine bz Ci (Fa Q M H0 hb hn hl d1 d2 d3 d4 d5 λh1 A1 M1 O1=>⟨rfl,hend h1 _ (cd.of ?_ rfl) M1 O1⟩);show At h1 f (cD d v _ b (nf 239 f) (decide _) _);simpa using A1
  |2,_,H,H0,hend,hp,_=>
   exact bz CY (Fd Q M H0 hb hn hn2 hl d2 d3 (hp (Or.inl rfl)) λh1 A1 M1 O1=>⟨rfl,hend h1 _ (cd.of A1 rfl) M1 O1⟩)
  |3,_,H,H0,hend,_,_=>
   exact bz DN (Ft Q M H0 hb hn hl d2 d3 λh1 A1 M1 O1=>⟨rfl,hend h1 _ (cd.of A1 rfl) M1 O1⟩)
  |4,_,H,H0,hend,_,_=>
   refine bz u9 (Ef (H.fn rfl) (H.me rfl) Cb (Fb Q M H0 hb hn hl d2 d3 λh1 A1 M1 O1=>⟨rfl,rfl,hend h1 _ (cd.of A1 rfl) M1 O1⟩))
  |5,_,H,H0,hend,_,_=>
   exact bz DI (E9 Q M H0 hb hn hl d2 d3 λh1 A1 M1 O1=>⟨rfl,hend h1 _ (cd.of A1 rfl) M1 O1⟩)
  |6,_,H,H0,hend,_,_=>
   refine bz Dw (Fh Q M H0 hb hn hl d2 d3 λh1 A1 M1 O1=>⟨rfl,?_⟩);refine hend h1 _ ?_ M1 O1;cases hd:decide (ai (cs.getD base 0)>b)with
   |true=>
    rw[hd]at A1;exact cd.of A1 rfl
   |false=>
    rw[hd]at A1;exact cd.of A1 rfl
  |7,_,H,H0,hend,hp,_=>
   refine bz CJ (Fw Q M H0 hb hn hn2 hl d2 d3 (hp (Or.inr rfl)) (λe h1 A1 M1 O1=>⟨rfl,?_⟩) λe h1 A1 M1 O1=>⟨rfl,?_⟩)
   ·exact hend h1 _ (by
     show cd h1 f d bx by_ (ite _ _ _:Dc×List Int).1;rw[if_pos (decide_eq_true e)];exact cd.of A1 rfl) (by
     show bg h1 m mc (ite _ _ _:Dc×List Int).2 _ _;rw[if_pos (decide_eq_true e)];exact M1) O1
   ·exact hend h1 _ (by
     show cd h1 f d bx by_ (ite _ _ _:Dc×List Int).1;rw[if_neg (by simpa using e)];exact cd.of A1 rfl) (by
     show bg h1 m mc (ite _ _ _:Dc×List Int).2 _ _;rw[if_neg (by simpa using e)];exact M1) O1
  |8,_,H,H0,hend,_,_=>
   refine bz DJ (EZ Q M H0 hb hn hl d2 d3 (λe h1 A1 M1 O1=>⟨rfl,?_⟩) λe h1 fails' A1 M1 O1=>⟨rfl,?_⟩)
   ·exact hend h1 _ (by
     show cd h1 f d bx by_ (ite _ _ _:Dc×List Int).1;rw[if_pos e];exact cd.of A1 rfl) (by
     show bg h1 m mc (ite _ _ _:Dc×List Int).2 _ _;rw[if_pos e];exact M1) O1
   ·exact hend h1 _ (by
     show cd h1 f d bx by_ (ite _ _ _:Dc×List Int).1;rw[if_neg e];exact cd.of A1 rfl) (by
     show bg h1 m mc (ite _ _ _:Dc×List Int).2 _ _;rw[if_neg e];exact M1) O1
  |9,_,H,H0,hend,_,_=>
   exact bz Dm (BS Q M H0 hb hn hl d2 d3 λh1 A1 M1 O1=>⟨rfl,hend h1 _ (cd.of A1 rfl) M1 O1⟩)
  |10,_,H,H0,hend,_,_=>
   exact bz De (E7 Q M H0 hb hn hl d1 d2 d3 λh1 A1 M1 O1=>⟨rfl,hend h1 _ (cd.of A1 rfl) M1 O1⟩)
  |11,_,H,H0,hend,_,_=>
   refine bz u9 (Ef (H.fn rfl) (H.me rfl) BZ (Fo Q M H0 hb hn hl d2 d3 λh1 A1 M1 O1=>⟨rfl,rfl,hend h1 _ (cd.of A1 rfl) M1 O1⟩))
  |12,_,H,H0,hend,_,_=>
   refine bz Cn (E6 Q M H0 hb hn hl d2 d3 λh1 A1 M1 O1=>⟨rfl,hend h1 _ (cd.of ?_ rfl) M1 O1⟩);show At h1 f (cD d v t _ (nf 301 f) (decide _) _);simpa using A1
  |13,_,H,H0,hend,_,hp=>
   exact bz DC (Fv Q M H0 hb hn hn2 hl d2 d3 (hp rfl) λh1 A1 M1 O1=>⟨rfl,hend h1 _ (cd.of A1 rfl) M1 O1⟩)
  |14,_,H,H0,hend,_,_=>
   refine bz Ds (E4 Q M H0 hb hn hl d2 d3 (λe h1 A1 M1 O1=>⟨rfl,?_⟩) λe h1 fails' A1 M1 O1=>⟨rfl,?_⟩)
   ·exact hend h1 _ (by
     show cd h1 f d bx by_ (ite _ _ _:Dc×List Int).1;rw[if_pos e];exact cd.of A1 rfl) (by
     show bg h1 m mc (ite _ _ _:Dc×List Int).2 _ _;rw[if_pos e];exact M1) O1
   ·exact hend h1 _ (by
     show cd h1 f d bx by_ (ite _ _ _:Dc×List Int).1;rw[if_neg e];exact cd.of A1 rfl) (by
     show bg h1 m mc (ite _ _ _:Dc×List Int).2 _ _;rw[if_neg e];exact M1) O1
end
end
section
structure DW(h:aA)(d m mc base n:Nat)(cs:List Int)(ops fails:Int):Prop where
 deq:mZ h d m base n
 mem:bg h m mc cs ops fails
 d4:d≠m
 d5:d≠mc
 hn:1<=n
 hn2:n<=256
 hb:base<100000
 hl:base+2+n<=cs.length
def DW.only{h h':aA}{d m mc base n:Nat}{cs:List Int}{ops fails:Int}{S:List Nat}(W:DW h d m mc base n cs ops fails)(O:aF S h h')(h1:d∉S)(h2:m∉S)(h3:mc∉S):DW h' d m mc base n cs ops fails:=
 ⟨W.deq.only O h1,W.mem.only O h2 h3,W.d4,W.d5,W.hn,W.hn2,W.hb,W.hl⟩
def DW.lt{h:aA}{d m mc base n:Nat}{cs:List Int}{ops fails:Int}(W:DW h d m mc base n cs ops fails):d<h.size/\m<h.size/\mc<h.size:=⟨At.lt W.deq,W.mem.head.lt,W.mem.body.lt⟩
section
variable {h:aA}{f d bx by_ m mc base n:Nat}{cs:List Int}{ops fails:Int}{K:KK}{A:Dc}
def u6(W:DW h d m mc base n cs ops fails)(H:cd h f d bx by_ A)(d1:f≠d)(d2:f≠m)(d3:f≠mc)(hph:A.ph<=14)(hp1:A.ph=2\/A.ph=7->0<=A.b)(hp2:A.ph=13->0<=A.t)
  (hK: ∀h' fails',cd h' f d bx by_ (bK base n cs A).1->DW h' d m mc base n (bK base n cs A).2 (if A.done then ops else up ops) fails'->aF [f,m,mc] h h'->K (aw (bK base n cs A).1.done) h'):
  Cl 140 [ag (ah f)] h K:=
 ru W.deq W.mem H (Nat.lt_of_lt_of_le W.hb (by decide)) W.hn (Nat.lt_of_le_of_lt W.hn2 (by decide)) W.hl d1 d2 d3 W.d4 W.d5 hph hp1 hp2 λh' fails' a b O=>
  hK h' fails' a ⟨W.deq.only O (by simp[d1.symm,W.d4,W.d5]),b,W.d4,W.d5,W.hn,W.hn2,W.hb,by rw[t9];exact W.hl⟩ O
def Ca{v:Int}(hK: ∀f bx by_ h',cd h' f d bx by_ ⟨v,0,0,0,false,false⟩->aF [] h h'->h.size<=f->h.size<=bx->h.size<=by_->f<h'.size->bx<h'.size->by_<h'.size->f≠bx->f≠by_->bx≠by_->K (ag (ah f)) h'):
  Cl 142 [ag (ah d),af v,.func (.func 143) #[] #[]] h K:=by
 apply A40.F142.spec;refine aM λh1 A1 O1 z1=>aM λh2 A2 O2 z2=>aM λh3 A3 O3 z3=> ?_;simp only[aE,Nat.zero_add];refine aK A3 Z rfl λh4 A4 O4 z4=>aJ (by rw[A4.rd];rfl) ?_;simp only[aL,aE,Nat.zero_add,Nat.add_zero];have B4:=((A2.only O3 Z).only O4 (by simp;omega));have C4:=(((A1.only O2 Z).only O3 Z).only O4 (by simp;omega));refine aK B4 Z rfl λh5 A5 O5 z5=>aJ (n:=some (ah h1.size)) (by rw[(A4.only O5 (by simp;omega)).rd];rfl) ?_;have P5:aF [] h h5:=(((O1.trans O2 Z).trans O3 Z).trans O4 λb hb hl=>absurd (show b=h2.size by simpa using hb) Y).trans O5 λb hb hl=>absurd (show b=h1.size by simpa using hb) Y;refine hK h1.size h.size h2.size h5 ⟨A5,λ_=>C4.only O5 (by simp;omega),λ_=>A4.only O5 (by simp;omega)⟩ P5 Y Y Y Y Y Y Y Y Y
def C5{v:Int}(hK: ∀f bx by_ h',cd h' f d bx by_ ⟨v,0,0,4,false,false⟩->aF [] h h'->h.size<=f->h.size<=bx->h.size<=by_->f<h'.size->bx<h'.size->by_<h'.size->f≠bx->f≠by_->bx≠by_->K (ag (ah f)) h'):
  Cl 142 [ag (ah d),af v,.func (.func 220) #[] #[]] h K:=by
 apply A41.F142.spec;refine aM λh1 A1 O1 z1=>aM λh2 A2 O2 z2=>aM λh3 A3 O3 z3=> ?_;simp only[aE,Nat.zero_add];refine aK A3 Z rfl λh4 A4 O4 z4=>aJ (by rw[A4.rd];rfl) ?_;simp only[aL,aE,Nat.zero_add,Nat.add_zero];have B4:=((A2.only O3 Z).only O4 (by simp;omega));have C4:=(((A1.only O2 Z).only O3 Z).only O4 (by simp;omega));refine aK B4 Z rfl λh5 A5 O5 z5=>aJ (n:=some (ah h1.size)) (by rw[(A4.only O5 (by simp;omega)).rd];rfl) ?_;have P5:aF [] h h5:=(((O1.trans O2 Z).trans O3 Z).trans O4 λb hb hl=>absurd (show b=h2.size by simpa using hb) Y).trans O5 λb hb hl=>absurd (show b=h1.size by simpa using hb) Y;refine hK h1.size h.size h2.size h5 ⟨A5,λ_=>C4.only O5 (by simp;omega),λ_=>A4.only O5 (by simp;omega)⟩ P5 Y Y Y Y Y Y Y Y Y
def Cj{v:Int}(hK: ∀f bx by_ h',cd h' f d bx by_ ⟨v,0,0,11,false,false⟩->aF [] h h'->h.size<=f->h.size<=bx->h.size<=by_->f<h'.size->bx<h'.size->by_<h'.size->f≠bx->f≠by_->bx≠by_->K (ag (ah f)) h'):
  Cl 142 [ag (ah d),af v,.func (.func 221) #[] #[]] h K:=by
 apply A42.F142.spec;refine aM λh1 A1 O1 z1=>aM λh2 A2 O2 z2=>aM λh3 A3 O3 z3=> ?_;simp only[aE,Nat.zero_add];refine aK A3 Z rfl λh4 A4 O4 z4=>aJ (by rw[A4.rd];rfl) ?_;simp only[aL,aE,Nat.zero_add,Nat.add_zero];have B4:=((A2.only O3 Z).only O4 (by simp;omega));have C4:=(((A1.only O2 Z).only O3 Z).only O4 (by simp;omega));refine aK B4 Z rfl λh5 A5 O5 z5=>aJ (n:=some (ah h1.size)) (by rw[(A4.only O5 (by simp;omega)).rd];rfl) ?_;have P5:aF [] h h5:=(((O1.trans O2 Z).trans O3 Z).trans O4 λb hb hl=>absurd (show b=h2.size by simpa using hb) Y).trans O5 λb hb hl=>absurd (show b=h1.size by simpa using hb) Y;refine hK h1.size h.size h2.size h5 ⟨A5,λ_=>C4.only O5 (by simp;omega),λ_=>A4.only O5 (by simp;omega)⟩ P5 Y Y Y Y Y Y Y Y Y
def zn{v:Int}(hK: ∀f bx by_ h',cd h' f d bx by_ ⟨v,0,0,0,false,false⟩->aF [] h h'->h.size<=f->h.size<=bx->h.size<=by_->f<h'.size->bx<h'.size->by_<h'.size->f≠bx->f≠by_->bx≠by_->K (ag (ah f)) h'):
  Cl 93 [ag (ah d),af v] h K:=by
 apply F93.spec;exact Ca λf bx by_ h' a b c e g i j k l m o=>aJ rfl (hK f bx by_ h' a b c e g i j k l m o)
def BK(hK: ∀f bx by_ h',cd h' f d bx by_ ⟨0,0,0,4,false,false⟩->aF [] h h'->h.size<=f->h.size<=bx->h.size<=by_->f<h'.size->bx<h'.size->by_<h'.size->f≠bx->f≠by_->bx≠by_->K (ag (ah f)) h'):
  Cl 177 [ag (ah d)] h K:=by
 apply F177.spec;exact C5 λf bx by_ h' a b c e g i j k l m o=>aJ rfl (hK f bx by_ h' a b c e g i j k l m o)
def wO(hK: ∀f bx by_ h',cd h' f d bx by_ ⟨0,0,0,11,false,false⟩->aF [] h h'->h.size<=f->h.size<=bx->h.size<=by_->f<h'.size->bx<h'.size->by_<h'.size->f≠bx->f≠by_->bx≠by_->K (ag (ah f)) h'):
  Cl 178 [ag (ah d)] h K:=by
 apply F178.spec;exact Cj λf bx by_ h' a b c e g i j k l m o=>aJ rfl (hK f bx by_ h' a b c e g i j k l m o)
def gV(A:Dc):Int:=if A.done&&A.ok then A.v else 0
def gZ(A:Dc):Bool:=A.done&&A.ok
def uO(H:cd h f d bx by_ A)(hK:K (.tuple #[af (gV A),aw (gZ A)]) h):Cl 141 [ag (ah f)] h K:=by
 apply F141.spec;simp only[aE,Nat.zero_add];unfold gV gZ at hK;refine aQ (n:=A.done) (by rw[H.act.rd];rfl) (aH (λe=> ?_) λe=>aQ (n:=A.ok) (by rw[H.act.rd];rfl) (aH (λe'=> ?_) λe'=>aB (n:=A.v) (by rw[H.act.rd];rfl) ?_))
 ·have e:A.done=false:=by simpa using e
  simpa[e]using hK
 ·have e:A.done=true:=by simpa using e
  have e':A.ok=false:=by simpa using e'
  simpa[e,e']using hK
 ·have e:A.done=true:=by simpa using e
  have e':A.ok=true:=by simpa using e'
  simpa[e,e']using hK
def kN{k:Int}(h0:1<=k)(h1:k<1000000)(hK:K (ac (k+2)) h):Cl 90 [ac k] h K:=by apply F90.spec;rw[decide_eq_false Y,aD,wrap_i64 Y Y];exact hK
def pR(M:bg h m mc cs ops fails)(hn:1<=n)(hn2:n<=256)(hb:base+2+n<=cs.length)(hc:cs.length<100000)
  (hK: ∀c h',mZ h' c m base n->aF [] h h'->h.size<=c->K (.tuple #[ag (ah c),ac 0]) h'):
  Cl 88 [ag (ah m),ac (base:Int),ac (n:Int)] h K:=by
 apply F88.spec;rw[decide_eq_false Y,aD,decide_eq_false Y,aD,decide_eq_false Y,aD];refine fN M (aB rfl ?_);rw[decide_eq_false Y,aD];refine kN Y Y (aB rfl (fN M (aB rfl ?_)));rw[wrap_i64 Y Y,decide_eq_false Y,aD];exact aM λh1 A1 O1 z1=>hK h.size h1 A1 O1 (Nat.le_refl _)
end
end
section
variable {i j k l m n o p q r s t:Int}{a b c d:Addr}{u v:Nat}{x y:ak}{h:aA}{K:KK}
def F34.T:bf:=⟨[(3,[5,14,15])],[]⟩
section
variable (n:Nat)(f:Addr)(d:Int)(c:Addr)(a b:Int)(h:aA)(K:KK)
def F34.wL3:Prop:=Lp Tryz.f34 F34.T [1,1,0,1,0] n [(5,(ag c)),(14,(ac a)),(15,(ac b))] h K
def F34.sL3:F34.wL3 (n+1) c a b h K=(aC (b<a) (Cl 90 [ac 64] h λd e=>aI .i64 (some d) λd=>Cl 89 [ac d] e λd e=>bi (some d) λd=>Cl 88 [ap d,ac 0,ac 64] e λd e=> ∃f:ak,∃g:Int,d=(.tuple #[ap f,ac g])/\cW (rd e (c.add 1)) λd g i=>aZ e (.cells #[ap f,ac 0] 166) λe f=>aZ f (.cells #[ag (ah e)] 164) λe f=>fA f 164 1 8 #[ap none] d g i (some (ah e)) 1 λd e f g=>aP g ((c.add 1).add 0) (.slice d e f) λd=>F34.wL3 n c a (ai (b+1)) d K) (K (ag c) h)):=by kernel_rfl
def F34.wk3:Prop:=(∃d,F34.wL3 d c a b h K)
def F34.spec(H:aZ h (.map #[] 0) λa b=>aZ b (.cells #[ag f,.slice none 0 0,.map (some a),ac 0,ac 0] 157) λa b=>F34.wk3 (ah a) (if 4<(if 1>d then 1 else d)then 4 else(if 1>d then 1 else d)) 0 b K):Cl 34 [ag f,ac d] h K:=cT F34.T Tryz.func34 H
end
def F68.spec(H:cW (rd h (a.add 1)) λ_ a _=>K (ac (a:Int)) h):Cl 68 [ag a] h K:=cN Tryz.func68 H
def F92.T:bf:=⟨[(2,[0,4]),(3,[0])],[]⟩
section
variable (n:Nat)(a:Addr)(b:Value)(h:aA)(K:KK)
def F92.wk3:Prop:=Cl 141 [ag a] h λa b=> ∃c:Int,∃d:Bool,a=(.tuple #[af c,aw d])/\K (.tuple #[af c,aw d]) b
def F92.wL2:Prop:=Lp Tryz.f92 F92.T [1,0,1,0] n [(0,(ag a)),(4,b)] h K
def F92.sL2:F92.wL2 (n+1) a b h K=(gn Tryz.prog X b [] h λc d=>bA (some c) λc=>aC (!c) (F92.wL2 n a b d K) (F92.wk3 a d K)):=by kernel_rfl
def F92.wk2:Prop:=(∃c,F92.wL2 c a b h K)
def F92.spec(H:F92.wk2 a (.func (.func 140) #[ag a] #[]) h K):Cl 92 [ag a] h K:=cT F92.T Tryz.func92 H
end
def F35.T:bf:=⟨[],[(1,[[(0,[]),(1,[]),(2,[]),(3,[]),(4,[]),(5,[]),(6,[]),(7,[]),(8,[]),(9,[]),(10,[])]]),(7,[[(0,[]),(1,[]),(2,[]),(3,[]),(4,[]),(5,[]),(6,[]),(7,[]),(8,[]),(9,[])]]),(8,[[(0,[]),(1,[]),(2,[]),(3,[]),(4,[]),(5,[]),(6,[]),(7,[]),(8,[]),(9,[]),(10,[]),(11,[]),(12,[]),(13,[]),(14,[]),(15,[]),(16,[]),(17,[]),(18,[]),(19,[]),(20,[]),(21,[]),(22,[]),(23,[]),(24,[]),(25,[])]])]⟩
def F35.spec(H:aZ h (.cells #[ac i,ae j,ae k,ae l,.int .u8 m] 66) λb c=>bi (rd c (a.add 0)) λd=>aI .i64 (rd c ((ah b).add 0)) λe=>aI .u32 (rd c ((ah b).add 1)) λf=>aI .u32 (rd c ((ah b).add 2)) λg=>aI .u32 (rd c ((ah b).add 3)) λi=>aI .u8 (rd c ((ah b).add 4)) λb=>Cl 91 [ap d,.agg #[ac e,ae f,ae g,ae i,.int .u8 b]] c λb c=> ∃d:ak,∃e:Int,b=(.tuple #[ap d,ac e])/\aC (e !=0) (K (.tuple #[ac 0,ac e]) c) (nT (rd c (a.add 2)) λb=>cX b λb=> ∃e f,mp c b=some (e,f)/\aC ((Nat.cast (Array.size e):Int)>=(64:Int)) (K (.tuple #[ac 0,ac 60]) c) (aI .i64 (rd c (a.add 3)) λb=>aP c ((a.add 3).add 0) (ac (ai (b+1))) λb=>nT (rd b (a.add 2)) λc=>aI .i64 (rd b (a.add 3)) λe=>qv b c .i64 .i64 e (ap d) λb=>cW (rd b (a.add 1)) λc d _=>aI .i64 (rd b (a.add 3)) λe=>cW (rd b (a.add 1)) λ_ f _=>(f:Int)≠0/\aN c λc=>0<=(Int.tmod e (f:Int))/\(Int.tmod e (f:Int))<(d:Int)/\bi (rd b (c.add ((Int.tmod e (f:Int)).toNat*1))) λc=>aN c λc=>bi (rd b (c.add 0)) λc=>aI .i64 (rd b (a.add 3)) λd=>Cl 93 [ap c,af (IntKind.wrap .u64 d)] b λb c=>bi (some b) λb=>Cl 92 [ap b] c λb c=> ∃d:Int,∃e:Bool,b=(.tuple #[af d,aw e])/\aI .i64 (rd c (a.add 3)) λa=>K (.tuple #[ac a,ac 0]) c))):Cl 35 [ag a,.agg #[ac i,ae j,ae k,ae l,.int .u8 m]] h K:=cT F35.T Tryz.func35 H
def F129.spec(H:bi (rd h (a.add 0)) λb=>Cl 177 [ap b] h λb c=>bi (some b) λb=>Cl 92 [ap b] c λb c=> ∃d:Int,∃e:Bool,b=(.tuple #[af d,aw e])/\aC e (aP c ((a.add 1).add 0) (ac (ai d)) λa=>K (aw e) a) (K (aw e) c)):Cl 129 [ag a] h K:=cN Tryz.func129 H
def F130.T:bf:=⟨[(3,[0,1,2,7,17,18])],[(5,[[(0,[]),(1,[]),(2,[]),(3,[]),(4,[]),(5,[]),(6,[]),(7,[]),(8,[]),(9,[]),(10,[]),(11,[]),(12,[]),(13,[]),(14,[]),(15,[]),(16,[]),(17,[])]])]⟩
section
variable (n:Nat)(d g:Addr)(f a c b:Int)(h:aA)(K:KK)
def F130.wL3:Prop:=Lp Tryz.f130 F130.T [1,1,0,1,0] n [(0,(ag d)),(1,(ag g)),(2,(ac f)),(7,(ac a)),(17,(ac c)),(18,(ac b))] h K
def F130.sL3:F130.wL3 (n+1) d g f a c b h K=(aC (b<c) (cW (rd h (d.add 1)) λe i _=>a≠0/\a≠0/\a≠0/\aN e λe=>0<=(Int.tmod (ai ((Int.tmod (ai ((Int.tmod f a)+b)) a)+a)) a)/\(Int.tmod (ai ((Int.tmod (ai ((Int.tmod f a)+b)) a)+a)) a)<(i:Int)/\bi (rd h (e.add ((Int.tmod (ai ((Int.tmod (ai ((Int.tmod f a)+b)) a)+a)) a).toNat*1))) λe=>Ar Tryz.prog h 164 (ap e) (ag g) λi=>aC i (F130.wL3 n d g f a c (ai (b+1)) h K) (aN e λe=>bi (rd h (e.add 0)) λe=>Cl 178 [ap e] h λe i=>bi (some e) λe=>Cl 92 [ap e] i λe i=> ∃j:Int,∃k:Bool,e=(.tuple #[af j,aw k])/\aC k (aP i ((g.add 1).add 0) (ac (ai j)) λa=>aI .i64 (rd a (d.add 4)) λb=>aP a ((d.add 4).add 0) (ac (ai (b+1))) λa=>K au a) (F130.wL3 n d g f a c (ai (b+1)) i K))) (K aq h)):=by kernel_rfl
def F130.wk3:Prop:=(∃e,F130.wL3 e d g f a c b h K)
def F130.spec(H:cW (rd h (d.add 1)) λ_ a _=>F130.wk3 d g f (a:Int) (a:Int) 0 h K):Cl 130 [ag d,ag g,ac f] h K:=cT F130.T Tryz.func130 H
end
def F81.T:bf:=⟨[],[(6,[[(0,[]),(1,[]),(2,[]),(3,[]),(4,[]),(5,[]),(6,[]),(7,[]),(8,[]),(9,[]),(10,[])]])]⟩
def F81.spec(H:aC (i<0) (K aq h) (cW (rd h (a.add 1)) λ_ b _=>aC (i>=(b:Int)) (K aq h) (cW (rd h (a.add 1)) λb c _=>aN b λb=>0<=i/\i<(c:Int)/\bi (rd h (b.add (i.toNat*1))) λb=>aN b λc=>aI .i64 (rd h (c.add 1)) λc=>aC (c==0) (Cl 129 [ap b] h λc d=>bA (some c) λc=>aC (!c) (Cl 130 [ag a,ap b,ac j] d λa b=>bA (some a) λa=>K (aw a) b) (nT (rd d (a.add 2)) λa=>aN b λc=>aI .i64 (rd d (c.add 1)) λc=>dW d a .i64 .i64 c λa=>bi (some (lS (ap none) a)) λa=>Cl 114 [ap a] d λa c=>bA (some a) λa=>aC a (aN b λa=>aP c ((a.add 1).add 0) (ac 0) λa=>K au a) (K au c))) (nT (rd h (a.add 2)) λa=>aN b λc=>aI .i64 (rd h (c.add 1)) λc=>dW h a .i64 .i64 c λa=>bi (some (lS (ap none) a)) λa=>Cl 114 [ap a] h λa c=>bA (some a) λa=>aC a (aN b λa=>aP c ((a.add 1).add 0) (ac 0) λa=>K au a) (K au c))))):Cl 81 [ag a,ac i,ac j] h K:=cT F81.T Tryz.func81 H
def F39.spec(H:nT (rd h (a.add 2)) λa=>dW h a .i64 .i64 i λa=>bi (some (lS (ap none) a)) λa=>aC (!(Option.isNone a)) (Cl 95 [ap a] h λa b=>bA (some a) λa=>K (aw a) b) (K aq h)):Cl 39 [ag a,ac i] h K:=cN Tryz.func39 H
def F38.spec(H:Cl 39 [ag a,ac i] h λb c=>bA (some b) λb=>aC (!b) (K (.tuple #[ae 0,ac 61]) c) (nT (rd c (a.add 2)) λa=>dW c a .i64 .i64 i λa=>bi (some (lS (ap none) a)) λa=>Cl 94 [ap a] c λa b=> ∃c:Int,∃d:Int,a=(.tuple #[ae c,ac d])/\K (.tuple #[ae c,ac d]) b)):Cl 38 [ag a,ac i] h K:=cN Tryz.func38 H
def F36.spec(H:Cl 39 [ag a,ac i] h λb c=>bA (some b) λb=>aC b (nT (rd c (a.add 2)) λa=>zp c a .i64 .i64 i λa=>K (aw b) a) (K (aw b) c)):Cl 36 [ag a,ac i] h K:=cN Tryz.func36 H
def F173.T:bf:=⟨[(3,[0,3,11,12,13])],[]⟩
section
variable (n:Nat)(l:Addr)(j:ak)(i g:Nat)(b:ak)(a d:Nat)(f c:Int)(h:aA)(K:KK)
def F173.wL3:Prop:=Lp Tryz.f173 F173.T [1,1,0,1,0] n [(0,(ag l)),(3,(.slice j i g)),(11,(.slice b a d)),(12,(ac f)),(13,(ac c))] h K
def F173.sL3:F173.wL3 (n+1) l j i g b a d f c h K=(aC (c<f) (aN b λe=>0<=c/\c<(a:Int)/\aI .i64 (rd h (e.add (c.toNat*1))) λe=>nT (rd h (l.add 2)) λk=>dW h k .i64 .i64 e λe=>bi (some (lS (ap none) e)) λe=>Cl 217 [ap e] h λe k=>cW (some e) λe m _=>fA k 46 1 4 #[ae 0] j i g e m λe g i j=>F173.wL3 n l e g i b a d f (ai (c+1)) j K) (K (.slice j i g) h)):=by kernel_rfl
def F173.wk3:Prop:=(∃e,F173.wL3 e l j i g b a d f c h K)
def F173.spec(H:nT (rd h (l.add 2)) λa=>Cl 216 [.map a] h λa b=>qW (some a) λa=>Cl 215 [a] b λa b=>cW (some a) λa c d=>F173.wk3 l none 0 0 a c d (c:Int) 0 b K):Cl 173 [ag l] h K:=cT F173.T Tryz.func173 H
end
end
section
def tz(f:Nat):Value:= .func (.func 140) #[ag (ah f)] #[]
def Cp:bW X 140=some cJ.go:=by kernel_rfl
structure DS(base n:Nat)(cs:List Int)(T:Nat)(q:List Int):Prop where
 top:cs.getD base 0=T
 bot:cs.getD (base+1) 0=((T+q.length:Nat):Int)
 len:q.length<=n
 val: ∀i,i<q.length->cs.getD (base+2+(T+i)%n) 0=q.getD i 0
def xp(base n x:Nat):cY base n (x:Int)=base+2+x%n:=by
 unfold cY;rw[Int.tmod_eq_emod_of_nonneg Y]
 congr 1
def bh{l:List Int}{i j:Nat}{v:Int}(hi:i<l.length):(l.set i v).getD j 0=if i=j then v else l.getD j 0:=by
 by_cases h:i=j
 ·subst h;simp[hi]
 ·simp[List.getD,h]
section
variable {h h0:aA}{f d bx by_ m mc base n:Nat}{cs:List Int}{ops fails:Int}{K:KK}{A:Dc}
def wu{g:Nat}(hi:True)(W:DW h d m mc base n cs ops fails)(H:cd h f d bx by_ A)(d1:f≠d)(d2:f≠m)(d3:f≠mc)(hph:A.ph<=14)(hp1:A.ph=2\/A.ph=7->0<=A.b)(hp2:A.ph=13->0<=A.t)
  (hD:(bK base n cs A).1.done=true-> ∀h' ops' fails',DW h' d m mc base n (bK base n cs A).2 ops' fails'->aF [f,m,mc] h h'->K (.tuple #[af (gV (bK base n cs A).1),aw (gZ (bK base n cs A).1)]) h')
  (hN:(bK base n cs A).1.done=false-> ∀h' ops' fails',cd h' f d bx by_ (bK base n cs A).1->DW h' d m mc base n (bK base n cs A).2 ops' fails'->aF [f,m,mc] h h'->F92.wL2 g (ah f) (tz f) h' K):
  F92.wL2 (g+1) (ah f) (tz f) h K:=by
 rw[F92.sL2];unfold tz;refine bz Cp (u6 W H d1 d2 d3 hph hp1 hp2 λh1 fails1 H1 W1 O1=>aQ rfl ?_);cases hd:(bK base n cs A).1.done with
 |true=>
  rw[Bool.not_true,aD];unfold F92.wk3;exact uO H1 ⟨_,_,rfl,hD hd h1 _ _ W1 O1⟩
 |false=>
  rw[Bool.not_false,aG];exact hN hd h1 _ _ H1 W1 O1
def dY{g:Nat}{A':Dc}{cs':List Int}(e:bK base n cs A=(A',cs'))(hi:True)(W:DW h d m mc base n cs ops fails)(H:cd h f d bx by_ A)(d1:f≠d)(d2:f≠m)(d3:f≠mc)(hph:A.ph<=14)(hp1:A.ph=2\/A.ph=7->0<=A.b)(hp2:A.ph=13->0<=A.t)(hd:A'.done=false)
  (hN: ∀h' ops' fails',cd h' f d bx by_ A'->DW h' d m mc base n cs' ops' fails'->aF [f,m,mc] h h'->F92.wL2 g (ah f) (tz f) h' K):
  F92.wL2 (g+1) (ah f) (tz f) h K:=by
 refine wu hi W H d1 d2 d3 hph hp1 hp2 (λh'=> ?_) λ_=> ?_
 ·rw[e,hd]at h';cases h'
 ·rw[e];exact hN
def gr{g:Nat}{A':Dc}{cs':List Int}(e:bK base n cs A=(A',cs'))(hi:True)(W:DW h d m mc base n cs ops fails)(H:cd h f d bx by_ A)(d1:f≠d)(d2:f≠m)(d3:f≠mc)(hph:A.ph<=14)(hp1:A.ph=2\/A.ph=7->0<=A.b)(hp2:A.ph=13->0<=A.t)(hd:A'.done=true)
  (hD: ∀h' ops' fails',DW h' d m mc base n cs' ops' fails'->aF [f,m,mc] h h'->K (.tuple #[af (gV A'),aw (gZ A')]) h'):
  F92.wL2 (g+1) (ah f) (tz f) h K:=by
 refine wu hi W H d1 d2 d3 hph hp1 hp2 (λ_=> ?_) λh'=> ?_
 ·rw[e];exact hD
 ·rw[e,hd]at h';cases h'
def jD(base n:Nat)(cs cs':List Int):Prop:=cs'.length=cs.length/\ ∀x,x<base\/base+2+n<=x->cs'.getD x 0=cs.getD x 0
def yn{v:Int}{T:Nat}{q:List Int}(W:DW h d m mc base n cs ops fails)(S:DS base n cs T q)(hT:T+q.length<1000000000)(H:cd h f d bx by_ ⟨v,0,0,0,false,false⟩)(d1:f≠d)(d2:f≠m)(d3:f≠mc)
  (hK: ∀h' ops' fails' cs',(q.length<n->DS base n cs' T (q++[v]))->(¬q.length<n->cs'=cs)->jD base n cs cs'->DW h' d m mc base n cs' ops' fails'->aF [f,m,mc] h h'->K (.tuple #[af (if q.length<n then v else 0),aw (decide (q.length<n))]) h'):
  Cl 92 [ag (ah f)] h K:=by
 apply F92.spec;unfold F92.wk2;have hb:ai (cs.getD (base+1) 0)=((T+q.length:Nat):Int):=by rw[S.bot,wrap_i64 Y Y]
 have ht:ai (cs.getD base 0)=(T:Int):=by rw[S.top,wrap_i64 Y Y]
 have hl:=W.hl;have hn:=W.hn;refine⟨4,?_⟩
 refine dY (A':=⟨v,0,((T+q.length:Nat):Int),1,false,false⟩) (cs':=cs) (by unfold bK;simp only[Bool.false_eq_true,if_false,hb]) (by decide) W H d1 d2 d3 Z Z Z rfl λh1 o1 f1 H1 W1 O1=> ?_
 have hw:ai (((T+q.length:Nat):Int)-(T:Int))=(q.length:Int):=by rw[wrap_i64 Y Y];omega
 by_cases hlt:q.length<n
 ·have e1:bK base n cs ⟨v,0,((T+q.length:Nat):Int),1,false,false⟩=(⟨v,T,((T+q.length:Nat):Int),2,false,false⟩,cs):=by
   unfold bK;simp only[Bool.false_eq_true,if_false,ht,hw];rw[decide_eq_false Y];simp
  refine dY e1 (by decide) W1 H1 d1 d2 d3 Z Z Z rfl λh2 o2 f2 H2 W2 O2=> ?_;refine dY (A':=⟨v,T,((T+q.length:Nat):Int),3,false,false⟩) (cs':=cs.set (cY base n ((T+q.length:Nat):Int)) v) (by simp[bK]) (by decide) W2 H2 d1 d2 d3 Z (λ_=>by show(0:Int)<=((T+q.length:Nat):Int);omega) Z rfl λh3 o3 f3 H3 W3 O3=> ?_
  refine gr (A':=⟨v,T,((T+q.length:Nat):Int),3,true,true⟩) (cs':=(cs.set (cY base n ((T+q.length:Nat):Int)) v).set (base+1) (((T+q.length+1:Nat):Int))) (by unfold bK;simp only[Bool.false_eq_true,if_false];rw[wrap_i64 Y Y,bG Y Y];simp) (by decide) W3 H3 d1 d2 d3 Z Z Z rfl λh4 o4 f4 W4 O4=> ?_
  have P:=((O1.trans O2 λb hb _=>hb).trans O3 λb hb _=>hb).trans O4 λb hb _=>hb;have hs:=xp base n (T+q.length);have hm:(T+q.length)%n<n:=Nat.mod_lt _ Y;have:=hK h4 o4 f4 _ (λ_=> ?_) (λh=>absurd hlt h) ?_ W4 P
  ·rw[if_pos hlt,decide_eq_true hlt]at this;simpa[gV,gZ]using this
  ·rw[hs];refine⟨?_,?_,by simp;omega,λi hi=> ?_⟩
   ·rw[bh (by simp;omega),if_neg Y,bh Y,if_neg Y];exact S.top
   ·rw[bh (by simp;omega),if_pos rfl];simp;omega
   ·rw[bh (by simp;omega),if_neg Y,bh Y];simp at hi;by_cases hi':i=q.length
    ·subst hi';rw[if_pos rfl];simp[List.getD]
    ·have hi2:i<q.length:=Y
     have hne: ¬base+2+(T+q.length)%n=base+2+(T+i)%n:=by intro e;have e:(T+q.length)%n=(T+i)%n:=Y;have h1:=Nat.sub_mod_eq_zero_of_mod_eq e;rw[show T+q.length-(T+i)=q.length-i by omega,Nat.mod_eq_of_lt Y]at h1;omega
     rw[if_neg hne,S.val i hi2];simp only[List.getD,List.getElem?_append_left hi2]
  ·rw[hs];refine⟨Z,λx hx=> ?_⟩;rw[bh (by simp;omega),if_neg Y,bh Y,if_neg Y]
 ·have e1:bK base n cs ⟨v,0,((T+q.length:Nat):Int),1,false,false⟩=(⟨v,T,((T+q.length:Nat):Int),2,true,false⟩,cs):=by
   unfold bK;simp only[Bool.false_eq_true,if_false,ht,hw];rw[decide_eq_true Y];simp
  refine gr e1 (by decide) W1 H1 d1 d2 d3 Z Z Z rfl λh2 o2 f2 W2 O2=> ?_;have:=hK h2 o2 f2 cs (λh=>absurd h hlt) (λ_=>rfl) ⟨rfl,λ_ _=>rfl⟩ W2 (O1.trans O2 λb hb _=>hb);rw[if_neg hlt,decide_eq_false hlt]at this;simpa[gV,gZ]using this
end
end
section
section
variable {h h0:aA}{f d bx by_ m mc base n:Nat}{cs:List Int}{ops fails:Int}{K:KK}
def vg{T:Nat}{q:List Int}(W:DW h d m mc base n cs ops fails)(S:DS base n cs T q)(hT:T+q.length<1000000000)(H:cd h f d bx by_ ⟨0,0,0,11,false,false⟩)(d1:f≠d)(d2:f≠m)(d3:f≠mc)
  (hE:q=[]-> ∀h' ops' fails',DW h' d m mc base n cs ops' fails'->aF [f,m,mc] h h'->K (.tuple #[af 0,aq]) h')
  (hK: ∀x q',q=x::q'-> ∀h' ops' fails' cs',DS base n cs' (T+1) q'->jD base n cs cs'->DW h' d m mc base n cs' ops' fails'->aF [f,m,mc] h h'->K (.tuple #[af x,au]) h'):
  Cl 92 [ag (ah f)] h K:=by
 apply F92.spec;unfold F92.wk2;have hb:ai (cs.getD (base+1) 0)=((T+q.length:Nat):Int):=by rw[S.bot,wrap_i64 Y Y]
 have ht:ai (cs.getD base 0)=(T:Int):=by rw[S.top,wrap_i64 Y Y]
 have hl:=W.hl;have hn:=W.hn;refine⟨4,?_⟩
 refine dY (A':=⟨0,T,0,12,false,false⟩) (cs':=cs) (by unfold bK;simp only[Bool.false_eq_true,if_false,ht]) (by decide) W H d1 d2 d3 Z Z Z rfl λh1 o1 f1 H1 W1 O1=> ?_
 cases q with
 |nil=>
  refine gr (A':=⟨0,T,T,13,true,false⟩) (cs':=cs) (by unfold bK;simp only[Bool.false_eq_true,if_false,hb];simp) (by decide) W1 H1 d1 d2 d3 Z Z Z rfl λh2 o2 f2 W2 O2=> ?_
  have:=hE rfl h2 o2 f2 W2 (O1.trans O2 λb hb _=>hb);simpa[gV,gZ]using this
 |cons x q'=>
  simp only[List.length_cons]at hb hT
  refine dY (A':=⟨0,T,((T+(q'.length+1):Nat):Int),13,false,false⟩) (cs':=cs) (by unfold bK;simp only[Bool.false_eq_true,if_false,hb];rw[decide_eq_false Y];simp) (by decide) W1 H1 d1 d2 d3 Z Z Z rfl λh2 o2 f2 H2 W2 O2=> ?_
  have hv:cs.getD (cY base n (T:Int)) 0=x:=by rw[xp];have:=S.val 0 Z;simpa using this
  refine dY (A':=⟨x,T,((T+(q'.length+1):Nat):Int),14,false,false⟩) (cs':=cs) (by unfold bK;simp only[Bool.false_eq_true,if_false,hv]) (by decide) W2 H2 d1 d2 d3 Z Z (λ_=>by show(0:Int)<=(T:Int);omega) rfl λh3 o3 f3 H3 W3 O3=> ?_
  refine gr (A':=⟨x,T,((T+(q'.length+1):Nat):Int),14,true,true⟩) (cs':=cs.set base ((T+1:Nat):Int)) (by unfold bK;simp only[Bool.false_eq_true,if_false];rw[if_pos (by rw[S.top,bG Y Y]),wrap_i64 Y Y,bG Y Y];simp) (by decide) W3 H3 d1 d2 d3 Z Z Z rfl λh4 o4 f4 W4 O4=> ?_
  have P:=((O1.trans O2 λb hb _=>hb).trans O3 λb hb _=>hb).trans O4 λb hb _=>hb;have:=hK x q' rfl h4 o4 f4 _ ?_ ?_ W4 P
  ·simpa[gV,gZ]using this
  ·refine⟨?_,?_,by have:=S.len;simp at this;omega,λi hi=> ?_⟩
   ·rw[bh Y,if_pos rfl]
   ·rw[bh Y,if_neg Y,S.bot];simp only[List.length_cons];omega
   ·rw[bh Y,if_neg Y,show T+1+i=T+(i+1) by omega,S.val (i+1) (by simp;omega)];simp[List.getD]
  ·refine⟨Z,λy hy=> ?_⟩;rw[bh Y,if_neg Y]
def AY{T:Nat}{q:List Int}(W:DW h d m mc base n cs ops fails)(S:DS base n cs T q)(hT:T+q.length<1000000000)(H:cd h f d bx by_ ⟨0,0,0,4,false,false⟩)(d1:f≠d)(d2:f≠m)(d3:f≠mc)
  (hE:q=[]-> ∀h' ops' fails' cs',DS base n cs' T []->jD base n cs cs'->DW h' d m mc base n cs' ops' fails'->aF [f,m,mc] h h'->K (.tuple #[af 0,aq]) h')
  (hK: ∀x q' T',q=q'++[x]->T'+q'.length<=T+q.length->DS base n cs (T) q-> ∀h' ops' fails' cs',DS base n cs' T' q'->jD base n cs cs'->DW h' d m mc base n cs' ops' fails'->aF [f,m,mc] h h'->K (.tuple #[af x,au]) h'):
  Cl 92 [ag (ah f)] h K:=by
 apply F92.spec;unfold F92.wk2;have hb:ai (cs.getD (base+1) 0)=((T+q.length:Nat):Int):=by rw[S.bot,wrap_i64 Y Y]
 have ht:ai (cs.getD base 0)=(T:Int):=by rw[S.top,wrap_i64 Y Y]
 have hl:=W.hl;have hn:=W.hn;refine⟨6,?_⟩
 refine dY (A':=⟨0,0,((T+q.length:Nat):Int)-1,5,false,false⟩) (cs':=cs) (by unfold bK;simp only[Bool.false_eq_true,if_false,hb];rw[wrap_i64 Y Y]) (by decide) W H d1 d2 d3 Z Z Z rfl λh1 o1 f1 H1 W1 O1=> ?_
 refine dY (A':=⟨0,0,((T+q.length:Nat):Int)-1,6,false,false⟩) (cs':=cs.set (base+1) (IntKind.wrap .u64 (((T+q.length:Nat):Int)-1))) (by unfold bK;simp only[Bool.false_eq_true,if_false]) (by decide) W1 H1 d1 d2 d3 Z Z Z rfl λh2 o2 f2 H2 W2 O2=> ?_
 have ht2:ai ((cs.set (base+1) (IntKind.wrap .u64 (((T+q.length:Nat):Int)-1))).getD base 0)=(T:Int):=by rw[bh Y,if_neg Y,ht]
 have top2:(cs.set (base+1) (IntKind.wrap .u64 (((T+q.length:Nat):Int)-1))).getD base 0=(T:Int):=by rw[bh Y,if_neg Y,S.top]
 have P2:=O1.trans O2 λb hb _=>hb;have ap2:jD base n cs (cs.set (base+1) (IntKind.wrap .u64 (((T+q.length:Nat):Int)-1))):=⟨Z,λy hy=>by rw[bh Y,if_neg Y]⟩;by_cases hq:q=[]
 ·subst hq;simp only[List.length_nil,Nat.add_zero]at*
  refine dY (A':=⟨0,T,(T:Int)-1,10,false,false⟩) (cs':=cs.set (base+1) (IntKind.wrap .u64 ((T:Int)-1))) (by unfold bK;simp only[Bool.false_eq_true,if_false,ht2];rw[decide_eq_true Y];simp) (by decide) W2 H2 d1 d2 d3 Z Z Z rfl λh3 o3 f3 H3 W3 O3=> ?_
  refine gr (A':=⟨0,T,(T:Int)-1,10,true,false⟩) (cs':=(cs.set (base+1) (IntKind.wrap .u64 ((T:Int)-1))).set (base+1) (T:Int)) (by unfold bK;simp only[Bool.false_eq_true,if_false];rw[show(T:Int)-1+1=T by omega,wrap_i64 (n:=(T:Int)) Y Y,bG (n:=(T:Int)) Y Y]) (by decide) W3 H3 d1 d2 d3 Z Z Z rfl λh4 o4 f4 W4 O4=> ?_
  have:=hE (by trivial) h4 o4 f4 _ ⟨?_,?_,Nat.zero_le _,λi hi=>by simp at hi⟩ ⟨Z,λy hy=> ?_⟩ W4 ((P2.trans O3 λb hb _=>hb).trans O4 λb hb _=>hb)
  ·simpa[gV,gZ]using this
  ·rw[bh (by simp;omega),if_neg Y];exact top2
  ·rw[bh (by simp;omega),if_pos rfl];simp
  ·rw[bh (by simp;omega),if_neg Y];exact ap2.2 y hy
 ·obtain⟨q',x,rfl⟩: ∃q' x,q=q'++[x]:=⟨q.dropLast,q.getLast hq,(List.dropLast_concat_getLast hq).symm⟩;have sl:=S.len;simp only[List.length_append,List.length_cons,List.length_nil,Nat.zero_add]at*
  have eb:(((T+(q'.length+1):Nat):Int)-1)=((T+q'.length:Nat):Int):=Y;have ew:IntKind.wrap .u64 ((T+q'.length:Nat):Int)=((T+q'.length:Nat):Int):=bG Y Y;simp only[eb,ew]at H1 H2 W2 ht2 top2 ap2
  refine dY (A':=⟨0,T,((T+q'.length:Nat):Int),7,false,false⟩) (cs':=cs.set (base+1) ((T+q'.length:Nat):Int)) (by unfold bK;simp only[Bool.false_eq_true,if_false,ht2];rw[decide_eq_false Y];simp) (by decide) W2 H2 d1 d2 d3 Z Z Z rfl λh3 o3 f3 H3 W3 O3=> ?_
  have hmod:(T+q'.length)%n<n:=Nat.mod_lt _ Y
  have hv:(cs.set (base+1) ((T+q'.length:Nat):Int)).getD (cY base n ((T+q'.length:Nat):Int)) 0=x:=by rw[xp,bh Y,if_neg Y,S.val q'.length Z];simp[List.getD]
  have vals: ∀i,i<q'.length->(cs.set (base+1) ((T+q'.length:Nat):Int)).getD (base+2+(T+i)%n) 0=q'.getD i 0:=by intro i hi;rw[bh Y,if_neg Y,S.val i (by simp;omega)];simp only[List.getD,List.getElem?_append_left hi]
  by_cases h1q:T<T+q'.length
  ·refine gr (A':=⟨x,T,((T+q'.length:Nat):Int),7,true,true⟩) (cs':=cs.set (base+1) ((T+q'.length:Nat):Int)) (by
    unfold bK;simp only[Bool.false_eq_true,if_false,hv];rw[if_pos (decide_eq_true Y)]) (by decide) W3 H3 d1 d2 d3 Z (λ_=>by show(0:Int)<=((T+q'.length:Nat):Int);omega) Z rfl λh4 o4 f4 W4 O4=> ?_
   have:=hK x q' T rfl Y S h4 o4 f4 _ ⟨top2,by rw[bh Y,if_pos rfl],Y,vals⟩ ap2 W4 ((P2.trans O3 λb hb _=>hb).trans O4 λb hb _=>hb);simpa[gV,gZ]using this
  ·have hq0:q'=[]:=List.length_eq_zero_iff.1 Y;subst hq0;simp only[List.length_nil,Nat.add_zero]at*
   refine dY (A':=⟨x,T,(T:Int),8,false,false⟩) (cs':=cs.set (base+1) (T:Int)) (by unfold bK;simp only[Bool.false_eq_true,if_false,hv];rw[if_neg Z]) (by decide) W3 H3 d1 d2 d3 Z (λ_=>by show(0:Int)<=(T:Int);omega) Z rfl λh4 o4 f4 H4 W4 O4=> ?_
   refine dY (A':=⟨x,T,(T:Int),9,false,true⟩) (cs':=(cs.set (base+1) (T:Int)).set base ((T+1:Nat):Int)) (by unfold bK;simp only[Bool.false_eq_true,if_false];rw[if_pos (by rw[top2,bG Y Y]),wrap_i64 Y Y,bG Y Y];simp) (by decide) W4 H4 d1 d2 d3 Z Z Z rfl λh5 o5 f5 H5 W5 O5=> ?_
   refine gr (A':=⟨x,T,(T:Int),9,true,true⟩) (cs':=((cs.set (base+1) (T:Int)).set base ((T+1:Nat):Int)).set (base+1) ((T+1:Nat):Int)) (by unfold bK;simp only[Bool.false_eq_true,if_false];rw[wrap_i64 Y Y,bG Y Y];simp) (by decide) W5 H5 d1 d2 d3 Z Z Z rfl λh6 o6 f6 W6 O6=> ?_
   have:=hK x [] (T+1) rfl Z S h6 o6 f6 _ ⟨?_,?_,Nat.zero_le _,λi hi=>by simp at hi⟩ ⟨Z,λy hy=> ?_⟩ W6 ((((P2.trans O3 λb hb _=>hb).trans O4 λb hb _=>hb).trans O5 λb hb _=>hb).trans O6 λb hb _=>hb)
   ·simpa[gV,gZ]using this
   ·rw[bh (by simp;omega),if_neg Y,bh (by simp;omega),if_pos rfl]
   ·rw[bh (by simp;omega),if_pos rfl];simp
   ·rw[bh (by simp;omega),if_neg Y,bh (by simp;omega),if_neg Y];exact ap2.2 y hy
end
end
section
section
variable {h:aA}{d m mc base n:Nat}{cs:List Int}{ops fails:Int}{Q:KK}{T:Nat}{q:List Int}
def zy{v:Int}(W:DW h d m mc base n cs ops fails)(S:DS base n cs T q)(hT:T+q.length<1000000000)
  (hQ: ∀h' ops' fails' cs',(q.length<n->DS base n cs' T (q++[v]))->(¬q.length<n->cs'=cs)->jD base n cs cs'->DW h' d m mc base n cs' ops' fails'->aF [m,mc] h h'->Q (.tuple #[af (if q.length<n then v else 0),aw (decide (q.length<n))]) h'):
  Cl 93 [ag (ah d),af v] h (λv1 h2=>bi (some v1) (λp3=>Cl 92 [.pointer p3] h2 Q)):=by
 have lt:=W.lt;refine zn λf bx by_ h1 H1 O1 a b c a' b' c' n1 n2 n3=>aJ rfl ?_;refine yn (W.only O1 Z Z Z) S hT H1 Y Y Y λh2 o2 f2 cs2 r1 r2 r3 W2 O2=> ?_
 exact hQ h2 o2 f2 cs2 r1 r2 r3 W2 ((O1.mono (T:=[m,mc]) Z).trans O2 λx hx hl=>by simp at hx ⊢;omega)
def AK(W:DW h d m mc base n cs ops fails)(S:DS base n cs T q)(hT:T+q.length<1000000000)
  (hE:q=[]-> ∀h' ops' fails' cs',DS base n cs' T []->jD base n cs cs'->DW h' d m mc base n cs' ops' fails'->aF [m,mc] h h'->Q (.tuple #[af 0,aq]) h')
  (hQ: ∀x q' T',q=q'++[x]->T'+q'.length<=T+q.length-> ∀h' ops' fails' cs',DS base n cs' T' q'->jD base n cs cs'->DW h' d m mc base n cs' ops' fails'->aF [m,mc] h h'->Q (.tuple #[af x,au]) h'):
  Cl 177 [ag (ah d)] h (λv1 h2=>bi (some v1) (λp3=>Cl 92 [.pointer p3] h2 Q)):=by
 have lt:=W.lt;refine BK λf bx by_ h1 H1 O1 a b c a' b' c' n1 n2 n3=>aJ rfl ?_
 have hO: ∀h2,aF [f,m,mc] h1 h2->aF [m,mc] h h2:=λh2 O2=>(O1.mono (T:=[m,mc]) Z).trans O2 λx hx hl=>by simp at hx ⊢;omega
 exact AY (W.only O1 Z Z Z) S hT H1 Y Y Y (λe h2 o2 f2 cs2 r1 r2 W2 O2=>hE e h2 o2 f2 cs2 r1 r2 W2 (hO h2 O2)) λx q' T' e le _ h2 o2 f2 cs2 r1 r2 W2 O2=>hQ x q' T' e le h2 o2 f2 cs2 r1 r2 W2 (hO h2 O2)
def wA(W:DW h d m mc base n cs ops fails)(S:DS base n cs T q)(hT:T+q.length<1000000000)
  (hE:q=[]-> ∀h' ops' fails',DW h' d m mc base n cs ops' fails'->aF [m,mc] h h'->Q (.tuple #[af 0,aq]) h')
  (hQ: ∀x q',q=x::q'-> ∀h' ops' fails' cs',DS base n cs' (T+1) q'->jD base n cs cs'->DW h' d m mc base n cs' ops' fails'->aF [m,mc] h h'->Q (.tuple #[af x,au]) h'):
  Cl 178 [ag (ah d)] h (λv1 h2=>bi (some v1) (λp3=>Cl 92 [.pointer p3] h2 Q)):=by
 have lt:=W.lt;refine wO λf bx by_ h1 H1 O1 a b c a' b' c' n1 n2 n3=>aJ rfl ?_
 have hO: ∀h2,aF [f,m,mc] h1 h2->aF [m,mc] h h2:=λh2 O2=>(O1.mono (T:=[m,mc]) Z).trans O2 λx hx hl=>by simp at hx ⊢;omega
 exact vg (W.only O1 Z Z Z) S hT H1 Y Y Y (λe h2 o2 f2 W2 O2=>hE e h2 o2 f2 W2 (hO h2 O2)) λx q' e h2 o2 f2 cs2 r1 r2 W2 O2=>hQ x q' e h2 o2 f2 cs2 r1 r2 W2 (hO h2 O2)
end
end
section
end
section
structure Wk where
 w:Nat
 d:Nat
 m:Nat
 mc:Nat
 cs:List Int
 ops:Int
 fails:Int
 T:Nat
 q:List Int
 job:Int
def Wk.bl(k:Wk):List Nat:=[k.w,k.d,k.m,k.mc]
structure jc(h:aA)(k:Wk):Prop where
 own:At h k.w [aX k.d,ac k.job]
 dw:DW h k.d k.m k.mc 0 64 k.cs k.ops k.fails
 ds:DS 0 64 k.cs k.T k.q
 ne:k.w≠k.d/\k.w≠k.m/\k.w≠k.mc
def jc.only{h h':aA}{k:Wk}{S:List Nat}(H:jc h k)(O:aF S h h')(hS: ∀b∈S,b∉k.bl):jc h' k:=
 ⟨H.own.only O λhm=>hS _ hm (by simp[Wk.bl]),H.dw.only O (λhm=>hS _ hm (by simp[Wk.bl])) (λhm=>hS _ hm (by simp[Wk.bl])) λhm=>hS _ hm (by simp[Wk.bl]),H.ds,H.ne⟩
def jc.lt{h:aA}{k:Wk}(H:jc h k): ∀b∈k.bl,b<h.size:=λb hb=>by have h1:=H.own.lt;obtain⟨h2,h3,h4⟩:=H.dw.lt;simp only[Wk.bl,List.mem_cons,List.not_mem_nil,or_false]at hb;rcases hb with e|e|e|e<;>subst e<;>assumption
structure Jb where
 id:Nat
 A:MA
 G:i4
structure PS where
 wp:ak
 wc:Nat
 jb:Nat
 ws:List Wk
 jobs:List Jb
 last:Nat
 steals:Int
def gW(s:Nat)(P:PS):List Value:=[aX s,.slice P.wp P.ws.length P.wc,.map (some P.jb),ac (P.last:Int),ac P.steals]
def cV(p:Nat)(P:PS)(b:Nat):Prop:=b=p\/b=P.jb\/b∈aR P.wp\/(∃k∈P.ws,b∈k.bl)\/ ∃j∈P.jobs,b∈j.A.bl
structure Eo(τ:Nat->Nat)(p:Nat)(P:PS):Prop where
 p:τ p=0
 jb:τ P.jb=0
 wp: ∀b∈aR P.wp,τ b=0
 ws: ∀i k,P.ws[i]? =some k-> ∀b∈k.bl,τ b=2*i+1
 jobs: ∀j∈P.jobs,∀b∈j.A.bl,τ b=2*j.id+2
structure bo(h:aA)(p s:Nat)(P:PS):Prop where
 own:At h p (gW s P)
 wks:ct h 0 1 P.wp P.ws.length P.wc (P.ws.map λk=>aX k.w)
 wk: ∀k∈P.ws,jc h k
 jbm:bU h P.jb .i64 (P.jobs.map λj=>((j.id:Int),aX j.A.m))
 ma: ∀j∈P.jobs,bX h s j.A
 sep: ∃τ,Eo τ p P
 ne:p≠P.jb/\p∉aR P.wp/\P.jb∉aR P.wp
 ids:(P.jobs.map (·.id)).Nodup/\ ∀j∈P.jobs,1<=j.id/\j.id<=P.last
section
variable {h h':aA}{p s:Nat}{P:PS}{S:List Nat}
def bo.only(H:bo h p s P)(O:aF S h h')(hS: ∀b∈S,¬cV p P b):bo h' p s P:=by refine⟨H.own.only O λhm=>hS _ hm (.inl rfl),H.wks.only O λb e hm=>hS b hm (.inr (.inr (.inl (by rw[e];simp[aR])))),λk hk=>(H.wk k hk).only O λb hb hm=>hS b hb (.inr (.inr (.inr (.inl ⟨k,hk,hm⟩)))),H.jbm.only O λhm=>hS _ hm (.inr (.inl rfl)),λj hj=>(H.ma j hj).only O λb hb hm=>hS b hb (.inr (.inr (.inr (.inr ⟨j,hj,hm⟩)))),H.sep,H.ne,H.ids⟩
def bo.only0(H:bo h p s P)(O:aF [] h h'):bo h' p s P:=H.only O Z
def bo.lt(H:bo h p s P): ∀b,cV p P b->b<h.size:=λb hb=>by
 rcases hb with e|e|hb|⟨k,hk,hb⟩|⟨j,hj,hb⟩
 ·subst e;exact H.own.lt
 ·subst e;exact H.jbm.lt
 ·exact(H.wks.lt b hb).2
 ·exact(H.wk k hk).lt b hb
 ·exact(H.ma j hj).lt b hb
def bo.set_wk(H:bo h p s P){i:Nat}{k k':Wk}(hi:P.ws[i]? =some k)(O:aF S h h')(hS: ∀b∈S,b∈k.bl)(W:jc h' k')(hb:k'.bl=k.bl):bo h' p s {P with ws:=P.ws.set i k'}:=by
 obtain⟨τ,t⟩:=H.sep;have hil:i<P.ws.length:=(List.getElem?_eq_some_iff.1 hi).1;have tS: ∀b∈S,τ b=2*i+1:=λb hb=>t.ws i k hi b (hS b hb);have ew:k'.w=k.w:=by simp only[Wk.bl,List.cons.injEq]at hb;exact hb.1
 have em:(P.ws.set i k').map (λk=>aX k.w)=P.ws.map λk=>aX k.w:=by
  rw[List.map_set];apply List.ext_getElem?;intro j;rw[List.getElem?_set];by_cases hij:i=j
  ·subst hij;rw[if_pos rfl,if_pos (by simpa using hil),List.getElem?_map,hi];simp[ew]
  ·rw[if_neg hij]
 refine⟨?_,?_,λx hx=> ?_,H.jbm.only O λhm=>by have:=tS _ hm;have:=t.jb;omega,λj hj=>(H.ma j hj).only O λb hb hm=>by have:=tS b hb;have:=t.jobs j hj b hm;omega,⟨τ,t.p,t.jb,t.wp,λj x hx b hb'=> ?_,t.jobs⟩,H.ne,H.ids⟩
 ·have:=H.own.only O (λhm=>by have:=tS _ hm;have:=t.p;omega);simpa[gW]using this
 ·show ct h' 0 1 P.wp (P.ws.set i k').length P.wc ((P.ws.set i k').map λk=>aX k.w);rw[em,List.length_set];exact H.wks.only O λb e hm=>by have:=tS b hm;have:=t.wp b (by rw[e];simp[aR]);omega
 ·obtain⟨j,hj⟩:=List.mem_iff_getElem?.1 hx;have hj:(P.ws.set i k')[j]? =some x:=hj;rw[List.getElem?_set]at hj;by_cases hij:i=j
  ·rw[if_pos hij,if_pos Y]at hj;injection hj with hj;subst hj;exact W
  ·rw[if_neg hij]at hj;refine(H.wk x (List.mem_of_getElem? hj)).only O λb hb hm=> ?_;have:=tS b hb;have:=t.ws j x hj b hm;omega
 ·have hx:(P.ws.set i k')[j]? =some x:=hx;rw[List.getElem?_set]at hx;by_cases hij:i=j
  ·subst hij;rw[if_pos rfl,if_pos hil]at hx;injection hx with hx;subst hx;rw[hb]at hb';exact t.ws i k hi b hb'
  ·rw[if_neg hij]at hx;exact t.ws j x hx b hb'
def dJ{i b:Nat}{k k':Wk}(hi:P.ws[i]? =some k)(hb:k'.bl=k.bl)(h:cV p {P with ws:=P.ws.set i k'} b):cV p P b:=by
 have hil:i<P.ws.length:=(List.getElem?_eq_some_iff.1 hi).1;rcases h with e|e|h|⟨x,hx,h⟩|h
 ·exact .inl e
 ·exact .inr (.inl e)
 ·exact .inr (.inr (.inl h))
 ·obtain⟨j,hj⟩:=List.mem_iff_getElem?.1 hx;have hj:(P.ws.set i k')[j]? =some x:=hj;rw[List.getElem?_set]at hj;by_cases hij:i=j
  ·rw[if_pos hij,if_pos Y]at hj;injection hj with hj;subst hj;rw[hb]at h;exact .inr (.inr (.inr (.inl ⟨k,List.mem_of_getElem? hi,h⟩)))
  ·rw[if_neg hij]at hj;exact .inr (.inr (.inr (.inl ⟨x,List.mem_of_getElem? hj,h⟩)))
 ·exact .inr (.inr (.inr (.inr h)))
def bo.set_ma(H:bo h p s P){i:Nat}{j:Jb}{A':MA}(hi:P.jobs[i]? =some j)(O:aF S h h')(hS: ∀b∈S,cV p P b->b∈j.A.bl)(M:bX h' s A')(em:A'.m=j.A.m)(hb: ∀b∈A'.bl,b∈j.A.bl\/h.size<=b):
  bo h' p s {P with jobs:=P.jobs.set i {j with A:=A'}}:=by
 obtain⟨τ,t⟩:=H.sep;have hil:i<P.jobs.length:=(List.getElem?_eq_some_iff.1 hi).1;have hj:=List.mem_of_getElem? hi;have tS: ∀b∈S,cV p P b->τ b=2*j.id+2:=λb hb h=>t.jobs j hj b (hS b hb h)
 have map_set: ∀{β:Type} (f:Jb->β),f {j with A:=A'}=f j->(P.jobs.set i {j with A:=A'}).map f=P.jobs.map f:=λf e=>by
  rw[List.map_set,e];apply List.ext_getElem?;intro x;rw[List.getElem?_set];by_cases hix:i=x
  ·subst hix;rw[if_pos rfl,if_pos (by simpa using hil),List.getElem?_map,hi]
   rfl
  ·rw[if_neg hix]
 have uniq: ∀x y,P.jobs[x]? =some y->y.id=j.id->x=i:=λx y hy e=>by
  have nd:=H.ids.1;have h1:(P.jobs.map (·.id))[x]? =some j.id:=by rw[List.getElem?_map,hy];simp[e]
  have h2:(P.jobs.map (·.id))[i]? =some j.id:=by rw[List.getElem?_map,hi];rfl
  have l1:x<(P.jobs.map (·.id)).length:=(List.getElem?_eq_some_iff.1 h1).1;have l2:i<(P.jobs.map (·.id)).length:=(List.getElem?_eq_some_iff.1 h2).1;apply Classical.byContradiction;intro hne;rcases Nat.lt_or_ge x i with h|h
  ·have:=(List.pairwise_iff_getElem.1 nd) x i l1 l2 h;rw[List.getElem?_eq_getElem l1]at h1;rw[List.getElem?_eq_getElem l2]at h2;injection h1 with h1;injection h2 with h2;exact this (h1.trans h2.symm)
  ·have:=(List.pairwise_iff_getElem.1 nd) i x l2 l1 Y;rw[List.getElem?_eq_getElem l1]at h1;rw[List.getElem?_eq_getElem l2]at h2;injection h1 with h1;injection h2 with h2;exact this (h2.trans h1.symm)
 have tp: ∀b∈S,b≠p:=λb hb e=>by subst e;have:=tS b hb (.inl rfl);have:=t.p;omega
 refine⟨?_,H.wks.only O λb e hm=> ?_,λk hk=>(H.wk k hk).only O λb hb hm=> ?_,?_,λy hy=> ?_,⟨λb=>if b<h.size then τ b else 2*j.id+2,?_,?_,λb hb=> ?_,λx k hk b hb=> ?_,λy hy b hb'=> ?_⟩,H.ne,?_⟩
 ·have:=H.own.only O (λhm=>tp _ hm rfl);exact this
 ·have hb:b∈aR P.wp:=by rw[e];simp[aR]
  have:=tS b hm (.inr (.inr (.inl hb)));have:=t.wp b hb;omega
 ·have h1:=tS b hb (.inr (.inr (.inr (.inl ⟨k,hk,hm⟩))));obtain⟨x,hx⟩:=List.mem_iff_getElem?.1 hk;have:=t.ws x k hx b hm;omega
 ·show bU h' P.jb .i64 ((P.jobs.set i {j with A:=A'}).map λj=>((j.id:Int),aX j.A.m));rw[map_set (λj=>((j.id:Int),aX j.A.m)) (by simp[em])];exact H.jbm.only O λhm=>by have:=tS _ hm (.inr (.inl rfl));have:=t.jb;omega
 ·obtain⟨x,hx⟩:=List.mem_iff_getElem?.1 hy;have hx:(P.jobs.set i {j with A:=A'})[x]? =some y:=hx;rw[List.getElem?_set]at hx;by_cases hix:i=x
  ·rw[if_pos hix,if_pos Y]at hx;injection hx with hx;subst hx;exact M
  ·rw[if_neg hix]at hx;refine(H.ma y (List.mem_of_getElem? hx)).only O λb hb hm=> ?_;have h1:=tS b hb (.inr (.inr (.inr (.inr ⟨y,List.mem_of_getElem? hx,hm⟩))));have h2:=t.jobs y (List.mem_of_getElem? hx) b hm;exact hix (uniq x y hx Y).symm
 ·show(if p<h.size then τ p else _)=0;rw[if_pos H.own.lt];exact t.p
 ·show(if P.jb<h.size then τ P.jb else _)=0;rw[if_pos H.jbm.lt];exact t.jb
 ·show(if b<h.size then τ b else _)=0;rw[if_pos (H.wks.lt b hb).2];exact t.wp b hb
 ·show(if b<h.size then τ b else _)=_;rw[if_pos ((H.wk k (List.mem_of_getElem? hk)).lt b hb)];exact t.ws x k hk b hb
 ·show(if b<h.size then τ b else _)=_;obtain⟨x,hx⟩:=List.mem_iff_getElem?.1 hy;have hx:(P.jobs.set i {j with A:=A'})[x]? =some y:=hx;rw[List.getElem?_set]at hx;by_cases hix:i=x
  ·rw[if_pos hix,if_pos Y]at hx;injection hx with hx;subst hx;rcases hb b hb' with h1|h1
   ·rw[if_pos ((H.ma j hj).lt b h1)];exact t.jobs j hj b h1
   ·rw[if_neg Y]
  ·rw[if_neg hix]at hx;rw[if_pos ((H.ma y (List.mem_of_getElem? hx)).lt b hb')];exact t.jobs y (List.mem_of_getElem? hx) b hb'
 ·refine⟨?_,λy hy=> ?_⟩
  ·show((P.jobs.set i {j with A:=A'}).map (·.id)).Nodup;rw[map_set (·.id) rfl];exact H.ids.1
  ·obtain⟨x,hx⟩:=List.mem_iff_getElem?.1 hy;have hx:(P.jobs.set i {j with A:=A'})[x]? =some y:=hx;rw[List.getElem?_set]at hx;by_cases hix:i=x
   ·rw[if_pos hix,if_pos Y]at hx;injection hx with hx;subst hx;exact H.ids.2 j hj
   ·rw[if_neg hix]at hx;exact H.ids.2 y (List.mem_of_getElem? hx)
end
end
section
def zi{P:Program}{h:aA}{t e:TypeId}{j:TypeInfo}{a b:Addr}{K:Bool->Prop}(ht:P.underlying t=some (.pointer e))(hi:P.info? e=some j)(hz:Nat.beq j.size 0=false)
  (h1:a=b->K true) (h2:a≠b->(∃c u,h[a.block]? =some (.cells c u))/\(∃c u,h[b.block]? =some (.cells c u))/\K false):Ar P h t (ag a) (ag b) K:=by
 unfold Ar;rw[ht];dsimp only;rw[hi];dsimp only;rw[hz];exact⟨h1,h2⟩
def Eb:Tryz.prog.underlying 164=some (.pointer 166):=by kernel_rfl
def CC:(Tryz.prog.info? 166).map (λi=>Nat.beq i.size 0)=some false:=by kernel_rfl
def At.cells{h:aA}{b:Nat}{c:List Value}(A:At h b c): ∃c u,h[b]? =some (.cells c u):=by obtain⟨e,he⟩:=A;exact⟨_,_,he⟩
section
variable {h:aA}{p s:Nat}{P:PS}{k:Wk}{K:KK}
def vD(W:jc h k)(hT:k.T+k.q.length<1000000000)(hx: ∀x∈k.q,0<=x/\x<1000000000)
  (hE:k.q=[]-> ∀h' k',jc h' k'->k'.bl=k.bl->k'.q=[]->k'.job=k.job->k'.T=k.T->aF k.bl h h'->K aq h')
  (hQ: ∀x q',k.q=q'++[x]-> ∀h' k',jc h' k'->k'.bl=k.bl->k'.q=q'->k'.job=x->k'.T+k'.q.length<=k.T+k.q.length->aF k.bl h h'->K au h'):
  Cl 129 [aX k.w] h K:=by
 refine F129.spec ?_;simp only[aE,Nat.zero_add,Nat.add_zero];refine aJ (n:=some (ah k.d)) (by rw[At.rd W.own];rfl) ?_;obtain⟨n1,n2,n3⟩:=W.ne;refine AK W.dw W.ds hT (λe h1 o f cs D1 _ W1 O1=>⟨_,_,rfl,?_⟩) λx q' T' e le h1 o f cs D1 _ W1 O1=>⟨_,_,rfl,?_⟩
 ·rw[aD];exact hE e h1 ⟨k.w,k.d,k.m,k.mc,cs,o,f,k.T,[],k.job⟩ ⟨W.own.only O1 (by simp;omega),W1,D1,W.ne⟩ rfl rfl rfl rfl (O1.mono λb hb _=>by simp[Wk.bl]at hb ⊢;omega)
 ·rw[aG];have hx1:=hx x (by rw[e];simp);refine aK (W.own.only O1 (by simp;omega)) Z rfl λh2 A2 O2 z2=> ?_;have lt:=W1.lt;rw[wrap_i64 (n:=x) Y Y]at A2;exact hQ x q' e h2 ⟨k.w,k.d,k.m,k.mc,cs,o,f,T',q',x⟩ ⟨A2,W1.only O2 (by simp;omega) (by simp;omega) (by simp;omega),D1,W.ne⟩ rfl rfl rfl le ((O1.mono λb hb _=>by simp[Wk.bl]at hb ⊢;omega).trans O2 λb hb _=>by simp[Wk.bl]at hb ⊢;omega)
end
def oB(k k':Wk):Prop:=k'.bl=k.bl/\k'.q=k.q/\k'.job=k.job/\k'.T=k.T
def dI(a b:List Wk):Prop:=b.length=a.length/\ ∀(i:Nat) (k:Wk),a[i]? =some k-> ∃k':Wk,b[i]? =some k'/\oB k k'
def dI.refl(a:List Wk):dI a a:=⟨rfl,λi k h=>⟨k,h,rfl,rfl,rfl,rfl⟩⟩
def dI.set{a b:List Wk}(H:dI a b){i:Nat}{k k':Wk}(hi:b[i]? =some k)(e:oB k k'):dI a (b.set i k'):=by
 refine⟨by rw[List.length_set];exact H.1,λj x hx=> ?_⟩;obtain⟨y,hy,e1,e2,e3,e4⟩:=H.2 j x hx;rw[List.getElem?_set];by_cases hij:i=j
 ·subst hij;rw[hi]at hy;injection hy with hy;subst hy;rw[if_pos rfl,if_pos (List.getElem?_eq_some_iff.1 hi).1];exact⟨k',rfl,e.1.trans e1,e.2.1.trans e2,e.2.2.1.trans e3,e.2.2.2.trans e4⟩
 ·rw[if_neg hij];exact⟨y,hy,e1,e2,e3,e4⟩
section
variable {h:aA}{p s:Nat}{P:PS}{K:KK}
def oB.w{k k':Wk}(e:oB k k'):k'.w=k.w:=by have:=e.1;simp only[Wk.bl,List.cons.injEq]at this;exact this.1
def cw(H:bo h p s P):rd h (ah p)=some (aX s)/\rd h ⟨p,1,none⟩=some (.slice P.wp P.ws.length P.wc)/\rd h ⟨p,2,none⟩=some (.map (some P.jb))/\rd h ⟨p,3,none⟩=some (ac (P.last:Int))/\rd h ⟨p,4,none⟩=some (ac P.steals):=
 ⟨by rw[At.rd H.own];rfl,by rw[At.rd H.own];rfl,by rw[At.rd H.own];rfl,by rw[At.rd H.own];rfl,by rw[At.rd H.own];rfl⟩
def wQ(H:bo h p s P){i:Nat}{k:Wk}(hi:P.ws[i]? =some k): ∃b,P.wp=some (ah b)/\rd h ⟨b,i,none⟩=some (aX k.w):=by
 have hil:=(List.getElem?_eq_some_iff.1 hi).1;obtain⟨b,e,r⟩:=H.wks.rd (j:=i) (by simpa using hil);refine⟨b,e,?_⟩;rw[r,List.getElem?_map,hi]
 rfl
def bo.set_cell{h':aA}{l:Nat}{st:Int}(H:bo h p s P)(O:aF [p] h h')(A:At h' p (gW s {P with last:=l,steals:=st}))(hl:P.last<=l):bo h' p s {P with last:=l,steals:=st}:=by
 obtain⟨τ,t⟩:=H.sep;have np: ∀b,b∈[p]->τ b=0:=λb hb=>by simp only[List.mem_singleton]at hb;subst hb;exact t.p
 refine⟨A,H.wks.only O λb e hm=> ?_,λk hk=>(H.wk k hk).only O λb hb hm=> ?_,H.jbm.only O λhm=> ?_,λj hj=>(H.ma j hj).only O λb hb hm=> ?_,⟨τ,t.p,t.jb,t.wp,t.ws,t.jobs⟩,H.ne,H.ids.1,λj hj=> ?_⟩
 ·simp only[List.mem_singleton]at hm;subst hm;exact H.ne.2.1 (by rw[e];simp[aR])
 ·obtain⟨x,hx⟩:=List.mem_iff_getElem?.1 hk;have:=t.ws x k hx b hm;have:=np b hb;omega
 ·simp only[List.mem_singleton]at hm;exact H.ne.1 hm.symm
 ·have:=t.jobs j hj b hm;have:=np b hb;omega
 ·have:=H.ids.2 j hj;show 1<=j.id/\j.id<=l;omega
set_option maxRecDepth 100000 in
def uR(H:bo h p s P){i0:Nat}{kw:Wk}(h0:P.ws[i0]? =some kw){draw:Int}(hn:P.ws.length<=1000)(hT: ∀k∈P.ws,k.T+k.q.length<1000000000)(hx: ∀k∈P.ws,∀x∈k.q,0<=x/\x<1000000000)(hst:0<=P.steals/\P.steals<1000000000)
  (hN: ∀h' ws,bo h' p s {P with ws:=ws}->dI P.ws ws->(∀b,cV p {P with ws:=ws} b->cV p P b)->(∀S,(∀b,cV p P b->b∈S)->aF S h h')->K aq h')
  (hS: ∀h' ws i1 k1 x q1 kw' k1' ws',dI P.ws ws->i1≠i0->ws[i1]? =some k1->k1.q=x::q1->ws[i0]? =some kw'->k1'.bl=k1.bl->k1'.q=q1->k1'.job=k1.job->k1'.T=k1.T+1->ws'=(ws.set i1 k1').set i0 {kw' with job:=x}->bo h' p s {P with ws:=ws',steals:=P.steals+1}->(∀b,cV p {P with ws:=ws',steals:=P.steals+1} b->cV p P b)->(∀S,(∀b,cV p P b->b∈S)->aF S h h')->K au h'):
  Cl 130 [aX p,aX kw.w,ac draw] h K:=by
 refine F130.spec _ _ _ h K ?_;simp only[aE,Nat.zero_add,Nat.add_zero];refine bj (cw H).2.1 ?_;unfold F130.wk3;have hlen:i0<P.ws.length:=(List.getElem?_eq_some_iff.1 h0).1
 have main: ∀(d i:Nat) (h1:aA) (ws:List Wk),i+d=P.ws.length->bo h1 p s {P with ws:=ws}->dI P.ws ws->(∀b,cV p {P with ws:=ws} b->cV p P b)->(∀S,(∀b,cV p P b->b∈S)->aF S h h1)->
   F130.wL3 (d+1) (ah p) (ah kw.w) draw (P.ws.length:Int) (P.ws.length:Int) (i:Int) h1 K:=by
  intro d
  induction d with
  |zero=>
   intro i h1 ws hi H1 E1 B1 O1;rw[F130.sL3];rw[decide_eq_false Y,aD];exact hN h1 ws H1 E1 B1 O1
  |succ d ih=>
   intro i h1 ws hi H1 E1 B1 O1;have el:ws.length=P.ws.length:=E1.1;have ew:ai ((i:Int)+1)=((i+1:Nat):Int):=by rw[wrap_i64 Y Y];omega
   rw[F130.sL3];rw[decide_eq_true Y,aG,ew];simp only[aE,Nat.zero_add,Nat.add_zero]
   obtain⟨x,hxl,ex⟩: ∃x:Nat,x<P.ws.length/\(Int.tmod (ai ((Int.tmod (ai ((Int.tmod draw (P.ws.length:Int))+(i:Int))) (P.ws.length:Int))+(P.ws.length:Int))) (P.ws.length:Int))=(x:Int):=by
    obtain⟨n,hnn⟩: ∃n:Int,n=(P.ws.length:Int):=⟨_,rfl⟩;rw[<-hnn];have npos:0<n:=Y;have b1:=Int.tmod_lt_of_pos draw npos;have b2: -n<draw.tmod n:=by have:=Int.lt_tmod_of_pos draw npos;omega
    rw[wrap_i64 (n:=draw.tmod n+(i:Int)) Y Y];have c1:=Int.tmod_lt_of_pos (draw.tmod n+(i:Int)) npos;have c2: -n<(draw.tmod n+(i:Int)).tmod n:=by have:=Int.lt_tmod_of_pos (draw.tmod n+(i:Int)) npos;omega
    rw[wrap_i64 (n:=(draw.tmod n+(i:Int)).tmod n+n) Y Y];have d1:=Int.tmod_lt_of_pos ((draw.tmod n+(i:Int)).tmod n+n) npos;have d2:=Int.tmod_nonneg n (a:=(draw.tmod n+(i:Int)).tmod n+n) Y;exact⟨(((draw.tmod n+(i:Int)).tmod n+n).tmod n).toNat,Y,Y⟩
   obtain⟨k1,hk1⟩: ∃k1,ws[x]? =some k1:=⟨_,List.getElem?_eq_getElem Y⟩;obtain⟨b,eb,rb⟩:=wQ H1 hk1;rw[ex];refine bj (cw H1).2.1 ⟨Y,Y,Y,?_⟩;dsimp only at eb ⊢;rw[eb,aL,el];refine⟨Y,Y,?_⟩;simp only[aE,Nat.zero_add,Nat.add_zero,Int.toNat_natCast,Nat.mul_one];refine aJ rb ?_;obtain⟨kw',hkw,e0⟩:=E1.2 i0 kw h0;have ekw:=e0.w
   obtain⟨j,hj⟩: ∃j,Tryz.prog.info? 166=some j:=by
    cases hh:Tryz.prog.info? 166 with
    |none=>have:=CC;rw[hh]at this;cases this
    |some j=>exact⟨j,rfl⟩
   have hjz:Nat.beq j.size 0=false:=by have:=CC;rw[hj]at this;simpa using this
   have W1:=H1.wk k1 (List.mem_of_getElem? hk1);have Ww:=H1.wk kw' (List.mem_of_getElem? hkw);refine zi Eb hj hjz (λe=> ?_) λe=>⟨W1.own.cells,by rw[<-ekw];exact Ww.own.cells,?_⟩
   ·rw[aG];exact ih (i+1) h1 ws Y H1 E1 B1 O1
   ·rw[aD]
    have hne:x≠i0:=λe'=>by subst e';rw[hk1]at hkw;injection hkw with hkw;subst hkw;exact e (by rw[ekw])
    rw[aL];simp only[aE,Nat.zero_add,Nat.add_zero];refine aJ (n:=some (ah k1.d)) (by rw[At.rd W1.own];rfl) ?_;obtain⟨k0,hk0⟩: ∃k0,P.ws[x]? =some k0:=⟨_,List.getElem?_eq_getElem Y⟩;obtain⟨k1a,hk1a,q1,q2,q3,q4⟩:=E1.2 x k0 hk0;rw[hk1]at hk1a;injection hk1a with hk1a;subst hk1a;have hk0m:=List.mem_of_getElem? hk0;have hT1:k1.T+k1.q.length<1000000000:=by rw[q2,q4];exact hT k0 hk0m
    obtain⟨n1,n2,n3⟩:=W1.ne;have hp: ∀h2 S,(∀b,cV p P b->b∈S)->aF [k1.m,k1.mc] h1 h2->aF S h h2:=λh2 S hS O2=>(O1 S hS).trans O2 λb hb _=>hS b (B1 b (.inr (.inr (.inr (.inl ⟨k1,List.mem_of_getElem? hk1,by simp[Wk.bl]at hb ⊢;omega⟩)))));refine wA W1.dw W1.ds hT1 (λeq h2 o f W2 O2=>⟨_,_,rfl,?_⟩) λy q' eq h2 o f cs D2 _ W2 O2=>⟨_,_,rfl,?_⟩
    ·rw[aD];have Wn:jc h2 ⟨k1.w,k1.d,k1.m,k1.mc,k1.cs,o,f,k1.T,k1.q,k1.job⟩:=⟨W1.own.only O2 (by simp;omega),W2,W1.ds,W1.ne⟩;have H2:=H1.set_wk (k':=⟨k1.w,k1.d,k1.m,k1.mc,k1.cs,o,f,k1.T,k1.q,k1.job⟩) hk1 O2 (λb hb=>by simp[Wk.bl]at hb ⊢;omega) Wn rfl;exact ih (i+1) h2 _ Y H2 (E1.set hk1 ⟨rfl,rfl,rfl,rfl⟩) (λb hb=>B1 b (dJ (P:={P with ws:=ws}) hk1 (by rfl) hb)) λS hS=>hp h2 S hS O2
    ·rw[aG];have Wn:jc h2 ⟨k1.w,k1.d,k1.m,k1.mc,cs,o,f,k1.T+1,q',k1.job⟩:=⟨W1.own.only O2 (by simp;omega),W2,D2,W1.ne⟩;have H2:=H1.set_wk (k':=⟨k1.w,k1.d,k1.m,k1.mc,cs,o,f,k1.T+1,q',k1.job⟩) hk1 O2 (λb hb=>by simp[Wk.bl]at hb ⊢;omega) Wn rfl;have hkw2:(ws.set x ⟨k1.w,k1.d,k1.m,k1.mc,cs,o,f,k1.T+1,q',k1.job⟩)[i0]? =some kw':=by rw[List.getElem?_set,if_neg hne];exact hkw
     have Ww2:=H2.wk kw' (List.mem_of_getElem? hkw2);have hy:0<=y/\y<1000000000:=hx k0 hk0m y (by rw[<-q2,eq];simp);rw[wrap_i64 (n:=y) Y Y,<-ekw];refine aK Ww2.own Z rfl λh3 A3 O3 z3=> ?_;obtain⟨m1,m2,m3⟩:=Ww2.ne;have H3:=H2.set_wk (k':={kw' with job:=y}) hkw2 O3 (λb hb=>by simp[Wk.bl]at hb ⊢;omega) ⟨A3,Ww2.dw.only O3 (by simp;omega) (by simp;omega) (by simp;omega),Ww2.ds,Ww2.ne⟩ rfl;dsimp only at H3;refine aB (cw H3).2.2.2.2 ?_;dsimp only;rw[wrap_i64 (n:=P.steals+1) Y Y];refine aK H3.own (by simp[gW]) rfl λh4 A4 O4 z4=> ?_;have H4:=H3.set_cell (l:=P.last) (st:=P.steals+1) O4 (by simpa[gW]using A4) (Nat.le_refl _);dsimp only at H4
     have hB: ∀b,cV p {P with ws:=(ws.set x ⟨k1.w,k1.d,k1.m,k1.mc,cs,o,f,k1.T+1,q',k1.job⟩).set i0 {kw' with job:=y},steals:=P.steals+1} b->cV p P b:=λb hb=>
      B1 b (dJ (P:={P with ws:=ws}) (k':=⟨k1.w,k1.d,k1.m,k1.mc,cs,o,f,k1.T+1,q',k1.job⟩) hk1 (by rfl) (dJ (P:={P with ws:=ws.set x ⟨k1.w,k1.d,k1.m,k1.mc,cs,o,f,k1.T+1,q',k1.job⟩}) (k':={kw' with job:=y}) hkw2 (by rfl) hb))
     refine hS h4 ws x k1 y q' kw' ⟨k1.w,k1.d,k1.m,k1.mc,cs,o,f,k1.T+1,q',k1.job⟩ _ E1 hne hk1 eq hkw rfl rfl rfl rfl rfl H4 hB λS hS'=> ?_;refine((hp h2 S hS' O2).trans O3 λb hb _=> ?_).trans O4 λb hb _=> ?_
     ·simp only[List.mem_singleton]at hb;subst hb;exact hS' _ (B1 _ (.inr (.inr (.inr (.inl ⟨kw',List.mem_of_getElem? hkw,by simp[Wk.bl]⟩)))))
     ·simp only[List.mem_singleton]at hb;subst hb;exact hS' _ (.inl rfl)
 exact⟨_,main P.ws.length 0 h P.ws Y H (dI.refl _) (λb hb=>hb) λS hS=>aF.refl _ _⟩
end
end
section
def eE{α:Type}(f:α->Nat): ∀(l:List α) (i:Nat) (a a':α),l[i]? =some a->((l.set i a').map f).sum+f a=(l.map f).sum+f a'
 | [],i,a,a',h=>by simp at h
 |x::l,0,a,a',h=>by simp at h;subst h;simp;omega
 |x::l,i+1,a,a',h=>by have ih:=eE f l i a a' (by simpa using h);simp only[List.set_cons_succ,List.map_cons,List.sum_cons];omega
def dO{α:Type}{l:List α}(h:l.Nodup){x y:Nat}{a:α}(hx:l[x]? =some a)(hy:l[y]? =some a):x=y:=by
 obtain⟨l1,e1⟩:=List.getElem?_eq_some_iff.1 hx;obtain⟨l2,e2⟩:=List.getElem?_eq_some_iff.1 hy;apply Classical.byContradiction;intro hne;rcases Nat.lt_or_ge x y with h'|h'
 ·exact(List.pairwise_iff_getElem.1 h) x y l1 l2 h' (e1.trans e2.symm)
 ·exact(List.pairwise_iff_getElem.1 h) y x l2 l1 Y (e2.trans e1.symm)
def fh{α β:Type}(f:α->List β): ∀(l:List α) (i:Nat) (a a':α),l[i]? =some a->(f a++(l.set i a').flatMap f).Perm (f a'++l.flatMap f)
 | [],i,a,a',h=>by simp at h
 |x::l,0,a,a',h=>by simp at h;subst h;simp only[List.set_cons_zero,List.flatMap_cons];exact List.perm_append_comm_assoc _ _ _
 |x::l,i+1,a,a',h=>by have ih:=fh f l i a a' (by simpa using h);simp only[List.set_cons_succ,List.flatMap_cons];exact(List.perm_append_comm_assoc _ _ _).trans ((ih.append_left _).trans (List.perm_append_comm_assoc _ _ _))
def dQ{α:Type}{l:List α}{i:Nat}{a x:α}(h:x∈l.set i a):x=a\/ ∃j,j≠i/\l[j]? =some x:=by
 obtain⟨j,hj⟩:=List.mem_iff_getElem?.1 h;rw[List.getElem?_set]at hj;by_cases hij:i=j
 ·rw[if_pos hij]at hj;split at hj
  ·injection hj with hj;exact .inl hj.symm
  ·cases hj
 ·rw[if_neg hij]at hj;exact .inr ⟨j,λe=>hij e.symm,hj⟩
def Wk.loc(k:Wk):List Int:=(if k.job=0 then []else [k.job])++k.q
def locs(ws:List Wk):List Int:=ws.flatMap Wk.loc
def qlen(ws:List Wk):Nat:=(ws.map λk=>k.q.length).sum
structure bF(n:Nat)(fo:Nat->Nat)(N:aj)(P:PS):Prop where
 mst: ∀j∈P.jobs,ng n fo N j.G j.A/\dX n N j.A.fs<=90000
 at_: ∀x∈locs P.ws,∃j∈P.jobs,x=(j.id:Int)/\j.A.done=false
 one:(locs P.ws).Nodup
 loc: ∀j∈P.jobs,j.A.done=false->(j.id:Int)∈locs P.ws
 T: ∀k∈P.ws,k.T+k.q.length<=P.last
 len:1<=P.ws.length/\P.ws.length<=4
 last:P.last<100000000
 steals:0<=P.steals/\P.steals+(qlen P.ws:Int)<=(P.last:Int)
def phi(n:Nat)(N:aj)(P:PS):Nat:=(P.jobs.map λj=>dX n N j.A.fs).sum+qlen P.ws
def psi(n:Nat)(N:aj)(P:PS):Nat:=aT N+(P.jobs.map λj=>fu n N j.A.fs).sum
def oB.loc{k k':Wk}(e:oB k k'):k'.loc=k.loc:=by unfold Wk.loc;rw[e.2.1,e.2.2.1]
def dI.map{β:Type}{a b:List Wk}(H:dI a b)(f:Wk->β)(hf: ∀k k',oB k k'->f k'=f k):b.map f=a.map f:=by
 apply List.ext_getElem?;intro i;rw[List.getElem?_map,List.getElem?_map];cases h:a[i]? with
 |none=>
  rw[List.getElem?_eq_none (by have:=H.1;have:=List.getElem?_eq_none_iff.1 h;omega)]
 |some k=>
  obtain⟨k',h',e⟩:=H.2 i k h;rw[h'];simp[hf k k' e]
def dI.locs{a b:List Wk}(H:dI a b):locs b=locs a:=by unfold Ev.locs;rw[List.flatMap_def,List.flatMap_def,H.map Wk.loc λk k' e=>e.loc]
def dI.qlen{a b:List Wk}(H:dI a b):qlen b=qlen a:=by unfold Ev.qlen;rw[H.map (λk=>k.q.length) λk k' e=>by rw[e.2.1]]
def dI.mem{a b:List Wk}(H:dI a b){k':Wk}(h:k'∈b): ∃k∈a,oB k k':=by obtain⟨i,hi⟩:=List.mem_iff_getElem?.1 h;have hl:=(List.getElem?_eq_some_iff.1 hi).1;have h1:a[i]? =some (a[i]'(by have:=H.1;omega)):=List.getElem?_eq_getElem _;obtain⟨x,hx,e⟩:=H.2 i _ h1;rw[hi]at hx;injection hx with hx;subst hx;exact⟨_,List.getElem_mem _,e⟩
section
variable {n:Nat}{fo:Nat->Nat}{N N':aj}{P:PS}
def bF.eq(H:bF n fo N P){ws:List Wk}(E:dI P.ws ws):bF n fo N {P with ws:=ws}/\phi n N {P with ws:=ws}=phi n N P/\psi n N {P with ws:=ws}=psi n N P:=by
 refine⟨⟨H.mst,?_,?_,?_,λk hk=> ?_,by show 1<=ws.length/\ws.length<=4;rw[E.1];exact H.len,H.last,?_⟩,?_,rfl⟩
 ·show ∀x∈locs ws,_;rw[E.locs];exact H.at_
 ·show(locs ws).Nodup;rw[E.locs];exact H.one
 ·show ∀j∈P.jobs,_->_∈locs ws;rw[E.locs];exact H.loc
 ·obtain⟨k0,h0,e⟩:=E.mem hk;have:=H.T k0 h0;rw[e.2.1,e.2.2.2];exact this
 ·show 0<=P.steals/\P.steals+(qlen ws:Int)<=_;rw[E.qlen];exact H.steals
 ·unfold phi;show _+qlen ws=_;rw[E.qlen]
def ng.frs{G:i4}{A:MA}(M:ng n fo N G A): ∀f∈A.fs,eO n fo N f:=λf hf=>by
 rcases M with⟨-,-,-,R⟩|⟨-,-,h,-⟩|⟨-,-,h⟩
 ·exact R.frs f hf
 ·rw[h]at hf;cases hf
 ·rw[h]at hf;cases hf
def iS.goal{G:i4}{r:Nat}(hG:isN N G.a0/\isN N G.a1/\isN N G.a2)(ok:ey n N)(E:Ex N N')(R:iS n fo N G.op G.a0 G.a1 G.a2 r):iS n fo N' G.op G.a0 G.a1 G.a2 r:=R.ext ok E hG.1 hG.2.1 hG.2.2
def ng.ext{G:i4}{A:MA}(hG:isN N G.a0/\isN N G.a1/\isN N G.a2)(ok:ey n N)(E:Ex N N')(M:ng n fo N G A):ng n fo N' G A:=by
 rcases M with⟨h1,h2,h3,R⟩|⟨h1,h2,h3,R⟩|h
 ·exact .inl ⟨h1,h2,h3,R.ext ok E⟩
 ·exact .inr (.inl ⟨h1,h2,h3,R.goal hG ok E⟩)
 ·exact .inr (.inr h)
end
def dc(N:aj)(P:PS):Prop:= ∀j∈P.jobs,isN N j.G.a0/\isN N j.G.a1/\isN N j.G.a2
section
variable {n:Nat}{fo:Nat->Nat}{N N':aj}{P:PS}
def bF.step(H:bF n fo N P)(GO:dc N P)(ok:ey n N)(E:Ex N N'){i w:Nat}{j:Jb}{k:Wk}{A':MA}(ids:(P.jobs.map (·.id)).Nodup)(pos:1<=j.id)(hi:P.jobs[i]? =some j)(hw:P.ws[w]? =some k)(hj:k.job=(j.id:Int))(M:ng n fo N' j.G A')
  (hm:dX n N' A'.fs+1<=dX n N j.A.fs) (hc:aT N'+fu n N' A'.fs<=aT N+fu n N j.A.fs):
  bF n fo N' {P with jobs:=P.jobs.set i {j with A:=A'},ws:=if A'.done=true then P.ws.set w {k with job:=0}else P.ws}/\
  phi n N' {P with jobs:=P.jobs.set i {j with A:=A'},ws:=if A'.done=true then P.ws.set w {k with job:=0}else P.ws}+1<=phi n N P/\
  psi n N' {P with jobs:=P.jobs.set i {j with A:=A'},ws:=if A'.done=true then P.ws.set w {k with job:=0}else P.ws}<=psi n N P:=by
 have hjm:=List.mem_of_getElem? hi;have hil:=(List.getElem?_eq_some_iff.1 hi).1;have hkm:=List.mem_of_getElem? hw;have hwl:=(List.getElem?_eq_some_iff.1 hw).1
 have uniq: ∀y∈P.jobs,y.id=j.id->y=j:=λy hy e=>by
  obtain⟨x,hx⟩:=List.mem_iff_getElem?.1 hy;have h1:(P.jobs.map (·.id))[x]? =some j.id:=by rw[List.getElem?_map,hx];simp[e]
  have h2:(P.jobs.map (·.id))[i]? =some j.id:=by rw[List.getElem?_map,hi];rfl
  have:=dO ids h1 h2;subst this;rw[hi]at hx;injection hx with hx;exact hx.symm
 have hk0:k.job≠0:=Y;have kl:k.loc=k.job::k.q:=by unfold Wk.loc;rw[if_neg hk0];rfl
 have rest: ∀y∈P.jobs.set i {j with A:=A'},y={j with A:=A'}\/(y∈P.jobs/\y.id≠j.id):=λy hy=>by
  rcases dQ hy with h|⟨x,hx,h⟩
  ·exact .inl h
  ·refine .inr ⟨List.mem_of_getElem? h,λe=>hx ?_⟩;have:=uniq y (List.mem_of_getElem? h) e;subst this;exact dO ids (x:=x) (y:=i) (a:=y.id) (by rw[List.getElem?_map,h];rfl) (by rw[List.getElem?_map,hi];rfl)
 have same: ∀y∈P.jobs,dX n N' y.A.fs=dX n N y.A.fs/\fu n N' y.A.fs=fu n N y.A.fs:=λy hy=>⟨jo (fo:=fo) E (H.mst y hy).1.frs,kY (fo:=fo) E (H.mst y hy).1.frs⟩
 have mst': ∀y∈P.jobs.set i {j with A:=A'},ng n fo N' y.G y.A/\dX n N' y.A.fs<=90000:=λy hy=>by
  rcases rest y hy with h|⟨h,-⟩
  ·subst h;have:=(H.mst j hjm).2;exact⟨M,by show dX n N' A'.fs<=90000;omega⟩
  ·exact⟨(H.mst y h).1.ext (GO y h) ok E,by rw[(same y h).1];exact(H.mst y h).2⟩
 have up: ∀y∈P.jobs,y.id≠j.id->y∈P.jobs.set i {j with A:=A'}:=λy hy hne=>by
  obtain⟨x,hx⟩:=List.mem_iff_getElem?.1 hy;refine List.mem_iff_getElem?.2 ⟨x,?_⟩;rw[List.getElem?_set,if_neg λe=> ?_]
  ·exact hx
  ·subst e;rw[hi]at hx;injection hx with hx;subst hx;exact hne rfl
 have upj:{j with A:=A'}∈P.jobs.set i {j with A:=A'}:=List.mem_iff_getElem?.2 ⟨i,by rw[List.getElem?_set,if_pos rfl,if_pos hil]⟩;have smu:=eE (λy:Jb=>dX n N' y.A.fs) P.jobs i j {j with A:=A'} hi;have snb:=eE (λy:Jb=>fu n N' y.A.fs) P.jobs i j {j with A:=A'} hi;have e1:P.jobs.map (λy:Jb=>dX n N' y.A.fs)=P.jobs.map λy=>dX n N y.A.fs:=List.map_congr_left λy hy=>(same y hy).1;have e2:P.jobs.map (λy:Jb=>fu n N' y.A.fs)=P.jobs.map λy=>fu n N y.A.fs:=List.map_congr_left λy hy=>(same y hy).2;rw[e1]at smu;rw[e2]at snb;have s1:=(same j hjm).1;have s2:=(same j hjm).2;dsimp only at smu snb
 have psi':psi n N' {P with jobs:=P.jobs.set i {j with A:=A'},ws:=if A'.done=true then P.ws.set w {k with job:=0}else P.ws}<=psi n N P:=by unfold psi;dsimp only;omega
 by_cases hd:A'.done=true
 ·simp only[if_pos hd]at psi' ⊢;have perm:=fh Wk.loc P.ws w k {k with job:=0} hw;have k0:({k with job:=0}:Wk).loc=k.q:=by unfold Wk.loc;simp
  rw[kl,k0]at perm
  have perm:(k.job::locs (P.ws.set w {k with job:=0})).Perm (locs P.ws):=by
   have p2:(k.q++(k.job::locs (P.ws.set w {k with job:=0}))).Perm (k.q++locs P.ws):=by refine List.Perm.trans ?_ perm;exact List.perm_middle
   exact(List.perm_append_left_iff _).1 p2
  have nd:=perm.nodup_iff.2 H.one;have nd1:=(List.nodup_cons.1 nd);have ql:=eE (λk:Wk=>k.q.length) P.ws w k {k with job:=0} hw;dsimp only at ql;refine⟨⟨mst',λx hx=> ?_,nd1.2,λy hy hdn=> ?_,λx hx=> ?_,by show 1<=(P.ws.set w _).length/\(P.ws.set w _).length<=4;rw[List.length_set];exact H.len,H.last,?_⟩,?_,psi'⟩
  ·obtain⟨y,hy,e,hdn⟩:=H.at_ x (perm.mem_iff.1 (List.mem_cons_of_mem _ hx));refine⟨y,up y hy λe'=> ?_,e,hdn⟩;have:x=k.job:=by rw[e,e',hj]
   subst this;exact nd1.1 hx
  ·rcases rest y hy with h|⟨h,hne⟩
   ·subst h;rw[hd]at hdn;cases hdn
   ·have:=perm.mem_iff.2 (H.loc y h hdn);rcases List.mem_cons.1 this with e|e
    ·exfalso;rw[hj]at e;exact hne Y
    ·exact e
  ·rcases dQ hx with h|⟨z,-,h⟩
   ·subst h;exact H.T k hkm
   ·exact H.T x (List.mem_of_getElem? h)
  ·have:=H.steals;unfold qlen at this ⊢;dsimp only;omega
  ·unfold phi qlen;dsimp only;omega
 ·simp only[if_neg hd]at psi' ⊢;have hd:A'.done=false:=by cases h:A'.done<;>simp_all
  refine⟨⟨mst',λx hx=> ?_,H.one,λy hy hdn=> ?_,H.T,H.len,H.last,H.steals⟩,?_,psi'⟩
  ·obtain⟨y,hy,e,hdn⟩:=H.at_ x hx;by_cases hne:y.id=j.id
   ·exact⟨_,upj,by show x=(j.id:Int);rw[e,hne],hd⟩
   ·exact⟨y,up y hy hne,e,hdn⟩
  ·rcases rest y hy with h|⟨h,hne⟩
   ·subst h;refine List.mem_flatMap.2 ⟨k,hkm,?_⟩;rw[kl,hj];exact List.mem_cons_self
   ·exact H.loc y h hdn
  ·unfold phi;dsimp only;omega
end
end
section
section
variable {n:Nat}{fo:Nat->Nat}{N N':aj}{P:PS}
def bF.perm(H:bF n fo N P){ws:List Wk}{st:Int}(hl:ws.length=P.ws.length)(hp:(locs ws).Perm (locs P.ws))(hT: ∀k∈ws,k.T+k.q.length<=P.last)(hst:0<=st/\st+(qlen ws:Int)<=(P.last:Int)):bF n fo N {P with ws:=ws,steals:=st}:=
 ⟨H.mst,λx hx=>H.at_ x (hp.mem_iff.1 hx),hp.nodup_iff.2 H.one,λj hj hd=>hp.mem_iff.2 (H.loc j hj hd),hT,by show 1<=ws.length/\ws.length<=4;rw[hl];exact H.len,H.last,hst⟩
def vw{ws:List Wk}{w:Nat}{k k':Wk}(hw:ws[w]? =some k)(e:k'.loc.Perm k.loc):(locs (ws.set w k')).Perm (locs ws):=by have p:=fh Wk.loc ws w k k' hw;exact(List.perm_append_left_iff k.loc).1 (p.trans (e.append_right _))
def jH{k:Wk}(h:k.job=0):k.loc=k.q:=by unfold Wk.loc;rw[if_pos h];rfl
def jA{k:Wk}(h:k.job≠0):k.loc=k.job::k.q:=by unfold Wk.loc;rw[if_neg h];rfl
def bF.take(H:bF n fo N P){w:Nat}{k k':Wk}{x:Int}{q':List Int}(hw:P.ws[w]? =some k)(h0:k.job=0)(hq:k.q=q'++[x])(hx:x≠0)(e1:k'.q=q')(e2:k'.job=x)(hT:k'.T+k'.q.length<=k.T+k.q.length):
  bF n fo N {P with ws:=P.ws.set w k'}/\phi n N {P with ws:=P.ws.set w k'}+1=phi n N P:=by
 have hk:=List.mem_of_getElem? hw;have ql:=eE (λk:Wk=>k.q.length) P.ws w k k' hw;have l1:k.q.length=k'.q.length+1:=by rw[hq,e1];simp
 have lk:k'.loc.Perm k.loc:=by rw[jH h0,jA (by rw[e2];exact hx),e1,e2,hq];exact List.perm_append_comm (l₁:=[x])
 refine⟨H.perm (st:=P.steals) Z (vw hw lk) (λy hy=> ?_) ?_,?_⟩
 ·rcases dQ hy with h|⟨z,-,h⟩
  ·subst h;have:=H.T k hk;omega
  ·exact H.T y (List.mem_of_getElem? h)
 ·have:=H.steals;unfold qlen at this ⊢;omega
 ·unfold phi qlen;dsimp only;omega
def bF.steal(H:bF n fo N P){i0 i1:Nat}{k1 k1' kw:Wk}{x:Int}{q1:List Int}(hne:i1≠i0)(h1:P.ws[i1]? =some k1)(hw:P.ws[i0]? =some kw)(h0:kw.job=0)(hq:k1.q=x::q1)(hx:x≠0)(e1:k1'.q=q1)(e2:k1'.job=k1.job)(e3:k1'.T=k1.T+1):
  bF n fo N {P with ws:=(P.ws.set i1 k1').set i0 {kw with job:=x},steals:=P.steals+1}/\phi n N {P with ws:=(P.ws.set i1 k1').set i0 {kw with job:=x},steals:=P.steals+1}+1=phi n N P:=by
 have hw2:(P.ws.set i1 k1')[i0]? =some kw:=by rw[List.getElem?_set,if_neg hne];exact hw
 have q1':=eE (λk:Wk=>k.q.length) P.ws i1 k1 k1' h1;have q2':=eE (λk:Wk=>k.q.length) (P.ws.set i1 k1') i0 kw {kw with job:=x} hw2;dsimp only at q1' q2';have l1:k1.q.length=k1'.q.length+1:=by rw[hq,e1];simp
 have p1:=fh Wk.loc P.ws i1 k1 k1' h1;have p2:=fh Wk.loc (P.ws.set i1 k1') i0 kw {kw with job:=x} hw2;have lw:({kw with job:=x}:Wk).loc=x::kw.q:=jA hx
 have lk:k1.loc.Perm (x::k1'.loc):=by unfold Wk.loc;rw[e2,e1,hq];exact List.perm_middle
 rw[jH h0,lw]at p2
 have p2:(locs ((P.ws.set i1 k1').set i0 {kw with job:=x})).Perm (x::locs (P.ws.set i1 k1')):=by have:(kw.q++locs ((P.ws.set i1 k1').set i0 {kw with job:=x})).Perm (kw.q++x::locs (P.ws.set i1 k1')):=p2.trans List.perm_middle.symm;exact(List.perm_append_left_iff _).1 this
 have p1:(x::locs (P.ws.set i1 k1')).Perm (locs P.ws):=by
  have:(k1'.loc++x::locs (P.ws.set i1 k1')).Perm (k1'.loc++locs P.ws):=by refine List.Perm.trans (List.perm_middle.trans ?_) p1;exact(lk.symm.append_right _)
  exact(List.perm_append_left_iff _).1 this
 refine⟨H.perm Z (p2.trans p1) (λy hy=> ?_) ?_,?_⟩
 ·rcases dQ hy with h|⟨z,-,h⟩
  ·subst h;exact H.T kw (List.mem_of_getElem? hw)
  ·rcases dQ (List.mem_of_getElem? h)with h|⟨z,-,h⟩
   ·subst h;have:=H.T k1 (List.mem_of_getElem? h1);omega
   ·exact H.T y (List.mem_of_getElem? h)
 ·have:=H.steals;unfold qlen at this ⊢;omega
 ·unfold phi qlen;dsimp only;omega
end
def tE(P P':PS):Prop:=P'.last=P.last/\P'.ws.length=P.ws.length/\P'.jobs.map (λj=>(j.id,j.G))=P.jobs.map λj=>(j.id,j.G)
structure nZ(n:Nat)(fo:Nat->Nat)(room:Nat)(N N':aj)(P P':PS):Prop where
 ok:bF n fo N' P'
 ex:Ex N N'
 alike:tE P P'
 le1:phi n N' P'<=phi n N P
 le2:psi n N' P'<=psi n N P
 bad:(∀j∈P.jobs,j.A.e=0)->psi n N P<=room-> ∀j∈P'.jobs,j.A.e=0
 fin: ∀(i:Nat) (j:Jb),P.jobs[i]? =some j->j.A.done=true->P'.jobs[i]? =some j
def iy{P:PS}{i:Nat}{j:Jb}(ids:(P.jobs.map (·.id)).Nodup)(hi:P.jobs[i]? =some j):(P.jobs.map λj=>((j.id:Int),aX j.A.m)).lookup (j.id:Int)=some (aX j.A.m):=by
 generalize P.jobs=l at ids hi
 induction l generalizing i with
 |nil=>simp at hi
 |cons y l ih=>
  simp only[List.map_cons,List.nodup_cons]at ids;cases i with
  |zero=>
   simp at hi;subst hi;simp[List.lookup]
  |succ i=>
   have hi:l[i]? =some j:=by simpa using hi
   have hne:y.id≠j.id:=λe=>ids.1 (by rw[e];exact List.mem_map.2 ⟨j,List.mem_of_getElem? hi,rfl⟩);simp only[List.map_cons,List.lookup];rw[show((j.id:Int)==(y.id:Int))=false by simp;omega];exact ih ids.2 hi
section
variable {h:aA}{p s n room:Nat}{fo gg:Nat->Nat}{off:Bool}{N:aj}{P:PS}{K:KK}{L:List Nat}
def nC(S:cG h s L (XL n room fo gg N off))(H:bo h p s P)(Ok:bF n fo N P)(GO:dc N P)(D: ∀b,cV p P b->b∉L){w i:Nat}{k:Wk}{j:Jb}(hw:P.ws[w]? =some k)(hi:P.jobs[i]? =some j)(hj:k.job=(j.id:Int))(hd:j.A.done=false)
  (hK: ∀h' L' N' P',cG h' s L' (XL n room fo gg N' off)->bo h' p s P'->(∀b,cV p P' b->b∉L')->nZ n fo room N N' P P'->phi n N' P'+1<=phi n N P->(∀T,(∀b,cV p P b->b∈T)->(∀b∈L,b∈T)->aF T h h')->cj L L' h->(∀b,cV p P' b->cV p P b\/h.size<=b)->K au h'):
  dW h (some P.jb) .i64 .i64 k.job λo20=>bi (some (lS (.pointer none) o20)) λp21=>Cl 114 [.pointer p21] h λv24 h25=>bA (some v24) λb26=>aC b26 (aN (some (ah k.w)) λa27=>aP h25 (Addr.add (Addr.add a27 1) 0) (ac (0:Int)) λh28=>K au h28) (K au h25):=by
 have hjm:=List.mem_of_getElem? hi;have ids:=H.ids;have lk:=iy (P:=P) ids.1 hi;refine dt H.jbm (λe=> ?_) λx v e=> ?_
 ·rw[hj,lk]at e;cases e
 rw[hj,lk]at e;injection e with e;subst e;refine aJ rfl ?_;have DA: ∀b∈j.A.bl,b∉L:=λb hb=>D b (.inr (.inr (.inr (.inr ⟨j,hjm,hb⟩))));have ok:=S.ok;dsimp only[XL]at ok;have zP:=H.lt;have zL:=S.lt;refine yi S (H.ma j hjm) DA (Ok.mst j hjm).2 (Ok.mst j hjm).1 hd λh1 L1 N1 A1 em S1 M1 D1 E1 R1 m1 c1 f1 O1 g1 s1=>aQ rfl ?_
 have H1:bo h1 p s {P with jobs:=P.jobs.set i {j with A:=A1}}:=H.set_ma hi O1 (λb hb hp=>by
  rcases List.mem_append.1 hb with hL|hA
  ·exact absurd hL (D b hp)
  ·exact hA) M1 em s1
 have st:=Ok.step GO ok.1 E1 ids.1 (ids.2 j hjm).1 hi hw hj R1 m1 c1
 have alike:(P.jobs.set i {j with A:=A1}).map (λj=>(j.id,j.G))=P.jobs.map λj=>(j.id,j.G):=by
  rw[List.map_set];apply List.ext_getElem?;intro x;rw[List.getElem?_set];by_cases hix:i=x
  ·subst hix;rw[if_pos rfl,if_pos (by simpa using (List.getElem?_eq_some_iff.1 hi).1),List.getElem?_map,hi]
   rfl
  ·rw[if_neg hix]
 have bad:(∀j∈P.jobs,j.A.e=0)->psi n N P<=room-> ∀y∈P.jobs.set i {j with A:=A1},y.A.e=0:=λh1 h2 y hy=>by
  rcases dQ hy with e|⟨x,-,hx⟩
  ·subst e;show A1.e=0;rcases R1 with⟨-,h,-⟩|⟨-,h,-⟩|⟨-,h,-⟩
   ·exact h
   ·exact h
   ·exfalso;have:=f1 h;have sm:=eE (λy:Jb=>fu n N y.A.fs) P.jobs i j {j with A:=⟨0,none,0,[],0,false,0⟩} hi;dsimp only at sm;unfold psi at h2;have:fu n N ([]:List Fk)=0:=rfl;omega
  ·exact h1 y (List.mem_of_getElem? hx)
 have fin: ∀(x:Nat) (y:Jb),P.jobs[x]? =some y->y.A.done=true->(P.jobs.set i {j with A:=A1})[x]? =some y:=λx y hx hy=>by
  rw[List.getElem?_set];by_cases hix:i=x
  ·subst hix;rw[hi]at hx;injection hx with hx;subst hx;rw[hd]at hy;cases hy
  ·rw[if_neg hix];exact hx
 have blk: ∀b,cV p {P with jobs:=P.jobs.set i {j with A:=A1}} b->cV p P b\/h.size<=b:=λb hb=>by
  rcases hb with e|e|hb|hb|⟨y,hy,hb⟩
  ·exact .inl (.inl e)
  ·exact .inl (.inr (.inl e))
  ·exact .inl (.inr (.inr (.inl hb)))
  ·exact .inl (.inr (.inr (.inr (.inl hb))))
  ·rcases dQ hy with e|⟨x,-,hx⟩
   ·subst e;exact(s1 b hb).imp (λhb=> .inr (.inr (.inr (.inr ⟨j,hjm,hb⟩)))) id
   ·exact .inl (.inr (.inr (.inr (.inr ⟨y,List.mem_of_getElem? hx,hb⟩))))
 have dis: ∀b,cV p {P with jobs:=P.jobs.set i {j with A:=A1}} b->b∉L1:=λb hb hm=>by
  have old:cV p P b->False:=λhp=>by
   rcases g1 b hm with h|h
   ·exact D b hp h
   ·have:=zP b hp;omega
  rcases hb with e|e|hb|hb|⟨y,hy,hb⟩
  ·exact old (.inl e)
  ·exact old (.inr (.inl e))
  ·exact old (.inr (.inr (.inl hb)))
  ·exact old (.inr (.inr (.inr (.inl hb))))
  ·rcases dQ hy with e|⟨x,-,hx⟩
   ·subst e;exact D1 b hb hm
   ·exact old (.inr (.inr (.inr (.inr ⟨y,List.mem_of_getElem? hx,hb⟩))))
 have hO: ∀T,(∀b,cV p P b->b∈T)->(∀b∈L,b∈T)->aF T h h1:=λT hT hL=>O1.mono λb hb _=>by
  rcases List.mem_append.1 hb with h|h
  ·exact hL b h
  ·exact hT b (.inr (.inr (.inr (.inr ⟨j,hjm,h⟩))))
 refine aH (λe=> ?_) λe=> ?_
 ·simp only[if_pos e]at st;have W1:=H1.wk k (List.mem_of_getElem? hw);rw[aL];simp only[aE,Nat.zero_add,Nat.add_zero];refine aK W1.own Z rfl λh2 A2 O2 z2=> ?_;obtain⟨n1,n2,n3⟩:=W1.ne;have H2:=H1.set_wk (k':={k with job:=0}) hw O2 (λb hb=>by simp[Wk.bl]at hb ⊢;omega) ⟨A2,W1.dw.only O2 (by simp;omega) (by simp;omega) (by simp;omega),W1.ds,W1.ne⟩ rfl;dsimp only at H2;have b2: ∀b,cV p {P with jobs:=P.jobs.set i {j with A:=A1},ws:=P.ws.set w {k with job:=0}} b->cV p {P with jobs:=P.jobs.set i {j with A:=A1}} b:=λb hb=>dJ (P:={P with jobs:=P.jobs.set i {j with A:=A1}}) (k':={k with job:=0}) hw rfl hb;have hkL:k.w∉L1:=dis k.w (.inr (.inr (.inr (.inl ⟨k,List.mem_of_getElem? hw,by simp[Wk.bl]⟩))));refine hK h2 L1 N1 _ (S1.only O2 λb hb hm=>by simp only[List.mem_singleton]at hb;subst hb;exact hkL hm) H2 (λb hb=>dis b (b2 b hb)) ⟨st.1,E1,⟨rfl,Z,alike⟩,by have:=st.2.1;omega,st.2.2,bad,fin⟩ st.2.1 (λT hT hL=>(hO T hT hL).trans O2 λb hb _=> ?_) g1 λb hb=>blk b (b2 b hb);simp only[List.mem_singleton]at hb;subst hb;exact hT _ (.inr (.inr (.inr (.inl ⟨k,List.mem_of_getElem? hw,by simp[Wk.bl]⟩))))
 ·have e': ¬A1.done=true:=by rw[e];simp
  simp only[if_neg e']at st;exact hK h1 L1 N1 _ S1 H1 dis ⟨st.1,E1,⟨rfl,rfl,alike⟩,by have:=st.2.1;omega,st.2.2,bad,fin⟩ st.2.1 hO g1 blk
end
end
section
section
variable {h:aA}{p s n room:Nat}{fo gg:Nat->Nat}{off:Bool}{N:aj}{P:PS}{K:KK}{L:List Nat}
def ga{x:Option Value}{K:Option Nat->Prop}{n:Option Nat}(hx:x=some (.map n))(hK:K n):nT x K:=⟨n,hx,hK⟩
def dI.trans{a b c:List Wk}(H:dI a b)(G:dI b c):dI a c:=by refine⟨G.1.trans H.1,λi k hk=> ?_⟩;obtain⟨k',h',e⟩:=H.2 i k hk;obtain⟨k'',h'',e'⟩:=G.2 i k' h';exact⟨k'',h'',e'.1.trans e.1,e'.2.1.trans e.2.1,e'.2.2.1.trans e.2.2.1,e'.2.2.2.trans e.2.2.2⟩
def zY(p:Nat)(P:PS):List Nat:=p::P.jb::(aR P.wp++(P.ws.flatMap Wk.bl++P.jobs.flatMap λj=>j.A.bl))
def eF{b:Nat}:b∈zY p P↔cV p P b:=by unfold zY cV;simp only[List.mem_cons,List.mem_append,List.mem_flatMap]
def jj{ws:List Wk}{w:Nat}{k:Wk}(hw:ws[w]? =some k){x:Int}(h:x∈k.loc):x∈locs ws:=List.mem_flatMap.2 ⟨k,List.mem_of_getElem? hw,h⟩
def mN(Ok:bF n fo N P)(ids: ∀j∈P.jobs,1<=j.id/\j.id<=P.last){k:Wk}(hk:k∈P.ws):k.T+k.q.length<1000000000/\ ∀x∈k.q,1<=x/\x<1000000000:=by have h1:=Ok.T k hk;have h2:=Ok.last;refine⟨Y,λx hx=> ?_⟩;obtain⟨j,hj,e,-⟩:=Ok.at_ x (List.mem_flatMap.2 ⟨k,hk,by unfold Wk.loc;simp[hx]⟩);have:=ids j hj;omega
set_option maxRecDepth 100000 in
def BD(S:cG h s L (XL n room fo gg N off))(H:bo h p s P)(Ok:bF n fo N P)(GO:dc N P)(D: ∀b,cV p P b->b∉L){who draw:Int}
  (hOut:who<0\/(P.ws.length:Int)<=who->K aq h)
  (hK: ∀h' L' N' P' b (w:Nat) (k:Wk),who=(w:Int)->P.ws[w]? =some k->cG h' s L' (XL n room fo gg N' off)->bo h' p s P'->(∀b,cV p P' b->b∉L')->nZ n fo room N N' P P'->(b=true->locs P.ws≠[])->(phi n N' P'+1<=phi n N P\/(k.job=0/\k.q=[]/\dI P.ws P'.ws))->(∀T,(∀b,cV p P b->b∈T)->(∀b∈L,b∈T)->aF T h h')->cj L L' h->(∀b,cV p P' b->cV p P b\/h.size<=b)->K (aw b) h'):
  Cl 81 [aX p,ac who,ac draw] h K:=by
 refine F81.spec ?_;refine aH (λe=>hOut (.inl (of_decide_eq_true e))) λe=> ?_;have w0:=of_decide_eq_false e;simp only[aE,Nat.zero_add,Nat.add_zero];have rp:=cw H;refine bj rp.2.1 (aH (λe=>hOut (.inr (of_decide_eq_true e))) λe=> ?_);have w1:=of_decide_eq_false e;obtain⟨w,ew⟩: ∃w:Nat,who=(w:Int):=⟨who.toNat,Y⟩;subst ew;have hwl:w<P.ws.length:=Y;obtain⟨k,hw⟩: ∃k,P.ws[w]? =some k:=⟨_,List.getElem?_eq_getElem hwl⟩;have hk:=List.mem_of_getElem? hw;obtain⟨b,eb,rb⟩:=wQ H hw;refine bj rp.2.1 ?_;rw[eb,aL];refine⟨Y,Y,?_⟩;simp only[aE,Nat.zero_add,Nat.add_zero,Int.toNat_natCast,Nat.mul_one];refine aJ rb ?_;rw[aL];simp only[aE,Nat.zero_add,Nat.add_zero];have W:=H.wk k hk;have rj:rd h ⟨k.w,1,none⟩=some (ac k.job):=by rw[At.rd W.own];rfl
 have lim:=mN Ok H.ids.2 hk;have zP:=H.lt;refine aB rj (aH (λe=> ?_) λe=> ?_)
 ·have j0:k.job=0:=by simpa using e
  refine vD W lim.1 (λx hx=>by have:=lim.2 x hx;omega) (λeq h1 k' W' bl' q' jb' T' O1=>aQ rfl ?_) λx q' eq h1 k' W' bl' e1 e2 hT O1=>aQ rfl ?_
  ·rw[Bool.not_false,aG];have ke:oB k k':=⟨bl',by rw[q',eq],jb',T'⟩;have E1:=(dI.refl P.ws).set hw ke;have H1:=H.set_wk hw O1 (λb hb=>hb) W' bl';obtain⟨Ok1,p1,p2⟩:=Ok.eq E1;have hw1:(P.ws.set w k')[w]? =some k':=by rw[List.getElem?_set,if_pos rfl,if_pos hwl]
   have bd: ∀b,cV p {P with ws:=P.ws.set w k'} b->cV p P b:=λb hb=>dJ hw bl' hb;have ekw:k'.w=k.w:=ke.w;have O1': ∀T,(∀b,cV p P b->b∈T)->aF T h h1:=λT hT=>O1.mono λb hb _=>hT b (.inr (.inr (.inr (.inl ⟨k,hk,hb⟩))));have S1:=S.only O1 λb hb hm=>D b (.inr (.inr (.inr (.inl ⟨k,hk,hb⟩)))) hm;rw[<-ekw];refine uR H1 hw1 (draw:=draw) (by have:=Ok1.len;omega) (λy hy=>(mN Ok1 H1.ids.2 hy).1) (λy hy x hx=>by have:=(mN Ok1 H1.ids.2 hy).2 x hx;omega) ⟨Ok1.steals.1,by have:=Ok1.steals;have:=Ok1.last;omega⟩ (λh2 ws H2 E2 B2 O2=>aQ rfl ?_) λh2 ws i1 k1 x q1 kw' k1' ws' E2 hne hk1 eq1 hkw bl1 f1 f2 f3 ews H2 B2 O2=>aQ rfl ?_
   ·dsimp only at H2 E2 B2;obtain⟨Ok2,p3,p4⟩:=Ok1.eq (ws:=ws) E2;dsimp only at Ok2 p3 p4;have O2': ∀T,(∀b,cV p P b->b∈T)->aF T h h2:=λT hT=>(O1' T hT).trans (O2 T λb hb=>hT b (bd b hb)) λb hb _=>hb;have S2:=S.only (O2' (zY p P) λb hb=>eF.2 hb) λb hb hm=>D b (eF.1 hb) hm;refine hK h2 L N {P with ws:=ws} false w k rfl hw S2 H2 (λb hb=>D b (bd b (B2 b hb))) ⟨Ok2,Ex.refl _,⟨rfl,by show ws.length=_;rw[E2.1];simp,rfl⟩,by omega,by omega,λh _=>h,λi j h _=>h⟩ (λh=>by cases h) (.inr ⟨j0,eq,E1.trans E2⟩) (λT hT hL=>O2' T hT) (cj.refl _ _) λb hb=> .inl (bd b (B2 b hb))
   ·dsimp only at H2 E2 B2;obtain⟨Ok2,p3,p4⟩:=Ok1.eq (ws:=ws) E2;dsimp only at Ok2 p3 p4;obtain⟨ka,hka,ea⟩:=E2.2 w k' hw1;rw[hkw]at hka;injection hka with hka;subst hka;have hx:=(mN Ok2 H.ids.2 (List.mem_of_getElem? hk1)).2 x (by rw[eq1];simp);obtain⟨Ok3,p5⟩:=Ok2.steal (P:={P with ws:=ws}) hne hk1 hkw (by rw[ea.2.2.1,jb',j0]) eq1 Y f1 f2 f3;dsimp only at Ok3 p5;rw[<-ews]at Ok3 p5;have O2': ∀T,(∀b,cV p P b->b∈T)->aF T h h2:=λT hT=>(O1' T hT).trans (O2 T λb hb=>hT b (bd b hb)) λb hb _=>hb;have S2:=S.only (O2' (zY p P) λb hb=>eF.2 hb) λb hb hm=>D b (eF.1 hb) hm;have hlen:ws'.length=P.ws.length:=by rw[ews,List.length_set,List.length_set,E2.1];simp
    refine hK h2 L N {P with ws:=ws',steals:=P.steals+1} true w k rfl hw S2 H2 (λb hb=>D b (bd b (B2 b hb))) ⟨Ok3,Ex.refl _,⟨rfl,hlen,rfl⟩,Y,Nat.le_refl _,λh _=>h,λi j h _=>h⟩ (λ_ hl=> ?_) (.inl Y) (λT hT hL=>O2' T hT) (cj.refl _ _) λb hb=> .inl (bd b (B2 b hb));have:=jj hk1 (x:=x) (by unfold Wk.loc;rw[eq1];simp);rw[E2.locs,E1.locs,hl]at this;cases this
  ·rw[Bool.not_true,aD];have H1:=H.set_wk hw O1 (λb hb=>hb) W' bl';have hx:=lim.2 x (by rw[eq];simp);obtain⟨Ok1,p1⟩:=Ok.take hw j0 eq Y e1 e2 hT;have hw1:(P.ws.set w k')[w]? =some k':=by rw[List.getElem?_set,if_pos rfl,if_pos hwl]
   have bd: ∀b,cV p {P with ws:=P.ws.set w k'} b->cV p P b:=λb hb=>dJ hw bl' hb
   have ekw:k'.w=k.w:=by simp only[Wk.bl,List.cons.injEq]at bl';exact bl'.1
   have O1': ∀T,(∀b,cV p P b->b∈T)->aF T h h1:=λT hT=>O1.mono λb hb _=>hT b (.inr (.inr (.inr (.inl ⟨k,hk,hb⟩))));have S1:=S.only O1 λb hb hm=>D b (.inr (.inr (.inr (.inl ⟨k,hk,hb⟩)))) hm;obtain⟨j,hj,ex,hd⟩:=Ok.at_ x (jj hw (by rw[jH j0,eq];simp));obtain⟨i,hi⟩:=List.mem_iff_getElem?.1 hj;have W1':At h1 k'.w [aX k'.d,ac k'.job]:=W'.own;refine ga (cw H1).2.2.1 ?_;rw[aL];simp only[aE,Nat.zero_add,Nat.add_zero];refine aB (n:=k'.job) (by rw[<-ekw,At.rd W1'];rfl) ?_;rw[<-ekw];refine nC S1 H1 Ok1 GO (λb hb=>D b (bd b hb)) hw1 hi (by rw[e2,ex]) hd λh2 L2 N2 P2 S2 H2 D2 Pk hs O2 g2 b2=> ?_;have hal:tE P P2:=⟨Pk.alike.1,by rw[Pk.alike.2.1];simp,Pk.alike.2.2⟩;have l1:=Pk.le1;refine hK h2 L2 N2 P2 true w k rfl hw S2 H2 D2 ⟨Pk.ok,Pk.ex,hal,Y,Pk.le2,Pk.bad,Pk.fin⟩ (λ_ hl=> ?_) (.inl Y) (λT hT hL=>(O1' T hT).trans (O2 T (λb hb=>hT b (bd b hb)) hL) λb hb _=>hb) ?_ λb hb=> ?_
   ·have:=jj hw (x:=x) (by rw[jH j0,eq];simp);rw[hl]at this;cases this
   ·intro b hb;rcases g2 b hb with h|h
    ·exact .inl h
    ·exact .inr (by have:=O1.size;omega)
   ·rcases b2 b hb with h|h
    ·exact .inl (bd b h)
    ·exact .inr (by have:=O1.size;omega)
 ·have j0:k.job≠0:=by simpa using e
  obtain⟨j,hj,ex,hd⟩:=Ok.at_ k.job (jj hw (by rw[jA j0];simp));obtain⟨i,hi⟩:=List.mem_iff_getElem?.1 hj;refine ga rp.2.2.1 ?_;rw[aL];simp only[aE,Nat.zero_add,Nat.add_zero];refine aB rj ?_;refine nC S H Ok GO D hw hi ex hd λh2 L2 N2 P2 S2 H2 D2 Pk hs O2 g2 b2=> ?_;refine hK h2 L2 N2 P2 true w k rfl hw S2 H2 D2 Pk (λ_ hl=> ?_) (.inl hs) O2 g2 b2;have:=jj hw (x:=k.job) (by rw[jA j0];simp);rw[hl]at this;cases this
end
end
section
def p9(l:List Jb):List (Int×Value):=l.map λj=>((j.id:Int),aX j.A.m)
def jM{l:List Jb}{x:Int}:(p9 l).lookup x=none↔ ∀j∈l,x≠(j.id:Int):=by rw[dz];simp only[p9,List.map_map,List.mem_map,Function.comp_apply,not_exists,not_and];exact⟨λh j hj e=>h j hj e.symm,λh j hj e=>h j hj e.symm⟩
def ur{l:List Jb}{y:Jb}:(p9 l).filter (λp=>p.1≠(y.id:Int))=p9 (l.filter λz=>decide (z.id≠y.id)):=by
 unfold p9;rw[List.filter_map]
 congr 1
 apply List.filter_congr;intro z _;simp;omega
section
variable {h:aA}{p s n:Nat}{fo:Nat->Nat}{N:aj}{P:PS}{K:KK}
def nz(H:bo h p s P)(hK:K (ac (P.ws.length:Int)) h):Cl 68 [aX p] h K:=by refine F68.spec ?_;simp only[aE,Nat.zero_add];exact bj (cw H).2.1 hK
def vT(H:bo h p s P){x:Int}(hN:(∀j∈P.jobs,x≠(j.id:Int))->K aq h)(hJ: ∀(i:Nat) (j:Jb),P.jobs[i]? =some j->x=(j.id:Int)->K (aw j.A.done) h):Cl 39 [aX p,ac x] h K:=by
 refine F39.spec ?_;simp only[aE,Nat.zero_add];refine ga (cw H).2.2.1 (dt H.jbm (λe=>aJ rfl ?_) λx' v e=> ?_)
 ·exact hN (jM.1 e)
 ·by_cases hx: ∀j∈P.jobs,x≠(j.id:Int)
  ·have e0:=jM.2 hx;unfold p9 at e0;rw[e0]at e;cases e
  ·obtain⟨j,hj,ej⟩: ∃j∈P.jobs,x=(j.id:Int):=by
    apply Classical.byContradiction;intro hn;exact hx λj hj e=>hn ⟨j,hj,e⟩
   obtain⟨i,hi⟩:=List.mem_iff_getElem?.1 hj;have:=iy H.ids.1 hi;rw[ej,this]at e;injection e with e;subst e;refine aJ rfl ?_;rw[show(!(Option.isNone (some ((ah j.A.m):Addr))))=true from rfl,aG];exact Br (H.ma j hj) (aQ rfl (hJ i j hi ej))
def pz(H:bo h p s P){x:Int}(hN:(∀j∈P.jobs,x≠(j.id:Int))->K (.tuple #[ae 0,ac 61]) h)
  (hJ: ∀(i:Nat) (j:Jb),P.jobs[i]? =some j->x=(j.id:Int)->K (.tuple #[ae (if j.A.done=true/\j.A.e=0 then(j.A.told:Int)else 0),ac (if j.A.done=true then(j.A.e:Int)else 61)]) h):Cl 38 [aX p,ac x] h K:=by
 refine F38.spec ?_;refine vT H (λhx=>aQ rfl ?_) λi j hi ej=>aQ rfl ?_
 ·rw[Bool.not_false,aG];exact hN hx
 ·have R:=hJ i j hi ej;refine aH (λe=> ?_) λe=> ?_
  ·have e:j.A.done=false:=by simpa using e
   rw[if_neg (by rw[e];simp),if_neg (by rw[e];simp)]at R;exact R
  ·simp only[aE,Nat.zero_add];have lk:=iy H.ids.1 hi;refine ga (cw H).2.2.1 (dt H.jbm (λe=> ?_) λx' v e=> ?_)
   ·rw[ej,lk]at e;cases e
   ·rw[ej,lk]at e;injection e with e;subst e;exact aJ rfl (wW (H.ma j (List.mem_of_getElem? hi)) ⟨_,_,rfl,R⟩)
def wx(H:bo h p s P)(Ok:bF n fo N P){x:Int}(hF:((∀j∈P.jobs,x≠(j.id:Int))\/ ∃j∈P.jobs,x=(j.id:Int)/\j.A.done=false)->K aq h)
  (hT: ∀h' j,j∈P.jobs->x=(j.id:Int)->j.A.done=true->bo h' p s {P with jobs:=P.jobs.filter λz=>decide (z.id≠j.id)}->bF n fo N {P with jobs:=P.jobs.filter λz=>decide (z.id≠j.id)}->aF [P.jb] h h'->K au h'):Cl 36 [aX p,ac x] h K:=by
 refine F36.spec ?_;refine vT H (λhx=>aQ rfl ?_) λi j hi ej=>aQ rfl ?_
 ·rw[aD];exact hF (.inl hx)
 ·have hj:=List.mem_of_getElem? hi;refine aH (λe=> ?_) λe=> ?_
  ·simp only[aE,Nat.zero_add];refine ga (cw H).2.2.1 (tP H.jbm λh1 M1 O1 z1=> ?_);rw[e]
   have em:jn (P.jobs.map λj=>((j.id:Int),aX j.A.m)) x=(P.jobs.filter λz=>decide (z.id≠j.id)).map λj=>((j.id:Int),aX j.A.m):=by unfold jn;rw[ej];exact ur
   rw[em]at M1;obtain⟨τ,t⟩:=H.sep;have sub: ∀y∈P.jobs.filter (λz=>decide (z.id≠j.id)),y∈P.jobs/\y.id≠j.id:=λy hy=>by simpa using List.mem_filter.1 hy
   have up: ∀y∈P.jobs,y.id≠j.id->y∈P.jobs.filter (λz=>decide (z.id≠j.id)):=λy hy hn=>List.mem_filter.2 ⟨hy,by simpa using hn⟩;have nj: ∀b∈[P.jb],τ b=0:=λb hb=>by simp only[List.mem_singleton]at hb;subst hb;exact t.jb
   refine hT h1 j hj ej e ⟨H.own.only O1 λhm=> ?_,H.wks.only O1 λb eb hm=> ?_,λk hk=>(H.wk k hk).only O1 λb hb hm=> ?_,M1,λy hy=>(H.ma y (sub y hy).1).only O1 λb hb hm=> ?_,⟨τ,t.p,t.jb,t.wp,t.ws,λy hy=>t.jobs y (sub y hy).1⟩,H.ne,?_,λy hy=>H.ids.2 y (sub y hy).1⟩ ⟨λy hy=>Ok.mst y (sub y hy).1,λy hy=> ?_,Ok.one,λy hy hd=>Ok.loc y (sub y hy).1 hd,Ok.T,Ok.len,Ok.last,Ok.steals⟩ O1
   ·simp only[List.mem_singleton]at hm;exact H.ne.1 hm
   ·simp only[List.mem_singleton]at hm;subst hm;exact H.ne.2.2 (by rw[eb];simp[aR])
   ·obtain⟨w,hw⟩:=List.mem_iff_getElem?.1 hk;have:=t.ws w k hw b hm;have:=nj b hb;omega
   ·have:=t.jobs y (sub y hy).1 b hm;have:=nj b hb;omega
   ·exact H.ids.1.sublist (List.Sublist.map _ List.filter_sublist)
   ·obtain⟨z,hz,ez,hd⟩:=Ok.at_ y hy;refine⟨z,up z hz λe'=> ?_,ez,hd⟩;have nd:=H.ids.1;obtain⟨i',hi'⟩:=List.mem_iff_getElem?.1 hz;have:=dO nd (x:=i') (y:=i) (a:=j.id) (by rw[List.getElem?_map,hi'];simp[e']) (by rw[List.getElem?_map,hi];rfl);subst this;rw[hi]at hi';injection hi' with hi';subst hi';rw[e]at hd;cases hd
  ·rw[e];exact hF (.inr ⟨j,hj,ej,e⟩)
end
end
section
def iV: ∀(l m:List Int),l.Nodup->(∀x∈l,x∈m)->l.length<=m.length
 | [],m,_,_=>Nat.zero_le _
 |x::l,m,h,hs=>by obtain⟨h1,h2⟩:=List.nodup_cons.1 h;have hx:=hs x List.mem_cons_self;have ih:=iV l (m.erase x) h2 λy hy=>(List.mem_erase_of_ne λe=>by subst e;exact h1 hy).2 (hs y (List.mem_cons_of_mem _ hy));rw[List.length_erase_of_mem hx]at ih;have:=List.length_pos_of_mem hx;simp only[List.length_cons];omega
def bU.size{h:aA}{b:Nat}{k:IntKind}{m:List (Int×Value)}(H:bU h b k m): ∃es cl,mp h b=some (es,cl)/\es.size=m.length:=by obtain⟨es,cl,h1,h2,-⟩:=H;refine⟨es,cl,h1,?_⟩;have:=congrArg List.length h2;simpa using this
section
variable {h h':aA}{p s n room:Nat}{fo gg:Nat->Nat}{off:Bool}{N:aj}{P:PS}{K:KK}{L:List Nat}
def bo.add_job(H:bo h p s P)(O:aF [P.jb] h h'){id:Nat}{A:MA}{G:i4}(M':bU h' P.jb .i64 ((P.jobs++[(⟨id,A,G⟩:Jb)]).map λj=>((j.id:Int),aX j.A.m)))(MA':bX h s A)(hf: ∀b∈A.bl,¬cV p P b)(h1:1<=id)(h2:id<=P.last)(h3: ∀j∈P.jobs,j.id≠id):
  bo h' p s {P with jobs:=P.jobs++[⟨id,A,G⟩]}:=by
 obtain⟨τ,t⟩:=H.sep;have nj: ∀b∈[P.jb],τ b=0:=λb hb=>by simp only[List.mem_singleton]at hb;subst hb;exact t.jb
 refine⟨H.own.only O λhm=> ?_,H.wks.only O λb eb hm=> ?_,λk hk=>(H.wk k hk).only O λb hb hm=> ?_,M',λy hy=> ?_,⟨λb=>if b∈A.bl then 2*id+2 else τ b,?_,?_,λb hb=> ?_,λx k hk b hb=> ?_,λy hy b hb=> ?_⟩,H.ne,?_,λy hy=> ?_⟩
 ·simp only[List.mem_singleton]at hm;exact H.ne.1 hm
 ·simp only[List.mem_singleton]at hm;subst hm;exact H.ne.2.2 (by rw[eb];simp[aR])
 ·obtain⟨w,hw⟩:=List.mem_iff_getElem?.1 hk;have:=t.ws w k hw b hm;have:=nj b hb;omega
 ·rcases List.mem_append.1 hy with hy|hy
  ·refine(H.ma y hy).only O λb hb hm=> ?_;have:=t.jobs y hy b hm;have:=nj b hb;omega
  ·simp only[List.mem_singleton]at hy;subst hy;exact MA'.only O λb hb hm=>hf b hm (by simp only[List.mem_singleton]at hb;exact .inr (.inl hb))
 ·show(if p∈A.bl then _ else τ p)=0;rw[if_neg λhm=>hf p hm (.inl rfl)];exact t.p
 ·show(if P.jb∈A.bl then _ else τ P.jb)=0;rw[if_neg λhm=>hf _ hm (.inr (.inl rfl))];exact t.jb
 ·show(if b∈A.bl then _ else τ b)=0;rw[if_neg λhm=>hf _ hm (.inr (.inr (.inl hb)))];exact t.wp b hb
 ·show(if b∈A.bl then _ else τ b)=_;rw[if_neg λhm=>hf _ hm (.inr (.inr (.inr (.inl ⟨k,List.mem_of_getElem? hk,hb⟩))))];exact t.ws x k hk b hb
 ·show(if b∈A.bl then _ else τ b)=_;rcases List.mem_append.1 hy with hy|hy
  ·rw[if_neg λhm=>hf _ hm (.inr (.inr (.inr (.inr ⟨y,hy,hb⟩))))];exact t.jobs y hy b hb
  ·simp only[List.mem_singleton]at hy;subst hy;rw[if_pos hb]
 ·show((P.jobs++[(⟨id,A,G⟩:Jb)]).map (·.id)).Nodup;rw[List.map_append,List.nodup_append];refine⟨H.ids.1,Z,λx hx y hy e=> ?_⟩;simp only[List.map_cons,List.map_nil,List.mem_singleton]at hy;obtain⟨j,hj,rfl⟩:=List.mem_map.1 hx;exact h3 j hj (e.trans hy)
 ·rcases List.mem_append.1 hy with hy|hy
  ·exact H.ids.2 y hy
  ·simp only[List.mem_singleton]at hy;subst hy;exact⟨h1,h2⟩
set_option maxRecDepth 100000 in
def vr{a b c op mask:Nat}(hmask:mask<256)(S:cG h s L (XL n room fo gg N off))(H:bo h p s P)(Ok:bF n fo N P)(GO:dc N P)(D: ∀b,cV p P b->b∉L)(hop:op=1\/op=2\/op=3\/op=4\/op=5)(ha:isN N a)(hb:op≠1->isN N b)(hc:op=5->isN N c)(hlast:P.last+1<100000000)
  (hF:64<=P.jobs.length-> ∀h',aF [] h h'->K (.tuple #[ac 0,ac 60]) h')
  (hT:P.jobs.length<64-> ∀h' ws A,cG h' s L (XL n room fo gg N off)->bo h' p s {P with ws:=ws,jobs:=P.jobs++[⟨P.last+1,A,cQ op a b c⟩],last:=P.last+1}->bF n fo N {P with ws:=ws,jobs:=P.jobs++[⟨P.last+1,A,cQ op a b c⟩],last:=P.last+1}->dc N {P with ws:=ws,jobs:=P.jobs++[⟨P.last+1,A,cQ op a b c⟩],last:=P.last+1}->
   (∀x,cV p {P with ws:=ws,jobs:=P.jobs++[⟨P.last+1,A,cQ op a b c⟩],last:=P.last+1} x->cV p P x\/h.size<=x)->(∀x,cV p {P with ws:=ws,jobs:=P.jobs++[⟨P.last+1,A,cQ op a b c⟩],last:=P.last+1} x->x∉L)->ws.length=P.ws.length->A.done=false->A.e=0->dX n N A.fs<=1021->fu n N A.fs<=2^n-1->qlen ws=qlen P.ws+1->(∀T,(∀b,cV p P b->b∈T)->aF T h h')->K (.tuple #[ac ((P.last+1:Nat):Int),ac 0]) h'):
  Cl 35 [aX p,Ae (op:Int) a b c (mask:Int)] h K:=by
 have zP:=H.lt;have zL:=S.lt;have ok:=S.ok;dsimp only[XL]at ok;refine F35.spec ?_;refine aM λh1 A1 O1 z1=> ?_;simp only[aE,Nat.zero_add];have H1:=H.only0 O1;have r: ∀k,rd h1 ⟨h.size,k,none⟩=([ac (op:Int),ae (a:Int),ae (b:Int),ae (c:Int),.int .u8 (mask:Int)]:List Value)[k]? :=λk=>At.rd A1 k;refine aJ (cw H1).1 (aB (by rw[r];rfl) (aB (by rw[r];rfl) (aB (by rw[r];rfl) (aB (by rw[r];rfl) (aB (by rw[r];rfl) ?_)))));refine Dj hmask (S.only0 O1) hop ha hb hc λh2 A f MA2 f2 ef efn elw eop ea0 ea1 ea2 etd edn ee O2=>⟨_,_,rfl,?_⟩;rw[show((0:Int) !=(0:Int))=false from rfl,aD];have O02:=O1.trans O2 Z;have H2:=H.only0 O02;obtain⟨es,cl,em,esz⟩:=H2.jbm.size;have elen:es.size=P.jobs.length:=by simpa using esz
 refine ga (cw H2).2.2.1 ⟨es,cl,em,?_⟩;rw[elen];refine aH (λe=>hF (by have:=of_decide_eq_true e;omega) h2 O02) λe=> ?_;have hlt:P.jobs.length<64:=by have:=of_decide_eq_false e;omega
 have rp:=cw H2;refine aB rp.2.2.2.1 ?_;have ew:ai ((P.last:Int)+1)=((P.last+1:Nat):Int):=by rw[wrap_i64 Y Y];omega
 rw[ew];refine aK H2.own (by simp[gW]) rfl λh3 A3 O3 z3=> ?_;have H3:=H2.set_cell (l:=P.last+1) (st:=P.steals) O3 (by simpa[gW]using A3) Y;have rp3:=cw H3;refine ga rp3.2.2.1 (aB rp3.2.2.2.1 ?_);dsimp only at H3 rp3 ⊢;have z02:=O02.size
 have fresh: ∀x∈A.bl,¬cV p {P with last:=P.last+1} x:=λx hx hp=>by have:=zP x hp;have:=f2 x hx;omega
 have MA3:bX h3 s A:=MA2.only O3 (λx hx hm=>by simp only[List.mem_singleton]at hx;subst hx;exact fresh x hm (.inl rfl));have idne: ∀j∈P.jobs,j.id≠P.last+1:=λj hj=>by have:=H.ids.2 j hj;omega
 refine ir H3.jbm λh4 M4 O4 z4=> ?_
 have e4:iP (P.jobs.map λj=>((j.id:Int),aX j.A.m)) ((P.last+1:Nat):Int) (aX A.m)=(P.jobs++[(⟨P.last+1,A,cQ op a b c⟩:Jb)]).map λj=>((j.id:Int),aX j.A.m):=by unfold iP;have e0:(p9 P.jobs).lookup ((P.last+1:Nat):Int)=none:=jM.2 λj hj e=>idne j hj Y;unfold p9 at e0;rw[e0];simp
 have M4:bU h4 P.jb .i64 (iP (P.jobs.map λj=>((j.id:Int),aX j.A.m)) ((P.last+1:Nat):Int) (aX A.m)):=M4;rw[e4]at M4;have H4:=H3.add_job O4 (G:=cQ op a b c) M4 MA3 fresh Y (by show P.last+1<=P.last+1;omega) idne;dsimp only at H4;have rp4:=cw H4;refine bj rp4.2.1 (aB rp4.2.2.2.1 (bj rp4.2.1 ?_));dsimp only;have hws:=Ok.len
 obtain⟨w,hw,ewi⟩: ∃w:Nat,w<P.ws.length/\Int.tmod ((P.last+1:Nat):Int) (P.ws.length:Int)=(w:Int):=by have h1:=Int.tmod_lt_of_pos ((P.last+1:Nat):Int) (b:=(P.ws.length:Int)) Y;have h2:=Int.tmod_nonneg (P.ws.length:Int) (a:=((P.last+1:Nat):Int)) Y;exact⟨(Int.tmod ((P.last+1:Nat):Int) (P.ws.length:Int)).toNat,Y,Y⟩
 obtain⟨k,hk⟩: ∃k,P.ws[w]? =some k:=⟨_,List.getElem?_eq_getElem hw⟩;have hkm:=List.mem_of_getElem? hk;obtain⟨bb,eb,rb⟩:=wQ H4 hk;dsimp only at eb;rw[ewi,eb];refine⟨Y,?_⟩;rw[aL];refine⟨Y,Y,?_⟩;simp only[aE,Nat.zero_add,Int.toNat_natCast,Nat.mul_one];refine aJ rb ?_;rw[aL];simp only[aE,Nat.zero_add];have W4:=H4.wk k hkm;refine aJ (n:=some (ah k.d)) (by rw[At.rd W4.own];rfl) (aB rp4.2.2.2.1 ?_);dsimp only;have eu:IntKind.wrap .u64 ((P.last+1:Nat):Int)=((P.last+1:Nat):Int):=bG Y Y;rw[eu];have lim:=mN Ok H.ids.2 hkm;obtain⟨n1,n2,n3⟩:=W4.ne
 have qroom:k.q.length<64:=by
  have h1:=iV (locs P.ws) (P.jobs.map λj=>(j.id:Int)) Ok.one λx hx=>by obtain⟨j,hj,e,-⟩:=Ok.at_ x hx;exact List.mem_map.2 ⟨j,hj,e.symm⟩
  have h2:k.q.length<=(locs P.ws).length:=by
   have p:=(fh Wk.loc P.ws w k {k with q:=[],job:=0} hk).length_eq;have h0:({k with q:=[],job:=0}:Wk).loc=[]:=by unfold Wk.loc;simp
   rw[h0]at p;simp only[List.length_append,List.length_nil]at p;have:k.q.length<=k.loc.length:=by unfold Wk.loc;simp
   unfold locs;omega
  simp only[List.length_map]at h1;omega
 refine zy W4.dw W4.ds lim.1 λh5 o' f' cs' D5 _ _ W5 O5=>⟨_,_,rfl,?_⟩;have hk':jc h5 ⟨k.w,k.d,k.m,k.mc,cs',o',f',k.T,k.q++[((P.last+1:Nat):Int)],k.job⟩:=⟨W4.own.only O5 (by simp;omega),W5,D5 qroom,W4.ne⟩;have H5:=H4.set_wk (k':=⟨k.w,k.d,k.m,k.mc,cs',o',f',k.T,k.q++[((P.last+1:Nat):Int)],k.job⟩) hk O5 (λb hb=>by simp[Wk.bl]at hb ⊢;omega) hk' rfl;dsimp only at H5;refine aB (cw H5).2.2.2.1 ?_;dsimp only;have hG:f.op=(cQ op a b c).op/\f.a0=(cQ op a b c).a0/\f.a1=(cQ op a b c).a1/\f.a2=(cQ op a b c).a2:=⟨eop,ea0,ea1,ea2⟩
 have gN:isN N (cQ op a b c).a0/\isN N (cQ op a b c).a1/\isN N (cQ op a b c).a2/\jS (cQ op a b c).op:=by
  rcases hop with e|e|e|e|e<;>subst e
  ·exact⟨.inl (show 1<2 by omega),ha,.inl (show 0<2 by omega),.inr (.inr (.inl rfl))⟩
  ·exact⟨ha,hb Y,.inl (show 0<2 by omega),.inl rfl⟩
  ·exact⟨ha,hb Y,.inl (show 0<2 by omega),.inr (.inl rfl)⟩
  ·exact⟨ha,hb Y,.inl (show 0<2 by omega),.inr (.inr (.inl rfl))⟩
  ·exact⟨ha,hb Y,hc rfl,.inr (.inr (.inr rfl))⟩
 obtain⟨g0,g1,g2,g3⟩:=gN;have fok:eO n fo N f:=⟨by rw[eop];exact g3,⟨by rw[ea0];exact g0,by rw[ea1];exact g1,by rw[ea2];exact g2⟩,.inl efn,λe=>Y,by rw[elw];exact .inl (show 0<2 by omega)⟩
 have runs:fT n fo N (cQ op a b c) A.fs A.told:=by
  rw[ef];refine⟨λy hy=> ?_,λi x y hx hy=> ?_,⟨f,rfl,hG⟩,λfl fr e=> .inl ?_,by rw[etd];exact .inl Y⟩
  ·simp only[List.mem_singleton]at hy;subst hy;exact fok
  ·simp at hy
  ·cases fl with
   |nil=>simp at e;rw[<-e];exact efn
   |cons y fl=>
    have:=congrArg List.length e;simp at this
 have mst:ng n fo N (cQ op a b c) A:= .inl ⟨edn,ee,by rw[ef];simp,runs⟩;have p8:2^n<=256:=Nat.le_trans (Nat.pow_le_pow_right (by decide) ok.2.2.1) (by decide);have pw:2^(n-gF n N f)<=2^n:=Nat.pow_le_pow_right (by decide) (Nat.sub_le _ _)
 have hmu:dX n N A.fs<=1021:=by rw[ef];simp only[dX,List.map_cons,List.map_nil,List.sum_cons,List.sum_nil,(im efn).1];omega
 have hnb:fu n N A.fs<=2^n-1:=by rw[ef];simp only[fu,List.map_cons,List.map_nil,List.sum_cons,List.sum_nil,(im efn).2];omega
 have perm:(locs (P.ws.set w ⟨k.w,k.d,k.m,k.mc,cs',o',f',k.T,k.q++[((P.last+1:Nat):Int)],k.job⟩)).Perm (((P.last+1:Nat):Int)::locs P.ws):=by
  have p:=fh Wk.loc P.ws w k ⟨k.w,k.d,k.m,k.mc,cs',o',f',k.T,k.q++[((P.last+1:Nat):Int)],k.job⟩ hk;have hl:(⟨k.w,k.d,k.m,k.mc,cs',o',f',k.T,k.q++[((P.last+1:Nat):Int)],k.job⟩:Wk).loc=k.loc++[((P.last+1:Nat):Int)]:=by unfold Wk.loc;simp
  rw[hl,List.append_assoc]at p;exact(List.perm_append_left_iff _).1 p
 have newid:((P.last+1:Nat):Int)∉locs P.ws:=λhm=>by obtain⟨j,hj,e,-⟩:=Ok.at_ _ hm;exact idne j hj Y
 have ql:=eE (λk:Wk=>k.q.length) P.ws w k ⟨k.w,k.d,k.m,k.mc,cs',o',f',k.T,k.q++[((P.last+1:Nat):Int)],k.job⟩ hk;simp only[List.length_append,List.length_singleton]at ql;have ql':qlen (P.ws.set w ⟨k.w,k.d,k.m,k.mc,cs',o',f',k.T,k.q++[((P.last+1:Nat):Int)],k.job⟩)=qlen P.ws+1:=by unfold qlen;omega
 have blk: ∀x,cV p {P with ws:=P.ws.set w ⟨k.w,k.d,k.m,k.mc,cs',o',f',k.T,k.q++[((P.last+1:Nat):Int)],k.job⟩,jobs:=P.jobs++[⟨P.last+1,A,cQ op a b c⟩],last:=P.last+1} x->cV p P x\/h.size<=x:=λx hx=>by
  rcases hx with e|e|hx|⟨y,hy,hx⟩|⟨y,hy,hx⟩
  ·exact .inl (.inl e)
  ·exact .inl (.inr (.inl e))
  ·exact .inl (.inr (.inr (.inl hx)))
  ·rcases dQ hy with e|⟨z,-,hz⟩
   ·subst e;exact .inl (.inr (.inr (.inr (.inl ⟨k,hkm,hx⟩))))
   ·exact .inl (.inr (.inr (.inr (.inl ⟨y,List.mem_of_getElem? hz,hx⟩))))
  ·rcases List.mem_append.1 hy with hy|hy
   ·exact .inl (.inr (.inr (.inr (.inr ⟨y,hy,hx⟩))))
   ·simp only[List.mem_singleton]at hy;subst hy;exact .inr (by have:=f2 x hx;omega)
 have hO: ∀T,(∀b,cV p P b->b∈T)->aF T h h5:=λT hT=>(((O02.mono (T:=T) Z).trans O3 λx hx _=> ?_).trans O4 λx hx _=> ?_).trans O5 λx hx _=> ?_
 ·refine hT hlt h5 _ A (S.only (hO (zY p P) λx hx=>eF.2 hx) λx hx hm=>D x (eF.1 hx) hm) H5 ⟨λj hj=> ?_,λx hx=> ?_,perm.nodup_iff.2 (List.nodup_cons.2 ⟨newid,Ok.one⟩),λj hj hd=> ?_,λy hy=> ?_,by simpa using hws,Y,⟨Ok.steals.1,?_⟩⟩ (λj hj=> ?_) blk (λx hx hm=> ?_) Z edn ee hmu hnb ql' hO
  ·rcases List.mem_append.1 hj with hj|hj
   ·exact Ok.mst j hj
   ·simp only[List.mem_singleton]at hj;subst hj;exact⟨mst,by show dX n N A.fs<=90000;omega⟩
  ·rcases List.mem_cons.1 (perm.mem_iff.1 hx)with e|hx
   ·exact⟨⟨P.last+1,A,cQ op a b c⟩,Z,e,edn⟩
   ·obtain⟨j,hj,h⟩:=Ok.at_ x hx;exact⟨j,by simp[hj],h⟩
  ·rcases List.mem_append.1 hj with hj|hj
   ·exact perm.mem_iff.2 (List.mem_cons_of_mem _ (Ok.loc j hj hd))
   ·simp only[List.mem_singleton]at hj;subst hj;exact perm.mem_iff.2 List.mem_cons_self
  ·have hT': ∀y∈P.ws,y.T+y.q.length<=P.last+1:=λy hy=>by have:=Ok.T y hy;omega
   rcases dQ hy with e|⟨z,-,hz⟩
   ·subst e;have:=Ok.T k hkm;simp only[List.length_append,List.length_singleton];omega
   ·exact hT' y (List.mem_of_getElem? hz)
  ·have:=Ok.steals;dsimp only;rw[ql'];omega
  ·rcases List.mem_append.1 hj with hj|hj
   ·exact GO j hj
   ·simp only[List.mem_singleton]at hj;subst hj;exact⟨g0,g1,g2⟩
  ·rcases blk x hx with h|h
   ·exact D x h hm
   ·have:=zL x hm;omega
 ·simp only[List.mem_singleton]at hx;subst hx;exact hT _ (.inl rfl)
 ·have hx:x∈[P.jb]:=hx;simp only[List.mem_singleton]at hx;subst hx;exact hT _ (.inr (.inl rfl))
 ·exact hT x (.inr (.inr (.inr (.inl ⟨k,hkm,by simp[Wk.bl]at hx ⊢;omega⟩))))
end
end
section
def vM(x:Int):Nat:=if x<1 then 1 else if 4<x then 4 else x.toNat
def BB(x:Int):(if(4:Int)<(if(1:Int)>x then(1:Int)else x)then(4:Int)else(if(1:Int)>x then(1:Int)else x))=(vM x:Int):=by
 unfold vM;by_cases h1:(1:Int)>x
 ·rw[if_pos h1,if_neg Y,if_pos Y]
  rfl
 ·rw[if_neg h1];by_cases h2:(4:Int)<x
  ·rw[if_pos h2,if_neg Y,if_pos h2]
   rfl
  ·rw[if_neg h2,if_neg Y,if_neg h2];omega
def wP(x:Int):1<=vM x/\vM x<=4:=by
 unfold vM;split
 ·omega
 ·split<;>omega
def Ax(k:Wk):Prop:=k.q=[]/\k.job=0/\k.T=0
section
variable {h h':aA}{p s:Nat}{P:PS}{K:KK}
set_option maxRecDepth 100000 in
def DL{x:Int}(hK: ∀h' p P,bo h' p s P->P.ws.length=vM x->P.jobs=[]->(∀k∈P.ws,Ax k)->P.last=0->P.steals=0->(∀b,cV p P b->h.size<=b)->aF [] h h'->K (aX p) h'):
  Cl 34 [aX s,ac x] h K:=by
 refine F34.spec _ _ h K ?_;refine iE (k:= .i64) λh1 M1 O1 z1=>aM λh2 A2 O2 z2=> ?_;rw[BB];have hw:=wP x;unfold F34.wk3;have O02:=O1.trans O2 Z
 have P0:bo h2 h1.size s ⟨none,0,h.size,[],[],0,0⟩:=by refine⟨A2,ct.nil _ _ _,λk hk=>(by cases hk),M1.only O2 Z,λj hj=>(by cases hj),⟨λ_=>0,rfl,rfl,λ_ _=>rfl,λi k hk=>(by simp at hk),λj hj=>(by cases hj)⟩,⟨(show h1.size≠h.size by omega),by simp[aR],by simp[aR]⟩,by simp,λj hj=>(by cases hj)⟩
 have main: ∀(d i:Nat) (h3:aA) (P:PS),i+d=vM x->bo h3 h1.size s P->P.ws.length=i->P.jobs=[]->(∀k∈P.ws,Ax k)->P.last=0->P.steals=0->(∀b,cV h1.size P b->h.size<=b)->aF [] h h3->
   F34.wL3 (d+1) (ah h1.size) (vM x:Int) (i:Int) h3 K:=by
  intro d
  induction d with
  |zero=>
   intro i h3 P hi H hl hj hf hla hst hB O;rw[F34.sL3];rw[decide_eq_false Y,aD];exact hK h3 _ P H Y hj hf hla hst hB O
  |succ d ih=>
   intro i h3 P hi H hl hj hf hla hst hB O;have ew:ai ((i:Int)+1)=((i+1:Nat):Int):=by rw[wrap_i64 Y Y];omega
   rw[F34.sL3];rw[decide_eq_true Y,aG,ew];simp only[aE,Nat.zero_add];refine kN (k:=64) Y Y (aB rfl ?_);refine lT λm c h4 M4 O4 g4 g4'=>aJ rfl ?_;rw[show((64:Int)+2)=((66:Nat):Int)from rfl,ik Y]at M4;refine pR (base:=0) (n:=64) M4 Y Y Z Z λdq h5 Q5 O5 g5=>⟨_,_,rfl,?_⟩;have H5:=(H.only0 O4).only0 O5;have M5:=M4.only O5 Z Z;refine bj (cw H5).2.1 ?_;refine aM λh6 A6 O6 z6=>aM λh7 A7 O7 z7=> ?_;have H7:=(H5.only0 O6).only0 O7;have zz4:=O4.size;have zz5:=O5.size;have l4m:=M4.head.lt;have l4c:=M4.body.lt;have l5:dq<h5.size:=At.lt Q5;refine gv H7.wks A7 rfl rfl Y (by simp[Value.oneCell']) Y λp' c' h8 W8 O8 g8=> ?_;have np:h1.size∉aR P.wp:=H.ne.2.1;have A8:=H7.own.only O8 np;refine aK A8 (by simp[gW]) rfl λh9 A9 O9 z9=> ?_;have hlt:=H.lt;have O57:aF [] h5 h7:=O6.trans O7 Z;have O79:aF (h1.size::aR P.wp) h7 h9:=(O8.mono λb hb _=>List.mem_cons_of_mem _ hb).trans O9 λb hb _=>by simp only[List.mem_singleton]at hb;exact List.mem_cons.2 (.inl hb)
   have O09:aF [] h h9:=(((O.trans O4 Z).trans O5 Z).trans O57 Z).trans O79 λb hb hl=>by
    rcases List.mem_cons.1 hb with e|hb
    ·have:=hB b (.inl e);omega
    ·have:=hB b (.inr (.inr (.inl hb)));omega
   have old: ∀b,cV h1.size P b->b<h3.size:=hlt
   have nS: ∀b,h3.size<=b->b∉h1.size::aR P.wp:=λb hb hm=>by
    rcases List.mem_cons.1 hm with e|hm
    ·have:=old b (.inl e);omega
    ·have:=old b (.inr (.inr (.inl hm)));omega
   obtain⟨k,ek⟩: ∃k:Wk,k=⟨h5.size,dq,m,c,List.replicate 66 0,0,0,0,[],0⟩:=⟨_,rfl⟩
   have hkbl: ∀b∈k.bl,h3.size<=b:=λb hb=>by rw[ek]at hb;simp[Wk.bl]at hb;omega
   have Wk9:jc h9 k:=by
    have W7:jc h7 k:=by rw[ek];have:=M4.ne;refine⟨A6.only O7 Z,⟨(Q5.only O57 Z),M5.only O57 Z Z,by show dq≠m;omega,by show dq≠c;omega,by omega,by omega,by omega,by simp⟩,⟨by simp[List.getD],by simp[List.getD],Z,λi hi=>by simp at hi⟩,⟨by show h5.size≠dq;omega,by show h5.size≠m;omega,by show h5.size≠c;omega⟩⟩
    exact W7.only O79 λb hb hm=>nS b (hkbl b hm) hb
   have kw:k.w=h5.size:=by rw[ek]
   refine ih (i+1) h9 {P with wp:=p',wc:=c',ws:=P.ws++[k]} Y ?_ (by simp[hl]) hj (λy hy=> ?_) hla hst (λb hb=> ?_) O09
   ·obtain⟨τ,t⟩:=H.sep;have g8': ∀b∈aR p',b∈aR P.wp\/h7.size<=b:=g8
    have kbl7: ∀b∈k.bl,b<h7.size:=λb hb=>by rw[ek]at hb;simp[Wk.bl]at hb;omega
    refine⟨?_,?_,λy hy=> ?_,((H7.jbm.only O8 H.ne.2.2).only O9 (by simp;exact λe=>H.ne.1 e.symm)),λj hj'=>(by rw[hj]at hj';cases hj'),⟨λb=>if b∈k.bl then 2*i+1 else if h7.size<=b then 0 else τ b,?_,?_,λb hb=> ?_,λx y hy b hb=> ?_,λj hj'=>(by rw[hj]at hj';cases hj')⟩,⟨H.ne.1,λhm=> ?_,λhm=> ?_⟩,by rw[hj];simp,λj hj'=>(by rw[hj]at hj';cases hj')⟩
    ·have e:(gW s P).set 1 (.slice p' (P.ws.length+1) c')=gW s {P with wp:=p',wc:=c',ws:=P.ws++[k]}:=by simp[gW]
     rw[<-e];exact A9
    ·show ct h9 0 1 p' (P.ws++[k]).length c' ((P.ws++[k]).map λk=>aX k.w)
     have:=W8.only O9 (λb e hm=>by
      simp only[List.mem_singleton]at hm;have hb:b∈aR p':=by rw[e];simp[aR]
      rcases g8' b hb with h|h
      ·rw[hm]at h;exact np h
      ·have:=old h1.size (.inl rfl);omega)
     simpa[aX,kw]using this
    ·rcases List.mem_append.1 hy with hy|hy
     ·refine(H7.wk y hy).only O79 λb hb hm=> ?_;obtain⟨x,hx⟩:=List.mem_iff_getElem?.1 hy;have t1:=t.ws x y hx b hm;rcases List.mem_cons.1 hb with e|hb
      ·subst e;have:=t.p;omega
      ·have:=t.wp b hb;omega
     ·simp only[List.mem_singleton]at hy;subst hy;exact Wk9
    ·show(if h1.size∈k.bl then _ else if h7.size<=h1.size then 0 else τ h1.size)=0;have:=old h1.size (.inl rfl);rw[if_neg λhm=>by have:=hkbl _ hm;omega];split
     ·rfl
     ·exact t.p
    ·show(if P.jb∈k.bl then _ else if h7.size<=P.jb then 0 else τ P.jb)=0;have:=old P.jb (.inr (.inl rfl));rw[if_neg λhm=>by have:=hkbl _ hm;omega];split
     ·rfl
     ·exact t.jb
    ·show(if b∈k.bl then _ else if h7.size<=b then 0 else τ b)=0;rcases g8' b hb with h|h
     ·have:=old b (.inr (.inr (.inl h)));rw[if_neg λhm=>by have:=hkbl _ hm;omega];split
      ·rfl
      ·exact t.wp b h
     ·rw[if_neg λhm=>by have:=kbl7 _ hm;omega,if_pos h]
    ·show(if b∈k.bl then _ else if h7.size<=b then 0 else τ b)=_;have hy:(P.ws++[k])[x]? =some y:=hy;by_cases hx:x<P.ws.length
     ·rw[List.getElem?_append_left hx]at hy;have hb3:=old b (.inr (.inr (.inr (.inl ⟨y,List.mem_of_getElem? hy,hb⟩))));rw[if_neg λhm=>by have:=hkbl _ hm;omega,if_neg Y];exact t.ws x y hy b hb
     ·rw[List.getElem?_append_right Y]at hy
      have hx2:x-P.ws.length=0:=by have:=(List.getElem?_eq_some_iff.1 hy).1;simp at this;omega
      rw[hx2]at hy;simp at hy;subst hy;rw[if_pos hb];omega
    ·rcases g8' _ hm with h|h
     ·exact H.ne.2.1 h
     ·have:=old h1.size (.inl rfl);omega
    ·rcases g8' _ hm with h|h
     ·exact H.ne.2.2 h
     ·have h:h7.size<=P.jb:=h;have:=old P.jb (.inr (.inl rfl));omega
   ·rcases List.mem_append.1 hy with hy|hy
    ·exact hf y hy
    ·simp only[List.mem_singleton]at hy;subst hy;rw[ek];exact⟨rfl,rfl,rfl⟩
   ·have z03:=O.size;rcases hb with e|e|hb|⟨y,hy,hb⟩|⟨y,hy,hb⟩
    ·exact hB b (.inl e)
    ·exact hB b (.inr (.inl e))
    ·rcases g8 b hb with h|h
     ·exact hB b (.inr (.inr (.inl h)))
     ·omega
    ·rcases List.mem_append.1 hy with hy|hy
     ·exact hB b (.inr (.inr (.inr (.inl ⟨y,hy,hb⟩))))
     ·simp only[List.mem_singleton]at hy;subst hy;have:=hkbl b hb;omega
    ·have hy:y∈P.jobs:=hy;rw[hj]at hy;cases hy
 refine⟨_,main (vM x) 0 h2 _ Y P0 rfl rfl (λk hk=>by cases hk) rfl rfl (λb hb=> ?_) O02⟩;rcases hb with e|e|hb|⟨y,hy,hb⟩|⟨y,hy,hb⟩
 ·omega
 ·have e:b=h.size:=e;omega
 ·simp[aR]at hb
 ·cases hy
 ·cases hy
def sM{n:Nat}{fo:Nat->Nat}{N:aj}(hl:1<=P.ws.length/\P.ws.length<=4)(hj:P.jobs=[])(hf: ∀k∈P.ws,Ax k)(h1:P.last=0)(h2:P.steals=0):bF n fo N P/\dc N P/\locs P.ws=[]/\qlen P.ws=0:=by
 have e1:locs P.ws=[]:=by
  unfold locs;rw[List.flatMap_eq_nil_iff];intro k hk;obtain⟨a,b,-⟩:=hf k hk;unfold Wk.loc;rw[if_pos b,a]
  rfl
 have e2:qlen P.ws=0:=by
  unfold qlen;have:P.ws.map (λk=>k.q.length)=P.ws.map λ_=>0:=List.map_congr_left λk hk=>by rw[(hf k hk).1];rfl
  rw[this];generalize P.ws=l
  induction l with
  |nil=>rfl
  |cons a l ih=>simpa using ih
 refine⟨⟨λj hj'=>(by rw[hj]at hj';cases hj'),λx hx=>(by rw[e1]at hx;cases hx),by rw[e1];simp,λj hj'=>(by rw[hj]at hj';cases hj'),λk hk=> ?_,hl,Y,Y,Y⟩,λj hj'=>(by rw[hj]at hj';cases hj'),e1,e2⟩;obtain⟨a,-,c⟩:=hf k hk;rw[a,c];simp
end
end
section
variable {i j k l m n o p q r s t:Int}{a b c d:Addr}{u v:Nat}{x y:ak}{h:aA}{K:KK}
def F58.spec(H:aZ h (.cells #[af j,af k,af l,af m] 51) λb c=>Cl 29 [ag a,ae i] c λa c=> ∃d:Int,∃e:Int,∃f:Int,∃g:Int,∃i:Bool,a=(.tuple #[.agg #[af d,af e,af f,af g],aw i])/\aZ c (.cells #[af 0,af 0,af 0,af 0] 51) λa c=>aP c ((ah a).add 0) (af d) λc=>aP c ((ah a).add 1) (af e) λc=>aP c ((ah a).add 2) (af f) λc=>aP c ((ah a).add 3) (af g) λc=>aC i (aI .u64 (rd c ((ah a).add 0)) λd=>aI .u64 (rd c ((ah a).add 1)) λe=>aI .u64 (rd c ((ah a).add 2)) λf=>aI .u64 (rd c ((ah a).add 3)) λa=>aI .u64 (rd c ((ah b).add 0)) λg=>aI .u64 (rd c ((ah b).add 1)) λi=>aI .u64 (rd c ((ah b).add 2)) λj=>aI .u64 (rd c ((ah b).add 3)) λb=>K (aw (d==g&&(e==i&&(f==j&&(a==b&&true))))) c) (K aq c)):Cl 58 [ag a,ae i,.agg #[af j,af k,af l,af m]] h K:=cN Tryz.func58 H
end
section
section
variable {h:aA}{p s n room:Nat}{fo gg:Nat->Nat}{off:Bool}{N:aj}{P:PS}{K:KK}{L:List Nat}
def nk{P P':PS}(a:tE P P'):P'.jobs.length=P.jobs.length:=by have:=congrArg List.length a.2.2;simpa using this
def xA{N N':aj}{P P':PS}(GO:dc N P)(E:Ex N N')(a:tE P P'):dc N' P':=λj hj=>by have h1:(j.id,j.G)∈P'.jobs.map λj=>(j.id,j.G):=List.mem_map.2 ⟨j,hj,rfl⟩;rw[a.2.2]at h1;obtain⟨y,hy,e⟩:=List.mem_map.1 h1;have e2:y.G=j.G:=congrArg Prod.snd e;obtain⟨g1,g2,g3⟩:=GO y hy;rw[e2]at g1 g2 g3;exact⟨E.isN g1,E.isN g2,E.isN g3⟩
structure uv(h:aA)(p s n room:Nat)(fo gg:Nat->Nat)(off:Bool)(N:aj)(P:PS)(L:List Nat):Prop where
 S:cG h s L (XL n room fo gg N off)
 H:bo h p s P
 Ok:bF n fo N P
 GO:dc N P
 D: ∀b,cV p P b->b∉L
structure wS(p:Nat)(P:PS)(L:List Nat)(h:aA)(P':PS)(L':List Nat)(h':aA):Prop where
 O: ∀T,(∀b,cV p P b->b∈T)->(∀b∈L,b∈T)->aF T h h'
 F:cj L L' h
 B: ∀b,cV p P' b->cV p P b\/h.size<=b
def uv.only0{h':aA}(W:uv h p s n room fo gg off N P L)(O:aF [] h h'):uv h' p s n room fo gg off N P L:=⟨W.S.only0 O,W.H.only0 O,W.Ok,W.GO,W.D⟩
def vZ(W:uv h p s n room fo gg off N P L){who draw:Int}
  (hOut:who<0\/(P.ws.length:Int)<=who->K aq h)
  (hK: ∀h' L' N' P' b (w:Nat) (k:Wk),who=(w:Int)->P.ws[w]? =some k->uv h' p s n room fo gg off N' P' L'->nZ n fo room N N' P P'->(b=true->locs P.ws≠[])->(phi n N' P'+1<=phi n N P\/(k.job=0/\k.q=[]/\dI P.ws P'.ws))->wS p P L h P' L' h'->K (aw b) h'):
  Cl 81 [aX p,ac who,ac draw] h K:=
 BD W.S W.H W.Ok W.GO W.D hOut λh' L' N' P' b w k e1 e2 S' H' D' Pk e3 e4 O' F' B'=>hK h' L' N' P' b w k e1 e2 ⟨S',H',Pk.ok,xA W.GO Pk.ex Pk.alike,D'⟩ Pk e3 e4 ⟨O',F',B'⟩
def xM(Ok:bF n fo N P){j:Jb}(hj:j∈P.jobs)(hd:j.A.done=false): ∃(w:Nat) (k:Wk),P.ws[w]? =some k/\(k.job≠0\/k.q≠[]):=by
 obtain⟨k,hk,hm⟩:=List.mem_flatMap.1 (Ok.loc j hj hd);obtain⟨w,hw⟩:=List.mem_iff_getElem?.1 hk;refine⟨w,k,hw,?_⟩;unfold Wk.loc at hm;by_cases h0:k.job=0
 ·rw[if_pos h0]at hm;exact .inr λe=>by rw[e]at hm;cases hm
 ·exact .inl h0
end
end
end Go.Proofs.YtnofenejoebkhaaGreat.Ev
