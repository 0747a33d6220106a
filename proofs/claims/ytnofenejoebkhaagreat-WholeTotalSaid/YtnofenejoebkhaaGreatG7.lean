/- PART 7 OF WHAT THE LAW WholeTotal STANDS ON. Conditions: none but those that each lemma states. -/
import Derived.Test.YtnofenejoebkhaaGreatG6
namespace Go.Proofs.YtnofenejoebkhaaGreat.Ev
open Go
set_option linter.defProp false
set_option maxRecDepth 100000
set_option autoImplicit true
set_option relaxedAutoImplicit true
structure tg(G G':EG):Prop where
 E:G'.E=G.E
 n:G'.n=G.n
 room:G'.room=G.room
 fo:G'.fo=G.fo
 gg:G'.gg=G.gg
 off:G'.off=G.off
 P:G'.P=G.P
 f:G'.f=G.f
 ex:Ex G'.N G.N
 cnt:bi G'.N<=bi G.N
 M:G'.M=G.M
 pk:cd G'.n G'.fo G'.N G'.P
 ok:cX G'.n G'.N
 rg: ∀i,i<4-> ∀r,r<6->(G.E.ses i).there r=true->isN G'.N ((G.E.ses i).hnd r)
def tg.refl(W:dh h e G):tg G G:=⟨rfl,rfl,rfl,rfl,rfl,rfl,rfl,rfl,Ex.refl _,Mb _,rfl,W.W.Ok,W.W.S.ok.1,W.rg⟩
def so(C:EG->Prop):Prop:= ∀{h:aI} {e:Nat} {G:EG} {K:KK},dh h e G->C G->G.M<=LB/1000->
 (∀h' G',dh h' e G'->tg G G'->bD e G h G' h'->K aE h')->Cl 80 [bf e] h K
def vw(G:EG)(N':ay)(L':List Nat):EG:={G with N:=N',L:=L'}
def dh.sto{G:EG}(W:dh h e G)(S:bT h' G.E.s L' {XL G.n G.room G.fo G.gg G.N G.off with N:=N'})(E:Ex G.N N')(O:aM G.L h h')(F:bC G.L L' h):
  dh h' e (vw G N' L')/\bD e G h (vw G N' L') h':=by
 have ok:=W.W.S.ok.1;have lt:=W.lt
 have DP: ∀b,dD G.E.p G.P b->b∉L':=λb hb hm=>by
  rcases F b hm with q|q
  ·exact W.W.D b hb q
  ·have:=lt b (bo.2 (.inr (.inr (.inr hb))));omega
 refine⟨⟨⟨rX S ok E,W.W.H.only O λb hb hp=>W.W.D b hp hb,(W.W.Ok.ext ok E).1,W.W.po,DP⟩,W.R.only O (λb hb hm=>(W.dB b hm).1 hb),W.I.only O W.de.1,W.C,⟨λhm=> ?_,W.de.2.1,W.de.2.2⟩,λb hb=>⟨λhm=> ?_,(W.dB b hb).2⟩,λi hi r hr ht=>E.isN (W.rg i hi r hr ht),W.r0,W.mq,W.po⟩,⟨λT hT=>O.mono λb hb _=>hT b (bo.2 (.inr (.inl hb))),λb hb=> ?_⟩⟩
 ·rcases F e hm with q|q
  ·exact W.de.1 q
  ·have:=lt e (bo.2 (.inl rfl));omega
 ·rcases F b hm with q|q
  ·exact(W.dB b hb).1 q
  ·have:=lt b (bo.2 (.inr (.inr (.inl hb))));omega
 ·rcases bo.1 hb with q|q|q|q
  ·exact .inl (bo.2 (.inl q))
  ·rcases F b q with q|q
   ·exact .inl (bo.2 (.inr (.inl q)))
   ·exact .inr q
  ·exact .inl (bo.2 (.inr (.inr (.inl q))))
  ·exact .inl (bo.2 (.inr (.inr (.inr q))))
def CA(R:iC room N l a b N' r er):Ex N N'/\(er=0\/er=60)/\(er=60->room<=bi N/\N'=N):=by
 rcases R with⟨-,-,e,e2⟩|⟨-,i,-,-,e,e2⟩|⟨-,-,h1,-,e,e2⟩|⟨-,-,-,e,q,-,p⟩
 ·subst e2;exact⟨Ex.refl _,.inl e,λh=>ah⟩
 ·subst e2;exact⟨Ex.refl _,.inl e,λh=>ah⟩
 ·subst e2;exact⟨Ex.refl _,.inr e,λ_=>⟨h1,rfl⟩⟩
 ·exact⟨p.ext,.inl e,λh=>ah⟩
def fY(k:Int):Nat:=if k=1\/k=2\/k=6 then 123 else if k=4\/k=5 then 124 else if k=7 then 125 else if k=8 then 126 else 127
def kz(e i:Nat):Value:=au ⟨e,3+24*i,none⟩
def JK:bR X 123=some cH.go:=by kernel_rfl
def Jz:bR X 124=some cH.go:=by kernel_rfl
def Jv:bR X 125=some cH.go:=by kernel_rfl
def IT:bR X 126=some cH.go:=by kernel_rfl
def Im:bR X 127=some cH.go:=by kernel_rfl
def Dx(k:Int):bR X (fY k)=some cH.go:=by
 unfold fY
 repeat' split
 ·exact JK
 ·exact Jz
 ·exact Jv
 ·exact IT
 ·exact Im
def Gc{c:lY}(hK: ∀h',aM [] h h'->K (.func (.func (fY c.kind)) #[bf e] #[]) h'):Cl 79 [bf e,sr c] h K:=by
 refine F79.spec ?_;refine aW λh1 A1 O1 z1=> ?_;simp only[aL,LX];refine aH (n:=c.kind) (by rw[At.rd A1];rfl) ?_;have hK:=hK h1 O1;obtain⟨k,ek⟩: ∃k,k=c.kind:=⟨_,rfl⟩;rw[<-ek]at hK ⊢;unfold fY at hK;by_cases h1:k=1
 ·subst h1;exact hK
 by_cases h2:k=2
 ·subst h2;exact hK
 by_cases h4:k=4
 ·subst h4;exact hK
 by_cases h5:k=5
 ·subst h5;exact hK
 by_cases h6:k=6
 ·subst h6;exact hK
 by_cases h7:k=7
 ·subst h7;exact hK
 by_cases h8:k=8
 ·subst h8;exact hK
 rw[LY ah,LY ah,LY h7,LY h8]at hK;simp only[kW h1,kW h2,kW h4,kW h5,kW h6,kW h7,kW h8,aK];exact hK
def jR(W:dh h e G)(hK:K (ap (G.P.ws.length:Int)) h):Cl 27 [bf e] h K:=by refine F27.spec ?_;exact aQ (by rw[aL];exact W.I.p) (qW W.W.H (aH rfl hK))
def AL(W:dh h e G)(g:(who<0\/(G.P.ws.length:Int)<=who\/ ¬kL G.E)-> ∀h',aM [] h h'->K aB h')
  (Inv:Nat->aI->EG->Prop) (h0: ∀h',aM [] h h'->Inv 0 h' G) (hO: ∀{i h1 G1 h2},Inv i h1 G1->aM [] h1 h2->Inv i h2 G1) (hW: ∀{i h1 G1},Inv i h1 G1->dh h1 e G1)
  (hn: ∀{i h1 G1},i<4->Inv i h1 G1->(G1.E.ses i).pend=false->Inv (i+1) h1 G1)
  (hs: ∀{i h1 G1} {Q:KK},i<4->Inv i h1 G1->(G1.E.ses i).pend=true->(∀b h2 G2,Inv (i+1) h2 G2->Q (aD b) h2)->Cl (fY (G1.E.ses i).cal.kind) [bf e,kz e i] h1 Q)
  (hE:0<=who->who<(G.P.ws.length:Int)->kL G.E-> ∀h1 G1,Inv 4 h1 G1->F26.wk11 (aw e) who draw h1 K):
  Cl 26 [bf e,ap who,ap draw] h K:=by
 refine F26.spec _ _ _ h K ?_;refine aR (λq=>g (.inl (Mn q)) h (aM.refl _ _)) λq=> ?_;have q:=Me q;refine jR W (aH rfl (aR (λp=>g (.inr (.inl (Mn p))) h (aM.refl _ _)) λp=> ?_));have p: ¬(G.P.ws.length:Int)<=who:=Me p;refine ru W.I (λa h1 O1=>a8 rfl ?_) λa h1 O1=>a8 rfl (g (.inr (.inr a)) h1 O1);rw[MF,aK];unfold F26.wk4
 have j: ∀(d i:Nat) (hh:aI) (G1:EG),d+i=4->Inv i hh G1->F26.wL4 (d+1) (aw e) who draw (i:Int) hh K:=by
  intro d
  induction d with
  |zero=>
   intro i hh G1 hi I;rw[F26.sL4];rw[L7 ah,aK];have ei:i=4:=ah;subst ei;exact hE ah ah a hh G1 I
  |succ d ih=>
   intro i hh G1 hi I;rw[F26.sL4];rw[Mg ah,aO];have f:i<4:=ah;have W1:=hW I;simp only[aL];rw[show 0+3+Int.toNat (i:Int)*24=3+24*i by omega]
   have nx: ∀{h2 G2},Inv (i+1) h2 G2->F26.wL4 (d+1) (aw e) who draw (ax ((i:Int)+1)) h2 K:=λ{h2 G2} I2=>by rw[ww f];exact ih (i+1) h2 G2 ah I2
   refine⟨ah,ah,a8 (W1.I.pend f rfl) (aR (λpe=> ?_) λpe=>nx (hn f I pe))⟩;refine aH (W1.I.kind f ah) (aH (W1.I.op f ah) (aH (W1.I.dst f ah) (aH (W1.I.ca f ah) (aH (W1.I.cb f ah) (aH (W1.I.cc f ah) (aH (W1.I.mask f ah) ?_))))));refine Gc (c:=(G1.E.ses i).cal) λh2 O2=>⟨_,rfl,?_⟩;refine bj (Dx _) ?_;exact hs f (hO I O2) pe λb h3 G3 I3=>a8 rfl (nx I3)
 exact⟨_,j 4 0 h1 G ah (h0 h1 O1)⟩
def wO(w:Nat)(G G':EG):Prop:= ∃G1 N' P' L' k,tg G G1/\cd G1.n G1.fo G1.N G1.P/\G'={G1 with N:=N',P:=P',L:=L'}/\tc G1.n G1.fo G1.N N' G1.P P'/\G1.P.ws[w]? =some k/\(fH G1.n N' P'+1<=fH G1.n G1.N G1.P\/(k.job=0/\k.q=[]/\fE G1.P.ws P'.ws))
def dh.pool{G:EG}(W:dh h e G)(W':yo h' G.E.p G.E.s G.n G.room G.fo G.gg G.off N' P' L')(E:Ex G.N N')(S:BV G.E.p G.P G.L h P' L' h'):
  dh h' e {G with N:=N',P:=P',L:=L'}/\bD e G h {G with N:=N',P:=P',L:=L'} h':=by
 have lt:=W.lt;have O':=S.O (EH G.E.p G.P++G.L) (λb hb=>Zp (.inl (gd.2 hb))) λb hb=>Zp (.inr hb)
 have a: ∀{b},b∉G.L-> ¬dD G.E.p G.P b->b∉EH G.E.p G.P++G.L:=λh1 h2 hm=>by
  rcases Zq hm with q|q
  ·exact h2 (gd.1 q)
  ·exact h1 q
 have nL: ∀{b},b∈lX e G->b∉G.L->b∉L':=λhb hn hm=>by
  rcases S.F _ hm with q|q
  ·exact hn q
  ·have:=lt _ hb;omega
 have nP: ∀{b},b∈lX e G-> ¬dD G.E.p G.P b-> ¬dD G.E.p P' b:=λhb hn hm=>by
  rcases S.B _ hm with q|q
  ·exact hn q
  ·have:=lt _ hb;omega
 have me:e∈lX e G:=bo.2 (.inl rfl);have mB: ∀b∈G.B,b∈lX e G:=λb hb=>bo.2 (.inr (.inr (.inl hb)));refine⟨⟨W',W.R.only O' λb hb hm=>(a (W.dB b hm).1 (W.dB b hm).2) hb,W.I.only O' (a W.de.1 W.de.2.1),W.C,⟨nL me W.de.1,nP me W.de.2.1,W.de.2.2⟩,λb hb=>⟨nL (mB b hb) (W.dB b hb).1,nP (mB b hb) (W.dB b hb).2⟩,λi hi r hr ht=>E.isN (W.rg i hi r hr ht),W.r0,W.mq,W.po⟩,⟨λT hT=>S.O T (λb hb=>hT b (bo.2 (.inr (.inr (.inr hb))))) λb hb=>hT b (bo.2 (.inr (.inl hb))),λb hb=> ?_⟩⟩;rcases bo.1 hb with q|q|q|q
 ·exact .inl (bo.2 (.inl q))
 ·rcases S.F b q with q|q
  ·exact .inl (bo.2 (.inr (.inl q)))
  ·exact .inr q
 ·exact .inl (bo.2 (.inr (.inr (.inl q))))
 ·rcases S.B b q with q|q
  ·exact .inl (bo.2 (.inr (.inr (.inr q))))
  ·exact .inr q
def uk(mr:so C)(W:dh h e G)(hC:C G)(hM:G.M<=LB/1000)(hw:w<G.P.ws.length)
  (hK: ∀h' G',dh h' e G'->bD e G h G' h'->wO w G G'->K aC h'):F26.wk11 (aw e) (w:Int) draw h K:=by
 unfold F26.wk11;refine mr W hC hM λh1 G1 W1 C1 S1=>⟨rfl,?_⟩;simp only[aL,LX];refine aQ W1.I.p ?_;have hl:(G1.P.ws.length:Int)=(G.P.ws.length:Int):=by rw[C1.P]
 refine AT W1.W (who:=(w:Int)) (λq=>ah) λh2 L2 N2 P2 b w' k ew hk W2 Pk _ a B2=>a8 rfl ?_;have ew:w'=w:=ah;subst ew;obtain⟨W3,S3⟩:=W1.pool W2 Pk.ex B2;exact hK h2 _ W3 (S1.trans S3) ⟨G1,N2,P2,L2,k,C1,W1.W.Ok,rfl,Pk,hk,a⟩
def C3(i d:Nat)(G G':EG)(er:Int):Prop:= ∃G1 N2 L2 r a f',tg G G1/\iC G1.room G1.N (G1.gg (G.E.ses i).cal.mask) 0 1 N2 r a/\er=(a:Int)/\G'=if a=0 then wu (vw G1 N2 L2) i d r f' else vw G1 N2 L2
def vx{h:aI}{e:Nat}{G:EG}{K:KK}{C:EG->Prop}(mr:so C)(W:dh h e G){i d:Nat}(hi:i<4)(hC:C G)(hM:G.M+2000<=LB/1000)(hv:(G.E.ses i).cal.mask<G.n)(hd:d<6)(ed:(G.E.ses i).cal.dst=(d:Int))
  (hK: ∀h' G' (er:Int),dh h' e G'->bD e G h G' h'->C3 i d G G' er->K (ap er) h'):Cl 165 [bf e,kz e i] h K:=by
 have k:LB=140737488355328:=rfl;refine F165.spec ?_;refine mr W hC ah λh1 G1 W1 C1 S1=>⟨rfl,?_⟩;simp only[aL,LX];have mq:=W.mq i hi;refine aQ W1.I.s (aH (n:=((G.E.ses i).cal.mask:Int)) (by rw[W1.I.mask hi ah,C1.E]) ?_);rw[wrap_i64 ah ah];have c:(G.E.ses i).cal.mask<G1.n:=by rw[C1.n];exact hv
 have pg:=(W1.po.1 _ c).1;refine Ea W1.W.S c pg λh2 L2 N2 r er R S2 O2 F2=>⟨_,_,rfl,?_⟩;have R:iC G1.room G1.N (G1.gg (G.E.ses i).cal.mask) 0 1 N2 r er:=R;obtain⟨E2,e2,-⟩:=CA R;obtain⟨W2,T2⟩:=W1.sto S2 E2 O2 F2;rcases e2 with q|q
 ·subst q;rw[show(((0:Nat):Int)==0)=true from rfl,aO]
  have hr:isN N2 r:=by
   have e0:lvl G1.n G1.N 0=G1.n:=by unfold lvl;rw[L4 ah]
   exact(gh (f:=G1.fo) W1.W.S.ok.1 W2.W.S.ok.1 (a:=0) (b:=1) (.inl ah) (.inl ah) (show _<lvl G1.n G1.N 0 by rw[e0];exact pg) R).2.1
  have j:((vw G1 N2 L2).E.ses i).cal.dst=(d:Int):=by show(G1.E.ses i).cal.dst=_;rw[C1.E];exact ed
  have g:(vw G1 N2 L2).M+1<=LB:=by show G1.M+1<=LB;have:=C1.M;omega
  refine wd W2 hi hd j hr g λh3 f3 W3 T3=>⟨rfl,hK h3 _ _ W3 ((S1.trans T2).trans T3) ⟨G1,N2,L2,r,0,f3,C1,R,rfl,by rw[L4 rfl]⟩⟩
 ·subst q;rw[show(((60:Nat):Int)==0)=false from rfl,aK];exact hK h2 _ _ W2 (S1.trans T2) ⟨G1,N2,L2,r,60,G1.f,C1,R,rfl,by rw[LY ah]⟩
def F9.T:bh:=⟨[(10,[0,5,7,8]),(14,[0,5,7]),(15,[0,5,7,9]),(18,[5,7]),(21,[5,7,10]),(26,[5,7])],[]⟩
section
variable (n:Nat)(d i:Int)(a:az)(c f g b:Int)(h:aI)(K:KK)
def F9.wL21:Prop:=Lp Tryz.f9 F9.T [1,1,1,1,1,1,1,1,1,0,1,0] n [(5,(aA a)),(7,(ap c)),(10,(ap b))] h K
def F9.wL15:Prop:=Lp Tryz.f9 F9.T [1,1,1,1,1,1,1,0,1,0] n [(0,(.int .u8 d)),(5,(aA a)),(7,(ap c)),(9,(ap g))] h K
def F9.wL10:Prop:=Lp Tryz.f9 F9.T [1,1,1,1,1,1,0,1,0] n [(0,(.int .u8 d)),(5,(aA a)),(7,(ap c)),(8,(ap f))] h K
def F9.wk26:Prop:=Cl 24 [aA a,ap c,.agg #[ap 5,ap 0,ap 0,ap 0,ap 0,ap 0,.int .u8 0]] h λb c=>aS .i64 (some b) λb=>aJ (b==0) (Cl 24 [aA a,ap 4,.agg #[ap 7,ap 0,ap 0,ap 0,ap 0,ap 0,.int .u8 0]] c λa b=>aS .i64 (some a) λa=>K (aD (a==222)) b) (K aB c)
def F9.sL21:F9.wL21 (n+1) a c b h K=(aJ (b<4) (Cl 28 [aA a,ap b,ap 2] h λd e=> ∃f:Int,∃g:Bool,d=(.tuple #[aq f,aD g])/\aJ (b !=c) (aJ (!g) (K aB e) (aJ (!((f==1)==(decide (b>0)))) (K aB e) (aJ (f>1) (K aB e) (aJ (b==c) (aJ g (K aB e) (F9.wL21 n a c (ax (b+1)) e K)) (F9.wL21 n a c (ax (b+1)) e K))))) (aJ (b==c) (aJ g (K aB e) (F9.wL21 n a c (ax (b+1)) e K)) (F9.wL21 n a c (ax (b+1)) e K))) (F9.wk26 a c h K)):=by kernel_rfl
def F9.wk21:Prop:=(∃d,F9.wL21 d a c b h K)
def F9.wk18:Prop:=Cl 42 [aA a] h λb d=>bQ (some b) λb=>aJ (!b) (K aB d) (Cl 54 [aA a] d λb d=>aS .i64 (some b) λb=>aJ (b !=4) (K aB d) (Cl 26 [aA a,ap 0,ap 0] d λb d=>bQ (some b) λb=>aJ b (K aB d) (F9.wk21 a c 0 d K)))
def F9.sL15:F9.wL15 (n+1) d a c g h K=(((5:Int)≠0/\aJ (g<(ax (Int.tmod d 5))) (Cl 26 [aA a,ap 0,ap g] h λb e=>bQ (some b) λ_=>F9.wL15 n d a c (ax (g+1)) e K) (F9.wk18 a c h K))):=by kernel_rfl
def F9.wk15:Prop:=(∃b,F9.wL15 b d a c g h K)
def F9.wk14:Prop:=F9.wk15 d a c 0 h K
def F9.sL10:F9.wL10 (n+1) d a c f h K=(aJ (f<4) (aJ (f !=c) (Cl 24 [aA a,ap f,.agg #[ap 2,ap 0,ap 2,ap 0,ap 0,ap 0,.int .u8 (IntKind.wrap .u8 f)]] h λb e=>aS .i64 (some b) λb=>aJ (b !=0) (K aB e) (F9.wL10 n d a c (ax (f+1)) e K)) (F9.wL10 n d a c (ax (f+1)) h K)) (F9.wk14 d a c h K)):=by kernel_rfl
def F9.wk10:Prop:=(∃b,F9.wL10 b d a c f h K)
def F9.spec(H:Cl 40 [] h λa b=>bQ (some a) λa=>aJ (!a) (K aB b) (Cl 18 [ap 4,ap 16384,ap 1] b λa b=> ∃c:az,∃e:Int,a=(.tuple #[aA c,ap e])/\aJ (e !=0) (K aB b) (((4:Int)≠0/\Cl 24 [aA c,ap (ax (Int.tmod i 4)),.agg #[ap 1,ap 0,ap 0,ap 0,ap 0,ap 0,.int .u8 1]] b λa b=>aS .i64 (some a) λa=>aJ (a !=0) (K aB b) (Cl 24 [aA c,ap (ax (Int.tmod i 4)),.agg #[ap 1,ap 0,ap 1,ap 0,ap 0,ap 0,.int .u8 1]] b λa b=>aS .i64 (some a) λa=>aJ (a !=220) (K aB b) (F9.wk10 d c (ax (Int.tmod i 4)) 0 b K)))))):Cl 9 [.int .u8 d,.int .u8 i] h K:=cT F9.T Tryz.func9 H
end
def pO{c:lY}(h:kY n c=0):(c.kind=3->bS c.op≠0)/\(c.kind=1->c.mask<n)/\(c.kind=3->c.op=8->c.mask<n)/\(c.kind=3->(c.op=6\/c.op=7)->c.mask/2^n=0):=by
 unfold kY at h;split at h
 ·cases h
 ·rename_i a;split at h
  ·cases h
  ·rename_i b;split at h
   ·cases h
   ·rename_i d;refine⟨λk t=>a ⟨k,t⟩,λk=> ?_,λk o=> ?_,λk o=> ?_⟩
    ·exact Nat.lt_of_not_le λq=>b ⟨.inl k,q⟩
    ·exact Nat.lt_of_not_le λq=>b ⟨.inr ⟨k,o⟩,q⟩
    ·exact Mi λq=>d ⟨k,o,q⟩
def mF{c:lY}(h:fC n x c=0):(1<=c.kind/\c.kind<=8)/\(ym c.kind->mK c.dst)/\nh x c/\kY n c=0:=by
 unfold fC at h;split at h
 ·cases h
 ·rename_i a;split at h
  ·cases h
  ·rename_i b;split at h
   ·cases h
   ·rename_i d;exact⟨Classical.not_not.1 a,λw=>Mi λq=>b ⟨w,q⟩,Classical.not_not.1 d,h⟩
def Gp(G:EG)(i d:Nat)(f':Int->Int):EG:={G with E:=G.E.put i (iB (G.E.ses i) d),M:=G.M+1,f:=f'}
def AN{h:aI}{e:Nat}{G:EG}{K:KK}{i d:Nat}(W:dh h e G)(hi:i<4)(hd:d<6)(ed:(G.E.ses i).cal.dst=(d:Int))(hM:G.M<=LB)
  (hK: ∀h' f',dh h' e (Gp G i d f')->bD e G h (Gp G i d f') h'->K aE h'):Cl 166 [bf e,kz e i] h K:=by
 refine qY W.I W.R W.de.2.2 hi hd ed hM λh' I' R' O'=> ?_;have C':=xe W.C hi hd
 have hS: ∀b∈e::G.B,b∉G.L/\ ¬dD G.E.p G.P b:=λb hb=>by
  rcases List.mem_cons.1 hb with q|q
  ·subst q;exact⟨W.de.1,W.de.2.1⟩
  ·exact W.dB b q
 refine hK h' _ ⟨W.W.only O' (λb hb=>(hS b hb).1) (λb hb=>(hS b hb).2),R',I',C',W.de,W.dB,λk hk r hr ht=> ?_,λk hk r hr ht=> ?_,λk hk=> ?_,W.po⟩ (bD.some O' (λb hb=> ?_) λb hb=>hb)
 ·have ht:((G.E.put i (iB (G.E.ses i) d)).ses k).there r=true:=ht;show isN G.N (((G.E.put i (iB (G.E.ses i) d)).ses k).hnd r);rw[fP]at ht ⊢;by_cases q:k=i
  ·rw[L4 q]at ht ⊢;by_cases w:r=d
   ·subst w;rw[show(iB (G.E.ses i) r).there r=false from dt]at ht;cases ht
   ·rw[show(iB (G.E.ses i) d).hnd r=(G.E.ses i).hnd r from cK w];rw[show(iB (G.E.ses i) d).there r=(G.E.ses i).there r from cK w]at ht;exact W.rg i hi r hr ht
  ·rw[LY q]at ht ⊢;exact W.rg k hk r hr ht
 ·have ht:((G.E.put i (iB (G.E.ses i) d)).ses k).there r=false:=ht;show((G.E.put i (iB (G.E.ses i) d)).ses k).hnd r=0;rw[fP]at ht ⊢;by_cases q:k=i
  ·rw[L4 q]at ht ⊢;by_cases w:r=d
   ·subst w;exact dt
   ·rw[show(iB (G.E.ses i) d).hnd r=(G.E.ses i).hnd r from cK w];rw[show(iB (G.E.ses i) d).there r=(G.E.ses i).there r from cK w]at ht;exact W.r0 i hi r hr ht
  ·rw[LY q]at ht ⊢;exact W.r0 k hk r hr ht
 ·show((G.E.put i (iB (G.E.ses i) d)).ses k).cal.mask<256;rw[fP];by_cases q:k=i
  ·rw[L4 q];exact W.mq i hi
  ·rw[LY q];exact W.mq k hk
 ·rcases List.mem_cons.1 hb with q|q
  ·subst q;exact bo.2 (.inl rfl)
  ·exact bo.2 (.inr (.inr (.inl q)))
def K3(i:Nat)(G G':EG):Prop:= ∃d:Nat,d<6/\(G.E.ses i).cal.dst=(d:Int)/\
 (((G.E.ses i).cal.kind=1/\ ∃G1 er,C3 i d G G1 er/\G'=gS G1 i er 0)\/
  ((G.E.ses i).cal.kind=2/\ ∃f',G'=gS (wu G i d (min 1 (G.E.ses i).cal.mask) f') i 0 0)\/
  ((G.E.ses i).cal.kind=6/\ ∃f',G'=gS (Gp G i d f') i 0 0))
def C3.ans(R:C3 i d G G' er):G'.E.ans=G.E.ans:=by
 obtain⟨G1,N2,L2,r,e',f',C1,-,-,e⟩:=R;subst e;have:G1.E.ans=G.E.ans:=by rw[C1.E]
 split
 ·exact this
 ·exact this
def AH{h:aI}{e:Nat}{G:EG}{K:KK}{C:EG->Prop}(mr:so C)(W:dh h e G){i:Nat}(hi:i<4)(hC:C G)(hM:G.M+2000<=LB/1000)(ha:G.E.ans<1000000000)(hk:(G.E.ses i).cal.kind=1\/(G.E.ses i).cal.kind=2\/(G.E.ses i).cal.kind=6)(hr:fC G.n (G.E.ses i) (G.E.ses i).cal=0)
  (hK: ∀h' G',dh h' e G'->bD e G h G' h'->K3 i G G'->K aC h'):Cl 123 [bf e,kz e i] h K:=by
 have a:LB=140737488355328:=rfl;obtain⟨-,z2,-,z4⟩:=mF hr;obtain⟨-,z5,-,-⟩:=pO z4;have hd:=z2 (by unfold ym;omega);obtain⟨d,ed⟩: ∃d:Nat,(G.E.ses i).cal.dst=(d:Int):=⟨(G.E.ses i).cal.dst.toNat,by unfold mK at hd;omega⟩;have d6:d<6:=by unfold mK at hd;omega
 refine F123.spec ?_;simp only[aL,LX];refine aH (W.I.kind hi ah) ?_;rcases hk with k|k|k
 ·rw[k,show((1:Int)==1)=true from rfl,aO];refine vx mr W hi hC hM (z5 k) d6 ed λh1 G1 er W1 S1 V=>aH rfl ?_;unfold F123.wk8;refine dK (n:=0) W1 hi (by rw[V.ans];exact ha) λh2 W2 S2=>⟨rfl,?_⟩;exact hK h2 _ W2 (S1.trans S2) ⟨d,d6,ed,.inl ⟨k,G1,er,V,rfl⟩⟩
 ·rw[k,show((2:Int)==1)=false from rfl,aK,show((2:Int)==6)=false from rfl,aK];have mq:=W.mq i hi;refine aH (W.I.mask hi ah) ?_
  have em:(IntKind.wrap .u32 (if(1:Int)<((G.E.ses i).cal.mask:Int)then(1:Int)else((G.E.ses i).cal.mask:Int)))=((min 1 (G.E.ses i).cal.mask:Nat):Int):=by
   by_cases q:1<(G.E.ses i).cal.mask
   ·rw[L4 ah,show min 1 (G.E.ses i).cal.mask=1 by omega];rfl
   ·rw[LY ah,show min 1 (G.E.ses i).cal.mask=(G.E.ses i).cal.mask by omega];exact gK ah
  rw[em];refine wd W hi d6 ed (.inl ah) ah λh1 f1 W1 S1=>⟨rfl,?_⟩;unfold F123.wk8;refine dK (n:=0) W1 hi ha λh2 W2 S2=>⟨rfl,?_⟩;exact hK h2 _ W2 (S1.trans S2) ⟨d,d6,ed,.inr (.inl ⟨k,f1,rfl⟩)⟩
 ·rw[k,show((6:Int)==1)=false from rfl,aK,show((6:Int)==6)=true from rfl,aO];refine AN W hi d6 ed ah λh1 f1 W1 S1=>⟨rfl,?_⟩;unfold F123.wk8;refine dK (n:=0) W1 hi ha λh2 W2 S2=>⟨rfl,?_⟩;exact hK h2 _ W2 (S1.trans S2) ⟨d,d6,ed,.inr (.inr ⟨k,f1,rfl⟩)⟩
def eK(G:EG)(k:Nat)(c:lY):EG:={G with E:=G.E.put k (rZ (G.E.ses k) c)}
def w7{G:EG}{c:lY}(W:dh h e G)(hm:c.mask<256)
  (hO:(i<0\/4<=i)-> ∀h',aM [] h h'->K (ap 222) h')
  (hB: ∀k:Nat,k<4->i=(k:Int)->(G.E.ses k).pend=true-> ∀h',aM [] h h'->K (ap 220) h')
  (hR: ∀k:Nat,k<4->i=(k:Int)->(G.E.ses k).pend=false->fC G.n (G.E.ses k) c≠0-> ∀h',aM [] h h'->K (ap (fC G.n (G.E.ses k) c)) h')
  (hK: ∀k:Nat,k<4->i=(k:Int)->(G.E.ses k).pend=false->fC G.n (G.E.ses k) c=0-> ∀h',dh h' e (eK G k c)->bD e G h (eK G k c) h'->K (ap 0) h'):
  Cl 24 [bf e,ap i,sr c] h K:=by
 refine Eh W.I W.W.S W.de.1 hm hO hB hR λk hk ek hp hr h' I' O'=>hK k hk ek hp hr h' ?_ (bD.some O' (λb hb=>by simp at hb;subst hb;exact bo.2 (.inl rfl)) λb hb=>hb)
 have hs: ∀q,((eK G k c).E.ses q).there=(G.E.ses q).there/\((eK G k c).E.ses q).hnd=(G.E.ses q).hnd:=λq=>by
  show((G.E.put k (rZ (G.E.ses k) c)).ses q).there=_/\((G.E.put k (rZ (G.E.ses k) c)).ses q).hnd=_;rw[fP];by_cases z:q=k
  ·rw[L4 z,z];exact⟨rfl,rfl⟩
  ·rw[LY z];exact⟨rfl,rfl⟩
 refine⟨W.W.only O' (λb hb=>by simp at hb;subst hb;exact W.de.1) (λb hb=>by simp at hb;subst hb;exact W.de.2.1),W.R.only O' (λb hb=>by simp at hb;subst hb;exact W.de.2.2),I',λx=> ?_,W.de,W.dB,λq hq r hr ht=> ?_,λq hq r hr ht=> ?_,λq hq=> ?_,W.po⟩
 ·rw[pf hs];exact W.C x
 ·rw[(hs q).2];rw[(hs q).1]at ht;exact W.rg q hq r hr ht
 ·rw[(hs q).2];rw[(hs q).1]at ht;exact W.r0 q hq r hr ht
 ·show((G.E.put k (rZ (G.E.ses k) c)).ses q).cal.mask<256;rw[fP];by_cases z:q=k
  ·rw[L4 z];exact hm
  ·rw[LY z];exact W.mq q hq
def o9(x:gi)(i:Nat):Nat:=match (kq x.cal)[i]? with|some r=>x.hnd r.toNat|none=>0
def rQ{x:gi}{r:Int}(h:(kq x.cal)[i]? =some r):o9 x i=x.hnd r.toNat:=by unfold o9;rw[h]
def rR{x:gi}(h:(kq x.cal)[i]? =none):o9 x i=0:=by unfold o9;rw[h]
def iF(x:gi)(n:Nat):gi:={x with job:=n}
def Ek(hi:i<4)(W:dh h e G)(A:At h b (dQ 3 λ_=>aq (0:Int)))(c:b∉lX e G)(R:DB hb h p l (kq (G.E.ses i).cal))(m: ∀q L,p=some (aw q)->At h q L->q≠b)(ok:nh (G.E.ses i) (G.E.ses i).cal)
  (hK: ∀h',dh h' e G->At h' b (dQ 3 λj=>aq (o9 (G.E.ses i) j:Int))->aM [b] h h'->F172.wk10 (aw e) ⟨e,3+24*i,none⟩ x5 (aw b) h' K):
  F172.wk6 (aw e) ⟨e,3+24*i,none⟩ x5 (aw b) p l cc (Nat.cast l:Int) 0 h K:=by
 obtain⟨el,R⟩:=R;have l3:=wV (G.E.ses i).cal;unfold F172.wk6
 have f: ∀(d k:Nat) (hh:aI),d+k=l->dh hh e G->At hh b (dQ 3 λj=>aq ((if j<k then o9 (G.E.ses i) j else 0:Nat):Int))->aM [b] h hh->F172.wL6 (d+1) (aw e) ⟨e,3+24*i,none⟩ x5 (aw b) p l cc (Nat.cast l:Int) (k:Int) hh K:=by
  intro d
  induction d with
  |zero=>
   intro k hh hk W1 A1 O1;rw[F172.sL6];rw[L7 ah,aK];refine hK hh W1 ?_ O1;rw[gC (g':=λj=>aq ((if j<k then o9 (G.E.ses i) j else 0:Nat):Int)) λj hj=> ?_]
   ·exact A1
   ·by_cases q:j<k
    ·rw[L4 q]
    ·rw[LY q,rR (Mt ah)]
  |succ d ih=>
   intro k hh hk W1 A1 O1;rw[F172.sL6];rw[Mg ah,aO];have a:k<(kq (G.E.ses i).cal).length:=ah;obtain⟨x,hx⟩: ∃x,(kq (G.E.ses i).cal)[k]? =some x:=⟨_,Mj a⟩;rcases R with R|⟨q,Lc,ep,gb,Ab,g⟩
   ·rw[R]at a;simp at a
   have qb:=m q Lc ep Ab;have Aq:=Ab.only O1 (by simp;exact qb);obtain⟨rx,tx⟩:=ok x (Mc hx);have r6:x.toNat<6:=by unfold mK at rx;omega
   rw[ep];refine⟨ah,ah,aH (n:=x) (by simp only[aL];rw[At.rd Aq,show 0+Int.toNat (Nat.cast k:Int)*1=k by simp];exact g k x hx) ⟨rx.1,rx.2,?_⟩⟩;refine aH (n:=((G.E.ses i).hnd x.toNat:Int)) (by simp only[aL];exact W1.I.hnd hi r6 ah) ⟨ah,ah,?_⟩;simp only[aL];rw[show 0+Int.toNat (Nat.cast k:Int)*1+0=k by simp];refine aU A1 (by rw[cj];omega) rfl λh2 A2 O2 z2=> ?_;rw[ww ah,<-ep];have W2:dh h2 e G:=⟨W1.W.only O2 (λy hy hm=>by simp at hy;subst hy;exact c (bo.2 (.inr (.inl hm)))) (λy hy hm=>by simp at hy;subst hy;exact c (bo.2 (.inr (.inr (.inr hm))))),W1.R.only O2 (λy hy hm=>by simp at hy;subst hy;exact c (bo.2 (.inr (.inr (.inl hm))))),W1.I.only O2 (λhm=>by simp at hm;exact c (bo.2 (.inl hm.symm))),W1.C,W1.de,W1.dB,W1.rg,W1.r0,W1.mq,W1.po⟩;refine ih (k+1) h2 ah W2 ?_ (O1.trans O2 λy hy _=>hy);rw[jE]at A2;rw[gC (g':=λj=>if j=k then aq ((G.E.ses i).hnd x.toNat:Int)else aq ((if j<k then o9 (G.E.ses i) j else 0:Nat):Int)) λj hj=> ?_]
   ·exact A2
   ·by_cases z:j=k
    ·rw[L4 z,L4 ah,z,rQ hx]
    ·rw[LY z];by_cases z2:j<k
     ·rw[L4 z2,L4 ah]
     ·rw[LY z2,LY ah]
 refine⟨_,f l 0 h ah W ?_ (aM.refl _ _)⟩;rw[gC (g':=λ_=>aq (0:Int)) λj hj=>by rw[LY ah];rfl];exact A
def wg(G:EG)(i:Nat)(ws:List Wk)(A:MA):EG:=
 {G with E:=G.E.put i (iF (G.E.ses i) (G.P.last+1)),P:={G.P with ws:=ws,jobs:=G.P.jobs++[⟨G.P.last+1,A⟩],last:=G.P.last+1}}
def BB(W:dh h e G)(hi:i<4)(I:dI h' e (G.E.put i (iF (G.E.ses i) n)))(O:aM [e] h h'):dh h' e {G with E:=G.E.put i (iF (G.E.ses i) n)}/\bD e G h {G with E:=G.E.put i (iF (G.E.ses i) n)} h':=by
 have hs: ∀q,((G.E.put i (iF (G.E.ses i) n)).ses q).there=(G.E.ses q).there/\((G.E.put i (iF (G.E.ses i) n)).ses q).hnd=(G.E.ses q).hnd/\((G.E.put i (iF (G.E.ses i) n)).ses q).cal=(G.E.ses q).cal:=λq=>by
  rw[fP];by_cases z:q=i
  ·rw[L4 z,z];exact⟨rfl,rfl,rfl⟩
  ·rw[LY z];exact⟨rfl,rfl,rfl⟩
 refine⟨⟨W.W.only O (λb hb=>by simp at hb;subst hb;exact W.de.1) (λb hb=>by simp at hb;subst hb;exact W.de.2.1),W.R.only O (λb hb=>by simp at hb;subst hb;exact W.de.2.2),I,λx=> ?_,W.de,W.dB,λk hk r hr ht=> ?_,λk hk r hr ht=> ?_,λk hk=> ?_,W.po⟩,bD.some O (λb hb=>by simp at hb;subst hb;exact bo.2 (.inl rfl)) λb hb=>hb⟩
 ·show G.f (x:Int)=(lH (G.E.put i (iF (G.E.ses i) n)) x:Int);rw[pf λk=>⟨(hs k).1,(hs k).2.1⟩];exact W.C x
 ·show isN G.N (((G.E.put i (iF (G.E.ses i) n)).ses k).hnd r);have ht:((G.E.put i (iF (G.E.ses i) n)).ses k).there r=true:=ht;rw[(hs k).2.1];rw[(hs k).1]at ht;exact W.rg k hk r hr ht
 ·show((G.E.put i (iF (G.E.ses i) n)).ses k).hnd r=0;have ht:((G.E.put i (iF (G.E.ses i) n)).ses k).there r=false:=ht;rw[(hs k).2.1];rw[(hs k).1]at ht;exact W.r0 k hk r hr ht
 ·show((G.E.put i (iF (G.E.ses i) n)).ses k).cal.mask<256;rw[(hs k).2.2];exact W.mq k hk
def DR(W:dh h e G)(hi:i<4)(ok:nh (G.E.ses i) (G.E.ses i).cal)(hj:j<(kq (G.E.ses i).cal).length):isN G.N (o9 (G.E.ses i) j):=by obtain⟨x,hx⟩: ∃x,(kq (G.E.ses i).cal)[j]? =some x:=⟨_,Mj hj⟩;obtain⟨rx,tx⟩:=ok x (Mc hx);rw[rQ hx];exact W.rg i hi _ (by unfold mK at rx;omega) tx
def wa{h:aI}{e i:Nat}{G:EG}{K:KK}(W:dh h e G)(hi:i<4)(k3:(G.E.ses i).cal.kind=3){op:Nat}(eo:(G.E.ses i).cal.op=(op:Int))(f:op=1\/op=2\/op=3\/op=4\/op=5\/op=6\/op=7\/op=8\/op=9\/op=10)(ok:nh (G.E.ses i) (G.E.ses i).cal)(hl:G.P.last+1<100000000)(ha:G.E.ans<1000000000)(hR:Ar G.E-> ∀h',aM [] h h'->K aB h')
  (hF: ∀h' (er:Nat),(er=40\/er=60\/er=160)->dh h' e (gS G i (er:Int) 0)->bD e G h (gS G i (er:Int) 0) h'->K aC h')
  (hK: ∀h' ws A,dh h' e (wg G i ws A)->bD e G h (wg G i ws A) h'->ws.length=G.P.ws.length->A.done=false->qlen ws=qlen G.P.ws+1->K aB h'):
  Cl 172 [bf e,kz e i] h K:=by
 refine F172.spec _ _ h K ?_;refine BL W.I (λa h1 O1=>a8 rfl (by rw[aO];exact hR a h1 O1)) λ_ h1 O1=>a8 rfl ?_;rw[aK];have W1:=W.only0 O1;simp only[aL,LX];refine aH (W1.I.kind hi ah) (aH (W1.I.op hi ah) (aH (W1.I.dst hi ah) (aH (W1.I.ca hi ah) (aH (W1.I.cb hi ah) (aH (W1.I.cc hi ah) (aH (W1.I.mask hi ah) ?_))))));obtain⟨c,ec⟩: ∃c,c=(G.E.ses i).cal:=⟨_,rfl⟩;rw[<-ec];refine aW λh2 A2 O2 z2=> ?_;refine aU A2 ak rfl λh3 A3 O3 z3=>aU A3 ak rfl λh4 A4 O4 z4=>aU A4 ak rfl λh5 A5 O5 z5=>aU A5 ak rfl λh6 A6 O6 z6=>aU A6 ak rfl λh7 A7 O7 z7=>aU A7 ak rfl λh8 A8 O8 z8=>aU A8 ak rfl λh9 A9 O9 z9=> ?_;have A9:At h9 h1.size [ap c.kind,ap c.op,ap c.dst,ap c.a,ap c.b,ap c.c,.int .u8 (c.mask:Int)]:=A9;have O29:aM [h1.size] h2 h9:=(((((O3.trans O4 λb hb _=>hb).trans O5 λb hb _=>hb).trans O6 λb hb _=>hb).trans O7 λb hb _=>hb).trans O8 λb hb _=>hb).trans O9 λb hb _=>hb;have O19:aM [] h1 h9:=O2.trans O29 (by intro x hx hl;simp at hx;omega);refine aW λt A10 O10 B=> ?_;have C:=A9.lt;have A9':=A9.only O10 ak;have r: ∀k,rd t ⟨h1.size,k,none⟩=([ap c.kind,ap c.op,ap c.dst,ap c.a,ap c.b,ap c.c,.int .u8 (c.mask:Int)]:List Value)[k]? :=λk=>At.rd A9' k;refine aH (n:=c.kind) (by rw[r];rfl) (aH (n:=c.op) (by rw[r];rfl) (aH (n:=c.dst) (by rw[r];rfl) (aH (n:=c.a) (by rw[r];rfl) (aH (n:=c.b) (by rw[r];rfl) (aH (n:=c.c) (by rw[r];rfl) (aH (n:=(c.mask:Int)) (by rw[r];rfl) ?_))))));refine uG (c:=c) λy p l cc O11 R11=>⟨_,_,_,rfl,?_⟩;have W10:=(W1.only0 O19).only0 O10;have W11:=W10.only0 O11;have u:=(W1.only0 O19).lt;have A11:At y h9.size (dQ 3 λ_=>aq (0:Int)):=A10.only O11 ak;rw[ec]at R11;have nb:h9.size∉lX e G:=λhm=>by have:=u _ hm;omega
 refine Ek (b:=h9.size) hi W11 A11 nb R11 (λq L ep Aq=> ?_) ok λd W12 A12 O12=> ?_
 ·obtain⟨el,R⟩:=R11;rcases R with R|⟨q2,L2,e2,g2,-,-⟩
  ·intro eq;have l0:l=0:=by rw[el,R];rfl
   have hh:(kq (G.E.ses i).cal).length=(bS (G.E.ses i).cal.op).toNat:=by unfold kq;rw[LY ah,LY ah,L4 k3,NI];have:=tH (G.E.ses i).cal.op;simp;omega
   rw[R,eo]at hh;rcases f with z|z|z|z|z|z|z|z|z|z<;>subst z<;>cases hh
  ·rw[ep]at e2;injection e2 with e2;injection e2 with e2;omega
 ·unfold F172.wk10;have A9'':At d h1.size [ap c.kind,ap c.op,ap c.dst,ap c.a,ap c.b,ap c.c,.int .u8 (c.mask:Int)]:=(A9'.only O11 ak).only O12 (by simp;omega);have rc: ∀k,rd d ⟨h1.size,k,none⟩=([ap c.kind,ap c.op,ap c.dst,ap c.a,ap c.b,ap c.c,.int .u8 (c.mask:Int)]:List Value)[k]? :=λk=>At.rd A9'' k;have ra: ∀k,k<3->rd d ⟨h9.size,k,none⟩=some (aq (o9 (G.E.ses i) k:Int)):=λk hk=>by rw[At.rd A12,dR hk]
  simp only[aL,LX];refine aQ W12.I.p (aH (n:=c.op) (by rw[rc];rfl) ⟨ah,ah,aH (ra 0 ah) ⟨ah,ah,aH (ra 1 ah) ⟨ah,ah,aH (ra 2 ah) (aH (n:=(c.mask:Int)) (by rw[rc];rfl) ?_)⟩⟩⟩)
  have hn: ∀j,isN G.N (o9 (G.E.ses i) j):=λj=>by
   by_cases q:j<(kq (G.E.ses i).cal).length
   ·exact DR W12 hi ok q
   ·rw[rR (Mt ah)];exact .inl ah
  rw[ec,eo];have mq:=W.mq i hi;have O0:aM [] h d:=((((O1.trans O19 ak).trans O10 ak).trans O11 ak).trans O12 (by intro x hx hl;simp at hx;have:=O1.size;have:=O19.size;omega));have S0:bD e G h G d:=bD.only0 O0;refine D8 mq W12.W.S W12.W.H W12.W.Ok W12.po W12.W.D f (hn 0) (hn 1) (hn 2) hl (λg er ez O13=>⟨_,_,rfl,?_⟩) λ_ g ws A S13 H13 Ok13 m D13 wl dn ql O13=>⟨_,_,rfl,?_⟩
  ·rw[show((er:Int) !=0)=true by simp;omega,aO];have W13:=W12.only0 O13;refine dK (n:=0) W13 hi ha λv W14 S14=>⟨rfl,hF v er ez W14 ((S0.trans (bD.only0 O13)).trans S14)⟩
  rw[show((0:Int) !=0)=false from rfl,aK];have W13:yo g G.E.p G.E.s G.n G.room G.fo G.gg G.off G.N {G.P with ws:=ws,jobs:=G.P.jobs++[⟨G.P.last+1,A⟩],last:=G.P.last+1} G.L:=⟨S13,H13,Ok13,W12.po,D13⟩;obtain⟨W14,S14⟩:=W12.pool W13 (Ex.refl _) ⟨λT hT _=>O13 T hT,bC.refl _ _,m⟩;refine dI.setS (x:=iF (G.E.ses i) (G.P.last+1)) W14.I hi (j:=20) ah ah rfl (λq hq=>Cp (x:=G.E.ses i) q hq) λo I15 O15 _=> ?_;obtain⟨W15,S15⟩:=BB W14 hi I15 O15;exact hK o ws A W15 ((S0.trans S14).trans S15) wl dn ql
def vH(G:EG)(id:Nat):EG:={G with P:={G.P with jobs:=G.P.jobs.filter λz=>decide (z.id≠id)}}
def Bk{h:aI}{e:Nat}{G:EG}{K:KK}{id:Nat}(W:dh h e G){x:Nat}{j:Jb}(hx:G.P.jobs[x]? =some j)(ej:j.id=id)(hd:j.A.done=true)
  (hK: ∀h' b,dh h' e (vH G id)->bD e G h (vH G id) h'->K (aD b) h'):Cl 36 [bf G.E.p,ap (id:Int)] h K:=by
 have hm:=Mc hx;refine Bd W.W.H W.W.Ok (λq=> ?_) λh1 j' c f a H1 Ok1 O1=> ?_
 ·exfalso;rcases q with q|⟨j',c,f,a⟩
  ·exact q j hm (by rw[ej])
  ·have ids:=W.W.H.ids
   have:j'=j:=by
    obtain⟨y,hy⟩:=N7 c;have e1:(G.P.jobs.map (·.id))[y]? =some id:=by rw[Mx,hy];exact congrArg some (show j'.id=_ by omega)
    have e2:(G.P.jobs.map (·.id))[x]? =some id:=by rw[Mx,hx];exact congrArg some ej
    have:=fJ ids.1 e1 e2;subst this;rw[hy]at hx;injection hx
   subst this;rw[hd]at a;cases a
 ·have d:j'.id=id:=ah;rw[d]at H1 Ok1
  have sub: ∀b,dD G.E.p {G.P with jobs:=G.P.jobs.filter λz=>decide (z.id≠id)} b->dD G.E.p G.P b:=λb hb=>by
   rcases hb with hb|hb|hb|hb|⟨y,hy,hb⟩
   ·exact .inl hb
   ·exact .inr (.inl hb)
   ·exact .inr (.inr (.inl hb))
   ·exact .inr (.inr (.inr (.inl hb)))
   ·exact .inr (.inr (.inr (.inr ⟨y,(List.mem_filter.1 hy).1,hb⟩)))
  have W1:yo h1 G.E.p G.E.s G.n G.room G.fo G.gg G.off G.N {G.P with jobs:=G.P.jobs.filter λz=>decide (z.id≠id)} G.L:=
   ⟨W.W.S.only O1 (λb hb hm=>by simp at hb;subst hb;exact W.W.D _ (.inr (.inl rfl)) hm),H1,Ok1,W.W.po,λb hb=>W.W.D b (sub b hb)⟩
  obtain⟨W2,S2⟩:=W.pool W1 (Ex.refl _) ⟨λT hT _=>O1.mono λb hb _=>by simp at hb;subst hb;exact hT _ (.inr (.inl rfl)),bC.refl _ _,λb hb=> .inl (sub b hb)⟩;exact hK h1 true W2 S2
def vy{h:aI}{e i:Nat}{G:EG}{K:KK}(W:dh h e G)(hi:i<4){x:Nat}{j:Jb}(hx:G.P.jobs[x]? =some j)(ej:j.id=(G.E.ses i).job)(h0:(G.E.ses i).job≠0)(hd:j.A.done=false)(hK:K aB h):Cl 127 [bf e,kz e i] h K:=by
 have hm:=Mc hx;refine F127.spec ?_;simp only[aL,LX];refine aH (W.I.job hi ah) ?_;rw[kW ah,aK];refine aQ W.I.p (aH (W.I.job hi ah) ?_);refine uC W.W.H (λq=>Mw ah (q j hm)) λy j' hy a=>⟨_,_,rfl,?_⟩
 have:j'=j:=by
  have e1:(G.P.jobs.map (·.id))[y]? =some j.id:=by rw[Mx,hy];exact congrArg some (show j'.id=_ by omega)
  have e2:(G.P.jobs.map (·.id))[x]? =some j.id:=by rw[Mx,hx];rfl
  have:=fJ W.W.H.ids.1 e1 e2;subst this;rw[hy]at hx;injection hx
 subst this;rw[LY (by rw[hd];simp),show((61:Int)==61)=true from rfl,aO];exact hK
def mY(G:EG)(i d:Nat)(told er:Nat)(f':Int->Int):EG:=gS (vH (if er=0 then wu G i d told f' else G) (G.E.ses i).job) i (er:Int) 0
def wi{h:aI}{e i:Nat}{G:EG}{K:KK}(W:dh h e G)(hi:i<4){d x:Nat}{j:Jb}(hx:G.P.jobs[x]? =some j)(ej:j.id=(G.E.ses i).job)(h0:(G.E.ses i).job≠0)(hd:j.A.done=true)(he:j.A.e=0\/j.A.e=60)(hv:j.A.e=0->isN G.N j.A.told)(a:d<6)(ed:(G.E.ses i).cal.dst=(d:Int))
  (hM:G.M+1<=LB) (ha:G.E.ans<1000000000) (hK: ∀h' f',dh h' e (mY G i d j.A.told j.A.e f')->bD e G h (mY G i d j.A.told j.A.e f') h'->K aC h'):Cl 127 [bf e,kz e i] h K:=by
 have hm:=Mc hx;refine F127.spec ?_;simp only[aL,LX];refine aH (W.I.job hi ah) ?_;rw[kW ah,aK];refine aQ W.I.p (aH (W.I.job hi ah) ?_);refine uC W.W.H (λq=>Mw ah (q j hm)) λy j' hy c=>⟨_,_,rfl,?_⟩
 have:j'=j:=by
  have e1:(G.P.jobs.map (·.id))[y]? =some j.id:=by rw[Mx,hy];exact congrArg some (show j'.id=_ by omega)
  have e2:(G.P.jobs.map (·.id))[x]? =some j.id:=by rw[Mx,hx];rfl
  have:=fJ W.W.H.ids.1 e1 e2;subst this;rw[hy]at hx;injection hx
 subst this;rw[L4 hd]
 have fin: ∀{hh:aI} {G1:EG} {er:Nat},dh hh e G1->bD e G h G1 hh->G1.P=G.P->(G1.E.ses i).job=(G.E.ses i).job->G1.E.ans=G.E.ans->(∀h2,dh h2 e (gS (vH G1 (G.E.ses i).job) i (er:Int) 0)->bD e G h (gS (vH G1 (G.E.ses i).job) i (er:Int) 0) h2->K aC h2)->F127.wk8 (aw e) ⟨e,3+24*i,none⟩ (er:Int) hh K:=λ{hh G1 er} W1 S1 eP eJ eA hK=>by unfold F127.wk8;simp only[aL,LX];refine aQ W1.I.p (aH (W1.I.job hi ah) ?_);rw[eJ];refine Bk W1 (x:=x) (j:=j') (by rw[eP];exact hx) ej hd λh2 b W2 S2=>a8 rfl ?_;refine dK (n:=0) W2 hi (by show G1.E.ans<_;rw[eA];exact ha) λh3 W3 S3=>⟨rfl,hK h3 W3 ((S1.trans S2).trans S3)⟩
 unfold mY at hK;rcases he with z|z
 ·rw[z,L4 ⟨hd,rfl⟩,show(((0:Nat):Int)==61)=false from rfl,aK,show(((0:Nat):Int)==0)=true from rfl,aO];refine wd W hi a ed (hv z) hM λh1 f1 W1 S1=>⟨rfl,?_⟩;rw[z]at hK;refine fin W1 S1 rfl (by show((G.E.put i (setS (G.E.ses i) d j'.A.told)).ses i).job=_;rw[cW];rfl) rfl λh2 W2 S2=> ?_;have:=hK h2 f1;rw[L4 rfl]at this;exact this W2 S2
 ·rw[z,LY ah,show(((60:Nat):Int)==61)=false from rfl,aK,show(((60:Nat):Int)==0)=false from rfl,aK];rw[z]at hK;refine fin W bD.refl rfl rfl rfl λh2 W2 S2=> ?_;have:=hK h2 G.f;rw[LY ah]at this;exact this W2 S2
def xM(H:cX n N): ∀(d:Nat) {a x y:Nat},n-lvl n N a<=d->isN N a->(∀l,lvl n N a<=l->l<n->x.testBit (fo l)=y.testBit (fo l))->sm n fo N a x=sm n fo N a y:=by
 intro d
 induction d with
 |zero=>
  intro a x y hd ha hb
  have h2:a<2:=by apply Mi;intro hn;have:=(H.at ha ah).1;omega
  rw[br h2,br h2]
 |succ d ih=>
  intro a x y hd ha hb;by_cases h2:a<2
  ·rw[br h2,br h2]
  ·obtain⟨h3,h4,h5,-,h6,h7⟩:=H.at ha ah;rw[cP H ha ah,cP H ha ah,hb _ (Mb _) h3,ih (a:=high N a) (x:=x) (y:=y) ah h5 (λl hl=>hb l ah),ih (a:=low N a) (x:=x) (y:=y) ah h4 (λl hl=>hb l ah)]
def oS(P:cu n fo gg)(hl:l<n)(a:l'<n)(e:fo l=fo l'):l=l':=by rw[<-(P.2 l hl).2,<-(P.2 l' a).2,e]
def EV(H:cX n N)(P:cu n fo gg)(n8:n<=8): ∀(d:Nat) {a b:Nat},n-min (lvl n N a) (lvl n N b)<=d->isN N a->isN N b->(∀x,x<256->sm n fo N a x=sm n fo N b x)->a=b:=by
 have sA: ∀{a x:Nat} {v:Bool},isN N a->2<=a->x<256->sm n fo N a (wN x (fo (lvl n N a)) v)=if v=true then sm n fo N (high N a) x else sm n fo N (low N a) x:=λ{a x v} ha h2 hx=>by
  obtain⟨h3,h4,h5,-,h6,h7⟩:=H.at ha h2;have f8:fo (lvl n N a)<8:=by have:=(P.2 _ h3).1;omega
  have f: ∀l,lvl n N a<l->l<n->(wN x (fo (lvl n N a)) v).testBit (fo l)=x.testBit (fo l):=λl hl hn=>by
   have fl:fo l<8:=by have:=(P.2 l hn).1;omega
   rw[mL hx f8 v fl,LY];intro e;have:=oS P h3 hn (by first|exact e|exact e.symm);omega
  rw[cP H ha h2,mL hx f8 v f8,L4 rfl];cases v with
  |true=>
   rw[L4 rfl,L4 rfl];exact xM H n ah h5 λl hl hn=>f l ah hn
  |false=>
   rw[LY ak,LY ak];exact xM H n ah h4 λl hl hn=>f l ah hn
 have i: ∀{b x l:Nat} {v:Bool},isN N b->l<lvl n N b->l<n->x<256->sm n fo N b (wN x (fo l) v)=sm n fo N b x:=λ{b x l v} hb hl hn hx=>by
  have f8:fo l<8:=by have:=(P.2 _ hn).1;omega
  refine xM H n ah hb λl' m g=> ?_;have fl:fo l'<8:=by have:=(P.2 l' g).1;omega
  rw[mL hx f8 v fl,LY];intro e;have:=oS P hn g (by first|exact e|exact e.symm);omega
 intro d
 induction d with
 |zero=>
  intro a b hd ha hb he
  have a2:a<2:=by apply Mi;intro hn;have:=(H.at ha ah).1;omega
  have b2:b<2:=by apply Mi;intro hn;have:=(H.at hb ah).1;omega
  have:=he 0 ah;rw[br a2,br b2]at this;have e2:(a==1)=(b==1):=this;have:a=0\/a=1:=ah;have:b=0\/b=1:=ah;rcases ‹a=0\/a=1› with q|q<;>rcases ‹b=0\/b=1› with r|r<;>subst q r<;>first|rfl|(simp at e2)
 |succ d ih=>
  have c: ∀{a b:Nat},n-min (lvl n N a) (lvl n N b)<=d+1->isN N a->isN N b->(∀x,x<256->sm n fo N a x=sm n fo N b x)->lvl n N a<lvl n N b->False:=λ{a b} hd ha hb he hl=>by
   have a2:2<=a:=by
    apply Mi;intro hn;have e1:lvl n N a=n:=by unfold lvl;rw[L4 ah]
    have:=lvl_le H hb;omega
   obtain⟨h3,h4,h5,k,h6,h7⟩:=H.at ha a2;apply k;refine ih ah h4 h5 λx hx=> ?_;have f8:fo (lvl n N a)<8:=by have:=(P.2 _ h3).1;omega
   have e1:=he (wN x (fo (lvl n N a)) false) (DE hx f8 _);have e2:=he (wN x (fo (lvl n N a)) true) (DE hx f8 _);rw[sA ha a2 hx,i hb hl h3 hx]at e1 e2;rw[LY ak]at e1;rw[L4 rfl]at e2;rw[e1,e2]
  intro a b hd ha hb he;by_cases a2:2<=a
  ·by_cases b2:2<=b
   ·by_cases hl:lvl n N a=lvl n N b
    ·obtain⟨a3,a4,a5,-,a6,a7⟩:=H.at ha a2;obtain⟨b3,b4,b5,-,b6,b7⟩:=H.at hb b2;have f8:fo (lvl n N a)<8:=by have:=(P.2 _ a3).1;omega
     have el:low N a=low N b:=by refine ih ah a4 b4 λx hx=> ?_;have e1:=he (wN x (fo (lvl n N a)) false) (DE hx f8 _);rw[sA ha a2 hx,hl,sA hb b2 hx,LY ak,LY ak]at e1;exact e1
     have eh:high N a=high N b:=by refine ih ah a5 b5 λx hx=> ?_;have e1:=he (wN x (fo (lvl n N a)) true) (DE hx f8 _);rw[sA ha a2 hx,hl,sA hb b2 hx,L4 rfl,L4 rfl]at e1;exact e1
     rcases ha with q|⟨x,hx⟩
     ·omega
     rcases hb with q|⟨y,hy⟩
     ·omega
     have la:lvl n N a=x.1/\low N a=x.2.1/\high N a=x.2.2:=by unfold lvl low high;rw[LY ah,LY ah,LY ah,hx];exact⟨rfl,rfl,rfl⟩
     have lb:lvl n N b=y.1/\low N b=y.2.1/\high N b=y.2.2:=by unfold lvl low high;rw[LY ah,LY ah,LY ah,hy];exact⟨rfl,rfl,rfl⟩
     have j:x=y:=by obtain⟨x1,x2,x3⟩:=x;obtain⟨y1,y2,y3⟩:=y;have c1:x1=y1:=la.1.symm.trans (hl.trans lb.1);have c2:x2=y2:=la.2.1.symm.trans (el.trans lb.2.1);have c3:x3=y3:=la.2.2.symm.trans (eh.trans lb.2.2);rw[c1,c2,c3]
     subst j;have:=H.once _ _ _ hx hy;omega
    ·by_cases h:lvl n N a<lvl n N b
     ·exact(c hd ha hb he h).elim
     ·exact(c (by rw[Nat.min_comm];exact hd) hb ha (λx hx=>(he x hx).symm) ah).elim
   ·have e1:lvl n N b=n:=by unfold lvl;rw[L4 ah]
    exact(c hd ha hb he (by rw[e1];exact(H.at ha a2).1)).elim
  ·by_cases b2:2<=b
   ·have e1:lvl n N a=n:=by unfold lvl;rw[L4 ah]
    exact(c (by rw[Nat.min_comm];exact hd) hb ha (λx hx=>(he x hx).symm) (by rw[e1];exact(H.at hb b2).1)).elim
   ·have:=he 0 ah;rw[br ah,br ah]at this;have e2:(a==1)=(b==1):=this;have qa:a=0\/a=1:=ah;have qb:b=0\/b=1:=ah;rcases qa with q|q<;>rcases qb with r|r<;>subst q r<;>first|rfl|(simp at e2)
def Dv(P:cu n fo gg)(hk:k+1<n):cu n (sw k fo) (tk k fo gg):=by
 have k1:=P.2 k ah;have k2:=P.2 (k+1) hk
 have ne:fo k≠fo (k+1):=λe=>by have h1:=k1.2;rw[e,k2.2]at h1;omega
 refine⟨λv hv=> ?_,λl hl=> ?_⟩
 ·unfold tk iX;by_cases e1:v=fo k
  ·rw[L4 e1];refine⟨hk,?_⟩;unfold sw iX;rw[L4 rfl,e1]
  ·rw[LY e1];by_cases e2:v=fo (k+1)
   ·rw[L4 e2];refine⟨ah,?_⟩;unfold sw iX;rw[LY ah,L4 rfl,e2]
   ·rw[LY e2];obtain⟨q1,q2⟩:=P.1 v hv;refine⟨q1,?_⟩;unfold sw iX;rw[LY (λe=>e2 (by rw[<-e,q2])),LY (λe=>e1 (by rw[<-e,q2])),q2]
 ·unfold sw iX;by_cases e1:l=k+1
  ·rw[L4 e1];refine⟨k1.1,?_⟩;unfold tk iX;rw[L4 rfl,e1]
  ·rw[LY e1];by_cases e2:l=k
   ·rw[L4 e2];refine⟨k2.1,?_⟩;unfold tk iX;rw[LY (λe=>ne e.symm),L4 rfl,e2]
   ·rw[LY e2];obtain⟨q1,q2⟩:=P.2 l hl;refine⟨q1,?_⟩;unfold tk iX;rw[LY (λe=>e2 (by rw[<-q2,e,k1.2])),LY (λe=>e1 (by rw[<-q2,e,k2.2])),q2]
def uv(H:cL h b n f g)(hk:k<8)(hv:v<8)
  (hK: ∀h',cL h' b n (iX f k v) (iX g v k)->aM [b] h h'->K aE h'):
  Cl 370 [au (aw b),ap (k:Int),ap (v:Int)] h K:=by
 apply F370.spec;simp only[aL,LX,MU,Ma,Md];refine⟨ah,ah,H.stv hk λh1 A1 O1=>⟨trivial,trivial,trivial,trivial,trivial,ah,ah,A1.stl hv λh2 A2 O2=> ?_⟩⟩;exact hK h2 A2 (O1.trans O2 ak)
def Ca(H:cL h b n f g)(hn:n<=8)(hk:k+1<n)(hf: ∀i,i<n->f i<n)
  (hK: ∀h',cL h' b n (sw k f) (tk k f g)->aM [b] h h'->K (ap 0) h'):
  Cl 369 [au (aw b),ap (k:Int)] h K:=by
 apply F369.spec;have e1:ax ((k:Int)+1)=((k+1:Nat):Int):=by rw[wrap_i64 ah ah];simp
 have e2:ax ((n:Int)-1)=(n:Int)-1:=wrap_i64 ah ah;simp only[aL,LX,MU,Md,e1];have f1:=hf k ah;have f2:=hf (k+1) ah;rw[L7 ah,aK];refine aH H.rd0 ?_;rw[e2,L7 ah,aK];refine⟨ah,ah,aH (H.rdv ah) ⟨ah,ah,aH (H.rdv ah) ?_⟩⟩;refine uv H ah ah λh1 A1 O1=>⟨rfl,uv A1 ah ah λh2 A2 O2=>⟨rfl,hK h2 A2 (O1.trans O2 ak)⟩⟩
def Fm(D D':ay)(q:Nat)(x:Nd):Prop:=nd D q=none/\ ∀i,nd D' i=if i=q then some x else nd D i
def Fm.ex(A:Fm D D' q x):Ex D D':=λi y h=>by rw[A.2,LY (λe=>by subst e;rw[A.1]at h;cases h)];exact h
def Fm.new(A:Fm D D' q x):nd D' q=some x:=by rw[A.2,L4 rfl]
def Fm.ok(A:Fm D D' q x)(H:cX n D)(h1:x.1<n)(h2:isN D x.2.1)(h3:isN D x.2.2)(h4:x.2.1≠x.2.2)(h5:x.1<lvl n D x.2.1)(h6:x.1<lvl n D x.2.2)(h7: ∀i,nd D i≠some x):cX n D':=by
 have E:=A.ex;refine⟨λi y hy=> ?_,λi j y hi hj=> ?_⟩
 ·rw[A.2]at hy;split at hy
  ·injection hy with hy;subst hy;exact⟨h1,E.isN h2,E.isN h3,h4,by rw[E.lvl h2];exact h5,by rw[E.lvl h3];exact h6⟩
  ·obtain⟨a,b,c,d,e,f⟩:=H.node i y hy;exact⟨a,E.isN b,E.isN c,d,by rw[E.lvl b];exact e,by rw[E.lvl c];exact f⟩
 ·rw[A.2]at hi hj;split at hi
  ·split at hj
   ·omega
   ·injection hi with hi;subst hi;exact Mw hj (h7 j)
  ·split at hj
   ·injection hj with hj;subst hj;exact Mw hi (h7 i)
   ·exact H.once i j y hi hj
def eQ(h:nd D i=some x):isN D (i+2)/\lvl n D (i+2)=x.1/\low D (i+2)=x.2.1/\high D (i+2)=x.2.2:=by
 refine⟨.inr ⟨x,h⟩,?_,?_,?_⟩
 ·unfold lvl;rw[LY ah,show i+2-2=i by omega,h]
 ·unfold low;rw[LY ah,show i+2-2=i by omega,h]
 ·unfold high;rw[LY ah,show i+2-2=i by omega,h]
def fI(h:isN D a)(h2:2<=a):nd D (a-2)=some (lvl n D a,low D a,high D a):=by
 rcases h with q|⟨x,hx⟩
 ·omega
 ·rw[show a=a-2+2 by omega];obtain⟨-,e1,e2,e3⟩:=eQ (n:=n) hx;rw[show a-2+2-2=a-2 by omega,hx,e1,e2,e3]
def lU(H:cX n N)(P:cu n fo gg)(n8:n<=8)(hb:isN N b)(hl:l<lvl n N b)(hn:l<n)(hx:x<256):sm n fo N b (wN x (fo l) v)=sm n fo N b x:=by
 have f8:fo l<8:=by have:=(P.2 _ hn).1;omega
 refine xM H n ah hb λl' c a=> ?_;have fl:fo l'<8:=by have:=(P.2 l' a).1;omega
 rw[mL hx f8 v fl,LY];intro e;have:=oS P hn a (by first|exact e|exact e.symm);omega
def Bp(H:cX n N)(P:cu n fo gg)(n8:n<=8)(ha:isN N a)(hb:isN N b)(ne:a≠b): ∃x,x<256/\sm n fo N a x≠sm n fo N b x:=by apply Mi;intro h;exact ne (EV H P n8 n ah ha hb λx hx=>Mi λq=>h ⟨x,hx,q⟩)
def part(n k:Nat)(N:ay)(a:Nat):Nat×Nat:=if lvl n N a=k+1 then(low N a,high N a)else(a,a)
structure DX(n k:Nat)(fo:Nat->Nat)(N D:ay)(U:List Nat):Prop where
 ok:cX n D
 lev: ∀i x,nd D i=some x->k<=x.1
 old: ∀a,isN N a->k<=lvl n N a->a∉U->isN D a/\ ∀x,sm n (sw k fo) D a x=sm n fo N a x
 top: ∀i x,nd D i=some x->x.1=k->isN N (i+2)/\k<=lvl n N (i+2)/\i+2∉U
 un: ∀a∈U,2<=a/\nd D (a-2)=none/\isN N a/\lvl n N a=k/\(lvl n N (low N a)=k+1\/lvl n N (high N a)=k+1)
 deep: ∀a,isN N a->k+1<lvl n N a->lvl n D a=lvl n N a
def om(H:cX n N)(hc:isN N c)(hk:k<lvl n N c)(h2:k+1<n):(isN N (part n k N c).1/\k+1<lvl n N (part n k N c).1)/\(isN N (part n k N c).2/\k+1<lvl n N (part n k N c).2)/\ ∀x,sm n fo N c x=if x.testBit (fo (k+1))then sm n fo N (part n k N c).2 x else sm n fo N (part n k N c).1 x:=by
 unfold part;by_cases q:lvl n N c=k+1
 ·rw[L4 q]
  have c2:2<=c:=by
   apply Mi;intro w;have:lvl n N c=n:=by unfold lvl;rw[L4 ah]
   omega
  obtain⟨h3,h4,h5,-,h6,h7⟩:=H.at hc c2;exact⟨⟨h4,by show k+1<lvl n N (low N c);omega⟩,⟨h5,by show k+1<lvl n N (high N c);omega⟩,λx=>by rw[cP H hc c2,q]⟩
 ·rw[LY q];exact⟨⟨hc,by show k+1<lvl n N c;omega⟩,⟨hc,by show k+1<lvl n N c;omega⟩,λx=>ak⟩
inductive Ih (D:ay) (l a b:Nat):ay->Nat->Prop
 |same:a=b->Ih D l a b D a
 |found (i:Nat):a≠b->nd D i=some (l,a,b)->Ih D l a b D (i+2)
 |made (D':ay) (q:Nat):a≠b->(∀i,nd D i≠some (l,a,b))->Fm D D' q (l,a,b)->Ih D l a b D' (q+2)
def DX.made(M:DX n k fo N D U)(hk:k+1<n)(ha:isN N a)(la:k+1<lvl n N a)(hb:isN N b)(lb:k+1<lvl n N b)(R:Ih D (k+1) a b D' r)(hU: ∀c∈U,nd D' (c-2)=none):
  DX n k fo N D' U/\Ex D D'/\isN D' r/\k+1<=lvl n D' r/\ ∀x,sm n (sw k fo) D' r x=if x.testBit (fo k)then sm n fo N b x else sm n fo N a x:=by
 have nU: ∀{c},k+1<lvl n N c->c∉U:=λhc hm=>by have:=(M.un _ hm).2.2.2.1;omega
 obtain⟨a1,a2⟩:=M.old a ha ah (nU la);obtain⟨b1,b2⟩:=M.old b hb ah (nU lb);have a3:=M.deep a ha la;have b3:=M.deep b hb lb;have sk:sw k fo (k+1)=fo k:=by unfold sw iX;rw[L4 rfl]
 cases R with
 |same e=>
  subst e;exact⟨M,Ex.refl _,a1,ah,λx=>by rw[a2];simp⟩
 |found i ne hi=>
  obtain⟨e0,e1,e2,e3⟩:=eQ (n:=n) hi;refine⟨M,Ex.refl _,e0,by rw[e1];exact Mb _,λx=> ?_⟩;rw[cP M.ok e0 ah,e1,e2,e3,sk,a2,b2]
 |made D' q ne no A=>
  have E:=A.ex;have f:=A.ok M.ok hk a1 b1 ne (by rw[a3];exact la) (by rw[b3];exact lb) no;have hn:=A.new;obtain⟨e0,e1,e2,e3⟩:=eQ (n:=n) hn;refine⟨⟨f,λi x hx=> ?_,λc hc hl hu=> ?_,λi x hx d=> ?_,λc hc=> ?_,λc hc hl=> ?_⟩,E,e0,by rw[e1];exact Mb _,λx=> ?_⟩
  ·rw[A.2]at hx;split at hx
   ·injection hx with hx;subst hx;show k<=k+1;omega
   ·exact M.lev i x hx
  ·obtain⟨c1,c2⟩:=M.old c hc hl hu;exact⟨E.isN c1,λx=>by rw[E.sm M.ok c1];exact c2 x⟩
  ·rw[A.2]at hx;split at hx
   ·injection hx with hx;subst hx;exact Mw d (by show ¬k+1=k;omega)
   ·exact M.top i x hx d
  ·obtain⟨c1,-,c3⟩:=M.un c hc;exact⟨c1,hU c hc,c3⟩
  ·rw[E.lvl (M.old c hc ah (nU hl)).1];exact M.deep c hc hl
  ·rw[cP f e0 ah,e1,e2,e3,sk,E.sm M.ok a1,E.sm M.ok b1,a2,b2]
def DX.put(M:DX n k fo N D (c::U))(H:cX n N)(P:cu n fo gg)(n8:n<=8)(hk:k+1<n)(d:c∉U)
  (i0:isN D x0) (l0:k+1<=lvl n D x0) (s0: ∀x,sm n (sw k fo) D x0 x=if x.testBit (fo k)then sm n fo N (part n k N (high N c)).1 x else sm n fo N (part n k N (low N c)).1 x)
  (i1:isN D x1) (l1:k+1<=lvl n D x1) (s1: ∀x,sm n (sw k fo) D x1 x=if x.testBit (fo k)then sm n fo N (part n k N (high N c)).2 x else sm n fo N (part n k N (low N c)).2 x):
  (x0≠x1/\ ∀i,nd D i≠some (k,x0,x1))/\ ∀D',Fm D D' (c-2) (k,x0,x1)->DX n k fo N D' U:=by
 obtain⟨c2,cn,ci,cl,cb⟩:=M.un c ak;obtain⟨h3,h4,h5,h,h6,h7⟩:=H.at ci c2;rw[cl]at h3 h6 h7;obtain⟨⟨a1,a2⟩,⟨a3,a4⟩,a5⟩:=om (fo:=fo) H h4 h6 hk;obtain⟨⟨b1,b2⟩,⟨b3,b4⟩,b5⟩:=om (fo:=fo) H h5 h7 hk;have sk:sw k fo k=fo (k+1):=by unfold sw iX;rw[LY ah,L4 rfl]
 have fn: ∀x,sm n fo N c x=if x.testBit (fo (k+1))then sm n (sw k fo) D x1 x else sm n (sw k fo) D x0 x:=λx=>by rw[cP H ci c2,cl,a5,b5,s0,s1];cases x.testBit (fo k)<;>cases x.testBit (fo (k+1))<;>rfl
 have f8:fo k<8:=by have:=(P.2 k ah).1;omega
 have f:x0≠x1:=λe=>by
  have eq: ∀x,(if x.testBit (fo k)then sm n fo N (part n k N (high N c)).1 x else sm n fo N (part n k N (low N c)).1 x)=if x.testBit (fo k)then sm n fo N (part n k N (high N c)).2 x else sm n fo N (part n k N (low N c)).2 x:=λx=>by rw[<-s0,<-s1,e]
  rcases cb with q|q
  ·have ep:part n k N (low N c)=(low N (low N c),high N (low N c)):=L4 q
   have l2:2<=low N c:=by
    apply Mi;intro w;have:lvl n N (low N c)=n:=by unfold lvl;rw[L4 ah]
    omega
   obtain⟨y,hy,hd⟩:=Bp H P n8 (H.at h4 l2).2.1 (H.at h4 l2).2.2.1 (H.at h4 l2).2.2.2.1;have:=eq (wN y (fo k) false);rw[mL hy f8 false f8,L4 rfl,LY ak,LY ak,lU H P n8 a1 ah ah hy,lU H P n8 a3 ah ah hy,ep]at this;exact hd this
  ·have ep:part n k N (high N c)=(low N (high N c),high N (high N c)):=L4 q
   have l2:2<=high N c:=by
    apply Mi;intro w;have:lvl n N (high N c)=n:=by unfold lvl;rw[L4 ah]
    omega
   obtain⟨y,hy,hd⟩:=Bp H P n8 (H.at h5 l2).2.1 (H.at h5 l2).2.2.1 (H.at h5 l2).2.2.2.1;have:=eq (wN y (fo k) true);rw[mL hy f8 true f8,L4 rfl,L4 rfl,L4 rfl,lU H P n8 b1 ah ah hy,lU H P n8 b3 ah ah hy,ep]at this;exact hd this
 have no: ∀i,nd D i≠some (k,x0,x1):=λi hi=>by
  obtain⟨t1,t2,t3⟩:=M.top i _ hi rfl;obtain⟨e0,e1,e2,e3⟩:=eQ (n:=n) hi;have o:=(M.old _ t1 t2 t3).2
  have:c=i+2:=EV H P n8 n ah ci t1 λx _=>by rw[<-o,cP M.ok e0 ah,e1,e2,e3,sk,fn]
  exact t3 (by rw[<-this];simp)
 refine⟨⟨f,no⟩,λD' A=> ?_⟩;have E:=A.ex;have b:=A.ok M.ok (by show k<n;omega) i0 i1 f (by show k<lvl n D x0;omega) (by show k<lvl n D x1;omega) no;have hn:=A.new;obtain⟨e0,e1,e2,e3⟩:=eQ (n:=n) hn;rw[show c-2+2=c by omega]at e0 e1 e2 e3;refine⟨b,λi x hx=> ?_,λa ha hl hu=> ?_,λi x hx g=> ?_,λa ha=> ?_,λa ha hl=> ?_⟩
 ·rw[A.2]at hx;split at hx
  ·injection hx with hx;subst hx;exact Mb _
  ·exact M.lev i x hx
 ·by_cases e:a=c
  ·subst e;refine⟨e0,λx=> ?_⟩;rw[cP b e0 c2,e1,e2,e3,sk,fn,E.sm M.ok i0,E.sm M.ok i1]
  ·obtain⟨c1,c2⟩:=M.old a ha hl (by simp[e,hu]);exact⟨E.isN c1,λx=>by rw[E.sm M.ok c1];exact c2 x⟩
 ·rw[A.2]at hx;split at hx
  ·next q=>
   rw[q,show c-2+2=c by omega];exact⟨ci,ah,d⟩
  ·obtain⟨t1,t2,t3⟩:=M.top i x hx g;exact⟨t1,t2,λhm=>t3 (by simp[hm])⟩
 ·obtain⟨u1,u2,u3⟩:=M.un a (by simp[ha]);refine⟨u1,?_,u3⟩;rw[A.2,LY]
  ·exact u2
  ·intro e;have:a=c:=ah;subst this;exact d ha
 ·have nU:a∉c::U:=λhm=>by have:=(M.un _ hm).2.2.2.1;omega
  rw[E.lvl (M.old a ha ah nU).1];exact M.deep a ha hl
def dn(k:Nat)(U:List Nat)(M:ay):ay:=M.mapIdx λi o=>o.filter λx=>decide (k<=x.1)&& !decide (i+2∈U)
def fG:nd (dn k U M) i=some x↔nd M i=some x/\k<=x.1/\i+2∉U:=by
 rw[dk,dk];unfold dn;rw[Ob];cases h:M[i]? with
 |none=>simp
 |some o=>
  cases o with
  |none=>simp
  |some y=>
   simp only[Na,MT,Option.filter_eq_some_iff,MG,Mu,MX,Mr]
def iR(h: ∀x,nd M i=some x->k<=x.1->i+2∉U->False):nd (dn k U M) i=none:=by
 cases hh:nd (dn k U M) i with
 |none=>rfl
 |some x=>
  obtain⟨a,b,c⟩:=fG.1 hh;exact(h x a b c).elim
def qL:Ex (dn k U M) M:=λ_ _ h=>(fG.1 h).1
def iq(k:Nat)(U:List Nat)(a:Nat)(x:Nd):Nd:=if x.1=k+1 then(k,x.2)else if x.1=k/\a∉U then(k+1,x.2)else x
def um(k:Nat)(U:List Nat)(a:Nat)(o:Option Nd):Option Nd:=o.map (iq k U a)
def d9:um k U a (some x)=some (iq k U a x):=rfl
def DG(n k:Nat)(N:ay)(a:Nat):Prop:=2<=a/\isN N a/\lvl n N a=k/\(lvl n N (low N a)=k+1\/lvl n N (high N a)=k+1)
def AI(H:cX n N)(hk:k+1<n)(hU: ∀a,a∈U↔DG n k N a)(hM: ∀i,nd M i=um k U (i+2) (nd N i)):DX n k fo N (dn k U M) U:=by
 have lv: ∀{i x},nd N i=some x->lvl n N (i+2)=x.1:=λh=>(eQ (n:=n) h).2.1
 have deep: ∀{i x},nd N i=some x->k+1<x.1->nd (dn k U M) i=some x:=λ{i x} h hl=>by
  refine fG.2 ⟨?_,ah,λhm=> ?_⟩
  ·rw[hM,h,d9];unfold iq;rw[LY ah,LY ah]
  ·have:=((hU _).1 hm).2.2.1;rw[lv h]at this;omega
 have g: ∀{a},isN N a->k+1<lvl n N a->isN (dn k U M) a/\lvl n (dn k U M) a=lvl n N a:=λ{a} ha hl=>by
  rcases ha with q|⟨x,hx⟩
  ·refine⟨.inl q,?_⟩;unfold lvl;rw[L4 q,L4 q]
  ·by_cases q:a<2
   ·refine⟨.inl q,?_⟩;unfold lvl;rw[L4 q,L4 q]
   have e1:lvl n N a=x.1:=by unfold lvl;rw[LY q,hx]
   rw[e1]at hl;have:=deep hx hl;refine⟨.inr ⟨x,this⟩,?_⟩;rw[e1];unfold lvl;rw[LY q,this]
 have f: ∀{i x},nd (dn k U M) i=some x-> ∃y,nd N i=some y/\x.2=y.2/\k<=y.1/\i+2∉U/\((y.1=k+1/\x.1=k)\/(y.1=k/\x.1=k+1)\/(k+1<y.1/\x.1=y.1)):=λ{i x} h=>by
  obtain⟨h1,h2,h3⟩:=fG.1 h;rw[hM]at h1;cases hy:nd N i with
  |none=>rw[hy]at h1;cases h1
  |some y=>
   rw[hy,d9]at h1;injection h1 with h1;subst h1;unfold iq at h2 ⊢;by_cases q:y.1=k+1
   ·rw[L4 q];exact⟨y,rfl,rfl,ah,h3,.inl ⟨q,rfl⟩⟩
   ·rw[LY q]at h2 ⊢;by_cases q2:y.1=k/\i+2∉U
    ·rw[L4 q2];exact⟨y,rfl,rfl,ah,h3,.inr (.inl ⟨q2.1,rfl⟩)⟩
    ·rw[LY q2]at h2 ⊢;refine⟨y,rfl,rfl,h2,h3,.inr (.inr ⟨?_,rfl⟩)⟩;by_cases q:y.1=k
     ·exact Mw ⟨q,h3⟩ q2
     ·omega
 have o: ∀{i y},nd N i=some y->k<=y.1->i+2∉U->k+1<lvl n N y.2.1/\k+1<lvl n N y.2.2:=λ{i y} h hl hu=>by
  obtain⟨c1,c2,c3,c4,c5,c6⟩:=H.node i y h;obtain⟨e0,e1,e2,e3⟩:=eQ (n:=n) h;by_cases q:y.1=k
  ·have nb: ¬DG n k N (i+2):=λb=>hu ((hU _).2 b);have a1:lvl n N y.2.1≠k+1:=λe=>nb ⟨ah,e0,by rw[e1,q],.inl (by rw[e2];exact e)⟩;have a2:lvl n N y.2.2≠k+1:=λe=>nb ⟨ah,e0,by rw[e1,q],.inr (by rw[e3];exact e)⟩;omega
  ·omega
 have ok:cX n (dn k U M):=by
  refine⟨λi x hx=> ?_,λi j x hi hj=> ?_⟩
  ·obtain⟨y,hy,e2,ly,hu,cs⟩:=f hx;obtain⟨c1,c2,c3,c4,-,-⟩:=H.node i y hy;obtain⟨d1,d2⟩:=o hy ly hu;obtain⟨f1,f2⟩:=g c2 d1;obtain⟨g1,g2⟩:=g c3 d2;rw[e2];have:=(H.node i y hy).2.2.2.2;refine⟨ah,f1,g1,c4,ah,ah⟩
  ·obtain⟨y,hy,e2,ly,hu,cs⟩:=f hi;obtain⟨z,hz,e3,lz,hw,cz⟩:=f hj
   have:y=z:=by
    obtain⟨y1,y2⟩:=y;obtain⟨z1,z2⟩:=z;have q1:y1=z1:=by dsimp only at cs cz;omega
    have q2:y2=z2:=e2.symm.trans e3;rw[q1,q2]
   subst this;exact H.once i j y hy hz
 have u:sw k fo k=fo (k+1):=by unfold sw iX;rw[LY ah,L4 rfl]
 have t:sw k fo (k+1)=fo k:=by unfold sw iX;rw[L4 rfl]
 have A: ∀{l},k+1<l->sw k fo l=fo l:=λ{l} h=>by unfold sw iX;rw[LY ah,LY ah]
 have old: ∀(d:Nat) {a:Nat},n-lvl n N a<=d->isN N a->k<=lvl n N a->a∉U->isN (dn k U M) a/\ ∀x,sm n (sw k fo) (dn k U M) a x=sm n fo N a x:=by
  intro d
  induction d with
  |zero=>
   intro a hd ha hl hu
   have h2:a<2:=by apply Mi;intro hn;have:=(H.at ha ah).1;omega
   exact⟨.inl h2,λx=>by rw[br h2,br h2]⟩
  |succ d ih=>
   intro a hd ha hl hu;by_cases h2:a<2
   ·exact⟨.inl h2,λx=>by rw[br h2,br h2]⟩
   have hn:=fI (n:=n) ha ah;have m:a-2+2∉U:=by rw[show a-2+2=a by omega];exact hu
   obtain⟨d1,d2⟩:=o hn hl m;dsimp only at d1 d2;obtain⟨c1,c2,c3,c4,c5,c6⟩:=H.at ha ah;have nU: ∀{c},k+1<lvl n N c->c∉U:=λhc hm=>by have:=((hU _).1 hm).2.2.1;omega
   obtain⟨-,s1⟩:=ih (a:=low N a) ah c2 ah (nU d1);obtain⟨-,s2⟩:=ih (a:=high N a) ah c3 ah (nU d2)
   have key: ∀l',nd (dn k U M) (a-2)=some (l',low N a,high N a)->sw k fo l'=fo (lvl n N a)->isN (dn k U M) a/\ ∀x,sm n (sw k fo) (dn k U M) a x=sm n fo N a x:=λl' h1 v=>by obtain⟨e0,e1,e2,e3⟩:=eQ (n:=n) h1;rw[show a-2+2=a by omega]at e0 e1 e2 e3;refine⟨e0,λx=> ?_⟩;rw[cP ok e0 ah,cP H ha ah,e1,e2,e3,v,s1,s2]
   by_cases q1:lvl n N a=k+1
   ·refine key k (fG.2 ⟨?_,Mb _,m⟩) (by rw[u,q1]);rw[hM,hn,d9];unfold iq;rw[L4 q1]
   ·by_cases q2:lvl n N a=k
    ·refine key (k+1) (fG.2 ⟨?_,by show k<=k+1;omega,m⟩) (by rw[t,q2]);rw[hM,hn,d9];unfold iq;rw[LY q1,L4 ⟨q2,m⟩]
    ·refine key (lvl n N a) (fG.2 ⟨?_,hl,m⟩) (A ah);rw[hM,hn,d9];unfold iq;rw[LY q1,LY (λw=>q2 w.1)]
 refine⟨ok,λi x hx=>(fG.1 hx).2.1,λa ha hl hu=>old n ah ha hl hu,λi x hx B=> ?_,λa ha=> ?_,λa ha hl=>(g ha hl).2⟩
 ·obtain⟨y,hy,e2,ly,hu,cs⟩:=f hx;refine⟨.inr ⟨y,hy⟩,?_,hu⟩;rw[lv hy];exact ly
 ·obtain⟨b1,b2,b3,b4⟩:=(hU a).1 ha;refine⟨b1,iR λx _ _ hu=>hu (by rw[show a-2+2=a by omega];exact ha),b2,b3,b4⟩
def DT(H:cX n N)(hk:k+1<n)(D:DX n k fo N (dn k [] M) [])(up: ∀i x,x.1<k->(nd M i=some x↔nd N i=some x)):
  cX n M/\ ∀a,isN N a->isN M a/\ ∀x,sm n (sw k fo) M a x=sm n fo N a x:=by
 have E:Ex (dn k [] M) M:=qL
 have b: ∀{a},isN N a->isN M a/\(k<=lvl n N a->k<=lvl n M a)/\(lvl n N a<k->lvl n M a=lvl n N a/\low M a=low N a/\high M a=high N a):=λ{a} ha=>by
  by_cases q:k<=lvl n N a
  ·obtain⟨d1,-⟩:=D.old a ha q ak;refine⟨E.isN d1,λ_=> ?_,λw=>ah⟩;rw[E.lvl d1];rcases d1 with z|⟨x,hx⟩
   ·unfold lvl;rw[L4 z];omega
   ·by_cases z:a<2
    ·unfold lvl;rw[L4 z];omega
    ·have:lvl n (dn k [] M) a=x.1:=by unfold lvl;rw[LY z,hx]
     rw[this];exact D.lev _ x hx
  ·have a2:2<=a:=by
    apply Mi;intro w;have:lvl n N a=n:=by unfold lvl;rw[L4 ah]
    omega
   have hm:=(up (a-2) _ (by show lvl n N a<k;omega)).2 (fI (n:=n) ha a2);obtain⟨e0,e1,e2,e3⟩:=eQ (n:=n) hm;rw[show a-2+2=a by omega]at e0 e1 e2 e3;exact⟨e0,λw=>Mw w q,λ_=>⟨e1,e2,e3⟩⟩
 have ok:cX n M:=by
  refine⟨λi x hx=> ?_,λi j x hi hj=> ?_⟩
  ·by_cases q:k<=x.1
   ·obtain⟨c1,c2,c3,c4,c5,c6⟩:=D.ok.node i x (fG.2 ⟨hx,q,ak⟩);exact⟨c1,E.isN c2,E.isN c3,c4,by rw[E.lvl c2];exact c5,by rw[E.lvl c3];exact c6⟩
   ·obtain⟨c1,c2,c3,c4,c5,c6⟩:=H.node i x ((up i x ah).1 hx);obtain⟨f1,f2,f3⟩:=b c2;obtain⟨g1,g2,g3⟩:=b c3;refine⟨c1,f1,g1,c4,?_,?_⟩
    ·by_cases w:k<=lvl n N x.2.1
     ·have:=f2 w;omega
     ·rw[(f3 ah).1];exact c5
    ·by_cases w:k<=lvl n N x.2.2
     ·have:=g2 w;omega
     ·rw[(g3 ah).1];exact c6
  ·by_cases q:k<=x.1
   ·exact D.ok.once i j x (fG.2 ⟨hi,q,ak⟩) (fG.2 ⟨hj,q,ak⟩)
   ·exact H.once i j x ((up i x ah).1 hi) ((up j x ah).1 hj)
 have c: ∀{l},l<k->sw k fo l=fo l:=λ{l} h=>by unfold sw iX;rw[LY ah,LY ah]
 have all: ∀(d:Nat) {a:Nat},n-lvl n N a<=d->isN N a-> ∀x,sm n (sw k fo) M a x=sm n fo N a x:=by
  intro d
  induction d with
  |zero=>
   intro a hd ha x
   have h2:a<2:=by apply Mi;intro hn;have:=(H.at ha ah).1;omega
   rw[br h2,br h2]
  |succ d ih=>
   intro a hd ha x;by_cases q:k<=lvl n N a
   ·obtain⟨d1,d2⟩:=D.old a ha q ak;rw[E.sm D.ok d1,d2]
   ·have a2:2<=a:=by
     apply Mi;intro w;have:lvl n N a=n:=by unfold lvl;rw[L4 ah]
     omega
    obtain⟨f1,-,f3⟩:=b ha;obtain⟨e1,e2,e3⟩:=f3 ah;obtain⟨c1,c2,c3,c4,c5,c6⟩:=H.at ha a2;rw[cP ok f1 a2,cP H ha a2,e1,e2,e3,c ah,ih ah c2,ih ah c3]
 exact⟨ok,λa ha=>⟨(b ha).1,all n ah ha⟩⟩
structure qk(n k:Nat)(fo:Nat->Nat)(N M:ay)(U:List Nat):Prop where
 mid:DX n k fo N (dn k U M) U
 un: ∀c∈U,nd M (c-2)=nd N (c-2)
 up: ∀i x,x.1<k->(nd M i=some x↔nd N i=some x)
 nod:U.Nodup
 lw: ∀a,2<=a->isN N a->lvl n N a=k+1->nd M (a-2)=some (k,low N a,high N a)
inductive HE (U:List Nat) (M:ay) (l a b:Nat):ay->Nat->Prop
 |same:a=b->HE U M l a b M a
 |found (i:Nat):a≠b->nd (gN U M) i=some (l,a,b)->HE U M l a b M (i+2)
 |made (M':ay) (q:Nat):a≠b->(∀i,nd (gN U M) i≠some (l,a,b))->jZ M M' q (l,a,b)->HE U M l a b M' (q+2)
def mH(hl:k<=x.1):nd (gN U M) i=some x↔nd (dn k U M) i=some x:=by
 rw[gF,fG];split
 ·next h=>simp[h]
 ·next h=>exact⟨λe=>⟨e,hl,h⟩,λe=>e.1⟩
def qk.lay(hl:k<=l)(R:HE U M l a b M' r)(hu: ∀c∈U,∃x,nd M (c-2)=some x)(h2: ∀c∈U,2<=c):Ih (dn k U M) l a b (dn k U M') r:=by
 cases R with
 |same e=>exact .same e
 |found i ne h=>exact .found i ne ((mH (by show k<=l;exact hl)).1 h)
 |made M' q ne no P=>
  have hq:q+2∉U:=λhm=>by obtain⟨x,hx⟩:=hu _ hm;rw[show q+2-2=q by omega,P.was]at hx;cases hx
  refine .made _ q ne (λi h=>no i ((mH (by show k<=l;exact hl)).2 h)) ⟨iR λx hx _ _=>(by rw[P.was]at hx;cases hx),λi=> ?_⟩;apply Option.ext;intro x;by_cases e:i=q
  ·rw[L4 e,e,fG,P.get,L4 rfl];constructor
   ·exact λh=>h.1
   ·intro h;injection h with h;subst h;exact⟨rfl,hl,hq⟩
  ·rw[LY e,fG,fG,P.get,LY e]
def qk.made(Y:qk n k fo N M U)(hk:k+1<n)(ha:isN N a)(la:k+1<lvl n N a)(hb:isN N b)(lb:k+1<lvl n N b)(R:HE U M (k+1) a b M' r):
  qk n k fo N M' U/\Ex (dn k U M) (dn k U M')/\isN (dn k U M') r/\k+1<=lvl n (dn k U M') r/\ ∀x,sm n (sw k fo) (dn k U M') r x=if x.testBit (fo k)then sm n fo N b x else sm n fo N a x:=by
 have hu: ∀c∈U,∃x,nd M (c-2)=some x:=λc hc=>by obtain⟨u1,-,u3,-⟩:=Y.mid.un c hc;rw[Y.un c hc];exact⟨_,fI (n:=n) u3 u1⟩
 have L:=qk.lay (k:=k) ah R hu λc hc=>(Y.mid.un c hc).1
 have ex: ∀i x,nd M i=some x->nd M' i=some x:=λi x h=>by
  cases R with
  |same=>exact h
  |found=>exact h
  |made _ q _ _ P=>exact P.old h
 obtain⟨m1,m2⟩:=Y.mid.made hk ha la hb lb L λc hc=>iR λx _ _ w=>w (by rw[show c-2+2=c by have:=(Y.mid.un c hc).1;omega];exact hc);refine⟨⟨m1,λc hc=> ?_,λi x hx=> ?_,Y.nod,λa a2 ia la=>ex _ _ (Y.lw a a2 ia la)⟩,m2⟩
 ·obtain⟨x,hx⟩:=hu c hc;rw[ex _ _ hx,<-Y.un c hc,hx]
 ·rw[<-Y.up i x hx];cases R with
  |same=>exact Iff.rfl
  |found=>exact Iff.rfl
  |made _ q _ _ P=>
   rw[P.get];split
   ·next e=>
    subst e;rw[P.was];constructor
    ·intro w;injection w with w;subst w;exact Mw hx (show ¬k+1<k by omega)
    ·intro w;cases w
   ·exact Iff.rfl
def qk.put{M:ay}(Y:qk n k fo N M (c::U))(H:cX n N)(P:cu n fo gg)(n8:n<=8)(hk:k+1<n)
  (i0:isN (dn k (c::U) M) x0) (l0:k+1<=lvl n (dn k (c::U) M) x0) (s0: ∀x,sm n (sw k fo) (dn k (c::U) M) x0 x=if x.testBit (fo k)then sm n fo N (part n k N (high N c)).1 x else sm n fo N (part n k N (low N c)).1 x)
  (i1:isN (dn k (c::U) M) x1) (l1:k+1<=lvl n (dn k (c::U) M) x1) (s1: ∀x,sm n (sw k fo) (dn k (c::U) M) x1 x=if x.testBit (fo k)then sm n fo N (part n k N (high N c)).2 x else sm n fo N (part n k N (low N c)).2 x):
  x0≠x1/\(∀i,nd (gN (c::U) M) i≠some (k,x0,x1))/\qk n k fo N (M.set (c-2) (some (k,x0,x1))) U:=by
 have nod:=MO.1 Y.nod;obtain⟨u1,-,u3,u4,-⟩:=Y.mid.un c ak;have hc:nd M (c-2)=nd N (c-2):=Y.un c ak;have b:=hc.trans (fI (n:=n) u3 u1);have lt:=ko b;obtain⟨⟨p1,p2⟩,p3⟩:=Y.mid.put H P n8 hk nod.1 i0 l0 s0 i1 l1 s1;refine⟨p1,λi h=>p2 i ((mH (by show k<=k;exact Mb _)).1 h),p3 _ ⟨?_,λi=> ?_⟩,λa ha=> ?_,λi x hx=> ?_,nod.2,λa a2 ia la=> ?_⟩
 ·exact iR λx _ _ w=>w (by simp;omega)
 ·apply Option.ext;intro x;by_cases e:i=c-2
  ·rw[L4 e,e,fG,fq lt,L4 rfl];constructor
   ·exact λh=>h.1
   ·intro h;injection h with h;subst h;exact⟨rfl,Mb _,by rw[show c-2+2=c by omega];exact nod.1⟩
  ·rw[LY e,fG,fG,fq lt,LY e];have:i+2≠c:=ah;simp[this]
 ·rw[fq lt,LY]
  ·exact Y.un a (by simp[ha])
  ·intro e;have:=(Y.mid.un a (by simp[ha])).1;have:a=c:=ah;subst this;exact nod.1 ha
 ·rw[fq lt,<-Y.up i x hx];split
  ·next e=>
   subst e;constructor
   ·intro w;injection w with w;subst w;exact Mw hx (show ¬k<k by omega)
   ·intro w;rw[b]at w;injection w with w;subst w;exact Mw hx (by show ¬lvl n N c<k;omega)
  ·exact Iff.rfl
 ·rw[fq lt,LY]
  ·exact Y.lw a a2 ia la
  ·intro e;have:a=c:=ah;subst this;omega
def cy.le(H:cy h lo N p l c cs)(hl:lo'<=lo):cy h lo' N p l c cs:=by
 obtain⟨e,H⟩:=H;refine⟨e,?_⟩;rcases H with H|⟨b,sp,h1,h2,h3⟩
 ·exact .inl H
 ·exact .inr ⟨b,sp,h1,ah,h3⟩
def rh: ∀(N:ay) (i j:Nat) (o o':Option Nd) (v:Value),N[i]? =some o->j<4->dE o'=(dE o).set j v->(gR N).set (i*4+j) v=gR (N.set i o')
 | [],i,j,o,o',v,h,_,_=>by simp at h
 |y::N,0,j,o,o',v,h,hj,e=>by simp at h;subst h;simp only[gR,OX,e];rw[Nat.zero_mul,LX,OI _ _ (by rw[eE];exact hj)]
 |y::N,i+1,j,o,o',v,h,hj,e=>by simp at h;simp only[gR,Ni];rw[Pq _ _ (by rw[eE];omega),eE,show(i+1)*4+j-4=i*4+j by omega,rh N i j o o' v h hj e]
def dx(φ:Nat->Nd->Nd)(N:ay):ay:=N.mapIdx λi o=>o.map (φ (i+2))
def dW{N:ay}:(dx φ N).length=N.length:=by simp[dx]
def gy{o:Option Nd}(h:N[i]? =some o):(dx φ N)[i]? =some (o.map (φ (i+2))):=by
 unfold dx;rw[Ob,h]
 rfl
def gj(i:Nat):nd (dx φ N) i=(nd N i).map (φ (i+2)):=by
 unfold nd;cases h:N[i]? with
 |none=>rw[Mt (by rw[dW];exact MV.1 h)];rfl
 |some o=>rw[gy h];cases o<;>rfl
def gI(h: ∀i x,nd N i=some x->φ (i+2) x=φ' (i+2) x):dx φ N=dx φ' N:=by
 apply MM;intro j;cases hj:N[j]? with
 |none=>rw[Mt (by rw[dW];exact MV.1 hj),Mt (by rw[dW];exact MV.1 hj)]
 |some o=>
  rw[gy hj,gy hj];cases o with
  |none=>rfl
  |some z=>rw[Na,Na,h j z (dk.2 hj)]
def qj(hi:nd N i=some x)(ey:y=φ' (i+2) x)(h: ∀j z,j≠i->nd N j=some z->φ (j+2) z=φ' (j+2) z):(dx φ N).set i (some y)=dx φ' N:=by
 have lt:=ko hi;apply MM;intro j;rw[ME];by_cases e:i=j
 ·subst e;rw[L4 rfl,L4 (by rw[dW];exact lt),gy (dk.1 hi),ey]
  rfl
 ·rw[LY e];cases hj:N[j]? with
  |none=>rw[Mt (by rw[dW];exact MV.1 hj),Mt (by rw[dW];exact MV.1 hj)]
  |some o=>
   rw[gy hj,gy hj];cases o with
   |none=>rfl
   |some z=>rw[Na,Na,h j z (λw=>e w.symm) (dk.2 hj)]
def DV:dx (λ_ x=>x) N=N:=by
 apply MM;intro j;cases hj:N[j]? with
 |none=>rw[Mt (by rw[dW];exact MV.1 hj)]
 |some o=>rw[gy hj];cases o<;>rfl
def Bv(h: ∀i,(nd A i).isSome=(nd C i).isSome):bi A=bi C:=by
 have e: ∀A:ay,bi (A.map (Option.map λ_=>((0,0,0):Nd)))=bi A:=λA=>by
  unfold bi;rw[List.countP_map]
  congr 1
  funext o;cases o<;>rfl
 have m: ∀(A:ay) i,nd (A.map (Option.map λ_=>((0,0,0):Nd))) i=(nd A i).map λ_=>(0,0,0):=λA i=>by
  unfold nd;rw[Mx];cases A[i]? with
  |none=>rfl
  |some o=>cases o<;>rfl
 rw[<-e A,<-e C];refine se λi=> ?_;rw[m,m];have:=h i;cases ha:nd A i<;>cases hc:nd C i<;>rw[ha,hc]at this<;>first|rfl|cases this
def jq:bi (dx φ N)=bi N:=Bv λi=>by rw[gj];cases nd N i<;>rfl
def ie.st{B:SB}{N:ay}(H:ie h s n room B f g N F Q off){v:Value}(hi:nd N i=some x)(hp:B.p=some (aw b0))(hj:j<4)(hv:dE (some x')=(dE (some x)).set j v)(ho:v.oneCell'=true)
  (hK: ∀h',ie h' s n room B f g (N.set i (some x')) F Q off->aM [b0] h h'->K h'):aY h ⟨b0,i*4+j,none⟩ v K:=by
 have lt:=ko hi;have W:=H.own;rw[hp]at W;refine cy.set W (by rw[gA];omega) ho λh' W' O'=>hK h' ?_ O';rw[rh N i j _ _ v (dk.1 hi) hj hv]at W';have b:=H.sep
 have nb: ∀y∈[s,B.ob,B.cac,B.cm,B.cmc]++aV B.fp,y∉[b0]:=λy hy hm=>by
  simp only[LZ]at hm;subst hm;unfold SB.bm at b;simp only[ML,List.mem_append,Pp]at b;obtain⟨⟨_,_,g2⟩,_,g4⟩:=b;have c:y∈aV B.p:=by rw[hp];simp[aV]
  rcases Zq hy with h|h
  ·exact g2 y h y c rfl
  ·exact g4 y (.inr c) y h rfl
 have el:(N.set i (some x')).length=N.length:=ak;exact⟨by rw[el];exact H.S.only O' (nb _ ak),H.O.only O' (nb _ ak),by rw[el,hp];exact W',H.fre.only O' λy hy=>nb _ (by simp only[List.mem_append];exact .inr hy),H.cac.only O' (nb _ ak) (nb _ ak) (nb _ ak),H.n8,by rw[el];exact H.len,H.sep⟩
def ie.pb{B:SB}(_:ie h s n room B f g N F Q off)(hp:B.p=some (aw b0)):b0∈B.bm s:=by simp only[SB.bm,List.mem_append];exact .inl (.inr (by rw[hp];simp[aV]))
def cJ(n k:Nat)(N:ay)(a:Nat):Bool:=decide (lvl n N (low N a)=k+1)||decide (lvl n N (high N a)=k+1)
def cx(n k:Nat)(N:ay):List Nat:=(cQ N k).filter (cJ n k N)
def tY:a∈cx n k N↔DG n k N a:=by
 unfold cx cJ DG;rw[List.mem_filter,iT,Nj,Mu,Mu];constructor
 ·rintro ⟨⟨a2,x,hx,e⟩,h⟩;refine⟨a2,.inr ⟨x,hx⟩,?_,h⟩;unfold lvl;rw[LY ah,hx];exact e
 ·rintro ⟨a2,ia,e,h⟩;refine⟨⟨a2,_,fI (n:=n) ia a2,e⟩,h⟩
def v7:(cx n k N).Nodup:=List.Pairwise.filter _ eZ
def qx(n k:Nat)(N:ay)(t:Nat)(a:Nat)(x:Nd):Nd:=if x.1=k/\a∈(cQ N k).take t/\cJ n k N a=false then(k+2,x.2)else x
def y8(n k:Nat)(N:ay)(t:Nat)(a:Nat)(x:Nd):Nd:=if x.1=k+1/\a∈(cQ N (k+1)).take t then(k,x.2)else if x.1=k/\cJ n k N a=false then(k+2,x.2)else x
def oq(n k:Nat)(N:ay)(t:Nat)(a:Nat)(x:Nd):Nd:=if x.1=k+1 then(k,x.2)else if x.1=k/\cJ n k N a=false then(if a∈(cQ N k).take t then(k+1,x.2)else(k+2,x.2))else x
def wx(h:nd N i=some x):i+2∈cQ N x.1:=iT.2 ⟨ah,x,h,rfl⟩
def IC:dx (qx n k N 0) N=N:=by rw[gI (φ':=λ_ x=>x) λi x _=> ?_,DV];unfold qx;rw[LY ak]
def KY:dx (qx n k N (cQ N k).length) N=dx (y8 n k N 0) N:=gI λi x h=>by
 unfold qx y8;rw[NS,List.take_zero,LY (c:=x.1=k+1/\_) ak];by_cases e:x.1=k
 ·have:=wx h;rw[e]at this;simp[e,this]
 ·rw[LY (λw=>e w.1),LY (λw=>e w.1)]
def KJ:dx (y8 n k N (cQ N (k+1)).length) N=dx (oq n k N 0) N:=gI λi x h=>by
 unfold y8 oq;rw[NS,List.take_zero];by_cases e:x.1=k+1
 ·have:=wx h;rw[e]at this;rw[L4 ⟨e,this⟩,L4 e]
 ·rw[LY (λw=>e w.1),LY e];split
  ·simp
  ·rfl
def C5: ∀i,nd (dx (oq n k N (cQ N k).length) N) i=um k (cx n k N) (i+2) (nd N i):=λi=>by
 rw[gj];unfold um;cases h:nd N i with
 |none=>rfl
 |some x=>
  rw[Na,Na]
  congr 1
  unfold oq iq;rw[NS];by_cases e:x.1=k+1
  ·rw[L4 e,L4 e]
  ·rw[LY e,LY e];by_cases e2:x.1=k
   ·have m:=wx h;rw[e2]at m
    have:(i+2∉cx n k N)↔cJ n k N (i+2)=false:=by unfold cx;rw[List.mem_filter];simp[m]
    by_cases q:cJ n k N (i+2)=false
    ·rw[L4 ⟨e2,q⟩,L4 m,L4 ⟨e2,this.2 q⟩]
    ·rw[LY (λw=>q w.2),LY (λw=>q (this.1 w.2))]
   ·rw[LY (λw=>e2 w.1),LY (λw=>e2 w.1)]
def lD{l:List Nat}(nd:l.Nodup)(ht:l[t]? =some a):b∈l.take (t+1)↔b∈l.take t\/b=a:=by rw[NM,ht];simp
def pJ{l:List Nat}(nd:l.Nodup)(ht:l[t]? =some a):a∉l.take t:=λhm=>by obtain⟨j,hj,e⟩:=List.mem_iff_getElem.1 hm;rw[NI]at hj;rw[List.getElem_take]at e;obtain⟨lt,e2⟩:=Ml.1 ht;have jl:j<l.length:=ah;have:=(List.getElem_inj (h₀:=jl) (h₁:=lt) nd).1 (by rw[e,e2]);omega
def BW(ht:(cQ N k)[t]? =some a)(hx:nd N (a-2)=some x)(a2:2<=a)(ex:x.1=k):qx n k N t a x=x/\
  (cJ n k N a=true->dx (qx n k N (t+1)) N=dx (qx n k N t) N)/\(cJ n k N a=false->(dx (qx n k N t) N).set (a-2) (some (k+2,x.2))=dx (qx n k N (t+1)) N):=by
 have tn:=pJ eZ ht;have tm:=λb=>lD (b:=b) eZ ht;refine⟨?_,λhb=>gI λi y h=> ?_,λhb=>qj hx ?_ λj z hj h=> ?_⟩
 ·unfold qx;rw[LY (λw=>tn w.2.1)]
 ·unfold qx;by_cases e:i+2=a
  ·rw[e,LY (λw=>by rw[hb]at w;cases w.2.2),LY (λw=>by rw[hb]at w;cases w.2.2)]
  ·simp only[tm,e,Nk]
 ·rw[show a-2+2=a by omega];unfold qx;rw[L4 ⟨ex,(tm a).2 (.inr rfl),hb⟩]
 ·unfold qx;have e:j+2≠a:=ah;simp only[tm,e,Nk]
def AV(ht:(cQ N (k+1))[t]? =some a)(hx:nd N (a-2)=some x)(a2:2<=a)(ex:x.1=k+1):y8 n k N t a x=x/\(dx (y8 n k N t) N).set (a-2) (some (k,x.2))=dx (y8 n k N (t+1)) N:=by
 have tn:=pJ eZ ht;have tm:=λb=>lD (b:=b) eZ ht;refine⟨?_,qj hx ?_ λj z hj h=> ?_⟩
 ·unfold y8;rw[LY (λw=>tn w.2),LY ah]
 ·rw[show a-2+2=a by omega];unfold y8;rw[L4 ⟨ex,(tm a).2 (.inr rfl)⟩]
 ·unfold y8;have e:j+2≠a:=ah;simp only[tm,e,Nk]
def Cb(ht:(cQ N k)[t]? =some a)(hx:nd N (a-2)=some x)(a2:2<=a)(ex:x.1=k):
  (cJ n k N a=true->oq n k N t a x=x/\dx (oq n k N (t+1)) N=dx (oq n k N t) N)/\(cJ n k N a=false->oq n k N t a x=(k+2,x.2)/\(dx (oq n k N t) N).set (a-2) (some (k+1,x.2))=dx (oq n k N (t+1)) N):=by
 have tn:=pJ eZ ht;have tm:=λb=>lD (b:=b) eZ ht;refine⟨λhb=>⟨?_,gI λi y h=> ?_⟩,λhb=>⟨?_,qj hx ?_ λj z hj h=> ?_⟩⟩
 ·unfold oq;rw[LY ah,LY (λw=>by rw[hb]at w;cases w.2)]
 ·unfold oq;by_cases e:i+2=a
  ·rw[e];simp only[hb];simp
  ·simp only[tm,e,Nk]
 ·unfold oq;rw[LY ah,L4 ⟨ex,hb⟩,LY tn]
 ·rw[show a-2+2=a by omega];unfold oq;rw[LY ah,L4 ⟨ex,hb⟩,L4 ((tm a).2 (.inr rfl))]
 ·unfold oq;have e:j+2≠a:=ah;simp only[tm,e,Nk]
structure hH(h:aI)(s n room:Nat)(B:SB)(f g:Nat->Nat)(M:ay)(U:List Nat)(F:List Nat)(Q:Int->Int->Prop)(off:Bool)(T w:Nat):Prop where
 m:ie h s n room B f g M F Q off
 t:ic h B (gN U M) T
 bn:B.bt.Nodup
 bs: ∀b∈B.bt,b∉B.bm s
 t5: ∃j,T=32*2^j
 t7:T<=262144
 cap:2*(bi M+w+1)<=T
 rm:bi M+w<=room
 cnt:M.length=bi M+F.length
 fre:F.Nodup/\ ∀a∈F,2<=a/\a-2<M.length/\nd M (a-2)=none
structure Tw(z0 z7:Nat)(h:aI)(s n room k:Nat)(B:SB)(f g:Nat->Nat)(N:ay)(φ:Nat->Nd->Nd)(F:List Nat)(Q:Int->Int->Prop)(off:Bool)(T:Nat)(p1:az)(c1:Nat)(p2:az)(c2:Nat)(bl:List Nat)(p3:az)(c3:Nat):Prop where
 m:ie h s n room B f g (dx φ N) F Q off
 t:ic h B N T
 bs: ∀b∈B.bt,b∉B.bm s
 o1:cy h z0 1 p1 (cQ N k).length c1 ((cQ N k).map hv)
 o2:cy h z0 1 p2 (cQ N (k+1)).length c2 ((cQ N (k+1)).map hv)
 o3:cy h z7 1 p3 bl.length c3 (bl.map hv)
 l1: ∀y∈aV p1,y<z7
 l2: ∀y∈aV p2,y<z7
 lz:z0<=z7/\z7<=h.size/\ ∀y∈B.bm s++B.bt,y<z0
def ie.ord{B:SB}(H:ie h s n room B f g N F Q off)(O:aM [B.ob] h h')(Or:cL h' B.ob n f' g'):ie h' s n room B f' g' N F Q off:=by
 have c:([s,B.ob,B.cac,B.cm,B.cmc]++aV B.p++aV B.fp).Nodup:=H.sep;simp only[Nu,Nn,MO,List.mem_cons,List.mem_append,NU]at c;obtain⟨⟨a1,a2,a3,a4,a5,a6⟩,⟨b1,b2,b3,b4,b5⟩,-⟩:=c;have one: ∀{y},y≠B.ob->y∉[B.ob]:=λh hm=>h (by simpa using hm);refine⟨H.S.only O (one a1),Or,H.own.only O λb hb=>one λe=> ?_,H.fre.only O λb hb=>one λe=> ?_,H.cac.only O (one λe=>b1 e.symm) (one λe=>b2 e.symm) (one λe=>b3 e.symm),H.n8,H.len,H.sep⟩
 ·subst e;exact b4 (by rw[show B.p=_ from hb];simp[aV])
 ·subst e;exact b5 hb
def Tw.keep{B:SB}(W:Tw z0 z7 h s n room k B f g N φ F Q off T p1 c1 p2 c2 bl p3 c3)(O:aM S h h')(hS: ∀b∈S,b∈B.bm s)(m:ie h' s n room B f' g' (dx φ' N) F Q off):Tw z0 z7 h' s n room k B f' g' N φ' F Q off T p1 c1 p2 c2 bl p3 c3:=by
 have lt: ∀b∈S,b<z0:=λb hb=>W.lz.2.2 b (Zp (.inl (hS b hb)));have z:=W.lz;refine⟨m,W.t.only O λb hb hm=>W.bs b hm (hS b hb),W.bs,W.o1.only O λb e hb=> ?_,W.o2.only O λb e hb=> ?_,W.o3.only O λb e hb=> ?_,W.l1,W.l2,z.1,by have:=O.size;omega,z.2.2⟩
 ·have:=(W.o1.lt b (by rw[e];simp[aV])).1;have:=lt b hb;omega
 ·have:=(W.o2.lt b (by rw[e];simp[aV])).1;have:=lt b hb;omega
 ·have:=(W.o3.lt b (by rw[e];simp[aV])).1;have:=lt b hb;omega
def Tw.only0(W:Tw z0 z7 h s n room k B f g N φ F Q off T p1 c1 p2 c2 bl p3 c3)(O:aM [] h h'):Tw z0 z7 h' s n room k B f g N φ F Q off T p1 c1 p2 c2 bl p3 c3:=W.keep O ak (W.m.only O ak)
def Tw.st{B:SB}(W:Tw z0 z7 h s n room k B f g N φ F Q off T p1 c1 p2 c2 bl p3 c3)(hx:nd N (a-2)=some x)(a2:2<=a)(ey:φ a x=y)(hs:(dx φ N).set (a-2) (some (lv,y.2))=dx φ' N)(hp:B.p=some (aw b0))
  (hK: ∀h',Tw z0 z7 h' s n room k B f g N φ' F Q off T p1 c1 p2 c2 bl p3 c3->aM (B.bm s) h h'->K h'):aY h ⟨b0,(a-2)*4+1,none⟩ (ap (lv:Int)) K:=by
 have hm:nd (dx φ N) (a-2)=some y:=by rw[gj,hx,Na,show a-2+2=a by omega,ey]
 refine W.m.st (x':=(lv,y.2)) hm hp ah rfl rfl λh' m' O'=> ?_;rw[hs]at m'
 have hb: ∀b∈[b0],b∈B.bm s:=λb hb=>by simp only[LZ]at hb;subst hb;exact W.m.pb hp
 exact hK h' (W.keep O' hb m') (O'.mono λb hm _=>hb b hm)
def pK{k c:Nat}(hk:k<8)(hc:c<8):ax ((k:Int)+(c:Int))=((k+c:Nat):Int):=by rw[wrap_i64 ah ah];omega
def cy.elem{l:List Nat}(H:cy h lo 1 p l.length c (l.map hv))(hi:l[i]? =some a): ∃b,p=some (aw b)/\Ev.rd h ⟨b,i,none⟩=some (hv a):=by
 have lt:=(Ml.1 hi).1;obtain⟨b,e1,e2⟩:=H.rd (j:=i) (by rw[ND];exact lt);refine⟨b,e1,?_⟩;rw[e2,Mx,hi]
 rfl
def rA{a b:Nat}(ha:a<=70000)(hb:b<=70000):ax ((2:Int)*ax (ax ((a:Int)+ax ((2:Int)*(b:Int)))+(1:Int)))=((2*(a+2*b+1):Nat):Int):=by rw[wrap_i64 (n:=(2:Int)*(b:Int)) ah ah,wrap_i64 (n:=(a:Int)+(2:Int)*(b:Int)) ah ah,wrap_i64 (n:=(a:Int)+(2:Int)*(b:Int)+1) ah ah,wrap_i64 ah ah];omega
def CO{h:aI}{s n room k:Nat}{B:SB}{f g:Nat->Nat}{N:ay}{F:List Nat}{Q:Int->Int->Prop}{off:Bool}{K:KK}{T:Nat}{u:Value}(H:nM h s n room B f g N F Q off)(hT:ic h B N T)(t5: ∃j,T=32*2^j)(t7:T<=262144)(hk:k+1<n)(P:cu n f g)(rm:bi N+2*(cx n k N).length<=room)
  (hC: ∀h' B' M T' p c lo,hH h' s n room B' (sw k f) (tk k f g) M (cx n k N) F Q off T' (2*(cx n k N).length)->qk n k f N M (cx n k N)->cy h' lo 1 p (cx n k N).length c ((cx n k N).map hv)->h.size<=lo->(∀y∈aV p,y∉B'.bm s++B'.bt)->aM (B.bm s++B.bt) h h'->(∀y∈B'.bm s++B'.bt,y∈B.bm s++B.bt\/h.size<=y)->
   dS Tryz.prog X u [.slice p (cx n k N).length c] h' λv a6=>v=aE/\K aE a6):
  Cl 361 [bf s,ap (k:Int),u] h K:=by
 have n8:=H.m.n8.2;have b9:=H.m.len;have u1:(cQ N k).length<=N.length:=iV;have u2:(cQ N (k+1)).length<=N.length:=iV
 have b3: ∀y∈B.bm s++B.bt,y<h.size:=λy hy=>by
  rcases Zq hy with q|q
  ·exact H.m.lt y q
  ·exact H.t.lt y q
 refine F361.spec _ _ _ h K ?_;refine xx H.m λh1 p1 c1 Ow1 O1=>bF rfl ?_;rw[show((1:Int))=((1:Nat):Int)from rfl,pK ah ah];have m1:=H.m.only O1 ak;refine xx m1 λh2 p2 c2 Ow2 O2=>bF rfl ?_;have O12:=O1.trans O2 ak;have z1:=O1.size;have z2:=O2.size
 have W0:Tw h.size h2.size h2 s n room k B f g N (qx n k N 0) F Q off T p1 c1 p2 c2 ((cQ N k).take 0|>.filter (cJ n k N)) none 0:=by refine⟨by rw[IC];exact m1.only O2 ak,hT.only O12 ak,H.t.sep,Ow1.only O2 ak,Ow2.le ah,cy.nil _ _ _,λy hy=>by have:=(Ow1.lt y hy).2;omega,λy hy=>(Ow2.lt y hy).2,ah,Mb _,b3⟩
 have I: ∀(h4:aI) (M:ay) (T':Nat) (p3:az) (c3:Nat),Tw h.size h2.size h4 s n room k B (sw k f) (tk k f g) N (oq n k N (cQ N k).length) F Q off T p1 c1 p2 c2 (cx n k N) p3 c3->aM (B.bm s) h h4->(∃j,T'=32*2^j)->T'<=262144->2*(bi N+2*(cx n k N).length+1)<=T'->
   F361.wk26 (aw s) u p3 (cx n k N).length c3 (T':Int) h4 K:=λh4 _ T' p3 c3 W O4 k5 k7 cap=>by
  unfold F361.wk26;obtain⟨M,eM⟩: ∃M,M=dx (oq n k N (cQ N k).length) N:=⟨_,rfl⟩;have hM: ∀i,nd M i=um k (cx n k N) (i+2) (nd N i):=by rw[eM];exact C5
  have mid:=AI (fo:=f) H.ok hk (λa=>tY) hM;have mM:=W.m;rw[<-eM]at mM;have lM:M.length=N.length:=by rw[eM,dW]
  have cM:bi M=bi N:=by rw[eM,jq]
  have up: ∀i x,x.1<k->(nd M i=some x↔nd N i=some x):=λi x hx=>by
   rw[hM];cases hn:nd N i with
   |none=>exact⟨λw=>(by cases w),λw=>(by cases w)⟩
   |some y=>
    rw[d9];unfold iq;constructor
    ·intro w;injection w with w;by_cases q:y.1=k+1
     ·rw[L4 q]at w;subst w;exact Mw hx (show ¬k<k by omega)
     ·rw[LY q]at w;by_cases q2:y.1=k/\i+2∉cx n k N
      ·rw[L4 q2]at w;subst w;exact Mw hx (show ¬k+1<k by omega)
      ·rw[LY q2]at w;rw[w]
    ·intro w;injection w with w;subst w;rw[LY ah,LY ah]
  have b4:qk n k f N M (cx n k N):=by refine⟨mid,λc hc=> ?_,up,v7,λa a2 ia la=>by rw[hM,fI (n:=n) ia a2,d9];unfold iq;rw[L4 la]⟩;obtain⟨c2,ci,cl,-⟩:=tY.1 hc;rw[hM,fI (n:=n) ci c2,d9];unfold iq;rw[LY (by rw[cl];show ¬k=k+1;omega),LY (λw=>w.2 (by rw[show c-2+2=c by omega];exact hc))]
  have a4: ∀i x,nd M i=some x->isN N x.2.1/\isN N x.2.2/\x.2.1≠x.2.2/\x.1<n:=λi x hx=>by
   rw[hM]at hx;cases hn:nd N i with
   |none=>rw[hn]at hx;cases hx
   |some y=>
    rw[hn,d9]at hx;injection hx with hx;obtain⟨k1,k2,k3,k4,-,-⟩:=H.ok.node i y hn
    have e2:x.2=y.2:=by
     rw[<-hx];unfold iq;split
     ·rfl
     ·split<;>rfl
    rw[e2];refine⟨k2,k3,k4,?_⟩;rw[<-hx];unfold iq;split
    ·exact(show k<n by omega)
    ·split
     ·exact hk
     ·exact k1
  have ndok: ∀i x,nd M i=some x->kE x:=λi x hx=>by obtain⟨k2,k3,k4,k1⟩:=a4 i x hx;have:=isN_lt H.m k2;have:=isN_lt H.m k3;exact⟨ah,ah,ah,k4⟩
  have D: ∀{i x},nd (gN (cx n k N) M) i=some x->nd M i=some x:=λ{i x} h=>by
   rw[gF]at h;split at h
   ·cases h
   ·exact h
  have z:=W.lz;have hS:=W.m.S;rw[dW,<-lM]at hS
  refine oA (bl:=cx n k N) (v4:=au (aw B.tb)) (v5:= .map (some B.sb)) (T:=T') (f:=sw k f) (g:=tk k f g) (N:=M) (F:=F) (Q:=Q) (off:=off) (B:=B) hS mM.r (λi hi=> ?_) (λa ea e=> ?_) (by have:=iV (N:=N) (l:=k) (k:=N.length);have:=NG (cJ n k N) (cQ N k);unfold cQ at this;unfold cx cQ;omega) (λi x hx=>ndok i x (D hx)) (λi j x hi hj=> ?_) k5 (by have:=vK (A:=gN (cx n k N) M) (C:=M) (λi x hx=>D hx);omega) k7
   λtb m mc sb h5 m5 T5 TX g1 g2 g3 g4 O5=>⟨rfl,?_⟩
  ·have a0:i<(cx n k N).length:=by simpa using hi
   obtain⟨b,e1,e2⟩:=W.o3.elem (Mj a0);refine⟨_,e1,?_⟩;rw[aL,LX];rw[e2,OY,Mx,Mj a0]
   rfl
  ·have:=(W.o3.lt a.block (by rw[ea];simp[aV])).1;have:=z.2.2 s (by simp[SB.bm]);omega
  ·by_cases q:k<=x.1
   ·exact mid.ok.once i j x ((mH q).1 hi) ((mH q).1 hj)
   ·exact H.ok.once i j x ((up i x ah).1 (D hi)) ((up j x ah).1 (D hj))
  have z4:=O4.size;have a1:s∈B.bm s:=by simp[SB.bm]
  refine hC h5 _ M T' p3 c3 h2.size ⟨m5,TX,T5.nd,T5.sep,k5,k7,ah,ah,by rw[lM,cM];exact H.cnt,H.fre.1,λa ha=> ?_⟩ b4 (W.o3.only O5 λb e hm=> ?_) ah (λy hy hm=> ?_) ((O4.mono λy hy _=>Zp (.inl hy)).trans (O5.mono λy hy _=> ?_) λy hy _=>hy) λy hy=> ?_
  ·obtain⟨f1,f2,f3⟩:=H.fre.2 a ha;refine⟨f1,ah,?_⟩;rw[hM,f3]
   rfl
  ·simp only[LZ]at hm;have:=(W.o3.lt b (by rw[e];simp[aV])).1;have:=z.2.2 s (by simp[SB.bm]);omega
  ·have h3:=W.o3.lt y hy;rcases Zq hm with q|q
   ·have:=z.2.2 y (Zp (.inl q));omega
   ·simp[SB.bt,SB.tabs]at q;omega
  ·simp only[LZ]at hy;subst hy;exact Zp (.inl a1)
  ·rcases Zq hy with q|q
   ·exact .inl (Zp (.inl q))
   ·simp[SB.bt,SB.tabs]at q;exact .inr ah
 have b7:(cx n k N).length<=N.length:=by have:=iV (N:=N) (l:=k) (k:=N.length);have:=NG (cJ n k N) (cQ N k);unfold cQ at this;unfold cx cQ;omega
 have L: ∀(d:Nat) (h4:aI) (T':Nat) (p3:az) (c3:Nat),65537*2<=T'*2^d+65537->Tw h.size h2.size h4 s n room k B (sw k f) (tk k f g) N (oq n k N (cQ N k).length) F Q off T p1 c1 p2 c2 (cx n k N) p3 c3->aM (B.bm s) h h4->(∃j,T'=32*2^j)->T'<=262144->
   F361.wL24 (d+1) (aw s) u p3 (cx n k N).length c3 (T':Int) h4 K:=by
  intro d
  induction d with
  |zero=>
   intro h4 T' p3 c3 hd W O4 k5 k7;rw[F361.sL24];have cN:(dx (oq n k N (cQ N k).length) N).length=bi (dx (oq n k N (cQ N k).length) N)+F.length:=by rw[dW,jq];exact H.cnt
   refine ud W.m cN (aH rfl ?_);rw[jq];rw[rA ah ah,L7 ah,aK];exact I h4 N T' p3 c3 W O4 k5 k7 ah
  |succ d ih=>
   intro h4 T' p3 c3 hd W O4 k5 k7;rw[F361.sL24];have cN:(dx (oq n k N (cQ N k).length) N).length=bi (dx (oq n k N (cQ N k).length) N)+F.length:=by rw[dW,jq];exact H.cnt
   refine ud W.m cN (aH rfl ?_);rw[jq];rw[rA ah ah];refine aR (λq=> ?_) λq=> ?_
   ·have q:=Mn q;rw[show ax ((T':Int)*2)=((T'*2:Nat):Int) by rw[wrap_i64 ah ah];omega];refine ih h4 (T'*2) p3 c3 (by rw[NY]at hd;rw[NK,NQ 2];exact hd) W O4 (by obtain⟨j,e⟩:=k5;exact⟨j+1,by rw[e,NY];omega⟩) ah
   ·have q:=Me q;exact I h4 N T' p3 c3 W O4 k5 k7 ah
 have R: ∀(d t:Nat) (h4:aI) (p3:az) (c3:Nat),t+d=(cQ N k).length->Tw h.size h2.size h4 s n room k B (sw k f) (tk k f g) N (oq n k N t) F Q off T p1 c1 p2 c2 (cx n k N) p3 c3->aM (B.bm s) h h4->
   F361.wL17 (d+1) (aw s) (k:Int) u p3 (cx n k N).length c3 p1 (cQ N k).length c1 ((cQ N k).length:Int) (t:Int) h4 K:=by
  intro d
  induction d with
  |zero=>
   intro t h4 p3 c3 ht W O4;rw[F361.sL17];rw[L7 ah,aK];obtain rfl:t=(cQ N k).length:=ah;unfold F361.wk23;simp only[aL,LX];refine aQ (n:=some (aw B.tb)) (by rw[At.rd W.m.S];rfl) ?_;obtain⟨cs,mm,o,f',t1,-⟩:=id W.t;refine gq t1 (aH rfl ?_);unfold F361.wk24;refine⟨14,L 13 h4 T p3 c3 ?_ W O4 t5 t7⟩;obtain⟨j,e⟩:=t5;have:=NX j;omega
  |succ d ih=>
   intro t h4 p3 c3 ht W O4;rw[F361.sL17];rw[Mg ah,aO];obtain⟨a,ha⟩: ∃a,(cQ N k)[t]? =some a:=⟨_,Mj ah⟩;obtain⟨a2,x,hx,ex⟩:=iT.1 (Mc ha);obtain⟨b,eb,rb⟩:=W.o1.elem ha;rw[eb,aT,<-eb];refine⟨ah,ah,?_⟩;simp only[aL,LX,MU,Md];have aN:=isN_lt H.m (a:=a) (.inr ⟨x,hx⟩);refine aH (n:=(a:Int)) rb (ux W.m ah (λw=> ?_) λb1 y G _ hy rr=>aQ rfl ?_)
   ·exact Mw (by rw[gj,hx];rfl) (w (oq n k N t (a-2+2) x) a2)
   rw[aT];simp only[aL,Ma];rw[gj,hx,Na,show a-2+2=a by omega]at hy;injection hy with hy;refine aH (n:=(y.1:Int)) (by rw[rr 1 ah];rfl) ?_;rw[show((2:Int))=((2:Nat):Int)from rfl,pK ah ah,show((1:Int))=((1:Nat):Int)from rfl,pK (k:=k) ah ah,show ax ((t:Int)+((1:Nat):Int))=((t+1:Nat):Int) by rw[wrap_i64 ah ah];omega];obtain⟨s1,s2⟩:=Cb (n:=n) ha hx a2 ex;cases hb:cJ n k N a with
   |true=>
    obtain⟨e1,e2⟩:=s1 hb;rw[e1]at hy;rw[show(((y.1:Nat):Int)==((k+2:Nat):Int))=false by rw[OP,<-hy];omega,aK];refine ih (t+1) h4 p3 c3 ah (W.keep (aM.refl [] _) ak (by rw[e2];exact W.m)) O4
   |false=>
    obtain⟨e1,e2⟩:=s2 hb;rw[e1]at hy;rw[show(((y.1:Nat):Int)==((k+2:Nat):Int))=true by rw[Oe,<-hy],aO,aT];simp only[aL,Ma];refine W.st hx a2 (e1.trans hy) (by rw[<-hy];exact e2) G λh5 W5 O5=>ih (t+1) h5 p3 c3 ah W5 (O4.trans O5 λy hy _=>hy)
 have J: ∀(d t:Nat) (h4:aI) (p3:az) (c3:Nat),t+d=(cQ N (k+1)).length->Tw h.size h2.size h4 s n room k B (sw k f) (tk k f g) N (y8 n k N t) F Q off T p1 c1 p2 c2 (cx n k N) p3 c3->aM (B.bm s) h h4->
   F361.wL12 (d+1) (aw s) (k:Int) u p1 (cQ N k).length c1 p3 (cx n k N).length c3 p2 (cQ N (k+1)).length c2 ((cQ N (k+1)).length:Int) (t:Int) h4 K:=by
  intro d
  induction d with
  |zero=>
   intro t h4 p3 c3 ht W O4;rw[F361.sL12];rw[L7 ah,aK];obtain rfl:t=(cQ N (k+1)).length:=ah;unfold F361.wk16 F361.wk17;exact⟨_,R (cQ N k).length 0 h4 p3 c3 ah (W.keep (aM.refl [] _) ak (by rw[<-KJ];exact W.m)) O4⟩
  |succ d ih=>
   intro t h4 p3 c3 ht W O4;rw[F361.sL12];rw[Mg ah,aO];obtain⟨a,ha⟩: ∃a,(cQ N (k+1))[t]? =some a:=⟨_,Mj ah⟩;obtain⟨a2,x,hx,ex⟩:=iT.1 (Mc ha);obtain⟨b,eb,rb⟩:=W.o2.elem ha;rw[eb,aT,<-eb];refine⟨ah,ah,?_⟩;simp only[aL,LX,MU,Md];have aN:=isN_lt H.m (a:=a) (.inr ⟨x,hx⟩);refine aH (n:=(a:Int)) rb (ux W.m ah (λw=> ?_) λb1 y G _ hy rr=>aQ rfl ?_)
   ·exact Mw (by rw[gj,hx];rfl) (w (y8 n k N t (a-2+2) x) a2)
   rw[aT];simp only[aL,Ma];rw[show ax ((t:Int)+1)=((t+1:Nat):Int) by rw[wrap_i64 ah ah];omega];obtain⟨e1,e2⟩:=AV (n:=n) ha hx a2 ex;refine W.st hx a2 e1 e2 G λh5 W5 O5=>ih (t+1) h5 p3 c3 ah W5 (O4.trans O5 λy hy _=>hy)
 unfold F361.wk3
 have Y: ∀(d t:Nat) (h4:aI) (p3:az) (c3:Nat),t+d=(cQ N k).length->Tw h.size h2.size h4 s n room k B f g N (qx n k N t) F Q off T p1 c1 p2 c2 (((cQ N k).take t).filter (cJ n k N)) p3 c3->aM (B.bm s) h h4->
   F361.wL3 (d+1) (aw s) (k:Int) u p1 (cQ N k).length c1 p2 (cQ N (k+1)).length c2 p3 (((cQ N k).take t).filter (cJ n k N)).length c3 p1 (cQ N k).length c1 ((cQ N k).length:Int) (t:Int) h4 K:=by
  intro d
  induction d with
  |zero=>
   intro t h4 p3 c3 ht W O4;rw[F361.sL3];rw[L7 ah,aK];obtain rfl:t=(cQ N k).length:=ah;rw[NS]at W ⊢;have W:Tw h.size h2.size h4 s n room k B f g N (qx n k N (cQ N k).length) F Q off T p1 c1 p2 c2 (cx n k N) p3 c3:=W;show F361.wk10 _ _ _ _ _ _ _ _ _ _ (cx n k N).length _ _ _;unfold F361.wk10;simp only[aL,LX];refine aQ (n:=some (aw B.ob)) (by rw[At.rd W.m.S];rfl) ?_;refine Ca W.m.O n8 hk (λi hi=>(P.2 i hi).1) λh5 Or O5=>aH rfl ?_;have ob: ∀b∈[B.ob],b∈B.bm s:=λb hb=>by simp only[LZ]at hb;subst hb;simp[SB.bm]
   unfold F361.wk12;exact⟨_,J (cQ N (k+1)).length 0 h5 p3 c3 ah (W.keep O5 ob (by rw[<-KY];exact W.m.ord O5 Or)) (O4.trans (O5.mono λb hb _=>ob b hb) λy hy _=>hy)⟩
  |succ d ih=>
   intro t h4 p3 c3 ht W O4;rw[F361.sL3];rw[Mg ah,aO];obtain⟨a,ha⟩: ∃a,(cQ N k)[t]? =some a:=⟨_,Mj ah⟩;obtain⟨a2,x,hx,ex⟩:=iT.1 (Mc ha);obtain⟨b,eb,rb⟩:=W.o1.elem ha;rw[eb,aT,<-eb];refine⟨ah,ah,?_⟩;simp only[aL,LX,MU,Md];have aN:=isN_lt H.m (a:=a) (.inr ⟨x,hx⟩);refine aH (n:=(a:Int)) rb (ux W.m ah (λw=> ?_) λb1 y G _ hy rr=>aQ rfl ?_)
   ·exact Mw (by rw[gj,hx];rfl) (w (qx n k N t (a-2+2) x) a2)
   rw[aT];simp only[aL,Ma];rw[gj,hx,Na,show a-2+2=a by omega]at hy;injection hy with hy;obtain⟨e1,e2,e3⟩:=BW (n:=n) ha hx a2 ex;rw[e1]at hy;subst hy;obtain⟨k1,k2,k3,k4,k5,k6⟩:=H.ok.node _ x hx
   have U: ∀{c},isN N c->k<lvl n N c->isN (dx (qx n k N t) N) c/\lvl n (dx (qx n k N t) N) c=lvl n N c:=λ{c} hc hl=>by
    by_cases q:c<2
    ·exact⟨.inl q,by unfold lvl;rw[L4 q,L4 q]⟩
    ·have hn:=fI (n:=n) hc ah
     have hm:nd (dx (qx n k N t) N) (c-2)=some (lvl n N c,low N c,high N c):=by rw[gj,hn,Na];unfold qx;rw[LY (λw=>by have:=w.1;dsimp only at this;omega)]
     refine⟨.inr ⟨_,hm⟩,?_⟩
     conv=>lhs;unfold lvl
     rw[LY q,hm]
   obtain⟨i1,v1⟩:=U k2 ah;obtain⟨i2,v2⟩:=U k3 ah;obtain⟨-,-,lw,hg⟩:=eQ (n:=n) hx;rw[show a-2+2=a by omega]at lw hg;have V:cJ n k N a=(decide (lvl n N x.2.1=k+1)||decide (lvl n N x.2.2=k+1)):=by unfold cJ;rw[lw,hg]
   have ew:ax ((t:Int)+1)=((t+1:Nat):Int):=by rw[wrap_i64 ah ah];omega
   have et:(cQ N k).take (t+1)=(cQ N k).take t++[a]:=by rw[NM,ha];rfl
   have b8:(((cQ N k).take t).filter (cJ n k N)).length<=40000:=by
    have:=NG (cJ n k N) ((cQ N k).take t);have:=List.length_take_le t (cQ N k);have:=iV (N:=N) (l:=k) (k:=N.length);unfold cQ at*
    omega
   have app: ∀h6,aM [] h4 h6->cJ n k N a=true->bg h6 (.cells #[aq (a:Int)] 46) (λa5 b5=>fQ b5 46 1 4 #[(aq (0:Int))] p3 (((cQ N k).take t).filter (cJ n k N)).length c3 (some (aw a5)) 1 (λa3 b2 a7 b6=>F361.wL3 (d+1) (aw s) (k:Int) u p1 (cQ N k).length c1 p2 (cQ N (k+1)).length c2 a3 b2 a7 p1 (cQ N k).length c1 ((cQ N k).length:Int) ((t+1:Nat):Int) b6 K)):=λh6 O6 hb=>by
    have W6:=W.only0 O6;have z6:=W6.lz;refine aW λh7 B7 P7 y7=> ?_;have W7:=W6.only0 P7;refine gU (new:=[hv a]) W7.o3 B7 rfl rfl ah (by simp[Value.oneCell']) W7.lz.2.1 λp' c' h8 W8 P8 c4=> ?_;have ef:((cQ N k).take (t+1)).filter (cJ n k N)=((cQ N k).take t).filter (cJ n k N)++[a]:=by rw[et,Nx];simp[hb]
    have e4:(((cQ N k).take t).filter (cJ n k N)).length+1=(((cQ N k).take (t+1)).filter (cJ n k N)).length:=by rw[ef];simp
    have e5:(((cQ N k).take t).filter (cJ n k N)).map hv++[hv a]=(((cQ N k).take (t+1)).filter (cJ n k N)).map hv:=by rw[ef];simp
    rw[e4,e5]at W8;rw[e4];have old: ∀y∈aV p3,h2.size<=y:=λy hy=>(W7.o3.lt y hy).1;have Z: ∀b∈aV p3,b∉B.bm s++B.bt:=λb hb hm=>by have:=old b hb;have:=z6.2.2 b hm;omega
    refine ih (t+1) h8 p' c' ah ⟨by rw[e2 hb];exact W7.m.only P8 λb hb hm=>Z b hb (Zp (.inl hm)),W7.t.only P8 λb hb hm=>Z b hb (Zp (.inr hm)),W7.bs,W7.o1.only P8 λb e hm=> ?_,W7.o2.only P8 λb e hm=> ?_,W8,W7.l1,W7.l2,z6.1,by have:=P8.size;have:=W7.lz.2.1;omega,z6.2.2⟩ (((O4.trans (O6.mono ak) λy hy _=>hy).trans (P7.mono ak) λy hy _=>hy).trans P8 λy hy hl=> ?_)
    ·have:=old b hm;have:=W7.l1 b (by rw[e];simp[aV]);omega
    ·have:=old b hm;have:=W7.l2 b (by rw[e];simp[aV]);omega
    ·have:=old y hy;omega
   refine aH (n:=(x.2.1:Int)) (by rw[rr 2 ah];rfl) (lG W.m i1 (aH rfl ?_));rw[v1,show((1:Int))=((1:Nat):Int)from rfl,pK (k:=k) ah ah,show ax ((t:Int)+((1:Nat):Int))=((t+1:Nat):Int)from ew];refine aR (λq=> ?_) λq=> ?_
   ·have q:lvl n N x.2.1=k+1:=by
     have:=eq_of_beq q;omega
    exact app h4 (aM.refl _ _) (by rw[V,q];simp)
   have q: ¬lvl n N x.2.1=k+1:=λw=>by rw[w]at q;simp at q
   rw[aT];simp only[aL];refine aH (n:=(x.2.2:Int)) (by rw[rr 3 ah];rfl) (lG W.m i2 (aH rfl ?_));rw[v2];refine aR (λq2=> ?_) λq2=> ?_
   ·have q2:lvl n N x.2.2=k+1:=by
     have:=eq_of_beq q2;omega
    exact app h4 (aM.refl _ _) (by rw[V,q2];simp)
   have q2: ¬lvl n N x.2.2=k+1:=λw=>by rw[w]at q2;simp at q2
   have hb:cJ n k N a=false:=by rw[V];simp[q,q2]
   rw[show((2:Int))=((2:Nat):Int)from rfl,pK ah ah];have ef:((cQ N k).take (t+1)).filter (cJ n k N)=((cQ N k).take t).filter (cJ n k N):=by rw[et,Nx];simp[hb]
   rw[<-ef,aT];simp only[aL,Ma];refine W.st hx a2 e1 (e3 hb) G λh5 W5 O5=> ?_;rw[<-ef]at W5;exact ih (t+1) h5 p3 c3 ah W5 (O4.trans O5 λy hy _=>hy)
 exact⟨_,Y (cQ N k).length 0 h2 none 0 ah W0 (O12.mono ak)⟩
def F362.T:bh:=⟨[(2,[1,2,3,5,12,13,14]),(3,[1,2,3,5,12,13,14]),(4,[1,2,3,5,7,12,13,14]),(5,[1,2,3,5,7,8,9,12,13,14])],[(4,[[(0,[]),(1,[]),(2,[]),(4,[]),(6,[]),(7,[]),(8,[]),(10,[]),(3,[0,4,6,7,8,10]),(5,[6,7,8,10]),(9,[6,10]),(11,[]),(12,[0,1,2,4,6,7,8,10]),(13,[0,1,2,4,6,7,8,10]),(14,[]),(15,[])],[(0,[]),(1,[]),(2,[]),(4,[]),(6,[]),(7,[]),(8,[]),(10,[]),(3,[0,4,6,7,8,10]),(5,[6,7,8,10]),(9,[6,10]),(11,[]),(13,[0,1,2,4,6,7,8,10]),(12,[0,1,2,4,6,7,8,10]),(14,[]),(15,[])],[(0,[]),(1,[]),(2,[]),(4,[]),(6,[]),(7,[]),(8,[]),(10,[]),(3,[0,4,6,7,8,10]),(5,[6,7,8,10]),(9,[6,10]),(12,[0,1,2,4,6,7,8,10]),(11,[]),(13,[0,1,2,4,6,7,8,10]),(14,[]),(15,[])],[(0,[]),(1,[]),(2,[]),(4,[]),(6,[]),(7,[]),(8,[]),(10,[]),(3,[0,4,6,7,8,10]),(5,[6,7,8,10]),(9,[6,10]),(12,[0,1,2,4,6,7,8,10]),(13,[0,1,2,4,6,7,8,10]),(11,[]),(14,[]),(15,[])],[(0,[]),(1,[]),(2,[]),(4,[]),(6,[]),(7,[]),(8,[]),(10,[]),(3,[0,4,6,7,8,10]),(5,[6,7,8,10]),(9,[6,10]),(13,[0,1,2,4,6,7,8,10]),(11,[]),(12,[0,1,2,4,6,7,8,10]),(14,[]),(15,[])],[(0,[]),(1,[]),(2,[]),(4,[]),(6,[]),(7,[]),(8,[]),(10,[]),(3,[0,4,6,7,8,10]),(5,[6,7,8,10]),(9,[6,10]),(13,[0,1,2,4,6,7,8,10]),(12,[0,1,2,4,6,7,8,10]),(11,[]),(14,[]),(15,[])],[(0,[]),(1,[]),(2,[]),(4,[]),(6,[]),(7,[]),(8,[]),(10,[]),(3,[0,4,6,7,8,10]),(5,[6,7,8,10]),(12,[0,1,2,4,6,7,8,10]),(9,[6,10]),(11,[]),(13,[0,1,2,4,6,7,8,10]),(14,[]),(15,[])],[(0,[]),(1,[]),(2,[]),(4,[]),(6,[]),(7,[]),(8,[]),(10,[]),(3,[0,4,6,7,8,10]),(5,[6,7,8,10]),(12,[0,1,2,4,6,7,8,10]),(9,[6,10]),(13,[0,1,2,4,6,7,8,10]),(11,[]),(14,[]),(15,[])],[(0,[]),(1,[]),(2,[]),(4,[]),(6,[]),(7,[]),(8,[]),(10,[]),(3,[0,4,6,7,8,10]),(5,[6,7,8,10]),(12,[0,1,2,4,6,7,8,10]),(13,[0,1,2,4,6,7,8,10]),(9,[6,10]),(11,[]),(14,[]),(15,[])],[(0,[]),(1,[]),(2,[]),(4,[]),(6,[]),(7,[]),(8,[]),(10,[]),(3,[0,4,6,7,8,10]),(5,[6,7,8,10]),(13,[0,1,2,4,6,7,8,10]),(9,[6,10]),(11,[]),(12,[0,1,2,4,6,7,8,10]),(14,[]),(15,[])],[(0,[]),(1,[]),(2,[]),(4,[]),(6,[]),(7,[]),(8,[]),(10,[]),(3,[0,4,6,7,8,10]),(5,[6,7,8,10]),(13,[0,1,2,4,6,7,8,10]),(9,[6,10]),(12,[0,1,2,4,6,7,8,10]),(11,[]),(14,[]),(15,[])],[(0,[]),(1,[]),(2,[]),(4,[]),(6,[]),(7,[]),(8,[]),(10,[]),(3,[0,4,6,7,8,10]),(5,[6,7,8,10]),(13,[0,1,2,4,6,7,8,10]),(12,[0,1,2,4,6,7,8,10]),(9,[6,10]),(11,[]),(14,[]),(15,[])],[(0,[]),(1,[]),(2,[]),(4,[]),(6,[]),(7,[]),(8,[]),(10,[]),(3,[0,4,6,7,8,10]),(12,[0,1,2,4,6,7,8,10]),(5,[6,7,8,10]),(9,[6,10]),(11,[]),(13,[0,1,2,4,6,7,8,10]),(14,[]),(15,[])],[(0,[]),(1,[]),(2,[]),(4,[]),(6,[]),(7,[]),(8,[]),(10,[]),(3,[0,4,6,7,8,10]),(12,[0,1,2,4,6,7,8,10]),(5,[6,7,8,10]),(9,[6,10]),(13,[0,1,2,4,6,7,8,10]),(11,[]),(14,[]),(15,[])],[(0,[]),(1,[]),(2,[]),(4,[]),(6,[]),(7,[]),(8,[]),(10,[]),(3,[0,4,6,7,8,10]),(12,[0,1,2,4,6,7,8,10]),(5,[6,7,8,10]),(13,[0,1,2,4,6,7,8,10]),(9,[6,10]),(11,[]),(14,[]),(15,[])],[(0,[]),(1,[]),(2,[]),(4,[]),(6,[]),(7,[]),(8,[]),(10,[]),(3,[0,4,6,7,8,10]),(12,[0,1,2,4,6,7,8,10]),(13,[0,1,2,4,6,7,8,10]),(5,[6,7,8,10]),(9,[6,10]),(11,[]),(14,[]),(15,[])],[(0,[]),(1,[]),(2,[]),(4,[]),(6,[]),(7,[]),(8,[]),(10,[]),(3,[0,4,6,7,8,10]),(13,[0,1,2,4,6,7,8,10]),(5,[6,7,8,10]),(9,[6,10]),(11,[]),(12,[0,1,2,4,6,7,8,10]),(14,[]),(15,[])],[(0,[]),(1,[]),(2,[]),(4,[]),(6,[]),(7,[]),(8,[]),(10,[]),(3,[0,4,6,7,8,10]),(13,[0,1,2,4,6,7,8,10]),(5,[6,7,8,10]),(9,[6,10]),(12,[0,1,2,4,6,7,8,10]),(11,[]),(14,[]),(15,[])],[(0,[]),(1,[]),(2,[]),(4,[]),(6,[]),(7,[]),(8,[]),(10,[]),(3,[0,4,6,7,8,10]),(13,[0,1,2,4,6,7,8,10]),(5,[6,7,8,10]),(12,[0,1,2,4,6,7,8,10]),(9,[6,10]),(11,[]),(14,[]),(15,[])],[(0,[]),(1,[]),(2,[]),(4,[]),(6,[]),(7,[]),(8,[]),(10,[]),(3,[0,4,6,7,8,10]),(13,[0,1,2,4,6,7,8,10]),(12,[0,1,2,4,6,7,8,10]),(5,[6,7,8,10]),(9,[6,10]),(11,[]),(14,[]),(15,[])],[(0,[]),(1,[]),(2,[]),(4,[]),(6,[]),(7,[]),(8,[]),(10,[]),(12,[0,1,2,4,6,7,8,10]),(3,[0,4,6,7,8,10]),(5,[6,7,8,10]),(9,[6,10]),(11,[]),(13,[0,1,2,4,6,7,8,10]),(14,[]),(15,[])],[(0,[]),(1,[]),(2,[]),(4,[]),(6,[]),(7,[]),(8,[]),(10,[]),(12,[0,1,2,4,6,7,8,10]),(3,[0,4,6,7,8,10]),(5,[6,7,8,10]),(9,[6,10]),(13,[0,1,2,4,6,7,8,10]),(11,[]),(14,[]),(15,[])],[(0,[]),(1,[]),(2,[]),(4,[]),(6,[]),(7,[]),(8,[]),(10,[]),(12,[0,1,2,4,6,7,8,10]),(3,[0,4,6,7,8,10]),(5,[6,7,8,10]),(13,[0,1,2,4,6,7,8,10]),(9,[6,10]),(11,[]),(14,[]),(15,[])],[(0,[]),(1,[]),(2,[]),(4,[]),(6,[]),(7,[]),(8,[]),(10,[]),(12,[0,1,2,4,6,7,8,10]),(3,[0,4,6,7,8,10]),(13,[0,1,2,4,6,7,8,10]),(5,[6,7,8,10]),(9,[6,10]),(11,[]),(14,[]),(15,[])],[(0,[]),(1,[]),(2,[]),(4,[]),(6,[]),(7,[]),(8,[]),(10,[]),(12,[0,1,2,4,6,7,8,10]),(13,[0,1,2,4,6,7,8,10]),(3,[0,4,6,7,8,10]),(5,[6,7,8,10]),(9,[6,10]),(11,[]),(14,[]),(15,[])],[(0,[]),(1,[]),(2,[]),(4,[]),(6,[]),(7,[]),(8,[]),(10,[]),(13,[0,1,2,4,6,7,8,10]),(3,[0,4,6,7,8,10]),(5,[6,7,8,10]),(9,[6,10]),(11,[]),(12,[0,1,2,4,6,7,8,10]),(14,[]),(15,[])],[(0,[]),(1,[]),(2,[]),(4,[]),(6,[]),(7,[]),(8,[]),(10,[]),(13,[0,1,2,4,6,7,8,10]),(3,[0,4,6,7,8,10]),(5,[6,7,8,10]),(9,[6,10]),(12,[0,1,2,4,6,7,8,10]),(11,[]),(14,[]),(15,[])],[(0,[]),(1,[]),(2,[]),(4,[]),(6,[]),(7,[]),(8,[]),(10,[]),(13,[0,1,2,4,6,7,8,10]),(3,[0,4,6,7,8,10]),(5,[6,7,8,10]),(12,[0,1,2,4,6,7,8,10]),(9,[6,10]),(11,[]),(14,[]),(15,[])],[(0,[]),(1,[]),(2,[]),(4,[]),(6,[]),(7,[]),(8,[]),(10,[]),(13,[0,1,2,4,6,7,8,10]),(3,[0,4,6,7,8,10]),(12,[0,1,2,4,6,7,8,10]),(5,[6,7,8,10]),(9,[6,10]),(11,[]),(14,[]),(15,[])],[(0,[]),(1,[]),(2,[]),(4,[]),(6,[]),(7,[]),(8,[]),(10,[]),(13,[0,1,2,4,6,7,8,10]),(12,[0,1,2,4,6,7,8,10]),(3,[0,4,6,7,8,10]),(5,[6,7,8,10]),(9,[6,10]),(11,[]),(14,[]),(15,[])]]),(5,[[(0,[]),(1,[]),(2,[]),(3,[]),(4,[]),(5,[]),(6,[]),(8,[]),(9,[]),(10,[]),(11,[]),(7,[0,1,2,8,9,10,11]),(12,[0,1,2]),(13,[])]])]⟩
section
variable (bk2:Addr->Addr->Addr->Value->(az)->Nat->Nat->Int->Int->aI->Prop)(n:Nat)(u:az)(q t:Nat)(a c l:Addr)(o:Value)(b:Int)(f:az)(d g:Nat)(j i:Int)(h:aI)(K:KK)
def F362.wL2:Prop:=Lp Tryz.f362 F362.T [1,1,0] n [(1,(au a)),(2,(au c)),(3,(au l)),(5,o),(12,(.slice f d g)),(13,(ap j)),(14,(ap i))] h K
def F362.wk5(bk2:Addr->Addr->Addr->Value->(az)->Nat->Nat->Int->Int->aI->Prop)(a c l:Addr)(o:Value)(b:Int)(r s:Addr)(f:az)(d g:Nat)(j i:Int)(h:aI)(K:KK):Prop:=aS .i64 (rd h l) λe=>aZ (rd h a) λk=>aS .i64 (rd h l) λm=>aS .u32 (rd h (r.add 0)) λn=>aS .u32 (rd h (r.add 1)) λp=>aS .u32 (rd h (s.add 0)) λq=>aS .u32 (rd h (s.add 1)) λt=>aZ (rd h a) λu=>aS .i64 (rd h l) λv=>aS .u32 (rd h (r.add 0)) λw=>aS .u32 (rd h (r.add 1)) λx=>aS .u32 (rd h (s.add 0)) λy=>aS .u32 (rd h (s.add 1)) λz=>Cl 365 [aA k,ap m,.agg #[aq n,aq p],.agg #[aq q,aq t],ap 0] h λk m=>aS .u32 (some k) λk=>o=(o:Value)/\aF (aq b)/\aS .i64 (rd m l) λn=>aG (ap n) (ap e)/\aZ (rd m a) λn=>aG (aA n) (aA u)/\aS .i64 (rd m l) λn=>aG (ap n) (ap v)/\aS .u32 (rd m (r.add 0)) λn=>aS .u32 (rd m (r.add 1)) λp=>aG (.agg #[aq n,aq p]) (.agg #[aq w,aq x])/\aS .u32 (rd m (s.add 0)) λn=>aS .u32 (rd m (s.add 1)) λp=>aG (.agg #[aq n,aq p]) (.agg #[aq y,aq z])/\Cl 365 [aA u,ap v,.agg #[aq w,aq x],.agg #[aq y,aq z],ap 1] m λm n=>aS .u32 (some m) λm=>o=(o:Value)/\aF (aq b)/\aS .i64 (rd n l) λp=>aG (ap p) (ap e)/\dS Tryz.prog X o [aq b,ap e,aq k,aq m] n λb e=>b=aE/\bk2 a c l o f d g j (ax (i+1)) e
def F362.wk4:Prop:=aZ (rd h a) λe=>aZ (rd h a) λk=>bU (rd h c) λm=>aZ (rd h a) λn=>aZ (rd h a) λp=>bU (rd h c) λq=>Cl 72 [aA k,aq b] h (λr s=>aS .u32 (some r) λr=>aZ (rd s a) λt=>aG (aA t) (aA e)/\bU (rd s c) λt=>aG (.map t) (.map m)/\aZ (rd s a) λt=>aG (aA t) (aA n)/\aZ (rd s a) λt=>aG (aA t) (aA p)/\aF (aq b)/\bU (rd s c) λt=>aG (.map t) (.map q)/\Cl 364 [aA e,aq r,.map m] s (λr s=> ∃t:Int,∃u:Int,r=(.agg #[aq t,aq u])/\aZ (rd s a) λr=>aG (aA r) (aA n)/\aZ (rd s a) λr=>aG (aA r) (aA p)/\aF (aq b)/\bU (rd s c) λr=>aG (.map r) (.map q)/\Cl 73 [aA p,aq b] s (λr s=>aS .u32 (some r) λr=>aZ (rd s a) λv=>aG (aA v) (aA n)/\bU (rd s c) λv=>aG (.map v) (.map q)/\Cl 364 [aA n,aq r,.map q] s (λr s=> ∃v:Int,∃w:Int,r=(.agg #[aq v,aq w])/\bg s (.cells #[aq 0,aq 0] 352) (λr s=>aZ (rd s a) λx=>aG (aA x) (aA e)/\aZ (rd s a) λx=>aG (aA x) (aA k)/\aF (aq b)/\bU (rd s c) λx=>aG (.map x) (.map m)/\aZ (rd s a) λx=>aG (aA x) (aA n)/\aZ (rd s a) λx=>aG (aA x) (aA p)/\aF (aq b)/\bU (rd s c) λx=>aG (.map x) (.map q)/\bg s (.cells #[aq 0,aq 0] 352) λs x=>aZ (rd x a) λy=>aG (aA y) (aA e)/\aZ (rd x a) λe=>aG (aA e) (aA k)/\aF (aq b)/\bU (rd x c) λe=>aG (.map e) (.map m)/\aZ (rd x a) λe=>aG (aA e) (aA n)/\aZ (rd x a) λe=>aG (aA e) (aA p)/\aF (aq b)/\bU (rd x c) λe=>aG (.map e) (.map q)/\aY x ((aw r).add 0) (aq t) λe=>aY e ((aw r).add 1) (aq u) λe=>aY e ((aw s).add 0) (aq v) λe=>aY e ((aw s).add 1) (aq w) λe=>F362.wk5 bk2 a c l o b (aw r) (aw s) f d g j i e K)/\bg s (.cells #[aq 0,aq 0] 352) λr s=>aZ (rd s a) λx=>aG (aA x) (aA e)/\aZ (rd s a) λx=>aG (aA x) (aA k)/\aF (aq b)/\bU (rd s c) λx=>aG (.map x) (.map m)/\aZ (rd s a) λx=>aG (aA x) (aA n)/\aZ (rd s a) λx=>aG (aA x) (aA p)/\aF (aq b)/\bU (rd s c) λx=>aG (.map x) (.map q)/\bg s (.cells #[aq 0,aq 0] 352) λs x=>aZ (rd x a) λy=>aG (aA y) (aA e)/\aZ (rd x a) λe=>aG (aA e) (aA k)/\aF (aq b)/\bU (rd x c) λe=>aG (.map e) (.map m)/\aZ (rd x a) λe=>aG (aA e) (aA n)/\aZ (rd x a) λe=>aG (aA e) (aA p)/\aF (aq b)/\bU (rd x c) λe=>aG (.map e) (.map q)/\aY x ((aw s).add 0) (aq t) λe=>aY e ((aw s).add 1) (aq u) λe=>aY e ((aw r).add 0) (aq v) λe=>aY e ((aw r).add 1) (aq w) λe=>F362.wk5 bk2 a c l o b (aw s) (aw r) f d g j i e K)/\bg s (.cells #[aq 0,aq 0] 352) (λs v=>aZ (rd v a) λw=>aG (aA w) (aA e)/\aZ (rd v a) λw=>aG (aA w) (aA k)/\aF (aq b)/\bU (rd v c) λw=>aG (.map w) (.map m)/\aZ (rd v a) λw=>aG (aA w) (aA n)/\aZ (rd v a) λw=>aG (aA w) (aA p)/\aF (aq b)/\bU (rd v c) λw=>aG (.map w) (.map q)/\Cl 364 [aA n,aq r,.map q] v (λr v=> ∃w:Int,∃x:Int,r=(.agg #[aq w,aq x])/\bg v (.cells #[aq 0,aq 0] 352) λr v=>aZ (rd v a) λy=>aG (aA y) (aA e)/\aZ (rd v a) λe=>aG (aA e) (aA k)/\aF (aq b)/\bU (rd v c) λe=>aG (.map e) (.map m)/\aZ (rd v a) λe=>aG (aA e) (aA n)/\aZ (rd v a) λe=>aG (aA e) (aA p)/\aF (aq b)/\bU (rd v c) λe=>aG (.map e) (.map q)/\aY v ((aw s).add 0) (aq t) λe=>aY e ((aw s).add 1) (aq u) λe=>aY e ((aw r).add 0) (aq w) λe=>aY e ((aw r).add 1) (aq x) λe=>F362.wk5 bk2 a c l o b (aw s) (aw r) f d g j i e K)/\bg v (.cells #[aq 0,aq 0] 352) λv w=>aZ (rd w a) λx=>aG (aA x) (aA e)/\aZ (rd w a) λe=>aG (aA e) (aA k)/\aF (aq b)/\bU (rd w c) λe=>aG (.map e) (.map m)/\aZ (rd w a) λe=>aG (aA e) (aA n)/\aZ (rd w a) λe=>aG (aA e) (aA p)/\aF (aq b)/\bU (rd w c) λe=>aG (.map e) (.map q)/\Cl 364 [aA n,aq r,.map q] w λe k=> ∃m:Int,∃n:Int,e=(.agg #[aq m,aq n])/\aY k ((aw s).add 0) (aq t) λe=>aY e ((aw s).add 1) (aq u) λe=>aY e ((aw v).add 0) (aq m) λe=>aY e ((aw v).add 1) (aq n) λe=>F362.wk5 bk2 a c l o b (aw s) (aw v) f d g j i e K)/\bg s (.cells #[aq 0,aq 0] 352) λs v=>aZ (rd v a) λw=>aG (aA w) (aA e)/\aZ (rd v a) λw=>aG (aA w) (aA k)/\aF (aq b)/\bU (rd v c) λw=>aG (.map w) (.map m)/\aZ (rd v a) λw=>aG (aA w) (aA n)/\aZ (rd v a) λw=>aG (aA w) (aA p)/\aF (aq b)/\bU (rd v c) λw=>aG (.map w) (.map q)/\Cl 364 [aA n,aq r,.map q] v (λr v=> ∃w:Int,∃x:Int,r=(.agg #[aq w,aq x])/\bg v (.cells #[aq 0,aq 0] 352) λr v=>aZ (rd v a) λy=>aG (aA y) (aA e)/\aZ (rd v a) λe=>aG (aA e) (aA k)/\aF (aq b)/\bU (rd v c) λe=>aG (.map e) (.map m)/\aZ (rd v a) λe=>aG (aA e) (aA n)/\aZ (rd v a) λe=>aG (aA e) (aA p)/\aF (aq b)/\bU (rd v c) λe=>aG (.map e) (.map q)/\aY v ((aw r).add 0) (aq t) λe=>aY e ((aw r).add 1) (aq u) λe=>aY e ((aw s).add 0) (aq w) λe=>aY e ((aw s).add 1) (aq x) λe=>F362.wk5 bk2 a c l o b (aw r) (aw s) f d g j i e K)/\bg v (.cells #[aq 0,aq 0] 352) λv w=>aZ (rd w a) λx=>aG (aA x) (aA e)/\aZ (rd w a) λe=>aG (aA e) (aA k)/\aF (aq b)/\bU (rd w c) λe=>aG (.map e) (.map m)/\aZ (rd w a) λe=>aG (aA e) (aA n)/\aZ (rd w a) λe=>aG (aA e) (aA p)/\aF (aq b)/\bU (rd w c) λe=>aG (.map e) (.map q)/\Cl 364 [aA n,aq r,.map q] w λe k=> ∃m:Int,∃n:Int,e=(.agg #[aq m,aq n])/\aY k ((aw v).add 0) (aq t) λe=>aY e ((aw v).add 1) (aq u) λe=>aY e ((aw s).add 0) (aq m) λe=>aY e ((aw s).add 1) (aq n) λe=>F362.wk5 bk2 a c l o b (aw v) (aw s) f d g j i e K)/\bg s (.cells #[aq 0,aq 0] 352) (λr s=>aZ (rd s a) λv=>aG (aA v) (aA e)/\aZ (rd s a) λv=>aG (aA v) (aA k)/\aF (aq b)/\bU (rd s c) λv=>aG (.map v) (.map m)/\aZ (rd s a) λv=>aG (aA v) (aA n)/\aZ (rd s a) λv=>aG (aA v) (aA p)/\aF (aq b)/\bU (rd s c) λv=>aG (.map v) (.map q)/\Cl 73 [aA p,aq b] s (λs v=>aS .u32 (some s) λs=>aZ (rd v a) λw=>aG (aA w) (aA n)/\bU (rd v c) λw=>aG (.map w) (.map q)/\Cl 364 [aA n,aq s,.map q] v (λs v=> ∃w:Int,∃x:Int,s=(.agg #[aq w,aq x])/\bg v (.cells #[aq 0,aq 0] 352) λs v=>aZ (rd v a) λy=>aG (aA y) (aA e)/\aZ (rd v a) λe=>aG (aA e) (aA k)/\aF (aq b)/\bU (rd v c) λe=>aG (.map e) (.map m)/\aZ (rd v a) λe=>aG (aA e) (aA n)/\aZ (rd v a) λe=>aG (aA e) (aA p)/\aF (aq b)/\bU (rd v c) λe=>aG (.map e) (.map q)/\aY v ((aw r).add 0) (aq t) λe=>aY e ((aw r).add 1) (aq u) λe=>aY e ((aw s).add 0) (aq w) λe=>aY e ((aw s).add 1) (aq x) λe=>F362.wk5 bk2 a c l o b (aw r) (aw s) f d g j i e K)/\bg v (.cells #[aq 0,aq 0] 352) λv w=>aZ (rd w a) λx=>aG (aA x) (aA e)/\aZ (rd w a) λe=>aG (aA e) (aA k)/\aF (aq b)/\bU (rd w c) λe=>aG (.map e) (.map m)/\aZ (rd w a) λe=>aG (aA e) (aA n)/\aZ (rd w a) λe=>aG (aA e) (aA p)/\aF (aq b)/\bU (rd w c) λe=>aG (.map e) (.map q)/\Cl 364 [aA n,aq s,.map q] w λe k=> ∃m:Int,∃n:Int,e=(.agg #[aq m,aq n])/\aY k ((aw r).add 0) (aq t) λe=>aY e ((aw r).add 1) (aq u) λe=>aY e ((aw v).add 0) (aq m) λe=>aY e ((aw v).add 1) (aq n) λe=>F362.wk5 bk2 a c l o b (aw r) (aw v) f d g j i e K)/\bg s (.cells #[aq 0,aq 0] 352) λs v=>aZ (rd v a) λw=>aG (aA w) (aA e)/\aZ (rd v a) λe=>aG (aA e) (aA k)/\aF (aq b)/\bU (rd v c) λe=>aG (.map e) (.map m)/\aZ (rd v a) λe=>aG (aA e) (aA n)/\aZ (rd v a) λe=>aG (aA e) (aA p)/\aF (aq b)/\bU (rd v c) λe=>aG (.map e) (.map q)/\Cl 73 [aA p,aq b] v λe k=>aS .u32 (some e) λe=>aZ (rd k a) λm=>aG (aA m) (aA n)/\bU (rd k c) λm=>aG (.map m) (.map q)/\Cl 364 [aA n,aq e,.map q] k λe k=> ∃m:Int,∃n:Int,e=(.agg #[aq m,aq n])/\aY k ((aw r).add 0) (aq t) λe=>aY e ((aw r).add 1) (aq u) λe=>aY e ((aw s).add 0) (aq m) λe=>aY e ((aw s).add 1) (aq n) λe=>F362.wk5 bk2 a c l o b (aw r) (aw s) f d g j i e K)/\bg s (.cells #[aq 0,aq 0] 352) λr s=>aZ (rd s a) λv=>aG (aA v) (aA e)/\aZ (rd s a) λv=>aG (aA v) (aA k)/\aF (aq b)/\bU (rd s c) λv=>aG (.map v) (.map m)/\aZ (rd s a) λv=>aG (aA v) (aA n)/\aZ (rd s a) λv=>aG (aA v) (aA p)/\aF (aq b)/\bU (rd s c) λv=>aG (.map v) (.map q)/\Cl 73 [aA p,aq b] s (λs v=>aS .u32 (some s) λs=>aZ (rd v a) λw=>aG (aA w) (aA n)/\bU (rd v c) λw=>aG (.map w) (.map q)/\Cl 364 [aA n,aq s,.map q] v (λs v=> ∃w:Int,∃x:Int,s=(.agg #[aq w,aq x])/\bg v (.cells #[aq 0,aq 0] 352) λs v=>aZ (rd v a) λy=>aG (aA y) (aA e)/\aZ (rd v a) λe=>aG (aA e) (aA k)/\aF (aq b)/\bU (rd v c) λe=>aG (.map e) (.map m)/\aZ (rd v a) λe=>aG (aA e) (aA n)/\aZ (rd v a) λe=>aG (aA e) (aA p)/\aF (aq b)/\bU (rd v c) λe=>aG (.map e) (.map q)/\aY v ((aw s).add 0) (aq t) λe=>aY e ((aw s).add 1) (aq u) λe=>aY e ((aw r).add 0) (aq w) λe=>aY e ((aw r).add 1) (aq x) λe=>F362.wk5 bk2 a c l o b (aw s) (aw r) f d g j i e K)/\bg v (.cells #[aq 0,aq 0] 352) λv w=>aZ (rd w a) λx=>aG (aA x) (aA e)/\aZ (rd w a) λe=>aG (aA e) (aA k)/\aF (aq b)/\bU (rd w c) λe=>aG (.map e) (.map m)/\aZ (rd w a) λe=>aG (aA e) (aA n)/\aZ (rd w a) λe=>aG (aA e) (aA p)/\aF (aq b)/\bU (rd w c) λe=>aG (.map e) (.map q)/\Cl 364 [aA n,aq s,.map q] w λe k=> ∃m:Int,∃n:Int,e=(.agg #[aq m,aq n])/\aY k ((aw v).add 0) (aq t) λe=>aY e ((aw v).add 1) (aq u) λe=>aY e ((aw r).add 0) (aq m) λe=>aY e ((aw r).add 1) (aq n) λe=>F362.wk5 bk2 a c l o b (aw v) (aw r) f d g j i e K)/\bg s (.cells #[aq 0,aq 0] 352) λs v=>aZ (rd v a) λw=>aG (aA w) (aA e)/\aZ (rd v a) λe=>aG (aA e) (aA k)/\aF (aq b)/\bU (rd v c) λe=>aG (.map e) (.map m)/\aZ (rd v a) λe=>aG (aA e) (aA n)/\aZ (rd v a) λe=>aG (aA e) (aA p)/\aF (aq b)/\bU (rd v c) λe=>aG (.map e) (.map q)/\Cl 73 [aA p,aq b] v λe k=>aS .u32 (some e) λe=>aZ (rd k a) λm=>aG (aA m) (aA n)/\bU (rd k c) λm=>aG (.map m) (.map q)/\Cl 364 [aA n,aq e,.map q] k λe k=> ∃m:Int,∃n:Int,e=(.agg #[aq m,aq n])/\aY k ((aw s).add 0) (aq t) λe=>aY e ((aw s).add 1) (aq u) λe=>aY e ((aw r).add 0) (aq m) λe=>aY e ((aw r).add 1) (aq n) λe=>F362.wk5 bk2 a c l o b (aw s) (aw r) f d g j i e K)/\bg s (.cells #[aq 0,aq 0] 352) (λs t=>aZ (rd t a) λu=>aG (aA u) (aA e)/\aZ (rd t a) λu=>aG (aA u) (aA k)/\aF (aq b)/\bU (rd t c) λu=>aG (.map u) (.map m)/\aZ (rd t a) λu=>aG (aA u) (aA n)/\aZ (rd t a) λu=>aG (aA u) (aA p)/\aF (aq b)/\bU (rd t c) λu=>aG (.map u) (.map q)/\Cl 364 [aA e,aq r,.map m] t (λr t=> ∃u:Int,∃v:Int,r=(.agg #[aq u,aq v])/\aZ (rd t a) λr=>aG (aA r) (aA n)/\aZ (rd t a) λr=>aG (aA r) (aA p)/\aF (aq b)/\bU (rd t c) λr=>aG (.map r) (.map q)/\Cl 73 [aA p,aq b] t (λr t=>aS .u32 (some r) λr=>aZ (rd t a) λw=>aG (aA w) (aA n)/\bU (rd t c) λw=>aG (.map w) (.map q)/\Cl 364 [aA n,aq r,.map q] t (λr t=> ∃w:Int,∃x:Int,r=(.agg #[aq w,aq x])/\bg t (.cells #[aq 0,aq 0] 352) λr t=>aZ (rd t a) λy=>aG (aA y) (aA e)/\aZ (rd t a) λe=>aG (aA e) (aA k)/\aF (aq b)/\bU (rd t c) λe=>aG (.map e) (.map m)/\aZ (rd t a) λe=>aG (aA e) (aA n)/\aZ (rd t a) λe=>aG (aA e) (aA p)/\aF (aq b)/\bU (rd t c) λe=>aG (.map e) (.map q)/\aY t ((aw s).add 0) (aq u) λe=>aY e ((aw s).add 1) (aq v) λe=>aY e ((aw r).add 0) (aq w) λe=>aY e ((aw r).add 1) (aq x) λe=>F362.wk5 bk2 a c l o b (aw s) (aw r) f d g j i e K)/\bg t (.cells #[aq 0,aq 0] 352) λt w=>aZ (rd w a) λx=>aG (aA x) (aA e)/\aZ (rd w a) λe=>aG (aA e) (aA k)/\aF (aq b)/\bU (rd w c) λe=>aG (.map e) (.map m)/\aZ (rd w a) λe=>aG (aA e) (aA n)/\aZ (rd w a) λe=>aG (aA e) (aA p)/\aF (aq b)/\bU (rd w c) λe=>aG (.map e) (.map q)/\Cl 364 [aA n,aq r,.map q] w λe k=> ∃m:Int,∃n:Int,e=(.agg #[aq m,aq n])/\aY k ((aw s).add 0) (aq u) λe=>aY e ((aw s).add 1) (aq v) λe=>aY e ((aw t).add 0) (aq m) λe=>aY e ((aw t).add 1) (aq n) λe=>F362.wk5 bk2 a c l o b (aw s) (aw t) f d g j i e K)/\bg t (.cells #[aq 0,aq 0] 352) λr t=>aZ (rd t a) λw=>aG (aA w) (aA e)/\aZ (rd t a) λe=>aG (aA e) (aA k)/\aF (aq b)/\bU (rd t c) λe=>aG (.map e) (.map m)/\aZ (rd t a) λe=>aG (aA e) (aA n)/\aZ (rd t a) λe=>aG (aA e) (aA p)/\aF (aq b)/\bU (rd t c) λe=>aG (.map e) (.map q)/\Cl 73 [aA p,aq b] t λe k=>aS .u32 (some e) λe=>aZ (rd k a) λm=>aG (aA m) (aA n)/\bU (rd k c) λm=>aG (.map m) (.map q)/\Cl 364 [aA n,aq e,.map q] k λe k=> ∃m:Int,∃n:Int,e=(.agg #[aq m,aq n])/\aY k ((aw s).add 0) (aq u) λe=>aY e ((aw s).add 1) (aq v) λe=>aY e ((aw r).add 0) (aq m) λe=>aY e ((aw r).add 1) (aq n) λe=>F362.wk5 bk2 a c l o b (aw s) (aw r) f d g j i e K)/\bg t (.cells #[aq 0,aq 0] 352) λt u=>aZ (rd u a) λv=>aG (aA v) (aA e)/\aZ (rd u a) λv=>aG (aA v) (aA k)/\aF (aq b)/\bU (rd u c) λk=>aG (.map k) (.map m)/\aZ (rd u a) λk=>aG (aA k) (aA n)/\aZ (rd u a) λk=>aG (aA k) (aA p)/\aF (aq b)/\bU (rd u c) λk=>aG (.map k) (.map q)/\Cl 364 [aA e,aq r,.map m] u λe k=> ∃m:Int,∃r:Int,e=(.agg #[aq m,aq r])/\aZ (rd k a) λe=>aG (aA e) (aA n)/\aZ (rd k a) λe=>aG (aA e) (aA p)/\aF (aq b)/\bU (rd k c) λe=>aG (.map e) (.map q)/\Cl 73 [aA p,aq b] k λe k=>aS .u32 (some e) λe=>aZ (rd k a) λp=>aG (aA p) (aA n)/\bU (rd k c) λp=>aG (.map p) (.map q)/\Cl 364 [aA n,aq e,.map q] k λe k=> ∃n:Int,∃p:Int,e=(.agg #[aq n,aq p])/\aY k ((aw s).add 0) (aq m) λe=>aY e ((aw s).add 1) (aq r) λe=>aY e ((aw t).add 0) (aq n) λe=>aY e ((aw t).add 1) (aq p) λe=>F362.wk5 bk2 a c l o b (aw s) (aw t) f d g j i e K)/\bg s (.cells #[aq 0,aq 0] 352) λs t=>aZ (rd t a) λu=>aG (aA u) (aA e)/\aZ (rd t a) λu=>aG (aA u) (aA k)/\aF (aq b)/\bU (rd t c) λu=>aG (.map u) (.map m)/\aZ (rd t a) λu=>aG (aA u) (aA n)/\aZ (rd t a) λu=>aG (aA u) (aA p)/\aF (aq b)/\bU (rd t c) λu=>aG (.map u) (.map q)/\Cl 364 [aA e,aq r,.map m] t (λr t=> ∃u:Int,∃v:Int,r=(.agg #[aq u,aq v])/\aZ (rd t a) λr=>aG (aA r) (aA n)/\aZ (rd t a) λr=>aG (aA r) (aA p)/\aF (aq b)/\bU (rd t c) λr=>aG (.map r) (.map q)/\Cl 73 [aA p,aq b] t (λr t=>aS .u32 (some r) λr=>aZ (rd t a) λw=>aG (aA w) (aA n)/\bU (rd t c) λw=>aG (.map w) (.map q)/\Cl 364 [aA n,aq r,.map q] t (λr t=> ∃w:Int,∃x:Int,r=(.agg #[aq w,aq x])/\bg t (.cells #[aq 0,aq 0] 352) λr t=>aZ (rd t a) λy=>aG (aA y) (aA e)/\aZ (rd t a) λe=>aG (aA e) (aA k)/\aF (aq b)/\bU (rd t c) λe=>aG (.map e) (.map m)/\aZ (rd t a) λe=>aG (aA e) (aA n)/\aZ (rd t a) λe=>aG (aA e) (aA p)/\aF (aq b)/\bU (rd t c) λe=>aG (.map e) (.map q)/\aY t ((aw r).add 0) (aq u) λe=>aY e ((aw r).add 1) (aq v) λe=>aY e ((aw s).add 0) (aq w) λe=>aY e ((aw s).add 1) (aq x) λe=>F362.wk5 bk2 a c l o b (aw r) (aw s) f d g j i e K)/\bg t (.cells #[aq 0,aq 0] 352) λt w=>aZ (rd w a) λx=>aG (aA x) (aA e)/\aZ (rd w a) λe=>aG (aA e) (aA k)/\aF (aq b)/\bU (rd w c) λe=>aG (.map e) (.map m)/\aZ (rd w a) λe=>aG (aA e) (aA n)/\aZ (rd w a) λe=>aG (aA e) (aA p)/\aF (aq b)/\bU (rd w c) λe=>aG (.map e) (.map q)/\Cl 364 [aA n,aq r,.map q] w λe k=> ∃m:Int,∃n:Int,e=(.agg #[aq m,aq n])/\aY k ((aw t).add 0) (aq u) λe=>aY e ((aw t).add 1) (aq v) λe=>aY e ((aw s).add 0) (aq m) λe=>aY e ((aw s).add 1) (aq n) λe=>F362.wk5 bk2 a c l o b (aw t) (aw s) f d g j i e K)/\bg t (.cells #[aq 0,aq 0] 352) λr t=>aZ (rd t a) λw=>aG (aA w) (aA e)/\aZ (rd t a) λe=>aG (aA e) (aA k)/\aF (aq b)/\bU (rd t c) λe=>aG (.map e) (.map m)/\aZ (rd t a) λe=>aG (aA e) (aA n)/\aZ (rd t a) λe=>aG (aA e) (aA p)/\aF (aq b)/\bU (rd t c) λe=>aG (.map e) (.map q)/\Cl 73 [aA p,aq b] t λe k=>aS .u32 (some e) λe=>aZ (rd k a) λm=>aG (aA m) (aA n)/\bU (rd k c) λm=>aG (.map m) (.map q)/\Cl 364 [aA n,aq e,.map q] k λe k=> ∃m:Int,∃n:Int,e=(.agg #[aq m,aq n])/\aY k ((aw r).add 0) (aq u) λe=>aY e ((aw r).add 1) (aq v) λe=>aY e ((aw s).add 0) (aq m) λe=>aY e ((aw s).add 1) (aq n) λe=>F362.wk5 bk2 a c l o b (aw r) (aw s) f d g j i e K)/\bg t (.cells #[aq 0,aq 0] 352) λt u=>aZ (rd u a) λv=>aG (aA v) (aA e)/\aZ (rd u a) λv=>aG (aA v) (aA k)/\aF (aq b)/\bU (rd u c) λk=>aG (.map k) (.map m)/\aZ (rd u a) λk=>aG (aA k) (aA n)/\aZ (rd u a) λk=>aG (aA k) (aA p)/\aF (aq b)/\bU (rd u c) λk=>aG (.map k) (.map q)/\Cl 364 [aA e,aq r,.map m] u λe k=> ∃m:Int,∃r:Int,e=(.agg #[aq m,aq r])/\aZ (rd k a) λe=>aG (aA e) (aA n)/\aZ (rd k a) λe=>aG (aA e) (aA p)/\aF (aq b)/\bU (rd k c) λe=>aG (.map e) (.map q)/\Cl 73 [aA p,aq b] k λe k=>aS .u32 (some e) λe=>aZ (rd k a) λp=>aG (aA p) (aA n)/\bU (rd k c) λp=>aG (.map p) (.map q)/\Cl 364 [aA n,aq e,.map q] k λe k=> ∃n:Int,∃p:Int,e=(.agg #[aq n,aq p])/\aY k ((aw t).add 0) (aq m) λe=>aY e ((aw t).add 1) (aq r) λe=>aY e ((aw s).add 0) (aq n) λe=>aY e ((aw s).add 1) (aq p) λe=>F362.wk5 bk2 a c l o b (aw t) (aw s) f d g j i e K)/\bg h (.cells #[aq 0,aq 0] 352) (λr s=>aZ (rd s a) λt=>aG (aA t) (aA e)/\aZ (rd s a) λt=>aG (aA t) (aA k)/\aF (aq b)/\bU (rd s c) λt=>aG (.map t) (.map m)/\aZ (rd s a) λt=>aG (aA t) (aA n)/\aZ (rd s a) λt=>aG (aA t) (aA p)/\aF (aq b)/\bU (rd s c) λt=>aG (.map t) (.map q)/\Cl 72 [aA k,aq b] s (λs t=>aS .u32 (some s) λs=>aZ (rd t a) λu=>aG (aA u) (aA e)/\bU (rd t c) λu=>aG (.map u) (.map m)/\aZ (rd t a) λu=>aG (aA u) (aA n)/\aZ (rd t a) λu=>aG (aA u) (aA p)/\aF (aq b)/\bU (rd t c) λu=>aG (.map u) (.map q)/\Cl 364 [aA e,aq s,.map m] t (λs t=> ∃u:Int,∃v:Int,s=(.agg #[aq u,aq v])/\aZ (rd t a) λs=>aG (aA s) (aA n)/\aZ (rd t a) λs=>aG (aA s) (aA p)/\aF (aq b)/\bU (rd t c) λs=>aG (.map s) (.map q)/\Cl 73 [aA p,aq b] t (λs t=>aS .u32 (some s) λs=>aZ (rd t a) λw=>aG (aA w) (aA n)/\bU (rd t c) λw=>aG (.map w) (.map q)/\Cl 364 [aA n,aq s,.map q] t (λs t=> ∃w:Int,∃x:Int,s=(.agg #[aq w,aq x])/\bg t (.cells #[aq 0,aq 0] 352) λs t=>aZ (rd t a) λy=>aG (aA y) (aA e)/\aZ (rd t a) λe=>aG (aA e) (aA k)/\aF (aq b)/\bU (rd t c) λe=>aG (.map e) (.map m)/\aZ (rd t a) λe=>aG (aA e) (aA n)/\aZ (rd t a) λe=>aG (aA e) (aA p)/\aF (aq b)/\bU (rd t c) λe=>aG (.map e) (.map q)/\aY t ((aw r).add 0) (aq u) λe=>aY e ((aw r).add 1) (aq v) λe=>aY e ((aw s).add 0) (aq w) λe=>aY e ((aw s).add 1) (aq x) λe=>F362.wk5 bk2 a c l o b (aw r) (aw s) f d g j i e K)/\bg t (.cells #[aq 0,aq 0] 352) λt w=>aZ (rd w a) λx=>aG (aA x) (aA e)/\aZ (rd w a) λe=>aG (aA e) (aA k)/\aF (aq b)/\bU (rd w c) λe=>aG (.map e) (.map m)/\aZ (rd w a) λe=>aG (aA e) (aA n)/\aZ (rd w a) λe=>aG (aA e) (aA p)/\aF (aq b)/\bU (rd w c) λe=>aG (.map e) (.map q)/\Cl 364 [aA n,aq s,.map q] w λe k=> ∃m:Int,∃n:Int,e=(.agg #[aq m,aq n])/\aY k ((aw r).add 0) (aq u) λe=>aY e ((aw r).add 1) (aq v) λe=>aY e ((aw t).add 0) (aq m) λe=>aY e ((aw t).add 1) (aq n) λe=>F362.wk5 bk2 a c l o b (aw r) (aw t) f d g j i e K)/\bg t (.cells #[aq 0,aq 0] 352) λs t=>aZ (rd t a) λw=>aG (aA w) (aA e)/\aZ (rd t a) λe=>aG (aA e) (aA k)/\aF (aq b)/\bU (rd t c) λe=>aG (.map e) (.map m)/\aZ (rd t a) λe=>aG (aA e) (aA n)/\aZ (rd t a) λe=>aG (aA e) (aA p)/\aF (aq b)/\bU (rd t c) λe=>aG (.map e) (.map q)/\Cl 73 [aA p,aq b] t λe k=>aS .u32 (some e) λe=>aZ (rd k a) λm=>aG (aA m) (aA n)/\bU (rd k c) λm=>aG (.map m) (.map q)/\Cl 364 [aA n,aq e,.map q] k λe k=> ∃m:Int,∃n:Int,e=(.agg #[aq m,aq n])/\aY k ((aw r).add 0) (aq u) λe=>aY e ((aw r).add 1) (aq v) λe=>aY e ((aw s).add 0) (aq m) λe=>aY e ((aw s).add 1) (aq n) λe=>F362.wk5 bk2 a c l o b (aw r) (aw s) f d g j i e K)/\bg t (.cells #[aq 0,aq 0] 352) λt u=>aZ (rd u a) λv=>aG (aA v) (aA e)/\aZ (rd u a) λv=>aG (aA v) (aA k)/\aF (aq b)/\bU (rd u c) λk=>aG (.map k) (.map m)/\aZ (rd u a) λk=>aG (aA k) (aA n)/\aZ (rd u a) λk=>aG (aA k) (aA p)/\aF (aq b)/\bU (rd u c) λk=>aG (.map k) (.map q)/\Cl 364 [aA e,aq s,.map m] u λe k=> ∃m:Int,∃s:Int,e=(.agg #[aq m,aq s])/\aZ (rd k a) λe=>aG (aA e) (aA n)/\aZ (rd k a) λe=>aG (aA e) (aA p)/\aF (aq b)/\bU (rd k c) λe=>aG (.map e) (.map q)/\Cl 73 [aA p,aq b] k λe k=>aS .u32 (some e) λe=>aZ (rd k a) λp=>aG (aA p) (aA n)/\bU (rd k c) λp=>aG (.map p) (.map q)/\Cl 364 [aA n,aq e,.map q] k λe k=> ∃n:Int,∃p:Int,e=(.agg #[aq n,aq p])/\aY k ((aw r).add 0) (aq m) λe=>aY e ((aw r).add 1) (aq s) λe=>aY e ((aw t).add 0) (aq n) λe=>aY e ((aw t).add 1) (aq p) λe=>F362.wk5 bk2 a c l o b (aw r) (aw t) f d g j i e K)/\bg s (.cells #[aq 0,aq 0] 352) λs t=>aZ (rd t a) λu=>aG (aA u) (aA e)/\aZ (rd t a) λu=>aG (aA u) (aA k)/\aF (aq b)/\bU (rd t c) λu=>aG (.map u) (.map m)/\aZ (rd t a) λu=>aG (aA u) (aA n)/\aZ (rd t a) λu=>aG (aA u) (aA p)/\aF (aq b)/\bU (rd t c) λu=>aG (.map u) (.map q)/\Cl 72 [aA k,aq b] t λk t=>aS .u32 (some k) λk=>aZ (rd t a) λu=>aG (aA u) (aA e)/\bU (rd t c) λu=>aG (.map u) (.map m)/\aZ (rd t a) λu=>aG (aA u) (aA n)/\aZ (rd t a) λu=>aG (aA u) (aA p)/\aF (aq b)/\bU (rd t c) λu=>aG (.map u) (.map q)/\Cl 364 [aA e,aq k,.map m] t λe k=> ∃m:Int,∃t:Int,e=(.agg #[aq m,aq t])/\aZ (rd k a) λe=>aG (aA e) (aA n)/\aZ (rd k a) λe=>aG (aA e) (aA p)/\aF (aq b)/\bU (rd k c) λe=>aG (.map e) (.map q)/\Cl 73 [aA p,aq b] k λe k=>aS .u32 (some e) λe=>aZ (rd k a) λp=>aG (aA p) (aA n)/\bU (rd k c) λp=>aG (.map p) (.map q)/\Cl 364 [aA n,aq e,.map q] k λe k=> ∃n:Int,∃p:Int,e=(.agg #[aq n,aq p])/\aY k ((aw r).add 0) (aq m) λe=>aY e ((aw r).add 1) (aq t) λe=>aY e ((aw s).add 0) (aq n) λe=>aY e ((aw s).add 1) (aq p) λe=>F362.wk5 bk2 a c l o b (aw r) (aw s) f d g j i e K)/\bg h (.cells #[aq 0,aq 0] 352) λr s=>aZ (rd s a) λt=>aG (aA t) (aA e)/\aZ (rd s a) λt=>aG (aA t) (aA k)/\aF (aq b)/\bU (rd s c) λt=>aG (.map t) (.map m)/\aZ (rd s a) λt=>aG (aA t) (aA n)/\aZ (rd s a) λt=>aG (aA t) (aA p)/\aF (aq b)/\bU (rd s c) λt=>aG (.map t) (.map q)/\Cl 72 [aA k,aq b] s (λs t=>aS .u32 (some s) λs=>aZ (rd t a) λu=>aG (aA u) (aA e)/\bU (rd t c) λu=>aG (.map u) (.map m)/\aZ (rd t a) λu=>aG (aA u) (aA n)/\aZ (rd t a) λu=>aG (aA u) (aA p)/\aF (aq b)/\bU (rd t c) λu=>aG (.map u) (.map q)/\Cl 364 [aA e,aq s,.map m] t (λs t=> ∃u:Int,∃v:Int,s=(.agg #[aq u,aq v])/\aZ (rd t a) λs=>aG (aA s) (aA n)/\aZ (rd t a) λs=>aG (aA s) (aA p)/\aF (aq b)/\bU (rd t c) λs=>aG (.map s) (.map q)/\Cl 73 [aA p,aq b] t (λs t=>aS .u32 (some s) λs=>aZ (rd t a) λw=>aG (aA w) (aA n)/\bU (rd t c) λw=>aG (.map w) (.map q)/\Cl 364 [aA n,aq s,.map q] t (λs t=> ∃w:Int,∃x:Int,s=(.agg #[aq w,aq x])/\bg t (.cells #[aq 0,aq 0] 352) λs t=>aZ (rd t a) λy=>aG (aA y) (aA e)/\aZ (rd t a) λe=>aG (aA e) (aA k)/\aF (aq b)/\bU (rd t c) λe=>aG (.map e) (.map m)/\aZ (rd t a) λe=>aG (aA e) (aA n)/\aZ (rd t a) λe=>aG (aA e) (aA p)/\aF (aq b)/\bU (rd t c) λe=>aG (.map e) (.map q)/\aY t ((aw s).add 0) (aq u) λe=>aY e ((aw s).add 1) (aq v) λe=>aY e ((aw r).add 0) (aq w) λe=>aY e ((aw r).add 1) (aq x) λe=>F362.wk5 bk2 a c l o b (aw s) (aw r) f d g j i e K)/\bg t (.cells #[aq 0,aq 0] 352) λt w=>aZ (rd w a) λx=>aG (aA x) (aA e)/\aZ (rd w a) λe=>aG (aA e) (aA k)/\aF (aq b)/\bU (rd w c) λe=>aG (.map e) (.map m)/\aZ (rd w a) λe=>aG (aA e) (aA n)/\aZ (rd w a) λe=>aG (aA e) (aA p)/\aF (aq b)/\bU (rd w c) λe=>aG (.map e) (.map q)/\Cl 364 [aA n,aq s,.map q] w λe k=> ∃m:Int,∃n:Int,e=(.agg #[aq m,aq n])/\aY k ((aw t).add 0) (aq u) λe=>aY e ((aw t).add 1) (aq v) λe=>aY e ((aw r).add 0) (aq m) λe=>aY e ((aw r).add 1) (aq n) λe=>F362.wk5 bk2 a c l o b (aw t) (aw r) f d g j i e K)/\bg t (.cells #[aq 0,aq 0] 352) λs t=>aZ (rd t a) λw=>aG (aA w) (aA e)/\aZ (rd t a) λe=>aG (aA e) (aA k)/\aF (aq b)/\bU (rd t c) λe=>aG (.map e) (.map m)/\aZ (rd t a) λe=>aG (aA e) (aA n)/\aZ (rd t a) λe=>aG (aA e) (aA p)/\aF (aq b)/\bU (rd t c) λe=>aG (.map e) (.map q)/\Cl 73 [aA p,aq b] t λe k=>aS .u32 (some e) λe=>aZ (rd k a) λm=>aG (aA m) (aA n)/\bU (rd k c) λm=>aG (.map m) (.map q)/\Cl 364 [aA n,aq e,.map q] k λe k=> ∃m:Int,∃n:Int,e=(.agg #[aq m,aq n])/\aY k ((aw s).add 0) (aq u) λe=>aY e ((aw s).add 1) (aq v) λe=>aY e ((aw r).add 0) (aq m) λe=>aY e ((aw r).add 1) (aq n) λe=>F362.wk5 bk2 a c l o b (aw s) (aw r) f d g j i e K)/\bg t (.cells #[aq 0,aq 0] 352) λt u=>aZ (rd u a) λv=>aG (aA v) (aA e)/\aZ (rd u a) λv=>aG (aA v) (aA k)/\aF (aq b)/\bU (rd u c) λk=>aG (.map k) (.map m)/\aZ (rd u a) λk=>aG (aA k) (aA n)/\aZ (rd u a) λk=>aG (aA k) (aA p)/\aF (aq b)/\bU (rd u c) λk=>aG (.map k) (.map q)/\Cl 364 [aA e,aq s,.map m] u λe k=> ∃m:Int,∃s:Int,e=(.agg #[aq m,aq s])/\aZ (rd k a) λe=>aG (aA e) (aA n)/\aZ (rd k a) λe=>aG (aA e) (aA p)/\aF (aq b)/\bU (rd k c) λe=>aG (.map e) (.map q)/\Cl 73 [aA p,aq b] k λe k=>aS .u32 (some e) λe=>aZ (rd k a) λp=>aG (aA p) (aA n)/\bU (rd k c) λp=>aG (.map p) (.map q)/\Cl 364 [aA n,aq e,.map q] k λe k=> ∃n:Int,∃p:Int,e=(.agg #[aq n,aq p])/\aY k ((aw t).add 0) (aq m) λe=>aY e ((aw t).add 1) (aq s) λe=>aY e ((aw r).add 0) (aq n) λe=>aY e ((aw r).add 1) (aq p) λe=>F362.wk5 bk2 a c l o b (aw t) (aw r) f d g j i e K)/\bg s (.cells #[aq 0,aq 0] 352) λs t=>aZ (rd t a) λu=>aG (aA u) (aA e)/\aZ (rd t a) λu=>aG (aA u) (aA k)/\aF (aq b)/\bU (rd t c) λu=>aG (.map u) (.map m)/\aZ (rd t a) λu=>aG (aA u) (aA n)/\aZ (rd t a) λu=>aG (aA u) (aA p)/\aF (aq b)/\bU (rd t c) λu=>aG (.map u) (.map q)/\Cl 72 [aA k,aq b] t λk t=>aS .u32 (some k) λk=>aZ (rd t a) λu=>aG (aA u) (aA e)/\bU (rd t c) λu=>aG (.map u) (.map m)/\aZ (rd t a) λu=>aG (aA u) (aA n)/\aZ (rd t a) λu=>aG (aA u) (aA p)/\aF (aq b)/\bU (rd t c) λu=>aG (.map u) (.map q)/\Cl 364 [aA e,aq k,.map m] t λe k=> ∃m:Int,∃t:Int,e=(.agg #[aq m,aq t])/\aZ (rd k a) λe=>aG (aA e) (aA n)/\aZ (rd k a) λe=>aG (aA e) (aA p)/\aF (aq b)/\bU (rd k c) λe=>aG (.map e) (.map q)/\Cl 73 [aA p,aq b] k λe k=>aS .u32 (some e) λe=>aZ (rd k a) λp=>aG (aA p) (aA n)/\bU (rd k c) λp=>aG (.map p) (.map q)/\Cl 364 [aA n,aq e,.map q] k λe k=> ∃n:Int,∃p:Int,e=(.agg #[aq n,aq p])/\aY k ((aw s).add 0) (aq m) λe=>aY e ((aw s).add 1) (aq t) λe=>aY e ((aw r).add 0) (aq n) λe=>aY e ((aw r).add 1) (aq p) λe=>F362.wk5 bk2 a c l o b (aw s) (aw r) f d g j i e K
def F362.wk3:Prop:=aX f λb=>0<=i/\i<(d:Int)/\aS .u32 (rd h (b.add (i.toNat*1))) λb=>F362.wk4 bk2 a c l o b f d g j i h K
def F362.sL2:F362.wL2 (n+1) a c l o f d g j i h K=(aJ (i<j) (F362.wk3 (λa b c d e f g i j k=>F362.wL2 n a b c d e f g i j k K) a c l o f d g j i h K) (K aE h)):=by kernel_rfl
def F362.wk2:Prop:=(∃b,F362.wL2 b a c l o f d g j i h K)
def F362.spec(H:aZ (rd h a) λb=>F362.wk2 a c l (.func (.func 363) #[aA b] #[]) u q t (q:Int) 0 h K):Cl 362 [.slice u q t,au a,au c,au l] h K:=cT F362.T Tryz.func362 H
end
def hH.only{B:SB}(Y:hH h s n room B f g M U F Q off T w)(O:aM S h h')(hS: ∀b∈S,b∉B.bm s++B.bt):hH h' s n room B f g M U F Q off T w:=
 ⟨Y.m.only O λb hb hm=>hS b hb (Zp (.inl hm)),Y.t.only O λb hb hm=>hS b hb (Zp (.inr hm)),Y.bn,Y.bs,Y.t5,Y.t7,Y.cap,Y.rm,Y.cnt,Y.fre⟩
def hH.only0(Y:hH h s n room B f g M U F Q off T w)(O:aM [] h h'):hH h' s n room B f g M U F Q off T w:=Y.only O ak
def hH.lt{h:aI}{B:SB}(Y:hH h s n room B f g M U F Q off T w): ∀b∈B.bm s++B.bt,b<h.size:=λb hb=>by
 rcases Zq hb with q|q
 ·exact Y.m.lt b q
 ·exact Y.t.lt b q
def qk.isN(V:qk n k fo N M U)(ha:isN N a):isN M a:=by
 by_cases q:a<2
 ·exact .inl q
 have hn:=fI (n:=n) ha ah;by_cases u:a∈U
 ·exact .inr ⟨_,(V.un a u).trans hn⟩
 by_cases l:k<=lvl n N a
 ·exact qL.isN (V.mid.old a ha l u).1
 ·exact .inr ⟨_,(V.up _ _ (by show lvl n N a<k;omega)).2 hn⟩
def qk.ndok{N M:ay}(V:qk n k fo N M U)(H:cX n N)(hn:n<=8)(lN:N.length<=32768)(lM:M.length<=32768): ∀i x,nd (gN U M) i=some x->kE x:=λi x hx=>by
 have lt: ∀{D:ay} {y},D.length<=32768->Ev.isN D y->y<2^28:=λ{D y} hl h=>by
  rcases h with h|⟨z,h⟩
  ·omega
  ·have:=ko h;omega
 by_cases q:k<=x.1
 ·have hd:=(mH q).1 hx;obtain⟨c1,c2,c3,c4,-,-⟩:=V.mid.ok.node i x hd;exact⟨ah,lt lM (qL.isN c2),lt lM (qL.isN c3),c4⟩
 ·rw[gF]at hx;split at hx
  ·cases hx
  obtain⟨c1,c2,c3,c4,-,-⟩:=H.node i x ((V.up i x ah).1 hx);exact⟨ah,lt lN c2,lt lN c3,c4⟩
def uO(Y:hH h s n room B f g M U F Q off T w)(V:qk n k fo N M U)(Mp:bV h wb .u32 mo)(Om:uh mo (cQ N (k+1)))(hk:k+1<n)(ha:isN N a)
  (hK: ∀h',aM [] h h'->K (.agg #[aq ((part n k N a).1:Int),aq ((part n k N a).2:Int)]) h'):Cl 364 [bf s,aq (a:Int),.map (some wb)] h K:=by
 refine F364.spec _ _ _ h K ?_;refine aW λh1 A1 O1 z1=> ?_;have iM:=V.isN ha
 have st: ∀(h2:aI) (u v:Nat) (K':aI->Prop),At h2 h.size [aq 0,aq 0]->(∀h3,aM [h.size] h2 h3->At h3 h.size [aq (u:Int),aq (v:Int)]->K' h3)->
   aY h2 (Addr.add (aw h.size) 0) (aq (u:Int)) (λh3=>aY h3 (Addr.add (aw h.size) 1) (aq (v:Int)) K'):=λh2 u v K' A i=>by
  simp only[aL,LX];refine aU A ak rfl λh3 A3 O3 z3=>aU A3 ak rfl λh4 A4 O4 z4=>i h4 (O3.trans O4 λy hy _=>hy) A4
 have rest: ∀o3:Option (Nat×Value),o3.isSome=decide (a∈cQ N (k+1))->kU (.agg #[]) o3= .agg #[]->jX (some (kU (.agg #[]) o3)) (λv4=>bg h1 (.cells #[] 218) (λb5 h6=>du Tryz.prog 218 (some (aw b5)) v4 h6 (λh7=>aJ (!(Option.isSome o3)) (aY h7 (Addr.add (aw h.size) 0) (aq (a:Int)) (λh8=>aY h8 (Addr.add (aw h.size) 1) (aq (a:Int)) (λh9=>aS .u32 (rd h9 (Addr.add (aw h.size) 0)) (λo=>aS .u32 (rd h9 (Addr.add (aw h.size) 1)) (λC=>K (.agg #[(aq o),(aq C)]) h9))))) (Cl 72 [(au (aw s)),(aq (a:Int))] h7 (λc d=>aS .u32 (some c) (λl=>Cl 73 [(au (aw s)),(aq (a:Int))] d (λG t=>aS .u32 (some G) (λI=>aY t (Addr.add (aw h.size) 0) (aq l) (λz=>aY z (Addr.add (aw h.size) 1) (aq I) (λb=>aS .u32 (rd b (Addr.add (aw h.size) 0)) (λD=>aS .u32 (rd b (Addr.add (aw h.size) 1)) (λH=>K (.agg #[(aq D),(aq H)]) b)))))))))))):=λo3 e1 e2=>by
  rw[e2];refine⟨_,rfl,aW λh2 A2 O2 z2=>je ?_⟩;have A3:=A1.only O2 ak;have O02:=O1.trans O2 ak;have Y2:=Y.only0 O02;rw[e1];by_cases q:a∈cQ N (k+1)
  ·rw[Mg q,MF,aK];obtain⟨a2,x,hx,ex⟩:=iT.1 q;have la:lvl n N a=k+1:=by unfold lvl;rw[LY ah,hx];exact ex
   have hm:=V.lw a a2 ha la;obtain⟨-,-,lw,hg⟩:=eQ (n:=n) hm;rw[show a-2+2=a by omega]at lw hg;refine Bn Y2.m iM (aH rfl (vm Y2.m iM (aH rfl ?_)));rw[lw,hg];refine st h2 _ _ _ A3 λh4 O4 A4=> ?_;simp only[aL,LX];refine aH (by rw[At.rd A4];rfl) (aH (by rw[At.rd A4];rfl) ?_);have:=hK h4 (O02.trans O4 λy hy hl=>by simp at hy;omega);unfold part at this;rw[L4 la]at this;exact this
  ·rw[L7 q,MS,aO]
   have la: ¬lvl n N a=k+1:=λe=>by
    have a2:2<=a:=by
     apply Mi;intro w;have:lvl n N a=n:=by unfold lvl;rw[L4 ah]
     omega
    exact q (iT.2 ⟨a2,_,fI (n:=n) ha a2,e⟩)
   refine st h2 _ _ _ A3 λh4 O4 A4=> ?_;simp only[aL,LX];refine aH (by rw[At.rd A4];rfl) (aH (by rw[At.rd A4];rfl) ?_);have:=hK h4 (O02.trans O4 λy hy hl=>by simp at hy;omega);unfold part at this;rw[LY la]at this;exact this
 refine dg (m:=mo) (Mp.only O1 ak) (λhn=> ?_) λj v hv=> ?_
 ·have:a∉cQ N (k+1):=λhm=>by
   rw[(Om a).1 hm]at hn;cases hn
  exact rest none (by rw[L7 this];rfl) rfl
 ·have:a∈cQ N (k+1):=Mi λhm=>by
   rw[(Om a).2 hm]at hv;cases hv
  rw[(Om a).1 this]at hv;injection hv with hv;subst hv;exact rest (some (j,.agg #[])) (by rw[Mg this];rfl) rfl
def xd{h:aI}{s n room k T w:Nat}{B:SB}{f g fo:Nat->Nat}{N M:ay}{U F:List Nat}{Q:Int->Int->Prop}{off:Bool}{K:KK}{a0 a1 b0 b1 i:Nat}(Y:hH h s n room B f g M U F Q off T (w+1))(V:qk n k fo N M U)(H:cX n N)(lN:N.length<=32768)(hk:k+1<n)(hi:i<2){a b:Nat}(ea:a=if i=0 then a0 else a1)(eb:b=if i=0 then b0 else b1)
  (ha:isN N a) (la:k+1<lvl n N a) (hb:isN N b) (lb:k+1<lvl n N b)
  (hK: ∀h' B' M' F' r,hH h' s n room B' f g M' U F' Q off T w->qk n k fo N M' U->Ex (dn k U M) (dn k U M')->Ev.isN (dn k U M') r->k+1<=lvl n (dn k U M') r->(∀x,sm n (sw k fo) (dn k U M') r x=if x.testBit (fo k)then sm n fo N b x else sm n fo N a x)->
   aM (B.bm s++B.bt) h h'->bC (B.bm s++B.bt) (B'.bm s++B'.bt) h->K (aq (r:Int)) h'):
  Cl 365 [bf s,ap (k:Int),.agg #[aq (a0:Int),aq (a1:Int)],.agg #[aq (b0:Int),aq (b1:Int)],ap (i:Int)] h K:=by
 have n8:=Y.m.n8.2;have lM:=Y.m.len;have cap:=Y.cap;have rm:=Y.rm;refine F365.spec ?_;refine aW λh1 A1 O1 z1=>aW λh2 A2 O2 z2=> ?_;have A12:=A1.only O2 ak;have O02:=O1.trans O2 ak;have Y2:=Y.only0 O02;simp only[aL,LX,MU,Md];refine⟨ah,ah,aH (n:=(a:Int)) ?_ ⟨ah,ah,aH (n:=(b:Int)) ?_ ?_⟩⟩
 ·rw[At.rd A12,ea];have:i=0\/i=1:=ah;rcases this with e|e<;>subst e<;>rfl
 ·rw[At.rd A2,eb];have:i=0\/i=1:=ah;rcases this with e|e<;>subst e<;>rfl
 rw[show((1:Int))=((1:Nat):Int)from rfl,pK (k:=k) ah ah]
 have d: ∀{c},Ev.isN N c->k+1<lvl n N c->k+1<lvl n M c:=λ{c} hc hl=>by
  have nU:c∉U:=λhm=>by have:=(V.mid.un _ hm).2.2.2.1;omega
  obtain⟨d1,-⟩:=V.mid.old c hc ah nU;rw[qL.lvl d1,V.mid.deep c hc hl];exact hl
 refine Lo Y2.m Y2.t Y2.bn Y2.bs Y2.t5 Y2.t7 Y2.cnt Y2.fre (V.ndok H n8 lN ah) hk (V.isN ha) (V.isN hb) (d ha la) (d hb lb) (.inl ah) (λc hc=> ?_) λh3 B3 M3 F3 r e T3 R m3 t3 eT _ k5 k7 n3 s3 c3 f3 O3 fr=> ?_
 ·obtain⟨u1,-,u3,-⟩:=V.mid.un c hc;refine⟨u1,?_⟩;rw[V.un c hc,fI (n:=n) u3 u1];simp
 have eT:=eT ah;subst eT
 have key:HE U M (k+1) a b M3 r/\bi M3<=bi M+1:=by
  rcases R with⟨r1,r2,-,r3⟩|⟨r0,j,r1,r2,-,r3⟩|⟨-,-,r1,-⟩|⟨r0,r1,-,-,q,r2,P⟩
  ·subst r2 r3;exact⟨.same r1,ah⟩
  ·subst r2 r3;exact⟨.found j r0 r1,ah⟩
  ·omega
  ·subst r2;exact⟨.made M3 q r0 r1 P,by rw[P.cnt];omega⟩
 obtain⟨V3,E3,i3,l3,l⟩:=V.made hk ha la hb lb key.1;refine⟨_,_,rfl,?_⟩;have z:=O02.size;exact hK h3 B3 M3 F3 r ⟨m3,t3,n3,s3,k5,k7,by have:=key.2;omega,by have:=key.2;omega,c3,f3⟩ V3 E3 i3 l3 l ((O02.mono ak).trans O3 λy hy _=>hy) λy hy=>(fr y hy).imp id λq=>ah
def vJ{B:SB}{M:ay}(Y:hH h s n room B f g M (c::U) F Q off T w)(hc:nd M (c-2)=some y)(c2:2<=c)(hx:kE (k,x0,x1))(u:rC (gN (c::U) M) (kf (k,x0,x1)))(cU:c∉U)
  (hK: ∀h',hH h' s n room B f g (M.set (c-2) (some (k,x0,x1))) U F Q off T w->aM (B.bm s++B.bt) h h'->K aE h'):
  Cl 363 [bf s,aq (c:Int),ap (k:Int),aq (x0:Int),aq (x1:Int)] h K:=by
 have lM:=Y.m.len;have lt:=ko hc;have cap:=Y.cap;refine F363.spec ?_;refine ux Y.m ah (λw=>Mw hc (w y c2)) λb0 y' eb _ hy rr=>aQ rfl ?_;rw[hc]at hy;injection hy with hy;subst hy;rw[aT];simp only[aL,Ma];obtain⟨y1,y2,y3⟩:=y;refine Y.m.st (x':=(k,y2,y3)) hc eb ah rfl rfl λh1 m1 O1=> ?_;rw[aT];have A:nd (M.set (c-2) (some (k,y2,y3))) (c-2)=some (k,y2,y3):=by rw[fq lt,L4 rfl]
 refine m1.st (x':=(k,x0,y3)) A eb ah rfl rfl λh2 m2 O2=> ?_;rw[List.set_set]at m2;rw[aT];have D:nd (M.set (c-2) (some (k,x0,y3))) (c-2)=some (k,x0,y3):=by rw[fq lt,L4 rfl]
 refine m2.st (x':=(k,x0,x1)) D eb ah rfl rfl λh3 m3 O3=> ?_;rw[List.set_set]at m3;have C:nd (M.set (c-2) (some (k,x0,x1))) (c-2)=some (k,x0,x1):=by rw[fq lt,L4 rfl]
 have O03:aM [b0] h h3:=(O1.trans O2 λy hy _=>hy).trans O3 λy hy _=>hy;obtain⟨b3,d,r3⟩:=m3.cells (i:=c-2) (dk.1 C);rw[eb]at d;injection d with d;injection d with d;subst d;rw[aT];simp only[aL];refine a8 (n:=true) (by rw[r3 0 ah];rfl) (aH (n:=(k:Int)) (by rw[r3 1 ah];rfl) (aH (n:=(x0:Int)) (by rw[r3 2 ah];rfl) (aH (n:=(x1:Int)) (by rw[r3 3 ah];rfl) ?_)));have v:=Y.m.pb eb
 have T3:=Y.t.only O03 λb hb hm=>by simp only[LZ]at hb;subst hb;exact Y.bs b hm v
 have bl:=T3.lt;obtain⟨cs,mm,ops,fails,t1,t2,t3,L⟩:=T3;have nn:=Y.bn;simp only[SB.bt,MO,List.mem_cons,MR,Nk,NU,PA,OU,not_false_eq_true]at nn;have sp:s∉B.bt:=λhm=>Y.bs s hm (by simp[SB.bm]);simp only[SB.bt,List.mem_cons,MR,Nk,NU]at sp;have S3:=m3.S;have t7:=Y.t7
 have er:bi (gN (c::U) M)<=bi M:=vK λi x hx=>by
  rw[gF]at hx;split at hx
  ·cases hx
  ·exact hx
 have hq:nd (gN (c::U) M) (c-2)=none:=by rw[gF,L4 (by simp;omega)]
 have o: ∀i,nd (gN U (M.set (c-2) (some (k,x0,x1)))) i=if i=c-2 then some (k,x0,x1)else nd (gN (c::U) M) i:=λi=>by
  rw[gF,gF,fq lt];by_cases e:i=c-2
  ·rw[L4 e,L4 e,LY];rw[e,show c-2+2=c by omega];exact cU
  ·rw[LY e,LY e];have:i+2≠c:=ah;simp[this]
 have cs':(c:Int)=((c-2+2:Nat):Int):=by rw[show c-2+2=c by omega]
 rw[cs']
 refine vV S3 (t:=B.tb) (m:=B.m) (mc:=B.mc) (sb:=B.sb) (T:=T) (x:=(k,x0,x1)) (q:=c-2) (N':=gN U (M.set (c-2) (some (k,x0,x1)))) rfl rfl (by simp;omega) t1 t2 t3 ah (by simp;omega) ah ah (bl _ (by simp[SB.bt])) (bl _ (by simp[SB.bt])) (bl _ (by simp[SB.bt]))
  L hx u ah hq o (xA hq o) λh6 cs' z l j A6 T6 M6 Mp6 L6 O6=>⟨rfl,?_⟩
 have Hm6:=m3.only O6 λy hy hm=>Y.bs y (by simp[SB.bt]at hy ⊢;omega) hm;have cM:bi (M.set (c-2) (some (k,x0,x1)))=bi M:=rK (dk.1 hc);refine hK h6 ⟨Hm6,⟨cs',z,l,j,T6,M6,Mp6,L6⟩,Y.bn,Y.bs,Y.t5,Y.t7,by rw[cM];exact Y.cap,by rw[cM];exact Y.rm,by rw[cM,No];exact Y.cnt,Y.fre.1,λa ha=> ?_⟩ ((O03.mono λy hy _=> ?_).trans O6 λy hy _=> ?_)
 ·obtain⟨f1,f2,f3⟩:=Y.fre.2 a ha;refine⟨f1,by rw[No];exact f2,?_⟩;rw[fq lt,LY]
  ·exact f3
  ·intro e;rw[e,hc]at f3;cases f3
 ·simp only[LZ]at hy;subst hy;exact Zp (.inl v)
 ·simp only[List.mem_append,SB.bt];simp at hy ⊢;omega
def IH:bR X 363=some cH.go:=by kernel_rfl
structure Cx(h:aI)(s k x1 x2 x3 wb:Nat)(mo:List (Int×Value)):Prop where
 a1:At h x1 [bf s]
 a2:At h x2 [.map (some wb)]
 a3:At h x3 [ap (k:Int)]
 mp:bV h wb .u32 mo
structure Za(h0 h:aI)(Bs:List Nat):Prop where
 O:aM [] h0 h
 A: ∀b∈Bs,At h b [aq 0,aq 0]/\h0.size<=b
 nd:Bs.Nodup
def Cx.only(C:Cx h s k x1 x2 x3 wb mo)(O:aM S h h')(hS:x1∉S/\x2∉S/\x3∉S/\wb∉S):Cx h' s k x1 x2 x3 wb mo:=
 ⟨C.a1.only O hS.1,C.a2.only O hS.2.1,C.a3.only O hS.2.2.1,C.mp.only O hS.2.2.2⟩
def Cx.lt{h:aI}(C:Cx h s k x1 x2 x3 wb mo):x1<h.size/\x2<h.size/\x3<h.size/\wb<h.size:=⟨C.a1.lt,C.a2.lt,C.a3.lt,C.mp.lt⟩
def Za.only(Z:Za h0 h Bs)(O:aM [] h h'):Za h0 h' Bs:=⟨Z.O.trans O ak,λb hb=>⟨(Z.A b hb).1.only O ak,(Z.A b hb).2⟩,Z.nd⟩
def Za.new{h:aI}(Z:Za h0 h Bs)(hK: ∀h',Za h0 h' (h.size::Bs)->K h.size h'):bg h (.cells #[aq (0:Int),aq (0:Int)] 352) K:=by
 refine aW λh1 A1 O1 z1=>hK h1 ⟨Z.O.trans O1 ak,λb hb=> ?_,MO.2 ⟨λhm=> ?_,Z.nd⟩⟩
 ·rcases List.mem_cons.1 hb with e|hb
  ·subst e;exact⟨A1,Z.O.size⟩
  ·exact⟨(Z.A b hb).1.only O1 ak,(Z.A b hb).2⟩
 ·have:=(Z.A _ hm).1.lt;omega
def Za.fin{h0:aI}(Z:Za h0 h Bs)(ha:a∈Bs)(hb:b∈Bs)(ne:a≠b)(hK: ∀h',aM [] h0 h'->At h' a [aq (u0:Int),aq (u1:Int)]->At h' b [aq (v0:Int),aq (v1:Int)]->h0.size<=a->h0.size<=b->K h'):
  aY h (Addr.add (aw a) 0) (aq (u0:Int)) λh1=>aY h1 (Addr.add (aw a) 1) (aq (u1:Int)) λh2=>aY h2 (Addr.add (aw b) 0) (aq (v0:Int)) λh3=>aY h3 (Addr.add (aw b) 1) (aq (v1:Int)) K:=by
 obtain⟨A,la⟩:=Z.A a ha;obtain⟨A',lb⟩:=Z.A b hb;simp only[aL,LX];have n1:a∉[b]:=by simpa using ne
 have n2:b∉[a]:=by simpa using λe=>ne e.symm
 have zz:=Z.O.size;refine aU A ak rfl λk1 A1 O1 z1=>aU A1 ak rfl λk2 A2 O2 z2=>aU ((A'.only O1 n2).only O2 n2) ak rfl λk3 A3 O3 z3=>aU A3 ak rfl λk4 A4 O4 z4=> ?_;refine hK k4 ((((Z.O.trans O1 λy hy hl=>by simp at hy;omega).trans O2 λy hy hl=>by simp at hy;omega).trans O3 λy hy hl=>by simp at hy;omega).trans O4 λy hy hl=>by simp at hy;omega) ((A2.only O3 n1).only O4 n1) A4 la lb
set_option maxHeartbeats 1000000 in
def Di{h:aI}(Y:hH h s n room B f g M U F Q off T w)(V:qk n k fo N M U)(C:Cx h s k x1 x2 x3 wb mo)(Om:uh mo (cQ N (k+1)))(H:cX n N)(hk:k+1<n)(hc:c∈U)
  (hK: ∀h' x8 x9,aM [] h h'->At h' x8 [aq ((part n k N (low N c)).1:Int),aq ((part n k N (low N c)).2:Int)]->At h' x9 [aq ((part n k N (high N c)).1:Int),aq ((part n k N (high N c)).2:Int)]->h.size<=x8->h.size<=x9->
   F362.wk5 bk2 (aw x1) (aw x2) (aw x3) x5 (c:Int) (aw x8) (aw x9) p l cc x13 x14 h' K):
  F362.wk4 bk2 (aw x1) (aw x2) (aw x3) x5 (c:Int) p l cc x13 x14 h K:=by
 obtain⟨c2,-,ci,cl,-⟩:=V.mid.un c hc;obtain⟨-,h4,h5,-,-,-⟩:=H.at ci c2;have hm:=(V.un c hc).trans (fI (n:=n) ci c2);obtain⟨iM,-,lw,hg⟩:=eQ (n:=n) hm;rw[show c-2+2=c by omega]at iM lw hg;have zP: ∀{hX Bs},Za h hX Bs->rd hX (aw x1)=some (au (aw s)):=λZ=>by rw[At.rd (C.a1.only Z.O ak)];rfl
 have zM: ∀{hX Bs},Za h hX Bs->rd hX (aw x2)=some (.map (some wb)):=λZ=>by rw[At.rd (C.a2.only Z.O ak)];rfl
 have i: ∀{hX Bs} {K':KK},Za h hX Bs->K' (aq (low N c:Int)) hX->Cl 72 [au (aw s),aq (c:Int)] hX K':=λZ a=>Bn (Y.only0 Z.O).m iM (by rw[lw];exact a);have b: ∀{hX Bs} {K':KK},Za h hX Bs->K' (aq (high N c:Int)) hX->Cl 73 [au (aw s),aq (c:Int)] hX K':=λZ a=>vm (Y.only0 Z.O).m iM (by rw[hg];exact a)
 have o: ∀{hX Bs} {K':KK},Za h hX Bs->(∀h',Za h h' Bs->K' (.agg #[aq ((part n k N (low N c)).1:Int),aq ((part n k N (low N c)).2:Int)]) h')->Cl 364 [au (aw s),aq (low N c:Int),.map (some wb)] hX K':=λZ a=>
  uO (Y.only0 Z.O) V (C.mp.only Z.O ak) Om hk h4 λh' O'=>a h' (Z.only O')
 have q: ∀{hX Bs} {K':KK},Za h hX Bs->(∀h',Za h h' Bs->K' (.agg #[aq ((part n k N (high N c)).1:Int),aq ((part n k N (high N c)).2:Int)]) h')->Cl 364 [au (aw s),aq (high N c:Int),.map (some wb)] hX K':=λZ a=>
  uO (Y.only0 Z.O) V (C.mp.only Z.O ak) Om hk h5 λh' O'=>a h' (Z.only O')
 have t: ∀{hX x y},Za h hX [y,x]->aY hX (Addr.add (aw x) 0) (aq ((part n k N (low N c)).1:Int)) λh1=>aY h1 (Addr.add (aw x) 1) (aq ((part n k N (low N c)).2:Int)) λh2=>aY h2 (Addr.add (aw y) 0) (aq ((part n k N (high N c)).1:Int)) λh3=>aY h3 (Addr.add (aw y) 1) (aq ((part n k N (high N c)).2:Int)) λd=>F362.wk5 bk2 (aw x1) (aw x2) (aw x3) x5 (c:Int) (aw x) (aw y) p l cc x13 x14 d K:=λ{hX x y} Z=>
  Z.fin ak ak (λe=>by have:=Z.nd;simp at this;exact this e.symm) λh' O' A A' la lb=>hK h' x y O' A A' la lb
 have j: ∀{hX x y},Za h hX [y,x]->aY hX (Addr.add (aw y) 0) (aq ((part n k N (low N c)).1:Int)) λh1=>aY h1 (Addr.add (aw y) 1) (aq ((part n k N (low N c)).2:Int)) λh2=>aY h2 (Addr.add (aw x) 0) (aq ((part n k N (high N c)).1:Int)) λh3=>aY h3 (Addr.add (aw x) 1) (aq ((part n k N (high N c)).2:Int)) λd=>F362.wk5 bk2 (aw x1) (aw x2) (aw x3) x5 (c:Int) (aw y) (aw x) p l cc x13 x14 d K:=λ{hX x y} Z=>
  Z.fin ak ak (λe=>by have:=Z.nd;simp at this;exact this e) λh' O' A A' la lb=>hK h' y x O' A A' la lb
 have Z0:Za h h []:=⟨aM.refl _ _,ak,ak⟩;clear hK;unfold F362.wk4
 repeat' first
  |exact t (by assumption)
  |exact j (by assumption)
  |refine aQ (zP (by assumption)) ?_
  |refine⟨_,zM (by assumption),?_⟩
  |refine i (by assumption) ?_
  |refine b (by assumption) ?_
  |refine o (by assumption) λhX ZX=> ?_
  |refine q (by assumption) λhX ZX=> ?_
  |refine Za.new (by assumption) λhX ZX=> ?_
  |refine aH rfl ?_
  |refine⟨_,_,rfl,?_⟩
  |refine⟨rfl,?_⟩
  |refine⟨?_,?_⟩
def Hb:bR X 362=some cH.go:=by kernel_rfl
def Gv(s:Nat):Value:= .func (.func 363) #[au (aw s)] #[]
def Dm{B:SB}{N:ay}(Y:hH h s n room B f g M (c::U) F Q off T (w+2))(V:qk n k fo N M (c::U))(C:Cx h s k x1 x2 x3 wb mo)(H:cX n N)(P:cu n fo gg)(lN:N.length<=32768)(hk:k+1<n)
  (A8:At h x8 [aq ((part n k N (low N c)).1:Int),aq ((part n k N (low N c)).2:Int)]) (A9:At h x9 [aq ((part n k N (high N c)).1:Int),aq ((part n k N (high N c)).2:Int)]) (D: ∀y∈[x1,x2,x3,wb,x8,x9],y∉B.bm s++B.bt)
  (hK: ∀h' B' M' F',hH h' s n room B' f g M' U F' Q off T w->qk n k fo N M' U->aM (B.bm s++B.bt) h h'->bC (B.bm s++B.bt) (B'.bm s++B'.bt) h->bk2 (aw x1) (aw x2) (aw x3) (Gv s) p l cc x13 (ax (x14+(1:Int))) h'):
  F362.wk5 bk2 (aw x1) (aw x2) (aw x3) (Gv s) (c:Int) (aw x8) (aw x9) p l cc x13 x14 h K:=by
 have n8:=Y.m.n8.2;obtain⟨c2,-,ci,cl,-⟩:=V.mid.un c ak;obtain⟨-,h4,h5,-,h6,h7⟩:=H.at ci c2;rw[cl]at h6 h7;obtain⟨⟨a1,a2⟩,⟨a3,a4⟩,a5⟩:=om (fo:=fo) H h4 h6 hk;obtain⟨⟨b1,b2⟩,⟨b3,b4⟩,b5⟩:=om (fo:=fo) H h5 h7 hk;have o:=C.lt;have t:=A8.lt;have j:=A9.lt;unfold F362.wk5;simp only[aL,LX];have r1: ∀{hX},At hX x1 [bf s]->rd hX (aw x1)=some (au (aw s)):=λA=>by rw[At.rd A];rfl
 have r3: ∀{hX},At hX x3 [ap (k:Int)]->rd hX (aw x3)=some (ap (k:Int)):=λA=>by rw[At.rd A];rfl
 have r0: ∀{hX y u v},At hX y [aq u,aq v]->rd hX (aw y)=some (aq u)/\rd hX ⟨y,1,none⟩=some (aq v):=λA=>⟨by rw[At.rd A];rfl,by rw[At.rd A];rfl⟩;refine aH (r3 C.a3) (aQ (r1 C.a1) (aH (r3 C.a3) (aH (r0 A8).1 (aH (r0 A8).2 (aH (r0 A9).1 (aH (r0 A9).2 (aQ (r1 C.a1) (aH (r3 C.a3) (aH (r0 A8).1 (aH (r0 A8).2 (aH (r0 A9).1 (aH (r0 A9).2 ?_))))))))))));have Y':hH h s n room B f g M (c::U) F Q off T ((w+1)+1):=Y;refine xd (i:=0) Y' V H lN hk ah (L4 rfl).symm (L4 rfl).symm a1 a2 b1 b2 λk1 B1 M1 F1 q0 Y1 V1 E1 i0 l0 s0 O1 Fr1=>aH rfl ⟨by trivial,by trivial,?_⟩;have S1: ∀{S},S=B.bm s++B.bt->x1∉S/\x2∉S/\x3∉S/\wb∉S:=λe=>by subst e;exact⟨D _ ak,D _ ak,D _ ak,D _ ak⟩
 have C1:=C.only O1 (S1 rfl);have A81:=A8.only O1 (D _ ak);have A91:=A9.only O1 (D _ ak)
 have D1: ∀y∈[x1,x2,x3,wb,x8,x9],y∉B1.bm s++B1.bt:=λy hy hm=>by
  rcases Fr1 y hm with q|q
  ·exact D y hy q
  ·simp at hy;omega
 refine aH (r3 C1.a3) ⟨rfl,aQ (r1 C1.a1) ⟨rfl,aH (r3 C1.a3) ⟨rfl,aH (r0 A81).1 (aH (r0 A81).2 ⟨rfl,aH (r0 A91).1 (aH (r0 A91).2 ⟨rfl,?_⟩)⟩)⟩⟩⟩;refine xd (i:=1) Y1 V1 H lN hk ah (LY ah).symm (LY ah).symm a3 a4 b3 b4 λk2 B2 M2 F2 q1 Y2 V2 E2 i1 l1 s1 O2 Fr2=>aH rfl ⟨by trivial,by trivial,?_⟩;have C2:=C1.only O2 ⟨D1 _ ak,D1 _ ak,D1 _ ak,D1 _ ak⟩;refine aH (r3 C2.a3) ⟨rfl,bj IH ?_⟩;have a:=E2.isN i0;have b:k+1<=lvl n (dn k (c::U) M2) q0:=by rw[E2.lvl i0];exact l0
 obtain⟨ne,no,V3⟩:=V2.put H P n8 hk a b (λx=>by rw[E2.sm V1.mid.ok i0];exact s0 x) i1 l1 s1;have hm:=(V2.un c ak).trans (fI (n:=n) ci c2);have d:=Y2.m.len
 have HI: ∀{q},isN (dn k (c::U) M2) q->q<2^28:=λ{q} hq=>by
  rcases(qL (k:=k) (U:=c::U)).isN hq with z|⟨z,hz⟩
  ·omega
  ·have:=ko hz;omega
 have nk:kE (k,q0,q1):=⟨by show k<256;omega,HI a,HI i1,ne⟩;refine vJ Y2 hm c2 nk (λi x hx e=> ?_) (MO.1 V2.nod).1 λh3 Y3 O3=>⟨rfl,?_⟩
 ·have:=wG (V2.ndok H n8 lN ah i x hx) nk e;subst this;exact no i hx
 have O12:=O1.app O2 Fr1;have F12:=Fr1.trans Fr2 O1.size;exact hK h3 B2 _ F2 Y3 V3 (O12.app O3 F12) F12
def Dh{N:ay}{U0:List Nat}: ∀(d t:Nat) {h:aI} {B:SB} {M:ay} {F:List Nat},t+d=U0.length->hH h s n room B f g M (U0.drop t) F Q off T (2*d)->qk n k fo N M (U0.drop t)->Cx h s k x1 x2 x3 wb mo->uh mo (cQ N (k+1))->cX n N->cu n fo gg->N.length<=32768->k+1<n->
  cy h lo 1 p U0.length cc (U0.map hv)->(∀y∈[x1,x2,x3,wb]++aV p,y∉B.bm s++B.bt)->U0.length<=40000->
  (∀h' B' M' F',hH h' s n room B' f g M' [] F' Q off T 0->qk n k fo N M' []->aM (B.bm s++B.bt) h h'->bC (B.bm s++B.bt) (B'.bm s++B'.bt) h->K aE h')->
  F362.wL2 (d+1) (aw x1) (aw x2) (aw x3) (Gv s) p U0.length cc (U0.length:Int) (t:Int) h K:=by
 intro d
 induction d with
 |zero=>
  intro t h B M F ht Y V C Om H P lN hk Ow D hl hK;rw[F362.sL2];rw[L7 ah,aK];have e:U0.drop t=[]:=Oh ah;rw[e]at Y V;exact hK h B M F Y V (aM.refl _ _) (bC.refl _ _)
 |succ d ih=>
  intro t h B M F ht Y V C Om H P lN hk Ow D hl hK;have j:t<U0.length:=ah;have e:U0.drop t=U0[t]::U0.drop (t+1):=Pb j;obtain⟨c,ec⟩: ∃c,c=U0[t]:=⟨_,rfl⟩;rw[<-ec]at e;rw[e]at Y V;obtain⟨b,eb,rb⟩:=Ow.elem (i:=t) (a:=c) (by rw[ec];exact Mj j);rw[F362.sL2];rw[Mg ah,aO];unfold F362.wk3
  try dsimp only
  rw[eb,aT,<-eb];refine⟨ah,ah,?_⟩;simp only[aL,LX,MU,Md];refine aH (n:=(c:Int)) rb ?_;have lt:=C.lt;refine Di Y V C Om H hk ak λh1 x8 x9 O1 A8 A9 l8 l9=> ?_;have m:=Y.lt;have Y1:=Y.only0 O1;have C1:=C.only O1 ak;have Y1':hH h1 s n room B f g M (c::U0.drop (t+1)) F Q off T (2*d+2):=Y1;refine Dm Y1' V C1 H P lN hk A8 A9 (λy hy hm=> ?_) λh2 B2 M2 F2 Y2 V2 O2 Fr2=> ?_
  ·have:=m y hm;simp only[List.mem_cons,MR,Nk]at hy;rcases hy with q|q|q|q|q|q
   ·exact D y (by simp[q]) hm
   ·exact D y (by simp[q]) hm
   ·exact D y (by simp[q]) hm
   ·exact D y (by simp[q]) hm
   ·omega
   ·omega
  rw[show ax ((t:Int)+(1:Int))=((t+1:Nat):Int) by rw[wrap_i64 ah ah];omega];have z1:=O1.size;have D4:x1∉B.bm s++B.bt/\x2∉B.bm s++B.bt/\x3∉B.bm s++B.bt/\wb∉B.bm s++B.bt:=⟨D _ ak,D _ ak,D _ ak,D _ ak⟩;refine ih (t+1) ah Y2 V2 (C1.only O2 D4) Om H P lN hk ((Ow.only O1 ak).only O2 λb' e'=>D b' (by rw[e'];simp[aV])) (λy hy hm=> ?_) hl λh3 B3 M3 F3 Y3 V3 O3 Fr3=>hK h3 B3 M3 F3 Y3 V3 ?_ ?_
  ·rcases Fr2 y hm with q|q
   ·exact D y hy q
   ·have:y<h.size:=by
     rcases Zq hy with w|w
     ·simp at w;omega
     ·exact(Ow.lt y w).2
    omega
  ·exact((O1.mono ak).trans O2 λy hy _=>hy).app O3 λy hy=>(Fr2 y hy).imp id λq=>ah
  ·have fr:bC (B.bm s++B.bt) (B2.bm s++B2.bt) h:=λy hy=>(Fr2 y hy).imp id λq=>ah;have O02:aM (B.bm s++B.bt) h h2:=(O1.mono ak).trans O2 λy hy _=>hy;exact fr.trans Fr3 O02.size
def Er{Y:SX}(S:bT h s L Y)(hk:k+1<Y.n)(P:cu Y.n Y.f Y.g)(hF: ∀h',aM [] h h'->K (ap 60) h')
  (hK: ∀h' L' N',(∀a,isN Y.N a->isN N' a/\ ∀x,sm Y.n (sw k Y.f) N' a x=sm Y.n Y.f Y.N a x)->bT h' s L' {Y with f:=sw k Y.f,g:=tk k Y.f Y.g,N:=N'}->aM L h h'->bC L L' h->K (ap 0) h'):
  Cl 342 [bf s,ap (k:Int)] h K:=by
 have S0:=S;obtain⟨B,F,eL,H⟩:=S;subst eL;have n8:=H.m.n8.2;have J:=H.m.len;have cl:=ov Y.N;have o: ∀l,(cQ Y.N l).length<=Y.N.length:=λl=>iV;refine F342.spec _ _ h K ?_;refine aW λh1 A1 O1 z1=>aW λh2 A2 O2 z2=> ?_;have O02:=O1.trans O2 ak;have H2:=S0.only0 O02;have A12:=A1.only O2 ak;have rs: ∀{hX},At hX h.size [bf s]->rd hX (aw h.size)=some (bf s):=λA=>by rw[At.rd A];rfl
 have rk: ∀{hX},At hX h1.size [ap (k:Int)]->rd hX (aw h1.size)=some (ap (k:Int)):=λA=>by rw[At.rd A];rfl
 refine aH (rk A2) ?_;rw[L7 ah,aK];refine aH (rk A2) (aQ (rs A12) (dX H2 (aH rfl (aH (rk A2) ⟨rfl,?_⟩))));rw[show ax ((Y.n:Int)-1)=(Y.n:Int)-1 from wrap_i64 ah ah,L7 ah,aK];refine aQ (rs A12) (aH (rk A2) (aQ (rs A12) (aQ (rs A12) ?_)));refine F359.spec ?_;have m2:=H.m.only O02 ak;refine xx m2 λh3 p3 c3 Ow3 O3=>bF rfl (aH rfl ?_);have A13:=A12.only O3 ak;have A23:=A2.only O3 ak;have O03:=O02.trans O3 ak;have H3:=S0.only0 O03;refine aQ (rs A13) ⟨rfl,aQ (rs A13) ⟨rfl,oJ H3 (aH rfl (aQ (rs A13) ⟨rfl,n0 H3 (aH rfl ?_)⟩))⟩⟩;have ol:=o k;have O:=o (k+1);rw[wrap_i64 (n:=(2:Int)*(((cQ Y.N k).length:Nat):Int)) ah ah,wrap_i64 (n:=((Y.room:Nat):Int)-((bi Y.N:Nat):Int)) ah ah];refine aR (λq=>hF h3 O03) λq=> ?_;have q:=Me q
 have rm:bi Y.N+2*(cx Y.n k Y.N).length<=Y.room:=by have:=NG (cJ Y.n k Y.N) (cQ Y.N k);unfold cx;omega
 unfold F342.wk5;refine fa (k:= .u32) λh4 Mp4 O4 z4=>aW λh5 A5 O5 z5=> ?_;rw[aL];refine aU A5 ak rfl λh6 A6 O6 z6=> ?_;have A6:At h6 h4.size [.map (some h3.size)]:=A6;have O36:aM [] h3 h6:=(O4.trans O5 ak).trans O6 (by intro y hy hl;simp only[LZ]at hy;omega);have O06:=O03.trans O36 ak;have A16:=A13.only O36 ak;have A26:=A23.only O36 ak;have s2:=O02.size;have s3:=O3.size;have s1:=O1.size;have l4:=Mp4.lt;have Mp6:bV h6 h3.size .u32 []:=(Mp4.only O5 ak).only O6 (by simp only[LZ];omega);refine aQ (rs A16) (aH (rk A26) ?_);rw[show((1:Int))=((1:Nat):Int)from rfl,pK (k:=k) ah ah];refine xx (H.m.only O06 ak) λh7 p7 c7 Ow7 O7=>bF rfl ?_;have s6:=O36.size;have l6:=A6.lt;unfold F342.wk7;have A17:=A16.only O7 ak;have A27:=A26.only O7 ak;have A67:=A6.only O7 ak;have Mp7:=Mp6.only O7 ak;have l1:=A1.lt;have l2:=A2.lt;have O07:=O06.trans O7 ak;have s7:=O7.size
 have j: ∀(d t:Nat) (h8:aI) (mo:List (Int×Value)),t+d=(cQ Y.N (k+1)).length->bV h8 h3.size .u32 mo->uh mo ((cQ Y.N (k+1)).take t)->aM [h3.size] h7 h8->F342.wL7 (d+1) (aw h.size) (aw h1.size) (aw h4.size) p7 (cQ Y.N (k+1)).length c7 ((cQ Y.N (k+1)).length:Int) (t:Int) h8 K:=by
  intro d
  induction d with
  |zero=>
   intro t h8 mo ht Mp8 Om O8;rw[F342.sL7];rw[L7 ah,aK];obtain rfl:t=(cQ Y.N (k+1)).length:=ah;rw[NS]at Om;unfold F342.wk11;have A18:=A17.only O8 (by simp;omega);have A28:=A27.only O8 (by simp;omega);have A68:=A67.only O8 (by simp;omega);have O08:aM [] h h8:=O07.trans O8 λy hy hl=>by simp only[LZ]at hy;omega
   refine aQ (rs A18) (aH (rk A28) ?_)
   have C: ∀y∈B.bm s++B.bt,y<h.size:=λy hy=>by
    rcases Zq hy with q|q
    ·exact H.m.lt y q
    ·exact H.t.lt y q
   have H8:nM h8 s Y.n Y.room B Y.f Y.g Y.N F Y.Q Y.off:=H.only O08 ak;obtain⟨T,t,t5,t6,t7⟩:=H8.t.tab;refine CO (K:=λv h4=>v=aE/\K (ap 0) h4) H8 t t5 t7 hk P rm λh9 B9 M9 T9 p9 c9 I Y9 V9 Ow9 g9 D9 O9 Fr9=>bj Hb ?_;have i: ∀y,h.size<=y->y<h8.size->y∉B.bm s++B.bt:=λy hy _ hm=>by have:=C y hm;omega
   have z8:=O08.size;have l8:=Mp8.lt;have C9:Cx h9 s k h.size h4.size h1.size h3.size mo:=⟨A18.only O9 (i _ ah ah),A68.only O9 (i _ ah A68.lt),A28.only O9 (i _ ah A28.lt),Mp8.only O9 (i _ ah l8)⟩;refine F362.spec _ _ _ _ _ _ h9 _ ?_;refine aQ (by rw[At.rd C9.a1];rfl) ?_;unfold F362.wk2
   have bl:(cx Y.n k Y.N).length<=40000:=by have:=NG (cJ Y.n k Y.N) (cQ Y.N k);unfold cx;omega
   refine⟨_,Dh (U0:=cx Y.n k Y.N) (lo:=I) (cx Y.n k Y.N).length 0 ah Y9 V9 C9 Om H.ok P ah hk Ow9 (λy hy hm=> ?_) bl λG B10 M10 F10 Y10 V10 O10 Fr10=>⟨rfl,rfl,?_⟩⟩
   ·rcases Zq hy with w|w
    ·have w2:h.size<=y/\y<h8.size:=by
      have:=A18.lt;have:=A28.lt;have:=A68.lt;simp at w;omega
     rcases Fr9 y hm with z|z
     ·exact i y w2.1 w2.2 z
     ·omega
    ·exact D9 y w hm
   obtain⟨ok,D⟩:=DT H.ok hk V10.mid V10.up;have u:=Y10.t;rw[dP]at u;have Fr':bC (B.bm s++B.bt) (B9.bm s++B9.bt) h8:=Fr9;have O810:=O9.app O10 Fr';have F810:=Fr'.trans Fr10 O9.size;refine hK G _ M10 D ⟨B10,F10,rfl,⟨Y10.m,⟨⟨T9,u,Y10.t5,by have:=Y10.cap;show 2*bi M10<=T9;omega,Y10.t7⟩,Y10.bn,Y10.bs⟩,ok,Y10.cnt,Y10.fre⟩⟩ ((O08.mono ak).trans O810 λy hy _=>hy) λy hy=>(F810 y hy).imp id λz=>ah
  |succ d ih=>
   intro t h8 mo ht Mp8 Om O8;rw[F342.sL7];rw[Mg ah,aO];obtain⟨a,ha⟩: ∃a,(cQ Y.N (k+1))[t]? =some a:=⟨_,Mj ah⟩;have b7: ∀b∈aV p7,h6.size<=b:=λb hb=>(Ow7.lt b hb).1
   obtain⟨b,eb,rb⟩:=(Ow7.only O8 λb e hm=>by simp only[LZ]at hm;have:=b7 b (by rw[e];simp[aV]);omega).elem ha
   rw[eb,aT,<-eb];refine⟨ah,ah,?_⟩;simp only[aL,LX,MU,Md];refine aH (n:=(a:Int)) rb ⟨_,by rw[At.rd (A67.only O8 (by simp;omega))];rfl,?_⟩;refine fk Mp8 λh9 Mp9 O9 z9=> ?_;rw[show ax ((t:Int)+1)=((t+1:Nat):Int) by rw[wrap_i64 ah ah];omega];refine ih (t+1) h9 _ ah Mp9 (λx=> ?_) (O8.trans O9 λy hy _=>hy);rw[cr,lD eZ ha];by_cases e:x=a
   ·subst e;rw[L4 rfl];exact⟨λ_=>rfl,λw=>Mw (.inr rfl) w⟩
   ·rw[LY ah];simp only[e,Nk];exact Om x
 exact⟨_,j (cQ Y.N (k+1)).length 0 h7 [] ah Mp7 (λx=>⟨λw=>by simp at w,λ_=>rfl⟩) (aM.refl _ _)⟩
structure nO(h:aI)(s n room:Nat)(fo gg:Nat->Nat)(off:Bool)(N:ay)(L:List Nat)(rs:List Nat)(G:Nat->Nat->Bool)(lo:Nat)(p:az)(c:Nat):Prop where
 S:bT h s L (XL n room fo gg N off)
 P:cu n fo gg
 Ow:cy h lo 1 p rs.length c (rs.map hv)
 np: ∀y∈aV p,y∉L
 ir: ∀r∈rs,isN N r/\ ∀x,sm n fo N r x=G r x
 rl:rs.length<=100000
def AR(H:cX n N)(M:Mk N rs keep [])(hr:r∈rs)(ir:isN N r):isN (cv keep N) r/\ ∀x,sm n fo (cv keep N) r x=sm n fo N r x:=by
 have cl: ∀i x,nd N i=some x->keep (i+2)=true->(x.2.1<2\/keep x.2.1=true)/\(x.2.2<2\/keep x.2.2=true):=λi x hx hk=>by have:=M.cl i x hx hk;simpa using this
 obtain⟨ok,a,ex⟩:=ot H cl
 have i1:isN (cv keep N) r:=by
  rw[a];rcases M.ro r hr with q|q|q
  ·exact .inl q
  ·exact .inr ⟨ir,q⟩
  ·cases q
 exact⟨i1,λx=>(ex.sm ok i1).symm⟩
def HD(s:Nat)(p:az)(l c:Nat):Value:= .agg #[bf s,.slice p l c]
def nO.lt{h:aI}(S:nO h s n room fo gg off N L rs G lo p c): ∀y∈aV p,y<h.size:=λy hy=>(S.Ow.lt y hy).2
def nO.next(S:nO h s n room fo gg off N L rs G lo p c)(S':bT h' s L' (XL n room fo' gg' N' off))(P':cu n fo' gg')(O:aM L h h')(F:bC L L' h)(ir: ∀r∈rs,isN N' r/\ ∀x,sm n fo' N' r x=G r x):nO h' s n room fo' gg' off N' L' rs G lo p c:=
 ⟨S',P',S.Ow.only O λb e=>S.np b (by rw[e];simp[aV]),λy hy hm=>by
  rcases F y hm with q|q
  ·exact S.np y hy q
  ·have:=S.lt y hy;omega,ir,S.rl⟩
def nO.only0(S:nO h s n room fo gg off N L rs G lo p c)(O:aM [] h h'):nO h' s n room fo gg off N L rs G lo p c:=S.next (S.S.only0 O) S.P (O.mono ak) (bC.refl _ _) S.ir
def Aa{rs:List Nat}(S:nO h s n room fo gg off N L rs G lo p c)(hK: ∀h' L' N' a,nO h' s n room fo gg off N' L' rs G lo p c->aM L h h'->bC L L' h->K (.tuple #[ap a,ap 0]) h'):
  Cl 218 [bf s,.slice p rs.length c] h K:=by
 refine kN (λkeep=>QL n fo (cv keep N)) S.S S.Ow (λr hr=>(S.ir r hr).1) S.rl λh1 L1 a keep M S1 O1 F1=>hK h1 L1 (cv keep N) a ?_ O1 F1;have S1:bT h1 s L1 (XL n room fo gg (cv keep N) off):=S1;have M:Mk N rs keep []:=M;have ok:cX n N:=S.S.ok.1;have n8:n<=8:=S.S.ok.2.2.1;refine S.next S1 S.P O1 F1 λr hr=> ?_;obtain⟨i1,e1⟩:=AR (fo:=fo) ok M hr (S.ir r hr).1;exact⟨i1,λx=>by rw[e1,(S.ir r hr).2]⟩
def Hl{rs:List Nat}(S:nO h s n room fo gg off N L rs G lo p c)(hk:k+1<n)(hF: ∀h',aM [] h h'->K (ap 60) h')
  (hK: ∀h' L' N',nO h' s n room (sw k fo) (tk k fo gg) off N' L' rs G lo p c->aM L h h'->bC L L' h->K (ap 0) h'):Cl 312 [HD s p rs.length c,ap (k:Int)] h K:=by
 refine F312.spec ?_;refine aW λh1 A1 O1 z1=> ?_;simp only[aL,LX];have S1:=S.only0 O1;refine aQ (n:=some (aw s)) (by rw[At.rd A1];rfl) ?_;refine Er S1.S hk S1.P (λh2 O2=>aH rfl ?_) λh2 L2 N2 d S2 O2 F2=>aH rfl ?_
 ·rw[show((60:Int) !=0)=true from rfl,aO];exact hF h2 (O1.trans O2 ak)
 rw[show((0:Int) !=0)=false from rfl,aK];have S2:bT h2 s L2 {XL n room (sw k fo) (tk k fo gg) N2 off with Q:=QL n fo N}:=S2;have d: ∀a,isN N a->isN N2 a/\ ∀x,sm n (sw k fo) N2 a x=sm n fo N a x:=d;have nb:h.size∉L:=λhm=>by have:=S.S.lt _ hm;omega
 have A2:=A1.only O2 nb;refine aQ (n:=some (aw s)) (by rw[At.rd A2];rfl) (bF (p:=p) (l:=rs.length) (c:=c) (by rw[At.rd A2];rfl) ?_);have Ow2:=S1.Ow.only O2 λb e=>S1.np b (by rw[e];simp[aV]);have f:cX n N2:=S2.ok.1;refine kN (λkeep=>QL n (sw k fo) (cv keep N2)) S2 Ow2 (λr hr=>(d r (S.ir r hr).1).1) S.rl λh3 L3 g keep M S3 O3 F3=>⟨_,_,rfl,?_⟩;have S3:bT h3 s L3 (XL n room (sw k fo) (tk k fo gg) (cv keep N2) off):=S3;have M:Mk N2 rs keep []:=M;have O13:aM L h1 h3:=O2.app O3 F2;have F13:bC L L3 h1:=F2.trans F3 O2.size;refine hK h3 L3 _ (S1.next S3 (Dv S.P hk) O13 F13 λr hr=> ?_) ((O1.mono ak).trans O13 λy hy _=>hy) λy hy=>(F13 y hy).imp id λq=>by have:=O1.size;omega
 obtain⟨i0,e0⟩:=d r (S.ir r hr).1;obtain⟨i1,e1⟩:=AR (fo:=sw k fo) f M hr i0;exact⟨i1,λx=>by rw[e1,e0,(S.ir r hr).2]⟩
def ES{rs:List Nat}(S:nO h s n room fo gg off N L rs G lo p c)(hv:v<n)(hl:level<n)
  (hK: ∀h' L' fo' gg' N' e,e=0\/e=60->nO h' s n room fo' gg' off N' L' rs G lo p c->aM L h h'->bC L L' h->K (ap e) h'):Cl 291 [HD s p rs.length c,ap (v:Int),ap (level:Int)] h K:=by
 have ok:=S.S.ok;dsimp only[XL]at ok;have n8:=ok.2.2.1;refine F291.spec _ _ _ _ _ _ h K ?_;refine aW λh1 A1 O1 z1=> ?_;unfold F291.wk1
 have g: ∀(d:Nat) (k:aI) (L1:List Nat) (b a:Nat->Nat) (N1:ay),(a v-level)+(level-a v)<=d->nO k s n room b a off N1 L1 rs G lo p c->h.size∉L1->At k h.size [bf s,.slice p rs.length c]->aM L h1 k->bC L L1 h1->
   F291.wL1 (d+1) (v:Int) (level:Int) (aw h.size) k K:=by
  intro d
  induction d with
  |zero=>
   intro k L1 b a N1 hd S1 nb A O F;rw[F291.sL1];simp only[aL,LX];refine aQ (n:=some (aw s)) (by rw[At.rd A];rfl) (eX S1.S λc2 k2 Or g2 O2=>aQ rfl (iE Or n8 hv (aH rfl ?_)));show aJ (((a v:Nat):Int)==(level:Int)) _ _;rw[show(((a v:Nat):Int)==(level:Int))=true by rw[Oe];omega,aO];exact hK k2 L1 b a N1 0 (.inl rfl) (S1.only0 O2) (((O1.mono ak).trans O λy hy _=>hy).trans (O2.mono ak) λy hy _=>hy) λy hy=>(F y hy).imp id λq=>by have:=O1.size;omega
  |succ d ih=>
   intro k L1 b a N1 hd S1 nb A O F;rw[F291.sL1];simp only[aL,LX];refine aQ (n:=some (aw s)) (by rw[At.rd A];rfl) (eX S1.S λc2 k2 Or g2 O2=>aQ rfl (iE Or n8 hv (aH rfl ?_)));show aJ (((a v:Nat):Int)==(level:Int)) _ _;by_cases e:a v=level
   ·rw[show(((a v:Nat):Int)==(level:Int))=true by rw[Oe];omega,aO];exact hK k2 L1 b a N1 0 (.inl rfl) (S1.only0 O2) (((O1.mono ak).trans O λy hy _=>hy).trans (O2.mono ak) λy hy _=>hy) λy hy=>(F y hy).imp id λq=>by have:=O1.size;omega
   rw[show(((a v:Nat):Int)==(level:Int))=false by rw[OP];omega,aK];have A2:=A.only O2 ak;have S2:=S1.only0 O2;refine aQ (n:=some (aw s)) (by rw[At.rd A2];rfl) (bF (p:=p) (l:=rs.length) (c:=c) (by rw[At.rd A2];rfl) ?_);obtain⟨gv,ev⟩:=S1.P.1 v hv
   obtain⟨j,ej,hj,f⟩: ∃j:Nat,(if(if(level:Int)>(ax (((a v:Nat):Int)-(1:Int)))then(level:Int)else(ax (((a v:Nat):Int)-(1:Int))))<((a v:Nat):Int)then(if(level:Int)>(ax (((a v:Nat):Int)-(1:Int)))then(level:Int)else(ax (((a v:Nat):Int)-(1:Int))))else((a v:Nat):Int))=(j:Int)/\j+1<n/\(if level<a v then j+1=a v else j=a v):=by
    rw[wrap_i64 ah ah];by_cases q:level<a v
    ·refine⟨a v-1,?_,ah,by rw[L4 q];omega⟩;rw[LY (show ¬(level:Int)>((a v:Nat):Int)-1 by omega),L4 (show((a v:Nat):Int)-1<((a v:Nat):Int) by omega)];omega
    ·refine⟨a v,?_,ah,by rw[LY q]⟩;rw[L4 (show(level:Int)>((a v:Nat):Int)-1 by omega),LY (show ¬(level:Int)<((a v:Nat):Int) by omega)]
   show Cl 312 [HD s p rs.length c,ap (if(if(level:Int)>(ax (((a v:Nat):Int)-(1:Int)))then(level:Int)else(ax (((a v:Nat):Int)-(1:Int))))<((a v:Nat):Int)then(if(level:Int)>(ax (((a v:Nat):Int)-(1:Int)))then(level:Int)else(ax (((a v:Nat):Int)-(1:Int))))else((a v:Nat):Int))] _ _;rw[ej];refine Hl S2 hj (λk3 O3=>aH rfl ?_) λk3 L3 N3 S3 O3 F3=>aH rfl ?_
   ·rw[show((60:Int) !=0)=true from rfl,aO];exact hK k3 L1 b a N1 60 (.inr rfl) (S2.only0 O3) ((((O1.mono ak).trans O λy hy _=>hy).trans (O2.mono ak) λy hy _=>hy).trans (O3.mono ak) λy hy _=>hy) λy hy=>(F y hy).imp id λq=>by have:=O1.size;omega
   rw[show((0:Int) !=0)=false from rfl,aK];have s2:=O2.size;have lA:=A.lt
   have m:h.size∉L3:=λhm=>by
    rcases F3 _ hm with q|q
    ·exact nb q
    ·omega
   have i:tk j b a v=if level<a v then j else j+1:=by
    unfold tk iX;by_cases q:level<a v
    ·rw[L4 q]at f ⊢;have e1:b (j+1)=v:=by rw[f];exact ev
     have e0:v≠b j:=λe=>by have:=(S1.P.2 j ah).2;rw[<-e]at this;omega
     rw[LY e0,L4 e1.symm]
    ·rw[LY q]at f ⊢;rw[L4 (by rw[f];exact ev.symm)]
   have O23:aM L1 k k3:=(O2.mono ak).trans O3 λy hy _=>hy;have F23:bC L1 L3 k:=λy hy=>(F3 y hy).imp id λq=>ah
   refine ih k3 L3 _ _ N3 (by
    rw[i];by_cases q:level<a v
    ·rw[L4 q]at f ⊢;omega
    ·rw[LY q]at f ⊢;omega) S3 m (A2.only O3 nb) (O.app O23 F) (F.trans F23 O.size)
 have nb:h.size∉L:=λhm=>by have:=S.S.lt _ hm;omega
 exact⟨_,g _ h1 L fo gg N (Mb _) (S.only0 O1) nb A1 (aM.refl _ _) (bC.refl _ _)⟩
def Af{rs:List Nat}(S:nO h s n room fo gg off N L rs G lo p c)(hK: ∀h' (z:Int),aM [] h h'->K (ap z) h'):Cl 255 [HD s p rs.length c] h K:=by refine F255.spec ?_;refine aW λh1 A1 O1 z1=> ?_;simp only[aL,LX];refine aQ (n:=some (aw s)) (by rw[At.rd A1];rfl) (bF (p:=p) (l:=rs.length) (c:=c) (by rw[At.rd A1];rfl) ?_);have S1:=S.only0 O1;refine F51.spec ?_;refine px S1.S S1.Ow (λr hr=>(S.ir r hr).1) S.rl λh2 mb mo keep M Kp gm e O2=>⟨_,_,rfl,?_⟩;obtain⟨es,cl,m1,m2,-⟩:=M;exact⟨es,cl,m1,_,_,rfl,hK h2 _ (O1.trans O2 ak)⟩
def Ge{rs:List Nat}(S:nO h s n room fo gg off N L rs G lo p c)(hv:v<n)
  (hK: ∀h' L' fo' gg' N' e,e=0\/e=60->nO h' s n room fo' gg' off N' L' rs G lo p c->aM L h h'->bC L L' h->K (ap e) h'):Cl 257 [HD s p rs.length c,ap (v:Int)] h K:=by
 have ok:=S.S.ok;dsimp only[XL]at ok;have n8:=ok.2.2.1;refine F257.spec _ _ _ _ _ h K ?_;refine aW λh1 A1 O1 z1=> ?_;simp only[aL,LX];have S1:=S.only0 O1;refine aQ (n:=some (aw s)) (by rw[At.rd A1];rfl) (dX S1.S (aH rfl ?_));unfold F257.wk3;have nb:h.size∉L:=λhm=>by have:=S.S.lt _ hm;omega
 have t: ∀(d l:Nat) (k:aI) (L1:List Nat) (i m:Nat->Nat) (N1:ay) (a:Nat) (b:Int),l+d=n->a<n->nO k s n room i m off N1 L1 rs G lo p c->h.size∉L1->At k h.size [bf s,.slice p rs.length c]->aM L h1 k->bC L L1 h1->
   F257.wL3 (d+1) (v:Int) (aw h.size) (a:Int) b (n:Int) (l:Int) k K:=by
  intro d
  induction d with
  |zero=>
   intro l k L1 i m N1 a b hl hb S2 j A O F;rw[F257.sL3];rw[L7 ah,aK];unfold F257.wk12;simp only[aL,LX];refine aQ (n:=some (aw s)) (by rw[At.rd A];rfl) (bF (p:=p) (l:=rs.length) (c:=c) (by rw[At.rd A];rfl) ?_);refine ES (level:=a) S2 hv hb λh3 L3 f g N3 e he S3 O3 F3=>aH rfl ?_;have O13:=O.app O3 F;have F13:=F.trans F3 O.size;exact hK h3 L3 f g N3 e he S3 ((O1.mono ak).trans O13 λy hy _=>hy) λy hy=>(F13 y hy).imp id λq=>by have:=O1.size;omega
  |succ d ih=>
   intro l k L1 i m N1 a b hl hb S2 j A O F;rw[F257.sL3];rw[Mg ah,aO];simp only[aL,LX];refine aQ (n:=some (aw s)) (by rw[At.rd A];rfl) (bF (p:=p) (l:=rs.length) (c:=c) (by rw[At.rd A];rfl) ?_);refine ES (level:=l) S2 hv ah λh3 L3 f g N3 e he S3 O3 F3=>aH rfl ?_;have O13:=O.app O3 F;have F13:=F.trans F3 O.size;rcases he with q|q
   ·subst q;rw[show((0:Int) !=0)=false from rfl,aK];have lA:=A.lt;have A3:=A.only O3 j
    have o:h.size∉L3:=λhm=>by
     rcases F3 _ hm with q|q
     ·exact j q
     ·omega
    refine aQ (n:=some (aw s)) (by rw[At.rd A3];rfl) (bF (p:=p) (l:=rs.length) (c:=c) (by rw[At.rd A3];rfl) ?_);refine Af S3 λh4 z O4=>aH rfl ?_;have S4:=S3.only0 O4;have A4:=A3.only O4 ak;have O34:aM L1 k h4:=O3.trans (O4.mono ak) λy hy _=>hy;have O14:=O.app O34 F;have F14:=F.trans F3 O.size;have ew:ax ((l:Int)+1)=((l+1:Nat):Int):=by rw[wrap_i64 ah ah];omega
    rw[ew];exact aR (λ_=>ih (l+1) h4 L3 f g N3 l z ah ah S4 o A4 O14 F14) λ_=>aR (λ_=>ih (l+1) h4 L3 f g N3 l z ah ah S4 o A4 O14 F14) λ_=>ih (l+1) h4 L3 f g N3 a b ah hb S4 o A4 O14 F14
   ·subst q;rw[show((60:Int) !=0)=true from rfl,aO];exact hK h3 L3 f g N3 60 (.inr rfl) S3 ((O1.mono ak).trans O13 λy hy _=>hy) λy hy=>(F13 y hy).imp id λq=>by have:=O1.size;omega
 exact⟨_,t n 0 h1 L fo gg N 0 (-1) ah ah S1 nb A1 (aM.refl _ _) (bC.refl _ _)⟩
def In{rs:List Nat}(S:nO h s n room fo gg off N L rs G lo p c)(hK: ∀h' (z:Int),aM [] h h'->K (ap z) h'):Cl 254 [.slice p rs.length c] h K:=by
 have rl:=S.rl;refine F254.spec _ _ _ h K ?_;refine fa (k:= .u32) λh1 M1 O1 z1=> ?_;unfold F254.wk3
 have f: ∀(d t:Nat) (k:aI) (mo:List (Int×Value)),t+d=rs.length->bV k h.size .u32 mo->aM [h.size] h1 k->F254.wL3 (d+1) (some h.size) p rs.length c (rs.length:Int) (t:Int) k K:=by
  intro d
  induction d with
  |zero=>
   intro t k mo ht M O;rw[F254.sL3];rw[L7 ah,aK];unfold F254.wk8;obtain⟨es,cl,m1,m2,-⟩:=M;exact⟨es,cl,m1,hK k _ (O1.trans O λy hy hl=>by simp only[LZ]at hy;omega)⟩
  |succ d ih=>
   intro t k mo ht M O;rw[F254.sL3];rw[Mg ah,aO];obtain⟨a,ha⟩: ∃a,rs[t]? =some a:=⟨_,Mj ah⟩;have lt:=S.lt
   obtain⟨b,eb,rb⟩:=((S.Ow.only O1 ak).only O λb e hm=>by simp only[LZ]at hm;have:=lt b (by rw[e];simp[aV]);omega).elem ha
   rw[eb,aT,<-eb];refine⟨ah,ah,?_⟩;simp only[aL,LX,MU,Md];rw[show ax ((t:Int)+1)=((t+1:Nat):Int) by rw[wrap_i64 ah ah];omega];exact aH (n:=(a:Int)) rb (aR (λ_=>fk M λk2 M2 O2 z2=>ih (t+1) k2 _ ah M2 (O.trans O2 λy hy _=>hy)) λ_=>ih (t+1) k mo ah M O)
 exact⟨_,f rs.length 0 h1 [] ah M1 (aM.refl _ _)⟩
abbrev It:=Int×Int
def ct(L:List It)(i:Nat):It:=L.getD i (0,0)
def kJ(a b:It):Bool:=decide (a.2>b.2)||(a.2==b.2&&decide (a.1<b.1))
def gz(L:List It)(i j:Nat):List It:=(L.set i (ct L j)).set j (ct L i)
def dG(k:Nat):Nat:=(k-1)/2
def kB(L:List It)(k:Nat):Prop:=kJ (ct L k) (ct L (dG k))=false
def ff(L:List It)(n:Nat):Prop:= ∀k,0<k->k<n->kB L k
def oL(h:kJ a b=true):kJ b a=false:=by
 simp only[kJ,Nj,MG,Mu,Oe,PE,Ps,Mr]at*
 omega
def oI(h1:kJ a b=false)(h2:kJ b c=false):kJ a c=false:=by
 simp only[kJ,Oe,PE,Ps,Mr]at*
 omega
def zW(h1:kJ c b=false)(h2:kJ a b=true):kJ c a=false:=by
 simp only[kJ,Nj,MG,Mu,Oe,PE,Ps,Mr]at*
 omega
def pV(a:It):kJ a a=false:=by simp[kJ]
def eY(L:List It)(i j:Nat):(gz L i j).length=L.length:=by simp[gz]
def iG{L:List It}(hi:i<L.length)(hj:j<L.length)(k:Nat):ct (gz L i j) k=if k=j then ct L i else if k=i then ct L j else ct L k:=by
 unfold gz ct;by_cases h1:k=j
 ·subst h1;simp[hj]
 ·rw[LY h1];by_cases h2:k=i
  ·subst h2;simp[List.getD,Ne.symm h1,hi]
  ·rw[LY h2];simp[List.getD,Ne.symm h1,Ne.symm h2]
def CV{L:List It}(hi:i<L.length):L[i]=ct L i:=by simp[ct,hi]
def kR{L:List It}(hi:i<L.length)(hj:j<L.length):(gz L i j).Perm L:=by
 have h:=Array.swap_perm (xs:=L.toArray) (i:=i) (j:=j) (by simpa using hi) (by simpa using hj)
 have e:(L.toArray.swap i j (by simpa using hi) (by simpa using hj)).toList=gz L i j:=by unfold gz;rw[Array.swap_def];simp[ct,hi,hj]
 rw[Array.perm_iff_toList_perm,e]at h;exact h
structure nB(L:List It)(n i0 i:Nat):Prop where
 a: ∀k,0<k->k<n->dG k≠i->(k≠i\/i≠i0)->kB L k
 b: ∀k,0<k->k<n->dG k=i->0<i->kJ (ct L k) (ct L (dG i))=false
 le:i0<=i
structure Ap(L:List It)(n j:Nat):Prop where
 a: ∀k,0<k->k<n->k≠j->kB L k
 b: ∀k,0<k->k<n->dG k=j->0<j->kJ (ct L k) (ct L (dG j))=false
def Ap.done(H:Ap L n j)(h:j=0\/kB L j):ff L n:=by
 intro k h0 h1;by_cases e:k=j
 ·subst e;rcases h with h|h
  ·omega
  ·exact h
 ·exact H.a k h0 h1 e
def Ap.step{L:List It}(H:Ap L n j)(c:0<j)(g:j<n)(hn:n<=L.length)(hb:kJ (ct L j) (ct L (dG j))=true):Ap (gz L (dG j) j) n (dG j):=by
 have hp:dG j<j:=by unfold dG;omega
 have sw:=iG (L:=L) (i:=dG j) (j:=j) ah ah;constructor
 ·intro k h0 h1 hk;unfold kB;rw[sw k,sw (dG k)];have f:dG k<k:=by unfold dG;omega
  by_cases e:k=j
  ·subst e;rw[L4 rfl,LY ah,L4 rfl];exact oL hb
  ·rw[LY e,LY hk];by_cases e2:dG k=j
   ·rw[L4 e2];exact H.b k h0 h1 e2 c
   ·rw[LY e2];by_cases e3:dG k=dG j
    ·rw[L4 e3];have:=H.a k h0 h1 e;unfold kB at this;rw[e3]at this;exact zW this hb
    ·rw[LY e3];exact H.a k h0 h1 e
 ·intro k h0 h1 hk hi;have h:dG (dG j)<dG j:=by unfold dG at*;omega
  rw[sw k,sw (dG (dG j)),LY (show ¬dG (dG j)=j by omega),LY (show ¬dG (dG j)=dG j by omega)];have hq:kJ (ct L (dG j)) (ct L (dG (dG j)))=false:=H.a (dG j) hi ah ah;by_cases e:k=j
  ·rw[L4 e];exact hq
  ·have d:k≠dG j:=by
    intro e2;rw[e2]at hk;omega
   rw[LY e,LY d];have:=H.a k h0 h1 e;unfold kB at this;rw[hk]at this;exact oI this hq
def nB.done(H:nB L n i0 i)(h: ∀k,0<k->k<n->dG k=i->kB L k):(i≠i0->ff L n)/\(i=i0->Ap L n i0):=by
 constructor
 ·intro hi k h0 h1;by_cases e:dG k=i
  ·exact h k h0 h1 e
  ·exact H.a k h0 h1 e (Or.inr hi)
 ·intro hi;subst hi;refine⟨λk h0 h1 hk=> ?_,H.b⟩;by_cases e:dG k=i
  ·exact h k h0 h1 e
  ·exact H.a k h0 h1 e (Or.inl hk)
def nB.step{L:List It}(H:nB L n i0 i)(c:j<n)(hn:n<=L.length)(hj:0<j)(hp:dG j=i)(hb:kJ (ct L j) (ct L i)=true)(hc: ∀k,0<k->k<n->dG k=i->kJ (ct L k) (ct L j)=false):nB (gz L i j) n i0 j:=by
 have f:i<j:=by rw[<-hp];unfold dG;omega
 have sw:=iG (L:=L) (i:=i) (j:=j) ah ah;have le:=H.le;refine⟨λk h0 h1 hk _=> ?_,λk h0 h1 hk _=> ?_,ah⟩
 ·unfold kB;rw[sw k,sw (dG k)];have d:dG k<k:=by unfold dG;omega
  rw[LY hk];by_cases e:k=j
  ·subst e;rw[L4 rfl,L4 hp];exact oL hb
  ·rw[LY e];by_cases e2:k=i
   ·subst e2;rw[L4 rfl,LY ah];exact H.b j hj c hp h0
   ·rw[LY e2];by_cases e3:dG k=i
    ·rw[L4 e3];exact hc k h0 h1 e3
    ·rw[LY e3];exact H.a k h0 h1 e3 (Or.inl e2)
 ·have d:dG k<k:=by unfold dG;omega
  rw[sw k,sw (dG j),LY ah,LY ah,hp,LY ah,L4 rfl];have:=H.a k h0 h1 ah (Or.inl ah);unfold kB at this;rw[hk]at this;exact this
def BN{L:List It}(H:ff L L.length):Ap (L++[x]) (L.length+1) L.length:=by
 have e: ∀k,k<L.length->ct (L++[x]) k=ct L k:=λk hk=>by simp[ct,List.getD,Mo hk]
 refine⟨λk h0 h1 hk=> ?_,λk h0 h1 hk _=> ?_⟩
 ·have a:dG k<k:=by unfold dG;omega
  unfold kB;rw[e k ah,e (dG k) ah];exact H k h0 ah
 ·have a:dG k<k:=by unfold dG;omega
  omega
section
variable {i j k l m n o p q r s t:Int}{a b c d:Addr}{u v:Nat}{x y:az}{h:aI}{K:KK}
def F357.spec{a:Addr}(H:cF (rd h (a.add 0)) λ_ a _=>K (ap (a:Int)) h):Cl 357 [au a] h K:=cN Tryz.func357 H
def F397.T:bh:=⟨[],[(1,[[(0,[]),(1,[]),(2,[]),(3,[]),(4,[]),(5,[]),(6,[]),(7,[]),(8,[]),(9,[]),(10,[]),(11,[]),(12,[]),(13,[]),(14,[0,1,2,3,4,5,6,7,8,9,10,11,12,13]),(15,[0,1,2,3,4,5,6,7,8,9,10,11,12,13]),(16,[7,8,9,10,11,12,13]),(17,[])],[(0,[]),(1,[]),(2,[]),(3,[]),(4,[]),(5,[]),(6,[]),(7,[]),(8,[]),(9,[]),(10,[]),(11,[]),(12,[]),(13,[]),(15,[0,1,2,3,4,5,6,7,8,9,10,11,12,13]),(14,[0,1,2,3,4,5,6,7,8,9,10,11,12,13]),(16,[7,8,9,10,11,12,13]),(17,[])]])]⟩
def F397.spec{i j:Int}{a:Addr}(H:(cF (rd h (a.add 0)) (λb c d=>aX b λe=>0<=i/\i<(c:Int)/\aS .i64 (rd h ((e.add (i.toNat*2)).add 0)) λf=>aS .i64 (rd h ((e.add (i.toNat*2)).add 1)) λg=>cF (rd h (a.add 0)) λk l m=>aX k λn=>0<=j/\j<(l:Int)/\aS .i64 (rd h ((n.add (j.toNat*2)).add 0)) λo=>aS .i64 (rd h ((n.add (j.toNat*2)).add 1)) λp=>bg h (.cells #[ap 0,ap 0] 357) λq r=>aF (au a)/\aF (au a)/\aF (au (a.add 0))/\cF (rd r (a.add 0)) λs t u=>aG (.slice s t u) (.slice b c d)/\aF (ap i)/\aX b λs=>0<=i/\i<(c:Int)/\aG (au (s.add (i.toNat*2))) (au (e.add (i.toNat*2)))/\aS .i64 (rd r ((e.add (i.toNat*2)).add 0)) λs=>aS .i64 (rd r ((e.add (i.toNat*2)).add 1)) λt=>aG (.agg #[ap s,ap t]) (.agg #[ap f,ap g])/\aF (au a)/\aF (au a)/\aF (au (a.add 0))/\cF (rd r (a.add 0)) λs t u=>aG (.slice s t u) (.slice k l m)/\aF (ap j)/\aX k λs=>0<=j/\j<(l:Int)/\aG (au (s.add (j.toNat*2))) (au (n.add (j.toNat*2)))/\aS .i64 (rd r ((n.add (j.toNat*2)).add 0)) λs=>aS .i64 (rd r ((n.add (j.toNat*2)).add 1)) λt=>aG (.agg #[ap s,ap t]) (.agg #[ap o,ap p])/\bg r (.cells #[ap 0,ap 0] 357) λr s=>aF (au a)/\aF (au a)/\aF (au (a.add 0))/\cF (rd s (a.add 0)) λt u v=>aG (.slice t u v) (.slice b c d)/\aF (ap i)/\aX b λb=>0<=i/\i<(c:Int)/\aG (au (b.add (i.toNat*2))) (au (e.add (i.toNat*2)))/\aS .i64 (rd s ((e.add (i.toNat*2)).add 0)) λb=>aS .i64 (rd s ((e.add (i.toNat*2)).add 1)) λc=>aG (.agg #[ap b,ap c]) (.agg #[ap f,ap g])/\aF (au a)/\aF (au a)/\aF (au (a.add 0))/\cF (rd s (a.add 0)) λb c d=>aG (.slice b c d) (.slice k l m)/\aF (ap j)/\aX k λb=>0<=j/\j<(l:Int)/\aG (au (b.add (j.toNat*2))) (au (n.add (j.toNat*2)))/\aS .i64 (rd s ((n.add (j.toNat*2)).add 0)) λb=>aS .i64 (rd s ((n.add (j.toNat*2)).add 1)) λc=>aG (.agg #[ap b,ap c]) (.agg #[ap o,ap p])/\aY s ((aw q).add 0) (ap f) λb=>aY b ((aw q).add 1) (ap g) λb=>aF (au a)/\aF (au a)/\aF (au (a.add 0))/\cF (rd b (a.add 0)) λa c d=>aG (.slice a c d) (.slice k l m)/\aF (ap j)/\aX k λa=>0<=j/\j<(l:Int)/\aG (au (a.add (j.toNat*2))) (au (n.add (j.toNat*2)))/\aS .i64 (rd b ((n.add (j.toNat*2)).add 0)) λa=>aS .i64 (rd b ((n.add (j.toNat*2)).add 1)) λc=>aG (.agg #[ap a,ap c]) (.agg #[ap o,ap p])/\aY b ((aw r).add 0) (ap o) λa=>aY a ((aw r).add 1) (ap p) λa=>aS .i64 (rd a ((aw q).add 1)) λb=>aS .i64 (rd a ((aw r).add 1)) λc=>aJ (b>c) (K aC a) (aS .i64 (rd a ((aw q).add 1)) λb=>aS .i64 (rd a ((aw r).add 1)) λc=>aJ (b==c) (aS .i64 (rd a ((aw q).add 0)) λb=>aS .i64 (rd a ((aw r).add 0)) λc=>K (aD (b<c)) a) (K aB a)))/\cF (rd h (a.add 0)) λb c d=>aX b λe=>0<=i/\i<(c:Int)/\aS .i64 (rd h ((e.add (i.toNat*2)).add 0)) λf=>aS .i64 (rd h ((e.add (i.toNat*2)).add 1)) λg=>cF (rd h (a.add 0)) λk l m=>aX k λn=>0<=j/\j<(l:Int)/\aS .i64 (rd h ((n.add (j.toNat*2)).add 0)) λo=>aS .i64 (rd h ((n.add (j.toNat*2)).add 1)) λp=>bg h (.cells #[ap 0,ap 0] 357) λq r=>aF (au a)/\aF (au a)/\aF (au (a.add 0))/\cF (rd r (a.add 0)) λs t u=>aG (.slice s t u) (.slice b c d)/\aF (ap i)/\aX b λs=>0<=i/\i<(c:Int)/\aG (au (s.add (i.toNat*2))) (au (e.add (i.toNat*2)))/\aS .i64 (rd r ((e.add (i.toNat*2)).add 0)) λs=>aS .i64 (rd r ((e.add (i.toNat*2)).add 1)) λt=>aG (.agg #[ap s,ap t]) (.agg #[ap f,ap g])/\aF (au a)/\aF (au a)/\aF (au (a.add 0))/\cF (rd r (a.add 0)) λs t u=>aG (.slice s t u) (.slice k l m)/\aF (ap j)/\aX k λs=>0<=j/\j<(l:Int)/\aG (au (s.add (j.toNat*2))) (au (n.add (j.toNat*2)))/\aS .i64 (rd r ((n.add (j.toNat*2)).add 0)) λs=>aS .i64 (rd r ((n.add (j.toNat*2)).add 1)) λt=>aG (.agg #[ap s,ap t]) (.agg #[ap o,ap p])/\bg r (.cells #[ap 0,ap 0] 357) λr s=>aF (au a)/\aF (au a)/\aF (au (a.add 0))/\cF (rd s (a.add 0)) λt u v=>aG (.slice t u v) (.slice b c d)/\aF (ap i)/\aX b λb=>0<=i/\i<(c:Int)/\aG (au (b.add (i.toNat*2))) (au (e.add (i.toNat*2)))/\aS .i64 (rd s ((e.add (i.toNat*2)).add 0)) λb=>aS .i64 (rd s ((e.add (i.toNat*2)).add 1)) λc=>aG (.agg #[ap b,ap c]) (.agg #[ap f,ap g])/\aF (au a)/\aF (au a)/\aF (au (a.add 0))/\cF (rd s (a.add 0)) λb c d=>aG (.slice b c d) (.slice k l m)/\aF (ap j)/\aX k λb=>0<=j/\j<(l:Int)/\aG (au (b.add (j.toNat*2))) (au (n.add (j.toNat*2)))/\aS .i64 (rd s ((n.add (j.toNat*2)).add 0)) λb=>aS .i64 (rd s ((n.add (j.toNat*2)).add 1)) λc=>aG (.agg #[ap b,ap c]) (.agg #[ap o,ap p])/\aY s ((aw r).add 0) (ap f) λb=>aY b ((aw r).add 1) (ap g) λb=>aF (au a)/\aF (au a)/\aF (au (a.add 0))/\cF (rd b (a.add 0)) λa c d=>aG (.slice a c d) (.slice k l m)/\aF (ap j)/\aX k λa=>0<=j/\j<(l:Int)/\aG (au (a.add (j.toNat*2))) (au (n.add (j.toNat*2)))/\aS .i64 (rd b ((n.add (j.toNat*2)).add 0)) λa=>aS .i64 (rd b ((n.add (j.toNat*2)).add 1)) λc=>aG (.agg #[ap a,ap c]) (.agg #[ap o,ap p])/\aY b ((aw q).add 0) (ap o) λa=>aY a ((aw q).add 1) (ap p) λa=>aS .i64 (rd a ((aw r).add 1)) λb=>aS .i64 (rd a ((aw q).add 1)) λc=>aJ (b>c) (K aC a) (aS .i64 (rd a ((aw r).add 1)) λb=>aS .i64 (rd a ((aw q).add 1)) λc=>aJ (b==c) (aS .i64 (rd a ((aw r).add 0)) λb=>aS .i64 (rd a ((aw q).add 0)) λc=>K (aD (b<c)) a) (K aB a)))):Cl 397 [au a,ap i,ap j] h K:=cT F397.T Tryz.func397 H
def F398.T:bh:=⟨[],[(4,[[(0,[]),(1,[]),(2,[]),(3,[]),(4,[]),(5,[]),(6,[])]])]⟩
def F398.spec{a:Addr}(H:cF (rd h (a.add 0)) λ_ b _=>cF (rd h (a.add 0)) λc d _=>aX c λc=>0<=(ax ((b:Int)-(1:Int)))/\(ax ((b:Int)-(1:Int)))<(d:Int)/\aS .i64 (rd h ((c.add ((ax ((b:Int)-(1:Int))).toNat*2)).add 0)) λd=>aS .i64 (rd h ((c.add ((ax ((b:Int)-(1:Int))).toNat*2)).add 1)) λc=>bg h (.cells #[ap 0,ap 0] 357) λe f=>aY f ((aw e).add 0) (ap d) λd=>aY d ((aw e).add 1) (ap c) λc=>cF (rd c (a.add 0)) λd _ f=>0<=(ax ((b:Int)-(1:Int)))/\(ax ((b:Int)-(1:Int)))<=(f:Int)/\aY c ((a.add 0).add 0) (.slice (if f=0 then d else Option.map (λa=>Addr.add a (0*2)) d) ((ax ((b:Int)-(1:Int))).toNat-0) (f-0)) λb=>bU (rd b (a.add 1)) λa=>aS .i64 (rd b ((aw e).add 0)) λc=>yy b a .i64 .i64 c λa=>aS .i64 (rd a ((aw e).add 0)) λb=>aS .i64 (rd a ((aw e).add 1)) λc=>K (.iface 357 (.agg #[ap b,ap c])) a):Cl 398 [au a] h K:=cT F398.T Tryz.func398 H
def F399.T:bh:=⟨[],[(1,[[(0,[]),(1,[]),(2,[]),(3,[]),(4,[]),(5,[]),(6,[]),(7,[]),(8,[]),(9,[]),(10,[]),(11,[])]]),(2,[[(0,[]),(1,[]),(2,[]),(3,[]),(4,[]),(5,[]),(6,[0,1,2,3,4]),(7,[0]),(8,[]),(9,[]),(10,[])]])]⟩
def F399.spec{a:Addr}(H:bg h (.cells #[ap 0,ap 0] 357) λb c=>aY c ((aw b).add 0) (ap i) λc=>aY c ((aw b).add 1) (ap j) λc=>bU (rd c (a.add 1)) λd=>aS .i64 (rd c ((aw b).add 0)) λe=>cF (rd c (a.add 0)) λ_ f _=>lu c d .i64 .i64 e (ap (f:Int)) λc=>cF (rd c (a.add 0)) λd e f=>aS .i64 (rd c ((aw b).add 0)) λg=>aS .i64 (rd c ((aw b).add 1)) λb=>bg c (.cells #[ap g,ap b] 357) λb c=>aF (au a)/\aF (au a)/\aF (au a)/\aF (au (a.add 0))/\cF (rd c (a.add 0)) λg i j=>aG (.slice g i j) (.slice d e f)/\fQ c 357 2 16 #[ap 0,ap 0] d e f (some (aw b)) 1 λb c d e=>aF (au a)/\aY e ((a.add 0).add 0) (.slice b c d) λa=>K aE a):Cl 399 [au a,.iface 357 (.agg #[ap i,ap j])] h K:=cT F399.T Tryz.func399 H
def F400.T:bh:=⟨[],[(0,[[(0,[]),(1,[]),(2,[]),(3,[]),(4,[]),(5,[]),(6,[]),(7,[]),(8,[]),(9,[]),(10,[]),(11,[]),(12,[]),(13,[]),(14,[]),(15,[]),(16,[]),(17,[]),(18,[]),(19,[]),(20,[]),(21,[]),(22,[]),(23,[]),(24,[]),(25,[9]),(26,[]),(27,[])]]),(1,[[(0,[]),(1,[]),(2,[]),(3,[]),(4,[]),(5,[]),(6,[]),(7,[]),(8,[]),(9,[]),(10,[]),(11,[]),(12,[]),(13,[]),(14,[]),(15,[]),(16,[]),(17,[]),(18,[]),(19,[]),(20,[]),(21,[]),(22,[]),(23,[]),(24,[]),(25,[]),(26,[24,25]),(27,[]),(28,[25]),(29,[25]),(30,[]),(31,[])]])]⟩
def F400.spec{i j:Int}{a:Addr}(H:cF (rd h (a.add 0)) λb c _=>cF (rd h (a.add 0)) λd e _=>cF (rd h (a.add 0)) λf g _=>aX f λf=>0<=j/\j<(g:Int)/\aS .i64 (rd h ((f.add (j.toNat*2)).add 0)) λg=>aS .i64 (rd h ((f.add (j.toNat*2)).add 1)) λf=>cF (rd h (a.add 0)) λk l _=>aX k λk=>0<=i/\i<(l:Int)/\aS .i64 (rd h ((k.add (i.toNat*2)).add 0)) λl=>aS .i64 (rd h ((k.add (i.toNat*2)).add 1)) λk=>aX b λb=>0<=i/\i<(c:Int)/\aY h ((b.add (i.toNat*2)).add 0) (ap g) λc=>aY c ((b.add (i.toNat*2)).add 1) (ap f) λb=>aF (ap j)/\aX d λc=>0<=j/\j<(e:Int)/\aY b ((c.add (j.toNat*2)).add 0) (ap l) λb=>aY b ((c.add (j.toNat*2)).add 1) (ap k) λb=>bU (rd b (a.add 1)) λc=>cF (rd b (a.add 0)) λd e _=>aX d λd=>0<=i/\i<(e:Int)/\aS .i64 (rd b ((d.add (i.toNat*2)).add 0)) λd=>bU (rd b (a.add 1)) λe=>cF (rd b (a.add 0)) λa f _=>aX a λa=>0<=j/\j<(f:Int)/\aS .i64 (rd b ((a.add (j.toNat*2)).add 0)) λa=>zC b c .i64 .i64 d (ap 0) λb d f=>aS .i64 (some b) λ_=>aF (ap i)/\aF (ap j)/\zb f c d (ap i) λb=>aF (ap j)/\zC b e .i64 .i64 a (ap 0) λa b c=>aS .i64 (some a) λ_=>aF (ap j)/\zb c e b (ap j) λa=>K aE a):Cl 400 [au a,ap i,ap j] h K:=cT F400.T Tryz.func400 H
def F339.T:bh:=⟨[(0,[0,1])],[]⟩
section
variable (n:Nat)(b:Addr)(a:Int)(h:aI)(K:KK)
def F339.wL0:Prop:=Lp Tryz.f339 F339.T [0] n [(0,(.iface 370 (au b))),(1,(ap a))] h K
def F339.sL0:F339.wL0 (n+1) b a h K=(((2:Int)≠0/\aJ ((ax (Int.tdiv (ax (a-1)) 2))==a) (K aE h) (Cl 397 [au b,ap a,ap (ax (Int.tdiv (ax (a-1)) 2))] h λc d=>bQ (some c) λc=>aJ (!c) (K aE d) (Cl 400 [au b,ap (ax (Int.tdiv (ax (a-1)) 2)),ap a] d λc d=>c=aE/\F339.wL0 n b (ax (Int.tdiv (ax (a-1)) 2)) d K)))):=by kernel_rfl
def F339.spec(H:(∃c,F339.wL0 c b a h K)):Cl 339 [.iface 370 (au b),ap a] h K:=cT F339.T Tryz.func339 H
end
def F358.T:bh:=⟨[(2,[0,1,2,7]),(8,[0,1,2,7,9]),(11,[1,7])],[]⟩
section
variable (bk2:Addr->Int->Int->Int->aI->Prop)(n:Nat)(c:Addr)(b d a f:Int)(h:aI)(K:KK)
def F358.wL2:Prop:=Lp Tryz.f358 F358.T [1,1,0,0] n [(0,(.iface 370 (au c))),(1,(ap b)),(2,(ap d)),(7,(ap a))] h K
def F358.wk11:Prop:=K (aD (a>b)) h
def F358.wk8:Prop:=Cl 397 [au c,ap f,ap a] h λe g=>bQ (some e) λe=>aJ (!e) (F358.wk11 b a g K) (Cl 400 [au c,ap a,ap f] g λa e=>a=aE/\bk2 c b d f e)
def F358.sL2:F358.wL2 (n+1) c b d a h K=(aJ ((ax ((ax (2*a))+1))>=d) (F358.wk11 b a h K) (aJ ((ax ((ax (2*a))+1))<0) (F358.wk11 b a h K) (aJ ((ax ((ax ((ax (2*a))+1))+1))<d) (Cl 397 [au c,ap (ax ((ax ((ax (2*a))+1))+1)),ap (ax ((ax (2*a))+1))] h λe f=>bQ (some e) λe=>aJ e (F358.wk8 (λa b c d e=>F358.wL2 n a b c d e K) c b d a (ax ((ax ((ax (2*a))+1))+1)) f K) (F358.wk8 (λa b c d e=>F358.wL2 n a b c d e K) c b d a (ax ((ax (2*a))+1)) f K)) (F358.wk8 (λa b c d e=>F358.wL2 n a b c d e K) c b d a (ax ((ax (2*a))+1)) h K)))):=by kernel_rfl
def F358.wk2:Prop:=(∃e,F358.wL2 e c b d a h K)
def F358.spec(H:F358.wk2 c b d b h K):Cl 358 [.iface 370 (au c),ap b,ap d] h K:=cT F358.T Tryz.func358 H
end
def F341.spec(H:Cl 357 [au a] h λb c=>aS .i64 (some b) λb=>Cl 400 [au a,ap 0,ap (ax (b-1))] c λc d=>c=aE/\Cl 358 [.iface 370 (au a),ap 0,ap (ax (b-1))] d λb c=>bQ (some b) λ_=>Cl 398 [au a] c λa b=>jX (some a) λa=>K a b):Cl 341 [.iface 370 (au a)] h K:=cN Tryz.func341 H
def F309.spec(H:Cl 399 [au a,.iface 357 (.agg #[ap i,ap j])] h λb c=>b=aE/\Cl 357 [au a] c λb c=>aS .i64 (some b) λb=>Cl 339 [.iface 370 (au a),ap (ax (b-1))] c λa b=>a=aE/\K aE b):Cl 309 [.iface 370 (au a),.iface 357 (.agg #[ap i,ap j])] h K:=cN Tryz.func309 H
def F288.spec(H:bg h (.map #[] 0) λa b=>bg b (.cells #[.slice none 0 0,.map (some a)] 374) λa b=>bg b (.cells #[au (aw a)] 376) λa b=>K (au (aw a)) b):Cl 288 [] h K:=cN Tryz.func288 H
def F289.spec{a:Addr}(H:aZ (rd h (a.add 0)) λb=>aX b λb=>bU (rd h (b.add 1)) λb=>dT h b .i64 .i64 i λb=>aS .i64 (some (kU (ap 0) b)) λ_=>aJ (Option.isSome b) (K aB h) (aZ (rd h (a.add 0)) λa=>Cl 309 [.iface 370 (aA a),.iface 357 (.agg #[ap i,ap j])] h λa b=>a=aE/\K aC b)):Cl 289 [au a,ap i,ap j] h K:=cN Tryz.func289 H
def F340.spec{a:Addr}(H:aZ (rd h (a.add 0)) λa=>Cl 357 [aA a] h λa b=>aS .i64 (some a) λa=>K (ap a) b):Cl 340 [au a] h K:=cN Tryz.func340 H
def F311.spec{a:Addr}(H:bg h (.cells #[ap 0,ap 0] 357) λb c=>aZ (rd c (a.add 0)) λa=>Cl 341 [.iface 370 (aA a)] c λa c=>jX (some a) λa=>lP Tryz.prog 357 false a λa=>du Tryz.prog 357 (some (aw b)) a c λa=>aS .i64 (rd a ((aw b).add 0)) λc=>aS .i64 (rd a ((aw b).add 1)) λb=>K (.agg #[ap c,ap b]) a):Cl 311 [au a] h K:=cN Tryz.func311 H
end
end Go.Proofs.YtnofenejoebkhaaGreat.Ev
