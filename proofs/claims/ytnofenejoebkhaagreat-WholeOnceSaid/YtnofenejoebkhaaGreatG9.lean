/- PART 9 OF WHAT THE LAW WholeOnce STANDS ON. Conditions: none but those that each lemma states. -/
import Derived.Test.YtnofenejoebkhaaGreatG8
namespace Go.Proofs.YtnofenejoebkhaaGreat.Ev
open Go
set_option linter.defProp false
set_option maxRecDepth 100000
set_option autoImplicit true
set_option relaxedAutoImplicit true
def xG{h:aI}{K:KK}{h0:aI}{p q m:Nat}{k o d a b c:Int}(hm:m<256)(A:At h q [ap k,ap o,ap d,ap a,ap b,ap c,.int .u8 (m:Int)])(B:At h p [ap 0,ap 0,ap 0,ap 0,ap 0,ap 0,.int .u8 0])(hp:h0.size<=p)(O:aM [] h0 h)
  (hK: ∀h' (c:lD),c.mask<256->aM [] h0 h'->K (oH c) h'):F25.wk17 (aw p) (aw q) h K:=by
 unfold F25.wk17;simp only[aL,MF];have r: ∀j,rd h ⟨q,j,none⟩=([ap k,ap o,ap d,ap a,ap b,ap c,.int .u8 (m:Int)]:List Value)[j]? :=λj=>At.rd A j;refine aH (by rw[r];rfl) (aH (by rw[r];rfl) (aH (by rw[r];rfl) (aH (by rw[r];rfl) (aH (by rw[r];rfl) (aH (by rw[r];rfl) (aH (by rw[r];rfl) ?_))))));refine aU B ak rfl λh1 B1 P1 _=>aU B1 ak rfl λh2 B2 P2 _=>aU B2 ak rfl λh3 B3 P3 _=>aU B3 ak rfl λh4 B4 P4 _=>aU B4 ak rfl λh5 B5 P5 _=>aU B5 ak rfl λh6 B6 P6 _=>aU B6 ak rfl λh7 B7 P7 _=> ?_;have B7:At h7 p [ap k,ap o,ap d,ap a,ap b,ap c,.int .u8 (m:Int)]:=B7;have O7:=(((((((O.mono (T:=[p]) ak).trans P1 λb hb _=>hb).trans P2 λb hb _=>hb).trans P3 λb hb _=>hb).trans P4 λb hb _=>hb).trans P5 λb hb _=>hb).trans P6 λb hb _=>hb).trans P7 λb hb _=>hb;have r7: ∀j,rd h7 ⟨p,j,none⟩=([ap k,ap o,ap d,ap a,ap b,ap c,.int .u8 (m:Int)]:List Value)[j]? :=λj=>At.rd B7 j;exact aH (by rw[r7];rfl) (aH (by rw[r7];rfl) (aH (by rw[r7];rfl) (aH (by rw[r7];rfl) (aH (by rw[r7];rfl) (aH (by rw[r7];rfl) (aH (by rw[r7];rfl) (hK h7 ⟨k,o,d,a,b,c,m⟩ hm (O7.mono λb hb hl=>by simp at hb;omega))))))))
def Hx(g:IntKind.min .u8<=n/\n<=IntKind.max .u8): ∃m:Nat,n=(m:Int)/\m<256:=by have a:(0:Int)<=n:=g.1;have b:n<=255:=g.2;exact⟨n.toNat,ah,ah⟩
def Iv(m:Nat): ∃q:Nat,Int.tmod (m:Int) 8=(q:Int)/\q<256:=⟨m%8,by rw[NH (NY _)];omega,ah⟩
def Gh{h:aI}{K:KK}{n0 n1 n2 n4 n5 n6 n7:Int}{b3:Bool}(g7:IntKind.min .u8<=n7/\n7<=IntKind.max .u8)(hK: ∀h' (c:lD),c.mask<256->aM [] h h'->K (oH c) h'):
  Cl 25 [.agg #[.int .u8 n0,.int .u8 n1,.int .u8 n2,aD b3,.int .u8 n4,.int .u8 n5,.int .u16 n6,.int .u8 n7]] h K:=by
 obtain⟨m,em,m8⟩:=Hx g7;subst em;obtain⟨q8,e8,l8⟩:=Iv m;refine F25.spec _ _ _ _ _ _ _ _ h K ?_;refine aX λh1 A1 O1 z1=>aX λh2 B2 O2 z2=> ?_;simp only[aL,MF];have A2:=A1.only O2 ak;have r2: ∀j,rd h2 ⟨h.size,j,none⟩=([.int .u8 n0,.int .u8 n1,.int .u8 n2,aD b3,.int .u8 n4,.int .u8 n5,.int .u16 n6,.int .u8 (m:Int)]:List Value)[j]? :=λj=>At.rd A2 j;refine aH (n:=n6) (by rw[r2];rfl) ⟨ah,aH (n:=n6) (by rw[r2];rfl) ⟨ah,ah,aH (n:=n6) (by rw[r2];rfl) ⟨ah,ah,aH (n:=n6) (by rw[r2];rfl) ⟨ah,ah,aH (n:=(m:Int)) (by rw[r2];rfl) ?_⟩⟩⟩⟩;refine aX λh3 C3 O3 z3=>aU C3 ak rfl λk1 D1 P1 _=>aU D1 ak rfl λk2 D2 P2 _=>aU D2 ak rfl λk3 D3 P3 _=>aU D3 ak rfl λk4 D4 P4 _=>aU D4 ak rfl λk5 D5 P5 _=>aU D5 ak rfl λk6 D6 P6 _=>aU D6 ak rfl λk7 D7 P7 _=> ?_;generalize ax (Int.tmod n6 4)=x2 at D7 ⊢;generalize ax (Int.tmod (IntKind.wrap .u16 (Int.tdiv n6 4)) 4)=x3 at D7 ⊢;generalize ax (Int.tmod (IntKind.wrap .u16 (Int.tdiv n6 16)) 4)=x4 at D7 ⊢;generalize ax (Int.tmod (IntKind.wrap .u16 (Int.tdiv n6 64)) 4)=x5 at D7 ⊢;have D7:At k7 h2.size [ap 0,ap 0,ap x2,ap x3,ap x4,ap x5,.int .u8 (m:Int)]:=D7;have P07:aM [h2.size] h3 k7:=(((((P1.trans P2 λb hb _=>hb).trans P3 λb hb _=>hb).trans P4 λb hb _=>hb).trans P5 λb hb _=>hb).trans P6 λb hb _=>hb).trans P7 λb hb _=>hb;have A7:=(A2.only O3 ak).only P07 (by simp;omega);have B7:=(B2.only O3 ak).only P07 (by simp;omega);have O7:aM [] h k7:=((O1.trans O2 ak).trans O3 ak).trans P07 λb hb hl=>by simp at hb;omega
 have r7: ∀j,rd k7 ⟨h.size,j,none⟩=([.int .u8 n0,.int .u8 n1,.int .u8 n2,aD b3,.int .u8 n4,.int .u8 n5,.int .u16 n6,.int .u8 (m:Int)]:List Value)[j]? :=λj=>At.rd A7 j;refine aH (n:=n4) (by rw[r7];rfl) ⟨ah,?_⟩;have sub: ∀{k k':aI},aM [] h k->aM [h2.size] k k'->aM [] h k':=λO O'=>O.trans O' λb hb hl=>by simp at hb;omega
 have a:h.size<=h1.size:=ah
 have one: ∀v:Int,aW k7 (aw h2.size) (ap v) λh'=>F25.wk17 (aw h1.size) (aw h2.size) h' K:=λv=>
  aU D7 ak rfl λk8 D8 P8 _=>xG m8 (show At k8 h2.size [ap v,ap 0,ap x2,ap x3,ap x4,ap x5,.int .u8 (m:Int)]from D8) (B7.only P8 (by simp;omega)) a (sub O7 P8) hK
 have f:aW k7 (aw h2.size) (ap 1) λd=>(True/\aQ .u8 (rd d ⟨h.size,7,none⟩) λl=>((.int .u8 l)=((.int .u8 (m:Int)):Value)/\((8:Int)≠0/\(True/\aW d ⟨h2.size,6,none⟩ (.int .u8 (Int.tmod (m:Int) 8)) λg=>F25.wk17 (aw h1.size) (aw h2.size) g K)))):=
  aU D7 ak rfl λk8 D8 P8 _=>⟨trivial,aH (n:=(m:Int)) (by rw[At.rd (A7.only P8 (by simp;omega))];rfl) ⟨rfl,ah,trivial,aU D8 ak rfl λk9 D9 P9 _=>by rw[e8]at D9;exact xG l8 (show At k9 h2.size [ap 1,ap 0,ap x2,ap x3,ap x4,ap x5,.int .u8 (q8:Int)]from D9) ((B7.only P8 (by simp;omega)).only P9 (by simp;omega)) a (sub (sub O7 P8) P9) hK⟩⟩
 have l7: ∀{Q:Int->Prop},Q (m:Int)->aQ .u8 (rd k7 ⟨h.size,7,none⟩) Q:=λhQ=>aH (n:=(m:Int)) (by rw[r7];rfl) hQ;refine aS (λ_=>aS (λ_=>l7 ⟨ah,f⟩) λ_=> ?_) λ_=>aS (λ_=>l7 ⟨ah,f⟩) λ_=> ?_
 all_goals
  refine aS (λ_=>one 4) λ_=>aS (λ_=>one 5) λ_=>aS (λ_=>one 7) λ_=>aS (λ_=>one 8) λ_=>aH (n:=n5) (by rw[r7];rfl) ⟨ah,aU D7 ak rfl λk8 D8 P8 _=>⟨trivial,aH (n:=n5) (by rw[At.rd (A7.only P8 (by simp;omega))];rfl) ⟨rfl,ah,trivial,trivial,trivial,?_⟩⟩⟩;generalize ax (ax (Int.tmod n5 10)+1)=x1;refine aU D8 ak rfl λk9 D9 P9 _=> ?_;have D9:At k9 h2.size [ap 3,ap x1,ap x2,ap x3,ap x4,ap x5,.int .u8 (m:Int)]:=D9;have A9:=(A7.only P8 (by simp;omega)).only P9 (by simp;omega);have B9:=(B7.only P8 (by simp;omega)).only P9 (by simp;omega);have O9:=sub (sub O7 P8) P9;refine aH (n:=x1) (by rw[At.rd D9];rfl) (aS (λ_=>aH (n:=(m:Int)) (by rw[At.rd A9];rfl) ⟨ah,?_⟩) λ_=>xG m8 D9 B9 a O9 hK);rw[e8];exact aU D9 ak rfl λi D10 P10 _=>xG l8 (show At i h2.size [ap 3,ap x1,ap x2,ap x3,ap x4,ap x5,.int .u8 (q8:Int)]from D10) (B9.only P10 (by simp;omega)) a (sub O9 P10) hK
def GI.bgn{G:EG}(I:GI t nw h e G)(hk:k<4)(hp:(G.E.ses k).pend=false)(hr:fX G.n (G.E.ses k) c=0)(W':db h' e (eG G k c))(ht:t+1<=1000000):GI (t+1) nw h' e (eG G k c):=by
 have es:(eG G k c).E.ses=i4 G.E.ses k (sq (G.E.ses k) c):=rfl;have sk: ∀{m},m≠k->(eG G k c).E.ses m=G.E.ses m:=λhm=>by rw[es,cO hm]
 have si:(eG G k c).E.ses k=sq (G.E.ses k) c:=by rw[es,dt]
 have s2:=gU (f:=frs) hk es;have s3:=gU (f:=yZ) hk es;have f1:frs (sq (G.E.ses k) c)<=1:=by unfold frs;split<;>omega
 have f2:yZ (sq (G.E.ses k) c)=1:=rfl;have bl:=I.bl;have ba:=I.ba;refine⟨W',λm hm q=> ?_,λm hm q z=> ?_,λj hj=> ?_,λm hm m' d q1 q2 q3 q4=> ?_,?_,?_,I.bm,ht,I.ws⟩
 ·by_cases y:m=k
  ·subst y;rw[si];exact hr
  ·rw[sk y]at q ⊢;exact I.ok m hm q
 ·by_cases y:m=k
  ·subst y;rw[si]at z;exact Nc rfl z
  ·rw[sk y]at q z ⊢;exact I.jb m hm q z
 ·obtain⟨m,hm,a,b⟩:=I.js j hj;have y:m≠k:=λy=>by rw[y,hp]at a;cases a
  exact⟨m,hm,by rw[sk y];exact a,by rw[sk y];exact b⟩
 ·by_cases y:m=k
  ·subst y;rw[si]at q4;exact Nc rfl q4
  ·by_cases y':m'=k
   ·subst y';rw[si,sk y]at q3;rw[sk y]at q4;exact Nc q3 q4
   ·rw[sk y]at q1 q3 q4;rw[sk y']at q2 q3;exact I.un m hm m' d q1 q2 q3 q4
 ·show G.P.last+_<=_;omega
 ·show G.E.ans+_<=_;omega
def GI.up(I:GI t nw h e G)(ht:t+1<=1000000):GI (t+1) nw h e G:=⟨I.W,I.ok,I.jb,I.js,I.un,Nat.le_succ_of_le I.bl,Nat.le_succ_of_le I.ba,I.bm,ht,I.ws⟩
def Eu(I:GI t nw h e G)(ht:t+1<=1000000){c:lD}(hm:c.mask<256)(hK: ∀h' G' (x:Int),GI (t+1) nw h' e G'->bD e G h G' h'->K (ap x) h'):Cl 24 [bg e,ap i,oH c] h K:=by have up: ∀{h'},aM [] h h'->GI (t+1) nw h' e G:=λO=>(I.only0 O).up ht;exact wP I.W hm (λ_ h1 O1=>hK h1 G _ (up O1) (bD.only0 O1)) (λ_ _ _ _ h1 O1=>hK h1 G _ (up O1) (bD.only0 O1)) (λ_ _ _ _ _ h1 O1=>hK h1 G _ (up O1) (bD.only0 O1)) λk hk _ hp hr h1 W1 S1=>hK h1 _ _ (I.bgn hk hp hr W1 ht) S1
def GI.new(W:db h e G)(s1:G.E.ses=(wg 0 0 0).ses)(a1:G.E.ans=0)(j1:G.P.jobs=[])(l1:G.P.last=0)(M1:G.M=0):GI 0 G.P.ws.length h e G:=by
 have np: ∀k,(G.E.ses k).pend=false:=λk=>by rw[s1];rfl
 refine⟨W,λk _ q=>(by rw[np]at q;cases q),λk _ q=>(by rw[np]at q;cases q),λj hj=>(by rw[j1]at hj;cases hj),λk _ m _ q=>(by rw[np]at q;cases q),?_,?_,ah,ah,rfl⟩
 ·rw[l1,s1];exact MN _
 ·rw[a1,s1];exact MN _
def JI(R:Gz h0 p l 8 sv)(O:aM [] h0 h)(hi:i<l)(hp:p=some a): ∀j,j<8->rd h (Addr.add (Addr.add a (Int.toNat (i:Int)*8)) j)=some (sv i j):=λj hj=>by obtain⟨b,eb,rb⟩:=R i j hi hj;rw[hp]at eb;injection eb with eb;subst eb;rw[xw,MO];exact xM rb O ak
def Kg(W:db h e G)(hK: ∀h',aM [] h h'->F4.wL9 bk f a c (some (aw e)) (ax (x7+1)) h' K):
  F4.wk18 bk f a c (some (aw e)) x7 0 h K:=by
 unfold F4.wk18;have ok:=W.W.S.ok;have n8:G.n<=8:=ok.2.2.1
 have m: ∀(d i:Nat) (h1:aI),i+d=4->aM [] h h1->F4.wL18 (d+1) bk f a c (some (aw e)) x7 (i:Int) h1 K:=by
  intro d
  induction d with
  |zero=>
   intro i h1 hi O1;rw[F4.sL18];rw[MJ ah,aJ];exact hK h1 O1
  |succ d ih=>
   intro i h1 hi O1;rw[F4.sL18];rw[MP ah,aO];unfold F4.wk21
   have l: ∀(d2 r:Nat) (h2:aI),r+d2=4->aM [] h h2->F4.wL21 (d2+1) bk (d+1) f a c (some (aw e)) x7 (i:Int) (r:Int) h2 K:=by
    intro d2
    induction d2 with
    |zero=>
     intro r h2 hr O2;rw[F4.sL21];rw[MJ ah,aJ,sS ah];exact ih (i+1) h2 ah O2
    |succ d2 ih2=>
     intro r h2 hr O2;rw[F4.sL21];rw[MP ah,aO];have W2:=W.only0 O2;refine Jh W2.I ⟨_,_,rfl,?_⟩
     have er:vi G.E (i:Int) (r:Int)=(((G.E.ses i).hnd r:Int),(G.E.ses i).there r):=by unfold vi;rw[MK ⟨ah,by unfold kH;omega⟩,MO,MO]
     rw[er]
     have hn:isN G.N ((G.E.ses i).hnd r):=by
      cases q:(G.E.ses i).there r with
      |true=>exact W.rg i ah r ah q
      |false=>rw[W.r0 i ah r ah q];exact .inl ah
     refine te W2.I (aR rfl (func29 (λj hj=>by have:G.fo j<G.n:=(W.po.2 j hj).1;show G.fo j<8;omega) W2.W.S hn λh3 g _ _ O3=>⟨_,_,_,_,_,rfl,aX λh4 A4 O4 z4=> ?_⟩));simp only[aL,MF];refine aU A4 ak rfl λk1 D1 P1 _=>aU D1 ak rfl λk2 D2 P2 _=>aU D2 ak rfl λk3 D3 P3 _=>aU D3 ak rfl λk4 D4 P4 _=> ?_;have O24:aM [] h h4:=((O2.trans O3 ak).trans O4 ak)
     have Ok:aM [] h k4:=O24.trans (((P1.trans P2 λb hb _=>hb).trans P3 λb hb _=>hb).trans P4 λb hb _=>hb) λb hb hl=>by simp only[MH]at hb;have:=(O2.trans O3 ak).size;omega
     have nx:F4.wL21 (d2+1) bk (d+1) f a c (some (aw e)) x7 (i:Int) (ax ((r:Int)+1)) k4 K:=by rw[sS ah];exact ih2 (r+1) k4 ah Ok
     rw[Ng,aJ];exact aS (λ_=>nx) λ_=>nx
   exact⟨_,l 4 0 h1 ah O1⟩
 exact⟨_,m 4 0 h ah (aM.refl _ _)⟩
def law4(h:aI)(n0:Int)(w0:IntKind.min .u8<=n0/\n0<=IntKind.max .u8)(p:az)(c l:Nat)(sv:Nat->Nat->Value)(R:Gz h p l 8 sv)(_:(l:Int)<=maxLen)(g0: ∀i,i<l-> ∃n,sv i 0= .int .u8 n/\IntKind.min .u8<=n/\n<=IntKind.max .u8)(g1: ∀i,i<l-> ∃n,sv i 1= .int .u8 n/\IntKind.min .u8<=n/\n<=IntKind.max .u8)
  (g2: ∀i,i<l-> ∃n,sv i 2= .int .u8 n/\IntKind.min .u8<=n/\n<=IntKind.max .u8) (g3: ∀i,i<l-> ∃b,sv i 3=aD b) (g4: ∀i,i<l-> ∃n,sv i 4= .int .u8 n/\IntKind.min .u8<=n/\n<=IntKind.max .u8) (g5: ∀i,i<l-> ∃n,sv i 5= .int .u8 n/\IntKind.min .u8<=n/\n<=IntKind.max .u8)
  (g6: ∀i,i<l-> ∃n,sv i 6= .int .u16 n/\IntKind.min .u16<=n/\n<=IntKind.max .u16) (g7: ∀i,i<l-> ∃n,sv i 7= .int .u8 n/\IntKind.min .u8<=n/\n<=IntKind.max .u8):Cl 4 [.int .u8 n0,.slice p l c] h (sN h):=by
 refine F4.spec _ _ _ _ h _ ?_;refine CJ λh1 O1=>aZ rfl ?_;rw[Ng,aJ];refine aS (λ_=>⟨rfl,O1⟩) λhl=>⟨ah,?_⟩;have hl:=MU hl;refine F6 (n:=8) (room:=16384) ah ah ah ah λh2 e G W2 s2 a2 n2 m2 f2 u _ N2 j2 w2 _ o M2 b2 O2=>⟨_,_,rfl,?_⟩;rw[show((0:Int) !=0)=false from rfl,aJ];have I2:=GI.new W2 s2 a2 j2 o M2;obtain⟨nw,m⟩: ∃nw,nw=G.P.ws.length:=⟨_,rfl⟩;rw[<-m]at I2;have q:=W2.W.Ok.len;unfold F4.wk9
 have g: ∀(d i:Nat) (h3:aI) (G3:EG),i+d=l->GI i nw h3 e G3->aM [] h h3->(∀b∈mF e G3,h.size<=b)->F4.wL9 (d+1) p l c (some (aw e)) (i:Int) h3 (sN h):=by
  intro d
  induction d with
  |zero=>
   intro i h3 G3 hi I3 O3 b3;rw[F4.sL9];rw[MJ ah,aJ];unfold F4.wk27;refine GM I3 λh4 G4 I4 S4 _=>aZ rfl ?_;rw[aO];exact te I4.W.I (aR rfl (zt I4.W.W.S λh5 O5=>aZ rfl ⟨rfl,(S4.only O3 b3).trans O5 ak⟩))
  |succ d ih=>
   intro i h3 G3 hi I3 O3 b3;rw[F4.sL9];rw[MP ah,aO];have f:i<l:=ah;obtain⟨a,ea,-⟩:=R i 0 f ah;have r:=JI R O3 f ea;obtain⟨y0,e0,u0⟩:=g0 i f;obtain⟨y1,e1,u1⟩:=g1 i f;obtain⟨y2,e2,u2⟩:=g2 i f;obtain⟨y3,e3⟩:=g3 i f;obtain⟨y4,e4,u4⟩:=g4 i f;obtain⟨y5,e5,u5⟩:=g5 i f;obtain⟨y6,e6,u6⟩:=g6 i f;obtain⟨y7,e7,u7⟩:=g7 i f;have i1:(0:Int)<=(i:Int):=ah;have i2:(i:Int)<(Nat.cast l:Int):=ah
   have j: ∀{h4:aI} {G4:EG},GI (i+1) nw h4 e G4->bD e G3 h3 G4 h4->F4.wk15 (d+1) p l c (some (aw e)) (i:Int) h4 (sN h):=λ{h4 G4} I4 S4=>by unfold F4.wk15;have O4:=S4.only O3 b3;have b4:=S4.ge O3.size b3;refine te I4.W.I (aR rfl (zt I4.W.W.S λh5 O5=>aZ rfl ?_));rw[Ng,aJ];refine Kg (I4.W.only0 O5) λh6 O6=> ?_;rw[wrap_i64 ah ah,show(i:Int)+1=((i+1:Nat):Int) by omega];exact ih (i+1) h6 G4 ah ((I4.only0 O5).only0 O6) ((O4.trans O5 ak).trans O6 ak) b4
   rw[ea];simp only[aT];rw[<-ea];have l0: ∀{Q:Int->Prop},Q y0->aQ .u8 (rd h3 (Addr.add (Addr.add a (Int.toNat (i:Int)*8)) 0)) Q:=λhQ=>aH (by rw[r 0 ah,e0]) hQ;have l1: ∀{Q:Int->Prop},Q y1->aQ .u8 (rd h3 (Addr.add (Addr.add a (Int.toNat (i:Int)*8)) 1)) Q:=λhQ=>aH (by rw[r 1 ah,e1]) hQ;have l2: ∀{Q:Int->Prop},Q y2->aQ .u8 (rd h3 (Addr.add (Addr.add a (Int.toNat (i:Int)*8)) 2)) Q:=λhQ=>aH (by rw[r 2 ah,e2]) hQ;have l3: ∀{Q:Bool->Prop},Q y3->bP (rd h3 (Addr.add (Addr.add a (Int.toNat (i:Int)*8)) 3)) Q:=λhQ=>aZ (by rw[r 3 ah,e3]) hQ;refine⟨i1,i2,l0 ⟨ah,i1,i2,l3 (aS (λ_=>⟨i1,i2,l0 (l1 (l2 (l3 (aH (by rw[r 4 ah,e4]) (aH (by rw[r 5 ah,e5]) (aH (by rw[r 6 ah,e6]) (aH (by rw[r 7 ah,e7]) (Gh u7 λh4 cc hm O4=>⟨_,_,_,_,_,_,_,rfl,?_⟩))))))))⟩) λ_=>⟨i1,i2,l1 ⟨i1,i2,l2 (iz I3.W (aH rfl ?_))⟩⟩)⟩⟩
   ·exact Eu (I3.only0 O4) ah hm λh5 G5 x I5 S5=>aH rfl (j I5 ((bD.only0 O4).trans S5))
   ·have wn:(G3.P.ws.length:Int)≠0:=by have:=I3.W.W.Ok.len;omega
    refine⟨by trivial,by trivial,by trivial,i1,i2,by trivial,by trivial,l1 ⟨rfl,by trivial,by trivial,by trivial,i1,i2,by trivial,by trivial,l2 ⟨rfl,by trivial,wn,?_⟩⟩⟩;exact zh (I3.up ah) λb h4 G4 I4 S4 _ _=>aZ rfl (j I4 S4)
 exact⟨_,g l 0 h2 G ah I2 (O1.trans O2 ak) λb hb=>by have:=b2 b hb;have:=O1.size;omega⟩
end Go.Proofs.YtnofenejoebkhaaGreat.Ev
