/- PART 3 OF WHAT THE LAW WholeTotal STANDS ON. Conditions: none but those that each lemma states. -/
import Derived.Test.YtnofenejoebkhaaGreatG2
namespace Go.Proofs.YtnofenejoebkhaaGreat.Ev
open Go
set_option linter.defProp false
set_option maxRecDepth 100000
set_option autoImplicit true
set_option relaxedAutoImplicit true
def sK(op mask a b c:Nat):Nat:=op*2^56+(mask*2^48+(a*2^32+(b*2^16+c)))
def uW(h2:mask<2^8)(h3:a<2^16)(h4:b<2^16)(h5:c<2^16)(g2:d<2^8)(g3:a'<2^16)(g4:b'<2^16)(g5:c'<2^16)(e:sK op mask a b c=sK f d a' b' c'):
  op=f/\mask=d/\a=a'/\b=b'/\c=c':=by
 unfold sK at e;omega
def wY{h:aI}{op mask a b c:Nat}{K:KK}(h1:op<2^8)(h2:mask<2^8)(h3:a<2^16)(h4:b<2^16)(h5:c<2^16)(hK:K (ar ((sK op mask a b c:Nat):Int)) h):
  Cl 228 [.int .u8 (op:Int),.int .u8 (mask:Int),aq (a:Int),aq (b:Int),aq (c:Int)] h K:=by
 refine F228.spec ?_;have U: ∀{x:Nat},x<2^64->IntKind.wrap .u64 (x:Int)=(x:Int):=λh=>pC (by unfold jP;omega)
 have e1:IntKind.wrap .u64 ((IntKind.wrap .u64 (op:Int))*2^(min (Int.toNat (56:Int)) (IntKind.bits .u64)))=((op<<<56:Nat):Int):=by rw[U ah,show min (Int.toNat (56:Int)) (IntKind.bits .u64)=56 by rfl,show(op:Int)*2^56=((op*2^56:Nat):Int) by omega,U ah,MN]
 have e2:IntKind.wrap .u64 ((IntKind.wrap .u64 (mask:Int))*2^(min (Int.toNat (48:Int)) (IntKind.bits .u64)))=((mask<<<48:Nat):Int):=by rw[U ah,show min (Int.toNat (48:Int)) (IntKind.bits .u64)=48 by rfl,show(mask:Int)*2^48=((mask*2^48:Nat):Int) by omega,U ah,MN]
 have e3:IntKind.wrap .u64 ((IntKind.wrap .u64 (a:Int))*2^(min (Int.toNat (32:Int)) (IntKind.bits .u64)))=((a<<<32:Nat):Int):=by rw[U ah,show min (Int.toNat (32:Int)) (IntKind.bits .u64)=32 by rfl,show(a:Int)*2^32=((a*2^32:Nat):Int) by omega,U ah,MN]
 have e4:IntKind.wrap .u64 ((IntKind.wrap .u64 (b:Int))*2^(min (Int.toNat (16:Int)) (IntKind.bits .u64)))=((b<<<16:Nat):Int):=by rw[U ah,show min (Int.toNat (16:Int)) (IntKind.bits .u64)=16 by rfl,show(b:Int)*2^16=((b*2^16:Nat):Int) by omega,U ah,MN]
 refine⟨ah,ah,ah,ah,?_⟩;rw[e1,e2,e3,e4,U ah];have s1:op<<<56<jP:=by rw[MN];unfold jP;omega
 have s2:mask<<<48<jP:=by rw[MN];unfold jP;omega
 have s3:a<<<32<jP:=by rw[MN];unfold jP;omega
 have s4:b<<<16<jP:=by rw[MN];unfold jP;omega
 have s5:c<jP:=by unfold jP;omega
 rw[HG s1 s2,HG (pG s1 s2) s3,HG (pG (pG s1 s2) s3) s4,HG (pG (pG (pG s1 s2) s3) s4) s5,PK,PK,PK,<-Nw h5,
  <-Nw (b:=b<<<16+c) (by rw[MN];omega),<-Nw (b:=a<<<32+(b<<<16+c)) (by rw[MN,MN];omega),
  <-Nw (b:=mask<<<48+(a<<<32+(b<<<16+c))) (by rw[MN,MN,MN];omega)]
 rw[MN,MN,MN,MN];exact hK
def mw.get(S:mw Q cs)(G:wA (eU 0 256 key) key cs v true):Q key v:=by
 rcases G with⟨-,h1,h2,h3⟩|⟨h,-⟩
 ·have hl:=ga key (n:=256) ah;obtain⟨a,b,c,d⟩:=S (gP key 256) hl;unfold eU at h1 h2 h3;rw[LX]at h1 h2 h3;rw[yb a b]at h1;rw[<-h2,h3];exact d h1
 ·cases h
def mw.put(S:mw Q cs)(G:vI (eU 0 256 key) key v cs cs')(hq:Q key v):mw Q cs':=by
 obtain⟨h1,h2,h3⟩:=G;have hl:=ga key (n:=256) ah;unfold eU at h2 h3;generalize gP key 256=y at hl h2 h3;rw[LX]at h2 h3;rcases h3 with⟨h4,h5,h6,h7⟩|⟨-,h4⟩
 ·intro l f;by_cases e:l=y
  ·subst e;obtain⟨a,b,c,d⟩:=S l f;rw[Gu a b]at h5;rw[h5,h6,h7];have w:=mN (4*(cs.getD (3*l) 0/4)+2+cs.getD (3*l) 0%2+4);rw[w];refine⟨ah,ah,ah,λ_=>hq⟩
  ·rw[h2 (3*l) ah ah ah,h2 (3*l+1) ah ah ah,h2 (3*l+2) ah ah ah];exact S l f
 ·subst h4;exact S
def EK:bR X 229=some cH.go:=by kernel_rfl
def tt(W:CW h c m mc 0 256 cs ops fails)(H:gw h f m (He 0 256 key))(d1:f≠c)(d2:f≠m)(d3:f≠mc)
  (hK: ∀h' l j v ok,wA (eU 0 256 key) key cs v ok->CW h' c m mc 0 256 cs l j->aM [f,m,mc] h h'->K (.tuple #[aq (IntKind.wrap .u32 v),aD ok]) h'):
  F182.wk5 (some (aw f)) (.func (.func 229) #[au (aw f)] #[]) h K:=by
 unfold F182.wk5
 have n: ∀(d:Nat) (A:Ac) (h1:aI) (i a:Int),9-A.ph<=d->A.ph<=8->CK cs A->A.pos=eU 0 256 key->A.key=key->gw h1 f m A->CW h1 c m mc 0 256 cs i a->aM [f,m,mc] h h1->
   F182.wL5 (d+1) (some (aw f)) (.func (.func 229) #[au (aw f)] #[]) h1 K:=by
  intro d
  induction d with
  |zero=>intro A h1 i a hg hp;omega
  |succ d ih=>
   intro A h1 i a hg q G hp hk H1 W1 O1;rw[F182.sL5];refine bj EK ?_;refine tq W1 H1 (by rw[hp];exact W1.pos key) q d1 d2 d3 λh2 k g H2 W2 O2=>a8 rfl ?_;obtain⟨s1,s2,s3,s4⟩:=G.step;rw[s1]at W2;have O12:=O1.trans O2 λb hb _=>hb;rcases s4 with⟨e,r⟩|⟨G',e⟩
   ·rw[e,MF,aK];unfold F182.wk6;refine BJ H2 ⟨_,_,rfl,?_⟩;rw[hp,hk]at r;exact hK h2 k g _ _ r W2 O12
   ·rw[G'.1,MS,aO]
    have o:(bW cs A).1.ph<=8:=by rcases G'.2.2 with e'|⟨e',_⟩|⟨e',_⟩|⟨e',_⟩<;>omega
    exact ih _ h2 k g ah o G' (s2.trans hp) (s3.trans hk) H2 W2 O12
 exact⟨_,n 5 (He 0 256 key) h ops fails (by show 9-5<=5;omega) (by show 5<=8;omega) ⟨rfl,rfl,Or.inl rfl⟩ rfl rfl H W (aM.refl _ _)⟩
def yE(W:CW h c m mc 0 256 cs ops fails)(H:gw h f m (GQ 0 256 key val))(d1:f≠c)(d2:f≠m)(d3:f≠mc)
  (hK: ∀h' n k cs',vI (eU 0 256 key) key val cs cs'->CW h' c m mc 0 256 cs' n k->aM [f,m,mc] h h'->K aE h'):
  F207.wk3 (.func (.func 229) #[au (aw f)] #[]) h K:=by
 unfold F207.wk3
 have o: ∀(d:Nat) (A:Ac) (j:List Int) (h1:aI) (i a:Int),5-A.ph<=d->A.ph<=4->xN cs j A->A.pos=eU 0 256 key->A.key=key->A.val=val->gw h1 f m A->CW h1 c m mc 0 256 j i a->aM [f,m,mc] h h1->
   F207.wL3 (d+1) (.func (.func 229) #[au (aw f)] #[]) h1 K:=by
  intro d
  induction d with
  |zero=>intro A j h1 i a hg hp;omega
  |succ d ih=>
   intro A j h1 i a hg u G hp hk hv H1 W1 O1;rw[F207.sL3];refine bj EK ?_;refine tq W1 H1 (by rw[hp];exact W1.pos key) ah d1 d2 d3 λh2 l g H2 W2 O2=>a8 rfl ?_;obtain⟨s2,s3,q,s4⟩:=G.step (by rw[hp];exact W.pos key);have O12:=O1.trans O2 λb hb _=>hb;rcases s4 with⟨e,eo,r⟩|⟨G',e⟩
   ·rw[e,MF,aK];rw[hp,hk,hv]at r;exact hK h2 l g _ r W2 O12
   ·rw[G'.1,MS,aO]
    have t:(bW j A).1.ph<=4:=by rcases G'.2.2 with⟨e',_⟩|⟨_,_,⟨e',_⟩|⟨e',_⟩|⟨e',_⟩|⟨e',_⟩⟩<;>omega
    exact ih _ _ h2 l g ah t G' (s2.trans hp) (s3.trans hk) (q.trans hv) H2 W2 O12
 exact⟨_,o 5 (GQ 0 256 key val) cs h ops fails (by show 5-0<=5;omega) (Nq _) ⟨rfl,rfl,Or.inl ⟨rfl,rfl⟩⟩ rfl rfl rfl H W (aM.refl _ _)⟩
def uy{X:SX}{B:SB}(H:nM h s X.n X.room B X.f X.g X.N F X.Q X.off)(O:aM [B.cm,B.cmc] h h')(C:rq h' B X.Q):nM h' s X.n X.room B X.f X.g X.N F X.Q X.off:=by
 have sp:=H.m.sep;have ts:=H.t.sep
 have n1: ∀b,b∈[s,B.ob]++aV B.p++aV B.fp->b∉[B.cm,B.cmc]:=λb hb hm=>by
  unfold SB.bm at sp;simp only[ML,List.mem_append,Pp,MO,List.mem_cons,MR,Nk,NU]at sp;obtain⟨⟨g1,_,g2⟩,_,g4⟩:=sp;have hc:b=s\/b=B.ob\/b=B.cac\/b=B.cm\/b=B.cmc:=by simp at hm;omega
  simp only[List.mem_append,List.mem_cons,MR,Nk]at hb hm;rcases hb with(hb|hb)|hb
  ·omega
  ·exact g2 b hc b hb rfl
  ·exact g4 b (.inl hc) b hb rfl
 refine⟨⟨H.m.S.only O (n1 _ ak),H.m.O.only O (n1 _ ak),H.m.own.only O λb hb=>n1 _ (by simp[hb,aV]),H.m.fre.only O λb hb=>n1 _ (by simp[hb]),C,H.m.n8,H.m.len,H.m.sep⟩,H.t.only O λb hb hm=>ts b hm (by simp[SB.bm]at hb ⊢;omega),H.ok,H.cnt,H.fre⟩
def kT{h:aI}{s:Nat}{L:List Nat}{X:SX}{K:KK}(H:bT h s L X){op mask a b c:Nat}(h1:op<2^8)(h2:mask<2^8)(h3:a<2^16)(h4:b<2^16)(h5:c<2^16)
  (hN: ∀h',bT h' s L X->aM L h h'->K (.tuple #[aq 0,aB]) h') (hY: ∀h' v,X.Q (sK op mask a b c:Nat) v->bT h' s L X->aM L h h'->K (.tuple #[aq (IntKind.wrap .u32 v),aC]) h'):
  Cl 182 [au (aw s),.int .u8 (op:Int),.int .u8 (mask:Int),aq (a:Int),aq (b:Int),aq (c:Int)] h K:=by
 have H0:=H;obtain⟨B,F,e,H⟩:=H;obtain⟨cs,o,f',W,S⟩:=H.m.cac;refine F182.spec _ _ _ _ _ _ h K ?_;simp only[aL,LX];refine a8 (n:=X.off) (by rw[At.rd H.m.S];rfl) (aR (λ_=>hN h H0 (aM.refl _ _)) λ_=> ?_);have rc:rd h ⟨s,6,none⟩=some (au (aw B.cac)):=by rw[At.rd H.m.S];rfl
 refine aQ rc (wY h1 h2 h3 h4 h5 (aH rfl ⟨trivial,trivial,trivial,aQ rc ⟨rfl,?_⟩⟩));refine Az W.cac ah ah ah λf k1 A1 O1 g1=>aQ rfl ?_;have wl:=W.lt;refine tt (W.only O1 ak ak ak) A1 ah ah ah λh' i d v ok G W' O'=> ?_;have OO:aM [B.cm,B.cmc] h h':=((aM.refl [B.cm,B.cmc] h).trans O1 ak).trans O' (by intro x hx hl;simp at hx ⊢;omega);have S':bT h' s L X:=⟨B,F,e,uy H OO ⟨cs,i,d,W',S⟩⟩
 have OL:aM L h h':=OO.mono λx hx _=>by subst e;simp[SB.bm]at hx ⊢;omega
 cases ok with
 |true=>exact hY h' v (S.get G) S' OL
 |false=>
  rcases G with⟨g,-⟩|⟨-,g,-⟩
  ·cases g
  ·subst g;exact hN h' S' OL
def pj{h:aI}{s:Nat}{L:List Nat}{X:SX}{K:KK}(H:bT h s L X){op mask a b c r:Nat}(h1:op<2^8)(h2:mask<2^8)(h3:a<2^16)(h4:b<2^16)(h5:c<2^16)(h6:r<2^32)(hq:X.Q (sK op mask a b c:Nat) (r:Int))
  (hK: ∀h',bT h' s L X->aM L h h'->K aE h'):
  Cl 207 [au (aw s),.int .u8 (op:Int),.int .u8 (mask:Int),aq (a:Int),aq (b:Int),aq (c:Int),aq (r:Int)] h K:=by
 have H0:=H;obtain⟨B,F,e,H⟩:=H;obtain⟨cs,o,f',W,S⟩:=H.m.cac;refine F207.spec _ _ _ _ _ _ _ h K ?_;simp only[aL,LX];refine a8 (n:=X.off) (by rw[At.rd H.m.S];rfl) (aR (λ_=>hK h H0 (aM.refl _ _)) λ_=> ?_);have rc:rd h ⟨s,6,none⟩=some (au (aw B.cac)):=by rw[At.rd H.m.S];rfl
 refine aQ rc (wY h1 h2 h3 h4 h5 (aH rfl ⟨trivial,trivial,trivial,aQ rc ⟨rfl,by trivial,by trivial,?_⟩⟩));rw[pC (a:=r) (by unfold jP;omega)];refine Ai W.cac ah ah ah λf k1 A1 O1 g1=>aQ rfl ?_;have wl:=W.lt;refine yE (W.only O1 ak ak ak) A1 ah ah ah λh' g d cs' G W' O'=> ?_;have OO:aM [B.cm,B.cmc] h h':=((aM.refl [B.cm,B.cmc] h).trans O1 ak).trans O' (by intro x hx hl;simp at hx ⊢;omega);have S':bT h' s L X:=⟨B,F,e,uy H OO ⟨cs',g,d,W',S.put G hq⟩⟩
 have OL:aM L h h':=OO.mono λx hx _=>by subst e;simp[SB.bm]at hx ⊢;omega
 exact hK h' S' OL
def F115.T:bh:=⟨[(2,[0,1,2,7,12,13]),(7,[0,1,2,7])],[]⟩
section
variable (n:Nat)(f:Addr)(g:Int)(i:Nat)(l o q:Int)(j:Addr)(a b c d:Int)(h:aI)(K:KK)
def F115.wL2:Prop:=Lp Tryz.f115 F115.T [1,0,1,0] n [(0,(au f)),(1,(.int .u8 g)),(2,(.func (.func i) #[] #[])),(7,(au j)),(12,(.agg #[aq a,aq b,aq c])),(13,(ap d))] h K
def F115.JL2(m:Addr->Int->Nat->Addr->Int->Int->Int->Int->aI->Prop)(k7:Addr->Int->Nat->Addr->aI->Prop)(f:Addr)(g:Int)(i:Nat)(j:Addr)(a b c d:Int)(h:aI)(K:KK):Prop:=aJ (d<3) ((0<=d/\d<3/\aS .u32 ([aq a,aq b,aq c]:List Value)[d.toNat]? (λe=>Cl 74 [au f,aq e] h λe k=>bQ (some e) λe=>aJ (!e) (K (.tuple #[aq 0,ap 101]) k) (m f g i j a b c (ax (d+1)) k)))) (k7 f g i j h)
def F115.wk7:Prop:=aS .u32 (rd h (j.add 0)) λa=>aS .u32 (rd h (j.add 1)) λb=>aS .u32 (rd h (j.add 2)) λc=>Cl 164 [.agg #[au f,.int .u8 g,.func (.func i) #[] #[]],.agg #[aq a,aq b,aq c]] h λa b=> ∃c:Int,∃d:Int,a=(.tuple #[aq c,ap d])/\K (.tuple #[aq c,ap d]) b
def F115.sL2:F115.wL2 (n+1) f g i j a b c d h K=(F115.JL2 (λa b c d e f g i j=>F115.wL2 n a b c d e f g i j K) (λa b c d e=>F115.wk7 a b c d e K) f g i j a b c d h K):=by kernel_rfl
def F115.wk2:Prop:=(∃e,F115.wL2 e f g i j a b c d h K)
def F115.spec(H:bg h (.cells #[aq l,aq o,aq q] 203) λa b=>aS .u32 (rd b ((aw a).add 0)) λc=>aS .u32 (rd b ((aw a).add 1)) λd=>aS .u32 (rd b ((aw a).add 2)) λe=>F115.wk2 f g i (aw a) c d e 0 b K):Cl 115 [au f,.int .u8 g,.func (.func i) #[] #[],.agg #[aq l,aq o,aq q]] h K:=cT F115.T Tryz.func115 H
end
def F164.T:bh:=⟨[(9,[2,3,10,45,46]),(13,[2,3,10]),(22,[14,16])],[]⟩
section
variable (n:Nat)(j:az)(l:Int)(o:Value)(q r s:Int)(g i:Addr)(d t u a b c f:Int)(h:aI)(K:KK)
def F164.wL9:Prop:=Lp Tryz.f164 F164.T [1,1,1,1,0,1,0] n [(2,(au g)),(3,(au i)),(10,(ap d)),(45,(.agg #[aq a,aq b,aq c])),(46,(ap f))] h K
def F164.JL9(k:Addr->Addr->Int->Int->Int->Int->Int->aI->Prop)(m:Addr->Addr->Int->aI->Prop)(g i:Addr)(d a b c f:Int)(h:aI)(_K:KK):Prop:=aJ (f<3) ((0<=f/\f<3/\aS .u32 ([aq a,aq b,aq c]:List Value)[f.toNat]? (λe=>aZ (rd h (g.add 0)) λj=>Cl 71 [aA j,aq e] h λe j=>aS .i64 (some e) λe=>k g i (if e<d then e else d) a b c (ax (f+1)) j))) (m g i d h)
def F164.wk22:Prop:=K (.tuple #[aq u,ap t]) h
def F164.wk13:Prop:=aZ (rd h (g.add 0)) λa=>aS .u8 (rd h (g.add 1)) λb=>jX (rd h (g.add 2)) λc=>aS .u32 (rd h (i.add 0)) λe=>aS .u32 (rd h (i.add 1)) λf=>aS .u32 (rd h (i.add 2)) λj=>Cl 206 [.agg #[aA a,.int .u8 b,c],.agg #[aq e,aq f,aq j],ap d,.func (.func 72) #[] #[]] h λa b=> ∃c:Int,∃e:Int,a=(.tuple #[aq c,ap e])/\aJ (e !=0) (K (.tuple #[aq 0,ap e]) b) (aZ (rd b (g.add 0)) λa=>aS .u8 (rd b (g.add 1)) λe=>jX (rd b (g.add 2)) λf=>aS .u32 (rd b (i.add 0)) λj=>aS .u32 (rd b (i.add 1)) λk=>aS .u32 (rd b (i.add 2)) λl=>Cl 206 [.agg #[aA a,.int .u8 e,f],.agg #[aq j,aq k,aq l],ap d,.func (.func 73) #[] #[]] b λa b=> ∃e:Int,∃f:Int,a=(.tuple #[aq e,ap f])/\aJ (f !=0) (K (.tuple #[aq 0,ap f]) b) (aZ (rd b (g.add 0)) λa=>Cl 161 [aA a,ap d,aq c,aq e] b λa b=> ∃c:Int,∃d:Int,a=(.tuple #[aq c,ap d])/\aJ (d==0) (aZ (rd b (g.add 0)) λa=>aS .u8 (rd b (g.add 1)) λe=>0<=(0:Int)/\(0:Int)<(3:Int)/\aS .u32 (rd b (i.add ((0:Int).toNat*1))) λf=>0<=(1:Int)/\(1:Int)<(3:Int)/\aS .u32 (rd b (i.add ((1:Int).toNat*1))) λg=>0<=(2:Int)/\(2:Int)<(3:Int)/\aS .u32 (rd b (i.add ((2:Int).toNat*1))) λi=>Cl 207 [aA a,.int .u8 e,.int .u8 0,aq f,aq g,aq i,aq c] b λa b=>a=aE/\F164.wk22 d c b K) (F164.wk22 d c b K)))
def F164.sL9:F164.wL9 (n+1) g i d a b c f h K=(F164.JL9 (λa b c d e f g i=>F164.wL9 n a b c d e f g i K) (λa b c d=>F164.wk13 a b c d K) g i d a b c f h K):=by kernel_rfl
def F164.wk9:Prop:=(∃e,F164.wL9 e g i d a b c f h K)
def F164.spec(H:bg h (.cells #[aA j,.int .u8 l,o] 255) λa b=>bg b (.cells #[aq q,aq r,aq s] 203) λb c=>jX (rd c ((aw a).add 2)) λd=>aS .u32 (rd c ((aw b).add 0)) λe=>aS .u32 (rd c ((aw b).add 1)) λf=>aS .u32 (rd c ((aw b).add 2)) λg=>dS Tryz.prog X d [.agg #[aq e,aq f,aq g]] c λc d=> ∃e:Int,∃f:Bool,c=(.tuple #[aq e,aD f])/\aJ f (K (.tuple #[aq e,ap 0]) d) (aZ (rd d ((aw a).add 0)) λc=>aS .u8 (rd d ((aw a).add 1)) λe=>0<=(0:Int)/\(0:Int)<(3:Int)/\aS .u32 (rd d ((aw b).add ((0:Int).toNat*1))) λf=>0<=(1:Int)/\(1:Int)<(3:Int)/\aS .u32 (rd d ((aw b).add ((1:Int).toNat*1))) λg=>0<=(2:Int)/\(2:Int)<(3:Int)/\aS .u32 (rd d ((aw b).add ((2:Int).toNat*1))) λi=>Cl 182 [aA c,.int .u8 e,.int .u8 0,aq f,aq g,aq i] d λc d=> ∃e:Int,∃f:Bool,c=(.tuple #[aq e,aD f])/\aJ f (K (.tuple #[aq e,ap 0]) d) (aZ (rd d ((aw a).add 0)) λc=>Cl 75 [aA c] d λc d=>aS .i64 (some c) λc=>aS .u32 (rd d ((aw b).add 0)) λe=>aS .u32 (rd d ((aw b).add 1)) λf=>aS .u32 (rd d ((aw b).add 2)) λg=>F164.wk9 (aw a) (aw b) c e f g 0 d K))):Cl 164 [.agg #[aA j,.int .u8 l,o],.agg #[aq q,aq r,aq s]] h K:=cT F164.T Tryz.func164 H
end
def F206.T:bh:=⟨[(2,[2,3,4,5,12,13]),(6,[4,5])],[]⟩
section
variable (n:Nat)(l:az)(o:Int)(q:Value)(r s t i:Int)(j:Value)(f g:Addr)(a b c d:Int)(h:aI)(K:KK)
def F206.wL2:Prop:=Lp Tryz.f206 F206.T [1,0,1,0] n [(2,(ap i)),(3,j),(4,(au f)),(5,(au g)),(12,(.agg #[aq a,aq b,aq c])),(13,(ap d))] h K
def F206.JL2(m:Int->Value->Addr->Addr->Int->Int->Int->Int->aI->Prop)(k6:Addr->Addr->aI->Prop)(i:Int)(j:Value)(f g:Addr)(a b c d:Int)(h:aI)(_K:KK):Prop:=aJ (d<3) ((0<=d/\d<3/\aS .u32 ([aq a,aq b,aq c]:List Value)[d.toNat]? (λe=>aZ (rd h (f.add 0)) λk=>Cl 251 [aA k,j,aq e,ap i] h λe k=>aS .u32 (some e) λe=>0<=d/\d<3/\aY k ((g.add (d.toNat*1)).add 0) (aq e) λe=>m i j f g a b c (ax (d+1)) e))) (k6 f g h)
def F206.wk6:Prop:=aZ (rd h (f.add 0)) λa=>aS .u8 (rd h (f.add 1)) λb=>jX (rd h (f.add 2)) λc=>aS .u32 (rd h (g.add 0)) λd=>aS .u32 (rd h (g.add 1)) λe=>aS .u32 (rd h (g.add 2)) λf=>Cl 164 [.agg #[aA a,.int .u8 b,c],.agg #[aq d,aq e,aq f]] h λa b=> ∃c:Int,∃d:Int,a=(.tuple #[aq c,ap d])/\K (.tuple #[aq c,ap d]) b
def F206.sL2:F206.wL2 (n+1) i j f g a b c d h K=(F206.JL2 (λa b c d e f g i j=>F206.wL2 n a b c d e f g i j K) (λa b c=>F206.wk6 a b c K) i j f g a b c d h K):=by kernel_rfl
def F206.wk2:Prop:=(∃e,F206.wL2 e i j f g a b c d h K)
def F206.spec(H:bg h (.cells #[aA l,.int .u8 o,q] 255) λa b=>bg b (.cells #[aq r,aq s,aq t] 203) λb c=>aS .u32 (rd c ((aw b).add 0)) λd=>aS .u32 (rd c ((aw b).add 1)) λe=>aS .u32 (rd c ((aw b).add 2)) λf=>F206.wk2 i j (aw a) (aw b) d e f 0 c K):Cl 206 [.agg #[aA l,.int .u8 o,q],.agg #[aq r,aq s,aq t],ap i,j] h K:=cT F206.T Tryz.func206 H
end
def F251.spec(b:Addr)(c:Value)(a d:Int)(h:aI)(K:KK)(H:Cl 71 [au b,aq a] h λe f=>aS .i64 (some e) λe=>aJ (e !=d) (K (aq a) f) (dS Tryz.prog X c [au b,aq a] f λa b=>aS .u32 (some a) λa=>K (aq a) b)):Cl 251 [au b,c,aq a,ap d] h K:=cN Tryz.func251 H
def Gl: ∀y:Fin 256,∀v:Fin 8,∀b:Bool,wN y.1 v.1 b<256:=by decide+kernel
def Eb: ∀y:Fin 256,∀v:Fin 8,∀b:Bool,∀i:Fin 8,(wN y.1 v.1 b).testBit i.1=if i.1=v.1 then b else y.1.testBit i.1:=by decide+kernel
def mL{y:Nat}(hy:y<256)(hv:v<8)(b:Bool)(hi:i<8):(wN y v b).testBit i=if i=v then b else y.testBit i:=Eb ⟨y,hy⟩ ⟨v,hv⟩ b ⟨i,hi⟩
def DE(hy:y<256)(hv:v<8)(b:Bool):wN y v b<256:=Gl ⟨y,hy⟩ ⟨v,hv⟩ b
def nv(op:Nat)(x y z:Bool):Bool:=if op=2 then x&&y else if op=3 then x||y else if op=4 then x !=y else if x then y else z
structure lZ(n:Nat)(f:Nat->Nat)(N:ay)(op a b c r:Nat):Prop where
 is:isN N r
 lv: ∀k,k<=lvl n N a->k<=lvl n N b->k<=lvl n N c->k<=lvl n N r
 sm: ∀x,sm n f N r x=nv op (sm n f N a x) (sm n f N b x) (sm n f N c x)
def lZ.ext(R:lZ n f N op a b c r)(H:cX n N)(E:Ex N N')(ha:isN N a)(hb:isN N b)(hc:isN N c):lZ n f N' op a b c r:=
 ⟨E.isN R.is,λk h1 h2 h3=>by rw[E.lvl ha]at h1;rw[E.lvl hb]at h2;rw[E.lvl hc]at h3;rw[E.lvl R.is];exact R.lv k h1 h2 h3,λx=>by rw[E.sm H R.is,E.sm H ha,E.sm H hb,E.sm H hc,R.sm]⟩
def QL(n:Nat)(f:Nat->Nat)(N:ay)(k v:Int):Prop:= ∃op mask a b c r:Nat,k=(sK op mask a b c:Nat)/\v=(r:Int)/\mask<2^8/\isN N a/\isN N b/\isN N c/\a<2^16/\b<2^16/\c<2^16/\
 ((op<6/\mask=0/\lZ n f N op a b c r)\/((op=6\/op=7)/\QR n f N op mask a r))
def QL.ext(Q:QL n f N k v)(H:cX n N)(E:Ex N N'):QL n f N' k v:=by obtain⟨op,mask,a,b,c,r,h1,h2,h3,h4,h5,h6,h7,h8,h9,R⟩:=Q;exact⟨op,mask,a,b,c,r,h1,h2,h3,E.isN h4,E.isN h5,E.isN h6,h7,h8,h9,R.imp (λ⟨x,y,R⟩=>⟨x,y,R.ext H E h4 h5 h6⟩) λ⟨x,R⟩=>⟨x,R.ext H E h4⟩⟩
def QL.get(h6:op<6)(Q:QL n f N (sK op 0 a b c:Nat) v)(ha:a<2^16)(hb:b<2^16)(hc:c<2^16): ∃r:Nat,v=r/\lZ n f N op a b c r:=by
 obtain⟨e,d,a',b',c',r,h1,h2,h3,-,-,-,h7,h8,h9,R⟩:=Q;obtain⟨e1,e0,e2,e3,e4⟩:=uW (by decide) ha hb hc h3 h7 h8 h9 (Int.ofNat.inj h1);subst e1 e0 e2 e3 e4;rcases R with⟨-,-,R⟩|⟨h,-⟩
 ·exact⟨r,h2,R⟩
 ·omega
def QL.getq(h6:op=6\/op=7)(hm:mask<2^8)(Q:QL n f N (sK op mask a b c:Nat) v)(ha:a<2^16)(hb:b<2^16)(hc:c<2^16): ∃r:Nat,v=r/\QR n f N op mask a r:=by
 obtain⟨e,d,a',b',c',r,h1,h2,h3,-,-,-,h7,h8,h9,R⟩:=Q;obtain⟨e1,e0,e2,e3,e4⟩:=uW hm ha hb hc h3 h7 h8 h9 (Int.ofNat.inj h1);subst e1 e0 e2 e3 e4;rcases R with⟨h,-⟩|⟨-,R⟩
 ·omega
 ·exact⟨r,h2,R⟩
def Ic{h:aI}{s:Nat}{L:List Nat}{X:SX}(H:bT h s L X){Q':Int->Int->Prop}(hQ: ∀k v,X.Q k v->Q' k v):bT h s L {X with Q:=Q'}:=by obtain⟨B,F,e,H⟩:=H;obtain⟨cs,o,fl,c1,c2⟩:=H.m.cac;refine⟨B,F,e,⟨⟨H.m.S,H.m.O,H.m.own,H.m.fre,⟨cs,o,fl,c1,λl hl=> ?_⟩,H.m.n8,H.m.len,H.m.sep⟩,H.t,H.ok,H.cnt,H.fre⟩⟩;obtain⟨g1,g2,g3,g4⟩:=c2 l hl;exact⟨g1,g2,g3,λe=>hQ _ _ (g4 e)⟩
def XL(n room:Nat)(f g:Nat->Nat)(N:ay)(off:Bool):SX:=⟨n,room,f,g,N,QL n f N,off⟩
def rX{h:aI}{s n room:Nat}{f g:Nat->Nat}{L:List Nat}{N N':ay}{off:Bool}(H:bT h s L {XL n room f g N off with N:=N'})(ok:cX n N)(E:Ex N N'):bT h s L (XL n room f g N' off):=
 Ic H λ_ _ h=>QL.ext h ok E
def vS(g op:Nat):Prop:= ∀{h:aI} {a b c:Nat} {K:KK},
 (∀h' (r:Nat),aM [] h h'->(∀n f N,cX n N->isN N a->isN N b->isN N c->lZ n f N op a b c r)->K (.tuple #[aq (r:Int),aC]) h')->
 (∀h' (r:Nat),aM [] h h'->(2<=a\/2<=b\/2<=c)->K (.tuple #[aq (r:Int),aB]) h')->
 Cl g [.agg #[aq (a:Int),aq (b:Int),aq (c:Int)]] h K
def gT(h:a<2):lvl n N a=n:=by unfold lvl;rw[L4 h]
def cZ{a b:Nat}:((a:Int)==(b:Int))=decide (a=b):=by
 by_cases h:a=b
 ·subst h;simp
 ·rw[L7 h];simp;omega
def F91.T:bh:=⟨[(7,[3,7,8,9]),(10,[3,7,8])],[(13,[[(0,[]),(1,[]),(2,[]),(3,[]),(4,[]),(5,[]),(6,[]),(7,[1,2,3,4]),(8,[]),(9,[]),(10,[])]])]⟩
section
variable (n:Nat)(o:Addr)(f g i j l:Int)(b a c:Addr)(d:Int)(h:aI)(K:KK)
def F91.wL7:Prop:=Lp Tryz.f91 F91.T [1,1,1,1,0,1,0] n [(3,(au b)),(7,(au a)),(8,(au c)),(9,(ap d))] h K
def F91.JL7(A:Addr->Addr->Addr->Int->aI->Prop)(z:Addr->Addr->Addr->aI->Prop)(b a c:Addr)(d:Int)(h:aI)(_K:KK):Prop:=aJ (d<3) ((0<=d/\d<3/\aY h ((c.add (d.toNat*1)).add 0) (aq 0) λe=>A b a c (ax (d+1)) e)) (z b a c h)
def F91.wk10:Prop:=aS .i64 (rd h (b.add 0)) λd=>aS .u8 (rd h (b.add 4)) λe=>aS .u32 (rd h (c.add 0)) λf=>aS .u32 (rd h (c.add 1)) λg=>aS .u32 (rd h (c.add 2)) λc=>Cl 135 [au a,.int .u8 (IntKind.wrap .u8 d),.int .u8 e,.agg #[aq f,aq g,aq c]] h λc d=>aZ (some c) λc=>aS .i64 (rd d (b.add 0)) λe=>aJ (e==1) (aS .u32 (rd d (b.add 1)) λe=>aX c λf=>aY d ((f.add 1).add 0) (.int .u8 4) λd=>aF (aA c)/\aF (au (b.add 1))/\aS .u32 (rd d (b.add 1)) λb=>aG (aq b) (aq e)/\aF (.agg #[aq 1,aq e,aq 0])/\aX c λb=>aY d ((b.add 3).add 0) (aq 1) λc=>aY c ((b.add 3).add 1) (aq e) λc=>aY c ((b.add 3).add 2) (aq 0) λb=>K (.tuple #[au a,ap 0]) b) (aJ (e==6) (aJ (e==6) (aX c λb=>aY d ((b.add 8).add 0) (.func (.func 136) #[aA c] #[]) λb=>K (.tuple #[au a,ap 0]) b) (aJ (e==8) (aX c λb=>aY d ((b.add 8).add 0) (.func (.func 137) #[aA c] #[]) λb=>K (.tuple #[au a,ap 0]) b) (aJ (e==9) (aX c λb=>aY d ((b.add 8).add 0) (.func (.func 138) #[aA c] #[]) λb=>K (.tuple #[au a,ap 0]) b) (aJ (e==10) (aX c λb=>aY d ((b.add 8).add 0) (.func (.func 139) #[aA c] #[]) λb=>K (.tuple #[au a,ap 0]) b) (K (.tuple #[au a,ap 0]) d))))) (aJ (e==7) (aX c λb=>aY d ((b.add 8).add 0) (.func (.func 136) #[aA c] #[]) λb=>K (.tuple #[au a,ap 0]) b) (aJ (e==8) (aX c λb=>aY d ((b.add 8).add 0) (.func (.func 137) #[aA c] #[]) λb=>K (.tuple #[au a,ap 0]) b) (aJ (e==9) (aX c λb=>aY d ((b.add 8).add 0) (.func (.func 138) #[aA c] #[]) λb=>K (.tuple #[au a,ap 0]) b) (aJ (e==10) (aX c λb=>aY d ((b.add 8).add 0) (.func (.func 139) #[aA c] #[]) λb=>K (.tuple #[au a,ap 0]) b) (K (.tuple #[au a,ap 0]) d))))))
def F91.sL7:F91.wL7 (n+1) b a c d h K=(F91.JL7 (λa b c d e=>F91.wL7 n a b c d e K) (λa b c d=>F91.wk10 a b c d K) b a c d h K):=by kernel_rfl
def F91.wk7:Prop:=(∃e,F91.wL7 e b a c d h K)
def F91.spec(H:bg h (.cells #[ap f,aq g,aq i,aq j,.int .u8 l] 66) λa b=>aS .i64 (rd b ((aw a).add 0)) λc=>aS .u32 (rd b ((aw a).add 1)) λd=>aS .u32 (rd b ((aw a).add 2)) λe=>aS .u32 (rd b ((aw a).add 3)) λf=>aS .u8 (rd b ((aw a).add 4)) λg=>Cl 133 [au o,.agg #[ap c,aq d,aq e,aq f,.int .u8 g]] b λb c=>aS .i64 (some b) λb=>aJ (b !=0) (K (.tuple #[aA none,ap b]) c) (bg c (.cells #[au o,.slice none 0 0,aq 0,aB,ap 0] 228) λb c=>aS .u32 (rd c ((aw a).add 1)) λd=>aS .u32 (rd c ((aw a).add 2)) λe=>aS .u32 (rd c ((aw a).add 3)) λf=>bg c (.cells #[aq 0,aq 0,aq 0] 115) λc g=>aY g ((aw c).add 0) (aq d) λd=>aY d ((aw c).add 1) (aq e) λd=>aY d ((aw c).add 2) (aq f) λd=>aS .i64 (rd d ((aw a).add 0)) λe=>Cl 134 [ap e] d λd e=>aS .i64 (some d) λd=>F91.wk7 (aw a) (aw b) (aw c) d e K)):Cl 91 [au o,.agg #[ap f,aq g,aq i,aq j,.int .u8 l]] h K:=cT F91.T Tryz.func91 H
end
def F133.T:bh:=⟨[(5,[0,3,21,22,23]),(10,[0,3])],[(13,[[(0,[]),(1,[]),(2,[]),(3,[]),(4,[0,1,2]),(5,[]),(6,[])]]),(16,[[(0,[]),(1,[]),(2,[]),(3,[]),(4,[0,1,2]),(5,[])]])]⟩
section
variable (n:Nat)(c:Addr)(l o q r s:Int)(b:Addr)(f:az)(d i:Nat)(j g:Int)(h:aI)(K:KK)
def F133.wL5:Prop:=Lp Tryz.f133 F133.T [1,1,1,0,1,0] n [(0,(au c)),(3,(au b)),(21,(.slice f d i)),(22,(ap j)),(23,(ap g))] h K
def F133.wk10:Prop:=aS .i64 (rd h (b.add 0)) λa=>aJ (a==6) (aJ (a==6) (aS .u8 (rd h (b.add 4)) λa=>Cl 75 [au c] h λc d=>aS .i64 (some c) λc=>aF (au (b.add 4))/\aS .u8 (rd d (b.add 4)) λb=>aG (.int .u8 b) (.int .u8 a)/\aF (ap (ax a))/\0<=c/\aJ ((Int.fdiv (ax a) (2^(min (c.toNat) (IntKind.bits .i64)))) !=0) (K (ap 40) d) (K (ap 0) d)) (aJ (a==8) (aS .u8 (rd h (b.add 4)) λa=>Cl 75 [au c] h λc d=>aS .i64 (some c) λc=>aF (au (b.add 4))/\aS .u8 (rd d (b.add 4)) λb=>aG (.int .u8 b) (.int .u8 a)/\aF (ap (ax a))/\aJ ((ax a)>=c) (K (ap 40) d) (K (ap 0) d)) (aJ (a==9) (aJ (a==9) (Cl 75 [au c] h λa d=>aS .i64 (some a) λa=>(2:Int)≠0/\aJ ((Int.tmod a 2)==1) (K (ap 160) d) (aS .u32 (rd d (b.add 1)) λa=>Cl 179 [au c,aq a] d λa b=>bQ (some a) λa=>aJ (!a) (K (ap 160) b) (K (ap 0) b))) (K (ap 0) h)) (aJ (a==10) (Cl 75 [au c] h λa d=>aS .i64 (some a) λa=>(2:Int)≠0/\aJ ((Int.tmod a 2)==1) (K (ap 160) d) (aS .u32 (rd d (b.add 1)) λa=>Cl 179 [au c,aq a] d λa b=>bQ (some a) λa=>aJ (!a) (K (ap 160) b) (K (ap 0) b))) (K (ap 0) h))))) (aJ (a==7) (aS .u8 (rd h (b.add 4)) λa=>Cl 75 [au c] h λc d=>aS .i64 (some c) λc=>aF (au (b.add 4))/\aS .u8 (rd d (b.add 4)) λb=>aG (.int .u8 b) (.int .u8 a)/\aF (ap (ax a))/\0<=c/\aJ ((Int.fdiv (ax a) (2^(min (c.toNat) (IntKind.bits .i64)))) !=0) (K (ap 40) d) (K (ap 0) d)) (aJ (a==8) (aS .u8 (rd h (b.add 4)) λa=>Cl 75 [au c] h λc d=>aS .i64 (some c) λc=>aF (au (b.add 4))/\aS .u8 (rd d (b.add 4)) λb=>aG (.int .u8 b) (.int .u8 a)/\aF (ap (ax a))/\aJ ((ax a)>=c) (K (ap 40) d) (K (ap 0) d)) (aJ (a==9) (aJ (a==9) (Cl 75 [au c] h λa d=>aS .i64 (some a) λa=>(2:Int)≠0/\aJ ((Int.tmod a 2)==1) (K (ap 160) d) (aS .u32 (rd d (b.add 1)) λa=>Cl 179 [au c,aq a] d λa b=>bQ (some a) λa=>aJ (!a) (K (ap 160) b) (K (ap 0) b))) (K (ap 0) h)) (aJ (a==10) (Cl 75 [au c] h λa d=>aS .i64 (some a) λa=>(2:Int)≠0/\aJ ((Int.tmod a 2)==1) (K (ap 160) d) (aS .u32 (rd d (b.add 1)) λa=>Cl 179 [au c,aq a] d λa b=>bQ (some a) λa=>aJ (!a) (K (ap 160) b) (K (ap 0) b))) (K (ap 0) h)))))
def F133.sL5:F133.wL5 (n+1) c b f d i j g h K=(aJ (g<j) (aX f λa=>0<=g/\g<(d:Int)/\aS .u32 (rd h (a.add (g.toNat*1))) λa=>Cl 74 [au c,aq a] h λa e=>bQ (some a) λa=>aJ (!a) (K (ap 101) e) (F133.wL5 n c b f d i j (ax (g+1)) e K)) (F133.wk10 c b h K)):=by kernel_rfl
def F133.wk5:Prop:=(∃a,F133.wL5 a c b f d i j g h K)
def F133.spec(H:bg h (.cells #[ap l,aq o,aq q,aq r,.int .u8 s] 66) λa b=>aS .i64 (rd b ((aw a).add 0)) λd=>Cl 134 [ap d] b λb d=>aS .i64 (some b) λb=>aJ (b==0) (K (ap 200) d) (aS .u32 (rd d ((aw a).add 1)) λe=>aS .u32 (rd d ((aw a).add 2)) λf=>aS .u32 (rd d ((aw a).add 3)) λg=>bg d (.cells #[aq e,aq f,aq g] 46) λd e=>0<=b/\b<=3/\F133.wk5 c (aw a) (if 3=0 then(some (aw d))else Option.map (λa=>Addr.add a (0*1)) (some (aw d))) (b.toNat-0) (3-0) (Nat.cast (b.toNat-0):Int) 0 e K)):Cl 133 [au c,.agg #[ap l,aq o,aq q,aq r,.int .u8 s]] h K:=cT F133.T Tryz.func133 H
end
def F134.spec(H:aJ (i==1) (aJ (i==1) (K (ap 1) h) (aJ (i==2) (aJ (i==2) (K (ap 2) h) (aJ (i==5) (K (ap 3) h) (K (ap 0) h))) (aJ (i==3) (aJ (i==3) (K (ap 2) h) (aJ (i==5) (K (ap 3) h) (K (ap 0) h))) (aJ (i==4) (aJ (i==4) (K (ap 2) h) (aJ (i==5) (K (ap 3) h) (K (ap 0) h))) (aJ (i==8) (aJ (i==8) (K (ap 2) h) (aJ (i==5) (K (ap 3) h) (K (ap 0) h))) (aJ (i==9) (aJ (i==9) (K (ap 2) h) (aJ (i==5) (K (ap 3) h) (K (ap 0) h))) (aJ (i==10) (K (ap 2) h) (aJ (i==5) (K (ap 3) h) (K (ap 0) h))))))))) (aJ (i==6) (aJ (i==6) (K (ap 1) h) (aJ (i==2) (aJ (i==2) (K (ap 2) h) (aJ (i==5) (K (ap 3) h) (K (ap 0) h))) (aJ (i==3) (aJ (i==3) (K (ap 2) h) (aJ (i==5) (K (ap 3) h) (K (ap 0) h))) (aJ (i==4) (aJ (i==4) (K (ap 2) h) (aJ (i==5) (K (ap 3) h) (K (ap 0) h))) (aJ (i==8) (aJ (i==8) (K (ap 2) h) (aJ (i==5) (K (ap 3) h) (K (ap 0) h))) (aJ (i==9) (aJ (i==9) (K (ap 2) h) (aJ (i==5) (K (ap 3) h) (K (ap 0) h))) (aJ (i==10) (K (ap 2) h) (aJ (i==5) (K (ap 3) h) (K (ap 0) h))))))))) (aJ (i==7) (K (ap 1) h) (aJ (i==2) (aJ (i==2) (K (ap 2) h) (aJ (i==5) (K (ap 3) h) (K (ap 0) h))) (aJ (i==3) (aJ (i==3) (K (ap 2) h) (aJ (i==5) (K (ap 3) h) (K (ap 0) h))) (aJ (i==4) (aJ (i==4) (K (ap 2) h) (aJ (i==5) (K (ap 3) h) (K (ap 0) h))) (aJ (i==8) (aJ (i==8) (K (ap 2) h) (aJ (i==5) (K (ap 3) h) (K (ap 0) h))) (aJ (i==9) (aJ (i==9) (K (ap 2) h) (aJ (i==5) (K (ap 3) h) (K (ap 0) h))) (aJ (i==10) (K (ap 2) h) (aJ (i==5) (K (ap 3) h) (K (ap 0) h))))))))))):Cl 134 [ap i] h K:=cN Tryz.func134 H
def F135.spec{a:Addr}(H:bg h (.cells #[aq k,aq l,aq m] 115) λb c=>aS .u32 (rd c ((aw b).add 0)) λd=>aS .u32 (rd c ((aw b).add 1)) λe=>aS .u32 (rd c ((aw b).add 2)) λb=>bg c (.cells #[au a,.int .u8 i,.int .u8 j,aq d,aq e,aq b,ap 0,aq 0,.nilFunc] 232) λb c=>aY c (((aw b).add 8).add 0) (.func (.func 180) #[au (aw b)] #[]) λc=>cF (rd c (a.add 1)) λd e f=>bg c (.cells #[au (aw b)] 229) λc g=>fQ g 229 1 8 #[aA none] d e f (some (aw c)) 1 λc d e f=>aY f ((a.add 1).add 0) (.slice c d e) λa=>K (au (aw b)) a):Cl 135 [au a,.int .u8 i,.int .u8 j,.agg #[aq k,aq l,aq m]] h K:=cN Tryz.func135 H
def F114.T:bh:=⟨[(2,[0,3]),(4,[0])],[(3,[[(0,[]),(1,[]),(2,[]),(3,[]),(4,[]),(5,[]),(6,[]),(7,[]),(8,[]),(9,[]),(10,[]),(11,[]),(12,[]),(13,[]),(14,[]),(15,[])]])]⟩
section
variable (n:Nat)(a:Addr)(b:Int)(h:aI)(K:KK)
def F114.wL2:Prop:=Lp Tryz.f114 F114.T [1,1,0,0] n [(0,(au a)),(3,(ap b))] h K
def F114.wk4:Prop:=bQ (rd h (a.add 3)) λa=>K (aD a) h
def F114.sL2:F114.wL2 (n+1) a b h K=(bQ (rd h (a.add 3)) λc=>aJ (!c) (aZ (rd h (a.add 0)) λc=>Cl 45 [aA c] h λc d=>aS .i64 (some c) λc=>aJ (c==b) (cF (rd d (a.add 1)) λc e _=>cF (rd d (a.add 1)) λ_ f _=>aX c λc=>0<=(ax ((f:Int)-(1:Int)))/\(ax ((f:Int)-(1:Int)))<(e:Int)/\aZ (rd d (c.add ((ax ((f:Int)-(1:Int))).toNat*1))) λc=>aX c λc=>jX (rd d (c.add 8)) λc=>dS Tryz.prog X c [] d λc d=>c=aE/\F114.wL2 n a b d K) (F114.wk4 a d K)) (F114.wk4 a h K)):=by kernel_rfl
def F114.wk2:Prop:=(∃c,F114.wL2 c a b h K)
def F114.spec(H:aZ (rd h (a.add 0)) λb=>Cl 45 [aA b] h λb c=>aS .i64 (some b) λb=>F114.wk2 a b c K):Cl 114 [au a] h K:=cT F114.T Tryz.func114 H
end
def F180.T:bh:=⟨[(4,[0,2,3,4]),(6,[0,2,3,4]),(10,[0,2,67,68]),(14,[0,2])],[(5,[[(0,[]),(1,[]),(2,[]),(3,[]),(4,[]),(5,[]),(6,[]),(7,[]),(8,[]),(9,[]),(10,[]),(11,[]),(12,[]),(13,[]),(14,[]),(15,[]),(16,[]),(17,[]),(18,[]),(19,[]),(20,[]),(21,[]),(22,[]),(23,[]),(24,[]),(25,[])]]),(12,[[(0,[]),(1,[]),(2,[]),(3,[]),(4,[]),(5,[]),(6,[]),(7,[0,1,2,3,4]),(8,[]),(9,[]),(10,[]),(11,[])]]),(15,[[(0,[]),(1,[]),(2,[]),(3,[]),(4,[]),(5,[]),(6,[]),(7,[]),(8,[]),(9,[]),(10,[]),(11,[0,1,2,3,4,5,6,7]),(12,[])]])]⟩
section
variable (n:Nat)(a:Addr)(g:az)(j:Int)(i:Bool)(b c d f:Int)(h:aI)(K:KK)
def F180.wL10:Prop:=Lp Tryz.f180 F180.T [1,1,1,1,1,1,0,1,0] n [(0,(au a)),(2,(aA g)),(67,(.agg #[aq b,aq c,aq d])),(68,(ap f))] h K
def F180.JL10(z:Addr->(az)->Int->Int->Int->Int->aI->Prop)(A:Addr->(az)->aI->Prop)(a:Addr)(g:az)(b c d f:Int)(h:aI)(_K:KK):Prop:=aJ (f<3) ((0<=f/\f<3/\aS .u32 ([aq b,aq c,aq d]:List Value)[f.toNat]? (λe=>aS .i64 (rd h (a.add 6)) λi=>Cl 71 [aA g,aq e] h λe j=>aS .i64 (some e) λe=>aF (au a)/\aF (au a)/\aF (au a)/\aF (au (a.add 6))/\aS .i64 (rd j (a.add 6)) λk=>aG (ap k) (ap i)/\aY j ((a.add 6).add 0) (ap (if e<i then e else i)) λe=>z a g b c d (ax (f+1)) e))) (A a g h)
def F180.wk14:Prop:=aY h ((a.add 8).add 0) (.func (.func 225) #[au a] #[]) λb=>aZ (rd b (a.add 0)) λc=>aS .u8 (rd b (a.add 1)) λd=>Cl 226 [au a,.func (.func 72) #[aA g] #[]] b λb e=> ∃f:Int,∃g:Int,∃i:Int,b=(.agg #[aq f,aq g,aq i])/\aF (au a)/\aF (au a)/\aF (au (a.add 0))/\aZ (rd e (a.add 0)) λb=>aG (aA b) (aA c)/\aF (au a)/\aF (au a)/\aF (au (a.add 1))/\aS .u8 (rd e (a.add 1)) λa=>aG (.int .u8 a) (.int .u8 d)/\Cl 135 [aA c,.int .u8 d,.int .u8 0,.agg #[aq f,aq g,aq i]] e λa b=>aZ (some a) λ_=>K aE b
def F180.sL10:F180.wL10 (n+1) a g b c d f h K=(F180.JL10 (λa b c d e f g=>F180.wL10 n a b c d e f g K) (λa b c=>F180.wk14 a b c K) a g b c d f h K):=by kernel_rfl
def F180.wk10:Prop:=(∃e,F180.wL10 e a g b c d f h K)
def F180.wk6:Prop:=aJ i (aZ (rd h (a.add 0)) λa=>Cl 181 [aA a,aq j] h λa b=>a=aE/\K aE b) (Cl 75 [aA g] h λb c=>aS .i64 (some b) λb=>aY c ((a.add 6).add 0) (ap b) λb=>aS .u32 (rd b ((a.add 3).add 0)) λc=>aS .u32 (rd b ((a.add 3).add 1)) λd=>aS .u32 (rd b ((a.add 3).add 2)) λe=>F180.wk10 a g c d e 0 b K)
def F180.wk4:Prop:=aJ (!i) (aS .u8 (rd h (a.add 1)) λb=>0<=(0:Int)/\(0:Int)<(3:Int)/\aS .u32 (rd h ((a.add 3).add ((0:Int).toNat*1))) λc=>0<=(1:Int)/\(1:Int)<(3:Int)/\aS .u32 (rd h ((a.add 3).add ((1:Int).toNat*1))) λd=>0<=(2:Int)/\(2:Int)<(3:Int)/\aS .u32 (rd h ((a.add 3).add ((2:Int).toNat*1))) λe=>Cl 182 [aA g,.int .u8 b,.int .u8 0,aq c,aq d,aq e] h λb c=> ∃d:Int,∃e:Bool,b=(.tuple #[aq d,aD e])/\F180.wk6 a g d e c K) (F180.wk6 a g j i h K)
def F180.spec(H:aZ (rd h (a.add 0)) λb=>aX b λb=>aZ (rd h (b.add 0)) λb=>Cl 223 [au a] h λc d=> ∃e:Int,∃f:Bool,c=(.tuple #[aq e,aD f])/\aJ (!f) (Cl 224 [au a] d λc d=> ∃e:Int,∃f:Bool,c=(.tuple #[aq e,aD f])/\F180.wk4 a b e f d K) (F180.wk4 a b e f d K)):Cl 180 [au a] h K:=cT F180.T Tryz.func180 H
end
def F181.T:bh:=⟨[],[(1,[[(0,[]),(1,[]),(2,[]),(3,[]),(4,[]),(5,[]),(6,[]),(7,[]),(8,[]),(9,[]),(10,[]),(11,[]),(12,[]),(13,[]),(14,[])]])]⟩
def F181.spec{a:Addr}(H:aY h ((a.add 2).add 0) (aq i) λb=>cF (rd b (a.add 1)) λc _ d=>cF (rd b (a.add 1)) λ_ e _=>0<=(ax ((e:Int)-(1:Int)))/\(ax ((e:Int)-(1:Int)))<=(d:Int)/\aY b ((a.add 1).add 0) (.slice (if d=0 then c else Option.map (λa=>Addr.add a (0*1)) c) ((ax ((e:Int)-(1:Int))).toNat-0) (d-0)) λb=>cF (rd b (a.add 1)) λ_ c _=>aY b ((a.add 3).add 0) (aD ((c:Int)==(0:Int))) λa=>K aE a):Cl 181 [au a,aq i] h K:=cT F181.T Tryz.func181 H
def F223.T:bh:=⟨[(5,[0,4,5,6])],[(1,[[(0,[]),(1,[]),(2,[]),(3,[]),(4,[]),(5,[]),(6,[]),(7,[]),(8,[]),(9,[]),(10,[]),(11,[])]])]⟩
section
variable (a:Addr)(c b d:Int)(h:aI)(K:KK)
def F223.wk5:Prop:=aS .u8 (rd h (a.add 1)) λe=>aJ (e==5) (K (.tuple #[aq 0,aB]) h) (aJ (c==d) (K (.tuple #[aq b,aC]) h) (aJ (c==b) (aS .u8 (rd h (a.add 1)) λa=>aJ (a !=4) (K (.tuple #[aq b,aC]) h) (aJ (b==d) (K (.tuple #[aq c,aC]) h) (K (.tuple #[aq 0,aB]) h))) (aJ (b==d) (K (.tuple #[aq c,aC]) h) (K (.tuple #[aq 0,aB]) h))))
end
def F223.spec{a:Addr}{h:aI}{K:KK}(H:(0<=(0:Int)/\(0:Int)<(3:Int)/\aS .u32 (rd h ((a.add 3).add ((0:Int).toNat*1))) λb=>0<=(1:Int)/\(1:Int)<(3:Int)/\aS .u32 (rd h ((a.add 3).add ((1:Int).toNat*1))) λc=>aS .u8 (rd h (a.add 1)) λd=>aJ (d==2) (F223.wk5 a b c 1 h K) (F223.wk5 a b c 0 h K))):Cl 223 [au a] h K:=cT F223.T Tryz.func223 H
def F224.T:bh:=⟨[],[(1,[[(0,[]),(1,[]),(2,[]),(3,[]),(4,[]),(5,[]),(6,[]),(7,[]),(8,[]),(9,[]),(10,[]),(11,[]),(12,[]),(13,[]),(14,[]),(15,[]),(16,[]),(17,[])]])]⟩
def F224.spec{a:Addr}{h:aI}{K:KK}(H:(0<=(0:Int)/\(0:Int)<(3:Int)/\aS .u32 (rd h ((a.add 3).add ((0:Int).toNat*1))) λb=>0<=(1:Int)/\(1:Int)<(3:Int)/\aS .u32 (rd h ((a.add 3).add ((1:Int).toNat*1))) λc=>0<=(2:Int)/\(2:Int)<(3:Int)/\aS .u32 (rd h ((a.add 3).add ((2:Int).toNat*1))) λd=>aS .u8 (rd h (a.add 1)) λa=>aJ (a==2) (aJ (b<=1) (aJ (c<=1) (K (.tuple #[aq (bu .and .u32 b c),aC]) h) (aJ (b==0) (K (.tuple #[aq (bu .and .u32 b c),aC]) h) (K (.tuple #[aq (bu .and .u32 b c),aD (c==0)]) h))) (aJ (b==0) (K (.tuple #[aq (bu .and .u32 b c),aC]) h) (K (.tuple #[aq (bu .and .u32 b c),aD (c==0)]) h))) (aJ (a==3) (aJ (b==1) (K (.tuple #[aq 1,aC]) h) (K (.tuple #[aq 1,aD (c==1)]) h)) (aJ (a==4) (aJ (b==c) (K (.tuple #[aq (bu .xor .u32 b c),aC]) h) (aJ (b<=1) (K (.tuple #[aq (bu .xor .u32 b c),aD (c<=1)]) h) (K (.tuple #[aq (bu .xor .u32 b c),aB]) h))) (aJ (b==1) (K (.tuple #[aq c,aC]) h) (aJ (c==d) (K (.tuple #[aq c,aC]) h) (aJ (b==0) (K (.tuple #[aq d,aC]) h) (K (.tuple #[aq 0,aB]) h)))))))):Cl 224 [au a] h K:=cT F224.T Tryz.func224 H
def F226.T:bh:=⟨[(3,[0,1,4,5,12,13])],[(5,[[(0,[]),(1,[]),(2,[]),(3,[]),(4,[]),(5,[]),(6,[]),(7,[]),(9,[]),(10,[]),(11,[]),(12,[]),(8,[9,10,11,12]),(13,[])]])]⟩
section
variable (n:Nat)(f:Addr)(j:Value)(g i:Addr)(a b c d:Int)(h:aI)(K:KK)
def F226.wL3:Prop:=Lp Tryz.f226 F226.T [1,1,0,1,0] n [(0,(au f)),(1,j),(4,(au g)),(5,(au i)),(12,(.agg #[aq a,aq b,aq c])),(13,(ap d))] h K
def F226.JL3(z:Addr->Value->Addr->Addr->Int->Int->Int->Int->aI->Prop)(f:Addr)(j:Value)(g i:Addr)(a b c d:Int)(h:aI)(K:KK):Prop:=aJ (d<3) ((0<=d/\d<3/\aS .u32 ([aq a,aq b,aq c]:List Value)[d.toNat]? (λe=>aZ (rd h (f.add 0)) λk=>aX k λk=>aZ (rd h (k.add 0)) λk=>aS .i64 (rd h (f.add 6)) λl=>Cl 71 [aA k,aq e] h λk m=>aS .i64 (some k) λk=>aF (au f)/\aF (au f)/\aF (au (f.add 6))/\aS .i64 (rd m (f.add 6)) λn=>aG (ap n) (ap l)/\aJ (k==l) (dS Tryz.prog X j [aq e] m λe k=>aS .u32 (some e) λe=>0<=d/\d<3/\aY k ((i.add (d.toNat*1)).add 0) (aq e) λe=>z f j g i a b c (ax (d+1)) e) (z f j g i a b c (ax (d+1)) m)))) (aS .u32 (rd h (i.add 0)) λa=>aS .u32 (rd h (i.add 1)) λb=>aS .u32 (rd h (i.add 2)) λc=>aY h (g.add 0) (aq a) λa=>aY a (g.add 1) (aq b) λa=>aY a (g.add 2) (aq c) λa=>aS .u32 (rd a (g.add 0)) λb=>aS .u32 (rd a (g.add 1)) λc=>aS .u32 (rd a (g.add 2)) λd=>K (.agg #[aq b,aq c,aq d]) a)
def F226.sL3:F226.wL3 (n+1) f j g i a b c d h K=(F226.JL3 (λa b c d e f g i j=>F226.wL3 n a b c d e f g i j K) f j g i a b c d h K):=by kernel_rfl
def F226.wk3:Prop:=(∃e,F226.wL3 e f j g i a b c d h K)
def F226.spec(H:bg h (.cells #[aq 0,aq 0,aq 0] 115) λa b=>aS .u32 (rd b ((f.add 3).add 0)) λc=>aS .u32 (rd b ((f.add 3).add 1)) λd=>aS .u32 (rd b ((f.add 3).add 2)) λe=>bg b (.cells #[aq 0,aq 0,aq 0] 115) λb g=>aY g ((aw b).add 0) (aq c) λc=>aY c ((aw b).add 1) (aq d) λc=>aY c ((aw b).add 2) (aq e) λc=>aS .u32 (rd c ((aw b).add 0)) λd=>aS .u32 (rd c ((aw b).add 1)) λe=>aS .u32 (rd c ((aw b).add 2)) λg=>F226.wk3 f j (aw a) (aw b) d e g 0 c K):Cl 226 [au f,j] h K:=cT F226.T Tryz.func226 H
end
def F225.T:bh:=⟨[],[(2,[[(0,[]),(1,[]),(2,[]),(3,[]),(4,[]),(5,[]),(6,[]),(7,[]),(8,[]),(9,[]),(10,[]),(11,[]),(12,[]),(13,[]),(14,[]),(15,[]),(16,[]),(17,[0,1,2,3,4,5,6,7]),(18,[])]])]⟩
def F225.spec{a:Addr}(H:aZ (rd h (a.add 0)) λb=>aX b λb=>aS .u32 (rd h (b.add 2)) λb=>aY h ((a.add 7).add 0) (aq b) λb=>aY b ((a.add 8).add 0) (.func (.func 273) #[au a] #[]) λb=>aZ (rd b (a.add 0)) λc=>aS .u8 (rd b (a.add 1)) λd=>aZ (rd b (a.add 0)) λe=>aX e λe=>aZ (rd b (e.add 0)) λe=>Cl 226 [au a,.func (.func 73) #[aA e] #[]] b λb e=> ∃f:Int,∃g:Int,∃i:Int,b=(.agg #[aq f,aq g,aq i])/\aF (au a)/\aF (au a)/\aF (au (a.add 0))/\aZ (rd e (a.add 0)) λb=>aG (aA b) (aA c)/\aF (au a)/\aF (au a)/\aF (au (a.add 1))/\aS .u8 (rd e (a.add 1)) λa=>aG (.int .u8 a) (.int .u8 d)/\Cl 135 [aA c,.int .u8 d,.int .u8 0,.agg #[aq f,aq g,aq i]] e λa b=>aZ (some a) λ_=>K aE b):Cl 225 [au a] h K:=cT F225.T Tryz.func225 H
def F273.T:bh:=⟨[],[(0,[[(0,[]),(1,[]),(2,[]),(3,[]),(4,[]),(5,[]),(6,[]),(7,[]),(8,[]),(9,[]),(10,[]),(11,[]),(12,[]),(13,[]),(14,[]),(15,[]),(16,[]),(17,[]),(18,[]),(19,[]),(20,[]),(21,[])]]),(2,[[(0,[]),(1,[]),(2,[]),(3,[]),(4,[]),(5,[]),(6,[]),(7,[]),(8,[]),(9,[]),(10,[]),(11,[]),(12,[]),(13,[]),(14,[]),(15,[]),(16,[]),(17,[]),(18,[]),(19,[]),(20,[]),(21,[]),(22,[]),(23,[]),(24,[]),(25,[]),(26,[]),(27,[])]])]⟩
def F273.spec{a:Addr}(H:aS .i64 (rd h (a.add 6)) λb=>aS .u32 (rd h (a.add 7)) λc=>aZ (rd h (a.add 0)) λd=>aX d λd=>aS .u32 (rd h (d.add 2)) λd=>Cl 276 [au a,ap b,aq c,aq d] h λb c=> ∃d:Int,∃e:Bool,b=(.tuple #[aq d,aD e])/\aJ e (aZ (rd c (a.add 0)) λb=>aX b λb=>aZ (rd c (b.add 0)) λb=>aS .u8 (rd c (a.add 1)) λe=>0<=(0:Int)/\(0:Int)<(3:Int)/\aS .u32 (rd c ((a.add 3).add ((0:Int).toNat*1))) λf=>0<=(1:Int)/\(1:Int)<(3:Int)/\aS .u32 (rd c ((a.add 3).add ((1:Int).toNat*1))) λg=>0<=(2:Int)/\(2:Int)<(3:Int)/\aS .u32 (rd c ((a.add 3).add ((2:Int).toNat*1))) λi=>Cl 207 [aA b,.int .u8 e,.int .u8 0,aq f,aq g,aq i,aq d] c λb c=>b=aE/\aZ (rd c (a.add 0)) λa=>Cl 181 [aA a,aq d] c λa b=>a=aE/\K aE b) (K aE c)):Cl 273 [au a] h K:=cT F273.T Tryz.func273 H
def F276.T:bh:=⟨[(4,[10,11])],[(3,[[(0,[]),(1,[]),(2,[]),(3,[]),(4,[]),(5,[]),(6,[]),(7,[]),(8,[]),(9,[]),(10,[]),(11,[]),(12,[]),(13,[]),(14,[]),(15,[]),(16,[]),(17,[]),(18,[]),(19,[]),(20,[]),(21,[])]])]⟩
section
variable (b c:Int)(h:aI)(K:KK)
def F276.wk4:Prop:=K (.tuple #[aq b,aD (c==0)]) h
end
def F276.spec{a:Addr}(H:aZ (rd h (a.add 0)) λb=>aX b λb=>aZ (rd h (b.add 0)) λb=>Cl 161 [aA b,ap i,aq j,aq k] h λb c=> ∃d:Int,∃e:Int,b=(.tuple #[aq d,ap e])/\aJ (e !=0) (aZ (rd c (a.add 0)) λb=>aZ (rd c (a.add 0)) λf=>aZ (rd c (a.add 0)) λa=>aX b λb=>aY c ((b.add 4).add 0) (ap e) λb=>aX f λc=>aY b ((c.add 3).add 0) aC λb=>aX a λa=>aY b ((a.add 1).add 0) (.slice none 0 0) λa=>F276.wk4 d e a K) (F276.wk4 d e c K)):Cl 276 [au a,ap i,aq j,aq k] h K:=cT F276.T Tryz.func276 H
def F94.T:bh:=⟨[],[(4,[[(0,[]),(1,[]),(2,[]),(3,[]),(4,[]),(5,[])]])]⟩
def F94.spec{a:Addr}(H:bQ (rd h (a.add 3)) λb=>aJ (!b) (K (.tuple #[aq 0,ap 61]) h) (aS .i64 (rd h (a.add 4)) λb=>aJ (b !=0) (aS .i64 (rd h (a.add 4)) λa=>K (.tuple #[aq 0,ap a]) h) (aS .u32 (rd h (a.add 2)) λa=>K (.tuple #[aq a,ap 0]) h))):Cl 94 [au a] h K:=cT F94.T Tryz.func94 H
def F95.spec{a:Addr}(H:bQ (rd h (a.add 3)) λa=>K (aD a) h):Cl 95 [au a] h K:=cN Tryz.func95 H
def F64.T:bh:=⟨[(5,[6,8]),(6,[6])],[]⟩
section
variable (n:Nat)(j:Addr)(a b c d f:Int)(g:az)(i:Value)(h:aI)(K:KK)
def F64.wL5:Prop:=Lp Tryz.f64 F64.T [1,1,1,0,1,0] n [(6,(aA g)),(8,i)] h K
def F64.wk6:Prop:=Cl 94 [aA g] h λa b=> ∃c:Int,∃d:Int,a=(.tuple #[aq c,ap d])/\K (.tuple #[aq c,ap d]) b
def F64.sL5:F64.wL5 (n+1) g i h K=(dS Tryz.prog X i [] h λa b=>bQ (some a) λa=>aJ (!a) (F64.wL5 n g i b K) (F64.wk6 g b K)):=by kernel_rfl
def F64.wk5:Prop:=(∃a,F64.wL5 a g i h K)
def F64.spec(H:bg h (.cells #[ap a,aq b,aq c,aq d,.int .u8 f] 66) λa b=>aS .i64 (rd b ((aw a).add 0)) λc=>aS .u32 (rd b ((aw a).add 1)) λd=>aS .u32 (rd b ((aw a).add 2)) λe=>aS .u32 (rd b ((aw a).add 3)) λf=>aS .u8 (rd b ((aw a).add 4)) λa=>Cl 91 [au j,.agg #[ap c,aq d,aq e,aq f,.int .u8 a]] b λa b=> ∃c:az,∃d:Int,a=(.tuple #[aA c,ap d])/\aJ (d !=0) (K (.tuple #[aq 0,ap d]) b) (F64.wk5 c (.func (.func 114) #[aA c] #[]) b K)):Cl 64 [au j,.agg #[ap a,aq b,aq c,aq d,.int .u8 f]] h K:=cT F64.T Tryz.func64 H
end
structure Fk where
 b:Nat
 op:Nat
 mask:Nat
 a0:Nat
 a1:Nat
 a2:Nat
 level:Nat
 low:Nat
 fn:Nat
structure MA where
 m:Nat
 fp:az
 fc:Nat
 fs:List Fk
 told:Nat
 done:Bool
 e:Nat
def iY(fn b:Nat):Value:= .func (.func fn) #[au (aw b)] #[]
def bf(b:Nat):Value:=au (aw b)
def fR(m:Nat)(f:Fk):List Value:=[bf m,.int .u8 (f.op:Int),.int .u8 (f.mask:Int),aq (f.a0:Int),aq (f.a1:Int),aq (f.a2:Int),ap (f.level:Int),aq (f.low:Int),iY f.fn f.b]
def cO(s:Nat)(A:MA):List Value:=[bf s,.slice A.fp A.fs.length A.fc,aq (A.told:Int),aD A.done,ap (A.e:Int)]
def MA.bl(A:MA):List Nat:=A.m::(aV A.fp++A.fs.map (·.b))
structure bG(h:aI)(s:Nat)(A:MA):Prop where
 own:At h A.m (cO s A)
 win:nE h 0 A.fp A.fs.length A.fc (A.fs.map λf=>bf f.b)
 frm: ∀f∈A.fs,At h f.b (fR A.m f)
 sep:A.bl.Nodup
def bG.only{A:MA}(H:bG h s A)(O:aM S h h')(hS: ∀b∈S,b∉A.bl):bG h' s A:=by refine⟨H.own.only O λhm=>hS _ hm (by simp[MA.bl]),H.win.only O λb hb hm=>hS _ hm (by simp[MA.bl,hb]),λf hf=>(H.frm f hf).only O λhm=>hS _ hm ?_,H.sep⟩;simp only[MA.bl,List.mem_cons,List.mem_append,Ms];exact .inr (.inr ⟨f,hf,rfl⟩)
def bG.only0(H:bG h s A)(O:aM [] h h'):bG h' s A:=H.only O ak
def bG.lt{h:aI}{A:MA}(H:bG h s A): ∀b∈A.bl,b<h.size:=λb hb=>by
 simp only[MA.bl,List.mem_cons,List.mem_append,Ms]at hb;rcases hb with e|hb|⟨f,hf,e⟩
 ·subst e;exact H.own.lt
 ·exact(H.win.lt b hb).2
 ·subst e;exact(H.frm f hf).lt
def GP{a b:Nat}(ha:a<2^32)(hb:b<2^32):bu .xor .u32 (a:Int) (b:Int)=((a^^^b:Nat):Int):=by unfold bu;show IntKind.wrap .u32 ((BitVec.ofInt 32 (a:Int)^^^BitVec.ofInt 32 (b:Int)).toNat:Int)=_;rw[BitVec.toNat_xor,oo ha,oo hb];exact gK (Nat.xor_lt_two_pow ha hb)
def fS{f:Fk}(A:At h f.b (fR m f))(k:Nat):rd h ⟨f.b,k,none⟩=(fR m f)[k]? :=At.rd A k
def bG.top{f:Fk}{f':Fk}{A:MA}{v:Value}(H:bG h s {A with fs:=fl++[f]})(hj:j<9)(hv:v.oneCell'=true)(hb:f'.b=f.b)(hc:(fR A.m f).set j v=fR A.m f')
  (hK: ∀h',bG h' s {A with fs:=fl++[f']}->aM [f.b] h h'->K h'):aY h ⟨f.b,j,none⟩ v K:=by
 have hf:f∈fl++[f]:=ak;refine aU (H.frm f hf) (by simpa[fR]using hj) hv λh' A' O' z=>hK h' ?_ O';rw[hc]at A';have sp:=H.sep;simp only[MA.bl,MJ,Mz,N4,MO,List.mem_append,ML,LZ,NU,Pp,forall_eq]at sp;obtain⟨⟨s1,s2,s3⟩,s4,⟨s5,s6,s7⟩,s8⟩:=sp;have e1:A.m∉[f.b]:=by simp;omega
 have ew:(fl++[f']).map (λf=>bf f.b)=(fl++[f]).map (λf=>bf f.b):=by simp[hb]
 refine⟨?_,?_,λg hg=> ?_,?_⟩
 ·have:=H.own.only O' e1;simpa[cO]using this
 ·have:=H.win.only O' (λb hb hm=>by
   simp only[LZ]at hm;subst hm;exact s8 _ hb _ (.inr rfl) rfl)
  show nE h' 0 A.fp (fl++[f']).length A.fc ((fl++[f']).map λf=>bf f.b);rw[ew];simpa using this
 ·rcases Zq hg with hg|hg
  ·refine(H.frm g (by simp[hg])).only O' λhm=> ?_;simp only[LZ]at hm;exact s7 _ (Ms.2 ⟨g,hg,rfl⟩) hm
  ·simp only[LZ]at hg;subst hg;rw[hb];exact A'
 ·have:=H.sep;simp only[MA.bl]at this ⊢;rw[show(fl++[f']).map (·.b)=(fl++[f]).map (·.b) by simp[hb]];exact this
def fB{h:aI}{s op mask a0 a1 a2:Nat}{A:MA}{K:KK}(H:bG h s A)(hl:A.fs.length<1000000)
  (hK: ∀h' f fp fc,(∃b,f=⟨b,op,mask,a0,a1,a2,0,0,180⟩/\h.size<=b)->bG h' s {A with fp:=fp,fc:=fc,fs:=A.fs++[f]}->aM (A.m::aV A.fp) h h'->(∀b∈aV fp,b∈aV A.fp\/h.size<=b)->K (bf f.b) h'):
  Cl 135 [bf A.m,.int .u8 (op:Int),.int .u8 (mask:Int),.agg #[aq (a0:Int),aq (a1:Int),aq (a2:Int)]] h K:=by
 refine F135.spec ?_;refine aW λh1 A1 O1 z1=> ?_;simp only[aL,LX,Ma];have r: ∀k,rd h1 ⟨h.size,k,none⟩=([aq (a0:Int),aq (a1:Int),aq (a2:Int)]:List Value)[k]? :=λk=>At.rd A1 k;refine aH (by rw[r];rfl) (aH (by rw[r];rfl) (aH (by rw[r];rfl) ?_));refine aW λh2 A2 O2 z2=> ?_;refine aU A2 ak rfl λh3 A3 O3 z3=> ?_;have l:=H.lt;have j: ∀b∈A.bl,b<h1.size:=λb hb=>by have:=l b hb;omega
 have O13:aM [] h h3:=((O1.trans O2 ak).trans O3 (by intro x hx hl;simp at hx;omega));have H3:=H.only0 O13;refine bF (by rw[At.rd H3.own];rfl) ?_;refine aW λh4 A4 O4 z4=> ?_;have H4:=H3.only0 O4;have F4:At h4 h1.size (fR A.m ⟨h1.size,op,mask,a0,a1,a2,0,0,180⟩):=A3.only O4 ak;refine xy H4.win A4 ah rfl ah λp' c' h5 W5 O5 g5=> ?_
 have nm:A.m∉aV A.fp:=λhm=>by have:=H.sep;simp only[MA.bl,MO,List.mem_append,NU]at this;exact this.1.1 hm
 have M5:=H4.own.only O5 nm;refine aU M5 (by simp[cO]) rfl λh6 M6 O6 z6=> ?_;have O46:aM (A.m::aV A.fp) h4 h6:=(O5.mono λb hb _=>My _ hb).trans O6 λb hb hl=>by simp only[LZ]at hb;exact List.mem_cons.2 (.inl hb)
 have hO:aM (A.m::aV A.fp) h h6:=((O13.trans O4 ak).mono ak).trans O46 λb hb _=>hb;have n:h1.size<h4.size:=F4.lt;have sp:=H.sep;simp only[MA.bl,MO,List.mem_append,Ms,ML,NU]at sp;have a: ∀b∈aV A.fp,b<h1.size:=λb hb=>j b (by simp[MA.bl,hb]);have i: ∀f∈A.fs,f.b<h1.size:=λf hf=>j f.b (by simp only[MA.bl,List.mem_cons,List.mem_append,Ms];exact .inr (.inr ⟨f,hf,rfl⟩));have o:=j A.m (by simp[MA.bl])
 have nP:h1.size∉A.m::aV A.fp:=λhm=>by
  rcases List.mem_cons.1 hm with e|hm
  ·omega
  ·have:=a _ hm;omega
 have d: ∀b∈aV p',b∈aV A.fp\/h4.size<=b:=g5;refine hK h6 ⟨h1.size,op,mask,a0,a1,a2,0,0,180⟩ p' c' ⟨h1.size,rfl,ah⟩ ⟨?_,?_,λg hg=> ?_,?_⟩ hO λb hb=>(g5 b hb).imp id λh=>ah
 ·have:(cO s A).set 1 (.slice p' (A.fs.length+1) c')=cO s {A with fp:=p',fc:=c',fs:=A.fs++[⟨h1.size,op,mask,a0,a1,a2,0,0,180⟩]}:=by simp[cO]
  rw[<-this];exact M6
 ·have:=W5.only O6 (λb hb hm=>by
   simp only[LZ]at hm;subst hm;rcases d _ hb with h|h
   ·exact nm h
   ·omega)
  simpa[bf]using this
 ·rcases Zq hg with hg|hg
  ·refine((H4.frm g hg)).only O46 λhm=> ?_;rcases List.mem_cons.1 hm with e|hm
   ·exact sp.1.2 ⟨g,hg,e⟩
   ·exact sp.2.2.2 _ hm _ ⟨g,hg,rfl⟩ rfl
  ·simp only[LZ]at hg;subst hg;exact F4.only O46 nP
 ·show(A.m::(aV p'++(A.fs++[(⟨h1.size,op,mask,a0,a1,a2,0,0,180⟩:Fk)]).map (·.b))).Nodup;have np:(aV p').Nodup:=by cases p'<;>simp[aV]
  simp only[MJ,Mz,N4,MO,List.mem_append,Ms,LZ,ML,NU,Pp];refine⟨⟨λhm=> ?_,sp.1.2,ah⟩,np,⟨sp.2.2.1,ak,?_⟩,?_⟩
  ·rcases d _ hm with h|h
   ·exact nm h
   ·omega
  ·rintro b ⟨g,hg,rfl⟩ c rfl;have:=i g hg;omega
  ·rintro b hb c (⟨g,hg,rfl⟩|rfl) e
   ·rcases d _ hb with h|h
    ·exact sp.2.2.2 _ h _ ⟨g,hg,rfl⟩ e
    ·have:=i g hg;omega
   ·rcases d _ hb with h|h
    ·have:=a _ h;omega
    ·omega
def gH{A:MA}{fl:List Fk}(H:bG h s {A with fs:=fl++[f]})(hl:fl.length<1000000)
  (hK: ∀h' fp,bG h' s {A with fp:=fp,fs:=fl,told:=r,done:=fl.isEmpty}->aV fp=aV A.fp->aM [A.m] h h'->K aE h'):
  Cl 181 [bf A.m,aq (r:Int)] h K:=by
 refine F181.spec ?_;simp only[aL,LX,Ma];have M0:=H.own;refine aU M0 (by simp[cO]) rfl λh1 M1 O1 z1=> ?_;have len:(fl++[f]).length=fl.length+1:=ak;have rs:rd h1 ⟨A.m,1,none⟩=some (.slice A.fp (fl.length+1) A.fc):=by rw[At.rd M1];simp[cO]
 refine bF rs (bF rs ?_);have e1:ax (((fl.length+1:Nat):Int)-1)=(fl.length:Int):=by rw[wrap_i64 ah ah];omega
 have W:=H.win;have W1:nE h 0 A.fp (fl.length+1) A.fc (fl.map (λf=>bf f.b)++[bf f.b]):=by simpa using W
 have cap:=W1.cap;rw[e1];refine⟨ah,ah,?_⟩;refine aU M1 (by simp[cO]) rfl λh2 M2 O2 z2=> ?_;refine bF (p:=if A.fc=0 then A.fp else Option.map (λa=>Addr.add a (0*1)) A.fp) (l:=fl.length) (c:=A.fc) (by rw[At.rd M2];simp[cO]) ?_;refine aU M2 (by simp[cO]) rfl λh3 M3 O3 z3=> ?_;have O:aM [A.m] h h3:=(O1.trans O2 λb hb _=>hb).trans O3 λb hb _=>hb
 have ep:(if A.fc=0 then A.fp else Option.map (λa=>Addr.add a (0*1)) A.fp)=A.fp:=by
  split
  ·rfl
  ·cases A.fp with
   |none=>rfl
   |some a=>simp[Addr.add]
 have Wp:=W1.pop;have sp:=H.sep;simp only[MA.bl,MJ,Mz,N4,MO,List.mem_append,ML,LZ,NU]at sp;refine hK h3 A.fp ⟨?_,?_,λg hg=> ?_,?_⟩ rfl O
 ·have e:((((cO s {A with fs:=fl++[f]}).set 2 (aq (r:Int))).set 1 (.slice (if A.fc=0 then A.fp else Option.map (λa=>Addr.add a (0*1)) A.fp) (Int.toNat (fl.length:Int)-0) (A.fc-0))).set 3 (aD ((fl.length:Int)==(0:Int))))=cO s {A with fs:=fl,told:=r,done:=fl.isEmpty}:=by
   rw[ep];have:((fl.length:Int)==(0:Int))=fl.isEmpty:=by cases fl<;>simp;omega
   simp[cO,this]
  rw[<-e];exact M3
 ·rw[ep]at Wp
  exact Wp.only O λb hb hm=>by simp only[LZ]at hm;subst hm;exact sp.1.1 hb
 ·refine(H.frm g (by simp[hg])).only O λhm=> ?_;simp only[LZ]at hm;exact sp.1.2.1 (Ms.2 ⟨g,hg,hm⟩)
 ·show(A.m::(aV A.fp++fl.map (·.b))).Nodup;simp only[MO,List.mem_append,ML,NU];exact⟨⟨sp.1.1,sp.1.2.1⟩,sp.2.1,sp.2.2.1.1,λa ha b hb=>sp.2.2.2 a ha b (.inl hb)⟩
def uH(side:Bool):Value:= .func (.func (if side then 73 else 72)) #[] #[]
def zK(s op g:Nat):Value:= .agg #[au (aw s),.int .u8 (op:Int),.func (.func g) #[] #[]]
def CE(a b c:Nat):Value:= .agg #[aq (a:Int),aq (b:Int),aq (c:Int)]
def H9:bR X 72=some cH.go:=by kernel_rfl
def IB:bR X 73=some cH.go:=by kernel_rfl
def ch(n:Nat)(N:ay)(l:Nat)(side:Bool)(a:Nat):Nat:=if lvl n N a=l then(if side then high N a else low N a)else a
def fZ(H:cX n N)(ha:isN N a)(hl:l<=lvl n N a)(hn:l<n):isN N (ch n N l side a)/\l+1<=lvl n N (ch n N l side a):=by
 unfold ch;by_cases e:lvl n N a=l
 ·rw[L4 e]
  have h2:2<=a:=by apply Mi;intro h;have:=gT (n:=n) (N:=N) (a:=a) ah;omega
  obtain⟨h3,h4,h5,-,h6,h7⟩:=H.at ha h2;cases side with
  |true=>exact⟨h5,by rw[L4 rfl];omega⟩
  |false=>exact⟨h4,by rw[LY ak];omega⟩
 ·rw[LY e];exact⟨ha,ah⟩
def rP(H:cX n N)(ha:isN N a)(hn:l<n)(x:Nat):sm n f N a x=if x.testBit (f l)then sm n f N (ch n N l true a) x else sm n f N (ch n N l false a) x:=by
 unfold ch;by_cases e:lvl n N a=l
 ·have h2:2<=a:=by
   apply Mi;intro h;have:=gT (n:=n) (N:=N) (a:=a) ah;omega
  rw[L4 e,L4 e,cP H ha h2,e]
  rfl
 ·rw[LY e,LY e];simp
def Ex.ch(E:Ex N N')(ha:Ev.isN N a):ch n N' l side a=ch n N l side a:=by unfold Ev.ch;rw[E.lvl ha,E.low ha,E.high ha]
def BX{h:aI}{s:Nat}{L:List Nat}{X:SX}{a l:Nat}{side:Bool}{K:KK}(H:bT h s L X)(ha:isN X.N a)(hK:K (aq (ch X.n X.N l side a:Int)) h):
  Cl 251 [au (aw s),uH side,aq (a:Int),ap (l:Int)] h K:=by
 refine F251.spec _ _ _ _ h K ?_;refine dv H ha (aH rfl ?_);unfold ch at hK;by_cases e:lvl X.n X.N a=l
 ·rw[L4 e]at hK;rw[e,show(((l:Int)) !=(l:Int))=false by simp,aK];unfold uH;cases side with
  |true=>exact bj IB (fA H ha (aH rfl hK))
  |false=>exact bj H9 (iI H ha (aH rfl hK))
 ·rw[LY e]at hK;rw[show(((lvl X.n X.N a:Nat):Int) !=(l:Int))=true by simp;omega,aO];exact hK
def zF{X:SX}(H:bT h s L X)(ha:isN X.N a)(hb:isN X.N b)(hc:isN X.N c)
  (j: ∀h',aM [] h h'->Cl 164 [zK s op g,CE (ch X.n X.N l side a) (ch X.n X.N l side b) (ch X.n X.N l side c)] h' λv h8=> ∃n9:Int,∃k:Int,v=(.tuple #[aq n9,ap k])/\K (.tuple #[aq n9,ap k]) h8):
  Cl 206 [zK s op g,CE a b c,ap (l:Int),uH side] h K:=by
 refine F206.spec _ _ _ _ _ _ _ _ h K ?_;refine aW λh1 A1 O1 z1=>aW λh2 A2 O2 z2=> ?_;have A12:=A1.only O2 ak;have q0: ∀{h':aI} {v0 v1 v2:Value} {q:Nat},At h' q [v0,v1,v2]->rd h' (Addr.add (aw q) 0)=some v0/\rd h' (Addr.add (aw q) 1)=some v1/\rd h' (Addr.add (aw q) 2)=some v2:=λA=>⟨by rw[aL,At.rd A];rfl,by rw[aL,At.rd A];rfl,by rw[aL,At.rd A];rfl⟩;have w0:=q0 A2;refine aH w0.1 (aH w0.2.1 (aH w0.2.2 ?_));unfold F206.wk2
 have step: ∀(bk:Int->Value->Addr->Addr->Int->Int->Int->Int->aI->Prop) (k6:Addr->Addr->aI->Prop) (h':aI) (i y:Nat) (l':List Value),i<3->(if i=0 then a else if i=1 then b else c)=y->isN X.N y->l'.length=3->
   At h' h.size [au (aw s),.int .u8 (op:Int),.func (.func g) #[] #[]]->At h' h1.size l'->aM [] h h'->
   (∀d,At d h.size [au (aw s),.int .u8 (op:Int),.func (.func g) #[] #[]]->At d h1.size (l'.set i (aq (ch X.n X.N l side y:Int)))->aM [] h d->bk (l:Int) (uH side) (aw h.size) (aw h1.size) (a:Int) (b:Int) (c:Int) ((i+1:Nat):Int) d)->
   F206.JL2 bk k6 (l:Int) (uH side) (aw h.size) (aw h1.size) (a:Int) (b:Int) (c:Int) (i:Int) h' K:=by
  intro bk k6 h' i y l' hi hy hN o A B O hB;unfold F206.JL2;rw[Mg ah,aO];refine⟨ah,ah,aH (n:=(y:Int)) ?_ (aQ (q0 A).1 (BX (H.only0 O) hN (aH rfl ⟨ah,ah,?_⟩)))⟩
  ·rw[Md];subst hy;have:i=0\/i=1\/i=2:=ah;rcases this with e|e|e<;>subst e<;>rfl
  ·have ew:ax ((i:Int)+1)=((i+1:Nat):Int):=by rw[wrap_i64 ah ah];omega
   rw[ew,aL,aL,Md];simp only[LX,MU,Ma];exact aU B ah rfl λd B' O' z'=>hB d (A.only O' (by simp;omega)) B' (O.trans O' (by intro x hx m;simp at hx;omega))
 refine⟨4,?_⟩;have O12:=O1.trans O2 ak;rw[F206.sL2];refine step _ _ h2 0 a _ ah rfl ha rfl A12 A2 O12 λh3 A3 B3 O3=> ?_;rw[F206.sL2];refine step _ _ h3 1 b _ ah rfl hb rfl A3 B3 O3 λh4 A4 B4 O4=> ?_;rw[F206.sL2];refine step _ _ h4 2 c _ ah rfl hc rfl A4 B4 O4 λh5 A5 B5 O5=> ?_;rw[F206.sL2];unfold F206.JL2;rw[L7 ah,aK];unfold F206.wk6;have w5:=q0 A5;have B5:At h5 h1.size [aq (ch X.n X.N l side a:Int),aq (ch X.n X.N l side b:Int),aq (ch X.n X.N l side c:Int)]:=B5;have w6:=q0 B5;refine aQ w5.1 (aH w5.2.1 ?_);rw[w5.2.2,c8];exact aH w6.1 (aH w6.2.1 (aH w6.2.2 (j h5 O5)))
def Fv{p q:Nat}:(if(p:Int)<(q:Int)then(p:Int)else(q:Int))=((min p q:Nat):Int):=by
 by_cases h:(p:Int)<(q:Int)
 ·rw[L4 h,show min p q=p by omega]
 ·rw[LY h,show min p q=q by omega]
def fV(op:Nat):Prop:=op=2\/op=3\/op=4\/op=5
def mlv(n:Nat)(N:ay)(f:Fk):Nat:=min (lvl n N f.a2) (min (lvl n N f.a1) (min (lvl n N f.a0) n))
structure FR where
 op:Nat
 a0:Nat
 a1:Nat
 a2:Nat
def tj(f:Fk):Prop:=f.fn=180\/f.fn=225\/f.fn=273
def nW(f:Fk):Prop:=f.fn=136\/f.fn=184\/f.fn=232\/f.fn=278
def Ld(op:Nat):Nat:=if op=7 then 2 else 3
def FN(N:ay)(f:Fk):Prop:=isN N f.a0/\isN N f.a1/\isN N f.a2/\isN N f.low
def Kd(n:Nat)(fo:Nat->Nat)(N:ay)(f:Fk):Prop:=
 (fV f.op/\(f.fn=180\/((f.fn=225\/f.fn=273)/\f.level=mlv n N f/\f.level<n))/\(f.fn=273->lZ n fo N f.op (ch n N f.level false f.a0) (ch n N f.level false f.a1) (ch n N f.level false f.a2) f.low))\/
 ((f.op=6\/f.op=7)/\f.mask<256/\(f.fn=136\/(2<=f.a0/\f.level=lvl n N f.a0/\(f.fn=184\/(f.fn=232/\QR n fo N f.op f.mask (low N f.a0) f.low)\/f.fn=278))))\/
 ((f.fn=137\/((f.fn=188\/f.fn=233)/\2<=f.a0))/\f.mask<n)\/
 (f.fn=279/\f.level<n)\/
 (n%2=0/\(f.fn=192\/((f.fn=237\/f.fn=281)/\2<=f.a0/\f.level=lvl n N f.a0)\/(f.fn=138/\f.a2=0)\/f.fn=190\/f.fn=234\/f.fn=139\/f.fn=191\/f.fn=236\/f.fn=280))
structure dp(n:Nat)(fo:Nat->Nat)(N:ay)(f:Fk):Prop where
 nn:FN N f
 kd:Kd n fo N f
structure eH(n:Nat)(fo:Nat->Nat)(N:ay)(g:Fk)(r:Nat):Prop where
 is:isN N r
 lo:g.fn=225->lZ n fo N g.op (ch n N g.level false g.a0) (ch n N g.level false g.a1) (ch n N g.level false g.a2) r
 hi:g.fn=273->lZ n fo N g.op (ch n N g.level true g.a0) (ch n N g.level true g.a1) (ch n N g.level true g.a2) r
 ql:g.fn=184->QR n fo N g.op g.mask (low N g.a0) r
 qh:g.fn=232->QR n fo N g.op g.mask (high N g.a0) r
 qt:g.fn=278->QR n fo N g.op g.mask g.a0 r
structure uL(n:Nat)(fo:Nat->Nat)(N:ay)(f:Fk)(r:Nat):Prop where
 is:isN N r
 j:tj f->lZ n fo N f.op f.a0 f.a1 f.a2 r
 q:nW f->QR n fo N f.op f.mask f.a0 r
structure dJ(n:Nat)(fo:Nat->Nat)(N:ay)(g f:Fk):Prop where
 lo:g.fn=225->tj f/\f.op=g.op/\f.a0=ch n N g.level false g.a0/\f.a1=ch n N g.level false g.a1/\f.a2=ch n N g.level false g.a2
 hi:g.fn=273->tj f/\f.op=g.op/\f.a0=ch n N g.level true g.a0/\f.a1=ch n N g.level true g.a1/\f.a2=ch n N g.level true g.a2
 ql:g.fn=184->nW f/\f.op=g.op/\f.mask=g.mask/\f.a0=low N g.a0
 qh:g.fn=232->nW f/\f.op=g.op/\f.mask=g.mask/\f.a0=high N g.a0
 qt:g.fn=278->tj f/\f.op=Ld g.op/\f.a2=0/\QR n fo N g.op g.mask (low N g.a0) f.a0/\QR n fo N g.op g.mask (high N g.a0) f.a1/\g.mask.testBit (fo (lvl n N g.a0))=true
def fD(f:Fk):Prop:=f.fn=180\/f.fn=136\/f.fn=137\/f.fn=192\/f.fn=138\/f.fn=139
structure gc(n:Nat)(fo:Nat->Nat)(N:ay)(fs:List Fk)(told:Nat):Prop where
 frs: ∀f∈fs,dp n fo N f
 lnk: ∀(i:Nat) (g f:Fk),fs[i]? =some g->fs[i+1]? =some f->dJ n fo N g f
 top: ∀fl fr,fs=fl++[fr]->fD fr\/eH n fo N fr told
 tld:isN N told
def zY(ok:cX n N)(h:a<2):QR n fo N op mask a a:=
 ⟨.inl h,Mb _,λx=>by
  have e:lvl n N a=n:=by unfold lvl;rw[L4 h]
  rw[br h];unfold Ga;rw[D7 ok (Mb _) (.inl h) ah]⟩
def tT(ok:cX n N)(ha:isN N a)(h:lvl n N a<n):Ga n fo op mask N a x=Kl fo op mask (lvl n N a) x (Ga n fo op mask N (low N a) x) (Ga n fo op mask N (high N a) x):=DU ok (Mb _) ha h
def Jm{mask:Nat}(ok:cX n N)(b:cX n N')(ha:isN N a)(h2:2<=a)(V:QR n fo N op mask (low N a) lo)(W:QR n fo N op mask (high N a) hi)(hb:mask.testBit (fo (lvl n N a))=false)(Rk:iC room N (lvl n N a) lo hi N' r 0):QR n fo N' op mask a r:=by obtain⟨h3,h4,h5,-,h6,h7⟩:=ok.at ha h2;have v1:=V.lv;obtain⟨m1,m2,m3,m4⟩:=gh (f:=fo) ok b V.is W.is ah Rk;refine⟨m2,by rw[m1.lvl ha];exact m3,λx=> ?_⟩;rw[m4 x,nV ok m1 ha,tT ok ha h3,V.sm,W.sm];unfold Kl;rw[LY (show ¬mask.testBit (fo (lvl n N a))=true by rw[hb];simp)]
def JR{mask:Nat}(ok:cX n N)(E:Ex N N')(ha:isN N a)(h2:2<=a)(b:op=6\/op=7)(V:QR n fo N op mask (low N a) lo)(W:QR n fo N op mask (high N a) hi)(hb:mask.testBit (fo (lvl n N a))=true)(R:lZ n fo N' (Ld op) lo hi 0 r):QR n fo N' op mask a r:=by
 obtain⟨h3,h4,h5,-,h6,h7⟩:=ok.at ha h2;have v1:=V.lv;have w1:=W.lv;refine⟨R.is,?_,λx=> ?_⟩
 ·have e1:=E.lvl (n:=n) ha;have e2:=E.lvl (n:=n) V.is;have e3:=E.lvl (n:=n) W.is;have e4:lvl n N' 0=n:=gT ah;exact R.lv (lvl n N' a) ah ah ah
 ·rw[R.sm,nV ok E ha,E.sm ok V.is,E.sm ok W.is,tT ok ha h3,V.sm,W.sm];unfold Kl Ld;rw[hb,L4 rfl];rcases b with q|q<;>subst q<;>rfl
def lh(H:cX n N)(ha:isN N a)(h2:2<=a):lvl n N a<n/\isN N (low N a)/\isN N (high N a)/\lvl n N a<lvl n N (low N a)/\lvl n N a<lvl n N (high N a):=by obtain⟨h3,h4,h5,-,h6,h7⟩:=H.at ha h2;exact⟨h3,h4,h5,h6,h7⟩
def dp.lev{f:Fk}(F:dp n fo N f)(h:f.fn=225\/f.fn=273):fV f.op/\f.level=mlv n N f/\f.level<n/\f.level<=lvl n N f.a0/\f.level<=lvl n N f.a1/\f.level<=lvl n N f.a2:=by
 have k:=F.kd;unfold Kd at k
 have:fV f.op/\f.level=mlv n N f/\f.level<n:=by
  rcases k with⟨a,b,-⟩|⟨-,-,b⟩|⟨b,-⟩|⟨b,-⟩|⟨-,b⟩
  ·refine⟨a,?_⟩;rcases b with b|⟨-,b⟩
   ·omega
   ·exact b
  ·exfalso;rcases b with b|⟨-,-,b|⟨b,-⟩|b⟩<;>omega
  ·exfalso;rcases b with b|⟨b,-⟩<;>omega
  ·omega
  ·exfalso;rcases b with b|⟨b,-⟩|⟨b,-⟩|b|b|b|b|b|b<;>omega
 refine⟨this.1,this.2.1,this.2.2,?_⟩;have e:=this.2.1;unfold mlv at e;omega
def dp.jop{f:Fk}(F:dp n fo N f)(h:f.fn=180):fV f.op:=by
 have k:=F.kd;unfold Kd at k;rcases k with⟨a,-⟩|⟨-,-,b⟩|⟨b,-⟩|⟨b,-⟩|⟨-,b⟩
 ·exact a
 ·exfalso;rcases b with b|⟨-,-,b|⟨b,-⟩|b⟩<;>omega
 ·exfalso;rcases b with b|⟨b,-⟩<;>omega
 ·omega
 ·exfalso;rcases b with b|⟨b,-⟩|⟨b,-⟩|b|b|b|b|b|b<;>omega
def dp.jlow{f:Fk}(F:dp n fo N f)(h:f.fn=273):lZ n fo N f.op (ch n N f.level false f.a0) (ch n N f.level false f.a1) (ch n N f.level false f.a2) f.low:=by
 have k:=F.kd;unfold Kd at k;rcases k with⟨-,-,a⟩|⟨-,-,b⟩|⟨b,-⟩|⟨b,-⟩|⟨-,b⟩
 ·exact a h
 ·exfalso;rcases b with b|⟨-,-,b|⟨b,-⟩|b⟩<;>omega
 ·exfalso;rcases b with b|⟨b,-⟩<;>omega
 ·omega
 ·exfalso;rcases b with b|⟨b,-⟩|⟨b,-⟩|b|b|b|b|b|b<;>omega
def dp.qu{f:Fk}(F:dp n fo N f)(h:nW f):(f.op=6\/f.op=7)/\f.mask<256/\(f.fn≠136->2<=f.a0/\f.level=lvl n N f.a0)/\(f.fn=232->QR n fo N f.op f.mask (low N f.a0) f.low):=by
 have k:=F.kd;unfold Kd at k;unfold nW at h;rcases k with⟨-,b,-⟩|⟨o,m,b⟩|⟨b,-⟩|⟨b,-⟩|⟨-,b⟩
 ·exfalso;rcases b with b|⟨b,-⟩<;>omega
 ·refine⟨o,m,?_⟩;rcases b with b|⟨b,c,d⟩
  ·exact⟨λz=>Mw b z,λz=>ah⟩
  ·refine⟨λ_=>⟨b,c⟩,λz=> ?_⟩;rcases d with d|⟨-,d⟩|d
   ·omega
   ·exact d
   ·omega
 ·exfalso;rcases b with b|⟨b,-⟩<;>omega
 ·omega
 ·exfalso;rcases b with b|⟨b,-⟩|⟨b,-⟩|b|b|b|b|b|b<;>omega
def dp.co{f:Fk}(F:dp n fo N f)(h:f.fn=137\/f.fn=188\/f.fn=233):f.mask<n/\(f.fn≠137->2<=f.a0):=by
 have k:=F.kd;unfold Kd at k;rcases k with⟨-,b,-⟩|⟨-,-,b⟩|⟨b,m⟩|⟨b,-⟩|⟨-,b⟩
 ·exfalso;rcases b with b|⟨b,-⟩<;>omega
 ·exfalso;rcases b with b|⟨-,-,b|⟨b,-⟩|b⟩<;>omega
 ·refine⟨m,λz=> ?_⟩;rcases b with b|⟨-,b⟩
  ·exact Mw b z
  ·exact b
 ·omega
 ·exfalso;rcases b with b|⟨b,-⟩|⟨b,-⟩|b|b|b|b|b|b<;>omega
def dp.cn{f:Fk}(F:dp n fo N f)(h:f.fn=279):f.level<n:=by
 have k:=F.kd;unfold Kd at k;rcases k with⟨-,b,-⟩|⟨-,-,b⟩|⟨b,-⟩|⟨-,b⟩|⟨-,b⟩
 ·exfalso;rcases b with b|⟨b,-⟩<;>omega
 ·exfalso;rcases b with b|⟨-,-,b|⟨b,-⟩|b⟩<;>omega
 ·exfalso;rcases b with b|⟨b,-⟩<;>omega
 ·exact b
 ·exfalso;rcases b with b|⟨b,-⟩|⟨b,-⟩|b|b|b|b|b|b<;>omega
def dp.tu{f:Fk}(F:dp n fo N f)(h:f.fn=192\/f.fn=237\/f.fn=281\/f.fn=138\/f.fn=190\/f.fn=234\/f.fn=139\/f.fn=191\/f.fn=236\/f.fn=280):n%2=0/\((f.fn=237\/f.fn=281)->2<=f.a0/\f.level=lvl n N f.a0)/\(f.fn=138->f.a2=0):=by
 have k:=F.kd;unfold Kd at k;rcases k with⟨-,b,-⟩|⟨-,-,b⟩|⟨b,-⟩|⟨b,-⟩|⟨e,b⟩
 ·exfalso;rcases b with b|⟨b,-⟩<;>omega
 ·exfalso;rcases b with b|⟨-,-,b|⟨b,-⟩|b⟩<;>omega
 ·exfalso;rcases b with b|⟨b,-⟩<;>omega
 ·omega
 ·refine⟨e,λz=> ?_,λz=> ?_⟩
  ·rcases b with b|⟨-,b⟩|⟨b,-⟩|b|b|b|b|b|b
   ·omega
   ·exact b
   all_goals omega
  ·rcases b with b|⟨b,-⟩|⟨-,b⟩|b|b|b|b|b|b
   ·omega
   ·omega
   ·exact b
   all_goals omega
def dp.fns{f:Fk}(F:dp n fo N f):tj f\/nW f\/(f.fn=137\/f.fn=188\/f.fn=233)\/f.fn=279\/f.fn=192\/f.fn=237\/f.fn=281\/f.fn=138\/f.fn=190\/f.fn=234\/f.fn=139\/f.fn=191\/f.fn=236\/f.fn=280:=by
 have k:=F.kd;unfold Kd at k;unfold tj nW;rcases k with⟨-,b,-⟩|⟨-,-,b⟩|⟨b,-⟩|⟨b,-⟩|⟨-,b⟩
 ·rcases b with b|⟨b,-⟩<;>omega
 ·rcases b with b|⟨-,-,b|⟨b,-⟩|b⟩<;>omega
 ·rcases b with b|⟨b,-⟩<;>omega
 ·omega
 ·rcases b with b|⟨b,-⟩|⟨b,-⟩|b|b|b|b|b|b<;>omega
structure Tr(n:Nat)(fo:Nat->Nat)(N N':ay)(S:Nat->Prop):Prop where
 nd: ∀{a},S a->isN N' a
 lv: ∀{a},S a->lvl n N' a=lvl n N a
 lw: ∀{a},S a->low N' a=low N a
 hg: ∀{a},S a->high N' a=high N a
 dn: ∀{a},S a->2<=a->S (low N a)/\S (high N a)
 op: ∀{o a b c r},S a->S b->S c->S r->lZ n fo N o a b c r->lZ n fo N' o a b c r
 qr: ∀{o m a r},S a->S r->QR n fo N o m a r->QR n fo N' o m a r
def SF(S:Nat->Prop)(f:Fk):Prop:=S f.a0/\S f.a1/\S f.a2/\S f.low
def lZ.back(R:lZ n fo N op a b c r)(d:cX n N')(E:Ex N' N)(hr:isN N' r)(ha:isN N' a)(hb:isN N' b)(hc:isN N' c):lZ n fo N' op a b c r:=
 ⟨hr,λk h1 h2 h3=>by rw[<-E.lvl ha]at h1;rw[<-E.lvl hb]at h2;rw[<-E.lvl hc]at h3;rw[<-E.lvl hr];exact R.lv k h1 h2 h3,λx=>by rw[<-E.sm d hr,<-E.sm d ha,<-E.sm d hb,<-E.sm d hc,R.sm]⟩
def Tr.ext(H:cX n N)(E:Ex N N'):Tr n fo N N' (isN N):=
 ⟨E.isN,E.lvl,E.low,E.high,λha h2=>⟨(lh H ha h2).2.1,(lh H ha h2).2.2.1⟩,λha hb hc _ R=>R.ext H E ha hb hc,λha _ R=>R.ext H E ha⟩
def Tr.back(b:cX n N')(E:Ex N' N):Tr n fo N N' (isN N'):=
 ⟨id,λh=>(E.lvl h).symm,λh=>(E.low h).symm,λh=>(E.high h).symm,λha h2=>by rw[E.low ha,E.high ha];exact⟨(lh b ha h2).2.1,(lh b ha h2).2.2.1⟩,λha hb hc hr R=>R.back b E hr ha hb hc,
  λha hr R=>⟨hr,by rw[<-E.lvl ha,<-E.lvl hr];exact R.lv,λx=>by rw[<-E.sm b hr,R.sm];exact nV b E ha⟩⟩
def Tr.ch(T:Tr n fo N N' S)(ha:S a)(hl:l<n):Ev.ch n N' l side a=Ev.ch n N l side a/\S (Ev.ch n N l side a):=by
 unfold Ev.ch;rw[T.lv ha,T.lw ha,T.hg ha];refine⟨rfl,?_⟩;split
 ·rename_i e
  have a2:2<=a:=by
   apply Mi;intro hn;have:lvl n N a=n:=by unfold lvl;rw[L4 ah]
   omega
  split
  ·exact(T.dn ha a2).2
  ·exact(T.dn ha a2).1
 ·exact ha
def Tr.mlv(T:Tr n fo N N' S)(h:SF S f):Ev.mlv n N' f=Ev.mlv n N f:=by unfold Ev.mlv;rw[T.lv h.1,T.lv h.2.1,T.lv h.2.2.1]
def dp.tr(T:Tr n fo N N' S)(F:dp n fo N f)(h:SF S f):dp n fo N' f:=by
 refine⟨⟨T.nd h.1,T.nd h.2.1,T.nd h.2.2.1,T.nd h.2.2.2⟩,?_⟩;have k:=F.kd;unfold Kd at k ⊢;rw[T.mlv h,T.lv h.1,T.lw h.1];rcases k with⟨a,b,c⟩|⟨o,m,b⟩|k|k|k
 ·refine .inl ⟨a,b,λz=> ?_⟩;have hl:=(F.lev (.inr z)).2.2.1;have c0:=T.ch (side:=false) h.1 hl;have c1:=T.ch (side:=false) h.2.1 hl;have c2:=T.ch (side:=false) h.2.2.1 hl;rw[c0.1,c1.1,c2.1];exact T.op c0.2 c1.2 c2.2 h.2.2.2 (c z)
 ·refine .inr (.inl ⟨o,m,b.imp id λ⟨x,y,z⟩=>⟨x,y,z.imp id λz=>z.imp (λ⟨u,v⟩=>⟨u,T.qr (T.dn h.1 x).1 h.2.2.2 v⟩) id⟩⟩)
 ·exact .inr (.inr (.inl k))
 ·exact .inr (.inr (.inr (.inl k)))
 ·exact .inr (.inr (.inr (.inr k)))
def dJ.tr(T:Tr n fo N N' S)(L:dJ n fo N g f)(G:dp n fo N g)(h:SF S g)(hf:SF S f):dJ n fo N' g f:=by
 refine⟨λz=> ?_,λz=> ?_,λz=> ?_,λz=> ?_,λz=> ?_⟩
 ·have hl:=(G.lev (.inl z)).2.2.1;rw[(T.ch (side:=false) h.1 hl).1,(T.ch (side:=false) h.2.1 hl).1,(T.ch (side:=false) h.2.2.1 hl).1];exact L.lo z
 ·have hl:=(G.lev (.inr z)).2.2.1;rw[(T.ch (side:=true) h.1 hl).1,(T.ch (side:=true) h.2.1 hl).1,(T.ch (side:=true) h.2.2.1 hl).1];exact L.hi z
 ·rw[T.lw h.1];exact L.ql z
 ·rw[T.hg h.1];exact L.qh z
 ·obtain⟨a,b,c,d,e,k⟩:=L.qt z;have a2:=((G.qu (.inr (.inr (.inr z)))).2.2.1 ah).1;have dn:=T.dn h.1 a2;rw[T.lw h.1,T.hg h.1,T.lv h.1];exact⟨a,b,c,T.qr dn.1 hf.1 d,T.qr dn.2 hf.2.1 e,k⟩
def eH.tr(T:Tr n fo N N' S)(W:eH n fo N g r)(G:dp n fo N g)(h:SF S g)(hr:S r):eH n fo N' g r:=by
 refine⟨T.nd hr,λz=> ?_,λz=> ?_,λz=> ?_,λz=> ?_,λz=>T.qr h.1 hr (W.qt z)⟩
 ·have hl:=(G.lev (.inl z)).2.2.1;have c0:=T.ch (side:=false) h.1 hl;have c1:=T.ch (side:=false) h.2.1 hl;have c2:=T.ch (side:=false) h.2.2.1 hl;rw[c0.1,c1.1,c2.1];exact T.op c0.2 c1.2 c2.2 hr (W.lo z)
 ·have hl:=(G.lev (.inr z)).2.2.1;have c0:=T.ch (side:=true) h.1 hl;have c1:=T.ch (side:=true) h.2.1 hl;have c2:=T.ch (side:=true) h.2.2.1 hl;rw[c0.1,c1.1,c2.1];exact T.op c0.2 c1.2 c2.2 hr (W.hi z)
 ·have a2:=((G.qu (.inr (.inl z))).2.2.1 ah).1;rw[T.lw h.1];exact T.qr (T.dn h.1 a2).1 hr (W.ql z)
 ·have a2:=((G.qu (.inr (.inr (.inl z)))).2.2.1 ah).1;rw[T.hg h.1];exact T.qr (T.dn h.1 a2).2 hr (W.qh z)
def gc.tr(T:Tr n fo N N' S)(R:gc n fo N fs told)(h: ∀f∈fs,SF S f)(ht:S told):gc n fo N' fs told:=
 ⟨λf hf=>(R.frs f hf).tr T (h f hf),λi g f h1 h2=>(R.lnk i g f h1 h2).tr T (R.frs g (Mc h1)) (h g (Mc h1)) (h f (Mc h2)),λfl fr e=>(R.top fl fr e).imp id λW=>W.tr T (R.frs fr (by rw[e];simp)) (h fr (by rw[e];simp)) ht,T.nd ht⟩
def gc.ext(H:cX n N)(E:Ex N N')(R:gc n fo N fs told):gc n fo N' fs told:=R.tr (Tr.ext H E) (λf hf=>(R.frs f hf).nn) R.tld
def dJ.free(L:dJ n fo N g f)(nj: ¬tj f)(nq: ¬nW f):dJ n fo N g f':=
 ⟨λz=>Mw (L.lo z).1 nj,λz=>Mw (L.hi z).1 nj,λz=>Mw (L.ql z).1 nq,λz=>Mw (L.qh z).1 nq,λz=>Mw (L.qt z).1 nj⟩
def dJ.same{f f':Fk}(L:dJ n fo N g f)(hj:tj f->tj f')(hq:nW f->nW f')(e:f'.op=f.op/\f'.mask=f.mask/\f'.a0=f.a0/\f'.a1=f.a1/\f'.a2=f.a2):dJ n fo N g f':=by
 obtain⟨e1,e2,e3,e4,e5⟩:=e;refine⟨λz=> ?_,λz=> ?_,λz=> ?_,λz=> ?_,λz=> ?_⟩
 ·rw[e1,e3,e4,e5];exact⟨hj (L.lo z).1,(L.lo z).2⟩
 ·rw[e1,e3,e4,e5];exact⟨hj (L.hi z).1,(L.hi z).2⟩
 ·rw[e1,e2,e3];exact⟨hq (L.ql z).1,(L.ql z).2⟩
 ·rw[e1,e2,e3];exact⟨hq (L.qh z).1,(L.qh z).2⟩
 ·rw[e1,e3,e4,e5];exact⟨hj (L.qt z).1,(L.qt z).2⟩
def dJ.none{g:Fk}(h:g.fn≠225/\g.fn≠273/\g.fn≠184/\g.fn≠232/\g.fn≠278):dJ n fo N g f:=
 ⟨λz=>Mw z h.1,λz=>Mw z h.2.1,λz=>Mw z h.2.2.1,λz=>Mw z h.2.2.2.1,λz=>Mw z h.2.2.2.2⟩
def dJ.wants(ok:cX n N)(G:dp n fo N g)(L:dJ n fo N g f)(R:uL n fo N f r):eH n fo N g r:=by
 refine⟨R.is,λz=> ?_,λz=> ?_,λz=> ?_,λz=> ?_,λz=> ?_⟩
 ·obtain⟨a,e1,e2,e3,e4⟩:=L.lo z;have:=R.j a;rw[e1,e2,e3,e4]at this;exact this
 ·obtain⟨a,e1,e2,e3,e4⟩:=L.hi z;have:=R.j a;rw[e1,e2,e3,e4]at this;exact this
 ·obtain⟨a,e1,e2,e3⟩:=L.ql z;have:=R.q a;rw[e1,e2,e3]at this;exact this
 ·obtain⟨a,e1,e2,e3⟩:=L.qh z;have:=R.q a;rw[e1,e2,e3]at this;exact this
 ·obtain⟨a,e1,e2,V,W,hb⟩:=L.qt z;have q:=G.qu (.inr (.inr (.inr z)));have:=R.j a;rw[e1,e2]at this;exact JR ok (Ex.refl _) G.nn.1 (q.2.2.1 ah).1 q.1 V W hb this
def gc.pop(ok:cX n N)(R:gc n fo N (fl++[fr]) told)(hr:uL n fo N fr r):gc n fo N fl r:=by
 refine⟨λf hf=>R.frs f (by simp[hf]),λi g f h1 h2=> ?_,λb g e=> .inr ?_,hr.is⟩
 ·have l2:=(Ml.1 h2).1;refine R.lnk i g f ?_ ?_
  ·rw[Mo ah];exact h1
  ·rw[Mo l2];exact h2
 ·subst e;refine(R.lnk b.length g fr ?_ ?_).wants ok (R.frs g ak) hr
  ·simp
  ·simp
def gc.turn(R:gc n fo N (fl++[fr]) told)(F:dp n fo N fr')(hl: ∀g,dJ n fo N g fr->dJ n fo N g fr')(ht:fD fr'\/eH n fo N fr' told):gc n fo N (fl++[fr']) told:=by
 refine⟨λf hf=> ?_,λi g f h1 h2=> ?_,λc x e=> ?_,R.tld⟩
 ·rcases Zq hf with hf|hf
  ·exact R.frs f (by simp[hf])
  ·have:f=fr':=by simpa using hf
   rw[this];exact F
 ·have l2:=(Ml.1 h2).1;simp only[Mv,MP]at l2;have b:fl[i]? =some g:=by rw[Mo ah]at h1;exact h1
  by_cases hi:i+1<fl.length
  ·rw[Mo hi]at h2;exact R.lnk i g f (by rw[Mo ah];exact b) (by rw[Mo hi];exact h2)
  ·have e:i+1=fl.length:=ah;rw[MK ah,e]at h2;have:f=fr':=by simpa using h2.symm
   rw[this];exact hl g (R.lnk i g fr (by rw[Mo ah];exact b) (by rw[e];simp))
 ·have:=(List.append_inj' e rfl).2;have:x=fr':=by simpa using this.symm
  rw[this];exact ht
def bJ(n:Nat):Nat:=4*2^n-3
def qS(n:Nat):Nat->Nat
 |0=>1
 |k+1=>2*qS n k+bJ n+4
def cS(n:Nat):Nat->Nat
 |0=>bJ n+1
 |k+1=>2*cS n k+bJ n+4
def tS(n:Nat):Nat->Nat
 |0=>1
 |k+1=>2*tS n k+bJ n+3
def eF(n:Nat)(N:ay)(f:Fk):Nat:=
 if f.fn=180 then 4*2^(n-mlv n N f)-3 else if f.fn=225 then 4*2^(n-(f.level+1))-1 else if f.fn=273 then 1 else
 if f.fn=136 then qS n (n-lvl n N f.a0)else if f.fn=184 then qS n (n-lvl n N f.a0-1)+bJ n+3 else if f.fn=232 then bJ n+2 else if f.fn=278 then 1 else
 if f.fn=137 then cS n (n-lvl n N f.a0)else if f.fn=188 then cS n (n-lvl n N f.a0-1)+bJ n+3 else if f.fn=233 then bJ n+2 else if f.fn=279 then bJ n+1 else
 if f.fn=192 then tS n (n-lvl n N f.a0)else if f.fn=237 then tS n (n-lvl n N f.a0-1)+bJ n+2 else if f.fn=281 then bJ n+1 else
 if f.fn=138 then bJ n+qS n n+tS n n+3 else if f.fn=190 then qS n n+tS n n+2 else if f.fn=234 then tS n n+1 else
 if f.fn=139 then tS n n+bJ n+qS n n+4 else if f.fn=191 then bJ n+qS n n+3 else if f.fn=236 then qS n n+2 else 1
def gO(n:Nat)(N:ay)(fs:List Fk):Nat:=(fs.map (eF n N)).sum
def bN(n:Nat):Nat:=2^n-1
def qB(n:Nat):Nat->Nat
 |0=>0
 |k+1=>2*qB n k+bN n+1
def cB(n:Nat):Nat->Nat
 |0=>bN n
 |k+1=>2*cB n k+bN n+1
def dZ(n:Nat)(N:ay)(f:Fk):Nat:=
 if f.fn=180 then 2^(n-mlv n N f)-1 else if f.fn=225 then 2^(n-(f.level+1))else if f.fn=273 then 1 else
 if f.fn=136\/f.fn=192 then qB n (n-lvl n N f.a0)else if f.fn=184\/f.fn=237 then qB n (n-lvl n N f.a0-1)+bN n+1 else if f.fn=232\/f.fn=281\/f.fn=233\/f.fn=279 then bN n+1 else if f.fn=278 then 0 else
 if f.fn=137 then cB n (n-lvl n N f.a0)else if f.fn=188 then cB n (n-lvl n N f.a0-1)+bN n+1 else
 if f.fn=138\/f.fn=139 then bN n+qB n n+qB n n else if f.fn=190 then qB n n+qB n n else if f.fn=191 then bN n+qB n n else if f.fn=234\/f.fn=236 then qB n n else 0
def iA(n:Nat)(N:ay)(fs:List Fk):Nat:=(fs.map (dZ n N)).sum
def Ay(T:Tr n fo N N' S)(h:SF S f):eF n N' f=eF n N f/\dZ n N' f=dZ n N f:=by unfold eF dZ;rw[T.mlv h,T.lv h.1];exact⟨rfl,rfl⟩
def sQ(H:cX n N)(E:Ex N N')(R: ∀f∈fs,dp n fo N f):gO n N' fs=gO n N fs/\iA n N' fs=iA n N fs:=by have T:Tr n fo N N' (isN N):=Tr.ext H E;unfold gO iA;exact⟨congrArg List.sum (Nb λf hf=>(Ay T (R f hf).nn).1),congrArg List.sum (Nb λf hf=>(Ay T (R f hf).nn).2)⟩
def jQ:gO n N (fl++[f])=gO n N fl+eF n N f:=by simp[gO]
def iP:iA n N (fl++[f])=iA n N fl+dZ n N f:=by simp[iA]
def jw(k:Nat):1<=2^k:=NX k
def eN(h:k<=j):qS n k<=qS n j/\cS n k<=cS n j/\tS n k<=tS n j/\qB n k<=qB n j/\cB n k<=cB n j:=by
 induction h with
 |refl=>exact⟨Mb _,Mb _,Mb _,Mb _,Mb _⟩
 |step h ih=>
  obtain⟨a,b,c,d,e⟩:=ih;rename_i m;have e1:qS n (m+1)=2*qS n m+bJ n+4:=rfl;have e2:cS n (m+1)=2*cS n m+bJ n+4:=rfl;have e3:tS n (m+1)=2*tS n m+bJ n+3:=rfl;have e4:qB n (m+1)=2*qB n m+bN n+1:=rfl;have e5:cB n (m+1)=2*cB n m+bN n+1:=rfl;have p1:qS n k<=qS n (m+1):=ah;have p2:cS n k<=cS n (m+1):=ah;have p3:tS n k<=tS n (m+1):=ah;have p4:qB n k<=qB n (m+1):=ah;have p5:cB n k<=cB n (m+1):=ah;exact⟨p1,p2,p3,p4,p5⟩
def Fq:1<=qS n k/\bJ n+1<=cS n k/\1<=tS n k/\bN n<=cB n k:=by have h:=eN (n:=n) (Nq k);have e1:qS n 0=1:=rfl;have e2:cS n 0=bJ n+1:=rfl;have e3:tS n 0=1:=rfl;have e5:cB n 0=bN n:=rfl;omega
def wK:1<=eF n N f:=by
 unfold eF;have p:=jw (n-mlv n N f);have q:=jw (n-(f.level+1));have a:=Fq (n:=n) (k:=n-lvl n N f.a0);have ip: ∀{c:Prop} [Decidable c] {a b:Nat},1<=a->1<=b->1<=if c then a else b:=λ{c} _ {a b} h1 h2=>by split<;>assumption
 repeat (refine ip ah ?_)
 exact Mb _
def Ax(op a b c r:Nat):Prop:= ∀n f N,cX n N->isN N a->isN N b->isN N c->lZ n f N op a b c r
def Bu{n:Nat}{f:Nat->Nat}{N:ay}{op a b c:Nat}(H:cX n N)(ha:isN N a)(h: ∀x,false=nv op (sm n f N a x) (sm n f N b x) (sm n f N c x)):lZ n f N op a b c 0:=
 ⟨.inl ah,λk h1 _ _=>by rw[gT (a:=0) ah];have:=lvl_le H ha;omega,λx=>by rw[br ah];exact h x⟩
def vF{n:Nat}{f:Nat->Nat}{N:ay}{op a b c:Nat}(H:cX n N)(ha:isN N a)(h: ∀x,true=nv op (sm n f N a x) (sm n f N b x) (sm n f N c x)):lZ n f N op a b c 1:=
 ⟨.inl ah,λk h1 _ _=>by rw[gT (a:=1) ah];have:=lvl_le H ha;omega,λx=>by rw[br ah];exact h x⟩
def a9{h:aI}{m:Nat}{f:Fk}(A:At h f.b (fR m f)):rd h (aw f.b)=some (bf m)/\rd h ⟨f.b,1,none⟩=some (.int .u8 (f.op:Int))/\rd h ⟨f.b,3,none⟩=some (aq (f.a0:Int))/\rd h ⟨f.b,4,none⟩=some (aq (f.a1:Int))/\rd h ⟨f.b,5,none⟩=some (aq (f.a2:Int))/\rd h ⟨f.b,6,none⟩=some (ap (f.level:Int))/\rd h ⟨f.b,7,none⟩=some (aq (f.low:Int))/\rd h ⟨f.b,8,none⟩=some (iY f.fn f.b):=
 ⟨by rw[At.rd A];rfl,by rw[At.rd A];rfl,by rw[At.rd A];rfl,by rw[At.rd A];rfl,by rw[At.rd A];rfl,by rw[At.rd A];rfl,by rw[At.rd A];rfl,by rw[At.rd A];rfl⟩
def bI{h:aI}{s:Nat}{A:MA}(M:At h A.m (cO s A)):rd h (aw A.m)=some (bf s)/\rd h ⟨A.m,1,none⟩=some (.slice A.fp A.fs.length A.fc)/\rd h ⟨A.m,2,none⟩=some (aq (A.told:Int))/\rd h ⟨A.m,3,none⟩=some (aD A.done)/\rd h ⟨A.m,4,none⟩=some (ap (A.e:Int)):=
 ⟨by rw[At.rd M];rfl,by rw[At.rd M];rfl,by rw[At.rd M];rfl,by rw[At.rd M];rfl,by rw[At.rd M];rfl⟩
def D6{h:aI}{m:Nat}{f:Fk}{K:KK}(F:At h f.b (fR m f))(i:fV f.op)(hT: ∀r:Nat,Ax f.op f.a0 f.a1 f.a2 r->K (.tuple #[aq (r:Int),aC]) h)
  (hF: ∀r:Nat,(f.op=3->f.a0≠0)->K (.tuple #[aq (r:Int),aB]) h):Cl 223 [bf f.b] h K:=by
 obtain⟨-,r1,r3,r4,r5,-⟩:=a9 F;refine F223.spec ?_;simp only[aL,LX,Ma];have d:rd h ⟨f.b,3+Int.toNat (0:Int)*1,none⟩=some (aq (f.a0:Int)):=r3;have g:rd h ⟨f.b,3+Int.toNat (1:Int)*1,none⟩=some (aq (f.a1:Int)):=r4;refine⟨ah,ah,aH d ⟨ah,ah,aH g (aH r1 ?_)⟩⟩
 have tail: ∀z:Nat,(z=1/\f.op=2)\/(z=0/\f.op≠2)->F223.wk5 (aw f.b) (f.a0:Int) (f.a1:Int) (z:Int) h K:=by
  intro z hz;unfold F223.wk5;simp only[aL,LX,Ma];refine aH r1 ?_;rw[show(5:Int)=((5:Nat):Int)from rfl,cZ];refine aR (λe=> ?_) λe5=> ?_
  ·have e:=Mn e;exact hF 0 λh3=>ah
  have e5:=Me e5;have c:f.op=2\/f.op=3\/f.op=4:=by rcases i with h|h|h|h<;>omega
  rw[cZ];refine aR (λe=> ?_) λe0=> ?_
  ·have e:=Mn e;refine hT _ λn fo N H ha hb hc=>⟨hb,λk _ h2 _=>h2,λx=> ?_⟩;rcases hz with⟨h1,h2⟩|⟨h1,h2⟩
   ·rw[h2,e,h1,br (a:=1) ah];simp[nv]
   ·rcases c with h|h|h
    ·omega
    ·rw[h,e,h1,br (a:=0) ah];simp[nv]
    ·rw[h,e,h1,br (a:=0) ah];simp[nv]
  have e0:=Me e0
  have last:aJ ((f.a1:Int)==(z:Int)) (K (.tuple #[aq (f.a0:Int),aC]) h) (K (.tuple #[aq (0:Int),aB]) h):=by
   rw[cZ];refine aR (λe=> ?_) λe=> ?_
   ·have e:=Mn e;refine hT _ λn fo N H ha hb hc=>⟨ha,λk h2 _ _=>h2,λx=> ?_⟩;rcases hz with⟨h1,h2⟩|⟨h1,h2⟩
    ·rw[h2,e,h1,br (a:=1) ah];simp[nv]
    ·rcases c with h|h|h
     ·omega
     ·rw[h,e,h1,br (a:=0) ah];simp[nv]
     ·rw[h,e,h1,br (a:=0) ah];simp[nv]
   ·exact hF 0 λh3=>ah
  rw[cZ];refine aR (λe=>aH r1 ?_) λe=>last;have e:=Mn e;rw[show((f.op:Int) !=(4:Int))= !decide (f.op=4) by rw[show(4:Int)=((4:Nat):Int)from rfl,<-cZ];rfl];refine aR (λe4=> ?_) λe4=>last;have e4:f.op≠4:=by simpa using e4
  refine hT _ λn fo N H ha hb hc=>⟨hb,λk _ h2 _=>h2,λx=> ?_⟩;rw[e];rcases c with h|h|h
  ·rw[h];simp[nv]
  ·rw[h];simp[nv]
  ·omega
 rw[show(2:Int)=((2:Nat):Int)from rfl,cZ];refine aR (λe=> ?_) λe=> ?_
 ·exact tail 1 (.inl ⟨rfl,Mn e⟩)
 ·exact tail 0 (.inr ⟨rfl,Me e⟩)
def wL{a:Nat}:decide ((a:Int)<=(1:Int))=decide (a<=1):=by
 by_cases h:a<=1
 ·rw[Mg h,Mg ah]
 ·rw[L7 h,L7 ah]
def zI{n:Nat}{f:Nat->Nat}{N:ay}{a x:Nat}(h:a<=1):sm n f N a x=decide (a=1):=by rw[br ah];by_cases e:a=1<;>simp[e]
def Ez{h:aI}{m:Nat}{f:Fk}{K:KK}(F:At h f.b (fR m f))(o:fV f.op)(d:f.a0<2^32/\f.a1<2^32)(h3:f.op=3->f.a0≠0)(hT: ∀r:Nat,Ax f.op f.a0 f.a1 f.a2 r->K (.tuple #[aq (r:Int),aC]) h)
  (hF: ∀r:Nat,(2<=f.a0\/2<=f.a1\/2<=f.a2)->K (.tuple #[aq (r:Int),aB]) h):Cl 224 [bf f.b] h K:=by
 obtain⟨-,r1,r3,r4,r5,-⟩:=a9 F;refine F224.spec ?_;simp only[aL,LX,Ma];have j:rd h ⟨f.b,3+Int.toNat (0:Int)*1,none⟩=some (aq (f.a0:Int)):=r3;have l:rd h ⟨f.b,3+Int.toNat (1:Int)*1,none⟩=some (aq (f.a1:Int)):=r4;have i:rd h ⟨f.b,3+Int.toNat (2:Int)*1,none⟩=some (aq (f.a2:Int)):=r5;refine⟨ah,ah,aH j ⟨ah,ah,aH l ⟨ah,ah,aH i (aH r1 ?_)⟩⟩⟩;rw[AQ d.1 d.2,GP d.1 d.2,wL,wL];simp only[show(2:Int)=((2:Nat):Int)from rfl,show(3:Int)=((3:Nat):Int)from rfl,show(4:Int)=((4:Nat):Int)from rfl,show(1:Int)=((1:Nat):Int)from rfl,show(0:Int)=((0:Nat):Int)from rfl,cZ]
 have c:f.op=2->(f.a0=0\/f.a1=0)->K (.tuple #[aq ((f.a0&&&f.a1:Nat):Int),aC]) h:=λe he=>by
  have:f.a0&&&f.a1=0:=by rcases he with h|h<;>rw[h]<;>simp
  rw[this];refine hT 0 λn fo N H ha hb hc=>Bu H ha λx=> ?_;rw[e];rcases he with h|h
  ·rw[h,br (a:=0) ah];simp[nv]
  ·rw[h,br (a:=0) ah];simp[nv]
 refine aR (λe=> ?_) λe2=> ?_
 ·have e:=Mn e;have t:f.a0≠0->aJ (decide (f.a0=0)) (K (.tuple #[aq ((f.a0&&&f.a1:Nat):Int),aC]) h) (K (.tuple #[aq ((f.a0&&&f.a1:Nat):Int),aD (decide (f.a1=0))]) h)->True:=λ_ _=>trivial
  have rest:(2<=f.a0\/2<=f.a1)->aJ (decide (f.a0=0)) (K (.tuple #[aq ((f.a0&&&f.a1:Nat):Int),aC]) h) (K (.tuple #[aq ((f.a0&&&f.a1:Nat):Int),aD (decide (f.a1=0))]) h):=λh2=>by
   refine aR (λe0=>c e (.inl (Mn e0))) λe0=> ?_;by_cases h1:f.a1=0
   ·rw[Mg h1];exact c e (.inr h1)
   ·rw[L7 h1];exact hF _ (h2.imp id .inl)
  refine aR (λe0=> ?_) λe0=>rest (.inl (by have:=Me e0;omega));have e0:=Mn e0;refine aR (λe1=> ?_) λe1=>rest (.inr (by have:=Me e1;omega));have e1:=Mn e1;by_cases hz:f.a0=0\/f.a1=0
  ·exact c e hz
  ·have q0:f.a0=1:=ah;have q1:f.a1=1:=ah;rw[show f.a0&&&f.a1=1 by rw[q0,q1];rfl];refine hT 1 λn fo N H ha hb hc=>vF H ha λx=> ?_;rw[e,q0,q1,br (a:=1) ah];simp[nv]
 have e2:=Me e2;refine aR (λe=> ?_) λe3=> ?_
 ·have e:=Mn e
  have g:(f.a0=1\/f.a1=1)->K (.tuple #[aq ((1:Nat):Int),aC]) h:=λhe=>by
   refine hT 1 λn fo N H ha hb hc=>vF H ha λx=> ?_;rw[e];rcases he with h|h
   ·rw[h,br (a:=1) ah];simp[nv]
   ·rw[h,br (a:=1) ah];simp[nv]
  refine aR (λe0=>g (.inl (Mn e0))) λe0=> ?_;by_cases h1:f.a1=1
  ·rw[Mg h1];exact g (.inr h1)
  ·rw[L7 h1];refine hF 1 (.inl ?_);have:=Me e0;have:=h3 e;omega
 have e3:=Me e3;refine aR (λe=> ?_) λe4=> ?_
 ·have e:=Mn e;refine aR (λe0=> ?_) λe0=> ?_
  ·have e0:=Mn e0;rw[e0,Nat.xor_self];refine hT 0 λn fo N H ha hb hc=>Bu H ha λx=> ?_;rw[e,e0];simp[nv]
  ·have e0:=Me e0;refine aR (λe1=> ?_) λe1=>hF _ (.inl (by have:=Me e1;omega));have e1:=Mn e1;by_cases h1:f.a1<=1
   ·rw[Mg h1]
    have q:f.a0^^^f.a1=1:=by have:(f.a0=0/\f.a1=1)\/(f.a0=1/\f.a1=0):=ah;rcases this with⟨h,h'⟩|⟨h,h'⟩<;>rw[h,h']<;>rfl
    rw[q];refine hT 1 λn fo N H ha hb hc=>vF H ha λx=> ?_;rw[e,zI e1,zI h1];have:(f.a0=0/\f.a1=1)\/(f.a0=1/\f.a1=0):=ah;rcases this with⟨h,h'⟩|⟨h,h'⟩<;>rw[h,h']<;>simp[nv]
   ·rw[L7 h1];exact hF _ (.inr (.inl ah))
 have e4:=Me e4;have e5:f.op=5:=by rcases o with h|h|h|h<;>omega
 refine aR (λe=> ?_) λe1=>aR (λe=> ?_) λu=>aR (λe=> ?_) λe0=> ?_
 ·have e:=Mn e;refine hT _ λn fo N H ha hb hc=>⟨hb,λk _ h2 _=>h2,λx=> ?_⟩;rw[e5,e,br (a:=1) ah];simp[nv]
 ·have e:=Mn e;refine hT _ λn fo N H ha hb hc=>⟨hb,λk _ h2 _=>h2,λx=> ?_⟩;rw[e5,e];simp[nv]
 ·have e:=Mn e;refine hT _ λn fo N H ha hb hc=>⟨hc,λk _ _ h2=>h2,λx=> ?_⟩;rw[e5,e,br (a:=0) ah];simp[nv]
 ·exact hF 0 (.inl (by have:=Me e1;have:=Me e0;omega))
def t9(side:Bool)(s:Nat):Value:= .func (.func (if side then 73 else 72)) #[au (aw s)] #[]
def xq{h:aI}{s:Nat}{f:Fk}{K:KK}{L:List Nat}{X:SX}{A:MA}{side:Bool}(H:bT h s L X)(F:At h f.b (fR A.m f))(M:At h A.m (cO s A))(ha:isN X.N f.a0)(hb:isN X.N f.a1)(hc:isN X.N f.a2)
  (hK: ∀h',aM [] h h'->K (.agg #[aq (ch X.n X.N f.level side f.a0:Int),aq (ch X.n X.N f.level side f.a1:Int),aq (ch X.n X.N f.level side f.a2:Int)]) h'):
  Cl 226 [bf f.b,t9 side s] h K:=by
 refine F226.spec _ _ h K ?_;refine aW λh1 A1 O1 z1=> ?_;simp only[aL,LX,Ma];have F1:=F.only O1 ak;obtain⟨-,-,r3,r4,r5,-⟩:=a9 F1;refine aH r3 (aH r4 (aH r5 ?_));refine aW λh2 A2 O2 z2=> ?_;refine aU A2 ak rfl λh3 A3 O3 z3=>aU A3 ak rfl λh4 A4 O4 z4=>aU A4 ak rfl λh5 A5 O5 z5=> ?_;have A5:At h5 h1.size [aq (f.a0:Int),aq (f.a1:Int),aq (f.a2:Int)]:=A5;have r: ∀k,rd h5 ⟨h1.size,k,none⟩=([aq (f.a0:Int),aq (f.a1:Int),aq (f.a2:Int)]:List Value)[k]? :=λk=>At.rd A5 k;refine aH (by rw[r];rfl) (aH (by rw[r];rfl) (aH (by rw[r];rfl) ?_));unfold F226.wk3;have O15:aM [h1.size] h1 h5:=((O2.mono (T:=[h1.size]) ak).trans O3 λb hb _=>hb).trans O4 (λb hb _=>hb)|>.trans O5 λb hb _=>hb;have B5:At h5 h.size [aq 0,aq 0,aq 0]:=A1.only O15 (by simp;omega);have O05:aM [] h h5:=O1.trans O15 (by intro b hb hl;simp at hb;omega)
 have step: ∀(bk:Addr->Value->Addr->Addr->Int->Int->Int->Int->aI->Prop) (h':aI) (i y:Nat) (l':List Value),i<3->(if i=0 then f.a0 else if i=1 then f.a1 else f.a2)=y->isN X.N y->l'.length=3->(l'[i]? =some (aq (y:Int)))->
   At h' h.size [aq 0,aq 0,aq 0]->At h' h1.size l'->aM [] h h'->
   (∀a,At a h.size [aq 0,aq 0,aq 0]->At a h1.size (l'.set i (aq (ch X.n X.N f.level side y:Int)))->aM [] h a->bk (aw f.b) (t9 side s) (aw h.size) (aw h1.size) (f.a0:Int) (f.a1:Int) (f.a2:Int) ((i+1:Nat):Int) a)->
   F226.JL3 bk (aw f.b) (t9 side s) (aw h.size) (aw h1.size) (f.a0:Int) (f.a1:Int) (f.a2:Int) (i:Int) h' K:=by
  intro bk h' i y l' hi hy hN D q B A O hB;unfold F226.JL3;have F':=F.only O ak;have M':=M.only O ak;have S':=H.only0 O;obtain⟨r0,-,-,-,-,r6,-⟩:=a9 F';have m0:=(bI M').1;rw[Mg ah,aO];refine⟨ah,ah,aH (n:=(y:Int)) ?_ ?_⟩
  ·rw[Md];subst hy;have:i=0\/i=1\/i=2:=ah;rcases this with e|e|e<;>subst e<;>rfl
  simp only[aL,LX,Ma];refine aQ r0 ?_;rw[aT];simp only[aL,LX,Ma];refine aQ m0 (aH r6 (dv S' hN (aH rfl ⟨by trivial,by trivial,by trivial,aH r6 ⟨by trivial,?_⟩⟩)));have ew:ax ((i:Int)+1)=((i+1:Nat):Int):=by rw[wrap_i64 ah ah];omega
  rw[ew,cZ];refine aR (λe=> ?_) λe=> ?_
  ·have e:=Mn e;have c:ch X.n X.N f.level side y=if side then high X.N y else low X.N y:=by unfold ch;rw[L4 e]
   have wr: ∀z:Nat,z=ch X.n X.N f.level side y->aS .u32 (some (aq (z:Int))) λl=>0<=(i:Int)/\(i:Int)<(Nat.cast 3:Int)/\aY h' ⟨h1.size,Int.toNat (i:Int)*1,none⟩ (aq l) λo=>bk (aw f.b) (t9 side s) (aw h.size) (aw h1.size) (f.a0:Int) (f.a1:Int) (f.a2:Int) ((i+1:Nat):Int) o:=λz hz=>by refine aH rfl ⟨ah,ah,?_⟩;rw[Md,MU,hz];exact aU A ah rfl λa A' O' z'=>hB a (B.only O' (by simp;omega)) A' (O.trans O' (by intro x hx u;simp at hx;omega))
   unfold t9 at wr ⊢;cases side with
   |true=>exact bj IB (fA S' hN (wr _ (by rw[c];rfl)))
   |false=>exact bj H9 (iI S' hN (wr _ (by rw[c];rfl)))
  ·have e:=Me e;have c:ch X.n X.N f.level side y=y:=by unfold ch;rw[LY e]
   refine hB h' B ?_ O;rw[c]
   have:l'.set i (aq (y:Int))=l':=by
    apply MM;intro j;rw[ME];by_cases hij:i=j
    ·subst hij;rw[L4 rfl,L4 ah,q]
    ·rw[LY hij]
   rw[this];exact A
 refine⟨4,?_⟩;rw[F226.sL3];refine step _ h5 0 f.a0 _ ah rfl ha rfl rfl B5 A5 O05 λh6 B6 A6 O6=> ?_;rw[F226.sL3];refine step _ h6 1 f.a1 _ ah rfl hb rfl rfl B6 A6 O6 λh7 B7 A7 O7=> ?_;rw[F226.sL3];refine step _ h7 2 f.a2 _ ah rfl hc rfl rfl B7 A7 O7 λh8 B8 A8 O8=> ?_;rw[F226.sL3];unfold F226.JL3;rw[L7 ah,aK];simp only[aL,LX,Ma];have A8:At h8 h1.size [aq (ch X.n X.N f.level side f.a0:Int),aq (ch X.n X.N f.level side f.a1:Int),aq (ch X.n X.N f.level side f.a2:Int)]:=A8;have r8: ∀k,rd h8 ⟨h1.size,k,none⟩=([aq (ch X.n X.N f.level side f.a0:Int),aq (ch X.n X.N f.level side f.a1:Int),aq (ch X.n X.N f.level side f.a2:Int)]:List Value)[k]? :=λk=>At.rd A8 k;refine aH (by rw[r8];rfl) (aH (by rw[r8];rfl) (aH (by rw[r8];rfl) ?_));refine aU B8 ak rfl λh9 A9 O9 z9=>aU A9 ak rfl λC A10 O10 t=>aU A10 ak rfl λg A11 O11 v=> ?_;have A11:At g h.size [aq (ch X.n X.N f.level side f.a0:Int),aq (ch X.n X.N f.level side f.a1:Int),aq (ch X.n X.N f.level side f.a2:Int)]:=A11;have d: ∀k,rd g ⟨h.size,k,none⟩=([aq (ch X.n X.N f.level side f.a0:Int),aq (ch X.n X.N f.level side f.a1:Int),aq (ch X.n X.N f.level side f.a2:Int)]:List Value)[k]? :=λk=>At.rd A11 k;refine aH (by rw[d];rfl) (aH (by rw[d];rfl) (aH (by rw[d];rfl) ?_));exact hK g (((O8.trans O9 (by intro b hb hl;simp at hb;omega)).trans O10 (by intro b hb hl;simp at hb;omega)).trans O11 (by intro b hb hl;simp at hb;omega))
def Kb:bR X 180=some cH.go:=by kernel_rfl
def Ij:bR X 225=some cH.go:=by kernel_rfl
def Ir:bR X 273=some cH.go:=by kernel_rfl
def bG.ftop{A:MA}{fr:Fk}(M:bG h s {A with fs:=fl++[fr]}):At h fr.b (fR A.m fr):=M.frm fr ak
def bP{A:MA}{fl:List Fk}{fr:Fk}:fr.b∈({A with fs:=fl++[fr]}:MA).bl:=by simp[MA.bl]
def Bb{h:aI}{s n room:Nat}{fo gg:Nat->Nat}{off:Bool}{N:ay}{A:MA}{fl:List Fk}{fr:Fk}{K:KK}{L:List Nat}(H:bT h s L (XL n room fo gg N off))(M:bG h s {A with fs:=fl++[fr]})(D: ∀b∈({A with fs:=fl++[fr]}:MA).bl,b∉L)(hl:fl.length<900000)(j:fV fr.op)(ha:isN N fr.a0)(hb:isN N fr.a1)(hc:isN N fr.a2)
  (hT: ∀h' fp r,lZ n fo N fr.op fr.a0 fr.a1 fr.a2 r->bT h' s L (XL n room fo gg N off)->bG h' s {A with fp:=fp,fs:=fl,told:=r,done:=fl.isEmpty}->aV fp=aV A.fp->aM (L++({A with fs:=fl++[fr]}:MA).bl) h h'->K aE h')
  (hP: ∀h' l b fp fc,l=min (lvl n N fr.a2) (min (lvl n N fr.a1) (min (lvl n N fr.a0) n))->l<n->h.size<=b->bT h' s L (XL n room fo gg N off)->
   bG h' s {A with fp:=fp,fc:=fc,fs:=fl++[{fr with level:=l,fn:=225}]++[⟨b,fr.op,0,ch n N l false fr.a0,ch n N l false fr.a1,ch n N l false fr.a2,0,0,180⟩]}->(∀b∈aV fp,b∈aV A.fp\/h.size<=b)->aM (L++({A with fs:=fl++[fr]}:MA).bl) h h'->K aE h'):
  Cl 180 [bf fr.b] h K:=by
 have ok:=H.ok;dsimp only[XL]at ok;have P:=ok.2.2.1;have a: ∀{y},isN N y->y<2^16:=λhy=>by have:=H.isN_lt hy;omega
 have B:fr.op<2^8:=by rcases j with h|h|h|h<;>omega
 refine F180.spec _ h K ?_;simp only[aL,LX,Ma];have F:=M.ftop;have r0:=(a9 F).1;have m0:=(bI M.own).1;refine aQ r0 ?_;rw[aT];simp only[aL,LX,Ma];refine aQ m0 ?_
 have d: ∀h' r,lZ n fo N fr.op fr.a0 fr.a1 fr.a2 r->bT h' s L (XL n room fo gg N off)->bG h' s {A with fs:=fl++[fr]}->aM L h h'->F180.wk6 (aw fr.b) (some (aw s)) (r:Int) true h' K:=by
  intro h' r R S M' O;unfold F180.wk6;rw[aO];simp only[aL,LX,Ma];refine aQ (a9 M'.ftop).1 (gH M' ah λh2 fp M2 e2 O2=>⟨rfl,?_⟩);refine hT h2 fp r R (S.only O2 λb hb hm=> ?_) M2 e2 ((O.mono λb hb _=>Zp (.inl hb)).trans O2 λb hb _=> ?_)
  ·simp only[LZ]at hb;subst hb;exact D A.m (by simp[MA.bl]) hm
  ·simp only[LZ]at hb;subst hb;exact Zp (.inr (by simp[MA.bl]))
 have q: ∀h' (z:Int),(2<=fr.a0\/2<=fr.a1\/2<=fr.a2)->bT h' s L (XL n room fo gg N off)->bG h' s {A with fs:=fl++[fr]}->aM L h h'->F180.wk6 (aw fr.b) (some (aw s)) z false h' K:=by
  intro h' z h2 S M' O;unfold F180.wk6;rw[aK];simp only[aL,LX,Ma];refine dX S (aH rfl ?_);have V:=O.size;have o:fr.b∉L:=D _ bP;have zL:=H.lt;refine M'.top (f':={fr with level:=n}) (by decide) rfl rfl rfl λh3 M3 O3=> ?_;have S3:=S.only O3 (λb hb hm=>by simp only[LZ]at hb;subst hb;exact o hm);obtain⟨q0,q1,q3,q4,q5,q6,-⟩:=a9 M3.ftop;refine aH q3 (aH q4 (aH q5 ?_));unfold F180.wk10;have O03:aM (L++[fr.b]) h h3:=(O.mono λb hb _=>Zp (.inl hb)).trans O3 λb hb _=>Zp (.inr hb)
  have c: ∀(bk:Addr->az->Int->Int->Int->Int->aI->Prop) (t:Addr->az->aI->Prop) (h4:aI) (i y l:Nat),i<3->(if i=0 then fr.a0 else if i=1 then fr.a1 else fr.a2)=y->isN N y->bT h4 s L (XL n room fo gg N off)->bG h4 s {A with fs:=fl++[{fr with level:=l}]}->aM (L++[fr.b]) h h4->
    (∀h5,bT h5 s L (XL n room fo gg N off)->bG h5 s {A with fs:=fl++[{fr with level:=min (lvl n N y) l}]}->aM (L++[fr.b]) h h5->bk (aw fr.b) (some (aw s)) (fr.a0:Int) (fr.a1:Int) (fr.a2:Int) ((i+1:Nat):Int) h5)->
    F180.JL10 bk t (aw fr.b) (some (aw s)) (fr.a0:Int) (fr.a1:Int) (fr.a2:Int) (i:Int) h4 K:=by
   intro bk t h4 i y l hi hy hN S4 M4 O4 hB;unfold F180.JL10;rw[Mg ah,aO];simp only[aL,LX,Ma];obtain⟨p0,p1,p3,p4,p5,p6,-⟩:=a9 M4.ftop;refine⟨ah,ah,aH (n:=(y:Int)) ?_ (aH p6 (dv S4 hN (aH rfl ⟨by trivial,by trivial,by trivial,by trivial,aH p6 ⟨by trivial,?_⟩⟩)))⟩
   ·rw[Md];subst hy;have:i=0\/i=1\/i=2:=ah;rcases this with e|e|e<;>subst e<;>rfl
   ·have ew:ax ((i:Int)+1)=((i+1:Nat):Int):=by rw[wrap_i64 ah ah];omega
    rw[ew];show aY h4 ⟨fr.b,6,none⟩ (ap (if((lvl n N y:Nat):Int)<(l:Int)then((lvl n N y:Nat):Int)else(l:Int))) _;rw[Fv];refine M4.top (f':={fr with level:=min (lvl n N y) l}) (by decide) rfl rfl rfl λh5 M5 O5=>hB h5 (S4.only O5 λb hb hm=>by simp only[LZ]at hb;subst hb;exact o hm) M5 (O4.trans O5 λb hb _=>Zp (.inr hb))
  refine⟨4,?_⟩;rw[F180.sL10];refine c _ _ h3 0 fr.a0 n ah rfl ha S3 M3 O03 λh4 S4 M4 O4=> ?_;rw[F180.sL10];refine c _ _ h4 1 fr.a1 _ ah rfl hb S4 M4 O4 λh5 S5 M5 O5=> ?_;rw[F180.sL10];refine c _ _ h5 2 fr.a2 _ ah rfl hc S5 M5 O5 λh6 S6 M6 O6=> ?_;rw[F180.sL10];unfold F180.JL10;rw[L7 ah,aK];obtain⟨l,el⟩: ∃l,l=min (lvl n N fr.a2) (min (lvl n N fr.a1) (min (lvl n N fr.a0) n)):=⟨_,rfl⟩;rw[<-el]at M6;have k: ∀{y},isN N y->2<=y->lvl n N y<n:=λhy h2=>(ok.1.at hy h2).1
  have u:l<n:=by
   rcases h2 with h2|h2|h2
   ·have:=k ha h2;omega
   ·have:=k hb h2;omega
   ·have:=k hc h2;omega
  unfold F180.wk14;simp only[aL,LX,Ma];refine M6.top (f':={fr with level:=l,fn:=225}) (by decide) rfl rfl rfl λh7 M7 O7=> ?_;have S7:=S6.only O7 (λb hb hm=>by simp only[LZ]at hb;subst hb;exact o hm);have F7:=M7.ftop;obtain⟨q0,q1,-⟩:=a9 F7;refine aQ q0 (aH q1 ?_);have O07:aM (L++[fr.b]) h h7:=O6.trans O7 λb hb _=>Zp (.inr hb);refine xq (A:={A with fs:=fl++[{fr with level:=l,fn:=225}]}) (side:=false) (f:={fr with level:=l,fn:=225}) S7 F7 M7.own ha hb hc λh8 O8=>⟨_,_,_,rfl,by trivial,by trivial,by trivial,?_⟩;have M8:=M7.only0 O8;have S8:=S7.only0 O8;obtain⟨p0,p1,-⟩:=a9 M8.ftop;refine aQ p0 ⟨by trivial,by trivial,by trivial,by trivial,aH p1 ⟨by trivial,?_⟩⟩;refine fB (A:={A with fs:=fl++[{fr with level:=l,fn:=225}]}) (mask:=0) M8 (by simp;omega) λh9 g fp fc hg M9 O9 g9=>aQ rfl ?_;obtain⟨b,rfl,Q⟩:=hg;have U:h.size<=h8.size:=Nc O07.size O8.size;refine hP h9 l b fp fc el u ah (S8.only O9 λx hx hm=> ?_) M9 (λx hx=>(g9 x hx).imp id λh=>ah) ?_
  ·rcases List.mem_cons.1 hx with e|hx
   ·subst e;exact D A.m (by simp[MA.bl]) hm
   ·have hx:x∈aV A.fp:=hx;exact D x (by simp[MA.bl,hx]) hm
  ·refine((O07.trans O8 ak).mono (T:=L++({A with fs:=fl++[fr]}:MA).bl) λx hx _=> ?_).trans O9 λx hx _=>Zp (.inr ?_)
   ·rcases Zq hx with h|h
    ·exact Zp (.inl h)
    ·simp only[LZ]at h;subst h;exact Zp (.inr bP)
   ·rcases List.mem_cons.1 hx with e|hx
    ·subst e;simp[MA.bl]
    ·have hx:x∈aV A.fp:=hx;simp[MA.bl,hx]
 have C:fr.a0<2^32/\fr.a1<2^32:=⟨by have:=a ha;omega,by have:=a hb;omega⟩;refine D6 F j (λr R=>⟨_,_,rfl,?_⟩) λr h3=>⟨_,_,rfl,?_⟩
 ·rw[MF,aK];unfold F180.wk4;rw[MF,aK];exact d h r (R n fo N ok.1 ha hb hc) H M (aM.refl _ _)
 ·rw[MS,aO];refine Ez F j C h3 (λr R=>⟨_,_,rfl,?_⟩) λr h2=>⟨_,_,rfl,?_⟩
  ·unfold F180.wk4;rw[MF,aK];exact d h r (R n fo N ok.1 ha hb hc) H M (aM.refl _ _)
  ·unfold F180.wk4;rw[MS,aO];simp only[aL,LX,Ma];obtain⟨-,p1,p3,p4,p5,-⟩:=a9 F;have I:rd h ⟨fr.b,3+Int.toNat (0:Int)*1,none⟩=some (aq (fr.a0:Int)):=p3;have J:rd h ⟨fr.b,3+Int.toNat (1:Int)*1,none⟩=some (aq (fr.a1:Int)):=p4;have G:rd h ⟨fr.b,3+Int.toNat (2:Int)*1,none⟩=some (aq (fr.a2:Int)):=p5;refine aH p1 ⟨ah,ah,aH I ⟨ah,ah,aH J ⟨ah,ah,aH G ?_⟩⟩⟩;refine kT (mask:=0) H B (by decide) (a ha) (a hb) (a hc) (λh4 S4 O4=>⟨_,_,rfl,?_⟩) λh4 v hv S4 O4=>⟨_,_,rfl,?_⟩
   ·exact q h4 _ h2 S4 (M.only O4 λb hb hm=>D b hm hb) O4
   ·obtain⟨r,rfl,R⟩:=QL.get (by rcases j with h|h|h|h<;>omega) hv (a ha) (a hb) (a hc);have hr:=H.isN_lt R.is;rw[gK ah];exact d h4 r R S4 (M.only O4 λb hb hm=>D b hm hb) O4
def rW{h:aI}{A:MA}{fl:List Fk}{fr:Fk}(H:bT h s L (XL n room fo gg N off))(M:bG h s {A with fs:=fl++[fr]})(D: ∀b∈({A with fs:=fl++[fr]}:MA).bl,b∉L)(hl:fl.length<900000)(ha:isN N fr.a0)(hb:isN N fr.a1)(hc:isN N fr.a2)
  (hP: ∀h' b fp fc,h.size<=b->bT h' s L (XL n room fo gg N off)->
   bG h' s {A with fp:=fp,fc:=fc,fs:=fl++[{fr with low:=A.told,fn:=273}]++[⟨b,fr.op,0,ch n N fr.level true fr.a0,ch n N fr.level true fr.a1,ch n N fr.level true fr.a2,0,0,180⟩]}->(∀b∈aV fp,b∈aV A.fp\/h.size<=b)->aM (L++({A with fs:=fl++[fr]}:MA).bl) h h'->K aE h'):
  Cl 225 [bf fr.b] h K:=by
 refine F225.spec ?_;simp only[aL,LX,Ma];have a:fr.b∉L:=D _ bP;have rm:=bI M.own;refine aQ (a9 M.ftop).1 ?_;rw[aT];simp only[aL,LX,Ma];refine aH rm.2.2.1 ?_;refine M.top (f':={fr with low:=A.told}) (by decide) rfl rfl rfl λh1 M1 O1=> ?_;refine M1.top (f':={fr with low:=A.told,fn:=273}) (by decide) rfl rfl rfl λh2 M2 O2=> ?_;have O02:aM [fr.b] h h2:=O1.trans O2 λb hb _=>hb;have S2:=H.only O02 (λb hb hm=>by simp only[LZ]at hb;subst hb;exact a hm);have F2:=M2.ftop;obtain⟨q0,q1,-⟩:=a9 F2;refine aQ q0 (aH q1 (aQ q0 ?_));rw[aT];simp only[aL,LX,Ma];refine aQ (bI M2.own).1 ?_;refine xq (A:={A with fs:=fl++[{fr with low:=A.told,fn:=273}]}) (side:=true) (f:={fr with low:=A.told,fn:=273}) S2 F2 M2.own ha hb hc λh8 O8=>⟨_,_,_,rfl,by trivial,by trivial,by trivial,?_⟩;have M8:=M2.only0 O8;have S8:=S2.only0 O8;obtain⟨p0,p1,-⟩:=a9 M8.ftop;refine aQ p0 ⟨by trivial,by trivial,by trivial,by trivial,aH p1 ⟨by trivial,?_⟩⟩;refine fB (A:={A with fs:=fl++[{fr with low:=A.told,fn:=273}]}) (mask:=0) M8 (by simp;omega) λh9 g fp fc hg M9 O9 g9=>aQ rfl ?_;obtain⟨b,rfl,c⟩:=hg;have d:h.size<=h8.size:=Nc O02.size O8.size;refine hP h9 b fp fc ah (S8.only O9 λx hx hm=> ?_) M9 (λx hx=>(g9 x hx).imp id λh=>ah) ?_
 ·rcases List.mem_cons.1 hx with e|hx
  ·subst e;exact D A.m (by simp[MA.bl]) hm
  ·have hx:x∈aV A.fp:=hx;exact D x (by simp[MA.bl,hx]) hm
 ·refine((O02.trans O8 ak).mono (T:=L++({A with fs:=fl++[fr]}:MA).bl) λx hx _=> ?_).trans O9 λx hx _=>Zp (.inr ?_)
  ·simp only[LZ]at hx;subst hx;exact Zp (.inr bP)
  ·rcases List.mem_cons.1 hx with e|hx
   ·subst e;simp[MA.bl]
   ·have hx:x∈aV A.fp:=hx;simp[MA.bl,hx]
def sa{A:MA}{fl:List Fk}{fr:Fk}(H:bT h s L (XL n room fo gg N off))(M:bG h s {A with fs:=fl++[fr]})(D: ∀b∈({A with fs:=fl++[fr]}:MA).bl,b∉L)(hl:fl.length<900000)(i:fV fr.op)(ha:isN N fr.a0)(hb:isN N fr.a1)(hc:isN N fr.a2)
  (o:fr.level<n) (k:isN N fr.low) (j:isN N A.told) (g:fr.level<lvl n N fr.low) (t:fr.level<lvl n N A.told)
  (hR: ∀N' r,Ex N N'->iC room N fr.level fr.low A.told N' r 0->cX n N'->lZ n fo N' fr.op fr.a0 fr.a1 fr.a2 r)
  (hT: ∀h' L' N' fp r,iC room N fr.level fr.low A.told N' r 0->lZ n fo N' fr.op fr.a0 fr.a1 fr.a2 r->bT h' s L' (XL n room fo gg N' off)->bG h' s {A with fp:=fp,fs:=fl,told:=r,done:=fl.isEmpty}->aV fp=aV A.fp->aM (L++({A with fs:=fl++[fr]}:MA).bl) h h'->bC L L' h->K aE h')
  (hE: ∀h' L',room<=bi N->bT h' s L' (XL n room fo gg N off)->bG h' s {A with fp:=none,fc:=0,fs:=[],done:=true,e:=60}->aM (L++({A with fs:=fl++[fr]}:MA).bl) h h'->bC L L' h->K aE h'):
  Cl 273 [bf fr.b] h K:=by
 have ok:=H.ok;dsimp only[XL]at ok;have F:=ok.2.2.1;have a: ∀{y},isN N y->y<2^16:=λhy=>by have:=H.isN_lt hy;omega
 have q:fr.op<2^8:=by rcases i with h|h|h|h<;>omega
 refine F273.spec ?_;simp only[aL,LX,Ma];have G:fr.b∉L:=D _ bP;have u:=M.lt;obtain⟨q0,q1,-,-,-,q6,q7,-⟩:=a9 M.ftop;refine aH q6 (aH q7 (aQ q0 ?_));rw[aT];simp only[aL,LX,Ma];refine aH (bI M.own).2.2.1 ?_;refine F276.spec ?_;simp only[aL,LX,Ma];refine aQ q0 ?_;rw[aT];simp only[aL,LX,Ma];refine aQ (bI M.own).1 ?_;refine sJ H (l:=fr.level) o k j g t λh1 L1 N1 r e R S1 O1 g1=>⟨_,_,rfl,?_⟩;dsimp only[XL]at R
 have DD: ∀b∈({A with fs:=fl++[fr]}:MA).bl,b∉L1:=λb hb hm=>by
  rcases g1 b hm with h|h
  ·exact D b hb h
  ·have:=u b hb;omega
 have M1:=M.only O1 (λb hb hm=>D b hm hb);have c:=S1.ok;dsimp only[XL]at c;by_cases he:e=0
 ·subst he;have E1:Ex N N1:=(gh (f:=fo) ok.1 c.1 k j g R).1;have S1':=rX S1 ok.1 E1;have RR:=hR N1 r E1 R c.1;rw[show((((0:Nat):Int)) !=(0:Int))=false from rfl,aK];unfold F276.wk4;refine⟨_,_,rfl,?_⟩;rw[show((((0:Nat):Int))==(0:Int))=true from rfl,aO];obtain⟨p0,p1,p3,p4,p5,-⟩:=a9 M1.ftop;refine aQ p0 ?_;rw[aT];simp only[aL,LX,Ma];refine aQ (bI M1.own).1 (aH p1 ?_);have B:rd h1 ⟨fr.b,3+Int.toNat (0:Int)*1,none⟩=some (aq (fr.a0:Int)):=p3;have C:rd h1 ⟨fr.b,3+Int.toNat (1:Int)*1,none⟩=some (aq (fr.a1:Int)):=p4;have z:rd h1 ⟨fr.b,3+Int.toNat (2:Int)*1,none⟩=some (aq (fr.a2:Int)):=p5;have hr:=S1'.isN_lt RR.is;refine⟨ah,ah,aH B ⟨ah,ah,aH C ⟨ah,ah,aH z ?_⟩⟩⟩;refine pj (mask:=0) S1' q (by decide) (a ha) (a hb) (a hc) ah ⟨fr.op,0,fr.a0,fr.a1,fr.a2,r,rfl,rfl,by decide,E1.isN ha,E1.isN hb,E1.isN hc,a ha,a hb,a hc,.inl ⟨by rcases i with h|h|h|h<;>omega,rfl,RR⟩⟩ λh2 S2 O2=>⟨rfl,?_⟩;have M2:=M1.only O2 (λb hb hm=>DD b hm hb);refine aQ (a9 M2.ftop).1 (gH M2 ah λh3 fp M3 e3 O3=>⟨rfl,?_⟩);have nm:A.m∉L1:=DD A.m (by simp[MA.bl]);refine hT h3 L1 N1 fp r R RR (S2.only O3 λb hb hm=>by simp only[LZ]at hb;subst hb;exact nm hm) M3 e3 ?_ g1;refine((O1.app O2 g1).mono (T:=L++({A with fs:=fl++[fr]}:MA).bl) λx hx _=>Zp (.inl hx)).trans O3 λx hx _=> ?_;simp only[LZ]at hx;subst hx;exact Zp (.inr (by simp[MA.bl]))
 ·have d:room<=bi N/\e=60/\N1=N:=by
   rcases R with⟨-,-,h,-⟩|⟨-,_,-,-,h,-⟩|⟨-,-,h1,-,h2,h3⟩|⟨-,-,-,h,-⟩
   ·exact Mw h he
   ·exact Mw h he
   ·exact⟨h1,h2,h3⟩
   ·exact Mw h he
  obtain⟨v,rfl,rfl⟩:=d;rw[show((((60:Nat):Int)) !=(0:Int))=true from rfl,aO];obtain⟨p0,-⟩:=a9 M1.ftop;refine aQ p0 (aQ p0 (aQ p0 ?_));rw[aT];simp only[aL,LX,Ma];refine aU M1.own (by simp[cO]) rfl λh2 A2 O2 z2=> ?_;rw[aT];simp only[aL,LX,Ma];refine aU A2 (by simp[cO]) rfl λh3 A3 O3 z3=> ?_;rw[aT];simp only[aL,LX,Ma];refine aU A3 (by simp[cO]) rfl λh4 A4 O4 z4=> ?_;unfold F276.wk4;refine⟨_,_,rfl,?_⟩;rw[show((((60:Nat):Int))==(0:Int))=false from rfl,aK];have O14:aM [A.m] h1 h4:=(O2.trans O3 λb hb _=>hb).trans O4 λb hb _=>hb;have nm:A.m∉L1:=DD A.m (by simp[MA.bl]);refine hE h4 L1 v (S1.only O14 λb hb hm=>by simp only[LZ]at hb;subst hb;exact nm hm) ⟨?_,nE.nil _ _,(λf hf=>by cases hf),by simp[MA.bl,aV]⟩ ?_ g1
  ·have e:(((cO s {A with fs:=fl++[fr]}).set 4 (ap ((60:Nat):Int))).set 3 aC).set 1 (.slice none 0 0)=cO s {A with fp:=none,fc:=0,fs:=[],done:=true,e:=60}:=by simp[cO]
   rw[<-e];exact A4
  ·refine(O1.mono (T:=L++({A with fs:=fl++[fr]}:MA).bl) λx hx _=>Zp (.inl hx)).trans O14 λx hx _=> ?_;simp only[LZ]at hx;subst hx;exact Zp (.inr (by simp[MA.bl]))
def wj(R:iC room N l a b N' r 0):bi N'<=bi N+1:=by
 rcases R with⟨-,-,-,e⟩|⟨-,_,-,-,-,e⟩|⟨-,-,-,-,e,-⟩|⟨-,-,-,-,q,-,P⟩
 ·rw[e];omega
 ·rw[e];omega
 ·omega
 ·rw[P.cnt];exact Mb _
def F136.T:bh:=⟨[],[(1,[[(0,[]),(1,[]),(2,[]),(3,[]),(4,[]),(5,[]),(6,[]),(7,[]),(8,[]),(9,[])]]),(2,[[(0,[]),(1,[]),(2,[]),(3,[]),(4,[]),(5,[]),(6,[]),(7,[]),(8,[]),(9,[]),(10,[]),(11,[]),(12,[]),(13,[]),(14,[]),(15,[]),(16,[]),(17,[]),(18,[]),(19,[]),(20,[]),(21,[]),(22,[]),(23,[]),(24,[]),(25,[])]])]⟩
def F136.spec{a:Addr}(H:(0<=(0:Int)/\(0:Int)<(3:Int)/\aS .u32 (rd h ((a.add 3).add ((0:Int).toNat*1))) λb=>aJ (b<=1) (aZ (rd h (a.add 0)) λb=>0<=(0:Int)/\(0:Int)<(3:Int)/\aS .u32 (rd h ((a.add 3).add ((0:Int).toNat*1))) λa=>Cl 181 [aA b,aq a] h λa b=>a=aE/\K aE b) (aZ (rd h (a.add 0)) λb=>aX b λb=>aZ (rd h (b.add 0)) λb=>aS .u8 (rd h (a.add 1)) λc=>aS .u8 (rd h (a.add 2)) λd=>0<=(0:Int)/\(0:Int)<(3:Int)/\aS .u32 (rd h ((a.add 3).add ((0:Int).toNat*1))) λe=>Cl 182 [aA b,.int .u8 c,.int .u8 d,aq e,aq 0,aq 0] h λb c=> ∃d:Int,∃e:Bool,b=(.tuple #[aq d,aD e])/\aJ e (aZ (rd c (a.add 0)) λa=>Cl 181 [aA a,aq d] c λa b=>a=aE/\K aE b) (Cl 183 [au a,.func (.func 184) #[au a] #[],.func (.func 185) #[] #[]] c λa b=>a=aE/\K aE b)))):Cl 136 [au a] h K:=cT F136.T Tryz.func136 H
def F137.T:bh:=⟨[],[(1,[[(0,[]),(2,[]),(3,[]),(4,[]),(5,[]),(6,[]),(1,[2,3,4,5,6]),(7,[]),(8,[])]]),(5,[[(0,[]),(1,[]),(2,[]),(3,[]),(4,[]),(5,[]),(6,[]),(7,[]),(8,[]),(9,[])]]),(7,[[(0,[]),(1,[]),(2,[]),(3,[]),(4,[]),(5,[]),(6,[]),(7,[]),(8,[]),(9,[]),(10,[]),(11,[]),(13,[]),(14,[]),(15,[]),(16,[]),(17,[]),(18,[]),(12,[0,1,2,3,4,5,13,14,15,16,17,18]),(19,[0,1,2,3,4,5]),(20,[]),(21,[])]])]⟩
def F137.spec{a:Addr}(H:aZ (rd h (a.add 0)) λb=>aX b λb=>aZ (rd h (b.add 0)) λb=>aS .u8 (rd h (a.add 2)) λc=>Cl 47 [aA b] h λd e=>aZ (some d) λd=>aF (au a)/\aF (au a)/\aF (au (a.add 2))/\aS .u8 (rd e (a.add 2)) λf=>aG (.int .u8 f) (.int .u8 c)/\aF (ap (ax c))/\Cl 186 [aA d,ap (ax c)] e λc d=>aS .i64 (some c) λc=>0<=(0:Int)/\(0:Int)<(3:Int)/\aS .u32 (rd d ((a.add 3).add ((0:Int).toNat*1))) λe=>Cl 71 [aA b,aq e] d λd e=>aS .i64 (some d) λd=>aJ (d>c) (aZ (rd e (a.add 0)) λb=>0<=(0:Int)/\(0:Int)<(3:Int)/\aS .u32 (rd e ((a.add 3).add ((0:Int).toNat*1))) λa=>Cl 181 [aA b,aq a] e λa b=>a=aE/\K aE b) (aJ (d==c) ((0<=(1:Int)/\(1:Int)<(3:Int)/\aS .u32 (rd e ((a.add 3).add ((1:Int).toNat*1))) λc=>0<=(0:Int)/\(0:Int)<(3:Int)/\aS .u32 (rd e ((a.add 3).add ((0:Int).toNat*1))) λd=>0<=(0:Int)/\(0:Int)<(3:Int)/\aS .u32 (rd e ((a.add 3).add ((0:Int).toNat*1))) λf=>Cl 73 [aA b,aq d] e λd e=>aS .u32 (some d) λd=>aF (au a)/\aF (au a)/\aF (au a)/\aF (au (a.add 3))/\0<=(1:Int)/\(1:Int)<(3:Int)/\aF (au ((a.add 3).add ((1:Int).toNat*1)))/\aS .u32 (rd e ((a.add 3).add ((1:Int).toNat*1))) λg=>aG (aq g) (aq c)/\aF (aA b)/\aF (au a)/\aF (au a)/\aF (au (a.add 3))/\0<=(0:Int)/\(0:Int)<(3:Int)/\aF (au ((a.add 3).add ((0:Int).toNat*1)))/\aS .u32 (rd e ((a.add 3).add ((0:Int).toNat*1))) λg=>aG (aq g) (aq f)/\Cl 72 [aA b,aq f] e λb e=>aS .u32 (some b) λb=>aF (au a)/\aF (au a)/\aF (au a)/\aF (au (a.add 3))/\0<=(1:Int)/\(1:Int)<(3:Int)/\aF (au ((a.add 3).add ((1:Int).toNat*1)))/\aS .u32 (rd e ((a.add 3).add ((1:Int).toNat*1))) λf=>aG (aq f) (aq c)/\Cl 187 [au a,.int .u8 5,.agg #[aq c,aq d,aq b]] e λa b=>a=aE/\K aE b)) (Cl 183 [au a,.func (.func 188) #[au a] #[],.func (.func 189) #[] #[]] e λa b=>a=aE/\K aE b))):Cl 137 [au a] h K:=cT F137.T Tryz.func137 H
def F138.T:bh:=⟨[],[(1,[[(0,[]),(1,[]),(2,[]),(3,[]),(4,[]),(5,[]),(6,[]),(7,[]),(8,[])]])]⟩
def F138.spec{a:Addr}(H:aY h ((a.add 8).add 0) (.func (.func 190) #[au a] #[]) λb=>aZ (rd b (a.add 0)) λc=>aS .u32 (rd b ((a.add 3).add 0)) λd=>aS .u32 (rd b ((a.add 3).add 1)) λe=>aS .u32 (rd b ((a.add 3).add 2)) λa=>Cl 135 [aA c,.int .u8 2,.int .u8 0,.agg #[aq d,aq e,aq a]] b λa b=>aZ (some a) λ_=>K aE b):Cl 138 [au a] h K:=cT F138.T Tryz.func138 H
def F139.T:bh:=⟨[],[(1,[[(0,[]),(1,[]),(2,[]),(3,[]),(4,[]),(5,[]),(6,[]),(7,[]),(8,[]),(9,[]),(10,[]),(11,[]),(12,[]),(13,[]),(14,[]),(15,[])]])]⟩
def F139.spec{a:Addr}(H:aY h ((a.add 8).add 0) (.func (.func 191) #[au a] #[]) λb=>aZ (rd b (a.add 0)) λc=>aS .u8 (rd b (a.add 1)) λd=>0<=(0:Int)/\(0:Int)<(3:Int)/\aS .u32 (rd b ((a.add 3).add ((0:Int).toNat*1))) λa=>Cl 135 [aA c,.int .u8 d,.int .u8 0,.agg #[aq a,aq 0,aq 0]] b λa b=>aZ (some a) λa=>aX a λc=>aY b ((c.add 8).add 0) (.func (.func 192) #[aA a] #[]) λa=>K aE a):Cl 139 [au a] h K:=cT F139.T Tryz.func139 H
def F183.T:bh:=⟨[],[(0,[[(0,[]),(1,[]),(2,[]),(3,[]),(4,[]),(5,[]),(6,[]),(7,[]),(8,[]),(9,[]),(10,[]),(11,[]),(12,[]),(13,[0]),(14,[]),(15,[]),(16,[])]]),(2,[[(0,[]),(1,[]),(2,[]),(3,[]),(4,[]),(5,[]),(6,[]),(7,[]),(8,[]),(9,[]),(10,[]),(11,[]),(12,[]),(14,[]),(13,[0,14]),(15,[])]])]⟩
def F183.spec(a:Addr)(c b:Value)(h:aI)(K:KK)(H:aZ (rd h (a.add 0)) λd=>aX d λd=>aZ (rd h (d.add 0)) λd=>0<=(0:Int)/\(0:Int)<(3:Int)/\aS .u32 (rd h ((a.add 3).add ((0:Int).toNat*1))) λe=>Cl 71 [aA d,aq e] h λd e=>aS .i64 (some d) λd=>aF (au a)/\aY e ((a.add 6).add 0) (ap d) λd=>du Tryz.prog 1 (some (a.add 8)) c d λc=>aZ (rd c (a.add 0)) λd=>aX d λd=>aZ (rd c (d.add 0)) λd=>0<=(0:Int)/\(0:Int)<(3:Int)/\aS .u32 (rd c ((a.add 3).add ((0:Int).toNat*1))) λe=>Cl 72 [aA d,aq e] c λc d=>aS .u32 (some c) λc=>aF (au a)/\b=(b:Value)/\Cl 231 [au a,aq c,b] d λa b=>a=aE/\K aE b):Cl 183 [au a,c,b] h K:=cT F183.T Tryz.func183 H
def F184.T:bh:=⟨[],[(2,[[(0,[]),(1,[]),(2,[]),(3,[]),(4,[]),(5,[]),(6,[]),(7,[]),(8,[]),(9,[]),(10,[]),(11,[]),(12,[]),(13,[0]),(14,[])]])]⟩
def F184.spec{a:Addr}(H:aZ (rd h (a.add 0)) λb=>aX b λb=>aS .u32 (rd h (b.add 2)) λb=>aY h ((a.add 7).add 0) (aq b) λb=>aY b ((a.add 8).add 0) (.func (.func 232) #[au a] #[]) λb=>aZ (rd b (a.add 0)) λc=>aX c λc=>aZ (rd b (c.add 0)) λc=>0<=(0:Int)/\(0:Int)<(3:Int)/\aS .u32 (rd b ((a.add 3).add ((0:Int).toNat*1))) λd=>Cl 73 [aA c,aq d] b λb c=>aS .u32 (some b) λb=>aF (au a)/\Cl 231 [au a,aq b,.func (.func 185) #[] #[]] c λa b=>a=aE/\K aE b):Cl 184 [au a] h K:=cT F184.T Tryz.func184 H
def F185.spec(H:K (.func (.func 136) #[au a] #[]) h):Cl 185 [au a] h K:=cN Tryz.func185 H
def F187.T:bh:=⟨[],[(1,[[(0,[]),(1,[]),(2,[]),(3,[]),(4,[]),(5,[]),(6,[]),(7,[]),(8,[1,2,3,5]),(9,[]),(10,[]),(11,[2,3,5]),(12,[]),(13,[]),(14,[3]),(15,[]),(16,[]),(17,[])]])]⟩
def F187.spec{a:Addr}(H:bg h (.cells #[aq j,aq k,aq l] 115) λb c=>aS .u32 (rd c ((aw b).add 0)) λd=>aS .u32 (rd c ((aw b).add 1)) λe=>aS .u32 (rd c ((aw b).add 2)) λf=>aY c ((a.add 1).add 0) (.int .u8 i) λc=>aF (au a)/\aF (au a)/\aF (au a)/\aS .u32 (rd c ((aw b).add 0)) λg=>aS .u32 (rd c ((aw b).add 1)) λi=>aS .u32 (rd c ((aw b).add 2)) λj=>aG (.agg #[aq g,aq i,aq j]) (.agg #[aq d,aq e,aq f])/\aY c ((a.add 2).add 0) (.int .u8 0) λc=>aF (au a)/\aF (au a)/\aS .u32 (rd c ((aw b).add 0)) λg=>aS .u32 (rd c ((aw b).add 1)) λi=>aS .u32 (rd c ((aw b).add 2)) λb=>aG (.agg #[aq g,aq i,aq b]) (.agg #[aq d,aq e,aq f])/\aY c ((a.add 3).add 0) (aq d) λb=>aY b ((a.add 3).add 1) (aq e) λb=>aY b ((a.add 3).add 2) (aq f) λb=>aF (au a)/\aY b ((a.add 7).add 0) (aq 0) λb=>aY b ((a.add 8).add 0) (.func (.func 180) #[au a] #[]) λa=>K aE a):Cl 187 [au a,.int .u8 i,.agg #[aq j,aq k,aq l]] h K:=cT F187.T Tryz.func187 H
def F188.T:bh:=⟨[],[(2,[[(0,[]),(1,[]),(2,[]),(3,[]),(4,[]),(5,[]),(6,[]),(7,[]),(8,[]),(9,[]),(10,[]),(11,[]),(12,[]),(13,[0]),(14,[])]])]⟩
def F188.spec{a:Addr}(H:aZ (rd h (a.add 0)) λb=>aX b λb=>aS .u32 (rd h (b.add 2)) λb=>aY h ((a.add 7).add 0) (aq b) λb=>aY b ((a.add 8).add 0) (.func (.func 233) #[au a] #[]) λb=>aZ (rd b (a.add 0)) λc=>aX c λc=>aZ (rd b (c.add 0)) λc=>0<=(0:Int)/\(0:Int)<(3:Int)/\aS .u32 (rd b ((a.add 3).add ((0:Int).toNat*1))) λd=>Cl 73 [aA c,aq d] b λb c=>aS .u32 (some b) λb=>aF (au a)/\Cl 231 [au a,aq b,.func (.func 189) #[] #[]] c λa b=>a=aE/\K aE b):Cl 188 [au a] h K:=cT F188.T Tryz.func188 H
def F189.spec(H:K (.func (.func 137) #[au a] #[]) h):Cl 189 [au a] h K:=cN Tryz.func189 H
def F190.spec{a:Addr}(H:aY h ((a.add 8).add 0) (.func (.func 234) #[au a] #[]) λb=>aZ (rd b (a.add 0)) λc=>aX c λc=>aS .u32 (rd b (c.add 2)) λc=>Cl 235 [au a,aq c,ap 85] b λa b=>a=aE/\K aE b):Cl 190 [au a] h K:=cN Tryz.func190 H
def F191.T:bh:=⟨[],[(1,[[(0,[]),(1,[]),(2,[]),(3,[]),(4,[]),(5,[]),(6,[]),(7,[]),(8,[]),(9,[]),(10,[]),(11,[]),(12,[]),(13,[]),(14,[]),(15,[]),(16,[]),(17,[])]])]⟩
def F191.spec{a:Addr}(H:aY h ((a.add 8).add 0) (.func (.func 236) #[au a] #[]) λb=>aZ (rd b (a.add 0)) λc=>aZ (rd b (a.add 0)) λd=>aX d λd=>aS .u32 (rd b (d.add 2)) λd=>0<=(1:Int)/\(1:Int)<(3:Int)/\aS .u32 (rd b ((a.add 3).add ((1:Int).toNat*1))) λa=>Cl 135 [aA c,.int .u8 2,.int .u8 0,.agg #[aq d,aq a,aq 0]] b λa b=>aZ (some a) λ_=>K aE b):Cl 191 [au a] h K:=cT F191.T Tryz.func191 H
def F192.T:bh:=⟨[],[(1,[[(0,[]),(1,[]),(2,[]),(3,[]),(4,[]),(5,[]),(6,[]),(7,[]),(8,[]),(9,[])]])]⟩
def F192.spec{a:Addr}(H:(0<=(0:Int)/\(0:Int)<(3:Int)/\aS .u32 (rd h ((a.add 3).add ((0:Int).toNat*1))) λb=>aJ (b<=1) (aZ (rd h (a.add 0)) λb=>0<=(0:Int)/\(0:Int)<(3:Int)/\aS .u32 (rd h ((a.add 3).add ((0:Int).toNat*1))) λa=>Cl 181 [aA b,aq a] h λa b=>a=aE/\K aE b) (Cl 183 [au a,.func (.func 237) #[au a] #[],.func (.func 238) #[] #[]] h λa b=>a=aE/\K aE b))):Cl 192 [au a] h K:=cT F192.T Tryz.func192 H
def F231.T:bh:=⟨[],[(0,[[(0,[]),(1,[]),(2,[]),(3,[]),(4,[]),(5,[]),(6,[]),(7,[]),(8,[]),(9,[]),(10,[]),(11,[]),(12,[]),(13,[]),(14,[]),(15,[]),(16,[]),(17,[]),(18,[]),(19,[]),(20,[])]])]⟩
def F231.spec(a:Addr)(b:Int)(c:Value)(h:aI)(K:KK)(H:aZ (rd h (a.add 0)) λd=>aS .u8 (rd h (a.add 1)) λe=>aS .u8 (rd h (a.add 2)) λf=>0<=(1:Int)/\(1:Int)<(3:Int)/\aS .u32 (rd h ((a.add 3).add ((1:Int).toNat*1))) λa=>Cl 135 [aA d,.int .u8 e,.int .u8 f,.agg #[aq b,aq a,aq 0]] h λa b=>aZ (some a) λa=>dS Tryz.prog X c [aA a] b λb c=>jX (some b) λb=>aX a λa=>du Tryz.prog 1 (some (a.add 8)) b c λa=>K aE a):Cl 231 [au a,aq b,c] h K:=cT F231.T Tryz.func231 H
def F232.T:bh:=⟨[(7,[0,4])],[(0,[[(0,[]),(1,[]),(2,[]),(3,[]),(4,[]),(5,[]),(6,[]),(7,[]),(8,[]),(9,[]),(10,[]),(12,[]),(13,[]),(14,[]),(15,[]),(11,[0,1,2,3,12,13,14,15]),(16,[0,1,2,3]),(17,[]),(18,[]),(19,[])]]),(1,[[(0,[]),(1,[]),(2,[]),(3,[]),(4,[]),(5,[]),(6,[]),(7,[]),(8,[]),(9,[]),(10,[]),(11,[]),(12,[]),(13,[]),(14,[]),(15,[]),(16,[]),(17,[]),(18,[]),(19,[]),(20,[]),(21,[])]]),(8,[[(0,[]),(1,[]),(2,[]),(3,[]),(4,[]),(5,[]),(6,[]),(7,[]),(8,[]),(9,[]),(10,[]),(11,[]),(12,[]),(13,[]),(14,[]),(15,[]),(16,[]),(17,[])]])]⟩
section
variable (a:Addr)(b:Int)(h:aI)(K:KK)
def F232.wk7:Prop:=aY h ((a.add 8).add 0) (.func (.func 278) #[au a] #[]) λc=>aZ (rd c (a.add 0)) λd=>aS .u32 (rd c (a.add 7)) λe=>aZ (rd c (a.add 0)) λa=>aX a λa=>aS .u32 (rd c (a.add 2)) λa=>Cl 135 [aA d,.int .u8 b,.int .u8 0,.agg #[aq e,aq a,aq 0]] c λa b=>aZ (some a) λ_=>K aE b
end
def F232.spec{a:Addr}(H:aS .u8 (rd h (a.add 2)) λb=>aZ (rd h (a.add 0)) λc=>aX c λc=>aZ (rd h (c.add 0)) λc=>aS .i64 (rd h (a.add 6)) λd=>Cl 47 [aA c] h λc e=>aZ (some c) λc=>aF (au a)/\aF (au a)/\aF (au (a.add 2))/\aS .u8 (rd e (a.add 2)) λf=>aG (.int .u8 f) (.int .u8 b)/\aF (au a)/\aF (au a)/\aF (au (a.add 6))/\aS .i64 (rd e (a.add 6)) λf=>aG (ap f) (ap d)/\Cl 272 [aA c,ap d] e λc d=>aS .i64 (some c) λc=>aF (au a)/\aF (au a)/\aF (au (a.add 2))/\aS .u8 (rd d (a.add 2)) λe=>aG (.int .u8 e) (.int .u8 b)/\0<=c/\aJ ((bu .and .u8 (Int.fdiv b (2^(min (c.toNat) (IntKind.bits .u8)))) 1)==0) (aS .i64 (rd d (a.add 6)) λb=>aS .u32 (rd d (a.add 7)) λc=>aZ (rd d (a.add 0)) λe=>aX e λe=>aS .u32 (rd d (e.add 2)) λe=>Cl 276 [au a,ap b,aq c,aq e] d λb c=> ∃d:Int,∃e:Bool,b=(.tuple #[aq d,aD e])/\aJ e (Cl 277 [au a,aq d] c λa b=>a=aE/\K aE b) (K aE c)) (aS .u8 (rd d (a.add 1)) λb=>aJ (b==7) (F232.wk7 a 2 d K) (F232.wk7 a 3 d K))):Cl 232 [au a] h K:=cT F232.T Tryz.func232 H
def F233.T:bh:=⟨[],[(0,[[(0,[]),(1,[]),(2,[]),(3,[]),(4,[]),(5,[]),(6,[]),(7,[]),(8,[]),(9,[]),(10,[]),(11,[])]]),(2,[[(0,[]),(1,[]),(2,[]),(3,[]),(4,[]),(5,[]),(6,[]),(7,[]),(8,[]),(9,[]),(10,[]),(11,[]),(12,[]),(13,[0]),(14,[]),(15,[]),(16,[])]])]⟩
def F233.spec{a:Addr}(H:aZ (rd h (a.add 0)) λb=>aX b λb=>aS .u32 (rd h (b.add 2)) λb=>0<=(1:Int)/\(1:Int)<(3:Int)/\aY h (((a.add 3).add ((1:Int).toNat*1)).add 0) (aq b) λb=>aY b ((a.add 8).add 0) (.func (.func 279) #[au a] #[]) λb=>aZ (rd b (a.add 0)) λc=>aX c λc=>aZ (rd b (c.add 0)) λc=>0<=(0:Int)/\(0:Int)<(3:Int)/\aS .u32 (rd b ((a.add 3).add ((0:Int).toNat*1))) λd=>Cl 71 [aA c,aq d] b λb c=>aS .i64 (some b) λb=>aF (au a)/\aY c ((a.add 6).add 0) (ap b) λa=>K aE a):Cl 233 [au a] h K:=cT F233.T Tryz.func233 H
def F234.spec{a:Addr}(H:aZ (rd h (a.add 0)) λb=>aX b λb=>aS .u32 (rd h (b.add 2)) λb=>aY h ((a.add 3).add 0) (aq b) λb=>aY b ((a.add 3).add 1) (aq 0) λb=>aY b ((a.add 3).add 2) (aq 0) λb=>aY b ((a.add 8).add 0) (.func (.func 192) #[au a] #[]) λa=>K aE a):Cl 234 [au a] h K:=cN Tryz.func234 H
def F235.spec{a:Addr}(H:aZ (rd h (a.add 0)) λb=>aX b λb=>aZ (rd h (b.add 0)) λb=>Cl 75 [aA b] h λb c=>aS .i64 (some b) λb=>0<=b/\aZ (rd c (a.add 0)) λa=>Cl 135 [aA a,.int .u8 6,.int .u8 (IntKind.wrap .u8 (bu .and .i64 j (ax ((ax ((1:Int)*2^(min (b.toNat) (IntKind.bits .i64))))-1)))),.agg #[aq i,aq 0,aq 0]] c λa b=>aZ (some a) λa=>aX a λc=>aY b ((c.add 8).add 0) (.func (.func 136) #[aA a] #[]) λa=>K aE a):Cl 235 [au a,aq i,ap j] h K:=cN Tryz.func235 H
def F236.spec{a:Addr}(H:aY h ((a.add 8).add 0) (.func (.func 280) #[au a] #[]) λb=>aZ (rd b (a.add 0)) λc=>aX c λc=>aS .u32 (rd b (c.add 2)) λc=>Cl 235 [au a,aq c,ap 170] b λa b=>a=aE/\K aE b):Cl 236 [au a] h K:=cN Tryz.func236 H
def F237.T:bh:=⟨[],[(2,[[(0,[]),(1,[]),(2,[]),(3,[]),(4,[]),(5,[]),(6,[]),(7,[]),(8,[]),(9,[]),(10,[]),(11,[]),(12,[]),(13,[0]),(14,[])]])]⟩
def F237.spec{a:Addr}(H:aZ (rd h (a.add 0)) λb=>aX b λb=>aS .u32 (rd h (b.add 2)) λb=>aY h ((a.add 7).add 0) (aq b) λb=>aY b ((a.add 8).add 0) (.func (.func 281) #[au a] #[]) λb=>aZ (rd b (a.add 0)) λc=>aX c λc=>aZ (rd b (c.add 0)) λc=>0<=(0:Int)/\(0:Int)<(3:Int)/\aS .u32 (rd b ((a.add 3).add ((0:Int).toNat*1))) λd=>Cl 73 [aA c,aq d] b λb c=>aS .u32 (some b) λb=>aF (au a)/\Cl 231 [au a,aq b,.func (.func 238) #[] #[]] c λa b=>a=aE/\K aE b):Cl 237 [au a] h K:=cT F237.T Tryz.func237 H
def F238.spec(H:K (.func (.func 192) #[au a] #[]) h):Cl 238 [au a] h K:=cN Tryz.func238 H
def F277.T:bh:=⟨[],[(0,[[(0,[]),(1,[]),(2,[]),(3,[]),(4,[]),(5,[]),(6,[]),(7,[]),(8,[]),(9,[]),(10,[]),(11,[]),(12,[]),(13,[]),(14,[]),(15,[]),(16,[]),(17,[]),(18,[]),(19,[]),(20,[]),(21,[])]])]⟩
def F277.spec{a:Addr}(H:aZ (rd h (a.add 0)) λb=>aX b λb=>aZ (rd h (b.add 0)) λb=>aS .u8 (rd h (a.add 1)) λc=>aS .u8 (rd h (a.add 2)) λd=>0<=(0:Int)/\(0:Int)<(3:Int)/\aS .u32 (rd h ((a.add 3).add ((0:Int).toNat*1))) λe=>Cl 207 [aA b,.int .u8 c,.int .u8 d,aq e,aq 0,aq 0,aq i] h λb c=>b=aE/\aZ (rd c (a.add 0)) λa=>Cl 181 [aA a,aq i] c λa b=>a=aE/\K aE b):Cl 277 [au a,aq i] h K:=cT F277.T Tryz.func277 H
def F278.spec{a:Addr}(H:aZ (rd h (a.add 0)) λb=>aX b λb=>aS .u32 (rd h (b.add 2)) λb=>Cl 277 [au a,aq b] h λa b=>a=aE/\K aE b):Cl 278 [au a] h K:=cN Tryz.func278 H
def F279.spec{a:Addr}(H:aS .i64 (rd h (a.add 6)) λb=>Cl 303 [au a,ap b] h λa b=>a=aE/\K aE b):Cl 279 [au a] h K:=cN Tryz.func279 H
def F280.T:bh:=⟨[],[(0,[[(0,[]),(1,[]),(2,[]),(3,[]),(4,[]),(5,[]),(6,[]),(7,[]),(8,[]),(9,[]),(10,[]),(11,[])]])]⟩
def F280.spec{a:Addr}(H:aZ (rd h (a.add 0)) λb=>aZ (rd h (a.add 0)) λa=>aX a λa=>aS .u32 (rd h (a.add 2)) λa=>Cl 181 [aA b,aq a] h λa b=>a=aE/\K aE b):Cl 280 [au a] h K:=cT F280.T Tryz.func280 H
def F281.T:bh:=⟨[],[(1,[[(0,[]),(1,[]),(2,[]),(3,[]),(4,[]),(5,[]),(6,[]),(7,[]),(8,[]),(9,[]),(10,[]),(11,[])]])]⟩
def F281.spec{a:Addr}(H:aZ (rd h (a.add 0)) λb=>aX b λb=>aZ (rd h (b.add 0)) λb=>Cl 47 [aA b] h λb c=>aZ (some b) λb=>aZ (rd c (a.add 0)) λd=>aX d λd=>aS .u32 (rd c (d.add 2)) λd=>0<=(1:Int)/\(1:Int)<(3:Int)/\aY c (((a.add 3).add ((1:Int).toNat*1)).add 0) (aq d) λc=>aS .i64 (rd c (a.add 6)) λd=>Cl 272 [aA b,ap d] c λc d=>aS .i64 (some c) λc=>Cl 186 [aA b,ap (bu .xor .i64 c 1)] d λb c=>aS .i64 (some b) λb=>Cl 303 [au a,ap b] c λa b=>a=aE/\K aE b):Cl 281 [au a] h K:=cT F281.T Tryz.func281 H
def F303.T:bh:=⟨[],[(2,[[(0,[]),(1,[]),(2,[]),(3,[]),(4,[]),(5,[]),(6,[]),(7,[]),(8,[]),(9,[]),(10,[]),(11,[]),(12,[])]])]⟩
def F303.spec{a:Addr}(H:Cl 276 [au a,ap i,aq 0,aq 1] h λb c=> ∃d:Int,∃e:Bool,b=(.tuple #[aq d,aD e])/\aJ e ((0<=(1:Int)/\(1:Int)<(3:Int)/\aS .u32 (rd c ((a.add 3).add ((1:Int).toNat*1))) λb=>aS .u32 (rd c (a.add 7)) λe=>Cl 187 [au a,.int .u8 5,.agg #[aq d,aq b,aq e]] c λa b=>a=aE/\K aE b)) (K aE c)):Cl 303 [au a,ap i] h K:=cT F303.T Tryz.func303 H
def Fh:bR X 185=some cH.go:=by kernel_rfl
def EU(hK:K (iY 136 b) h):Cl 185 [bf b] h K:=by refine F185.spec ?_;exact hK
def ER:bR X 189=some cH.go:=by kernel_rfl
def EJ(hK:K (iY 137 b) h):Cl 189 [bf b] h K:=by refine F189.spec ?_;exact hK
def Fd:bR X 238=some cH.go:=by kernel_rfl
def Fe(hK:K (iY 192 b) h):Cl 238 [bf b] h K:=by refine F238.spec ?_;exact hK
def Bo:du Tryz.prog 1 (some ⟨b,k,none⟩) (iY q x) h K=aY h (Addr.add ⟨b,k,none⟩ 0) (iY q x) K:=by kernel_rfl
def EW{h:aI}{s n room:Nat}{fo gg:Nat->Nat}{off:Bool}{N:ay}{A:MA}{fl:List Fk}{fr:Fk}{K:KK}{L:List Nat}{l a b:Nat}(H:bT h s L (XL n room fo gg N off))(M:bG h s {A with fs:=fl++[fr]})(D: ∀b∈({A with fs:=fl++[fr]}:MA).bl,b∉L)
  (g:l<n) (ha:isN N a) (hb:isN N b) (la:l<lvl n N a) (lb:l<lvl n N b)
  (hY: ∀h' L' N' (r:Nat),iC room N l a b N' r 0->Ex N N'->bT h' s L' (XL n room fo gg N' off)->bG h' s {A with fs:=fl++[fr]}->aM L h h'->bC L L' h->K (.tuple #[aq (r:Int),aC]) h')
  (hE: ∀h' L' (r:Nat),room<=bi N->bT h' s L' (XL n room fo gg N off)->bG h' s {A with fp:=none,fc:=0,fs:=[],done:=true,e:=60}->aM (L++({A with fs:=fl++[fr]}:MA).bl) h h'->bC L L' h->K (.tuple #[aq (r:Int),aB]) h'):
  Cl 276 [bf fr.b,ap (l:Int),aq (a:Int),aq (b:Int)] h K:=by
 have ok:=H.ok;dsimp only[XL]at ok;refine F276.spec ?_;simp only[aL,LX,Ma];have i:=M.lt;refine aQ (a9 M.ftop).1 ?_;rw[aT];simp only[aL,LX,Ma];refine aQ (bI M.own).1 ?_;refine sJ H (l:=l) g ha hb la lb λh1 L1 N1 r e R S1 O1 g1=>⟨_,_,rfl,?_⟩;dsimp only[XL]at R
 have DD: ∀b∈({A with fs:=fl++[fr]}:MA).bl,b∉L1:=λb hb hm=>by
  rcases g1 b hm with h|h
  ·exact D b hb h
  ·have:=i b hb;omega
 have M1:=M.only O1 (λb hb hm=>D b hm hb);have d:=S1.ok;dsimp only[XL]at d;by_cases he:e=0
 ·subst he;have E1:Ex N N1:=(gh (f:=fo) ok.1 d.1 ha hb la R).1;rw[show((((0:Nat):Int)) !=(0:Int))=false from rfl,aK];exact hY h1 L1 N1 r R E1 (rX S1 ok.1 E1) M1 O1 g1
 ·have c:room<=bi N/\e=60/\N1=N:=by
   rcases R with⟨-,-,h,-⟩|⟨-,_,-,-,h,-⟩|⟨-,-,h1,-,h2,h3⟩|⟨-,-,-,h,-⟩
   ·exact Mw h he
   ·exact Mw h he
   ·exact⟨h1,h2,h3⟩
   ·exact Mw h he
  obtain⟨j,rfl,rfl⟩:=c;rw[show((((60:Nat):Int)) !=(0:Int))=true from rfl,aO];obtain⟨p0,-⟩:=a9 M1.ftop;refine aQ p0 (aQ p0 (aQ p0 ?_));rw[aT];simp only[aL,LX,Ma];refine aU M1.own (by simp[cO]) rfl λh2 A2 O2 z2=> ?_;rw[aT];simp only[aL,LX,Ma];refine aU A2 (by simp[cO]) rfl λh3 A3 O3 z3=> ?_;rw[aT];simp only[aL,LX,Ma];refine aU A3 (by simp[cO]) rfl λh4 A4 O4 z4=> ?_;have O14:aM [A.m] h1 h4:=(O2.trans O3 λb hb _=>hb).trans O4 λb hb _=>hb;have nm:A.m∉L1:=DD A.m (by simp[MA.bl]);refine hE h4 L1 r j (S1.only O14 λb hb hm=>by simp only[LZ]at hb;subst hb;exact nm hm) ⟨?_,nE.nil _ _,(λf hf=>by cases hf),by simp[MA.bl,aV]⟩ ?_ g1
  ·have e:(((cO s {A with fs:=fl++[fr]}).set 4 (ap ((60:Nat):Int))).set 3 aC).set 1 (.slice none 0 0)=cO s {A with fp:=none,fc:=0,fs:=[],done:=true,e:=60}:=by simp[cO]
   rw[<-e];exact A4
  ·refine(O1.mono (T:=L++({A with fs:=fl++[fr]}:MA).bl) λx hx _=>Zp (.inl hx)).trans O14 λx hx _=> ?_;simp only[LZ]at hx;subst hx;exact Zp (.inr (by simp[MA.bl]))
def oe{h:aI}{A:MA}{fl:List Fk}{fr:Fk}(M:bG h s {A with fs:=fl++[fr]})(hl:fl.length<900000)(hx:bR X g=some .go)(hg: ∀{b:Nat} {h:aI} {K:KK},K (iY q b) h->Cl g [bf b] h K)
  (hK: ∀h' b fp fc,h.size<=b->bG h' s {A with fp:=fp,fc:=fc,fs:=fl++[fr]++[⟨b,fr.op,fr.mask,c,fr.a1,0,0,0,q⟩]}->(∀b∈aV fp,b∈aV A.fp\/h.size<=b)->aM (A.m::aV A.fp) h h'->K aE h'):
  Cl 231 [bf fr.b,aq (c:Int),.func (.func g) #[] #[]] h K:=by
 refine F231.spec _ _ _ h K ?_;simp only[aL,LX,Ma];have F:=M.ftop;have r: ∀k,rd h ⟨fr.b,k,none⟩=(fR A.m fr)[k]? :=λk=>fS F k;refine aQ (by rw[r];rfl) (aH (n:=(fr.op:Int)) (by rw[r];rfl) (aH (n:=(fr.mask:Int)) (by rw[r];rfl) ⟨ah,ah,aH (n:=(fr.a1:Int)) (by rw[show 3+Int.toNat (1:Int)*1=4 from rfl,r];rfl) ?_⟩));refine fB (A:={A with fs:=fl++[fr]}) M (by simp;omega) λh9 g9 fp fc f M9 O9 a=>aQ rfl ?_;obtain⟨b,rfl,d⟩:=f;refine bj hx (hg ?_);rw[c8,aT,aL,Bo,aL,LX,Ma];refine bG.top (A:={A with fp:=fp,fc:=fc}) (fl:=fl++[fr]) (f':=⟨b,fr.op,fr.mask,c,fr.a1,0,0,0,q⟩) M9 (by decide) rfl rfl rfl λe M10 O10=> ?_;have z9:=O9.size;exact hK e b fp fc d M10 a (O9.trans O10 λx hx hl=>by simp only[LZ]at hx;omega)
def jh{A:MA}: ∀x∈A.m::aV A.fp,x∈({A with fs:=fl++[fr]}:MA).bl:=λx hx=>by
 rcases List.mem_cons.1 hx with e|hx
 ·subst e;simp[MA.bl]
 ·simp[MA.bl,hx]
def oT{h:aI}{A:MA}{fl:List Fk}{fr:Fk}(H:bT h s L (XL n room fo gg N off))(M:bG h s {A with fs:=fl++[fr]})(D: ∀b∈({A with fs:=fl++[fr]}:MA).bl,b∉L)(hl:fl.length<900000)(ha:isN N fr.a0)
  (hx:bR X g=some .go) (hg: ∀{b:Nat} {h:aI} {K:KK},K (iY q b) h->Cl g [bf b] h K)
  (hK: ∀h' b fp fc,h.size<=b->bG h' s {A with fp:=fp,fc:=fc,fs:=fl++[{fr with level:=lvl n N fr.a0,fn:=nx}]++[⟨b,fr.op,fr.mask,low N fr.a0,fr.a1,0,0,0,q⟩]}->(∀b∈aV fp,b∈aV A.fp\/h.size<=b)->aM ({A with fs:=fl++[fr]}:MA).bl h h'->K aE h'):
  Cl 183 [bf fr.b,iY nx fr.b,.func (.func g) #[] #[]] h K:=by
 refine F183.spec _ _ _ h K ?_;simp only[aL,LX,Ma];have a:fr.b∉L:=D _ bP;refine aQ (a9 M.ftop).1 ?_;rw[aT];simp only[aL,LX,Ma];refine aQ (bI M.own).1 ⟨ah,ah,aH (n:=(fr.a0:Int)) (a9 M.ftop).2.2.1 ?_⟩;refine dv H ha (aH rfl ⟨by trivial,?_⟩);refine M.top (f':={fr with level:=lvl n N fr.a0}) (by decide) rfl rfl rfl λh1 M1 O1=> ?_;rw[Bo,aL,Ma];refine M1.top (f':={fr with level:=lvl n N fr.a0,fn:=nx}) (by decide) rfl rfl rfl λh2 M2 O2=> ?_;have O02:aM [fr.b] h h2:=O1.trans O2 λb hb _=>hb;have S2:=H.only O02 (λb hb hm=>by simp only[LZ]at hb;subst hb;exact a hm);refine aQ (a9 M2.ftop).1 ?_;rw[aT];simp only[aL,LX,Ma];refine aQ (bI M2.own).1 ⟨ah,ah,aH (n:=(fr.a0:Int)) (a9 M2.ftop).2.2.1 ?_⟩;refine iI S2 ha (aH rfl ⟨by trivial,by trivial,?_⟩);refine oe (fr:={fr with level:=lvl n N fr.a0,fn:=nx}) M2 hl hx hg λh3 b fp fc hb M3 own O3=>⟨rfl,?_⟩;have z:=O02.size;refine hK h3 b fp fc ah M3 (λx hx=>(own x hx).imp id λh=>ah) ((O02.mono λx hx _=> ?_).trans O3 λx hx _=>jh x hx);simp only[LZ]at hx;subst hx;exact bP
def Ee{h:aI}{A:MA}{fl:List Fk}{fr:Fk}(H:bT h s L (XL n room fo gg N off))(M:bG h s {A with fs:=fl++[fr]})(D: ∀b∈({A with fs:=fl++[fr]}:MA).bl,b∉L)(hl:fl.length<900000)(ha:isN N fr.a0)
  (hK: ∀h' b fp fc,h.size<=b->bG h' s {A with fp:=fp,fc:=fc,fs:=fl++[{fr with low:=A.told,fn:=232}]++[⟨b,fr.op,fr.mask,high N fr.a0,fr.a1,0,0,0,136⟩]}->(∀b∈aV fp,b∈aV A.fp\/h.size<=b)->aM ({A with fs:=fl++[fr]}:MA).bl h h'->K aE h'):
  Cl 184 [bf fr.b] h K:=by
 refine F184.spec ?_;simp only[aL,LX,Ma];have a:fr.b∉L:=D _ bP;refine aQ (a9 M.ftop).1 ?_;rw[aT];simp only[aL,LX,Ma];refine aH (bI M.own).2.2.1 ?_;refine M.top (f':={fr with low:=A.told}) (by decide) rfl rfl rfl λh1 M1 O1=> ?_;refine M1.top (f':={fr with low:=A.told,fn:=232}) (by decide) rfl rfl rfl λh2 M2 O2=> ?_;have O02:aM [fr.b] h h2:=O1.trans O2 λb hb _=>hb;have S2:=H.only O02 (λb hb hm=>by simp only[LZ]at hb;subst hb;exact a hm);refine aQ (a9 M2.ftop).1 ?_;rw[aT];simp only[aL,LX,Ma];refine aQ (bI M2.own).1 ⟨ah,ah,aH (n:=(fr.a0:Int)) (a9 M2.ftop).2.2.1 ?_⟩;refine fA S2 ha (aH rfl ⟨by trivial,?_⟩);refine oe (fr:={fr with low:=A.told,fn:=232}) M2 hl Fh EU λh3 b fp fc hb M3 own O3=>⟨rfl,?_⟩;have z:=O02.size;refine hK h3 b fp fc ah M3 (λx hx=>(own x hx).imp id λh=>ah) ((O02.mono λx hx _=> ?_).trans O3 λx hx _=>jh x hx);simp only[LZ]at hx;subst hx;exact bP
def Dn{h:aI}{A:MA}{fl:List Fk}{fr:Fk}(H:bT h s L (XL n room fo gg N off))(M:bG h s {A with fs:=fl++[fr]})(D: ∀b∈({A with fs:=fl++[fr]}:MA).bl,b∉L)(hl:fl.length<900000)(ha:isN N fr.a0)
  (hK: ∀h' b fp fc,h.size<=b->bG h' s {A with fp:=fp,fc:=fc,fs:=fl++[{fr with low:=A.told,fn:=233}]++[⟨b,fr.op,fr.mask,high N fr.a0,fr.a1,0,0,0,137⟩]}->(∀b∈aV fp,b∈aV A.fp\/h.size<=b)->aM ({A with fs:=fl++[fr]}:MA).bl h h'->K aE h'):
  Cl 188 [bf fr.b] h K:=by
 refine F188.spec ?_;simp only[aL,LX,Ma];have a:fr.b∉L:=D _ bP;refine aQ (a9 M.ftop).1 ?_;rw[aT];simp only[aL,LX,Ma];refine aH (bI M.own).2.2.1 ?_;refine M.top (f':={fr with low:=A.told}) (by decide) rfl rfl rfl λh1 M1 O1=> ?_;refine M1.top (f':={fr with low:=A.told,fn:=233}) (by decide) rfl rfl rfl λh2 M2 O2=> ?_;have O02:aM [fr.b] h h2:=O1.trans O2 λb hb _=>hb;have S2:=H.only O02 (λb hb hm=>by simp only[LZ]at hb;subst hb;exact a hm);refine aQ (a9 M2.ftop).1 ?_;rw[aT];simp only[aL,LX,Ma];refine aQ (bI M2.own).1 ⟨ah,ah,aH (n:=(fr.a0:Int)) (a9 M2.ftop).2.2.1 ?_⟩;refine fA S2 ha (aH rfl ⟨by trivial,?_⟩);refine oe (fr:={fr with low:=A.told,fn:=233}) M2 hl ER EJ λh3 b fp fc hb M3 own O3=>⟨rfl,?_⟩;have z:=O02.size;refine hK h3 b fp fc ah M3 (λx hx=>(own x hx).imp id λh=>ah) ((O02.mono λx hx _=> ?_).trans O3 λx hx _=>jh x hx);simp only[LZ]at hx;subst hx;exact bP
def D3{h:aI}{A:MA}{fl:List Fk}{fr:Fk}(H:bT h s L (XL n room fo gg N off))(M:bG h s {A with fs:=fl++[fr]})(D: ∀b∈({A with fs:=fl++[fr]}:MA).bl,b∉L)(hl:fl.length<900000)(ha:isN N fr.a0)
  (hK: ∀h' b fp fc,h.size<=b->bG h' s {A with fp:=fp,fc:=fc,fs:=fl++[{fr with low:=A.told,fn:=281}]++[⟨b,fr.op,fr.mask,high N fr.a0,fr.a1,0,0,0,192⟩]}->(∀b∈aV fp,b∈aV A.fp\/h.size<=b)->aM ({A with fs:=fl++[fr]}:MA).bl h h'->K aE h'):
  Cl 237 [bf fr.b] h K:=by
 refine F237.spec ?_;simp only[aL,LX,Ma];have a:fr.b∉L:=D _ bP;refine aQ (a9 M.ftop).1 ?_;rw[aT];simp only[aL,LX,Ma];refine aH (bI M.own).2.2.1 ?_;refine M.top (f':={fr with low:=A.told}) (by decide) rfl rfl rfl λh1 M1 O1=> ?_;refine M1.top (f':={fr with low:=A.told,fn:=281}) (by decide) rfl rfl rfl λh2 M2 O2=> ?_;have O02:aM [fr.b] h h2:=O1.trans O2 λb hb _=>hb;have S2:=H.only O02 (λb hb hm=>by simp only[LZ]at hb;subst hb;exact a hm);refine aQ (a9 M2.ftop).1 ?_;rw[aT];simp only[aL,LX,Ma];refine aQ (bI M2.own).1 ⟨ah,ah,aH (n:=(fr.a0:Int)) (a9 M2.ftop).2.2.1 ?_⟩;refine fA S2 ha (aH rfl ⟨by trivial,?_⟩);refine oe (fr:={fr with low:=A.told,fn:=281}) M2 hl Fd Fe λh3 b fp fc hb M3 own O3=>⟨rfl,?_⟩;have z:=O02.size;refine hK h3 b fp fc ah M3 (λx hx=>(own x hx).imp id λh=>ah) ((O02.mono λx hx _=> ?_).trans O3 λx hx _=>jh x hx);simp only[LZ]at hx;subst hx;exact bP
def zV{m v:Nat}(hm:m<256)(hv:v<8):((bu .and .u8 (Int.fdiv (m:Int) (2^(min (Int.toNat (v:Int)) (IntKind.bits .u8)))) (1:Int))==(0:Int))= !m.testBit v:=by
 rw[show min (Int.toNat (v:Int)) (IntKind.bits .u8)=v by show min v 8=v;omega,show((2:Int)^v)=((2^v:Nat):Int) by simp,Pa _ (Ny _)];rw[show((m:Int)/((2^v:Nat):Int))=((m/2^v:Nat):Int) by simp];have hq:m/2^v<256:=OV (Nat.div_le_self _ _) hm
 have e:bu .and .u8 ((m/2^v:Nat):Int) (1:Int)=((m/2^v%2:Nat):Int):=by
  unfold bu;show IntKind.wrap .u8 ((BitVec.ofInt 8 ((m/2^v:Nat):Int)&&&BitVec.ofInt 8 1).toNat:Int)=_;rw[BitVec.toNat_and]
  have e1:(BitVec.ofInt 8 ((m/2^v:Nat):Int)).toNat=m/2^v:=by rw[BitVec.ofInt_natCast,BitVec.toNat_ofNat];exact Od hq
  rw[e1,show(BitVec.ofInt 8 1).toNat=1 from rfl,Nat.and_one_is_mod];have:m/2^v%2<2:=Po _ (by decide);obtain⟨y,hy⟩: ∃y,y=m/2^v%2:=⟨_,rfl⟩;rw[<-hy]at this ⊢;have:y=0\/y=1:=ah;rcases this with q|q<;>subst q<;>rfl
 rw[e,Nat.testBit_eq_decide_div_mod_eq];have:m/2^v%2<2:=Po _ (by decide);obtain⟨y,hy⟩: ∃y,y=m/2^v%2:=⟨_,rfl⟩;rw[<-hy]at this ⊢;have:y=0\/y=1:=ah;rcases this with q|q<;>subst q<;>rfl
def AG{h:aI}{s n room:Nat}{fo gg:Nat->Nat}{off:Bool}{N:ay}{A:MA}{fl:List Fk}{fr:Fk}{K:KK}{L:List Nat}(H:bT h s L (XL n room fo gg N off))(M:bG h s {A with fs:=fl++[fr]})(D: ∀b∈({A with fs:=fl++[fr]}:MA).bl,b∉L)(hl:fl.length<900000)(e:fr.op=6\/fr.op=7)(hm:fr.mask<256)(ha:isN N fr.a0)
  (hT: ∀h' fp r,QR n fo N fr.op fr.mask fr.a0 r->bT h' s L (XL n room fo gg N off)->bG h' s {A with fp:=fp,fs:=fl,told:=r,done:=fl.isEmpty}->aV fp=aV A.fp->aM (L++({A with fs:=fl++[fr]}:MA).bl) h h'->K aE h')
  (hP:2<=fr.a0-> ∀h' b fp fc,h.size<=b->bT h' s L (XL n room fo gg N off)->bG h' s {A with fp:=fp,fc:=fc,fs:=fl++[{fr with level:=lvl n N fr.a0,fn:=184}]++[⟨b,fr.op,fr.mask,low N fr.a0,fr.a1,0,0,0,136⟩]}->(∀b∈aV fp,b∈aV A.fp\/h.size<=b)->aM (L++({A with fs:=fl++[fr]}:MA).bl) h h'->K aE h'):
  Cl 136 [bf fr.b] h K:=by
 have ok:=H.ok;dsimp only[XL]at ok;have d: ∀{y},isN N y->y<2^16:=λhy=>by have:=H.isN_lt hy;omega
 refine F136.spec ?_;simp only[aL,LX,Ma];have F:=M.ftop;have r3:=(a9 F).2.2.1
 have a: ∀h1 (r:Nat),QR n fo N fr.op fr.mask fr.a0 r->bT h1 s L (XL n room fo gg N off)->bG h1 s {A with fs:=fl++[fr]}->aM L h h1->Cl 181 [bf A.m,aq (r:Int)] h1 (λv h2=>v=aE/\K aE h2):=λh1 r R S1 M1 O1=>by
  refine gH M1 ah λh2 fp M2 e2 O2=>⟨rfl,?_⟩;refine hT h2 fp r R (S1.only O2 λb hb hm=> ?_) M2 e2 ((O1.mono λb hb _=>Zp (.inl hb)).trans O2 λb hb _=> ?_)
  ·simp only[LZ]at hb;subst hb;exact D A.m (by simp[MA.bl]) hm
  ·simp only[LZ]at hb;subst hb;exact Zp (.inr (by simp[MA.bl]))
 refine⟨ah,ah,aH (n:=(fr.a0:Int)) r3 (aR (λq=> ?_) λq=> ?_)⟩
 ·have q:=Mn q;refine aQ (a9 F).1 ⟨ah,ah,aH (n:=(fr.a0:Int)) r3 ?_⟩;exact a h fr.a0 (zY ok.1 ah) H M (aM.refl _ _)
 ·have q:=Me q;refine aQ (a9 F).1 ?_;rw[aT];simp only[aL,LX,Ma];refine aQ (bI M.own).1 (aH (a9 F).2.1 (aH (n:=(fr.mask:Int)) (by rw[fS F];rfl) ⟨ah,ah,aH (n:=(fr.a0:Int)) r3 ?_⟩));have DM: ∀h1,aM L h h1->bG h1 s {A with fs:=fl++[fr]}:=λh1 O1=>M.only O1 λb hb hm=>D b hm hb;refine kT (b:=0) (c:=0) H ah hm (d ha) (by decide) (by decide) (λh1 S1 O1=>⟨_,_,rfl,?_⟩) λh1 v hv S1 O1=>⟨_,_,rfl,?_⟩
  ·rw[aK];refine oT S1 (DM h1 O1) D hl ha Fh EU λh2 b fp fc hb M2 own O2=>⟨rfl,?_⟩;have z:=O1.size;refine hP ah h2 b fp fc ah (S1.only O2 λx hx=>D x hx) M2 (λx hx=>(own x hx).imp id λh=>ah) ((O1.mono λb hb _=>Zp (.inl hb)).trans O2 λb hb _=>Zp (.inr hb))
  ·obtain⟨r,rfl,R⟩:=QL.getq e hm hv (d ha) (by decide) (by decide);have hr:=H.isN_lt R.is;rw[gK ah,aO];refine aQ (a9 (DM h1 O1).ftop).1 ?_;exact a h1 r R S1 (DM h1 O1) O1
def q9{h:aI}{s n room:Nat}{fo gg:Nat->Nat}{off:Bool}{N:ay}{A:MA}{fl:List Fk}{fr:Fk}{K:KK}{L:List Nat}{r:Nat}(H:bT h s L (XL n room fo gg N off))(M:bG h s {A with fs:=fl++[fr]})(D: ∀b∈({A with fs:=fl++[fr]}:MA).bl,b∉L)(hl:fl.length<900000)(d:fr.op=6\/fr.op=7)(hm:fr.mask<256)(ha:isN N fr.a0)(R:QR n fo N fr.op fr.mask fr.a0 r)
  (hT: ∀h' fp,bT h' s L (XL n room fo gg N off)->bG h' s {A with fp:=fp,fs:=fl,told:=r,done:=fl.isEmpty}->aV fp=aV A.fp->aM (L++({A with fs:=fl++[fr]}:MA).bl) h h'->K aE h'):
  Cl 277 [bf fr.b,aq (r:Int)] h K:=by
 have ok:=H.ok;dsimp only[XL]at ok;have a: ∀{y},isN N y->y<2^16:=λhy=>by have:=H.isN_lt hy;omega
 refine F277.spec ?_;simp only[aL,LX,Ma];have F:=M.ftop;refine aQ (a9 F).1 ?_;rw[aT];simp only[aL,LX,Ma];refine aQ (bI M.own).1 (aH (a9 F).2.1 (aH (n:=(fr.mask:Int)) (by rw[fS F];rfl) ⟨ah,ah,aH (n:=(fr.a0:Int)) (a9 F).2.2.1 ?_⟩));have hr:=H.isN_lt R.is;refine pj (b:=0) (c:=0) H ah hm (a ha) (by decide) (by decide) ah ⟨fr.op,fr.mask,fr.a0,0,0,r,rfl,rfl,hm,ha,.inl (by decide),.inl (by decide),a ha,by decide,by decide,.inr ⟨d,R⟩⟩ λh1 S1 O1=>⟨rfl,?_⟩;have M1:=M.only O1 λb hb hm=>D b hm hb;refine aQ (a9 M1.ftop).1 (gH M1 ah λh2 fp M2 e2 O2=>⟨rfl,?_⟩);refine hT h2 fp (S1.only O2 λb hb hm=> ?_) M2 e2 ((O1.mono λb hb _=>Zp (.inl hb)).trans O2 λb hb _=> ?_)
 ·simp only[LZ]at hb;subst hb;exact D A.m (by simp[MA.bl]) hm
 ·simp only[LZ]at hb;subst hb;exact Zp (.inr (by simp[MA.bl]))
def Cg{h:aI}{s n room:Nat}{fo gg:Nat->Nat}{off:Bool}{N:ay}{A:MA}{fl:List Fk}{fr:Fk}{K:KK}{L:List Nat}(H:bT h s L (XL n room fo gg N off))(M:bG h s {A with fs:=fl++[fr]})(D: ∀b∈({A with fs:=fl++[fr]}:MA).bl,b∉L)(hl:fl.length<900000)(hm:fr.mask<256)(e:fr.level<n)(f8:fo fr.level<8)
  (hJ:fr.mask.testBit (fo fr.level)=true-> ∀h' b fp fc,h.size<=b->bT h' s L (XL n room fo gg N off)->bG h' s {A with fp:=fp,fc:=fc,fs:=fl++[{fr with fn:=278}]++[⟨b,if fr.op=7 then 2 else 3,0,fr.low,A.told,0,0,0,180⟩]}->(∀b∈aV fp,b∈aV A.fp\/h.size<=b)->aM (L++({A with fs:=fl++[fr]}:MA).bl) h h'->K aE h')
  (hN:fr.mask.testBit (fo fr.level)=false-> ∀h' {Q:KK},aM [] h h'->bT h' s L (XL n room fo gg N off)->bG h' s {A with fs:=fl++[fr]}->
   (∀h2 (r:Nat),Cl 277 [bf fr.b,aq (r:Int)] h2 (λv h3=>v=aE/\K aE h3)->Q (.tuple #[aq (r:Int),aC]) h2)->(∀h2 (r:Nat),K aE h2->Q (.tuple #[aq (r:Int),aB]) h2)->Cl 276 [bf fr.b,ap (fr.level:Int),aq (fr.low:Int),aq (A.told:Int)] h' Q):
  Cl 232 [bf fr.b] h K:=by
 have ok:=H.ok;dsimp only[XL]at ok;refine F232.spec ?_;simp only[aL,LX,Ma];have F:=M.ftop;have g:fr.b∉L:=D _ bP;refine aH (n:=(fr.mask:Int)) (by rw[fS F];rfl) (aQ (a9 F).1 ?_);rw[aT];simp only[aL,LX,Ma];refine aQ (bI M.own).1 (aH (n:=(fr.level:Int)) (a9 F).2.2.2.2.2.1 ?_);refine eX H λc h1 Or g1 O1=>aQ rfl ⟨by trivial,by trivial,by trivial,?_⟩;have M1:=M.only0 O1;have H1:=H.only0 O1;have F1:=M1.ftop;have rk: ∀k,rd h1 ⟨fr.b,k,none⟩=(fR A.m fr)[k]? :=λk=>fS F1 k;refine aH (n:=(fr.mask:Int)) (by rw[rk];rfl) ⟨by trivial,by trivial,by trivial,by trivial,aH (n:=(fr.level:Int)) (by rw[rk];rfl) ⟨by trivial,?_⟩⟩;refine nZ Or ok.2.2.1 e (aH rfl ⟨by trivial,by trivial,by trivial,aH (n:=(fr.mask:Int)) (by rw[rk];rfl) ⟨by trivial,ah,?_⟩⟩);show aJ ((bu .and .u8 (Int.fdiv (fr.mask:Int) (2^(min (Int.toNat ((fo fr.level:Nat):Int)) (IntKind.bits .u8)))) (1:Int))==(0:Int)) _ _;rw[zV hm f8];refine aR (λq=> ?_) λq=> ?_
 ·have q:fr.mask.testBit (fo fr.level)=false:=by simpa using q
  refine aH (n:=(fr.level:Int)) (by rw[rk];rfl) (aH (n:=(fr.low:Int)) (by rw[rk];rfl) (aQ (by rw[rk];rfl) ?_));rw[aT];simp only[aL,LX,Ma];refine aH (bI M1.own).2.2.1 ?_;refine hN q h1 O1 H1 M1 (λh2 r hC=>⟨_,_,rfl,?_⟩) λh2 r hK=>⟨_,_,rfl,?_⟩
  ·rw[aO];exact hC
  ·rw[aK];exact hK
 ·have q:fr.mask.testBit (fo fr.level)=true:=by simpa using q
  have go: ∀o:Nat,o=(if fr.op=7 then 2 else 3)->F232.wk7 (aw fr.b) (o:Int) h1 K:=λo eo=>by unfold F232.wk7;simp only[aL,LX,Ma];refine M1.top (f':={fr with fn:=278}) (by decide) rfl rfl rfl λh2 M2 O2=> ?_;have F2:=M2.ftop;have a: ∀k,rd h2 ⟨fr.b,k,none⟩=(fR A.m {fr with fn:=278})[k]? :=λk=>fS F2 k;refine aQ (by rw[a];rfl) (aH (n:=(fr.low:Int)) (by rw[a];rfl) (aQ (by rw[a];rfl) ?_));rw[aT];simp only[aL,LX,Ma];refine aH (bI M2.own).2.2.1 ?_;refine fB (A:={A with fs:=fl++[{fr with fn:=278}]}) (mask:=0) (a2:=0) M2 (by simp;omega) λh9 g9 fp fc f M9 O9 d=>aQ rfl ?_;obtain⟨b,rfl,i⟩:=f;have z1:=O1.size;have z2:=O2.size;subst eo;have S2:=H1.only O2 (λb hb hm=>by simp only[LZ]at hb;subst hb;exact g hm);refine hJ q h9 b fp fc ah (S2.only O9 λx hx=>D x (jh x hx)) M9 (λx hx=>(d x hx).imp id λh=>ah) ((((O1.mono (T:=L++({A with fs:=fl++[fr]}:MA).bl) ak).trans O2 λx hx _=> ?_)).trans O9 λx hx _=>Zp (.inr (jh x hx)));simp only[LZ]at hx;subst hx;exact Zp (.inr bP)
  refine aH (n:=(fr.op:Int)) (by rw[rk];rfl) ?_;rw[show((7:Int))=((7:Nat):Int)from rfl,cZ];refine aR (λp=>go 2 (by rw[L4 (Mn p)])) λp=>go 3 (by rw[LY (Me p)])
def zR{A:MA}{fr:Fk}(M:bG h s {A with fs:=fl++[fr]})(hK:Cl 277 [bf fr.b,aq (A.told:Int)] h (λv h'=>v=aE/\K aE h')):Cl 278 [bf fr.b] h K:=by refine F278.spec ?_;simp only[aL,LX,Ma];refine aQ (a9 M.ftop).1 ?_;rw[aT];simp only[aL,LX,Ma];exact aH (bI M.own).2.2.1 hK
def F70.spec{a:Addr}(H:aS .i64 (rd h (a.add 0)) λa=>K (ap a) h):Cl 70 [au a] h K:=cN Tryz.func70 H
def F186.spec{i:Int}{a:Addr}(H:aJ (i<0) (K (ap (-1)) h) (aS .i64 (rd h (a.add 0)) λb=>aJ (i>=b) (K (ap (-1)) h) ((0<=i/\i<8/\aS .i64 (rd h ((a.add 9).add (i.toNat*1))) λa=>K (ap a) h)))):Cl 186 [au a,ap i] h K:=cN Tryz.func186 H
def F208.spec(H:Cl 47 [au a] h λb c=>aZ (some b) λb=>Cl 186 [aA b,ap i] c λb c=>aS .i64 (some b) λb=>Cl 161 [au a,ap b,aq 0,aq 1] c λa b=> ∃c:Int,∃d:Int,a=(.tuple #[aq c,ap d])/\K (.tuple #[aq c,ap d]) b):Cl 208 [au a,ap i] h K:=cN Tryz.func208 H
section
variable (n m5:Nat)(b:Addr)(c:az)(a d:Nat)(f i j l g:Int)(h:aI)(K:KK)
end
def iE(H:cL h b n f g)(hn:n<=8)(hv:v<n)(hK:K (ap (g v:Int)) h):Cl 186 [au (aw b),ap (v:Int)] h K:=by refine F186.spec ?_;rw[L7 ah,aK];simp only[aL,LX];refine aH H.rd0 ?_;rw[L7 ah,aK];exact⟨ah,ah,aH (by rw[show 9+Int.toNat (v:Int)*1=9+v by omega];exact H.rdl ah) hK⟩
def pQ{h:aI}{s:Nat}{A:MA}{fl:List Fk}{fr:Fk}{K:KK}{op a b c:Nat}(M:bG h s {A with fs:=fl++[fr]})(hK: ∀h',bG h' s {A with fs:=fl++[{fr with op:=op,mask:=0,a0:=a,a1:=b,a2:=c,low:=0,fn:=180}]}->aM [fr.b] h h'->K aE h'):
  Cl 187 [bf fr.b,.int .u8 (op:Int),.agg #[aq (a:Int),aq (b:Int),aq (c:Int)]] h K:=by
 refine F187.spec ?_;refine aW λh1 A1 O1 z1=> ?_;simp only[aL,LX,Ma];have r: ∀{h'} (_:At h' h.size [aq (a:Int),aq (b:Int),aq (c:Int)]) (k:Nat),rd h' ⟨h.size,k,none⟩=([aq (a:Int),aq (b:Int),aq (c:Int)]:List Value)[k]? :=λA k=>At.rd A k;have M1:=M.only0 O1
 have nb:h.size∉[fr.b]:=λhm=>by simp only[LZ]at hm;have:=M.lt fr.b bP;omega
 refine aH (by rw[r A1];rfl) (aH (by rw[r A1];rfl) (aH (by rw[r A1];rfl) ?_));refine M1.top (f':={fr with op:=op}) (by decide) rfl rfl rfl λh2 M2 O2=>⟨by trivial,by trivial,by trivial,?_⟩;have A2:=A1.only O2 nb;refine aH (by rw[r A2];rfl) (aH (by rw[r A2];rfl) (aH (by rw[r A2];rfl) ⟨by trivial,?_⟩));refine M2.top (f':={fr with op:=op,mask:=0}) (by decide) rfl rfl rfl λh3 M3 O3=>⟨by trivial,by trivial,?_⟩;have A3:=A2.only O3 nb;refine aH (by rw[r A3];rfl) (aH (by rw[r A3];rfl) (aH (by rw[r A3];rfl) ⟨by trivial,?_⟩));refine M3.top (f':={fr with op:=op,mask:=0,a0:=a}) (by decide) rfl rfl rfl λh4 M4 O4=> ?_;refine M4.top (f':={fr with op:=op,mask:=0,a0:=a,a1:=b}) (by decide) rfl rfl rfl λh5 M5 O5=> ?_;refine M5.top (f':={fr with op:=op,mask:=0,a0:=a,a1:=b,a2:=c}) (by decide) rfl rfl rfl λh6 M6 O6=>⟨by trivial,?_⟩;refine M6.top (f':={fr with op:=op,mask:=0,a0:=a,a1:=b,a2:=c,low:=0}) (by decide) rfl rfl rfl λh7 M7 O7=> ?_;refine M7.top (f':={fr with op:=op,mask:=0,a0:=a,a1:=b,a2:=c,low:=0,fn:=180}) (by decide) rfl rfl rfl λh8 M8 O8=> ?_;have st: ∀b∈[fr.b],b<h1.size->b∈[fr.b]:=λb hb _=>hb;exact hK h8 M8 ((O1.mono ak).trans (((((((O2.trans O3 λb hb _=>hb).trans O4 λb hb _=>hb).trans O5 λb hb _=>hb).trans O6 λb hb _=>hb).trans O7 λb hb _=>hb).trans O8 λb hb _=>hb)) λb hb _=>hb)
def vf{h:aI}{s n room:Nat}{fo gg:Nat->Nat}{off:Bool}{N:ay}{A:MA}{fl:List Fk}{fr:Fk}{K:KK}{L:List Nat}{l:Nat}(H:bT h s L (XL n room fo gg N off))(M:bG h s {A with fs:=fl++[fr]})(D: ∀b∈({A with fs:=fl++[fr]}:MA).bl,b∉L)(d:l<n)
  (hY: ∀h' L' N' (v:Nat),Ex N N'->bi N'<=bi N+1->isN N' v->(∀x,sm n fo N' v x=x.testBit (fo l))->bT h' s L' (XL n room fo gg N' off)->bG h' s {A with fs:=fl++[{fr with op:=5,mask:=0,a0:=v,a1:=fr.a1,a2:=fr.low,low:=0,fn:=180}]}->aM (L++({A with fs:=fl++[fr]}:MA).bl) h h'->bC L L' h->K aE h')
  (hE: ∀h' L',room<=bi N->bT h' s L' (XL n room fo gg N off)->bG h' s {A with fp:=none,fc:=0,fs:=[],done:=true,e:=60}->aM (L++({A with fs:=fl++[fr]}:MA).bl) h h'->bC L L' h->K aE h'):
  Cl 303 [bf fr.b,ap (l:Int)] h K:=by
 have ok:=H.ok;dsimp only[XL]at ok;refine F303.spec ?_;have e0:lvl n N 0=n:=gT ah;have e1:lvl n N 1=n:=gT ah;have g:=M.lt;refine EW (l:=l) (a:=0) (b:=1) H M D d (.inl (by decide)) (.inl (by decide)) ah ah (λh1 L1 N1 v R E1 S1 M1 O1 g1=>⟨_,_,rfl,?_⟩) λh1 L1 v hf S1 M1 O1 g1=>⟨_,_,rfl,?_⟩
 ·rw[aO];simp only[aL,LX,Ma];have c:=S1.ok;dsimp only[XL]at c;obtain⟨m1,m2,-,m4⟩:=gh (f:=fo) ok.1 c.1 (a:=0) (b:=1) (.inl (by decide)) (.inl (by decide)) ah R;have F1:=M1.ftop;refine⟨ah,ah,aH (n:=(fr.a1:Int)) (a9 F1).2.2.2.1 (aH (n:=(fr.low:Int)) (a9 F1).2.2.2.2.2.2.1 ?_)⟩;refine pQ (op:=5) M1 λh2 M2 O2=>⟨rfl,?_⟩
  have nf:fr.b∉L1:=λhm=>by
   rcases g1 _ hm with q|q
   ·exact D _ bP q
   ·have:=g _ (bP (A:=A) (fl:=fl) (fr:=fr));omega
  refine hY h2 L1 N1 v m1 (wj R) m2 (λx=> ?_) (S1.only O2 λb hb hm=>by simp only[LZ]at hb;subst hb;exact nf hm) M2 ((O1.mono λb hb _=>Zp (.inl hb)).trans O2 λb hb _=> ?_) g1
  ·rw[m4 x,br ah,br ah];cases x.testBit (fo l)<;>rfl
  ·simp only[LZ]at hb;subst hb;exact Zp (.inr bP)
 ·rw[aK];exact hE h1 L1 hf S1 M1 O1 g1
def wh{h:aI}{s n room:Nat}{fo gg:Nat->Nat}{off:Bool}{N:ay}{A:MA}{fl:List Fk}{fr:Fk}{K:KK}{L:List Nat}(H:bT h s L (XL n room fo gg N off))(M:bG h s {A with fs:=fl++[fr]})(D: ∀b∈({A with fs:=fl++[fr]}:MA).bl,b∉L)(hl:fl.length<900000)(hm:fr.mask<n)(ha:isN N fr.a0)
  (hT:gg fr.mask<lvl n N fr.a0-> ∀h' fp,bT h' s L (XL n room fo gg N off)->bG h' s {A with fp:=fp,fs:=fl,told:=fr.a0,done:=fl.isEmpty}->aV fp=aV A.fp->aM (L++({A with fs:=fl++[fr]}:MA).bl) h h'->K aE h')
  (hI:lvl n N fr.a0=gg fr.mask-> ∀h',bT h' s L (XL n room fo gg N off)->bG h' s {A with fs:=fl++[{fr with op:=5,mask:=0,a0:=fr.a1,a1:=high N fr.a0,a2:=low N fr.a0,low:=0,fn:=180}]}->aM (L++({A with fs:=fl++[fr]}:MA).bl) h h'->K aE h')
  (hP:lvl n N fr.a0<gg fr.mask-> ∀h' b fp fc,h.size<=b->bT h' s L (XL n room fo gg N off)->bG h' s {A with fp:=fp,fc:=fc,fs:=fl++[{fr with level:=lvl n N fr.a0,fn:=188}]++[⟨b,fr.op,fr.mask,low N fr.a0,fr.a1,0,0,0,137⟩]}->(∀b∈aV fp,b∈aV A.fp\/h.size<=b)->aM (L++({A with fs:=fl++[fr]}:MA).bl) h h'->K aE h'):
  Cl 137 [bf fr.b] h K:=by
 have ok:=H.ok;dsimp only[XL]at ok;have n8:=ok.2.2.1;refine F137.spec ?_;simp only[aL,LX,Ma];have F:=M.ftop;refine aQ (a9 F).1 ?_;rw[aT];simp only[aL,LX,Ma];refine aQ (bI M.own).1 (aH (n:=(fr.mask:Int)) (by rw[fS F];rfl) ?_);refine eX H λc h1 Or g1 O1=>aQ rfl ⟨by trivial,by trivial,by trivial,?_⟩;have M1:=M.only0 O1;have H1:=H.only0 O1;have F1:=M1.ftop;have rk: ∀k,rd h1 ⟨fr.b,k,none⟩=(fR A.m fr)[k]? :=λk=>fS F1 k;have ew:ax (fr.mask:Int)=(fr.mask:Int):=wrap_i64 ah ah;rw[ew];refine aH (n:=(fr.mask:Int)) (by rw[rk];rfl) ⟨by trivial,by trivial,?_⟩;refine iE Or n8 hm (aH rfl ⟨ah,ah,aH (n:=(fr.a0:Int)) (a9 F1).2.2.1 ?_⟩);refine dv H1 ha (aH rfl ?_);show aJ (decide (((lvl n N fr.a0:Nat):Int)>((gg fr.mask:Nat):Int))) _ _;have O1':aM (L++({A with fs:=fl++[fr]}:MA).bl) h h1:=O1.mono ak;have a:fr.b∉L:=D _ bP;have z1:=O1.size;refine aR (λq=> ?_) λq=> ?_
 ·have q:=Mn q;refine aQ (a9 F1).1 ⟨ah,ah,aH (n:=(fr.a0:Int)) (a9 F1).2.2.1 ?_⟩;refine gH M1 ah λh2 fp M2 e2 O2=>⟨rfl,hT ah h2 fp (H1.only O2 λb hb hm=> ?_) M2 e2 (O1'.trans O2 λb hb _=> ?_)⟩
  ·simp only[LZ]at hb;subst hb;exact D A.m (by simp[MA.bl]) hm
  ·simp only[LZ]at hb;subst hb;exact Zp (.inr (by simp[MA.bl]))
 have q:=Me q;show aJ (((lvl n N fr.a0:Nat):Int)==((gg fr.mask:Nat):Int)) _ _;rw[cZ];refine aR (λp=> ?_) λp=> ?_
 ·have p:=Mn p;refine⟨ah,ah,aH (n:=(fr.a1:Int)) (a9 F1).2.2.2.1 ⟨ah,ah,aH (n:=(fr.a0:Int)) (a9 F1).2.2.1 ⟨ah,ah,aH (n:=(fr.a0:Int)) (a9 F1).2.2.1 ?_⟩⟩⟩;refine fA H1 ha (aH rfl ⟨by trivial,by trivial,by trivial,by trivial,ah,ah,by trivial,aH (n:=(fr.a1:Int)) (a9 F1).2.2.2.1 ⟨by trivial,by trivial,by trivial,by trivial,by trivial,ah,ah,by trivial,aH (n:=(fr.a0:Int)) (a9 F1).2.2.1 ⟨by trivial,?_⟩⟩⟩);refine iI H1 ha (aH rfl ⟨by trivial,by trivial,by trivial,by trivial,ah,ah,by trivial,aH (n:=(fr.a1:Int)) (a9 F1).2.2.2.1 ⟨by trivial,?_⟩⟩);refine pQ (op:=5) M1 λh2 M2 O2=>⟨rfl,?_⟩;refine hI p h2 (H1.only O2 λb hb hm=>by simp only[LZ]at hb;subst hb;exact a hm) M2 (O1'.trans O2 λb hb _=> ?_);simp only[LZ]at hb;subst hb;exact Zp (.inr bP)
 ·have p:=Me p;refine oT H1 M1 D hl ha ER EJ λh2 b fp fc hb M2 own O2=>⟨rfl,?_⟩;exact hP ah h2 b fp fc ah (H1.only O2 λx hx=>D x hx) M2 (λx hx=>(own x hx).imp id λh=>ah) (O1'.trans O2 λb hb _=>Zp (.inr hb))
def DO{A:MA}{fr:Fk}(H:bT h s L (XL n room fo gg N off))(M:bG h s {A with fs:=fl++[fr]})(D: ∀b∈({A with fs:=fl++[fr]}:MA).bl,b∉L)(ha:isN N fr.a0)
  (hK: ∀h',bT h' s L (XL n room fo gg N off)->bG h' s {A with fs:=fl++[{fr with a1:=A.told,fn:=279,level:=lvl n N fr.a0}]}->aM [fr.b] h h'->K aE h'):Cl 233 [bf fr.b] h K:=by
 refine F233.spec ?_;simp only[aL,LX,Ma];have a:fr.b∉L:=D _ bP;refine aQ (a9 M.ftop).1 ?_;rw[aT];simp only[aL,LX,Ma];refine aH (bI M.own).2.2.1 ⟨ah,ah,?_⟩;refine M.top (f':={fr with a1:=A.told}) (by decide) rfl rfl rfl λh1 M1 O1=> ?_;refine M1.top (f':={fr with a1:=A.told,fn:=279}) (by decide) rfl rfl rfl λh2 M2 O2=> ?_;have O02:aM [fr.b] h h2:=O1.trans O2 λb hb _=>hb;have S2:=H.only O02 (λb hb hm=>by simp only[LZ]at hb;subst hb;exact a hm);refine aQ (a9 M2.ftop).1 ?_;rw[aT];simp only[aL,LX,Ma];refine aQ (bI M2.own).1 ⟨ah,ah,aH (n:=(fr.a0:Int)) (a9 M2.ftop).2.2.1 ?_⟩;refine dv S2 ha (aH rfl ⟨by trivial,?_⟩);refine M2.top (f':={fr with a1:=A.told,fn:=279,level:=lvl n N fr.a0}) (by decide) rfl rfl rfl λh3 M3 O3=> ?_;exact hK h3 (S2.only O3 (λb hb hm=>by simp only[LZ]at hb;subst hb;exact a hm)) M3 (O02.trans O3 λb hb _=>hb)
def zX{h:aI}{s:Nat}{A:MA}{fl:List Fk}{fr:Fk}{K:KK}(M:bG h s {A with fs:=fl++[fr]})(hK:Cl 303 [bf fr.b,ap (fr.level:Int)] h (λv h'=>v=aE/\K aE h')):Cl 279 [bf fr.b] h K:=by refine F279.spec ?_;simp only[aL,LX,Ma];exact aH (a9 M.ftop).2.2.2.2.2.1 hK
def HP:bR X 192=some cH.go:=by kernel_rfl
def J7:bR X 237=some cH.go:=by kernel_rfl
def JE:bR X 281=some cH.go:=by kernel_rfl
def Ku{v:Nat}(hv:v<8):bu .xor .i64 (v:Int) (1:Int)=((v^^^1:Nat):Int):=by have:v=0\/v=1\/v=2\/v=3\/v=4\/v=5\/v=6\/v=7:=ah;rcases this with e|e|e|e|e|e|e|e<;>subst e<;>rfl
def FI(n:Nat)(fo gg:Nat->Nat):Prop:= ∀l,l<n->fo l<8/\fo l^^^1<n/\gg (fo l^^^1)<n/\fo (gg (fo l^^^1))=fo l^^^1
def Dy{h:aI}{A:MA}{fl:List Fk}{fr:Fk}(H:bT h s L (XL n room fo gg N off))(M:bG h s {A with fs:=fl++[fr]})(D: ∀b∈({A with fs:=fl++[fr]}:MA).bl,b∉L)(hl:fl.length<900000)(ha:isN N fr.a0)
  (hT:fr.a0<2-> ∀h' fp,bT h' s L (XL n room fo gg N off)->bG h' s {A with fp:=fp,fs:=fl,told:=fr.a0,done:=fl.isEmpty}->aV fp=aV A.fp->aM (L++({A with fs:=fl++[fr]}:MA).bl) h h'->K aE h')
  (hP:2<=fr.a0-> ∀h' b fp fc,h.size<=b->bT h' s L (XL n room fo gg N off)->bG h' s {A with fp:=fp,fc:=fc,fs:=fl++[{fr with level:=lvl n N fr.a0,fn:=237}]++[⟨b,fr.op,fr.mask,low N fr.a0,fr.a1,0,0,0,192⟩]}->(∀b∈aV fp,b∈aV A.fp\/h.size<=b)->aM (L++({A with fs:=fl++[fr]}:MA).bl) h h'->K aE h'):
  Cl 192 [bf fr.b] h K:=by
 refine F192.spec ?_;simp only[aL,LX,Ma];have F:=M.ftop;have r3:=(a9 F).2.2.1;refine⟨ah,ah,aH (n:=(fr.a0:Int)) r3 (aR (λq=> ?_) λq=> ?_)⟩
 ·have q:=Mn q;refine aQ (a9 F).1 ⟨ah,ah,aH (n:=(fr.a0:Int)) r3 ?_⟩;refine gH M ah λh2 fp M2 e2 O2=>⟨rfl,hT ah h2 fp (H.only O2 λb hb hm=> ?_) M2 e2 (O2.mono λb hb _=> ?_)⟩
  ·simp only[LZ]at hb;subst hb;exact D A.m (by simp[MA.bl]) hm
  ·simp only[LZ]at hb;subst hb;exact Zp (.inr (by simp[MA.bl]))
 ·have q:=Me q;refine oT H M D hl ha Fd Fe λh2 b fp fc hb M2 own O2=>⟨rfl,?_⟩;exact hP ah h2 b fp fc hb (H.only O2 λx hx=>D x hx) M2 own (O2.mono λb hb _=>Zp (.inr hb))
def BG{A:MA}{fr:Fk}(H:bT h s L (XL n room fo gg N off))(M:bG h s {A with fs:=fl++[fr]})(D: ∀b∈({A with fs:=fl++[fr]}:MA).bl,b∉L)(hp:FI n fo gg)(d:fr.level<n)
  (hK: ∀h',bT h' s L (XL n room fo gg N off)->bG h' s {A with fs:=fl++[{fr with a1:=A.told}]}->aM [fr.b] h h'->Cl 303 [bf fr.b,ap ((gg (fo fr.level^^^1):Nat):Int)] h' (λv h2=>v=aE/\K aE h2)):Cl 281 [bf fr.b] h K:=by
 have ok:=H.ok;dsimp only[XL]at ok;have n8:=ok.2.2.1;obtain⟨p1,p2,p3,p4⟩:=hp _ d;refine F281.spec ?_;simp only[aL,LX,Ma];have e:fr.b∉L:=D _ bP;refine aQ (a9 M.ftop).1 ?_;rw[aT];simp only[aL,LX,Ma];refine aQ (bI M.own).1 (eX H λc h1 Or g1 O1=>aQ rfl ?_);have M1:=M.only0 O1;have H1:=H.only0 O1;refine aQ (a9 M1.ftop).1 ?_;rw[aT];simp only[aL,LX,Ma];refine aH (bI M1.own).2.2.1 ⟨ah,ah,?_⟩;refine M1.top (f':={fr with a1:=A.told}) (by decide) rfl rfl rfl λh2 M2 O2=> ?_;have S2:=H1.only O2 (λb hb hm=>by simp only[LZ]at hb;subst hb;exact e hm)
 have nc:c∉[fr.b]:=λhm=>by simp only[LZ]at hm;have:=M.lt fr.b bP;omega
 have Or2:=Or.only O2 nc;refine aH (n:=(fr.level:Int)) (a9 M2.ftop).2.2.2.2.2.1 ?_;refine nZ Or2 n8 d (aH rfl ?_);show Cl 186 [_,ap (bu .xor .i64 ((fo fr.level:Nat):Int) (1:Int))] _ _;rw[Ku p1];refine iE Or2 n8 p2 (aH rfl ?_);exact hK h2 S2 M2 ((O1.mono ak).trans O2 λb hb _=>hb)
def JM:bR X 138=some cH.go:=by kernel_rfl
def Jx:bR X 139=some cH.go:=by kernel_rfl
def Kf:bR X 190=some cH.go:=by kernel_rfl
def HR:bR X 191=some cH.go:=by kernel_rfl
def J6:bR X 234=some cH.go:=by kernel_rfl
def Ik:bR X 236=some cH.go:=by kernel_rfl
def Ja:bR X 280=some cH.go:=by kernel_rfl
def BT{n k:Nat}(hn:n<=8)(hk:k=85\/k=170):IntKind.wrap .u8 (bu .and .i64 (k:Int) (ax ((ax ((1:Int)*2^(min (Int.toNat (n:Int)) (IntKind.bits .i64))))-(1:Int))))=((k%2^n:Nat):Int):=by have:n=0\/n=1\/n=2\/n=3\/n=4\/n=5\/n=6\/n=7\/n=8:=ah;rcases hk with e|e<;>subst e<;>rcases this with e|e|e|e|e|e|e|e|e<;>subst e<;>rfl
def laid(A:MA)(fl:List Fk)(fr:Fk)(nx:Nat)(fp:az)(fc b op mask a0 a1 q:Nat):MA:={A with fp:=fp,fc:=fc,fs:=fl++[{fr with fn:=nx}]++[⟨b,op,mask,a0,a1,0,0,0,q⟩]}
def il{A:MA}{fr:Fk}(nx:Nat)(D: ∀b∈({A with fs:=fl++[fr]}:MA).bl,b∉L)(S1:bT h1 s L (XL n room fo gg N off))(O1:aM [fr.b] h h1)(O2:aM (A.m::aV A.fp) h1 h2):bT h2 s L (XL n room fo gg N off)/\aM (L++({A with fs:=fl++[fr]}:MA).bl) h h2:=by refine⟨S1.only O2 λx hx=>D x (jh x hx),(O1.mono λx hx _=> ?_).trans O2 λx hx _=>Zp (.inr (jh x hx))⟩;simp only[LZ]at hx;subst hx;exact Zp (.inr bP)
def qX{h:aI}{s n room:Nat}{fo gg:Nat->Nat}{off:Bool}{N:ay}{A:MA}{fl:List Fk}{fr:Fk}{K:KK}{L:List Nat}{r k:Nat}(H:bT h s L (XL n room fo gg N off))(M:bG h s {A with fs:=fl++[fr]})(hl:fl.length<900000)(hk:k=85\/k=170)
  (hK: ∀h' b fp fc,h.size<=b->bG h' s {A with fp:=fp,fc:=fc,fs:=fl++[fr]++[⟨b,6,k%2^n,r,0,0,0,0,136⟩]}->(∀b∈aV fp,b∈aV A.fp\/h.size<=b)->aM (A.m::aV A.fp) h h'->K aE h'):
  Cl 235 [bf fr.b,aq (r:Int),ap (k:Int)] h K:=by
 have ok:=H.ok;dsimp only[XL]at ok;refine F235.spec ?_;simp only[aL,LX,Ma];refine aQ (a9 M.ftop).1 ?_;rw[aT];simp only[aL,LX,Ma];refine aQ (bI M.own).1 (dX H (aH rfl ⟨Ny _,aQ (a9 M.ftop).1 ?_⟩));show Cl 135 [_,_,.int .u8 (IntKind.wrap .u8 (bu .and .i64 (k:Int) (ax ((ax ((1:Int)*2^(min (Int.toNat ((n:Nat):Int)) (IntKind.bits .i64))))-(1:Int))))),_] _ _;rw[BT ok.2.2.1 hk];refine fB (op:=6) (a1:=0) (a2:=0) (A:={A with fs:=fl++[fr]}) M (by simp;omega) λh9 g9 fp fc e M9 O9 a=>aQ rfl ?_;obtain⟨b,rfl,c⟩:=e;rw[aT];simp only[aL,LX,Ma];refine bG.top (A:={A with fp:=fp,fc:=fc}) (fl:=fl++[fr]) (f':=⟨b,6,k%2^n,r,0,0,0,0,136⟩) M9 (by decide) rfl rfl rfl λd M10 O10=> ?_;have z9:=O9.size;exact hK d b fp fc c M10 a (O9.trans O10 λx hx hl=>by simp only[LZ]at hx;omega)
def J8{h:aI}{A:MA}{fl:List Fk}{fr:Fk}(H:bT h s L (XL n room fo gg N off))(M:bG h s {A with fs:=fl++[fr]})(D: ∀b∈({A with fs:=fl++[fr]}:MA).bl,b∉L)(hl:fl.length<900000)(h2:fr.a2=0)
  (hP: ∀h' b fp fc,h.size<=b->bT h' s L (XL n room fo gg N off)->bG h' s (laid A fl fr 190 fp fc b 2 0 fr.a0 fr.a1 180)->(∀b∈aV fp,b∈aV A.fp\/h.size<=b)->aM (L++({A with fs:=fl++[fr]}:MA).bl) h h'->K aE h'):Cl 138 [bf fr.b] h K:=by
 refine F138.spec ?_;simp only[aL,LX,Ma];have d:fr.b∉L:=D _ bP;refine M.top (f':={fr with fn:=190}) (by decide) rfl rfl rfl λh1 M1 O1=> ?_;have S1:=H.only O1 (λb hb hm=>by simp only[LZ]at hb;subst hb;exact d hm);obtain⟨q0,q1,q3,q4,q5,-⟩:=a9 M1.ftop;refine aQ q0 (aH q3 (aH q4 (aH q5 ?_)));refine fB (op:=2) (mask:=0) (A:={A with fs:=fl++[{fr with fn:=190}]}) M1 (by simp;omega) λh9 g9 fp fc c M9 O9 a=>aQ rfl ?_;obtain⟨b,rfl,f⟩:=c;have z1:=O1.size;obtain⟨S9,O⟩:=il 190 D S1 O1 O9
 have M9:bG h9 s (laid A fl fr 190 fp fc b 2 0 fr.a0 fr.a1 180):=by
  have e:(⟨b,2,0,fr.a0,fr.a1,fr.a2,0,0,180⟩:Fk)=⟨b,2,0,fr.a0,fr.a1,0,0,0,180⟩:=by rw[h2]
  unfold laid;rw[<-e];exact M9
 exact hP h9 b fp fc ah S9 M9 (λx hx=>(a x hx).imp id λh=>ah) O
def Ii{h:aI}{A:MA}{fl:List Fk}{fr:Fk}(H:bT h s L (XL n room fo gg N off))(M:bG h s {A with fs:=fl++[fr]})(D: ∀b∈({A with fs:=fl++[fr]}:MA).bl,b∉L)(hl:fl.length<900000)
  (hP: ∀h' b fp fc,h.size<=b->bT h' s L (XL n room fo gg N off)->bG h' s (laid A fl fr 234 fp fc b 6 (85%2^n) A.told 0 136)->(∀b∈aV fp,b∈aV A.fp\/h.size<=b)->aM (L++({A with fs:=fl++[fr]}:MA).bl) h h'->K aE h'):Cl 190 [bf fr.b] h K:=by
 refine F190.spec ?_;simp only[aL,LX,Ma];have a:fr.b∉L:=D _ bP;refine M.top (f':={fr with fn:=234}) (by decide) rfl rfl rfl λh1 M1 O1=> ?_;have S1:=H.only O1 (λb hb hm=>by simp only[LZ]at hb;subst hb;exact a hm);refine aQ (a9 M1.ftop).1 ?_;rw[aT];simp only[aL,LX,Ma];refine aH (bI M1.own).2.2.1 ?_;refine qX (k:=85) (fr:={fr with fn:=234}) S1 M1 hl (.inl rfl) λh2 b fp fc hb M2 own O2=>⟨rfl,?_⟩;have z1:=O1.size;obtain⟨S9,O⟩:=il 234 D S1 O1 O2;exact hP h2 b fp fc ah S9 M2 (λx hx=>(own x hx).imp id λh=>ah) O
def HN{A:MA}{fr:Fk}(M:bG h s {A with fs:=fl++[fr]})
  (hK: ∀h',bG h' s {A with fs:=fl++[{fr with a0:=A.told,a1:=0,a2:=0,fn:=192}]}->aM [fr.b] h h'->K aE h'):Cl 234 [bf fr.b] h K:=by
 refine F234.spec ?_;simp only[aL,LX,Ma];refine aQ (a9 M.ftop).1 ?_;rw[aT];simp only[aL,LX,Ma];refine aH (bI M.own).2.2.1 ?_;refine M.top (f':={fr with a0:=A.told}) (by decide) rfl rfl rfl λh1 M1 O1=> ?_;refine M1.top (f':={fr with a0:=A.told,a1:=0}) (by decide) rfl rfl rfl λh2 M2 O2=> ?_;refine M2.top (f':={fr with a0:=A.told,a1:=0,a2:=0}) (by decide) rfl rfl rfl λh3 M3 O3=> ?_;refine M3.top (f':={fr with a0:=A.told,a1:=0,a2:=0,fn:=192}) (by decide) rfl rfl rfl λh4 M4 O4=> ?_;exact hK h4 M4 (((O1.trans O2 λb hb _=>hb).trans O3 λb hb _=>hb).trans O4 λb hb _=>hb)
def JZ{h:aI}{A:MA}{fl:List Fk}{fr:Fk}(H:bT h s L (XL n room fo gg N off))(M:bG h s {A with fs:=fl++[fr]})(D: ∀b∈({A with fs:=fl++[fr]}:MA).bl,b∉L)(hl:fl.length<900000)
  (hP: ∀h' b fp fc,h.size<=b->bT h' s L (XL n room fo gg N off)->bG h' s (laid A fl fr 191 fp fc b fr.op 0 fr.a0 0 192)->(∀b∈aV fp,b∈aV A.fp\/h.size<=b)->aM (L++({A with fs:=fl++[fr]}:MA).bl) h h'->K aE h'):Cl 139 [bf fr.b] h K:=by
 refine F139.spec ?_;simp only[aL,LX,Ma];have e:fr.b∉L:=D _ bP;refine M.top (f':={fr with fn:=191}) (by decide) rfl rfl rfl λh1 M1 O1=> ?_;have S1:=H.only O1 (λb hb hm=>by simp only[LZ]at hb;subst hb;exact e hm);obtain⟨q0,q1,q3,q4,q5,-⟩:=a9 M1.ftop;refine aQ q0 (aH q1 ⟨ah,ah,aH (n:=(fr.a0:Int)) q3 ?_⟩);refine fB (mask:=0) (a1:=0) (a2:=0) (A:={A with fs:=fl++[{fr with fn:=191}]}) M1 (by simp;omega) λh9 g9 fp fc d M9 O9 c=>aQ rfl ?_;obtain⟨b,rfl,g⟩:=d;rw[aT];simp only[aL,LX,Ma];have M9:bG h9 s {({A with fp:=fp,fc:=fc}:MA)with fs:=(fl++[{fr with fn:=191}])++[⟨b,fr.op,0,fr.a0,0,0,0,0,180⟩]}:=M9;refine bG.top (A:={A with fp:=fp,fc:=fc}) (fl:=fl++[{fr with fn:=191}]) (f:=⟨b,fr.op,0,fr.a0,0,0,0,0,180⟩) (f':=⟨b,fr.op,0,fr.a0,0,0,0,0,192⟩) M9 (by decide) rfl rfl rfl λa M10 O10=> ?_;have z1:=O1.size;have z9:=O9.size;have O910:aM (A.m::aV A.fp) h1 a:=O9.trans O10 λx hx hl=>by simp only[LZ]at hx;omega
 obtain⟨S9,O⟩:=il 191 D S1 O1 O910;exact hP a b fp fc ah S9 M10 (λx hx=>(c x hx).imp id λh=>ah) O
def Iz{h:aI}{A:MA}{fl:List Fk}{fr:Fk}(H:bT h s L (XL n room fo gg N off))(M:bG h s {A with fs:=fl++[fr]})(D: ∀b∈({A with fs:=fl++[fr]}:MA).bl,b∉L)(hl:fl.length<900000)
  (hP: ∀h' b fp fc,h.size<=b->bT h' s L (XL n room fo gg N off)->bG h' s (laid A fl fr 236 fp fc b 2 0 A.told fr.a1 180)->(∀b∈aV fp,b∈aV A.fp\/h.size<=b)->aM (L++({A with fs:=fl++[fr]}:MA).bl) h h'->K aE h'):Cl 191 [bf fr.b] h K:=by
 refine F191.spec ?_;simp only[aL,LX,Ma];have d:fr.b∉L:=D _ bP;refine M.top (f':={fr with fn:=236}) (by decide) rfl rfl rfl λh1 M1 O1=> ?_;have S1:=H.only O1 (λb hb hm=>by simp only[LZ]at hb;subst hb;exact d hm);obtain⟨q0,q1,q3,q4,q5,-⟩:=a9 M1.ftop;refine aQ q0 (aQ q0 ?_);rw[aT];simp only[aL,LX,Ma];refine aH (bI M1.own).2.2.1 ⟨ah,ah,aH (n:=(fr.a1:Int)) q4 ?_⟩;refine fB (op:=2) (mask:=0) (a2:=0) (A:={A with fs:=fl++[{fr with fn:=236}]}) M1 (by simp;omega) λh9 g9 fp fc c M9 O9 a=>aQ rfl ?_;obtain⟨b,rfl,e⟩:=c;have z1:=O1.size;obtain⟨S9,O⟩:=il 236 D S1 O1 O9;exact hP h9 b fp fc ah S9 M9 (λx hx=>(a x hx).imp id λh=>ah) O
def IA{h:aI}{A:MA}{fl:List Fk}{fr:Fk}(H:bT h s L (XL n room fo gg N off))(M:bG h s {A with fs:=fl++[fr]})(D: ∀b∈({A with fs:=fl++[fr]}:MA).bl,b∉L)(hl:fl.length<900000)
  (hP: ∀h' b fp fc,h.size<=b->bT h' s L (XL n room fo gg N off)->bG h' s (laid A fl fr 280 fp fc b 6 (170%2^n) A.told 0 136)->(∀b∈aV fp,b∈aV A.fp\/h.size<=b)->aM (L++({A with fs:=fl++[fr]}:MA).bl) h h'->K aE h'):Cl 236 [bf fr.b] h K:=by
 refine F236.spec ?_;simp only[aL,LX,Ma];have a:fr.b∉L:=D _ bP;refine M.top (f':={fr with fn:=280}) (by decide) rfl rfl rfl λh1 M1 O1=> ?_;have S1:=H.only O1 (λb hb hm=>by simp only[LZ]at hb;subst hb;exact a hm);refine aQ (a9 M1.ftop).1 ?_;rw[aT];simp only[aL,LX,Ma];refine aH (bI M1.own).2.2.1 ?_;refine qX (k:=170) (fr:={fr with fn:=280}) S1 M1 hl (.inr rfl) λh2 b fp fc hb M2 own O2=>⟨rfl,?_⟩;have z1:=O1.size;obtain⟨S9,O⟩:=il 280 D S1 O1 O2;exact hP h2 b fp fc ah S9 M2 (λx hx=>(own x hx).imp id λh=>ah) O
def Bj{A:MA}{fl:List Fk}{fr:Fk}(M:bG h s {A with fs:=fl++[fr]})(hl:fl.length<900000)
  (hK: ∀h' fp,bG h' s {A with fp:=fp,fs:=fl,told:=A.told,done:=fl.isEmpty}->aV fp=aV A.fp->aM [A.m] h h'->K aE h'):Cl 280 [bf fr.b] h K:=by
 refine F280.spec ?_;simp only[aL,LX,Ma];refine aQ (a9 M.ftop).1 (aQ (a9 M.ftop).1 ?_);rw[aT];simp only[aL,LX,Ma];refine aH (bI M.own).2.2.1 ?_;exact gH M ah λh2 fp M2 e2 O2=>⟨rfl,hK h2 fp M2 e2 O2⟩
def cu(n:Nat)(fo gg:Nat->Nat):Prop:=(∀v,v<n->gg v<n/\fo (gg v)=v)/\ ∀l,l<n->fo l<n/\gg (fo l)=l
def mS(n:Nat):cu n (fill n) (fill n):=by
 refine⟨λv hv=> ?_,λv hv=> ?_⟩<;>
 ·have:fill n v=v:=L4 hv;rw[this,this];exact⟨hv,rfl⟩
def mW(H:cX n N)(ha:isN N a)(hl:l<=lvl n N a)(hn:l<n):l+1<=lvl n N (ch n N l side a):=(fZ H ha hl hn).2
def zQ{f:Fk}(h:f.fn=180):eF n N f=4*2^(n-mlv n N f)-3/\dZ n N f=2^(n-mlv n N f)-1:=by unfold eF dZ;rw[L4 h,L4 h];exact⟨rfl,rfl⟩
def E7{f:Fk}(h:f.fn=225):eF n N f=4*2^(n-(f.level+1))-1/\dZ n N f=2^(n-(f.level+1)):=by unfold eF dZ;simp only[h];exact⟨rfl,rfl⟩
def EN{f:Fk}(h:f.fn=273):eF n N f=1/\dZ n N f=1:=by unfold eF dZ;simp only[h];exact⟨rfl,rfl⟩
def vR{f:Fk}(h:f.fn=136):eF n N f=qS n (n-lvl n N f.a0)/\dZ n N f=qB n (n-lvl n N f.a0):=by unfold eF dZ;simp only[h];exact⟨rfl,rfl⟩
def EX{f:Fk}(h:f.fn=184):eF n N f=qS n (n-lvl n N f.a0-1)+bJ n+3/\dZ n N f=qB n (n-lvl n N f.a0-1)+bN n+1:=by unfold eF dZ;simp only[h];exact⟨rfl,rfl⟩
def FJ{f:Fk}(h:f.fn=232):eF n N f=bJ n+2/\dZ n N f=bN n+1:=by unfold eF dZ;simp only[h];exact⟨rfl,rfl⟩
def JG{f:Fk}(h:f.fn=278):eF n N f=1/\dZ n N f=0:=by unfold eF dZ;simp only[h];exact⟨rfl,rfl⟩
def CQ{f:Fk}(h:f.fn=137):eF n N f=cS n (n-lvl n N f.a0)/\dZ n N f=cB n (n-lvl n N f.a0):=by unfold eF dZ;simp only[h];exact⟨rfl,rfl⟩
def FC{f:Fk}(h:f.fn=188):eF n N f=cS n (n-lvl n N f.a0-1)+bJ n+3/\dZ n N f=cB n (n-lvl n N f.a0-1)+bN n+1:=by unfold eF dZ;simp only[h];exact⟨rfl,rfl⟩
def Fy{f:Fk}(h:f.fn=233):eF n N f=bJ n+2/\dZ n N f=bN n+1:=by unfold eF dZ;simp only[h];exact⟨rfl,rfl⟩
def Fb{f:Fk}(h:f.fn=279):eF n N f=bJ n+1/\dZ n N f=bN n+1:=by unfold eF dZ;simp only[h];exact⟨rfl,rfl⟩
def zn{f:Fk}(h:f.fn=192):eF n N f=tS n (n-lvl n N f.a0)/\dZ n N f=qB n (n-lvl n N f.a0):=by unfold eF dZ;simp only[h];exact⟨rfl,rfl⟩
def E4{f:Fk}(h:f.fn=237):eF n N f=tS n (n-lvl n N f.a0-1)+bJ n+2/\dZ n N f=qB n (n-lvl n N f.a0-1)+bN n+1:=by unfold eF dZ;simp only[h];exact⟨rfl,rfl⟩
def FG{f:Fk}(h:f.fn=281):eF n N f=bJ n+1/\dZ n N f=bN n+1:=by unfold eF dZ;simp only[h];exact⟨rfl,rfl⟩
def EY{f:Fk}(h:f.fn=138):eF n N f=bJ n+qS n n+tS n n+3/\dZ n N f=bN n+qB n n+qB n n:=by unfold eF dZ;simp only[h];exact⟨rfl,rfl⟩
def Fz{f:Fk}(h:f.fn=190):eF n N f=qS n n+tS n n+2/\dZ n N f=qB n n+qB n n:=by unfold eF dZ;simp only[h];exact⟨rfl,rfl⟩
def ET{f:Fk}(h:f.fn=234):eF n N f=tS n n+1/\dZ n N f=qB n n:=by unfold eF dZ;simp only[h];exact⟨rfl,rfl⟩
def FH{f:Fk}(h:f.fn=139):eF n N f=tS n n+bJ n+qS n n+4/\dZ n N f=bN n+qB n n+qB n n:=by unfold eF dZ;simp only[h];exact⟨rfl,rfl⟩
def FA{f:Fk}(h:f.fn=191):eF n N f=bJ n+qS n n+3/\dZ n N f=bN n+qB n n:=by unfold eF dZ;simp only[h];exact⟨rfl,rfl⟩
def Fj{f:Fk}(h:f.fn=236):eF n N f=qS n n+2/\dZ n N f=qB n n:=by unfold eF dZ;simp only[h];exact⟨rfl,rfl⟩
def HX{f:Fk}(h:f.fn=280):eF n N f=1/\dZ n N f=0:=by unfold eF dZ;simp only[h];exact⟨rfl,rfl⟩
def oG(h:k<=j):2^k<=2^j:=NZ (by decide) h
def kS{f:Fk}(h:f.fn=180):eF n N f<=bJ n/\dZ n N f<=bN n:=by rw[(zQ h).1,(zQ h).2];unfold bJ bN;have:=oG (show n-mlv n N f<=n by omega);omega
def Ei(n:Nat)(fo:Nat->Nat)(N N':ay)(A A':MA):Prop:=
 (A'.done=false/\A'.e=0/\A'.fs≠[]/\gc n fo N' A'.fs A'.told/\gO n N' A'.fs+1<=gO n N A.fs/\bi N'+iA n N' A'.fs<=bi N+iA n N A.fs)\/
 (A'.done=true/\A'.e=0/\A'.fs=[]/\isN N' A'.told/\bi N'<=bi N+iA n N A.fs)\/
 (A'.done=true/\A'.e=60/\A'.fs=[]/\N'=N)
def Ah: ∀n,n<=8->n%2=0-> ∀v,v<n->v^^^1<n:=by decide
def Aw(po:cu n fo gg)(n8:n<=8)(h2:n%2=0):FI n fo gg:=λl hl=>by have f1:=(po.2 l hl).1;have x1:=Ah n n8 h2 _ f1;have g1:=po.1 _ x1;exact⟨ah,x1,g1.1,g1.2⟩
def Dd{A:MA}{fl:List Fk}(ok:cX n N)(b:cX n N')(E:Ex N N')(R:gc n fo N (fl++[fr]) A.told)(hr:uL n fo N' fr r)(he:A.e=0)(hc:bi N'<=bi N+dZ n N fr):
  Ei n fo N N' {A with fs:=fl++[fr]} {A with fp:=fp,fs:=fl,told:=r,done:=fl.isEmpty}:=by
 by_cases hz:fl=[]
 ·subst hz;refine .inr (.inl ⟨rfl,he,rfl,hr.is,?_⟩);show bi N'<=bi N+iA n N ([]++[fr]);rw[iP];omega
 ·have me:=sQ (fs:=fl) ok E λf hf=>R.frs f (by simp[hf]);refine .inl ⟨?_,he,hz,(R.ext ok E).pop b hr,?_,?_⟩
  ·show fl.isEmpty=false;cases fl with
   |nil=>exact Mw rfl hz
   |cons a l=>rfl
  ·show gO n N' fl+1<=gO n N (fl++[fr]);rw[jQ,me.1];have:=wK (n:=n) (N:=N) (f:=fr);omega
  ·show bi N'+iA n N' fl<=bi N+iA n N (fl++[fr]);rw[iP,me.2];omega
def gc.push(R:gc n fo N (fl++[fr]) r)(F:dp n fo N fr')(a: ∀g0,dJ n fo N g0 fr->dJ n fo N g0 fr')(W:dp n fo N g)(hl:dJ n fo N fr' g)(hg:fD g):gc n fo N (fl++[fr']++[g]) r:=by
 refine⟨λf hf=> ?_,λi x f h1 h2=> ?_,λc x e=> .inl ?_,R.tld⟩
 ·simp only[List.mem_append,LZ]at hf;rcases hf with(hf|hf)|hf
  ·exact R.frs f (by simp[hf])
  ·rw[hf];exact F
  ·rw[hf];exact W
 ·have l2:=(Ml.1 h2).1;simp only[Mv,MP]at l2;by_cases hi:i+1<fl.length
  ·rw[Ns,Mo ah]at h1;rw[Ns,Mo hi]at h2;exact R.lnk i x f (by rw[Mo ah];exact h1) (by rw[Mo hi];exact h2)
  ·by_cases hi2:i+1=fl.length
   ·rw[Ns,Mo ah]at h1
    have e:f=fr':=by rw[Ns,MK ah,hi2]at h2;simp at h2;exact h2.symm
    rw[e];exact a x (R.lnk i x fr (by rw[Mo ah];exact h1) (by rw[hi2];simp))
   ·have b:i=fl.length:=ah;subst b
    have e1:x=fr':=by rw[Ns,MK (Mb _)]at h1;simp at h1;exact h1.symm
    have e2:f=g:=by rw[Ns,MK ah]at h2;simp at h2;exact h2.symm
    rw[e1,e2];exact hl
 ·have:=(List.append_inj' e rfl).2;have:x=g:=by simpa using this.symm
  rw[this];exact hg
def CL{A:MA}(R:gc n fo N (fl++[fr]) A.told)(he:A.e=0)(hd:A.done=false)(F:dp n fo N fr')(a: ∀g0,dJ n fo N g0 fr->dJ n fo N g0 fr')(W:dp n fo N g)(hl:dJ n fo N fr' g)(hg:fD g)
  (h1:eF n N fr'+eF n N g+1<=eF n N fr) (h2:dZ n N fr'+dZ n N g<=dZ n N fr):Ei n fo N N {A with fs:=fl++[fr]} {A with fp:=fp,fc:=fc,fs:=fl++[fr']++[g]}:=by
 refine .inl ⟨hd,he,ak,R.push F a W hl hg,?_,?_⟩
 ·show gO n N (fl++[fr']++[g])+1<=gO n N (fl++[fr]);rw[jQ,jQ,jQ];omega
 ·show bi N+iA n N (fl++[fr']++[g])<=bi N+iA n N (fl++[fr]);rw[iP,iP,iP];omega
def BP{A:MA}(ok:cX n N)(E:Ex N N')(R:gc n fo N (fl++[fr]) A.told)(he:A.e=0)(hd:A.done=false)(F:dp n fo N' fr')(a: ∀g0,dJ n fo N' g0 fr->dJ n fo N' g0 fr')(ht:fD fr'\/eH n fo N' fr' A.told)
  (h1:eF n N' fr'+1<=eF n N fr) (h2:bi N'+dZ n N' fr'<=bi N+dZ n N fr):Ei n fo N N' {A with fs:=fl++[fr]} {A with fs:=fl++[fr']}:=by
 have me:=sQ (fs:=fl) ok E λf hf=>R.frs f (by simp[hf]);refine .inl ⟨hd,he,ak,(R.ext ok E).turn F a ht,?_,?_⟩
 ·show gO n N' (fl++[fr'])+1<=gO n N (fl++[fr]);rw[jQ,jQ,me.1];omega
 ·show bi N'+iA n N' (fl++[fr'])<=bi N+iA n N (fl++[fr]);rw[iP,iP,me.2];omega
def Lg{fr:Fk}(h:fr.fn≠180/\fr.fn≠225/\fr.fn≠273/\fr.fn≠136/\fr.fn≠184/\fr.fn≠232/\fr.fn≠278): ¬tj fr/\ ¬nW fr:=by unfold tj nW;omega
def kQ(h: ¬tj fr/\ ¬nW fr)(hr:isN N r):uL n fo N fr r:=⟨hr,λz=>Mw z h.1,λz=>Mw z h.2⟩
def vl{fr:Fk}(h:fr.fn≠225/\fr.fn≠273/\fr.fn≠184/\fr.fn≠232/\fr.fn≠278)(hr:isN N r):eH n fo N fr r:=
 ⟨hr,λz=>Mw z h.1,λz=>Mw z h.2.1,λz=>Mw z h.2.2.1,λz=>Mw z h.2.2.2.1,λz=>Mw z h.2.2.2.2⟩
def IE:bR X 136=some cH.go:=by kernel_rfl
def JP:bR X 184=some cH.go:=by kernel_rfl
def IY:bR X 232=some cH.go:=by kernel_rfl
def Jj:bR X 278=some cH.go:=by kernel_rfl
def JU:bR X 137=some cH.go:=by kernel_rfl
def JJ:bR X 188=some cH.go:=by kernel_rfl
def IK:bR X 233=some cH.go:=by kernel_rfl
def Jo:bR X 279=some cH.go:=by kernel_rfl
structure yB(h:aI)(s n room:Nat)(fo gg:Nat->Nat)(off:Bool)(N:ay)(A:MA)(fl:List Fk)(fr:Fk)(K:KK)(L:List Nat):Prop where
 pop: ∀{h' L' N' fp r},Ex N N'->bT h' s L' (XL n room fo gg N' off)->bG h' s {A with fp:=fp,fs:=fl,told:=r,done:=fl.isEmpty}->aV fp=aV A.fp->aM (L++({A with fs:=fl++[fr]}:MA).bl) h h'->bC L L' h->uL n fo N' fr r->bi N'<=bi N+dZ n N fr->K aE h'
 lay: ∀{h' b fp fc fr' g},fr'.b=fr.b->g.b=b->h.size<=b->bT h' s L (XL n room fo gg N off)->bG h' s {A with fp:=fp,fc:=fc,fs:=fl++[fr']++[g]}->(∀b∈aV fp,b∈aV A.fp\/h.size<=b)->aM (L++({A with fs:=fl++[fr]}:MA).bl) h h'->
  dp n fo N fr'->(∀g0,dJ n fo N g0 fr->dJ n fo N g0 fr')->dp n fo N g->dJ n fo N fr' g->fD g->eF n N fr'+eF n N g+1<=eF n N fr->dZ n N fr'+dZ n N g<=dZ n N fr->K aE h'
 turn: ∀{h' L' N' fr'},fr'.b=fr.b->Ex N N'->bT h' s L' (XL n room fo gg N' off)->bG h' s {A with fs:=fl++[fr']}->aM (L++({A with fs:=fl++[fr]}:MA).bl) h h'->bC L L' h->
  dp n fo N' fr'->(∀g0,dJ n fo N' g0 fr->dJ n fo N' g0 fr')->(fD fr'\/eH n fo N' fr' A.told)->eF n N' fr'+1<=eF n N fr->bi N'+dZ n N' fr'<=bi N+dZ n N fr->K aE h'
 full: ∀{h' L'},bT h' s L' (XL n room fo gg N off)->bG h' s {A with fp:=none,fc:=0,fs:=[],done:=true,e:=60}->aM (L++({A with fs:=fl++[fr]}:MA).bl) h h'->bC L L' h->K aE h'
def yk{A:MA}{fl:List Fk}{fr:Fk}(H:bT h s L (XL n room fo gg N off))(M:bG h s {A with fs:=fl++[fr]})(D: ∀b∈({A with fs:=fl++[fr]}:MA).bl,b∉L)(hl:fl.length<900000)(F:dp n fo N fr)(hj:tj fr)(ht:fD fr\/eH n fo N fr A.told)(E:yB h s n room fo gg off N A fl fr K L):dS Tryz.prog X (iY fr.fn fr.b) [] h K:=by
 have ok:=H.ok;dsimp only[XL]at ok;obtain⟨a0,a1,a2,al⟩:=F.nn;have j:isN N 0:= .inl ah;rcases hj with e|e|e
 ·have jop:=F.jop e;have nq: ∀{z:Fk},z.fn=225\/z.fn=273\/z.fn=180-> ¬nW z:=λhz hq=>by unfold nW at hq;omega
  unfold iY;rw[e];refine bj Kb (Bb H M D hl jop a0 a1 a2 (λh' fp r OR S' M' ep O=> ?_) λh' l b fp fc el c hb S' M' g O=> ?_)
  ·exact E.pop (Ex.refl _) S' M' ep O (bC.refl _ _) ⟨OR.is,λ_=>OR,λz=>Mw z (nq (.inr (.inr e)))⟩ ah
  ·have em:mlv n N fr=l:=by unfold mlv;exact el.symm
   have k0:l<=lvl n N fr.a0:=ah;have k1:l<=lvl n N fr.a1:=ah;have k2:l<=lvl n N fr.a2:=ah;have d0:=fZ (side:=false) ok.1 a0 k0 c;have d1:=fZ (side:=false) ok.1 a1 k1 c;have d2:=fZ (side:=false) ok.1 a2 k2 c
   have mg:l+1<=mlv n N ⟨b,fr.op,0,ch n N l false fr.a0,ch n N l false fr.a1,ch n N l false fr.a2,0,0,180⟩:=by unfold mlv;have:=d0.2;have:=d1.2;have:=d2.2;dsimp only;omega
   have m1:=zQ (n:=n) (N:=N) e;have m2:eF n N {fr with level:=l,fn:=225}=4*2^(n-(l+1))-1/\dZ n N {fr with level:=l,fn:=225}=2^(n-(l+1)):=E7 rfl;have m3:=zQ (n:=n) (N:=N) (f:=⟨b,fr.op,0,ch n N l false fr.a0,ch n N l false fr.a1,ch n N l false fr.a2,0,0,180⟩) rfl;have p1:2^(n-l)=2*2^(n-(l+1)):=by rw[show n-l=(n-(l+1))+1 by omega,NY];omega
   have p2:=oG (show n-mlv n N ⟨b,fr.op,0,ch n N l false fr.a0,ch n N l false fr.a1,ch n N l false fr.a2,0,0,180⟩<=n-(l+1) by omega);have p3:=jw (n-(l+1));have p4:=jw (n-mlv n N ⟨b,fr.op,0,ch n N l false fr.a0,ch n N l false fr.a1,ch n N l false fr.a2,0,0,180⟩);rw[em]at m1
   refine E.lay (fr':={fr with level:=l,fn:=225}) (g:=⟨b,fr.op,0,ch n N l false fr.a0,ch n N l false fr.a1,ch n N l false fr.a2,0,0,180⟩) rfl rfl hb S' M' g O ⟨⟨a0,a1,a2,al⟩,.inl ⟨jop,.inr ⟨.inl rfl,em.symm,c⟩,λz=>(by cases z)⟩⟩ (λg0 q=>q.same (λ_=> .inr (.inl rfl)) (λz=>Mw z (nq (.inr (.inr e)))) ⟨rfl,rfl,rfl,rfl,rfl⟩)
    ⟨⟨d0.1,d1.1,d2.1,j⟩,.inl ⟨jop,.inl rfl,λz=>(by cases z)⟩⟩ ⟨λ_=>⟨.inl rfl,rfl,rfl,rfl,rfl⟩,λz=>(by cases z),λz=>(by cases z),λz=>(by cases z),λz=>(by cases z)⟩ (.inl rfl) ah ah
 ·obtain⟨jop,lm,l1,l2,l3,l4⟩:=F.lev (.inl e);have W:eH n fo N fr A.told:=ht.resolve_left λz=>by unfold fD at z;omega
  have nq: ∀{z:Fk},z.fn=225\/z.fn=273\/z.fn=180-> ¬nW z:=λhz hq=>by unfold nW at hq;omega
  unfold iY;rw[e];refine bj Ij (rW H M D hl a0 a1 a2 λh' b fp fc hb S' M' g O=> ?_);have d0:=fZ (side:=true) ok.1 a0 l2 l1;have d1:=fZ (side:=true) ok.1 a1 l3 l1;have d2:=fZ (side:=true) ok.1 a2 l4 l1
  have mg:fr.level+1<=mlv n N ⟨b,fr.op,0,ch n N fr.level true fr.a0,ch n N fr.level true fr.a1,ch n N fr.level true fr.a2,0,0,180⟩:=by unfold mlv;have:=d0.2;have:=d1.2;have:=d2.2;dsimp only;omega
  have m1:=E7 (n:=n) (N:=N) e;have m2:=EN (n:=n) (N:=N) (f:={fr with low:=A.told,fn:=273}) rfl;have m3:=zQ (n:=n) (N:=N) (f:=⟨b,fr.op,0,ch n N fr.level true fr.a0,ch n N fr.level true fr.a1,ch n N fr.level true fr.a2,0,0,180⟩) rfl;have p2:=oG (show n-mlv n N ⟨b,fr.op,0,ch n N fr.level true fr.a0,ch n N fr.level true fr.a1,ch n N fr.level true fr.a2,0,0,180⟩<=n-(fr.level+1) by omega);have p4:=jw (n-mlv n N ⟨b,fr.op,0,ch n N fr.level true fr.a0,ch n N fr.level true fr.a1,ch n N fr.level true fr.a2,0,0,180⟩)
  refine E.lay (fr':={fr with low:=A.told,fn:=273}) (g:=⟨b,fr.op,0,ch n N fr.level true fr.a0,ch n N fr.level true fr.a1,ch n N fr.level true fr.a2,0,0,180⟩) rfl rfl hb S' M' g O ⟨⟨a0,a1,a2,W.is⟩,.inl ⟨jop,.inr ⟨.inr rfl,lm,l1⟩,λ_=>W.lo e⟩⟩ (λg0 q=>q.same (λ_=> .inr (.inr rfl)) (λz=>Mw z (nq (.inl e))) ⟨rfl,rfl,rfl,rfl,rfl⟩)
   ⟨⟨d0.1,d1.1,d2.1,j⟩,.inl ⟨jop,.inl rfl,λz=>(by cases z)⟩⟩ ⟨λz=>(by cases z),λ_=>⟨.inl rfl,rfl,rfl,rfl,rfl⟩,λz=>(by cases z),λz=>(by cases z),λz=>(by cases z)⟩ (.inl rfl) ah ah
 ·obtain⟨jop,lm,l1,l2,l3,l4⟩:=F.lev (.inr e);have W0:eH n fo N fr A.told:=ht.resolve_left λz=>by unfold fD at z;omega
  have nq: ¬nW fr:=λhq=>by unfold nW at hq;omega
  have W:=W0.hi e;have V:=F.jlow e;unfold iY;rw[e];have i:fr.level<lvl n N fr.low:=V.lv (fr.level+1) (mW ok.1 a0 l2 l1) (mW ok.1 a1 l3 l1) (mW ok.1 a2 l4 l1);have k:fr.level<lvl n N A.told:=W.lv (fr.level+1) (mW ok.1 a0 l2 l1) (mW ok.1 a1 l3 l1) (mW ok.1 a2 l4 l1);have f1:dZ n N fr=1:=(EN e).2;refine bj Ir (sa H M D hl jop a0 a1 a2 l1 V.is W.is i k (λN' r E Rk d=> ?_) (λh' L' N' fp r Rk OR S' M' ep O g=> ?_) λh' L' hf S' M' O g=>E.full S' M' O g)
  ·obtain⟨m1,m2,m3,m4⟩:=gh (f:=fo) ok.1 d V.is W.is i Rk;refine⟨m2,λk' k1 k2 k3=> ?_,λx=> ?_⟩
   ·rw[m1.lvl a0]at k1;rw[m1.lvl a1]at k2;rw[m1.lvl a2]at k3
    have:k'<=fr.level:=by rw[lm];unfold mlv;have:=lvl_le ok.1 a0;omega
    omega
   ·rw[m4 x,m1.sm ok.1 a0,m1.sm ok.1 a1,m1.sm ok.1 a2,rP ok.1 a0 l1,rP (a:=fr.a1) ok.1 a1 l1,rP (a:=fr.a2) ok.1 a2 l1,V.sm,W.sm];split<;>rfl
  ·have E1:Ex N N':=by
    have d:=S'.ok.1;dsimp only[XL]at d;exact(gh (f:=fo) ok.1 d V.is W.is i Rk).1
   exact E.pop E1 S' M' ep O g ⟨OR.is,λ_=>OR,λz=>Mw z nq⟩ (by rw[f1];exact wj Rk)
def wI{A:MA}{fl:List Fk}{fr:Fk}(H:bT h s L (XL n room fo gg N off))(M:bG h s {A with fs:=fl++[fr]})(D: ∀b∈({A with fs:=fl++[fr]}:MA).bl,b∉L)(hl:fl.length<900000)(F:dp n fo N fr)(po:cu n fo gg)(hq:nW fr)(ht:fD fr\/eH n fo N fr A.told)(E:yB h s n room fo gg off N A fl fr K L):dS Tryz.prog X (iY fr.fn fr.b) [] h K:=by
 have ok:=H.ok;dsimp only[XL]at ok;have n8:=ok.2.2.1;obtain⟨a0,a1,a2,al⟩:=F.nn;obtain⟨qo,qm,q2,qv⟩:=F.qu hq;have a:isN N 0:= .inl ah;have nj: ¬tj fr:=λz=>by unfold tj at z;unfold nW at hq;omega
 rcases hq with e|e|e|e
 ·unfold iY;rw[e];refine bj IE (AG H M D hl qo qm a0 (λh' fp r R S' M' ep O=> ?_) λh2 h' b fp fc hb S' M' g O=> ?_)
  ·exact E.pop (Ex.refl _) S' M' ep O (bC.refl _ _) ⟨R.is,λz=>Mw z nj,λ_=>R⟩ ah
  ·obtain⟨h3,h4,h5,h6,h7⟩:=lh ok.1 a0 h2;have m1:=vR (n:=n) (N:=N) e;have m2:eF n N {fr with level:=lvl n N fr.a0,fn:=184}=qS n (n-lvl n N fr.a0-1)+bJ n+3/\dZ n N {fr with level:=lvl n N fr.a0,fn:=184}=qB n (n-lvl n N fr.a0-1)+bN n+1:=EX rfl;have m3:=vR (n:=n) (N:=N) (f:=⟨b,fr.op,fr.mask,low N fr.a0,fr.a1,0,0,0,136⟩) rfl;have mo:=eN (n:=n) (show n-lvl n N (low N fr.a0)<=n-lvl n N fr.a0-1 by omega);obtain⟨k,ek⟩: ∃k,n-lvl n N fr.a0=k+1:=⟨n-lvl n N fr.a0-1,ah⟩;have e1:qS n (k+1)=2*qS n k+bJ n+4:=rfl;have e2:qB n (k+1)=2*qB n k+bN n+1:=rfl;have i:n-lvl n N fr.a0-1=k:=ah;rw[ek]at m1;rw[i]at m2;rw[i]at mo
   refine E.lay (fr':={fr with level:=lvl n N fr.a0,fn:=184}) (g:=⟨b,fr.op,fr.mask,low N fr.a0,fr.a1,0,0,0,136⟩) rfl rfl hb S' M' g O ⟨⟨a0,a1,a2,al⟩,.inr (.inl ⟨qo,qm,.inr ⟨h2,rfl,.inl rfl⟩⟩)⟩ (λg0 q=>q.same (λz=>Mw z nj) (λ_=> .inr (.inl rfl)) ⟨rfl,rfl,rfl,rfl,rfl⟩)
    ⟨⟨h4,a1,a,a⟩,.inr (.inl ⟨qo,qm,.inl rfl⟩)⟩ ⟨λz=>(by cases z),λz=>(by cases z),λ_=>⟨.inl rfl,rfl,rfl,rfl⟩,λz=>(by cases z),λz=>(by cases z)⟩ (.inr (.inl rfl)) ?_ ?_
   ·rw[m1.1,m2.1,m3.1];show _+qS n (n-lvl n N (low N fr.a0))+1<=_;omega
   ·rw[m1.2,m2.2,m3.2];show _+qB n (n-lvl n N (low N fr.a0))<=_;omega
 ·have W:eH n fo N fr A.told:=ht.resolve_left λz=>by unfold fD at z;omega
  obtain⟨h2,lv⟩:=q2 ah;obtain⟨h3,h4,h5,h6,h7⟩:=lh ok.1 a0 h2;unfold iY;rw[e];refine bj JP (Ee H M D hl a0 λh' b fp fc hb M' g O=> ?_);have m1:=EX (n:=n) (N:=N) e;have m2:=FJ (n:=n) (N:=N) (f:={fr with low:=A.told,fn:=232}) rfl;have m3:=vR (n:=n) (N:=N) (f:=⟨b,fr.op,fr.mask,high N fr.a0,fr.a1,0,0,0,136⟩) rfl;have mo:=eN (n:=n) (show n-lvl n N (high N fr.a0)<=n-lvl n N fr.a0-1 by omega)
  refine E.lay (fr':={fr with low:=A.told,fn:=232}) (g:=⟨b,fr.op,fr.mask,high N fr.a0,fr.a1,0,0,0,136⟩) rfl rfl hb (H.only O λb hb hm=>D b hb hm) M' g (O.mono λb hb _=>Zp (.inr hb)) ⟨⟨a0,a1,a2,W.is⟩,.inr (.inl ⟨qo,qm,.inr ⟨h2,lv,.inr (.inl ⟨rfl,W.ql e⟩)⟩⟩)⟩ (λg0 q=>q.same (λz=>Mw z nj) (λ_=> .inr (.inr (.inl rfl))) ⟨rfl,rfl,rfl,rfl,rfl⟩)
   ⟨⟨h5,a1,a,a⟩,.inr (.inl ⟨qo,qm,.inl rfl⟩)⟩ ⟨λz=>(by cases z),λz=>(by cases z),λz=>(by cases z),λ_=>⟨.inl rfl,rfl,rfl,rfl⟩,λz=>(by cases z)⟩ (.inr (.inl rfl)) ?_ ?_
  ·rw[m1.1,m2.1,m3.1];show _+qS n (n-lvl n N (high N fr.a0))+1<=_;omega
  ·rw[m1.2,m2.2,m3.2];show _+qB n (n-lvl n N (high N fr.a0))<=_;omega
 ·have W:eH n fo N fr A.told:=ht.resolve_left λz=>by unfold fD at z;omega
  obtain⟨h2,lv⟩:=q2 ah;obtain⟨h3,h4,h5,h6,h7⟩:=lh ok.1 a0 h2;have V:=qv e;have Wq:=W.qh e;have v1:=V.lv;have w1:=Wq.lv;have m1:=FJ (n:=n) (N:=N) e;unfold iY;rw[e];refine bj IY (Cg H M D hl qm ah (by have:=(po.2 fr.level ah).1;omega) (λhb h' b fp fc l S' M' g O=> ?_) λhb h' Q O1 S1 M1 q1 j=> ?_)
  ·have m2:=JG (n:=n) (N:=N) (f:={fr with fn:=278}) rfl;have m3:=kS (n:=n) (N:=N) (f:=⟨b,if fr.op=7 then 2 else 3,0,fr.low,A.told,0,0,0,180⟩) rfl;rw[lv]at hb
   refine E.lay (fr':={fr with fn:=278}) (g:=⟨b,if fr.op=7 then 2 else 3,0,fr.low,A.told,0,0,0,180⟩) rfl rfl l S' M' g O ⟨⟨a0,a1,a2,al⟩,.inr (.inl ⟨qo,qm,.inr ⟨h2,lv,.inr (.inr rfl)⟩⟩)⟩ (λg0 q=>q.same (λz=>Mw z nj) (λ_=> .inr (.inr (.inr rfl))) ⟨rfl,rfl,rfl,rfl,rfl⟩)
    ⟨⟨al,W.is,a,a⟩,.inl ⟨by show fV (if fr.op=7 then 2 else 3);unfold fV;split<;>omega,.inl rfl,λz=>(by cases z)⟩⟩ ⟨λz=>(by cases z),λz=>(by cases z),λz=>(by cases z),λz=>(by cases z),λ_=>⟨.inl rfl,rfl,rfl,V,Wq,hb⟩⟩ (.inl rfl) ah ah
  ·have D1: ∀b∈({A with fs:=fl++[fr]}:MA).bl,b∉L:=D;rw[lv]at hb;refine EW S1 M1 D1 ah V.is Wq.is ah ah (λc L' N' r Rk E2 S2 M2 O2 g2=>q1 c r ?_) λc L' r hf S2 M2 O2 g2=>j c r ?_
   ·have d:=S2.ok;dsimp only[XL]at d;rw[lv]at Rk;have R:=Jm ok.1 d.1 a0 h2 V Wq hb Rk
    have D2: ∀b∈({A with fs:=fl++[fr]}:MA).bl,b∉L':=λb hb hm=>by
     rcases g2 b hm with z|z
     ·exact D b hb z
     ·have:=M1.lt b hb;omega
    refine q9 S2 M2 D2 hl qo qm (E2.isN a0) R λo fp S3 M3 ep O3=>⟨rfl,?_⟩;have z1:=O1.size;refine E.pop E2 S3 M3 ep (((O1.mono ak).trans O2 λb hb _=>Zp (.inl hb)).trans O3 λb hb m=> ?_) (λb hb=>(g2 b hb).imp id λz=>ah) ⟨R.is,λz=>Mw z nj,λ_=>R⟩ (by have:=wj Rk;omega);rcases Zq hb with z|z
    ·rcases g2 b z with z|z
     ·exact Zp (.inl z)
     ·omega
    ·exact Zp (.inr z)
   ·have z1:=O1.size;exact E.full S2 M2 ((O1.mono ak).trans O2 λb hb _=>hb) (λb hb=>(g2 b hb).imp id λz=>ah)
 ·have W:eH n fo N fr A.told:=ht.resolve_left λz=>by unfold fD at z;omega
  have R:=W.qt e;unfold iY;rw[e];refine bj Jj (zR M (q9 H M D hl qo qm a0 R λh' fp S' M' ep O=>⟨rfl,?_⟩));exact E.pop (Ex.refl _) S' M' ep O (bC.refl _ _) ⟨R.is,λz=>Mw z nj,λ_=>R⟩ ah
end Go.Proofs.YtnofenejoebkhaaGreat.Ev
