/- PART 3 OF WHAT THE LAW EngineFull STANDS ON: StoB5, StoC5, SemA5, RetF5, NodL5, NodM5, NodN5, NodO5, SrtA, RefF5, SrtF5, IterE5, SrtB5, SrtB6, SrtP5, SrtC5, SrtD5, SrtE5, SrtG5. Conditions: none but those that each lemma states. -/
import Derived.Test.YtnofenejoebkhaaGreatG2
namespace Go.Proofs.YtnofenejoebkhaaGreat.Ev
open Go
set_option linter.defProp false
section
set_option maxRecDepth 100000 in
def yk{h:aA}{n room:Nat}{Q:Int->Int->Prop}{K:KK}(h1:1<=n)(h8:n<=8)(r1:1<=room)(r2:room<=32768)
  (hK: ∀h' s L,cG h' s L ⟨n,room,fill n,fill n,[],Q,false⟩->aF [] h h'->(∀b∈L,h.size<=b)->K (.tuple #[ag (ah s),ac 0]) h'):
  Cl 61 [ac (n:Int),ac (room:Int)] h K:=by
 refine F61.spec ?_;rw[decide_eq_false Y,aD,decide_eq_false Y,aD,decide_eq_false Y,aD,decide_eq_false Y,aD];unfold F61.wk5;simp only[aE,Nat.zero_add];refine y9 h1 h8 λob k1 Or g1 O1=>aJ rfl ?_;have lo:ob<k1.size:=At.lt Or;refine aM λk2 A2 O2 z2=> ?_;refine lK (k:=256) Y Y (aB rfl ?_);rw[show(3*256:Int)=((768:Nat):Int)from rfl];refine lT λcm cmc k3 M3 O3 g2 g3=>aJ rfl ?_;rw[ik Y]at M3;have l1:=M3.head.lt;have l2:=M3.body.lt;refine qE (base:=0) (n:=256) M3 Y Y Z Z λcac k4 C4 O4 g4=>⟨_,_,rfl,?_⟩;have l3:=At.lt C4;have A4:=(A2.only O3 Z).only O4 Z;refine aK A4 Z rfl λk5 A5 O5 z5=> ?_;have hB: ∃B:SB,B=⟨ob,0,0,0,0,cac,cm,cmc,none,0,none,0⟩:=⟨_,rfl⟩;obtain⟨B,eB⟩:=hB
 have H5:BN k5 k1.size n room B (fill n) (fill n) [] [] Q:=by
  subst eB;refine⟨(((Or.only O2 Z).only O3 Z).only O4 Z).only O5 (by simp;omega),ct.nil _ _ _,kR.nil _ _,⟨List.replicate 768 0,0,0,⟨C4.only O5 (by simp;omega),(M3.only O4 Z Z).only O5 (by simp;omega) (by simp;omega),by have:=M3.head.lt;show cac≠cm;omega,by show cac≠cmc;omega,by omega,by omega,by simp,by simp⟩,?_⟩,⟨h1,h8⟩,⟨Z,r2,Z⟩,?_⟩
  ·intro l hl
   have: ∀j,(List.replicate 768 (0:Int)).getD j 0=0:=λj=>by rw[List.getD_eq_getElem?_getD,List.getElem?_replicate];split<;>rfl
   rw[this];exact⟨Y,Y,Y,λe=>Y⟩
  ·have:=M3.ne;simp[SB.bm,aR];omega
 have:=oS (T:=32) (bp:=none) (bc:=0) (bl:=[]) (K:=λv h'=>(v=ax/\K (.tuple #[(ag (ah k1.size)),(ac (0:Int))]) h')) (show At k5 k1.size (qG room B 0 0 false (.pointer none) (.map none)) by subst eB;exact A5) H5 (λi hi=>absurd hi Z) (λa e=>by cases e) Z (by rw[dl];simp[nd]) (by rw[dl];simp[nd]) ⟨0,rfl⟩ (by rw[dl];simp[aT]) Y λtb m mc sb k6 H6 T6 _ p1 p2 p3 p4 O6=>⟨rfl,?_⟩
 ·exact this
 rw[dl]at T6;have OO:aF [] h k6:=((((((O1.trans O2 Z).trans O3 Z).trans O4 Z).trans O5 (by intro b hb hl;simp at hb;have:=O1.size;omega)).trans O6 (by intro b hb hl;simp at hb;have:=O1.size;omega)));have z1:=O1.size;have z3:=O3.size;have z4:=O4.size;refine hK k6 k1.size _ ⟨_,[],rfl,H6,T6,⟨by simp[nd],by simp[nd]⟩,by simp[aT],Z⟩ OO λb hb=> ?_;subst eB;simp[SB.bm,SB.bt,SB.tabs,aR]at hb;omega
section
variable {h h':aA}{s:Nat}{L S:List Nat}{X:SX}{K:KK}
def nH(H:cG h s L X)(hK: ∀c h',cB h' c X.n X.f X.g->h.size<=c->aF [] h h'->K (ag (ah c)) h'):Cl 47 [ag (ah s)] h K:=by obtain⟨B,F,e,H⟩:=H;refine F47.spec ?_;simp only[aE,Nat.zero_add];refine aJ (by rw[At.rd H.m.S];rfl) ?_;exact wn H.m.O λc h' a b d=>aJ rfl (hK c h' a b d)
end
end
section
def qP(op mask a b c:Nat):Nat:=op*2^56+(mask*2^48+(a*2^32+(b*2^16+c)))
def xu{op mask a b c op' mask' a' b' c':Nat}(h2:mask<2^8)(h3:a<2^16)(h4:b<2^16)(h5:c<2^16)(g2:mask'<2^8)(g3:a'<2^16)(g4:b'<2^16)(g5:c'<2^16)(e:qP op mask a b c=qP op' mask' a' b' c'):
  op=op'/\mask=mask'/\a=a'/\b=b'/\c=c':=by
 unfold qP at e;omega
def tD{h:aA}{op mask a b c:Nat}{K:KK}(h1:op<2^8)(h2:mask<2^8)(h3:a<2^16)(h4:b<2^16)(h5:c<2^16)(hK:K (af ((qP op mask a b c:Nat):Int)) h):
  Cl 228 [.int .u8 (op:Int),.int .u8 (mask:Int),ae (a:Int),ae (b:Int),ae (c:Int)] h K:=by
 refine F228.spec ?_;have U: ∀{x:Nat},x<2^64->IntKind.wrap .u64 (x:Int)=(x:Int):=λh=>kI (by unfold eU;omega)
 have e1:IntKind.wrap .u64 ((IntKind.wrap .u64 (op:Int))*2^(min (Int.toNat (56:Int)) (IntKind.bits .u64)))=((op<<<56:Nat):Int):=by rw[U Y,show min (Int.toNat (56:Int)) (IntKind.bits .u64)=56 by rfl,show(op:Int)*2^56=((op*2^56:Nat):Int) by omega,U Y,Nat.shiftLeft_eq]
 have e2:IntKind.wrap .u64 ((IntKind.wrap .u64 (mask:Int))*2^(min (Int.toNat (48:Int)) (IntKind.bits .u64)))=((mask<<<48:Nat):Int):=by rw[U Y,show min (Int.toNat (48:Int)) (IntKind.bits .u64)=48 by rfl,show(mask:Int)*2^48=((mask*2^48:Nat):Int) by omega,U Y,Nat.shiftLeft_eq]
 have e3:IntKind.wrap .u64 ((IntKind.wrap .u64 (a:Int))*2^(min (Int.toNat (32:Int)) (IntKind.bits .u64)))=((a<<<32:Nat):Int):=by rw[U Y,show min (Int.toNat (32:Int)) (IntKind.bits .u64)=32 by rfl,show(a:Int)*2^32=((a*2^32:Nat):Int) by omega,U Y,Nat.shiftLeft_eq]
 have e4:IntKind.wrap .u64 ((IntKind.wrap .u64 (b:Int))*2^(min (Int.toNat (16:Int)) (IntKind.bits .u64)))=((b<<<16:Nat):Int):=by rw[U Y,show min (Int.toNat (16:Int)) (IntKind.bits .u64)=16 by rfl,show(b:Int)*2^16=((b*2^16:Nat):Int) by omega,U Y,Nat.shiftLeft_eq]
 refine⟨Y,Y,Y,Y,?_⟩;rw[e1,e2,e3,e4,U Y];have s1:op<<<56<eU:=by rw[Nat.shiftLeft_eq];unfold eU;omega
 have s2:mask<<<48<eU:=by rw[Nat.shiftLeft_eq];unfold eU;omega
 have s3:a<<<32<eU:=by rw[Nat.shiftLeft_eq];unfold eU;omega
 have s4:b<<<16<eU:=by rw[Nat.shiftLeft_eq];unfold eU;omega
 have s5:c<eU:=by unfold eU;omega
 rw[zZ s1 s2,zZ (kD s1 s2) s3,zZ (kD (kD s1 s2) s3) s4,zZ (kD (kD (kD s1 s2) s3) s4) s5,Nat.or_assoc,Nat.or_assoc,Nat.or_assoc,<-Nat.shiftLeft_add_eq_or_of_lt h5,
  <-Nat.shiftLeft_add_eq_or_of_lt (b:=b<<<16+c) (by rw[Nat.shiftLeft_eq];omega),<-Nat.shiftLeft_add_eq_or_of_lt (b:=a<<<32+(b<<<16+c)) (by rw[Nat.shiftLeft_eq,Nat.shiftLeft_eq];omega),
  <-Nat.shiftLeft_add_eq_or_of_lt (b:=mask<<<48+(a<<<32+(b<<<16+c))) (by rw[Nat.shiftLeft_eq,Nat.shiftLeft_eq,Nat.shiftLeft_eq];omega)]
 rw[Nat.shiftLeft_eq,Nat.shiftLeft_eq,Nat.shiftLeft_eq,Nat.shiftLeft_eq];exact hK
def jL.get{Q:Int->Int->Prop}{cs:List Int}{key v:Int}(S:jL Q cs)(G:sS (dy 0 256 key) key cs v true):Q key v:=by
 rcases G with⟨-,h1,h2,h3⟩|⟨h,-⟩
 ·have hl:=eH key (n:=256) Y;obtain⟨a,b,c,d⟩:=S (ft key 256) hl;unfold dy at h1 h2 h3;rw[Nat.zero_add]at h1 h2 h3;rw[uF a b]at h1;rw[<-h2,h3];exact d h1
 ·cases h
def jL.put{Q:Int->Int->Prop}{cs cs':List Int}{key v:Int}(S:jL Q cs)(G:sN (dy 0 256 key) key v cs cs')(hq:Q key v):jL Q cs':=by
 obtain⟨h1,h2,h3⟩:=G;have hl:=eH key (n:=256) Y;unfold dy at h2 h3;generalize ft key 256=y at hl h2 h3;rw[Nat.zero_add]at h2 h3;rcases h3 with⟨h4,h5,h6,h7⟩|⟨-,h4⟩
 ·intro l hl';by_cases e:l=y
  ·subst e;obtain⟨a,b,c,d⟩:=S l hl';rw[AV a b]at h5;rw[h5,h6,h7];have w:=kb (4*(cs.getD (3*l) 0/4)+2+cs.getD (3*l) 0%2+4);rw[w];refine⟨Y,Y,Y,λ_=>hq⟩
  ·rw[h2 (3*l) Y Y Y,h2 (3*l+1) Y Y Y,h2 (3*l+2) Y Y Y];exact S l hl'
 ·subst h4;exact S
def zV:bW X 229=some cJ.go:=by kernel_rfl
section
variable {h:aA}{s:Nat}{L S:List Nat}{X:SX}{K:KK}
def qF{c m mc f:Nat}{cs:List Int}{ops fails:Int}{key:Int}(W:CW h c m mc 0 256 cs ops fails)(H:fq h f m (Bc 0 256 key))(d1:f≠c)(d2:f≠m)(d3:f≠mc)
  (hK: ∀h' ops' fails' v ok,sS (dy 0 256 key) key cs v ok->CW h' c m mc 0 256 cs ops' fails'->aF [f,m,mc] h h'->K (.tuple #[ae (IntKind.wrap .u32 v),aw ok]) h'):
  F182.wk5 (some (ah f)) (.func (.func 229) #[ag (ah f)] #[]) h K:=by
 unfold F182.wk5
 have main: ∀(d:Nat) (A:Ac) (h1:aA) (ops1 fails1:Int),9-A.ph<=d->A.ph<=8->yr cs A->A.pos=dy 0 256 key->A.key=key->fq h1 f m A->CW h1 c m mc 0 256 cs ops1 fails1->aF [f,m,mc] h h1->
   F182.wL5 (d+1) (some (ah f)) (.func (.func 229) #[ag (ah f)] #[]) h1 K:=by
  intro d
  induction d with
  |zero=>intro A h1 ops1 fails1 hg hp;omega
  |succ d ih=>
   intro A h1 ops1 fails1 hg hph G hp hk H1 W1 O1;rw[F182.sL5];refine bz zV ?_;refine qR W1 H1 (by rw[hp];exact W1.pos key) hph d1 d2 d3 λh2 ops2 fails2 H2 W2 O2=>aQ rfl ?_;obtain⟨s1,s2,s3,s4⟩:=G.step;rw[s1]at W2;have O12:=O1.trans O2 λb hb _=>hb;rcases s4 with⟨e,r⟩|⟨G',e⟩
   ·rw[e,Bool.not_true,aD];unfold F182.wk6;refine xG H2 ⟨_,_,rfl,?_⟩;rw[hp,hk]at r;exact hK h2 ops2 fails2 _ _ r W2 O12
   ·rw[G'.1,Bool.not_false,aG]
    have hp8:(bB cs A).1.ph<=8:=by rcases G'.2.2 with e'|⟨e',_⟩|⟨e',_⟩|⟨e',_⟩<;>omega
    exact ih _ h2 ops2 fails2 Y hp8 G' (s2.trans hp) (s3.trans hk) H2 W2 O12
 exact⟨_,main 5 (Bc 0 256 key) h ops fails (by show 9-5<=5;omega) (by show 5<=8;omega) ⟨rfl,rfl,Or.inl rfl⟩ rfl rfl H W (aF.refl _ _)⟩
def uH{c m mc f:Nat}{cs:List Int}{ops fails:Int}{key val:Int}(W:CW h c m mc 0 256 cs ops fails)(H:fq h f m (BA 0 256 key val))(d1:f≠c)(d2:f≠m)(d3:f≠mc)
  (hK: ∀h' ops' fails' cs',sN (dy 0 256 key) key val cs cs'->CW h' c m mc 0 256 cs' ops' fails'->aF [f,m,mc] h h'->K ax h'):
  F207.wk3 (.func (.func 229) #[ag (ah f)] #[]) h K:=by
 unfold F207.wk3
 have main: ∀(d:Nat) (A:Ac) (cs1:List Int) (h1:aA) (ops1 fails1:Int),5-A.ph<=d->A.ph<=4->ta cs cs1 A->A.pos=dy 0 256 key->A.key=key->A.val=val->fq h1 f m A->CW h1 c m mc 0 256 cs1 ops1 fails1->aF [f,m,mc] h h1->
   F207.wL3 (d+1) (.func (.func 229) #[ag (ah f)] #[]) h1 K:=by
  intro d
  induction d with
  |zero=>intro A cs1 h1 ops1 fails1 hg hp;omega
  |succ d ih=>
   intro A cs1 h1 ops1 fails1 hg hph G hp hk hv H1 W1 O1;rw[F207.sL3];refine bz zV ?_;refine qR W1 H1 (by rw[hp];exact W1.pos key) Y d1 d2 d3 λh2 ops2 fails2 H2 W2 O2=>aQ rfl ?_;obtain⟨s2,s3,s3',s4⟩:=G.step (by rw[hp];exact W.pos key);have O12:=O1.trans O2 λb hb _=>hb;rcases s4 with⟨e,eo,r⟩|⟨G',e⟩
   ·rw[e,Bool.not_true,aD];rw[hp,hk,hv]at r;exact hK h2 ops2 fails2 _ r W2 O12
   ·rw[G'.1,Bool.not_false,aG]
    have hp4:(bB cs1 A).1.ph<=4:=by rcases G'.2.2 with⟨e',_⟩|⟨_,_,⟨e',_⟩|⟨e',_⟩|⟨e',_⟩|⟨e',_⟩⟩<;>omega
    exact ih _ _ h2 ops2 fails2 Y hp4 G' (s2.trans hp) (s3.trans hk) (s3'.trans hv) H2 W2 O12
 exact⟨_,main 5 (BA 0 256 key val) cs h ops fails (by show 5-0<=5;omega) (Nat.zero_le _) ⟨rfl,rfl,Or.inl ⟨rfl,rfl⟩⟩ rfl rfl rfl H W (aF.refl _ _)⟩
def qm{B:SB}{F:List Nat}{h':aA}(H:mW h s X.n X.room B X.f X.g X.N F X.Q X.off)(O:aF [B.cm,B.cmc] h h')(C:nY h' B X.Q):mW h' s X.n X.room B X.f X.g X.N F X.Q X.off:=by
 have sp:=H.m.sep;have ts:=H.t.sep
 have n1: ∀b,b∈[s,B.ob]++aR B.p++aR B.fp->b∉[B.cm,B.cmc]:=λb hb hm=>by
  unfold SB.bm at sp;simp only[List.nodup_append,List.mem_append,ne_eq,List.nodup_cons,List.mem_cons,List.not_mem_nil,or_false,not_or]at sp;obtain⟨⟨g1,_,g2⟩,_,g4⟩:=sp;have hc:b=s\/b=B.ob\/b=B.cac\/b=B.cm\/b=B.cmc:=by simp at hm;omega
  simp only[List.mem_append,List.mem_cons,List.not_mem_nil,or_false]at hb hm;rcases hb with(hb|hb)|hb
  ·omega
  ·exact g2 b hc b hb rfl
  ·exact g4 b (.inl hc) b hb rfl
 refine⟨⟨H.m.S.only O (n1 _ Z),H.m.O.only O (n1 _ Z),H.m.own.only O λb hb=>n1 _ (by simp[hb,aR]),H.m.fre.only O λb hb=>n1 _ (by simp[hb]),C,H.m.n8,H.m.len,H.m.sep⟩,H.t.only O λb hb hm=>ts b hm (by simp[SB.bm]at hb ⊢;omega),H.ok,H.cnt,H.fre⟩
def q9(H:cG h s L X){op mask a b c:Nat}(h1:op<2^8)(h2:mask<2^8)(h3:a<2^16)(h4:b<2^16)(h5:c<2^16)
  (hN: ∀h',cG h' s L X->aF L h h'->K (.tuple #[ae 0,aq]) h') (hY: ∀h' v,X.Q (qP op mask a b c:Nat) v->cG h' s L X->aF L h h'->K (.tuple #[ae (IntKind.wrap .u32 v),au]) h'):
  Cl 182 [ag (ah s),.int .u8 (op:Int),.int .u8 (mask:Int),ae (a:Int),ae (b:Int),ae (c:Int)] h K:=by
 have H0:=H;obtain⟨B,F,e,H⟩:=H;obtain⟨cs,o,f',W,S⟩:=H.m.cac;refine F182.spec _ _ _ _ _ _ h K ?_;simp only[aE,Nat.zero_add];refine aQ (n:=X.off) (by rw[At.rd H.m.S];rfl) (aH (λ_=>hN h H0 (aF.refl _ _)) λ_=> ?_);have rc:rd h ⟨s,6,none⟩=some (ag (ah B.cac)):=by rw[At.rd H.m.S];rfl
 refine aJ rc (tD h1 h2 h3 h4 h5 (aB rfl ⟨trivial,trivial,trivial,aJ rc ⟨rfl,?_⟩⟩));refine u7 W.cac Y Y Y λf k1 A1 O1 g1=>aJ rfl ?_;have wl:=W.lt;refine qF (W.only O1 Z Z Z) A1 Y Y Y λh' ops' fails' v ok G W' O'=> ?_;have OO:aF [B.cm,B.cmc] h h':=((aF.refl [B.cm,B.cmc] h).trans O1 Z).trans O' (by intro x hx hl;simp at hx ⊢;omega);have S':cG h' s L X:=⟨B,F,e,qm H OO ⟨cs,ops',fails',W',S⟩⟩
 have OL:aF L h h':=OO.mono λx hx _=>by subst e;simp[SB.bm]at hx ⊢;omega
 cases ok with
 |true=>exact hY h' v (S.get G) S' OL
 |false=>
  rcases G with⟨g,-⟩|⟨-,g,-⟩
  ·cases g
  ·subst g;exact hN h' S' OL
def vv(H:cG h s L X){op mask a b c r:Nat}(h1:op<2^8)(h2:mask<2^8)(h3:a<2^16)(h4:b<2^16)(h5:c<2^16)(h6:r<2^32)(hq:X.Q (qP op mask a b c:Nat) (r:Int))
  (hK: ∀h',cG h' s L X->aF L h h'->K ax h'):
  Cl 207 [ag (ah s),.int .u8 (op:Int),.int .u8 (mask:Int),ae (a:Int),ae (b:Int),ae (c:Int),ae (r:Int)] h K:=by
 have H0:=H;obtain⟨B,F,e,H⟩:=H;obtain⟨cs,o,f',W,S⟩:=H.m.cac;refine F207.spec _ _ _ _ _ _ _ h K ?_;simp only[aE,Nat.zero_add];refine aQ (n:=X.off) (by rw[At.rd H.m.S];rfl) (aH (λ_=>hK h H0 (aF.refl _ _)) λ_=> ?_);have rc:rd h ⟨s,6,none⟩=some (ag (ah B.cac)):=by rw[At.rd H.m.S];rfl
 refine aJ rc (tD h1 h2 h3 h4 h5 (aB rfl ⟨trivial,trivial,trivial,aJ rc ⟨rfl,by trivial,by trivial,?_⟩⟩));rw[kI (a:=r) (by unfold eU;omega)];refine vl W.cac Y Y Y λf k1 A1 O1 g1=>aJ rfl ?_;have wl:=W.lt;refine uH (W.only O1 Z Z Z) A1 Y Y Y λh' ops' fails' cs' G W' O'=> ?_;have OO:aF [B.cm,B.cmc] h h':=((aF.refl [B.cm,B.cmc] h).trans O1 Z).trans O' (by intro x hx hl;simp at hx ⊢;omega);have S':cG h' s L X:=⟨B,F,e,qm H OO ⟨cs',ops',fails',W',S.put G hq⟩⟩
 have OL:aF L h h':=OO.mono λx hx _=>by subst e;simp[SB.bm]at hx ⊢;omega
 exact hK h' S' OL
end
end
section
def sem(f:Nat->Nat)(N:aj):Nat->Nat->Nat->Bool
 |0,a,_=>a==1
 |d+1,a,x=>if a<2 then a==1 else if x.testBit (f (lvl 0 N a))then sem f N d (high N a) x else sem f N d (low N a) x
def sm(n:Nat)(f:Nat->Nat)(N:aj)(a x:Nat):Bool:=sem f N n a x
def ym{n m:Nat}{N:aj}{a:Nat}(h:2<=a):lvl n N a=lvl m N a:=by unfold lvl;rw[if_neg Y,if_neg Y]
section
variable {n:Nat}{f:Nat->Nat}{N N':aj}{a b x:Nat}
def ey.at(H:ey n N)(ha:isN N a)(h2:2<=a):lvl n N a<n/\isN N (low N a)/\isN N (high N a)/\low N a≠high N a/\lvl n N a<lvl n N (low N a)/\lvl n N a<lvl n N (high N a):=by
 rcases ha with h|⟨x,h⟩
 ·omega
 ·have:=H.node _ x h;have e1:lvl n N a=x.1:=by unfold lvl;rw[if_neg Y,h]
  have e2:low N a=x.2.1:=by unfold low;rw[if_neg Y,h]
  have e3:high N a=x.2.2:=by unfold high;rw[if_neg Y,h]
  rw[e1,e2,e3];exact this
def rX(H:ey n N)(ha:isN N a):lvl n N a<=n:=by
 by_cases h2:a<2
 ·unfold lvl;rw[if_pos h2];exact Nat.le_refl _
 ·have:=(H.at ha Y).1;omega
def pY(H:ey n N): ∀(d e:Nat) {a:Nat},isN N a->n-lvl n N a<=d->n-lvl n N a<=e->sem f N d a x=sem f N e a x:=by
 intro d
 induction d with
 |zero=>
  intro e a ha hd he
  have h2:a<2:=by apply Classical.byContradiction;intro hn;have:=(H.at ha Y).1;omega
  cases e with
  |zero=>rfl
  |succ e=>unfold sem;rw[if_pos h2]
 |succ d ih=>
  intro e a ha hd he;cases e with
  |zero=>
   have h2:a<2:=by apply Classical.byContradiction;intro hn;have:=(H.at ha Y).1;omega
   unfold sem;rw[if_pos h2]
  |succ e=>
   unfold sem;by_cases h2:a<2
   ·rw[if_pos h2,if_pos h2]
   ·rw[if_neg h2,if_neg h2];obtain⟨h3,h4,h5,-,h6,h7⟩:=H.at ha Y;split
    ·exact ih e h5 Y Y
    ·exact ih e h4 Y Y
def bH(h:a<2):sm n f N a x=(a==1):=by
 unfold sm;cases n with
 |zero=>rfl
 |succ n=>unfold sem;rw[if_pos h]
def lr(H:ey n N)(ha:isN N a)(h2:2<=a):sm n f N a x=if x.testBit (f (lvl n N a))then sm n f N (high N a) x else sm n f N (low N a) x:=by
 obtain⟨h3,h4,h5,-,h6,h7⟩:=H.at ha h2;unfold sm;cases n with
 |zero=>omega
 |succ n=>
  conv=>lhs;unfold sem
  rw[if_neg Y,ym (n:=0) (m:=n+1) h2,pY H n (n+1) h4 Y Y,pY H n (n+1) h5 Y Y]
def Ex(N N':aj):Prop:= ∀i x,nd N i=some x->nd N' i=some x
def Ex.refl(N:aj):Ex N N:=λ_ _ h=>h
def Ex.trans{N'':aj}(h:Ex N N')(g:Ex N' N''):Ex N N'':=λi x e=>g i x (h i x e)
def iY.ext{q:Nat}{x:Nd}(P:iY N N' q x):Ex N N':=λ_ _ h=>P.old h
def Ex.isN(E:Ex N N')(h:Ev.isN N a):Ev.isN N' a:=h.imp id λ⟨x,h⟩=>⟨x,E _ x h⟩
def Ex.lvl(E:Ex N N')(h:Ev.isN N a):lvl n N' a=lvl n N a:=by
 unfold Ev.lvl;rcases h with h|⟨x,h⟩
 ·rw[if_pos h,if_pos h]
 ·rw[E _ x h,h]
def Ex.low(E:Ex N N')(h:Ev.isN N a):low N' a=low N a:=by
 unfold Ev.low;rcases h with h|⟨x,h⟩
 ·rw[if_pos h,if_pos h]
 ·rw[E _ x h,h]
def Ex.high(E:Ex N N')(h:Ev.isN N a):high N' a=high N a:=by
 unfold Ev.high;rcases h with h|⟨x,h⟩
 ·rw[if_pos h,if_pos h]
 ·rw[E _ x h,h]
def Ex.sem(H:ey n N)(E:Ex N N'): ∀(d:Nat) {a:Nat},Ev.isN N a->Ev.sem f N' d a x=Ev.sem f N d a x:=by
 intro d
 induction d with
 |zero=>intro a _;rfl
 |succ d ih=>
  intro a ha;unfold Ev.sem;by_cases h2:a<2
  ·rw[if_pos h2,if_pos h2]
  ·obtain⟨h3,h4,h5,-,h6,h7⟩:=H.at ha Y;rw[if_neg h2,if_neg h2,E.lvl ha,E.low ha,E.high ha,ih h4,ih h5]
def Ex.sm(H:ey n N)(E:Ex N N')(ha:Ev.isN N a):sm n f N' a x=sm n f N a x:=E.sem H n ha
def ju{room l r:Nat}(H:ey n N)(H':ey n N')(ha:isN N a)(hb:isN N b)(la:l<lvl n N a)(R:gU room N l a b N' r 0):
  Ex N N'/\isN N' r/\l<=lvl n N' r/\ ∀x,sm n f N' r x=if x.testBit (f l)then sm n f N b x else sm n f N a x:=by
 rcases R with⟨h1,h2,-,h4⟩|⟨h1,i,h2,h3,-,h4⟩|⟨-,-,-,-,h,-⟩|⟨h1,-,-,-,q,h3,P⟩
 ·subst h1 h2 h4;exact⟨Ex.refl _,ha,Y,λx=>Z⟩
 ·subst h3 h4;have hr:isN N' (i+2):= .inr ⟨_,h2⟩;have e1:lvl n N' (i+2)=l:=by unfold lvl;rw[if_neg Y,show i+2-2=i by omega,h2]
  have e2:low N' (i+2)=a:=by unfold low;rw[if_neg Y,show i+2-2=i by omega,h2]
  have e3:high N' (i+2)=b:=by unfold high;rw[if_neg Y,show i+2-2=i by omega,h2]
  refine⟨Ex.refl _,hr,Y,λx=> ?_⟩;rw[lr H hr Y,e1,e2,e3]
 ·omega
 ·subst h3;have E:=P.ext;have hn:nd N' q=some (l,a,b):=by rw[P.get,if_pos rfl]
  have hr:isN N' (q+2):= .inr ⟨_,hn⟩;have e1:lvl n N' (q+2)=l:=by unfold lvl;rw[if_neg Y,show q+2-2=q by omega,hn]
  have e2:low N' (q+2)=a:=by unfold low;rw[if_neg Y,show q+2-2=q by omega,hn]
  have e3:high N' (q+2)=b:=by unfold high;rw[if_neg Y,show q+2-2=q by omega,hn]
  refine⟨E,hr,Y,λx=> ?_⟩;rw[lr H' hr Y,e1,e2,e3,E.sm H ha,E.sm H hb]
end
def oN{o:Option Nd}{N:aj}{i:Nat}:nd (o::N) (i+1)=nd N i:=by simp[nd]
end
section
variable {i j k l m n o p q r s t:Int}{a b c d:Addr}{u v:Nat}{x y:ak}{h:aA}{K:KK}
def F268.T:bf:=⟨[(3,[0,1,5,14,15,16]),(12,[0,5])],[]⟩
section
variable (n:Nat)(f:Addr)(i:Option Nat)(j:Int)(c:ak)(b d:Nat)(g a:Int)(h:aA)(K:KK)
def F268.wk12:Prop:=bi (rd h (f.add 6)) λa=>Cl 113 [ap a] h λa b=>a=ax/\bi (rd b (f.add 4)) λa=>Cl 200 [ap a] b λa b=>aI .i64 (some a) λa=>Cl 111 [ag f,ac (if a>32 then a else 32),.slice none 0 0] b λa b=>a=ax/\K (ac j) b
def F268.wL3:Prop:=Lp Tryz.f268 F268.T [1,1,0,1,0] n [(0,(ag f)),(1,(.map i)),(5,(ac j)),(14,(.slice c b d)),(15,(ac g)),(16,(ac a))] h K
def F268.sL3:F268.wL3 (n+1) f i j c b d g a h K=(aC (a<g) (aN c λe=>0<=a/\a<(b:Int)/\bA (rd h ((e.add (a.toNat*4)).add 0)) λk=>aI .i64 (rd h ((e.add (a.toNat*4)).add 1)) λl=>aI .u32 (rd h ((e.add (a.toNat*4)).add 2)) λm=>aI .u32 (rd h ((e.add (a.toNat*4)).add 3)) λe=>aZ h (.cells #[aq,ac 0,ae 0,ae 0] 195) λo p=>aP p ((ah o).add 0) (aw k) λk=>aP k ((ah o).add 1) (ac l) λk=>aP k ((ah o).add 2) (ae m) λk=>aP k ((ah o).add 3) (ae e) λe=>dW e i .u32 .u32 (IntKind.wrap .u32 (ai (a+2))) λk=>qW (some (lS (.agg #[]) k)) λl=>aZ e (.cells #[] 218) λe m=>ff Tryz.prog 218 (some (ah e)) l m λe=>bA (rd e ((ah o).add 0)) λl=>aC l (aC (!(Option.isSome k)) (cW (rd e (f.add 2)) λk l _=>aN k λk=>0<=a/\a<(l:Int)/\aP e ((k.add (a.toNat*4)).add 0) aq λe=>aP e ((k.add (a.toNat*4)).add 1) (ac 0) λe=>aP e ((k.add (a.toNat*4)).add 2) (ae 0) λe=>aP e ((k.add (a.toNat*4)).add 3) (ae 0) λe=>cW (rd e (f.add 3)) λk l m=>aZ e (.cells #[ae (IntKind.wrap .u32 (ai (a+2)))] 46) λe o=>fA o 46 1 4 #[ae 0] k l m (some (ah e)) 1 λe k l m=>aP m ((f.add 3).add 0) (.slice e k l) λe=>F268.wL3 n f i (ai (j+1)) c b d g (ai (a+1)) e K) (F268.wL3 n f i j c b d g (ai (a+1)) e K)) (F268.wL3 n f i j c b d g (ai (a+1)) e K)) (F268.wk12 f j h K)):=by kernel_rfl
def F268.wk3:Prop:=(∃e,F268.wL3 e f i j c b d g a h K)
def F268.spec(H:cW (rd h (f.add 2)) λa b c=>F268.wk3 f i 0 a b c (b:Int) 0 h K):Cl 268 [ag f,.map i] h K:=cT F268.T Tryz.func268 H
end
def F267.T:bf:=⟨[(3,[0,1,6,14,15,16]),(9,[0,1,6]),(10,[0,6,9]),(15,[0,6,9,10])],[]⟩
section
variable (n:Nat)(f:Addr)(j:ak)(g i:Nat)(l:Option Nat)(d:ak)(b c:Nat)(q:ak)(o s:Nat)(t r:Int)(h:aA)(K:KK)
def F267.wk15(bk10:Addr->(Option Nat)->(ak)->Nat->Nat->aA->Prop)(f:Addr)(l:Option Nat)(d:ak)(b c:Nat)(u:Int)(h:aA)(K:KK):Prop:=qv h l .u32 .u32 u (.agg #[]) λa=>Cl 72 [ag f,ae u] a λa e=>aI .u32 (some a) λa=>Cl 73 [ag f,ae u] e λe g=>aI .u32 (some e) λe=>aZ g (.cells #[ae a,ae e] 46) λa e=>fA e 46 1 4 #[ae 0] d b c (some (ah a)) 2 λa b c d=>bk10 f l a b c d
def F267.wL10:Prop:=Lp Tryz.f267 F267.T [1,1,1,1,0,0] n [(0,(ag f)),(6,(.map l)),(9,(.slice d b c))] h K
def F267.sL10:F267.wL10 (n+1) f l d b c h K=(aC ((b:Int)>(0:Int)) (aN d λa=>0<=(ai ((b:Int)-(1:Int)))/\(ai ((b:Int)-(1:Int)))<(b:Int)/\aI .u32 (rd h (a.add ((ai ((b:Int)-(1:Int))).toNat*1))) λa=>0<=(ai ((b:Int)-(1:Int)))/\(ai ((b:Int)-(1:Int)))<=(c:Int)/\dW h l .u32 .u32 a λe=>qW (some (lS (.agg #[]) e)) λg=>aZ h (.cells #[] 218) λi j=>ff Tryz.prog 218 (some (ah i)) g j λg=>aC (Option.isSome e) (F267.wL10 n f l (if c=0 then d else Option.map (λa=>Addr.add a (0*1)) d) ((ai ((b:Int)-(1:Int))).toNat-0) (c-0) g K) (aC (a<=1) (F267.wL10 n f l (if c=0 then d else Option.map (λa=>Addr.add a (0*1)) d) ((ai ((b:Int)-(1:Int))).toNat-0) (c-0) g K) (F267.wk15 (λa b c d e f=>F267.wL10 n a b c d e f K) f l (if c=0 then d else Option.map (λa=>Addr.add a (0*1)) d) ((ai ((b:Int)-(1:Int))).toNat-0) (c-0) a g K))) (K (.tuple #[.map l,ac 0]) h)):=by kernel_rfl
def F267.wk10:Prop:=(∃a,F267.wL10 a f l d b c h K)
def F267.wk9:Prop:=Cl 299 [.slice j g i] h λa b=>cW (some a) λa c d=>F267.wk10 f l a c d b K
def F267.wL3:Prop:=Lp Tryz.f267 F267.T [1,1,0,1,0] n [(0,(ag f)),(1,(.slice j g i)),(6,(.map l)),(14,(.slice q o s)),(15,(ac t)),(16,(ac r))] h K
def F267.sL3:F267.wL3 (n+1) f j g i l q o s t r h K=(aC (r<t) (aN q λa=>0<=r/\r<(o:Int)/\aI .u32 (rd h (a.add (r.toNat*1))) λa=>Cl 74 [ag f,ae a] h λa b=>bA (some a) λa=>aC (!a) False (F267.wL3 n f j g i l q o s t (ai (r+1)) b K)) (F267.wk9 f j g i l h K)):=by kernel_rfl
def F267.wk3:Prop:=(∃a,F267.wL3 a f j g i l q o s t r h K)
def F267.spec(H:aZ h (.map #[] 0) λa b=>F267.wk3 f j g i (some a) j g i (g:Int) 0 b K):Cl 267 [ag f,.slice j g i] h K:=cT F267.T Tryz.func267 H
end
def F218.spec(H:Cl 267 [ag a,.slice x u v] h λb c=> ∃d:Option Nat,∃e:Int,b=(.tuple #[.map d,ac e])/\aC (e !=0) (K (.tuple #[ac 0,ac e]) c) (Cl 268 [ag a,.map d] c λa b=>aI .i64 (some a) λa=>K (.tuple #[ac a,ac 0]) b)):Cl 218 [ag a,.slice x u v] h K:=cN Tryz.func218 H
def F175.spec(H:Cl 213 [ag b] h λb c=>cW (some b) λb d e=>Cl 218 [ag a,.slice b d e] c λa b=> ∃c:Int,∃d:Int,a=(.tuple #[ac c,ac d])/\K (.tuple #[ac c,ac d]) b):Cl 175 [ag a,ag b] h K:=cN Tryz.func175 H
def F113.T:bf:=⟨[(1,[0,8,9])],[]⟩
section
variable (n:Nat)(a:Addr)(c b:Int)(h:aA)(K:KK)
def F113.wL1:Prop:=Lp Tryz.f113 F113.T [1,0] n [(0,(ag a)),(8,(ac c)),(9,(ac b))] h K
def F113.sL1:F113.wL1 (n+1) a c b h K=(aC (b<c) (aI .i64 (rd h (a.add 1)) λd=>bi (rd h (a.add 0)) λe=>Cl 162 [ap e,ac (ai (d+(ai (3*b))))] h λe f=>aI .u64 (some e) λe=>aC ((aY .and .u64 e 1)==0) (aC (e !=0) (bi (rd f (a.add 0)) λg=>Cl 163 [ap g,ac (ai (d+(ai (3*b)))),af e,af (IntKind.wrap .u64 ((aY .andNot .u64 e 2)+4))] f λd e=>bA (some d) λ_=>F113.wL1 n a c (ai (b+1)) e K) (F113.wL1 n a c (ai (b+1)) f K)) (F113.wL1 n a c (ai (b+1)) f K)) (K ax h)):=by kernel_rfl
def F113.wk1:Prop:=(∃d,F113.wL1 d a c b h K)
def F113.spec(H:aI .i64 (rd h (a.add 2)) λb=>F113.wk1 a b 0 h K):Cl 113 [ag a] h K:=cT F113.T Tryz.func113 H
end
def F299.spec(H:aC (Option.isNone x) (K (.slice none 0 0) h) (aZ h (.cells #[] 46) λa b=>fA b 46 1 4 #[ae 0] (some (ah a)) 0 0 x u λa b c d=>K (.slice a b c) d)):Cl 299 [.slice x u v] h K:=cN Tryz.func299 H
end
section
section
variable {h:aA}{c m mc base n:Nat}{cs:List Int}{ops fails:Int}{K:KK}
def vX(W:CW h c m mc base n cs ops fails)(hb:base<100000)(hv: ∀l,l<n->0<=cs.getD (base+3*l) 0/\cs.getD (base+3*l) 0<18446744073709551616/\cs.getD (base+3*l) 0%2=0)
  (hK: ∀h' ops' fails' cs',(∀l,l<n->0<=cs'.getD (base+3*l) 0/\cs'.getD (base+3*l) 0<18446744073709551616/\cs'.getD (base+3*l) 0%4=0)->CW h' c m mc base n cs' ops' fails'->aF [m,mc] h h'->K ax h'):
  Cl 113 [ag (ah c)] h K:=by
 apply F113.spec;simp only[aE,Nat.zero_add];refine aB (n:=(n:Int)) (by rw[At.rd W.cac];rfl) ?_;unfold F113.wk1;have hn2:=W.hn2
 have: ∀(g i:Nat) (h1:aA) (cs1:List Int) (ops1 fails1:Int),n-i<g->i<=n->(∀l,l<i->0<=cs1.getD (base+3*l) 0/\cs1.getD (base+3*l) 0<18446744073709551616/\cs1.getD (base+3*l) 0%4=0)->
   (∀l,i<=l->l<n->cs1.getD (base+3*l) 0=cs.getD (base+3*l) 0)->CW h1 c m mc base n cs1 ops1 fails1->aF [m,mc] h h1->F113.wL1 g (ah c) (n:Int) (i:Int) h1 K:=by
  intro g
  induction g with
  |zero=>intro i h1 cs1 ops1 fails1 hg;omega
  |succ g ih=>
   intro i h1 cs1 ops1 fails1 hg hi z1 z2 W1 O1;rw[F113.sL1];by_cases hlt:i<n
   ·rw[decide_eq_true Y,aG];simp only[aE,Nat.zero_add];have hc:=W1.hc;have ei:ai ((i:Int)+1)=((i+1:Nat):Int):=by rw[wrap_i64 Y Y];simp
    have ea:ai ((base:Int)+ai (3*(i:Int)))=((base+3*i:Nat):Int):=by rw[wrap_i64 (n:=3*(i:Int)) Y Y,wrap_i64 Y Y];simp
    refine aB (n:=(base:Int)) (by rw[At.rd W1.cac];rfl) (aJ (by rw[At.rd W1.cac];rfl) ?_);rw[ea,ei];refine dC W1.mem Y Y λh2 M2 O2=>aB rfl ?_;rw[Int.toNat_natCast,z2 i (Nat.le_refl _) hlt];obtain⟨v0,v1,v2⟩:=hv i hlt;have hz2:=z2 i (Nat.le_refl _) hlt;generalize cs.getD (base+3*i) 0=V at*
    have O12:=O1.trans O2 λb hb _=>hb;have W2:CW h2 c m mc base n cs1 _ fails1:=⟨W1.cac.only O2 (by simp[W1.d4,W1.d5]),M2,W1.d4,W1.d5,W1.hn,W1.hn2,W1.hc,W1.hl⟩;rw[yb v0 Y,show(V%2==0)=true by simpa using v2,aG];refine aH (λe=> ?_) λe=> ?_
    ·refine aJ (by rw[At.rd W2.cac];rfl) (mE M2 Y Y (λe' h3 M3 O3=>aQ rfl ?_) λe'=> ?_)
     ·rw[Int.toNat_natCast,sK v0 Y,kb]at M3;have W3:CW h3 c m mc base n (cs1.set (base+3*i) ((4*(V/4)+V%2+4)%18446744073709551616)) _ fails1:=⟨W2.cac.only O3 (by simp[W1.d4,W1.d5]),M3,W1.d4,W1.d5,W1.hn,W1.hn2,by simpa using W1.hc,by simpa using W1.hl⟩;refine ih (i+1) h3 _ _ _ Y Y (λl hl=> ?_) (λl hl hln=> ?_) W3 (O12.trans O3 λb hb _=>hb)
      ·rw[cS Y];by_cases h':l=i
       ·subst h';rw[if_pos rfl];omega
       ·rw[if_neg Y];exact z1 l Y
      ·rw[cS Y,if_neg Y];exact z2 l Y hln
     ·rw[Int.toNat_natCast]at e';exact absurd hz2 e'
    ·refine ih (i+1) h2 cs1 _ fails1 Y Y (λl hl=> ?_) (λl hl hln=>z2 l Y hln) W2 O12;by_cases h':l=i
     ·subst h';have:V=0:=by simpa using e
      rw[hz2,this]
      decide
     ·exact z1 l Y
   ·rw[decide_eq_false Y,aD];obtain rfl:i=n:=Y;exact hK h1 ops1 fails1 cs1 z1 W1 O1
 exact⟨n+1,this (n+1) 0 h cs ops fails Y Y Y (λ_ _ _=>rfl) W (aF.refl _ _)⟩
end
def bR(keep:Nat->Bool)(N:aj):aj:=N.mapIdx λi o=>if keep (i+2)then o else none
def fe(keep:Nat->Bool)(i:Nat)(a:Nat):Bool:=decide (i+2<=a)||keep a
def eD{keep:Nat->Bool}{N:aj}:(bR keep N).length=N.length:=by simp[bR]
def oV{keep:Nat->Bool}{N:aj}(i:Nat):nd (bR keep N) i=if keep (i+2)then nd N i else none:=by
 unfold nd bR;rw[List.getElem?_mapIdx];cases h:N[i]? with
 |none=>simp
 |some o=>
  simp only[Option.map_some,Option.join_some]
def dE{keep:Nat->Bool}{N:aj}{i:Nat}{o:Option Nd}(h:N[i]? =some o):(bR keep N)[i]? =some (if keep (i+2)then o else none):=by
 unfold bR;rw[List.getElem?_mapIdx,h]
 rfl
def mH{keep:Nat->Bool}{N:aj}:bR (fe keep 0) N=N:=by
 apply List.ext_getElem?;intro i;cases h:N[i]? with
 |none=>rw[List.getElem?_eq_none];rw[eD];exact List.getElem?_eq_none_iff.1 h
 |some o=>
  rw[dE h];unfold fe;rw[show decide (0+2<=i+2)=true by simp]
  rfl
def yJ{keep:Nat->Bool}{N:aj}:bR (fe keep N.length) N=bR keep N:=by
 apply List.ext_getElem?;intro i;cases h:N[i]? with
 |none=>rw[List.getElem?_eq_none,List.getElem?_eq_none]<;>rw[eD]<;>exact List.getElem?_eq_none_iff.1 h
 |some o=>
  have hl:=(List.getElem?_eq_some_iff.1 h).1;rw[dE h,dE h];unfold fe;rw[show decide (N.length+2<=i+2)=false by simp;omega]
  rfl
def lz{keep:Nat->Bool}{N:aj}{i:Nat}{o:Option Nd}(h:N[i]? =some o):bR (fe keep (i+1)) N=(bR (fe keep i) N).set i (if keep (i+2)then o else none):=by
 have hl:=(List.getElem?_eq_some_iff.1 h).1;apply List.ext_getElem?;intro k;rw[List.getElem?_set];by_cases hk:i=k
 ·subst hk;rw[if_pos rfl,if_pos (by rw[eD];exact hl),dE h];unfold fe;rw[show decide (i+1+2<=i+2)=false by simp]
  rfl
 ·rw[if_neg hk];cases h2:N[k]? with
  |none=>rw[List.getElem?_eq_none,List.getElem?_eq_none]<;>rw[eD]<;>exact List.getElem?_eq_none_iff.1 h2
  |some o2=>
   rw[dE h2,dE h2];unfold fe
   rw[show decide (i+1+2<=k+2)=decide (i+2<=k+2) by
    by_cases z:i+1<=k
    ·rw[decide_eq_true Y,decide_eq_true Y]
    ·rw[decide_eq_false Y,decide_eq_false Y]]
def rJ{keep:Nat->Bool}{N:aj}{i:Nat}{o:Option Nd}(h:N[i]? =some o):(bR (fe keep i) N)[i]? =some o:=by
 rw[dE h];unfold fe;rw[show decide (i+2<=i+2)=true by simp]
 rfl
def oc{n:Nat}{keep:Nat->Bool}{N:aj}(H:ey n N)(hk: ∀i x,nd N i=some x->keep (i+2)=true->(x.2.1<2\/keep x.2.1=true)/\(x.2.2<2\/keep x.2.2=true)):ey n (bR keep N)/\(∀a,isN (bR keep N) a↔(a<2\/isN N a/\keep a=true))/\Ex (bR keep N) N:=by
 have ex:Ex (bR keep N) N:=λi x hx=>by
  rw[oV]at hx;split at hx
  ·exact hx
  ·cases hx
 have is: ∀a,isN (bR keep N) a↔(a<2\/isN N a/\keep a=true):=λa=>by
  constructor
  ·intro ha;rcases ha with q|⟨x,hx⟩
   ·exact .inl q
   ·rw[oV]at hx;by_cases a2:a<2
    ·exact .inl a2
    ·split at hx
     ·rename_i hk';rw[show a-2+2=a by omega]at hk';exact .inr ⟨.inr ⟨x,hx⟩,hk'⟩
     ·cases hx
  ·intro ha;rcases ha with q|⟨q|⟨x,hx⟩,r⟩
   ·exact .inl q
   ·exact .inl q
   ·by_cases a2:a<2
    ·exact .inl a2
    ·right;refine⟨x,?_⟩;rw[oV,show a-2+2=a by omega,if_pos r];exact hx
 refine⟨⟨λi x hx=> ?_,λi j x hi hj=>H.once i j x (ex i x hi) (ex j x hj)⟩,is,ex⟩;have h0:=ex i x hx
 have hki:keep (i+2)=true:=by
  rw[oV]at hx;split at hx
  ·rename_i q;exact q
  ·cases hx
 obtain⟨a,b,c,d,e,f⟩:=H.node i x h0;obtain⟨k1,k2⟩:=hk i x h0 hki;have i1:isN (bR keep N) x.2.1:=(is _).2 (by rcases k1 with q|q;exact .inl q;exact .inr ⟨b,q⟩);have i2:isN (bR keep N) x.2.2:=(is _).2 (by rcases k2 with q|q;exact .inl q;exact .inr ⟨c,q⟩);have l1:=ex.lvl (n:=n) i1;have l2:=ex.lvl (n:=n) i2;exact⟨a,i1,i2,d,by rw[<-l1];exact e,by rw[<-l2];exact f⟩
end
section
def zT(mo:List (Int×Value))(keep:Nat->Bool):Prop:= ∀k:Nat,(keep k=true->mo.lookup (k:Int)=some (.agg #[]))/\(keep k=false->mo.lookup (k:Int)=none)
def qB{α:Type}{l:List α}{i:Nat}{o:α}(h:l[i]? =some o):l.set i o=l:=by
 apply List.ext_getElem?;intro k;rw[List.getElem?_set];split
 ·rename_i e;subst e;rw[if_pos (List.getElem?_eq_some_iff.1 h).1,h]
 ·rfl
def kC{x:Nd}: ∀{N:aj} {i:Nat},N[i]? =some (some x)->aT (N.set i none)+1=aT N
 | [],i,h=>by simp at h
 |o::N,0,h=>by simp at h;subst h;simp[aT]
 |o::N,i+1,h=>by have:=kC (N:=N) (i:=i) (by simpa using h);simp only[aT,List.set_cons_succ,List.countP_cons]at this ⊢;omega
section
variable {h:aA}{s n room:Nat}{B:SB}{f g:Nat->Nat}{N:aj}{F:List Nat}{Q:Int->Int->Prop}{off:Bool}{K:KK}
def SB.growf{s:Nat}{fp':ak}{fc':Nat}(H:(B.bm s).Nodup)(hlt: ∀b∈B.bm s,b<h.size)(hp: ∀b∈aR fp',b∈aR B.fp\/h.size<=b):
  (SB.bm {B with fp:=fp',fc:=fc'} s).Nodup/\ ∀b∈SB.bm {B with fp:=fp',fc:=fc'} s,b∈B.bm s\/h.size<=b:=by
 refine⟨?_,λb hb=> ?_⟩
 ·unfold SB.bm at H ⊢;simp only at H ⊢;rw[List.nodup_append]at H ⊢;refine⟨H.1,nO fp',λa ha b hb e=> ?_⟩;rcases hp b hb with h1|h1
  ·exact H.2.2 a ha b h1 e
  ·have:=hlt a (by unfold SB.bm;exact List.mem_append.2 (.inl ha));omega
 ·simp only[SB.bm,List.mem_append]at hb ⊢;rcases hb with(hb|hb)|hb
  ·exact .inl (.inl (.inl hb))
  ·exact .inl (.inl (.inr hb))
  ·rcases hp b hb with h1|h1
   ·exact .inl (.inr h1)
   ·exact .inr h1
def uf{M:aj}{i:Nat}{x:Nd}{F1:List Nat}{b0:Nat}{KK:aA->Prop}(H:i9 h s n room B f g M F1 Q off)(hi:M[i]? =some (some x))(eb:B.p=some (ah b0))(hlt:F1.length<M.length)(hs:s<h.size)
  (hK: ∀fp' fc' h',i9 h' s n room {B with fp:=fp',fc:=fc'} f g (M.set i none) (F1++[i+2]) Q off->aF (s::aR B.p++aR B.fp) h h'->(∀b∈aR fp',b∈aR B.fp\/h.size<=b)->KK h'):
  aP h ⟨b0,i*4,none⟩ aq (λh22=>aP h22 ⟨b0,i*4+1,none⟩ (ac 0) (λh23=>aP h23 ⟨b0,i*4+2,none⟩ (ae 0) (λh24=>aP h24 ⟨b0,i*4+3,none⟩ (ae 0) (λh25=>cW (rd h25 ⟨s,3,none⟩) (λp26 l27 c28=>aZ h25 (.cells #[(ae ((i+2:Nat):Int))] 46) (λb29 h30=>fA h30 46 1 4 #[(ae (0:Int))] p26 l27 c28 (some (ah b29)) 1 (λp31 l32 c33 h34=>aP h34 ⟨s,3,none⟩ (.slice p31 l32 c33) (λh35=>KK h35)))))))):=by
 have hil:=(List.getElem?_eq_some_iff.1 hi).1;have W:=H.own;rw[eb]at W;have nl:(gD M).length=M.length*4:=fR M;have hln:=H.len;refine ct.set (j:=i*4+0) W Y rfl λh2 W2 O2=>ct.set W2 (by simp;omega) rfl λh3 W3 O3=>ct.set W3 (by simp;omega) rfl λh4 W4 O4=>ct.set W4 (by simp;omega) rfl λh5 W5 O5=> ?_;rw[kv M i none _ _ _ _ hil rfl]at W5;have O25:aF [b0] h h5:=((O2.trans O3 Z).trans O4 Z).trans O5 Z;have hsep:=H.sep
 have nb: ∀y∈[s,B.ob,B.cac,B.cm,B.cmc]++aR B.fp,y∉[b0]:=λy hy hm=>by
  simp only[List.mem_singleton]at hm;subst hm;unfold SB.bm at hsep;simp only[List.nodup_append,List.mem_append,ne_eq]at hsep;obtain⟨⟨_,_,g2⟩,_,g4⟩:=hsep;have hmp:y∈aR B.p:=by rw[eb];simp[aR]
  rcases List.mem_append.1 hy with h|h
  ·exact g2 y h y hmp rfl
  ·exact g4 y (.inr hmp) y h rfl
 have nf: ∀y∈[s,B.ob,B.cac,B.cm,B.cmc]++aR B.p,y∉aR B.fp:=λy hy hm=>by unfold SB.bm at hsep;simp only[List.nodup_append,List.mem_append,ne_eq]at hsep;obtain⟨⟨_,_,g2⟩,_,g4⟩:=hsep;exact g4 y (by simpa only[List.mem_append]using hy) y hm rfl
 have ns: ∀y∈[B.ob,B.cac,B.cm,B.cmc]++aR B.p++aR B.fp,y∉[s]:=λy hy hm=>by simp only[List.mem_singleton]at hm;subst hm;unfold SB.bm at hsep;simp only[List.cons_append,List.nodup_cons,List.nil_append]at hsep;exact hsep.1 (by simpa[or_assoc]using hy)
 have S5:=H.S.only O25 (nb _ Z);have z5:=O25.size;refine bj (p:=B.fp) (l:=F1.length) (c:=B.fc) (by rw[At.rd S5];rfl) ?_;have fr5:=H.fre.only O25 λy hy=>nb _ (List.mem_append.2 (.inr hy));refine aM λh6 A6 O6 z6=> ?_;refine tc (fr5.only O6 Z) A6 Y rfl Y λfp' fc' h7 W7 O7 hb7=> ?_;have lp: ∀b∈aR B.fp,b<h.size:=λb hb=>(H.fre.lt b hb).2;have S7:=(S5.only O6 Z).only O7 (λhm=>nf s Z hm);refine aK S7 (by simp[ie]) rfl λh8 A8 O8 z8=> ?_;have O58:aF (s::aR B.fp) h5 h8:=((O6.mono Z).trans O7 (by intro b hb _;simp[hb])).trans O8 (by intro b hb _;simp at hb;simp[hb])
 have nn: ∀y∈[B.ob,B.cac,B.cm,B.cmc]++aR B.p,y∉s::aR B.fp:=λy hy hm=>by
  rcases List.mem_cons.1 hm with e|e
  ·exact ns y (List.mem_append.2 (.inl hy)) (by simp[e])
  ·exact nf y (by rcases List.mem_append.1 hy with q|q;exact List.mem_append.2 (.inl (List.mem_cons_of_mem _ q));exact List.mem_append.2 (.inr q)) e
 have hbf: ∀b∈aR fp',b∈aR B.fp\/h.size<=b:=λb hb=>by
  rcases hb7 b hb with q|q
  ·exact .inl q
  ·exact .inr Y
 have es:s∉aR fp':=λhm=>by
  rcases hbf s hm with q|q
  ·exact nf s Z q
  ·omega
 have el:(M.set i none).length=M.length:=Z;have g1:=SB.growf (fc':=fc') hsep H.lt hbf;refine hK fp' fc' h8 ⟨?_,(H.O.only O25 (nb _ Z)).only O58 (nn _ Z),?_,?_,(H.cac.only O25 (nb _ Z) (nb _ Z) (nb _ Z)).only O58 (nn _ Z) (nn _ Z) (nn _ Z),H.n8,by rw[el];exact⟨hln.1,hln.2.1,by simp;omega⟩,g1.1⟩ ((O25.mono (by intro b hb _;simp at hb;subst hb;rw[eb];simp[aR])).trans O58 (by intro b hb _;rcases List.mem_cons.1 hb with q|q;simp[q];exact List.mem_append.2 (.inr q))) hbf
 ·rw[el,List.length_append];exact A8
 ·rw[el];show ct h8 0 4 B.p M.length B.c _;rw[eb]
  exact W5.only O58 λb hb=>by injection hb with hb;injection hb with hb;subst hb;exact nn b0 (by rw[eb];simp[aR])
 ·have:mG (F1++[i+2])=mG F1++[ae ((i+2:Nat):Int)]:=by simp[mG]
  rw[this,List.length_append];exact W7.only O8 λb hb hm=>es (by simp at hm;subst hm;exact hb)
end
end
section
section
variable {h:aA}{s n room:Nat}{B:SB}{f g:Nat->Nat}{N:aj}{F:List Nat}{Q Q':Int->Int->Prop}{off:Bool}{K:KK}{mb:Nat}{mo:List (Int×Value)}{keep:Nat->Bool}
def zx{i:Nat}(k:keep (i+2)=true){o:Option Nd}(hi:N[i]? =some o):bR (fe keep (i+1)) N=bR (fe keep i) N:=by rw[lz hi,if_pos k,qB (rJ hi)]
def xX{i:Nat}(hi:N[i]? =some none):bR (fe keep (i+1)) N=bR (fe keep i) N:=by rw[lz hi,show(if keep (i+2)=true then none else none:Option Nd)=none by split<;>rfl,qB (rJ hi)]
def yV{i:Nat}(k:keep (i+2)=false){o:Option Nd}(hi:N[i]? =some o):bR (fe keep (i+1)) N=(bR (fe keep i) N).set i none:=by
 rw[lz hi,k]
 rfl
structure Rt(h0 h:aA)(s n room:Nat)(B:SB)(f g:Nat->Nat)(N:aj)(Q:Int->Int->Prop)(off:Bool)(mb:Nat)(mo:List (Int×Value))(keep:Nat->Bool)(i:Nat)(fp:ak)(fc:Nat)(F:List Nat):Prop where
 m:i9 h s n room {B with fp:=fp,fc:=fc} f g (bR (fe keep i) N) F Q off
 M:bU h mb .u32 mo
 cnt:N.length=aT (bR (fe keep i) N)+F.length
 fre:F.Nodup/\ ∀a∈F,2<=a/\a-2<N.length/\nd (bR (fe keep i) N) (a-2)=none
 O:aF (B.bm s) h0 h
 fr: ∀b∈aR fp,b∈aR B.fp\/h0.size<=b
set_option maxRecDepth 100000 in
def qu{h0:aA}(sep0:(B.bm s).Nodup)(Hk:zT mo keep)(dm:mb∉B.bm s)(lm:mb<h0.size)(lb: ∀b∈B.bm s,b<h0.size)(hn:N.length<=room/\room<=32768)
  (hK: ∀h' fp fc F gone,Rt h0 h' s n room B f g N Q off mb mo keep N.length fp fc F->F268.wk12 (ah s) gone h' K):
  ∀(d i:Nat) (h':aA) (fp:ak) (fc:Nat) (F:List Nat) (gone:Int),i+d=N.length->Rt h0 h' s n room B f g N Q off mb mo keep i fp fc F->
   F268.wL3 (d+1) (ah s) (some mb) gone B.p N.length B.c (N.length:Int) (i:Int) h' K:=by
 intro d
 induction d with
 |zero=>
  intro i h' fp fc F gone hd R;rw[F268.sL3];rw[decide_eq_false Y,aD];obtain rfl:i=N.length:=Y;exact hK h' fp fc F gone R
 |succ d ih=>
  intro i h' fp fc F gone hd R;have hi:i<N.length:=Y;obtain⟨o,ho⟩: ∃o,N[i]? =some o:=⟨_,List.getElem?_eq_getElem hi⟩;have hm:=rJ (keep:=keep) ho;obtain⟨b,eb,rr⟩:=R.m.cells hm;have eb:B.p=some (ah b):=eb;have z0:=R.O.size
  have hw:IntKind.wrap .u32 (ai ((i:Int)+2))=((i+2:Nat):Int):=by rw[wrap_i64 Y Y,show(i:Int)+2=((i+2:Nat):Int) by omega];exact gi Y
  have hs1:s<h'.size:=R.m.S.lt
  have stay: ∀k6,aF [] h' k6->bR (fe keep (i+1)) N=bR (fe keep i) N->F268.wL3 (d+1) (ah s) (some mb) gone B.p N.length B.c (N.length:Int) (ai ((i:Int)+1)) k6 K:=λk6 P e=>by rw[show ai ((i:Int)+1)=((i+1:Nat):Int) by rw[wrap_i64 Y Y];omega];refine ih (i+1) k6 fp fc F gone Y ⟨?_,R.M.only P Z,by rw[e];exact R.cnt,by rw[e];exact R.fre,R.O.trans P Z,R.fr⟩;rw[e];exact R.m.only P Z
  rw[F268.sL3];rw[decide_eq_true Y,aG,eb,aL];refine⟨Y,Y,?_⟩;rw[<-eb];simp only[aE,Nat.zero_add];rw[show Int.toNat (i:Int)*4=i*4 by omega,hw]
  obtain⟨tv,lv,av,bv,ec⟩: ∃tv lv av bv,dh o=[aw tv,ac lv,ae av,ae bv]:=by
   cases o with
   |none=>exact⟨_,_,_,_,rfl⟩
   |some x=>exact⟨_,_,_,_,rfl⟩
  rw[ec]at rr;refine aQ (by rw[<-Nat.add_zero (i*4),rr 0 Y];rfl) (aB (by rw[rr 1 Y];rfl) (aB (by rw[rr 2 Y];rfl) (aB (by rw[rr 3 Y];rfl) ?_)));refine aM λk1 B1 P1 y1=> ?_;refine aK B1 Z rfl λk2 B2 P2 y2=>aK B2 Z rfl λk3 B3 P3 y3=>aK B3 Z rfl λk4 B4 P4 y4=>aK B4 Z rfl λk5 B5 P5 y5=> ?_
  replace B5:At k5 h'.size [aw tv,ac lv,ae av,ae bv]:=B5
  have P15:aF [] h' k5:=(((P1.trans P2 (by intro b hb hl;simp at hb;omega)).trans P3 (by intro b hb hl;simp at hb;omega)).trans P4 (by intro b hb hl;simp at hb;omega)).trans P5 (by intro b hb hl;simp at hb;omega)
  have tail: ∀(o12:Option (Nat×Value)),(o12.isSome=keep (i+2))->(lS (.agg #[]) o12= .agg #[])-> ∀KK:aA->Prop,(∀k6,aF [] h' k6->k5.size<=k6.size->aC tv (aC (!(keep (i+2))) (KK k6) (F268.wL3 (d+1) (ah s) (some mb) gone B.p N.length B.c (N.length:Int) (ai ((i:Int)+1)) k6 K)) (F268.wL3 (d+1) (ah s) (some mb) gone B.p N.length B.c (N.length:Int) (ai ((i:Int)+1)) k6 K))->
    qW (some (lS (.agg #[]) o12)) (λv13=>aZ k5 (.cells #[] 218) (λb14 h15=>ff Tryz.prog 218 (some (ah b14)) v13 h15 (λh16=>bA (rd h16 (ah h'.size)) (λb17=>aC b17 (aC (!(Option.isSome o12)) (KK h16) (F268.wL3 (d+1) (ah s) (some mb) gone B.p N.length B.c (N.length:Int) (ai ((i:Int)+1)) h16 K)) (F268.wL3 (d+1) (ah s) (some mb) gone B.p N.length B.c (N.length:Int) (ai ((i:Int)+1)) h16 K))))):=by
   intro o12 e1 e2 KK hk;rw[e2];refine⟨_,rfl,?_⟩;refine aM λk6 B6 P6 y6=> ?_;refine lG ?_;have C6:=B5.only P6 Z;have P16:aF [] h' k6:=P15.trans P6 Z;refine aQ (by rw[At.rd C6 0];rfl) ?_;rw[e1];exact hk k6 P16 Y
  have body: ∀k6,aF [] h' k6->k5.size<=k6.size->aC tv (aC (!(keep (i+2))) (cW (rd k6 ⟨s,2,none⟩) (λp18 l19 _=>aN p18 (λa21=>(0<=(i:Int)/\(i:Int)<(Nat.cast l19:Int)/\aP k6 (Addr.add (Addr.add a21 (i*4)) 0) aq (λh22=>aP h22 (Addr.add (Addr.add a21 (i*4)) 1) (ac (0:Int)) (λh23=>aP h23 (Addr.add (Addr.add a21 (i*4)) 2) (ae (0:Int)) (λh24=>aP h24 (Addr.add (Addr.add a21 (i*4)) 3) (ae (0:Int)) (λh25=>cW (rd h25 ⟨s,3,none⟩) (λp26 l27 c28=>aZ h25 (.cells #[(ae ((i+2:Nat):Int))] 46) (λb29 h30=>fA h30 46 1 4 #[(ae (0:Int))] p26 l27 c28 (some (ah b29)) 1 (λp31 l32 c33 h34=>aP h34 ⟨s,3,none⟩ (.slice p31 l32 c33) (λh35=>F268.wL3 (d+1) (ah s) (some mb) (ai (gone+(1:Int))) B.p N.length B.c (N.length:Int) (ai ((i:Int)+(1:Int))) h35 K)))))))))))) (F268.wL3 (d+1) (ah s) (some mb) gone B.p N.length B.c (N.length:Int) (ai ((i:Int)+1)) k6 K)) (F268.wL3 (d+1) (ah s) (some mb) gone B.p N.length B.c (N.length:Int) (ai ((i:Int)+1)) k6 K):=by
   intro k6 P16 y6;cases o with
   |none=>
    simp only[dh,List.cons.injEq,Value.bool.injEq]at ec;rw[<-ec.1,aD];exact stay k6 P16 (xX ho)
   |some x=>
    simp only[dh,List.cons.injEq,Value.bool.injEq,Value.int.injEq,true_and,and_true]at ec;rw[<-ec.1,aG];cases hkp:keep (i+2)with
    |true=>rw[Bool.not_true,aD];exact stay k6 P16 (zx hkp ho)
    |false=>
     rw[Bool.not_false,aG];have m6:=R.m.only P16 Z;have el:(bR (fe keep i) N).length=N.length:=eD;refine bj (p:=B.p) (l:=N.length) (c:=B.c) (by rw[At.rd m6.S,el];rfl) ?_;rw[eb,aL];refine⟨Y,Y,?_⟩;simp only[aE,Nat.zero_add,Nat.add_zero]
     have c1:F.length<N.length:=by have:0<aT (bR (fe keep i) N):=List.countP_pos_iff.2 ⟨some x,List.mem_of_getElem? hm,rfl⟩;have:=R.cnt;omega
     refine uf (B:={B with fp:=fp,fc:=fc}) m6 hm eb (by rw[el];exact c1) (by have:=P16.size;omega) λfp' fc' h7 H7 O7 hf7=> ?_;rw[show ai ((i:Int)+1)=((i+1:Nat):Int) by rw[wrap_i64 Y Y];omega,<-eb];have e:=yV hkp ho;have z6:=P16.size
     have ni:i+2∉F:=λhm2=>by have:=(R.fre.2 _ hm2).2.2;rw[show i+2-2=i by omega]at this;rw[eS.2 hm]at this;cases this
     have sub: ∀b∈s::aR B.p++aR fp,b<h0.size->b∈B.bm s:=λb hb hl=>by
      simp only[SB.bm,List.mem_append,List.mem_cons]at hb ⊢;rcases hb with(q|q)|q
      ·exact .inl (.inl (.inl q))
      ·exact .inl (.inr q)
      ·rcases R.fr b q with r|r
       ·exact .inr r
       ·omega
     have nm:mb∉s::aR B.p++aR fp:=λhm2=>dm (sub mb hm2 lm);refine ih (i+1) h7 fp' fc' _ _ Y ⟨by rw[e];exact H7,(R.M.only P16 Z).only O7 nm,?_,?_,(R.O.trans P16 Z).trans O7 sub,λb hb=> ?_⟩
     ·rw[e];have:=kC hm;have:=R.cnt;simp;omega
     ·rw[e];refine⟨List.nodup_append.2 ⟨R.fre.1,Z,λa ha c hc e2=> ?_⟩,λa ha=> ?_⟩
      ·simp at hc;subst hc e2;exact ni ha
      ·rw[lO (by rw[el];exact hi)];rcases List.mem_append.1 ha with q|q
       ·obtain⟨q1,q2,q3⟩:=R.fre.2 a q;refine⟨q1,q2,?_⟩;split
        ·rfl
        ·exact q3
       ·simp at q;subst q;exact⟨Y,Y,by rw[if_pos Y]⟩
     ·rcases hf7 b hb with q|q
      ·exact R.fr b q
      ·exact .inr Y
  refine dt (m:=mo) (R.M.only P15 Z) (λhn=> ?_) λj v hv=> ?_
  ·have k0:keep (i+2)=false:=by
    cases hk:keep (i+2)with
    |false=>rfl
    |true=>
     rw[(Hk (i+2)).1 hk]at hn;cases hn
   exact tail none (by rw[k0];rfl) rfl _ body
  ·have k1:keep (i+2)=true:=by
    cases hk:keep (i+2)with
    |true=>rfl
    |false=>
     rw[(Hk (i+2)).2 hk]at hv;cases hv
   rw[(Hk (i+2)).1 k1]at hv;injection hv with hv;subst hv;exact tail (some (j,.agg #[])) (by rw[k1];rfl) rfl _ body
end
end
section
section
variable {h:aA}{s n room:Nat}{B:SB}{f g:Nat->Nat}{N:aj}{F:List Nat}{Q Q':Int->Int->Prop}{off:Bool}{K:KK}{mb:Nat}{mo:List (Int×Value)}{keep:Nat->Bool}
set_option maxRecDepth 100000 in
def ux(Q':Int->Int->Prop)(H:mW h s n room B f g N F Q off)(M0:bU h mb .u32 mo)(Hk:zT mo keep)(dm:mb∉B.bm s++B.bt)
  (hk: ∀i x,nd N i=some x->keep (i+2)=true->(x.2.1<2\/keep x.2.1=true)/\(x.2.2<2\/keep x.2.2=true))
  (hK: ∀h' B' F' gone,mW h' s n room B' f g (bR keep N) F' Q' off->aF (B.bm s++B.bt) h h'->(∀y∈B'.bm s++B'.bt,y∈B.bm s++B.bt\/h.size<=y)->K (ac gone) h'):
  Cl 268 [ag (ah s),.map (some mb)] h K:=by
 have hlen:=H.m.len;have hn8:=H.m.n8;apply F268.spec;simp only[aE,Nat.zero_add];refine bj (p:=B.p) (l:=N.length) (c:=B.c) (by rw[At.rd H.m.S];rfl) ?_;unfold F268.wk3;have dm1:mb∉B.bm s:=λhm=>dm (List.mem_append.2 (.inl hm));have R0:Rt h h s n room B f g N Q off mb mo keep 0 B.fp B.fc F:=⟨by rw[mH];exact H.m,M0,by rw[mH];exact H.cnt,by rw[mH];exact H.fre,aF.refl _ _,λb hb=> .inl hb⟩;refine⟨_,qu H.m.sep Hk dm1 M0.lt H.m.lt ⟨hlen.1,hlen.2.1⟩ (λh1 fp fc F1 gone R=> ?_) N.length 0 h B.fp B.fc F 0 Y R0⟩;obtain⟨m1,-,cnt1,fre1,O1,fr1⟩:=R;rw[yJ]at m1 cnt1 fre1;have el:(bR keep N).length=N.length:=eD;obtain⟨ok1,is1,AG⟩:=oc H.ok hk;have tsep: ∀b∈B.bt,b∉B.bm s:=H.t.sep;have T1:=H.t.only O1 λb hb hm=>tsep b hm hb;unfold F268.wk12;simp only[aE,Nat.zero_add];refine aJ (by rw[At.rd m1.S];rfl) ?_;obtain⟨cs,ops,fails,W1,S1⟩:=m1.cac;have W1:CW h1 B.cac B.cm B.cmc 0 256 cs ops fails:=W1;refine vX W1 Y (λl hl=> ?_) λh2 ops2 fails2 cs2 z2 W2 O2=>⟨rfl,?_⟩
 ·rw[Nat.zero_add];have:=S1 l hl;exact⟨this.1,this.2.1,this.2.2.1⟩
 have sep1:=m1.sep
 have nm: ∀y∈[s,B.ob,B.cac]++aR B.p++aR fp,y∉[B.cm,B.cmc]:=λy hy hm=>by
  have sep1:([s,B.ob,B.cac,B.cm,B.cmc]++aR B.p++aR fp).Nodup:=sep1;simp only[List.cons_append,List.nil_append,List.nodup_cons,List.mem_cons,List.mem_append,not_or]at sep1;obtain⟨⟨a1,a2,a3,a4,a5,a6⟩,⟨b1,b2,b3,b4,b5⟩,⟨c1,c2,c3,c4⟩,⟨d1,d2,d3⟩,⟨e1,e2⟩,-⟩:=sep1;simp only[List.mem_cons,List.not_mem_nil,or_false]at hm;simp only[List.cons_append,List.nil_append,List.mem_cons,List.mem_append]at hy;rcases hy with q|q|q|q|q<;>rcases hm with r|r<;>subst r
  ·exact a3 q.symm
  ·exact a4 q.symm
  ·exact b2 q.symm
  ·exact b3 q.symm
  ·exact c1 q.symm
  ·exact c2 q.symm
  ·exact d2 q
  ·exact e1 q
  ·exact d3 q
  ·exact e2 q
 have nt: ∀y∈B.bt,y∉[B.cm,B.cmc]:=λy hy hm=>tsep y hy (by simp at hm;rcases hm with q|q<;>subst q<;>simp[SB.bm]);have S2:=m1.S.only O2 (nm _ Z);have S2':At h2 s (qG room {B with fp:=fp,fc:=fc} (bR keep N).length F1.length off (ag (ah B.tb)) (.map (some B.sb))):=S2;have T2:=T1.only O2 λb hb hm=>nt b hm hb;refine aJ (by rw[At.rd S2];rfl) ?_;obtain⟨T,⟨tcs,mm,tops,tfails,t1,t2,t3,L⟩,t5,t6,t7⟩:=T2.tab;refine gc t1 (aB rfl ?_)
 have T32:32<=T:=by obtain⟨k,e⟩:=t5;have:=Nat.two_pow_pos k;omega
 rw[show(if(T:Int)>32 then(T:Int)else 32)=(T:Int) by split<;>omega]
 have cle:aT (bR keep N)<=aT N:=by
  have:=H.cnt
  have h1: ∀(N:aj) (k:Nat->Bool),aT (N.mapIdx λi o=>if k i then o else none)<=aT N:=by
   intro N
   induction N with
   |nil=>intro k;simp[aT]
   |cons o N ih=>
    intro k;have:=ih λi=>k (i+1);simp only[aT,List.mapIdx_cons,List.countP_cons]at this ⊢;split
    ·omega
    ·simp;omega
  exact h1 N λi=>keep (i+2)
 have R2:BN h2 s n room {B with fp:=fp,fc:=fc} f g (bR keep N) F1 Q':=
  ⟨m1.O.only O2 (nm _ Z),m1.own.only O2 λb hb=>nm _ (by rw[show B.p=_ from hb];simp[aR]),m1.fre.only O2 λb hb=>nm _ (List.mem_append.2 (.inr hb)),⟨cs2,ops2,fails2,W2,λl hl=>by have:=z2 l hl;rw[Nat.zero_add]at this;exact⟨this.1,this.2.1,Y,λe=>Y⟩⟩,m1.n8,m1.len,m1.sep⟩
 refine oS (bl:=[]) S2' R2 (λi hi=>by simp at hi) (λa e=>by cases e) Z (λi x hx=> ?_) (λi j x hi hj=> ?_) t5 (by rw[dl];omega) t7 λtb m mc sb h3 m3 T3 _ g1 g2 g3 g4 O3=>⟨rfl,?_⟩
 ·rw[dl]at hx;exact ok1.ndok hn8.2 (by rw[el];omega) hx
 ·rw[dl]at hi hj;exact ok1.once i j x hi hj
 rw[dl]at T3;have z1:=O1.size;have z2':=O2.size;have z3:=O3.size;refine hK h3 _ F1 gone ⟨m3,T3,ok1,by rw[el];exact cnt1,fre1.1,λa ha=>by rw[el];exact fre1.2 a ha⟩ (((O1.mono λb hb _=>List.mem_append.2 (.inl hb)).trans O2 λb hb _=>List.mem_append.2 (.inl (by simp at hb;rcases hb with q|q<;>subst q<;>simp[SB.bm]))).trans O3 λb hb _=>List.mem_append.2 (.inl (by simp at hb;subst hb;simp[SB.bm]))) λy hy=> ?_
 have new: ∀y,y∈SB.bt (SB.tabs {B with fp:=fp,fc:=fc} tb m mc sb)->h.size<=y:=λy hy=>by simp[SB.bt,SB.tabs]at hy;omega
 rcases List.mem_append.1 hy with q|q
 ·have q:y∈[s,B.ob,B.cac,B.cm,B.cmc]++aR B.p++aR fp:=q;simp only[SB.bm,List.mem_append]at q ⊢;rcases q with(q|q)|q
  ·exact .inl (.inl (.inl (.inl q)))
  ·exact .inl (.inl (.inl (.inr q)))
  ·rcases fr1 y q with r|r
   ·exact .inl (.inl (.inr r))
   ·exact .inr r
 ·exact .inr (new y q)
end
def rC{h:aA}{s:Nat}{L:List Nat}{X:SX}{mb:Nat}{mo:List (Int×Value)}{keep:Nat->Bool}{K:KK}(Q':Int->Int->Prop)(H:cG h s L X)(M0:bU h mb .u32 mo)(Hk:zT mo keep)(dm:mb∉L)
  (hk: ∀i x,nd X.N i=some x->keep (i+2)=true->(x.2.1<2\/keep x.2.1=true)/\(x.2.2<2\/keep x.2.2=true))
  (hK: ∀h' L' gone,cG h' s L' {X with N:=bR keep X.N,Q:=Q'}->aF L h h'->cj L L' h->K (ac gone) h'):
  Cl 268 [ag (ah s),.map (some mb)] h K:=by
 obtain⟨B,F,e,H⟩:=H;subst e;exact ux Q' H M0 Hk dm hk λh' B' F' gone S O fr=>hK h' _ gone ⟨B',F',rfl,S⟩ O fr
end
section
def swp(g:Nat->Int)(i j:Nat):Nat->Int:=λk=>if k=j then g i else if k=i then g j else g k
inductive cP (a b:Nat):(Nat->Int)->(Nat->Int)->Prop
 |refl (g:Nat->Int):cP a b g g
 |step {g g':Nat->Int} {i j:Nat}:a<=i->i<b->a<=j->j<b->cP a b (swp g i j) g'->cP a b g g'
def cP.trans{a b:Nat}{f g k:Nat->Int}(H:cP a b f g)(G:cP a b g k):cP a b f k:=by
 induction H with
 |refl _=>exact G
 |step h1 h2 h3 h4 _ ih=>exact .step h1 h2 h3 h4 (ih G)
def cP.one{a b i j:Nat}(g:Nat->Int)(h1:a<=i)(h2:i<b)(h3:a<=j)(h4:j<b):cP a b g (swp g i j):= .step h1 h2 h3 h4 (.refl _)
def cP.mono{a b a' b':Nat}{f g:Nat->Int}(H:cP a b f g)(ha:a'<=a)(hb:b<=b'):cP a' b' f g:=by
 induction H with
 |refl g=>exact .refl g
 |step h1 h2 h3 h4 _ ih=>exact .step Y Y Y Y ih
def cP.out{a b:Nat}{f g:Nat->Int}(H:cP a b f g){k:Nat}(hk:k<a\/b<=k):g k=f k:=by
 induction H with
 |refl g=>rfl
 |step h1 h2 h3 h4 _ ih=>
  rw[ih];unfold swp;rw[if_neg Y,if_neg Y]
def cP.all{a b:Nat}{f g:Nat->Int}(H:cP a b f g){Q:Int->Prop}(h: ∀k,a<=k->k<b->Q (f k)): ∀k,a<=k->k<b->Q (g k):=by
 induction H with
 |refl g=>exact h
 | @step g g' i j h1 h2 h3 h4 _ ih=>
  apply ih;intro k hk1 hk2;unfold swp;split
  ·exact h i h1 h2
  ·split
   ·exact h j h3 h4
   ·exact h k hk1 hk2
def cP.perm{a b n:Nat}{f g:Nat->Int}(H:cP a b f g)(hb:b<=n):((List.range n).map g).Perm ((List.range n).map f):=by
 induction H with
 |refl g=>exact List.Perm.refl _
 | @step g g' i j h1 h2 h3 h4 _ ih=>
  refine ih.trans ?_
  have e:(List.range n).map (swp g i j)=((List.range n).map λk=>if k=j then i else if k=i then j else k).map g:=by
   rw[List.map_map];apply List.map_congr_left;intro k _;simp only[Function.comp,swp];split
   ·rfl
   ·split<;>rfl
  rw[e];refine List.Perm.map g ?_;refine(List.perm_ext_iff_of_nodup ?_ List.nodup_range).2 λk=> ?_
  ·refine List.Pairwise.map _ (λx y (hxy:x≠y)=> ?_) List.nodup_range
   (repeat' split)<;>omega
  ·rw[List.mem_map];constructor
   ·rintro ⟨x,hx,rfl⟩;rw[List.mem_range]at hx ⊢;split
    ·omega
    ·split<;>omega
   ·intro hk;rw[List.mem_range]at hk;by_cases h:k=j
    ·exact⟨i,by rw[List.mem_range];omega,by by_cases h':i=j<;>simp[h,h']⟩
    ·by_cases h':k=i
     ·exact⟨j,by rw[List.mem_range];omega,by simp[h']⟩
     ·exact⟨k,by rw[List.mem_range];omega,by simp[h,h']⟩
def d9(a b:Nat)(g:Nat->Int):Prop:= ∀p q,a<=p->p<q->q<b->g p<=g q
def d9.single{a b:Nat}(g:Nat->Int)(h:b<=a+1):d9 a b g:=λp q _ _ _=>Y
def uB(a i j:Nat)(g:Nat->Int):Prop:= ∀p q,a<=p->p<q->q<=i->q≠j->g p<=g q
def uB.start{a i:Nat}{g:Nat->Int}(H:d9 a i g):uB a i i g:=λp q h1 h2 h3 h4=>H p q h1 h2 Y
def uB.stop{a i j:Nat}{g:Nat->Int}(H:uB a i j g)(h:j<=a\/g (j-1)<=g j):d9 a (i+1) g:=λp q h1 h2 h3=>by
 by_cases hq:q=j
 ·subst hq;rcases h with h|h
  ·omega
  ·by_cases hp:p=q-1
   ·subst hp;exact h
   ·exact Int.le_trans (H p (q-1) h1 Y Y Y) h
 ·exact H p q h1 h2 Y hq
def ib(g:Nat->Int)(i j:Nat):swp g i j i=g j:=by
 unfold swp;by_cases h:i=j
 ·rw[if_pos h,h]
 ·rw[if_neg h,if_pos rfl]
def lQ(g:Nat->Int)(i j:Nat):swp g i j j=g i:=if_pos rfl
def df(g:Nat->Int){i j k:Nat}(hi:k≠i)(hj:k≠j):swp g i j k=g k:=by unfold swp;rw[if_neg hj,if_neg hi]
def uB.step{a i j:Nat}{g:Nat->Int}(H:uB a i j g)(hj:a<j)(hji:j<=i)(hl:g j<g (j-1)):uB a i (j-1) (swp g j (j-1)):=λp q h1 h2 h3 h4=>by
 by_cases hq:q=j
 ·subst hq;rw[ib];by_cases hp:p=q-1
  ·subst hp;rw[lQ];omega
  ·rw[df g Y hp];exact H p (q-1) h1 Y Y Y
 ·rw[df g hq h4];by_cases hp:p=j
  ·subst hp;rw[ib];exact H (p-1) q Y Y h3 hq
  ·by_cases hp':p=j-1
   ·subst hp';rw[lQ];exact H j q Y Y h3 hq
   ·rw[df g hp hp'];exact H p q h1 h2 h3 hq
def bI(q:IntKind)(h:aA)(b n:Nat)(g:Nat->Int)(sp:List Value):Prop:=At h b (bS n (λk=> .int q (g k))++sp)
def bI.rd{q:IntKind}{h:aA}{b n:Nat}{g:Nat->Int}{sp:List Value}(A:bI q h b n g sp){k:Nat}(hk:k<n):Ev.rd h ⟨b,k,none⟩=some (.int q (g k)):=by rw[At.rd A,List.getElem?_append_left (by rw[bu];exact hk),bY hk]
def bI.only{q:IntKind}{h h':aA}{b n:Nat}{g:Nat->Int}{sp:List Value}(A:bI q h b n g sp){S:List Nat}(O:aF S h h')(hb:b∉S):bI q h' b n g sp:=At.only A O hb
def bI.st{q:IntKind}{h:aA}{b n:Nat}{g:Nat->Int}{sp:List Value}(A:bI q h b n g sp){k:Nat}(hk:k<n){v:Int}{K:aA->Prop}
  (hK: ∀h',bI q h' b n (λj=>if j=k then v else g j) sp->aF [b] h h'->K h'):aP h ⟨b,k,none⟩ (.int q v) K:=
 aK A (by simp[bu];omega) rfl λh' A' O' _=>hK h' (by
  have e:(bS n (λj=>Value.int q (g j))++sp).set k (.int q v)=bS n (λj=>Value.int q (if j=k then v else g j))++sp:=by
   rw[List.set_append_left _ _ (by rw[bu];exact hk),dS]
   congr 1
   apply dg;intro j _;split<;>rfl
  rw[e]at A';exact A') O'
def bI.ld{q:IntKind}{h:aA}{b n:Nat}{g:Nat->Int}{sp:List Value}(A:bI q h b n g sp){x:Int}{k:Nat}(hx:x=k)(hk:k<n){Q:Int->Prop}(hQ:Q (g k)):
  aN (some (ah b)) λa=>(0<=x/\x<(n:Int)/\aI q (Ev.rd h (Addr.add a (Int.toNat x*1))) Q):=by
 subst hx;rw[aL];refine⟨Y,Y,?_⟩;rw[aE,show 0+Int.toNat (k:Int)*1=k by omega,A.rd hk,aU];exact hQ
def bI.sto{q:IntKind}{h:aA}{b n:Nat}{g:Nat->Int}{sp:List Value}(A:bI q h b n g sp){x:Int}{k:Nat}(hx:x=k)(hk:k<n){v:Int}{K:aA->Prop}
  (hK: ∀h',bI q h' b n (λj=>if j=k then v else g j) sp->aF [b] h h'->K h'):
  aN (some (ah b)) λa=>(0<=x/\x<(n:Int)/\aP h (Addr.add (Addr.add a (Int.toNat x*1)) 0) (.int q v) K):=by
 subst hx;rw[aL];refine⟨Y,Y,?_⟩;rw[aE,aE,show 0+Int.toNat (k:Int)*1+0=k by omega];exact A.st hk hK
end
section
variable {i j k l m n o p q r s t:Int}{a b c d:Addr}{u v:Nat}{x y:ak}{h:aA}{K:KK}
def F67.spec(H:aZ h (.map #[] 0) λa b=>0<=(if 4<(if 1>i then 1 else i)then 4 else(if 1>i then 1 else i))/\(if 4<(if 1>i then 1 else i)then 4 else(if 1>i then 1 else i))<=(if 4<(if 1>i then 1 else i)then 4 else(if 1>i then 1 else i))/\(24*(if 4<(if 1>i then 1 else i)then 4 else(if 1>i then 1 else i))<=281474976710656)/\(if 4<(if 1>i then 1 else i)then 4 else(if 1>i then 1 else i))<=9223372036854775807/\aZ b (.cells (madeCells #[.slice none 0 0] ((if 4<(if 1>i then 1 else i)then 4 else(if 1>i then 1 else i)).toNat*1)) 56) λb c=>aZ c (.cells #[.map (some a),.slice (some (ah b)) ((if 4<(if 1>i then 1 else i)then 4 else(if 1>i then 1 else i)).toNat) ((if 4<(if 1>i then 1 else i)then 4 else(if 1>i then 1 else i)).toNat)] 207) λa b=>K (ag (ah a)) b):Cl 67 [ac i] h K:=cN Tryz.func67 H
def F174.T:bf:=⟨[],[(3,[[(0,[]),(1,[]),(2,[]),(3,[]),(4,[]),(5,[]),(6,[]),(7,[]),(8,[]),(9,[]),(10,[]),(11,[]),(12,[]),(13,[0,1,2,3,4,5,6,7,8,9,10,11]),(14,[0,1,2,3,4]),(15,[]),(16,[])]])]⟩
def F174.spec(H:aC (i<0) (K aq h) (cW (rd h (a.add 1)) λ_ b _=>aC (i>=(b:Int)) (K aq h) (cW (rd h (a.add 1)) λb c d=>cW (rd h (a.add 1)) λe f g=>aN e λk=>0<=i/\i<(f:Int)/\cW (rd h (k.add (i.toNat*1))) λl m n=>aZ h (.cells #[ae j] 46) λj o=>ay (ag a)/\ay (ag a)/\ay (ag (a.add 1))/\cW (rd o (a.add 1)) λp q r=>az (.slice p q r) (.slice b c d)/\ay (ac i)/\ay (ag a)/\ay (ag a)/\ay (ag (a.add 1))/\cW (rd o (a.add 1)) λp q r=>az (.slice p q r) (.slice e f g)/\ay (ac i)/\aN e λe=>0<=i/\i<(f:Int)/\az (ag (e.add (i.toNat*1))) (ag (k.add (i.toNat*1)))/\cW (rd o (k.add (i.toNat*1))) λe f g=>az (.slice e f g) (.slice l m n)/\fA o 46 1 4 #[ae 0] l m n (some (ah j)) 1 λe f g j=>ay (ag a)/\ay (ag a)/\ay (ag (a.add 1))/\cW (rd j (a.add 1)) λa k l=>az (.slice a k l) (.slice b c d)/\ay (ac i)/\aN b λa=>0<=i/\i<(c:Int)/\aP j ((a.add (i.toNat*1)).add 0) (.slice e f g) λa=>K au a))):Cl 174 [ag a,ac i,ae j] h K:=cT F174.T Tryz.func174 H
def F176.T:bf:=⟨[],[(5,[[(0,[]),(1,[]),(2,[]),(3,[]),(4,[]),(5,[]),(6,[]),(7,[]),(8,[]),(9,[]),(10,[])]])]⟩
def F176.spec(H:Cl 219 [ag a,ac i] h λb c=>aI .i64 (some b) λb=>aC (b==0) (K (.tuple #[ae 0,aq]) c) (cW (rd c (a.add 1)) λd e _=>aN d λd=>0<=i/\i<(e:Int)/\cW (rd c (d.add (i.toNat*1))) λd e f=>cW (rd c (a.add 1)) λa g _=>0<=(ai (b-1))/\(ai (b-1))<=(f:Int)/\aN a λa=>0<=i/\i<(g:Int)/\aP c ((a.add (i.toNat*1)).add 0) (.slice (if f=0 then d else Option.map (λa=>Addr.add a (0*1)) d) ((ai (b-1)).toNat-0) (f-0)) λa=>aN d λc=>0<=(ai (b-1))/\(ai (b-1))<(e:Int)/\aI .u32 (rd a (c.add ((ai (b-1)).toNat*1))) λb=>K (.tuple #[ae b,au]) a)):Cl 176 [ag a,ac i] h K:=cT F176.T Tryz.func176 H
def F219.spec(H:aC (i<0) (K (ac 0) h) (cW (rd h (a.add 1)) λ_ b _=>aC (i>=(b:Int)) (K (ac 0) h) (cW (rd h (a.add 1)) λa b _=>aN a λa=>0<=i/\i<(b:Int)/\cW (rd h (a.add (i.toNat*1))) λ_ a _=>K (ac (a:Int)) h))):Cl 219 [ag a,ac i] h K:=cN Tryz.func219 H
def F213.T:bf:=⟨[(3,[3,15,16,17]),(7,[3])],[]⟩
section
variable (n:Nat)(l:Addr)(g:ak)(f d:Nat)(b:ak)(a i:Nat)(j c:Int)(h:aA)(K:KK)
def F213.wk7:Prop:=Cl 260 [.slice g f d] h λa b=>a=ax/\Cl 261 [.slice g f d] b λa b=>cW (some a) λa c d=>Cl 262 [.slice a c d,.func (.func 263) #[] #[]] b λa b=>cW (some a) λa c d=>K (.slice a c d) b
def F213.wL3:Prop:=Lp Tryz.f213 F213.T [1,1,0,1,0] n [(3,(.slice g f d)),(15,(.slice b a i)),(16,(ac j)),(17,(ac c))] h K
def F213.sL3:F213.wL3 (n+1) g f d b a i j c h K=(aC (c<j) (aN b λe=>0<=c/\c<(a:Int)/\cW (rd h (e.add (c.toNat*1))) λe k _=>fA h 46 1 4 #[ae 0] g f d e k λd e f g=>F213.wL3 n d e f b a i j (ai (c+1)) g K) (F213.wk7 g f d h K)):=by kernel_rfl
def F213.wk3:Prop:=(∃e,F213.wL3 e g f d b a i j c h K)
def F213.spec(H:nT (rd h (l.add 0)) λa=>Cl 259 [.map a] h λa b=>qW (some a) λa=>Cl 258 [a] b λa b=>cW (some a) λa c d=>cW (rd b (l.add 1)) λe f g=>F213.wk3 a c d e f g (f:Int) 0 b K):Cl 213 [ag l] h K:=cT F213.T Tryz.func213 H
end
def F209.spec(H:nT (rd h (a.add 0)) λb=>dW h b .u32 .u32 i λb=>aI .i64 (some (lS (ac 0) b)) λb=>aC (b==0) (K (ac 61) h) (nT (rd h (a.add 0)) λb=>dW h b .u32 .u32 i λc=>aI .i64 (some (lS (ac 0) c)) λc=>qv h b .u32 .u32 i (ac (ai (c-1))) λb=>nT (rd b (a.add 0)) λc=>dW b c .u32 .u32 i λc=>aI .i64 (some (lS (ac 0) c)) λc=>aC (c==0) (nT (rd b (a.add 0)) λa=>zp b a .u32 .u32 i λa=>K (ac 0) a) (K (ac 0) b))):Cl 209 [ag a,ae i] h K:=cN Tryz.func209 H
def F210.spec(H:nT (rd h (a.add 0)) λa=>dW h a .u32 .u32 i λb=>aI .i64 (some (lS (ac 0) b)) λb=>qv h a .u32 .u32 i (ac (ai (b+1))) λa=>K ax a):Cl 210 [ag a,ae i] h K:=cN Tryz.func210 H
def F258.spec(H:Cl 292 [.slice none 0 0,.func (.func 293) #[] #[ag a]] h λa b=>cW (some a) λa c d=>K (.slice a c d) b):Cl 258 [.func (.func 293) #[] #[ag a]] h K:=cN Tryz.func258 H
def F259.spec(a:Option Nat)(h:aA)(K:KK)(H:aZ h (.cells #[.map a] 204) λa b=>K (.func (.func 293) #[] #[ag (ah a)]) b):Cl 259 [.map a] h K:=cN Tryz.func259 H
def F260.spec(H:Cl 295 [af (IntKind.wrap .u64 (u:Int))] h λa b=>aI .i64 (some a) λa=>Cl 294 [.slice x u v,ac 0,ac (u:Int),ac a] b λa b=>a=ax/\K ax b):Cl 260 [.slice x u v] h K:=cN Tryz.func260 H
namespace F261
def T:bf:=⟨[(4,[0,3]),(9,[0,3,4,5]),(14,[0,3])],[(6,[[(0,[]),(1,[]),(2,[]),(3,[]),(4,[]),(5,[]),(6,[]),(7,[]),(8,[]),(9,[])]]),(11,[[(0,[]),(1,[]),(2,[]),(3,[]),(4,[]),(5,[]),(6,[]),(7,[]),(8,[]),(9,[])]])]⟩
noncomputable def body:Code:=(Tryz.f261.body).getD .skip
noncomputable def en(S:aS)(p:List Nat)(κ:XK):Fr->aA->Prop:=E Tryz.prog X T S (sub body p) κ
noncomputable def ln(S:aS)(p:List Nat)(κ:XK)(n:Nat):Fr->aA->Prop:=fQ S (E Tryz.prog X T S (sub body p)) (bJ T (sub body p)) κ n
def fn(K:KK):XK:=fin Tryz.prog Tryz.f261.results.toList K
noncomputable def c0(S:aS)(K:KK):XK:=dM S (bJ T (sub body [1,1,1])) (en S [1,1,1] (fn K)) (fn K)
noncomputable def c1(S:aS)(K:KK):XK:=br 0 (c0 S K)
noncomputable def c2(S:aS)(n4:Nat)(K:KK):XK:=cO S (bJ T (sub body [1,1,0,1,0,0])) (ln S [1,1,0,1,0,0] (c1 S K) n4) (c1 S K)
noncomputable def c3(S:aS)(n4:Nat)(K:KK):XK:=dM S (bJ T (sub body [1,1,0,1,0,0,1,1])) (en S [1,1,0,1,0,0,1,1] (c2 S n4 K)) (c2 S n4 K)
noncomputable def c4(S:aS)(n4:Nat)(K:KK):XK:=br 1 (c3 S n4 K)
noncomputable def c5(S:aS)(n4:Nat)(K:KK):XK:=dM S (bJ T (sub body [1,1,0,1,0,0,1,0,0,1,0,1,1])) (en S [1,1,0,1,0,0,1,0,0,1,0,1,1] (c4 S n4 K)) (c4 S n4 K)
noncomputable def c6(S:aS)(n4:Nat)(K:KK):XK:=br 2 (c5 S n4 K)
noncomputable def c7(S:aS)(n4:Nat)(n9:Nat)(K:KK):XK:=cO S (bJ T (sub body [1,1,0,1,0,0,1,0,0,1,0,1,0,1,0,0])) (ln S [1,1,0,1,0,0,1,0,0,1,0,1,0,1,0,0] (c6 S n4 K) n9) (c6 S n4 K)
def f4(c:ak)(b d:Nat)(f:Int):Fr:=[(0,(.slice c b d)),(3,(ac f))]
def f9(c:ak)(b d:Nat)(f:Int)(i:ak)(g j:Nat)(l:Int):Fr:=[(0,(.slice c b d)),(3,(ac f)),(4,(.slice i g j)),(5,(ac l))]
def f14(c:ak)(b d:Nat)(f:Int):Fr:=[(0,(.slice c b d)),(3,(ac f))]
def J0(k4:(ak)->Nat->Nat->Int->aA->Prop)(c:ak)(b d:Nat)(h:aA)(K:KK):Prop:=
 aC (decide ((Nat.cast b:Int)<(2:Int))) (K (.slice c b d) h) (k4 c b d (1:Int) h)
def E0(S:aS)(c:ak)(b d:Nat)(h:aA)(K:KK):(E Tryz.prog X T S body (fin Tryz.prog Tryz.f261.results.toList K) (cx 0 [(.slice c b d)]) h)=J0 (λc b d f h=>S (en S [1,1,0,1] (c0 S K)) (f4 c b d f) h) c b d h K:=by kernel_rfl
def Jk4(lp4:(ak)->Nat->Nat->Int->aA->Prop)(c:ak)(b d:Nat)(f:Int)(h:aA)(_K:KK):Prop:=
 lp4 c b d f h
def Ek4(S:aS)(c:ak)(b d:Nat)(f:Int)(h:aA)(K:KK):(en S [1,1,0,1] (c0 S K) (f4 c b d f) h)=Jk4 (λc b d f h=> ∃n,S (ln S [1,1,0,1,0,0] (c1 S K) n) (f4 c b d f) h) c b d f h K:=by kernel_rfl
def JL4(k9:(ak)->Nat->Nat->Int->(ak)->Nat->Nat->Int->aA->Prop)(bk4:(ak)->Nat->Nat->Int->aA->Prop)(c:ak)(b d:Nat)(f:Int)(h:aA)(K:KK):Prop:=
 aC (decide (f<(Nat.cast b:Int))) (aN c (λa1=>(0<=f/\f<(Nat.cast b:Int)/\aI .u32 (rd h (a1.add (Int.toNat f*1))) (λn2=>aN c (λa3=>(0<=(ai (f-(1:Int)))/\(ai (f-(1:Int)))<(Nat.cast b:Int)/\aI .u32 (rd h (a3.add (Int.toNat (ai (f-(1:Int)))*1))) (λn4=>aC (n2==n4) ((0<=f/\f<=(Nat.cast b:Int)/\k9 c b d f (if d=(Int.toNat f)then c else Option.map (λa=>Addr.add a ((Int.toNat f)*1)) c) (b-(Int.toNat f)) (d-(Int.toNat f)) (1:Int) h)) (bk4 c b d (ai (f+(1:Int))) h)))))))) (K (.slice c b d) h)
def EL4(S:aS)(n4:Nat)(c:ak)(b d:Nat)(f:Int)(h:aA)(K:KK):(en S [1,1,0,1,0,0] (c2 S n4 K) (f4 c b d f) h)=JL4 (λc b d f i g j l h=>S (en S [1,1,0,1,0,0,1,0,0,1,0,1,0,1] (c5 S n4 K)) (f9 c b d f i g j l) h) (λc b d f h=>S (ln S [1,1,0,1,0,0] (c1 S K) n4) (f4 c b d f) h) c b d f h K:=by kernel_rfl
def Jk9(lp9:(ak)->Nat->Nat->Int->(ak)->Nat->Nat->Int->aA->Prop)(c:ak)(b d:Nat)(f:Int)(i:ak)(g j:Nat)(l:Int)(h:aA)(_K:KK):Prop:=
 lp9 c b d f i g j l h
def Ek9(S:aS)(n4:Nat)(c:ak)(b d:Nat)(f:Int)(i:ak)(g j:Nat)(l:Int)(h:aA)(K:KK):(en S [1,1,0,1,0,0,1,0,0,1,0,1,0,1] (c5 S n4 K) (f9 c b d f i g j l) h)=Jk9 (λc b d f i g j l h=> ∃n,S (ln S [1,1,0,1,0,0,1,0,0,1,0,1,0,1,0,0] (c6 S n4 K) n) (f9 c b d f i g j l) h) c b d f i g j l h K:=by kernel_rfl
def JL9(bk9:(ak)->Nat->Nat->Int->(ak)->Nat->Nat->Int->aA->Prop)(k14:(ak)->Nat->Nat->Int->aA->Prop)(c:ak)(b d:Nat)(f:Int)(i:ak)(g j:Nat)(l:Int)(h:aA)(_K:KK):Prop:=
 aC (decide (l<(Nat.cast g:Int))) (aN i (λa1=>(0<=l/\l<(Nat.cast g:Int)/\aI .u32 (rd h (a1.add (Int.toNat l*1))) (λn2=>aN i (λa3=>(0<=(ai (l-(1:Int)))/\(ai (l-(1:Int)))<(Nat.cast g:Int)/\aI .u32 (rd h (a3.add (Int.toNat (ai (l-(1:Int)))*1))) (λn4=>aC (n2 !=n4) (aN i (λa5=>(0<=l/\l<(Nat.cast g:Int)/\aI .u32 (rd h (a5.add (Int.toNat l*1))) (λn6=>aN c (λa7=>(0<=f/\f<(Nat.cast b:Int)/\aP h ((a7.add (Int.toNat f*1)).add 0) (ae n6) (λh8=>bk9 c b d (ai (f+(1:Int))) i g j (ai (l+(1:Int))) h8))))))) (bk9 c b d f i g j (ai (l+(1:Int))) h)))))))) (k14 c b d f h)
def EL9(S:aS)(n4:Nat)(n9:Nat)(c:ak)(b d:Nat)(f:Int)(i:ak)(g j:Nat)(l:Int)(h:aA)(K:KK):(en S [1,1,0,1,0,0,1,0,0,1,0,1,0,1,0,0] (c7 S n4 n9 K) (f9 c b d f i g j l) h)=JL9 (λc b d f i g j l h=>S (ln S [1,1,0,1,0,0,1,0,0,1,0,1,0,1,0,0] (c6 S n4 K) n9) (f9 c b d f i g j l) h) (λc b d f h=>S (en S [1,1,0,1,0,0,1,0,0,1,0,1,1] (c4 S n4 K)) (f14 c b d f) h) c b d f i g j l h K:=by kernel_rfl
def Jk14(c:ak)(b d:Nat)(f:Int)(h:aA)(K:KK):Prop:=
 (0<=f/\f<=(Nat.cast b:Int)/\sq h #[(ae 0)] (if d=(Int.toNat f)then c else Option.map (λa=>Addr.add a ((Int.toNat f)*1)) c) (b-(Int.toNat f)) (λh1=>(0<=f/\f<=(Nat.cast d:Int)/\K (.slice (if d=0 then c else Option.map (λa=>Addr.add a (0*1)) c) (Int.toNat f-0) (d-0)) h1)))
def Ek14(S:aS)(n4:Nat)(c:ak)(b d:Nat)(f:Int)(h:aA)(K:KK):(en S [1,1,0,1,0,0,1,0,0,1,0,1,1] (c4 S n4 K) (f14 c b d f) h)=Jk14 c b d f h K:=by kernel_rfl
def wk14(_bk4:(ak)->Nat->Nat->Int->aA->Prop)(c:ak)(b d:Nat)(f:Int)(h:aA)(K:KK):Prop:=
 Jk14 c b d f h K
def ek14(K:KK)(n4:Nat)(bk4:(ak)->Nat->Nat->Int->aA->Prop)(hb4: ∀(c:ak) (b d:Nat) (f:Int) (h:aA),(ln S0 [1,1,0,1,0,0] (c1 S0 K) n4 (f4 c b d f) h)=bk4 c b d f h)(c:ak)(b d:Nat)(f:Int)(h:aA):(en S0 [1,1,0,1,0,0,1,0,0,1,0,1,1] (c4 S0 n4 K) (f14 c b d f) h)=wk14 bk4 c b d f h K:=(Ek14 S0 n4 c b d f h K).trans (rfl)
def wL9(bk4:(ak)->Nat->Nat->Int->aA->Prop):Nat->(ak)->Nat->Nat->Int->(ak)->Nat->Nat->Int->aA->KK->Prop
 |0,_,_,_,_,_,_,_,_,_,_=>False
 |n+1,c,b,d,f,i,g,j,l,h,K=>JL9 (λc b d f i g j l h=>wL9 bk4 n c b d f i g j l h K) (λc b d f h=>wk14 bk4 c b d f h K) c b d f i g j l h K
def eL9(K:KK)(n4:Nat)(bk4:(ak)->Nat->Nat->Int->aA->Prop)(hb4: ∀(c:ak) (b d:Nat) (f:Int) (h:aA),(ln S0 [1,1,0,1,0,0] (c1 S0 K) n4 (f4 c b d f) h)=bk4 c b d f h): ∀(n:Nat) (c:ak) (b d:Nat) (f:Int) (i:ak) (g j:Nat) (l:Int) (h:aA),(ln S0 [1,1,0,1,0,0,1,0,0,1,0,1,0,1,0,0] (c6 S0 n4 K) n (f9 c b d f i g j l) h)=wL9 bk4 n c b d f i g j l h K
 |0,_,_,_,_,_,_,_,_,_=>rfl
 |n+1,c,b,d,f,i,g,j,l,h=>(EL9 S0 n4 n c b d f i g j l h K).trans (mM (λq0 q1=>JL9 q0 q1 c b d f i g j l h K) (by funext c b d f i g j l h;exact(λc b d f i g j l h=>eL9 K n4 bk4 hb4 n c b d f i g j l h) c b d f i g j l h) (by funext c b d f h;exact ek14 K n4 bk4 hb4 c b d f h))
def wk9(bk4:(ak)->Nat->Nat->Int->aA->Prop)(c:ak)(b d:Nat)(f:Int)(i:ak)(g j:Nat)(l:Int)(h:aA)(K:KK):Prop:=
 Jk9 (λc b d f i g j l h=> ∃m,wL9 bk4 m c b d f i g j l h K) c b d f i g j l h K
def ek9(K:KK)(n4:Nat)(bk4:(ak)->Nat->Nat->Int->aA->Prop)(hb4: ∀(c:ak) (b d:Nat) (f:Int) (h:aA),(ln S0 [1,1,0,1,0,0] (c1 S0 K) n4 (f4 c b d f) h)=bk4 c b d f h)(c:ak)(b d:Nat)(f:Int)(i:ak)(g j:Nat)(l:Int)(h:aA):(en S0 [1,1,0,1,0,0,1,0,0,1,0,1,0,1] (c5 S0 n4 K) (f9 c b d f i g j l) h)=wk9 bk4 c b d f i g j l h K:=(Ek9 S0 n4 c b d f i g j l h K).trans (fX (λq0=>Jk9 q0 c b d f i g j l h K) (by funext c b d f i g j l h;exact bq λm=>eL9 K n4 bk4 hb4 m c b d f i g j l h))
def wL4:Nat->(ak)->Nat->Nat->Int->aA->KK->Prop
 |0,_,_,_,_,_,_=>False
 |n+1,c,b,d,f,h,K=>JL4 (λc b d f i g j l h=>wk9 (λc b d f h=>wL4 n c b d f h K) c b d f i g j l h K) (λc b d f h=>wL4 n c b d f h K) c b d f h K
def eL4(K:KK): ∀(n:Nat) (c:ak) (b d:Nat) (f:Int) (h:aA),(ln S0 [1,1,0,1,0,0] (c1 S0 K) n (f4 c b d f) h)=wL4 n c b d f h K
 |0,_,_,_,_,_=>rfl
 |n+1,c,b,d,f,h=>(EL4 S0 n c b d f h K).trans (mM (λq0 q1=>JL4 q0 q1 c b d f h K) (by funext c b d f i g j l h;exact ek9 K n (λc b d f h=>wL4 n c b d f h K) (λc b d f h=>eL4 K n c b d f h) c b d f i g j l h) (by funext c b d f h;exact(λc b d f h=>eL4 K n c b d f h) c b d f h))
def wk4(c:ak)(b d:Nat)(f:Int)(h:aA)(K:KK):Prop:=
 Jk4 (λc b d f h=> ∃m,wL4 m c b d f h K) c b d f h K
def ek4(K:KK)(c:ak)(b d:Nat)(f:Int)(h:aA):(en S0 [1,1,0,1] (c0 S0 K) (f4 c b d f) h)=wk4 c b d f h K:=(Ek4 S0 c b d f h K).trans (fX (λq0=>Jk4 q0 c b d f h K) (by funext c b d f h;exact bq λm=>eL4 K m c b d f h))
def w(c:ak)(b d:Nat)(h:aA)(K:KK):Prop:=
 J0 (λc b d f h=>wk4 c b d f h K) c b d h K
def e0(K:KK)(c:ak)(b d:Nat)(h:aA):(E Tryz.prog X T S0 body (fin Tryz.prog Tryz.f261.results.toList K) (cx 0 [(.slice c b d)]) h)=w c b d h K:=(E0 S0 c b d h K).trans (fX (λq0=>J0 q0 c b d h K) (by funext c b d f h;exact ek4 K c b d f h))
def hb:Tryz.f261.body=some body:=by kernel_rfl
def ok:bZ T Tryz.f261.ntmps body=true:=by kernel_rfl
def spec(c:ak)(b d:Nat)(h:aA)(K:KK)(H:w c b d h K):Cl 261 [(.slice c b d)] h K:=
 cf (T:=T) xK xJ Tryz.func261 hb ok rfl (by rw[e0];exact H)
end F261
def F262.T:bf:=⟨[(5,[0,1,5,6]),(11,[0,5])],[]⟩
section
variable (n:Nat)(b:ak)(c d:Nat)(i:Value)(f g:Int)(h:aA)(K:KK)
def F262.wk11:Prop:=(0<=f/\f<=(c:Int)/\sq h #[ae 0] (if d=(f.toNat)then b else Option.map (λa=>Addr.add a ((f.toNat)*1)) b) (c-(f.toNat)) λa=>0<=f/\f<=(d:Int)/\K (.slice (if d=0 then b else Option.map (λa=>Addr.add a (0*1)) b) (f.toNat-0) (d-0)) a)
def F262.wL5:Prop:=Lp Tryz.f262 F262.T [1,1,1,0,1,0] n [(0,(.slice b c d)),(1,i),(5,(ac f)),(6,(ac g))] h K
def F262.sL5:F262.wL5 (n+1) b c d i f g h K=(aC (g<(c:Int)) (aN b λa=>0<=g/\g<(c:Int)/\aI .u32 (rd h (a.add (g.toNat*1))) λa=>gn Tryz.prog X i [ae a] h λe j=>bA (some e) λe=>aC (!e) (aN b λe=>0<=f/\f<(c:Int)/\aP j ((e.add (f.toNat*1)).add 0) (ae a) λa=>F262.wL5 n b c d i (ai (f+1)) (ai (g+1)) a K) (F262.wL5 n b c d i f (ai (g+1)) j K)) (F262.wk11 b c d f h K)):=by kernel_rfl
def F262.wk5:Prop:=(∃a,F262.wL5 a b c d i f g h K)
def F262.spec(H:Cl 296 [.slice b c d,.func (.func 263) #[] #[]] h λa e=>aI .i64 (some a) λa=>aC (a==(-1)) (K (.slice b c d) e) (F262.wk5 b c d (.func (.func 263) #[] #[]) a (ai (a+1)) e K)):Cl 262 [.slice b c d,.func (.func 263) #[] #[]] h K:=cT F262.T Tryz.func262 H
end
def F263.spec(H:K (aw (i<=1)) h):Cl 263 [ae i] h K:=cN Tryz.func263 H
def F296.T:bf:=⟨[(2,[0,1,7,8])],[]⟩
section
variable (n:Nat)(b:ak)(a c:Nat)(f:Value)(g d:Int)(h:aA)(K:KK)
def F296.wL2:Prop:=Lp Tryz.f296 F296.T [1,0,1,0] n [(0,(.slice b a c)),(1,f),(7,(ac g)),(8,(ac d))] h K
def F296.sL2:F296.wL2 (n+1) b a c f g d h K=(aC (d<g) (aN b λe=>0<=d/\d<(a:Int)/\aI .u32 (rd h (e.add (d.toNat*1))) λe=>gn Tryz.prog X f [ae e] h λe i=>bA (some e) λe=>aC e (K (ac d) i) (F296.wL2 n b a c f g (ai (d+1)) i K)) (K (ac (-1)) h)):=by kernel_rfl
def F296.wk2:Prop:=(∃e,F296.wL2 e b a c f g d h K)
def F296.spec(H:F296.wk2 b a c (.func (.func 263) #[] #[]) (a:Int) 0 h K):Cl 296 [.slice b a c,.func (.func 263) #[] #[]] h K:=cT F296.T Tryz.func296 H
end
end
section
variable {i j k l m n o p q r s t:Int}{a b c d:Addr}{u v:Nat}{x y:ak}{h:aA}{K:KK}
def F295.spec(H:Cl 323 [af i] h λa b=>aI .i64 (some a) λa=>K (ac a) b):Cl 295 [af i] h K:=cN Tryz.func295 H
def F323.T:bf:=⟨[(4,[0,2]),(7,[0,2]),(10,[0,2])],[]⟩
section
variable (a b:Int)(h:aA)(K:KK)
def F323.wk10:Prop:=(0<=(IntKind.wrap .u8 a)/\xN (ByteArray.mk #[0,1,2,2,3,3,3,3,4,4,4,4,4,4,4,4,5,5,5,5,5,5,5,5,5,5,5,5,5,5,5,5,6,6,6,6,6,6,6,6,6,6,6,6,6,6,6,6,6,6,6,6,6,6,6,6,6,6,6,6,6,6,6,6,7,7,7,7,7,7,7,7,7,7,7,7,7,7,7,7,7,7,7,7,7,7,7,7,7,7,7,7,7,7,7,7,7,7,7,7,7,7,7,7,7,7,7,7,7,7,7,7,7,7,7,7,7,7,7,7,7,7,7,7,7,7,7,7,8,8,8,8,8,8,8,8,8,8,8,8,8,8,8,8,8,8,8,8,8,8,8,8,8,8,8,8,8,8,8,8,8,8,8,8,8,8,8,8,8,8,8,8,8,8,8,8,8,8,8,8,8,8,8,8,8,8,8,8,8,8,8,8,8,8,8,8,8,8,8,8,8,8,8,8,8,8,8,8,8,8,8,8,8,8,8,8,8,8,8,8,8,8,8,8,8,8,8,8,8,8,8,8,8,8,8,8,8,8,8,8,8,8,8,8,8,8,8,8,8,8,8,8,8,8,8,8]) (IntKind.wrap .u8 a) λa=>K (ac (ai (b+(ai a)))) h)
def F323.wk7:Prop:=aC (a>=256) ((0<=(8:Int)/\F323.wk10 (Int.fdiv a (2^(min (Int.toNat 8) (IntKind.bits .u64)))) (ai (b+8)) h K)) (F323.wk10 a b h K)
def F323.wk4:Prop:=aC (a>=65536) ((0<=(16:Int)/\F323.wk7 (Int.fdiv a (2^(min (Int.toNat 16) (IntKind.bits .u64)))) (ai (b+16)) h K)) (F323.wk7 a b h K)
end
def F323.spec(H:aC (i>=4294967296) ((0<=(32:Int)/\F323.wk4 (Int.fdiv i (2^(min (Int.toNat 32) (IntKind.bits .u64)))) 32 h K)) (F323.wk4 i 0 h K)):Cl 323 [af i] h K:=cT F323.T Tryz.func323 H
def F294.T:bf:=⟨[(2,[0,1,2,3,8,9]),(10,[0,1,2,3,8,9,10]),(15,[0,1,2,3,8,9,10,11,12]),(17,[0,1,2,3,8,9,10,11])],[(17,[[(0,[]),(1,[]),(2,[]),(3,[]),(4,[]),(5,[]),(6,[]),(7,[]),(8,[]),(9,[]),(10,[]),(11,[]),(12,[]),(13,[]),(14,[])]])]⟩
section
variable (bk2:(ak)->Nat->Nat->Int->Int->Int->Bool->Bool->aA->Prop)(n:Nat)(b:ak)(a c:Nat)(d f g:Int)(l o:Bool)(i j q:Int)(h:aA)(K:KK)
def F294.wk17(bk2:(ak)->Nat->Nat->Int->Int->Int->Bool->Bool->aA->Prop)(b:ak)(a c:Nat)(d f g:Int)(l o:Bool)(i j:Int)(h:aA)(K:KK):Prop:=aC (d>0) (aN b λe=>0<=(ai (d-1))/\(ai (d-1))<(a:Int)/\aI .u32 (rd h (e.add ((ai (d-1)).toNat*1))) λe=>aN b λk=>0<=j/\j<(a:Int)/\aI .u32 (rd h (k.add (j.toNat*1))) λk=>Cl 319 [ae e,ae k] h λe k=>bA (some e) λe=>aC (!e) (Cl 320 [.slice b a c,ac d,ac f,ac j] k λd e=>aI .i64 (some d) λd=>bk2 b a c d f g l o e) (Cl 321 [.slice b a c,ac d,ac f,ac j] k λe j=> ∃k:Int,∃l:Bool,e=(.tuple #[ac k,aw l])/\(8:Int)≠0/\aC ((ai (k-d))<(ai (f-k))) (Cl 294 [.slice b a c,ac d,ac k,ac g] j λe j=>e=ax/\bk2 b a c (ai (k+1)) f g (decide ((ai (k-d))>=(ai (Int.tdiv i 8)))) l j) (Cl 294 [.slice b a c,ac (ai (k+1)),ac f,ac g] j λe j=>e=ax/\bk2 b a c d k g (decide ((ai (f-k))>=(ai (Int.tdiv i 8)))) l j))) (Cl 321 [.slice b a c,ac d,ac f,ac j] h λe j=> ∃k:Int,∃l:Bool,e=(.tuple #[ac k,aw l])/\(8:Int)≠0/\aC ((ai (k-d))<(ai (f-k))) (Cl 294 [.slice b a c,ac d,ac k,ac g] j λe j=>e=ax/\bk2 b a c (ai (k+1)) f g (decide ((ai (k-d))>=(ai (Int.tdiv i 8)))) l j) (Cl 294 [.slice b a c,ac (ai (k+1)),ac f,ac g] j λe j=>e=ax/\bk2 b a c d k g (decide ((ai (f-k))>=(ai (Int.tdiv i 8)))) l j))
def F294.wk15:Prop:=aC l (aC o (aC (q==1) (Cl 318 [.slice b a c,ac d,ac f] h λe k=>bA (some e) λe=>aC e (K ax k) (F294.wk17 bk2 b a c d f g l o i j k K)) (F294.wk17 bk2 b a c d f g l o i j h K)) (F294.wk17 bk2 b a c d f g l o i j h K)) (F294.wk17 bk2 b a c d f g l o i j h K)
def F294.wk10:Prop:=Cl 316 [.slice b a c,ac d,ac f] h λe j=> ∃k:Int,∃m:Int,e=(.tuple #[ac k,ac m])/\aC (m==2) (Cl 317 [.slice b a c,ac d,ac f] j λe j=>e=ax/\F294.wk15 bk2 b a c d f g l o i (ai ((ai (f-1))-(ai (k-d)))) 1 j K) (F294.wk15 bk2 b a c d f g l o i k m j K)
def F294.wL2:Prop:=Lp Tryz.f294 F294.T [1,1,0] n [(0,(.slice b a c)),(1,(ac d)),(2,(ac f)),(3,(ac g)),(8,(aw l)),(9,(aw o))] h K
def F294.sL2:F294.wL2 (n+1) b a c d f g l o h K=(aC ((ai (f-d))<=12) (Cl 313 [.slice b a c,ac d,ac f] h λa b=>a=ax/\K ax b) (aC (g==0) (Cl 314 [.slice b a c,ac d,ac f] h λa b=>a=ax/\K ax b) (aC (!l) (Cl 315 [.slice b a c,ac d,ac f] h λe i=>e=ax/\F294.wk10 (λa b c d e f g i j=>F294.wL2 n a b c d e f g i j K) b a c d f (ai (g-1)) l o (ai (f-d)) i K) (F294.wk10 (λa b c d e f g i j=>F294.wL2 n a b c d e f g i j K) b a c d f g l o (ai (f-d)) h K)))):=by kernel_rfl
def F294.wk2:Prop:=(∃e,F294.wL2 e b a c d f g l o h K)
def F294.spec(H:F294.wk2 b a c d f g true true h K):Cl 294 [.slice b a c,ac d,ac f,ac g] h K:=cT F294.T Tryz.func294 H
end
namespace F313
def T:bf:=⟨[(1,[0,1,2,6]),(4,[0,1,2,6,7])],[(4,[[(0,[]),(1,[]),(2,[]),(3,[]),(4,[]),(5,[]),(6,[]),(7,[]),(8,[]),(9,[]),(10,[]),(11,[]),(12,[]),(13,[]),(14,[])]]),(6,[[(0,[]),(1,[]),(2,[]),(3,[]),(4,[]),(5,[]),(6,[]),(7,[]),(8,[]),(9,[]),(10,[]),(11,[]),(12,[]),(13,[]),(14,[]),(15,[2,3,4]),(16,[]),(17,[])]])]⟩
noncomputable def body:Code:=(Tryz.f313.body).getD .skip
noncomputable def en(S:aS)(p:List Nat)(κ:XK):Fr->aA->Prop:=E Tryz.prog X T S (sub body p) κ
noncomputable def ln(S:aS)(p:List Nat)(κ:XK)(n:Nat):Fr->aA->Prop:=fQ S (E Tryz.prog X T S (sub body p)) (bJ T (sub body p)) κ n
def fn(K:KK):XK:=fin Tryz.prog Tryz.f313.results.toList K
noncomputable def c0(_S:aS)(K:KK):XK:=br 0 (fn K)
noncomputable def c1(S:aS)(n1:Nat)(K:KK):XK:=cO S (bJ T (sub body [1,0,0])) (ln S [1,0,0] (c0 S K) n1) (c0 S K)
noncomputable def c2(S:aS)(n1:Nat)(K:KK):XK:=dM S (bJ T (sub body [1,0,0,1,1])) (en S [1,0,0,1,1] (c1 S n1 K)) (c1 S n1 K)
noncomputable def c3(S:aS)(n1:Nat)(K:KK):XK:=br 1 (c2 S n1 K)
noncomputable def c4(S:aS)(n1:Nat)(K:KK):XK:=br 2 (c3 S n1 K)
noncomputable def c5(S:aS)(n1:Nat)(n4:Nat)(K:KK):XK:=cO S (bJ T (sub body [1,0,0,1,0,0,1,0,0])) (ln S [1,0,0,1,0,0,1,0,0] (c4 S n1 K) n4) (c4 S n1 K)
def f1(b:ak)(a c:Nat)(d f g:Int):Fr:=[(0,(.slice b a c)),(1,(ac d)),(2,(ac f)),(6,(ac g))]
def f4(b:ak)(a c:Nat)(d f g i:Int):Fr:=[(0,(.slice b a c)),(1,(ac d)),(2,(ac f)),(6,(ac g)),(7,(ac i))]
def J0(k1:(ak)->Nat->Nat->Int->Int->Int->aA->Prop)(b:ak)(a c:Nat)(d f:Int)(h:aA)(_K:KK):Prop:=
 k1 b a c d f (ai (d+(1:Int))) h
def E0(S:aS)(b:ak)(a c:Nat)(d f:Int)(h:aA)(K:KK):(E Tryz.prog X T S body (fin Tryz.prog Tryz.f313.results.toList K) (cx 0 [(.slice b a c),(ac d),(ac f)]) h)=J0 (λb a c d f g h=>S (en S [1] (fn K)) (f1 b a c d f g) h) b a c d f h K:=by kernel_rfl
def Jk1(lp1:(ak)->Nat->Nat->Int->Int->Int->aA->Prop)(b:ak)(a c:Nat)(d f g:Int)(h:aA)(_K:KK):Prop:=
 lp1 b a c d f g h
def Ek1(S:aS)(b:ak)(a c:Nat)(d f g:Int)(h:aA)(K:KK):(en S [1] (fn K) (f1 b a c d f g) h)=Jk1 (λb a c d f g h=> ∃n,S (ln S [1,0,0] (c0 S K) n) (f1 b a c d f g) h) b a c d f g h K:=by kernel_rfl
def JL1(k4:(ak)->Nat->Nat->Int->Int->Int->Int->aA->Prop)(b:ak)(a c:Nat)(d f g:Int)(h:aA)(K:KK):Prop:=
 aC (decide (g<f)) (k4 b a c d f g g h) (K ax h)
def EL1(S:aS)(n1:Nat)(b:ak)(a c:Nat)(d f g:Int)(h:aA)(K:KK):(en S [1,0,0] (c1 S n1 K) (f1 b a c d f g) h)=JL1 (λb a c d f g i h=>S (en S [1,0,0,1,0,0,1] (c3 S n1 K)) (f4 b a c d f g i) h) b a c d f g h K:=by kernel_rfl
def Jk4(lp4:(ak)->Nat->Nat->Int->Int->Int->Int->aA->Prop)(b:ak)(a c:Nat)(d f g i:Int)(h:aA)(_K:KK):Prop:=
 lp4 b a c d f g i h
def Ek4(S:aS)(n1:Nat)(b:ak)(a c:Nat)(d f g i:Int)(h:aA)(K:KK):(en S [1,0,0,1,0,0,1] (c3 S n1 K) (f4 b a c d f g i) h)=Jk4 (λb a c d f g i h=> ∃n,S (ln S [1,0,0,1,0,0,1,0,0] (c4 S n1 K) n) (f4 b a c d f g i) h) b a c d f g i h K:=by kernel_rfl
def JL4(bk4:(ak)->Nat->Nat->Int->Int->Int->Int->aA->Prop)(bk1:(ak)->Nat->Nat->Int->Int->Int->aA->Prop)(b:ak)(a c:Nat)(d f g i:Int)(h:aA)(_K:KK):Prop:=
 aC (decide (i>d)) (aN b (λa1=>(0<=i/\i<(Nat.cast a:Int)/\aI .u32 (rd h (a1.add (Int.toNat i*1))) (λn2=>aN b (λa3=>(0<=(ai (i-(1:Int)))/\(ai (i-(1:Int)))<(Nat.cast a:Int)/\aI .u32 (rd h (a3.add (Int.toNat (ai (i-(1:Int)))*1))) (λn4=>Cl 319 [(ae n2),(ae n4)] h (λv5 h6=>bA (some v5) (λb7=>aC b7 (aN b (λa8=>(0<=(ai (i-(1:Int)))/\(ai (i-(1:Int)))<(Nat.cast a:Int)/\aI .u32 (rd h6 (a8.add (Int.toNat (ai (i-(1:Int)))*1))) (λn9=>aN b (λa10=>(0<=i/\i<(Nat.cast a:Int)/\aI .u32 (rd h6 (a10.add (Int.toNat i*1))) (λn11=>aN b (λa12=>(0<=i/\i<(Nat.cast a:Int)/\aP h6 ((a12.add (Int.toNat i*1)).add 0) (ae n9) (λh13=>((.slice b a c)=((.slice b a c):Value)/\((ac i)=((ac i):Value)/\((ac (ai (i-(1:Int))))=((ac (ai (i-(1:Int)))):Value)/\aN b (λa14=>(0<=(ai (i-(1:Int)))/\(ai (i-(1:Int)))<(Nat.cast a:Int)/\aP h13 ((a14.add (Int.toNat (ai (i-(1:Int)))*1)).add 0) (ae n11) (λh15=>bk4 b a c d f g (ai (i-(1:Int))) h15)))))))))))))))) (bk1 b a c d f (ai (g+(1:Int))) h6)))))))))) (bk1 b a c d f (ai (g+(1:Int))) h)
def EL4(S:aS)(n1:Nat)(n4:Nat)(b:ak)(a c:Nat)(d f g i:Int)(h:aA)(K:KK):(en S [1,0,0,1,0,0,1,0,0] (c5 S n1 n4 K) (f4 b a c d f g i) h)=JL4 (λb a c d f g i h=>S (ln S [1,0,0,1,0,0,1,0,0] (c4 S n1 K) n4) (f4 b a c d f g i) h) (λb a c d f g h=>S (ln S [1,0,0] (c0 S K) n1) (f1 b a c d f g) h) b a c d f g i h K:=by kernel_rfl
def wL4(bk1:(ak)->Nat->Nat->Int->Int->Int->aA->Prop):Nat->(ak)->Nat->Nat->Int->Int->Int->Int->aA->KK->Prop
 |0,_,_,_,_,_,_,_,_,_=>False
 |n+1,b,a,c,d,f,g,i,h,K=>JL4 (λb a c d f g i h=>wL4 bk1 n b a c d f g i h K) bk1 b a c d f g i h K
def eL4(K:KK)(n1:Nat)(bk1:(ak)->Nat->Nat->Int->Int->Int->aA->Prop)(hb1: ∀(b:ak) (a c:Nat) (d f g:Int) (h:aA),(ln S0 [1,0,0] (c0 S0 K) n1 (f1 b a c d f g) h)=bk1 b a c d f g h): ∀(n:Nat) (b:ak) (a c:Nat) (d f g i:Int) (h:aA),(ln S0 [1,0,0,1,0,0,1,0,0] (c4 S0 n1 K) n (f4 b a c d f g i) h)=wL4 bk1 n b a c d f g i h K
 |0,_,_,_,_,_,_,_,_=>rfl
 |n+1,b,a,c,d,f,g,i,h=>(EL4 S0 n1 n b a c d f g i h K).trans (mM (λq0 q1=>JL4 q0 q1 b a c d f g i h K) (by funext b a c d f g i h;exact(λb a c d f g i h=>eL4 K n1 bk1 hb1 n b a c d f g i h) b a c d f g i h) (by funext b a c d f g h;exact hb1 b a c d f g h))
def wk4(bk1:(ak)->Nat->Nat->Int->Int->Int->aA->Prop)(b:ak)(a c:Nat)(d f g i:Int)(h:aA)(K:KK):Prop:=
 Jk4 (λb a c d f g i h=> ∃m,wL4 bk1 m b a c d f g i h K) b a c d f g i h K
def ek4(K:KK)(n1:Nat)(bk1:(ak)->Nat->Nat->Int->Int->Int->aA->Prop)(hb1: ∀(b:ak) (a c:Nat) (d f g:Int) (h:aA),(ln S0 [1,0,0] (c0 S0 K) n1 (f1 b a c d f g) h)=bk1 b a c d f g h)(b:ak)(a c:Nat)(d f g i:Int)(h:aA):(en S0 [1,0,0,1,0,0,1] (c3 S0 n1 K) (f4 b a c d f g i) h)=wk4 bk1 b a c d f g i h K:=(Ek4 S0 n1 b a c d f g i h K).trans (fX (λq0=>Jk4 q0 b a c d f g i h K) (by funext b a c d f g i h;exact bq λm=>eL4 K n1 bk1 hb1 m b a c d f g i h))
def wL1:Nat->(ak)->Nat->Nat->Int->Int->Int->aA->KK->Prop
 |0,_,_,_,_,_,_,_,_=>False
 |n+1,b,a,c,d,f,g,h,K=>JL1 (λb a c d f g i h=>wk4 (λb a c d f g h=>wL1 n b a c d f g h K) b a c d f g i h K) b a c d f g h K
def eL1(K:KK): ∀(n:Nat) (b:ak) (a c:Nat) (d f g:Int) (h:aA),(ln S0 [1,0,0] (c0 S0 K) n (f1 b a c d f g) h)=wL1 n b a c d f g h K
 |0,_,_,_,_,_,_,_=>rfl
 |n+1,b,a,c,d,f,g,h=>(EL1 S0 n b a c d f g h K).trans (fX (λq0=>JL1 q0 b a c d f g h K) (by funext b a c d f g i h;exact ek4 K n (λb a c d f g h=>wL1 n b a c d f g h K) (λb a c d f g h=>eL1 K n b a c d f g h) b a c d f g i h))
def wk1(b:ak)(a c:Nat)(d f g:Int)(h:aA)(K:KK):Prop:=
 Jk1 (λb a c d f g h=> ∃m,wL1 m b a c d f g h K) b a c d f g h K
def ek1(K:KK)(b:ak)(a c:Nat)(d f g:Int)(h:aA):(en S0 [1] (fn K) (f1 b a c d f g) h)=wk1 b a c d f g h K:=(Ek1 S0 b a c d f g h K).trans (fX (λq0=>Jk1 q0 b a c d f g h K) (by funext b a c d f g h;exact bq λm=>eL1 K m b a c d f g h))
def w(b:ak)(a c:Nat)(d f:Int)(h:aA)(K:KK):Prop:=
 J0 (λb a c d f g h=>wk1 b a c d f g h K) b a c d f h K
def e0(K:KK)(b:ak)(a c:Nat)(d f:Int)(h:aA):(E Tryz.prog X T S0 body (fin Tryz.prog Tryz.f313.results.toList K) (cx 0 [(.slice b a c),(ac d),(ac f)]) h)=w b a c d f h K:=(E0 S0 b a c d f h K).trans (fX (λq0=>J0 q0 b a c d f h K) (by funext b a c d f g h;exact ek1 K b a c d f g h))
def hb:Tryz.f313.body=some body:=by kernel_rfl
def ok:bZ T Tryz.f313.ntmps body=true:=by kernel_rfl
def spec(b:ak)(a c:Nat)(d f:Int)(h:aA)(K:KK)(H:w b a c d f h K):Cl 313 [(.slice b a c),(ac d),(ac f)] h K:=
 cf (T:=T) xK xJ Tryz.func313 hb ok rfl (by rw[e0];exact H)
end F313
def F319.spec(H:Cl 348 [ae i] h λa b=>bA (some a) λa=>aC a (Cl 348 [ae j] b λa b=>bA (some a) λa=>aC (!a) (K au b) (K (aw (i<j)) b)) (K (aw (i<j)) b)):Cl 319 [ae i,ae j] h K:=cN Tryz.func319 H
def F348.spec(H:K (aw (i !=i)) h):Cl 348 [ae i] h K:=cN Tryz.func348 H
def F265.spec(H:Cl 295 [af (IntKind.wrap .u64 (u:Int))] h λa b=>aI .i64 (some a) λa=>Cl 298 [.slice x u v,ac 0,ac (u:Int),ac a] b λa b=>a=ax/\K ax b):Cl 265 [.slice x u v] h K:=cN Tryz.func265 H
def F298.T:bf:=⟨[(2,[0,1,2,3,8,9]),(10,[0,1,2,3,8,9,10]),(15,[0,1,2,3,8,9,10,11,12]),(17,[0,1,2,3,8,9,10,11])],[(17,[[(0,[]),(1,[]),(2,[]),(3,[]),(4,[]),(5,[]),(6,[]),(7,[]),(8,[]),(9,[]),(10,[]),(11,[]),(12,[]),(13,[]),(14,[])]])]⟩
section
variable (bk2:(ak)->Nat->Nat->Int->Int->Int->Bool->Bool->aA->Prop)(n:Nat)(b:ak)(a c:Nat)(d f g:Int)(l o:Bool)(i j q:Int)(h:aA)(K:KK)
def F298.wk17(bk2:(ak)->Nat->Nat->Int->Int->Int->Bool->Bool->aA->Prop)(b:ak)(a c:Nat)(d f g:Int)(l o:Bool)(i j:Int)(h:aA)(K:KK):Prop:=aC (d>0) (aN b λe=>0<=(ai (d-1))/\(ai (d-1))<(a:Int)/\aI .i64 (rd h (e.add ((ai (d-1)).toNat*1))) λe=>aN b λk=>0<=j/\j<(a:Int)/\aI .i64 (rd h (k.add (j.toNat*1))) λk=>Cl 330 [ac e,ac k] h λe k=>bA (some e) λe=>aC (!e) (Cl 331 [.slice b a c,ac d,ac f,ac j] k λd e=>aI .i64 (some d) λd=>bk2 b a c d f g l o e) (Cl 332 [.slice b a c,ac d,ac f,ac j] k λe j=> ∃k:Int,∃l:Bool,e=(.tuple #[ac k,aw l])/\(8:Int)≠0/\aC ((ai (k-d))<(ai (f-k))) (Cl 298 [.slice b a c,ac d,ac k,ac g] j λe j=>e=ax/\bk2 b a c (ai (k+1)) f g (decide ((ai (k-d))>=(ai (Int.tdiv i 8)))) l j) (Cl 298 [.slice b a c,ac (ai (k+1)),ac f,ac g] j λe j=>e=ax/\bk2 b a c d k g (decide ((ai (f-k))>=(ai (Int.tdiv i 8)))) l j))) (Cl 332 [.slice b a c,ac d,ac f,ac j] h λe j=> ∃k:Int,∃l:Bool,e=(.tuple #[ac k,aw l])/\(8:Int)≠0/\aC ((ai (k-d))<(ai (f-k))) (Cl 298 [.slice b a c,ac d,ac k,ac g] j λe j=>e=ax/\bk2 b a c (ai (k+1)) f g (decide ((ai (k-d))>=(ai (Int.tdiv i 8)))) l j) (Cl 298 [.slice b a c,ac (ai (k+1)),ac f,ac g] j λe j=>e=ax/\bk2 b a c d k g (decide ((ai (f-k))>=(ai (Int.tdiv i 8)))) l j))
def F298.wk15:Prop:=aC l (aC o (aC (q==1) (Cl 329 [.slice b a c,ac d,ac f] h λe k=>bA (some e) λe=>aC e (K ax k) (F298.wk17 bk2 b a c d f g l o i j k K)) (F298.wk17 bk2 b a c d f g l o i j h K)) (F298.wk17 bk2 b a c d f g l o i j h K)) (F298.wk17 bk2 b a c d f g l o i j h K)
def F298.wk10:Prop:=Cl 327 [.slice b a c,ac d,ac f] h λe j=> ∃k:Int,∃m:Int,e=(.tuple #[ac k,ac m])/\aC (m==2) (Cl 328 [.slice b a c,ac d,ac f] j λe j=>e=ax/\F298.wk15 bk2 b a c d f g l o i (ai ((ai (f-1))-(ai (k-d)))) 1 j K) (F298.wk15 bk2 b a c d f g l o i k m j K)
def F298.wL2:Prop:=Lp Tryz.f298 F298.T [1,1,0] n [(0,(.slice b a c)),(1,(ac d)),(2,(ac f)),(3,(ac g)),(8,(aw l)),(9,(aw o))] h K
def F298.sL2:F298.wL2 (n+1) b a c d f g l o h K=(aC ((ai (f-d))<=12) (Cl 324 [.slice b a c,ac d,ac f] h λa b=>a=ax/\K ax b) (aC (g==0) (Cl 325 [.slice b a c,ac d,ac f] h λa b=>a=ax/\K ax b) (aC (!l) (Cl 326 [.slice b a c,ac d,ac f] h λe i=>e=ax/\F298.wk10 (λa b c d e f g i j=>F298.wL2 n a b c d e f g i j K) b a c d f (ai (g-1)) l o (ai (f-d)) i K) (F298.wk10 (λa b c d e f g i j=>F298.wL2 n a b c d e f g i j K) b a c d f g l o (ai (f-d)) h K)))):=by kernel_rfl
def F298.wk2:Prop:=(∃e,F298.wL2 e b a c d f g l o h K)
def F298.spec(H:F298.wk2 b a c d f g true true h K):Cl 298 [.slice b a c,ac d,ac f,ac g] h K:=cT F298.T Tryz.func298 H
end
namespace F324
def T:bf:=⟨[(1,[0,1,2,6]),(4,[0,1,2,6,7])],[(4,[[(0,[]),(1,[]),(2,[]),(3,[]),(4,[]),(5,[]),(6,[]),(7,[]),(8,[]),(9,[]),(10,[]),(11,[]),(12,[]),(13,[]),(14,[])]]),(6,[[(0,[]),(1,[]),(2,[]),(3,[]),(4,[]),(5,[]),(6,[]),(7,[]),(8,[]),(9,[]),(10,[]),(11,[]),(12,[]),(13,[]),(14,[]),(15,[2,3,4]),(16,[]),(17,[])]])]⟩
noncomputable def body:Code:=(Tryz.f324.body).getD .skip
noncomputable def en(S:aS)(p:List Nat)(κ:XK):Fr->aA->Prop:=E Tryz.prog X T S (sub body p) κ
noncomputable def ln(S:aS)(p:List Nat)(κ:XK)(n:Nat):Fr->aA->Prop:=fQ S (E Tryz.prog X T S (sub body p)) (bJ T (sub body p)) κ n
def fn(K:KK):XK:=fin Tryz.prog Tryz.f324.results.toList K
noncomputable def c0(_S:aS)(K:KK):XK:=br 0 (fn K)
noncomputable def c1(S:aS)(n1:Nat)(K:KK):XK:=cO S (bJ T (sub body [1,0,0])) (ln S [1,0,0] (c0 S K) n1) (c0 S K)
noncomputable def c2(S:aS)(n1:Nat)(K:KK):XK:=dM S (bJ T (sub body [1,0,0,1,1])) (en S [1,0,0,1,1] (c1 S n1 K)) (c1 S n1 K)
noncomputable def c3(S:aS)(n1:Nat)(K:KK):XK:=br 1 (c2 S n1 K)
noncomputable def c4(S:aS)(n1:Nat)(K:KK):XK:=br 2 (c3 S n1 K)
noncomputable def c5(S:aS)(n1:Nat)(n4:Nat)(K:KK):XK:=cO S (bJ T (sub body [1,0,0,1,0,0,1,0,0])) (ln S [1,0,0,1,0,0,1,0,0] (c4 S n1 K) n4) (c4 S n1 K)
def f1(b:ak)(a c:Nat)(d f g:Int):Fr:=[(0,(.slice b a c)),(1,(ac d)),(2,(ac f)),(6,(ac g))]
def f4(b:ak)(a c:Nat)(d f g i:Int):Fr:=[(0,(.slice b a c)),(1,(ac d)),(2,(ac f)),(6,(ac g)),(7,(ac i))]
def J0(k1:(ak)->Nat->Nat->Int->Int->Int->aA->Prop)(b:ak)(a c:Nat)(d f:Int)(h:aA)(_K:KK):Prop:=
 k1 b a c d f (ai (d+(1:Int))) h
def E0(S:aS)(b:ak)(a c:Nat)(d f:Int)(h:aA)(K:KK):(E Tryz.prog X T S body (fin Tryz.prog Tryz.f324.results.toList K) (cx 0 [(.slice b a c),(ac d),(ac f)]) h)=J0 (λb a c d f g h=>S (en S [1] (fn K)) (f1 b a c d f g) h) b a c d f h K:=by kernel_rfl
def Jk1(lp1:(ak)->Nat->Nat->Int->Int->Int->aA->Prop)(b:ak)(a c:Nat)(d f g:Int)(h:aA)(_K:KK):Prop:=
 lp1 b a c d f g h
def Ek1(S:aS)(b:ak)(a c:Nat)(d f g:Int)(h:aA)(K:KK):(en S [1] (fn K) (f1 b a c d f g) h)=Jk1 (λb a c d f g h=> ∃n,S (ln S [1,0,0] (c0 S K) n) (f1 b a c d f g) h) b a c d f g h K:=by kernel_rfl
def JL1(k4:(ak)->Nat->Nat->Int->Int->Int->Int->aA->Prop)(b:ak)(a c:Nat)(d f g:Int)(h:aA)(K:KK):Prop:=
 aC (decide (g<f)) (k4 b a c d f g g h) (K ax h)
def EL1(S:aS)(n1:Nat)(b:ak)(a c:Nat)(d f g:Int)(h:aA)(K:KK):(en S [1,0,0] (c1 S n1 K) (f1 b a c d f g) h)=JL1 (λb a c d f g i h=>S (en S [1,0,0,1,0,0,1] (c3 S n1 K)) (f4 b a c d f g i) h) b a c d f g h K:=by kernel_rfl
def Jk4(lp4:(ak)->Nat->Nat->Int->Int->Int->Int->aA->Prop)(b:ak)(a c:Nat)(d f g i:Int)(h:aA)(_K:KK):Prop:=
 lp4 b a c d f g i h
def Ek4(S:aS)(n1:Nat)(b:ak)(a c:Nat)(d f g i:Int)(h:aA)(K:KK):(en S [1,0,0,1,0,0,1] (c3 S n1 K) (f4 b a c d f g i) h)=Jk4 (λb a c d f g i h=> ∃n,S (ln S [1,0,0,1,0,0,1,0,0] (c4 S n1 K) n) (f4 b a c d f g i) h) b a c d f g i h K:=by kernel_rfl
def JL4(bk4:(ak)->Nat->Nat->Int->Int->Int->Int->aA->Prop)(bk1:(ak)->Nat->Nat->Int->Int->Int->aA->Prop)(b:ak)(a c:Nat)(d f g i:Int)(h:aA)(_K:KK):Prop:=
 aC (decide (i>d)) (aN b (λa1=>(0<=i/\i<(Nat.cast a:Int)/\aI .i64 (rd h (a1.add (Int.toNat i*1))) (λn2=>aN b (λa3=>(0<=(ai (i-(1:Int)))/\(ai (i-(1:Int)))<(Nat.cast a:Int)/\aI .i64 (rd h (a3.add (Int.toNat (ai (i-(1:Int)))*1))) (λn4=>Cl 330 [(ac n2),(ac n4)] h (λv5 h6=>bA (some v5) (λb7=>aC b7 (aN b (λa8=>(0<=(ai (i-(1:Int)))/\(ai (i-(1:Int)))<(Nat.cast a:Int)/\aI .i64 (rd h6 (a8.add (Int.toNat (ai (i-(1:Int)))*1))) (λn9=>aN b (λa10=>(0<=i/\i<(Nat.cast a:Int)/\aI .i64 (rd h6 (a10.add (Int.toNat i*1))) (λn11=>aN b (λa12=>(0<=i/\i<(Nat.cast a:Int)/\aP h6 ((a12.add (Int.toNat i*1)).add 0) (ac n9) (λh13=>((.slice b a c)=((.slice b a c):Value)/\((ac i)=((ac i):Value)/\((ac (ai (i-(1:Int))))=((ac (ai (i-(1:Int)))):Value)/\aN b (λa14=>(0<=(ai (i-(1:Int)))/\(ai (i-(1:Int)))<(Nat.cast a:Int)/\aP h13 ((a14.add (Int.toNat (ai (i-(1:Int)))*1)).add 0) (ac n11) (λh15=>bk4 b a c d f g (ai (i-(1:Int))) h15)))))))))))))))) (bk1 b a c d f (ai (g+(1:Int))) h6)))))))))) (bk1 b a c d f (ai (g+(1:Int))) h)
def EL4(S:aS)(n1:Nat)(n4:Nat)(b:ak)(a c:Nat)(d f g i:Int)(h:aA)(K:KK):(en S [1,0,0,1,0,0,1,0,0] (c5 S n1 n4 K) (f4 b a c d f g i) h)=JL4 (λb a c d f g i h=>S (ln S [1,0,0,1,0,0,1,0,0] (c4 S n1 K) n4) (f4 b a c d f g i) h) (λb a c d f g h=>S (ln S [1,0,0] (c0 S K) n1) (f1 b a c d f g) h) b a c d f g i h K:=by kernel_rfl
def wL4(bk1:(ak)->Nat->Nat->Int->Int->Int->aA->Prop):Nat->(ak)->Nat->Nat->Int->Int->Int->Int->aA->KK->Prop
 |0,_,_,_,_,_,_,_,_,_=>False
 |n+1,b,a,c,d,f,g,i,h,K=>JL4 (λb a c d f g i h=>wL4 bk1 n b a c d f g i h K) bk1 b a c d f g i h K
def eL4(K:KK)(n1:Nat)(bk1:(ak)->Nat->Nat->Int->Int->Int->aA->Prop)(hb1: ∀(b:ak) (a c:Nat) (d f g:Int) (h:aA),(ln S0 [1,0,0] (c0 S0 K) n1 (f1 b a c d f g) h)=bk1 b a c d f g h): ∀(n:Nat) (b:ak) (a c:Nat) (d f g i:Int) (h:aA),(ln S0 [1,0,0,1,0,0,1,0,0] (c4 S0 n1 K) n (f4 b a c d f g i) h)=wL4 bk1 n b a c d f g i h K
 |0,_,_,_,_,_,_,_,_=>rfl
 |n+1,b,a,c,d,f,g,i,h=>(EL4 S0 n1 n b a c d f g i h K).trans (mM (λq0 q1=>JL4 q0 q1 b a c d f g i h K) (by funext b a c d f g i h;exact(λb a c d f g i h=>eL4 K n1 bk1 hb1 n b a c d f g i h) b a c d f g i h) (by funext b a c d f g h;exact hb1 b a c d f g h))
def wk4(bk1:(ak)->Nat->Nat->Int->Int->Int->aA->Prop)(b:ak)(a c:Nat)(d f g i:Int)(h:aA)(K:KK):Prop:=
 Jk4 (λb a c d f g i h=> ∃m,wL4 bk1 m b a c d f g i h K) b a c d f g i h K
def ek4(K:KK)(n1:Nat)(bk1:(ak)->Nat->Nat->Int->Int->Int->aA->Prop)(hb1: ∀(b:ak) (a c:Nat) (d f g:Int) (h:aA),(ln S0 [1,0,0] (c0 S0 K) n1 (f1 b a c d f g) h)=bk1 b a c d f g h)(b:ak)(a c:Nat)(d f g i:Int)(h:aA):(en S0 [1,0,0,1,0,0,1] (c3 S0 n1 K) (f4 b a c d f g i) h)=wk4 bk1 b a c d f g i h K:=(Ek4 S0 n1 b a c d f g i h K).trans (fX (λq0=>Jk4 q0 b a c d f g i h K) (by funext b a c d f g i h;exact bq λm=>eL4 K n1 bk1 hb1 m b a c d f g i h))
def wL1:Nat->(ak)->Nat->Nat->Int->Int->Int->aA->KK->Prop
 |0,_,_,_,_,_,_,_,_=>False
 |n+1,b,a,c,d,f,g,h,K=>JL1 (λb a c d f g i h=>wk4 (λb a c d f g h=>wL1 n b a c d f g h K) b a c d f g i h K) b a c d f g h K
def eL1(K:KK): ∀(n:Nat) (b:ak) (a c:Nat) (d f g:Int) (h:aA),(ln S0 [1,0,0] (c0 S0 K) n (f1 b a c d f g) h)=wL1 n b a c d f g h K
 |0,_,_,_,_,_,_,_=>rfl
 |n+1,b,a,c,d,f,g,h=>(EL1 S0 n b a c d f g h K).trans (fX (λq0=>JL1 q0 b a c d f g h K) (by funext b a c d f g i h;exact ek4 K n (λb a c d f g h=>wL1 n b a c d f g h K) (λb a c d f g h=>eL1 K n b a c d f g h) b a c d f g i h))
def wk1(b:ak)(a c:Nat)(d f g:Int)(h:aA)(K:KK):Prop:=
 Jk1 (λb a c d f g h=> ∃m,wL1 m b a c d f g h K) b a c d f g h K
def ek1(K:KK)(b:ak)(a c:Nat)(d f g:Int)(h:aA):(en S0 [1] (fn K) (f1 b a c d f g) h)=wk1 b a c d f g h K:=(Ek1 S0 b a c d f g h K).trans (fX (λq0=>Jk1 q0 b a c d f g h K) (by funext b a c d f g h;exact bq λm=>eL1 K m b a c d f g h))
def w(b:ak)(a c:Nat)(d f:Int)(h:aA)(K:KK):Prop:=
 J0 (λb a c d f g h=>wk1 b a c d f g h K) b a c d f h K
def e0(K:KK)(b:ak)(a c:Nat)(d f:Int)(h:aA):(E Tryz.prog X T S0 body (fin Tryz.prog Tryz.f324.results.toList K) (cx 0 [(.slice b a c),(ac d),(ac f)]) h)=w b a c d f h K:=(E0 S0 b a c d f h K).trans (fX (λq0=>J0 q0 b a c d f h K) (by funext b a c d f g h;exact ek1 K b a c d f g h))
def hb:Tryz.f324.body=some body:=by kernel_rfl
def ok:bZ T Tryz.f324.ntmps body=true:=by kernel_rfl
def spec(b:ak)(a c:Nat)(d f:Int)(h:aA)(K:KK)(H:w b a c d f h K):Cl 324 [(.slice b a c),(ac d),(ac f)] h K:=
 cf (T:=T) xK xJ Tryz.func324 hb ok rfl (by rw[e0];exact H)
end F324
def F330.spec(H:Cl 352 [ac i] h λa b=>bA (some a) λa=>aC a (Cl 352 [ac j] b λa b=>bA (some a) λa=>aC (!a) (K au b) (K (aw (i<j)) b)) (K (aw (i<j)) b)):Cl 330 [ac i,ac j] h K:=cN Tryz.func330 H
def F352.spec(H:K (aw (i !=i)) h):Cl 352 [ac i] h K:=cN Tryz.func352 H
end
section
def ct.onlyC{h h':aA}{lo N:Nat}{p:ak}{l c:Nat}{cs:List Value}{S:List Nat}(H:ct h lo N p l c cs)(O:aF S h h')(hS: ∀b∈aR p,(∃c,At h b c)->b∉S):ct h' lo N p l c cs:=by
 obtain⟨e,H⟩:=H;rcases H with H|⟨b,sp,h1,h2,h3,h4,h5⟩
 ·exact⟨e,Or.inl H⟩
 ·exact⟨e,Or.inr ⟨b,sp,h1,h2,h3,h4,h5.only O (hS b (by subst h1;simp[aR]) ⟨_,h5⟩)⟩⟩
def ct.cells{h:aA}{lo N:Nat}{p:ak}{l c:Nat}{cs:List Value}(H:ct h lo N p l c cs): ∀b∈aR p,∃c,At h b c:=by
 obtain⟨e,H⟩:=H;rcases H with⟨rfl,_⟩|⟨b,sp,rfl,h2,h3,h4,h5⟩
 ·intro b hb;simp[aR]at hb
 ·intro b' hb;simp[aR]at hb;subst hb;exact⟨_,h5⟩
def LB:Nat:=140737488355328
def aV{x:Int}(h0: -LB<=x)(h1:x<=LB):ai x=x:=wrap_i64 (by unfold LB at h0;omega) (by unfold LB at h1;omega)
end
section
def xf{x:Int}{h:aA}{K:KK}(hK:K aq h):Cl 348 [ae x] h K:=by refine F348.spec ?_;rw[show(x !=x)=false by simp];exact hK
def dr{x y:Int}{h:aA}{K:KK}(hK:K (aw (decide (x<y))) h):Cl 319 [ae x,ae y] h K:=by refine F319.spec ?_;exact xf (by rw[bC];exact hK)
def oe{b n a e c i:Nat}{sp:List Value}{K:KK}{bk:(ak)->Nat->Nat->Int->Int->Int->aA->Prop}(he:e<=n)(hie:i<e)(hn:n<=LB-2):
  ∀(j:Nat) (g:Nat->Int) (h:aA),bI .u32 h b n g sp->uB a i j g->a<=j->j<=i->(∀h' g',bI .u32 h' b n g' sp->d9 a (i+1) g'->cP a e g g'->aF [b] h h'->bk (some (ah b)) n c a e ((i+1:Nat):Int) h')->
   F313.wL4 bk (j+1) (some (ah b)) n c a e i j h K:=by
 intro j;have hLB:LB=140737488355328:=rfl;have w1:ai ((i:Int)+1)=((i+1:Nat):Int):=by rw[aV Y Y];omega
 induction j with
 |zero=>
  intro g h A I ha hj hK;unfold F313.wL4 F313.JL4;rw[w1,show decide (((0:Nat):Int)>(a:Int))=false by simp];exact hK h g A (I.stop (.inl Y)) (.refl g) (aF.refl _ _)
 |succ j ih=>
  intro g h A I ha hj hK;unfold F313.wL4 F313.JL4;have w2:ai (((j+1:Nat):Int)-1)=(j:Int):=by rw[aV Y Y];omega
  rw[w1,w2];refine aH (λhc=> ?_) λhc=> ?_
  ·simp only[decide_eq_true_eq]at hc;refine A.ld rfl Y (A.ld rfl Y (dr ?_));rw[bC];refine aH (λhl=> ?_) λhl=> ?_
   ·simp only[decide_eq_true_eq]at hl;refine A.ld rfl Y (A.ld rfl Y (A.sto rfl Y λh1 A1 O1=>⟨rfl,rfl,rfl,A1.sto rfl Y λh2 A2 O2=> ?_⟩));have O:aF [b] h h2:=O1.trans O2 Z;have S:cP a e g (swp g (j+1) j):=cP.one g Y Y Y Y;have A2':bI .u32 h2 b n (swp g (j+1) j) sp:=A2;have I2:=I.step Y hj hl;rw[show j+1-1=j by omega]at I2;exact ih _ h2 A2' I2 Y Y λh' g' A' R' S' O'=>hK h' g' A' R' (S.trans S') (O.trans O' Z)
   ·simp only[decide_eq_false_iff_not]at hl;exact hK h g A (I.stop (.inr (by rw[show j+1-1=j by omega];omega))) (.refl g) (aF.refl _ _)
  ·simp only[decide_eq_false_iff_not]at hc;exact hK h g A (I.stop (.inl Y)) (.refl g) (aF.refl _ _)
def oA{b n a e c:Nat}{sp:List Value}{K:KK}(he:e<=n)(hn:n<=LB-2):
  ∀(d i:Nat) (g:Nat->Int) (h:aA),e<=i+d->bI .u32 h b n g sp->a<i->i<=e\/e<=a->d9 a i g->(∀h' g',bI .u32 h' b n g' sp->d9 a e g'->cP a e g g'->aF [b] h h'->K ax h')->
   F313.wL1 (d+1) (some (ah b)) n c a e i h K:=by
 intro d
 induction d with
 |zero=>
  intro i g h hd A ha hi R hK;unfold F313.wL1 F313.JL1;rw[show decide ((i:Int)<(e:Int))=false by simp;omega];exact hK h g A (λp q h1 h2 h3=>R p q h1 h2 Y) (.refl g) (aF.refl _ _)
 |succ d ih=>
  intro i g h hd A ha hi R hK;unfold F313.wL1 F313.JL1;refine aH (λhc=> ?_) λhc=> ?_
  ·simp only[decide_eq_true_eq]at hc;refine⟨i+1,oe he Y hn i g h A (uB.start R) Y (Nat.le_refl _) λh1 g1 A1 R1 S1 O1=> ?_⟩;exact ih (i+1) g1 h1 Y A1 Y Y R1 λh' g' A' R' S' O'=>hK h' g' A' R' (S1.trans S') (O1.trans O' Z)
  ·simp only[decide_eq_false_iff_not]at hc;exact hK h g A (λp q h1 h2 h3=>R p q h1 h2 Y) (.refl g) (aF.refl _ _)
def ins76{h:aA}{b n a e c:Nat}{g:Nat->Int}{sp:List Value}{K:KK}(A:bI .u32 h b n g sp)(he:e<=n)(ha:a<=n)(hn:n<=LB-2)
  (hK: ∀h' g',bI .u32 h' b n g' sp->d9 a e g'->cP a e g g'->aF [b] h h'->K ax h'):Cl 313 [.slice (some (ah b)) n c,ac a,ac e] h K:=by
 refine F313.spec _ _ _ _ _ h K ?_;unfold F313.w F313.J0 F313.wk1 F313.Jk1;have hLB:LB=140737488355328:=rfl;rw[show ai ((a:Int)+1)=((a+1:Nat):Int) by rw[aV Y Y];omega];exact⟨e+1,oA he hn e (a+1) g h Y A Y Y (d9.single g Y) hK⟩
end
namespace IN
def xf{x:Int}{h:aA}{K:KK}(hK:K aq h):Cl 352 [ac x] h K:=by refine F352.spec ?_;rw[show(x !=x)=false by simp];exact hK
def dr{x y:Int}{h:aA}{K:KK}(hK:K (aw (decide (x<y))) h):Cl 330 [ac x,ac y] h K:=by refine F330.spec ?_;exact xf (by rw[bC];exact hK)
def oe{b n a e c i:Nat}{sp:List Value}{K:KK}{bk:(ak)->Nat->Nat->Int->Int->Int->aA->Prop}(he:e<=n)(hie:i<e)(hn:n<=LB-2):
  ∀(j:Nat) (g:Nat->Int) (h:aA),bI .i64 h b n g sp->uB a i j g->a<=j->j<=i->(∀h' g',bI .i64 h' b n g' sp->d9 a (i+1) g'->cP a e g g'->aF [b] h h'->bk (some (ah b)) n c a e ((i+1:Nat):Int) h')->
   F324.wL4 bk (j+1) (some (ah b)) n c a e i j h K:=by
 intro j;have hLB:LB=140737488355328:=rfl;have w1:ai ((i:Int)+1)=((i+1:Nat):Int):=by rw[aV Y Y];omega
 induction j with
 |zero=>
  intro g h A I ha hj hK;unfold F324.wL4 F324.JL4;rw[w1,show decide (((0:Nat):Int)>(a:Int))=false by simp];exact hK h g A (I.stop (.inl Y)) (.refl g) (aF.refl _ _)
 |succ j ih=>
  intro g h A I ha hj hK;unfold F324.wL4 F324.JL4;have w2:ai (((j+1:Nat):Int)-1)=(j:Int):=by rw[aV Y Y];omega
  rw[w1,w2];refine aH (λhc=> ?_) λhc=> ?_
  ·simp only[decide_eq_true_eq]at hc;refine A.ld rfl Y (A.ld rfl Y (dr ?_));rw[bC];refine aH (λhl=> ?_) λhl=> ?_
   ·simp only[decide_eq_true_eq]at hl;refine A.ld rfl Y (A.ld rfl Y (A.sto rfl Y λh1 A1 O1=>⟨rfl,rfl,rfl,A1.sto rfl Y λh2 A2 O2=> ?_⟩));have O:aF [b] h h2:=O1.trans O2 Z;have S:cP a e g (swp g (j+1) j):=cP.one g Y Y Y Y;have A2':bI .i64 h2 b n (swp g (j+1) j) sp:=A2;have I2:=I.step Y hj hl;rw[show j+1-1=j by omega]at I2;exact ih _ h2 A2' I2 Y Y λh' g' A' R' S' O'=>hK h' g' A' R' (S.trans S') (O.trans O' Z)
   ·simp only[decide_eq_false_iff_not]at hl;exact hK h g A (I.stop (.inr (by rw[show j+1-1=j by omega];omega))) (.refl g) (aF.refl _ _)
  ·simp only[decide_eq_false_iff_not]at hc;exact hK h g A (I.stop (.inl Y)) (.refl g) (aF.refl _ _)
def oA{b n a e c:Nat}{sp:List Value}{K:KK}(he:e<=n)(hn:n<=LB-2):
  ∀(d i:Nat) (g:Nat->Int) (h:aA),e<=i+d->bI .i64 h b n g sp->a<i->i<=e\/e<=a->d9 a i g->(∀h' g',bI .i64 h' b n g' sp->d9 a e g'->cP a e g g'->aF [b] h h'->K ax h')->
   F324.wL1 (d+1) (some (ah b)) n c a e i h K:=by
 intro d
 induction d with
 |zero=>
  intro i g h hd A ha hi R hK;unfold F324.wL1 F324.JL1;rw[show decide ((i:Int)<(e:Int))=false by simp;omega];exact hK h g A (λp q h1 h2 h3=>R p q h1 h2 Y) (.refl g) (aF.refl _ _)
 |succ d ih=>
  intro i g h hd A ha hi R hK;unfold F324.wL1 F324.JL1;refine aH (λhc=> ?_) λhc=> ?_
  ·simp only[decide_eq_true_eq]at hc;refine⟨i+1,oe he Y hn i g h A (uB.start R) Y (Nat.le_refl _) λh1 g1 A1 R1 S1 O1=> ?_⟩;exact ih (i+1) g1 h1 Y A1 Y Y R1 λh' g' A' R' S' O'=>hK h' g' A' R' (S1.trans S') (O1.trans O' Z)
  ·simp only[decide_eq_false_iff_not]at hc;exact hK h g A (λp q h1 h2 h3=>R p q h1 h2 Y) (.refl g) (aF.refl _ _)
def ins76{h:aA}{b n a e c:Nat}{g:Nat->Int}{sp:List Value}{K:KK}(A:bI .i64 h b n g sp)(he:e<=n)(ha:a<=n)(hn:n<=LB-2)
  (hK: ∀h' g',bI .i64 h' b n g' sp->d9 a e g'->cP a e g g'->aF [b] h h'->K ax h'):Cl 324 [.slice (some (ah b)) n c,ac a,ac e] h K:=by
 refine F324.spec _ _ _ _ _ h K ?_;unfold F324.w F324.J0 F324.wk1 F324.Jk1;have hLB:LB=140737488355328:=rfl;rw[show ai ((a:Int)+1)=((a+1:Nat):Int) by rw[aV Y Y];omega];exact⟨e+1,oA he hn e (a+1) g h Y A Y Y (d9.single g Y) hK⟩
end IN
section
variable {i j k l m n o p q r s t:Int}{a b c d:Addr}{u v:Nat}{x y:ak}{h:aA}{K:KK}
def F314.T:bf:=⟨[(4,[0,6,7,8,9]),(7,[0,6,7,8]),(8,[0,6,7,10])],[(10,[[(0,[]),(1,[]),(2,[]),(3,[]),(4,[]),(5,[]),(6,[]),(7,[]),(8,[]),(9,[]),(10,[]),(11,[]),(12,[]),(13,[]),(14,[]),(15,[]),(16,[]),(17,[2,3,4,5]),(18,[]),(19,[])]])]⟩
section
variable (n:Nat)(b:ak)(a c:Nat)(j l f g i d:Int)(h:aA)(K:KK)
def F314.wL8:Prop:=Lp Tryz.f314 F314.T [1,1,1,1,1,0] n [(0,(.slice b a c)),(6,(ac f)),(7,(ac 0)),(10,(ac d))] h K
def F314.sL8:F314.wL8 (n+1) b a c f d h K=(aC (d>=0) (aN b λe=>0<=(ai (f+d))/\(ai (f+d))<(a:Int)/\aI .u32 (rd h (e.add ((ai (f+d)).toNat*1))) λe=>aN b λg=>0<=f/\f<(a:Int)/\aI .u32 (rd h (g.add (f.toNat*1))) λg=>aN b λi=>0<=f/\f<(a:Int)/\aP h ((i.add (f.toNat*1)).add 0) (ae e) λe=>ay (.slice b a c)/\ay (ac f)/\ay (ac d)/\ay (ac (ai (f+d)))/\aN b λi=>0<=(ai (f+d))/\(ai (f+d))<(a:Int)/\aP e ((i.add ((ai (f+d)).toNat*1)).add 0) (ae g) λe=>Cl 343 [.slice b a c,ac 0,ac d,ac f] e λe g=>e=ax/\F314.wL8 n b a c f (ai (d-1)) g K) (K ax h)):=by kernel_rfl
def F314.wk8:Prop:=(∃e,F314.wL8 e b a c f d h K)
def F314.wk7:Prop:=F314.wk8 b a c f (ai (g-1)) h K
def F314.wL4:Prop:=Lp Tryz.f314 F314.T [1,1,1,0,1,0] n [(0,(.slice b a c)),(6,(ac f)),(7,(ac 0)),(8,(ac g)),(9,(ac i))] h K
def F314.sL4:F314.wL4 (n+1) b a c f g i h K=(aC (i>=0) (Cl 343 [.slice b a c,ac i,ac g,ac f] h λd e=>d=ax/\F314.wL4 n b a c f g (ai (i-1)) e K) (F314.wk7 b a c f g h K)):=by kernel_rfl
def F314.wk4:Prop:=(∃d,F314.wL4 d b a c f g i h K)
def F314.spec(H:((2:Int)≠0/\F314.wk4 b a c j (ai (l-j)) (ai (Int.tdiv (ai ((ai (l-j))-1)) 2)) h K)):Cl 314 [.slice b a c,ac j,ac l] h K:=cT F314.T Tryz.func314 H
end
def F315.T:bf:=⟨[(5,[0,1,6,7,8,9]),(10,[0,1,6,7,8,9,10])],[(10,[[(0,[]),(1,[]),(2,[]),(3,[]),(4,[]),(5,[]),(6,[]),(7,[]),(8,[]),(9,[]),(10,[]),(11,[]),(12,[]),(13,[]),(14,[]),(15,[]),(16,[]),(17,[2,3,4,5]),(18,[]),(19,[])]])]⟩
section
variable (n:Nat)(b:ak)(a c:Nat)(d o i:Int)(l:Addr)(j g:Int)(h:aA)(K:KK)
def F315.wk10(bk5:(ak)->Nat->Nat->Int->Int->Addr->Int->Int->aA->Prop)(b:ak)(a c:Nat)(d i:Int)(l:Addr)(j g f:Int)(h:aA)(K:KK):Prop:=aN b λe=>0<=(ai (d+f))/\(ai (d+f))<(a:Int)/\aI .u32 (rd h (e.add ((ai (d+f)).toNat*1))) λe=>aN b λk=>0<=g/\g<(a:Int)/\aI .u32 (rd h (k.add (g.toNat*1))) λk=>aN b λm=>0<=g/\g<(a:Int)/\aP h ((m.add (g.toNat*1)).add 0) (ae e) λe=>ay (.slice b a c)/\ay (ac d)/\ay (ac f)/\ay (ac (ai (d+f)))/\aN b λm=>0<=(ai (d+f))/\(ai (d+f))<(a:Int)/\aP e ((m.add ((ai (d+f)).toNat*1)).add 0) (ae k) λe=>bk5 b a c d i l j (ai (g+1)) e
def F315.wL5:Prop:=Lp Tryz.f315 F315.T [1,1,0,1,1,1,0] n [(0,(.slice b a c)),(1,(ac d)),(6,(ac i)),(7,(ag l)),(8,(af j)),(9,(ac g))] h K
def F315.sL5:F315.wL5 (n+1) b a c d i l j g h K=(((4:Int)≠0/\aC (g<=(ai ((ai (d+(ai ((ai (Int.tdiv i 4))*2))))+1))) (Cl 345 [ag l] h λe f=>aI .u64 (some e) λe=>aC ((ai (aY .and .u64 e (IntKind.wrap .u64 (j-1))))>=i) (F315.wk10 (λa b c d e f g i j=>F315.wL5 n a b c d e f g i j K) b a c d i l j g (ai ((ai (aY .and .u64 e (IntKind.wrap .u64 (j-1))))-i)) f K) (F315.wk10 (λa b c d e f g i j=>F315.wL5 n a b c d e f g i j K) b a c d i l j g (ai (aY .and .u64 e (IntKind.wrap .u64 (j-1)))) f K)) (K ax h))):=by kernel_rfl
def F315.wk5:Prop:=(∃e,F315.wL5 e b a c d i l j g h K)
def F315.spec(H:aC ((ai (o-d))>=8) (aZ h (.cells #[af 0] 401) λe f=>aP f ((ah e).add 0) (af (IntKind.wrap .u64 (ai (o-d)))) λf=>Cl 344 [ac (ai (o-d))] f λf g=>aI .u64 (some f) λf=>(4:Int)≠0/\F315.wk5 b a c d (ai (o-d)) (ah e) f (ai ((ai (d+(ai ((ai (Int.tdiv (ai (o-d)) 4))*2))))-1)) g K) (K ax h)):Cl 315 [.slice b a c,ac d,ac o] h K:=cT F315.T Tryz.func315 H
end
def F316.T:bf:=⟨[(11,[0,9,10,11,12]),(12,[9,11])],[]⟩
section
variable (c:ak)(b a:Nat)(l:Addr)(i g j:Int)(h:aA)(K:KK)
def F316.wk12:Prop:=aI .i64 (rd h l) λa=>aC (a==0) (K (.tuple #[ac g,ac 1]) h) (aC (a==12) (K (.tuple #[ac g,ac 2]) h) (K (.tuple #[ac g,ac 0]) h))
def F316.wk11:Prop:=Cl 347 [.slice c b a,ac i,ac g,ac j,ag l] h λa b=>aI .i64 (some a) λa=>F316.wk12 l a b K
end
def F316.spec(H:aZ h (.cells #[ac 0] 3) λa b=>(4:Int)≠0/\(4:Int)≠0/\(4:Int)≠0/\aC ((ai (j-i))>=8) (aC ((ai (j-i))>=50) (Cl 346 [.slice x u v,ac (ai (i+(ai ((ai (Int.tdiv (ai (j-i)) 4))*1)))),ag (ah a)] b λb c=>aI .i64 (some b) λb=>Cl 346 [.slice x u v,ac (ai (i+(ai ((ai (Int.tdiv (ai (j-i)) 4))*2)))),ag (ah a)] c λc d=>aI .i64 (some c) λc=>Cl 346 [.slice x u v,ac (ai (i+(ai ((ai (Int.tdiv (ai (j-i)) 4))*3)))),ag (ah a)] d λd e=>aI .i64 (some d) λd=>F316.wk11 x u v (ah a) b c d e K) (F316.wk11 x u v (ah a) (ai (i+(ai ((ai (Int.tdiv (ai (j-i)) 4))*1)))) (ai (i+(ai ((ai (Int.tdiv (ai (j-i)) 4))*2)))) (ai (i+(ai ((ai (Int.tdiv (ai (j-i)) 4))*3)))) b K)) (F316.wk12 (ah a) (ai (i+(ai ((ai (Int.tdiv (ai (j-i)) 4))*2)))) b K)):Cl 316 [.slice x u v,ac i,ac j] h K:=cT F316.T Tryz.func316 H
def F317.T:bf:=⟨[(2,[0,6,7])],[(3,[[(0,[]),(1,[]),(2,[]),(3,[]),(4,[]),(5,[]),(6,[]),(7,[]),(8,[]),(9,[]),(10,[]),(11,[]),(12,[]),(13,[2,3]),(14,[]),(15,[])]])]⟩
section
variable (n:Nat)(b:ak)(a c:Nat)(g i f d:Int)(h:aA)(K:KK)
def F317.wL2:Prop:=Lp Tryz.f317 F317.T [1,1,0] n [(0,(.slice b a c)),(6,(ac f)),(7,(ac d))] h K
def F317.sL2:F317.wL2 (n+1) b a c f d h K=(aC (f<d) (aN b λe=>0<=d/\d<(a:Int)/\aI .u32 (rd h (e.add (d.toNat*1))) λe=>aN b λg=>0<=f/\f<(a:Int)/\aI .u32 (rd h (g.add (f.toNat*1))) λg=>aN b λi=>0<=f/\f<(a:Int)/\aP h ((i.add (f.toNat*1)).add 0) (ae e) λe=>ay (.slice b a c)/\ay (ac d)/\aN b λi=>0<=d/\d<(a:Int)/\aP e ((i.add (d.toNat*1)).add 0) (ae g) λe=>F317.wL2 n b a c (ai (f+1)) (ai (d-1)) e K) (K ax h)):=by kernel_rfl
def F317.wk2:Prop:=(∃e,F317.wL2 e b a c f d h K)
def F317.spec(H:F317.wk2 b a c g (ai (i-1)) h K):Cl 317 [.slice b a c,ac g,ac i] h K:=cT F317.T Tryz.func317 H
end
namespace F318
def T:bf:=⟨[(3,[0,1,2,7,8]),(5,[0,1,2,7,8]),(7,[0,1,2,7,8]),(14,[0,1,2,7,8,9]),(18,[0,1,2,7,8]),(20,[0,1,2,7,8,10])],[(5,[[(0,[]),(1,[]),(2,[]),(3,[]),(4,[]),(5,[]),(6,[]),(7,[]),(8,[]),(9,[]),(10,[]),(11,[]),(12,[]),(13,[]),(14,[]),(15,[])]]),(11,[[(0,[]),(1,[]),(2,[]),(3,[]),(4,[]),(5,[]),(6,[]),(7,[]),(8,[]),(9,[]),(10,[]),(11,[]),(12,[]),(13,[]),(14,[]),(15,[2,3,4]),(16,[]),(17,[])]]),(16,[[(0,[]),(1,[]),(2,[]),(3,[]),(4,[]),(5,[]),(6,[]),(7,[]),(8,[]),(9,[]),(10,[])]]),(17,[[(0,[]),(1,[]),(2,[]),(3,[]),(4,[]),(5,[]),(6,[]),(7,[]),(8,[]),(9,[]),(10,[]),(11,[]),(12,[]),(13,[]),(14,[]),(15,[2,3,4]),(16,[]),(17,[])]]),(22,[[(0,[]),(1,[]),(2,[]),(3,[]),(4,[]),(5,[]),(6,[]),(7,[]),(8,[]),(9,[]),(10,[])]]),(23,[[(0,[]),(1,[]),(2,[]),(3,[]),(4,[]),(5,[]),(6,[]),(7,[]),(8,[]),(9,[]),(10,[]),(11,[]),(12,[]),(13,[]),(14,[]),(15,[2,3,4]),(16,[]),(17,[])]])]⟩
noncomputable def body:Code:=(Tryz.f318.body).getD .skip
noncomputable def en(S:aS)(p:List Nat)(κ:XK):Fr->aA->Prop:=E Tryz.prog X T S (sub body p) κ
noncomputable def ln(S:aS)(p:List Nat)(κ:XK)(n:Nat):Fr->aA->Prop:=fQ S (E Tryz.prog X T S (sub body p)) (bJ T (sub body p)) κ n
def fn(K:KK):XK:=fin Tryz.prog Tryz.f318.results.toList K
noncomputable def c0(S:aS)(K:KK):XK:=dM S (bJ T (sub body [1,1,1])) (en S [1,1,1] (fn K)) (fn K)
noncomputable def c1(S:aS)(K:KK):XK:=br 0 (c0 S K)
noncomputable def c2(S:aS)(n3:Nat)(K:KK):XK:=cO S (bJ T (sub body [1,1,0,1,0,0])) (ln S [1,1,0,1,0,0] (c1 S K) n3) (c1 S K)
noncomputable def c3(S:aS)(n3:Nat)(K:KK):XK:=dM S (bJ T (sub body [1,1,0,1,0,0,1,1])) (en S [1,1,0,1,0,0,1,1] (c2 S n3 K)) (c2 S n3 K)
noncomputable def c4(S:aS)(n3:Nat)(K:KK):XK:=br 1 (c3 S n3 K)
noncomputable def c5(S:aS)(n3:Nat)(K:KK):XK:=dM S (bJ T (sub body [1,1,0,1,0,0,1,0,0,1])) (en S [1,1,0,1,0,0,1,0,0,1] (c4 S n3 K)) (c4 S n3 K)
noncomputable def c6(S:aS)(n3:Nat)(K:KK):XK:=br 2 (c5 S n3 K)
noncomputable def c7(S:aS)(n3:Nat)(n5:Nat)(K:KK):XK:=cO S (bJ T (sub body [1,1,0,1,0,0,1,0,0,0,0,0])) (ln S [1,1,0,1,0,0,1,0,0,0,0,0] (c6 S n3 K) n5) (c6 S n3 K)
noncomputable def c8(S:aS)(n3:Nat)(K:KK):XK:=dM S (bJ T (sub body [1,1,0,1,0,0,1,0,0,1,1,1,1,1])) (en S [1,1,0,1,0,0,1,0,0,1,1,1,1,1] (c4 S n3 K)) (c4 S n3 K)
noncomputable def c9(S:aS)(n3:Nat)(K:KK):XK:=br 4 (c8 S n3 K)
noncomputable def c10(S:aS)(n3:Nat)(n14:Nat)(K:KK):XK:=cO S (bJ T (sub body [1,1,0,1,0,0,1,0,0,1,1,1,1,0,1,0,1,0,0])) (ln S [1,1,0,1,0,0,1,0,0,1,1,1,1,0,1,0,1,0,0] (c9 S n3 K) n14) (c9 S n3 K)
noncomputable def c11(S:aS)(n3:Nat)(K:KK):XK:=br 6 (c4 S n3 K)
noncomputable def c12(S:aS)(n3:Nat)(n20:Nat)(K:KK):XK:=cO S (bJ T (sub body [1,1,0,1,0,0,1,0,0,1,1,1,1,1,1,0,1,0,0])) (ln S [1,1,0,1,0,0,1,0,0,1,1,1,1,1,1,0,1,0,0] (c11 S n3 K) n20) (c11 S n3 K)
def f3(b:ak)(a c:Nat)(g f d i:Int):Fr:=[(0,(.slice b a c)),(1,(ac g)),(2,(ac f)),(7,(ac d)),(8,(ac i))]
def f5(b:ak)(a c:Nat)(g f d i:Int):Fr:=[(0,(.slice b a c)),(1,(ac g)),(2,(ac f)),(7,(ac d)),(8,(ac i))]
def f7(b:ak)(a c:Nat)(g f d i:Int):Fr:=[(0,(.slice b a c)),(1,(ac g)),(2,(ac f)),(7,(ac d)),(8,(ac i))]
def f14(b:ak)(a c:Nat)(g f d i l:Int):Fr:=[(0,(.slice b a c)),(1,(ac g)),(2,(ac f)),(7,(ac d)),(8,(ac i)),(9,(ac l))]
def f18(b:ak)(a c:Nat)(g f d i:Int):Fr:=[(0,(.slice b a c)),(1,(ac g)),(2,(ac f)),(7,(ac d)),(8,(ac i))]
def f20(b:ak)(a c:Nat)(g f d i j:Int):Fr:=[(0,(.slice b a c)),(1,(ac g)),(2,(ac f)),(7,(ac d)),(8,(ac i)),(10,(ac j))]
def J0(k3:(ak)->Nat->Nat->Int->Int->Int->Int->aA->Prop)(b:ak)(a c:Nat)(g f:Int)(h:aA)(_K:KK):Prop:=
 k3 b a c g f (ai (g+(1:Int))) (0:Int) h
def E0(S:aS)(b:ak)(a c:Nat)(g f:Int)(h:aA)(K:KK):(E Tryz.prog X T S body (fin Tryz.prog Tryz.f318.results.toList K) (cx 0 [(.slice b a c),(ac g),(ac f)]) h)=J0 (λb a c g f d i h=>S (en S [1,1,0,1] (c0 S K)) (f3 b a c g f d i) h) b a c g f h K:=by kernel_rfl
def Jk3(lp3:(ak)->Nat->Nat->Int->Int->Int->Int->aA->Prop)(b:ak)(a c:Nat)(g f d i:Int)(h:aA)(_K:KK):Prop:=
 lp3 b a c g f d i h
def Ek3(S:aS)(b:ak)(a c:Nat)(g f d i:Int)(h:aA)(K:KK):(en S [1,1,0,1] (c0 S K) (f3 b a c g f d i) h)=Jk3 (λb a c g f d i h=> ∃n,S (ln S [1,1,0,1,0,0] (c1 S K) n) (f3 b a c g f d i) h) b a c g f d i h K:=by kernel_rfl
def JL3(k5:(ak)->Nat->Nat->Int->Int->Int->Int->aA->Prop)(b:ak)(a c:Nat)(g f d i:Int)(h:aA)(K:KK):Prop:=
 aC (decide (i<(5:Int))) (k5 b a c g f d i h) (K aq h)
def EL3(S:aS)(n3:Nat)(b:ak)(a c:Nat)(g f d i:Int)(h:aA)(K:KK):(en S [1,1,0,1,0,0] (c2 S n3 K) (f3 b a c g f d i) h)=JL3 (λb a c g f d i h=>S (en S [1,1,0,1,0,0,1] (c2 S n3 K)) (f5 b a c g f d i) h) b a c g f d i h K:=by kernel_rfl
def Jk5(lp5:(ak)->Nat->Nat->Int->Int->Int->Int->aA->Prop)(b:ak)(a c:Nat)(g f d i:Int)(h:aA)(_K:KK):Prop:=
 lp5 b a c g f d i h
def Ek5(S:aS)(n3:Nat)(b:ak)(a c:Nat)(g f d i:Int)(h:aA)(K:KK):(en S [1,1,0,1,0,0,1] (c2 S n3 K) (f5 b a c g f d i) h)=Jk5 (λb a c g f d i h=> ∃n,S (ln S [1,1,0,1,0,0,1,0,0,0,0,0] (c6 S n3 K) n) (f5 b a c g f d i) h) b a c g f d i h K:=by kernel_rfl
def JL5(bk5:(ak)->Nat->Nat->Int->Int->Int->Int->aA->Prop)(k7:(ak)->Nat->Nat->Int->Int->Int->Int->aA->Prop)(b:ak)(a c:Nat)(g f d i:Int)(h:aA)(_K:KK):Prop:=
 aC (decide (d<f)) (aN b (λa1=>(0<=d/\d<(Nat.cast a:Int)/\aI .u32 (rd h (a1.add (Int.toNat d*1))) (λn2=>aN b (λa3=>(0<=(ai (d-(1:Int)))/\(ai (d-(1:Int)))<(Nat.cast a:Int)/\aI .u32 (rd h (a3.add (Int.toNat (ai (d-(1:Int)))*1))) (λn4=>Cl 319 [(ae n2),(ae n4)] h (λv5 h6=>bA (some v5) (λb7=>aC (!b7) (bk5 b a c g f (ai (d+(1:Int))) i h6) (k7 b a c g f d i h6)))))))))) (k7 b a c g f d i h)
def EL5(S:aS)(n3:Nat)(n5:Nat)(b:ak)(a c:Nat)(g f d i:Int)(h:aA)(K:KK):(en S [1,1,0,1,0,0,1,0,0,0,0,0] (c7 S n3 n5 K) (f5 b a c g f d i) h)=JL5 (λb a c g f d i h=>S (ln S [1,1,0,1,0,0,1,0,0,0,0,0] (c6 S n3 K) n5) (f5 b a c g f d i) h) (λb a c g f d i h=>S (en S [1,1,0,1,0,0,1,0,0,1] (c4 S n3 K)) (f7 b a c g f d i) h) b a c g f d i h K:=by kernel_rfl
def Jk7(k14:(ak)->Nat->Nat->Int->Int->Int->Int->Int->aA->Prop)(k18:(ak)->Nat->Nat->Int->Int->Int->Int->aA->Prop)(b:ak)(a c:Nat)(g f d i:Int)(h:aA)(K:KK):Prop:=
 aC (d==f) (K au h) (aC (decide ((ai (f-g))<(50:Int))) (K aq h) (aN b (λa1=>(0<=(ai (d-(1:Int)))/\(ai (d-(1:Int)))<(Nat.cast a:Int)/\aI .u32 (rd h (a1.add (Int.toNat (ai (d-(1:Int)))*1))) (λn2=>aN b (λa3=>(0<=d/\d<(Nat.cast a:Int)/\aI .u32 (rd h (a3.add (Int.toNat d*1))) (λn4=>aN b (λa5=>(0<=d/\d<(Nat.cast a:Int)/\aP h ((a5.add (Int.toNat d*1)).add 0) (ae n2) (λh6=>((.slice b a c)=((.slice b a c):Value)/\((ac d)=((ac d):Value)/\((ac (ai (d-(1:Int))))=((ac (ai (d-(1:Int)))):Value)/\aN b (λa7=>(0<=(ai (d-(1:Int)))/\(ai (d-(1:Int)))<(Nat.cast a:Int)/\aP h6 ((a7.add (Int.toNat (ai (d-(1:Int)))*1)).add 0) (ae n4) (λh8=>aC (decide ((ai (d-g))>=(2:Int))) (k14 b a c g f d i (ai (d-(1:Int))) h8) (k18 b a c g f d i h8))))))))))))))))))
def Ek7(S:aS)(n3:Nat)(b:ak)(a c:Nat)(g f d i:Int)(h:aA)(K:KK):(en S [1,1,0,1,0,0,1,0,0,1] (c4 S n3 K) (f7 b a c g f d i) h)=Jk7 (λb a c g f d i l h=>S (en S [1,1,0,1,0,0,1,0,0,1,1,1,1,0,1,0,1] (c8 S n3 K)) (f14 b a c g f d i l) h) (λb a c g f d i h=>S (en S [1,1,0,1,0,0,1,0,0,1,1,1,1,1] (c4 S n3 K)) (f18 b a c g f d i) h) b a c g f d i h K:=by kernel_rfl
def Jk14(lp14:(ak)->Nat->Nat->Int->Int->Int->Int->Int->aA->Prop)(b:ak)(a c:Nat)(g f d i l:Int)(h:aA)(_K:KK):Prop:=
 lp14 b a c g f d i l h
def Ek14(S:aS)(n3:Nat)(b:ak)(a c:Nat)(g f d i l:Int)(h:aA)(K:KK):(en S [1,1,0,1,0,0,1,0,0,1,1,1,1,0,1,0,1] (c8 S n3 K) (f14 b a c g f d i l) h)=Jk14 (λb a c g f d i l h=> ∃n,S (ln S [1,1,0,1,0,0,1,0,0,1,1,1,1,0,1,0,1,0,0] (c9 S n3 K) n) (f14 b a c g f d i l) h) b a c g f d i l h K:=by kernel_rfl
def JL14(k18:(ak)->Nat->Nat->Int->Int->Int->Int->aA->Prop)(bk14:(ak)->Nat->Nat->Int->Int->Int->Int->Int->aA->Prop)(b:ak)(a c:Nat)(g f d i l:Int)(h:aA)(_K:KK):Prop:=
 aC (decide (l>=(1:Int))) (aN b (λa1=>(0<=l/\l<(Nat.cast a:Int)/\aI .u32 (rd h (a1.add (Int.toNat l*1))) (λn2=>aN b (λa3=>(0<=(ai (l-(1:Int)))/\(ai (l-(1:Int)))<(Nat.cast a:Int)/\aI .u32 (rd h (a3.add (Int.toNat (ai (l-(1:Int)))*1))) (λn4=>Cl 319 [(ae n2),(ae n4)] h (λv5 h6=>bA (some v5) (λb7=>aC (!b7) (k18 b a c g f d i h6) (aN b (λa8=>(0<=(ai (l-(1:Int)))/\(ai (l-(1:Int)))<(Nat.cast a:Int)/\aI .u32 (rd h6 (a8.add (Int.toNat (ai (l-(1:Int)))*1))) (λn9=>aN b (λa10=>(0<=l/\l<(Nat.cast a:Int)/\aI .u32 (rd h6 (a10.add (Int.toNat l*1))) (λn11=>aN b (λa12=>(0<=l/\l<(Nat.cast a:Int)/\aP h6 ((a12.add (Int.toNat l*1)).add 0) (ae n9) (λh13=>((.slice b a c)=((.slice b a c):Value)/\((ac l)=((ac l):Value)/\((ac (ai (l-(1:Int))))=((ac (ai (l-(1:Int)))):Value)/\aN b (λa14=>(0<=(ai (l-(1:Int)))/\(ai (l-(1:Int)))<(Nat.cast a:Int)/\aP h13 ((a14.add (Int.toNat (ai (l-(1:Int)))*1)).add 0) (ae n11) (λh15=>bk14 b a c g f d i (ai (l-(1:Int))) h15))))))))))))))))))))))))) (k18 b a c g f d i h)
def EL14(S:aS)(n3:Nat)(n14:Nat)(b:ak)(a c:Nat)(g f d i l:Int)(h:aA)(K:KK):(en S [1,1,0,1,0,0,1,0,0,1,1,1,1,0,1,0,1,0,0] (c10 S n3 n14 K) (f14 b a c g f d i l) h)=JL14 (λb a c g f d i h=>S (en S [1,1,0,1,0,0,1,0,0,1,1,1,1,1] (c4 S n3 K)) (f18 b a c g f d i) h) (λb a c g f d i l h=>S (ln S [1,1,0,1,0,0,1,0,0,1,1,1,1,0,1,0,1,0,0] (c9 S n3 K) n14) (f14 b a c g f d i l) h) b a c g f d i l h K:=by kernel_rfl
def Jk18(k20:(ak)->Nat->Nat->Int->Int->Int->Int->Int->aA->Prop)(bk3:(ak)->Nat->Nat->Int->Int->Int->Int->aA->Prop)(b:ak)(a c:Nat)(g f d i:Int)(h:aA)(_K:KK):Prop:=
 aC (decide ((ai (f-d))>=(2:Int))) (k20 b a c g f d i (ai (d+(1:Int))) h) (bk3 b a c g f d (ai (i+(1:Int))) h)
def Ek18(S:aS)(n3:Nat)(b:ak)(a c:Nat)(g f d i:Int)(h:aA)(K:KK):(en S [1,1,0,1,0,0,1,0,0,1,1,1,1,1] (c4 S n3 K) (f18 b a c g f d i) h)=Jk18 (λb a c g f d i j h=>S (en S [1,1,0,1,0,0,1,0,0,1,1,1,1,1,1,0,1] (c4 S n3 K)) (f20 b a c g f d i j) h) (λb a c g f d i h=>S (ln S [1,1,0,1,0,0] (c1 S K) n3) (f3 b a c g f d i) h) b a c g f d i h K:=by kernel_rfl
def Jk20(lp20:(ak)->Nat->Nat->Int->Int->Int->Int->Int->aA->Prop)(b:ak)(a c:Nat)(g f d i j:Int)(h:aA)(_K:KK):Prop:=
 lp20 b a c g f d i j h
def Ek20(S:aS)(n3:Nat)(b:ak)(a c:Nat)(g f d i j:Int)(h:aA)(K:KK):(en S [1,1,0,1,0,0,1,0,0,1,1,1,1,1,1,0,1] (c4 S n3 K) (f20 b a c g f d i j) h)=Jk20 (λb a c g f d i j h=> ∃n,S (ln S [1,1,0,1,0,0,1,0,0,1,1,1,1,1,1,0,1,0,0] (c11 S n3 K) n) (f20 b a c g f d i j) h) b a c g f d i j h K:=by kernel_rfl
def JL20(bk3:(ak)->Nat->Nat->Int->Int->Int->Int->aA->Prop)(bk20:(ak)->Nat->Nat->Int->Int->Int->Int->Int->aA->Prop)(b:ak)(a c:Nat)(g f d i j:Int)(h:aA)(_K:KK):Prop:=
 aC (decide (j<f)) (aN b (λa1=>(0<=j/\j<(Nat.cast a:Int)/\aI .u32 (rd h (a1.add (Int.toNat j*1))) (λn2=>aN b (λa3=>(0<=(ai (j-(1:Int)))/\(ai (j-(1:Int)))<(Nat.cast a:Int)/\aI .u32 (rd h (a3.add (Int.toNat (ai (j-(1:Int)))*1))) (λn4=>Cl 319 [(ae n2),(ae n4)] h (λv5 h6=>bA (some v5) (λb7=>aC (!b7) (bk3 b a c g f d (ai (i+(1:Int))) h6) (aN b (λa8=>(0<=(ai (j-(1:Int)))/\(ai (j-(1:Int)))<(Nat.cast a:Int)/\aI .u32 (rd h6 (a8.add (Int.toNat (ai (j-(1:Int)))*1))) (λn9=>aN b (λa10=>(0<=j/\j<(Nat.cast a:Int)/\aI .u32 (rd h6 (a10.add (Int.toNat j*1))) (λn11=>aN b (λa12=>(0<=j/\j<(Nat.cast a:Int)/\aP h6 ((a12.add (Int.toNat j*1)).add 0) (ae n9) (λh13=>((.slice b a c)=((.slice b a c):Value)/\((ac j)=((ac j):Value)/\((ac (ai (j-(1:Int))))=((ac (ai (j-(1:Int)))):Value)/\aN b (λa14=>(0<=(ai (j-(1:Int)))/\(ai (j-(1:Int)))<(Nat.cast a:Int)/\aP h13 ((a14.add (Int.toNat (ai (j-(1:Int)))*1)).add 0) (ae n11) (λh15=>bk20 b a c g f d i (ai (j+(1:Int))) h15))))))))))))))))))))))))) (bk3 b a c g f d (ai (i+(1:Int))) h)
def EL20(S:aS)(n3:Nat)(n20:Nat)(b:ak)(a c:Nat)(g f d i j:Int)(h:aA)(K:KK):(en S [1,1,0,1,0,0,1,0,0,1,1,1,1,1,1,0,1,0,0] (c12 S n3 n20 K) (f20 b a c g f d i j) h)=JL20 (λb a c g f d i h=>S (ln S [1,1,0,1,0,0] (c1 S K) n3) (f3 b a c g f d i) h) (λb a c g f d i j h=>S (ln S [1,1,0,1,0,0,1,0,0,1,1,1,1,1,1,0,1,0,0] (c11 S n3 K) n20) (f20 b a c g f d i j) h) b a c g f d i j h K:=by kernel_rfl
def wL20(bk3:(ak)->Nat->Nat->Int->Int->Int->Int->aA->Prop):Nat->(ak)->Nat->Nat->Int->Int->Int->Int->Int->aA->KK->Prop
 |0,_,_,_,_,_,_,_,_,_,_=>False
 |n+1,b,a,c,g,f,d,i,j,h,K=>JL20 bk3 (λb a c g f d i j h=>wL20 bk3 n b a c g f d i j h K) b a c g f d i j h K
def eL20(K:KK)(n3:Nat)(bk3:(ak)->Nat->Nat->Int->Int->Int->Int->aA->Prop)(hb3: ∀(b:ak) (a c:Nat) (g f d i:Int) (h:aA),(ln S0 [1,1,0,1,0,0] (c1 S0 K) n3 (f3 b a c g f d i) h)=bk3 b a c g f d i h): ∀(n:Nat) (b:ak) (a c:Nat) (g f d i j:Int) (h:aA),(ln S0 [1,1,0,1,0,0,1,0,0,1,1,1,1,1,1,0,1,0,0] (c11 S0 n3 K) n (f20 b a c g f d i j) h)=wL20 bk3 n b a c g f d i j h K
 |0,_,_,_,_,_,_,_,_,_=>rfl
 |n+1,b,a,c,g,f,d,i,j,h=>(EL20 S0 n3 n b a c g f d i j h K).trans (mM (λq0 q1=>JL20 q0 q1 b a c g f d i j h K) (by funext b a c g f d i h;exact hb3 b a c g f d i h) (by funext b a c g f d i j h;exact(λb a c g f d i j h=>eL20 K n3 bk3 hb3 n b a c g f d i j h) b a c g f d i j h))
def wk20(bk3:(ak)->Nat->Nat->Int->Int->Int->Int->aA->Prop)(b:ak)(a c:Nat)(g f d i j:Int)(h:aA)(K:KK):Prop:=
 Jk20 (λb a c g f d i j h=> ∃m,wL20 bk3 m b a c g f d i j h K) b a c g f d i j h K
def ek20(K:KK)(n3:Nat)(bk3:(ak)->Nat->Nat->Int->Int->Int->Int->aA->Prop)(hb3: ∀(b:ak) (a c:Nat) (g f d i:Int) (h:aA),(ln S0 [1,1,0,1,0,0] (c1 S0 K) n3 (f3 b a c g f d i) h)=bk3 b a c g f d i h)(b:ak)(a c:Nat)(g f d i j:Int)(h:aA):(en S0 [1,1,0,1,0,0,1,0,0,1,1,1,1,1,1,0,1] (c4 S0 n3 K) (f20 b a c g f d i j) h)=wk20 bk3 b a c g f d i j h K:=(Ek20 S0 n3 b a c g f d i j h K).trans (fX (λq0=>Jk20 q0 b a c g f d i j h K) (by funext b a c g f d i j h;exact bq λm=>eL20 K n3 bk3 hb3 m b a c g f d i j h))
def wk18(bk3:(ak)->Nat->Nat->Int->Int->Int->Int->aA->Prop)(b:ak)(a c:Nat)(g f d i:Int)(h:aA)(K:KK):Prop:=
 Jk18 (λb a c g f d i j h=>wk20 bk3 b a c g f d i j h K) bk3 b a c g f d i h K
def ek18(K:KK)(n3:Nat)(bk3:(ak)->Nat->Nat->Int->Int->Int->Int->aA->Prop)(hb3: ∀(b:ak) (a c:Nat) (g f d i:Int) (h:aA),(ln S0 [1,1,0,1,0,0] (c1 S0 K) n3 (f3 b a c g f d i) h)=bk3 b a c g f d i h)(b:ak)(a c:Nat)(g f d i:Int)(h:aA):(en S0 [1,1,0,1,0,0,1,0,0,1,1,1,1,1] (c4 S0 n3 K) (f18 b a c g f d i) h)=wk18 bk3 b a c g f d i h K:=(Ek18 S0 n3 b a c g f d i h K).trans (mM (λq0 q1=>Jk18 q0 q1 b a c g f d i h K) (by funext b a c g f d i j h;exact ek20 K n3 bk3 hb3 b a c g f d i j h) (by funext b a c g f d i h;exact hb3 b a c g f d i h))
def wL14(bk3:(ak)->Nat->Nat->Int->Int->Int->Int->aA->Prop):Nat->(ak)->Nat->Nat->Int->Int->Int->Int->Int->aA->KK->Prop
 |0,_,_,_,_,_,_,_,_,_,_=>False
 |n+1,b,a,c,g,f,d,i,l,h,K=>JL14 (λb a c g f d i h=>wk18 bk3 b a c g f d i h K) (λb a c g f d i l h=>wL14 bk3 n b a c g f d i l h K) b a c g f d i l h K
def eL14(K:KK)(n3:Nat)(bk3:(ak)->Nat->Nat->Int->Int->Int->Int->aA->Prop)(hb3: ∀(b:ak) (a c:Nat) (g f d i:Int) (h:aA),(ln S0 [1,1,0,1,0,0] (c1 S0 K) n3 (f3 b a c g f d i) h)=bk3 b a c g f d i h): ∀(n:Nat) (b:ak) (a c:Nat) (g f d i l:Int) (h:aA),(ln S0 [1,1,0,1,0,0,1,0,0,1,1,1,1,0,1,0,1,0,0] (c9 S0 n3 K) n (f14 b a c g f d i l) h)=wL14 bk3 n b a c g f d i l h K
 |0,_,_,_,_,_,_,_,_,_=>rfl
 |n+1,b,a,c,g,f,d,i,l,h=>(EL14 S0 n3 n b a c g f d i l h K).trans (mM (λq0 q1=>JL14 q0 q1 b a c g f d i l h K) (by funext b a c g f d i h;exact ek18 K n3 bk3 hb3 b a c g f d i h) (by funext b a c g f d i l h;exact(λb a c g f d i l h=>eL14 K n3 bk3 hb3 n b a c g f d i l h) b a c g f d i l h))
def wk14(bk3:(ak)->Nat->Nat->Int->Int->Int->Int->aA->Prop)(b:ak)(a c:Nat)(g f d i l:Int)(h:aA)(K:KK):Prop:=
 Jk14 (λb a c g f d i l h=> ∃m,wL14 bk3 m b a c g f d i l h K) b a c g f d i l h K
def ek14(K:KK)(n3:Nat)(bk3:(ak)->Nat->Nat->Int->Int->Int->Int->aA->Prop)(hb3: ∀(b:ak) (a c:Nat) (g f d i:Int) (h:aA),(ln S0 [1,1,0,1,0,0] (c1 S0 K) n3 (f3 b a c g f d i) h)=bk3 b a c g f d i h)(b:ak)(a c:Nat)(g f d i l:Int)(h:aA):(en S0 [1,1,0,1,0,0,1,0,0,1,1,1,1,0,1,0,1] (c8 S0 n3 K) (f14 b a c g f d i l) h)=wk14 bk3 b a c g f d i l h K:=(Ek14 S0 n3 b a c g f d i l h K).trans (fX (λq0=>Jk14 q0 b a c g f d i l h K) (by funext b a c g f d i l h;exact bq λm=>eL14 K n3 bk3 hb3 m b a c g f d i l h))
def wk7(bk3:(ak)->Nat->Nat->Int->Int->Int->Int->aA->Prop)(b:ak)(a c:Nat)(g f d i:Int)(h:aA)(K:KK):Prop:=
 Jk7 (λb a c g f d i l h=>wk14 bk3 b a c g f d i l h K) (λb a c g f d i h=>wk18 bk3 b a c g f d i h K) b a c g f d i h K
def ek7(K:KK)(n3:Nat)(bk3:(ak)->Nat->Nat->Int->Int->Int->Int->aA->Prop)(hb3: ∀(b:ak) (a c:Nat) (g f d i:Int) (h:aA),(ln S0 [1,1,0,1,0,0] (c1 S0 K) n3 (f3 b a c g f d i) h)=bk3 b a c g f d i h)(b:ak)(a c:Nat)(g f d i:Int)(h:aA):(en S0 [1,1,0,1,0,0,1,0,0,1] (c4 S0 n3 K) (f7 b a c g f d i) h)=wk7 bk3 b a c g f d i h K:=(Ek7 S0 n3 b a c g f d i h K).trans (mM (λq0 q1=>Jk7 q0 q1 b a c g f d i h K) (by funext b a c g f d i l h;exact ek14 K n3 bk3 hb3 b a c g f d i l h) (by funext b a c g f d i h;exact ek18 K n3 bk3 hb3 b a c g f d i h))
def wL5(bk3:(ak)->Nat->Nat->Int->Int->Int->Int->aA->Prop):Nat->(ak)->Nat->Nat->Int->Int->Int->Int->aA->KK->Prop
 |0,_,_,_,_,_,_,_,_,_=>False
 |n+1,b,a,c,g,f,d,i,h,K=>JL5 (λb a c g f d i h=>wL5 bk3 n b a c g f d i h K) (λb a c g f d i h=>wk7 bk3 b a c g f d i h K) b a c g f d i h K
def eL5(K:KK)(n3:Nat)(bk3:(ak)->Nat->Nat->Int->Int->Int->Int->aA->Prop)(hb3: ∀(b:ak) (a c:Nat) (g f d i:Int) (h:aA),(ln S0 [1,1,0,1,0,0] (c1 S0 K) n3 (f3 b a c g f d i) h)=bk3 b a c g f d i h): ∀(n:Nat) (b:ak) (a c:Nat) (g f d i:Int) (h:aA),(ln S0 [1,1,0,1,0,0,1,0,0,0,0,0] (c6 S0 n3 K) n (f5 b a c g f d i) h)=wL5 bk3 n b a c g f d i h K
 |0,_,_,_,_,_,_,_,_=>rfl
 |n+1,b,a,c,g,f,d,i,h=>(EL5 S0 n3 n b a c g f d i h K).trans (mM (λq0 q1=>JL5 q0 q1 b a c g f d i h K) (by funext b a c g f d i h;exact(λb a c g f d i h=>eL5 K n3 bk3 hb3 n b a c g f d i h) b a c g f d i h) (by funext b a c g f d i h;exact ek7 K n3 bk3 hb3 b a c g f d i h))
def wk5(bk3:(ak)->Nat->Nat->Int->Int->Int->Int->aA->Prop)(b:ak)(a c:Nat)(g f d i:Int)(h:aA)(K:KK):Prop:=
 Jk5 (λb a c g f d i h=> ∃m,wL5 bk3 m b a c g f d i h K) b a c g f d i h K
def ek5(K:KK)(n3:Nat)(bk3:(ak)->Nat->Nat->Int->Int->Int->Int->aA->Prop)(hb3: ∀(b:ak) (a c:Nat) (g f d i:Int) (h:aA),(ln S0 [1,1,0,1,0,0] (c1 S0 K) n3 (f3 b a c g f d i) h)=bk3 b a c g f d i h)(b:ak)(a c:Nat)(g f d i:Int)(h:aA):(en S0 [1,1,0,1,0,0,1] (c2 S0 n3 K) (f5 b a c g f d i) h)=wk5 bk3 b a c g f d i h K:=(Ek5 S0 n3 b a c g f d i h K).trans (fX (λq0=>Jk5 q0 b a c g f d i h K) (by funext b a c g f d i h;exact bq λm=>eL5 K n3 bk3 hb3 m b a c g f d i h))
def wL3:Nat->(ak)->Nat->Nat->Int->Int->Int->Int->aA->KK->Prop
 |0,_,_,_,_,_,_,_,_,_=>False
 |n+1,b,a,c,g,f,d,i,h,K=>JL3 (λb a c g f d i h=>wk5 (λb a c g f d i h=>wL3 n b a c g f d i h K) b a c g f d i h K) b a c g f d i h K
def eL3(K:KK): ∀(n:Nat) (b:ak) (a c:Nat) (g f d i:Int) (h:aA),(ln S0 [1,1,0,1,0,0] (c1 S0 K) n (f3 b a c g f d i) h)=wL3 n b a c g f d i h K
 |0,_,_,_,_,_,_,_,_=>rfl
 |n+1,b,a,c,g,f,d,i,h=>(EL3 S0 n b a c g f d i h K).trans (fX (λq0=>JL3 q0 b a c g f d i h K) (by funext b a c g f d i h;exact ek5 K n (λb a c g f d i h=>wL3 n b a c g f d i h K) (λb a c g f d i h=>eL3 K n b a c g f d i h) b a c g f d i h))
def wk3(b:ak)(a c:Nat)(g f d i:Int)(h:aA)(K:KK):Prop:=
 Jk3 (λb a c g f d i h=> ∃m,wL3 m b a c g f d i h K) b a c g f d i h K
def ek3(K:KK)(b:ak)(a c:Nat)(g f d i:Int)(h:aA):(en S0 [1,1,0,1] (c0 S0 K) (f3 b a c g f d i) h)=wk3 b a c g f d i h K:=(Ek3 S0 b a c g f d i h K).trans (fX (λq0=>Jk3 q0 b a c g f d i h K) (by funext b a c g f d i h;exact bq λm=>eL3 K m b a c g f d i h))
def w(b:ak)(a c:Nat)(g f:Int)(h:aA)(K:KK):Prop:=
 J0 (λb a c g f d i h=>wk3 b a c g f d i h K) b a c g f h K
def e0(K:KK)(b:ak)(a c:Nat)(g f:Int)(h:aA):(E Tryz.prog X T S0 body (fin Tryz.prog Tryz.f318.results.toList K) (cx 0 [(.slice b a c),(ac g),(ac f)]) h)=w b a c g f h K:=(E0 S0 b a c g f h K).trans (fX (λq0=>J0 q0 b a c g f h K) (by funext b a c g f d i h;exact ek3 K b a c g f d i h))
def hb:Tryz.f318.body=some body:=by kernel_rfl
def ok:bZ T Tryz.f318.ntmps body=true:=by kernel_rfl
def spec(b:ak)(a c:Nat)(g f:Int)(h:aA)(K:KK)(H:w b a c g f h K):Cl 318 [(.slice b a c),(ac g),(ac f)] h K:=
 cf (T:=T) xK xJ Tryz.func318 hb ok rfl (by rw[e0];exact H)
end F318
namespace F320
def T:bf:=⟨[(3,[0,1,9,10]),(5,[0,1,9,10]),(7,[0,1,9,10])],[(1,[[(0,[]),(1,[]),(2,[]),(3,[]),(4,[]),(5,[]),(6,[]),(7,[]),(8,[]),(9,[]),(10,[]),(11,[]),(12,[]),(13,[2,3]),(14,[]),(15,[])]]),(3,[[(0,[]),(1,[]),(2,[]),(3,[]),(4,[]),(5,[]),(6,[]),(7,[]),(8,[]),(9,[]),(10,[]),(11,[]),(12,[]),(13,[]),(14,[])]]),(5,[[(0,[]),(1,[]),(2,[]),(3,[]),(4,[]),(5,[]),(6,[]),(7,[]),(8,[]),(9,[]),(10,[]),(11,[]),(12,[]),(13,[])]]),(8,[[(0,[]),(1,[]),(2,[]),(3,[]),(4,[]),(5,[]),(6,[]),(7,[]),(8,[]),(9,[]),(10,[]),(11,[]),(12,[]),(13,[2,3]),(14,[]),(15,[])]])]⟩
noncomputable def body:Code:=(Tryz.f320.body).getD .skip
noncomputable def en(S:aS)(p:List Nat)(κ:XK):Fr->aA->Prop:=E Tryz.prog X T S (sub body p) κ
noncomputable def ln(S:aS)(p:List Nat)(κ:XK)(n:Nat):Fr->aA->Prop:=fQ S (E Tryz.prog X T S (sub body p)) (bJ T (sub body p)) κ n
def fn(K:KK):XK:=fin Tryz.prog Tryz.f320.results.toList K
noncomputable def c0(S:aS)(K:KK):XK:=dM S (bJ T (sub body [1,1,1,1])) (en S [1,1,1,1] (fn K)) (fn K)
noncomputable def c1(S:aS)(K:KK):XK:=br 0 (c0 S K)
noncomputable def c2(S:aS)(n3:Nat)(K:KK):XK:=cO S (bJ T (sub body [1,1,1,0,0,0])) (ln S [1,1,1,0,0,0] (c1 S K) n3) (c1 S K)
noncomputable def c3(S:aS)(n3:Nat)(K:KK):XK:=br 1 (c2 S n3 K)
noncomputable def c4(S:aS)(n3:Nat)(K:KK):XK:=dM S (bJ T (sub body [1,1,1,0,0,0,0,1])) (en S [1,1,1,0,0,0,0,1] (c3 S n3 K)) (c3 S n3 K)
noncomputable def c5(S:aS)(n3:Nat)(K:KK):XK:=br 2 (c4 S n3 K)
noncomputable def c6(S:aS)(n3:Nat)(n1003:Nat)(K:KK):XK:=cO S (bJ T (sub body [1,1,1,0,0,0,0,0,0,0])) (ln S [1,1,1,0,0,0,0,0,0,0] (c5 S n3 K) n1003) (c5 S n3 K)
noncomputable def c7(S:aS)(n3:Nat)(K:KK):XK:=dM S (bJ T (sub body [1,1,1,0,0,0,0,1,1])) (en S [1,1,1,0,0,0,0,1,1] (c3 S n3 K)) (c3 S n3 K)
noncomputable def c8(S:aS)(n3:Nat)(K:KK):XK:=br 4 (c7 S n3 K)
noncomputable def c9(S:aS)(n3:Nat)(n5:Nat)(K:KK):XK:=cO S (bJ T (sub body [1,1,1,0,0,0,0,1,0,0,0])) (ln S [1,1,1,0,0,0,0,1,0,0,0] (c8 S n3 K) n5) (c8 S n3 K)
def f3(b:ak)(a c:Nat)(f g d:Int):Fr:=[(0,(.slice b a c)),(1,(ac f)),(9,(ac g)),(10,(ac d))]
def f5(b:ak)(a c:Nat)(f g d:Int):Fr:=[(0,(.slice b a c)),(1,(ac f)),(9,(ac g)),(10,(ac d))]
def f7(b:ak)(a c:Nat)(f g d:Int):Fr:=[(0,(.slice b a c)),(1,(ac f)),(9,(ac g)),(10,(ac d))]
def J0(k3:(ak)->Nat->Nat->Int->Int->Int->aA->Prop)(b:ak)(a c:Nat)(f j i:Int)(h:aA)(_K:KK):Prop:=
 aN b (λa1=>(0<=i/\i<(Nat.cast a:Int)/\aI .u32 (rd h (a1.add (Int.toNat i*1))) (λn2=>aN b (λa3=>(0<=f/\f<(Nat.cast a:Int)/\aI .u32 (rd h (a3.add (Int.toNat f*1))) (λn4=>aN b (λa5=>(0<=f/\f<(Nat.cast a:Int)/\aP h ((a5.add (Int.toNat f*1)).add 0) (ae n2) (λh6=>((.slice b a c)=((.slice b a c):Value)/\((ac i)=((ac i):Value)/\aN b (λa7=>(0<=i/\i<(Nat.cast a:Int)/\aP h6 ((a7.add (Int.toNat i*1)).add 0) (ae n4) (λh8=>k3 b a c f (ai (f+(1:Int))) (ai (j-(1:Int))) h8))))))))))))))
def E0(S:aS)(b:ak)(a c:Nat)(f j i:Int)(h:aA)(K:KK):(E Tryz.prog X T S body (fin Tryz.prog Tryz.f320.results.toList K) (cx 0 [(.slice b a c),(ac f),(ac j),(ac i)]) h)=J0 (λb a c f g d h=>S (en S [1,1,1] (fn K)) (f3 b a c f g d) h) b a c f j i h K:=by kernel_rfl
def Jk3(lp3:(ak)->Nat->Nat->Int->Int->Int->aA->Prop)(b:ak)(a c:Nat)(f g d:Int)(h:aA)(_K:KK):Prop:=
 lp3 b a c f g d h
def Ek3(S:aS)(b:ak)(a c:Nat)(f g d:Int)(h:aA)(K:KK):(en S [1,1,1] (fn K) (f3 b a c f g d) h)=Jk3 (λb a c f g d h=> ∃n,S (ln S [1,1,1,0,0,0] (c1 S K) n) (f3 b a c f g d) h) b a c f g d h K:=by kernel_rfl
def JL3(lp1003:(ak)->Nat->Nat->Int->Int->Int->aA->Prop)(b:ak)(a c:Nat)(f g d:Int)(h:aA)(_K:KK):Prop:=
 lp1003 b a c f g d h
def EL3(S:aS)(n3:Nat)(b:ak)(a c:Nat)(f g d:Int)(h:aA)(K:KK):(en S [1,1,1,0,0,0] (c2 S n3 K) (f3 b a c f g d) h)=JL3 (λb a c f g d h=> ∃n,S (ln S [1,1,1,0,0,0,0,0,0,0] (c5 S n3 K) n) (f3 b a c f g d) h) b a c f g d h K:=by kernel_rfl
def JL1003(bk1003:(ak)->Nat->Nat->Int->Int->Int->aA->Prop)(k5:(ak)->Nat->Nat->Int->Int->Int->aA->Prop)(b:ak)(a c:Nat)(f g d:Int)(h:aA)(_K:KK):Prop:=
 aC (decide (g<=d)) (aN b (λa1=>(0<=f/\f<(Nat.cast a:Int)/\aI .u32 (rd h (a1.add (Int.toNat f*1))) (λn2=>aN b (λa3=>(0<=g/\g<(Nat.cast a:Int)/\aI .u32 (rd h (a3.add (Int.toNat g*1))) (λn4=>Cl 319 [(ae n2),(ae n4)] h (λv5 h6=>bA (some v5) (λb7=>aC (!b7) (bk1003 b a c f (ai (g+(1:Int))) d h6) (k5 b a c f g d h6)))))))))) (k5 b a c f g d h)
def EL1003(S:aS)(n3:Nat)(n1003:Nat)(b:ak)(a c:Nat)(f g d:Int)(h:aA)(K:KK):(en S [1,1,1,0,0,0,0,0,0,0] (c6 S n3 n1003 K) (f3 b a c f g d) h)=JL1003 (λb a c f g d h=>S (ln S [1,1,1,0,0,0,0,0,0,0] (c5 S n3 K) n1003) (f3 b a c f g d) h) (λb a c f g d h=>S (en S [1,1,1,0,0,0,0,1] (c3 S n3 K)) (f5 b a c f g d) h) b a c f g d h K:=by kernel_rfl
def Jk5(lp5:(ak)->Nat->Nat->Int->Int->Int->aA->Prop)(b:ak)(a c:Nat)(f g d:Int)(h:aA)(_K:KK):Prop:=
 lp5 b a c f g d h
def Ek5(S:aS)(n3:Nat)(b:ak)(a c:Nat)(f g d:Int)(h:aA)(K:KK):(en S [1,1,1,0,0,0,0,1] (c3 S n3 K) (f5 b a c f g d) h)=Jk5 (λb a c f g d h=> ∃n,S (ln S [1,1,1,0,0,0,0,1,0,0,0] (c8 S n3 K) n) (f5 b a c f g d) h) b a c f g d h K:=by kernel_rfl
def JL5(bk5:(ak)->Nat->Nat->Int->Int->Int->aA->Prop)(k7:(ak)->Nat->Nat->Int->Int->Int->aA->Prop)(b:ak)(a c:Nat)(f g d:Int)(h:aA)(_K:KK):Prop:=
 aC (decide (g<=d)) (aN b (λa1=>(0<=f/\f<(Nat.cast a:Int)/\aI .u32 (rd h (a1.add (Int.toNat f*1))) (λn2=>aN b (λa3=>(0<=d/\d<(Nat.cast a:Int)/\aI .u32 (rd h (a3.add (Int.toNat d*1))) (λn4=>Cl 319 [(ae n2),(ae n4)] h (λv5 h6=>bA (some v5) (λb7=>aC b7 (bk5 b a c f g (ai (d-(1:Int))) h6) (k7 b a c f g d h6)))))))))) (k7 b a c f g d h)
def EL5(S:aS)(n3:Nat)(n5:Nat)(b:ak)(a c:Nat)(f g d:Int)(h:aA)(K:KK):(en S [1,1,1,0,0,0,0,1,0,0,0] (c9 S n3 n5 K) (f5 b a c f g d) h)=JL5 (λb a c f g d h=>S (ln S [1,1,1,0,0,0,0,1,0,0,0] (c8 S n3 K) n5) (f5 b a c f g d) h) (λb a c f g d h=>S (en S [1,1,1,0,0,0,0,1,1] (c3 S n3 K)) (f7 b a c f g d) h) b a c f g d h K:=by kernel_rfl
def Jk7(bk3:(ak)->Nat->Nat->Int->Int->Int->aA->Prop)(b:ak)(a c:Nat)(f g d:Int)(h:aA)(K:KK):Prop:=
 aC (decide (g>d)) (K (ac g) h) (aN b (λa1=>(0<=d/\d<(Nat.cast a:Int)/\aI .u32 (rd h (a1.add (Int.toNat d*1))) (λn2=>aN b (λa3=>(0<=g/\g<(Nat.cast a:Int)/\aI .u32 (rd h (a3.add (Int.toNat g*1))) (λn4=>aN b (λa5=>(0<=g/\g<(Nat.cast a:Int)/\aP h ((a5.add (Int.toNat g*1)).add 0) (ae n2) (λh6=>((.slice b a c)=((.slice b a c):Value)/\((ac d)=((ac d):Value)/\aN b (λa7=>(0<=d/\d<(Nat.cast a:Int)/\aP h6 ((a7.add (Int.toNat d*1)).add 0) (ae n4) (λh8=>bk3 b a c f (ai (g+(1:Int))) (ai (d-(1:Int))) h8)))))))))))))))
def Ek7(S:aS)(n3:Nat)(b:ak)(a c:Nat)(f g d:Int)(h:aA)(K:KK):(en S [1,1,1,0,0,0,0,1,1] (c3 S n3 K) (f7 b a c f g d) h)=Jk7 (λb a c f g d h=>S (ln S [1,1,1,0,0,0] (c1 S K) n3) (f3 b a c f g d) h) b a c f g d h K:=by kernel_rfl
def wk7(bk3:(ak)->Nat->Nat->Int->Int->Int->aA->Prop)(b:ak)(a c:Nat)(f g d:Int)(h:aA)(K:KK):Prop:=
 Jk7 bk3 b a c f g d h K
def ek7(K:KK)(n3:Nat)(bk3:(ak)->Nat->Nat->Int->Int->Int->aA->Prop)(hb3: ∀(b:ak) (a c:Nat) (f g d:Int) (h:aA),(ln S0 [1,1,1,0,0,0] (c1 S0 K) n3 (f3 b a c f g d) h)=bk3 b a c f g d h)(b:ak)(a c:Nat)(f g d:Int)(h:aA):(en S0 [1,1,1,0,0,0,0,1,1] (c3 S0 n3 K) (f7 b a c f g d) h)=wk7 bk3 b a c f g d h K:=(Ek7 S0 n3 b a c f g d h K).trans (fX (λq0=>Jk7 q0 b a c f g d h K) (by funext b a c f g d h;exact hb3 b a c f g d h))
def wL5(bk3:(ak)->Nat->Nat->Int->Int->Int->aA->Prop):Nat->(ak)->Nat->Nat->Int->Int->Int->aA->KK->Prop
 |0,_,_,_,_,_,_,_,_=>False
 |n+1,b,a,c,f,g,d,h,K=>JL5 (λb a c f g d h=>wL5 bk3 n b a c f g d h K) (λb a c f g d h=>wk7 bk3 b a c f g d h K) b a c f g d h K
def eL5(K:KK)(n3:Nat)(bk3:(ak)->Nat->Nat->Int->Int->Int->aA->Prop)(hb3: ∀(b:ak) (a c:Nat) (f g d:Int) (h:aA),(ln S0 [1,1,1,0,0,0] (c1 S0 K) n3 (f3 b a c f g d) h)=bk3 b a c f g d h): ∀(n:Nat) (b:ak) (a c:Nat) (f g d:Int) (h:aA),(ln S0 [1,1,1,0,0,0,0,1,0,0,0] (c8 S0 n3 K) n (f5 b a c f g d) h)=wL5 bk3 n b a c f g d h K
 |0,_,_,_,_,_,_,_=>rfl
 |n+1,b,a,c,f,g,d,h=>(EL5 S0 n3 n b a c f g d h K).trans (mM (λq0 q1=>JL5 q0 q1 b a c f g d h K) (by funext b a c f g d h;exact(λb a c f g d h=>eL5 K n3 bk3 hb3 n b a c f g d h) b a c f g d h) (by funext b a c f g d h;exact ek7 K n3 bk3 hb3 b a c f g d h))
def wk5(bk3:(ak)->Nat->Nat->Int->Int->Int->aA->Prop)(b:ak)(a c:Nat)(f g d:Int)(h:aA)(K:KK):Prop:=
 Jk5 (λb a c f g d h=> ∃m,wL5 bk3 m b a c f g d h K) b a c f g d h K
def ek5(K:KK)(n3:Nat)(bk3:(ak)->Nat->Nat->Int->Int->Int->aA->Prop)(hb3: ∀(b:ak) (a c:Nat) (f g d:Int) (h:aA),(ln S0 [1,1,1,0,0,0] (c1 S0 K) n3 (f3 b a c f g d) h)=bk3 b a c f g d h)(b:ak)(a c:Nat)(f g d:Int)(h:aA):(en S0 [1,1,1,0,0,0,0,1] (c3 S0 n3 K) (f5 b a c f g d) h)=wk5 bk3 b a c f g d h K:=(Ek5 S0 n3 b a c f g d h K).trans (fX (λq0=>Jk5 q0 b a c f g d h K) (by funext b a c f g d h;exact bq λm=>eL5 K n3 bk3 hb3 m b a c f g d h))
def wL1003(bk3:(ak)->Nat->Nat->Int->Int->Int->aA->Prop):Nat->(ak)->Nat->Nat->Int->Int->Int->aA->KK->Prop
 |0,_,_,_,_,_,_,_,_=>False
 |n+1,b,a,c,f,g,d,h,K=>JL1003 (λb a c f g d h=>wL1003 bk3 n b a c f g d h K) (λb a c f g d h=>wk5 bk3 b a c f g d h K) b a c f g d h K
def eL1003(K:KK)(n3:Nat)(bk3:(ak)->Nat->Nat->Int->Int->Int->aA->Prop)(hb3: ∀(b:ak) (a c:Nat) (f g d:Int) (h:aA),(ln S0 [1,1,1,0,0,0] (c1 S0 K) n3 (f3 b a c f g d) h)=bk3 b a c f g d h): ∀(n:Nat) (b:ak) (a c:Nat) (f g d:Int) (h:aA),(ln S0 [1,1,1,0,0,0,0,0,0,0] (c5 S0 n3 K) n (f3 b a c f g d) h)=wL1003 bk3 n b a c f g d h K
 |0,_,_,_,_,_,_,_=>rfl
 |n+1,b,a,c,f,g,d,h=>(EL1003 S0 n3 n b a c f g d h K).trans (mM (λq0 q1=>JL1003 q0 q1 b a c f g d h K) (by funext b a c f g d h;exact(λb a c f g d h=>eL1003 K n3 bk3 hb3 n b a c f g d h) b a c f g d h) (by funext b a c f g d h;exact ek5 K n3 bk3 hb3 b a c f g d h))
def wL3:Nat->(ak)->Nat->Nat->Int->Int->Int->aA->KK->Prop
 |0,_,_,_,_,_,_,_,_=>False
 |n+1,b,a,c,f,g,d,h,K=>JL3 (λb a c f g d h=> ∃m,wL1003 (λb a c f g d h=>wL3 n b a c f g d h K) m b a c f g d h K) b a c f g d h K
def eL3(K:KK): ∀(n:Nat) (b:ak) (a c:Nat) (f g d:Int) (h:aA),(ln S0 [1,1,1,0,0,0] (c1 S0 K) n (f3 b a c f g d) h)=wL3 n b a c f g d h K
 |0,_,_,_,_,_,_,_=>rfl
 |n+1,b,a,c,f,g,d,h=>(EL3 S0 n b a c f g d h K).trans (fX (λq0=>JL3 q0 b a c f g d h K) (by funext b a c f g d h;exact bq λm=>eL1003 K n (λb a c f g d h=>wL3 n b a c f g d h K) (λb a c f g d h=>eL3 K n b a c f g d h) m b a c f g d h))
def wk3(b:ak)(a c:Nat)(f g d:Int)(h:aA)(K:KK):Prop:=
 Jk3 (λb a c f g d h=> ∃m,wL3 m b a c f g d h K) b a c f g d h K
def ek3(K:KK)(b:ak)(a c:Nat)(f g d:Int)(h:aA):(en S0 [1,1,1] (fn K) (f3 b a c f g d) h)=wk3 b a c f g d h K:=(Ek3 S0 b a c f g d h K).trans (fX (λq0=>Jk3 q0 b a c f g d h K) (by funext b a c f g d h;exact bq λm=>eL3 K m b a c f g d h))
def w(b:ak)(a c:Nat)(f j i:Int)(h:aA)(K:KK):Prop:=
 J0 (λb a c f g d h=>wk3 b a c f g d h K) b a c f j i h K
def e0(K:KK)(b:ak)(a c:Nat)(f j i:Int)(h:aA):(E Tryz.prog X T S0 body (fin Tryz.prog Tryz.f320.results.toList K) (cx 0 [(.slice b a c),(ac f),(ac j),(ac i)]) h)=w b a c f j i h K:=(E0 S0 b a c f j i h K).trans (fX (λq0=>J0 q0 b a c f j i h K) (by funext b a c f g d h;exact ek3 K b a c f g d h))
def hb:Tryz.f320.body=some body:=by kernel_rfl
def ok:bZ T Tryz.f320.ntmps body=true:=by kernel_rfl
def spec(b:ak)(a c:Nat)(f j i:Int)(h:aA)(K:KK)(H:w b a c f j i h K):Cl 320 [(.slice b a c),(ac f),(ac j),(ac i)] h K:=
 cf (T:=T) xK xJ Tryz.func320 hb ok rfl (by rw[e0];exact H)
end F320
namespace F321
def T:bf:=⟨[(3,[0,1,10,11]),(5,[0,1,10,11]),(7,[0,1,10,11]),(13,[0,1,10,11]),(15,[0,1,10,11]),(17,[0,1,10,11]),(21,[0,1,11])],[(1,[[(0,[]),(1,[]),(2,[]),(3,[]),(4,[]),(5,[]),(6,[]),(7,[]),(8,[]),(9,[]),(10,[]),(11,[]),(12,[]),(13,[2,3]),(14,[]),(15,[])]]),(3,[[(0,[]),(1,[]),(2,[]),(3,[]),(4,[]),(5,[]),(6,[]),(7,[]),(8,[]),(9,[]),(10,[]),(11,[]),(12,[]),(13,[])]]),(5,[[(0,[]),(1,[]),(2,[]),(3,[]),(4,[]),(5,[]),(6,[]),(7,[]),(8,[]),(9,[]),(10,[]),(11,[]),(12,[]),(13,[]),(14,[])]]),(8,[[(0,[]),(1,[]),(2,[]),(3,[]),(4,[]),(5,[]),(6,[]),(7,[]),(8,[]),(9,[]),(10,[]),(11,[]),(12,[]),(13,[2,3]),(14,[]),(15,[])]]),(10,[[(0,[]),(1,[]),(2,[]),(3,[]),(4,[]),(5,[]),(6,[]),(7,[]),(8,[]),(9,[]),(10,[]),(11,[]),(12,[]),(13,[2,3]),(14,[]),(15,[])]]),(13,[[(0,[]),(1,[]),(2,[]),(3,[]),(4,[]),(5,[]),(6,[]),(7,[]),(8,[]),(9,[]),(10,[]),(11,[]),(12,[]),(13,[])]]),(15,[[(0,[]),(1,[]),(2,[]),(3,[]),(4,[]),(5,[]),(6,[]),(7,[]),(8,[]),(9,[]),(10,[]),(11,[]),(12,[]),(13,[]),(14,[])]]),(18,[[(0,[]),(1,[]),(2,[]),(3,[]),(4,[]),(5,[]),(6,[]),(7,[]),(8,[]),(9,[]),(10,[]),(11,[]),(12,[]),(13,[2,3]),(14,[]),(15,[])]]),(21,[[(0,[]),(1,[]),(2,[]),(3,[]),(4,[]),(5,[]),(6,[]),(7,[]),(8,[]),(9,[]),(10,[]),(11,[]),(12,[]),(13,[2,3]),(14,[]),(15,[])]])]⟩
noncomputable def body:Code:=(Tryz.f321.body).getD .skip
noncomputable def en(S:aS)(p:List Nat)(κ:XK):Fr->aA->Prop:=E Tryz.prog X T S (sub body p) κ
noncomputable def ln(S:aS)(p:List Nat)(κ:XK)(n:Nat):Fr->aA->Prop:=fQ S (E Tryz.prog X T S (sub body p)) (bJ T (sub body p)) κ n
def fn(K:KK):XK:=fin Tryz.prog Tryz.f321.results.toList K
noncomputable def c0(S:aS)(K:KK):XK:=dM S (bJ T (sub body [1,1,1,1])) (en S [1,1,1,1] (fn K)) (fn K)
noncomputable def c1(S:aS)(K:KK):XK:=br 0 (c0 S K)
noncomputable def c2(S:aS)(n3:Nat)(K:KK):XK:=cO S (bJ T (sub body [1,1,1,0,0,0])) (ln S [1,1,1,0,0,0] (c1 S K) n3) (c1 S K)
noncomputable def c3(S:aS)(K:KK):XK:=dM S (bJ T (sub body [1,1,1,1,1])) (en S [1,1,1,1,1] (fn K)) (fn K)
noncomputable def c4(S:aS)(K:KK):XK:=br 2 (c3 S K)
noncomputable def c5(S:aS)(n5:Nat)(K:KK):XK:=cO S (bJ T (sub body [1,1,1,1,0,0,0])) (ln S [1,1,1,1,0,0,0] (c4 S K) n5) (c4 S K)
noncomputable def c6(S:aS)(K:KK):XK:=dM S (bJ T (sub body [1,1,1,1,1,1,1,1,1,1])) (en S [1,1,1,1,1,1,1,1,1,1] (fn K)) (fn K)
noncomputable def c7(S:aS)(K:KK):XK:=br 4 (c6 S K)
noncomputable def c8(S:aS)(n13:Nat)(K:KK):XK:=cO S (bJ T (sub body [1,1,1,1,1,1,1,1,1,0,0,0])) (ln S [1,1,1,1,1,1,1,1,1,0,0,0] (c7 S K) n13) (c7 S K)
noncomputable def c9(S:aS)(n13:Nat)(K:KK):XK:=br 5 (c8 S n13 K)
noncomputable def c10(S:aS)(n13:Nat)(K:KK):XK:=dM S (bJ T (sub body [1,1,1,1,1,1,1,1,1,0,0,0,0,1])) (en S [1,1,1,1,1,1,1,1,1,0,0,0,0,1] (c9 S n13 K)) (c9 S n13 K)
noncomputable def c11(S:aS)(n13:Nat)(K:KK):XK:=br 6 (c10 S n13 K)
noncomputable def c12(S:aS)(n13:Nat)(n1013:Nat)(K:KK):XK:=cO S (bJ T (sub body [1,1,1,1,1,1,1,1,1,0,0,0,0,0,0,0])) (ln S [1,1,1,1,1,1,1,1,1,0,0,0,0,0,0,0] (c11 S n13 K) n1013) (c11 S n13 K)
noncomputable def c13(S:aS)(n13:Nat)(K:KK):XK:=dM S (bJ T (sub body [1,1,1,1,1,1,1,1,1,0,0,0,0,1,1])) (en S [1,1,1,1,1,1,1,1,1,0,0,0,0,1,1] (c9 S n13 K)) (c9 S n13 K)
noncomputable def c14(S:aS)(n13:Nat)(K:KK):XK:=br 8 (c13 S n13 K)
noncomputable def c15(S:aS)(n13:Nat)(n15:Nat)(K:KK):XK:=cO S (bJ T (sub body [1,1,1,1,1,1,1,1,1,0,0,0,0,1,0,0,0])) (ln S [1,1,1,1,1,1,1,1,1,0,0,0,0,1,0,0,0] (c14 S n13 K) n15) (c14 S n13 K)
def f3(b:ak)(a d:Nat)(g f c:Int):Fr:=[(0,(.slice b a d)),(1,(ac g)),(10,(ac f)),(11,(ac c))]
def f5(b:ak)(a d:Nat)(g f c:Int):Fr:=[(0,(.slice b a d)),(1,(ac g)),(10,(ac f)),(11,(ac c))]
def f7(b:ak)(a d:Nat)(g f c:Int):Fr:=[(0,(.slice b a d)),(1,(ac g)),(10,(ac f)),(11,(ac c))]
def f13(b:ak)(a d:Nat)(g f c:Int):Fr:=[(0,(.slice b a d)),(1,(ac g)),(10,(ac f)),(11,(ac c))]
def f15(b:ak)(a d:Nat)(g f c:Int):Fr:=[(0,(.slice b a d)),(1,(ac g)),(10,(ac f)),(11,(ac c))]
def f17(b:ak)(a d:Nat)(g f c:Int):Fr:=[(0,(.slice b a d)),(1,(ac g)),(10,(ac f)),(11,(ac c))]
def f21(b:ak)(a d:Nat)(g c:Int):Fr:=[(0,(.slice b a d)),(1,(ac g)),(11,(ac c))]
def J0(k3:(ak)->Nat->Nat->Int->Int->Int->aA->Prop)(b:ak)(a d:Nat)(g j i:Int)(h:aA)(_K:KK):Prop:=
 aN b (λa1=>(0<=i/\i<(Nat.cast a:Int)/\aI .u32 (rd h (a1.add (Int.toNat i*1))) (λn2=>aN b (λa3=>(0<=g/\g<(Nat.cast a:Int)/\aI .u32 (rd h (a3.add (Int.toNat g*1))) (λn4=>aN b (λa5=>(0<=g/\g<(Nat.cast a:Int)/\aP h ((a5.add (Int.toNat g*1)).add 0) (ae n2) (λh6=>((.slice b a d)=((.slice b a d):Value)/\((ac i)=((ac i):Value)/\aN b (λa7=>(0<=i/\i<(Nat.cast a:Int)/\aP h6 ((a7.add (Int.toNat i*1)).add 0) (ae n4) (λh8=>k3 b a d g (ai (g+(1:Int))) (ai (j-(1:Int))) h8))))))))))))))
def E0(S:aS)(b:ak)(a d:Nat)(g j i:Int)(h:aA)(K:KK):(E Tryz.prog X T S body (fin Tryz.prog Tryz.f321.results.toList K) (cx 0 [(.slice b a d),(ac g),(ac j),(ac i)]) h)=J0 (λb a d g f c h=>S (en S [1,1,1] (fn K)) (f3 b a d g f c) h) b a d g j i h K:=by kernel_rfl
def Jk3(lp3:(ak)->Nat->Nat->Int->Int->Int->aA->Prop)(b:ak)(a d:Nat)(g f c:Int)(h:aA)(_K:KK):Prop:=
 lp3 b a d g f c h
def Ek3(S:aS)(b:ak)(a d:Nat)(g f c:Int)(h:aA)(K:KK):(en S [1,1,1] (fn K) (f3 b a d g f c) h)=Jk3 (λb a d g f c h=> ∃n,S (ln S [1,1,1,0,0,0] (c1 S K) n) (f3 b a d g f c) h) b a d g f c h K:=by kernel_rfl
def JL3(bk3:(ak)->Nat->Nat->Int->Int->Int->aA->Prop)(k5:(ak)->Nat->Nat->Int->Int->Int->aA->Prop)(b:ak)(a d:Nat)(g f c:Int)(h:aA)(_K:KK):Prop:=
 aC (decide (f<=c)) (aN b (λa1=>(0<=f/\f<(Nat.cast a:Int)/\aI .u32 (rd h (a1.add (Int.toNat f*1))) (λn2=>aN b (λa3=>(0<=g/\g<(Nat.cast a:Int)/\aI .u32 (rd h (a3.add (Int.toNat g*1))) (λn4=>Cl 319 [(ae n2),(ae n4)] h (λv5 h6=>bA (some v5) (λb7=>aC b7 (bk3 b a d g (ai (f+(1:Int))) c h6) (k5 b a d g f c h6)))))))))) (k5 b a d g f c h)
def EL3(S:aS)(n3:Nat)(b:ak)(a d:Nat)(g f c:Int)(h:aA)(K:KK):(en S [1,1,1,0,0,0] (c2 S n3 K) (f3 b a d g f c) h)=JL3 (λb a d g f c h=>S (ln S [1,1,1,0,0,0] (c1 S K) n3) (f3 b a d g f c) h) (λb a d g f c h=>S (en S [1,1,1,1] (fn K)) (f5 b a d g f c) h) b a d g f c h K:=by kernel_rfl
def Jk5(lp5:(ak)->Nat->Nat->Int->Int->Int->aA->Prop)(b:ak)(a d:Nat)(g f c:Int)(h:aA)(_K:KK):Prop:=
 lp5 b a d g f c h
def Ek5(S:aS)(b:ak)(a d:Nat)(g f c:Int)(h:aA)(K:KK):(en S [1,1,1,1] (fn K) (f5 b a d g f c) h)=Jk5 (λb a d g f c h=> ∃n,S (ln S [1,1,1,1,0,0,0] (c4 S K) n) (f5 b a d g f c) h) b a d g f c h K:=by kernel_rfl
def JL5(bk5:(ak)->Nat->Nat->Int->Int->Int->aA->Prop)(k7:(ak)->Nat->Nat->Int->Int->Int->aA->Prop)(b:ak)(a d:Nat)(g f c:Int)(h:aA)(_K:KK):Prop:=
 aC (decide (f<=c)) (aN b (λa1=>(0<=c/\c<(Nat.cast a:Int)/\aI .u32 (rd h (a1.add (Int.toNat c*1))) (λn2=>aN b (λa3=>(0<=g/\g<(Nat.cast a:Int)/\aI .u32 (rd h (a3.add (Int.toNat g*1))) (λn4=>Cl 319 [(ae n2),(ae n4)] h (λv5 h6=>bA (some v5) (λb7=>aC (!b7) (bk5 b a d g f (ai (c-(1:Int))) h6) (k7 b a d g f c h6)))))))))) (k7 b a d g f c h)
def EL5(S:aS)(n5:Nat)(b:ak)(a d:Nat)(g f c:Int)(h:aA)(K:KK):(en S [1,1,1,1,0,0,0] (c5 S n5 K) (f5 b a d g f c) h)=JL5 (λb a d g f c h=>S (ln S [1,1,1,1,0,0,0] (c4 S K) n5) (f5 b a d g f c) h) (λb a d g f c h=>S (en S [1,1,1,1,1] (fn K)) (f7 b a d g f c) h) b a d g f c h K:=by kernel_rfl
def Jk7(k13:(ak)->Nat->Nat->Int->Int->Int->aA->Prop)(b:ak)(a d:Nat)(g f c:Int)(h:aA)(K:KK):Prop:=
 aC (decide (f>c)) (aN b (λa1=>(0<=g/\g<(Nat.cast a:Int)/\aI .u32 (rd h (a1.add (Int.toNat g*1))) (λn2=>aN b (λa3=>(0<=c/\c<(Nat.cast a:Int)/\aI .u32 (rd h (a3.add (Int.toNat c*1))) (λn4=>aN b (λa5=>(0<=c/\c<(Nat.cast a:Int)/\aP h ((a5.add (Int.toNat c*1)).add 0) (ae n2) (λh6=>((.slice b a d)=((.slice b a d):Value)/\((ac g)=((ac g):Value)/\aN b (λa7=>(0<=g/\g<(Nat.cast a:Int)/\aP h6 ((a7.add (Int.toNat g*1)).add 0) (ae n4) (λh8=>K (.tuple #[(ac c),au]) h8))))))))))))))) (aN b (λa9=>(0<=c/\c<(Nat.cast a:Int)/\aI .u32 (rd h (a9.add (Int.toNat c*1))) (λn10=>aN b (λa11=>(0<=f/\f<(Nat.cast a:Int)/\aI .u32 (rd h (a11.add (Int.toNat f*1))) (λn12=>aN b (λa13=>(0<=f/\f<(Nat.cast a:Int)/\aP h ((a13.add (Int.toNat f*1)).add 0) (ae n10) (λh14=>((.slice b a d)=((.slice b a d):Value)/\((ac c)=((ac c):Value)/\aN b (λa15=>(0<=c/\c<(Nat.cast a:Int)/\aP h14 ((a15.add (Int.toNat c*1)).add 0) (ae n12) (λh16=>k13 b a d g (ai (f+(1:Int))) (ai (c-(1:Int))) h16)))))))))))))))
def Ek7(S:aS)(b:ak)(a d:Nat)(g f c:Int)(h:aA)(K:KK):(en S [1,1,1,1,1] (fn K) (f7 b a d g f c) h)=Jk7 (λb a d g f c h=>S (en S [1,1,1,1,1,1,1,1,1] (fn K)) (f13 b a d g f c) h) b a d g f c h K:=by kernel_rfl
def Jk13(lp13:(ak)->Nat->Nat->Int->Int->Int->aA->Prop)(b:ak)(a d:Nat)(g f c:Int)(h:aA)(_K:KK):Prop:=
 lp13 b a d g f c h
def Ek13(S:aS)(b:ak)(a d:Nat)(g f c:Int)(h:aA)(K:KK):(en S [1,1,1,1,1,1,1,1,1] (fn K) (f13 b a d g f c) h)=Jk13 (λb a d g f c h=> ∃n,S (ln S [1,1,1,1,1,1,1,1,1,0,0,0] (c7 S K) n) (f13 b a d g f c) h) b a d g f c h K:=by kernel_rfl
def JL13(lp1013:(ak)->Nat->Nat->Int->Int->Int->aA->Prop)(b:ak)(a d:Nat)(g f c:Int)(h:aA)(_K:KK):Prop:=
 lp1013 b a d g f c h
def EL13(S:aS)(n13:Nat)(b:ak)(a d:Nat)(g f c:Int)(h:aA)(K:KK):(en S [1,1,1,1,1,1,1,1,1,0,0,0] (c8 S n13 K) (f13 b a d g f c) h)=JL13 (λb a d g f c h=> ∃n,S (ln S [1,1,1,1,1,1,1,1,1,0,0,0,0,0,0,0] (c11 S n13 K) n) (f13 b a d g f c) h) b a d g f c h K:=by kernel_rfl
def JL1013(bk1013:(ak)->Nat->Nat->Int->Int->Int->aA->Prop)(k15:(ak)->Nat->Nat->Int->Int->Int->aA->Prop)(b:ak)(a d:Nat)(g f c:Int)(h:aA)(_K:KK):Prop:=
 aC (decide (f<=c)) (aN b (λa1=>(0<=f/\f<(Nat.cast a:Int)/\aI .u32 (rd h (a1.add (Int.toNat f*1))) (λn2=>aN b (λa3=>(0<=g/\g<(Nat.cast a:Int)/\aI .u32 (rd h (a3.add (Int.toNat g*1))) (λn4=>Cl 319 [(ae n2),(ae n4)] h (λv5 h6=>bA (some v5) (λb7=>aC b7 (bk1013 b a d g (ai (f+(1:Int))) c h6) (k15 b a d g f c h6)))))))))) (k15 b a d g f c h)
def EL1013(S:aS)(n13:Nat)(n1013:Nat)(b:ak)(a d:Nat)(g f c:Int)(h:aA)(K:KK):(en S [1,1,1,1,1,1,1,1,1,0,0,0,0,0,0,0] (c12 S n13 n1013 K) (f13 b a d g f c) h)=JL1013 (λb a d g f c h=>S (ln S [1,1,1,1,1,1,1,1,1,0,0,0,0,0,0,0] (c11 S n13 K) n1013) (f13 b a d g f c) h) (λb a d g f c h=>S (en S [1,1,1,1,1,1,1,1,1,0,0,0,0,1] (c9 S n13 K)) (f15 b a d g f c) h) b a d g f c h K:=by kernel_rfl
def Jk15(lp15:(ak)->Nat->Nat->Int->Int->Int->aA->Prop)(b:ak)(a d:Nat)(g f c:Int)(h:aA)(_K:KK):Prop:=
 lp15 b a d g f c h
def Ek15(S:aS)(n13:Nat)(b:ak)(a d:Nat)(g f c:Int)(h:aA)(K:KK):(en S [1,1,1,1,1,1,1,1,1,0,0,0,0,1] (c9 S n13 K) (f15 b a d g f c) h)=Jk15 (λb a d g f c h=> ∃n,S (ln S [1,1,1,1,1,1,1,1,1,0,0,0,0,1,0,0,0] (c14 S n13 K) n) (f15 b a d g f c) h) b a d g f c h K:=by kernel_rfl
def JL15(bk15:(ak)->Nat->Nat->Int->Int->Int->aA->Prop)(k17:(ak)->Nat->Nat->Int->Int->Int->aA->Prop)(b:ak)(a d:Nat)(g f c:Int)(h:aA)(_K:KK):Prop:=
 aC (decide (f<=c)) (aN b (λa1=>(0<=c/\c<(Nat.cast a:Int)/\aI .u32 (rd h (a1.add (Int.toNat c*1))) (λn2=>aN b (λa3=>(0<=g/\g<(Nat.cast a:Int)/\aI .u32 (rd h (a3.add (Int.toNat g*1))) (λn4=>Cl 319 [(ae n2),(ae n4)] h (λv5 h6=>bA (some v5) (λb7=>aC (!b7) (bk15 b a d g f (ai (c-(1:Int))) h6) (k17 b a d g f c h6)))))))))) (k17 b a d g f c h)
def EL15(S:aS)(n13:Nat)(n15:Nat)(b:ak)(a d:Nat)(g f c:Int)(h:aA)(K:KK):(en S [1,1,1,1,1,1,1,1,1,0,0,0,0,1,0,0,0] (c15 S n13 n15 K) (f15 b a d g f c) h)=JL15 (λb a d g f c h=>S (ln S [1,1,1,1,1,1,1,1,1,0,0,0,0,1,0,0,0] (c14 S n13 K) n15) (f15 b a d g f c) h) (λb a d g f c h=>S (en S [1,1,1,1,1,1,1,1,1,0,0,0,0,1,1] (c9 S n13 K)) (f17 b a d g f c) h) b a d g f c h K:=by kernel_rfl
def Jk17(k21:(ak)->Nat->Nat->Int->Int->aA->Prop)(bk13:(ak)->Nat->Nat->Int->Int->Int->aA->Prop)(b:ak)(a d:Nat)(g f c:Int)(h:aA)(_K:KK):Prop:=
 aC (decide (f>c)) (k21 b a d g c h) (aN b (λa1=>(0<=c/\c<(Nat.cast a:Int)/\aI .u32 (rd h (a1.add (Int.toNat c*1))) (λn2=>aN b (λa3=>(0<=f/\f<(Nat.cast a:Int)/\aI .u32 (rd h (a3.add (Int.toNat f*1))) (λn4=>aN b (λa5=>(0<=f/\f<(Nat.cast a:Int)/\aP h ((a5.add (Int.toNat f*1)).add 0) (ae n2) (λh6=>((.slice b a d)=((.slice b a d):Value)/\((ac c)=((ac c):Value)/\aN b (λa7=>(0<=c/\c<(Nat.cast a:Int)/\aP h6 ((a7.add (Int.toNat c*1)).add 0) (ae n4) (λh8=>bk13 b a d g (ai (f+(1:Int))) (ai (c-(1:Int))) h8)))))))))))))))
def Ek17(S:aS)(n13:Nat)(b:ak)(a d:Nat)(g f c:Int)(h:aA)(K:KK):(en S [1,1,1,1,1,1,1,1,1,0,0,0,0,1,1] (c9 S n13 K) (f17 b a d g f c) h)=Jk17 (λb a d g c h=>S (en S [1,1,1,1,1,1,1,1,1,1] (fn K)) (f21 b a d g c) h) (λb a d g f c h=>S (ln S [1,1,1,1,1,1,1,1,1,0,0,0] (c7 S K) n13) (f13 b a d g f c) h) b a d g f c h K:=by kernel_rfl
def Jk21(b:ak)(a d:Nat)(g c:Int)(h:aA)(K:KK):Prop:=
 aN b (λa1=>(0<=g/\g<(Nat.cast a:Int)/\aI .u32 (rd h (a1.add (Int.toNat g*1))) (λn2=>aN b (λa3=>(0<=c/\c<(Nat.cast a:Int)/\aI .u32 (rd h (a3.add (Int.toNat c*1))) (λn4=>aN b (λa5=>(0<=c/\c<(Nat.cast a:Int)/\aP h ((a5.add (Int.toNat c*1)).add 0) (ae n2) (λh6=>((.slice b a d)=((.slice b a d):Value)/\((ac g)=((ac g):Value)/\aN b (λa7=>(0<=g/\g<(Nat.cast a:Int)/\aP h6 ((a7.add (Int.toNat g*1)).add 0) (ae n4) (λh8=>K (.tuple #[(ac c),aq]) h8))))))))))))))
def Ek21(S:aS)(b:ak)(a d:Nat)(g c:Int)(h:aA)(K:KK):(en S [1,1,1,1,1,1,1,1,1,1] (fn K) (f21 b a d g c) h)=Jk21 b a d g c h K:=by kernel_rfl
def wk21(b:ak)(a d:Nat)(g c:Int)(h:aA)(K:KK):Prop:=
 Jk21 b a d g c h K
def ek21(K:KK)(b:ak)(a d:Nat)(g c:Int)(h:aA):(en S0 [1,1,1,1,1,1,1,1,1,1] (fn K) (f21 b a d g c) h)=wk21 b a d g c h K:=(Ek21 S0 b a d g c h K).trans (rfl)
def wk17(bk13:(ak)->Nat->Nat->Int->Int->Int->aA->Prop)(b:ak)(a d:Nat)(g f c:Int)(h:aA)(K:KK):Prop:=
 Jk17 (λb a d g c h=>wk21 b a d g c h K) bk13 b a d g f c h K
def ek17(K:KK)(n13:Nat)(bk13:(ak)->Nat->Nat->Int->Int->Int->aA->Prop)(hb13: ∀(b:ak) (a d:Nat) (g f c:Int) (h:aA),(ln S0 [1,1,1,1,1,1,1,1,1,0,0,0] (c7 S0 K) n13 (f13 b a d g f c) h)=bk13 b a d g f c h)(b:ak)(a d:Nat)(g f c:Int)(h:aA):(en S0 [1,1,1,1,1,1,1,1,1,0,0,0,0,1,1] (c9 S0 n13 K) (f17 b a d g f c) h)=wk17 bk13 b a d g f c h K:=(Ek17 S0 n13 b a d g f c h K).trans (mM (λq0 q1=>Jk17 q0 q1 b a d g f c h K) (by funext b a d g c h;exact ek21 K b a d g c h) (by funext b a d g f c h;exact hb13 b a d g f c h))
def wL15(bk13:(ak)->Nat->Nat->Int->Int->Int->aA->Prop):Nat->(ak)->Nat->Nat->Int->Int->Int->aA->KK->Prop
 |0,_,_,_,_,_,_,_,_=>False
 |n+1,b,a,d,g,f,c,h,K=>JL15 (λb a d g f c h=>wL15 bk13 n b a d g f c h K) (λb a d g f c h=>wk17 bk13 b a d g f c h K) b a d g f c h K
def eL15(K:KK)(n13:Nat)(bk13:(ak)->Nat->Nat->Int->Int->Int->aA->Prop)(hb13: ∀(b:ak) (a d:Nat) (g f c:Int) (h:aA),(ln S0 [1,1,1,1,1,1,1,1,1,0,0,0] (c7 S0 K) n13 (f13 b a d g f c) h)=bk13 b a d g f c h): ∀(n:Nat) (b:ak) (a d:Nat) (g f c:Int) (h:aA),(ln S0 [1,1,1,1,1,1,1,1,1,0,0,0,0,1,0,0,0] (c14 S0 n13 K) n (f15 b a d g f c) h)=wL15 bk13 n b a d g f c h K
 |0,_,_,_,_,_,_,_=>rfl
 |n+1,b,a,d,g,f,c,h=>(EL15 S0 n13 n b a d g f c h K).trans (mM (λq0 q1=>JL15 q0 q1 b a d g f c h K) (by funext b a d g f c h;exact(λb a d g f c h=>eL15 K n13 bk13 hb13 n b a d g f c h) b a d g f c h) (by funext b a d g f c h;exact ek17 K n13 bk13 hb13 b a d g f c h))
def wk15(bk13:(ak)->Nat->Nat->Int->Int->Int->aA->Prop)(b:ak)(a d:Nat)(g f c:Int)(h:aA)(K:KK):Prop:=
 Jk15 (λb a d g f c h=> ∃m,wL15 bk13 m b a d g f c h K) b a d g f c h K
def ek15(K:KK)(n13:Nat)(bk13:(ak)->Nat->Nat->Int->Int->Int->aA->Prop)(hb13: ∀(b:ak) (a d:Nat) (g f c:Int) (h:aA),(ln S0 [1,1,1,1,1,1,1,1,1,0,0,0] (c7 S0 K) n13 (f13 b a d g f c) h)=bk13 b a d g f c h)(b:ak)(a d:Nat)(g f c:Int)(h:aA):(en S0 [1,1,1,1,1,1,1,1,1,0,0,0,0,1] (c9 S0 n13 K) (f15 b a d g f c) h)=wk15 bk13 b a d g f c h K:=(Ek15 S0 n13 b a d g f c h K).trans (fX (λq0=>Jk15 q0 b a d g f c h K) (by funext b a d g f c h;exact bq λm=>eL15 K n13 bk13 hb13 m b a d g f c h))
def wL1013(bk13:(ak)->Nat->Nat->Int->Int->Int->aA->Prop):Nat->(ak)->Nat->Nat->Int->Int->Int->aA->KK->Prop
 |0,_,_,_,_,_,_,_,_=>False
 |n+1,b,a,d,g,f,c,h,K=>JL1013 (λb a d g f c h=>wL1013 bk13 n b a d g f c h K) (λb a d g f c h=>wk15 bk13 b a d g f c h K) b a d g f c h K
def eL1013(K:KK)(n13:Nat)(bk13:(ak)->Nat->Nat->Int->Int->Int->aA->Prop)(hb13: ∀(b:ak) (a d:Nat) (g f c:Int) (h:aA),(ln S0 [1,1,1,1,1,1,1,1,1,0,0,0] (c7 S0 K) n13 (f13 b a d g f c) h)=bk13 b a d g f c h): ∀(n:Nat) (b:ak) (a d:Nat) (g f c:Int) (h:aA),(ln S0 [1,1,1,1,1,1,1,1,1,0,0,0,0,0,0,0] (c11 S0 n13 K) n (f13 b a d g f c) h)=wL1013 bk13 n b a d g f c h K
 |0,_,_,_,_,_,_,_=>rfl
 |n+1,b,a,d,g,f,c,h=>(EL1013 S0 n13 n b a d g f c h K).trans (mM (λq0 q1=>JL1013 q0 q1 b a d g f c h K) (by funext b a d g f c h;exact(λb a d g f c h=>eL1013 K n13 bk13 hb13 n b a d g f c h) b a d g f c h) (by funext b a d g f c h;exact ek15 K n13 bk13 hb13 b a d g f c h))
def wL13:Nat->(ak)->Nat->Nat->Int->Int->Int->aA->KK->Prop
 |0,_,_,_,_,_,_,_,_=>False
 |n+1,b,a,d,g,f,c,h,K=>JL13 (λb a d g f c h=> ∃m,wL1013 (λb a d g f c h=>wL13 n b a d g f c h K) m b a d g f c h K) b a d g f c h K
def eL13(K:KK): ∀(n:Nat) (b:ak) (a d:Nat) (g f c:Int) (h:aA),(ln S0 [1,1,1,1,1,1,1,1,1,0,0,0] (c7 S0 K) n (f13 b a d g f c) h)=wL13 n b a d g f c h K
 |0,_,_,_,_,_,_,_=>rfl
 |n+1,b,a,d,g,f,c,h=>(EL13 S0 n b a d g f c h K).trans (fX (λq0=>JL13 q0 b a d g f c h K) (by funext b a d g f c h;exact bq λm=>eL1013 K n (λb a d g f c h=>wL13 n b a d g f c h K) (λb a d g f c h=>eL13 K n b a d g f c h) m b a d g f c h))
def wk13(b:ak)(a d:Nat)(g f c:Int)(h:aA)(K:KK):Prop:=
 Jk13 (λb a d g f c h=> ∃m,wL13 m b a d g f c h K) b a d g f c h K
def ek13(K:KK)(b:ak)(a d:Nat)(g f c:Int)(h:aA):(en S0 [1,1,1,1,1,1,1,1,1] (fn K) (f13 b a d g f c) h)=wk13 b a d g f c h K:=(Ek13 S0 b a d g f c h K).trans (fX (λq0=>Jk13 q0 b a d g f c h K) (by funext b a d g f c h;exact bq λm=>eL13 K m b a d g f c h))
def wk7(b:ak)(a d:Nat)(g f c:Int)(h:aA)(K:KK):Prop:=
 Jk7 (λb a d g f c h=>wk13 b a d g f c h K) b a d g f c h K
def ek7(K:KK)(b:ak)(a d:Nat)(g f c:Int)(h:aA):(en S0 [1,1,1,1,1] (fn K) (f7 b a d g f c) h)=wk7 b a d g f c h K:=(Ek7 S0 b a d g f c h K).trans (fX (λq0=>Jk7 q0 b a d g f c h K) (by funext b a d g f c h;exact ek13 K b a d g f c h))
def wL5:Nat->(ak)->Nat->Nat->Int->Int->Int->aA->KK->Prop
 |0,_,_,_,_,_,_,_,_=>False
 |n+1,b,a,d,g,f,c,h,K=>JL5 (λb a d g f c h=>wL5 n b a d g f c h K) (λb a d g f c h=>wk7 b a d g f c h K) b a d g f c h K
def eL5(K:KK): ∀(n:Nat) (b:ak) (a d:Nat) (g f c:Int) (h:aA),(ln S0 [1,1,1,1,0,0,0] (c4 S0 K) n (f5 b a d g f c) h)=wL5 n b a d g f c h K
 |0,_,_,_,_,_,_,_=>rfl
 |n+1,b,a,d,g,f,c,h=>(EL5 S0 n b a d g f c h K).trans (mM (λq0 q1=>JL5 q0 q1 b a d g f c h K) (by funext b a d g f c h;exact(λb a d g f c h=>eL5 K n b a d g f c h) b a d g f c h) (by funext b a d g f c h;exact ek7 K b a d g f c h))
def wk5(b:ak)(a d:Nat)(g f c:Int)(h:aA)(K:KK):Prop:=
 Jk5 (λb a d g f c h=> ∃m,wL5 m b a d g f c h K) b a d g f c h K
def ek5(K:KK)(b:ak)(a d:Nat)(g f c:Int)(h:aA):(en S0 [1,1,1,1] (fn K) (f5 b a d g f c) h)=wk5 b a d g f c h K:=(Ek5 S0 b a d g f c h K).trans (fX (λq0=>Jk5 q0 b a d g f c h K) (by funext b a d g f c h;exact bq λm=>eL5 K m b a d g f c h))
def wL3:Nat->(ak)->Nat->Nat->Int->Int->Int->aA->KK->Prop
 |0,_,_,_,_,_,_,_,_=>False
 |n+1,b,a,d,g,f,c,h,K=>JL3 (λb a d g f c h=>wL3 n b a d g f c h K) (λb a d g f c h=>wk5 b a d g f c h K) b a d g f c h K
def eL3(K:KK): ∀(n:Nat) (b:ak) (a d:Nat) (g f c:Int) (h:aA),(ln S0 [1,1,1,0,0,0] (c1 S0 K) n (f3 b a d g f c) h)=wL3 n b a d g f c h K
 |0,_,_,_,_,_,_,_=>rfl
 |n+1,b,a,d,g,f,c,h=>(EL3 S0 n b a d g f c h K).trans (mM (λq0 q1=>JL3 q0 q1 b a d g f c h K) (by funext b a d g f c h;exact(λb a d g f c h=>eL3 K n b a d g f c h) b a d g f c h) (by funext b a d g f c h;exact ek5 K b a d g f c h))
def wk3(b:ak)(a d:Nat)(g f c:Int)(h:aA)(K:KK):Prop:=
 Jk3 (λb a d g f c h=> ∃m,wL3 m b a d g f c h K) b a d g f c h K
def ek3(K:KK)(b:ak)(a d:Nat)(g f c:Int)(h:aA):(en S0 [1,1,1] (fn K) (f3 b a d g f c) h)=wk3 b a d g f c h K:=(Ek3 S0 b a d g f c h K).trans (fX (λq0=>Jk3 q0 b a d g f c h K) (by funext b a d g f c h;exact bq λm=>eL3 K m b a d g f c h))
def w(b:ak)(a d:Nat)(g j i:Int)(h:aA)(K:KK):Prop:=
 J0 (λb a d g f c h=>wk3 b a d g f c h K) b a d g j i h K
def e0(K:KK)(b:ak)(a d:Nat)(g j i:Int)(h:aA):(E Tryz.prog X T S0 body (fin Tryz.prog Tryz.f321.results.toList K) (cx 0 [(.slice b a d),(ac g),(ac j),(ac i)]) h)=w b a d g j i h K:=(E0 S0 b a d g j i h K).trans (fX (λq0=>J0 q0 b a d g j i h K) (by funext b a d g f c h;exact ek3 K b a d g f c h))
def hb:Tryz.f321.body=some body:=by kernel_rfl
def ok:bZ T Tryz.f321.ntmps body=true:=by kernel_rfl
def spec(b:ak)(a d:Nat)(g j i:Int)(h:aA)(K:KK)(H:w b a d g j i h K):Cl 321 [(.slice b a d),(ac g),(ac j),(ac i)] h K:=
 cf (T:=T) xK xJ Tryz.func321 hb ok rfl (by rw[e0];exact H)
end F321
def F343.T:bf:=⟨[(1,[0,2,3,8]),(5,[0,2,3,8,9])],[(3,[[(0,[]),(1,[]),(2,[]),(3,[]),(4,[]),(5,[]),(6,[]),(7,[]),(8,[]),(9,[]),(10,[]),(11,[]),(12,[]),(13,[]),(14,[]),(15,[]),(16,[]),(17,[]),(18,[]),(19,[])]]),(5,[[(0,[]),(1,[]),(2,[]),(3,[]),(4,[]),(5,[]),(6,[]),(7,[]),(8,[]),(9,[]),(10,[]),(11,[]),(12,[]),(13,[])]]),(6,[[(0,[]),(1,[]),(2,[]),(3,[]),(4,[]),(5,[]),(6,[]),(7,[]),(8,[]),(9,[]),(10,[]),(11,[]),(12,[]),(13,[]),(14,[]),(15,[]),(16,[]),(17,[]),(18,[]),(19,[]),(20,[]),(21,[4,5,6,7]),(22,[]),(23,[])]])]⟩
section
variable (bk1:(ak)->Nat->Nat->Int->Int->Int->aA->Prop)(n:Nat)(b:ak)(a d:Nat)(j g c f i:Int)(h:aA)(K:KK)
def F343.wk5:Prop:=aN b λe=>0<=(ai (c+f))/\(ai (c+f))<(a:Int)/\aI .u32 (rd h (e.add ((ai (c+f)).toNat*1))) λe=>aN b λj=>0<=(ai (c+i))/\(ai (c+i))<(a:Int)/\aI .u32 (rd h (j.add ((ai (c+i)).toNat*1))) λj=>Cl 319 [ae e,ae j] h λe j=>bA (some e) λe=>aC (!e) (K ax j) (aN b λe=>0<=(ai (c+i))/\(ai (c+i))<(a:Int)/\aI .u32 (rd j (e.add ((ai (c+i)).toNat*1))) λe=>aN b λk=>0<=(ai (c+f))/\(ai (c+f))<(a:Int)/\aI .u32 (rd j (k.add ((ai (c+f)).toNat*1))) λk=>aN b λl=>0<=(ai (c+f))/\(ai (c+f))<(a:Int)/\aP j ((l.add ((ai (c+f)).toNat*1)).add 0) (ae e) λe=>ay (.slice b a d)/\ay (ac c)/\ay (ac i)/\ay (ac (ai (c+i)))/\aN b λf=>0<=(ai (c+i))/\(ai (c+i))<(a:Int)/\aP e ((f.add ((ai (c+i)).toNat*1)).add 0) (ae k) λe=>bk1 b a d g c i e)
def F343.wL1:Prop:=Lp Tryz.f343 F343.T [1,0] n [(0,(.slice b a d)),(2,(ac g)),(3,(ac c)),(8,(ac f))] h K
def F343.sL1:F343.wL1 (n+1) b a d g c f h K=(aC ((ai ((ai (2*f))+1))>=g) (K ax h) (aC ((ai ((ai ((ai (2*f))+1))+1))<g) (aN b λe=>0<=(ai (c+(ai ((ai (2*f))+1))))/\(ai (c+(ai ((ai (2*f))+1))))<(a:Int)/\aI .u32 (rd h (e.add ((ai (c+(ai ((ai (2*f))+1)))).toNat*1))) λe=>aN b λi=>0<=(ai ((ai (c+(ai ((ai (2*f))+1))))+1))/\(ai ((ai (c+(ai ((ai (2*f))+1))))+1))<(a:Int)/\aI .u32 (rd h (i.add ((ai ((ai (c+(ai ((ai (2*f))+1))))+1)).toNat*1))) λi=>Cl 319 [ae e,ae i] h λe i=>bA (some e) λe=>aC e (F343.wk5 (λa b c d e f g=>F343.wL1 n a b c d e f g K) b a d g c f (ai ((ai ((ai (2*f))+1))+1)) i K) (F343.wk5 (λa b c d e f g=>F343.wL1 n a b c d e f g K) b a d g c f (ai ((ai (2*f))+1)) i K)) (F343.wk5 (λa b c d e f g=>F343.wL1 n a b c d e f g K) b a d g c f (ai ((ai (2*f))+1)) h K))):=by kernel_rfl
def F343.wk1:Prop:=(∃e,F343.wL1 e b a d g c f h K)
def F343.spec(H:F343.wk1 b a d g c j h K):Cl 343 [.slice b a d,ac j,ac g,ac c] h K:=cT F343.T Tryz.func343 H
end
def F344.spec(H:Cl 295 [af (IntKind.wrap .u64 i)] h λa b=>aI .i64 (some a) λa=>0<=a/\K (af (IntKind.wrap .u64 ((1:Int)*2^(min (a.toNat) (IntKind.bits .u64))))) b):Cl 344 [ac i] h K:=cN Tryz.func344 H
def F345.T:bf:=⟨[],[(1,[[(0,[]),(1,[]),(2,[]),(3,[]),(4,[]),(5,[]),(6,[]),(7,[]),(8,[]),(9,[])]]),(2,[[(0,[]),(1,[]),(2,[]),(3,[]),(4,[]),(5,[]),(6,[]),(7,[]),(8,[]),(9,[])]]),(3,[[(0,[]),(1,[]),(2,[]),(3,[]),(4,[]),(5,[]),(6,[]),(7,[]),(8,[]),(9,[])]])]⟩
def F345.spec(H:aI .u64 (rd h a) λb=>aI .u64 (rd h a) λc=>0<=(13:Int)/\aP h (a.add 0) (af (aY .xor .u64 b (IntKind.wrap .u64 (c*2^(min (Int.toNat 13) (IntKind.bits .u64)))))) λb=>aI .u64 (rd b a) λc=>aI .u64 (rd b a) λd=>0<=(7:Int)/\aP b (a.add 0) (af (aY .xor .u64 c (Int.fdiv d (2^(min (Int.toNat 7) (IntKind.bits .u64)))))) λb=>aI .u64 (rd b a) λc=>aI .u64 (rd b a) λd=>0<=(17:Int)/\aP b (a.add 0) (af (aY .xor .u64 c (IntKind.wrap .u64 (d*2^(min (Int.toNat 17) (IntKind.bits .u64)))))) λb=>aI .u64 (rd b a) λa=>K (af a) b):Cl 345 [ag a] h K:=cT F345.T Tryz.func345 H
def F346.spec(H:Cl 347 [.slice x u v,ac (ai (i-1)),ac i,ac (ai (i+1)),ag a] h λa b=>aI .i64 (some a) λa=>K (ac a) b):Cl 346 [.slice x u v,ac i,ag a] h K:=cN Tryz.func346 H
def F347.spec(H:Cl 366 [.slice x u v,ac i,ac j,ag a] h λb c=> ∃d:Int,∃e:Int,b=(.tuple #[ac d,ac e])/\Cl 366 [.slice x u v,ac e,ac k,ag a] c λb c=> ∃e:Int,∃f:Int,b=(.tuple #[ac e,ac f])/\Cl 366 [.slice x u v,ac d,ac e,ag a] c λa b=> ∃c:Int,∃d:Int,a=(.tuple #[ac c,ac d])/\K (ac d) b):Cl 347 [.slice x u v,ac i,ac j,ac k,ag a] h K:=cN Tryz.func347 H
def F366.T:bf:=⟨[],[(1,[[(0,[]),(1,[]),(2,[]),(3,[]),(4,[]),(5,[]),(6,[]),(7,[]),(8,[])]])]⟩
def F366.spec(H:aN x λb=>0<=j/\j<(u:Int)/\aI .u32 (rd h (b.add (j.toNat*1))) λb=>aN x λc=>0<=i/\i<(u:Int)/\aI .u32 (rd h (c.add (i.toNat*1))) λc=>Cl 319 [ae b,ae c] h λb c=>bA (some b) λb=>aC b (aI .i64 (rd c a) λb=>aP c (a.add 0) (ac (ai (b+1))) λa=>K (.tuple #[ac j,ac i]) a) (K (.tuple #[ac i,ac j]) c)):Cl 366 [.slice x u v,ac i,ac j,ag a] h K:=cT F366.T Tryz.func366 H
end
section
def AO{b n a e c:Nat}{sp:List Value}{K:KK}(he:e<=n)(hn:n<=LB-2):
  ∀(d:Nat) (i:Nat) (y:Int) (g:Nat->Int) (h:aA),bI .u32 h b n g sp->a<=i->i<=n+1->y<e-> -1<=y->y<=i+d->(∀h' g',bI .u32 h' b n g' sp->cP a e g g'->aF [b] h h'->K ax h')->
   F317.wL2 (d+1) (some (ah b)) n c i y h K:=by
 intro d;have hLB:LB=140737488355328:=rfl
 induction d with
 |zero=>
  intro i y g h A h1 h1' h2 h2' h3 hK;rw[F317.sL2];rw[show decide ((i:Int)<y)=false by simp;omega];exact hK h g A (.refl g) (aF.refl _ _)
 |succ d ih=>
  intro i y g h A h1 h1' h2 h2' h3 hK;rw[F317.sL2];refine aH (λhc=> ?_) λhc=> ?_
  ·simp only[decide_eq_true_eq]at hc;obtain⟨j,rfl⟩: ∃j:Nat,y=j:=⟨y.toNat,Y⟩;refine A.ld rfl Y (A.ld rfl Y (A.sto rfl Y λh1 A1 O1=>⟨rfl,rfl,A1.sto rfl Y λh2 A2 O2=> ?_⟩));have A2':bI .u32 h2 b n (swp g i j) sp:=A2;rw[show ai ((i:Int)+1)=((i+1:Nat):Int) by rw[aV Y Y];omega,aV (x:=(j:Int)-1) Y Y];exact ih (i+1) _ _ h2 A2' Y Y Y Y Y λh' g' A' S' O'=>hK h' g' A' ((cP.one g Y Y Y Y).trans S') ((O1.trans O2 Z).trans O' Z)
  ·exact hK h g A (.refl g) (aF.refl _ _)
def CI{h:aA}{b n a e c:Nat}{g:Nat->Int}{sp:List Value}{K:KK}(A:bI .u32 h b n g sp)(he:e<=n)(ha:a<=n)(hn:n<=LB-2)
  (hK: ∀h' g',bI .u32 h' b n g' sp->cP a e g g'->aF [b] h h'->K ax h'):Cl 317 [.slice (some (ah b)) n c,ac a,ac e] h K:=by
 refine F317.spec _ _ _ _ _ h K ?_;unfold F317.wk2;have hLB:LB=140737488355328:=rfl;rw[aV (x:=(e:Int)-1) Y Y];exact⟨e+1,AO he hn e a _ g h A (Nat.le_refl _) Y Y Y Y hK⟩
def Hp(lo hi r:Nat)(u:Nat->Int):Prop:=
 (∀k c,lo<=k->k≠r->(c=2*k+1\/c=2*k+2)->c<hi->u c<=u k)/\(∀k c,lo<=k->(r=2*k+1\/r=2*k+2)->(c=2*r+1\/c=2*r+2)->c<hi->u c<=u k)
def zC(lo hi:Nat)(u:Nat->Int):Prop:= ∀k c,lo<=k->(c=2*k+1\/c=2*k+2)->c<hi->u c<=u k
def Hp.stop{lo hi r:Nat}{u:Nat->Int}(H:Hp lo hi r u)(h: ∀c,(c=2*r+1\/c=2*r+2)->c<hi->u c<=u r):zC lo hi u:=λk c h1 h2 h3=>by
 by_cases hk:k=r
 ·subst hk;exact h c h2 h3
 ·exact H.1 k c h1 hk h2 h3
def Hp.step{lo hi r ch:Nat}{u:Nat->Int}(H:Hp lo hi r u)(hr:lo<=r)(hch:ch=2*r+1\/ch=2*r+2)(hh:ch<hi)(hb: ∀c,(c=2*r+1\/c=2*r+2)->c<hi->u c<=u ch)(hl:u r<u ch):
  Hp lo hi ch (swp u r ch):=by
 refine⟨λk c h1 h2 h3 h4=> ?_,λk c h1 h2 h3 h4=> ?_⟩
 ·by_cases hk:k=r
  ·subst hk;rw[ib];by_cases hc:c=ch
   ·subst hc;rw[lQ];exact Int.le_of_lt hl
   ·rw[df u Y hc];exact hb c h3 h4
  ·rw[df u hk h2];by_cases hc:c=r
   ·subst hc;rw[ib];exact H.2 k ch h1 h3 hch hh
   ·have hc':c≠ch:=Y;rw[df u hc hc'];exact H.1 k c h1 hk h3 h4
 ·have hk:k=r:=Y;subst hk;rw[ib,df u Y Y];exact H.1 ch c Y Y h3 h4
def zC.max{hi:Nat}{u:Nat->Int}(H:zC 0 hi u): ∀k,k<hi->u k<=u 0:=by
 intro k
 induction k using Nat.strongRecOn with
 |_ k ih=>
  intro hk;by_cases h0:k=0
  ·subst h0;exact Int.le_refl _
  ·exact Int.le_trans (H ((k-1)/2) k Y Y hk) (ih ((k-1)/2) Y Y)
def sh(a:Nat)(g:Nat->Int):Nat->Int:=λk=>g (a+k)
def vN(a:Nat)(g:Nat->Int)(i j:Nat):sh a (swp g (a+i) (a+j))=swp (sh a g) i j:=by funext k;unfold sh swp;simp only[Nat.add_left_cancel_iff]
def yI{b n a e c lo:Nat}{sp:List Value}{K:KK}(he:a+e<=n)(hn:n<=LB/4):
  ∀(d:Nat) (r:Nat) (g:Nat->Int) (h:aA),bI .u32 h b n g sp->Hp lo e r (sh a g)->lo<=r->r<e->e<=r+d->(∀h' g',bI .u32 h' b n g' sp->zC lo e (sh a g')->cP (a+lo) (a+e) g g'->aF [b] h h'->K ax h')->
   F343.wL1 (d+1) (some (ah b)) n c e a r h K:=by
 intro d;have hLB:LB=140737488355328:=rfl
 induction d with
 |zero=>intro r g h A H h1 h2 h3;omega
 |succ d ih=>
  intro r g h A H h1 h2 h3 hK;rw[F343.sL1]
  have w1:ai (ai ((2:Int)*(r:Int))+1)=((2*r+1:Nat):Int):=by rw[aV (x:=(2:Int)*r) Y Y,aV Y Y];omega
  have w2:ai (((2*r+1:Nat):Int)+1)=((2*r+2:Nat):Int):=by rw[aV Y Y];omega
  have below: ∀ch:Nat,(ch=2*r+1\/ch=2*r+2)->ch<e->(∀c,(c=2*r+1\/c=2*r+2)->c<e->sh a g c<=sh a g ch)->
    F343.wk5 (λx0p x0l x0c x2 x3 x8 h=>F343.wL1 (d+1) x0p x0l x0c x2 x3 x8 h K) (some (ah b)) n c e a r ch h K:=by
   intro ch hch hce hb;unfold F343.wk5;have w4:ai ((a:Int)+(r:Int))=((a+r:Nat):Int):=by rw[aV Y Y];omega
   have w5:ai ((a:Int)+(ch:Int))=((a+ch:Nat):Int):=by rw[aV Y Y];omega
   rw[w4,w5];refine A.ld rfl Y (A.ld rfl Y (dr ?_));rw[bC];refine aH (λhl=> ?_) λhl=> ?_
   ·simp only[Bool.not_eq_true',decide_eq_false_iff_not]at hl;refine hK h g A (H.stop λc h4 h5=>Int.le_trans (hb c h4 h5) ?_) (.refl g) (aF.refl _ _);show g (a+ch)<=g (a+r);omega
   ·simp only[Bool.not_eq_false',decide_eq_true_eq]at hl;refine A.ld rfl Y (A.ld rfl Y (A.sto rfl Y λk1 A1 O1=>⟨rfl,rfl,rfl,rfl,A1.sto rfl Y λk2 A2 O2=> ?_⟩));have A2':bI .u32 k2 b n (swp g (a+r) (a+ch)) sp:=A2;have H2:=H.step h1 hch hce hb hl;rw[<-vN]at H2;exact ih ch _ k2 A2' H2 Y hce Y λh' g' A' R' S' O'=>hK h' g' A' R' ((cP.one g Y Y Y Y).trans S') ((O1.trans O2 Z).trans O' Z)
  rw[w1,w2];refine aH (λhc=> ?_) λhc=> ?_
  ·simp only[decide_eq_true_eq]at hc;exact hK h g A (H.stop λc h4 h5=>Y) (.refl g) (aF.refl _ _)
  ·simp only[decide_eq_false_iff_not]at hc;have w3:ai ((a:Int)+((2*r+1:Nat):Int))=((a+(2*r+1):Nat):Int):=by rw[aV Y Y];omega
   rw[w3];refine aH (λhc2=> ?_) λhc2=> ?_
   ·simp only[decide_eq_true_eq]at hc2;have w6:ai (((a+(2*r+1):Nat):Int)+1)=((a+(2*r+2):Nat):Int):=by rw[aV Y Y];omega
    rw[w6];refine A.ld rfl Y (A.ld rfl Y (dr ?_));rw[bC];refine aH (λhl=> ?_) λhl=> ?_
    ·simp only[decide_eq_true_eq]at hl;refine below (2*r+2) (.inr rfl) Y λc h4 h5=> ?_;rcases h4 with rfl|rfl
     ·exact Int.le_of_lt hl
     ·exact Int.le_refl _
    ·simp only[decide_eq_false_iff_not]at hl;refine below (2*r+1) (.inl rfl) Y λc h4 h5=> ?_;rcases h4 with rfl|rfl
     ·exact Int.le_refl _
     ·show g (a+(2*r+2))<=g (a+(2*r+1));omega
   ·simp only[decide_eq_false_iff_not]at hc2;refine below (2*r+1) (.inl rfl) Y λc h4 h5=> ?_;rcases h4 with rfl|rfl
    ·exact Int.le_refl _
    ·omega
def wa{h:aA}{b n a e c lo:Nat}{g:Nat->Int}{sp:List Value}{K:KK}(A:bI .u32 h b n g sp)(H:zC (lo+1) e (sh a g))(hlo:lo<e\/e=0)(he:a+e<=n)(hn:n<=LB/4)(hl:lo<=n)
  (hK: ∀h' g',bI .u32 h' b n g' sp->zC lo e (sh a g')->cP (a+lo) (a+e) g g'->aF [b] h h'->K ax h'):Cl 343 [.slice (some (ah b)) n c,ac lo,ac e,ac a] h K:=by
 refine F343.spec _ _ _ _ _ _ h K ?_;unfold F343.wk1;have hLB:LB=140737488355328:=rfl;rcases hlo with hlo|h0
 ·refine⟨e+1,yI he hn e lo g h A ⟨λk c h1 h2 h3 h4=>H k c Y h3 h4,λk c h1 h2=>Y⟩ (Nat.le_refl _) hlo Y hK⟩
 ·subst h0;refine⟨1,?_⟩;rw[F343.sL1]
  have w1:ai (ai ((2:Int)*(lo:Int))+1)=((2*lo+1:Nat):Int):=by rw[aV (x:=(2:Int)*lo) Y Y,aV Y Y];omega
  rw[w1,show decide ((((2*lo+1:Nat):Int))>=((0:Nat):Int))=true by simp;omega];exact hK h g A (λk c h1 h2 h3=>Y) (.refl g) (aF.refl _ _)
end
section
def BC{b n a e c:Nat}{sp:List Value}{K:KK}(he:a+e<=n)(hn:n<=LB/4):
  ∀(m:Nat) (g:Nat->Int) (h:aA),bI .u32 h b n g sp->m<=e->zC 0 m (sh a g)->(∀p q,m<=p->p<q->q<e->sh a g p<=sh a g q)->(∀p q,p<m->m<=q->q<e->sh a g p<=sh a g q)->
   (∀h' g',bI .u32 h' b n g' sp->d9 a (a+e) g'->cP a (a+e) g g'->aF [b] h h'->K ax h')->F314.wL8 (m+1) (some (ah b)) n c a ((m:Int)-1) h K:=by
 intro m;have hLB:LB=140737488355328:=rfl
 induction m with
 |zero=>
  intro g h A hm H T1 T2 hK;rw[F314.sL8];rw[show decide ((((0:Nat):Int)-1)>=0)=false by simp];refine hK h g A (λp q h1 h2 h3=> ?_) (.refl g) (aF.refl _ _);have:=T1 (p-a) (q-a) Y Y Y;unfold sh at this;rw[show a+(p-a)=p by omega,show a+(q-a)=q by omega]at this;exact this
 |succ m ih=>
  intro g h A hm H T1 T2 hK;rw[F314.sL8];rw[show(((m+1:Nat):Int)-1)=(m:Int) by omega,show decide ((m:Int)>=0)=true by simp,aG];have w4:ai ((a:Int)+(m:Int))=((a+m:Nat):Int):=by rw[aV Y Y];omega
  rw[w4];refine A.ld rfl Y (A.ld rfl Y (A.sto rfl Y λk1 A1 O1=>⟨rfl,rfl,rfl,rfl,A1.sto rfl Y λk2 A2 O2=> ?_⟩));have A2':bI .u32 k2 b n (swp g a (a+m)) sp:=A2;have e1:sh a (swp g a (a+m))=swp (sh a g) 0 m:=by have:=vN a g 0 m;simpa using this
  have M:=H.max;refine wa (lo:=0) (e:=m) A2' ?_ Y Y hn Y λh3 g3 A3 H3 S3 O3=>⟨rfl,?_⟩
  ·rw[e1];intro k c h1 h2 h3;rw[df _ Y Y,df _ Y Y];exact H k c Y h2 Y
  ·rw[aV (x:=(m:Int)-1) Y Y];have S3':cP (a+0) (a+m) (swp g a (a+m)) g3:=S3;have out: ∀q,m<=q->sh a g3 q=sh a (swp g a (a+m)) q:=λq hq=>S3'.out (.inr Y);have top:sh a (swp g a (a+m)) m=sh a g 0:=by rw[e1,lQ]
   have rest: ∀q,m<q->sh a (swp g a (a+m)) q=sh a g q:=λq hq=>by rw[e1,df _ Y Y]
   have small: ∀p,p<m->sh a (swp g a (a+m)) p<=sh a g 0/\ ∀q,m+1<=q->q<e->sh a (swp g a (a+m)) p<=sh a g q:=λp hp=>by
    rw[e1];by_cases h0:p=0
    ·subst h0;rw[ib];exact⟨M m Y,λq hq hq'=>T2 m q Y hq hq'⟩
    ·rw[df _ h0 Y];exact⟨M p Y,λq hq hq'=>T2 p q Y hq hq'⟩
   have small3: ∀p,p<m->sh a g3 p<=sh a g 0/\ ∀q,m+1<=q->q<e->sh a g3 p<=sh a g q:=λp hp=>by
    have:=S3'.all (Q:=λv=>v<=sh a g 0/\ ∀q,m+1<=q->q<e->v<=sh a g q) (λk h1 h2=>by have:=small (k-a) Y;unfold sh at this ⊢;rw[show a+(k-a)=k by omega]at this;exact this) (a+p) Y Y
    exact this
   refine ih g3 h3 A3 Y H3 (λp q h1 h2 h4=> ?_) (λp q h1 h2 h4=> ?_) λh' g' A' R' S' O'=>hK h' g' A' R' (((cP.one g Y Y Y Y).trans (S3'.mono Y Y)).trans S') (((O1.trans O2 Z).trans O3 Z).trans O' Z)
   ·rw[out p h1,out q Y,rest q Y];by_cases hp:p=m
    ·subst hp;rw[top];exact T2 0 q Y Y h4
    ·rw[rest p Y];exact T1 p q Y h2 h4
   ·rw[out q h2];by_cases hq:q=m
    ·subst hq;rw[top];exact(small3 p h1).1
    ·rw[rest q Y];exact(small3 p h1).2 q Y h4
def qK{b n a e c:Nat}{sp:List Value}{K:KK}(he:a+e<=n)(hn:n<=LB/4):
  ∀(m:Nat) (g:Nat->Int) (h:aA),bI .u32 h b n g sp->m<=e\/e=0->m<=n+1->zC m e (sh a g)->
   (∀h' g',bI .u32 h' b n g' sp->d9 a (a+e) g'->cP a (a+e) g g'->aF [b] h h'->K ax h')->F314.wL4 (m+1) (some (ah b)) n c a e ((m:Int)-1) h K:=by
 intro m;have hLB:LB=140737488355328:=rfl
 induction m with
 |zero=>
  intro g h A hm hm' H hK;rw[F314.sL4];rw[show decide ((((0:Nat):Int)-1)>=0)=false by simp,aD];unfold F314.wk7 F314.wk8
  try dsimp only
  rw[aV (x:=(e:Int)-1) Y Y];exact⟨e+1,BC he hn e g h A (Nat.le_refl _) H (λp q h1 h2 h3=>Y) (λp q h1 h2 h3=>Y) hK⟩
 |succ m ih=>
  intro g h A hm hm' H hK;rw[F314.sL4];rw[show(((m+1:Nat):Int)-1)=(m:Int) by omega,show decide ((m:Int)>=0)=true by simp,aG];refine wa A H Y he hn Y λh3 g3 A3 H3 S3 O3=>⟨rfl,?_⟩;rw[aV (x:=(m:Int)-1) Y Y];exact ih g3 h3 A3 Y Y H3 λh' g' A' R' S' O'=>hK h' g' A' R' ((S3.mono Y (Nat.le_refl _)).trans S') (O3.trans O' Z)
def AJ{h:aA}{b n a e c:Nat}{g:Nat->Int}{sp:List Value}{K:KK}(A:bI .u32 h b n g sp)(he:e<=n)(ha:a<=e)(hn:n<=LB/4)
  (hK: ∀h' g',bI .u32 h' b n g' sp->d9 a e g'->cP a e g g'->aF [b] h h'->K ax h'):Cl 314 [.slice (some (ah b)) n c,ac a,ac e] h K:=by
 refine F314.spec _ _ _ _ _ h K ?_;unfold F314.wk4;have hLB:LB=140737488355328:=rfl;obtain⟨d,rfl⟩: ∃d,e=a+d:=⟨e-a,Y⟩;have w1:ai (((a+d:Nat):Int)-(a:Int))=(d:Int):=by rw[aV Y Y];omega
 rw[w1,aV (x:=(d:Int)-1) Y Y];refine⟨Y,?_⟩;by_cases hd:d=0
 ·subst hd;have w2:ai (Int.tdiv (((0:Nat):Int)-1) 2)=((1:Nat):Int)-1:=by decide
  rw[w2];exact⟨2,qK Y hn 1 g h A (.inr rfl) Y (λk c h1 h2 h3=>Y) hK⟩
 ·have w2:ai (Int.tdiv ((d:Int)-1) 2)=(((d-1)/2+1:Nat):Int)-1:=by
   rw[Int.tdiv_eq_ediv_of_nonneg Y,aV Y Y];omega
  rw[w2];exact⟨_,qK Y hn ((d-1)/2+1) g h A (.inl Y) Y (λk c h1 h2 h3=>Y) hK⟩
end
section
def Bi(tb:ByteArray):Bool:=(List.range 256).all λy=>match tb[y]? with|some b=>b.toNat<=8&&(y==0||(1<=b.toNat&&2^(b.toNat-1)<=y))|none=>false
def uS{tb:ByteArray}(h:Bi tb=true){y:Nat}(hy:y<256): ∃b,tb[y]? =some b/\b.toNat<=8/\(1<=y->1<=b.toNat/\2^(b.toNat-1)<=y):=by
 unfold Bi at h;rw[List.all_eq_true]at h;have:=h y (List.mem_range.2 hy);cases hb:tb[y]? with
 |none=>rw[hb]at this;cases this
 |some b=>
  rw[hb]at this;simp only[Bool.and_eq_true,Bool.or_eq_true,decide_eq_true_eq,beq_iff_eq]at this;refine⟨b,rfl,this.1,λh1=> ?_⟩;rcases this.2 with h|h
  ·omega
  ·exact h
def vE{tb:ByteArray}{y:Nat}{K:Int->Prop}(h:Bi tb=true)(hy:y<256)(hK: ∀n:Nat,n<=8->(1<=y->1<=n/\2^(n-1)<=y)->K (n:Int)):xN tb (y:Int) K:=by obtain⟨b,hb,h8,h1⟩:=uS h hy;exact⟨b,by rw[Int.toNat_natCast];exact hb,hK _ h8 h1⟩
def Ap{x:Nat}(h:x<256):IntKind.wrap .u8 (x:Int)=x:=by simp[IntKind.wrap,IntKind.bits,IntKind.signed];omega
def vf{x' s X:Nat}{h:aA}{K:KK}(hx:x'<256)(hs:s<=56)(h1:2^s*x'<=X)(h2:1<=X->1<=x')
  (hK: ∀L:Nat,L<=64->(1<=X->1<=L/\2^(L-1)<=X)->K (ac (L:Int)) h):F323.wk10 x' s h K:=by
 unfold F323.wk10;rw[Ap hx];refine⟨Y,?_⟩;refine vE (by decide+kernel) hx λn hn8 hn1=> ?_;have hLB:LB=140737488355328:=rfl;rw[aV (x:=(n:Int)) Y Y,aV Y Y,show(s:Int)+(n:Int)=((s+n:Nat):Int) by omega];refine hK _ Y λhX=> ?_;obtain⟨c1,c2⟩:=hn1 (h2 hX);refine⟨Y,?_⟩;rw[show s+n-1=s+(n-1) by omega,Nat.pow_add];exact Nat.le_trans (Nat.mul_le_mul_left _ c2) h1
def wH{x k:Nat}:Int.fdiv (x:Int) ((k:Nat):Int)=((x/k:Nat):Int):=by
 rw[Int.fdiv_eq_ediv_of_nonneg _ Y]
 rfl
def Dy{X:Nat}{h:aA}{K:KK}(hX:X<18446744073709551616)(hK: ∀L:Nat,L<=64->(1<=X->1<=L/\2^(L-1)<=X)->K (ac (L:Int)) h):
  Cl 323 [af (X:Int)] h K:=by
 refine F323.spec ?_
 have k7: ∀x' s:Nat,x'<65536->s<=48->2^s*x'<=X->(1<=X->1<=x')->F323.wk7 x' s h K:=by
  intro x' s hx hs h1 h2;unfold F323.wk7;refine aH (λhc=> ?_) λhc=> ?_
  ·simp only[decide_eq_true_eq]at hc;refine⟨Y,?_⟩;rw[show((2:Int)^(min (Int.toNat (8:Int)) (IntKind.bits .u64)))=((256:Nat):Int) by decide,wH,aV (by unfold LB;omega) (by unfold LB;omega),show(s:Int)+8=((s+8:Nat):Int) by omega];refine vf Y Y (Nat.le_trans ?_ h1) Y hK;rw[Nat.pow_add,Nat.mul_assoc];exact Nat.mul_le_mul_left _ Y
  ·simp only[decide_eq_false_iff_not]at hc;exact vf Y Y h1 h2 hK
 have k4: ∀x' s:Nat,x'<4294967296->s<=32->2^s*x'<=X->(1<=X->1<=x')->F323.wk4 x' s h K:=by
  intro x' s hx hs h1 h2;unfold F323.wk4;refine aH (λhc=> ?_) λhc=> ?_
  ·simp only[decide_eq_true_eq]at hc;refine⟨Y,?_⟩;rw[show((2:Int)^(min (Int.toNat (16:Int)) (IntKind.bits .u64)))=((65536:Nat):Int) by decide,wH,aV (by unfold LB;omega) (by unfold LB;omega),show(s:Int)+16=((s+16:Nat):Int) by omega];refine k7 _ _ Y Y (Nat.le_trans ?_ h1) Y;rw[Nat.pow_add,Nat.mul_assoc];exact Nat.mul_le_mul_left _ Y
  ·simp only[decide_eq_false_iff_not]at hc;exact k7 _ _ Y Y h1 h2
 refine aH (λhc=> ?_) λhc=> ?_
 ·simp only[decide_eq_true_eq]at hc;refine⟨Y,?_⟩;rw[show((2:Int)^(min (Int.toNat (32:Int)) (IntKind.bits .u64)))=((4294967296:Nat):Int) by decide,wH];exact k4 (X/4294967296) 32 Y Y Y Y
 ·simp only[decide_eq_false_iff_not]at hc;exact k4 X 0 Y Y Y Y
def zR{X:Nat}{h:aA}{K:KK}(hX:X<18446744073709551616)(hK: ∀L:Nat,L<=64->(1<=X->1<=L/\2^(L-1)<=X)->K (ac (L:Int)) h):
  Cl 295 [af (X:Int)] h K:=by
 refine F295.spec ?_;exact Dy hX λL h1 h2=>by rw[aU];exact hK L h1 h2
def BQ{d:Nat}{h:aA}{K:KK}(h1:1<=d)(hd:d<=LB/4)(hK: ∀M:Nat,1<=M->M<=2*d->K (af (M:Int)) h):Cl 344 [ac (d:Int)] h K:=by
 refine F344.spec ?_;have hLB:LB=140737488355328:=rfl;rw[bG Y Y];refine zR Y λL hL hl=> ?_;obtain⟨l1,l2⟩:=hl h1;rw[aU];refine⟨Y,?_⟩
 have e:min (Int.toNat (L:Int)) (IntKind.bits .u64)=L:=by rw[Int.toNat_natCast];show min L 64=L;omega
 rw[e]
 have l3:2^L<=2*d:=by rw[show L=(L-1)+1 by omega,Nat.pow_succ];omega
 have lp:1<=2^L:=Nat.one_le_two_pow;rw[show(1:Int)*2^L=((2^L:Nat):Int) by simp];generalize 2^L=q at l3 lp ⊢;rw[bG Y Y];exact hK _ lp l3
def BG{h:aA}{b:Nat}{v:Int}{K:KK}(A:At h b [af v])(hK: ∀h' v',At h' b [af v']->aF [b] h h'->K (af v') h'):Cl 345 [ag (ah b)] h K:=by
 refine F345.spec ?_;have rd0: ∀{h v},At h b [af v]->rd h (ah b)=some (af v):=λA=>A.rd 0;rw[rd0 A,aU,aU];refine⟨by decide,?_⟩;rw[aE];refine aK A Z rfl λh1 A1 O1 _=> ?_
 replace A1:At h1 b [af _]:=A1
 rw[rd0 A1,aU,aU];refine⟨by decide,?_⟩;refine aK A1 Z rfl λh2 A2 O2 _=> ?_
 replace A2:At h2 b [af _]:=A2
 rw[rd0 A2,aU,aU];refine⟨by decide,?_⟩;refine aK A2 Z rfl λh3 A3 O3 _=> ?_
 replace A3:At h3 b [af _]:=A3
 rw[rd0 A3,aU];exact hK _ _ A3 ((O1.trans O2 Z).trans O3 Z)
def Aj{x:Int}{m:Nat}(hm:m<18446744073709551616):0<=aY .and .u64 x m/\aY .and .u64 x m<=m:=by
 unfold aY
 have h1:(BitVec.ofInt (IntKind.bits .u64) (m:Int)).toNat=m:=by show(BitVec.ofInt 64 (m:Int)).toNat=m;rw[BitVec.toNat_ofInt];omega
 have h2:(BitVec.ofInt (IntKind.bits .u64) x&&&BitVec.ofInt (IntKind.bits .u64) (m:Int)).toNat<=m:=by rw[BitVec.toNat_and,h1];exact Nat.and_le_right
 dsimp only;rw[bG Y Y];omega
def AE{b n a d c M B:Nat}{sp:List Value}{K:KK}(hd:8<=d)(he:a+d<=n)(hn:n<=LB/4)(hM1:1<=M)(hM2:M<=2*d)(hB:B≠b):
  ∀(t i:Nat) (v:Int) (g:Nat->Int) (h:aA),bI .u32 h b n g sp->At h B [af v]->i+t=a+d/4*2+2->a<=i->
   (∀h' g',bI .u32 h' b n g' sp->cP a (a+d) g g'->aF [b,B] h h'->K ax h')->F315.wL5 (t+1) (some (ah b)) n c a d (ah B) M i h K:=by
 intro t;have hLB:LB=140737488355328:=rfl
 have w1:ai (ai ((a:Int)+ai (ai (Int.tdiv (d:Int) 4)*2))+1)=((a+d/4*2+1:Nat):Int):=by rw[Int.tdiv_eq_ediv_of_nonneg Y,aV (x:=(d:Int)/4) Y Y,aV (x:=(d:Int)/4*2) Y Y,aV (x:=(a:Int)+(d:Int)/4*2) Y Y,aV Y Y];omega
 induction t with
 |zero=>
  intro i v g h A AB hi ha hK;rw[F315.sL5];rw[w1];refine⟨by decide,?_⟩;rw[show decide ((i:Int)<=((a+d/4*2+1:Nat):Int))=false by simp;omega];exact hK h g A (.refl g) (aF.refl _ _)
 |succ t ih=>
  intro i v g h A AB hi ha hK;rw[F315.sL5];rw[w1];refine⟨by decide,?_⟩;rw[show decide ((i:Int)<=((a+d/4*2+1:Nat):Int))=true by simp;omega,aG];refine BG AB λh1 v1 AB1 O1=> ?_;rw[aU];obtain⟨o1,o2⟩:=Aj (x:=v1) (m:=M-1) Y;rw[show IntKind.wrap .u64 ((M:Int)-1)=((M-1:Nat):Int) by rw[bG Y Y];omega]
  have below: ∀o:Nat,o<d->F315.wk10 (λx0p x0l x0c x1 x6 x7 x8 x9 h=>F315.wL5 (t+1) x0p x0l x0c x1 x6 x7 x8 x9 h K) (some (ah b)) n c a d (ah B) M i o h1 K:=by intro o ho;have A1:=A.only O1 (by simpa using Ne.symm hB);unfold F315.wk10;rw[show ai ((a:Int)+(o:Int))=((a+o:Nat):Int) by rw[aV Y Y];omega];refine A1.ld rfl Y (A1.ld rfl Y (A1.sto rfl Y λk1 A2 O2=>⟨rfl,rfl,rfl,rfl,A2.sto rfl Y λk2 A3 O3=> ?_⟩));have A3':bI .u32 k2 b n (swp g i (a+o)) sp:=A3;rw[show ai ((i:Int)+1)=((i+1:Nat):Int) by rw[aV Y Y];omega];refine ih (i+1) v1 _ k2 A3' ((AB1.only O2 (by simpa using hB)).only O3 (by simpa using hB)) Y Y λh' g' A' S' O'=>hK h' g' A' ((cP.one g Y Y Y Y).trans S') ?_;exact((((O1.mono (T:=[b,B]) Z).trans O2 Z).trans O3 Z).trans O' Z)
  rw[aV (x:=aY .and .u64 v1 ((M-1:Nat):Int)) Y Y];obtain⟨o,ho⟩: ∃o:Nat,aY .and .u64 v1 ((M-1:Nat):Int)=o:=⟨_,(Int.toNat_of_nonneg o1).symm⟩;rw[ho]at o2 ⊢;refine aH (λhc=> ?_) λhc=> ?_
  ·simp only[decide_eq_true_eq]at hc;rw[show ai ((o:Int)-(d:Int))=((o-d:Nat):Int) by rw[aV Y Y];omega];exact below _ Y
  ·simp only[decide_eq_false_iff_not]at hc;exact below o Y
def Cw{h:aA}{b n a e c:Nat}{g:Nat->Int}{sp:List Value}{K:KK}(A:bI .u32 h b n g sp)(he:e<=n)(ha:a<=e)(hn:n<=LB/4)
  (hK: ∀h' g',bI .u32 h' b n g' sp->cP a e g g'->aF [b] h h'->K ax h'):Cl 315 [.slice (some (ah b)) n c,ac a,ac e] h K:=by
 refine F315.spec _ _ _ _ _ h K ?_;have hLB:LB=140737488355328:=rfl;obtain⟨d,rfl⟩: ∃d,e=a+d:=⟨e-a,Y⟩;rw[show ai (((a+d:Nat):Int)-(a:Int))=(d:Int) by rw[aV Y Y];omega];refine aH (λhc=> ?_) λhc=> ?_
 ·simp only[decide_eq_true_eq]at hc;refine aM λh1 A1 O1 z1=> ?_;rw[aE];refine aK A1 Z rfl λh2 A2 O2 z2=> ?_
  replace A2:At h2 h.size [af _]:=A2
  refine BQ Y Y λM hM1 hM2=> ?_;rw[aU];refine⟨by decide,?_⟩;unfold F315.wk5
  have w1:ai (ai ((a:Int)+ai (ai (Int.tdiv (d:Int) 4)*2))-1)=((a+d/4*2-1:Nat):Int):=by rw[Int.tdiv_eq_ediv_of_nonneg Y,aV (x:=(d:Int)/4) Y Y,aV (x:=(d:Int)/4*2) Y Y,aV (x:=(a:Int)+(d:Int)/4*2) Y Y,aV Y Y];omega
  rw[w1];have hb:=A.lt;refine⟨_,AE Y he hn hM1 hM2 Y 3 _ _ g h2 ((A.only O1 Z).only O2 (by simp;omega)) A2 Y Y λh' g' A' S' O'=>hK h' g' A' S' ?_⟩;exact((O1.mono (T:=[b]) Z).trans O2 Z).trans O' Z
 ·exact hK h g A (.refl g) (aF.refl _ _)
end
section
def Cr{b n a c j:Nat}{sp:List Value}{K:KK}{g:Nat->Int}{h:aA}(A:bI .u32 h b n g sp)(hj:j<n)(ha:a<n)(hn:n<=LB/4):
  ∀(d i:Nat),i+d=j+1->(∀i',i<=i'->i'<=j+1->(∀k,i<=k->k<i'->g k<g a)->(i'=j+1\/g a<=g i')->F321.wk5 (some (ah b)) n c a i' j h K)->
   F321.wL3 (d+1) (some (ah b)) n c a i j h K:=by
 intro d;have hLB:LB=140737488355328:=rfl
 induction d with
 |zero=>
  intro i hd hK;unfold F321.wL3 F321.JL3;rw[show decide ((i:Int)<=(j:Int))=false by simp;omega];exact hK i (Nat.le_refl _) Y (λk h1 h2=>Y) (.inl Y)
 |succ d ih=>
  intro i hd hK;unfold F321.wL3 F321.JL3;rw[show decide ((i:Int)<=(j:Int))=true by simp;omega,aG];refine A.ld rfl Y (A.ld rfl Y (dr ?_));rw[bC];refine aH (λhl=> ?_) λhl=> ?_
  ·simp only[decide_eq_true_eq]at hl;rw[show ai ((i:Int)+1)=((i+1:Nat):Int) by rw[aV Y Y];omega];refine ih (i+1) Y λi' h1 h2 h3 h4=>hK i' Y h2 (λk h5 h6=> ?_) h4;by_cases hk:k=i
   ·subst hk;omega
   ·exact h3 k Y h6
  ·simp only[decide_eq_false_iff_not]at hl;exact hK i (Nat.le_refl _) Y (λk h1 h2=>Y) (.inr Y)
def Cu{b n a c j:Nat}{sp:List Value}{K:KK}{bk:(ak)->Nat->Nat->Int->Int->Int->aA->Prop}{g:Nat->Int}{h:aA}(A:bI .u32 h b n g sp)(hj:j<n)(ha:a<n)(hn:n<=LB/4):
  ∀(d i:Nat),i+d=j+1->(∀i',i<=i'->i'<=j+1->(∀k,i<=k->k<i'->g k<g a)->(i'=j+1\/g a<=g i')->F321.wk15 bk (some (ah b)) n c a i' j h K)->
   F321.wL1013 bk (d+1) (some (ah b)) n c a i j h K:=by
 intro d;have hLB:LB=140737488355328:=rfl
 induction d with
 |zero=>
  intro i hd hK;unfold F321.wL1013 F321.JL1013;rw[show decide ((i:Int)<=(j:Int))=false by simp;omega];exact hK i (Nat.le_refl _) Y (λk h1 h2=>Y) (.inl Y)
 |succ d ih=>
  intro i hd hK;unfold F321.wL1013 F321.JL1013;rw[show decide ((i:Int)<=(j:Int))=true by simp;omega,aG];refine A.ld rfl Y (A.ld rfl Y (dr ?_));rw[bC];refine aH (λhl=> ?_) λhl=> ?_
  ·simp only[decide_eq_true_eq]at hl;rw[show ai ((i:Int)+1)=((i+1:Nat):Int) by rw[aV Y Y];omega];refine ih (i+1) Y λi' h1 h2 h3 h4=>hK i' Y h2 (λk h5 h6=> ?_) h4;by_cases hk:k=i
   ·subst hk;omega
   ·exact h3 k Y h6
  ·simp only[decide_eq_false_iff_not]at hl;exact hK i (Nat.le_refl _) Y (λk h1 h2=>Y) (.inr Y)
def BX{b n a c i e:Nat}{sp:List Value}{K:KK}{g:Nat->Int}{h:aA}(A:bI .u32 h b n g sp)(he:e<=n)(ha:a<n)(hn:n<=LB/4)(hi:1<=i):
  ∀(d j:Nat),j<e->j+1=i+d->(∀j',j'<=j->i<=j'+1->(∀k,j'<k->k<=j->g a<=g k)->(j'+1=i\/g j'<g a)->F321.wk7 (some (ah b)) n c a i j' h K)->
   F321.wL5 (d+1) (some (ah b)) n c a i j h K:=by
 intro d;have hLB:LB=140737488355328:=rfl
 induction d with
 |zero=>
  intro j hj hd hK;unfold F321.wL5 F321.JL5;rw[show decide ((i:Int)<=(j:Int))=false by simp;omega];exact hK j (Nat.le_refl _) Y (λk h1 h2=>Y) (.inl Y)
 |succ d ih=>
  intro j hj hd hK;unfold F321.wL5 F321.JL5;rw[show decide ((i:Int)<=(j:Int))=true by simp;omega,aG];refine A.ld rfl Y (A.ld rfl Y (dr ?_));rw[bC];refine aH (λhl=> ?_) λhl=> ?_
  ·simp only[Bool.not_eq_true',decide_eq_false_iff_not]at hl;rw[show ai ((j:Int)-1)=((j-1:Nat):Int) by rw[aV Y Y];omega];refine ih (j-1) Y Y λj' h1 h2 h3 h4=>hK j' Y h2 (λk h5 h6=> ?_) h4;by_cases hk:k=j
   ·subst hk;omega
   ·exact h3 k h5 Y
  ·simp only[Bool.not_eq_false',decide_eq_true_eq]at hl;exact hK j (Nat.le_refl _) Y (λk h1 h2=>Y) (.inr Y)
def CV{b n a c i e:Nat}{sp:List Value}{K:KK}{bk:(ak)->Nat->Nat->Int->Int->Int->aA->Prop}{g:Nat->Int}{h:aA}(A:bI .u32 h b n g sp)(he:e<=n)(ha:a<n)(hn:n<=LB/4)(hi:1<=i):
  ∀(d j:Nat),j<e->j+1=i+d->(∀j',j'<=j->i<=j'+1->(∀k,j'<k->k<=j->g a<=g k)->(j'+1=i\/g j'<g a)->F321.wk17 bk (some (ah b)) n c a i j' h K)->
   F321.wL15 bk (d+1) (some (ah b)) n c a i j h K:=by
 intro d;have hLB:LB=140737488355328:=rfl
 induction d with
 |zero=>
  intro j hj hd hK;unfold F321.wL15 F321.JL15;rw[show decide ((i:Int)<=(j:Int))=false by simp;omega];exact hK j (Nat.le_refl _) Y (λk h1 h2=>Y) (.inl Y)
 |succ d ih=>
  intro j hj hd hK;unfold F321.wL15 F321.JL15;rw[show decide ((i:Int)<=(j:Int))=true by simp;omega,aG];refine A.ld rfl Y (A.ld rfl Y (dr ?_));rw[bC];refine aH (λhl=> ?_) λhl=> ?_
  ·simp only[Bool.not_eq_true',decide_eq_false_iff_not]at hl;rw[show ai ((j:Int)-1)=((j-1:Nat):Int) by rw[aV Y Y];omega];refine ih (j-1) Y Y λj' h1 h2 h3 h4=>hK j' Y h2 (λk h5 h6=> ?_) h4;by_cases hk:k=j
   ·subst hk;omega
   ·exact h3 k h5 Y
  ·simp only[Bool.not_eq_false',decide_eq_true_eq]at hl;exact hK j (Nat.le_refl _) Y (λk h1 h2=>Y) (.inr Y)
def Eh{b n a c j:Nat}{sp:List Value}{K:KK}{bk:(ak)->Nat->Nat->Int->Int->Int->aA->Prop}{g:Nat->Int}{h:aA}(A:bI .u32 h b n g sp)(hj:j<n)(ha:a<n)(hn:n<=LB/4):
  ∀(d i:Nat),i+d=j+1->(∀i',i<=i'->i'<=j+1->(∀k,i<=k->k<i'->g k<=g a)->(i'=j+1\/g a<g i')->F320.wk5 bk (some (ah b)) n c a i' j h K)->
   F320.wL1003 bk (d+1) (some (ah b)) n c a i j h K:=by
 intro d;have hLB:LB=140737488355328:=rfl
 induction d with
 |zero=>
  intro i hd hK;unfold F320.wL1003 F320.JL1003;rw[show decide ((i:Int)<=(j:Int))=false by simp;omega];exact hK i (Nat.le_refl _) Y (λk h1 h2=>Y) (.inl Y)
 |succ d ih=>
  intro i hd hK;unfold F320.wL1003 F320.JL1003;rw[show decide ((i:Int)<=(j:Int))=true by simp;omega,aG];refine A.ld rfl Y (A.ld rfl Y (dr ?_));rw[bC];refine aH (λhl=> ?_) λhl=> ?_
  ·simp only[Bool.not_eq_true',decide_eq_false_iff_not]at hl;rw[show ai ((i:Int)+1)=((i+1:Nat):Int) by rw[aV Y Y];omega];refine ih (i+1) Y λi' h1 h2 h3 h4=>hK i' Y h2 (λk h5 h6=> ?_) h4;by_cases hk:k=i
   ·subst hk;omega
   ·exact h3 k Y h6
  ·simp only[Bool.not_eq_false',decide_eq_true_eq]at hl;exact hK i (Nat.le_refl _) Y (λk h1 h2=>Y) (.inr Y)
def EN{b n a c i e:Nat}{sp:List Value}{K:KK}{bk:(ak)->Nat->Nat->Int->Int->Int->aA->Prop}{g:Nat->Int}{h:aA}(A:bI .u32 h b n g sp)(he:e<=n)(ha:a<n)(hn:n<=LB/4)(hi:1<=i):
  ∀(d j:Nat),j<e->j+1=i+d->(∀j',j'<=j->i<=j'+1->(∀k,j'<k->k<=j->g a<g k)->(j'+1=i\/g j'<=g a)->F320.wk7 bk (some (ah b)) n c a i j' h K)->
   F320.wL5 bk (d+1) (some (ah b)) n c a i j h K:=by
 intro d;have hLB:LB=140737488355328:=rfl
 induction d with
 |zero=>
  intro j hj hd hK;unfold F320.wL5 F320.JL5;rw[show decide ((i:Int)<=(j:Int))=false by simp;omega];exact hK j (Nat.le_refl _) Y (λk h1 h2=>Y) (.inl Y)
 |succ d ih=>
  intro j hj hd hK;unfold F320.wL5 F320.JL5;rw[show decide ((i:Int)<=(j:Int))=true by simp;omega,aG];refine A.ld rfl Y (A.ld rfl Y (dr ?_));rw[bC];refine aH (λhl=> ?_) λhl=> ?_
  ·simp only[decide_eq_true_eq]at hl;rw[show ai ((j:Int)-1)=((j-1:Nat):Int) by rw[aV Y Y];omega];refine ih (j-1) Y Y λj' h1 h2 h3 h4=>hK j' Y h2 (λk h5 h6=> ?_) h4;by_cases hk:k=j
   ·subst hk;omega
   ·exact h3 k h5 Y
  ·simp only[decide_eq_false_iff_not]at hl;exact hK j (Nat.le_refl _) Y (λk h1 h2=>Y) (.inr Y)
end
end Go.Proofs.YtnofenejoebkhaaGreat.Ev
