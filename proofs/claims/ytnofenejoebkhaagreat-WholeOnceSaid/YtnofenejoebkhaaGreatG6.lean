/- PART 6 OF WHAT THE LAW WholeOnce STANDS ON. Conditions: none but those that each lemma states. -/
import Derived.Test.YtnofenejoebkhaaGreatG5
namespace Go.Proofs.YtnofenejoebkhaaGreat.Ev
open Go
set_option linter.defProp false
set_option maxRecDepth 100000
set_option autoImplicit true
set_option relaxedAutoImplicit true
def bX.perm{P:PS}(H:bX n fo N P){ws:List Wk}(hl:ws.length=P.ws.length)(hp:(locs ws).Perm (locs P.ws))(hT: ∀k∈ws,k.T+k.q.length<=P.last)(a:0<=st/\st+(qlen ws:Int)<=(P.last:Int)):bX n fo N {P with ws:=ws,steals:=st}:=
 ⟨H.mst,λx hx=>H.at_ x (hp.mem_iff.1 hx),hp.nodup_iff.2 H.one,λj hj hd=>hp.mem_iff.2 (H.loc j hj hd),hT,by show 1<=ws.length/\ws.length<=4;rw[hl];exact H.len,H.last,a⟩
def AR{ws:List Wk}{k k':Wk}(hw:ws[w]? =some k)(e:k'.loc.Perm k.loc):(locs (ws.set w k')).Perm (locs ws):=by have p:=gD Wk.loc ws w k k' hw;exact(OA k.loc).1 (p.trans (e.append_right _))
def lO{k:Wk}(h:k.job=0):k.loc=k.q:=by unfold Wk.loc;rw[MK h];rfl
def kZ{k:Wk}(h:k.job≠0):k.loc=k.job::k.q:=by unfold Wk.loc;rw[MG h];rfl
def bX.take{P:PS}(H:bX n fo N P){k k':Wk}(hw:P.ws[w]? =some k)(h0:k.job=0)(hq:k.q=q'++[x])(hx:x≠0)(e1:k'.q=q')(e2:k'.job=x)(hT:k'.T+k'.q.length<=k.T+k.q.length):
  bX n fo N {P with ws:=P.ws.set w k'}/\fM n N {P with ws:=P.ws.set w k'}+1=fM n N P:=by
 have hk:=MM hw;have ql:=iR (λk:Wk=>k.q.length) P.ws w k k' hw;have l1:k.q.length=k'.q.length+1:=by rw[hq,e1];simp
 have lk:k'.loc.Perm k.loc:=by rw[lO h0,kZ (by rw[e2];exact hx),e1,e2,hq];exact List.perm_append_comm (l₁:=[x])
 refine⟨H.perm (st:=P.steals) ak (AR hw lk) (λy hy=> ?_) ?_,?_⟩
 ·rcases ga hy with h|⟨z,-,h⟩
  ·subst h;have:=H.T k hk;omega
  ·exact H.T y (MM h)
 ·have:=H.steals;unfold qlen at this ⊢;omega
 ·unfold fM qlen;dsimp only;omega
def bX.steal{P:PS}(H:bX n fo N P){k1 a kw:Wk}(d:i1≠i0)(h1:P.ws[i1]? =some k1)(hw:P.ws[i0]? =some kw)(h0:kw.job=0)(hq:k1.q=x::q1)(hx:x≠0)(e1:a.q=q1)(e2:a.job=k1.job)(e3:a.T=k1.T+1):
  bX n fo N {P with ws:=(P.ws.set i1 a).set i0 {kw with job:=x},steals:=P.steals+1}/\fM n N {P with ws:=(P.ws.set i1 a).set i0 {kw with job:=x},steals:=P.steals+1}+1=fM n N P:=by
 have b:(P.ws.set i1 a)[i0]? =some kw:=by rw[Nl,MG d];exact hw
 have e:=iR (λk:Wk=>k.q.length) P.ws i1 k1 a h1;have c:=iR (λk:Wk=>k.q.length) (P.ws.set i1 a) i0 kw {kw with job:=x} b;dsimp only at e c;have l1:k1.q.length=a.q.length+1:=by rw[hq,e1];simp
 have p1:=gD Wk.loc P.ws i1 k1 a h1;have p2:=gD Wk.loc (P.ws.set i1 a) i0 kw {kw with job:=x} b;have lw:({kw with job:=x}:Wk).loc=x::kw.q:=kZ hx
 have lk:k1.loc.Perm (x::a.loc):=by unfold Wk.loc;rw[e2,e1,hq];exact PU
 rw[lO h0,lw]at p2
 have p2:(locs ((P.ws.set i1 a).set i0 {kw with job:=x})).Perm (x::locs (P.ws.set i1 a)):=by have:(kw.q++locs ((P.ws.set i1 a).set i0 {kw with job:=x})).Perm (kw.q++x::locs (P.ws.set i1 a)):=p2.trans PU.symm;exact(OA _).1 this
 have p1:(x::locs (P.ws.set i1 a)).Perm (locs P.ws):=by
  have:(a.loc++x::locs (P.ws.set i1 a)).Perm (a.loc++locs P.ws):=by refine List.Perm.trans (PU.trans ?_) p1;exact(lk.symm.append_right _)
  exact(OA _).1 this
 refine⟨H.perm ak (p2.trans p1) (λy hy=> ?_) ?_,?_⟩
 ·rcases ga hy with h|⟨z,-,h⟩
  ·subst h;exact H.T kw (MM hw)
  ·rcases ga (MM h)with h|⟨z,-,h⟩
   ·subst h;have:=H.T k1 (MM h1);omega
   ·exact H.T y (MM h)
 ·have:=H.steals;unfold qlen at this ⊢;omega
 ·unfold fM qlen;dsimp only;omega
def zW(P P':PS):Prop:=P'.last=P.last/\P'.ws.length=P.ws.length/\P'.jobs.map (·.id)=P.jobs.map (·.id)
structure rV(n:Nat)(fo:Nat->Nat)(N N':ay)(P P':PS):Prop where
 ok:bX n fo N' P'
 ex:Ex N N'
 alike:zW P P'
 le1:fM n N' P'<=fM n N P
 fin: ∀(i:Nat) (j:Jb),P.jobs[i]? =some j->j.A.done=true->P'.jobs[i]? =some j
 nil:P.jobs=[]->N'=N
def jV{P:PS}{i:Nat}{j:Jb}(ids:(P.jobs.map (·.id)).Nodup)(hi:P.jobs[i]? =some j):(P.jobs.map λj=>((j.id:Int),bg j.A.m)).lookup (j.id:Int)=some (bg j.A.m):=by
 generalize P.jobs=l at ids hi
 induction l generalizing i with
 |nil=>simp at hi
 |cons y l ih=>
  simp only[Nk,Nt]at ids;cases i with
  |zero=>
   simp at hi;subst hi;simp[List.lookup]
  |succ i=>
   have hi:l[i]? =some j:=by simpa using hi
   have a:y.id≠j.id:=λe=>ids.1 (by rw[e];exact MY.2 ⟨j,MM hi,rfl⟩);simp only[Nk,List.lookup];rw[show((j.id:Int)==(y.id:Int))=false by simp;omega];exact ih ids.2 hi
def rC{h:aI}{p s n room:Nat}{fo gg:Nat->Nat}{off:Bool}{N:ay}{P:PS}{K:KK}{L:List Nat}(S:bV h s L (XL n room fo gg N off))(H:bM h p s P)(Ok:bX n fo N P)(po:cF n fo gg)(D: ∀b,dI p P b->b∉L){w i:Nat}{k:Wk}{j:Jb}(hw:P.ws[w]? =some k)(hi:P.jobs[i]? =some j)(hj:k.job=(j.id:Int))(hd:j.A.done=false)
  (hK: ∀h' L' N' P',bV h' s L' (XL n room fo gg N' off)->bM h' p s P'->(∀b,dI p P' b->b∉L')->rV n fo N N' P P'->fM n N' P'+1<=fM n N P->(∀T,(∀b,dI p P b->b∈T)->(∀b∈L,b∈T)->aM T h h')->bH L L' h->(∀b,dI p P' b->dI p P b\/h.size<=b)->K aC h'):
  dQ h (some P.jb) .i64 .i64 k.job λB=>a8 (some (kS (.pointer none) B)) λo=>Cl 114 [.pointer o] h λt d=>bP (some t) λl=>aK l (aY (some (aw k.w)) λu=>aW d (Addr.add (Addr.add u 1) 0) (ap (0:Int)) λg=>K aC g) (K aC d):=by
 have a:=MM hi;have ids:=H.ids;have lk:=jV (P:=P) ids.1 hi;refine c8 H.jbm (λe=> ?_) λx v e=> ?_
 ·rw[hj,lk]at e;cases e
 rw[hj,lk]at e;injection e with e;subst e;refine aR rfl ?_;have DA: ∀b∈j.A.bl,b∉L:=λb hb=>D b (.inr (.inr (.inr (.inr ⟨j,a,hb⟩))));have ok:=S.ok;dsimp only[XL]at ok;have zP:=H.lt;have zL:=S.lt;refine Ez S (H.ma j a) DA (Ok.mst j a).2.1 (Ok.mst j a).1 po hd λh1 L1 N1 A1 em S1 M1 D1 E1 R1 m1 c1 f1 O1 g1 s1=>aZ rfl ?_
 have H1:bM h1 p s {P with jobs:=P.jobs.set i {j with A:=A1}}:=H.set_ma hi O1 (λb hb hp=>by
  rcases Zq hb with hL|hA
  ·exact Nc hL (D b hp)
  ·exact hA) M1 em s1
 have ce:=oG E1;have st:=Ok.step ok.1 E1 ids.1 (ids.2 j a).1 hi hw hj R1 hd m1 ah (f1.imp id λz=>ah)
 have alike:(P.jobs.set i {j with A:=A1}).map (·.id)=P.jobs.map (·.id):=by
  rw[Qz];apply Ns;intro x;rw[Nl];by_cases hix:i=x
  ·subst hix;rw[MK rfl,MK (by simpa using (MQ.1 hi).1),Nf,hi]
   rfl
  ·rw[MG hix]
 have fin: ∀(x:Nat) (y:Jb),P.jobs[x]? =some y->y.A.done=true->(P.jobs.set i {j with A:=A1})[x]? =some y:=λx y hx hy=>by
  rw[Nl];by_cases hix:i=x
  ·subst hix;rw[hi]at hx;injection hx with hx;subst hx;rw[hd]at hy;cases hy
  ·rw[MG hix];exact hx
 have nil:P.jobs=[]->N1=N:=λq=>by rw[q]at hi;cases hi
 have f: ∀b,dI p {P with jobs:=P.jobs.set i {j with A:=A1}} b->dI p P b\/h.size<=b:=λb hb=>by
  rcases hb with e|e|hb|hb|⟨y,hy,hb⟩
  ·exact .inl (.inl e)
  ·exact .inl (.inr (.inl e))
  ·exact .inl (.inr (.inr (.inl hb)))
  ·exact .inl (.inr (.inr (.inr (.inl hb))))
  ·rcases ga hy with e|⟨x,-,hx⟩
   ·subst e;exact(s1 b hb).imp (λhb=> .inr (.inr (.inr (.inr ⟨j,a,hb⟩)))) id
   ·exact .inl (.inr (.inr (.inr (.inr ⟨y,MM hx,hb⟩))))
 have c: ∀b,dI p {P with jobs:=P.jobs.set i {j with A:=A1}} b->b∉L1:=λb hb hm=>by
  have old:dI p P b->False:=λhp=>by
   rcases g1 b hm with h|h
   ·exact D b hp h
   ·have:=zP b hp;omega
  rcases hb with e|e|hb|hb|⟨y,hy,hb⟩
  ·exact old (.inl e)
  ·exact old (.inr (.inl e))
  ·exact old (.inr (.inr (.inl hb)))
  ·exact old (.inr (.inr (.inr (.inl hb))))
  ·rcases ga hy with e|⟨x,-,hx⟩
   ·subst e;exact D1 b hb hm
   ·exact old (.inr (.inr (.inr (.inr ⟨y,MM hx,hb⟩))))
 have hO: ∀T,(∀b,dI p P b->b∈T)->(∀b∈L,b∈T)->aM T h h1:=λT hT hL=>O1.mono λb hb _=>by
  rcases Zq hb with h|h
  ·exact hL b h
  ·exact hT b (.inr (.inr (.inr (.inr ⟨j,a,h⟩))))
 refine aS (λe=> ?_) λe=> ?_
 ·simp only[MK e]at st;have W1:=H1.wk k (MM hw);rw[aT];simp only[aL,MF,ML];refine aU W1.own ak rfl λh2 A2 O2 z2=> ?_;obtain⟨n1,n2,n3⟩:=W1.ne;have H2:=H1.set_wk (k':={k with job:=0}) hw O2 (λb hb=>by simp[Wk.bl]at hb ⊢;omega) ⟨A2,W1.dw.only O2 (by simp;omega) (by simp;omega) (by simp;omega),W1.ds,W1.ne⟩ rfl;dsimp only at H2;have b2: ∀b,dI p {P with jobs:=P.jobs.set i {j with A:=A1},ws:=P.ws.set w {k with job:=0}} b->dI p {P with jobs:=P.jobs.set i {j with A:=A1}} b:=λb hb=>fG (P:={P with jobs:=P.jobs.set i {j with A:=A1}}) (k':={k with job:=0}) hw rfl hb;have m:k.w∉L1:=c k.w (.inr (.inr (.inr (.inl ⟨k,MM hw,by simp[Wk.bl]⟩))));refine hK h2 L1 N1 _ (S1.only O2 λb hb hm=>by simp only[MH]at hb;subst hb;exact m hm) H2 (λb hb=>c b (b2 b hb)) ⟨st.1,E1,⟨rfl,ak,alike⟩,by have:=st.2;omega,fin,nil⟩ st.2 (λT hT hL=>(hO T hT hL).trans O2 λb hb _=> ?_) g1 λb hb=>f b (b2 b hb);simp only[MH]at hb;subst hb;exact hT _ (.inr (.inr (.inr (.inl ⟨k,MM hw,by simp[Wk.bl]⟩))))
 ·have e': ¬A1.done=true:=by rw[e];simp
  simp only[MG e']at st;exact hK h1 L1 N1 _ S1 H1 c ⟨st.1,E1,⟨rfl,rfl,alike⟩,by have:=st.2;omega,fin,nil⟩ st.2 hO g1 f
def iL(hx:x=some (.map n))(hK:K n):bR x K:=⟨n,hx,hK⟩
def fA.trans(H:fA a b)(G:fA b c):fA a c:=by refine⟨G.1.trans H.1,λi k hk=> ?_⟩;obtain⟨k',h',e⟩:=H.2 i k hk;obtain⟨d,f,e'⟩:=G.2 i k' h';exact⟨d,f,e'.1.trans e.1,e'.2.1.trans e.2.1,e'.2.2.1.trans e.2.2.1,e'.2.2.2.trans e.2.2.2⟩
def FS(p:Nat)(P:PS):List Nat:=p::P.jb::(aV P.wp++(P.ws.flatMap Wk.bl++P.jobs.flatMap λj=>j.A.bl))
def gj:b∈FS p P↔dI p P b:=by unfold FS dI;simp only[List.mem_cons,List.mem_append,N6]
def lr{ws:List Wk}{w:Nat}{k:Wk}(hw:ws[w]? =some k){x:Int}(h:x∈k.loc):x∈locs ws:=N6.2 ⟨k,MM hw,h⟩
def qg{P:PS}(Ok:bX n fo N P)(ids: ∀j∈P.jobs,1<=j.id/\j.id<=P.last){k:Wk}(hk:k∈P.ws):k.T+k.q.length<1000000000/\ ∀x∈k.q,1<=x/\x<1000000000:=by have h1:=Ok.T k hk;have h2:=Ok.last;refine⟨ah,λx hx=> ?_⟩;obtain⟨j,hj,e,-⟩:=Ok.at_ x (N6.2 ⟨k,hk,by unfold Wk.loc;simp[hx]⟩);have:=ids j hj;omega
def GC{h:aI}{p s n room:Nat}{fo gg:Nat->Nat}{off:Bool}{N:ay}{P:PS}{K:KK}{L:List Nat}(S:bV h s L (XL n room fo gg N off))(H:bM h p s P)(Ok:bX n fo N P)(po:cF n fo gg)(D: ∀b,dI p P b->b∉L){who draw:Int}
  (l:who<0\/(P.ws.length:Int)<=who->K aB h)
  (hK: ∀h' L' N' P' b (w:Nat) (k:Wk),who=(w:Int)->P.ws[w]? =some k->bV h' s L' (XL n room fo gg N' off)->bM h' p s P'->(∀b,dI p P' b->b∉L')->rV n fo N N' P P'->(b=true->locs P.ws≠[])->(fM n N' P'+1<=fM n N P\/(k.job=0/\k.q=[]/\fA P.ws P'.ws))->(∀T,(∀b,dI p P b->b∈T)->(∀b∈L,b∈T)->aM T h h')->bH L L' h->(∀b,dI p P' b->dI p P b\/h.size<=b)->K (aD b) h'):
  Cl 81 [bg p,ap who,ap draw] h K:=by
 refine F81.spec ?_;refine aS (λe=>l (.inl (MV e))) λe=> ?_;have w0:=MU e;simp only[aL,MF,ML];have rp:=dg H;refine bB rp.2.1 (aS (λe=>l (.inr (MV e))) λe=> ?_);have w1:=MU e;obtain⟨w,ew⟩: ∃w:Nat,who=(w:Int):=⟨who.toNat,ah⟩;subst ew;have o:w<P.ws.length:=ah;obtain⟨k,hw⟩: ∃k,P.ws[w]? =some k:=⟨_,MT o⟩;have hk:=MM hw;obtain⟨b,eb,rb⟩:=Bo H hw;refine bB rp.2.1 ?_;rw[eb,aT];refine⟨ah,ah,?_⟩;simp only[aL,MF,ML,MO,Nz];refine aR rb ?_;rw[aT];simp only[aL,MF,ML];have W:=H.wk k hk;have rj:rd h ⟨k.w,1,none⟩=some (ap k.job):=by rw[At.rd W.own];rfl
 have u:=qg Ok H.ids.2 hk;have zP:=H.lt;refine aH rj (aS (λe=> ?_) λe=> ?_)
 ·have j0:k.job=0:=by simpa using e
  refine BW W u.1 (λx hx=>by have:=u.2 x hx;omega) (λeq h1 k' W' a q' C T' O1=>aZ rfl ?_) λx q' eq h1 k' W' a e1 e2 hT O1=>aZ rfl ?_
  ·rw[Nx,aO];have ke:qz k k':=⟨a,by rw[q',eq],C,T'⟩;have E1:=(fA.refl P.ws).set hw ke;have H1:=H.set_wk hw O1 (λb hb=>hb) W' a;obtain⟨Ok1,p1⟩:=Ok.eq E1;have g:(P.ws.set w k')[w]? =some k':=by rw[Nl,MK rfl,MK o]
   have bd: ∀b,dI p {P with ws:=P.ws.set w k'} b->dI p P b:=λb hb=>fG hw a hb;have f:k'.w=k.w:=ke.w;have O1': ∀T,(∀b,dI p P b->b∈T)->aM T h h1:=λT hT=>O1.mono λb hb _=>hT b (.inr (.inr (.inr (.inl ⟨k,hk,hb⟩))));have S1:=S.only O1 λb hb hm=>D b (.inr (.inr (.inr (.inl ⟨k,hk,hb⟩)))) hm;rw[<-f];refine yK H1 g (draw:=draw) (by have:=Ok1.len;omega) (λy hy=>(qg Ok1 H1.ids.2 hy).1) (λy hy x hx=>by have:=(qg Ok1 H1.ids.2 hy).2 x hx;omega) ⟨Ok1.steals.1,by have:=Ok1.steals;have:=Ok1.last;omega⟩ (λh2 ws H2 E2 B2 O2=>aZ rfl ?_) λh2 ws i1 k1 x q1 M I z E2 F m t v J f1 f2 f3 A H2 B2 O2=>aZ rfl ?_
   ·dsimp only at H2 E2 B2;obtain⟨Ok2,p3⟩:=Ok1.eq (ws:=ws) E2;dsimp only at Ok2 p3;have O2': ∀T,(∀b,dI p P b->b∈T)->aM T h h2:=λT hT=>(O1' T hT).trans (O2 T λb hb=>hT b (bd b hb)) λb hb _=>hb;have S2:=S.only (O2' (FS p P) λb hb=>gj.2 hb) λb hb hm=>D b (gj.1 hb) hm;refine hK h2 L N {P with ws:=ws} false w k rfl hw S2 H2 (λb hb=>D b (bd b (B2 b hb))) ⟨Ok2,Ex.refl _,⟨rfl,by show ws.length=_;rw[E2.1];simp,rfl⟩,by omega,λi j h _=>h,λ_=>rfl⟩ (λh=>by cases h) (.inr ⟨j0,eq,E1.trans E2⟩) (λT hT hL=>O2' T hT) (bH.refl _ _) λb hb=> .inl (bd b (B2 b hb))
   ·dsimp only at H2 E2 B2;obtain⟨Ok2,p3⟩:=Ok1.eq (ws:=ws) E2;dsimp only at Ok2 p3;obtain⟨ka,c,ea⟩:=E2.2 w k' g;rw[v]at c;injection c with c;subst c;have hx:=(qg Ok2 H.ids.2 (MM m)).2 x (by rw[t];simp);obtain⟨Ok3,p5⟩:=Ok2.steal (P:={P with ws:=ws}) F m v (by rw[ea.2.2.1,C,j0]) t ah f1 f2 f3;dsimp only at Ok3 p5;rw[<-A]at Ok3 p5;have O2': ∀T,(∀b,dI p P b->b∈T)->aM T h h2:=λT hT=>(O1' T hT).trans (O2 T λb hb=>hT b (bd b hb)) λb hb _=>hb;have S2:=S.only (O2' (FS p P) λb hb=>gj.2 hb) λb hb hm=>D b (gj.1 hb) hm;have B:z.length=P.ws.length:=by rw[A,NT,NT,E2.1];simp
    refine hK h2 L N {P with ws:=z,steals:=P.steals+1} true w k rfl hw S2 H2 (λb hb=>D b (bd b (B2 b hb))) ⟨Ok3,Ex.refl _,⟨rfl,B,rfl⟩,ah,λi j h _=>h,λ_=>rfl⟩ (λ_ hl=> ?_) (.inl ah) (λT hT hL=>O2' T hT) (bH.refl _ _) λb hb=> .inl (bd b (B2 b hb));have:=lr m (x:=x) (by unfold Wk.loc;rw[t];simp);rw[E2.locs,E1.locs,hl]at this;cases this
  ·rw[Ng,aJ];have H1:=H.set_wk hw O1 (λb hb=>hb) W' a;have hx:=u.2 x (by rw[eq];simp);obtain⟨Ok1,p1⟩:=Ok.take hw j0 eq ah e1 e2 hT;have g:(P.ws.set w k')[w]? =some k':=by rw[Nl,MK rfl,MK o]
   have bd: ∀b,dI p {P with ws:=P.ws.set w k'} b->dI p P b:=λb hb=>fG hw a hb
   have f:k'.w=k.w:=by simp only[Wk.bl,NL]at a;exact a.1
   have O1': ∀T,(∀b,dI p P b->b∈T)->aM T h h1:=λT hT=>O1.mono λb hb _=>hT b (.inr (.inr (.inr (.inl ⟨k,hk,hb⟩))));have S1:=S.only O1 λb hb hm=>D b (.inr (.inr (.inr (.inl ⟨k,hk,hb⟩)))) hm;obtain⟨j,hj,ex,hd⟩:=Ok.at_ x (lr hw (by rw[lO j0,eq];simp));obtain⟨i,hi⟩:=Ni.1 hj;have W1':At h1 k'.w [bg k'.d,ap k'.job]:=W'.own;refine iL (dg H1).2.2.1 ?_;rw[aT];simp only[aL,MF,ML];refine aH (n:=k'.job) (by rw[<-f,At.rd W1'];rfl) ?_;rw[<-f];refine rC S1 H1 Ok1 po (λb hb=>D b (bd b hb)) g hi (by rw[e2,ex]) hd λh2 L2 N2 P2 S2 H2 D2 Pk hs O2 g2 b2=> ?_;have G:zW P P2:=⟨Pk.alike.1,by rw[Pk.alike.2.1];simp,Pk.alike.2.2⟩;have l1:=Pk.le1;refine hK h2 L2 N2 P2 true w k rfl hw S2 H2 D2 ⟨Pk.ok,Pk.ex,G,ah,Pk.fin,Pk.nil⟩ (λ_ hl=> ?_) (.inl ah) (λT hT hL=>(O1' T hT).trans (O2 T (λb hb=>hT b (bd b hb)) hL) λb hb _=>hb) ?_ λb hb=> ?_
   ·have:=lr hw (x:=x) (by rw[lO j0,eq];simp);rw[hl]at this;cases this
   ·intro b hb;rcases g2 b hb with h|h
    ·exact .inl h
    ·exact .inr (by have:=O1.size;omega)
   ·rcases b2 b hb with h|h
    ·exact .inl (bd b h)
    ·exact .inr (by have:=O1.size;omega)
 ·have j0:k.job≠0:=by simpa using e
  obtain⟨j,hj,ex,hd⟩:=Ok.at_ k.job (lr hw (by rw[kZ j0];simp));obtain⟨i,hi⟩:=Ni.1 hj;refine iL rp.2.2.1 ?_;rw[aT];simp only[aL,MF,ML];refine aH rj ?_;refine rC S H Ok po D hw hi ex hd λh2 L2 N2 P2 S2 H2 D2 Pk hs O2 g2 b2=> ?_;refine hK h2 L2 N2 P2 true w k rfl hw S2 H2 D2 Pk (λ_ hl=> ?_) (.inl hs) O2 g2 b2;have:=lr hw (x:=k.job) (by rw[kZ j0];simp);rw[hl]at this;cases this
def uy(l:List Jb):List (Int×Value):=l.map λj=>((j.id:Int),bg j.A.m)
def mL:(uy l).lookup x=none↔ ∀j∈l,x≠(j.id:Int):=by rw[dT];simp only[uy,On,MY,Function.comp_apply,not_exists,not_and];exact⟨λh j hj e=>h j hj e.symm,λh j hj e=>h j hj e.symm⟩
def yS{l:List Jb}{y:Jb}:(uy l).filter (λp=>p.1≠(y.id:Int))=uy (l.filter λz=>decide (z.id≠y.id)):=by
 unfold uy;rw[List.filter_map]
 congr 1
 apply List.filter_congr;intro z _;simp;omega
def fQ: ∀(l m:List Int),l.Nodup->(∀x∈l,x∈m)->l.length<=m.length
 | [],m,_,_=>NS _
 |x::l,m,h,hs=>by obtain⟨h1,h2⟩:=Nt.1 h;have hx:=hs x OP;have ih:=fQ l (m.erase x) h2 λy hy=>(List.mem_erase_of_ne λe=>by subst e;exact h1 hy).2 (hs y (Nh _ hy));rw[List.length_erase_of_mem hx]at ih;have:=List.length_pos_of_mem hx;simp only[NJ];omega
def rG{P:PS}(H:bM h p s P)(hK:K (ap (P.ws.length:Int)) h):Cl 68 [bg p] h K:=by refine F68.spec ?_;simp only[aL,MF];exact bB (dg H).2.1 hK
def Bt{h:aI}{p s:Nat}{P:PS}{K:KK}(H:bM h p s P){x:Int}(hN:(∀j∈P.jobs,x≠(j.id:Int))->K aB h)(hJ: ∀(i:Nat) (j:Jb),P.jobs[i]? =some j->x=(j.id:Int)->K (aD j.A.done) h):Cl 39 [bg p,ap x] h K:=by
 refine F39.spec ?_;simp only[aL,MF];refine iL (dg H).2.2.1 (c8 H.jbm (λe=>aR rfl ?_) λx' v e=> ?_)
 ·exact hN (mL.1 e)
 ·by_cases hx: ∀j∈P.jobs,x≠(j.id:Int)
  ·have e0:=mL.2 hx;unfold uy at e0;rw[e0]at e;cases e
  ·obtain⟨j,hj,ej⟩: ∃j∈P.jobs,x=(j.id:Int):=by
    apply MS;intro hn;exact hx λj hj e=>hn ⟨j,hj,e⟩
   obtain⟨i,hi⟩:=Ni.1 hj;have:=jV H.ids.1 hi;rw[ej,this]at e;injection e with e;subst e;refine aR rfl ?_;rw[show(!(Option.isNone (some ((aw j.A.m):Addr))))=true from rfl,aO];exact Gx (H.ma j hj) (aZ rfl (hJ i j hi ej))
def uC{h:aI}{p s:Nat}{P:PS}{K:KK}(H:bM h p s P){x:Int}(hN:(∀j∈P.jobs,x≠(j.id:Int))->K (.tuple #[aq 0,ap 61]) h)
  (hJ: ∀(i:Nat) (j:Jb),P.jobs[i]? =some j->x=(j.id:Int)->K (.tuple #[aq (if j.A.done=true/\j.A.e=0 then(j.A.told:Int)else 0),ap (if j.A.done=true then(j.A.e:Int)else 61)]) h):Cl 38 [bg p,ap x] h K:=by
 refine F38.spec ?_;refine Bt H (λhx=>aZ rfl ?_) λi j hi ej=>aZ rfl ?_
 ·rw[Nx,aO];exact hN hx
 ·have R:=hJ i j hi ej;refine aS (λe=> ?_) λe=> ?_
  ·have e:j.A.done=false:=by simpa using e
   rw[MG (by rw[e];simp),MG (by rw[e];simp)]at R;exact R
  ·simp only[aL,MF];have lk:=jV H.ids.1 hi;refine iL (dg H).2.2.1 (c8 H.jbm (λe=> ?_) λx' v e=> ?_)
   ·rw[ej,lk]at e;cases e
   ·rw[ej,lk]at e;injection e with e;subst e;exact aR rfl (zQ (H.ma j (MM hi)) ⟨_,_,rfl,R⟩)
def Bi{P:PS}(H:bM h p s P)(Ok:bX n fo N P)(hF:((∀j∈P.jobs,x≠(j.id:Int))\/ ∃j∈P.jobs,x=(j.id:Int)/\j.A.done=false)->K aB h)
  (hT: ∀h' j,j∈P.jobs->x=(j.id:Int)->j.A.done=true->bM h' p s {P with jobs:=P.jobs.filter λz=>decide (z.id≠j.id)}->bX n fo N {P with jobs:=P.jobs.filter λz=>decide (z.id≠j.id)}->aM [P.jb] h h'->K aC h'):Cl 36 [bg p,ap x] h K:=by
 refine F36.spec ?_;refine Bt H (λhx=>aZ rfl ?_) λi j hi ej=>aZ rfl ?_
 ·rw[aJ];exact hF (.inl hx)
 ·have hj:=MM hi;refine aS (λe=> ?_) λe=> ?_
  ·simp only[aL,MF];refine iL (dg H).2.2.1 (rU H.jbm λh1 M1 O1 z1=> ?_);rw[e]
   have em:kX (P.jobs.map λj=>((j.id:Int),bg j.A.m)) x=(P.jobs.filter λz=>decide (z.id≠j.id)).map λj=>((j.id:Int),bg j.A.m):=by unfold kX;rw[ej];exact yS
   rw[em]at M1;obtain⟨τ,t⟩:=H.sep;have sub: ∀y∈P.jobs.filter (λz=>decide (z.id≠j.id)),y∈P.jobs/\y.id≠j.id:=λy hy=>by simpa using List.mem_filter.1 hy
   have up: ∀y∈P.jobs,y.id≠j.id->y∈P.jobs.filter (λz=>decide (z.id≠j.id)):=λy hy hn=>List.mem_filter.2 ⟨hy,by simpa using hn⟩;have nj: ∀b∈[P.jb],τ b=0:=λb hb=>by simp only[MH]at hb;subst hb;exact t.jb
   refine hT h1 j hj ej e ⟨H.own.only O1 λhm=> ?_,H.wks.only O1 λb eb hm=> ?_,λk hk=>(H.wk k hk).only O1 λb hb hm=> ?_,M1,λy hy=>(H.ma y (sub y hy).1).only O1 λb hb hm=> ?_,⟨τ,t.p,t.jb,t.wp,t.ws,λy hy=>t.jobs y (sub y hy).1⟩,H.ne,?_,λy hy=>H.ids.2 y (sub y hy).1⟩ ⟨λy hy=>Ok.mst y (sub y hy).1,λy hy=> ?_,Ok.one,λy hy hd=>Ok.loc y (sub y hy).1 hd,Ok.T,Ok.len,Ok.last,Ok.steals⟩ O1
   ·simp only[MH]at hm;exact H.ne.1 hm
   ·simp only[MH]at hm;subst hm;exact H.ne.2.2 (by rw[eb];simp[aV])
   ·obtain⟨w,hw⟩:=Ni.1 hk;have:=t.ws w k hw b hm;have:=nj b hb;omega
   ·have:=t.jobs y (sub y hy).1 b hm;have:=nj b hb;omega
   ·exact H.ids.1.sublist (List.Sublist.map _ NZ)
   ·obtain⟨z,hz,ez,hd⟩:=Ok.at_ y hy;refine⟨z,up z hz λe'=> ?_,ez,hd⟩;have nd:=H.ids.1;obtain⟨i',c⟩:=Ni.1 hz;have:=fJ nd (x:=i') (y:=i) (a:=j.id) (by rw[Nf,c];simp[e']) (by rw[Nf,hi];rfl);subst this;rw[hi]at c;injection c with c;subst c;rw[e]at hd;cases hd
  ·rw[e];exact hF (.inr ⟨j,hj,ej,e⟩)
open Classical in
noncomputable def Ib(n:Nat)(N:ay)(a l:Nat):Bool:=decide (∃b,vn N a b/\lvl n N b=l)
def qw(fo:Nat->Nat)(p:Nat->Bool):Nat->Nat
 |0=>0
 |l+1=>if p l then qw fo p l|||2^fo l else qw fo p l
noncomputable def yI(n:Nat)(fo:Nat->Nat)(N:ay)(a:Nat):Bool:=bo .and .u8 ((qw fo (Ib n N a) n:Nat):Int) (170:Int)==(0:Int)
def xn: ∀n,(∀l,l<n->fo l<8)->qw fo p n<256
 |0,_=>by unfold qw;decide
 |n+1,h=>by
  have ih:=xn (p:=p) n λl hl=>h l ah;unfold qw;split
  ·have:2^fo n<2^8:=Pq (by decide) (h n ah);exact Pd (n:=8) ih this
  ·exact ih
def Lz{a b:Nat}(ha:a<256)(hb:b<256):bo .or .u8 (a:Int) (b:Int)=((a|||b:Nat):Int):=by
 unfold bo;show IntKind.wrap .u8 ((BitVec.ofInt 8 (a:Int)|||BitVec.ofInt 8 (b:Int)).toNat:Int)=_
 have e: ∀{x:Nat},x<256->(BitVec.ofInt 8 (x:Int)).toNat=x:=λhx=>by rw[BitVec.ofInt_natCast,BitVec.toNat_ofNat];exact OM hx
 rw[BitVec.toNat_or,e ha,e hb];exact t8 (Pd (n:=8) ha hb)
def zL(n:Nat)(g:Nat->Nat):List Value:=(List.range n).map λl=>ap (g l:Int)
def oF(hl:l<n):(zL n g)[l]? =some (ap (g l:Int)):=by simp[zL,hl]
def GD{n:Nat}{g:Nat->Nat}{k v:Nat}:(zL n g).set k (ap (v:Int))=zL n (iX g k v):=by
 apply Ns;intro i;rw[Nl];by_cases hi:i<n
 ·rw[oF (g:=iX g k v) hi];by_cases e:k=i
  ·subst e;rw[MK rfl,MK (by simpa[zL]using hi)];unfold iX;rw[MK rfl]
  ·rw[MG e,oF hi];unfold iX;rw[MG (λh=>e h.symm)]
 ·have:(zL n (iX g k v))[i]? =none:=Nb (by simpa[zL]using hi);rw[this];split
  ·rename_i e;subst e;rw[MG (by simpa[zL]using hi)]
  ·exact Nb (by simpa[zL]using hi)
def rQ{h:aI}{Y:SX}{rs:List Nat}(H:bV h s L Y)(Hr:cw h lo 1 p rs.length c (rs.map hv))(hr: ∀r∈rs,isN Y.N r)(hl:rs.length<=100000)
  (hK: ∀h' b g,At h' b (zL Y.n g)->h.size<=b->(∀l,l<Y.n->(0<g l↔ ∃x,(∃r∈rs,vn Y.N r x)/\lvl Y.n Y.N x=l))->(∀l,g l<=40000)->aM [] h h'->K (.tuple #[.slice (some (aw b)) Y.n Y.n,ap 0]) h'):
  Cl 271 [au (aw s),.slice p rs.length c] h K:=by
 have ok:=H.ok;have n8:=ok.2.2.1;refine F271.spec _ _ _ _ h K ?_;unfold F271.w F271.J0;refine pR H Hr hr hl λh1 mb mo keep M1 Kp gm sem O1=>⟨_,_,rfl,?_⟩;rw[show((0:Int) !=(0:Int))=false from rfl,aJ];have H1:=H.only0 O1;refine dE H1 (aH rfl ⟨NY _,Pv _,ah,ah,aX λh2 A2 O2 z2=> ?_⟩);have z1:=O1.size
 have A2:At h2 h1.size (zL Y.n λ_=>0):=by
  have e:(madeCells #[(ap (0:Int))] (Int.toNat (Y.n:Int)*1)).toList=zL Y.n λ_=>0:=by
   rw[toList_madeCells_one,MO,Nz];unfold zL;rw[List.map_const',QA]
   rfl
  rw[<-e];exact A2
 rw[MO];have M2:=M1.only O2 ak;have mlt:=M1.lt;refine yb M2 λh3 R3 O3 z3=> ?_
 have isk: ∀k,keep k=true->isN Y.N k/\2<=k/\lvl Y.n Y.N k<Y.n:=λk hk=>by obtain⟨r,hr',R⟩:=(sem k).1 hk;obtain⟨a,b,-⟩:=R.lvl_le ok.1 (hr r hr');exact⟨a,b,(ok.1.at a b).1⟩
 have mlen:mo.length<=32770:=by
  obtain⟨es,cl,-,-,nd,-⟩:=M1
  have:=fQ (mo.map (·.1)) ((List.range 32770).map λi:Nat=>(i:Int)) nd λx hx=>by obtain⟨q,hq,e⟩:=MY.1 hx;obtain⟨k,hk,e2⟩:=Kp.2 q hq;have:=H.isN_lt (isk k hk).1;refine MY.2 ⟨k,NA.2 this,?_⟩;rw[<-e,e2]
  simpa using this
 unfold F271.wk6 F271.Jk6
 have main: ∀(d:Nat) (left:List (Int×Value)) (g:Nat->Nat) (k:aI),left.length<=d->(∀q∈left,q∈mo)->HE k h2.size mb .u32 mo left->At k h1.size (zL Y.n g)->(∀q∈mo,q∈left\/ ∀a:Nat,q.1=(a:Int)->0<g (lvl Y.n Y.N a))->
   (∀l,0<g l-> ∃a,keep a=true/\lvl Y.n Y.N a=l)->(∀l,g l+left.length<=mo.length)->aM [] h k->F271.wL6 (d+1) (aw s) (some (aw h1.size)) Y.n Y.n (some (aw h2.size)) k K:=by
  have fin: ∀(g:Nat->Nat) (k:aI),At k h1.size (zL Y.n g)->(∀q∈mo,∀a:Nat,q.1=(a:Int)->0<g (lvl Y.n Y.N a))->(∀l,0<g l-> ∃a,keep a=true/\lvl Y.n Y.N a=l)->(∀l,g l<=mo.length)->aM [] h k->K (.tuple #[.slice (some (aw h1.size)) Y.n Y.n,ap 0]) k:=λg k A c1 c2 c3 O=>by
   refine hK k h1.size g A ah (λl hl=>⟨λhg=> ?_,λ⟨x,hx,e⟩=> ?_⟩) (λl=>by have:=c3 l;omega) O
   ·obtain⟨a,ha,e⟩:=c2 l hg;exact⟨a,(sem a).1 ha,e⟩
   ·rw[<-e];exact c1 _ (oP ((Kp.1 x).1 ((sem x).2 hx))) x rfl
  intro d
  induction d with
  |zero=>
   intro left g k hd hs R A c1 c2 c3 O;have e:left=[]:=Nv ah;subst e;unfold F271.wL6 F271.JL6;refine ut R ah (λ_=>fin g k A (λq hq=>(c1 q hq).resolve_left ak) c2 (λl=>by have:=c3 l;simpa using this) O) λA x v B h3 e=> ?_;simp at e
  |succ d ih=>
   intro left g k hd hs R A c1 c2 c3 O;unfold F271.wL6 F271.JL6;refine ut R ah (λe=> ?_) λL1 x v L2 k2 e R2 P2 O2' z2'=> ?_
   ·subst e;exact fin g k A (λq hq=>(c1 q hq).resolve_left ak) c2 (λl=>by have:=c3 l;simpa using this) O
   ·subst e;obtain⟨a,ha,e2⟩:=Kp.2 _ (hs (x,v) ak);injection e2 with e3 e4;subst e3 e4;obtain⟨i1,i2,i3⟩:=isk a ha;have O':aM [] h k2:=O.trans O2' (by intro b hb hl;simp at hb;omega);refine yg P2 ⟨(a:Int),rfl,?_⟩;have Hk:=H.only0 O';refine cy Hk i1 (aH rfl ?_);have Ak:=A.only O2' (by simp;omega);rw[aT];have cl:=c3 (lvl Y.n Y.N a);have lenL:(L1++((a:Int),Value.agg #[])::L2).length=L1.length+L2.length+1:=by simp;omega
    refine⟨NY _,ah,?_⟩;rw[aL,MF,MO,Nz];refine aH (n:=(g (lvl Y.n Y.N a):Int)) (by rw[At.rd Ak,oF i3]) ?_;rw[aT];refine⟨NY _,ah,?_⟩;have ew:ax ((g (lvl Y.n Y.N a):Int)+1)=((g (lvl Y.n Y.N a)+1:Nat):Int):=by rw[wrap_i64 ah ah];omega
    rw[ew,aL];simp only[MF,ML];refine aU Ak (by simpa[zL]using i3) rfl λk3 A3 O3' z3'=> ?_;rw[GD]at A3
    have gu: ∀l,g l<=iX g (lvl Y.n Y.N a) (g (lvl Y.n Y.N a)+1) l/\iX g (lvl Y.n Y.N a) (g (lvl Y.n Y.N a)+1) l<=g l+1:=λl=>by
     unfold iX;split
     ·rename_i q;subst q;omega
     ·omega
    refine ih (L1++L2) _ k3 (by simp;omega) (λq hq=>hs q (by rcases Zq hq with w|w<;>simp[w])) ?_ A3 (λq hq=> ?_) (λl hg=> ?_) (λl=> ?_) (O'.trans O3' (by intro b hb hl;simp at hb;omega))
    ·exact R2.only O3' (by simp;omega) (by simp;omega)
    ·rcases c1 q hq with w|w
     ·rcases Zq w with w|w
      ·exact .inl (by simp[w])
      ·rcases List.mem_cons.1 w with w|w
       ·subst w;refine .inr λa' e=> ?_;have:a'=a:=by have e:(a:Int)=(a':Int):=e;omega
        subst this;unfold iX;rw[MK rfl];omega
       ·exact .inl (by simp[w])
     ·exact .inr λa' e=>by have:=w a' e;have:=(gu (lvl Y.n Y.N a')).1;omega
    ·by_cases q:l=lvl Y.n Y.N a
     ·exact⟨a,ha,q.symm⟩
     ·unfold iX at hg;rw[MG q]at hg;exact c2 l hg
    ·have:=(gu l).2;have:=c3 l;simp only[MZ]at*
     omega
 exact⟨_,main mo.length mo (λ_=>0) h3 (MN _) (λq hq=>hq) R3 (A2.only O3 ak) (λq hq=> .inl hq) (λl hg=>Nc hg (Nat.lt_irrefl _)) (λl=>ak) (((O1.trans O2 ak).trans O3 ak))⟩
def vE{h:aI}{s:Nat}{L:List Nat}{Y:SX}{K:KK}{a:Nat}(H:bV h s L Y)(ha:isN Y.N a)(hf: ∀l,l<Y.n->Y.f l<8)
  (hK: ∀h',aM [] h h'->K (.tuple #[.int .u8 ((qw Y.f (Ib Y.n Y.N a) Y.n:Nat):Int),ap 0]) h'):Cl 222 [au (aw s),aq (a:Int)] h K:=by
 have ok:=H.ok;have n8:=ok.2.2.1;refine F222.spec _ _ h K ?_;refine aX λh1 A1 O1 z1=> ?_;have Ow:cw h1 h.size 1 (some (aw h.size)) [a].length 1 ([a].map hv):=⟨rfl,.inr ⟨h.size,[],rfl,MN _,MN _,rfl,A1⟩⟩;refine rQ (rs:=[a]) (H.only0 O1) Ow (λr hr=>by simp only[MH]at hr;subst hr;exact ha) ak λh2 b g A2 gb sem g4 O2=>⟨_,_,_,_,rfl,?_⟩;have O02:=O1.trans O2 ak;unfold F222.wk4
 have pg: ∀l,l<Y.n->decide (0<g l)=Ib Y.n Y.N a l:=λl hl=>by unfold Ib;rw[decide_eq_decide,sem l hl];simp
 have e: ∀(d l:Nat) (k:aI),l+d=Y.n->aM [] h2 k->F222.wL4 (d+1) (aw s) 0 ((qw Y.f (Ib Y.n Y.N a) l:Nat):Int) (some (aw b)) Y.n Y.n (Y.n:Int) (l:Int) k K:=by
  intro d
  induction d with
  |zero=>
   intro l k hl O;rw[F222.sL4];rw[MJ ah,aJ];unfold F222.wk9;have:=hK k (O02.trans O ak);rw[<-show l=Y.n by omega]at this;rw[show l=Y.n by omega]at this ⊢;exact this
  |succ d ih=>
   intro l k hl O;rw[F222.sL4];rw[MP ah,aO,aT];refine⟨ah,ah,?_⟩;have Ak:=A2.only O ak;rw[aL,MF,MO,Nz];refine aH (n:=(g l:Int)) (by rw[At.rd Ak,oF ah]) ?_;have ew:ax ((l:Int)+1)=((l+1:Nat):Int):=by rw[wrap_i64 ah ah];omega
   rw[ew];have pl:=pg l ah;have sl:=xn (p:=Ib Y.n Y.N a) l λl' j=>hf l' ah;refine aS (λq=> ?_) λq=> ?_
   ·have q:=MV q;have Hk:=H.only0 (O02.trans O ak);refine dX Hk λc k2 Or g2 O2'=>aR rfl ?_;refine nO Or n8 ah (aH rfl ⟨NY _,?_⟩);have f8:=hf l ah;have i:2^Y.f l<2^8:=Pq (by decide) f8;have p8:2^Y.f l<256:=i
    have e1:IntKind.wrap .u8 ((1:Int)*2^(min (Int.toNat ((Y.f l:Nat):Int)) (IntKind.bits .u8)))=((2^Y.f l:Nat):Int):=by rw[show min (Int.toNat ((Y.f l:Nat):Int)) (IntKind.bits .u8)=Y.f l by show min (Y.f l) 8=Y.f l;omega,Int.one_mul,show((2:Int)^Y.f l)=((2^Y.f l:Nat):Int) by simp];exact t8 p8
    rw[e1,Lz sl p8];have:=ih (l+1) k2 ah (O.trans O2' ak);unfold qw at this;rw[<-pl,MP ah,MK rfl]at this;exact this
   ·have q:=MU q;have:=ih (l+1) k ah O;unfold qw at this;rw[<-pl,MJ ah,MG ak]at this;exact this
 exact⟨_,e Y.n 0 h2 ah (aM.refl _ _)⟩
def Dp{Y:SX}(H:bV h s L Y)(ha:isN Y.N a)(hf: ∀l,l<Y.n->Y.f l<8)(hK: ∀h',aM [] h h'->K (aD (yI Y.n Y.f Y.N a)) h'):Cl 179 [au (aw s),aq (a:Int)] h K:=by refine F179.spec ?_;refine vE H ha hf λh1 O1=>⟨_,_,rfl,?_⟩;rw[show((0:Int)==(0:Int))=true from rfl,aO];exact hK h1 O1
section
variable {i j k l m n o p q r s t:Int}{a b c d:Addr}{u v:Nat}{x y:az}{h:aI}{K:KK}
def F51.spec(H:Cl 107 [au a,.slice x u v] h λa b=> ∃c:Option Nat,∃d:Int,a=(.tuple #[.map c,ap d])/\dA c λa=> ∃c e,mp b a=some (c,e)/\K (.tuple #[ap (Nat.cast (Array.size c):Int),ap d]) b):Cl 51 [au a,.slice x u v] h K:=cN Tryz.func51 H
def F369.T:bi:=⟨[],[(3,[[(0,[]),(1,[]),(2,[]),(3,[]),(4,[]),(5,[]),(6,[]),(7,[]),(8,[]),(9,[]),(10,[]),(11,[]),(12,[]),(13,[]),(14,[])]])]⟩
def F369.spec{i:Int}{a:Addr}(H:aK (i<0) (K (ap 40) h) (aQ .i64 (rd h (a.add 0)) λb=>aK (i>=(ax (b-1))) (K (ap 40) h) ((0<=i/\i<8/\aQ .i64 (rd h ((a.add 1).add (i.toNat*1))) λb=>0<=(ax (i+1))/\(ax (i+1))<8/\aQ .i64 (rd h ((a.add 1).add ((ax (i+1)).toNat*1))) λc=>Cl 370 [au a,ap i,ap c] h λc d=>c=aE/\Cl 370 [au a,ap (ax (i+1)),ap b] d λa b=>a=aE/\K (ap 0) b)))):Cl 369 [au a,ap i] h K:=cT F369.T Tryz.func369 H
def F370.T:bi:=⟨[],[(0,[[(0,[]),(1,[]),(2,[]),(3,[]),(4,[]),(5,[]),(6,[]),(7,[]),(8,[]),(10,[]),(11,[]),(9,[2,3,5,10,11]),(12,[]),(13,[])]])]⟩
def F370.spec{i j:Int}{a:Addr}(H:(0<=i/\i<8/\aW h (((a.add 1).add (i.toNat*1)).add 0) (ap j) λb=>aF (au a)/\aF (ap j)/\aF (ap i)/\aF (au a)/\aF (au (a.add 9))/\0<=j/\j<8/\aW b (((a.add 9).add (j.toNat*1)).add 0) (ap i) λa=>K aE a)):Cl 370 [au a,ap i,ap j] h K:=cT F370.T Tryz.func370 H
def F359.spec(H:Cl 360 [au a,ap i] h λa b=>cx (some a) λ_ a _=>K (ap (ax ((2:Int)*(a:Int)))) b):Cl 359 [au a,ap i] h K:=cN Tryz.func359 H
def F360.T:bi:=⟨[(3,[1,5,11,12,13])],[]⟩
section
variable (n:Nat)(o:Addr)(l:Int)(j:az)(i g:Nat)(c:az)(b d:Nat)(f a:Int)(h:aI)(K:KK)
def F360.wL3:Prop:=Lp Tryz.f360 F360.T [1,1,0,1,0] n [(1,(ap l)),(5,(.slice j i g)),(11,(.slice c b d)),(12,(ap f)),(13,(ap a))] h K
def F360.sL3:F360.wL3 (n+1) l j i g c b d f a h K=(aK (a<f) (aY c λe=>0<=a/\a<(b:Int)/\bP (rd h ((e.add (a.toNat*4)).add 0)) λk=>aQ .i64 (rd h ((e.add (a.toNat*4)).add 1)) λm=>aQ .u32 (rd h ((e.add (a.toNat*4)).add 2)) λo=>aQ .u32 (rd h ((e.add (a.toNat*4)).add 3)) λe=>bf h (.cells #[aB,ap 0,aq 0,aq 0] 195) λp q=>aW q ((aw p).add 0) (aD k) λk=>aW k ((aw p).add 1) (ap m) λk=>aW k ((aw p).add 2) (aq o) λk=>aW k ((aw p).add 3) (aq e) λe=>bP (rd e ((aw p).add 0)) λk=>aK k (aQ .i64 (rd e ((aw p).add 1)) λk=>aK (k==l) (bf e (.cells #[aq (IntKind.wrap .u32 (ax (a+2)))] 46) λe k=>fC k 46 1 4 #[aq 0] j i g (some (aw e)) 1 λe g i j=>F360.wL3 n l e g i c b d f (ax (a+1)) j K) (F360.wL3 n l j i g c b d f (ax (a+1)) e K)) (F360.wL3 n l j i g c b d f (ax (a+1)) e K)) (K (.slice j i g) h)):=by kernel_rfl
def F360.wk3:Prop:=(∃e,F360.wL3 e l j i g c b d f a h K)
def F360.spec(H:cx (rd h (o.add 2)) λa b c=>F360.wk3 l none 0 0 a b c (b:Int) 0 h K):Cl 360 [au o,ap l] h K:=cT F360.T Tryz.func360 H
end
def F361.T:bi:=⟨[(3,[0,1,2,6,7,8,25,26,27]),(10,[0,1,2,6,7,8]),(12,[0,1,2,6,8,70,71,72]),(16,[0,1,2,6,8]),(17,[0,1,2,8,83,84,85]),(23,[0,2,8]),(24,[0,2,8,17]),(26,[0,2,8,17])],[]⟩
section
variable (n:Nat)(d:Addr)(g:Int)(i:Value)(l:az)(f j:Nat)(ad:az)(v ac:Nat)(c:az)(a b:Nat)(af:Int)(q:az)(o s:Nat)(ag r:Int)(aa:az)(z ai:Nat)(am ab:Int)(u:az)(t ae:Nat)(aj y:Int)(h:aI)(K:KK)
def F361.wL24:Prop:=Lp Tryz.f361 F361.T [1,1,1,1,1,1,1,0,0] n [(0,(au d)),(2,i),(8,(.slice c a b)),(17,(ap af))] h K
def F361.wL17:Prop:=Lp Tryz.f361 F361.T [1,1,1,1,1,0,1,0] n [(0,(au d)),(1,(ap g)),(2,i),(8,(.slice c a b)),(83,(.slice u t ae)),(84,(ap aj)),(85,(ap y))] h K
def F361.wL12:Prop:=Lp Tryz.f361 F361.T [1,1,1,1,0,1,0] n [(0,(au d)),(1,(ap g)),(2,i),(6,(.slice l f j)),(8,(.slice c a b)),(70,(.slice aa z ai)),(71,(ap am)),(72,(ap ab))] h K
def F361.wL3:Prop:=Lp Tryz.f361 F361.T [1,1,0,1,0] n [(0,(au d)),(1,(ap g)),(2,i),(6,(.slice l f j)),(7,(.slice ad v ac)),(8,(.slice c a b)),(25,(.slice q o s)),(26,(ap ag)),(27,(ap r))] h K
def F361.wk26:Prop:=Cl 111 [au d,ap af,.slice c a b] h λd e=>d=aE/\eD Tryz.prog X i [.slice c a b] e λa b=>a=aE/\K aE b
def F361.sL24:F361.wL24 (n+1) d i c a b af h K=(Cl 45 [au d] h λe f=>aQ .i64 (some e) λe=>aK ((ax (2*(ax ((ax (e+(ax ((2:Int)*(a:Int)))))+1))))>af) (F361.wL24 n d i c a b (ax (af*2)) f K) (F361.wk26 d i c a b af f K)):=by kernel_rfl
def F361.wk24:Prop:=(∃e,F361.wL24 e d i c a b af h K)
def F361.wk23:Prop:=a8 (rd h (d.add 4)) λe=>Cl 200 [aA e] h λe f=>aQ .i64 (some e) λe=>F361.wk24 d i c a b e f K
def F361.sL17:F361.wL17 (n+1) d g i c a b u t ae aj y h K=(aK (y<aj) (aY u λe=>0<=y/\y<(t:Int)/\aQ .u32 (rd h (e.add (y.toNat*1))) λe=>Cl 117 [au d,aq e] h λe f=>a8 (some e) λe=>aY e λj=>aQ .i64 (rd f (j.add 1)) λj=>aK (j==(ax (g+2))) (aY e λe=>aW f ((e.add 1).add 0) (ap (ax (g+1))) λe=>F361.wL17 n d g i c a b u t ae aj (ax (y+1)) e K) (F361.wL17 n d g i c a b u t ae aj (ax (y+1)) f K)) (F361.wk23 d i c a b h K)):=by kernel_rfl
def F361.wk17:Prop:=(∃e,F361.wL17 e d g i c a b u t ae aj y h K)
def F361.wk16:Prop:=F361.wk17 d g i c a b l f j (f:Int) 0 h K
def F361.sL12:F361.wL12 (n+1) d g i l f j c a b aa z ai am ab h K=(aK (ab<am) (aY aa λe=>0<=ab/\ab<(z:Int)/\aQ .u32 (rd h (e.add (ab.toNat*1))) λe=>Cl 117 [au d,aq e] h λe k=>a8 (some e) λe=>aY e λe=>aW k ((e.add 1).add 0) (ap g) λe=>F361.wL12 n d g i l f j c a b aa z ai am (ax (ab+1)) e K) (F361.wk16 d g i l f j c a b h K)):=by kernel_rfl
def F361.wk12:Prop:=(∃e,F361.wL12 e d g i l f j c a b aa z ai am ab h K)
def F361.wk10:Prop:=a8 (rd h (d.add 1)) λe=>Cl 369 [aA e,ap g] h λe k=>aQ .i64 (some e) λ_=>F361.wk12 d g i l f j c a b ad v ac (v:Int) 0 k K
def F361.sL3:F361.wL3 (n+1) d g i l f j ad v ac c a b q o s ag r h K=(aK (r<ag) (aY q λe=>0<=r/\r<(o:Int)/\aQ .u32 (rd h (e.add (r.toNat*1))) λe=>Cl 117 [au d,aq e] h λk m=>a8 (some k) λk=>aY k λp=>aQ .u32 (rd m (p.add 2)) λp=>Cl 71 [au d,aq p] m λm p=>aQ .i64 (some m) λm=>aK (m==(ax (g+1))) (bf p (.cells #[aq e] 46) λe k=>fC k 46 1 4 #[aq 0] c a b (some (aw e)) 1 λa b c e=>F361.wL3 n d g i l f j ad v ac a b c q o s ag (ax (r+1)) e K) (aY k λm=>aQ .u32 (rd p (m.add 3)) λm=>Cl 71 [au d,aq m] p λm p=>aQ .i64 (some m) λm=>aK (m==(ax (g+1))) (bf p (.cells #[aq e] 46) λe k=>fC k 46 1 4 #[aq 0] c a b (some (aw e)) 1 λa b c e=>F361.wL3 n d g i l f j ad v ac a b c q o s ag (ax (r+1)) e K) (aY k λe=>aW p ((e.add 1).add 0) (ap (ax (g+2))) λe=>F361.wL3 n d g i l f j ad v ac c a b q o s ag (ax (r+1)) e K))) (F361.wk10 d g i l f j ad v ac c a b h K)):=by kernel_rfl
def F361.wk3:Prop:=(∃e,F361.wL3 e d g i l f j ad v ac c a b q o s ag r h K)
def F361.spec(H:Cl 360 [au d,ap g] h λa b=>cx (some a) λa c e=>Cl 360 [au d,ap (ax (g+1))] b λb f=>cx (some b) λb j k=>F361.wk3 d g i a c e b j k none 0 0 a c e (c:Int) 0 f K):Cl 361 [au d,ap g,i] h K:=cT F361.T Tryz.func361 H
end
def F342.T:bi:=⟨[(5,[2,3]),(7,[2,3,5,32,33,34]),(11,[2,3,5])],[(1,[[(0,[]),(1,[]),(2,[]),(3,[]),(4,[]),(5,[3]),(6,[]),(7,[]),(8,[]),(9,[])]]),(3,[[(0,[]),(1,[]),(3,[]),(5,[]),(2,[3,5]),(4,[5]),(6,[]),(7,[]),(8,[]),(9,[])]])]⟩
section
variable (n:Nat)(l:Addr)(o:Int)(g i j:Addr)(b:az)(a d:Nat)(f c:Int)(h:aI)(K:KK)
def F342.wL7:Prop:=Lp Tryz.f342 F342.T [1,1,1,0,1,0] n [(2,(au g)),(3,(au i)),(5,(au j)),(32,(.slice b a d)),(33,(ap f)),(34,(ap c))] h K
def F342.wk11:Prop:=a8 (rd h g) λa=>aQ .i64 (rd h i) λb=>Cl 361 [aA a,ap b,.func (.func 362) #[] #[au g,au j,au i]] h λa b=>a=aE/\K (ap 0) b
def F342.sL7:F342.wL7 (n+1) g i j b a d f c h K=(aK (c<f) (aY b λe=>0<=c/\c<(a:Int)/\aQ .u32 (rd h (e.add (c.toNat*1))) λe=>bR (rd h j) λk=>lg h k .u32 .u32 e (.agg #[]) λe=>F342.wL7 n g i j b a d f (ax (c+1)) e K) (F342.wk11 g i j h K)):=by kernel_rfl
def F342.wk7:Prop:=(∃e,F342.wL7 e g i j b a d f c h K)
def F342.wk5:Prop:=bf h (.map #[] 0) λa b=>bf b (.cells #[.map none] 191) λb c=>aW c ((aw b).add 0) (.map (some a)) λa=>a8 (rd a g) λc=>aQ .i64 (rd a i) λd=>Cl 360 [aA c,ap (ax (d+1))] a λa c=>cx (some a) λa d e=>F342.wk7 g i (aw b) a d e (d:Int) 0 c K
def F342.spec(H:bf h (.cells #[au l] 33) λa b=>bf b (.cells #[ap o] 3) λb c=>aQ .i64 (rd c (aw b)) λd=>aK (d<0) ((aE=undef/\K (ap 40) c)) (aQ .i64 (rd c (aw b)) λd=>a8 (rd c (aw a)) λe=>Cl 75 [aA e] c λc e=>aQ .i64 (some c) λc=>aQ .i64 (rd e (aw b)) λf=>aG (ap f) (ap d)/\aK (d>=(ax (c-1))) (K (ap 40) e) (a8 (rd e (aw a)) λc=>aQ .i64 (rd e (aw b)) λd=>a8 (rd e (aw a)) λf=>a8 (rd e (aw a)) λg=>Cl 359 [aA c,ap d] e λc d=>aQ .i64 (some c) λc=>a8 (rd d (aw a)) λe=>aG (aA e) (aA f)/\a8 (rd d (aw a)) λe=>aG (aA e) (aA g)/\Cl 70 [aA f] d λd e=>aQ .i64 (some d) λd=>a8 (rd e (aw a)) λf=>aG (aA f) (aA g)/\Cl 45 [aA g] e λe f=>aQ .i64 (some e) λe=>aK (c>(ax (d-e))) (K (ap 60) f) (F342.wk5 (aw a) (aw b) f K)))):Cl 342 [au l,ap o] h K:=cT F342.T Tryz.func342 H
end
def F254.T:bi:=⟨[(3,[3,7,8,9]),(8,[3])],[]⟩
section
variable (n:Nat)(l:az)(g j:Nat)(f:Option Nat)(b:az)(a c:Nat)(i d:Int)(h:aI)(K:KK)
def F254.wL3:Prop:=Lp Tryz.f254 F254.T [1,1,0,1,0] n [(3,(.map f)),(7,(.slice b a c)),(8,(ap i)),(9,(ap d))] h K
def F254.wk8:Prop:=dA f λa=> ∃b c,mp h a=some (b,c)/\K (ap (ax (200*(if 1>(Nat.cast (Array.size b):Int)then 1 else(Nat.cast (Array.size b):Int))))) h
def F254.sL3:F254.wL3 (n+1) f b a c i d h K=(aK (d<i) (aY b λe=>0<=d/\d<(a:Int)/\aQ .u32 (rd h (e.add (d.toNat*1))) λe=>aK (e>1) (lg h f .u32 .u32 e (.agg #[]) λe=>F254.wL3 n f b a c i (ax (d+1)) e K) (F254.wL3 n f b a c i (ax (d+1)) h K)) (F254.wk8 f h K)):=by kernel_rfl
def F254.wk3:Prop:=(∃e,F254.wL3 e f b a c i d h K)
def F254.spec(H:bf h (.map #[] 0) λa b=>F254.wk3 (some a) l g j (g:Int) 0 b K):Cl 254 [.slice l g j] h K:=cT F254.T Tryz.func254 H
end
def F255.spec(H:bf h (.cells #[aA x,.slice y u v] 330) λa b=>a8 (rd b ((aw a).add 0)) λc=>cx (rd b ((aw a).add 1)) λa d e=>Cl 51 [aA c,.slice a d e] b λa b=> ∃c:Int,∃d:Int,a=(.tuple #[ap c,ap d])/\K (ap c) b):Cl 255 [.agg #[aA x,.slice y u v]] h K:=cN Tryz.func255 H
def F212.T:bi:=⟨[(11,[4,6,9,11,42,43,44]),(17,[4,6,9])],[]⟩
section
variable (n:Nat)(s:Addr)(j:az)(i g:Nat)(q r:Int)(o:Addr)(f:Value)(b:az)(a d:Nat)(l c:Int)(h:aI)(K:KK)
def F212.wL11:Prop:=Lp Tryz.f212 F212.T [1,1,1,1,1,1,1,0,1,0] n [(4,(ap q)),(6,(ap r)),(9,(au o)),(11,f),(42,(.slice b a d)),(43,(ap l)),(44,(ap c))] h K
def F212.wk17:Prop:=a8 (rd h (o.add 0)) λa=>cx (rd h (o.add 1)) λb c d=>Cl 255 [.agg #[aA a,.slice b c d]] h λa b=>aQ .i64 (some a) λa=>K (.tuple #[ap q,ap a,ap r]) b
def F212.sL11:F212.wL11 (n+1) q r o f b a d l c h K=(aK (c<l) (aY b λe=>0<=c/\c<(a:Int)/\aQ .i64 (rd h (e.add (c.toNat*1))) λe=>eD Tryz.prog X f [ap e] h λe g=>aQ .i64 (some e) λe=>aK (e !=0) (K (.tuple #[ap 0,ap 0,ap e]) g) (F212.wL11 n q r o f b a d l (ax (c+1)) g K)) (F212.wk17 q r o h K)):=by kernel_rfl
def F212.wk11:Prop:=(∃e,F212.wL11 e q r o f b a d l c h K)
def F212.spec(H:Cl 218 [au s,.slice j i g] h λa b=> ∃c:Int,∃d:Int,a=(.tuple #[ap c,ap d])/\aK (d !=0) (K (.tuple #[ap 0,ap 0,ap d]) b) (Cl 254 [.slice j i g] b λa b=>aQ .i64 (some a) λa=>Cl 70 [au s] b λb c=>aQ .i64 (some b) λb=>aK (a>b) (K (.tuple #[ap 0,ap 0,ap 60]) c) (bf c (.cells #[aA none,.slice none 0 0] 330) λa b=>aW b ((aw a).add 0) (au s) λb=>aW b ((aw a).add 1) (.slice j i g) λb=>a8 (rd b ((aw a).add 0)) λc=>cx (rd b ((aw a).add 1)) λd e f=>Cl 255 [.agg #[aA c,.slice d e f]] b λb c=>aQ .i64 (some b) λb=>Cl 256 [au s,.slice j i g] c λc d=> ∃e:az,∃f:Nat,∃g:Nat,∃i:Int,c=(.tuple #[.slice e f g,ap i])/\a8 (rd d ((aw a).add 0)) λc=>cx (rd d ((aw a).add 1)) λj k l=>F212.wk11 b i (aw a) (.func (.func 257) #[.agg #[aA c,.slice j k l]] #[]) e f g (f:Int) 0 d K))):Cl 212 [au s,.slice j i g] h K:=cT F212.T Tryz.func212 H
end
def F256.T:bi:=⟨[(7,[8,9,28,29,30]),(11,[8]),(14,[12,13,14,15])],[]⟩
section
variable (n:Nat)(y:Addr)(u:az)(t s:Nat)(r v d:az)(c b:Nat)(l:Value)(j:Addr)(q:Bool)(g:az)(f i:Nat)(o a:Int)(h:aI)(K:KK)
def F256.wL14:Prop:=Lp Tryz.f256 F256.T [1,1,1,1,1,1,1,1,0,1,0] n [(12,(.slice d c b)),(13,l),(14,(au j)),(15,(aD q))] h K
def F256.wL7:Prop:=Lp Tryz.f256 F256.T [1,1,1,1,1,0,1,0] n [(8,(aA r)),(9,(aA v)),(28,(.slice g f i)),(29,(ap o)),(30,(ap a))] h K
def F256.sL14:F256.wL14 (n+1) d c b l j q h K=(aK q (aQ .i64 (rd h (j.add 0)) λa=>bf h (.cells #[ap a] 3) λa e=>fC e 3 1 8 #[ap 0] d c b (some (aw a)) 1 λa b c d=>aQ .i64 (rd d (j.add 0)) λe=>aQ .i64 (rd d (j.add 1)) λf=>bf d (.cells #[ap 0,ap 0] 357) λd g=>aW g ((aw d).add 0) (ap e) λe=>aW e ((aw d).add 1) (ap f) λe=>eD Tryz.prog X l [] e λe f=> ∃g:Int,∃i:Int,∃j:Bool,e=(.tuple #[.agg #[ap g,ap i],aD j])/\aW f ((aw d).add 0) (ap g) λe=>aW e ((aw d).add 1) (ap i) λe=>F256.wL14 n a b c l (aw d) j e K) (K (.tuple #[.slice d c b,ap 0]) h)):=by kernel_rfl
def F256.wk14:Prop:=(∃a,F256.wL14 a d c b l j q h K)
def F256.wk11:Prop:=Cl 290 [aA r] h λa b=> ∃c:Int,∃d:Int,∃e:Bool,a=(.tuple #[.agg #[ap c,ap d],aD e])/\bf b (.cells #[ap 0,ap 0] 357) λa b=>aW b ((aw a).add 0) (ap c) λb=>aW b ((aw a).add 1) (ap d) λb=>F256.wk14 none 0 0 (.func (.func 290) #[aA r] #[]) (aw a) e b K
def F256.sL7:F256.wL7 (n+1) r v g f i o a h K=(aK (a<o) (aY g λb=>0<=a/\a<(f:Int)/\aQ .i64 (rd h (b.add (a.toNat*1))) λb=>Cl 272 [aA v,ap a] h λc d=>aQ .i64 (some c) λc=>Cl 289 [aA r,ap c,ap b] d λb c=>bP (some b) λ_=>F256.wL7 n r v g f i o (ax (a+1)) c K) (F256.wk11 r h K)):=by kernel_rfl
def F256.wk7:Prop:=(∃b,F256.wL7 b r v g f i o a h K)
def F256.spec(H:Cl 271 [au y,.slice u t s] h λa b=> ∃c:az,∃d:Nat,∃e:Nat,∃f:Int,a=(.tuple #[.slice c d e,ap f])/\aK (f !=0) (K (.tuple #[.slice none 0 0,ap f]) b) (Cl 288 [] b λa b=>a8 (some a) λa=>Cl 47 [au y] b λb f=>a8 (some b) λb=>F256.wk7 a b c d e (d:Int) 0 f K)):Cl 256 [au y,.slice u t s] h K:=cT F256.T Tryz.func256 H
end
def F257.T:bi:=⟨[(3,[1,2,5,6,12,13]),(12,[1,2,5])],[]⟩
section
variable (n:Nat)(j g:az)(f d:Nat)(i:Int)(c:Addr)(l o b a:Int)(h:aI)(K:KK)
def F257.wL3:Prop:=Lp Tryz.f257 F257.T [1,1,0,1,0] n [(1,(ap i)),(2,(au c)),(5,(ap l)),(6,(ap o)),(12,(ap b)),(13,(ap a))] h K
def F257.wk12:Prop:=a8 (rd h (c.add 0)) λa=>cx (rd h (c.add 1)) λb c d=>Cl 291 [.agg #[aA a,.slice b c d],ap i,ap l] h λa b=>aQ .i64 (some a) λa=>K (ap a) b
def F257.sL3:F257.wL3 (n+1) i c l o b a h K=(aK (a<b) (a8 (rd h (c.add 0)) λd=>cx (rd h (c.add 1)) λe f g=>Cl 291 [.agg #[aA d,.slice e f g],ap i,ap a] h λd e=>aQ .i64 (some d) λd=>aK (d !=0) (K (ap d) e) (a8 (rd e (c.add 0)) λd=>cx (rd e (c.add 1)) λf g j=>Cl 255 [.agg #[aA d,.slice f g j]] e λd e=>aQ .i64 (some d) λd=>aK (o<0) (F257.wL3 n i c a d b (ax (a+1)) e K) (aK (d<o) (F257.wL3 n i c a d b (ax (a+1)) e K) (F257.wL3 n i c l o b (ax (a+1)) e K)))) (F257.wk12 i c l h K)):=by kernel_rfl
def F257.wk3:Prop:=(∃d,F257.wL3 d i c l o b a h K)
def F257.spec(H:bf h (.cells #[aA j,.slice g f d] 330) λa b=>a8 (rd b ((aw a).add 0)) λc=>Cl 75 [aA c] b λb c=>aQ .i64 (some b) λb=>F257.wk3 i (aw a) 0 (-1) b 0 c K):Cl 257 [.agg #[aA j,.slice g f d],ap i] h K:=cT F257.T Tryz.func257 H
end
def F291.T:bi:=⟨[(1,[1,2,3])],[]⟩
section
variable (n:Nat)(f c:az)(b a:Nat)(g d:Int)(i:Addr)(h:aI)(K:KK)
def F291.wL1:Prop:=Lp Tryz.f291 F291.T [1,0] n [(1,(ap g)),(2,(ap d)),(3,(au i))] h K
def F291.sL1:F291.wL1 (n+1) g d i h K=(a8 (rd h (i.add 0)) λa=>Cl 47 [aA a] h λa b=>a8 (some a) λa=>Cl 186 [aA a,ap g] b λa b=>aQ .i64 (some a) λa=>aK (a==d) (K (ap 0) b) (a8 (rd b (i.add 0)) λc=>cx (rd b (i.add 1)) λe f j=>Cl 312 [.agg #[aA c,.slice e f j],ap (if(if d>(ax (a-1))then d else(ax (a-1)))<a then(if d>(ax (a-1))then d else(ax (a-1)))else a)] b λa b=>aQ .i64 (some a) λa=>aK (a !=0) (K (ap a) b) (F291.wL1 n g d i b K))):=by kernel_rfl
def F291.wk1:Prop:=(∃a,F291.wL1 a g d i h K)
def F291.spec(H:bf h (.cells #[aA f,.slice c b a] 330) λa b=>F291.wk1 g d (aw a) b K):Cl 291 [.agg #[aA f,.slice c b a],ap g,ap d] h K:=cT F291.T Tryz.func291 H
end
def F312.spec(H:bf h (.cells #[aA x,.slice y u v] 330) λa b=>a8 (rd b ((aw a).add 0)) λc=>Cl 342 [aA c,ap i] b λb c=>aQ .i64 (some b) λb=>aK (b !=0) (K (ap b) c) (a8 (rd c ((aw a).add 0)) λb=>cx (rd c ((aw a).add 1)) λa d e=>Cl 218 [aA b,.slice a d e] c λa b=> ∃c:Int,∃d:Int,a=(.tuple #[ap c,ap d])/\K (ap d) b)):Cl 312 [.agg #[aA x,.slice y u v],ap i] h K:=cN Tryz.func312 H
end
def F363.spec(H:Cl 117 [au a,aq i] h λb c=>a8 (some b) λb=>aY b λd=>aW c ((d.add 1).add 0) (ap j) λc=>aY b λd=>aW c ((d.add 2).add 0) (aq k) λc=>aY b λd=>aW c ((d.add 3).add 0) (aq l) λc=>aY b λb=>bP (rd c (b.add 0)) λd=>aQ .i64 (rd c (b.add 1)) λe=>aQ .u32 (rd c (b.add 2)) λf=>aQ .u32 (rd c (b.add 3)) λb=>Cl 160 [au a,aq i,.agg #[aD d,ap e,aq f,aq b]] c λa b=>a=aE/\K aE b):Cl 363 [au a,aq i,ap j,aq k,aq l] h K:=cN Tryz.func363 H
def F364.spec(b:Addr)(a:Int)(c:Option Nat)(h:aI)(K:KK)(H:bf h (.cells #[aq 0,aq 0] 352) λd e=>dQ e c .u32 .u32 a λc=>lV (some (kS (.agg #[]) c)) λf=>bf e (.cells #[] 218) λe g=>dp Tryz.prog 218 (some (aw e)) f g λe=>aK (!(Option.isSome c)) (aW e ((aw d).add 0) (aq a) λb=>aW b ((aw d).add 1) (aq a) λa=>aQ .u32 (rd a ((aw d).add 0)) λb=>aQ .u32 (rd a ((aw d).add 1)) λc=>K (.agg #[aq b,aq c]) a) (Cl 72 [au b,aq a] e λc e=>aQ .u32 (some c) λc=>Cl 73 [au b,aq a] e λa b=>aQ .u32 (some a) λa=>aW b ((aw d).add 0) (aq c) λb=>aW b ((aw d).add 1) (aq a) λa=>aQ .u32 (rd a ((aw d).add 0)) λb=>aQ .u32 (rd a ((aw d).add 1)) λc=>K (.agg #[aq b,aq c]) a)):Cl 364 [au b,aq a,.map c] h K:=cN Tryz.func364 H
def F365.T:bi:=⟨[],[(1,[[(0,[]),(1,[]),(2,[]),(3,[]),(4,[]),(5,[]),(6,[]),(7,[]),(8,[]),(9,[]),(10,[]),(11,[]),(12,[]),(13,[]),(14,[])]])]⟩
def F365.spec{n:Int}(H:bf h (.cells #[aq j,aq k] 352) λb c=>bf c (.cells #[aq l,aq m] 352) λc d=>0<=n/\n<2/\aQ .u32 (rd d ((aw b).add (n.toNat*1))) λb=>0<=n/\n<2/\aQ .u32 (rd d ((aw c).add (n.toNat*1))) λc=>Cl 161 [au a,ap (ax (i+1)),aq b,aq c] d λa b=> ∃c:Int,∃d:Int,a=(.tuple #[aq c,ap d])/\K (aq c) b):Cl 365 [au a,ap i,.agg #[aq j,aq k],.agg #[aq l,aq m],ap n] h K:=cT F365.T Tryz.func365 H
def oO(N:ay)(l i:Nat):Bool:=match nd N i with|some x=>decide (x.1=l)|none=>false
def px:oO N l i=true↔ ∃x,nd N i=some x/\x.1=l:=by
 unfold oO;cases nd N i with
 |none=>simp
 |some x=>simp
def qn(N:ay)(l k:Nat):List Nat:=((List.range k).filter (oO N l)).map (· +2)
def cQ(N:ay)(l:Nat):List Nat:=qn N l N.length
def Ae:qn N l (k+1)=qn N l k++if oO N l k=true then [k+2]else []:=by
 unfold qn;rw[OD,NX,No]
 congr 1
 cases h:oO N l k<;>simp[h]
def iP:(qn N l k).length<=k:=by unfold qn;rw[Oc];have:=Og (oO N l) (List.range k);simpa using this
def iU:a∈cQ N l↔2<=a/\ ∃x,nd N (a-2)=some x/\x.1=l:=by
 unfold cQ qn;simp only[MY,List.mem_filter,NA,px];constructor
 ·rintro ⟨i,⟨h1,h2⟩,e⟩;subst e;exact⟨ah,by simpa using h2⟩
 ·rintro ⟨h0,x,h1,h2⟩;exact⟨a-2,⟨jf h1,x,h1,h2⟩,ah⟩
def eX:(cQ N l).Nodup:=by unfold cQ qn;refine List.Pairwise.map _ (λa b (h:a≠b)=> ?_) ((List.nodup_range (n:=N.length)).filter _);show a+2≠b+2;omega
def xg{h:aI}(H:gZ h s n room B f g N F Q off)(hK: ∀h' p c,cw h' h.size 1 p (cQ N l).length c ((cQ N l).map hv)->aM [] h h'->K (.slice p (cQ N l).length c) h'):Cl 360 [bg s,ap (l:Int)] h K:=by
 have j:=H.len;refine F360.spec _ _ h K ?_;simp only[aL,MF];refine bB (p:=B.p) (l:=N.length) (c:=B.c) (by rw[At.rd H.S];rfl) ?_;unfold F360.wk3
 have a: ∀(d i:Nat) (h':aI) (p:az) (c:Nat),i+d=N.length->cw h' h.size 1 p (qn N l i).length c ((qn N l i).map hv)->aM [] h h'->
   F360.wL3 (d+1) (l:Int) p (qn N l i).length c B.p N.length B.c (N.length:Int) (i:Int) h' K:=by
  intro d
  induction d with
  |zero=>
   intro i h' p c hi Ow O;rw[F360.sL3];rw[MJ ah,aJ];obtain rfl:i=N.length:=ah;exact hK h' p c Ow O
  |succ d ih=>
   intro i h' p c hi Ow O;obtain⟨o,ho⟩: ∃o,N[i]? =some o:=⟨_,MT ah⟩;have m1:=H.only O ak;obtain⟨b,eb,rr⟩:=m1.cells ho;have en:nd N i=o:=by unfold nd;rw[ho];rfl
   rw[F360.sL3];rw[MP ah,aO,eb,aT];refine⟨ah,ah,?_⟩;rw[<-eb];simp only[aL,MF]
   have hw:IntKind.wrap .u32 (ax ((i:Int)+2))=((i+2:Nat):Int):=by rw[wrap_i64 ah ah,show(i:Int)+2=((i+2:Nat):Int) by omega];exact gC ah
   rw[show Int.toNat (i:Int)*4=i*4 by omega,hw,show ax ((i:Int)+1)=((i+1:Nat):Int) by rw[wrap_i64 ah ah];omega];have m:(qn N l i).length<=40000:=by have:=iP (N:=N) (l:=l) (k:=i);omega
   have ls:=Ae (N:=N) (l:=l) (k:=i);have z0:=O.size;cases o with
   |none=>
    have ea:oO N l i=false:=by unfold oO;rw[en]
    refine aZ (n:=false) (by rw[<-ML (i*4),rr 0 ah];rfl) (aH (n:=0) (by rw[rr 1 ah];rfl) (aH (n:=0) (by rw[rr 2 ah];rfl) (aH (n:=0) (by rw[rr 3 ah];rfl) ?_)));refine aX λk1 B1 P1 y1=> ?_;refine aU B1 ak rfl λk2 B2 P2 y2=>aU B2 ak rfl λk3 B3 P3 y3=>aU B3 ak rfl λk4 B4 P4 y4=>aU B4 ak rfl λk5 B5 P5 y5=> ?_;have P15:aM [] h' k5:=(((P1.trans P2 (by intro b hb hl;simp at hb;omega)).trans P3 (by intro b hb hl;simp at hb;omega)).trans P4 (by intro b hb hl;simp at hb;omega)).trans P5 (by intro b hb hl;simp at hb;omega);refine aZ (n:=false) (by rw[At.rd B5];rfl) ?_;rw[aJ];have ls:qn N l (i+1)=qn N l i:=by rw[ls,ea];simp
    have Ow5:=Ow.only P15 ak;rw[<-ls]at Ow5 ⊢;exact ih (i+1) k5 p c ah Ow5 (O.trans P15 ak)
   |some x=>
    refine aZ (n:=true) (by rw[<-ML (i*4),rr 0 ah];rfl) (aH (n:=(x.1:Int)) (by rw[rr 1 ah];rfl) (aH (n:=(x.2.1:Int)) (by rw[rr 2 ah];rfl) (aH (n:=(x.2.2:Int)) (by rw[rr 3 ah];rfl) ?_)));refine aX λk1 B1 P1 y1=> ?_;refine aU B1 ak rfl λk2 B2 P2 y2=>aU B2 ak rfl λk3 B3 P3 y3=>aU B3 ak rfl λk4 B4 P4 y4=>aU B4 ak rfl λk5 B5 P5 y5=> ?_;have P15:aM [] h' k5:=(((P1.trans P2 (by intro b hb hl;simp at hb;omega)).trans P3 (by intro b hb hl;simp at hb;omega)).trans P4 (by intro b hb hl;simp at hb;omega)).trans P5 (by intro b hb hl;simp at hb;omega);refine aZ (n:=true) (by rw[At.rd B5];rfl) ?_;rw[aO];refine aH (n:=(x.1:Int)) (by rw[At.rd B5];rfl) ?_;have Ow5:=Ow.only P15 ak;by_cases e:x.1=l
    ·have ea:oO N l i=true:=px.2 ⟨x,en,e⟩;rw[show(((x.1:Nat):Int)==(l:Int))=true by rw[ON];omega,aO];have ls:qn N l (i+1)=qn N l i++[i+2]:=by rw[ls,ea];simp
     refine aX λk6 B6 P6 y6=> ?_;refine fO (new:=[hv (i+2)]) (Ow5.only P6 ak) B6 rfl rfl ah (by simp[Value.oneCell']) ah λp' c' k7 W7 P7 t=> ?_;have e1:(qn N l i).length+1=(qn N l (i+1)).length:=by rw[ls];simp
     have e2:(qn N l i).map hv++[hv (i+2)]=(qn N l (i+1)).map hv:=by rw[ls];simp
     rw[e1,e2]at W7;rw[e1];exact ih (i+1) k7 p' c' ah W7 (((O.trans P15 ak).trans P6 ak).trans P7 λb hb hl=>by have:=Ow.lt b hb;omega)
    ·have ea:oO N l i=false:=by
      cases q:oO N l i with
      |false=>rfl
      |true=>
       obtain⟨y,hy,e2⟩:=px.1 q;rw[en]at hy;injection hy with hy;subst hy;exact Nc e2 e
     rw[show(((x.1:Nat):Int)==(l:Int))=false by rw[Pz];omega,aJ];have ls:qn N l (i+1)=qn N l i:=by rw[ls,ea];simp
     rw[<-ls]at Ow5 ⊢;exact ih (i+1) k5 p c ah Ow5 (O.trans P15 ak)
 exact⟨_,a N.length 0 h none 0 ah (cw.nil _ _ _) (aM.refl _ _)⟩
def bS.size{m:List (Int×Value)}(H:bS h b k m): ∃es cl,mp h b=some (es,cl)/\es.size=m.length:=by obtain⟨es,cl,h1,h2,-⟩:=H;refine⟨es,cl,h1,?_⟩;have:=congrArg List.length h2;simpa using this
def bM.add_job{h h':aI}{p s:Nat}{P:PS}(H:bM h p s P)(O:aM [P.jb] h h'){id:Nat}{A:MA}(M':bS h' P.jb .i64 ((P.jobs++[(⟨id,A⟩:Jb)]).map λj=>((j.id:Int),bg j.A.m)))(MA':bF h s A)(hf: ∀b∈A.bl,¬dI p P b)(h1:1<=id)(h2:id<=P.last)(h3: ∀j∈P.jobs,j.id≠id):
  bM h' p s {P with jobs:=P.jobs++[⟨id,A⟩]}:=by
 obtain⟨τ,t⟩:=H.sep;have nj: ∀b∈[P.jb],τ b=0:=λb hb=>by simp only[MH]at hb;subst hb;exact t.jb
 refine⟨H.own.only O λhm=> ?_,H.wks.only O λb eb hm=> ?_,λk hk=>(H.wk k hk).only O λb hb hm=> ?_,M',λy hy=> ?_,⟨λb=>if b∈A.bl then 2*id+2 else τ b,?_,?_,λb hb=> ?_,λx k hk b hb=> ?_,λy hy b hb=> ?_⟩,H.ne,?_,λy hy=> ?_⟩
 ·simp only[MH]at hm;exact H.ne.1 hm
 ·simp only[MH]at hm;subst hm;exact H.ne.2.2 (by rw[eb];simp[aV])
 ·obtain⟨w,hw⟩:=Ni.1 hk;have:=t.ws w k hw b hm;have:=nj b hb;omega
 ·rcases Zq hy with hy|hy
  ·refine(H.ma y hy).only O λb hb hm=> ?_;have:=t.jobs y hy b hm;have:=nj b hb;omega
  ·simp only[MH]at hy;subst hy;exact MA'.only O λb hb hm=>hf b hm (by simp only[MH]at hb;exact .inr (.inl hb))
 ·show(if p∈A.bl then _ else τ p)=0;rw[MG λhm=>hf p hm (.inl rfl)];exact t.p
 ·show(if P.jb∈A.bl then _ else τ P.jb)=0;rw[MG λhm=>hf _ hm (.inr (.inl rfl))];exact t.jb
 ·show(if b∈A.bl then _ else τ b)=0;rw[MG λhm=>hf _ hm (.inr (.inr (.inl hb)))];exact t.wp b hb
 ·show(if b∈A.bl then _ else τ b)=_;rw[MG λhm=>hf _ hm (.inr (.inr (.inr (.inl ⟨k,MM hk,hb⟩))))];exact t.ws x k hk b hb
 ·show(if b∈A.bl then _ else τ b)=_;rcases Zq hy with hy|hy
  ·rw[MG λhm=>hf _ hm (.inr (.inr (.inr (.inr ⟨y,hy,hb⟩))))];exact t.jobs y hy b hb
  ·simp only[MH]at hy;subst hy;rw[MK hb]
 ·show((P.jobs++[(⟨id,A⟩:Jb)]).map (·.id)).Nodup;rw[No,Nq];refine⟨H.ids.1,ak,λx hx y hy e=> ?_⟩;simp only[Nk,OQ,MH]at hy;obtain⟨j,hj,rfl⟩:=MY.1 hx;exact h3 j hj (e.trans hy)
 ·rcases Zq hy with hy|hy
  ·exact H.ids.2 y hy
  ·simp only[MH]at hy;subst hy;exact⟨h1,h2⟩
def yy(he:er≠0)(d: ∀{h1:aI} {Q:KK},aM [] h h1->(∀h2,aM [] h1 h2->Q (ap er) h2)->Cl 133 [bg s,wu x a b c mask] h1 Q)
  (hK: ∀h',aM [] h h'->K (.tuple #[.pointer none,ap er]) h'):Cl 91 [bg s,wu x a b c mask] h K:=by
 refine F91.spec _ _ _ _ _ _ h K ?_;refine aX λh1 A1 O1 z1=> ?_;simp only[aL,MF];have r: ∀k,rd h1 ⟨h.size,k,none⟩=([ap x,aq (a:Int),aq (b:Int),aq (c:Int),.int .u8 mask]:List Value)[k]? :=λk=>At.rd A1 k;refine aH (by rw[r];rfl) (aH (by rw[r];rfl) (aH (by rw[r];rfl) (aH (by rw[r];rfl) (aH (by rw[r];rfl) ?_))));refine d O1 λh2 O2=>aH rfl ?_;rw[show(er !=(0:Int))=true by simp[he],aO];exact hK h2 (O1.trans O2 ak)
def Lv: ∀n,n<=8->bJ n<=1021/\qS n n<=262000/\cS n n<=524000/\tS n n<=262000/\bN n<=255/\qB n n<=65280/\cB n n<=130560:=by decide
def Co{a b c op mask n:Nat}{fo:Nat->Nat}{N:ay}{f:Fk}{ft:Bool}(n8:n<=8)(u:mask<256)(t:op=1\/op=2\/op=3\/op=4\/op=5\/op=6\/op=7\/op=8\/op=9\/op=10)(ha:isN N a)(hb:cg (op:Int)≠1->isN N b)(hc:cg (op:Int)=3->isN N c)(hz:nE n op mask ft=0)
  (j:f.fn=LZ op) (l:f.low=0) (k:f.op=(ki op a b c).op) (em:f.mask=mask) (g:f.a0=(ki op a b c).a0) (i:f.a1=(ki op a b c).a1) (d:f.a2=(ki op a b c).a2):di n fo N f/\fB f/\dZ n N f<=800000/\dV n N f<=131000:=by
 obtain⟨c1,c2,c3,c4,c5,c6,c7⟩:=Lv n n8;have z0:isN N 0:= .inl ah;have z1:isN N 1:= .inl ah;have jn:isN N f.a0->isN N f.a1->isN N f.a2->FN N f:=λx y z=>⟨x,y,z,by rw[l];exact z0⟩;have join:f.fn=180->fW f.op->FN N f->di n fo N f/\fB f/\dZ n N f<=800000/\dV n N f<=131000:=λe o F=>⟨⟨F,.inl ⟨o,.inl e,λz=>ah⟩⟩,.inl e,by have:=(kD (n:=n) (N:=N) e).1;omega,by have:=(kD (n:=n) (N:=N) e).2;omega⟩;have mo:=eN (n:=n) (show n-lvl n N f.a0<=n by omega);rcases t with e|e|e|e|e|e|e|e|e|e<;>subst e
 ·exact join j (by rw[k];exact .inr (.inr (.inl rfl))) (jn (by rw[g];exact z1) (by rw[i];exact ha) (by rw[d];exact z0))
 ·exact join j (by rw[k];exact .inl rfl) (jn (by rw[g];exact ha) (by rw[i];exact hb (by decide)) (by rw[d];exact z0))
 ·exact join j (by rw[k];exact .inr (.inl rfl)) (jn (by rw[g];exact ha) (by rw[i];exact hb (by decide)) (by rw[d];exact z0))
 ·exact join j (by rw[k];exact .inr (.inr (.inl rfl))) (jn (by rw[g];exact ha) (by rw[i];exact hb (by decide)) (by rw[d];exact z0))
 ·exact join j (by rw[k];exact .inr (.inr (.inr rfl))) (jn (by rw[g];exact ha) (by rw[i];exact hb (by decide)) (by rw[d];exact hc rfl))
 ·have e:f.fn=136:=j;have m:=vJ (n:=n) (N:=N) e;exact⟨⟨jn (by rw[g];exact ha) (by rw[i];exact z0) (by rw[d];exact z0),.inr (.inl ⟨.inl k,ah,.inl e⟩)⟩,.inr (.inl e),ah,ah⟩
 ·have e:f.fn=136:=j;have m:=vJ (n:=n) (N:=N) e;exact⟨⟨jn (by rw[g];exact ha) (by rw[i];exact z0) (by rw[d];exact z0),.inr (.inl ⟨.inr k,ah,.inl e⟩)⟩,.inr (.inl e),ah,ah⟩
 ·have e:f.fn=137:=j;have m:=DR (n:=n) (N:=N) e
  have mn:mask<n:=by apply MS;intro q;unfold nE at hz;rw[MG ah,MK rfl,MK ah]at hz;cases hz
  exact⟨⟨jn (by rw[g];exact ha) (by rw[i];exact hb (by decide)) (by rw[d];exact z0),.inr (.inr (.inl ⟨.inl e,ah⟩))⟩,.inr (.inr (.inl e)),ah,ah⟩
 ·have e:f.fn=138:=j;have m:=E9 (n:=n) (N:=N) e
  have ev:n%2=0:=by apply MS;intro q;unfold nE at hz;rw[MG ah,MG ah,MK ah,MK ah]at hz;cases hz
  exact⟨⟨jn (by rw[g];exact ha) (by rw[i];exact hb (by decide)) (by rw[d];exact z0),.inr (.inr (.inr (.inr ⟨ev,.inr (.inr (.inl ⟨e,d⟩))⟩)))⟩,.inr (.inr (.inr (.inr (.inl e)))),ah,ah⟩
 ·have e:f.fn=139:=j;have m:=Fo (n:=n) (N:=N) e
  have ev:n%2=0:=by apply MS;intro q;unfold nE at hz;rw[MG ah,MG ah,MK ah,MK ah]at hz;cases hz
  exact⟨⟨jn (by rw[g];exact ha) (by rw[i];exact hb (by decide)) (by rw[d];exact z0),.inr (.inr (.inr (.inr ⟨ev,.inr (.inr (.inr (.inr (.inr (.inl e)))))⟩)))⟩,.inr (.inr (.inr (.inr (.inr e)))),ah,ah⟩
def Ey:nE n op mask ft=0\/nE n op mask ft=40\/nE n op mask ft=160:=by
 unfold nE
 repeat' split
 all_goals first|exact .inl rfl|exact .inr (.inl rfl)|exact .inr (.inr rfl)
def Es{h:aI}{p s n room:Nat}{fo gg:Nat->Nat}{off:Bool}{N:ay}{P:PS}{K:KK}{L:List Nat}{a b c op mask:Nat}(g:mask<256)(S:bV h s L (XL n room fo gg N off))(H:bM h p s P)(Ok:bX n fo N P)(po:cF n fo gg)(D: ∀b,dI p P b->b∉L)(C:op=1\/op=2\/op=3\/op=4\/op=5\/op=6\/op=7\/op=8\/op=9\/op=10)(ha:isN N a)(hb:isN N b)(hc:isN N c)(a3:P.last+1<100000000)
  (hF: ∀h' (er:Nat),er=40\/er=60\/er=160->aM [] h h'->K (.tuple #[ap 0,ap (er:Int)]) h')
  (hT:P.jobs.length<64-> ∀h' ws A,bV h' s L (XL n room fo gg N off)->bM h' p s {P with ws:=ws,jobs:=P.jobs++[⟨P.last+1,A⟩],last:=P.last+1}->bX n fo N {P with ws:=ws,jobs:=P.jobs++[⟨P.last+1,A⟩],last:=P.last+1}->
   (∀x,dI p {P with ws:=ws,jobs:=P.jobs++[⟨P.last+1,A⟩],last:=P.last+1} x->dI p P x\/h.size<=x)->(∀x,dI p {P with ws:=ws,jobs:=P.jobs++[⟨P.last+1,A⟩],last:=P.last+1} x->x∉L)->ws.length=P.ws.length->A.done=false->qlen ws=qlen P.ws+1->(∀T,(∀b,dI p P b->b∈T)->aM T h h')->K (.tuple #[ap ((P.last+1:Nat):Int),ap 0]) h'):
  Cl 35 [bg p,wu (op:Int) a b c (mask:Int)] h K:=by
 have zP:=H.lt;have zL:=S.lt;have ok:=S.ok;dsimp only[XL]at ok;refine F35.spec ?_;refine aX λh1 A1 O1 z1=> ?_;simp only[aL,MF];have H1:=H.only0 O1;have r: ∀k,rd h1 ⟨h.size,k,none⟩=([ap (op:Int),aq (a:Int),aq (b:Int),aq (c:Int),.int .u8 (mask:Int)]:List Value)[k]? :=λk=>At.rd A1 k;refine aR (dg H1).1 (aH (by rw[r];rfl) (aH (by rw[r];rfl) (aH (by rw[r];rfl) (aH (by rw[r];rfl) (aH (by rw[r];rfl) ?_)))));have n8:=ok.2.2.1;have lt: ∀{x},isN N x->x<4294967296:=λhx=>by have:=S.isN_lt hx;omega
 have rf: ∀{hh h1:aI} {Q:KK},aM [] h hh->aM [] hh h1->(∀h2,aM [] h1 h2->Q (ap (nE n op mask (yI n fo N a))) h2)->Cl 133 [bg s,wu (op:Int) a b c (mask:Int)] h1 Q:=λ{hh h1 Q} O O' hQ=>
  BN (ft:=yI n fo N a) g ((S.only0 O).only0 O') C (lt ha) (lt hb) (lt hc) (λq=>Nc ⟨ha,λ_=>hb,λ_=>hc⟩ q) (λ_ {k1 R} O2 hR=>Dp (((S.only0 O).only0 O').only0 O2) ha (λl hl=>by have:fo l<n:=(po.2 l hl).1;show fo l<8;omega) hR) λ_ _ _=>hQ
 by_cases hz:nE n op mask (yI n fo N a)=0
 case neg=>
  have rz:=Ey (n:=n) (op:=op) (mask:=mask) (ft:=yI n fo N a)
  obtain⟨er,e1,e2⟩: ∃er:Nat,nE n op mask (yI n fo N a)=(er:Int)/\(er=40\/er=60\/er=160):=by
   rcases rz with q|q|q
   ·exact Nc q hz
   ·exact⟨40,q,ah⟩
   ·exact⟨160,q,ah⟩
  refine yy hz (λ{k1 Q} O=>rf O1 O) λh2 O2=>⟨_,_,rfl,?_⟩;rw[e1,show((er:Int) !=(0:Int))=true by simp;omega,aO];exact hF h2 er e2 (O1.trans O2 ak)
 refine HT g (S.only0 O1) C rfl (λ{k1 Q} O hQ=>rf O1 O (by rw[hz];exact hQ)) λh2 A f MA2 f2 ef b7 Y b6 a1 W b1 b5 b4 B ee O2=>⟨_,_,rfl,?_⟩;rw[show((0:Int) !=(0:Int))=false from rfl,aJ];have O02:=O1.trans O2 ak;have H2:=H.only0 O02;obtain⟨es,cl,em,b3⟩:=H2.jbm.size;have U:es.size=P.jobs.length:=by simpa using b3
 refine iL (dg H2).2.2.1 ⟨es,cl,em,?_⟩;rw[U];refine aS (λe=>hF h2 60 ah O02) λe=> ?_;have a4:P.jobs.length<64:=by have:=MU e;omega
 have rp:=dg H2;refine aH rp.2.2.2.1 ?_;have ew:ax ((P.last:Int)+1)=((P.last+1:Nat):Int):=by rw[wrap_i64 ah ah];omega
 rw[ew];refine aU H2.own (by simp[i6]) rfl λh3 A3 O3 z3=> ?_;have H3:=H2.set_cell (l:=P.last+1) (st:=P.steals) O3 (by simpa[i6]using A3) ah;have F:=dg H3;refine iL F.2.2.1 (aH F.2.2.2.1 ?_);dsimp only at H3 F ⊢;have b8:=O02.size
 have u: ∀x∈A.bl,¬dI p {P with last:=P.last+1} x:=λx hx hp=>by have:=zP x hp;have:=f2 x hx;omega
 have MA3:bF h3 s A:=MA2.only O3 (λx hx hm=>by simp only[MH]at hx;subst hx;exact u x hm (.inl rfl));have o: ∀j∈P.jobs,j.id≠P.last+1:=λj hj=>by have:=H.ids.2 j hj;omega
 refine fh H3.jbm λh4 M4 O4 z4=> ?_
 have e4:ik (P.jobs.map λj=>((j.id:Int),bg j.A.m)) ((P.last+1:Nat):Int) (bg A.m)=(P.jobs++[(⟨P.last+1,A⟩:Jb)]).map λj=>((j.id:Int),bg j.A.m):=by unfold ik;have e0:(uy P.jobs).lookup ((P.last+1:Nat):Int)=none:=mL.2 λj hj e=>o j hj ah;unfold uy at e0;rw[e0];simp
 have M4:bS h4 P.jb .i64 (ik (P.jobs.map λj=>((j.id:Int),bg j.A.m)) ((P.last+1:Nat):Int) (bg A.m)):=M4;rw[e4]at M4;have H4:=H3.add_job O4 M4 MA3 u ah (by show P.last+1<=P.last+1;omega) o;dsimp only at H4;have v:=dg H4;refine bB v.2.1 (aH v.2.2.2.1 (bB v.2.1 ?_));dsimp only;have a2:=Ok.len
 obtain⟨w,hw,a0⟩: ∃w:Nat,w<P.ws.length/\Int.tmod ((P.last+1:Nat):Int) (P.ws.length:Int)=(w:Int):=by have h1:=PJ ((P.last+1:Nat):Int) (b:=(P.ws.length:Int)) ah;have h2:=Int.tmod_nonneg (P.ws.length:Int) (a:=((P.last+1:Nat):Int)) ah;exact⟨(Int.tmod ((P.last+1:Nat):Int) (P.ws.length:Int)).toNat,ah,ah⟩
 obtain⟨k,hk⟩: ∃k,P.ws[w]? =some k:=⟨_,MT hw⟩;have t:=MM hk;obtain⟨bb,eb,rb⟩:=Bo H4 hk;dsimp only at eb;rw[a0,eb];refine⟨ah,?_⟩;rw[aT];refine⟨ah,ah,?_⟩;simp only[aL,MF,MO,Nz];refine aR rb ?_;rw[aT];simp only[aL,MF];have W4:=H4.wk k t;refine aR (n:=some (aw k.d)) (by rw[At.rd W4.own];rfl) (aH v.2.2.2.1 ?_);dsimp only;have eu:IntKind.wrap .u64 ((P.last+1:Nat):Int)=((P.last+1:Nat):Int):=bY ah ah;rw[eu];have a7:=qg Ok H.ids.2 t;obtain⟨n1,n2,n3⟩:=W4.ne
 have G:k.q.length<64:=by
  have h1:=fQ (locs P.ws) (P.jobs.map λj=>(j.id:Int)) Ok.one λx hx=>by obtain⟨j,hj,e,-⟩:=Ok.at_ x hx;exact MY.2 ⟨j,hj,e.symm⟩
  have h2:k.q.length<=(locs P.ws).length:=by
   have p:=(gD Wk.loc P.ws w k {k with q:=[],job:=0} hk).length_eq;have h0:({k with q:=[],job:=0}:Wk).loc=[]:=by unfold Wk.loc;simp
   rw[h0]at p;simp only[MZ,Oq]at p;have:k.q.length<=k.loc.length:=by unfold Wk.loc;simp
   unfold locs;omega
  simp only[Oc]at h1;omega
 refine Dq W4.dw W4.ds a7.1 λh5 o' f' cs' D5 _ _ W5 O5=>⟨_,_,rfl,?_⟩;have a5:kO h5 ⟨k.w,k.d,k.m,k.mc,cs',o',f',k.T,k.q++[((P.last+1:Nat):Int)],k.job⟩:=⟨W4.own.only O5 (by simp;omega),W5,D5 G,W4.ne⟩;have H5:=H4.set_wk (k':=⟨k.w,k.d,k.m,k.mc,cs',o',f',k.T,k.q++[((P.last+1:Nat):Int)],k.job⟩) hk O5 (λb hb=>by simp[Wk.bl]at hb ⊢;omega) a5 rfl;dsimp only at H5;refine aH (dg H5).2.2.2.1 ?_;dsimp only;obtain⟨b2,ent,fm,fb⟩:=Co n8 g C ha (λ_=>hb) (λ_=>hc) hz b7 Y b6 a1 W b1 b5
 have M:gI n fo N A.fs A.told:=by
  rw[ef];refine⟨λy hy=> ?_,λi x y hx hy=> ?_,λfl fr e=> .inl ?_,by rw[b4];exact .inl ah⟩
  ·simp only[MH]at hy;subst hy;exact b2
  ·simp at hy
  ·cases fl with
   |nil=>simp at e;rw[<-e];exact ent
   |cons y fl=>
    have:=congrArg List.length e;simp at this
 have mst:qf n fo N A:= .inl ⟨B,ee,by rw[ef];simp,M⟩
 have b0:ie n N A.fs<=800000:=by rw[ef];simp only[ie,Nk,OQ,Pp,List.sum_nil];omega
 have Z:iT n N A.fs<=131000:=by rw[ef];simp only[iT,Nk,OQ,Pp,List.sum_nil];omega
 have perm:(locs (P.ws.set w ⟨k.w,k.d,k.m,k.mc,cs',o',f',k.T,k.q++[((P.last+1:Nat):Int)],k.job⟩)).Perm (((P.last+1:Nat):Int)::locs P.ws):=by
  have p:=gD Wk.loc P.ws w k ⟨k.w,k.d,k.m,k.mc,cs',o',f',k.T,k.q++[((P.last+1:Nat):Int)],k.job⟩ hk;have hl:(⟨k.w,k.d,k.m,k.mc,cs',o',f',k.T,k.q++[((P.last+1:Nat):Int)],k.job⟩:Wk).loc=k.loc++[((P.last+1:Nat):Int)]:=by unfold Wk.loc;simp
  rw[hl,NR]at p;exact(OA _).1 p
 have I:((P.last+1:Nat):Int)∉locs P.ws:=λhm=>by obtain⟨j,hj,e,-⟩:=Ok.at_ _ hm;exact o j hj ah
 have ql:=iR (λk:Wk=>k.q.length) P.ws w k ⟨k.w,k.d,k.m,k.mc,cs',o',f',k.T,k.q++[((P.last+1:Nat):Int)],k.job⟩ hk;simp only[MZ,Nu]at ql;have V:qlen (P.ws.set w ⟨k.w,k.d,k.m,k.mc,cs',o',f',k.T,k.q++[((P.last+1:Nat):Int)],k.job⟩)=qlen P.ws+1:=by unfold qlen;omega
 have J: ∀x,dI p {P with ws:=P.ws.set w ⟨k.w,k.d,k.m,k.mc,cs',o',f',k.T,k.q++[((P.last+1:Nat):Int)],k.job⟩,jobs:=P.jobs++[⟨P.last+1,A⟩],last:=P.last+1} x->dI p P x\/h.size<=x:=λx hx=>by
  rcases hx with e|e|hx|⟨y,hy,hx⟩|⟨y,hy,hx⟩
  ·exact .inl (.inl e)
  ·exact .inl (.inr (.inl e))
  ·exact .inl (.inr (.inr (.inl hx)))
  ·rcases ga hy with e|⟨z,-,hz⟩
   ·subst e;exact .inl (.inr (.inr (.inr (.inl ⟨k,t,hx⟩))))
   ·exact .inl (.inr (.inr (.inr (.inl ⟨y,MM hz,hx⟩))))
  ·rcases Zq hy with hy|hy
   ·exact .inl (.inr (.inr (.inr (.inr ⟨y,hy,hx⟩))))
   ·simp only[MH]at hy;subst hy;exact .inr (by have:=f2 x hx;omega)
 have hO: ∀T,(∀b,dI p P b->b∈T)->aM T h h5:=λT hT=>(((O02.mono (T:=T) ak).trans O3 λx hx _=> ?_).trans O4 λx hx _=> ?_).trans O5 λx hx _=> ?_
 ·refine hT a4 h5 _ A (S.only (hO (FS p P) λx hx=>gj.2 hx) λx hx hm=>D x (gj.1 hx) hm) H5 ⟨λj hj=> ?_,λx hx=> ?_,perm.nodup_iff.2 (Nt.2 ⟨I,Ok.one⟩),λj hj hd=> ?_,λy hy=> ?_,by simpa using a2,ah,⟨Ok.steals.1,?_⟩⟩ J (λx hx hm=> ?_) ak B V hO
  ·rcases Zq hj with hj|hj
   ·exact Ok.mst j hj
   ·simp only[MH]at hj;subst hj;exact⟨mst,b0,Z⟩
  ·rcases List.mem_cons.1 (perm.mem_iff.1 hx)with e|hx
   ·exact⟨⟨P.last+1,A⟩,ak,e,B⟩
   ·obtain⟨j,hj,h⟩:=Ok.at_ x hx;exact⟨j,by simp[hj],h⟩
  ·rcases Zq hj with hj|hj
   ·exact perm.mem_iff.2 (Nh _ (Ok.loc j hj hd))
   ·simp only[MH]at hj;subst hj;exact perm.mem_iff.2 OP
  ·have a6: ∀y∈P.ws,y.T+y.q.length<=P.last+1:=λy hy=>by have:=Ok.T y hy;omega
   rcases ga hy with e|⟨z,-,hz⟩
   ·subst e;have:=Ok.T k t;simp only[MZ,Nu];omega
   ·exact a6 y (MM hz)
  ·have:=Ok.steals;dsimp only;rw[V];omega
  ·rcases J x hx with h|h
   ·exact D x h hm
   ·have:=zL x hm;omega
 ·simp only[MH]at hx;subst hx;exact hT _ (.inl rfl)
 ·have hx:x∈[P.jb]:=hx;simp only[MH]at hx;subst hx;exact hT _ (.inr (.inl rfl))
 ·exact hT x (.inr (.inr (.inr (.inl ⟨k,t,by simp[Wk.bl]at hx ⊢;omega⟩))))
def CG(x:Int):Nat:=if x<1 then 1 else if 4<x then 4 else x.toNat
def Gv(x:Int):(if(4:Int)<(if(1:Int)>x then(1:Int)else x)then(4:Int)else(if(1:Int)>x then(1:Int)else x))=(CG x:Int):=by
 unfold CG;by_cases h1:(1:Int)>x
 ·rw[MK h1,MG ah,MK ah]
  rfl
 ·rw[MG h1];by_cases h2:(4:Int)<x
  ·rw[MK h2,MG ah,MK h2]
   rfl
  ·rw[MG h2,MG ah,MG h2];omega
def Ah(x:Int):1<=CG x/\CG x<=4:=by
 unfold CG;split
 ·omega
 ·split<;>omega
def Hi(k:Wk):Prop:=k.q=[]/\k.job=0/\k.T=0
def IQ{h:aI}(hK: ∀h' p P,bM h' p s P->P.ws.length=CG x->P.jobs=[]->(∀k∈P.ws,Hi k)->P.last=0->P.steals=0->(∀b,dI p P b->h.size<=b)->aM [] h h'->K (bg p) h'):
  Cl 34 [bg s,ap x] h K:=by
 refine F34.spec _ _ h K ?_;refine eW (k:= .i64) λh1 M1 O1 z1=>aX λh2 A2 O2 z2=> ?_;rw[Gv];have hw:=Ah x;unfold F34.wk3;have O02:=O1.trans O2 ak
 have P0:bM h2 h1.size s ⟨none,0,h.size,[],[],0,0⟩:=by refine⟨A2,cw.nil _ _ _,λk hk=>(by cases hk),M1.only O2 ak,λj hj=>(by cases hj),⟨λ_=>0,rfl,rfl,λ_ _=>rfl,λi k hk=>(by simp at hk),λj hj=>(by cases hj)⟩,⟨(show h1.size≠h.size by omega),by simp[aV],by simp[aV]⟩,by simp,λj hj=>(by cases hj)⟩
 have q: ∀(d i:Nat) (h3:aI) (P:PS),i+d=CG x->bM h3 h1.size s P->P.ws.length=i->P.jobs=[]->(∀k∈P.ws,Hi k)->P.last=0->P.steals=0->(∀b,dI h1.size P b->h.size<=b)->aM [] h h3->
   F34.wL3 (d+1) (aw h1.size) (CG x:Int) (i:Int) h3 K:=by
  intro d
  induction d with
  |zero=>
   intro i h3 P hi H hl hj hf l o hB O;rw[F34.sL3];rw[MJ ah,aJ];exact hK h3 _ P H ah hj hf l o hB O
  |succ d ih=>
   intro i h3 P hi H hl hj hf l o hB O;have ew:ax ((i:Int)+1)=((i+1:Nat):Int):=by rw[wrap_i64 ah ah];omega
   rw[F34.sL3];rw[MP ah,aO,ew];simp only[aL,MF];refine mZ (k:=64) ah ah (aH rfl ?_);refine pH λm c h4 M4 O4 g4 A=>aR rfl ?_;rw[show((64:Int)+2)=((66:Nat):Int)from rfl,jB ah]at M4;refine uo (base:=0) (n:=64) M4 ah ah ak ak λdq h5 Q5 O5 g5=>⟨_,_,rfl,?_⟩;have H5:=(H.only0 O4).only0 O5;have M5:=M4.only O5 ak ak;refine bB (dg H5).2.1 ?_;refine aX λh6 A6 O6 z6=>aX λh7 A7 O7 z7=> ?_;have H7:=(H5.only0 O6).only0 O7;have G:=O4.size;have C:=O5.size;have D:=M4.head.lt;have F:=M4.body.lt;have l5:dq<h5.size:=At.lt Q5;refine fO H7.wks A7 rfl rfl ah (by simp[Value.oneCell']) ah λp' c' h8 W8 O8 g8=> ?_;have np:h1.size∉aV P.wp:=H.ne.2.1;have A8:=H7.own.only O8 np;refine aU A8 (by simp[i6]) rfl λh9 A9 O9 z9=> ?_;have v:=H.lt;have O57:aM [] h5 h7:=O6.trans O7 ak;have O79:aM (h1.size::aV P.wp) h7 h9:=(O8.mono λb hb _=>Nh _ hb).trans O9 λb hb _=>by simp only[MH]at hb;exact List.mem_cons.2 (.inl hb)
   have O09:aM [] h h9:=(((O.trans O4 ak).trans O5 ak).trans O57 ak).trans O79 λb hb hl=>by
    rcases List.mem_cons.1 hb with e|hb
    ·have:=hB b (.inl e);omega
    ·have:=hB b (.inr (.inr (.inl hb)));omega
   have old: ∀b,dI h1.size P b->b<h3.size:=v
   have nS: ∀b,h3.size<=b->b∉h1.size::aV P.wp:=λb hb hm=>by
    rcases List.mem_cons.1 hm with e|hm
    ·have:=old b (.inl e);omega
    ·have:=old b (.inr (.inr (.inl hm)));omega
   obtain⟨k,ek⟩: ∃k:Wk,k=⟨h5.size,dq,m,c,List.replicate 66 0,0,0,0,[],0⟩:=⟨_,rfl⟩
   have a: ∀b∈k.bl,h3.size<=b:=λb hb=>by rw[ek]at hb;simp[Wk.bl]at hb;omega
   have Wk9:kO h9 k:=by
    have W7:kO h7 k:=by rw[ek];have:=M4.ne;refine⟨A6.only O7 ak,⟨(Q5.only O57 ak),M5.only O57 ak ak,by show dq≠m;omega,by show dq≠c;omega,by omega,by omega,by omega,by simp⟩,⟨by simp[List.getD],by simp[List.getD],ak,λi hi=>by simp at hi⟩,⟨by show h5.size≠dq;omega,by show h5.size≠m;omega,by show h5.size≠c;omega⟩⟩
    exact W7.only O79 λb hb hm=>nS b (a b hm) hb
   have kw:k.w=h5.size:=by rw[ek]
   refine ih (i+1) h9 {P with wp:=p',wc:=c',ws:=P.ws++[k]} ah ?_ (by simp[hl]) hj (λy hy=> ?_) l o (λb hb=> ?_) O09
   ·obtain⟨τ,t⟩:=H.sep;have g: ∀b∈aV p',b∈aV P.wp\/h7.size<=b:=g8
    have u: ∀b∈k.bl,b<h7.size:=λb hb=>by rw[ek]at hb;simp[Wk.bl]at hb;omega
    refine⟨?_,?_,λy hy=> ?_,((H7.jbm.only O8 H.ne.2.2).only O9 (by simp;exact λe=>H.ne.1 e.symm)),λj f=>(by rw[hj]at f;cases f),⟨λb=>if b∈k.bl then 2*i+1 else if h7.size<=b then 0 else τ b,?_,?_,λb hb=> ?_,λx y hy b hb=> ?_,λj f=>(by rw[hj]at f;cases f)⟩,⟨H.ne.1,λhm=> ?_,λhm=> ?_⟩,by rw[hj];simp,λj f=>(by rw[hj]at f;cases f)⟩
    ·have e:(i6 s P).set 1 (.slice p' (P.ws.length+1) c')=i6 s {P with wp:=p',wc:=c',ws:=P.ws++[k]}:=by simp[i6]
     rw[<-e];exact A9
    ·show cw h9 0 1 p' (P.ws++[k]).length c' ((P.ws++[k]).map λk=>bg k.w)
     have:=W8.only O9 (λb e hm=>by
      simp only[MH]at hm;have hb:b∈aV p':=by rw[e];simp[aV]
      rcases g b hb with h|h
      ·rw[hm]at h;exact np h
      ·have:=old h1.size (.inl rfl);omega)
     simpa[bg,kw]using this
    ·rcases Zq hy with hy|hy
     ·refine(H7.wk y hy).only O79 λb hb hm=> ?_;obtain⟨x,hx⟩:=Ni.1 hy;have t1:=t.ws x y hx b hm;rcases List.mem_cons.1 hb with e|hb
      ·subst e;have:=t.p;omega
      ·have:=t.wp b hb;omega
     ·simp only[MH]at hy;subst hy;exact Wk9
    ·show(if h1.size∈k.bl then _ else if h7.size<=h1.size then 0 else τ h1.size)=0;have:=old h1.size (.inl rfl);rw[MG λhm=>by have:=a _ hm;omega];split
     ·rfl
     ·exact t.p
    ·show(if P.jb∈k.bl then _ else if h7.size<=P.jb then 0 else τ P.jb)=0;have:=old P.jb (.inr (.inl rfl));rw[MG λhm=>by have:=a _ hm;omega];split
     ·rfl
     ·exact t.jb
    ·show(if b∈k.bl then _ else if h7.size<=b then 0 else τ b)=0;rcases g b hb with h|h
     ·have:=old b (.inr (.inr (.inl h)));rw[MG λhm=>by have:=a _ hm;omega];split
      ·rfl
      ·exact t.wp b h
     ·rw[MG λhm=>by have:=u _ hm;omega,MK h]
    ·show(if b∈k.bl then _ else if h7.size<=b then 0 else τ b)=_;have hy:(P.ws++[k])[x]? =some y:=hy;by_cases hx:x<P.ws.length
     ·rw[MW hx]at hy;have B:=old b (.inr (.inr (.inr (.inl ⟨y,MM hy,hb⟩))));rw[MG λhm=>by have:=a _ hm;omega,MG ah];exact t.ws x y hy b hb
     ·rw[Np ah]at hy
      have z:x-P.ws.length=0:=by have:=(MQ.1 hy).1;simp at this;omega
      rw[z]at hy;simp at hy;subst hy;rw[MK hb];omega
    ·rcases g _ hm with h|h
     ·exact H.ne.2.1 h
     ·have:=old h1.size (.inl rfl);omega
    ·rcases g _ hm with h|h
     ·exact H.ne.2.2 h
     ·have h:h7.size<=P.jb:=h;have:=old P.jb (.inr (.inl rfl));omega
   ·rcases Zq hy with hy|hy
    ·exact hf y hy
    ·simp only[MH]at hy;subst hy;rw[ek];exact⟨rfl,rfl,rfl⟩
   ·have I:=O.size;rcases hb with e|e|hb|⟨y,hy,hb⟩|⟨y,hy,hb⟩
    ·exact hB b (.inl e)
    ·exact hB b (.inr (.inl e))
    ·rcases g8 b hb with h|h
     ·exact hB b (.inr (.inr (.inl h)))
     ·omega
    ·rcases Zq hy with hy|hy
     ·exact hB b (.inr (.inr (.inr (.inl ⟨y,hy,hb⟩))))
     ·simp only[MH]at hy;subst hy;have:=a b hb;omega
    ·have hy:y∈P.jobs:=hy;rw[hj]at hy;cases hy
 refine⟨_,q (CG x) 0 h2 _ ah P0 rfl rfl (λk hk=>by cases hk) rfl rfl (λb hb=> ?_) O02⟩;rcases hb with e|e|hb|⟨y,hy,hb⟩|⟨y,hy,hb⟩
 ·omega
 ·have e:b=h.size:=e;omega
 ·simp[aV]at hb
 ·cases hy
 ·cases hy
def we{P:PS}(hl:1<=P.ws.length/\P.ws.length<=4)(hj:P.jobs=[])(hf: ∀k∈P.ws,Hi k)(h1:P.last=0)(h2:P.steals=0):bX n fo N P/\locs P.ws=[]/\qlen P.ws=0:=by
 have e1:locs P.ws=[]:=by
  unfold locs;rw[List.flatMap_eq_nil_iff];intro k hk;obtain⟨a,b,-⟩:=hf k hk;unfold Wk.loc;rw[MK b,a]
  rfl
 have e2:qlen P.ws=0:=by
  unfold qlen;have:P.ws.map (λk=>k.q.length)=P.ws.map λ_=>0:=NG λk hk=>by rw[(hf k hk).1];rfl
  rw[this];generalize P.ws=l
  induction l with
  |nil=>rfl
  |cons a l ih=>simpa using ih
 refine⟨⟨λj d=>(by rw[hj]at d;cases d),λx hx=>(by rw[e1]at hx;cases hx),by rw[e1];simp,λj d=>(by rw[hj]at d;cases d),λk hk=> ?_,hl,ah,ah,ah⟩,e1,e2⟩;obtain⟨a,-,c⟩:=hf k hk;rw[a,c];simp
structure yi(h:aI)(p s n room:Nat)(fo gg:Nat->Nat)(off:Bool)(N:ay)(P:PS)(L:List Nat):Prop where
 S:bV h s L (XL n room fo gg N off)
 H:bM h p s P
 Ok:bX n fo N P
 po:cF n fo gg
 D: ∀b,dI p P b->b∉L
structure AO(p:Nat)(P:PS)(L:List Nat)(h:aI)(P':PS)(L':List Nat)(h':aI):Prop where
 O: ∀T,(∀b,dI p P b->b∈T)->(∀b∈L,b∈T)->aM T h h'
 F:bH L L' h
 B: ∀b,dI p P' b->dI p P b\/h.size<=b
def yi.only0(W:yi h p s n room fo gg off N P L)(O:aM [] h h'):yi h' p s n room fo gg off N P L:=⟨W.S.only0 O,W.H.only0 O,W.Ok,W.po,W.D⟩
def BI{P:PS}(W:yi h p s n room fo gg off N P L)
  (a:who<0\/(P.ws.length:Int)<=who->K aB h)
  (hK: ∀h' L' N' P' b (w:Nat) (k:Wk),who=(w:Int)->P.ws[w]? =some k->yi h' p s n room fo gg off N' P' L'->rV n fo N N' P P'->(b=true->locs P.ws≠[])->(fM n N' P'+1<=fM n N P\/(k.job=0/\k.q=[]/\fA P.ws P'.ws))->AO p P L h P' L' h'->K (aD b) h'):
  Cl 81 [bg p,ap who,ap draw] h K:=
 GC W.S W.H W.Ok W.po W.D a λh' L' N' P' b w k e1 e2 S' H' D' Pk e3 e4 O' F' B'=>hK h' L' N' P' b w k e1 e2 ⟨S',H',Pk.ok,W.po,D'⟩ Pk e3 e4 ⟨O',F',B'⟩
structure lD where
 kind:Int
 op:Int
 dst:Int
 a:Int
 b:Int
 c:Int
 mask:Nat
structure gl where
 there:Nat->Bool
 hnd:Nat->Nat
 cal:lD
 pend:Bool
 job:Nat
 err:Int
 num:Nat
 ansd:Bool
structure gN where
 s:Nat
 p:Nat
 r:Nat
 ses:Nat->gl
 ans:Nat
def i4{α:Type}(f:Nat->α)(i:Nat)(x:α):Nat->α:=λk=>if k=i then x else f k
theorem dt:i4 f i x i=x:=MK rfl
theorem cO(h:k≠i):i4 f i x k=f k:=MG h
def gN.put(E:gN)(i:Nat)(x:gl):gN:={E with ses:=i4 E.ses i x}
def cC(c:lD):Nat->Value
 |0=>ap c.kind
 |1=>ap c.op
 |2=>ap c.dst
 |3=>ap c.a
 |4=>ap c.b
 |5=>ap c.c
 |_=> .int .u8 (c.mask:Int)
def sC(x:gl)(j:Nat):Value:=
 if j<12 then(if j%2=0 then aD (x.there (j/2))else aq (x.hnd (j/2):Int))else
 if j<19 then cC x.cal (j-12)else
 if j=19 then aD x.pend else if j=20 then ap (x.job:Int)else if j=21 then ap x.err else
 if j=22 then ar (x.num:Int)else aD x.ansd
def eC(E:gN)(k:Nat):Value:=
 if k=0 then bg E.s else if k=1 then bg E.p else if k=2 then bg E.r else if k=99 then ap (E.ans:Int)else
 sC (E.ses ((k-3)/24)) ((k-3)%24)
def dy(h:aI)(e:Nat)(E:gN):Prop:=At h e (cX 100 (eC E))
theorem Hw(j:Nat):(cC c j).oneCell'=true:=by unfold cC;split<;>rfl
theorem Gs(j:Nat):(sC x j).oneCell'=true:=by
 unfold sC;split
 ·split<;>rfl
 ·split
  ·exact Hw _
  ·repeat' split
   all_goals rfl
theorem dy.rd{h:aI}{e k:Nat}{E:gN}(H:dy h e E)(hk:k<100):Ev.rd h ⟨e,k,none⟩=some (eC E k):=by rw[At.rd H,dk hk]
theorem vr{E:gN}(hi:i<4)(hj:j<24):eC E (3+24*i+j)=sC (E.ses i) j:=by unfold eC;rw[MG ah,MG ah,MG ah,MG ah,show(3+24*i+j-3)/24=i by omega,show(3+24*i+j-3)%24=j by omega]
theorem dy.rdS{E:gN}(H:dy h e E)(hi:i<4)(hj:j<24)(hk:k=3+24*i+j):Ev.rd h ⟨e,k,none⟩=some (sC (E.ses i) j):=by subst hk;rw[H.rd ah,vr hi hj]
theorem tH{x:gl}(hr:r<6):sC x (2*r)=aD (x.there r):=by unfold sC;rw[MK ah,MK ah,show 2*r/2=r by omega]
theorem zV{x:gl}(hr:r<6):sC x (2*r+1)=aq (x.hnd r:Int):=by unfold sC;rw[MK ah,MG ah,show(2*r+1)/2=r by omega]
theorem HC{E:gN}(h:q<100):eC (E.put i x) q=if 3<=q/\q<99/\(q-3)/24=i then sC x ((q-3)%24)else eC E q:=by
 unfold eC gN.put;by_cases h0:q=0
 ·rw[MK h0,MK h0,MG ah]
 by_cases h1:q=1
 ·rw[MG h0,MG h0,MK h1,MK h1,MG ah]
 by_cases h2:q=2
 ·rw[MG h0,MG h0,MG h1,MG h1,MK h2,MK h2,MG ah]
 by_cases h3:q=99
 ·rw[MG h0,MG h0,MG h1,MG h1,MG h2,MG h2,MK h3,MK h3,MG ah]
 rw[MG h0,MG h0,MG h1,MG h1,MG h2,MG h2,MG h3,MG h3];by_cases hq:(q-3)/24=i
 ·rw[MK ah];show sC (i4 E.ses i x ((q-3)/24)) _=_;rw[hq,dt]
 ·rw[MG ah];show sC (i4 E.ses i x ((q-3)/24)) _=_;rw[cO hq]
theorem dy.setS{h:aI}{E:gN}{v:Value}(H:dy h e E)(hi:i<4)(hj:j<24)(hk:k=3+24*i+j)(hv:v.oneCell'=true)
  (hx: ∀q,q<24->sC x q=if q=j then v else sC (E.ses i) q) (hK: ∀h',dy h' e (E.put i x)->aM [e] h h'->h'.size=h.size->K h'):aW h ⟨e,k,none⟩ v K:=by
 subst hk;refine aU H (by rw[bZ];omega) hv λh' A O z=>hK h' ?_ O z;unfold dy;rw[il]at A;rw[fq (g':=λq=>if q=3+24*i+j then v else eC E q) λq hq=> ?_]
 ·exact A
 ·rw[HC hq];by_cases hc:3<=q/\q<99/\(q-3)/24=i
  ·rw[MK hc,hx _ ah];by_cases hh:(q-3)%24=j
   ·rw[MK hh,MK ah]
   ·rw[MG hh,MG ah,<-vr (E:=E) hi ah]
    congr 1
    omega
  ·rw[MG hc,MG ah]
theorem dy.setA{h:aI}{e n:Nat}{E:gN}{K:aI->Prop}(H:dy h e E)(hK: ∀h',dy h' e {E with ans:=n}->aM [e] h h'->h'.size=h.size->K h'):aW h ⟨e,99,none⟩ (ap (n:Int)) K:=by
 refine aU H (by rw[bZ];omega) rfl λh' A O z=>hK h' ?_ O z;unfold dy;rw[il]at A;rw[fq (g':=λq=>if q=99 then ap (n:Int)else eC E q) λq hq=> ?_]
 ·exact A
 ·unfold eC;by_cases h3:q=99
  ·rw[MK h3];subst h3;rfl
  ·rw[MG h3,MG h3,MG h3]
theorem dy.only{h h':aI}{e:Nat}{E:gN}{S:List Nat}(H:dy h e E)(O:aM S h h')(he:e∉S):dy h' e E:=At.only H O he
theorem dy.only0{h h':aI}{e:Nat}{E:gN}(H:dy h e E)(O:aM [] h h'):dy h' e E:=H.only O ak
theorem xK: ∀q,q<24->sC {x with pend:=b} q=if q=19 then aD b else sC x q:=λq hq=>by
 unfold sC;by_cases h:q=19
 ·subst h;rfl
 ·rw[MG h,MG h,MG h]
theorem Bx{x:gl}{n:Nat}: ∀q,q<24->sC {x with job:=n} q=if q=20 then ap (n:Int)else sC x q:=λq hq=>by
 unfold sC;by_cases h:q=20
 ·subst h;rfl
 ·rw[MG h,MG h,MG h]
theorem HY: ∀q,q<24->sC {x with err:=n} q=if q=21 then ap n else sC x q:=λq hq=>by
 unfold sC;by_cases h:q=21
 ·subst h;rfl
 ·rw[MG h,MG h,MG h]
theorem Gu{x:gl}{n:Nat}: ∀q,q<24->sC {x with num:=n} q=if q=22 then ar (n:Int)else sC x q:=λq hq=>by
 unfold sC;by_cases h:q=22
 ·subst h;rfl
 ·rw[MG h,MG h,MG h]
theorem EW: ∀q,q<24->sC {x with ansd:=b} q=if q=23 then aD b else sC x q:=λq hq=>by
 unfold sC;by_cases h:q=23
 ·subst h;rfl
 ·rw[MG h]
  repeat' split
  all_goals first|rfl|omega
theorem GJ{x:gl}(hj:j<7)(hc: ∀q,q<7->cC c q=if q=j then v else cC x.cal q): ∀q,q<24->sC {x with cal:=c} q=if q=12+j then v else sC x q:=λq hq=>by
 unfold sC;by_cases h:q<12
 ·rw[MK h,MK h,MG (show ¬q=12+j by omega)]
 ·rw[MG h,MG h];by_cases h2:q<19
  ·rw[MK h2,MK h2,hc _ ah];by_cases h3:q-12=j
   ·rw[MK h3,MK (show q=12+j by omega)]
   ·rw[MG h3,MG (show ¬q=12+j by omega)]
  ·rw[MG h2,MG h2,MG (show ¬q=12+j by omega)]
theorem wQ{x:gl}(hr:r<6): ∀q,q<24->sC {x with there:=i4 x.there r b} q=if q=2*r then aD b else sC x q:=λq hq=>by
 by_cases h:q=2*r
 ·subst h;rw[tH hr,MK rfl];show aD (i4 _ _ _ _)=_;rw[dt]
 ·rw[MG h];unfold sC;by_cases h1:q<12
  ·rw[MK h1,MK h1];by_cases h2:q%2=0
   ·rw[MK h2,MK h2];show aD (i4 _ _ _ _)=_;rw[cO ah]
   ·rw[MG h2,MG h2]
  ·rw[MG h1,MG h1]
theorem wW{x:gl}(hr:r<6): ∀q,q<24->sC {x with hnd:=i4 x.hnd r n} q=if q=2*r+1 then aq (n:Int)else sC x q:=λq hq=>by
 by_cases h:q=2*r+1
 ·subst h;rw[zV hr,MK rfl];show aq ((i4 _ _ _ _:Nat):Int)=_;rw[dt]
 ·rw[MG h];unfold sC;by_cases h1:q<12
  ·rw[MK h1,MK h1];by_cases h2:q%2=0
   ·rw[MK h2,MK h2]
   ·rw[MG h2,MG h2];show aq ((i4 _ _ _ _:Nat):Int)=_;rw[cO ah]
  ·rw[MG h1,MG h1]
theorem nN:i4 (i4 f i x) i y=i4 f i y:=by
 funext k;by_cases h:k=i
 ·rw[h,dt,dt]
 ·rw[cO h,cO h,cO h]
theorem eI{E:gN}:(E.put i x).put i y=E.put i y:=by unfold gN.put;rw[nN]
theorem cW{E:gN}:(E.put i x).ses i=x:=dt
theorem oE{E:gN}:E.put i (E.ses i)=E:=by
 unfold gN.put
 have:i4 E.ses i (E.ses i)=E.ses:=by
  funext k;unfold i4;by_cases h:k=i
  ·rw[MK h,h]
  ·rw[MG h]
 rw[this]
section
variable {h:aI}{e i k:Nat}{E:gN}(H:dy h e E)(hi:i<4)
include H hi
theorem dy.kind(hk:k=3+24*i+12):Ev.rd h ⟨e,k,none⟩=some (ap (E.ses i).cal.kind):=H.rdS hi (j:=12) ah hk
theorem dy.op(hk:k=3+24*i+13):Ev.rd h ⟨e,k,none⟩=some (ap (E.ses i).cal.op):=H.rdS hi (j:=13) ah hk
theorem dy.dst(hk:k=3+24*i+14):Ev.rd h ⟨e,k,none⟩=some (ap (E.ses i).cal.dst):=H.rdS hi (j:=14) ah hk
theorem dy.ca(hk:k=3+24*i+15):Ev.rd h ⟨e,k,none⟩=some (ap (E.ses i).cal.a):=H.rdS hi (j:=15) ah hk
theorem dy.cb(hk:k=3+24*i+16):Ev.rd h ⟨e,k,none⟩=some (ap (E.ses i).cal.b):=H.rdS hi (j:=16) ah hk
theorem dy.cc(hk:k=3+24*i+17):Ev.rd h ⟨e,k,none⟩=some (ap (E.ses i).cal.c):=H.rdS hi (j:=17) ah hk
theorem dy.mask(hk:k=3+24*i+18):Ev.rd h ⟨e,k,none⟩=some (.int .u8 ((E.ses i).cal.mask:Int)):=H.rdS hi (j:=18) ah hk
theorem dy.pend(hk:k=3+24*i+19):Ev.rd h ⟨e,k,none⟩=some (aD (E.ses i).pend):=H.rdS hi (j:=19) ah hk
theorem dy.job(hk:k=3+24*i+20):Ev.rd h ⟨e,k,none⟩=some (ap ((E.ses i).job:Int)):=H.rdS hi (j:=20) ah hk
theorem dy.err(hk:k=3+24*i+21):Ev.rd h ⟨e,k,none⟩=some (ap (E.ses i).err):=H.rdS hi (j:=21) ah hk
theorem dy.num(hk:k=3+24*i+22):Ev.rd h ⟨e,k,none⟩=some (ar ((E.ses i).num:Int)):=H.rdS hi (j:=22) ah hk
theorem dy.ansd(hk:k=3+24*i+23):Ev.rd h ⟨e,k,none⟩=some (aD (E.ses i).ansd):=H.rdS hi (j:=23) ah hk
theorem dy.thr{r:Nat}(hr:r<6)(hk:k=3+24*i+2*r):Ev.rd h ⟨e,k,none⟩=some (aD ((E.ses i).there r)):=by rw[H.rdS hi (j:=2*r) ah hk,tH hr]
theorem dy.hnd{r:Nat}(hr:r<6)(hk:k=3+24*i+(2*r+1)):Ev.rd h ⟨e,k,none⟩=some (aq ((E.ses i).hnd r:Int)):=by rw[H.rdS hi (j:=2*r+1) ah hk,zV hr]
end
theorem dy.s{h:aI}{e:Nat}{E:gN}(H:dy h e E):Ev.rd h (aw e)=some (bg E.s):=H.rd ah
theorem dy.p{h:aI}{e:Nat}{E:gN}(H:dy h e E):Ev.rd h ⟨e,1,none⟩=some (bg E.p):=H.rd ah
theorem dy.r{h:aI}{e:Nat}{E:gN}(H:dy h e E):Ev.rd h ⟨e,2,none⟩=some (bg E.r):=H.rd ah
theorem dy.ans{h:aI}{e:Nat}{E:gN}(H:dy h e E):Ev.rd h ⟨e,99,none⟩=some (ap (E.ans:Int)):=H.rd ah
section
variable {i j k l m n o p q r s t:Int}{a b c d:Addr}{u v:Nat}{x y:az}{h:aI}{K:KK}
def F18.spec(H:Cl 61 [ap i,ap j] h λa b=> ∃c:az,∃d:Int,a=(.tuple #[aA c,ap d])/\aK (d !=0) (K (.tuple #[aA none,ap d]) b) (Cl 34 [aA c,ap k] b λa b=>a8 (some a) λa=>Cl 68 [aA a] b λb d=>aQ .i64 (some b) λb=>Cl 67 [ap b] d λb d=>a8 (some b) λb=>bf d (.cells #[aA c,aA a,aA b,aB,aq 0,aB,aq 0,aB,aq 0,aB,aq 0,aB,aq 0,aB,aq 0,ap 0,ap 0,ap 0,ap 0,ap 0,ap 0,.int .u8 0,aB,ap 0,ap 0,ar 0,aB,aB,aq 0,aB,aq 0,aB,aq 0,aB,aq 0,aB,aq 0,aB,aq 0,ap 0,ap 0,ap 0,ap 0,ap 0,ap 0,.int .u8 0,aB,ap 0,ap 0,ar 0,aB,aB,aq 0,aB,aq 0,aB,aq 0,aB,aq 0,aB,aq 0,aB,aq 0,ap 0,ap 0,ap 0,ap 0,ap 0,ap 0,.int .u8 0,aB,ap 0,ap 0,ar 0,aB,aB,aq 0,aB,aq 0,aB,aq 0,aB,aq 0,aB,aq 0,aB,aq 0,ap 0,ap 0,ap 0,ap 0,ap 0,ap 0,.int .u8 0,aB,ap 0,ap 0,ar 0,aB,ap 0] 132) λa b=>K (.tuple #[au (aw a),ap 0]) b)):Cl 18 [ap i,ap j,ap k] h K:=cN Tryz.func18 H
def F23.spec{a:Addr}(H:a8 (rd h (a.add 0)) λa=>K (aA a) h):Cl 23 [au a] h K:=cN Tryz.func23 H
def F24.spec{k:Int}(H:bf h (.cells #[ap j,ap k,ap l,ap m,ap n,ap o,.int .u8 p] 41) λb c=>Cl 76 [au a,ap i] c λc d=>a8 (some c) λc=>aK (Option.isNone c) (K (ap 222) d) (aY c λe=>bP (rd d (e.add 19)) λe=>aK e (K (ap 220) d) (aQ .i64 (rd d ((aw b).add 0)) λe=>aQ .i64 (rd d ((aw b).add 1)) λf=>aQ .i64 (rd d ((aw b).add 2)) λg=>aQ .i64 (rd d ((aw b).add 3)) λi=>aQ .i64 (rd d ((aw b).add 4)) λj=>aQ .i64 (rd d ((aw b).add 5)) λk=>aQ .u8 (rd d ((aw b).add 6)) λl=>Cl 77 [au a,aA c,.agg #[ap e,ap f,ap g,ap i,ap j,ap k,.int .u8 l]] d λa d=>aQ .i64 (some a) λa=>aK (a !=0) (K (ap a) d) (aQ .i64 (rd d ((aw b).add 0)) λa=>aQ .i64 (rd d ((aw b).add 1)) λe=>aQ .i64 (rd d ((aw b).add 2)) λf=>aQ .i64 (rd d ((aw b).add 3)) λg=>aQ .i64 (rd d ((aw b).add 4)) λi=>aQ .i64 (rd d ((aw b).add 5)) λj=>aQ .u8 (rd d ((aw b).add 6)) λb=>aY c λk=>aW d ((k.add 12).add 0) (ap a) λa=>aW a ((k.add 12).add 1) (ap e) λa=>aW a ((k.add 12).add 2) (ap f) λa=>aW a ((k.add 12).add 3) (ap g) λa=>aW a ((k.add 12).add 4) (ap i) λa=>aW a ((k.add 12).add 5) (ap j) λa=>aW a ((k.add 12).add 6) (.int .u8 b) λa=>aY c λb=>aW a ((b.add 19).add 0) aC λa=>aY c λb=>aW a ((b.add 20).add 0) (ap 0) λa=>K (ap 0) a)))):Cl 24 [au a,ap i,.agg #[ap j,ap k,ap l,ap m,ap n,ap o,.int .u8 p]] h K:=cN Tryz.func24 H
def F26.T:bi:=⟨[(4,[0,1,2,23]),(11,[0,1,2])],[]⟩
section
variable (n:Nat)(b:Addr)(c d a:Int)(h:aI)(K:KK)
def F26.wL4:Prop:=Lp Tryz.f26 F26.T [1,1,0,1,0] n [(0,(au b)),(1,(ap c)),(2,(ap d)),(23,(ap a))] h K
def F26.wk11:Prop:=Cl 80 [au b] h λa e=>a=aE/\a8 (rd e (b.add 1)) λa=>Cl 81 [aA a,ap c,ap d] e λa b=>bP (some a) λ_=>K aC b
def F26.sL4:F26.wL4 (n+1) b c d a h K=(aK (a<4) ((0<=a/\a<4/\bP (rd h (((b.add 3).add (a.toNat*24)).add 19)) λe=>aK e (aQ .i64 (rd h ((((b.add 3).add (a.toNat*24)).add 12).add 0)) λe=>aQ .i64 (rd h ((((b.add 3).add (a.toNat*24)).add 12).add 1)) λf=>aQ .i64 (rd h ((((b.add 3).add (a.toNat*24)).add 12).add 2)) λg=>aQ .i64 (rd h ((((b.add 3).add (a.toNat*24)).add 12).add 3)) λi=>aQ .i64 (rd h ((((b.add 3).add (a.toNat*24)).add 12).add 4)) λj=>aQ .i64 (rd h ((((b.add 3).add (a.toNat*24)).add 12).add 5)) λk=>aQ .u8 (rd h ((((b.add 3).add (a.toNat*24)).add 12).add 6)) λl=>Cl 79 [au b,.agg #[ap e,ap f,ap g,ap i,ap j,ap k,.int .u8 l]] h λe f=>lV (some e) λe=>eD Tryz.prog X e [au ((b.add 3).add (a.toNat*24))] f λe f=>bP (some e) λ_=>F26.wL4 n b c d (ax (a+1)) f K) (F26.wL4 n b c d (ax (a+1)) h K))) (F26.wk11 b c d h K)):=by kernel_rfl
def F26.wk4:Prop:=(∃e,F26.wL4 e b c d a h K)
def F26.spec(H:aK (c<0) (K aB h) (Cl 27 [au b] h λa e=>aQ .i64 (some a) λa=>aK (c>=a) (K aB e) (Cl 78 [au b] e λa e=>bP (some a) λa=>aK (!a) (K aB e) (F26.wk4 b c d 0 e K)))):Cl 26 [au b,ap c,ap d] h K:=cT F26.T Tryz.func26 H
end
def F27.spec{a:Addr}(H:a8 (rd h (a.add 1)) λa=>Cl 68 [aA a] h λa b=>aQ .i64 (some a) λa=>K (ap a) b):Cl 27 [au a] h K:=cN Tryz.func27 H
def F28.T:bi:=⟨[],[(4,[[(0,[]),(1,[]),(2,[]),(3,[]),(4,[]),(5,[]),(6,[]),(7,[]),(8,[]),(9,[]),(10,[]),(11,[]),(12,[]),(13,[]),(14,[]),(15,[])]])]⟩
def F28.spec{j:Int}{a:Addr}(H:Cl 76 [au a,ap i] h λa b=>a8 (some a) λa=>aK (Option.isNone a) (K (.tuple #[aq 0,aB]) b) (Cl 82 [ap j] b λb c=>bP (some b) λb=>aK (!b) (K (.tuple #[aq 0,aB]) c) (aY a λb=>0<=j/\j<6/\aQ .u32 (rd c (((b.add 0).add (j.toNat*2)).add 1)) λb=>aY a λa=>0<=j/\j<6/\bP (rd c (((a.add 0).add (j.toNat*2)).add 0)) λa=>K (.tuple #[aq b,aD a]) c))):Cl 28 [au a,ap i,ap j] h K:=cT F28.T Tryz.func28 H
def F43.spec{a:Addr}(H:bf h (.cells #[ap 0,ar 0] 76) λb c=>Cl 76 [au a,ap i] c λa c=>a8 (some a) λa=>aK (Option.isNone a) (aW c ((aw b).add 0) (ap 0) λa=>aW a ((aw b).add 1) (ar 0) λa=>aQ .i64 (rd a ((aw b).add 0)) λc=>aQ .u64 (rd a ((aw b).add 1)) λb=>K (.tuple #[.agg #[ap c,ar b],aB]) a) (aY a λd=>bP (rd c (d.add 23)) λd=>aK (!d) (aW c ((aw b).add 0) (ap 0) λa=>aW a ((aw b).add 1) (ar 0) λa=>aQ .i64 (rd a ((aw b).add 0)) λc=>aQ .u64 (rd a ((aw b).add 1)) λb=>K (.tuple #[.agg #[ap c,ar b],aB]) a) (aY a λa=>aQ .i64 (rd c ((a.add 21).add 0)) λd=>aQ .u64 (rd c ((a.add 21).add 1)) λa=>aW c ((aw b).add 0) (ap d) λc=>aW c ((aw b).add 1) (ar a) λa=>aQ .i64 (rd a ((aw b).add 0)) λc=>aQ .u64 (rd a ((aw b).add 1)) λb=>K (.tuple #[.agg #[ap c,ar b],aC]) a))):Cl 43 [au a,ap i] h K:=cN Tryz.func43 H
def F56.spec{a:Addr}(H:Cl 76 [au a,ap i] h λa b=>a8 (some a) λa=>aK (!(Option.isNone a)) (aY a λa=>bP (rd b (a.add 19)) λa=>K (aD a) b) (K aB b)):Cl 56 [au a,ap i] h K:=cN Tryz.func56 H
def F76.spec{i:Int}{a:Addr}(H:aK (i<0) (K (aA none) h) (aK (i>=4) (K (aA none) h) ((0<=i/\i<4/\K (au ((a.add 3).add (i.toNat*24))) h)))):Cl 76 [au a,ap i] h K:=cN Tryz.func76 H
def F77.T:bi:=⟨[(6,[0,1,5,28,29,30]),(11,[0,5])],[(11,[[(0,[]),(1,[]),(2,[]),(3,[]),(4,[]),(5,[]),(6,[]),(7,[0,1,2]),(8,[]),(9,[]),(10,[])]]),(12,[[(0,[]),(1,[]),(2,[]),(3,[]),(4,[]),(5,[]),(6,[]),(7,[0,1,2]),(8,[]),(9,[])]])]⟩
section
variable (n:Nat)(i j:Addr)(l o q r s t u:Int)(a:Addr)(c:az)(b f:Nat)(g d:Int)(h:aI)(K:KK)
def F77.wL6:Prop:=Lp Tryz.f77 F77.T [1,1,1,0,1,0] n [(0,(au i)),(1,(au j)),(5,(au a)),(28,(.slice c b f)),(29,(ap g)),(30,(ap d))] h K
def F77.wk11:Prop:=aQ .u8 (rd h (a.add 6)) λb=>a8 (rd h (i.add 0)) λc=>Cl 75 [aA c] h λc d=>aQ .i64 (some c) λc=>aF (au (a.add 6))/\aQ .u8 (rd d (a.add 6)) λe=>aG (.int .u8 e) (.int .u8 b)/\aF (ap (ax b))/\0<=c/\aQ .u8 (rd d (a.add 6)) λe=>a8 (rd d (i.add 0)) λf=>Cl 75 [aA f] d λd f=>aQ .i64 (some d) λd=>aF (au (a.add 6))/\aQ .u8 (rd f (a.add 6)) λg=>aG (.int .u8 g) (.int .u8 e)/\aF (ap (ax e))/\aQ .i64 (rd f (a.add 0)) λg=>aK (g==3) (aQ .i64 (rd f (a.add 1)) λg=>Cl 122 [ap g] f λf g=>aQ .i64 (some f) λf=>aK (f==0) (K (ap 200) g) (aQ .i64 (rd g (a.add 0)) λf=>aK (f==1) (aK ((ax e)>=d) (aK ((ax e)>=d) (K (ap 40) g) (aQ .i64 (rd g (a.add 0)) λd=>aK (d==3) (aQ .i64 (rd g (a.add 1)) λd=>aK (d==6) (aK ((Int.fdiv (ax b) (2^(min (c.toNat) (IntKind.bits .i64)))) !=0) (K (ap 40) g) (K (ap 0) g)) (aQ .i64 (rd g (a.add 1)) λa=>aK (a==7) (aK ((Int.fdiv (ax b) (2^(min (c.toNat) (IntKind.bits .i64)))) !=0) (K (ap 40) g) (K (ap 0) g)) (K (ap 0) g))) (K (ap 0) g))) (aQ .i64 (rd g (a.add 0)) λf=>aK (f==3) (aQ .i64 (rd g (a.add 1)) λf=>aK (f==8) (aK ((ax e)>=d) (K (ap 40) g) (aQ .i64 (rd g (a.add 0)) λd=>aK (d==3) (aQ .i64 (rd g (a.add 1)) λd=>aK (d==6) (aK ((Int.fdiv (ax b) (2^(min (c.toNat) (IntKind.bits .i64)))) !=0) (K (ap 40) g) (K (ap 0) g)) (aQ .i64 (rd g (a.add 1)) λa=>aK (a==7) (aK ((Int.fdiv (ax b) (2^(min (c.toNat) (IntKind.bits .i64)))) !=0) (K (ap 40) g) (K (ap 0) g)) (K (ap 0) g))) (K (ap 0) g))) (aQ .i64 (rd g (a.add 0)) λd=>aK (d==3) (aQ .i64 (rd g (a.add 1)) λd=>aK (d==6) (aK ((Int.fdiv (ax b) (2^(min (c.toNat) (IntKind.bits .i64)))) !=0) (K (ap 40) g) (K (ap 0) g)) (aQ .i64 (rd g (a.add 1)) λa=>aK (a==7) (aK ((Int.fdiv (ax b) (2^(min (c.toNat) (IntKind.bits .i64)))) !=0) (K (ap 40) g) (K (ap 0) g)) (K (ap 0) g))) (K (ap 0) g))) (aQ .i64 (rd g (a.add 0)) λd=>aK (d==3) (aQ .i64 (rd g (a.add 1)) λd=>aK (d==6) (aK ((Int.fdiv (ax b) (2^(min (c.toNat) (IntKind.bits .i64)))) !=0) (K (ap 40) g) (K (ap 0) g)) (aQ .i64 (rd g (a.add 1)) λa=>aK (a==7) (aK ((Int.fdiv (ax b) (2^(min (c.toNat) (IntKind.bits .i64)))) !=0) (K (ap 40) g) (K (ap 0) g)) (K (ap 0) g))) (K (ap 0) g)))) (aQ .i64 (rd g (a.add 0)) λf=>aK (f==3) (aQ .i64 (rd g (a.add 1)) λf=>aK (f==8) (aK ((ax e)>=d) (K (ap 40) g) (aQ .i64 (rd g (a.add 0)) λd=>aK (d==3) (aQ .i64 (rd g (a.add 1)) λd=>aK (d==6) (aK ((Int.fdiv (ax b) (2^(min (c.toNat) (IntKind.bits .i64)))) !=0) (K (ap 40) g) (K (ap 0) g)) (aQ .i64 (rd g (a.add 1)) λa=>aK (a==7) (aK ((Int.fdiv (ax b) (2^(min (c.toNat) (IntKind.bits .i64)))) !=0) (K (ap 40) g) (K (ap 0) g)) (K (ap 0) g))) (K (ap 0) g))) (aQ .i64 (rd g (a.add 0)) λd=>aK (d==3) (aQ .i64 (rd g (a.add 1)) λd=>aK (d==6) (aK ((Int.fdiv (ax b) (2^(min (c.toNat) (IntKind.bits .i64)))) !=0) (K (ap 40) g) (K (ap 0) g)) (aQ .i64 (rd g (a.add 1)) λa=>aK (a==7) (aK ((Int.fdiv (ax b) (2^(min (c.toNat) (IntKind.bits .i64)))) !=0) (K (ap 40) g) (K (ap 0) g)) (K (ap 0) g))) (K (ap 0) g))) (aQ .i64 (rd g (a.add 0)) λd=>aK (d==3) (aQ .i64 (rd g (a.add 1)) λd=>aK (d==6) (aK ((Int.fdiv (ax b) (2^(min (c.toNat) (IntKind.bits .i64)))) !=0) (K (ap 40) g) (K (ap 0) g)) (aQ .i64 (rd g (a.add 1)) λa=>aK (a==7) (aK ((Int.fdiv (ax b) (2^(min (c.toNat) (IntKind.bits .i64)))) !=0) (K (ap 40) g) (K (ap 0) g)) (K (ap 0) g))) (K (ap 0) g))))) (aQ .i64 (rd f (a.add 0)) λg=>aK (g==1) (aK ((ax e)>=d) (aK ((ax e)>=d) (K (ap 40) f) (aQ .i64 (rd f (a.add 0)) λd=>aK (d==3) (aQ .i64 (rd f (a.add 1)) λd=>aK (d==6) (aK ((Int.fdiv (ax b) (2^(min (c.toNat) (IntKind.bits .i64)))) !=0) (K (ap 40) f) (K (ap 0) f)) (aQ .i64 (rd f (a.add 1)) λa=>aK (a==7) (aK ((Int.fdiv (ax b) (2^(min (c.toNat) (IntKind.bits .i64)))) !=0) (K (ap 40) f) (K (ap 0) f)) (K (ap 0) f))) (K (ap 0) f))) (aQ .i64 (rd f (a.add 0)) λg=>aK (g==3) (aQ .i64 (rd f (a.add 1)) λg=>aK (g==8) (aK ((ax e)>=d) (K (ap 40) f) (aQ .i64 (rd f (a.add 0)) λd=>aK (d==3) (aQ .i64 (rd f (a.add 1)) λd=>aK (d==6) (aK ((Int.fdiv (ax b) (2^(min (c.toNat) (IntKind.bits .i64)))) !=0) (K (ap 40) f) (K (ap 0) f)) (aQ .i64 (rd f (a.add 1)) λa=>aK (a==7) (aK ((Int.fdiv (ax b) (2^(min (c.toNat) (IntKind.bits .i64)))) !=0) (K (ap 40) f) (K (ap 0) f)) (K (ap 0) f))) (K (ap 0) f))) (aQ .i64 (rd f (a.add 0)) λd=>aK (d==3) (aQ .i64 (rd f (a.add 1)) λd=>aK (d==6) (aK ((Int.fdiv (ax b) (2^(min (c.toNat) (IntKind.bits .i64)))) !=0) (K (ap 40) f) (K (ap 0) f)) (aQ .i64 (rd f (a.add 1)) λa=>aK (a==7) (aK ((Int.fdiv (ax b) (2^(min (c.toNat) (IntKind.bits .i64)))) !=0) (K (ap 40) f) (K (ap 0) f)) (K (ap 0) f))) (K (ap 0) f))) (aQ .i64 (rd f (a.add 0)) λd=>aK (d==3) (aQ .i64 (rd f (a.add 1)) λd=>aK (d==6) (aK ((Int.fdiv (ax b) (2^(min (c.toNat) (IntKind.bits .i64)))) !=0) (K (ap 40) f) (K (ap 0) f)) (aQ .i64 (rd f (a.add 1)) λa=>aK (a==7) (aK ((Int.fdiv (ax b) (2^(min (c.toNat) (IntKind.bits .i64)))) !=0) (K (ap 40) f) (K (ap 0) f)) (K (ap 0) f))) (K (ap 0) f)))) (aQ .i64 (rd f (a.add 0)) λg=>aK (g==3) (aQ .i64 (rd f (a.add 1)) λg=>aK (g==8) (aK ((ax e)>=d) (K (ap 40) f) (aQ .i64 (rd f (a.add 0)) λd=>aK (d==3) (aQ .i64 (rd f (a.add 1)) λd=>aK (d==6) (aK ((Int.fdiv (ax b) (2^(min (c.toNat) (IntKind.bits .i64)))) !=0) (K (ap 40) f) (K (ap 0) f)) (aQ .i64 (rd f (a.add 1)) λa=>aK (a==7) (aK ((Int.fdiv (ax b) (2^(min (c.toNat) (IntKind.bits .i64)))) !=0) (K (ap 40) f) (K (ap 0) f)) (K (ap 0) f))) (K (ap 0) f))) (aQ .i64 (rd f (a.add 0)) λd=>aK (d==3) (aQ .i64 (rd f (a.add 1)) λd=>aK (d==6) (aK ((Int.fdiv (ax b) (2^(min (c.toNat) (IntKind.bits .i64)))) !=0) (K (ap 40) f) (K (ap 0) f)) (aQ .i64 (rd f (a.add 1)) λa=>aK (a==7) (aK ((Int.fdiv (ax b) (2^(min (c.toNat) (IntKind.bits .i64)))) !=0) (K (ap 40) f) (K (ap 0) f)) (K (ap 0) f))) (K (ap 0) f))) (aQ .i64 (rd f (a.add 0)) λd=>aK (d==3) (aQ .i64 (rd f (a.add 1)) λd=>aK (d==6) (aK ((Int.fdiv (ax b) (2^(min (c.toNat) (IntKind.bits .i64)))) !=0) (K (ap 40) f) (K (ap 0) f)) (aQ .i64 (rd f (a.add 1)) λa=>aK (a==7) (aK ((Int.fdiv (ax b) (2^(min (c.toNat) (IntKind.bits .i64)))) !=0) (K (ap 40) f) (K (ap 0) f)) (K (ap 0) f))) (K (ap 0) f))))
def F77.sL6:F77.wL6 (n+1) i j a c b f g d h K=(aK (d<g) (aY c λe=>0<=d/\d<(b:Int)/\aQ .i64 (rd h (e.add (d.toNat*1))) λe=>Cl 82 [ap e] h λk l=>bP (some k) λk=>aK (!k) (K (ap 221) l) ((0<=e/\e<6/\bP (rd l (((j.add 0).add (e.toNat*2)).add 0)) λe=>aK (!e) (K (ap 221) l) (F77.wL6 n i j a c b f g (ax (d+1)) l K)))) (F77.wk11 i a h K)):=by kernel_rfl
def F77.wk6:Prop:=(∃e,F77.wL6 e i j a c b f g d h K)
def F77.spec(H:bf h (.cells #[ap l,ap o,ap q,ap r,ap s,ap t,.int .u8 u] 41) λa b=>aQ .i64 (rd b ((aw a).add 0)) λc=>aK (c<1) (K (ap 222) b) (aQ .i64 (rd b ((aw a).add 0)) λc=>aK (c>8) (K (ap 222) b) (aQ .i64 (rd b ((aw a).add 0)) λc=>aQ .i64 (rd b ((aw a).add 1)) λd=>aQ .i64 (rd b ((aw a).add 2)) λe=>aQ .i64 (rd b ((aw a).add 3)) λf=>aQ .i64 (rd b ((aw a).add 4)) λg=>aQ .i64 (rd b ((aw a).add 5)) λk=>aQ .u8 (rd b ((aw a).add 6)) λl=>Cl 120 [.agg #[ap c,ap d,ap e,ap f,ap g,ap k,.int .u8 l]] b λb c=>bP (some b) λb=>aK b (aQ .i64 (rd c ((aw a).add 2)) λb=>Cl 82 [ap b] c λb c=>bP (some b) λb=>aK (!b) (K (ap 221) c) (aQ .i64 (rd c ((aw a).add 0)) λb=>aQ .i64 (rd c ((aw a).add 1)) λd=>aQ .i64 (rd c ((aw a).add 2)) λe=>aQ .i64 (rd c ((aw a).add 3)) λf=>aQ .i64 (rd c ((aw a).add 4)) λg=>aQ .i64 (rd c ((aw a).add 5)) λk=>aQ .u8 (rd c ((aw a).add 6)) λl=>Cl 121 [.agg #[ap b,ap d,ap e,ap f,ap g,ap k,.int .u8 l]] c λb c=>cx (some b) λb d e=>F77.wk6 i j (aw a) b d e (d:Int) 0 c K)) (aQ .i64 (rd c ((aw a).add 0)) λb=>aQ .i64 (rd c ((aw a).add 1)) λd=>aQ .i64 (rd c ((aw a).add 2)) λe=>aQ .i64 (rd c ((aw a).add 3)) λf=>aQ .i64 (rd c ((aw a).add 4)) λg=>aQ .i64 (rd c ((aw a).add 5)) λk=>aQ .u8 (rd c ((aw a).add 6)) λl=>Cl 121 [.agg #[ap b,ap d,ap e,ap f,ap g,ap k,.int .u8 l]] c λb c=>cx (some b) λb d e=>F77.wk6 i j (aw a) b d e (d:Int) 0 c K)))):Cl 77 [au i,au j,.agg #[ap l,ap o,ap q,ap r,ap s,ap t,.int .u8 u]] h K:=cT F77.T Tryz.func77 H
end
def F78.T:bi:=⟨[(2,[8,9])],[]⟩
section
variable (n:Nat)(c:Addr)(b:List Value)(a:Int)(h:aI)(K:KK)
def F78.wL2:Prop:=Lp Tryz.f78 F78.T [1,0,1,0] n [(8,(.agg (List.toArray b))),(9,(ap a))] h K
def F78.sL2:F78.wL2 (n+1) b a h K=(aK (a<4) ((0<=a/\a<4/\bP (b[a.toNat*24+0]?) λc=>aQ .u32 (b[a.toNat*24+1]?) λd=>bP (b[a.toNat*24+2]?) λe=>aQ .u32 (b[a.toNat*24+3]?) λf=>bP (b[a.toNat*24+4]?) λg=>aQ .u32 (b[a.toNat*24+5]?) λi=>bP (b[a.toNat*24+6]?) λj=>aQ .u32 (b[a.toNat*24+7]?) λk=>bP (b[a.toNat*24+8]?) λl=>aQ .u32 (b[a.toNat*24+9]?) λm=>bP (b[a.toNat*24+10]?) λo=>aQ .u32 (b[a.toNat*24+11]?) λp=>aQ .i64 (b[a.toNat*24+12]?) λq=>aQ .i64 (b[a.toNat*24+13]?) λr=>aQ .i64 (b[a.toNat*24+14]?) λs=>aQ .i64 (b[a.toNat*24+15]?) λt=>aQ .i64 (b[a.toNat*24+16]?) λu=>aQ .i64 (b[a.toNat*24+17]?) λv=>aQ .u8 (b[a.toNat*24+18]?) λw=>bP (b[a.toNat*24+19]?) λx=>aQ .i64 (b[a.toNat*24+20]?) λy=>aQ .i64 (b[a.toNat*24+21]?) λz=>aQ .u64 (b[a.toNat*24+22]?) λA=>bP (b[a.toNat*24+23]?) λB=>bf h (.cells #[aB,aq 0,aB,aq 0,aB,aq 0,aB,aq 0,aB,aq 0,aB,aq 0,ap 0,ap 0,ap 0,ap 0,ap 0,ap 0,.int .u8 0,aB,ap 0,ap 0,ar 0,aB] 129) λC D=>aW D ((aw C).add 0) (aD c) λc=>aW c ((aw C).add 1) (aq d) λc=>aW c ((aw C).add 2) (aD e) λc=>aW c ((aw C).add 3) (aq f) λc=>aW c ((aw C).add 4) (aD g) λc=>aW c ((aw C).add 5) (aq i) λc=>aW c ((aw C).add 6) (aD j) λc=>aW c ((aw C).add 7) (aq k) λc=>aW c ((aw C).add 8) (aD l) λc=>aW c ((aw C).add 9) (aq m) λc=>aW c ((aw C).add 10) (aD o) λc=>aW c ((aw C).add 11) (aq p) λc=>aW c ((aw C).add 12) (ap q) λc=>aW c ((aw C).add 13) (ap r) λc=>aW c ((aw C).add 14) (ap s) λc=>aW c ((aw C).add 15) (ap t) λc=>aW c ((aw C).add 16) (ap u) λc=>aW c ((aw C).add 17) (ap v) λc=>aW c ((aw C).add 18) (.int .u8 w) λc=>aW c ((aw C).add 19) (aD x) λc=>aW c ((aw C).add 20) (ap y) λc=>aW c ((aw C).add 21) (ap z) λc=>aW c ((aw C).add 22) (ar A) λc=>aW c ((aw C).add 23) (aD B) λc=>bP (rd c ((aw C).add 19)) λd=>aK d (K aC c) (F78.wL2 n b (ax (a+1)) c K))) (K aB h)):=by kernel_rfl
def F78.wk2:Prop:=(∃c,F78.wL2 c b a h K)
def F78.spec(H:IB h (c.add 3) 96 λa=>F78.wk2 a 0 h K):Cl 78 [au c] h K:=cT F78.T Tryz.func78 H
end
def F79.spec(H:bf h (.cells #[ap i,ap j,ap k,ap l,ap m,ap n,.int .u8 o] 41) λb c=>aQ .i64 (rd c ((aw b).add 0)) λb=>aK (b==1) (aK (b==1) (K (.func (.func 123) #[au a] #[]) c) (aK (b==4) (aK (b==4) (K (.func (.func 124) #[au a] #[]) c) (aK (b==7) (K (.func (.func 125) #[au a] #[]) c) (aK (b==8) (K (.func (.func 126) #[au a] #[]) c) (K (.func (.func 127) #[au a] #[]) c)))) (aK (b==5) (K (.func (.func 124) #[au a] #[]) c) (aK (b==7) (K (.func (.func 125) #[au a] #[]) c) (aK (b==8) (K (.func (.func 126) #[au a] #[]) c) (K (.func (.func 127) #[au a] #[]) c)))))) (aK (b==2) (aK (b==2) (K (.func (.func 123) #[au a] #[]) c) (aK (b==4) (aK (b==4) (K (.func (.func 124) #[au a] #[]) c) (aK (b==7) (K (.func (.func 125) #[au a] #[]) c) (aK (b==8) (K (.func (.func 126) #[au a] #[]) c) (K (.func (.func 127) #[au a] #[]) c)))) (aK (b==5) (K (.func (.func 124) #[au a] #[]) c) (aK (b==7) (K (.func (.func 125) #[au a] #[]) c) (aK (b==8) (K (.func (.func 126) #[au a] #[]) c) (K (.func (.func 127) #[au a] #[]) c)))))) (aK (b==6) (K (.func (.func 123) #[au a] #[]) c) (aK (b==4) (aK (b==4) (K (.func (.func 124) #[au a] #[]) c) (aK (b==7) (K (.func (.func 125) #[au a] #[]) c) (aK (b==8) (K (.func (.func 126) #[au a] #[]) c) (K (.func (.func 127) #[au a] #[]) c)))) (aK (b==5) (K (.func (.func 124) #[au a] #[]) c) (aK (b==7) (K (.func (.func 125) #[au a] #[]) c) (aK (b==8) (K (.func (.func 126) #[au a] #[]) c) (K (.func (.func 127) #[au a] #[]) c)))))))):Cl 79 [au a,.agg #[ap i,ap j,ap k,ap l,ap m,ap n,.int .u8 o]] h K:=cN Tryz.func79 H
def F80.T:bi:=⟨[],[(0,[[(0,[]),(1,[]),(2,[]),(3,[]),(5,[]),(6,[]),(7,[]),(8,[]),(4,[5,6,7,8]),(9,[]),(10,[])]])]⟩
def F80.spec{a:Addr}(H:a8 (rd h (a.add 0)) λb=>a8 (rd h (a.add 0)) λc=>Cl 45 [aA b] h λb d=>aQ .i64 (some b) λb=>aF (au a)/\aF (au a)/\aF (au (a.add 0))/\a8 (rd d (a.add 0)) λe=>aG (aA e) (aA c)/\Cl 70 [aA c] d λc d=>aQ .i64 (some c) λc=>aK (b>=c) (Cl 128 [au a] d λa b=>a=aE/\K aE b) (K aE d)):Cl 80 [au a] h K:=cT F80.T Tryz.func80 H
def F82.spec(H:aK (i>=0) (K (aD (i<6)) h) (K aB h)):Cl 82 [ap i] h K:=cN Tryz.func82 H
def F120.spec(H:bf h (.cells #[ap i,ap j,ap k,ap l,ap m,ap n,.int .u8 o] 41) λa b=>aQ .i64 (rd b ((aw a).add 0)) λc=>aK (c>=1) (aQ .i64 (rd b ((aw a).add 0)) λc=>aK (c<=3) (K aC b) (aQ .i64 (rd b ((aw a).add 0)) λa=>K (aD (a==6)) b)) (aQ .i64 (rd b ((aw a).add 0)) λa=>K (aD (a==6)) b)):Cl 120 [.agg #[ap i,ap j,ap k,ap l,ap m,ap n,.int .u8 o]] h K:=cN Tryz.func120 H
def F121.T:bi:=⟨[],[(7,[[(0,[]),(1,[]),(2,[]),(3,[]),(4,[]),(5,[]),(7,[]),(8,[]),(6,[7,8]),(9,[0,1,2,3,4,5]),(10,[]),(11,[])],[(0,[]),(1,[]),(2,[]),(3,[]),(4,[]),(5,[]),(7,[]),(8,[]),(9,[0,1,2,3,4,5]),(6,[7,8]),(10,[]),(11,[])]])]⟩
def F121.spec(H:bf h (.cells #[ap i,ap j,ap k,ap l,ap m,ap n,.int .u8 o] 41) λa b=>aQ .i64 (rd b ((aw a).add 0)) λc=>aK (c==4) (aQ .i64 (rd b ((aw a).add 3)) λa=>bf b (.cells #[ap a] 3) λa b=>K (.slice (some (aw a)) 1 1) b) (aK (c==5) (aQ .i64 (rd b ((aw a).add 3)) λc=>aQ .i64 (rd b ((aw a).add 4)) λa=>bf b (.cells #[ap c,ap a] 3) λa b=>K (.slice (some (aw a)) 2 2) b) (aK (c==3) ((aQ .i64 (rd b ((aw a).add 3)) (λc=>aQ .i64 (rd b ((aw a).add 4)) λd=>aQ .i64 (rd b ((aw a).add 5)) λe=>aQ .i64 (rd b ((aw a).add 1)) λf=>bf b (.cells #[ap c,ap d,ap e] 3) λb g=>aF (au ((aw a).add 1))/\aQ .i64 (rd g ((aw a).add 1)) λi=>aG (ap i) (ap f)/\Cl 122 [ap f] g λf g=>aQ .i64 (some f) λf=>aF (au ((aw a).add 3))/\aQ .i64 (rd g ((aw a).add 3)) λi=>aG (ap i) (ap c)/\aF (au ((aw a).add 4))/\aQ .i64 (rd g ((aw a).add 4)) λc=>aG (ap c) (ap d)/\aF (au ((aw a).add 5))/\aQ .i64 (rd g ((aw a).add 5)) λa=>aG (ap a) (ap e)/\0<=f/\f<=3/\K (.slice (if 3=0 then(some (aw b))else Option.map (λa=>Addr.add a (0*1)) (some (aw b))) (f.toNat-0) (3-0)) g)/\aQ .i64 (rd b ((aw a).add 3)) λc=>aQ .i64 (rd b ((aw a).add 4)) λd=>aQ .i64 (rd b ((aw a).add 5)) λe=>aQ .i64 (rd b ((aw a).add 1)) λf=>Cl 122 [ap f] b λb g=>aQ .i64 (some b) λb=>aF (au ((aw a).add 3))/\aQ .i64 (rd g ((aw a).add 3)) λi=>aG (ap i) (ap c)/\aF (au ((aw a).add 4))/\aQ .i64 (rd g ((aw a).add 4)) λi=>aG (ap i) (ap d)/\aF (au ((aw a).add 5))/\aQ .i64 (rd g ((aw a).add 5)) λi=>aG (ap i) (ap e)/\bf g (.cells #[ap c,ap d,ap e] 3) λc d=>aF (au ((aw a).add 1))/\aQ .i64 (rd d ((aw a).add 1)) λa=>aG (ap a) (ap f)/\0<=b/\b<=3/\K (.slice (if 3=0 then(some (aw c))else Option.map (λa=>Addr.add a (0*1)) (some (aw c))) (b.toNat-0) (3-0)) d)) (K (.slice none 0 0) b)))):Cl 121 [.agg #[ap i,ap j,ap k,ap l,ap m,ap n,.int .u8 o]] h K:=cT F121.T Tryz.func121 H
def F122.spec(H:aK (i==1) (aK (i==1) (K (ap 1) h) (aK (i==2) (aK (i==2) (K (ap 2) h) (aK (i==5) (K (ap 3) h) (K (ap 0) h))) (aK (i==3) (aK (i==3) (K (ap 2) h) (aK (i==5) (K (ap 3) h) (K (ap 0) h))) (aK (i==4) (aK (i==4) (K (ap 2) h) (aK (i==5) (K (ap 3) h) (K (ap 0) h))) (aK (i==8) (aK (i==8) (K (ap 2) h) (aK (i==5) (K (ap 3) h) (K (ap 0) h))) (aK (i==9) (aK (i==9) (K (ap 2) h) (aK (i==5) (K (ap 3) h) (K (ap 0) h))) (aK (i==10) (K (ap 2) h) (aK (i==5) (K (ap 3) h) (K (ap 0) h))))))))) (aK (i==6) (aK (i==6) (K (ap 1) h) (aK (i==2) (aK (i==2) (K (ap 2) h) (aK (i==5) (K (ap 3) h) (K (ap 0) h))) (aK (i==3) (aK (i==3) (K (ap 2) h) (aK (i==5) (K (ap 3) h) (K (ap 0) h))) (aK (i==4) (aK (i==4) (K (ap 2) h) (aK (i==5) (K (ap 3) h) (K (ap 0) h))) (aK (i==8) (aK (i==8) (K (ap 2) h) (aK (i==5) (K (ap 3) h) (K (ap 0) h))) (aK (i==9) (aK (i==9) (K (ap 2) h) (aK (i==5) (K (ap 3) h) (K (ap 0) h))) (aK (i==10) (K (ap 2) h) (aK (i==5) (K (ap 3) h) (K (ap 0) h))))))))) (aK (i==7) (K (ap 1) h) (aK (i==2) (aK (i==2) (K (ap 2) h) (aK (i==5) (K (ap 3) h) (K (ap 0) h))) (aK (i==3) (aK (i==3) (K (ap 2) h) (aK (i==5) (K (ap 3) h) (K (ap 0) h))) (aK (i==4) (aK (i==4) (K (ap 2) h) (aK (i==5) (K (ap 3) h) (K (ap 0) h))) (aK (i==8) (aK (i==8) (K (ap 2) h) (aK (i==5) (K (ap 3) h) (K (ap 0) h))) (aK (i==9) (aK (i==9) (K (ap 2) h) (aK (i==5) (K (ap 3) h) (K (ap 0) h))) (aK (i==10) (K (ap 2) h) (aK (i==5) (K (ap 3) h) (K (ap 0) h))))))))))):Cl 122 [ap i] h K:=cN Tryz.func122 H
def F123.T:bi:=⟨[(8,[0,1,5])],[]⟩
section
variable (b a:Addr)(c:Int)(h:aI)(K:KK)
def F123.wk8:Prop:=Cl 168 [au b,au a,.agg #[ap c,ar 0]] h λa b=>a=aE/\K aC b
end
def F123.spec{b:Addr}(H:aQ .i64 (rd h ((b.add 12).add 0)) λc=>aK (c==1) (Cl 165 [au a,au b] h λc d=>aQ .i64 (some c) λc=>F123.wk8 a b c d K) (aK (c==6) (Cl 166 [au a,au b] h λc d=>c=aE/\F123.wk8 a b 0 d K) (aQ .u8 (rd h ((b.add 12).add 6)) λc=>Cl 167 [au a,au b,aq (IntKind.wrap .u32 (if 1<c then 1 else c))] h λc d=>c=aE/\F123.wk8 a b 0 d K))):Cl 123 [au a,au b] h K:=cT F123.T Tryz.func123 H
def F124.spec(H:Cl 169 [au a,au b] h λc d=>aQ .u64 (some c) λc=>Cl 168 [au a,au b,.agg #[ap 0,ar c]] d λa b=>a=aE/\K aC b):Cl 124 [au a,au b] h K:=cN Tryz.func124 H
def F125.spec(H:Cl 128 [au a] h λc d=>c=aE/\Cl 168 [au a,au b,.agg #[ap 0,ar 0]] d λa b=>a=aE/\K aC b):Cl 125 [au a,au b] h K:=cN Tryz.func125 H
def F126.spec(H:Cl 170 [au a] h λc d=>bP (some c) λc=>aK c (K aB d) (Cl 171 [au a] d λc d=>c=aE/\Cl 168 [au a,au b,.agg #[ap 0,ar 0]] d λa b=>a=aE/\K aC b)):Cl 126 [au a,au b] h K:=cN Tryz.func126 H
def F127.T:bi:=⟨[(8,[0,1,6])],[(3,[[(0,[]),(1,[]),(2,[]),(3,[]),(4,[]),(5,[]),(6,[]),(7,[]),(8,[]),(9,[]),(10,[]),(11,[]),(12,[]),(13,[])]]),(8,[[(0,[]),(1,[]),(2,[]),(3,[]),(4,[]),(5,[]),(6,[]),(7,[]),(8,[])]])]⟩
section
variable (b a:Addr)(c:Int)(h:aI)(K:KK)
def F127.wk8:Prop:=a8 (rd h (b.add 1)) λd=>aQ .i64 (rd h (a.add 20)) λe=>Cl 36 [aA d,ap e] h λd e=>bP (some d) λ_=>Cl 168 [au b,au a,.agg #[ap c,ar 0]] e λa b=>a=aE/\K aC b
end
def F127.spec{a b:Addr}(H:aQ .i64 (rd h (b.add 20)) λc=>aK (c==0) (Cl 172 [au a,au b] h λa b=>bP (some a) λa=>K (aD a) b) (a8 (rd h (a.add 1)) λc=>aQ .i64 (rd h (b.add 20)) λd=>Cl 38 [aA c,ap d] h λc d=> ∃e:Int,∃f:Int,c=(.tuple #[aq e,ap f])/\aK (f==61) (K aB d) (aK (f==0) (Cl 167 [au a,au b,aq e] d λc d=>c=aE/\F127.wk8 a b f d K) (F127.wk8 a b f d K)))):Cl 127 [au a,au b] h K:=cT F127.T Tryz.func127 H
def F128.T:bi:=⟨[(2,[0,2,10,11,12]),(6,[0,2]),(8,[0,33,34])],[(6,[[(0,[]),(1,[]),(2,[]),(3,[]),(4,[]),(5,[]),(6,[]),(7,[]),(8,[])]])]⟩
section
variable (n:Nat)(a:Addr)(j:az)(f i:Nat)(c:az)(b g:Nat)(l d o q:Int)(h:aI)(K:KK)
def F128.wL8:Prop:=Lp Tryz.f128 F128.T [1,1,1,1,0] n [(0,(au a)),(33,(ap o)),(34,(ap q))] h K
def F128.wL2:Prop:=Lp Tryz.f128 F128.T [1,0,1,0] n [(0,(au a)),(2,(.slice j f i)),(10,(.slice c b g)),(11,(ap l)),(12,(ap d))] h K
def F128.sL8:F128.wL8 (n+1) a o q h K=(aK (q<o) (a8 (rd h (a.add 2)) λb=>Cl 176 [aA b,ap 0] h λb c=> ∃d:Int,∃e:Bool,b=(.tuple #[aq d,aD e])/\F128.wL8 n a o (ax (q+1)) c K) (K aE h)):=by kernel_rfl
def F128.wk8:Prop:=(∃b,F128.wL8 b a o q h K)
def F128.wk6(a:Addr)(j:az)(f i:Nat)(h:aI)(K:KK):Prop:=a8 (rd h (a.add 0)) λb=>a8 (rd h (a.add 2)) λc=>Cl 175 [aA b,aA c] h λb c=> ∃d:Int,∃e:Int,b=(.tuple #[ap d,ap e])/\F128.wk8 a (f:Int) 0 c K
def F128.sL2:F128.wL2 (n+1) a j f i c b g l d h K=(aK (d<l) (aY c λe=>0<=d/\d<(b:Int)/\aQ .u32 (rd h (e.add (d.toNat*1))) λe=>a8 (rd h (a.add 2)) λk=>Cl 174 [aA k,ap 0,aq e] h λe k=>bP (some e) λ_=>F128.wL2 n a j f i c b g l (ax (d+1)) k K) (F128.wk6 a j f i h K)):=by kernel_rfl
def F128.wk2:Prop:=(∃e,F128.wL2 e a j f i c b g l d h K)
def F128.spec(H:a8 (rd h (a.add 1)) λb=>Cl 173 [aA b] h λb c=>cx (some b) λb d e=>F128.wk2 a b d e b d e (d:Int) 0 c K):Cl 128 [au a] h K:=cT F128.T Tryz.func128 H
end
def F165.T:bi:=⟨[],[(2,[[(0,[]),(1,[]),(2,[]),(3,[]),(4,[]),(5,[]),(6,[]),(7,[]),(8,[]),(9,[]),(10,[]),(11,[]),(12,[]),(13,[]),(14,[]),(15,[])]])]⟩
def F165.spec{a b:Addr}(H:Cl 80 [au a] h λc d=>c=aE/\a8 (rd d (a.add 0)) λc=>aQ .u8 (rd d ((b.add 12).add 6)) λe=>Cl 208 [aA c,ap (ax e)] d λc d=> ∃e:Int,∃f:Int,c=(.tuple #[aq e,ap f])/\aK (f==0) (Cl 167 [au a,au b,aq e] d λa b=>a=aE/\K (ap f) b) (K (ap f) d)):Cl 165 [au a,au b] h K:=cT F165.T Tryz.func165 H
def F166.T:bi:=⟨[(3,[1])],[(0,[[(0,[]),(1,[]),(2,[]),(3,[]),(4,[]),(5,[]),(6,[]),(7,[]),(8,[]),(9,[]),(10,[0,1,2,3,4,5,6,7,8,9]),(11,[])]]),(2,[[(0,[]),(1,[]),(2,[]),(3,[]),(4,[]),(5,[]),(6,[])]]),(3,[[(0,[]),(1,[]),(2,[]),(3,[]),(4,[]),(5,[]),(6,[]),(7,[]),(8,[]),(9,[]),(10,[])]])]⟩
section
variable (a:Addr)(h:aI)(K:KK)
def F166.wk3:Prop:=aQ .i64 (rd h ((a.add 12).add 2)) λb=>0<=b/\b<6/\aW h (((a.add 0).add (b.toNat*2)).add 0) aB λc=>aW c (((a.add 0).add (b.toNat*2)).add 1) (aq 0) λa=>K aE a
end
def F166.spec{a b:Addr}(H:aQ .i64 (rd h ((b.add 12).add 2)) λc=>0<=c/\c<6/\bP (rd h (((b.add 0).add (c.toNat*2)).add 0)) λd=>aQ .u32 (rd h (((b.add 0).add (c.toNat*2)).add 1)) λe=>bf h (.cells #[aB,aq 0] 126) λf g=>aF (au b)/\aF (au b)/\aF (au b)/\aF (au (b.add 12))/\aF (au ((b.add 12).add 2))/\aQ .i64 (rd g ((b.add 12).add 2)) λi=>aG (ap i) (ap c)/\aF (au b)/\aF (au (b.add 0))/\0<=c/\c<6/\aF (au ((b.add 0).add (c.toNat*2)))/\bP (rd g (((b.add 0).add (c.toNat*2)).add 0)) λi=>aQ .u32 (rd g (((b.add 0).add (c.toNat*2)).add 1)) λc=>aG (.agg #[aD i,aq c]) (.agg #[aD d,aq e])/\aW g ((aw f).add 0) (aD d) λc=>aW c ((aw f).add 1) (aq e) λc=>bP (rd c ((aw f).add 0)) λd=>aK d (a8 (rd c (a.add 2)) λa=>aQ .u32 (rd c ((aw f).add 1)) λd=>Cl 209 [aA a,aq d] c λa c=>aQ .i64 (some a) λ_=>F166.wk3 b c K) (F166.wk3 b c K)):Cl 166 [au a,au b] h K:=cT F166.T Tryz.func166 H
def F167.T:bi:=⟨[],[(1,[[(0,[]),(1,[]),(2,[]),(3,[]),(4,[]),(5,[]),(6,[]),(7,[]),(8,[]),(9,[]),(10,[]),(11,[])]])]⟩
def F167.spec{a b:Addr}(H:Cl 166 [au a,au b] h λc d=>c=aE/\aQ .i64 (rd d ((b.add 12).add 2)) λc=>0<=c/\c<6/\aW d (((b.add 0).add (c.toNat*2)).add 0) aC λd=>aW d (((b.add 0).add (c.toNat*2)).add 1) (aq i) λb=>a8 (rd b (a.add 2)) λa=>Cl 210 [aA a,aq i] b λa b=>a=aE/\K aE b):Cl 167 [au a,au b,aq i] h K:=cT F167.T Tryz.func167 H
def F168.spec{a b:Addr}(H:bf h (.cells #[ap i,ar j] 76) λc d=>aQ .i64 (rd d ((aw c).add 0)) λe=>aQ .u64 (rd d ((aw c).add 1)) λc=>aW d ((b.add 21).add 0) (ap e) λd=>aW d ((b.add 21).add 1) (ar c) λc=>aW c ((b.add 23).add 0) aC λc=>aW c ((b.add 19).add 0) aB λb=>aQ .i64 (rd b (a.add 99)) λc=>aW b ((a.add 99).add 0) (ap (ax (c+1))) λa=>K aE a):Cl 168 [au a,au b,.agg #[ap i,ar j]] h K:=cN Tryz.func168 H
def F169.T:bi:=⟨[],[(1,[[(0,[]),(1,[]),(2,[]),(3,[]),(4,[]),(5,[]),(6,[]),(7,[]),(8,[]),(9,[]),(10,[]),(11,[])]]),(5,[[(0,[]),(1,[]),(2,[]),(3,[]),(4,[]),(5,[]),(6,[]),(7,[]),(8,[]),(9,[]),(10,[]),(11,[]),(12,[])]])]⟩
def F169.spec{a b:Addr}(H:aQ .i64 (rd h ((b.add 12).add 3)) λc=>0<=c/\c<6/\aQ .u32 (rd h (((b.add 0).add (c.toNat*2)).add 1)) λc=>aQ .i64 (rd h ((b.add 12).add 0)) λd=>aK (d==4) (a8 (rd h (a.add 0)) λa=>Cl 211 [aA a,aq c] h λa b=> ∃c:Int,∃d:Int,a=(.tuple #[ar c,ap d])/\K (ar c) b) (aQ .i64 (rd h ((b.add 12).add 4)) λa=>0<=a/\a<6/\aQ .u32 (rd h (((b.add 0).add (a.toNat*2)).add 1)) λa=>aK (c==a) (K (ar 1) h) (K (ar 0) h))):Cl 169 [au a,au b] h K:=cT F169.T Tryz.func169 H
def F170.T:bi:=⟨[(2,[8,9])],[]⟩
section
variable (n:Nat)(c:Addr)(b:List Value)(a:Int)(h:aI)(K:KK)
def F170.wL2:Prop:=Lp Tryz.f170 F170.T [1,0,1,0] n [(8,(.agg (List.toArray b))),(9,(ap a))] h K
def F170.sL2:F170.wL2 (n+1) b a h K=(aK (a<4) ((0<=a/\a<4/\bP (b[a.toNat*24+0]?) λc=>aQ .u32 (b[a.toNat*24+1]?) λd=>bP (b[a.toNat*24+2]?) λe=>aQ .u32 (b[a.toNat*24+3]?) λf=>bP (b[a.toNat*24+4]?) λg=>aQ .u32 (b[a.toNat*24+5]?) λi=>bP (b[a.toNat*24+6]?) λj=>aQ .u32 (b[a.toNat*24+7]?) λk=>bP (b[a.toNat*24+8]?) λl=>aQ .u32 (b[a.toNat*24+9]?) λm=>bP (b[a.toNat*24+10]?) λo=>aQ .u32 (b[a.toNat*24+11]?) λp=>aQ .i64 (b[a.toNat*24+12]?) λq=>aQ .i64 (b[a.toNat*24+13]?) λr=>aQ .i64 (b[a.toNat*24+14]?) λs=>aQ .i64 (b[a.toNat*24+15]?) λt=>aQ .i64 (b[a.toNat*24+16]?) λu=>aQ .i64 (b[a.toNat*24+17]?) λv=>aQ .u8 (b[a.toNat*24+18]?) λw=>bP (b[a.toNat*24+19]?) λx=>aQ .i64 (b[a.toNat*24+20]?) λy=>aQ .i64 (b[a.toNat*24+21]?) λz=>aQ .u64 (b[a.toNat*24+22]?) λA=>bP (b[a.toNat*24+23]?) λB=>bf h (.cells #[aB,aq 0,aB,aq 0,aB,aq 0,aB,aq 0,aB,aq 0,aB,aq 0,ap 0,ap 0,ap 0,ap 0,ap 0,ap 0,.int .u8 0,aB,ap 0,ap 0,ar 0,aB] 129) λC D=>aW D ((aw C).add 0) (aD c) λc=>aW c ((aw C).add 1) (aq d) λc=>aW c ((aw C).add 2) (aD e) λc=>aW c ((aw C).add 3) (aq f) λc=>aW c ((aw C).add 4) (aD g) λc=>aW c ((aw C).add 5) (aq i) λc=>aW c ((aw C).add 6) (aD j) λc=>aW c ((aw C).add 7) (aq k) λc=>aW c ((aw C).add 8) (aD l) λc=>aW c ((aw C).add 9) (aq m) λc=>aW c ((aw C).add 10) (aD o) λc=>aW c ((aw C).add 11) (aq p) λc=>aW c ((aw C).add 12) (ap q) λc=>aW c ((aw C).add 13) (ap r) λc=>aW c ((aw C).add 14) (ap s) λc=>aW c ((aw C).add 15) (ap t) λc=>aW c ((aw C).add 16) (ap u) λc=>aW c ((aw C).add 17) (ap v) λc=>aW c ((aw C).add 18) (.int .u8 w) λc=>aW c ((aw C).add 19) (aD x) λc=>aW c ((aw C).add 20) (ap y) λc=>aW c ((aw C).add 21) (ap z) λc=>aW c ((aw C).add 22) (ar A) λc=>aW c ((aw C).add 23) (aD B) λc=>bP (rd c ((aw C).add 19)) λd=>aK d (aQ .i64 (rd c ((aw C).add 20)) λd=>aK (d>0) (K aC c) (F170.wL2 n b (ax (a+1)) c K)) (F170.wL2 n b (ax (a+1)) c K))) (K aB h)):=by kernel_rfl
def F170.wk2:Prop:=(∃c,F170.wL2 c b a h K)
def F170.spec(H:IB h (c.add 3) 96 λa=>F170.wk2 a 0 h K):Cl 170 [au c] h K:=cT F170.T Tryz.func170 H
end
def F171.T:bi:=⟨[],[(0,[[(0,[]),(1,[]),(2,[]),(3,[]),(4,[]),(5,[]),(6,[]),(7,[]),(8,[0,1,2,3]),(9,[])]])]⟩
def F171.spec{a:Addr}(H:a8 (rd h (a.add 0)) λb=>a8 (rd h (a.add 2)) λc=>Cl 213 [aA c] h λc d=>cx (some c) λc e f=>aF (au a)/\aF (au a)/\aF (au (a.add 0))/\a8 (rd d (a.add 0)) λa=>aG (aA a) (aA b)/\Cl 212 [aA b,.slice c e f] d λa b=> ∃c:Int,∃d:Int,∃e:Int,a=(.tuple #[ap c,ap d,ap e])/\K aE b):Cl 171 [au a] h K:=cT F171.T Tryz.func171 H
def F172.T:bi:=⟨[(6,[0,1,5,6,18,19,20]),(10,[0,1,5,6])],[(10,[[(0,[]),(1,[]),(2,[]),(3,[]),(4,[]),(5,[]),(6,[]),(7,[]),(8,[]),(9,[]),(10,[]),(11,[]),(12,[]),(13,[]),(14,[]),(15,[]),(16,[]),(17,[]),(18,[]),(19,[]),(20,[])]])]⟩
section
variable (n:Nat)(i b l j:Addr)(d:az)(c f:Nat)(g a:Int)(h:aI)(K:KK)
def F172.wL6:Prop:=Lp Tryz.f172 F172.T [1,1,1,1,0,1,0] n [(0,(au i)),(1,(au b)),(5,(au l)),(6,(au j)),(18,(.slice d c f)),(19,(ap g)),(20,(ap a))] h K
def F172.wk10:Prop:=a8 (rd h (i.add 1)) λa=>aQ .i64 (rd h (l.add 1)) λc=>0<=(0:Int)/\(0:Int)<(3:Int)/\aQ .u32 (rd h (j.add ((0:Int).toNat*1))) λd=>0<=(1:Int)/\(1:Int)<(3:Int)/\aQ .u32 (rd h (j.add ((1:Int).toNat*1))) λe=>0<=(2:Int)/\(2:Int)<(3:Int)/\aQ .u32 (rd h (j.add ((2:Int).toNat*1))) λf=>aQ .u8 (rd h (l.add 6)) λg=>Cl 35 [aA a,.agg #[ap c,aq d,aq e,aq f,.int .u8 g]] h λa c=> ∃d:Int,∃e:Int,a=(.tuple #[ap d,ap e])/\aK (e !=0) (Cl 168 [au i,au b,.agg #[ap e,ar 0]] c λa b=>a=aE/\K aC b) (aW c ((b.add 20).add 0) (ap d) λa=>K aB a)
def F172.sL6:F172.wL6 (n+1) i b l j d c f g a h K=(aK (a<g) (aY d λe=>0<=a/\a<(c:Int)/\aQ .i64 (rd h (e.add (a.toNat*1))) λe=>0<=e/\e<6/\aQ .u32 (rd h (((b.add 0).add (e.toNat*2)).add 1)) λe=>0<=a/\a<3/\aW h ((j.add (a.toNat*1)).add 0) (aq e) λe=>F172.wL6 n i b l j d c f g (ax (a+1)) e K) (F172.wk10 i b l j h K)):=by kernel_rfl
def F172.wk6:Prop:=(∃e,F172.wL6 e i b l j d c f g a h K)
def F172.spec(H:Cl 214 [au i] h λa c=>bP (some a) λa=>aK a (K aB c) (aQ .i64 (rd c ((b.add 12).add 0)) λa=>aQ .i64 (rd c ((b.add 12).add 1)) λd=>aQ .i64 (rd c ((b.add 12).add 2)) λe=>aQ .i64 (rd c ((b.add 12).add 3)) λf=>aQ .i64 (rd c ((b.add 12).add 4)) λg=>aQ .i64 (rd c ((b.add 12).add 5)) λj=>aQ .u8 (rd c ((b.add 12).add 6)) λk=>bf c (.cells #[ap 0,ap 0,ap 0,ap 0,ap 0,ap 0,.int .u8 0] 41) λc l=>aW l ((aw c).add 0) (ap a) λa=>aW a ((aw c).add 1) (ap d) λa=>aW a ((aw c).add 2) (ap e) λa=>aW a ((aw c).add 3) (ap f) λa=>aW a ((aw c).add 4) (ap g) λa=>aW a ((aw c).add 5) (ap j) λa=>aW a ((aw c).add 6) (.int .u8 k) λa=>bf a (.cells #[aq 0,aq 0,aq 0] 115) λa d=>aQ .i64 (rd d ((aw c).add 0)) λe=>aQ .i64 (rd d ((aw c).add 1)) λf=>aQ .i64 (rd d ((aw c).add 2)) λg=>aQ .i64 (rd d ((aw c).add 3)) λj=>aQ .i64 (rd d ((aw c).add 4)) λk=>aQ .i64 (rd d ((aw c).add 5)) λl=>aQ .u8 (rd d ((aw c).add 6)) λm=>Cl 121 [.agg #[ap e,ap f,ap g,ap j,ap k,ap l,.int .u8 m]] d λd e=>cx (some d) λd f g=>F172.wk6 i b (aw c) (aw a) d f g (f:Int) 0 e K)):Cl 172 [au i,au b] h K:=cT F172.T Tryz.func172 H
end
def F214.T:bi:=⟨[(2,[8,9])],[]⟩
section
variable (n:Nat)(c:Addr)(b:List Value)(a:Int)(h:aI)(K:KK)
def F214.wL2:Prop:=Lp Tryz.f214 F214.T [1,0,1,0] n [(8,(.agg (List.toArray b))),(9,(ap a))] h K
def F214.sL2:F214.wL2 (n+1) b a h K=(aK (a<4) ((0<=a/\a<4/\bP (b[a.toNat*24+0]?) λc=>aQ .u32 (b[a.toNat*24+1]?) λd=>bP (b[a.toNat*24+2]?) λe=>aQ .u32 (b[a.toNat*24+3]?) λf=>bP (b[a.toNat*24+4]?) λg=>aQ .u32 (b[a.toNat*24+5]?) λi=>bP (b[a.toNat*24+6]?) λj=>aQ .u32 (b[a.toNat*24+7]?) λk=>bP (b[a.toNat*24+8]?) λl=>aQ .u32 (b[a.toNat*24+9]?) λm=>bP (b[a.toNat*24+10]?) λo=>aQ .u32 (b[a.toNat*24+11]?) λp=>aQ .i64 (b[a.toNat*24+12]?) λq=>aQ .i64 (b[a.toNat*24+13]?) λr=>aQ .i64 (b[a.toNat*24+14]?) λs=>aQ .i64 (b[a.toNat*24+15]?) λt=>aQ .i64 (b[a.toNat*24+16]?) λu=>aQ .i64 (b[a.toNat*24+17]?) λv=>aQ .u8 (b[a.toNat*24+18]?) λw=>bP (b[a.toNat*24+19]?) λx=>aQ .i64 (b[a.toNat*24+20]?) λy=>aQ .i64 (b[a.toNat*24+21]?) λz=>aQ .u64 (b[a.toNat*24+22]?) λA=>bP (b[a.toNat*24+23]?) λB=>bf h (.cells #[aB,aq 0,aB,aq 0,aB,aq 0,aB,aq 0,aB,aq 0,aB,aq 0,ap 0,ap 0,ap 0,ap 0,ap 0,ap 0,.int .u8 0,aB,ap 0,ap 0,ar 0,aB] 129) λC D=>aW D ((aw C).add 0) (aD c) λc=>aW c ((aw C).add 1) (aq d) λc=>aW c ((aw C).add 2) (aD e) λc=>aW c ((aw C).add 3) (aq f) λc=>aW c ((aw C).add 4) (aD g) λc=>aW c ((aw C).add 5) (aq i) λc=>aW c ((aw C).add 6) (aD j) λc=>aW c ((aw C).add 7) (aq k) λc=>aW c ((aw C).add 8) (aD l) λc=>aW c ((aw C).add 9) (aq m) λc=>aW c ((aw C).add 10) (aD o) λc=>aW c ((aw C).add 11) (aq p) λc=>aW c ((aw C).add 12) (ap q) λc=>aW c ((aw C).add 13) (ap r) λc=>aW c ((aw C).add 14) (ap s) λc=>aW c ((aw C).add 15) (ap t) λc=>aW c ((aw C).add 16) (ap u) λc=>aW c ((aw C).add 17) (ap v) λc=>aW c ((aw C).add 18) (.int .u8 w) λc=>aW c ((aw C).add 19) (aD x) λc=>aW c ((aw C).add 20) (ap y) λc=>aW c ((aw C).add 21) (ap z) λc=>aW c ((aw C).add 22) (ar A) λc=>aW c ((aw C).add 23) (aD B) λc=>bP (rd c ((aw C).add 19)) λd=>aK d (aQ .i64 (rd c (((aw C).add 12).add 0)) λd=>aK (d==8) (K aC c) (F214.wL2 n b (ax (a+1)) c K)) (F214.wL2 n b (ax (a+1)) c K))) (K aB h)):=by kernel_rfl
def F214.wk2:Prop:=(∃c,F214.wL2 c b a h K)
def F214.spec(H:IB h (c.add 3) 96 λa=>F214.wk2 a 0 h K):Cl 214 [au c] h K:=cT F214.T Tryz.func214 H
end
end
def oH(c:lD):Value:= .agg #[ap c.kind,ap c.op,ap c.dst,ap c.a,ap c.b,ap c.c,.int .u8 (c.mask:Int)]
def kH(x:Int):Prop:=0<=x/\x<6
instance (x:Int):Decidable (kH x):=by unfold kH;infer_instance
def xX(k:Int):Prop:=1<=k/\k<=3\/k=6
instance (x:Int):Decidable (xX x):=by unfold xX;infer_instance
def BD(h: ¬(1<=k/\k<=3)):(k==(6:Int))=decide (xX k):=by
 by_cases q:k=6
 ·subst q;rw[MP (p:=xX 6) (.inr rfl)];rfl
 ·rw[MJ (p:=xX k) (λc=>by rcases c with c|c<;>omega)];exact kU q
def kg(c:lD):List Int:=if c.kind=4 then [c.a]else if c.kind=5 then [c.a,c.b]else if c.kind=3 then [c.a,c.b,c.c].take (cg c.op).toNat else []
def jP(hO:(i<0\/4<=i)->K (.pointer none) h)(hI: ∀k:Nat,k<4->i=(k:Int)->K (au ⟨e,3+24*k,none⟩) h):Cl 76 [bg e,ap i] h K:=by refine F76.spec ?_;refine aS (λc=>hO (.inl (MV c))) λc=>aS (λd=>hO (.inr (MV d))) λd=> ?_;have c:=MU c;have d:=MU d;have d: ¬(4:Int)<=i:=d;refine⟨ah,ah,?_⟩;have:=hI i.toNat ah ah;simpa only[aL,MF,Ov 24]using this
def HV(hK:K (aD (decide (kH x))) h):Cl 82 [ap x] h K:=by
 refine F82.spec ?_;refine aS (λc=> ?_) λc=> ?_
 ·have c:(0:Int)<=x:=MV c;rw[show decide (x<(6:Int))=decide (kH x) by unfold kH;simp[c]];exact hK
 ·have c: ¬(0:Int)<=x:=MU c;rw[MJ (by unfold kH;omega)]at hK;exact hK
def yq{c:lD}(hK: ∀h',aM [] h h'->K (aD (decide (xX c.kind))) h'):Cl 120 [oH c] h K:=by
 refine F120.spec ?_;refine aX λh1 A1 O1 z1=> ?_;simp only[aL,MF];have r:Ev.rd h1 (aw h.size)=some (ap c.kind):=At.rd A1 0;have hK:=hK h1 O1;refine aH r (aS (λa=>aH r (aS (λb=> ?_) λb=>aH r ?_)) λa=>aH r ?_)
 ·rw[MP (.inl ⟨MV a,MV b⟩)]at hK;exact hK
 ·have b:=MU b;rw[BD ah];exact hK
 ·have a: ¬(1:Int)<=c.kind:=MU a;rw[BD ah];exact hK
def pF(hK:K (ap (cg x)) h):Cl 122 [ap x] h K:=by
 refine F122.spec ?_;unfold cg at hK;by_cases h1:x=1
 ·subst h1;exact hK
 by_cases h2:x=2
 ·subst h2;exact hK
 by_cases h3:x=3
 ·subst h3;exact hK
 by_cases h4:x=4
 ·subst h4;exact hK
 by_cases h5:x=5
 ·subst h5;exact hK
 by_cases h6:x=6
 ·subst h6;exact hK
 by_cases h7:x=7
 ·subst h7;exact hK
 by_cases h8:x=8
 ·subst h8;exact hK
 by_cases h9:x=9
 ·subst h9;exact hK
 by_cases h10:x=10
 ·subst h10;exact hK
 rw[MG ah,MG ah,MG h5]at hK;simp only[kU h1,kU h2,kU h3,kU h4,kU h5,kU h6,kU h7,kU h8,kU h9,kU h10,aJ];exact hK
def uu(x:Int):0<=cg x/\cg x<=3:=by
 unfold cg
 repeat' split
 all_goals omega
def EB(h h':aI)(p:az)(l:Nat)(xs:List Int):Prop:=l=xs.length/\(xs=[]\/ ∃(b:Nat) (L:List Value),p=some (aw b)/\h.size<=b/\At h' b L/\ ∀(i:Nat) (x:Int),xs[i]? =some x->L[i]? =some (ap x))
def uB(hK: ∀h' p l q,aM [] h h'->EB h h' p l (kg c)->K (.slice p l q) h'):Cl 121 [oH c] h K:=by
 refine F121.spec ?_;refine aX λh1 A1 O1 z1=> ?_;simp only[aL,MF];have r: ∀k,Ev.rd h1 ⟨h.size,k,none⟩=([ap c.kind,ap c.op,ap c.dst,ap c.a,ap c.b,ap c.c,.int .u8 (c.mask:Int)]:List Value)[k]? :=λk=>At.rd A1 k;refine aH (n:=c.kind) (by rw[r];rfl) (aS (λa=> ?_) λa=>aS (λb=> ?_) λb=>aS (λd=> ?_) λd=> ?_)
 ·have a:c.kind=4:=by simpa using a
  refine aH (n:=c.a) (by rw[r];rfl) (aX λh2 A2 O2 z2=> ?_);refine hK h2 _ _ _ (O1.trans O2 ak) ?_;have e:kg c=[c.a]:=by unfold kg;rw[MK a]
  rw[e]
  exact⟨rfl,.inr ⟨h1.size,_,rfl,ah,A2,λi x hx=>by
   cases i with
   |zero=>simp at hx;subst hx;rfl
   |succ i=>simp at hx⟩⟩
 ·have a: ¬c.kind=4:=by simpa using a
  have b:c.kind=5:=by simpa using b
  refine aH (n:=c.a) (by rw[r];rfl) (aH (n:=c.b) (by rw[r];rfl) (aX λh2 A2 O2 z2=> ?_));refine hK h2 _ _ _ (O1.trans O2 ak) ?_;have e:kg c=[c.a,c.b]:=by unfold kg;rw[MG a,MK b]
  rw[e]
  exact⟨rfl,.inr ⟨h1.size,_,rfl,ah,A2,λi x hx=>by
   rcases i with _|_|i
   ·simp at hx;subst hx;rfl
   ·simp at hx;subst hx;rfl
   ·simp at hx⟩⟩
 ·have a: ¬c.kind=4:=by simpa using a
  have b: ¬c.kind=5:=by simpa using b
  have d:c.kind=3:=by simpa using d
  have e:kg c=[c.a,c.b,c.c].take (cg c.op).toNat:=by unfold kg;rw[MG a,MG b,MK d]
  have tl:=uu c.op
  have row: ∀(hh:aI) (A:At hh h1.size [ap c.a,ap c.b,ap c.c]),EB h hh (some (aw h1.size)) (cg c.op).toNat (kg c):=λhh A=>by
   rw[e];refine⟨by simp;try omega,.inr ⟨h1.size,_,rfl,ah,A,λi x hx=> ?_⟩⟩;rw[List.getElem?_take]at hx;split at hx
   ·rcases i with _|_|_|i
    ·simp at hx;subst hx;rfl
    ·simp at hx;subst hx;rfl
    ·simp at hx;subst hx;rfl
    ·simp at hx
   ·cases hx
  have fin: ∀(hh:aI) (q:Nat),aM [] h hh->At hh h1.size [ap c.a,ap c.b,ap c.c]->K (.slice (if 3=0 then(some (aw h1.size))else Option.map (λa=>Addr.add a (0*1)) (some (aw h1.size))) (Int.toNat (cg c.op)-0) q) hh:=λhh q O A=>by have:=hK hh _ _ q O (row hh A);simpa using this
  refine⟨?_,?_⟩
  ·refine aH (n:=c.a) (by rw[r];rfl) (aH (n:=c.b) (by rw[r];rfl) (aH (n:=c.c) (by rw[r];rfl) (aH (n:=c.op) (by rw[r];rfl) (aX λh2 A2 O2 z2=> ?_))));have r2: ∀k,Ev.rd h2 ⟨h.size,k,none⟩=([ap c.kind,ap c.op,ap c.dst,ap c.a,ap c.b,ap c.c,.int .u8 (c.mask:Int)]:List Value)[k]? :=λk=>At.rd (A1.only O2 ak) k;refine⟨trivial,aH (n:=c.op) (by rw[r2];rfl) ⟨rfl,pF (aH rfl ?_)⟩⟩;refine⟨trivial,aH (n:=c.a) (by rw[r2];rfl) ⟨rfl,trivial,aH (n:=c.b) (by rw[r2];rfl) ⟨rfl,trivial,aH (n:=c.c) (by rw[r2];rfl) ⟨rfl,tl.1,tl.2,?_⟩⟩⟩⟩;exact fin h2 _ (O1.trans O2 ak) A2
  ·refine aH (n:=c.a) (by rw[r];rfl) (aH (n:=c.b) (by rw[r];rfl) (aH (n:=c.c) (by rw[r];rfl) (aH (n:=c.op) (by rw[r];rfl) (pF (aH rfl ?_)))));refine⟨trivial,aH (n:=c.a) (by rw[r];rfl) ⟨rfl,trivial,aH (n:=c.b) (by rw[r];rfl) ⟨rfl,trivial,aH (n:=c.c) (by rw[r];rfl) ⟨rfl,aX λh2 A2 O2 z2=> ?_⟩⟩⟩⟩;have r2: ∀k,Ev.rd h2 ⟨h.size,k,none⟩=([ap c.kind,ap c.op,ap c.dst,ap c.a,ap c.b,ap c.c,.int .u8 (c.mask:Int)]:List Value)[k]? :=λk=>At.rd (A1.only O2 ak) k;refine⟨trivial,aH (n:=c.op) (by rw[r2];rfl) ⟨rfl,tl.1,tl.2,?_⟩⟩;exact fin h2 _ (O1.trans O2 ak) A2
 ·have a: ¬c.kind=4:=by simpa using a
  have b: ¬c.kind=5:=by simpa using b
  have d: ¬c.kind=3:=by simpa using d
  refine hK h1 _ _ _ O1 ?_;have e:kg c=[]:=by unfold kg;rw[MG a,MG b,MG d]
  rw[e];exact⟨rfl,.inl rfl⟩
def te{E:gN}(H:dy h e E)(hK:K (bg E.s) h):Cl 23 [bg e] h K:=by refine F23.spec ?_;exact aR (by rw[aL];exact H.s) hK
def yO{E:gN}(H:dy h e E)(hO:(i<0\/4<=i)->K aB h)(hI: ∀k:Nat,k<4->i=(k:Int)->K (aD (E.ses k).pend) h):Cl 56 [bg e,ap i] h K:=by refine F56.spec ?_;refine jP (λc=>aR rfl (hO c)) λk hk ek=>aR rfl ?_;show aK true _ _;rw[aO];show bP (Ev.rd h (Addr.add ⟨e,3+24*k,none⟩ 19)) _;exact aZ (n:=(E.ses k).pend) (by rw[aL];exact H.pend hk rfl) (hI k hk ek)
def vi(E:gN)(i r:Int):Int×Bool:=if(0<=i/\i<4)/\kH r then(((E.ses i.toNat).hnd r.toNat:Int),(E.ses i.toNat).there r.toNat)else(0,false)
def Jh{h:aI}{e:Nat}{E:gN}{K:KK}(H:dy h e E){i r:Int}(hK:K (.tuple #[aq (vi E i r).1,aD (vi E i r).2]) h):Cl 28 [bg e,ap i,ap r] h K:=by
 refine F28.spec ?_;refine jP (λc=>aR rfl ?_) λk hk ek=>aR rfl ?_
 ·unfold vi at hK;rw[MG ah]at hK;exact hK
 ·show aK false _ _;rw[aJ];refine HV (aZ rfl ?_);by_cases hr:kH r
  ·rw[MP hr,Ng,aJ];unfold vi at hK;rw[MK ⟨ah,hr⟩]at hK;have e1:i.toNat=k:=ah;have r6:r.toNat<6:=by unfold kH at hr;omega
   rw[e1]at hK;refine⟨hr.1,hr.2,aH (by simp only[aL];exact H.hnd hk r6 ah) ⟨hr.1,hr.2,aZ (by simp only[aL];exact H.thr hk r6 ah) hK⟩⟩
  ·rw[MJ hr,Nx,aO];unfold vi at hK;rw[MG (λc=>hr c.2)]at hK;exact hK
def Cw{E:gN}(H:dy h e E)(hO:(i<0\/4<=i)-> ∀h',aM [] h h'->K (.tuple #[.agg #[ap 0,ar 0],aB]) h')
  (hI: ∀k:Nat,k<4->i=(k:Int)-> ∀h',aM [] h h'->K (.tuple #[.agg #[ap (if(E.ses k).ansd=true then(E.ses k).err else 0),ar (if(E.ses k).ansd=true then((E.ses k).num:Int)else 0)],aD (E.ses k).ansd]) h'):
  Cl 43 [bg e,ap i] h K:=by
 refine F43.spec ?_;refine aX λh1 A1 O1 z1=> ?_;simp only[aL,MF]
 have zero:(∀h',aM [] h h'->K (.tuple #[.agg #[ap 0,ar 0],aB]) h')->aW h1 (aw h.size) (ap (0:Int)) (λh6=>aW h6 ⟨h.size,1,none⟩ (ar (0:Int)) (λh7=>aQ .i64 (Ev.rd h7 (aw h.size)) (λn8=>aQ .u64 (Ev.rd h7 ⟨h.size,1,none⟩) (λn9=>K (.tuple #[(.agg #[(ap n8),(ar n9)]),aB]) h7)))):=λg=>by refine aU A1 ak rfl λh2 A2 O2 z2=>aU A2 ak rfl λh3 A3 O3 z3=> ?_;refine aH (n:=0) (by rw[At.rd A3];rfl) (aH (n:=0) (by rw[At.rd A3];rfl) (g h3 ?_));exact(O1.trans O2 (by intro x hx hl;simp at hx;omega)).trans O3 (by intro x hx hl;simp at hx;omega)
 refine jP (λc=>aR rfl ?_) λk hk ek=>aR rfl ?_
 ·exact zero (hO c)
 ·have hI:=hI k hk ek;show aK false _ _;rw[aJ];have H1:=H.only0 O1;refine aZ (n:=(E.ses k).ansd) (by rw[aL];exact H1.ansd hk rfl) (aS (λc=> ?_) λc=> ?_)
  ·have c:(E.ses k).ansd=false:=by simpa using c
   rw[c]at hI;exact zero hI
  ·have c:(E.ses k).ansd=true:=by simpa using c
   rw[c,MK rfl,MK rfl]at hI;refine aH (by simp only[aL];exact H1.err hk ah) (aH (by simp only[aL];exact H1.num hk ah) ?_);refine aU A1 ak rfl λh2 A2 O2 z2=>aU A2 ak rfl λh3 A3 O3 z3=> ?_;refine aH (n:=(E.ses k).err) (by rw[At.rd A3];rfl) (aH (n:=((E.ses k).num:Int)) (by rw[At.rd A3];rfl) (hI h3 ?_));exact(O1.trans O2 (by intro x hx hl;simp at hx;omega)).trans O3 (by intro x hx hl;simp at hx;omega)
def nC(n:Nat)(c:lD):Int:=if c.kind=3/\cg c.op=0 then 200 else if(c.kind=1\/c.kind=3/\c.op=8)/\n<=c.mask then 40 else if c.kind=3/\(c.op=6\/c.op=7)/\c.mask/2^n≠0 then 40 else 0
def wY(c:lD):(kg c).length<=3:=by
 unfold kg;split
 ·simp
 ·split
  ·simp
  ·split
   ·rw[N7];exact Nat.min_le_right _ _
   ·simp
def nv(x:gl)(c:lD):Prop:= ∀r∈kg c,kH r/\x.there r.toNat=true
open Classical in
noncomputable def fX(n:Nat)(x:gl)(c:lD):Int:=if ¬(1<=c.kind/\c.kind<=8)then 222 else if xX c.kind/\ ¬kH c.dst then 221 else if ¬nv x c then 221 else nC n c
def sB:aY (some a) K=K a:=rfl
def Jv{E:gN}{X:SX}{c:lD}(I:dy h e E)(S:bV h E.s L X)(hm:c.mask<256)(A:At h b [ap c.kind,ap c.op,ap c.dst,ap c.a,ap c.b,ap c.c,.int .u8 (c.mask:Int)])
  (hK:K (ap (nC X.n c)) h):F77.wk11 (aw e) (aw b) h K:=by
 unfold F77.wk11;have n8:=S.ok.2.2.1;have r0:rd h (aw b)=some (ap c.kind):=At.rd A 0;have r1:rd h ⟨b,1,none⟩=some (ap c.op):=At.rd A 1;have r6:rd h ⟨b,6,none⟩=some (.int .u8 (c.mask:Int)):=At.rd A 6;have rs:rd h (aw e)=some (au (aw E.s)):=I.s;simp only[aL,MF];refine aH r6 (aR rs (dE S (aH rfl ⟨trivial,aH r6 ⟨rfl,trivial,ah,aH r6 (aR rs (dE S (aH rfl ⟨trivial,aH r6 ⟨rfl,trivial,aH r0 ?_⟩⟩)))⟩⟩)));rw[Gb n8 hm,show ax (c.mask:Int)=(c.mask:Int)from wrap_i64 ah ah];simp only[r0,r1,bh]
 have em:decide ((c.mask:Int)>=(X.n:Int))=decide (X.n<=c.mask):=by
  by_cases q:X.n<=c.mask
  ·rw[MP q,MP ah]
  ·rw[MJ q,MJ ah]
 have ed:(((c.mask/2^X.n:Nat):Int) !=(0:Int))=decide (c.mask/2^X.n≠0):=by
  by_cases q:c.mask/2^X.n=0
  ·rw[q,MJ ak];rfl
  ·rw[MP q];simp only[Qs,PY,Bool.not_eq_true];omega
 rw[em,ed];unfold nC at hK;by_cases k3:c.kind=3
 ·have a1:(c.kind==(3:Int))=true:=by simp[k3]
  have a2:(c.kind==(1:Int))=false:=by simp[k3]
  simp only[a1,a2,aO,aJ];refine pF (aH rfl ?_);simp only[r0,r1,bh,a1,a2,aO,aJ];by_cases t0:cg c.op=0
  ·have a3:(cg c.op==(0:Int))=true:=by simp[t0]
   rw[a3,aO];rw[MK ⟨k3,t0⟩]at hK;exact hK
  ·have a3:(cg c.op==(0:Int))=false:=by simp[t0]
   rw[a3,aJ];rw[MG (λq=>t0 q.2)]at hK;simp only[k3,OV,false_or,show ¬(3:Int)=1 by omega]at hK;by_cases o8:c.op=8
   ·simp only[show(c.op==(8:Int))=true by simp[o8],show(c.op==(6:Int))=false by simp[o8],show(c.op==(7:Int))=false by simp[o8],aO,aJ];refine aS (λq=> ?_) λq=> ?_
    ·rw[MK ⟨o8,MV q⟩]at hK;exact hK
    ·rw[MG (λw=>(MU q) w.2),MG ah]at hK;exact hK
   ·rw[MG (λw=>o8 w.1)]at hK;simp only[show(c.op==(8:Int))=false by simp[o8],aJ];by_cases o6:c.op=6
    ·simp only[show(c.op==(6:Int))=true by simp[o6],aO];refine aS (λq=> ?_) λq=> ?_
     ·rw[MK ⟨.inl o6,MV q⟩]at hK;exact hK
     ·rw[MG (λw=>(MU q) w.2)]at hK;exact hK
    ·simp only[show(c.op==(6:Int))=false by simp[o6],aJ];by_cases o7:c.op=7
     ·simp only[show(c.op==(7:Int))=true by simp[o7],aO];refine aS (λq=> ?_) λq=> ?_
      ·rw[MK ⟨.inr o7,MV q⟩]at hK;exact hK
      ·rw[MG (λw=>(MU q) w.2)]at hK;exact hK
     ·simp only[show(c.op==(7:Int))=false by simp[o7],aJ];rw[MG ah]at hK;exact hK
 ·have a1:(c.kind==(3:Int))=false:=by simp[k3]
  simp only[a1,aJ];rw[MG (λq=>k3 q.1)]at hK;simp only[k3,false_and,NP,NI]at hK;by_cases k1:c.kind=1
  ·simp only[show(c.kind==(1:Int))=true by simp[k1],aO];refine aS (λq=> ?_) λq=> ?_
   ·rw[q,aO];rw[MK ⟨k1,MV q⟩]at hK;exact hK
   ·rw[MG (λw=>(MU q) w.2)]at hK;exact hK
  ·simp only[show(c.kind==(1:Int))=false by simp[k1],aJ];rw[MG (λw=>k1 w.1)]at hK;exact hK
def yE{h:aI}{E:gN}{X:SX}{c:lD}(hi:i<4)(I:dy h e E)(S:bV h E.s L X)(he:e<h.size)(hm:c.mask<256)(hK: ∀h',aM [] h h'->K (ap (fX X.n (E.ses i) c)) h'):
  Cl 77 [bg e,au ⟨e,3+24*i,none⟩,oH c] h K:=by
 refine F77.spec _ _ _ _ _ _ _ _ _ h K ?_;refine aX λh1 A1 O1 z1=> ?_;simp only[aL,MF];have r: ∀k,rd h1 ⟨h.size,k,none⟩=([ap c.kind,ap c.op,ap c.dst,ap c.a,ap c.b,ap c.c,.int .u8 (c.mask:Int)]:List Value)[k]? :=λk=>At.rd A1 k;refine aH (n:=c.kind) (by rw[r];rfl) (aS (λq=> ?_) λq=> ?_)
 ·have q:c.kind<1:=MV q;have:=hK h1 O1;unfold fX at this;rw[MK ah]at this;exact this
 refine aH (n:=c.kind) (by rw[r];rfl) (aS (λp=> ?_) λp=> ?_)
 ·have p:(8:Int)<c.kind:=MV p;have:=hK h1 O1;unfold fX at this;rw[MK ah]at this;exact this
 have q: ¬c.kind<1:=MU q;have p: ¬(8:Int)<c.kind:=MU p;have S1:=S.only0 O1;have I1:=I.only0 O1
 have fin:(xX c.kind->kH c.dst)-> ∀(h2:aI) (pp:az) (l cc:Nat),aM [] h1 h2->EB h h2 pp l (kg c)->F77.wk6 (aw e) ⟨e,3+24*i,none⟩ (aw h.size) pp l cc (Nat.cast l:Int) 0 h2 K:=by
  intro hw h2 pp l cc O2 R;unfold F77.wk6;have I2:=I1.only0 O2;have S2:=S1.only0 O2;have A2:=A1.only O2 ak;have f:=hK h2 (O1.trans O2 ak);obtain⟨el,R⟩:=R
  have o: ∀(d k:Nat),d+k=l->(∀j x,j<k->(kg c)[j]? =some x->kH x/\(E.ses i).there x.toNat=true)->F77.wL6 (d+1) (aw e) ⟨e,3+24*i,none⟩ (aw h.size) pp l cc (Nat.cast l:Int) (Nat.cast k:Int) h2 K:=by
   intro d
   induction d with
   |zero=>
    intro k hk hb;rw[F77.sL6];rw[MJ ah,aJ];refine Jv I2 S2 hm A2 ?_
    have ok:nv (E.ses i) c:=λx hx=>by obtain⟨j,hj⟩:=OI hx;exact hb j x (by have:=(MQ.1 hj).1;omega) hj
    unfold fX at f;rw[MG ah,MG (λw=>w.2 (hw w.1)),MG (λw=>w ok)]at f;exact f
   |succ d ih=>
    intro k hk hb;rw[F77.sL6];rw[MP ah,aO];have m:k<(kg c).length:=ah;obtain⟨x,hx⟩: ∃x,(kg c)[k]? =some x:=⟨_,MT m⟩;rcases R with R|⟨b,Lc,ep,gb,Ab,g⟩
    ·rw[R]at m;simp at m
    rw[ep];refine⟨ah,ah,aH (n:=x) (by simp only[aL];rw[At.rd Ab,show 0+Int.toNat (Nat.cast k:Int)*1=k by simp];exact g k x hx) ?_⟩;refine HV (aZ rfl ?_)
    have u: ¬(kH x/\(E.ses i).there x.toNat=true)->K (ap 221) h2:=λw=>by have C: ¬nv (E.ses i) c:=λok=>w (ok x (MM hx));unfold fX at f;rw[MG ah,MG (λw=>w.2 (hw w.1)),MK C]at f;exact f
    by_cases hr:kH x
    ·rw[MP hr,Ng,aJ];refine⟨hr.1,hr.2,aZ (by simp only[aL];exact I2.thr hi (r:=x.toNat) (by unfold kH at hr;omega) ah) ?_⟩;refine aS (λw=>u λv=>by rw[v.2]at w;cases w) λw=> ?_;rw[show ax ((Nat.cast k:Int)+1)=((k+1:Nat):Int) by rw[wrap_i64 ah (by have:=wY c;omega)];omega];rw[<-ep];refine ih (k+1) ah λj y hj hy=> ?_;by_cases ej:j=k
     ·subst ej;rw[hx]at hy;injection hy with hy;subst hy;exact⟨hr,by simpa using w⟩
     ·exact hb j y ah hy
    ·rw[MJ hr,Nx,aO];exact u λw=>hr w.1
  exact⟨_,o l 0 ah λj x hj=>ah⟩
 refine aH (n:=c.kind) (by rw[r];rfl) (aH (n:=c.op) (by rw[r];rfl) (aH (n:=c.dst) (by rw[r];rfl) (aH (n:=c.a) (by rw[r];rfl) (aH (n:=c.b) (by rw[r];rfl) (aH (n:=c.c) (by rw[r];rfl) (aH (n:=(c.mask:Int)) (by rw[r];rfl) ?_))))));refine yq λh2 O2=>aZ rfl ?_;have A2:=A1.only O2 ak;have r2: ∀k,rd h2 ⟨h.size,k,none⟩=([ap c.kind,ap c.op,ap c.dst,ap c.a,ap c.b,ap c.c,.int .u8 (c.mask:Int)]:List Value)[k]? :=λk=>At.rd A2 k
 have rest:(xX c.kind->kH c.dst)-> ∀hh,aM [] h1 hh->Cl 121 [oH c] hh (λz B=>cx (some z) (λD t A=>F77.wk6 (aw e) ⟨e,3+24*i,none⟩ (aw h.size) D t A (Nat.cast t:Int) 0 B K)):=λhw hh O=>
  uB λh3 pp l cc O3 R=>⟨_,_,_,rfl,fin hw h3 pp l cc (O.trans O3 ak) (by
   obtain⟨el,R⟩:=R;refine⟨el,?_⟩;rcases R with R|⟨b,Lc,ep,gb,Ab,g⟩
   ·exact .inl R
   ·exact .inr ⟨b,Lc,ep,by have:=O1.size;have:=O.size;omega,Ab,g⟩)⟩
 by_cases hwk:xX c.kind
 ·rw[MP hwk,aO];refine aH (n:=c.dst) (by rw[r2];rfl) (HV (aZ rfl ?_));by_cases hd:kH c.dst
  ·rw[MP hd,Ng,aJ];refine aH (n:=c.kind) (by rw[r2];rfl) (aH (n:=c.op) (by rw[r2];rfl) (aH (n:=c.dst) (by rw[r2];rfl) (aH (n:=c.a) (by rw[r2];rfl) (aH (n:=c.b) (by rw[r2];rfl) (aH (n:=c.c) (by rw[r2];rfl) (aH (n:=(c.mask:Int)) (by rw[r2];rfl) ?_))))));exact rest (λ_=>hd) h2 O2
  ·rw[MJ hd,Nx,aO];have:=hK h2 (O1.trans O2 ak);unfold fX at this;rw[MG ah,MK ⟨hwk,hd⟩]at this;exact this
 ·rw[MJ hwk,aJ];refine aH (n:=c.kind) (by rw[r2];rfl) (aH (n:=c.op) (by rw[r2];rfl) (aH (n:=c.dst) (by rw[r2];rfl) (aH (n:=c.a) (by rw[r2];rfl) (aH (n:=c.b) (by rw[r2];rfl) (aH (n:=c.c) (by rw[r2];rfl) (aH (n:=(c.mask:Int)) (by rw[r2];rfl) ?_))))));exact rest (λw=>Nc w hwk) h2 O2
def sq(x:gl)(c:lD):gl:={x with cal:=c,pend:=true,job:=0}
def EA{E:gN}{X:SX}{c:lD}(I:dy h e E)(S:bV h E.s L X)(D:e∉L)(hm:c.mask<256)
  (hO:(i<0\/4<=i)-> ∀h',aM [] h h'->K (ap 222) h')
  (hB: ∀k:Nat,k<4->i=(k:Int)->(E.ses k).pend=true-> ∀h',aM [] h h'->K (ap 220) h')
  (hR: ∀k:Nat,k<4->i=(k:Int)->(E.ses k).pend=false->fX X.n (E.ses k) c≠0-> ∀h',aM [] h h'->K (ap (fX X.n (E.ses k) c)) h')
  (hK: ∀k:Nat,k<4->i=(k:Int)->(E.ses k).pend=false->fX X.n (E.ses k) c=0-> ∀h',dy h' e (E.put k (sq (E.ses k) c))->aM [e] h h'->K (ap 0) h'):
  Cl 24 [bg e,ap i,oH c] h K:=by
 refine F24.spec ?_;have he:e<h.size:=At.lt I;refine aX λh1 A1 O1 z1=> ?_;simp only[aL,MF];have S1:=S.only0 O1;have I1:=I.only0 O1;refine jP (λq=>aR rfl (hO q h1 O1)) λk hk ek=>aR rfl ?_;have hB:=hB k hk ek;have hR:=hR k hk ek;have hK:=hK k hk ek;show aK false _ _;rw[aJ];have r: ∀j,rd h1 ⟨h.size,j,none⟩=([ap c.kind,ap c.op,ap c.dst,ap c.a,ap c.b,ap c.c,.int .u8 (c.mask:Int)]:List Value)[j]? :=λj=>At.rd A1 j;refine aZ (n:=(E.ses k).pend) (by simp only[aL];exact I1.pend hk rfl) (aS (λq=>hB q h1 O1) λq=> ?_);refine aH (n:=c.kind) (by rw[r];rfl) (aH (n:=c.op) (by rw[r];rfl) (aH (n:=c.dst) (by rw[r];rfl) (aH (n:=c.a) (by rw[r];rfl) (aH (n:=c.b) (by rw[r];rfl) (aH (n:=c.c) (by rw[r];rfl) (aH (n:=(c.mask:Int)) (by rw[r];rfl) ?_))))));refine yE hk I1 S1 ah hm λh2 O2=>aH rfl ?_;have O12:=O1.trans O2 ak;refine aS (λw=>hR q (by simpa using w) h2 O12) λw=> ?_;have w:fX X.n (E.ses k) c=0:=by simpa using w
 have A2:=A1.only O2 ak;have I2:=I1.only0 O2;have r2: ∀j,rd h2 ⟨h.size,j,none⟩=([ap c.kind,ap c.op,ap c.dst,ap c.a,ap c.b,ap c.c,.int .u8 (c.mask:Int)]:List Value)[j]? :=λj=>At.rd A2 j;refine aH (n:=c.kind) (by rw[r2];rfl) (aH (n:=c.op) (by rw[r2];rfl) (aH (n:=c.dst) (by rw[r2];rfl) (aH (n:=c.a) (by rw[r2];rfl) (aH (n:=c.b) (by rw[r2];rfl) (aH (n:=c.c) (by rw[r2];rfl) (aH (n:=(c.mask:Int)) (by rw[r2];rfl) ?_))))));obtain⟨x,ex⟩: ∃x,x=E.ses k:=⟨_,rfl⟩;rw[<-ex]at hK w;have p0:E=E.put k x:=by rw[ex,oE]
 rw[p0]at I2
 have xI: ∀{hh:aI} {y:gl} {j:Nat} {v:Value} {c':lD} {KK:aI->Prop},dy hh e (E.put k y)->j<7->v.oneCell'=true->(∀q,q<7->cC c' q=if q=j then v else cC y.cal q)->
   (∀h',dy h' e (E.put k {y with cal:=c'})->aM [e] hh h'->KK h')->aW hh (Addr.add (Addr.add ⟨e,3+24*k,none⟩ 12) j) v KK:=λ{hh y j v c' KK} I hj hv hc g=>by
  rw[aL,aL];refine dy.setS (x:={y with cal:=c'}) I hk (j:=12+j) ah ah hv (λq hq=> ?_) λh' I' O' _=> ?_
  ·rw[cW];exact GJ hj hc q hq
  ·rw[eI]at I';exact g h' I' O'
 have T: ∀{a b:aI},aM [e] h2 a->aM [e] a b->aM [e] h2 b:=λp q=>p.trans q λb hb _=>hb;rw[sB];refine xI (j:=0) (c':=⟨c.kind,x.cal.op,x.cal.dst,x.cal.a,x.cal.b,x.cal.c,x.cal.mask⟩) I2 ah rfl (λq hq=>by rcases q with _|_|_|_|_|_|_|q<;>first|rfl|omega) λh3 I3 O3=> ?_;refine xI (j:=1) (c':=⟨c.kind,c.op,x.cal.dst,x.cal.a,x.cal.b,x.cal.c,x.cal.mask⟩) I3 ah rfl (λq hq=>by rcases q with _|_|_|_|_|_|_|q<;>first|rfl|omega) λh4 I4 O4=> ?_;refine xI (j:=2) (c':=⟨c.kind,c.op,c.dst,x.cal.a,x.cal.b,x.cal.c,x.cal.mask⟩) I4 ah rfl (λq hq=>by rcases q with _|_|_|_|_|_|_|q<;>first|rfl|omega) λh5 I5 O5=> ?_;refine xI (j:=3) (c':=⟨c.kind,c.op,c.dst,c.a,x.cal.b,x.cal.c,x.cal.mask⟩) I5 ah rfl (λq hq=>by rcases q with _|_|_|_|_|_|_|q<;>first|rfl|omega) λh6 I6 O6=> ?_;refine xI (j:=4) (c':=⟨c.kind,c.op,c.dst,c.a,c.b,x.cal.c,x.cal.mask⟩) I6 ah rfl (λq hq=>by rcases q with _|_|_|_|_|_|_|q<;>first|rfl|omega) λh7 I7 O7=> ?_;refine xI (j:=5) (c':=⟨c.kind,c.op,c.dst,c.a,c.b,c.c,x.cal.mask⟩) I7 ah rfl (λq hq=>by rcases q with _|_|_|_|_|_|_|q<;>first|rfl|omega) λh8 I8 O8=> ?_;refine xI (j:=6) (c':=c) I8 ah rfl (λq hq=>by rcases q with _|_|_|_|_|_|_|q<;>first|rfl|omega) λh9 I9 O9=> ?_;have O29:=T (T (T (T (T (T O3 O4) O5) O6) O7) O8) O9;rw[sB,aL,aL];refine dy.setS (x:={x with cal:=c,pend:=true}) I9 hk (j:=19) ah ah rfl (λq hq=>by rw[cW];exact xK (x:={x with cal:=c}) q hq) λf I10 O10 _=> ?_;rw[eI]at I10;rw[sB,aL,aL];refine dy.setS (x:={x with cal:=c,pend:=true,job:=0}) I10 hk (j:=20) ah ah rfl (λq hq=>by rw[cW];exact Bx (x:={x with cal:=c,pend:=true}) (n:=0) q hq) λd I11 O11 _=> ?_;rw[eI]at I11;exact hK (by rw[ex];exact q) w d I11 ((O12.mono ak).trans (T (T O29 O10) O11) λb hb _=>hb)
def qq(h:aI)(r N:Nat)(f:Int->Int)(B:List Nat):Prop:=
 ∃lo M S W p c,Rf lo h r M S W N f p c (λ_=> [])/\1<=W/\W<=4/\lo<=h.size/\B=r::M::S::(List.range W).flatMap λk=>aV (p k)
def qq.only(H:qq h r N f B)(O:aM S h h')(hS: ∀b∈S,b∉B):qq h' r N f B:=by obtain⟨lo,M,T,W,p,c,H,w1,w4,hl,e⟩:=H;subst e;refine⟨lo,M,T,W,p,c,H.only O (λhm=>hS _ hm ak) (λhm=>hS _ hm ak) (λhm=>hS _ hm ak) (λk hk b hb hm=>hS _ hm ?_),w1,w4,NK hl O.size,rfl⟩;simp only[List.mem_cons,N6,NA];exact .inr (.inr (.inr ⟨k,hk,hb⟩))
def qq.only0(H:qq h r N f B)(O:aM [] h h'):qq h' r N f B:=H.only O ak
def qq.lt{h:aI}(H:qq h r N f B): ∀b∈B,b<h.size:=λb hb=>by
 obtain⟨lo,M,T,W,p,c,H,w1,w4,hl,e⟩:=H;subst e;obtain⟨h1,h2,h3,h4⟩:=H.lt;simp only[List.mem_cons,N6,NA]at hb;rcases hb with e|e|e|⟨k,hk,hb⟩
 ·omega
 ·omega
 ·omega
 ·exact(h4 k hk b hb).2
def Ia{h:aI}(hK: ∀h' r B,qq h' r 0 (λ_=>0) B->(∀b∈B,h.size<=b)->aM [] h h'->K (bg r) h'):Cl 67 [ap x] h K:=by refine Kb λh' r M T H O=> ?_;have hw:=qP x;refine hK h' r _ ⟨h.size,M,T,(wT x).toNat,_,_,H,ah,ah,O.size,rfl⟩ (λb hb=> ?_) O;have g:=H.ge;simp[aV]at hb;omega
def Db{h:aI}{r N:Nat}{f:Int->Int}{B:List Nat}{K:KK}(H:qq h r N f B){x:Nat}(hx:x<4294967296)(hN:N<=LB)(hK: ∀h',qq h' r (N+1) (uV f x (f x+1)) B->aM B h h'->K aE h'):Cl 210 [bg r,aq (x:Int)] h K:=by obtain⟨lo,M,T,W,p,c,H,w1,w4,hl,e⟩:=H;refine Hq H ah hN λh' H' O=>hK h' ⟨lo,M,T,W,p,c,H',w1,w4,NK hl O.size,e⟩ (O.mono λb hb _=> ?_);subst e;simp at hb;simp[hb]
def yc(f:Int->Int)(x:Int):Int->Int:=if f x=0 then f else uV f x (f x-1)
def Gw(H:qq h r N f B)(hN:N<=LB)(hK: ∀h' n,qq h' r (N+1) (yc f x) B->aM B h h'->K (ap n) h'):Cl 209 [bg r,aq x] h K:=by
 obtain⟨lo,M,T,W,p,c,H,w1,w4,hl,e⟩:=H;unfold yc at hK;refine KE H hN (λe0=> ?_) λe0 h' H' O=> ?_
 ·rw[MK e0]at hK;exact hK h _ ⟨lo,M,T,W,p,c,H.grow ah,w1,w4,hl,e⟩ (aM.refl _ _)
 ·rw[MG e0]at hK;refine hK h' _ ⟨lo,M,T,W,p,c,H',w1,w4,NK hl O.size,e⟩ (O.mono λb hb _=> ?_);subst e;simp at hb;simp[hb]
def fL(E:gN)(x k:Nat):Nat:=if(E.ses (k/6)).there (k%6)=true/\(E.ses (k/6)).hnd (k%6)=x then 1 else 0
def fU(g:Nat->Nat):Nat->Nat
 |0=>0
 |n+1=>fU g n+g n
def sd(h: ∀j,j≠k->g' j=g j): ∀n,k<n->fU g' n+g k=fU g n+g' k:=by
 have low: ∀n,n<=k->fU g' n=fU g n:=by
  intro n
  induction n with
  |zero=>intro _;rfl
  |succ n ih=>intro hn;unfold fU;rw[ih ah,h n ah]
 intro n
 induction n with
 |zero=>intro hk;omega
 |succ n ih=>
  intro hk;unfold fU;by_cases e:n=k
  ·subst e;rw[low n (MN _)];omega
  ·have:=ih ah;rw[h n e];omega
def pJ: ∀n,k<n->1<=g k->1<=fU g n:=by
 intro n
 induction n with
 |zero=>intro hk;omega
 |succ n ih=>
  intro hk h1;unfold fU;by_cases e:n=k
  ·subst e;omega
  ·have:=ih ah h1;omega
def lS(E:gN)(x:Nat):Nat:=fU (fL E x) 24
def kV(f:Int->Int)(E:gN):Prop:= ∀x:Nat,f (x:Int)=(lS E x:Int)
def iH(x:gl)(d:Nat):gl:={x with there:=i4 x.there d false,hnd:=i4 x.hnd d 0}
def setS(x:gl)(d v:Nat):gl:={x with there:=i4 x.there d true,hnd:=i4 x.hnd d v}
def w9{E:gN}{x:gl}(hd:d<6)(hx: ∀q,q≠d->x.there q=(E.ses i).there q/\x.hnd q=(E.ses i).hnd q)(v:Nat): ∀j,j≠6*i+d->fL (E.put i x) v j=fL E v j:=λj hj=>by
 unfold fL;by_cases e:j/6=i
 ·have:=hx (j%6) ah;rw[e,cW,this.1,this.2]
 ·rw[show(E.put i x).ses (j/6)=E.ses (j/6)from cO e]
def xL{E:gN}(C:kV f E)(hi:i<4)(hd:d<6):
  kV (if(E.ses i).there d=true then yc f ((E.ses i).hnd d:Nat)else f) (E.put i (iH (E.ses i) d)):=λv=>by
 have up:=sd (g:=fL E v) (g':=fL (E.put i (iH (E.ses i) d)) v) (k:=6*i+d) (w9 hd (λq hq=>⟨cO hq,cO hq⟩) v) 24 ah
 have e0:fL (E.put i (iH (E.ses i) d)) v (6*i+d)=0:=by unfold fL;rw[show(6*i+d)/6=i by omega,show(6*i+d)%6=d by omega,cW,MG];intro c;rw[show(iH (E.ses i) d).there d=false from dt]at c;cases c.1
 have e1:fL E v (6*i+d)=if(E.ses i).there d=true/\(E.ses i).hnd d=v then 1 else 0:=by unfold fL;rw[show(6*i+d)/6=i by omega,show(6*i+d)%6=d by omega]
 rw[e0,e1]at up;have Cv:=C v;unfold lS at Cv ⊢;by_cases t:(E.ses i).there d=true
 ·rw[MK t];have Ch:=C ((E.ses i).hnd d)
  have pos:1<=lS E ((E.ses i).hnd d):=by refine pJ (k:=6*i+d) 24 ah ?_;unfold fL;rw[show(6*i+d)/6=i by omega,show(6*i+d)%6=d by omega,MK ⟨t,rfl⟩];exact MN _
  unfold yc;rw[MG ah];unfold uV;by_cases q:(E.ses i).hnd d=v
  ·rw[MK ah,Ch,q];rw[MK ⟨t,q⟩]at up;unfold lS;omega
  ·rw[MG ah,Cv];rw[MG (λw=>q w.2)]at up;omega
 ·rw[MG t,Cv];rw[MG (λw=>t w.1)]at up;omega
def Ef{f:Int->Int}{E:gN}{i d v0:Nat}(C:kV f E)(hi:i<4)(hd:d<6)(ht:(E.ses i).there d=false):
  kV (uV f (v0:Int) (f (v0:Int)+1)) (E.put i (setS (E.ses i) d v0)):=λv=>by
 have up:=sd (g:=fL E v) (g':=fL (E.put i (setS (E.ses i) d v0)) v) (k:=6*i+d) (w9 hd (λq hq=>⟨cO hq,cO hq⟩) v) 24 ah
 have e0:fL (E.put i (setS (E.ses i) d v0)) v (6*i+d)=if v0=v then 1 else 0:=by unfold fL;rw[show(6*i+d)/6=i by omega,show(6*i+d)%6=d by omega,cW,show(setS (E.ses i) d v0).there d=true from dt,show(setS (E.ses i) d v0).hnd d=v0 from dt];simp
 have e1:fL E v (6*i+d)=0:=by unfold fL;rw[show(6*i+d)/6=i by omega,show(6*i+d)%6=d by omega,ht];simp
 rw[e0,e1]at up;have Cv:=C v;have C0:=C v0;unfold lS at Cv ⊢;unfold uV;by_cases q:v0=v
 ·subst q;rw[MK rfl,C0];rw[MK rfl]at up;unfold lS;omega
 ·rw[MG ah,Cv];rw[MG q]at up;omega
def iF(x:gl)(er:Int)(n:Nat):gl:={x with err:=er,num:=n,ansd:=true,pend:=false}
def vZ{E:gN}(I:dy h e E)(hi:i<4)(ha:E.ans<1000000000)(hK: ∀h',dy h' e {E.put i (iF (E.ses i) er n)with ans:=E.ans+1}->aM [e] h h'->K aE h'):
  Cl 168 [bg e,au ⟨e,3+24*i,none⟩,.agg #[ap er,ar (n:Int)]] h K:=by
 refine F168.spec ?_;refine aX λh1 A1 O1 z1=> ?_;simp only[aL,MF];have I1:=I.only0 O1;refine aH (n:=er) (by rw[At.rd A1];rfl) (aH (n:=(n:Int)) (by rw[At.rd A1];rfl) ?_);obtain⟨x,ex⟩: ∃x,x=E.ses i:=⟨_,rfl⟩;rw[<-ex]at hK;have p0:E=E.put i x:=by rw[ex,oE]
 rw[p0]at I1;have T: ∀{a b:aI},aM [e] h1 a->aM [e] a b->aM [e] h1 b:=λp q=>p.trans q λb hb _=>hb;refine dy.setS (x:={x with err:=er}) I1 hi (j:=21) ah ah rfl (λq hq=>by rw[cW];exact HY q hq) λh2 I2 O2 _=> ?_;rw[eI]at I2;refine dy.setS (x:={x with err:=er,num:=n}) I2 hi (j:=22) ah ah rfl (λq hq=>by rw[cW];exact Gu (x:={x with err:=er}) q hq) λh3 I3 O3 _=> ?_;rw[eI]at I3;refine dy.setS (x:={x with err:=er,num:=n,ansd:=true}) I3 hi (j:=23) ah ah rfl (λq hq=>by rw[cW];exact EW (x:={x with err:=er,num:=n}) q hq) λh4 I4 O4 _=> ?_;rw[eI]at I4;refine dy.setS (x:={x with err:=er,num:=n,ansd:=true,pend:=false}) I4 hi (j:=19) ah ah rfl (λq hq=>by rw[cW];exact xK (x:={x with err:=er,num:=n,ansd:=true}) q hq) λh5 I5 O5 _=> ?_;rw[eI]at I5;refine aH I5.ans ?_
 rw[show ax (((E.put i {x with err:=er,num:=n,ansd:=true,pend:=false}).ans:Int)+1)=((E.ans+1:Nat):Int) by rw[show(E.put i {x with err:=er,num:=n,ansd:=true,pend:=false}).ans=E.ans from rfl,wrap_i64 ah ah];omega]
 refine dy.setA I5 λh6 I6 O6 _=> ?_;exact hK h6 I6 (((O1.mono ak).trans (T (T (T O2 O3) O4) O5) λb hb _=>hb).trans O6 λb hb _=>hb)
def rn{h:aI}{e N i:Nat}{E:gN}{K:KK}{f:Int->Int}{B:List Nat}(I:dy h e E)(R:qq h E.r N f B)(hD:e∉B)(hi:i<4){d:Nat}(hd:d<6)(ed:(E.ses i).cal.dst=(d:Int))(hN:N<=LB)
  (hK: ∀h',dy h' e (E.put i (iH (E.ses i) d))->qq h' E.r (N+1) (if(E.ses i).there d=true then yc f ((E.ses i).hnd d:Nat)else f) B->aM (e::B) h h'->K aE h'):
  Cl 166 [bg e,au ⟨e,3+24*i,none⟩] h K:=by
 refine F166.spec ?_;simp only[aL,MF];have dd:Int.toNat (d:Int)=d:=MO d;have rd0: ∀{hh:aI} {E':gN},dy hh e E'->(E'.ses i).cal.dst=(d:Int)->rd hh ⟨e,3+24*i+12+2,none⟩=some (ap (d:Int)):=λ{hh E'} II e'=>by rw[II.dst hi ah,e']
 refine aH (rd0 I ed) ⟨ah,ah,?_⟩;rw[dd];refine aZ (I.thr hi hd ah) (aH (I.hnd hi hd ah) (aX λh1 A1 O1 z1=> ?_));have I1:=I.only0 O1;refine⟨trivial,trivial,trivial,trivial,trivial,aH (rd0 I1 ed) ⟨rfl,trivial,trivial,ah,ah,trivial,?_⟩⟩;refine aZ (I1.thr hi hd ah) (aH (I1.hnd hi hd ah) ⟨rfl,?_⟩);refine aU A1 ak rfl λh2 A2 O2 z2=>aU A2 ak rfl λh3 A3 O3 z3=> ?_;have he:=At.lt I;have O03:aM [] h h3:=(O1.trans O2 (by intro x hx hl;simp at hx;omega)).trans O3 (by intro x hx hl;simp at hx;omega);have I3:=I.only0 O03;have R3:=R.only0 O03
 have fin: ∀{hh:aI} {f':Int->Int},dy hh e E->qq hh E.r (N+1) f' B->f'=(if(E.ses i).there d=true then yc f ((E.ses i).hnd d:Nat)else f)->aM (e::B) h hh->F166.wk3 ⟨e,3+24*i,none⟩ hh K:=λ{hh f'} II RR ef OO=>by
  unfold F166.wk3;simp only[aL,MF];refine aH (rd0 II ed) ⟨ah,ah,?_⟩;rw[dd];obtain⟨x,ex⟩: ∃x,x=E.ses i:=⟨_,rfl⟩;rw[<-ex]at hK ef;have p0:E=E.put i x:=by rw[ex,oE]
  rw[p0]at II;refine dy.setS (x:={x with there:=i4 x.there d false}) II hi (j:=2*d) ah ah rfl (λq hq=>by rw[cW];exact wQ hd q hq) λh4 I4 O4 _=> ?_;rw[eI]at I4;refine dy.setS (x:=iH x d) I4 hi (j:=2*d+1) ah ah rfl (λq hq=>by rw[cW];exact wW (x:={x with there:=i4 x.there d false}) (n:=0) hd q hq) λh5 I5 O5 _=> ?_;rw[eI]at I5;have O45:aM [e] hh h5:=O4.trans O5 λb hb _=>hb;subst ef;exact hK h5 I5 (RR.only O45 λb hb=>by simp at hb;subst hb;exact hD) (OO.trans O45 λb hb _=>by simp at hb;simp[hb])
 refine aZ (n:=(E.ses i).there d) (by rw[At.rd A3];rfl) (aS (λt=> ?_) λt=> ?_)
 ·refine aR I3.r (aH (n:=((E.ses i).hnd d:Int)) (by rw[At.rd A3];rfl) ?_);refine Gw R3 hN λh4 n R4 O4=>aH rfl ?_;exact fin (I3.only O4 hD) R4 (by rw[MK t]) ((O03.mono ak).trans O4 λb hb _=>by simp[hb])
 ·have R3':qq h3 E.r (N+1) f B:=by
   obtain⟨lo,M,T,W,p,c,H,w1,w4,hl,e⟩:=R3;exact⟨lo,M,T,W,p,c,H.grow ah,w1,w4,hl,e⟩
  exact fin I3 R3' (by rw[MG (by rw[t];simp)]) (O03.mono ak)
def Dm{h:aI}{e N i:Nat}{E:gN}{K:KK}{f:Int->Int}{B:List Nat}(I:dy h e E)(R:qq h E.r N f B)(C:kV f E)(hD:e∉B)(hi:i<4){d v:Nat}(hd:d<6)(ed:(E.ses i).cal.dst=(d:Int))(hv:v<4294967296)(hN:N+1<=LB)
  (hK: ∀h' f',dy h' e (E.put i (setS (E.ses i) d v))->qq h' E.r (N+2) f' B->kV f' (E.put i (setS (E.ses i) d v))->aM (e::B) h h'->K aE h'):
  Cl 167 [bg e,au ⟨e,3+24*i,none⟩,aq (v:Int)] h K:=by
 refine F167.spec ?_;simp only[aL,MF];refine rn I R hD hi hd ed ah λh1 I1 R1 O1=>⟨rfl,?_⟩;have C1:=xL C hi hd;have dd:Int.toNat (d:Int)=d:=MO d;refine aH (n:=(d:Int)) (by rw[I1.dst hi ah,cW];exact congrArg (λz=>some (ap z)) ed) ⟨ah,ah,?_⟩;rw[dd];obtain⟨x,ex⟩: ∃x,x=iH (E.ses i) d:=⟨_,rfl⟩;rw[<-ex]at I1 C1;refine dy.setS (x:={x with there:=i4 x.there d true}) I1 hi (j:=2*d) ah ah rfl (λq hq=>by rw[cW];exact wQ hd q hq) λh4 I4 O4 _=> ?_;rw[eI]at I4;refine dy.setS (x:=setS x d v) I4 hi (j:=2*d+1) ah ah rfl (λq hq=>by rw[cW];exact wW (x:={x with there:=i4 x.there d true}) (n:=v) hd q hq) λh5 I5 O5 _=> ?_;rw[eI]at I5;have O45:aM [e] h1 h5:=O4.trans O5 λb hb _=>hb;have R5:=R1.only O45 λb hb=>by simp at hb;subst hb;exact hD
 refine aR I5.r ?_;refine Db R5 hv ah λh6 R6 O6=>⟨rfl,?_⟩;have ht:((E.put i x).ses i).there d=false:=by rw[cW,ex];exact dt
 have C2:=Ef (v0:=v) C1 hi hd ht;rw[cW,eI]at C2;have a:setS x d v=setS (E.ses i) d v:=by rw[ex];unfold setS iH;rw[nN,nN]
 rw[a]at C2 I5;exact hK h6 _ (I5.only O6 hD) R6 C2 ((O1.trans O45 λb hb _=>by simp at hb;simp[hb]).trans O6 λb hb _=>by simp[hb])
def sL(S:gl):List Value:=[sC S 0,sC S 1,sC S 2,sC S 3,sC S 4,sC S 5,sC S 6,sC S 7,sC S 8,sC S 9,sC S 10,sC S 11,sC S 12,sC S 13,sC S 14,sC S 15,sC S 16,sC S 17,sC S 18,sC S 19,sC S 20,sC S 21,sC S 22,sC S 23]
def vy{h:aI}{v:List Value}{x:Int}{S:gl}{G:Nat->aI->Prop}(r: ∀j,j<24->v[Int.toNat x*24+j]? =some (sC S j))(hG: ∀h',At h' h.size (sL S)->aM [] h h'->G h.size h'):
  bP (v[Int.toNat x*24+0]?) (λb1=>aQ .u32 (v[Int.toNat x*24+1]?) (λn2=>bP (v[Int.toNat x*24+2]?) (λb3=>aQ .u32 (v[Int.toNat x*24+3]?) (λn4=>bP (v[Int.toNat x*24+4]?) (λb5=>aQ .u32 (v[Int.toNat x*24+5]?) (λn6=>bP (v[Int.toNat x*24+6]?) (λb7=>aQ .u32 (v[Int.toNat x*24+7]?) (λn8=>bP (v[Int.toNat x*24+8]?) (λb9=>aQ .u32 (v[Int.toNat x*24+9]?) (λa0=>bP (v[Int.toNat x*24+10]?) (λV=>aQ .u32 (v[Int.toNat x*24+11]?) (λJ=>aQ .i64 (v[Int.toNat x*24+12]?) (λc=>aQ .i64 (v[Int.toNat x*24+13]?) (λz=>aQ .i64 (v[Int.toNat x*24+14]?) (λf=>aQ .i64 (v[Int.toNat x*24+15]?) (λd=>aQ .i64 (v[Int.toNat x*24+16]?) (λP=>aQ .i64 (v[Int.toNat x*24+17]?) (λN=>aQ .u8 (v[Int.toNat x*24+18]?) (λi=>bP (v[Int.toNat x*24+19]?) (λF=>aQ .i64 (v[Int.toNat x*24+20]?) (λq=>aQ .i64 (v[Int.toNat x*24+21]?) (λQ=>aQ .u64 (v[Int.toNat x*24+22]?) (λu=>bP (v[Int.toNat x*24+23]?) (λm=>bf h (.cells #[aB,(aq (0:Int)),aB,(aq (0:Int)),aB,(aq (0:Int)),aB,(aq (0:Int)),aB,(aq (0:Int)),aB,(aq (0:Int)),(ap (0:Int)),(ap (0:Int)),(ap (0:Int)),(ap (0:Int)),(ap (0:Int)),(ap (0:Int)),(.int .u8 (0:Int)),aB,(ap (0:Int)),(ap (0:Int)),(ar (0:Int)),aB] 129) (λa a2=>aW a2 (Addr.add (aw a) 0) (aD b1) (λY=>aW Y (Addr.add (aw a) 1) (aq n2) (λC=>aW C (Addr.add (aw a) 2) (aD b3) (λg=>aW g (Addr.add (aw a) 3) (aq n4) (λA=>aW A (Addr.add (aw a) 4) (aD b5) (λa5=>aW a5 (Addr.add (aw a) 5) (aq n6) (λk=>aW k (Addr.add (aw a) 6) (aD b7) (λL=>aW L (Addr.add (aw a) 7) (aq n8) (λO=>aW O (Addr.add (aw a) 8) (aD b9) (λM=>aW M (Addr.add (aw a) 9) (aq a0) (λa1=>aW a1 (Addr.add (aw a) 10) (aD V) (λD=>aW D (Addr.add (aw a) 11) (aq J) (λW=>aW W (Addr.add (aw a) 12) (ap c) (λB=>aW B (Addr.add (aw a) 13) (ap z) (λR=>aW R (Addr.add (aw a) 14) (ap f) (λb=>aW b (Addr.add (aw a) 15) (ap d) (λH=>aW H (Addr.add (aw a) 16) (ap P) (λI=>aW I (Addr.add (aw a) 17) (ap N) (λZ=>aW Z (Addr.add (aw a) 18) (.int .u8 i) (λa4=>aW a4 (Addr.add (aw a) 19) (aD F) (λt=>aW t (Addr.add (aw a) 20) (ap q) (λn=>aW n (Addr.add (aw a) 21) (ap Q) (λa3=>aW a3 (Addr.add (aw a) 22) (ar u) (λl=>aW l (Addr.add (aw a) 23) (aD m) (λU=>G a U))))))))))))))))))))))))))))))))))))))))))))))))):=by
 refine aZ (r 0 ah) ?_;refine aH (r 1 ah) ?_;refine aZ (r 2 ah) ?_;refine aH (r 3 ah) ?_;refine aZ (r 4 ah) ?_;refine aH (r 5 ah) ?_;refine aZ (r 6 ah) ?_;refine aH (r 7 ah) ?_;refine aZ (r 8 ah) ?_;refine aH (r 9 ah) ?_;refine aZ (r 10 ah) ?_;refine aH (r 11 ah) ?_;refine aH (r 12 ah) ?_;refine aH (r 13 ah) ?_;refine aH (r 14 ah) ?_;refine aH (r 15 ah) ?_;refine aH (r 16 ah) ?_;refine aH (r 17 ah) ?_;refine aH (r 18 ah) ?_;refine aZ (r 19 ah) ?_;refine aH (r 20 ah) ?_;refine aH (r 21 ah) ?_;refine aH (r 22 ah) ?_;refine aZ (r 23 ah) ?_;refine aX λh1 A1 O1 z1=> ?_;show pE (aw h.size) 0 (sL S) h1 λh'=>G h.size h';refine jU (o:=0) (sL S) 0 _ h1 A1 (by simp[sL]) (λw hw=> ?_) λh2 A2 O2 z2=>hG h2 ?_ (O1.trans O2 (by intro y hy hl;simp at hy;omega))
 ·simp only[sL,List.mem_cons,Nw,NP]at hw;rcases hw with e|e|e|e|e|e|e|e|e|e|e|e|e|e|e|e|e|e|e|e|e|e|e|e<;>subst e<;>exact Gs _
 ·simpa[sL]using A2
def Ig{h:aI}{e:Nat}{E:gN}(I:dy h e E){Q:List Value->Prop}(hQ: ∀v,(∀(k j:Nat),k<4->j<24->v[Int.toNat (k:Int)*24+j]? =some (sC (E.ses k) j))->Q v):IB h (Addr.add (aw e) 3) 96 Q:=by
 refine⟨cX 96 λq=>eC E (3+q),bZ _ _,λj v hj=> ?_,hQ _ λk j hk hj=> ?_⟩
 ·have hl:j<96:=by have:=(MQ.1 hj).1;rwa[bZ]at this
  rw[dk hl]at hj;injection hj with hj;subst hj;rw[aL,aL,MF];exact I.rd ah
 ·rw[dk ah,show 3+(Int.toNat (k:Int)*24+j)=3+24*k+j by omega,vr hk hj]
def kJ(E:gN):Prop:= ∃k,k<4/\(E.ses k).pend=true
def tz(E:gN):Prop:= ∃k,k<4/\(E.ses k).pend=true/\0<(E.ses k).job
def AX(E:gN):Prop:= ∃k,k<4/\(E.ses k).pend=true/\(E.ses k).cal.kind=8
def sS{k:Nat}(hk:k<4):ax ((k:Int)+1)=((k+1:Nat):Int):=by rw[wrap_i64 ah ah];omega
def rA{h:aI}{e:Nat}{E:gN}{K:KK}(I:dy h e E)(hT:kJ E-> ∀h',aM [] h h'->K aC h')(hF: ¬kJ E-> ∀h',aM [] h h'->K aB h'):Cl 78 [bg e] h K:=by
 refine F78.spec _ h K ?_;refine Ig I λv r=> ?_
 have a: ∀(d k:Nat) (hh:aI),d+k=4->(∀j,j<k->(E.ses j).pend=false)->aM [] h hh->F78.wL2 (d+1) v (k:Int) hh K:=by
  intro d
  induction d with
  |zero=>
   intro k hh hk hb O;rw[F78.sL2];rw[MJ ah,aJ];refine hF (λ⟨j,hj,hp⟩=> ?_) hh O;rw[hb j ah]at hp;cases hp
  |succ d ih=>
   intro k hh hk hb O;rw[F78.sL2];rw[MP ah,aO];refine⟨ah,ah,vy (S:=E.ses k) (λj hj=>r k j ah hj) λh2 A2 O2=> ?_⟩;refine aZ (n:=(E.ses k).pend) (by rw[aL,At.rd A2];rfl) (aS (λp=> ?_) λp=> ?_)
   ·exact hT ⟨k,ah,p⟩ h2 (O.trans O2 ak)
   ·rw[sS ah];refine ih (k+1) h2 ah (λj hj=> ?_) (O.trans O2 ak);by_cases q:j=k
    ·rw[q];exact p
    ·exact hb j ah
 exact⟨_,a 4 0 h ah (λj hj=>ah) (aM.refl _ _)⟩
def vX{h:aI}{e:Nat}{E:gN}{K:KK}(I:dy h e E)(hT:tz E-> ∀h',aM [] h h'->K aC h')(hF: ¬tz E-> ∀h',aM [] h h'->K aB h'):Cl 170 [bg e] h K:=by
 refine F170.spec _ h K ?_;refine Ig I λv r=> ?_
 have a: ∀(d k:Nat) (hh:aI),d+k=4->(∀j,j<k-> ¬((E.ses j).pend=true/\0<(E.ses j).job))->aM [] h hh->F170.wL2 (d+1) v (k:Int) hh K:=by
  intro d
  induction d with
  |zero=>
   intro k hh hk hb O;rw[F170.sL2];rw[MJ ah,aJ];exact hF (λ⟨j,hj,hp⟩=>hb j ah hp) hh O
  |succ d ih=>
   intro k hh hk hb O;rw[F170.sL2];rw[MP ah,aO];refine⟨ah,ah,vy (S:=E.ses k) (λj hj=>r k j ah hj) λh2 A2 O2=> ?_⟩
   have on: ¬((E.ses k).pend=true/\0<(E.ses k).job)->F170.wL2 (d+1) v (ax ((k:Int)+1)) h2 K:=λg=>by
    rw[sS ah];refine ih (k+1) h2 ah (λj hj=> ?_) (O.trans O2 ak);by_cases q:j=k
    ·rw[q];exact g
    ·exact hb j ah
   refine aZ (n:=(E.ses k).pend) (by rw[aL,At.rd A2];rfl) (aS (λp=> ?_) λp=> ?_)
   ·refine aH (n:=((E.ses k).job:Int)) (by rw[aL,At.rd A2];rfl) (aS (λq=> ?_) λq=> ?_)
    ·have q:(0:Int)<((E.ses k).job:Int):=MV q;exact hT ⟨k,ah,p,ah⟩ h2 (O.trans O2 ak)
    ·have q: ¬(0:Int)<((E.ses k).job:Int):=MU q;exact on λw=>q ah
   ·exact on λw=>by rw[p]at w;cases w.1
 exact⟨_,a 4 0 h ah (λj hj=>ah) (aM.refl _ _)⟩
def Cy{h:aI}{e:Nat}{E:gN}{K:KK}(I:dy h e E)(hT:AX E-> ∀h',aM [] h h'->K aC h')(hF: ¬AX E-> ∀h',aM [] h h'->K aB h'):Cl 214 [bg e] h K:=by
 refine F214.spec _ h K ?_;refine Ig I λv r=> ?_
 have a: ∀(d k:Nat) (hh:aI),d+k=4->(∀j,j<k-> ¬((E.ses j).pend=true/\(E.ses j).cal.kind=8))->aM [] h hh->F214.wL2 (d+1) v (k:Int) hh K:=by
  intro d
  induction d with
  |zero=>
   intro k hh hk hb O;rw[F214.sL2];rw[MJ ah,aJ];exact hF (λ⟨j,hj,hp⟩=>hb j ah hp) hh O
  |succ d ih=>
   intro k hh hk hb O;rw[F214.sL2];rw[MP ah,aO];refine⟨ah,ah,vy (S:=E.ses k) (λj hj=>r k j ah hj) λh2 A2 O2=> ?_⟩
   have on: ¬((E.ses k).pend=true/\(E.ses k).cal.kind=8)->F214.wL2 (d+1) v (ax ((k:Int)+1)) h2 K:=λg=>by
    rw[sS ah];refine ih (k+1) h2 ah (λj hj=> ?_) (O.trans O2 ak);by_cases q:j=k
    ·rw[q];exact g
    ·exact hb j ah
   refine aZ (n:=(E.ses k).pend) (by rw[aL,At.rd A2];rfl) (aS (λp=> ?_) λp=> ?_)
   ·refine aH (n:=(E.ses k).cal.kind) (by rw[aL,aL,At.rd A2];rfl) (aS (λq=> ?_) λq=> ?_)
    ·exact hT ⟨k,ah,p,by simpa using q⟩ h2 (O.trans O2 ak)
    ·exact on λw=>by simp[w.2]at q
   ·exact on λw=>by rw[p]at w;cases w.1
 exact⟨_,a 4 0 h ah (λj hj=>ah) (aM.refl _ _)⟩
def wg(s p r:Nat):gN:=⟨s,p,r,λ_=>⟨λ_=>false,λ_=>0,⟨0,0,0,0,0,0,0⟩,false,0,0,0,false⟩,0⟩
def IV(s p r:Nat):kV (λ_=>0) (wg s p r):=λx=>by
 have: ∀n,fU (fL (wg s p r) x) n=0:=by
  intro n
  induction n with
  |zero=>rfl
  |succ n ih=>unfold fU;rw[ih];unfold fL wg;simp
 unfold lS;rw[this]
 rfl
section
variable {i j k l m n o p q r s t:Int}{a b c d:Addr}{u v:Nat}{x y:az}{h:aI}{K:KK}
def F83.T:bi:=⟨[],[(10,[[(0,[]),(1,[]),(2,[]),(3,[]),(4,[]),(5,[]),(7,[]),(6,[7]),(8,[]),(9,[]),(10,[]),(11,[]),(12,[]),(13,[]),(15,[]),(16,[]),(14,[15,16]),(17,[]),(18,[]),(19,[]),(20,[18,19]),(21,[])]])]⟩
def F83.spec{i j:Int}{a:Addr}{u v:Nat}{x:az}{h:aI}{K:KK}(H:bf h (.cells #[ar 0,ar 0,ar 0,ar 0] 51) λb c=>aK (i==0) (aW c ((aw b).add 0) (ar 0) λa=>aW a ((aw b).add 1) (ar 0) λa=>aW a ((aw b).add 2) (ar 0) λa=>aW a ((aw b).add 3) (ar 0) λa=>aQ .u64 (rd a ((aw b).add 0)) λc=>aQ .u64 (rd a ((aw b).add 1)) λd=>aQ .u64 (rd a ((aw b).add 2)) λe=>aQ .u64 (rd a ((aw b).add 3)) λb=>K (.tuple #[.agg #[ar c,ar d,ar e,ar b],aC]) a) (aK (i==1) (Cl 86 [.agg #[ar 0,ar 0,ar 0,ar 0]] c λa c=> ∃d:Int,∃e:Int,∃f:Int,∃g:Int,a=(.agg #[ar d,ar e,ar f,ar g])/\aW c ((aw b).add 0) (ar d) λa=>aW a ((aw b).add 1) (ar e) λa=>aW a ((aw b).add 2) (ar f) λa=>aW a ((aw b).add 3) (ar g) λa=>aQ .u64 (rd a ((aw b).add 0)) λc=>aQ .u64 (rd a ((aw b).add 1)) λd=>aQ .u64 (rd a ((aw b).add 2)) λe=>aQ .u64 (rd a ((aw b).add 3)) λb=>K (.tuple #[.agg #[ar c,ar d,ar e,ar b],aC]) a) (Cl 71 [au a,aq i] c λc d=>aQ .i64 (some c) λc=>Cl 74 [au a,aq i] d λd e=>bP (some d) λd=>aK (!d) (aW e ((aw b).add 0) (ar 0) λa=>aW a ((aw b).add 1) (ar 0) λa=>aW a ((aw b).add 2) (ar 0) λa=>aW a ((aw b).add 3) (ar 0) λa=>aQ .u64 (rd a ((aw b).add 0)) λc=>aQ .u64 (rd a ((aw b).add 1)) λd=>aQ .u64 (rd a ((aw b).add 2)) λe=>aQ .u64 (rd a ((aw b).add 3)) λb=>K (.tuple #[.agg #[ar c,ar d,ar e,ar b],aB]) a) (aK (c<j) (aW e ((aw b).add 0) (ar 0) λa=>aW a ((aw b).add 1) (ar 0) λa=>aW a ((aw b).add 2) (ar 0) λa=>aW a ((aw b).add 3) (ar 0) λa=>aQ .u64 (rd a ((aw b).add 0)) λc=>aQ .u64 (rd a ((aw b).add 1)) λd=>aQ .u64 (rd a ((aw b).add 2)) λe=>aQ .u64 (rd a ((aw b).add 3)) λb=>K (.tuple #[.agg #[ar c,ar d,ar e,ar b],aB]) a) (aK (c>=(u:Int)) (aW e ((aw b).add 0) (ar 0) λa=>aW a ((aw b).add 1) (ar 0) λa=>aW a ((aw b).add 2) (ar 0) λa=>aW a ((aw b).add 3) (ar 0) λa=>aQ .u64 (rd a ((aw b).add 0)) λc=>aQ .u64 (rd a ((aw b).add 1)) λd=>aQ .u64 (rd a ((aw b).add 2)) λe=>aQ .u64 (rd a ((aw b).add 3)) λb=>K (.tuple #[.agg #[ar c,ar d,ar e,ar b],aB]) a) (Cl 72 [au a,aq i] e λd e=>aQ .u32 (some d) λd=>Cl 83 [au a,aq d,.slice x u v,ap (ax (c+1))] e λd e=> ∃f:Int,∃g:Int,∃j:Int,∃k:Int,∃l:Bool,d=(.tuple #[.agg #[ar f,ar g,ar j,ar k],aD l])/\bf e (.cells #[ar 0,ar 0,ar 0,ar 0] 51) λd e=>aW e ((aw d).add 0) (ar f) λe=>aW e ((aw d).add 1) (ar g) λe=>aW e ((aw d).add 2) (ar j) λe=>aW e ((aw d).add 3) (ar k) λe=>Cl 73 [au a,aq i] e λe f=>aQ .u32 (some e) λe=>Cl 83 [au a,aq e,.slice x u v,ap (ax (c+1))] f λe f=> ∃g:Int,∃j:Int,∃k:Int,∃m:Int,∃n:Bool,e=(.tuple #[.agg #[ar g,ar j,ar k,ar m],aD n])/\bf f (.cells #[ar 0,ar 0,ar 0,ar 0] 51) λe f=>aW f ((aw e).add 0) (ar g) λf=>aW f ((aw e).add 1) (ar j) λf=>aW f ((aw e).add 2) (ar k) λf=>aW f ((aw e).add 3) (ar m) λf=>aY x λg=>0<=c/\c<(u:Int)/\aQ .u64 (rd f ((g.add (c.toNat*4)).add 0)) λj=>aQ .u64 (rd f ((g.add (c.toNat*4)).add 1)) λk=>aQ .u64 (rd f ((g.add (c.toNat*4)).add 2)) λm=>aQ .u64 (rd f ((g.add (c.toNat*4)).add 3)) λc=>aQ .u64 (rd f ((aw e).add 0)) λg=>aQ .u64 (rd f ((aw e).add 1)) λo=>aQ .u64 (rd f ((aw e).add 2)) λp=>aQ .u64 (rd f ((aw e).add 3)) λe=>aQ .u64 (rd f ((aw d).add 0)) λq=>aQ .u64 (rd f ((aw d).add 1)) λr=>aQ .u64 (rd f ((aw d).add 2)) λs=>aQ .u64 (rd f ((aw d).add 3)) λd=>Cl 131 [.agg #[ar j,ar k,ar m,ar c],.agg #[ar g,ar o,ar p,ar e],.agg #[ar q,ar r,ar s,ar d]] f λc d=> ∃e:Int,∃f:Int,∃g:Int,∃j:Int,c=(.agg #[ar e,ar f,ar g,ar j])/\aF (aD l)/\aK l (aK n (Cl 72 [au a,aq i] d λc d=>aQ .u32 (some c) λc=>aF (au a)/\aF (aq i)/\Cl 73 [au a,aq i] d λa d=>aQ .u32 (some a) λa=>aW d ((aw b).add 0) (ar e) λd=>aW d ((aw b).add 1) (ar f) λd=>aW d ((aw b).add 2) (ar g) λd=>aW d ((aw b).add 3) (ar j) λd=>aF (aD (c !=a))/\aF (aD (c !=a))/\aQ .u64 (rd d ((aw b).add 0)) λe=>aQ .u64 (rd d ((aw b).add 1)) λf=>aQ .u64 (rd d ((aw b).add 2)) λg=>aQ .u64 (rd d ((aw b).add 3)) λb=>K (.tuple #[.agg #[ar e,ar f,ar g,ar b],aD (c !=a)]) d) ((aE=undef/\aE=undef/\aW d ((aw b).add 0) (ar e) λa=>aW a ((aw b).add 1) (ar f) λa=>aW a ((aw b).add 2) (ar g) λa=>aW a ((aw b).add 3) (ar j) λa=>aE=undef/\aF aB/\aQ .u64 (rd a ((aw b).add 0)) λc=>aQ .u64 (rd a ((aw b).add 1)) λd=>aQ .u64 (rd a ((aw b).add 2)) λe=>aQ .u64 (rd a ((aw b).add 3)) λb=>K (.tuple #[.agg #[ar c,ar d,ar e,ar b],aB]) a))) ((aE=undef/\aE=undef/\aW d ((aw b).add 0) (ar e) λa=>aW a ((aw b).add 1) (ar f) λa=>aW a ((aw b).add 2) (ar g) λa=>aW a ((aw b).add 3) (ar j) λa=>aE=undef/\aF aB/\aQ .u64 (rd a ((aw b).add 0)) λc=>aQ .u64 (rd a ((aw b).add 1)) λd=>aQ .u64 (rd a ((aw b).add 2)) λe=>aQ .u64 (rd a ((aw b).add 3)) λb=>K (.tuple #[.agg #[ar c,ar d,ar e,ar b],aB]) a)))))))):Cl 83 [au a,aq i,.slice x u v,ap j] h K:=cT F83.T Tryz.func83 H
def F29.T:bi:=⟨[(4,[0,1,4,6,7,8]),(7,[0,1,4,7])],[]⟩
section
variable (n:Nat)(i:Addr)(l:Int)(a:Addr)(g:az)(b j:Nat)(f:az)(d c:Nat)(o:Int)(h:aI)(K:KK)
def F29.wL4:Prop:=Lp Tryz.f29 F29.T [1,1,1,0,1,0] n [(0,(au i)),(1,(aq l)),(4,(au a)),(6,(.slice g b j)),(7,(.slice f d c)),(8,(ap o))] h K
def F29.wk7:Prop:=Cl 83 [au i,aq l,.slice f d c,ap 0] h λb c=> ∃d:Int,∃e:Int,∃f:Int,∃g:Int,∃i:Bool,b=(.tuple #[.agg #[ar d,ar e,ar f,ar g],aD i])/\aW c (a.add 0) (ar d) λb=>aW b (a.add 1) (ar e) λb=>aW b (a.add 2) (ar f) λb=>aW b (a.add 3) (ar g) λb=>aQ .u64 (rd b (a.add 0)) λc=>aQ .u64 (rd b (a.add 1)) λd=>aQ .u64 (rd b (a.add 2)) λe=>aQ .u64 (rd b (a.add 3)) λa=>K (.tuple #[.agg #[ar c,ar d,ar e,ar a],aD i]) b
def F29.sL4:F29.wL4 (n+1) i l a g b j f d c o h K=(aK (o<(b:Int)) (aY g λe=>0<=o/\o<(b:Int)/\aQ .i64 (rd h (e.add (o.toNat*1))) λe=>Cl 33 [ap e] h λe k=> ∃m:Int,∃p:Int,∃q:Int,∃r:Int,e=(.agg #[ar m,ar p,ar q,ar r])/\bf k (.cells #[ar m,ar p,ar q,ar r] 51) λe k=>fC k 51 4 32 #[ar 0,ar 0,ar 0,ar 0] f d c (some (aw e)) 1 λc d e f=>F29.wL4 n i l a g b j c d e (ax (o+1)) f K) (F29.wk7 i l a f d c h K)):=by kernel_rfl
def F29.wk4:Prop:=(∃e,F29.wL4 e i l a g b j f d c o h K)
def F29.spec(H:bf h (.cells #[ar 0,ar 0,ar 0,ar 0] 51) λa b=>Cl 47 [au i] b λb c=>a8 (some b) λb=>Cl 48 [aA b] c λb c=>cx (some b) λb d e=>F29.wk4 i l (aw a) b d e none 0 0 0 c K):Cl 29 [au i,aq l] h K:=cT F29.T Tryz.func29 H
end
end
section
variable {i j k l m n o p q r s t:Int}{a b c d:Addr}{u v:Nat}{x y:az}{h:aI}{K:KK}
def F131.T:bi:=⟨[],[(1,[[(0,[]),(1,[]),(3,[]),(5,[]),(2,[3,5]),(4,[5]),(6,[]),(7,[]),(8,[])]])]⟩
def F131.spec(H:bf h (.cells #[ar i,ar j,ar k,ar l] 51) λa b=>bf b (.cells #[ar m,ar n,ar o,ar p] 51) λb c=>bf c (.cells #[ar q,ar r,ar s,ar t] 51) λc d=>bf d (.cells #[ar 0,ar 0,ar 0,ar 0] 51) λd e=>aQ .u64 (rd e ((aw a).add 0)) λf=>aQ .u64 (rd e ((aw a).add 1)) λg=>aQ .u64 (rd e ((aw a).add 2)) λi=>aQ .u64 (rd e ((aw a).add 3)) λj=>aQ .u64 (rd e ((aw b).add 0)) λk=>aQ .u64 (rd e ((aw b).add 1)) λl=>aQ .u64 (rd e ((aw b).add 2)) λm=>aQ .u64 (rd e ((aw b).add 3)) λb=>aQ .u64 (rd e ((aw a).add 0)) λn=>aQ .u64 (rd e ((aw a).add 1)) λo=>aQ .u64 (rd e ((aw a).add 2)) λp=>aQ .u64 (rd e ((aw a).add 3)) λq=>aQ .u64 (rd e ((aw c).add 0)) λr=>aQ .u64 (rd e ((aw c).add 1)) λs=>aQ .u64 (rd e ((aw c).add 2)) λt=>aQ .u64 (rd e ((aw c).add 3)) λu=>Cl 145 [.agg #[ar f,ar g,ar i,ar j],.agg #[ar k,ar l,ar m,ar b]] e λb e=> ∃f:Int,∃g:Int,∃i:Int,∃j:Int,b=(.agg #[ar f,ar g,ar i,ar j])/\aQ .u64 (rd e ((aw a).add 0)) λb=>aQ .u64 (rd e ((aw a).add 1)) λk=>aQ .u64 (rd e ((aw a).add 2)) λl=>aQ .u64 (rd e ((aw a).add 3)) λa=>aG (.agg #[ar b,ar k,ar l,ar a]) (.agg #[ar n,ar o,ar p,ar q])/\aQ .u64 (rd e ((aw c).add 0)) λa=>aQ .u64 (rd e ((aw c).add 1)) λb=>aQ .u64 (rd e ((aw c).add 2)) λk=>aQ .u64 (rd e ((aw c).add 3)) λl=>aG (.agg #[ar a,ar b,ar k,ar l]) (.agg #[ar r,ar s,ar t,ar u])/\Cl 86 [.agg #[ar n,ar o,ar p,ar q]] e λa b=> ∃e:Int,∃k:Int,∃l:Int,∃m:Int,a=(.agg #[ar e,ar k,ar l,ar m])/\aQ .u64 (rd b ((aw c).add 0)) λa=>aQ .u64 (rd b ((aw c).add 1)) λn=>aQ .u64 (rd b ((aw c).add 2)) λo=>aQ .u64 (rd b ((aw c).add 3)) λc=>aG (.agg #[ar a,ar n,ar o,ar c]) (.agg #[ar r,ar s,ar t,ar u])/\Cl 145 [.agg #[ar e,ar k,ar l,ar m],.agg #[ar r,ar s,ar t,ar u]] b λa b=> ∃c:Int,∃e:Int,∃k:Int,∃l:Int,a=(.agg #[ar c,ar e,ar k,ar l])/\Cl 146 [.agg #[ar f,ar g,ar i,ar j],.agg #[ar c,ar e,ar k,ar l]] b λa b=> ∃c:Int,∃e:Int,∃f:Int,∃g:Int,a=(.agg #[ar c,ar e,ar f,ar g])/\aW b ((aw d).add 0) (ar c) λa=>aW a ((aw d).add 1) (ar e) λa=>aW a ((aw d).add 2) (ar f) λa=>aW a ((aw d).add 3) (ar g) λa=>aQ .u64 (rd a ((aw d).add 0)) λb=>aQ .u64 (rd a ((aw d).add 1)) λc=>aQ .u64 (rd a ((aw d).add 2)) λe=>aQ .u64 (rd a ((aw d).add 3)) λd=>K (.agg #[ar b,ar c,ar e,ar d]) a):Cl 131 [.agg #[ar i,ar j,ar k,ar l],.agg #[ar m,ar n,ar o,ar p],.agg #[ar q,ar r,ar s,ar t]] h K:=cT F131.T Tryz.func131 H
def F145.T:bi:=⟨[(2,[2,3,4,5])],[(4,[[(0,[]),(1,[]),(2,[]),(3,[]),(4,[]),(5,[]),(6,[]),(7,[]),(8,[]),(9,[])]])]⟩
section
variable (n:Nat)(d f g i j l o q:Int)(c r b:Addr)(a:Int)(h:aI)(K:KK)
def F145.wL2:Prop:=Lp Tryz.f145 F145.T [1,0,1,0] n [(2,(au c)),(3,(au r)),(4,(au b)),(5,(ap a))] h K
def F145.sL2:F145.wL2 (n+1) c r b a h K=(aK (a<4) ((0<=a/\a<4/\aQ .u64 (rd h (c.add (a.toNat*1))) λd=>0<=a/\a<4/\aQ .u64 (rd h (r.add (a.toNat*1))) λe=>0<=a/\a<4/\aW h ((c.add (a.toNat*1)).add 0) (ar (bo .and .u64 d e)) λd=>F145.wL2 n c r b (ax (a+1)) d K)) (aQ .u64 (rd h (c.add 0)) λa=>aQ .u64 (rd h (c.add 1)) λd=>aQ .u64 (rd h (c.add 2)) λe=>aQ .u64 (rd h (c.add 3)) λc=>aW h (b.add 0) (ar a) λa=>aW a (b.add 1) (ar d) λa=>aW a (b.add 2) (ar e) λa=>aW a (b.add 3) (ar c) λa=>aQ .u64 (rd a (b.add 0)) λc=>aQ .u64 (rd a (b.add 1)) λd=>aQ .u64 (rd a (b.add 2)) λe=>aQ .u64 (rd a (b.add 3)) λb=>K (.agg #[ar c,ar d,ar e,ar b]) a)):=by kernel_rfl
def F145.wk2:Prop:=(∃d,F145.wL2 d c r b a h K)
def F145.spec(H:bf h (.cells #[ar d,ar f,ar g,ar i] 51) λa b=>bf b (.cells #[ar j,ar l,ar o,ar q] 51) λb c=>bf c (.cells #[ar 0,ar 0,ar 0,ar 0] 51) λc d=>F145.wk2 (aw a) (aw b) (aw c) 0 d K):Cl 145 [.agg #[ar d,ar f,ar g,ar i],.agg #[ar j,ar l,ar o,ar q]] h K:=cT F145.T Tryz.func145 H
end
def F86.T:bi:=⟨[(2,[1,2,3])],[]⟩
section
variable (n:Nat)(d f g i:Int)(c a:Addr)(b:Int)(h:aI)(K:KK)
def F86.wL2:Prop:=Lp Tryz.f86 F86.T [1,0,1,0] n [(1,(au c)),(2,(au a)),(3,(ap b))] h K
def F86.sL2:F86.wL2 (n+1) c a b h K=(aK (b<4) ((0<=b/\b<4/\aQ .u64 (rd h (c.add (b.toNat*1))) λd=>0<=b/\b<4/\aW h ((c.add (b.toNat*1)).add 0) (ar (bo .xor .u64 (if IntKind.signed .u64 then-1 else IntKind.max .u64) d)) λd=>F86.wL2 n c a (ax (b+1)) d K)) (aQ .u64 (rd h (c.add 0)) λb=>aQ .u64 (rd h (c.add 1)) λd=>aQ .u64 (rd h (c.add 2)) λe=>aQ .u64 (rd h (c.add 3)) λc=>aW h (a.add 0) (ar b) λb=>aW b (a.add 1) (ar d) λb=>aW b (a.add 2) (ar e) λb=>aW b (a.add 3) (ar c) λb=>aQ .u64 (rd b (a.add 0)) λc=>aQ .u64 (rd b (a.add 1)) λd=>aQ .u64 (rd b (a.add 2)) λe=>aQ .u64 (rd b (a.add 3)) λa=>K (.agg #[ar c,ar d,ar e,ar a]) b)):=by kernel_rfl
def F86.wk2:Prop:=(∃d,F86.wL2 d c a b h K)
def F86.spec(H:bf h (.cells #[ar d,ar f,ar g,ar i] 51) λa b=>bf b (.cells #[ar 0,ar 0,ar 0,ar 0] 51) λb c=>F86.wk2 (aw a) (aw b) 0 c K):Cl 86 [.agg #[ar d,ar f,ar g,ar i]] h K:=cT F86.T Tryz.func86 H
end
end
def pc(f g:Nat->Nat)(i j:Nat):Nat:=if j<i then f j&&&g j else f j
def qe(f:Nat->Nat)(i j:Nat):Nat:=if j<i then(fV-1)^^^f j else f j
def E7(hf:ko f)(_hg:ko g)(i:Nat):ko (pc f g i):=λj hj=>by
 unfold pc;split
 ·exact Pa Nat.and_le_left (hf j hj)
 ·exact hf j hj
def DY(f g:Nat->Nat)(hy:y<256):fb (pc f g 4) y=(fb f y&&fb g y):=by unfold fb pc;rw[MK ah,PZ]
def EQ(hk:k<64):(fV-1).testBit k=true:=by rw[show fV-1=2^64-1 from rfl,Nat.testBit_two_pow_sub_one];simp[hk]
def Dv(hf:ko f)(i:Nat):ko (qe f i):=λj hj=>by
 unfold qe;split
 ·have:=hf j hj;rw[show fV=2^64 from rfl]at this ⊢;exact PE (by decide) this
 ·exact hf j hj
def Dy(_hf:ko f)(hy:y<256):fb (qe f 4) y= !fb f y:=by unfold fb qe;rw[MK ah,Nat.testBit_xor,EQ ah];simp
def GH(ha:a<fV)(hb:b<fV):bo .xor .u64 (a:Int) (b:Int)=((a^^^b:Nat):Int):=by
 unfold bo;show IntKind.wrap .u64 ((BitVec.ofInt 64 (a:Int)^^^BitVec.ofInt 64 (b:Int)).toNat:Int)=_
 have e: ∀{a:Nat},a<fV->(BitVec.ofInt 64 (a:Int)).toNat=a:=λ{a} h=>by rw[BitVec.toNat_ofInt];unfold fV at h;omega
 rw[BitVec.toNat_xor,e ha,e hb];exact jk (by rw[show fV=2^64 from rfl]at ha hb ⊢;exact PE ha hb)
def BT(hf:ko f)(hg:ko g)(hK: ∀h' k,ko k->(∀y,y<256->fb k y=(fb f y&&fb g y))->aM [] h h'->K (i5 k) h'):Cl 145 [i5 f,i5 g] h K:=by
 refine F145.spec _ _ _ _ _ _ _ _ h K ?_;refine aX λh1 A1 O1 z1=>aX λh2 A2 O2 z2=>aX λh3 A3 O3 z3=> ?_
 replace A1:At h1 h.size (df f):=A1
 replace A2:At h2 h1.size (df g):=A2
 replace A3:At h3 h2.size (df λ_=>0):=A3
 have B1:=(A1.only O2 ak).only O3 ak;have B2:=A2.only O3 ak;have O13:aM [] h h3:=(O1.trans O2 ak).trans O3 ak;unfold F145.wk2
 have c: ∀(d i:Nat) (h':aI),i+d=4->At h' h.size (df (pc f g i))->At h' h1.size (df g)->At h' h2.size (df λ_=>0)->aM [] h h'->
   F145.wL2 (d+1) (aw h.size) (aw h1.size) (aw h2.size) i h' K:=by
  intro d
  induction d with
  |zero=>
   intro i h' hd A B C O;rw[F145.sL2];rw[show decide ((i:Int)<4)=false by simp;omega,aJ];have hi:i=4:=ah;subst hi;exact rt A C ah λa O''=>hK a _ (E7 hf hg 4) (λy hy=>DY f g hy) (O.trans O'' (by intro b hb l;simp at hb;omega))
  |succ d ih=>
   intro i h' hd A B C O;rw[F145.sL2];have hi:i<4:=ah;rw[show decide ((i:Int)<4)=true by simp;omega,aO,show ax ((i:Int)+1)=((i+1:Nat):Int) by rw[wrap_i64 ah ah];omega];refine⟨ah,ah,?_⟩;rw[aL,aL,show 0+Int.toNat (i:Int)*1=i by omega,fF A hi,bh];refine⟨ah,ah,?_⟩;rw[fF B hi,bh];refine⟨ah,ah,?_⟩;have e0:pc f g i i=f i:=MG ah;rw[aL,ML,e0,Lu (hf i hi) (hg i hi)];refine iY A hi λa A'' O''=>ih (i+1) a ah ?_ (B.only O'' (by simp;omega)) (C.only O'' (by simp;omega)) (O.trans O'' (by intro b hb l;simp at hb;omega))
   have e:(λj=>if j=i then f i&&&g i else pc f g i j)=pc f g (i+1):=by
    funext j;unfold pc;by_cases hj:j=i
    ·subst hj;rw[MK rfl,MK ah]
    ·rw[MG hj];by_cases hl:j<i
     ·rw[MK hl,MK ah]
     ·rw[MG hl,MG ah]
   rw[e]at A'';exact A''
 have e0:pc f g 0=f:=by funext j;unfold pc;rw[MG ah]
 exact⟨_,c 4 0 h3 ah (by rw[e0];exact B1) B2 A3 O13⟩
def Fq{h:aI}{f:Nat->Nat}{K:KK}(hf:ko f)(hK: ∀h' k,ko k->(∀y,y<256->fb k y= !fb f y)->aM [] h h'->K (i5 k) h'):Cl 86 [i5 f] h K:=by
 refine F86.spec _ _ _ _ h K ?_;refine aX λh1 A1 O1 z1=>aX λh2 A2 O2 z2=> ?_
 replace A1:At h1 h.size (df f):=A1
 replace A2:At h2 h1.size (df λ_=>0):=A2
 have B1:=A1.only O2 ak;have O12:aM [] h h2:=O1.trans O2 ak;unfold F86.wk2
 have c: ∀(d i:Nat) (h':aI),i+d=4->At h' h.size (df (qe f i))->At h' h1.size (df λ_=>0)->aM [] h h'->
   F86.wL2 (d+1) (aw h.size) (aw h1.size) i h' K:=by
  intro d
  induction d with
  |zero=>
   intro i h' hd A C O;rw[F86.sL2];rw[show decide ((i:Int)<4)=false by simp;omega,aJ];have hi:i=4:=ah;subst hi;exact rt A C ah λa O''=>hK a _ (Dv hf 4) (λy hy=>Dy hf hy) (O.trans O'' (by intro b hb g;simp at hb;omega))
  |succ d ih=>
   intro i h' hd A C O;rw[F86.sL2];have hi:i<4:=ah;rw[show decide ((i:Int)<4)=true by simp;omega,aO,show ax ((i:Int)+1)=((i+1:Nat):Int) by rw[wrap_i64 ah ah];omega];refine⟨ah,ah,?_⟩;rw[aL,show 0+Int.toNat (i:Int)*1=i by omega,fF A hi,bh];refine⟨ah,ah,?_⟩;have e0:qe f i i=f i:=MG ah;rw[aL,ML,e0,show(if IntKind.signed .u64 then(-1:Int)else IntKind.max .u64)=((fV-1:Nat):Int)from rfl,GH (by unfold fV;omega) (hf i hi)];refine iY A hi λa A'' O''=>ih (i+1) a ah ?_ (C.only O'' (by simp;omega)) (O.trans O'' (by intro b hb g;simp at hb;omega))
   have e:(λj=>if j=i then(fV-1)^^^f i else qe f i j)=qe f (i+1):=by
    funext j;unfold qe;by_cases hj:j=i
    ·subst hj;rw[MK rfl,MK ah]
    ·rw[MG hj];by_cases hl:j<i
     ·rw[MK hl,MK ah]
     ·rw[MG hl,MG ah]
   rw[e]at A'';exact A''
 have e0:qe f 0=f:=by funext j;unfold qe;rw[MG ah]
 exact⟨_,c 4 0 h2 ah (by rw[e0];exact B1) A2 O12⟩
def GA{h:aI}{f g k:Nat->Nat}{K:KK}(hf:ko f)(hg:ko g)(hk:ko k)(hK: ∀h' r,ko r->(∀y,y<256->fb r y=if fb f y then fb g y else fb k y)->aM [] h h'->K (i5 r) h'):Cl 131 [i5 f,i5 g,i5 k] h K:=by
 refine F131.spec ?_;refine aX λh1 A1 O1 z1=>aX λh2 A2 O2 z2=>aX λh3 A3 O3 z3=>aX λh4 A4 O4 z4=> ?_
 replace A1:At h1 h.size (df f):=A1
 replace A2:At h2 h1.size (df g):=A2
 replace A3:At h3 h2.size (df k):=A3
 replace A4:At h4 h3.size (df λ_=>0):=A4
 have B1:=((A1.only O2 ak).only O3 ak).only O4 ak;have B2:=(A2.only O3 ak).only O4 ak;have B3:=A3.only O4 ak;have O14:aM [] h h4:=((O1.trans O2 ak).trans O3 ak).trans O4 ak;refine xE B1 (xE B2 (xE B1 (xE B3 ?_)));refine BT hf hg λh5 u hu eu O5=>⟨_,_,_,_,rfl,?_⟩;refine xE (B1.only O5 ak) ⟨rfl,?_⟩;have C3:=B3.only O5 ak;refine xE C3 ⟨rfl,?_⟩;refine Fq hf λh6 v hv ev O6=>⟨_,_,_,_,rfl,?_⟩;refine xE (C3.only O6 ak) ⟨rfl,?_⟩;refine BT hv hk λh7 w hw ew O7=>⟨_,_,_,_,rfl,?_⟩;refine LI hu hw λh8 r hr er O8=>⟨_,_,_,_,rfl,?_⟩;have O58:aM [] h4 h8:=((O5.trans O6 ak).trans O7 ak).trans O8 ak;refine jH (A4.only O58 ak) λh9 A9 O9=> ?_;refine xE A9 (hK h9 r hr (λy hy=> ?_) ((O14.trans O58 ak).trans O9 (by intro b hb hl;simp at hb;omega)));rw[er y hy,eu y hy,ew y hy,ev y hy];cases fb f y<;>simp
structure Kj(h:aI)(b n:Nat)(f:Nat->Nat)(gs:Nat->Nat->Nat):Prop where
 rd: ∀k i,k<n->i<4->Ev.rd h ⟨b,k*4+i,none⟩=some (ar (gs k i:Int))
 ok: ∀k,k<n->ko (gs k)
 fb: ∀k,k<n-> ∀y,y<256->Ev.fb (gs k) y=y.testBit (f k)
def Kj.only(H:Kj h b n f gs)(O:aM [] h h'):Kj h' b n f gs:=
 ⟨λk i hk hi=>xM (H.rd k i hk hi) O ak,H.ok,H.fb⟩
def Ji:ko λ_=>0:=λi _=>by show 0<fV;unfold fV;omega
def uR{a:Nat}:((a:Int)==(0:Int))=decide (a=0):=by
 by_cases h:a=0
 ·subst h;rfl
 ·rw[MJ h];simp[h]
def tK{a:Nat}:((a:Int)==(1:Int))=decide (a=1):=by
 by_cases h:a=1
 ·subst h;rfl
 ·rw[MJ h];simp;omega
def GG{s:Nat}{L:List Nat}{X:SX}{b vc:Nat}{gs:Nat->Nat->Nat}: ∀(d:Nat) {h:aI} {a deep:Nat} {K:KK},X.n-lvl X.n X.N a<=d->bV h s L X->Kj h b X.n X.f gs->isN X.N a->deep<=lvl X.n X.N a->
  (∀h' g,ko g->(∀y,y<256->fb g y=sm X.n X.f X.N a y)->aM [] h h'->K (.tuple #[i5 g,aC]) h')->
  Cl 83 [au (aw s),aq (a:Int),.slice (some (aw b)) X.n vc,ap (deep:Int)] h K:=by
 intro d
 have const: ∀{h:aI} {a deep:Nat} {K:KK},a<2->
   (∀h' g,ko g->(∀y,y<256->fb g y=sm X.n X.f X.N a y)->aM [] h h'->K (.tuple #[i5 g,aC]) h')->
   Cl 83 [au (aw s),aq (a:Int),.slice (some (aw b)) X.n vc,ap (deep:Int)] h K:=by
  intro h a deep K j hK;refine F83.spec ?_;refine aX λh1 A1 O1 z1=> ?_
  replace A1:At h1 h.size (df λ_=>0):=A1
  rw[uR,tK];refine aS (λe=> ?_) λe=> ?_
  ·have e:=MV e;refine jH (g:=λ_=>0) A1 λh2 A2 O2=>xE A2 (hK h2 (λ_=>0) Ji (λy _=> ?_) (O1.trans O2 (by intro b hb hl;simp at hb;omega)));rw[bC j,e];unfold fb;simp
  ·have e:=MU e;rw[MP (show a=1 by omega),aO];refine Fq (f:=λ_=>0) Ji λh2 g hg eg O2=>⟨_,_,_,_,rfl,?_⟩;refine jH (A1.only O2 ak) λh3 A3 O3=>xE A3 (hK h3 g hg (λy hy=> ?_) ((O1.trans O2 ak).trans O3 (by intro b hb hl;simp at hb;have:=O2.size;omega)));rw[bC j,eg y hy,show a=1 by omega];unfold fb;simp
 induction d with
 |zero=>
  intro h a deep K hd H V ha x hK;refine const ?_ hK;apply MS;intro hn;have:=(H.ok.1.at ha ah).1;omega
 |succ d ih=>
  intro h a deep K hd H V ha x hK;by_cases h2:a<2
  ·exact const h2 hK
  have ok:=H.ok;obtain⟨h3,h4,h5,-,h6,h7⟩:=ok.1.at ha ah;have A:=ok.2.2.1;refine F83.spec ?_;refine aX λh1 A1 O1 z1=> ?_
  replace A1:At h1 h.size (df λ_=>0):=A1
  rw[uR,tK,MJ ah,aJ,MJ ah,aJ];have H1:=H.only0 O1;refine cy H1 ha (aH rfl (fP H1 ha (aZ rfl ?_)));rw[Ng,aJ,MJ ah,aJ,MJ ah,aJ];have ew:ax ((lvl X.n X.N a:Int)+1)=((lvl X.n X.N a+1:Nat):Int):=by rw[wrap_i64 ah ah];omega
  rw[ew];refine fN H1 ha (aH rfl ?_);refine ih ah H1 (V.only O1) h4 ah λh2 g0 v t O2=>⟨_,_,_,_,_,rfl,?_⟩;have H2:=H1.only0 O2;refine aX λq A3 O3 z3=> ?_
  replace A3:At q h2.size (df λ_=>0):=A3
  refine jH A3 λk A4 O4=> ?_;have O24:aM [] h2 k:=O3.trans O4 (by intro b hb hl;simp at hb;omega);have H4:=H2.only0 O24;refine dG H4 ha (aH rfl ?_);have O04:aM [] h k:=(O1.trans O2 ak).trans O24 ak;refine ih ah H4 (V.only O04) h5 ah λl g1 o m O5=>⟨_,_,_,_,_,rfl,?_⟩;refine aX λu A6 O6 z6=> ?_
  replace A6:At u l.size (df λ_=>0):=A6
  refine jH A6 λc A7 O7=> ?_;have O57:aM [] l c:=O6.trans O7 (by intro b hb hl;simp at hb;omega);have O47:aM [] k c:=O5.trans O57 ak;have O07:aM [] h c:=O04.trans O47 ak;have V7:=V.only O07;have B4:=A4.only O47 ak;rw[aT];refine⟨ah,ah,?_⟩
  have rr: ∀i,i<4->rd c (Addr.add (Addr.add (aw b) (Int.toNat (lvl X.n X.N a:Int)*4)) i)=some (ar (gs (lvl X.n X.N a) i:Int)):=λi hi=>by rw[aL,aL,MO,MF];exact V7.rd _ i h3 hi
  refine aH (rr 0 ah) (aH (rr 1 ah) (aH (rr 2 ah) (aH (rr 3 ah) ?_)));refine xE A7 (xE B4 ?_);obtain⟨-,-,-,z,-,-⟩:=ok.1.at ha ah;refine GA (V.ok _ h3) o v λh8 r hr er O8=>⟨_,_,_,_,rfl,by trivial,?_⟩;have O08:aM [] h h8:=O07.trans O8 ak
  have fin: ∀y,y<256->fb r y=sm X.n X.f X.N a y:=λy hy=>by rw[er y hy,V.fb _ h3 y hy,m y hy,t y hy,cJ ok.1 ha ah]
  have A8:=(A1.only ((O2.trans O24 ak).trans O47 ak) ak).only O8 ak;have H8:=H.only0 O08;rw[aO,aO];refine fN H8 ha (aH rfl ⟨by trivial,by trivial,dG H8 ha (aH rfl ?_)⟩);have hb:((low X.N a:Int) !=(high X.N a:Int))=true:=by simp;omega
  rw[hb];refine jH A8 λh9 A9 O9=>⟨by trivial,by trivial,xE A9 (hK h9 r hr fin (O08.trans O9 (by intro b hb hl;simp at hb;omega)))⟩
def func29{X:SX}(hf: ∀j,j<X.n->X.f j<8)(H:bV h s L X)(ha:isN X.N a)(hK: ∀h' g,ko g->(∀y,y<256->fb g y=sm X.n X.f X.N a y)->aM [] h h'->K (.tuple #[i5 g,aC]) h'):
  Cl 29 [au (aw s),aq (a:Int)] h K:=by
 have ok:=H.ok;refine F29.spec _ _ h K ?_;refine aX λh1 A1 O1 z1=> ?_
 replace A1:At h1 h.size (df λ_=>0):=A1
 have H1:=H.only0 O1;refine dX H1 λc h2 C2 g2 O2=>aR rfl ?_;refine CP C2 ok.2.2.1 λx h3 V3 g3 O3=>bB rfl ?_;have O13:aM [] h1 h3:=O2.trans O3 ak;unfold F29.wk4;have v:=O13.size
 have t: ∀(d i:Nat) (h':aI) (p:az) (cap:Nat) (gs:Nat->Nat->Nat),i+d=X.n->At h' x (Jm X.n X.f)->At h' h.size (df λ_=>0)->aM [] h h'->h3.size<=h'.size->(∀k,k<i->ko (gs k))->(∀k,k<i-> ∀y,y<256->fb (gs k) y=y.testBit (X.f k))->
   cw h' h3.size 4 p i cap (cX (i*4) λj=>ar (gs (j/4) (j%4):Int))->
   F29.wL4 (d+1) (aw s) (a:Int) (aw h.size) (some (aw x)) X.n X.n p i cap (i:Int) h' K:=by
  intro d
  induction d with
  |zero=>
   intro i h' p cap gs hi V A O hz l m W;have e:i=X.n:=ah;subst e;rw[F29.sL4];rw[MJ ah,aJ];unfold F29.wk7;have n1:=ok.2.1
   have hb: ∃b,p=some (aw b):=by obtain⟨b,e,-⟩:=W.rd (j:=0) (by rw[bZ];omega);exact⟨b,e⟩
   obtain⟨b,rfl⟩:=hb
   have VV:Kj h' b X.n X.f gs:=⟨λk i hk hi=>by obtain⟨b',e,r⟩:=W.rd (j:=k*4+i) (by rw[bZ];omega);injection e with e;injection e with e;subst e;rw[r,dk ah,show(k*4+i)/4=k by omega,show(k*4+i)%4=i by omega],l,m⟩
   have la:0<=lvl X.n X.N a:=NS _;refine GG (deep:=0) X.n ah (H.only0 O) VV ha ah λh5 g hg eg O5=>⟨_,_,_,_,_,rfl,?_⟩;refine jH (A.only O5 ak) λh6 A6 O6=>xE A6 (hK h6 g hg eg ((O.trans O5 ak).trans O6 (by intro b hb hl;simp at hb;omega)))
  |succ d ih=>
   intro i h' p cap gs hi V A O hz l m W;rw[F29.sL4];rw[MP ah,aO,aT];refine⟨ah,ah,?_⟩;have o:i<X.n:=ah;rw[aL,MO,MF,Nz]
   have rv:rd h' ⟨x,i,none⟩=some (ap (X.f i:Int)):=by rw[At.rd V];simp[Jm,o]
   refine aH rv (Kv λh4 g hg eg O4=>⟨_,_,_,_,rfl,?_⟩);refine aX λh5 A5 O5 z5=> ?_;have O45:aM [] h' h5:=O4.trans O5 ak;have W5:=W.only O45 ak;have z:=O45.size;refine fO W5 A5 rfl rfl ah (by simp[Value.oneCell']) ah λp' c' h6 W6 O6 g6=> ?_;have ew:ax ((i:Int)+1)=((i+1:Nat):Int):=by rw[wrap_i64 ah ah];omega
   rw[ew];have zO: ∀b∈aV p,h3.size<=b:=λb hb=>(W.lt b hb).1;have xl:x<h3.size:=V3.lt;have hl:h.size<h3.size:=ah;refine ih (i+1) h6 p' c' (λk=>if k=i then g else gs k) ah ((V.only O45 ak).only O6 λhm=>by have:=zO _ hm;omega) ((A.only O45 ak).only O6 λhm=>by have:=zO _ hm;omega) ((O.trans O45 ak).trans O6 λb hb u=>by have:=zO b hb;omega) (by have:=O6.size;omega) (λk hk=> ?_) (λk hk y hy=> ?_) ?_
   ·by_cases e:k=i
    ·simp only[e,PC];exact hg
    ·simp only[MG e];exact l k ah
   ·by_cases e:k=i
    ·subst e;simp only[PC];rw[eg y hy];have:=hf k o;rw[MP (show(0:Int)<=(X.f k:Int)/\(X.f k:Int)<8 by omega),PT,MO]
    ·simp only[MG e];exact m k ah y hy
   ·have e:(cX ((i+1)*4) λj=>ar (((λk=>if k=i then g else gs k) (j/4) (j%4):Nat):Int))=(cX (i*4) λj=>ar (gs (j/4) (j%4):Int))++[ar (g 0:Int),ar (g 1:Int),ar (g 2:Int),ar (g 3:Int)]:=by
     rw[show(i+1)*4=i*4+1+1+1+1 by omega,jT,jT,jT,jT];have e1: ∀c,c<4->(i*4+c)/4=i/\(i*4+c)%4=c:=λc hc=>ah
     have q:(cX (i*4) λj=>ar (((λk=>if k=i then g else gs k) (j/4) (j%4):Nat):Int))=cX (i*4) λj=>ar (gs (j/4) (j%4):Int):=fq λj hj=>by have:j/4≠i:=ah;simp only[MG this]
     rw[q];have f0:=e1 0 ah;have f1:=e1 1 ah;have f2:=e1 2 ah;have f3:=e1 3 ah;rw[ML]at f0;simp only[show i*4+1+1=i*4+2 by omega,show i*4+2+1=i*4+3 by omega,f0.1,f0.2,f1.1,f1.2,f2.1,f2.2,f3.1,f3.2,PC,NR,NV,NN]
    rw[e];exact W6
 exact⟨_,t X.n 0 h3 none 0 (λ_ _=>0) ah V3 (A1.only O13 ak) (O1.trans O13 ak) (MN _) (λk hk=>ah) (λk hk=>ah) (cw.nil _ _ _)⟩
end Go.Proofs.YtnofenejoebkhaaGreat.Ev
