/- PART 6 OF WHAT THE LAW WholeTotal STANDS ON. Conditions: none but those that each lemma states. -/
import Derived.Test.YtnofenejoebkhaaGreatG5
namespace Go.Proofs.YtnofenejoebkhaaGreat.Ev
open Go
set_option linter.defProp false
set_option maxRecDepth 100000
set_option autoImplicit true
set_option relaxedAutoImplicit true
def cd.perm{P:PS}(H:cd n fo N P){ws:List Wk}(hl:ws.length=P.ws.length)(hp:(locs ws).Perm (locs P.ws))(hT: ∀k∈ws,k.T+k.q.length<=P.last)(a:0<=st/\st+(qlen ws:Int)<=(P.last:Int)):cd n fo N {P with ws:=ws,steals:=st}:=
 ⟨H.mst,λx hx=>H.at_ x (hp.mem_iff.1 hx),hp.nodup_iff.2 H.one,λj hj hd=>hp.mem_iff.2 (H.loc j hj hd),hT,by show 1<=ws.length/\ws.length<=4;rw[hl];exact H.len,H.last,a⟩
def AJ{ws:List Wk}{k k':Wk}(hw:ws[w]? =some k)(e:k'.loc.Perm k.loc):(locs (ws.set w k')).Perm (locs ws):=by have p:=gG Wk.loc ws w k k' hw;exact(NV k.loc).1 (p.trans (e.append_right _))
def lR{k:Wk}(h:k.job=0):k.loc=k.q:=by unfold Wk.loc;rw[L4 h];rfl
def lQ{k:Wk}(h:k.job≠0):k.loc=k.job::k.q:=by unfold Wk.loc;rw[LY h];rfl
def cd.take{P:PS}(H:cd n fo N P){k k':Wk}(hw:P.ws[w]? =some k)(h0:k.job=0)(hq:k.q=q'++[x])(hx:x≠0)(e1:k'.q=q')(e2:k'.job=x)(hT:k'.T+k'.q.length<=k.T+k.q.length):
  cd n fo N {P with ws:=P.ws.set w k'}/\fH n N {P with ws:=P.ws.set w k'}+1=fH n N P:=by
 have hk:=Mc hw;have ql:=iJ (λk:Wk=>k.q.length) P.ws w k k' hw;have l1:k.q.length=k'.q.length+1:=by rw[hq,e1];simp
 have lk:k'.loc.Perm k.loc:=by rw[lR h0,lQ (by rw[e2];exact hx),e1,e2,hq];exact List.perm_append_comm (l₁:=[x])
 refine⟨H.perm (st:=P.steals) ak (AJ hw lk) (λy hy=> ?_) ?_,?_⟩
 ·rcases f7 hy with h|⟨z,-,h⟩
  ·subst h;have:=H.T k hk;omega
  ·exact H.T y (Mc h)
 ·have:=H.steals;unfold qlen at this ⊢;omega
 ·unfold fH qlen;dsimp only;omega
def cd.steal{P:PS}(H:cd n fo N P){k1 a kw:Wk}(c:i1≠i0)(h1:P.ws[i1]? =some k1)(hw:P.ws[i0]? =some kw)(h0:kw.job=0)(hq:k1.q=x::q1)(hx:x≠0)(e1:a.q=q1)(e2:a.job=k1.job)(e3:a.T=k1.T+1):
  cd n fo N {P with ws:=(P.ws.set i1 a).set i0 {kw with job:=x},steals:=P.steals+1}/\fH n N {P with ws:=(P.ws.set i1 a).set i0 {kw with job:=x},steals:=P.steals+1}+1=fH n N P:=by
 have b:(P.ws.set i1 a)[i0]? =some kw:=by rw[ME,LY c];exact hw
 have d:=iJ (λk:Wk=>k.q.length) P.ws i1 k1 a h1;have e:=iJ (λk:Wk=>k.q.length) (P.ws.set i1 a) i0 kw {kw with job:=x} b;dsimp only at d e;have l1:k1.q.length=a.q.length+1:=by rw[hq,e1];simp
 have p1:=gG Wk.loc P.ws i1 k1 a h1;have p2:=gG Wk.loc (P.ws.set i1 a) i0 kw {kw with job:=x} b;have lw:({kw with job:=x}:Wk).loc=x::kw.q:=lQ hx
 have lk:k1.loc.Perm (x::a.loc):=by unfold Wk.loc;rw[e2,e1,hq];exact Pi
 rw[lR h0,lw]at p2
 have p2:(locs ((P.ws.set i1 a).set i0 {kw with job:=x})).Perm (x::locs (P.ws.set i1 a)):=by have:(kw.q++locs ((P.ws.set i1 a).set i0 {kw with job:=x})).Perm (kw.q++x::locs (P.ws.set i1 a)):=p2.trans Pi.symm;exact(NV _).1 this
 have p1:(x::locs (P.ws.set i1 a)).Perm (locs P.ws):=by
  have:(a.loc++x::locs (P.ws.set i1 a)).Perm (a.loc++locs P.ws):=by refine List.Perm.trans (Pi.trans ?_) p1;exact(lk.symm.append_right _)
  exact(NV _).1 this
 refine⟨H.perm ak (p2.trans p1) (λy hy=> ?_) ?_,?_⟩
 ·rcases f7 hy with h|⟨z,-,h⟩
  ·subst h;exact H.T kw (Mc hw)
  ·rcases f7 (Mc h)with h|⟨z,-,h⟩
   ·subst h;have:=H.T k1 (Mc h1);omega
   ·exact H.T y (Mc h)
 ·have:=H.steals;unfold qlen at this ⊢;omega
 ·unfold fH qlen;dsimp only;omega
def Ag(P P':PS):Prop:=P'.last=P.last/\P'.ws.length=P.ws.length/\P'.jobs.map (·.id)=P.jobs.map (·.id)
structure tc(n:Nat)(fo:Nat->Nat)(N N':ay)(P P':PS):Prop where
 ok:cd n fo N' P'
 ex:Ex N N'
 alike:Ag P P'
 le1:fH n N' P'<=fH n N P
 fin: ∀(i:Nat) (j:Jb),P.jobs[i]? =some j->j.A.done=true->P'.jobs[i]? =some j
 nil:P.jobs=[]->N'=N
def jO{P:PS}{i:Nat}{j:Jb}(ids:(P.jobs.map (·.id)).Nodup)(hi:P.jobs[i]? =some j):(P.jobs.map λj=>((j.id:Int),bf j.A.m)).lookup (j.id:Int)=some (bf j.A.m):=by
 generalize P.jobs=l at ids hi
 induction l generalizing i with
 |nil=>simp at hi
 |cons y l ih=>
  simp only[Mz,MO]at ids;cases i with
  |zero=>
   simp at hi;subst hi;simp[List.lookup]
  |succ i=>
   have hi:l[i]? =some j:=by simpa using hi
   have a:y.id≠j.id:=λe=>ids.1 (by rw[e];exact Ms.2 ⟨j,Mc hi,rfl⟩);simp only[Mz,List.lookup];rw[show((j.id:Int)==(y.id:Int))=false by simp;omega];exact ih ids.2 hi
def rL{h:aI}{p s n room:Nat}{fo gg:Nat->Nat}{off:Bool}{N:ay}{P:PS}{K:KK}{L:List Nat}(S:bT h s L (XL n room fo gg N off))(H:bO h p s P)(Ok:cd n fo N P)(po:cu n fo gg)(D: ∀b,dD p P b->b∉L){w i:Nat}{k:Wk}{j:Jb}(hw:P.ws[w]? =some k)(hi:P.jobs[i]? =some j)(hj:k.job=(j.id:Int))(hd:j.A.done=false)
  (hK: ∀h' L' N' P',bT h' s L' (XL n room fo gg N' off)->bO h' p s P'->(∀b,dD p P' b->b∉L')->tc n fo N N' P P'->fH n N' P'+1<=fH n N P->(∀T,(∀b,dD p P b->b∈T)->(∀b∈L,b∈T)->aM T h h')->bC L L' h->(∀b,dD p P' b->dD p P b\/h.size<=b)->K aC h'):
  dT h (some P.jb) .i64 .i64 k.job λg=>aZ (some (kU (.pointer none) g)) λu=>Cl 114 [.pointer u] h λo d=>bQ (some o) λB=>aJ B (aX (some (aw k.w)) λm=>aY d (Addr.add (Addr.add m 1) 0) (ap (0:Int)) λt=>K aC t) (K aC d):=by
 have a:=Mc hi;have ids:=H.ids;have lk:=jO (P:=P) ids.1 hi;refine dg H.jbm (λe=> ?_) λx v e=> ?_
 ·rw[hj,lk]at e;cases e
 rw[hj,lk]at e;injection e with e;subst e;refine aQ rfl ?_;have DA: ∀b∈j.A.bl,b∉L:=λb hb=>D b (.inr (.inr (.inr (.inr ⟨j,a,hb⟩))));have ok:=S.ok;dsimp only[XL]at ok;have zP:=H.lt;have zL:=S.lt;refine xB S (H.ma j a) DA (Ok.mst j a).2.1 (Ok.mst j a).1 po hd λh1 L1 N1 A1 em S1 M1 D1 E1 R1 m1 c1 f1 O1 g1 s1=>a8 rfl ?_
 have H1:bO h1 p s {P with jobs:=P.jobs.set i {j with A:=A1}}:=H.set_ma hi O1 (λb hb hp=>by
  rcases Zq hb with hL|hA
  ·exact Mw hL (D b hp)
  ·exact hA) M1 em s1
 have ce:=qd E1;have st:=Ok.step ok.1 E1 ids.1 (ids.2 j a).1 hi hw hj R1 hd m1 ah (f1.imp id λz=>ah)
 have alike:(P.jobs.set i {j with A:=A1}).map (·.id)=P.jobs.map (·.id):=by
  rw[PO];apply MM;intro x;rw[ME];by_cases hix:i=x
  ·subst hix;rw[L4 rfl,L4 (by simpa using (Ml.1 hi).1),Mx,hi]
   rfl
  ·rw[LY hix]
 have fin: ∀(x:Nat) (y:Jb),P.jobs[x]? =some y->y.A.done=true->(P.jobs.set i {j with A:=A1})[x]? =some y:=λx y hx hy=>by
  rw[ME];by_cases hix:i=x
  ·subst hix;rw[hi]at hx;injection hx with hx;subst hx;rw[hd]at hy;cases hy
  ·rw[LY hix];exact hx
 have nil:P.jobs=[]->N1=N:=λq=>by rw[q]at hi;cases hi
 have f: ∀b,dD p {P with jobs:=P.jobs.set i {j with A:=A1}} b->dD p P b\/h.size<=b:=λb hb=>by
  rcases hb with e|e|hb|hb|⟨y,hy,hb⟩
  ·exact .inl (.inl e)
  ·exact .inl (.inr (.inl e))
  ·exact .inl (.inr (.inr (.inl hb)))
  ·exact .inl (.inr (.inr (.inr (.inl hb))))
  ·rcases f7 hy with e|⟨x,-,hx⟩
   ·subst e;exact(s1 b hb).imp (λhb=> .inr (.inr (.inr (.inr ⟨j,a,hb⟩)))) id
   ·exact .inl (.inr (.inr (.inr (.inr ⟨y,Mc hx,hb⟩))))
 have c: ∀b,dD p {P with jobs:=P.jobs.set i {j with A:=A1}} b->b∉L1:=λb hb hm=>by
  have old:dD p P b->False:=λhp=>by
   rcases g1 b hm with h|h
   ·exact D b hp h
   ·have:=zP b hp;omega
  rcases hb with e|e|hb|hb|⟨y,hy,hb⟩
  ·exact old (.inl e)
  ·exact old (.inr (.inl e))
  ·exact old (.inr (.inr (.inl hb)))
  ·exact old (.inr (.inr (.inr (.inl hb))))
  ·rcases f7 hy with e|⟨x,-,hx⟩
   ·subst e;exact D1 b hb hm
   ·exact old (.inr (.inr (.inr (.inr ⟨y,Mc hx,hb⟩))))
 have hO: ∀T,(∀b,dD p P b->b∈T)->(∀b∈L,b∈T)->aM T h h1:=λT hT hL=>O1.mono λb hb _=>by
  rcases Zq hb with h|h
  ·exact hL b h
  ·exact hT b (.inr (.inr (.inr (.inr ⟨j,a,h⟩))))
 refine aR (λe=> ?_) λe=> ?_
 ·simp only[L4 e]at st;have W1:=H1.wk k (Mc hw);rw[aT];simp only[aL,LX,Ma];refine aU W1.own ak rfl λh2 A2 O2 z2=> ?_;obtain⟨n1,n2,n3⟩:=W1.ne;have H2:=H1.set_wk (k':={k with job:=0}) hw O2 (λb hb=>by simp[Wk.bl]at hb ⊢;omega) ⟨A2,W1.dw.only O2 (by simp;omega) (by simp;omega) (by simp;omega),W1.ds,W1.ne⟩ rfl;dsimp only at H2;have b2: ∀b,dD p {P with jobs:=P.jobs.set i {j with A:=A1},ws:=P.ws.set w {k with job:=0}} b->dD p {P with jobs:=P.jobs.set i {j with A:=A1}} b:=λb hb=>fN (P:={P with jobs:=P.jobs.set i {j with A:=A1}}) (k':={k with job:=0}) hw rfl hb;have l:k.w∉L1:=c k.w (.inr (.inr (.inr (.inl ⟨k,Mc hw,by simp[Wk.bl]⟩))));refine hK h2 L1 N1 _ (S1.only O2 λb hb hm=>by simp only[LZ]at hb;subst hb;exact l hm) H2 (λb hb=>c b (b2 b hb)) ⟨st.1,E1,⟨rfl,ak,alike⟩,by have:=st.2;omega,fin,nil⟩ st.2 (λT hT hL=>(hO T hT hL).trans O2 λb hb _=> ?_) g1 λb hb=>f b (b2 b hb);simp only[LZ]at hb;subst hb;exact hT _ (.inr (.inr (.inr (.inl ⟨k,Mc hw,by simp[Wk.bl]⟩))))
 ·have e': ¬A1.done=true:=by rw[e];simp
  simp only[LY e']at st;exact hK h1 L1 N1 _ S1 H1 c ⟨st.1,E1,⟨rfl,rfl,alike⟩,by have:=st.2;omega,fin,nil⟩ st.2 hO g1 f
def iK(hx:x=some (.map n))(hK:K n):bU x K:=⟨n,hx,hK⟩
def fE.trans(H:fE a b)(G:fE b c):fE a c:=by refine⟨G.1.trans H.1,λi k hk=> ?_⟩;obtain⟨k',h',e⟩:=H.2 i k hk;obtain⟨f,d,e'⟩:=G.2 i k' h';exact⟨f,d,e'.1.trans e.1,e'.2.1.trans e.2.1,e'.2.2.1.trans e.2.2.1,e'.2.2.2.trans e.2.2.2⟩
def EH(p:Nat)(P:PS):List Nat:=p::P.jb::(aV P.wp++(P.ws.flatMap Wk.bl++P.jobs.flatMap λj=>j.A.bl))
def gd:b∈EH p P↔dD p P b:=by unfold EH dD;simp only[List.mem_cons,List.mem_append,Nz]
def lW{ws:List Wk}{w:Nat}{k:Wk}(hw:ws[w]? =some k){x:Int}(h:x∈k.loc):x∈locs ws:=Nz.2 ⟨k,Mc hw,h⟩
def oH{P:PS}(Ok:cd n fo N P)(ids: ∀j∈P.jobs,1<=j.id/\j.id<=P.last){k:Wk}(hk:k∈P.ws):k.T+k.q.length<1000000000/\ ∀x∈k.q,1<=x/\x<1000000000:=by have h1:=Ok.T k hk;have h2:=Ok.last;refine⟨ah,λx hx=> ?_⟩;obtain⟨j,hj,e,-⟩:=Ok.at_ x (Nz.2 ⟨k,hk,by unfold Wk.loc;simp[hx]⟩);have:=ids j hj;omega
def GK{h:aI}{p s n room:Nat}{fo gg:Nat->Nat}{off:Bool}{N:ay}{P:PS}{K:KK}{L:List Nat}(S:bT h s L (XL n room fo gg N off))(H:bO h p s P)(Ok:cd n fo N P)(po:cu n fo gg)(D: ∀b,dD p P b->b∉L){who draw:Int}
  (l:who<0\/(P.ws.length:Int)<=who->K aB h)
  (hK: ∀h' L' N' P' b (w:Nat) (k:Wk),who=(w:Int)->P.ws[w]? =some k->bT h' s L' (XL n room fo gg N' off)->bO h' p s P'->(∀b,dD p P' b->b∉L')->tc n fo N N' P P'->(b=true->locs P.ws≠[])->(fH n N' P'+1<=fH n N P\/(k.job=0/\k.q=[]/\fE P.ws P'.ws))->(∀T,(∀b,dD p P b->b∈T)->(∀b∈L,b∈T)->aM T h h')->bC L L' h->(∀b,dD p P' b->dD p P b\/h.size<=b)->K (aD b) h'):
  Cl 81 [bf p,ap who,ap draw] h K:=by
 refine F81.spec ?_;refine aR (λe=>l (.inl (Mn e))) λe=> ?_;have w0:=Me e;simp only[aL,LX,Ma];have rp:=dl H;refine bF rp.2.1 (aR (λe=>l (.inr (Mn e))) λe=> ?_);have w1:=Me e;obtain⟨w,ew⟩: ∃w:Nat,who=(w:Int):=⟨who.toNat,ah⟩;subst ew;have m:w<P.ws.length:=ah;obtain⟨k,hw⟩: ∃k,P.ws[w]? =some k:=⟨_,Mj m⟩;have hk:=Mc hw;obtain⟨b,eb,rb⟩:=zG H hw;refine bF rp.2.1 ?_;rw[eb,aT];refine⟨ah,ah,?_⟩;simp only[aL,LX,Ma,Md,MU];refine aQ rb ?_;rw[aT];simp only[aL,LX,Ma];have W:=H.wk k hk;have rj:rd h ⟨k.w,1,none⟩=some (ap k.job):=by rw[At.rd W.own];rfl
 have u:=oH Ok H.ids.2 hk;have zP:=H.lt;refine aH rj (aR (λe=> ?_) λe=> ?_)
 ·have j0:k.job=0:=by simpa using e
  refine zq W u.1 (λx hx=>by have:=u.2 x hx;omega) (λeq h1 k' W' a q' z T' O1=>a8 rfl ?_) λx q' eq h1 k' W' a e1 e2 hT O1=>a8 rfl ?_
  ·rw[MS,aO];have ke:qI k k':=⟨a,by rw[q',eq],z,T'⟩;have E1:=(fE.refl P.ws).set hw ke;have H1:=H.set_wk hw O1 (λb hb=>hb) W' a;obtain⟨Ok1,p1⟩:=Ok.eq E1;have c:(P.ws.set w k')[w]? =some k':=by rw[ME,L4 rfl,L4 m]
   have bd: ∀b,dD p {P with ws:=P.ws.set w k'} b->dD p P b:=λb hb=>fN hw a hb;have g:k'.w=k.w:=ke.w;have O1': ∀T,(∀b,dD p P b->b∈T)->aM T h h1:=λT hT=>O1.mono λb hb _=>hT b (.inr (.inr (.inr (.inl ⟨k,hk,hb⟩))));have S1:=S.only O1 λb hb hm=>D b (.inr (.inr (.inr (.inl ⟨k,hk,hb⟩)))) hm;rw[<-g];refine yT H1 c (draw:=draw) (by have:=Ok1.len;omega) (λy hy=>(oH Ok1 H1.ids.2 hy).1) (λy hy x hx=>by have:=(oH Ok1 H1.ids.2 hy).2 x hx;omega) ⟨Ok1.steals.1,by have:=Ok1.steals;have:=Ok1.last;omega⟩ (λh2 ws H2 E2 B2 O2=>a8 rfl ?_) λh2 ws i1 k1 x q1 J I C E2 F t o v M f1 f2 f3 B H2 B2 O2=>a8 rfl ?_
   ·dsimp only at H2 E2 B2;obtain⟨Ok2,p3⟩:=Ok1.eq (ws:=ws) E2;dsimp only at Ok2 p3;have O2': ∀T,(∀b,dD p P b->b∈T)->aM T h h2:=λT hT=>(O1' T hT).trans (O2 T λb hb=>hT b (bd b hb)) λb hb _=>hb;have S2:=S.only (O2' (EH p P) λb hb=>gd.2 hb) λb hb hm=>D b (gd.1 hb) hm;refine hK h2 L N {P with ws:=ws} false w k rfl hw S2 H2 (λb hb=>D b (bd b (B2 b hb))) ⟨Ok2,Ex.refl _,⟨rfl,by show ws.length=_;rw[E2.1];simp,rfl⟩,by omega,λi j h _=>h,λ_=>rfl⟩ (λh=>by cases h) (.inr ⟨j0,eq,E1.trans E2⟩) (λT hT hL=>O2' T hT) (bC.refl _ _) λb hb=> .inl (bd b (B2 b hb))
   ·dsimp only at H2 E2 B2;obtain⟨Ok2,p3⟩:=Ok1.eq (ws:=ws) E2;dsimp only at Ok2 p3;obtain⟨ka,f,ea⟩:=E2.2 w k' c;rw[v]at f;injection f with f;subst f;have hx:=(oH Ok2 H.ids.2 (Mc t)).2 x (by rw[o];simp);obtain⟨Ok3,p5⟩:=Ok2.steal (P:={P with ws:=ws}) F t v (by rw[ea.2.2.1,z,j0]) o ah f1 f2 f3;dsimp only at Ok3 p5;rw[<-B]at Ok3 p5;have O2': ∀T,(∀b,dD p P b->b∈T)->aM T h h2:=λT hT=>(O1' T hT).trans (O2 T λb hb=>hT b (bd b hb)) λb hb _=>hb;have S2:=S.only (O2' (EH p P) λb hb=>gd.2 hb) λb hb hm=>D b (gd.1 hb) hm;have A:C.length=P.ws.length:=by rw[B,No,No,E2.1];simp
    refine hK h2 L N {P with ws:=C,steals:=P.steals+1} true w k rfl hw S2 H2 (λb hb=>D b (bd b (B2 b hb))) ⟨Ok3,Ex.refl _,⟨rfl,A,rfl⟩,ah,λi j h _=>h,λ_=>rfl⟩ (λ_ hl=> ?_) (.inl ah) (λT hT hL=>O2' T hT) (bC.refl _ _) λb hb=> .inl (bd b (B2 b hb));have:=lW t (x:=x) (by unfold Wk.loc;rw[o];simp);rw[E2.locs,E1.locs,hl]at this;cases this
  ·rw[MF,aK];have H1:=H.set_wk hw O1 (λb hb=>hb) W' a;have hx:=u.2 x (by rw[eq];simp);obtain⟨Ok1,p1⟩:=Ok.take hw j0 eq ah e1 e2 hT;have c:(P.ws.set w k')[w]? =some k':=by rw[ME,L4 rfl,L4 m]
   have bd: ∀b,dD p {P with ws:=P.ws.set w k'} b->dD p P b:=λb hb=>fN hw a hb
   have g:k'.w=k.w:=by simp only[Wk.bl,Ng]at a;exact a.1
   have O1': ∀T,(∀b,dD p P b->b∈T)->aM T h h1:=λT hT=>O1.mono λb hb _=>hT b (.inr (.inr (.inr (.inl ⟨k,hk,hb⟩))));have S1:=S.only O1 λb hb hm=>D b (.inr (.inr (.inr (.inl ⟨k,hk,hb⟩)))) hm;obtain⟨j,hj,ex,hd⟩:=Ok.at_ x (lW hw (by rw[lR j0,eq];simp));obtain⟨i,hi⟩:=MC.1 hj;have W1':At h1 k'.w [bf k'.d,ap k'.job]:=W'.own;refine iK (dl H1).2.2.1 ?_;rw[aT];simp only[aL,LX,Ma];refine aH (n:=k'.job) (by rw[<-g,At.rd W1'];rfl) ?_;rw[<-g];refine rL S1 H1 Ok1 po (λb hb=>D b (bd b hb)) c hi (by rw[e2,ex]) hd λh2 L2 N2 P2 S2 H2 D2 Pk hs O2 g2 b2=> ?_;have G:Ag P P2:=⟨Pk.alike.1,by rw[Pk.alike.2.1];simp,Pk.alike.2.2⟩;have l1:=Pk.le1;refine hK h2 L2 N2 P2 true w k rfl hw S2 H2 D2 ⟨Pk.ok,Pk.ex,G,ah,Pk.fin,Pk.nil⟩ (λ_ hl=> ?_) (.inl ah) (λT hT hL=>(O1' T hT).trans (O2 T (λb hb=>hT b (bd b hb)) hL) λb hb _=>hb) ?_ λb hb=> ?_
   ·have:=lW hw (x:=x) (by rw[lR j0,eq];simp);rw[hl]at this;cases this
   ·intro b hb;rcases g2 b hb with h|h
    ·exact .inl h
    ·exact .inr (by have:=O1.size;omega)
   ·rcases b2 b hb with h|h
    ·exact .inl (bd b h)
    ·exact .inr (by have:=O1.size;omega)
 ·have j0:k.job≠0:=by simpa using e
  obtain⟨j,hj,ex,hd⟩:=Ok.at_ k.job (lW hw (by rw[lQ j0];simp));obtain⟨i,hi⟩:=MC.1 hj;refine iK rp.2.2.1 ?_;rw[aT];simp only[aL,LX,Ma];refine aH rj ?_;refine rL S H Ok po D hw hi ex hd λh2 L2 N2 P2 S2 H2 D2 Pk hs O2 g2 b2=> ?_;refine hK h2 L2 N2 P2 true w k rfl hw S2 H2 D2 Pk (λ_ hl=> ?_) (.inl hs) O2 g2 b2;have:=lW hw (x:=k.job) (by rw[lQ j0];simp);rw[hl]at this;cases this
def tJ(l:List Jb):List (Int×Value):=l.map λj=>((j.id:Int),bf j.A.m)
def m9:(tJ l).lookup x=none↔ ∀j∈l,x≠(j.id:Int):=by rw[dY];simp only[tJ,NL,Ms,Function.comp_apply,not_exists,not_and];exact⟨λh j hj e=>h j hj e.symm,λh j hj e=>h j hj e.symm⟩
def yN{l:List Jb}{y:Jb}:(tJ l).filter (λp=>p.1≠(y.id:Int))=tJ (l.filter λz=>decide (z.id≠y.id)):=by
 unfold tJ;rw[List.filter_map]
 congr 1
 apply List.filter_congr;intro z _;simp;omega
def fO: ∀(l m:List Int),l.Nodup->(∀x∈l,x∈m)->l.length<=m.length
 | [],m,_,_=>Nq _
 |x::l,m,h,hs=>by obtain⟨h1,h2⟩:=MO.1 h;have hx:=hs x Og;have ih:=fO l (m.erase x) h2 λy hy=>(List.mem_erase_of_ne λe=>by subst e;exact h1 hy).2 (hs y (My _ hy));rw[List.length_erase_of_mem hx]at ih;have:=List.length_pos_of_mem hx;simp only[Nh];omega
def qW{P:PS}(H:bO h p s P)(hK:K (ap (P.ws.length:Int)) h):Cl 68 [bf p] h K:=by refine F68.spec ?_;simp only[aL,LX];exact bF (dl H).2.1 hK
def Cm{h:aI}{p s:Nat}{P:PS}{K:KK}(H:bO h p s P){x:Int}(hN:(∀j∈P.jobs,x≠(j.id:Int))->K aB h)(hJ: ∀(i:Nat) (j:Jb),P.jobs[i]? =some j->x=(j.id:Int)->K (aD j.A.done) h):Cl 39 [bf p,ap x] h K:=by
 refine F39.spec ?_;simp only[aL,LX];refine iK (dl H).2.2.1 (dg H.jbm (λe=>aQ rfl ?_) λx' v e=> ?_)
 ·exact hN (m9.1 e)
 ·by_cases hx: ∀j∈P.jobs,x≠(j.id:Int)
  ·have e0:=m9.2 hx;unfold tJ at e0;rw[e0]at e;cases e
  ·obtain⟨j,hj,ej⟩: ∃j∈P.jobs,x=(j.id:Int):=by
    apply Mi;intro hn;exact hx λj hj e=>hn ⟨j,hj,e⟩
   obtain⟨i,hi⟩:=MC.1 hj;have:=jO H.ids.1 hi;rw[ej,this]at e;injection e with e;subst e;refine aQ rfl ?_;rw[show(!(Option.isNone (some ((aw j.A.m):Addr))))=true from rfl,aO];exact Gw (H.ma j hj) (a8 rfl (hJ i j hi ej))
def uC{h:aI}{p s:Nat}{P:PS}{K:KK}(H:bO h p s P){x:Int}(hN:(∀j∈P.jobs,x≠(j.id:Int))->K (.tuple #[aq 0,ap 61]) h)
  (hJ: ∀(i:Nat) (j:Jb),P.jobs[i]? =some j->x=(j.id:Int)->K (.tuple #[aq (if j.A.done=true/\j.A.e=0 then(j.A.told:Int)else 0),ap (if j.A.done=true then(j.A.e:Int)else 61)]) h):Cl 38 [bf p,ap x] h K:=by
 refine F38.spec ?_;refine Cm H (λhx=>a8 rfl ?_) λi j hi ej=>a8 rfl ?_
 ·rw[MS,aO];exact hN hx
 ·have R:=hJ i j hi ej;refine aR (λe=> ?_) λe=> ?_
  ·have e:j.A.done=false:=by simpa using e
   rw[LY (by rw[e];simp),LY (by rw[e];simp)]at R;exact R
  ·simp only[aL,LX];have lk:=jO H.ids.1 hi;refine iK (dl H).2.2.1 (dg H.jbm (λe=> ?_) λx' v e=> ?_)
   ·rw[ej,lk]at e;cases e
   ·rw[ej,lk]at e;injection e with e;subst e;exact aQ rfl (tG (H.ma j (Mc hi)) ⟨_,_,rfl,R⟩)
def Bd{P:PS}(H:bO h p s P)(Ok:cd n fo N P)(hF:((∀j∈P.jobs,x≠(j.id:Int))\/ ∃j∈P.jobs,x=(j.id:Int)/\j.A.done=false)->K aB h)
  (hT: ∀h' j,j∈P.jobs->x=(j.id:Int)->j.A.done=true->bO h' p s {P with jobs:=P.jobs.filter λz=>decide (z.id≠j.id)}->cd n fo N {P with jobs:=P.jobs.filter λz=>decide (z.id≠j.id)}->aM [P.jb] h h'->K aC h'):Cl 36 [bf p,ap x] h K:=by
 refine F36.spec ?_;refine Cm H (λhx=>a8 rfl ?_) λi j hi ej=>a8 rfl ?_
 ·rw[aK];exact hF (.inl hx)
 ·have hj:=Mc hi;refine aR (λe=> ?_) λe=> ?_
  ·simp only[aL,LX];refine iK (dl H).2.2.1 (sn H.jbm λh1 M1 O1 z1=> ?_);rw[e]
   have em:lE (P.jobs.map λj=>((j.id:Int),bf j.A.m)) x=(P.jobs.filter λz=>decide (z.id≠j.id)).map λj=>((j.id:Int),bf j.A.m):=by unfold lE;rw[ej];exact yN
   rw[em]at M1;obtain⟨τ,t⟩:=H.sep;have sub: ∀y∈P.jobs.filter (λz=>decide (z.id≠j.id)),y∈P.jobs/\y.id≠j.id:=λy hy=>by simpa using List.mem_filter.1 hy
   have up: ∀y∈P.jobs,y.id≠j.id->y∈P.jobs.filter (λz=>decide (z.id≠j.id)):=λy hy hn=>List.mem_filter.2 ⟨hy,by simpa using hn⟩;have nj: ∀b∈[P.jb],τ b=0:=λb hb=>by simp only[LZ]at hb;subst hb;exact t.jb
   refine hT h1 j hj ej e ⟨H.own.only O1 λhm=> ?_,H.wks.only O1 λb eb hm=> ?_,λk hk=>(H.wk k hk).only O1 λb hb hm=> ?_,M1,λy hy=>(H.ma y (sub y hy).1).only O1 λb hb hm=> ?_,⟨τ,t.p,t.jb,t.wp,t.ws,λy hy=>t.jobs y (sub y hy).1⟩,H.ne,?_,λy hy=>H.ids.2 y (sub y hy).1⟩ ⟨λy hy=>Ok.mst y (sub y hy).1,λy hy=> ?_,Ok.one,λy hy hd=>Ok.loc y (sub y hy).1 hd,Ok.T,Ok.len,Ok.last,Ok.steals⟩ O1
   ·simp only[LZ]at hm;exact H.ne.1 hm
   ·simp only[LZ]at hm;subst hm;exact H.ne.2.2 (by rw[eb];simp[aV])
   ·obtain⟨w,hw⟩:=MC.1 hk;have:=t.ws w k hw b hm;have:=nj b hb;omega
   ·have:=t.jobs y (sub y hy).1 b hm;have:=nj b hb;omega
   ·exact H.ids.1.sublist (List.Sublist.map _ Nv)
   ·obtain⟨z,hz,ez,hd⟩:=Ok.at_ y hy;refine⟨z,up z hz λe'=> ?_,ez,hd⟩;have nd:=H.ids.1;obtain⟨i',c⟩:=MC.1 hz;have:=fJ nd (x:=i') (y:=i) (a:=j.id) (by rw[Mx,c];simp[e']) (by rw[Mx,hi];rfl);subst this;rw[hi]at c;injection c with c;subst c;rw[e]at hd;cases hd
  ·rw[e];exact hF (.inr ⟨j,hj,ej,e⟩)
open Classical in
noncomputable def HC(n:Nat)(N:ay)(a l:Nat):Bool:=decide (∃b,vj N a b/\lvl n N b=l)
def qy(fo:Nat->Nat)(p:Nat->Bool):Nat->Nat
 |0=>0
 |l+1=>if p l then qy fo p l|||2^fo l else qy fo p l
noncomputable def qs(n:Nat)(fo:Nat->Nat)(N:ay)(a:Nat):Bool:=bu .and .u8 ((qy fo (HC n N a) n:Nat):Int) (170:Int)==(0:Int)
def wX: ∀n,(∀l,l<n->fo l<8)->qy fo p n<256
 |0,_=>by unfold qy;decide
 |n+1,h=>by
  have ih:=wX (p:=p) n λl hl=>h l ah;unfold qy;split
  ·have:2^fo n<2^8:=Px (by decide) (h n ah);exact Pc (n:=8) ih this
  ·exact ih
def KQ{a b:Nat}(ha:a<256)(hb:b<256):bu .or .u8 (a:Int) (b:Int)=((a|||b:Nat):Int):=by
 unfold bu;show IntKind.wrap .u8 ((BitVec.ofInt 8 (a:Int)|||BitVec.ofInt 8 (b:Int)).toNat:Int)=_
 have e: ∀{x:Nat},x<256->(BitVec.ofInt 8 (x:Int)).toNat=x:=λhx=>by rw[BitVec.ofInt_natCast,BitVec.toNat_ofNat];exact Od hx
 rw[BitVec.toNat_or,e ha,e hb];exact xc (Pc (n:=8) ha hb)
def zL(n:Nat)(g:Nat->Nat):List Value:=(List.range n).map λl=>ap (g l:Int)
def pI(hl:l<n):(zL n g)[l]? =some (ap (g l:Int)):=by simp[zL,hl]
def Hv{n:Nat}{g:Nat->Nat}{k v:Nat}:(zL n g).set k (ap (v:Int))=zL n (iX g k v):=by
 apply MM;intro i;rw[ME];by_cases hi:i<n
 ·rw[pI (g:=iX g k v) hi];by_cases e:k=i
  ·subst e;rw[L4 rfl,L4 (by simpa[zL]using hi)];unfold iX;rw[L4 rfl]
  ·rw[LY e,pI hi];unfold iX;rw[LY (λh=>e h.symm)]
 ·have:(zL n (iX g k v))[i]? =none:=Mt (by simpa[zL]using hi);rw[this];split
  ·rename_i e;subst e;rw[LY (by simpa[zL]using hi)]
  ·exact Mt (by simpa[zL]using hi)
def rn{h:aI}{Y:SX}{rs:List Nat}(H:bT h s L Y)(Hr:cy h lo 1 p rs.length c (rs.map hv))(hr: ∀r∈rs,isN Y.N r)(hl:rs.length<=100000)
  (hK: ∀h' b g,At h' b (zL Y.n g)->h.size<=b->(∀l,l<Y.n->(0<g l↔ ∃x,(∃r∈rs,vj Y.N r x)/\lvl Y.n Y.N x=l))->(∀l,g l<=40000)->aM [] h h'->K (.tuple #[.slice (some (aw b)) Y.n Y.n,ap 0]) h'):
  Cl 271 [au (aw s),.slice p rs.length c] h K:=by
 have ok:=H.ok;have n8:=ok.2.2.1;refine F271.spec _ _ _ _ h K ?_;unfold F271.w F271.J0;refine px H Hr hr hl λh1 mb mo keep M1 Kp gm sem O1=>⟨_,_,rfl,?_⟩;rw[show((0:Int) !=(0:Int))=false from rfl,aK];have H1:=H.only0 O1;refine dX H1 (aH rfl ⟨Ny _,OJ _,ah,ah,aW λh2 A2 O2 z2=> ?_⟩);have z1:=O1.size
 have A2:At h2 h1.size (zL Y.n λ_=>0):=by
  have e:(madeCells #[(ap (0:Int))] (Int.toNat (Y.n:Int)*1)).toList=zL Y.n λ_=>0:=by
   rw[toList_madeCells_one,Md,MU];unfold zL;rw[List.map_const',PQ]
   rfl
  rw[<-e];exact A2
 rw[Md];have M2:=M1.only O2 ak;have mlt:=M1.lt;refine yO M2 λh3 R3 O3 z3=> ?_
 have isk: ∀k,keep k=true->isN Y.N k/\2<=k/\lvl Y.n Y.N k<Y.n:=λk hk=>by obtain⟨r,hr',R⟩:=(sem k).1 hk;obtain⟨a,b,-⟩:=R.lvl_le ok.1 (hr r hr');exact⟨a,b,(ok.1.at a b).1⟩
 have mlen:mo.length<=32770:=by
  obtain⟨es,cl,-,-,nd,-⟩:=M1
  have:=fO (mo.map (·.1)) ((List.range 32770).map λi:Nat=>(i:Int)) nd λx hx=>by obtain⟨q,hq,e⟩:=Ms.1 hx;obtain⟨k,hk,e2⟩:=Kp.2 q hq;have:=H.isN_lt (isk k hk).1;refine Ms.2 ⟨k,MW.2 this,?_⟩;rw[<-e,e2]
  simpa using this
 unfold F271.wk6 F271.Jk6
 have main: ∀(d:Nat) (left:List (Int×Value)) (g:Nat->Nat) (k:aI),left.length<=d->(∀q∈left,q∈mo)->Gm k h2.size mb .u32 mo left->At k h1.size (zL Y.n g)->(∀q∈mo,q∈left\/ ∀a:Nat,q.1=(a:Int)->0<g (lvl Y.n Y.N a))->
   (∀l,0<g l-> ∃a,keep a=true/\lvl Y.n Y.N a=l)->(∀l,g l+left.length<=mo.length)->aM [] h k->F271.wL6 (d+1) (aw s) (some (aw h1.size)) Y.n Y.n (some (aw h2.size)) k K:=by
  have fin: ∀(g:Nat->Nat) (k:aI),At k h1.size (zL Y.n g)->(∀q∈mo,∀a:Nat,q.1=(a:Int)->0<g (lvl Y.n Y.N a))->(∀l,0<g l-> ∃a,keep a=true/\lvl Y.n Y.N a=l)->(∀l,g l<=mo.length)->aM [] h k->K (.tuple #[.slice (some (aw h1.size)) Y.n Y.n,ap 0]) k:=λg k A c1 c2 c3 O=>by
   refine hK k h1.size g A ah (λl hl=>⟨λhg=> ?_,λ⟨x,hx,e⟩=> ?_⟩) (λl=>by have:=c3 l;omega) O
   ·obtain⟨a,ha,e⟩:=c2 l hg;exact⟨a,(sem a).1 ha,e⟩
   ·rw[<-e];exact c1 _ (pA ((Kp.1 x).1 ((sem x).2 hx))) x rfl
  intro d
  induction d with
  |zero=>
   intro left g k hd hs R A c1 c2 c3 O;have e:left=[]:=MQ ah;subst e;unfold F271.wL6 F271.JL6;refine uz R ah (λ_=>fin g k A (λq hq=>(c1 q hq).resolve_left ak) c2 (λl=>by have:=c3 l;simpa using this) O) λA x v B h3 e=> ?_;simp at e
  |succ d ih=>
   intro left g k hd hs R A c1 c2 c3 O;unfold F271.wL6 F271.JL6;refine uz R ah (λe=> ?_) λL1 x v L2 k2 e R2 P2 O2' z2'=> ?_
   ·subst e;exact fin g k A (λq hq=>(c1 q hq).resolve_left ak) c2 (λl=>by have:=c3 l;simpa using this) O
   ·subst e;obtain⟨a,ha,e2⟩:=Kp.2 _ (hs (x,v) ak);injection e2 with e3 e4;subst e3 e4;obtain⟨i1,i2,i3⟩:=isk a ha;have O':aM [] h k2:=O.trans O2' (by intro b hb hl;simp at hb;omega);refine xT P2 ⟨(a:Int),rfl,?_⟩;have Hk:=H.only0 O';refine dv Hk i1 (aH rfl ?_);have Ak:=A.only O2' (by simp;omega);rw[aT];have cl:=c3 (lvl Y.n Y.N a);have lenL:(L1++((a:Int),Value.agg #[])::L2).length=L1.length+L2.length+1:=by simp;omega
    refine⟨Ny _,ah,?_⟩;rw[aL,LX,Md,MU];refine aH (n:=(g (lvl Y.n Y.N a):Int)) (by rw[At.rd Ak,pI i3]) ?_;rw[aT];refine⟨Ny _,ah,?_⟩;have ew:ax ((g (lvl Y.n Y.N a):Int)+1)=((g (lvl Y.n Y.N a)+1:Nat):Int):=by rw[wrap_i64 ah ah];omega
    rw[ew,aL];simp only[LX,Ma];refine aU Ak (by simpa[zL]using i3) rfl λk3 A3 O3' z3'=> ?_;rw[Hv]at A3
    have gu: ∀l,g l<=iX g (lvl Y.n Y.N a) (g (lvl Y.n Y.N a)+1) l/\iX g (lvl Y.n Y.N a) (g (lvl Y.n Y.N a)+1) l<=g l+1:=λl=>by
     unfold iX;split
     ·rename_i q;subst q;omega
     ·omega
    refine ih (L1++L2) _ k3 (by simp;omega) (λq hq=>hs q (by rcases Zq hq with w|w<;>simp[w])) ?_ A3 (λq hq=> ?_) (λl hg=> ?_) (λl=> ?_) (O'.trans O3' (by intro b hb hl;simp at hb;omega))
    ·exact R2.only O3' (by simp;omega) (by simp;omega)
    ·rcases c1 q hq with w|w
     ·rcases Zq w with w|w
      ·exact .inl (by simp[w])
      ·rcases List.mem_cons.1 w with w|w
       ·subst w;refine .inr λa' e=> ?_;have:a'=a:=by have e:(a:Int)=(a':Int):=e;omega
        subst this;unfold iX;rw[L4 rfl];omega
       ·exact .inl (by simp[w])
     ·exact .inr λa' e=>by have:=w a' e;have:=(gu (lvl Y.n Y.N a')).1;omega
    ·by_cases q:l=lvl Y.n Y.N a
     ·exact⟨a,ha,q.symm⟩
     ·unfold iX at hg;rw[LY q]at hg;exact c2 l hg
    ·have:=(gu l).2;have:=c3 l;simp only[Mv]at*
     omega
 exact⟨_,main mo.length mo (λ_=>0) h3 (Mb _) (λq hq=>hq) R3 (A2.only O3 ak) (λq hq=> .inl hq) (λl hg=>Mw hg (Nat.lt_irrefl _)) (λl=>ak) (((O1.trans O2 ak).trans O3 ak))⟩
def wJ{h:aI}{s:Nat}{L:List Nat}{Y:SX}{K:KK}{a:Nat}(H:bT h s L Y)(ha:isN Y.N a)(hf: ∀l,l<Y.n->Y.f l<8)
  (hK: ∀h',aM [] h h'->K (.tuple #[.int .u8 ((qy Y.f (HC Y.n Y.N a) Y.n:Nat):Int),ap 0]) h'):Cl 222 [au (aw s),aq (a:Int)] h K:=by
 have ok:=H.ok;have n8:=ok.2.2.1;refine F222.spec _ _ h K ?_;refine aW λh1 A1 O1 z1=> ?_;have Ow:cy h1 h.size 1 (some (aw h.size)) [a].length 1 ([a].map hv):=⟨rfl,.inr ⟨h.size,[],rfl,Mb _,Mb _,rfl,A1⟩⟩;refine rn (rs:=[a]) (H.only0 O1) Ow (λr hr=>by simp only[LZ]at hr;subst hr;exact ha) ak λh2 b g A2 gb sem g4 O2=>⟨_,_,_,_,rfl,?_⟩;have O02:=O1.trans O2 ak;unfold F222.wk4
 have pg: ∀l,l<Y.n->decide (0<g l)=HC Y.n Y.N a l:=λl hl=>by unfold HC;rw[decide_eq_decide,sem l hl];simp
 have e: ∀(d l:Nat) (k:aI),l+d=Y.n->aM [] h2 k->F222.wL4 (d+1) (aw s) 0 ((qy Y.f (HC Y.n Y.N a) l:Nat):Int) (some (aw b)) Y.n Y.n (Y.n:Int) (l:Int) k K:=by
  intro d
  induction d with
  |zero=>
   intro l k hl O;rw[F222.sL4];rw[L7 ah,aK];unfold F222.wk9;have:=hK k (O02.trans O ak);rw[<-show l=Y.n by omega]at this;rw[show l=Y.n by omega]at this ⊢;exact this
  |succ d ih=>
   intro l k hl O;rw[F222.sL4];rw[Mg ah,aO,aT];refine⟨ah,ah,?_⟩;have Ak:=A2.only O ak;rw[aL,LX,Md,MU];refine aH (n:=(g l:Int)) (by rw[At.rd Ak,pI ah]) ?_;have ew:ax ((l:Int)+1)=((l+1:Nat):Int):=by rw[wrap_i64 ah ah];omega
   rw[ew];have pl:=pg l ah;have sl:=wX (p:=HC Y.n Y.N a) l λl' j=>hf l' ah;refine aR (λq=> ?_) λq=> ?_
   ·have q:=Mn q;have Hk:=H.only0 (O02.trans O ak);refine eX Hk λc k2 Or g2 O2'=>aQ rfl ?_;refine nZ Or n8 ah (aH rfl ⟨Ny _,?_⟩);have f8:=hf l ah;have i:2^Y.f l<2^8:=Px (by decide) f8;have p8:2^Y.f l<256:=i
    have e1:IntKind.wrap .u8 ((1:Int)*2^(min (Int.toNat ((Y.f l:Nat):Int)) (IntKind.bits .u8)))=((2^Y.f l:Nat):Int):=by rw[show min (Int.toNat ((Y.f l:Nat):Int)) (IntKind.bits .u8)=Y.f l by show min (Y.f l) 8=Y.f l;omega,Int.one_mul,show((2:Int)^Y.f l)=((2^Y.f l:Nat):Int) by simp];exact xc p8
    rw[e1,KQ sl p8];have:=ih (l+1) k2 ah (O.trans O2' ak);unfold qy at this;rw[<-pl,Mg ah,L4 rfl]at this;exact this
   ·have q:=Me q;have:=ih (l+1) k ah O;unfold qy at this;rw[<-pl,L7 ah,LY ak]at this;exact this
 exact⟨_,e Y.n 0 h2 ah (aM.refl _ _)⟩
def xa{Y:SX}(H:bT h s L Y)(ha:isN Y.N a)(hf: ∀l,l<Y.n->Y.f l<8)(hK: ∀h',aM [] h h'->K (aD (qs Y.n Y.f Y.N a)) h'):Cl 179 [au (aw s),aq (a:Int)] h K:=by refine F179.spec ?_;refine wJ H ha hf λh1 O1=>⟨_,_,rfl,?_⟩;rw[show((0:Int)==(0:Int))=true from rfl,aO];exact hK h1 O1
section
variable {i j k l m n o p q r s t:Int}{a b c d:Addr}{u v:Nat}{x y:az}{h:aI}{K:KK}
def F51.spec(H:Cl 107 [au a,.slice x u v] h λa b=> ∃c:Option Nat,∃d:Int,a=(.tuple #[.map c,ap d])/\dC c λa=> ∃c e,mp b a=some (c,e)/\K (.tuple #[ap (Nat.cast (Array.size c):Int),ap d]) b):Cl 51 [au a,.slice x u v] h K:=cN Tryz.func51 H
def F369.T:bh:=⟨[],[(3,[[(0,[]),(1,[]),(2,[]),(3,[]),(4,[]),(5,[]),(6,[]),(7,[]),(8,[]),(9,[]),(10,[]),(11,[]),(12,[]),(13,[]),(14,[])]])]⟩
def F369.spec{i:Int}{a:Addr}(H:aJ (i<0) (K (ap 40) h) (aS .i64 (rd h (a.add 0)) λb=>aJ (i>=(ax (b-1))) (K (ap 40) h) ((0<=i/\i<8/\aS .i64 (rd h ((a.add 1).add (i.toNat*1))) λb=>0<=(ax (i+1))/\(ax (i+1))<8/\aS .i64 (rd h ((a.add 1).add ((ax (i+1)).toNat*1))) λc=>Cl 370 [au a,ap i,ap c] h λc d=>c=aE/\Cl 370 [au a,ap (ax (i+1)),ap b] d λa b=>a=aE/\K (ap 0) b)))):Cl 369 [au a,ap i] h K:=cT F369.T Tryz.func369 H
def F370.T:bh:=⟨[],[(0,[[(0,[]),(1,[]),(2,[]),(3,[]),(4,[]),(5,[]),(6,[]),(7,[]),(8,[]),(10,[]),(11,[]),(9,[2,3,5,10,11]),(12,[]),(13,[])]])]⟩
def F370.spec{i j:Int}{a:Addr}(H:(0<=i/\i<8/\aY h (((a.add 1).add (i.toNat*1)).add 0) (ap j) λb=>aF (au a)/\aF (ap j)/\aF (ap i)/\aF (au a)/\aF (au (a.add 9))/\0<=j/\j<8/\aY b (((a.add 9).add (j.toNat*1)).add 0) (ap i) λa=>K aE a)):Cl 370 [au a,ap i,ap j] h K:=cT F370.T Tryz.func370 H
def F359.spec(H:Cl 360 [au a,ap i] h λa b=>cF (some a) λ_ a _=>K (ap (ax ((2:Int)*(a:Int)))) b):Cl 359 [au a,ap i] h K:=cN Tryz.func359 H
def F360.T:bh:=⟨[(3,[1,5,11,12,13])],[]⟩
section
variable (n:Nat)(o:Addr)(l:Int)(j:az)(i g:Nat)(c:az)(b d:Nat)(f a:Int)(h:aI)(K:KK)
def F360.wL3:Prop:=Lp Tryz.f360 F360.T [1,1,0,1,0] n [(1,(ap l)),(5,(.slice j i g)),(11,(.slice c b d)),(12,(ap f)),(13,(ap a))] h K
def F360.sL3:F360.wL3 (n+1) l j i g c b d f a h K=(aJ (a<f) (aX c λe=>0<=a/\a<(b:Int)/\bQ (rd h ((e.add (a.toNat*4)).add 0)) λk=>aS .i64 (rd h ((e.add (a.toNat*4)).add 1)) λm=>aS .u32 (rd h ((e.add (a.toNat*4)).add 2)) λo=>aS .u32 (rd h ((e.add (a.toNat*4)).add 3)) λe=>bg h (.cells #[aB,ap 0,aq 0,aq 0] 195) λp q=>aY q ((aw p).add 0) (aD k) λk=>aY k ((aw p).add 1) (ap m) λk=>aY k ((aw p).add 2) (aq o) λk=>aY k ((aw p).add 3) (aq e) λe=>bQ (rd e ((aw p).add 0)) λk=>aJ k (aS .i64 (rd e ((aw p).add 1)) λk=>aJ (k==l) (bg e (.cells #[aq (IntKind.wrap .u32 (ax (a+2)))] 46) λe k=>fQ k 46 1 4 #[aq 0] j i g (some (aw e)) 1 λe g i j=>F360.wL3 n l e g i c b d f (ax (a+1)) j K) (F360.wL3 n l j i g c b d f (ax (a+1)) e K)) (F360.wL3 n l j i g c b d f (ax (a+1)) e K)) (K (.slice j i g) h)):=by kernel_rfl
def F360.wk3:Prop:=(∃e,F360.wL3 e l j i g c b d f a h K)
def F360.spec(H:cF (rd h (o.add 2)) λa b c=>F360.wk3 l none 0 0 a b c (b:Int) 0 h K):Cl 360 [au o,ap l] h K:=cT F360.T Tryz.func360 H
end
def F361.T:bh:=⟨[(3,[0,1,2,6,7,8,25,26,27]),(10,[0,1,2,6,7,8]),(12,[0,1,2,6,8,70,71,72]),(16,[0,1,2,6,8]),(17,[0,1,2,8,83,84,85]),(23,[0,2,8]),(24,[0,2,8,17]),(26,[0,2,8,17])],[]⟩
section
variable (n:Nat)(d:Addr)(g:Int)(i:Value)(l:az)(f j:Nat)(ad:az)(v ac:Nat)(c:az)(a b:Nat)(af:Int)(q:az)(o s:Nat)(ag r:Int)(aa:az)(z ai:Nat)(am ab:Int)(u:az)(t ae:Nat)(aj y:Int)(h:aI)(K:KK)
def F361.wL24:Prop:=Lp Tryz.f361 F361.T [1,1,1,1,1,1,1,0,0] n [(0,(au d)),(2,i),(8,(.slice c a b)),(17,(ap af))] h K
def F361.wL17:Prop:=Lp Tryz.f361 F361.T [1,1,1,1,1,0,1,0] n [(0,(au d)),(1,(ap g)),(2,i),(8,(.slice c a b)),(83,(.slice u t ae)),(84,(ap aj)),(85,(ap y))] h K
def F361.wL12:Prop:=Lp Tryz.f361 F361.T [1,1,1,1,0,1,0] n [(0,(au d)),(1,(ap g)),(2,i),(6,(.slice l f j)),(8,(.slice c a b)),(70,(.slice aa z ai)),(71,(ap am)),(72,(ap ab))] h K
def F361.wL3:Prop:=Lp Tryz.f361 F361.T [1,1,0,1,0] n [(0,(au d)),(1,(ap g)),(2,i),(6,(.slice l f j)),(7,(.slice ad v ac)),(8,(.slice c a b)),(25,(.slice q o s)),(26,(ap ag)),(27,(ap r))] h K
def F361.wk26:Prop:=Cl 111 [au d,ap af,.slice c a b] h λd e=>d=aE/\dS Tryz.prog X i [.slice c a b] e λa b=>a=aE/\K aE b
def F361.sL24:F361.wL24 (n+1) d i c a b af h K=(Cl 45 [au d] h λe f=>aS .i64 (some e) λe=>aJ ((ax (2*(ax ((ax (e+(ax ((2:Int)*(a:Int)))))+1))))>af) (F361.wL24 n d i c a b (ax (af*2)) f K) (F361.wk26 d i c a b af f K)):=by kernel_rfl
def F361.wk24:Prop:=(∃e,F361.wL24 e d i c a b af h K)
def F361.wk23:Prop:=aZ (rd h (d.add 4)) λe=>Cl 200 [aA e] h λe f=>aS .i64 (some e) λe=>F361.wk24 d i c a b e f K
def F361.sL17:F361.wL17 (n+1) d g i c a b u t ae aj y h K=(aJ (y<aj) (aX u λe=>0<=y/\y<(t:Int)/\aS .u32 (rd h (e.add (y.toNat*1))) λe=>Cl 117 [au d,aq e] h λe f=>aZ (some e) λe=>aX e λj=>aS .i64 (rd f (j.add 1)) λj=>aJ (j==(ax (g+2))) (aX e λe=>aY f ((e.add 1).add 0) (ap (ax (g+1))) λe=>F361.wL17 n d g i c a b u t ae aj (ax (y+1)) e K) (F361.wL17 n d g i c a b u t ae aj (ax (y+1)) f K)) (F361.wk23 d i c a b h K)):=by kernel_rfl
def F361.wk17:Prop:=(∃e,F361.wL17 e d g i c a b u t ae aj y h K)
def F361.wk16:Prop:=F361.wk17 d g i c a b l f j (f:Int) 0 h K
def F361.sL12:F361.wL12 (n+1) d g i l f j c a b aa z ai am ab h K=(aJ (ab<am) (aX aa λe=>0<=ab/\ab<(z:Int)/\aS .u32 (rd h (e.add (ab.toNat*1))) λe=>Cl 117 [au d,aq e] h λe k=>aZ (some e) λe=>aX e λe=>aY k ((e.add 1).add 0) (ap g) λe=>F361.wL12 n d g i l f j c a b aa z ai am (ax (ab+1)) e K) (F361.wk16 d g i l f j c a b h K)):=by kernel_rfl
def F361.wk12:Prop:=(∃e,F361.wL12 e d g i l f j c a b aa z ai am ab h K)
def F361.wk10:Prop:=aZ (rd h (d.add 1)) λe=>Cl 369 [aA e,ap g] h λe k=>aS .i64 (some e) λ_=>F361.wk12 d g i l f j c a b ad v ac (v:Int) 0 k K
def F361.sL3:F361.wL3 (n+1) d g i l f j ad v ac c a b q o s ag r h K=(aJ (r<ag) (aX q λe=>0<=r/\r<(o:Int)/\aS .u32 (rd h (e.add (r.toNat*1))) λe=>Cl 117 [au d,aq e] h λk m=>aZ (some k) λk=>aX k λp=>aS .u32 (rd m (p.add 2)) λp=>Cl 71 [au d,aq p] m λm p=>aS .i64 (some m) λm=>aJ (m==(ax (g+1))) (bg p (.cells #[aq e] 46) λe k=>fQ k 46 1 4 #[aq 0] c a b (some (aw e)) 1 λa b c e=>F361.wL3 n d g i l f j ad v ac a b c q o s ag (ax (r+1)) e K) (aX k λm=>aS .u32 (rd p (m.add 3)) λm=>Cl 71 [au d,aq m] p λm p=>aS .i64 (some m) λm=>aJ (m==(ax (g+1))) (bg p (.cells #[aq e] 46) λe k=>fQ k 46 1 4 #[aq 0] c a b (some (aw e)) 1 λa b c e=>F361.wL3 n d g i l f j ad v ac a b c q o s ag (ax (r+1)) e K) (aX k λe=>aY p ((e.add 1).add 0) (ap (ax (g+2))) λe=>F361.wL3 n d g i l f j ad v ac c a b q o s ag (ax (r+1)) e K))) (F361.wk10 d g i l f j ad v ac c a b h K)):=by kernel_rfl
def F361.wk3:Prop:=(∃e,F361.wL3 e d g i l f j ad v ac c a b q o s ag r h K)
def F361.spec(H:Cl 360 [au d,ap g] h λa b=>cF (some a) λa c e=>Cl 360 [au d,ap (ax (g+1))] b λb f=>cF (some b) λb j k=>F361.wk3 d g i a c e b j k none 0 0 a c e (c:Int) 0 f K):Cl 361 [au d,ap g,i] h K:=cT F361.T Tryz.func361 H
end
def F342.T:bh:=⟨[(5,[2,3]),(7,[2,3,5,32,33,34]),(11,[2,3,5])],[(1,[[(0,[]),(1,[]),(2,[]),(3,[]),(4,[]),(5,[3]),(6,[]),(7,[]),(8,[]),(9,[])]]),(3,[[(0,[]),(1,[]),(3,[]),(5,[]),(2,[3,5]),(4,[5]),(6,[]),(7,[]),(8,[]),(9,[])]])]⟩
section
variable (n:Nat)(l:Addr)(o:Int)(g i j:Addr)(b:az)(a d:Nat)(f c:Int)(h:aI)(K:KK)
def F342.wL7:Prop:=Lp Tryz.f342 F342.T [1,1,1,0,1,0] n [(2,(au g)),(3,(au i)),(5,(au j)),(32,(.slice b a d)),(33,(ap f)),(34,(ap c))] h K
def F342.wk11:Prop:=aZ (rd h g) λa=>aS .i64 (rd h i) λb=>Cl 361 [aA a,ap b,.func (.func 362) #[] #[au g,au j,au i]] h λa b=>a=aE/\K (ap 0) b
def F342.sL7:F342.wL7 (n+1) g i j b a d f c h K=(aJ (c<f) (aX b λe=>0<=c/\c<(a:Int)/\aS .u32 (rd h (e.add (c.toNat*1))) λe=>bU (rd h j) λk=>lu h k .u32 .u32 e (.agg #[]) λe=>F342.wL7 n g i j b a d f (ax (c+1)) e K) (F342.wk11 g i j h K)):=by kernel_rfl
def F342.wk7:Prop:=(∃e,F342.wL7 e g i j b a d f c h K)
def F342.wk5:Prop:=bg h (.map #[] 0) λa b=>bg b (.cells #[.map none] 191) λb c=>aY c ((aw b).add 0) (.map (some a)) λa=>aZ (rd a g) λc=>aS .i64 (rd a i) λd=>Cl 360 [aA c,ap (ax (d+1))] a λa c=>cF (some a) λa d e=>F342.wk7 g i (aw b) a d e (d:Int) 0 c K
def F342.spec(H:bg h (.cells #[au l] 33) λa b=>bg b (.cells #[ap o] 3) λb c=>aS .i64 (rd c (aw b)) λd=>aJ (d<0) ((aE=undef/\K (ap 40) c)) (aS .i64 (rd c (aw b)) λd=>aZ (rd c (aw a)) λe=>Cl 75 [aA e] c λc e=>aS .i64 (some c) λc=>aS .i64 (rd e (aw b)) λf=>aG (ap f) (ap d)/\aJ (d>=(ax (c-1))) (K (ap 40) e) (aZ (rd e (aw a)) λc=>aS .i64 (rd e (aw b)) λd=>aZ (rd e (aw a)) λf=>aZ (rd e (aw a)) λg=>Cl 359 [aA c,ap d] e λc d=>aS .i64 (some c) λc=>aZ (rd d (aw a)) λe=>aG (aA e) (aA f)/\aZ (rd d (aw a)) λe=>aG (aA e) (aA g)/\Cl 70 [aA f] d λd e=>aS .i64 (some d) λd=>aZ (rd e (aw a)) λf=>aG (aA f) (aA g)/\Cl 45 [aA g] e λe f=>aS .i64 (some e) λe=>aJ (c>(ax (d-e))) (K (ap 60) f) (F342.wk5 (aw a) (aw b) f K)))):Cl 342 [au l,ap o] h K:=cT F342.T Tryz.func342 H
end
def F254.T:bh:=⟨[(3,[3,7,8,9]),(8,[3])],[]⟩
section
variable (n:Nat)(l:az)(g j:Nat)(f:Option Nat)(b:az)(a c:Nat)(i d:Int)(h:aI)(K:KK)
def F254.wL3:Prop:=Lp Tryz.f254 F254.T [1,1,0,1,0] n [(3,(.map f)),(7,(.slice b a c)),(8,(ap i)),(9,(ap d))] h K
def F254.wk8:Prop:=dC f λa=> ∃b c,mp h a=some (b,c)/\K (ap (ax (200*(if 1>(Nat.cast (Array.size b):Int)then 1 else(Nat.cast (Array.size b):Int))))) h
def F254.sL3:F254.wL3 (n+1) f b a c i d h K=(aJ (d<i) (aX b λe=>0<=d/\d<(a:Int)/\aS .u32 (rd h (e.add (d.toNat*1))) λe=>aJ (e>1) (lu h f .u32 .u32 e (.agg #[]) λe=>F254.wL3 n f b a c i (ax (d+1)) e K) (F254.wL3 n f b a c i (ax (d+1)) h K)) (F254.wk8 f h K)):=by kernel_rfl
def F254.wk3:Prop:=(∃e,F254.wL3 e f b a c i d h K)
def F254.spec(H:bg h (.map #[] 0) λa b=>F254.wk3 (some a) l g j (g:Int) 0 b K):Cl 254 [.slice l g j] h K:=cT F254.T Tryz.func254 H
end
def F255.spec(H:bg h (.cells #[aA x,.slice y u v] 330) λa b=>aZ (rd b ((aw a).add 0)) λc=>cF (rd b ((aw a).add 1)) λa d e=>Cl 51 [aA c,.slice a d e] b λa b=> ∃c:Int,∃d:Int,a=(.tuple #[ap c,ap d])/\K (ap c) b):Cl 255 [.agg #[aA x,.slice y u v]] h K:=cN Tryz.func255 H
def F212.T:bh:=⟨[(11,[4,6,9,11,42,43,44]),(17,[4,6,9])],[]⟩
section
variable (n:Nat)(s:Addr)(j:az)(i g:Nat)(q r:Int)(o:Addr)(f:Value)(b:az)(a d:Nat)(l c:Int)(h:aI)(K:KK)
def F212.wL11:Prop:=Lp Tryz.f212 F212.T [1,1,1,1,1,1,1,0,1,0] n [(4,(ap q)),(6,(ap r)),(9,(au o)),(11,f),(42,(.slice b a d)),(43,(ap l)),(44,(ap c))] h K
def F212.wk17:Prop:=aZ (rd h (o.add 0)) λa=>cF (rd h (o.add 1)) λb c d=>Cl 255 [.agg #[aA a,.slice b c d]] h λa b=>aS .i64 (some a) λa=>K (.tuple #[ap q,ap a,ap r]) b
def F212.sL11:F212.wL11 (n+1) q r o f b a d l c h K=(aJ (c<l) (aX b λe=>0<=c/\c<(a:Int)/\aS .i64 (rd h (e.add (c.toNat*1))) λe=>dS Tryz.prog X f [ap e] h λe g=>aS .i64 (some e) λe=>aJ (e !=0) (K (.tuple #[ap 0,ap 0,ap e]) g) (F212.wL11 n q r o f b a d l (ax (c+1)) g K)) (F212.wk17 q r o h K)):=by kernel_rfl
def F212.wk11:Prop:=(∃e,F212.wL11 e q r o f b a d l c h K)
def F212.spec(H:Cl 218 [au s,.slice j i g] h λa b=> ∃c:Int,∃d:Int,a=(.tuple #[ap c,ap d])/\aJ (d !=0) (K (.tuple #[ap 0,ap 0,ap d]) b) (Cl 254 [.slice j i g] b λa b=>aS .i64 (some a) λa=>Cl 70 [au s] b λb c=>aS .i64 (some b) λb=>aJ (a>b) (K (.tuple #[ap 0,ap 0,ap 60]) c) (bg c (.cells #[aA none,.slice none 0 0] 330) λa b=>aY b ((aw a).add 0) (au s) λb=>aY b ((aw a).add 1) (.slice j i g) λb=>aZ (rd b ((aw a).add 0)) λc=>cF (rd b ((aw a).add 1)) λd e f=>Cl 255 [.agg #[aA c,.slice d e f]] b λb c=>aS .i64 (some b) λb=>Cl 256 [au s,.slice j i g] c λc d=> ∃e:az,∃f:Nat,∃g:Nat,∃i:Int,c=(.tuple #[.slice e f g,ap i])/\aZ (rd d ((aw a).add 0)) λc=>cF (rd d ((aw a).add 1)) λj k l=>F212.wk11 b i (aw a) (.func (.func 257) #[.agg #[aA c,.slice j k l]] #[]) e f g (f:Int) 0 d K))):Cl 212 [au s,.slice j i g] h K:=cT F212.T Tryz.func212 H
end
def F256.T:bh:=⟨[(7,[8,9,28,29,30]),(11,[8]),(14,[12,13,14,15])],[]⟩
section
variable (n:Nat)(y:Addr)(u:az)(t s:Nat)(r v d:az)(c b:Nat)(l:Value)(j:Addr)(q:Bool)(g:az)(f i:Nat)(o a:Int)(h:aI)(K:KK)
def F256.wL14:Prop:=Lp Tryz.f256 F256.T [1,1,1,1,1,1,1,1,0,1,0] n [(12,(.slice d c b)),(13,l),(14,(au j)),(15,(aD q))] h K
def F256.wL7:Prop:=Lp Tryz.f256 F256.T [1,1,1,1,1,0,1,0] n [(8,(aA r)),(9,(aA v)),(28,(.slice g f i)),(29,(ap o)),(30,(ap a))] h K
def F256.sL14:F256.wL14 (n+1) d c b l j q h K=(aJ q (aS .i64 (rd h (j.add 0)) λa=>bg h (.cells #[ap a] 3) λa e=>fQ e 3 1 8 #[ap 0] d c b (some (aw a)) 1 λa b c d=>aS .i64 (rd d (j.add 0)) λe=>aS .i64 (rd d (j.add 1)) λf=>bg d (.cells #[ap 0,ap 0] 357) λd g=>aY g ((aw d).add 0) (ap e) λe=>aY e ((aw d).add 1) (ap f) λe=>dS Tryz.prog X l [] e λe f=> ∃g:Int,∃i:Int,∃j:Bool,e=(.tuple #[.agg #[ap g,ap i],aD j])/\aY f ((aw d).add 0) (ap g) λe=>aY e ((aw d).add 1) (ap i) λe=>F256.wL14 n a b c l (aw d) j e K) (K (.tuple #[.slice d c b,ap 0]) h)):=by kernel_rfl
def F256.wk14:Prop:=(∃a,F256.wL14 a d c b l j q h K)
def F256.wk11:Prop:=Cl 290 [aA r] h λa b=> ∃c:Int,∃d:Int,∃e:Bool,a=(.tuple #[.agg #[ap c,ap d],aD e])/\bg b (.cells #[ap 0,ap 0] 357) λa b=>aY b ((aw a).add 0) (ap c) λb=>aY b ((aw a).add 1) (ap d) λb=>F256.wk14 none 0 0 (.func (.func 290) #[aA r] #[]) (aw a) e b K
def F256.sL7:F256.wL7 (n+1) r v g f i o a h K=(aJ (a<o) (aX g λb=>0<=a/\a<(f:Int)/\aS .i64 (rd h (b.add (a.toNat*1))) λb=>Cl 272 [aA v,ap a] h λc d=>aS .i64 (some c) λc=>Cl 289 [aA r,ap c,ap b] d λb c=>bQ (some b) λ_=>F256.wL7 n r v g f i o (ax (a+1)) c K) (F256.wk11 r h K)):=by kernel_rfl
def F256.wk7:Prop:=(∃b,F256.wL7 b r v g f i o a h K)
def F256.spec(H:Cl 271 [au y,.slice u t s] h λa b=> ∃c:az,∃d:Nat,∃e:Nat,∃f:Int,a=(.tuple #[.slice c d e,ap f])/\aJ (f !=0) (K (.tuple #[.slice none 0 0,ap f]) b) (Cl 288 [] b λa b=>aZ (some a) λa=>Cl 47 [au y] b λb f=>aZ (some b) λb=>F256.wk7 a b c d e (d:Int) 0 f K)):Cl 256 [au y,.slice u t s] h K:=cT F256.T Tryz.func256 H
end
def F257.T:bh:=⟨[(3,[1,2,5,6,12,13]),(12,[1,2,5])],[]⟩
section
variable (n:Nat)(j g:az)(f d:Nat)(i:Int)(c:Addr)(l o b a:Int)(h:aI)(K:KK)
def F257.wL3:Prop:=Lp Tryz.f257 F257.T [1,1,0,1,0] n [(1,(ap i)),(2,(au c)),(5,(ap l)),(6,(ap o)),(12,(ap b)),(13,(ap a))] h K
def F257.wk12:Prop:=aZ (rd h (c.add 0)) λa=>cF (rd h (c.add 1)) λb c d=>Cl 291 [.agg #[aA a,.slice b c d],ap i,ap l] h λa b=>aS .i64 (some a) λa=>K (ap a) b
def F257.sL3:F257.wL3 (n+1) i c l o b a h K=(aJ (a<b) (aZ (rd h (c.add 0)) λd=>cF (rd h (c.add 1)) λe f g=>Cl 291 [.agg #[aA d,.slice e f g],ap i,ap a] h λd e=>aS .i64 (some d) λd=>aJ (d !=0) (K (ap d) e) (aZ (rd e (c.add 0)) λd=>cF (rd e (c.add 1)) λf g j=>Cl 255 [.agg #[aA d,.slice f g j]] e λd e=>aS .i64 (some d) λd=>aJ (o<0) (F257.wL3 n i c a d b (ax (a+1)) e K) (aJ (d<o) (F257.wL3 n i c a d b (ax (a+1)) e K) (F257.wL3 n i c l o b (ax (a+1)) e K)))) (F257.wk12 i c l h K)):=by kernel_rfl
def F257.wk3:Prop:=(∃d,F257.wL3 d i c l o b a h K)
def F257.spec(H:bg h (.cells #[aA j,.slice g f d] 330) λa b=>aZ (rd b ((aw a).add 0)) λc=>Cl 75 [aA c] b λb c=>aS .i64 (some b) λb=>F257.wk3 i (aw a) 0 (-1) b 0 c K):Cl 257 [.agg #[aA j,.slice g f d],ap i] h K:=cT F257.T Tryz.func257 H
end
def F291.T:bh:=⟨[(1,[1,2,3])],[]⟩
section
variable (n:Nat)(f c:az)(b a:Nat)(g d:Int)(i:Addr)(h:aI)(K:KK)
def F291.wL1:Prop:=Lp Tryz.f291 F291.T [1,0] n [(1,(ap g)),(2,(ap d)),(3,(au i))] h K
def F291.sL1:F291.wL1 (n+1) g d i h K=(aZ (rd h (i.add 0)) λa=>Cl 47 [aA a] h λa b=>aZ (some a) λa=>Cl 186 [aA a,ap g] b λa b=>aS .i64 (some a) λa=>aJ (a==d) (K (ap 0) b) (aZ (rd b (i.add 0)) λc=>cF (rd b (i.add 1)) λe f j=>Cl 312 [.agg #[aA c,.slice e f j],ap (if(if d>(ax (a-1))then d else(ax (a-1)))<a then(if d>(ax (a-1))then d else(ax (a-1)))else a)] b λa b=>aS .i64 (some a) λa=>aJ (a !=0) (K (ap a) b) (F291.wL1 n g d i b K))):=by kernel_rfl
def F291.wk1:Prop:=(∃a,F291.wL1 a g d i h K)
def F291.spec(H:bg h (.cells #[aA f,.slice c b a] 330) λa b=>F291.wk1 g d (aw a) b K):Cl 291 [.agg #[aA f,.slice c b a],ap g,ap d] h K:=cT F291.T Tryz.func291 H
end
def F312.spec(H:bg h (.cells #[aA x,.slice y u v] 330) λa b=>aZ (rd b ((aw a).add 0)) λc=>Cl 342 [aA c,ap i] b λb c=>aS .i64 (some b) λb=>aJ (b !=0) (K (ap b) c) (aZ (rd c ((aw a).add 0)) λb=>cF (rd c ((aw a).add 1)) λa d e=>Cl 218 [aA b,.slice a d e] c λa b=> ∃c:Int,∃d:Int,a=(.tuple #[ap c,ap d])/\K (ap d) b)):Cl 312 [.agg #[aA x,.slice y u v],ap i] h K:=cN Tryz.func312 H
end
def F363.spec(H:Cl 117 [au a,aq i] h λb c=>aZ (some b) λb=>aX b λd=>aY c ((d.add 1).add 0) (ap j) λc=>aX b λd=>aY c ((d.add 2).add 0) (aq k) λc=>aX b λd=>aY c ((d.add 3).add 0) (aq l) λc=>aX b λb=>bQ (rd c (b.add 0)) λd=>aS .i64 (rd c (b.add 1)) λe=>aS .u32 (rd c (b.add 2)) λf=>aS .u32 (rd c (b.add 3)) λb=>Cl 160 [au a,aq i,.agg #[aD d,ap e,aq f,aq b]] c λa b=>a=aE/\K aE b):Cl 363 [au a,aq i,ap j,aq k,aq l] h K:=cN Tryz.func363 H
def F364.spec(b:Addr)(a:Int)(c:Option Nat)(h:aI)(K:KK)(H:bg h (.cells #[aq 0,aq 0] 352) λd e=>dT e c .u32 .u32 a λc=>jX (some (kU (.agg #[]) c)) λf=>bg e (.cells #[] 218) λe g=>du Tryz.prog 218 (some (aw e)) f g λe=>aJ (!(Option.isSome c)) (aY e ((aw d).add 0) (aq a) λb=>aY b ((aw d).add 1) (aq a) λa=>aS .u32 (rd a ((aw d).add 0)) λb=>aS .u32 (rd a ((aw d).add 1)) λc=>K (.agg #[aq b,aq c]) a) (Cl 72 [au b,aq a] e λc e=>aS .u32 (some c) λc=>Cl 73 [au b,aq a] e λa b=>aS .u32 (some a) λa=>aY b ((aw d).add 0) (aq c) λb=>aY b ((aw d).add 1) (aq a) λa=>aS .u32 (rd a ((aw d).add 0)) λb=>aS .u32 (rd a ((aw d).add 1)) λc=>K (.agg #[aq b,aq c]) a)):Cl 364 [au b,aq a,.map c] h K:=cN Tryz.func364 H
def F365.T:bh:=⟨[],[(1,[[(0,[]),(1,[]),(2,[]),(3,[]),(4,[]),(5,[]),(6,[]),(7,[]),(8,[]),(9,[]),(10,[]),(11,[]),(12,[]),(13,[]),(14,[])]])]⟩
def F365.spec{n:Int}(H:bg h (.cells #[aq j,aq k] 352) λb c=>bg c (.cells #[aq l,aq m] 352) λc d=>0<=n/\n<2/\aS .u32 (rd d ((aw b).add (n.toNat*1))) λb=>0<=n/\n<2/\aS .u32 (rd d ((aw c).add (n.toNat*1))) λc=>Cl 161 [au a,ap (ax (i+1)),aq b,aq c] d λa b=> ∃c:Int,∃d:Int,a=(.tuple #[aq c,ap d])/\K (aq c) b):Cl 365 [au a,ap i,.agg #[aq j,aq k],.agg #[aq l,aq m],ap n] h K:=cT F365.T Tryz.func365 H
def pW(N:ay)(l i:Nat):Bool:=match nd N i with|some x=>decide (x.1=l)|none=>false
def pL:pW N l i=true↔ ∃x,nd N i=some x/\x.1=l:=by
 unfold pW;cases nd N i with
 |none=>simp
 |some x=>simp
def qp(N:ay)(l k:Nat):List Nat:=((List.range k).filter (pW N l)).map (· +2)
def cQ(N:ay)(l:Nat):List Nat:=qp N l N.length
def zS:qp N l (k+1)=qp N l k++if pW N l k=true then [k+2]else []:=by
 unfold qp;rw[Ou,Nx,MJ]
 congr 1
 cases h:pW N l k<;>simp[h]
def iV:(qp N l k).length<=k:=by unfold qp;rw[ND];have:=NG (pW N l) (List.range k);simpa using this
def iT:a∈cQ N l↔2<=a/\ ∃x,nd N (a-2)=some x/\x.1=l:=by
 unfold cQ qp;simp only[Ms,List.mem_filter,MW,pL];constructor
 ·rintro ⟨i,⟨h1,h2⟩,e⟩;subst e;exact⟨ah,by simpa using h2⟩
 ·rintro ⟨h0,x,h1,h2⟩;exact⟨a-2,⟨ko h1,x,h1,h2⟩,ah⟩
def eZ:(cQ N l).Nodup:=by unfold cQ qp;refine List.Pairwise.map _ (λa b (h:a≠b)=> ?_) ((List.nodup_range (n:=N.length)).filter _);show a+2≠b+2;omega
def xx{h:aI}(H:ie h s n room B f g N F Q off)(hK: ∀h' p c,cy h' h.size 1 p (cQ N l).length c ((cQ N l).map hv)->aM [] h h'->K (.slice p (cQ N l).length c) h'):Cl 360 [bf s,ap (l:Int)] h K:=by
 have j:=H.len;refine F360.spec _ _ h K ?_;simp only[aL,LX];refine bF (p:=B.p) (l:=N.length) (c:=B.c) (by rw[At.rd H.S];rfl) ?_;unfold F360.wk3
 have a: ∀(d i:Nat) (h':aI) (p:az) (c:Nat),i+d=N.length->cy h' h.size 1 p (qp N l i).length c ((qp N l i).map hv)->aM [] h h'->
   F360.wL3 (d+1) (l:Int) p (qp N l i).length c B.p N.length B.c (N.length:Int) (i:Int) h' K:=by
  intro d
  induction d with
  |zero=>
   intro i h' p c hi Ow O;rw[F360.sL3];rw[L7 ah,aK];obtain rfl:i=N.length:=ah;exact hK h' p c Ow O
  |succ d ih=>
   intro i h' p c hi Ow O;obtain⟨o,ho⟩: ∃o,N[i]? =some o:=⟨_,Mj ah⟩;have m1:=H.only O ak;obtain⟨b,eb,rr⟩:=m1.cells ho;have en:nd N i=o:=by unfold nd;rw[ho];rfl
   rw[F360.sL3];rw[Mg ah,aO,eb,aT];refine⟨ah,ah,?_⟩;rw[<-eb];simp only[aL,LX]
   have hw:IntKind.wrap .u32 (ax ((i:Int)+2))=((i+2:Nat):Int):=by rw[wrap_i64 ah ah,show(i:Int)+2=((i+2:Nat):Int) by omega];exact gK ah
   rw[show Int.toNat (i:Int)*4=i*4 by omega,hw,show ax ((i:Int)+1)=((i+1:Nat):Int) by rw[wrap_i64 ah ah];omega];have t:(qp N l i).length<=40000:=by have:=iV (N:=N) (l:=l) (k:=i);omega
   have ls:=zS (N:=N) (l:=l) (k:=i);have z0:=O.size;cases o with
   |none=>
    have ea:pW N l i=false:=by unfold pW;rw[en]
    refine a8 (n:=false) (by rw[<-Ma (i*4),rr 0 ah];rfl) (aH (n:=0) (by rw[rr 1 ah];rfl) (aH (n:=0) (by rw[rr 2 ah];rfl) (aH (n:=0) (by rw[rr 3 ah];rfl) ?_)));refine aW λk1 B1 P1 y1=> ?_;refine aU B1 ak rfl λk2 B2 P2 y2=>aU B2 ak rfl λk3 B3 P3 y3=>aU B3 ak rfl λk4 B4 P4 y4=>aU B4 ak rfl λk5 B5 P5 y5=> ?_;have P15:aM [] h' k5:=(((P1.trans P2 (by intro b hb hl;simp at hb;omega)).trans P3 (by intro b hb hl;simp at hb;omega)).trans P4 (by intro b hb hl;simp at hb;omega)).trans P5 (by intro b hb hl;simp at hb;omega);refine a8 (n:=false) (by rw[At.rd B5];rfl) ?_;rw[aK];have ls:qp N l (i+1)=qp N l i:=by rw[ls,ea];simp
    have Ow5:=Ow.only P15 ak;rw[<-ls]at Ow5 ⊢;exact ih (i+1) k5 p c ah Ow5 (O.trans P15 ak)
   |some x=>
    refine a8 (n:=true) (by rw[<-Ma (i*4),rr 0 ah];rfl) (aH (n:=(x.1:Int)) (by rw[rr 1 ah];rfl) (aH (n:=(x.2.1:Int)) (by rw[rr 2 ah];rfl) (aH (n:=(x.2.2:Int)) (by rw[rr 3 ah];rfl) ?_)));refine aW λk1 B1 P1 y1=> ?_;refine aU B1 ak rfl λk2 B2 P2 y2=>aU B2 ak rfl λk3 B3 P3 y3=>aU B3 ak rfl λk4 B4 P4 y4=>aU B4 ak rfl λk5 B5 P5 y5=> ?_;have P15:aM [] h' k5:=(((P1.trans P2 (by intro b hb hl;simp at hb;omega)).trans P3 (by intro b hb hl;simp at hb;omega)).trans P4 (by intro b hb hl;simp at hb;omega)).trans P5 (by intro b hb hl;simp at hb;omega);refine a8 (n:=true) (by rw[At.rd B5];rfl) ?_;rw[aO];refine aH (n:=(x.1:Int)) (by rw[At.rd B5];rfl) ?_;have Ow5:=Ow.only P15 ak;by_cases e:x.1=l
    ·have ea:pW N l i=true:=pL.2 ⟨x,en,e⟩;rw[show(((x.1:Nat):Int)==(l:Int))=true by rw[Oe];omega,aO];have ls:qp N l (i+1)=qp N l i++[i+2]:=by rw[ls,ea];simp
     refine aW λk6 B6 P6 y6=> ?_;refine gU (new:=[hv (i+2)]) (Ow5.only P6 ak) B6 rfl rfl ah (by simp[Value.oneCell']) ah λp' c' k7 W7 P7 m=> ?_;have e1:(qp N l i).length+1=(qp N l (i+1)).length:=by rw[ls];simp
     have e2:(qp N l i).map hv++[hv (i+2)]=(qp N l (i+1)).map hv:=by rw[ls];simp
     rw[e1,e2]at W7;rw[e1];exact ih (i+1) k7 p' c' ah W7 (((O.trans P15 ak).trans P6 ak).trans P7 λb hb hl=>by have:=Ow.lt b hb;omega)
    ·have ea:pW N l i=false:=by
      cases q:pW N l i with
      |false=>rfl
      |true=>
       obtain⟨y,hy,e2⟩:=pL.1 q;rw[en]at hy;injection hy with hy;subst hy;exact Mw e2 e
     rw[show(((x.1:Nat):Int)==(l:Int))=false by rw[OP];omega,aK];have ls:qp N l (i+1)=qp N l i:=by rw[ls,ea];simp
     rw[<-ls]at Ow5 ⊢;exact ih (i+1) k5 p c ah Ow5 (O.trans P15 ak)
 exact⟨_,a N.length 0 h none 0 ah (cy.nil _ _ _) (aM.refl _ _)⟩
def bV.size{m:List (Int×Value)}(H:bV h b k m): ∃es cl,mp h b=some (es,cl)/\es.size=m.length:=by obtain⟨es,cl,h1,h2,-⟩:=H;refine⟨es,cl,h1,?_⟩;have:=congrArg List.length h2;simpa using this
def bO.add_job{h h':aI}{p s:Nat}{P:PS}(H:bO h p s P)(O:aM [P.jb] h h'){id:Nat}{A:MA}(M':bV h' P.jb .i64 ((P.jobs++[(⟨id,A⟩:Jb)]).map λj=>((j.id:Int),bf j.A.m)))(MA':bG h s A)(hf: ∀b∈A.bl,¬dD p P b)(h1:1<=id)(h2:id<=P.last)(h3: ∀j∈P.jobs,j.id≠id):
  bO h' p s {P with jobs:=P.jobs++[⟨id,A⟩]}:=by
 obtain⟨τ,t⟩:=H.sep;have nj: ∀b∈[P.jb],τ b=0:=λb hb=>by simp only[LZ]at hb;subst hb;exact t.jb
 refine⟨H.own.only O λhm=> ?_,H.wks.only O λb eb hm=> ?_,λk hk=>(H.wk k hk).only O λb hb hm=> ?_,M',λy hy=> ?_,⟨λb=>if b∈A.bl then 2*id+2 else τ b,?_,?_,λb hb=> ?_,λx k hk b hb=> ?_,λy hy b hb=> ?_⟩,H.ne,?_,λy hy=> ?_⟩
 ·simp only[LZ]at hm;exact H.ne.1 hm
 ·simp only[LZ]at hm;subst hm;exact H.ne.2.2 (by rw[eb];simp[aV])
 ·obtain⟨w,hw⟩:=MC.1 hk;have:=t.ws w k hw b hm;have:=nj b hb;omega
 ·rcases Zq hy with hy|hy
  ·refine(H.ma y hy).only O λb hb hm=> ?_;have:=t.jobs y hy b hm;have:=nj b hb;omega
  ·simp only[LZ]at hy;subst hy;exact MA'.only O λb hb hm=>hf b hm (by simp only[LZ]at hb;exact .inr (.inl hb))
 ·show(if p∈A.bl then _ else τ p)=0;rw[LY λhm=>hf p hm (.inl rfl)];exact t.p
 ·show(if P.jb∈A.bl then _ else τ P.jb)=0;rw[LY λhm=>hf _ hm (.inr (.inl rfl))];exact t.jb
 ·show(if b∈A.bl then _ else τ b)=0;rw[LY λhm=>hf _ hm (.inr (.inr (.inl hb)))];exact t.wp b hb
 ·show(if b∈A.bl then _ else τ b)=_;rw[LY λhm=>hf _ hm (.inr (.inr (.inr (.inl ⟨k,Mc hk,hb⟩))))];exact t.ws x k hk b hb
 ·show(if b∈A.bl then _ else τ b)=_;rcases Zq hy with hy|hy
  ·rw[LY λhm=>hf _ hm (.inr (.inr (.inr (.inr ⟨y,hy,hb⟩))))];exact t.jobs y hy b hb
  ·simp only[LZ]at hy;subst hy;rw[L4 hb]
 ·show((P.jobs++[(⟨id,A⟩:Jb)]).map (·.id)).Nodup;rw[MJ,ML];refine⟨H.ids.1,ak,λx hx y hy e=> ?_⟩;simp only[Mz,N4,LZ]at hy;obtain⟨j,hj,rfl⟩:=Ms.1 hx;exact h3 j hj (e.trans hy)
 ·rcases Zq hy with hy|hy
  ·exact H.ids.2 y hy
  ·simp only[LZ]at hy;subst hy;exact⟨h1,h2⟩
def rJ(he:er≠0)(d: ∀{h1:aI} {Q:KK},aM [] h h1->(∀h2,aM [] h1 h2->Q (ap er) h2)->Cl 133 [bf s,mO x a b c mask] h1 Q)
  (hK: ∀h',aM [] h h'->K (.tuple #[.pointer none,ap er]) h'):Cl 91 [bf s,mO x a b c mask] h K:=by
 refine F91.spec _ _ _ _ _ _ h K ?_;refine aW λh1 A1 O1 z1=> ?_;simp only[aL,LX];have r: ∀k,rd h1 ⟨h.size,k,none⟩=([ap x,aq (a:Int),aq (b:Int),aq (c:Int),.int .u8 mask]:List Value)[k]? :=λk=>At.rd A1 k;refine aH (by rw[r];rfl) (aH (by rw[r];rfl) (aH (by rw[r];rfl) (aH (by rw[r];rfl) (aH (by rw[r];rfl) ?_))));refine d O1 λh2 O2=>aH rfl ?_;rw[show(er !=(0:Int))=true by simp[he],aO];exact hK h2 (O1.trans O2 ak)
def KA: ∀n,n<=8->bJ n<=1021/\qS n n<=262000/\cS n n<=524000/\tS n n<=262000/\bN n<=255/\qB n n<=65280/\cB n n<=130560:=by decide
def uo{a b c op mask n:Nat}{fo:Nat->Nat}{N:ay}{f:Fk}{ft:Bool}(n8:n<=8)(t:mask<256)(u:op=1\/op=2\/op=3\/op=4\/op=5\/op=6\/op=7\/op=8\/op=9\/op=10)(ha:isN N a)(hb:bS (op:Int)≠1->isN N b)(hc:bS (op:Int)=3->isN N c)(hz:lF n op mask ft=0)
  (i:f.fn=Ln op) (l:f.low=0) (k:f.op=(kg op a b c).op) (em:f.mask=mask) (g:f.a0=(kg op a b c).a0) (j:f.a1=(kg op a b c).a1) (d:f.a2=(kg op a b c).a2):dp n fo N f/\fD f/\eF n N f<=800000/\dZ n N f<=131000:=by
 obtain⟨c1,c2,c3,c4,c5,c6,c7⟩:=KA n n8;have z0:isN N 0:= .inl ah;have z1:isN N 1:= .inl ah;have jn:isN N f.a0->isN N f.a1->isN N f.a2->FN N f:=λx y z=>⟨x,y,z,by rw[l];exact z0⟩;have join:f.fn=180->fV f.op->FN N f->dp n fo N f/\fD f/\eF n N f<=800000/\dZ n N f<=131000:=λe o F=>⟨⟨F,.inl ⟨o,.inl e,λz=>ah⟩⟩,.inl e,by have:=(kS (n:=n) (N:=N) e).1;omega,by have:=(kS (n:=n) (N:=N) e).2;omega⟩;have mo:=eN (n:=n) (show n-lvl n N f.a0<=n by omega);rcases u with e|e|e|e|e|e|e|e|e|e<;>subst e
 ·exact join i (by rw[k];exact .inr (.inr (.inl rfl))) (jn (by rw[g];exact z1) (by rw[j];exact ha) (by rw[d];exact z0))
 ·exact join i (by rw[k];exact .inl rfl) (jn (by rw[g];exact ha) (by rw[j];exact hb (by decide)) (by rw[d];exact z0))
 ·exact join i (by rw[k];exact .inr (.inl rfl)) (jn (by rw[g];exact ha) (by rw[j];exact hb (by decide)) (by rw[d];exact z0))
 ·exact join i (by rw[k];exact .inr (.inr (.inl rfl))) (jn (by rw[g];exact ha) (by rw[j];exact hb (by decide)) (by rw[d];exact z0))
 ·exact join i (by rw[k];exact .inr (.inr (.inr rfl))) (jn (by rw[g];exact ha) (by rw[j];exact hb (by decide)) (by rw[d];exact hc rfl))
 ·have e:f.fn=136:=i;have m:=vR (n:=n) (N:=N) e;exact⟨⟨jn (by rw[g];exact ha) (by rw[j];exact z0) (by rw[d];exact z0),.inr (.inl ⟨.inl k,ah,.inl e⟩)⟩,.inr (.inl e),ah,ah⟩
 ·have e:f.fn=136:=i;have m:=vR (n:=n) (N:=N) e;exact⟨⟨jn (by rw[g];exact ha) (by rw[j];exact z0) (by rw[d];exact z0),.inr (.inl ⟨.inr k,ah,.inl e⟩)⟩,.inr (.inl e),ah,ah⟩
 ·have e:f.fn=137:=i;have m:=CQ (n:=n) (N:=N) e
  have mn:mask<n:=by apply Mi;intro q;unfold lF at hz;rw[LY ah,L4 rfl,L4 ah]at hz;cases hz
  exact⟨⟨jn (by rw[g];exact ha) (by rw[j];exact hb (by decide)) (by rw[d];exact z0),.inr (.inr (.inl ⟨.inl e,ah⟩))⟩,.inr (.inr (.inl e)),ah,ah⟩
 ·have e:f.fn=138:=i;have m:=EY (n:=n) (N:=N) e
  have ev:n%2=0:=by apply Mi;intro q;unfold lF at hz;rw[LY ah,LY ah,L4 ah,L4 ah]at hz;cases hz
  exact⟨⟨jn (by rw[g];exact ha) (by rw[j];exact hb (by decide)) (by rw[d];exact z0),.inr (.inr (.inr (.inr ⟨ev,.inr (.inr (.inl ⟨e,d⟩))⟩)))⟩,.inr (.inr (.inr (.inr (.inl e)))),ah,ah⟩
 ·have e:f.fn=139:=i;have m:=FH (n:=n) (N:=N) e
  have ev:n%2=0:=by apply Mi;intro q;unfold lF at hz;rw[LY ah,LY ah,L4 ah,L4 ah]at hz;cases hz
  exact⟨⟨jn (by rw[g];exact ha) (by rw[j];exact hb (by decide)) (by rw[d];exact z0),.inr (.inr (.inr (.inr ⟨ev,.inr (.inr (.inr (.inr (.inr (.inl e)))))⟩)))⟩,.inr (.inr (.inr (.inr (.inr e)))),ah,ah⟩
def xw:lF n op mask ft=0\/lF n op mask ft=40\/lF n op mask ft=160:=by
 unfold lF
 repeat' split
 all_goals first|exact .inl rfl|exact .inr (.inl rfl)|exact .inr (.inr rfl)
def D8{h:aI}{p s n room:Nat}{fo gg:Nat->Nat}{off:Bool}{N:ay}{P:PS}{K:KK}{L:List Nat}{a b c op mask:Nat}(g:mask<256)(S:bT h s L (XL n room fo gg N off))(H:bO h p s P)(Ok:cd n fo N P)(po:cu n fo gg)(D: ∀b,dD p P b->b∉L)(I:op=1\/op=2\/op=3\/op=4\/op=5\/op=6\/op=7\/op=8\/op=9\/op=10)(ha:isN N a)(hb:isN N b)(hc:isN N c)(a1:P.last+1<100000000)
  (hF: ∀h' (er:Nat),er=40\/er=60\/er=160->aM [] h h'->K (.tuple #[ap 0,ap (er:Int)]) h')
  (hT:P.jobs.length<64-> ∀h' ws A,bT h' s L (XL n room fo gg N off)->bO h' p s {P with ws:=ws,jobs:=P.jobs++[⟨P.last+1,A⟩],last:=P.last+1}->cd n fo N {P with ws:=ws,jobs:=P.jobs++[⟨P.last+1,A⟩],last:=P.last+1}->
   (∀x,dD p {P with ws:=ws,jobs:=P.jobs++[⟨P.last+1,A⟩],last:=P.last+1} x->dD p P x\/h.size<=x)->(∀x,dD p {P with ws:=ws,jobs:=P.jobs++[⟨P.last+1,A⟩],last:=P.last+1} x->x∉L)->ws.length=P.ws.length->A.done=false->qlen ws=qlen P.ws+1->(∀T,(∀b,dD p P b->b∈T)->aM T h h')->K (.tuple #[ap ((P.last+1:Nat):Int),ap 0]) h'):
  Cl 35 [bf p,mO (op:Int) a b c (mask:Int)] h K:=by
 have zP:=H.lt;have zL:=S.lt;have ok:=S.ok;dsimp only[XL]at ok;refine F35.spec ?_;refine aW λh1 A1 O1 z1=> ?_;simp only[aL,LX];have H1:=H.only0 O1;have r: ∀k,rd h1 ⟨h.size,k,none⟩=([ap (op:Int),aq (a:Int),aq (b:Int),aq (c:Int),.int .u8 (mask:Int)]:List Value)[k]? :=λk=>At.rd A1 k;refine aQ (dl H1).1 (aH (by rw[r];rfl) (aH (by rw[r];rfl) (aH (by rw[r];rfl) (aH (by rw[r];rfl) (aH (by rw[r];rfl) ?_)))));have n8:=ok.2.2.1;have lt: ∀{x},isN N x->x<4294967296:=λhx=>by have:=S.isN_lt hx;omega
 have rf: ∀{hh h1:aI} {Q:KK},aM [] h hh->aM [] hh h1->(∀h2,aM [] h1 h2->Q (ap (lF n op mask (qs n fo N a))) h2)->Cl 133 [bf s,mO (op:Int) a b c (mask:Int)] h1 Q:=λ{hh h1 Q} O O' hQ=>
  tU (ft:=qs n fo N a) g ((S.only0 O).only0 O') I (lt ha) (lt hb) (lt hc) (λq=>Mw ⟨ha,λ_=>hb,λ_=>hc⟩ q) (λ_ {k1 R} O2 hR=>xa (((S.only0 O).only0 O').only0 O2) ha (λl hl=>by have:fo l<n:=(po.2 l hl).1;show fo l<8;omega) hR) λ_ _ _=>hQ
 by_cases hz:lF n op mask (qs n fo N a)=0
 case neg=>
  have rz:=xw (n:=n) (op:=op) (mask:=mask) (ft:=qs n fo N a)
  obtain⟨er,e1,e2⟩: ∃er:Nat,lF n op mask (qs n fo N a)=(er:Int)/\(er=40\/er=60\/er=160):=by
   rcases rz with q|q|q
   ·exact Mw q hz
   ·exact⟨40,q,ah⟩
   ·exact⟨160,q,ah⟩
  refine rJ hz (λ{k1 Q} O=>rf O1 O) λh2 O2=>⟨_,_,rfl,?_⟩;rw[e1,show((er:Int) !=(0:Int))=true by simp;omega,aO];exact hF h2 er e2 (O1.trans O2 ak)
 refine Cd g (S.only0 O1) I rfl (λ{k1 Q} O hQ=>rf O1 O (by rw[hz];exact hQ)) λh2 A f MA2 f2 ef Z b2 a4 a2 b1 b7 a0 b6 G ee O2=>⟨_,_,rfl,?_⟩;rw[show((0:Int) !=(0:Int))=false from rfl,aK];have O02:=O1.trans O2 ak;have H2:=H.only0 O02;obtain⟨es,cl,em,W⟩:=H2.jbm.size;have J:es.size=P.jobs.length:=by simpa using W
 refine iK (dl H2).2.2.1 ⟨es,cl,em,?_⟩;rw[J];refine aR (λe=>hF h2 60 ah O02) λe=> ?_;have b3:P.jobs.length<64:=by have:=Me e;omega
 have rp:=dl H2;refine aH rp.2.2.2.1 ?_;have ew:ax ((P.last:Int)+1)=((P.last+1:Nat):Int):=by rw[wrap_i64 ah ah];omega
 rw[ew];refine aU H2.own (by simp[jg]) rfl λh3 A3 O3 z3=> ?_;have H3:=H2.set_cell (l:=P.last+1) (st:=P.steals) O3 (by simpa[jg]using A3) ah;have B:=dl H3;refine iK B.2.2.1 (aH B.2.2.2.1 ?_);dsimp only at H3 B ⊢;have b8:=O02.size
 have u: ∀x∈A.bl,¬dD p {P with last:=P.last+1} x:=λx hx hp=>by have:=zP x hp;have:=f2 x hx;omega
 have MA3:bG h3 s A:=MA2.only O3 (λx hx hm=>by simp only[LZ]at hx;subst hx;exact u x hm (.inl rfl));have o: ∀j∈P.jobs,j.id≠P.last+1:=λj hj=>by have:=H.ids.2 j hj;omega
 refine fk H3.jbm λh4 M4 O4 z4=> ?_
 have e4:iz (P.jobs.map λj=>((j.id:Int),bf j.A.m)) ((P.last+1:Nat):Int) (bf A.m)=(P.jobs++[(⟨P.last+1,A⟩:Jb)]).map λj=>((j.id:Int),bf j.A.m):=by unfold iz;have e0:(tJ P.jobs).lookup ((P.last+1:Nat):Int)=none:=m9.2 λj hj e=>o j hj ah;unfold tJ at e0;rw[e0];simp
 have M4:bV h4 P.jb .i64 (iz (P.jobs.map λj=>((j.id:Int),bf j.A.m)) ((P.last+1:Nat):Int) (bf A.m)):=M4;rw[e4]at M4;have H4:=H3.add_job O4 M4 MA3 u ah (by show P.last+1<=P.last+1;omega) o;dsimp only at H4;have v:=dl H4;refine bF v.2.1 (aH v.2.2.2.1 (bF v.2.1 ?_));dsimp only;have b0:=Ok.len
 obtain⟨w,hw,a7⟩: ∃w:Nat,w<P.ws.length/\Int.tmod ((P.last+1:Nat):Int) (P.ws.length:Int)=(w:Int):=by have h1:=OZ ((P.last+1:Nat):Int) (b:=(P.ws.length:Int)) ah;have h2:=Int.tmod_nonneg (P.ws.length:Int) (a:=((P.last+1:Nat):Int)) ah;exact⟨(Int.tmod ((P.last+1:Nat):Int) (P.ws.length:Int)).toNat,ah,ah⟩
 obtain⟨k,hk⟩: ∃k,P.ws[w]? =some k:=⟨_,Mj hw⟩;have t:=Mc hk;obtain⟨bb,eb,rb⟩:=zG H4 hk;dsimp only at eb;rw[a7,eb];refine⟨ah,?_⟩;rw[aT];refine⟨ah,ah,?_⟩;simp only[aL,LX,Md,MU];refine aQ rb ?_;rw[aT];simp only[aL,LX];have W4:=H4.wk k t;refine aQ (n:=some (aw k.d)) (by rw[At.rd W4.own];rfl) (aH v.2.2.2.1 ?_);dsimp only;have eu:IntKind.wrap .u64 ((P.last+1:Nat):Int)=((P.last+1:Nat):Int):=bZ ah ah;rw[eu];have b5:=oH Ok H.ids.2 t;obtain⟨n1,n2,n3⟩:=W4.ne
 have F:k.q.length<64:=by
  have h1:=fO (locs P.ws) (P.jobs.map λj=>(j.id:Int)) Ok.one λx hx=>by obtain⟨j,hj,e,-⟩:=Ok.at_ x hx;exact Ms.2 ⟨j,hj,e.symm⟩
  have h2:k.q.length<=(locs P.ws).length:=by
   have p:=(gG Wk.loc P.ws w k {k with q:=[],job:=0} hk).length_eq;have h0:({k with q:=[],job:=0}:Wk).loc=[]:=by unfold Wk.loc;simp
   rw[h0]at p;simp only[Mv,NN]at p;have:k.q.length<=k.loc.length:=by unfold Wk.loc;simp
   unfold locs;omega
  simp only[ND]at h1;omega
 refine Ds W4.dw W4.ds b5.1 λh5 o' f' cs' D5 _ _ W5 O5=>⟨_,_,rfl,?_⟩;have a5:kO h5 ⟨k.w,k.d,k.m,k.mc,cs',o',f',k.T,k.q++[((P.last+1:Nat):Int)],k.job⟩:=⟨W4.own.only O5 (by simp;omega),W5,D5 F,W4.ne⟩;have H5:=H4.set_wk (k':=⟨k.w,k.d,k.m,k.mc,cs',o',f',k.T,k.q++[((P.last+1:Nat):Int)],k.job⟩) hk O5 (λb hb=>by simp[Wk.bl]at hb ⊢;omega) a5 rfl;dsimp only at H5;refine aH (dl H5).2.2.2.1 ?_;dsimp only;obtain⟨a6,ent,fm,fb⟩:=uo n8 g I ha (λ_=>hb) (λ_=>hc) hz Z b2 a4 a2 b1 b7 a0
 have M:gc n fo N A.fs A.told:=by
  rw[ef];refine⟨λy hy=> ?_,λi x y hx hy=> ?_,λfl fr e=> .inl ?_,by rw[b6];exact .inl ah⟩
  ·simp only[LZ]at hy;subst hy;exact a6
  ·simp at hy
  ·cases fl with
   |nil=>simp at e;rw[<-e];exact ent
   |cons y fl=>
    have:=congrArg List.length e;simp at this
 have mst:nN n fo N A:= .inl ⟨G,ee,by rw[ef];simp,M⟩
 have Y:gO n N A.fs<=800000:=by rw[ef];simp only[gO,Mz,N4,Ot,PM];omega
 have b4:iA n N A.fs<=131000:=by rw[ef];simp only[iA,Mz,N4,Ot,PM];omega
 have perm:(locs (P.ws.set w ⟨k.w,k.d,k.m,k.mc,cs',o',f',k.T,k.q++[((P.last+1:Nat):Int)],k.job⟩)).Perm (((P.last+1:Nat):Int)::locs P.ws):=by
  have p:=gG Wk.loc P.ws w k ⟨k.w,k.d,k.m,k.mc,cs',o',f',k.T,k.q++[((P.last+1:Nat):Int)],k.job⟩ hk;have hl:(⟨k.w,k.d,k.m,k.mc,cs',o',f',k.T,k.q++[((P.last+1:Nat):Int)],k.job⟩:Wk).loc=k.loc++[((P.last+1:Nat):Int)]:=by unfold Wk.loc;simp
  rw[hl,Ns]at p;exact(NV _).1 p
 have C:((P.last+1:Nat):Int)∉locs P.ws:=λhm=>by obtain⟨j,hj,e,-⟩:=Ok.at_ _ hm;exact o j hj ah
 have ql:=iJ (λk:Wk=>k.q.length) P.ws w k ⟨k.w,k.d,k.m,k.mc,cs',o',f',k.T,k.q++[((P.last+1:Nat):Int)],k.job⟩ hk;simp only[Mv,MP]at ql;have U:qlen (P.ws.set w ⟨k.w,k.d,k.m,k.mc,cs',o',f',k.T,k.q++[((P.last+1:Nat):Int)],k.job⟩)=qlen P.ws+1:=by unfold qlen;omega
 have V: ∀x,dD p {P with ws:=P.ws.set w ⟨k.w,k.d,k.m,k.mc,cs',o',f',k.T,k.q++[((P.last+1:Nat):Int)],k.job⟩,jobs:=P.jobs++[⟨P.last+1,A⟩],last:=P.last+1} x->dD p P x\/h.size<=x:=λx hx=>by
  rcases hx with e|e|hx|⟨y,hy,hx⟩|⟨y,hy,hx⟩
  ·exact .inl (.inl e)
  ·exact .inl (.inr (.inl e))
  ·exact .inl (.inr (.inr (.inl hx)))
  ·rcases f7 hy with e|⟨z,-,hz⟩
   ·subst e;exact .inl (.inr (.inr (.inr (.inl ⟨k,t,hx⟩))))
   ·exact .inl (.inr (.inr (.inr (.inl ⟨y,Mc hz,hx⟩))))
  ·rcases Zq hy with hy|hy
   ·exact .inl (.inr (.inr (.inr (.inr ⟨y,hy,hx⟩))))
   ·simp only[LZ]at hy;subst hy;exact .inr (by have:=f2 x hx;omega)
 have hO: ∀T,(∀b,dD p P b->b∈T)->aM T h h5:=λT hT=>(((O02.mono (T:=T) ak).trans O3 λx hx _=> ?_).trans O4 λx hx _=> ?_).trans O5 λx hx _=> ?_
 ·refine hT b3 h5 _ A (S.only (hO (EH p P) λx hx=>gd.2 hx) λx hx hm=>D x (gd.1 hx) hm) H5 ⟨λj hj=> ?_,λx hx=> ?_,perm.nodup_iff.2 (MO.2 ⟨C,Ok.one⟩),λj hj hd=> ?_,λy hy=> ?_,by simpa using b0,ah,⟨Ok.steals.1,?_⟩⟩ V (λx hx hm=> ?_) ak G U hO
  ·rcases Zq hj with hj|hj
   ·exact Ok.mst j hj
   ·simp only[LZ]at hj;subst hj;exact⟨mst,Y,b4⟩
  ·rcases List.mem_cons.1 (perm.mem_iff.1 hx)with e|hx
   ·exact⟨⟨P.last+1,A⟩,ak,e,G⟩
   ·obtain⟨j,hj,h⟩:=Ok.at_ x hx;exact⟨j,by simp[hj],h⟩
  ·rcases Zq hj with hj|hj
   ·exact perm.mem_iff.2 (My _ (Ok.loc j hj hd))
   ·simp only[LZ]at hj;subst hj;exact perm.mem_iff.2 Og
  ·have a3: ∀y∈P.ws,y.T+y.q.length<=P.last+1:=λy hy=>by have:=Ok.T y hy;omega
   rcases f7 hy with e|⟨z,-,hz⟩
   ·subst e;have:=Ok.T k t;simp only[Mv,MP];omega
   ·exact a3 y (Mc hz)
  ·have:=Ok.steals;dsimp only;rw[U];omega
  ·rcases V x hx with h|h
   ·exact D x h hm
   ·have:=zL x hm;omega
 ·simp only[LZ]at hx;subst hx;exact hT _ (.inl rfl)
 ·have hx:x∈[P.jb]:=hx;simp only[LZ]at hx;subst hx;exact hT _ (.inr (.inl rfl))
 ·exact hT x (.inr (.inr (.inr (.inl ⟨k,t,by simp[Wk.bl]at hx ⊢;omega⟩))))
def CF(x:Int):Nat:=if x<1 then 1 else if 4<x then 4 else x.toNat
def Gs(x:Int):(if(4:Int)<(if(1:Int)>x then(1:Int)else x)then(4:Int)else(if(1:Int)>x then(1:Int)else x))=(CF x:Int):=by
 unfold CF;by_cases h1:(1:Int)>x
 ·rw[L4 h1,LY ah,L4 ah]
  rfl
 ·rw[LY h1];by_cases h2:(4:Int)<x
  ·rw[L4 h2,LY ah,L4 h2]
   rfl
  ·rw[LY h2,LY ah,LY h2];omega
def BO(x:Int):1<=CF x/\CF x<=4:=by
 unfold CF;split
 ·omega
 ·split<;>omega
def Gt(k:Wk):Prop:=k.q=[]/\k.job=0/\k.T=0
def Jh{h:aI}(hK: ∀h' p P,bO h' p s P->P.ws.length=CF x->P.jobs=[]->(∀k∈P.ws,Gt k)->P.last=0->P.steals=0->(∀b,dD p P b->h.size<=b)->aM [] h h'->K (bf p) h'):
  Cl 34 [bf s,ap x] h K:=by
 refine F34.spec _ _ h K ?_;refine fa (k:= .i64) λh1 M1 O1 z1=>aW λh2 A2 O2 z2=> ?_;rw[Gs];have hw:=BO x;unfold F34.wk3;have O02:=O1.trans O2 ak
 have P0:bO h2 h1.size s ⟨none,0,h.size,[],[],0,0⟩:=by refine⟨A2,cy.nil _ _ _,λk hk=>(by cases hk),M1.only O2 ak,λj hj=>(by cases hj),⟨λ_=>0,rfl,rfl,λ_ _=>rfl,λi k hk=>(by simp at hk),λj hj=>(by cases hj)⟩,⟨(show h1.size≠h.size by omega),by simp[aV],by simp[aV]⟩,by simp,λj hj=>(by cases hj)⟩
 have q: ∀(d i:Nat) (h3:aI) (P:PS),i+d=CF x->bO h3 h1.size s P->P.ws.length=i->P.jobs=[]->(∀k∈P.ws,Gt k)->P.last=0->P.steals=0->(∀b,dD h1.size P b->h.size<=b)->aM [] h h3->
   F34.wL3 (d+1) (aw h1.size) (CF x:Int) (i:Int) h3 K:=by
  intro d
  induction d with
  |zero=>
   intro i h3 P hi H hl hj hf l o hB O;rw[F34.sL3];rw[L7 ah,aK];exact hK h3 _ P H ah hj hf l o hB O
  |succ d ih=>
   intro i h3 P hi H hl hj hf l o hB O;have ew:ax ((i:Int)+1)=((i+1:Nat):Int):=by rw[wrap_i64 ah ah];omega
   rw[F34.sL3];rw[Mg ah,aO,ew];simp only[aL,LX];refine nH (k:=64) ah ah (aH rfl ?_);refine pU λm c h4 M4 O4 g4 F=>aQ rfl ?_;rw[show((64:Int)+2)=((66:Nat):Int)from rfl,jy ah]at M4;refine uV (base:=0) (n:=64) M4 ah ah ak ak λdq h5 Q5 O5 g5=>⟨_,_,rfl,?_⟩;have H5:=(H.only0 O4).only0 O5;have M5:=M4.only O5 ak ak;refine bF (dl H5).2.1 ?_;refine aW λh6 A6 O6 z6=>aW λh7 A7 O7 z7=> ?_;have H7:=(H5.only0 O6).only0 O7;have C:=O4.size;have D:=O5.size;have I:=M4.head.lt;have B:=M4.body.lt;have l5:dq<h5.size:=At.lt Q5;refine gU H7.wks A7 rfl rfl ah (by simp[Value.oneCell']) ah λp' c' h8 W8 O8 g8=> ?_;have np:h1.size∉aV P.wp:=H.ne.2.1;have A8:=H7.own.only O8 np;refine aU A8 (by simp[jg]) rfl λh9 A9 O9 z9=> ?_;have z:=H.lt;have O57:aM [] h5 h7:=O6.trans O7 ak;have O79:aM (h1.size::aV P.wp) h7 h9:=(O8.mono λb hb _=>My _ hb).trans O9 λb hb _=>by simp only[LZ]at hb;exact List.mem_cons.2 (.inl hb)
   have O09:aM [] h h9:=(((O.trans O4 ak).trans O5 ak).trans O57 ak).trans O79 λb hb hl=>by
    rcases List.mem_cons.1 hb with e|hb
    ·have:=hB b (.inl e);omega
    ·have:=hB b (.inr (.inr (.inl hb)));omega
   have old: ∀b,dD h1.size P b->b<h3.size:=z
   have nS: ∀b,h3.size<=b->b∉h1.size::aV P.wp:=λb hb hm=>by
    rcases List.mem_cons.1 hm with e|hm
    ·have:=old b (.inl e);omega
    ·have:=old b (.inr (.inr (.inl hm)));omega
   obtain⟨k,ek⟩: ∃k:Wk,k=⟨h5.size,dq,m,c,List.replicate 66 0,0,0,0,[],0⟩:=⟨_,rfl⟩
   have a: ∀b∈k.bl,h3.size<=b:=λb hb=>by rw[ek]at hb;simp[Wk.bl]at hb;omega
   have Wk9:kO h9 k:=by
    have W7:kO h7 k:=by rw[ek];have:=M4.ne;refine⟨A6.only O7 ak,⟨(Q5.only O57 ak),M5.only O57 ak ak,by show dq≠m;omega,by show dq≠c;omega,by omega,by omega,by omega,by simp⟩,⟨by simp[List.getD],by simp[List.getD],ak,λi hi=>by simp at hi⟩,⟨by show h5.size≠dq;omega,by show h5.size≠m;omega,by show h5.size≠c;omega⟩⟩
    exact W7.only O79 λb hb hm=>nS b (a b hm) hb
   have kw:k.w=h5.size:=by rw[ek]
   refine ih (i+1) h9 {P with wp:=p',wc:=c',ws:=P.ws++[k]} ah ?_ (by simp[hl]) hj (λy hy=> ?_) l o (λb hb=> ?_) O09
   ·obtain⟨τ,t⟩:=H.sep;have g: ∀b∈aV p',b∈aV P.wp\/h7.size<=b:=g8
    have u: ∀b∈k.bl,b<h7.size:=λb hb=>by rw[ek]at hb;simp[Wk.bl]at hb;omega
    refine⟨?_,?_,λy hy=> ?_,((H7.jbm.only O8 H.ne.2.2).only O9 (by simp;exact λe=>H.ne.1 e.symm)),λj f=>(by rw[hj]at f;cases f),⟨λb=>if b∈k.bl then 2*i+1 else if h7.size<=b then 0 else τ b,?_,?_,λb hb=> ?_,λx y hy b hb=> ?_,λj f=>(by rw[hj]at f;cases f)⟩,⟨H.ne.1,λhm=> ?_,λhm=> ?_⟩,by rw[hj];simp,λj f=>(by rw[hj]at f;cases f)⟩
    ·have e:(jg s P).set 1 (.slice p' (P.ws.length+1) c')=jg s {P with wp:=p',wc:=c',ws:=P.ws++[k]}:=by simp[jg]
     rw[<-e];exact A9
    ·show cy h9 0 1 p' (P.ws++[k]).length c' ((P.ws++[k]).map λk=>bf k.w)
     have:=W8.only O9 (λb e hm=>by
      simp only[LZ]at hm;have hb:b∈aV p':=by rw[e];simp[aV]
      rcases g b hb with h|h
      ·rw[hm]at h;exact np h
      ·have:=old h1.size (.inl rfl);omega)
     simpa[bf,kw]using this
    ·rcases Zq hy with hy|hy
     ·refine(H7.wk y hy).only O79 λb hb hm=> ?_;obtain⟨x,hx⟩:=MC.1 hy;have t1:=t.ws x y hx b hm;rcases List.mem_cons.1 hb with e|hb
      ·subst e;have:=t.p;omega
      ·have:=t.wp b hb;omega
     ·simp only[LZ]at hy;subst hy;exact Wk9
    ·show(if h1.size∈k.bl then _ else if h7.size<=h1.size then 0 else τ h1.size)=0;have:=old h1.size (.inl rfl);rw[LY λhm=>by have:=a _ hm;omega];split
     ·rfl
     ·exact t.p
    ·show(if P.jb∈k.bl then _ else if h7.size<=P.jb then 0 else τ P.jb)=0;have:=old P.jb (.inr (.inl rfl));rw[LY λhm=>by have:=a _ hm;omega];split
     ·rfl
     ·exact t.jb
    ·show(if b∈k.bl then _ else if h7.size<=b then 0 else τ b)=0;rcases g b hb with h|h
     ·have:=old b (.inr (.inr (.inl h)));rw[LY λhm=>by have:=a _ hm;omega];split
      ·rfl
      ·exact t.wp b h
     ·rw[LY λhm=>by have:=u _ hm;omega,L4 h]
    ·show(if b∈k.bl then _ else if h7.size<=b then 0 else τ b)=_;have hy:(P.ws++[k])[x]? =some y:=hy;by_cases hx:x<P.ws.length
     ·rw[Mo hx]at hy;have G:=old b (.inr (.inr (.inr (.inl ⟨y,Mc hy,hb⟩))));rw[LY λhm=>by have:=a _ hm;omega,LY ah];exact t.ws x y hy b hb
     ·rw[MK ah]at hy
      have v:x-P.ws.length=0:=by have:=(Ml.1 hy).1;simp at this;omega
      rw[v]at hy;simp at hy;subst hy;rw[L4 hb];omega
    ·rcases g _ hm with h|h
     ·exact H.ne.2.1 h
     ·have:=old h1.size (.inl rfl);omega
    ·rcases g _ hm with h|h
     ·exact H.ne.2.2 h
     ·have h:h7.size<=P.jb:=h;have:=old P.jb (.inr (.inl rfl));omega
   ·rcases Zq hy with hy|hy
    ·exact hf y hy
    ·simp only[LZ]at hy;subst hy;rw[ek];exact⟨rfl,rfl,rfl⟩
   ·have A:=O.size;rcases hb with e|e|hb|⟨y,hy,hb⟩|⟨y,hy,hb⟩
    ·exact hB b (.inl e)
    ·exact hB b (.inr (.inl e))
    ·rcases g8 b hb with h|h
     ·exact hB b (.inr (.inr (.inl h)))
     ·omega
    ·rcases Zq hy with hy|hy
     ·exact hB b (.inr (.inr (.inr (.inl ⟨y,hy,hb⟩))))
     ·simp only[LZ]at hy;subst hy;have:=a b hb;omega
    ·have hy:y∈P.jobs:=hy;rw[hj]at hy;cases hy
 refine⟨_,q (CF x) 0 h2 _ ah P0 rfl rfl (λk hk=>by cases hk) rfl rfl (λb hb=> ?_) O02⟩;rcases hb with e|e|hb|⟨y,hy,hb⟩|⟨y,hy,hb⟩
 ·omega
 ·have e:b=h.size:=e;omega
 ·simp[aV]at hb
 ·cases hy
 ·cases hy
def vQ{P:PS}(hl:1<=P.ws.length/\P.ws.length<=4)(hj:P.jobs=[])(hf: ∀k∈P.ws,Gt k)(h1:P.last=0)(h2:P.steals=0):cd n fo N P/\locs P.ws=[]/\qlen P.ws=0:=by
 have e1:locs P.ws=[]:=by
  unfold locs;rw[List.flatMap_eq_nil_iff];intro k hk;obtain⟨a,b,-⟩:=hf k hk;unfold Wk.loc;rw[L4 b,a]
  rfl
 have e2:qlen P.ws=0:=by
  unfold qlen;have:P.ws.map (λk=>k.q.length)=P.ws.map λ_=>0:=Nb λk hk=>by rw[(hf k hk).1];rfl
  rw[this];generalize P.ws=l
  induction l with
  |nil=>rfl
  |cons a l ih=>simpa using ih
 refine⟨⟨λj d=>(by rw[hj]at d;cases d),λx hx=>(by rw[e1]at hx;cases hx),by rw[e1];simp,λj d=>(by rw[hj]at d;cases d),λk hk=> ?_,hl,ah,ah,ah⟩,e1,e2⟩;obtain⟨a,-,c⟩:=hf k hk;rw[a,c];simp
def F6.T:bh:=⟨[(9,[1,6,8,9,10]),(14,[1,6,8,9]),(19,[1,6,8,9,13,14]),(25,[1,6,8,9,13,14]),(28,[6,8,9,13])],[]⟩
section
variable (bk19:Int->(az)->Nat->Nat->(az)->Int->Int->Int->aI->Prop)(n:Nat)(o j:Int)(b:az)(a c:Nat)(g:az)(d l i f:Int)(h:aI)(K:KK)
def F6.wL19:Prop:=Lp Tryz.f6 F6.T [1,1,1,1,1,1,1,1,1,1,0,1,0] n [(1,(.int .u8 j)),(6,(.slice b a c)),(8,(aA g)),(9,(ap d)),(13,(ap i)),(14,(ap f))] h K
def F6.wL9:Prop:=Lp Tryz.f6 F6.T [1,1,1,1,1,1,0,1,0] n [(1,(.int .u8 j)),(6,(.slice b a c)),(8,(aA g)),(9,(ap d)),(10,(ap l))] h K
def F6.wk25:Prop:=Cl 38 [aA g,ap f] h λe k=> ∃l:Int,∃m:Int,e=(.tuple #[aq l,ap m])/\aJ (m !=61) (K aB k) (Cl 39 [aA g,ap f] k λe k=>bQ (some e) λe=>aJ e (K aB k) (bk19 j b a c g d i (ax (f+1)) k))
def F6.wk28(b:az)(a c:Nat)(g:az)(d i:Int)(h:aI)(K:KK):Prop:=aX b λb=>0<=(0:Int)/\(0:Int)<(a:Int)/\aS .u32 (rd h (b.add ((0:Int).toNat*1))) λa=>Cl 35 [aA g,.agg #[ap 1,aq a,aq 0,aq 0,.int .u8 0]] h λa b=> ∃c:Int,∃e:Int,a=(.tuple #[ap c,ap e])/\aJ ((e==0)==(decide ((ax (d-i))<64))) (aJ (e !=0) (K aC b) (K (aD (c==(ax (d+1)))) b)) (K aB b)
def F6.sL19:F6.wL19 (n+1) j b a c g d i f h K=(((70:Int)≠0/\aJ (f<=(ax (Int.tmod j 70))) (Cl 36 [aA g,ap f] h λe k=>bQ (some e) λe=>aJ (!(e==(decide (f<=d)))) (K aB k) (aJ (f<=d) (F6.wk25 (λa b c d e f g i j=>F6.wL19 n a b c d e f g i j K) j b a c g d (ax (i+1)) f k K) (F6.wk25 (λa b c d e f g i j=>F6.wL19 n a b c d e f g i j K) j b a c g d i f k K))) (F6.wk28 b a c g d i h K))):=by kernel_rfl
def F6.wk19:Prop:=(∃e,F6.wL19 e j b a c g d i f h K)
def F6.wk14:Prop:=aJ ((if 64<d then 64 else d)>0) (Cl 36 [aA g,ap 1] h λe f=>bQ (some e) λe=>aJ e (K aB f) (Cl 37 [aA g,ap (if(if 64<d then 64 else d)>1 then(if 64<d then 64 else d)else 1),.int .u8 1] f λe f=>bQ (some e) λe=>aJ (!e) (K aB f) (F6.wk19 j b a c g (if 64<d then 64 else d) 0 1 f K))) (Cl 37 [aA g,ap (if(if 64<d then 64 else d)>1 then(if 64<d then 64 else d)else 1),.int .u8 1] h λe f=>bQ (some e) λe=>aJ (!e) (K aB f) (F6.wk19 j b a c g (if 64<d then 64 else d) 0 1 f K))
def F6.sL9:F6.wL9 (n+1) j b a c g d l h K=(aJ (l<=d) (aX b λe=>0<=(0:Int)/\(0:Int)<(a:Int)/\aS .u32 (rd h (e.add ((0:Int).toNat*1))) λe=>Cl 35 [aA g,.agg #[ap 1,aq e,aq 0,aq 0,.int .u8 0]] h λe f=> ∃i:Int,∃k:Int,e=(.tuple #[ap i,ap k])/\aJ (!((k==0)==(decide (l<=64)))) (K aB f) (aJ (k !=0) (aJ (k !=60) (K aB f) (aJ (i !=0) (K aB f) (aJ (k==0) (aJ (i !=l) (K aB f) (F6.wL9 n j b a c g d (ax (l+1)) f K)) (F6.wL9 n j b a c g d (ax (l+1)) f K)))) (aJ (k==0) (aJ (i !=l) (K aB f) (F6.wL9 n j b a c g d (ax (l+1)) f K)) (F6.wL9 n j b a c g d (ax (l+1)) f K)))) (F6.wk14 j b a c g d h K)):=by kernel_rfl
def F6.wk9:Prop:=(∃e,F6.wL9 e j b a c g d l h K)
def F6.spec(H:Cl 31 [] h λa b=>bQ (some a) λa=>aJ (!a) (K aB b) (Cl 33 [ap 1] b λa b=> ∃c:Int,∃d:Int,∃e:Int,∃f:Int,a=(.agg #[ar c,ar d,ar e,ar f])/\bg b (.cells #[ar c,ar d,ar e,ar f] 51) λa b=>Cl 32 [ap 3,ap 200,.slice (some (aw a)) 1 1] b λa b=> ∃c:az,∃d:az,∃e:Nat,∃f:Nat,∃g:Bool,a=(.tuple #[aA c,.slice d e f,aD g])/\aJ (!g) (K aB b) (Cl 34 [aA c,ap 2] b λa b=>aZ (some a) λa=>(80:Int)≠0/\F6.wk9 j d e f a (ax (Int.tmod o 80)) 1 b K))):Cl 6 [.int .u8 o,.int .u8 j] h K:=cT F6.T Tryz.func6 H
end
structure yo(h:aI)(p s n room:Nat)(fo gg:Nat->Nat)(off:Bool)(N:ay)(P:PS)(L:List Nat):Prop where
 S:bT h s L (XL n room fo gg N off)
 H:bO h p s P
 Ok:cd n fo N P
 po:cu n fo gg
 D: ∀b,dD p P b->b∉L
structure BV(p:Nat)(P:PS)(L:List Nat)(h:aI)(P':PS)(L':List Nat)(h':aI):Prop where
 O: ∀T,(∀b,dD p P b->b∈T)->(∀b∈L,b∈T)->aM T h h'
 F:bC L L' h
 B: ∀b,dD p P' b->dD p P b\/h.size<=b
def yo.only0(W:yo h p s n room fo gg off N P L)(O:aM [] h h'):yo h' p s n room fo gg off N P L:=⟨W.S.only0 O,W.H.only0 O,W.Ok,W.po,W.D⟩
def AT{P:PS}(W:yo h p s n room fo gg off N P L)
  (a:who<0\/(P.ws.length:Int)<=who->K aB h)
  (hK: ∀h' L' N' P' b (w:Nat) (k:Wk),who=(w:Int)->P.ws[w]? =some k->yo h' p s n room fo gg off N' P' L'->tc n fo N N' P P'->(b=true->locs P.ws≠[])->(fH n N' P'+1<=fH n N P\/(k.job=0/\k.q=[]/\fE P.ws P'.ws))->BV p P L h P' L' h'->K (aD b) h'):
  Cl 81 [bf p,ap who,ap draw] h K:=
 GK W.S W.H W.Ok W.po W.D a λh' L' N' P' b w k e1 e2 S' H' D' Pk e3 e4 O' F' B'=>hK h' L' N' P' b w k e1 e2 ⟨S',H',Pk.ok,W.po,D'⟩ Pk e3 e4 ⟨O',F',B'⟩
structure lY where
 kind:Int
 op:Int
 dst:Int
 a:Int
 b:Int
 c:Int
 mask:Nat
structure gi where
 there:Nat->Bool
 hnd:Nat->Nat
 cal:lY
 pend:Bool
 job:Nat
 err:Int
 num:Nat
 ansd:Bool
structure gQ where
 s:Nat
 p:Nat
 r:Nat
 ses:Nat->gi
 ans:Nat
def iZ{α:Type}(f:Nat->α)(i:Nat)(x:α):Nat->α:=λk=>if k=i then x else f k
theorem dt:iZ f i x i=x:=L4 rfl
theorem cK(h:k≠i):iZ f i x k=f k:=LY h
def gQ.put(E:gQ)(i:Nat)(x:gi):gQ:={E with ses:=iZ E.ses i x}
def cC(c:lY):Nat->Value
 |0=>ap c.kind
 |1=>ap c.op
 |2=>ap c.dst
 |3=>ap c.a
 |4=>ap c.b
 |5=>ap c.c
 |_=> .int .u8 (c.mask:Int)
def sC(x:gi)(j:Nat):Value:=
 if j<12 then(if j%2=0 then aD (x.there (j/2))else aq (x.hnd (j/2):Int))else
 if j<19 then cC x.cal (j-12)else
 if j=19 then aD x.pend else if j=20 then ap (x.job:Int)else if j=21 then ap x.err else
 if j=22 then ar (x.num:Int)else aD x.ansd
def eC(E:gQ)(k:Nat):Value:=
 if k=0 then bf E.s else if k=1 then bf E.p else if k=2 then bf E.r else if k=99 then ap (E.ans:Int)else
 sC (E.ses ((k-3)/24)) ((k-3)%24)
def dI(h:aI)(e:Nat)(E:gQ):Prop:=At h e (dQ 100 (eC E))
theorem FZ(j:Nat):(cC c j).oneCell'=true:=by unfold cC;split<;>rfl
theorem FU(j:Nat):(sC x j).oneCell'=true:=by
 unfold sC;split
 ·split<;>rfl
 ·split
  ·exact FZ _
  ·repeat' split
   all_goals rfl
theorem dI.rd{h:aI}{e k:Nat}{E:gQ}(H:dI h e E)(hk:k<100):Ev.rd h ⟨e,k,none⟩=some (eC E k):=by rw[At.rd H,dR hk]
theorem vh{E:gQ}(hi:i<4)(hj:j<24):eC E (3+24*i+j)=sC (E.ses i) j:=by unfold eC;rw[LY ah,LY ah,LY ah,LY ah,show(3+24*i+j-3)/24=i by omega,show(3+24*i+j-3)%24=j by omega]
theorem dI.rdS{E:gQ}(H:dI h e E)(hi:i<4)(hj:j<24)(hk:k=3+24*i+j):Ev.rd h ⟨e,k,none⟩=some (sC (E.ses i) j):=by subst hk;rw[H.rd ah,vh hi hj]
theorem tw{x:gi}(hr:r<6):sC x (2*r)=aD (x.there r):=by unfold sC;rw[L4 ah,L4 ah,show 2*r/2=r by omega]
theorem Al{x:gi}(hr:r<6):sC x (2*r+1)=aq (x.hnd r:Int):=by unfold sC;rw[L4 ah,LY ah,show(2*r+1)/2=r by omega]
theorem Gx{E:gQ}(h:q<100):eC (E.put i x) q=if 3<=q/\q<99/\(q-3)/24=i then sC x ((q-3)%24)else eC E q:=by
 unfold eC gQ.put;by_cases h0:q=0
 ·rw[L4 h0,L4 h0,LY ah]
 by_cases h1:q=1
 ·rw[LY h0,LY h0,L4 h1,L4 h1,LY ah]
 by_cases h2:q=2
 ·rw[LY h0,LY h0,LY h1,LY h1,L4 h2,L4 h2,LY ah]
 by_cases h3:q=99
 ·rw[LY h0,LY h0,LY h1,LY h1,LY h2,LY h2,L4 h3,L4 h3,LY ah]
 rw[LY h0,LY h0,LY h1,LY h1,LY h2,LY h2,LY h3,LY h3];by_cases hq:(q-3)/24=i
 ·rw[L4 ah];show sC (iZ E.ses i x ((q-3)/24)) _=_;rw[hq,dt]
 ·rw[LY ah];show sC (iZ E.ses i x ((q-3)/24)) _=_;rw[cK hq]
theorem dI.setS{h:aI}{E:gQ}{v:Value}(H:dI h e E)(hi:i<4)(hj:j<24)(hk:k=3+24*i+j)(hv:v.oneCell'=true)
  (hx: ∀q,q<24->sC x q=if q=j then v else sC (E.ses i) q) (hK: ∀h',dI h' e (E.put i x)->aM [e] h h'->h'.size=h.size->K h'):aY h ⟨e,k,none⟩ v K:=by
 subst hk;refine aU H (by rw[cj];omega) hv λh' A O z=>hK h' ?_ O z;unfold dI;rw[jE]at A;rw[gC (g':=λq=>if q=3+24*i+j then v else eC E q) λq hq=> ?_]
 ·exact A
 ·rw[Gx hq];by_cases hc:3<=q/\q<99/\(q-3)/24=i
  ·rw[L4 hc,hx _ ah];by_cases hh:(q-3)%24=j
   ·rw[L4 hh,L4 ah]
   ·rw[LY hh,LY ah,<-vh (E:=E) hi ah]
    congr 1
    omega
  ·rw[LY hc,LY ah]
theorem dI.setA{h:aI}{e n:Nat}{E:gQ}{K:aI->Prop}(H:dI h e E)(hK: ∀h',dI h' e {E with ans:=n}->aM [e] h h'->h'.size=h.size->K h'):aY h ⟨e,99,none⟩ (ap (n:Int)) K:=by
 refine aU H (by rw[cj];omega) rfl λh' A O z=>hK h' ?_ O z;unfold dI;rw[jE]at A;rw[gC (g':=λq=>if q=99 then ap (n:Int)else eC E q) λq hq=> ?_]
 ·exact A
 ·unfold eC;by_cases h3:q=99
  ·rw[L4 h3];subst h3;rfl
  ·rw[LY h3,LY h3,LY h3]
theorem dI.only{h h':aI}{e:Nat}{E:gQ}{S:List Nat}(H:dI h e E)(O:aM S h h')(he:e∉S):dI h' e E:=At.only H O he
theorem dI.only0{h h':aI}{e:Nat}{E:gQ}(H:dI h e E)(O:aM [] h h'):dI h' e E:=H.only O ak
theorem xv: ∀q,q<24->sC {x with pend:=b} q=if q=19 then aD b else sC x q:=λq hq=>by
 unfold sC;by_cases h:q=19
 ·subst h;rfl
 ·rw[LY h,LY h,LY h]
theorem Cp{x:gi}{n:Nat}: ∀q,q<24->sC {x with job:=n} q=if q=20 then ap (n:Int)else sC x q:=λq hq=>by
 unfold sC;by_cases h:q=20
 ·subst h;rfl
 ·rw[LY h,LY h,LY h]
theorem Hz: ∀q,q<24->sC {x with err:=n} q=if q=21 then ap n else sC x q:=λq hq=>by
 unfold sC;by_cases h:q=21
 ·subst h;rfl
 ·rw[LY h,LY h,LY h]
theorem Hu{x:gi}{n:Nat}: ∀q,q<24->sC {x with num:=n} q=if q=22 then ar (n:Int)else sC x q:=λq hq=>by
 unfold sC;by_cases h:q=22
 ·subst h;rfl
 ·rw[LY h,LY h,LY h]
theorem EE: ∀q,q<24->sC {x with ansd:=b} q=if q=23 then aD b else sC x q:=λq hq=>by
 unfold sC;by_cases h:q=23
 ·subst h;rfl
 ·rw[LY h]
  repeat' split
  all_goals first|rfl|omega
theorem GG{x:gi}(hj:j<7)(hc: ∀q,q<7->cC c q=if q=j then v else cC x.cal q): ∀q,q<24->sC {x with cal:=c} q=if q=12+j then v else sC x q:=λq hq=>by
 unfold sC;by_cases h:q<12
 ·rw[L4 h,L4 h,LY (show ¬q=12+j by omega)]
 ·rw[LY h,LY h];by_cases h2:q<19
  ·rw[L4 h2,L4 h2,hc _ ah];by_cases h3:q-12=j
   ·rw[L4 h3,L4 (show q=12+j by omega)]
   ·rw[LY h3,LY (show ¬q=12+j by omega)]
  ·rw[LY h2,LY h2,LY (show ¬q=12+j by omega)]
theorem xh{x:gi}(hr:r<6): ∀q,q<24->sC {x with there:=iZ x.there r b} q=if q=2*r then aD b else sC x q:=λq hq=>by
 by_cases h:q=2*r
 ·subst h;rw[tw hr,L4 rfl];show aD (iZ _ _ _ _)=_;rw[dt]
 ·rw[LY h];unfold sC;by_cases h1:q<12
  ·rw[L4 h1,L4 h1];by_cases h2:q%2=0
   ·rw[L4 h2,L4 h2];show aD (iZ _ _ _ _)=_;rw[cK ah]
   ·rw[LY h2,LY h2]
  ·rw[LY h1,LY h1]
theorem xJ{x:gi}(hr:r<6): ∀q,q<24->sC {x with hnd:=iZ x.hnd r n} q=if q=2*r+1 then aq (n:Int)else sC x q:=λq hq=>by
 by_cases h:q=2*r+1
 ·subst h;rw[Al hr,L4 rfl];show aq ((iZ _ _ _ _:Nat):Int)=_;rw[dt]
 ·rw[LY h];unfold sC;by_cases h1:q<12
  ·rw[L4 h1,L4 h1];by_cases h2:q%2=0
   ·rw[L4 h2,L4 h2]
   ·rw[LY h2,LY h2];show aq ((iZ _ _ _ _:Nat):Int)=_;rw[cK ah]
  ·rw[LY h1,LY h1]
theorem nX:iZ (iZ f i x) i y=iZ f i y:=by
 funext k;by_cases h:k=i
 ·rw[h,dt,dt]
 ·rw[cK h,cK h,cK h]
theorem eO{E:gQ}:(E.put i x).put i y=E.put i y:=by unfold gQ.put;rw[nX]
theorem cW{E:gQ}:(E.put i x).ses i=x:=dt
theorem oM{E:gQ}:E.put i (E.ses i)=E:=by
 unfold gQ.put
 have:iZ E.ses i (E.ses i)=E.ses:=by
  funext k;unfold iZ;by_cases h:k=i
  ·rw[L4 h,h]
  ·rw[LY h]
 rw[this]
section
variable {h:aI}{e i k:Nat}{E:gQ}(H:dI h e E)(hi:i<4)
include H hi
theorem dI.kind(hk:k=3+24*i+12):Ev.rd h ⟨e,k,none⟩=some (ap (E.ses i).cal.kind):=H.rdS hi (j:=12) ah hk
theorem dI.op(hk:k=3+24*i+13):Ev.rd h ⟨e,k,none⟩=some (ap (E.ses i).cal.op):=H.rdS hi (j:=13) ah hk
theorem dI.dst(hk:k=3+24*i+14):Ev.rd h ⟨e,k,none⟩=some (ap (E.ses i).cal.dst):=H.rdS hi (j:=14) ah hk
theorem dI.ca(hk:k=3+24*i+15):Ev.rd h ⟨e,k,none⟩=some (ap (E.ses i).cal.a):=H.rdS hi (j:=15) ah hk
theorem dI.cb(hk:k=3+24*i+16):Ev.rd h ⟨e,k,none⟩=some (ap (E.ses i).cal.b):=H.rdS hi (j:=16) ah hk
theorem dI.cc(hk:k=3+24*i+17):Ev.rd h ⟨e,k,none⟩=some (ap (E.ses i).cal.c):=H.rdS hi (j:=17) ah hk
theorem dI.mask(hk:k=3+24*i+18):Ev.rd h ⟨e,k,none⟩=some (.int .u8 ((E.ses i).cal.mask:Int)):=H.rdS hi (j:=18) ah hk
theorem dI.pend(hk:k=3+24*i+19):Ev.rd h ⟨e,k,none⟩=some (aD (E.ses i).pend):=H.rdS hi (j:=19) ah hk
theorem dI.job(hk:k=3+24*i+20):Ev.rd h ⟨e,k,none⟩=some (ap ((E.ses i).job:Int)):=H.rdS hi (j:=20) ah hk
theorem dI.err(hk:k=3+24*i+21):Ev.rd h ⟨e,k,none⟩=some (ap (E.ses i).err):=H.rdS hi (j:=21) ah hk
theorem dI.num(hk:k=3+24*i+22):Ev.rd h ⟨e,k,none⟩=some (ar ((E.ses i).num:Int)):=H.rdS hi (j:=22) ah hk
theorem dI.ansd(hk:k=3+24*i+23):Ev.rd h ⟨e,k,none⟩=some (aD (E.ses i).ansd):=H.rdS hi (j:=23) ah hk
theorem dI.thr{r:Nat}(hr:r<6)(hk:k=3+24*i+2*r):Ev.rd h ⟨e,k,none⟩=some (aD ((E.ses i).there r)):=by rw[H.rdS hi (j:=2*r) ah hk,tw hr]
theorem dI.hnd{r:Nat}(hr:r<6)(hk:k=3+24*i+(2*r+1)):Ev.rd h ⟨e,k,none⟩=some (aq ((E.ses i).hnd r:Int)):=by rw[H.rdS hi (j:=2*r+1) ah hk,Al hr]
end
theorem dI.s{h:aI}{e:Nat}{E:gQ}(H:dI h e E):Ev.rd h (aw e)=some (bf E.s):=H.rd ah
theorem dI.p{h:aI}{e:Nat}{E:gQ}(H:dI h e E):Ev.rd h ⟨e,1,none⟩=some (bf E.p):=H.rd ah
theorem dI.r{h:aI}{e:Nat}{E:gQ}(H:dI h e E):Ev.rd h ⟨e,2,none⟩=some (bf E.r):=H.rd ah
theorem dI.ans{h:aI}{e:Nat}{E:gQ}(H:dI h e E):Ev.rd h ⟨e,99,none⟩=some (ap (E.ans:Int)):=H.rd ah
section
variable {i j k l m n o p q r s t:Int}{a b c d:Addr}{u v:Nat}{x y:az}{h:aI}{K:KK}
def F18.spec(H:Cl 61 [ap i,ap j] h λa b=> ∃c:az,∃d:Int,a=(.tuple #[aA c,ap d])/\aJ (d !=0) (K (.tuple #[aA none,ap d]) b) (Cl 34 [aA c,ap k] b λa b=>aZ (some a) λa=>Cl 68 [aA a] b λb d=>aS .i64 (some b) λb=>Cl 67 [ap b] d λb d=>aZ (some b) λb=>bg d (.cells #[aA c,aA a,aA b,aB,aq 0,aB,aq 0,aB,aq 0,aB,aq 0,aB,aq 0,aB,aq 0,ap 0,ap 0,ap 0,ap 0,ap 0,ap 0,.int .u8 0,aB,ap 0,ap 0,ar 0,aB,aB,aq 0,aB,aq 0,aB,aq 0,aB,aq 0,aB,aq 0,aB,aq 0,ap 0,ap 0,ap 0,ap 0,ap 0,ap 0,.int .u8 0,aB,ap 0,ap 0,ar 0,aB,aB,aq 0,aB,aq 0,aB,aq 0,aB,aq 0,aB,aq 0,aB,aq 0,ap 0,ap 0,ap 0,ap 0,ap 0,ap 0,.int .u8 0,aB,ap 0,ap 0,ar 0,aB,aB,aq 0,aB,aq 0,aB,aq 0,aB,aq 0,aB,aq 0,aB,aq 0,ap 0,ap 0,ap 0,ap 0,ap 0,ap 0,.int .u8 0,aB,ap 0,ap 0,ar 0,aB,ap 0] 132) λa b=>K (.tuple #[au (aw a),ap 0]) b)):Cl 18 [ap i,ap j,ap k] h K:=cN Tryz.func18 H
def F23.spec{a:Addr}(H:aZ (rd h (a.add 0)) λa=>K (aA a) h):Cl 23 [au a] h K:=cN Tryz.func23 H
def F24.spec{k:Int}(H:bg h (.cells #[ap j,ap k,ap l,ap m,ap n,ap o,.int .u8 p] 41) λb c=>Cl 76 [au a,ap i] c λc d=>aZ (some c) λc=>aJ (Option.isNone c) (K (ap 222) d) (aX c λe=>bQ (rd d (e.add 19)) λe=>aJ e (K (ap 220) d) (aS .i64 (rd d ((aw b).add 0)) λe=>aS .i64 (rd d ((aw b).add 1)) λf=>aS .i64 (rd d ((aw b).add 2)) λg=>aS .i64 (rd d ((aw b).add 3)) λi=>aS .i64 (rd d ((aw b).add 4)) λj=>aS .i64 (rd d ((aw b).add 5)) λk=>aS .u8 (rd d ((aw b).add 6)) λl=>Cl 77 [au a,aA c,.agg #[ap e,ap f,ap g,ap i,ap j,ap k,.int .u8 l]] d λa d=>aS .i64 (some a) λa=>aJ (a !=0) (K (ap a) d) (aS .i64 (rd d ((aw b).add 0)) λa=>aS .i64 (rd d ((aw b).add 1)) λe=>aS .i64 (rd d ((aw b).add 2)) λf=>aS .i64 (rd d ((aw b).add 3)) λg=>aS .i64 (rd d ((aw b).add 4)) λi=>aS .i64 (rd d ((aw b).add 5)) λj=>aS .u8 (rd d ((aw b).add 6)) λb=>aX c λk=>aY d ((k.add 12).add 0) (ap a) λa=>aY a ((k.add 12).add 1) (ap e) λa=>aY a ((k.add 12).add 2) (ap f) λa=>aY a ((k.add 12).add 3) (ap g) λa=>aY a ((k.add 12).add 4) (ap i) λa=>aY a ((k.add 12).add 5) (ap j) λa=>aY a ((k.add 12).add 6) (.int .u8 b) λa=>aX c λb=>aY a ((b.add 19).add 0) aC λa=>aX c λb=>aY a ((b.add 20).add 0) (ap 0) λa=>K (ap 0) a)))):Cl 24 [au a,ap i,.agg #[ap j,ap k,ap l,ap m,ap n,ap o,.int .u8 p]] h K:=cN Tryz.func24 H
def F26.T:bh:=⟨[(4,[0,1,2,23]),(11,[0,1,2])],[]⟩
section
variable (n:Nat)(b:Addr)(c d a:Int)(h:aI)(K:KK)
def F26.wL4:Prop:=Lp Tryz.f26 F26.T [1,1,0,1,0] n [(0,(au b)),(1,(ap c)),(2,(ap d)),(23,(ap a))] h K
def F26.wk11:Prop:=Cl 80 [au b] h λa e=>a=aE/\aZ (rd e (b.add 1)) λa=>Cl 81 [aA a,ap c,ap d] e λa b=>bQ (some a) λ_=>K aC b
def F26.sL4:F26.wL4 (n+1) b c d a h K=(aJ (a<4) ((0<=a/\a<4/\bQ (rd h (((b.add 3).add (a.toNat*24)).add 19)) λe=>aJ e (aS .i64 (rd h ((((b.add 3).add (a.toNat*24)).add 12).add 0)) λe=>aS .i64 (rd h ((((b.add 3).add (a.toNat*24)).add 12).add 1)) λf=>aS .i64 (rd h ((((b.add 3).add (a.toNat*24)).add 12).add 2)) λg=>aS .i64 (rd h ((((b.add 3).add (a.toNat*24)).add 12).add 3)) λi=>aS .i64 (rd h ((((b.add 3).add (a.toNat*24)).add 12).add 4)) λj=>aS .i64 (rd h ((((b.add 3).add (a.toNat*24)).add 12).add 5)) λk=>aS .u8 (rd h ((((b.add 3).add (a.toNat*24)).add 12).add 6)) λl=>Cl 79 [au b,.agg #[ap e,ap f,ap g,ap i,ap j,ap k,.int .u8 l]] h λe f=>jX (some e) λe=>dS Tryz.prog X e [au ((b.add 3).add (a.toNat*24))] f λe f=>bQ (some e) λ_=>F26.wL4 n b c d (ax (a+1)) f K) (F26.wL4 n b c d (ax (a+1)) h K))) (F26.wk11 b c d h K)):=by kernel_rfl
def F26.wk4:Prop:=(∃e,F26.wL4 e b c d a h K)
def F26.spec(H:aJ (c<0) (K aB h) (Cl 27 [au b] h λa e=>aS .i64 (some a) λa=>aJ (c>=a) (K aB e) (Cl 78 [au b] e λa e=>bQ (some a) λa=>aJ (!a) (K aB e) (F26.wk4 b c d 0 e K)))):Cl 26 [au b,ap c,ap d] h K:=cT F26.T Tryz.func26 H
end
def F27.spec{a:Addr}(H:aZ (rd h (a.add 1)) λa=>Cl 68 [aA a] h λa b=>aS .i64 (some a) λa=>K (ap a) b):Cl 27 [au a] h K:=cN Tryz.func27 H
def F43.spec{a:Addr}(H:bg h (.cells #[ap 0,ar 0] 76) λb c=>Cl 76 [au a,ap i] c λa c=>aZ (some a) λa=>aJ (Option.isNone a) (aY c ((aw b).add 0) (ap 0) λa=>aY a ((aw b).add 1) (ar 0) λa=>aS .i64 (rd a ((aw b).add 0)) λc=>aS .u64 (rd a ((aw b).add 1)) λb=>K (.tuple #[.agg #[ap c,ar b],aB]) a) (aX a λd=>bQ (rd c (d.add 23)) λd=>aJ (!d) (aY c ((aw b).add 0) (ap 0) λa=>aY a ((aw b).add 1) (ar 0) λa=>aS .i64 (rd a ((aw b).add 0)) λc=>aS .u64 (rd a ((aw b).add 1)) λb=>K (.tuple #[.agg #[ap c,ar b],aB]) a) (aX a λa=>aS .i64 (rd c ((a.add 21).add 0)) λd=>aS .u64 (rd c ((a.add 21).add 1)) λa=>aY c ((aw b).add 0) (ap d) λc=>aY c ((aw b).add 1) (ar a) λa=>aS .i64 (rd a ((aw b).add 0)) λc=>aS .u64 (rd a ((aw b).add 1)) λb=>K (.tuple #[.agg #[ap c,ar b],aC]) a))):Cl 43 [au a,ap i] h K:=cN Tryz.func43 H
def F56.spec{a:Addr}(H:Cl 76 [au a,ap i] h λa b=>aZ (some a) λa=>aJ (!(Option.isNone a)) (aX a λa=>bQ (rd b (a.add 19)) λa=>K (aD a) b) (K aB b)):Cl 56 [au a,ap i] h K:=cN Tryz.func56 H
def F76.spec{i:Int}{a:Addr}(H:aJ (i<0) (K (aA none) h) (aJ (i>=4) (K (aA none) h) ((0<=i/\i<4/\K (au ((a.add 3).add (i.toNat*24))) h)))):Cl 76 [au a,ap i] h K:=cN Tryz.func76 H
def F77.T:bh:=⟨[(6,[0,1,5,28,29,30]),(11,[0,5])],[(11,[[(0,[]),(1,[]),(2,[]),(3,[]),(4,[]),(5,[]),(6,[]),(7,[0,1,2]),(8,[]),(9,[]),(10,[])]]),(12,[[(0,[]),(1,[]),(2,[]),(3,[]),(4,[]),(5,[]),(6,[]),(7,[0,1,2]),(8,[]),(9,[])]])]⟩
section
variable (n:Nat)(i j:Addr)(l o q r s t u:Int)(a:Addr)(c:az)(b f:Nat)(g d:Int)(h:aI)(K:KK)
def F77.wL6:Prop:=Lp Tryz.f77 F77.T [1,1,1,0,1,0] n [(0,(au i)),(1,(au j)),(5,(au a)),(28,(.slice c b f)),(29,(ap g)),(30,(ap d))] h K
def F77.wk11:Prop:=aS .u8 (rd h (a.add 6)) λb=>aZ (rd h (i.add 0)) λc=>Cl 75 [aA c] h λc d=>aS .i64 (some c) λc=>aF (au (a.add 6))/\aS .u8 (rd d (a.add 6)) λe=>aG (.int .u8 e) (.int .u8 b)/\aF (ap (ax b))/\0<=c/\aS .u8 (rd d (a.add 6)) λe=>aZ (rd d (i.add 0)) λf=>Cl 75 [aA f] d λd f=>aS .i64 (some d) λd=>aF (au (a.add 6))/\aS .u8 (rd f (a.add 6)) λg=>aG (.int .u8 g) (.int .u8 e)/\aF (ap (ax e))/\aS .i64 (rd f (a.add 0)) λg=>aJ (g==3) (aS .i64 (rd f (a.add 1)) λg=>Cl 122 [ap g] f λf g=>aS .i64 (some f) λf=>aJ (f==0) (K (ap 200) g) (aS .i64 (rd g (a.add 0)) λf=>aJ (f==1) (aJ ((ax e)>=d) (aJ ((ax e)>=d) (K (ap 40) g) (aS .i64 (rd g (a.add 0)) λd=>aJ (d==3) (aS .i64 (rd g (a.add 1)) λd=>aJ (d==6) (aJ ((Int.fdiv (ax b) (2^(min (c.toNat) (IntKind.bits .i64)))) !=0) (K (ap 40) g) (K (ap 0) g)) (aS .i64 (rd g (a.add 1)) λa=>aJ (a==7) (aJ ((Int.fdiv (ax b) (2^(min (c.toNat) (IntKind.bits .i64)))) !=0) (K (ap 40) g) (K (ap 0) g)) (K (ap 0) g))) (K (ap 0) g))) (aS .i64 (rd g (a.add 0)) λf=>aJ (f==3) (aS .i64 (rd g (a.add 1)) λf=>aJ (f==8) (aJ ((ax e)>=d) (K (ap 40) g) (aS .i64 (rd g (a.add 0)) λd=>aJ (d==3) (aS .i64 (rd g (a.add 1)) λd=>aJ (d==6) (aJ ((Int.fdiv (ax b) (2^(min (c.toNat) (IntKind.bits .i64)))) !=0) (K (ap 40) g) (K (ap 0) g)) (aS .i64 (rd g (a.add 1)) λa=>aJ (a==7) (aJ ((Int.fdiv (ax b) (2^(min (c.toNat) (IntKind.bits .i64)))) !=0) (K (ap 40) g) (K (ap 0) g)) (K (ap 0) g))) (K (ap 0) g))) (aS .i64 (rd g (a.add 0)) λd=>aJ (d==3) (aS .i64 (rd g (a.add 1)) λd=>aJ (d==6) (aJ ((Int.fdiv (ax b) (2^(min (c.toNat) (IntKind.bits .i64)))) !=0) (K (ap 40) g) (K (ap 0) g)) (aS .i64 (rd g (a.add 1)) λa=>aJ (a==7) (aJ ((Int.fdiv (ax b) (2^(min (c.toNat) (IntKind.bits .i64)))) !=0) (K (ap 40) g) (K (ap 0) g)) (K (ap 0) g))) (K (ap 0) g))) (aS .i64 (rd g (a.add 0)) λd=>aJ (d==3) (aS .i64 (rd g (a.add 1)) λd=>aJ (d==6) (aJ ((Int.fdiv (ax b) (2^(min (c.toNat) (IntKind.bits .i64)))) !=0) (K (ap 40) g) (K (ap 0) g)) (aS .i64 (rd g (a.add 1)) λa=>aJ (a==7) (aJ ((Int.fdiv (ax b) (2^(min (c.toNat) (IntKind.bits .i64)))) !=0) (K (ap 40) g) (K (ap 0) g)) (K (ap 0) g))) (K (ap 0) g)))) (aS .i64 (rd g (a.add 0)) λf=>aJ (f==3) (aS .i64 (rd g (a.add 1)) λf=>aJ (f==8) (aJ ((ax e)>=d) (K (ap 40) g) (aS .i64 (rd g (a.add 0)) λd=>aJ (d==3) (aS .i64 (rd g (a.add 1)) λd=>aJ (d==6) (aJ ((Int.fdiv (ax b) (2^(min (c.toNat) (IntKind.bits .i64)))) !=0) (K (ap 40) g) (K (ap 0) g)) (aS .i64 (rd g (a.add 1)) λa=>aJ (a==7) (aJ ((Int.fdiv (ax b) (2^(min (c.toNat) (IntKind.bits .i64)))) !=0) (K (ap 40) g) (K (ap 0) g)) (K (ap 0) g))) (K (ap 0) g))) (aS .i64 (rd g (a.add 0)) λd=>aJ (d==3) (aS .i64 (rd g (a.add 1)) λd=>aJ (d==6) (aJ ((Int.fdiv (ax b) (2^(min (c.toNat) (IntKind.bits .i64)))) !=0) (K (ap 40) g) (K (ap 0) g)) (aS .i64 (rd g (a.add 1)) λa=>aJ (a==7) (aJ ((Int.fdiv (ax b) (2^(min (c.toNat) (IntKind.bits .i64)))) !=0) (K (ap 40) g) (K (ap 0) g)) (K (ap 0) g))) (K (ap 0) g))) (aS .i64 (rd g (a.add 0)) λd=>aJ (d==3) (aS .i64 (rd g (a.add 1)) λd=>aJ (d==6) (aJ ((Int.fdiv (ax b) (2^(min (c.toNat) (IntKind.bits .i64)))) !=0) (K (ap 40) g) (K (ap 0) g)) (aS .i64 (rd g (a.add 1)) λa=>aJ (a==7) (aJ ((Int.fdiv (ax b) (2^(min (c.toNat) (IntKind.bits .i64)))) !=0) (K (ap 40) g) (K (ap 0) g)) (K (ap 0) g))) (K (ap 0) g))))) (aS .i64 (rd f (a.add 0)) λg=>aJ (g==1) (aJ ((ax e)>=d) (aJ ((ax e)>=d) (K (ap 40) f) (aS .i64 (rd f (a.add 0)) λd=>aJ (d==3) (aS .i64 (rd f (a.add 1)) λd=>aJ (d==6) (aJ ((Int.fdiv (ax b) (2^(min (c.toNat) (IntKind.bits .i64)))) !=0) (K (ap 40) f) (K (ap 0) f)) (aS .i64 (rd f (a.add 1)) λa=>aJ (a==7) (aJ ((Int.fdiv (ax b) (2^(min (c.toNat) (IntKind.bits .i64)))) !=0) (K (ap 40) f) (K (ap 0) f)) (K (ap 0) f))) (K (ap 0) f))) (aS .i64 (rd f (a.add 0)) λg=>aJ (g==3) (aS .i64 (rd f (a.add 1)) λg=>aJ (g==8) (aJ ((ax e)>=d) (K (ap 40) f) (aS .i64 (rd f (a.add 0)) λd=>aJ (d==3) (aS .i64 (rd f (a.add 1)) λd=>aJ (d==6) (aJ ((Int.fdiv (ax b) (2^(min (c.toNat) (IntKind.bits .i64)))) !=0) (K (ap 40) f) (K (ap 0) f)) (aS .i64 (rd f (a.add 1)) λa=>aJ (a==7) (aJ ((Int.fdiv (ax b) (2^(min (c.toNat) (IntKind.bits .i64)))) !=0) (K (ap 40) f) (K (ap 0) f)) (K (ap 0) f))) (K (ap 0) f))) (aS .i64 (rd f (a.add 0)) λd=>aJ (d==3) (aS .i64 (rd f (a.add 1)) λd=>aJ (d==6) (aJ ((Int.fdiv (ax b) (2^(min (c.toNat) (IntKind.bits .i64)))) !=0) (K (ap 40) f) (K (ap 0) f)) (aS .i64 (rd f (a.add 1)) λa=>aJ (a==7) (aJ ((Int.fdiv (ax b) (2^(min (c.toNat) (IntKind.bits .i64)))) !=0) (K (ap 40) f) (K (ap 0) f)) (K (ap 0) f))) (K (ap 0) f))) (aS .i64 (rd f (a.add 0)) λd=>aJ (d==3) (aS .i64 (rd f (a.add 1)) λd=>aJ (d==6) (aJ ((Int.fdiv (ax b) (2^(min (c.toNat) (IntKind.bits .i64)))) !=0) (K (ap 40) f) (K (ap 0) f)) (aS .i64 (rd f (a.add 1)) λa=>aJ (a==7) (aJ ((Int.fdiv (ax b) (2^(min (c.toNat) (IntKind.bits .i64)))) !=0) (K (ap 40) f) (K (ap 0) f)) (K (ap 0) f))) (K (ap 0) f)))) (aS .i64 (rd f (a.add 0)) λg=>aJ (g==3) (aS .i64 (rd f (a.add 1)) λg=>aJ (g==8) (aJ ((ax e)>=d) (K (ap 40) f) (aS .i64 (rd f (a.add 0)) λd=>aJ (d==3) (aS .i64 (rd f (a.add 1)) λd=>aJ (d==6) (aJ ((Int.fdiv (ax b) (2^(min (c.toNat) (IntKind.bits .i64)))) !=0) (K (ap 40) f) (K (ap 0) f)) (aS .i64 (rd f (a.add 1)) λa=>aJ (a==7) (aJ ((Int.fdiv (ax b) (2^(min (c.toNat) (IntKind.bits .i64)))) !=0) (K (ap 40) f) (K (ap 0) f)) (K (ap 0) f))) (K (ap 0) f))) (aS .i64 (rd f (a.add 0)) λd=>aJ (d==3) (aS .i64 (rd f (a.add 1)) λd=>aJ (d==6) (aJ ((Int.fdiv (ax b) (2^(min (c.toNat) (IntKind.bits .i64)))) !=0) (K (ap 40) f) (K (ap 0) f)) (aS .i64 (rd f (a.add 1)) λa=>aJ (a==7) (aJ ((Int.fdiv (ax b) (2^(min (c.toNat) (IntKind.bits .i64)))) !=0) (K (ap 40) f) (K (ap 0) f)) (K (ap 0) f))) (K (ap 0) f))) (aS .i64 (rd f (a.add 0)) λd=>aJ (d==3) (aS .i64 (rd f (a.add 1)) λd=>aJ (d==6) (aJ ((Int.fdiv (ax b) (2^(min (c.toNat) (IntKind.bits .i64)))) !=0) (K (ap 40) f) (K (ap 0) f)) (aS .i64 (rd f (a.add 1)) λa=>aJ (a==7) (aJ ((Int.fdiv (ax b) (2^(min (c.toNat) (IntKind.bits .i64)))) !=0) (K (ap 40) f) (K (ap 0) f)) (K (ap 0) f))) (K (ap 0) f))))
def F77.sL6:F77.wL6 (n+1) i j a c b f g d h K=(aJ (d<g) (aX c λe=>0<=d/\d<(b:Int)/\aS .i64 (rd h (e.add (d.toNat*1))) λe=>Cl 82 [ap e] h λk l=>bQ (some k) λk=>aJ (!k) (K (ap 221) l) ((0<=e/\e<6/\bQ (rd l (((j.add 0).add (e.toNat*2)).add 0)) λe=>aJ (!e) (K (ap 221) l) (F77.wL6 n i j a c b f g (ax (d+1)) l K)))) (F77.wk11 i a h K)):=by kernel_rfl
def F77.wk6:Prop:=(∃e,F77.wL6 e i j a c b f g d h K)
def F77.spec(H:bg h (.cells #[ap l,ap o,ap q,ap r,ap s,ap t,.int .u8 u] 41) λa b=>aS .i64 (rd b ((aw a).add 0)) λc=>aJ (c<1) (K (ap 222) b) (aS .i64 (rd b ((aw a).add 0)) λc=>aJ (c>8) (K (ap 222) b) (aS .i64 (rd b ((aw a).add 0)) λc=>aS .i64 (rd b ((aw a).add 1)) λd=>aS .i64 (rd b ((aw a).add 2)) λe=>aS .i64 (rd b ((aw a).add 3)) λf=>aS .i64 (rd b ((aw a).add 4)) λg=>aS .i64 (rd b ((aw a).add 5)) λk=>aS .u8 (rd b ((aw a).add 6)) λl=>Cl 120 [.agg #[ap c,ap d,ap e,ap f,ap g,ap k,.int .u8 l]] b λb c=>bQ (some b) λb=>aJ b (aS .i64 (rd c ((aw a).add 2)) λb=>Cl 82 [ap b] c λb c=>bQ (some b) λb=>aJ (!b) (K (ap 221) c) (aS .i64 (rd c ((aw a).add 0)) λb=>aS .i64 (rd c ((aw a).add 1)) λd=>aS .i64 (rd c ((aw a).add 2)) λe=>aS .i64 (rd c ((aw a).add 3)) λf=>aS .i64 (rd c ((aw a).add 4)) λg=>aS .i64 (rd c ((aw a).add 5)) λk=>aS .u8 (rd c ((aw a).add 6)) λl=>Cl 121 [.agg #[ap b,ap d,ap e,ap f,ap g,ap k,.int .u8 l]] c λb c=>cF (some b) λb d e=>F77.wk6 i j (aw a) b d e (d:Int) 0 c K)) (aS .i64 (rd c ((aw a).add 0)) λb=>aS .i64 (rd c ((aw a).add 1)) λd=>aS .i64 (rd c ((aw a).add 2)) λe=>aS .i64 (rd c ((aw a).add 3)) λf=>aS .i64 (rd c ((aw a).add 4)) λg=>aS .i64 (rd c ((aw a).add 5)) λk=>aS .u8 (rd c ((aw a).add 6)) λl=>Cl 121 [.agg #[ap b,ap d,ap e,ap f,ap g,ap k,.int .u8 l]] c λb c=>cF (some b) λb d e=>F77.wk6 i j (aw a) b d e (d:Int) 0 c K)))):Cl 77 [au i,au j,.agg #[ap l,ap o,ap q,ap r,ap s,ap t,.int .u8 u]] h K:=cT F77.T Tryz.func77 H
end
def F78.T:bh:=⟨[(2,[8,9])],[]⟩
section
variable (n:Nat)(c:Addr)(b:List Value)(a:Int)(h:aI)(K:KK)
def F78.wL2:Prop:=Lp Tryz.f78 F78.T [1,0,1,0] n [(8,(.agg (List.toArray b))),(9,(ap a))] h K
def F78.sL2:F78.wL2 (n+1) b a h K=(aJ (a<4) ((0<=a/\a<4/\bQ (b[a.toNat*24+0]?) λc=>aS .u32 (b[a.toNat*24+1]?) λd=>bQ (b[a.toNat*24+2]?) λe=>aS .u32 (b[a.toNat*24+3]?) λf=>bQ (b[a.toNat*24+4]?) λg=>aS .u32 (b[a.toNat*24+5]?) λi=>bQ (b[a.toNat*24+6]?) λj=>aS .u32 (b[a.toNat*24+7]?) λk=>bQ (b[a.toNat*24+8]?) λl=>aS .u32 (b[a.toNat*24+9]?) λm=>bQ (b[a.toNat*24+10]?) λo=>aS .u32 (b[a.toNat*24+11]?) λp=>aS .i64 (b[a.toNat*24+12]?) λq=>aS .i64 (b[a.toNat*24+13]?) λr=>aS .i64 (b[a.toNat*24+14]?) λs=>aS .i64 (b[a.toNat*24+15]?) λt=>aS .i64 (b[a.toNat*24+16]?) λu=>aS .i64 (b[a.toNat*24+17]?) λv=>aS .u8 (b[a.toNat*24+18]?) λw=>bQ (b[a.toNat*24+19]?) λx=>aS .i64 (b[a.toNat*24+20]?) λy=>aS .i64 (b[a.toNat*24+21]?) λz=>aS .u64 (b[a.toNat*24+22]?) λA=>bQ (b[a.toNat*24+23]?) λB=>bg h (.cells #[aB,aq 0,aB,aq 0,aB,aq 0,aB,aq 0,aB,aq 0,aB,aq 0,ap 0,ap 0,ap 0,ap 0,ap 0,ap 0,.int .u8 0,aB,ap 0,ap 0,ar 0,aB] 129) λC D=>aY D ((aw C).add 0) (aD c) λc=>aY c ((aw C).add 1) (aq d) λc=>aY c ((aw C).add 2) (aD e) λc=>aY c ((aw C).add 3) (aq f) λc=>aY c ((aw C).add 4) (aD g) λc=>aY c ((aw C).add 5) (aq i) λc=>aY c ((aw C).add 6) (aD j) λc=>aY c ((aw C).add 7) (aq k) λc=>aY c ((aw C).add 8) (aD l) λc=>aY c ((aw C).add 9) (aq m) λc=>aY c ((aw C).add 10) (aD o) λc=>aY c ((aw C).add 11) (aq p) λc=>aY c ((aw C).add 12) (ap q) λc=>aY c ((aw C).add 13) (ap r) λc=>aY c ((aw C).add 14) (ap s) λc=>aY c ((aw C).add 15) (ap t) λc=>aY c ((aw C).add 16) (ap u) λc=>aY c ((aw C).add 17) (ap v) λc=>aY c ((aw C).add 18) (.int .u8 w) λc=>aY c ((aw C).add 19) (aD x) λc=>aY c ((aw C).add 20) (ap y) λc=>aY c ((aw C).add 21) (ap z) λc=>aY c ((aw C).add 22) (ar A) λc=>aY c ((aw C).add 23) (aD B) λc=>bQ (rd c ((aw C).add 19)) λd=>aJ d (K aC c) (F78.wL2 n b (ax (a+1)) c K))) (K aB h)):=by kernel_rfl
def F78.wk2:Prop:=(∃c,F78.wL2 c b a h K)
def F78.spec(H:Jy h (c.add 3) 96 λa=>F78.wk2 a 0 h K):Cl 78 [au c] h K:=cT F78.T Tryz.func78 H
end
def F79.spec(H:bg h (.cells #[ap i,ap j,ap k,ap l,ap m,ap n,.int .u8 o] 41) λb c=>aS .i64 (rd c ((aw b).add 0)) λb=>aJ (b==1) (aJ (b==1) (K (.func (.func 123) #[au a] #[]) c) (aJ (b==4) (aJ (b==4) (K (.func (.func 124) #[au a] #[]) c) (aJ (b==7) (K (.func (.func 125) #[au a] #[]) c) (aJ (b==8) (K (.func (.func 126) #[au a] #[]) c) (K (.func (.func 127) #[au a] #[]) c)))) (aJ (b==5) (K (.func (.func 124) #[au a] #[]) c) (aJ (b==7) (K (.func (.func 125) #[au a] #[]) c) (aJ (b==8) (K (.func (.func 126) #[au a] #[]) c) (K (.func (.func 127) #[au a] #[]) c)))))) (aJ (b==2) (aJ (b==2) (K (.func (.func 123) #[au a] #[]) c) (aJ (b==4) (aJ (b==4) (K (.func (.func 124) #[au a] #[]) c) (aJ (b==7) (K (.func (.func 125) #[au a] #[]) c) (aJ (b==8) (K (.func (.func 126) #[au a] #[]) c) (K (.func (.func 127) #[au a] #[]) c)))) (aJ (b==5) (K (.func (.func 124) #[au a] #[]) c) (aJ (b==7) (K (.func (.func 125) #[au a] #[]) c) (aJ (b==8) (K (.func (.func 126) #[au a] #[]) c) (K (.func (.func 127) #[au a] #[]) c)))))) (aJ (b==6) (K (.func (.func 123) #[au a] #[]) c) (aJ (b==4) (aJ (b==4) (K (.func (.func 124) #[au a] #[]) c) (aJ (b==7) (K (.func (.func 125) #[au a] #[]) c) (aJ (b==8) (K (.func (.func 126) #[au a] #[]) c) (K (.func (.func 127) #[au a] #[]) c)))) (aJ (b==5) (K (.func (.func 124) #[au a] #[]) c) (aJ (b==7) (K (.func (.func 125) #[au a] #[]) c) (aJ (b==8) (K (.func (.func 126) #[au a] #[]) c) (K (.func (.func 127) #[au a] #[]) c)))))))):Cl 79 [au a,.agg #[ap i,ap j,ap k,ap l,ap m,ap n,.int .u8 o]] h K:=cN Tryz.func79 H
def F80.T:bh:=⟨[],[(0,[[(0,[]),(1,[]),(2,[]),(3,[]),(5,[]),(6,[]),(7,[]),(8,[]),(4,[5,6,7,8]),(9,[]),(10,[])]])]⟩
def F80.spec{a:Addr}(H:aZ (rd h (a.add 0)) λb=>aZ (rd h (a.add 0)) λc=>Cl 45 [aA b] h λb d=>aS .i64 (some b) λb=>aF (au a)/\aF (au a)/\aF (au (a.add 0))/\aZ (rd d (a.add 0)) λe=>aG (aA e) (aA c)/\Cl 70 [aA c] d λc d=>aS .i64 (some c) λc=>aJ (b>=c) (Cl 128 [au a] d λa b=>a=aE/\K aE b) (K aE d)):Cl 80 [au a] h K:=cT F80.T Tryz.func80 H
def F82.spec(H:aJ (i>=0) (K (aD (i<6)) h) (K aB h)):Cl 82 [ap i] h K:=cN Tryz.func82 H
def F120.spec(H:bg h (.cells #[ap i,ap j,ap k,ap l,ap m,ap n,.int .u8 o] 41) λa b=>aS .i64 (rd b ((aw a).add 0)) λc=>aJ (c>=1) (aS .i64 (rd b ((aw a).add 0)) λc=>aJ (c<=3) (K aC b) (aS .i64 (rd b ((aw a).add 0)) λa=>K (aD (a==6)) b)) (aS .i64 (rd b ((aw a).add 0)) λa=>K (aD (a==6)) b)):Cl 120 [.agg #[ap i,ap j,ap k,ap l,ap m,ap n,.int .u8 o]] h K:=cN Tryz.func120 H
def F121.T:bh:=⟨[],[(7,[[(0,[]),(1,[]),(2,[]),(3,[]),(4,[]),(5,[]),(7,[]),(8,[]),(6,[7,8]),(9,[0,1,2,3,4,5]),(10,[]),(11,[])],[(0,[]),(1,[]),(2,[]),(3,[]),(4,[]),(5,[]),(7,[]),(8,[]),(9,[0,1,2,3,4,5]),(6,[7,8]),(10,[]),(11,[])]])]⟩
def F121.spec(H:bg h (.cells #[ap i,ap j,ap k,ap l,ap m,ap n,.int .u8 o] 41) λa b=>aS .i64 (rd b ((aw a).add 0)) λc=>aJ (c==4) (aS .i64 (rd b ((aw a).add 3)) λa=>bg b (.cells #[ap a] 3) λa b=>K (.slice (some (aw a)) 1 1) b) (aJ (c==5) (aS .i64 (rd b ((aw a).add 3)) λc=>aS .i64 (rd b ((aw a).add 4)) λa=>bg b (.cells #[ap c,ap a] 3) λa b=>K (.slice (some (aw a)) 2 2) b) (aJ (c==3) ((aS .i64 (rd b ((aw a).add 3)) (λc=>aS .i64 (rd b ((aw a).add 4)) λd=>aS .i64 (rd b ((aw a).add 5)) λe=>aS .i64 (rd b ((aw a).add 1)) λf=>bg b (.cells #[ap c,ap d,ap e] 3) λb g=>aF (au ((aw a).add 1))/\aS .i64 (rd g ((aw a).add 1)) λi=>aG (ap i) (ap f)/\Cl 122 [ap f] g λf g=>aS .i64 (some f) λf=>aF (au ((aw a).add 3))/\aS .i64 (rd g ((aw a).add 3)) λi=>aG (ap i) (ap c)/\aF (au ((aw a).add 4))/\aS .i64 (rd g ((aw a).add 4)) λc=>aG (ap c) (ap d)/\aF (au ((aw a).add 5))/\aS .i64 (rd g ((aw a).add 5)) λa=>aG (ap a) (ap e)/\0<=f/\f<=3/\K (.slice (if 3=0 then(some (aw b))else Option.map (λa=>Addr.add a (0*1)) (some (aw b))) (f.toNat-0) (3-0)) g)/\aS .i64 (rd b ((aw a).add 3)) λc=>aS .i64 (rd b ((aw a).add 4)) λd=>aS .i64 (rd b ((aw a).add 5)) λe=>aS .i64 (rd b ((aw a).add 1)) λf=>Cl 122 [ap f] b λb g=>aS .i64 (some b) λb=>aF (au ((aw a).add 3))/\aS .i64 (rd g ((aw a).add 3)) λi=>aG (ap i) (ap c)/\aF (au ((aw a).add 4))/\aS .i64 (rd g ((aw a).add 4)) λi=>aG (ap i) (ap d)/\aF (au ((aw a).add 5))/\aS .i64 (rd g ((aw a).add 5)) λi=>aG (ap i) (ap e)/\bg g (.cells #[ap c,ap d,ap e] 3) λc d=>aF (au ((aw a).add 1))/\aS .i64 (rd d ((aw a).add 1)) λa=>aG (ap a) (ap f)/\0<=b/\b<=3/\K (.slice (if 3=0 then(some (aw c))else Option.map (λa=>Addr.add a (0*1)) (some (aw c))) (b.toNat-0) (3-0)) d)) (K (.slice none 0 0) b)))):Cl 121 [.agg #[ap i,ap j,ap k,ap l,ap m,ap n,.int .u8 o]] h K:=cT F121.T Tryz.func121 H
def F122.spec(H:aJ (i==1) (aJ (i==1) (K (ap 1) h) (aJ (i==2) (aJ (i==2) (K (ap 2) h) (aJ (i==5) (K (ap 3) h) (K (ap 0) h))) (aJ (i==3) (aJ (i==3) (K (ap 2) h) (aJ (i==5) (K (ap 3) h) (K (ap 0) h))) (aJ (i==4) (aJ (i==4) (K (ap 2) h) (aJ (i==5) (K (ap 3) h) (K (ap 0) h))) (aJ (i==8) (aJ (i==8) (K (ap 2) h) (aJ (i==5) (K (ap 3) h) (K (ap 0) h))) (aJ (i==9) (aJ (i==9) (K (ap 2) h) (aJ (i==5) (K (ap 3) h) (K (ap 0) h))) (aJ (i==10) (K (ap 2) h) (aJ (i==5) (K (ap 3) h) (K (ap 0) h))))))))) (aJ (i==6) (aJ (i==6) (K (ap 1) h) (aJ (i==2) (aJ (i==2) (K (ap 2) h) (aJ (i==5) (K (ap 3) h) (K (ap 0) h))) (aJ (i==3) (aJ (i==3) (K (ap 2) h) (aJ (i==5) (K (ap 3) h) (K (ap 0) h))) (aJ (i==4) (aJ (i==4) (K (ap 2) h) (aJ (i==5) (K (ap 3) h) (K (ap 0) h))) (aJ (i==8) (aJ (i==8) (K (ap 2) h) (aJ (i==5) (K (ap 3) h) (K (ap 0) h))) (aJ (i==9) (aJ (i==9) (K (ap 2) h) (aJ (i==5) (K (ap 3) h) (K (ap 0) h))) (aJ (i==10) (K (ap 2) h) (aJ (i==5) (K (ap 3) h) (K (ap 0) h))))))))) (aJ (i==7) (K (ap 1) h) (aJ (i==2) (aJ (i==2) (K (ap 2) h) (aJ (i==5) (K (ap 3) h) (K (ap 0) h))) (aJ (i==3) (aJ (i==3) (K (ap 2) h) (aJ (i==5) (K (ap 3) h) (K (ap 0) h))) (aJ (i==4) (aJ (i==4) (K (ap 2) h) (aJ (i==5) (K (ap 3) h) (K (ap 0) h))) (aJ (i==8) (aJ (i==8) (K (ap 2) h) (aJ (i==5) (K (ap 3) h) (K (ap 0) h))) (aJ (i==9) (aJ (i==9) (K (ap 2) h) (aJ (i==5) (K (ap 3) h) (K (ap 0) h))) (aJ (i==10) (K (ap 2) h) (aJ (i==5) (K (ap 3) h) (K (ap 0) h))))))))))):Cl 122 [ap i] h K:=cN Tryz.func122 H
def F123.T:bh:=⟨[(8,[0,1,5])],[]⟩
section
variable (b a:Addr)(c:Int)(h:aI)(K:KK)
def F123.wk8:Prop:=Cl 168 [au b,au a,.agg #[ap c,ar 0]] h λa b=>a=aE/\K aC b
end
def F123.spec{b:Addr}(H:aS .i64 (rd h ((b.add 12).add 0)) λc=>aJ (c==1) (Cl 165 [au a,au b] h λc d=>aS .i64 (some c) λc=>F123.wk8 a b c d K) (aJ (c==6) (Cl 166 [au a,au b] h λc d=>c=aE/\F123.wk8 a b 0 d K) (aS .u8 (rd h ((b.add 12).add 6)) λc=>Cl 167 [au a,au b,aq (IntKind.wrap .u32 (if 1<c then 1 else c))] h λc d=>c=aE/\F123.wk8 a b 0 d K))):Cl 123 [au a,au b] h K:=cT F123.T Tryz.func123 H
def F124.spec(H:Cl 169 [au a,au b] h λc d=>aS .u64 (some c) λc=>Cl 168 [au a,au b,.agg #[ap 0,ar c]] d λa b=>a=aE/\K aC b):Cl 124 [au a,au b] h K:=cN Tryz.func124 H
def F125.spec(H:Cl 128 [au a] h λc d=>c=aE/\Cl 168 [au a,au b,.agg #[ap 0,ar 0]] d λa b=>a=aE/\K aC b):Cl 125 [au a,au b] h K:=cN Tryz.func125 H
def F126.spec(H:Cl 170 [au a] h λc d=>bQ (some c) λc=>aJ c (K aB d) (Cl 171 [au a] d λc d=>c=aE/\Cl 168 [au a,au b,.agg #[ap 0,ar 0]] d λa b=>a=aE/\K aC b)):Cl 126 [au a,au b] h K:=cN Tryz.func126 H
def F127.T:bh:=⟨[(8,[0,1,6])],[(3,[[(0,[]),(1,[]),(2,[]),(3,[]),(4,[]),(5,[]),(6,[]),(7,[]),(8,[]),(9,[]),(10,[]),(11,[]),(12,[]),(13,[])]]),(8,[[(0,[]),(1,[]),(2,[]),(3,[]),(4,[]),(5,[]),(6,[]),(7,[]),(8,[])]])]⟩
section
variable (b a:Addr)(c:Int)(h:aI)(K:KK)
def F127.wk8:Prop:=aZ (rd h (b.add 1)) λd=>aS .i64 (rd h (a.add 20)) λe=>Cl 36 [aA d,ap e] h λd e=>bQ (some d) λ_=>Cl 168 [au b,au a,.agg #[ap c,ar 0]] e λa b=>a=aE/\K aC b
end
def F127.spec{a b:Addr}(H:aS .i64 (rd h (b.add 20)) λc=>aJ (c==0) (Cl 172 [au a,au b] h λa b=>bQ (some a) λa=>K (aD a) b) (aZ (rd h (a.add 1)) λc=>aS .i64 (rd h (b.add 20)) λd=>Cl 38 [aA c,ap d] h λc d=> ∃e:Int,∃f:Int,c=(.tuple #[aq e,ap f])/\aJ (f==61) (K aB d) (aJ (f==0) (Cl 167 [au a,au b,aq e] d λc d=>c=aE/\F127.wk8 a b f d K) (F127.wk8 a b f d K)))):Cl 127 [au a,au b] h K:=cT F127.T Tryz.func127 H
def F128.T:bh:=⟨[(2,[0,2,10,11,12]),(6,[0,2]),(8,[0,33,34])],[(6,[[(0,[]),(1,[]),(2,[]),(3,[]),(4,[]),(5,[]),(6,[]),(7,[]),(8,[])]])]⟩
section
variable (n:Nat)(a:Addr)(j:az)(f i:Nat)(c:az)(b g:Nat)(l d o q:Int)(h:aI)(K:KK)
def F128.wL8:Prop:=Lp Tryz.f128 F128.T [1,1,1,1,0] n [(0,(au a)),(33,(ap o)),(34,(ap q))] h K
def F128.wL2:Prop:=Lp Tryz.f128 F128.T [1,0,1,0] n [(0,(au a)),(2,(.slice j f i)),(10,(.slice c b g)),(11,(ap l)),(12,(ap d))] h K
def F128.sL8:F128.wL8 (n+1) a o q h K=(aJ (q<o) (aZ (rd h (a.add 2)) λb=>Cl 176 [aA b,ap 0] h λb c=> ∃d:Int,∃e:Bool,b=(.tuple #[aq d,aD e])/\F128.wL8 n a o (ax (q+1)) c K) (K aE h)):=by kernel_rfl
def F128.wk8:Prop:=(∃b,F128.wL8 b a o q h K)
def F128.wk6(a:Addr)(j:az)(f i:Nat)(h:aI)(K:KK):Prop:=aZ (rd h (a.add 0)) λb=>aZ (rd h (a.add 2)) λc=>Cl 175 [aA b,aA c] h λb c=> ∃d:Int,∃e:Int,b=(.tuple #[ap d,ap e])/\F128.wk8 a (f:Int) 0 c K
def F128.sL2:F128.wL2 (n+1) a j f i c b g l d h K=(aJ (d<l) (aX c λe=>0<=d/\d<(b:Int)/\aS .u32 (rd h (e.add (d.toNat*1))) λe=>aZ (rd h (a.add 2)) λk=>Cl 174 [aA k,ap 0,aq e] h λe k=>bQ (some e) λ_=>F128.wL2 n a j f i c b g l (ax (d+1)) k K) (F128.wk6 a j f i h K)):=by kernel_rfl
def F128.wk2:Prop:=(∃e,F128.wL2 e a j f i c b g l d h K)
def F128.spec(H:aZ (rd h (a.add 1)) λb=>Cl 173 [aA b] h λb c=>cF (some b) λb d e=>F128.wk2 a b d e b d e (d:Int) 0 c K):Cl 128 [au a] h K:=cT F128.T Tryz.func128 H
end
def F165.T:bh:=⟨[],[(2,[[(0,[]),(1,[]),(2,[]),(3,[]),(4,[]),(5,[]),(6,[]),(7,[]),(8,[]),(9,[]),(10,[]),(11,[]),(12,[]),(13,[]),(14,[]),(15,[])]])]⟩
def F165.spec{a b:Addr}(H:Cl 80 [au a] h λc d=>c=aE/\aZ (rd d (a.add 0)) λc=>aS .u8 (rd d ((b.add 12).add 6)) λe=>Cl 208 [aA c,ap (ax e)] d λc d=> ∃e:Int,∃f:Int,c=(.tuple #[aq e,ap f])/\aJ (f==0) (Cl 167 [au a,au b,aq e] d λa b=>a=aE/\K (ap f) b) (K (ap f) d)):Cl 165 [au a,au b] h K:=cT F165.T Tryz.func165 H
def F166.T:bh:=⟨[(3,[1])],[(0,[[(0,[]),(1,[]),(2,[]),(3,[]),(4,[]),(5,[]),(6,[]),(7,[]),(8,[]),(9,[]),(10,[0,1,2,3,4,5,6,7,8,9]),(11,[])]]),(2,[[(0,[]),(1,[]),(2,[]),(3,[]),(4,[]),(5,[]),(6,[])]]),(3,[[(0,[]),(1,[]),(2,[]),(3,[]),(4,[]),(5,[]),(6,[]),(7,[]),(8,[]),(9,[]),(10,[])]])]⟩
section
variable (a:Addr)(h:aI)(K:KK)
def F166.wk3:Prop:=aS .i64 (rd h ((a.add 12).add 2)) λb=>0<=b/\b<6/\aY h (((a.add 0).add (b.toNat*2)).add 0) aB λc=>aY c (((a.add 0).add (b.toNat*2)).add 1) (aq 0) λa=>K aE a
end
def F166.spec{a b:Addr}(H:aS .i64 (rd h ((b.add 12).add 2)) λc=>0<=c/\c<6/\bQ (rd h (((b.add 0).add (c.toNat*2)).add 0)) λd=>aS .u32 (rd h (((b.add 0).add (c.toNat*2)).add 1)) λe=>bg h (.cells #[aB,aq 0] 126) λf g=>aF (au b)/\aF (au b)/\aF (au b)/\aF (au (b.add 12))/\aF (au ((b.add 12).add 2))/\aS .i64 (rd g ((b.add 12).add 2)) λi=>aG (ap i) (ap c)/\aF (au b)/\aF (au (b.add 0))/\0<=c/\c<6/\aF (au ((b.add 0).add (c.toNat*2)))/\bQ (rd g (((b.add 0).add (c.toNat*2)).add 0)) λi=>aS .u32 (rd g (((b.add 0).add (c.toNat*2)).add 1)) λc=>aG (.agg #[aD i,aq c]) (.agg #[aD d,aq e])/\aY g ((aw f).add 0) (aD d) λc=>aY c ((aw f).add 1) (aq e) λc=>bQ (rd c ((aw f).add 0)) λd=>aJ d (aZ (rd c (a.add 2)) λa=>aS .u32 (rd c ((aw f).add 1)) λd=>Cl 209 [aA a,aq d] c λa c=>aS .i64 (some a) λ_=>F166.wk3 b c K) (F166.wk3 b c K)):Cl 166 [au a,au b] h K:=cT F166.T Tryz.func166 H
def F167.T:bh:=⟨[],[(1,[[(0,[]),(1,[]),(2,[]),(3,[]),(4,[]),(5,[]),(6,[]),(7,[]),(8,[]),(9,[]),(10,[]),(11,[])]])]⟩
def F167.spec{a b:Addr}(H:Cl 166 [au a,au b] h λc d=>c=aE/\aS .i64 (rd d ((b.add 12).add 2)) λc=>0<=c/\c<6/\aY d (((b.add 0).add (c.toNat*2)).add 0) aC λd=>aY d (((b.add 0).add (c.toNat*2)).add 1) (aq i) λb=>aZ (rd b (a.add 2)) λa=>Cl 210 [aA a,aq i] b λa b=>a=aE/\K aE b):Cl 167 [au a,au b,aq i] h K:=cT F167.T Tryz.func167 H
def F168.spec{a b:Addr}(H:bg h (.cells #[ap i,ar j] 76) λc d=>aS .i64 (rd d ((aw c).add 0)) λe=>aS .u64 (rd d ((aw c).add 1)) λc=>aY d ((b.add 21).add 0) (ap e) λd=>aY d ((b.add 21).add 1) (ar c) λc=>aY c ((b.add 23).add 0) aC λc=>aY c ((b.add 19).add 0) aB λb=>aS .i64 (rd b (a.add 99)) λc=>aY b ((a.add 99).add 0) (ap (ax (c+1))) λa=>K aE a):Cl 168 [au a,au b,.agg #[ap i,ar j]] h K:=cN Tryz.func168 H
def F169.T:bh:=⟨[],[(1,[[(0,[]),(1,[]),(2,[]),(3,[]),(4,[]),(5,[]),(6,[]),(7,[]),(8,[]),(9,[]),(10,[]),(11,[])]]),(5,[[(0,[]),(1,[]),(2,[]),(3,[]),(4,[]),(5,[]),(6,[]),(7,[]),(8,[]),(9,[]),(10,[]),(11,[]),(12,[])]])]⟩
def F169.spec{a b:Addr}(H:aS .i64 (rd h ((b.add 12).add 3)) λc=>0<=c/\c<6/\aS .u32 (rd h (((b.add 0).add (c.toNat*2)).add 1)) λc=>aS .i64 (rd h ((b.add 12).add 0)) λd=>aJ (d==4) (aZ (rd h (a.add 0)) λa=>Cl 211 [aA a,aq c] h λa b=> ∃c:Int,∃d:Int,a=(.tuple #[ar c,ap d])/\K (ar c) b) (aS .i64 (rd h ((b.add 12).add 4)) λa=>0<=a/\a<6/\aS .u32 (rd h (((b.add 0).add (a.toNat*2)).add 1)) λa=>aJ (c==a) (K (ar 1) h) (K (ar 0) h))):Cl 169 [au a,au b] h K:=cT F169.T Tryz.func169 H
def F170.T:bh:=⟨[(2,[8,9])],[]⟩
section
variable (n:Nat)(c:Addr)(b:List Value)(a:Int)(h:aI)(K:KK)
def F170.wL2:Prop:=Lp Tryz.f170 F170.T [1,0,1,0] n [(8,(.agg (List.toArray b))),(9,(ap a))] h K
def F170.sL2:F170.wL2 (n+1) b a h K=(aJ (a<4) ((0<=a/\a<4/\bQ (b[a.toNat*24+0]?) λc=>aS .u32 (b[a.toNat*24+1]?) λd=>bQ (b[a.toNat*24+2]?) λe=>aS .u32 (b[a.toNat*24+3]?) λf=>bQ (b[a.toNat*24+4]?) λg=>aS .u32 (b[a.toNat*24+5]?) λi=>bQ (b[a.toNat*24+6]?) λj=>aS .u32 (b[a.toNat*24+7]?) λk=>bQ (b[a.toNat*24+8]?) λl=>aS .u32 (b[a.toNat*24+9]?) λm=>bQ (b[a.toNat*24+10]?) λo=>aS .u32 (b[a.toNat*24+11]?) λp=>aS .i64 (b[a.toNat*24+12]?) λq=>aS .i64 (b[a.toNat*24+13]?) λr=>aS .i64 (b[a.toNat*24+14]?) λs=>aS .i64 (b[a.toNat*24+15]?) λt=>aS .i64 (b[a.toNat*24+16]?) λu=>aS .i64 (b[a.toNat*24+17]?) λv=>aS .u8 (b[a.toNat*24+18]?) λw=>bQ (b[a.toNat*24+19]?) λx=>aS .i64 (b[a.toNat*24+20]?) λy=>aS .i64 (b[a.toNat*24+21]?) λz=>aS .u64 (b[a.toNat*24+22]?) λA=>bQ (b[a.toNat*24+23]?) λB=>bg h (.cells #[aB,aq 0,aB,aq 0,aB,aq 0,aB,aq 0,aB,aq 0,aB,aq 0,ap 0,ap 0,ap 0,ap 0,ap 0,ap 0,.int .u8 0,aB,ap 0,ap 0,ar 0,aB] 129) λC D=>aY D ((aw C).add 0) (aD c) λc=>aY c ((aw C).add 1) (aq d) λc=>aY c ((aw C).add 2) (aD e) λc=>aY c ((aw C).add 3) (aq f) λc=>aY c ((aw C).add 4) (aD g) λc=>aY c ((aw C).add 5) (aq i) λc=>aY c ((aw C).add 6) (aD j) λc=>aY c ((aw C).add 7) (aq k) λc=>aY c ((aw C).add 8) (aD l) λc=>aY c ((aw C).add 9) (aq m) λc=>aY c ((aw C).add 10) (aD o) λc=>aY c ((aw C).add 11) (aq p) λc=>aY c ((aw C).add 12) (ap q) λc=>aY c ((aw C).add 13) (ap r) λc=>aY c ((aw C).add 14) (ap s) λc=>aY c ((aw C).add 15) (ap t) λc=>aY c ((aw C).add 16) (ap u) λc=>aY c ((aw C).add 17) (ap v) λc=>aY c ((aw C).add 18) (.int .u8 w) λc=>aY c ((aw C).add 19) (aD x) λc=>aY c ((aw C).add 20) (ap y) λc=>aY c ((aw C).add 21) (ap z) λc=>aY c ((aw C).add 22) (ar A) λc=>aY c ((aw C).add 23) (aD B) λc=>bQ (rd c ((aw C).add 19)) λd=>aJ d (aS .i64 (rd c ((aw C).add 20)) λd=>aJ (d>0) (K aC c) (F170.wL2 n b (ax (a+1)) c K)) (F170.wL2 n b (ax (a+1)) c K))) (K aB h)):=by kernel_rfl
def F170.wk2:Prop:=(∃c,F170.wL2 c b a h K)
def F170.spec(H:Jy h (c.add 3) 96 λa=>F170.wk2 a 0 h K):Cl 170 [au c] h K:=cT F170.T Tryz.func170 H
end
def F171.T:bh:=⟨[],[(0,[[(0,[]),(1,[]),(2,[]),(3,[]),(4,[]),(5,[]),(6,[]),(7,[]),(8,[0,1,2,3]),(9,[])]])]⟩
def F171.spec{a:Addr}(H:aZ (rd h (a.add 0)) λb=>aZ (rd h (a.add 2)) λc=>Cl 213 [aA c] h λc d=>cF (some c) λc e f=>aF (au a)/\aF (au a)/\aF (au (a.add 0))/\aZ (rd d (a.add 0)) λa=>aG (aA a) (aA b)/\Cl 212 [aA b,.slice c e f] d λa b=> ∃c:Int,∃d:Int,∃e:Int,a=(.tuple #[ap c,ap d,ap e])/\K aE b):Cl 171 [au a] h K:=cT F171.T Tryz.func171 H
def F172.T:bh:=⟨[(6,[0,1,5,6,18,19,20]),(10,[0,1,5,6])],[(10,[[(0,[]),(1,[]),(2,[]),(3,[]),(4,[]),(5,[]),(6,[]),(7,[]),(8,[]),(9,[]),(10,[]),(11,[]),(12,[]),(13,[]),(14,[]),(15,[]),(16,[]),(17,[]),(18,[]),(19,[]),(20,[])]])]⟩
section
variable (n:Nat)(i b l j:Addr)(d:az)(c f:Nat)(g a:Int)(h:aI)(K:KK)
def F172.wL6:Prop:=Lp Tryz.f172 F172.T [1,1,1,1,0,1,0] n [(0,(au i)),(1,(au b)),(5,(au l)),(6,(au j)),(18,(.slice d c f)),(19,(ap g)),(20,(ap a))] h K
def F172.wk10:Prop:=aZ (rd h (i.add 1)) λa=>aS .i64 (rd h (l.add 1)) λc=>0<=(0:Int)/\(0:Int)<(3:Int)/\aS .u32 (rd h (j.add ((0:Int).toNat*1))) λd=>0<=(1:Int)/\(1:Int)<(3:Int)/\aS .u32 (rd h (j.add ((1:Int).toNat*1))) λe=>0<=(2:Int)/\(2:Int)<(3:Int)/\aS .u32 (rd h (j.add ((2:Int).toNat*1))) λf=>aS .u8 (rd h (l.add 6)) λg=>Cl 35 [aA a,.agg #[ap c,aq d,aq e,aq f,.int .u8 g]] h λa c=> ∃d:Int,∃e:Int,a=(.tuple #[ap d,ap e])/\aJ (e !=0) (Cl 168 [au i,au b,.agg #[ap e,ar 0]] c λa b=>a=aE/\K aC b) (aY c ((b.add 20).add 0) (ap d) λa=>K aB a)
def F172.sL6:F172.wL6 (n+1) i b l j d c f g a h K=(aJ (a<g) (aX d λe=>0<=a/\a<(c:Int)/\aS .i64 (rd h (e.add (a.toNat*1))) λe=>0<=e/\e<6/\aS .u32 (rd h (((b.add 0).add (e.toNat*2)).add 1)) λe=>0<=a/\a<3/\aY h ((j.add (a.toNat*1)).add 0) (aq e) λe=>F172.wL6 n i b l j d c f g (ax (a+1)) e K) (F172.wk10 i b l j h K)):=by kernel_rfl
def F172.wk6:Prop:=(∃e,F172.wL6 e i b l j d c f g a h K)
def F172.spec(H:Cl 214 [au i] h λa c=>bQ (some a) λa=>aJ a (K aB c) (aS .i64 (rd c ((b.add 12).add 0)) λa=>aS .i64 (rd c ((b.add 12).add 1)) λd=>aS .i64 (rd c ((b.add 12).add 2)) λe=>aS .i64 (rd c ((b.add 12).add 3)) λf=>aS .i64 (rd c ((b.add 12).add 4)) λg=>aS .i64 (rd c ((b.add 12).add 5)) λj=>aS .u8 (rd c ((b.add 12).add 6)) λk=>bg c (.cells #[ap 0,ap 0,ap 0,ap 0,ap 0,ap 0,.int .u8 0] 41) λc l=>aY l ((aw c).add 0) (ap a) λa=>aY a ((aw c).add 1) (ap d) λa=>aY a ((aw c).add 2) (ap e) λa=>aY a ((aw c).add 3) (ap f) λa=>aY a ((aw c).add 4) (ap g) λa=>aY a ((aw c).add 5) (ap j) λa=>aY a ((aw c).add 6) (.int .u8 k) λa=>bg a (.cells #[aq 0,aq 0,aq 0] 115) λa d=>aS .i64 (rd d ((aw c).add 0)) λe=>aS .i64 (rd d ((aw c).add 1)) λf=>aS .i64 (rd d ((aw c).add 2)) λg=>aS .i64 (rd d ((aw c).add 3)) λj=>aS .i64 (rd d ((aw c).add 4)) λk=>aS .i64 (rd d ((aw c).add 5)) λl=>aS .u8 (rd d ((aw c).add 6)) λm=>Cl 121 [.agg #[ap e,ap f,ap g,ap j,ap k,ap l,.int .u8 m]] d λd e=>cF (some d) λd f g=>F172.wk6 i b (aw c) (aw a) d f g (f:Int) 0 e K)):Cl 172 [au i,au b] h K:=cT F172.T Tryz.func172 H
end
def F214.T:bh:=⟨[(2,[8,9])],[]⟩
section
variable (n:Nat)(c:Addr)(b:List Value)(a:Int)(h:aI)(K:KK)
def F214.wL2:Prop:=Lp Tryz.f214 F214.T [1,0,1,0] n [(8,(.agg (List.toArray b))),(9,(ap a))] h K
def F214.sL2:F214.wL2 (n+1) b a h K=(aJ (a<4) ((0<=a/\a<4/\bQ (b[a.toNat*24+0]?) λc=>aS .u32 (b[a.toNat*24+1]?) λd=>bQ (b[a.toNat*24+2]?) λe=>aS .u32 (b[a.toNat*24+3]?) λf=>bQ (b[a.toNat*24+4]?) λg=>aS .u32 (b[a.toNat*24+5]?) λi=>bQ (b[a.toNat*24+6]?) λj=>aS .u32 (b[a.toNat*24+7]?) λk=>bQ (b[a.toNat*24+8]?) λl=>aS .u32 (b[a.toNat*24+9]?) λm=>bQ (b[a.toNat*24+10]?) λo=>aS .u32 (b[a.toNat*24+11]?) λp=>aS .i64 (b[a.toNat*24+12]?) λq=>aS .i64 (b[a.toNat*24+13]?) λr=>aS .i64 (b[a.toNat*24+14]?) λs=>aS .i64 (b[a.toNat*24+15]?) λt=>aS .i64 (b[a.toNat*24+16]?) λu=>aS .i64 (b[a.toNat*24+17]?) λv=>aS .u8 (b[a.toNat*24+18]?) λw=>bQ (b[a.toNat*24+19]?) λx=>aS .i64 (b[a.toNat*24+20]?) λy=>aS .i64 (b[a.toNat*24+21]?) λz=>aS .u64 (b[a.toNat*24+22]?) λA=>bQ (b[a.toNat*24+23]?) λB=>bg h (.cells #[aB,aq 0,aB,aq 0,aB,aq 0,aB,aq 0,aB,aq 0,aB,aq 0,ap 0,ap 0,ap 0,ap 0,ap 0,ap 0,.int .u8 0,aB,ap 0,ap 0,ar 0,aB] 129) λC D=>aY D ((aw C).add 0) (aD c) λc=>aY c ((aw C).add 1) (aq d) λc=>aY c ((aw C).add 2) (aD e) λc=>aY c ((aw C).add 3) (aq f) λc=>aY c ((aw C).add 4) (aD g) λc=>aY c ((aw C).add 5) (aq i) λc=>aY c ((aw C).add 6) (aD j) λc=>aY c ((aw C).add 7) (aq k) λc=>aY c ((aw C).add 8) (aD l) λc=>aY c ((aw C).add 9) (aq m) λc=>aY c ((aw C).add 10) (aD o) λc=>aY c ((aw C).add 11) (aq p) λc=>aY c ((aw C).add 12) (ap q) λc=>aY c ((aw C).add 13) (ap r) λc=>aY c ((aw C).add 14) (ap s) λc=>aY c ((aw C).add 15) (ap t) λc=>aY c ((aw C).add 16) (ap u) λc=>aY c ((aw C).add 17) (ap v) λc=>aY c ((aw C).add 18) (.int .u8 w) λc=>aY c ((aw C).add 19) (aD x) λc=>aY c ((aw C).add 20) (ap y) λc=>aY c ((aw C).add 21) (ap z) λc=>aY c ((aw C).add 22) (ar A) λc=>aY c ((aw C).add 23) (aD B) λc=>bQ (rd c ((aw C).add 19)) λd=>aJ d (aS .i64 (rd c (((aw C).add 12).add 0)) λd=>aJ (d==8) (K aC c) (F214.wL2 n b (ax (a+1)) c K)) (F214.wL2 n b (ax (a+1)) c K))) (K aB h)):=by kernel_rfl
def F214.wk2:Prop:=(∃c,F214.wL2 c b a h K)
def F214.spec(H:Jy h (c.add 3) 96 λa=>F214.wk2 a 0 h K):Cl 214 [au c] h K:=cT F214.T Tryz.func214 H
end
end
def sr(c:lY):Value:= .agg #[ap c.kind,ap c.op,ap c.dst,ap c.a,ap c.b,ap c.c,.int .u8 (c.mask:Int)]
def mK(x:Int):Prop:=0<=x/\x<6
instance (x:Int):Decidable (mK x):=by unfold mK;infer_instance
def ym(k:Int):Prop:=1<=k/\k<=3\/k=6
instance (x:Int):Decidable (ym x):=by unfold ym;infer_instance
def zx(h: ¬(1<=k/\k<=3)):(k==(6:Int))=decide (ym k):=by
 by_cases q:k=6
 ·subst q;rw[Mg (p:=ym 6) (.inr rfl)];rfl
 ·rw[L7 (p:=ym k) (λc=>by rcases c with c|c<;>omega)];exact kW q
def kq(c:lY):List Int:=if c.kind=4 then [c.a]else if c.kind=5 then [c.a,c.b]else if c.kind=3 then [c.a,c.b,c.c].take (bS c.op).toNat else []
def mP(hO:(i<0\/4<=i)->K (.pointer none) h)(hI: ∀k:Nat,k<4->i=(k:Int)->K (au ⟨e,3+24*k,none⟩) h):Cl 76 [bf e,ap i] h K:=by refine F76.spec ?_;refine aR (λc=>hO (.inl (Mn c))) λc=>aR (λd=>hO (.inr (Mn d))) λd=> ?_;have c:=Me c;have d:=Me d;have d: ¬(4:Int)<=i:=d;refine⟨ah,ah,?_⟩;have:=hI i.toNat ah ah;simpa only[aL,LX,NQ 24]using this
def IM(hK:K (aD (decide (mK x))) h):Cl 82 [ap x] h K:=by
 refine F82.spec ?_;refine aR (λc=> ?_) λc=> ?_
 ·have c:(0:Int)<=x:=Mn c;rw[show decide (x<(6:Int))=decide (mK x) by unfold mK;simp[c]];exact hK
 ·have c: ¬(0:Int)<=x:=Me c;rw[L7 (by unfold mK;omega)]at hK;exact hK
def yD{c:lY}(hK: ∀h',aM [] h h'->K (aD (decide (ym c.kind))) h'):Cl 120 [sr c] h K:=by
 refine F120.spec ?_;refine aW λh1 A1 O1 z1=> ?_;simp only[aL,LX];have r:Ev.rd h1 (aw h.size)=some (ap c.kind):=At.rd A1 0;have hK:=hK h1 O1;refine aH r (aR (λa=>aH r (aR (λb=> ?_) λb=>aH r ?_)) λa=>aH r ?_)
 ·rw[Mg (.inl ⟨Mn a,Mn b⟩)]at hK;exact hK
 ·have b:=Me b;rw[zx ah];exact hK
 ·have a: ¬(1:Int)<=c.kind:=Me a;rw[zx ah];exact hK
def oB(hK:K (ap (bS x)) h):Cl 122 [ap x] h K:=by
 refine F122.spec ?_;unfold bS at hK;by_cases h1:x=1
 ·subst h1;exact hK
 by_cases h2:x=2
 ·subst h2;exact hK
 by_cases h3:x=3
 ·subst h3;exact hK
 by_cases h4:x=4
 ·subst h4;exact hK
 by_cases h5:x=5
 ·subst h5;exact hK
 by_cases h6:x=6
 ·subst h6;exact hK
 by_cases h7:x=7
 ·subst h7;exact hK
 by_cases h8:x=8
 ·subst h8;exact hK
 by_cases h9:x=9
 ·subst h9;exact hK
 by_cases h10:x=10
 ·subst h10;exact hK
 rw[LY ah,LY ah,LY h5]at hK;simp only[kW h1,kW h2,kW h3,kW h4,kW h5,kW h6,kW h7,kW h8,kW h9,kW h10,aK];exact hK
def tH(x:Int):0<=bS x/\bS x<=3:=by
 unfold bS
 repeat' split
 all_goals omega
def DB(h h':aI)(p:az)(l:Nat)(xs:List Int):Prop:=l=xs.length/\(xs=[]\/ ∃(b:Nat) (L:List Value),p=some (aw b)/\h.size<=b/\At h' b L/\ ∀(i:Nat) (x:Int),xs[i]? =some x->L[i]? =some (ap x))
def uG(hK: ∀h' p l q,aM [] h h'->DB h h' p l (kq c)->K (.slice p l q) h'):Cl 121 [sr c] h K:=by
 refine F121.spec ?_;refine aW λh1 A1 O1 z1=> ?_;simp only[aL,LX];have r: ∀k,Ev.rd h1 ⟨h.size,k,none⟩=([ap c.kind,ap c.op,ap c.dst,ap c.a,ap c.b,ap c.c,.int .u8 (c.mask:Int)]:List Value)[k]? :=λk=>At.rd A1 k;refine aH (n:=c.kind) (by rw[r];rfl) (aR (λa=> ?_) λa=>aR (λb=> ?_) λb=>aR (λd=> ?_) λd=> ?_)
 ·have a:c.kind=4:=by simpa using a
  refine aH (n:=c.a) (by rw[r];rfl) (aW λh2 A2 O2 z2=> ?_);refine hK h2 _ _ _ (O1.trans O2 ak) ?_;have e:kq c=[c.a]:=by unfold kq;rw[L4 a]
  rw[e]
  exact⟨rfl,.inr ⟨h1.size,_,rfl,ah,A2,λi x hx=>by
   cases i with
   |zero=>simp at hx;subst hx;rfl
   |succ i=>simp at hx⟩⟩
 ·have a: ¬c.kind=4:=by simpa using a
  have b:c.kind=5:=by simpa using b
  refine aH (n:=c.a) (by rw[r];rfl) (aH (n:=c.b) (by rw[r];rfl) (aW λh2 A2 O2 z2=> ?_));refine hK h2 _ _ _ (O1.trans O2 ak) ?_;have e:kq c=[c.a,c.b]:=by unfold kq;rw[LY a,L4 b]
  rw[e]
  exact⟨rfl,.inr ⟨h1.size,_,rfl,ah,A2,λi x hx=>by
   rcases i with _|_|i
   ·simp at hx;subst hx;rfl
   ·simp at hx;subst hx;rfl
   ·simp at hx⟩⟩
 ·have a: ¬c.kind=4:=by simpa using a
  have b: ¬c.kind=5:=by simpa using b
  have d:c.kind=3:=by simpa using d
  have e:kq c=[c.a,c.b,c.c].take (bS c.op).toNat:=by unfold kq;rw[LY a,LY b,L4 d]
  have tl:=tH c.op
  have row: ∀(hh:aI) (A:At hh h1.size [ap c.a,ap c.b,ap c.c]),DB h hh (some (aw h1.size)) (bS c.op).toNat (kq c):=λhh A=>by
   rw[e];refine⟨by simp;try omega,.inr ⟨h1.size,_,rfl,ah,A,λi x hx=> ?_⟩⟩;rw[List.getElem?_take]at hx;split at hx
   ·rcases i with _|_|_|i
    ·simp at hx;subst hx;rfl
    ·simp at hx;subst hx;rfl
    ·simp at hx;subst hx;rfl
    ·simp at hx
   ·cases hx
  have fin: ∀(hh:aI) (q:Nat),aM [] h hh->At hh h1.size [ap c.a,ap c.b,ap c.c]->K (.slice (if 3=0 then(some (aw h1.size))else Option.map (λa=>Addr.add a (0*1)) (some (aw h1.size))) (Int.toNat (bS c.op)-0) q) hh:=λhh q O A=>by have:=hK hh _ _ q O (row hh A);simpa using this
  refine⟨?_,?_⟩
  ·refine aH (n:=c.a) (by rw[r];rfl) (aH (n:=c.b) (by rw[r];rfl) (aH (n:=c.c) (by rw[r];rfl) (aH (n:=c.op) (by rw[r];rfl) (aW λh2 A2 O2 z2=> ?_))));have r2: ∀k,Ev.rd h2 ⟨h.size,k,none⟩=([ap c.kind,ap c.op,ap c.dst,ap c.a,ap c.b,ap c.c,.int .u8 (c.mask:Int)]:List Value)[k]? :=λk=>At.rd (A1.only O2 ak) k;refine⟨trivial,aH (n:=c.op) (by rw[r2];rfl) ⟨rfl,oB (aH rfl ?_)⟩⟩;refine⟨trivial,aH (n:=c.a) (by rw[r2];rfl) ⟨rfl,trivial,aH (n:=c.b) (by rw[r2];rfl) ⟨rfl,trivial,aH (n:=c.c) (by rw[r2];rfl) ⟨rfl,tl.1,tl.2,?_⟩⟩⟩⟩;exact fin h2 _ (O1.trans O2 ak) A2
  ·refine aH (n:=c.a) (by rw[r];rfl) (aH (n:=c.b) (by rw[r];rfl) (aH (n:=c.c) (by rw[r];rfl) (aH (n:=c.op) (by rw[r];rfl) (oB (aH rfl ?_)))));refine⟨trivial,aH (n:=c.a) (by rw[r];rfl) ⟨rfl,trivial,aH (n:=c.b) (by rw[r];rfl) ⟨rfl,trivial,aH (n:=c.c) (by rw[r];rfl) ⟨rfl,aW λh2 A2 O2 z2=> ?_⟩⟩⟩⟩;have r2: ∀k,Ev.rd h2 ⟨h.size,k,none⟩=([ap c.kind,ap c.op,ap c.dst,ap c.a,ap c.b,ap c.c,.int .u8 (c.mask:Int)]:List Value)[k]? :=λk=>At.rd (A1.only O2 ak) k;refine⟨trivial,aH (n:=c.op) (by rw[r2];rfl) ⟨rfl,tl.1,tl.2,?_⟩⟩;exact fin h2 _ (O1.trans O2 ak) A2
 ·have a: ¬c.kind=4:=by simpa using a
  have b: ¬c.kind=5:=by simpa using b
  have d: ¬c.kind=3:=by simpa using d
  refine hK h1 _ _ _ O1 ?_;have e:kq c=[]:=by unfold kq;rw[LY a,LY b,LY d]
  rw[e];exact⟨rfl,.inl rfl⟩
def yM{E:gQ}(H:dI h e E)(hO:(i<0\/4<=i)->K aB h)(hI: ∀k:Nat,k<4->i=(k:Int)->K (aD (E.ses k).pend) h):Cl 56 [bf e,ap i] h K:=by refine F56.spec ?_;refine mP (λc=>aQ rfl (hO c)) λk hk ek=>aQ rfl ?_;show aJ true _ _;rw[aO];show bQ (Ev.rd h (Addr.add ⟨e,3+24*k,none⟩ 19)) _;exact a8 (n:=(E.ses k).pend) (by rw[aL];exact H.pend hk rfl) (hI k hk ek)
def AZ{E:gQ}(H:dI h e E)(hO:(i<0\/4<=i)-> ∀h',aM [] h h'->K (.tuple #[.agg #[ap 0,ar 0],aB]) h')
  (hI: ∀k:Nat,k<4->i=(k:Int)-> ∀h',aM [] h h'->K (.tuple #[.agg #[ap (if(E.ses k).ansd=true then(E.ses k).err else 0),ar (if(E.ses k).ansd=true then((E.ses k).num:Int)else 0)],aD (E.ses k).ansd]) h'):
  Cl 43 [bf e,ap i] h K:=by
 refine F43.spec ?_;refine aW λh1 A1 O1 z1=> ?_;simp only[aL,LX]
 have zero:(∀h',aM [] h h'->K (.tuple #[.agg #[ap 0,ar 0],aB]) h')->aY h1 (aw h.size) (ap (0:Int)) (λh6=>aY h6 ⟨h.size,1,none⟩ (ar (0:Int)) (λh7=>aS .i64 (Ev.rd h7 (aw h.size)) (λn8=>aS .u64 (Ev.rd h7 ⟨h.size,1,none⟩) (λn9=>K (.tuple #[(.agg #[(ap n8),(ar n9)]),aB]) h7)))):=λg=>by refine aU A1 ak rfl λh2 A2 O2 z2=>aU A2 ak rfl λh3 A3 O3 z3=> ?_;refine aH (n:=0) (by rw[At.rd A3];rfl) (aH (n:=0) (by rw[At.rd A3];rfl) (g h3 ?_));exact(O1.trans O2 (by intro x hx hl;simp at hx;omega)).trans O3 (by intro x hx hl;simp at hx;omega)
 refine mP (λc=>aQ rfl ?_) λk hk ek=>aQ rfl ?_
 ·exact zero (hO c)
 ·have hI:=hI k hk ek;show aJ false _ _;rw[aK];have H1:=H.only0 O1;refine a8 (n:=(E.ses k).ansd) (by rw[aL];exact H1.ansd hk rfl) (aR (λc=> ?_) λc=> ?_)
  ·have c:(E.ses k).ansd=false:=by simpa using c
   rw[c]at hI;exact zero hI
  ·have c:(E.ses k).ansd=true:=by simpa using c
   rw[c,L4 rfl,L4 rfl]at hI;refine aH (by simp only[aL];exact H1.err hk ah) (aH (by simp only[aL];exact H1.num hk ah) ?_);refine aU A1 ak rfl λh2 A2 O2 z2=>aU A2 ak rfl λh3 A3 O3 z3=> ?_;refine aH (n:=(E.ses k).err) (by rw[At.rd A3];rfl) (aH (n:=((E.ses k).num:Int)) (by rw[At.rd A3];rfl) (hI h3 ?_));exact(O1.trans O2 (by intro x hx hl;simp at hx;omega)).trans O3 (by intro x hx hl;simp at hx;omega)
def kY(n:Nat)(c:lY):Int:=if c.kind=3/\bS c.op=0 then 200 else if(c.kind=1\/c.kind=3/\c.op=8)/\n<=c.mask then 40 else if c.kind=3/\(c.op=6\/c.op=7)/\c.mask/2^n≠0 then 40 else 0
def wV(c:lY):(kq c).length<=3:=by
 unfold kq;split
 ·simp
 ·split
  ·simp
  ·split
   ·rw[NI];exact Nat.min_le_right _ _
   ·simp
def nh(x:gi)(c:lY):Prop:= ∀r∈kq c,mK r/\x.there r.toNat=true
open Classical in
noncomputable def fC(n:Nat)(x:gi)(c:lY):Int:=if ¬(1<=c.kind/\c.kind<=8)then 222 else if ym c.kind/\ ¬mK c.dst then 221 else if ¬nh x c then 221 else kY n c
def sR:aX (some a) K=K a:=rfl
def IX{E:gQ}{X:SX}{c:lY}(I:dI h e E)(S:bT h E.s L X)(hm:c.mask<256)(A:At h b [ap c.kind,ap c.op,ap c.dst,ap c.a,ap c.b,ap c.c,.int .u8 (c.mask:Int)])
  (hK:K (ap (kY X.n c)) h):F77.wk11 (aw e) (aw b) h K:=by
 unfold F77.wk11;have n8:=S.ok.2.2.1;have r0:rd h (aw b)=some (ap c.kind):=At.rd A 0;have r1:rd h ⟨b,1,none⟩=some (ap c.op):=At.rd A 1;have r6:rd h ⟨b,6,none⟩=some (.int .u8 (c.mask:Int)):=At.rd A 6;have rs:rd h (aw e)=some (au (aw E.s)):=I.s;simp only[aL,LX];refine aH r6 (aQ rs (dX S (aH rfl ⟨trivial,aH r6 ⟨rfl,trivial,ah,aH r6 (aQ rs (dX S (aH rfl ⟨trivial,aH r6 ⟨rfl,trivial,aH r0 ?_⟩⟩)))⟩⟩)));rw[Fw n8 hm,show ax (c.mask:Int)=(c.mask:Int)from wrap_i64 ah ah];simp only[r0,r1,bB]
 have em:decide ((c.mask:Int)>=(X.n:Int))=decide (X.n<=c.mask):=by
  by_cases q:X.n<=c.mask
  ·rw[Mg q,Mg ah]
  ·rw[L7 q,L7 ah]
 have ed:(((c.mask/2^X.n:Nat):Int) !=(0:Int))=decide (c.mask/2^X.n≠0):=by
  by_cases q:c.mask/2^X.n=0
  ·rw[q,L7 ak];rfl
  ·rw[Mg q];simp only[PH,Pp,Bool.not_eq_true];omega
 rw[em,ed];unfold kY at hK;by_cases k3:c.kind=3
 ·have a1:(c.kind==(3:Int))=true:=by simp[k3]
  have a2:(c.kind==(1:Int))=false:=by simp[k3]
  simp only[a1,a2,aO,aK];refine oB (aH rfl ?_);simp only[r0,r1,bB,a1,a2,aO,aK];by_cases t0:bS c.op=0
  ·have a3:(bS c.op==(0:Int))=true:=by simp[t0]
   rw[a3,aO];rw[L4 ⟨k3,t0⟩]at hK;exact hK
  ·have a3:(bS c.op==(0:Int))=false:=by simp[t0]
   rw[a3,aK];rw[LY (λq=>t0 q.2)]at hK;simp only[k3,Ol,false_or,show ¬(3:Int)=1 by omega]at hK;by_cases o8:c.op=8
   ·simp only[show(c.op==(8:Int))=true by simp[o8],show(c.op==(6:Int))=false by simp[o8],show(c.op==(7:Int))=false by simp[o8],aO,aK];refine aR (λq=> ?_) λq=> ?_
    ·rw[L4 ⟨o8,Mn q⟩]at hK;exact hK
    ·rw[LY (λw=>(Me q) w.2),LY ah]at hK;exact hK
   ·rw[LY (λw=>o8 w.1)]at hK;simp only[show(c.op==(8:Int))=false by simp[o8],aK];by_cases o6:c.op=6
    ·simp only[show(c.op==(6:Int))=true by simp[o6],aO];refine aR (λq=> ?_) λq=> ?_
     ·rw[L4 ⟨.inl o6,Mn q⟩]at hK;exact hK
     ·rw[LY (λw=>(Me q) w.2)]at hK;exact hK
    ·simp only[show(c.op==(6:Int))=false by simp[o6],aK];by_cases o7:c.op=7
     ·simp only[show(c.op==(7:Int))=true by simp[o7],aO];refine aR (λq=> ?_) λq=> ?_
      ·rw[L4 ⟨.inr o7,Mn q⟩]at hK;exact hK
      ·rw[LY (λw=>(Me q) w.2)]at hK;exact hK
     ·simp only[show(c.op==(7:Int))=false by simp[o7],aK];rw[LY ah]at hK;exact hK
 ·have a1:(c.kind==(3:Int))=false:=by simp[k3]
  simp only[a1,aK];rw[LY (λq=>k3 q.1)]at hK;simp only[k3,false_and,Nk,Nf]at hK;by_cases k1:c.kind=1
  ·simp only[show(c.kind==(1:Int))=true by simp[k1],aO];refine aR (λq=> ?_) λq=> ?_
   ·rw[q,aO];rw[L4 ⟨k1,Mn q⟩]at hK;exact hK
   ·rw[LY (λw=>(Me q) w.2)]at hK;exact hK
  ·simp only[show(c.kind==(1:Int))=false by simp[k1],aK];rw[LY (λw=>k1 w.1)]at hK;exact hK
def yw{h:aI}{E:gQ}{X:SX}{c:lY}(hi:i<4)(I:dI h e E)(S:bT h E.s L X)(he:e<h.size)(hm:c.mask<256)(hK: ∀h',aM [] h h'->K (ap (fC X.n (E.ses i) c)) h'):
  Cl 77 [bf e,au ⟨e,3+24*i,none⟩,sr c] h K:=by
 refine F77.spec _ _ _ _ _ _ _ _ _ h K ?_;refine aW λh1 A1 O1 z1=> ?_;simp only[aL,LX];have r: ∀k,rd h1 ⟨h.size,k,none⟩=([ap c.kind,ap c.op,ap c.dst,ap c.a,ap c.b,ap c.c,.int .u8 (c.mask:Int)]:List Value)[k]? :=λk=>At.rd A1 k;refine aH (n:=c.kind) (by rw[r];rfl) (aR (λq=> ?_) λq=> ?_)
 ·have q:c.kind<1:=Mn q;have:=hK h1 O1;unfold fC at this;rw[L4 ah]at this;exact this
 refine aH (n:=c.kind) (by rw[r];rfl) (aR (λp=> ?_) λp=> ?_)
 ·have p:(8:Int)<c.kind:=Mn p;have:=hK h1 O1;unfold fC at this;rw[L4 ah]at this;exact this
 have q: ¬c.kind<1:=Me q;have p: ¬(8:Int)<c.kind:=Me p;have S1:=S.only0 O1;have I1:=I.only0 O1
 have fin:(ym c.kind->mK c.dst)-> ∀(h2:aI) (pp:az) (l cc:Nat),aM [] h1 h2->DB h h2 pp l (kq c)->F77.wk6 (aw e) ⟨e,3+24*i,none⟩ (aw h.size) pp l cc (Nat.cast l:Int) 0 h2 K:=by
  intro hw h2 pp l cc O2 R;unfold F77.wk6;have I2:=I1.only0 O2;have S2:=S1.only0 O2;have A2:=A1.only O2 ak;have f:=hK h2 (O1.trans O2 ak);obtain⟨el,R⟩:=R
  have t: ∀(d k:Nat),d+k=l->(∀j x,j<k->(kq c)[j]? =some x->mK x/\(E.ses i).there x.toNat=true)->F77.wL6 (d+1) (aw e) ⟨e,3+24*i,none⟩ (aw h.size) pp l cc (Nat.cast l:Int) (Nat.cast k:Int) h2 K:=by
   intro d
   induction d with
   |zero=>
    intro k hk hb;rw[F77.sL6];rw[L7 ah,aK];refine IX I2 S2 hm A2 ?_
    have ok:nh (E.ses i) c:=λx hx=>by obtain⟨j,hj⟩:=N7 hx;exact hb j x (by have:=(Ml.1 hj).1;omega) hj
    unfold fC at f;rw[LY ah,LY (λw=>w.2 (hw w.1)),LY (λw=>w ok)]at f;exact f
   |succ d ih=>
    intro k hk hb;rw[F77.sL6];rw[Mg ah,aO];have m:k<(kq c).length:=ah;obtain⟨x,hx⟩: ∃x,(kq c)[k]? =some x:=⟨_,Mj m⟩;rcases R with R|⟨b,Lc,ep,gb,Ab,g⟩
    ·rw[R]at m;simp at m
    rw[ep];refine⟨ah,ah,aH (n:=x) (by simp only[aL];rw[At.rd Ab,show 0+Int.toNat (Nat.cast k:Int)*1=k by simp];exact g k x hx) ?_⟩;refine IM (a8 rfl ?_)
    have u: ¬(mK x/\(E.ses i).there x.toNat=true)->K (ap 221) h2:=λw=>by have D: ¬nh (E.ses i) c:=λok=>w (ok x (Mc hx));unfold fC at f;rw[LY ah,LY (λw=>w.2 (hw w.1)),L4 D]at f;exact f
    by_cases hr:mK x
    ·rw[Mg hr,MF,aK];refine⟨hr.1,hr.2,a8 (by simp only[aL];exact I2.thr hi (r:=x.toNat) (by unfold mK at hr;omega) ah) ?_⟩;refine aR (λw=>u λv=>by rw[v.2]at w;cases w) λw=> ?_;rw[show ax ((Nat.cast k:Int)+1)=((k+1:Nat):Int) by rw[wrap_i64 ah (by have:=wV c;omega)];omega];rw[<-ep];refine ih (k+1) ah λj y hj hy=> ?_;by_cases ej:j=k
     ·subst ej;rw[hx]at hy;injection hy with hy;subst hy;exact⟨hr,by simpa using w⟩
     ·exact hb j y ah hy
    ·rw[L7 hr,MS,aO];exact u λw=>hr w.1
  exact⟨_,t l 0 ah λj x hj=>ah⟩
 refine aH (n:=c.kind) (by rw[r];rfl) (aH (n:=c.op) (by rw[r];rfl) (aH (n:=c.dst) (by rw[r];rfl) (aH (n:=c.a) (by rw[r];rfl) (aH (n:=c.b) (by rw[r];rfl) (aH (n:=c.c) (by rw[r];rfl) (aH (n:=(c.mask:Int)) (by rw[r];rfl) ?_))))));refine yD λh2 O2=>a8 rfl ?_;have A2:=A1.only O2 ak;have r2: ∀k,rd h2 ⟨h.size,k,none⟩=([ap c.kind,ap c.op,ap c.dst,ap c.a,ap c.b,ap c.c,.int .u8 (c.mask:Int)]:List Value)[k]? :=λk=>At.rd A2 k
 have rest:(ym c.kind->mK c.dst)-> ∀hh,aM [] h1 hh->Cl 121 [sr c] hh (λA z=>cF (some A) (λB o C=>F77.wk6 (aw e) ⟨e,3+24*i,none⟩ (aw h.size) B o C (Nat.cast o:Int) 0 z K)):=λhw hh O=>
  uG λh3 pp l cc O3 R=>⟨_,_,_,rfl,fin hw h3 pp l cc (O.trans O3 ak) (by
   obtain⟨el,R⟩:=R;refine⟨el,?_⟩;rcases R with R|⟨b,Lc,ep,gb,Ab,g⟩
   ·exact .inl R
   ·exact .inr ⟨b,Lc,ep,by have:=O1.size;have:=O.size;omega,Ab,g⟩)⟩
 by_cases hwk:ym c.kind
 ·rw[Mg hwk,aO];refine aH (n:=c.dst) (by rw[r2];rfl) (IM (a8 rfl ?_));by_cases hd:mK c.dst
  ·rw[Mg hd,MF,aK];refine aH (n:=c.kind) (by rw[r2];rfl) (aH (n:=c.op) (by rw[r2];rfl) (aH (n:=c.dst) (by rw[r2];rfl) (aH (n:=c.a) (by rw[r2];rfl) (aH (n:=c.b) (by rw[r2];rfl) (aH (n:=c.c) (by rw[r2];rfl) (aH (n:=(c.mask:Int)) (by rw[r2];rfl) ?_))))));exact rest (λ_=>hd) h2 O2
  ·rw[L7 hd,MS,aO];have:=hK h2 (O1.trans O2 ak);unfold fC at this;rw[LY ah,L4 ⟨hwk,hd⟩]at this;exact this
 ·rw[L7 hwk,aK];refine aH (n:=c.kind) (by rw[r2];rfl) (aH (n:=c.op) (by rw[r2];rfl) (aH (n:=c.dst) (by rw[r2];rfl) (aH (n:=c.a) (by rw[r2];rfl) (aH (n:=c.b) (by rw[r2];rfl) (aH (n:=c.c) (by rw[r2];rfl) (aH (n:=(c.mask:Int)) (by rw[r2];rfl) ?_))))));exact rest (λw=>Mw w hwk) h2 O2
def rZ(x:gi)(c:lY):gi:={x with cal:=c,pend:=true,job:=0}
def Eh{E:gQ}{X:SX}{c:lY}(I:dI h e E)(S:bT h E.s L X)(D:e∉L)(hm:c.mask<256)
  (hO:(i<0\/4<=i)-> ∀h',aM [] h h'->K (ap 222) h')
  (hB: ∀k:Nat,k<4->i=(k:Int)->(E.ses k).pend=true-> ∀h',aM [] h h'->K (ap 220) h')
  (hR: ∀k:Nat,k<4->i=(k:Int)->(E.ses k).pend=false->fC X.n (E.ses k) c≠0-> ∀h',aM [] h h'->K (ap (fC X.n (E.ses k) c)) h')
  (hK: ∀k:Nat,k<4->i=(k:Int)->(E.ses k).pend=false->fC X.n (E.ses k) c=0-> ∀h',dI h' e (E.put k (rZ (E.ses k) c))->aM [e] h h'->K (ap 0) h'):
  Cl 24 [bf e,ap i,sr c] h K:=by
 refine F24.spec ?_;have he:e<h.size:=At.lt I;refine aW λh1 A1 O1 z1=> ?_;simp only[aL,LX];have S1:=S.only0 O1;have I1:=I.only0 O1;refine mP (λq=>aQ rfl (hO q h1 O1)) λk hk ek=>aQ rfl ?_;have hB:=hB k hk ek;have hR:=hR k hk ek;have hK:=hK k hk ek;show aJ false _ _;rw[aK];have r: ∀j,rd h1 ⟨h.size,j,none⟩=([ap c.kind,ap c.op,ap c.dst,ap c.a,ap c.b,ap c.c,.int .u8 (c.mask:Int)]:List Value)[j]? :=λj=>At.rd A1 j;refine a8 (n:=(E.ses k).pend) (by simp only[aL];exact I1.pend hk rfl) (aR (λq=>hB q h1 O1) λq=> ?_);refine aH (n:=c.kind) (by rw[r];rfl) (aH (n:=c.op) (by rw[r];rfl) (aH (n:=c.dst) (by rw[r];rfl) (aH (n:=c.a) (by rw[r];rfl) (aH (n:=c.b) (by rw[r];rfl) (aH (n:=c.c) (by rw[r];rfl) (aH (n:=(c.mask:Int)) (by rw[r];rfl) ?_))))));refine yw hk I1 S1 ah hm λh2 O2=>aH rfl ?_;have O12:=O1.trans O2 ak;refine aR (λw=>hR q (by simpa using w) h2 O12) λw=> ?_;have w:fC X.n (E.ses k) c=0:=by simpa using w
 have A2:=A1.only O2 ak;have I2:=I1.only0 O2;have r2: ∀j,rd h2 ⟨h.size,j,none⟩=([ap c.kind,ap c.op,ap c.dst,ap c.a,ap c.b,ap c.c,.int .u8 (c.mask:Int)]:List Value)[j]? :=λj=>At.rd A2 j;refine aH (n:=c.kind) (by rw[r2];rfl) (aH (n:=c.op) (by rw[r2];rfl) (aH (n:=c.dst) (by rw[r2];rfl) (aH (n:=c.a) (by rw[r2];rfl) (aH (n:=c.b) (by rw[r2];rfl) (aH (n:=c.c) (by rw[r2];rfl) (aH (n:=(c.mask:Int)) (by rw[r2];rfl) ?_))))));obtain⟨x,ex⟩: ∃x,x=E.ses k:=⟨_,rfl⟩;rw[<-ex]at hK w;have p0:E=E.put k x:=by rw[ex,oM]
 rw[p0]at I2
 have xF: ∀{hh:aI} {y:gi} {j:Nat} {v:Value} {c':lY} {KK:aI->Prop},dI hh e (E.put k y)->j<7->v.oneCell'=true->(∀q,q<7->cC c' q=if q=j then v else cC y.cal q)->
   (∀h',dI h' e (E.put k {y with cal:=c'})->aM [e] hh h'->KK h')->aY hh (Addr.add (Addr.add ⟨e,3+24*k,none⟩ 12) j) v KK:=λ{hh y j v c' KK} I hj hv hc g=>by
  rw[aL,aL];refine dI.setS (x:={y with cal:=c'}) I hk (j:=12+j) ah ah hv (λq hq=> ?_) λh' I' O' _=> ?_
  ·rw[cW];exact GG hj hc q hq
  ·rw[eO]at I';exact g h' I' O'
 have T: ∀{a b:aI},aM [e] h2 a->aM [e] a b->aM [e] h2 b:=λp q=>p.trans q λb hb _=>hb;rw[sR];refine xF (j:=0) (c':=⟨c.kind,x.cal.op,x.cal.dst,x.cal.a,x.cal.b,x.cal.c,x.cal.mask⟩) I2 ah rfl (λq hq=>by rcases q with _|_|_|_|_|_|_|q<;>first|rfl|omega) λh3 I3 O3=> ?_;refine xF (j:=1) (c':=⟨c.kind,c.op,x.cal.dst,x.cal.a,x.cal.b,x.cal.c,x.cal.mask⟩) I3 ah rfl (λq hq=>by rcases q with _|_|_|_|_|_|_|q<;>first|rfl|omega) λh4 I4 O4=> ?_;refine xF (j:=2) (c':=⟨c.kind,c.op,c.dst,x.cal.a,x.cal.b,x.cal.c,x.cal.mask⟩) I4 ah rfl (λq hq=>by rcases q with _|_|_|_|_|_|_|q<;>first|rfl|omega) λh5 I5 O5=> ?_;refine xF (j:=3) (c':=⟨c.kind,c.op,c.dst,c.a,x.cal.b,x.cal.c,x.cal.mask⟩) I5 ah rfl (λq hq=>by rcases q with _|_|_|_|_|_|_|q<;>first|rfl|omega) λh6 I6 O6=> ?_;refine xF (j:=4) (c':=⟨c.kind,c.op,c.dst,c.a,c.b,x.cal.c,x.cal.mask⟩) I6 ah rfl (λq hq=>by rcases q with _|_|_|_|_|_|_|q<;>first|rfl|omega) λh7 I7 O7=> ?_;refine xF (j:=5) (c':=⟨c.kind,c.op,c.dst,c.a,c.b,c.c,x.cal.mask⟩) I7 ah rfl (λq hq=>by rcases q with _|_|_|_|_|_|_|q<;>first|rfl|omega) λh8 I8 O8=> ?_;refine xF (j:=6) (c':=c) I8 ah rfl (λq hq=>by rcases q with _|_|_|_|_|_|_|q<;>first|rfl|omega) λh9 I9 O9=> ?_;have O29:=T (T (T (T (T (T O3 O4) O5) O6) O7) O8) O9;rw[sR,aL,aL];refine dI.setS (x:={x with cal:=c,pend:=true}) I9 hk (j:=19) ah ah rfl (λq hq=>by rw[cW];exact xv (x:={x with cal:=c}) q hq) λf I10 O10 _=> ?_;rw[eO]at I10;rw[sR,aL,aL];refine dI.setS (x:={x with cal:=c,pend:=true,job:=0}) I10 hk (j:=20) ah ah rfl (λq hq=>by rw[cW];exact Cp (x:={x with cal:=c,pend:=true}) (n:=0) q hq) λd I11 O11 _=> ?_;rw[eO]at I11;exact hK (by rw[ex];exact q) w d I11 ((O12.mono ak).trans (T (T O29 O10) O11) λb hb _=>hb)
def qn(h:aI)(r N:Nat)(f:Int->Int)(B:List Nat):Prop:=
 ∃lo M S W p c,Rf lo h r M S W N f p c (λ_=> [])/\1<=W/\W<=4/\lo<=h.size/\B=r::M::S::(List.range W).flatMap λk=>aV (p k)
def qn.only(H:qn h r N f B)(O:aM S h h')(hS: ∀b∈S,b∉B):qn h' r N f B:=by obtain⟨lo,M,T,W,p,c,H,w1,w4,hl,e⟩:=H;subst e;refine⟨lo,M,T,W,p,c,H.only O (λhm=>hS _ hm ak) (λhm=>hS _ hm ak) (λhm=>hS _ hm ak) (λk hk b hb hm=>hS _ hm ?_),w1,w4,Nc hl O.size,rfl⟩;simp only[List.mem_cons,Nz,MW];exact .inr (.inr (.inr ⟨k,hk,hb⟩))
def qn.only0(H:qn h r N f B)(O:aM [] h h'):qn h' r N f B:=H.only O ak
def qn.lt{h:aI}(H:qn h r N f B): ∀b∈B,b<h.size:=λb hb=>by
 obtain⟨lo,M,T,W,p,c,H,w1,w4,hl,e⟩:=H;subst e;obtain⟨h1,h2,h3,h4⟩:=H.lt;simp only[List.mem_cons,Nz,MW]at hb;rcases hb with e|e|e|⟨k,hk,hb⟩
 ·omega
 ·omega
 ·omega
 ·exact(h4 k hk b hb).2
def GB{h:aI}(hK: ∀h' r B,qn h' r 0 (λ_=>0) B->(∀b∈B,h.size<=b)->aM [] h h'->K (bf r) h'):Cl 67 [ap x] h K:=by refine IJ λh' r M T H O=> ?_;have hw:=rT x;refine hK h' r _ ⟨h.size,M,T,(xf x).toNat,_,_,H,ah,ah,O.size,rfl⟩ (λb hb=> ?_) O;have g:=H.ge;simp[aV]at hb;omega
def Ey{h:aI}{r N:Nat}{f:Int->Int}{B:List Nat}{K:KK}(H:qn h r N f B){x:Nat}(hx:x<4294967296)(hN:N<=LB)(hK: ∀h',qn h' r (N+1) (uY f x (f x+1)) B->aM B h h'->K aE h'):Cl 210 [bf r,aq (x:Int)] h K:=by obtain⟨lo,M,T,W,p,c,H,w1,w4,hl,e⟩:=H;refine GY H ah hN λh' H' O=>hK h' ⟨lo,M,T,W,p,c,H',w1,w4,Nc hl O.size,e⟩ (O.mono λb hb _=> ?_);subst e;simp at hb;simp[hb]
def yg(f:Int->Int)(x:Int):Int->Int:=if f x=0 then f else uY f x (f x-1)
def Hq(H:qn h r N f B)(hN:N<=LB)(hK: ∀h' n,qn h' r (N+1) (yg f x) B->aM B h h'->K (ap n) h'):Cl 209 [bf r,aq x] h K:=by
 obtain⟨lo,M,T,W,p,c,H,w1,w4,hl,e⟩:=H;unfold yg at hK;refine IS H hN (λe0=> ?_) λe0 h' H' O=> ?_
 ·rw[L4 e0]at hK;exact hK h _ ⟨lo,M,T,W,p,c,H.grow ah,w1,w4,hl,e⟩ (aM.refl _ _)
 ·rw[LY e0]at hK;refine hK h' _ ⟨lo,M,T,W,p,c,H',w1,w4,Nc hl O.size,e⟩ (O.mono λb hb _=> ?_);subst e;simp at hb;simp[hb]
def fL(E:gQ)(x k:Nat):Nat:=if(E.ses (k/6)).there (k%6)=true/\(E.ses (k/6)).hnd (k%6)=x then 1 else 0
def fT(g:Nat->Nat):Nat->Nat
 |0=>0
 |n+1=>fT g n+g n
def sD(h: ∀j,j≠k->g' j=g j): ∀n,k<n->fT g' n+g k=fT g n+g' k:=by
 have low: ∀n,n<=k->fT g' n=fT g n:=by
  intro n
  induction n with
  |zero=>intro _;rfl
  |succ n ih=>intro hn;unfold fT;rw[ih ah,h n ah]
 intro n
 induction n with
 |zero=>intro hk;omega
 |succ n ih=>
  intro hk;unfold fT;by_cases e:n=k
  ·subst e;rw[low n (Mb _)];omega
  ·have:=ih ah;rw[h n e];omega
def oF: ∀n,k<n->1<=g k->1<=fT g n:=by
 intro n
 induction n with
 |zero=>intro hk;omega
 |succ n ih=>
  intro hk h1;unfold fT;by_cases e:n=k
  ·subst e;omega
  ·have:=ih ah h1;omega
def lH(E:gQ)(x:Nat):Nat:=fT (fL E x) 24
def lf(f:Int->Int)(E:gQ):Prop:= ∀x:Nat,f (x:Int)=(lH E x:Int)
def iB(x:gi)(d:Nat):gi:={x with there:=iZ x.there d false,hnd:=iZ x.hnd d 0}
def setS(x:gi)(d v:Nat):gi:={x with there:=iZ x.there d true,hnd:=iZ x.hnd d v}
def xE{E:gQ}{x:gi}(hd:d<6)(hx: ∀q,q≠d->x.there q=(E.ses i).there q/\x.hnd q=(E.ses i).hnd q)(v:Nat): ∀j,j≠6*i+d->fL (E.put i x) v j=fL E v j:=λj hj=>by
 unfold fL;by_cases e:j/6=i
 ·have:=hx (j%6) ah;rw[e,cW,this.1,this.2]
 ·rw[show(E.put i x).ses (j/6)=E.ses (j/6)from cK e]
def xe{E:gQ}(C:lf f E)(hi:i<4)(hd:d<6):
  lf (if(E.ses i).there d=true then yg f ((E.ses i).hnd d:Nat)else f) (E.put i (iB (E.ses i) d)):=λv=>by
 have up:=sD (g:=fL E v) (g':=fL (E.put i (iB (E.ses i) d)) v) (k:=6*i+d) (xE hd (λq hq=>⟨cK hq,cK hq⟩) v) 24 ah
 have e0:fL (E.put i (iB (E.ses i) d)) v (6*i+d)=0:=by unfold fL;rw[show(6*i+d)/6=i by omega,show(6*i+d)%6=d by omega,cW,LY];intro c;rw[show(iB (E.ses i) d).there d=false from dt]at c;cases c.1
 have e1:fL E v (6*i+d)=if(E.ses i).there d=true/\(E.ses i).hnd d=v then 1 else 0:=by unfold fL;rw[show(6*i+d)/6=i by omega,show(6*i+d)%6=d by omega]
 rw[e0,e1]at up;have Cv:=C v;unfold lH at Cv ⊢;by_cases t:(E.ses i).there d=true
 ·rw[L4 t];have Ch:=C ((E.ses i).hnd d)
  have pos:1<=lH E ((E.ses i).hnd d):=by refine oF (k:=6*i+d) 24 ah ?_;unfold fL;rw[show(6*i+d)/6=i by omega,show(6*i+d)%6=d by omega,L4 ⟨t,rfl⟩];exact Mb _
  unfold yg;rw[LY ah];unfold uY;by_cases q:(E.ses i).hnd d=v
  ·rw[L4 ah,Ch,q];rw[L4 ⟨t,q⟩]at up;unfold lH;omega
  ·rw[LY ah,Cv];rw[LY (λw=>q w.2)]at up;omega
 ·rw[LY t,Cv];rw[LY (λw=>t w.1)]at up;omega
def DN{f:Int->Int}{E:gQ}{i d v0:Nat}(C:lf f E)(hi:i<4)(hd:d<6)(ht:(E.ses i).there d=false):
  lf (uY f (v0:Int) (f (v0:Int)+1)) (E.put i (setS (E.ses i) d v0)):=λv=>by
 have up:=sD (g:=fL E v) (g':=fL (E.put i (setS (E.ses i) d v0)) v) (k:=6*i+d) (xE hd (λq hq=>⟨cK hq,cK hq⟩) v) 24 ah
 have e0:fL (E.put i (setS (E.ses i) d v0)) v (6*i+d)=if v0=v then 1 else 0:=by unfold fL;rw[show(6*i+d)/6=i by omega,show(6*i+d)%6=d by omega,cW,show(setS (E.ses i) d v0).there d=true from dt,show(setS (E.ses i) d v0).hnd d=v0 from dt];simp
 have e1:fL E v (6*i+d)=0:=by unfold fL;rw[show(6*i+d)/6=i by omega,show(6*i+d)%6=d by omega,ht];simp
 rw[e0,e1]at up;have Cv:=C v;have C0:=C v0;unfold lH at Cv ⊢;unfold uY;by_cases q:v0=v
 ·subst q;rw[L4 rfl,C0];rw[L4 rfl]at up;unfold lH;omega
 ·rw[LY ah,Cv];rw[LY q]at up;omega
def iu(x:gi)(er:Int)(n:Nat):gi:={x with err:=er,num:=n,ansd:=true,pend:=false}
def vZ{E:gQ}(I:dI h e E)(hi:i<4)(ha:E.ans<1000000000)(hK: ∀h',dI h' e {E.put i (iu (E.ses i) er n)with ans:=E.ans+1}->aM [e] h h'->K aE h'):
  Cl 168 [bf e,au ⟨e,3+24*i,none⟩,.agg #[ap er,ar (n:Int)]] h K:=by
 refine F168.spec ?_;refine aW λh1 A1 O1 z1=> ?_;simp only[aL,LX];have I1:=I.only0 O1;refine aH (n:=er) (by rw[At.rd A1];rfl) (aH (n:=(n:Int)) (by rw[At.rd A1];rfl) ?_);obtain⟨x,ex⟩: ∃x,x=E.ses i:=⟨_,rfl⟩;rw[<-ex]at hK;have p0:E=E.put i x:=by rw[ex,oM]
 rw[p0]at I1;have T: ∀{a b:aI},aM [e] h1 a->aM [e] a b->aM [e] h1 b:=λp q=>p.trans q λb hb _=>hb;refine dI.setS (x:={x with err:=er}) I1 hi (j:=21) ah ah rfl (λq hq=>by rw[cW];exact Hz q hq) λh2 I2 O2 _=> ?_;rw[eO]at I2;refine dI.setS (x:={x with err:=er,num:=n}) I2 hi (j:=22) ah ah rfl (λq hq=>by rw[cW];exact Hu (x:={x with err:=er}) q hq) λh3 I3 O3 _=> ?_;rw[eO]at I3;refine dI.setS (x:={x with err:=er,num:=n,ansd:=true}) I3 hi (j:=23) ah ah rfl (λq hq=>by rw[cW];exact EE (x:={x with err:=er,num:=n}) q hq) λh4 I4 O4 _=> ?_;rw[eO]at I4;refine dI.setS (x:={x with err:=er,num:=n,ansd:=true,pend:=false}) I4 hi (j:=19) ah ah rfl (λq hq=>by rw[cW];exact xv (x:={x with err:=er,num:=n,ansd:=true}) q hq) λh5 I5 O5 _=> ?_;rw[eO]at I5;refine aH I5.ans ?_
 rw[show ax (((E.put i {x with err:=er,num:=n,ansd:=true,pend:=false}).ans:Int)+1)=((E.ans+1:Nat):Int) by rw[show(E.put i {x with err:=er,num:=n,ansd:=true,pend:=false}).ans=E.ans from rfl,wrap_i64 ah ah];omega]
 refine dI.setA I5 λh6 I6 O6 _=> ?_;exact hK h6 I6 (((O1.mono ak).trans (T (T (T O2 O3) O4) O5) λb hb _=>hb).trans O6 λb hb _=>hb)
def qY{h:aI}{e N i:Nat}{E:gQ}{K:KK}{f:Int->Int}{B:List Nat}(I:dI h e E)(R:qn h E.r N f B)(hD:e∉B)(hi:i<4){d:Nat}(hd:d<6)(ed:(E.ses i).cal.dst=(d:Int))(hN:N<=LB)
  (hK: ∀h',dI h' e (E.put i (iB (E.ses i) d))->qn h' E.r (N+1) (if(E.ses i).there d=true then yg f ((E.ses i).hnd d:Nat)else f) B->aM (e::B) h h'->K aE h'):
  Cl 166 [bf e,au ⟨e,3+24*i,none⟩] h K:=by
 refine F166.spec ?_;simp only[aL,LX];have dd:Int.toNat (d:Int)=d:=Md d;have rd0: ∀{hh:aI} {E':gQ},dI hh e E'->(E'.ses i).cal.dst=(d:Int)->rd hh ⟨e,3+24*i+12+2,none⟩=some (ap (d:Int)):=λ{hh E'} II e'=>by rw[II.dst hi ah,e']
 refine aH (rd0 I ed) ⟨ah,ah,?_⟩;rw[dd];refine a8 (I.thr hi hd ah) (aH (I.hnd hi hd ah) (aW λh1 A1 O1 z1=> ?_));have I1:=I.only0 O1;refine⟨trivial,trivial,trivial,trivial,trivial,aH (rd0 I1 ed) ⟨rfl,trivial,trivial,ah,ah,trivial,?_⟩⟩;refine a8 (I1.thr hi hd ah) (aH (I1.hnd hi hd ah) ⟨rfl,?_⟩);refine aU A1 ak rfl λh2 A2 O2 z2=>aU A2 ak rfl λh3 A3 O3 z3=> ?_;have he:=At.lt I;have O03:aM [] h h3:=(O1.trans O2 (by intro x hx hl;simp at hx;omega)).trans O3 (by intro x hx hl;simp at hx;omega);have I3:=I.only0 O03;have R3:=R.only0 O03
 have fin: ∀{hh:aI} {f':Int->Int},dI hh e E->qn hh E.r (N+1) f' B->f'=(if(E.ses i).there d=true then yg f ((E.ses i).hnd d:Nat)else f)->aM (e::B) h hh->F166.wk3 ⟨e,3+24*i,none⟩ hh K:=λ{hh f'} II RR ef OO=>by
  unfold F166.wk3;simp only[aL,LX];refine aH (rd0 II ed) ⟨ah,ah,?_⟩;rw[dd];obtain⟨x,ex⟩: ∃x,x=E.ses i:=⟨_,rfl⟩;rw[<-ex]at hK ef;have p0:E=E.put i x:=by rw[ex,oM]
  rw[p0]at II;refine dI.setS (x:={x with there:=iZ x.there d false}) II hi (j:=2*d) ah ah rfl (λq hq=>by rw[cW];exact xh hd q hq) λh4 I4 O4 _=> ?_;rw[eO]at I4;refine dI.setS (x:=iB x d) I4 hi (j:=2*d+1) ah ah rfl (λq hq=>by rw[cW];exact xJ (x:={x with there:=iZ x.there d false}) (n:=0) hd q hq) λh5 I5 O5 _=> ?_;rw[eO]at I5;have O45:aM [e] hh h5:=O4.trans O5 λb hb _=>hb;subst ef;exact hK h5 I5 (RR.only O45 λb hb=>by simp at hb;subst hb;exact hD) (OO.trans O45 λb hb _=>by simp at hb;simp[hb])
 refine a8 (n:=(E.ses i).there d) (by rw[At.rd A3];rfl) (aR (λt=> ?_) λt=> ?_)
 ·refine aQ I3.r (aH (n:=((E.ses i).hnd d:Int)) (by rw[At.rd A3];rfl) ?_);refine Hq R3 hN λh4 n R4 O4=>aH rfl ?_;exact fin (I3.only O4 hD) R4 (by rw[L4 t]) ((O03.mono ak).trans O4 λb hb _=>by simp[hb])
 ·have R3':qn h3 E.r (N+1) f B:=by
   obtain⟨lo,M,T,W,p,c,H,w1,w4,hl,e⟩:=R3;exact⟨lo,M,T,W,p,c,H.grow ah,w1,w4,hl,e⟩
  exact fin I3 R3' (by rw[LY (by rw[t];simp)]) (O03.mono ak)
def DJ{h:aI}{e N i:Nat}{E:gQ}{K:KK}{f:Int->Int}{B:List Nat}(I:dI h e E)(R:qn h E.r N f B)(C:lf f E)(hD:e∉B)(hi:i<4){d v:Nat}(hd:d<6)(ed:(E.ses i).cal.dst=(d:Int))(hv:v<4294967296)(hN:N+1<=LB)
  (hK: ∀h' f',dI h' e (E.put i (setS (E.ses i) d v))->qn h' E.r (N+2) f' B->lf f' (E.put i (setS (E.ses i) d v))->aM (e::B) h h'->K aE h'):
  Cl 167 [bf e,au ⟨e,3+24*i,none⟩,aq (v:Int)] h K:=by
 refine F167.spec ?_;simp only[aL,LX];refine qY I R hD hi hd ed ah λh1 I1 R1 O1=>⟨rfl,?_⟩;have C1:=xe C hi hd;have dd:Int.toNat (d:Int)=d:=Md d;refine aH (n:=(d:Int)) (by rw[I1.dst hi ah,cW];exact congrArg (λz=>some (ap z)) ed) ⟨ah,ah,?_⟩;rw[dd];obtain⟨x,ex⟩: ∃x,x=iB (E.ses i) d:=⟨_,rfl⟩;rw[<-ex]at I1 C1;refine dI.setS (x:={x with there:=iZ x.there d true}) I1 hi (j:=2*d) ah ah rfl (λq hq=>by rw[cW];exact xh hd q hq) λh4 I4 O4 _=> ?_;rw[eO]at I4;refine dI.setS (x:=setS x d v) I4 hi (j:=2*d+1) ah ah rfl (λq hq=>by rw[cW];exact xJ (x:={x with there:=iZ x.there d true}) (n:=v) hd q hq) λh5 I5 O5 _=> ?_;rw[eO]at I5;have O45:aM [e] h1 h5:=O4.trans O5 λb hb _=>hb;have R5:=R1.only O45 λb hb=>by simp at hb;subst hb;exact hD
 refine aQ I5.r ?_;refine Ey R5 hv ah λh6 R6 O6=>⟨rfl,?_⟩;have ht:((E.put i x).ses i).there d=false:=by rw[cW,ex];exact dt
 have C2:=DN (v0:=v) C1 hi hd ht;rw[cW,eO]at C2;have a:setS x d v=setS (E.ses i) d v:=by rw[ex];unfold setS iB;rw[nX,nX]
 rw[a]at C2 I5;exact hK h6 _ (I5.only O6 hD) R6 C2 ((O1.trans O45 λb hb _=>by simp at hb;simp[hb]).trans O6 λb hb _=>by simp[hb])
def sL(S:gi):List Value:=[sC S 0,sC S 1,sC S 2,sC S 3,sC S 4,sC S 5,sC S 6,sC S 7,sC S 8,sC S 9,sC S 10,sC S 11,sC S 12,sC S 13,sC S 14,sC S 15,sC S 16,sC S 17,sC S 18,sC S 19,sC S 20,sC S 21,sC S 22,sC S 23]
def wF{h:aI}{v:List Value}{x:Int}{S:gi}{G:Nat->aI->Prop}(r: ∀j,j<24->v[Int.toNat x*24+j]? =some (sC S j))(hG: ∀h',At h' h.size (sL S)->aM [] h h'->G h.size h'):
  bQ (v[Int.toNat x*24+0]?) (λb1=>aS .u32 (v[Int.toNat x*24+1]?) (λn2=>bQ (v[Int.toNat x*24+2]?) (λb3=>aS .u32 (v[Int.toNat x*24+3]?) (λn4=>bQ (v[Int.toNat x*24+4]?) (λb5=>aS .u32 (v[Int.toNat x*24+5]?) (λn6=>bQ (v[Int.toNat x*24+6]?) (λb7=>aS .u32 (v[Int.toNat x*24+7]?) (λn8=>bQ (v[Int.toNat x*24+8]?) (λb9=>aS .u32 (v[Int.toNat x*24+9]?) (λd=>bQ (v[Int.toNat x*24+10]?) (λm=>aS .u32 (v[Int.toNat x*24+11]?) (λt=>aS .i64 (v[Int.toNat x*24+12]?) (λi=>aS .i64 (v[Int.toNat x*24+13]?) (λR=>aS .i64 (v[Int.toNat x*24+14]?) (λk=>aS .i64 (v[Int.toNat x*24+15]?) (λA=>aS .i64 (v[Int.toNat x*24+16]?) (λq=>aS .i64 (v[Int.toNat x*24+17]?) (λP=>aS .u8 (v[Int.toNat x*24+18]?) (λU=>bQ (v[Int.toNat x*24+19]?) (λZ=>aS .i64 (v[Int.toNat x*24+20]?) (λa4=>aS .i64 (v[Int.toNat x*24+21]?) (λM=>aS .u64 (v[Int.toNat x*24+22]?) (λa2=>bQ (v[Int.toNat x*24+23]?) (λa3=>bg h (.cells #[aB,(aq (0:Int)),aB,(aq (0:Int)),aB,(aq (0:Int)),aB,(aq (0:Int)),aB,(aq (0:Int)),aB,(aq (0:Int)),(ap (0:Int)),(ap (0:Int)),(ap (0:Int)),(ap (0:Int)),(ap (0:Int)),(ap (0:Int)),(.int .u8 (0:Int)),aB,(ap (0:Int)),(ap (0:Int)),(ar (0:Int)),aB] 129) (λa B=>aY B (Addr.add (aw a) 0) (aD b1) (λN=>aY N (Addr.add (aw a) 1) (aq n2) (λC=>aY C (Addr.add (aw a) 2) (aD b3) (λb=>aY b (Addr.add (aw a) 3) (aq n4) (λV=>aY V (Addr.add (aw a) 4) (aD b5) (λc=>aY c (Addr.add (aw a) 5) (aq n6) (λa0=>aY a0 (Addr.add (aw a) 6) (aD b7) (λF=>aY F (Addr.add (aw a) 7) (aq n8) (λW=>aY W (Addr.add (aw a) 8) (aD b9) (λf=>aY f (Addr.add (aw a) 9) (aq d) (λO=>aY O (Addr.add (aw a) 10) (aD m) (λD=>aY D (Addr.add (aw a) 11) (aq t) (λH=>aY H (Addr.add (aw a) 12) (ap i) (λn=>aY n (Addr.add (aw a) 13) (ap R) (λa5=>aY a5 (Addr.add (aw a) 14) (ap k) (λL=>aY L (Addr.add (aw a) 15) (ap A) (λz=>aY z (Addr.add (aw a) 16) (ap q) (λg=>aY g (Addr.add (aw a) 17) (ap P) (λI=>aY I (Addr.add (aw a) 18) (.int .u8 U) (λl=>aY l (Addr.add (aw a) 19) (aD Z) (λu=>aY u (Addr.add (aw a) 20) (ap a4) (λJ=>aY J (Addr.add (aw a) 21) (ap M) (λY=>aY Y (Addr.add (aw a) 22) (ar a2) (λQ=>aY Q (Addr.add (aw a) 23) (aD a3) (λa1=>G a a1))))))))))))))))))))))))))))))))))))))))))))))))):=by
 refine a8 (r 0 ah) ?_;refine aH (r 1 ah) ?_;refine a8 (r 2 ah) ?_;refine aH (r 3 ah) ?_;refine a8 (r 4 ah) ?_;refine aH (r 5 ah) ?_;refine a8 (r 6 ah) ?_;refine aH (r 7 ah) ?_;refine a8 (r 8 ah) ?_;refine aH (r 9 ah) ?_;refine a8 (r 10 ah) ?_;refine aH (r 11 ah) ?_;refine aH (r 12 ah) ?_;refine aH (r 13 ah) ?_;refine aH (r 14 ah) ?_;refine aH (r 15 ah) ?_;refine aH (r 16 ah) ?_;refine aH (r 17 ah) ?_;refine aH (r 18 ah) ?_;refine a8 (r 19 ah) ?_;refine aH (r 20 ah) ?_;refine aH (r 21 ah) ?_;refine aH (r 22 ah) ?_;refine a8 (r 23 ah) ?_;refine aW λh1 A1 O1 z1=> ?_;show rH (aw h.size) 0 (sL S) h1 λh'=>G h.size h';refine jN (o:=0) (sL S) 0 _ h1 A1 (by simp[sL]) (λw hw=> ?_) λh2 A2 O2 z2=>hG h2 ?_ (O1.trans O2 (by intro y hy hl;simp at hy;omega))
 ·simp only[sL,List.mem_cons,MR,Nk]at hw;rcases hw with e|e|e|e|e|e|e|e|e|e|e|e|e|e|e|e|e|e|e|e|e|e|e|e<;>subst e<;>exact FU _
 ·simpa[sL]using A2
def HI{h:aI}{e:Nat}{E:gQ}(I:dI h e E){Q:List Value->Prop}(hQ: ∀v,(∀(k j:Nat),k<4->j<24->v[Int.toNat (k:Int)*24+j]? =some (sC (E.ses k) j))->Q v):Jy h (Addr.add (aw e) 3) 96 Q:=by
 refine⟨dQ 96 λq=>eC E (3+q),cj _ _,λj v hj=> ?_,hQ _ λk j hk hj=> ?_⟩
 ·have hl:j<96:=by have:=(Ml.1 hj).1;rwa[cj]at this
  rw[dR hl]at hj;injection hj with hj;subst hj;rw[aL,aL,LX];exact I.rd ah
 ·rw[dR ah,show 3+(Int.toNat (k:Int)*24+j)=3+24*k+j by omega,vh hk hj]
def kL(E:gQ):Prop:= ∃k,k<4/\(E.ses k).pend=true
def tR(E:gQ):Prop:= ∃k,k<4/\(E.ses k).pend=true/\0<(E.ses k).job
def Ar(E:gQ):Prop:= ∃k,k<4/\(E.ses k).pend=true/\(E.ses k).cal.kind=8
def ww{k:Nat}(hk:k<4):ax ((k:Int)+1)=((k+1:Nat):Int):=by rw[wrap_i64 ah ah];omega
def ru{h:aI}{e:Nat}{E:gQ}{K:KK}(I:dI h e E)(hT:kL E-> ∀h',aM [] h h'->K aC h')(hF: ¬kL E-> ∀h',aM [] h h'->K aB h'):Cl 78 [bf e] h K:=by
 refine F78.spec _ h K ?_;refine HI I λv r=> ?_
 have a: ∀(d k:Nat) (hh:aI),d+k=4->(∀j,j<k->(E.ses j).pend=false)->aM [] h hh->F78.wL2 (d+1) v (k:Int) hh K:=by
  intro d
  induction d with
  |zero=>
   intro k hh hk hb O;rw[F78.sL2];rw[L7 ah,aK];refine hF (λ⟨j,hj,hp⟩=> ?_) hh O;rw[hb j ah]at hp;cases hp
  |succ d ih=>
   intro k hh hk hb O;rw[F78.sL2];rw[Mg ah,aO];refine⟨ah,ah,wF (S:=E.ses k) (λj hj=>r k j ah hj) λh2 A2 O2=> ?_⟩;refine a8 (n:=(E.ses k).pend) (by rw[aL,At.rd A2];rfl) (aR (λp=> ?_) λp=> ?_)
   ·exact hT ⟨k,ah,p⟩ h2 (O.trans O2 ak)
   ·rw[ww ah];refine ih (k+1) h2 ah (λj hj=> ?_) (O.trans O2 ak);by_cases q:j=k
    ·rw[q];exact p
    ·exact hb j ah
 exact⟨_,a 4 0 h ah (λj hj=>ah) (aM.refl _ _)⟩
def vr{h:aI}{e:Nat}{E:gQ}{K:KK}(I:dI h e E)(hT:tR E-> ∀h',aM [] h h'->K aC h')(hF: ¬tR E-> ∀h',aM [] h h'->K aB h'):Cl 170 [bf e] h K:=by
 refine F170.spec _ h K ?_;refine HI I λv r=> ?_
 have a: ∀(d k:Nat) (hh:aI),d+k=4->(∀j,j<k-> ¬((E.ses j).pend=true/\0<(E.ses j).job))->aM [] h hh->F170.wL2 (d+1) v (k:Int) hh K:=by
  intro d
  induction d with
  |zero=>
   intro k hh hk hb O;rw[F170.sL2];rw[L7 ah,aK];exact hF (λ⟨j,hj,hp⟩=>hb j ah hp) hh O
  |succ d ih=>
   intro k hh hk hb O;rw[F170.sL2];rw[Mg ah,aO];refine⟨ah,ah,wF (S:=E.ses k) (λj hj=>r k j ah hj) λh2 A2 O2=> ?_⟩
   have on: ¬((E.ses k).pend=true/\0<(E.ses k).job)->F170.wL2 (d+1) v (ax ((k:Int)+1)) h2 K:=λg=>by
    rw[ww ah];refine ih (k+1) h2 ah (λj hj=> ?_) (O.trans O2 ak);by_cases q:j=k
    ·rw[q];exact g
    ·exact hb j ah
   refine a8 (n:=(E.ses k).pend) (by rw[aL,At.rd A2];rfl) (aR (λp=> ?_) λp=> ?_)
   ·refine aH (n:=((E.ses k).job:Int)) (by rw[aL,At.rd A2];rfl) (aR (λq=> ?_) λq=> ?_)
    ·have q:(0:Int)<((E.ses k).job:Int):=Mn q;exact hT ⟨k,ah,p,ah⟩ h2 (O.trans O2 ak)
    ·have q: ¬(0:Int)<((E.ses k).job:Int):=Me q;exact on λw=>q ah
   ·exact on λw=>by rw[p]at w;cases w.1
 exact⟨_,a 4 0 h ah (λj hj=>ah) (aM.refl _ _)⟩
def BL{h:aI}{e:Nat}{E:gQ}{K:KK}(I:dI h e E)(hT:Ar E-> ∀h',aM [] h h'->K aC h')(hF: ¬Ar E-> ∀h',aM [] h h'->K aB h'):Cl 214 [bf e] h K:=by
 refine F214.spec _ h K ?_;refine HI I λv r=> ?_
 have a: ∀(d k:Nat) (hh:aI),d+k=4->(∀j,j<k-> ¬((E.ses j).pend=true/\(E.ses j).cal.kind=8))->aM [] h hh->F214.wL2 (d+1) v (k:Int) hh K:=by
  intro d
  induction d with
  |zero=>
   intro k hh hk hb O;rw[F214.sL2];rw[L7 ah,aK];exact hF (λ⟨j,hj,hp⟩=>hb j ah hp) hh O
  |succ d ih=>
   intro k hh hk hb O;rw[F214.sL2];rw[Mg ah,aO];refine⟨ah,ah,wF (S:=E.ses k) (λj hj=>r k j ah hj) λh2 A2 O2=> ?_⟩
   have on: ¬((E.ses k).pend=true/\(E.ses k).cal.kind=8)->F214.wL2 (d+1) v (ax ((k:Int)+1)) h2 K:=λg=>by
    rw[ww ah];refine ih (k+1) h2 ah (λj hj=> ?_) (O.trans O2 ak);by_cases q:j=k
    ·rw[q];exact g
    ·exact hb j ah
   refine a8 (n:=(E.ses k).pend) (by rw[aL,At.rd A2];rfl) (aR (λp=> ?_) λp=> ?_)
   ·refine aH (n:=(E.ses k).cal.kind) (by rw[aL,aL,At.rd A2];rfl) (aR (λq=> ?_) λq=> ?_)
    ·exact hT ⟨k,ah,p,by simpa using q⟩ h2 (O.trans O2 ak)
    ·exact on λw=>by simp[w.2]at q
   ·exact on λw=>by rw[p]at w;cases w.1
 exact⟨_,a 4 0 h ah (λj hj=>ah) (aM.refl _ _)⟩
def uF(s p r:Nat):gQ:=⟨s,p,r,λ_=>⟨λ_=>false,λ_=>0,⟨0,0,0,0,0,0,0⟩,false,0,0,0,false⟩,0⟩
def IZ(s p r:Nat):lf (λ_=>0) (uF s p r):=λx=>by
 have: ∀n,fT (fL (uF s p r) x) n=0:=by
  intro n
  induction n with
  |zero=>rfl
  |succ n ih=>unfold fT;rw[ih];unfold fL uF;simp
 unfold lH;rw[this]
 rfl
structure EG where
 E:gQ
 n:Nat
 room:Nat
 fo:Nat->Nat
 gg:Nat->Nat
 off:Bool
 N:ay
 P:PS
 L:List Nat
 B:List Nat
 M:Nat
 f:Int->Int
structure dh(h:aI)(e:Nat)(G:EG):Prop where
 W:yo h G.E.p G.E.s G.n G.room G.fo G.gg G.off G.N G.P G.L
 R:qn h G.E.r G.M G.f G.B
 I:dI h e G.E
 C:lf G.f G.E
 de:e∉G.L/\(¬dD G.E.p G.P e)/\e∉G.B
 dB: ∀b∈G.B,b∉G.L/\ ¬dD G.E.p G.P b
 rg: ∀i,i<4-> ∀r,r<6->(G.E.ses i).there r=true->isN G.N ((G.E.ses i).hnd r)
 r0: ∀i,i<4-> ∀r,r<6->(G.E.ses i).there r=false->(G.E.ses i).hnd r=0
 mq: ∀i,i<4->(G.E.ses i).cal.mask<256
 po:cu G.n G.fo G.gg
def lX(e:Nat)(G:EG):List Nat:=e::(G.L++(G.B++EH G.E.p G.P))
structure bD(e:Nat)(G:EG)(h:aI)(G':EG)(h':aI):Prop where
 O: ∀T,(∀b∈lX e G,b∈T)->aM T h h'
 B: ∀b∈lX e G',b∈lX e G\/h.size<=b
def bo:b∈lX e G↔b=e\/b∈G.L\/b∈G.B\/dD G.E.p G.P b:=by simp only[lX,List.mem_cons,List.mem_append,gd]
def bD.refl:bD e G h G h:=⟨λT _=>aM.refl _ _,λb hb=> .inl hb⟩
def bD.size{h h':aI}(a:bD e G h G' h'):h.size<=h'.size:=(a.O (lX e G) λb hb=>hb).size
def bD.trans(a:bD e G h G' h')(b:bD e G' h' G'' h''):bD e G h G'' h'':=by
 have hz:=a.size;refine⟨λT hT=>(a.O T hT).trans (b.O (lX e G') λx hx=>hx) λx hx hl=> ?_,λx hx=> ?_⟩
 ·rcases a.B x hx with h|h
  ·exact hT x h
  ·omega
 ·rcases b.B x hx with h|h
  ·exact a.B x h
  ·exact .inr ah
def bD.only0(O:aM [] h h'):bD e G h G h':=⟨λT _=>O.mono ak,λb hb=> .inl hb⟩
def bD.only{h0:aI}(a:bD e G h G' h')(O:aM [] h0 h)(hb: ∀b∈lX e G,h0.size<=b):aM [] h0 h':=
 O.trans (a.O (lX e G) λb hb=>hb) λb c hl=>by have:=hb b c;omega
def bD.ge{h:aI}(a:bD e G h G' h')(hz:z<=h.size)(hb: ∀b∈lX e G,z<=b): ∀b∈lX e G',z<=b:=λb c=>by
 rcases a.B b c with h|h
 ·exact hb b h
 ·omega
def bD.some(O:aM S h h')(hS: ∀b∈S,b∈lX e G)(hb: ∀b∈lX e G',b∈lX e G):bD e G h G' h':=⟨λ_ hT=>O.mono λb hb _=>hT b (hS b hb),λb h=> .inl (hb b h)⟩
def dh.only0(W:dh h e G)(O:aM [] h h'):dh h' e G:=⟨W.W.only0 O,W.R.only0 O,W.I.only0 O,W.C,W.de,W.dB,W.rg,W.r0,W.mq,W.po⟩
def dh.lt{h:aI}(W:dh h e G): ∀b∈lX e G,b<h.size:=λb hb=>by
 rcases bo.1 hb with hb|hb|hb|hb
 ·subst hb;exact At.lt W.I
 ·exact W.W.S.lt b hb
 ·exact W.R.lt b hb
 ·exact W.W.H.lt b hb
def yo.only{h h':aI}{p s n room:Nat}{fo gg:Nat->Nat}{off:Bool}{N:ay}{P:PS}{L S:List Nat}(W:yo h p s n room fo gg off N P L)(O:aM S h h')(h1: ∀b∈S,b∉L)(h2: ∀b∈S,¬dD p P b):yo h' p s n room fo gg off N P L:=
 ⟨W.S.only O h1,W.H.only O h2,W.Ok,W.po,W.D⟩
def cd.ext(H:cd n fo N P)(ok:cX n N)(E:Ex N N'):cd n fo N' P/\fH n N' P=fH n N P:=by have em: ∀j∈P.jobs,_:=λj hj=>(H.mst j hj).1.same ok E;refine⟨⟨λj hj=>⟨(H.mst j hj).1.ext ok E,by rw[(em j hj).1,(em j hj).2.1];exact(H.mst j hj).2⟩,H.at_,H.one,H.loc,H.T,H.len,H.last,H.steals⟩,?_⟩;unfold fH;rw[Nb λj hj=>(em j hj).2.2]
def oJ{X:SX}(H:bT h s L X)(hK:K (ap (X.room:Int)) h):Cl 70 [bf s] h K:=by obtain⟨B,F,e,H⟩:=H;refine F70.spec ?_;exact aH (by rw[aL,At.rd H.m.S];rfl) hK
def Ea{X:SX}(H:bT h s L X)(hv:v<X.n)(hg:X.g v<X.n)
  (hK: ∀h' L' N' r er,iC X.room X.N (X.g v) 0 1 N' r er->bT h' s L' {X with N:=N'}->aM L h h'->bC L L' h->K (.tuple #[aq (r:Int),ap (er:Int)]) h'):
  Cl 208 [bf s,ap (v:Int)] h K:=by
 have ok:=H.ok;refine F208.spec ?_;refine eX H λc h1 Or g1 O1=>aQ rfl ?_;refine iE Or ok.2.2.1 hv (aH rfl ?_);have H1:=H.only0 O1;have e0:lvl X.n X.N 0=X.n:=by unfold lvl;rw[L4 ah]
 have e1:lvl X.n X.N 1=X.n:=by unfold lvl;rw[L4 ah]
 refine sJ H1 (l:=X.g v) (a:=0) (b:=1) hg (.inl ah) (.inl ah) (by rw[e0];exact hg) (by rw[e1];exact hg) λh2 L2 N2 r er R S2 O2 F2=>⟨_,_,rfl,?_⟩
 exact hK h2 L2 N2 r er R S2 ((O1.mono ak).trans O2 λb hb _=>hb) λb hb=>by
  rcases F2 b hb with q|q
  ·exact .inl q
  ·exact .inr (by have:=O1.size;omega)
def FK{h:aI}(h1:1<=n)(h8:n<=8)(r1:1<=room)(r2:room<=32768)
  (hK: ∀h' e G,dh h' e G->G.E.ses=(uF 0 0 0).ses->G.E.ans=0->G.n=n->G.room=room->G.fo=fill n->G.gg=fill n->G.off=false->G.N=[]->G.P.jobs=[]->G.P.ws.length=CF x->locs G.P.ws=[]->G.P.last=0->G.M=0->(∀b∈lX e G,h.size<=b)->aM [] h h'->K (.tuple #[bf e,ap 0]) h'):
  Cl 18 [ap (n:Int),ap (room:Int),ap x] h K:=by
 refine F18.spec ?_;refine xL (Q:=QL n (fill n) []) h1 h8 r1 r2 λk1 s L S1 O1 g1=>⟨_,_,rfl,?_⟩;have S1:bT k1 s L (XL n room (fill n) (fill n) [] false):=S1;rw[show((0:Int) !=0)=false from rfl,aK];refine Jh (s:=s) (x:=x) λk2 p P H2 e1 e2 e3 e4 e5 g2 O2=>aQ rfl ?_;refine qW H2 (aH rfl ?_);refine GB λk3 r B R3 g3 O3=>aQ rfl ?_;refine aW λk4 A4 O4 z4=> ?_;have wl:=BO x;obtain⟨Ok,lo,ql⟩:=vQ (n:=n) (fo:=fill n) (N:=[]) (P:=P) ah e2 e3 e4 e5;have z1:=O1.size;have z2:=O2.size;have z3:=O3.size;have hL:=S1.lt;have hP:=H2.lt;have hB:=R3.lt;have W2:yo k2 p s n room (fill n) (fill n) false [] P L:=⟨S1.only0 O2,H2,Ok,mS n,λb hb hm=>by have:=g2 b hb;have:=hL b hm;omega⟩;have W4:=(W2.only0 O3).only0 O4;have R4:=R3.only0 O4;have I4:dI k4 k3.size (uF s p r):=A4;refine hK k4 k3.size ⟨uF s p r,n,room,fill n,fill n,false,[],P,L,B,0,λ_=>0⟩ ⟨W4,R4,I4,IZ s p r,⟨λhm=>by have:=hL _ hm;omega,λhm=>by have:=hP _ hm;omega,λhm=>by have:=hB _ hm;omega⟩,λb hb=>⟨λhm=>by have:=hL b hm;have:=g3 b hb;omega,λhm=>by have:=hP b hm;have:=g3 b hb;omega⟩,λi hi r hr ht=>(by cases ht),λi hi r hr ht=>rfl,λi hi=>(by show 0<256;omega),mS n⟩ rfl rfl rfl rfl rfl rfl rfl rfl e2 e1 lo e4 rfl (λb hb=> ?_) (((O1.trans O2 ak).trans O3 ak).trans O4 ak);rcases bo.1 hb with hb|hb|hb|hb
 ·subst hb;omega
 ·exact g1 b hb
 ·have:=g3 b hb;omega
 ·have:=g2 b hb;omega
def gS(G:EG)(i:Nat)(er:Int)(n:Nat):EG:={G with E:={G.E.put i (iu (G.E.ses i) er n)with ans:=G.E.ans+1}}
def fP{E:gQ}:(E.put i x).ses k=if k=i then x else E.ses k:=rfl
def pf{E E':gQ}(hh: ∀k,(E'.ses k).there=(E.ses k).there/\(E'.ses k).hnd=(E.ses k).hnd)(x:Nat):lH E' x=lH E x:=by
 have:fL E' x=fL E x:=by funext k;unfold fL;rw[(hh (k/6)).1,(hh (k/6)).2]
 unfold lH;rw[this]
def dK{h:aI}{e:Nat}{G:EG}{K:KK}{i:Nat}(W:dh h e G)(hi:i<4){er:Int}{n:Nat}(ha:G.E.ans<1000000000)(hK: ∀h',dh h' e (gS G i er n)->bD e G h (gS G i er n) h'->K aE h'):
  Cl 168 [bf e,au ⟨e,3+24*i,none⟩,.agg #[ap er,ar (n:Int)]] h K:=by
 refine vZ W.I hi ha λh' I' O'=> ?_
 have hs: ∀k,((gS G i er n).E.ses k).there=(G.E.ses k).there/\((gS G i er n).E.ses k).hnd=(G.E.ses k).hnd/\((gS G i er n).E.ses k).cal=(G.E.ses k).cal:=λk=>by
  show((G.E.put i (iu (G.E.ses i) er n)).ses k).there=_/\((G.E.put i (iu (G.E.ses i) er n)).ses k).hnd=_/\((G.E.put i (iu (G.E.ses i) er n)).ses k).cal=_;rw[fP];by_cases q:k=i
  ·rw[L4 q,q];exact⟨rfl,rfl,rfl⟩
  ·rw[LY q];exact⟨rfl,rfl,rfl⟩
 refine hK h' ⟨W.W.only O' (λb hb=>by simp at hb;subst hb;exact W.de.1) (λb hb=>by simp at hb;subst hb;exact W.de.2.1),W.R.only O' (λb hb=>by simp at hb;subst hb;exact W.de.2.2),I',λx=> ?_,W.de,W.dB,λk hk r hr ht=> ?_,λk hk r hr ht=> ?_,λk hk=> ?_,W.po⟩ (bD.some O' (λb hb=>by simp at hb;subst hb;exact bo.2 (.inl rfl)) λb hb=>hb)
 ·rw[pf λk=>⟨(hs k).1,(hs k).2.1⟩];exact W.C x
 ·rw[(hs k).2.1];rw[(hs k).1]at ht;exact W.rg k hk r hr ht
 ·rw[(hs k).2.1];rw[(hs k).1]at ht;exact W.r0 k hk r hr ht
 ·rw[(hs k).2.2];exact W.mq k hk
def wu(G:EG)(i d v:Nat)(f':Int->Int):EG:={G with E:=G.E.put i (setS (G.E.ses i) d v),M:=G.M+2,f:=f'}
def wd{h:aI}{e:Nat}{G:EG}{K:KK}{i d v:Nat}(W:dh h e G)(hi:i<4)(hd:d<6)(ed:(G.E.ses i).cal.dst=(d:Int))(hv:isN G.N v)(hM:G.M+1<=LB)
  (hK: ∀h' f',dh h' e (wu G i d v f')->bD e G h (wu G i d v f') h'->K aE h'):Cl 167 [bf e,au ⟨e,3+24*i,none⟩,aq (v:Int)] h K:=by
 have lt:=W.W.S.isN_lt hv;refine DJ W.I W.R W.C W.de.2.2 hi hd ed ah hM λh' f' I' R' C' O'=> ?_
 have hS: ∀b∈e::G.B,b∉G.L/\ ¬dD G.E.p G.P b:=λb hb=>by
  rcases List.mem_cons.1 hb with q|q
  ·subst q;exact⟨W.de.1,W.de.2.1⟩
  ·exact W.dB b q
 refine hK h' f' ⟨W.W.only O' (λb hb=>(hS b hb).1) (λb hb=>(hS b hb).2),R',I',C',W.de,W.dB,λk hk r hr ht=> ?_,λk hk r hr ht=> ?_,λk hk=> ?_,W.po⟩ (bD.some O' (λb hb=> ?_) λb hb=>hb)
 ·have ht:((G.E.put i (setS (G.E.ses i) d v)).ses k).there r=true:=ht;show isN G.N (((G.E.put i (setS (G.E.ses i) d v)).ses k).hnd r);rw[fP]at ht ⊢;by_cases q:k=i
  ·rw[L4 q]at ht ⊢;by_cases w:r=d
   ·subst w;rw[show(setS (G.E.ses i) r v).hnd r=v from dt];exact hv
   ·rw[show(setS (G.E.ses i) d v).hnd r=(G.E.ses i).hnd r from cK w];rw[show(setS (G.E.ses i) d v).there r=(G.E.ses i).there r from cK w]at ht;exact W.rg i hi r hr ht
  ·rw[LY q]at ht ⊢;exact W.rg k hk r hr ht
 ·have ht:((G.E.put i (setS (G.E.ses i) d v)).ses k).there r=false:=ht;show((G.E.put i (setS (G.E.ses i) d v)).ses k).hnd r=0;rw[fP]at ht ⊢;by_cases q:k=i
  ·rw[L4 q]at ht ⊢;by_cases w:r=d
   ·subst w;rw[show(setS (G.E.ses i) r v).there r=true from dt]at ht;cases ht
   ·rw[show(setS (G.E.ses i) d v).hnd r=(G.E.ses i).hnd r from cK w];rw[show(setS (G.E.ses i) d v).there r=(G.E.ses i).there r from cK w]at ht;exact W.r0 i hi r hr ht
  ·rw[LY q]at ht ⊢;exact W.r0 k hk r hr ht
 ·show((G.E.put i (setS (G.E.ses i) d v)).ses k).cal.mask<256;rw[fP];by_cases q:k=i
  ·rw[L4 q];exact W.mq i hi
  ·rw[LY q];exact W.mq k hk
 ·rcases List.mem_cons.1 hb with q|q
  ·subst q;exact bo.2 (.inl rfl)
  ·exact bo.2 (.inr (.inr (.inl q)))
def Ko(p:Nat->Bool)(k:Nat):List Nat:=(List.range k).filter p
def Cn(p:Nat->Bool)(k:Nat):Ko p (k+1)=Ko p k++if p k then [k]else []:=by unfold Ko;rw[Ou,Nx];cases h:p k<;>simp[h]
def tN(p:Nat->Bool)(k:Nat):Nat:=(Ko p k).length
def Dz(p:Nat->Bool):tN p 0=0:=rfl
def iN(p:Nat->Bool)(k:Nat):tN p (k+1)=tN p k+if p k then 1 else 0:=by unfold tN;rw[Cn,Mv];cases p k<;>rfl
def eI: ∀{k:Nat},(∀x,x<k->p x=q x)->tN p k=tN q k
 |0,_=>rfl
 |k+1,h=>by rw[iN,iN,eI λx hx=>h x ah,h k ah]
def sy(p:Nat->Bool)(a:Nat): ∀b,tN p (a+b)=tN p a+tN (λx=>p (a+x)) b
 |0=>by rw[Dz];rfl
 |b+1=>by rw[<-Nat.add_assoc,iN,sy p a b,iN];omega
def Bz(p:Nat->Bool): ∀k,tN p k<=k
 |0=>Mb _
 |k+1=>by have:=Bz p k;rw[iN];split<;>omega
def EC(k:Nat):tN (λ_=>true) k=k:=by
 induction k with
 |zero=>rfl
 |succ k ih=>rw[iN,ih];rfl
def AO(k:Nat):tN (λ_=>false) k=0:=by
 induction k with
 |zero=>rfl
 |succ k ih=>rw[iN,ih];rfl
def jC(h:x<2^n):x^^^2^n=2^n+x:=by
 refine Py λi=> ?_;rw[Nat.testBit_xor,Nat.testBit_two_pow];rcases Nat.lt_trichotomy i n with h1|h1|h1
 ·rw[Nat.testBit_two_pow_add_gt h1,L7 ah,Bool.xor_false]
 ·subst h1;rw[Nat.testBit_two_pow_add_eq,Mg rfl,Bool.xor_true]
 ·have e:2^(n+1)<=2^i:=NZ (by decide) h1;rw[NY]at e;rw[NP (show x<2^i by omega),NP (show 2^n+x<2^i by omega),L7 ah,Bool.xor_false]
def sA: ∀(n v:Nat) {p q:Nat->Bool},v<n->(∀x,x<2^n->p (x^^^2^v)=p x)->(∀x,x<2^n->q (x^^^2^v)=q x)->
  2*tN (λx=>if x.testBit v then q x else p x) (2^n)=tN p (2^n)+tN q (2^n)
 |0,v,p,q,hv,_,_=>ah
 |n+1,v,p,q,hv,hp,hq=>by
  have e:2^(n+1)=2^n+2^n:=by rw[NY];omega
  rw[e,sy,sy,sy];rcases Nat.lt_or_ge v n with h|h
  ·have cm: ∀x,x<2^n->2^n+(x^^^2^v)=(2^n+x)^^^2^v:=λx hx=>by
    have lt:x^^^2^v<2^n:=Nat.xor_lt_two_pow hx (Px (by decide) h);rw[<-jC lt,<-jC hx,Nat.xor_assoc,Nat.xor_assoc,Nat.xor_comm (2^v)]
   have i1:=sA n v (p:=p) (q:=q) h (λx hx=>hp x ah) λx hx=>hq x ah;have i2:=sA n v (p:=λx=>p (2^n+x)) (q:=λx=>q (2^n+x)) h (λx hx=>by show p _=p _;rw[cm x hx,hp _ ah]) λx hx=>by show q _=q _;rw[cm x hx,hq _ ah]
   have e2:tN (λx=>if(2^n+x).testBit v then q (2^n+x)else p (2^n+x)) (2^n)=tN (λx=>if x.testBit v then q (2^n+x)else p (2^n+x)) (2^n):=
    eI λx _=>by rw[Nat.testBit_two_pow_add_gt h]
   rw[e2];omega
  ·have:v=n:=ah;subst this;have p2:tN (λx=>p (2^v+x)) (2^v)=tN p (2^v):=eI λx hx=>by rw[<-jC hx,hp x ah]
   have q2:tN (λx=>q (2^v+x)) (2^v)=tN q (2^v):=eI λx hx=>by rw[<-jC hx,hq x ah]
   have l1:tN (λx=>if x.testBit v then q x else p x) (2^v)=tN p (2^v):=eI λx hx=>by rw[NP hx];rfl
   have l2:tN (λx=>if(2^v+x).testBit v then q (2^v+x)else p (2^v+x)) (2^v)=tN q (2^v):=eI λx hx=>by
    rw[Nat.testBit_two_pow_add_eq,NP hx,<-jC hx,hq x ah]
    rfl
   rw[p2,q2,l1,l2];omega
def FE(n:Nat)(f:Nat->Nat):Prop:= ∀j,j<n->f j<n/\ ∀i,i<n->f i=f j->i=j
def xH(H:cX n N)(hf:FE n f): ∀(d:Nat) {a v x:Nat},n-lvl n N a<=d->isN N a->v<lvl n N a->sm n f N a (x^^^2^f v)=sm n f N a x:=by
 intro d
 induction d with
 |zero=>
  intro a v x hd ha hv
  have h2:a<2:=by apply Mi;intro hn;have:=(H.at ha ah).1;omega
  rw[br h2,br h2]
 |succ d ih=>
  intro a v x hd ha hv;by_cases h2:a<2
  ·rw[br h2,br h2]
  ·obtain⟨h3,h4,h5,-,h6,h7⟩:=H.at ha ah;rw[cP H ha ah,cP H ha ah,ih ah h4 ah,ih ah h5 ah,Nat.testBit_xor,Nat.testBit_two_pow,L7 λq=>(by have:=(hf _ h3).2 v ah q;omega),Bool.xor_false]
def tA(n:Nat)(f:Nat->Nat)(N:ay)(a:Nat):Nat:=tN (sm n f N a) (2^n)
def cA(n:Nat)(f:Nat->Nat)(N:ay)(a:Nat):Nat:=tA n f N a/2^lvl n N a
def wS(H:cX n N)(hf:FE n f)(ha:isN N a)(h2:2<=a):2*tA n f N a=tA n f N (low N a)+tA n f N (high N a):=by
 obtain⟨h3,h4,h5,-,h6,h7⟩:=H.at ha h2;unfold tA;rw[<-sA n (f (lvl n N a)) (hf _ h3).1 (λx _=>xH H hf n ah h4 h6) λx _=>xH H hf n ah h5 h7]
 congr 1
 refine eI λx _=> ?_;rw[cP H ha h2]
def ul(h:a<2):tA n f N a=a*2^n:=by
 unfold tA;have:a=0\/a=1:=ah;rcases this with e|e<;>subst e
 ·rw[eI λx _=>br h];rw[show(λ_:Nat=>((0:Nat)==1))=λ_=>false from rfl,AO];omega
 ·rw[eI λx _=>br h];rw[show(λ_:Nat=>((1:Nat)==1))=λ_=>true from rfl,EC];omega
def tE(H:cX n N)(hf:FE n f): ∀(d:Nat) {a:Nat},n-lvl n N a<=d->isN N a->tA n f N a=cA n f N a*2^lvl n N a:=by
 intro d
 have base: ∀{a:Nat},a<2->tA n f N a=cA n f N a*2^lvl n N a:=λ{a} h=>by
  have e:lvl n N a=n:=by unfold lvl;rw[L4 h]
  unfold cA;rw[ul h,e,Nat.mul_div_cancel _ (NX n)]
 induction d with
 |zero=>
  intro a hd ha;refine base ?_;apply Mi;intro hn;have:=(H.at ha ah).1;omega
 |succ d ih=>
  intro a hd ha;by_cases h2:a<2
  ·exact base h2
  ·obtain⟨h3,h4,h5,-,h6,h7⟩:=H.at ha ah;have e:=wS H hf ha ah;rw[ih ah h4,ih ah h5]at e;obtain⟨u,hu⟩: ∃u,lvl n N (low N a)=lvl n N a+1+u:=⟨lvl n N (low N a)-lvl n N a-1,ah⟩;obtain⟨w,hw⟩: ∃w,lvl n N (high N a)=lvl n N a+1+w:=⟨lvl n N (high N a)-lvl n N a-1,ah⟩;rw[hu,hw,OG _ _ u,OG _ _ w,NY]at e
   have:tA n f N a=(cA n f N (low N a)*2^u+cA n f N (high N a)*2^w)*2^lvl n N a:=by
    generalize cA n f N (low N a)=p at e ⊢;generalize cA n f N (high N a)=q at e ⊢;generalize 2^u=r at e ⊢;generalize 2^w=s at e ⊢;generalize 2^lvl n N a=t at e ⊢;generalize tA n f N a=z at e ⊢
    have:p*(t*2*r)+q*(t*2*s)=2*((p*r+q*s)*t):=by
     rw[OH,Nat.mul_add]
     congr 1
     ·rw[show t*2*r=2*(r*t) by rw[NQ t 2,NK,NQ t r],Pd,NK]
     ·rw[show t*2*s=2*(s*t) by rw[NQ t 2,NK,NQ t s],Pd,NK]
    omega
   unfold cA;rw[Nat.div_mul_cancel];exact⟨_,by rw[this,NQ]⟩
def zy(h:a<2):cA n f N a=a:=by
 have e:lvl n N a=n:=by unfold lvl;rw[L4 h]
 unfold cA;rw[ul h,e,Nat.mul_div_cancel _ (NX n)]
def DH(H:cX n N)(hf:FE n f)(ha:isN N a)(h2:2<=a):
  cA n f N a=cA n f N (low N a)*2^(lvl n N (low N a)-lvl n N a-1)+cA n f N (high N a)*2^(lvl n N (high N a)-lvl n N a-1):=by
 obtain⟨h3,h4,h5,-,h6,h7⟩:=H.at ha h2;have e:=wS H hf ha h2;have t0:=tE H hf n ah ha;rw[tE H hf n ah h4,tE H hf n ah h5,t0]at e;obtain⟨u,hu⟩: ∃u,lvl n N (low N a)=lvl n N a+1+u:=⟨lvl n N (low N a)-lvl n N a-1,ah⟩;obtain⟨w,hw⟩: ∃w,lvl n N (high N a)=lvl n N a+1+w:=⟨lvl n N (high N a)-lvl n N a-1,ah⟩;rw[hu,hw]at e ⊢;rw[show lvl n N a+1+u-lvl n N a-1=u by omega,show lvl n N a+1+w-lvl n N a-1=w by omega];rw[OG _ _ u,OG _ _ w,NY]at e;have b:=NX (lvl n N a);generalize cA n f N (low N a)=p at e ⊢;generalize cA n f N (high N a)=q at e ⊢;generalize 2^u=r at e ⊢;generalize 2^w=s at e ⊢;generalize 2^lvl n N a=t at e b;generalize cA n f N a=z at e ⊢
 have:p*(t*2*r)+q*(t*2*s)=2*((p*r+q*s)*t):=by
  rw[OH,Nat.mul_add]
  congr 1
  ·rw[show t*2*r=2*(r*t) by rw[NQ t 2,NK,NQ t r],Pd,NK]
  ·rw[show t*2*s=2*(s*t) by rw[NQ t 2,NK,NQ t s],Pd,NK]
 exact Nat.eq_of_mul_eq_mul_right b ah
def zg(H:cX n N)(hf:FE n f)(ha:isN N a)(hk:k<=lvl n N a):cA n f N a*2^k<=2^n:=
 Nc (Oq _ (NZ (by decide) hk)) (by rw[<-tE H hf n ah ha];exact Bz _ _)
section
variable {i j k l m n o p q r s t:Int}{a b c d:Addr}{u v:Nat}{x y:az}{h:aI}{K:KK}
def F211.spec{a:Addr}(H:Cl 74 [au a,aq i] h λb c=>bQ (some b) λb=>aJ (!b) (K (.tuple #[ar 0,ap 101]) c) (bg c (.map #[] 0) λb c=>bg c (.cells #[aA none,.map none] 326) λc d=>aY d ((aw c).add 0) (au a) λd=>aY d ((aw c).add 1) (.map (some b)) λb=>aZ (rd b ((aw c).add 0)) λd=>bU (rd b ((aw c).add 1)) λc=>Cl 253 [.agg #[aA d,.map c],aq i] b λb c=>aS .u64 (some b) λb=>Cl 71 [au a,aq i] c λa c=>aS .i64 (some a) λa=>0<=a/\K (.tuple #[ar (IntKind.wrap .u64 (b*2^(min (a.toNat) (IntKind.bits .u64)))),ap 0]) c)):Cl 211 [au a,aq i] h K:=cN Tryz.func211 H
def F253.T:bh:=⟨[(8,[1,2,7,31,32]),(12,[1,2,7])],[(7,[[(0,[]),(1,[]),(2,[]),(4,[]),(5,[]),(6,[]),(9,[]),(3,[4,5,6,9]),(7,[9]),(8,[])]]),(10,[[(0,[]),(1,[]),(2,[]),(4,[]),(5,[]),(6,[]),(8,[]),(9,[]),(10,[]),(3,[0,4,5,6,8,9,10]),(7,[0,8,9,10]),(11,[0]),(12,[]),(13,[]),(14,[]),(15,[]),(16,[])]])]⟩
section
variable (n:Nat)(i:az)(j:Option Nat)(c:Int)(d:Addr)(g a b f:Int)(h:aI)(K:KK)
def F253.wL8:Prop:=Lp Tryz.f253 F253.T [1,1,1,1,0,1,0] n [(1,(aq c)),(2,(au d)),(7,(ar g)),(31,(.agg #[aq a,aq b])),(32,(ap f))] h K
def F253.JL8(A:Int->Addr->Int->Int->Int->Int->aI->Prop)(z:Int->Addr->Int->aI->Prop)(c:Int)(d:Addr)(g a b f:Int)(h:aI)(_K:KK):Prop:=aJ (f<2) ((0<=f/\f<2/\aS .u32 ([aq a,aq b]:List Value)[f.toNat]? (λe=>aZ (rd h (d.add 0)) λi=>bU (rd h (d.add 1)) λj=>aZ (rd h (d.add 0)) λk=>aZ (rd h (d.add 0)) λl=>Cl 253 [.agg #[aA i,.map j],aq e] h λi j=>aS .u64 (some i) λi=>aF (ar g)/\aF (au (d.add 0))/\aZ (rd j (d.add 0)) λm=>aG (aA m) (aA k)/\aF (aq e)/\aF (au (d.add 0))/\aZ (rd j (d.add 0)) λm=>aG (aA m) (aA l)/\aF (aq c)/\Cl 71 [aA k,aq e] j λe j=>aS .i64 (some e) λe=>aF (ar g)/\aF (au (d.add 0))/\aZ (rd j (d.add 0)) λk=>aG (aA k) (aA l)/\aF (aq c)/\Cl 71 [aA l,aq c] j λj k=>aS .i64 (some j) λj=>aF (ar g)/\0<=(ax ((ax (e-j))-1))/\A c d (IntKind.wrap .u64 (g+(IntKind.wrap .u64 (i*2^(min ((ax ((ax (e-j))-1)).toNat) (IntKind.bits .u64)))))) a b (ax (f+1)) k))) (z c d g h)
def F253.wk12:Prop:=bU (rd h (d.add 1)) λa=>lu h a .u32 .u32 c (ar g) λa=>K (ar g) a
def F253.sL8:F253.wL8 (n+1) c d g a b f h K=(F253.JL8 (λa b c d e f g=>F253.wL8 n a b c d e f g K) (λa b c d=>F253.wk12 a b c d K) c d g a b f h K):=by kernel_rfl
def F253.wk8:Prop:=(∃e,F253.wL8 e c d g a b f h K)
def F253.spec(H:bg h (.cells #[aA i,.map j] 326) λa b=>aJ (c<=1) (K (ar (IntKind.wrap .u64 c)) b) (bU (rd b ((aw a).add 1)) λd=>dT b d .u32 .u32 c λd=>aS .u64 (some (kU (ar 0) d)) λe=>aJ (Option.isSome d) (K (ar e) b) (aZ (rd b ((aw a).add 0)) λd=>aZ (rd b ((aw a).add 0)) λe=>Cl 72 [aA d,aq c] b λb d=>aS .u32 (some b) λb=>aF (au ((aw a).add 0))/\aZ (rd d ((aw a).add 0)) λf=>aG (aA f) (aA e)/\aF (aq c)/\aF (ap 0)/\Cl 73 [aA e,aq c] d λd e=>aS .u32 (some d) λd=>aF (ap 0)/\F253.wk8 c (aw a) 0 b d 0 e K))):Cl 253 [.agg #[aA i,.map j],aq c] h K:=cT F253.T Tryz.func253 H
end
end
def sc(hx:x=some (.map n))(hK:K n):bU x K:=⟨n,hx,hK⟩
def vi(X:SX)(m:List (Int×Value)):Prop:= ∀a v,m.lookup ((a:Nat):Int)=some v->v=ar (cA X.n X.f X.N a:Int)
def Ft(h:n<=8):2^n<=256:=Nc (NZ (by decide) h) (by decide)
def wW(hk:k<=64)(hx:x*2^k<jP):IntKind.wrap .u64 ((x:Int)*2^(min (Int.toNat ((k:Nat):Int)) (IntKind.bits .u64)))=((x*2^k:Nat):Int):=by
 have e:min (Int.toNat ((k:Nat):Int)) (IntKind.bits .u64)=k:=by rw[Md];show min k 64=k;omega
 rw[e,show(x:Int)*2^k=((x*2^k:Nat):Int) by simp,pC hx]
def K4{X:SX}(hf:FE X.n X.f)(hm:mb∉L): ∀(d:Nat) {h:aI} {a:Nat} {m:List (Int×Value)} {K:KK},X.n-lvl X.n X.N a<=d->bT h s L X->isN X.N a->bV h mb .u32 m->vi X m->
  (∀h' m',bV h' mb .u32 m'->vi X m'->aM [mb] h h'->K (ar (cA X.n X.f X.N a:Int)) h')->
  Cl 253 [.agg #[au (aw s),.map (some mb)],aq (a:Int)] h K:=by
 intro d
 have const: ∀{h:aI} {a:Nat} {m:List (Int×Value)} {K:KK},a<2->bV h mb .u32 m->vi X m->
   (∀h' m',bV h' mb .u32 m'->vi X m'->aM [mb] h h'->K (ar (cA X.n X.f X.N a:Int)) h')->
   Cl 253 [.agg #[au (aw s),.map (some mb)],aq (a:Int)] h K:=by
  intro h a m K h2 M hk hK;refine F253.spec _ _ _ h K ?_;refine aW λh1 A1 O1 z1=> ?_;rw[Mg ah,aO,pC (by unfold jP;omega)];have:=hK h1 m (M.only O1 ak) hk (O1.mono ak);rw[zy h2]at this;exact this
 induction d with
 |zero=>
  intro h a m K hd H ha M hk hK;refine const ?_ M hk hK;apply Mi;intro hn;have:=(H.ok.1.at ha ah).1;omega
 |succ d ih=>
  intro h a m K hd H ha M hk hK;by_cases h2:a<2
  ·exact const h2 M hk hK
  have ok:=H.ok;obtain⟨h3,h4,h5,-,h6,h7⟩:=ok.1.at ha ah;have l4:=lvl_le ok.1 h4;have l5:=lvl_le ok.1 h5;have hp:=Ft ok.2.2.1;refine F253.spec _ _ _ h K ?_;refine aW λh1 A1 O1 z1=> ?_;rw[L7 ah,aK];have lt:=M.lt;have M1:=M.only O1 ak;have H1:=H.only0 O1;simp only[aL,LX];refine sc (n:=some mb) (by rw[At.rd A1];rfl) (dg M1 (λhn=> ?_) λi v hv=> ?_)
  ·refine aH rfl ?_;rw[show Option.isSome (none:Option (Nat×Value))=false from rfl,aK];have rp:rd h1 (aw h.size)=some (au (aw s)):=by rw[At.rd A1];rfl
   refine aQ rp (aQ rp (iI H1 ha (aH rfl ⟨by trivial,aQ rp ⟨by trivial,by trivial,by trivial,fA H1 ha (aH rfl ⟨by trivial,?_⟩)⟩⟩)));unfold F253.wk8
   have last: ∀(h':aI) (m':List (Int×Value)),At h' h.size [au (aw s),.map (some mb)]->bV h' mb .u32 m'->vi X m'->aM [mb] h h'->
     F253.wk12 (a:Int) (aw h.size) (cA X.n X.f X.N a:Int) h' K:=by
    intro h' m' A M' l O;unfold F253.wk12;rw[aL,LX];refine sc (n:=some mb) (by rw[At.rd A];rfl) (fk M' λg M'' O'' x=>hK g _ M'' (λb v hb=> ?_) (O.trans O'' ak));rw[cr]at hb;by_cases e:(b:Int)=(a:Int)
    ·have:b=a:=ah;subst this;rw[L4 rfl]at hb;injection hb with hb;exact hb.symm
    ·rw[LY e]at hb;exact l b v hb
   have step: ∀(bk:Int->Addr->Int->Int->Int->Int->aI->Prop) (q:Int->Addr->Int->aI->Prop) (h':aI) (m':List (Int×Value)) (i c t:Nat),i<2->(if i=0 then low X.N a else high X.N a)=c->isN X.N c->lvl X.n X.N a<lvl X.n X.N c->t<=256->At h' h.size [au (aw s),.map (some mb)]->bV h' mb .u32 m'->vi X m'->aM [mb] h h'->
     (∀g o,At g h.size [au (aw s),.map (some mb)]->bV g mb .u32 o->vi X o->aM [mb] h g->bk (a:Int) (aw h.size) ((t+cA X.n X.f X.N c*2^(lvl X.n X.N c-lvl X.n X.N a-1):Nat):Int) (low X.N a:Int) (high X.N a:Int) ((i+1:Nat):Int) g)->
     F253.JL8 bk q (a:Int) (aw h.size) (t:Int) (low X.N a:Int) (high X.N a:Int) (i:Int) h' K:=by
    intro bk q h' m' i c t hi hc j y ht A M' l O hB;have lc:=lvl_le ok.1 j;unfold F253.JL8;rw[Mg ah,aO];refine⟨ah,ah,aH (n:=(c:Int)) ?_ ?_⟩
    ·rw[Md];subst hc;have:i=0\/i=1:=ah;rcases this with e|e<;>subst e<;>rfl
    ·rw[aL,LX,aL,LX];have rp: ∀{h':aI},At h' h.size [au (aw s),.map (some mb)]->rd h' (aw h.size)=some (au (aw s)):=λA=>by rw[At.rd A];rfl
     refine aQ (rp A) (sc (n:=some mb) (by rw[At.rd A];rfl) (aQ (rp A) (aQ (rp A) ?_)));have S':=H.only O λb hb hl=>by simp at hb;subst hb;exact hm hl
     refine ih ah S' j M' l λh2 m2 M2 k2 O2=>aH rfl ⟨by trivial,by trivial,?_⟩;have A2:=A.only O2 (by simp;omega);have S2:=S'.only O2 λb hb hl=>by simp at hb;subst hb;exact hm hl
     refine aQ (rp A2) ⟨by trivial,by trivial,by trivial,aQ (rp A2) ⟨by trivial,by trivial,dv S2 j (aH rfl ⟨by trivial,by trivial,aQ (rp A2) ⟨by trivial,by trivial,dv S2 ha (aH rfl ⟨by trivial,?_⟩)⟩⟩)⟩⟩
     have e1:ax (ax ((lvl X.n X.N c:Int)-(lvl X.n X.N a:Int))-1)=((lvl X.n X.N c-lvl X.n X.N a-1:Nat):Int):=by rw[wrap_i64 (n:=(lvl X.n X.N c:Int)-(lvl X.n X.N a:Int)) ah ah,wrap_i64 ah ah];omega
     have hb:=zg ok.1 hf j (k:=lvl X.n X.N c-lvl X.n X.N a-1) ah;have ew:ax ((i:Int)+1)=((i+1:Nat):Int):=by rw[wrap_i64 ah ah];omega
     rw[e1,wW ah (by unfold jP;omega),ew];generalize cA X.n X.f X.N c*2^(lvl X.n X.N c-lvl X.n X.N a-1)=z at hb hB ⊢;rw[show(t:Int)+(z:Int)=((t+z:Nat):Int) by omega,pC (by unfold jP;omega)];exact⟨ah,hB h2 m2 A2 M2 k2 (O.trans O2 ak)⟩
   have u:=zg ok.1 hf h4 (k:=lvl X.n X.N (low X.N a)-lvl X.n X.N a-1) ah;refine⟨3,?_⟩;rw[F253.sL8];refine step _ _ h1 m 0 (low X.N a) 0 ah rfl h4 h6 ah A1 M1 hk (O1.mono ak) λh2 m2 A2 M2 k2 O2=> ?_;rw[F253.sL8];refine step _ _ h2 m2 1 (high X.N a) _ ah rfl h5 h7 ah A2 M2 k2 O2 λh3 m3 A3 M3 k3 O3=> ?_;rw[F253.sL8];unfold F253.JL8;rw[L7 ah,aK,LX,<-DH ok.1 hf ha ah];exact last h3 m3 A3 M3 k3 O3
  ·have e:=hk a v hv;subst e;refine aH rfl ?_;rw[show Option.isSome (some (i,(ar (cA X.n X.f X.N a:Int))))=true from rfl,aO];exact hK h1 m M1 hk (O1.mono ak)
def Dq{X:SX}(hf:FE X.n X.f)(H:bT h s L X)(ha:isN X.N a)(hK: ∀h',aM [] h h'->K (.tuple #[ar (tA X.n X.f X.N a:Int),ap 0]) h'):
  Cl 211 [au (aw s),aq (a:Int)] h K:=by
 have ok:=H.ok;have hp:=Ft ok.2.2.1;have lc:=lvl_le ok.1 ha;refine F211.spec ?_;refine td H ha (a8 rfl ?_);rw[MF,aK];refine fa (k:= .u32) λh1 M1 O1 z1=>aW λh2 A2 O2 z2=> ?_;refine aU A2 ak rfl λh3 A3 O3 z3=>aU A3 ak rfl λh4 A4 O4 z4=> ?_;have n1:h.size∉[h1.size]:=by simp;omega
 have M4:=((M1.only O2 ak).only O3 n1).only O4 n1;have O04:aM [] h h4:=((O1.trans O2 ak).trans O3 (by intro b hb hl;simp at hb;omega)).trans O4 (by intro b hb hl;simp at hb;omega);have S4:=H.only0 O04;simp only[aL,LX];refine aQ (n:=some (aw s)) (by rw[At.rd A4];rfl) (sc (n:=some h.size) (by rw[At.rd A4];rfl) ?_);have hm:h.size∉L:=λhm=>Nat.lt_irrefl _ (H.lt _ hm);refine K4 hf hm X.n ah S4 ha M4 (λb v hb=>by cases hb) λh5 m5 M5 k5 O5=>aH rfl ?_;have O05:=O04.trans O5 (by intro b hb hl;simp at hb;omega);refine dv (H.only0 O05) ha (aH rfl ⟨ah,?_⟩);have hb:=Bz (sm X.n X.f X.N a) (2^X.n);have e:=tE ok.1 hf X.n ah ha;rw[wW ah (by rw[<-e];unfold jP tA;omega),<-e];exact hK h5 O05
end Go.Proofs.YtnofenejoebkhaaGreat.Ev
