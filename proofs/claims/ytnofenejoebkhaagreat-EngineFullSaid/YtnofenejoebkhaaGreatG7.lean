/- PART 7 OF WHAT THE LAW EngineFull STANDS ON: EngR5, EngT5, EngV5, EngW5, EngX5, ColA5, ColB5, KepA5, ClxA5, RtsF5, ClxB5, ClxC5, EngY5, FulA5, LjF5, EngZ5, CanA5, LawM5, LawN5, LawO5, LgF5, LawP5, LhF5, ColC5, EngC65, OncA5, OncB5, UndA5, LawR5, LawV5, LawW5. Conditions: none but those that each lemma states. -/
import Derived.Test.YtnofenejoebkhaaGreatG6
namespace Go.Proofs.YtnofenejoebkhaaGreat.Ev
open Go
set_option linter.defProp false
section
section
variable {h h':aA}{e s w:Nat}{G G0 G':EG}{K:KK}
def iF{draw:Int}(W:bV h e G)(hs:s<4)(hp:(G.E.ses s).pend=true)(solo: ∀k,k<4->k≠s->(G.E.ses k).pend=false)(hw:w<G.P.ws.length)(R:aA->EG->Prop)
  (hR: ∀{h1 G1},R h1 G1->bV h1 e G1/\ ∀k,k<4->s<k->(G1.E.ses k).pend=false) (hO: ∀{h1 G1 h2},R h1 G1->aF [] h1 h2->R h2 G1)
  (hs1: ∀{h1} {Q:KK},aF [] h h1->(∀b h2 G2,R h2 G2->Q (aw b) h2)->Cl (gw (G.E.ses s).cal.kind) [aX e,pt e s] h1 Q)
  (hE: ∀h1 G1,R h1 G1->F26.wk11 (ah e) (w:Int) draw h1 K):Cl 26 [aX e,ac (w:Int),ac draw] h K:=by
 refine vm W (λq h1 O1=> ?_) (λi h1 G1=>(i<=s/\G1=G/\aF [] h h1)\/(s<i/\R h1 G1)) (λh1 O1=> .inl ⟨Nat.zero_le _,rfl,O1⟩) (λ{i h1 G1 h2} I O=> ?_) (λ{i h1 G1} I=> ?_) (λ{i h1 G1} hi I hp'=> ?_) (λ{i h1 G1 Q} hi I hp' hQ=> ?_) (λ_ _ _ h1 G1 I=> ?_)
 ·exfalso;rcases q with q|q|q
  ·omega
  ·omega
  ·exact q ⟨s,hs,hp⟩
 ·rcases I with⟨a,b,c⟩|⟨a,b⟩
  ·exact .inl ⟨a,b,c.trans O Z⟩
  ·exact .inr ⟨a,hO b O⟩
 ·rcases I with⟨a,b,c⟩|⟨a,b⟩
  ·rw[b];exact W.only0 c
  ·exact(hR b).1
 ·rcases I with⟨a,b,c⟩|⟨a,b⟩
  ·by_cases q:i=s
   ·subst q;rw[b,hp]at hp';cases hp'
   ·exact .inl ⟨Y,b,c⟩
  ·exact .inr ⟨Y,b⟩
 ·rcases I with⟨a,b,c⟩|⟨a,b⟩
  ·by_cases q:i=s
   ·subst q;rw[b];exact hs1 c λb' h2 G2 R2=>hQ b' h2 G2 (.inr ⟨Y,R2⟩)
   ·rw[b,solo i hi q]at hp';cases hp'
  ·rw[(hR b).2 i hi a]at hp';cases hp'
 ·rcases I with⟨a,b,c⟩|⟨a,b⟩
  ·omega
  ·exact hE h1 G1 b
def oL: ∀{A B:aj},Ex A B->aT A<=aT B
 | [],B,_=>Nat.zero_le _
 |none::A,[],h=>oL (A:=A) (B:=[]) λi x hx=>by have:=h (i+1) x (by rw[oN];exact hx);simp[nd]at this
 |some x::A,[],h=>by have:=h 0 x (by simp[nd]);simp[nd]at this
 |o::A,p::B,h=>by
  have:=oL (A:=A) (B:=B) λi x hx=>by have:=h (i+1) x (by rw[oN];exact hx);rwa[oN]at this
  simp only[aT,List.countP_cons]at this ⊢;cases o with
  |none=>simp;omega
  |some x=>
   have h0:=h 0 x (by simp[nd]);have e:p=some x:=by simpa[nd]using h0
   subst e;omega
def yE{A B:aj}(E:Ex A B)(hc:aT B<=aT A):Ex B A:=λi x hx=>by
 apply Classical.byContradiction;intro hn
 have h0:nd A i=none:=by
  cases h:nd A i with
  |none=>rfl
  |some y=>
   have:=E i y h;rw[hx]at this;injection this with this;subst this;exact absurd h hn
 have hi:=eS.1 hx;have hl:=(List.getElem?_eq_some_iff.1 hi).1
 have h1:=oL (A:=A) (B:=B.set i none) λk y hy=>by
  rw[lO hl];split
  ·next e=>subst e;rw[h0]at hy;cases hy
  ·exact E k y hy
 have:=pW hi;omega
structure mz(G G':EG):Prop where
 E:G'.E=G.E
 n:G'.n=G.n
 fo:G'.fo=G.fo
 gg:G'.gg=G.gg
 room:G'.room=G.room
 off:G'.off=G.off
 ws:G'.P.ws.length=G.P.ws.length
 last:G'.P.last=G.P.last
 ids:G'.P.jobs.map (λj=>(j.id,j.G))=G.P.jobs.map λj=>(j.id,j.G)
 M:G.M<=G'.M/\G'.M<=G.M+1000
 sm: ∀k,k<4-> ∀r,r<6->(G.E.ses k).there r=true-> ∀y,sm G.n G.fo G'.N ((G.E.ses k).hnd r) y=sm G.n G.fo G.N ((G.E.ses k).hnd r) y
 phi:phi G.n G'.N G'.P<=phi G.n G.N G.P
 psi:psi G.n G'.N G'.P<=psi G.n G.N G.P
 bad:(∀j∈G.P.jobs,j.A.e=0)->Ev.psi G.n G.N G.P<=G.room-> ∀j∈G'.P.jobs,j.A.e=0
 sub:G.P.jobs=[]->Ex G'.N G.N
def uN{G G1:EG}(C1:oD G G1)(Ok:bF G1.n G1.fo G1.N G1.P):Ev.phi G.n G1.N G.P=Ev.phi G.n G.N G.P/\Ev.psi G.n G1.N G.P<=Ev.psi G.n G.N G.P:=by
 have fr: ∀j∈G.P.jobs,∀f∈j.A.fs,eO G1.n G1.fo G1.N f:=λj hj=>(Ok.mst j (by rw[C1.P];exact hj)).1.frs
 have em: ∀j∈G.P.jobs,dX G.n G1.N j.A.fs=dX G.n G.N j.A.fs:=λj hj=>by have:=jo (n:=G1.n) (fo:=G1.fo) C1.ex (fr j hj);rw[C1.n]at this;exact this.symm
 have en: ∀j∈G.P.jobs,fu G.n G1.N j.A.fs=fu G.n G.N j.A.fs:=λj hj=>by have:=kY (n:=G1.n) (fo:=G1.fo) C1.ex (fr j hj);rw[C1.n]at this;exact this.symm
 have hc:=C1.cnt;constructor
 ·unfold Ev.phi;rw[List.map_congr_left em]
 ·unfold Ev.psi;rw[List.map_congr_left en];omega
def tK.kept(P:tK w G G'):mz G G'/\ ∃k,G.P.ws[w]? =some k/\(Ev.phi G.n G'.N G'.P+1<=Ev.phi G.n G.N G.P\/(k.job=0/\k.q=[]/\dI G.P.ws G'.P.ws)):=by
 obtain⟨G1,N',P',L',k,C1,Ok1,e,Pk,hk,hph⟩:=P;obtain⟨s1,s2⟩:=uN C1 Ok1;have hn:=C1.n;have hP:=C1.P;have hroom:=C1.room;rw[hP]at Pk hk hph;rw[hn]at Pk hph;subst e;refine⟨⟨C1.E,hn,C1.fo,C1.gg,hroom,C1.off,Pk.alike.2.1,Pk.alike.1,Pk.alike.2.2,C1.M,λk' h4 r hr ht y=> ?_,?_,?_,λhb hps=> ?_,λhj=> ?_⟩,k,hk,?_⟩
 ·have hv:=C1.rg k' h4 r hr ht;have o1:=C1.ok
  have g1:sm G.n G.fo N' ((G.E.ses k').hnd r) y=sm G.n G.fo G1.N ((G.E.ses k').hnd r) y:=by rw[<-hn];exact Pk.ex.sm o1 hv
  have g2:sm G.n G.fo G.N ((G.E.ses k').hnd r) y=sm G.n G.fo G1.N ((G.E.ses k').hnd r) y:=by rw[<-hn];exact C1.ex.sm o1 hv
  show sm G.n G.fo N' _ y=_;rw[g1,g2]
 ·have:=Pk.le1;show Ev.phi G.n N' P'<=_;omega
 ·have:=Pk.le2;show Ev.psi G.n N' P'<=_;omega
 ·refine Pk.bad hb ?_;rw[hroom];omega
 ·have l2:=Pk.le2;have hj':P'.jobs=[]:=List.eq_nil_of_length_eq_zero (by have:=nk Pk.alike;rw[hj]at this;simpa using this);unfold Ev.psi at l2;rw[hj,hj']at l2;exact(yE Pk.ex (by simpa using l2)).trans C1.ex
 ·rcases hph with q|q
  ·left;show Ev.phi G.n N' P'+1<=_;omega
  ·exact .inr q
end
end
section
def Ew(op:Nat)(x y z:Bool):Bool:=if op=1 then !x else lu op x y z
def wG{n:Nat}{fo:Nat->Nat}{N:aj}{op a b c r:Nat}(hop:op=1\/op=2\/op=3\/op=4\/op=5)(R:iS n fo N (cQ op a b c).op (cQ op a b c).a0 (cQ op a b c).a1 (cQ op a b c).a2 r)(y:Nat):
  sm n fo N r y=Ew op (sm n fo N a y) (sm n fo N b y) (sm n fo N c y):=by
 have h:=R.sm y;unfold cQ at h;unfold Ew;rcases hop with z|z|z|z|z<;>subst z
 ·rw[h,if_pos rfl];show lu 4 (sm n fo N 1 y) (sm n fo N a y) (sm n fo N 0 y)=_;rw[bH (a:=1) Y];unfold lu;cases sm n fo N a y<;>rfl
 ·exact h
 ·exact h
 ·exact h
 ·exact h
def yD(G:EG):Prop:=aT G.N+255<G.room
structure fB(G0:EG)(s op:Nat)(G:EG):Prop where
 st:G.E.s=G0.E.s/\G.E.p=G0.E.p/\G.E.r=G0.E.r
 n:G.n=G0.n
 fo:G.fo=G0.fo
 gg:G.gg=G0.gg
 room:G.room=G0.room
 off:G.off=G0.off
 ws:G.P.ws.length=G0.P.ws.length
 last:G.P.last=G0.P.last+1
 ans:G.E.ans=G0.E.ans
 ses:G.E.ses=fJ G0.E.ses s (gE (G0.E.ses s) (G0.P.last+1))
 M0:G0.M<=G.M
 sm: ∀k,k<4-> ∀r,r<6->(G0.E.ses k).there r=true-> ∀y,sm G0.n G0.fo G.N ((G0.E.ses k).hnd r) y=sm G0.n G0.fo G0.N ((G0.E.ses k).hnd r) y
 job: ∃j,G.P.jobs=[j]/\j.id=G0.P.last+1/\j.G=cQ op (cu (G0.E.ses s) 0) (cu (G0.E.ses s) 1) (cu (G0.E.ses s) 2)
 safe:yD G0->psi G0.n G.N G.P<=aT G0.N+255/\ ∀j∈G.P.jobs,j.A.e=0
structure kP(G0:EG)(s op:Nat)(G:EG):Prop where
 st:G.E.s=G0.E.s/\G.E.p=G0.E.p/\G.E.r=G0.E.r
 n:G.n=G0.n
 fo:G.fo=G0.fo
 gg:G.gg=G0.gg
 room:G.room=G0.room
 off:G.off=G0.off
 ws:G.P.ws.length=G0.P.ws.length
 last:G.P.last=G0.P.last+1
 jobs:G.P.jobs=[]
 ans:G.E.ans=G0.E.ans+1
 M0:G0.M<=G.M
 oth: ∀k,k<4->k≠s->G.E.ses k=G0.E.ses k
 old: ∀k,k<4-> ∀r,r<6->(G0.E.ses k).there r=true->(G.E.ses k).there r=true->(G.E.ses k).hnd r=(G0.E.ses k).hnd r-> ∀y,sm G0.n G0.fo G.N ((G0.E.ses k).hnd r) y=sm G0.n G0.fo G0.N ((G0.E.ses k).hnd r) y
 res:(∃d v:Nat,d<6/\(G0.E.ses s).cal.dst=(d:Int)/\G.E.ses s=dN (setS (gE (G0.E.ses s) (G0.P.last+1)) d v) 0 0/\
   ∀y,Ev.sm G0.n G0.fo G.N v y=Ew op (Ev.sm G0.n G0.fo G0.N (cu (G0.E.ses s) 0) y) (Ev.sm G0.n G0.fo G0.N (cu (G0.E.ses s) 1) y) (Ev.sm G0.n G0.fo G0.N (cu (G0.E.ses s) 2) y))\/
  (¬yD G0/\G.E.ses s=dN (gE (G0.E.ses s) (G0.P.last+1)) 60 0)
 cnt:yD G0->aT G.N<=aT G0.N+255
section
variable {h h':aA}{e s w op:Nat}{G G0 G':EG}{K:KK}{C:Nat->Nat->Prop}
def fB.sess(R:fB G0 s op G):G.E.ses s=gE (G0.E.ses s) (G0.P.last+1):=by rw[R.ses];exact bQ
def fB.ne(R:fB G0 s op G){k:Nat}(hk:k≠s):G.E.ses k=G0.E.ses k:=by rw[R.ses];exact bP hk
def fB.regs(R:fB G0 s op G)(k:Nat):(G.E.ses k).there=(G0.E.ses k).there/\(G.E.ses k).hnd=(G0.E.ses k).hnd:=by
 by_cases q:k=s
 ·subst q;rw[R.sess];exact⟨rfl,rfl⟩
 ·rw[R.ne q];exact⟨rfl,rfl⟩
def zg{P P':PS}{j:Jb}(hj:P.jobs=[j])(a:P'.jobs.map (λj=>(j.id,j.G))=P.jobs.map λj=>(j.id,j.G)): ∃j',P'.jobs=[j']/\j'.id=j.id/\j'.G=j.G:=by
 rw[hj]at a
 match hq:P'.jobs,a with
 | [],a=>simp at a
 | [j'],a=>
  simp at a;exact⟨j',rfl,a.1,a.2⟩
 |_::_::_,a=>simp at a
def fB.kept(R:fB G0 s op G)(k:mz G G'):fB G0 s op G':=by
 obtain⟨j,hj,ej,gj⟩:=R.job;obtain⟨j',hj',ej',gj'⟩:=zg hj k.ids;have hn:=R.n;have hf:=R.fo;refine⟨by rw[k.E];exact R.st,k.n.trans hn,k.fo.trans hf,k.gg.trans R.gg,k.room.trans R.room,k.off.trans R.off,k.ws.trans R.ws,k.last.trans R.last,by rw[k.E];exact R.ans,by rw[k.E];exact R.ses,Nat.le_trans R.M0 k.M.1,λq hq r hr ht y=> ?_,⟨j',hj',ej'.trans ej,gj'.trans gj⟩,λsf=> ?_⟩
 ·have:=k.sm q hq r hr (by rw[(R.regs q).1];exact ht) y;rw[(R.regs q).2,hn,hf]at this;rw[this];exact R.sm q hq r hr ht y
 ·obtain⟨p1,p2⟩:=R.safe sf;have p3:=k.psi;rw[hn]at p3;refine⟨Y,k.bad p2 ?_⟩;unfold yD at sf;rw[hn,R.room];omega
def kP.kept(hs:s<4)(F:kP G0 s op G)(k:mz G G'):kP G0 s op G':=by
 have hj':G'.P.jobs=[]:=by have:=k.ids;rw[F.jobs]at this;simpa using this
 have hn:=F.n;have hf:=F.fo
 have smr: ∀q,q<4-> ∀r,r<6->(G.E.ses q).there r=true-> ∀y,sm G0.n G0.fo G'.N ((G.E.ses q).hnd r) y=sm G0.n G0.fo G.N ((G.E.ses q).hnd r) y:=λq hq r hr ht y=>by have:=k.sm q hq r hr ht y;rw[hn,hf]at this;exact this
 refine⟨by rw[k.E];exact F.st,k.n.trans hn,k.fo.trans hf,k.gg.trans F.gg,k.room.trans F.room,k.off.trans F.off,k.ws.trans F.ws,k.last.trans F.last,hj',by rw[k.E];exact F.ans,Nat.le_trans F.M0 k.M.1,by rw[k.E];exact F.oth,λq hq r hr ht ht' he y=> ?_,?_,λsf=> ?_⟩
 ·rw[k.E]at ht' he;rw[<-he,smr q hq r hr ht' y,he];exact F.old q hq r hr ht ht' he y
 ·rw[k.E];rcases F.res with⟨d,v,d6,ed,ev,fv⟩|z
  ·refine .inl ⟨d,v,d6,ed,ev,λy=> ?_⟩;have:=smr s hs d d6 (by rw[ev];exact bQ) y;rw[show(G.E.ses s).hnd d=v by rw[ev];exact bQ]at this;rw[this];exact fv y
  ·exact .inr z
 ·have:=F.cnt sf;have p3:=k.psi;unfold psi at p3;rw[hj',F.jobs]at p3;simp at p3;omega
end
end
section
structure u3(G:EG)(s op:Nat):Prop where
 s4:s<4
 pend:(G.E.ses s).pend=true
 solo: ∀k,k<4->k≠s->(G.E.ses k).pend=false
 kind:(G.E.ses s).cal.kind=3
 eop:(G.E.ses s).cal.op=(op:Int)
 join:op=1\/op=2\/op=3\/op=4\/op=5
 refu:refu G.n (G.E.ses s) (G.E.ses s).cal=0
 job:(G.E.ses s).job=0
 jobs:G.P.jobs=[]
 locs:locs G.P.ws=[]
 last:G.P.last+1<100000000
 M:G.M+20000000<=LB/1000
 ans:G.E.ans<1000000000
section
variable {h h':aA}{e s w op:Nat}{G G0 G':EG}{K:KK}{C:Nat->Nat->Prop}
def u3.dst(B:u3 G s op): ∃d:Nat,d<6/\(G.E.ses s).cal.dst=(d:Int):=by have:=(eV B.refu).2.1 (by unfold ui;rw[B.kind];omega);exact⟨(G.E.ses s).cal.dst.toNat,by unfold iQ at this;omega,by unfold iQ at this;omega⟩
def u3.noR(B:u3 G s op): ¬xY G.E:=λ⟨k,hk,hp,h8⟩=>by
 by_cases q:k=s
 ·subst q;rw[B.kind]at h8;cases h8
 ·rw[B.solo k hk q]at hp;cases hp
def vY(B:u3 G0 s op)(W:bV h e G0){ws:List Wk}{A:MA}(hl:ws.length=G0.P.ws.length)(he:A.e=0)(hm:dX G0.n G0.N A.fs<=1021)(hn:fu G0.n G0.N A.fs<=2^G0.n-1)(hq:qlen ws=qlen G0.P.ws+1):
  fB G0 s op (pj G0 s ws A)/\phi G0.n (pj G0 s ws A).N (pj G0 s ws A).P<=1022/\ ∃j,(pj G0 s ws A).P.jobs=[j]/\j.A=A:=by
 have n8:=W.W.S.ok.2.2.1;have n8:G0.n<=8:=n8;have p8:2^G0.n<=2^8:=Nat.pow_le_pow_right Y n8;have eop:(G0.E.ses s).cal.op.toNat=op:=by rw[B.eop];rfl
 have ej:(pj G0 s ws A).P.jobs=[⟨G0.P.last+1,A,cQ op (cu (G0.E.ses s) 0) (cu (G0.E.ses s) 1) (cu (G0.E.ses s) 2)⟩]:=by
  show G0.P.jobs++[_]=_;rw[B.jobs,eop]
  rfl
 have q0:qlen G0.P.ws=0:=by
  have:=B.locs;unfold Ev.locs at this;unfold qlen
  have hz: ∀k∈G0.P.ws,k.q.length=0:=λk hk=>by have:k.loc=[]:=(List.flatMap_eq_nil_iff.1 this) k hk;unfold Wk.loc at this;have:=(List.append_eq_nil_iff.1 this).2;rw[this];rfl
  have gz: ∀l:List Wk,(∀k∈l,k.q.length=0)->(l.map λk=>k.q.length).sum=0:=λl=>by
   induction l with
   |nil=>intro _;rfl
   |cons a l ih=>intro hl;rw[List.map_cons,List.sum_cons,hl a Z,ih λk hk=>hl k (by simp[hk])]
  exact gz _ hz
 refine⟨⟨⟨rfl,rfl,rfl⟩,rfl,rfl,rfl,rfl,rfl,hl,rfl,rfl,rfl,Nat.le_refl _,λk hk r hr ht y=>rfl,⟨_,ej,rfl,rfl⟩,λsf=>⟨?_,λj hj=> ?_⟩⟩,?_,⟨_,ej,rfl⟩⟩
 ·unfold psi;rw[ej];show aT G0.N+(fu G0.n G0.N A.fs+0)<=_;omega
 ·rw[ej]at hj;simp at hj;subst hj;exact he
 ·unfold phi;rw[ej];show dX G0.n G0.N A.fs+0+qlen ws<=_;omega
def pC(B:u3 G0 s op)(R:fB G0 s op G)(W:bV h e G){j:Jb}(hj:G.P.jobs=[j])(hd:j.A.done=true){d:Nat}(d6:d<6)(ed:(G0.E.ses s).cal.dst=(d:Int)){f':Int->Int}:kP G0 s op (fI G s d j.A.told j.A.e f')/\(j.A.e=0\/j.A.e=60)/\(j.A.e=0->isN G.N j.A.told):=by
 obtain⟨j',hj',ej,gj⟩:=R.job;have:j'=j:=by rw[hj]at hj';injection hj' with a;exact a.symm
 subst this;have mst:=(W.W.Ok.mst j' (by rw[hj];simp)).1;rw[gj]at mst;have hn:=R.n;have hf:=R.fo;have hid:(G.E.ses s).job=G0.P.last+1:=by rw[R.sess];rfl
 have hjf:(uQ (if j'.A.e=0 then kS G s d j'.A.told f' else G) (G.E.ses s).job).P.jobs=[]:=by
  have:(if j'.A.e=0 then kS G s d j'.A.told f' else G).P=G.P:=by split<;>rfl
  show List.filter _ (if j'.A.e=0 then kS G s d j'.A.told f' else G).P.jobs=[];rw[this,hj,hid];simp[ej]
 have base:(fI G s d j'.A.told j'.A.e f').N=G.N/\(fI G s d j'.A.told j'.A.e f').n=G.n/\(fI G s d j'.A.told j'.A.e f').fo=G.fo/\(fI G s d j'.A.told j'.A.e f').gg=G.gg/\(fI G s d j'.A.told j'.A.e f').room=G.room/\(fI G s d j'.A.told j'.A.e f').off=G.off/\(fI G s d j'.A.told j'.A.e f').P.ws=G.P.ws/\(fI G s d j'.A.told j'.A.e f').P.last=G.P.last/\(fI G s d j'.A.told j'.A.e f').E.ans=G.E.ans+1/\G.M<=(fI G s d j'.A.told j'.A.e f').M/\(fI G s d j'.A.told j'.A.e f').E.s=G.E.s/\(fI G s d j'.A.told j'.A.e f').E.p=G.E.p/\(fI G s d j'.A.told j'.A.e f').E.r=G.E.r:=by
  unfold fI;split
  ·exact⟨rfl,rfl,rfl,rfl,rfl,rfl,rfl,rfl,rfl,Nat.le_add_right _ _,rfl,rfl,rfl⟩
  ·exact⟨rfl,rfl,rfl,rfl,rfl,rfl,rfl,rfl,rfl,Nat.le_refl _,rfl,rfl,rfl⟩
 obtain⟨b1,b2,b3,b4,b5,b6,b7,b8,b9,b10,b11,b12,b13⟩:=base
 have ses:(fI G s d j'.A.told j'.A.e f').E.ses=fJ G.E.ses s (dN (if j'.A.e=0 then setS (G.E.ses s) d j'.A.told else G.E.ses s) (j'.A.e:Int) 0):=by
  unfold fI;by_cases z:j'.A.e=0
  ·rw[if_pos z,if_pos z];show fJ (fJ G.E.ses s _) s (dN (fJ G.E.ses s (setS (G.E.ses s) d j'.A.told) s) _ 0)=_;rw[iq,bQ]
  ·rw[if_neg z,if_neg z]
   rfl
 have er:j'.A.e=0\/j'.A.e=60:=by
  rcases mst with⟨q,-⟩|⟨-,q,-⟩|⟨-,q,-⟩
  ·rw[q]at hd;cases hd
  ·exact .inl q
  ·exact .inr q
 have opr:j'.A.e=0->iS G.n G.fo G.N (cQ op (cu (G0.E.ses s) 0) (cu (G0.E.ses s) 1) (cu (G0.E.ses s) 2)).op (cQ op (cu (G0.E.ses s) 0) (cu (G0.E.ses s) 1) (cu (G0.E.ses s) 2)).a0 (cQ op (cu (G0.E.ses s) 0) (cu (G0.E.ses s) 1) (cu (G0.E.ses s) 2)).a1 (cQ op (cu (G0.E.ses s) 0) (cu (G0.E.ses s) 1) (cu (G0.E.ses s) 2)).a2 j'.A.told:=λz=>by
  rcases mst with⟨q,-⟩|⟨-,-,-,q⟩|⟨-,q,-⟩
  ·rw[q]at hd;cases hd
  ·exact q
  ·rw[z]at q;cases q
 refine⟨⟨⟨b11.trans R.st.1,b12.trans R.st.2.1,b13.trans R.st.2.2⟩,b2.trans hn,b3.trans hf,b4.trans R.gg,b5.trans R.room,b6.trans R.off,by rw[b7];exact R.ws,b8.trans R.last,hjf,by rw[b9,R.ans],Nat.le_trans R.M0 b10,λk hk hks=> ?_,λk hk r hr ht ht' he y=> ?_,?_,λsf=> ?_⟩,er,λz=>(opr z).is⟩
 ·rw[ses,bP hks];exact R.ne hks
 ·rw[b1];exact R.sm k hk r hr ht y
 ·rcases er with z|z
  ·left;refine⟨d,j'.A.told,d6,ed,?_,λy=> ?_⟩
   ·rw[ses,bQ,if_pos z,z,R.sess];rfl
   ·rw[b1];have g:=wG B.join (opr z) y;rw[hn,hf]at g;rw[g]
    have ar: ∀q,Ev.sm G0.n G0.fo G.N (cu (G0.E.ses s) q) y=Ev.sm G0.n G0.fo G0.N (cu (G0.E.ses s) q) y:=λq=>by
     match hx:(gG (G0.E.ses s).cal)[q]? with
     |none=>rw[jT hx,bH Y,bH Y]
     |some x=>
      obtain⟨rx,tx⟩:=(eV B.refu).2.2.1 x (List.mem_of_getElem? hx);rw[iJ hx];exact R.sm s B.s4 x.toNat (by unfold iQ at rx;omega) tx y
    rw[ar 0,ar 1,ar 2]
  ·right;refine⟨λsf=> ?_,?_⟩
   ·have:=(R.safe sf).2 j' (by rw[hj];simp);rw[z]at this;cases this
   ·rw[ses,bQ,if_neg Y,z,R.sess];rfl
 ·rw[b1];have:=(R.safe sf).1;unfold psi at this;omega
def Ct(G0:EG)(s op m w:Nat)(G:EG):Prop:=
 kP G0 s op G\/(fB G0 s op G/\(∃j,G.P.jobs=[j]/\j.A.done=true)/\(2<=m\/w=0))\/
 (fB G0 s op G/\(∃j,G.P.jobs=[j]/\j.A.done=false)/\(phi G0.n G.N G.P+3<=m\/(phi G0.n G.N G.P+2<=m/\ ∃w0 k,w<=w0/\G.P.ws[w0]? =some k/\(k.job≠0\/k.q≠[]))))\/
 (w=0/\m=1100/\G=G0)
def kP.pend(F:kP G0 s op G)(B:u3 G0 s op): ∀k,k<4->(G.E.ses k).pend=false:=λk hk=>by
 by_cases q:k=s
 ·subst q;rcases F.res with⟨d,v,-,-,ev,-⟩|⟨-,ev⟩<;>rw[ev]<;>rfl
 ·rw[F.oth k hk q];exact B.solo k hk q
def fB.solo(R:fB G0 s op G)(B:u3 G0 s op):(G.E.ses s).pend=true/\ ∀k,k<4->k≠s->(G.E.ses k).pend=false:=
 ⟨by rw[R.sess];exact B.pend,λk hk q=>by rw[R.ne q];exact B.solo k hk q⟩
def nU(j:Jb):j.A.done=true\/j.A.done=false:=by cases j.A.done<;>simp
end
end
section
section
variable {h h':aA}{e s w op m:Nat}{G G0 G':EG}{K:KK}{C:EG->Prop}
def vJ{k:Int}(h:k=3):gw k=127:=by subst h;rfl
def yg(R:fB G0 s op G)(h2:2<=m)(hp:phi G0.n G.N G.P+3<=m):Ct G0 s op m w G:=by
 obtain⟨j,hj,-,-⟩:=R.job;rcases nU j with d|d
 ·exact .inr (.inl ⟨R,⟨j,hj,d⟩,.inl h2⟩)
 ·exact .inr (.inr (.inl ⟨R,⟨j,hj,d⟩,.inl hp⟩))
def wL(mr:gT C)(B:u3 G0 s op)(hC: ∀G',kP G0 s op G'\/fB G0 s op G'->C G')(W:bV h e G)(hw:w<G.P.ws.length)(h1:1<=m)(hM:G.M+10000<=LB/1000)(R:Ct G0 s op m w G){draw:Int}
  (hK: ∀b h' G',bV h' e G'->be e G h G' h'->G'.P.ws.length=G.P.ws.length->G.M<=G'.M->G'.M<=G.M+2000->Ct G0 s op m (w+1) G'->K (aw b) h'):Cl 26 [aX e,ac (w:Int),ac draw] h K:=by
 have hLB:LB=140737488355328:=rfl;obtain⟨d,d6,ed⟩:=B.dst;rcases R with F|⟨R,⟨j,hj,hd⟩,hm⟩|⟨R,⟨j,hj,hd⟩,hm⟩|⟨hw0,hm,eG⟩
 ·exact ku W (.inr (.inr (fU (F.pend B)))) λh1 O1=>hK _ h1 G (W.only0 O1) (be.only0 O1) rfl (Nat.le_refl _) Y (.inl F)
 ·--the job is done:its result is taken
  obtain⟨p1,p2⟩:=R.solo B;have hid:(G.E.ses s).job=G0.P.last+1:=by rw[R.sess];rfl
  obtain⟨j',hj',ej,gj⟩:=R.job;have:j'=j:=by rw[hj]at hj';injection hj' with a;exact a.symm
  subst this;have er:=(pC B R W hj hd d6 ed (f':=G.f)).2;refine iF W B.s4 p1 p2 hw (λh1 G1=>bV h1 e G1/\be e G h G1 h1/\kP G0 s op G1/\G1.M<=G.M+2/\G.M<=G1.M) (λI=>⟨I.1,λk hk _=>I.2.2.1.pend B k hk⟩) (λI O=>⟨I.1.only0 O,I.2.1.trans (be.only0 O),I.2.2⟩) (λ{h1 Q} O1 hQ=> ?_) λh1 G1 I=> ?_
  ·rw[vJ (by rw[R.sess];exact B.kind)];refine se (W.only0 O1) B.s4 (x:=0) (j:=j') (by rw[hj];rfl) (by rw[ej,hid]) Y hd er.1 er.2 d6 (by rw[R.sess];exact ed) Y (by rw[R.ans];exact B.ans) λh2 f2 W2 S2=> ?_;refine hQ true h2 _ ⟨W2,(be.only0 O1).trans S2,(pC B R W hj hd d6 ed).1,?_⟩;unfold fI;split
   ·exact⟨Nat.le_refl _,Nat.le_add_right _ _⟩
   ·exact⟨Nat.le_add_right _ _,Nat.le_refl _⟩
  ·obtain⟨W1,S1,F1,M1,M2⟩:=I;refine gQ mr W1 (hC _ (.inl F1)) Y (by rw[F1.ws,<-R.ws];exact hw) λh2 G2 W2 S2 P=> ?_;obtain⟨k,-⟩:=P.kept;have:=k.M;exact hK true h2 G2 W2 (S1.trans S2) (by rw[k.ws,F1.ws,R.ws]) Y Y (.inl (F1.kept B.s4 k))
 ·--the job is on its way
  obtain⟨p1,p2⟩:=R.solo B;have hid:(G.E.ses s).job=G0.P.last+1:=by rw[R.sess];rfl
  obtain⟨j',hj',ej,gj⟩:=R.job;have:j'=j:=by rw[hj]at hj';injection hj' with a;exact a.symm
  subst this;refine iF W B.s4 p1 p2 hw (λh1 G1=>bV h1 e G1/\be e G h G1 h1/\G1=G) (λI=>⟨I.1,λk hk q=>by rw[I.2.2];exact p2 k hk Y⟩) (λI O=>⟨I.1.only0 O,I.2.1.trans (be.only0 O),I.2.2⟩) (λ{h1 Q} O1 hQ=> ?_) λh1 G1 I=> ?_
  ·rw[vJ (by rw[R.sess];exact B.kind)];exact sD (W.only0 O1) B.s4 (x:=0) (j:=j') (by rw[hj];rfl) (by rw[ej,hid]) Y hd (hQ false h1 G ⟨W.only0 O1,be.only0 O1,rfl⟩)
  ·obtain⟨W1,S1,e1⟩:=I;subst e1;refine gQ mr W1 (hC _ (.inr R)) Y hw λh2 G2 W2 S2 P=> ?_;obtain⟨k,kw,hkw,pr⟩:=P.kept;have kM:=k.M;have R2:=R.kept k;have ph:=k.phi;rw[R.n]at ph pr;refine hK true h2 G2 W2 (S1.trans S2) k.ws Y Y ?_;have m2:2<=m:=by rcases hm with q|⟨q,-⟩<;>omega
   obtain⟨j2,hj2,-,-⟩:=R2.job;rcases nU j2 with d2|d2
   ·exact .inr (.inl ⟨R2,⟨j2,hj2,d2⟩,.inl m2⟩)
   ·refine .inr (.inr (.inl ⟨R2,⟨j2,hj2,d2⟩,?_⟩));rcases hm with q|⟨q,w0,k0,hw0,hk0,hb0⟩
    ·exact .inl Y
    ·rcases pr with z|⟨z1,z2,z3⟩
     ·exact .inl Y
     ·right;refine⟨Y,?_⟩;obtain⟨k1,hk1,e1⟩:=z3.2 w0 k0 hk0;refine⟨w0,k1,?_,hk1,?_⟩
      ·apply Classical.byContradiction;intro hn;have:w0=w:=Y;subst this;rw[hkw]at hk0;injection hk0 with hk0;subst hk0;rcases hb0 with a|a
       ·exact a z1
       ·exact a z2
      ·rw[e1.2.1,e1.2.2.1];exact hb0
 ·--the job is handed over
  subst eG hw0 hm;have p1:=B.pend;have rf:=eV B.refu;refine iF W B.s4 p1 B.solo hw (λh1 G1=>bV h1 e G1/\be e G h G1 h1/\fB G s op G1/\phi G.n G1.N G1.P<=1022/\G1.M=G.M) (λI=>⟨I.1,λk hk q=>(I.2.2.1.solo B).2 k hk Y⟩) (λI O=>⟨I.1.only0 O,I.2.1.trans (be.only0 O),I.2.2⟩) (λ{h1 Q} O1 hQ=> ?_) λh1 G1 I=> ?_
  ·rw[vJ B.kind];refine F127.spec ?_;have W1:=W.only0 O1;simp only[aE,Nat.zero_add];refine aB (W1.I.job B.s4 Y) ?_;rw[B.job,show(((0:Nat):Int)==0)=true from rfl,aG];refine rH W1 B.s4 B.kind B.eop B.join rf.2.2.1 B.noR (by rw[B.jobs];decide) B.last λh2 ws A W2 S2 hl dn ee mu nb ql=>aQ rfl ?_;obtain⟨r1,r2,-⟩:=vY B W hl ee mu nb ql;exact hQ false h2 _ ⟨W2,(be.only0 O1).trans S2,r1,r2,rfl⟩
  ·obtain⟨W1,S1,R1,ph,eM⟩:=I;refine gQ mr W1 (hC _ (.inr R1)) Y (by rw[R1.ws];exact hw) λh2 G2 W2 S2 P=> ?_;obtain⟨k,-⟩:=P.kept;have kM:=k.M;have kp:=k.phi;rw[R1.n]at kp;exact hK true h2 G2 W2 (S1.trans S2) (by rw[k.ws,R1.ws]) Y Y (yg (R1.kept k) Y Y)
set_option maxRecDepth 100000 in
def vL(mr:gT C)(B:u3 G0 s op)(W:bV h e G0)(hC: ∀G',kP G0 s op G'\/fB G0 s op G'->C G')(hK: ∀h' G',bV h' e G'->be e G0 h G' h'->G'.M<=G0.M+20000000->kP G0 s op G'->K au h'):Cl 42 [aX e] h K:=by
 have hLB:LB=140737488355328:=rfl;have wl:=W.W.Ok.len;have bM:=B.M
 refine rR (m:=1100)
  (λm h1 G1=>bV h1 e G1/\be e G0 h G1 h1/\G1.P.ws.length=G0.P.ws.length/\m<=1100/\G1.M<=G0.M+2000*(4*(1100-m))/\
   (kP G0 s op G1\/(fB G0 s op G1/\(∃j,G1.P.jobs=[j]/\j.A.done=true)/\1<=m)\/(fB G0 s op G1/\(∃j,G1.P.jobs=[j]/\j.A.done=false)/\phi G0.n G1.N G1.P+2<=m)\/(m=1100/\G1=G0)))
  (λm w h1 G1=>bV h1 e G1/\be e G0 h G1 h1/\G1.P.ws.length=G0.P.ws.length/\1<=m/\m<=1100/\G1.M<=G0.M+2000*(4*(1100-m)+w)/\Ct G0 s op m w G1)
  G0.P.ws.length wl.2 ⟨W,be.refl,rfl,Nat.le_refl _,Y,.inr (.inr (.inr ⟨rfl,rfl⟩))⟩ Y (λI=>I.1) (λI=>⟨I.1,I.2.2.1⟩) (λ{m h1 G1} I a=> ?_) (λ{m w h1 G1 Q draw} hw I hQ=> ?_) (λ{m h1 G1} I=> ?_) (λm' h1 G1 _ I a=> ?_)
 ·obtain⟨W1,S1,l1,m1,M1,I⟩:=I
  have one:1<=m/\Ct G0 s op m 0 G1:=by
   rcases I with F|⟨R,d,hm⟩|⟨R,⟨j,hj,d⟩,hm⟩|⟨hm,eG⟩
   ·exact absurd a (fU (F.pend B))
   ·exact⟨hm,.inr (.inl ⟨R,d,.inr rfl⟩)⟩
   ·obtain⟨w0,k0,hk0,hb0⟩:=xM W1.W.Ok (j:=j) (by rw[hj];simp) d;exact⟨Y,.inr (.inr (.inl ⟨R,⟨j,hj,d⟩,.inr ⟨hm,w0,k0,Nat.zero_le _,hk0,hb0⟩⟩))⟩
   ·exact⟨Y,.inr (.inr (.inr ⟨rfl,hm,eG⟩))⟩
  exact⟨W1,S1,l1,one.1,m1,Y,one.2⟩
 ·obtain⟨W1,S1,l1,m1,m2,M1,R1⟩:=I;refine wL mr B hC W1 (by rw[l1];exact hw) m1 Y R1 λb h2 G2 W2 S2 l2 a1 a2 R2=> ?_;exact hQ b h2 G2 ⟨W2,S1.trans S2,l2.trans l1,m1,m2,Y,R2⟩
 ·obtain⟨W1,S1,l1,m1,m2,M1,R1⟩:=I;have nw:=wl.1;have nw4:=wl.2;rcases R1 with F|⟨R,d,hm⟩|⟨R,d,hm⟩|⟨hw,-,-⟩
  ·exact⟨0,Y,W1,S1,l1,Y,Y,.inl F⟩
  ·exact⟨1,Y,W1,S1,l1,Y,Y,.inr (.inl ⟨R,d,Nat.le_refl _⟩)⟩
  ·refine⟨m-1,Y,W1,S1,l1,Y,Y,.inr (.inr (.inl ⟨R,d,?_⟩))⟩;rcases hm with q|⟨q,w0,k0,hw0,hk0,-⟩
   ·omega
   ·have:=(List.getElem?_eq_some_iff.1 hk0).1;omega
  ·omega
 ·obtain⟨W1,S1,l1,m1,M1,I⟩:=I;rcases I with F|⟨R,-,-⟩|⟨R,-,-⟩|⟨-,eG⟩
  ·exact hK h1 G1 W1 S1 Y F
  ·exact absurd ⟨s,B.s4,(R.solo B).1⟩ a
  ·exact absurd ⟨s,B.s4,(R.solo B).1⟩ a
  ·subst eG;exact absurd ⟨s,B.s4,B.pend⟩ a
end
end
section
structure Ay(G0:EG)(s:Nat)(x':eW)(Φ:Nat->Nat->Bool)(add:Nat)(G:EG):Prop where
 st:G.E.s=G0.E.s/\G.E.p=G0.E.p/\G.E.r=G0.E.r
 n:G.n=G0.n
 fo:G.fo=G0.fo
 gg:G.gg=G0.gg
 room:G.room=G0.room
 off:G.off=G0.off
 ws:G.P.ws.length=G0.P.ws.length
 last:G.P.last<=G0.P.last+1
 jobs:G.P.jobs=[]
 ans:G.E.ans=G0.E.ans+1
 M:G.M<=G0.M+20000000
 pend:x'.pend=false
 ses:G.E.ses s=x'
 oth: ∀k,k<4->k≠s->G.E.ses k=G0.E.ses k
 fs: ∀r,r<6->x'.there r=true-> ∀y,sm G0.n G0.fo G.N (x'.hnd r) y=Φ r y
 old: ∀k,k<4->k≠s-> ∀r,r<6->(G0.E.ses k).there r=true-> ∀y,sm G0.n G0.fo G.N ((G0.E.ses k).hnd r) y=sm G0.n G0.fo G0.N ((G0.E.ses k).hnd r) y
 cnt:aT G.N<=aT G0.N+add
section
variable {h h':aA}{e s w op m add:Nat}{G G0 G':EG}{K:KK}{C:EG->Prop}{x':eW}{Φ:Nat->Nat->Bool}
def Ay.kept(hs:s<4)(A:Ay G0 s x' Φ add G)(k:mz G G')(hM:G'.M<=G0.M+20000000):Ay G0 s x' Φ add G':=by
 have hj':G'.P.jobs=[]:=by have:=k.ids;rw[A.jobs]at this;simpa using this
 have hn:=A.n;have hf:=A.fo
 have smr: ∀q,q<4-> ∀r,r<6->(G.E.ses q).there r=true-> ∀y,sm G0.n G0.fo G'.N ((G.E.ses q).hnd r) y=sm G0.n G0.fo G.N ((G.E.ses q).hnd r) y:=λq hq r hr ht y=>by have:=k.sm q hq r hr ht y;rw[hn,hf]at this;exact this
 refine⟨by rw[k.E];exact A.st,k.n.trans hn,k.fo.trans hf,k.gg.trans A.gg,k.room.trans A.room,k.off.trans A.off,k.ws.trans A.ws,by rw[k.last];exact A.last,hj',by rw[k.E];exact A.ans,hM,A.pend,by rw[k.E];exact A.ses,by rw[k.E];exact A.oth,λr hr ht y=> ?_,λq hq hqs r hr ht y=> ?_,?_⟩
 ·have:=smr s hs r hr (by rw[A.ses];exact ht) y;rw[A.ses]at this;rw[this];exact A.fs r hr ht y
 ·have:=smr q hq r hr (by rw[A.oth q hq hqs];exact ht) y;rw[A.oth q hq hqs]at this;rw[this];exact A.old q hq hqs r hr ht y
 ·have:=A.cnt;have p3:=k.psi;unfold psi at p3;rw[hj',A.jobs]at p3;simp at p3;omega
def Ay.none(hp: ∀k,k<4->k≠s->(G0.E.ses k).pend=false)(A:Ay G0 s x' Φ add G): ∀k,k<4->(G.E.ses k).pend=false:=λk hk=>by
 by_cases q:k=s
 ·subst q;rw[A.ses];exact A.pend
 ·rw[A.oth k hk q];exact hp k hk q
def uz(mr:gT C)(W:bV h e G0)(hs:s<4)(hp:(G0.E.ses s).pend=true)(solo: ∀k,k<4->k≠s->(G0.E.ses k).pend=false)(hM:G0.M+20000000<=LB/1000)(R:EG->Prop)
  (step: ∀{h1} {Q:KK},aF [] h h1->(∀b h2 G2,bV h2 e G2->be e G0 h G2 h2->R G2->Q (aw b) h2)->Cl (gw (G0.E.ses s).cal.kind) [aX e,pt e s] h1 Q)
  (hR: ∀{G1},R G1->(∃x' Φ add,Ay G0 s x' Φ add G1)/\C G1/\G1.M<=G0.M+10000)
  (hK: ∀h' G1 G',R G1->mz G1 G'->bV h' e G'->be e G0 h G' h'->K au h'):Cl 42 [aX e] h K:=by
 have wl:=W.W.Ok.len
 refine rR (m:=1) (λm h1 G1=>bV h1 e G1/\be e G0 h G1 h1/\((m=1/\G1=G0/\aF [] h h1)\/(m=0/\ ∃G2,R G2/\mz G2 G1))) (λm w h1 G1=>bV h1 e G1/\be e G0 h G1 h1/\m=1/\((w=0/\G1=G0/\aF [] h h1)\/(1<=w/\ ∃G2,R G2/\mz G2 G1))) G0.P.ws.length wl.2
  ⟨W,be.refl,.inl ⟨rfl,rfl,aF.refl _ _⟩⟩ Y (λI=>I.1) (λ{m w h1 G1} I=>⟨I.1,?_⟩) (λ{m h1 G1} I a=>⟨I.1,I.2.1,?_⟩) (λ{m w h1 G1 Q draw} hw I hQ=> ?_) (λ{m h1 G1} I=> ?_) (λm' h1 G1 _ I a=> ?_)
 ·rcases I.2.2.2 with⟨-,q,-⟩|⟨-,G2,r,k⟩
  ·rw[q]
  ·obtain⟨⟨x',Φ,add,A⟩,-⟩:=hR r;rw[k.ws,A.ws]
 ·rcases I.2.2 with⟨q1,q2,q3⟩|⟨q1,G2,r,k⟩
  ·exact⟨q1,.inl ⟨rfl,q2,q3⟩⟩
  ·obtain⟨⟨x',Φ,add,A⟩,-⟩:=hR r;have:=A.none solo;rw[<-k.E]at this;exact absurd a (fU this)
 ·obtain⟨W1,S1,m1,q⟩:=I;rcases q with⟨q1,q2,q3⟩|⟨q1,G2,r,k⟩
  ·subst q2;refine iF W1 hs hp solo hw (λh2 G2=>bV h2 e G2/\be e G1 h G2 h2/\R G2) (λI=>⟨I.1,λk hk _=> ?_⟩) (λI O=>⟨I.1.only0 O,I.2.1.trans (be.only0 O),I.2.2⟩) (λ{h2 Q2} O2 hQ2=> ?_) λh2 G2 I=> ?_
   ·obtain⟨⟨x',Φ,add,A⟩,-⟩:=hR I.2.2;exact A.none solo k hk
   ·exact step (q3.trans O2 Z) λb h3 G3 W3 S3 R3=>hQ2 b h3 G3 ⟨W3,S3,R3⟩
   ·obtain⟨W2,S2,R2⟩:=I;obtain⟨⟨x',Φ,add,A⟩,c2,m2⟩:=hR R2;refine gQ mr W2 c2 Y (by rw[A.ws];exact hw) λh3 G3 W3 S3 P=> ?_;obtain⟨k,-⟩:=P.kept;exact hQ _ h3 G3 ⟨W3,S2.trans S3,m1,.inr ⟨Y,G2,R2,k⟩⟩
  ·obtain⟨⟨x',Φ,add,A⟩,-⟩:=hR r;have no:=A.none solo;rw[<-k.E]at no;exact ku W1 (.inr (.inr (fU no))) λh2 O2=>hQ _ h2 G1 ⟨W1.only0 O2,S1.trans (be.only0 O2),m1,.inr ⟨Y,G2,r,k⟩⟩
 ·obtain⟨W1,S1,m1,q⟩:=I;rcases q with⟨q1,-,-⟩|⟨q1,q2⟩
  ·omega
  ·exact⟨0,Y,W1,S1,.inr ⟨rfl,q2⟩⟩
 ·obtain⟨W1,S1,q⟩:=I;rcases q with⟨q1,q2,-⟩|⟨q1,G2,r,k⟩
  ·subst q2;exact absurd ⟨s,hs,hp⟩ a
  ·exact hK h1 G2 G1 r k W1 S1
end
end
section
section
variable {h h':aA}{e s p:Nat}{G:EG}{P:PS}{K:KK}
end
end
section
def zr{g:Nat->Nat}: ∀n,dU g n≠0-> ∃k,k<n/\g k≠0:=by
 intro n
 induction n with
 |zero=>intro h;exact absurd rfl h
 |succ n ih=>
  intro h;unfold dU at h;by_cases q:g n=0
  ·obtain⟨k,hk,hg⟩:=ih Y;exact⟨k,Y,hg⟩
  ·exact⟨n,Y,q⟩
def held{f:Int->Int}{E:fk}(C:jq f E){a:Nat}:f (a:Int)≠0↔ ∃i,i<4/\ ∃r,r<6/\(E.ses i).there r=true/\(E.ses i).hnd r=a:=by
 rw[C a];constructor
 ·intro h;obtain⟨k,hk,hg⟩:=zr 24 (show dU (dL E a) 24≠0 from λz=>h (by show((jI E a:Nat):Int)=0;unfold jI;omega));unfold dL at hg;split at hg
  ·next q=>exact⟨k/6,Y,k%6,Y,q.1,q.2⟩
  ·exact absurd rfl hg
 ·rintro ⟨i,hi,r,hr,ht,he⟩ z
  have:1<=dU (dL E a) 24:=qy (k:=6*i+r) 24 Y (by unfold dL;rw[show(6*i+r)/6=i by omega,show(6*i+r)%6=r by omega,if_pos ⟨ht,he⟩];exact Nat.le_refl _)
  have:jI E a=dU (dL E a) 24:=rfl;omega
section
variable {h h':aA}{e:Nat}{G G':EG}{K:KK}
end
end
section
def ce(A:MA):List Nat:=if A.e=0 then A.told::A.fs.flatMap λf=> [f.a0,f.a1,f.a2,f.low]else []
section
variable {n:Nat}{fo:Nat->Nat}{N N':aj}{Jg:i4}{A:MA}{f g:Fk}{r:Nat}
def iS.back{op a b c r:Nat}(R:iS n fo N op a b c r)(ok':ey n N')(E:Ex N' N)(hr:isN N' r)(ha:isN N' a)(hb:isN N' b)(hc:isN N' c):iS n fo N' op a b c r:=
 ⟨hr,λk h1 h2 h3=>by rw[<-E.lvl ha]at h1;rw[<-E.lvl hb]at h2;rw[<-E.lvl hc]at h3;rw[<-E.lvl hr];exact R.lv k h1 h2 h3,λx=>by rw[<-E.sm ok' hr,<-E.sm ok' ha,<-E.sm ok' hb,<-E.sm ok' hc,R.sm]⟩
def FN(N:aj)(f:Fk):Prop:=isN N f.a0/\isN N f.a1/\isN N f.a2/\isN N f.low
def eO.back(F:eO n fo N f)(ok':ey n N')(E:Ex N' N)(h:FN N' f):eO n fo N' f:=by
 obtain⟨h0,h1,h2,hl⟩:=h;have em:gF n N' f=gF n N f:=by unfold gF;rw[<-E.lvl h0,<-E.lvl h1,<-E.lvl h2]
 refine⟨F.op,⟨h0,h1,h2⟩,?_,λe=> ?_,hl⟩
 ·rw[em];exact F.fn
 ·obtain⟨l1,l2,l3,l4⟩:=F.lev (.inr e);have R:=F.low e;rw[E.ch h0,E.ch h1,E.ch h2]at R;exact R.back ok' E hl (cZ ok' h0 (by rw[<-E.lvl h0];exact l2) l1) (cZ ok' h1 (by rw[<-E.lvl h1];exact l3) l1) (cZ ok' h2 (by rw[<-E.lvl h2];exact l4) l1)
def kh.back(W:kh n N g f)(E:Ex N' N)(h:FN N' g):kh n N' g f:=by obtain⟨h0,h1,h2,-⟩:=h;unfold kh at W ⊢;rw[<-E.ch h0,<-E.ch h1,<-E.ch h2,<-E.ch h0,<-E.ch h1,<-E.ch h2];exact W
def kK.back(W:kK n fo N g r)(F:eO n fo N g)(ok':ey n N')(E:Ex N' N)(h:FN N' g)(hr:isN N' r):kK n fo N' g r:=by
 obtain⟨h0,h1,h2,-⟩:=h;rcases W with⟨e,R⟩|⟨e,R⟩
 ·obtain⟨l1,l2,l3,l4⟩:=F.lev (.inl e);rw[E.ch h0,E.ch h1,E.ch h2]at R;exact .inl ⟨e,R.back ok' E hr (cZ ok' h0 (by rw[<-E.lvl h0];exact l2) l1) (cZ ok' h1 (by rw[<-E.lvl h1];exact l3) l1) (cZ ok' h2 (by rw[<-E.lvl h2];exact l4) l1)⟩
 ·obtain⟨l1,l2,l3,l4⟩:=F.lev (.inr e);rw[E.ch h0,E.ch h1,E.ch h2]at R;exact .inr ⟨e,R.back ok' E hr (cZ ok' h0 (by rw[<-E.lvl h0];exact l2) l1) (cZ ok' h1 (by rw[<-E.lvl h1];exact l3) l1) (cZ ok' h2 (by rw[<-E.lvl h2];exact l4) l1)⟩
def fT.back{fs:List Fk}{told:Nat}(R:fT n fo N Jg fs told)(ok':ey n N')(E:Ex N' N)(hf: ∀f∈fs,FN N' f)(ht:isN N' told):fT n fo N' Jg fs told:=
 ⟨λf h=>(R.frs f h).back ok' E (hf f h),λi g f h1 h2=>(R.lnk i g f h1 h2).back E (hf g (List.mem_of_getElem? h1)),R.bot,λfl fr e=>(R.top fl fr e).imp id λW=>W.back (R.frs fr (by rw[e];simp)) ok' E (hf fr (by rw[e];simp)) ht,ht⟩
def iB(e:A.e=0)(hf:f∈A.fs){a:Nat}(ha:a=f.a0\/a=f.a1\/a=f.a2\/a=f.low):a∈ce A:=by unfold ce;rw[if_pos e];refine List.mem_cons_of_mem _ (List.mem_flatMap.2 ⟨f,hf,?_⟩);simp only[List.mem_cons,List.not_mem_nil,or_false];exact ha
def kE(e:A.e=0):A.told∈ce A:=by unfold ce;rw[if_pos e];exact List.mem_cons_self
def ng.back(M:ng n fo N Jg A)(ok':ey n N')(E:Ex N' N)(hr: ∀a∈ce A,isN N' a)(hG:isN N' Jg.a0/\isN N' Jg.a1/\isN N' Jg.a2):ng n fo N' Jg A:=by
 rcases M with⟨d,e,ne,R⟩|⟨d,e,z,R⟩|M
 ·exact .inl ⟨d,e,ne,R.back ok' E (λf hf=>⟨hr _ (iB e hf (.inl rfl)),hr _ (iB e hf (.inr (.inl rfl))),hr _ (iB e hf (.inr (.inr (.inl rfl)))),hr _ (iB e hf (.inr (.inr (.inr rfl))))⟩) (hr _ (kE e))⟩
 ·exact .inr (.inl ⟨d,e,z,R.back ok' E (hr _ (kE e)) hG.1 hG.2.1 hG.2.2⟩)
 ·exact .inr (.inr M)
def ng.roots(M:ng n fo N Jg A): ∀a∈ce A,isN N a:=λa ha=>by
 unfold ce at ha;rcases M with⟨d,e,ne,R⟩|⟨d,e,z,R⟩|⟨d,e,z⟩
 ·rw[if_pos e]at ha;rcases List.mem_cons.1 ha with q|q
  ·rw[q];exact R.tld
  ·obtain⟨f,hf,q⟩:=List.mem_flatMap.1 q;have F:=R.frs f hf;simp only[List.mem_cons,List.not_mem_nil,or_false]at q;rcases q with q|q|q|q<;>rw[q]
   ·exact F.a.1
   ·exact F.a.2.1
   ·exact F.a.2.2
   ·exact F.lw
 ·rw[if_pos e,z]at ha;have:a=A.told:=by simpa using ha
  rw[this];exact R.is
 ·rw[if_neg Y]at ha;cases ha
def bF.back{P:PS}(H:bF n fo N P)(ok':ey n N')(E:Ex N' N)(hr: ∀j∈P.jobs,∀a∈ce j.A,isN N' a)(hG:dc N' P):bF n fo N' P:=
 ⟨λj hj=>by have M:=(H.mst j hj).1.back ok' E (hr j hj) (hG j hj);exact⟨M,by rw[<-jo E M.frs];exact(H.mst j hj).2⟩,H.at_,H.one,H.loc,H.T,H.len,H.last,H.steals⟩
def rA:(ce A).length<=4*A.fs.length+1:=by
 have h2: ∀l:List Fk,(l.flatMap λf=> [f.a0,f.a1,f.a2,f.low]).length=4*l.length:=λl=>by
  induction l with
  |nil=>rfl
  |cons a l ih=>rw[List.flatMap_cons,List.length_append,ih];simp;omega
 unfold ce;split
 ·rw[List.length_cons,h2];omega
 ·simp
end
def ww(G:EG):Prop:= ∀j∈G.P.jobs,∀a:Nat,a=j.G.a0\/a=j.G.a1\/a=j.G.a2->a<2\/ ∃i,i<4/\ ∃r,r<6/\(G.E.ses i).there r=true/\(G.E.ses i).hnd r=a
def Bo(G:EG)(N':aj)(L' B':List Nat):EG:={G with N:=N',L:=L',B:=B'}
section
variable {h h2 h':aA}{e:Nat}{G G':EG}{K:KK}
def bV.retJ(W:bV h e G)(hd:ww G){keep:Nat->Bool}{rs:List Nat}{L' B':List Nat}(M:Mk G.N rs keep [])(hrs: ∀a:Nat,1<a->G.f (a:Int)≠0->a∈rs)(hjs: ∀j∈G.P.jobs,∀a∈ce j.A,1<a->a∈rs)
  (S:cG h' G.E.s L' (XL G.n G.room G.fo G.gg (bR keep G.N) G.off)) (R:mQ h' G.E.r G.M G.f B') (z2:h.size<=h2.size) (O:aF (G.L++G.B) h h') (F:cj G.L L' h2) (FB: ∀b∈B',b∈G.B\/(h.size<=b/\b<h2.size)):
  bV h' e (Bo G (bR keep G.N) L' B')/\be e G h (Bo G (bR keep G.N) L' B') h':=by
 have lt:=W.lt
 have DP: ∀b,cV G.E.p G.P b->b∉L':=λb hb hm=>by
  rcases F b hm with q|q
  ·exact W.W.D b hb q
  ·have:=lt b (aW.2 (.inr (.inr (.inr hb))));omega
 have DPB: ∀b∈B',¬cV G.E.p G.P b:=λb hm hb=>by
  rcases FB b hm with q|q
  ·exact(W.dB b q).2 hb
  ·have:=lt b (aW.2 (.inr (.inr (.inr hb))));omega
 have eB:e∉B':=λhm=>by
  rcases FB e hm with q|q
  ·exact W.de.2.2 q
  ·have:=lt e (aW.2 (.inl rfl));omega
 have LB': ∀b∈B',b∉L':=λb hb hm=>by
  rcases F b hm with q|q
  ·rcases FB b hb with z|z
   ·exact(W.dB b z).1 q
   ·have:=lt b (aW.2 (.inr (.inl q)));omega
  ·rcases FB b hb with z|z
   ·have:=lt b (aW.2 (.inr (.inr (.inl z))));omega
   ·omega
 have cl: ∀i x,nd G.N i=some x->keep (i+2)=true->(x.2.1<2\/keep x.2.1=true)/\(x.2.2<2\/keep x.2.2=true):=λi x hx hk=>by have:=M.cl i x hx hk;simpa using this
 have ok0:ey G.n G.N:=W.W.S.ok.1;obtain⟨ok1,is1,AG⟩:=oc ok0 cl
 have kept: ∀a,isN G.N a->(1<a->a∈rs)->isN (bR keep G.N) a:=λa ha hm=>by
  rw[is1];by_cases q:a<2
  ·exact .inl q
  ·refine .inr ⟨ha,?_⟩;rcases M.ro _ (hm Y)with z|z|z
   ·omega
   ·exact z
   ·cases z
 have rg: ∀i,i<4-> ∀r,r<6->(G.E.ses i).there r=true->isN (bR keep G.N) ((G.E.ses i).hnd r):=λi hi r hr ht=>
  kept _ (W.rg i hi r hr ht) λh1=>hrs _ h1 ((held W.C).2 ⟨i,hi,r,hr,ht,rfl⟩)
 have GO':dc (bR keep G.N) G.P:=λj hj=>by
  have g:=W.W.GO j hj
  have k: ∀a,isN G.N a->(a=j.G.a0\/a=j.G.a1\/a=j.G.a2)->isN (bR keep G.N) a:=λa ha hm=>kept a ha λh1=>by
   rcases hd j hj a hm with q|q
   ·omega
   ·exact hrs a h1 ((held W.C).2 q)
  exact⟨k _ g.1 (.inl rfl),k _ g.2.1 (.inr (.inl rfl)),k _ g.2.2 (.inr (.inr rfl))⟩
 have Ok':bF G.n G.fo (bR keep G.N) G.P:=W.W.Ok.back ok1 AG (λj hj a ha=>kept a ((W.W.Ok.mst j hj).1.roots a ha) (hjs j hj a ha)) GO';refine⟨⟨⟨S,W.W.H.only O λb hb hp=> ?_,Ok',GO',DP⟩,R,W.I.only O (λhm=> ?_),W.C,⟨λhm=> ?_,W.de.2.1,eB⟩,λb hb=>⟨LB' b hb,DPB b hb⟩,rg,W.r0,W.mq,W.po⟩,⟨λT hT=>O.mono λb hb _=>hT b ?_,λb hb=> ?_⟩⟩
 ·rcases List.mem_append.1 hb with q|q
  ·exact W.W.D b hp q
  ·exact(W.dB b q).2 hp
 ·rcases List.mem_append.1 hm with q|q
  ·exact W.de.1 q
  ·exact W.de.2.2 q
 ·rcases F e hm with q|q
  ·exact W.de.1 q
  ·have:=lt e (aW.2 (.inl rfl));omega
 ·rcases List.mem_append.1 hb with q|q
  ·exact aW.2 (.inr (.inl q))
  ·exact aW.2 (.inr (.inr (.inl q)))
 ·rcases aW.1 hb with q|q|q|q
  ·exact .inl (aW.2 (.inl q))
  ·rcases F b q with q|q
   ·exact .inl (aW.2 (.inr (.inl q)))
   ·exact .inr Y
  ·rcases FB b q with q|q
   ·exact .inl (aW.2 (.inr (.inr (.inl q))))
   ·exact .inr q.1
  ·exact .inl (aW.2 (.inr (.inr (.inr q))))
end
end
section
def th{α:Type}{p:Nat->α}{w:Nat}{a b:α}:fK (fK p w a) w b=fK p w b:=by
 funext k;unfold fK;by_cases q:k=w
 ·rw[if_pos q,if_pos q]
 ·rw[if_neg q,if_neg q,if_neg q]
def gJ{α:Type}{p:Nat->α}{w:Nat}{a:α}:fK p w a w=a:=if_pos rfl
def va{α:Type}{p:Nat->α}{w:Nat}:fK p w (p w)=p:=by
 funext k;unfold fK;by_cases q:k=w
 ·rw[if_pos q,q]
 ·rw[if_neg q]
def u4:Nat->List Int:=λ_=> []
def qh(rs:List Nat):List Int:=rs.map λa:Nat=>(a:Int)
section
variable {lo:Nat}{h h1 h2 h':aA}{r M S Wn N:Nat}{f:Int->Int}{p:Nat->ak}{c:Nat->Nat}{L:Nat->List Int}{K:KK}
def Rf.back{p':Nat->ak}{c':Nat->Nat}{L':Nat->List Int}{N':Nat}(H:Rf lo h r M S Wn N f p c L)(H':Rf lo h' r M S Wn N' f p' c' L')(hl: ∀k,k<Wn->(L' k).length<=N):Rf lo h' r M S Wn N f p' c' L':=by
 refine⟨H'.R,H'.T,?_,H.fr,H.fx,H'.own,hl,H'.ge,H'.rS,H'.sep⟩;obtain⟨m,a,b,d⟩:=H.Mm;obtain⟨m',a',b',-⟩:=H'.Mm;refine⟨m',a',b',?_⟩;have nd':(m'.map (·.1)).Nodup:=by obtain⟨_,_,_,_,q,_⟩:=a';exact q
 have sub: ∀x∈m'.map (·.1),x∈m.map (·.1):=λx hx=>by
  apply Classical.byContradiction;intro hn;have e1:=b x;rw[dz.2 hn]at e1;have e2:=b' x;by_cases q:f x=0
  ·rw[if_pos q,dz]at e2;exact e2 hx
  ·rw[if_neg q]at e1;cases e1
 have:=nd'.length_le_of_subset sub;simp only[List.length_map]at this;omega
def zw{e:Nat}{B:List Nat}{q:ak}{cq:Nat}{rs:List Nat}
  (R:Rf lo h1 r M S Wn N f p c u4) (w1:1<=Wn) (hN:N+rs.length<=LB/8) (hlo:lo<=h1.size) (re: ∀hh,aF B h1 hh->rd hh ⟨e,2,none⟩=some (aX r)) (Ow:ct h1 h.size 1 q rs.length cq (rs.map hv)) (hB: ∀b∈B,b<h.size) (hS:S∈B) (hp: ∀k,k<Wn-> ∀b∈aR (p k),b∈B)
  (hK: ∀h2 p2 c2,Rf lo h2 r M S Wn (N+rs.length) f p2 c2 (fK u4 0 (qh rs))->(∀k,k<Wn-> ∀b∈aR (p2 k),b∈B\/h1.size<=b)->aF B h1 h2->F128.wk6 (ah e) q rs.length cq h2 K):
  F128.wk2 (ah e) q rs.length cq q rs.length cq (Nat.cast rs.length:Int) 0 h1 K:=by
 have hLB:LB=140737488355328:=rfl;unfold F128.wk2
 have main: ∀(d i:Nat) (p2:Nat->ak) (c2:Nat->Nat) (hh:aA),i+d=rs.length->Rf lo hh r M S Wn (N+i) f p2 c2 (fK u4 0 (qh (rs.take i)))->(∀k,k<Wn-> ∀b∈aR (p2 k),b∈B\/h1.size<=b)->aF B h1 hh->
   F128.wL2 (d+1) (ah e) q rs.length cq q rs.length cq (Nat.cast rs.length:Int) (i:Int) hh K:=by
  intro d
  induction d with
  |zero=>
   intro i p2 c2 hh hi R2 B2 O;rw[F128.sL2];rw[decide_eq_false Y,aD];have ei:i=rs.length:=Y;subst ei;rw[List.take_length]at R2;exact hK hh p2 c2 R2 B2 O
  |succ d ih=>
   intro i p2 c2 hh hi R2 B2 O;rw[F128.sL2];rw[decide_eq_true Y,aG];have OwH:=Ow.only O λb eb hm=>by have:=hB b hm;have:=(Ow.lt b (by rw[eb];simp[aR])).1;omega
   obtain⟨b,eb,rr⟩:=OwH.rd (j:=i) (by simp;omega);rw[eb,aL,<-eb];simp only[aE,Nat.zero_add];refine⟨Y,Y,?_⟩;obtain⟨a,ha⟩: ∃a,rs[i]? =some a:=⟨_,List.getElem?_eq_getElem Y⟩;refine aB (n:=(a:Int)) (by rw[show Int.toNat (i:Int)*1=i by omega,rr];simp[ha]) (aJ (re hh O) ?_);refine AX R2 Y (Nat.le_trans hlo O.size) (λz=>absurd ⟨Y,Y⟩ z) λk ek hk h3 p' c' R3 O3 hp'=>aQ rfl ?_;have k0:k=0:=Y;subst k0;have e1:ai ((i:Int)+1)=((i+1:Nat):Int):=by rw[aV Y Y];omega
   rw[e1]
   have e2:qh (rs.take (i+1))=qh (rs.take i)++[(a:Int)]:=by
    unfold qh;rw[List.take_add_one,ha,List.map_append]
    rfl
   rw[th,gJ,<-e2]at R3;have z:=O.size;refine ih (i+1) _ _ h3 Y R3 (λk hk' b hb=> ?_) (O.trans O3 λb hb hl=> ?_)
   ·unfold fK at hb;by_cases q0:k=0
    ·rw[if_pos q0]at hb;rcases hp' b hb with y|y
     ·exact B2 0 hk b y
     ·exact .inr Y
    ·rw[if_neg q0]at hb;exact B2 k hk' b hb
   ·rcases List.mem_cons.1 hb with y|y
    ·rw[y];exact hS
    ·rcases B2 0 hk b y with w|w
     ·exact w
     ·omega
 refine⟨rs.length+1,main rs.length 0 p c h1 Y ?_ (λk hk b hb=> .inl (hp k hk b hb)) (aF.refl _ _)⟩;have:fK u4 0 (qh (rs.take 0))=u4:=va (p:=u4);rw[this];exact R
def BM{e:Nat}{l:List Int}(R:Rf lo h r M S Wn N f p c (fK u4 0 l))(w1:1<=Wn)(hN:N<=LB/8)(re: ∀hh,aF [S] h hh->rd hh ⟨e,2,none⟩=some (aX r))
  (hK: ∀h',Rf lo h' r M S Wn N f p c u4->aF [S] h h'->K ax h'):F128.wk8 (ah e) (Nat.cast l.length:Int) 0 h K:=by
 have hLB:LB=140737488355328:=rfl;unfold F128.wk8;have n:=R.len 0 Y;rw[gJ]at n
 have main: ∀(d i:Nat) (l':List Int) (hh:aA),i+d=l.length->l'.length=d->Rf lo hh r M S Wn N f p c (fK u4 0 l')->aF [S] h hh->F128.wL8 (d+1) (ah e) (Nat.cast l.length:Int) (i:Int) hh K:=by
  intro d
  induction d with
  |zero=>
   intro i l' hh hi hl R2 O;rw[F128.sL8];rw[decide_eq_false Y,aD];have:l'=[]:=List.eq_nil_of_length_eq_zero hl;subst this;have e1:fK u4 0 []=u4:=va (p:=u4);rw[e1]at R2;exact hK hh R2 O
  |succ d ih=>
   intro i l' hh hi hl R2 O;rw[F128.sL8];rw[decide_eq_true Y,aG];simp only[aE,Nat.zero_add];refine aJ (re hh O) ?_;refine CP R2 hN (λz=> ?_) λk l2 x ek hk el h3 R3 O3=>⟨_,_,rfl,?_⟩
   ·exfalso;rcases z with z|z
    ·exact z ⟨Y,Y⟩
    ·rw[show((0:Int)).toNat=0 from rfl,gJ]at z;rw[z]at hl;cases hl
   ·have k0:k=0:=Y;subst k0;rw[gJ]at el;rw[th]at R3;have e1:ai ((i:Int)+1)=((i+1:Nat):Int):=by rw[aV Y Y];omega
    rw[e1];refine ih (i+1) l2 h3 Y ?_ R3 (O.trans O3 λb hb _=>hb);have:=congrArg List.length el;simp at this;omega
 exact⟨l.length+1,main l.length 0 l h Y rfl R (aF.refl _ _)⟩
def uX{s:Nat}{Ls:List Nat}{X:SX}(Q':(Nat->Bool)->Int->Int->Prop)(H:cG h s Ls X)(R:Rf lo h r M S Wn N f p c L)(w4:Wn<=4)(hN:N<=LB/64)(hf: ∀a:Nat,f (a:Int)≠0->isN X.N a)(hL: ∀k,k<Wn-> ∀x∈L k,∃a:Nat,x=(a:Int)/\isN X.N a)
  (hK: ∀h' L' keep (rs:List Nat) (a b:Int),(∀a:Nat,a∈rs↔1<a/\(f (a:Int)≠0\/ ∃k,k<Wn/\(a:Int)∈L k))->Mk X.N rs keep []->cG h' s L' {X with N:=bR keep X.N,Q:=Q' keep}->aF Ls h h'->(∃h1:aA,h.size<=h1.size/\cj Ls L' h1)->K (.tuple #[ac a,ac b]) h'):
  Cl 175 [aX s,aX r] h K:=by
 have hLB:LB=140737488355328:=rfl;refine F175.spec ?_;refine za R hN w4 λh1 q c1 Rs pw mem Ow O1=>bj rfl ?_;obtain⟨rs,ers⟩: ∃rs,rs=Rs.map Int.toNat:=⟨_,rfl⟩;have pos: ∀x∈Rs,1<x:=λx hx=>((mem x).1 hx).1
 have eR:Rs.map (Value.int .u32)=rs.map hv:=by rw[ers,List.map_map];refine List.map_congr_left λx hx=> ?_;have:=pos x hx;show ae x=ae ((x.toNat:Nat):Int);rw[Int.toNat_of_nonneg Y]
 have el:Rs.length=rs.length:=by rw[ers];simp
 have mrs: ∀a:Nat,a∈rs↔1<a/\(f (a:Int)≠0\/ ∃k,k<Wn/\(a:Int)∈L k):=λa=>by
  rw[ers,List.mem_map];constructor
  ·rintro ⟨x,hx,e⟩;have h1:=(mem x).1 hx;have h2:x=(a:Int):=by rw[<-e];exact(Int.toNat_of_nonneg (Int.le_of_lt (Int.lt_trans (by decide) h1.1))).symm
   rw[h2]at h1;exact⟨Int.ofNat_lt.1 h1.1,h1.2⟩
  ·rintro ⟨h1,h2⟩;exact⟨(a:Int),(mem _).2 ⟨Y,h2⟩,Z⟩
 have is: ∀r∈rs,isN X.N r:=λr hr=>by
  rcases((mrs r).1 hr).2 with z|⟨k,hk,z⟩
  ·exact hf r z
  ·obtain⟨a,e,ha⟩:=hL k hk _ z;have:r=a:=Y;rw[this];exact ha
 have few:rs.length<=100000:=by
  have nd:Rs.Nodup:=pw.imp λh=>Y
  have nd2:Rs.length<=((List.range 32770).map λa:Nat=>(a:Int)).length:=nd.length_le_of_subset λx hx=>by
   have h1:=pos x hx;have h2:x.toNat∈rs:=by rw[ers];exact List.mem_map.2 ⟨x,hx,rfl⟩
   have h3:=H.isN_lt (is _ h2);exact List.mem_map.2 ⟨x.toNat,List.mem_range.2 h3,Int.toNat_of_nonneg Y⟩
  simp only[List.length_map,List.length_range]at nd2;omega
 have H1:=H.only0 O1;rw[el,eR]at Ow;rw[el];exact ry Q' H1 Ow is few λh2 L2 gone keep Mk2 S2 O2 F2=>⟨_,_,rfl,hK h2 L2 keep rs gone 0 mrs Mk2 S2 ((O1.mono Z).trans O2 λb hb _=>hb) ⟨h1,O1.size,F2⟩⟩
end
end
section
def F217.T:bf:=⟨[(5,[3,19,20,21])],[(7,[[(0,[]),(1,[]),(2,[]),(3,[]),(4,[]),(5,[]),(6,[]),(7,[]),(8,[]),(9,[]),(10,[]),(11,[]),(12,[]),(13,[]),(14,[]),(15,[]),(16,[]),(17,[]),(18,[]),(19,[]),(20,[0]),(21,[]),(22,[])]])]⟩
section
variable (n:Nat)(l:Addr)(g:ak)(f d:Nat)(b:ak)(a i:Nat)(j c:Int)(h:aA)(K:KK)
def F217.wL5:Prop:=Lp Tryz.f217 F217.T [1,1,1,0,1,0] n [(3,(.slice g f d)),(19,(.slice b a i)),(20,(ac j)),(21,(ac c))] h K
def F217.sL5:F217.wL5 (n+1) g f d b a i j c h K=(aC (c<j) (aN b λe=>0<=c/\c<(a:Int)/\bi (rd h (e.add (c.toNat*1))) λe=>aN e λk=>0<=(0:Int)/\(0:Int)<(3:Int)/\aI .u32 (rd h ((k.add 3).add ((0:Int).toNat*1))) λk=>aN e λl=>0<=(1:Int)/\(1:Int)<(3:Int)/\aI .u32 (rd h ((l.add 3).add ((1:Int).toNat*1))) λl=>aN e λm=>0<=(2:Int)/\(2:Int)<(3:Int)/\aI .u32 (rd h ((m.add 3).add ((2:Int).toNat*1))) λm=>aN e λe=>aI .u32 (rd h (e.add 7)) λe=>aZ h (.cells #[ae k,ae l,ae m,ae e] 46) λe k=>ay (.slice g f d)/\fA k 46 1 4 #[ae 0] g f d (some (ah e)) 4 λd e f g=>F217.wL5 n d e f b a i j (ai (c+1)) g K) (K (.slice g f d) h)):=by kernel_rfl
def F217.wk5:Prop:=(∃e,F217.wL5 e g f d b a i j c h K)
def F217.spec(H:aI .i64 (rd h (l.add 4)) λa=>aC (a !=0) (K (.slice none 0 0) h) (aI .u32 (rd h (l.add 2)) λa=>aZ h (.cells #[ae a] 46) λa b=>cW (rd b (l.add 1)) λc d e=>F217.wk5 (some (ah a)) 1 1 c d e (d:Int) 0 b K)):Cl 217 [ag l] h K:=cT F217.T Tryz.func217 H
end
end
section
def u0(f:Fk):List Nat:=[f.a0,f.a1,f.a2,f.low]
section
variable {h h':aA}{s p:Nat}{A:MA}{P:PS}{K:KK}
def xk(M:bX h s A)(hl:A.fs.length<=100000)(hK: ∀h' q c,ct h' h.size 1 q (ce A).length c ((ce A).map hv)->aF [] h h'->K (.slice q (ce A).length c) h'):Cl 217 [aX A.m] h K:=by
 refine F217.spec _ h K ?_;have rm:=db M.own;simp only[aE,Nat.zero_add];refine aB rm.2.2.2.2 ?_;by_cases he:A.e=0
 ·have em:ce A=A.told::A.fs.flatMap u0:=by unfold ce;rw[if_pos he];rfl
  rw[he,show((((0:Nat):Int)) !=0)=false from rfl,aD];refine aB rm.2.2.1 (aM λh1 A1 O1 z1=> ?_);have M1:=M.only0 O1;refine bj (db M1.own).2.1 ?_;unfold F217.wk5
  have main: ∀(d i:Nat) (q:ak) (cq:Nat) (hh:aA),i+d=A.fs.length->ct hh h.size 1 q (A.told::(A.fs.take i).flatMap u0).length cq ((A.told::(A.fs.take i).flatMap u0).map hv)->aF [] h hh->
    F217.wL5 (d+1) q (A.told::(A.fs.take i).flatMap u0).length cq A.fp A.fs.length A.fc (Nat.cast A.fs.length:Int) (i:Int) hh K:=by
   intro d
   induction d with
   |zero=>
    intro i q cq hh hi Ow O;rw[F217.sL5];rw[decide_eq_false Y,aD];have ei:i=A.fs.length:=Y;subst ei;rw[List.take_length,<-em]at Ow ⊢;exact hK hh q cq Ow O
   |succ d ih=>
    intro i q cq hh hi Ow O;rw[F217.sL5];rw[decide_eq_true Y,aG];have Mh:=M.only0 O;obtain⟨ad,ep,rr⟩:=Mh.win.rd (j:=i) (by simp;omega);rw[ep,aL];refine⟨Y,Y,?_⟩;obtain⟨f,hf⟩: ∃f,A.fs[i]? =some f:=⟨_,List.getElem?_eq_getElem Y⟩;have F:=Mh.frm f (List.mem_of_getElem? hf);obtain⟨-,-,p3,p4,p5,-,p7,-⟩:=bL F;have r3:rd hh ⟨f.b,3+Int.toNat (0:Int)*1,none⟩=some (ae (f.a0:Int)):=p3;have r4:rd hh ⟨f.b,3+Int.toNat (1:Int)*1,none⟩=some (ae (f.a1:Int)):=p4;have r5:rd hh ⟨f.b,3+Int.toNat (2:Int)*1,none⟩=some (ae (f.a2:Int)):=p5;refine aJ (n:=some (ah f.b)) (by rw[show Int.toNat (i:Int)*1=i by omega,rr];simp[hf,aX]) ?_;simp only[aL,aE,Nat.zero_add];refine⟨Y,Y,aB r3 ⟨Y,Y,aB r4 ⟨Y,Y,aB r5 (aB p7 (aM λh2 A2 O2 z2=>⟨by trivial,?_⟩))⟩⟩⟩
    have ln: ∀l:List Fk,(l.flatMap u0).length=4*l.length:=λl=>by
     induction l with
     |nil=>rfl
     |cons a l ih=>rw[List.flatMap_cons,List.length_append,ih];simp[u0];omega
    have zO:=O.size;refine ic (new:=[hv f.a0,hv f.a1,hv f.a2,hv f.low]) (q:=some (ah hh.size)) (Ow.only O2 Z) rfl (dT A2 Z) rfl (by rw[List.length_cons,ln,List.length_take];omega) (by simp[Value.oneCell']) Y λp' c' h3 W3 O3 hb3=> ?_;have e2:A.fs.take (i+1)=A.fs.take i++[f]:=by rw[List.take_add_one,hf];rfl
    have e3:A.told::(A.fs.take (i+1)).flatMap u0=(A.told::(A.fs.take i).flatMap u0)++[f.a0,f.a1,f.a2,f.low]:=by rw[e2,List.flatMap_append];simp[u0]
    have e4:(A.told::(A.fs.take i).flatMap u0).length+4=(A.told::(A.fs.take (i+1)).flatMap u0).length:=by rw[e3,List.length_append];rfl
    have e5:(A.told::(A.fs.take i).flatMap u0).map hv++[hv f.a0,hv f.a1,hv f.a2,hv f.low]=(A.told::(A.fs.take (i+1)).flatMap u0).map hv:=by rw[e3,List.map_append];rfl
    rw[e4,e5]at W3;rw[e4,<-ep,show ai ((i:Int)+1)=((i+1:Nat):Int) by rw[wrap_i64 Y Y];omega];exact ih (i+1) p' c' h3 Y W3 ((O.trans O2 Z).trans O3 λb hb hl=>by have:=(Ow.lt b hb).1;omega)
  exact⟨A.fs.length+1,main A.fs.length 0 _ _ h1 Y ⟨rfl,.inr ⟨h.size,[],rfl,Nat.le_refl _,Nat.le_refl _,rfl,A1⟩⟩ O1⟩
 ·have em:ce A=[]:=if_neg he;rw[show(((A.e:Nat):Int) !=0)=true from bne_iff_ne.2 Y,aG];rw[em]at hK;exact hK h none 0 (ct.nil _ _ _) (aF.refl _ _)
def xb{lo:Nat}{q:ak}{c:Nat}{xs:List Int}(H:ct h lo 1 q xs.length c (xs.map (Value.int .i64)))(hn:xs.length<=12)
  (hK: ∀h' ys,List.Perm ys xs->ct h' lo 1 q xs.length c (ys.map (Value.int .i64))->aF (aR q) h h'->K ax h'):Cl 265 [.slice q xs.length c] h K:=by
 have hLB:LB=140737488355328:=rfl;rcases H.2 with⟨rfl,h0,h1⟩|⟨b,sp,rfl,h2,h3,h4,h5⟩
 ·exact yh Y (hK h xs (List.Perm.refl _) H (aF.refl _ _))
 ·have A:bI .i64 h b xs.length (λi=>xs.getD i 0) sp:=by
   unfold bI;rw[<-nB];exact h5
  refine F265.spec ?_;rw[bG Y Y];refine rn Y λL=>aB rfl ?_;refine F298.spec _ _ _ _ _ _ h _ ⟨1,?_⟩;rw[F298.sL2];rw[wrap_i64 Y Y,decide_eq_true Y,aG];refine IN.ins76 (a:=0) A (Nat.le_refl _) (Nat.zero_le _) Y λh' g' A' R' S' O'=>⟨rfl,rfl,hK h' ((List.range xs.length).map g') ?_ ⟨Z,.inr ⟨b,sp,rfl,h2,h3,h4,?_⟩⟩ (O'.mono (by simp[aR]))⟩
  ·have:=S'.perm (n:=xs.length) (Nat.le_refl _);rw[qp]at this;exact this
  ·rw[<-qz];exact A'
def uc(H:bo h p s P)(hj:P.jobs.length<=12)(hf: ∀j∈P.jobs,j.A.fs.length<=100000)(hlast:P.last<100000000)
  (hK: ∀h' q c (rs:List Nat),(∀a,a∈rs↔ ∃j∈P.jobs,a∈ce j.A)->rs.length<=5000000->ct h' h.size 1 q rs.length c (rs.map hv)->aF [] h h'->K (.slice q rs.length c) h'):Cl 173 [aX p] h K:=by
 refine F173.spec _ h K ?_;simp only[aE,Nat.zero_add];refine⟨_,by rw[At.rd H.own];rfl,?_⟩;refine F216.spec _ h _ ?_;refine aM λh1 A1 O1 z1=>⟨_,rfl,?_⟩;refine F215.spec ?_;refine F264.spec ?_;have M1:=H.jbm.only O1 Z;have ids:=H.ids;refine IN.appSeq A1 M1 (λx hx=> ?_) (by simp;omega) λpi ci h2 ss hp Ow O2=>bj rfl ?_
 ·simp only[List.map_map,List.mem_map]at hx;obtain⟨j,hj',e⟩:=hx;have e:(j.id:Int)=x:=e;have b1:=ids.2 j hj';rw[<-e];have m1:IntKind.min .i64= -9223372036854775808:=by decide
  have m2:IntKind.max .i64=9223372036854775807:=by decide
  simp only[Lit.wf,decide_eq_true_eq,Bool.and_eq_true];exact⟨Y,Y⟩
 have sl:ss.length=P.jobs.length:=by rw[hp.length_eq];simp
 refine bj rfl (xb (Ow.weak (lo':=h.size) Y) Y λh3 ys py OwI O3=>⟨rfl,bj rfl ?_⟩);have O03:aF [] h h3:=(O1.trans O2 Z).trans O3 λb hb hl=>by have:=(Ow.lt b hb).1;omega
 have yl:ys.length=ss.length:=py.length_eq
 have key: ∀x∈ys,∃j∈P.jobs,(j.id:Int)=x:=λx hx=>by have:=hp.mem_iff.1 (py.mem_iff.1 hx);simp only[List.map_map,List.mem_map]at this;obtain⟨j,hj',e⟩:=this;exact⟨j,hj',e⟩
 have ltI: ∀b∈aR pi,b<h3.size:=λb hb=>(OwI.lt b hb).2;unfold F173.wk3
 have main: ∀(d i:Nat) (out:List Nat) (q:ak) (cq:Nat) (hh:aA),i+d=ss.length->ct hh h.size 1 q out.length cq (out.map hv)->(∀b∈aR q,h3.size<=b)->(∀a,a∈out↔ ∃x∈ys.take i,∃j∈P.jobs,(j.id:Int)=x/\a∈ce j.A)->out.length<=i*400001->ct hh h.size 1 pi ss.length ci (ys.map (Value.int .i64))->aF [] h hh->h3.size<=hh.size->
   F173.wL3 (d+1) (ah p) q out.length cq pi ss.length ci (Nat.cast ss.length:Int) (i:Int) hh K:=by
  intro d
  induction d with
  |zero=>
   intro i out q cq hh hi Ow hq mem ln OwI O z3;rw[F173.sL3];rw[decide_eq_false Y,aD];have ei:i=ys.length:=Y;subst ei;rw[List.take_length]at mem;refine hK hh q cq out (λa=> ?_) (by have:ys.length*400001<=12*400001:=Nat.mul_le_mul_right _ Y;omega) Ow O;rw[mem];constructor
   ·rintro ⟨x,-,j,hj',-,ha⟩;exact⟨j,hj',ha⟩
   ·rintro ⟨j,hj',ha⟩;exact⟨(j.id:Int),py.mem_iff.2 (hp.mem_iff.2 (by simp only[List.map_map,List.mem_map];exact⟨j,hj',rfl⟩)),j,hj',rfl,ha⟩
  |succ d ih=>
   intro i out q cq hh hi Ow hq mem ln OwI O z3;rw[F173.sL3];rw[decide_eq_true Y,aG];obtain⟨b,eb,rr⟩:=OwI.rd (j:=i) (by simp;omega);obtain⟨x,hx⟩: ∃x,ys[i]? =some x:=⟨_,List.getElem?_eq_getElem Y⟩;rw[eb,aL,<-eb];simp only[aE,Nat.zero_add];refine⟨Y,Y,aB (n:=x) (by rw[show Int.toNat (i:Int)*1=i by omega,rr];simp[hx]) ?_⟩;have Hh:=H.only0 O;obtain⟨j,hj',ej⟩:=key x (List.mem_of_getElem? hx);obtain⟨y,hy⟩:=List.getElem?_of_mem hj';have lk:=iy ids.1 hy;refine⟨_,by rw[At.rd Hh.own];rfl,?_⟩;rw[<-ej];refine dt Hh.jbm (λe=> ?_) λx' v e=> ?_
   ·rw[lk]at e;cases e
   ·rw[lk]at e;injection e with e;subst e;refine aJ (n:=some (ah j.A.m)) rfl ?_;refine xk (Hh.ma j hj') (hf j hj') λh7 pq cq2 Ow7 O7=>bj rfl ?_;have e2:ys.take (i+1)=ys.take i++[x]:=by rw[List.take_add_one,hx];rfl
    have l7:=rA (A:=j.A);have l8:=hf j hj';have zO:=O.size;refine ic (new:=(ce j.A).map hv) (Ow.only O7 Z) Z Ow7.row rfl (by have:i*400001<=12*400001:=Nat.mul_le_mul_right _ Y;omega) (by simp[Value.oneCell']) (by have:=O7.size;omega) λp' c' h8 W8 O8 hb8=> ?_;have e4:out.length+(ce j.A).length=(out++ce j.A).length:=by rw[List.length_append]
    rw[e4,<-List.map_append]at W8;rw[e4,show ai ((i:Int)+1)=((i+1:Nat):Int) by rw[wrap_i64 Y Y];omega];refine ih (i+1) (out++ce j.A) p' c' h8 Y W8 (λb hb=> ?_) (λa=> ?_) (by rw[List.length_append,Nat.add_mul];omega) ((OwI.only O7 Z).only O8 λb eb hm=> ?_) ((O.trans O7 Z).trans O8 λb hb hl=>by have:=(Ow.lt b hb).1;omega) (by have:=O7.size;have:=O8.size;omega)
    ·rcases hb8 b hb with w|w
     ·exact hq b w
     ·have:=O7.size;omega
    ·rw[List.mem_append,mem,e2];constructor
     ·rintro (⟨z,hz,w⟩|w)
      ·exact⟨z,List.mem_append.2 (.inl hz),w⟩
      ·exact⟨x,Z,j,hj',ej,w⟩
     ·rintro ⟨z,hz,j',hj2,ez,w⟩;rcases List.mem_append.1 hz with hz|hz
      ·exact .inl ⟨z,hz,j',hj2,ez,w⟩
      ·have:z=x:=by simpa using hz
       right;obtain⟨y',hy'⟩:=List.getElem?_of_mem hj2;have i1:(P.jobs.map (·.id))[y']? =some j'.id:=by rw[List.getElem?_map,hy'];rfl
       have i2:(P.jobs.map (·.id))[y]? =some j'.id:=by rw[List.getElem?_map,hy];exact congrArg some (show j.id=j'.id by omega)
       have:=dO ids.1 i1 i2;subst this;rw[hy]at hy';injection hy' with hy';rw[hy'];exact w
    ·have l1:=ltI b (by rw[eb];simp[aR]);have l2:=hq b hm;omega
 exact⟨ss.length+1,main ss.length 0 [] none 0 h3 Y (ct.nil _ _ _) (by simp[aR]) (λa=>Z) Z OwI O03 (Nat.le_refl _)⟩
end
end
section
section
variable {h h':aA}{e:Nat}{G G':EG}{K:KK}
def uh(W:bV h e G)(hd:ww G)(hj:G.P.jobs.length<=12)(hM:G.M<=LB/1000)
  (hK: ∀h' G',oD G G'->bV h' e G'->be e G h G' h'->K ax h'):Cl 128 [aX e] h K:=by
 have hLB:LB=140737488355328:=rfl;refine F128.spec _ h K ?_;simp only[aE,Nat.zero_add];refine aJ W.I.p (uc W.W.H hj (λj hm=> ?_) W.W.Ok.last λh1 q cq rs mem ln Ow O1=>bj rfl ?_)
 ·have a1:=gu (n:=G.n) (N:=G.N) j.A.fs;have a2:=(W.W.Ok.mst j hm).2;omega
 have lt:=W.lt;obtain⟨lo,M,S,Wn,p,c,R,w1,w4,hlo,eB⟩:=W.R;have R1:=R.new O1;have z1:=O1.size;have rB:G.E.r∈G.B:=by rw[eB];simp
 have MB:M∈G.B:=by rw[eB];simp
 have SB:S∈G.B:=by rw[eB];simp
 have pB: ∀k,k<Wn-> ∀b∈aR (p k),b∈G.B:=λk hk b hb=>by rw[eB];simp only[List.mem_cons,List.mem_flatMap,List.mem_range];exact .inr (.inr (.inr ⟨k,hk,hb⟩))
 have ltB: ∀b∈G.B,b<h.size:=λb hb=>lt b (aW.2 (.inr (.inr (.inl hb))));have ltL: ∀b∈G.L,b<h.size:=λb hb=>lt b (aW.2 (.inr (.inl hb)));have I1:=W.I.only0 O1;refine zw (B:=G.B) (e:=e) R1 w1 Y Y (λhh O=>(I1.only O W.de.2.2).r) Ow ltB SB pB λh2 p2 c2 R2 B2 O2=> ?_;have z2:=O2.size;unfold F128.wk6;have I2:=I1.only O2 W.de.2.2;have S2:=(W.W.S.only0 O1).only O2 (λb hb=>(W.dB b hb).1);simp only[aE,Nat.zero_add];refine aJ I2.s (aJ I2.r (uX (λkeep=>QL G.n G.fo (bR keep G.N)) S2 R2 w4 Y (λa ha=> ?_) (λk hk x hx=> ?_) λh3 L3 keep ks a b mks Mk3 S3 O3 F3=>⟨_,_,rfl,?_⟩))
 ·obtain⟨i,hi,q,hq,ht,he⟩:=(held W.C).1 ha;rw[<-he];exact W.rg i hi q hq ht
 ·unfold fK at hx;by_cases q0:k=0
  ·rw[if_pos q0]at hx;obtain⟨a,ha,ex⟩:=List.mem_map.1 hx;obtain⟨j,hj,hm⟩:=(mem a).1 ha;exact⟨a,ex.symm,(W.W.Ok.mst j hj).1.roots a hm⟩
  ·rw[if_neg q0]at hx;cases hx
 obtain⟨hf,zf,F3⟩:=F3;have nL: ∀{b},b∈G.B->b∉G.L:=λhb=>(W.dB _ hb).1
 have R3:=R2.only O3 (nL rB) (nL SB) (nL MB) λk hk b hb hm=>by
  rcases B2 k hk b hb with y|y
  ·exact nL y hm
  ·have:=ltL b hm;omega
 have I3:=I2.only O3 W.de.1;have el:(qh rs).length=rs.length:=by simp[qh]
 have fin:=BM (K:=K) (e:=e) R3 w1 Y (λhh O=>(I3.only O (λhm=>by simp at hm;exact W.de.2.2 (hm▸SB))).r) λh4 R4 O4=> ?_
 ·rw[el]at fin;exact fin
 have z3:=O3.size;have z4:=O4.size;have lt2:=R2.lt;have R5:mQ h4 G.E.r G.M G.f (G.E.r::M::S::(List.range Wn).flatMap λk=>aR (p2 k)):=⟨lo,M,S,Wn,p2,c2,R.back R4 (λk hk=>Nat.zero_le _),w1,w4,Y,rfl⟩
 have SL:S∉L3:=λhm=>by
  rcases F3 S hm with y|y
  ·exact nL SB y
  ·have:=ltB S SB;omega
 have S4:=S3.only O4 (λb hb hm=>by simp at hb;subst hb;exact SL hm)
 have OO:aF (G.L++G.B) h h4:=(((O1.mono (T:=G.L++G.B) Z).trans O2 λb hb _=>List.mem_append.2 (.inr hb)).trans O3 λb hb _=>List.mem_append.2 (.inl hb)).trans O4 λb hb _=>by simp at hb;subst hb;exact List.mem_append.2 (.inr SB)
 obtain⟨W5,T5⟩:=W.retJ hd (h2:=hf) Mk3 (λa a1 a2=>(mks a).2 ⟨a1,.inl a2⟩) (λj hj a hm a1=>(mks a).2 ⟨a1,.inr ⟨0,Y,by rw[gJ];exact List.mem_map.2 ⟨a,(mem a).2 ⟨j,hj,hm⟩,rfl⟩⟩⟩) S4 R5 Y OO F3 λb hb=>by
  simp only[List.mem_cons,List.mem_flatMap,List.mem_range]at hb;rcases hb with y|y|y|⟨k,hk,y⟩
  ·rw[y];exact .inl rB
  ·rw[y];exact .inl MB
  ·rw[y];exact .inl SB
  ·rcases B2 k hk b y with w|w
   ·exact .inl w
   ·have:=(lt2.2.2.2 k hk b y).2;exact .inr ⟨Y,Y⟩
 have cl: ∀i x,nd G.N i=some x->keep (i+2)=true->(x.2.1<2\/keep x.2.1=true)/\(x.2.2<2\/keep x.2.2=true):=λi x hx hk=>by have:=Mk3.cl i x hx hk;simpa using this
 have ok0:ey G.n G.N:=W.W.S.ok.1;have ex:Ex (bR keep G.N) G.N:=(oc ok0 cl).2.2;exact hK h4 (Bo G (bR keep G.N) L3 _) ⟨rfl,rfl,rfl,rfl,rfl,rfl,rfl,rfl,ex,oL ex,⟨Nat.le_refl _,Nat.le_add_right _ _⟩,W5.W.S.ok.1,W5.rg⟩ W5 T5
def o0:gT λG=>ww G/\G.P.jobs.length<=12:=by intro h e G K W hc hM hK;refine F80.spec ?_;have rs:rd h (ah e)=some (ag (ah G.E.s)):=W.I.s;simp only[aE,Nat.zero_add];refine aJ rs (aJ rs (jG W.W.S (aB rfl ⟨trivial,trivial,trivial,aJ rs ⟨rfl,pZ W.W.S (aB rfl ?_)⟩⟩)));exact aH (λ_=>uh W hc.1 hc.2 hM λh1 G1 C1 W1 S1=>⟨rfl,hK h1 G1 W1 C1 S1⟩) λ_=>hK h G W (oD.refl W) be.refl
end
end
section
abbrev Aa:=Nat->Nat->Option (Nat->Bool)
def Md(G:EG)(F:Aa):Prop:= ∀k,k<4-> ∀r,r<6->(F k r=none->(G.E.ses k).there r=false)/\ ∀f,F k r=some f->(G.E.ses k).there r=true/\ ∀y,sm G.n G.fo G.N ((G.E.ses k).hnd r) y=f y
structure Qt(h:aA)(e:Nat)(G:EG)(F:Aa)(t:Nat):Prop where
 W:bV h e G
 md:Md G F
 jobs:G.P.jobs=[]
 pend: ∀k,k<4->(G.E.ses k).pend=false
 last:G.P.last<=t
 M:G.M<=30000000*t
 ans:G.E.ans<=4*t
 cnt:aT G.N<=255*t
 t:t<1000
section
variable {h h':aA}{e s w op d t:Nat}{G G0 G1 G':EG}{K:KK}{C:Nat->Nat->Prop}{F:Aa}{c:iL}
def xo(W:bV h e G)(hj:G.P.jobs=[]):locs G.P.ws=[]:=by
 match hq:locs G.P.ws with
 | []=>rfl
 |x::l=>
  obtain⟨j,hj',-⟩:=W.W.Ok.at_ x (by rw[hq];simp);rw[hj]at hj';cases hj'
def BU(hs:s<4)(W:bV h e G)(hp:(G.E.ses s).pend=false)(hm:c.mask<256)(hr:refu G.n (G.E.ses s) c=0)(R:EG->Prop)
  (fair: ∀{h1} {Q:KK},bV h1 e (dV G s c)->(∀h2 G2,bV h2 e G2->be e (dV G s c) h1 G2 h2->R G2->Q au h2)->Cl 42 [aX e] h1 Q)
  (hR: ∀{G2},R G2->(G2.E.ses s).ansd=true)
  (hK: ∀h' G2,bV h' e G2->be e G h G2 h'->R G2->K (.tuple #[.agg #[ac (G2.E.ses s).err,af ((G2.E.ses s).num:Int)],au]) h'):
  Cl 53 [aX e,ac (s:Int),pF c] h K:=by
 refine F53.spec ?_;refine aM λh1 A1 O1 z1=>aM λh2 A2 O2 z2=> ?_;have A1':=A1.only O2 Z;have r: ∀k,rd h2 ⟨h.size,k,none⟩=([ac c.kind,ac c.op,ac c.dst,ac c.a,ac c.b,ac c.c,.int .u8 (c.mask:Int)]:List Value)[k]? :=λk=>At.rd A1' k;simp only[aE,Nat.zero_add];refine aB (n:=c.kind) (by rw[r];rfl) (aB (n:=c.op) (by rw[r];rfl) (aB (n:=c.dst) (by rw[r];rfl) (aB (n:=c.a) (by rw[r];rfl) (aB (n:=c.b) (by rw[r];rfl) (aB (n:=c.c) (by rw[r];rfl) (aB (n:=(c.mask:Int)) (by rw[r];rfl) ?_))))));have O12:=O1.trans O2 Z;have W2:=W.only0 O12;have lt:=W.lt;have z1':=O1.size;refine jF (c:=c) (i:=(s:Int)) W2 hm (λq=>Y) (λk hk ek hp2=> ?_) (λk hk ek hp2 hr2=> ?_) λk hk ek hp2 hr2 h3 W3 S3=>aB rfl ?_
 ·have ek:k=s:=Y;subst ek;rw[hp]at hp2;cases hp2
 ·have ek:k=s:=Y;subst ek;exact absurd hr hr2
 have ek:k=s:=Y;subst ek;rw[show((0:Int) !=0)=false from rfl,aD];refine fair W3 λh4 G2 W4 S4 R4=>aQ rfl ?_;rw[Bool.not_true,aD];refine lP W4.I (λq=>Y) λk' hk' ek' h5 O5=>⟨_,_,_,rfl,?_⟩;have ek':k'=k:=Y;subst ek';have ha:=hR R4;rw[ha,if_pos rfl,if_pos rfl];have S24:be e G h2 G2 h4:=S3.trans S4
 have A4:At h4 h1.size [ac (0:Int),af (0:Int)]:=by have:=S24.O (gK e G) (λb hb=>hb);exact At.only A2 this λhm=>by have:=lt _ hm;omega
 have A5:=A4.only O5 Z;refine aK A5 Z rfl λh6 A6 O6 z6=>aK A6 Z rfl λh7 A7 O7 z7=> ?_;refine aB (n:=(G2.E.ses k').err) (by rw[At.rd A7];rfl) (aB (n:=((G2.E.ses k').num:Int)) (by rw[At.rd A7];rfl) ?_)
 have nb:h1.size∉gK e G2:=λhm=>by
  rcases S24.B _ hm with q|q
  ·have:=lt _ q;omega
  ·have:=A2.lt;omega
 have O57:aF [h1.size] h5 h7:=O6.trans O7 λb hb _=>hb;have W5:=W4.only0 O5;have W7:bV h7 e G2:=⟨W5.W.only O57 (λy hy hm=>by simp at hy;subst hy;exact nb (aW.2 (.inr (.inl hm)))) (λy hy hm=>by simp at hy;subst hy;exact nb (aW.2 (.inr (.inr (.inr hm))))),W5.R.only O57 (λy hy hm=>by simp at hy;subst hy;exact nb (aW.2 (.inr (.inr (.inl hm))))),W5.I.only O57 (λhm=>by simp at hm;exact nb (aW.2 (.inl hm.symm))),W5.C,W5.de,W5.dB,W5.rg,W5.r0,W5.mq,W5.po⟩;refine hK h7 G2 W7 ⟨λT hT=> ?_,λb hb=> ?_⟩ R4
 ·have o1:aF T h h4:=(O12.mono Z).trans (S24.O T hT) λb hb _=>hb;exact(o1.trans (O5.mono Z) λb hb _=>hb).trans O57 λb hb hl=>by simp at hb;omega
 ·rcases S24.B b hb with q|q
  ·exact .inl q
  ·exact .inr (by have:=O12.size;omega)
end
end
section
structure Fq(h:aA)(e:Nat)(G:EG)(t:Nat):Prop where
 W:bV h e G
 jobs:G.P.jobs=[]
 pend: ∀k,k<4->(G.E.ses k).pend=false
 last:G.P.last<=t
 M:G.M<=30000000*t
 ans:G.E.ans<=4*t
 t:t<1000
structure AZ(G:EG)(s:Nat)(c:iL)(G':EG):Prop where
 n:G'.n=G.n
 room:G'.room=G.room
 ansd:(G'.E.ses s).ansd=true
 num:(G'.E.ses s).num=0
 err:(G'.E.ses s).err=0\/(G'.E.ses s).err=60
 e0:c.kind=2->(G'.E.ses s).err=0
 reg: ∀r:Nat,r<6->((r:Int)≠c.dst\/(G'.E.ses s).err≠0)->(G'.E.ses s).there r=(G.E.ses s).there r/\(G'.E.ses s).hnd r=(G.E.ses s).hnd r
section
variable {h h1 h':aA}{e s op t:Nat}{G G0 G1 G':EG}{K:KK}{c:iL}
def Fq.only0(Q:Fq h e G t)(O:aF [] h h'):Fq h' e G t:=⟨Q.W.only0 O,Q.jobs,Q.pend,Q.last,Q.M,Q.ans,Q.t⟩
def uU(B:u3 G0 s op)(R:fB G0 s op G):ww G/\G.P.jobs.length<=12:=by
 obtain⟨j,hj,-,gj⟩:=R.job;refine⟨λj' hj' a ha=> ?_,by rw[hj];simp⟩;rw[hj]at hj';have:j'=j:=by simpa using hj'
 subst this;have ok:=(eV B.refu).2.2.1
 have ar: ∀q,cu (G0.E.ses s) q<2\/ ∃i,i<4/\ ∃r,r<6/\(G.E.ses i).there r=true/\(G.E.ses i).hnd r=cu (G0.E.ses s) q:=λq=>by
  match hx:(gG (G0.E.ses s).cal)[q]? with
  |none=>rw[jT hx];exact .inl Y
  |some x=>
   obtain⟨rx,tx⟩:=ok x (List.mem_of_getElem? hx);rw[iJ hx];exact .inr ⟨s,B.s4,x.toNat,by unfold iQ at rx;omega,by rw[(R.regs s).1];exact tx,by rw[(R.regs s).2]⟩
 rw[gj]at ha;unfold cQ at ha;split at ha
 ·rcases ha with q|q|q<;>rw[q]
  ·exact .inl (show 1<2 by omega)
  ·exact ar 0
  ·exact .inl (show 0<2 by omega)
 ·split at ha
  ·rcases ha with q|q|q<;>rw[q]
   ·exact ar 0
   ·exact ar 1
   ·exact ar 2
  ·rcases ha with q|q|q<;>rw[q]
   ·exact ar 0
   ·exact ar 1
   ·exact .inl (show 0<2 by omega)
def kr(hj:G.P.jobs=[]):ww G/\G.P.jobs.length<=12:=⟨λj hm=>(by rw[hj]at hm;cases hm),by rw[hj];simp⟩
def zG(G0:EG)(s:Nat)(G1:EG):Prop:= ∃(x':eW) (er:Int),(er=0\/er=60)/\(er=60->x'=dN (G0.E.ses s) er 0)/\(er=0-> ∃d v:Nat,d<6/\(G0.E.ses s).cal.dst=(d:Int)/\x'=dN (setS (G0.E.ses s) d v) 0 0)/\((G0.E.ses s).cal.kind=2->er=0)/\G1.M<=G0.M+10000/\
 Ay G0 s x' (λr y=>sm G0.n G0.fo G1.N (x'.hnd r) y) 1 G1
def wj(hs:s<4)(W:bV h e G0)(hj:G0.P.jobs=[])(hk:(G0.E.ses s).cal.kind=1\/(G0.E.ses s).cal.kind=2)(L:Bb s G0 G1):zG G0 s G1:=by
 obtain⟨d,d6,ed,L⟩:=L;rcases L with⟨k,G2,er,V,e⟩|⟨k,f',e⟩|⟨k,-⟩
 ·obtain⟨Gc,N2,L2,v,er',f',C1,M,ee,e1⟩:=V;obtain⟨E2,he2,hfull⟩:=xc M;have cM:=C1.M;have cc:=C1.cnt;have hE:=C1.E
  have sm2: ∀k,k<4-> ∀r,r<6->(G0.E.ses k).there r=true-> ∀y,sm G0.n G0.fo N2 ((G0.E.ses k).hnd r) y=sm G0.n G0.fo G0.N ((G0.E.ses k).hnd r) y:=λk hk r hr ht y=>by have hv:=C1.rg k hk r hr ht;have o1:=C1.ok;rw[C1.n]at o1;rw[E2.sm o1 hv,C1.ex.sm o1 hv]
  rcases he2 with z|z
  ·subst z;rw[if_pos rfl]at e1;subst e1 ee e;have c2:=rP M
   have es:(hZ (kS (oh Gc N2 L2) s d v f') s ((0:Nat):Int) 0).E.ses=fJ G0.E.ses s (dN (setS (G0.E.ses s) d v) 0 0):=by rw[<-hE];exact fD
   refine⟨dN (setS (G0.E.ses s) d v) 0 0,0,.inl rfl,λz=>(by cases z),λ_=>⟨d,v,d6,ed,rfl⟩,λ_=>rfl,by show Gc.M+2<=_;omega,⟨by rw[<-hE];exact⟨rfl,rfl,rfl⟩,C1.n,C1.fo,C1.gg,C1.room,C1.off,by show Gc.P.ws.length=_;rw[C1.P],by show Gc.P.last<=_;rw[C1.P];omega,by show Gc.P.jobs=[];rw[C1.P];exact hj,by rw[<-hE];rfl,by show Gc.M+2<=_;omega,rfl,by rw[es,bQ],λk hk z=>by rw[es,bP z],λr hr ht y=>rfl,λk hk z r hr ht y=>sm2 k hk r hr ht y,by show aT N2<=_;omega⟩⟩
  ·obtain⟨-,eN⟩:=hfull z;rw[if_neg Y]at e1;subst e1 ee e;subst z
   have es:(hZ (oh Gc N2 L2) s ((60:Nat):Int) 0).E.ses=fJ G0.E.ses s (dN (G0.E.ses s) 60 0):=by
    rw[<-hE]
    rfl
   refine⟨dN (G0.E.ses s) 60 0,60,.inr rfl,λ_=>rfl,λz=>(by cases z),λz=>Y,by show Gc.M<=_;omega,⟨by rw[<-hE];exact⟨rfl,rfl,rfl⟩,C1.n,C1.fo,C1.gg,C1.room,C1.off,by show Gc.P.ws.length=_;rw[C1.P],by show Gc.P.last<=_;rw[C1.P];omega,by show Gc.P.jobs=[];rw[C1.P];exact hj,by rw[<-hE];rfl,by show Gc.M<=_;omega,rfl,by rw[es,bQ],λk hk z=>by rw[es,bP z],λr hr ht y=>rfl,λk hk z r hr ht y=>sm2 k hk r hr ht y,by show aT N2<=_;rw[eN];omega⟩⟩
 ·subst e;have es:(hZ (kS G0 s d (min 1 (G0.E.ses s).cal.mask) f') s 0 0).E.ses=fJ G0.E.ses s (dN (setS (G0.E.ses s) d (min 1 (G0.E.ses s).cal.mask)) 0 0):=fD;exact⟨dN (setS (G0.E.ses s) d (min 1 (G0.E.ses s).cal.mask)) 0 0,0,.inl rfl,λz=>(by cases z),λ_=>⟨d,_,d6,ed,rfl⟩,λ_=>rfl,by show G0.M+2<=_;omega,⟨⟨rfl,rfl,rfl⟩,rfl,rfl,rfl,rfl,rfl,rfl,Nat.le_add_right _ _,hj,rfl,by show G0.M+2<=_;omega,rfl,by rw[es,bQ],λk hk z=>by rw[es,bP z],λr hr ht y=>rfl,λk hk z r hr ht y=>rfl,Nat.le_add_right _ _⟩⟩
 ·omega
def qf{x x':eW}{d v:Nat}{er:Int}(hd:d<6)(e:x'=dN (setS x d v) er 0): ∀r:Nat,r<6->(r:Int)≠(d:Int)->x'.there r=x.there r/\x'.hnd r=x.hnd r:=λr hr hn=>by subst e;exact⟨bP Y,bP Y⟩
def nR(Q:Fq h e G t)(hs:s<4)(hr:refu G.n (G.E.ses s) c=0)(W0:bV h1 e (dV G s c))(ht:t+1<1000)(hk:c.kind=1\/c.kind=2\/(c.kind=3/\c.op=(op:Int)/\(op=1\/op=2\/op=3\/op=4\/op=5)))
  (hK: ∀h' G',Fq h' e G' (t+1)->be e (dV G s c) h1 G' h'->AZ G s c G'->K au h'):Cl 42 [aX e] h1 K:=by
 have hLB:LB=140737488355328:=rfl;have qM:=Q.M;have qa:=Q.ans;have ql:=Q.last;have sE: ∀k,(dV G s c).E.ses k=if k=s then mU (G.E.ses s) c else G.E.ses k:=λk=>rfl
 have ss:(dV G s c).E.ses s=mU (G.E.ses s) c:=by rw[sE,if_pos rfl]
 have solo: ∀k,k<4->k≠s->((dV G s c).E.ses k).pend=false:=λk hk q=>by rw[sE,if_neg q];exact Q.pend k hk
 have pS:((dV G s c).E.ses s).pend=true:=by rw[ss];rfl
 have rf:refu (dV G s c).n ((dV G s c).E.ses s) ((dV G s c).E.ses s).cal=0:=by rw[ss];exact hr
 have lay:c.kind=1\/c.kind=2->Cl 42 [aX e] h1 K:=λk12=>by
  have hn:gw ((dV G s c).E.ses s).cal.kind=123:=by rw[ss];show gw c.kind=123;unfold gw;rw[if_pos Y]
  refine uz o0 W0 hs pS solo (by show G.M+_<=_;omega) (zG (dV G s c) s) (λ{h2 Q2} O2 hQ2=> ?_) (λ{G1} R=> ?_) λh2 G1 G2 R k W2 S2=> ?_
  ·rw[hn];refine wo o0 (W0.only0 O2) hs (kr Q.jobs) (by show G.M+_<=_;omega) (by show G.E.ans<_;omega) (by rw[ss];show c.kind=1\/c.kind=2\/c.kind=6;omega) rf λh3 G3 W3 S3 L3=>hQ2 true h3 G3 W3 ((be.only0 O2).trans S3) ?_;exact wj hs W0 Q.jobs (by rw[ss];exact k12) L3
  ·obtain⟨x',er,-,-,-,-,m,A⟩:=R;exact⟨⟨_,_,_,A⟩,kr A.jobs,m⟩
  ·obtain⟨x',er,h1',h2',h3',h4',m,A⟩:=R;have kM:=k.M;have A2:=A.kept hs k (by show _<=G.M+_;have:(dV G s c).M=G.M:=rfl;omega);have al:G2.P.last<=G.P.last+1:=A2.last;have am:G2.M<=G.M+20000000:=A2.M;have aa:G2.E.ans=G.E.ans+1:=A2.ans
   have xe:x'.ansd=true/\x'.num=0/\x'.err=er:=by
    rcases h1' with z|z
    ·obtain⟨d,v,-,-,q⟩:=h3' z;rw[q,z];exact⟨rfl,rfl,rfl⟩
    ·rw[h2' z];exact⟨rfl,rfl,rfl⟩
   refine hK h2 G2 ⟨W2,A2.jobs,A2.none solo,Y,Y,Y,ht⟩ S2 ⟨A2.n,A2.room,by rw[A2.ses];exact xe.1,by rw[A2.ses];exact xe.2.1,by rw[A2.ses,xe.2.2];exact h1',λz=>by rw[A2.ses,xe.2.2];exact h4' (by rw[ss];exact z),λr hr' z=> ?_⟩;rw[A2.ses,xe.2.2]at z;rw[A2.ses];rcases h1' with w|w
   ·obtain⟨d,v,d6,ed,q⟩:=h3' w;rw[ss]at ed q;have ed:c.dst=(d:Int):=ed;have:=qf d6 q r hr' (by have:=z.resolve_right λy=>y w;omega);exact this
   ·rw[h2' w,ss];exact⟨rfl,rfl⟩
 rcases hk with k|k|⟨k,eo,hop⟩
 ·exact lay (.inl k)
 ·exact lay (.inr k)
 ·have B:u3 (dV G s c) s op:=⟨hs,pS,solo,by rw[ss];exact k,by rw[ss];exact eo,hop,rf,by rw[ss];rfl,Q.jobs,(by have:=xo Q.W Q.jobs;exact this),by show G.P.last+1<_;omega,by show G.M+_<=_;omega,by show G.E.ans<_;omega⟩;refine vL o0 B W0 (λG' q=> ?_) λh2 G2 W2 S2 m2 F2=> ?_
  ·rcases q with F|R
   ·exact kr F.jobs
   ·exact uU B R
  ·have fl:G2.P.last=G.P.last+1:=F2.last;have fm:G2.M<=G.M+20000000:=m2;have fa:G2.E.ans=G.E.ans+1:=F2.ans;have q2:Fq h2 e G2 (t+1):=⟨W2,F2.jobs,F2.pend B,Y,Y,Y,ht⟩;rcases F2.res with⟨d,v,d6,ed,q,-⟩|⟨-,q⟩
   ·rw[ss]at ed q;have ed:c.dst=(d:Int):=ed;refine hK h2 G2 q2 S2 ⟨F2.n,F2.room,by rw[q];rfl,by rw[q];rfl,by rw[q];exact .inl rfl,λ_=>by rw[q];rfl,λr hr' z=> ?_⟩
    have z:(r:Int)≠c.dst:=by
     rcases z with y|y
     ·exact y
     ·rw[q]at y;exact absurd rfl y
    have:=qf d6 q r hr' Y;exact this
   ·rw[ss]at q;refine hK h2 G2 q2 S2 ⟨F2.n,F2.room,by rw[q];rfl,by rw[q];rfl,by rw[q];exact .inr rfl,λz=>Y,λr hr' z=> ?_⟩;rw[q];exact⟨rfl,rfl⟩
end
end
section
namespace F14
def T:bf:=⟨[(9,[1,5,7]),(15,[1,5,7,9]),(18,[1,5,7,9,10,11,12]),(21,[1,5,7,9,10,11]),(28,[1,5,7,9,10,11,13,15]),(33,[5])],[]⟩
noncomputable def body:Code:=(Tryz.f14.body).getD .skip
noncomputable def en(S:aS)(p:List Nat)(κ:XK):Fr->aA->Prop:=E Tryz.prog X T S (sub body p) κ
noncomputable def ln(S:aS)(p:List Nat)(κ:XK)(n:Nat):Fr->aA->Prop:=fQ S (E Tryz.prog X T S (sub body p)) (bJ T (sub body p)) κ n
def fn(K:KK):XK:=fin Tryz.prog Tryz.f14.results.toList K
noncomputable def c0(S:aS)(K:KK):XK:=dM S (bJ T (sub body [1,1,1,1,1,1])) (en S [1,1,1,1,1,1] (fn K)) (fn K)
noncomputable def c1(S:aS)(K:KK):XK:=br 0 (c0 S K)
noncomputable def c2(S:aS)(n9:Nat)(K:KK):XK:=cO S (bJ T (sub body [1,1,1,1,1,0,1,0,0])) (ln S [1,1,1,1,1,0,1,0,0] (c1 S K) n9) (c1 S K)
noncomputable def c3(S:aS)(n9:Nat)(K:KK):XK:=dM S (bJ T (sub body [1,1,1,1,1,0,1,0,0,1,1])) (en S [1,1,1,1,1,0,1,0,0,1,1] (c2 S n9 K)) (c2 S n9 K)
noncomputable def c4(S:aS)(n9:Nat)(K:KK):XK:=br 1 (c3 S n9 K)
noncomputable def c5(S:aS)(n9:Nat)(K:KK):XK:=dM S (bJ T (sub body [1,1,1,1,1,0,1,0,0,1,0,0,1,1,1,1,1,1])) (en S [1,1,1,1,1,0,1,0,0,1,0,0,1,1,1,1,1,1] (c4 S n9 K)) (c4 S n9 K)
noncomputable def c6(S:aS)(n9:Nat)(K:KK):XK:=br 2 (c5 S n9 K)
noncomputable def c7(S:aS)(n9:Nat)(n18:Nat)(K:KK):XK:=cO S (bJ T (sub body [1,1,1,1,1,0,1,0,0,1,0,0,1,1,1,1,1,0,1,0,0])) (ln S [1,1,1,1,1,0,1,0,0,1,0,0,1,1,1,1,1,0,1,0,0] (c6 S n9 K) n18) (c6 S n9 K)
noncomputable def c8(S:aS)(n9:Nat)(K:KK):XK:=br 4 (c4 S n9 K)
noncomputable def c9(S:aS)(n9:Nat)(n28:Nat)(K:KK):XK:=cO S (bJ T (sub body [1,1,1,1,1,0,1,0,0,1,0,0,1,1,1,1,1,1,1,1,1,1,1,0,0])) (ln S [1,1,1,1,1,0,1,0,0,1,0,0,1,1,1,1,1,1,1,1,1,1,1,0,0] (c8 S n9 K) n28) (c8 S n9 K)
def f9(b:ak)(a c:Nat)(g:ak)(i:Int):Fr:=[(1,(.slice b a c)),(5,(.pointer g)),(7,(ac i))]
def f15(b:ak)(a c:Nat)(g:ak)(i:Int)(j:Addr):Fr:=[(1,(.slice b a c)),(5,(.pointer g)),(7,(ac i)),(9,(ag j))]
def f18(b:ak)(a c:Nat)(g:ak)(i:Int)(j d f:Addr)(o:Int):Fr:=[(1,(.slice b a c)),(5,(.pointer g)),(7,(ac i)),(9,(ag j)),(10,(ag d)),(11,(ag f)),(12,(ac o))]
def f21(b:ak)(a c:Nat)(g:ak)(i:Int)(j d f:Addr):Fr:=[(1,(.slice b a c)),(5,(.pointer g)),(7,(ac i)),(9,(ag j)),(10,(ag d)),(11,(ag f))]
def f28(b:ak)(a c:Nat)(g:ak)(i:Int)(j d f q:Addr)(l:Int):Fr:=[(1,(.slice b a c)),(5,(.pointer g)),(7,(ac i)),(9,(ag j)),(10,(ag d)),(11,(ag f)),(13,(ag q)),(15,(ac l))]
def f33(g:ak):Fr:=[(5,(.pointer g))]
def J0(k9:(ak)->Nat->Nat->(ak)->Int->aA->Prop)(r:Int)(b:ak)(a c:Nat)(h:aA)(K:KK):Prop:=
 Cl 40 [] h (λv1 h2=>bA (some v1) (λb3=>aC (!b3) (K aq h2) (aC (decide ((Nat.cast a:Int)>(20:Int))) (K au h2) (((40:Int)≠0/\Cl 18 [(ac 8),(ac (ai ((ai (Int.tmod r (40:Int)))+(1:Int)))),(ac 2)] h2 (λv4 h5=>(∃p6:ak,∃n7:Int,v4=(.tuple #[(.pointer p6),(ac n7)])/\aC (n7 !=(0:Int)) (K aq h5) (k9 b a c p6 (0:Int) h5))))))))
def E0(S:aS)(r:Int)(b:ak)(a c:Nat)(h:aA)(K:KK):(E Tryz.prog X T S body (fin Tryz.prog Tryz.f14.results.toList K) (cx 0 [(.int .u8 r),(.slice b a c)]) h)=J0 (λb a c g i h=>S (en S [1,1,1,1,1,0,1] (c0 S K)) (f9 b a c g i) h) r b a c h K:=by kernel_rfl
def Jk9(lp9:(ak)->Nat->Nat->(ak)->Int->aA->Prop)(b:ak)(a c:Nat)(g:ak)(i:Int)(h:aA)(_K:KK):Prop:=
 lp9 b a c g i h
def Ek9(S:aS)(b:ak)(a c:Nat)(g:ak)(i:Int)(h:aA)(K:KK):(en S [1,1,1,1,1,0,1] (c0 S K) (f9 b a c g i) h)=Jk9 (λb a c g i h=> ∃n,S (ln S [1,1,1,1,1,0,1,0,0] (c1 S K) n) (f9 b a c g i) h) b a c g i h K:=by kernel_rfl
def JL9(k15:(ak)->Nat->Nat->(ak)->Int->Addr->aA->Prop)(k33:(ak)->aA->Prop)(b:ak)(a c:Nat)(g:ak)(i:Int)(h:aA)(_K:KK):Prop:=
 aC (decide (i<(Nat.cast a:Int))) (aN b (λa1=>(0<=i/\i<(Nat.cast a:Int)/\aI .u8 (rd h (a1.add (Int.toNat i*1))) (λn2=>((6:Int)≠0/\((6:Int)≠0/\((8:Int)≠0/\aZ h (.cells #[(ac 0),(ac 0),(ac 0),(ac 0),(ac 0),(ac 0),(.int .u8 0)] 41) (λb3 h4=>aP h4 ((ah b3).add 0) (ac 1) (λh5=>aP h5 ((ah b3).add 1) (ac 0) (λh6=>aP h6 ((ah b3).add 2) (ac (ai (Int.tmod n2 (6:Int)))) (λh7=>aP h7 ((ah b3).add 3) (ac 0) (λh8=>aP h8 ((ah b3).add 4) (ac 0) (λh9=>aP h9 ((ah b3).add 5) (ac 0) (λh10=>aP h10 ((ah b3).add 6) (.int .u8 (Int.tmod (IntKind.wrap .u8 (Int.tdiv n2 (6:Int))) (8:Int))) (λh11=>((2:Int)≠0/\aC ((Int.tmod n2 (2:Int))==(1:Int)) (((2:Int)≠0/\((3:Int)≠0/\((6:Int)≠0/\((6:Int)≠0/\((6:Int)≠0/\((36:Int)≠0/\((6:Int)≠0/\aP h11 ((ah b3).add 0) (ac 3) (λh12=>aP h12 ((ah b3).add 1) (ac (ai ((2:Int)+(ai (Int.tmod (IntKind.wrap .u8 (Int.tdiv n2 (2:Int))) (3:Int)))))) (λh13=>aP h13 ((ah b3).add 2) (ac (ai (Int.tmod n2 (6:Int)))) (λh14=>aP h14 ((ah b3).add 3) (ac (ai (Int.tmod (IntKind.wrap .u8 (Int.tdiv n2 (6:Int))) (6:Int)))) (λh15=>aP h15 ((ah b3).add 4) (ac (ai (Int.tmod (IntKind.wrap .u8 (Int.tdiv n2 (36:Int))) (6:Int)))) (λh16=>aP h16 ((ah b3).add 5) (ac 0) (λh17=>aP h17 ((ah b3).add 6) (.int .u8 0) (λh18=>k15 b a c g i (ah b3) h18))))))))))))))) (k15 b a c g i (ah b3) h11))))))))))))))))) (k33 g h)
def EL9(S:aS)(n9:Nat)(b:ak)(a c:Nat)(g:ak)(i:Int)(h:aA)(K:KK):(en S [1,1,1,1,1,0,1,0,0] (c2 S n9 K) (f9 b a c g i) h)=JL9 (λb a c g i j h=>S (en S [1,1,1,1,1,0,1,0,0,1,0,0,1,1,1] (c4 S n9 K)) (f15 b a c g i j) h) (λg h=>S (en S [1,1,1,1,1,1] (fn K)) (f33 g) h) b a c g i h K:=by kernel_rfl
def Jk15(k18:(ak)->Nat->Nat->(ak)->Int->Addr->Addr->Addr->Int->aA->Prop)(b:ak)(a c:Nat)(g:ak)(i:Int)(j:Addr)(h:aA)(_K:KK):Prop:=
 aZ h (.cells #[(ae 0),(ae 0),(ae 0),(ae 0),(ae 0),(ae 0)] 111) (λb1 h2=>aZ h2 (.cells #[aq,aq,aq,aq,aq,aq] 74) (λb3 h4=>k18 b a c g i j (ah b1) (ah b3) (0:Int) h4))
def Ek15(S:aS)(n9:Nat)(b:ak)(a c:Nat)(g:ak)(i:Int)(j:Addr)(h:aA)(K:KK):(en S [1,1,1,1,1,0,1,0,0,1,0,0,1,1,1] (c4 S n9 K) (f15 b a c g i j) h)=Jk15 (λb a c g i j d f o h=>S (en S [1,1,1,1,1,0,1,0,0,1,0,0,1,1,1,1,1,0,1] (c5 S n9 K)) (f18 b a c g i j d f o) h) b a c g i j h K:=by kernel_rfl
def Jk18(lp18:(ak)->Nat->Nat->(ak)->Int->Addr->Addr->Addr->Int->aA->Prop)(b:ak)(a c:Nat)(g:ak)(i:Int)(j d f:Addr)(o:Int)(h:aA)(_K:KK):Prop:=
 lp18 b a c g i j d f o h
def Ek18(S:aS)(n9:Nat)(b:ak)(a c:Nat)(g:ak)(i:Int)(j d f:Addr)(o:Int)(h:aA)(K:KK):(en S [1,1,1,1,1,0,1,0,0,1,0,0,1,1,1,1,1,0,1] (c5 S n9 K) (f18 b a c g i j d f o) h)=Jk18 (λb a c g i j d f o h=> ∃n,S (ln S [1,1,1,1,1,0,1,0,0,1,0,0,1,1,1,1,1,0,1,0,0] (c6 S n9 K) n) (f18 b a c g i j d f o) h) b a c g i j d f o h K:=by kernel_rfl
def JL18(bk18:(ak)->Nat->Nat->(ak)->Int->Addr->Addr->Addr->Int->aA->Prop)(k21:(ak)->Nat->Nat->(ak)->Int->Addr->Addr->Addr->aA->Prop)(b:ak)(a c:Nat)(g:ak)(i:Int)(j d f:Addr)(o:Int)(h:aA)(_K:KK):Prop:=
 aC (decide (o<(6:Int))) (Cl 28 [(.pointer g),(ac 0),(ac o)] h (λv1 h2=>(∃n3:Int,∃b4:Bool,v1=(.tuple #[(ae n3),(aw b4)])/\(0<=o/\o<(Nat.cast 6:Int)/\aP h2 ((d.add (Int.toNat o*1)).add 0) (ae n3) (λh5=>(0<=o/\o<(Nat.cast 6:Int)/\aP h5 ((f.add (Int.toNat o*1)).add 0) (aw b4) (λh6=>bk18 b a c g i j d f (ai (o+(1:Int))) h6))))))) (k21 b a c g i j d f h)
def EL18(S:aS)(n9:Nat)(n18:Nat)(b:ak)(a c:Nat)(g:ak)(i:Int)(j d f:Addr)(o:Int)(h:aA)(K:KK):(en S [1,1,1,1,1,0,1,0,0,1,0,0,1,1,1,1,1,0,1,0,0] (c7 S n9 n18 K) (f18 b a c g i j d f o) h)=JL18 (λb a c g i j d f o h=>S (ln S [1,1,1,1,1,0,1,0,0,1,0,0,1,1,1,1,1,0,1,0,0] (c6 S n9 K) n18) (f18 b a c g i j d f o) h) (λb a c g i j d f h=>S (en S [1,1,1,1,1,0,1,0,0,1,0,0,1,1,1,1,1,1] (c4 S n9 K)) (f21 b a c g i j d f) h) b a c g i j d f o h K:=by kernel_rfl
def Jk21(bk9:(ak)->Nat->Nat->(ak)->Int->aA->Prop)(k28:(ak)->Nat->Nat->(ak)->Int->Addr->Addr->Addr->Addr->Int->aA->Prop)(b:ak)(a c:Nat)(g:ak)(i:Int)(j d f:Addr)(h:aA)(K:KK):Prop:=
 aI .i64 (rd h (j.add 0)) (λn1=>aI .i64 (rd h (j.add 1)) (λn2=>aI .i64 (rd h (j.add 2)) (λn3=>aI .i64 (rd h (j.add 3)) (λn4=>aI .i64 (rd h (j.add 4)) (λn5=>aI .i64 (rd h (j.add 5)) (λn6=>aI .u8 (rd h (j.add 6)) (λn7=>Cl 24 [(.pointer g),(ac 0),(.agg #[(ac n1),(ac n2),(ac n3),(ac n4),(ac n5),(ac n6),(.int .u8 n7)])] h (λv8 h9=>aI .i64 (some v8) (λn10=>aC (n10 !=(0:Int)) (bk9 b a c g (ai (i+(1:Int))) h9) (Cl 42 [(.pointer g)] h9 (λv11 h12=>bA (some v11) (λb13=>aC (!b13) (K aq h12) (Cl 43 [(.pointer g),(ac 0)] h12 (λv14 h15=>(∃n16:Int,∃n17:Int,∃b18:Bool,v14=(.tuple #[(.agg #[(ac n16),(af n17)]),(aw b18)])/\aZ h15 (.cells #[(ac 0),(af 0)] 76) (λb19 h20=>aP h20 ((ah b19).add 0) (ac n16) (λh21=>aP h21 ((ah b19).add 1) (af n17) (λh22=>aC (!b18) (K aq h22) (aI .i64 (rd h22 ((ah b19).add 0)) (λn23=>aC (n23 !=(0:Int)) (aI .i64 (rd h22 ((ah b19).add 0)) (λn24=>aC (n24 !=(60:Int)) (K aq h22) (Cl 23 [(.pointer g)] h22 (λv25 h26=>bi (some v25) (λp27=>Cl 22 [(.pointer p27)] h26 (λv28 h29=>bA (some v28) (λb30=>aC (!b30) (K aq h29) (k28 b a c g i j d f (ah b19) (0:Int) h29)))))))) (Cl 23 [(.pointer g)] h22 (λv31 h32=>bi (some v31) (λp33=>Cl 22 [(.pointer p33)] h32 (λv34 h35=>bA (some v34) (λb36=>aC (!b36) (K aq h35) (k28 b a c g i j d f (ah b19) (0:Int) h35))))))))))))))))))))))))))
def Ek21(S:aS)(n9:Nat)(b:ak)(a c:Nat)(g:ak)(i:Int)(j d f:Addr)(h:aA)(K:KK):(en S [1,1,1,1,1,0,1,0,0,1,0,0,1,1,1,1,1,1] (c4 S n9 K) (f21 b a c g i j d f) h)=Jk21 (λb a c g i h=>S (ln S [1,1,1,1,1,0,1,0,0] (c1 S K) n9) (f9 b a c g i) h) (λb a c g i j d f q l h=>S (en S [1,1,1,1,1,0,1,0,0,1,0,0,1,1,1,1,1,1,1,1,1,1,1] (c4 S n9 K)) (f28 b a c g i j d f q l) h) b a c g i j d f h K:=by kernel_rfl
def Jk28(lp28:(ak)->Nat->Nat->(ak)->Int->Addr->Addr->Addr->Addr->Int->aA->Prop)(b:ak)(a c:Nat)(g:ak)(i:Int)(j d f q:Addr)(l:Int)(h:aA)(_K:KK):Prop:=
 lp28 b a c g i j d f q l h
def Ek28(S:aS)(n9:Nat)(b:ak)(a c:Nat)(g:ak)(i:Int)(j d f q:Addr)(l:Int)(h:aA)(K:KK):(en S [1,1,1,1,1,0,1,0,0,1,0,0,1,1,1,1,1,1,1,1,1,1,1] (c4 S n9 K) (f28 b a c g i j d f q l) h)=Jk28 (λb a c g i j d f q l h=> ∃n,S (ln S [1,1,1,1,1,0,1,0,0,1,0,0,1,1,1,1,1,1,1,1,1,1,1,0,0] (c8 S n9 K) n) (f28 b a c g i j d f q l) h) b a c g i j d f q l h K:=by kernel_rfl
def JL28(bk28:(ak)->Nat->Nat->(ak)->Int->Addr->Addr->Addr->Addr->Int->aA->Prop)(bk9:(ak)->Nat->Nat->(ak)->Int->aA->Prop)(b:ak)(a c:Nat)(g:ak)(i:Int)(j d f q:Addr)(l:Int)(h:aA)(K:KK):Prop:=
 aC (decide (l<(6:Int))) (Cl 28 [(.pointer g),(ac 0),(ac l)] h (λv1 h2=>(∃n3:Int,∃b4:Bool,v1=(.tuple #[(ae n3),(aw b4)])/\aI .i64 (rd h2 (j.add 2)) (λn5=>aC (l !=n5) ((0<=l/\l<(Nat.cast 6:Int)/\aI .u32 (rd h2 (d.add (Int.toNat l*1))) (λn6=>aC (n3 !=n6) (K aq h2) ((0<=l/\l<(Nat.cast 6:Int)/\bA (rd h2 (f.add (Int.toNat l*1))) (λb7=>aC (!(b4==b7)) (K aq h2) (bk28 b a c g i j d f q (ai (l+(1:Int))) h2))))))) (aI .i64 (rd h2 (q.add 0)) (λn8=>aC (n8 !=(0:Int)) ((0<=l/\l<(Nat.cast 6:Int)/\aI .u32 (rd h2 (d.add (Int.toNat l*1))) (λn9=>aC (n3 !=n9) (K aq h2) ((0<=l/\l<(Nat.cast 6:Int)/\bA (rd h2 (f.add (Int.toNat l*1))) (λb10=>aC (!(b4==b10)) (K aq h2) (bk28 b a c g i j d f q (ai (l+(1:Int))) h2))))))) (bk28 b a c g i j d f q (ai (l+(1:Int))) h2))))))) (bk9 b a c g (ai (i+(1:Int))) h)
def EL28(S:aS)(n9:Nat)(n28:Nat)(b:ak)(a c:Nat)(g:ak)(i:Int)(j d f q:Addr)(l:Int)(h:aA)(K:KK):(en S [1,1,1,1,1,0,1,0,0,1,0,0,1,1,1,1,1,1,1,1,1,1,1,0,0] (c9 S n9 n28 K) (f28 b a c g i j d f q l) h)=JL28 (λb a c g i j d f q l h=>S (ln S [1,1,1,1,1,0,1,0,0,1,0,0,1,1,1,1,1,1,1,1,1,1,1,0,0] (c8 S n9 K) n28) (f28 b a c g i j d f q l) h) (λb a c g i h=>S (ln S [1,1,1,1,1,0,1,0,0] (c1 S K) n9) (f9 b a c g i) h) b a c g i j d f q l h K:=by kernel_rfl
def Jk33(g:ak)(h:aA)(K:KK):Prop:=
 Cl 53 [(.pointer g),(ac 1),(.agg #[(ac 2),(ac 0),(ac 0),(ac 0),(ac 0),(ac 0),(.int .u8 1)])] h (λv1 h2=>(∃n3:Int,∃n4:Int,∃b5:Bool,v1=(.tuple #[(.agg #[(ac n3),(af n4)]),(aw b5)])/\aZ h2 (.cells #[(ac 0),(af 0)] 76) (λb6 h7=>aP h7 ((ah b6).add 0) (ac n3) (λh8=>aP h8 ((ah b6).add 1) (af n4) (λh9=>aC b5 (aI .i64 (rd h9 ((ah b6).add 0)) (λn10=>K (aw (n10==(0:Int))) h9)) (K aq h9))))))
def Ek33(S:aS)(g:ak)(h:aA)(K:KK):(en S [1,1,1,1,1,1] (fn K) (f33 g) h)=Jk33 g h K:=by kernel_rfl
def wL28(bk9:(ak)->Nat->Nat->(ak)->Int->aA->Prop):Nat->(ak)->Nat->Nat->(ak)->Int->Addr->Addr->Addr->Addr->Int->aA->KK->Prop
 |0,_,_,_,_,_,_,_,_,_,_,_,_=>False
 |n+1,b,a,c,g,i,j,d,f,q,l,h,K=>JL28 (λb a c g i j d f q l h=>wL28 bk9 n b a c g i j d f q l h K) bk9 b a c g i j d f q l h K
def eL28(K:KK)(n9:Nat)(bk9:(ak)->Nat->Nat->(ak)->Int->aA->Prop)(hb9: ∀(b:ak) (a c:Nat) (g:ak) (i:Int) (h:aA),(ln S0 [1,1,1,1,1,0,1,0,0] (c1 S0 K) n9 (f9 b a c g i) h)=bk9 b a c g i h): ∀(n:Nat) (b:ak) (a c:Nat) (g:ak) (i:Int) (j d f q:Addr) (l:Int) (h:aA),(ln S0 [1,1,1,1,1,0,1,0,0,1,0,0,1,1,1,1,1,1,1,1,1,1,1,0,0] (c8 S0 n9 K) n (f28 b a c g i j d f q l) h)=wL28 bk9 n b a c g i j d f q l h K
 |0,_,_,_,_,_,_,_,_,_,_,_=>rfl
 |n+1,b,a,c,g,i,j,d,f,q,l,h=>(EL28 S0 n9 n b a c g i j d f q l h K).trans (mM (λq0 q1=>JL28 q0 q1 b a c g i j d f q l h K) (by funext b a c g i j d f q l h;exact(λb a c g i j d f q l h=>eL28 K n9 bk9 hb9 n b a c g i j d f q l h) b a c g i j d f q l h) (by funext b a c g i h;exact hb9 b a c g i h))
def wk28(bk9:(ak)->Nat->Nat->(ak)->Int->aA->Prop)(b:ak)(a c:Nat)(g:ak)(i:Int)(j d f q:Addr)(l:Int)(h:aA)(K:KK):Prop:=
 Jk28 (λb a c g i j d f q l h=> ∃m,wL28 bk9 m b a c g i j d f q l h K) b a c g i j d f q l h K
def ek28(K:KK)(n9:Nat)(bk9:(ak)->Nat->Nat->(ak)->Int->aA->Prop)(hb9: ∀(b:ak) (a c:Nat) (g:ak) (i:Int) (h:aA),(ln S0 [1,1,1,1,1,0,1,0,0] (c1 S0 K) n9 (f9 b a c g i) h)=bk9 b a c g i h)(b:ak)(a c:Nat)(g:ak)(i:Int)(j d f q:Addr)(l:Int)(h:aA):(en S0 [1,1,1,1,1,0,1,0,0,1,0,0,1,1,1,1,1,1,1,1,1,1,1] (c4 S0 n9 K) (f28 b a c g i j d f q l) h)=wk28 bk9 b a c g i j d f q l h K:=(Ek28 S0 n9 b a c g i j d f q l h K).trans (fX (λq0=>Jk28 q0 b a c g i j d f q l h K) (by funext b a c g i j d f q l h;exact bq λm=>eL28 K n9 bk9 hb9 m b a c g i j d f q l h))
def wk21(bk9:(ak)->Nat->Nat->(ak)->Int->aA->Prop)(b:ak)(a c:Nat)(g:ak)(i:Int)(j d f:Addr)(h:aA)(K:KK):Prop:=
 Jk21 bk9 (λb a c g i j d f q l h=>wk28 bk9 b a c g i j d f q l h K) b a c g i j d f h K
def ek21(K:KK)(n9:Nat)(bk9:(ak)->Nat->Nat->(ak)->Int->aA->Prop)(hb9: ∀(b:ak) (a c:Nat) (g:ak) (i:Int) (h:aA),(ln S0 [1,1,1,1,1,0,1,0,0] (c1 S0 K) n9 (f9 b a c g i) h)=bk9 b a c g i h)(b:ak)(a c:Nat)(g:ak)(i:Int)(j d f:Addr)(h:aA):(en S0 [1,1,1,1,1,0,1,0,0,1,0,0,1,1,1,1,1,1] (c4 S0 n9 K) (f21 b a c g i j d f) h)=wk21 bk9 b a c g i j d f h K:=(Ek21 S0 n9 b a c g i j d f h K).trans (mM (λq0 q1=>Jk21 q0 q1 b a c g i j d f h K) (by funext b a c g i h;exact hb9 b a c g i h) (by funext b a c g i j d f q l h;exact ek28 K n9 bk9 hb9 b a c g i j d f q l h))
def wL18(bk9:(ak)->Nat->Nat->(ak)->Int->aA->Prop):Nat->(ak)->Nat->Nat->(ak)->Int->Addr->Addr->Addr->Int->aA->KK->Prop
 |0,_,_,_,_,_,_,_,_,_,_,_=>False
 |n+1,b,a,c,g,i,j,d,f,o,h,K=>JL18 (λb a c g i j d f o h=>wL18 bk9 n b a c g i j d f o h K) (λb a c g i j d f h=>wk21 bk9 b a c g i j d f h K) b a c g i j d f o h K
def eL18(K:KK)(n9:Nat)(bk9:(ak)->Nat->Nat->(ak)->Int->aA->Prop)(hb9: ∀(b:ak) (a c:Nat) (g:ak) (i:Int) (h:aA),(ln S0 [1,1,1,1,1,0,1,0,0] (c1 S0 K) n9 (f9 b a c g i) h)=bk9 b a c g i h): ∀(n:Nat) (b:ak) (a c:Nat) (g:ak) (i:Int) (j d f:Addr) (o:Int) (h:aA),(ln S0 [1,1,1,1,1,0,1,0,0,1,0,0,1,1,1,1,1,0,1,0,0] (c6 S0 n9 K) n (f18 b a c g i j d f o) h)=wL18 bk9 n b a c g i j d f o h K
 |0,_,_,_,_,_,_,_,_,_,_=>rfl
 |n+1,b,a,c,g,i,j,d,f,o,h=>(EL18 S0 n9 n b a c g i j d f o h K).trans (mM (λq0 q1=>JL18 q0 q1 b a c g i j d f o h K) (by funext b a c g i j d f o h;exact(λb a c g i j d f o h=>eL18 K n9 bk9 hb9 n b a c g i j d f o h) b a c g i j d f o h) (by funext b a c g i j d f h;exact ek21 K n9 bk9 hb9 b a c g i j d f h))
def wk18(bk9:(ak)->Nat->Nat->(ak)->Int->aA->Prop)(b:ak)(a c:Nat)(g:ak)(i:Int)(j d f:Addr)(o:Int)(h:aA)(K:KK):Prop:=
 Jk18 (λb a c g i j d f o h=> ∃m,wL18 bk9 m b a c g i j d f o h K) b a c g i j d f o h K
def ek18(K:KK)(n9:Nat)(bk9:(ak)->Nat->Nat->(ak)->Int->aA->Prop)(hb9: ∀(b:ak) (a c:Nat) (g:ak) (i:Int) (h:aA),(ln S0 [1,1,1,1,1,0,1,0,0] (c1 S0 K) n9 (f9 b a c g i) h)=bk9 b a c g i h)(b:ak)(a c:Nat)(g:ak)(i:Int)(j d f:Addr)(o:Int)(h:aA):(en S0 [1,1,1,1,1,0,1,0,0,1,0,0,1,1,1,1,1,0,1] (c5 S0 n9 K) (f18 b a c g i j d f o) h)=wk18 bk9 b a c g i j d f o h K:=(Ek18 S0 n9 b a c g i j d f o h K).trans (fX (λq0=>Jk18 q0 b a c g i j d f o h K) (by funext b a c g i j d f o h;exact bq λm=>eL18 K n9 bk9 hb9 m b a c g i j d f o h))
def wk15(bk9:(ak)->Nat->Nat->(ak)->Int->aA->Prop)(b:ak)(a c:Nat)(g:ak)(i:Int)(j:Addr)(h:aA)(K:KK):Prop:=
 Jk15 (λb a c g i j d f o h=>wk18 bk9 b a c g i j d f o h K) b a c g i j h K
def ek15(K:KK)(n9:Nat)(bk9:(ak)->Nat->Nat->(ak)->Int->aA->Prop)(hb9: ∀(b:ak) (a c:Nat) (g:ak) (i:Int) (h:aA),(ln S0 [1,1,1,1,1,0,1,0,0] (c1 S0 K) n9 (f9 b a c g i) h)=bk9 b a c g i h)(b:ak)(a c:Nat)(g:ak)(i:Int)(j:Addr)(h:aA):(en S0 [1,1,1,1,1,0,1,0,0,1,0,0,1,1,1] (c4 S0 n9 K) (f15 b a c g i j) h)=wk15 bk9 b a c g i j h K:=(Ek15 S0 n9 b a c g i j h K).trans (fX (λq0=>Jk15 q0 b a c g i j h K) (by funext b a c g i j d f o h;exact ek18 K n9 bk9 hb9 b a c g i j d f o h))
def wk33(g:ak)(h:aA)(K:KK):Prop:=
 Jk33 g h K
def ek33(K:KK)(g:ak)(h:aA):(en S0 [1,1,1,1,1,1] (fn K) (f33 g) h)=wk33 g h K:=(Ek33 S0 g h K).trans (rfl)
def wL9:Nat->(ak)->Nat->Nat->(ak)->Int->aA->KK->Prop
 |0,_,_,_,_,_,_,_=>False
 |n+1,b,a,c,g,i,h,K=>JL9 (λb a c g i j h=>wk15 (λb a c g i h=>wL9 n b a c g i h K) b a c g i j h K) (λg h=>wk33 g h K) b a c g i h K
def eL9(K:KK): ∀(n:Nat) (b:ak) (a c:Nat) (g:ak) (i:Int) (h:aA),(ln S0 [1,1,1,1,1,0,1,0,0] (c1 S0 K) n (f9 b a c g i) h)=wL9 n b a c g i h K
 |0,_,_,_,_,_,_=>rfl
 |n+1,b,a,c,g,i,h=>(EL9 S0 n b a c g i h K).trans (mM (λq0 q1=>JL9 q0 q1 b a c g i h K) (by funext b a c g i j h;exact ek15 K n (λb a c g i h=>wL9 n b a c g i h K) (λb a c g i h=>eL9 K n b a c g i h) b a c g i j h) (by funext g h;exact ek33 K g h))
def wk9(b:ak)(a c:Nat)(g:ak)(i:Int)(h:aA)(K:KK):Prop:=
 Jk9 (λb a c g i h=> ∃m,wL9 m b a c g i h K) b a c g i h K
def ek9(K:KK)(b:ak)(a c:Nat)(g:ak)(i:Int)(h:aA):(en S0 [1,1,1,1,1,0,1] (c0 S0 K) (f9 b a c g i) h)=wk9 b a c g i h K:=(Ek9 S0 b a c g i h K).trans (fX (λq0=>Jk9 q0 b a c g i h K) (by funext b a c g i h;exact bq λm=>eL9 K m b a c g i h))
def w(r:Int)(b:ak)(a c:Nat)(h:aA)(K:KK):Prop:=
 J0 (λb a c g i h=>wk9 b a c g i h K) r b a c h K
def e0(K:KK)(r:Int)(b:ak)(a c:Nat)(h:aA):(E Tryz.prog X T S0 body (fin Tryz.prog Tryz.f14.results.toList K) (cx 0 [(.int .u8 r),(.slice b a c)]) h)=w r b a c h K:=(E0 S0 r b a c h K).trans (fX (λq0=>J0 q0 r b a c h K) (by funext b a c g i h;exact ek9 K b a c g i h))
def hb:Tryz.f14.body=some body:=by kernel_rfl
def ok:bZ T Tryz.f14.ntmps body=true:=by kernel_rfl
def spec(r:Int)(b:ak)(a c:Nat)(h:aA)(K:KK)(H:w r b a c h K):Cl 14 [(.int .u8 r),(.slice b a c)] h K:=
 cf (T:=T) xK xJ Tryz.func14 hb ok rfl (by rw[e0];exact H)
end F14
end
section
section
variable {h h':aA}{e s w op d t:Nat}{G G0 G1 G':EG}{K:KK}{C:EG->Prop}{F:Aa}{c:iL}
end
end
section
section
variable {n:Nat}{fo gg:Nat->Nat}{N:aj}
end
end
section
section
variable {h:aA}{K:KK}
def yu{n:Nat}(hn:n<=8): ∀j,j<n->fill n j<8:=λj hj=>by rw[show fill n j=j from if_pos hj];omega
set_option maxRecDepth 100000 in
def yL(hK: ∀h',aF [] h h'->K au h'):Cl 40 [] h K:=by
 have hLB:LB=140737488355328:=rfl;refine F40.spec ?_;refine zQ (n:=4) (room:=16400) Y Y Y Y λh1 e G W1 s1 a1 n1 m1 f1 g1 _ N1 j1 w1 _ _ M1 b1 O1=>⟨_,_,rfl,?_⟩;refine uM (n:=9) Y Y ⟨_,_,rfl,?_⟩;rw[show((0:Int) !=0)=false from rfl,aD,show(Option.isNone (some (ah e)))=false from rfl,aD,show((40:Int) !=40)=false from rfl,aD];refine fL W1 (aB rfl ?_);rw[w1,show((((vM 2:Nat):Int)) !=(2:Int))=false from rfl,aD];refine jF (c:=⟨1,0,1,0,0,0,2⟩) (i:=0) W1 (by show 2<256;omega) (λq=>Y) (λk hk ek hp=> ?_) (λk hk ek hp hr=> ?_) λk hk ek hp hr h2 W2 S2=>aB rfl ?_
 ·rw[s1]at hp;cases hp
 ·exfalso;apply hr;rw[n1];unfold refu jk;rw[if_neg (by decide),if_neg (by decide),if_neg,if_neg (by decide),if_neg (by decide),if_neg (by decide)];intro q;exact q λr hr=>by simp[gG]at hr
 have ek:k=0:=Y;subst ek;refine jF (c:=⟨6,0,0,0,0,0,0⟩) (i:=0) W2 (by show 0<256;omega) (λq=>Y) (λk hk ek _ h3 O3=>aB rfl ?_) (λk hk ek hp2 _=> ?_) λk hk ek hp2 _=> ?_
 rotate_left
 ·have ek:k=0:=Y;subst ek;rw[show((dV G 0 ⟨1,0,1,0,0,0,2⟩).E.ses 0).pend=true from rfl]at hp2;cases hp2
 ·have ek:k=0:=Y;subst ek;rw[show((dV G 0 ⟨1,0,1,0,0,0,2⟩).E.ses 0).pend=true from rfl]at hp2;cases hp2
 have W3:=W2.only0 O3;have e1s:((dV G 0 ⟨1,0,1,0,0,0,2⟩).E.ses 1)=(mw 0 0 0).ses 1:=by rw[<-s1];rfl
 have nok: ¬kF ((dV G 0 ⟨1,0,1,0,0,0,2⟩).E.ses 1) ⟨4,0,0,0,0,0,0⟩:=λq=>by have:=(q 0 (by simp[gG])).2;rw[e1s]at this;cases this
 have rv:refu (dV G 0 ⟨1,0,1,0,0,0,2⟩).n ((dV G 0 ⟨1,0,1,0,0,0,2⟩).E.ses 1) ⟨4,0,0,0,0,0,0⟩=221:=by unfold refu;rw[if_neg (by decide),if_neg (by decide),if_pos nok]
 refine jF (c:=⟨4,0,0,0,0,0,0⟩) (i:=1) W3 (by show 0<256;omega) (λq=>Y) (λk hk ek hp2=> ?_) (λk hk ek _ hr h4 O4=>aB rfl ?_) λk hk ek _ hr=> ?_
 ·have ek:k=1:=Y;subst ek;rw[e1s]at hp2;cases hp2
 rotate_left
 ·have ek:k=1:=Y;subst ek;rw[rv]at hr;cases hr
 have ek:k=1:=Y;subst ek;rw[rv,show((0:Int) !=0)=false from rfl,aD,show((220:Int) !=220)=false from rfl,aD,show((221:Int) !=221)=false from rfl,aD];have W4:=W3.only0 O4;obtain⟨G2,eG2⟩: ∃G2,G2=dV G 0 ⟨1,0,1,0,0,0,2⟩:=⟨_,rfl⟩;rw[<-eG2]at W4 S2;have sG2: ∀k,k≠0->G2.E.ses k=(mw 0 0 0).ses k:=λk hk=>by rw[eG2,<-s1];exact bP hk
 have sG0:G2.E.ses 0=mU ((mw 0 0 0).ses 0) ⟨1,0,1,0,0,0,2⟩:=by rw[eG2,<-s1];rfl
 refine nJ W4.I (λq=>Y) λk hk ek=>aQ rfl ?_;have ek:k=0:=Y;subst ek;rw[sG0,show(mU ((mw 0 0 0).ses 0) ⟨1,0,1,0,0,0,2⟩).pend=true from rfl,Bool.not_true,aD]
 have Ea:zb G2:=by
  refine⟨by rw[eG2];exact j1,λi hi hp=> ?_,by rw[eG2];show aT G.N+5<G.room;rw[N1,m1];decide,by rw[eG2];show G.M+20000<=_;rw[M1,hLB];decide,by rw[eG2];show G.E.ans+10<_;rw[a1];decide⟩;by_cases q:i=0
  ·subst q;rw[sG0,eG2];refine⟨.inl rfl,?_⟩;show refu G.n _ _=0;rw[n1];unfold refu jk;rw[if_neg (by decide),if_neg (by decide),if_neg,if_neg (by decide),if_neg (by decide),if_neg (by decide)];intro q;exact q λr hr=>by simp[gG,mU]at hr
  ·rw[sG2 i q]at hp;cases hp
 refine uW W4 Ea λh5 G5 W5 S5 R5=>aQ rfl ?_;rw[Bool.not_true,aD];obtain⟨d,d6,ed,L⟩:=(R5.lo 0 Y Y).1 (by rw[sG0];rfl);have z4:G2.n=4:=by rw[eG2];exact n1
 have zf:G2.fo=fill 4:=by rw[eG2];exact f1
 rw[sG0]at ed L;have d1:d=1:=by have:(1:Int)=(d:Int):=ed;omega
 subst d1;rcases L with⟨-,v,e5,sv⟩|⟨k,-⟩|⟨k,-⟩
 rotate_left
 ·cases k
 ·cases k
 refine lP W5.I (λq=>Y) λk hk ek h6 O6=>⟨_,_,_,rfl,?_⟩;have ek:k=0:=Y;subst ek;rw[e5];have W6:=W5.only0 O6;refine aM λh7 A7 O7 z7=> ?_;refine aK (i:=0) A7 Z rfl λh8 A8 O8 z8=> ?_;refine aK (i:=1) A8 Z rfl λh9 A9 O9 z9=> ?_;have O79:aF [] h6 h9:=(O7.trans O8 (by intro x hx hl;simp at hx;omega)).trans O9 (by intro x hx hl;simp at hx;omega);have W9:=W6.only0 O79;refine zS W9.I ⟨_,_,rfl,?_⟩
 have rV:oF G5.E 0 1=((v:Int),true):=by
  unfold oF;rw[if_pos ⟨Y,by unfold iQ;omega⟩,show Int.toNat 0=0 from rfl,show Int.toNat 1=1 from rfl,e5]
  rfl
 rw[rV];show aC true _ _;rw[aG];refine aB (n:=0) (by rw[aE,At.rd A9];rfl) ?_;rw[show((0:Int)==0)=true from rfl,aG,aG];refine o9 W9.I (aJ rfl ?_);refine zW (v:=2) λh10 g hg eg O10=>⟨_,_,_,_,rfl,?_⟩;have W10:=W9.only0 O10
 have hv:isN G5.N v:=by have:=W5.rg 0 Y 1 Y (by rw[e5];rfl);rw[e5]at this;exact this
 have n5:G5.n=4:=R5.n.trans z4;have f5:G5.fo=fill 4:=R5.fo.trans zf;refine EM (X:=XL G5.n G5.room G5.fo G5.gg G5.N G5.off) (λj hj=> ?_) W10.W.S hv hg (λy hy=> ?_) λh11 O11=>aQ rfl ?_
 ·show G5.fo j<8;rw[f5];exact yu (n:=4) Y j (by rw[<-n5];exact hj)
 ·show sm G5.n G5.fo G5.N v y=fb g y;rw[eg y hy,R5.n,R5.fo,sv y]
  rfl
 rw[aG];have W11:=W10.only0 O11;refine sJ W11.I (aB rfl ?_)
 have ea:G5.E.ans=1:=by
  rw[R5.ans];have a2:G2.E.ans=0:=by rw[eG2];exact a1
  rw[a2];unfold ug dU dU dU dU dU;rw[sG0,sG2 1 Y,sG2 2 Y,sG2 3 Y]
  rfl
 rw[ea]
 have OO:aF [] h h5:=by
  have b2: ∀b∈gK e G2,h.size<=b:=by
   intro b hb;rcases S2.B b hb with q|q
   ·exact b1 b q
   ·have:=O1.size;omega
  exact S5.only (((S2.only O1 b1).trans O3 Z).trans O4 Z) b2
 exact hK h11 ((((OO.trans O6 Z).trans O79 Z).trans O10 Z).trans O11 Z)
end
end
section
def Di{x:Int}(h:IntKind.min .u8<=x/\x<=IntKind.max .u8){d:Int}(hd:0<d)(hd2:d<1000): ∃k:Nat,(k:Int)<d/\ai (Int.tmod x d)=(k:Int):=by have ht:=wz h hd;rw[wrap_i64 Y Y];exact⟨(Int.tmod x d).toNat,Y,Y⟩
section
variable {h0 h h':aA}{e s k:Nat}{G G':EG}{K:KK}
end
end
section
def tm{a b:Nat}(hb:0<b):Int.tmod (a:Int) (b:Int)=((a%b:Nat):Int):=by rw[Int.tmod_eq_emod_of_nonneg Y];omega
def td{a b:Nat}:Int.tdiv (a:Int) (b:Int)=((a/b:Nat):Int):=by rw[Int.tdiv_eq_ediv_of_nonneg Y];omega
def DU{a:Nat}(h:a<1000000):ai (a:Int)=(a:Int):=wrap_i64 Y Y
section
variable {h h':aA}{e s t:Nat}{G G':EG}{K:KK}{F:Aa}
def vn{n1 n2:Int}{Q:Nat->aA->Prop}(hQ: ∀h',At h' h.size [ac n1,af n2]->aF [] h h'->Q h.size h'):
  aZ h (.cells #[(ac (0:Int)),(af (0:Int))] 76) (λb6 h7=>aP h7 (Addr.add (ah b6) 0) (ac n1) (λh8=>aP h8 (Addr.add (ah b6) 1) (af n2) (λh9=>Q b6 h9))):=by
 refine aM λh1 A1 O1 z1=> ?_;rw[aE,aE];refine aK (i:=0) A1 Z rfl λh2 A2 O2 z2=>aK (i:=1) A2 Z rfl λh3 A3 O3 z3=>hQ h3 A3 ?_;exact(O1.trans O2 (by intro x hx hl;simp at hx;omega)).trans O3 (by intro x hx hl;simp at hx;omega)
end
end
section
end
section
def AU{zs:List Int}(hz: ∀z∈zs,IntKind.min .u8<=z/\z<=IntKind.max .u8):zs=(zs.map Int.toNat).map λ(o:Nat)=>(o:Int):=by
 induction zs with
 |nil=>rfl
 |cons z l ih=>
  have h1:=hz z Z;have h2:=ih λy hy=>hz y (by simp[hy]);have:(0:Int)<=z:=h1.1;rw[List.map_cons,List.map_cons,<-h2]
  congr 1
  omega
def xF{zs:List Int}(hz: ∀z∈zs,IntKind.min .u8<=z/\z<=IntKind.max .u8): ∀o∈zs.map Int.toNat,o<256:=λo ho=>by obtain⟨z,hz',e⟩:=List.mem_map.1 ho;have h1:=hz z hz';have h2:z<=255:=h1.2;omega
end
section
end
section
section
variable {h h':aA}{e s t:Nat}{G G0 G1 G':EG}{K:KK}{F:Aa}{c:iL}
end
end
section
section
variable {h h':aA}{e s d t:Nat}{G G':EG}{K:KK}{F:Aa}{c:iL}
end
end
section
def fy(N:aj)(k:Nat):List Nat:=((List.range k).filter λi=>(nd N i).isSome).map (· +2)
def lC(N:aj):List Nat:=fy N N.length
def nX{N:aj}{k:Nat}:fy N (k+1)=fy N k++if(nd N k).isSome then [k+2]else []:=by
 unfold fy;rw[List.range_succ,List.filter_append,List.map_append]
 congr 1
 cases h:(nd N k).isSome<;>simp[h]
def vp{N:aj}{k a:Nat}:a∈fy N k↔2<=a/\a-2<k/\ ∃x,nd N (a-2)=some x:=by
 unfold fy;simp only[List.mem_map,List.mem_filter,List.mem_range,Option.isSome_iff_exists];constructor
 ·rintro ⟨i,⟨h1,h2⟩,e⟩;subst e;exact⟨Y,by simpa using h1,by simpa using h2⟩
 ·rintro ⟨h0,h1,h2⟩;exact⟨a-2,⟨h1,h2⟩,Y⟩
def yC{N:aj}{a:Nat}:a∈lC N↔2<=a/\ ∃x,nd N (a-2)=some x:=by unfold lC;rw[vp];exact⟨λh=>⟨h.1,h.2.2⟩,λh=>⟨h.1,by obtain⟨x,hx⟩:=h.2;exact tA hx,h.2⟩⟩
def Bp{N:aj}(k:Nat):(fy N k).Pairwise (· < ·):=by unfold fy;rw[List.pairwise_map];refine List.Pairwise.filter _ ((List.pairwise_lt_range (n:=k)).imp ?_);intro a b h;show a+2<b+2;omega
def qH{N:aj}: ∀k,k<=N.length->(fy N k).length=aT (N.take k):=by
 intro k
 induction k with
 |zero=>intro _;simp[fy,aT]
 |succ k ih=>
  intro hk;have:=ih Y;obtain⟨o,ho⟩: ∃o,N[k]? =some o:=⟨_,List.getElem?_eq_getElem Y⟩;rw[nX,fi ho,kV,List.length_append,this];have e:nd N k=o:=by unfold nd;rw[ho];rfl
  rw[e];cases o<;>rfl
def oG(N:aj):(lC N).length=aT N:=by have:=qH (N:=N) N.length (Nat.le_refl _);rw[List.take_length]at this;exact this
section
variable {h:aA}{s:Nat}{L:List Nat}{X:SX}{K:KK}
set_option maxRecDepth 100000 in
def DF(H:cG h s L X)(hK: ∀h' p c,ct h' h.size 1 p (lC X.N).length c ((lC X.N).map hv)->aF [] h h'->K (.slice p (lC X.N).length c) h'):Cl 59 [ag (ah s)] h K:=by
 obtain⟨B,F,eL,H⟩:=H;have hlen:=H.m.len;refine F59.spec _ h K ?_;simp only[aE,Nat.zero_add];refine bj (p:=B.p) (l:=X.N.length) (c:=B.c) (by rw[At.rd H.m.S];rfl) ?_;unfold F59.wk3
 have main: ∀(d i:Nat) (h':aA) (p:ak) (c:Nat),i+d=X.N.length->ct h' h.size 1 p (fy X.N i).length c ((fy X.N i).map hv)->aF [] h h'->
   F59.wL3 (d+1) p (fy X.N i).length c B.p X.N.length B.c (X.N.length:Int) (i:Int) h' K:=by
  intro d
  induction d with
  |zero=>
   intro i h' p c hi Ow O;rw[F59.sL3];rw[decide_eq_false Y,aD];obtain rfl:i=X.N.length:=Y;exact hK h' p c Ow O
  |succ d ih=>
   intro i h' p c hi Ow O;obtain⟨o,ho⟩: ∃o,X.N[i]? =some o:=⟨_,List.getElem?_eq_getElem Y⟩;have m1:=H.m.only O Z;obtain⟨b,eb,rr⟩:=m1.cells ho;have en:nd X.N i=o:=by unfold nd;rw[ho];rfl
   rw[F59.sL3];rw[decide_eq_true Y,aG,eb,aL];refine⟨Y,Y,?_⟩;rw[<-eb];simp only[aE,Nat.zero_add]
   have hw:IntKind.wrap .u32 (ai ((i:Int)+2))=((i+2:Nat):Int):=by rw[wrap_i64 Y Y,show(i:Int)+2=((i+2:Nat):Int) by omega];exact gi Y
   rw[show Int.toNat (i:Int)*4=i*4 by omega,hw,show ai ((i:Int)+1)=((i+1:Nat):Int) by rw[wrap_i64 Y Y];omega]
   obtain⟨tv,lv,av,bv,ec⟩: ∃tv lv av bv,dh o=[aw tv,ac lv,ae av,ae bv]:=by
    cases o with
    |none=>exact⟨_,_,_,_,rfl⟩
    |some x=>exact⟨_,_,_,_,rfl⟩
   have et:tv=o.isSome:=by cases o<;>simp only[dh,List.cons.injEq,Value.bool.injEq]at ec<;>exact ec.1.symm
   rw[ec]at rr;refine aQ (by rw[<-Nat.add_zero (i*4),rr 0 Y];rfl) (aB (by rw[rr 1 Y];rfl) (aB (by rw[rr 2 Y];rfl) (aB (by rw[rr 3 Y];rfl) ?_)));refine aM λk1 B1 P1 y1=> ?_;refine aK B1 Z rfl λk2 B2 P2 y2=>aK B2 Z rfl λk3 B3 P3 y3=>aK B3 Z rfl λk4 B4 P4 y4=>aK B4 Z rfl λk5 B5 P5 y5=> ?_;have P15:aF [] h' k5:=(((P1.trans P2 (by intro b hb hl;simp at hb;omega)).trans P3 (by intro b hb hl;simp at hb;omega)).trans P4 (by intro b hb hl;simp at hb;omega)).trans P5 (by intro b hb hl;simp at hb;omega);refine aQ (n:=tv) (by rw[At.rd B5];rfl) ?_;have z0:=O.size;have z1:=P15.size;have Ow5:=Ow.only P15 Z
   have hll:(fy X.N i).length<=40000:=by rw[qH i Y];have:=kX (X.N.take i);rw[List.length_take]at this;omega
   have ls:=nX (N:=X.N) (k:=i);rw[en]at ls;cases o with
   |none=>
    rw[et,Option.isSome_none,aD];have ls:fy X.N (i+1)=fy X.N i:=by rw[ls];simp
    rw[<-ls]at Ow5 ⊢;exact ih (i+1) k5 p c Y Ow5 (O.trans P15 Z)
   |some x=>
    rw[et,Option.isSome_some,aG];have ls:fy X.N (i+1)=fy X.N i++[i+2]:=ls;refine aM λk6 B6 P6 y6=> ?_;refine gv (new:=[hv (i+2)]) (Ow5.only P6 Z) B6 rfl rfl Y (by simp[Value.oneCell']) Y λp' c' k7 W7 P7 hb7=> ?_;have e1:(fy X.N i).length+1=(fy X.N (i+1)).length:=by rw[ls];simp
    have e2:(fy X.N i).map hv++[hv (i+2)]=(fy X.N (i+1)).map hv:=by rw[ls];simp
    rw[e1,e2]at W7;rw[e1];exact ih (i+1) k7 p' c' Y W7 (((O.trans P15 Z).trans P6 Z).trans P7 λb hb hl=>by have:=Ow.lt b hb;omega)
 exact⟨_,main X.N.length 0 h none 0 Y (ct.nil _ _ _) (aF.refl _ _)⟩
end
end
section
section
variable {h:aA}{s:Nat}{L:List Nat}{X:SX}{K:KK}
set_option maxRecDepth 100000 in
def vq(H:cG h s L X)(hK: ∀h',aF [] h h'->K au h'):Cl 22 [ag (ah s)] h K:=by
 have ok:=H.ok;have okN:=ok.1;refine F22.spec _ h K ?_;unfold F22.w F22.J0;refine DF H λh1 p c Ow O1=>bj rfl ?_;have H1:=H.only0 O1;refine jG H1 (aB rfl ?_);rw[oG,show(((aT X.N:Nat):Int) !=((aT X.N:Nat):Int))=false by simp,aD]
 have sr:Cl 70 [ag (ah s)] h1 λv9 h10=>v9=ac (X.room:Int)/\h10=h1:=by obtain⟨B,F,e,H⟩:=H1;refine F70.spec ?_;exact aB (by rw[aE,At.rd H.m.S];rfl) ⟨rfl,rfl⟩
 refine sr.mono λv9 h10 ⟨e1,e2⟩=> ?_;subst e1 e2;refine aB rfl ?_;have hc:aT X.N<=X.room:=Y;rw[decide_eq_false Y,aD,<-oG];unfold F22.wk5 F22.Jk5
 have at_: ∀i,i<(lC X.N).length-> ∃a x,(lC X.N)[i]? =some a/\2<=a/\nd X.N (a-2)=some x/\isN X.N a/\lvl X.n X.N a=x.1/\low X.N a=x.2.1/\high X.N a=x.2.2/\a<32770:=λi hi=>by
  have h0:(lC X.N)[i]? =some (lC X.N)[i]:=List.getElem?_eq_getElem hi;obtain⟨h2,x,hx⟩:=yC.1 (List.mem_of_getElem? h0);refine⟨_,x,h0,h2,hx,.inr ⟨x,hx⟩,?_,?_,?_,H.isN_lt (.inr ⟨x,hx⟩)⟩
  ·unfold lvl;rw[if_neg Y,hx]
  ·unfold low;rw[if_neg Y,hx]
  ·unfold high;rw[if_neg Y,hx]
 have up: ∀i j a b,i<j->(lC X.N)[i]? =some a->(lC X.N)[j]? =some b->a<b:=λi j a b hij ha hb=>by have:=List.pairwise_iff_getElem.1 (show(lC X.N).Pairwise (· < ·)from Bp _) i j (List.getElem?_eq_some_iff.1 ha).1 (List.getElem?_eq_some_iff.1 hb).1 hij;rw[(List.getElem?_eq_some_iff.1 ha).2,(List.getElem?_eq_some_iff.1 hb).2]at this;exact this
 have ldl: ∀{i:Nat} {a:Nat} {Q:Int->Prop},(lC X.N)[i]? =some a->Q (a:Int)->aN p (λa1=>(0<=(i:Int)/\(i:Int)<(Nat.cast (lC X.N).length:Int)/\aI .u32 (rd h10 (Addr.add a1 (Int.toNat (i:Int)*1))) Q)):=λ{i a Q} ha hQ=>by have hi:=(List.getElem?_eq_some_iff.1 ha).1;obtain⟨b,eb,rr⟩:=Ow.rd (j:=i) (by simpa using hi);rw[eb,aL,aE,Nat.zero_add,show Int.toNat (i:Int)*1=i by omega,rr];exact⟨Y,Y,aB (n:=(a:Int)) (by simp[ha]) hQ⟩
 have hll:(lC X.N).length<=32768:=by rw[oG];omega
 have inner: ∀{bk:Addr->ak->Nat->Nat->Int->aA->Prop} {i a:Nat} {x:Nd},(lC X.N)[i]? =some a->nd X.N (a-2)=some x->bk (ah s) p (lC X.N).length c ((i+1:Nat):Int) h10->
   ∀(d j:Nat),j+d=i->F22.wL12 bk (d+1) (ah s) p (lC X.N).length c (i:Int) (x.1:Int) (x.2.1:Int) (x.2.2:Int) (j:Int) h10 K:=by
  intro bk i a x ha hx hbk d;have hi:=(List.getElem?_eq_some_iff.1 ha).1
  induction d with
  |zero=>
   intro j hj;unfold F22.wL12 F22.JL12;rw[decide_eq_false Y,aD,show ai ((i:Int)+1)=((i+1:Nat):Int) by rw[wrap_i64 Y Y];omega];exact hbk
  |succ d ih=>
   intro j hj;obtain⟨b,y,hb,b2,hy,nb,el,elo,ehi,-⟩:=at_ j Y;have lt:=up j i b a Y hb ha;unfold F22.wL12 F22.JL12;rw[decide_eq_true Y,aG,show ai ((j:Int)+1)=((j+1:Nat):Int) by rw[wrap_i64 Y Y];omega];have nx:=ih (j+1) Y;refine ldl hb (dj H1 nb (aB rfl (aH (λg1=> ?_) λ_=>nx)));refine ldl hb (iv H1 nb (aB rfl (aH (λg2=> ?_) λ_=>nx)));refine ldl hb (fW H1 nb (aB rfl (aH (λg3=> ?_) λ_=>nx)));exfalso;have e1:(lvl X.n X.N b:Int)=(x.1:Int):=eq_of_beq g1;have e2:(low X.N b:Int)=(x.2.1:Int):=eq_of_beq g2;have e3:(high X.N b:Int)=(x.2.2:Int):=eq_of_beq g3;rw[el]at e1;rw[elo]at e2;rw[ehi]at e3
   have:y=x:=by obtain⟨y1,y2,y3⟩:=y;obtain⟨x1,x2,x3⟩:=x;have e1:(y1:Int)=x1:=e1;have e2:(y2:Int)=x2:=e2;have e3:(y3:Int)=x3:=e3;rw[Int.ofNat.inj e1,Int.ofNat.inj e2,Int.ofNat.inj e3]
   subst this;have:=okN.once _ _ _ hy hx;omega
 have main: ∀(d i:Nat),i+d=(lC X.N).length->F22.wL5 (d+1) (ah s) p (lC X.N).length c (i:Int) h10 K:=by
  intro d
  induction d with
  |zero=>
   intro i hi;unfold F22.wL5 F22.JL5;rw[decide_eq_false Y,aD];exact hK _ O1
  |succ d ih=>
   intro i hi;obtain⟨a,x,ha,a2,hx,na,el,elo,ehi,alt⟩:=at_ i Y;obtain⟨q1,q2,q3,q4,q5,q6⟩:=okN.node _ x hx;have q2':=H.isN_lt q2;have q3':=H.isN_lt q3;unfold F22.wL5 F22.JL5;rw[decide_eq_true Y,aG];have nx:=ih (i+1) Y
   have w12:F22.wk12 (λx0 x3p x3l x3c x4 h=>F22.wL5 (d+1) x0 x3p x3l x3c x4 h K) (ah s) p (lC X.N).length c (i:Int) (x.1:Int) (x.2.1:Int) (x.2.2:Int) 0 h10 K:=by unfold F22.wk12 F22.Jk12;exact⟨_,inner ha hx nx i 0 Y⟩
   refine ldl ha (dj H1 na (aB rfl (iv H1 na (aB rfl (fW H1 na (aB rfl ?_))))));rw[el,elo,ehi,decide_eq_false Y,aD];refine aH (λg=> ?_) λg=> ?_
   ·have g:(i:Int)>0:=of_decide_eq_true g;obtain⟨b,y,hb,-⟩:=at_ (i-1) Y;have lt:=up (i-1) i b a Y hb ha;rw[show ai ((i:Int)-1)=((i-1:Nat):Int) by rw[wrap_i64 Y Y];omega];refine ldl hb ?_;rw[decide_eq_false Y,aD];refine eK H1 na (aQ rfl ?_);rw[Bool.not_true,aD,decide_eq_false Y,aD];refine gS H1 (aB rfl ?_);rw[decide_eq_false Y,aD,show((x.2.1:Int)==(x.2.2:Int))=false by simp;omega,aD];refine eK H1 q2 (aQ rfl ?_);rw[Bool.not_true,aD];refine eK H1 q3 (aQ rfl ?_);rw[Bool.not_true,aD];refine dj H1 q2 (aB rfl ?_);rw[decide_eq_false Y,aD];refine dj H1 q3 (aB rfl ?_);rw[decide_eq_false Y,aD];exact w12
   ·refine eK H1 na (aQ rfl ?_);rw[Bool.not_true,aD,decide_eq_false Y,aD];refine gS H1 (aB rfl ?_);rw[decide_eq_false Y,aD,show((x.2.1:Int)==(x.2.2:Int))=false by simp;omega,aD];refine eK H1 q2 (aQ rfl ?_);rw[Bool.not_true,aD];refine eK H1 q3 (aQ rfl ?_);rw[Bool.not_true,aD];refine dj H1 q2 (aB rfl ?_);rw[decide_eq_false Y,aD];refine dj H1 q3 (aB rfl ?_);rw[decide_eq_false Y,aD];exact w12
 exact⟨_,main (lC X.N).length 0 Y⟩
end
end
section
section
variable {e s lo:Nat}{L:List Nat}{X:SX}{K:KK}{ec:List Value}
end
end
section
def zq{E:fk}{i r:Nat}(hi:i<4)(hr:r<6):oF E (i:Int) (r:Int)=(((E.ses i).hnd r:Int),(E.ses i).there r):=by unfold oF;rw[if_pos ⟨Y,by unfold iQ;omega⟩,Int.toNat_natCast,Int.toNat_natCast]
section
variable {h h0:aA}{e t k:Nat}{G:EG}{F:Aa}
end
end
section
def dH(o:Nat):iL:=if o%2=1 then⟨3,((2+o/2%3:Nat):Int),((o%6:Nat):Int),((o/6%6:Nat):Int),((o/36%6:Nat):Int),0,0⟩else⟨1,0,((o%6:Nat):Int),0,0,0,o/6%8⟩
def cL(c:iL):List Value:=[ac c.kind,ac c.op,ac c.dst,ac c.a,ac c.b,ac c.c,.int .u8 (c.mask:Int)]
def vd(o:Nat):(dH o).kind=1\/(dH o).kind=2\/((dH o).kind=3/\(dH o).op=((2+o/2%3:Nat):Int)/\(2+o/2%3=1\/2+o/2%3=2\/2+o/2%3=3\/2+o/2%3=4\/2+o/2%3=5)):=by
 unfold dH;split
 ·exact .inr (.inr ⟨rfl,rfl,Y⟩)
 ·exact .inl rfl
def wt(o:Nat):(dH o).mask<256:=by
 unfold dH;split
 ·show 0<256;omega
 ·show o/6%8<256;omega
structure Fs(h0 hh:aA)(e:Nat)(G:EG)(t:Nat):Prop where
 Q:Fq hh e G t
 O:aF [] h0 hh
 gl: ∀b∈gK e G,h0.size<=b
section
variable {h0 h h' hh:aA}{e b t:Nat}{G G':EG}
def bV.own(W:bV h e G)(O:aF [b] h h')(nb:b∉gK e G):bV h' e G:=
 ⟨W.W.only O (λy hy hm=>by simp at hy;subst hy;exact nb (aW.2 (.inr (.inl hm)))) (λy hy hm=>by simp at hy;subst hy;exact nb (aW.2 (.inr (.inr (.inr hm))))),W.R.only O (λy hy hm=>by simp at hy;subst hy;exact nb (aW.2 (.inr (.inr (.inl hm))))),W.I.only O (λhm=>by simp at hm;exact nb (aW.2 (.inl hm.symm))),W.C,W.de,W.dB,W.rg,W.r0,W.mq,W.po⟩
def Fs.only0(S:Fs h0 h e G t)(O:aF [] h h'):Fs h0 h' e G t:=⟨S.Q.only0 O,S.O.trans O Z,S.gl⟩
def Fs.own(S:Fs h0 h e G t)(O:aF [b] h h')(nb:b∉gK e G)(gb:h0.size<=b):Fs h0 h' e G t:=
 ⟨⟨S.Q.W.own O nb,S.Q.jobs,S.Q.pend,S.Q.last,S.Q.M,S.Q.ans,S.Q.t⟩,S.O.trans O (by intro x hx hl;simp at hx;omega),S.gl⟩
end
structure Bk(h0 hh:aA)(e:Nat)(G:EG)(c:iL)(b9 b10 b11:Nat):Prop where
 A9:At hh b9 (cL c)
 nb:b9∉gK e G/\b10∉gK e G/\b11∉gK e G
 ne:b9≠b10/\b9≠b11/\b10≠b11
 gb:h0.size<=b9/\h0.size<=b10/\h0.size<=b11
def rD(G:EG)(k r:Nat):Value:=ae ((if r<k then(G.E.ses 0).hnd r else 0:Nat):Int)
def sx(G:EG)(k r:Nat):Value:=aw (if r<k then(G.E.ses 0).there r else false)
section
variable {h0 hh h':aA}{e b9 b10 b11 b13 t i:Nat}{G G':EG}{c:iL}{bp:ak}{bl bc:Nat}{nx:(ak)->Nat->Nat->(ak)->Int->aA->Prop}
def vz(W:bV hh e G){k:Nat}(hk:k<6){K:KK}(hK:K (.tuple #[ae ((G.E.ses 0).hnd k:Int),aw ((G.E.ses 0).there k)]) hh):Cl 28 [aX e,ac 0,ac (k:Int)] hh K:=by refine zS W.I ?_;have rv:=zq (E:=G.E) (i:=0) (r:=k) Y hk;rw[show((0:Nat):Int)=0 from rfl]at rv;rw[rv];exact hK
def DH(S:Fs h0 hh e G' t)(L:AZ G 0 c G')(A9:At hh b9 (cL c))(A10:At hh b10 (bS 6 (rD G 6)))(A11:At hh b11 (bS 6 (sx G 6)))(A13:At hh b13 [ac (G'.E.ses 0).err,af ((G'.E.ses 0).num:Int)])
  (hn:nx bp bl bc (some (ah e)) (ai ((i:Int)+1)) hh):F14.wk28 nx bp bl bc (some (ah e)) (i:Int) (ah b9) (ah b10) (ah b11) (ah b13) 0 hh (dp h0):=by
 unfold F14.wk28 F14.Jk28
 have main: ∀(d k:Nat),k+d=6->F14.wL28 nx (d+1) bp bl bc (some (ah e)) (i:Int) (ah b9) (ah b10) (ah b11) (ah b13) (k:Int) hh (dp h0):=by
  intro d
  induction d with
  |zero=>
   intro k hk;unfold F14.wL28 F14.JL28;rw[decide_eq_false Y,aD];exact hn
  |succ d ih=>
   intro k hk;unfold F14.wL28 F14.JL28;rw[decide_eq_true Y,aG];have k6:k<6:=Y;refine vz S.Q.W k6 ⟨_,_,rfl,?_⟩;simp only[aE,Nat.zero_add,Nat.mul_one,Int.toNat_natCast];have ek:ai ((k:Int)+1)=((k+1:Nat):Int):=by rw[wrap_i64 Y Y];omega
   have r10:rd hh ⟨b10,k,none⟩=some (ae ((G.E.ses 0).hnd k:Int)):=by rw[At.rd A10,bY k6];unfold rD;rw[if_pos k6]
   have r11:rd hh ⟨b11,k,none⟩=some (aw ((G.E.ses 0).there k)):=by rw[At.rd A11,bY k6];unfold sx;rw[if_pos k6]
   have BR:=ih (k+1) Y;rw[<-ek]at BR;refine aB (n:=c.dst) (by rw[At.rd A9];rfl) ?_
   have cmp:(G'.E.ses 0).there k=(G.E.ses 0).there k/\(G'.E.ses 0).hnd k=(G.E.ses 0).hnd k->
     (0<=(k:Int)/\(k:Int)<((6:Nat):Int)/\aI .u32 (rd hh ⟨b10,k,none⟩) λn6=>aC (((G'.E.ses 0).hnd k:Int) !=n6) (dp h0 aq hh) (0<=(k:Int)/\(k:Int)<((6:Nat):Int)/\bA (rd hh ⟨b11,k,none⟩) λb7=>aC (!((G'.E.ses 0).there k==b7)) (dp h0 aq hh) (F14.wL28 nx (d+1) bp bl bc (some (ah e)) (i:Int) (ah b9) (ah b10) (ah b11) (ah b13) (ai ((k:Int)+1)) hh (dp h0)))):=λq=>by
    refine⟨Y,Y,aB r10 ?_⟩;rw[q.2,show(((G.E.ses 0).hnd k:Int) !=((G.E.ses 0).hnd k:Int))=false by simp,aD];refine⟨Y,Y,aQ r11 ?_⟩;rw[q.1,show(!((G.E.ses 0).there k==(G.E.ses 0).there k))=false by simp,aD];exact BR
   refine aH (λq=> ?_) λq=> ?_
   ·exact cmp (L.reg k k6 (.inl (bne_iff_ne.1 q)))
   ·refine aB (n:=(G'.E.ses 0).err) (by rw[At.rd A13];rfl) (aH (λq2=> ?_) λq2=>BR);exact cmp (L.reg k k6 (.inr (bne_iff_ne.1 q2)))
 exact⟨7,main 6 0 rfl⟩
set_option maxRecDepth 100000 in
def Cf{o:Nat}(S:Fs h0 hh e G t)(n8:G.n=8)(ec:c=dH o)(B:Bk h0 hh e G c b9 b10 b11)(A10:At hh b10 (bS 6 (rD G 6)))(A11:At hh b11 (bS 6 (sx G 6)))(ht:t+1<1000)
  (hn: ∀h' G',Fs h0 h' e G' (t+1)->G'.n=8->nx bp bl bc (some (ah e)) (ai ((i:Int)+1)) h'):F14.wk21 nx bp bl bc (some (ah e)) (i:Int) (ah b9) (ah b10) (ah b11) hh (dp h0):=by
 unfold F14.wk21 F14.Jk21;simp only[aE,Nat.zero_add];have r: ∀k,rd hh ⟨b9,k,none⟩=(cL c)[k]? :=λk=>At.rd B.A9 k;refine aB (n:=c.kind) (by rw[r];rfl) (aB (n:=c.op) (by rw[r];rfl) (aB (n:=c.dst) (by rw[r];rfl) (aB (n:=c.a) (by rw[r];rfl) (aB (n:=c.b) (by rw[r];rfl) (aB (n:=c.c) (by rw[r];rfl) (aB (n:=(c.mask:Int)) (by rw[r];rfl) ?_))))));have cm:c.mask<256:=by rw[ec];exact wt o
 have lt:=S.Q.W.lt;refine jF (c:=c) (i:=0) S.Q.W cm (λq=>Y) (λk hk ek hp=> ?_) (λk hk ek hp hr h1 O1=>aB rfl ?_) λk hk ek hp hr h1 W1 S1=>aB rfl ?_
 ·rw[S.Q.pend k hk]at hp;cases hp
 ·rw[bne_iff_ne.2 hr,aG];have S2:=S.only0 O1;exact hn h1 G ⟨⟨S2.Q.W,S2.Q.jobs,S2.Q.pend,by have:=S2.Q.last;omega,by have:=S2.Q.M;omega,by have:=S2.Q.ans;omega,ht⟩,S2.O,S2.gl⟩ n8
 ·have k0:k=0:=Y;subst k0;rw[show((0:Int) !=0)=false from rfl,aD];refine nR (s:=0) (op:=2+o/2%3) S.Q Y hr W1 ht (by rw[ec];exact vd o) λh2 G2 Q2 S2 L2=>aQ rfl ?_;rw[Bool.not_true,aD];have S02:be e G hh G2 h2:=S1.trans S2;have OT:=S02.O (gK e G) λb hb=>hb
  have keep: ∀{b:Nat} {l:List Value},At hh b l->b∉gK e G->At h2 b l/\b∉gK e G2:=λA nb=>⟨A.only OT nb,λhm=>by
   rcases S02.B _ hm with q|q
   ·exact nb q
   ·have:=A.lt;omega⟩
  obtain⟨B9,-⟩:=keep B.A9 B.nb.1;obtain⟨B10,-⟩:=keep A10 B.nb.2.1;obtain⟨B11,-⟩:=keep A11 B.nb.2.2;have F2:Fs h0 h2 e G2 (t+1):=⟨Q2,S02.only S.O S.gl,S02.ge S.O.size S.gl⟩;refine lP Q2.W.I (λq=>Y) λk' hk' ek' h3 O3=>⟨_,_,_,rfl,?_⟩;have k0:k'=0:=Y;subst k0;rw[L2.ansd,if_pos rfl,if_pos rfl];refine vn λh4 A4 O4=> ?_;rw[Bool.not_true,aD];have O24:=O3.trans O4 Z;have F4:=F2.only0 O24;have r4:rd h4 (ah h3.size)=some (ac (G2.E.ses 0).err):=by rw[At.rd A4];rfl
  have tail: ∀{K:Prop},(∀h5,aF [] h4 h5->F14.wk28 nx bp bl bc (some (ah e)) (i:Int) (ah b9) (ah b10) (ah b11) (ah h3.size) 0 h5 (dp h0)->True)->True:=λ_=>trivial
  have fin: ∀h5,aF [] h4 h5->F14.wk28 nx bp bl bc (some (ah e)) (i:Int) (ah b9) (ah b10) (ah b11) (ah h3.size) 0 h5 (dp h0):=λh5 O5=>by have F5:=F4.only0 O5;exact DH F5 L2 ((B9.only O24 Z).only O5 Z) ((B10.only O24 Z).only O5 Z) ((B11.only O24 Z).only O5 Z) (A4.only O5 Z) (hn h5 G2 F5 (L2.n.trans n8))
  refine aB r4 (aH (λq=> ?_) λq=> ?_)
  ·refine aB r4 ?_;have e60:(G2.E.ses 0).err=60:=L2.err.resolve_left (bne_iff_ne.1 q);rw[e60,show((60:Int) !=60)=false from rfl,aD];refine o9 F4.Q.W.I (aJ rfl (vq F4.Q.W.W.S λh5 O5=>aQ rfl ?_));rw[Bool.not_true,aD];exact fin h5 O5
  ·refine o9 F4.Q.W.I (aJ rfl (vq F4.Q.W.W.S λh5 O5=>aQ rfl ?_));rw[Bool.not_true,aD];exact fin h5 O5
def Da{o:Nat}(n8:G.n=8)(ec:c=dH o)(ht:t+1<1000)(hn: ∀h' G',Fs h0 h' e G' (t+1)->G'.n=8->nx bp bl bc (some (ah e)) (ai ((i:Int)+1)) h'): ∀(d k:Nat) (hh:aA),k+d=6->Fs h0 hh e G t->Bk h0 hh e G c b9 b10 b11->At hh b10 (bS 6 (rD G k))->At hh b11 (bS 6 (sx G k))->
  F14.wL18 nx (d+1) bp bl bc (some (ah e)) (i:Int) (ah b9) (ah b10) (ah b11) (k:Int) hh (dp h0):=by
 intro d
 induction d with
 |zero=>
  intro k hh hk S B A10 A11;unfold F14.wL18 F14.JL18;rw[decide_eq_false Y,aD];have:k=6:=Y;subst this;exact Cf S n8 ec B A10 A11 ht hn
 |succ d ih=>
  intro k hh hk S B A10 A11;unfold F14.wL18 F14.JL18;rw[decide_eq_true Y,aG];have k6:k<6:=Y;refine vz S.Q.W k6 ⟨_,_,rfl,?_⟩;simp only[aE,Nat.zero_add,Nat.mul_one,Int.toNat_natCast,Nat.add_zero];refine⟨Y,Y,aK A10 (by rw[bu];exact k6) rfl λh1 A1 O1 z1=>⟨Y,Y,aK (A11.only O1 (by simp;exact Ne.symm B.ne.2.2)) (by rw[bu];exact k6) rfl λh2 A2 O2 z2=> ?_⟩⟩;rw[show ai ((k:Int)+1)=((k+1:Nat):Int) by rw[wrap_i64 Y Y];omega];have S2:=(S.own O1 B.nb.2.1 B.gb.2.1).own O2 B.nb.2.2 B.gb.2.2;refine ih (k+1) h2 Y S2 ⟨(B.A9.only O1 (by simp;exact B.ne.1)).only O2 (by simp;exact B.ne.2.1),B.nb,B.ne,B.gb⟩ ?_ ?_
  ·have:=A1.only O2 (by simp;exact B.ne.2.2);rw[dS]at this;rw[dg (g':=λr=>if r=k then ae ((G.E.ses 0).hnd k:Int)else rD G k r) λr hr=> ?_]
   ·exact this
   ·unfold rD;by_cases z:r=k
    ·rw[if_pos z,if_pos Y,z]
    ·rw[if_neg z];by_cases z2:r<k
     ·rw[if_pos z2,if_pos Y]
     ·rw[if_neg z2,if_neg Y]
  ·rw[dS]at A2;rw[dg (g':=λr=>if r=k then aw ((G.E.ses 0).there k)else sx G k r) λr hr=> ?_]
   ·exact A2
   ·unfold sx;by_cases z:r=k
    ·rw[if_pos z,if_pos Y,z]
    ·rw[if_neg z];by_cases z2:r<k
     ·rw[if_pos z2,if_pos Y]
     ·rw[if_neg z2,if_neg Y]
def BV{o:Nat}(S:Fs h0 hh e G t)(n8:G.n=8)(ec:c=dH o)(A9:At hh b9 (cL c))(nb:b9∉gK e G)(gb:h0.size<=b9)(ht:t+1<1000)(hn: ∀h' G',Fs h0 h' e G' (t+1)->G'.n=8->nx bp bl bc (some (ah e)) (ai ((i:Int)+1)) h'):
  F14.wk15 nx bp bl bc (some (ah e)) (i:Int) (ah b9) hh (dp h0):=by
 unfold F14.wk15 F14.Jk15;refine aM λh1 A1 O1 z1=>aM λh2 A2 O2 z2=> ?_;unfold F14.wk18 F14.Jk18;have lt:=S.Q.W.lt;have l9:=A9.lt;have z0:=S.O.size;have B1:At h2 hh.size (bS 6 (rD G 0)):=A1.only O2 Z;have B2:At h2 h1.size (bS 6 (sx G 0)):=A2;exact⟨7,Da n8 ec ht hn 6 0 h2 rfl ((S.only0 O1).only0 O2) ⟨(A9.only O1 Z).only O2 Z,⟨nb,λhm=>by have:=lt _ hm;omega,λhm=>by have:=lt _ hm;omega⟩,⟨Y,Y,Y⟩,⟨gb,Y,Y⟩⟩ B1 B2⟩
end
end
section
def BH{h:aA}{e:Nat}{G:EG}(W:bV h e G)(es:G.E.ses=(mw 0 0 0).ses)(ea:G.E.ans=0)(hj:G.P.jobs=[])(hl:G.P.last=0)(hM:G.M=0):Fq h e G 0:=
 ⟨W,hj,λk hk=>by rw[es];rfl,Y,Y,Y,Y⟩
def rk{n:Nat}{x:eW}{c:iL}(kd:c.kind=2)(hd:iQ c.dst):refu n x c=0:=by
 have rd0:gG c=[]:=by unfold gG;rw[if_neg Y,if_neg Y,if_neg Y]
 unfold refu jk;rw[if_neg Y,if_neg (λw=>w.2 hd),if_neg (λw=>w λr hr=>by rw[rd0]at hr;cases hr),if_neg (λw=>Y),if_neg (λw=>Y),if_neg (λw=>Y)]
section
variable {h0 hh h':aA}{e t:Nat}{G G':EG}{bp:ak}{bc:Nat}{xs:List Nat}
def BP(S:Fs h0 hh e G t)(ht:t+1<1000):F14.wk33 (some (ah e)) hh (dp h0):=by unfold F14.wk33 F14.Jk33;have rf:refu G.n (G.E.ses 1) ⟨2,0,0,0,0,0,1⟩=0:=rk rfl (by show iQ 0;unfold iQ;omega);refine BU (s:=1) (c:=⟨2,0,0,0,0,0,1⟩) Y S.Q.W (S.Q.pend 1 Y) (by show 1<256;omega) rf (λG2=>AZ G 1 ⟨2,0,0,0,0,0,1⟩ G2) (λ{h1 Q1} W1 hQ=>nR (op:=0) S.Q Y rf W1 ht (.inr (.inl rfl)) λh2 G2 Q2 S2 L2=>hQ h2 G2 Q2.W S2 L2) (λL=>L.ansd) λh2 G2 W2 S2 L=>⟨_,_,_,rfl,vn λh3 A3 O3=> ?_⟩;rw[aG];refine aB (n:=(G2.E.ses 1).err) (by rw[aE,At.rd A3];rfl) ?_;rw[L.e0 rfl];exact⟨rfl,(S2.only S.O S.gl).trans O3 Z⟩
set_option maxRecDepth 100000 in
def Ek(hx: ∀o∈xs,o<256)(hl:xs.length<=20)(hb: ∀hh,aF [] h0 hh->mT hh .u8 bp (xs.map λ(o:Nat)=>(o:Int))): ∀(d i:Nat) (hh:aA) (G:EG),i+d=xs.length->Fs h0 hh e G i->G.n=8->F14.wL9 (d+1) bp xs.length bc (some (ah e)) (i:Int) hh (dp h0):=by
 intro d
 induction d with
 |zero=>
  intro i hh G hi S n8;unfold F14.wL9 F14.JL9;rw[decide_eq_false Y,aD];exact BP S Y
 |succ d ih=>
  intro i hh G hi S n8;unfold F14.wL9 F14.JL9;rw[decide_eq_true Y,aG];have hil:i<xs.length:=Y;obtain⟨o,ho⟩: ∃o,xs[i]? =some o:=⟨_,List.getElem?_eq_getElem hil⟩;have o8:=hx o (List.mem_of_getElem? ho);obtain⟨a,ea,ra⟩:=hb hh S.O i (by simpa using hil);have ro:(xs.map λ(o:Nat)=>(o:Int)).getD i 0=(o:Int):=by rw[List.getD_eq_getElem?_getD,List.getElem?_map,ho];rfl
  rw[ro]at ra;rw[ea,aL,<-ea];refine⟨Y,Y,aB (n:=(o:Int)) (by rw[show Int.toNat (i:Int)*1=i by omega];exact ra) ⟨Y,Y,Y,?_⟩⟩;have lt:=S.Q.W.lt;have z0:=S.O.size;have q6:ai (Int.tmod (o:Int) (6:Int))=((o%6:Nat):Int):=by rw[show(6:Int)=((6:Nat):Int)from rfl,tm Y,DU Y]
  have d6:IntKind.wrap .u8 (Int.tdiv (o:Int) (6:Int))=((o/6:Nat):Int):=by rw[show(6:Int)=((6:Nat):Int)from rfl,td,m9 Y]
  have m8:Int.tmod ((o/6:Nat):Int) (8:Int)=((o/6%8:Nat):Int):=by rw[show(8:Int)=((8:Nat):Int)from rfl,tm Y]
  have m2:Int.tmod (o:Int) (2:Int)=((o%2:Nat):Int):=by rw[show(2:Int)=((2:Nat):Int)from rfl,tm Y]
  have d2:IntKind.wrap .u8 (Int.tdiv (o:Int) (2:Int))=((o/2:Nat):Int):=by rw[show(2:Int)=((2:Nat):Int)from rfl,td,m9 Y]
  have d36:IntKind.wrap .u8 (Int.tdiv (o:Int) (36:Int))=((o/36:Nat):Int):=by rw[show(36:Int)=((36:Nat):Int)from rfl,td,m9 Y]
  have e23:ai ((2:Int)+ai (Int.tmod ((o/2:Nat):Int) (3:Int)))=((2+o/2%3:Nat):Int):=by rw[show(3:Int)=((3:Nat):Int)from rfl,tm Y,DU Y,show(2:Int)+((o/2%3:Nat):Int)=((2+o/2%3:Nat):Int) by omega,DU Y]
  have e66:ai (Int.tmod ((o/6:Nat):Int) (6:Int))=((o/6%6:Nat):Int):=by rw[show(6:Int)=((6:Nat):Int)from rfl,tm Y,DU Y]
  have e36:ai (Int.tmod ((o/36:Nat):Int) (6:Int))=((o/36%6:Nat):Int):=by rw[show(6:Int)=((6:Nat):Int)from rfl,tm Y,DU Y]
  rw[q6,d6,m8,m2,d2,d36,e23,e66,e36]
  have go: ∀(h9:aA),At h9 hh.size (cL (dH o))->aF [] hh h9->F14.wk15 (λx1p x1l x1c x5 x7 h=>F14.wL9 (d+1) x1p x1l x1c x5 x7 h (dp h0)) bp xs.length bc (some (ah e)) (i:Int) (ah hh.size) h9 (dp h0):=λh9 A9 O9=>by refine BV (S.only0 O9) n8 rfl A9 (λhm=>by have:=lt _ hm;omega) z0 Y λh2 G2 S2 n2=> ?_;rw[show ai ((i:Int)+1)=((i+1:Nat):Int) by rw[wrap_i64 Y Y];omega];exact ih (i+1) h2 G2 Y S2 n2
  refine aM λk0 A0 O0 z0'=> ?_;simp only[aE,Nat.zero_add];refine aK A0 Z rfl λk1 A1 O1 z1=>aK A1 Z rfl λk2 A2 O2 z2=>aK A2 Z rfl λk3 A3 O3 z3=>aK A3 Z rfl λk4 A4 O4 z4=>aK A4 Z rfl λk5 A5 O5 z5=>aK A5 Z rfl λk6 A6 O6 z6=>aK A6 Z rfl λk7 A7 O7 z7=> ?_;have O07:aF [hh.size] k0 k7:=(((((O1.trans O2 λb hb _=>hb).trans O3 λb hb _=>hb).trans O4 λb hb _=>hb).trans O5 λb hb _=>hb).trans O6 λb hb _=>hb).trans O7 λb hb _=>hb;have OO:aF [] hh k7:=O0.trans O07 (by intro x hx hl;simp at hx;omega);refine⟨Y,aH (λq=> ?_) λq=> ?_⟩
  ·have q:((o%2:Nat):Int)=1:=eq_of_beq q;refine⟨Y,Y,Y,Y,Y,Y,Y,?_⟩;refine aK A7 Z rfl λj1 B1 P1 y1=>aK B1 Z rfl λj2 B2 P2 y2=>aK B2 Z rfl λj3 B3 P3 y3=>aK B3 Z rfl λj4 B4 P4 y4=>aK B4 Z rfl λj5 B5 P5 y5=>aK B5 Z rfl λj6 B6 P6 y6=>aK B6 Z rfl λj7 B7 P7 y7=> ?_;have P07:aF [hh.size] k7 j7:=(((((P1.trans P2 λb hb _=>hb).trans P3 λb hb _=>hb).trans P4 λb hb _=>hb).trans P5 λb hb _=>hb).trans P6 λb hb _=>hb).trans P7 λb hb _=>hb;refine go j7 ?_ (OO.trans P07 (by intro x hx hl;simp at hx;omega));have e:dH o=⟨3,((2+o/2%3:Nat):Int),((o%6:Nat):Int),((o/6%6:Nat):Int),((o/36%6:Nat):Int),0,0⟩:=if_pos Y;rw[e];exact B7
  ·have q: ¬((o%2:Nat):Int)=1:=λz=>by rw[z]at q;cases q
   refine go k7 ?_ OO;have e:dH o=⟨1,0,((o%6:Nat):Int),0,0,0,o/6%8⟩:=if_neg Y;rw[e];exact A7
end
def law14(h:aA)(x0:Int)(r0:IntKind.min .u8<=x0/\x0<=IntKind.max .u8)(bp:ak)(bc:Nat)(zs:List Int)(hI:mT h .u8 bp zs)(hz: ∀z∈zs,IntKind.min .u8<=z/\z<=IntKind.max .u8)(_:(zs.length:Int)<=maxLen):
  Cl 14 [.int .u8 x0,.slice bp zs.length bc] h (dp h):=by
 refine F14.spec _ _ _ _ h _ ?_;unfold F14.w F14.J0;refine yL λh1 O1=>aQ rfl ?_;rw[Bool.not_true,aD];refine aH (λ_=>⟨rfl,O1⟩) λc=> ?_;have c: ¬(20:Int)<(zs.length:Int):=of_decide_eq_false c;refine⟨Y,?_⟩;obtain⟨k,hk,ek⟩:=Di r0 (d:=40) Y Y;rw[ek,show ai ((k:Int)+1)=((k+1:Nat):Int) by rw[wrap_i64 Y Y];omega];refine zQ (n:=8) (room:=k+1) Y Y Y Y λh2 e G W2 s2 a2 n2 m2 f2 g2 _ N2 j2 w2 _ la2 M2 b2 O2=>⟨_,_,rfl,?_⟩;rw[show((0:Int) !=0)=false from rfl,aD];have z1:=O1.size;have Q2:=BH W2 s2 a2 j2 la2 M2;have exs:=AU hz;obtain⟨xs,ex⟩: ∃xs,xs=zs.map Int.toNat:=⟨_,rfl⟩;have lx:xs.length=zs.length:=by rw[ex];simp
 rw[<-ex]at exs;rw[<-lx];unfold F14.wk9 F14.Jk9;refine⟨_,Ek (xs:=xs) (by rw[ex];exact xF hz) Y (λhh O=> ?_) xs.length 0 h2 G Y ⟨Q2,O1.trans O2 Z,λb hb=>by have:=b2 b hb;omega⟩ n2⟩;rw[<-exs];exact hI.only O Z
end
end Go.Proofs.YtnofenejoebkhaaGreat.Ev
