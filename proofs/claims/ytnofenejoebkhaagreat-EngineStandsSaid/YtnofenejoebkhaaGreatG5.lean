/- PART 5 OF WHAT THE LAW EngineStands STANDS ON: EngD5, EngE5, VarF5, PlyH5, FunI5, FunJ5, PlyI5, EngG5, CntP5, CntF5, CntA5, EngH5, EngJ5, LeF5, EngK5, EngL5, EngN5, EngO5, EngP5, EngQ5, EngR5, EngT5, EngV5, EngW5, EngX5, EngY5, EngZ5, CanA5, LawM5, LawN5, LawO5. Conditions: none but those that each lemma states. -/
import Derived.Test.YtnofenejoebkhaaGreatG4
namespace Go.Proofs.YtnofenejoebkhaaGreat.Ev
open Go
set_option linter.defProp false
section
def qH(h:aH)(r N:Nat)(f:Int->Int)(B:List Nat):Prop:=
 ∃lo M S W p c,Rf lo h r M S W N f p c (λ_=> [])/\1<=W/\W<=4/\lo<=h.size/\B=r::M::S::(List.range W).flatMap λk=>aX (p k)
section
variable {h h':aH}{r N:Nat}{f:Int->Int}{B S:List Nat}{K:KK}
def qH.only(H:qH h r N f B)(O:aM S h h')(hS: ∀b∈S,b∉B):qH h' r N f B:=by obtain⟨lo,M,T,W,p,c,H,w1,w4,hl,e⟩:=H;subst e;refine⟨lo,M,T,W,p,c,H.only O (λhm=>hS _ hm ak) (λhm=>hS _ hm ak) (λhm=>hS _ hm ak) (λk hk b hb hm=>hS _ hm ?_),w1,w4,Nat.le_trans hl O.size,rfl⟩;simp only[List.mem_cons,List.mem_flatMap,List.mem_range];exact .inr (.inr (.inr ⟨k,hk,hb⟩))
def qH.only0(H:qH h r N f B)(O:aM [] h h'):qH h' r N f B:=H.only O ak
def qH.lt(H:qH h r N f B): ∀b∈B,b<h.size:=λb hb=>by
 obtain⟨lo,M,T,W,p,c,H,w1,w4,hl,e⟩:=H;subst e;obtain⟨h1,h2,h3,h4⟩:=H.lt;simp only[List.mem_cons,List.mem_flatMap,List.mem_range]at hb;rcases hb with e|e|e|⟨k,hk,hb⟩
 ·omega
 ·omega
 ·omega
 ·exact(h4 k hk b hb).2
def Fw{x:Int}(hK: ∀h' r B,qH h' r 0 (λ_=>0) B->(∀b∈B,h.size<=b)->aM [] h h'->K (bh r) h'):Cl 67 [al x] h K:=by refine HP λh' r M T H O=> ?_;have hw:=qC x;refine hK h' r _ ⟨h.size,M,T,(wL x).toNat,_,_,H,ah,ah,O.size,rfl⟩ (λb hb=> ?_) O;have g:=H.ge;simp[aX]at hb;omega
def CG(H:qH h r N f B){x:Nat}(hx:x<4294967296)(hN:N<=LB)(hK: ∀h',qH h' r (N+1) (ux f x (f x+1)) B->aM B h h'->K aE h'):Cl 210 [bh r,ap (x:Int)] h K:=by obtain⟨lo,M,T,W,p,c,H,w1,w4,hl,e⟩:=H;refine FX H ah hN λh' H' O=>hK h' ⟨lo,M,T,W,p,c,H',w1,w4,Nat.le_trans hl O.size,e⟩ (O.mono λb hb _=> ?_);subst e;simp at hb;simp[hb]
def xX(f:Int->Int)(x:Int):Int->Int:=if f x=0 then f else ux f x (f x-1)
def FI(H:qH h r N f B){x:Int}(hN:N<=LB)(hK: ∀h' n,qH h' r (N+1) (xX f x) B->aM B h h'->K (al n) h'):Cl 209 [bh r,ap x] h K:=by
 obtain⟨lo,M,T,W,p,c,H,w1,w4,hl,e⟩:=H;unfold xX at hK;refine Gd H hN (λe0=> ?_) λe0 h' H' O=> ?_
 ·rw[if_pos e0]at hK;exact hK h _ ⟨lo,M,T,W,p,c,H.grow ah,w1,w4,hl,e⟩ (aM.refl _ _)
 ·rw[if_neg e0]at hK;refine hK h' _ ⟨lo,M,T,W,p,c,H',w1,w4,Nat.le_trans hl O.size,e⟩ (O.mono λb hb _=> ?_);subst e;simp at hb;simp[hb]
end
def fe(E:fV)(x k:Nat):Nat:=if(E.ses (k/6)).there (k%6)=true/\(E.ses (k/6)).hnd (k%6)=x then 1 else 0
def fu(g:Nat->Nat):Nat->Nat
 |0=>0
 |n+1=>fu g n+g n
def v7{g g':Nat->Nat}{k:Nat}(h: ∀j,j≠k->g' j=g j): ∀n,k<n->fu g' n+g k=fu g n+g' k:=by
 have low: ∀n,n<=k->fu g' n=fu g n:=by
  intro n
  induction n with
  |zero=>intro _;rfl
  |succ n ih=>intro hn;unfold fu;rw[ih ah,h n ah]
 intro n
 induction n with
 |zero=>intro hk;omega
 |succ n ih=>
  intro hk;unfold fu;by_cases e:n=k
  ·subst e;rw[low n (Nat.le_refl _)];omega
  ·have:=ih ah;rw[h n e];omega
def uc{g:Nat->Nat}{k:Nat}: ∀n,k<n->1<=g k->1<=fu g n:=by
 intro n
 induction n with
 |zero=>intro hk;omega
 |succ n ih=>
  intro hk h1;unfold fu;by_cases e:n=k
  ·subst e;omega
  ·have:=ih ah h1;omega
def kL(E:fV)(x:Nat):Nat:=fu (fe E x) 24
def kP(f:Int->Int)(E:fV):Prop:= ∀x:Nat,f (x:Int)=(kL E x:Int)
def gM(x:fE)(d:Nat):fE:={x with there:=gx x.there d false,hnd:=gx x.hnd d 0}
def setS(x:fE)(d v:Nat):fE:={x with there:=gx x.there d true,hnd:=gx x.hnd d v}
def wE{E:fV}{i d:Nat}{x:fE}(hd:d<6)(hx: ∀q,q≠d->x.there q=(E.ses i).there q/\x.hnd q=(E.ses i).hnd q)(v:Nat): ∀j,j≠6*i+d->fe (E.put i x) v j=fe E v j:=λj hj=>by
 unfold fe;by_cases e:j/6=i
 ·have:=hx (j%6) ah;rw[e,cH,this.1,this.2]
 ·rw[show(E.put i x).ses (j/6)=E.ses (j/6)from cK e]
def vX{f:Int->Int}{E:fV}{i d:Nat}(C:kP f E)(hi:i<4)(hd:d<6):
  kP (if(E.ses i).there d=true then xX f ((E.ses i).hnd d:Nat)else f) (E.put i (gM (E.ses i) d)):=λv=>by
 have up:=v7 (g:=fe E v) (g':=fe (E.put i (gM (E.ses i) d)) v) (k:=6*i+d) (wE hd (λq hq=>⟨cK hq,cK hq⟩) v) 24 ah
 have e0:fe (E.put i (gM (E.ses i) d)) v (6*i+d)=0:=by unfold fe;rw[show(6*i+d)/6=i by omega,show(6*i+d)%6=d by omega,cH,if_neg];intro c;rw[show(gM (E.ses i) d).there d=false from cp]at c;cases c.1
 have e1:fe E v (6*i+d)=if(E.ses i).there d=true/\(E.ses i).hnd d=v then 1 else 0:=by unfold fe;rw[show(6*i+d)/6=i by omega,show(6*i+d)%6=d by omega]
 rw[e0,e1]at up;have Cv:=C v;unfold kL at Cv ⊢;by_cases t:(E.ses i).there d=true
 ·rw[if_pos t];have Ch:=C ((E.ses i).hnd d)
  have pos:1<=kL E ((E.ses i).hnd d):=by refine uc (k:=6*i+d) 24 ah ?_;unfold fe;rw[show(6*i+d)/6=i by omega,show(6*i+d)%6=d by omega,if_pos ⟨t,rfl⟩];exact Nat.le_refl _
  unfold xX;rw[if_neg ah];unfold ux;by_cases q:(E.ses i).hnd d=v
  ·rw[if_pos ah,Ch,q];rw[if_pos ⟨t,q⟩]at up;unfold kL;omega
  ·rw[if_neg ah,Cv];rw[if_neg (λw=>q w.2)]at up;omega
 ·rw[if_neg t,Cv];rw[if_neg (λw=>t w.1)]at up;omega
def DM{f:Int->Int}{E:fV}{i d v0:Nat}(C:kP f E)(hi:i<4)(hd:d<6)(ht:(E.ses i).there d=false):
  kP (ux f (v0:Int) (f (v0:Int)+1)) (E.put i (setS (E.ses i) d v0)):=λv=>by
 have up:=v7 (g:=fe E v) (g':=fe (E.put i (setS (E.ses i) d v0)) v) (k:=6*i+d) (wE hd (λq hq=>⟨cK hq,cK hq⟩) v) 24 ah
 have e0:fe (E.put i (setS (E.ses i) d v0)) v (6*i+d)=if v0=v then 1 else 0:=by unfold fe;rw[show(6*i+d)/6=i by omega,show(6*i+d)%6=d by omega,cH,show(setS (E.ses i) d v0).there d=true from cp,show(setS (E.ses i) d v0).hnd d=v0 from cp];simp
 have e1:fe E v (6*i+d)=0:=by unfold fe;rw[show(6*i+d)/6=i by omega,show(6*i+d)%6=d by omega,ht];simp
 rw[e0,e1]at up;have Cv:=C v;have C0:=C v0;unfold kL at Cv ⊢;unfold ux;by_cases q:v0=v
 ·subst q;rw[if_pos rfl,C0];rw[if_pos rfl]at up;unfold kL;omega
 ·rw[if_neg ah,Cv];rw[if_neg q]at up;omega
section
variable {h:aH}{e N i:Nat}{E:fV}{K:KK}{f:Int->Int}{B:List Nat}
def eO(x:fE)(er:Int)(n:Nat):fE:={x with err:=er,num:=n,ansd:=true,pend:=false}
def u9(I:dj h e E)(hi:i<4){er:Int}{n:Nat}(ha:E.ans<1000000000)(hK: ∀h',dj h' e {E.put i (eO (E.ses i) er n)with ans:=E.ans+1}->aM [e] h h'->K aE h'):
  Cl 168 [bh e,au ⟨e,3+24*i,none⟩,.agg #[al er,aq (n:Int)]] h K:=by
 refine F168.spec ?_;refine aV λh1 A1 O1 z1=> ?_;simp only[aL,Nat.zero_add];have I1:=I.only0 O1;refine aI (n:=er) (by rw[At.rd A1];rfl) (aI (n:=(n:Int)) (by rw[At.rd A1];rfl) ?_);obtain⟨x,ex⟩: ∃x,x=E.ses i:=⟨_,rfl⟩;rw[<-ex]at hK;have p0:E=E.put i x:=by rw[ex,ov]
 rw[p0]at I1;have T: ∀{a b:aH},aM [e] h1 a->aM [e] a b->aM [e] h1 b:=λp q=>p.trans q λb hb _=>hb;refine dj.setS (x:={x with err:=er}) I1 hi (j:=21) ah ah rfl (λq hq=>by rw[cH];exact EE q hq) λh2 I2 O2 _=> ?_;rw[dU]at I2;refine dj.setS (x:={x with err:=er,num:=n}) I2 hi (j:=22) ah ah rfl (λq hq=>by rw[cH];exact Eu (x:={x with err:=er}) q hq) λh3 I3 O3 _=> ?_;rw[dU]at I3;refine dj.setS (x:={x with err:=er,num:=n,ansd:=true}) I3 hi (j:=23) ah ah rfl (λq hq=>by rw[cH];exact Dd (x:={x with err:=er,num:=n}) q hq) λh4 I4 O4 _=> ?_;rw[dU]at I4;refine dj.setS (x:={x with err:=er,num:=n,ansd:=true,pend:=false}) I4 hi (j:=19) ah ah rfl (λq hq=>by rw[cH];exact wS (x:={x with err:=er,num:=n,ansd:=true}) q hq) λh5 I5 O5 _=> ?_;rw[dU]at I5;refine aI I5.ans ?_
 rw[show ax (((E.put i {x with err:=er,num:=n,ansd:=true,pend:=false}).ans:Int)+1)=((E.ans+1:Nat):Int) by rw[show(E.put i {x with err:=er,num:=n,ansd:=true,pend:=false}).ans=E.ans from rfl,wrap_i64 ah ah];omega]
 refine dj.setA I5 λh6 I6 O6 _=> ?_;exact hK h6 I6 (((O1.mono ak).trans (T (T (T O2 O3) O4) O5) λb hb _=>hb).trans O6 λb hb _=>hb)
def qv(I:dj h e E)(R:qH h E.r N f B)(hD:e∉B)(hi:i<4){d:Nat}(hd:d<6)(ed:(E.ses i).cal.dst=(d:Int))(hN:N<=LB)
  (hK: ∀h',dj h' e (E.put i (gM (E.ses i) d))->qH h' E.r (N+1) (if(E.ses i).there d=true then xX f ((E.ses i).hnd d:Nat)else f) B->aM (e::B) h h'->K aE h'):
  Cl 166 [bh e,au ⟨e,3+24*i,none⟩] h K:=by
 refine F166.spec ?_;simp only[aL,Nat.zero_add];have dd:Int.toNat (d:Int)=d:=Int.toNat_natCast d;have rd0: ∀{hh:aH} {E':fV},dj hh e E'->(E'.ses i).cal.dst=(d:Int)->rd hh ⟨e,3+24*i+12+2,none⟩=some (al (d:Int)):=λ{hh E'} II e'=>by rw[II.dst hi ah,e']
 refine aI (rd0 I ed) ⟨ah,ah,?_⟩;rw[dd];refine aY (I.thr hi hd ah) (aI (I.hnd hi hd ah) (aV λh1 A1 O1 z1=> ?_));have I1:=I.only0 O1;refine⟨trivial,trivial,trivial,trivial,trivial,aI (rd0 I1 ed) ⟨rfl,trivial,trivial,ah,ah,trivial,?_⟩⟩;refine aY (I1.thr hi hd ah) (aI (I1.hnd hi hd ah) ⟨rfl,?_⟩);refine aS A1 ak rfl λh2 A2 O2 z2=>aS A2 ak rfl λh3 A3 O3 z3=> ?_;have he:=At.lt I;have O03:aM [] h h3:=(O1.trans O2 (by intro x hx hl;simp at hx;omega)).trans O3 (by intro x hx hl;simp at hx;omega);have I3:=I.only0 O03;have R3:=R.only0 O03
 have fin: ∀{hh:aH} {f':Int->Int},dj hh e E->qH hh E.r (N+1) f' B->f'=(if(E.ses i).there d=true then xX f ((E.ses i).hnd d:Nat)else f)->aM (e::B) h hh->F166.wk3 ⟨e,3+24*i,none⟩ hh K:=λ{hh f'} II RR ef OO=>by
  unfold F166.wk3;simp only[aL,Nat.zero_add];refine aI (rd0 II ed) ⟨ah,ah,?_⟩;rw[dd];obtain⟨x,ex⟩: ∃x,x=E.ses i:=⟨_,rfl⟩;rw[<-ex]at hK ef;have p0:E=E.put i x:=by rw[ex,ov]
  rw[p0]at II;refine dj.setS (x:={x with there:=gx x.there d false}) II hi (j:=2*d) ah ah rfl (λq hq=>by rw[cH];exact vY hd q hq) λh4 I4 O4 _=> ?_;rw[dU]at I4;refine dj.setS (x:=gM x d) I4 hi (j:=2*d+1) ah ah rfl (λq hq=>by rw[cH];exact wu (x:={x with there:=gx x.there d false}) (n:=0) hd q hq) λh5 I5 O5 _=> ?_;rw[dU]at I5;have O45:aM [e] hh h5:=O4.trans O5 λb hb _=>hb;subst ef;exact hK h5 I5 (RR.only O45 λb hb=>by simp at hb;subst hb;exact hD) (OO.trans O45 λb hb _=>by simp at hb;simp[hb])
 refine aY (n:=(E.ses i).there d) (by rw[At.rd A3];rfl) (aT (λt=> ?_) λt=> ?_)
 ·refine aR I3.r (aI (n:=((E.ses i).hnd d:Int)) (by rw[At.rd A3];rfl) ?_);refine FI R3 hN λh4 n R4 O4=>aI rfl ?_;exact fin (I3.only O4 hD) R4 (by rw[if_pos t]) ((O03.mono ak).trans O4 λb hb _=>by simp[hb])
 ·have R3':qH h3 E.r (N+1) f B:=by
   obtain⟨lo,M,T,W,p,c,H,w1,w4,hl,e⟩:=R3;exact⟨lo,M,T,W,p,c,H.grow ah,w1,w4,hl,e⟩
  exact fin I3 R3' (by rw[if_neg (by rw[t];simp)]) (O03.mono ak)
def DI(I:dj h e E)(R:qH h E.r N f B)(C:kP f E)(hD:e∉B)(hi:i<4){d v:Nat}(hd:d<6)(ed:(E.ses i).cal.dst=(d:Int))(hv:v<4294967296)(hN:N+1<=LB)
  (hK: ∀h' f',dj h' e (E.put i (setS (E.ses i) d v))->qH h' E.r (N+2) f' B->kP f' (E.put i (setS (E.ses i) d v))->aM (e::B) h h'->K aE h'):
  Cl 167 [bh e,au ⟨e,3+24*i,none⟩,ap (v:Int)] h K:=by
 refine F167.spec ?_;simp only[aL,Nat.zero_add];refine qv I R hD hi hd ed ah λh1 I1 R1 O1=>⟨rfl,?_⟩;have C1:=vX C hi hd;have dd:Int.toNat (d:Int)=d:=Int.toNat_natCast d;refine aI (n:=(d:Int)) (by rw[I1.dst hi ah,cH];exact congrArg (λz=>some (al z)) ed) ⟨ah,ah,?_⟩;rw[dd];obtain⟨x,ex⟩: ∃x,x=gM (E.ses i) d:=⟨_,rfl⟩;rw[<-ex]at I1 C1;refine dj.setS (x:={x with there:=gx x.there d true}) I1 hi (j:=2*d) ah ah rfl (λq hq=>by rw[cH];exact vY hd q hq) λh4 I4 O4 _=> ?_;rw[dU]at I4;refine dj.setS (x:=setS x d v) I4 hi (j:=2*d+1) ah ah rfl (λq hq=>by rw[cH];exact wu (x:={x with there:=gx x.there d true}) (n:=v) hd q hq) λh5 I5 O5 _=> ?_;rw[dU]at I5;have O45:aM [e] h1 h5:=O4.trans O5 λb hb _=>hb;have R5:=R1.only O45 λb hb=>by simp at hb;subst hb;exact hD
 refine aR I5.r ?_;refine CG R5 hv ah λh6 R6 O6=>⟨rfl,?_⟩;have ht:((E.put i x).ses i).there d=false:=by rw[cH,ex];exact cp
 have C2:=DM (v0:=v) C1 hi hd ht;rw[cH,dU]at C2;have exs:setS x d v=setS (E.ses i) d v:=by rw[ex];unfold setS gM;rw[gP,gP]
 rw[exs]at C2 I5;exact hK h6 _ (I5.only O6 hD) R6 C2 ((O1.trans O45 λb hb _=>by simp at hb;simp[hb]).trans O6 λb hb _=>by simp[hb])
end
end
section
def sL(S:fE):List Value:=[sC S 0,sC S 1,sC S 2,sC S 3,sC S 4,sC S 5,sC S 6,sC S 7,sC S 8,sC S 9,sC S 10,sC S 11,sC S 12,sC S 13,sC S 14,sC S 15,sC S 16,sC S 17,sC S 18,sC S 19,sC S 20,sC S 21,sC S 22,sC S 23]
def vL{h:aH}{v:List Value}{x:Int}{S:fE}{G:Nat->aH->Prop}(r: ∀j,j<24->v[Int.toNat x*24+j]? =some (sC S j))(hG: ∀h',At h' h.size (sL S)->aM [] h h'->G h.size h'):
  bI (v[Int.toNat x*24+0]?) (λb1=>aQ .u32 (v[Int.toNat x*24+1]?) (λn2=>bI (v[Int.toNat x*24+2]?) (λb3=>aQ .u32 (v[Int.toNat x*24+3]?) (λn4=>bI (v[Int.toNat x*24+4]?) (λb5=>aQ .u32 (v[Int.toNat x*24+5]?) (λn6=>bI (v[Int.toNat x*24+6]?) (λb7=>aQ .u32 (v[Int.toNat x*24+7]?) (λn8=>bI (v[Int.toNat x*24+8]?) (λb9=>aQ .u32 (v[Int.toNat x*24+9]?) (λn10=>bI (v[Int.toNat x*24+10]?) (λb11=>aQ .u32 (v[Int.toNat x*24+11]?) (λn12=>aQ .i64 (v[Int.toNat x*24+12]?) (λn13=>aQ .i64 (v[Int.toNat x*24+13]?) (λn14=>aQ .i64 (v[Int.toNat x*24+14]?) (λn15=>aQ .i64 (v[Int.toNat x*24+15]?) (λn16=>aQ .i64 (v[Int.toNat x*24+16]?) (λn17=>aQ .i64 (v[Int.toNat x*24+17]?) (λn18=>aQ .u8 (v[Int.toNat x*24+18]?) (λn19=>bI (v[Int.toNat x*24+19]?) (λb20=>aQ .i64 (v[Int.toNat x*24+20]?) (λn21=>aQ .i64 (v[Int.toNat x*24+21]?) (λn22=>aQ .u64 (v[Int.toNat x*24+22]?) (λn23=>bI (v[Int.toNat x*24+23]?) (λb24=>a9 h (.cells #[aB,(ap (0:Int)),aB,(ap (0:Int)),aB,(ap (0:Int)),aB,(ap (0:Int)),aB,(ap (0:Int)),aB,(ap (0:Int)),(al (0:Int)),(al (0:Int)),(al (0:Int)),(al (0:Int)),(al (0:Int)),(al (0:Int)),(.int .u8 (0:Int)),aB,(al (0:Int)),(al (0:Int)),(aq (0:Int)),aB] 129) (λb25 h26=>aW h26 (Addr.add (aw b25) 0) (aD b1) (λh27=>aW h27 (Addr.add (aw b25) 1) (ap n2) (λh28=>aW h28 (Addr.add (aw b25) 2) (aD b3) (λh29=>aW h29 (Addr.add (aw b25) 3) (ap n4) (λh30=>aW h30 (Addr.add (aw b25) 4) (aD b5) (λh31=>aW h31 (Addr.add (aw b25) 5) (ap n6) (λh32=>aW h32 (Addr.add (aw b25) 6) (aD b7) (λh33=>aW h33 (Addr.add (aw b25) 7) (ap n8) (λh34=>aW h34 (Addr.add (aw b25) 8) (aD b9) (λh35=>aW h35 (Addr.add (aw b25) 9) (ap n10) (λh36=>aW h36 (Addr.add (aw b25) 10) (aD b11) (λh37=>aW h37 (Addr.add (aw b25) 11) (ap n12) (λh38=>aW h38 (Addr.add (aw b25) 12) (al n13) (λh39=>aW h39 (Addr.add (aw b25) 13) (al n14) (λh40=>aW h40 (Addr.add (aw b25) 14) (al n15) (λh41=>aW h41 (Addr.add (aw b25) 15) (al n16) (λh42=>aW h42 (Addr.add (aw b25) 16) (al n17) (λh43=>aW h43 (Addr.add (aw b25) 17) (al n18) (λh44=>aW h44 (Addr.add (aw b25) 18) (.int .u8 n19) (λh45=>aW h45 (Addr.add (aw b25) 19) (aD b20) (λh46=>aW h46 (Addr.add (aw b25) 20) (al n21) (λh47=>aW h47 (Addr.add (aw b25) 21) (al n22) (λh48=>aW h48 (Addr.add (aw b25) 22) (aq n23) (λh49=>aW h49 (Addr.add (aw b25) 23) (aD b24) (λh50=>G b25 h50))))))))))))))))))))))))))))))))))))))))))))))))):=by
 refine aY (r 0 ah) ?_;refine aI (r 1 ah) ?_;refine aY (r 2 ah) ?_;refine aI (r 3 ah) ?_;refine aY (r 4 ah) ?_;refine aI (r 5 ah) ?_;refine aY (r 6 ah) ?_;refine aI (r 7 ah) ?_;refine aY (r 8 ah) ?_;refine aI (r 9 ah) ?_;refine aY (r 10 ah) ?_;refine aI (r 11 ah) ?_;refine aI (r 12 ah) ?_;refine aI (r 13 ah) ?_;refine aI (r 14 ah) ?_;refine aI (r 15 ah) ?_;refine aI (r 16 ah) ?_;refine aI (r 17 ah) ?_;refine aI (r 18 ah) ?_;refine aY (r 19 ah) ?_;refine aI (r 20 ah) ?_;refine aI (r 21 ah) ?_;refine aI (r 22 ah) ?_;refine aY (r 23 ah) ?_;refine aV λh1 A1 O1 z1=> ?_;show pd (aw h.size) 0 (sL S) h1 λh'=>G h.size h';refine jB (o:=0) (sL S) 0 _ h1 A1 (by simp[sL]) (λw hw=> ?_) λh2 A2 O2 z2=>hG h2 ?_ (O1.trans O2 (by intro y hy hl;simp at hy;omega))
 ·simp only[sL,List.mem_cons,List.not_mem_nil,or_false]at hw;rcases hw with e|e|e|e|e|e|e|e|e|e|e|e|e|e|e|e|e|e|e|e|e|e|e|e<;>subst e<;>exact Fq _
 ·simpa[sL]using A2
section
variable {h:aH}{e:Nat}{E:fV}{K:KK}
def F9(I:dj h e E){Q:List Value->Prop}(hQ: ∀v,(∀(k j:Nat),k<4->j<24->v[Int.toNat (k:Int)*24+j]? =some (sC (E.ses k) j))->Q v):GB h (Addr.add (aw e) 3) 96 Q:=by
 refine⟨co 96 λq=>eC E (3+q),bJ _ _,λj v hj=> ?_,hQ _ λk j hk hj=> ?_⟩
 ·have hl:j<96:=by have:=(List.getElem?_eq_some_iff.1 hj).1;rwa[bJ]at this
  rw[cF hl]at hj;injection hj with hj;subst hj;rw[aL,aL,Nat.zero_add];exact I.rd ah
 ·rw[cF ah,show 3+(Int.toNat (k:Int)*24+j)=3+24*k+j by omega,vz hk hj]
def jP(E:fV):Prop:= ∃k,k<4/\(E.ses k).pend=true
def HI(E:fV):Prop:= ∃k,k<4/\(E.ses k).pend=true/\0<(E.ses k).job
def BH(E:fV):Prop:= ∃k,k<4/\(E.ses k).pend=true/\(E.ses k).cal.kind=8
def t8{k:Nat}(hk:k<4):ax ((k:Int)+1)=((k+1:Nat):Int):=by rw[wrap_i64 ah ah];omega
def qy(I:dj h e E)(hT:jP E-> ∀h',aM [] h h'->K aC h')(hF: ¬jP E-> ∀h',aM [] h h'->K aB h'):Cl 78 [bh e] h K:=by
 refine F78.spec _ h K ?_;refine F9 I λv r=> ?_
 have main: ∀(d k:Nat) (hh:aH),d+k=4->(∀j,j<k->(E.ses j).pend=false)->aM [] h hh->F78.wL2 (d+1) v (k:Int) hh K:=by
  intro d
  induction d with
  |zero=>
   intro k hh hk hb O;rw[F78.sL2];rw[decide_eq_false ah,aJ];refine hF (λ⟨j,hj,hp⟩=> ?_) hh O;rw[hb j ah]at hp;cases hp
  |succ d ih=>
   intro k hh hk hb O;rw[F78.sL2];rw[decide_eq_true ah,aO];refine⟨ah,ah,vL (S:=E.ses k) (λj hj=>r k j ah hj) λh2 A2 O2=> ?_⟩;refine aY (n:=(E.ses k).pend) (by rw[aL,At.rd A2];rfl) (aT (λp=> ?_) λp=> ?_)
   ·exact hT ⟨k,ah,p⟩ h2 (O.trans O2 ak)
   ·rw[t8 ah];refine ih (k+1) h2 ah (λj hj=> ?_) (O.trans O2 ak);by_cases q:j=k
    ·rw[q];exact p
    ·exact hb j ah
 exact⟨_,main 4 0 h ah (λj hj=>ah) (aM.refl _ _)⟩
def uE(I:dj h e E)(hT:HI E-> ∀h',aM [] h h'->K aC h')(hF: ¬HI E-> ∀h',aM [] h h'->K aB h'):Cl 170 [bh e] h K:=by
 refine F170.spec _ h K ?_;refine F9 I λv r=> ?_
 have main: ∀(d k:Nat) (hh:aH),d+k=4->(∀j,j<k-> ¬((E.ses j).pend=true/\0<(E.ses j).job))->aM [] h hh->F170.wL2 (d+1) v (k:Int) hh K:=by
  intro d
  induction d with
  |zero=>
   intro k hh hk hb O;rw[F170.sL2];rw[decide_eq_false ah,aJ];exact hF (λ⟨j,hj,hp⟩=>hb j ah hp) hh O
  |succ d ih=>
   intro k hh hk hb O;rw[F170.sL2];rw[decide_eq_true ah,aO];refine⟨ah,ah,vL (S:=E.ses k) (λj hj=>r k j ah hj) λh2 A2 O2=> ?_⟩
   have on: ¬((E.ses k).pend=true/\0<(E.ses k).job)->F170.wL2 (d+1) v (ax ((k:Int)+1)) h2 K:=λg=>by
    rw[t8 ah];refine ih (k+1) h2 ah (λj hj=> ?_) (O.trans O2 ak);by_cases q:j=k
    ·rw[q];exact g
    ·exact hb j ah
   refine aY (n:=(E.ses k).pend) (by rw[aL,At.rd A2];rfl) (aT (λp=> ?_) λp=> ?_)
   ·refine aI (n:=((E.ses k).job:Int)) (by rw[aL,At.rd A2];rfl) (aT (λq=> ?_) λq=> ?_)
    ·have q:(0:Int)<((E.ses k).job:Int):=of_decide_eq_true q;exact hT ⟨k,ah,p,ah⟩ h2 (O.trans O2 ak)
    ·have q: ¬(0:Int)<((E.ses k).job:Int):=of_decide_eq_false q;exact on λw=>q ah
   ·exact on λw=>by rw[p]at w;cases w.1
 exact⟨_,main 4 0 h ah (λj hj=>ah) (aM.refl _ _)⟩
def Aj(I:dj h e E)(hT:BH E-> ∀h',aM [] h h'->K aC h')(hF: ¬BH E-> ∀h',aM [] h h'->K aB h'):Cl 214 [bh e] h K:=by
 refine F214.spec _ h K ?_;refine F9 I λv r=> ?_
 have main: ∀(d k:Nat) (hh:aH),d+k=4->(∀j,j<k-> ¬((E.ses j).pend=true/\(E.ses j).cal.kind=8))->aM [] h hh->F214.wL2 (d+1) v (k:Int) hh K:=by
  intro d
  induction d with
  |zero=>
   intro k hh hk hb O;rw[F214.sL2];rw[decide_eq_false ah,aJ];exact hF (λ⟨j,hj,hp⟩=>hb j ah hp) hh O
  |succ d ih=>
   intro k hh hk hb O;rw[F214.sL2];rw[decide_eq_true ah,aO];refine⟨ah,ah,vL (S:=E.ses k) (λj hj=>r k j ah hj) λh2 A2 O2=> ?_⟩
   have on: ¬((E.ses k).pend=true/\(E.ses k).cal.kind=8)->F214.wL2 (d+1) v (ax ((k:Int)+1)) h2 K:=λg=>by
    rw[t8 ah];refine ih (k+1) h2 ah (λj hj=> ?_) (O.trans O2 ak);by_cases q:j=k
    ·rw[q];exact g
    ·exact hb j ah
   refine aY (n:=(E.ses k).pend) (by rw[aL,At.rd A2];rfl) (aT (λp=> ?_) λp=> ?_)
   ·refine aI (n:=(E.ses k).cal.kind) (by rw[aL,aL,At.rd A2];rfl) (aT (λq=> ?_) λq=> ?_)
    ·exact hT ⟨k,ah,p,by simpa using q⟩ h2 (O.trans O2 ak)
    ·exact on λw=>by simp[w.2]at q
   ·exact on λw=>by rw[p]at w;cases w.1
 exact⟨_,main 4 0 h ah (λj hj=>ah) (aM.refl _ _)⟩
def pC(s p r:Nat):fV:=⟨s,p,r,λ_=>⟨λ_=>false,λ_=>0,⟨0,0,0,0,0,0,0⟩,false,0,0,0,false⟩,0⟩
def HO(s p r:Nat):kP (λ_=>0) (pC s p r):=λx=>by
 have: ∀n,fu (fe (pC s p r) x) n=0:=by
  intro n
  induction n with
  |zero=>rfl
  |succ n ih=>unfold fu;rw[ih];unfold fe pC;simp
 unfold kL;rw[this]
 rfl
end
end
section
variable {i j k l m n o p q r s t:Int}{a b c d:Addr}{u v:Nat}{x y:az}{h:aH}{K:KK}
def F70.spec(H:aQ .i64 (rd h (a.add 0)) λa=>K (al a) h):Cl 70 [au a] h K:=cN Tryz.func70 H
def F186.spec(H:aK (i<0) (K (al (-1)) h) (aQ .i64 (rd h (a.add 0)) λb=>aK (i>=b) (K (al (-1)) h) ((0<=i/\i<8/\aQ .i64 (rd h ((a.add 9).add (i.toNat*1))) λa=>K (al a) h)))):Cl 186 [au a,al i] h K:=cN Tryz.func186 H
def F208.spec(H:Cl 47 [au a] h λb c=>ba (some b) λb=>Cl 186 [aA b,al i] c λb c=>aQ .i64 (some b) λb=>Cl 161 [au a,al b,ap 0,ap 1] c λa b=> ∃c:Int,∃d:Int,a=(.tuple #[ap c,al d])/\K (.tuple #[ap c,al d]) b):Cl 208 [au a,al i] h K:=cN Tryz.func208 H
namespace F22
def T:bj:=⟨[(5,[0,3,4]),(12,[0,3,4,6,7,8,9])],[]⟩
noncomputable def body:Code:=(Tryz.f22.body).getD .skip
noncomputable def en(S:bD)(p:List Nat)(κ:XK):Fr->aH->Prop:=E Tryz.prog X T S (sub body p) κ
noncomputable def ln(S:bD)(p:List Nat)(κ:XK)(n:Nat):Fr->aH->Prop:=jw S (E Tryz.prog X T S (sub body p)) (df T (sub body p)) κ n
def fn(K:KK):XK:=fin Tryz.prog Tryz.f22.results.toList K
noncomputable def c0(S:bD)(K:KK):XK:=jS S (df T (sub body [1,1,1,1])) (en S [1,1,1,1] (fn K)) (fn K)
noncomputable def c1(S:bD)(K:KK):XK:=cA 0 (c0 S K)
noncomputable def c2(S:bD)(n5:Nat)(K:KK):XK:=gh S (df T (sub body [1,1,1,0,1,0,0])) (ln S [1,1,1,0,1,0,0] (c1 S K) n5) (c1 S K)
noncomputable def c3(S:bD)(n5:Nat)(K:KK):XK:=jS S (df T (sub body [1,1,1,0,1,0,0,1,1])) (en S [1,1,1,0,1,0,0,1,1] (c2 S n5 K)) (c2 S n5 K)
noncomputable def c4(S:bD)(n5:Nat)(K:KK):XK:=cA 1 (c3 S n5 K)
noncomputable def c5(S:bD)(n5:Nat)(K:KK):XK:=cA 2 (c4 S n5 K)
noncomputable def c6(S:bD)(n5:Nat)(n12:Nat)(K:KK):XK:=gh S (df T (sub body [1,1,1,0,1,0,0,1,0,0,1,1,1,1,0,0])) (ln S [1,1,1,0,1,0,0,1,0,0,1,1,1,1,0,0] (c5 S n5 K) n12) (c5 S n5 K)
def f5(d:Addr)(b:az)(a c:Nat)(f:Int):Fr:=[(0,(au d)),(3,(.slice b a c)),(4,(al f))]
def f12(d:Addr)(b:az)(a c:Nat)(f i j l g:Int):Fr:=[(0,(au d)),(3,(.slice b a c)),(4,(al f)),(6,(al i)),(7,(ap j)),(8,(ap l)),(9,(al g))]
def J0(k5:Addr->(az)->Nat->Nat->Int->aH->Prop)(d:Addr)(h:aH)(K:KK):Prop:=
 Cl 59 [(au d)] h (λv1 h2=>cv (some v1) (λp3 l4 c5=>Cl 45 [(au d)] h2 (λv6 h7=>aQ .i64 (some v6) (λn8=>aK ((Nat.cast l4:Int) !=n8) (K aB h7) (Cl 70 [(au d)] h7 (λv9 h10=>aQ .i64 (some v9) (λn11=>aK (decide ((Nat.cast l4:Int)>n11)) (K aB h10) (k5 d p3 l4 c5 (0:Int) h10))))))))
def E0(S:bD)(d:Addr)(h:aH)(K:KK):(E Tryz.prog X T S body (fin Tryz.prog Tryz.f22.results.toList K) (dI 0 [(au d)]) h)=J0 (λd b a c f h=>S (en S [1,1,1,0,1] (c0 S K)) (f5 d b a c f) h) d h K:=by kernel_rfl
def Jk5(lp5:Addr->(az)->Nat->Nat->Int->aH->Prop)(d:Addr)(b:az)(a c:Nat)(f:Int)(h:aH)(_K:KK):Prop:=
 lp5 d b a c f h
def Ek5(S:bD)(d:Addr)(b:az)(a c:Nat)(f:Int)(h:aH)(K:KK):(en S [1,1,1,0,1] (c0 S K) (f5 d b a c f) h)=Jk5 (λd b a c f h=> ∃n,S (ln S [1,1,1,0,1,0,0] (c1 S K) n) (f5 d b a c f) h) d b a c f h K:=by kernel_rfl
def JL5(k12:Addr->(az)->Nat->Nat->Int->Int->Int->Int->Int->aH->Prop)(d:Addr)(b:az)(a c:Nat)(f:Int)(h:aH)(K:KK):Prop:=
 aK (decide (f<(Nat.cast a:Int))) (bf b (λa1=>(0<=f/\f<(Nat.cast a:Int)/\aQ .u32 (rd h (a1.add (Int.toNat f*1))) (λn2=>Cl 71 [(au d),(ap n2)] h (λv3 h4=>aQ .i64 (some v3) (λn5=>Cl 72 [(au d),(ap n2)] h4 (λv6 h7=>aQ .u32 (some v6) (λn8=>Cl 73 [(au d),(ap n2)] h7 (λv9 h10=>aQ .u32 (some v9) (λn11=>aK (decide (n2<=(1:Int))) (K aB h10) (aK (decide (f>(0:Int))) (bf b (λa12=>(0<=(ax (f-(1:Int)))/\(ax (f-(1:Int)))<(Nat.cast a:Int)/\aQ .u32 (rd h10 (a12.add (Int.toNat (ax (f-(1:Int)))*1))) (λn13=>aK (decide (n13>=n2)) (K aB h10) (Cl 74 [(au d),(ap n2)] h10 (λv14 h15=>bI (some v14) (λb16=>aK (!b16) (K aB h15) (aK (decide (n5<(0:Int))) (K aB h15) (Cl 75 [(au d)] h15 (λv17 h18=>aQ .i64 (some v17) (λn19=>aK (decide (n5>=n19)) (K aB h18) (aK (n8==n11) (K aB h18) (Cl 74 [(au d),(ap n8)] h18 (λv20 h21=>bI (some v20) (λb22=>aK (!b22) (K aB h21) (Cl 74 [(au d),(ap n11)] h21 (λv23 h24=>bI (some v23) (λb25=>aK (!b25) (K aB h24) (Cl 71 [(au d),(ap n8)] h24 (λv26 h27=>aQ .i64 (some v26) (λn28=>aK (decide (n28<=n5)) (K aB h27) (Cl 71 [(au d),(ap n11)] h27 (λv29 h30=>aQ .i64 (some v29) (λn31=>aK (decide (n31<=n5)) (K aB h30) (k12 d b a c f n5 n8 n11 (0:Int) h30))))))))))))))))))))))))) (Cl 74 [(au d),(ap n2)] h10 (λv32 h33=>bI (some v32) (λb34=>aK (!b34) (K aB h33) (aK (decide (n5<(0:Int))) (K aB h33) (Cl 75 [(au d)] h33 (λv35 h36=>aQ .i64 (some v35) (λn37=>aK (decide (n5>=n37)) (K aB h36) (aK (n8==n11) (K aB h36) (Cl 74 [(au d),(ap n8)] h36 (λv38 h39=>bI (some v38) (λb40=>aK (!b40) (K aB h39) (Cl 74 [(au d),(ap n11)] h39 (λv41 h42=>bI (some v41) (λb43=>aK (!b43) (K aB h42) (Cl 71 [(au d),(ap n8)] h42 (λv44 h45=>aQ .i64 (some v44) (λn46=>aK (decide (n46<=n5)) (K aB h45) (Cl 71 [(au d),(ap n11)] h45 (λv47 h48=>aQ .i64 (some v47) (λn49=>aK (decide (n49<=n5)) (K aB h48) (k12 d b a c f n5 n8 n11 (0:Int) h48)))))))))))))))))))))))))))))))) (K aC h)
def EL5(S:bD)(n5:Nat)(d:Addr)(b:az)(a c:Nat)(f:Int)(h:aH)(K:KK):(en S [1,1,1,0,1,0,0] (c2 S n5 K) (f5 d b a c f) h)=JL5 (λd b a c f i j l g h=>S (en S [1,1,1,0,1,0,0,1,0,0,1,1,1,1] (c4 S n5 K)) (f12 d b a c f i j l g) h) d b a c f h K:=by kernel_rfl
def Jk12(lp12:Addr->(az)->Nat->Nat->Int->Int->Int->Int->Int->aH->Prop)(d:Addr)(b:az)(a c:Nat)(f i j l g:Int)(h:aH)(_K:KK):Prop:=
 lp12 d b a c f i j l g h
def Ek12(S:bD)(n5:Nat)(d:Addr)(b:az)(a c:Nat)(f i j l g:Int)(h:aH)(K:KK):(en S [1,1,1,0,1,0,0,1,0,0,1,1,1,1] (c4 S n5 K) (f12 d b a c f i j l g) h)=Jk12 (λd b a c f i j l g h=> ∃n,S (ln S [1,1,1,0,1,0,0,1,0,0,1,1,1,1,0,0] (c5 S n5 K) n) (f12 d b a c f i j l g) h) d b a c f i j l g h K:=by kernel_rfl
def JL12(bk12:Addr->(az)->Nat->Nat->Int->Int->Int->Int->Int->aH->Prop)(bk5:Addr->(az)->Nat->Nat->Int->aH->Prop)(d:Addr)(b:az)(a c:Nat)(f i j l g:Int)(h:aH)(K:KK):Prop:=
 aK (decide (g<f)) (bf b (λa1=>(0<=g/\g<(Nat.cast a:Int)/\aQ .u32 (rd h (a1.add (Int.toNat g*1))) (λn2=>Cl 71 [(au d),(ap n2)] h (λv3 h4=>aQ .i64 (some v3) (λn5=>aK (n5==i) (bf b (λa6=>(0<=g/\g<(Nat.cast a:Int)/\aQ .u32 (rd h4 (a6.add (Int.toNat g*1))) (λn7=>Cl 72 [(au d),(ap n7)] h4 (λv8 h9=>aQ .u32 (some v8) (λn10=>aK (n10==j) (bf b (λa11=>(0<=g/\g<(Nat.cast a:Int)/\aQ .u32 (rd h9 (a11.add (Int.toNat g*1))) (λn12=>Cl 73 [(au d),(ap n12)] h9 (λv13 h14=>aQ .u32 (some v13) (λn15=>aK (n15==l) (K aB h14) (bk12 d b a c f i j l (ax (g+(1:Int))) h14))))))) (bk12 d b a c f i j l (ax (g+(1:Int))) h9))))))) (bk12 d b a c f i j l (ax (g+(1:Int))) h4))))))) (bk5 d b a c (ax (f+(1:Int))) h)
def EL12(S:bD)(n5:Nat)(n12:Nat)(d:Addr)(b:az)(a c:Nat)(f i j l g:Int)(h:aH)(K:KK):(en S [1,1,1,0,1,0,0,1,0,0,1,1,1,1,0,0] (c6 S n5 n12 K) (f12 d b a c f i j l g) h)=JL12 (λd b a c f i j l g h=>S (ln S [1,1,1,0,1,0,0,1,0,0,1,1,1,1,0,0] (c5 S n5 K) n12) (f12 d b a c f i j l g) h) (λd b a c f h=>S (ln S [1,1,1,0,1,0,0] (c1 S K) n5) (f5 d b a c f) h) d b a c f i j l g h K:=by kernel_rfl
def wL12(bk5:Addr->(az)->Nat->Nat->Int->aH->Prop):Nat->Addr->(az)->Nat->Nat->Int->Int->Int->Int->Int->aH->KK->Prop
 |0,_,_,_,_,_,_,_,_,_,_,_=>False
 |n+1,d,b,a,c,f,i,j,l,g,h,K=>JL12 (λd b a c f i j l g h=>wL12 bk5 n d b a c f i j l g h K) bk5 d b a c f i j l g h K
def eL12(K:KK)(n5:Nat)(bk5:Addr->(az)->Nat->Nat->Int->aH->Prop)(hb5: ∀(d:Addr) (b:az) (a c:Nat) (f:Int) (h:aH),(ln S0 [1,1,1,0,1,0,0] (c1 S0 K) n5 (f5 d b a c f) h)=bk5 d b a c f h): ∀(n:Nat) (d:Addr) (b:az) (a c:Nat) (f i j l g:Int) (h:aH),(ln S0 [1,1,1,0,1,0,0,1,0,0,1,1,1,1,0,0] (c5 S0 n5 K) n (f12 d b a c f i j l g) h)=wL12 bk5 n d b a c f i j l g h K
 |0,_,_,_,_,_,_,_,_,_,_=>rfl
 |n+1,d,b,a,c,f,i,j,l,g,h=>(EL12 S0 n5 n d b a c f i j l g h K).trans (BE (λq0 q1=>JL12 q0 q1 d b a c f i j l g h K) (by funext d b a c f i j l g h;exact(λd b a c f i j l g h=>eL12 K n5 bk5 hb5 n d b a c f i j l g h) d b a c f i j l g h) (by funext d b a c f h;exact hb5 d b a c f h))
def wk12(bk5:Addr->(az)->Nat->Nat->Int->aH->Prop)(d:Addr)(b:az)(a c:Nat)(f i j l g:Int)(h:aH)(K:KK):Prop:=
 Jk12 (λd b a c f i j l g h=> ∃m,wL12 bk5 m d b a c f i j l g h K) d b a c f i j l g h K
def ek12(K:KK)(n5:Nat)(bk5:Addr->(az)->Nat->Nat->Int->aH->Prop)(hb5: ∀(d:Addr) (b:az) (a c:Nat) (f:Int) (h:aH),(ln S0 [1,1,1,0,1,0,0] (c1 S0 K) n5 (f5 d b a c f) h)=bk5 d b a c f h)(d:Addr)(b:az)(a c:Nat)(f i j l g:Int)(h:aH):(en S0 [1,1,1,0,1,0,0,1,0,0,1,1,1,1] (c4 S0 n5 K) (f12 d b a c f i j l g) h)=wk12 bk5 d b a c f i j l g h K:=(Ek12 S0 n5 d b a c f i j l g h K).trans (lP (λq0=>Jk12 q0 d b a c f i j l g h K) (by funext d b a c f i j l g h;exact cR λm=>eL12 K n5 bk5 hb5 m d b a c f i j l g h))
def wL5:Nat->Addr->(az)->Nat->Nat->Int->aH->KK->Prop
 |0,_,_,_,_,_,_,_=>False
 |n+1,d,b,a,c,f,h,K=>JL5 (λd b a c f i j l g h=>wk12 (λd b a c f h=>wL5 n d b a c f h K) d b a c f i j l g h K) d b a c f h K
def eL5(K:KK): ∀(n:Nat) (d:Addr) (b:az) (a c:Nat) (f:Int) (h:aH),(ln S0 [1,1,1,0,1,0,0] (c1 S0 K) n (f5 d b a c f) h)=wL5 n d b a c f h K
 |0,_,_,_,_,_,_=>rfl
 |n+1,d,b,a,c,f,h=>(EL5 S0 n d b a c f h K).trans (lP (λq0=>JL5 q0 d b a c f h K) (by funext d b a c f i j l g h;exact ek12 K n (λd b a c f h=>wL5 n d b a c f h K) (λd b a c f h=>eL5 K n d b a c f h) d b a c f i j l g h))
def wk5(d:Addr)(b:az)(a c:Nat)(f:Int)(h:aH)(K:KK):Prop:=
 Jk5 (λd b a c f h=> ∃m,wL5 m d b a c f h K) d b a c f h K
def ek5(K:KK)(d:Addr)(b:az)(a c:Nat)(f:Int)(h:aH):(en S0 [1,1,1,0,1] (c0 S0 K) (f5 d b a c f) h)=wk5 d b a c f h K:=(Ek5 S0 d b a c f h K).trans (lP (λq0=>Jk5 q0 d b a c f h K) (by funext d b a c f h;exact cR λm=>eL5 K m d b a c f h))
def w(d:Addr)(h:aH)(K:KK):Prop:=
 J0 (λd b a c f h=>wk5 d b a c f h K) d h K
def e0(K:KK)(d:Addr)(h:aH):(E Tryz.prog X T S0 body (fin Tryz.prog Tryz.f22.results.toList K) (dI 0 [(au d)]) h)=w d h K:=(E0 S0 d h K).trans (lP (λq0=>J0 q0 d h K) (by funext d b a c f h;exact ek5 K d b a c f h))
def hb:Tryz.f22.body=some body:=by kernel_rfl
def ok:cX T Tryz.f22.ntmps body=true:=by kernel_rfl
def spec(d:Addr)(h:aH)(K:KK)(H:w d h K):Cl 22 [(au d)] h K:=
 dk (T:=T) Ed Ei Tryz.func22 hb ok rfl (by rw[e0];exact H)
end F22
def F59.T:bj:=⟨[(3,[3,9,10,11])],[]⟩
section
variable (n:Nat)(l:Addr)(f:az)(d c:Nat)(i:az)(g j:Nat)(b a:Int)(h:aH)(K:KK)
def F59.wL3:Prop:=Lp Tryz.f59 F59.T [1,1,0,1,0] n [(3,(.slice f d c)),(9,(.slice i g j)),(10,(al b)),(11,(al a))] h K
def F59.sL3:F59.wL3 (n+1) f d c i g j b a h K=(aK (a<b) (bf i λe=>0<=a/\a<(g:Int)/\bI (rd h ((e.add (a.toNat*4)).add 0)) λk=>aQ .i64 (rd h ((e.add (a.toNat*4)).add 1)) λl=>aQ .u32 (rd h ((e.add (a.toNat*4)).add 2)) λm=>aQ .u32 (rd h ((e.add (a.toNat*4)).add 3)) λe=>a9 h (.cells #[aB,al 0,ap 0,ap 0] 195) λo p=>aW p ((aw o).add 0) (aD k) λk=>aW k ((aw o).add 1) (al l) λk=>aW k ((aw o).add 2) (ap m) λk=>aW k ((aw o).add 3) (ap e) λe=>bI (rd e ((aw o).add 0)) λk=>aK k (a9 e (.cells #[ap (IntKind.wrap .u32 (ax (a+2)))] 46) λe k=>fB k 46 1 4 #[ap 0] f d c (some (aw e)) 1 λc d e f=>F59.wL3 n c d e i g j b (ax (a+1)) f K) (F59.wL3 n f d c i g j b (ax (a+1)) e K)) (K (.slice f d c) h)):=by kernel_rfl
def F59.wk3:Prop:=(∃e,F59.wL3 e f d c i g j b a h K)
def F59.spec(H:cv (rd h (l.add 2)) λa b c=>F59.wk3 none 0 0 a b c (b:Int) 0 h K):Cl 59 [au l] h K:=cT F59.T Tryz.func59 H
end
end
section
variable {i j k l m n o p q r s t:Int}{a b c d:Addr}{u v:Nat}{x y:az}{h:aH}{K:KK}
def F83.T:bj:=⟨[],[(10,[[(0,[]),(1,[]),(2,[]),(3,[]),(4,[]),(5,[]),(7,[]),(6,[7]),(8,[]),(9,[]),(10,[]),(11,[]),(12,[]),(13,[]),(15,[]),(16,[]),(14,[15,16]),(17,[]),(18,[]),(19,[]),(20,[18,19]),(21,[])]])]⟩
def F83.spec(H:a9 h (.cells #[aq 0,aq 0,aq 0,aq 0] 51) λb c=>aK (i==0) (aW c ((aw b).add 0) (aq 0) λa=>aW a ((aw b).add 1) (aq 0) λa=>aW a ((aw b).add 2) (aq 0) λa=>aW a ((aw b).add 3) (aq 0) λa=>aQ .u64 (rd a ((aw b).add 0)) λc=>aQ .u64 (rd a ((aw b).add 1)) λd=>aQ .u64 (rd a ((aw b).add 2)) λe=>aQ .u64 (rd a ((aw b).add 3)) λb=>K (.tuple #[.agg #[aq c,aq d,aq e,aq b],aC]) a) (aK (i==1) (Cl 86 [.agg #[aq 0,aq 0,aq 0,aq 0]] c λa c=> ∃d:Int,∃e:Int,∃f:Int,∃g:Int,a=(.agg #[aq d,aq e,aq f,aq g])/\aW c ((aw b).add 0) (aq d) λa=>aW a ((aw b).add 1) (aq e) λa=>aW a ((aw b).add 2) (aq f) λa=>aW a ((aw b).add 3) (aq g) λa=>aQ .u64 (rd a ((aw b).add 0)) λc=>aQ .u64 (rd a ((aw b).add 1)) λd=>aQ .u64 (rd a ((aw b).add 2)) λe=>aQ .u64 (rd a ((aw b).add 3)) λb=>K (.tuple #[.agg #[aq c,aq d,aq e,aq b],aC]) a) (Cl 71 [au a,ap i] c λc d=>aQ .i64 (some c) λc=>Cl 74 [au a,ap i] d λd e=>bI (some d) λd=>aK (!d) (aW e ((aw b).add 0) (aq 0) λa=>aW a ((aw b).add 1) (aq 0) λa=>aW a ((aw b).add 2) (aq 0) λa=>aW a ((aw b).add 3) (aq 0) λa=>aQ .u64 (rd a ((aw b).add 0)) λc=>aQ .u64 (rd a ((aw b).add 1)) λd=>aQ .u64 (rd a ((aw b).add 2)) λe=>aQ .u64 (rd a ((aw b).add 3)) λb=>K (.tuple #[.agg #[aq c,aq d,aq e,aq b],aB]) a) (aK (c<j) (aW e ((aw b).add 0) (aq 0) λa=>aW a ((aw b).add 1) (aq 0) λa=>aW a ((aw b).add 2) (aq 0) λa=>aW a ((aw b).add 3) (aq 0) λa=>aQ .u64 (rd a ((aw b).add 0)) λc=>aQ .u64 (rd a ((aw b).add 1)) λd=>aQ .u64 (rd a ((aw b).add 2)) λe=>aQ .u64 (rd a ((aw b).add 3)) λb=>K (.tuple #[.agg #[aq c,aq d,aq e,aq b],aB]) a) (aK (c>=(u:Int)) (aW e ((aw b).add 0) (aq 0) λa=>aW a ((aw b).add 1) (aq 0) λa=>aW a ((aw b).add 2) (aq 0) λa=>aW a ((aw b).add 3) (aq 0) λa=>aQ .u64 (rd a ((aw b).add 0)) λc=>aQ .u64 (rd a ((aw b).add 1)) λd=>aQ .u64 (rd a ((aw b).add 2)) λe=>aQ .u64 (rd a ((aw b).add 3)) λb=>K (.tuple #[.agg #[aq c,aq d,aq e,aq b],aB]) a) (Cl 72 [au a,ap i] e λd e=>aQ .u32 (some d) λd=>Cl 83 [au a,ap d,.slice x u v,al (ax (c+1))] e λd e=> ∃f:Int,∃g:Int,∃j:Int,∃k:Int,∃l:Bool,d=(.tuple #[.agg #[aq f,aq g,aq j,aq k],aD l])/\a9 e (.cells #[aq 0,aq 0,aq 0,aq 0] 51) λd e=>aW e ((aw d).add 0) (aq f) λe=>aW e ((aw d).add 1) (aq g) λe=>aW e ((aw d).add 2) (aq j) λe=>aW e ((aw d).add 3) (aq k) λe=>Cl 73 [au a,ap i] e λe f=>aQ .u32 (some e) λe=>Cl 83 [au a,ap e,.slice x u v,al (ax (c+1))] f λe f=> ∃g:Int,∃j:Int,∃k:Int,∃m:Int,∃n:Bool,e=(.tuple #[.agg #[aq g,aq j,aq k,aq m],aD n])/\a9 f (.cells #[aq 0,aq 0,aq 0,aq 0] 51) λe f=>aW f ((aw e).add 0) (aq g) λf=>aW f ((aw e).add 1) (aq j) λf=>aW f ((aw e).add 2) (aq k) λf=>aW f ((aw e).add 3) (aq m) λf=>bf x λg=>0<=c/\c<(u:Int)/\aQ .u64 (rd f ((g.add (c.toNat*4)).add 0)) λj=>aQ .u64 (rd f ((g.add (c.toNat*4)).add 1)) λk=>aQ .u64 (rd f ((g.add (c.toNat*4)).add 2)) λm=>aQ .u64 (rd f ((g.add (c.toNat*4)).add 3)) λc=>aQ .u64 (rd f ((aw e).add 0)) λg=>aQ .u64 (rd f ((aw e).add 1)) λo=>aQ .u64 (rd f ((aw e).add 2)) λp=>aQ .u64 (rd f ((aw e).add 3)) λe=>aQ .u64 (rd f ((aw d).add 0)) λq=>aQ .u64 (rd f ((aw d).add 1)) λr=>aQ .u64 (rd f ((aw d).add 2)) λs=>aQ .u64 (rd f ((aw d).add 3)) λd=>Cl 131 [.agg #[aq j,aq k,aq m,aq c],.agg #[aq g,aq o,aq p,aq e],.agg #[aq q,aq r,aq s,aq d]] f λc d=> ∃e:Int,∃f:Int,∃g:Int,∃j:Int,c=(.agg #[aq e,aq f,aq g,aq j])/\aF (aD l)/\aK l (aK n (Cl 72 [au a,ap i] d λc d=>aQ .u32 (some c) λc=>aF (au a)/\aF (ap i)/\Cl 73 [au a,ap i] d λa d=>aQ .u32 (some a) λa=>aW d ((aw b).add 0) (aq e) λd=>aW d ((aw b).add 1) (aq f) λd=>aW d ((aw b).add 2) (aq g) λd=>aW d ((aw b).add 3) (aq j) λd=>aF (aD (c !=a))/\aF (aD (c !=a))/\aQ .u64 (rd d ((aw b).add 0)) λe=>aQ .u64 (rd d ((aw b).add 1)) λf=>aQ .u64 (rd d ((aw b).add 2)) λg=>aQ .u64 (rd d ((aw b).add 3)) λb=>K (.tuple #[.agg #[aq e,aq f,aq g,aq b],aD (c !=a)]) d) ((aE=undef/\aE=undef/\aW d ((aw b).add 0) (aq e) λa=>aW a ((aw b).add 1) (aq f) λa=>aW a ((aw b).add 2) (aq g) λa=>aW a ((aw b).add 3) (aq j) λa=>aE=undef/\aF aB/\aQ .u64 (rd a ((aw b).add 0)) λc=>aQ .u64 (rd a ((aw b).add 1)) λd=>aQ .u64 (rd a ((aw b).add 2)) λe=>aQ .u64 (rd a ((aw b).add 3)) λb=>K (.tuple #[.agg #[aq c,aq d,aq e,aq b],aB]) a))) ((aE=undef/\aE=undef/\aW d ((aw b).add 0) (aq e) λa=>aW a ((aw b).add 1) (aq f) λa=>aW a ((aw b).add 2) (aq g) λa=>aW a ((aw b).add 3) (aq j) λa=>aE=undef/\aF aB/\aQ .u64 (rd a ((aw b).add 0)) λc=>aQ .u64 (rd a ((aw b).add 1)) λd=>aQ .u64 (rd a ((aw b).add 2)) λe=>aQ .u64 (rd a ((aw b).add 3)) λb=>K (.tuple #[.agg #[aq c,aq d,aq e,aq b],aB]) a)))))))):Cl 83 [au a,ap i,.slice x u v,al j] h K:=cT F83.T Tryz.func83 H
def F29.T:bj:=⟨[(4,[0,1,4,6,7,8]),(7,[0,1,4,7])],[]⟩
section
variable (n:Nat)(i:Addr)(l:Int)(a:Addr)(g:az)(b j:Nat)(f:az)(d c:Nat)(o:Int)(h:aH)(K:KK)
def F29.wk7:Prop:=Cl 83 [au i,ap l,.slice f d c,al 0] h λb c=> ∃d:Int,∃e:Int,∃f:Int,∃g:Int,∃i:Bool,b=(.tuple #[.agg #[aq d,aq e,aq f,aq g],aD i])/\aW c (a.add 0) (aq d) λb=>aW b (a.add 1) (aq e) λb=>aW b (a.add 2) (aq f) λb=>aW b (a.add 3) (aq g) λb=>aQ .u64 (rd b (a.add 0)) λc=>aQ .u64 (rd b (a.add 1)) λd=>aQ .u64 (rd b (a.add 2)) λe=>aQ .u64 (rd b (a.add 3)) λa=>K (.tuple #[.agg #[aq c,aq d,aq e,aq a],aD i]) b
def F29.wL4:Prop:=Lp Tryz.f29 F29.T [1,1,1,0,1,0] n [(0,(au i)),(1,(ap l)),(4,(au a)),(6,(.slice g b j)),(7,(.slice f d c)),(8,(al o))] h K
def F29.sL4:F29.wL4 (n+1) i l a g b j f d c o h K=(aK (o<(b:Int)) (bf g λe=>0<=o/\o<(b:Int)/\aQ .i64 (rd h (e.add (o.toNat*1))) λe=>Cl 33 [al e] h λe k=> ∃m:Int,∃p:Int,∃q:Int,∃r:Int,e=(.agg #[aq m,aq p,aq q,aq r])/\a9 k (.cells #[aq m,aq p,aq q,aq r] 51) λe k=>fB k 51 4 32 #[aq 0,aq 0,aq 0,aq 0] f d c (some (aw e)) 1 λc d e f=>F29.wL4 n i l a g b j c d e (ax (o+1)) f K) (F29.wk7 i l a f d c h K)):=by kernel_rfl
def F29.wk4:Prop:=(∃e,F29.wL4 e i l a g b j f d c o h K)
def F29.spec(H:a9 h (.cells #[aq 0,aq 0,aq 0,aq 0] 51) λa b=>Cl 47 [au i] b λb c=>ba (some b) λb=>Cl 48 [aA b] c λb c=>cv (some b) λb d e=>F29.wk4 i l (aw a) b d e none 0 0 0 c K):Cl 29 [au i,ap l] h K:=cT F29.T Tryz.func29 H
end
end
section
variable {i j k l m n o p q r s t:Int}{a b c d:Addr}{u v:Nat}{x y:az}{h:aH}{K:KK}
def F131.T:bj:=⟨[],[(1,[[(0,[]),(1,[]),(3,[]),(5,[]),(2,[3,5]),(4,[5]),(6,[]),(7,[]),(8,[])]])]⟩
def F131.spec(H:a9 h (.cells #[aq i,aq j,aq k,aq l] 51) λa b=>a9 b (.cells #[aq m,aq n,aq o,aq p] 51) λb c=>a9 c (.cells #[aq q,aq r,aq s,aq t] 51) λc d=>a9 d (.cells #[aq 0,aq 0,aq 0,aq 0] 51) λd e=>aQ .u64 (rd e ((aw a).add 0)) λf=>aQ .u64 (rd e ((aw a).add 1)) λg=>aQ .u64 (rd e ((aw a).add 2)) λi=>aQ .u64 (rd e ((aw a).add 3)) λj=>aQ .u64 (rd e ((aw b).add 0)) λk=>aQ .u64 (rd e ((aw b).add 1)) λl=>aQ .u64 (rd e ((aw b).add 2)) λm=>aQ .u64 (rd e ((aw b).add 3)) λb=>aQ .u64 (rd e ((aw a).add 0)) λn=>aQ .u64 (rd e ((aw a).add 1)) λo=>aQ .u64 (rd e ((aw a).add 2)) λp=>aQ .u64 (rd e ((aw a).add 3)) λq=>aQ .u64 (rd e ((aw c).add 0)) λr=>aQ .u64 (rd e ((aw c).add 1)) λs=>aQ .u64 (rd e ((aw c).add 2)) λt=>aQ .u64 (rd e ((aw c).add 3)) λu=>Cl 145 [.agg #[aq f,aq g,aq i,aq j],.agg #[aq k,aq l,aq m,aq b]] e λb e=> ∃f:Int,∃g:Int,∃i:Int,∃j:Int,b=(.agg #[aq f,aq g,aq i,aq j])/\aQ .u64 (rd e ((aw a).add 0)) λb=>aQ .u64 (rd e ((aw a).add 1)) λk=>aQ .u64 (rd e ((aw a).add 2)) λl=>aQ .u64 (rd e ((aw a).add 3)) λa=>aG (.agg #[aq b,aq k,aq l,aq a]) (.agg #[aq n,aq o,aq p,aq q])/\aQ .u64 (rd e ((aw c).add 0)) λa=>aQ .u64 (rd e ((aw c).add 1)) λb=>aQ .u64 (rd e ((aw c).add 2)) λk=>aQ .u64 (rd e ((aw c).add 3)) λl=>aG (.agg #[aq a,aq b,aq k,aq l]) (.agg #[aq r,aq s,aq t,aq u])/\Cl 86 [.agg #[aq n,aq o,aq p,aq q]] e λa b=> ∃e:Int,∃k:Int,∃l:Int,∃m:Int,a=(.agg #[aq e,aq k,aq l,aq m])/\aQ .u64 (rd b ((aw c).add 0)) λa=>aQ .u64 (rd b ((aw c).add 1)) λn=>aQ .u64 (rd b ((aw c).add 2)) λo=>aQ .u64 (rd b ((aw c).add 3)) λc=>aG (.agg #[aq a,aq n,aq o,aq c]) (.agg #[aq r,aq s,aq t,aq u])/\Cl 145 [.agg #[aq e,aq k,aq l,aq m],.agg #[aq r,aq s,aq t,aq u]] b λa b=> ∃c:Int,∃e:Int,∃k:Int,∃l:Int,a=(.agg #[aq c,aq e,aq k,aq l])/\Cl 146 [.agg #[aq f,aq g,aq i,aq j],.agg #[aq c,aq e,aq k,aq l]] b λa b=> ∃c:Int,∃e:Int,∃f:Int,∃g:Int,a=(.agg #[aq c,aq e,aq f,aq g])/\aW b ((aw d).add 0) (aq c) λa=>aW a ((aw d).add 1) (aq e) λa=>aW a ((aw d).add 2) (aq f) λa=>aW a ((aw d).add 3) (aq g) λa=>aQ .u64 (rd a ((aw d).add 0)) λb=>aQ .u64 (rd a ((aw d).add 1)) λc=>aQ .u64 (rd a ((aw d).add 2)) λe=>aQ .u64 (rd a ((aw d).add 3)) λd=>K (.agg #[aq b,aq c,aq e,aq d]) a):Cl 131 [.agg #[aq i,aq j,aq k,aq l],.agg #[aq m,aq n,aq o,aq p],.agg #[aq q,aq r,aq s,aq t]] h K:=cT F131.T Tryz.func131 H
def F145.T:bj:=⟨[(2,[2,3,4,5])],[(4,[[(0,[]),(1,[]),(2,[]),(3,[]),(4,[]),(5,[]),(6,[]),(7,[]),(8,[]),(9,[])]])]⟩
section
variable (n:Nat)(d f g i j l o q:Int)(c r b:Addr)(a:Int)(h:aH)(K:KK)
def F145.wL2:Prop:=Lp Tryz.f145 F145.T [1,0,1,0] n [(2,(au c)),(3,(au r)),(4,(au b)),(5,(al a))] h K
def F145.sL2:F145.wL2 (n+1) c r b a h K=(aK (a<4) ((0<=a/\a<4/\aQ .u64 (rd h (c.add (a.toNat*1))) λd=>0<=a/\a<4/\aQ .u64 (rd h (r.add (a.toNat*1))) λe=>0<=a/\a<4/\aW h ((c.add (a.toNat*1)).add 0) (aq (bB .and .u64 d e)) λd=>F145.wL2 n c r b (ax (a+1)) d K)) (aQ .u64 (rd h (c.add 0)) λa=>aQ .u64 (rd h (c.add 1)) λd=>aQ .u64 (rd h (c.add 2)) λe=>aQ .u64 (rd h (c.add 3)) λc=>aW h (b.add 0) (aq a) λa=>aW a (b.add 1) (aq d) λa=>aW a (b.add 2) (aq e) λa=>aW a (b.add 3) (aq c) λa=>aQ .u64 (rd a (b.add 0)) λc=>aQ .u64 (rd a (b.add 1)) λd=>aQ .u64 (rd a (b.add 2)) λe=>aQ .u64 (rd a (b.add 3)) λb=>K (.agg #[aq c,aq d,aq e,aq b]) a)):=by kernel_rfl
def F145.wk2:Prop:=(∃d,F145.wL2 d c r b a h K)
def F145.spec(H:a9 h (.cells #[aq d,aq f,aq g,aq i] 51) λa b=>a9 b (.cells #[aq j,aq l,aq o,aq q] 51) λb c=>a9 c (.cells #[aq 0,aq 0,aq 0,aq 0] 51) λc d=>F145.wk2 (aw a) (aw b) (aw c) 0 d K):Cl 145 [.agg #[aq d,aq f,aq g,aq i],.agg #[aq j,aq l,aq o,aq q]] h K:=cT F145.T Tryz.func145 H
end
def F86.T:bj:=⟨[(2,[1,2,3])],[]⟩
section
variable (n:Nat)(d f g i:Int)(c a:Addr)(b:Int)(h:aH)(K:KK)
def F86.wL2:Prop:=Lp Tryz.f86 F86.T [1,0,1,0] n [(1,(au c)),(2,(au a)),(3,(al b))] h K
def F86.sL2:F86.wL2 (n+1) c a b h K=(aK (b<4) ((0<=b/\b<4/\aQ .u64 (rd h (c.add (b.toNat*1))) λd=>0<=b/\b<4/\aW h ((c.add (b.toNat*1)).add 0) (aq (bB .xor .u64 (if IntKind.signed .u64 then-1 else IntKind.max .u64) d)) λd=>F86.wL2 n c a (ax (b+1)) d K)) (aQ .u64 (rd h (c.add 0)) λb=>aQ .u64 (rd h (c.add 1)) λd=>aQ .u64 (rd h (c.add 2)) λe=>aQ .u64 (rd h (c.add 3)) λc=>aW h (a.add 0) (aq b) λb=>aW b (a.add 1) (aq d) λb=>aW b (a.add 2) (aq e) λb=>aW b (a.add 3) (aq c) λb=>aQ .u64 (rd b (a.add 0)) λc=>aQ .u64 (rd b (a.add 1)) λd=>aQ .u64 (rd b (a.add 2)) λe=>aQ .u64 (rd b (a.add 3)) λa=>K (.agg #[aq c,aq d,aq e,aq a]) b)):=by kernel_rfl
def F86.wk2:Prop:=(∃d,F86.wL2 d c a b h K)
def F86.spec(H:a9 h (.cells #[aq d,aq f,aq g,aq i] 51) λa b=>a9 b (.cells #[aq 0,aq 0,aq 0,aq 0] 51) λb c=>F86.wk2 (aw a) (aw b) 0 c K):Cl 86 [.agg #[aq d,aq f,aq g,aq i]] h K:=cT F86.T Tryz.func86 H
end
end
section
def pK(f g:Nat->Nat)(i j:Nat):Nat:=if j<i then f j&&&g j else f j
def oz(f:Nat->Nat)(i j:Nat):Nat:=if j<i then(fP-1)^^^f j else f j
def Dr{f g:Nat->Nat}(hf:iA f)(_hg:iA g)(i:Nat):iA (pK f g i):=λj hj=>by
 unfold pK;split
 ·exact Nat.lt_of_le_of_lt Nat.and_le_left (hf j hj)
 ·exact hf j hj
def CU(f g:Nat->Nat){y:Nat}(hy:y<256):fb (pK f g 4) y=(fb f y&&fb g y):=by unfold fb pK;rw[if_pos ah,Nat.testBit_and]
def BF{k:Nat}(hk:k<64):(fP-1).testBit k=true:=by rw[show fP-1=2^64-1 from rfl,Nat.testBit_two_pow_sub_one];simp[hk]
def Cz{f:Nat->Nat}(hf:iA f)(i:Nat):iA (oz f i):=λj hj=>by
 unfold oz;split
 ·have:=hf j hj;rw[show fP=2^64 from rfl]at this ⊢;exact Nat.xor_lt_two_pow (by decide) this
 ·exact hf j hj
def BO{f:Nat->Nat}(_hf:iA f){y:Nat}(hy:y<256):fb (oz f 4) y= !fb f y:=by unfold fb oz;rw[if_pos ah,Nat.testBit_xor,BF ah];simp
def FT{a b:Nat}(ha:a<fP)(hb:b<fP):bB .xor .u64 (a:Int) (b:Int)=((a^^^b:Nat):Int):=by
 unfold bB;show IntKind.wrap .u64 ((BitVec.ofInt 64 (a:Int)^^^BitVec.ofInt 64 (b:Int)).toNat:Int)=_
 have e: ∀{a:Nat},a<fP->(BitVec.ofInt 64 (a:Int)).toNat=a:=λ{a} h=>by rw[BitVec.toNat_ofInt];unfold fP at h;omega
 rw[BitVec.toNat_xor,e ha,e hb];exact mW (by rw[show fP=2^64 from rfl]at ha hb ⊢;exact Nat.xor_lt_two_pow ha hb)
set_option maxRecDepth 100000 in
def AV{h:aH}{f g:Nat->Nat}{K:KK}(hf:iA f)(hg:iA g)(hK: ∀h' k,iA k->(∀y,y<256->fb k y=(fb f y&&fb g y))->aM [] h h'->K (iK k) h'):Cl 145 [iK f,iK g] h K:=by
 refine F145.spec _ _ _ _ _ _ _ _ h K ?_;refine aV λh1 A1 O1 z1=>aV λh2 A2 O2 z2=>aV λh3 A3 O3 z3=> ?_
 replace A1:At h1 h.size (cQ f):=A1
 replace A2:At h2 h1.size (cQ g):=A2
 replace A3:At h3 h2.size (cQ λ_=>0):=A3
 have B1:=(A1.only O2 ak).only O3 ak;have B2:=A2.only O3 ak;have O13:aM [] h h3:=(O1.trans O2 ak).trans O3 ak;unfold F145.wk2
 have main: ∀(d i:Nat) (h':aH),i+d=4->At h' h.size (cQ (pK f g i))->At h' h1.size (cQ g)->At h' h2.size (cQ λ_=>0)->aM [] h h'->
   F145.wL2 (d+1) (aw h.size) (aw h1.size) (aw h2.size) i h' K:=by
  intro d
  induction d with
  |zero=>
   intro i h' hd A B C O;rw[F145.sL2];rw[show decide ((i:Int)<4)=false by simp;omega,aJ];have hi:i=4:=ah;subst hi;exact qk A C ah λh'' O''=>hK h'' _ (Dr hf hg 4) (λy hy=>CU f g hy) (O.trans O'' (by intro b hb hlt;simp at hb;omega))
  |succ d ih=>
   intro i h' hd A B C O;rw[F145.sL2];have hi:i<4:=ah;rw[show decide ((i:Int)<4)=true by simp;omega,aO,show ax ((i:Int)+1)=((i+1:Nat):Int) by rw[wrap_i64 ah ah];omega];refine⟨ah,ah,?_⟩;rw[aL,aL,show 0+Int.toNat (i:Int)*1=i by omega,eW A hi,bC];refine⟨ah,ah,?_⟩;rw[eW B hi,bC];refine⟨ah,ah,?_⟩;have e0:pK f g i i=f i:=if_neg ah;rw[aL,Nat.add_zero,e0,Ig (hf i hi) (hg i hi)];refine iS A hi λh'' A'' O''=>ih (i+1) h'' ah ?_ (B.only O'' (by simp;omega)) (C.only O'' (by simp;omega)) (O.trans O'' (by intro b hb hlt;simp at hb;omega))
   have e:(λj=>if j=i then f i&&&g i else pK f g i j)=pK f g (i+1):=by
    funext j;unfold pK;by_cases hj:j=i
    ·subst hj;rw[if_pos rfl,if_pos ah]
    ·rw[if_neg hj];by_cases hl:j<i
     ·rw[if_pos hl,if_pos ah]
     ·rw[if_neg hl,if_neg ah]
   rw[e]at A'';exact A''
 have e0:pK f g 0=f:=by funext j;unfold pK;rw[if_neg ah]
 exact⟨_,main 4 0 h3 ah (by rw[e0];exact B1) B2 A3 O13⟩
set_option maxRecDepth 100000 in
def D7{h:aH}{f:Nat->Nat}{K:KK}(hf:iA f)(hK: ∀h' k,iA k->(∀y,y<256->fb k y= !fb f y)->aM [] h h'->K (iK k) h'):Cl 86 [iK f] h K:=by
 refine F86.spec _ _ _ _ h K ?_;refine aV λh1 A1 O1 z1=>aV λh2 A2 O2 z2=> ?_
 replace A1:At h1 h.size (cQ f):=A1
 replace A2:At h2 h1.size (cQ λ_=>0):=A2
 have B1:=A1.only O2 ak;have O12:aM [] h h2:=O1.trans O2 ak;unfold F86.wk2
 have main: ∀(d i:Nat) (h':aH),i+d=4->At h' h.size (cQ (oz f i))->At h' h1.size (cQ λ_=>0)->aM [] h h'->
   F86.wL2 (d+1) (aw h.size) (aw h1.size) i h' K:=by
  intro d
  induction d with
  |zero=>
   intro i h' hd A C O;rw[F86.sL2];rw[show decide ((i:Int)<4)=false by simp;omega,aJ];have hi:i=4:=ah;subst hi;exact qk A C ah λh'' O''=>hK h'' _ (Cz hf 4) (λy hy=>BO hf hy) (O.trans O'' (by intro b hb hlt;simp at hb;omega))
  |succ d ih=>
   intro i h' hd A C O;rw[F86.sL2];have hi:i<4:=ah;rw[show decide ((i:Int)<4)=true by simp;omega,aO,show ax ((i:Int)+1)=((i+1:Nat):Int) by rw[wrap_i64 ah ah];omega];refine⟨ah,ah,?_⟩;rw[aL,show 0+Int.toNat (i:Int)*1=i by omega,eW A hi,bC];refine⟨ah,ah,?_⟩;have e0:oz f i i=f i:=if_neg ah;rw[aL,Nat.add_zero,e0,show(if IntKind.signed .u64 then(-1:Int)else IntKind.max .u64)=((fP-1:Nat):Int)from rfl,FT (by unfold fP;omega) (hf i hi)];refine iS A hi λh'' A'' O''=>ih (i+1) h'' ah ?_ (C.only O'' (by simp;omega)) (O.trans O'' (by intro b hb hlt;simp at hb;omega))
   have e:(λj=>if j=i then(fP-1)^^^f i else oz f i j)=oz f (i+1):=by
    funext j;unfold oz;by_cases hj:j=i
    ·subst hj;rw[if_pos rfl,if_pos ah]
    ·rw[if_neg hj];by_cases hl:j<i
     ·rw[if_pos hl,if_pos ah]
     ·rw[if_neg hl,if_neg ah]
   rw[e]at A'';exact A''
 have e0:oz f 0=f:=by funext j;unfold oz;rw[if_neg ah]
 exact⟨_,main 4 0 h2 ah (by rw[e0];exact B1) A2 O12⟩
set_option maxRecDepth 100000 in
def Ey{h:aH}{f g k:Nat->Nat}{K:KK}(hf:iA f)(hg:iA g)(hk:iA k)(hK: ∀h' r,iA r->(∀y,y<256->fb r y=if fb f y then fb g y else fb k y)->aM [] h h'->K (iK r) h'):Cl 131 [iK f,iK g,iK k] h K:=by
 refine F131.spec ?_;refine aV λh1 A1 O1 z1=>aV λh2 A2 O2 z2=>aV λh3 A3 O3 z3=>aV λh4 A4 O4 z4=> ?_
 replace A1:At h1 h.size (cQ f):=A1
 replace A2:At h2 h1.size (cQ g):=A2
 replace A3:At h3 h2.size (cQ k):=A3
 replace A4:At h4 h3.size (cQ λ_=>0):=A4
 have B1:=((A1.only O2 ak).only O3 ak).only O4 ak;have B2:=(A2.only O3 ak).only O4 ak;have B3:=A3.only O4 ak;have O14:aM [] h h4:=((O1.trans O2 ak).trans O3 ak).trans O4 ak;refine uw B1 (uw B2 (uw B1 (uw B3 ?_)));refine AV hf hg λh5 u hu eu O5=>⟨_,_,_,_,rfl,?_⟩;refine uw (B1.only O5 ak) ⟨rfl,?_⟩;have C3:=B3.only O5 ak;refine uw C3 ⟨rfl,?_⟩;refine D7 hf λh6 v hv ev O6=>⟨_,_,_,_,rfl,?_⟩;refine uw (C3.only O6 ak) ⟨rfl,?_⟩;refine AV hv hk λh7 w hw ew O7=>⟨_,_,_,_,rfl,?_⟩;refine ID hu hw λh8 r hr er O8=>⟨_,_,_,_,rfl,?_⟩;have O58:aM [] h4 h8:=((O5.trans O6 ak).trans O7 ak).trans O8 ak;refine iG (A4.only O58 ak) λh9 A9 O9=> ?_;refine uw A9 (hK h9 r hr (λy hy=> ?_) ((O14.trans O58 ak).trans O9 (by intro b hb hl;simp at hb;omega)));rw[er y hy,eu y hy,ew y hy,ev y hy];cases fb f y<;>simp
end
section
structure HU(h:aH)(b n:Nat)(f:Nat->Nat)(gs:Nat->Nat->Nat):Prop where
 rd: ∀k i,k<n->i<4->Ev.rd h ⟨b,k*4+i,none⟩=some (aq (gs k i:Int))
 ok: ∀k,k<n->iA (gs k)
 fb: ∀k,k<n-> ∀y,y<256->Ev.fb (gs k) y=y.testBit (f k)
def HU.only{h h':aH}{b n:Nat}{f:Nat->Nat}{gs:Nat->Nat->Nat}(H:HU h b n f gs)(O:aM [] h h'):HU h' b n f gs:=
 ⟨λk i hk hi=>wz (H.rd k i hk hi) O ak,H.ok,H.fb⟩
def GD:iA λ_=>0:=λi _=>by show 0<fP;unfold fP;omega
section
variable {h:aH}{s a:Nat}{L:List Nat}{X:SX}{K:KK}
def sR{a:Nat}:((a:Int)==(0:Int))=decide (a=0):=by
 by_cases h:a=0
 ·subst h;rfl
 ·rw[decide_eq_false h];simp[h]
def tQ{a:Nat}:((a:Int)==(1:Int))=decide (a=1):=by
 by_cases h:a=1
 ·subst h;rfl
 ·rw[decide_eq_false h];simp;omega
set_option maxRecDepth 100000 in
def Fo{b vc:Nat}{gs:Nat->Nat->Nat}: ∀(d:Nat) {h:aH} {a deep:Nat} {K:KK},X.n-lvl X.n X.N a<=d->cI h s L X->HU h b X.n X.f gs->isN X.N a->deep<=lvl X.n X.N a->
  (∀h' g,iA g->(∀y,y<256->fb g y=sm X.n X.f X.N a y)->aM [] h h'->K (.tuple #[iK g,aC]) h')->
  Cl 83 [au (aw s),ap (a:Int),.slice (some (aw b)) X.n vc,al (deep:Int)] h K:=by
 intro d
 have const: ∀{h:aH} {a deep:Nat} {K:KK},a<2->
   (∀h' g,iA g->(∀y,y<256->fb g y=sm X.n X.f X.N a y)->aM [] h h'->K (.tuple #[iK g,aC]) h')->
   Cl 83 [au (aw s),ap (a:Int),.slice (some (aw b)) X.n vc,al (deep:Int)] h K:=by
  intro h a deep K hlt2 hK;refine F83.spec ?_;refine aV λh1 A1 O1 z1=> ?_
  replace A1:At h1 h.size (cQ λ_=>0):=A1
  rw[sR,tQ];refine aT (λe=> ?_) λe=> ?_
  ·have e:=of_decide_eq_true e;refine iG (g:=λ_=>0) A1 λh2 A2 O2=>uw A2 (hK h2 (λ_=>0) GD (λy _=> ?_) (O1.trans O2 (by intro b hb hl;simp at hb;omega)));rw[br hlt2,e];unfold fb;simp
  ·have e:=of_decide_eq_false e;rw[decide_eq_true (show a=1 by omega),aO];refine D7 (f:=λ_=>0) GD λh2 g hg eg O2=>⟨_,_,_,_,rfl,?_⟩;refine iG (A1.only O2 ak) λh3 A3 O3=>uw A3 (hK h3 g hg (λy hy=> ?_) ((O1.trans O2 ak).trans O3 (by intro b hb hl;simp at hb;have:=O2.size;omega)));rw[br hlt2,eg y hy,show a=1 by omega];unfold fb;simp
 induction d with
 |zero=>
  intro h a deep K hd H V ha hdp hK;refine const ?_ hK;apply Classical.byContradiction;intro hn;have:=(H.ok.1.at ha ah).1;omega
 |succ d ih=>
  intro h a deep K hd H V ha hdp hK;by_cases h2:a<2
  ·exact const h2 hK
  have ok:=H.ok;obtain⟨h3,h4,h5,-,h6,h7⟩:=ok.1.at ha ah;have hn8:=ok.2.2.1;refine F83.spec ?_;refine aV λh1 A1 O1 z1=> ?_
  replace A1:At h1 h.size (cQ λ_=>0):=A1
  rw[sR,tQ,decide_eq_false ah,aJ,decide_eq_false ah,aJ];have H1:=H.only0 O1;refine dy H1 ha (aI rfl (fk H1 ha (aY rfl ?_)));rw[Bool.not_true,aJ,decide_eq_false ah,aJ,decide_eq_false ah,aJ];have ew:ax ((lvl X.n X.N a:Int)+1)=((lvl X.n X.N a+1:Nat):Int):=by rw[wrap_i64 ah ah];omega
  rw[ew];refine iB H1 ha (aI rfl ?_);refine ih ah H1 (V.only O1) h4 ah λh2 g0 hg0 eg0 O2=>⟨_,_,_,_,_,rfl,?_⟩;have H2:=H1.only0 O2;refine aV λh3' A3 O3 z3=> ?_
  replace A3:At h3' h2.size (cQ λ_=>0):=A3
  refine iG A3 λh4' A4 O4=> ?_;have O24:aM [] h2 h4':=O3.trans O4 (by intro b hb hl;simp at hb;omega);have H4:=H2.only0 O24;refine gp H4 ha (aI rfl ?_);have O04:aM [] h h4':=(O1.trans O2 ak).trans O24 ak;refine ih ah H4 (V.only O04) h5 ah λh5' g1 hg1 eg1 O5=>⟨_,_,_,_,_,rfl,?_⟩;refine aV λh6' A6 O6 z6=> ?_
  replace A6:At h6' h5'.size (cQ λ_=>0):=A6
  refine iG A6 λh7' A7 O7=> ?_;have O57:aM [] h5' h7':=O6.trans O7 (by intro b hb hl;simp at hb;omega);have O47:aM [] h4' h7':=O5.trans O57 ak;have O07:aM [] h h7':=O04.trans O47 ak;have V7:=V.only O07;have B4:=A4.only O47 ak;rw[aU];refine⟨ah,ah,?_⟩
  have rr: ∀i,i<4->rd h7' (Addr.add (Addr.add (aw b) (Int.toNat (lvl X.n X.N a:Int)*4)) i)=some (aq (gs (lvl X.n X.N a) i:Int)):=λi hi=>by rw[aL,aL,Int.toNat_natCast,Nat.zero_add];exact V7.rd _ i h3 hi
  refine aI (rr 0 ah) (aI (rr 1 ah) (aI (rr 2 ah) (aI (rr 3 ah) ?_)));refine uw A7 (uw B4 ?_);obtain⟨-,-,-,hne,-,-⟩:=ok.1.at ha ah;refine Ey (V.ok _ h3) hg1 hg0 λh8 r hr er O8=>⟨_,_,_,_,rfl,by trivial,?_⟩;have O08:aM [] h h8:=O07.trans O8 ak
  have fin: ∀y,y<256->fb r y=sm X.n X.f X.N a y:=λy hy=>by rw[er y hy,V.fb _ h3 y hy,eg1 y hy,eg0 y hy,cS ok.1 ha ah]
  have A8:=(A1.only ((O2.trans O24 ak).trans O47 ak) ak).only O8 ak;have H8:=H.only0 O08;rw[aO,aO];refine iB H8 ha (aI rfl ⟨by trivial,by trivial,gp H8 ha (aI rfl ?_)⟩);have hb:((low X.N a:Int) !=(high X.N a:Int))=true:=by simp;omega
  rw[hb];refine iG A8 λh9 A9 O9=>⟨by trivial,by trivial,uw A9 (hK h9 r hr fin (O08.trans O9 (by intro b hb hl;simp at hb;omega)))⟩
def func29(hf: ∀j,j<X.n->X.f j<8)(H:cI h s L X)(ha:isN X.N a)(hK: ∀h' g,iA g->(∀y,y<256->fb g y=sm X.n X.f X.N a y)->aM [] h h'->K (.tuple #[iK g,aC]) h'):
  Cl 29 [au (aw s),ap (a:Int)] h K:=by
 have ok:=H.ok;refine F29.spec _ _ h K ?_;refine aV λh1 A1 O1 z1=> ?_
 replace A1:At h1 h.size (cQ λ_=>0):=A1
 have H1:=H.only0 O1;refine ic H1 λc h2 C2 g2 O2=>aR rfl ?_;refine CC C2 ok.2.2.1 λx h3 V3 g3 O3=>bo rfl ?_;have O13:aM [] h1 h3:=O2.trans O3 ak;unfold F29.wk4;have z13:=O13.size
 have main: ∀(d i:Nat) (h':aH) (p:az) (cap:Nat) (gs:Nat->Nat->Nat),i+d=X.n->At h' x (Gt X.n X.f)->At h' h.size (cQ λ_=>0)->aM [] h h'->h3.size<=h'.size->(∀k,k<i->iA (gs k))->(∀k,k<i-> ∀y,y<256->fb (gs k) y=y.testBit (X.f k))->
   cj h' h3.size 4 p i cap (co (i*4) λj=>aq (gs (j/4) (j%4):Int))->
   F29.wL4 (d+1) (aw s) (a:Int) (aw h.size) (some (aw x)) X.n X.n p i cap (i:Int) h' K:=by
  intro d
  induction d with
  |zero=>
   intro i h' p cap gs hi V A O hz ok1 ok2 W;have e:i=X.n:=ah;subst e;rw[F29.sL4];rw[decide_eq_false ah,aJ];unfold F29.wk7;have n1:=ok.2.1
   have hb: ∃b,p=some (aw b):=by obtain⟨b,e,-⟩:=W.rd (j:=0) (by rw[bJ];omega);exact⟨b,e⟩
   obtain⟨b,rfl⟩:=hb
   have VV:HU h' b X.n X.f gs:=⟨λk i hk hi=>by obtain⟨b',e,r⟩:=W.rd (j:=k*4+i) (by rw[bJ];omega);injection e with e;injection e with e;subst e;rw[r,cF ah,show(k*4+i)/4=k by omega,show(k*4+i)%4=i by omega],ok1,ok2⟩
   have la:0<=lvl X.n X.N a:=Nat.zero_le _;refine Fo (deep:=0) X.n ah (H.only0 O) VV ha ah λh5 g hg eg O5=>⟨_,_,_,_,_,rfl,?_⟩;refine iG (A.only O5 ak) λh6 A6 O6=>uw A6 (hK h6 g hg eg ((O.trans O5 ak).trans O6 (by intro b hb hl;simp at hb;omega)))
  |succ d ih=>
   intro i h' p cap gs hi V A O hz ok1 ok2 W;rw[F29.sL4];rw[decide_eq_true ah,aO,aU];refine⟨ah,ah,?_⟩;have hin:i<X.n:=ah;rw[aL,Int.toNat_natCast,Nat.zero_add,Nat.mul_one]
   have rv:rd h' ⟨x,i,none⟩=some (al (X.f i:Int)):=by rw[At.rd V];simp[Gt,hin]
   refine aI rv (Ec λh4 g hg eg O4=>⟨_,_,_,_,rfl,?_⟩);refine aV λh5 A5 O5 z5=> ?_;have O45:aM [] h' h5:=O4.trans O5 ak;have W5:=W.only O45 ak;have z45:=O45.size;refine fT W5 A5 rfl rfl ah (by simp[Value.oneCell']) ah λp' c' h6 W6 O6 g6=> ?_;have ew:ax ((i:Int)+1)=((i+1:Nat):Int):=by rw[wrap_i64 ah ah];omega
   rw[ew];have zO: ∀b∈aX p,h3.size<=b:=λb hb=>(W.lt b hb).1;have xl:x<h3.size:=V3.lt;have hl:h.size<h3.size:=ah;refine ih (i+1) h6 p' c' (λk=>if k=i then g else gs k) ah ((V.only O45 ak).only O6 λhm=>by have:=zO _ hm;omega) ((A.only O45 ak).only O6 λhm=>by have:=zO _ hm;omega) ((O.trans O45 ak).trans O6 λb hb hlt=>by have:=zO b hb;omega) (by have:=O6.size;omega) (λk hk=> ?_) (λk hk y hy=> ?_) ?_
   ·by_cases e:k=i
    ·simp only[e,if_true];exact hg
    ·simp only[if_neg e];exact ok1 k ah
   ·by_cases e:k=i
    ·subst e;simp only[if_true];rw[eg y hy];have:=hf k hin;rw[decide_eq_true (show(0:Int)<=(X.f k:Int)/\(X.f k:Int)<8 by omega),Bool.true_and,Int.toNat_natCast]
    ·simp only[if_neg e];exact ok2 k ah y hy
   ·have e:(co ((i+1)*4) λj=>aq (((λk=>if k=i then g else gs k) (j/4) (j%4):Nat):Int))=(co (i*4) λj=>aq (gs (j/4) (j%4):Int))++[aq (g 0:Int),aq (g 1:Int),aq (g 2:Int),aq (g 3:Int)]:=by
     rw[show(i+1)*4=i*4+1+1+1+1 by omega,jI,jI,jI,jI];have e1: ∀c,c<4->(i*4+c)/4=i/\(i*4+c)%4=c:=λc hc=>ah
     have q:(co (i*4) λj=>aq (((λk=>if k=i then g else gs k) (j/4) (j%4):Nat):Int))=co (i*4) λj=>aq (gs (j/4) (j%4):Int):=dR λj hj=>by have:j/4≠i:=ah;simp only[if_neg this]
     rw[q];have f0:=e1 0 ah;have f1:=e1 1 ah;have f2:=e1 2 ah;have f3:=e1 3 ah;rw[Nat.add_zero]at f0;simp only[show i*4+1+1=i*4+2 by omega,show i*4+2+1=i*4+3 by omega,f0.1,f0.2,f1.1,f1.2,f2.1,f2.2,f3.1,f3.2,if_true,List.append_assoc,List.cons_append,List.nil_append]
    rw[e];exact W6
 exact⟨_,main X.n 0 h3 none 0 (λ_ _=>0) ah V3 (A1.only O13 ak) (O1.trans O13 ak) (Nat.le_refl _) (λk hk=>ah) (λk hk=>ah) (cj.nil _ _ _)⟩
def HM(hf: ∀j,j<X.n->X.f j<8)(H:cI h s L X)(ha:isN X.N a){c:Nat->Nat}(hc:iA c)(hcs: ∀y,y<256->sm X.n X.f X.N a y=fb c y)(hK: ∀h',aM [] h h'->K aC h'):
  Cl 58 [au (aw s),ap (a:Int),iK c] h K:=by
 refine F58.spec ?_;refine aV λh1 A1 O1 z1=> ?_
 replace A1:At h1 h.size (cQ c):=A1
 refine func29 hf (H.only0 O1) ha λh2 g hg eg O2=>⟨_,_,_,_,_,rfl,?_⟩;refine aV λh3 A3 O3 z3=> ?_
 replace A3:At h3 h2.size (cQ λ_=>0):=A3
 refine iG A3 λh4 A4 O4=> ?_;rw[aO];have z12:=O2.size;have B4:=((A1.only O2 ak).only O3 ak).only O4 (by simp;omega);refine uw A4 (uw B4 ?_);rw[(Jl hg hc).2 λy hy=>by rw[eg y hy,hcs y hy]];exact hK h4 (((O1.trans O2 ak).trans O3 ak).trans O4 (by intro b hb hl;simp at hb;omega))
end
end
section
def dJ(n:Nat)(fo gg:Nat->Nat):Prop:=(∀v,v<n->gg v<n/\fo (gg v)=v)/\ ∀l,l<n->fo l<n/\gg (fo l)=l
def xZ(n:Nat):dJ n (fill n) (fill n):=by
 refine⟨λv hv=> ?_,λv hv=> ?_⟩<;>
 ·have:fill n v=v:=if_pos hv;rw[this,this];exact⟨hv,rfl⟩
structure EG where
 E:fV
 n:Nat
 room:Nat
 fo:Nat->Nat
 gg:Nat->Nat
 off:Bool
 N:ay
 P:PS
 L:List Nat
 B:List Nat
 M:Nat
 f:Int->Int
structure cg(h:aH)(e:Nat)(G:EG):Prop where
 W:xy h G.E.p G.E.s G.n G.room G.fo G.gg G.off G.N G.P G.L
 R:qH h G.E.r G.M G.f G.B
 I:dj h e G.E
 C:kP G.f G.E
 de:e∉G.L/\(¬dx G.E.p G.P e)/\e∉G.B
 dB: ∀b∈G.B,b∉G.L/\ ¬dx G.E.p G.P b
 rg: ∀i,i<4-> ∀r,r<6->(G.E.ses i).there r=true->isN G.N ((G.E.ses i).hnd r)
 r0: ∀i,i<4-> ∀r,r<6->(G.E.ses i).there r=false->(G.E.ses i).hnd r=0
 mq: ∀i,i<4->(G.E.ses i).cal.mask<256
 po:dJ G.n G.fo G.gg
def iD(e:Nat)(G:EG):List Nat:=e::(G.L++(G.B++Eo G.E.p G.P))
structure bg(e:Nat)(G:EG)(h:aH)(G':EG)(h':aH):Prop where
 O: ∀T,(∀b∈iD e G,b∈T)->aM T h h'
 B: ∀b∈iD e G',b∈iD e G\/h.size<=b
section
variable {h h' h'':aH}{e:Nat}{G G' G'':EG}{K:KK}
def bi{b:Nat}:b∈iD e G↔b=e\/b∈G.L\/b∈G.B\/dx G.E.p G.P b:=by simp only[iD,List.mem_cons,List.mem_append,fR]
def bg.refl:bg e G h G h:=⟨λT _=>aM.refl _ _,λb hb=> .inl hb⟩
def bg.size(a:bg e G h G' h'):h.size<=h'.size:=(a.O (iD e G) λb hb=>hb).size
def bg.trans(a:bg e G h G' h')(b:bg e G' h' G'' h''):bg e G h G'' h'':=by
 have hz:=a.size;refine⟨λT hT=>(a.O T hT).trans (b.O (iD e G') λx hx=>hx) λx hx hl=> ?_,λx hx=> ?_⟩
 ·rcases a.B x hx with h|h
  ·exact hT x h
  ·omega
 ·rcases b.B x hx with h|h
  ·exact a.B x h
  ·exact .inr ah
def bg.only0(O:aM [] h h'):bg e G h G h':=⟨λT _=>O.mono ak,λb hb=> .inl hb⟩
def bg.only{h0:aH}(a:bg e G h G' h')(O:aM [] h0 h)(hb: ∀b∈iD e G,h0.size<=b):aM [] h0 h':=
 O.trans (a.O (iD e G) λb hb=>hb) λb hb' hl=>by have:=hb b hb';omega
def bg.ge{z:Nat}(a:bg e G h G' h')(hz:z<=h.size)(hb: ∀b∈iD e G,z<=b): ∀b∈iD e G',z<=b:=λb hb'=>by
 rcases a.B b hb' with h|h
 ·exact hb b h
 ·omega
def bg.some{S:List Nat}(O:aM S h h')(hS: ∀b∈S,b∈iD e G)(hb: ∀b∈iD e G',b∈iD e G):bg e G h G' h':=⟨λ_ hT=>O.mono λb hb _=>hT b (hS b hb),λb h=> .inl (hb b h)⟩
def cg.only0(W:cg h e G)(O:aM [] h h'):cg h' e G:=⟨W.W.only0 O,W.R.only0 O,W.I.only0 O,W.C,W.de,W.dB,W.rg,W.r0,W.mq,W.po⟩
def cg.lt(W:cg h e G): ∀b∈iD e G,b<h.size:=λb hb=>by
 rcases bi.1 hb with hb|hb|hb|hb
 ·subst hb;exact At.lt W.I
 ·exact W.W.S.lt b hb
 ·exact W.R.lt b hb
 ·exact W.W.H.lt b hb
def xy.only{p s n room:Nat}{fo gg:Nat->Nat}{off:Bool}{N:ay}{P:PS}{L S:List Nat}(W:xy h p s n room fo gg off N P L)(O:aM S h h')(h1: ∀b∈S,b∉L)(h2: ∀b∈S,¬dx p P b):xy h' p s n room fo gg off N P L:=
 ⟨W.S.only O h1,W.H.only O h2,W.Ok,W.GO,W.D⟩
def bQ.ext{n:Nat}{fo:Nat->Nat}{N N':ay}{P:PS}(H:bQ n fo N P)(GO:dT N P)(ok:dz n N)(E:Ex N N'):bQ n fo N' P/\phi n N' P=phi n N P/\psi n N' P+be N=psi n N P+be N':=by
 have em: ∀j∈P.jobs,fy n N' j.A.fs=fy n N j.A.fs:=λj hj=>nX E (H.mst j hj).1.frs;have en: ∀j∈P.jobs,gK n N' j.A.fs=gK n N j.A.fs:=λj hj=>nQ E (H.mst j hj).1.frs;refine⟨⟨λj hj=>⟨(H.mst j hj).1.ext (GO j hj) ok E,by rw[em j hj];exact(H.mst j hj).2⟩,H.at_,H.one,H.loc,H.T,H.len,H.last,H.steals⟩,?_,?_⟩
 ·unfold phi;rw[List.map_congr_left em]
 ·unfold psi;rw[List.map_congr_left en];omega
def yb{N N':ay}{P:PS}(GO:dT N P)(E:Ex N N'):dT N' P:=λj hj=>⟨E.isN (GO j hj).1,E.isN (GO j hj).2.1,E.isN (GO j hj).2.2⟩
def mN{b n v:Nat}{f g:Nat->Nat}(H:cx h b n f g)(hn:n<=8)(hv:v<n)(hK:K (al (g v:Int)) h):Cl 186 [au (aw b),al (v:Int)] h K:=by refine F186.spec ?_;rw[decide_eq_false ah,aJ];simp only[aL,Nat.zero_add];refine aI H.rd0 ?_;rw[decide_eq_false ah,aJ];exact⟨ah,ah,aI (by rw[show 9+Int.toNat (v:Int)*1=9+v by omega];exact H.rdl ah) hK⟩
def oV{s:Nat}{L:List Nat}{X:SX}(H:cI h s L X)(hK:K (al (X.room:Int)) h):Cl 70 [bh s] h K:=by obtain⟨B,F,e,H⟩:=H;refine F70.spec ?_;exact aI (by rw[aL,At.rd H.m.S];rfl) hK
def CB{s v:Nat}{L:List Nat}{X:SX}(H:cI h s L X)(hv:v<X.n)(hg:X.g v<X.n)
  (hK: ∀h' L' N' r er,jr X.room X.N (X.g v) 0 1 N' r er->cI h' s L' {X with N:=N'}->aM L h h'->bH L L' h->K (.tuple #[ap (r:Int),al (er:Int)]) h'):
  Cl 208 [bh s,al (v:Int)] h K:=by
 have ok:=H.ok;refine F208.spec ?_;refine ic H λc h1 Or g1 O1=>aR rfl ?_;refine mN Or ok.2.2.1 hv (aI rfl ?_);have H1:=H.only0 O1;have e0:lvl X.n X.N 0=X.n:=by unfold lvl;rw[if_pos ah]
 have e1:lvl X.n X.N 1=X.n:=by unfold lvl;rw[if_pos ah]
 refine yD H1 (l:=X.g v) (a:=0) (b:=1) hg (.inl ah) (.inl ah) (by rw[e0];exact hg) (by rw[e1];exact hg) λh2 L2 N2 r er R S2 O2 F2=>⟨_,_,rfl,?_⟩
 exact hK h2 L2 N2 r er R S2 ((O1.mono ak).trans O2 λb hb _=>hb) λb hb=>by
  rcases F2 b hb with q|q
  ·exact .inl q
  ·exact .inr (by have:=O1.size;omega)
def DX{n room:Nat}{x:Int}(h1:1<=n)(h8:n<=8)(r1:1<=room)(r2:room<=32768)
  (hK: ∀h' e G,cg h' e G->G.E.ses=(pC 0 0 0).ses->G.E.ans=0->G.n=n->G.room=room->G.fo=fill n->G.gg=fill n->G.off=false->G.N=[]->G.P.jobs=[]->G.P.ws.length=Bt x->locs G.P.ws=[]->G.P.last=0->G.M=0->(∀b∈iD e G,h.size<=b)->aM [] h h'->K (.tuple #[bh e,al 0]) h'):
  Cl 18 [al (n:Int),al (room:Int),al x] h K:=by
 refine F18.spec ?_;refine BS (Q:=QL n (fill n) []) h1 h8 r1 r2 λk1 s L S1 O1 g1=>⟨_,_,rfl,?_⟩;have S1:cI k1 s L (XL n room (fill n) (fill n) [] false):=S1;rw[show((0:Int) !=0)=false from rfl,aJ];refine HL (s:=s) (x:=x) λk2 p P H2 e1 e2 e3 e4 e5 g2 O2=>aR rfl ?_;refine qE H2 (aI rfl ?_);refine Fw λk3 r B R3 g3 O3=>aR rfl ?_;refine aV λk4 A4 O4 z4=> ?_;have wl:=Bk x;obtain⟨Ok,GO,lo,ql⟩:=vK (n:=n) (fo:=fill n) (N:=[]) (P:=P) ah e2 e3 e4 e5;have z1:=O1.size;have z2:=O2.size;have z3:=O3.size;have hL:=S1.lt;have hP:=H2.lt;have hB:=R3.lt;have W2:xy k2 p s n room (fill n) (fill n) false [] P L:=⟨S1.only0 O2,H2,Ok,GO,λb hb hm=>by have:=g2 b hb;have:=hL b hm;omega⟩;have W4:=(W2.only0 O3).only0 O4;have R4:=R3.only0 O4;have I4:dj k4 k3.size (pC s p r):=A4;refine hK k4 k3.size ⟨pC s p r,n,room,fill n,fill n,false,[],P,L,B,0,λ_=>0⟩ ⟨W4,R4,I4,HO s p r,⟨λhm=>by have:=hL _ hm;omega,λhm=>by have:=hP _ hm;omega,λhm=>by have:=hB _ hm;omega⟩,λb hb=>⟨λhm=>by have:=hL b hm;have:=g3 b hb;omega,λhm=>by have:=hP b hm;have:=g3 b hb;omega⟩,λi hi r hr ht=>(by cases ht),λi hi r hr ht=>rfl,λi hi=>(by show 0<256;omega),xZ n⟩ rfl rfl rfl rfl rfl rfl rfl rfl e2 e1 lo e4 rfl (λb hb=> ?_) (((O1.trans O2 ak).trans O3 ak).trans O4 ak);rcases bi.1 hb with hb|hb|hb|hb
 ·subst hb;omega
 ·exact g1 b hb
 ·have:=g3 b hb;omega
 ·have:=g2 b hb;omega
def fL(G:EG)(i:Nat)(er:Int)(n:Nat):EG:={G with E:={G.E.put i (eO (G.E.ses i) er n)with ans:=G.E.ans+1}}
def fq{E:fV}{i k:Nat}{x:fE}:(E.put i x).ses k=if k=i then x else E.ses k:=rfl
def oF{E E':fV}(hh: ∀k,(E'.ses k).there=(E.ses k).there/\(E'.ses k).hnd=(E.ses k).hnd)(x:Nat):kL E' x=kL E x:=by
 have:fe E' x=fe E x:=by funext k;unfold fe;rw[(hh (k/6)).1,(hh (k/6)).2]
 unfold kL;rw[this]
def fZ{i:Nat}(W:cg h e G)(hi:i<4){er:Int}{n:Nat}(ha:G.E.ans<1000000000)(hK: ∀h',cg h' e (fL G i er n)->bg e G h (fL G i er n) h'->K aE h'):
  Cl 168 [bh e,au ⟨e,3+24*i,none⟩,.agg #[al er,aq (n:Int)]] h K:=by
 refine u9 W.I hi ha λh' I' O'=> ?_
 have hs: ∀k,((fL G i er n).E.ses k).there=(G.E.ses k).there/\((fL G i er n).E.ses k).hnd=(G.E.ses k).hnd/\((fL G i er n).E.ses k).cal=(G.E.ses k).cal:=λk=>by
  show((G.E.put i (eO (G.E.ses i) er n)).ses k).there=_/\((G.E.put i (eO (G.E.ses i) er n)).ses k).hnd=_/\((G.E.put i (eO (G.E.ses i) er n)).ses k).cal=_;rw[fq];by_cases q:k=i
  ·rw[if_pos q,q];exact⟨rfl,rfl,rfl⟩
  ·rw[if_neg q];exact⟨rfl,rfl,rfl⟩
 refine hK h' ⟨W.W.only O' (λb hb=>by simp at hb;subst hb;exact W.de.1) (λb hb=>by simp at hb;subst hb;exact W.de.2.1),W.R.only O' (λb hb=>by simp at hb;subst hb;exact W.de.2.2),I',λx=> ?_,W.de,W.dB,λk hk r hr ht=> ?_,λk hk r hr ht=> ?_,λk hk=> ?_,W.po⟩ (bg.some O' (λb hb=>by simp at hb;subst hb;exact bi.2 (.inl rfl)) λb hb=>hb)
 ·rw[oF λk=>⟨(hs k).1,(hs k).2.1⟩];exact W.C x
 ·rw[(hs k).2.1];rw[(hs k).1]at ht;exact W.rg k hk r hr ht
 ·rw[(hs k).2.1];rw[(hs k).1]at ht;exact W.r0 k hk r hr ht
 ·rw[(hs k).2.2];exact W.mq k hk
def pT(G:EG)(i d v:Nat)(f':Int->Int):EG:={G with E:=G.E.put i (setS (G.E.ses i) d v),M:=G.M+2,f:=f'}
def uB{i d v:Nat}(W:cg h e G)(hi:i<4)(hd:d<6)(ed:(G.E.ses i).cal.dst=(d:Int))(hv:isN G.N v)(hM:G.M+1<=LB)
  (hK: ∀h' f',cg h' e (pT G i d v f')->bg e G h (pT G i d v f') h'->K aE h'):Cl 167 [bh e,au ⟨e,3+24*i,none⟩,ap (v:Int)] h K:=by
 have lt:=W.W.S.isN_lt hv;refine DI W.I W.R W.C W.de.2.2 hi hd ed ah hM λh' f' I' R' C' O'=> ?_
 have hS: ∀b∈e::G.B,b∉G.L/\ ¬dx G.E.p G.P b:=λb hb=>by
  rcases List.mem_cons.1 hb with q|q
  ·subst q;exact⟨W.de.1,W.de.2.1⟩
  ·exact W.dB b q
 refine hK h' f' ⟨W.W.only O' (λb hb=>(hS b hb).1) (λb hb=>(hS b hb).2),R',I',C',W.de,W.dB,λk hk r hr ht=> ?_,λk hk r hr ht=> ?_,λk hk=> ?_,W.po⟩ (bg.some O' (λb hb=> ?_) λb hb=>hb)
 ·have ht:((G.E.put i (setS (G.E.ses i) d v)).ses k).there r=true:=ht;show isN G.N (((G.E.put i (setS (G.E.ses i) d v)).ses k).hnd r);rw[fq]at ht ⊢;by_cases q:k=i
  ·rw[if_pos q]at ht ⊢;by_cases w:r=d
   ·subst w;rw[show(setS (G.E.ses i) r v).hnd r=v from cp];exact hv
   ·rw[show(setS (G.E.ses i) d v).hnd r=(G.E.ses i).hnd r from cK w];rw[show(setS (G.E.ses i) d v).there r=(G.E.ses i).there r from cK w]at ht;exact W.rg i hi r hr ht
  ·rw[if_neg q]at ht ⊢;exact W.rg k hk r hr ht
 ·have ht:((G.E.put i (setS (G.E.ses i) d v)).ses k).there r=false:=ht;show((G.E.put i (setS (G.E.ses i) d v)).ses k).hnd r=0;rw[fq]at ht ⊢;by_cases q:k=i
  ·rw[if_pos q]at ht ⊢;by_cases w:r=d
   ·subst w;rw[show(setS (G.E.ses i) r v).there r=true from cp]at ht;cases ht
   ·rw[show(setS (G.E.ses i) d v).hnd r=(G.E.ses i).hnd r from cK w];rw[show(setS (G.E.ses i) d v).there r=(G.E.ses i).there r from cK w]at ht;exact W.r0 i hi r hr ht
  ·rw[if_neg q]at ht ⊢;exact W.r0 k hk r hr ht
 ·show((G.E.put i (setS (G.E.ses i) d v)).ses k).cal.mask<256;rw[fq];by_cases q:k=i
  ·rw[if_pos q];exact W.mq i hi
  ·rw[if_neg q];exact W.mq k hk
 ·rcases List.mem_cons.1 hb with q|q
  ·subst q;exact bi.2 (.inl rfl)
  ·exact bi.2 (.inr (.inr (.inl q)))
end
end
section
def HY(p:Nat->Bool)(k:Nat):List Nat:=(List.range k).filter p
def zD(p:Nat->Bool)(k:Nat):HY p (k+1)=HY p k++if p k then [k]else []:=by unfold HY;rw[List.range_succ,List.filter_append];cases h:p k<;>simp[h]
def tN(p:Nat->Bool)(k:Nat):Nat:=(HY p k).length
def DH(p:Nat->Bool):tN p 0=0:=rfl
def nI(p:Nat->Bool)(k:Nat):tN p (k+1)=tN p k+if p k then 1 else 0:=by unfold tN;rw[zD,List.length_append];cases p k<;>rfl
def hZ{p q:Nat->Bool}: ∀{k:Nat},(∀x,x<k->p x=q x)->tN p k=tN q k
 |0,_=>rfl
 |k+1,h=>by rw[nI,nI,hZ λx hx=>h x ah,h k ah]
def re(p:Nat->Bool)(a:Nat): ∀b,tN p (a+b)=tN p a+tN (λx=>p (a+x)) b
 |0=>by rw[DH];rfl
 |b+1=>by rw[<-Nat.add_assoc,nI,re p a b,nI];omega
def jd{n x:Nat}(h:x<2^n):x^^^2^n=2^n+x:=by
 refine Nat.eq_of_testBit_eq λi=> ?_;rw[Nat.testBit_xor,Nat.testBit_two_pow];rcases Nat.lt_trichotomy i n with h1|h1|h1
 ·rw[Nat.testBit_two_pow_add_gt h1,decide_eq_false ah,Bool.xor_false]
 ·subst h1;rw[Nat.testBit_two_pow_add_eq,decide_eq_true rfl,Bool.xor_true]
 ·have e:2^(n+1)<=2^i:=Nat.pow_le_pow_right (by decide) h1;rw[Nat.pow_succ]at e;rw[Nat.testBit_lt_two_pow (show x<2^i by omega),Nat.testBit_lt_two_pow (show 2^n+x<2^i by omega),decide_eq_false ah,Bool.xor_false]
def tM: ∀(n v:Nat) {p q:Nat->Bool},v<n->(∀x,x<2^n->p (x^^^2^v)=p x)->(∀x,x<2^n->q (x^^^2^v)=q x)->
  2*tN (λx=>if x.testBit v then q x else p x) (2^n)=tN p (2^n)+tN q (2^n)
 |0,v,p,q,hv,_,_=>ah
 |n+1,v,p,q,hv,hp,hq=>by
  have e:2^(n+1)=2^n+2^n:=by rw[Nat.pow_succ];omega
  rw[e,re,re,re];rcases Nat.lt_or_ge v n with h|h
  ·have cm: ∀x,x<2^n->2^n+(x^^^2^v)=(2^n+x)^^^2^v:=λx hx=>by
    have lt:x^^^2^v<2^n:=Nat.xor_lt_two_pow hx (Nat.pow_lt_pow_right (by decide) h);rw[<-jd lt,<-jd hx,Nat.xor_assoc,Nat.xor_assoc,Nat.xor_comm (2^v)]
   have i1:=tM n v (p:=p) (q:=q) h (λx hx=>hp x ah) λx hx=>hq x ah;have i2:=tM n v (p:=λx=>p (2^n+x)) (q:=λx=>q (2^n+x)) h (λx hx=>by show p _=p _;rw[cm x hx,hp _ ah]) λx hx=>by show q _=q _;rw[cm x hx,hq _ ah]
   have e2:tN (λx=>if(2^n+x).testBit v then q (2^n+x)else p (2^n+x)) (2^n)=tN (λx=>if x.testBit v then q (2^n+x)else p (2^n+x)) (2^n):=
    hZ λx _=>by rw[Nat.testBit_two_pow_add_gt h]
   rw[e2];omega
  ·have:v=n:=ah;subst this;have p2:tN (λx=>p (2^v+x)) (2^v)=tN p (2^v):=hZ λx hx=>by rw[<-jd hx,hp x ah]
   have q2:tN (λx=>q (2^v+x)) (2^v)=tN q (2^v):=hZ λx hx=>by rw[<-jd hx,hq x ah]
   have l1:tN (λx=>if x.testBit v then q x else p x) (2^v)=tN p (2^v):=hZ λx hx=>by rw[Nat.testBit_lt_two_pow hx];rfl
   have l2:tN (λx=>if(2^v+x).testBit v then q (2^v+x)else p (2^v+x)) (2^v)=tN q (2^v):=hZ λx hx=>by
    rw[Nat.testBit_two_pow_add_eq,Nat.testBit_lt_two_pow hx,<-jd hx,hq x ah]
    rfl
   rw[p2,q2,l1,l2];omega
section
variable {n:Nat}{f:Nat->Nat}{N:ay}
end
end
section
end
section
section
variable {h:aH}{s:Nat}{L:List Nat}{X:SX}
end
end
section
structure uY(G G':EG):Prop where
 E:G'.E=G.E
 n:G'.n=G.n
 room:G'.room=G.room
 fo:G'.fo=G.fo
 gg:G'.gg=G.gg
 off:G'.off=G.off
 P:G'.P=G.P
 f:G'.f=G.f
 ex:Ex G'.N G.N
 cnt:be G'.N<=be G.N
 M:G.M<=G'.M/\G'.M<=G.M+1000
 ok:dz G'.n G'.N
 rg: ∀i,i<4-> ∀r,r<6->(G.E.ses i).there r=true->isN G'.N ((G.E.ses i).hnd r)
def uY.refl{h:aH}{e:Nat}{G:EG}(W:cg h e G):uY G G:=⟨rfl,rfl,rfl,rfl,rfl,rfl,rfl,rfl,Ex.refl _,Nat.le_refl _,⟨Nat.le_refl _,ah⟩,W.W.S.ok.1,W.rg⟩
def ku(C:Nat->Nat->Prop):Prop:= ∀{h:aH} {e:Nat} {G:EG} {K:KK},cg h e G->C (be G.N) G.room->G.M<=LB/1000->
 (∀h' G',cg h' e G'->uY G G'->bg e G h G' h'->K aE h')->Cl 80 [bh e] h K
section
variable {h h':aH}{e:Nat}{G G':EG}{K:KK}
def kI:ku λc r=>c<r:=by intro h e G K W hc hM hK;refine F80.spec ?_;have rs:rd h (aw e)=some (au (aw G.E.s)):=W.I.s;simp only[aL,Nat.zero_add];refine aR rs (aR rs (lD W.W.S (aI rfl ⟨trivial,trivial,trivial,aR rs ⟨rfl,oV W.W.S (aI rfl ?_)⟩⟩)));have hc:be (XL G.n G.room G.fo G.gg G.N G.off).N<(XL G.n G.room G.fo G.gg G.N G.off).room:=hc;rw[decide_eq_false ah,aJ];exact hK h G W (uY.refl W) bg.refl
def ny(G:EG)(N':ay)(L':List Nat):EG:={G with N:=N',L:=L'}
def cg.sto{N':ay}{L':List Nat}(W:cg h e G)(S:cI h' G.E.s L' {XL G.n G.room G.fo G.gg G.N G.off with N:=N'})(E:Ex G.N N')(O:aM G.L h h')(F:bH G.L L' h):
  cg h' e (ny G N' L')/\bg e G h (ny G N' L') h':=by
 have ok:=W.W.S.ok.1;have lt:=W.lt
 have DP: ∀b,dx G.E.p G.P b->b∉L':=λb hb hm=>by
  rcases F b hm with q|q
  ·exact W.W.D b hb q
  ·have:=lt b (bi.2 (.inr (.inr (.inr hb))));omega
 refine⟨⟨⟨yM S ok E,W.W.H.only O λb hb hp=>W.W.D b hp hb,(W.W.Ok.ext W.W.GO ok E).1,yb W.W.GO E,DP⟩,W.R.only O (λb hb hm=>(W.dB b hm).1 hb),W.I.only O W.de.1,W.C,⟨λhm=> ?_,W.de.2.1,W.de.2.2⟩,λb hb=>⟨λhm=> ?_,(W.dB b hb).2⟩,λi hi r hr ht=>E.isN (W.rg i hi r hr ht),W.r0,W.mq,W.po⟩,⟨λT hT=>O.mono λb hb _=>hT b (bi.2 (.inr (.inl hb))),λb hb=> ?_⟩⟩
 ·rcases F e hm with q|q
  ·exact W.de.1 q
  ·have:=lt e (bi.2 (.inl rfl));omega
 ·rcases F b hm with q|q
  ·exact(W.dB b hb).1 q
  ·have:=lt b (bi.2 (.inr (.inr (.inl hb))));omega
 ·rcases bi.1 hb with q|q|q|q
  ·exact .inl (bi.2 (.inl q))
  ·rcases F b q with q|q
   ·exact .inl (bi.2 (.inr (.inl q)))
   ·exact .inr q
  ·exact .inl (bi.2 (.inr (.inr (.inl q))))
  ·exact .inl (bi.2 (.inr (.inr (.inr q))))
def Ef{room:Nat}{N N':ay}{l a b r er:Nat}(R:jr room N l a b N' r er):Ex N N'/\(er=0\/er=60)/\(er=60->room<=be N/\N'=N):=by
 rcases R with⟨-,-,e,e2⟩|⟨-,i,-,-,e,e2⟩|⟨-,-,h1,-,e,e2⟩|⟨-,-,-,e,q,-,p⟩
 ·subst e2;exact⟨Ex.refl _,.inl e,λh=>ah⟩
 ·subst e2;exact⟨Ex.refl _,.inl e,λh=>ah⟩
 ·subst e2;exact⟨Ex.refl _,.inr e,λ_=>⟨h1,rfl⟩⟩
 ·exact⟨p.ext,.inl e,λh=>ah⟩
end
end
section
def fJ(k:Int):Nat:=if k=1\/k=2\/k=6 then 123 else if k=4\/k=5 then 124 else if k=7 then 125 else if k=8 then 126 else 127
def nu(e i:Nat):Value:=au ⟨e,3+24*i,none⟩
def GV:bZ X 123=some cY.go:=by kernel_rfl
def He:bZ X 124=some cY.go:=by kernel_rfl
def Gq:bZ X 125=some cY.go:=by kernel_rfl
def Hc:bZ X 126=some cY.go:=by kernel_rfl
def HF:bZ X 127=some cY.go:=by kernel_rfl
def BW(k:Int):bZ X (fJ k)=some cY.go:=by
 unfold fJ
 repeat' split
 ·exact GV
 ·exact He
 ·exact Gq
 ·exact Hc
 ·exact HF
section
variable {h h':aH}{e:Nat}{G G':EG}{K:KK}{C:Nat->Nat->Prop}
def Er{c:kB}(hK: ∀h',aM [] h h'->K (.func (.func (fJ c.kind)) #[bh e] #[]) h'):Cl 79 [bh e,jR c] h K:=by
 refine F79.spec ?_;refine aV λh1 A1 O1 z1=> ?_;simp only[aL,Nat.zero_add];refine aI (n:=c.kind) (by rw[At.rd A1];rfl) ?_;have hK:=hK h1 O1;obtain⟨k,ek⟩: ∃k,k=c.kind:=⟨_,rfl⟩;rw[<-ek]at hK ⊢;unfold fJ at hK;by_cases h1:k=1
 ·subst h1;exact hK
 by_cases h2:k=2
 ·subst h2;exact hK
 by_cases h4:k=4
 ·subst h4;exact hK
 by_cases h5:k=5
 ·subst h5;exact hK
 by_cases h6:k=6
 ·subst h6;exact hK
 by_cases h7:k=7
 ·subst h7;exact hK
 by_cases h8:k=8
 ·subst h8;exact hK
 rw[if_neg ah,if_neg ah,if_neg h7,if_neg h8]at hK;simp only[kD h1,kD h2,kD h4,kD h5,kD h6,kD h7,kD h8,aJ];exact hK
def im(W:cg h e G)(hK:K (al (G.P.ws.length:Int)) h):Cl 27 [bh e] h K:=by refine F27.spec ?_;exact aR (by rw[aL];exact W.I.p) (qE W.W.H (aI rfl hK))
def uF{who draw:Int}(W:cg h e G)(hOut:(who<0\/(G.P.ws.length:Int)<=who\/ ¬jP G.E)-> ∀h',aM [] h h'->K aB h')
  (Inv:Nat->aH->EG->Prop) (h0: ∀h',aM [] h h'->Inv 0 h' G) (hO: ∀{i h1 G1 h2},Inv i h1 G1->aM [] h1 h2->Inv i h2 G1) (hW: ∀{i h1 G1},Inv i h1 G1->cg h1 e G1)
  (hn: ∀{i h1 G1},i<4->Inv i h1 G1->(G1.E.ses i).pend=false->Inv (i+1) h1 G1)
  (hs: ∀{i h1 G1} {Q:KK},i<4->Inv i h1 G1->(G1.E.ses i).pend=true->(∀b h2 G2,Inv (i+1) h2 G2->Q (aD b) h2)->Cl (fJ (G1.E.ses i).cal.kind) [bh e,nu e i] h1 Q)
  (hE:0<=who->who<(G.P.ws.length:Int)->jP G.E-> ∀h1 G1,Inv 4 h1 G1->F26.wk11 (aw e) who draw h1 K):
  Cl 26 [bh e,al who,al draw] h K:=by
 refine F26.spec _ _ _ h K ?_;refine aT (λq=>hOut (.inl (of_decide_eq_true q)) h (aM.refl _ _)) λq=> ?_;have q:=of_decide_eq_false q;refine im W (aI rfl (aT (λp=>hOut (.inr (.inl (of_decide_eq_true p))) h (aM.refl _ _)) λp=> ?_));have p: ¬(G.P.ws.length:Int)<=who:=of_decide_eq_false p;refine qy W.I (λa h1 O1=>aY rfl ?_) λa h1 O1=>aY rfl (hOut (.inr (.inr a)) h1 O1);rw[Bool.not_true,aJ];unfold F26.wk4
 have main: ∀(d i:Nat) (hh:aH) (G1:EG),d+i=4->Inv i hh G1->F26.wL4 (d+1) (aw e) who draw (i:Int) hh K:=by
  intro d
  induction d with
  |zero=>
   intro i hh G1 hi I;rw[F26.sL4];rw[decide_eq_false ah,aJ];have ei:i=4:=ah;subst ei;exact hE ah ah a hh G1 I
  |succ d ih=>
   intro i hh G1 hi I;rw[F26.sL4];rw[decide_eq_true ah,aO];have hi4:i<4:=ah;have W1:=hW I;simp only[aL];rw[show 0+3+Int.toNat (i:Int)*24=3+24*i by omega]
   have nx: ∀{h2 G2},Inv (i+1) h2 G2->F26.wL4 (d+1) (aw e) who draw (ax ((i:Int)+1)) h2 K:=λ{h2 G2} I2=>by rw[t8 hi4];exact ih (i+1) h2 G2 ah I2
   refine⟨ah,ah,aY (W1.I.pend hi4 rfl) (aT (λpe=> ?_) λpe=>nx (hn hi4 I pe))⟩;refine aI (W1.I.kind hi4 ah) (aI (W1.I.op hi4 ah) (aI (W1.I.dst hi4 ah) (aI (W1.I.ca hi4 ah) (aI (W1.I.cb hi4 ah) (aI (W1.I.cc hi4 ah) (aI (W1.I.mask hi4 ah) ?_))))));refine Er (c:=(G1.E.ses i).cal) λh2 O2=>⟨_,rfl,?_⟩;refine bE (BW _) ?_;exact hs hi4 (hO I O2) pe λb h3 G3 I3=>aY rfl (nx I3)
 exact⟨_,main 4 0 h1 G ah (h0 h1 O1)⟩
def lh(w:Nat)(G G':EG):Prop:= ∃G1 N' P' L' k,uY G G1/\bQ G1.n G1.fo G1.N G1.P/\G'={G1 with N:=N',P:=P',L:=L'}/\qS G1.n G1.fo G1.room G1.N N' G1.P P'/\G1.P.ws[w]? =some k/\(phi G1.n N' P'+1<=phi G1.n G1.N G1.P\/(k.job=0/\k.q=[]/\fa G1.P.ws P'.ws))
def cg.pool{N':ay}{P':PS}{L':List Nat}(W:cg h e G)(W':xy h' G.E.p G.E.s G.n G.room G.fo G.gg G.off N' P' L')(E:Ex G.N N')(S:AL G.E.p G.P G.L h P' L' h'):
  cg h' e {G with N:=N',P:=P',L:=L'}/\bg e G h {G with N:=N',P:=P',L:=L'} h':=by
 have lt:=W.lt;have O':=S.O (Eo G.E.p G.P++G.L) (λb hb=>List.mem_append.2 (.inl (fR.2 hb))) λb hb=>List.mem_append.2 (.inr hb)
 have spare: ∀{b},b∉G.L-> ¬dx G.E.p G.P b->b∉Eo G.E.p G.P++G.L:=λh1 h2 hm=>by
  rcases List.mem_append.1 hm with q|q
  ·exact h2 (fR.1 q)
  ·exact h1 q
 have nL: ∀{b},b∈iD e G->b∉G.L->b∉L':=λhb hn hm=>by
  rcases S.F _ hm with q|q
  ·exact hn q
  ·have:=lt _ hb;omega
 have nP: ∀{b},b∈iD e G-> ¬dx G.E.p G.P b-> ¬dx G.E.p P' b:=λhb hn hm=>by
  rcases S.B _ hm with q|q
  ·exact hn q
  ·have:=lt _ hb;omega
 have me:e∈iD e G:=bi.2 (.inl rfl);have mB: ∀b∈G.B,b∈iD e G:=λb hb=>bi.2 (.inr (.inr (.inl hb)));refine⟨⟨W',W.R.only O' λb hb hm=>(spare (W.dB b hm).1 (W.dB b hm).2) hb,W.I.only O' (spare W.de.1 W.de.2.1),W.C,⟨nL me W.de.1,nP me W.de.2.1,W.de.2.2⟩,λb hb=>⟨nL (mB b hb) (W.dB b hb).1,nP (mB b hb) (W.dB b hb).2⟩,λi hi r hr ht=>E.isN (W.rg i hi r hr ht),W.r0,W.mq,W.po⟩,⟨λT hT=>S.O T (λb hb=>hT b (bi.2 (.inr (.inr (.inr hb))))) λb hb=>hT b (bi.2 (.inr (.inl hb))),λb hb=> ?_⟩⟩;rcases bi.1 hb with q|q|q|q
 ·exact .inl (bi.2 (.inl q))
 ·rcases S.F b q with q|q
  ·exact .inl (bi.2 (.inr (.inl q)))
  ·exact .inr q
 ·exact .inl (bi.2 (.inr (.inr (.inl q))))
 ·rcases S.B b q with q|q
  ·exact .inl (bi.2 (.inr (.inr (.inr q))))
  ·exact .inr q
def iu(mr:ku C)(W:cg h e G)(hC:C (be G.N) G.room)(hM:G.M<=LB/1000){draw:Int}{w:Nat}(hw:w<G.P.ws.length)
  (hK: ∀h' G',cg h' e G'->bg e G h G' h'->lh w G G'->K aC h'):F26.wk11 (aw e) (w:Int) draw h K:=by
 unfold F26.wk11;refine mr W hC hM λh1 G1 W1 C1 S1=>⟨rfl,?_⟩;simp only[aL,Nat.zero_add];refine aR W1.I.p ?_;have hl:(G1.P.ws.length:Int)=(G.P.ws.length:Int):=by rw[C1.P]
 refine zo W1.W (who:=(w:Int)) (λq=>ah) λh2 L2 N2 P2 b w' k ew hk W2 Pk _ hph B2=>aY rfl ?_;have ew:w'=w:=ah;subst ew;obtain⟨W3,S3⟩:=W1.pool W2 Pk.ex B2;exact hK h2 _ W3 (S1.trans S3) ⟨G1,N2,P2,L2,k,C1,W1.W.Ok,rfl,Pk,hk,hph⟩
def CZ(i d:Nat)(G G':EG)(er:Int):Prop:= ∃G1 N2 L2 r er' f',uY G G1/\jr G1.room G1.N (G1.gg (G.E.ses i).cal.mask) 0 1 N2 r er'/\er=(er':Int)/\G'=if er'=0 then pT (ny G1 N2 L2) i d r f' else ny G1 N2 L2
def uU(mr:ku C)(W:cg h e G){i d:Nat}(hi:i<4)(hC:C (be G.N) G.room)(hM:G.M+2000<=LB/1000)(hv:(G.E.ses i).cal.mask<G.n)(hd:d<6)(ed:(G.E.ses i).cal.dst=(d:Int))
  (hK: ∀h' G' (er:Int),cg h' e G'->bg e G h G' h'->CZ i d G G' er->K (al er) h'):Cl 165 [bh e,nu e i] h K:=by
 have hLB:LB=140737488355328:=rfl;refine F165.spec ?_;refine mr W hC ah λh1 G1 W1 C1 S1=>⟨rfl,?_⟩;simp only[aL,Nat.zero_add];have mq:=W.mq i hi;refine aR W1.I.s (aI (n:=((G.E.ses i).cal.mask:Int)) (by rw[W1.I.mask hi ah,C1.E]) ?_);rw[wrap_i64 ah ah];have hv1:(G.E.ses i).cal.mask<G1.n:=by rw[C1.n];exact hv
 have pg:=(W1.po.1 _ hv1).1;refine CB W1.W.S hv1 pg λh2 L2 N2 r er R S2 O2 F2=>⟨_,_,rfl,?_⟩;have R:jr G1.room G1.N (G1.gg (G.E.ses i).cal.mask) 0 1 N2 r er:=R;obtain⟨E2,e2,-⟩:=Ef R;obtain⟨W2,T2⟩:=W1.sto S2 E2 O2 F2;rcases e2 with q|q
 ·subst q;rw[show(((0:Nat):Int)==0)=true from rfl,aO]
  have hr:isN N2 r:=by
   have e0:lvl G1.n G1.N 0=G1.n:=by unfold lvl;rw[if_pos ah]
   exact(lF (f:=G1.fo) W1.W.S.ok.1 W2.W.S.ok.1 (a:=0) (b:=1) (.inl ah) (.inl ah) (show _<lvl G1.n G1.N 0 by rw[e0];exact pg) R).2.1
  have ed1:((ny G1 N2 L2).E.ses i).cal.dst=(d:Int):=by show(G1.E.ses i).cal.dst=_;rw[C1.E];exact ed
  have hm1:(ny G1 N2 L2).M+1<=LB:=by show G1.M+1<=LB;have:=C1.M.2;omega
  refine uB W2 hi hd ed1 hr hm1 λh3 f3 W3 T3=>⟨rfl,hK h3 _ _ W3 ((S1.trans T2).trans T3) ⟨G1,N2,L2,r,0,f3,C1,R,rfl,by rw[if_pos rfl]⟩⟩
 ·subst q;rw[show(((60:Nat):Int)==0)=false from rfl,aJ];exact hK h2 _ _ W2 (S1.trans T2) ⟨G1,N2,L2,r,60,G1.f,C1,R,rfl,by rw[if_neg ah]⟩
end
end
section
variable {i j k l m n o p q r s t:Int}{a b c d:Addr}{u v:Nat}{x y:az}{h:aH}{K:KK}
namespace F42
def T:bj:=⟨[(2,[0,3]),(5,[0,3,4]),(8,[0])],[]⟩
noncomputable def body:Code:=(Tryz.f42.body).getD .skip
noncomputable def en(S:bD)(p:List Nat)(κ:XK):Fr->aH->Prop:=E Tryz.prog X T S (sub body p) κ
noncomputable def ln(S:bD)(p:List Nat)(κ:XK)(n:Nat):Fr->aH->Prop:=jw S (E Tryz.prog X T S (sub body p)) (df T (sub body p)) κ n
def fn(K:KK):XK:=fin Tryz.prog Tryz.f42.results.toList K
noncomputable def c0(S:bD)(K:KK):XK:=jS S (df T (sub body [1,1])) (en S [1,1] (fn K)) (fn K)
noncomputable def c1(S:bD)(K:KK):XK:=cA 0 (c0 S K)
noncomputable def c2(S:bD)(n2:Nat)(K:KK):XK:=gh S (df T (sub body [1,0,1,0,0])) (ln S [1,0,1,0,0] (c1 S K) n2) (c1 S K)
noncomputable def c3(S:bD)(n2:Nat)(K:KK):XK:=jS S (df T (sub body [1,0,1,0,0,1,1])) (en S [1,0,1,0,0,1,1] (c2 S n2 K)) (c2 S n2 K)
noncomputable def c4(S:bD)(n2:Nat)(K:KK):XK:=cA 1 (c3 S n2 K)
noncomputable def c5(S:bD)(n2:Nat)(K:KK):XK:=cA 2 (c4 S n2 K)
noncomputable def c6(S:bD)(n2:Nat)(n5:Nat)(K:KK):XK:=gh S (df T (sub body [1,0,1,0,0,1,0,0,1,0,0])) (ln S [1,0,1,0,0,1,0,0,1,0,0] (c5 S n2 K) n5) (c5 S n2 K)
def f2(a:Addr)(b:Int):Fr:=[(0,(au a)),(3,(al b))]
def f5(a:Addr)(b c:Int):Fr:=[(0,(au a)),(3,(al b)),(4,(al c))]
def f8(a:Addr):Fr:=[(0,(au a))]
def J0(k2:Addr->Int->aH->Prop)(a:Addr)(h:aH)(_K:KK):Prop:=
 k2 a (0:Int) h
def E0(S:bD)(a:Addr)(h:aH)(K:KK):(E Tryz.prog X T S body (fin Tryz.prog Tryz.f42.results.toList K) (dI 0 [(au a)]) h)=J0 (λa b h=>S (en S [1,0,1] (c0 S K)) (f2 a b) h) a h K:=by kernel_rfl
def Jk2(lp2:Addr->Int->aH->Prop)(a:Addr)(b:Int)(h:aH)(_K:KK):Prop:=
 lp2 a b h
def Ek2(S:bD)(a:Addr)(b:Int)(h:aH)(K:KK):(en S [1,0,1] (c0 S K) (f2 a b) h)=Jk2 (λa b h=> ∃n,S (ln S [1,0,1,0,0] (c1 S K) n) (f2 a b) h) a b h K:=by kernel_rfl
def JL2(k5:Addr->Int->Int->aH->Prop)(k8:Addr->aH->Prop)(a:Addr)(b:Int)(h:aH)(_K:KK):Prop:=
 aK (decide (b<(1048576:Int))) (Cl 99 [(au a)] h (λv1 h2=>bI (some v1) (λb3=>aK b3 (k5 a b (0:Int) h2) (k8 a h2)))) (k8 a h)
def EL2(S:bD)(n2:Nat)(a:Addr)(b:Int)(h:aH)(K:KK):(en S [1,0,1,0,0] (c2 S n2 K) (f2 a b) h)=JL2 (λa b c h=>S (en S [1,0,1,0,0,1,0,0,1] (c4 S n2 K)) (f5 a b c) h) (λa h=>S (en S [1,1] (fn K)) (f8 a) h) a b h K:=by kernel_rfl
def Jk5(lp5:Addr->Int->Int->aH->Prop)(a:Addr)(b c:Int)(h:aH)(_K:KK):Prop:=
 lp5 a b c h
def Ek5(S:bD)(n2:Nat)(a:Addr)(b c:Int)(h:aH)(K:KK):(en S [1,0,1,0,0,1,0,0,1] (c4 S n2 K) (f5 a b c) h)=Jk5 (λa b c h=> ∃n,S (ln S [1,0,1,0,0,1,0,0,1,0,0] (c5 S n2 K) n) (f5 a b c) h) a b c h K:=by kernel_rfl
def JL5(bk5:Addr->Int->Int->aH->Prop)(bk2:Addr->Int->aH->Prop)(a:Addr)(b c:Int)(h:aH)(_K:KK):Prop:=
 Cl 27 [(au a)] h (λv1 h2=>aQ .i64 (some v1) (λn3=>aK (decide (c<n3)) (Cl 26 [(au a),(al c),(al b)] h2 (λv4 h5=>bI (some v4) (λ_=>bk5 a b (ax (c+(1:Int))) h5))) (bk2 a (ax (b+(1:Int))) h2)))
def EL5(S:bD)(n2:Nat)(n5:Nat)(a:Addr)(b c:Int)(h:aH)(K:KK):(en S [1,0,1,0,0,1,0,0,1,0,0] (c6 S n2 n5 K) (f5 a b c) h)=JL5 (λa b c h=>S (ln S [1,0,1,0,0,1,0,0,1,0,0] (c5 S n2 K) n5) (f5 a b c) h) (λa b h=>S (ln S [1,0,1,0,0] (c1 S K) n2) (f2 a b) h) a b c h K:=by kernel_rfl
def Jk8(a:Addr)(h:aH)(K:KK):Prop:=
 Cl 99 [(au a)] h (λv1 h2=>bI (some v1) (λb3=>K (aD (!b3)) h2))
def Ek8(S:bD)(a:Addr)(h:aH)(K:KK):(en S [1,1] (fn K) (f8 a) h)=Jk8 a h K:=by kernel_rfl
def wL5(bk2:Addr->Int->aH->Prop):Nat->Addr->Int->Int->aH->KK->Prop
 |0,_,_,_,_,_=>False
 |n+1,a,b,c,h,K=>JL5 (λa b c h=>wL5 bk2 n a b c h K) bk2 a b c h K
def eL5(K:KK)(n2:Nat)(bk2:Addr->Int->aH->Prop)(hb2: ∀(a:Addr) (b:Int) (h:aH),(ln S0 [1,0,1,0,0] (c1 S0 K) n2 (f2 a b) h)=bk2 a b h): ∀(n:Nat) (a:Addr) (b c:Int) (h:aH),(ln S0 [1,0,1,0,0,1,0,0,1,0,0] (c5 S0 n2 K) n (f5 a b c) h)=wL5 bk2 n a b c h K
 |0,_,_,_,_=>rfl
 |n+1,a,b,c,h=>(EL5 S0 n2 n a b c h K).trans (BE (λq0 q1=>JL5 q0 q1 a b c h K) (by funext a b c h;exact(λa b c h=>eL5 K n2 bk2 hb2 n a b c h) a b c h) (by funext a b h;exact hb2 a b h))
def wk5(bk2:Addr->Int->aH->Prop)(a:Addr)(b c:Int)(h:aH)(K:KK):Prop:=
 Jk5 (λa b c h=> ∃m,wL5 bk2 m a b c h K) a b c h K
def ek5(K:KK)(n2:Nat)(bk2:Addr->Int->aH->Prop)(hb2: ∀(a:Addr) (b:Int) (h:aH),(ln S0 [1,0,1,0,0] (c1 S0 K) n2 (f2 a b) h)=bk2 a b h)(a:Addr)(b c:Int)(h:aH):(en S0 [1,0,1,0,0,1,0,0,1] (c4 S0 n2 K) (f5 a b c) h)=wk5 bk2 a b c h K:=(Ek5 S0 n2 a b c h K).trans (lP (λq0=>Jk5 q0 a b c h K) (by funext a b c h;exact cR λm=>eL5 K n2 bk2 hb2 m a b c h))
def wk8(a:Addr)(h:aH)(K:KK):Prop:=
 Jk8 a h K
def ek8(K:KK)(a:Addr)(h:aH):(en S0 [1,1] (fn K) (f8 a) h)=wk8 a h K:=(Ek8 S0 a h K).trans (rfl)
def wL2:Nat->Addr->Int->aH->KK->Prop
 |0,_,_,_,_=>False
 |n+1,a,b,h,K=>JL2 (λa b c h=>wk5 (λa b h=>wL2 n a b h K) a b c h K) (λa h=>wk8 a h K) a b h K
def eL2(K:KK): ∀(n:Nat) (a:Addr) (b:Int) (h:aH),(ln S0 [1,0,1,0,0] (c1 S0 K) n (f2 a b) h)=wL2 n a b h K
 |0,_,_,_=>rfl
 |n+1,a,b,h=>(EL2 S0 n a b h K).trans (BE (λq0 q1=>JL2 q0 q1 a b h K) (by funext a b c h;exact ek5 K n (λa b h=>wL2 n a b h K) (λa b h=>eL2 K n a b h) a b c h) (by funext a h;exact ek8 K a h))
def wk2(a:Addr)(b:Int)(h:aH)(K:KK):Prop:=
 Jk2 (λa b h=> ∃m,wL2 m a b h K) a b h K
def ek2(K:KK)(a:Addr)(b:Int)(h:aH):(en S0 [1,0,1] (c0 S0 K) (f2 a b) h)=wk2 a b h K:=(Ek2 S0 a b h K).trans (lP (λq0=>Jk2 q0 a b h K) (by funext a b h;exact cR λm=>eL2 K m a b h))
def w(a:Addr)(h:aH)(K:KK):Prop:=
 J0 (λa b h=>wk2 a b h K) a h K
def e0(K:KK)(a:Addr)(h:aH):(E Tryz.prog X T S0 body (fin Tryz.prog Tryz.f42.results.toList K) (dI 0 [(au a)]) h)=w a h K:=(E0 S0 a h K).trans (lP (λq0=>J0 q0 a h K) (by funext a b h;exact ek2 K a b h))
def hb:Tryz.f42.body=some body:=by kernel_rfl
def ok:cX T Tryz.f42.ntmps body=true:=by kernel_rfl
def spec(a:Addr)(h:aH)(K:KK)(H:w a h K):Cl 42 [(au a)] h K:=
 dk (T:=T) Ed Ei Tryz.func42 hb ok rfl (by rw[e0];exact H)
end F42
def F99.T:bj:=⟨[(2,[0,3])],[]⟩
section
variable (n:Nat)(a:Addr)(b:Int)(h:aH)(K:KK)
def F99.wL2:Prop:=Lp Tryz.f99 F99.T [1,0,1,0] n [(0,(au a)),(3,(al b))] h K
def F99.sL2:F99.wL2 (n+1) a b h K=(aK (b<4) (Cl 56 [au a,al b] h λc d=>bI (some c) λc=>aK c (K aC d) (F99.wL2 n a (ax (b+1)) d K)) (K aB h)):=by kernel_rfl
def F99.wk2:Prop:=(∃c,F99.wL2 c a b h K)
def F99.spec(H:F99.wk2 a 0 h K):Cl 99 [au a] h K:=cT F99.T Tryz.func99 H
end
def F53.spec(H:a9 h (.cells #[al j,al k,al l,al m,al n,al o,.int .u8 p] 41) λb c=>a9 c (.cells #[al 0,aq 0] 76) λc d=>aQ .i64 (rd d ((aw b).add 0)) λe=>aQ .i64 (rd d ((aw b).add 1)) λf=>aQ .i64 (rd d ((aw b).add 2)) λg=>aQ .i64 (rd d ((aw b).add 3)) λj=>aQ .i64 (rd d ((aw b).add 4)) λk=>aQ .i64 (rd d ((aw b).add 5)) λl=>aQ .u8 (rd d ((aw b).add 6)) λb=>Cl 24 [au a,al i,.agg #[al e,al f,al g,al j,al k,al l,.int .u8 b]] d λb d=>aQ .i64 (some b) λb=>aK (b !=0) (aW d ((aw c).add 0) (al 0) λa=>aW a ((aw c).add 1) (aq 0) λa=>aQ .i64 (rd a ((aw c).add 0)) λb=>aQ .u64 (rd a ((aw c).add 1)) λc=>K (.tuple #[.agg #[al b,aq c],aB]) a) (Cl 42 [au a] d λb d=>bI (some b) λb=>aK (!b) (aW d ((aw c).add 0) (al 0) λa=>aW a ((aw c).add 1) (aq 0) λa=>aQ .i64 (rd a ((aw c).add 0)) λb=>aQ .u64 (rd a ((aw c).add 1)) λc=>K (.tuple #[.agg #[al b,aq c],aB]) a) (Cl 43 [au a,al i] d λa b=> ∃d:Int,∃e:Int,∃f:Bool,a=(.tuple #[.agg #[al d,aq e],aD f])/\aW b ((aw c).add 0) (al d) λa=>aW a ((aw c).add 1) (aq e) λa=>aQ .i64 (rd a ((aw c).add 0)) λb=>aQ .u64 (rd a ((aw c).add 1)) λc=>K (.tuple #[.agg #[al b,aq c],aD f]) a))):Cl 53 [au a,al i,.agg #[al j,al k,al l,al m,al n,al o,.int .u8 p]] h K:=cN Tryz.func53 H
def F55.T:bj:=⟨[(2,[0,1,2,7]),(7,[0,1,2]),(8,[0,1,2,10])],[]⟩
section
variable (n:Nat)(f:Addr)(g:Int)(b:az)(a c:Nat)(i d:Int)(h:aH)(K:KK)
def F55.wL8:Prop:=Lp Tryz.f55 F55.T [1,1,0,1,0] n [(0,(au f)),(1,(al g)),(2,(.slice b a c)),(10,(al d))] h K
def F55.sL8:F55.wL8 (n+1) f g b a c d h K=(aK (d<(a:Int)) (bf b λe=>0<=d/\d<(a:Int)/\aQ .u8 (rd h (e.add (d.toNat*1))) λe=>(3:Int)≠0/\(3:Int)≠0/\(4:Int)≠0/\(12:Int)≠0/\(4:Int)≠0/\(48:Int)≠0/\(4:Int)≠0/\Cl 53 [au f,al g,.agg #[al 3,al (ax (2+(ax (Int.tmod e 3)))),al (ax (Int.tmod (IntKind.wrap .u8 (Int.tdiv e 3)) 4)),al (ax (Int.tmod (IntKind.wrap .u8 (Int.tdiv e 12)) 4)),al (ax (Int.tmod (IntKind.wrap .u8 (Int.tdiv e 48)) 4)),al 0,.int .u8 0]] h λe i=> ∃j:Int,∃k:Int,∃l:Bool,e=(.tuple #[.agg #[al j,aq k],aD l])/\a9 i (.cells #[al 0,aq 0] 76) λe i=>aW i ((aw e).add 0) (al j) λi=>aW i ((aw e).add 1) (aq k) λi=>aK (!l) (K aB i) (aQ .i64 (rd i ((aw e).add 0)) λe=>aK (e !=0) (K aB i) (F55.wL8 n f g b a c (ax (d+1)) i K))) (K aC h)):=by kernel_rfl
def F55.wk8:Prop:=(∃e,F55.wL8 e f g b a c d h K)
def F55.wk7:Prop:=F55.wk8 f g b a c 0 h K
def F55.wL2:Prop:=Lp Tryz.f55 F55.T [1,0,1,0] n [(0,(au f)),(1,(al g)),(2,(.slice b a c)),(7,(al i))] h K
def F55.sL2:F55.wL2 (n+1) f g b a c i h K=(aK (i<4) (Cl 53 [au f,al g,.agg #[al 1,al 0,al i,al 0,al 0,al 0,.int .u8 (IntKind.wrap .u8 i)]] h λd e=> ∃j:Int,∃k:Int,∃l:Bool,d=(.tuple #[.agg #[al j,aq k],aD l])/\a9 e (.cells #[al 0,aq 0] 76) λd e=>aW e ((aw d).add 0) (al j) λe=>aW e ((aw d).add 1) (aq k) λe=>aK (!l) (K aB e) (aQ .i64 (rd e ((aw d).add 0)) λd=>aK (d !=0) (K aB e) (F55.wL2 n f g b a c (ax (i+1)) e K))) (F55.wk7 f g b a c h K)):=by kernel_rfl
def F55.wk2:Prop:=(∃d,F55.wL2 d f g b a c i h K)
def F55.spec(H:F55.wk2 f g b a c 0 h K):Cl 55 [au f,al g,.slice b a c] h K:=cT F55.T Tryz.func55 H
end
def F40.spec(H:Cl 18 [al 4,al 16400,al 2] h λa b=> ∃c:az,∃d:Int,a=(.tuple #[aA c,al d])/\Cl 18 [al 9,al 100,al 2] b λa b=> ∃e:az,∃f:Int,a=(.tuple #[aA e,al f])/\aK (d !=0) (K aB b) (aK (Option.isNone c) (K aB b) (aK (f !=40) (K aB b) (Cl 27 [aA c] b λa b=>aQ .i64 (some a) λa=>aK (a !=2) (K aB b) (Cl 24 [aA c,al 0,.agg #[al 1,al 0,al 1,al 0,al 0,al 0,.int .u8 2]] b λa b=>aQ .i64 (some a) λa=>Cl 24 [aA c,al 0,.agg #[al 6,al 0,al 0,al 0,al 0,al 0,.int .u8 0]] b λb d=>aQ .i64 (some b) λb=>Cl 24 [aA c,al 1,.agg #[al 4,al 0,al 0,al 0,al 0,al 0,.int .u8 0]] d λd e=>aQ .i64 (some d) λd=>aK (a !=0) (K aB e) (aK (b !=220) (K aB e) (aK (d !=221) (K aB e) (Cl 56 [aA c,al 0] e λa b=>bI (some a) λa=>aK (!a) (K aB b) (Cl 42 [aA c] b λa b=>bI (some a) λa=>aK (!a) (K aB b) (Cl 43 [aA c,al 0] b λa b=> ∃d:Int,∃e:Int,∃f:Bool,a=(.tuple #[.agg #[al d,aq e],aD f])/\a9 b (.cells #[al 0,aq 0] 76) λa b=>aW b ((aw a).add 0) (al d) λb=>aW b ((aw a).add 1) (aq e) λb=>Cl 28 [aA c,al 0,al 1] b λb d=> ∃e:Int,∃g:Bool,b=(.tuple #[ap e,aD g])/\aK f (aQ .i64 (rd d ((aw a).add 0)) λa=>aK (a==0) (aK g (Cl 23 [aA c] d λa b=>ba (some a) λa=>Cl 33 [al 2] b λb d=> ∃f:Int,∃g:Int,∃i:Int,∃j:Int,b=(.agg #[aq f,aq g,aq i,aq j])/\Cl 58 [aA a,ap e,.agg #[aq f,aq g,aq i,aq j]] d λa b=>bI (some a) λa=>aK a (Cl 54 [aA c] b λa b=>aQ .i64 (some a) λa=>K (aD (a==1)) b) (K aB b)) (K aB d)) (K aB d)) (K aB d))))))))))):Cl 40 [] h K:=cN Tryz.func40 H
end
section
def oR{n:Nat}{c:kB}(h:iR n c=0):(c.kind=3->cL c.op≠0)/\(c.kind=1->c.mask<n)/\(c.kind=3->c.op=8->c.mask<n)/\(c.kind=3->(c.op=6\/c.op=7)->c.mask/2^n=0):=by
 unfold iR at h;split at h
 ·cases h
 ·rename_i a;split at h
  ·cases h
  ·rename_i b;split at h
   ·cases h
   ·rename_i d;refine⟨λk t=>a ⟨k,t⟩,λk=> ?_,λk o=> ?_,λk o=> ?_⟩
    ·exact Nat.lt_of_not_le λq=>b ⟨.inl k,q⟩
    ·exact Nat.lt_of_not_le λq=>b ⟨.inr ⟨k,o⟩,q⟩
    ·exact Classical.byContradiction λq=>d ⟨k,o,q⟩
def hH{n:Nat}{x:fE}{c:kB}(h:refu n x c=0):(1<=c.kind/\c.kind<=8)/\(vF c.kind->iQ c.dst)/\jW x c/\iR n c=0:=by
 unfold refu at h;split at h
 ·cases h
 ·rename_i a;split at h
  ·cases h
  ·rename_i b;split at h
   ·cases h
   ·rename_i d;exact⟨Classical.not_not.1 a,λw=>Classical.byContradiction λq=>b ⟨w,q⟩,Classical.not_not.1 d,h⟩
section
variable {h h':aH}{e:Nat}{G G':EG}{K:KK}{C:Nat->Nat->Prop}
def CM(G:EG)(i d:Nat)(f':Int->Int):EG:={G with E:=G.E.put i (gM (G.E.ses i) d),M:=G.M+1,f:=f'}
def zJ{i d:Nat}(W:cg h e G)(hi:i<4)(hd:d<6)(ed:(G.E.ses i).cal.dst=(d:Int))(hM:G.M<=LB)
  (hK: ∀h' f',cg h' e (CM G i d f')->bg e G h (CM G i d f') h'->K aE h'):Cl 166 [bh e,nu e i] h K:=by
 refine qv W.I W.R W.de.2.2 hi hd ed hM λh' I' R' O'=> ?_;have C':=vX W.C hi hd
 have hS: ∀b∈e::G.B,b∉G.L/\ ¬dx G.E.p G.P b:=λb hb=>by
  rcases List.mem_cons.1 hb with q|q
  ·subst q;exact⟨W.de.1,W.de.2.1⟩
  ·exact W.dB b q
 refine hK h' _ ⟨W.W.only O' (λb hb=>(hS b hb).1) (λb hb=>(hS b hb).2),R',I',C',W.de,W.dB,λk hk r hr ht=> ?_,λk hk r hr ht=> ?_,λk hk=> ?_,W.po⟩ (bg.some O' (λb hb=> ?_) λb hb=>hb)
 ·have ht:((G.E.put i (gM (G.E.ses i) d)).ses k).there r=true:=ht;show isN G.N (((G.E.put i (gM (G.E.ses i) d)).ses k).hnd r);rw[fq]at ht ⊢;by_cases q:k=i
  ·rw[if_pos q]at ht ⊢;by_cases w:r=d
   ·subst w;rw[show(gM (G.E.ses i) r).there r=false from cp]at ht;cases ht
   ·rw[show(gM (G.E.ses i) d).hnd r=(G.E.ses i).hnd r from cK w];rw[show(gM (G.E.ses i) d).there r=(G.E.ses i).there r from cK w]at ht;exact W.rg i hi r hr ht
  ·rw[if_neg q]at ht ⊢;exact W.rg k hk r hr ht
 ·have ht:((G.E.put i (gM (G.E.ses i) d)).ses k).there r=false:=ht;show((G.E.put i (gM (G.E.ses i) d)).ses k).hnd r=0;rw[fq]at ht ⊢;by_cases q:k=i
  ·rw[if_pos q]at ht ⊢;by_cases w:r=d
   ·subst w;exact cp
   ·rw[show(gM (G.E.ses i) d).hnd r=(G.E.ses i).hnd r from cK w];rw[show(gM (G.E.ses i) d).there r=(G.E.ses i).there r from cK w]at ht;exact W.r0 i hi r hr ht
  ·rw[if_neg q]at ht ⊢;exact W.r0 k hk r hr ht
 ·show((G.E.put i (gM (G.E.ses i) d)).ses k).cal.mask<256;rw[fq];by_cases q:k=i
  ·rw[if_pos q];exact W.mq i hi
  ·rw[if_neg q];exact W.mq k hk
 ·rcases List.mem_cons.1 hb with q|q
  ·subst q;exact bi.2 (.inl rfl)
  ·exact bi.2 (.inr (.inr (.inl q)))
def Hq(i:Nat)(G G':EG):Prop:= ∃d:Nat,d<6/\(G.E.ses i).cal.dst=(d:Int)/\
 (((G.E.ses i).cal.kind=1/\ ∃G1 er,CZ i d G G1 er/\G'=fL G1 i er 0)\/
  ((G.E.ses i).cal.kind=2/\ ∃f',G'=fL (pT G i d (min 1 (G.E.ses i).cal.mask) f') i 0 0)\/
  ((G.E.ses i).cal.kind=6/\ ∃f',G'=fL (CM G i d f') i 0 0))
def CZ.ans{i d:Nat}{er:Int}(R:CZ i d G G' er):G'.E.ans=G.E.ans:=by
 obtain⟨G1,N2,L2,r,e',f',C1,-,-,e⟩:=R;subst e;have:G1.E.ans=G.E.ans:=by rw[C1.E]
 split
 ·exact this
 ·exact this
def FN(mr:ku C)(W:cg h e G){i:Nat}(hi:i<4)(hC:C (be G.N) G.room)(hM:G.M+2000<=LB/1000)(ha:G.E.ans<1000000000)(hk:(G.E.ses i).cal.kind=1\/(G.E.ses i).cal.kind=2\/(G.E.ses i).cal.kind=6)(hr:refu G.n (G.E.ses i) (G.E.ses i).cal=0)
  (hK: ∀h' G',cg h' e G'->bg e G h G' h'->Hq i G G'->K aC h'):Cl 123 [bh e,nu e i] h K:=by
 have hLB:LB=140737488355328:=rfl;obtain⟨-,z2,-,z4⟩:=hH hr;obtain⟨-,z5,-,-⟩:=oR z4;have hd:=z2 (by unfold vF;omega);obtain⟨d,ed⟩: ∃d:Nat,(G.E.ses i).cal.dst=(d:Int):=⟨(G.E.ses i).cal.dst.toNat,by unfold iQ at hd;omega⟩;have d6:d<6:=by unfold iQ at hd;omega
 refine F123.spec ?_;simp only[aL,Nat.zero_add];refine aI (W.I.kind hi ah) ?_;rcases hk with k|k|k
 ·rw[k,show((1:Int)==1)=true from rfl,aO];refine uU mr W hi hC hM (z5 k) d6 ed λh1 G1 er W1 S1 V=>aI rfl ?_;unfold F123.wk8;refine fZ (n:=0) W1 hi (by rw[V.ans];exact ha) λh2 W2 S2=>⟨rfl,?_⟩;exact hK h2 _ W2 (S1.trans S2) ⟨d,d6,ed,.inl ⟨k,G1,er,V,rfl⟩⟩
 ·rw[k,show((2:Int)==1)=false from rfl,aJ,show((2:Int)==6)=false from rfl,aJ];have mq:=W.mq i hi;refine aI (W.I.mask hi ah) ?_
  have em:(IntKind.wrap .u32 (if(1:Int)<((G.E.ses i).cal.mask:Int)then(1:Int)else((G.E.ses i).cal.mask:Int)))=((min 1 (G.E.ses i).cal.mask:Nat):Int):=by
   by_cases q:1<(G.E.ses i).cal.mask
   ·rw[if_pos ah,show min 1 (G.E.ses i).cal.mask=1 by omega];rfl
   ·rw[if_neg ah,show min 1 (G.E.ses i).cal.mask=(G.E.ses i).cal.mask by omega];exact gY ah
  rw[em];refine uB W hi d6 ed (.inl ah) ah λh1 f1 W1 S1=>⟨rfl,?_⟩;unfold F123.wk8;refine fZ (n:=0) W1 hi ha λh2 W2 S2=>⟨rfl,?_⟩;exact hK h2 _ W2 (S1.trans S2) ⟨d,d6,ed,.inr (.inl ⟨k,f1,rfl⟩)⟩
 ·rw[k,show((6:Int)==1)=false from rfl,aJ,show((6:Int)==6)=true from rfl,aO];refine zJ W hi d6 ed ah λh1 f1 W1 S1=>⟨rfl,?_⟩;unfold F123.wk8;refine fZ (n:=0) W1 hi ha λh2 W2 S2=>⟨rfl,?_⟩;exact hK h2 _ W2 (S1.trans S2) ⟨d,d6,ed,.inr (.inr ⟨k,f1,rfl⟩)⟩
def qG(W:cg h e G)(hT:jP G.E->K aC h)(hF: ¬jP G.E->K aB h):Cl 99 [bh e] h K:=by
 refine F99.spec _ h K ?_;unfold F99.wk2
 have main: ∀(d k:Nat),d+k=4->(∀j,j<k->(G.E.ses j).pend=false)->F99.wL2 (d+1) (aw e) (k:Int) h K:=by
  intro d
  induction d with
  |zero=>
   intro k hk hb;rw[F99.sL2];rw[decide_eq_false ah,aJ];refine hF λ⟨j,hj,hp⟩=> ?_;rw[hb j ah]at hp;cases hp
  |succ d ih=>
   intro k hk hb;rw[F99.sL2];rw[decide_eq_true ah,aO];refine qg W.I (λq=>ah) λk' hk' ek=>aY rfl (aT (λp=> ?_) λp=> ?_)
   ·exact hT ⟨k',hk',p⟩
   ·rw[t8 ah];refine ih (k+1) ah λj hj=> ?_;by_cases q:j=k
    ·rw[q,show k=k' by omega];exact p
    ·exact hb j ah
 exact⟨_,main 4 0 ah λj hj=>ah⟩
def rE{m:Nat}(Inv:Nat->aH->EG->Prop)(J:Nat->Nat->aH->EG->Prop)(nw:Nat)(hnw:nw<=4)(h0:Inv m h G)(hm:m<1048576)
  (hW: ∀{m h1 G1},Inv m h1 G1->cg h1 e G1) (hJ: ∀{m w h1 G1},J m w h1 G1->cg h1 e G1/\G1.P.ws.length=nw)
  (hS: ∀{m h1 G1},Inv m h1 G1->jP G1.E->J m 0 h1 G1)
  (hP: ∀{m w h1 G1} {Q:KK} {draw:Int},w<nw->J m w h1 G1->(∀b h2 G2,J m (w+1) h2 G2->Q (aD b) h2)->Cl 26 [bh e,al (w:Int),al draw] h1 Q)
  (hE: ∀{m h1 G1},J m nw h1 G1-> ∃m',m'<m/\Inv m' h1 G1)
  (hK: ∀m' h1 G1,m'<=m->Inv m' h1 G1-> ¬jP G1.E->K aC h1):Cl 42 [bh e] h K:=by
 refine F42.spec _ h K ?_;unfold F42.w F42.J0 F42.wk2 F42.Jk2
 have main: ∀(d i m':Nat) (xi:Int) (h1:aH) (G1:EG),xi=(i:Int)->d+i=m+1->m'+i<=m->Inv m' h1 G1->F42.wL2 (d+1) (aw e) xi h1 K:=by
  intro d
  induction d with
  |zero=>intro i m' xi h1 G1 exi hi hm';omega
  |succ d ih=>
   intro i m' xi h1 G1 exi hi hm' I;unfold F42.wL2 F42.JL2;rw[decide_eq_true ah,aO];refine qG (hW I) (λa=>aY rfl ?_) λa=>aY rfl ?_
   ·rw[aO];unfold F42.wk5 F42.Jk5
    have inner: ∀(d2 w:Nat) (h2:aH) (G2:EG),d2+w=nw->J m' w h2 G2->F42.wL5 (λx0 x3 h=>F42.wL2 (d+1) x0 x3 h K) (d2+1) (aw e) xi (w:Int) h2 K:=by
     intro d2
     induction d2 with
     |zero=>
      intro w h2 G2 hw I2;unfold F42.wL5 F42.JL5;obtain⟨W2,wl⟩:=hJ I2;refine im W2 (aI rfl ?_);rw[decide_eq_false ah,aJ];have ew:w=nw:=ah;subst ew;obtain⟨m2,lt,I3⟩:=hE I2;exact ih (i+1) m2 _ h2 G2 (by rw[exi,wrap_i64 ah ah];omega) ah ah I3
     |succ d2 ih2=>
      intro w h2 G2 hw I2;unfold F42.wL5 F42.JL5;obtain⟨W2,wl⟩:=hJ I2;refine im W2 (aI rfl ?_);rw[decide_eq_true ah,aO];refine hP ah I2 λb h3 G3 I3=>aY rfl ?_;rw[t8 ah];exact ih2 (w+1) h3 G3 ah I3
    exact⟨_,inner nw 0 h1 G1 ah (hS I a)⟩
   ·rw[aJ];unfold F42.wk8 F42.Jk8;exact qG (hW I) (λq=>absurd q a) λq=>aY rfl (hK m' h1 G1 ah I a)
 exact⟨_,main (m+1) 0 m 0 h G rfl ah ah h0⟩
end
end
section
def sI(n:Nat)(fo:Nat->Nat)(N:ay)(x x':fE):Prop:= ∃d:Nat,d<6/\x.cal.dst=(d:Int)/\
 ((x.cal.kind=1/\ ∃v,x'=eO (setS x d v) 0 0/\ ∀y,sm n fo N v y=y.testBit x.cal.mask)\/
  (x.cal.kind=2/\x'=eO (setS x d (min 1 x.cal.mask)) 0 0)\/(x.cal.kind=6/\x'=eO (gM x d) 0 0))
def sI.pend{n:Nat}{fo:Nat->Nat}{N:ay}{x x':fE}(R:sI n fo N x x'):x'.pend=false:=by obtain⟨d,-,-,⟨-,v,e,-⟩|⟨-,e⟩|⟨-,e⟩⟩:=R<;>subst e<;>rfl
def sI.to{n:Nat}{fo:Nat->Nat}{N N':ay}{x x':fE}(R:sI n fo N x x')(h: ∀r,r<6->x'.there r=true-> ∀y,sm n fo N' (x'.hnd r) y=sm n fo N (x'.hnd r) y):sI n fo N' x x':=by
 obtain⟨d,d6,ed,⟨k,v,e,s⟩|⟨k,e⟩|⟨k,e⟩⟩:=R
 ·refine⟨d,d6,ed,.inl ⟨k,v,e,λy=> ?_⟩⟩;subst e;have:=h d d6 cp y;rw[show(eO (setS x d v) 0 0).hnd d=v from cp]at this;rw[this,s]
 ·exact⟨d,d6,ed,.inr (.inl ⟨k,e⟩)⟩
 ·exact⟨d,d6,ed,.inr (.inr ⟨k,e⟩)⟩
def vx(E:fV)(i:Nat):Nat:=fu (λk=>if(E.ses k).pend=true then 1 else 0) i
structure mR(G0:EG)(i:Nat)(G:EG):Prop where
 s:G.E.s=G0.E.s/\G.E.p=G0.E.p/\G.E.r=G0.E.r
 n:G.n=G0.n
 fo:G.fo=G0.fo
 gg:G.gg=G0.gg
 room:G.room=G0.room
 off:G.off=G0.off
 ws:G.P.ws.length=G0.P.ws.length
 jobs:G.P.jobs=[]
 last:G.P.last=G0.P.last
 cnt:be G.N<=be G0.N+i
 M:G0.M<=G.M/\G.M<=G0.M+1002*i+1000
 ans:G.E.ans=G0.E.ans+vx G0.E i
 lo: ∀k,k<i->k<4->((G0.E.ses k).pend=true->sI G0.n G0.fo G.N (G0.E.ses k) (G.E.ses k))/\((G0.E.ses k).pend=false->G.E.ses k=G0.E.ses k)
 hi: ∀k,i<=k->G.E.ses k=G0.E.ses k
 old: ∀k,k<4-> ∀r,r<6->(G0.E.ses k).there r=true->(G.E.ses k).there r=true->(G.E.ses k).hnd r=(G0.E.ses k).hnd r-> ∀y,sm G0.n G0.fo G.N ((G0.E.ses k).hnd r) y=sm G0.n G0.fo G0.N ((G0.E.ses k).hnd r) y
structure zx(G:EG):Prop where
 jobs:G.P.jobs=[]
 kind: ∀i,i<4->(G.E.ses i).pend=true->((G.E.ses i).cal.kind=1\/(G.E.ses i).cal.kind=2\/(G.E.ses i).cal.kind=6)/\refu G.n (G.E.ses i) (G.E.ses i).cal=0
 room:be G.N+5<G.room
 M:G.M+20000<=LB/1000
 ans:G.E.ans+10<1000000000
def mT{G:EG}{i d v n:Nat}{er:Int}{f':Int->Int}:(fL (pT G i d v f') i er n).E.ses=gx G.E.ses i (eO (setS (G.E.ses i) d v) er n):=by show gx (gx G.E.ses i _) i (eO (gx G.E.ses i (setS (G.E.ses i) d v) i) er n)=_;rw[gP,cp]
def uf{G:EG}{i d n:Nat}{er:Int}{f':Int->Int}:(fL (CM G i d f') i er n).E.ses=gx G.E.ses i (eO (gM (G.E.ses i) d) er n):=by show gx (gx G.E.ses i _) i (eO (gx G.E.ses i (gM (G.E.ses i) d) i) er n)=_;rw[gP,cp]
section
variable {h h':aH}{e i:Nat}{G G0 G':EG}{K:KK}
def mR.refl(hj:G0.P.jobs=[]):mR G0 0 G0:=⟨⟨rfl,rfl,rfl⟩,rfl,rfl,rfl,rfl,rfl,rfl,hj,rfl,Nat.le_refl _,⟨Nat.le_refl _,ah⟩,rfl,λk hk=>ah,λk hk=>rfl,λk hk r hr ht ht' he y=>rfl⟩
def mR.mono(R:mR G0 i G){N':ay}(hs: ∀v,(∃k r,k<4/\r<6/\(G.E.ses k).there r=true/\v=(G.E.ses k).hnd r)-> ∀y,sm G0.n G0.fo N' v y=sm G0.n G0.fo G.N v y):
  (∀k,k<i->k<4->((G0.E.ses k).pend=true->sI G0.n G0.fo N' (G0.E.ses k) (G.E.ses k))/\((G0.E.ses k).pend=false->G.E.ses k=G0.E.ses k))/\
  (∀k,k<4-> ∀r,r<6->(G0.E.ses k).there r=true->(G.E.ses k).there r=true->(G.E.ses k).hnd r=(G0.E.ses k).hnd r-> ∀y,sm G0.n G0.fo N' ((G0.E.ses k).hnd r) y=sm G0.n G0.fo G0.N ((G0.E.ses k).hnd r) y):=
 ⟨λk hk h4=>⟨λp=>((R.lo k hk h4).1 p).to λr hr ht=>hs _ ⟨k,r,h4,hr,ht,rfl⟩,(R.lo k hk h4).2⟩,λk hk r hr ht ht' he y=>by rw[<-he,hs _ ⟨k,r,hk,hr,ht',rfl⟩ y,he];exact R.old k hk r hr ht ht' he y⟩
def mR.lay(Ea:zx G0)(R:mR G0 i G)(W:cg h e G)(W':cg h' e G')(hi:i<4)(hp:(G.E.ses i).pend=true)(L:Hq i G G'):mR G0 (i+1) G':=by
 have ei:=R.hi i (Nat.le_refl _);have pi:(G0.E.ses i).pend=true:=by rw[<-ei];exact hp
 obtain⟨kd,rf⟩:=Ea.kind i hi pi;have nP:vx G0.E (i+1)=vx G0.E i+1:=by unfold vx;show fu _ i+(if _ then 1 else 0)=_;rw[if_pos pi]
 obtain⟨d,d6,ed,L⟩:=L
 have fin: ∀(N':ay) (x':fE),G'.E.ses=gx G.E.ses i x'->G'.N=N'->(∀v,(∃k r,k<4/\r<6/\(G.E.ses k).there r=true/\(G'.E.ses k).there r=true/\(G'.E.ses k).hnd r=(G.E.ses k).hnd r/\v=(G.E.ses k).hnd r)-> ∀y,sm G0.n G0.fo N' v y=sm G0.n G0.fo G.N v y)->sI G0.n G0.fo N' (G0.E.ses i) x'->
   (G'.E.s=G.E.s/\G'.E.p=G.E.p/\G'.E.r=G.E.r)->G'.n=G.n->G'.fo=G.fo->G'.gg=G.gg->G'.room=G.room->G'.off=G.off->G'.P=G.P->be N'<=be G.N+1->(G.M<=G'.M/\G'.M<=G.M+1002)->G'.E.ans=G.E.ans+1->mR G0 (i+1) G':=by
  intro N' x' es eN hs sr e1 e2 e3 e4 e5 e6 e7 e8 e9 e10;have sk: ∀k,G'.E.ses k=if k=i then x' else G.E.ses k:=λk=>by rw[es];rfl
  refine⟨⟨e1.1.trans R.s.1,e1.2.1.trans R.s.2.1,e1.2.2.trans R.s.2.2⟩,e2.trans R.n,e3.trans R.fo,e4.trans R.gg,e5.trans R.room,e6.trans R.off,by rw[e7];exact R.ws,by rw[e7];exact R.jobs,by rw[e7];exact R.last,?_,⟨Nat.le_trans R.M.1 e9.1,by have:=R.M.2;omega⟩,by rw[e10,nP,R.ans];omega,λk hk h4=> ?_,λk hk=> ?_,λk hk r hr ht ht' he y=> ?_⟩
  ·have:=R.cnt;rw[eN];omega
  ·by_cases q:k=i
   ·subst q;rw[sk,if_pos rfl,eN];exact⟨λ_=>sr,λp=>by rw[p]at pi;cases pi⟩
   ·rw[sk,if_neg q,eN];have lk:=R.lo k ah h4;refine⟨λp=>(lk.1 p).to λr hr ht=>hs _ ⟨k,r,h4,hr,ht,?_,?_,rfl⟩,lk.2⟩
    ·rw[sk,if_neg q];exact ht
    ·rw[sk,if_neg q]
  ·rw[sk,if_neg ah];exact R.hi k ah
  ·rw[eN];by_cases q:k=i
   ·subst q;have ht2:(G.E.ses k).there r=true:=by rw[ei];exact ht
    have:=hs _ ⟨k,r,hk,hr,ht2,ht',by rw[he,ei],rfl⟩ y;rw[ei]at this;rw[this];exact R.old k hk r hr ht ht2 (by rw[ei]) y
   ·have ht2:(G.E.ses k).there r=true:=by rw[sk,if_neg q]at ht';exact ht'
    have he2:(G.E.ses k).hnd r=(G0.E.ses k).hnd r:=by rw[sk,if_neg q]at he;exact he
    have:=hs _ ⟨k,r,hk,hr,ht2,ht',by rw[he,he2],rfl⟩ y;rw[he2]at this;rw[this];exact R.old k hk r hr ht ht2 he2 y
 rcases L with⟨k,G1,er,V,e⟩|⟨k,f',e⟩|⟨k,f',e⟩
 ·obtain⟨G2,N2,L2,v,er',f',C1,M,ee,e1⟩:=V;obtain⟨E2,he2,hfull⟩:=Ef M
  have er0:er'=0:=by
   rcases he2 with q|q
   ·exact q
   ·exfalso;have h1:=(hfull q).1;have h2:=C1.cnt;have h3:=R.cnt;have h4:=Ea.room;rw[C1.room,R.room]at h1;omega
  subst er0;rw[if_pos rfl]at e1;subst e1 ee e
  have mkn:(G.E.ses i).cal.mask<G2.n:=by have z:=(oR (hH rf).2.2.2).2.1 (by rw[<-ei];exact k);rw[C1.n,R.n,ei];exact z
  have po:=W.po;rw[<-C1.n,<-C1.fo,<-C1.gg]at po;have pg:=po.1 _ mkn;have e0:lvl G2.n G2.N 0=G2.n:=by unfold lvl;rw[if_pos ah]
  have ok2:dz G2.n N2:=by have:=W'.W.S.ok.1;exact this
  have mn:=lF (f:=G2.fo) C1.ok ok2 (a:=0) (b:=1) (.inl ah) (.inl ah) (show _<lvl G2.n G2.N 0 by rw[e0];exact pg.1) M;have n0:G2.n=G0.n:=C1.n.trans R.n;have f0:G2.fo=G0.fo:=C1.fo.trans R.fo;have hE:G2.E=G.E:=C1.E;have c2:=yX M;have hc:=C1.cnt;have hM:=C1.M
  have es:(fL (pT (ny G2 N2 L2) i d v f') i ((0:Nat):Int) 0).E.ses=gx G.E.ses i (eO (setS (G.E.ses i) d v) 0 0):=by rw[<-hE];exact mT
  refine fin N2 _ es rfl (λw ⟨k',r,h4,hr,ht,_,_,ew⟩ y=> ?_) ⟨d,d6,(by rw[<-ei];exact ed),.inl ⟨(by rw[<-ei];exact k),v,(by rw[ei]),λy=> ?_⟩⟩ (by rw[<-hE];exact⟨rfl,rfl,rfl⟩) C1.n C1.fo C1.gg C1.room C1.off C1.P ah ⟨(by show G.M<=G2.M+2;omega),(by show G2.M+2<=_;omega)⟩ (by rw[<-hE];rfl)
  ·have hw:isN G2.N w:=by rw[ew];exact C1.rg k' h4 r hr ht
   rw[<-n0,<-f0,E2.sm C1.ok hw,C1.ex.sm C1.ok hw]
  ·rw[<-n0,<-f0,mn.2.2.2 y,pg.2,br ah,br ah,ei];cases y.testBit (G0.E.ses i).cal.mask<;>rfl
 ·subst e;exact fin G.N _ mT rfl (λv _ y=>rfl) ⟨d,d6,(by rw[<-ei];exact ed),.inr (.inl ⟨(by rw[<-ei];exact k),(by rw[ei])⟩)⟩ ⟨rfl,rfl,rfl⟩ rfl rfl rfl rfl rfl rfl ah ⟨(by show G.M<=G.M+2;omega),(by show G.M+2<=_;omega)⟩ rfl
 ·subst e;exact fin G.N _ uf rfl (λv _ y=>rfl) ⟨d,d6,(by rw[<-ei];exact ed),.inr (.inr ⟨(by rw[<-ei];exact k),(by rw[ei])⟩)⟩ ⟨rfl,rfl,rfl⟩ rfl rfl rfl rfl rfl rfl ah ⟨(by show G.M<=G.M+1;omega),(by show G.M+1<=_;omega)⟩ rfl
def fC(h: ∀k,k<4->(G.E.ses k).pend=false): ¬jP G.E:=λ⟨k,hk,hp⟩=>by rw[h k hk]at hp;cases hp
def mR.none(R:mR G0 4 G): ∀k,k<4->(G.E.ses k).pend=false:=λk hk=>by
 have:=R.lo k hk hk;cases q:(G0.E.ses k).pend with
 |true=>exact(this.1 q).pend
 |false=>rw[this.2 q];exact q
def mR.end{w:Nat}(R:mR G0 4 G)(W:cg h e G)(P:lh w G G')(h1:G.M+1000<=G0.M+1002*4+1000):mR G0 4 G':=by
 obtain⟨G1,N',P',L',k,C1,-,e,Pk,hk,hph⟩:=P;subst e;have hj:P'.jobs=[]:=List.eq_nil_of_length_eq_zero (by have:=qD Pk.alike;rw[C1.P,R.jobs]at this;simpa using this);have j1:G1.P.jobs=[]:=by rw[C1.P];exact R.jobs
 have hE:G1.E=G.E:=C1.E;have n0:G1.n=G0.n:=C1.n.trans R.n;have f0:G1.fo=G0.fo:=C1.fo.trans R.fo
 have cn:be N'<=be G1.N:=by have:=Pk.le2;unfold psi at this;rw[hj,j1]at this;simpa using this
 have hc:=C1.cnt;have rc:=R.cnt;have hM:=C1.M;have rM:=R.M
 have mo:=R.mono (N':=N') λv ⟨k',r,h4,hr,ht,ev⟩ y=>by
  have hv:isN G1.N v:=by rw[ev];exact C1.rg k' h4 r hr ht
  rw[<-n0,<-f0,Pk.ex.sm C1.ok hv,C1.ex.sm C1.ok hv]
 have he:({G1 with N:=N',P:=P',L:=L'}:EG).E=G.E:=hE;exact⟨(by rw[he];exact R.s),n0,f0,C1.gg.trans R.gg,C1.room.trans R.room,C1.off.trans R.off,(by show P'.ws.length=_;rw[Pk.alike.2.1,C1.P];exact R.ws),hj,(by show P'.last=_;rw[Pk.alike.1,C1.P];exact R.last),(by show be N'<=_;omega),⟨(by show G0.M<=G1.M;omega),(by show G1.M<=_;omega)⟩,(by rw[he];exact R.ans),(by rw[he];exact mo.1),(by rw[he];exact R.hi),(by rw[he];exact mo.2)⟩
end
end
section
section
variable {h h':aH}{e i:Nat}{G G0 G':EG}{K:KK}
def zV{E:fV}: ∀i,(∀k,k<i->(E.ses k).pend=false)->vx E i=0:=by
 intro i
 induction i with
 |zero=>intro _;rfl
 |succ i ih=>
  intro hb;unfold vx fu;have:vx E i=0:=ih λk hk=>hb k ah;unfold vx at this;rw[this,hb i ah]
  rfl
def mR.idle(hj:G0.P.jobs=[])(hn: ¬jP G0.E):mR G0 4 G0:=by
 have np: ∀k,k<4->(G0.E.ses k).pend=false:=λk hk=>by
  cases q:(G0.E.ses k).pend with
  |true=>exact absurd ⟨k,hk,q⟩ hn
  |false=>rfl
 exact⟨⟨rfl,rfl,rfl⟩,rfl,rfl,rfl,rfl,rfl,rfl,hj,rfl,ah,⟨Nat.le_refl _,ah⟩,by rw[zV 4 np];rfl,λk hk h4=>⟨λp=>(by rw[np k h4]at p;cases p),λ_=>rfl⟩,λk hk=>rfl,λk hk r hr ht ht' he y=>rfl⟩
def xV{k:Int}(h:k=1\/k=2\/k=6):fJ k=123:=if_pos h
def Af{E:fV}: ∀i,vx E i<=i:=by
 intro i
 induction i with
 |zero=>exact Nat.le_refl _
 |succ i ih=>
  unfold vx fu;unfold vx at ih;split<;>omega
def mR.skip(R:mR G0 i G)(hp:(G.E.ses i).pend=false):mR G0 (i+1) G:=by
 have ei:=R.hi i (Nat.le_refl _);have pi:(G0.E.ses i).pend=false:=by rw[<-ei];exact hp
 refine⟨R.s,R.n,R.fo,R.gg,R.room,R.off,R.ws,R.jobs,R.last,by have:=R.cnt;omega,⟨R.M.1,by have:=R.M.2;omega⟩,?_,λk hk h4=> ?_,λk hk=>R.hi k ah,R.old⟩
 ·rw[R.ans];show _=G0.E.ans+(vx G0.E i+if(G0.E.ses i).pend=true then 1 else 0);rw[pi]
  rfl
 ·by_cases q:k=i
  ·subst q;exact⟨λp=>(by rw[p]at pi;cases pi),λ_=>ei⟩
  ·exact R.lo k ah h4
def jD{who draw:Int}(W:cg h e G)(hN:who<0\/(G.P.ws.length:Int)<=who\/ ¬jP G.E)(hK: ∀h',aM [] h h'->K aB h'):Cl 26 [bh e,al who,al draw] h K:=by
 refine F26.spec _ _ _ h K ?_;refine aT (λq=>hK h (aM.refl _ _)) λq=> ?_;have q:=of_decide_eq_false q;refine im W (aI rfl (aT (λp=>hK h (aM.refl _ _)) λp=> ?_));have p: ¬(G.P.ws.length:Int)<=who:=of_decide_eq_false p;have no: ¬jP G.E:=by rcases hN with z|z|z<;>first|omega|exact z
 exact qy W.I (λa=>absurd a no) λ_ h1 O1=>aY rfl (hK h1 O1)
def xx(W:cg h e G0)(Ea:zx G0){w:Nat}(hw:w<G0.P.ws.length){draw:Int}(hN: ¬jP G0.E-> ∀h',aM [] h h'->K aB h')
  (hY:jP G0.E-> ∀h' G',cg h' e G'->bg e G0 h G' h'->mR G0 4 G'->K aC h'):Cl 26 [bh e,al (w:Int),al draw] h K:=by
 have eM:=Ea.M
 refine uF W (λq h1 O1=>hN ?_ h1 O1) (λi h1 G1=>cg h1 e G1/\bg e G0 h G1 h1/\mR G0 i G1/\G1.M<=G0.M+1002*i) (λh1 O1=>⟨W.only0 O1,bg.only0 O1,mR.refl Ea.jobs,ah⟩)
  (λ{i h1 G1 h2} I O=>⟨I.1.only0 O,I.2.1.trans (bg.only0 O),I.2.2⟩) (λI=>I.1) (λ{i h1 G1} hi I hp=>⟨I.1,I.2.1,I.2.2.1.skip hp,by have:=I.2.2.2;omega⟩) (λ{i h1 G1 Q} hi I hp hQ=> ?_) (λ_ _ a h1 G1 I=> ?_)
 ·rcases q with q|q|q
  ·omega
  ·omega
  ·exact q
 ·obtain⟨W1,S1,R1,M1⟩:=I;have ei:=R1.hi i (Nat.le_refl _);obtain⟨kd,rf⟩:=Ea.kind i hi (by rw[<-ei];exact hp);have kd1:(G1.E.ses i).cal.kind=1\/(G1.E.ses i).cal.kind=2\/(G1.E.ses i).cal.kind=6:=by rw[ei];exact kd
  rw[xV kd1];have rc:=R1.cnt;have rm:=Ea.room;have ra:=R1.ans;have na:=Af (E:=G0.E) i;have ea:=Ea.ans;refine FN kI W1 hi (by show be G1.N<G1.room;rw[R1.room];omega) ah ah kd1 (by rw[ei,R1.n];exact rf) λh2 G2 W2 S2 L=> ?_;refine hQ true h2 G2 ⟨W2,S1.trans S2,mR.lay Ea R1 W1 W2 hi hp L,?_⟩;obtain⟨d,-,-,⟨-,G3,er,⟨G4,N2,L2,v,er',f',C1,-,-,e1⟩,e2⟩|⟨-,f',e2⟩|⟨-,f',e2⟩⟩:=L
  ·have:=C1.M;have:G3.M<=G4.M+2:=by rw[e1];split<;>(first|exact Nat.le_refl _|exact Nat.le_add_right _ _)
   have:G2.M=G3.M:=by rw[e2];rfl
   omega
  ·have:G2.M=G1.M+2:=by rw[e2];rfl
   omega
  ·have:G2.M=G1.M+1:=by rw[e2];rfl
   omega
 ·obtain⟨W1,S1,R1,M1⟩:=I;have rc:=R1.cnt;have rm:=Ea.room;refine iu kI W1 (by show be G1.N<G1.room;rw[R1.room];omega) ah (by rw[R1.ws];exact hw) λh2 G2 W2 S2 P=> ?_;exact hY a h2 G2 W2 (S1.trans S2) (R1.end W1 P ah)
def qL(W:cg h e G0)(Ea:zx G0)(hK: ∀h' G',cg h' e G'->bg e G0 h G' h'->mR G0 4 G'->K aC h'):Cl 42 [bh e] h K:=by
 have wl:=W.W.Ok.len
 refine rE (m:=1) (λm h1 G1=>cg h1 e G1/\bg e G0 h G1 h1/\((m=1/\G1=G0)\/(m=0/\mR G0 4 G1))) (λm w h1 G1=>cg h1 e G1/\bg e G0 h G1 h1/\m=1/\((w=0/\G1=G0/\jP G0.E)\/(1<=w/\mR G0 4 G1))) G0.P.ws.length wl.2
  ⟨W,bg.refl,.inl ⟨rfl,rfl⟩⟩ ah (λI=>I.1) (λ{m w h1 G1} I=>⟨I.1,?_⟩) (λ{m h1 G1} I a=>⟨I.1,I.2.1,?_⟩) (λ{m w h1 G1 Q draw} hw I hQ=> ?_) (λ{m h1 G1} I=> ?_) (λm' h1 G1 _ I a=> ?_)
 ·rcases I.2.2.2 with⟨-,q,-⟩|⟨-,q⟩
  ·rw[q]
  ·exact q.ws
 ·rcases I.2.2 with⟨q1,q2⟩|⟨q1,q2⟩
  ·subst q2;exact⟨q1,.inl ⟨rfl,rfl,a⟩⟩
  ·exact absurd a (fC q2.none)
 ·obtain⟨W1,S1,m1,q⟩:=I;rcases q with⟨q1,q2,q3⟩|⟨q1,q2⟩
  ·subst q2;exact xx W1 Ea hw (λa=>absurd q3 a) λa h2 G2 W2 S2 R2=>hQ _ h2 G2 ⟨W2,S1.trans S2,m1,.inr ⟨ah,R2⟩⟩
  ·have no:=fC q2.none;exact jD W1 (.inr (.inr no)) λh2 O2=>hQ _ h2 G1 ⟨W1.only0 O2,S1.trans (bg.only0 O2),m1,.inr ⟨ah,q2⟩⟩
 ·obtain⟨W1,S1,m1,q⟩:=I;rcases q with⟨q1,-,-⟩|⟨q1,q2⟩
  ·omega
  ·exact⟨0,ah,W1,S1,.inr ⟨rfl,q2⟩⟩
 ·obtain⟨W1,S1,q⟩:=I;rcases q with⟨q1,q2⟩|⟨q1,q2⟩
  ·subst q2;exact hK h1 G1 W1 S1 (mR.idle Ea.jobs a)
  ·exact hK h1 G1 W1 S1 q2
end
end
section
section
variable {h h':aH}{e i:Nat}{G G0 G':EG}{K:KK}
def cu(G:EG)(k:Nat)(c:kB):EG:={G with E:=G.E.put k (eU (G.E.ses k) c)}
def nZ{c:kB}{i:Int}(W:cg h e G)(hm:c.mask<256)
  (hO:(i<0\/4<=i)-> ∀h',aM [] h h'->K (al 222) h')
  (hB: ∀k:Nat,k<4->i=(k:Int)->(G.E.ses k).pend=true-> ∀h',aM [] h h'->K (al 220) h')
  (hR: ∀k:Nat,k<4->i=(k:Int)->(G.E.ses k).pend=false->refu G.n (G.E.ses k) c≠0-> ∀h',aM [] h h'->K (al (refu G.n (G.E.ses k) c)) h')
  (hK: ∀k:Nat,k<4->i=(k:Int)->(G.E.ses k).pend=false->refu G.n (G.E.ses k) c=0-> ∀h',cg h' e (cu G k c)->bg e G h (cu G k c) h'->K (al 0) h'):
  Cl 24 [bh e,al i,jR c] h K:=by
 refine DK W.I W.W.S W.de.1 hm hO hB hR λk hk ek hp hr h' I' O'=>hK k hk ek hp hr h' ?_ (bg.some O' (λb hb=>by simp at hb;subst hb;exact bi.2 (.inl rfl)) λb hb=>hb)
 have hs: ∀q,((cu G k c).E.ses q).there=(G.E.ses q).there/\((cu G k c).E.ses q).hnd=(G.E.ses q).hnd:=λq=>by
  show((G.E.put k (eU (G.E.ses k) c)).ses q).there=_/\((G.E.put k (eU (G.E.ses k) c)).ses q).hnd=_;rw[fq];by_cases z:q=k
  ·rw[if_pos z,z];exact⟨rfl,rfl⟩
  ·rw[if_neg z];exact⟨rfl,rfl⟩
 refine⟨W.W.only O' (λb hb=>by simp at hb;subst hb;exact W.de.1) (λb hb=>by simp at hb;subst hb;exact W.de.2.1),W.R.only O' (λb hb=>by simp at hb;subst hb;exact W.de.2.2),I',λx=> ?_,W.de,W.dB,λq hq r hr ht=> ?_,λq hq r hr ht=> ?_,λq hq=> ?_,W.po⟩
 ·rw[oF hs];exact W.C x
 ·rw[(hs q).2];rw[(hs q).1]at ht;exact W.rg q hq r hr ht
 ·rw[(hs q).2];rw[(hs q).1]at ht;exact W.r0 q hq r hr ht
 ·show((G.E.put k (eU (G.E.ses k) c)).ses q).cal.mask<256;rw[fq];by_cases z:q=k
  ·rw[if_pos z];exact hm
  ·rw[if_neg z];exact W.mq q hq
def xQ{n:Nat}{room x:Int}(h8:8<n)(hn:n<1000000)(hK:K (.tuple #[.pointer none,al 40]) h):Cl 18 [al (n:Int),al room,al x] h K:=by refine F18.spec ?_;refine F61.spec ?_;rw[decide_eq_false ah,aJ,decide_eq_true ah,aO];exact⟨_,_,rfl,hK⟩
end
end
section
def cW(x:fE)(i:Nat):Nat:=match (fX x.cal)[i]? with|some r=>x.hnd r.toNat|none=>0
def mj{x:fE}{i:Nat}{r:Int}(h:(fX x.cal)[i]? =some r):cW x i=x.hnd r.toNat:=by unfold cW;rw[h]
def qu{x:fE}{i:Nat}(h:(fX x.cal)[i]? =none):cW x i=0:=by unfold cW;rw[h]
def iH(x:fE)(n:Nat):fE:={x with job:=n}
section
variable {h h':aH}{e i:Nat}{G G0 G':EG}{K:KK}
def CE{b:Nat}{p:az}{l cc:Nat}{x5:Addr}{hb:aH}(hi:i<4)(W:cg h e G)(A:At h b (co 3 λ_=>ap (0:Int)))(hb0:b∉iD e G)(R:CR hb h p l (fX (G.E.ses i).cal))(hbb: ∀q L,p=some (aw q)->At h q L->q≠b)(ok:jW (G.E.ses i) (G.E.ses i).cal)
  (hK: ∀h',cg h' e G->At h' b (co 3 λj=>ap (cW (G.E.ses i) j:Int))->aM [b] h h'->F172.wk10 (aw e) ⟨e,3+24*i,none⟩ x5 (aw b) h' K):
  F172.wk6 (aw e) ⟨e,3+24*i,none⟩ x5 (aw b) p l cc (Nat.cast l:Int) 0 h K:=by
 obtain⟨el,R⟩:=R;have l3:=wH (G.E.ses i).cal;unfold F172.wk6
 have main: ∀(d k:Nat) (hh:aH),d+k=l->cg hh e G->At hh b (co 3 λj=>ap ((if j<k then cW (G.E.ses i) j else 0:Nat):Int))->aM [b] h hh->F172.wL6 (d+1) (aw e) ⟨e,3+24*i,none⟩ x5 (aw b) p l cc (Nat.cast l:Int) (k:Int) hh K:=by
  intro d
  induction d with
  |zero=>
   intro k hh hk W1 A1 O1;rw[F172.sL6];rw[decide_eq_false ah,aJ];refine hK hh W1 ?_ O1;rw[dR (g':=λj=>ap ((if j<k then cW (G.E.ses i) j else 0:Nat):Int)) λj hj=> ?_]
   ·exact A1
   ·by_cases q:j<k
    ·rw[if_pos q]
    ·rw[if_neg q,qu (List.getElem?_eq_none ah)]
  |succ d ih=>
   intro k hh hk W1 A1 O1;rw[F172.sL6];rw[decide_eq_true ah,aO];have hlen:k<(fX (G.E.ses i).cal).length:=ah;obtain⟨x,hx⟩: ∃x,(fX (G.E.ses i).cal)[k]? =some x:=⟨_,List.getElem?_eq_getElem hlen⟩;rcases R with R|⟨q,Lc,ep,gb,Ab,g⟩
   ·rw[R]at hlen;simp at hlen
   have qb:=hbb q Lc ep Ab;have Aq:=Ab.only O1 (by simp;exact qb);obtain⟨rx,tx⟩:=ok x (List.mem_of_getElem? hx);have r6:x.toNat<6:=by unfold iQ at rx;omega
   rw[ep];refine⟨ah,ah,aI (n:=x) (by simp only[aL];rw[At.rd Aq,show 0+Int.toNat (Nat.cast k:Int)*1=k by simp];exact g k x hx) ⟨rx.1,rx.2,?_⟩⟩;refine aI (n:=((G.E.ses i).hnd x.toNat:Int)) (by simp only[aL];exact W1.I.hnd hi r6 ah) ⟨ah,ah,?_⟩;simp only[aL];rw[show 0+Int.toNat (Nat.cast k:Int)*1+0=k by simp];refine aS A1 (by rw[bJ];omega) rfl λh2 A2 O2 z2=> ?_;rw[t8 ah,<-ep];have W2:cg h2 e G:=⟨W1.W.only O2 (λy hy hm=>by simp at hy;subst hy;exact hb0 (bi.2 (.inr (.inl hm)))) (λy hy hm=>by simp at hy;subst hy;exact hb0 (bi.2 (.inr (.inr (.inr hm))))),W1.R.only O2 (λy hy hm=>by simp at hy;subst hy;exact hb0 (bi.2 (.inr (.inr (.inl hm))))),W1.I.only O2 (λhm=>by simp at hm;exact hb0 (bi.2 (.inl hm.symm))),W1.C,W1.de,W1.dB,W1.rg,W1.r0,W1.mq,W1.po⟩;refine ih (k+1) h2 ah W2 ?_ (O1.trans O2 λy hy _=>hy);rw[dQ]at A2;rw[dR (g':=λj=>if j=k then ap ((G.E.ses i).hnd x.toNat:Int)else ap ((if j<k then cW (G.E.ses i) j else 0:Nat):Int)) λj hj=> ?_]
   ·exact A2
   ·by_cases z:j=k
    ·rw[if_pos z,if_pos ah,z,mj hx]
    ·rw[if_neg z];by_cases z2:j<k
     ·rw[if_pos z2,if_pos ah]
     ·rw[if_neg z2,if_neg ah]
 refine⟨_,main l 0 h ah W ?_ (aM.refl _ _)⟩;rw[dR (g':=λ_=>ap (0:Int)) λj hj=>by rw[if_neg ah];rfl];exact A
def ry(G:EG)(i:Nat)(ws:List Wk)(A:MA):EG:=
 {G with E:=G.E.put i (iH (G.E.ses i) (G.P.last+1)),P:={G.P with ws:=ws,jobs:=G.P.jobs++[⟨G.P.last+1,A,du (G.E.ses i).cal.op.toNat (cW (G.E.ses i) 0) (cW (G.E.ses i) 1) (cW (G.E.ses i) 2)⟩],last:=G.P.last+1}}
def yv{n:Nat}(W:cg h e G)(hi:i<4)(I:dj h' e (G.E.put i (iH (G.E.ses i) n)))(O:aM [e] h h'):cg h' e {G with E:=G.E.put i (iH (G.E.ses i) n)}/\bg e G h {G with E:=G.E.put i (iH (G.E.ses i) n)} h':=by
 have hs: ∀q,((G.E.put i (iH (G.E.ses i) n)).ses q).there=(G.E.ses q).there/\((G.E.put i (iH (G.E.ses i) n)).ses q).hnd=(G.E.ses q).hnd/\((G.E.put i (iH (G.E.ses i) n)).ses q).cal=(G.E.ses q).cal:=λq=>by
  rw[fq];by_cases z:q=i
  ·rw[if_pos z,z];exact⟨rfl,rfl,rfl⟩
  ·rw[if_neg z];exact⟨rfl,rfl,rfl⟩
 refine⟨⟨W.W.only O (λb hb=>by simp at hb;subst hb;exact W.de.1) (λb hb=>by simp at hb;subst hb;exact W.de.2.1),W.R.only O (λb hb=>by simp at hb;subst hb;exact W.de.2.2),I,λx=> ?_,W.de,W.dB,λk hk r hr ht=> ?_,λk hk r hr ht=> ?_,λk hk=> ?_,W.po⟩,bg.some O (λb hb=>by simp at hb;subst hb;exact bi.2 (.inl rfl)) λb hb=>hb⟩
 ·show G.f (x:Int)=(kL (G.E.put i (iH (G.E.ses i) n)) x:Int);rw[oF λk=>⟨(hs k).1,(hs k).2.1⟩];exact W.C x
 ·show isN G.N (((G.E.put i (iH (G.E.ses i) n)).ses k).hnd r);have ht:((G.E.put i (iH (G.E.ses i) n)).ses k).there r=true:=ht;rw[(hs k).2.1];rw[(hs k).1]at ht;exact W.rg k hk r hr ht
 ·show((G.E.put i (iH (G.E.ses i) n)).ses k).hnd r=0;have ht:((G.E.put i (iH (G.E.ses i) n)).ses k).there r=false:=ht;rw[(hs k).2.1];rw[(hs k).1]at ht;exact W.r0 k hk r hr ht
 ·show((G.E.put i (iH (G.E.ses i) n)).ses k).cal.mask<256;rw[(hs k).2.2];exact W.mq k hk
def rJ(W:cg h e G)(hi:i<4)(ok:jW (G.E.ses i) (G.E.ses i).cal){j:Nat}(hj:j<(fX (G.E.ses i).cal).length):isN G.N (cW (G.E.ses i) j):=by obtain⟨x,hx⟩: ∃x,(fX (G.E.ses i).cal)[j]? =some x:=⟨_,List.getElem?_eq_getElem hj⟩;obtain⟨rx,tx⟩:=ok x (List.mem_of_getElem? hx);rw[mj hx];exact W.rg i hi _ (by unfold iQ at rx;omega) tx
def vP(W:cg h e G)(hi:i<4)(k3:(G.E.ses i).cal.kind=3){op:Nat}(eo:(G.E.ses i).cal.op=(op:Int))(hop:op=1\/op=2\/op=3\/op=4\/op=5)(ok:jW (G.E.ses i) (G.E.ses i).cal)(hR: ¬BH G.E)(hj:G.P.jobs.length<64)(hl:G.P.last+1<100000000)
  (hK: ∀h' ws A,cg h' e (ry G i ws A)->bg e G h (ry G i ws A) h'->ws.length=G.P.ws.length->A.done=false->A.e=0->fy G.n G.N A.fs<=1021->gK G.n G.N A.fs<=2^G.n-1->qlen ws=qlen G.P.ws+1->K aB h'):
  Cl 172 [bh e,nu e i] h K:=by
 refine F172.spec _ _ h K ?_;refine Aj W.I (λa=>absurd a hR) λ_ h1 O1=>aY rfl ?_;rw[aJ];have W1:=W.only0 O1;simp only[aL,Nat.zero_add];refine aI (W1.I.kind hi ah) (aI (W1.I.op hi ah) (aI (W1.I.dst hi ah) (aI (W1.I.ca hi ah) (aI (W1.I.cb hi ah) (aI (W1.I.cc hi ah) (aI (W1.I.mask hi ah) ?_))))));obtain⟨c,ec⟩: ∃c,c=(G.E.ses i).cal:=⟨_,rfl⟩;rw[<-ec];refine aV λh2 A2 O2 z2=> ?_;refine aS A2 ak rfl λh3 A3 O3 z3=>aS A3 ak rfl λh4 A4 O4 z4=>aS A4 ak rfl λh5 A5 O5 z5=>aS A5 ak rfl λh6 A6 O6 z6=>aS A6 ak rfl λh7 A7 O7 z7=>aS A7 ak rfl λh8 A8 O8 z8=>aS A8 ak rfl λh9 A9 O9 z9=> ?_;have A9:At h9 h1.size [al c.kind,al c.op,al c.dst,al c.a,al c.b,al c.c,.int .u8 (c.mask:Int)]:=A9;have O29:aM [h1.size] h2 h9:=(((((O3.trans O4 λb hb _=>hb).trans O5 λb hb _=>hb).trans O6 λb hb _=>hb).trans O7 λb hb _=>hb).trans O8 λb hb _=>hb).trans O9 λb hb _=>hb;have O19:aM [] h1 h9:=O2.trans O29 (by intro x hx hl;simp at hx;omega);refine aV λh10 A10 O10 z10=> ?_;have z12:=A9.lt;have A9':=A9.only O10 ak;have r: ∀k,rd h10 ⟨h1.size,k,none⟩=([al c.kind,al c.op,al c.dst,al c.a,al c.b,al c.c,.int .u8 (c.mask:Int)]:List Value)[k]? :=λk=>At.rd A9' k;refine aI (n:=c.kind) (by rw[r];rfl) (aI (n:=c.op) (by rw[r];rfl) (aI (n:=c.dst) (by rw[r];rfl) (aI (n:=c.a) (by rw[r];rfl) (aI (n:=c.b) (by rw[r];rfl) (aI (n:=c.c) (by rw[r];rfl) (aI (n:=(c.mask:Int)) (by rw[r];rfl) ?_))))));refine sO (c:=c) λh11 p l cc O11 R11=>⟨_,_,_,rfl,?_⟩;have W10:=(W1.only0 O19).only0 O10;have W11:=W10.only0 O11;have lt9:=(W1.only0 O19).lt;have A11:At h11 h9.size (co 3 λ_=>ap (0:Int)):=A10.only O11 ak;rw[ec]at R11;have nb:h9.size∉iD e G:=λhm=>by have:=lt9 _ hm;omega
 refine CE (b:=h9.size) hi W11 A11 nb R11 (λq L ep Aq=> ?_) ok λh12 W12 A12 O12=> ?_
 ·obtain⟨el,R⟩:=R11;rcases R with R|⟨q2,L2,e2,g2,-,-⟩
  ·intro eq;have l0:l=0:=by rw[el,R];rfl
   have hh:(fX (G.E.ses i).cal).length=(cL (G.E.ses i).cal.op).toNat:=by unfold fX;rw[if_neg ah,if_neg ah,if_pos k3,List.length_take];have:=oh (G.E.ses i).cal.op;simp;omega
   rw[R,eo]at hh;rcases hop with z|z|z|z|z<;>subst z<;>cases hh
  ·rw[ep]at e2;injection e2 with e2;injection e2 with e2;omega
 ·unfold F172.wk10;have A9'':At h12 h1.size [al c.kind,al c.op,al c.dst,al c.a,al c.b,al c.c,.int .u8 (c.mask:Int)]:=(A9'.only O11 ak).only O12 (by simp;omega);have rc: ∀k,rd h12 ⟨h1.size,k,none⟩=([al c.kind,al c.op,al c.dst,al c.a,al c.b,al c.c,.int .u8 (c.mask:Int)]:List Value)[k]? :=λk=>At.rd A9'' k;have ra: ∀k,k<3->rd h12 ⟨h9.size,k,none⟩=some (ap (cW (G.E.ses i) k:Int)):=λk hk=>by rw[At.rd A12,cF hk]
  simp only[aL,Nat.zero_add];refine aR W12.I.p (aI (n:=c.op) (by rw[rc];rfl) ⟨ah,ah,aI (ra 0 ah) ⟨ah,ah,aI (ra 1 ah) ⟨ah,ah,aI (ra 2 ah) (aI (n:=(c.mask:Int)) (by rw[rc];rfl) ?_)⟩⟩⟩)
  have hlen:(fX (G.E.ses i).cal).length=(cL (op:Int)).toNat:=by unfold fX;rw[if_neg ah,if_neg ah,if_pos k3,List.length_take,eo];have:=oh (op:Int);simp;omega
  have ha:=rJ W12 hi ok (j:=0) (by rw[hlen];rcases hop with z|z|z|z|z<;>subst z<;>decide);have hb:op≠1->isN G.N (cW (G.E.ses i) 1):=λz=>rJ W12 hi ok (by rw[hlen];rcases hop with z|z|z|z|z<;>subst z<;>first|(exfalso;omega)|decide);have hc:op=5->isN G.N (cW (G.E.ses i) 2):=λz=>rJ W12 hi ok (by rw[hlen];subst z;decide);rw[ec,eo];have mq:=W.mq i hi;refine zT mq W12.W.S W12.W.H W12.W.Ok W12.W.GO W12.W.D hop ha hb hc hl (λq=>ah) λ_ h13 ws A S13 H13 Ok13 GO13 bk13 D13 wl dn ee mu nb13 ql O13=>⟨_,_,rfl,?_⟩;rw[show((0:Int) !=0)=false from rfl,aJ];have W13:xy h13 G.E.p G.E.s G.n G.room G.fo G.gg G.off G.N {G.P with ws:=ws,jobs:=G.P.jobs++[⟨G.P.last+1,A,du op (cW (G.E.ses i) 0) (cW (G.E.ses i) 1) (cW (G.E.ses i) 2)⟩],last:=G.P.last+1} G.L:=⟨S13,H13,Ok13,GO13,D13⟩;obtain⟨W14,S14⟩:=W12.pool W13 (Ex.refl _) ⟨λT hT _=>O13 T hT,bH.refl _ _,bk13⟩;refine dj.setS (x:=iH (G.E.ses i) (G.P.last+1)) W14.I hi (j:=20) ah ah rfl (λq hq=>yI (x:=G.E.ses i) q hq) λh15 I15 O15 _=> ?_;obtain⟨W15,S15⟩:=yv W14 hi I15 O15;have eop:(G.E.ses i).cal.op.toNat=op:=by rw[eo];rfl
  have O0:aM [] h h12:=((((O1.trans O19 ak).trans O10 ak).trans O11 ak).trans O12 (by intro x hx hl;simp at hx;have:=O1.size;have:=O19.size;omega));have S0:bg e G h G h12:=bg.only0 O0;refine hK h15 ws A ?_ ?_ wl dn ee mu nb13 ql
  ·unfold ry;rw[eop];exact W15
  ·unfold ry;rw[eop];exact(S0.trans S14).trans S15
end
end
section
section
variable {h h':aH}{e i:Nat}{G G0 G':EG}{K:KK}
def xu(G:EG)(id:Nat):EG:={G with P:={G.P with jobs:=G.P.jobs.filter λz=>decide (z.id≠id)}}
def zI{id:Nat}(W:cg h e G){x:Nat}{j:Jb}(hx:G.P.jobs[x]? =some j)(ej:j.id=id)(hd:j.A.done=true)
  (hK: ∀h' b,cg h' e (xu G id)->bg e G h (xu G id) h'->K (aD b) h'):Cl 36 [bh G.E.p,al (id:Int)] h K:=by
 have hm:=List.mem_of_getElem? hx;refine Bg W.W.H W.W.Ok (λq=> ?_) λh1 j' hj' ej' hd' H1 Ok1 O1=> ?_
 ·exfalso;rcases q with q|⟨j',hj',ej',hd'⟩
  ·exact q j hm (by rw[ej])
  ·have ids:=W.W.H.ids
   have:j'=j:=by
    obtain⟨y,hy⟩:=List.getElem?_of_mem hj';have e1:(G.P.jobs.map (·.id))[y]? =some id:=by rw[List.getElem?_map,hy];exact congrArg some (show j'.id=_ by omega)
    have e2:(G.P.jobs.map (·.id))[x]? =some id:=by rw[List.getElem?_map,hx];exact congrArg some ej
    have:=f7 ids.1 e1 e2;subst this;rw[hy]at hx;injection hx
   subst this;rw[hd]at hd';cases hd'
 ·have eid:j'.id=id:=ah;rw[eid]at H1 Ok1
  have sub: ∀b,dx G.E.p {G.P with jobs:=G.P.jobs.filter λz=>decide (z.id≠id)} b->dx G.E.p G.P b:=λb hb=>by
   rcases hb with hb|hb|hb|hb|⟨y,hy,hb⟩
   ·exact .inl hb
   ·exact .inr (.inl hb)
   ·exact .inr (.inr (.inl hb))
   ·exact .inr (.inr (.inr (.inl hb)))
   ·exact .inr (.inr (.inr (.inr ⟨y,(List.mem_filter.1 hy).1,hb⟩)))
  have W1:xy h1 G.E.p G.E.s G.n G.room G.fo G.gg G.off G.N {G.P with jobs:=G.P.jobs.filter λz=>decide (z.id≠id)} G.L:=
   ⟨W.W.S.only O1 (λb hb hm=>by simp at hb;subst hb;exact W.W.D _ (.inr (.inl rfl)) hm),H1,Ok1,λy hy=>W.W.GO y ((List.mem_filter.1 hy).1),λb hb=>W.W.D b (sub b hb)⟩
  obtain⟨W2,S2⟩:=W.pool W1 (Ex.refl _) ⟨λT hT _=>O1.mono λb hb _=>by simp at hb;subst hb;exact hT _ (.inr (.inl rfl)),bH.refl _ _,λb hb=> .inl (sub b hb)⟩;exact hK h1 true W2 S2
def u7(W:cg h e G)(hi:i<4){x:Nat}{j:Jb}(hx:G.P.jobs[x]? =some j)(ej:j.id=(G.E.ses i).job)(h0:(G.E.ses i).job≠0)(hd:j.A.done=false)(hK:K aB h):Cl 127 [bh e,nu e i] h K:=by
 have hm:=List.mem_of_getElem? hx;refine F127.spec ?_;simp only[aL,Nat.zero_add];refine aI (W.I.job hi ah) ?_;rw[kD ah,aJ];refine aR W.I.p (aI (W.I.job hi ah) ?_);refine tw W.W.H (λq=>absurd ah (q j hm)) λy j' hy ej'=>⟨_,_,rfl,?_⟩
 have:j'=j:=by
  have e1:(G.P.jobs.map (·.id))[y]? =some j.id:=by rw[List.getElem?_map,hy];exact congrArg some (show j'.id=_ by omega)
  have e2:(G.P.jobs.map (·.id))[x]? =some j.id:=by rw[List.getElem?_map,hx];rfl
  have:=f7 W.W.H.ids.1 e1 e2;subst this;rw[hy]at hx;injection hx
 subst this;rw[if_neg (by rw[hd];simp),show((61:Int)==61)=true from rfl,aO];exact hK
def gS(G:EG)(i d:Nat)(told er:Nat)(f':Int->Int):EG:=fL (xu (if er=0 then pT G i d told f' else G) (G.E.ses i).job) i (er:Int) 0
def vJ(W:cg h e G)(hi:i<4){d x:Nat}{j:Jb}(hx:G.P.jobs[x]? =some j)(ej:j.id=(G.E.ses i).job)(h0:(G.E.ses i).job≠0)(hd:j.A.done=true)(he:j.A.e=0\/j.A.e=60)(hv:j.A.e=0->isN G.N j.A.told)(hd6:d<6)(ed:(G.E.ses i).cal.dst=(d:Int))
  (hM:G.M+1<=LB) (ha:G.E.ans<1000000000) (hK: ∀h' f',cg h' e (gS G i d j.A.told j.A.e f')->bg e G h (gS G i d j.A.told j.A.e f') h'->K aC h'):Cl 127 [bh e,nu e i] h K:=by
 have hm:=List.mem_of_getElem? hx;refine F127.spec ?_;simp only[aL,Nat.zero_add];refine aI (W.I.job hi ah) ?_;rw[kD ah,aJ];refine aR W.I.p (aI (W.I.job hi ah) ?_);refine tw W.W.H (λq=>absurd ah (q j hm)) λy j' hy ej'=>⟨_,_,rfl,?_⟩
 have:j'=j:=by
  have e1:(G.P.jobs.map (·.id))[y]? =some j.id:=by rw[List.getElem?_map,hy];exact congrArg some (show j'.id=_ by omega)
  have e2:(G.P.jobs.map (·.id))[x]? =some j.id:=by rw[List.getElem?_map,hx];rfl
  have:=f7 W.W.H.ids.1 e1 e2;subst this;rw[hy]at hx;injection hx
 subst this;rw[if_pos hd]
 have fin: ∀{hh:aH} {G1:EG} {er:Nat},cg hh e G1->bg e G h G1 hh->G1.P=G.P->(G1.E.ses i).job=(G.E.ses i).job->G1.E.ans=G.E.ans->(∀h2,cg h2 e (fL (xu G1 (G.E.ses i).job) i (er:Int) 0)->bg e G h (fL (xu G1 (G.E.ses i).job) i (er:Int) 0) h2->K aC h2)->F127.wk8 (aw e) ⟨e,3+24*i,none⟩ (er:Int) hh K:=λ{hh G1 er} W1 S1 eP eJ eA hK=>by unfold F127.wk8;simp only[aL,Nat.zero_add];refine aR W1.I.p (aI (W1.I.job hi ah) ?_);rw[eJ];refine zI W1 (x:=x) (j:=j') (by rw[eP];exact hx) ej hd λh2 b W2 S2=>aY rfl ?_;refine fZ (n:=0) W2 hi (by show G1.E.ans<_;rw[eA];exact ha) λh3 W3 S3=>⟨rfl,hK h3 W3 ((S1.trans S2).trans S3)⟩
 unfold gS at hK;rcases he with z|z
 ·rw[z,if_pos ⟨hd,rfl⟩,show(((0:Nat):Int)==61)=false from rfl,aJ,show(((0:Nat):Int)==0)=true from rfl,aO];refine uB W hi hd6 ed (hv z) hM λh1 f1 W1 S1=>⟨rfl,?_⟩;rw[z]at hK;refine fin W1 S1 rfl (by show((G.E.put i (setS (G.E.ses i) d j'.A.told)).ses i).job=_;rw[cH];rfl) rfl λh2 W2 S2=> ?_;have:=hK h2 f1;rw[if_pos rfl]at this;exact this W2 S2
 ·rw[z,if_neg ah,show(((60:Nat):Int)==61)=false from rfl,aJ,show(((60:Nat):Int)==0)=false from rfl,aJ];rw[z]at hK;refine fin W bg.refl rfl rfl rfl λh2 W2 S2=> ?_;have:=hK h2 G.f;rw[if_neg ah]at this;exact this W2 S2
end
end
section
section
variable {h h':aH}{e s w:Nat}{G G0 G':EG}{K:KK}
def jG{draw:Int}(W:cg h e G)(hs:s<4)(hp:(G.E.ses s).pend=true)(solo: ∀k,k<4->k≠s->(G.E.ses k).pend=false)(hw:w<G.P.ws.length)(R:aH->EG->Prop)
  (hR: ∀{h1 G1},R h1 G1->cg h1 e G1/\ ∀k,k<4->s<k->(G1.E.ses k).pend=false) (hO: ∀{h1 G1 h2},R h1 G1->aM [] h1 h2->R h2 G1)
  (hs1: ∀{h1} {Q:KK},aM [] h h1->(∀b h2 G2,R h2 G2->Q (aD b) h2)->Cl (fJ (G.E.ses s).cal.kind) [bh e,nu e s] h1 Q)
  (hE: ∀h1 G1,R h1 G1->F26.wk11 (aw e) (w:Int) draw h1 K):Cl 26 [bh e,al (w:Int),al draw] h K:=by
 refine uF W (λq h1 O1=> ?_) (λi h1 G1=>(i<=s/\G1=G/\aM [] h h1)\/(s<i/\R h1 G1)) (λh1 O1=> .inl ⟨Nat.zero_le _,rfl,O1⟩) (λ{i h1 G1 h2} I O=> ?_) (λ{i h1 G1} I=> ?_) (λ{i h1 G1} hi I hp'=> ?_) (λ{i h1 G1 Q} hi I hp' hQ=> ?_) (λ_ _ _ h1 G1 I=> ?_)
 ·exfalso;rcases q with q|q|q
  ·omega
  ·omega
  ·exact q ⟨s,hs,hp⟩
 ·rcases I with⟨a,b,c⟩|⟨a,b⟩
  ·exact .inl ⟨a,b,c.trans O ak⟩
  ·exact .inr ⟨a,hO b O⟩
 ·rcases I with⟨a,b,c⟩|⟨a,b⟩
  ·rw[b];exact W.only0 c
  ·exact(hR b).1
 ·rcases I with⟨a,b,c⟩|⟨a,b⟩
  ·by_cases q:i=s
   ·subst q;rw[b,hp]at hp';cases hp'
   ·exact .inl ⟨ah,b,c⟩
  ·exact .inr ⟨ah,b⟩
 ·rcases I with⟨a,b,c⟩|⟨a,b⟩
  ·by_cases q:i=s
   ·subst q;rw[b];exact hs1 c λb' h2 G2 R2=>hQ b' h2 G2 (.inr ⟨ah,R2⟩)
   ·rw[b,solo i hi q]at hp';cases hp'
  ·rw[(hR b).2 i hi a]at hp';cases hp'
 ·rcases I with⟨a,b,c⟩|⟨a,b⟩
  ·omega
  ·exact hE h1 G1 b
def oX: ∀{A B:ay},Ex A B->be A<=be B
 | [],B,_=>Nat.zero_le _
 |none::A,[],h=>oX (A:=A) (B:=[]) λi x hx=>by have:=h (i+1) x (by rw[rC];exact hx);simp[nd]at this
 |some x::A,[],h=>by have:=h 0 x (by simp[nd]);simp[nd]at this
 |o::A,p::B,h=>by
  have:=oX (A:=A) (B:=B) λi x hx=>by have:=h (i+1) x (by rw[rC];exact hx);rwa[rC]at this
  simp only[be,List.countP_cons]at this ⊢;cases o with
  |none=>simp;omega
  |some x=>
   have h0:=h 0 x (by simp[nd]);have e:p=some x:=by simpa[nd]using h0
   subst e;omega
def Dx{A B:ay}(E:Ex A B)(hc:be B<=be A):Ex B A:=λi x hx=>by
 apply Classical.byContradiction;intro hn
 have h0:nd A i=none:=by
  cases h:nd A i with
  |none=>rfl
  |some y=>
   have:=E i y h;rw[hx]at this;injection this with this;subst this;exact absurd h hn
 have hi:=cO.1 hx;have hl:=(List.getElem?_eq_some_iff.1 hi).1
 have h1:=oX (A:=A) (B:=B.set i none) λk y hy=>by
  rw[dX hl];split
  ·next e=>subst e;rw[h0]at hy;cases hy
  ·exact E k y hy
 have:=sN hi;omega
structure kH(G G':EG):Prop where
 E:G'.E=G.E
 n:G'.n=G.n
 fo:G'.fo=G.fo
 gg:G'.gg=G.gg
 room:G'.room=G.room
 off:G'.off=G.off
 ws:G'.P.ws.length=G.P.ws.length
 last:G'.P.last=G.P.last
 ids:G'.P.jobs.map (λj=>(j.id,j.G))=G.P.jobs.map λj=>(j.id,j.G)
 M:G.M<=G'.M/\G'.M<=G.M+1000
 sm: ∀k,k<4-> ∀r,r<6->(G.E.ses k).there r=true-> ∀y,sm G.n G.fo G'.N ((G.E.ses k).hnd r) y=sm G.n G.fo G.N ((G.E.ses k).hnd r) y
 phi:phi G.n G'.N G'.P<=phi G.n G.N G.P
 psi:psi G.n G'.N G'.P<=psi G.n G.N G.P
 bad:(∀j∈G.P.jobs,j.A.e=0)->Ev.psi G.n G.N G.P<=G.room-> ∀j∈G'.P.jobs,j.A.e=0
 sub:G.P.jobs=[]->Ex G'.N G.N
def xc{G G1:EG}(C1:uY G G1)(Ok:bQ G1.n G1.fo G1.N G1.P):Ev.phi G.n G1.N G.P=Ev.phi G.n G.N G.P/\Ev.psi G.n G1.N G.P<=Ev.psi G.n G.N G.P:=by
 have fr: ∀j∈G.P.jobs,∀f∈j.A.fs,ie G1.n G1.fo G1.N f:=λj hj=>(Ok.mst j (by rw[C1.P];exact hj)).1.frs
 have em: ∀j∈G.P.jobs,fy G.n G1.N j.A.fs=fy G.n G.N j.A.fs:=λj hj=>by have:=nX (n:=G1.n) (fo:=G1.fo) C1.ex (fr j hj);rw[C1.n]at this;exact this.symm
 have en: ∀j∈G.P.jobs,gK G.n G1.N j.A.fs=gK G.n G.N j.A.fs:=λj hj=>by have:=nQ (n:=G1.n) (fo:=G1.fo) C1.ex (fr j hj);rw[C1.n]at this;exact this.symm
 have hc:=C1.cnt;constructor
 ·unfold Ev.phi;rw[List.map_congr_left em]
 ·unfold Ev.psi;rw[List.map_congr_left en];omega
def lh.kept(P:lh w G G'):kH G G'/\ ∃k,G.P.ws[w]? =some k/\(Ev.phi G.n G'.N G'.P+1<=Ev.phi G.n G.N G.P\/(k.job=0/\k.q=[]/\fa G.P.ws G'.P.ws)):=by
 obtain⟨G1,N',P',L',k,C1,Ok1,e,Pk,hk,hph⟩:=P;obtain⟨s1,s2⟩:=xc C1 Ok1;have hn:=C1.n;have hP:=C1.P;have hroom:=C1.room;rw[hP]at Pk hk hph;rw[hn]at Pk hph;subst e;refine⟨⟨C1.E,hn,C1.fo,C1.gg,hroom,C1.off,Pk.alike.2.1,Pk.alike.1,Pk.alike.2.2,C1.M,λk' h4 r hr ht y=> ?_,?_,?_,λhb hps=> ?_,λhj=> ?_⟩,k,hk,?_⟩
 ·have hv:=C1.rg k' h4 r hr ht;have o1:=C1.ok
  have g1:sm G.n G.fo N' ((G.E.ses k').hnd r) y=sm G.n G.fo G1.N ((G.E.ses k').hnd r) y:=by rw[<-hn];exact Pk.ex.sm o1 hv
  have g2:sm G.n G.fo G.N ((G.E.ses k').hnd r) y=sm G.n G.fo G1.N ((G.E.ses k').hnd r) y:=by rw[<-hn];exact C1.ex.sm o1 hv
  show sm G.n G.fo N' _ y=_;rw[g1,g2]
 ·have:=Pk.le1;show Ev.phi G.n N' P'<=_;omega
 ·have:=Pk.le2;show Ev.psi G.n N' P'<=_;omega
 ·refine Pk.bad hb ?_;rw[hroom];omega
 ·have l2:=Pk.le2;have hj':P'.jobs=[]:=List.eq_nil_of_length_eq_zero (by have:=qD Pk.alike;rw[hj]at this;simpa using this);unfold Ev.psi at l2;rw[hj,hj']at l2;exact(Dx Pk.ex (by simpa using l2)).trans C1.ex
 ·rcases hph with q|q
  ·left;show Ev.phi G.n N' P'+1<=_;omega
  ·exact .inr q
end
end
section
def EI(op:Nat)(x y z:Bool):Bool:=if op=1 then !x else od op x y z
def Bz{n:Nat}{fo:Nat->Nat}{N:ay}{op a b c r:Nat}(hop:op=1\/op=2\/op=3\/op=4\/op=5)(R:kS n fo N (du op a b c).op (du op a b c).a0 (du op a b c).a1 (du op a b c).a2 r)(y:Nat):
  sm n fo N r y=EI op (sm n fo N a y) (sm n fo N b y) (sm n fo N c y):=by
 have h:=R.sm y;unfold du at h;unfold EI;rcases hop with z|z|z|z|z<;>subst z
 ·rw[h,if_pos rfl];show od 4 (sm n fo N 1 y) (sm n fo N a y) (sm n fo N 0 y)=_;rw[br (a:=1) ah];unfold od;cases sm n fo N a y<;>rfl
 ·exact h
 ·exact h
 ·exact h
 ·exact h
def sU(G:EG):Prop:=be G.N+255<G.room
structure iv(G0:EG)(s op:Nat)(G:EG):Prop where
 st:G.E.s=G0.E.s/\G.E.p=G0.E.p/\G.E.r=G0.E.r
 n:G.n=G0.n
 fo:G.fo=G0.fo
 gg:G.gg=G0.gg
 room:G.room=G0.room
 off:G.off=G0.off
 ws:G.P.ws.length=G0.P.ws.length
 last:G.P.last=G0.P.last+1
 ans:G.E.ans=G0.E.ans
 ses:G.E.ses=gx G0.E.ses s (iH (G0.E.ses s) (G0.P.last+1))
 M0:G0.M<=G.M
 sm: ∀k,k<4-> ∀r,r<6->(G0.E.ses k).there r=true-> ∀y,sm G0.n G0.fo G.N ((G0.E.ses k).hnd r) y=sm G0.n G0.fo G0.N ((G0.E.ses k).hnd r) y
 job: ∃j,G.P.jobs=[j]/\j.id=G0.P.last+1/\j.G=du op (cW (G0.E.ses s) 0) (cW (G0.E.ses s) 1) (cW (G0.E.ses s) 2)
 safe:sU G0->psi G0.n G.N G.P<=be G0.N+255/\ ∀j∈G.P.jobs,j.A.e=0
structure ou(G0:EG)(s op:Nat)(G:EG):Prop where
 st:G.E.s=G0.E.s/\G.E.p=G0.E.p/\G.E.r=G0.E.r
 n:G.n=G0.n
 fo:G.fo=G0.fo
 gg:G.gg=G0.gg
 room:G.room=G0.room
 off:G.off=G0.off
 ws:G.P.ws.length=G0.P.ws.length
 last:G.P.last=G0.P.last+1
 jobs:G.P.jobs=[]
 ans:G.E.ans=G0.E.ans+1
 M0:G0.M<=G.M
 oth: ∀k,k<4->k≠s->G.E.ses k=G0.E.ses k
 old: ∀k,k<4-> ∀r,r<6->(G0.E.ses k).there r=true->(G.E.ses k).there r=true->(G.E.ses k).hnd r=(G0.E.ses k).hnd r-> ∀y,sm G0.n G0.fo G.N ((G0.E.ses k).hnd r) y=sm G0.n G0.fo G0.N ((G0.E.ses k).hnd r) y
 res:(∃d v:Nat,d<6/\(G0.E.ses s).cal.dst=(d:Int)/\G.E.ses s=eO (setS (iH (G0.E.ses s) (G0.P.last+1)) d v) 0 0/\
   ∀y,Ev.sm G0.n G0.fo G.N v y=EI op (Ev.sm G0.n G0.fo G0.N (cW (G0.E.ses s) 0) y) (Ev.sm G0.n G0.fo G0.N (cW (G0.E.ses s) 1) y) (Ev.sm G0.n G0.fo G0.N (cW (G0.E.ses s) 2) y))\/
  (¬sU G0/\G.E.ses s=eO (iH (G0.E.ses s) (G0.P.last+1)) 60 0)
 cnt:sU G0->be G.N<=be G0.N+255
section
variable {h h':aH}{e s w op:Nat}{G G0 G':EG}{K:KK}{C:Nat->Nat->Prop}
def iv.sess(R:iv G0 s op G):G.E.ses s=iH (G0.E.ses s) (G0.P.last+1):=by rw[R.ses];exact cp
def iv.ne(R:iv G0 s op G){k:Nat}(hk:k≠s):G.E.ses k=G0.E.ses k:=by rw[R.ses];exact cK hk
def iv.regs(R:iv G0 s op G)(k:Nat):(G.E.ses k).there=(G0.E.ses k).there/\(G.E.ses k).hnd=(G0.E.ses k).hnd:=by
 by_cases q:k=s
 ·subst q;rw[R.sess];exact⟨rfl,rfl⟩
 ·rw[R.ne q];exact⟨rfl,rfl⟩
def CA{P P':PS}{j:Jb}(hj:P.jobs=[j])(a:P'.jobs.map (λj=>(j.id,j.G))=P.jobs.map λj=>(j.id,j.G)): ∃j',P'.jobs=[j']/\j'.id=j.id/\j'.G=j.G:=by
 rw[hj]at a
 match hq:P'.jobs,a with
 | [],a=>simp at a
 | [j'],a=>
  simp at a;exact⟨j',rfl,a.1,a.2⟩
 |_::_::_,a=>simp at a
def iv.kept(R:iv G0 s op G)(k:kH G G'):iv G0 s op G':=by
 obtain⟨j,hj,ej,gj⟩:=R.job;obtain⟨j',hj',ej',gj'⟩:=CA hj k.ids;have hn:=R.n;have hf:=R.fo;refine⟨by rw[k.E];exact R.st,k.n.trans hn,k.fo.trans hf,k.gg.trans R.gg,k.room.trans R.room,k.off.trans R.off,k.ws.trans R.ws,k.last.trans R.last,by rw[k.E];exact R.ans,by rw[k.E];exact R.ses,Nat.le_trans R.M0 k.M.1,λq hq r hr ht y=> ?_,⟨j',hj',ej'.trans ej,gj'.trans gj⟩,λsf=> ?_⟩
 ·have:=k.sm q hq r hr (by rw[(R.regs q).1];exact ht) y;rw[(R.regs q).2,hn,hf]at this;rw[this];exact R.sm q hq r hr ht y
 ·obtain⟨p1,p2⟩:=R.safe sf;have p3:=k.psi;rw[hn]at p3;refine⟨ah,k.bad p2 ?_⟩;unfold sU at sf;rw[hn,R.room];omega
def ou.kept(hs:s<4)(F:ou G0 s op G)(k:kH G G'):ou G0 s op G':=by
 have hj':G'.P.jobs=[]:=by have:=k.ids;rw[F.jobs]at this;simpa using this
 have hn:=F.n;have hf:=F.fo
 have smr: ∀q,q<4-> ∀r,r<6->(G.E.ses q).there r=true-> ∀y,sm G0.n G0.fo G'.N ((G.E.ses q).hnd r) y=sm G0.n G0.fo G.N ((G.E.ses q).hnd r) y:=λq hq r hr ht y=>by have:=k.sm q hq r hr ht y;rw[hn,hf]at this;exact this
 refine⟨by rw[k.E];exact F.st,k.n.trans hn,k.fo.trans hf,k.gg.trans F.gg,k.room.trans F.room,k.off.trans F.off,k.ws.trans F.ws,k.last.trans F.last,hj',by rw[k.E];exact F.ans,Nat.le_trans F.M0 k.M.1,by rw[k.E];exact F.oth,λq hq r hr ht ht' he y=> ?_,?_,λsf=> ?_⟩
 ·rw[k.E]at ht' he;rw[<-he,smr q hq r hr ht' y,he];exact F.old q hq r hr ht ht' he y
 ·rw[k.E];rcases F.res with⟨d,v,d6,ed,ev,fv⟩|z
  ·refine .inl ⟨d,v,d6,ed,ev,λy=> ?_⟩;have:=smr s hs d d6 (by rw[ev];exact cp) y;rw[show(G.E.ses s).hnd d=v by rw[ev];exact cp]at this;rw[this];exact fv y
  ·exact .inr z
 ·have:=F.cnt sf;have p3:=k.psi;unfold psi at p3;rw[hj',F.jobs]at p3;simp at p3;omega
end
end
section
structure zQ(G:EG)(s op:Nat):Prop where
 s4:s<4
 pend:(G.E.ses s).pend=true
 solo: ∀k,k<4->k≠s->(G.E.ses k).pend=false
 kind:(G.E.ses s).cal.kind=3
 eop:(G.E.ses s).cal.op=(op:Int)
 join:op=1\/op=2\/op=3\/op=4\/op=5
 refu:refu G.n (G.E.ses s) (G.E.ses s).cal=0
 job:(G.E.ses s).job=0
 jobs:G.P.jobs=[]
 locs:locs G.P.ws=[]
 last:G.P.last+1<100000000
 M:G.M+20000000<=LB/1000
 ans:G.E.ans<1000000000
section
variable {h h':aH}{e s w op:Nat}{G G0 G':EG}{K:KK}{C:Nat->Nat->Prop}
def zQ.dst(B:zQ G s op): ∃d:Nat,d<6/\(G.E.ses s).cal.dst=(d:Int):=by have:=(hH B.refu).2.1 (by unfold vF;rw[B.kind];omega);exact⟨(G.E.ses s).cal.dst.toNat,by unfold iQ at this;omega,by unfold iQ at this;omega⟩
def zQ.noR(B:zQ G s op): ¬BH G.E:=λ⟨k,hk,hp,h8⟩=>by
 by_cases q:k=s
 ·subst q;rw[B.kind]at h8;cases h8
 ·rw[B.solo k hk q]at hp;cases hp
def AU(B:zQ G0 s op)(W:cg h e G0){ws:List Wk}{A:MA}(hl:ws.length=G0.P.ws.length)(he:A.e=0)(hm:fy G0.n G0.N A.fs<=1021)(hn:gK G0.n G0.N A.fs<=2^G0.n-1)(hq:qlen ws=qlen G0.P.ws+1):
  iv G0 s op (ry G0 s ws A)/\phi G0.n (ry G0 s ws A).N (ry G0 s ws A).P<=1022/\ ∃j,(ry G0 s ws A).P.jobs=[j]/\j.A=A:=by
 have n8:=W.W.S.ok.2.2.1;have n8:G0.n<=8:=n8;have p8:2^G0.n<=2^8:=Nat.pow_le_pow_right ah n8;have eop:(G0.E.ses s).cal.op.toNat=op:=by rw[B.eop];rfl
 have ej:(ry G0 s ws A).P.jobs=[⟨G0.P.last+1,A,du op (cW (G0.E.ses s) 0) (cW (G0.E.ses s) 1) (cW (G0.E.ses s) 2)⟩]:=by
  show G0.P.jobs++[_]=_;rw[B.jobs,eop]
  rfl
 have q0:qlen G0.P.ws=0:=by
  have:=B.locs;unfold Ev.locs at this;unfold qlen
  have hz: ∀k∈G0.P.ws,k.q.length=0:=λk hk=>by have:k.loc=[]:=(List.flatMap_eq_nil_iff.1 this) k hk;unfold Wk.loc at this;have:=(List.append_eq_nil_iff.1 this).2;rw[this];rfl
  have gz: ∀l:List Wk,(∀k∈l,k.q.length=0)->(l.map λk=>k.q.length).sum=0:=λl=>by
   induction l with
   |nil=>intro _;rfl
   |cons a l ih=>intro hl;rw[List.map_cons,List.sum_cons,hl a ak,ih λk hk=>hl k (by simp[hk])]
  exact gz _ hz
 refine⟨⟨⟨rfl,rfl,rfl⟩,rfl,rfl,rfl,rfl,rfl,hl,rfl,rfl,rfl,Nat.le_refl _,λk hk r hr ht y=>rfl,⟨_,ej,rfl,rfl⟩,λsf=>⟨?_,λj hj=> ?_⟩⟩,?_,⟨_,ej,rfl⟩⟩
 ·unfold psi;rw[ej];show be G0.N+(gK G0.n G0.N A.fs+0)<=_;omega
 ·rw[ej]at hj;simp at hj;subst hj;exact he
 ·unfold phi;rw[ej];show fy G0.n G0.N A.fs+0+qlen ws<=_;omega
def sY(B:zQ G0 s op)(R:iv G0 s op G)(W:cg h e G){j:Jb}(hj:G.P.jobs=[j])(hd:j.A.done=true){d:Nat}(d6:d<6)(ed:(G0.E.ses s).cal.dst=(d:Int)){f':Int->Int}:ou G0 s op (gS G s d j.A.told j.A.e f')/\(j.A.e=0\/j.A.e=60)/\(j.A.e=0->isN G.N j.A.told):=by
 obtain⟨j',hj',ej,gj⟩:=R.job;have:j'=j:=by rw[hj]at hj';injection hj' with a;exact a.symm
 subst this;have mst:=(W.W.Ok.mst j' (by rw[hj];simp)).1;rw[gj]at mst;have hn:=R.n;have hf:=R.fo;have hid:(G.E.ses s).job=G0.P.last+1:=by rw[R.sess];rfl
 have hjf:(xu (if j'.A.e=0 then pT G s d j'.A.told f' else G) (G.E.ses s).job).P.jobs=[]:=by
  have:(if j'.A.e=0 then pT G s d j'.A.told f' else G).P=G.P:=by split<;>rfl
  show List.filter _ (if j'.A.e=0 then pT G s d j'.A.told f' else G).P.jobs=[];rw[this,hj,hid];simp[ej]
 have base:(gS G s d j'.A.told j'.A.e f').N=G.N/\(gS G s d j'.A.told j'.A.e f').n=G.n/\(gS G s d j'.A.told j'.A.e f').fo=G.fo/\(gS G s d j'.A.told j'.A.e f').gg=G.gg/\(gS G s d j'.A.told j'.A.e f').room=G.room/\(gS G s d j'.A.told j'.A.e f').off=G.off/\(gS G s d j'.A.told j'.A.e f').P.ws=G.P.ws/\(gS G s d j'.A.told j'.A.e f').P.last=G.P.last/\(gS G s d j'.A.told j'.A.e f').E.ans=G.E.ans+1/\G.M<=(gS G s d j'.A.told j'.A.e f').M/\(gS G s d j'.A.told j'.A.e f').E.s=G.E.s/\(gS G s d j'.A.told j'.A.e f').E.p=G.E.p/\(gS G s d j'.A.told j'.A.e f').E.r=G.E.r:=by
  unfold gS;split
  ·exact⟨rfl,rfl,rfl,rfl,rfl,rfl,rfl,rfl,rfl,Nat.le_add_right _ _,rfl,rfl,rfl⟩
  ·exact⟨rfl,rfl,rfl,rfl,rfl,rfl,rfl,rfl,rfl,Nat.le_refl _,rfl,rfl,rfl⟩
 obtain⟨b1,b2,b3,b4,b5,b6,b7,b8,b9,b10,b11,b12,b13⟩:=base
 have ses:(gS G s d j'.A.told j'.A.e f').E.ses=gx G.E.ses s (eO (if j'.A.e=0 then setS (G.E.ses s) d j'.A.told else G.E.ses s) (j'.A.e:Int) 0):=by
  unfold gS;by_cases z:j'.A.e=0
  ·rw[if_pos z,if_pos z];show gx (gx G.E.ses s _) s (eO (gx G.E.ses s (setS (G.E.ses s) d j'.A.told) s) _ 0)=_;rw[gP,cp]
  ·rw[if_neg z,if_neg z]
   rfl
 have er:j'.A.e=0\/j'.A.e=60:=by
  rcases mst with⟨q,-⟩|⟨-,q,-⟩|⟨-,q,-⟩
  ·rw[q]at hd;cases hd
  ·exact .inl q
  ·exact .inr q
 have opr:j'.A.e=0->kS G.n G.fo G.N (du op (cW (G0.E.ses s) 0) (cW (G0.E.ses s) 1) (cW (G0.E.ses s) 2)).op (du op (cW (G0.E.ses s) 0) (cW (G0.E.ses s) 1) (cW (G0.E.ses s) 2)).a0 (du op (cW (G0.E.ses s) 0) (cW (G0.E.ses s) 1) (cW (G0.E.ses s) 2)).a1 (du op (cW (G0.E.ses s) 0) (cW (G0.E.ses s) 1) (cW (G0.E.ses s) 2)).a2 j'.A.told:=λz=>by
  rcases mst with⟨q,-⟩|⟨-,-,-,q⟩|⟨-,q,-⟩
  ·rw[q]at hd;cases hd
  ·exact q
  ·rw[z]at q;cases q
 refine⟨⟨⟨b11.trans R.st.1,b12.trans R.st.2.1,b13.trans R.st.2.2⟩,b2.trans hn,b3.trans hf,b4.trans R.gg,b5.trans R.room,b6.trans R.off,by rw[b7];exact R.ws,b8.trans R.last,hjf,by rw[b9,R.ans],Nat.le_trans R.M0 b10,λk hk hks=> ?_,λk hk r hr ht ht' he y=> ?_,?_,λsf=> ?_⟩,er,λz=>(opr z).is⟩
 ·rw[ses,cK hks];exact R.ne hks
 ·rw[b1];exact R.sm k hk r hr ht y
 ·rcases er with z|z
  ·left;refine⟨d,j'.A.told,d6,ed,?_,λy=> ?_⟩
   ·rw[ses,cp,if_pos z,z,R.sess];rfl
   ·rw[b1];have g:=Bz B.join (opr z) y;rw[hn,hf]at g;rw[g]
    have ar: ∀q,Ev.sm G0.n G0.fo G.N (cW (G0.E.ses s) q) y=Ev.sm G0.n G0.fo G0.N (cW (G0.E.ses s) q) y:=λq=>by
     match hx:(fX (G0.E.ses s).cal)[q]? with
     |none=>rw[qu hx,br ah,br ah]
     |some x=>
      obtain⟨rx,tx⟩:=(hH B.refu).2.2.1 x (List.mem_of_getElem? hx);rw[mj hx];exact R.sm s B.s4 x.toNat (by unfold iQ at rx;omega) tx y
    rw[ar 0,ar 1,ar 2]
  ·right;refine⟨λsf=> ?_,?_⟩
   ·have:=(R.safe sf).2 j' (by rw[hj];simp);rw[z]at this;cases this
   ·rw[ses,cp,if_neg ah,z,R.sess];rfl
 ·rw[b1];have:=(R.safe sf).1;unfold psi at this;omega
def HV(G0:EG)(s op m w:Nat)(G:EG):Prop:=
 ou G0 s op G\/(iv G0 s op G/\(∃j,G.P.jobs=[j]/\j.A.done=true)/\(2<=m\/w=0))\/
 (iv G0 s op G/\(∃j,G.P.jobs=[j]/\j.A.done=false)/\(phi G0.n G.N G.P+3<=m\/(phi G0.n G.N G.P+2<=m/\ ∃w0 k,w<=w0/\G.P.ws[w0]? =some k/\(k.job≠0\/k.q≠[]))))\/
 (w=0/\m=1100/\G=G0)
def ou.pend(F:ou G0 s op G)(B:zQ G0 s op): ∀k,k<4->(G.E.ses k).pend=false:=λk hk=>by
 by_cases q:k=s
 ·subst q;rcases F.res with⟨d,v,-,-,ev,-⟩|⟨-,ev⟩<;>rw[ev]<;>rfl
 ·rw[F.oth k hk q];exact B.solo k hk q
def iv.solo(R:iv G0 s op G)(B:zQ G0 s op):(G.E.ses s).pend=true/\ ∀k,k<4->k≠s->(G.E.ses k).pend=false:=
 ⟨by rw[R.sess];exact B.pend,λk hk q=>by rw[R.ne q];exact B.solo k hk q⟩
def qh(j:Jb):j.A.done=true\/j.A.done=false:=by cases j.A.done<;>simp
end
end
section
section
variable {h h':aH}{e s w op m:Nat}{G G0 G':EG}{K:KK}{C:Nat->Nat->Prop}
def zN{k:Int}(h:k=3):fJ k=127:=by subst h;rfl
def DL(R:iv G0 s op G)(h2:2<=m)(hp:phi G0.n G.N G.P+3<=m):HV G0 s op m w G:=by
 obtain⟨j,hj,-,-⟩:=R.job;rcases qh j with d|d
 ·exact .inr (.inl ⟨R,⟨j,hj,d⟩,.inl h2⟩)
 ·exact .inr (.inr (.inl ⟨R,⟨j,hj,d⟩,.inl hp⟩))
def sH(R:iv G0 s op G)(sf:sU G0):be G.N<=be G0.N+255:=by have:=(R.safe sf).1;unfold psi at this;omega
def zK(mr:ku C)(B:zQ G0 s op)(hC: ∀c,(sU G0->c<=be G0.N+255)->C c G0.room)(W:cg h e G)(hw:w<G.P.ws.length)(h1:1<=m)(hM:G.M+10000<=LB/1000)(R:HV G0 s op m w G){draw:Int}
  (hK: ∀b h' G',cg h' e G'->bg e G h G' h'->G'.P.ws.length=G.P.ws.length->G.M<=G'.M->G'.M<=G.M+2000->HV G0 s op m (w+1) G'->K (aD b) h'):Cl 26 [bh e,al (w:Int),al draw] h K:=by
 have hLB:LB=140737488355328:=rfl;obtain⟨d,d6,ed⟩:=B.dst;rcases R with F|⟨R,⟨j,hj,hd⟩,hm⟩|⟨R,⟨j,hj,hd⟩,hm⟩|⟨hw0,hm,eG⟩
 ·exact jD W (.inr (.inr (fC (F.pend B)))) λh1 O1=>hK _ h1 G (W.only0 O1) (bg.only0 O1) rfl (Nat.le_refl _) ah (.inl F)
 ·--the job is done:its result is taken
  obtain⟨p1,p2⟩:=R.solo B;have hid:(G.E.ses s).job=G0.P.last+1:=by rw[R.sess];rfl
  obtain⟨j',hj',ej,gj⟩:=R.job;have:j'=j:=by rw[hj]at hj';injection hj' with a;exact a.symm
  subst this;have er:=(sY B R W hj hd d6 ed (f':=G.f)).2;refine jG W B.s4 p1 p2 hw (λh1 G1=>cg h1 e G1/\bg e G h G1 h1/\ou G0 s op G1/\G1.M<=G.M+2/\G.M<=G1.M) (λI=>⟨I.1,λk hk _=>I.2.2.1.pend B k hk⟩) (λI O=>⟨I.1.only0 O,I.2.1.trans (bg.only0 O),I.2.2⟩) (λ{h1 Q} O1 hQ=> ?_) λh1 G1 I=> ?_
  ·rw[zN (by rw[R.sess];exact B.kind)];refine vJ (W.only0 O1) B.s4 (x:=0) (j:=j') (by rw[hj];rfl) (by rw[ej,hid]) ah hd er.1 er.2 d6 (by rw[R.sess];exact ed) ah (by rw[R.ans];exact B.ans) λh2 f2 W2 S2=> ?_;refine hQ true h2 _ ⟨W2,(bg.only0 O1).trans S2,(sY B R W hj hd d6 ed).1,?_⟩;unfold gS;split
   ·exact⟨Nat.le_refl _,Nat.le_add_right _ _⟩
   ·exact⟨Nat.le_add_right _ _,Nat.le_refl _⟩
  ·obtain⟨W1,S1,F1,M1,M2⟩:=I;refine iu mr W1 (by rw[F1.room];exact hC _ F1.cnt) ah (by rw[F1.ws,<-R.ws];exact hw) λh2 G2 W2 S2 P=> ?_;obtain⟨k,-⟩:=P.kept;have:=k.M;exact hK true h2 G2 W2 (S1.trans S2) (by rw[k.ws,F1.ws,R.ws]) ah ah (.inl (F1.kept B.s4 k))
 ·--the job is on its way
  obtain⟨p1,p2⟩:=R.solo B;have hid:(G.E.ses s).job=G0.P.last+1:=by rw[R.sess];rfl
  obtain⟨j',hj',ej,gj⟩:=R.job;have:j'=j:=by rw[hj]at hj';injection hj' with a;exact a.symm
  subst this;refine jG W B.s4 p1 p2 hw (λh1 G1=>cg h1 e G1/\bg e G h G1 h1/\G1=G) (λI=>⟨I.1,λk hk q=>by rw[I.2.2];exact p2 k hk ah⟩) (λI O=>⟨I.1.only0 O,I.2.1.trans (bg.only0 O),I.2.2⟩) (λ{h1 Q} O1 hQ=> ?_) λh1 G1 I=> ?_
  ·rw[zN (by rw[R.sess];exact B.kind)];exact u7 (W.only0 O1) B.s4 (x:=0) (j:=j') (by rw[hj];rfl) (by rw[ej,hid]) ah hd (hQ false h1 G ⟨W.only0 O1,bg.only0 O1,rfl⟩)
  ·obtain⟨W1,S1,e1⟩:=I;subst e1;refine iu mr W1 (by rw[R.room];exact hC _ (sH R)) ah hw λh2 G2 W2 S2 P=> ?_;obtain⟨k,kw,hkw,pr⟩:=P.kept;have kM:=k.M;have R2:=R.kept k;have ph:=k.phi;rw[R.n]at ph pr;refine hK true h2 G2 W2 (S1.trans S2) k.ws ah ah ?_;have m2:2<=m:=by rcases hm with q|⟨q,-⟩<;>omega
   obtain⟨j2,hj2,-,-⟩:=R2.job;rcases qh j2 with d2|d2
   ·exact .inr (.inl ⟨R2,⟨j2,hj2,d2⟩,.inl m2⟩)
   ·refine .inr (.inr (.inl ⟨R2,⟨j2,hj2,d2⟩,?_⟩));rcases hm with q|⟨q,w0,k0,hw0,hk0,hb0⟩
    ·exact .inl ah
    ·rcases pr with z|⟨z1,z2,z3⟩
     ·exact .inl ah
     ·right;refine⟨ah,?_⟩;obtain⟨k1,hk1,e1⟩:=z3.2 w0 k0 hk0;refine⟨w0,k1,?_,hk1,?_⟩
      ·apply Classical.byContradiction;intro hn;have:w0=w:=ah;subst this;rw[hkw]at hk0;injection hk0 with hk0;subst hk0;rcases hb0 with a|a
       ·exact a z1
       ·exact a z2
      ·rw[e1.2.1,e1.2.2.1];exact hb0
 ·--the job is handed over
  subst eG hw0 hm;have p1:=B.pend;have rf:=hH B.refu;refine jG W B.s4 p1 B.solo hw (λh1 G1=>cg h1 e G1/\bg e G h G1 h1/\iv G s op G1/\phi G.n G1.N G1.P<=1022/\G1.M=G.M) (λI=>⟨I.1,λk hk q=>(I.2.2.1.solo B).2 k hk ah⟩) (λI O=>⟨I.1.only0 O,I.2.1.trans (bg.only0 O),I.2.2⟩) (λ{h1 Q} O1 hQ=> ?_) λh1 G1 I=> ?_
  ·rw[zN B.kind];refine F127.spec ?_;have W1:=W.only0 O1;simp only[aL,Nat.zero_add];refine aI (W1.I.job B.s4 ah) ?_;rw[B.job,show(((0:Nat):Int)==0)=true from rfl,aO];refine vP W1 B.s4 B.kind B.eop B.join rf.2.2.1 B.noR (by rw[B.jobs];decide) B.last λh2 ws A W2 S2 hl dn ee mu nb ql=>aY rfl ?_;obtain⟨r1,r2,-⟩:=AU B W hl ee mu nb ql;exact hQ false h2 _ ⟨W2,(bg.only0 O1).trans S2,r1,r2,rfl⟩
  ·obtain⟨W1,S1,R1,ph,eM⟩:=I;refine iu mr W1 (by rw[R1.room];exact hC _ (sH R1)) ah (by rw[R1.ws];exact hw) λh2 G2 W2 S2 P=> ?_;obtain⟨k,-⟩:=P.kept;have kM:=k.M;have kp:=k.phi;rw[R1.n]at kp;exact hK true h2 G2 W2 (S1.trans S2) (by rw[k.ws,R1.ws]) ah ah (DL (R1.kept k) ah ah)
set_option maxRecDepth 100000 in
def zw(mr:ku C)(B:zQ G0 s op)(W:cg h e G0)(hC: ∀c,(sU G0->c<=be G0.N+255)->C c G0.room)(hK: ∀h' G',cg h' e G'->bg e G0 h G' h'->G'.M<=G0.M+20000000->ou G0 s op G'->K aC h'):Cl 42 [bh e] h K:=by
 have hLB:LB=140737488355328:=rfl;have wl:=W.W.Ok.len;have bM:=B.M
 refine rE (m:=1100)
  (λm h1 G1=>cg h1 e G1/\bg e G0 h G1 h1/\G1.P.ws.length=G0.P.ws.length/\m<=1100/\G1.M<=G0.M+2000*(4*(1100-m))/\
   (ou G0 s op G1\/(iv G0 s op G1/\(∃j,G1.P.jobs=[j]/\j.A.done=true)/\1<=m)\/(iv G0 s op G1/\(∃j,G1.P.jobs=[j]/\j.A.done=false)/\phi G0.n G1.N G1.P+2<=m)\/(m=1100/\G1=G0)))
  (λm w h1 G1=>cg h1 e G1/\bg e G0 h G1 h1/\G1.P.ws.length=G0.P.ws.length/\1<=m/\m<=1100/\G1.M<=G0.M+2000*(4*(1100-m)+w)/\HV G0 s op m w G1)
  G0.P.ws.length wl.2 ⟨W,bg.refl,rfl,Nat.le_refl _,ah,.inr (.inr (.inr ⟨rfl,rfl⟩))⟩ ah (λI=>I.1) (λI=>⟨I.1,I.2.2.1⟩) (λ{m h1 G1} I a=> ?_) (λ{m w h1 G1 Q draw} hw I hQ=> ?_) (λ{m h1 G1} I=> ?_) (λm' h1 G1 _ I a=> ?_)
 ·obtain⟨W1,S1,l1,m1,M1,I⟩:=I
  have one:1<=m/\HV G0 s op m 0 G1:=by
   rcases I with F|⟨R,d,hm⟩|⟨R,⟨j,hj,d⟩,hm⟩|⟨hm,eG⟩
   ·exact absurd a (fC (F.pend B))
   ·exact⟨hm,.inr (.inl ⟨R,d,.inr rfl⟩)⟩
   ·obtain⟨w0,k0,hk0,hb0⟩:=Dv W1.W.Ok (j:=j) (by rw[hj];simp) d;exact⟨ah,.inr (.inr (.inl ⟨R,⟨j,hj,d⟩,.inr ⟨hm,w0,k0,Nat.zero_le _,hk0,hb0⟩⟩))⟩
   ·exact⟨ah,.inr (.inr (.inr ⟨rfl,hm,eG⟩))⟩
  exact⟨W1,S1,l1,one.1,m1,ah,one.2⟩
 ·obtain⟨W1,S1,l1,m1,m2,M1,R1⟩:=I;refine zK mr B hC W1 (by rw[l1];exact hw) m1 ah R1 λb h2 G2 W2 S2 l2 a1 a2 R2=> ?_;exact hQ b h2 G2 ⟨W2,S1.trans S2,l2.trans l1,m1,m2,ah,R2⟩
 ·obtain⟨W1,S1,l1,m1,m2,M1,R1⟩:=I;have nw:=wl.1;have nw4:=wl.2;rcases R1 with F|⟨R,d,hm⟩|⟨R,d,hm⟩|⟨hw,-,-⟩
  ·exact⟨0,ah,W1,S1,l1,ah,ah,.inl F⟩
  ·exact⟨1,ah,W1,S1,l1,ah,ah,.inr (.inl ⟨R,d,Nat.le_refl _⟩)⟩
  ·refine⟨m-1,ah,W1,S1,l1,ah,ah,.inr (.inr (.inl ⟨R,d,?_⟩))⟩;rcases hm with q|⟨q,w0,k0,hw0,hk0,-⟩
   ·omega
   ·have:=(List.getElem?_eq_some_iff.1 hk0).1;omega
  ·omega
 ·obtain⟨W1,S1,l1,m1,M1,I⟩:=I;rcases I with F|⟨R,-,-⟩|⟨R,-,-⟩|⟨-,eG⟩
  ·exact hK h1 G1 W1 S1 ah F
  ·exact absurd ⟨s,B.s4,(R.solo B).1⟩ a
  ·exact absurd ⟨s,B.s4,(R.solo B).1⟩ a
  ·subst eG;exact absurd ⟨s,B.s4,B.pend⟩ a
end
end
section
structure DU(G0:EG)(s:Nat)(x':fE)(Φ:Nat->Nat->Bool)(add:Nat)(G:EG):Prop where
 st:G.E.s=G0.E.s/\G.E.p=G0.E.p/\G.E.r=G0.E.r
 n:G.n=G0.n
 fo:G.fo=G0.fo
 gg:G.gg=G0.gg
 room:G.room=G0.room
 off:G.off=G0.off
 ws:G.P.ws.length=G0.P.ws.length
 last:G.P.last<=G0.P.last+1
 jobs:G.P.jobs=[]
 ans:G.E.ans=G0.E.ans+1
 M:G.M<=G0.M+20000000
 pend:x'.pend=false
 ses:G.E.ses s=x'
 oth: ∀k,k<4->k≠s->G.E.ses k=G0.E.ses k
 fs: ∀r,r<6->x'.there r=true-> ∀y,sm G0.n G0.fo G.N (x'.hnd r) y=Φ r y
 old: ∀k,k<4->k≠s-> ∀r,r<6->(G0.E.ses k).there r=true-> ∀y,sm G0.n G0.fo G.N ((G0.E.ses k).hnd r) y=sm G0.n G0.fo G0.N ((G0.E.ses k).hnd r) y
 cnt:be G.N<=be G0.N+add
section
variable {h h':aH}{e s w op m add:Nat}{G G0 G':EG}{K:KK}{C:Nat->Nat->Prop}{x':fE}{Φ:Nat->Nat->Bool}
def DU.kept(hs:s<4)(A:DU G0 s x' Φ add G)(k:kH G G')(hM:G'.M<=G0.M+20000000):DU G0 s x' Φ add G':=by
 have hj':G'.P.jobs=[]:=by have:=k.ids;rw[A.jobs]at this;simpa using this
 have hn:=A.n;have hf:=A.fo
 have smr: ∀q,q<4-> ∀r,r<6->(G.E.ses q).there r=true-> ∀y,sm G0.n G0.fo G'.N ((G.E.ses q).hnd r) y=sm G0.n G0.fo G.N ((G.E.ses q).hnd r) y:=λq hq r hr ht y=>by have:=k.sm q hq r hr ht y;rw[hn,hf]at this;exact this
 refine⟨by rw[k.E];exact A.st,k.n.trans hn,k.fo.trans hf,k.gg.trans A.gg,k.room.trans A.room,k.off.trans A.off,k.ws.trans A.ws,by rw[k.last];exact A.last,hj',by rw[k.E];exact A.ans,hM,A.pend,by rw[k.E];exact A.ses,by rw[k.E];exact A.oth,λr hr ht y=> ?_,λq hq hqs r hr ht y=> ?_,?_⟩
 ·have:=smr s hs r hr (by rw[A.ses];exact ht) y;rw[A.ses]at this;rw[this];exact A.fs r hr ht y
 ·have:=smr q hq r hr (by rw[A.oth q hq hqs];exact ht) y;rw[A.oth q hq hqs]at this;rw[this];exact A.old q hq hqs r hr ht y
 ·have:=A.cnt;have p3:=k.psi;unfold psi at p3;rw[hj',A.jobs]at p3;simp at p3;omega
def DU.none(hp: ∀k,k<4->k≠s->(G0.E.ses k).pend=false)(A:DU G0 s x' Φ add G): ∀k,k<4->(G.E.ses k).pend=false:=λk hk=>by
 by_cases q:k=s
 ·subst q;rw[A.ses];exact A.pend
 ·rw[A.oth k hk q];exact hp k hk q
def xe(mr:ku C)(W:cg h e G0)(hs:s<4)(hp:(G0.E.ses s).pend=true)(solo: ∀k,k<4->k≠s->(G0.E.ses k).pend=false)(hM:G0.M+20000000<=LB/1000)(R:EG->Prop)
  (step: ∀{h1} {Q:KK},aM [] h h1->(∀b h2 G2,cg h2 e G2->bg e G0 h G2 h2->R G2->Q (aD b) h2)->Cl (fJ (G0.E.ses s).cal.kind) [bh e,nu e s] h1 Q)
  (hR: ∀{G1},R G1->(∃x' Φ add,DU G0 s x' Φ add G1)/\C (be G1.N) G1.room/\G1.M<=G0.M+10000)
  (hK: ∀h' G1 G',R G1->kH G1 G'->cg h' e G'->bg e G0 h G' h'->K aC h'):Cl 42 [bh e] h K:=by
 have wl:=W.W.Ok.len
 refine rE (m:=1) (λm h1 G1=>cg h1 e G1/\bg e G0 h G1 h1/\((m=1/\G1=G0/\aM [] h h1)\/(m=0/\ ∃G2,R G2/\kH G2 G1))) (λm w h1 G1=>cg h1 e G1/\bg e G0 h G1 h1/\m=1/\((w=0/\G1=G0/\aM [] h h1)\/(1<=w/\ ∃G2,R G2/\kH G2 G1))) G0.P.ws.length wl.2
  ⟨W,bg.refl,.inl ⟨rfl,rfl,aM.refl _ _⟩⟩ ah (λI=>I.1) (λ{m w h1 G1} I=>⟨I.1,?_⟩) (λ{m h1 G1} I a=>⟨I.1,I.2.1,?_⟩) (λ{m w h1 G1 Q draw} hw I hQ=> ?_) (λ{m h1 G1} I=> ?_) (λm' h1 G1 _ I a=> ?_)
 ·rcases I.2.2.2 with⟨-,q,-⟩|⟨-,G2,r,k⟩
  ·rw[q]
  ·obtain⟨⟨x',Φ,add,A⟩,-⟩:=hR r;rw[k.ws,A.ws]
 ·rcases I.2.2 with⟨q1,q2,q3⟩|⟨q1,G2,r,k⟩
  ·exact⟨q1,.inl ⟨rfl,q2,q3⟩⟩
  ·obtain⟨⟨x',Φ,add,A⟩,-⟩:=hR r;have:=A.none solo;rw[<-k.E]at this;exact absurd a (fC this)
 ·obtain⟨W1,S1,m1,q⟩:=I;rcases q with⟨q1,q2,q3⟩|⟨q1,G2,r,k⟩
  ·subst q2;refine jG W1 hs hp solo hw (λh2 G2=>cg h2 e G2/\bg e G1 h G2 h2/\R G2) (λI=>⟨I.1,λk hk _=> ?_⟩) (λI O=>⟨I.1.only0 O,I.2.1.trans (bg.only0 O),I.2.2⟩) (λ{h2 Q2} O2 hQ2=> ?_) λh2 G2 I=> ?_
   ·obtain⟨⟨x',Φ,add,A⟩,-⟩:=hR I.2.2;exact A.none solo k hk
   ·exact step (q3.trans O2 ak) λb h3 G3 W3 S3 R3=>hQ2 b h3 G3 ⟨W3,S3,R3⟩
   ·obtain⟨W2,S2,R2⟩:=I;obtain⟨⟨x',Φ,add,A⟩,c2,m2⟩:=hR R2;refine iu mr W2 c2 ah (by rw[A.ws];exact hw) λh3 G3 W3 S3 P=> ?_;obtain⟨k,-⟩:=P.kept;exact hQ _ h3 G3 ⟨W3,S2.trans S3,m1,.inr ⟨ah,G2,R2,k⟩⟩
  ·obtain⟨⟨x',Φ,add,A⟩,-⟩:=hR r;have no:=A.none solo;rw[<-k.E]at no;exact jD W1 (.inr (.inr (fC no))) λh2 O2=>hQ _ h2 G1 ⟨W1.only0 O2,S1.trans (bg.only0 O2),m1,.inr ⟨ah,G2,r,k⟩⟩
 ·obtain⟨W1,S1,m1,q⟩:=I;rcases q with⟨q1,-,-⟩|⟨q1,q2⟩
  ·omega
  ·exact⟨0,ah,W1,S1,.inr ⟨rfl,q2⟩⟩
 ·obtain⟨W1,S1,q⟩:=I;rcases q with⟨q1,q2,-⟩|⟨q1,G2,r,k⟩
  ·subst q2;exact absurd ⟨s,hs,hp⟩ a
  ·exact hK h1 G2 G1 r k W1 S1
end
end
section
abbrev iU:=Nat->Nat->Option (Nat->Bool)
def Md(G:EG)(F:iU):Prop:= ∀k,k<4-> ∀r,r<6->(F k r=none->(G.E.ses k).there r=false)/\ ∀f,F k r=some f->(G.E.ses k).there r=true/\ ∀y,sm G.n G.fo G.N ((G.E.ses k).hnd r) y=f y
def cf(F:iU)(s d:Nat)(g:Option (Nat->Bool)):iU:=λk r=>if k=s/\r=d then g else F k r
structure Qt(h:aH)(e:Nat)(G:EG)(F:iU)(t:Nat):Prop where
 W:cg h e G
 md:Md G F
 jobs:G.P.jobs=[]
 pend: ∀k,k<4->(G.E.ses k).pend=false
 last:G.P.last<=t
 M:G.M<=30000000*t
 ans:G.E.ans<=4*t
 cnt:be G.N<=255*t
 t:t<1000
section
variable {h h':aH}{e s w op d t:Nat}{G G0 G1 G':EG}{K:KK}{C:Nat->Nat->Prop}{F:iU}{c:kB}
def Qt.only0(Q:Qt h e G F t)(O:aM [] h h'):Qt h' e G F t:=⟨Q.W.only0 O,Q.md,Q.jobs,Q.pend,Q.last,Q.M,Q.ans,Q.cnt,Q.t⟩
def yN(W:cg h e G)(hj:G.P.jobs=[]):locs G.P.ws=[]:=by
 match hq:locs G.P.ws with
 | []=>rfl
 |x::l=>
  obtain⟨j,hj',-⟩:=W.W.Ok.at_ x (by rw[hq];simp);rw[hj]at hj';cases hj'
def Md.set(m:Md G F)(hs:s<4){x:fE}{v er num:Nat}(hd:d<6){g:Nat->Bool}(hn:G'.n=G.n)(hf:G'.fo=G.fo)(hx:x.there=(G.E.ses s).there/\x.hnd=(G.E.ses s).hnd)(es:G'.E.ses s=eO (setS x d v) er num)(hv: ∀y,sm G.n G.fo G'.N v y=g y)
  (oth: ∀k,k<4->k≠s->(G'.E.ses k).there=(G.E.ses k).there/\(G'.E.ses k).hnd=(G.E.ses k).hnd)
  (old: ∀k,k<4-> ∀r,r<6->(G.E.ses k).there r=true->(G'.E.ses k).there r=true->(G'.E.ses k).hnd r=(G.E.ses k).hnd r-> ∀y,sm G.n G.fo G'.N ((G.E.ses k).hnd r) y=sm G.n G.fo G.N ((G.E.ses k).hnd r) y):Md G' (cf F s d (some g)):=λk hk r hr=>by
 unfold cf;rw[hn,hf];by_cases q:k=s
 ·subst q
  have tr:(G'.E.ses k).there r=if r=d then true else(G.E.ses k).there r:=by
   rw[es];show gx x.there d true r=_;rw[hx.1]
   rfl
  have hh:(G'.E.ses k).hnd r=if r=d then v else(G.E.ses k).hnd r:=by
   rw[es];show gx x.hnd d v r=_;rw[hx.2]
   rfl
  by_cases z:r=d
  ·rw[if_pos ⟨rfl,z⟩];refine⟨λq=>(by cases q),λf q=> ?_⟩;injection q with q;subst q;rw[tr,hh,if_pos z,if_pos z];exact⟨rfl,hv⟩
  ·rw[if_neg (λw=>z w.2)];rw[if_neg z]at tr hh;obtain⟨m1,m2⟩:=m k hk r hr;refine⟨λq=>by rw[tr];exact m1 q,λf q=> ?_⟩;obtain⟨a,b⟩:=m2 f q;refine⟨by rw[tr];exact a,λy=> ?_⟩;rw[hh,old k hk r hr a (by rw[tr];exact a) hh y];exact b y
 ·rw[if_neg (λw=>q w.1)];obtain⟨o1,o2⟩:=oth k hk q;obtain⟨m1,m2⟩:=m k hk r hr;refine⟨λz=>by rw[o1];exact m1 z,λf z=> ?_⟩;obtain⟨a,b⟩:=m2 f z;refine⟨by rw[o1];exact a,λy=> ?_⟩;rw[o2,old k hk r hr a (by rw[o1];exact a) (by rw[o2]) y];exact b y
def wa(hs:s<4)(W:cg h e G)(hp:(G.E.ses s).pend=false)(hm:c.mask<256)(hr:refu G.n (G.E.ses s) c=0)(R:EG->Prop)
  (fair: ∀{h1} {Q:KK},cg h1 e (cu G s c)->(∀h2 G2,cg h2 e G2->bg e (cu G s c) h1 G2 h2->R G2->Q aC h2)->Cl 42 [bh e] h1 Q)
  (hR: ∀{G2},R G2->(G2.E.ses s).ansd=true)
  (hK: ∀h' G2,cg h' e G2->bg e G h G2 h'->R G2->K (.tuple #[.agg #[al (G2.E.ses s).err,aq ((G2.E.ses s).num:Int)],aC]) h'):
  Cl 53 [bh e,al (s:Int),jR c] h K:=by
 refine F53.spec ?_;refine aV λh1 A1 O1 z1=>aV λh2 A2 O2 z2=> ?_;have A1':=A1.only O2 ak;have r: ∀k,rd h2 ⟨h.size,k,none⟩=([al c.kind,al c.op,al c.dst,al c.a,al c.b,al c.c,.int .u8 (c.mask:Int)]:List Value)[k]? :=λk=>At.rd A1' k;simp only[aL,Nat.zero_add];refine aI (n:=c.kind) (by rw[r];rfl) (aI (n:=c.op) (by rw[r];rfl) (aI (n:=c.dst) (by rw[r];rfl) (aI (n:=c.a) (by rw[r];rfl) (aI (n:=c.b) (by rw[r];rfl) (aI (n:=c.c) (by rw[r];rfl) (aI (n:=(c.mask:Int)) (by rw[r];rfl) ?_))))));have O12:=O1.trans O2 ak;have W2:=W.only0 O12;have lt:=W.lt;have z1':=O1.size;refine nZ (c:=c) (i:=(s:Int)) W2 hm (λq=>ah) (λk hk ek hp2=> ?_) (λk hk ek hp2 hr2=> ?_) λk hk ek hp2 hr2 h3 W3 S3=>aI rfl ?_
 ·have ek:k=s:=ah;subst ek;rw[hp]at hp2;cases hp2
 ·have ek:k=s:=ah;subst ek;exact absurd hr hr2
 have ek:k=s:=ah;subst ek;rw[show((0:Int) !=0)=false from rfl,aJ];refine fair W3 λh4 G2 W4 S4 R4=>aY rfl ?_;rw[Bool.not_true,aJ];refine tY W4.I (λq=>ah) λk' hk' ek' h5 O5=>⟨_,_,_,rfl,?_⟩;have ek':k'=k:=ah;subst ek';have ha:=hR R4;rw[ha,if_pos rfl,if_pos rfl];have S24:bg e G h2 G2 h4:=S3.trans S4
 have A4:At h4 h1.size [al (0:Int),aq (0:Int)]:=by have:=S24.O (iD e G) (λb hb=>hb);exact At.only A2 this λhm=>by have:=lt _ hm;omega
 have A5:=A4.only O5 ak;refine aS A5 ak rfl λh6 A6 O6 z6=>aS A6 ak rfl λh7 A7 O7 z7=> ?_;refine aI (n:=(G2.E.ses k').err) (by rw[At.rd A7];rfl) (aI (n:=((G2.E.ses k').num:Int)) (by rw[At.rd A7];rfl) ?_)
 have nb:h1.size∉iD e G2:=λhm=>by
  rcases S24.B _ hm with q|q
  ·have:=lt _ q;omega
  ·have:=A2.lt;omega
 have O57:aM [h1.size] h5 h7:=O6.trans O7 λb hb _=>hb;have W5:=W4.only0 O5;have W7:cg h7 e G2:=⟨W5.W.only O57 (λy hy hm=>by simp at hy;subst hy;exact nb (bi.2 (.inr (.inl hm)))) (λy hy hm=>by simp at hy;subst hy;exact nb (bi.2 (.inr (.inr (.inr hm))))),W5.R.only O57 (λy hy hm=>by simp at hy;subst hy;exact nb (bi.2 (.inr (.inr (.inl hm))))),W5.I.only O57 (λhm=>by simp at hm;exact nb (bi.2 (.inl hm.symm))),W5.C,W5.de,W5.dB,W5.rg,W5.r0,W5.mq,W5.po⟩;refine hK h7 G2 W7 ⟨λT hT=> ?_,λb hb=> ?_⟩ R4
 ·have o1:aM T h h4:=(O12.mono ak).trans (S24.O T hT) λb hb _=>hb;exact(o1.trans (O5.mono ak) λb hb _=>hb).trans O57 λb hb hl=>by simp at hb;omega
 ·rcases S24.B b hb with q|q
  ·exact .inl q
  ·exact .inr (by have:=O12.size;omega)
def sx(Q:Qt h e G F t)(hs:s<4)(hd:d<6)(hm:c.mask<G.n)(kd:c.kind=1)(ed:c.dst=(d:Int))(room:255*t+5<G.room)
  (hK: ∀h' G',Qt h' e G' (cf F s d (some λy=>y.testBit c.mask)) (t+1)->bg e G h G' h'->(G'.n=G.n/\G'.fo=G.fo/\G'.room=G.room/\G'.gg=G.gg)->(∀k,k<4->k≠s->G'.E.ses k=G.E.ses k)->t+1<1000->K (.tuple #[.agg #[al 0,aq 0],aC]) h') (ht:t+1<1000):
  Cl 53 [bh e,al (s:Int),jR c] h K:=by
 have hLB:LB=140737488355328:=rfl;have n8:G.n<=8:=Q.W.W.S.ok.2.2.1;have rd0:fX c=[]:=by unfold fX;rw[if_neg ah,if_neg ah,if_neg ah]
 have rf: ∀x:fE,refu G.n x c=0:=λx=>by unfold refu iR;rw[if_neg ah,if_neg (λw=>w.2 (by rw[ed];unfold iQ;omega)),if_neg (λw=>w λr hr=>by rw[rd0]at hr;cases hr),if_neg (λw=>ah),if_neg (λw=>ah),if_neg (λw=>ah)]
 have qM:=Q.M;have qa:=Q.ans;have qc:=Q.cnt;have sE: ∀k,(cu G s c).E.ses k=if k=s then eU (G.E.ses s) c else G.E.ses k:=λk=>rfl
 have Ea:zx (cu G s c):=by
  refine⟨Q.jobs,λi hi hp=> ?_,by show be G.N+5<G.room;omega,by show G.M+20000<=_;omega,by show G.E.ans+10<_;omega⟩;rw[sE]at hp ⊢;by_cases q:i=s
  ·rw[if_pos q]at hp ⊢;exact⟨.inl kd,rf _⟩
  ·rw[if_neg q,Q.pend i hi]at hp;cases hp
 have np:vx (cu G s c).E 4<=4:=Af 4;refine wa hs Q.W (Q.pend s hs) ah (rf _) (λG2=>mR (cu G s c) 4 G2) (λ{h1 Q1} W1 hQ=>qL W1 Ea hQ) (λ{G2} R=> ?_) λh2 G2 W2 S2 R=> ?_
 ·obtain⟨d',-,-,⟨-,v,q,-⟩|⟨-,q⟩|⟨-,q⟩⟩:=(R.lo s hs hs).1 (by rw[sE,if_pos rfl];rfl)<;>rw[q]<;>rfl
 ·have L:=(R.lo s hs hs).1 (by rw[sE,if_pos rfl];rfl);rw[sE,if_pos rfl]at L;obtain⟨d',d6',ed',L⟩:=L;have e1:d'=d:=by have e2:c.dst=(d':Int):=ed';omega
  subst e1;rcases L with⟨-,v,q,sv⟩|⟨k,-⟩|⟨k,-⟩
  ·have oth: ∀k,k<4->k≠s->G2.E.ses k=G.E.ses k:=λk hk q=>by
    have:=(R.lo k hk hk).2 (by rw[sE,if_neg q];exact Q.pend k hk);rw[sE,if_neg q]at this;exact this
   have md:=Q.md.set (G':=G2) hs (x:=eU (G.E.ses s) c) (v:=v) (er:=0) (num:=0) hd (g:=λy=>y.testBit c.mask) R.n R.fo ⟨rfl,rfl⟩ q sv (λk hk z=>by rw[oth k hk z];exact⟨rfl,rfl⟩) (λk hk r hr ht ht' he y=>by
    have e3:((cu G s c).E.ses k).there=(G.E.ses k).there/\((cu G s c).E.ses k).hnd=(G.E.ses k).hnd:=by
     rw[sE];by_cases z:k=s
     ·rw[if_pos z,z];exact⟨rfl,rfl⟩
     ·rw[if_neg z];exact⟨rfl,rfl⟩
    have:=R.old k hk r hr (by rw[e3.1];exact ht) ht' (by rw[e3.2];exact he) y;rw[e3.2]at this;exact this)
   have rc:be G2.N<=be G.N+4:=R.cnt;have rM:G2.M<=G.M+1002*4+1000:=R.M.2;have ra:G2.E.ans=G.E.ans+vx (cu G s c).E 4:=R.ans;have Q2:Qt h2 e G2 (cf F s d' (some λy=>y.testBit c.mask)) (t+1):=⟨W2,md,R.jobs,R.none,by have:G2.P.last=G.P.last:=R.last;have:=Q.last;omega,ah,ah,ah,ht⟩;have:=hK h2 G2 Q2 S2 ⟨R.n,R.fo,R.room,R.gg⟩ oth ht;rw[q];exact this
  ·exact absurd (show c.kind=2 from k) ah
  ·exact absurd (show c.kind=6 from k) ah
def BR(Q:Qt h e G F t)(hs:s<4)(hd:d<6)(hm:c.mask<G.n)(kd:c.kind=1)(ed:c.dst=(d:Int))(room:255*t+5<G.room)
  (hK: ∀h' G',Qt h' e G' (cf F s d (some λy=>y.testBit c.mask)) (t+1)->bg e G h G' h'->(G'.n=G.n/\G'.fo=G.fo/\G'.room=G.room/\G'.gg=G.gg)->t+1<1000->K (.tuple #[.agg #[al 0,aq 0],aC]) h') (ht:t+1<1000):
  Cl 53 [bh e,al (s:Int),jR c] h K:=sx Q hs hd hm kd ed room (λh' G' a b c' _ d'=>hK h' G' a b c' d') ht
end
end
section
def gF(F:iU)(s:Nat)(c:kB)(i:Nat)(y:Nat):Bool:=match (fX c)[i]? with|some r=>(match F s r.toNat with|some f=>f y|none=>false)|none=>false
section
variable {h h':aH}{e s w op d t:Nat}{G G0 G1 G':EG}{K:KK}{C:Nat->Nat->Prop}{F:iU}{c:kB}
def FA(md:Md G F)(hs:s<4)(hr: ∀r∈fX c,iQ r/\ ∃f,F s r.toNat=some f):jW (G.E.ses s) c:=λr hm=>by obtain⟨a,f,b⟩:=hr r hm;exact⟨a,((md s hs r.toNat (by unfold iQ at a;omega)).2 f b).1⟩
def rL(md:Md G F)(hs:s<4)(hr: ∀r∈fX c,iQ r/\ ∃f,F s r.toNat=some f)(i y:Nat):sm G.n G.fo G.N (cW (eU (G.E.ses s) c) i) y=gF F s c i y:=by
 unfold gF cW;show sm G.n G.fo G.N (match (fX c)[i]? with|some r=>(G.E.ses s).hnd r.toNat|none=>0) y=_
 match hx:(fX c)[i]? with
 |none=>exact br (a:=0) ah
 |some x=>
  obtain⟨a,f,b⟩:=hr x (List.mem_of_getElem? hx);show sm G.n G.fo G.N ((G.E.ses s).hnd x.toNat) y=(match F s x.toNat with|some f=>f y|none=>false);rw[b];exact((md s hs x.toNat (by unfold iQ at a;omega)).2 f b).2 y
def tC(kd:c.kind=3)(eo:c.op=(op:Int))(hop:op=1\/op=2\/op=3\/op=4\/op=5)(ed:c.dst=(d:Int))(hd:d<6){n:Nat}{x:fE}(ok:jW x c):refu n x c=0:=by unfold refu iR;rw[if_neg ah,if_neg (λw=>w.2 (by rw[ed];unfold iQ;omega)),if_neg (λw=>w ok),if_neg,if_neg (λw=>ah),if_neg (λw=>ah)];intro w;have:=w.2;rw[eo]at this;rcases hop with z|z|z|z|z<;>subst z<;>cases this
def Cb(Q:Qt h e G F t)(hs:s<4)(hd:d<6)(hm:c.mask<256)(kd:c.kind=3)(eo:c.op=(op:Int))(hop:op=1\/op=2\/op=3\/op=4\/op=5)(ed:c.dst=(d:Int))(hr: ∀r∈fX c,iQ r/\ ∃f,F s r.toNat=some f)(room:255*t+255<G.room)(ht:t+1<1000)
  (hK: ∀h' G',Qt h' e G' (cf F s d (some λy=>EI op (gF F s c 0 y) (gF F s c 1 y) (gF F s c 2 y))) (t+1)->bg e G h G' h'->(G'.n=G.n/\G'.fo=G.fo/\G'.room=G.room/\G'.gg=G.gg)->K (.tuple #[.agg #[al 0,aq 0],aC]) h'):
  Cl 53 [bh e,al (s:Int),jR c] h K:=by
 have hLB:LB=140737488355328:=rfl;have qM:=Q.M;have qa:=Q.ans;have qc:=Q.cnt;have ql:=Q.last;have sE: ∀k,(cu G s c).E.ses k=if k=s then eU (G.E.ses s) c else G.E.ses k:=λk=>rfl
 have ss:(cu G s c).E.ses s=eU (G.E.ses s) c:=by rw[sE,if_pos rfl]
 have ok:=FA Q.md hs hr;have B:zQ (cu G s c) s op:=⟨hs,by rw[ss];rfl,λk hk q=>by rw[sE,if_neg q];exact Q.pend k hk,by rw[ss];exact kd,by rw[ss];exact eo,hop,by rw[ss];exact tC kd eo hop ed hd ok,by rw[ss];rfl,Q.jobs,(by have:=yN Q.W Q.jobs;exact this),by show G.P.last+1<_;omega,by show G.M+_<=_;omega,by show G.E.ans<_;omega⟩;have sf:sU (cu G s c):=by show be G.N+255<G.room;omega
 refine wa hs Q.W (Q.pend s hs) hm (tC kd eo hop ed hd ok) (λG2=>G2.M<=G.M+20000000/\ou (cu G s c) s op G2) (λ{h1 Q1} W1 hQ=>zw kI B W1 (λc0 hc=> ?_) λh2 G2 W2 S2 m2 F2=>hQ h2 G2 W2 S2 ⟨m2,F2⟩) (λ{G2} R=> ?_) λh2 G2 W2 S2 R=> ?_
 ·have:=hc sf;show c0<G.room;have:c0<=be G.N+255:=this;omega
 ·rcases R.2.res with⟨d',v,-,-,q,-⟩|⟨-,q⟩<;>rw[q]<;>rfl
 ·obtain⟨m2,R⟩:=R;rcases R.res with⟨d',v,d6',ed',q,sv⟩|⟨q,-⟩
  ·rw[ss]at ed' q sv;have e1:d'=d:=by have e2:c.dst=(d':Int):=ed';omega
   subst e1
   have oth: ∀k,k<4->k≠s->G2.E.ses k=G.E.ses k:=λk hk z=>by have:=R.oth k hk z;rw[sE,if_neg z]at this;exact this
   have md:=Q.md.set (G':=G2) hs (x:=iH (eU (G.E.ses s) c) ((cu G s c).P.last+1)) (v:=v) (er:=0) (num:=0) hd (g:=λy=>EI op (gF F s c 0 y) (gF F s c 1 y) (gF F s c 2 y)) R.n R.fo ⟨rfl,rfl⟩ q (λy=>by
    have:=sv y;rw[show(cu G s c).n=G.n from rfl,show(cu G s c).fo=G.fo from rfl,show(cu G s c).N=G.N from rfl,rL Q.md hs hr,rL Q.md hs hr,rL Q.md hs hr]at this;exact this) (λk hk z=>by rw[oth k hk z];exact⟨rfl,rfl⟩) (λk hk r hr2 ht2 ht' he y=>by
    have e3:((cu G s c).E.ses k).there=(G.E.ses k).there/\((cu G s c).E.ses k).hnd=(G.E.ses k).hnd:=by
     rw[sE];by_cases z:k=s
     ·rw[if_pos z,z];exact⟨rfl,rfl⟩
     ·rw[if_neg z];exact⟨rfl,rfl⟩
    have:=R.old k hk r hr2 (by rw[e3.1];exact ht2) ht' (by rw[e3.2];exact he) y;rw[e3.2]at this;exact this)
   have rc:be G2.N<=be G.N+255:=R.cnt sf;have ra:G2.E.ans=G.E.ans+1:=R.ans;have rl:G2.P.last=G.P.last+1:=R.last;have Q2:Qt h2 e G2 (cf F s d' (some λy=>EI op (gF F s c 0 y) (gF F s c 1 y) (gF F s c 2 y))) (t+1):=⟨W2,md,R.jobs,R.pend B,ah,ah,ah,ah,ht⟩;have:=hK h2 G2 Q2 S2 ⟨R.n,R.fo,R.room,R.gg⟩;rw[q];exact this
  ·exact absurd sf q
end
end
section
section
variable {n:Nat}{fo gg:Nat->Nat}{N:ay}
def wV(H:dz n N): ∀(d:Nat) {a x y:Nat},n-lvl n N a<=d->isN N a->(∀l,lvl n N a<=l->l<n->x.testBit (fo l)=y.testBit (fo l))->sm n fo N a x=sm n fo N a y:=by
 intro d
 induction d with
 |zero=>
  intro a x y hd ha hb
  have h2:a<2:=by apply Classical.byContradiction;intro hn;have:=(H.at ha ah).1;omega
  rw[br h2,br h2]
 |succ d ih=>
  intro a x y hd ha hb;by_cases h2:a<2
  ·rw[br h2,br h2]
  ·obtain⟨h3,h4,h5,-,h6,h7⟩:=H.at ha ah;rw[cS H ha ah,cS H ha ah,hb _ (Nat.le_refl _) h3,ih (a:=high N a) (x:=x) (y:=y) ah h5 (λl hl=>hb l ah),ih (a:=low N a) (x:=x) (y:=y) ah h4 (λl hl=>hb l ah)]
def pu(P:dJ n fo gg){l l':Nat}(hl:l<n)(hl':l'<n)(e:fo l=fo l'):l=l':=by rw[<-(P.2 l hl).2,<-(P.2 l' hl').2,e]
def DZ(H:dz n N)(P:dJ n fo gg)(n8:n<=8): ∀(d:Nat) {a b:Nat},n-min (lvl n N a) (lvl n N b)<=d->isN N a->isN N b->(∀x,x<256->sm n fo N a x=sm n fo N b x)->a=b:=by
 have tM: ∀{a x:Nat} {v:Bool},isN N a->2<=a->x<256->sm n fo N a (vV x (fo (lvl n N a)) v)=if v=true then sm n fo N (high N a) x else sm n fo N (low N a) x:=λ{a x v} ha h2 hx=>by
  obtain⟨h3,h4,h5,-,h6,h7⟩:=H.at ha h2;have f8:fo (lvl n N a)<8:=by have:=(P.2 _ h3).1;omega
  have far: ∀l,lvl n N a<l->l<n->(vV x (fo (lvl n N a)) v).testBit (fo l)=x.testBit (fo l):=λl hl hn=>by
   have fl:fo l<8:=by have:=(P.2 l hn).1;omega
   rw[mw hx f8 v fl,if_neg];intro e;have:=pu P h3 hn (by first|exact e|exact e.symm);omega
  rw[cS H ha h2,mw hx f8 v f8,if_pos rfl];cases v with
  |true=>
   rw[if_pos rfl,if_pos rfl];exact wV H n ah h5 λl hl hn=>far l ah hn
  |false=>
   rw[if_neg ak,if_neg ak];exact wV H n ah h4 λl hl hn=>far l ah hn
 have away: ∀{b x l:Nat} {v:Bool},isN N b->l<lvl n N b->l<n->x<256->sm n fo N b (vV x (fo l) v)=sm n fo N b x:=λ{b x l v} hb hl hn hx=>by
  have f8:fo l<8:=by have:=(P.2 _ hn).1;omega
  refine wV H n ah hb λl' hl' hn'=> ?_;have fl:fo l'<8:=by have:=(P.2 l' hn').1;omega
  rw[mw hx f8 v fl,if_neg];intro e;have:=pu P hn hn' (by first|exact e|exact e.symm);omega
 intro d
 induction d with
 |zero=>
  intro a b hd ha hb he
  have a2:a<2:=by apply Classical.byContradiction;intro hn;have:=(H.at ha ah).1;omega
  have b2:b<2:=by apply Classical.byContradiction;intro hn;have:=(H.at hb ah).1;omega
  have:=he 0 ah;rw[br a2,br b2]at this;have e2:(a==1)=(b==1):=this;have:a=0\/a=1:=ah;have:b=0\/b=1:=ah;rcases ‹a=0\/a=1› with q|q<;>rcases ‹b=0\/b=1› with r|r<;>subst q r<;>first|rfl|(simp at e2)
 |succ d ih=>
  have above: ∀{a b:Nat},n-min (lvl n N a) (lvl n N b)<=d+1->isN N a->isN N b->(∀x,x<256->sm n fo N a x=sm n fo N b x)->lvl n N a<lvl n N b->False:=λ{a b} hd ha hb he hl=>by
   have a2:2<=a:=by
    apply Classical.byContradiction;intro hn;have e1:lvl n N a=n:=by unfold lvl;rw[if_pos ah]
    have:=lvl_le H hb;omega
   obtain⟨h3,h4,h5,hne,h6,h7⟩:=H.at ha a2;apply hne;refine ih ah h4 h5 λx hx=> ?_;have f8:fo (lvl n N a)<8:=by have:=(P.2 _ h3).1;omega
   have e1:=he (vV x (fo (lvl n N a)) false) (Cy hx f8 _);have e2:=he (vV x (fo (lvl n N a)) true) (Cy hx f8 _);rw[tM ha a2 hx,away hb hl h3 hx]at e1 e2;rw[if_neg ak]at e1;rw[if_pos rfl]at e2;rw[e1,e2]
  intro a b hd ha hb he;by_cases a2:2<=a
  ·by_cases b2:2<=b
   ·by_cases hl:lvl n N a=lvl n N b
    ·obtain⟨a3,a4,a5,-,a6,a7⟩:=H.at ha a2;obtain⟨b3,b4,b5,-,b6,b7⟩:=H.at hb b2;have f8:fo (lvl n N a)<8:=by have:=(P.2 _ a3).1;omega
     have el:low N a=low N b:=by refine ih ah a4 b4 λx hx=> ?_;have e1:=he (vV x (fo (lvl n N a)) false) (Cy hx f8 _);rw[tM ha a2 hx,hl,tM hb b2 hx,if_neg ak,if_neg ak]at e1;exact e1
     have eh:high N a=high N b:=by refine ih ah a5 b5 λx hx=> ?_;have e1:=he (vV x (fo (lvl n N a)) true) (Cy hx f8 _);rw[tM ha a2 hx,hl,tM hb b2 hx,if_pos rfl,if_pos rfl]at e1;exact e1
     rcases ha with q|⟨x,hx⟩
     ·omega
     rcases hb with q|⟨y,hy⟩
     ·omega
     have la:lvl n N a=x.1/\low N a=x.2.1/\high N a=x.2.2:=by unfold lvl low high;rw[if_neg ah,if_neg ah,if_neg ah,hx];exact⟨rfl,rfl,rfl⟩
     have lb:lvl n N b=y.1/\low N b=y.2.1/\high N b=y.2.2:=by unfold lvl low high;rw[if_neg ah,if_neg ah,if_neg ah,hy];exact⟨rfl,rfl,rfl⟩
     have exy:x=y:=by obtain⟨x1,x2,x3⟩:=x;obtain⟨y1,y2,y3⟩:=y;have c1:x1=y1:=la.1.symm.trans (hl.trans lb.1);have c2:x2=y2:=la.2.1.symm.trans (el.trans lb.2.1);have c3:x3=y3:=la.2.2.symm.trans (eh.trans lb.2.2);rw[c1,c2,c3]
     subst exy;have:=H.once _ _ _ hx hy;omega
    ·by_cases h:lvl n N a<lvl n N b
     ·exact(above hd ha hb he h).elim
     ·exact(above (by rw[Nat.min_comm];exact hd) hb ha (λx hx=>(he x hx).symm) ah).elim
   ·have e1:lvl n N b=n:=by unfold lvl;rw[if_pos ah]
    exact(above hd ha hb he (by rw[e1];exact(H.at ha a2).1)).elim
  ·by_cases b2:2<=b
   ·have e1:lvl n N a=n:=by unfold lvl;rw[if_pos ah]
    exact(above (by rw[Nat.min_comm];exact hd) hb ha (λx hx=>(he x hx).symm) (by rw[e1];exact(H.at hb b2).1)).elim
   ·have:=he 0 ah;rw[br ah,br ah]at this;have e2:(a==1)=(b==1):=this;have qa:a=0\/a=1:=ah;have qb:b=0\/b=1:=ah;rcases qa with q|q<;>rcases qb with r|r<;>subst q r<;>first|rfl|(simp at e2)
end
end
section
section
variable {h:aH}{K:KK}
def BQ{n:Nat}(hn:n<=8): ∀j,j<n->fill n j<8:=λj hj=>by rw[show fill n j=j from if_pos hj];omega
set_option maxRecDepth 100000 in
def Do(hK: ∀h',aM [] h h'->K aC h'):Cl 40 [] h K:=by
 have hLB:LB=140737488355328:=rfl;refine F40.spec ?_;refine DX (n:=4) (room:=16400) ah ah ah ah λh1 e G W1 s1 a1 n1 m1 f1 g1 _ N1 j1 w1 _ _ M1 b1 O1=>⟨_,_,rfl,?_⟩;refine xQ (n:=9) ah ah ⟨_,_,rfl,?_⟩;rw[show((0:Int) !=0)=false from rfl,aJ,show(Option.isNone (some (aw e)))=false from rfl,aJ,show((40:Int) !=40)=false from rfl,aJ];refine im W1 (aI rfl ?_);rw[w1,show((((Bt 2:Nat):Int)) !=(2:Int))=false from rfl,aJ];refine nZ (c:=⟨1,0,1,0,0,0,2⟩) (i:=0) W1 (by show 2<256;omega) (λq=>ah) (λk hk ek hp=> ?_) (λk hk ek hp hr=> ?_) λk hk ek hp hr h2 W2 S2=>aI rfl ?_
 ·rw[s1]at hp;cases hp
 ·exfalso;apply hr;rw[n1];unfold refu iR;rw[if_neg (by decide),if_neg (by decide),if_neg,if_neg (by decide),if_neg (by decide),if_neg (by decide)];intro q;exact q λr hr=>by simp[fX]at hr
 have ek:k=0:=ah;subst ek;refine nZ (c:=⟨6,0,0,0,0,0,0⟩) (i:=0) W2 (by show 0<256;omega) (λq=>ah) (λk hk ek _ h3 O3=>aI rfl ?_) (λk hk ek hp2 _=> ?_) λk hk ek hp2 _=> ?_
 rotate_left
 ·have ek:k=0:=ah;subst ek;rw[show((cu G 0 ⟨1,0,1,0,0,0,2⟩).E.ses 0).pend=true from rfl]at hp2;cases hp2
 ·have ek:k=0:=ah;subst ek;rw[show((cu G 0 ⟨1,0,1,0,0,0,2⟩).E.ses 0).pend=true from rfl]at hp2;cases hp2
 have W3:=W2.only0 O3;have e1s:((cu G 0 ⟨1,0,1,0,0,0,2⟩).E.ses 1)=(pC 0 0 0).ses 1:=by rw[<-s1];rfl
 have nok: ¬jW ((cu G 0 ⟨1,0,1,0,0,0,2⟩).E.ses 1) ⟨4,0,0,0,0,0,0⟩:=λq=>by have:=(q 0 (by simp[fX])).2;rw[e1s]at this;cases this
 have rv:refu (cu G 0 ⟨1,0,1,0,0,0,2⟩).n ((cu G 0 ⟨1,0,1,0,0,0,2⟩).E.ses 1) ⟨4,0,0,0,0,0,0⟩=221:=by unfold refu;rw[if_neg (by decide),if_neg (by decide),if_pos nok]
 refine nZ (c:=⟨4,0,0,0,0,0,0⟩) (i:=1) W3 (by show 0<256;omega) (λq=>ah) (λk hk ek hp2=> ?_) (λk hk ek _ hr h4 O4=>aI rfl ?_) λk hk ek _ hr=> ?_
 ·have ek:k=1:=ah;subst ek;rw[e1s]at hp2;cases hp2
 rotate_left
 ·have ek:k=1:=ah;subst ek;rw[rv]at hr;cases hr
 have ek:k=1:=ah;subst ek;rw[rv,show((0:Int) !=0)=false from rfl,aJ,show((220:Int) !=220)=false from rfl,aJ,show((221:Int) !=221)=false from rfl,aJ];have W4:=W3.only0 O4;obtain⟨G2,eG2⟩: ∃G2,G2=cu G 0 ⟨1,0,1,0,0,0,2⟩:=⟨_,rfl⟩;rw[<-eG2]at W4 S2;have sG2: ∀k,k≠0->G2.E.ses k=(pC 0 0 0).ses k:=λk hk=>by rw[eG2,<-s1];exact cK hk
 have sG0:G2.E.ses 0=eU ((pC 0 0 0).ses 0) ⟨1,0,1,0,0,0,2⟩:=by rw[eG2,<-s1];rfl
 refine qg W4.I (λq=>ah) λk hk ek=>aY rfl ?_;have ek:k=0:=ah;subst ek;rw[sG0,show(eU ((pC 0 0 0).ses 0) ⟨1,0,1,0,0,0,2⟩).pend=true from rfl,Bool.not_true,aJ]
 have Ea:zx G2:=by
  refine⟨by rw[eG2];exact j1,λi hi hp=> ?_,by rw[eG2];show be G.N+5<G.room;rw[N1,m1];decide,by rw[eG2];show G.M+20000<=_;rw[M1,hLB];decide,by rw[eG2];show G.E.ans+10<_;rw[a1];decide⟩;by_cases q:i=0
  ·subst q;rw[sG0,eG2];refine⟨.inl rfl,?_⟩;show refu G.n _ _=0;rw[n1];unfold refu iR;rw[if_neg (by decide),if_neg (by decide),if_neg,if_neg (by decide),if_neg (by decide),if_neg (by decide)];intro q;exact q λr hr=>by simp[fX,eU]at hr
  ·rw[sG2 i q]at hp;cases hp
 refine qL W4 Ea λh5 G5 W5 S5 R5=>aY rfl ?_;rw[Bool.not_true,aJ];obtain⟨d,d6,ed,L⟩:=(R5.lo 0 ah ah).1 (by rw[sG0];rfl);have z4:G2.n=4:=by rw[eG2];exact n1
 have zf:G2.fo=fill 4:=by rw[eG2];exact f1
 rw[sG0]at ed L;have d1:d=1:=by have:(1:Int)=(d:Int):=ed;omega
 subst d1;rcases L with⟨-,v,e5,sv⟩|⟨k,-⟩|⟨k,-⟩
 rotate_left
 ·cases k
 ·cases k
 refine tY W5.I (λq=>ah) λk hk ek h6 O6=>⟨_,_,_,rfl,?_⟩;have ek:k=0:=ah;subst ek;rw[e5];have W6:=W5.only0 O6;refine aV λh7 A7 O7 z7=> ?_;refine aS (i:=0) A7 ak rfl λh8 A8 O8 z8=> ?_;refine aS (i:=1) A8 ak rfl λh9 A9 O9 z9=> ?_;have O79:aM [] h6 h9:=(O7.trans O8 (by intro x hx hl;simp at hx;omega)).trans O9 (by intro x hx hl;simp at hx;omega);have W9:=W6.only0 O79;refine zh W9.I ⟨_,_,rfl,?_⟩
 have rV:rT G5.E 0 1=((v:Int),true):=by
  unfold rT;rw[if_pos ⟨ah,by unfold iQ;omega⟩,show Int.toNat 0=0 from rfl,show Int.toNat 1=1 from rfl,e5]
  rfl
 rw[rV];show aK true _ _;rw[aO];refine aI (n:=0) (by rw[aL,At.rd A9];rfl) ?_;rw[show((0:Int)==0)=true from rfl,aO,aO];refine nH W9.I (aR rfl ?_);refine Ec (v:=2) λh10 g hg eg O10=>⟨_,_,_,_,rfl,?_⟩;have W10:=W9.only0 O10
 have hv:isN G5.N v:=by have:=W5.rg 0 ah 1 ah (by rw[e5];rfl);rw[e5]at this;exact this
 have n5:G5.n=4:=R5.n.trans z4;have f5:G5.fo=fill 4:=R5.fo.trans zf;refine HM (X:=XL G5.n G5.room G5.fo G5.gg G5.N G5.off) (λj hj=> ?_) W10.W.S hv hg (λy hy=> ?_) λh11 O11=>aY rfl ?_
 ·show G5.fo j<8;rw[f5];exact BQ (n:=4) ah j (by rw[<-n5];exact hj)
 ·show sm G5.n G5.fo G5.N v y=fb g y;rw[eg y hy,R5.n,R5.fo,sv y]
  rfl
 rw[aO];have W11:=W10.only0 O11;refine uO W11.I (aI rfl ?_)
 have ea:G5.E.ans=1:=by
  rw[R5.ans];have a2:G2.E.ans=0:=by rw[eG2];exact a1
  rw[a2];unfold vx fu fu fu fu fu;rw[sG0,sG2 1 ah,sG2 2 ah,sG2 3 ah]
  rfl
 rw[ea]
 have OO:aM [] h h5:=by
  have b2: ∀b∈iD e G2,h.size<=b:=by
   intro b hb;rcases S2.B b hb with q|q
   ·exact b1 b q
   ·have:=O1.size;omega
  exact S5.only (((S2.only O1 b1).trans O3 ak).trans O4 ak) b2
 exact hK h11 ((((OO.trans O6 ak).trans O79 ak).trans O10 ak).trans O11 ak)
end
end
section
section
variable {h0 h h':aH}{e s k:Nat}{G G':EG}{K:KK}
end
end
section
def pA(o:Nat):kB:=⟨3,((2+o%3:Nat):Int),((o/3%4:Nat):Int),((o/12%4:Nat):Int),((o/48%4:Nat):Int),0,0⟩
def zS(k:Nat):kB:=⟨1,0,(k:Int),0,0,0,k⟩
def tm{a b:Nat}(hb:0<b):Int.tmod (a:Int) (b:Int)=((a%b:Nat):Int):=by rw[Int.tmod_eq_emod_of_nonneg ah];omega
def td{a b:Nat}:Int.tdiv (a:Int) (b:Int)=((a/b:Nat):Int):=by rw[Int.tdiv_eq_ediv_of_nonneg ah];omega
def IK{a:Nat}(h:a<1000000):ax (a:Int)=(a:Int):=wrap_i64 ah ah
def FS{o:Nat}(h:o<256):jR (pA o)= .agg #[al (3:Int),al (ax ((2:Int)+(ax (Int.tmod (o:Int) (3:Int))))),al (ax (Int.tmod (IntKind.wrap .u8 (Int.tdiv (o:Int) (3:Int))) (4:Int))),al (ax (Int.tmod (IntKind.wrap .u8 (Int.tdiv (o:Int) (12:Int))) (4:Int))),al (ax (Int.tmod (IntKind.wrap .u8 (Int.tdiv (o:Int) (48:Int))) (4:Int))),al (0:Int),.int .u8 (0:Int)]:=by
 have e1:ax ((2:Int)+(ax (Int.tmod (o:Int) (3:Int))))=((2+o%3:Nat):Int):=by rw[show(3:Int)=((3:Nat):Int)from rfl,tm ah,IK ah,show(2:Int)+((o%3:Nat):Int)=((2+o%3:Nat):Int) by omega,IK ah]
 have e2: ∀k:Nat,0<k->ax (Int.tmod (IntKind.wrap .u8 (Int.tdiv (o:Int) (k:Int))) (4:Int))=((o/k%4:Nat):Int):=λk hk=>by have l1:o/k<=o:=Nat.div_le_self _ _;have l2:o/k%4<4:=Nat.mod_lt _ ah;rw[td,tV ah,show(4:Int)=((4:Nat):Int)from rfl,tm ah,IK ah]
 have e3:=e2 3 ah;have e4:=e2 12 ah;have e5:=e2 48 ah;rw[e1];rw[show((3:Nat):Int)=3 from rfl]at e3;rw[show((12:Nat):Int)=12 from rfl]at e4;rw[show((48:Nat):Int)=48 from rfl]at e5;rw[e3,e4,e5]
 rfl
def sW(F:iU)(s o:Nat):iU:=cf F s (o/3%4) (some λy=>EI (2+o%3) (gF F s (pA o) 0 y) (gF F s (pA o) 1 y) (gF F s (pA o) 2 y))
def bY(F:iU)(s k:Nat):iU:=cf F s k (some λy=>y.testBit k)
def va(F:iU)(s:Nat):List Nat->iU
 | []=>F
 |o::l=>va (sW F s o) s l
def rU(F:iU)(s:Nat):Prop:= ∀r,r<4-> ∃f,F s r=some f
def rU.upd{F:iU}{s d:Nat}{g:Nat->Bool}(H:rU F s):rU (cf F s d (some g)) s:=λr hr=>by
 unfold cf;by_cases q:s=s/\r=d
 ·rw[if_pos q];exact⟨g,rfl⟩
 ·rw[if_neg q];exact H r hr
def EQ{o:Nat}:fX (pA o)=[((o/12%4:Nat):Int),((o/48%4:Nat):Int)]:=by
 unfold fX;rw[if_neg (by show ¬(3:Int)=4;omega),if_neg (by show ¬(3:Int)=5;omega),if_pos (by show(3:Int)=3;rfl)]
 have:cL ((2+o%3:Nat):Int)=2:=by have:o%3=0\/o%3=1\/o%3=2:=ah;rcases this with z|z|z<;>rw[z]<;>rfl
 show List.take (cL ((2+o%3:Nat):Int)).toNat _=_;rw[this]
 rfl
def zu{F:iU}{s o:Nat}(H:rU F s): ∀r∈fX (pA o),iQ r/\ ∃f,F s r.toNat=some f:=λr hr=>by
 rw[EQ]at hr;simp only[List.mem_cons,List.not_mem_nil,or_false]at hr;rcases hr with z|z<;>subst z
 ·exact⟨by unfold iQ;omega,by rw[Int.toNat_natCast];exact H _ ah⟩
 ·exact⟨by unfold iQ;omega,by rw[Int.toNat_natCast];exact H _ ah⟩
section
variable {h h':aH}{e s t:Nat}{G G':EG}{K:KK}{F:iU}
def Fd(Q:Qt h e G F t)(hs:s<4){o:Nat}(H:rU F s)(room:255*t+255<G.room)(ht:t+1<1000)
  (hK: ∀h' G',Qt h' e G' (sW F s o) (t+1)->bg e G h G' h'->(G'.n=G.n/\G'.fo=G.fo/\G'.room=G.room/\G'.gg=G.gg)->K (.tuple #[.agg #[al 0,aq 0],aC]) h'):
  Cl 53 [bh e,al (s:Int),jR (pA o)] h K:=
 Cb (op:=2+o%3) (d:=o/3%4) Q hs ah (by show 0<256;omega) rfl rfl ah rfl (zu H) room ht hK
def Gj(Q:Qt h e G F t)(hs:s<4){k:Nat}(hk:k<4)(hn:k<G.n)(room:255*t+255<G.room)(ht:t+1<1000)
  (hK: ∀h' G',Qt h' e G' (bY F s k) (t+1)->bg e G h G' h'->(G'.n=G.n/\G'.fo=G.fo/\G'.room=G.room/\G'.gg=G.gg)->K (.tuple #[.agg #[al 0,aq 0],aC]) h'):
  Cl 53 [bh e,al (s:Int),jR (zS k)] h K:=
 BR (d:=k) (c:=zS k) Q hs ah hn rfl rfl ah (λh' G' Q' S' k' _=>hK h' G' Q' S' k') ht
def sc{n1 n2:Int}{Q:Nat->aH->Prop}(hQ: ∀h',At h' h.size [al n1,aq n2]->aM [] h h'->Q h.size h'):
  a9 h (.cells #[(al (0:Int)),(aq (0:Int))] 76) (λb6 h7=>aW h7 (Addr.add (aw b6) 0) (al n1) (λh8=>aW h8 (Addr.add (aw b6) 1) (aq n2) (λh9=>Q b6 h9))):=by
 refine aV λh1 A1 O1 z1=> ?_;rw[aL,aL];refine aS (i:=0) A1 ak rfl λh2 A2 O2 z2=>aS (i:=1) A2 ak rfl λh3 A3 O3 z3=>hQ h3 A3 ?_;exact(O1.trans O2 (by intro x hx hl;simp at hx;omega)).trans O3 (by intro x hx hl;simp at hx;omega)
def Fh{bp:az}{xs:List Nat}{bc:Nat}(Q:Qt h e G F t)(hs:s<4)(hn:4<=G.n)(hx: ∀o∈xs,o<256)(hl:xs.length<=100)(room:255*(t+4+xs.length)<G.room)(ht:t+4+xs.length<900)
  (hb: ∀hh,(∀T,(∀q∈iD e G,q∈T)->aM T h hh)->pS hh .u8 bp (xs.map λ(o:Nat)=>(o:Int)))
  (hK: ∀h' G',Qt h' e G' (va (bY (bY (bY (bY F s 0) s 1) s 2) s 3) s xs) (t+4+xs.length)->bg e G h G' h'->(G'.n=G.n/\G'.fo=G.fo/\G'.room=G.room/\G'.gg=G.gg)->K aC h'):
  Cl 55 [bh e,al (s:Int),.slice bp xs.length bc] h K:=by
 refine F55.spec _ _ _ _ _ h K ?_;unfold F55.wk2
 have ops: ∀(d i:Nat) (hh:aH) (G1:EG) (F1:iU),d+i=xs.length->Qt hh e G1 F1 (t+4+i)->bg e G h G1 hh->(G1.n=G.n/\G1.fo=G.fo/\G1.room=G.room/\G1.gg=G.gg)->rU F1 s->(∀h' G',Qt h' e G' (va F1 s (xs.drop i)) (t+4+xs.length)->bg e G h G' h'->(G'.n=G.n/\G'.fo=G.fo/\G'.room=G.room/\G'.gg=G.gg)->K aC h')->
   F55.wL8 (d+1) (aw e) (s:Int) bp xs.length bc (i:Int) hh K:=by
  intro d
  induction d with
  |zero=>
   intro i hh G1 F1 hi Q1 S1 k1 H1 hK1;rw[F55.sL8];rw[decide_eq_false ah,aJ];have ei:i=xs.length:=ah;subst ei;rw[List.drop_length]at hK1;exact hK1 hh G1 Q1 S1 k1
  |succ d ih=>
   intro i hh G1 F1 hi Q1 S1 k1 H1 hK1;rw[F55.sL8];rw[decide_eq_true ah,aO];have hil:i<xs.length:=ah;obtain⟨o,ho⟩: ∃o,xs[i]? =some o:=⟨_,List.getElem?_eq_getElem hil⟩;have o8:=hx o (List.mem_of_getElem? ho);obtain⟨a,ea,ra⟩:=hb hh S1.O i (by simpa using hil);have ro:(xs.map λ(o:Nat)=>(o:Int)).getD i 0=(o:Int):=by rw[List.getD_eq_getElem?_getD,List.getElem?_map,ho];rfl
   rw[ro]at ra;rw[ea];refine⟨ah,ah,aI (n:=(o:Int)) (by rw[show Int.toNat (i:Int)*1=i by omega];exact ra) ⟨ah,ah,ah,ah,ah,ah,ah,?_⟩⟩;rw[<-FS o8];refine Fd Q1 hs H1 (by rw[k1.2.2.1];omega) ah λh2 G2 Q2 S2 k2=>⟨_,_,_,rfl,sc λh3 A3 O3=> ?_⟩;rw[Bool.not_true,aJ];refine aI (n:=0) (by rw[aL,At.rd A3];rfl) ?_;rw[show((0:Int) !=0)=false from rfl,aJ,show ax ((i:Int)+1)=((i+1:Nat):Int) by rw[wrap_i64 ah ah];omega,<-ea];refine ih (i+1) h3 G2 (sW F1 s o) ah (Q2.only0 O3) ((S1.trans S2).trans (bg.only0 O3)) ⟨k2.1.trans k1.1,k2.2.1.trans k1.2.1,k2.2.2.1.trans k1.2.2.1,k2.2.2.2.trans k1.2.2.2⟩ H1.upd λh' G' Q' S' k'=> ?_;refine hK1 h' G' ?_ S' k'
   have ed:xs.drop i=o::xs.drop (i+1):=by rw[List.drop_eq_getElem_cons hil];rw[List.getElem?_eq_getElem hil]at ho;injection ho with ho;rw[ho]
   rw[ed];exact Q'
 have vars: ∀(d k:Nat) (hh:aH) (G1:EG) (F1:iU),d+k=4->Qt hh e G1 F1 (t+k)->bg e G h G1 hh->(G1.n=G.n/\G1.fo=G.fo/\G1.room=G.room/\G1.gg=G.gg)->F1=(match k with|0=>F|1=>bY F s 0|2=>bY (bY F s 0) s 1|3=>bY (bY (bY F s 0) s 1) s 2|_=>bY (bY (bY (bY F s 0) s 1) s 2) s 3)->
   F55.wL2 (d+1) (aw e) (s:Int) bp xs.length bc (k:Int) hh K:=by
  intro d
  induction d with
  |zero=>
   intro k hh G1 F1 hk Q1 S1 k1 e1;rw[F55.sL2];rw[decide_eq_false ah,aJ];have ek:k=4:=ah;subst ek;subst e1;unfold F55.wk7 F55.wk8;refine⟨_,ops xs.length 0 hh G1 _ ah Q1 S1 k1 (λr hr=> ?_) λh' G' Q' S' k'=>hK h' G' Q' S' k'⟩;have:r=0\/r=1\/r=2\/r=3:=ah;rcases this with z|z|z|z<;>subst z
   ·exact⟨_,by show cf (cf (cf (cf F s 0 _) s 1 _) s 2 _) s 3 _ s 0=_;unfold cf;simp;rfl⟩
   ·exact⟨_,by show cf (cf (cf (cf F s 0 _) s 1 _) s 2 _) s 3 _ s 1=_;unfold cf;simp;rfl⟩
   ·exact⟨_,by show cf (cf (cf (cf F s 0 _) s 1 _) s 2 _) s 3 _ s 2=_;unfold cf;simp;rfl⟩
   ·exact⟨_,by show cf (cf (cf (cf F s 0 _) s 1 _) s 2 _) s 3 _ s 3=_;unfold cf;simp;rfl⟩
  |succ d ih=>
   intro k hh G1 F1 hk Q1 S1 k1 e1;rw[F55.sL2];rw[decide_eq_true ah,aO,tV ah];refine Gj (k:=k) Q1 hs ah (by rw[k1.1];omega) (by rw[k1.2.2.1];omega) ah λh2 G2 Q2 S2 k2=>⟨_,_,_,rfl,sc λh3 A3 O3=> ?_⟩;rw[Bool.not_true,aJ];refine aI (n:=0) (by rw[aL,At.rd A3];rfl) ?_;rw[show((0:Int) !=0)=false from rfl,aJ,t8 ah];refine ih (k+1) h3 G2 _ ah (Q2.only0 O3) ((S1.trans S2).trans (bg.only0 O3)) ⟨k2.1.trans k1.1,k2.2.1.trans k1.2.1,k2.2.2.1.trans k1.2.2.1,k2.2.2.2.trans k1.2.2.2⟩ ?_;have:k=0\/k=1\/k=2\/k=3:=ah;rcases this with z|z|z|z<;>subst z<;>(subst e1;rfl)
 exact⟨_,vars 4 0 h G F ah Q bg.refl ⟨rfl,rfl,rfl,rfl⟩ rfl⟩
end
end
end Go.Proofs.YtnofenejoebkhaaGreat.Ev
