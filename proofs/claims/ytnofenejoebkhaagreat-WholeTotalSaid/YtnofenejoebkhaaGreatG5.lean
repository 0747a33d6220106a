/- PART 5 OF WHAT THE LAW WholeTotal STANDS ON. Conditions: none but those that each lemma states. -/
import Derived.Test.YtnofenejoebkhaaGreatG4
import Derived.RangeFuncGives
import Derived.RangeFuncLeaves
import Derived.RangeFuncOwn
import Derived.Maps.OwnIn
import Derived.Maps.AppendAt
import Derived.WalkKit
import Derived.RegionIn
import Derived.LoopNIn
import Derived.LoopIn
import Derived.TacticsInMore
import Derived.Shelf.Abstract
namespace Go.Proofs.YtnofenejoebkhaaGreat.Ev
open Go
set_option linter.defProp false
set_option maxRecDepth 100000
set_option autoImplicit true
set_option relaxedAutoImplicit true
structure Rf(lo:Nat)(h:aI)(r M S W N:Nat)(f:Int->Int)(p:Nat->az)(c:Nat->Nat)(L:Nat->List Int):Prop where
 R:At h r [.map (some M),.slice (some (aw S)) W W]
 T:At h S (dQ W λk=> .slice (p k) (L k).length (c k))
 Mm: ∃m,bV h M .u32 m/\(∀x,m.lookup x=if f x=0 then none else some (ap (f x)))/\m.length<=N
 fr: ∀x,0<=f x/\f x<=N
 fx: ∀x,f x≠0->0<=x/\x<=4294967295
 own: ∀k,k<W->cy h lo 1 (p k) (L k).length (c k) ((L k).map (Value.int .u32))
 len: ∀k,k<W->(L k).length<=N
 ge:lo<=r/\lo<=S/\lo<=M
 rS:r≠S
 sep: ∀k,k<W-> ∀b∈aV (p k),b≠r/\b≠S/\ ∀k',k'<W->k'≠k->b∉aV (p k')
def At.ne_map(A:At h b c)(H:bV h M k m):b≠M:=by obtain⟨es,cl,h1,-⟩:=H;obtain⟨e,A⟩:=A;intro e';subst e';rw[kF h1]at A;cases A
def Rf.rM(H:Rf lo h r M S W N f p c L):r≠M:=by obtain⟨m,a,-⟩:=H.Mm;exact H.R.ne_map a
def Rf.SM(H:Rf lo h r M S W N f p c L):S≠M:=by obtain⟨m,a,-⟩:=H.Mm;exact H.T.ne_map a
def Rf.pM(H:Rf lo h r M S W N f p c L)(hk:k<W)(hb:b∈aV (p k)):b≠M:=by obtain⟨m,a,-⟩:=H.Mm;obtain⟨c,A⟩:=(H.own k hk).cells b hb;exact A.ne_map a
def Rf.only{lo:Nat}{h h':aI}{r M S W N:Nat}{f:Int->Int}{p:Nat->az}{c:Nat->Nat}{L:Nat->List Int}(H:Rf lo h r M S W N f p c L){X:List Nat}(O:aM X h h')(hr:r∉X)(hS:S∉X)(hM:M∉X)(hp: ∀k,k<W-> ∀b∈aV (p k),b∉X):Rf lo h' r M S W N f p c L where
 R:=H.R.only O hr
 T:=H.T.only O hS
 Mm:=by obtain⟨m,a,b,d⟩:=H.Mm;exact⟨m,a.only O hM,b,d⟩
 fr:=H.fr
 fx:=H.fx
 own:=λk hk=>(H.own k hk).onlyC O λb hb _=>hp k hk b hb
 len:=H.len
 ge:=H.ge
 rS:=H.rS
 sep:=H.sep
def Rf.new{lo:Nat}{h h':aI}{r M S W N:Nat}{f:Int->Int}{p:Nat->az}{c:Nat->Nat}{L:Nat->List Int}(H:Rf lo h r M S W N f p c L)(O:aM [] h h'):Rf lo h' r M S W N f p c L:=H.only O ak ak ak ak
def Rf.lt{h:aI}(H:Rf lo h r M S W N f p c L):r<h.size/\S<h.size/\M<h.size/\ ∀k,k<W-> ∀b∈aV (p k),lo<=b/\b<h.size:=by obtain⟨m,a,-⟩:=H.Mm;exact⟨H.R.lt,H.T.lt,a.lt,λk hk=>(H.own k hk).lt⟩
def Rf.grow(H:Rf lo h r M S W N f p c L)(hN:N<=N'):Rf lo h r M S W N' f p c L:=
 {H with
  Mm:=by obtain⟨m,a,b,d⟩:=H.Mm;exact⟨m,a,b,Nc d hN⟩
  fr:=λx=>⟨(H.fr x).1,by have:=(H.fr x).2;omega⟩
  len:=λk hk=>Nc (H.len k hk) hN}
def Rf.rd0(H:Rf lo h r M S W N f p c L):rd h (aw r)=some (.map (some M)):=H.R.rd 0
def Rf.rd1(H:Rf lo h r M S W N f p c L):rd h ⟨r,1,none⟩=some (.slice (some (aw S)) W W):=H.R.rd 1
def Rf.rdT(H:Rf lo h r M S W N f p c L)(hk:k<W):rd h ⟨S,k,none⟩=some (.slice (p k) (L k).length (c k)):=by rw[H.T.rd,dR hk]
def sY(H:Rf lo h r M S W N f p c L)(hK:K (f x)):dT h (some M) .u32 .u32 x λo=>aS .i64 (some (kU (ap (0:Int)) o)) K:=by
 obtain⟨m,a,b,-⟩:=H.Mm;refine dg a (λe=> ?_) λi v e=> ?_
 ·rw[b x]at e
  have:f x=0:=by
   by_cases h0:f x=0
   ·exact h0
   ·rw[LY h0]at e;cases e
  rw[this]at hK;show aS .i64 (some (ap 0)) K;rw[bB];exact hK
 ·rw[b x]at e;by_cases h0:f x=0
  ·rw[L4 h0]at e;cases e
  ·rw[LY h0]at e;injection e with e;subst e;show aS .i64 (some (ap (f x))) K;rw[bB];exact hK
def uY(f:Int->Int)(x v:Int):Int->Int:=λy=>if y=x then v else f y
def oQ{m:List (Int×Value)}:(iz m x v).length<=m.length+1:=by unfold iz;split<;>simp
def BK{m:List (Int×Value)}:(lE m x).length<=m.length:=by unfold lE;exact NG _ _
def tI{lo:Nat}{h h':aI}{r M S W N:Nat}{f:Int->Int}{p:Nat->az}{c:Nat->Nat}{L:Nat->List Int}(H:Rf lo h r M S W N f p c L)(O:aM [M] h h'){N':Nat}{f':Int->Int}(hN:N<=N')(hm: ∃m,bV h' M .u32 m/\(∀x,m.lookup x=if f' x=0 then none else some (ap (f' x)))/\m.length<=N')
  (a: ∀x,0<=f' x/\f' x<=N') (d: ∀x,f' x≠0->0<=x/\x<=4294967295):Rf lo h' r M S W N' f' p c L where
 R:=H.R.only O (by simpa using H.rM)
 T:=H.T.only O (by simpa using H.SM)
 Mm:=hm
 fr:=a
 fx:=d
 own:=λk hk=>(H.own k hk).onlyC O λb hb _=>by simpa using H.pM hk hb
 len:=λk hk=>Nc (H.len k hk) hN
 ge:=H.ge
 rS:=H.rS
 sep:=H.sep
def GY{lo:Nat}{h:aI}{r M S W N:Nat}{f:Int->Int}{p:Nat->az}{c:Nat->Nat}{L:Nat->List Int}{K:KK}(H:Rf lo h r M S W N f p c L){x:Int}(hx:0<=x/\x<=4294967295)(hN:N<=LB)(hK: ∀h',Rf lo h' r M S W (N+1) (uY f x (f x+1)) p c L->aM [M] h h'->K aE h'):
  Cl 210 [au (aw r),aq x] h K:=by
 refine F210.spec ?_;have e:LB=140737488355328:=rfl;rw[aL,H.rd0,gJ];have b:=H.fr x;refine sY H ?_;obtain⟨m,a,b',d⟩:=H.Mm;refine fk a λh1 M1 O1 z1=> ?_;rw[wrap_i64 ah ah]at M1;refine hK h1 (tI H O1 ah ⟨_,M1,λy=> ?_,Nc oQ ah⟩ (λy=> ?_) λy=> ?_) O1
 ·rw[cr];unfold uY;by_cases hy:y=x
  ·rw[L4 hy,L4 hy,LY ah]
  ·rw[LY hy,LY hy];exact b' y
 ·unfold uY;have:=H.fr y;split<;>omega
 ·unfold uY;by_cases hy:y=x
  ·subst hy;intro _;exact hx
  ·rw[LY hy];exact H.fx y
def IS{lo:Nat}{h:aI}{r M S W N:Nat}{f:Int->Int}{p:Nat->az}{c:Nat->Nat}{L:Nat->List Int}{K:KK}(H:Rf lo h r M S W N f p c L){x:Int}(hN:N<=LB)(h0:f x=0->K (ap 61) h)(hK:f x≠0-> ∀h',Rf lo h' r M S W (N+1) (uY f x (f x-1)) p c L->aM [M] h h'->K (ap 0) h'):
  Cl 209 [au (aw r),aq x] h K:=by
 refine F209.spec ?_;have j:LB=140737488355328:=rfl;rw[aL,H.rd0,gJ];have b:=H.fr x;refine sY H ?_;refine aR (λe=>h0 (by simpa using e)) λe=> ?_;have e':f x≠0:=by simpa using e
 have hx:=H.fx x e';rw[gJ];refine sY H ?_;obtain⟨m,a,b',d⟩:=H.Mm;refine fk a λh1 M1 O1 z1=> ?_;rw[wrap_i64 ah ah]at M1;have R1:=H.R.only O1 (by simpa using H.rM);rw[show rd h1 ⟨r,0+0,none⟩=some (.map (some M))from R1.rd 0,gJ];refine dg M1 (λe=> ?_) λi v e=> ?_
 ·rw[cr,L4 rfl]at e;cases e
 ·rw[cr,L4 rfl]at e;injection e with e;subst e;show aS .i64 (some (ap (f x-1))) _;rw[bB]
  have fin: ∀(h2:aI) (m2:List (Int×Value)),bV h2 M .u32 m2->(∀y,m2.lookup y=if uY f x (f x-1) y=0 then none else some (ap (uY f x (f x-1) y)))->m2.length<=m.length+1->aM [M] h h2->K (ap 0) h2:=by
   intro h2 m2 M2 l2 n2 O2;refine hK e' h2 (tI H O2 ah ⟨_,M2,l2,ah⟩ (λy=> ?_) λy=> ?_) O2
   ·unfold uY;have:=H.fr y;split<;>omega
   ·unfold uY;by_cases hy:y=x
    ·subst hy;intro _;exact hx
    ·rw[LY hy];exact H.fx y
  refine aR (λe0=> ?_) λe0=> ?_
  ·have g:f x-1=0:=by simpa using e0
   rw[gJ];refine sn M1 λh2 M2 O2 z2=> ?_;refine fin h2 _ M2 (λy=> ?_) (Nc BK oQ) (O1.trans O2 ak);rw[ny,cr];unfold uY;by_cases hy:y=x
   ·rw[L4 hy,L4 hy,L4 g]
   ·rw[LY hy,LY hy,LY hy];exact b' y
  ·have g:f x-1≠0:=by simpa using e0
   refine fin h1 _ M1 (λy=> ?_) oQ O1;rw[cr];unfold uY;by_cases hy:y=x
   ·rw[L4 hy,L4 hy,LY g]
   ·rw[LY hy,LY hy];exact b' y
def xf(x:Int):Int:=if(4:Int)<(if(1:Int)>x then(1:Int)else x)then(4:Int)else(if(1:Int)>x then(1:Int)else x)
def rT(x:Int):1<=xf x/\xf x<=4:=by
 unfold xf
 repeat' split
 all_goals omega
def Br(n:Nat)(v:Value):List.replicate n v=dQ n λ_=>v:=by unfold dQ;rw[List.map_const'];simp
def BH{h:aI}(hK: ∀h',bV h' h.size k []->aM [] h h'->h'.size=h.size+1->K h.size h'):bg h (.map #[] 0) K:=
 hK _ (bV.empty (by unfold mp;simp)) (aM.push_map h _ _) ak
def IJ{h:aI}(hK: ∀h' r M S,Rf h.size h' r M S (xf x).toNat 0 (λ_=>0) (λ_=>none) (λ_=>0) (λ_=> [])->aM [] h h'->K (au (aw r)) h'):
  Cl 67 [ap x] h K:=by
 refine F67.spec ?_;change bg h (.map #[] 0) λb1 h2=>(0<=xf x/\xf x<=xf x/\((Nat.cast 24:Int)*xf x<=281474976710656)/\xf x<=9223372036854775807/\bg h2 (.cells (madeCells #[(.slice none 0 0)] (Int.toNat (xf x)*1)) 56) (λb3 h4=>bg h4 (.cells #[(.map (some b1)),(.slice (some (aw b3)) (Int.toNat (xf x)) (Int.toNat (xf x)))] 207) (λb5 h6=>K (au (aw b5)) h6)));have hw:=rT x;generalize xf x=y at hw hK ⊢;refine BH (k:= .u32) λh1 M1 O1 z1=>⟨ah,ah,ah,ah,?_⟩;refine aW λh2 A2 O2 z2=> ?_;refine aW λh3 A3 O3 z3=> ?_;rw[toList_madeCells_one,Br,MU]at A2;refine hK h3 _ h.size _ ⟨A3,A2.only O3 ak,⟨[],(M1.only O2 ak).only O3 ak,λx=>by simp[List.lookup],Mb _⟩,λx=>ah,λx h=>Mw rfl h,λk hk=>cy.nil _ _ _,λk hk=>Mb _,⟨ah,ah,Mb _⟩,ah,λk hk b hb=>by simp[aV]at hb⟩ ((O1.trans O2 ak).trans O3 ak)
def Eu(H:Rf lo h r M S W N f p c L){w:Int}(hK:K (ap (if 0<=w/\w<W then((L w.toNat).length:Int)else 0)) h):Cl 219 [au (aw r),ap w] h K:=by
 refine F219.spec ?_;refine aR (λh1=> ?_) λh1=> ?_
 ·simp only[Mu]at h1;rw[LY ah]at hK;exact hK
 ·simp only[Mr]at h1;rw[aL,LX,H.rd1,bK];refine aR (λh2=> ?_) λh2=> ?_
  ·simp only[Mu]at h2;rw[LY ah]at hK;exact hK
  ·simp only[Mr]at h2;obtain⟨k,rfl⟩: ∃k:Nat,w=k:=⟨w.toNat,ah⟩;rw[L4 ah,Md]at hK;rw[bK,aT];refine⟨ah,ah,?_⟩;rw[aL,show 0+Int.toNat (k:Int)*1=k by omega,H.rdT ah,bK];exact hK
def ig{α:Type}(p:Nat->α)(w:Nat)(v:α):Nat->α:=λk=>if k=w then v else p k
def tV{h:aI}(H:Rf lo h r M S W N f p c L)(hw:w<W)(O:aM (S::aV (p w)) h h2){l':List Int}(hN:N<=N')(hl:l'.length<=N')
  (A:At h2 S (dQ W λk=> .slice (ig p w p' k) (ig L w l' k).length (ig c w c' k))) (Ow:cy h2 lo 1 p' l'.length c' (l'.map (Value.int .u32))) (n: ∀b∈aV p',b∈aV (p w)\/h.size<=b):
  Rf lo h2 r M S W N' f (ig p w p') (ig c w c') (ig L w l') where
 R:=H.R.only O (by simp only[List.mem_cons,NU];exact⟨H.rS,λhb=>(H.sep w hw r hb).1 rfl⟩)
 T:=A
 Mm:=by obtain⟨m,a,b,d⟩:=H.Mm;refine⟨m,a.only O ?_,b,Nc d hN⟩;simp only[List.mem_cons,NU];exact⟨λe=>H.SM e.symm,λhb=>H.pM hw hb rfl⟩
 fr:=λx=>⟨(H.fr x).1,by have:=(H.fr x).2;omega⟩
 fx:=H.fx
 own:=λk hk=>by
  unfold ig;by_cases e:k=w
  ·subst e;rw[L4 rfl,L4 rfl,L4 rfl];exact Ow
  ·rw[LY e,LY e,LY e];refine(H.own k hk).onlyC O λb hb _=> ?_;simp only[List.mem_cons,NU];exact⟨(H.sep k hk b hb).2.1,(H.sep k hk b hb).2.2 w hw (Ne.symm e)⟩
 len:=λk hk=>by
  unfold ig;by_cases e:k=w
  ·rw[L4 e];exact hl
  ·rw[LY e];exact Nc (H.len k hk) hN
 ge:=H.ge
 rS:=H.rS
 sep:=λk hk b hb=>by
  have old: ∀b∈aV p',b≠r/\b≠S/\ ∀k',k'<W->k'≠w->b∉aV (p k'):=λb hb=>by
   rcases n b hb with h1|h1
   ·exact H.sep w hw b h1
   ·have l:=H.lt;exact⟨ah,ah,λk' g _ j=>by have:=(l.2.2.2 k' g b j).2;omega⟩
  unfold ig at hb ⊢;by_cases e:k=w
  ·subst e;rw[L4 rfl]at hb;obtain⟨a1,a2,a3⟩:=old b hb;refine⟨a1,a2,λk' g i=> ?_⟩;rw[LY i];exact a3 k' g i
  ·rw[LY e]at hb;obtain⟨a1,a2,a3⟩:=H.sep k hk b hb;refine⟨a1,a2,λk' g i=> ?_⟩;by_cases e':k'=w
   ·rw[L4 e'];intro j;exact(old b j).2.2 k hk e hb
   ·rw[LY e'];exact a3 k' g i
def uK{l':List Int}:(dQ W λk=>Value.slice (p k) (L k).length (c k)).set w (.slice p' l'.length c')=dQ W λk=> .slice (ig p w p' k) (ig L w l' k).length (ig c w c' k):=by rw[jE];apply gC;intro k _;unfold ig;split<;>rfl
def FV{lo:Nat}{h:aI}{r M S W N:Nat}{f:Int->Int}{p:Nat->az}{c:Nat->Nat}{L:Nat->List Int}{K:KK}(H:Rf lo h r M S W N f p c L){w x:Int}(hN:N<=LB/8)(i:lo<=h.size)(hx: ¬(0<=w/\w<W)->K aB h)
  (hK: ∀k:Nat,w=k->k<W-> ∀h' p' c',Rf lo h' r M S W (N+1) f (ig p k p') (ig c k c') (ig L k (L k++[x]))->aM (S::aV (p k)) h h'->(∀b∈aV p',b∈aV (p k)\/h.size<=b)->K aC h'):
  Cl 174 [au (aw r),ap w,aq x] h K:=by
 refine F174.spec ?_;have g:LB=140737488355328:=rfl;refine aR (λh1=> ?_) λh1=> ?_
 ·simp only[Mu]at h1;exact hx ah
 ·simp only[Mr]at h1;rw[aL,LX,H.rd1,bK];refine aR (λh2=> ?_) λh2=> ?_
  ·simp only[Mu]at h2;exact hx ah
  ·simp only[Mr]at h2;obtain⟨k,rfl⟩: ∃k:Nat,w=k:=⟨w.toNat,ah⟩;have hk:k<W:=ah;rw[bK,bK,aT];refine⟨ah,ah,?_⟩;rw[aL,show 0+Int.toNat (k:Int)*1=k by omega,H.rdT hk,bK];refine aW λh3 A3 O3 z3=> ?_;have H3:=H.new O3;refine⟨rfl,rfl,rfl,?_⟩;rw[H3.rd1,bK];refine⟨rfl,rfl,rfl,rfl,rfl,?_⟩;rw[bK];refine⟨rfl,rfl,?_⟩;rw[aT];refine⟨ah,ah,by rw[aL,show 0+Int.toNat (k:Int)*1=k by omega],?_⟩;rw[H3.rdT hk,bK];refine⟨rfl,?_⟩;have hb:=H3.len k hk;refine gU (lo:=lo) (H3.own k hk) A3 rfl rfl ah (by simp[Value.oneCell']) ah λp' c' h4 Ow O4 d=>⟨rfl,rfl,rfl,?_⟩;have nS:S∉aV (p k):=λhb=>(H.sep k hk S hb).2.1 rfl;have nr:r∉aV (p k):=λhb=>(H.sep k hk r hb).1 rfl;have R4:=H3.R.only O4 nr;have T4:=H3.T.only O4 nS;rw[show rd h4 ⟨r,1,none⟩=some (.slice (some (aw S)) W W)from R4.rd 1,bK];refine⟨rfl,rfl,?_⟩;rw[aT];refine⟨ah,ah,?_⟩;rw[aL,aL,show 0+Int.toNat (k:Int)*1+0=k by omega];refine aU T4 (by rw[cj];exact hk) rfl λh5 A5 O5 z5=> ?_;have O35:aM (S::aV (p k)) h h5:=((O3.mono (T:=S::aV (p k)) ak).trans O4 (by intro b hb _;simp[hb])).trans O5 (by intro b hb _;simp at hb;simp[hb])
   have e: ∀b∈aV p',b∈aV (p k)\/h.size<=b:=λb hb=>by
    rcases d b hb with h|h
    ·exact .inl h
    ·exact .inr ah
   have A5':At h5 S (dQ W λj=> .slice (ig p k p' j) (ig L k (L k++[x]) j).length (ig c k c' j)):=by rw[<-uK];rw[Mv,MP];exact A5
   refine hK k rfl hk h5 p' c' (tV H hk O35 ah (by simp;have:=H.len k hk;omega) A5' ?_ e) O35 e;rw[Mv,MP,MJ,PJ];refine Ow.onlyC O5 λb hb _ a=> ?_;simp at a;subst a;rcases d b hb with h|h
   ·exact nS h
   ·have:=H.lt;omega
def Kg(H:Rf lo h r M S W N f p c L){w:Int}(hN:N<=LB/8)(h0:(¬(0<=w/\w<W)\/L w.toNat=[])->K (.tuple #[aq 0,aB]) h)
  (hK: ∀(k:Nat) (l:List Int) (x:Int),w=k->k<W->L k=l++[x]-> ∀h',Rf lo h' r M S W N f p c (ig L k l)->aM [S] h h'->K (.tuple #[aq x,aC]) h'):
  Cl 176 [au (aw r),ap w] h K:=by
 refine F176.spec ?_;have o:LB=140737488355328:=rfl;refine Eu H ?_;rw[bB];by_cases hin:0<=w/\w<W
 ·rw[L4 hin];obtain⟨k,rfl⟩: ∃k:Nat,w=k:=⟨w.toNat,ah⟩;have hk:k<W:=ah;rw[Md]at h0 ⊢;rcases List.eq_nil_or_concat (L k)with e|⟨l,x,e⟩
  ·rw[e,show(((([]:List Int).length:Nat):Int)==0)=true by simp,aO];exact h0 (.inr e)
  ·rw[Pr]at e;have n:(L k).length=l.length+1:=by rw[e];simp
   have hb:=H.len k hk;rw[show((((L k).length:Nat):Int)==0)=false from OP.2 ah,aK,aL,LX,H.rd1,bK,aT];refine⟨ah,ah,?_⟩;rw[aL,show 0+k*1=k by omega,H.rdT hk,bK,bK,show ax (((L k).length:Int)-1)=(l.length:Int) by rw[bq ah ah];omega];have Ow:=H.own k hk
   have hc:(L k).length<=c k:=by
    rcases Ow.2 with⟨_,e1,_⟩|⟨b,sp,_,_,h3,_⟩
    ·omega
    ·exact h3
   obtain⟨b,sp,d,i,h3,h4,h5⟩: ∃(b:Nat) (sp:List Value),p k=some (aw b)/\lo<=b/\(L k).length<=c k/\sp.length=(c k-(L k).length)*1/\At h b ((L k).map (Value.int .u32)++sp):=by
    rcases Ow.2 with⟨_,e1,_⟩|h
    ·omega
    ·exact h
   refine⟨ah,ah,?_⟩;rw[aT];refine⟨ah,ah,?_⟩;rw[aL,aL,show 0+k*1+0=k by omega,LY (by omega: ¬c k=0)];have ep:Option.map (λa=>Addr.add a (0*1)) (p k)=p k:=by rw[d];simp
   rw[ep,Of,Md,Of];refine aU H.T (by rw[cj];exact hk) rfl λh6 A6 O6 z6=> ?_;have m:b≠S:=λe=>(H.sep k hk b (by rw[d];simp[aV])).2.1 e;have g:=h5.only O6 (by simpa using m);rw[d,aT];refine⟨ah,ah,?_⟩;rw[aL,g.rd,show 0+l.length*1=l.length by omega,Mo (by simp;omega)];have ex:((L k).map (Value.int .u32))[l.length]? =some (aq x):=by rw[e];simp
   rw[ex,bB];have e1:ig p k (p k)=p:=by funext j;unfold ig;split<;>simp_all
   have e2:ig c k (c k)=c:=by funext j;unfold ig;split<;>simp_all
   have A6':At h6 S (dQ W λj=> .slice (ig p k (p k) j) (ig L k l j).length (ig c k (c k) j)):=by rw[<-uK];exact A6
   have R6:=tV H hk (O6.mono (T:=S::aV (p k)) (by intro b hb _;simp at hb;simp[hb])) (Mb _) ah A6' ⟨ak,.inr ⟨b,aq x::sp,d,i,ah,by simp;omega,by rw[e]at g;simpa using g⟩⟩ λb hb=> .inl hb;rw[e1,e2]at R6;exact hK k l x rfl hk e h6 R6 O6
 ·rw[LY hin,show((0:Int)==0)=true by decide,aO];exact h0 (.inl hin)
section
open Go Go.RowKit Go.Maps
def ky(_:Value):Option (DataW Unit×List MemPlace):=some (.nil,[])
def Ad(q:IntKind)(p:Int×Value):Lit×DataW Unit:=(.int q p.1,.nil)
def wR{P:Program}(hk:P.underlying kt=some (.int q)){w:World}{m:List (Int×Value)}(M:bV w.heap b q m)
  (d: ∀x∈m.map (·.1),(Lit.int q x).wf=true) (i:m.length<=maxLen):
  ∃D:DataW Unit,w.ownsMap P kt ky b m.length D/\Maps.size D=m.length/\ ∀x,Maps.has D (.int q x)=true↔x∈m.map (·.1):=by
 obtain⟨es,cl,h1,h2,h3,h4,h5⟩:=M;have c:es.toList.length=m.length:=by simpa using congrArg List.length h2
 have f: ∀(l:List MapEntry) (m:List (Int×Value)),l.map (λe=>(e.key,e.val))=m.map (λp=>(Value.int q p.1,p.2))->(∀x∈m.map (·.1),(Lit.int q x).wf=true)->
   l.map (WideElems.rg P kt ky)=m.map (Ad q)/\ ∀x∈l,∃y,WideElems.rd P kt ky x=some y:=by
  intro l
  induction l with
  |nil=>intro m h _;cases m with
   |nil=>exact⟨rfl,ak⟩
   |cons p m=>simp at h
  |cons e l ih=>intro m h hw;cases m with
   |nil=>simp at h
   |cons p m=>
    simp only[Mz,Ng,Ph]at h;obtain⟨⟨a1,a2⟩,a3⟩:=h;obtain⟨i1,i2⟩:=ih m a3 λx hx=>hw x (by simp[hx])
    have hr:WideElems.rd P kt ky e=some (Ad q p):=by
     unfold WideElems.rd;rw[a1,keyOf_int_mk hk (hw p.1 ak)]
     rfl
    refine⟨by rw[Mz,Mz,i1];unfold WideElems.rg;rw[hr];rfl,λx hx=> ?_⟩;rcases List.mem_cons.1 hx with rfl|hx
    ·exact⟨_,hr⟩
    ·exact i2 x hx
 obtain⟨r1,r2⟩:=f _ m h2 d;refine⟨_,⟨es,cl,kF h1,⟨by rw[<-Array.length_toList,c];exact i,⟨h5,h4,?_⟩,r2⟩,by rw[<-Array.length_toList,c];exact Mb _,rfl⟩,?_,λx=> ?_⟩
 ·have e:es.toList.map (·.key)=(m.map (·.1)).map (Value.int q):=by
   have:=congrArg (List.map Prod.fst) h2;simpa[NL,Function.comp_def]using this
  rw[e];exact h3.map _ λa b g e=>g (by injection e)
 ·rw[Maps.size_eq,length_sorted,ND,c]
 ·rw[Maps.has_eq,Pm,r1];constructor
  ·rintro ⟨p,hp,hs⟩;rw[mem_sorted,Ms]at hp;obtain⟨y,hy,rfl⟩:=hp;simp[Ad,Lit.sameKey]at hs;exact Ms.2 ⟨y,hy,hs⟩
  ·intro hx;obtain⟨p,hp,rfl⟩:=Ms.1 hx;exact⟨Ad q p,mem_sorted.2 (Ms.2 ⟨p,hp,rfl⟩),by simp[Ad,Lit.sameKey]⟩
def iH(q:IntKind)(D0:DataW Unit)(left:Lit->Bool)(ss:List Int):Prop:=ss.Nodup/\ ∀x,x∈ss↔(Maps.has D0 (.int q x)=true/\left (.int q x)=false)
def iH.start(q:IntKind)(D0:DataW Unit):iH q D0 (Maps.has D0) []:=⟨PA,λx=>by cases Maps.has D0 (.int q x)<;>simp⟩
def iH.step{D0:DataW Unit}(h:iH q D0 left ss)(f:left (.int q x)=true)(g: ∀zd,D0.atKey (.int q x) zd=y):
  iH q D0 (λz=>left z&& !z.sameKey (.int q x)) (ss++[x]):=by
 have d:Maps.has D0 (.int q x)=true:=Maps.has_true_of_atKey g;have c:x∉ss:=λhx=>by have:=((h.2 x).1 hx).2;rw[f]at this;cases this
 refine⟨ML.2 ⟨h.1,ak,λa ha b hb=>by simp at hb;subst hb;exact λe=>c (e▸ha)⟩,λy=> ?_⟩;by_cases hy:y=x
 ·subst hy;simp[d,Lit.sameKey]
 ·simp[h.2 y,hy,Lit.sameKey]
def iH.perm(h:iH q D0 left ss)(hl: ∀kl,left kl=false)(hnd:ks.Nodup)(hm: ∀x,Maps.has D0 (.int q x)=true↔x∈ks):ss.Perm ks:=
 (List.perm_ext_iff_of_nodup h.1 hnd).2 λx=>by rw[h.2 x,hl,<-hm];simp
def to(W W':World):Prop:= ∀a,fz W'.heap a=fz W.heap a
def pD{a:Addr}{o:Obj}(ho:h[a.block]? =some o)(hc:o.isCells=false):fz h a=false:=by unfold fz;rw[ho];cases o<;>first|rfl|(simp[Obj.isCells]at hc)
def to.alloc(W:World){o:Obj}(hc:o.isCells=false):to W (W.alloc o):=λa=>by
 by_cases ha:a.block=W.heap.size
 ·rw[pD (o:=o) (by rw[ha];exact World.alloc_heap_new W o) hc];unfold fz;rw[ha,NB (Mb _)]
 ·unfold fz;show(match (W.heap.push o)[a.block]? with|some (.cells _ _ (lo,hi))=>lo<=a.off&&a.off<hi|_=>false)=_;rw[NC,LY ha]
  rfl
def to.put{W:World}{o:Obj}(o':Obj)(hl:W.heap[l]? =some o)(hc:o.isCells=false)(b:o'.isCells=false):to W (W.putObj l o'):=λa=>by
 by_cases ha:a.block=l
 ·rw[pD (o:=o') (by rw[ha];exact World.putObj_heap_same (Mf.1 hl).1) b,pD (o:=o) (by rw[ha];exact hl) hc]
 ·unfold fz;rw[World.putObj_heap_other ha]
def to.one{W W':World}(hs: ∀k,k<W.heap.size->k≠r->W'.heap[k]? =W.heap[k]?){o:Obj}(hr:W.heap[r]? =some o\/W.heap.size=r)(ho:W.heap[r]? =some o->o.isCells=false){o':Obj}(c:W'.heap[r]? =some o')(d:o'.isCells=false)
  (b:W'.heap.size<=max W.heap.size (r+1)):to W W':=λa=>by
 by_cases ha:a.block=r
 ·rw[pD (o:=o') (by rw[ha];exact c) d];rcases hr with hr|hr
  ·rw[pD (o:=o) (by rw[ha];exact hr) (ho hr)]
  ·unfold fz;rw[ha,NB (Nat.le_of_eq hr)]
 ·unfold fz;by_cases hk:a.block<W.heap.size
  ·rw[hs _ hk ha]
  ·have:W'.heap.size<=a.block:=by
    rcases Nat.le_total W.heap.size (r+1)with h|h
    ·rw[Nat.max_eq_right h]at b;rcases hr with hr|hr
     ·have:=(Mf.1 hr).1;omega
     ·omega
    ·rw[Nat.max_eq_left h]at b;omega
   rw[NB (Nat.le_of_not_lt hk),NB this]
def aM.allocW(W:World){o:Obj}(hc:o.isCells=false):aM [] W.heap (W.alloc o).heap:=
 ⟨ak,λb hb _=>Below.heap_alloc W o b hb,to.alloc W hc⟩
def aM.putW{W:World}{o:Obj}(o':Obj)(hl:W.heap[l]? =some o)(hc:o.isCells=false)(a:o'.isCells=false):aM [l] W.heap (W.putObj l o').heap:=
 ⟨ak,λb _ hS=>World.putObj_heap_other (λe=>hS (by simp[e])),to.put o' hl hc a⟩
def BR: ∀(cs:List Value) (i:Nat) (h:aI),rH a i cs h K->(∀h',K h'->K' h')->rH a i cs h K':=by
 intro cs
 induction cs with
 |nil=>intro i h H hK;unfold rH at H ⊢;exact hK h H
 |cons v vs ih=>
  intro i h H hK;unfold rH aY at H ⊢;cases hv:v.oneCell' with
  |false=>rw[hv]at H;exact H
  |true=>rw[hv]at H;exact⟨H.1,H.2.1,ih _ _ H.2.2 hK⟩
def nY(B:Nat)(J:List Int->World->Prop):Prop:=
 ∀s W W' row,J s W->W.grownBy W' row->to W W'->(∀r,row=some r->B<=r/\ ∃o:Obj,W.heap[r]? =some o/\o.isWalk=true)->J s W'
def pH{W W':World}{row:Option Nat}(hg:W.grownBy W' row)(hf:to W W'):aM row.toList W.heap W'.heap:=
 ⟨hg.size,λb hb hS=>hg.block b hb (λe=>hS (by rw[<-e];simp)),hf⟩
def u7{W W':World}(hg:W.grownBy W' row):W'.os=W.os/\W'.tape=W.tape/\W'.output=W.output:=by obtain⟨a,b,c,-⟩:=hg;constructor<;>(try constructor)<;>assumption
def yA(H:fQ h e sz a z p l c q m K)
  (hK: ∀p' l' c' h',K p' l' c' h'->K' p' l' c' h'):fQ h e sz a z p l c q m K':=by
 obtain⟨new,a1,a2,a3,a4⟩:=H;refine⟨new,a1,a2,λb=> ?_,λd=> ?_⟩
 ·have:=a3 b;cases p with
  |none=>exact⟨this.1,hK _ _ _ _ this.2⟩
  |some ad=>exact BR _ _ _ this λh' hk=>hK _ _ _ _ hk
 ·obtain⟨old,b1,b2,b3,b4⟩:=a4 d;exact⟨old,b1,b2,b3,λcap hc=>hK _ _ _ _ (b4 cap hc)⟩
def lT{P:Program}(w:World){o:Oper}{a:Act}(hg:o.guard=none)(x y:Operand)(t:TypeId)
  (ho:o.op= .call {callee:= .builtin .append,args:= #[x,y],argTypes:= #[t,t]})     
  (ht:P.underlying t=some (.slice e)) (hs:kh P e=some (sz,b,z)) (g:1<=b) (hx:a.eval x= .slice p l c) (hy:a.eval y= .slice q m c')
   (H:fQ w.heap e sz b z p l c q m K)
  (h: ∀p' l' c' w',cw w w'->K p' l' c' w'.heap->wpListIn F n P ops Q rest (a.put o.dst (.slice p' l' c')) w'):wpListIn F n P ops Q (o::rest) a w:=by
 refine wpListIn_plain hg λK' i=> ?_
 obtain⟨v,w',hr,d,⟨p',l',c',hv,hk⟩⟩:=pE (P:=P) (ty:=o.type) (c':=c') (K:=λv h=> ∃p' l' c',v= .slice p' l' c'/\K p' l' c' h) ht ⟨e,ht⟩ hs g
  (yA H λp' l' c' h' hk=>⟨p',l',c',rfl,hk⟩) w rfl
 unfold Oper.wpIn;refine⟨by simp[Oper.about,ho,resolve,Target.leads,Sem.run_pure],?_⟩;rw[Oper.semAt_plain F _ _ (by rw[ho];intro c f;cases f)];simp[execOp,ho,resolve,invoke,builtin,hx,hy,hr,Result.andThen];subst hv;exact i _ _ (h _ _ _ _ d hk)
end
section
open Go Go.RowKit Go.Maps
def Jc:Tryz.prog.underlying 46=some (.int .u32):=by kernel_rfl
def KU:Tryz.prog.underlying 204=some (.map 46 3):=by kernel_rfl
def Lx:Tryz.prog.underlying 56=some (.slice 46):=by kernel_rfl
set_option maxHeartbeats 2000000 in
def Bc{F:Fence}(R:F.fn 293)(U:F.round=none)(hn:1<=n)(l Bm b nn:Nat)(D0:DataW Unit)(J:List Int->World->Prop)
  (hY: ∀j x W,J j W->j.length<Maps.size D0->YieldAt F (n-1) Tryz.prog l #[aq x] W λe W'=>e= .returned aC/\J (j++[x]) W'/\KeepsWalks W W')
  (W:World) (hJ:nY W.heap.size J) (hm:W.cell? (aw Bm)=some (.map (some b))) (A:W.ownsMap Tryz.prog 46 ky b nn D0) (h0:J [] W):
  CallsIn F n Tryz.prog 293 #[.func (.yield l) #[] #[],au (aw Bm)] W λe W'=>(∃v,e= .returned v)/\ ∃ss:List Int,J ss W'/\ ∃left,iH .u32 D0 left ss/\ ∀kl,left kl=false:=by
 refine callsIn_of_wp Tryz.func293 rfl R ?_ U;simp only[Tryz.ntmps293,Oz,Nh,NN,Nat.reduceAdd,Nat.reduceSub,OM,OK,Pf,OQ,Nn,Nu]
 gi_wp2_with (first
  |(gi_at_range;refine wpListIn_range_own _ rfl _ 204 rfl 46 3 (int_keyed Jc) KU _ b nn _ rfl A ?_;intro w0 i C a3)
  |gi_in)
 go_frame
 gi_loopw [3] (λ_ wr=> ∃(left:Lit->Bool) (cnt:Nat) (ss:List Int),wr.ranges Tryz.prog 46 ky b W.heap.size nn D0 left cnt/\ss.length+cnt<=Maps.size D0/\iH .u32 D0 left ss/\J ss wr)
  (λ_ wr=>wr.rangeLeft b W.heap.size)
 case atStart=>
  have L:to W w0:=by obtain⟨es,m,a,h,c0,_,_,_,_,hr,_⟩:=i;exact to.one (r:=W.heap.size) (o:= .mapIter none 0 #[] 0) (λk hk _=>C.block k hk ak) (.inr rfl) (λ_=>rfl) hr rfl ah
  exact⟨_,_,[],i,ak,iH.start .u32 D0,hJ [] W w0 none h0 C L (λr e=>by cases e)⟩
 case round=>
  obtain⟨left,cnt,ss,d,a0,hC,z⟩:=hrel
  gi_wp2_with (first
   |(gi_at_next;refine wpListIn_next_ranges _ rfl _ rfl 46 (int_keyed Jc) ky (Value.int .u32) (λv:Value=>v) (λkey kl hk=>by obtain⟨x,hx,_⟩:=Maps.keyOf_int_inv Jc hk;exact⟨x,hx⟩) (λv y hv=>⟨v,rfl⟩) b W.heap.size nn _ _ _ rfl d ?_ ?_)
   |gi_in)
  ·intro a4 P
   gi_wp2
   go_end0
   exact⟨⟨_,rfl⟩,ss,z,left,hC,P⟩
  ·intro x c kl yd yp w2 u q Y hv S f V B I a1;obtain⟨x',ex,rfl,_⟩:=Maps.keyOf_int_inv Jc q;cases ex
   have t:to wr w2:=by obtain⟨es,m,a,h,c0,_,_,_,_,hr,_⟩:=d;obtain⟨Z,D,G,Q,a2,_,_,_,_,K,_⟩:=f;exact to.one (r:=W.heap.size) (o:= .mapIter (some b) a h c0) (λk hk N=>B.block k hk (by simpa using N)) (.inl hr) (λ_=>rfl) K rfl ah
   have H:J ss w2:=hJ ss wr w2 (some W.heap.size) z B t (λr e=>by cases e;exact⟨Mb _,d.iter_walk⟩);obtain⟨fn,tmps,assign,body,hy,hR⟩:=hY ss x w2 H ah;clear I t
   gi_wp2
   refine hR.mono ?_;rintro e W3 ⟨rfl,O,M⟩
   gi_wp2
   have g:=f.of_walks M
   go_roundw
   case rel=>exact⟨_,u,ss++[x],g,by simp;omega,hC.step Y S,O⟩
   case measure=>rw[g.left_eq,d.left_eq];exact V
end
section
open Go Go.RowKit Go.Maps
def jB:Code->Option (Code×Code)
 | .seq a b=>(jB a).or (jB b)
 | .block _ c=>jB c
 | .rangeFunc _ _ a b=>some (a,b)
 |_=>none
noncomputable def gL:Code:=((Tryz.f292.body.bind jB).map (·.1)).getD .skip
noncomputable def kD:Code:=((Tryz.f292.body.bind jB).map (·.2)).getD .skip
noncomputable def dH(fn:FuncId)(sv:Value)(Bs D:Nat)(st:LoopState)(pend:Option Code):Loop:=
 {state:=st,pending:=pend,fn,tmps:= #[.slice none 0 0,sv,au (aw Bs),undef,.slice none 0 0,undef,sv,undef,undef,undef,undef,undef,undef],params:= #[7],assign:=gL,body:=kD,defers:=D}
structure oP(w0:World)(fn:FuncId)(sv:Value)(Bs l D:Nat)(ss:List Int)(W:World):Prop where
 box: ∃p c,At W.heap Bs [.slice p ss.length c]/\cy W.heap (Bs+1) 1 p ss.length c (ss.map (Value.int .u32))
 L:W.heap[l]? =some (.loop (dH fn sv Bs D .ready none))
 K:W.heap[D]? =some (.deferred (some []))
 only:aM [] w0.heap W.heap
 same:cw w0 W
def At.notWalk(A:At h b c)(hr: ∃o:Obj,h[r]? =some o/\o.isWalk=true):b≠r:=by obtain⟨e,A⟩:=A;obtain⟨o,hr,hw⟩:=hr;intro e';subst e';rw[A]at hr;cases hr;cases hw
def cw.of_grown{W:World}(hg:W.grownBy W' row):cw W W':=u7 hg
def mG(w0:World)(fn:FuncId)(sv:Value)(Bs l D B:Nat)(hB:w0.heap.size<=B):nY B (oP w0 fn sv Bs l D):=λs W W' row h hg hf d=>by
 have a: ∀r,row=some r-> ∃o:Obj,W.heap[r]? =some o/\o.isWalk=true:=λr e=>(d r e).2;have O:=pH hg hf
 have f: ∀b,(∃c,At W.heap b c)->b∉row.toList:=λb ⟨c,A⟩ hb=>by
  cases row with
  |none=>simp at hb
  |some r=>simp at hb;exact A.notWalk (a r rfl) hb
 obtain⟨p,c,A,H⟩:=h.box
 exact⟨⟨p,c,A.only O (f _ ⟨_,A⟩),H.onlyC O λb _ hc=>f b hc⟩,(grownBy_keeps hg a h.L rfl).trans h.L,(grownBy_keeps hg a h.K rfl).trans h.K,
  h.only.trans O (λb hb g=>by
   cases row with
   |none=>simp at hb
   |some r=>
    simp at hb;have:=(d r rfl).1;omega),h.same.trans (cw.of_grown hg)⟩
def oZ{W W':World}(O:aM S W.heap W'.heap)(h: ∀r∈S,∀o:Obj,W.heap[r]? =some o->o.isWalk=false):KeepsWalks W W':=
 ⟨O.size,λk o hk ho=>(O.same k (Mf.1 hk).1 (λhS=>by rw[h k hS o hk]at ho;cases ho)).trans hk⟩
def At.ne_obj(A:At h b c){o:Obj}(hr:h[r]? =some o)(ho:o.isCells=false):b≠r:=by obtain⟨e,A⟩:=A;intro e';subst e';rw[A]at hr;cases hr;cases ho
def At.walkF(A:At h b c): ∀o:Obj,h[b]? =some o->o.isWalk=false:=by
 obtain⟨e,A⟩:=A;intro o ho;rw[A]at ho;cases ho
 rfl
def KR:kh Tryz.prog 46=some (1,4,#[aq 0]):=by kernel_rfl
set_option maxHeartbeats 2000000 in
def su{F:Fence}(w0:World)(fn:FuncId)(M:F.fn fn)(sv:Value)(Bs l D:Nat)(I:Bs≠l)(v:D≠l)(J:D≠Bs)(U:w0.heap.size<=Bs)(V:w0.heap.size<=l)
  (N:Nat) (hN:N*4<=140737488355328) (ss:List Int) (x:Int) (W:World) (h:oP w0 fn sv Bs l D ss W) (Q:ss.length<N):
  YieldAt F m Tryz.prog l #[aq x] W λe W'=>e= .returned aC/\oP w0 fn sv Bs l D (ss++[x]) W'/\KeepsWalks W W':=by
 obtain⟨p,c,A,H⟩:=h.box;refine⟨fn,#[.slice none 0 0,sv,au (aw Bs),undef,.slice none 0 0,undef,sv,aq x,undef,undef,undef,undef,undef],gL,kD,by simpa[dH]using run_yield (P:=Tryz.prog) (args:= #[aq x]) h.L rfl,roundIn_of_wpIn M ?_⟩;have hl:l<W.heap.size:=(Mf.1 h.L).1;have G:=run_beginRound (P:=Tryz.prog) h.L rfl;obtain⟨W2,d⟩: ∃W2,W.putObj l (.loop {dH fn sv Bs D .ready none with state:= .busy})=W2:=⟨_,rfl⟩;rw[d]at G;have z: ∀b,(∃c,At W.heap b c)->b∉[l]:=λb ⟨c,A⟩ hb=>A.ne_obj h.L rfl (by simpa using hb);have O2:aM [l] W.heap W2.heap:=by rw[<-d];exact aM.putW _ h.L rfl rfl
 have A2:At W2.heap Bs [.slice p ss.length c]:=A.only O2 (z _ ⟨_,A⟩);have H2:=H.onlyC O2 λb _ hc=>z b hc;have i:W2.heap[D]? =some (.deferred (some [])):=by rw[<-d];exact(World.putObj_heap_other v).trans h.K
 have f:W2.heap[l]? =some (.loop {dH fn sv Bs D .ready none with state:= .busy}):=by rw[<-d];exact World.putObj_heap_same hl
 have S2:cw W W2:=by rw[<-d];exact⟨rfl,rfl,rfl⟩
 have Z:W2.cell? (aw Bs)=some (.slice p ss.length c):=A2.rd 0;have S:W2.frozen? (aw Bs)=false:=A2.fz 0 none;have A3:At (W2.alloc (.cells #[aq x] 46)).heap W2.heap.size [aq x]:=At.push _ _ _;have O3:aM [] W2.heap (W2.alloc (.cells #[aq x] 46)).heap:=aM.push_cells _ _ _;have H3:=H2.onlyC O3 λb _ _=>ak;have A3':=A2.only O3 ak;have R:=A2.lt;have n:=O3.size;clear d;simp only[gL,Tryz.f292,jB,On,Na,OD,Pw,Pv]
 gi_wp2_with (rw[Oper.semAt_eq _ _ _ (λc h=>by cases h)];go_simp;try go_bits)
 simp only[kD,Tryz.f292,jB,On,Na,OD,Pw,Pv]
 gi_wp2_with (first
  |(gi_at_builtin;refine lT _ rfl _ _ 56 rfl Lx KR (by decide) rfl rfl (gU (K:=λp' l' c' h'=>l'=ss.length+1/\cy h' (Bs+1) 1 p' (ss.length+1) c' (ss.map (Value.int .u32)++[aq x])/\aM (aV p) (W2.alloc (.cells #[aq x] 46)).heap h'/\ ∀b∈aV p',b∈aV p\/(W2.alloc (.cells #[aq x] 46)).heap.size<=b) H3 A3 rfl rfl ah (by simp[Value.oneCell']) ah λp' c' h' a b c=>⟨rfl,a,b,c⟩) ?_;rintro p' l' c' w3 S3 ⟨rfl,H4,O4,a1⟩
    have C:Bs∉aV p:=λhb=>by have:=H2.lt Bs hb;omega
    have A4:=A3'.only O4 C;have a2:w3.cell? (aw Bs)=some (.slice p ss.length c):=A4.rd 0;have Y:w3.frozen? (aw Bs)=false:=A4.fz 0 none
    go_frame)
  |(rw[Oper.semAt_eq _ _ _ (λc h=>by cases h)];go_simp;try go_bits))
 have B:l∉aV p:=λhb=>by obtain⟨c,A⟩:=H3.cells l hb;exact A.ne_obj ((Below.heap_alloc _ _ l (Mf.1 f).1).trans f) rfl rfl
 have u:D∉aV p:=λhb=>by obtain⟨c,A⟩:=H3.cells D hb;exact A.ne_obj ((Below.heap_alloc _ _ D (Mf.1 i).1).trans i) rfl rfl
 have y:w3.heap[l]? =some (.loop {dH fn sv Bs D .ready none with state:= .busy}):=(O4.same l (Nt (Mf.1 f).1 n) B).trans ((O3.same l (Mf.1 f).1 ak).trans f);have q:w3.heap[D]? =some (.deferred (some [])):=(O4.same D (Nt (Mf.1 i).1 n) u).trans ((O3.same D (Mf.1 i).1 ak).trans i);obtain⟨w4,g⟩: ∃w4,w3.setCell (aw Bs) (.slice p' (ss.length+1) c')=w4:=⟨_,rfl⟩;rw[g];have O5:aM [Bs] w3.heap w4.heap:=by rw[<-g];exact aM.wr w3.heap (aw Bs) _
 have A5:At w4.heap Bs [.slice p' (ss.length+1) c']:=by rw[<-g];exact A4.wr 0 _
 have S4:cw w3 w4:=by rw[<-g];exact⟨rfl,rfl,rfl⟩
 have j:w4.heap[l]? =some (.loop {dH fn sv Bs D .ready none with state:= .busy}):=(O5.same l (Mf.1 y).1 (by simpa using Ne.symm I)).trans y;have O:w4.heap[D]? =some (.deferred (some [])):=(O5.same D (Mf.1 q).1 (by simpa using J)).trans q
 have H5:=H4.onlyC O5 λb hb _ t=>by simp at t;subst t;have:=H4.lt b hb;omega
 clear g;have O6:aM [l] w4.heap (w4.putObj l (.loop {{dH fn sv Bs D .ready none with state:= .busy}with state:=if(none:Option Code).isNone then .ready else .done,pending:=none})).heap:=aM.putW _ j rfl rfl;have k: ∀b,(∃c,At w4.heap b c)->b∉[l]:=λb ⟨c,A⟩ hb=>A.ne_obj j rfl (by simpa using hb)
 have OO:aM (l::Bs::aV p) W.heap (w4.putObj l (.loop {{dH fn sv Bs D .ready none with state:= .busy}with state:=if(none:Option Code).isNone then .ready else .done,pending:=none})).heap:=by refine(((((O2.mono (T:=l::Bs::aV p) (by simp+contextual)).trans O3 ak).trans O4 (by simp+contextual)).trans O5 (by simp+contextual)).trans O6 (by simp+contextual))
 refine⟨_,_,run_endRound none j,rfl,⟨⟨p',c',?_,?_⟩,World.putObj_heap_same (Mf.1 j).1,(World.putObj_heap_other v).trans O,h.only.trans OO ?_,?_⟩,oZ OO ?_⟩
 ·rw[Mv,MP];exact A5.only O6 (k _ ⟨_,A5⟩)
 ·rw[Mv,MP,MJ,PJ];exact H5.onlyC O6 λb _ hc=>k b hc
 ·intro b hb a0;rcases List.mem_cons.1 hb with rfl|hb
  ·omega
  ·rcases List.mem_cons.1 hb with rfl|hb
   ·omega
   ·have:=H.lt b hb;omega
 ·exact((((h.same.trans S2).trans ⟨rfl,rfl,rfl⟩).trans S3).trans S4).trans ⟨rfl,rfl,rfl⟩
 ·intro r hr o ho;rcases List.mem_cons.1 hr with rfl|hr
  ·rw[h.L]at ho;cases ho;rfl
  ·rcases List.mem_cons.1 hr with rfl|hr
   ·exact A.walkF o ho
   ·obtain⟨c,A'⟩:=H.cells r hr;exact A'.walkF o ho
end
section
open Go Go.RowKit Go.Maps Go.Shelf
set_option maxHeartbeats 2000000 in
def ml{F:Fence}(v:F.fn 292)(k:F.fn 293)(j:F.round=none)(hn:2<=n)(Bm b:Nat)(m:List (Int×Value))(w:World)(A:At w.heap Bm [.map (some b)])(M:bV w.heap b .u32 m)
  (B: ∀x∈m.map (·.1),(Lit.int .u32 x).wf=true) (y:m.length*4<=140737488355328):
  CallsIn F n Tryz.prog 292 #[.slice none 0 0,.func (.func 293) #[] #[au (aw Bm)]] w λe w'=> ∃(p:az) (c:Nat) (ss:List Int),e= .returned (.slice p ss.length c)/\ss.Perm (m.map (·.1))/\
   cy w'.heap (w.heap.size+1) 1 p ss.length c (ss.map (Value.int .u32))/\aM [] w.heap w'.heap/\cw w w':=by
 have h1:1<=n:=ah;have hnd:(m.map (·.1)).Nodup:=by obtain⟨_,_,_,_,h,_⟩:=M;exact h
 have eg: ∀args w,(callFunc 293 args).run Tryz.prog w= .ok (.enter 293 args) w:=enters_of Tryz.func293 (by kernel_rfl) rfl;refine callsIn_of_wp_marks Tryz.func292 rfl v ?_ j;simp only[Tryz.ntmps292,Oz,Nh,NN,Nat.reduceAdd,Nat.reduceSub,OM,OK,Pf,OQ,Nn,Nu]
 gi_wp2
 refine wpIn_rangeFunc ?_;intro fn C;rw[j];obtain⟨W0,f⟩: ∃W0,w.alloc (.cells #[.slice none 0 0] 56)=W0:=⟨_,rfl⟩;have o:W0.heap.size=w.heap.size+1:=by rw[<-f];simp
 have O0:aM [] w.heap W0.heap:=by rw[<-f];exact aM.push_cells _ _ _
 have A0:At W0.heap w.heap.size [.slice none 0 0]:=by rw[<-f];exact At.push _ _ _
 have S0:cw w W0:=by rw[<-f];exact⟨rfl,rfl,rfl⟩
 rw[f];obtain⟨W1,a⟩: ∃W1,(W0.alloc (.deferred (some []))).alloc (.loop (dH fn (.func (.func 293) #[] #[au (aw Bm)]) w.heap.size W0.heap.size .ready none))=W1:=⟨_,rfl⟩;have O1:aM [] W0.heap W1.heap:=by rw[<-a];exact(aM.allocW W0 rfl).trans (aM.allocW _ rfl) ak
 have I:W1.heap.size=W0.heap.size+2:=by rw[<-a];simp
 have S1:cw W0 W1:=by rw[<-a];exact⟨rfl,rfl,rfl⟩
 have OW:=O0.trans O1 ak
 have hM:oP w fn (.func (.func 293) #[] #[au (aw Bm)]) w.heap.size (W0.heap.size+1) W0.heap.size [] W1:=
  ⟨⟨none,0,A0.only O1 ak,cy.nil _ _ _⟩,
   by rw[<-a];have:=World.alloc_heap_new (W0.alloc (.deferred (some []))) (.loop (dH fn (.func (.func 293) #[] #[au (aw Bm)]) w.heap.size W0.heap.size .ready none));rwa[World.size_alloc]at this,
   by rw[<-a];exact(Below.heap_alloc _ _ _ ak).trans (World.alloc_heap_new W0 _),OW,S0.trans S1⟩
 obtain⟨D0,l,H,z⟩:=wR Jc (M.only OW ak) B (by simp[maxLen];omega)
 refine⟨W0.heap.size+1,[{target:= .collected W0.heap.size,args:= #[]}],W1,{target:= .fn (.func 293) #[au (aw Bm)],args:= #[.func (.yield (W0.heap.size+1)) #[] #[]]},W1,293,
  #[.func (.yield (W0.heap.size+1)) #[] #[]]++ #[au (aw Bm)],W1,?_,?_,?_,?_,λ_=>h1,?_⟩
 ·rw[<-a];exact run_enterLoop_outer _ _ _ _ _
 ·simp[resolve,go_sem]
 ·intro f' t;simp[Target.leads]at t;subst t;exact k
 ·simp[invoke,go_sem,eg]
 ·refine(Bc (F:=F) (n:=n-1) k j ah (W0.heap.size+1) Bm b m.length D0 (oP w fn (.func (.func 293) #[] #[au (aw Bm)]) w.heap.size (W0.heap.size+1) W0.heap.size)
   (λu x W hJ hl=>su (F:=F) (m:=n-1-1) w fn C _ w.heap.size (W0.heap.size+1) W0.heap.size ah ah ah (Mb _) ah m.length y u x W hJ ah) W1 (mG _ _ _ _ _ _ _ ah)
   ((A.only OW ak).rd 0) l hM).mono ?_
  rintro e W2 ⟨⟨v0,rfl⟩,ss,h2,left,hC,hl⟩;obtain⟨p,c,A2,H2⟩:=h2.box;have g:=run_endLoop (P:=Tryz.prog) h2.L (by simp[dH]);obtain⟨W3,d⟩: ∃W3,W2.putObj (W0.heap.size+1) (.loop {dH fn (.func (.func 293) #[] #[au (aw Bm)]) w.heap.size W0.heap.size .ready none with state:= .exhausted})=W3:=⟨_,rfl⟩;rw[d]at g;have O3:aM [W0.heap.size+1] W2.heap W3.heap:=by rw[<-d];exact aM.putW _ h2.L rfl rfl
  have S3:cw W2 W3:=by rw[<-d];exact⟨rfl,rfl,rfl⟩
  have q: ∀b,(∃c,At W2.heap b c)->b∉[W0.heap.size+1]:=λb ⟨c,A⟩ hb=>A.ne_obj h2.L rfl (by simpa using hb);have A3:=A2.only O3 (q _ ⟨_,A2⟩);have H3:=H2.onlyC O3 λb _ hc=>q b hc;have i:W3.heap[W0.heap.size]? =some (.deferred (some [])):=by rw[<-d];exact(World.putObj_heap_other ah).trans h2.K
  have J:W3.cell? (aw w.heap.size)=some (.slice p ss.length c):=A3.rd 0;have G:W3.frozen? (aw w.heap.size)=false:=A3.fz 0 none;clear d;refine⟨none,W3,g,?_⟩
  gi_wp2
  rw[<-o];refine⟨ak,.inl ⟨_,_,rfl,run_takeDeferred i,?_⟩⟩;have O4:aM [W0.heap.size] W3.heap (W3.putObj W0.heap.size (.deferred none)).heap:=aM.putW _ i rfl rfl;have hF:=H3.onlyC O4 (λb _ hc hb=>by obtain⟨c,A⟩:=hc;exact A.ne_obj i rfl (by simpa using hb));rw[<-o]at hF
  exact⟨_,results_tmp rfl _ _ _,p,c,ss,rfl,hC.perm hl hnd z,hF,
   (h2.only.trans O3 (by intro b hb D;simp at hb;omega)).trans O4 (by intro b hb D;simp at hb;omega),(h2.same.trans S3).trans ⟨rfl,rfl,rfl⟩⟩
def appSeq{h:aI}{m:List (Int×Value)}(A:At h Bm [.map (some b)])(M:bV h b .u32 m)
  (a: ∀x∈m.map (·.1),(Lit.int .u32 x).wf=true) (d:m.length*4<=140737488355328)
  (hK: ∀(p:az) (c:Nat) (h':aI) (ss:List Int),ss.Perm (m.map (·.1))->cy h' (h.size+1) 1 p ss.length c (ss.map (Value.int .u32))->aM [] h h'->K (.slice p ss.length c) h'):
  Cl 292 [.slice none 0 0,.func (.func 293) #[] #[au (aw Bm)]] h K:=λw hw=>by
 subst hw;refine((callsIn_wide (n:=2)).1 (ml (F:=Fence.wide) (n:=2) trivial trivial rfl ah Bm b m w A M a d)).mono ?_;rintro e w' ⟨p,c,ss,rfl,h1,h2,h3,h4⟩;exact⟨_,rfl,h4,hK p c _ ss h1 h2 h3⟩
end
def JO(h:aI)(q:az)(m:Nat)(new:List Value):Prop:=match q with|some b=>oD h b new|none=>m=0
def cy.weak(H:cy h lo N p l c cs)(hl:lo'<=lo):cy h lo' N p l c cs:=by
 obtain⟨e,H⟩:=H;refine⟨e,?_⟩;rcases H with h|⟨b,sp,h1,h2,h3⟩
 ·exact .inl h
 ·exact .inr ⟨b,sp,h1,ah,h3⟩
def im{h:aI}{z:Array Value}{new:List Value}
  (H:cy h lo 1 p l c cs) (i:new.length=m) (hq:JO h q m new) (hz:z.size=1) (d:(l+m)*g<=140737488355328) (hv: ∀v∈new,v.oneCell'=true) (n:lo<=h.size)
  (hK: ∀p' c' h',cy h' lo 1 p' (l+m) c' (cs++new)->aM (aV p) h h'->(∀b∈aV p',b∈aV p\/h.size<=b)->K p' (l+m) c' h'):
  fQ h e 1 g z p l c q m K:=by
 obtain⟨a,H⟩:=H;refine⟨new,ah,?_,λk=> ?_,λo=>⟨cs,a,?_,d,λcap hc=> ?_⟩⟩
 ·cases q with
  |none=>exact hq
  |some b=>exact hq
 ·rcases H with⟨rfl,h0,h1⟩|⟨b,sp,rfl,h2,h3,h4,h5⟩
  ·have hm:m=0:=ah;have hn:new=[]:=MQ ah;subst hm;refine⟨ah,hK _ _ _ ⟨by simp[a,hn],.inl ⟨rfl,ah,h1⟩⟩ (aM.refl _ _) λb hb=> .inl hb⟩
  ·show rH (((aw b):Addr).add (l*1)) 0 new h _;rw[aL,LX];have t:m<=sp.length:=ah;refine jN new 0 _ h h5 (by simp;omega) hv λh' A' O' z'=>hK _ _ h' ⟨by simp;omega,Or.inr ⟨b,sp.drop m,rfl,h2,k,?_,?_⟩⟩ O' λx hx=>Or.inl hx
   ·rw[List.length_drop,h4];omega
   ·rw[Ma,<-a,Pz,i,Pj,Oh (by omega:cs.length<=cs.length+m)]at A';simpa using A'
 ·rcases H with⟨e,h0,-⟩|⟨b,sp,rfl,-,-,-,h5⟩
  ·subst e;exact h0
  ·exact fg h5 λj v hj=>by rw[LX,Mo (Ml.1 hj).1];exact hj
 ·refine hK _ _ _ ⟨by simp;omega,Or.inr ⟨h.size,(Builtin.zeroCells z (cap-(l+m))).toList,rfl,n,hc,by rw[fu,hz],?_⟩⟩ ((aM.push_cells h _ e).mono ak) λx hx=>Or.inr ?_
  ·have:=At.push h (cs.toArray++new.toArray++Builtin.zeroCells z (cap-(l+m))) e;simpa using this
  ·simp[aV]at hx;omega
def cy.row(H:cy h lo 1 p l c cs):JO h p l cs:=by
 obtain⟨e,H⟩:=H;rcases H with⟨rfl,h0,-⟩|⟨b,sp,rfl,-,-,-,h5⟩
 ·exact h0
 ·exact fg h5 λj v hj=>by rw[LX,Mo (Ml.1 hj).1];exact hj
def rO(k:IntKind)(xs:List Int):xs.map (Value.int k)=dQ xs.length λi=> .int k (xs.getD i 0):=by
 apply MM;intro i;by_cases hi:i<xs.length
 ·rw[dR hi];simp[List.getD,hi]
 ·rw[Mt (by simpa using Nat.le_of_not_lt hi),Mt (by rw[cj];omega)]
def uc(xs:List Int):(List.range xs.length).map (λi=>xs.getD i 0)=xs:=by
 apply MM;intro i;by_cases hi:i<xs.length
 ·simp[hi,List.getD]
 ·rw[Mt (by simpa using Nat.le_of_not_lt hi),Mt ah]
def tz(k:IntKind)(n:Nat)(g:Nat->Int):dQ n (λi=>Value.int k (g i))=((List.range n).map g).map (Value.int k):=by
 unfold dQ;rw[NL]
 rfl
def jY(L:Nat->List Int)(i:Nat):List Int:=(List.range i).flatMap L
def md(L:Nat->List Int)(i:Nat):jY L (i+1)=jY L i++L i:=by simp[jY,Ou]
def zw:x∈jY L i↔ ∃k,k<i/\x∈L k:=by simp[jY]
def uD: ∀(i:Nat),(∀k,k<i->(L k).length<=N)->(jY L i).length<=i*N:=by
 intro i
 induction i with
 |zero=>intro _;simp[jY]
 |succ i ih=>
  intro h;rw[md,Mv,OH];have:=ih λk hk=>h k ah;have:=h i ah;omega
def KD{h:aI}{lo:Nat}{p:az}{c:Nat}{xs:List Int}{K:KK}(H:cy h lo 1 p xs.length c (xs.map (Value.int .u32)))(hn:xs.length<=LB/4)
  (hK: ∀h' (p':az) c' (R:List Int),R.Pairwise (· < ·)->(∀x,x∈R↔1<x/\x∈xs)->cy h' lo 1 p' R.length c' (R.map (Value.int .u32))->aM (aV p) h h'->aV p'=aV p->K (.slice p' R.length c') h'):
  Cl 260 [.slice p xs.length c] h λv1 h2=>(v1=aE/\Cl 261 [(.slice p xs.length c)] h2 (λv3 h4=>cF (some v3) (λp5 l6 c7=>Cl 262 [(.slice p5 l6 c7),(.func (.func 263) #[] #[])] h4 (λv8 h9=>cF (some v8) (λj l d=>K (.slice j l d) h9))))):=by
 rcases H.2 with⟨rfl,h0,h1⟩|⟨b,sp,rfl,h2,h3,h4,h5⟩
 ·have hx:xs=[]:=MQ h0;subst hx;refine vz ⟨rfl,BE ?_⟩;rw[bK];refine Ct ?_;rw[bK];exact hK h none c [] List.Pairwise.nil (λx=>ak) ⟨rfl,.inl ⟨rfl,rfl,h1⟩⟩ (aM.refl _ _) rfl
 ·have A:cf .u32 h b xs.length (λi=>xs.getD i 0) sp:=by
   unfold cf;rw[<-rO];exact h5
  refine Ha A hn λh1 g1 A1 R1 S1 O1=>⟨rfl,?_⟩;refine Jf A1 h3 hn R1 λu k g2 z A2 B y up fw bw O2=> ?_;rw[bK];refine Kc A2 ah ah λo k3 g3 m A3 v t e3 O3=> ?_;rw[bK];have hR:((List.range k3).map g3).length=k3:=ak;have:=hK o (some (aw b)) c ((List.range k3).map g3) ?_ (λx=> ?_) ?_ ((O1.trans O2 (by simp[aV])).trans O3 (by simp[aV])) rfl
  ·rw[hR]at this;exact this
  ·rw[e3];refine List.Pairwise.filter _ ?_;rw[PN];exact(List.pairwise_lt_range (n:=k)).imp_of_mem λ{p q} _ hq g=>up p q g (MW.1 hq)
  ·rw[e3,List.mem_filter];have P:=S1.perm (n:=xs.length) (Mb _);rw[uc]at P
   have:x∈(List.range k).map g2↔x∈xs:=by
    rw[<-P.mem_iff];simp only[Ms,MW];constructor
    ·rintro ⟨p,hp,rfl⟩;obtain⟨q,hq,e⟩:=fw p hp;exact⟨q,hq,e.symm⟩
    ·rintro ⟨q,hq,rfl⟩;obtain⟨p,hp,e⟩:=bw q hq;exact⟨p,hp,e⟩
   rw[this];simp only[xb,Mu];exact⟨λ⟨a,b⟩=>⟨b,a⟩,λ⟨a,b⟩=>⟨b,a⟩⟩
  ·rw[hR];refine⟨ak,.inr ⟨b,m,rfl,h2,ah,ah,?_⟩⟩;rw[<-tz];exact A3
def GH{h:aI}(hK: ∀h1,At h1 h.size [.map (some M)]->aM [] h h1->h1.size=h.size+1->K (.func (.func 293) #[] #[au (aw h.size)]) h1):
  Cl 259 [.map (some M)] h K:=by
 refine F259.spec _ h _ ?_;refine aW λh1 A1 O1 z1=>hK h1 A1 O1 z1
def FP{h:aI}(H:Rf lo h r M S W N f p c L)(A:At h B [.map (some M)])(hN:N<=LB/64)
  (hK: ∀(p:az) (c:Nat) (h':aI) (ks:List Int),ks.Nodup->(∀x,x∈ks↔f x≠0)->ks.length<=N->cy h' h.size 1 p ks.length c (ks.map (Value.int .u32))->aM [] h h'->K (.slice p ks.length c) h'):
  Cl 258 [.func (.func 293) #[] #[au (aw B)]] h K:=by
 have g:LB=140737488355328:=rfl;refine F258.spec ?_;obtain⟨m,a,b,d⟩:=H.Mm
 have e: ∀x,x∈m.map (·.1)↔f x≠0:=λx=>by
  have h2:=b x;by_cases h0:f x=0
  ·rw[L4 h0,dY]at h2;exact⟨λh=>Mw h h2,λh=>Mw h0 h⟩
  ·rw[LY h0]at h2;refine⟨λ_=>h0,λ_=> ?_⟩;apply Mi;intro hn;rw[dY.2 hn]at h2;cases h2
 refine appSeq A a (λx hx=> ?_) ah λp c h2 ss hp Ow O2=> ?_
 ·have:=H.fx x ((e x).1 hx);simp only[Lit.wf,Mu,MG];exact⟨this.1,this.2⟩
 ·rw[bK];have nd:(m.map (·.1)).Nodup:=by obtain⟨_,_,_,_,h,_⟩:=a;exact h
  exact hK p c h2 ss (hp.nodup_iff.2 nd) (λx=>by rw[hp.mem_iff];exact e x) (by rw[hp.length_eq];simpa using d) (Ow.weak ah) O2
def xz{h:aI}(H:Rf lo h r M S W N f p c L)(hN:N<=LB/64)(hW:W<=4)
  (hK: ∀h' (p':az) c' (R:List Int),R.Pairwise (· < ·)->(∀x,x∈R↔1<x/\(f x≠0\/ ∃k,k<W/\x∈L k))->cy h' h.size 1 p' R.length c' (R.map (Value.int .u32))->aM [] h h'->K (.slice p' R.length c') h'):
  Cl 213 [au (aw r)] h K:=by
 refine F213.spec _ h K ?_;have o:LB=140737488355328:=rfl;rw[aL,H.rd0,gJ];refine GH λhB AB OB zB=> ?_;rw[c8];refine FP (H.new OB) AB hN λpk ck h1 ks nd j n Ow1 O1=> ?_
 replace Ow1:=Ow1.weak (lo':=h.size) ah
 replace O1:=OB.trans O1 ak
 rw[bK,aL,show rd h1 ⟨r,0+1,none⟩=some (.slice (some (aw S)) W W)from(H.new O1).rd1,bK];unfold F213.wk3
 have a: ∀(d i:Nat) (q:az) (cq:Nat) (h2:aI),i+d=W->cy h2 h.size 1 q (ks++jY L i).length cq ((ks++jY L i).map (Value.int .u32))->aM [] h h2->
   F213.wL3 (d+1) q (ks++jY L i).length cq (some (aw S)) W W W i h2 K:=by
  intro d
  induction d with
  |zero=>
   intro i q cq h2 hd Ow O;rw[F213.sL3];rw[show decide ((i:Int)<(W:Int))=false by simp;omega,aK];unfold F213.wk7;have hi:i=W:=ah;subst hi;have hl:=uD (L:=L) (N:=N) i H.len;have:i*N<=4*N:=N0 _ hW;refine KD Ow (by rw[Mv];omega) λh3 p3 c3 R hR hm Ow3 O3 _=> ?_;refine hK h3 p3 c3 R hR (λx=> ?_) Ow3 (O.trans O3 λb hb g=> ?_)
   ·rw[hm x,List.mem_append,j,zw]
   ·have:=Ow.lt b hb;omega
  |succ d ih=>
   intro i q cq h2 hd Ow O;rw[F213.sL3];rw[show decide ((i:Int)<(W:Int))=true by simp;omega,aO,aT];refine⟨ah,ah,?_⟩;have H2:=H.new O;rw[aL,show 0+Int.toNat (i:Int)*1=i by omega,H2.rdT ah,bK,show ax ((i:Int)+1)=((i+1:Nat):Int) by rw[bq ah ah];omega];have Owi:=H2.own i ah;have hl:=uD (L:=L) (N:=N) i λk hk=>H.len k ah;have:i*N<=4*N:=N0 _ ah;have m:=H.len i ah;have hs:=O.size;refine im (new:=(L i).map (Value.int .u32)) Ow ak Owi.row rfl (by rw[Mv];omega) (by simp[Value.oneCell']) hs λp' c' h3 Ow3 O3 l=> ?_;have e:(ks++jY L i).length+(L i).length=(ks++jY L (i+1)).length:=by rw[md];simp;omega
   have e2:(ks++jY L i).map (Value.int .u32)++(L i).map (Value.int .u32)=(ks++jY L (i+1)).map (Value.int .u32):=by rw[md];simp
   rw[e,e2]at Ow3;rw[e];exact ih (i+1) p' c' h3 ah Ow3 (O.trans O3 λb hb g=>by have:=Ow.lt b hb;omega)
 have e0:ks=ks++jY L 0:=by simp[jY]
 refine⟨W+1,?_⟩;have:=a W 0 pk ck h1 ah (by rw[<-e0];exact Ow1) O1;rw[<-e0]at this;exact this
abbrev hv(a:Nat):Value:=aq (a:Int)
def cy.pop(H:cy h lo 1 p (l+1) c (cs++[v])):cy h lo 1 p l c cs:=by
 obtain⟨e,H⟩:=H;rw[Mv,MP]at e;refine⟨ah,?_⟩;rcases H with⟨-,h0,-⟩|⟨b,sp,h1,h2,h3,h4,h5⟩
 ·omega
 ·exact .inr ⟨b,v::sp,h1,h2,ah,by simp;omega,by simpa using h5⟩
def cy.none_nil(H:cy h lo N none l c cs):l=0/\cs=[]:=by
 obtain⟨e,H⟩:=H;rcases H with⟨-,h0,-⟩|⟨b,sp,h1,-⟩
 ·subst h0;exact⟨rfl,MQ ah⟩
 ·cases h1
def CB{h:aI}(H:cy h lo 1 p l c cs)(hv: ∀v∈cs,v.oneCell'=true)(hl:l<=1000000)
  (hK: ∀p' c' h',cy h' h.size 1 p' l c' cs->aM [] h h'->K (.slice p' l c') h'):Cl 299 [.slice p l c] h K:=by
 apply F299.spec;refine aR (λg=> ?_) λg=> ?_
 ·obtain rfl:p=none:=by simpa using g
  obtain⟨rfl,rfl⟩:=H.none_nil;exact hK none 0 h (cy.nil _ _ _) (aM.refl _ _)
 ·refine aW λh1 A1 O1 z1=> ?_;have B:cy h1 h.size 1 (some (aw h.size)) 0 0 []:=⟨rfl,.inr ⟨h.size,[],rfl,Mb _,Mb _,rfl,A1⟩⟩;have HH:=H.only O1 ak;have a:cs.length=l:=by have:=H.1;omega
  refine im (new:=cs) B a HH.row rfl ah hv ah λp' c' h2 W2 O2 d=> ?_;rw[LX]at W2 ⊢;rw[Nn]at W2;exact hK p' c' h2 W2 (O1.trans O2 (by intro b hb hl;simp[aV]at hb;omega))
def HB(keep:Nat->Bool)(N:ay):Nat:=bi (cv (λa=> !keep a) N)
def fK(keep:Nat->Bool)(k a:Nat):Bool:=keep a||a==k
def Dp(h2:2<=k)(hx:nd N (k-2)=some x)(hk:keep k=false):HB (fK keep k) N+1=HB keep N:=by
 have hi:N[k-2]? =some (some x):=dk.1 hx;have hl:=(Ml.1 hi).1
 have e:cv (λa=> !fK keep k a) N=(cv (λa=> !keep a) N).set (k-2) none:=by
  apply MM;intro i;rw[ME];split
  ·rename_i e;subst e
   have e1:(!fK keep k (k-2+2))=false:=by unfold fK;rw[show k-2+2=k by omega];simp
   rw[fh hi,e1,LY ak,L4 (by rw[f0];exact hl)]
  ·rename_i e;cases h:N[i]? with
   |none=>rw[Mt,Mt]<;>rw[f0]<;>exact MV.1 h
   |some o=>
    rw[fh h,fh h];have:(i+2==k)=false:=by simp;omega
    simp[fK,this]
 unfold HB;rw[e];refine mf (x:=x) ?_;rw[fh hi];simp[show k-2+2=k by omega,hk]
structure Mk(N:ay)(rs:List Nat)(keep:Nat->Bool)(left:List Nat):Prop where
 is: ∀a,keep a=true->2<=a/\isN N a
 li: ∀a∈left,isN N a
 cl: ∀i x,nd N i=some x->keep (i+2)=true->(x.2.1<2\/keep x.2.1=true\/x.2.1∈left)/\(x.2.2<2\/keep x.2.2=true\/x.2.2∈left)
 ro: ∀r∈rs,r<2\/keep r=true\/r∈left
 mi: ∀P:Nat->Prop,(∀r∈rs,P r)->(∀i x,nd N i=some x->P (i+2)->P x.2.1/\P x.2.2)->(∀a,keep a=true->P a)/\ ∀a∈left,P a
def Mk.start(h: ∀r∈rs,isN N r):Mk N rs (λ_=>false) rs:=
 ⟨λa h=>(by cases h),h,λi x _ h=>(by cases h),λr hr=> .inr (.inr hr),λP h1 _=>⟨λa h=>(by cases h),h1⟩⟩
def Mk.skip(M:Mk N rs keep (left++[a]))(ha:a<2\/keep a=true):Mk N rs keep left:=by
 have w: ∀b,b<2\/keep b=true\/b∈left++[a]->b<2\/keep b=true\/b∈left:=λb hb=>by
  rcases hb with q|q|q
  ·exact .inl q
  ·exact .inr (.inl q)
  ·rcases Zq q with q|q
   ·exact .inr (.inr q)
   ·simp at q;subst q;rcases ha with z|z
    ·exact .inl z
    ·exact .inr (.inl z)
 exact⟨M.is,λb hb=>M.li b (by simp[hb]),λi x hx hk=>⟨w _ (M.cl i x hx hk).1,w _ (M.cl i x hx hk).2⟩,λr hr=>w _ (M.ro r hr),λP h1 h2=>⟨(M.mi P h1 h2).1,λb hb=>(M.mi P h1 h2).2 b (by simp[hb])⟩⟩
def Mk.step(H:cX n N)(M:Mk N rs keep (left++[a]))(h2:2<=a):Mk N rs (fK keep a) (left++[low N a,high N a]):=by
 have ia:isN N a:=M.li a ak
 obtain⟨x,hx⟩: ∃x,nd N (a-2)=some x:=by
  rcases ia with q|q
  ·omega
  ·exact q
 have el:low N a=x.2.1:=by unfold low;rw[LY ah,hx]
 have eh:high N a=x.2.2:=by unfold high;rw[LY ah,hx]
 obtain⟨-,n1,n2,-⟩:=H.node _ x hx
 have w: ∀b,b<2\/keep b=true\/b∈left++[a]->b<2\/fK keep a b=true\/b∈left++[low N a,high N a]:=λb hb=>by
  rcases hb with q|q|q
  ·exact .inl q
  ·exact .inr (.inl (by simp[fK,q]))
  ·rcases Zq q with q|q
   ·exact .inr (.inr (by simp[q]))
   ·simp at q;exact .inr (.inl (by simp[fK,q]))
 refine⟨λb hb=> ?_,λb hb=> ?_,λi y hy hk=> ?_,λr hr=>w _ (M.ro r hr),λP p1 p2=> ?_⟩
 ·unfold fK at hb;rw[Nj]at hb;rcases hb with q|q
  ·exact M.is b q
  ·have:b=a:=by simpa using q
   rw[this];exact⟨h2,ia⟩
 ·rcases Zq hb with q|q
  ·exact M.li b (by simp[q])
  ·simp at q;rcases q with q|q
   ·rw[q,el];exact n1
   ·rw[q,eh];exact n2
 ·unfold fK at hk;rw[Nj]at hk;rcases hk with q|q
  ·exact⟨w _ (M.cl i y hy q).1,w _ (M.cl i y hy q).2⟩
  ·have:i+2=a:=by simpa using q
   have:i=a-2:=ah;subst this;rw[hx]at hy;injection hy with hy;subst hy;exact⟨.inr (.inr (by simp[el])),.inr (.inr (by simp[eh]))⟩
 ·obtain⟨m1,m2⟩:=M.mi P p1 p2;have pa:=m2 a ak;have:=p2 (a-2) x hx (by rw[show a-2+2=a by omega];exact pa);refine⟨λb hb=> ?_,λb hb=> ?_⟩
  ·unfold fK at hb;rw[Nj]at hb;rcases hb with q|q
   ·exact m1 b q
   ·have:b=a:=by simpa using q
    rw[this];exact pa
  ·rcases Zq hb with q|q
   ·exact m2 b (by simp[q])
   ·simp at q;rcases q with q|q
    ·rw[q,el];exact this.1
    ·rw[q,eh];exact this.2
def CY.add{mo:List (Int×Value)}{keep:Nat->Bool}{k:Nat}(H:CY mo keep):CY (iz mo (k:Int) (.agg #[])) (fK keep k):=λa=>by
 have e:(a==k)=decide ((a:Int)=(k:Int)):=by
  by_cases h:a=k
  ·simp[h]
  ·rw[L7 ah];simpa using h
 unfold fK;rw[cr,e];by_cases h:(a:Int)=(k:Int)
 ·rw[L4 h,Mg h,Bool.or_true];exact⟨λ_=>rfl,λh=>by cases h⟩
 ·rw[LY h,L7 h,Bool.or_false];exact H a
def CD{h:aI}{s:Nat}{L:List Nat}{X:SX}{K:KK}{lo:Nat}{p:az}{c:Nat}{rs:List Nat}(H:bT h s L X)(Hr:cy h lo 1 p rs.length c (rs.map hv))(hr: ∀r∈rs,isN X.N r)(hl:rs.length<=100000)
  (hK: ∀h' mb mo keep,bV h' mb .u32 mo->CY mo keep->h.size<=mb->Mk X.N rs keep []->aM [] h h'->K (.tuple #[.map (some mb),ap 0]) h'):
  Cl 267 [au (aw s),.slice p rs.length c] h K:=by
 apply F267.spec;refine fa (k:= .u32) λh1 M1 O1 z1=> ?_;unfold F267.wk3;have H1:=H.only0 O1;have Hr1:=Hr.only O1 ak;have nr: ∀r∈rs,r<32770:=λr y=>H.isN_lt (hr r y);have ok:=H.ok;have lL:=H.lt
 have l: ∀(d:Nat) (h':aI) (mo:List (Int×Value)) (keep:Nat->Bool) (left:List Nat) (q:az) (qc:Nat),3*HB keep X.N+left.length<d->Mk X.N rs keep left->CY mo keep->bV h' h.size .u32 mo->
   cy h' h1.size 1 q left.length qc (left.map hv)->aM [] h h'->2*HB keep X.N+left.length<=170000->F267.wL10 d (aw s) (some h.size) q left.length qc h' K:=by
  intro d
  induction d with
  |zero=>intro h' mo keep left q qc hd;omega
  |succ d ih=>
   intro h' mo keep left q qc hd Mk Kp Mm Ow O cap;rw[F267.sL10];rcases List.eq_nil_or_concat left with e|⟨l0,a,e⟩
   ·subst e;rw[L7 ak,aK];exact hK h' h.size mo keep Mm Kp (Mb _) Mk O
   ·rw[Pr]at e;subst e;have el:(l0++[a]).length=l0.length+1:=ak;rw[el]at Ow hd cap ⊢;have em:(l0++[a]).map hv=l0.map hv++[hv a]:=ak;rw[em]at Ow;rw[Mg ah,aO];obtain⟨b,eb,rr⟩:=Ow.rd (j:=l0.length) ak;have w1:ax (((l0.length+1:Nat):Int)-1)=(l0.length:Int):=by rw[wrap_i64 ah ah];omega
    have B:l0.length+1<=qc:=by
     rcases Ow.2 with⟨e,-⟩|⟨_,_,_,_,h3,_⟩
     ·rw[eb]at e;cases e
     ·exact h3
    rw[eb,aT];simp only[w1,aL,LX];refine⟨ah,ah,?_⟩;have ia:=Mk.li a ak;have ha:=H.isN_lt ia;refine aH (n:=(a:Int)) (by rw[show Int.toNat (l0.length:Int)*1=l0.length by omega,rr];simp) ⟨ah,ah,?_⟩;rw[<-eb,oV,Of,Of,Md];have Ow0:=Ow.pop
    have tail: ∀(o:Option (Nat×Value)),o.isSome=keep a->(kU (.agg #[]) o= .agg #[])-> ∀KK:aI->Prop,(∀k6,aM [] h' k6->aJ (keep a) (F267.wL10 d (aw s) (some h.size) q l0.length qc k6 K) (aJ (decide ((a:Int)<=1)) (F267.wL10 d (aw s) (some h.size) q l0.length qc k6 K) (KK k6)))->
      jX (some (kU (.agg #[]) o)) (λv4=>bg h' (.cells #[] 218) (λb5 h6=>du Tryz.prog 218 (some (aw b5)) v4 h6 (λh7=>aJ (Option.isSome o) (F267.wL10 d (aw s) (some h.size) q l0.length qc h7 K) (aJ (decide ((a:Int)<=1)) (F267.wL10 d (aw s) (some h.size) q l0.length qc h7 K) (KK h7))))):=by
     intro o e1 e2 KK hk;rw[e2];refine⟨_,rfl,aW λk6 B6 P6 y6=>je ?_⟩;rw[e1];exact hk k6 P6
    have body: ∀k6,aM [] h' k6->aJ (keep a) (F267.wL10 d (aw s) (some h.size) q l0.length qc k6 K) (aJ (decide ((a:Int)<=1)) (F267.wL10 d (aw s) (some h.size) q l0.length qc k6 K) (F267.wk15 (λx0 x6 z u A h=>F267.wL10 d x0 x6 z u A h K) (aw s) (some h.size) q l0.length qc (a:Int) k6 K)):=by
     intro k6 P6;have O6:=O.trans P6 ak;have z6:=P6.size;have zO:=O.size
     have go:a<2\/keep a=true->F267.wL10 d (aw s) (some h.size) q l0.length qc k6 K:=λhs=>
      ih k6 mo keep l0 q qc ah (Mk.skip hs) Kp (Mm.only P6 ak) (Ow0.only P6 ak) O6 ah
     cases hka:keep a with
     |true=>exact go (.inr hka)
     |false=>
      rw[aK];refine aR (λg=>go (.inl (by have:=Mn g;omega))) λg=> ?_;have g: ¬(a:Int)<=1:=Me g;have h2:2<=a:=ah
      obtain⟨x,hx⟩: ∃x,nd X.N (a-2)=some x:=by
       rcases ia with q|q
       ·omega
       ·exact q
      have hu:=Dp h2 hx hka;unfold F267.wk15;refine fk (Mm.only P6 ak) λh7 M7 O7 z7=> ?_;have O67:aM [] h h7:=O6.trans O7 (by intro b hb hl;simp at hb;omega);have H7:=H.only0 O67;refine iI H7 ia (aH rfl (fA H7 ia (aH rfl ?_)));refine aW λh8 A8 O8 z8=> ?_
      have nb: ∀b,q=some (aw b)->b∉[h.size]:=λb e hm=>by have:=Ow.lt b (by rw[e];simp[aV]);simp at hm;omega
      have Ow8:=((Ow0.only P6 ak).only O7 nb).only O8 ak;refine im (new:=[hv (low X.N a),hv (high X.N a)]) (q:=some (aw h7.size)) Ow8 rfl (fg A8 ak) rfl ah (by simp[Value.oneCell']) ah λp' c' h9 W9 O9 C=> ?_;have e9:l0.map hv++[hv (low X.N a),hv (high X.N a)]=(l0++[low X.N a,high X.N a]).map hv:=ak;have t:l0.length+2=(l0++[low X.N a,high X.N a]).length:=ak;rw[e9,t]at W9;rw[t];have lq: ∀b∈aV q,h1.size<=b:=λb hb=>(Ow.lt b hb).1;refine ih h9 _ (fK keep a) _ p' c' (by simp;omega) (Mk.step ok.1 h2) Kp.add ((M7.only O8 ak).only O9 λhm=>by have:=lq _ hm;omega) W9 ((O67.trans O8 ak).trans O9 λb hb hl=>by have:=lq b hb;omega) (by simp;omega)
    refine dg (m:=mo) Mm (λhn=> ?_) λj v f=> ?_
    ·have k0:keep a=false:=by
      cases hk:keep a with
      |false=>rfl
      |true=>
       rw[(Kp a).1 hk]at hn;cases hn
     exact tail none (by rw[k0];rfl) rfl _ body
    ·have k1:keep a=true:=by
      cases hk:keep a with
      |true=>rfl
      |false=>
       rw[(Kp a).2 hk]at f;cases f
     rw[(Kp a).1 k1]at f;injection f with f;subst f;exact tail (some (j,.agg #[])) (by rw[k1];rfl) rfl _ body
 have first: ∀(d i:Nat),i+d=rs.length->F267.wL3 (d+1) (aw s) p rs.length c (some h.size) p rs.length c (rs.length:Int) (i:Int) h1 K:=by
  intro d
  induction d with
  |zero=>
   intro i hi;rw[F267.sL3];rw[L7 ah,aK];unfold F267.wk9;refine CB Hr1 (by simp[Value.oneCell']) ah λp' c' h2 W2 O2=>bF rfl ?_;unfold F267.wk10
   have hu:HB (λ_=>false) X.N<=X.N.length:=by have:HB (λ_=>false) X.N<=(cv (λa=> !(λ_=>false) a) X.N).length:=ov _;rw[f0]at this;exact this
   exact⟨_,l _ h2 [] (λ_=>false) rs p' c' (Nat.lt_succ_self _) (Mk.start hr) (λk=>⟨λh=>(by cases h),λ_=>rfl⟩) (M1.only O2 ak) W2 (O1.trans O2 ak) ah⟩
  |succ d ih=>
   intro i hi;rw[F267.sL3];rw[Mg ah,aO];obtain⟨b,eb,rr⟩:=Hr1.rd (j:=i) (by simp;omega);rw[eb,aT,<-eb];refine⟨ah,ah,?_⟩;rw[aL,LX,show Int.toNat (i:Int)*1=i by omega,rr];obtain⟨a,ha⟩: ∃a,rs[i]? =some a:=⟨_,Mj ah⟩;have hm:=Mc ha;refine aH (n:=(a:Int)) (by simp[ha]) (td H1 (hr a hm) (a8 rfl ?_));rw[MF,aK,show ax ((i:Int)+1)=((i+1:Nat):Int) by rw[wrap_i64 ah ah];omega];exact ih (i+1) ah
 exact⟨_,first rs.length 0 ah⟩
def kN{h:aI}{s:Nat}{L:List Nat}{X:SX}{K:KK}(Q':(Nat->Bool)->Int->Int->Prop){lo:Nat}{p:az}{c:Nat}{rs:List Nat}(H:bT h s L X)(Hr:cy h lo 1 p rs.length c (rs.map hv))(hr: ∀r∈rs,isN X.N r)(hl:rs.length<=100000)
  (hK: ∀h' L' a keep,Mk X.N rs keep []->bT h' s L' {X with N:=cv keep X.N,Q:=Q' keep}->aM L h h'->bC L L' h->K (.tuple #[ap a,ap 0]) h'):
  Cl 218 [au (aw s),.slice p rs.length c] h K:=by
 apply F218.spec;refine CD H Hr hr hl λh1 mb mo keep M1 Kp gm M O1=>⟨_,_,rfl,?_⟩;rw[show((0:Int) !=0)=false from rfl,aK]
 have cl: ∀i x,nd X.N i=some x->keep (i+2)=true->(x.2.1<2\/keep x.2.1=true)/\(x.2.2<2\/keep x.2.2=true):=λi x hx hk=>by have:=M.cl i x hx hk;simpa using this
 have z1:=O1.size;refine wC (Q' keep) (H.only0 O1) M1 Kp (λhm=>by have:=H.lt mb hm;omega) cl λh2 L2 a S2 O2 F2=>aH rfl ?_
 exact hK h2 L2 a keep M S2 ((O1.mono ak).trans O2 λb hb _=>hb) λb hb=>by
  rcases F2 b hb with q|q
  ·exact .inl q
  ·exact .inr ah
inductive vj (N:ay):Nat->Nat->Prop
 |self {a:Nat} (h:2<=a):vj N a a
 |lo {a b:Nat} (h:2<=a) (r:vj N (low N a) b):vj N a b
 |hi {a b:Nat} (h:2<=a) (r:vj N (high N a) b):vj N a b
def HF(n:Nat)(N:ay)(keep:Nat->Bool)(l:Nat):Prop:= ∀b,keep b=true->l<=lvl n N b->(low N b<2\/keep (low N b)=true)/\(high N b<2\/keep (high N b)=true)
def KM(mo:List (Int×Value))(keep:Nat->Bool):Prop:=CY mo keep/\ ∀p∈mo,∃k:Nat,keep k=true/\p=((k:Int),Value.agg #[])
def pA: ∀{m:List (Int×Value)},m.lookup k=some v->(k,v)∈m
 | [],h=>by cases h
 |(x,y)::m,h=>by
  rw[List.lookup_cons]at h;split at h
  ·rename_i e;have e:k=x:=by simpa using e
   injection h with h;subst h e;exact Og ..
  ·exact My _ (pA h)
def KM.add{mo:List (Int×Value)}{keep:Nat->Bool}{k:Nat}(H:KM mo keep):KM (iz mo (k:Int) (.agg #[])) (fK keep k):=by
 refine⟨H.1.add,λp hp=> ?_⟩;have kk:fK keep k k=true:=by unfold fK;simp
 have up: ∀j,keep j=true->fK keep k j=true:=λj hj=>by unfold fK;rw[hj];rfl
 unfold iz at hp;split at hp
 ·obtain⟨q,hq,e⟩:=Ms.1 hp;split at e
  ·exact⟨k,kk,e.symm⟩
  ·obtain⟨j,h1,h2⟩:=H.2 q hq;exact⟨j,up j h1,by rw[<-e];exact h2⟩
 ·rcases Zq hp with h|h
  ·obtain⟨j,h1,h2⟩:=H.2 p h;exact⟨j,up j h1,h2⟩
  ·simp only[LZ]at h;exact⟨k,kk,h⟩
def sO(hx:x=some (.map n))(hK:K n):bU x K:=⟨n,hx,hK⟩
def zt:bR X 158=some cH.go:=by kernel_rfl
def vj.lvl_le(ok:cX n N)(R:vj N a b):isN N a->isN N b/\2<=b/\lvl n N a<=lvl n N b:=by
 induction R with
 |self h=>exact λha=>⟨ha,h,Mb _⟩
 |lo h r ih=>
  intro ha;obtain⟨h3,h4,h5,-,h6,h7⟩:=ok.at ha h;obtain⟨x,y,z⟩:=ih h4;exact⟨x,y,ah⟩
 |hi h r ih=>
  intro ha;obtain⟨h3,h4,h5,-,h6,h7⟩:=ok.at ha h;obtain⟨x,y,z⟩:=ih h5;exact⟨x,y,ah⟩
structure Jp(h:aI)(s mb b1 b5 b8:Nat):Prop where
 m:At h b5 [.map (some mb)]
 g:At h b8 [.func (.func 158) #[] #[au (aw b5),au (aw b8),au (aw b1)]]
 s:At h b1 [au (aw s)]
 d:mb≠b1/\mb≠b5/\mb≠b8
def Jp.only{S:List Nat}{h h':aI}{s mb b1 b5 b8:Nat}(G:Jp h s mb b1 b5 b8)(O:aM S h h')(h1:b1∉S)(h5:b5∉S)(h8:b8∉S):Jp h' s mb b1 b5 b8:=⟨G.m.only O h5,G.g.only O h8,G.s.only O h1,G.d⟩
def EA{Y:SX}(dm:mb∉L): ∀(d:Nat) {h:aI} {a:Nat} {keep:Nat->Bool} {mo:List (Int×Value)} {K:KK},Y.n-lvl Y.n Y.N a<=d->bT h s L Y->Jp h s mb b1 b5 b8->bV h mb .u32 mo->KM mo keep->isN Y.N a->HF Y.n Y.N keep (lvl Y.n Y.N a)->
  (∀h' P f,bV h' mb .u32 P->KM P f->(∀b,keep b=true->f b=true)->(a<2\/f a=true)->(∀l,l<=lvl Y.n Y.N a->HF Y.n Y.N keep l->HF Y.n Y.N f l)->(∀b,f b=true->keep b=true\/vj Y.N a b)->aM [mb] h h'->K aE h')->
  Cl 158 [aq (a:Int),au (aw b5),au (aw b8),au (aw b1)] h K:=by
 intro d
 induction d using Nat.strongRecOn with
 |_ d ih=>
  intro h a keep mo K hd H G M Kp ha hC hK;have ok:=H.ok;refine F158.spec ?_;refine sO (by rw[At.rd G.m];rfl) ?_;have same: ∀k6,aM [] h k6->(a<2\/keep a=true)->K aE k6:=λk6 O q=>hK k6 mo keep (M.only O ak) Kp (λb hb=>hb) q (λl _ c=>c) (λb hb=> .inl hb) (O.mono ak)
  have body: ∀o:Option (Nat×Value),o.isSome=keep a->kU (.agg #[]) o= .agg #[]->jX (some (kU (.agg #[]) o)) (λv3=>bg h (.cells #[] 218) (λb4 h5=>du Tryz.prog 218 (some (aw b4)) v3 h5 (λh6=>aJ (Option.isSome o) (K aE h6) (aJ (decide ((a:Int)<=(1:Int))) (K aE h6) (F158.wk2 (a:Int) (aw b5) (aw b8) (aw b1) h6 K))))):=by
   intro o e1 e2;rw[e2];refine⟨_,rfl,aW λk6 B6 P6 y6=>je ?_⟩;rw[e1];refine aR (λq=>same k6 P6 (.inr q)) λq=>aR (λp=>same k6 P6 (.inl (by have:=Mn p;omega))) λp=> ?_;have p:=Me p;have a2:2<=a:=ah;obtain⟨h3,h4,h5,-,h6,h7⟩:=ok.1.at ha a2;unfold F158.wk2;have G6:=G.only P6 ak ak ak;have H6:=H.only0 P6;refine sO (by rw[At.rd G6.m];rfl) (fk (M.only P6 ak) λk7 M7 O7 z7=> ?_);have J:b1∉[mb]:=by simpa using λe=>G.d.1 e.symm
   have I:b5∉[mb]:=by simpa using λe=>G.d.2.1 e.symm
   have Q:b8∉[mb]:=by simpa using λe=>G.d.2.2 e.symm
   have nL: ∀b∈[mb],b∉L:=λb hb hm=>by simp only[LZ]at hb;subst hb;exact dm hm
   have G7:=G6.only O7 J I Q;have H7:=H6.only O7 nL;have O07:aM [mb] h k7:=(P6.mono ak).trans O7 λb hb _=>hb;have K7:=Kp.add (k:=a);have up: ∀b,keep b=true->fK keep a b=true:=λb hb=>by unfold fK;rw[hb];rfl
   have R:fK keep a a=true:=by unfold fK;simp
   have ad: ∀b,fK keep a b=true->keep b=true\/b=a:=λb hb=>by unfold fK at hb;rw[Nj]at hb;exact hb.imp id λe=>by simpa using e
   have C7: ∀l,lvl Y.n Y.N a<l->HF Y.n Y.N (fK keep a) l:=λl hl b hb A=>by
    rcases ad b hb with q|q
    ·obtain⟨x,y⟩:=hC b q ah;exact⟨x.imp id (up _),y.imp id (up _)⟩
    ·subst q;omega
   rw[At.rd G7.g,show([.func (.func 158) #[] #[au (aw b5),au (aw b8),au (aw b1)]]:List Value)[0]? =some (.func (.func 158) #[] #[au (aw b5),au (aw b8),au (aw b1)])from rfl,c8];refine aQ (by rw[At.rd G7.s];rfl) (iI H7 ha (aH rfl ?_));rw[At.rd G7.g,show([.func (.func 158) #[] #[au (aw b5),au (aw b8),au (aw b1)]]:List Value)[0]? =some (.func (.func 158) #[] #[au (aw b5),au (aw b8),au (aw b1)])from rfl,c8];refine⟨rfl,bj zt ?_⟩;refine ih (Y.n-lvl Y.n Y.N (low Y.N a)) ah (Mb _) H7 G7 M7 K7 h4 (C7 _ h6) λk8 W F M8 K8 t U C8 C O8=>⟨rfl,?_⟩;have G8:=G7.only O8 J I Q;have H8:=H7.only O8 nL;rw[At.rd G8.g,show([.func (.func 158) #[] #[au (aw b5),au (aw b8),au (aw b1)]]:List Value)[0]? =some (.func (.func 158) #[] #[au (aw b5),au (aw b8),au (aw b1)])from rfl,c8];refine aQ (by rw[At.rd G8.s];rfl) (fA H8 ha (aH rfl ?_));rw[At.rd G8.g,show([.func (.func 158) #[] #[au (aw b5),au (aw b8),au (aw b1)]]:List Value)[0]? =some (.func (.func 158) #[] #[au (aw b5),au (aw b8),au (aw b1)])from rfl,c8]
   have C8':HF Y.n Y.N F (lvl Y.n Y.N a+1):=by
    intro b hb A;by_cases q:lvl Y.n Y.N (low Y.N a)<=lvl Y.n Y.N b
    ·exact C8 _ (Mb _) (C7 _ h6) b hb q
    ·rcases C b hb with z|z
     ·obtain⟨x,y⟩:=C7 (lvl Y.n Y.N a+1) ah b z A;exact⟨x.imp id (t _),y.imp id (t _)⟩
     ·have:=(z.lvl_le ok.1 h4).2.2;omega
   refine⟨rfl,bj zt ?_⟩;refine ih (Y.n-lvl Y.n Y.N (high Y.N a)) ah (Mb _) H8 G8 M8 K8 h5 (λb hb A=>C8' b hb ah) λk9 S B M9 K9 i V C9 D O9=>⟨rfl,?_⟩
   have sub: ∀b,B b=true->keep b=true\/b=a\/(vj Y.N (low Y.N a) b\/vj Y.N (high Y.N a) b):=λb hb=>by
    rcases D b hb with q|q
    ·rcases C b q with q|q
     ·exact(ad b q).imp id .inl
     ·exact .inr (.inr (.inl q))
    ·exact .inr (.inr (.inr q))
   refine hK k9 S B M9 K9 (λb hb=>i b (t b (up b hb))) (.inr (i a (t a R))) (λl hl c b hb A=> ?_) (λb hb=> ?_) ((O07.trans O8 λb hb _=>hb).trans O9 λb hb _=>hb)
   ·rcases sub b hb with q|q|q
    ·obtain⟨x,y⟩:=c b q A;exact⟨x.imp id λz=>i _ (t _ (up _ z)),y.imp id λz=>i _ (t _ (up _ z))⟩
    ·subst q;exact⟨U.imp id (i _),V⟩
    ·have lb:lvl Y.n Y.N a+1<=lvl Y.n Y.N b:=by
      rcases q with q|q
      ·have:=(q.lvl_le ok.1 h4).2.2;omega
      ·have:=(q.lvl_le ok.1 h5).2.2;omega
     by_cases z:lvl Y.n Y.N (high Y.N a)<=lvl Y.n Y.N b
     ·exact C9 _ (Mb _) (λb hb A=>C8' b hb ah) b hb z
     ·rcases D b hb with w|w
      ·obtain⟨x,y⟩:=C8' b w lb;exact⟨x.imp id (i _),y.imp id (i _)⟩
      ·have:=(w.lvl_le ok.1 h5).2.2;omega
   ·rcases sub b hb with q|q|q|q
    ·exact .inl q
    ·subst q;exact .inr (.self a2)
    ·exact .inr (.lo a2 q)
    ·exact .inr (.hi a2 q)
  refine dg (m:=mo) M (λhn=> ?_) λj v u=> ?_
  ·have k0:keep a=false:=by
    cases hk:keep a with
    |false=>rfl
    |true=>rw[(Kp.1 a).1 hk]at hn;cases hn
   exact body none (by rw[k0];rfl) rfl
  ·have k1:keep a=true:=by
    cases hk:keep a with
    |true=>rfl
    |false=>rw[(Kp.1 a).2 hk]at u;cases u
   rw[(Kp.1 a).1 k1]at u;injection u with u;subst u;exact body (some (j,.agg #[])) (by rw[k1];rfl) rfl
def px{h:aI}{s:Nat}{L:List Nat}{Y:SX}{K:KK}{lo:Nat}{p:az}{c:Nat}{rs:List Nat}(H:bT h s L Y)(Hr:cy h lo 1 p rs.length c (rs.map hv))(hr: ∀r∈rs,isN Y.N r)(hl:rs.length<=100000)
  (hK: ∀h' mb mo keep,bV h' mb .u32 mo->KM mo keep->h.size<=mb->(∀b,keep b=true↔ ∃r∈rs,vj Y.N r b)->aM [] h h'->K (.tuple #[.map (some mb),ap 0]) h'):
  Cl 107 [au (aw s),.slice p rs.length c] h K:=by
 have ok:=H.ok;refine F107.spec _ _ _ _ h K ?_;refine aW λh1 A1 O1 z1=>fa (k:= .u32) λh2 M2 O2 z2=>aW λh3 A3 O3 z3=> ?_;rw[aL];refine aU A3 ak rfl λh4 A4 O4 z4=>aW λh5 A5 O5 z5=> ?_;rw[aL];refine aU A5 ak rfl λh6 A6 O6 z6=> ?_;have O02:aM [] h h2:=O1.trans O2 ak;have O04:aM [] h h4:=(O02.trans O3 ak).trans O4 (by intro x hx hl;simp only[LZ]at hx;omega);have O06:aM [] h h6:=(O04.trans O5 ak).trans O6 (by intro x hx hl;simp only[LZ]at hx;omega);have H6:=H.only0 O06;have Hr6:=Hr.only O06 ak;have M6:bV h6 h1.size .u32 []:=(((M2.only O3 ak).only O4 (by simp;omega)).only O5 ak).only O6 (by simp;omega)
 have G6:Jp h6 s h1.size h.size h2.size h4.size:=by refine⟨(A4.only O5 ak).only O6 (by simp;omega),A6,?_,⟨ah,ah,ah⟩⟩;exact((((A1.only O2 ak).only O3 ak).only O4 (by simp;omega)).only O5 ak).only O6 (by simp;omega)
 have dm:h1.size∉L:=λhm=>by have:=H.lt _ hm;omega
 have o: ∀(d i:Nat) (k:aI) (mo:List (Int×Value)) (keep:Nat->Bool),i+d=rs.length->bV k h1.size .u32 mo->KM mo keep->HF Y.n Y.N keep 0->(∀r∈rs.take i,r<2\/keep r=true)->(∀b,keep b=true-> ∃r∈rs,vj Y.N r b)->aM [h1.size] h6 k->
   F107.wL11 (d+1) (aw h2.size) (aw h4.size) p rs.length c (rs.length:Int) (i:Int) k K:=by
  intro d
  induction d with
  |zero=>
   intro i k mo keep hi M Kp hC l f O;rw[F107.sL11];rw[L7 ah,aK];have G:=G6.only O (by simp;omega) (by simp;omega) (by simp;omega);refine sO (by rw[At.rd G.m];rfl) ?_;have et:rs.take i=rs:=Oy ah;rw[et]at l
   have u: ∀{r b:Nat},vj Y.N r b->isN Y.N r->(r<2\/keep r=true)->keep b=true:=λ{r b} R=>by
    induction R with
    |self h=>exact λ_ q=>q.resolve_left ah
    |lo h r ih=>
     intro hr q;obtain⟨h3,h4,h5,-,h6,h7⟩:=ok.1.at hr h;exact ih h4 (hC _ (q.resolve_left ah) (Nq _)).1
    |hi h r ih=>
     intro hr q;obtain⟨h3,h4,h5,-,h6,h7⟩:=ok.1.at hr h;exact ih h5 (hC _ (q.resolve_left ah) (Nq _)).2
   exact hK k h1.size mo keep M Kp ah (λb=>⟨f b,λ⟨r,e,R⟩=>u R (hr r e) (l r e)⟩) (O06.trans O (by intro x hx hl;simp only[LZ]at hx;omega))
  |succ d ih=>
   intro i k mo keep hi M Kp hC l f O;rw[F107.sL11];rw[Mg ah,aO];have Ok:aM [] h k:=O06.trans O (by intro x hx hl;simp only[LZ]at hx;omega);have Hrk:=Hr.only Ok ak;have Hk:=H.only0 Ok;have G:=G6.only O (by simp;omega) (by simp;omega) (by simp;omega);obtain⟨b,eb,rr⟩:=Hrk.rd (j:=i) (by simp;omega);rw[eb,aT,<-eb];refine⟨ah,ah,?_⟩;rw[aL,LX,show Int.toNat (i:Int)*1=i by omega,rr];obtain⟨a,ha⟩: ∃a,rs[i]? =some a:=⟨_,Mj ah⟩;have hm:=Mc ha;refine aH (n:=(a:Int)) (by simp[ha]) ?_;rw[At.rd G.g,show([.func (.func 158) #[] #[au (aw h2.size),au (aw h4.size),au (aw h.size)]]:List Value)[0]? =some (.func (.func 158) #[] #[au (aw h2.size),au (aw h4.size),au (aw h.size)])from rfl,c8];refine bj zt (EA dm Y.n (Nat.sub_le _ _) Hk G M Kp (hr a hm) (λb hb B=>hC b hb (Nq _)) λk2 y t M2 K2 z A C2 v O2=>⟨rfl,?_⟩);rw[show ax ((i:Int)+1)=((i+1:Nat):Int) by rw[wrap_i64 ah ah];omega];refine ih (i+1) k2 y t ah M2 K2 (C2 0 (Nq _) hC) (λr e=> ?_) (λb hb=> ?_) (O.trans O2 λx hx _=>hx)
   ·rw[NM,ha]at e;rcases Zq e with q|q
    ·exact(l r q).imp id (z r)
    ·simp only[Option.toList_some,LZ]at q;subst q;exact A
   ·rcases v b hb with q|q
    ·exact f b q
    ·exact⟨a,hm,q⟩
 unfold F107.wk5
 have first: ∀(d i:Nat),i+d=rs.length->F107.wL5 (d+1) p rs.length c (aw h.size) (aw h2.size) (aw h4.size) p rs.length c (rs.length:Int) (i:Int) h6 K:=by
  intro d
  induction d with
  |zero=>
   intro i hi;rw[F107.sL5];rw[L7 ah,aK];unfold F107.wk10 F107.wk11;exact⟨_,o rs.length 0 h6 [] (λ_=>false) ah M6 ⟨λk=>⟨λh=>(by cases h),λ_=>rfl⟩,λp hp=>(by cases hp)⟩ (λb hb=>(by cases hb)) (λr e=>(by simp at e)) (λb hb=>(by cases hb)) (aM.refl _ _)⟩
  |succ d ih=>
   intro i hi;rw[F107.sL5];rw[Mg ah,aO];obtain⟨b,eb,rr⟩:=Hr6.rd (j:=i) (by simp;omega);rw[eb,aT,<-eb];refine⟨ah,ah,?_⟩;rw[aL,LX,show Int.toNat (i:Int)*1=i by omega,rr];obtain⟨a,ha⟩: ∃a,rs[i]? =some a:=⟨_,Mj ah⟩;have hm:=Mc ha;refine aH (n:=(a:Int)) (by simp[ha]) (aQ (by rw[At.rd G6.s];rfl) (td H6 (hr a hm) (a8 rfl ?_)));rw[MF,aK,show ax ((i:Int)+1)=((i+1:Nat):Int) by rw[wrap_i64 ah ah];omega];exact ih (i+1) ah
 exact⟨_,first rs.length 0 ah⟩
def bS(x:Int):Int:=if x=1\/x=6\/x=7 then 1 else if x=2\/x=3\/x=4\/x=8\/x=9\/x=10 then 2 else if x=5 then 3 else 0
def kW{x y:Int}(h:x≠y):(x==y)=false:=by simp[h]
def pu{h:aI}{x:Int}{K:KK}(hK:K (ap (bS x)) h):Cl 134 [ap x] h K:=by
 refine F134.spec ?_;unfold bS at hK;by_cases h1:x=1
 ·subst h1;exact hK
 by_cases h2:x=2
 ·subst h2;exact hK
 by_cases h3:x=3
 ·subst h3;exact hK
 by_cases h4:x=4
 ·subst h4;exact hK
 by_cases h5:x=5
 ·subst h5;exact hK
 by_cases h6:x=6
 ·subst h6;exact hK
 by_cases h7:x=7
 ·subst h7;exact hK
 by_cases h8:x=8
 ·subst h8;exact hK
 by_cases h9:x=9
 ·subst h9;exact hK
 by_cases h10:x=10
 ·subst h10;exact hK
 rw[LY ah,LY ah,LY h5]at hK;simp only[kW h1,kW h2,kW h3,kW h4,kW h5,kW h6,kW h7,kW h8,kW h9,kW h10,aK];exact hK
def mO(op:Int)(a b c:Nat)(mask:Int):Value:= .agg #[ap op,aq (a:Int),aq (b:Int),aq (c:Int),.int .u8 mask]
def sg(hx:bS x=0)(hK: ∀h',aM [] h h'->K (ap 200) h'):Cl 133 [bf s,mO x a b c mask] h K:=by refine F133.spec _ _ _ _ _ _ h K ?_;refine aW λh1 A1 O1 z1=> ?_;simp only[aL,LX];refine aH (n:=x) (by rw[At.rd A1];rfl) (pu (aH rfl ?_));rw[hx];exact hK h1 O1
def Fw{m n:Nat}(hn:n<=8)(hm:m<256):(Int.fdiv (ax (m:Int)) (2^(min (Int.toNat (n:Int)) (IntKind.bits .i64))))=((m/2^n:Nat):Int):=by rw[wrap_i64 ah ah,show min (Int.toNat (n:Int)) (IntKind.bits .i64)=n by show min n 64=n;omega,show((2:Int)^n)=((2^n:Nat):Int) by simp,Pa _ (Ny _)];simp
def Ln(op:Nat):Nat:=if op=6\/op=7 then 136 else if op=8 then 137 else if op=9 then 138 else if op=10 then 139 else 180
def kg(op a b c:Nat):FR:=if op=1 then⟨4,1,a,0⟩else if op=5 then⟨5,a,b,c⟩else if op=6\/op=7 then⟨op,a,0,0⟩else⟨op,a,b,0⟩
def lF(n op mask:Nat)(ft:Bool):Int:=if op=6\/op=7 then(if mask/2^n≠0 then 40 else 0)else if op=8 then(if n<=mask then 40 else 0)else if op=9\/op=10 then(if n%2=1\/ft=false then 160 else 0)else 0
def tU{h:aI}{s a b c op:Nat}{K:KK}{L:List Nat}{X:SX}{mask:Nat}{ft:Bool}(l:mask<256)(H:bT h s L X)(v:op=1\/op=2\/op=3\/op=4\/op=5\/op=6\/op=7\/op=8\/op=9\/op=10)(la:a<4294967296)(lb:b<4294967296)(lc:c<4294967296)(hN: ¬(isN X.N a/\(bS (op:Int)≠1->isN X.N b)/\(bS (op:Int)=3->isN X.N c))-> ∀h',aM [] h h'->K (ap 101) h')
  (hF:isN X.N a-> ∀{h1:aI} {Q:KK},aM [] h h1->(∀h2,aM [] h1 h2->Q (aD ft) h2)->Cl 179 [bf s,aq (a:Int)] h1 Q)
  (hK:isN X.N a->(bS (op:Int)≠1->isN X.N b)->(bS (op:Int)=3->isN X.N c)-> ∀h',aM [] h h'->K (ap (lF X.n op mask ft)) h'):
  Cl 133 [bf s,mO (op:Int) a b c (mask:Int)] h K:=by
 have ok:=H.ok;refine F133.spec _ _ _ _ _ _ h K ?_;refine aW λh1 A1 O1 z1=> ?_;simp only[aL,LX];have r: ∀k,rd h1 ⟨h.size,k,none⟩=([ap (op:Int),aq (a:Int),aq (b:Int),aq (c:Int),.int .u8 (mask:Int)]:List Value)[k]? :=λk=>At.rd A1 k;refine aH (by rw[r];rfl) (pu (aH rfl ?_))
 obtain⟨t,ht,F,D⟩: ∃t:Nat,bS (op:Int)=(t:Int)/\1<=t/\t<=3:=by
  rcases v with e|e|e|e|e|e|e|e|e|e<;>subst e
  ·exact⟨1,rfl,ah⟩
  ·exact⟨2,rfl,ah⟩
  ·exact⟨2,rfl,ah⟩
  ·exact⟨2,rfl,ah⟩
  ·exact⟨3,rfl,ah⟩
  ·exact⟨1,rfl,ah⟩
  ·exact⟨1,rfl,ah⟩
  ·exact⟨2,rfl,ah⟩
  ·exact⟨2,rfl,ah⟩
  ·exact⟨2,rfl,ah⟩
 rw[ht,show((t:Int)==(0:Int))=false by simp;omega,aK];refine aH (by rw[r];rfl) (aH (by rw[r];rfl) (aH (by rw[r];rfl) ?_));refine aW λh2 A2 O2 z2=>⟨ah,ah,?_⟩;have H2:=(H.only0 O1).only0 O2;have O02:=O1.trans O2 ak;have A12:=A1.only O2 ak;have r2: ∀k,rd h2 ⟨h.size,k,none⟩=([ap (op:Int),aq (a:Int),aq (b:Int),aq (c:Int),.int .u8 (mask:Int)]:List Value)[k]? :=λk=>At.rd A12 k;have l2: ∀k,rd h2 ⟨h1.size,k,none⟩=([aq (a:Int),aq (b:Int),aq (c:Int)]:List Value)[k]? :=λk=>At.rd A2 k;have ep:(if 3=0 then(some (aw h1.size))else Option.map (λa=>Addr.add a (0*1)) (some (aw h1.size)))=some (aw h1.size):=by simp[Addr.add]
 rw[ep,show Int.toNat (t:Int)-0=t by omega];unfold F133.wk5;have ew:ax (mask:Int)=(mask:Int):=wrap_i64 ah ah
 have qm: ∀{KK:Int->Prop},KK (if mask/2^X.n≠0 then 40 else 0)->aJ ((Int.fdiv (ax (mask:Int)) (2^(min (Int.toNat (X.n:Int)) (IntKind.bits .i64)))) !=(0:Int)) (KK 40) (KK 0):=λ{KK} hk=>by
  rw[Fw ok.2.2.1 l];by_cases z:mask/2^X.n=0
  ·rw[LY (by simpa using z)]at hk;rw[z];exact hk
  ·rw[L4 z]at hk;rw[show(((mask/2^X.n:Nat):Int) !=0)=true by rw[PH];omega,aO];exact hk
 have cm: ∀{KK:Int->Prop},KK (if X.n<=mask then 40 else 0)->aJ (decide ((ax (mask:Int))>=(X.n:Int))) (KK 40) (KK 0):=λ{KK} hk=>by
  rw[ew];refine aR (λq=> ?_) λq=> ?_
  ·rw[L4 (by have:=Mn q;omega)]at hk;exact hk
  ·rw[LY (by have:=Me q;omega)]at hk;exact hk
 have rl: ∀{KK:Int->aI->Prop},isN X.N a->(∀h3,aM [] h h3->KK (if X.n%2=1\/ft=false then 160 else 0) h3)->((2:Int)≠0/\aJ ((Int.tmod (X.n:Int) (2:Int))==(1:Int)) (KK 160 h2) (aS .u32 (rd h2 ⟨h.size,1,none⟩) (λj=>Cl 179 [bf s,(aq j)] h2 (λm f=>bQ (some m) (λo=>aJ (!o) (KK 160 f) (KK 0 f)))))):=λ{KK} na hk=>by
  refine⟨by decide,?_⟩;rw[show Int.tmod (X.n:Int) (2:Int)=((X.n%2:Nat):Int) by rw[Nm (Ny _)];omega];refine aR (λq=> ?_) λq=> ?_
  ·have:=hk h2 O02;rw[L4 (.inl (by simp at q;omega))]at this;exact this
  ·refine aH (n:=(a:Int)) (by rw[r2];rfl) (hF na O02 λh3 O3=>a8 rfl ?_);have:=hk h3 (O02.trans O3 ak);have q0:X.n%2≠1:=λe=>by rw[e]at q;simp at q
   cases ft with
   |true=>rw[LY (by simp;omega)]at this;exact this
   |false=>rw[L4 (.inr rfl)]at this;exact this
 have fin:isN X.N a->(bS (op:Int)≠1->isN X.N b)->(bS (op:Int)=3->isN X.N c)->F133.wk10 (aw s) (aw h.size) h2 K:=λna nb nc=>by
  unfold F133.wk10;simp only[aL,LX];refine aH (n:=(op:Int)) (by rw[r2];rfl) ?_;have r4:rd h2 ⟨h.size,4,none⟩=some (.int .u8 (mask:Int)):=by rw[r2];rfl
  have km:K (ap (if mask/2^X.n≠0 then 40 else 0)) h2->aS .u8 (rd h2 ⟨h.size,4,none⟩) (λn2=>Cl 75 [bf s] h2 (λv3 h4=>aS .i64 (some v3) (λn5=>(True/\aS .u8 (rd h4 ⟨h.size,4,none⟩) (λn6=>((.int .u8 n6)=((.int .u8 n2):Value)/\(True/\(0<=n5/\aJ ((Int.fdiv (ax n2) (2^(min (Int.toNat n5) (IntKind.bits .i64)))) !=(0:Int)) (K (ap (40:Int)) h4) (K (ap (0:Int)) h4))))))))):=λhk=>
   aH r4 (dX H2 (aH rfl ⟨trivial,aH r4 ⟨rfl,trivial,Ny _,qm (KK:=λz=>K (ap z) h2) hk⟩⟩))
  have kv:K (ap (if X.n<=mask then 40 else 0)) h2->aS .u8 (rd h2 ⟨h.size,4,none⟩) (λn7=>Cl 75 [bf s] h2 (λv8 h9=>aS .i64 (some v8) (λB=>(True/\aS .u8 (rd h9 ⟨h.size,4,none⟩) (λC=>((.int .u8 C)=((.int .u8 n7):Value)/\(True/\aJ (decide ((ax n7)>=B)) (K (ap (40:Int)) h9) (K (ap (0:Int)) h9)))))))):=λhk=>
   aH r4 (dX H2 (aH rfl ⟨trivial,aH r4 ⟨rfl,trivial,cm (KK:=λz=>K (ap z) h2) hk⟩⟩))
  have kr:(∀h3,aM [] h h3->K (ap (if X.n%2=1\/ft=false then 160 else 0)) h3)->Cl 75 [bf s] h2 (λx g=>aS .i64 (some x) (λA=>((2:Int)≠0/\aJ ((Int.tmod A (2:Int))==(1:Int)) (K (ap (160:Int)) g) (aS .u32 (rd g ⟨h.size,1,none⟩) (λj=>Cl 179 [bf s,(aq j)] g (λm f=>bQ (some m) (λo=>aJ (!o) (K (ap (160:Int)) f) (K (ap (0:Int)) f)))))))):=λhk=>
   dX H2 (aH rfl (rl (KK:=λz h3=>K (ap z) h3) na hk))
  have k0:=hK na nb nc h2 O02;rcases v with e|e|e|e|e|e|e|e|e|e<;>subst e
  ·exact k0
  ·exact k0
  ·exact k0
  ·exact k0
  ·exact k0
  ·exact km k0
  ·exact km k0
  ·exact kv k0
  ·exact kr λh3 O3=>hK na nb nc h3 O3
  ·exact kr λh3 O3=>hK na nb nc h3 O3
 have u: ∀(d i:Nat),i+d=t->(0<i->isN X.N a)->(1<i->isN X.N b)->(2<i->isN X.N c)->F133.wL5 (d+1) (aw s) (aw h.size) (some (aw h1.size)) t (3-0) (t:Int) (i:Int) h2 K:=by
  intro d
  induction d with
  |zero=>
   intro i hi na nb nc;rw[F133.sL5];rw[L7 ah,aK];exact fin (na ah) (λq=>nb ah) λq=>nc ah
  |succ d ih=>
   intro i hi na nb nc;rw[F133.sL5];rw[Mg ah,aO,aT];refine⟨ah,ah,?_⟩;have ew:ax ((i:Int)+1)=((i+1:Nat):Int):=by rw[wrap_i64 ah ah];omega
   rw[ew,aL,LX,Md,MU,l2]
   have go: ∀y,y<4294967296->(¬isN X.N y-> ¬(isN X.N a/\(bS (op:Int)≠1->isN X.N b)/\(bS (op:Int)=3->isN X.N c)))->(isN X.N y->F133.wL5 (d+1) (aw s) (aw h.size) (some (aw h1.size)) t (3-0) (t:Int) ((i+1:Nat):Int) h2 K)->([aq (a:Int),aq (b:Int),aq (c:Int)]:List Value)[i]? =some (aq (y:Int))->aS .u32 (([aq (a:Int),aq (b:Int),aq (c:Int)]:List Value)[i]?) λn2=>Cl 74 [au (aw s),aq n2] h2 λv3 h4=>bQ (some v3) λb5=>aJ (!b5) (K (ap (101:Int)) h4) (F133.wL5 (d+1) (aw s) (aw h.size) (some (aw h1.size)) t (3-0) (t:Int) ((i+1:Nat):Int) h4 K):=λy ly hn nx e=>by
    refine aH e (vA H2 ly (λhy=>a8 rfl ?_) λhy=>a8 rfl ?_)
    ·rw[MF,aK];exact nx hy
    ·rw[MS,aO];exact hN (hn hy) h2 O02
   have:i=0\/i=1\/i=2:=ah;rcases this with e|e|e<;>subst e
   ·exact go a la (λq z=>q z.1) (λq=>ih 1 ah (λ_=>q) (λz=>ah) λz=>ah) rfl
   ·exact go b lb (λq z=>q (z.2.1 (by rw[ht];omega))) (λq=>ih 2 ah (λ_=>na ah) (λ_=>q) λz=>ah) rfl
   ·exact go c lc (λq z=>q (z.2.2 (by rw[ht];omega))) (λq=>ih 3 ah (λ_=>na ah) (λ_=>nb ah) λ_=>q) rfl
 exact⟨_,u t 0 ah (λz=>ah) (λz=>ah) λz=>ah⟩
def Cd{h:aI}{s n room a b c op:Nat}{fo gg:Nat->Nat}{off:Bool}{N:ay}{K:KK}{L:List Nat}{q:Nat}{mask:Nat}(D:mask<256)(H:bT h s L (XL n room fo gg N off))(u:op=1\/op=2\/op=3\/op=4\/op=5\/op=6\/op=7\/op=8\/op=9\/op=10)(eq:q=Ln op)
  (z: ∀{h1:aI} {Q:KK},aM [] h h1->(∀h2,aM [] h1 h2->Q (ap 0) h2)->Cl 133 [bf s,mO (op:Int) a b c (mask:Int)] h1 Q)
  (hK: ∀h' A f,bG h' s A->(∀x∈A.bl,h.size<=x)->A.fs=[f]->f.fn=q->f.low=0->f.op=(kg op a b c).op->f.mask=mask->f.a0=(kg op a b c).a0->f.a1=(kg op a b c).a1->f.a2=(kg op a b c).a2->A.told=0->A.done=false->A.e=0->aM [] h h'->K (.tuple #[bf A.m,ap 0]) h'):
  Cl 91 [bf s,mO (op:Int) a b c (mask:Int)] h K:=by
 refine F91.spec _ _ _ _ _ _ h K ?_;refine aW λh1 A1 O1 z1=> ?_;simp only[aL,LX];have r: ∀k,rd h1 ⟨h.size,k,none⟩=([ap (op:Int),aq (a:Int),aq (b:Int),aq (c:Int),.int .u8 (mask:Int)]:List Value)[k]? :=λk=>At.rd A1 k;refine aH (by rw[r];rfl) (aH (by rw[r];rfl) (aH (by rw[r];rfl) (aH (by rw[r];rfl) (aH (by rw[r];rfl) ?_))));refine z O1 λh2 O2=>aH rfl ?_;rw[show((0:Int) !=(0:Int))=false from rfl,aK];refine aW λh3 A3 O3 z3=> ?_;have B3:=(A1.only O2 ak).only O3 ak;have r3: ∀k,rd h3 ⟨h.size,k,none⟩=([ap (op:Int),aq (a:Int),aq (b:Int),aq (c:Int),.int .u8 (mask:Int)]:List Value)[k]? :=λk=>At.rd B3 k;refine aH (by rw[r3];rfl) (aH (by rw[r3];rfl) (aH (by rw[r3];rfl) ?_));refine aW λh4 A4 O4 z4=>aU A4 ak rfl λh5 A5 O5 z5=>aU A5 ak rfl λh6 A6 O6 z6=>aU A6 ak rfl λh7 A7 O7 z7=> ?_;have A7:At h7 h3.size [aq (a:Int),aq (b:Int),aq (c:Int)]:=A7;have P:=O2.size;have O37:aM [h3.size] h3 h7:=((O4.mono (T:=[h3.size]) ak).trans O5 λb hb _=>hb).trans O6 (λb hb _=>hb)|>.trans O7 λb hb _=>hb;have B7:=B3.only O37 (by simp;omega);have M7:At h7 h2.size (cO s ⟨h2.size,none,0,[],0,false,0⟩):=At.only (show At h3 h2.size (cO s ⟨h2.size,none,0,[],0,false,0⟩)from A3) O37 (by simp;omega);refine aH (n:=(op:Int)) (by rw[At.rd B7];rfl) (pu (aH rfl ?_));unfold F91.wk7
 have rest: ∀(h8:aI) (a' b' c':Nat),At h8 h.size [ap (op:Int),aq (a:Int),aq (b:Int),aq (c:Int),.int .u8 (mask:Int)]->At h8 h3.size [aq (a':Int),aq (b':Int),aq (c':Int)]->At h8 h2.size (cO s ⟨h2.size,none,0,[],0,false,0⟩)->aM [] h h8->
   (if op=1 then(⟨4,1,a,0⟩:FR)else⟨op,a',b',c'⟩)=kg op a b c->F91.wk10 (aw h.size) (aw h2.size) (aw h3.size) h8 K:=by
  intro h8 a' b' c' B8 A8 M8 O8 hG;unfold F91.wk10;simp only[aL,LX];have r8: ∀k,rd h8 ⟨h.size,k,none⟩=([ap (op:Int),aq (a:Int),aq (b:Int),aq (c:Int),.int .u8 (mask:Int)]:List Value)[k]? :=λk=>At.rd B8 k;have q8: ∀k,rd h8 ⟨h3.size,k,none⟩=([aq (a':Int),aq (b':Int),aq (c':Int)]:List Value)[k]? :=λk=>At.rd A8 k;refine aH (by rw[r8];rfl) (aH (by rw[r8];rfl) (aH (by rw[q8];rfl) (aH (by rw[q8];rfl) (aH (by rw[q8];rfl) ?_))));have F:IntKind.wrap .u8 (op:Int)=(op:Int):=xc ah;rw[F];have MI:bG h8 s ⟨h2.size,none,0,[],0,false,0⟩:=⟨M8,nE.nil _ _,(λf hf=>by cases hf),by simp[MA.bl,aV]⟩;refine fB (A:=⟨h2.size,none,0,[],0,false,0⟩) MI ak λh9 f fp fc hf M9 O9 g9=>aQ rfl ?_;obtain⟨bb,rfl,I⟩:=hf;have J:=O8.size;have lB:=B8.lt;have lM:=M8.lt;have O9':aM [h2.size] h8 h9:=O9;have B9:=B8.only O9' (by simp;omega);have O09:aM [] h h9:=O8.trans O9' (by intro x hx hl;simp at hx;omega);have r9: ∀k,rd h9 ⟨h.size,k,none⟩=([ap (op:Int),aq (a:Int),aq (b:Int),aq (c:Int),.int .u8 (mask:Int)]:List Value)[k]? :=λk=>At.rd B9 k;refine aH (by rw[r9];rfl) ?_
  have t: ∀(f:Fk),f.b=bb-> ∀x∈({m:=h2.size,fp:=fp,fc:=fc,fs:=[]++[f],told:=0,done:=false,e:=0}:MA).bl,h.size<=x:=λf hf x hx=>by
   simp only[MA.bl,List.mem_cons,List.mem_append,MJ,Mz,N4,MR,Nk,false_or,Nn]at hx;rcases hx with h|h|h
   ·omega
   ·rcases g9 x h with h|h
    ·simp[aV]at h
    ·omega
   ·omega
  by_cases h1:op=1
  ·subst h1;rw[show((((1:Nat):Int))==(1:Int))=true from rfl,aO];refine aH (by rw[r9];rfl) ?_;rw[aT];simp only[aL,LX];refine bG.top (A:=⟨h2.size,fp,fc,[],0,false,0⟩) (fl:=[]) (f':=⟨bb,4,mask,a',b',c',0,0,180⟩) M9 (by decide) rfl rfl rfl λo M10 O10=> ?_;have nb:h.size≠bb:=ah;have B10:=B9.only O10 (by simp;omega);refine⟨by trivial,by trivial,aH (n:=(a:Int)) (by rw[At.rd B10];rfl) ⟨by trivial,by trivial,?_⟩⟩;rw[aT];simp only[aL,LX];refine bG.top (A:=⟨h2.size,fp,fc,[],0,false,0⟩) (fl:=[]) (f':=⟨bb,4,mask,1,b',c',0,0,180⟩) M10 (by decide) rfl rfl rfl λR M11 O11=> ?_;refine bG.top (A:=⟨h2.size,fp,fc,[],0,false,0⟩) (fl:=[]) (f':=⟨bb,4,mask,1,a,c',0,0,180⟩) M11 (by decide) rfl rfl rfl λG M12 O12=> ?_;refine bG.top (A:=⟨h2.size,fp,fc,[],0,false,0⟩) (fl:=[]) (f':=⟨bb,4,mask,1,a,0,0,0,180⟩) M12 (by decide) rfl rfl rfl λv M13 O13=> ?_;have OO:aM [bb] h9 v:=((O10.trans O11 λb hb _=>hb).trans O12 λb hb _=>hb).trans O13 λb hb _=>hb;exact hK v _ ⟨bb,4,mask,1,a,0,0,0,180⟩ M13 (t _ rfl) rfl (by rw[eq];rfl) rfl rfl rfl rfl rfl rfl rfl rfl rfl (O09.trans OO (by intro x hx hl;simp at hx;omega))
  ·have C:=h1;have g:(⟨op,a',b',c'⟩:FR)=kg op a b c:=by rw[LY h1]at hG;exact hG
   have fin:180=q->K (.tuple #[bf h2.size,ap 0]) h9:=λe=>hK h9 _ ⟨bb,op,mask,a',b',c',0,0,180⟩ M9 (t _ rfl) rfl e rfl (by rw[<-g]) rfl (by rw[<-g]) (by rw[<-g]) (by rw[<-g]) rfl rfl rfl O09
   have j:aY h9 ⟨bb,8,none⟩ (iY q bb) (λo=>K (.tuple #[bf h2.size,ap 0]) o):=
    bG.top (A:=⟨h2.size,fp,fc,[],0,false,0⟩) (fl:=[]) (f:=⟨bb,op,mask,a',b',c',0,0,180⟩) (f':=⟨bb,op,mask,a',b',c',0,0,q⟩) M9 (by decide) rfl rfl rfl λo M10 O10=>
     hK o _ ⟨bb,op,mask,a',b',c',0,0,q⟩ M10 (t _ rfl) rfl rfl rfl (by rw[<-g]) rfl (by rw[<-g]) (by rw[<-g]) (by rw[<-g]) rfl rfl rfl (O09.trans O10 (by intro x hx hl;simp at hx;omega))
   clear hG g h1;rcases u with e|e|e|e|e|e|e|e|e|e
   ·exact Mw e C
   ·subst e eq;exact fin rfl
   ·subst e eq;exact fin rfl
   ·subst e eq;exact fin rfl
   ·subst e eq;exact fin rfl
   ·subst e eq;exact j
   ·subst e eq;exact j
   ·subst e eq;exact j
   ·subst e eq;exact j
   ·subst e eq;exact j
 have d: ∀(bk:Addr->Addr->Addr->Int->aI->Prop) (y:Addr->Addr->Addr->aI->Prop) (h8:aI) (i:Nat) (l:List Value),i<3->l.length=3->At h8 h3.size l->At h8 h.size [ap (op:Int),aq (a:Int),aq (b:Int),aq (c:Int),.int .u8 (mask:Int)]->At h8 h2.size (cO s ⟨h2.size,none,0,[],0,false,0⟩)->aM [] h h8->
   (∀h9,At h9 h3.size (l.set i (aq 0))->At h9 h.size [ap (op:Int),aq (a:Int),aq (b:Int),aq (c:Int),.int .u8 (mask:Int)]->At h9 h2.size (cO s ⟨h2.size,none,0,[],0,false,0⟩)->aM [] h h9->bk (aw h.size) (aw h2.size) (aw h3.size) ((i+1:Nat):Int) h9)->
   F91.JL7 bk y (aw h.size) (aw h2.size) (aw h3.size) (i:Int) h8 K:=by
  intro bk y h8 i l hi hl A B M O hB;unfold F91.JL7;have ew:ax ((i:Int)+1)=((i+1:Nat):Int):=by rw[wrap_i64 ah ah];omega
  rw[Mg ah,aO,ew];simp only[aL,LX,Ma,Md,MU];exact⟨ah,ah,aU A ah rfl λh9 A9 O9 z9=>hB h9 A9 (B.only O9 (by simp;omega)) (M.only O9 (by simp;omega)) (O.trans O9 (by intro x hx hl;simp at hx;omega))⟩
 have O07:aM [] h h7:=(((O1.trans O2 ak).trans O3 ak).trans O37 (by intro x hx hl;simp at hx;omega));rcases u with e|e|e|e|e|e|e|e|e|e
 ·subst e;refine⟨3,?_⟩;rw[F91.sL7];refine d _ _ h7 1 _ ah rfl A7 B7 M7 O07 λh8 A8 B8 M8 O8=> ?_;rw[F91.sL7];refine d _ _ h8 2 _ ah rfl A8 B8 M8 O8 λh9 A9 B9 M9 O9=> ?_;rw[F91.sL7];unfold F91.JL7;rw[L7 ah,aK];exact rest h9 a 0 0 B9 A9 M9 O9 rfl
 ·subst e;refine⟨2,?_⟩;rw[F91.sL7];refine d _ _ h7 2 _ ah rfl A7 B7 M7 O07 λh8 A8 B8 M8 O8=> ?_;rw[F91.sL7];unfold F91.JL7;rw[L7 ah,aK];exact rest h8 a b 0 B8 A8 M8 O8 rfl
 ·subst e;refine⟨2,?_⟩;rw[F91.sL7];refine d _ _ h7 2 _ ah rfl A7 B7 M7 O07 λh8 A8 B8 M8 O8=> ?_;rw[F91.sL7];unfold F91.JL7;rw[L7 ah,aK];exact rest h8 a b 0 B8 A8 M8 O8 rfl
 ·subst e;refine⟨2,?_⟩;rw[F91.sL7];refine d _ _ h7 2 _ ah rfl A7 B7 M7 O07 λh8 A8 B8 M8 O8=> ?_;rw[F91.sL7];unfold F91.JL7;rw[L7 ah,aK];exact rest h8 a b 0 B8 A8 M8 O8 rfl
 ·subst e;refine⟨1,?_⟩;rw[F91.sL7];unfold F91.JL7;rw[show decide (bS ((5:Nat):Int)<(3:Int))=false from rfl,aK];exact rest h7 a b c B7 A7 M7 O07 rfl
 ·subst e;refine⟨3,?_⟩;rw[F91.sL7];refine d _ _ h7 1 _ ah rfl A7 B7 M7 O07 λh8 A8 B8 M8 O8=> ?_;rw[F91.sL7];refine d _ _ h8 2 _ ah rfl A8 B8 M8 O8 λh9 A9 B9 M9 O9=> ?_;rw[F91.sL7];unfold F91.JL7;rw[L7 ah,aK];exact rest h9 a 0 0 B9 A9 M9 O9 rfl
 ·subst e;refine⟨3,?_⟩;rw[F91.sL7];refine d _ _ h7 1 _ ah rfl A7 B7 M7 O07 λh8 A8 B8 M8 O8=> ?_;rw[F91.sL7];refine d _ _ h8 2 _ ah rfl A8 B8 M8 O8 λh9 A9 B9 M9 O9=> ?_;rw[F91.sL7];unfold F91.JL7;rw[L7 ah,aK];exact rest h9 a 0 0 B9 A9 M9 O9 rfl
 ·subst e;refine⟨2,?_⟩;rw[F91.sL7];refine d _ _ h7 2 _ ah rfl A7 B7 M7 O07 λh8 A8 B8 M8 O8=> ?_;rw[F91.sL7];unfold F91.JL7;rw[L7 ah,aK];exact rest h8 a b 0 B8 A8 M8 O8 rfl
 ·subst e;refine⟨2,?_⟩;rw[F91.sL7];refine d _ _ h7 2 _ ah rfl A7 B7 M7 O07 λh8 A8 B8 M8 O8=> ?_;rw[F91.sL7];unfold F91.JL7;rw[L7 ah,aK];exact rest h8 a b 0 B8 A8 M8 O8 rfl
 ·subst e;refine⟨2,?_⟩;rw[F91.sL7];refine d _ _ h7 2 _ ah rfl A7 B7 M7 O07 λh8 A8 B8 M8 O8=> ?_;rw[F91.sL7];unfold F91.JL7;rw[L7 ah,aK];exact rest h8 a b 0 B8 A8 M8 O8 rfl
section
variable {i j k l m n o p q r s t:Int}{a b c d:Addr}{u v:Nat}{x y:az}{h:aI}{K:KK}
def F88.spec(H:aJ (i<0) (K (.tuple #[aA none,ap 61]) h) (aJ (j<1) (K (.tuple #[aA none,ap 61]) h) (aJ (j>256) (K (.tuple #[aA none,ap 61]) h) (Cl 132 [au a] h λb c=>aS .i64 (some b) λb=>aJ (i>b) (K (.tuple #[aA none,ap 61]) c) (Cl 90 [ap j] c λb c=>aS .i64 (some b) λb=>Cl 132 [au a] c λc d=>aS .i64 (some c) λc=>aJ (b>(ax (c-i))) (K (.tuple #[aA none,ap 61]) d) (bg d (.cells #[au a,ap i,ap j] 216) λa b=>K (.tuple #[au (aw a),ap 0]) b)))))):Cl 88 [au a,ap i,ap j] h K:=cN Tryz.func88 H
def F90.spec(H:aJ (i<1) (K (ap 0) h) (K (ap (ax (i+2))) h)):Cl 90 [ap i] h K:=cN Tryz.func90 H
def F193.spec(H:jX (rd h a) λa=>aZ (rd h b) λb=>dS Tryz.prog X a [aA b] h λa b=>a=aE/\K aE b):Cl 193 [au a,au b] h K:=cN Tryz.func193 H
def F194.T:bh:=⟨[],[(1,[[(0,[]),(1,[]),(2,[]),(3,[]),(4,[]),(5,[]),(6,[]),(7,[]),(8,[]),(9,[]),(10,[]),(11,[]),(12,[])]])]⟩
def F194.spec{a:Addr}(H:aZ (rd h (a.add 0)) λb=>aS .i64 (rd h (a.add 1)) λa=>Cl 162 [aA b,ap (ax (a+i))] h λa b=>aS .u64 (some a) λa=>K (ap (ax a)) b):Cl 194 [au a,ap i] h K:=cT F194.T Tryz.func194 H
def F143.spec{a:Addr}(H:aZ (rd h (a.add 0)) λb=>Cl 194 [aA b,ap 1] h λb c=>aS .i64 (some b) λb=>aY c ((a.add 3).add 0) (ap b) λb=>aY b ((a.add 4).add 0) (.func (.func 195) #[au a] #[]) λa=>K aE a):Cl 143 [au a] h K:=cN Tryz.func143 H
def F195.T:bh:=⟨[],[(2,[[(0,[]),(1,[]),(2,[]),(3,[]),(4,[]),(5,[]),(6,[]),(7,[]),(8,[]),(9,[]),(10,[]),(11,[]),(12,[]),(13,[]),(14,[]),(15,[]),(16,[])]])]⟩
def F195.spec{a:Addr}(H:aZ (rd h (a.add 0)) λb=>Cl 194 [aA b,ap 0] h λb c=>aS .i64 (some b) λb=>aY c ((a.add 2).add 0) (ap b) λb=>aY b ((a.add 4).add 0) (.func (.func 239) #[au a] #[]) λb=>aS .i64 (rd b (a.add 3)) λc=>aS .i64 (rd b (a.add 2)) λd=>aZ (rd b (a.add 0)) λe=>aX e λe=>aS .i64 (rd b (e.add 2)) λe=>aJ ((ax (c-d))>=e) (Cl 240 [au a,aB] b λa b=>a=aE/\K aE b) (K aE b)):Cl 195 [au a] h K:=cT F195.T Tryz.func195 H
def F239.T:bh:=⟨[],[(0,[[(0,[]),(1,[]),(2,[]),(3,[]),(4,[]),(5,[]),(6,[]),(7,[]),(8,[]),(9,[]),(10,[]),(11,[]),(12,[]),(13,[]),(14,[]),(16,[]),(17,[]),(18,[]),(19,[]),(15,[0,1,2,3,4,5,6,16,17,18,19]),(20,[])]])]⟩
def F239.spec{a:Addr}(H:aZ (rd h (a.add 0)) λb=>aX b λc=>aZ (rd h (c.add 0)) λd=>aZ (rd h (a.add 0)) λe=>aS .i64 (rd h (a.add 3)) λf=>aS .u64 (rd h (a.add 1)) λg=>Cl 283 [aA e,ap f] h λe f=>aS .i64 (some e) λe=>aF (au a)/\aF (au a)/\aF (au (a.add 0))/\aZ (rd f (a.add 0)) λi=>aG (aA i) (aA b)/\aX b λb=>aG (au b) (au c)/\aF (au (c.add 0))/\aZ (rd f (c.add 0)) λb=>aG (aA b) (aA d)/\aF (au a)/\aF (au a)/\aF (au (a.add 1))/\aS .u64 (rd f (a.add 1)) λb=>aG (ar b) (ar g)/\Cl 282 [aA d,ap e,ar g] f λb c=>b=aE/\aY c ((a.add 4).add 0) (.func (.func 284) #[au a] #[]) λa=>K aE a):Cl 239 [au a] h K:=cT F239.T Tryz.func239 H
def F240.spec(a:Addr)(b:Bool)(h:aI)(K:KK)(H:aY h ((a.add 5).add 0) aC λc=>aY c ((a.add 6).add 0) (aD b) λa=>K aE a):Cl 240 [au a,aD b] h K:=cN Tryz.func240 H
def F284.T:bh:=⟨[],[(0,[[(0,[]),(1,[]),(2,[]),(3,[]),(4,[]),(5,[]),(6,[]),(7,[]),(8,[]),(9,[]),(10,[]),(11,[]),(12,[]),(13,[]),(14,[]),(15,[]),(16,[]),(17,[]),(18,[]),(19,[]),(20,[]),(21,[])]])]⟩
def F284.spec{a:Addr}(H:aZ (rd h (a.add 0)) λb=>aX b λb=>aZ (rd h (b.add 0)) λb=>aZ (rd h (a.add 0)) λc=>aX c λc=>aS .i64 (rd h (c.add 1)) λc=>aS .i64 (rd h (a.add 3)) λd=>Cl 282 [aA b,ap (ax (c+1)),ar (IntKind.wrap .u64 (ax (d+1)))] h λb c=>b=aE/\Cl 240 [au a,aC] c λa b=>a=aE/\K aE b):Cl 284 [au a] h K:=cT F284.T Tryz.func284 H
def F220.spec{a:Addr}(H:aZ (rd h (a.add 0)) λb=>Cl 194 [aA b,ap 1] h λb c=>aS .i64 (some b) λb=>aY c ((a.add 3).add 0) (ap (ax (b-1))) λb=>aY b ((a.add 4).add 0) (.func (.func 269) #[au a] #[]) λa=>K aE a):Cl 220 [au a] h K:=cN Tryz.func220 H
def F269.T:bh:=⟨[],[(0,[[(0,[]),(1,[]),(2,[]),(3,[]),(4,[]),(5,[]),(6,[]),(7,[]),(8,[]),(9,[]),(10,[]),(11,[]),(12,[]),(13,[]),(14,[]),(15,[]),(16,[]),(17,[]),(18,[]),(19,[]),(20,[])]])]⟩
def F269.spec{a:Addr}(H:aZ (rd h (a.add 0)) λb=>aX b λb=>aZ (rd h (b.add 0)) λb=>aZ (rd h (a.add 0)) λc=>aX c λc=>aS .i64 (rd h (c.add 1)) λc=>aS .i64 (rd h (a.add 3)) λd=>Cl 282 [aA b,ap (ax (c+1)),ar (IntKind.wrap .u64 d)] h λb c=>b=aE/\aY c ((a.add 4).add 0) (.func (.func 300) #[au a] #[]) λa=>K aE a):Cl 269 [au a] h K:=cT F269.T Tryz.func269 H
def F300.T:bh:=⟨[],[(2,[[(0,[]),(1,[]),(2,[]),(3,[]),(4,[]),(5,[]),(6,[]),(7,[]),(8,[])]])]⟩
def F300.spec{a:Addr}(H:aZ (rd h (a.add 0)) λb=>Cl 194 [aA b,ap 0] h λb c=>aS .i64 (some b) λb=>aY c ((a.add 2).add 0) (ap b) λb=>aY b ((a.add 4).add 0) (.func (.func 333) #[au a] #[]) λb=>aS .i64 (rd b (a.add 2)) λc=>aS .i64 (rd b (a.add 3)) λd=>aJ (c>d) (aY b ((a.add 4).add 0) (.func (.func 334) #[au a] #[]) λa=>K aE a) (K aE b)):Cl 300 [au a] h K:=cT F300.T Tryz.func300 H
def F333.T:bh:=⟨[],[(0,[[(0,[]),(1,[]),(2,[]),(3,[]),(4,[]),(5,[]),(6,[]),(7,[]),(8,[]),(9,[]),(10,[]),(11,[]),(12,[]),(13,[]),(14,[]),(15,[]),(16,[0,1,2,3,4,5,6,7]),(17,[0]),(18,[]),(19,[]),(20,[])]]),(1,[[(0,[]),(1,[]),(2,[]),(3,[]),(4,[]),(5,[]),(6,[]),(7,[]),(8,[])]])]⟩
def F333.spec{a:Addr}(H:aZ (rd h (a.add 0)) λb=>aX b λc=>aZ (rd h (c.add 0)) λd=>aZ (rd h (a.add 0)) λe=>aS .i64 (rd h (a.add 3)) λf=>Cl 283 [aA e,ap f] h λe f=>aS .i64 (some e) λe=>aF (au a)/\aF (au a)/\aF (au a)/\aF (au (a.add 0))/\aZ (rd f (a.add 0)) λg=>aG (aA g) (aA b)/\aX b λb=>aG (au b) (au c)/\aF (au (c.add 0))/\aZ (rd f (c.add 0)) λb=>aG (aA b) (aA d)/\Cl 162 [aA d,ap e] f λb c=>aS .u64 (some b) λb=>aF (au a)/\aY c ((a.add 1).add 0) (ar b) λb=>aS .i64 (rd b (a.add 2)) λc=>aS .i64 (rd b (a.add 3)) λd=>aJ (c<d) (Cl 240 [au a,aC] b λa b=>a=aE/\K aE b) (aY b ((a.add 4).add 0) (.func (.func 353) #[au a] #[]) λa=>K aE a)):Cl 333 [au a] h K:=cT F333.T Tryz.func333 H
def F353.T:bh:=⟨[],[(0,[[(0,[]),(1,[]),(2,[]),(3,[]),(4,[]),(5,[]),(6,[]),(7,[]),(8,[]),(9,[]),(10,[]),(11,[]),(12,[]),(13,[]),(14,[]),(15,[]),(16,[]),(17,[]),(18,[]),(19,[]),(20,[]),(21,[]),(22,[]),(23,[]),(24,[]),(25,[]),(26,[]),(27,[0]),(28,[]),(29,[]),(30,[])]])]⟩
def F353.spec{a:Addr}(H:aZ (rd h (a.add 0)) λb=>aX b λb=>aZ (rd h (b.add 0)) λb=>aZ (rd h (a.add 0)) λc=>aX c λc=>aS .i64 (rd h (c.add 1)) λc=>aS .i64 (rd h (a.add 2)) λd=>aS .i64 (rd h (a.add 2)) λe=>Cl 163 [aA b,ap (ax (c+0)),ar (IntKind.wrap .u64 d),ar (IntKind.wrap .u64 (ax (e+1)))] h λb c=>bQ (some b) λb=>aF (au a)/\aY c ((a.add 6).add 0) (aD b) λb=>aY b ((a.add 4).add 0) (.func (.func 354) #[au a] #[]) λa=>K aE a):Cl 353 [au a] h K:=cT F353.T Tryz.func353 H
def F334.spec{a:Addr}(H:aY h ((a.add 6).add 0) aB λb=>Cl 354 [au a] b λa b=>a=aE/\K aE b):Cl 334 [au a] h K:=cN Tryz.func334 H
def F354.T:bh:=⟨[],[(0,[[(0,[]),(1,[]),(2,[]),(3,[]),(4,[]),(5,[]),(6,[]),(7,[]),(8,[]),(9,[]),(10,[]),(11,[]),(12,[]),(13,[]),(14,[]),(15,[]),(16,[]),(17,[]),(18,[]),(19,[]),(20,[]),(21,[])]])]⟩
def F354.spec{a:Addr}(H:aZ (rd h (a.add 0)) λb=>aX b λb=>aZ (rd h (b.add 0)) λb=>aZ (rd h (a.add 0)) λc=>aX c λc=>aS .i64 (rd h (c.add 1)) λc=>aS .i64 (rd h (a.add 3)) λd=>Cl 282 [aA b,ap (ax (c+1)),ar (IntKind.wrap .u64 (ax (d+1)))] h λb c=>b=aE/\bQ (rd c (a.add 6)) λb=>Cl 240 [au a,aD b] c λa b=>a=aE/\K aE b):Cl 354 [au a] h K:=cT F354.T Tryz.func354 H
def F221.spec{a:Addr}(H:aZ (rd h (a.add 0)) λb=>Cl 194 [aA b,ap 0] h λb c=>aS .i64 (some b) λb=>aY c ((a.add 2).add 0) (ap b) λb=>aY b ((a.add 4).add 0) (.func (.func 270) #[au a] #[]) λa=>K aE a):Cl 221 [au a] h K:=cN Tryz.func221 H
def F270.T:bh:=⟨[],[(2,[[(0,[]),(1,[]),(2,[]),(3,[]),(4,[]),(5,[]),(6,[]),(7,[]),(8,[])]])]⟩
def F270.spec{a:Addr}(H:aZ (rd h (a.add 0)) λb=>Cl 194 [aA b,ap 1] h λb c=>aS .i64 (some b) λb=>aY c ((a.add 3).add 0) (ap b) λb=>aY b ((a.add 4).add 0) (.func (.func 301) #[au a] #[]) λb=>aS .i64 (rd b (a.add 2)) λc=>aS .i64 (rd b (a.add 3)) λd=>aJ (c>=d) (Cl 240 [au a,aB] b λa b=>a=aE/\K aE b) (K aE b)):Cl 270 [au a] h K:=cT F270.T Tryz.func270 H
def F301.T:bh:=⟨[],[(0,[[(0,[]),(1,[]),(2,[]),(3,[]),(4,[]),(5,[]),(6,[]),(7,[]),(8,[]),(9,[]),(10,[]),(11,[]),(12,[]),(13,[]),(14,[]),(15,[]),(16,[0,1,2,3,4,5,6,7]),(17,[0]),(18,[]),(19,[]),(20,[])]])]⟩
def F301.spec{a:Addr}(H:aZ (rd h (a.add 0)) λb=>aX b λc=>aZ (rd h (c.add 0)) λd=>aZ (rd h (a.add 0)) λe=>aS .i64 (rd h (a.add 2)) λf=>Cl 283 [aA e,ap f] h λe f=>aS .i64 (some e) λe=>aF (au a)/\aF (au a)/\aF (au a)/\aF (au (a.add 0))/\aZ (rd f (a.add 0)) λg=>aG (aA g) (aA b)/\aX b λb=>aG (au b) (au c)/\aF (au (c.add 0))/\aZ (rd f (c.add 0)) λb=>aG (aA b) (aA d)/\Cl 162 [aA d,ap e] f λb c=>aS .u64 (some b) λb=>aF (au a)/\aY c ((a.add 1).add 0) (ar b) λb=>aY b ((a.add 4).add 0) (.func (.func 335) #[au a] #[]) λa=>K aE a):Cl 301 [au a] h K:=cT F301.T Tryz.func301 H
def F335.T:bh:=⟨[],[(0,[[(0,[]),(1,[]),(2,[]),(3,[]),(4,[]),(5,[]),(6,[]),(7,[]),(8,[]),(9,[]),(10,[]),(11,[]),(12,[]),(13,[]),(14,[]),(15,[]),(16,[]),(17,[]),(18,[]),(19,[]),(20,[]),(21,[]),(22,[]),(23,[]),(24,[]),(25,[]),(26,[]),(27,[0]),(28,[])]])]⟩
def F335.spec{a:Addr}(H:aZ (rd h (a.add 0)) λb=>aX b λb=>aZ (rd h (b.add 0)) λb=>aZ (rd h (a.add 0)) λc=>aX c λc=>aS .i64 (rd h (c.add 1)) λc=>aS .i64 (rd h (a.add 2)) λd=>aS .i64 (rd h (a.add 2)) λe=>Cl 163 [aA b,ap (ax (c+0)),ar (IntKind.wrap .u64 d),ar (IntKind.wrap .u64 (ax (e+1)))] h λb c=>bQ (some b) λb=>aF (au a)/\Cl 240 [au a,aD b] c λa b=>a=aE/\K aE b):Cl 335 [au a] h K:=cT F335.T Tryz.func335 H
def F140.T:bh:=⟨[(3,[0])],[]⟩
section
variable (a:Addr)(h:aI)(K:KK)
def F140.wk3:Prop:=bQ (rd h (a.add 5)) λa=>K (aD a) h
end
def F140.spec{a:Addr}(H:bQ (rd h (a.add 5)) λb=>aJ (!b) (jX (rd h (a.add 4)) λb=>dS Tryz.prog X b [] h λb c=>b=aE/\F140.wk3 a c K) (F140.wk3 a h K)):Cl 140 [au a] h K:=cT F140.T Tryz.func140 H
def F141.spec{a:Addr}(H:bQ (rd h (a.add 5)) λb=>aJ (!b) (K (.tuple #[ar 0,aB]) h) (bQ (rd h (a.add 6)) λb=>aJ (!b) (K (.tuple #[ar 0,aB]) h) (aS .u64 (rd h (a.add 1)) λa=>K (.tuple #[ar a,aC]) h))):Cl 141 [au a] h K:=cN Tryz.func141 H
def F283.T:bh:=⟨[],[(1,[[(0,[]),(1,[]),(2,[]),(3,[]),(4,[]),(5,[]),(6,[]),(7,[]),(8,[]),(9,[]),(10,[]),(11,[]),(12,[])]])]⟩
def F283.spec{a:Addr}(H:aS .i64 (rd h (a.add 1)) λb=>aS .i64 (rd h (a.add 2)) λa=>a≠0/\K (ap (ax ((ax (b+2))+(Int.tmod i a)))) h):Cl 283 [au a,ap i] h K:=cT F283.T Tryz.func283 H
end
namespace A40
def F142.spec(H:bg h (.cells #[.func (.func 143) #[] #[]] 235) λb c=>bg c (.cells #[au a,ar i,ap 0,ap 0,.nilFunc,aB,aB] 272) λa c=>bg c (.cells #[aA none] 172) λc d=>aY d ((aw c).add 0) (au (aw a)) λa=>aZ (rd a (aw c)) λd=>aX d λd=>aY a ((d.add 4).add 0) (.func (.func 193) #[] #[au (aw b),au (aw c)]) λa=>aZ (rd a (aw c)) λb=>K (aA b) a):Cl 142 [au a,ar i,.func (.func 143) #[] #[]] h K:=cN Tryz.func142 H
end A40
namespace A41
def F142.spec(H:bg h (.cells #[.func (.func 220) #[] #[]] 235) λb c=>bg c (.cells #[au a,ar i,ap 0,ap 0,.nilFunc,aB,aB] 272) λa c=>bg c (.cells #[aA none] 172) λc d=>aY d ((aw c).add 0) (au (aw a)) λa=>aZ (rd a (aw c)) λd=>aX d λd=>aY a ((d.add 4).add 0) (.func (.func 193) #[] #[au (aw b),au (aw c)]) λa=>aZ (rd a (aw c)) λb=>K (aA b) a):Cl 142 [au a,ar i,.func (.func 220) #[] #[]] h K:=cN Tryz.func142 H
end A41
namespace A42
def F142.spec(H:bg h (.cells #[.func (.func 221) #[] #[]] 235) λb c=>bg c (.cells #[au a,ar i,ap 0,ap 0,.nilFunc,aB,aB] 272) λa c=>bg c (.cells #[aA none] 172) λc d=>aY d ((aw c).add 0) (au (aw a)) λa=>aZ (rd a (aw c)) λd=>aX d λd=>aY a ((d.add 4).add 0) (.func (.func 193) #[] #[au (aw b),au (aw c)]) λa=>aZ (rd a (aw c)) λb=>K (aA b) a):Cl 142 [au a,ar i,.func (.func 221) #[] #[]] h K:=cN Tryz.func142 H
end A42
def qw(h:aI)(d m base n:Nat):Prop:=At h d [au (aw m),ap (base:Int),ap (n:Int)]
def qw.only(H:qw h t m base n)(O:aM S h h')(ht:t∉S):qw h' t m base n:=At.only H O ht
structure Dc where
 v:Int
 t:Int
 b:Int
 ph:Nat
 done:Bool
 ok:Bool
def Lm:Nat->Nat
 |0=>143
 |1=>195
 |2=>239
 |3=>284
 |4=>220
 |5=>269
 |6=>300
 |7=>333
 |8=>353
 |9=>354
 |10=>334
 |11=>221
 |12=>270
 |13=>301
 |_=>335
def Ka:bR X 143=some cH.go:=by kernel_rfl
def Jw:bR X 195=some cH.go:=by kernel_rfl
def Ix:bR X 239=some cH.go:=by kernel_rfl
def Jk:bR X 284=some cH.go:=by kernel_rfl
def Jn:bR X 220=some cH.go:=by kernel_rfl
def JS:bR X 269=some cH.go:=by kernel_rfl
def Iv:bR X 300=some cH.go:=by kernel_rfl
def Kh:bR X 333=some cH.go:=by kernel_rfl
def Io:bR X 353=some cH.go:=by kernel_rfl
def JA:bR X 354=some cH.go:=by kernel_rfl
def IG:bR X 334=some cH.go:=by kernel_rfl
def HV:bR X 221=some cH.go:=by kernel_rfl
def IO:bR X 270=some cH.go:=by kernel_rfl
def Ig:bR X 301=some cH.go:=by kernel_rfl
def IL:bR X 335=some cH.go:=by kernel_rfl
def Bw:bR X 193=some cH.go:=by kernel_rfl
def oh(ph:Nat):Bool:=ph==0||ph==4||ph==11
def Ll(f bx a ph:Nat):Value:=
 if oh ph then .func (.func 193) #[] #[au (aw bx),au (aw a)]else .func (.func (Lm ph)) #[au (aw f)] #[]
def Cy(f d bx a:Nat)(A:Dc):List Value:=
 [au (aw d),ar A.v,ap A.t,ap A.b,Ll f bx a A.ph,aD A.done,aD A.ok]
structure cV(h:aI)(f d bx by_:Nat)(A:Dc):Prop where
 act:At h f (Cy f d bx by_ A)
 fn:oh A.ph=true->At h bx [.func (.func (Lm A.ph)) #[] #[]]
 me:oh A.ph=true->At h by_ [au (aw f)]
def mJ{cs:List Int}{c:Int}(Q:qw h d m base n)(M:bH h m mc cs ops fails)(hb:base<1000000000)(a:0<=c)(b:c<=1)(hl:base+2<=cs.length)
  (hK: ∀h',bH h' m mc cs (up ops) fails->aM [m,mc] h h'->K (ap (ax (cs.getD (base+c.toNat) 0))) h'):
  Cl 194 [au (aw d),ap c] h K:=by
 apply F194.spec;simp only[aL,LX];refine aQ (by rw[At.rd Q];rfl) (aH (n:=(base:Int)) (by rw[At.rd Q];rfl) ?_);rw[show ax ((base:Int)+c)=((base+c.toNat:Nat):Int) by rw[wrap_i64 ah ah];omega];refine fi M ah ah λh1 M1 O1=>aH rfl ?_;rw[Md];exact hK h1 M1 O1
def dL(base n:Nat)(x:Int):Nat:=base+2+(x.tmod n).toNat
def jT(hn:1<=n)(hx:0<=x):dL base n x<base+2+n:=by unfold dL;rw[Nm hx];have:=Int.emod_lt_of_pos x (by omega:(0:Int)<n);omega
def sB(Q:qw h d m base n)(hb:base<1000000000)(hn:1<=n)(hn2:n<1000000000)(hx:0<=x)(hK:K (ap (dL base n x:Int)) h):
  Cl 283 [au (aw d),ap x] h K:=by
 apply F283.spec;simp only[aL,LX];refine aH (n:=(base:Int)) (by rw[At.rd Q];rfl) (aH (n:=(n:Int)) (by rw[At.rd Q];rfl) ⟨ah,?_⟩)
 have e:x.tmod n=(((x.tmod n).toNat:Nat):Int):=by rw[Nm hx];have:=Int.emod_nonneg x (by omega:(n:Int)≠0);omega
 have a:=jT (base:=base) hn hx;unfold dL at hK a;rw[e,wrap_i64 (n:=(base:Int)+2) ah ah,wrap_i64 ah ah];rw[show((base:Int)+2+((x.tmod n).toNat:Int))=((base+2+(x.tmod n).toNat:Nat):Int) by simp];exact hK
def mC{c:List Value}(H:At h f c)(hl:c.length=7)(hK: ∀h',At h' f ((c.set 5 aC).set 6 (aD ok))->aM [f] h h'->K aE h'):
  Cl 240 [au (aw f),aD ok] h K:=by
 apply F240.spec;simp only[aL,LX,Ma];refine aU H ah rfl λh1 A1 O1 _=>aU A1 (by simp;omega) rfl λh2 A2 O2 _=> ?_;exact hK h2 A2 (O1.trans O2 ak)
def cg(base n:Nat)(cs:List Int)(A:Dc):Dc×List Int:=
 if A.done then(A,cs)else
 match A.ph with
 |0=>({A with b:=ax (cs.getD (base+1) 0),ph:=1},cs)
 |1=>({A with t:=ax (cs.getD base 0),ph:=2,done:=decide (ax (A.b-ax (cs.getD base 0))>=(n:Int)),ok:=if decide (ax (A.b-ax (cs.getD base 0))>=(n:Int))then false else A.ok},cs)
 |2=>({A with ph:=3},cs.set (dL base n A.b) A.v)
 |3=>({A with done:=true,ok:=true},cs.set (base+1) (IntKind.wrap .u64 (ax (A.b+1))))
 |4=>({A with b:=ax (ax (cs.getD (base+1) 0)-1),ph:=5},cs)
 |5=>({A with ph:=6},cs.set (base+1) (IntKind.wrap .u64 A.b))
 |6=>({A with t:=ax (cs.getD base 0),ph:=if decide (ax (cs.getD base 0)>A.b)then 10 else 7},cs)
 |7=>if decide (A.t<A.b)then({A with v:=cs.getD (dL base n A.b) 0,done:=true,ok:=true},cs)else({A with v:=cs.getD (dL base n A.b) 0,ph:=8},cs)
 |8=>if cs.getD base 0=IntKind.wrap .u64 A.t then({A with ok:=true,ph:=9},cs.set base (IntKind.wrap .u64 (ax (A.t+1))))else({A with ok:=false,ph:=9},cs)
 |9=>({A with done:=true},cs.set (base+1) (IntKind.wrap .u64 (ax (A.b+1))))
 |10=>({A with done:=true,ok:=false},cs.set (base+1) (IntKind.wrap .u64 (ax (A.b+1))))
 |11=>({A with t:=ax (cs.getD base 0),ph:=12},cs)
 |12=>({A with b:=ax (cs.getD (base+1) 0),ph:=13,done:=decide (A.t>=ax (cs.getD (base+1) 0)),ok:=if decide (A.t>=ax (cs.getD (base+1) 0))then false else A.ok},cs)
 |13=>({A with v:=cs.getD (dL base n A.t) 0,ph:=14},cs)
 |_=>if cs.getD base 0=IntKind.wrap .u64 A.t then({A with done:=true,ok:=true},cs.set base (IntKind.wrap .u64 (ax (A.t+1))))else({A with done:=true,ok:=false},cs)
def cD(d:Nat)(v t b:Int)(x:Value)(dn ok:Bool):List Value:=[au (aw d),ar v,ap t,ap b,x,aD dn,aD ok]
def nf(g f:Nat):Value:= .func (.func g) #[au (aw f)] #[]
section
variable {h:aI}{f d m mc base n:Nat}{cs:List Int}{ops fails:Int}{K:KK}{v t b:Int}{x:Value}{dn ok:Bool}
variable (Q:qw h d m base n)(M:bH h m mc cs ops fails)(H:At h f (cD d v t b x dn ok))(hb:base<1000000)(hn:1<=n)(hn2:n<1000000)(hl:base+2+n<=cs.length)(d1:f≠d)(d2:f≠m)(d3:f≠mc)(d4:d≠m)(d5:d≠mc)
include Q M H hb hn hl d2 d3
theorem LJ(hK: ∀h',At h' f (cD d v t (ax (cs.getD (base+1) 0)) (nf 195 f) dn ok)->bH h' m mc cs (up ops) fails->aM [f,m,mc] h h'->K aE h'):Cl 143 [au (aw f)] h K:=by apply F143.spec;simp only[aL,LX,Ma];refine aQ (by rw[H.rd];rfl) (mJ Q M ah (by decide) (by decide) ah λh1 M1 O1=>aH rfl ?_);refine aU (H.only O1 (by simp[d2,d3])) (by simp[cD]) rfl λh2 A2 O2 _=>aU A2 (by simp[cD]) rfl λh3 A3 O3 _=> ?_;have O23:=O2.trans O3 ak;exact hK h3 A3 (M1.only O23 (by simp[d2.symm]) (by simp[d3.symm])) ((O1.mono (T:=[f,m,mc]) (by simp+contextual)).trans O23 ak)
theorem LT(hK: ∀h',At h' f (cD d v t (ax (ax (cs.getD (base+1) 0)-1)) (nf 269 f) dn ok)->bH h' m mc cs (up ops) fails->aM [f,m,mc] h h'->K aE h'):Cl 220 [au (aw f)] h K:=by apply F220.spec;simp only[aL,LX,Ma];refine aQ (by rw[H.rd];rfl) (mJ Q M ah (by decide) (by decide) ah λh1 M1 O1=>aH rfl ?_);refine aU (H.only O1 (by simp[d2,d3])) (by simp[cD]) rfl λh2 A2 O2 _=>aU A2 (by simp[cD]) rfl λh3 A3 O3 _=> ?_;have O23:=O2.trans O3 ak;exact hK h3 A3 (M1.only O23 (by simp[d2.symm]) (by simp[d3.symm])) ((O1.mono (T:=[f,m,mc]) (by simp+contextual)).trans O23 ak)
theorem LK(hK: ∀h',At h' f (cD d v (ax (cs.getD base 0)) b (nf 270 f) dn ok)->bH h' m mc cs (up ops) fails->aM [f,m,mc] h h'->K aE h'):Cl 221 [au (aw f)] h K:=by apply F221.spec;simp only[aL,LX,Ma];refine aQ (by rw[H.rd];rfl) (mJ Q M ah (by decide) (by decide) ah λh1 M1 O1=>aH rfl ?_);refine aU (H.only O1 (by simp[d2,d3])) (by simp[cD]) rfl λh2 A2 O2 _=>aU A2 (by simp[cD]) rfl λh3 A3 O3 _=> ?_;have O23:=O2.trans O3 ak;exact hK h3 A3 (M1.only O23 (by simp[d2.symm]) (by simp[d3.symm])) ((O1.mono (T:=[f,m,mc]) (by simp+contextual)).trans O23 ak)
theorem LO(hK: ∀h',At h' f (cD d v t (ax (cs.getD (base+1) 0)) (nf 301 f) (if decide (t>=ax (cs.getD (base+1) 0))then true else dn) (if decide (t>=ax (cs.getD (base+1) 0))then false else ok))->
  bH h' m mc cs (up ops) fails->aM [f,m,mc] h h'->K aE h'):Cl 270 [au (aw f)] h K:=by
 apply F270.spec;simp only[aL,LX,Ma];refine aQ (by rw[H.rd];rfl) (mJ Q M ah (by decide) (by decide) ah λh1 M1 O1=>aH rfl ?_);refine aU (H.only O1 (by simp[d2,d3])) (by simp[cD]) rfl λh2 A2 O2 _=>aU A2 (by simp[cD]) rfl λh3 A3 O3 _=> ?_;have O23:=O2.trans O3 ak;have M3:=M1.only O23 (by simp[d2.symm]) (by simp[d3.symm]);have P3:=(O1.mono (T:=[f,m,mc]) (by simp+contextual)).trans O23 ak;refine aH (n:=t) (by rw[A3.rd];rfl) (aH (n:=ax (cs.getD (base+1) 0)) (by rw[A3.rd];rfl) (aR (λe=> ?_) λe=> ?_))
 ·refine mC A3 (by simp[cD]) λh4 A4 O4=>⟨by trivial,hK h4 ?_ (M3.only O4 (by simp[d2.symm]) (by simp[d3.symm])) (P3.trans O4 ak)⟩;rw[e];exact A4
 ·refine hK h3 ?_ M3 P3;rw[e];exact A3
theorem LQ(hK: ∀h',At h' f (cD d v (ax (cs.getD base 0)) b (if decide (ax (cs.getD base 0)>b)then nf 334 f else nf 333 f) dn ok)->
  bH h' m mc cs (up ops) fails->aM [f,m,mc] h h'->K aE h'):Cl 300 [au (aw f)] h K:=by
 apply F300.spec;simp only[aL,LX,Ma];refine aQ (by rw[H.rd];rfl) (mJ Q M ah (by decide) (by decide) ah λh1 M1 O1=>aH rfl ?_);refine aU (H.only O1 (by simp[d2,d3])) (by simp[cD]) rfl λh2 A2 O2 _=>aU A2 (by simp[cD]) rfl λh3 A3 O3 _=> ?_;have O23:=O2.trans O3 ak;have M3:=M1.only O23 (by simp[d2.symm]) (by simp[d3.symm]);have P3:=(O1.mono (T:=[f,m,mc]) (by simp+contextual)).trans O23 ak;refine aH (n:=ax (cs.getD base 0)) (by rw[A3.rd];rfl) (aH (n:=b) (by rw[A3.rd];rfl) (aR (λe=> ?_) λe=> ?_))
 ·refine aU A3 (by simp[cD]) rfl λh4 A4 O4 _=>hK h4 ?_ (M3.only O4 (by simp[d2.symm]) (by simp[d3.symm])) (P3.trans O4 ak);rw[e];exact A4
 ·refine hK h3 ?_ M3 P3;rw[e];exact A3
theorem LU(hK: ∀h',At h' f (cD d v t b x true true)->bH h' m mc (cs.set (base+1) (IntKind.wrap .u64 (ax (b+1)))) (up ops) fails->aM [f,m,mc] h h'->K aE h'):Cl 284 [au (aw f)] h K:=by apply F284.spec;simp only[aL,LX,Ma];refine aQ (by rw[H.rd];rfl) ?_;simp only[aT,aL,LX];refine aQ (by rw[At.rd Q];rfl) (aQ (by rw[H.rd];rfl) ?_);simp only[aT,aL,LX];refine aH (n:=(base:Int)) (by rw[At.rd Q];rfl) (aH (n:=b) (by rw[H.rd];rfl) ?_);rw[show ax ((base:Int)+1)=((base+1:Nat):Int) by rw[wrap_i64 ah ah];simp];refine gx M ah ah λh1 M1 O1=>⟨rfl,?_⟩;rw[Md]at M1;refine mC (H.only O1 (by simp[d2,d3])) (by simp[cD]) λh2 A2 O2=>⟨rfl,hK h2 A2 (M1.only O2 (by simp[d2.symm]) (by simp[d3.symm])) ((O1.mono (T:=[f,m,mc]) (by simp+contextual)).trans O2 ak)⟩
theorem Lv(hK: ∀h',At h' f (cD d v t b (nf 300 f) dn ok)->bH h' m mc (cs.set (base+1) (IntKind.wrap .u64 b)) (up ops) fails->aM [f,m,mc] h h'->K aE h'):Cl 269 [au (aw f)] h K:=by apply F269.spec;simp only[aL,LX,Ma];refine aQ (by rw[H.rd];rfl) ?_;simp only[aT,aL,LX];refine aQ (by rw[At.rd Q];rfl) (aQ (by rw[H.rd];rfl) ?_);simp only[aT,aL,LX];refine aH (n:=(base:Int)) (by rw[At.rd Q];rfl) (aH (n:=b) (by rw[H.rd];rfl) ?_);rw[show ax ((base:Int)+1)=((base+1:Nat):Int) by rw[wrap_i64 ah ah];simp];refine gx M ah ah λh1 M1 O1=>⟨rfl,?_⟩;rw[Md]at M1;refine aU (H.only O1 (by simp[d2,d3])) (by simp[cD]) rfl λh2 A2 O2 _=> ?_;exact hK h2 A2 (M1.only O2 (by simp[d2.symm]) (by simp[d3.symm])) ((O1.mono (T:=[f,m,mc]) (by simp+contextual)).trans O2 ak)
theorem Ji(hK: ∀h',At h' f (cD d v t b x true ok)->bH h' m mc (cs.set (base+1) (IntKind.wrap .u64 (ax (b+1)))) (up ops) fails->aM [f,m,mc] h h'->K aE h'):Cl 354 [au (aw f)] h K:=by apply F354.spec;simp only[aL,LX,Ma];refine aQ (by rw[H.rd];rfl) ?_;simp only[aT,aL,LX];refine aQ (by rw[At.rd Q];rfl) (aQ (by rw[H.rd];rfl) ?_);simp only[aT,aL,LX];refine aH (n:=(base:Int)) (by rw[At.rd Q];rfl) (aH (n:=b) (by rw[H.rd];rfl) ?_);rw[show ax ((base:Int)+1)=((base+1:Nat):Int) by rw[wrap_i64 ah ah];simp];refine gx M ah ah λh1 M1 O1=>⟨rfl,?_⟩;rw[Md]at M1;have H1:=H.only O1 (by simp[d2,d3]);refine a8 (n:=ok) (by rw[H1.rd];rfl) (mC H1 (by simp[cD]) λh2 A2 O2=>⟨rfl,hK h2 A2 (M1.only O2 (by simp[d2.symm]) (by simp[d3.symm])) ((O1.mono (T:=[f,m,mc]) (by simp+contextual)).trans O2 ak)⟩)
theorem LS(hT:cs.getD base 0=IntKind.wrap .u64 t-> ∀h',At h' f (cD d v t b (nf 354 f) dn true)->bH h' m mc (cs.set base (IntKind.wrap .u64 (ax (t+1)))) (up ops) fails->aM [f,m,mc] h h'->K aE h')
  (hF:cs.getD base 0≠IntKind.wrap .u64 t-> ∀h' a,At h' f (cD d v t b (nf 354 f) dn false)->bH h' m mc cs (up ops) a->aM [f,m,mc] h h'->K aE h'):Cl 353 [au (aw f)] h K:=by
 apply F353.spec;simp only[aL,LX,Ma];refine aQ (by rw[H.rd];rfl) ?_;simp only[aT,aL,LX];refine aQ (by rw[At.rd Q];rfl) (aQ (by rw[H.rd];rfl) ?_);simp only[aT,aL,LX];refine aH (n:=(base:Int)) (by rw[At.rd Q];rfl) (aH (n:=t) (by rw[H.rd];rfl) (aH (n:=t) (by rw[H.rd];rfl) ?_));rw[show ax ((base:Int)+0)=(base:Int) by rw[wrap_i64 ah ah];simp];refine oW M ah ah (λe h1 M1 O1=>a8 rfl ⟨by trivial,?_⟩) λe h1 M1 O1=>a8 rfl ⟨by trivial,?_⟩
 all_goals
  rw[Md]at e;refine aU (H.only O1 (by simp[d2,d3])) (by simp[cD]) rfl λh2 A2 O2 _=>aU A2 (by simp[cD]) rfl λh3 A3 O3 _=> ?_;have O23:=O2.trans O3 ak;have M3:=M1.only O23 (by simp[d2.symm]) (by simp[d3.symm]);have P3:=(O1.mono (T:=[f,m,mc]) (by simp+contextual)).trans O23 ak
 ·rw[Md]at M3;exact hT e h3 A3 M3 P3
 ·exact hF e h3 _ A3 M3 P3
theorem LH(hT:cs.getD base 0=IntKind.wrap .u64 t-> ∀h',At h' f (cD d v t b x true true)->bH h' m mc (cs.set base (IntKind.wrap .u64 (ax (t+1)))) (up ops) fails->aM [f,m,mc] h h'->K aE h')
  (hF:cs.getD base 0≠IntKind.wrap .u64 t-> ∀h' a,At h' f (cD d v t b x true false)->bH h' m mc cs (up ops) a->aM [f,m,mc] h h'->K aE h'):Cl 335 [au (aw f)] h K:=by
 apply F335.spec;simp only[aL,LX,Ma];refine aQ (by rw[H.rd];rfl) ?_;simp only[aT,aL,LX];refine aQ (by rw[At.rd Q];rfl) (aQ (by rw[H.rd];rfl) ?_);simp only[aT,aL,LX];refine aH (n:=(base:Int)) (by rw[At.rd Q];rfl) (aH (n:=t) (by rw[H.rd];rfl) (aH (n:=t) (by rw[H.rd];rfl) ?_));rw[show ax ((base:Int)+0)=(base:Int) by rw[wrap_i64 ah ah];simp];refine oW M ah ah (λe h1 M1 O1=>a8 rfl ⟨by trivial,?_⟩) λe h1 M1 O1=>a8 rfl ⟨by trivial,?_⟩
 all_goals
  rw[Md]at e;refine mC (H.only O1 (by simp[d2,d3])) (by simp[cD]) λh2 A2 O2=>⟨by trivial,?_⟩;have M3:=M1.only O2 (by simp[d2.symm]) (by simp[d3.symm]);have P3:=(O1.mono (T:=[f,m,mc]) (by simp+contextual)).trans O2 ak
 ·rw[Md]at M3;exact hT e h2 A2 M3 P3
 ·exact hF e h2 _ A2 M3 P3
include d1 d4 d5
theorem LN(hK: ∀h',At h' f (cD d v (ax (cs.getD base 0)) b (nf 239 f) (if decide (ax (b-ax (cs.getD base 0))>=(n:Int))then true else dn) (if decide (ax (b-ax (cs.getD base 0))>=(n:Int))then false else ok))->
  bH h' m mc cs (up ops) fails->aM [f,m,mc] h h'->K aE h'):Cl 195 [au (aw f)] h K:=by
 apply F195.spec;simp only[aL,LX,Ma];refine aQ (by rw[H.rd];rfl) (mJ Q M ah (by decide) (by decide) ah λh1 M1 O1=>aH rfl ?_);refine aU (H.only O1 (by simp[d2,d3])) (by simp[cD]) rfl λh2 A2 O2 _=>aU A2 (by simp[cD]) rfl λh3 A3 O3 _=> ?_;have O23:=O2.trans O3 ak;have M3:=M1.only O23 (by simp[d2.symm]) (by simp[d3.symm]);have P3:=(O1.mono (T:=[f,m,mc]) (by simp+contextual)).trans O23 ak;have Q3:=Q.only P3 (by simp[d1.symm,d4,d5]);refine aH (n:=b) (by rw[A3.rd];rfl) (aH (n:=ax (cs.getD base 0)) (by rw[A3.rd];rfl) (aQ (by rw[A3.rd];rfl) ?_));simp only[aT,aL,LX];refine aH (n:=(n:Int)) (by rw[At.rd Q3];rfl) (aR (λe=> ?_) λe=> ?_)
 ·refine mC A3 (by simp[cD]) λh4 A4 O4=>⟨by trivial,hK h4 ?_ (M3.only O4 (by simp[d2.symm]) (by simp[d3.symm])) (P3.trans O4 ak)⟩;rw[e];exact A4
 ·refine hK h3 ?_ M3 P3;rw[e];exact A3
end
section
variable {h:aI}{f d m mc base n:Nat}{cs:List Int}{ops fails:Int}{K:KK}{v t b:Int}{x:Value}{dn ok:Bool}
variable (Q:qw h d m base n)(M:bH h m mc cs ops fails)(H:At h f (cD d v t b x dn ok))(hb:base<1000000)(hn:1<=n)(hn2:n<1000000)(hl:base+2+n<=cs.length)(d1:f≠d)(d2:f≠m)(d3:f≠mc)(d4:d≠m)(d5:d≠mc)
include Q M H hb hn hn2 hl d2 d3
theorem LC(hp:0<=b)(hK: ∀h',At h' f (cD d v t b (nf 284 f) dn ok)->bH h' m mc (cs.set (dL base n b) v) (up ops) fails->aM [f,m,mc] h h'->K aE h'):Cl 239 [au (aw f)] h K:=by
 have a:=jT (base:=base) hn hp;apply F239.spec;simp only[aL,LX,Ma];have r0:rd h (aw f)=some (au (aw d)):=by rw[H.rd];rfl
 have rm:rd h (aw d)=some (au (aw m)):=by rw[At.rd Q];rfl
 refine aQ r0 ?_;simp only[aT,aL,LX];refine aQ rm (aQ r0 (aH (n:=b) (by rw[H.rd];rfl) (aH (n:=v) (by rw[H.rd];rfl) (sB Q ah hn ah hp (aH rfl ⟨by trivial,by trivial,by trivial,aQ r0 ⟨by trivial,?_⟩⟩)))));refine⟨by trivial,by trivial,aQ rm ⟨by trivial,by trivial,by trivial,by trivial,aH (n:=v) (by rw[H.rd];rfl) ⟨rfl,?_⟩⟩⟩;refine gx M ah ah λh1 M1 O1=>⟨rfl,?_⟩;rw[Md]at M1;refine aU (H.only O1 (by simp[d2,d3])) (by simp[cD]) rfl λh2 A2 O2 _=> ?_;exact hK h2 A2 (M1.only O2 (by simp[d2.symm]) (by simp[d3.symm])) ((O1.mono (T:=[f,m,mc]) (by simp+contextual)).trans O2 ak)
theorem LR(hp:0<=b)(hT:t<b-> ∀h',At h' f (cD d (cs.getD (dL base n b) 0) t b x true true)->bH h' m mc cs (up ops) fails->aM [f,m,mc] h h'->K aE h')
  (hF: ¬t<b-> ∀h',At h' f (cD d (cs.getD (dL base n b) 0) t b (nf 353 f) dn ok)->bH h' m mc cs (up ops) fails->aM [f,m,mc] h h'->K aE h'):Cl 333 [au (aw f)] h K:=by
 have a:=jT (base:=base) hn hp;apply F333.spec;simp only[aL,LX,Ma];have r0:rd h (aw f)=some (au (aw d)):=by rw[H.rd];rfl
 have rm:rd h (aw d)=some (au (aw m)):=by rw[At.rd Q];rfl
 refine aQ r0 ?_;simp only[aT,aL,LX];refine aQ rm (aQ r0 (aH (n:=b) (by rw[H.rd];rfl) (sB Q ah hn ah hp (aH rfl ⟨by trivial,by trivial,by trivial,by trivial,aQ r0 ⟨by trivial,?_⟩⟩))));refine⟨by trivial,by trivial,aQ rm ⟨by trivial,fi M ah ah λh1 M1 O1=>aH rfl ⟨by trivial,?_⟩⟩⟩;rw[Md];refine aU (H.only O1 (by simp[d2,d3])) (by simp[cD]) rfl λh2 A2 O2 _=> ?_;have M2:=M1.only O2 (by simp[d2.symm]) (by simp[d3.symm]);have P2:=(O1.mono (T:=[f,m,mc]) (by simp+contextual)).trans O2 ak;refine aH (n:=t) (by rw[A2.rd];rfl) (aH (n:=b) (by rw[A2.rd];rfl) (aR (λe=> ?_) λe=> ?_))
 ·refine mC A2 (by simp[cD]) λh3 A3 O3=>⟨rfl,hT (Mn e) h3 A3 (M2.only O3 (by simp[d2.symm]) (by simp[d3.symm])) (P2.trans O3 ak)⟩
 ·refine aU A2 (by simp[cD]) rfl λh3 A3 O3 _=> ?_;exact hF (Me e) h3 A3 (M2.only O3 (by simp[d2.symm]) (by simp[d3.symm])) (P2.trans O3 ak)
theorem Lw(hp:0<=t)(hK: ∀h',At h' f (cD d (cs.getD (dL base n t) 0) t b (nf 335 f) dn ok)->bH h' m mc cs (up ops) fails->aM [f,m,mc] h h'->K aE h'):Cl 301 [au (aw f)] h K:=by
 have a:=jT (base:=base) hn hp;apply F301.spec;simp only[aL,LX,Ma];have r0:rd h (aw f)=some (au (aw d)):=by rw[H.rd];rfl
 have rm:rd h (aw d)=some (au (aw m)):=by rw[At.rd Q];rfl
 refine aQ r0 ?_;simp only[aT,aL,LX];refine aQ rm (aQ r0 (aH (n:=t) (by rw[H.rd];rfl) (sB Q ah hn ah hp (aH rfl ⟨by trivial,by trivial,by trivial,by trivial,aQ r0 ⟨by trivial,?_⟩⟩))));refine⟨by trivial,by trivial,aQ rm ⟨by trivial,fi M ah ah λh1 M1 O1=>aH rfl ⟨by trivial,?_⟩⟩⟩;rw[Md];refine aU (H.only O1 (by simp[d2,d3])) (by simp[cD]) rfl λh2 A2 O2 _=>aU A2 (by simp[cD]) rfl λh3 A3 O3 _=> ?_;have O23:=O2.trans O3 ak;exact hK h3 A3 (M1.only O23 (by simp[d2.symm]) (by simp[d3.symm])) ((O1.mono (T:=[f,m,mc]) (by simp+contextual)).trans O23 ak)
omit hn2
include d1
theorem LE(hK: ∀h',At h' f (cD d v t b x true false)->bH h' m mc (cs.set (base+1) (IntKind.wrap .u64 (ax (b+1)))) (up ops) fails->aM [f,m,mc] h h'->K aE h'):Cl 334 [au (aw f)] h K:=by apply F334.spec;simp only[aL,LX,Ma];refine aU H (by simp[cD]) rfl λh1 A1 O1 _=> ?_;have A1:At h1 f (cD d v t b x dn false):=A1;refine Ji (Q.only O1 (by simp[d1.symm])) (M.only O1 (by simp[d2.symm]) (by simp[d3.symm])) A1 hb hn hl d2 d3 λh2 A2 M2 O2=>⟨rfl,hK h2 A2 M2 ?_⟩;exact(O1.mono (T:=[f,m,mc]) (by simp+contextual)).trans O2 ak
end
def F93.spec(H:Cl 142 [au a,ar i,.func (.func 143) #[] #[]] h λa b=>aZ (some a) λa=>K (aA a) b):Cl 93 [au a,ar i] h K:=cN Tryz.func93 H
def F177.spec(H:Cl 142 [au a,ar 0,.func (.func 220) #[] #[]] h λa b=>aZ (some a) λa=>K (aA a) b):Cl 177 [au a] h K:=cN Tryz.func177 H
def F178.spec(H:Cl 142 [au a,ar 0,.func (.func 221) #[] #[]] h λa b=>aZ (some a) λa=>K (aA a) b):Cl 178 [au a] h K:=cN Tryz.func178 H
def ye{cs:List Int}:(cg base n cs A).2.length=cs.length:=by
 unfold cg
 repeat' split
 all_goals simp
def cV.of{A:Dc}(H:At h f (Cy f d bx by_ A))(e:oh A.ph=false):cV h f d bx by_ A:=
 ⟨H,(λe'=>by rw[e]at e';cases e'),(λe'=>by rw[e]at e';cases e')⟩
def Ks(F:At h bx [.func (.func g) #[] #[]])(B:At h by_ [au (aw f)])(hg:bR X g=some .go)
  (hK:Cl g [au (aw f)] h (λv h'=>v=aE/\K aE h')):
  Cl 193 [au (aw bx),au (aw by_)] h K:=by
 apply F193.spec;refine⟨_,by rw[F.rd];rfl,aQ (by rw[B.rd];rfl) (bj hg ?_)⟩;simpa using hK
def wo{cs:List Int}{A:Dc}(Q:qw h d m base n)(M:bH h m mc cs ops fails)(H:cV h f d bx by_ A)(hb:base<1000000)(hn:1<=n)(hn2:n<1000000)(hl:base+2+n<=cs.length)(d1:f≠d)(d2:f≠m)(d3:f≠mc)(d4:d≠m)(d5:d≠mc)
  (i:A.ph<=14) (g:A.ph=2\/A.ph=7->0<=A.b) (j:A.ph=13->0<=A.t)
  (hK: ∀h' c,cV h' f d bx by_ (cg base n cs A).1->bH h' m mc (cg base n cs A).2 (if A.done then ops else up ops) c->aM [f,m,mc] h h'->K (aD (cg base n cs A).1.done) h'):
  Cl 140 [au (aw f)] h K:=by
 apply F140.spec;simp only[aL,LX];obtain⟨v,t,b,ph,dn,ok⟩:=A;have H0:At h f (cD d v t b (Ll f bx by_ ph) dn ok):=H.act;refine a8 (n:=dn) (by rw[H0.rd];rfl) ?_
 have a: ∀h' c,cV h' f d bx by_ (cg base n cs ⟨v,t,b,ph,dn,ok⟩).1->bH h' m mc (cg base n cs ⟨v,t,b,ph,dn,ok⟩).2 (if dn then ops else up ops) c->aM [f,m,mc] h h'->F140.wk3 (aw f) h' K:=by intro h' c a1 a2 a3;unfold F140.wk3;simp only[aL,LX];exact a8 (by rw[a1.act.rd];rfl) (hK h' c a1 a2 a3)
 clear hK;dsimp only at i g j;cases dn with
 |true=>
  rw[MF,aK];exact a h fails H M (aM.refl _ _)
 |false=>
  rw[MS,aO];simp only[cg,MD,Nf]at a;refine⟨_,by rw[H0.rd];rfl,?_⟩
  match ph,i,H,H0,a,g,j with
  |0,_,H,H0,a,_,_=>
   refine bj Bw (Ks (H.fn rfl) (H.me rfl) Ka (LJ Q M H0 hb hn hl d2 d3 λh1 A1 M1 O1=>⟨rfl,rfl,a h1 _ (cV.of A1 rfl) M1 O1⟩))
  |1,_,H,H0,a,_,_=>
   refine bj Jw (LN Q M H0 hb hn hl d1 d2 d3 d4 d5 λh1 A1 M1 O1=>⟨rfl,a h1 _ (cV.of ?_ rfl) M1 O1⟩);show At h1 f (cD d v _ b (nf 239 f) (decide _) _);simpa using A1
  |2,_,H,H0,a,hp,_=>
   exact bj Ix (LC Q M H0 hb hn hn2 hl d2 d3 (hp (Or.inl rfl)) λh1 A1 M1 O1=>⟨rfl,a h1 _ (cV.of A1 rfl) M1 O1⟩)
  |3,_,H,H0,a,_,_=>
   exact bj Jk (LU Q M H0 hb hn hl d2 d3 λh1 A1 M1 O1=>⟨rfl,a h1 _ (cV.of A1 rfl) M1 O1⟩)
  |4,_,H,H0,a,_,_=>
   refine bj Bw (Ks (H.fn rfl) (H.me rfl) Jn (LT Q M H0 hb hn hl d2 d3 λh1 A1 M1 O1=>⟨rfl,rfl,a h1 _ (cV.of A1 rfl) M1 O1⟩))
  |5,_,H,H0,a,_,_=>
   exact bj JS (Lv Q M H0 hb hn hl d2 d3 λh1 A1 M1 O1=>⟨rfl,a h1 _ (cV.of A1 rfl) M1 O1⟩)
  |6,_,H,H0,a,_,_=>
   refine bj Iv (LQ Q M H0 hb hn hl d2 d3 λh1 A1 M1 O1=>⟨rfl,?_⟩);refine a h1 _ ?_ M1 O1;cases hd:decide (ax (cs.getD base 0)>b)with
   |true=>
    rw[hd]at A1;exact cV.of A1 rfl
   |false=>
    rw[hd]at A1;exact cV.of A1 rfl
  |7,_,H,H0,a,hp,_=>
   refine bj Kh (LR Q M H0 hb hn hn2 hl d2 d3 (hp (Or.inr rfl)) (λe h1 A1 M1 O1=>⟨rfl,?_⟩) λe h1 A1 M1 O1=>⟨rfl,?_⟩)
   ·exact a h1 _ (by
     show cV h1 f d bx by_ (ite _ _ _:Dc×List Int).1;rw[L4 (Mg e)];exact cV.of A1 rfl) (by
     show bH h1 m mc (ite _ _ _:Dc×List Int).2 _ _;rw[L4 (Mg e)];exact M1) O1
   ·exact a h1 _ (by
     show cV h1 f d bx by_ (ite _ _ _:Dc×List Int).1;rw[LY (by simpa using e)];exact cV.of A1 rfl) (by
     show bH h1 m mc (ite _ _ _:Dc×List Int).2 _ _;rw[LY (by simpa using e)];exact M1) O1
  |8,_,H,H0,a,_,_=>
   refine bj Io (LS Q M H0 hb hn hl d2 d3 (λe h1 A1 M1 O1=>⟨rfl,?_⟩) λe h1 c A1 M1 O1=>⟨rfl,?_⟩)
   ·exact a h1 _ (by
     show cV h1 f d bx by_ (ite _ _ _:Dc×List Int).1;rw[L4 e];exact cV.of A1 rfl) (by
     show bH h1 m mc (ite _ _ _:Dc×List Int).2 _ _;rw[L4 e];exact M1) O1
   ·exact a h1 _ (by
     show cV h1 f d bx by_ (ite _ _ _:Dc×List Int).1;rw[LY e];exact cV.of A1 rfl) (by
     show bH h1 m mc (ite _ _ _:Dc×List Int).2 _ _;rw[LY e];exact M1) O1
  |9,_,H,H0,a,_,_=>
   exact bj JA (Ji Q M H0 hb hn hl d2 d3 λh1 A1 M1 O1=>⟨rfl,a h1 _ (cV.of A1 rfl) M1 O1⟩)
  |10,_,H,H0,a,_,_=>
   exact bj IG (LE Q M H0 hb hn hl d1 d2 d3 λh1 A1 M1 O1=>⟨rfl,a h1 _ (cV.of A1 rfl) M1 O1⟩)
  |11,_,H,H0,a,_,_=>
   refine bj Bw (Ks (H.fn rfl) (H.me rfl) HV (LK Q M H0 hb hn hl d2 d3 λh1 A1 M1 O1=>⟨rfl,rfl,a h1 _ (cV.of A1 rfl) M1 O1⟩))
  |12,_,H,H0,a,_,_=>
   refine bj IO (LO Q M H0 hb hn hl d2 d3 λh1 A1 M1 O1=>⟨rfl,a h1 _ (cV.of ?_ rfl) M1 O1⟩);show At h1 f (cD d v t _ (nf 301 f) (decide _) _);simpa using A1
  |13,_,H,H0,a,_,hp=>
   exact bj Ig (Lw Q M H0 hb hn hn2 hl d2 d3 (hp rfl) λh1 A1 M1 O1=>⟨rfl,a h1 _ (cV.of A1 rfl) M1 O1⟩)
  |14,_,H,H0,a,_,_=>
   refine bj IL (LH Q M H0 hb hn hl d2 d3 (λe h1 A1 M1 O1=>⟨rfl,?_⟩) λe h1 c A1 M1 O1=>⟨rfl,?_⟩)
   ·exact a h1 _ (by
     show cV h1 f d bx by_ (ite _ _ _:Dc×List Int).1;rw[L4 e];exact cV.of A1 rfl) (by
     show bH h1 m mc (ite _ _ _:Dc×List Int).2 _ _;rw[L4 e];exact M1) O1
   ·exact a h1 _ (by
     show cV h1 f d bx by_ (ite _ _ _:Dc×List Int).1;rw[LY e];exact cV.of A1 rfl) (by
     show bH h1 m mc (ite _ _ _:Dc×List Int).2 _ _;rw[LY e];exact M1) O1
structure DW(h:aI)(d m mc base n:Nat)(cs:List Int)(ops fails:Int):Prop where
 deq:qw h d m base n
 mem:bH h m mc cs ops fails
 d4:d≠m
 d5:d≠mc
 hn:1<=n
 hn2:n<=256
 hb:base<100000
 hl:base+2+n<=cs.length
def DW.only(W:DW h d m mc base n cs ops fails)(O:aM S h h')(h1:d∉S)(h2:m∉S)(h3:mc∉S):DW h' d m mc base n cs ops fails:=
 ⟨W.deq.only O h1,W.mem.only O h2 h3,W.d4,W.d5,W.hn,W.hn2,W.hb,W.hl⟩
def DW.lt{h:aI}(W:DW h d m mc base n cs ops fails):d<h.size/\m<h.size/\mc<h.size:=⟨At.lt W.deq,W.mem.head.lt,W.mem.body.lt⟩
def AM{A:Dc}(W:DW h d m mc base n cs ops fails)(H:cV h f d bx by_ A)(d1:f≠d)(d2:f≠m)(d3:f≠mc)(e:A.ph<=14)(i:A.ph=2\/A.ph=7->0<=A.b)(g:A.ph=13->0<=A.t)
  (hK: ∀h' c,cV h' f d bx by_ (cg base n cs A).1->DW h' d m mc base n (cg base n cs A).2 (if A.done then ops else up ops) c->aM [f,m,mc] h h'->K (aD (cg base n cs A).1.done) h'):
  Cl 140 [au (aw f)] h K:=
 wo W.deq W.mem H (Nt W.hb (by decide)) W.hn (OV W.hn2 (by decide)) W.hl d1 d2 d3 W.d4 W.d5 e i g λh' c a b O=>
  hK h' c a ⟨W.deq.only O (by simp[d1.symm,W.d4,W.d5]),b,W.d4,W.d5,W.hn,W.hn2,W.hb,by rw[ye];exact W.hl⟩ O
def JV{h:aI}(hK: ∀f bx by_ h',cV h' f d bx by_ ⟨v,0,0,0,false,false⟩->aM [] h h'->h.size<=f->h.size<=bx->h.size<=by_->f<h'.size->bx<h'.size->by_<h'.size->f≠bx->f≠by_->bx≠by_->K (au (aw f)) h'):
  Cl 142 [au (aw d),ar v,.func (.func 143) #[] #[]] h K:=by
 apply A40.F142.spec;refine aW λh1 A1 O1 z1=>aW λh2 A2 O2 z2=>aW λh3 A3 O3 z3=> ?_;simp only[aL,LX];refine aU A3 ak rfl λh4 A4 O4 z4=>aQ (by rw[A4.rd];rfl) ?_;simp only[aT,aL,LX,Ma];have B4:=((A2.only O3 ak).only O4 (by simp;omega));have C4:=(((A1.only O2 ak).only O3 ak).only O4 (by simp;omega));refine aU B4 ak rfl λh5 A5 O5 z5=>aQ (n:=some (aw h1.size)) (by rw[(A4.only O5 (by simp;omega)).rd];rfl) ?_;have P5:aM [] h h5:=(((O1.trans O2 ak).trans O3 ak).trans O4 λb hb hl=>Mw (show b=h2.size by simpa using hb) ah).trans O5 λb hb hl=>Mw (show b=h1.size by simpa using hb) ah;refine hK h1.size h.size h2.size h5 ⟨A5,λ_=>C4.only O5 (by simp;omega),λ_=>A4.only O5 (by simp;omega)⟩ P5 ah ah ah ah ah ah ah ah ah
def HL{h:aI}(hK: ∀f bx by_ h',cV h' f d bx by_ ⟨v,0,0,4,false,false⟩->aM [] h h'->h.size<=f->h.size<=bx->h.size<=by_->f<h'.size->bx<h'.size->by_<h'.size->f≠bx->f≠by_->bx≠by_->K (au (aw f)) h'):
  Cl 142 [au (aw d),ar v,.func (.func 220) #[] #[]] h K:=by
 apply A41.F142.spec;refine aW λh1 A1 O1 z1=>aW λh2 A2 O2 z2=>aW λh3 A3 O3 z3=> ?_;simp only[aL,LX];refine aU A3 ak rfl λh4 A4 O4 z4=>aQ (by rw[A4.rd];rfl) ?_;simp only[aT,aL,LX,Ma];have B4:=((A2.only O3 ak).only O4 (by simp;omega));have C4:=(((A1.only O2 ak).only O3 ak).only O4 (by simp;omega));refine aU B4 ak rfl λh5 A5 O5 z5=>aQ (n:=some (aw h1.size)) (by rw[(A4.only O5 (by simp;omega)).rd];rfl) ?_;have P5:aM [] h h5:=(((O1.trans O2 ak).trans O3 ak).trans O4 λb hb hl=>Mw (show b=h2.size by simpa using hb) ah).trans O5 λb hb hl=>Mw (show b=h1.size by simpa using hb) ah;refine hK h1.size h.size h2.size h5 ⟨A5,λ_=>C4.only O5 (by simp;omega),λ_=>A4.only O5 (by simp;omega)⟩ P5 ah ah ah ah ah ah ah ah ah
def Iy{h:aI}(hK: ∀f bx by_ h',cV h' f d bx by_ ⟨v,0,0,11,false,false⟩->aM [] h h'->h.size<=f->h.size<=bx->h.size<=by_->f<h'.size->bx<h'.size->by_<h'.size->f≠bx->f≠by_->bx≠by_->K (au (aw f)) h'):
  Cl 142 [au (aw d),ar v,.func (.func 221) #[] #[]] h K:=by
 apply A42.F142.spec;refine aW λh1 A1 O1 z1=>aW λh2 A2 O2 z2=>aW λh3 A3 O3 z3=> ?_;simp only[aL,LX];refine aU A3 ak rfl λh4 A4 O4 z4=>aQ (by rw[A4.rd];rfl) ?_;simp only[aT,aL,LX,Ma];have B4:=((A2.only O3 ak).only O4 (by simp;omega));have C4:=(((A1.only O2 ak).only O3 ak).only O4 (by simp;omega));refine aU B4 ak rfl λh5 A5 O5 z5=>aQ (n:=some (aw h1.size)) (by rw[(A4.only O5 (by simp;omega)).rd];rfl) ?_;have P5:aM [] h h5:=(((O1.trans O2 ak).trans O3 ak).trans O4 λb hb hl=>Mw (show b=h2.size by simpa using hb) ah).trans O5 λb hb hl=>Mw (show b=h1.size by simpa using hb) ah;refine hK h1.size h.size h2.size h5 ⟨A5,λ_=>C4.only O5 (by simp;omega),λ_=>A4.only O5 (by simp;omega)⟩ P5 ah ah ah ah ah ah ah ah ah
def CM{h:aI}(hK: ∀f bx by_ h',cV h' f d bx by_ ⟨v,0,0,0,false,false⟩->aM [] h h'->h.size<=f->h.size<=bx->h.size<=by_->f<h'.size->bx<h'.size->by_<h'.size->f≠bx->f≠by_->bx≠by_->K (au (aw f)) h'):
  Cl 93 [au (aw d),ar v] h K:=by
 apply F93.spec;exact JV λf bx by_ h' a b c e g i j k l m o=>aQ rfl (hK f bx by_ h' a b c e g i j k l m o)
def GS{h:aI}(hK: ∀f bx by_ h',cV h' f d bx by_ ⟨0,0,0,4,false,false⟩->aM [] h h'->h.size<=f->h.size<=bx->h.size<=by_->f<h'.size->bx<h'.size->by_<h'.size->f≠bx->f≠by_->bx≠by_->K (au (aw f)) h'):
  Cl 177 [au (aw d)] h K:=by
 apply F177.spec;exact HL λf bx by_ h' a b c e g i j k l m o=>aQ rfl (hK f bx by_ h' a b c e g i j k l m o)
def Cq{h:aI}(hK: ∀f bx by_ h',cV h' f d bx by_ ⟨0,0,0,11,false,false⟩->aM [] h h'->h.size<=f->h.size<=bx->h.size<=by_->f<h'.size->bx<h'.size->by_<h'.size->f≠bx->f≠by_->bx≠by_->K (au (aw f)) h'):
  Cl 178 [au (aw d)] h K:=by
 apply F178.spec;exact Iy λf bx by_ h' a b c e g i j k l m o=>aQ rfl (hK f bx by_ h' a b c e g i j k l m o)
def jt(A:Dc):Int:=if A.done&&A.ok then A.v else 0
def i5(A:Dc):Bool:=A.done&&A.ok
def ya(H:cV h f d bx by_ A)(hK:K (.tuple #[ar (jt A),aD (i5 A)]) h):Cl 141 [au (aw f)] h K:=by
 apply F141.spec;simp only[aL,LX];unfold jt i5 at hK;refine a8 (n:=A.done) (by rw[H.act.rd];rfl) (aR (λe=> ?_) λe=>a8 (n:=A.ok) (by rw[H.act.rd];rfl) (aR (λe'=> ?_) λe'=>aH (n:=A.v) (by rw[H.act.rd];rfl) ?_))
 ·have e:A.done=false:=by simpa using e
  simpa[e]using hK
 ·have e:A.done=true:=by simpa using e
  have e':A.ok=false:=by simpa using e'
  simpa[e,e']using hK
 ·have e:A.done=true:=by simpa using e
  have e':A.ok=true:=by simpa using e'
  simpa[e,e']using hK
def nH(h0:1<=k)(h1:k<1000000)(hK:K (ap (k+2)) h):Cl 90 [ap k] h K:=by apply F90.spec;rw[L7 ah,aK,wrap_i64 ah ah];exact hK
def uV{h:aI}{cs:List Int}(M:bH h m mc cs ops fails)(hn:1<=n)(hn2:n<=256)(hb:base+2+n<=cs.length)(hc:cs.length<100000)
  (hK: ∀c h',qw h' c m base n->aM [] h h'->h.size<=c->K (.tuple #[au (aw c),ap 0]) h'):
  Cl 88 [au (aw m),ap (base:Int),ap (n:Int)] h K:=by
 apply F88.spec;rw[L7 ah,aK,L7 ah,aK,L7 ah,aK];refine io M (aH rfl ?_);rw[L7 ah,aK];refine nH ah ah (aH rfl (io M (aH rfl ?_)));rw[wrap_i64 ah ah,L7 ah,aK];exact aW λh1 A1 O1 z1=>hK h.size h1 A1 O1 (Mb _)
section
variable {i j k l m n o p q r s t:Int}{a b c d:Addr}{u v:Nat}{x y:az}{h:aI}{K:KK}
def F34.T:bh:=⟨[(3,[5,14,15])],[]⟩
section
variable (n:Nat)(f:Addr)(d:Int)(c:Addr)(a b:Int)(h:aI)(K:KK)
def F34.wL3:Prop:=Lp Tryz.f34 F34.T [1,1,0,1,0] n [(5,(au c)),(14,(ap a)),(15,(ap b))] h K
def F34.sL3:F34.wL3 (n+1) c a b h K=(aJ (b<a) (Cl 90 [ap 64] h λd e=>aS .i64 (some d) λd=>Cl 89 [ap d] e λd e=>aZ (some d) λd=>Cl 88 [aA d,ap 0,ap 64] e λd e=> ∃f:az,∃g:Int,d=(.tuple #[aA f,ap g])/\cF (rd e (c.add 1)) λd g i=>bg e (.cells #[aA f,ap 0] 166) λe f=>bg f (.cells #[au (aw e)] 164) λe f=>fQ f 164 1 8 #[aA none] d g i (some (aw e)) 1 λd e f g=>aY g ((c.add 1).add 0) (.slice d e f) λd=>F34.wL3 n c a (ax (b+1)) d K) (K (au c) h)):=by kernel_rfl
def F34.wk3:Prop:=(∃d,F34.wL3 d c a b h K)
def F34.spec(H:bg h (.map #[] 0) λa b=>bg b (.cells #[au f,.slice none 0 0,.map (some a),ap 0,ap 0] 157) λa b=>F34.wk3 (aw a) (if 4<(if 1>d then 1 else d)then 4 else(if 1>d then 1 else d)) 0 b K):Cl 34 [au f,ap d] h K:=cT F34.T Tryz.func34 H
end
def F68.spec{a:Addr}(H:cF (rd h (a.add 1)) λ_ a _=>K (ap (a:Int)) h):Cl 68 [au a] h K:=cN Tryz.func68 H
def F92.T:bh:=⟨[(2,[0,4]),(3,[0])],[]⟩
section
variable (n:Nat)(a:Addr)(b:Value)(h:aI)(K:KK)
def F92.wL2:Prop:=Lp Tryz.f92 F92.T [1,0,1,0] n [(0,(au a)),(4,b)] h K
def F92.wk3:Prop:=Cl 141 [au a] h λa b=> ∃c:Int,∃d:Bool,a=(.tuple #[ar c,aD d])/\K (.tuple #[ar c,aD d]) b
def F92.sL2:F92.wL2 (n+1) a b h K=(dS Tryz.prog X b [] h λc d=>bQ (some c) λc=>aJ (!c) (F92.wL2 n a b d K) (F92.wk3 a d K)):=by kernel_rfl
def F92.wk2:Prop:=(∃c,F92.wL2 c a b h K)
def F92.spec(H:F92.wk2 a (.func (.func 140) #[au a] #[]) h K):Cl 92 [au a] h K:=cT F92.T Tryz.func92 H
end
def F35.T:bh:=⟨[],[(1,[[(0,[]),(1,[]),(2,[]),(3,[]),(4,[]),(5,[]),(6,[]),(7,[]),(8,[]),(9,[]),(10,[])]]),(7,[[(0,[]),(1,[]),(2,[]),(3,[]),(4,[]),(5,[]),(6,[]),(7,[]),(8,[]),(9,[])]]),(8,[[(0,[]),(1,[]),(2,[]),(3,[]),(4,[]),(5,[]),(6,[]),(7,[]),(8,[]),(9,[]),(10,[]),(11,[]),(12,[]),(13,[]),(14,[]),(15,[]),(16,[]),(17,[]),(18,[]),(19,[]),(20,[]),(21,[]),(22,[]),(23,[]),(24,[]),(25,[])]])]⟩
def F35.spec{a:Addr}(H:bg h (.cells #[ap i,aq j,aq k,aq l,.int .u8 m] 66) λb c=>aZ (rd c (a.add 0)) λd=>aS .i64 (rd c ((aw b).add 0)) λe=>aS .u32 (rd c ((aw b).add 1)) λf=>aS .u32 (rd c ((aw b).add 2)) λg=>aS .u32 (rd c ((aw b).add 3)) λi=>aS .u8 (rd c ((aw b).add 4)) λb=>Cl 91 [aA d,.agg #[ap e,aq f,aq g,aq i,.int .u8 b]] c λb c=> ∃d:az,∃e:Int,b=(.tuple #[aA d,ap e])/\aJ (e !=0) (K (.tuple #[ap 0,ap e]) c) (bU (rd c (a.add 2)) λb=>dC b λb=> ∃e f,mp c b=some (e,f)/\aJ ((Nat.cast (Array.size e):Int)>=(64:Int)) (K (.tuple #[ap 0,ap 60]) c) (aS .i64 (rd c (a.add 3)) λb=>aY c ((a.add 3).add 0) (ap (ax (b+1))) λb=>bU (rd b (a.add 2)) λc=>aS .i64 (rd b (a.add 3)) λe=>lu b c .i64 .i64 e (aA d) λb=>cF (rd b (a.add 1)) λc d _=>aS .i64 (rd b (a.add 3)) λe=>cF (rd b (a.add 1)) λ_ f _=>(f:Int)≠0/\aX c λc=>0<=(Int.tmod e (f:Int))/\(Int.tmod e (f:Int))<(d:Int)/\aZ (rd b (c.add ((Int.tmod e (f:Int)).toNat*1))) λc=>aX c λc=>aZ (rd b (c.add 0)) λc=>aS .i64 (rd b (a.add 3)) λd=>Cl 93 [aA c,ar (IntKind.wrap .u64 d)] b λb c=>aZ (some b) λb=>Cl 92 [aA b] c λb c=> ∃d:Int,∃e:Bool,b=(.tuple #[ar d,aD e])/\aS .i64 (rd c (a.add 3)) λa=>K (.tuple #[ap a,ap 0]) c))):Cl 35 [au a,.agg #[ap i,aq j,aq k,aq l,.int .u8 m]] h K:=cT F35.T Tryz.func35 H
def F129.spec{a:Addr}(H:aZ (rd h (a.add 0)) λb=>Cl 177 [aA b] h λb c=>aZ (some b) λb=>Cl 92 [aA b] c λb c=> ∃d:Int,∃e:Bool,b=(.tuple #[ar d,aD e])/\aJ e (aY c ((a.add 1).add 0) (ap (ax d)) λa=>K (aD e) a) (K (aD e) c)):Cl 129 [au a] h K:=cN Tryz.func129 H
def F130.T:bh:=⟨[(3,[0,1,2,7,17,18])],[(5,[[(0,[]),(1,[]),(2,[]),(3,[]),(4,[]),(5,[]),(6,[]),(7,[]),(8,[]),(9,[]),(10,[]),(11,[]),(12,[]),(13,[]),(14,[]),(15,[]),(16,[]),(17,[])]])]⟩
section
variable (n:Nat)(d g:Addr)(f a c b:Int)(h:aI)(K:KK)
def F130.wL3:Prop:=Lp Tryz.f130 F130.T [1,1,0,1,0] n [(0,(au d)),(1,(au g)),(2,(ap f)),(7,(ap a)),(17,(ap c)),(18,(ap b))] h K
def F130.sL3:F130.wL3 (n+1) d g f a c b h K=(aJ (b<c) (cF (rd h (d.add 1)) λe i _=>a≠0/\a≠0/\a≠0/\aX e λe=>0<=(Int.tmod (ax ((Int.tmod (ax ((Int.tmod f a)+b)) a)+a)) a)/\(Int.tmod (ax ((Int.tmod (ax ((Int.tmod f a)+b)) a)+a)) a)<(i:Int)/\aZ (rd h (e.add ((Int.tmod (ax ((Int.tmod (ax ((Int.tmod f a)+b)) a)+a)) a).toNat*1))) λe=>Gh Tryz.prog h 164 (aA e) (au g) λi=>aJ i (F130.wL3 n d g f a c (ax (b+1)) h K) (aX e λe=>aZ (rd h (e.add 0)) λe=>Cl 178 [aA e] h λe i=>aZ (some e) λe=>Cl 92 [aA e] i λe i=> ∃j:Int,∃k:Bool,e=(.tuple #[ar j,aD k])/\aJ k (aY i ((g.add 1).add 0) (ap (ax j)) λa=>aS .i64 (rd a (d.add 4)) λb=>aY a ((d.add 4).add 0) (ap (ax (b+1))) λa=>K aC a) (F130.wL3 n d g f a c (ax (b+1)) i K))) (K aB h)):=by kernel_rfl
def F130.wk3:Prop:=(∃e,F130.wL3 e d g f a c b h K)
def F130.spec(H:cF (rd h (d.add 1)) λ_ a _=>F130.wk3 d g f (a:Int) (a:Int) 0 h K):Cl 130 [au d,au g,ap f] h K:=cT F130.T Tryz.func130 H
end
def F81.T:bh:=⟨[],[(6,[[(0,[]),(1,[]),(2,[]),(3,[]),(4,[]),(5,[]),(6,[]),(7,[]),(8,[]),(9,[]),(10,[])]])]⟩
def F81.spec{i:Int}{a:Addr}(H:aJ (i<0) (K aB h) (cF (rd h (a.add 1)) λ_ b _=>aJ (i>=(b:Int)) (K aB h) (cF (rd h (a.add 1)) λb c _=>aX b λb=>0<=i/\i<(c:Int)/\aZ (rd h (b.add (i.toNat*1))) λb=>aX b λc=>aS .i64 (rd h (c.add 1)) λc=>aJ (c==0) (Cl 129 [aA b] h λc d=>bQ (some c) λc=>aJ (!c) (Cl 130 [au a,aA b,ap j] d λa b=>bQ (some a) λa=>K (aD a) b) (bU (rd d (a.add 2)) λa=>aX b λc=>aS .i64 (rd d (c.add 1)) λc=>dT d a .i64 .i64 c λa=>aZ (some (kU (aA none) a)) λa=>Cl 114 [aA a] d λa c=>bQ (some a) λa=>aJ a (aX b λa=>aY c ((a.add 1).add 0) (ap 0) λa=>K aC a) (K aC c))) (bU (rd h (a.add 2)) λa=>aX b λc=>aS .i64 (rd h (c.add 1)) λc=>dT h a .i64 .i64 c λa=>aZ (some (kU (aA none) a)) λa=>Cl 114 [aA a] h λa c=>bQ (some a) λa=>aJ a (aX b λa=>aY c ((a.add 1).add 0) (ap 0) λa=>K aC a) (K aC c))))):Cl 81 [au a,ap i,ap j] h K:=cT F81.T Tryz.func81 H
def F39.spec{a:Addr}(H:bU (rd h (a.add 2)) λa=>dT h a .i64 .i64 i λa=>aZ (some (kU (aA none) a)) λa=>aJ (!(Option.isNone a)) (Cl 95 [aA a] h λa b=>bQ (some a) λa=>K (aD a) b) (K aB h)):Cl 39 [au a,ap i] h K:=cN Tryz.func39 H
def F38.spec{a:Addr}(H:Cl 39 [au a,ap i] h λb c=>bQ (some b) λb=>aJ (!b) (K (.tuple #[aq 0,ap 61]) c) (bU (rd c (a.add 2)) λa=>dT c a .i64 .i64 i λa=>aZ (some (kU (aA none) a)) λa=>Cl 94 [aA a] c λa b=> ∃c:Int,∃d:Int,a=(.tuple #[aq c,ap d])/\K (.tuple #[aq c,ap d]) b)):Cl 38 [au a,ap i] h K:=cN Tryz.func38 H
def F36.spec{a:Addr}(H:Cl 39 [au a,ap i] h λb c=>bQ (some b) λb=>aJ b (bU (rd c (a.add 2)) λa=>yy c a .i64 .i64 i λa=>K (aD b) a) (K (aD b) c)):Cl 36 [au a,ap i] h K:=cN Tryz.func36 H
def F173.T:bh:=⟨[(3,[0,3,11,12,13])],[]⟩
section
variable (n:Nat)(l:Addr)(j:az)(i g:Nat)(b:az)(a d:Nat)(f c:Int)(h:aI)(K:KK)
def F173.wL3:Prop:=Lp Tryz.f173 F173.T [1,1,0,1,0] n [(0,(au l)),(3,(.slice j i g)),(11,(.slice b a d)),(12,(ap f)),(13,(ap c))] h K
def F173.sL3:F173.wL3 (n+1) l j i g b a d f c h K=(aJ (c<f) (aX b λe=>0<=c/\c<(a:Int)/\aS .i64 (rd h (e.add (c.toNat*1))) λe=>bU (rd h (l.add 2)) λk=>dT h k .i64 .i64 e λe=>aZ (some (kU (aA none) e)) λe=>Cl 217 [aA e] h λe k=>cF (some e) λe m _=>fQ k 46 1 4 #[aq 0] j i g e m λe g i j=>F173.wL3 n l e g i b a d f (ax (c+1)) j K) (K (.slice j i g) h)):=by kernel_rfl
def F173.wk3:Prop:=(∃e,F173.wL3 e l j i g b a d f c h K)
def F173.spec(H:bU (rd h (l.add 2)) λa=>Cl 216 [.map a] h λa b=>jX (some a) λa=>Cl 215 [a] b λa b=>cF (some a) λa c d=>F173.wk3 l none 0 0 a c d (c:Int) 0 b K):Cl 173 [au l] h K:=cT F173.T Tryz.func173 H
end
end
def xF(f:Nat):Value:= .func (.func 140) #[au (aw f)] #[]
def Jr:bR X 140=some cH.go:=by kernel_rfl
structure DS(base n:Nat)(cs:List Int)(T:Nat)(q:List Int):Prop where
 top:cs.getD base 0=T
 bot:cs.getD (base+1) 0=((T+q.length:Nat):Int)
 len:q.length<=n
 val: ∀i,i<q.length->cs.getD (base+2+(T+i)%n) 0=q.getD i 0
def Cc(base n x:Nat):dL base n (x:Int)=base+2+x%n:=by
 unfold dL;rw[Nm ah]
 congr 1
def bM{l:List Int}(hi:i<l.length):(l.set i v).getD j 0=if i=j then v else l.getD j 0:=by
 by_cases h:i=j
 ·subst h;simp[hi]
 ·simp[List.getD,h]
def Ba{A:Dc}(hi:True)(W:DW h d m mc base n cs ops fails)(H:cV h f d bx by_ A)(d1:f≠d)(d2:f≠m)(d3:f≠mc)(j:A.ph<=14)(i:A.ph=2\/A.ph=7->0<=A.b)(k:A.ph=13->0<=A.t)
  (hD:(cg base n cs A).1.done=true-> ∀h' c a,DW h' d m mc base n (cg base n cs A).2 c a->aM [f,m,mc] h h'->K (.tuple #[ar (jt (cg base n cs A).1),aD (i5 (cg base n cs A).1)]) h')
  (hN:(cg base n cs A).1.done=false-> ∀h' c a,cV h' f d bx by_ (cg base n cs A).1->DW h' d m mc base n (cg base n cs A).2 c a->aM [f,m,mc] h h'->F92.wL2 g (aw f) (xF f) h' K):
  F92.wL2 (g+1) (aw f) (xF f) h K:=by
 rw[F92.sL2];unfold xF;refine bj Jr (AM W H d1 d2 d3 j i k λh1 e H1 W1 O1=>a8 rfl ?_);cases hd:(cg base n cs A).1.done with
 |true=>
  rw[MF,aK];unfold F92.wk3;exact ya H1 ⟨_,_,rfl,hD hd h1 _ _ W1 O1⟩
 |false=>
  rw[MS,aO];exact hN hd h1 _ _ H1 W1 O1
def fW{A:Dc}{A':Dc}(e:cg base n cs A=(A',cs'))(hi:True)(W:DW h d m mc base n cs ops fails)(H:cV h f d bx by_ A)(d1:f≠d)(d2:f≠m)(d3:f≠mc)(k:A.ph<=14)(i:A.ph=2\/A.ph=7->0<=A.b)(j:A.ph=13->0<=A.t)(hd:A'.done=false)
  (hN: ∀h' c a,cV h' f d bx by_ A'->DW h' d m mc base n cs' c a->aM [f,m,mc] h h'->F92.wL2 g (aw f) (xF f) h' K):
  F92.wL2 (g+1) (aw f) (xF f) h K:=by
 refine Ba hi W H d1 d2 d3 k i j (λh'=> ?_) λ_=> ?_
 ·rw[e,hd]at h';cases h'
 ·rw[e];exact hN
def iO{A:Dc}{A':Dc}(e:cg base n cs A=(A',cs'))(hi:True)(W:DW h d m mc base n cs ops fails)(H:cV h f d bx by_ A)(d1:f≠d)(d2:f≠m)(d3:f≠mc)(k:A.ph<=14)(i:A.ph=2\/A.ph=7->0<=A.b)(j:A.ph=13->0<=A.t)(hd:A'.done=true)
  (hD: ∀h' c a,DW h' d m mc base n cs' c a->aM [f,m,mc] h h'->K (.tuple #[ar (jt A'),aD (i5 A')]) h'):
  F92.wL2 (g+1) (aw f) (xF f) h K:=by
 refine Ba hi W H d1 d2 d3 k i j (λ_=> ?_) λh'=> ?_
 ·rw[e];exact hD
 ·rw[e,hd]at h';cases h'
def ll(base n:Nat)(cs cs':List Int):Prop:=cs'.length=cs.length/\ ∀x,x<base\/base+2+n<=x->cs'.getD x 0=cs.getD x 0
def CI{q:List Int}(W:DW h d m mc base n cs ops fails)(S:DS base n cs T q)(hT:T+q.length<1000000000)(H:cV h f d bx by_ ⟨v,0,0,0,false,false⟩)(d1:f≠d)(d2:f≠m)(d3:f≠mc)
  (hK: ∀h' g a cs',(q.length<n->DS base n cs' T (q++[v]))->(¬q.length<n->cs'=cs)->ll base n cs cs'->DW h' d m mc base n cs' g a->aM [f,m,mc] h h'->K (.tuple #[ar (if q.length<n then v else 0),aD (decide (q.length<n))]) h'):
  Cl 92 [au (aw f)] h K:=by
 apply F92.spec;unfold F92.wk2;have hb:ax (cs.getD (base+1) 0)=((T+q.length:Nat):Int):=by rw[S.bot,wrap_i64 ah ah]
 have ht:ax (cs.getD base 0)=(T:Int):=by rw[S.top,wrap_i64 ah ah]
 have hl:=W.hl;have hn:=W.hn;refine⟨4,?_⟩
 refine fW (A':=⟨v,0,((T+q.length:Nat):Int),1,false,false⟩) (cs':=cs) (by unfold cg;simp only[MD,Nf,hb]) (by decide) W H d1 d2 d3 ak ak ak rfl λh1 o1 f1 H1 W1 O1=> ?_
 have hw:ax (((T+q.length:Nat):Int)-(T:Int))=(q.length:Int):=by rw[wrap_i64 ah ah];omega
 by_cases hlt:q.length<n
 ·have e1:cg base n cs ⟨v,0,((T+q.length:Nat):Int),1,false,false⟩=(⟨v,T,((T+q.length:Nat):Int),2,false,false⟩,cs):=by
   unfold cg;simp only[MD,Nf,ht,hw];rw[L7 ah];simp
  refine fW e1 (by decide) W1 H1 d1 d2 d3 ak ak ak rfl λh2 o2 f2 H2 W2 O2=> ?_;refine fW (A':=⟨v,T,((T+q.length:Nat):Int),3,false,false⟩) (cs':=cs.set (dL base n ((T+q.length:Nat):Int)) v) (by simp[cg]) (by decide) W2 H2 d1 d2 d3 ak (λ_=>by show(0:Int)<=((T+q.length:Nat):Int);omega) ak rfl λh3 o3 f3 H3 W3 O3=> ?_
  refine iO (A':=⟨v,T,((T+q.length:Nat):Int),3,true,true⟩) (cs':=(cs.set (dL base n ((T+q.length:Nat):Int)) v).set (base+1) (((T+q.length+1:Nat):Int))) (by unfold cg;simp only[MD,Nf];rw[wrap_i64 ah ah,bZ ah ah];simp) (by decide) W3 H3 d1 d2 d3 ak ak ak rfl λh4 o4 f4 W4 O4=> ?_
  have P:=((O1.trans O2 λb hb _=>hb).trans O3 λb hb _=>hb).trans O4 λb hb _=>hb;have hs:=Cc base n (T+q.length);have hm:(T+q.length)%n<n:=Po _ ah;have:=hK h4 o4 f4 _ (λ_=> ?_) (λh=>Mw hlt h) ?_ W4 P
  ·rw[L4 hlt,Mg hlt]at this;simpa[jt,i5]using this
  ·rw[hs];refine⟨?_,?_,by simp;omega,λi hi=> ?_⟩
   ·rw[bM (by simp;omega),LY ah,bM ah,LY ah];exact S.top
   ·rw[bM (by simp;omega),L4 rfl];simp;omega
   ·rw[bM (by simp;omega),LY ah,bM ah];simp at hi;by_cases hi':i=q.length
    ·subst hi';rw[L4 rfl];simp[List.getD]
    ·have c:i<q.length:=ah
     have j: ¬base+2+(T+q.length)%n=base+2+(T+i)%n:=by intro e;have e:(T+q.length)%n=(T+i)%n:=ah;have h1:=Nat.sub_mod_eq_zero_of_mod_eq e;rw[show T+q.length-(T+i)=q.length-i by omega,Od ah]at h1;omega
     rw[LY j,S.val i c];simp only[List.getD,Mo c]
  ·rw[hs];refine⟨ak,λx hx=> ?_⟩;rw[bM (by simp;omega),LY ah,bM ah,LY ah]
 ·have e1:cg base n cs ⟨v,0,((T+q.length:Nat):Int),1,false,false⟩=(⟨v,T,((T+q.length:Nat):Int),2,true,false⟩,cs):=by
   unfold cg;simp only[MD,Nf,ht,hw];rw[Mg ah];simp
  refine iO e1 (by decide) W1 H1 d1 d2 d3 ak ak ak rfl λh2 o2 f2 W2 O2=> ?_;have:=hK h2 o2 f2 cs (λh=>Mw h hlt) (λ_=>rfl) ⟨rfl,λ_ _=>rfl⟩ W2 (O1.trans O2 λb hb _=>hb);rw[LY hlt,L7 hlt]at this;simpa[jt,i5]using this
def By{q:List Int}(W:DW h d m mc base n cs ops fails)(S:DS base n cs T q)(hT:T+q.length<1000000000)(H:cV h f d bx by_ ⟨0,0,0,11,false,false⟩)(d1:f≠d)(d2:f≠m)(d3:f≠mc)
  (hE:q=[]-> ∀h' c a,DW h' d m mc base n cs c a->aM [f,m,mc] h h'->K (.tuple #[ar 0,aB]) h')
  (hK: ∀x q',q=x::q'-> ∀h' c a cs',DS base n cs' (T+1) q'->ll base n cs cs'->DW h' d m mc base n cs' c a->aM [f,m,mc] h h'->K (.tuple #[ar x,aC]) h'):
  Cl 92 [au (aw f)] h K:=by
 apply F92.spec;unfold F92.wk2;have hb:ax (cs.getD (base+1) 0)=((T+q.length:Nat):Int):=by rw[S.bot,wrap_i64 ah ah]
 have ht:ax (cs.getD base 0)=(T:Int):=by rw[S.top,wrap_i64 ah ah]
 have hl:=W.hl;have hn:=W.hn;refine⟨4,?_⟩
 refine fW (A':=⟨0,T,0,12,false,false⟩) (cs':=cs) (by unfold cg;simp only[MD,Nf,ht]) (by decide) W H d1 d2 d3 ak ak ak rfl λh1 o1 f1 H1 W1 O1=> ?_
 cases q with
 |nil=>
  refine iO (A':=⟨0,T,T,13,true,false⟩) (cs':=cs) (by unfold cg;simp only[MD,Nf,hb];simp) (by decide) W1 H1 d1 d2 d3 ak ak ak rfl λh2 o2 f2 W2 O2=> ?_
  have:=hE rfl h2 o2 f2 W2 (O1.trans O2 λb hb _=>hb);simpa[jt,i5]using this
 |cons x q'=>
  simp only[Nh]at hb hT
  refine fW (A':=⟨0,T,((T+(q'.length+1):Nat):Int),13,false,false⟩) (cs':=cs) (by unfold cg;simp only[MD,Nf,hb];rw[L7 ah];simp) (by decide) W1 H1 d1 d2 d3 ak ak ak rfl λh2 o2 f2 H2 W2 O2=> ?_
  have hv:cs.getD (dL base n (T:Int)) 0=x:=by rw[Cc];have:=S.val 0 ak;simpa using this
  refine fW (A':=⟨x,T,((T+(q'.length+1):Nat):Int),14,false,false⟩) (cs':=cs) (by unfold cg;simp only[MD,Nf,hv]) (by decide) W2 H2 d1 d2 d3 ak ak (λ_=>by show(0:Int)<=(T:Int);omega) rfl λh3 o3 f3 H3 W3 O3=> ?_
  refine iO (A':=⟨x,T,((T+(q'.length+1):Nat):Int),14,true,true⟩) (cs':=cs.set base ((T+1:Nat):Int)) (by unfold cg;simp only[MD,Nf];rw[L4 (by rw[S.top,bZ ah ah]),wrap_i64 ah ah,bZ ah ah];simp) (by decide) W3 H3 d1 d2 d3 ak ak ak rfl λh4 o4 f4 W4 O4=> ?_
  have P:=((O1.trans O2 λb hb _=>hb).trans O3 λb hb _=>hb).trans O4 λb hb _=>hb;have:=hK x q' rfl h4 o4 f4 _ ?_ ?_ W4 P
  ·simpa[jt,i5]using this
  ·refine⟨?_,?_,by have:=S.len;simp at this;omega,λi hi=> ?_⟩
   ·rw[bM ah,L4 rfl]
   ·rw[bM ah,LY ah,S.bot];simp only[Nh];omega
   ·rw[bM ah,LY ah,show T+1+i=T+(i+1) by omega,S.val (i+1) (by simp;omega)];simp[List.getD]
  ·refine⟨ak,λy hy=> ?_⟩;rw[bM ah,LY ah]
def Hf{q:List Int}(W:DW h d m mc base n cs ops fails)(S:DS base n cs T q)(hT:T+q.length<1000000000)(H:cV h f d bx by_ ⟨0,0,0,4,false,false⟩)(d1:f≠d)(d2:f≠m)(d3:f≠mc)
  (hE:q=[]-> ∀h' e a cs',DS base n cs' T []->ll base n cs cs'->DW h' d m mc base n cs' e a->aM [f,m,mc] h h'->K (.tuple #[ar 0,aB]) h')
  (hK: ∀x q' T',q=q'++[x]->T'+q'.length<=T+q.length->DS base n cs (T) q-> ∀h' e a cs',DS base n cs' T' q'->ll base n cs cs'->DW h' d m mc base n cs' e a->aM [f,m,mc] h h'->K (.tuple #[ar x,aC]) h'):
  Cl 92 [au (aw f)] h K:=by
 apply F92.spec;unfold F92.wk2;have hb:ax (cs.getD (base+1) 0)=((T+q.length:Nat):Int):=by rw[S.bot,wrap_i64 ah ah]
 have ht:ax (cs.getD base 0)=(T:Int):=by rw[S.top,wrap_i64 ah ah]
 have hl:=W.hl;have hn:=W.hn;refine⟨6,?_⟩
 refine fW (A':=⟨0,0,((T+q.length:Nat):Int)-1,5,false,false⟩) (cs':=cs) (by unfold cg;simp only[MD,Nf,hb];rw[wrap_i64 ah ah]) (by decide) W H d1 d2 d3 ak ak ak rfl λh1 o1 f1 H1 W1 O1=> ?_
 refine fW (A':=⟨0,0,((T+q.length:Nat):Int)-1,6,false,false⟩) (cs':=cs.set (base+1) (IntKind.wrap .u64 (((T+q.length:Nat):Int)-1))) (by unfold cg;simp only[MD,Nf]) (by decide) W1 H1 d1 d2 d3 ak ak ak rfl λh2 o2 f2 H2 W2 O2=> ?_
 have j:ax ((cs.set (base+1) (IntKind.wrap .u64 (((T+q.length:Nat):Int)-1))).getD base 0)=(T:Int):=by rw[bM ah,LY ah,ht]
 have c:(cs.set (base+1) (IntKind.wrap .u64 (((T+q.length:Nat):Int)-1))).getD base 0=(T:Int):=by rw[bM ah,LY ah,S.top]
 have P2:=O1.trans O2 λb hb _=>hb;have g:ll base n cs (cs.set (base+1) (IntKind.wrap .u64 (((T+q.length:Nat):Int)-1))):=⟨ak,λy hy=>by rw[bM ah,LY ah]⟩;by_cases hq:q=[]
 ·subst hq;simp only[NN,Ma]at*
  refine fW (A':=⟨0,T,(T:Int)-1,10,false,false⟩) (cs':=cs.set (base+1) (IntKind.wrap .u64 ((T:Int)-1))) (by unfold cg;simp only[MD,Nf,j];rw[Mg ah];simp) (by decide) W2 H2 d1 d2 d3 ak ak ak rfl λh3 o3 f3 H3 W3 O3=> ?_
  refine iO (A':=⟨0,T,(T:Int)-1,10,true,false⟩) (cs':=(cs.set (base+1) (IntKind.wrap .u64 ((T:Int)-1))).set (base+1) (T:Int)) (by unfold cg;simp only[MD,Nf];rw[show(T:Int)-1+1=T by omega,wrap_i64 (n:=(T:Int)) ah ah,bZ (n:=(T:Int)) ah ah]) (by decide) W3 H3 d1 d2 d3 ak ak ak rfl λh4 o4 f4 W4 O4=> ?_
  have:=hE (by trivial) h4 o4 f4 _ ⟨?_,?_,Nq _,λi hi=>by simp at hi⟩ ⟨ak,λy hy=> ?_⟩ W4 ((P2.trans O3 λb hb _=>hb).trans O4 λb hb _=>hb)
  ·simpa[jt,i5]using this
  ·rw[bM (by simp;omega),LY ah];exact c
  ·rw[bM (by simp;omega),L4 rfl];simp
  ·rw[bM (by simp;omega),LY ah];exact g.2 y hy
 ·obtain⟨q',x,rfl⟩: ∃q' x,q=q'++[x]:=⟨q.dropLast,q.getLast hq,(ON hq).symm⟩;have sl:=S.len;simp only[Mv,Nh,NN,LX]at*
  have eb:(((T+(q'.length+1):Nat):Int)-1)=((T+q'.length:Nat):Int):=ah;have ew:IntKind.wrap .u64 ((T+q'.length:Nat):Int)=((T+q'.length:Nat):Int):=bZ ah ah;simp only[eb,ew]at H1 H2 W2 j c g
  refine fW (A':=⟨0,T,((T+q'.length:Nat):Int),7,false,false⟩) (cs':=cs.set (base+1) ((T+q'.length:Nat):Int)) (by unfold cg;simp only[MD,Nf,j];rw[L7 ah];simp) (by decide) W2 H2 d1 d2 d3 ak ak ak rfl λh3 o3 f3 H3 W3 O3=> ?_
  have o:(T+q'.length)%n<n:=Po _ ah
  have hv:(cs.set (base+1) ((T+q'.length:Nat):Int)).getD (dL base n ((T+q'.length:Nat):Int)) 0=x:=by rw[Cc,bM ah,LY ah,S.val q'.length ak];simp[List.getD]
  have k: ∀i,i<q'.length->(cs.set (base+1) ((T+q'.length:Nat):Int)).getD (base+2+(T+i)%n) 0=q'.getD i 0:=by intro i hi;rw[bM ah,LY ah,S.val i (by simp;omega)];simp only[List.getD,Mo hi]
  by_cases h1q:T<T+q'.length
  ·refine iO (A':=⟨x,T,((T+q'.length:Nat):Int),7,true,true⟩) (cs':=cs.set (base+1) ((T+q'.length:Nat):Int)) (by
    unfold cg;simp only[MD,Nf,hv];rw[L4 (Mg ah)]) (by decide) W3 H3 d1 d2 d3 ak (λ_=>by show(0:Int)<=((T+q'.length:Nat):Int);omega) ak rfl λh4 o4 f4 W4 O4=> ?_
   have:=hK x q' T rfl ah S h4 o4 f4 _ ⟨c,by rw[bM ah,L4 rfl],ah,k⟩ g W4 ((P2.trans O3 λb hb _=>hb).trans O4 λb hb _=>hb);simpa[jt,i5]using this
  ·have l:q'=[]:=List.length_eq_zero_iff.1 ah;subst l;simp only[NN,Ma]at*
   refine fW (A':=⟨x,T,(T:Int),8,false,false⟩) (cs':=cs.set (base+1) (T:Int)) (by unfold cg;simp only[MD,Nf,hv];rw[LY ak]) (by decide) W3 H3 d1 d2 d3 ak (λ_=>by show(0:Int)<=(T:Int);omega) ak rfl λh4 o4 f4 H4 W4 O4=> ?_
   refine fW (A':=⟨x,T,(T:Int),9,false,true⟩) (cs':=(cs.set (base+1) (T:Int)).set base ((T+1:Nat):Int)) (by unfold cg;simp only[MD,Nf];rw[L4 (by rw[c,bZ ah ah]),wrap_i64 ah ah,bZ ah ah];simp) (by decide) W4 H4 d1 d2 d3 ak ak ak rfl λh5 o5 f5 H5 W5 O5=> ?_
   refine iO (A':=⟨x,T,(T:Int),9,true,true⟩) (cs':=((cs.set (base+1) (T:Int)).set base ((T+1:Nat):Int)).set (base+1) ((T+1:Nat):Int)) (by unfold cg;simp only[MD,Nf];rw[wrap_i64 ah ah,bZ ah ah];simp) (by decide) W5 H5 d1 d2 d3 ak ak ak rfl λh6 o6 f6 W6 O6=> ?_
   have:=hK x [] (T+1) rfl ak S h6 o6 f6 _ ⟨?_,?_,Nq _,λi hi=>by simp at hi⟩ ⟨ak,λy hy=> ?_⟩ W6 ((((P2.trans O3 λb hb _=>hb).trans O4 λb hb _=>hb).trans O5 λb hb _=>hb).trans O6 λb hb _=>hb)
   ·simpa[jt,i5]using this
   ·rw[bM (by simp;omega),LY ah,bM (by simp;omega),L4 rfl]
   ·rw[bM (by simp;omega),L4 rfl];simp
   ·rw[bM (by simp;omega),LY ah,bM (by simp;omega),LY ah];exact g.2 y hy
def Ds{q:List Int}(W:DW h d m mc base n cs ops fails)(S:DS base n cs T q)(hT:T+q.length<1000000000)
  (hQ: ∀h' g e cs',(q.length<n->DS base n cs' T (q++[v]))->(¬q.length<n->cs'=cs)->ll base n cs cs'->DW h' d m mc base n cs' g e->aM [m,mc] h h'->Q (.tuple #[ar (if q.length<n then v else 0),aD (decide (q.length<n))]) h'):
  Cl 93 [au (aw d),ar v] h (λv1 h2=>aZ (some v1) (λp3=>Cl 92 [.pointer p3] h2 Q)):=by
 have lt:=W.lt;refine CM λf bx j h1 H1 O1 a b c a' b' c' n1 n2 n3=>aQ rfl ?_;refine CI (W.only O1 ak ak ak) S hT H1 ah ah ah λh2 o2 f2 i r1 r2 r3 W2 O2=> ?_
 exact hQ h2 o2 f2 i r1 r2 r3 W2 ((O1.mono (T:=[m,mc]) ak).trans O2 λx hx hl=>by simp at hx ⊢;omega)
def GE{q:List Int}(W:DW h d m mc base n cs ops fails)(S:DS base n cs T q)(hT:T+q.length<1000000000)
  (hE:q=[]-> ∀h' i g cs',DS base n cs' T []->ll base n cs cs'->DW h' d m mc base n cs' i g->aM [m,mc] h h'->Q (.tuple #[ar 0,aB]) h')
  (hQ: ∀x q' T',q=q'++[x]->T'+q'.length<=T+q.length-> ∀h' i g cs',DS base n cs' T' q'->ll base n cs cs'->DW h' d m mc base n cs' i g->aM [m,mc] h h'->Q (.tuple #[ar x,aC]) h'):
  Cl 177 [au (aw d)] h (λv1 h2=>aZ (some v1) (λp3=>Cl 92 [.pointer p3] h2 Q)):=by
 have lt:=W.lt;refine GS λf bx k h1 H1 O1 a b c a' b' c' n1 n2 n3=>aQ rfl ?_
 have hO: ∀h2,aM [f,m,mc] h1 h2->aM [m,mc] h h2:=λh2 O2=>(O1.mono (T:=[m,mc]) ak).trans O2 λx hx hl=>by simp at hx ⊢;omega
 exact Hf (W.only O1 ak ak ak) S hT H1 ah ah ah (λe h2 o2 f2 j r1 r2 W2 O2=>hE e h2 o2 f2 j r1 r2 W2 (hO h2 O2)) λx q' T' e le _ h2 o2 f2 j r1 r2 W2 O2=>hQ x q' T' e le h2 o2 f2 j r1 r2 W2 (hO h2 O2)
def Ck{q:List Int}(W:DW h d m mc base n cs ops fails)(S:DS base n cs T q)(hT:T+q.length<1000000000)
  (hE:q=[]-> ∀h' i g,DW h' d m mc base n cs i g->aM [m,mc] h h'->Q (.tuple #[ar 0,aB]) h')
  (hQ: ∀x q',q=x::q'-> ∀h' i g cs',DS base n cs' (T+1) q'->ll base n cs cs'->DW h' d m mc base n cs' i g->aM [m,mc] h h'->Q (.tuple #[ar x,aC]) h'):
  Cl 178 [au (aw d)] h (λv1 h2=>aZ (some v1) (λp3=>Cl 92 [.pointer p3] h2 Q)):=by
 have lt:=W.lt;refine Cq λf bx k h1 H1 O1 a b c a' b' c' n1 n2 n3=>aQ rfl ?_
 have hO: ∀h2,aM [f,m,mc] h1 h2->aM [m,mc] h h2:=λh2 O2=>(O1.mono (T:=[m,mc]) ak).trans O2 λx hx hl=>by simp at hx ⊢;omega
 exact By (W.only O1 ak ak ak) S hT H1 ah ah ah (λe h2 o2 f2 W2 O2=>hE e h2 o2 f2 W2 (hO h2 O2)) λx q' e h2 o2 f2 j r1 r2 W2 O2=>hQ x q' e h2 o2 f2 j r1 r2 W2 (hO h2 O2)
def Gm(h:aI)(r b:Nat)(k:IntKind)(m left:List (Int×Value)):Prop:=
 ∃es cl a c last,mp h b=some (es,cl)/\es.toList.map (λe=>(e.key,e.val))=m.map (λp=>(Value.int k p.1,p.2))/\(es.toList.map (·.born)).Nodup/\h[r]? =some (.mapIter (some b) a c last)/\
  (∀x∈es.toList,x.born<a)/\a<=last/\(leftOf es c).toList.map (λe=>(e.key,e.val))=left.map (λp=>(Value.int k p.1,p.2))/\a<=cl
def E9(h:aI)(r b:Nat)(k:IntKind)(x:Int)(v:Value):Prop:=
 ∃(es:Array MapEntry) (a:Nat) (c:Array Nat) (cl:Nat) (e:MapEntry),h[r]? =some (.mapIter (some b) a (c.push e.born) cl)/\mp h b=some (es,cl)/\e∈es.toList/\(es.toList.map (·.born)).Nodup/\e.key= .int k x/\e.val=v
def Gm.only(H:Gm h r b k m left)(O:aM S h h')(hr:r∉S)(hb:b∉S):Gm h' r b k m left:=by
 obtain⟨es,cl,a,c,last,h1,h2,h3,h4,h5⟩:=H;refine⟨es,cl,a,c,last,?_,h2,h3,?_,h5⟩
 ·have:=kF h1;unfold mp;rw[O.same b (Mf.1 this).1 hb,this]
 ·rw[O.same r (Mf.1 h4).1 hr];exact h4
def aM.push_obj(h:aI)(o:Obj)(ho: ∀c e f,o≠ .cells c e f):aM [] h (h.push o):=by
 refine⟨ak,λb hb _=>by simp[NC,PL hb],λa=> ?_⟩;unfold fz;rw[NC];by_cases ha:a.block=h.size
 ·rw[L4 ha,ha];cases o<;>simp_all
 ·rw[LY ha]
def aM.set_iter{h:aI}(hr:h[r]? =some (.mapIter m s d l))(m':Option Nat)(s':Nat)(c:Array Nat)(l':Nat):aM [r] h (h.setIfInBounds r (.mapIter m' s' c l')):=by
 have f:=(Mf.1 hr).1;refine⟨ak,λb hb hS=> ?_,λa=> ?_⟩
 ·have:r≠b:=λe=>hS (by simp[e]);rw[Np,LY this]
 ·unfold fz;rw[Np];by_cases ha:r=a.block
  ·rw[L4 ha,L4 f,<-ha,hr]
  ·rw[LY ha]
def yO{h:aI}(H:bV h b k m)
  (hK: ∀h',Gm h' h.size b k m m->aM [] h h'->h'.size=h.size+1->K (some ⟨h.size,0,none⟩) h'):DZ h (some b) K:=by
 obtain⟨es,cl,h1,h2,h3,h4,h5⟩:=H;have hb:=kF h1;have a:=(Mf.1 hb).1;refine⟨es,cl,h1,hK _ ⟨es,cl,cl,#[],cl,?_,h2,h4,ak,h5,Mb _,?_,Mb _⟩ (aM.push_obj _ _ ak) ak⟩
 ·unfold mp;rw[NC,LY (PL a),hb]
 ·rw[<-h2];unfold leftOf;rw[OS,Nr.2 ak]
def uz{h:aI}(H:Gm h r b k m left)(j:r≠b)(h0:left=[]->K0)
  (h1: ∀A x v B h',left=A++(x,v)::B->Gm h' r b k m (A++B)->E9 h' r b k x v->aM [r] h h'->h'.size=h.size->K1 (.int k x) v h'):GT h (some ⟨r,0,none⟩) K0 K1:=by
 obtain⟨es,cl,d,c,last,g1,g2,g3,g4,g5,g6,g7,g8⟩:=H;refine⟨rfl,some b,d,c,last,g4,es,cl,g1,g5,g6,λhz=>h0 ?_,λe he=> ?_⟩
 ·have hl:(leftOf es c).toList=[]:=by
   apply MQ;simpa using hz
  rw[hl]at g7;cases left with
  |nil=>rfl
  |cons a l=>simp at g7
 ·obtain⟨A',B',eL⟩:=List.append_of_mem he;rw[eL,MJ,Mz]at g7;obtain⟨A,C,e1,e2,e3⟩:=List.map_eq_append_iff.1 g7.symm;obtain⟨⟨x,v⟩,B,e4,e5,e6⟩:=List.map_eq_cons_iff.1 e3;subst e4 e1;simp only[Ph]at e5;have f:(leftOf es c).toList.Sublist es.toList:=by unfold leftOf;rw[OS];exact Nv
  have hnd:((A'++e::B').map (·.born)).Nodup:=by rw[<-eL];exact g3.sublist (f.map _)
  have n:=(Mf.1 g4).1
  have g:(h.setIfInBounds r (.mapIter (some b) d (c.push e.born) cl))[r]? =some (.mapIter (some b) d (c.push e.born) cl):=by rw[Np,L4 rfl,L4 n]
  have i:mp (h.setIfInBounds r (.mapIter (some b) d (c.push e.born) cl)) b=some (es,cl):=by unfold mp;rw[Np,LY j,kF g1]
  have hK:=h1 A x v B (h.setIfInBounds r (.mapIter (some b) d (c.push e.born) cl)) rfl ⟨es,cl,d,c.push e.born,cl,i,g2,g3,g,g5,g8,?_,g8⟩
   ⟨es,d,c,cl,e,g,i,f.subset he,g3,e5.1.symm,e5.2.symm⟩ (aM.set_iter g4 _ _ _ _) ak
  ·rw[<-e5.1,<-e5.2];exact hK
  ·have hf:(leftOf es (c.push e.born)).toList=A'++B':=by
    have h2:(leftOf es (c.push e.born)).toList=(leftOf es c).toList.filter λy=> !(y.born==e.born):=by unfold leftOf;rw[OS,OS,List.filter_filter];apply List.filter_congr;intro y _;simp only[Array.contains_push];cases h:c.contains y.born<;>cases h':(y.born==e.born)<;>simp_all
    rw[h2,eL];rw[MJ,Mz,ML]at hnd;obtain⟨n1,n2,n3⟩:=hnd;rw[MO]at n2;rw[Nx,OF];simp only[beq_self_eq_true,MF,MD,Nf];rw[Nr.2 λy hy=> ?_,Nr.2 λy hy=> ?_]
    ·have:y.born≠e.born:=λe'=>n2.1 (e'▸Ms.2 ⟨y,hy,rfl⟩);simpa using this
    ·have:y.born≠e.born:=λe'=>n3 y.born (Ms.2 ⟨y,hy,rfl⟩) e.born ak e';simpa using this
   rw[hf,MJ,MJ,e2,e6]
def xT(H:E9 h r b k x v)(hK:K (.int k x) v):zT h (some ⟨r,0,none⟩) K:=by obtain⟨es,a,c,cl,e,h1,h2,h3,h4,h5,h6⟩:=H;refine⟨rfl,b,a,c.push e.born,cl,es,e.born,e,h1,ak,h2,?_,by rw[h5,h6];exact hK⟩;rw[<-Array.find?_toList];exact find_born e es.toList h4 h3
structure Wk where
 w:Nat
 d:Nat
 m:Nat
 mc:Nat
 cs:List Int
 ops:Int
 fails:Int
 T:Nat
 q:List Int
 job:Int
def Wk.bl(k:Wk):List Nat:=[k.w,k.d,k.m,k.mc]
structure kO(h:aI)(k:Wk):Prop where
 own:At h k.w [bf k.d,ap k.job]
 dw:DW h k.d k.m k.mc 0 64 k.cs k.ops k.fails
 ds:DS 0 64 k.cs k.T k.q
 ne:k.w≠k.d/\k.w≠k.m/\k.w≠k.mc
def kO.only{k:Wk}(H:kO h k)(O:aM S h h')(hS: ∀b∈S,b∉k.bl):kO h' k:=
 ⟨H.own.only O λhm=>hS _ hm (by simp[Wk.bl]),H.dw.only O (λhm=>hS _ hm (by simp[Wk.bl])) (λhm=>hS _ hm (by simp[Wk.bl])) λhm=>hS _ hm (by simp[Wk.bl]),H.ds,H.ne⟩
def kO.lt{h:aI}{k:Wk}(H:kO h k): ∀b∈k.bl,b<h.size:=λb hb=>by have h1:=H.own.lt;obtain⟨h2,h3,h4⟩:=H.dw.lt;simp only[Wk.bl,List.mem_cons,MR,Nk]at hb;rcases hb with e|e|e|e<;>subst e<;>assumption
structure Jb where
 id:Nat
 A:MA
structure PS where
 wp:az
 wc:Nat
 jb:Nat
 ws:List Wk
 jobs:List Jb
 last:Nat
 steals:Int
def jg(s:Nat)(P:PS):List Value:=[bf s,.slice P.wp P.ws.length P.wc,.map (some P.jb),ap (P.last:Int),ap P.steals]
def dD(p:Nat)(P:PS)(b:Nat):Prop:=b=p\/b=P.jb\/b∈aV P.wp\/(∃k∈P.ws,b∈k.bl)\/ ∃j∈P.jobs,b∈j.A.bl
structure KO(τ:Nat->Nat)(p:Nat)(P:PS):Prop where
 p:τ p=0
 jb:τ P.jb=0
 wp: ∀b∈aV P.wp,τ b=0
 ws: ∀i k,P.ws[i]? =some k-> ∀b∈k.bl,τ b=2*i+1
 jobs: ∀j∈P.jobs,∀b∈j.A.bl,τ b=2*j.id+2
structure bO(h:aI)(p s:Nat)(P:PS):Prop where
 own:At h p (jg s P)
 wks:cy h 0 1 P.wp P.ws.length P.wc (P.ws.map λk=>bf k.w)
 wk: ∀k∈P.ws,kO h k
 jbm:bV h P.jb .i64 (P.jobs.map λj=>((j.id:Int),bf j.A.m))
 ma: ∀j∈P.jobs,bG h s j.A
 sep: ∃τ,KO τ p P
 ne:p≠P.jb/\p∉aV P.wp/\P.jb∉aV P.wp
 ids:(P.jobs.map (·.id)).Nodup/\ ∀j∈P.jobs,1<=j.id/\j.id<=P.last
def bO.only(H:bO h p s P)(O:aM S h h')(hS: ∀b∈S,¬dD p P b):bO h' p s P:=by refine⟨H.own.only O λhm=>hS _ hm (.inl rfl),H.wks.only O λb e hm=>hS b hm (.inr (.inr (.inl (by rw[e];simp[aV])))),λk hk=>(H.wk k hk).only O λb hb hm=>hS b hb (.inr (.inr (.inr (.inl ⟨k,hk,hm⟩)))),H.jbm.only O λhm=>hS _ hm (.inr (.inl rfl)),λj hj=>(H.ma j hj).only O λb hb hm=>hS b hb (.inr (.inr (.inr (.inr ⟨j,hj,hm⟩)))),H.sep,H.ne,H.ids⟩
def bO.only0(H:bO h p s P)(O:aM [] h h'):bO h' p s P:=H.only O ak
def bO.lt{h:aI}(H:bO h p s P): ∀b,dD p P b->b<h.size:=λb hb=>by
 rcases hb with e|e|hb|⟨k,hk,hb⟩|⟨j,hj,hb⟩
 ·subst e;exact H.own.lt
 ·subst e;exact H.jbm.lt
 ·exact(H.wks.lt b hb).2
 ·exact(H.wk k hk).lt b hb
 ·exact(H.ma j hj).lt b hb
def bO.set_wk{P:PS}(H:bO h p s P){k k':Wk}(hi:P.ws[i]? =some k)(O:aM S h h')(hS: ∀b∈S,b∈k.bl)(W:kO h' k')(hb:k'.bl=k.bl):bO h' p s {P with ws:=P.ws.set i k'}:=by
 obtain⟨τ,t⟩:=H.sep;have c:i<P.ws.length:=(Ml.1 hi).1;have tS: ∀b∈S,τ b=2*i+1:=λb hb=>t.ws i k hi b (hS b hb);have ew:k'.w=k.w:=by simp only[Wk.bl,Ng]at hb;exact hb.1
 have em:(P.ws.set i k').map (λk=>bf k.w)=P.ws.map λk=>bf k.w:=by
  rw[PO];apply MM;intro j;rw[ME];by_cases hij:i=j
  ·subst hij;rw[L4 rfl,L4 (by simpa using c),Mx,hi];simp[ew]
  ·rw[LY hij]
 refine⟨?_,?_,λx hx=> ?_,H.jbm.only O λhm=>by have:=tS _ hm;have:=t.jb;omega,λj hj=>(H.ma j hj).only O λb hb hm=>by have:=tS b hb;have:=t.jobs j hj b hm;omega,⟨τ,t.p,t.jb,t.wp,λj x hx b a=> ?_,t.jobs⟩,H.ne,H.ids⟩
 ·have:=H.own.only O (λhm=>by have:=tS _ hm;have:=t.p;omega);simpa[jg]using this
 ·show cy h' 0 1 P.wp (P.ws.set i k').length P.wc ((P.ws.set i k').map λk=>bf k.w);rw[em,No];exact H.wks.only O λb e hm=>by have:=tS b hm;have:=t.wp b (by rw[e];simp[aV]);omega
 ·obtain⟨j,hj⟩:=MC.1 hx;have hj:(P.ws.set i k')[j]? =some x:=hj;rw[ME]at hj;by_cases hij:i=j
  ·rw[L4 hij,L4 ah]at hj;injection hj with hj;subst hj;exact W
  ·rw[LY hij]at hj;refine(H.wk x (Mc hj)).only O λb hb hm=> ?_;have:=tS b hb;have:=t.ws j x hj b hm;omega
 ·have hx:(P.ws.set i k')[j]? =some x:=hx;rw[ME]at hx;by_cases hij:i=j
  ·subst hij;rw[L4 rfl,L4 c]at hx;injection hx with hx;subst hx;rw[hb]at a;exact t.ws i k hi b a
  ·rw[LY hij]at hx;exact t.ws j x hx b a
def fN{P:PS}{k k':Wk}(hi:P.ws[i]? =some k)(hb:k'.bl=k.bl)(h:dD p {P with ws:=P.ws.set i k'} b):dD p P b:=by
 have a:i<P.ws.length:=(Ml.1 hi).1;rcases h with e|e|h|⟨x,hx,h⟩|h
 ·exact .inl e
 ·exact .inr (.inl e)
 ·exact .inr (.inr (.inl h))
 ·obtain⟨j,hj⟩:=MC.1 hx;have hj:(P.ws.set i k')[j]? =some x:=hj;rw[ME]at hj;by_cases hij:i=j
  ·rw[L4 hij,L4 ah]at hj;injection hj with hj;subst hj;rw[hb]at h;exact .inr (.inr (.inr (.inl ⟨k,Mc hi,h⟩)))
  ·rw[LY hij]at hj;exact .inr (.inr (.inr (.inl ⟨x,Mc hj,h⟩)))
 ·exact .inr (.inr (.inr (.inr h)))
def bO.set_ma{h:aI}{P:PS}(H:bO h p s P){A':MA}(hi:P.jobs[i]? =some j)(O:aM S h h')(hS: ∀b∈S,dD p P b->b∈j.A.bl)(M:bG h' s A')(em:A'.m=j.A.m)(hb: ∀b∈A'.bl,b∈j.A.bl\/h.size<=b):
  bO h' p s {P with jobs:=P.jobs.set i {j with A:=A'}}:=by
 obtain⟨τ,t⟩:=H.sep;have d:i<P.jobs.length:=(Ml.1 hi).1;have hj:=Mc hi;have tS: ∀b∈S,dD p P b->τ b=2*j.id+2:=λb hb h=>t.jobs j hj b (hS b hb h)
 have a: ∀{β:Type} (f:Jb->β),f {j with A:=A'}=f j->(P.jobs.set i {j with A:=A'}).map f=P.jobs.map f:=λf e=>by
  rw[PO,e];apply MM;intro x;rw[ME];by_cases hix:i=x
  ·subst hix;rw[L4 rfl,L4 (by simpa using d),Mx,hi]
   rfl
  ·rw[LY hix]
 have uniq: ∀x y,P.jobs[x]? =some y->y.id=j.id->x=i:=λx y hy e=>by
  have nd:=H.ids.1;have h1:(P.jobs.map (·.id))[x]? =some j.id:=by rw[Mx,hy];simp[e]
  have h2:(P.jobs.map (·.id))[i]? =some j.id:=by rw[Mx,hi];rfl
  have l1:x<(P.jobs.map (·.id)).length:=(Ml.1 h1).1;have l2:i<(P.jobs.map (·.id)).length:=(Ml.1 h2).1;apply Mi;intro g;rcases Nat.lt_or_ge x i with h|h
  ·have:=(NW.1 nd) x i l1 l2 h;rw[Mj l1]at h1;rw[Mj l2]at h2;injection h1 with h1;injection h2 with h2;exact this (h1.trans h2.symm)
  ·have:=(NW.1 nd) i x l2 l1 ah;rw[Mj l1]at h1;rw[Mj l2]at h2;injection h1 with h1;injection h2 with h2;exact this (h2.trans h1.symm)
 have tp: ∀b∈S,b≠p:=λb hb e=>by subst e;have:=tS b hb (.inl rfl);have:=t.p;omega
 refine⟨?_,H.wks.only O λb e hm=> ?_,λk hk=>(H.wk k hk).only O λb hb hm=> ?_,?_,λy hy=> ?_,⟨λb=>if b<h.size then τ b else 2*j.id+2,?_,?_,λb hb=> ?_,λx k hk b hb=> ?_,λy hy b c=> ?_⟩,H.ne,?_⟩
 ·have:=H.own.only O (λhm=>tp _ hm rfl);exact this
 ·have hb:b∈aV P.wp:=by rw[e];simp[aV]
  have:=tS b hm (.inr (.inr (.inl hb)));have:=t.wp b hb;omega
 ·have h1:=tS b hb (.inr (.inr (.inr (.inl ⟨k,hk,hm⟩))));obtain⟨x,hx⟩:=MC.1 hk;have:=t.ws x k hx b hm;omega
 ·show bV h' P.jb .i64 ((P.jobs.set i {j with A:=A'}).map λj=>((j.id:Int),bf j.A.m));rw[a (λj=>((j.id:Int),bf j.A.m)) (by simp[em])];exact H.jbm.only O λhm=>by have:=tS _ hm (.inr (.inl rfl));have:=t.jb;omega
 ·obtain⟨x,hx⟩:=MC.1 hy;have hx:(P.jobs.set i {j with A:=A'})[x]? =some y:=hx;rw[ME]at hx;by_cases hix:i=x
  ·rw[L4 hix,L4 ah]at hx;injection hx with hx;subst hx;exact M
  ·rw[LY hix]at hx;refine(H.ma y (Mc hx)).only O λb hb hm=> ?_;have h1:=tS b hb (.inr (.inr (.inr (.inr ⟨y,Mc hx,hm⟩))));have h2:=t.jobs y (Mc hx) b hm;exact hix (uniq x y hx ah).symm
 ·show(if p<h.size then τ p else _)=0;rw[L4 H.own.lt];exact t.p
 ·show(if P.jb<h.size then τ P.jb else _)=0;rw[L4 H.jbm.lt];exact t.jb
 ·show(if b<h.size then τ b else _)=0;rw[L4 (H.wks.lt b hb).2];exact t.wp b hb
 ·show(if b<h.size then τ b else _)=_;rw[L4 ((H.wk k (Mc hk)).lt b hb)];exact t.ws x k hk b hb
 ·show(if b<h.size then τ b else _)=_;obtain⟨x,hx⟩:=MC.1 hy;have hx:(P.jobs.set i {j with A:=A'})[x]? =some y:=hx;rw[ME]at hx;by_cases hix:i=x
  ·rw[L4 hix,L4 ah]at hx;injection hx with hx;subst hx;rcases hb b c with h1|h1
   ·rw[L4 ((H.ma j hj).lt b h1)];exact t.jobs j hj b h1
   ·rw[LY ah]
  ·rw[LY hix]at hx;rw[L4 ((H.ma y (Mc hx)).lt b c)];exact t.jobs y (Mc hx) b c
 ·refine⟨?_,λy hy=> ?_⟩
  ·show((P.jobs.set i {j with A:=A'}).map (·.id)).Nodup;rw[a (·.id) rfl];exact H.ids.1
  ·obtain⟨x,hx⟩:=MC.1 hy;have hx:(P.jobs.set i {j with A:=A'})[x]? =some y:=hx;rw[ME]at hx;by_cases hix:i=x
   ·rw[L4 hix,L4 ah]at hx;injection hx with hx;subst hx;exact H.ids.2 j hj
   ·rw[LY hix]at hx;exact H.ids.2 y (Mc hx)
def DQ{P:Program}{j:TypeInfo}{a b:Addr}(ht:P.underlying t=some (.pointer e))(hi:P.info? e=some j)(hz:Nat.beq j.size 0=false)
  (h1:a=b->K true) (h2:a≠b->(∃c u,h[a.block]? =some (.cells c u))/\(∃c u,h[b.block]? =some (.cells c u))/\K false):Gh P h t (au a) (au b) K:=by
 unfold Gh;rw[ht];dsimp only;rw[hi];dsimp only;rw[hz];exact⟨h1,h2⟩
def KG:Tryz.prog.underlying 164=some (.pointer 166):=by kernel_rfl
def HT:(Tryz.prog.info? 166).map (λi=>Nat.beq i.size 0)=some false:=by kernel_rfl
def At.cells(A:At h b c): ∃c u,h[b]? =some (.cells c u):=by obtain⟨e,he⟩:=A;exact⟨_,_,he⟩
def zq{k:Wk}(W:kO h k)(hT:k.T+k.q.length<1000000000)(hx: ∀x∈k.q,0<=x/\x<1000000000)
  (hE:k.q=[]-> ∀h' k',kO h' k'->k'.bl=k.bl->k'.q=[]->k'.job=k.job->k'.T=k.T->aM k.bl h h'->K aB h')
  (hQ: ∀x q',k.q=q'++[x]-> ∀h' k',kO h' k'->k'.bl=k.bl->k'.q=q'->k'.job=x->k'.T+k'.q.length<=k.T+k.q.length->aM k.bl h h'->K aC h'):
  Cl 129 [bf k.w] h K:=by
 refine F129.spec ?_;simp only[aL,LX,Ma];refine aQ (n:=some (aw k.d)) (by rw[At.rd W.own];rfl) ?_;obtain⟨n1,n2,n3⟩:=W.ne;refine GE W.dw W.ds hT (λe h1 o f cs D1 _ W1 O1=>⟨_,_,rfl,?_⟩) λx q' T' e le h1 o f cs D1 _ W1 O1=>⟨_,_,rfl,?_⟩
 ·rw[aK];exact hE e h1 ⟨k.w,k.d,k.m,k.mc,cs,o,f,k.T,[],k.job⟩ ⟨W.own.only O1 (by simp;omega),W1,D1,W.ne⟩ rfl rfl rfl rfl (O1.mono λb hb _=>by simp[Wk.bl]at hb ⊢;omega)
 ·rw[aO];have a:=hx x (by rw[e];simp);refine aU (W.own.only O1 (by simp;omega)) ak rfl λh2 A2 O2 z2=> ?_;have lt:=W1.lt;rw[wrap_i64 (n:=x) ah ah]at A2;exact hQ x q' e h2 ⟨k.w,k.d,k.m,k.mc,cs,o,f,T',q',x⟩ ⟨A2,W1.only O2 (by simp;omega) (by simp;omega) (by simp;omega),D1,W.ne⟩ rfl rfl rfl le ((O1.mono λb hb _=>by simp[Wk.bl]at hb ⊢;omega).trans O2 λb hb _=>by simp[Wk.bl]at hb ⊢;omega)
def qI(k k':Wk):Prop:=k'.bl=k.bl/\k'.q=k.q/\k'.job=k.job/\k'.T=k.T
def fE(a b:List Wk):Prop:=b.length=a.length/\ ∀(i:Nat) (k:Wk),a[i]? =some k-> ∃k':Wk,b[i]? =some k'/\qI k k'
def fE.refl(a:List Wk):fE a a:=⟨rfl,λi k h=>⟨k,h,rfl,rfl,rfl,rfl⟩⟩
def fE.set{b:List Wk}(H:fE a b)(hi:b[i]? =some k)(e:qI k k'):fE a (b.set i k'):=by
 refine⟨by rw[No];exact H.1,λj x hx=> ?_⟩;obtain⟨y,hy,e1,e2,e3,e4⟩:=H.2 j x hx;rw[ME];by_cases hij:i=j
 ·subst hij;rw[hi]at hy;injection hy with hy;subst hy;rw[L4 rfl,L4 (Ml.1 hi).1];exact⟨k',rfl,e.1.trans e1,e.2.1.trans e2,e.2.2.1.trans e3,e.2.2.2.trans e4⟩
 ·rw[LY hij];exact⟨y,hy,e1,e2,e3,e4⟩
def qI.w{k k':Wk}(e:qI k k'):k'.w=k.w:=by have:=e.1;simp only[Wk.bl,Ng]at this;exact this.1
def dl{P:PS}(H:bO h p s P):rd h (aw p)=some (bf s)/\rd h ⟨p,1,none⟩=some (.slice P.wp P.ws.length P.wc)/\rd h ⟨p,2,none⟩=some (.map (some P.jb))/\rd h ⟨p,3,none⟩=some (ap (P.last:Int))/\rd h ⟨p,4,none⟩=some (ap P.steals):=
 ⟨by rw[At.rd H.own];rfl,by rw[At.rd H.own];rfl,by rw[At.rd H.own];rfl,by rw[At.rd H.own];rfl,by rw[At.rd H.own];rfl⟩
def zG{P:PS}(H:bO h p s P){k:Wk}(hi:P.ws[i]? =some k): ∃b,P.wp=some (aw b)/\rd h ⟨b,i,none⟩=some (bf k.w):=by
 have a:=(Ml.1 hi).1;obtain⟨b,e,r⟩:=H.wks.rd (j:=i) (by simpa using a);refine⟨b,e,?_⟩;rw[r,Mx,hi]
 rfl
def bO.set_cell{P:PS}(H:bO h p s P)(O:aM [p] h h')(A:At h' p (jg s {P with last:=l,steals:=st}))(hl:P.last<=l):bO h' p s {P with last:=l,steals:=st}:=by
 obtain⟨τ,t⟩:=H.sep;have np: ∀b,b∈[p]->τ b=0:=λb hb=>by simp only[LZ]at hb;subst hb;exact t.p
 refine⟨A,H.wks.only O λb e hm=> ?_,λk hk=>(H.wk k hk).only O λb hb hm=> ?_,H.jbm.only O λhm=> ?_,λj hj=>(H.ma j hj).only O λb hb hm=> ?_,⟨τ,t.p,t.jb,t.wp,t.ws,t.jobs⟩,H.ne,H.ids.1,λj hj=> ?_⟩
 ·simp only[LZ]at hm;subst hm;exact H.ne.2.1 (by rw[e];simp[aV])
 ·obtain⟨x,hx⟩:=MC.1 hk;have:=t.ws x k hx b hm;have:=np b hb;omega
 ·simp only[LZ]at hm;exact H.ne.1 hm.symm
 ·have:=t.jobs j hj b hm;have:=np b hb;omega
 ·have:=H.ids.2 j hj;show 1<=j.id/\j.id<=l;omega
def yT{P:PS}(H:bO h p s P){kw:Wk}(h0:P.ws[i0]? =some kw)(hn:P.ws.length<=1000)(hT: ∀k∈P.ws,k.T+k.q.length<1000000000)(hx: ∀k∈P.ws,∀x∈k.q,0<=x/\x<1000000000)(R:0<=P.steals/\P.steals<1000000000)
  (hN: ∀h' ws,bO h' p s {P with ws:=ws}->fE P.ws ws->(∀b,dD p {P with ws:=ws} b->dD p P b)->(∀S,(∀b,dD p P b->b∈S)->aM S h h')->K aB h')
  (hS: ∀h' ws i1 k1 x q1 c z F,fE P.ws ws->i1≠i0->ws[i1]? =some k1->k1.q=x::q1->ws[i0]? =some c->z.bl=k1.bl->z.q=q1->z.job=k1.job->z.T=k1.T+1->F=(ws.set i1 z).set i0 {c with job:=x}->bO h' p s {P with ws:=F,steals:=P.steals+1}->(∀b,dD p {P with ws:=F,steals:=P.steals+1} b->dD p P b)->(∀S,(∀b,dD p P b->b∈S)->aM S h h')->K aC h'):
  Cl 130 [bf p,bf kw.w,ap draw] h K:=by
 refine F130.spec _ _ _ h K ?_;simp only[aL,LX,Ma];refine bF (dl H).2.1 ?_;unfold F130.wk3;have O:i0<P.ws.length:=(Ml.1 h0).1
 have J: ∀(d i:Nat) (h1:aI) (ws:List Wk),i+d=P.ws.length->bO h1 p s {P with ws:=ws}->fE P.ws ws->(∀b,dD p {P with ws:=ws} b->dD p P b)->(∀S,(∀b,dD p P b->b∈S)->aM S h h1)->
   F130.wL3 (d+1) (aw p) (aw kw.w) draw (P.ws.length:Int) (P.ws.length:Int) (i:Int) h1 K:=by
  intro d
  induction d with
  |zero=>
   intro i h1 ws hi H1 E1 B1 O1;rw[F130.sL3];rw[L7 ah,aK];exact hN h1 ws H1 E1 B1 O1
  |succ d ih=>
   intro i h1 ws hi H1 E1 B1 O1;have el:ws.length=P.ws.length:=E1.1;have ew:ax ((i:Int)+1)=((i+1:Nat):Int):=by rw[wrap_i64 ah ah];omega
   rw[F130.sL3];rw[Mg ah,aO,ew];simp only[aL,LX,Ma]
   obtain⟨x,U,ex⟩: ∃x:Nat,x<P.ws.length/\(Int.tmod (ax ((Int.tmod (ax ((Int.tmod draw (P.ws.length:Int))+(i:Int))) (P.ws.length:Int))+(P.ws.length:Int))) (P.ws.length:Int))=(x:Int):=by
    obtain⟨n,L⟩: ∃n:Int,n=(P.ws.length:Int):=⟨_,rfl⟩;rw[<-L];have t:0<n:=ah;have b1:=OZ draw t;have b2: -n<draw.tmod n:=by have:=Int.lt_tmod_of_pos draw t;omega
    rw[wrap_i64 (n:=draw.tmod n+(i:Int)) ah ah];have c1:=OZ (draw.tmod n+(i:Int)) t;have c2: -n<(draw.tmod n+(i:Int)).tmod n:=by have:=Int.lt_tmod_of_pos (draw.tmod n+(i:Int)) t;omega
    rw[wrap_i64 (n:=(draw.tmod n+(i:Int)).tmod n+n) ah ah];have d1:=OZ ((draw.tmod n+(i:Int)).tmod n+n) t;have d2:=Int.tmod_nonneg n (a:=(draw.tmod n+(i:Int)).tmod n+n) ah;exact⟨(((draw.tmod n+(i:Int)).tmod n+n).tmod n).toNat,ah,ah⟩
   obtain⟨k1,g⟩: ∃k1,ws[x]? =some k1:=⟨_,Mj ah⟩;obtain⟨b,eb,rb⟩:=zG H1 g;rw[ex];refine bF (dl H1).2.1 ⟨ah,ah,ah,?_⟩;dsimp only at eb ⊢;rw[eb,aT,el];refine⟨ah,ah,?_⟩;simp only[aL,LX,Ma,Md,MU];refine aQ rb ?_;obtain⟨c,u,e0⟩:=E1.2 i0 kw h0;have D:=e0.w
   obtain⟨j,hj⟩: ∃j,Tryz.prog.info? 166=some j:=by
    cases hh:Tryz.prog.info? 166 with
    |none=>have:=HT;rw[hh]at this;cases this
    |some j=>exact⟨j,rfl⟩
   have M:Nat.beq j.size 0=false:=by have:=HT;rw[hj]at this;simpa using this
   have W1:=H1.wk k1 (Mc g);have Ww:=H1.wk c (Mc u);refine DQ KG hj M (λe=> ?_) λe=>⟨W1.own.cells,by rw[<-D];exact Ww.own.cells,?_⟩
   ·rw[aO];exact ih (i+1) h1 ws ah H1 E1 B1 O1
   ·rw[aK]
    have I:x≠i0:=λe'=>by subst e';rw[g]at u;injection u with u;subst u;exact e (by rw[D])
    rw[aT];simp only[aL,LX,Ma];refine aQ (n:=some (aw k1.d)) (by rw[At.rd W1.own];rfl) ?_;obtain⟨k0,G⟩: ∃k0,P.ws[x]? =some k0:=⟨_,Mj ah⟩;obtain⟨Q,v,q1,q2,q3,q4⟩:=E1.2 x k0 G;rw[g]at v;injection v with v;subst v;have B:=Mc G;have N:k1.T+k1.q.length<1000000000:=by rw[q2,q4];exact hT k0 B
    obtain⟨n1,n2,n3⟩:=W1.ne;have hp: ∀h2 S,(∀b,dD p P b->b∈S)->aM [k1.m,k1.mc] h1 h2->aM S h h2:=λh2 S hS O2=>(O1 S hS).trans O2 λb hb _=>hS b (B1 b (.inr (.inr (.inr (.inl ⟨k1,Mc g,by simp[Wk.bl]at hb ⊢;omega⟩)))));refine Ck W1.dw W1.ds N (λeq h2 o f W2 O2=>⟨_,_,rfl,?_⟩) λy q' eq h2 o f cs D2 _ W2 O2=>⟨_,_,rfl,?_⟩
    ·rw[aK];have Wn:kO h2 ⟨k1.w,k1.d,k1.m,k1.mc,k1.cs,o,f,k1.T,k1.q,k1.job⟩:=⟨W1.own.only O2 (by simp;omega),W2,W1.ds,W1.ne⟩;have H2:=H1.set_wk (k':=⟨k1.w,k1.d,k1.m,k1.mc,k1.cs,o,f,k1.T,k1.q,k1.job⟩) g O2 (λb hb=>by simp[Wk.bl]at hb ⊢;omega) Wn rfl;exact ih (i+1) h2 _ ah H2 (E1.set g ⟨rfl,rfl,rfl,rfl⟩) (λb hb=>B1 b (fN (P:={P with ws:=ws}) g (by rfl) hb)) λS hS=>hp h2 S hS O2
    ·rw[aO];have Wn:kO h2 ⟨k1.w,k1.d,k1.m,k1.mc,cs,o,f,k1.T+1,q',k1.job⟩:=⟨W1.own.only O2 (by simp;omega),W2,D2,W1.ne⟩;have H2:=H1.set_wk (k':=⟨k1.w,k1.d,k1.m,k1.mc,cs,o,f,k1.T+1,q',k1.job⟩) g O2 (λb hb=>by simp[Wk.bl]at hb ⊢;omega) Wn rfl;have A:(ws.set x ⟨k1.w,k1.d,k1.m,k1.mc,cs,o,f,k1.T+1,q',k1.job⟩)[i0]? =some c:=by rw[ME,LY I];exact u
     have Ww2:=H2.wk c (Mc A);have hy:0<=y/\y<1000000000:=hx k0 B y (by rw[<-q2,eq];simp);rw[wrap_i64 (n:=y) ah ah,<-D];refine aU Ww2.own ak rfl λh3 A3 O3 z3=> ?_;obtain⟨m1,m2,m3⟩:=Ww2.ne;have H3:=H2.set_wk (k':={c with job:=y}) A O3 (λb hb=>by simp[Wk.bl]at hb ⊢;omega) ⟨A3,Ww2.dw.only O3 (by simp;omega) (by simp;omega) (by simp;omega),Ww2.ds,Ww2.ne⟩ rfl;dsimp only at H3;refine aH (dl H3).2.2.2.2 ?_;dsimp only;rw[wrap_i64 (n:=P.steals+1) ah ah];refine aU H3.own (by simp[jg]) rfl λh4 A4 O4 z4=> ?_;have H4:=H3.set_cell (l:=P.last) (st:=P.steals+1) O4 (by simpa[jg]using A4) (Mb _);dsimp only at H4
     have hB: ∀b,dD p {P with ws:=(ws.set x ⟨k1.w,k1.d,k1.m,k1.mc,cs,o,f,k1.T+1,q',k1.job⟩).set i0 {c with job:=y},steals:=P.steals+1} b->dD p P b:=λb hb=>
      B1 b (fN (P:={P with ws:=ws}) (k':=⟨k1.w,k1.d,k1.m,k1.mc,cs,o,f,k1.T+1,q',k1.job⟩) g (by rfl) (fN (P:={P with ws:=ws.set x ⟨k1.w,k1.d,k1.m,k1.mc,cs,o,f,k1.T+1,q',k1.job⟩}) (k':={c with job:=y}) A (by rfl) hb))
     refine hS h4 ws x k1 y q' c ⟨k1.w,k1.d,k1.m,k1.mc,cs,o,f,k1.T+1,q',k1.job⟩ _ E1 I g eq u rfl rfl rfl rfl rfl H4 hB λS C=> ?_;refine((hp h2 S C O2).trans O3 λb hb _=> ?_).trans O4 λb hb _=> ?_
     ·simp only[LZ]at hb;subst hb;exact C _ (B1 _ (.inr (.inr (.inr (.inl ⟨c,Mc u,by simp[Wk.bl]⟩)))))
     ·simp only[LZ]at hb;subst hb;exact C _ (.inl rfl)
 exact⟨_,J P.ws.length 0 h P.ws ah H (fE.refl _) (λb hb=>hb) λS hS=>aM.refl _ _⟩
def iJ{α:Type}(f:α->Nat): ∀(l:List α) (i:Nat) (a a':α),l[i]? =some a->((l.set i a').map f).sum+f a=(l.map f).sum+f a'
 | [],i,a,a',h=>by simp at h
 |x::l,0,a,a',h=>by simp at h;subst h;simp;omega
 |x::l,i+1,a,a',h=>by have ih:=iJ f l i a a' (by simpa using h);simp only[Ni,Mz,Ot];omega
def fJ{α:Type}{l:List α}(h:l.Nodup){x y:Nat}{a:α}(hx:l[x]? =some a)(hy:l[y]? =some a):x=y:=by
 obtain⟨l1,e1⟩:=Ml.1 hx;obtain⟨l2,e2⟩:=Ml.1 hy;apply Mi;intro b;rcases Nat.lt_or_ge x y with h'|h'
 ·exact(NW.1 h) x y l1 l2 h' (e1.trans e2.symm)
 ·exact(NW.1 h) y x l2 l1 ah (e2.trans e1.symm)
def gG{α β:Type}(f:α->List β): ∀(l:List α) (i:Nat) (a a':α),l[i]? =some a->(f a++(l.set i a').flatMap f).Perm (f a'++l.flatMap f)
 | [],i,a,a',h=>by simp at h
 |x::l,0,a,a',h=>by simp at h;subst h;simp only[OX,Pg];exact OT _ _ _
 |x::l,i+1,a,a',h=>by have ih:=gG f l i a a' (by simpa using h);simp only[Ni,Pg];exact(OT _ _ _).trans ((ih.append_left _).trans (OT _ _ _))
def f7{l:List α}(h:x∈l.set i a):x=a\/ ∃j,j≠i/\l[j]? =some x:=by
 obtain⟨j,hj⟩:=MC.1 h;rw[ME]at hj;by_cases hij:i=j
 ·rw[L4 hij]at hj;split at hj
  ·injection hj with hj;exact .inl hj.symm
  ·cases hj
 ·rw[LY hij]at hj;exact .inr ⟨j,λe=>hij e.symm,hj⟩
def Wk.loc(k:Wk):List Int:=(if k.job=0 then []else [k.job])++k.q
def locs(ws:List Wk):List Int:=ws.flatMap Wk.loc
def qlen(ws:List Wk):Nat:=(ws.map λk=>k.q.length).sum
structure cd(n:Nat)(fo:Nat->Nat)(N:ay)(P:PS):Prop where
 mst: ∀j∈P.jobs,nN n fo N j.A/\gO n N j.A.fs<=800000/\iA n N j.A.fs<=131000
 at_: ∀x∈locs P.ws,∃j∈P.jobs,x=(j.id:Int)/\j.A.done=false
 one:(locs P.ws).Nodup
 loc: ∀j∈P.jobs,j.A.done=false->(j.id:Int)∈locs P.ws
 T: ∀k∈P.ws,k.T+k.q.length<=P.last
 len:1<=P.ws.length/\P.ws.length<=4
 last:P.last<100000000
 steals:0<=P.steals/\P.steals+(qlen P.ws:Int)<=(P.last:Int)
def ib(n:Nat)(N:ay)(A:MA):Nat:=if A.done=true then 0 else iA n N A.fs+1
def fH(n:Nat)(N:ay)(P:PS):Nat:=(P.jobs.map λj=>ib n N j.A).sum+qlen P.ws
def qI.loc{k k':Wk}(e:qI k k'):k'.loc=k.loc:=by unfold Wk.loc;rw[e.2.1,e.2.2.1]
def fE.map{β:Type}{a b:List Wk}(H:fE a b)(f:Wk->β)(hf: ∀k k',qI k k'->f k'=f k):b.map f=a.map f:=by
 apply MM;intro i;rw[Mx,Mx];cases h:a[i]? with
 |none=>
  rw[Mt (by have:=H.1;have:=MV.1 h;omega)]
 |some k=>
  obtain⟨k',h',e⟩:=H.2 i k h;rw[h'];simp[hf k k' e]
def fE.locs(H:fE a b):locs b=locs a:=by unfold Ev.locs;rw[List.flatMap_def,List.flatMap_def,H.map Wk.loc λk k' e=>e.loc]
def fE.qlen(H:fE a b):qlen b=qlen a:=by unfold Ev.qlen;rw[H.map (λk=>k.q.length) λk k' e=>by rw[e.2.1]]
def fE.mem(H:fE a b)(h:k'∈b): ∃k∈a,qI k k':=by obtain⟨i,hi⟩:=MC.1 h;have hl:=(Ml.1 hi).1;have h1:a[i]? =some (a[i]'(by have:=H.1;omega)):=Mj _;obtain⟨x,hx,e⟩:=H.2 i _ h1;rw[hi]at hx;injection hx with hx;subst hx;exact⟨_,List.getElem_mem _,e⟩
def cd.eq{P:PS}(H:cd n fo N P)(E:fE P.ws ws):cd n fo N {P with ws:=ws}/\fH n N {P with ws:=ws}=fH n N P:=by
 refine⟨⟨H.mst,?_,?_,?_,λk hk=> ?_,by show 1<=ws.length/\ws.length<=4;rw[E.1];exact H.len,H.last,?_⟩,?_⟩
 ·show ∀x∈locs ws,_;rw[E.locs];exact H.at_
 ·show(locs ws).Nodup;rw[E.locs];exact H.one
 ·show ∀j∈P.jobs,_->_∈locs ws;rw[E.locs];exact H.loc
 ·obtain⟨k0,h0,e⟩:=E.mem hk;have:=H.T k0 h0;rw[e.2.1,e.2.2.2];exact this
 ·show 0<=P.steals/\P.steals+(qlen ws:Int)<=_;rw[E.qlen];exact H.steals
 ·unfold fH;show _+qlen ws=_;rw[E.qlen]
def nN.frs{A:MA}(M:nN n fo N A): ∀f∈A.fs,dp n fo N f:=λf hf=>by
 rcases M with⟨-,-,-,R⟩|⟨-,h,-⟩
 ·exact R.frs f hf
 ·rw[h]at hf;cases hf
def nN.ext(ok:cX n N)(E:Ex N N')(M:nN n fo N A):nN n fo N' A:=by
 rcases M with⟨h1,h2,h3,R⟩|⟨h1,h2,R⟩
 ·exact .inl ⟨h1,h2,h3,R.ext ok E⟩
 ·exact .inr ⟨h1,h2,R.imp (λz=>⟨z.1,E.isN z.2⟩) id⟩
def nN.same{A:MA}(ok:cX n N)(E:Ex N N')(M:nN n fo N A):gO n N' A.fs=gO n N A.fs/\iA n N' A.fs=iA n N A.fs/\ib n N' A=ib n N A:=by have h:=sQ ok E M.frs;unfold ib;rw[h.2];exact⟨h.1,rfl,rfl⟩
def cd.step{n:Nat}{fo:Nat->Nat}{N N':ay}{P:PS}(H:cd n fo N P)(ok:cX n N)(E:Ex N N'){i w:Nat}{j:Jb}{k:Wk}{A':MA}(ids:(P.jobs.map (·.id)).Nodup)(pos:1<=j.id)(hi:P.jobs[i]? =some j)(hw:P.ws[w]? =some k)(hj:k.job=(j.id:Int))(M:nN n fo N' A')(o:j.A.done=false)
  (hm:gO n N' A'.fs<=gO n N j.A.fs) (hc:iA n N' A'.fs<=iA n N j.A.fs) (hq:A'.done=true\/iA n N' A'.fs+1<=iA n N j.A.fs):
  cd n fo N' {P with jobs:=P.jobs.set i {j with A:=A'},ws:=if A'.done=true then P.ws.set w {k with job:=0}else P.ws}/\
  fH n N' {P with jobs:=P.jobs.set i {j with A:=A'},ws:=if A'.done=true then P.ws.set w {k with job:=0}else P.ws}+1<=fH n N P:=by
 have l:=Mc hi;have u:=(Ml.1 hi).1;have g:=Mc hw;have B:=(Ml.1 hw).1
 have uniq: ∀y∈P.jobs,y.id=j.id->y=j:=λy hy e=>by
  obtain⟨x,hx⟩:=MC.1 hy;have h1:(P.jobs.map (·.id))[x]? =some j.id:=by rw[Mx,hx];simp[e]
  have h2:(P.jobs.map (·.id))[i]? =some j.id:=by rw[Mx,hi];rfl
  have:=fJ ids h1 h2;subst this;rw[hi]at hx;injection hx with hx;exact hx.symm
 have t:k.job≠0:=ah;have kl:k.loc=k.job::k.q:=by unfold Wk.loc;rw[LY t];rfl
 have rest: ∀y∈P.jobs.set i {j with A:=A'},y={j with A:=A'}\/(y∈P.jobs/\y.id≠j.id):=λy hy=>by
  rcases f7 hy with h|⟨x,hx,h⟩
  ·exact .inl h
  ·refine .inr ⟨Mc h,λe=>hx ?_⟩;have:=uniq y (Mc h) e;subst this;exact fJ ids (x:=x) (y:=i) (a:=y.id) (by rw[Mx,h];rfl) (by rw[Mx,hi];rfl)
 have same: ∀y∈P.jobs,gO n N' y.A.fs=gO n N y.A.fs/\iA n N' y.A.fs=iA n N y.A.fs/\ib n N' y.A=ib n N y.A:=λy hy=>(H.mst y hy).1.same ok E
 have d: ∀y∈P.jobs.set i {j with A:=A'},nN n fo N' y.A/\gO n N' y.A.fs<=800000/\iA n N' y.A.fs<=131000:=λy hy=>by
  rcases rest y hy with h|⟨h,-⟩
  ·subst h;have:=(H.mst j l).2;exact⟨M,by show gO n N' A'.fs<=800000;omega,by show iA n N' A'.fs<=131000;omega⟩
  ·exact⟨(H.mst y h).1.ext ok E,by rw[(same y h).1,(same y h).2.1];exact(H.mst y h).2⟩
 have up: ∀y∈P.jobs,y.id≠j.id->y∈P.jobs.set i {j with A:=A'}:=λy hy c=>by
  obtain⟨x,hx⟩:=MC.1 hy;refine MC.2 ⟨x,?_⟩;rw[ME,LY λe=> ?_]
  ·exact hx
  ·subst e;rw[hi]at hx;injection hx with hx;subst hx;exact c rfl
 have v:{j with A:=A'}∈P.jobs.set i {j with A:=A'}:=MC.2 ⟨i,by rw[ME,L4 rfl,L4 u]⟩;have m:=iJ (λy:Jb=>ib n N' y.A) P.jobs i j {j with A:=A'} hi;have e1:P.jobs.map (λy:Jb=>ib n N' y.A)=P.jobs.map λy=>ib n N y.A:=Nb λy hy=>(same y hy).2.2;rw[e1]at m;have s1:=(same j l).2.2;dsimp only at m
 have q:ib n N' A'+1<=ib n N j.A:=by
  unfold ib;rw[o,LY (show ¬false=true by simp)];rcases hq with z|z
  ·rw[L4 z];omega
  ·split
   ·omega
   ·omega
 by_cases hd:A'.done=true
 ·simp only[L4 hd];have perm:=gG Wk.loc P.ws w k {k with job:=0} hw;have k0:({k with job:=0}:Wk).loc=k.q:=by unfold Wk.loc;simp
  rw[kl,k0]at perm
  have perm:(k.job::locs (P.ws.set w {k with job:=0})).Perm (locs P.ws):=by
   have p2:(k.q++(k.job::locs (P.ws.set w {k with job:=0}))).Perm (k.q++locs P.ws):=by refine List.Perm.trans ?_ perm;exact Pi
   exact(NV _).1 p2
  have nd:=perm.nodup_iff.2 H.one;have f:=(MO.1 nd);have ql:=iJ (λk:Wk=>k.q.length) P.ws w k {k with job:=0} hw;dsimp only at ql;refine⟨⟨d,λx hx=> ?_,f.2,λy hy b=> ?_,λx hx=> ?_,by show 1<=(P.ws.set w _).length/\(P.ws.set w _).length<=4;rw[No];exact H.len,H.last,?_⟩,?_⟩
  ·obtain⟨y,hy,e,b⟩:=H.at_ x (perm.mem_iff.1 (My _ hx));refine⟨y,up y hy λe'=> ?_,e,b⟩;have:x=k.job:=by rw[e,e',hj]
   subst this;exact f.1 hx
  ·rcases rest y hy with h|⟨h,c⟩
   ·subst h;rw[hd]at b;cases b
   ·have:=perm.mem_iff.2 (H.loc y h b);rcases List.mem_cons.1 this with e|e
    ·exfalso;rw[hj]at e;exact c ah
    ·exact e
  ·rcases f7 hx with h|⟨z,-,h⟩
   ·subst h;exact H.T k g
   ·exact H.T x (Mc h)
  ·have:=H.steals;unfold qlen at this ⊢;dsimp only;omega
  ·unfold fH qlen;dsimp only;omega
 ·simp only[LY hd];have hd:A'.done=false:=by cases h:A'.done<;>simp_all
  refine⟨⟨d,λx hx=> ?_,H.one,λy hy b=> ?_,H.T,H.len,H.last,H.steals⟩,?_⟩
  ·obtain⟨y,hy,e,b⟩:=H.at_ x hx;by_cases c:y.id=j.id
   ·exact⟨_,v,by show x=(j.id:Int);rw[e,c],hd⟩
   ·exact⟨y,up y hy c,e,b⟩
  ·rcases rest y hy with h|⟨h,c⟩
   ·subst h;refine Nz.2 ⟨k,g,?_⟩;rw[kl,hj];exact Og
   ·exact H.loc y h b
  ·unfold fH;dsimp only;omega
end Go.Proofs.YtnofenejoebkhaaGreat.Ev
