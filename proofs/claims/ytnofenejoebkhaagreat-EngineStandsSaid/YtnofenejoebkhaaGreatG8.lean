/- PART 8 OF WHAT THE LAW EngineStands STANDS ON: SgA5, RnkP, RnkF5, RnkC5, RnkD5, RnkF515, RnkG5, RnkE5, PlnA5, SgB5, SgC5, EngS5, EngTv5, EvQ, LawU5. Conditions: none but those that each lemma states. -/
import Derived.Test.YtnofenejoebkhaaGreatG7
namespace Go.Proofs.YtnofenejoebkhaaGreat.Ev
open Go
set_option linter.defProp false
section
structure nD(h:aH)(s n room:Nat)(fo gg:Nat->Nat)(off:Bool)(N:ay)(L:List Nat)(rs:List Nat)(G:Nat->Nat->Bool)(cb lo:Nat)(p:az)(c:Nat):Prop where
 S:cI h s L (XL n room fo gg N off)
 P:dJ n fo gg
 Ow:cj h lo 1 p rs.length c (rs.map hv)
 np: ∀y∈aX p,y∉L
 ir: ∀r∈rs,isN N r/\ ∀x,sm n fo N r x=G r x
 rl:rs.length<=100000
 cn:be N<=cb
 cl:255*rs.length<=cb
def yy{n:Nat}{fo:Nat->Nat}{N:ay}{keep:Nat->Bool}{rs:List Nat}(H:dz n N)(M:Mk N rs keep []){r:Nat}(hr:r∈rs)(ir:isN N r):isN (bP keep N) r/\ ∀x,sm n fo (bP keep N) r x=sm n fo N r x:=by
 have cl: ∀i x,nd N i=some x->keep (i+2)=true->(x.2.1<2\/keep x.2.1=true)/\(x.2.2<2\/keep x.2.2=true):=λi x hx hk=>by have:=M.cl i x hx hk;simpa using this
 obtain⟨ok,is1,ex⟩:=nY H cl
 have i1:isN (bP keep N) r:=by
  rw[is1];rcases M.ro r hr with q|q|q
  ·exact .inl q
  ·exact .inr ⟨ir,q⟩
  ·cases q
 exact⟨i1,λx=>(ex.sm ok i1).symm⟩
def desc(N:ay):Nat->Nat->List Nat
 |0,_=> []
 |d+1,a=>if a<2 then []else a::(desc N d (low N a)++desc N d (high N a))
def Ap{N:ay}: ∀(d a:Nat),(desc N d a).length+1<=2^d:=by
 intro d
 induction d with
 |zero=>intro a;simp[desc]
 |succ d ih=>
  intro a;unfold desc;have:=Nat.two_pow_pos d;split
  ·rw[Nat.pow_succ];simp;omega
  ·have h1:=ih (low N a);have h2:=ih (high N a);rw[Nat.pow_succ,List.length_cons,List.length_append];omega
def mA{n:Nat}{N:ay}(H:dz n N){r:Nat}(ir:isN N r): ∀{d},n-lvl n N r<=d->r<2\/r∈desc N d r:=λ{d} hd=>by
 by_cases q:r<2
 ·exact .inl q
 ·have:=(H.at ir ah).1;obtain⟨e,he⟩: ∃e,d=e+1:=⟨d-1,ah⟩;subst he;refine .inr ?_;unfold desc;rw[if_neg q];exact List.mem_cons_self
def CS{n:Nat}{N:ay}(H:dz n N): ∀(d:Nat) {r a:Nat},isN N r->n-lvl n N r<=d->a∈desc N d r->(low N a<2\/low N a∈desc N d r)/\(high N a<2\/high N a∈desc N d r):=by
 intro d
 induction d with
 |zero=>intro r a _ _ h;cases h
 |succ d ih=>
  intro r a ir hd h;unfold desc at h ⊢;by_cases q:r<2
  ·rw[if_pos q]at h;cases h
  rw[if_neg q]at h ⊢;obtain⟨h3,h4,h5,-,h6,h7⟩:=H.at ir ah;rcases List.mem_cons.1 h with e|h
  ·subst e;exact⟨(mA H h4 ah).imp id λm=>List.mem_cons_of_mem _ (List.mem_append.2 (.inl m)),(mA H h5 ah).imp id λm=>List.mem_cons_of_mem _ (List.mem_append.2 (.inr m))⟩
  ·rcases List.mem_append.1 h with m|m
   ·obtain⟨m1,m2⟩:=ih h4 ah m;exact⟨m1.imp id λm=>List.mem_cons_of_mem _ (List.mem_append.2 (.inl m)),m2.imp id λm=>List.mem_cons_of_mem _ (List.mem_append.2 (.inl m))⟩
   ·obtain⟨m1,m2⟩:=ih h5 ah m;exact⟨m1.imp id λm=>List.mem_cons_of_mem _ (List.mem_append.2 (.inr m)),m2.imp id λm=>List.mem_cons_of_mem _ (List.mem_append.2 (.inr m))⟩
def we{n:Nat}{N:ay}{keep:Nat->Bool}{rs:List Nat}(H:dz n N)(n8:n<=8)(M:Mk N rs keep [])(ir: ∀r∈rs,isN N r):be (bP keep N)<=255*rs.length:=by
 obtain⟨mi,-⟩:=M.mi (λb=>b<2\/b∈rs.flatMap (desc N n)) (λr hr=>(mA H (ir r hr) ah).imp id λm=>List.mem_flatMap.2 ⟨r,hr,m⟩) λi x hx hp=>by
  obtain⟨e0,e1,e2,e3⟩:=dL (n:=n) hx;rcases hp with q|q
  ·omega
  ·obtain⟨r,hr,m⟩:=List.mem_flatMap.1 q;obtain⟨m1,m2⟩:=CS H n (ir r hr) ah m;rw[e2]at m1;rw[e3]at m2;exact⟨m1.imp id λm=>List.mem_flatMap.2 ⟨r,hr,m⟩,m2.imp id λm=>List.mem_flatMap.2 ⟨r,hr,m⟩⟩
 have sub: ∀a∈nB (bP keep N),a∈rs.flatMap (desc N n):=λa ha=>by
  obtain⟨a2,x,hx⟩:=wG.1 ha;rw[pG]at hx;split at hx
  ·next hk=>
   rw[show a-2+2=a by omega]at hk;exact(mi a hk).resolve_left ah
  ·cases hx
 have nd:(nB (bP keep N)).Nodup:=(yW (N:=bP keep N) _).imp λh=>Nat.ne_of_lt h;have h1:=nd.length_le_of_subset sub
 have h2:(rs.flatMap (desc N n)).length<=255*rs.length:=by
  clear h1 nd sub mi ir M
  induction rs with
  |nil=>simp
  |cons r l ih=>
   rw[List.flatMap_cons,List.length_append,List.length_cons];have:=Ap (N:=N) n r;have:2^n<=2^8:=Nat.pow_le_pow_right ah n8;omega
 rw[<-nW];omega
def F5(s:Nat)(p:az)(l c:Nat):Value:= .agg #[bh s,.slice p l c]
section
variable {h h':aH}{s n room lo c k v level:Nat}{fo gg fo' gg':Nat->Nat}{off:Bool}{N N':ay}{L L':List Nat}{rs:List Nat}{G:Nat->Nat->Bool}{cb:Nat}{p:az}{K:KK}
def nD.lt(S:nD h s n room fo gg off N L rs G cb lo p c): ∀y∈aX p,y<h.size:=λy hy=>(S.Ow.lt y hy).2
def nD.next(S:nD h s n room fo gg off N L rs G cb lo p c)(S':cI h' s L' (XL n room fo' gg' N' off))(P':dJ n fo' gg')(O:aM L h h')(F:bH L L' h)(ir: ∀r∈rs,isN N' r/\ ∀x,sm n fo' N' r x=G r x)(cn:be N'<=cb):nD h' s n room fo' gg' off N' L' rs G cb lo p c:=
 ⟨S',P',S.Ow.only O λb e=>S.np b (by rw[e];simp[aX]),λy hy hm=>by
  rcases F y hm with q|q
  ·exact S.np y hy q
  ·have:=S.lt y hy;omega,ir,S.rl,cn,S.cl⟩
def nD.only0(S:nD h s n room fo gg off N L rs G cb lo p c)(O:aM [] h h'):nD h' s n room fo gg off N L rs G cb lo p c:=S.next (S.S.only0 O) S.P (O.mono ak) (bH.refl _ _) S.ir S.cn
def AW(S:nD h s n room fo gg off N L rs G cb lo p c)(hK: ∀h' L' N' gone,nD h' s n room fo gg off N' L' rs G cb lo p c->aM L h h'->bH L L' h->K (.tuple #[al gone,al 0]) h'):
  Cl 218 [bh s,.slice p rs.length c] h K:=by
 refine kr (λkeep=>QL n fo (bP keep N)) S.S S.Ow (λr hr=>(S.ir r hr).1) S.rl λh1 L1 gone keep M S1 O1 F1=>hK h1 L1 (bP keep N) gone ?_ O1 F1;have S1:cI h1 s L1 (XL n room fo gg (bP keep N) off):=S1;have M:Mk N rs keep []:=M;have ok:dz n N:=S.S.ok.1;have n8:n<=8:=S.S.ok.2.2.1;refine S.next S1 S.P O1 F1 (λr hr=> ?_) (Nat.le_trans (we ok n8 M λr hr=>(S.ir r hr).1) S.cl);obtain⟨i1,e1⟩:=yy (fo:=fo) ok M hr (S.ir r hr).1;exact⟨i1,λx=>by rw[e1,(S.ir r hr).2]⟩
set_option maxRecDepth 100000 in
def EF(S:nD h s n room fo gg off N L rs G cb lo p c)(hk:k+1<n)(hF: ∀h',aM [] h h'->K (al 60) h')
  (hK: ∀h' L' N',nD h' s n room (sw k fo) (so k fo gg) off N' L' rs G cb lo p c->aM L h h'->bH L L' h->K (al 0) h'):Cl 312 [F5 s p rs.length c,al (k:Int)] h K:=by
 refine F312.spec ?_;refine aV λh1 A1 O1 z1=> ?_;simp only[aL,Nat.zero_add];have S1:=S.only0 O1;refine aR (n:=some (aw s)) (by rw[At.rd A1];rfl) ?_;refine Dz S1.S hk S1.P (λh2 O2=>aI rfl ?_) λh2 L2 N2 sms S2 O2 F2=>aI rfl ?_
 ·rw[show((60:Int) !=0)=true from rfl,aO];exact hF h2 (O1.trans O2 ak)
 rw[show((0:Int) !=0)=false from rfl,aJ];have S2:cI h2 s L2 {XL n room (sw k fo) (so k fo gg) N2 off with Q:=QL n fo N}:=S2;have sms: ∀a,isN N a->isN N2 a/\ ∀x,sm n (sw k fo) N2 a x=sm n fo N a x:=sms;have nb:h.size∉L:=λhm=>by have:=S.S.lt _ hm;omega
 have A2:=A1.only O2 nb;refine aR (n:=some (aw s)) (by rw[At.rd A2];rfl) (bo (p:=p) (l:=rs.length) (c:=c) (by rw[At.rd A2];rfl) ?_);have Ow2:=S1.Ow.only O2 λb e=>S1.np b (by rw[e];simp[aX]);have ok2:dz n N2:=S2.ok.1;refine kr (λkeep=>QL n (sw k fo) (bP keep N2)) S2 Ow2 (λr hr=>(sms r (S.ir r hr).1).1) S.rl λh3 L3 gone keep M S3 O3 F3=>⟨_,_,rfl,?_⟩;have S3:cI h3 s L3 (XL n room (sw k fo) (so k fo gg) (bP keep N2) off):=S3;have M:Mk N2 rs keep []:=M;have O13:aM L h1 h3:=O2.app O3 F2;have F13:bH L L3 h1:=F2.trans F3 O2.size;refine hK h3 L3 _ (S1.next S3 (Cr S.P hk) O13 F13 (λr hr=> ?_) (Nat.le_trans (we ok2 S.S.ok.2.2.1 M λr hr=>(sms r (S.ir r hr).1).1) S.cl)) ((O1.mono ak).trans O13 λy hy _=>hy) λy hy=>(F13 y hy).imp id λq=>by have:=O1.size;omega
 obtain⟨i0,e0⟩:=sms r (S.ir r hr).1;obtain⟨i1,e1⟩:=yy (fo:=sw k fo) ok2 M hr i0;exact⟨i1,λx=>by rw[e1,e0,(S.ir r hr).2]⟩
set_option maxRecDepth 100000 in
def Ek(S:nD h s n room fo gg off N L rs G cb lo p c)(hv:v<n)(hl:level<n)
  (hK: ∀h' L' fo' gg' N' e,e=0\/e=60->nD h' s n room fo' gg' off N' L' rs G cb lo p c->aM L h h'->bH L L' h->K (al e) h'):Cl 291 [F5 s p rs.length c,al (v:Int),al (level:Int)] h K:=by
 have ok:=S.S.ok;dsimp only[XL]at ok;have n8:=ok.2.2.1;refine F291.spec _ _ _ _ _ _ h K ?_;refine aV λh1 A1 O1 z1=> ?_;unfold F291.wk1
 have main: ∀(d:Nat) (k:aH) (L1:List Nat) (fo1 gg1:Nat->Nat) (N1:ay),(gg1 v-level)+(level-gg1 v)<=d->nD k s n room fo1 gg1 off N1 L1 rs G cb lo p c->h.size∉L1->At k h.size [bh s,.slice p rs.length c]->aM L h1 k->bH L L1 h1->
   F291.wL1 (d+1) (v:Int) (level:Int) (aw h.size) k K:=by
  intro d
  induction d with
  |zero=>
   intro k L1 fo1 gg1 N1 hd S1 nb A O F;rw[F291.sL1];simp only[aL,Nat.zero_add];refine aR (n:=some (aw s)) (by rw[At.rd A];rfl) (ic S1.S λc2 k2 Or g2 O2=>aR rfl (mN Or n8 hv (aI rfl ?_)));show aK (((gg1 v:Nat):Int)==(level:Int)) _ _;rw[show(((gg1 v:Nat):Int)==(level:Int))=true by rw[beq_iff_eq];omega,aO];exact hK k2 L1 fo1 gg1 N1 0 (.inl rfl) (S1.only0 O2) (((O1.mono ak).trans O λy hy _=>hy).trans (O2.mono ak) λy hy _=>hy) λy hy=>(F y hy).imp id λq=>by have:=O1.size;omega
  |succ d ih=>
   intro k L1 fo1 gg1 N1 hd S1 nb A O F;rw[F291.sL1];simp only[aL,Nat.zero_add];refine aR (n:=some (aw s)) (by rw[At.rd A];rfl) (ic S1.S λc2 k2 Or g2 O2=>aR rfl (mN Or n8 hv (aI rfl ?_)));show aK (((gg1 v:Nat):Int)==(level:Int)) _ _;by_cases e:gg1 v=level
   ·rw[show(((gg1 v:Nat):Int)==(level:Int))=true by rw[beq_iff_eq];omega,aO];exact hK k2 L1 fo1 gg1 N1 0 (.inl rfl) (S1.only0 O2) (((O1.mono ak).trans O λy hy _=>hy).trans (O2.mono ak) λy hy _=>hy) λy hy=>(F y hy).imp id λq=>by have:=O1.size;omega
   rw[show(((gg1 v:Nat):Int)==(level:Int))=false by rw[beq_eq_false_iff_ne];omega,aJ];have A2:=A.only O2 ak;have S2:=S1.only0 O2;refine aR (n:=some (aw s)) (by rw[At.rd A2];rfl) (bo (p:=p) (l:=rs.length) (c:=c) (by rw[At.rd A2];rfl) ?_);obtain⟨gv,ev⟩:=S1.P.1 v hv
   obtain⟨j,ej,hj,hlt⟩: ∃j:Nat,(if(if(level:Int)>(ax (((gg1 v:Nat):Int)-(1:Int)))then(level:Int)else(ax (((gg1 v:Nat):Int)-(1:Int))))<((gg1 v:Nat):Int)then(if(level:Int)>(ax (((gg1 v:Nat):Int)-(1:Int)))then(level:Int)else(ax (((gg1 v:Nat):Int)-(1:Int))))else((gg1 v:Nat):Int))=(j:Int)/\j+1<n/\(if level<gg1 v then j+1=gg1 v else j=gg1 v):=by
    rw[wrap_i64 ah ah];by_cases q:level<gg1 v
    ·refine⟨gg1 v-1,?_,ah,by rw[if_pos q];omega⟩;rw[if_neg (show ¬(level:Int)>((gg1 v:Nat):Int)-1 by omega),if_pos (show((gg1 v:Nat):Int)-1<((gg1 v:Nat):Int) by omega)];omega
    ·refine⟨gg1 v,?_,ah,by rw[if_neg q]⟩;rw[if_pos (show(level:Int)>((gg1 v:Nat):Int)-1 by omega),if_neg (show ¬(level:Int)<((gg1 v:Nat):Int) by omega)]
   show Cl 312 [F5 s p rs.length c,al (if(if(level:Int)>(ax (((gg1 v:Nat):Int)-(1:Int)))then(level:Int)else(ax (((gg1 v:Nat):Int)-(1:Int))))<((gg1 v:Nat):Int)then(if(level:Int)>(ax (((gg1 v:Nat):Int)-(1:Int)))then(level:Int)else(ax (((gg1 v:Nat):Int)-(1:Int))))else((gg1 v:Nat):Int))] _ _;rw[ej];refine EF S2 hj (λk3 O3=>aI rfl ?_) λk3 L3 N3 S3 O3 F3=>aI rfl ?_
   ·rw[show((60:Int) !=0)=true from rfl,aO];exact hK k3 L1 fo1 gg1 N1 60 (.inr rfl) (S2.only0 O3) ((((O1.mono ak).trans O λy hy _=>hy).trans (O2.mono ak) λy hy _=>hy).trans (O3.mono ak) λy hy _=>hy) λy hy=>(F y hy).imp id λq=>by have:=O1.size;omega
   rw[show((0:Int) !=0)=false from rfl,aJ];have s2:=O2.size;have lA:=A.lt
   have nb3:h.size∉L3:=λhm=>by
    rcases F3 _ hm with q|q
    ·exact nb q
    ·omega
   have gv':so j fo1 gg1 v=if level<gg1 v then j else j+1:=by
    unfold so upd;by_cases q:level<gg1 v
    ·rw[if_pos q]at hlt ⊢;have e1:fo1 (j+1)=v:=by rw[hlt];exact ev
     have e0:v≠fo1 j:=λe=>by have:=(S1.P.2 j ah).2;rw[<-e]at this;omega
     rw[if_neg e0,if_pos e1.symm]
    ·rw[if_neg q]at hlt ⊢;rw[if_pos (by rw[hlt];exact ev.symm)]
   have O23:aM L1 k k3:=(O2.mono ak).trans O3 λy hy _=>hy;have F23:bH L1 L3 k:=λy hy=>(F3 y hy).imp id λq=>ah
   refine ih k3 L3 _ _ N3 (by
    rw[gv'];by_cases q:level<gg1 v
    ·rw[if_pos q]at hlt ⊢;omega
    ·rw[if_neg q]at hlt ⊢;omega) S3 nb3 (A2.only O3 nb) (O.app O23 F) (F.trans F23 O.size)
 have nb:h.size∉L:=λhm=>by have:=S.S.lt _ hm;omega
 exact⟨_,main _ h1 L fo gg N (Nat.le_refl _) (S.only0 O1) nb A1 (aM.refl _ _) (bH.refl _ _)⟩
def yn(S:nD h s n room fo gg off N L rs G cb lo p c)(hK: ∀h' (z:Int),aM [] h h'->K (al z) h'):Cl 255 [F5 s p rs.length c] h K:=by refine F255.spec ?_;refine aV λh1 A1 O1 z1=> ?_;simp only[aL,Nat.zero_add];refine aR (n:=some (aw s)) (by rw[At.rd A1];rfl) (bo (p:=p) (l:=rs.length) (c:=c) (by rw[At.rd A1];rfl) ?_);have S1:=S.only0 O1;refine F51.spec ?_;refine pE S1.S S1.Ow (λr hr=>(S.ir r hr).1) S.rl λh2 mb mo keep M Kp gm e O2=>⟨_,_,rfl,?_⟩;obtain⟨es,cl,m1,m2,-⟩:=M;exact⟨es,cl,m1,_,_,rfl,hK h2 _ (O1.trans O2 ak)⟩
set_option maxRecDepth 100000 in
def Ft(S:nD h s n room fo gg off N L rs G cb lo p c)(hv:v<n)
  (hK: ∀h' L' fo' gg' N' e,e=0\/e=60->nD h' s n room fo' gg' off N' L' rs G cb lo p c->aM L h h'->bH L L' h->K (al e) h'):Cl 257 [F5 s p rs.length c,al (v:Int)] h K:=by
 have ok:=S.S.ok;dsimp only[XL]at ok;have n8:=ok.2.2.1;refine F257.spec _ _ _ _ _ h K ?_;refine aV λh1 A1 O1 z1=> ?_;simp only[aL,Nat.zero_add];have S1:=S.only0 O1;refine aR (n:=some (aw s)) (by rw[At.rd A1];rfl) (fD S1.S (aI rfl ?_));unfold F257.wk3;have nb:h.size∉L:=λhm=>by have:=S.S.lt _ hm;omega
 have main: ∀(d l:Nat) (k:aH) (L1:List Nat) (fo1 gg1:Nat->Nat) (N1:ay) (best:Nat) (least:Int),l+d=n->best<n->nD k s n room fo1 gg1 off N1 L1 rs G cb lo p c->h.size∉L1->At k h.size [bh s,.slice p rs.length c]->aM L h1 k->bH L L1 h1->
   F257.wL3 (d+1) (v:Int) (aw h.size) (best:Int) least (n:Int) (l:Int) k K:=by
  intro d
  induction d with
  |zero=>
   intro l k L1 fo1 gg1 N1 best least hl hb S2 nb2 A O F;rw[F257.sL3];rw[decide_eq_false ah,aJ];unfold F257.wk12;simp only[aL,Nat.zero_add];refine aR (n:=some (aw s)) (by rw[At.rd A];rfl) (bo (p:=p) (l:=rs.length) (c:=c) (by rw[At.rd A];rfl) ?_);refine Ek (level:=best) S2 hv hb λh3 L3 fo3 gg3 N3 e he S3 O3 F3=>aI rfl ?_;have O13:=O.app O3 F;have F13:=F.trans F3 O.size;exact hK h3 L3 fo3 gg3 N3 e he S3 ((O1.mono ak).trans O13 λy hy _=>hy) λy hy=>(F13 y hy).imp id λq=>by have:=O1.size;omega
  |succ d ih=>
   intro l k L1 fo1 gg1 N1 best least hl hb S2 nb2 A O F;rw[F257.sL3];rw[decide_eq_true ah,aO];simp only[aL,Nat.zero_add];refine aR (n:=some (aw s)) (by rw[At.rd A];rfl) (bo (p:=p) (l:=rs.length) (c:=c) (by rw[At.rd A];rfl) ?_);refine Ek (level:=l) S2 hv ah λh3 L3 fo3 gg3 N3 e he S3 O3 F3=>aI rfl ?_;have O13:=O.app O3 F;have F13:=F.trans F3 O.size;rcases he with q|q
   ·subst q;rw[show((0:Int) !=0)=false from rfl,aJ];have lA:=A.lt;have A3:=A.only O3 nb2
    have nb3:h.size∉L3:=λhm=>by
     rcases F3 _ hm with q|q
     ·exact nb2 q
     ·omega
    refine aR (n:=some (aw s)) (by rw[At.rd A3];rfl) (bo (p:=p) (l:=rs.length) (c:=c) (by rw[At.rd A3];rfl) ?_);refine yn S3 λh4 z O4=>aI rfl ?_;have S4:=S3.only0 O4;have A4:=A3.only O4 ak;have O34:aM L1 k h4:=O3.trans (O4.mono ak) λy hy _=>hy;have O14:=O.app O34 F;have F14:=F.trans F3 O.size;have ew:ax ((l:Int)+1)=((l+1:Nat):Int):=by rw[wrap_i64 ah ah];omega
    rw[ew];exact aT (λ_=>ih (l+1) h4 L3 fo3 gg3 N3 l z ah ah S4 nb3 A4 O14 F14) λ_=>aT (λ_=>ih (l+1) h4 L3 fo3 gg3 N3 l z ah ah S4 nb3 A4 O14 F14) λ_=>ih (l+1) h4 L3 fo3 gg3 N3 best least ah hb S4 nb3 A4 O14 F14
   ·subst q;rw[show((60:Int) !=0)=true from rfl,aO];exact hK h3 L3 fo3 gg3 N3 60 (.inr rfl) S3 ((O1.mono ak).trans O13 λy hy _=>hy) λy hy=>(F13 y hy).imp id λq=>by have:=O1.size;omega
 exact⟨_,main n 0 h1 L fo gg N 0 (-1) ah ah S1 nb A1 (aM.refl _ _) (bH.refl _ _)⟩
def HJ(S:nD h s n room fo gg off N L rs G cb lo p c)(hK: ∀h' (z:Int),aM [] h h'->K (al z) h'):Cl 254 [.slice p rs.length c] h K:=by
 have rl:=S.rl;refine F254.spec _ _ _ h K ?_;refine fi (k:= .u32) λh1 M1 O1 z1=> ?_;unfold F254.wk3
 have main: ∀(d t:Nat) (k:aH) (mo:List (Int×Value)),t+d=rs.length->bO k h.size .u32 mo->aM [h.size] h1 k->F254.wL3 (d+1) (some h.size) p rs.length c (rs.length:Int) (t:Int) k K:=by
  intro d
  induction d with
  |zero=>
   intro t k mo ht M O;rw[F254.sL3];rw[decide_eq_false ah,aJ];unfold F254.wk8;obtain⟨es,cl,m1,m2,-⟩:=M;exact⟨es,cl,m1,hK k _ (O1.trans O λy hy hl=>by simp only[List.mem_singleton]at hy;omega)⟩
  |succ d ih=>
   intro t k mo ht M O;rw[F254.sL3];rw[decide_eq_true ah,aO];obtain⟨a,ha⟩: ∃a,rs[t]? =some a:=⟨_,List.getElem?_eq_getElem ah⟩;have lt:=S.lt
   obtain⟨b,eb,rb⟩:=((S.Ow.only O1 ak).only O λb e hm=>by simp only[List.mem_singleton]at hm;have:=lt b (by rw[e];simp[aX]);omega).elem ha
   rw[eb,aU,<-eb];refine⟨ah,ah,?_⟩;simp only[aL,Nat.zero_add,Nat.mul_one,Int.toNat_natCast];rw[show ax ((t:Int)+1)=((t+1:Nat):Int) by rw[wrap_i64 ah ah];omega];exact aI (n:=(a:Int)) rb (aT (λ_=>ft M λk2 M2 O2 z2=>ih (t+1) k2 _ ah M2 (O.trans O2 λy hy _=>hy)) λ_=>ih (t+1) k mo ah M O)
 exact⟨_,main rs.length 0 h1 [] ah M1 (aM.refl _ _)⟩
end
end
section
abbrev It:=Int×Int
def bS(L:List It)(i:Nat):It:=L.getD i (0,0)
def jZ(a b:It):Bool:=decide (a.2>b.2)||(a.2==b.2&&decide (a.1<b.1))
def gE(L:List It)(i j:Nat):List It:=(L.set i (bS L j)).set j (bS L i)
def dp(k:Nat):Nat:=(k-1)/2
def kc(L:List It)(k:Nat):Prop:=jZ (bS L k) (bS L (dp k))=false
def eH(L:List It)(n:Nat):Prop:= ∀k,0<k->k<n->kc L k
def oZ{a b:It}(h:jZ a b=true):jZ b a=false:=by
 simp only[jZ,Bool.or_eq_true,Bool.and_eq_true,decide_eq_true_eq,beq_iff_eq,Bool.or_eq_false_iff,Bool.and_eq_false_imp,decide_eq_false_iff_not]at*
 omega
def oT{a b c:It}(h1:jZ a b=false)(h2:jZ b c=false):jZ a c=false:=by
 simp only[jZ,beq_iff_eq,Bool.or_eq_false_iff,Bool.and_eq_false_imp,decide_eq_false_iff_not]at*
 omega
def zC{a b c:It}(h1:jZ c b=false)(h2:jZ a b=true):jZ c a=false:=by
 simp only[jZ,Bool.or_eq_true,Bool.and_eq_true,decide_eq_true_eq,beq_iff_eq,Bool.or_eq_false_iff,Bool.and_eq_false_imp,decide_eq_false_iff_not]at*
 omega
def oP(a:It):jZ a a=false:=by simp[jZ]
def d9(L:List It)(i j:Nat):(gE L i j).length=L.length:=by simp[gE]
def ip{L:List It}{i j:Nat}(hi:i<L.length)(hj:j<L.length)(k:Nat):bS (gE L i j) k=if k=j then bS L i else if k=i then bS L j else bS L k:=by
 unfold gE bS;by_cases h1:k=j
 ·subst h1;simp[hj]
 ·rw[if_neg h1];by_cases h2:k=i
  ·subst h2;simp[List.getD,Ne.symm h1,hi]
  ·rw[if_neg h2];simp[List.getD,Ne.symm h1,Ne.symm h2]
def CK{L:List It}{i:Nat}(hi:i<L.length):L[i]=bS L i:=by simp[bS,hi]
def kz{L:List It}{i j:Nat}(hi:i<L.length)(hj:j<L.length):(gE L i j).Perm L:=by
 have h:=Array.swap_perm (xs:=L.toArray) (i:=i) (j:=j) (by simpa using hi) (by simpa using hj)
 have e:(L.toArray.swap i j (by simpa using hi) (by simpa using hj)).toList=gE L i j:=by unfold gE;rw[Array.swap_def];simp[bS,hi,hj]
 rw[Array.perm_iff_toList_perm,e]at h;exact h
structure nc(L:List It)(n i0 i:Nat):Prop where
 a: ∀k,0<k->k<n->dp k≠i->(k≠i\/i≠i0)->kc L k
 b: ∀k,0<k->k<n->dp k=i->0<i->jZ (bS L k) (bS L (dp i))=false
 le:i0<=i
structure AY(L:List It)(n j:Nat):Prop where
 a: ∀k,0<k->k<n->k≠j->kc L k
 b: ∀k,0<k->k<n->dp k=j->0<j->jZ (bS L k) (bS L (dp j))=false
def AY.done{L:List It}{n j:Nat}(H:AY L n j)(h:j=0\/kc L j):eH L n:=by
 intro k h0 h1;by_cases e:k=j
 ·subst e;rcases h with h|h
  ·omega
  ·exact h
 ·exact H.a k h0 h1 e
def AY.step{L:List It}{n j:Nat}(H:AY L n j)(hj0:0<j)(hjn:j<n)(hn:n<=L.length)(hb:jZ (bS L j) (bS L (dp j))=true):AY (gE L (dp j) j) n (dp j):=by
 have hp:dp j<j:=by unfold dp;omega
 have sw:=ip (L:=L) (i:=dp j) (j:=j) ah ah;constructor
 ·intro k h0 h1 hk;unfold kc;rw[sw k,sw (dp k)];have hpk:dp k<k:=by unfold dp;omega
  by_cases e:k=j
  ·subst e;rw[if_pos rfl,if_neg ah,if_pos rfl];exact oZ hb
  ·rw[if_neg e,if_neg hk];by_cases e2:dp k=j
   ·rw[if_pos e2];exact H.b k h0 h1 e2 hj0
   ·rw[if_neg e2];by_cases e3:dp k=dp j
    ·rw[if_pos e3];have:=H.a k h0 h1 e;unfold kc at this;rw[e3]at this;exact zC this hb
    ·rw[if_neg e3];exact H.a k h0 h1 e
 ·intro k h0 h1 hk hi;have hpp:dp (dp j)<dp j:=by unfold dp at*;omega
  rw[sw k,sw (dp (dp j)),if_neg (show ¬dp (dp j)=j by omega),if_neg (show ¬dp (dp j)=dp j by omega)];have hq:jZ (bS L (dp j)) (bS L (dp (dp j)))=false:=H.a (dp j) hi ah ah;by_cases e:k=j
  ·rw[if_pos e];exact hq
  ·have hkp:k≠dp j:=by
    intro e2;rw[e2]at hk;omega
   rw[if_neg e,if_neg hkp];have:=H.a k h0 h1 e;unfold kc at this;rw[hk]at this;exact oT this hq
def nc.done{L:List It}{n i0 i:Nat}(H:nc L n i0 i)(h: ∀k,0<k->k<n->dp k=i->kc L k):(i≠i0->eH L n)/\(i=i0->AY L n i0):=by
 constructor
 ·intro hi k h0 h1;by_cases e:dp k=i
  ·exact h k h0 h1 e
  ·exact H.a k h0 h1 e (Or.inr hi)
 ·intro hi;subst hi;refine⟨λk h0 h1 hk=> ?_,H.b⟩;by_cases e:dp k=i
  ·exact h k h0 h1 e
  ·exact H.a k h0 h1 e (Or.inl hk)
def nc.step{L:List It}{n i0 i j:Nat}(H:nc L n i0 i)(hjn:j<n)(hn:n<=L.length)(hj:0<j)(hp:dp j=i)(hb:jZ (bS L j) (bS L i)=true)(hc: ∀k,0<k->k<n->dp k=i->jZ (bS L k) (bS L j)=false):nc (gE L i j) n i0 j:=by
 have hij:i<j:=by rw[<-hp];unfold dp;omega
 have sw:=ip (L:=L) (i:=i) (j:=j) ah ah;have le:=H.le;refine⟨λk h0 h1 hk _=> ?_,λk h0 h1 hk _=> ?_,ah⟩
 ·unfold kc;rw[sw k,sw (dp k)];have hpk:dp k<k:=by unfold dp;omega
  rw[if_neg hk];by_cases e:k=j
  ·subst e;rw[if_pos rfl,if_pos hp];exact oZ hb
  ·rw[if_neg e];by_cases e2:k=i
   ·subst e2;rw[if_pos rfl,if_neg ah];exact H.b j hj hjn hp h0
   ·rw[if_neg e2];by_cases e3:dp k=i
    ·rw[if_pos e3];exact hc k h0 h1 e3
    ·rw[if_neg e3];exact H.a k h0 h1 e3 (Or.inl e2)
 ·have hpk:dp k<k:=by unfold dp;omega
  rw[sw k,sw (dp j),if_neg ah,if_neg ah,hp,if_neg ah,if_pos rfl];have:=H.a k h0 h1 ah (Or.inl ah);unfold kc at this;rw[hk]at this;exact this
def Bj{L:List It}{x:It}(H:eH L L.length):AY (L++[x]) (L.length+1) L.length:=by
 have e: ∀k,k<L.length->bS (L++[x]) k=bS L k:=λk hk=>by simp[bS,List.getD,List.getElem?_append_left hk]
 refine⟨λk h0 h1 hk=> ?_,λk h0 h1 hk _=> ?_⟩
 ·have hpk:dp k<k:=by unfold dp;omega
  unfold kc;rw[e k ah,e (dp k) ah];exact H k h0 ah
 ·have hpk:dp k<k:=by unfold dp;omega
  omega
end
section
variable {i j k l m n o p q r s t:Int}{a b c d:Addr}{u v:Nat}{x y:az}{h:aH}{K:KK}
def F357.spec(H:cv (rd h (a.add 0)) λ_ a _=>K (al (a:Int)) h):Cl 357 [au a] h K:=cN Tryz.func357 H
def F397.T:bj:=⟨[],[(1,[[(0,[]),(1,[]),(2,[]),(3,[]),(4,[]),(5,[]),(6,[]),(7,[]),(8,[]),(9,[]),(10,[]),(11,[]),(12,[]),(13,[]),(14,[0,1,2,3,4,5,6,7,8,9,10,11,12,13]),(15,[0,1,2,3,4,5,6,7,8,9,10,11,12,13]),(16,[7,8,9,10,11,12,13]),(17,[])],[(0,[]),(1,[]),(2,[]),(3,[]),(4,[]),(5,[]),(6,[]),(7,[]),(8,[]),(9,[]),(10,[]),(11,[]),(12,[]),(13,[]),(15,[0,1,2,3,4,5,6,7,8,9,10,11,12,13]),(14,[0,1,2,3,4,5,6,7,8,9,10,11,12,13]),(16,[7,8,9,10,11,12,13]),(17,[])]])]⟩
def F397.spec(H:(cv (rd h (a.add 0)) (λb c d=>bf b λe=>0<=i/\i<(c:Int)/\aQ .i64 (rd h ((e.add (i.toNat*2)).add 0)) λf=>aQ .i64 (rd h ((e.add (i.toNat*2)).add 1)) λg=>cv (rd h (a.add 0)) λk l m=>bf k λn=>0<=j/\j<(l:Int)/\aQ .i64 (rd h ((n.add (j.toNat*2)).add 0)) λo=>aQ .i64 (rd h ((n.add (j.toNat*2)).add 1)) λp=>a9 h (.cells #[al 0,al 0] 357) λq r=>aF (au a)/\aF (au a)/\aF (au (a.add 0))/\cv (rd r (a.add 0)) λs t u=>aG (.slice s t u) (.slice b c d)/\aF (al i)/\bf b λs=>0<=i/\i<(c:Int)/\aG (au (s.add (i.toNat*2))) (au (e.add (i.toNat*2)))/\aQ .i64 (rd r ((e.add (i.toNat*2)).add 0)) λs=>aQ .i64 (rd r ((e.add (i.toNat*2)).add 1)) λt=>aG (.agg #[al s,al t]) (.agg #[al f,al g])/\aF (au a)/\aF (au a)/\aF (au (a.add 0))/\cv (rd r (a.add 0)) λs t u=>aG (.slice s t u) (.slice k l m)/\aF (al j)/\bf k λs=>0<=j/\j<(l:Int)/\aG (au (s.add (j.toNat*2))) (au (n.add (j.toNat*2)))/\aQ .i64 (rd r ((n.add (j.toNat*2)).add 0)) λs=>aQ .i64 (rd r ((n.add (j.toNat*2)).add 1)) λt=>aG (.agg #[al s,al t]) (.agg #[al o,al p])/\a9 r (.cells #[al 0,al 0] 357) λr s=>aF (au a)/\aF (au a)/\aF (au (a.add 0))/\cv (rd s (a.add 0)) λt u v=>aG (.slice t u v) (.slice b c d)/\aF (al i)/\bf b λb=>0<=i/\i<(c:Int)/\aG (au (b.add (i.toNat*2))) (au (e.add (i.toNat*2)))/\aQ .i64 (rd s ((e.add (i.toNat*2)).add 0)) λb=>aQ .i64 (rd s ((e.add (i.toNat*2)).add 1)) λc=>aG (.agg #[al b,al c]) (.agg #[al f,al g])/\aF (au a)/\aF (au a)/\aF (au (a.add 0))/\cv (rd s (a.add 0)) λb c d=>aG (.slice b c d) (.slice k l m)/\aF (al j)/\bf k λb=>0<=j/\j<(l:Int)/\aG (au (b.add (j.toNat*2))) (au (n.add (j.toNat*2)))/\aQ .i64 (rd s ((n.add (j.toNat*2)).add 0)) λb=>aQ .i64 (rd s ((n.add (j.toNat*2)).add 1)) λc=>aG (.agg #[al b,al c]) (.agg #[al o,al p])/\aW s ((aw q).add 0) (al f) λb=>aW b ((aw q).add 1) (al g) λb=>aF (au a)/\aF (au a)/\aF (au (a.add 0))/\cv (rd b (a.add 0)) λa c d=>aG (.slice a c d) (.slice k l m)/\aF (al j)/\bf k λa=>0<=j/\j<(l:Int)/\aG (au (a.add (j.toNat*2))) (au (n.add (j.toNat*2)))/\aQ .i64 (rd b ((n.add (j.toNat*2)).add 0)) λa=>aQ .i64 (rd b ((n.add (j.toNat*2)).add 1)) λc=>aG (.agg #[al a,al c]) (.agg #[al o,al p])/\aW b ((aw r).add 0) (al o) λa=>aW a ((aw r).add 1) (al p) λa=>aQ .i64 (rd a ((aw q).add 1)) λb=>aQ .i64 (rd a ((aw r).add 1)) λc=>aK (b>c) (K aC a) (aQ .i64 (rd a ((aw q).add 1)) λb=>aQ .i64 (rd a ((aw r).add 1)) λc=>aK (b==c) (aQ .i64 (rd a ((aw q).add 0)) λb=>aQ .i64 (rd a ((aw r).add 0)) λc=>K (aD (b<c)) a) (K aB a)))/\cv (rd h (a.add 0)) λb c d=>bf b λe=>0<=i/\i<(c:Int)/\aQ .i64 (rd h ((e.add (i.toNat*2)).add 0)) λf=>aQ .i64 (rd h ((e.add (i.toNat*2)).add 1)) λg=>cv (rd h (a.add 0)) λk l m=>bf k λn=>0<=j/\j<(l:Int)/\aQ .i64 (rd h ((n.add (j.toNat*2)).add 0)) λo=>aQ .i64 (rd h ((n.add (j.toNat*2)).add 1)) λp=>a9 h (.cells #[al 0,al 0] 357) λq r=>aF (au a)/\aF (au a)/\aF (au (a.add 0))/\cv (rd r (a.add 0)) λs t u=>aG (.slice s t u) (.slice b c d)/\aF (al i)/\bf b λs=>0<=i/\i<(c:Int)/\aG (au (s.add (i.toNat*2))) (au (e.add (i.toNat*2)))/\aQ .i64 (rd r ((e.add (i.toNat*2)).add 0)) λs=>aQ .i64 (rd r ((e.add (i.toNat*2)).add 1)) λt=>aG (.agg #[al s,al t]) (.agg #[al f,al g])/\aF (au a)/\aF (au a)/\aF (au (a.add 0))/\cv (rd r (a.add 0)) λs t u=>aG (.slice s t u) (.slice k l m)/\aF (al j)/\bf k λs=>0<=j/\j<(l:Int)/\aG (au (s.add (j.toNat*2))) (au (n.add (j.toNat*2)))/\aQ .i64 (rd r ((n.add (j.toNat*2)).add 0)) λs=>aQ .i64 (rd r ((n.add (j.toNat*2)).add 1)) λt=>aG (.agg #[al s,al t]) (.agg #[al o,al p])/\a9 r (.cells #[al 0,al 0] 357) λr s=>aF (au a)/\aF (au a)/\aF (au (a.add 0))/\cv (rd s (a.add 0)) λt u v=>aG (.slice t u v) (.slice b c d)/\aF (al i)/\bf b λb=>0<=i/\i<(c:Int)/\aG (au (b.add (i.toNat*2))) (au (e.add (i.toNat*2)))/\aQ .i64 (rd s ((e.add (i.toNat*2)).add 0)) λb=>aQ .i64 (rd s ((e.add (i.toNat*2)).add 1)) λc=>aG (.agg #[al b,al c]) (.agg #[al f,al g])/\aF (au a)/\aF (au a)/\aF (au (a.add 0))/\cv (rd s (a.add 0)) λb c d=>aG (.slice b c d) (.slice k l m)/\aF (al j)/\bf k λb=>0<=j/\j<(l:Int)/\aG (au (b.add (j.toNat*2))) (au (n.add (j.toNat*2)))/\aQ .i64 (rd s ((n.add (j.toNat*2)).add 0)) λb=>aQ .i64 (rd s ((n.add (j.toNat*2)).add 1)) λc=>aG (.agg #[al b,al c]) (.agg #[al o,al p])/\aW s ((aw r).add 0) (al f) λb=>aW b ((aw r).add 1) (al g) λb=>aF (au a)/\aF (au a)/\aF (au (a.add 0))/\cv (rd b (a.add 0)) λa c d=>aG (.slice a c d) (.slice k l m)/\aF (al j)/\bf k λa=>0<=j/\j<(l:Int)/\aG (au (a.add (j.toNat*2))) (au (n.add (j.toNat*2)))/\aQ .i64 (rd b ((n.add (j.toNat*2)).add 0)) λa=>aQ .i64 (rd b ((n.add (j.toNat*2)).add 1)) λc=>aG (.agg #[al a,al c]) (.agg #[al o,al p])/\aW b ((aw q).add 0) (al o) λa=>aW a ((aw q).add 1) (al p) λa=>aQ .i64 (rd a ((aw r).add 1)) λb=>aQ .i64 (rd a ((aw q).add 1)) λc=>aK (b>c) (K aC a) (aQ .i64 (rd a ((aw r).add 1)) λb=>aQ .i64 (rd a ((aw q).add 1)) λc=>aK (b==c) (aQ .i64 (rd a ((aw r).add 0)) λb=>aQ .i64 (rd a ((aw q).add 0)) λc=>K (aD (b<c)) a) (K aB a)))):Cl 397 [au a,al i,al j] h K:=cT F397.T Tryz.func397 H
def F398.T:bj:=⟨[],[(4,[[(0,[]),(1,[]),(2,[]),(3,[]),(4,[]),(5,[]),(6,[])]])]⟩
def F398.spec(H:cv (rd h (a.add 0)) λ_ b _=>cv (rd h (a.add 0)) λc d _=>bf c λc=>0<=(ax ((b:Int)-(1:Int)))/\(ax ((b:Int)-(1:Int)))<(d:Int)/\aQ .i64 (rd h ((c.add ((ax ((b:Int)-(1:Int))).toNat*2)).add 0)) λd=>aQ .i64 (rd h ((c.add ((ax ((b:Int)-(1:Int))).toNat*2)).add 1)) λc=>a9 h (.cells #[al 0,al 0] 357) λe f=>aW f ((aw e).add 0) (al d) λd=>aW d ((aw e).add 1) (al c) λc=>cv (rd c (a.add 0)) λd _ f=>0<=(ax ((b:Int)-(1:Int)))/\(ax ((b:Int)-(1:Int)))<=(f:Int)/\aW c ((a.add 0).add 0) (.slice (if f=0 then d else Option.map (λa=>Addr.add a (0*2)) d) ((ax ((b:Int)-(1:Int))).toNat-0) (f-0)) λb=>bK (rd b (a.add 1)) λa=>aQ .i64 (rd b ((aw e).add 0)) λc=>xo b a .i64 .i64 c λa=>aQ .i64 (rd a ((aw e).add 0)) λb=>aQ .i64 (rd a ((aw e).add 1)) λc=>K (.iface 357 (.agg #[al b,al c])) a):Cl 398 [au a] h K:=cT F398.T Tryz.func398 H
def F399.T:bj:=⟨[],[(1,[[(0,[]),(1,[]),(2,[]),(3,[]),(4,[]),(5,[]),(6,[]),(7,[]),(8,[]),(9,[]),(10,[]),(11,[])]]),(2,[[(0,[]),(1,[]),(2,[]),(3,[]),(4,[]),(5,[]),(6,[0,1,2,3,4]),(7,[0]),(8,[]),(9,[]),(10,[])]])]⟩
def F399.spec(H:a9 h (.cells #[al 0,al 0] 357) λb c=>aW c ((aw b).add 0) (al i) λc=>aW c ((aw b).add 1) (al j) λc=>bK (rd c (a.add 1)) λd=>aQ .i64 (rd c ((aw b).add 0)) λe=>cv (rd c (a.add 0)) λ_ f _=>lO c d .i64 .i64 e (al (f:Int)) λc=>cv (rd c (a.add 0)) λd e f=>aQ .i64 (rd c ((aw b).add 0)) λg=>aQ .i64 (rd c ((aw b).add 1)) λb=>a9 c (.cells #[al g,al b] 357) λb c=>aF (au a)/\aF (au a)/\aF (au a)/\aF (au (a.add 0))/\cv (rd c (a.add 0)) λg i j=>aG (.slice g i j) (.slice d e f)/\fB c 357 2 16 #[al 0,al 0] d e f (some (aw b)) 1 λb c d e=>aF (au a)/\aW e ((a.add 0).add 0) (.slice b c d) λa=>K aE a):Cl 399 [au a,.iface 357 (.agg #[al i,al j])] h K:=cT F399.T Tryz.func399 H
def F400.T:bj:=⟨[],[(0,[[(0,[]),(1,[]),(2,[]),(3,[]),(4,[]),(5,[]),(6,[]),(7,[]),(8,[]),(9,[]),(10,[]),(11,[]),(12,[]),(13,[]),(14,[]),(15,[]),(16,[]),(17,[]),(18,[]),(19,[]),(20,[]),(21,[]),(22,[]),(23,[]),(24,[]),(25,[9]),(26,[]),(27,[])]]),(1,[[(0,[]),(1,[]),(2,[]),(3,[]),(4,[]),(5,[]),(6,[]),(7,[]),(8,[]),(9,[]),(10,[]),(11,[]),(12,[]),(13,[]),(14,[]),(15,[]),(16,[]),(17,[]),(18,[]),(19,[]),(20,[]),(21,[]),(22,[]),(23,[]),(24,[]),(25,[]),(26,[24,25]),(27,[]),(28,[25]),(29,[25]),(30,[]),(31,[])]])]⟩
def F400.spec(H:cv (rd h (a.add 0)) λb c _=>cv (rd h (a.add 0)) λd e _=>cv (rd h (a.add 0)) λf g _=>bf f λf=>0<=j/\j<(g:Int)/\aQ .i64 (rd h ((f.add (j.toNat*2)).add 0)) λg=>aQ .i64 (rd h ((f.add (j.toNat*2)).add 1)) λf=>cv (rd h (a.add 0)) λk l _=>bf k λk=>0<=i/\i<(l:Int)/\aQ .i64 (rd h ((k.add (i.toNat*2)).add 0)) λl=>aQ .i64 (rd h ((k.add (i.toNat*2)).add 1)) λk=>bf b λb=>0<=i/\i<(c:Int)/\aW h ((b.add (i.toNat*2)).add 0) (al g) λc=>aW c ((b.add (i.toNat*2)).add 1) (al f) λb=>aF (al j)/\bf d λc=>0<=j/\j<(e:Int)/\aW b ((c.add (j.toNat*2)).add 0) (al l) λb=>aW b ((c.add (j.toNat*2)).add 1) (al k) λb=>bK (rd b (a.add 1)) λc=>cv (rd b (a.add 0)) λd e _=>bf d λd=>0<=i/\i<(e:Int)/\aQ .i64 (rd b ((d.add (i.toNat*2)).add 0)) λd=>bK (rd b (a.add 1)) λe=>cv (rd b (a.add 0)) λa f _=>bf a λa=>0<=j/\j<(f:Int)/\aQ .i64 (rd b ((a.add (j.toNat*2)).add 0)) λa=>zW b c .i64 .i64 d (al 0) λb d f=>aQ .i64 (some b) λ_=>aF (al i)/\aF (al j)/\zk f c d (al i) λb=>aF (al j)/\zW b e .i64 .i64 a (al 0) λa b c=>aQ .i64 (some a) λ_=>aF (al j)/\zk c e b (al j) λa=>K aE a):Cl 400 [au a,al i,al j] h K:=cT F400.T Tryz.func400 H
def F339.T:bj:=⟨[(0,[0,1])],[]⟩
section
variable (n:Nat)(b:Addr)(a:Int)(h:aH)(K:KK)
def F339.wL0:Prop:=Lp Tryz.f339 F339.T [0] n [(0,(.iface 370 (au b))),(1,(al a))] h K
def F339.sL0:F339.wL0 (n+1) b a h K=(((2:Int)≠0/\aK ((ax (Int.tdiv (ax (a-1)) 2))==a) (K aE h) (Cl 397 [au b,al a,al (ax (Int.tdiv (ax (a-1)) 2))] h λc d=>bI (some c) λc=>aK (!c) (K aE d) (Cl 400 [au b,al (ax (Int.tdiv (ax (a-1)) 2)),al a] d λc d=>c=aE/\F339.wL0 n b (ax (Int.tdiv (ax (a-1)) 2)) d K)))):=by kernel_rfl
def F339.spec(H:(∃c,F339.wL0 c b a h K)):Cl 339 [.iface 370 (au b),al a] h K:=cT F339.T Tryz.func339 H
end
def F358.T:bj:=⟨[(2,[0,1,2,7]),(8,[0,1,2,7,9]),(11,[1,7])],[]⟩
section
variable (bk2:Addr->Int->Int->Int->aH->Prop)(n:Nat)(c:Addr)(b d a f:Int)(h:aH)(K:KK)
def F358.wk11:Prop:=K (aD (a>b)) h
def F358.wk8:Prop:=Cl 397 [au c,al f,al a] h λe g=>bI (some e) λe=>aK (!e) (F358.wk11 b a g K) (Cl 400 [au c,al a,al f] g λa e=>a=aE/\bk2 c b d f e)
def F358.wL2:Prop:=Lp Tryz.f358 F358.T [1,1,0,0] n [(0,(.iface 370 (au c))),(1,(al b)),(2,(al d)),(7,(al a))] h K
def F358.sL2:F358.wL2 (n+1) c b d a h K=(aK ((ax ((ax (2*a))+1))>=d) (F358.wk11 b a h K) (aK ((ax ((ax (2*a))+1))<0) (F358.wk11 b a h K) (aK ((ax ((ax ((ax (2*a))+1))+1))<d) (Cl 397 [au c,al (ax ((ax ((ax (2*a))+1))+1)),al (ax ((ax (2*a))+1))] h λe f=>bI (some e) λe=>aK e (F358.wk8 (λa b c d e=>F358.wL2 n a b c d e K) c b d a (ax ((ax ((ax (2*a))+1))+1)) f K) (F358.wk8 (λa b c d e=>F358.wL2 n a b c d e K) c b d a (ax ((ax (2*a))+1)) f K)) (F358.wk8 (λa b c d e=>F358.wL2 n a b c d e K) c b d a (ax ((ax (2*a))+1)) h K)))):=by kernel_rfl
def F358.wk2:Prop:=(∃e,F358.wL2 e c b d a h K)
def F358.spec(H:F358.wk2 c b d b h K):Cl 358 [.iface 370 (au c),al b,al d] h K:=cT F358.T Tryz.func358 H
end
def F341.spec(H:Cl 357 [au a] h λb c=>aQ .i64 (some b) λb=>Cl 400 [au a,al 0,al (ax (b-1))] c λc d=>c=aE/\Cl 358 [.iface 370 (au a),al 0,al (ax (b-1))] d λb c=>bI (some b) λ_=>Cl 398 [au a] c λa b=>lI (some a) λa=>K a b):Cl 341 [.iface 370 (au a)] h K:=cN Tryz.func341 H
def F309.spec(H:Cl 399 [au a,.iface 357 (.agg #[al i,al j])] h λb c=>b=aE/\Cl 357 [au a] c λb c=>aQ .i64 (some b) λb=>Cl 339 [.iface 370 (au a),al (ax (b-1))] c λa b=>a=aE/\K aE b):Cl 309 [.iface 370 (au a),.iface 357 (.agg #[al i,al j])] h K:=cN Tryz.func309 H
def F288.spec(H:a9 h (.map #[] 0) λa b=>a9 b (.cells #[.slice none 0 0,.map (some a)] 374) λa b=>a9 b (.cells #[au (aw a)] 376) λa b=>K (au (aw a)) b):Cl 288 [] h K:=cN Tryz.func288 H
def F289.spec(H:ba (rd h (a.add 0)) λb=>bf b λb=>bK (rd h (b.add 1)) λb=>dP h b .i64 .i64 i λb=>aQ .i64 (some (kE (al 0) b)) λ_=>aK (Option.isSome b) (K aB h) (ba (rd h (a.add 0)) λa=>Cl 309 [.iface 370 (aA a),.iface 357 (.agg #[al i,al j])] h λa b=>a=aE/\K aC b)):Cl 289 [au a,al i,al j] h K:=cN Tryz.func289 H
def F340.spec(H:ba (rd h (a.add 0)) λa=>Cl 357 [aA a] h λa b=>aQ .i64 (some a) λa=>K (al a) b):Cl 340 [au a] h K:=cN Tryz.func340 H
def F311.spec(H:a9 h (.cells #[al 0,al 0] 357) λb c=>ba (rd c (a.add 0)) λa=>Cl 341 [.iface 370 (aA a)] c λa c=>lI (some a) λa=>kY Tryz.prog 357 false a λa=>dF Tryz.prog 357 (some (aw b)) a c λa=>aQ .i64 (rd a ((aw b).add 0)) λc=>aQ .i64 (rd a ((aw b).add 1)) λb=>K (.agg #[al c,al b]) a):Cl 311 [au a] h K:=cN Tryz.func311 H
end
section
def eE:List It->List Value
 | []=> []
 |x::L=>al x.1::al x.2::eE L
def dH: ∀(L:List It),(eE L).length=L.length*2
 | []=>rfl
 |x::L=>by simp[eE,dH L];omega
def ik: ∀{L:List It} {i:Nat},i<L.length->(eE L)[i*2]? =some (al (bS L i).1)
 |x::L,0,_=>rfl
 |x::L,i+1,h=>by
  rw[show(i+1)*2=i*2+1+1 by omega];simp only[eE,List.getElem?_cons_succ];rw[ik (by simpa using h)]
  rfl
def il: ∀{L:List It} {i:Nat},i<L.length->(eE L)[i*2+1]? =some (al (bS L i).2)
 |x::L,0,_=>rfl
 |x::L,i+1,h=>by
  rw[show(i+1)*2+1=i*2+1+1+1 by omega];simp only[eE,List.getElem?_cons_succ];rw[il (by simpa using h)]
  rfl
def pt: ∀(L M:List It),eE (L++M)=eE L++eE M
 | [],M=>rfl
 |x::L,M=>by simp[eE,pt L M]
def qp: ∀(L:List It) (i:Nat) (v:Int),(eE L).set (i*2) (al v)=eE (L.set i (v,(bS L i).2))
 | [],_,_=>by simp[eE]
 |x::L,0,v=>rfl
 |x::L,i+1,v=>by
  rw[show(i+1)*2=i*2+1+1 by omega];simp only[eE,List.set_cons_succ];rw[qp L i v]
  rfl
def qn: ∀(L:List It) (i:Nat) (v:Int),(eE L).set (i*2+1) (al v)=eE (L.set i ((bS L i).1,v))
 | [],_,_=>by simp[eE]
 |x::L,0,v=>rfl
 |x::L,i+1,v=>by
  rw[show(i+1)*2+1=i*2+1+1+1 by omega];simp only[eE,List.set_cons_succ];rw[qn L i v]
  rfl
def lT{x:Option Value}{K:Option Nat->Prop}{n:Option Nat}(hx:x=some (.map n))(hK:K n):bK x K:=⟨n,hx,hK⟩
def oB(h:aH)(b:Nat)(f:Int->Option Nat):Prop:= ∃m,bO h b .i64 m/\ ∀x,m.lookup x=(f x).map λi=>al (i:Int)
def oB.only{S:List Nat}{h h':aH}{b:Nat}{f:Int->Option Nat}(H:oB h b f)(O:aM S h h')(hb:b∉S):oB h' b f:=by obtain⟨m,h1,h2⟩:=H;exact⟨m,h1.only O hb,h2⟩
def nh(L:List It)(f:Int->Option Nat):Prop:= ∀id i,f id=some i↔i<L.length/\(bS L i).1=id
structure dA(h:aH)(lo pi mb:Nat)(p:az)(c:Nat)(L:List It):Prop where
 at_:At h pi [.slice p L.length c,.map (some mb)]
 own:cj h lo 2 p L.length c (eE L)
 map: ∃f,oB h mb f/\nh L f
 sep:lo<=pi/\lo<=mb/\pi∉aX p/\mb∉aX p/\pi≠mb
def dA.only{S:List Nat}{h h':aH}{lo pi mb:Nat}{p:az}{c:Nat}{L:List It}(H:dA h lo pi mb p c L)(O:aM S h h')(h1:pi∉S)(h2:mb∉S)(h3: ∀b∈aX p,b∉S):dA h' lo pi mb p c L:=by obtain⟨a,b,⟨f,d,e⟩,g⟩:=H;exact⟨a.only O h1,b.only O λx hx=>h3 x (by rw[hx];simp[aX]),⟨f,d.only O h2,e⟩,g⟩
def dA.lt{h:aH}{lo pi mb:Nat}{p:az}{c:Nat}{L:List It}(H:dA h lo pi mb p c L):pi<h.size/\mb<h.size/\ ∀b∈aX p,lo<=b/\b<h.size:=by obtain⟨a,b,⟨f,⟨m,d,-⟩,e⟩,g⟩:=H;exact⟨a.lt,d.lt,b.lt⟩
section
variable {h:aH}{lo pi mb:Nat}{p:az}{c:Nat}{L:List It}{K:KK}{i j:Nat}
def yL(P:dA h lo pi mb p c L)(hK:K (al (L.length:Int)) h):Cl 357 [au (aw pi)] h K:=by apply F357.spec;rw[aL];exact bo (by rw[P.at_.rd];rfl) hK
def vS(P:dA h lo pi mb p c L)(hi:i<L.length)(hj:j<L.length)(hK: ∀h',dA h' lo pi mb p c L->aM [] h h'->K (aD (jZ (bS L i) (bS L j))) h'):
  Cl 397 [au (aw pi),al (i:Int),al (j:Int)] h K:=by
 apply F397.spec;obtain⟨b,ep,-⟩:=P.own.rd (j:=i*2) (by rw[dH];omega);subst ep
 have R: ∀h',dA h' lo pi mb (some (aw b)) c L->rd h' (aw pi)=some (.slice (some (aw b)) L.length c)/\rd h' ⟨b,i*2,none⟩=some (al (bS L i).1)/\rd h' ⟨b,i*2+1,none⟩=some (al (bS L i).2)/\rd h' ⟨b,j*2,none⟩=some (al (bS L j).1)/\rd h' ⟨b,j*2+1,none⟩=some (al (bS L j).2):=by
  intro h' P'
  have e: ∀k,k<L.length*2->rd h' ⟨b,k,none⟩=(eE L)[k]? :=by intro k hk;obtain⟨b',e1,e2⟩:=P'.own.rd (j:=k) (by rw[dH];omega);injection e1 with e1;injection e1 with e1;subst e1;exact e2
  refine⟨by rw[P'.at_.rd];rfl,?_,?_,?_,?_⟩
  ·rw[e _ ah,ik hi]
  ·rw[e _ ah,il hi]
  ·rw[e _ ah,ik hj]
  ·rw[e _ ah,il hj]
 have i0:(0:Int)<=(i:Int):=ah;have i1:(i:Int)<(L.length:Int):=ah;have j0:(0:Int)<=(j:Int):=ah;have j1:(j:Int)<(L.length:Int):=ah;have new: ∀{h h1:aH} (P:dA h lo pi mb (some (aw b)) c L) (O:aM [] h h1),dA h1 lo pi mb (some (aw b)) c L:=λP O=>P.only O ak ak ak;have st: ∀{h h1:aH} {x:Nat} (P:dA h lo pi mb (some (aw b)) c L) (O:aM [x] h h1),pi≠x->mb≠x->b≠x->dA h1 lo pi mb (some (aw b)) c L:=λP O h1 h2 h3=>P.only O (by simpa using h1) (by simpa using h2) (by simpa[aX]using h3);have lt:=P.lt;have ltb:=(lt.2.2 b (by simp[aX])).2;simp only[aL,Nat.zero_add,Nat.add_zero,Int.toNat_natCast];obtain⟨r0,r1,r2,r3,r4⟩:=R h P;simp only[r0,r1,r2,r3,r4,bV,aU,bC,i0,i1,j0,j1,true_and,aL,Nat.zero_add,Nat.add_zero];constructor
 ·refine aV λh1 A1 O1 z1=> ?_;have P1:=new P O1;obtain⟨r0,r1,r2,r3,r4⟩:=R h1 P1;simp only[r0,r1,r2,r3,r4,bV,bC,true_and];refine aV λh2 A2 O2 z2=> ?_;have P2:=new P1 O2;obtain⟨r0,r1,r2,r3,r4⟩:=R h2 P2;simp only[r0,r1,r2,r3,r4,bV,bC,true_and];refine aS (A1.only O2 ak) ak rfl λh3 A3 O3 z3=>aS A3 ak rfl λh4 A4 O4 z4=> ?_;have O34:=O3.trans O4 ak;have P4:=st P2 O34 ah ah ah;obtain⟨r0,-,-,r3,r4⟩:=R h4 P4;simp only[r0,r3,r4,bV,bC,true_and];refine aS (A2.only O34 (by simp;omega)) ak rfl λh5 A5 O5 z5=>aS A5 ak rfl λh6 A6 O6 z6=> ?_;have O56:=O5.trans O6 ak;have P6:=st P4 O56 ah ah ah;have A4':=A4.only O56 (by simp;omega);have fin:=hK h6 P6 ((((O1.trans O2 ak).nil O34 ak).nil O56 (by simp;omega)));refine aI (n:=(bS L i).2) (by rw[A4'.rd];rfl) (aI (n:=(bS L j).2) (by rw[A6.rd];rfl) (aT (λe=> ?_) λe=>aI (n:=(bS L i).2) (by rw[A4'.rd];rfl) (aI (n:=(bS L j).2) (by rw[A6.rd];rfl) (aT (λe2=>aI (n:=(bS L i).1) (by rw[A4'.rd];rfl) (aI (n:=(bS L j).1) (by rw[A6.rd];rfl) ?_)) λe2=> ?_))))
  ·unfold jZ at fin;rw[e,Bool.true_or]at fin;exact fin
  ·unfold jZ at fin;rw[e,Bool.false_or,e2,Bool.true_and]at fin;exact fin
  ·unfold jZ at fin;rw[e,Bool.false_or,e2,Bool.false_and]at fin;exact fin
 ·refine aV λh1 A1 O1 z1=> ?_;have P1:=new P O1;obtain⟨r0,r1,r2,r3,r4⟩:=R h1 P1;simp only[r0,r1,r2,r3,r4,bV,bC,true_and];refine aV λh2 A2 O2 z2=> ?_;have P2:=new P1 O2;obtain⟨r0,r1,r2,r3,r4⟩:=R h2 P2;simp only[r0,r1,r2,r3,r4,bV,bC,true_and];refine aS A2 ak rfl λh3 A3 O3 z3=>aS A3 ak rfl λh4 A4 O4 z4=> ?_;have O34:=O3.trans O4 ak;have P4:=st P2 O34 ah ah ah;obtain⟨r0,-,-,r3,r4⟩:=R h4 P4;simp only[r0,r3,r4,bV,bC,true_and];refine aS ((A1.only O2 ak).only O34 (by simp;omega)) ak rfl λh5 A5 O5 z5=>aS A5 ak rfl λh6 A6 O6 z6=> ?_;have O56:=O5.trans O6 ak;have P6:=st P4 O56 ah ah ah;have A4':=A4.only O56 (by simp;omega);have fin:=hK h6 P6 ((((O1.trans O2 ak).nil O34 (by simp;omega)).nil O56 ak));refine aI (n:=(bS L i).2) (by rw[A4'.rd];rfl) (aI (n:=(bS L j).2) (by rw[A6.rd];rfl) (aT (λe=> ?_) λe=>aI (n:=(bS L i).2) (by rw[A4'.rd];rfl) (aI (n:=(bS L j).2) (by rw[A6.rd];rfl) (aT (λe2=>aI (n:=(bS L i).1) (by rw[A4'.rd];rfl) (aI (n:=(bS L j).1) (by rw[A6.rd];rfl) ?_)) λe2=> ?_))))
  ·unfold jZ at fin;rw[e,Bool.true_or]at fin;exact fin
  ·unfold jZ at fin;rw[e,Bool.false_or,e2,Bool.true_and]at fin;exact fin
  ·unfold jZ at fin;rw[e,Bool.false_or,e2,Bool.false_and]at fin;exact fin
end
def nh.inj{L:List It}{f:Int->Option Nat}(H:nh L f){a b:Nat}(ha:a<L.length)(hb:b<L.length)(e:(bS L a).1=(bS L b).1):a=b:=by have h1:=(H _ a).2 ⟨ha,rfl⟩;have h2:=(H _ b).2 ⟨hb,rfl⟩;rw[e,h2]at h1;injection h1 with h1;exact h1.symm
def nh.swap{L:List It}{f:Int->Option Nat}(H:nh L f){i j:Nat}(hi:i<L.length)(hj:j<L.length):
  nh (gE L i j) (λy=>if y=(bS (gE L i j) j).1 then some j else if y=(bS (gE L i j) i).1 then some i else f y):=by
 intro id k;have sw:=ip (L:=L) hi hj;rw[d9,sw k,sw j,if_pos rfl,sw i];dsimp only;rw[if_pos (rfl:i=i)];by_cases h1:id=(bS L i).1
 ·rw[if_pos h1];by_cases hk:k=j
  ·subst hk;simp[hj,h1]
  ·rw[if_neg hk];constructor
   ·intro e;injection e with e;exact absurd e.symm hk
   ·rintro ⟨a,b⟩;exfalso;by_cases hki:k=i
    ·rw[if_pos hki]at b;have:=H.inj hj hi (b.trans h1);omega
    ·rw[if_neg hki]at b;exact hki (H.inj a hi (b.trans h1))
 ·rw[if_neg h1];by_cases hij:i=j
  ·subst hij;simp only[if_true];rw[if_neg h1,H id k];by_cases hki:k=i
   ·subst hki;simp
   ·simp[hki]
  ·rw[if_neg hij];by_cases h2:id=(bS L j).1
   ·rw[if_pos h2];by_cases hki:k=i
    ·subst hki;simp[hij,hi,h2]
    ·constructor
     ·intro e;injection e with e;exact absurd e.symm hki
     ·rintro ⟨a,b⟩;exfalso;by_cases hkj:k=j
      ·rw[if_pos hkj]at b;exact h1 b.symm
      ·rw[if_neg hkj,if_neg hki]at b;exact hkj (H.inj a hj (b.trans h2))
   ·rw[if_neg h2,H id k];by_cases hkj:k=j
    ·subst hkj;rw[if_pos rfl];exact⟨λ⟨a,b⟩=>absurd b.symm h2,λ⟨a,b⟩=>absurd b.symm h1⟩
    ·rw[if_neg hkj];by_cases hki:k=i
     ·subst hki;rw[if_pos rfl];exact⟨λ⟨a,b⟩=>absurd b.symm h1,λ⟨a,b⟩=>absurd b.symm h2⟩
     ·rw[if_neg hki]
def nh.push{L:List It}{f:Int->Option Nat}(H:nh L f){x:It}(hx:f x.1=none):nh (L++[x]) (λy=>if y=x.1 then some L.length else f y):=by
 intro id k;dsimp only;have e1: ∀k,k<L.length->bS (L++[x]) k=bS L k:=λk hk=>by simp[bS,List.getD,List.getElem?_append_left hk]
 have e2:bS (L++[x]) L.length=x:=by simp[bS,List.getD]
 rw[List.length_append,List.length_singleton];by_cases h1:id=x.1
 ·rw[if_pos h1];constructor
  ·intro e;injection e with e;subst e;exact⟨ah,by rw[e2,h1]⟩
  ·rintro ⟨a,b⟩;by_cases hk:k<L.length
   ·rw[e1 k hk]at b;have:=(H id k).2 ⟨hk,b⟩;rw[h1,hx]at this;cases this
   ·rw[show k=L.length by omega]
 ·rw[if_neg h1,H id k];constructor
  ·rintro ⟨a,b⟩;exact⟨ah,by rw[e1 k a];exact b⟩
  ·rintro ⟨a,b⟩;by_cases hk:k<L.length
   ·rw[e1 k hk]at b;exact⟨hk,b⟩
   ·rw[show k=L.length by omega,e2]at b;exact absurd b.symm h1
def nh.pop{L:List It}{f:Int->Option Nat}{x:It}(H:nh (L++[x]) f):nh L (λy=>if y=x.1 then none else f y):=by
 intro id k;dsimp only;have e1: ∀k,k<L.length->bS (L++[x]) k=bS L k:=λk hk=>by simp[bS,List.getD,List.getElem?_append_left hk]
 have e2:bS (L++[x]) L.length=x:=by simp[bS,List.getD]
 have hl:(L++[x]).length=L.length+1:=ak;by_cases h1:id=x.1
 ·rw[if_pos h1];constructor
  ·intro e;cases e
  ·rintro ⟨a,b⟩;exfalso;have:=H.inj (a:=k) (b:=L.length) ah ah (by rw[e1 k a,e2,b,h1]);omega
 ·rw[if_neg h1,H id k,hl];constructor
  ·rintro ⟨a,b⟩;by_cases hk:k<L.length
   ·rw[e1 k hk]at b;exact⟨hk,b⟩
   ·rw[show k=L.length by omega,e2]at b;exact absurd b.symm h1
  ·rintro ⟨a,b⟩;exact⟨ah,by rw[e1 k a];exact b⟩
def tL{h:aH}{b:Nat}{f:Int->Option Nat}{x:Int}{i:Nat}{K:aH->Prop}(H:oB h b f)(hK: ∀h',oB h' b (λy=>if y=x then some i else f y)->aM [b] h h'->h'.size=h.size->K h'):
  zW h (some b) .i64 .i64 x (al (0:Int)) (λv st h1=>aQ .i64 (some v) (λ_=>zk h1 (some b) st (al (i:Int)) K)):=by
 obtain⟨m,h1,h2⟩:=H;refine Db h1 λv st h3 hv M3 S3 O3 z3=> ?_
 have hint: ∃n:Int,v=al n:=by
  rw[hv,h2 x];cases f x with
  |none=>exact⟨_,rfl⟩
  |some k=>exact⟨_,rfl⟩
 obtain⟨n,rfl⟩:=hint;refine aI rfl (Dq M3 S3 λh4 M4 O4 z4=>hK h4 ⟨_,M4,λy=> ?_⟩ (O3.trans O4 ak) (z4.trans z3));rw[bX,bX];dsimp only;by_cases hy:y=x
 ·rw[if_pos hy,if_pos hy]
  rfl
 ·rw[if_neg hy,if_neg hy,if_neg hy];exact h2 y
def Am{h:aH}{b:Nat}{f:Int->Option Nat}{x:Int}{i:Nat}{K:aH->Prop}(H:oB h b f)(hK: ∀h',oB h' b (λy=>if y=x then some i else f y)->aM [b] h h'->h'.size=h.size->K h'):
  lO h (some b) .i64 .i64 x (al (i:Int)) K:=by
 obtain⟨m,h1,h2⟩:=H;refine ft h1 λh3 M3 O3 z3=>hK h3 ⟨_,M3,λy=> ?_⟩ O3 z3;rw[bX];dsimp only;by_cases hy:y=x
 ·rw[if_pos hy,if_pos hy]
  rfl
 ·rw[if_neg hy,if_neg hy];exact h2 y
def Ah{h:aH}{b:Nat}{f:Int->Option Nat}{x:Int}{K:aH->Prop}(H:oB h b f)(hK: ∀h',oB h' b (λy=>if y=x then none else f y)->aM [b] h h'->h'.size=h.size->K h'):
  xo h (some b) .i64 .i64 x K:=by
 obtain⟨m,h1,h2⟩:=H;refine sd h1 λh3 M3 O3 z3=>hK h3 ⟨_,M3,λy=> ?_⟩ O3 z3;rw[mY];dsimp only;by_cases hy:y=x
 ·rw[if_pos hy,if_pos hy]
  rfl
 ·rw[if_neg hy,if_neg hy];exact h2 y
def xJ{h:aH}{b:Nat}{f:Int->Option Nat}{x:Int}{K:Option (Nat×Value)->Prop}(H:oB h b f)(hN:f x=none->K none)(hS: ∀i k,f x=some k->K (some (i,al (k:Int)))):dP h (some b) .i64 .i64 x K:=by
 obtain⟨m,h1,h2⟩:=H;refine dt h1 (λe=>hN ?_) λi v e=> ?_
 ·rw[h2 x]at e;cases hf:f x with
  |none=>rfl
  |some k=>rw[hf]at e;cases e
 ·rw[h2 x]at e;cases hf:f x with
  |none=>rw[hf]at e;cases e
  |some k=>
   rw[hf]at e;injection e with e;subst e;exact hS i k hf
def DV{h:aH}{lo l c b i:Nat}{L:List It}{x:It}{K:aH->Prop}(H:cj h lo 2 (some (aw b)) l c (eE L))(hi:i<L.length)
  (hK: ∀h',cj h' lo 2 (some (aw b)) l c (eE (L.set i x))->aM [b] h h'->K h'):aW h ⟨b,i*2,none⟩ (al x.1) (λh1=>aW h1 ⟨b,i*2+1,none⟩ (al x.2) K):=by
 refine H.set (by rw[dH];omega) rfl λh1 H1 O1=> ?_;rw[qp]at H1;refine H1.set (by rw[dH,List.length_set];omega) rfl λh2 H2 O2=> ?_;rw[qn]at H2
 have e:(L.set i (x.1,(bS L i).2)).set i ((bS (L.set i (x.1,(bS L i).2)) i).1,x.2)=L.set i x:=by
  rw[List.set_set]
  congr 1
  simp[bS,hi]
 rw[e]at H2;exact hK h2 H2 (O1.trans O2 ak)
def cj.cut{h:aH}{lo:Nat}{p:az}{l c:Nat}{L:List It}{x:It}(H:cj h lo 2 p (l+1) c (eE (L++[x]))):cj h lo 2 p l c (eE L):=by
 obtain⟨e,H⟩:=H;rw[dH,List.length_append,List.length_singleton]at e;refine⟨by rw[dH];omega,?_⟩;rcases H with⟨-,h0,-⟩|⟨b,sp,h1,h2,h3,h4,h5⟩
 ·omega
 ·refine Or.inr ⟨b,[al x.1,al x.2]++sp,h1,h2,ah,?_,?_⟩
  ·rw[List.length_append,h4];obtain⟨r,rfl⟩: ∃r,c=l+1+r:=⟨c-l-1,ah⟩;rw[show l+1+r-(l+1)=r by omega,show l+1+r-l=r+1 by omega];simp;omega
  ·rw[pt]at h5;simpa[eE]using h5
section
variable {h:aH}{lo pi mb:Nat}{p:az}{c:Nat}{L:List It}{K:KK}{i j:Nat}
def uX(P:dA h lo pi mb p c L)(hi:i<L.length)(hj:j<L.length)(hK: ∀h',dA h' lo pi mb p c (gE L i j)->aM (mb::aX p) h h'->K aE h'):
  Cl 400 [au (aw pi),al (i:Int),al (j:Int)] h K:=by
 apply F400.spec;obtain⟨b,ep,-⟩:=P.own.rd (j:=i*2) (by rw[dH];omega);subst ep;obtain⟨s1,s2,s3,s4,s5⟩:=P.sep;simp only[aX,List.mem_singleton]at s3 s4
 have rIt: ∀(h':aH) (M:List It) (k:Nat),cj h' lo 2 (some (aw b)) L.length c (eE M)->k<M.length->rd h' ⟨b,k*2,none⟩=some (al (bS M k).1)/\rd h' ⟨b,k*2+1,none⟩=some (al (bS M k).2):=by
  intro h' M k P' hk
  have e: ∀k,k<M.length*2->rd h' ⟨b,k,none⟩=(eE M)[k]? :=by intro k hk;obtain⟨b',e1,e2⟩:=P'.rd (j:=k) (by rw[dH];omega);injection e1 with e1;injection e1 with e1;subst e1;exact e2
  exact⟨by rw[e _ ah,ik hk],by rw[e _ ah,il hk]⟩
 have i0:(0:Int)<=(i:Int):=ah;have i1:(i:Int)<(L.length:Int):=ah;have j0:(0:Int)<=(j:Int):=ah;have j1:(j:Int)<(L.length:Int):=ah;have r0:rd h (aw pi)=some (.slice (some (aw b)) L.length c):=by rw[P.at_.rd];rfl
 obtain⟨r1,r2⟩:=rIt h L i P.own hi;obtain⟨r3,r4⟩:=rIt h L j P.own hj;simp only[aL,Nat.zero_add,Nat.add_zero,Int.toNat_natCast];simp only[r0,r1,r2,r3,r4,bV,aU,bC,i0,i1,j0,j1,true_and,aL,Nat.zero_add,Nat.add_zero];refine DV (x:=bS L j) P.own hi λh1 H1 O1=>DV (x:=bS L i) H1 (by rw[List.length_set];exact hj) λh2 H2 O2=> ?_;have H2:cj h2 lo 2 (some (aw b)) L.length c (eE (gE L i j)):=H2;have O12:=O1.trans O2 ak;have A2:=P.at_.only O12 (by simpa using s3);obtain⟨f,hf,hok⟩:=P.map;have f2:=hf.only O12 (by simpa using s4);have q0:rd h2 (aw pi)=some (.slice (some (aw b)) L.length c):=by rw[A2.rd];rfl
 have q1:rd h2 ⟨pi,1,none⟩=some (.map (some mb)):=by rw[A2.rd];rfl
 obtain⟨q2,-⟩:=rIt h2 _ i H2 (by rw[d9];exact hi);obtain⟨q3,-⟩:=rIt h2 _ j H2 (by rw[d9];exact hj);simp only[q0,q1,q2,q3,bV,gq,aU,bC,i1,j1,true_and,aL,Nat.zero_add,Nat.add_zero];refine tL f2 λh3 M3 O3 z3=>tL M3 λh4 M4 O4 z4=> ?_;have O34:=O3.trans O4 ak;refine hK h4 ⟨?_,?_,⟨_,M4,hok.swap hi hj⟩,P.sep⟩ ?_
 ·rw[d9];exact A2.only O34 (by simpa using s5)
 ·rw[d9]
  exact H2.only O34 λx hx=>by injection hx with hx;injection hx with hx;subst hx;simpa using Ne.symm s4
 ·exact(O12.mono (T:=mb::aX (some (aw b))) (by simp[aX])).trans O34 ak
def Fx{x:It}(P:dA h lo pi mb p c L)(hx: ∀k,k<L.length->(bS L k).1≠x.1)(hl:L.length<100000)(hlo:lo<=h.size)
  (hK: ∀h' p' c',dA h' lo pi mb p' c' (L++[x])->aM (pi::mb::aX p) h h'->(∀b∈aX p',b∈aX p\/h.size<=b)->K aE h'):
  Cl 399 [au (aw pi),.iface 357 (.agg #[al x.1,al x.2])] h K:=by
 apply F399.spec;simp only[aL,Nat.zero_add,Nat.add_zero];obtain⟨s1,s2,s3,s4,s5⟩:=P.sep;obtain⟨lt1,lt2,lt3⟩:=P.lt;refine aV λh1 A1 O1 z1=>aS A1 ak rfl λh2 A2 O2 z2=>aS A2 ak rfl λh3 A3 O3 z3=> ?_;have A3:At h3 h.size [al x.1,al x.2]:=A3;have O13:aM [] h h3:=O1.nil (O2.trans O3 ak) ak;have P3:=P.only O13 ak ak ak;obtain⟨f,hf,hok⟩:=P3.map
 have hfx:f x.1=none:=by
  cases hh:f x.1 with
  |none=>rfl
  |some k=>
   obtain⟨a,b⟩:=(hok x.1 k).1 hh;exact absurd b (hx k a)
 refine lT (by rw[P3.at_.rd];rfl) (aI (n:=x.1) (by rw[A3.rd];rfl) (bo (by rw[P3.at_.rd];rfl) (Am hf λh4 M4 O4 z4=> ?_)));have P4at:=P3.at_.only O4 (by simpa using s5);have A4:=A3.only O4 (by simp;omega)
 have own4:=P3.own.only O4 λb hb=>by have:mb≠b:=λe=>s4 (by rw[hb,<-e];simp[aX]);simpa using Ne.symm this
 refine bo (by rw[P4at.rd];rfl) (aI (n:=x.1) (by rw[A4.rd];rfl) (aI (n:=x.2) (by rw[A4.rd];rfl) (aV λh5 A5 O5 z5=> ?_)));have P5at:=P4at.only O5 ak;refine⟨by trivial,by trivial,by trivial,by trivial,bo (by rw[P5at.rd];rfl) ⟨by trivial,?_⟩⟩;have own5:=own4.only O5 ak;have sz3:=O13.size;refine fT own5 A5 rfl rfl ah (by simp[Value.oneCell']) ah λp' c' h6 own6 O6 hp'=>⟨by trivial,?_⟩;have P6at:=P5at.only O6 s3;refine aS P6at ak rfl λh7 A7 O7 z7=> ?_
 have hp2: ∀b∈aX p',b∈aX p\/h.size<=b:=λb hb=>by
  rcases hp' b hb with h|h
  ·exact Or.inl h
  ·exact Or.inr ah
 have hpi:pi∉aX p':=λhb=>by
  rcases hp2 _ hb with h|h
  ·exact s3 h
  ·omega
 have hmb:mb∉aX p':=λhb=>by
  rcases hp2 _ hb with h|h
  ·exact s4 h
  ·omega
 refine hK h7 p' c' ⟨?_,?_,⟨_,((M4.only O5 ak).only O6 s4).only O7 (by simpa using Ne.symm s5),hok.push hfx⟩,s1,s2,hpi,hmb,s5⟩ ?_ hp2
 ·rw[List.length_append];exact A7
 ·rw[List.length_append,pt]
  exact own6.only O7 λb hb=>by have:pi≠b:=λe=>hpi (by rw[hb,<-e];simp[aX]);simpa using Ne.symm this
 ·have g1:aM (pi::mb::aX p) h h4:=(O13.mono (T:=pi::mb::aX p) ak).trans O4 ak;exact((g1.trans O5 ak).trans O6 (λb hb _=>by simp[hb])).trans O7 ak
def Hz{x:It}(P:dA h lo pi mb p c (L++[x]))(hl:L.length<100000)
  (hK: ∀h',dA h' lo pi mb p c L->aM [pi,mb] h h'->K (.iface 357 (.agg #[al x.1,al x.2])) h'):
  Cl 398 [au (aw pi)] h K:=by
 apply F398.spec;simp only[aL,Nat.zero_add,Nat.add_zero];obtain⟨s1,s2,s3,s4,s5⟩:=P.sep;obtain⟨lt1,lt2,lt3⟩:=P.lt;have hln:(L++[x]).length=L.length+1:=ak;obtain⟨b,ep,-⟩:=P.own.rd (j:=0) (by rw[dH];omega);subst ep
 have e: ∀k,k<(L.length+1)*2->rd h ⟨b,k,none⟩=(eE (L++[x]))[k]? :=by intro k hk;obtain⟨b',e1,e2⟩:=P.own.rd (j:=k) (by rw[dH];omega);injection e1 with e1;injection e1 with e1;subst e1;exact e2
 have ex:bS (L++[x]) L.length=x:=by simp[bS,List.getD]
 refine bo (by rw[P.at_.rd];rfl) (bo (by rw[P.at_.rd];rfl) ?_);rw[show ax (((L++[x]).length:Int)-(1:Int))=(L.length:Int) by rw[wrap_i64 ah ah];omega];simp only[aU,aL,Nat.zero_add,Nat.add_zero,Int.toNat_natCast];refine⟨ah,ah,aI (n:=x.1) (by rw[e _ ah,ik ah,ex]) (aI (n:=x.2) (by rw[e _ ah,il ah,ex]) ?_)⟩;refine aV λh1 A1 O1 z1=>aS A1 ak rfl λh2 A2 O2 z2=>aS A2 ak rfl λh3 A3 O3 z3=> ?_;have A3:At h3 h.size [al x.1,al x.2]:=A3;have O13:aM [] h h3:=O1.nil (O2.trans O3 ak) ak;have P3:=P.only O13 ak ak ak
 have hcap:L.length<=c:=by
  obtain⟨-,H⟩:=P.own;rcases H with⟨h1,-⟩|⟨b',sp,h1,h2,h3,h4,h5⟩
  ·cases h1
  ·omega
 refine bo (by rw[P3.at_.rd];rfl) ⟨ah,ah,?_⟩
 rw[show(if c=0 then(some (aw b):az)else Option.map (λa=>Addr.add a (0*2)) (some (aw b)))=some (aw b) by
  split
  ·rfl
  ·simp[Addr.add]]
 rw[Nat.sub_zero,Nat.sub_zero];refine aS P3.at_ ak rfl λh4 A4 O4 z4=> ?_;obtain⟨f,hf,hok⟩:=P3.map;have f4:=hf.only O4 (by simpa using Ne.symm s5);have B4:=A3.only O4 (by simp;omega);refine lT (by rw[A4.rd];rfl) (aI (n:=x.1) (by rw[B4.rd];rfl) (Ah f4 λh5 M5 O5 z5=> ?_));have B5:=B4.only O5 (by simp;omega);refine aI (n:=x.1) (by rw[B5.rd];rfl) (aI (n:=x.2) (by rw[B5.rd];rfl) ?_);refine hK h5 ⟨A4.only O5 (by simpa using s5),?_,⟨_,M5,hok.pop⟩,P.sep⟩ ?_
 ·have own3:=P3.own;rw[hln]at own3
  exact((own3.cut).only O4 λy hy=>by
   injection hy with hy;injection hy with hy;subst hy;simp only[aX,List.mem_singleton]at s3
   simpa using Ne.symm s3).only O5 λy hy=>by injection hy with hy;injection hy with hy;subst hy;simp only[aX,List.mem_singleton]at s4;simpa using Ne.symm s4
 ·exact((O13.mono (T:=[pi,mb]) ak).trans O4 ak).trans O5 ak
end
end
section
def eH.congr{L M:List It}{n:Nat}(H:eH L n)(e: ∀k,k<n->bS M k=bS L k):eH M n:=by
 intro k h0 h1;have hp:dp k<k:=by unfold dp;omega
 unfold kc;rw[e k h1,e (dp k) ah];exact H k h0 h1
def uD{L:List It}{n:Nat}(h:L.length=n+1): ∃M x,L=M++[x]/\M.length=n/\x=bS L n:=by
 have hne:L≠[]:=by intro e;rw[e]at h;cases h
 refine⟨L.dropLast,L.getLast hne,(List.dropLast_concat_getLast hne).symm,by simp[h],?_⟩;rw[List.getLast_eq_getElem,<-CK]
 ·congr 1
  omega
 ·omega
def Dy{M:List It}{x:It}{k:Nat}(hk:k<M.length):bS (M++[x]) k=bS M k:=by simp[bS,List.getD,List.getElem?_append_left hk]
section
variable {h:aH}{lo pi mb:Nat}{p:az}{c:Nat}{L:List It}{K:KK}{i j:Nat}
def Iy{n:Nat}(hl:L.length<100000)(hn:n<=L.length): ∀(j:Nat) {L':List It} {h':aH},dA h' lo pi mb p c L'->L'.Perm L->AY L' n j->j<n->aM (mb::aX p) h h'->(∀k,n<=k->bS L' k=bS L k)->
  (∀h' L',dA h' lo pi mb p c L'->L'.Perm L->eH L' n->(∀k,n<=k->bS L' k=bS L k)->aM (mb::aX p) h h'->K aE h')-> ∀g,j<g->F339.wL0 g (aw pi) (j:Int) h' K:=by
 intro j
 induction j using Nat.strongRecOn with
 |_ j ih=>
  intro L' h' P hp U hj O hge hK g hg;obtain⟨g,rfl⟩: ∃g',g=g'+1:=⟨g-1,ah⟩;have hlen:=hp.length_eq;rw[F339.sL0];refine⟨by decide,?_⟩;by_cases h0:j=0
  ·subst h0;rw[show((ax (Int.tdiv (ax (((0:Nat):Int)-(1:Int))) (2:Int)))==((0:Nat):Int))=true from rfl,aO];exact hK h' L' P hp (U.done (Or.inl rfl)) hge O
  ·have e:ax (Int.tdiv (ax ((j:Int)-(1:Int))) (2:Int))=((dp j:Nat):Int):=by
    rw[wrap_i64 (n:=(j:Int)-1) ah ah,Int.tdiv_eq_ediv_of_nonneg ah];unfold dp;rw[wrap_i64 ah ah];omega
   have hpj:dp j<j:=by unfold dp;omega
   rw[e,show(((dp j:Nat):Int)==(j:Int))=false by simp;omega,aJ];refine vS P ah ah λh1 P1 O1=>aY rfl ?_;cases hb:jZ (bS L' j) (bS L' (dp j))with
   |false=>
    rw[Bool.not_false,aO];exact hK h1 L' P1 hp (U.done (Or.inr hb)) hge (O.trans O1 ak)
   |true=>
    rw[Bool.not_true,aJ];refine uX P1 ah ah λh2 P2 O2=>⟨rfl,?_⟩;refine ih (dp j) hpj P2 ((kz ah ah).trans hp) (U.step ah hj ah hb) ah ((O.trans O1 ak).trans O2 λb hb _=>hb) (λk hk=> ?_) hK g ah;rw[ip ah ah,if_neg ah,if_neg ah];exact hge k hk
def DF{n:Nat}(P:dA h lo pi mb p c L)(hl:L.length<100000)(hn:n<=L.length)(U:AY L n j)(hj:j<n)
  (hK: ∀h' L',dA h' lo pi mb p c L'->L'.Perm L->eH L' n->(∀k,n<=k->bS L' k=bS L k)->aM (mb::aX p) h h'->K aE h'):
  Cl 339 [.iface 370 (au (aw pi)),al (j:Int)] h K:=by
 apply F339.spec;exact⟨j+1,Iy hl hn j P (List.Perm.refl _) U hj (aM.refl _ _) (λ_ _=>rfl) hK (j+1) ah⟩
def Fy{n i0:Nat}(hl:L.length<100000)(hn:n<=L.length)
  (hK: ∀h' L' mv,dA h' lo pi mb p c L'->L'.Perm L->(mv=true->eH L' n)->(mv=false->AY L' n i0)->(∀k,n<=k->bS L' k=bS L k)->aM (mb::aX p) h h'->K (aD mv) h'):
  ∀(d i:Nat) {L':List It} {h':aH},n-i<=d->dA h' lo pi mb p c L'->L'.Perm L->nc L' n i0 i->i<=L.length->aM (mb::aX p) h h'->(∀k,n<=k->bS L' k=bS L k)->F358.wL2 (d+1) (aw pi) (i0:Int) (n:Int) (i:Int) h' K:=by
 intro d
 induction d with
 |zero=>
  intro i L' h' hd P hp D hi O hge;rw[F358.sL2]
  have e1:ax ((ax ((2:Int)*(i:Int)))+(1:Int))=((2*i+1:Nat):Int):=by rw[wrap_i64 (n:=(2:Int)*(i:Int)) ah ah,wrap_i64 ah ah];omega
  rw[e1,decide_eq_true ah,aO];unfold F358.wk11;obtain⟨d1,d2⟩:=D.done (λk h0 h1 hk=>by unfold dp at hk;omega);have le:=D.le;refine hK h' L' _ P hp (λe=>d1 ?_) (λe=>d2 ?_) hge O
  ·have:=of_decide_eq_true e;omega
  ·have:=of_decide_eq_false e;omega
 |succ d ih=>
  intro i L' h' hd P hp D hi O hge;have hlen:=hp.length_eq;have le:=D.le;rw[F358.sL2]
  have e1:ax ((ax ((2:Int)*(i:Int)))+(1:Int))=((2*i+1:Nat):Int):=by rw[wrap_i64 (n:=(2:Int)*(i:Int)) ah ah,wrap_i64 ah ah];omega
  rw[e1]
  have stop: ∀h',dA h' lo pi mb p c L'->aM (mb::aX p) h h'->(∀k,0<k->k<n->dp k=i->kc L' k)->F358.wk11 (i0:Int) (i:Int) h' K:=by
   intro h' P' O' hc;unfold F358.wk11;obtain⟨d1,d2⟩:=D.done hc;refine hK h' L' _ P' hp (λe=>d1 ?_) (λe=>d2 ?_) hge O'
   ·have:=of_decide_eq_true e;omega
   ·have:=of_decide_eq_false e;omega
  by_cases hj1:n<=2*i+1
  ·rw[decide_eq_true ah,aO];exact stop h' P O (λk h0 h1 hk=>by unfold dp at hk;omega)
  ·rw[decide_eq_false ah,aJ,decide_eq_false ah,aJ];rw[show ax (((2*i+1:Nat):Int)+(1:Int))=((2*i+2:Nat):Int) by rw[wrap_i64 ah ah];omega]
   have go: ∀(jj:Nat) (h':aH),dA h' lo pi mb p c L'->aM (mb::aX p) h h'->jj<n->0<jj->dp jj=i->(∀k,0<k->k<n->dp k=i->jZ (bS L' k) (bS L' jj)=false)->
     F358.wk8 (λx0 x1 x2 x7 h=>F358.wL2 (d+1) x0 x1 x2 x7 h K) (aw pi) (i0:Int) (n:Int) (i:Int) (jj:Int) h' K:=by
    intro jj h' P' O' hjn hj0 hpj hc;have hij:i<jj:=by rw[<-hpj];unfold dp;omega
    unfold F358.wk8;refine vS P' ah ah λh1 P1 O1=>aY rfl ?_;cases hb:jZ (bS L' jj) (bS L' i)with
    |false=>
     rw[Bool.not_false,aO];refine stop h1 P1 (O'.trans O1 ak) λk h0 h1 hk=> ?_;unfold kc;rw[hk];exact oT (hc k h0 h1 hk) hb
    |true=>
     rw[Bool.not_true,aJ];refine uX P1 ah ah λh2 P2 O2=>⟨rfl,?_⟩;refine ih jj ah P2 ((kz ah ah).trans hp) (D.step hjn ah hj0 hpj hb hc) ah ((O'.trans O1 ak).trans O2 λb hb _=>hb) (λk hk=> ?_);rw[ip ah ah,if_neg ah,if_neg ah];exact hge k hk
   by_cases hj2:2*i+2<n
   ·rw[decide_eq_true ah,aO];refine vS P ah ah λh1 P1 O1=>aY rfl ?_;cases hb:jZ (bS L' (2*i+2)) (bS L' (2*i+1))with
    |true=>
     rw[aO];refine go (2*i+2) h1 P1 (O.trans O1 ak) hj2 ah (by unfold dp;omega) λk h0 h1 hk=> ?_;have:k=2*i+1\/k=2*i+2:=by unfold dp at hk;omega
     rcases this with rfl|rfl
     ·exact oZ hb
     ·exact oP _
    |false=>
     rw[aJ];refine go (2*i+1) h1 P1 (O.trans O1 ak) ah ah (by unfold dp;omega) λk h0 h1 hk=> ?_;have:k=2*i+1\/k=2*i+2:=by unfold dp at hk;omega
     rcases this with rfl|rfl
     ·exact oP _
     ·exact hb
   ·rw[decide_eq_false ah,aJ];refine go (2*i+1) h' P O ah ah (by unfold dp;omega) λk h0 h1 hk=> ?_;have:k=2*i+1:=by unfold dp at hk;omega
    subst this;exact oP _
def xg{n i0:Nat}(P:dA h lo pi mb p c L)(hl:L.length<100000)(hn:n<=L.length)(hi:i0<=L.length)(D:nc L n i0 i0)
  (hK: ∀h' L' mv,dA h' lo pi mb p c L'->L'.Perm L->(mv=true->eH L' n)->(mv=false->AY L' n i0)->(∀k,n<=k->bS L' k=bS L k)->aM (mb::aX p) h h'->K (aD mv) h'):
  Cl 358 [.iface 370 (au (aw pi)),al (i0:Int),al (n:Int)] h K:=by
 apply F358.spec;unfold F358.wk2;exact⟨n+1,Fy hl hn hK n i0 ah P (List.Perm.refl _) D hi (aM.refl _ _) λ_ _=>rfl⟩
def EU{x:It}(P:dA h lo pi mb p c L)(H:eH L L.length)(hx: ∀k,k<L.length->(bS L k).1≠x.1)(hl:L.length<90000)(hlo:lo<=h.size)
  (hK: ∀h' p' c' L',dA h' lo pi mb p' c' L'->L'.Perm (L++[x])->eH L' L'.length->aM (pi::mb::aX p) h h'->(∀b∈aX p',b∈aX p\/h.size<=b)->K aE h'):
  Cl 309 [.iface 370 (au (aw pi)),.iface 357 (.agg #[al x.1,al x.2])] h K:=by
 apply F309.spec;refine Fx P hx ah hlo λh1 p1 c1 P1 O1 hp1=>⟨rfl,yL P1 (aI rfl ?_)⟩;have hln:(L++[x]).length=L.length+1:=ak;rw[show ax (((L++[x]).length:Int)-(1:Int))=(L.length:Int) by rw[wrap_i64 ah ah];omega];refine DF (n:=L.length+1) P1 ah ah (Bj H) ah λh2 L2 P2 p2 H2 _ O2=>⟨rfl,?_⟩;have hlen2:=p2.length_eq;refine hK h2 p1 c1 L2 P2 p2 (by rw[hlen2,hln];exact H2) (O1.trans O2 λb hb hlt=> ?_) hp1;simp only[List.mem_cons]at hb ⊢;rcases hb with hb|hb
 ·exact Or.inr (Or.inl hb)
 ·rcases hp1 b hb with h3|h3
  ·exact Or.inr (Or.inr h3)
  ·omega
def Fu{x:It}{h1:aH}{L1:List It}(P1:dA h1 lo pi mb p c L1)(hlen:L1.length=L.length)(hL:L.length<100000)(p1:L1.Perm L)(H1:eH L1 (L.length-1))(hne:0<L.length)(hx:bS L1 (L.length-1)=x)(O1:aM (mb::aX p) h h1)
  (hK: ∀h' M,dA h' lo pi mb p c M->(M++[x]).Perm L->eH M M.length->aM (pi::mb::aX p) h h'->K (.iface 357 (.agg #[al x.1,al x.2])) h'):
  Cl 398 [au (aw pi)] h1 (λv h2=>lI (some v) (λv'=>K v' h2)):=by
 obtain⟨M,y,e,hM,hy⟩:=uD (L:=L1) (n:=L.length-1) ah;rw[hx]at hy;subst hy;subst e;refine Hz P1 ah λh2 P2 O2=> ?_;rw[eS];refine hK h2 M P2 p1 (eH.congr (L:=M++[y]) (by rw[hM];exact H1) λk hk=>(Dy hk).symm) ((O1.mono (T:=pi::mb::aX p) (by simp+contextual)).trans O2 (by simp+contextual))
def HE(P:dA h lo pi mb p c L)(H:eH L L.length)(hl:L.length<100000)(hne:0<L.length)
  (hK: ∀h' M,dA h' lo pi mb p c M->(M++[bS L 0]).Perm L->eH M M.length->aM (pi::mb::aX p) h h'->K (.iface 357 (.agg #[al (bS L 0).1,al (bS L 0).2])) h'):
  Cl 341 [.iface 370 (au (aw pi))] h K:=by
 apply F341.spec;refine yL P (aI rfl ?_);rw[show ax ((L.length:Int)-(1:Int))=((L.length-1:Nat):Int) by rw[wrap_i64 ah ah];omega];rw[show(0:Int)=((0:Nat):Int)from rfl];refine uX P ah ah λh1 P1 O1=>⟨rfl,?_⟩;have sw:=ip (L:=L) (i:=0) (j:=L.length-1) ah ah
 have D:nc (gE L 0 (L.length-1)) (L.length-1) 0 0:=by
  refine⟨λk h0 h1 hk hk2=> ?_,λk h0 h1 hk hi=>ah,Nat.le_refl _⟩;have hp:dp k<k:=by unfold dp;omega
  unfold kc;rw[sw k,sw (dp k),if_neg ah,if_neg ah,if_neg ah,if_neg ah];exact H k h0 ah
 refine xg P1 (by rw[d9];exact hl) (by rw[d9];omega) ah D λh2 L2 mv P2 p2 m1 m2 ge O2=>aY rfl ?_;have hlen:=p2.length_eq;rw[d9]at hlen
 have H2:eH L2 (L.length-1):=by
  cases mv with
  |true=>exact m1 rfl
  |false=>exact(m2 rfl).done (Or.inl rfl)
 refine Fu (x:=bS L 0) P2 hlen hl (p2.trans (kz ah ah)) H2 hne ?_ (O1.trans O2 λb hb _=>hb) hK;rw[ge _ (Nat.le_refl _),sw,if_pos rfl]
end
end
section
variable {i j k l m n o p q r s t:Int}{a b c d:Addr}{u v:Nat}{x y:az}{h:aH}{K:KK}
def F310.spec(H:a9 h (.cells #[al 0,al 0] 357) λc d=>Cl 340 [au a] d λa d=>aQ .i64 (some a) λa=>aK (a==0) (aW d ((aw c).add 0) (al 0) λa=>aW a ((aw c).add 1) (al 0) λa=>aQ .i64 (rd a ((aw c).add 0)) λb=>aQ .i64 (rd a ((aw c).add 1)) λc=>K (.tuple #[.agg #[al b,al c],aB]) a) (Cl 311 [au b] d λa b=> ∃d:Int,∃e:Int,a=(.agg #[al d,al e])/\aW b ((aw c).add 0) (al d) λa=>aW a ((aw c).add 1) (al e) λa=>aQ .i64 (rd a ((aw c).add 0)) λb=>aQ .i64 (rd a ((aw c).add 1)) λc=>K (.tuple #[.agg #[al b,al c],aC]) a)):Cl 310 [au a,.func (.func 311) #[au b] #[]] h K:=cN Tryz.func310 H
end
section
variable {i j k l m n o p q r s t:Int}{a b c d:Addr}{u v:Nat}{x y:az}{h:aH}{K:KK}
def F290.spec(H:a9 h (.cells #[al 0,al 0] 357) λb c=>Cl 310 [au a,.func (.func 311) #[au a] #[]] c λa c=> ∃d:Int,∃e:Int,∃f:Bool,a=(.tuple #[.agg #[al d,al e],aD f])/\aW c ((aw b).add 0) (al d) λa=>aW a ((aw b).add 1) (al e) λa=>aQ .i64 (rd a ((aw b).add 0)) λc=>aQ .i64 (rd a ((aw b).add 1)) λb=>K (.tuple #[.agg #[al c,al b],aD f]) a):Cl 290 [au a] h K:=cN Tryz.func290 H
end
section
structure Qu(h:aH)(lo q pi mb:Nat)(p:az)(c:Nat)(L:List It):Prop where
 at_:At h q [au (aw pi)]
 pile:dA h lo pi mb p c L
 heap:eH L L.length
 sep:lo<=q/\q≠pi/\q≠mb/\q∉aX p
def Qu.only{S:List Nat}{h h':aH}{lo q pi mb:Nat}{p:az}{c:Nat}{L:List It}(H:Qu h lo q pi mb p c L)(O:aM S h h')(hS: ∀b∈q::pi::mb::aX p,b∉S):Qu h' lo q pi mb p c L:=
 ⟨H.at_.only O (hS _ ak),H.pile.only O (hS _ ak) (hS _ ak) (λb hb=>hS b (by simp[hb])),H.heap,H.sep⟩
def Qu.lt{h:aH}{lo q pi mb:Nat}{p:az}{c:Nat}{L:List It}(H:Qu h lo q pi mb p c L): ∀b∈q::pi::mb::aX p,lo<=b/\b<h.size:=by
 intro b hb;obtain⟨s1,s2,s3,s4⟩:=H.sep;obtain⟨u1,u2,-⟩:=H.pile.sep;obtain⟨v1,v2,v3⟩:=H.pile.lt;simp only[List.mem_cons]at hb;rcases hb with rfl|rfl|rfl|hb
 ·exact⟨s1,H.at_.lt⟩
 ·exact⟨u1,v1⟩
 ·exact⟨u2,v2⟩
 ·exact v3 b hb
def ym(L:List It)(id:Int):Prop:= ∃k,k<L.length/\(bS L k).1=id
def zA(v:Value)(K:Value->Prop):kY Tryz.prog 357 false (.iface 357 v) K=K v:=by kernel_rfl
def BK(b:Nat)(n m:Int)(h:aH)(K:aH->Prop):dF Tryz.prog 357 (some (aw b)) (.agg #[al n,al m]) h K=aW h (Addr.add (aw b) 0) (al n) (λh1=>aW h1 (Addr.add (aw b) 1) (al m) K):=by kernel_rfl
section
variable {h:aH}{lo q pi mb:Nat}{p:az}{c:Nat}{L:List It}{K:KK}{i j:Nat}
def ER(hK: ∀q pi mb h',Qu h' h.size q pi mb none 0 []->aM [] h h'->K (au (aw q)) h'):Cl 288 [] h K:=by
 apply F288.spec;have O1:=aM.push_map h #[] 0;have m1:mp (h.push (.map #[] 0)) h.size=some (#[],0):=by simp[mp]
 have z1:(h.push (.map #[] 0)).size=h.size+1:=ak;show(λb1 h2=>a9 h2 (.cells #[(.slice none 0 0),(.map (some b1))] 374) (λb3 h4=>a9 h4 (.cells #[(au (aw b3))] 376) (λb5 h6=>K (au (aw b5)) h6))) h.size (h.push (.map #[] 0));generalize h.push (.map #[] 0)=h1 at*
 refine aV λh2 A2 O2 z2=>aV λh3 A3 O3 z3=> ?_;have M1:bO h1 h.size .i64 []:=bO.empty m1;have M3:=(M1.only O2 ak).only O3 ak;refine hK h2.size h1.size h.size h3 ⟨A3,⟨A2.only O3 ak,cj.nil _ _ _,⟨λ_=>none,⟨[],M3,λx=>rfl⟩,λid i=>ak⟩,ah,ah,by simp[aX],by simp[aX],ah⟩,λk h0 h1=>by simp at h1,ah,ah,ah,by simp[aX]⟩ ((O1.trans O2 ak).trans O3 ak)
def CV{id:Int}{K:Option (Nat×Value)->Prop}(Q:dA h lo pi mb p c L)(hN: ¬ym L id->K none)(hS: ∀i k,k<L.length->(bS L k).1=id->K (some (i,al (k:Int)))):dP h (some mb) .i64 .i64 id K:=by
 obtain⟨f,hf,hok⟩:=Q.map;refine xJ hf (λe=>hN ?_) λi k e=> ?_
 ·rintro ⟨k,hk,hid⟩;rw[(hok id k).2 ⟨hk,hid⟩]at e;cases e
 ·obtain⟨a,b⟩:=(hok id k).1 e;exact hS i k a b
def DJ{x:It}(Q:Qu h lo q pi mb p c L)(hl:L.length<90000)(hlo:lo<=h.size)(hT:ym L x.1->K aB h)
  (hF: ¬ym L x.1-> ∀h' p' c' L',Qu h' lo q pi mb p' c' L'->L'.Perm (L++[x])->aM (pi::mb::aX p) h h'->(∀b∈aX p',b∈aX p\/h.size<=b)->K aC h'):
  Cl 289 [au (aw q),al x.1,al x.2] h K:=by
 apply F289.spec;simp only[aL,Nat.zero_add];obtain⟨s1,s2,s3,s4⟩:=Q.sep;refine aR (by rw[Q.at_.rd];rfl) ?_;simp only[aU,aL,Nat.zero_add];refine lT (by rw[Q.pile.at_.rd];rfl) (CV Q.pile (λhn=>aI rfl ?_) λi k hk hid=>aI rfl ?_)
 ·rw[Option.isSome_none,aJ];refine aR (by rw[Q.at_.rd];rfl) (EU Q.pile Q.heap (λk hk e=>hn ⟨k,hk,e⟩) hl hlo λh1 p1 c1 L1 P1 p1' H1 O1 hp1=>⟨rfl,?_⟩);have hq:=Q.at_.lt;refine hF hn h1 p1 c1 L1 ⟨Q.at_.only O1 (by simp[s2,s3,s4]),P1,H1,s1,s2,s3,λhb=> ?_⟩ p1' O1 hp1;rcases hp1 q hb with h3|h3
  ·exact s4 h3
  ·omega
 ·rw[Option.isSome_some,aO];exact hT ⟨k,hk,hid⟩
def Fn(Q:Qu h lo q pi mb p c L)(hK:K (al (L.length:Int)) h):Cl 340 [au (aw q)] h K:=by apply F340.spec;simp only[aL,Nat.zero_add];exact aR (by rw[Q.at_.rd];rfl) (yL Q.pile (aI rfl hK))
def Bc(Q:Qu h lo q pi mb p c L)(hl:L.length<90000)(hne:0<L.length)
  (hK: ∀h' M,Qu h' lo q pi mb p c M->(M++[bS L 0]).Perm L->aM (pi::mb::aX p) h h'->K (.agg #[al (bS L 0).1,al (bS L 0).2]) h'):Cl 311 [au (aw q)] h K:=by
 apply F311.spec;simp only[aL,Nat.zero_add];have lt:=Q.lt;obtain⟨s1,s2,s3,s4⟩:=Q.sep;refine aV λh1 A1 O1 z1=> ?_;have Q1:=Q.only O1 ak;refine aR (by rw[Q1.at_.rd];rfl) (HE Q1.pile Q1.heap ah hne λh2 M P2 p2 H2 O2=> ?_);rw[eS,zA,BK]
 have hnS:h.size∉pi::mb::aX p:=λhb=>by have:=(lt h.size (List.mem_cons_of_mem _ hb)).2;omega
 simp only[aL,Nat.zero_add,Nat.add_zero];refine aS (A1.only O2 hnS) ak rfl λh3 A3 O3 z3=>aS A3 ak rfl λh4 A4 O4 z4=> ?_;refine aI (n:=(bS L 0).1) (by rw[A4.rd];rfl) (aI (n:=(bS L 0).2) (by rw[A4.rd];rfl) ?_);have O34:=O3.trans O4 ak;have Q2:Qu h2 lo q pi mb p c M:=⟨Q1.at_.only O2 (by simp[s2,s3,s4]),P2,H2,s1,s2,s3,s4⟩;refine hK h4 M (Q2.only O34 λb hb=> ?_) p2 ?_
 ·have:=(lt b hb).2;simp;omega
 ·exact((O1.mono (T:=pi::mb::aX p) ak).trans O2 λb hb _=>hb).trans O34 ak
def FK(Q:Qu h lo q pi mb p c L)(hl:L.length<90000)(hN:L=[]-> ∀h',Qu h' lo q pi mb p c []->aM [] h h'->K (.tuple #[.agg #[al 0,al 0],aB]) h')
  (hK: ∀h' M,0<L.length->Qu h' lo q pi mb p c M->(M++[bS L 0]).Perm L->aM (pi::mb::aX p) h h'->K (.tuple #[.agg #[al (bS L 0).1,al (bS L 0).2],aC]) h'):Cl 290 [au (aw q)] h K:=by
 apply F290.spec;have lt:=Q.lt;refine aV λh1 A1 O1 z1=> ?_;have Q1:=Q.only O1 ak;apply F310.spec;refine aV λh2 A2 O2 z2=> ?_;have Q2:=Q1.only O2 ak;simp only[aL,Nat.zero_add];refine Fn Q2 (aI rfl ?_)
 have frame: ∀{h3 h4:aH} {M:List It} {x:Nat},Qu h3 lo q pi mb p c M->aM [x] h3 h4->h.size<=x->Qu h4 lo q pi mb p c M:=λQ3 O hx=>Q3.only O λb hb=>by have:=(lt b hb).2;simp;omega
 have B2:=A1.only O2 ak;by_cases hL:L=[]
 ·subst hL;rw[show(((([]:List It).length:Int))==(0:Int))=true from rfl,aO];refine aS A2 ak rfl λh3 A3 O3 z3=>aS A3 ak rfl λh4 A4 O4 z4=> ?_;refine aI (n:=0) (by rw[A4.rd];rfl) (aI (n:=0) (by rw[A4.rd];rfl) ⟨_,_,_,rfl,?_⟩);have O34:=O3.trans O4 ak;refine aS (B2.only O34 (by simp;omega)) ak rfl λh5 A5 O5 z5=>aS A5 ak rfl λh6 A6 O6 z6=> ?_;refine aI (n:=0) (by rw[A6.rd];rfl) (aI (n:=0) (by rw[A6.rd];rfl) ?_);have O56:=O5.trans O6 ak;exact hN rfl h6 (frame (frame Q2 O34 ah) O56 ah) (((O1.trans O2 ak).nil O34 (by simp;omega)).nil O56 ak)
 ·have hpos:0<L.length:=List.length_pos_iff.2 hL;rw[show((L.length:Int)==(0:Int))=false by simp;omega,aJ];refine Bc Q2 hl hpos λh3 M Q3 p3 O3=>⟨_,_,rfl,?_⟩
  have hnS: ∀x,h.size<=x->x∉pi::mb::aX p:=λx hx hb=>by have:=(lt x (List.mem_cons_of_mem _ hb)).2;omega
  refine aS (A2.only O3 (hnS _ ah)) ak rfl λh4 A4 O4 z4=>aS A4 ak rfl λh5 A5 O5 z5=> ?_;refine aI (n:=(bS L 0).1) (by rw[A5.rd];rfl) (aI (n:=(bS L 0).2) (by rw[A5.rd];rfl) ⟨_,_,_,rfl,?_⟩);have O45:=O4.trans O5 ak;refine aS ((B2.only O3 (hnS _ ah)).only O45 (by simp;omega)) ak rfl λh6 A6 O6 z6=>aS A6 ak rfl λh7 A7 O7 z7=> ?_;refine aI (n:=(bS L 0).1) (by rw[A7.rd];rfl) (aI (n:=(bS L 0).2) (by rw[A7.rd];rfl) ?_);have O67:=O6.trans O7 ak;refine hK h7 M hpos (frame (frame Q3 O45 ah) O67 ah) p3 ?_;have g1:aM (pi::mb::aX p) h h3:=((O1.trans O2 ak).mono (T:=pi::mb::aX p) ak).trans O3 λb hb _=>hb;exact(g1.trans O45 (by simp;omega)).trans O67 ak
end
end
section
def Hx:bZ X 290=some cY.go:=by kernel_rfl
structure Pl(h0 k:aH)(n lo q pi mb:Nat)(pp:az)(cc:Nat)(M:List It)(zp:az)(zc:Nat)(zs:List Int):Prop where
 Q:Qu k lo q pi mb pp cc M
 W:cj k h0.size 1 zp zs.length zc (zs.map (Value.int .i64))
 d: ∀y∈aX zp,y∉q::pi::mb::aX pp
 O:aM [] h0 k
 l:h0.size<=lo
 mi: ∀x∈M,∃i:Nat,i<n/\x.1=(i:Int)
 zi: ∀z∈zs,∃i:Nat,i<n/\z=(i:Int)
 len:M.length+zs.length<=50
section
variable {h h0 h':aH}{s n room lo c k v level q pi mb cc zc:Nat}{fo gg fo' gg':Nat->Nat}{off:Bool}{L L':List Nat}{p pp zp:az}{K:KK}{M:List It}{zs:List Int}
def Pl.only0(P:Pl h0 h n lo q pi mb pp cc M zp zc zs)(O:aM [] h h'):Pl h0 h' n lo q pi mb pp cc M zp zc zs:=
 ⟨P.Q.only O (λb hb=>ak),P.W.only O ak,P.d,P.O.trans O ak,P.l,P.mi,P.zi,P.len⟩
def Pl.onlyB{b:Nat}(P:Pl h0 h n lo q pi mb pp cc M zp zc zs)(O:aM [b] h h')(hb:h0.size<=b)(h1:b∉q::pi::mb::aX pp)(h2:b∉aX zp):Pl h0 h' n lo q pi mb pp cc M zp zc zs:=
 ⟨P.Q.only O (λy hy hm=>by simp only[List.mem_singleton]at hm;subst hm;exact h1 hy),P.W.only O (λy e hm=>by simp only[List.mem_singleton]at hm;subst hm;exact h2 (by rw[e];simp[aX])),P.d,P.O.trans O (λy hy hl=>by simp only[List.mem_singleton]at hy;omega),P.l,P.mi,P.zi,P.len⟩
def Pl.lt(P:Pl h0 h n lo q pi mb pp cc M zp zc zs):(∀y∈q::pi::mb::aX pp,y<h.size)/\ ∀y∈aX zp,y<h.size:=⟨λy hy=>(P.Q.lt y hy).2,λy hy=>(P.W.lt y hy).2⟩
def yk(P:Pl h0 h n lo q pi mb pp cc M zp zc zs)(hN: ∀h',Pl h0 h' n lo q pi mb pp cc [] zp zc zs->aM [] h h'->K (.tuple #[.agg #[al 0,al 0],aB]) h')
  (hK: ∀h' M' (i:Nat) (z:Int),i<n->M'.length+1=M.length->Pl h0 h' n lo q pi mb pp cc M' zp zc zs->aM (pi::mb::aX pp) h h'->K (.tuple #[.agg #[al (i:Int),al z],aC]) h'):
  Cl 290 [au (aw q)] h K:=by
 have pl:=P.len;refine FK P.Q ah (λe h1 Q1 O1=> ?_) λh1 M1 hl Q1 pm O1=> ?_
 ·subst e;exact hN h1 ⟨Q1,P.W.only O1 ak,P.d,P.O.trans O1 ak,P.l,P.mi,P.zi,P.len⟩ O1
 ·have e1:M1.length+1=M.length:=by
   have:=pm.length_eq;simpa using this
  have m0:bS M 0∈M:=pm.subset ak;obtain⟨i,hi,ei⟩:=P.mi _ m0;rw[ei];refine hK h1 M1 i _ hi e1 ⟨Q1,P.W.only O1 λy e hm=>P.d y (by rw[e];simp[aX]) (List.mem_cons_of_mem _ hm),P.d,P.O.trans O1 λy hy hl=>by have:=(P.Q.lt y (List.mem_cons_of_mem _ hy)).1;have:=P.l;omega,P.l,λx hx=>P.mi x (pm.subset (by simp[hx])),P.zi,ah⟩ O1
set_option maxRecDepth 100000 in
def IE(hK: ∀(h':aH) (zp:az) (zc:Nat) (zs:List Int),cj h' h0.size 1 zp zs.length zc (zs.map (Value.int .i64))->(∀z∈zs,∃i:Nat,i<n/\z=(i:Int))->zs.length<=50->aM [] h0 h'->K (.tuple #[.slice zp zs.length zc,al 0]) h'):
  ∀(gas:Nat) {h:aH} {M:List It} {zp:az} {zc:Nat} {zs:List Int} {b:Nat} {t:Bool},1<=gas->(t=true->M.length+2<=gas)->Pl h0 h n lo q pi mb pp cc M zp zc zs->(t=true->zs.length+M.length<50/\(∃i:Nat,i<n/\ ∃z:Int,At h b [al (i:Int),al z])/\b∉aX zp)->
   F256.wL14 gas zp zs.length zc (.func (.func 290) #[au (aw q)] #[]) (aw b) t h K:=by
 intro gas
 induction gas with
 |zero=>intro h M zp zc zs b t hg;omega
 |succ gas ih=>
  intro h M zp zc zs b t _ hg P ht;rw[F256.sL14];cases t with
  |false=>
   rw[aJ];exact hK h zp zc zs P.W P.zi (by have:=P.len;omega) P.O
  |true=>
   have hg:=hg rfl;obtain⟨hz,⟨i,hi,z,A⟩,nb⟩:=ht rfl;rw[aO];simp only[aL,Nat.zero_add];refine aI (n:=(i:Int)) (by rw[At.rd A];rfl) (aV λh3 A3 O3 z3=> ?_);have P3:=P.only0 O3;have l3:=P3.lt;have s0:=P3.O.size;refine kG (new:=[al (i:Int)]) (q:=some (aw h.size)) P3.W rfl (fA A3 ak) rfl ah (by simp[Value.oneCell']) ah λzp' zc' h7 W7 O7 g7=> ?_;have e9:zs.map (Value.int .i64)++[al (i:Int)]=(zs++[(i:Int)]).map (Value.int .i64):=ak;have e10:zs.length+1=(zs++[(i:Int)]).length:=ak;rw[e9,e10]at W7;rw[e10]
   have P7:Pl h0 h7 n lo q pi mb pp cc M zp' zc' (zs++[(i:Int)]):=by
    refine⟨P3.Q.only O7 λy hy hm=>P3.d y hm hy,W7,λy hy hm=> ?_,P3.O.trans O7 λy hy hl=>by have:=(P3.W.lt y hy).1;omega,P3.l,P3.mi,λw hw=> ?_,by simp;omega⟩
    ·rcases g7 y hy with q|q
     ·exact P3.d y q hm
     ·have:=l3.1 y hm;omega
    ·rcases List.mem_append.1 hw with q|q
     ·exact P3.zi w q
     ·simp only[List.mem_singleton]at q;exact⟨i,hi,q⟩
   have A7:=(A.only O3 ak).only O7 nb
   have nb7:b∉aX zp':=λhm=>by
    rcases g7 b hm with q|q
    ·exact nb q
    ·have:=(A.only O3 ak).lt;omega
   refine aI (n:=(i:Int)) (by rw[At.rd A7];rfl) (aI (n:=z) (by rw[At.rd A7];rfl) (aV λh11 A11 O11 z11=> ?_));have P11:=P7.only0 O11;have l7:=P7.lt;have s7:=P7.O.size;have n1:h7.size∉q::pi::mb::aX pp:=λhm=>by have:=l7.1 _ hm;omega
   have n2:h7.size∉aX zp':=λhm=>by have:=l7.2 _ hm;omega
   refine aS A11 ak rfl λh12 A12 O12 z12=>aS A12 ak rfl λh13 A13 O13 z13=> ?_;have P13:=(P11.onlyB O12 ah n1 n2).onlyB O13 ah n1 n2;refine bE Hx (yk P13 (λh15 P15 O15=>⟨_,_,_,rfl,?_⟩) λh15 M' i' z' hi' hM P15 O15=>⟨_,_,_,rfl,?_⟩)
   ·have A15:=A13.only O15 ak;refine aS A15 ak rfl λh16 A16 O16 z16=>aS A16 ak rfl λh17 A17 O17 z17=> ?_;exact ih ah (λe=>by cases e) ((P15.onlyB O16 ah n1 n2).onlyB O17 ah n1 n2) λe=>by cases e
   ·have A15:=A13.only O15 λhm=>n1 (List.mem_cons_of_mem _ hm);refine aS A15 ak rfl λh16 A16 O16 z16=>aS A16 ak rfl λh17 A17 O17 z17=> ?_;exact ih ah (λ_=>ah) ((P15.onlyB O16 ah n1 n2).onlyB O17 ah n1 n2) λ_=>⟨by simp;omega,⟨i',hi',z',A17⟩,n2⟩
end
end
section
section
variable {h h0 h':aH}{s n room lo c k v level q pi mb cc zc:Nat}{fo gg fo' gg':Nat->Nat}{off:Bool}{N:ay}{L L' rs:List Nat}{G:Nat->Nat->Bool}{cb:Nat}{p pp zp:az}{K:KK}{M:List It}{zs:List Int}
set_option maxRecDepth 100000 in
def HK(S:nD h s n room fo gg off N L rs G cb lo p c)
  (hK: ∀(h':aH) (zp:az) (zc:Nat) (zs:List Int),cj h' h.size 1 zp zs.length zc (zs.map (Value.int .i64))->(∀z∈zs,∃i:Nat,i<n/\z=(i:Int))->zs.length<=50->aM [] h h'->K (.tuple #[.slice zp zs.length zc,al 0]) h'):
  Cl 256 [bh s,.slice p rs.length c] h K:=by
 have ok:=S.S.ok;dsimp only[XL]at ok;have n8:=ok.2.2.1;refine F256.spec _ _ _ _ h K ?_;refine xb S.S S.Ow (λr hr=>(S.ir r hr).1) S.rl λh1 b g A1 gb sem g4 O1=>⟨_,_,_,_,rfl,?_⟩;rw[show((0:Int) !=0)=false from rfl,aJ];have S1:=S.only0 O1;refine ER λq pi mb h2 Q2 O2=>aR rfl ?_;have S2:=S1.only0 O2;refine ic S2.S λoc h3 Or g3 O3=>aR rfl ?_;have s1:=O1.size;have s2:=O2.size;have s3:=O3.size;have lA:=A1.lt;unfold F256.wk7
 have main: ∀(d l:Nat) (k:aH) (pp:az) (cc:Nat) (M:List It),l+d=n->Pl h k n h1.size q pi mb pp cc M none 0 []->M.length<=l->At k b (zL n g)->cx k oc n fo gg->oc∉q::pi::mb::aX pp->oc<k.size->
   F256.wL7 (d+1) (some (aw q)) (some (aw oc)) (some (aw b)) n n (n:Int) (l:Int) k K:=by
  intro d
  induction d with
  |zero=>
   intro l k pp cc M hl P hM A Or no lo;rw[F256.sL7];rw[decide_eq_false ah,aJ];unfold F256.wk11
   have fin: ∀(k2:aH) (M2:List It) (i z:Int) (t:Bool),Pl h k2 n h1.size q pi mb pp cc M2 none 0 []->M2.length<=20->(t=true-> ∃j:Nat,j<n/\i=(j:Int))->a9 k2 (.cells #[(al (0:Int)),(al (0:Int))] 357) (λb8 h9=>aW h9 (Addr.add (aw b8) 0) (al i) (λh10=>aW h10 (Addr.add (aw b8) 1) (al z) (λh11=>F256.wk14 none 0 0 (.func (.func 290) #[(au (aw q))] #[]) (aw b8) t h11 K))):=by
    intro k2 M2 i z t P2 h20 hj;refine aV λk3 B3 P3 y3=> ?_;have l2:=P2.lt;have s2:=P2.O.size;simp only[aL,Nat.zero_add];have n1:k2.size∉q::pi::mb::aX pp:=λhm=>by have:=l2.1 _ hm;omega
    refine aS B3 ak rfl λk4 B4 P4 y4=>aS B4 ak rfl λk5 B5 P5 y5=> ?_;have PP:=((P2.only0 P3).onlyB P4 ah n1 (by simp[aX])).onlyB P5 ah n1 (by simp[aX]);unfold F256.wk14;refine⟨30,IE (zs:=[]) hK 30 ah (λ_=>ah) PP λe=>⟨by simp;omega,?_,by simp[aX]⟩⟩;obtain⟨j,hj2,ej⟩:=hj e;subst ej;exact⟨j,hj2,z,B5⟩
   exact yk P (λk2 P2 O2=>⟨_,_,_,rfl,fin k2 [] 0 0 false P2 ak λe=>by cases e⟩) λk2 M2 i z hi hM2 P2 O2=>⟨_,_,_,rfl,fin k2 M2 (i:Int) z true P2 ah λ_=>⟨i,hi,rfl⟩⟩
  |succ d ih=>
   intro l k pp cc M hl P hM A Or no lo;rw[F256.sL7];rw[decide_eq_true ah,aO,aU];refine⟨ah,ah,?_⟩;rw[aL,Nat.zero_add,Int.toNat_natCast,Nat.mul_one];refine aI (n:=(g l:Int)) (by rw[At.rd A,rP ah]) (Cc Or n8 ah (aI rfl ?_));have ew:ax ((l:Int)+1)=((l+1:Nat):Int):=by rw[wrap_i64 ah ah];omega
   rw[ew];have fl:=(S.P.2 l ah).1;have pz:=P.O.size;refine DJ (x:=((fo l:Int),(g l:Int))) P.Q (by have:=P.len;omega) (by have:=P.Q.sep.1;have:=P.Q.at_.lt;omega) (λ_=>aY rfl (ih (l+1) k pp cc M ah P ah A Or no lo)) λ_ k2 p2 c2 M2 Q2 pm O2 own=>aY rfl ?_;have lt:=P.lt;have bA:=A.lt;have hb:b∉pi::mb::aX pp:=λhm=>by have:=(P.Q.lt b (List.mem_cons_of_mem _ hm)).1;omega
   have lM:M2.length=M.length+1:=by have:=pm.length_eq;simpa using this
   refine ih (l+1) k2 p2 c2 M2 ah ⟨Q2,cj.nil _ _ _,λy hy=>(by simp[aX]at hy),P.O.trans O2 λy hy hl=>by have:=(P.Q.lt y (List.mem_cons_of_mem _ hy)).1;omega,P.l,λx hx=> ?_,λz hz=>(by cases hz),by simp;omega⟩ ah (A.only O2 hb) (Or.only O2 λhm=>no (List.mem_cons_of_mem _ hm)) (λhm=> ?_) (by have:=O2.size;omega)
   ·rcases List.mem_append.1 (pm.subset hx)with q|q
    ·exact P.mi x q
    ·simp only[List.mem_singleton]at q;subst q;exact⟨fo l,fl,rfl⟩
   ·rcases List.mem_cons.1 hm with q|q
    ·exact no (by rw[q];simp)
    ·rcases List.mem_cons.1 q with q|q
     ·exact no (by rw[q];simp)
     ·rcases List.mem_cons.1 q with q|q
      ·exact no (by rw[q];simp)
      ·rcases own oc q with q|q
       ·exact no (by simp[q])
       ·omega
 have O03:=(O1.trans O2 ak).trans O3 ak;refine⟨_,main n 0 h3 none 0 [] ah ⟨Q2.only O3 (λb hb=>ak),cj.nil _ _ _,λy hy=>(by simp[aX]at hy),O03,s1,λx hx=>(by cases hx),λz hz=>(by cases hz),ak⟩ (Nat.le_refl _) ((A1.only O2 ak).only O3 ak) Or (λhm=> ?_) Or.lt⟩;have:=(Q2.lt oc hm).2;omega
end
end
section
def GZ:bZ X 257=some cY.go:=by kernel_rfl
section
variable {h h0 h':aH}{s n room lo c:Nat}{fo gg:Nat->Nat}{off:Bool}{N:ay}{L L' rs:List Nat}{G:Nat->Nat->Bool}{cb:Nat}{p:az}{K:KK}
set_option maxRecDepth 100000 in
def Hi(S:nD h s n room fo gg off N L rs G cb lo p c)
  (hK: ∀h' L' fo' gg' N' a b e,nD h' s n room fo' gg' off N' L' rs G cb lo p c->aM L h h'->bH L L' h->K (.tuple #[al a,al b,al e]) h'):Cl 212 [bh s,.slice p rs.length c] h K:=by
 have ok:=S.S.ok;dsimp only[XL]at ok;refine F212.spec _ _ _ _ h K ?_;refine AW S λh1 L1 N1 gone S1 O1 F1=>⟨_,_,rfl,?_⟩;rw[show((0:Int) !=0)=false from rfl,aJ];refine HJ S1 λh2 zr O2=>aI rfl ?_;have S2:=S1.only0 O2;refine oV S2.S (aI rfl ?_);refine aT (λ_=>hK h2 L1 fo gg N1 0 0 60 S2 (O1.trans (O2.mono ak) λy hy _=>hy) F1) λ_=> ?_;refine aV λh3 A3 O3 z3=> ?_;simp only[aL,Nat.zero_add];refine aS A3 ak rfl λh4 A4 O4 z4=>aS A4 ak rfl λh5 A5 O5 z5=> ?_;have A5:At h5 h2.size [bh s,.slice p rs.length c]:=A5;have O25:aM [] h2 h5:=(O3.trans O4 (by intro y hy hl;simp only[List.mem_singleton]at hy;omega)).trans O5 (by intro y hy hl;simp only[List.mem_singleton]at hy;omega);have S5:=S2.only0 O25;refine aR (n:=some (aw s)) (by rw[At.rd A5];rfl) (bo (p:=p) (l:=rs.length) (c:=c) (by rw[At.rd A5];rfl) ?_);refine yn S5 λh6 sz O6=>aI rfl ?_;have S6:=S5.only0 O6;refine HK S6 λh7 zp zc zs W7 zi zl O7=>⟨_,_,_,_,rfl,?_⟩;have S7:=S6.only0 O7;have A7:=(A5.only O6 ak).only O7 ak;refine aR (n:=some (aw s)) (by rw[At.rd A7];rfl) (bo (p:=p) (l:=rs.length) (c:=c) (by rw[At.rd A7];rfl) ?_);have s2:=O2.size;have nb:h2.size∉L1:=λhm=>by have:=S2.S.lt _ hm;omega
 have l6:=S6.S.lt;have nz: ∀y∈aX zp,y∉L1/\y<h7.size:=λy hy=>⟨λhm=>by have:=(W7.lt y hy).1;have:=l6 y hm;omega,(W7.lt y hy).2⟩;unfold F212.wk11
 have main: ∀(d i:Nat) (k:aH) (L2:List Nat) (fo2 gg2:Nat->Nat) (N2:ay),i+d=zs.length->nD k s n room fo2 gg2 off N2 L2 rs G cb lo p c->h2.size∉L2->(∀y∈aX zp,y∉L2)->At k h2.size [bh s,.slice p rs.length c]->cj k h6.size 1 zp zs.length zc (zs.map (Value.int .i64))->aM L1 h7 k->bH L1 L2 h7->
   F212.wL11 (d+1) sz 0 (aw h2.size) (.func (.func 257) #[F5 s p rs.length c] #[]) zp zs.length zc (zs.length:Int) (i:Int) k K:=by
  intro d
  induction d with
  |zero=>
   intro i k L2 fo2 gg2 N2 hi Sk nk nzk A W O F;rw[F212.sL11];rw[decide_eq_false ah,aJ];unfold F212.wk17;simp only[aL,Nat.zero_add];refine aR (n:=some (aw s)) (by rw[At.rd A];rfl) (bo (p:=p) (l:=rs.length) (c:=c) (by rw[At.rd A];rfl) ?_);refine yn Sk λk2 sz2 O2'=>aI rfl ?_;have O17:aM L1 h1 h7:=((O2.trans O25 ak).trans (O6.trans O7 ak) ak).mono ak;have Oa:aM L1 h1 k2:=(O17.trans O λy hy _=>hy).trans (O2'.mono ak) λy hy _=>hy;have Fa:bH L1 L2 h1:=λy hy=>(F y hy).imp id λq=>by have:=O17.size;omega
   exact hK k2 L2 fo2 gg2 N2 sz sz2 0 (Sk.only0 O2') (O1.app Oa F1) (F1.trans Fa O1.size)
  |succ d ih=>
   intro i k L2 fo2 gg2 N2 hi Sk nk nzk A W O F;rw[F212.sL11];rw[decide_eq_true ah,aO];obtain⟨bz,ez,rr⟩:=W.rd (j:=i) (by simp;omega);rw[ez,aU,<-ez];refine⟨ah,ah,?_⟩;rw[aL,Nat.zero_add,show Int.toNat (i:Int)*1=i by omega,rr];obtain⟨z,hz⟩: ∃z,zs[i]? =some z:=⟨_,List.getElem?_eq_getElem ah⟩;obtain⟨v,hv,ev⟩:=zi z (List.mem_of_getElem? hz);refine aI (n:=z) (by simp[hz]) ?_;subst ev;refine bE GZ (Ft Sk hv λk2 L3 fo3 gg3 N3 e he S3 O3' F3=>aI rfl ?_);rcases he with q|q
   rotate_left
   ·subst q;rw[show((60:Int) !=0)=true from rfl,aO];have O17:aM L1 h1 h7:=((O2.trans O25 ak).trans (O6.trans O7 ak) ak).mono ak;have Oa:aM L1 h1 k2:=O17.trans (O.app O3' F) λy hy _=>hy;have Fa:bH L1 L3 h1:=λy hy=>(F.trans F3 O.size y hy).imp id λq=>by have:=O17.size;omega
    exact hK k2 L3 fo3 gg3 N3 0 0 60 S3 (O1.app Oa F1) (F1.trans Fa O1.size)
   subst q;rw[show((0:Int) !=0)=false from rfl,aJ,show ax ((i:Int)+1)=((i+1:Nat):Int) by rw[wrap_i64 ah ah];omega];have lA:=A.lt;refine ih (i+1) k2 L3 fo3 gg3 N3 ah S3 (λhm=> ?_) (λy hy hm=> ?_) (A.only O3' nk) (W.only O3' λb e=>nzk b (by rw[e];simp[aX])) (O.app O3' F) (F.trans F3 O.size)
   ·rcases F3 _ hm with q|q
    ·exact nk q
    ·omega
   ·rcases F3 y hm with q|q
    ·exact nzk y hy q
    ·have:=(W.lt y hy).2;omega
 exact⟨_,main zs.length 0 h7 L1 fo gg N1 ah S7 nb (λy hy=>(nz y hy).1) A7 W7 (aM.refl _ _) (bH.refl _ _)⟩
end
end
section
structure sK(G0 G:EG):Prop where
 jobs:G.P.jobs=[]
 ws:G.P.ws.length=G0.P.ws.length
 ans:G.E.ans=G0.E.ans+1
 none: ∀k,k<4->(G.E.ses k).pend=false
 room:be G.N<G.room
 M:G.M<=100000000000
section
variable {h h':aH}{e s w:Nat}{G G0 G':EG}{K:KK}
def sK.end(R:sK G0 G)(P:lh w G G'):G'.P.ws.length=G0.P.ws.length/\G'.E=G.E/\G'.n=G.n/\G'.fo=G.fo:=by obtain⟨G1,N',P',L',k,C1,-,e,Pk,hk,hph⟩:=P;subst e;refine⟨?_,C1.E,C1.n,C1.fo⟩;show P'.ws.length=_;rw[Pk.alike.2.1,C1.P];exact R.ws
def xN(R:EG->Prop)(W:cg h e G0)(hs:s<4)(hp:(G0.E.ses s).pend=true)(solo: ∀k,k<4->k≠s->(G0.E.ses k).pend=false)
  (step: ∀{h1} {Q:KK},aM [] h h1->(∀b h2 G2,cg h2 e G2->bg e G0 h G2 h2->sK G0 G2->R G2->Q (aD b) h2)->Cl (fJ (G0.E.ses s).cal.kind) [bh e,nu e s] h1 Q)
  (hK: ∀h' G' G2 w,cg h' e G'->bg e G0 h G' h'->R G2->sK G0 G2->lh w G2 G'->K aC h'):Cl 42 [bh e] h K:=by
 have hLB:LB=140737488355328:=rfl;have wl:=W.W.Ok.len;have aP:jP G0.E:=⟨s,hs,hp⟩
 have np: ∀{G1:EG},(∃G2 w,R G2/\sK G0 G2/\lh w G2 G1)->G1.P.ws.length=G0.P.ws.length/\ ∀k,k<4->(G1.E.ses k).pend=false:=λ{G1} ⟨G2,w,_,L2,P2⟩=>by obtain⟨q1,q2,-⟩:=L2.end P2;exact⟨q1,by rw[q2];exact L2.none⟩
 refine rE (m:=1) (λm h1 G1=>cg h1 e G1/\bg e G0 h G1 h1/\((m=1/\G1=G0/\aM [] h h1)\/(m=0/\ ∃G2 w,R G2/\sK G0 G2/\lh w G2 G1)))
  (λm w h1 G1=>cg h1 e G1/\bg e G0 h G1 h1/\m=1/\((w=0/\G1=G0/\aM [] h h1)\/(1<=w/\ ∃G2 w,R G2/\sK G0 G2/\lh w G2 G1))) G0.P.ws.length wl.2
  ⟨W,bg.refl,.inl ⟨rfl,rfl,aM.refl _ _⟩⟩ ah (λI=>I.1) (λ{m w h1 G1} I=>⟨I.1,?_⟩) (λ{m h1 G1} I a=>⟨I.1,I.2.1,?_⟩) (λ{m w h1 G1 Q draw} hw I hQ=> ?_) (λ{m h1 G1} I=> ?_) (λm' h1 G1 _ I a=> ?_)
 ·rcases I.2.2.2 with⟨-,q,-⟩|⟨-,q⟩
  ·rw[q]
  ·exact(np q).1
 ·rcases I.2.2 with⟨q1,q2,q3⟩|⟨q1,q2⟩
  ·exact⟨q1,.inl ⟨rfl,q2,q3⟩⟩
  ·exact absurd a (fC (np q2).2)
 ·obtain⟨W1,S1,m1,q⟩:=I;rcases q with⟨q1,q2,O1⟩|⟨q1,q2⟩
  ·have q2:=q2.symm;subst q2
   refine uF W1 (λq h2 O2=> ?_) (λi h2 G2=>cg h2 e G2/\bg e G0 h G2 h2/\((i<=s/\G2=G0/\aM [] h h2)\/(s<i/\sK G0 G2/\R G2)))
    (λh2 O2=>⟨W1.only0 O2,S1.trans (bg.only0 O2),.inl ⟨Nat.zero_le _,rfl,O1.trans O2 ak⟩⟩)
    (λ{i h2 G2 h3} I O=>⟨I.1.only0 O,I.2.1.trans (bg.only0 O),I.2.2.imp (λq=>⟨q.1,q.2.1,q.2.2.trans O ak⟩) id⟩) (λI=>I.1)
    (λ{i h2 G2} hi I hp'=>⟨I.1,I.2.1,?_⟩) (λ{i h2 G2 Q2} hi I hp' hQ2=> ?_) (λ_ _ a h2 G2 I=> ?_)
   ·rcases q with q|q|q
    ·omega
    ·omega
    ·exact absurd aP q
   ·rcases I.2.2 with⟨a,b,c⟩|⟨a,b⟩
    ·refine .inl ⟨?_,b,c⟩;by_cases z:i=s
     ·subst z;rw[b,hp]at hp';cases hp'
     ·omega
    ·exact .inr ⟨ah,b⟩
   ·rcases I.2.2 with⟨a,b,c⟩|⟨a,b,-⟩
    ·have b:=b.symm;subst b;by_cases z:i=s
     ·subst z;exact step c λb h3 G3 W3 S3 L3 R3=>hQ2 b h3 G3 ⟨W3,S3,.inr ⟨ah,L3,R3⟩⟩
     ·rw[solo i hi z]at hp';cases hp'
    ·rw[b.none i hi]at hp';cases hp'
   ·rcases I.2.2 with⟨a,b,c⟩|⟨-,L2,R2⟩
    ·omega
    ·refine iu kI I.1 L2.room (by have:=L2.M;omega) (by rw[L2.ws];exact hw) λh3 G3 W3 S3 P3=> ?_;exact hQ true h3 G3 ⟨W3,I.2.1.trans S3,m1,.inr ⟨ah,G2,_,R2,L2,P3⟩⟩
  ·exact jD W1 (.inr (.inr (fC (np q2).2))) λh2 O2=>hQ _ h2 G1 ⟨W1.only0 O2,S1.trans (bg.only0 O2),m1,.inr ⟨ah,q2⟩⟩
 ·obtain⟨W1,S1,m1,q⟩:=I;rcases q with⟨q1,-,-⟩|⟨q1,q2⟩
  ·omega
  ·exact⟨0,ah,W1,S1,.inr ⟨rfl,q2⟩⟩
 ·obtain⟨W1,S1,q⟩:=I;rcases q with⟨-,q2,-⟩|⟨-,G2,w,q1,q2,q3⟩
  ·have q2:=q2.symm;subst q2;exact absurd aP a
  ·exact hK h1 G1 G2 w W1 S1 q1 q2 q3
end
end
section
def CO(m:Nat)(G:EG):Prop:= ∀ks:List Int,ks.Nodup->(∀x,x∈ks↔G.f x≠0)->ks.length<=m
def kK(G:EG)(fo gg:Nat->Nat)(N:ay)(L:List Nat):EG:={G with fo:=fo,gg:=gg,N:=N,L:=L}
def sT(G:EG)(fo:Nat->Nat)(N:ay):Prop:= ∀k,k<4-> ∀r,r<6->(G.E.ses k).there r=true->isN N ((G.E.ses k).hnd r)/\ ∀x,sm G.n fo N ((G.E.ses k).hnd r) x=sm G.n G.fo G.N ((G.E.ses k).hnd r) x
section
variable {h h':aH}{e i m cb:Nat}{G:EG}{K:KK}
def cg.turn{fo gg:Nat->Nat}{N':ay}{L':List Nat}(W:cg h e G)(hj:G.P.jobs=[])(S:cI h' G.E.s L' (XL G.n G.room fo gg N' G.off))(P:dJ G.n fo gg)(R:sT G fo N')(O:aM G.L h h')(F:bH G.L L' h):
  cg h' e (kK G fo gg N' L')/\bg e G h (kK G fo gg N' L') h':=by
 have lt:=W.lt
 have DP: ∀b,dx G.E.p G.P b->b∉L':=λb hb hm=>by
  rcases F b hm with q|q
  ·exact W.W.D b hb q
  ·have:=lt b (bi.2 (.inr (.inr (.inr hb))));omega
 refine⟨⟨⟨S,W.W.H.only O λb hb hp=>W.W.D b hp hb,⟨λj hj'=>(by have hj':j∈G.P.jobs:=hj';rw[hj]at hj';cases hj'),W.W.Ok.at_,W.W.Ok.one,W.W.Ok.loc,W.W.Ok.T,W.W.Ok.len,W.W.Ok.last,W.W.Ok.steals⟩,λj hm=>(by have hm:j∈G.P.jobs:=hm;rw[hj]at hm;cases hm),DP⟩,W.R.only O (λb hb hm=>(W.dB b hm).1 hb),W.I.only O W.de.1,W.C,⟨λhm=> ?_,W.de.2.1,W.de.2.2⟩,λb hb=>⟨λhm=> ?_,(W.dB b hb).2⟩,λk hk r hr ht=>(R k hk r hr ht).1,W.r0,W.mq,P⟩,⟨λT hT=>O.mono λb hb _=>hT b (bi.2 (.inr (.inl hb))),λb hb=> ?_⟩⟩
 ·rcases F e hm with q|q
  ·exact W.de.1 q
  ·have:=lt e (bi.2 (.inl rfl));omega
 ·rcases F b hm with q|q
  ·exact(W.dB b hb).1 q
  ·have:=lt b (bi.2 (.inr (.inr (.inl hb))));omega
 ·rcases bi.1 hb with q|q|q|q
  ·exact .inl (bi.2 (.inl q))
  ·rcases F b q with q|q
   ·exact .inl (bi.2 (.inr (.inl q)))
   ·exact .inr q
  ·exact .inl (bi.2 (.inr (.inr (.inl q))))
  ·exact .inl (bi.2 (.inr (.inr (.inr q))))
set_option maxRecDepth 100000 in
def w6(W:cg h e G)(hj:G.P.jobs=[])(few:CO m G)(m12:m<=12)(hM:G.M<=LB/1000)(c1:be G.N<=cb)(c2:255*m<=cb)
  (hK: ∀h' fo gg N' L',sT G fo N'->be N'<=cb->cg h' e (kK G fo gg N' L')->bg e G h (kK G fo gg N' L') h'->K aE h'):Cl 171 [bh e] h K:=by
 have hLB:LB=140737488355328:=rfl;refine F171.spec ?_;simp only[aL,Nat.zero_add];refine aR W.I.s (aR W.I.r ?_);have W0:=W;obtain⟨lo,M,S,Wn,p,c,R,w1,w4,hl,eB⟩:=W.R;refine wy R ah w4 (λks nd hks=>by rw[qQ];have:=few ks nd hks;omega) λh1 q c1' Rs pw mem Ow O1=>bo rfl ⟨by trivial,by trivial,by trivial,?_⟩;obtain⟨rs,ers⟩: ∃rs,rs=Rs.map Int.toNat:=⟨_,rfl⟩;have pos: ∀x∈Rs,1<x:=λx hx=>((mem x).1 hx).1
 have eR:Rs.map (Value.int .u32)=rs.map hv:=by rw[ers,List.map_map];refine List.map_congr_left λx hx=> ?_;have:=pos x hx;show ap x=ap ((x.toNat:Nat):Int);rw[Int.toNat_of_nonneg ah]
 have el:Rs.length=rs.length:=by rw[ers];simp
 have mrs: ∀a:Nat,a∈rs↔1<a/\G.f (a:Int)≠0:=λa=>by
  rw[ers,List.mem_map];constructor
  ·rintro ⟨x,hx,e⟩;have h1:=(mem x).1 hx;have h2:x=(a:Int):=by rw[<-e];exact(Int.toNat_of_nonneg (Int.le_of_lt (Int.lt_trans (by decide) h1.1))).symm
   rw[h2]at h1;refine⟨Int.ofNat_lt.1 h1.1,?_⟩;rcases h1.2 with z|⟨k,-,z⟩
   ·exact z
   ·cases z
  ·rintro ⟨h1,h2⟩;exact⟨(a:Int),(mem _).2 ⟨ah,.inl h2⟩,ak⟩
 have is: ∀r∈rs,isN G.N r:=λr hr=>by obtain⟨i,hi,q,hq,ht,he⟩:=(held W0.C).1 ((mrs r).1 hr).2;rw[<-he];exact W0.rg i hi q hq ht
 have few1:rs.length<=m:=by
  have ks:Rs.Nodup:=pw.imp λh=>ah;have:=R.Mm;obtain⟨m',mm,lk,lm⟩:=this
  have sub:Rs.length<=m'.length:=by
   have: ∀x∈Rs,x∈m'.map (·.1):=λx hx=>by
    apply Classical.byContradiction;intro hn;have h1:=(mem x).1 hx;have h2:=lk x;rw[cr.2 hn]at h2;rcases h1.2 with z|⟨k,-,z⟩
    ·rw[if_neg z]at h2;cases h2
    ·cases z
   have:=ks.length_le_of_subset this;simpa using this
  have mfew:m'.length<=m:=by
   have nd:(m'.map (·.1)).Nodup:=by obtain⟨_,_,_,_,h,_⟩:=mm;exact h
   have:=few (m'.map (·.1)) nd λx=>by
    have h2:=lk x;by_cases h0:G.f x=0
    ·rw[if_pos h0,cr]at h2;exact⟨λh=>absurd h h2,λh=>absurd h0 h⟩
    ·rw[if_neg h0]at h2;refine⟨λ_=>h0,λ_=>Classical.byContradiction λhn=> ?_⟩;rw[cr.2 hn]at h2;cases h2
   simpa using this
  omega
 rw[eR]at Ow;rw[el]at Ow ⊢;have W1:=W0.only0 O1;refine aR W1.I.s ⟨by trivial,?_⟩
 have Sf:nD h1 G.E.s G.n G.room G.fo G.gg G.off G.N G.L rs (λr x=>sm G.n G.fo G.N r x) cb h.size q c1':=by refine⟨W1.W.S,W1.po,Ow,λy hy hm=> ?_,λr hr=>⟨is r hr,λx=>rfl⟩,ah,c1,ah⟩;have:=(Ow.lt y hy).1;have:=W0.W.S.lt y hm;omega
 refine Hi Sf λh2 L2 fo2 gg2 N2 a b er S2 O2 F2=>⟨_,_,_,rfl,?_⟩
 have SR:sT G fo2 N2:=λk hk r hr ht=>by
  have i0:=W0.rg k hk r hr ht;by_cases z:(G.E.ses k).hnd r<2
  ·exact⟨.inl z,λx=>by rw[br z,br z]⟩
  ·have:(G.E.ses k).hnd r∈rs:=(mrs _).2 ⟨ah,(held W0.C).2 ⟨k,hk,r,hr,ht,rfl⟩⟩;exact S2.ir _ this
 obtain⟨W2,T2⟩:=W1.turn hj S2.S S2.P SR O2 F2;exact hK h2 fo2 gg2 N2 L2 SR S2.cn W2 ((bg.only0 O1).trans T2)
def zG(W:cg h e G)(hi:i<4)(hj:G.P.jobs=[])(nj: ∀k,k<4->(G.E.ses k).pend=true->(G.E.ses k).job=0)(few:CO m G)(m12:m<=12)(hM:G.M<=LB/1000)(c1:be G.N<=cb)(c2:255*m<=cb)(ha:G.E.ans<1000000000)
  (hK: ∀h' fo gg N' L',sT G fo N'->be N'<=cb->cg h' e (fL (kK G fo gg N' L') i 0 0)->bg e G h (fL (kK G fo gg N' L') i 0 0) h'->K aC h'):Cl 126 [bh e,nu e i] h K:=by
 refine F126.spec ?_;refine uE W.I (λ⟨k,hk,hq,hp⟩=>by rw[nj k hk hq]at hp;omega) λ_ h1 O1=>aY rfl ?_;rw[aJ];have W1:=W.only0 O1;refine w6 W1 hj few m12 hM c1 c2 λh2 fo gg N2 L2 R2 n2 W2 S2=>⟨rfl,?_⟩;exact fZ (n:=0) W2 hi ha λh3 W3 S3=>⟨rfl,hK h3 fo gg N2 L2 R2 n2 W3 (((bg.only0 O1).trans S2).trans S3)⟩
end
section
variable {h:aH}{e s t m:Nat}{G:EG}{K:KK}{F:iU}{c:kB}
set_option maxRecDepth 100000 in
def Ar(Q:Qt h e G F t)(hs:s<4)(hm:c.mask<256)(kd:c.kind=8)(few:CO m G)(m12:m<=12)(mt:m<=t+1)(room:255*(t+1)+5<G.room)(ht:t+1<1000)
  (hK: ∀h' G',Qt h' e G' F (t+1)->bg e G h G' h'->(G'.n=G.n/\G'.room=G.room)->(∀k,(G'.E.ses k).there=(G.E.ses k).there/\(G'.E.ses k).hnd=(G.E.ses k).hnd)->K (.tuple #[.agg #[al 0,aq 0],aC]) h'):
  Cl 53 [bh e,al (s:Int),jR c] h K:=by
 have hLB:LB=140737488355328:=rfl;have qM:=Q.M;have qa:=Q.ans;have qc:=Q.cnt;have ql:=Q.last;have qt:=Q.t;have sE: ∀k,(cu G s c).E.ses k=if k=s then eU (G.E.ses s) c else G.E.ses k:=λk=>rfl
 have ss:(cu G s c).E.ses s=eU (G.E.ses s) c:=by rw[sE,if_pos rfl]
 have rf:refu G.n (G.E.ses s) c=0:=by
  have er:fX c=[]:=by unfold fX;rw[kd];rfl
  unfold refu iR;rw[if_neg ah,if_neg (λw=>by have:=w.1;unfold vF at this;omega),if_neg (λw=>w (λr hr=>by rw[er]at hr;cases hr)),if_neg (λw=>ah),if_neg (λw=>ah),if_neg (λw=>ah)]
 have hn:fJ ((cu G s c).E.ses s).cal.kind=126:=by rw[ss];show fJ c.kind=126;unfold fJ;rw[if_neg ah,if_neg ah,if_neg ah,if_pos kd]
 have s3: ∀(fo gg:Nat->Nat) (N':ay) (L':List Nat) k,(fL (kK (cu G s c) fo gg N' L') s 0 0).E.ses k=if k=s then eO (eU (G.E.ses s) c) 0 0 else G.E.ses k:=λfo gg N' L' k=>by
  show gx (gx G.E.ses s _) s (eO (gx G.E.ses s (eU (G.E.ses s) c) s) 0 _) k=_;rw[gP,cp]
  rfl
 have srb: ∀q,((cu G s c).E.ses q).there=(G.E.ses q).there/\((cu G s c).E.ses q).hnd=(G.E.ses q).hnd:=λq=>by
  rw[sE];by_cases z:q=s
  ·rw[if_pos z,z];exact⟨rfl,rfl⟩
  ·rw[if_neg z];exact⟨rfl,rfl⟩
 have sr: ∀q,((if q=s then eO (eU (G.E.ses s) c) 0 0 else G.E.ses q:fE)).there=(G.E.ses q).there/\((if q=s then eO (eU (G.E.ses s) c) 0 0 else G.E.ses q:fE)).hnd=(G.E.ses q).hnd:=λq=>by
  by_cases z:q=s
  ·rw[if_pos z,z];exact⟨rfl,rfl⟩
  ·rw[if_neg z];exact⟨rfl,rfl⟩
 let R:EG->Prop:=λG2=> ∃fo gg N' L',sT (cu G s c) fo N'/\be N'<=255*(t+1)/\G2=fL (kK (cu G s c) fo gg N' L') s 0 0;refine wa hs Q.W (Q.pend s hs) hm rf (λG2=> ∃G1,R G1/\kH G1 G2) (λ{h1 Q1} W1 hQ=> ?_) (λ{G2} R=> ?_) λh2 G2 W2 S2 R=> ?_
 ·refine xN R W1 hs (by rw[ss];rfl) (λk hk z=>by rw[sE,if_neg z];exact Q.pend k hk) (λ{h2 Q2} O2 hQ2=> ?_) λh2 G2 G1 w W2 S2 r1 _ P2=>hQ h2 G2 W2 S2 ⟨G1,r1,P2.kept.1⟩;rw[hn];refine zG (cb:=255*(t+1)) (W1.only0 O2) hs Q.jobs (λk hk hp=> ?_) few m12 (by show G.M<=_;omega) (by show be G.N<=_;omega) ah (by show G.E.ans<_;omega) λh3 fo gg N' L' R3 n3 W3 S3=>hQ2 true h3 _ W3 ((bg.only0 O2).trans S3) ?_ ⟨fo,gg,N',L',R3,n3,rfl⟩
  ·rw[sE]at hp ⊢;by_cases z:k=s
   ·rw[if_pos z];rfl
   ·rw[if_neg z,Q.pend k hk]at hp;cases hp
  ·refine⟨Q.jobs,rfl,rfl,λk hk=> ?_,?_,?_⟩
   ·rw[s3];by_cases z:k=s
    ·rw[if_pos z];rfl
    ·rw[if_neg z];exact Q.pend k hk
   ·show be N'<G.room;omega
   ·show G.M<=_;omega
 ·obtain⟨G1,⟨fo,gg,N',L',-,-,q⟩,k⟩:=R;rw[k.E,q,s3,if_pos rfl]
  rfl
 ·obtain⟨G1,⟨fo,gg,N',L',R3,n3,q⟩,k⟩:=R;have s4:=λq=>s3 fo gg N' L' q;obtain⟨G0,eG0⟩: ∃G0,G0=kK (cu G s c) fo gg N' L':=⟨_,rfl⟩
  have A:DU G0 s (eO (eU (G.E.ses s) c) 0 0) (λr y=>sm G0.n G0.fo G0.N ((G.E.ses s).hnd r) y) 0 G1:=by
   rw[q,<-eG0];refine⟨⟨rfl,rfl,rfl⟩,rfl,rfl,rfl,rfl,rfl,rfl,Nat.le_add_right _ _,by rw[eG0];exact Q.jobs,rfl,Nat.le_add_right _ _,rfl,?_,λk hk z=> ?_,λr hr2 _ y=>rfl,λk hk z r hr2 _ y=>rfl,Nat.le_refl _⟩
   ·rw[eG0,s4 s,if_pos rfl]
   ·rw[eG0,s4 k,if_neg z];show _=(cu G s c).E.ses k;rw[sE,if_neg z]
  have kM:=k.M;have e0:G0.E=(cu G s c).E/\G0.M=G.M/\G0.n=G.n/\G0.room=G.room/\G0.N=N'/\G0.fo=fo/\G0.P=G.P:=by rw[eG0];exact⟨rfl,rfl,rfl,rfl,rfl,rfl,rfl⟩
  have e3M:G1.M=G.M:=by rw[q];rfl
  have e1:G1.n=G.n/\G1.fo=fo/\G1.N=N':=by rw[q];exact⟨rfl,rfl,rfl⟩
  have A2:=A.kept hs k (by rw[e0.2.1];omega);have no:=A2.none (λk hk z=>by rw[e0.1,sE,if_neg z];exact Q.pend k hk)
  have sr2: ∀q,(G2.E.ses q).there=(G.E.ses q).there/\(G2.E.ses q).hnd=(G.E.ses q).hnd:=λq'=>by rw[k.E,q,s4];exact sr q'
  have md:Md G2 F:=λq' hq r hr2=>by obtain⟨m1,m2⟩:=Q.md q' hq r hr2;rw[(sr2 q').1,(sr2 q').2];refine⟨m1,λf z=> ?_⟩;obtain⟨a,b⟩:=m2 f z;refine⟨a,λy=> ?_⟩;have:=k.sm q' hq r hr2 (by rw[<-k.E,(sr2 q').1];exact a) y;rw[<-k.E,(sr2 q').2,e1.1,e1.2.1,e1.2.2]at this;have r3:=(R3 q' hq r hr2 (by rw[(srb q').1];exact a)).2 y;rw[(srb q').2]at r3;rw[A2.n,A2.fo,e0.2.2.1,e0.2.2.2.2.2.1];refine Eq.trans this (Eq.trans r3 ?_);exact b y
  have rc:=A2.cnt;rw[e0.2.2.2.2.1]at rc;have rl:=A2.last;rw[e0.2.2.2.2.2.2]at rl;have ra:=A2.ans;rw[e0.1]at ra;have ra:G2.E.ans=G.E.ans+1:=ra;have Q2:Qt h2 e G2 F (t+1):=⟨W2,md,A2.jobs,no,ah,ah,ah,ah,ht⟩;have:=hK h2 G2 Q2 S2 ⟨by rw[A2.n,e0.2.2.1],by rw[A2.room,e0.2.2.2.1]⟩ sr2;rw[A2.ses];exact this
end
end
section
open Go Go.ChangeShapes Go.WideShapes Go.ChangeAt Go.RowKit
def Ff(h:aH)(p:Option Addr)(l:Nat)(s:Nat->Bool):Prop:= ∀i,i<l-> ∃a,p=some a/\rd h (a.add i)=some (.bool (s i))
def Ff.only{S:List Nat}{h h':aH}{p:Option Addr}{l:Nat}{s:Nat->Bool}(H:Ff h p l s)(O:aM S h h')(hS: ∀b∈S,h.size<=b):Ff h' p l s:=by intro i hi;obtain⟨a,e,hr⟩:=H i hi;exact⟨a,e,wz hr O hS⟩
def open_sb{H:Type}{enc:TypeId×Value->H}{P:Program}{W:World}{r:Reach}{b0 base:Nat}{sp:Nat->Bool}{held:Bool}{t e:TypeId}{v:Value}{d:DataW H}{ps:List MemPlace}
  (ht:P.underlying t=some (.slice e)) (he:P.underlying e=some .bool) (hc:P.cellsOf e=1) (hval:Value.okWide P W r b0 t v)
  (hd:DataW.Trod enc P W base sp held t v d ps) (hsp: ∀b,sp b=true):
  ∃(p:Option Addr) (c l:Nat) (s:Nat->Bool),v= .slice p l c/\Ff W.heap p l s/\(l:Int)<=maxLen:=by
 obtain⟨a,len,cap,rfl⟩:=okWide_slice ht hval;obtain⟨fuel,hf⟩:=hd;rcases Go.Deep.open_slice ht hf with⟨hcs,-⟩|⟨a',len',cap',m,n,D,Pl,hcs,-,hle,hmx,hm,-,hi⟩
 ·simp only[Value.cells,List.cons.injEq,and_true]at hcs;injection hcs with e1 e2 e3;subst e1 e2 e3;exact⟨none,0,0,λ_=>false,rfl,λi hi=>absurd hi ah,by simp[maxLen]⟩
 ·simp only[Value.cells,List.cons.injEq,and_true]at hcs;injection hcs with e1 e2 e3;subst e1 e2 e3;rw[if_pos (hsp _)]at hm;subst hm;rw[hc]at hi
  have key: ∀i,i<len-> ∃b,rd W.heap (a'.add i)=some (.bool b):=by
   intro i hl;obtain⟨cs',h1,h2⟩:=hi i ah;obtain⟨_,hcl,hat⟩:=World.cells?_some h1;obtain⟨z,h5,-⟩:=DataW.trod_bool he h2;have h6:rd W.heap (a'.add (i*1+0))=cs'[0]? :=by rw[<-Dh];exact hat 0 ah
   rw[h5,Nat.mul_one,Nat.add_zero]at h6;exact⟨z,h6⟩
  obtain⟨f,hf⟩:=pick key;exact⟨some a',_,len,f,rfl,λi hl=>⟨a',rfl,hf i hl⟩,ah⟩
end
section
structure sV(h0 hh:aH)(e b7 b8:Nat)(G:EG)(F:iU)(t:Nat)(hd:Nat->Nat)(gs:Nat->Nat->Nat)(fs:Nat->Nat->Bool):Prop where
 Q:Qt hh e G F t
 A7:At hh b7 (co 4 λi=>ap (hd i:Int))
 A8:At hh b8 (co 16 λi=>aq (gs (i/4) (i%4):Int))
 nb:b7∉iD e G/\b8∉iD e G
 gb:h0.size<=b7/\h0.size<=b8
 O:aM [] h0 hh
 gl: ∀b∈iD e G,h0.size<=b
 n:G.n=8
 room:G.room=16384
 reg: ∀r,r<4->(G.E.ses 0).there r=true/\(G.E.ses 0).hnd r=hd r
 fn: ∀r,r<4->F 0 r=some (fs r)
 no: ∀q,q<4-> ∀r,r<6->(q≠0\/4<=r)->(q≠2\/r≠5)->F q r=none
 wk: ∀r,r<4->iA (gs r)/\ ∀y,y<256->fs r y=fb (gs r) y
section
variable {h0 hh h':aH}{e b7 b8 t:Nat}{G G':EG}{F F':iU}{hd:Nat->Nat}{gs:Nat->Nat->Nat}{fs:Nat->Nat->Bool}
def sV.only0(S:sV h0 hh e b7 b8 G F t hd gs fs)(O:aM [] hh h'):sV h0 h' e b7 b8 G F t hd gs fs:=
 ⟨S.Q.only0 O,S.A7.only O ak,S.A8.only O ak,S.nb,S.gb,S.O.trans O ak,S.gl,S.n,S.room,S.reg,S.fn,S.no,S.wk⟩
def sV.next{t':Nat}(S:sV h0 hh e b7 b8 G F t hd gs fs)(Q':Qt h' e G' F' t')(E:bg e G hh G' h')(n:G'.n=G.n)(rm:G'.room=G.room)(sm:(G'.E.ses 0).there=(G.E.ses 0).there/\(G'.E.ses 0).hnd=(G.E.ses 0).hnd)
  (fn: ∀r,r<4->F' 0 r=F 0 r) (no: ∀q,q<4-> ∀r,r<6->(q≠0\/4<=r)->(q≠2\/r≠5)->F' q r=F q r):sV h0 h' e b7 b8 G' F' t' hd gs fs:=by
 obtain⟨a7,n7⟩:=E.at S.A7 S.nb.1;obtain⟨a8,n8⟩:=E.at S.A8 S.nb.2;exact⟨Q',a7,a8,⟨n7,n8⟩,S.gb,E.only S.O S.gl,E.ge S.O.size S.gl,n.trans S.n,rm.trans S.room,λr hr=>by rw[sm.1,sm.2];exact S.reg r hr,λr hr=>by rw[fn r hr];exact S.fn r hr,λq hq r hr h1 h2=>by rw[no q hq r hr h1 h2];exact S.no q hq r hr h1 h2,S.wk⟩
def sV.few(S:sV h0 hh e b7 b8 G F t hd gs fs):CO 5 G:=λks nd hks=>by
 have sub: ∀x∈ks,x∈[(hd 0:Int),(hd 1:Int),(hd 2:Int),(hd 3:Int),((G.E.ses 2).hnd 5:Int)]:=λx hx=>by
  have fx:=(hks x).1 hx;obtain⟨lo,M,S',Wn,p,c,R,-⟩:=S.Q.W.R;have x0:=R.fx x fx;obtain⟨a,ea⟩: ∃a:Nat,x=(a:Int):=⟨x.toNat,ah⟩;subst ea;obtain⟨i,hi,r,hr,ht,he⟩:=(held S.Q.W.C).1 fx;by_cases q:i=0/\r<4
  ·obtain⟨q1,q2⟩:=q;subst q1;rw[(S.reg r q2).2]at he;have:r=0\/r=1\/r=2\/r=3:=ah;rcases this with z|z|z|z<;>subst z<;>rw[<-he]<;>simp
  ·by_cases q3:i=2/\r=5
   ·rw[q3.1,q3.2]at he;rw[<-he];simp
   ·have:=(S.Q.md i hi r hr).1 (S.no i hi r hr ah ah);rw[this]at ht;cases ht
 have:=nd.length_le_of_subset sub;simpa using this
end
section
variable {h:aH}{e b7 b8:Nat}{tp:az}{tc tl:Nat}{tb:Nat->Bool}{fs:Nat->Nat->Bool}
def ve{hh:aH}{G:EG}{F:iU}{t:Nat}{hd:Nat->Nat}{gs:Nat->Nat->Nat}(S:sV h hh e b7 b8 G F t hd gs fs):F12.wk36 (some (aw e)) hh (ff h):=by unfold F12.wk36 F12.Jk36;refine nH S.Q.W.I (aR rfl (Ez S.Q.W.W.S λh6 O6=>aY rfl ⟨rfl,S.O.trans O6 ak⟩))
set_option maxRecDepth 100000 in
def Bw{t j:Nat}{hd:Nat->Nat}{gs:Nat->Nat->Nat}{bk:(az)->Nat->Nat->(az)->Addr->Addr->Int->aH->Prop}(hj:j<6)(nx: ∀(hh:aH) (G:EG) (F:iU),sV h hh e b7 b8 G F (t+2) hd gs fs->bk tp tl tc (some (aw e)) (aw b7) (aw b8) ((j+1:Nat):Int) hh): ∀(d' k:Nat) (hh:aH) (G:EG) (F:iU),k+d'=4->sV h hh e b7 b8 G F (t+2) hd gs fs->
  F12.wL31 bk (d'+1) tp tl tc (some (aw e)) (aw b7) (aw b8) (j:Int) (k:Int) hh (ff h):=by
 intro d'
 induction d' with
 |zero=>
  intro k hh G F hk S;unfold F12.wL31 F12.JL31;rw[decide_eq_false ah,aJ,show ax ((j:Int)+1)=((j+1:Nat):Int) by rw[wrap_i64 ah ah];omega];exact nx hh G F S
 |succ d' ih'=>
  intro k hh G F hk S;have k4:k<4:=ah;unfold F12.wL31 F12.JL31;rw[decide_eq_true ah,aO];refine zh S.Q.W.I ⟨_,_,rfl,?_⟩;have rv:=ww (E:=G.E) (i:=0) (r:=k) ah ah;rw[show((0:Nat):Int)=0 from rfl]at rv;obtain⟨rt,rh⟩:=S.reg k k4;rw[rv,rt,rh,Bool.not_true,aJ];simp only[aL,Nat.zero_add,Nat.mul_one,Int.toNat_natCast,Nat.add_zero];refine⟨ah,ah,aI (n:=(hd k:Int)) (by rw[At.rd S.A7,cF k4]) ?_⟩;rw[show((hd k:Int) !=(hd k:Int))=false by simp,aJ]
  have r8: ∀i,i<4->rd hh ⟨b8,k*4+i,none⟩=some (aq (gs k i:Int)):=λi hi=>by rw[At.rd S.A8,cF ah,show(k*4+i)/4=k by omega,show(k*4+i)%4=i by omega]
  refine⟨ah,ah,aI (by rw[<-r8 0 ah];rfl) (aI (r8 1 ah) (aI (r8 2 ah) (aI (r8 3 ah) ?_)))⟩;refine nH S.Q.W.I (aR rfl ⟨by trivial,by trivial,ah,ah,by trivial,aI (by rw[<-r8 0 ah];rfl) (aI (r8 1 ah) (aI (r8 2 ah) (aI (r8 3 ah) ⟨rfl,?_⟩)))⟩);have po:=S.Q.W.po;obtain⟨wk1,wk2⟩:=S.wk k k4;have m:=(S.Q.md 0 ah k ah).2 _ (S.fn k k4);have i0:=S.Q.W.rg 0 ah k ah m.1;rw[rh]at m i0;refine HM (X:=XL G.n G.room G.fo G.gg G.N G.off) (λj hj=>by have:=(po.2 j hj).1;have:=S.n;show G.fo j<8;omega) S.Q.W.W.S i0 (c:=gs k) wk1 (λy hy=>by rw[<-wk2 y hy];exact m.2 y) λh6 O6=>aY rfl ?_;rw[Bool.not_true,aJ,show ax ((k:Int)+1)=((k+1:Nat):Int) by rw[wrap_i64 ah ah];omega];exact ih' (k+1) h6 G F ah (S.only0 O6)
set_option maxRecDepth 100000 in
def ud{t j q:Nat}{hd:Nat->Nat}{gs:Nat->Nat->Nat}{hh hh':aH}{G:EG}{F:iU}{kd:Int}{bk:(az)->Nat->Nat->(az)->Addr->Addr->Int->aH->Prop}(hj:j<6)(ht:t<=14+2*j)(h4t:4<=t)(S:sV h hh e b7 b8 G F t hd gs fs)(nx: ∀(hh:aH) (G:EG) (F:iU),sV h hh e b7 b8 G F (t+2) hd gs fs->bk tp tl tc (some (aw e)) (aw b7) (aw b8) ((j+1:Nat):Int) hh)
  (hk:kd=7\/kd=8) (O:aM [] hh hh') (Aq:At hh' q [al kd,al 0,al 0,al 0,al 0,al 0,.int .u8 0]):F12.wk24 bk tp tl tc (some (aw e)) (aw b7) (aw b8) (j:Int) (aw q) hh' (ff h):=by
 have S1:=S.only0 O;unfold F12.wk24 F12.Jk24;simp only[aL,Nat.zero_add];have r: ∀i,rd hh' ⟨q,i,none⟩=([al kd,al 0,al 0,al 0,al 0,al 0,.int .u8 0]:List Value)[i]? :=λi=>At.rd Aq i;refine aI (n:=kd) (by rw[r];rfl) (aI (n:=0) (by rw[r];rfl) (aI (n:=0) (by rw[r];rfl) (aI (n:=0) (by rw[r];rfl) (aI (n:=0) (by rw[r];rfl) (aI (n:=0) (by rw[r];rfl) (aI (n:=0) (by rw[r];rfl) ?_))))))
 have rest: ∀(h6:aH) (G6:EG),sV h h6 e b7 b8 G6 F (t+1) hd gs fs->a9 h6 (.cells #[(al (0:Int)),(aq (0:Int))] 76) (λb13 h14=>aW h14 (Addr.add (aw b13) 0) (al 0) (λh15=>aW h15 (Addr.add (aw b13) 1) (aq 0) (λh16=>aQ .i64 (rd h16 (Addr.add (aw b13) 0)) (λn17=>aK (n17 !=(0:Int)) ((ff h) aB h16) (aQ .u64 (rd h16 (Addr.add (aw b13) 1)) (λn18=>aK (n18 !=(0:Int)) ((ff h) aB h16) (Cl 53 [(au (aw e)),(al (2:Int)),(.agg #[(al (1:Int)),(al (0:Int)),(al (5:Int)),(al (0:Int)),(al (0:Int)),(al (0:Int)),(.int .u8 (IntKind.wrap .u8 (j:Int)))])] h16 (λv19 h20=>(∃n21:Int,∃n22:Int,∃b23:Bool,v19=(.tuple #[(.agg #[(al n21),(aq n22)]),(aD b23)])/\a9 h20 (.cells #[(al (0:Int)),(aq (0:Int))] 76) (λb24 h25=>aW h25 (Addr.add (aw b24) 0) (al n21) (λh26=>aW h26 (Addr.add (aw b24) 1) (aq n22) (λh27=>aK (!b23) ((ff h) aB h27) (aQ .i64 (rd h27 (Addr.add (aw b24) 0)) (λn28=>aK (n28 !=(0:Int)) ((ff h) aB h27) (F12.wk31 bk tp tl tc (some (aw e)) (aw b7) (aw b8) (j:Int) (0:Int) h27 (ff h)))))))))))))))):=λh6 G6 S6=>by
  refine sc λh7 A7' O7=> ?_;refine aI (n:=0) (by rw[aL,At.rd A7'];rfl) ?_;rw[show((0:Int) !=0)=false from rfl,aJ];refine aI (n:=0) (by rw[aL,At.rd A7'];rfl) ?_;rw[show((0:Int) !=0)=false from rfl,aJ];have S7:=S6.only0 O7
  have wj:IntKind.wrap .u8 (j:Int)=((j:Nat):Int):=by
   have: ∀i:Fin 6,IntKind.wrap .u8 ((i.1:Nat):Int)=((i.1:Nat):Int):=by decide
   exact this ⟨j,ah⟩
  rw[wj];have S7r:=S7.room;have S7n:=S7.n;refine sx (s:=2) (d:=5) (c:=⟨1,0,5,0,0,0,j⟩) S7.Q ah ah (by show j<G6.n;omega) rfl rfl ah (λh8 G8 Q8 E8 k8 o8 _=>⟨_,_,_,rfl,sc λh9 A9 O9=> ?_⟩) ah;rw[Bool.not_true,aJ];refine aI (n:=0) (by rw[aL,At.rd A9];rfl) ?_;rw[show((0:Int) !=0)=false from rfl,aJ];have S8:sV h h8 e b7 b8 G8 _ (t+1+1) hd gs fs:=S7.next Q8 E8 k8.1 k8.2.2.1 (by rw[o8 0 ah ah];exact⟨rfl,rfl⟩) (λr hr=>by unfold cf;rw[if_neg ah]) λq hq r hr h1 h2=>by unfold cf;rw[if_neg ah]
  unfold F12.wk31 F12.Jk31;exact⟨_,Bw hj nx 4 0 h9 G8 _ ah (S8.only0 O9)⟩
 have S1r:=S1.room;have few:=S1.few;rcases hk with q|q
 ·subst q;refine AA (s:=2) (c:=⟨7,0,0,0,0,0,0⟩) S1.Q ah (by show 0<256;omega) rfl (λks nd hks=>by have:=few ks nd hks;omega) ah ah λh6 G6 Q6 E6 k6 sm6 _=>⟨_,_,_,rfl,?_⟩;rw[Bool.not_true];simp only[aJ];exact rest h6 G6 (S1.next Q6 E6 k6.1 k6.2.2.1 (sm6 0) (λ_ _=>rfl) λ_ _ _ _ _ _=>rfl)
 ·subst q;refine Ar (s:=2) (c:=⟨8,0,0,0,0,0,0⟩) S1.Q ah (by show 0<256;omega) rfl few ah ah ah ah λh6 G6 Q6 E6 k6 sm6=>⟨_,_,_,rfl,?_⟩;rw[Bool.not_true];simp only[aJ];exact rest h6 G6 (S1.next Q6 E6 k6.1 k6.2 (sm6 0) (λ_ _=>rfl) λ_ _ _ _ _ _=>rfl)
set_option maxRecDepth 100000 in
set_option maxHeartbeats 1000000 in
def AO(hB:Ff h tp tl tb)(c2:tl<=6): ∀(d j:Nat) (hh:aH) (G:EG) (F:iU) (t:Nat) (hd:Nat->Nat) (gs:Nat->Nat->Nat),j+d=tl->t<=14+2*j->4<=t->sV h hh e b7 b8 G F t hd gs fs->F12.wL19 (d+1) tp tl tc (some (aw e)) (aw b7) (aw b8) (j:Int) hh (ff h):=by
 intro d
 induction d with
 |zero=>
  intro j hh G F t hd gs hj ht h4t S;unfold F12.wL19 F12.JL19;rw[decide_eq_false ah,aJ];exact ve S
 |succ d ih=>
  intro j hh G F t hd gs hj ht h4t S;unfold F12.wL19 F12.JL19;rw[decide_eq_true ah,aO];have nx: ∀(hh:aH) (G:EG) (F:iU),sV h hh e b7 b8 G F (t+2) hd gs fs->(λx1p x1l x1c x5 x7 x8 x14 h1=>F12.wL19 (d+1) x1p x1l x1c x5 x7 x8 x14 h1 (ff h)) tp tl tc (some (aw e)) (aw b7) (aw b8) ((j+1:Nat):Int) hh:=λhh G F S=>ih (j+1) hh G F (t+2) hd gs ah ah ah S;refine aV λk1 B1 P1 y1=> ?_;simp only[aL,Nat.zero_add];refine aS B1 ak rfl λk2 B2 P2 y2=>aS B2 ak rfl λk3 B3 P3 y3=>aS B3 ak rfl λk4 B4 P4 y4=>aS B4 ak rfl λk5 B5 P5 y5=>aS B5 ak rfl λk6 B6 P6 y6=>aS B6 ak rfl λk7 B7 P7 y7=>aS B7 ak rfl λk8 B8 P8 y8=> ?_;have B8:At k8 hh.size [al 7,al 0,al 0,al 0,al 0,al 0,.int .u8 0]:=B8;have one: ∀{a b:aH},aM [hh.size] a b->hh.size<a.size->aM [] hh a->aM [] hh b:=λO _ O'=>O'.trans O λy hy hl=>by simp at hy;omega
  have P28:aM [] hh k8:=one P8 ah (one P7 ah (one P6 ah (one P5 ah (one P4 ah (one P3 ah (one P2 ah P1))))));obtain⟨a,ea,ra⟩:=hB.only (S.O.trans P28 ak) ak j ah;rw[ea,aU,<-ea];refine⟨ah,ah,?_⟩;rw[show Int.toNat (j:Int)*1=j by omega];refine aY (n:=tb j) ra (aT (λ_=> ?_) λ_=>ud ah ht h4t S nx (.inl rfl) P28 B8);refine aS B8 ak rfl λm2 C2 R2 x2=>aS C2 ak rfl λm3 C3 R3 x3=>aS C3 ak rfl λm4 C4 R4 x4=>aS C4 ak rfl λm5 C5 R5 x5=>aS C5 ak rfl λm6 C6 R6 x6=>aS C6 ak rfl λm7 C7 R7 x7=>aS C7 ak rfl λm8 C8 R8 x8=> ?_;have C8:At m8 hh.size [al 8,al 0,al 0,al 0,al 0,al 0,.int .u8 0]:=C8;exact ud ah ht h4t S nx (.inr rfl) (one R8 ah (one R7 ah (one R6 ah (one R5 ah (one R4 ah (one R3 ah (one R2 ah P28))))))) C8
set_option maxRecDepth 100000 in
set_option maxHeartbeats 1000000 in
def BA{h3:aH}{G3:EG}{F:iU}{T0:Nat}(hB:Ff h tp tl tb)(c2:tl<=6)(l3: ∀b∈iD e G3,b<h3.size)(O03:aM [] h h3)(gl3: ∀b∈iD e G3,h.size<=b)(n3:G3.n=8)(r3:G3.room=16384)(there3: ∀r,r<4->(G3.E.ses 0).there r=true)(efs: ∀r,r<4->F 0 r=some (fs r))(noF3: ∀q,q<4-> ∀r,r<6->(q≠0\/4<=r)->F q r=none)(eT0:4<=T0/\T0<=14)(g7:h3.size<=b7)(g8:b7<b8): ∀(d i:Nat) (hh:aH) (hp:Nat->Nat) (gs:Nat->Nat->Nat),i+d=4->Qt hh e G3 F T0->At hh b7 (co 4 λr=>ap (hp r:Int))->At hh b8 (co 16 λr=>aq (gs (r/4) (r%4):Int))->aM [] h3 hh->(∀r,r<i->hp r=(G3.E.ses 0).hnd r/\iA (gs r)/\ ∀y,y<256->fs r y=fb (gs r) y)->
  F12.wL11 (d+1) tp tl tc (some (aw e)) (aw b7) (aw b8) (i:Int) hh (ff h):=by
 intro d
 induction d with
 |zero=>
  intro i hh hp gs hi Q A A' O H;unfold F12.wL11 F12.JL11;rw[decide_eq_false ah,aJ];unfold F12.wk18 F12.Jk18 F12.wk19 F12.Jk19;obtain rfl:i=4:=ah;have z03:=O03.size;refine⟨_,AO hB c2 tl 0 hh G3 F T0 hp gs ah ah ah ⟨Q,A,A',⟨λhm=> ?_,λhm=> ?_⟩,⟨ah,ah⟩,O03.trans O ak,gl3,n3,r3,λr hr=>⟨there3 r hr,(H r hr).1.symm⟩,efs,λq hq r hr h1 _=>noF3 q hq r hr h1,λr hr=>(H r hr).2⟩⟩
  ·have:=l3 _ hm;omega
  ·have:=l3 _ hm;omega
 |succ d ih=>
  intro i hh hp gs hi Q A A' O H;have i4:i<4:=ah;unfold F12.wL11 F12.JL11;rw[decide_eq_true ah,aO];refine zh Q.W.I ⟨_,_,rfl,?_⟩;have rv:=ww (E:=G3.E) (i:=0) (r:=i) ah ah;rw[show((0:Nat):Int)=0 from rfl]at rv;rw[rv];have po:=Q.W.po;have m:=(Q.md 0 ah i ah).2 _ (efs i i4);have i0:=Q.W.rg 0 ah i ah m.1;refine nH Q.W.I (aR rfl ?_);refine func29 (X:=XL G3.n G3.room G3.fo G3.gg G3.N G3.off) (λj hj=>by have:=(po.2 j hj).1;show G3.fo j<8;omega) Q.W.W.S i0 λk1 g wg gf O6=>⟨_,_,_,_,_,rfl,?_⟩;refine aV λk2 B2 P2 y2=> ?_;simp only[aL,Nat.zero_add,Nat.add_zero,Nat.mul_one,Int.toNat_natCast];refine aS B2 ak rfl λk3 B3 P3 y3=>aS B3 ak rfl λk4 B4 P4 y4=>aS B4 ak rfl λk5 B5 P5 y5=>aS B5 ak rfl λk6 B6 P6 y6=> ?_;rw[Bool.not_true,aJ];have one: ∀{a b:aH},aM [k1.size] a b->aM [] k1 a->aM [] k1 b:=λO O'=>O'.trans O λy hy hl=>by simp at hy;omega
  have P16:aM [] k1 k6:=one P6 (one P5 (one P4 (one P3 P2)));have B6:At k6 k1.size [aq (g 0:Int),aq (g 1:Int),aq (g 2:Int),aq (g 3:Int)]:=B6;have O06:=O6.trans P16 ak;have rB: ∀{kk:aH},At kk k1.size [aq (g 0:Int),aq (g 1:Int),aq (g 2:Int),aq (g 3:Int)]-> ∀j,rd kk ⟨k1.size,j,none⟩=([aq (g 0:Int),aq (g 1:Int),aq (g 2:Int),aq (g 3:Int)]:List Value)[j]? :=λA j=>At.rd A j;refine aI (n:=(g 0:Int)) (by rw[rB B6];rfl) (aI (n:=(g 1:Int)) (by rw[rB B6];rfl) (aI (n:=(g 2:Int)) (by rw[rB B6];rfl) (aI (n:=(g 3:Int)) (by rw[rB B6];rfl) ⟨ah,ah,?_⟩)));have lz:=O.size;have la:=A.lt;have la':=A'.lt;have s6:=O6.size;refine aS (A.only O06 ak) (by simp[bJ];omega) rfl λk7 A7b P7 y7=> ?_;rw[dQ]at A7b;have B7:=B6.only P7 (by simp;omega);refine⟨by trivial,aI (n:=(g 0:Int)) (by rw[rB B7];rfl) (aI (n:=(g 1:Int)) (by rw[rB B7];rfl) (aI (n:=(g 2:Int)) (by rw[rB B7];rfl) (aI (n:=(g 3:Int)) (by rw[rB B7];rfl) ⟨rfl,ah,ah,?_⟩)))⟩;have A8b:=(A'.only O06 ak).only P7 (by simp;omega);refine aS A8b (by simp[bJ];omega) rfl λk8 C1 P8 y8=> ?_;rw[dQ]at C1;refine aS C1 (by simp[bJ];omega) rfl λk9 C2 P9 y9=> ?_;rw[dQ]at C2;refine aS C2 (by simp[bJ];omega) rfl λk10 C3 P10 y10=> ?_;rw[dQ]at C3;refine aS C3 (by simp[bJ];omega) rfl λk11 C4 P11 y11=> ?_;rw[dQ]at C4;rw[show ax ((i:Int)+1)=((i+1:Nat):Int) by rw[wrap_i64 ah ah];omega];have z4':b7<b8:=ah;have P811:aM [b8] k7 k11:=((P8.trans P9 λy hy _=>hy).trans P10 λy hy _=>hy).trans P11 λy hy _=>hy;have e7:co 4 (λj=>if j=i then ap ((G3.E.ses 0).hnd i:Int)else ap (hp j:Int))=co 4 λr=>ap ((if r=i then(G3.E.ses 0).hnd i else hp r:Nat):Int):=dR λj _=>by split<;>rfl
  rw[e7]at A7b;have O7:aM [b7] hh k7:=(O06.mono ak).trans P7 λy hy _=>hy;have W3: ∀b∈[b7],b∉iD e G3:=λb hb hm=>by simp at hb;have:=l3 _ hm;omega
  have W4: ∀b∈[b8],b∉iD e G3:=λb hb hm=>by simp at hb;have:=l3 _ hm;omega
  have Q11:Qt k11 e G3 F T0:=by
   have w: ∀{S:List Nat} {a b:aH},(∀y∈S,y∉iD e G3)->aM S a b->Qt a e G3 F T0->Qt b e G3 F T0:=λ{S a b} hS O Q=>by have W5:=Q.W;exact⟨⟨W5.W.only O (λy hy hm=>hS y hy (bi.2 (.inr (.inl hm)))) (λy hy hm=>hS y hy (bi.2 (.inr (.inr (.inr hm))))),W5.R.only O (λy hy hm=>hS y hy (bi.2 (.inr (.inr (.inl hm))))),W5.I.only O (λhm=>hS e hm (bi.2 (.inl rfl))),W5.C,W5.de,W5.dB,W5.rg,W5.r0,W5.mq,W5.po⟩,Q.md,Q.jobs,Q.pend,Q.last,Q.M,Q.ans,Q.cnt,Q.t⟩
   exact w W4 P811 (w W3 O7 Q)
  refine ih (i+1) k11 (λr=>if r=i then(G3.E.ses 0).hnd i else hp r) (λr j=>if r=i then g j else gs r j) ah Q11 (A7b.only P811 (by simp;omega)) ?_ (((O.trans O7 λy hy hl=>by simp at hy;omega)).trans P811 λy hy hl=>by simp at hy;omega) λr hr=> ?_
  ·have:co 16 (λj=>if j=i*4+3 then aq (g 3:Int)else if j=i*4+2 then aq (g 2:Int)else if j=i*4+1 then aq (g 1:Int)else if j=i*4 then aq (g 0:Int)else aq (gs (j/4) (j%4):Int))=co 16 λj=>aq ((if j/4=i then g (j%4)else gs (j/4) (j%4):Nat):Int):=dR λj hj=>by
    by_cases q:j/4=i
    ·rw[if_pos q];have:j%4=0\/j%4=1\/j%4=2\/j%4=3:=ah;rcases this with z|z|z|z
     ·rw[if_neg ah,if_neg ah,if_neg ah,if_pos ah,z]
     ·rw[if_neg ah,if_neg ah,if_pos ah,z]
     ·rw[if_neg ah,if_pos ah,z]
     ·rw[if_pos ah,z]
    ·rw[if_neg q,if_neg ah,if_neg ah,if_neg ah,if_neg ah]
   rw[this]at C4;exact C4
  ·by_cases q:r=i
   ·subst q;rw[if_pos rfl];refine⟨rfl,λj hj=>by show(if r=r then g j else gs r j)<fP;rw[if_pos rfl];exact wg j hj,λy hy=> ?_⟩;have:=gf y hy;have m2:=m.2 y;have e1:fb (λj=>if r=r then g j else gs r j) y=fb g y:=ak;rw[e1,this];exact m2.symm
   ·rw[if_neg q];obtain⟨a1,a2,a3⟩:=H r ah;have e1:(λj=>if r=i then g j else gs r j)=gs r:=by funext j;rw[if_neg q]
    rw[e1];exact⟨a1,a2,a3⟩
end
set_option maxRecDepth 100000 in
def law12(h:aH)(bp:az)(bc:Nat)(zs:List Int)(hI:pS h .u8 bp zs)(hz: ∀z∈zs,IntKind.min .u8<=z/\z<=IntKind.max .u8)(_:(zs.length:Int)<=maxLen)
  (tp:az) (tc tl:Nat) (tb:Nat->Bool) (hB:Ff h tp tl tb) (_:(tl:Int)<=maxLen):
  Cl 12 [.slice bp zs.length bc,.slice tp tl tc] h (ff h):=by
 refine F12.spec _ _ _ _ _ _ h _ ?_;unfold F12.w F12.J0;refine Do λh1 O1=>aY rfl ?_;rw[Bool.not_true,aJ];refine aT (λ_=>⟨rfl,O1⟩) λc=> ?_;have c: ¬(10:Int)<(zs.length:Int):=of_decide_eq_false c;refine aT (λ_=>⟨rfl,O1⟩) λc2=> ?_;have c2: ¬(6:Int)<(tl:Int):=of_decide_eq_false c2;refine DX (n:=8) (room:=16384) ah ah ah ah λh2 e G W2 s2 a2 n2 m2 f2 g2 _ N2 j2 w2 _ la2 M2 b2 O2=>⟨_,_,rfl,?_⟩;rw[show((0:Int) !=0)=false from rfl,aJ];have O12:=O1.trans O2 ak;have z1:=O1.size;have gl: ∀b∈iD e G,h.size<=b:=λb hb=>by have:=b2 b hb;omega
 have Q2:=Fj W2 s2 a2 N2 j2 la2 M2;have exs:=FG hz;obtain⟨xs,ex⟩: ∃xs,xs=zs.map Int.toNat:=⟨_,rfl⟩;have lx:xs.length=zs.length:=by rw[ex];simp
 rw[<-ex]at exs;rw[<-lx];refine Fh (s:=0) (xs:=xs) Q2 ah (by rw[n2];omega) (by rw[ex];exact AX hz) ah (by rw[m2];omega) ah (λhh fr=> ?_) λh3 G3 Q3 S3 k3=>aY rfl ?_
 ·rw[<-exs];exact hI.only ((O12.mono ak).trans (fr (iD e G) λq hq=>hq) λb hb _=>hb) gl
 rw[Bool.not_true,aJ];obtain⟨T0,eT0⟩: ∃T0,T0=0+4+xs.length:=⟨_,rfl⟩;rw[<-eT0]at Q3;obtain⟨F,eF⟩: ∃F,F=va (bY (bY (bY (bY If 0 0) 0 1) 0 2) 0 3) 0 xs:=⟨_,rfl⟩;rw[<-eF]at Q3;have O03:=S3.only O12 gl;have gl3:=S3.ge O12.size gl
 have noF3: ∀q,q<4-> ∀r,r<6->(q≠0\/4<=r)->F q r=none:=λq hq r hr hn=>by rw[eF,xm hn];exact AE hn
 obtain⟨fs,efs⟩: ∃fs:Nat->Nat->Bool,∀r,r<4->F 0 r=some (fs r):=by
  have: ∀r,∃f,r<4->F 0 r=some f:=λr=>by
   by_cases q:r<4
   ·obtain⟨f,hf⟩:=yF (Du If 0) (xs:=xs) r q;exact⟨f,λ_=>by rw[eF];exact hf⟩
   ·exact⟨λ_=>false,λw=>absurd w q⟩
  exact⟨λr=>(this r).choose,λr hr=>(this r).choose_spec hr⟩
 have n3:G3.n=8:=k3.1.trans n2;have r3:G3.room=16384:=k3.2.2.1.trans m2;have there3: ∀r,r<4->(G3.E.ses 0).there r=true:=λr hr=>((Q3.md 0 ah r ah).2 _ (efs r hr)).1;refine aV λh4 A7 O4 z4=>aV λh5 A8 O5 z5=> ?_;have l3:=Q3.W.lt;have O35:=O4.trans O5 ak;have z35:=O4.size;rw[vG]at A8;have A7:At h4 h3.size (co 4 λ_=>ap ((0:Nat):Int)):=A7;have A8:At h5 h4.size (co 16 λi=>aq (((λ(_ _:Nat)=>0) (i/4) (i%4):Nat):Int)):=A8;unfold F12.wk11 F12.Jk11;exact⟨_,BA hB ah l3 O03 gl3 n3 r3 there3 efs noF3 ah (Nat.le_refl _) ah 4 0 h5 (λ_=>0) (λ_ _=>0) ah (Q3.only0 O35) (A7.only O5 ak) A8 O35 λr hr=>absurd hr (Nat.not_lt_zero r)⟩
end
end Go.Proofs.YtnofenejoebkhaaGreat.Ev
