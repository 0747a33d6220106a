/- PART 5 OF WHAT THE LAW EngineRegs STANDS ON: EngC5, RefF5, IterE5, RefC5, RefD5, EngD5, EngE5, VarF5, PlyH5, FunI5, FunJ5, PlyI5, EngG5, CntP5, CntF5, CntA5, EngH5, EngJ5, LeF5, EngK5, EngL5, EngN5, EngO5, LawM5. Conditions: none but those that each lemma states. -/
import Derived.Test.YtnofenejoebkhaaGreatG4
namespace Go.Proofs.YtnofenejoebkhaaGreat.Ev
open Go
section
def refu2(n:Nat)(c:Cal):Int:=if c.kind=3∧takesZ c.op=0 then 200 else if(c.kind=1∨c.kind=3∧c.op=8)∧n≤c.mask then 40 else if c.kind=3∧(c.op=6∨c.op=7)∧c.mask/2^n≠0 then 40 else 0
theorem rds_len(c:Cal):(rds c).length≤3:=by
 unfold rds
 split
 ·simp
 ·split
  ·simp
  ·split
   ·rw[List.length_take]
    exact Nat.min_le_right _ _
   ·simp
def rdsOk(x:Ses)(c:Cal):Prop:= ∀r∈rds c,isR r∧x.there r.toNat=true
open Classical in
noncomputable def refu(n:Nat)(x:Ses)(c:Cal):Int:=if ¬(1≤c.kind∧c.kind≤8)then 222 else if wrK c.kind∧ ¬isR c.dst then 221 else if ¬rdsOk x c then 221 else refu2 n c
theorem pk_some{a:Addr}{K:Addr→Prop}:ptrK (some a) K=K a:=rfl
section
variable {h:Heap}{e s:Nat}{E:Eng}{K:Value→Heap→Prop}{L:List Nat}{X:SX}
theorem fdivp{m n:Nat}(hn:n≤8)(hm:m<256):(Int.fdiv (IntKind.wrap .i64 (m:Int)) (2^(min (Int.toNat (n:Int)) (IntKind.bits .i64))))=((m/2^n:Nat):Int):=by
 rw[wrap_i64 (by omega) (by omega),show min (Int.toNat (n:Int)) (IntKind.bits .i64)=n by show min n 64=n;omega,show((2:Int)^n)=((2^n:Nat):Int) by simp,Int.fdiv_eq_ediv_of_nonneg _ (Int.natCast_nonneg _)]
 simp
theorem ref11{b:Nat}{c:Cal}(I:EIs h e E)(S:Sto h E.s L X)(hm:c.mask<256)(A:At h b [.int .i64 c.kind,.int .i64 c.op,.int .i64 c.dst,.int .i64 c.a,.int .i64 c.b,.int .i64 c.c,.int .u8 (c.mask:Int)])
  (hK:K (.int .i64 (refu2 X.n c)) h):F77.wk11 ⟨e,0,none⟩ ⟨b,0,none⟩ h K:=by
 unfold F77.wk11
 have n8:=S.ok.2.2.1
 have r0:rd h ⟨b,0,none⟩=some (.int .i64 c.kind):=At.rd A 0
 have r1:rd h ⟨b,1,none⟩=some (.int .i64 c.op):=At.rd A 1
 have r6:rd h ⟨b,6,none⟩=some (.int .u8 (c.mask:Int)):=At.rd A 6
 have rs:rd h ⟨e,0,none⟩=some (.pointer (some ⟨E.s,0,none⟩)):=I.s
 simp only[add_mk,Nat.zero_add]
 refine ldI_of r6 (ldP_of rs (sto_vars S (ldI_of rfl ⟨trivial,ldI_of r6 ⟨rfl,trivial,by omega,ldI_of r6 (ldP_of rs (sto_vars S (ldI_of rfl ⟨trivial,ldI_of r6 ⟨rfl,trivial,ldI_of r0 ?_⟩⟩)))⟩⟩)))
 rw[fdivp n8 hm,show IntKind.wrap .i64 (c.mask:Int)=(c.mask:Int)from wrap_i64 (by omega) (by omega)]
 simp only[r0,r1,ldI_some]
 have em:decide ((c.mask:Int)≥(X.n:Int))=decide (X.n≤c.mask):=by
  by_cases q:X.n≤c.mask
  ·rw[decide_eq_true q,decide_eq_true (by omega)]
  ·rw[decide_eq_false q,decide_eq_false (by omega)]
 have ed:(((c.mask/2^X.n:Nat):Int) !=(0:Int))=decide (c.mask/2^X.n≠0):=by
  by_cases q:c.mask/2^X.n=0
  ·rw[q,decide_eq_false (by simp)];rfl
  ·rw[decide_eq_true q]
   simp only[bne_iff_ne,ne_eq,Bool.not_eq_true]
   omega
 rw[em,ed]
 unfold refu2 at hK
 by_cases k3:c.kind=3
 ·have a1:(c.kind==(3:Int))=true:=by simp[k3]
  have a2:(c.kind==(1:Int))=false:=by simp[k3]
  simp only[a1,a2,bcase_true,bcase_false]
  refine takes122 (ldI_of rfl ?_)
  simp only[r0,r1,ldI_some,a1,a2,bcase_true,bcase_false]
  by_cases t0:takesZ c.op=0
  ·have a3:(takesZ c.op==(0:Int))=true:=by simp[t0]
   rw[a3,bcase_true]
   rw[if_pos ⟨k3,t0⟩]at hK
   exact hK
  ·have a3:(takesZ c.op==(0:Int))=false:=by simp[t0]
   rw[a3,bcase_false]
   rw[if_neg (fun q=>t0 q.2)]at hK
   simp only[k3,true_and,false_or,show ¬(3:Int)=1 by omega]at hK
   by_cases o8:c.op=8
   ·simp only[show(c.op==(8:Int))=true by simp[o8],show(c.op==(6:Int))=false by simp[o8],show(c.op==(7:Int))=false by simp[o8],bcase_true,bcase_false]
    refine bcase_of (fun q=> ?_) fun q=> ?_
    ·rw[if_pos ⟨o8,of_decide_eq_true q⟩]at hK
     exact hK
    ·rw[if_neg (fun w=>(of_decide_eq_false q) w.2),if_neg (by omega)]at hK
     exact hK
   ·rw[if_neg (fun w=>o8 w.1)]at hK
    simp only[show(c.op==(8:Int))=false by simp[o8],bcase_false]
    by_cases o6:c.op=6
    ·simp only[show(c.op==(6:Int))=true by simp[o6],bcase_true]
     refine bcase_of (fun q=> ?_) fun q=> ?_
     ·rw[if_pos ⟨.inl o6,of_decide_eq_true q⟩]at hK
      exact hK
     ·rw[if_neg (fun w=>(of_decide_eq_false q) w.2)]at hK
      exact hK
    ·simp only[show(c.op==(6:Int))=false by simp[o6],bcase_false]
     by_cases o7:c.op=7
     ·simp only[show(c.op==(7:Int))=true by simp[o7],bcase_true]
      refine bcase_of (fun q=> ?_) fun q=> ?_
      ·rw[if_pos ⟨.inr o7,of_decide_eq_true q⟩]at hK
       exact hK
      ·rw[if_neg (fun w=>(of_decide_eq_false q) w.2)]at hK
       exact hK
     ·simp only[show(c.op==(7:Int))=false by simp[o7],bcase_false]
      rw[if_neg (by omega)]at hK
      exact hK
 ·have a1:(c.kind==(3:Int))=false:=by simp[k3]
  simp only[a1,bcase_false]
  rw[if_neg (fun q=>k3 q.1)]at hK
  simp only[k3,false_and,or_false,if_false]at hK
  by_cases k1:c.kind=1
  ·simp only[show(c.kind==(1:Int))=true by simp[k1],bcase_true]
   refine bcase_of (fun q=> ?_) fun q=> ?_
   ·rw[q,bcase_true]
    rw[if_pos ⟨k1,of_decide_eq_true q⟩]at hK
    exact hK
   ·rw[if_neg (fun w=>(of_decide_eq_false q) w.2)]at hK
    exact hK
  ·simp only[show(c.kind==(1:Int))=false by simp[k1],bcase_false]
   rw[if_neg (fun w=>k1 w.1)]at hK
   exact hK
theorem refuses77{c:Cal}{i:Nat}(hi:i<4)(I:EIs h e E)(S:Sto h E.s L X)(he:e<h.size)(hm:c.mask<256)(hK: ∀h',Only [] h h'→K (.int .i64 (refu X.n (E.ses i) c)) h'):
  Cl 77 [ptrV e,.pointer (some ⟨e,3+24*i,none⟩),calV c] h K:=by
 refine F77.spec _ _ _ _ _ _ _ _ _ h K ?_
 refine newK_at fun h1 A1 O1 z1=> ?_
 simp only[add_mk,Nat.zero_add]
 have r: ∀k,rd h1 ⟨h.size,k,none⟩=([.int .i64 c.kind,.int .i64 c.op,.int .i64 c.dst,.int .i64 c.a,.int .i64 c.b,.int .i64 c.c,.int .u8 (c.mask:Int)]:List Value)[k]? :=fun k=>At.rd A1 k
 refine ldI_of (n:=c.kind) (by rw[r];rfl) (bcase_of (fun q=> ?_) fun q=> ?_)
 ·have q:c.kind<1:=of_decide_eq_true q
  have:=hK h1 O1
  unfold refu at this
  rw[if_pos (by omega)]at this
  exact this
 refine ldI_of (n:=c.kind) (by rw[r];rfl) (bcase_of (fun p=> ?_) fun p=> ?_)
 ·have p:(8:Int)<c.kind:=of_decide_eq_true p
  have:=hK h1 O1
  unfold refu at this
  rw[if_pos (by omega)]at this
  exact this
 have q: ¬c.kind<1:=of_decide_eq_false q
 have p: ¬(8:Int)<c.kind:=of_decide_eq_false p
 have S1:=S.only0 O1
 have I1:=I.only0 O1
 have fin:(wrK c.kind→isR c.dst)→ ∀(h2:Heap) (pp:Option Addr) (l cc:Nat),Only [] h1 h2→RowI h h2 pp l (rds c)→F77.wk6 ⟨e,0,none⟩ ⟨e,3+24*i,none⟩ ⟨h.size,0,none⟩ pp l cc (Nat.cast l:Int) 0 h2 K:=by
  intro hw h2 pp l cc O2 R
  unfold F77.wk6
  have I2:=I1.only0 O2
  have S2:=S1.only0 O2
  have A2:=A1.only O2 (by simp)
  have hK2:=hK h2 (O1.trans O2 (by simp))
  obtain⟨el,R⟩:=R
  have main: ∀(d k:Nat),d+k=l→(∀j x,j<k→(rds c)[j]? =some x→isR x∧(E.ses i).there x.toNat=true)→F77.wL6 (d+1) ⟨e,0,none⟩ ⟨e,3+24*i,none⟩ ⟨h.size,0,none⟩ pp l cc (Nat.cast l:Int) (Nat.cast k:Int) h2 K:=by
   intro d
   induction d with
   |zero=>
    intro k hk hb
    rw[F77.sL6]
    rw[decide_eq_false (by omega),bcase_false]
    refine ref11 I2 S2 hm A2 ?_
    have ok:rdsOk (E.ses i) c:=fun x hx=>by
     obtain⟨j,hj⟩:=List.getElem?_of_mem hx
     exact hb j x (by have:=(List.getElem?_eq_some_iff.1 hj).1;omega) hj
    unfold refu at hK2
    rw[if_neg (by omega),if_neg (fun w=>w.2 (hw w.1)),if_neg (fun w=>w ok)]at hK2
    exact hK2
   |succ d ih=>
    intro k hk hb
    rw[F77.sL6]
    rw[decide_eq_true (by omega),bcase_true]
    have hlen:k<(rds c).length:=by omega
    obtain⟨x,hx⟩: ∃x,(rds c)[k]? =some x:=⟨_,List.getElem?_eq_getElem hlen⟩
    rcases R with R|⟨b,Lc,ep,gb,Ab,g⟩
    ·rw[R]at hlen;simp at hlen
    rw[ep]
    refine⟨by omega,by omega,ldI_of (n:=x) (by simp only[add_mk];rw[At.rd Ab,show 0+Int.toNat (Nat.cast k:Int)*1=k by simp];exact g k x hx) ?_⟩
    refine is82 (ldB_of rfl ?_)
    have bad: ¬(isR x∧(E.ses i).there x.toNat=true)→K (.int .i64 221) h2:=fun w=>by
     have nok: ¬rdsOk (E.ses i) c:=fun ok=>w (ok x (List.mem_of_getElem? hx))
     unfold refu at hK2
     rw[if_neg (by omega),if_neg (fun w=>w.2 (hw w.1)),if_pos nok]at hK2
     exact hK2
    by_cases hr:isR x
    ·rw[decide_eq_true hr,Bool.not_true,bcase_false]
     refine⟨hr.1,hr.2,ldB_of (by simp only[add_mk];exact I2.thr hi (r:=x.toNat) (by unfold isR at hr;omega) (by omega)) ?_⟩
     refine bcase_of (fun w=>bad fun v=>by rw[v.2]at w;cases w) fun w=> ?_
     rw[show IntKind.wrap .i64 ((Nat.cast k:Int)+1)=((k+1:Nat):Int) by rw[wrap_i64 (by omega) (by have:=rds_len c;omega)];omega]
     rw[←ep]
     refine ih (k+1) (by omega) fun j y hj hy=> ?_
     by_cases ej:j=k
     ·subst ej
      rw[hx]at hy
      injection hy with hy
      subst hy
      exact⟨hr,by simpa using w⟩
     ·exact hb j y (by omega) hy
    ·rw[decide_eq_false hr,Bool.not_false,bcase_true]
     exact bad fun w=>hr w.1
  exact⟨_,main l 0 (by omega) fun j x hj=>by omega⟩
 refine ldI_of (n:=c.kind) (by rw[r];rfl) (ldI_of (n:=c.op) (by rw[r];rfl) (ldI_of (n:=c.dst) (by rw[r];rfl) (ldI_of (n:=c.a) (by rw[r];rfl) (ldI_of (n:=c.b) (by rw[r];rfl) (ldI_of (n:=c.c) (by rw[r];rfl) (ldI_of (n:=(c.mask:Int)) (by rw[r];rfl) ?_))))))
 refine writes120 fun h2 O2=>ldB_of rfl ?_
 have A2:=A1.only O2 (by simp)
 have r2: ∀k,rd h2 ⟨h.size,k,none⟩=([.int .i64 c.kind,.int .i64 c.op,.int .i64 c.dst,.int .i64 c.a,.int .i64 c.b,.int .i64 c.c,.int .u8 (c.mask:Int)]:List Value)[k]? :=fun k=>At.rd A2 k
 have rest:(wrK c.kind→isR c.dst)→ ∀hh,Only [] h1 hh→Cl 121 [calV c] hh (fun v26 h27=>ldS (some v26) (fun p28 l29 c30=>F77.wk6 ⟨e,0,none⟩ ⟨e,3+24*i,none⟩ ⟨h.size,0,none⟩ p28 l29 c30 (Nat.cast l29:Int) 0 h27 K)):=fun hw hh O=>
  reads121 fun h3 pp l cc O3 R=>⟨_,_,_,rfl,fin hw h3 pp l cc (O.trans O3 (by simp)) (by
   obtain⟨el,R⟩:=R
   refine⟨el,?_⟩
   rcases R with R|⟨b,Lc,ep,gb,Ab,g⟩
   ·exact .inl R
   ·exact .inr ⟨b,Lc,ep,by have:=O1.size;have:=O.size;omega,Ab,g⟩)⟩
 by_cases hwk:wrK c.kind
 ·rw[decide_eq_true hwk,bcase_true]
  refine ldI_of (n:=c.dst) (by rw[r2];rfl) (is82 (ldB_of rfl ?_))
  by_cases hd:isR c.dst
  ·rw[decide_eq_true hd,Bool.not_true,bcase_false]
   refine ldI_of (n:=c.kind) (by rw[r2];rfl) (ldI_of (n:=c.op) (by rw[r2];rfl) (ldI_of (n:=c.dst) (by rw[r2];rfl) (ldI_of (n:=c.a) (by rw[r2];rfl) (ldI_of (n:=c.b) (by rw[r2];rfl) (ldI_of (n:=c.c) (by rw[r2];rfl) (ldI_of (n:=(c.mask:Int)) (by rw[r2];rfl) ?_))))))
   exact rest (fun _=>hd) h2 O2
  ·rw[decide_eq_false hd,Bool.not_false,bcase_true]
   have:=hK h2 (O1.trans O2 (by simp))
   unfold refu at this
   rw[if_neg (by omega),if_pos ⟨hwk,hd⟩]at this
   exact this
 ·rw[decide_eq_false hwk,bcase_false]
  refine ldI_of (n:=c.kind) (by rw[r2];rfl) (ldI_of (n:=c.op) (by rw[r2];rfl) (ldI_of (n:=c.dst) (by rw[r2];rfl) (ldI_of (n:=c.a) (by rw[r2];rfl) (ldI_of (n:=c.b) (by rw[r2];rfl) (ldI_of (n:=c.c) (by rw[r2];rfl) (ldI_of (n:=(c.mask:Int)) (by rw[r2];rfl) ?_))))))
  exact rest (fun w=>absurd w hwk) h2 O2
def bgnS(x:Ses)(c:Cal):Ses:={x with cal:=c,pend:=true,job:=0}
theorem begin24{c:Cal}{i:Int}(I:EIs h e E)(S:Sto h E.s L X)(D:e∉L)(hm:c.mask<256)
  (hO:(i<0∨4≤i)→ ∀h',Only [] h h'→K (.int .i64 222) h')
  (hB: ∀k:Nat,k<4→i=(k:Int)→(E.ses k).pend=true→ ∀h',Only [] h h'→K (.int .i64 220) h')
  (hR: ∀k:Nat,k<4→i=(k:Int)→(E.ses k).pend=false→refu X.n (E.ses k) c≠0→ ∀h',Only [] h h'→K (.int .i64 (refu X.n (E.ses k) c)) h')
  (hK: ∀k:Nat,k<4→i=(k:Int)→(E.ses k).pend=false→refu X.n (E.ses k) c=0→ ∀h',EIs h' e (E.put k (bgnS (E.ses k) c))→Only [e] h h'→K (.int .i64 0) h'):
  Cl 24 [ptrV e,.int .i64 i,calV c] h K:=by
 refine F24.spec _ _ _ _ _ _ _ _ _ h K ?_
 have he:e<h.size:=At.lt I
 refine newK_at fun h1 A1 O1 z1=> ?_
 simp only[add_mk,Nat.zero_add]
 have S1:=S.only0 O1
 have I1:=I.only0 O1
 refine session76 (fun q=>ldP_of rfl (hO q h1 O1)) fun k hk ek=>ldP_of rfl ?_
 have hB:=hB k hk ek
 have hR:=hR k hk ek
 have hK:=hK k hk ek
 show bcase false _ _
 rw[bcase_false]
 have r: ∀j,rd h1 ⟨h.size,j,none⟩=([.int .i64 c.kind,.int .i64 c.op,.int .i64 c.dst,.int .i64 c.a,.int .i64 c.b,.int .i64 c.c,.int .u8 (c.mask:Int)]:List Value)[j]? :=fun j=>At.rd A1 j
 refine ldB_of (n:=(E.ses k).pend) (by simp only[add_mk];exact I1.pend hk rfl) (bcase_of (fun q=>hB q h1 O1) fun q=> ?_)
 refine ldI_of (n:=c.kind) (by rw[r];rfl) (ldI_of (n:=c.op) (by rw[r];rfl) (ldI_of (n:=c.dst) (by rw[r];rfl) (ldI_of (n:=c.a) (by rw[r];rfl) (ldI_of (n:=c.b) (by rw[r];rfl) (ldI_of (n:=c.c) (by rw[r];rfl) (ldI_of (n:=(c.mask:Int)) (by rw[r];rfl) ?_))))))
 refine refuses77 hk I1 S1 (by omega) hm fun h2 O2=>ldI_of rfl ?_
 have O12:=O1.trans O2 (by simp)
 refine bcase_of (fun w=>hR q (by simpa using w) h2 O12) fun w=> ?_
 have w:refu X.n (E.ses k) c=0:=by simpa using w
 have A2:=A1.only O2 (by simp)
 have I2:=I1.only0 O2
 have r2: ∀j,rd h2 ⟨h.size,j,none⟩=([.int .i64 c.kind,.int .i64 c.op,.int .i64 c.dst,.int .i64 c.a,.int .i64 c.b,.int .i64 c.c,.int .u8 (c.mask:Int)]:List Value)[j]? :=fun j=>At.rd A2 j
 refine ldI_of (n:=c.kind) (by rw[r2];rfl) (ldI_of (n:=c.op) (by rw[r2];rfl) (ldI_of (n:=c.dst) (by rw[r2];rfl) (ldI_of (n:=c.a) (by rw[r2];rfl) (ldI_of (n:=c.b) (by rw[r2];rfl) (ldI_of (n:=c.c) (by rw[r2];rfl) (ldI_of (n:=(c.mask:Int)) (by rw[r2];rfl) ?_))))))
 obtain⟨x,ex⟩: ∃x,x=E.ses k:=⟨_,rfl⟩
 rw[←ex]at hK w
 have p0:E=E.put k x:=by rw[ex,put_self]
 rw[p0]at I2
 have stp: ∀{hh:Heap} {y:Ses} {j:Nat} {v:Value} {c':Cal} {KK:Heap→Prop},EIs hh e (E.put k y)→j<7→v.oneCell'=true→(∀q,q<7→cC c' q=if q=j then v else cC y.cal q)→
   (∀h',EIs h' e (E.put k {y with cal:=c'})→Only [e] hh h'→KK h')→stK hh (Addr.add (Addr.add ⟨e,3+24*k,none⟩ 12) j) v KK:=fun {hh y j v c' KK} I hj hv hc g=>by
  rw[add_mk,add_mk]
  refine EIs.setS (x:={y with cal:=c'}) I hk (j:=12+j) (by omega) (by omega) hv (fun q hq=> ?_) fun h' I' O' _=> ?_
  ·rw[put_ses]
   exact sC_cal hj hc q hq
  ·rw[put_put]at I'
   exact g h' I' O'
 have T: ∀{a b:Heap},Only [e] h2 a→Only [e] a b→Only [e] h2 b:=fun p q=>p.trans q fun b hb _=>hb
 rw[pk_some]
 refine stp (j:=0) (c':=⟨c.kind,x.cal.op,x.cal.dst,x.cal.a,x.cal.b,x.cal.c,x.cal.mask⟩) I2 (by omega) rfl (fun q hq=>by rcases q with _|_|_|_|_|_|_|q<;>first|rfl|omega) fun h3 I3 O3=> ?_
 refine stp (j:=1) (c':=⟨c.kind,c.op,x.cal.dst,x.cal.a,x.cal.b,x.cal.c,x.cal.mask⟩) I3 (by omega) rfl (fun q hq=>by rcases q with _|_|_|_|_|_|_|q<;>first|rfl|omega) fun h4 I4 O4=> ?_
 refine stp (j:=2) (c':=⟨c.kind,c.op,c.dst,x.cal.a,x.cal.b,x.cal.c,x.cal.mask⟩) I4 (by omega) rfl (fun q hq=>by rcases q with _|_|_|_|_|_|_|q<;>first|rfl|omega) fun h5 I5 O5=> ?_
 refine stp (j:=3) (c':=⟨c.kind,c.op,c.dst,c.a,x.cal.b,x.cal.c,x.cal.mask⟩) I5 (by omega) rfl (fun q hq=>by rcases q with _|_|_|_|_|_|_|q<;>first|rfl|omega) fun h6 I6 O6=> ?_
 refine stp (j:=4) (c':=⟨c.kind,c.op,c.dst,c.a,c.b,x.cal.c,x.cal.mask⟩) I6 (by omega) rfl (fun q hq=>by rcases q with _|_|_|_|_|_|_|q<;>first|rfl|omega) fun h7 I7 O7=> ?_
 refine stp (j:=5) (c':=⟨c.kind,c.op,c.dst,c.a,c.b,c.c,x.cal.mask⟩) I7 (by omega) rfl (fun q hq=>by rcases q with _|_|_|_|_|_|_|q<;>first|rfl|omega) fun h8 I8 O8=> ?_
 refine stp (j:=6) (c':=c) I8 (by omega) rfl (fun q hq=>by rcases q with _|_|_|_|_|_|_|q<;>first|rfl|omega) fun h9 I9 O9=> ?_
 have O29:=T (T (T (T (T (T O3 O4) O5) O6) O7) O8) O9
 rw[pk_some,add_mk,add_mk]
 refine EIs.setS (x:={x with cal:=c,pend:=true}) I9 hk (j:=19) (by omega) (by omega) rfl (fun q hq=>by rw[put_ses];exact sC_pend (x:={x with cal:=c}) q hq) fun h10 I10 O10 _=> ?_
 rw[put_put]at I10
 rw[pk_some,add_mk,add_mk]
 refine EIs.setS (x:={x with cal:=c,pend:=true,job:=0}) I10 hk (j:=20) (by omega) (by omega) rfl (fun q hq=>by rw[put_ses];exact sC_job (x:={x with cal:=c,pend:=true}) (n:=0) q hq) fun h11 I11 O11 _=> ?_
 rw[put_put]at I11
 exact hK (by rw[ex];exact q) w h11 I11 ((O12.mono (by simp)).trans (T (T O29 O10) O11) fun b hb _=>hb)
end
end
section
theorem F67.spec(a:Int)(h:Heap)(K:KK)(H:newK h (.map #[] 0) fun b1 h2=>0≤(if(4:Int)<(if(1:Int)>a then(1:Int)else a)then(4:Int)else(if(1:Int)>a then(1:Int)else a))∧(if(4:Int)<(if(1:Int)>a then(1:Int)else a)then(4:Int)else(if(1:Int)>a then(1:Int)else a))≤(if(4:Int)<(if(1:Int)>a then(1:Int)else a)then(4:Int)else(if(1:Int)>a then(1:Int)else a))∧((Nat.cast 24:Int)*(if(4:Int)<(if(1:Int)>a then(1:Int)else a)then(4:Int)else(if(1:Int)>a then(1:Int)else a))≤281474976710656)∧(if(4:Int)<(if(1:Int)>a then(1:Int)else a)then(4:Int)else(if(1:Int)>a then(1:Int)else a))≤9223372036854775807∧newK h2 (.cells (madeCells #[.slice none 0 0] (Int.toNat (if(4:Int)<(if(1:Int)>a then(1:Int)else a)then(4:Int)else(if(1:Int)>a then(1:Int)else a))*1)) 56) fun b3 h4=>newK h4 (.cells #[.map (some b1),.slice (some (Addr.mk b3 0 none)) (Int.toNat (if(4:Int)<(if(1:Int)>a then(1:Int)else a)then(4:Int)else(if(1:Int)>a then(1:Int)else a))) (Int.toNat (if(4:Int)<(if(1:Int)>a then(1:Int)else a)then(4:Int)else(if(1:Int)>a then(1:Int)else a)))] 207) fun b5 h6=>K (.pointer (some (Addr.mk b5 0 none))) h6):Cl 67 [.int .i64 a] h K:=cN Tryz.func67 H
def F213.T:Hint:=⟨[(3,[3,15,16,17]),(7,[3])],[]⟩
section
variable (n:Nat)(l:Addr)(g:Option Addr)(f d:Nat)(b:Option Addr)(a i:Nat)(j c:Int)(h:Heap)(K:KK)
def F213.wk7:Prop:=Cl 260 [.slice g f d] h fun v1 h2=>v1=(.tuple #[])∧Cl 261 [.slice g f d] h2 fun v3 h4=>ldS (some v3) fun p5 l6 c7=>Cl 262 [.slice p5 l6 c7,.func (.func 263) #[] #[]] h4 fun v8 h9=>ldS (some v8) fun p10 l11 c12=>K (.slice p10 l11 c12) h9
def F213.wL3:Prop:=Lp Tryz.f213 F213.T [1,1,0,1,0] n [(3,(.slice g f d)),(15,(.slice b a i)),(16,(.int .i64 j)),(17,(.int .i64 c))] h K
theorem F213.sL3:F213.wL3 (n+1) g f d b a i j c h K=(bcase (decide (c<j)) (ptrK b fun a1=>0≤c∧c<(Nat.cast a:Int)∧ldS (rd h (a1.add (Int.toNat c*1))) fun p2 l3 _=>appK h 46 1 4 #[.int .u32 0] g f d p2 l3 fun p5 l6 c7 h8=>F213.wL3 n p5 l6 c7 b a i j (IntKind.wrap .i64 (c+(1:Int))) h8 K) (F213.wk7 g f d h K)):=by kernel_rfl
def F213.wk3:Prop:=(∃m,F213.wL3 m g f d b a i j c h K)
theorem F213.spec(H:ldM (rd h (l.add 0)) fun r1=>Cl 259 [.map r1] h fun v2 h3=>ldV (some v2) fun v4=>Cl 258 [v4] h3 fun v5 h6=>ldS (some v5) fun p7 l8 c9=>ldS (rd h6 (l.add 1)) fun p10 l11 c12=>F213.wk3 p7 l8 c9 p10 l11 c12 (Nat.cast l11:Int) (0:Int) h6 K):Cl 213 [.pointer (some l)] h K:=cT F213.T Tryz.func213 H
end
theorem F209.spec(b:Addr)(a:Int)(h:Heap)(K:KK)(H:ldM (rd h (b.add 0)) fun r1=>lookK h r1 .u32 .u32 a fun o2=>ldI .i64 (some (lkV (.int .i64 0) o2)) fun n3=>bcase (n3==(0:Int)) (K (.int .i64 61) h) (ldM (rd h (b.add 0)) fun r4=>lookK h r4 .u32 .u32 a fun o5=>ldI .i64 (some (lkV (.int .i64 0) o5)) fun n6=>updK h r4 .u32 .u32 a (.int .i64 (IntKind.wrap .i64 (n6-(1:Int)))) fun h7=>ldM (rd h7 (b.add 0)) fun r8=>lookK h7 r8 .u32 .u32 a fun o9=>ldI .i64 (some (lkV (.int .i64 0) o9)) fun n10=>bcase (n10==(0:Int)) (ldM (rd h7 (b.add 0)) fun r11=>delK h7 r11 .u32 .u32 a fun h12=>K (.int .i64 0) h12) (K (.int .i64 0) h7))):Cl 209 [.pointer (some b),.int .u32 a] h K:=cN Tryz.func209 H
theorem F210.spec(b:Addr)(a:Int)(h:Heap)(K:KK)(H:ldM (rd h (b.add 0)) fun r1=>lookK h r1 .u32 .u32 a fun o2=>ldI .i64 (some (lkV (.int .i64 0) o2)) fun n3=>updK h r1 .u32 .u32 a (.int .i64 (IntKind.wrap .i64 (n3+(1:Int)))) fun h4=>K (.tuple #[]) h4):Cl 210 [.pointer (some b),.int .u32 a] h K:=cN Tryz.func210 H
theorem F258.spec(x0c0:Addr)(h:Heap)(K:KK)(H:Cl 292 [.slice none 0 0,.func (.func 293) #[] #[.pointer (some x0c0)]] h fun v1 h2=>ldS (some v1) fun p3 l4 c5=>K (.slice p3 l4 c5) h2):Cl 258 [.func (.func 293) #[] #[.pointer (some x0c0)]] h K:=cN Tryz.func258 H
theorem F259.spec(a:Option Nat)(h:Heap)(K:KK)(H:newK h (.cells #[.map a] 204) fun b1 h2=>K (.func (.func 293) #[] #[.pointer (some (Addr.mk b1 0 none))]) h2):Cl 259 [.map a] h K:=cN Tryz.func259 H
theorem F260.spec(c:Option Addr)(a b:Nat)(h:Heap)(K:KK)(H:Cl 295 [.int .u64 (IntKind.wrap .u64 (Nat.cast a:Int))] h fun v1 h2=>ldI .i64 (some v1) fun n3=>Cl 294 [.slice c a b,.int .i64 0,.int .i64 (Nat.cast a:Int),.int .i64 n3] h2 fun v4 h5=>v4=(.tuple #[])∧K (.tuple #[]) h5):Cl 260 [.slice c a b] h K:=cN Tryz.func260 H
namespace F261
def T:Hint:=⟨[(4,[0,3]),(9,[0,3,4,5]),(14,[0,3])],[(6,[[(0,[]),(1,[]),(2,[]),(3,[]),(4,[]),(5,[]),(6,[]),(7,[]),(8,[]),(9,[])]]),(11,[[(0,[]),(1,[]),(2,[]),(3,[]),(4,[]),(5,[]),(6,[]),(7,[]),(8,[]),(9,[])]])]⟩
noncomputable def body:Code:=(Tryz.f261.body).getD .skip
noncomputable def en(S:Stop)(p:List Nat)(κ:XK):Fr→Heap→Prop:=E Tryz.prog X T S (sub body p) κ
noncomputable def ln(S:Stop)(p:List Nat)(κ:XK)(n:Nat):Fr→Heap→Prop:=loopN S (E Tryz.prog X T S (sub body p)) (cutQ T (sub body p)) κ n
def fn(K:KK):XK:=fin Tryz.prog Tryz.f261.results.toList K
noncomputable def c0(S:Stop)(K:KK):XK:=seqN S (cutQ T (sub body [1,1,1])) (en S [1,1,1] (fn K)) (fn K)
noncomputable def c1(S:Stop)(K:KK):XK:=blockN 0 (c0 S K)
noncomputable def c2(S:Stop)(n4:Nat)(K:KK):XK:=backN S (cutQ T (sub body [1,1,0,1,0,0])) (ln S [1,1,0,1,0,0] (c1 S K) n4) (c1 S K)
noncomputable def c3(S:Stop)(n4:Nat)(K:KK):XK:=seqN S (cutQ T (sub body [1,1,0,1,0,0,1,1])) (en S [1,1,0,1,0,0,1,1] (c2 S n4 K)) (c2 S n4 K)
noncomputable def c4(S:Stop)(n4:Nat)(K:KK):XK:=blockN 1 (c3 S n4 K)
noncomputable def c5(S:Stop)(n4:Nat)(K:KK):XK:=seqN S (cutQ T (sub body [1,1,0,1,0,0,1,0,0,1,0,1,1])) (en S [1,1,0,1,0,0,1,0,0,1,0,1,1] (c4 S n4 K)) (c4 S n4 K)
noncomputable def c6(S:Stop)(n4:Nat)(K:KK):XK:=blockN 2 (c5 S n4 K)
noncomputable def c7(S:Stop)(n4:Nat)(n9:Nat)(K:KK):XK:=backN S (cutQ T (sub body [1,1,0,1,0,0,1,0,0,1,0,1,0,1,0,0])) (ln S [1,1,0,1,0,0,1,0,0,1,0,1,0,1,0,0] (c6 S n4 K) n9) (c6 S n4 K)
def f4(c:Option Addr)(b d:Nat)(f:Int):Fr:=[(0,(.slice c b d)),(3,(.int .i64 f))]
def f9(c:Option Addr)(b d:Nat)(f:Int)(i:Option Addr)(g j:Nat)(l:Int):Fr:=[(0,(.slice c b d)),(3,(.int .i64 f)),(4,(.slice i g j)),(5,(.int .i64 l))]
def f14(c:Option Addr)(b d:Nat)(f:Int):Fr:=[(0,(.slice c b d)),(3,(.int .i64 f))]
def J0(k4:(Option Addr)→Nat→Nat→Int→Heap→Prop)(c:Option Addr)(b d:Nat)(h:Heap)(K:KK):Prop:=
 bcase (decide ((Nat.cast b:Int)<(2:Int))) (K (.slice c b d) h) (k4 c b d (1:Int) h)
theorem E0(S:Stop)(c:Option Addr)(b d:Nat)(h:Heap)(K:KK):(E Tryz.prog X T S body (fin Tryz.prog Tryz.f261.results.toList K) (args0 0 [(.slice c b d)]) h)=J0 (fun c b d f h=>S (en S [1,1,0,1] (c0 S K)) (f4 c b d f) h) c b d h K:=by kernel_rfl
def Jk4(lp4:(Option Addr)→Nat→Nat→Int→Heap→Prop)(c:Option Addr)(b d:Nat)(f:Int)(h:Heap)(_K:KK):Prop:=
 lp4 c b d f h
theorem Ek4(S:Stop)(c:Option Addr)(b d:Nat)(f:Int)(h:Heap)(K:KK):(en S [1,1,0,1] (c0 S K) (f4 c b d f) h)=Jk4 (fun c b d f h=> ∃n,S (ln S [1,1,0,1,0,0] (c1 S K) n) (f4 c b d f) h) c b d f h K:=by kernel_rfl
def JL4(k9:(Option Addr)→Nat→Nat→Int→(Option Addr)→Nat→Nat→Int→Heap→Prop)(bk4:(Option Addr)→Nat→Nat→Int→Heap→Prop)(c:Option Addr)(b d:Nat)(f:Int)(h:Heap)(K:KK):Prop:=
 bcase (decide (f<(Nat.cast b:Int))) (ptrK c (fun a1=>(0≤f∧f<(Nat.cast b:Int)∧ldI .u32 (rd h (a1.add (Int.toNat f*1))) (fun n2=>ptrK c (fun a3=>(0≤(IntKind.wrap .i64 (f-(1:Int)))∧(IntKind.wrap .i64 (f-(1:Int)))<(Nat.cast b:Int)∧ldI .u32 (rd h (a3.add (Int.toNat (IntKind.wrap .i64 (f-(1:Int)))*1))) (fun n4=>bcase (n2==n4) ((0≤f∧f≤(Nat.cast b:Int)∧k9 c b d f (if d=(Int.toNat f)then c else Option.map (fun a=>Addr.add a ((Int.toNat f)*1)) c) (b-(Int.toNat f)) (d-(Int.toNat f)) (1:Int) h)) (bk4 c b d (IntKind.wrap .i64 (f+(1:Int))) h)))))))) (K (.slice c b d) h)
theorem EL4(S:Stop)(n4:Nat)(c:Option Addr)(b d:Nat)(f:Int)(h:Heap)(K:KK):(en S [1,1,0,1,0,0] (c2 S n4 K) (f4 c b d f) h)=JL4 (fun c b d f i g j l h=>S (en S [1,1,0,1,0,0,1,0,0,1,0,1,0,1] (c5 S n4 K)) (f9 c b d f i g j l) h) (fun c b d f h=>S (ln S [1,1,0,1,0,0] (c1 S K) n4) (f4 c b d f) h) c b d f h K:=by kernel_rfl
def Jk9(lp9:(Option Addr)→Nat→Nat→Int→(Option Addr)→Nat→Nat→Int→Heap→Prop)(c:Option Addr)(b d:Nat)(f:Int)(i:Option Addr)(g j:Nat)(l:Int)(h:Heap)(_K:KK):Prop:=
 lp9 c b d f i g j l h
theorem Ek9(S:Stop)(n4:Nat)(c:Option Addr)(b d:Nat)(f:Int)(i:Option Addr)(g j:Nat)(l:Int)(h:Heap)(K:KK):(en S [1,1,0,1,0,0,1,0,0,1,0,1,0,1] (c5 S n4 K) (f9 c b d f i g j l) h)=Jk9 (fun c b d f i g j l h=> ∃n,S (ln S [1,1,0,1,0,0,1,0,0,1,0,1,0,1,0,0] (c6 S n4 K) n) (f9 c b d f i g j l) h) c b d f i g j l h K:=by kernel_rfl
def JL9(bk9:(Option Addr)→Nat→Nat→Int→(Option Addr)→Nat→Nat→Int→Heap→Prop)(k14:(Option Addr)→Nat→Nat→Int→Heap→Prop)(c:Option Addr)(b d:Nat)(f:Int)(i:Option Addr)(g j:Nat)(l:Int)(h:Heap)(_K:KK):Prop:=
 bcase (decide (l<(Nat.cast g:Int))) (ptrK i (fun a1=>(0≤l∧l<(Nat.cast g:Int)∧ldI .u32 (rd h (a1.add (Int.toNat l*1))) (fun n2=>ptrK i (fun a3=>(0≤(IntKind.wrap .i64 (l-(1:Int)))∧(IntKind.wrap .i64 (l-(1:Int)))<(Nat.cast g:Int)∧ldI .u32 (rd h (a3.add (Int.toNat (IntKind.wrap .i64 (l-(1:Int)))*1))) (fun n4=>bcase (n2 !=n4) (ptrK i (fun a5=>(0≤l∧l<(Nat.cast g:Int)∧ldI .u32 (rd h (a5.add (Int.toNat l*1))) (fun n6=>ptrK c (fun a7=>(0≤f∧f<(Nat.cast b:Int)∧stK h ((a7.add (Int.toNat f*1)).add 0) (.int .u32 n6) (fun h8=>bk9 c b d (IntKind.wrap .i64 (f+(1:Int))) i g j (IntKind.wrap .i64 (l+(1:Int))) h8))))))) (bk9 c b d f i g j (IntKind.wrap .i64 (l+(1:Int))) h)))))))) (k14 c b d f h)
theorem EL9(S:Stop)(n4:Nat)(n9:Nat)(c:Option Addr)(b d:Nat)(f:Int)(i:Option Addr)(g j:Nat)(l:Int)(h:Heap)(K:KK):(en S [1,1,0,1,0,0,1,0,0,1,0,1,0,1,0,0] (c7 S n4 n9 K) (f9 c b d f i g j l) h)=JL9 (fun c b d f i g j l h=>S (ln S [1,1,0,1,0,0,1,0,0,1,0,1,0,1,0,0] (c6 S n4 K) n9) (f9 c b d f i g j l) h) (fun c b d f h=>S (en S [1,1,0,1,0,0,1,0,0,1,0,1,1] (c4 S n4 K)) (f14 c b d f) h) c b d f i g j l h K:=by kernel_rfl
def Jk14(c:Option Addr)(b d:Nat)(f:Int)(h:Heap)(K:KK):Prop:=
 (0≤f∧f≤(Nat.cast b:Int)∧clrK h #[(.int .u32 0)] (if d=(Int.toNat f)then c else Option.map (fun a=>Addr.add a ((Int.toNat f)*1)) c) (b-(Int.toNat f)) (fun h1=>(0≤f∧f≤(Nat.cast d:Int)∧K (.slice (if d=0 then c else Option.map (fun a=>Addr.add a (0*1)) c) (Int.toNat f-0) (d-0)) h1)))
theorem Ek14(S:Stop)(n4:Nat)(c:Option Addr)(b d:Nat)(f:Int)(h:Heap)(K:KK):(en S [1,1,0,1,0,0,1,0,0,1,0,1,1] (c4 S n4 K) (f14 c b d f) h)=Jk14 c b d f h K:=by kernel_rfl
def wk14(_bk4:(Option Addr)→Nat→Nat→Int→Heap→Prop)(c:Option Addr)(b d:Nat)(f:Int)(h:Heap)(K:KK):Prop:=
 Jk14 c b d f h K
theorem ek14(K:KK)(n4:Nat)(bk4:(Option Addr)→Nat→Nat→Int→Heap→Prop)(hb4: ∀(c:Option Addr) (b d:Nat) (f:Int) (h:Heap),(ln S0 [1,1,0,1,0,0] (c1 S0 K) n4 (f4 c b d f) h)=bk4 c b d f h)(c:Option Addr)(b d:Nat)(f:Int)(h:Heap):(en S0 [1,1,0,1,0,0,1,0,0,1,0,1,1] (c4 S0 n4 K) (f14 c b d f) h)=wk14 bk4 c b d f h K:=(Ek14 S0 n4 c b d f h K).trans (rfl)
def wL9(bk4:(Option Addr)→Nat→Nat→Int→Heap→Prop):Nat→(Option Addr)→Nat→Nat→Int→(Option Addr)→Nat→Nat→Int→Heap→KK→Prop
 |0,_,_,_,_,_,_,_,_,_,_=>False
 |n+1,c,b,d,f,i,g,j,l,h,K=>JL9 (fun c b d f i g j l h=>wL9 bk4 n c b d f i g j l h K) (fun c b d f h=>wk14 bk4 c b d f h K) c b d f i g j l h K
theorem eL9(K:KK)(n4:Nat)(bk4:(Option Addr)→Nat→Nat→Int→Heap→Prop)(hb4: ∀(c:Option Addr) (b d:Nat) (f:Int) (h:Heap),(ln S0 [1,1,0,1,0,0] (c1 S0 K) n4 (f4 c b d f) h)=bk4 c b d f h): ∀(n:Nat) (c:Option Addr) (b d:Nat) (f:Int) (i:Option Addr) (g j:Nat) (l:Int) (h:Heap),(ln S0 [1,1,0,1,0,0,1,0,0,1,0,1,0,1,0,0] (c6 S0 n4 K) n (f9 c b d f i g j l) h)=wL9 bk4 n c b d f i g j l h K
 |0,_,_,_,_,_,_,_,_,_=>rfl
 |n+1,c,b,d,f,i,g,j,l,h=>(EL9 S0 n4 n c b d f i g j l h K).trans (cg2 (fun q0 q1=>JL9 q0 q1 c b d f i g j l h K) (by funext c b d f i g j l h;exact(fun c b d f i g j l h=>eL9 K n4 bk4 hb4 n c b d f i g j l h) c b d f i g j l h) (by funext c b d f h;exact ek14 K n4 bk4 hb4 c b d f h))
def wk9(bk4:(Option Addr)→Nat→Nat→Int→Heap→Prop)(c:Option Addr)(b d:Nat)(f:Int)(i:Option Addr)(g j:Nat)(l:Int)(h:Heap)(K:KK):Prop:=
 Jk9 (fun c b d f i g j l h=> ∃m,wL9 bk4 m c b d f i g j l h K) c b d f i g j l h K
theorem ek9(K:KK)(n4:Nat)(bk4:(Option Addr)→Nat→Nat→Int→Heap→Prop)(hb4: ∀(c:Option Addr) (b d:Nat) (f:Int) (h:Heap),(ln S0 [1,1,0,1,0,0] (c1 S0 K) n4 (f4 c b d f) h)=bk4 c b d f h)(c:Option Addr)(b d:Nat)(f:Int)(i:Option Addr)(g j:Nat)(l:Int)(h:Heap):(en S0 [1,1,0,1,0,0,1,0,0,1,0,1,0,1] (c5 S0 n4 K) (f9 c b d f i g j l) h)=wk9 bk4 c b d f i g j l h K:=(Ek9 S0 n4 c b d f i g j l h K).trans (cg1 (fun q0=>Jk9 q0 c b d f i g j l h K) (by funext c b d f i g j l h;exact ex_congr fun m=>eL9 K n4 bk4 hb4 m c b d f i g j l h))
def wL4:Nat→(Option Addr)→Nat→Nat→Int→Heap→KK→Prop
 |0,_,_,_,_,_,_=>False
 |n+1,c,b,d,f,h,K=>JL4 (fun c b d f i g j l h=>wk9 (fun c b d f h=>wL4 n c b d f h K) c b d f i g j l h K) (fun c b d f h=>wL4 n c b d f h K) c b d f h K
theorem eL4(K:KK): ∀(n:Nat) (c:Option Addr) (b d:Nat) (f:Int) (h:Heap),(ln S0 [1,1,0,1,0,0] (c1 S0 K) n (f4 c b d f) h)=wL4 n c b d f h K
 |0,_,_,_,_,_=>rfl
 |n+1,c,b,d,f,h=>(EL4 S0 n c b d f h K).trans (cg2 (fun q0 q1=>JL4 q0 q1 c b d f h K) (by funext c b d f i g j l h;exact ek9 K n (fun c b d f h=>wL4 n c b d f h K) (fun c b d f h=>eL4 K n c b d f h) c b d f i g j l h) (by funext c b d f h;exact(fun c b d f h=>eL4 K n c b d f h) c b d f h))
def wk4(c:Option Addr)(b d:Nat)(f:Int)(h:Heap)(K:KK):Prop:=
 Jk4 (fun c b d f h=> ∃m,wL4 m c b d f h K) c b d f h K
theorem ek4(K:KK)(c:Option Addr)(b d:Nat)(f:Int)(h:Heap):(en S0 [1,1,0,1] (c0 S0 K) (f4 c b d f) h)=wk4 c b d f h K:=(Ek4 S0 c b d f h K).trans (cg1 (fun q0=>Jk4 q0 c b d f h K) (by funext c b d f h;exact ex_congr fun m=>eL4 K m c b d f h))
def w(c:Option Addr)(b d:Nat)(h:Heap)(K:KK):Prop:=
 J0 (fun c b d f h=>wk4 c b d f h K) c b d h K
theorem e0(K:KK)(c:Option Addr)(b d:Nat)(h:Heap):(E Tryz.prog X T S0 body (fin Tryz.prog Tryz.f261.results.toList K) (args0 0 [(.slice c b d)]) h)=w c b d h K:=(E0 S0 c b d h K).trans (cg1 (fun q0=>J0 q0 c b d h K) (by funext c b d f h;exact ek4 K c b d f h))
theorem hb:Tryz.f261.body=some body:=by kernel_rfl
theorem ok:okCode T Tryz.f261.ntmps body=true:=by kernel_rfl
theorem spec(c:Option Addr)(b d:Nat)(h:Heap)(K:KK)(H:w c b d h K):Cl 261 [(.slice c b d)] h K:=
 calls_of_E (T:=T) Xok mix Tryz.func261 hb ok rfl (by rw[e0];exact H)
end F261
def F262.T:Hint:=⟨[(5,[0,1,5,6]),(11,[0,5])],[]⟩
section
variable (n:Nat)(b:Option Addr)(c d:Nat)(i:Value)(f g:Int)(h:Heap)(K:KK)
def F262.wk11:Prop:=(0≤f∧f≤(Nat.cast c:Int)∧clrK h #[.int .u32 0] (if d=(Int.toNat f)then b else Option.map (fun a=>Addr.add a ((Int.toNat f)*1)) b) (c-(Int.toNat f)) fun h1=>0≤f∧f≤(Nat.cast d:Int)∧K (.slice (if d=0 then b else Option.map (fun a=>Addr.add a (0*1)) b) (Int.toNat f-0) (d-0)) h1)
def F262.wL5:Prop:=Lp Tryz.f262 F262.T [1,1,1,0,1,0] n [(0,(.slice b c d)),(1,i),(5,(.int .i64 f)),(6,(.int .i64 g))] h K
theorem F262.sL5:F262.wL5 (n+1) b c d i f g h K=(bcase (decide (g<(Nat.cast c:Int))) (ptrK b fun a1=>0≤g∧g<(Nat.cast c:Int)∧ldI .u32 (rd h (a1.add (Int.toNat g*1))) fun n2=>dynK Tryz.prog X i [.int .u32 n2] h fun v3 h4=>ldB (some v3) fun b5=>bcase (!b5) (ptrK b fun a6=>0≤f∧f<(Nat.cast c:Int)∧stK h4 ((a6.add (Int.toNat f*1)).add 0) (.int .u32 n2) fun h7=>F262.wL5 n b c d i (IntKind.wrap .i64 (f+(1:Int))) (IntKind.wrap .i64 (g+(1:Int))) h7 K) (F262.wL5 n b c d i f (IntKind.wrap .i64 (g+(1:Int))) h4 K)) (F262.wk11 b c d f h K)):=by kernel_rfl
def F262.wk5:Prop:=(∃m,F262.wL5 m b c d i f g h K)
theorem F262.spec(H:Cl 296 [.slice b c d,.func (.func 263) #[] #[]] h fun v1 h2=>ldI .i64 (some v1) fun n3=>bcase (n3==(-1:Int)) (K (.slice b c d) h2) (F262.wk5 b c d (.func (.func 263) #[] #[]) n3 (IntKind.wrap .i64 (n3+(1:Int))) h2 K)):Cl 262 [.slice b c d,.func (.func 263) #[] #[]] h K:=cT F262.T Tryz.func262 H
end
theorem F263.spec(a:Int)(h:Heap)(K:KK)(H:K (.bool (decide (a≤(1:Int)))) h):Cl 263 [.int .u32 a] h K:=cN Tryz.func263 H
def F296.T:Hint:=⟨[(2,[0,1,7,8])],[]⟩
section
variable (n:Nat)(b:Option Addr)(a c:Nat)(f:Value)(g d:Int)(h:Heap)(K:KK)
def F296.wL2:Prop:=Lp Tryz.f296 F296.T [1,0,1,0] n [(0,(.slice b a c)),(1,f),(7,(.int .i64 g)),(8,(.int .i64 d))] h K
theorem F296.sL2:F296.wL2 (n+1) b a c f g d h K=(bcase (decide (d<g)) (ptrK b fun a1=>0≤d∧d<(Nat.cast a:Int)∧ldI .u32 (rd h (a1.add (Int.toNat d*1))) fun n2=>dynK Tryz.prog X f [.int .u32 n2] h fun v3 h4=>ldB (some v3) fun b5=>bcase b5 (K (.int .i64 d) h4) (F296.wL2 n b a c f g (IntKind.wrap .i64 (d+(1:Int))) h4 K)) (K (.int .i64 (-1)) h)):=by kernel_rfl
def F296.wk2:Prop:=(∃m,F296.wL2 m b a c f g d h K)
theorem F296.spec(H:F296.wk2 b a c (.func (.func 263) #[] #[]) (Nat.cast a:Int) (0:Int) h K):Cl 296 [.slice b a c,.func (.func 263) #[] #[]] h K:=cT F296.T Tryz.func296 H
end
end
section
theorem Own.onlyC{h h':Heap}{lo N:Nat}{p:Option Addr}{l c:Nat}{cs:List Value}{S:List Nat}(H:Own h lo N p l c cs)(O:Only S h h')(hS: ∀b∈OwnB p,(∃c,At h b c)→b∉S):Own h' lo N p l c cs:=by
 obtain⟨e,H⟩:=H
 rcases H with H|⟨b,sp,h1,h2,h3,h4,h5⟩
 ·exact⟨e,Or.inl H⟩
 ·exact⟨e,Or.inr ⟨b,sp,h1,h2,h3,h4,h5.only O (hS b (by subst h1;simp[OwnB]) ⟨_,h5⟩)⟩⟩
theorem Own.cells{h:Heap}{lo N:Nat}{p:Option Addr}{l c:Nat}{cs:List Value}(H:Own h lo N p l c cs): ∀b∈OwnB p,∃c,At h b c:=by
 obtain⟨e,H⟩:=H
 rcases H with⟨rfl,_⟩|⟨b,sp,rfl,h2,h3,h4,h5⟩
 ·intro b hb;simp[OwnB]at hb
 ·intro b' hb
  simp[OwnB]at hb
  subst hb
  exact⟨_,h5⟩
def LB:Nat:=140737488355328
theorem wrapN{x:Int}(h0: -LB≤x)(h1:x≤LB):IntKind.wrap .i64 x=x:=wrap_i64 (by unfold LB at h0;omega) (by unfold LB at h1;omega)
end
section
structure Rf(lo:Nat)(h:Heap)(r M S W N:Nat)(f:Int→Int)(p:Nat→Option Addr)(c:Nat→Nat)(L:Nat→List Int):Prop where
 R:At h r [.map (some M),.slice (some ⟨S,0,none⟩) W W]
 T:At h S (rowV W fun k=> .slice (p k) (L k).length (c k))
 Mm: ∃m,MapM h M .u32 m∧(∀x,m.lookup x=if f x=0 then none else some (.int .i64 (f x)))∧m.length≤N
 fr: ∀x,0≤f x∧f x≤N
 fx: ∀x,f x≠0→0≤x∧x≤4294967295
 own: ∀k,k<W→Own h lo 1 (p k) (L k).length (c k) ((L k).map (Value.int .u32))
 len: ∀k,k<W→(L k).length≤N
 ge:lo≤r∧lo≤S∧lo≤M
 rS:r≠S
 sep: ∀k,k<W→ ∀b∈OwnB (p k),b≠r∧b≠S∧ ∀k',k'<W→k'≠k→b∉OwnB (p k')
theorem At.ne_map{h:Heap}{b M:Nat}{c:List Value}{k:IntKind}{m:List (Int×Value)}(A:At h b c)(H:MapM h M k m):b≠M:=by
 obtain⟨es,cl,h1,-⟩:=H
 obtain⟨e,A⟩:=A
 intro e'
 subst e'
 rw[mp_obj h1]at A
 cases A
section
variable {lo:Nat}{h h':Heap}{r M S W N:Nat}{f:Int→Int}{p:Nat→Option Addr}{c:Nat→Nat}{L:Nat→List Int}{K:Value→Heap→Prop}
theorem Rf.rM(H:Rf lo h r M S W N f p c L):r≠M:=by obtain⟨m,a,-⟩:=H.Mm;exact H.R.ne_map a
theorem Rf.SM(H:Rf lo h r M S W N f p c L):S≠M:=by obtain⟨m,a,-⟩:=H.Mm;exact H.T.ne_map a
theorem Rf.pM(H:Rf lo h r M S W N f p c L){k:Nat}(hk:k<W){b:Nat}(hb:b∈OwnB (p k)):b≠M:=by
 obtain⟨m,a,-⟩:=H.Mm
 obtain⟨c,A⟩:=(H.own k hk).cells b hb
 exact A.ne_map a
theorem Rf.only(H:Rf lo h r M S W N f p c L){X:List Nat}(O:Only X h h')(hr:r∉X)(hS:S∉X)(hM:M∉X)(hp: ∀k,k<W→ ∀b∈OwnB (p k),b∉X):Rf lo h' r M S W N f p c L where
 R:=H.R.only O hr
 T:=H.T.only O hS
 Mm:=by obtain⟨m,a,b,d⟩:=H.Mm;exact⟨m,a.only O hM,b,d⟩
 fr:=H.fr
 fx:=H.fx
 own:=fun k hk=>(H.own k hk).onlyC O fun b hb _=>hp k hk b hb
 len:=H.len
 ge:=H.ge
 rS:=H.rS
 sep:=H.sep
theorem Rf.new(H:Rf lo h r M S W N f p c L)(O:Only [] h h'):Rf lo h' r M S W N f p c L:=H.only O (by simp) (by simp) (by simp) (by simp)
theorem Rf.lt(H:Rf lo h r M S W N f p c L):r<h.size∧S<h.size∧M<h.size∧ ∀k,k<W→ ∀b∈OwnB (p k),lo≤b∧b<h.size:=by
 obtain⟨m,a,-⟩:=H.Mm
 exact⟨H.R.lt,H.T.lt,a.lt,fun k hk=>(H.own k hk).lt⟩
theorem Rf.grow(H:Rf lo h r M S W N f p c L){N':Nat}(hN:N≤N'):Rf lo h r M S W N' f p c L:=
 {H with
  Mm:=by obtain⟨m,a,b,d⟩:=H.Mm;exact⟨m,a,b,Nat.le_trans d hN⟩
  fr:=fun x=>⟨(H.fr x).1,by have:=(H.fr x).2;omega⟩
  len:=fun k hk=>Nat.le_trans (H.len k hk) hN}
theorem Rf.rd0(H:Rf lo h r M S W N f p c L):rd h ⟨r,0,none⟩=some (.map (some M)):=H.R.rd 0
theorem Rf.rd1(H:Rf lo h r M S W N f p c L):rd h ⟨r,1,none⟩=some (.slice (some ⟨S,0,none⟩) W W):=H.R.rd 1
theorem Rf.rdT(H:Rf lo h r M S W N f p c L){k:Nat}(hk:k<W):rd h ⟨S,k,none⟩=some (.slice (p k) (L k).length (c k)):=by rw[H.T.rd,rowV_get hk]
theorem look_rf(H:Rf lo h r M S W N f p c L){x:Int}{K:Int→Prop}(hK:K (f x)):lookK h (some M) .u32 .u32 x fun o=>ldI .i64 (some (lkV (.int .i64 (0:Int)) o)) K:=by
 obtain⟨m,a,b,-⟩:=H.Mm
 refine look_map a (fun e=> ?_) fun i v e=> ?_
 ·rw[b x]at e
  have:f x=0:=by
   by_cases h0:f x=0
   ·exact h0
   ·rw[if_neg h0]at e;cases e
  rw[this]at hK
  show ldI .i64 (some (.int .i64 0)) K
  rw[ldI_some]
  exact hK
 ·rw[b x]at e
  by_cases h0:f x=0
  ·rw[if_pos h0]at e;cases e
  ·rw[if_neg h0]at e
   injection e with e
   subst e
   show ldI .i64 (some (.int .i64 (f x))) K
   rw[ldI_some]
   exact hK
def fup(f:Int→Int)(x v:Int):Int→Int:=fun y=>if y=x then v else f y
theorem mset_len{m:List (Int×Value)}{x:Int}{v:Value}:(mset m x v).length≤m.length+1:=by
 unfold mset
 split<;>simp
theorem mdel_len{m:List (Int×Value)}{x:Int}:(mdel m x).length≤m.length:=by
 unfold mdel
 exact List.length_filter_le _ _
theorem map_only(H:Rf lo h r M S W N f p c L)(O:Only [M] h h'){N':Nat}{f':Int→Int}(hN:N≤N')(hm: ∃m,MapM h' M .u32 m∧(∀x,m.lookup x=if f' x=0 then none else some (.int .i64 (f' x)))∧m.length≤N')
  (hfr: ∀x,0≤f' x∧f' x≤N') (hfx: ∀x,f' x≠0→0≤x∧x≤4294967295):Rf lo h' r M S W N' f' p c L where
 R:=H.R.only O (by simpa using H.rM)
 T:=H.T.only O (by simpa using H.SM)
 Mm:=hm
 fr:=hfr
 fx:=hfx
 own:=fun k hk=>(H.own k hk).onlyC O fun b hb _=>by simpa using H.pM hk hb
 len:=fun k hk=>Nat.le_trans (H.len k hk) hN
 ge:=H.ge
 rS:=H.rS
 sep:=H.sep
theorem prot33(H:Rf lo h r M S W N f p c L){x:Int}(hx:0≤x∧x≤4294967295)(hN:N≤LB)(hK: ∀h',Rf lo h' r M S W (N+1) (fup f x (f x+1)) p c L→Only [M] h h'→K (.tuple #[]) h'):
  Cl 210 [.pointer (some ⟨r,0,none⟩),.int .u32 x] h K:=by
 refine F210.spec _ _ h K ?_
 have hLB:LB=140737488355328:=rfl
 rw[add_mk,H.rd0,ldM_some]
 have b:=H.fr x
 refine look_rf H ?_
 obtain⟨m,a,b',d⟩:=H.Mm
 refine upd_map a fun h1 M1 O1 z1=> ?_
 rw[wrap_i64 (by omega) (by omega)]at M1
 refine hK h1 (map_only H O1 (by omega) ⟨_,M1,fun y=> ?_,Nat.le_trans mset_len (by omega)⟩ (fun y=> ?_) fun y=> ?_) O1
 ·rw[lookup_mset]
  unfold fup
  by_cases hy:y=x
  ·rw[if_pos hy,if_pos hy,if_neg (by omega)]
  ·rw[if_neg hy,if_neg hy]
   exact b' y
 ·unfold fup
  have:=H.fr y
  split<;>omega
 ·unfold fup
  by_cases hy:y=x
  ·subst hy;intro _;exact hx
  ·rw[if_neg hy];exact H.fx y
theorem unp36(H:Rf lo h r M S W N f p c L){x:Int}(hN:N≤LB)(h0:f x=0→K (.int .i64 61) h)(hK:f x≠0→ ∀h',Rf lo h' r M S W (N+1) (fup f x (f x-1)) p c L→Only [M] h h'→K (.int .i64 0) h'):
  Cl 209 [.pointer (some ⟨r,0,none⟩),.int .u32 x] h K:=by
 refine F209.spec _ _ h K ?_
 have hLB:LB=140737488355328:=rfl
 rw[add_mk,H.rd0,ldM_some]
 have b:=H.fr x
 refine look_rf H ?_
 refine bcase_of (fun e=>h0 (by simpa using e)) fun e=> ?_
 have e':f x≠0:=by simpa using e
 have hx:=H.fx x e'
 rw[ldM_some]
 refine look_rf H ?_
 obtain⟨m,a,b',d⟩:=H.Mm
 refine upd_map a fun h1 M1 O1 z1=> ?_
 rw[wrap_i64 (by omega) (by omega)]at M1
 have R1:=H.R.only O1 (by simpa using H.rM)
 rw[show rd h1 ⟨r,0+0,none⟩=some (.map (some M))from R1.rd 0,ldM_some]
 refine look_map M1 (fun e=> ?_) fun i v e=> ?_
 ·rw[lookup_mset,if_pos rfl]at e;cases e
 ·rw[lookup_mset,if_pos rfl]at e
  injection e with e
  subst e
  show ldI .i64 (some (.int .i64 (f x-1))) _
  rw[ldI_some]
  have fin: ∀(h2:Heap) (m2:List (Int×Value)),MapM h2 M .u32 m2→(∀y,m2.lookup y=if fup f x (f x-1) y=0 then none else some (.int .i64 (fup f x (f x-1) y)))→m2.length≤m.length+1→Only [M] h h2→K (.int .i64 0) h2:=by
   intro h2 m2 M2 l2 n2 O2
   refine hK e' h2 (map_only H O2 (by omega) ⟨_,M2,l2,by omega⟩ (fun y=> ?_) fun y=> ?_) O2
   ·unfold fup
    have:=H.fr y
    split<;>omega
   ·unfold fup
    by_cases hy:y=x
    ·subst hy;intro _;exact hx
    ·rw[if_neg hy];exact H.fx y
  refine bcase_of (fun e0=> ?_) fun e0=> ?_
  ·have e0':f x-1=0:=by simpa using e0
   rw[ldM_some]
   refine del_map M1 fun h2 M2 O2 z2=> ?_
   refine fin h2 _ M2 (fun y=> ?_) (Nat.le_trans mdel_len mset_len) (O1.trans O2 (by simp))
   rw[lookup_mdel,lookup_mset]
   unfold fup
   by_cases hy:y=x
   ·rw[if_pos hy,if_pos hy,if_pos e0']
   ·rw[if_neg hy,if_neg hy,if_neg hy]
    exact b' y
  ·have e0':f x-1≠0:=by simpa using e0
   refine fin h1 _ M1 (fun y=> ?_) mset_len O1
   rw[lookup_mset]
   unfold fup
   by_cases hy:y=x
   ·rw[if_pos hy,if_pos hy,if_neg e0']
   ·rw[if_neg hy,if_neg hy]
    exact b' y
end
end
section
def wkI(x:Int):Int:=if(4:Int)<(if(1:Int)>x then(1:Int)else x)then(4:Int)else(if(1:Int)>x then(1:Int)else x)
theorem wkI_range(x:Int):1≤wkI x∧wkI x≤4:=by
 unfold wkI
 repeat' split
 all_goals omega
theorem rep_rowV(n:Nat)(v:Value):List.replicate n v=rowV n fun _=>v:=by
 unfold rowV
 rw[List.map_const']
 simp
theorem newK_map{h:Heap}{k:IntKind}{K:Nat→Heap→Prop}(hK: ∀h',MapM h' h.size k []→Only [] h h'→h'.size=h.size+1→K h.size h'):newK h (.map #[] 0) K:=
 hK _ (MapM.empty (by unfold mp;simp)) (Only.push_map h _ _) (by simp)
theorem new28{h:Heap}{x:Int}{K:Value→Heap→Prop}(hK: ∀h' r M S,Rf h.size h' r M S (wkI x).toNat 0 (fun _=>0) (fun _=>none) (fun _=>0) (fun _=> [])→Only [] h h'→K (.pointer (some ⟨r,0,none⟩)) h'):
  Cl 67 [.int .i64 x] h K:=by
 refine F67.spec _ h K ?_
 change newK h (.map #[] 0) fun b1 h2=>(0≤wkI x∧wkI x≤wkI x∧((Nat.cast 24:Int)*wkI x≤281474976710656)∧wkI x≤9223372036854775807∧newK h2 (.cells (madeCells #[(.slice none 0 0)] (Int.toNat (wkI x)*1)) 56) (fun b3 h4=>newK h4 (.cells #[(.map (some b1)),(.slice (some (Addr.mk b3 0 none)) (Int.toNat (wkI x)) (Int.toNat (wkI x)))] 207) (fun b5 h6=>K (.pointer (some (Addr.mk b5 0 none))) h6)))
 have hw:=wkI_range x
 generalize wkI x=y at hw hK ⊢
 refine newK_map (k:= .u32) fun h1 M1 O1 z1=>⟨by omega,by omega,by omega,by omega,?_⟩
 refine newK_at fun h2 A2 O2 z2=> ?_
 refine newK_at fun h3 A3 O3 z3=> ?_
 rw[toList_madeCells_one,rep_rowV,Nat.mul_one]at A2
 refine hK h3 _ h.size _ ⟨A3,A2.only O3 (by simp),⟨[],(M1.only O2 (by simp)).only O3 (by simp),fun x=>by simp[List.lookup],Nat.le_refl _⟩,fun x=>by omega,fun x h=>absurd rfl h,fun k hk=>Own.nil _ _ _,fun k hk=>Nat.le_refl _,⟨by omega,by omega,Nat.le_refl _⟩,by omega,fun k hk b hb=>by simp[OwnB]at hb⟩ ((O1.trans O2 (by simp)).trans O3 (by simp))
section
variable {lo:Nat}{h h':Heap}{r M S W N:Nat}{f:Int→Int}{p:Nat→Option Addr}{c:Nat→Nat}{L:Nat→List Int}{K:Value→Heap→Prop}
end
end
section
def RfB(h:Heap)(r N:Nat)(f:Int→Int)(B:List Nat):Prop:=
 ∃lo M S W p c,Rf lo h r M S W N f p c (fun _=> [])∧1≤W∧W≤4∧lo≤h.size∧B=r::M::S::(List.range W).flatMap fun k=>OwnB (p k)
section
variable {h h':Heap}{r N:Nat}{f:Int→Int}{B S:List Nat}{K:Value→Heap→Prop}
theorem RfB.only(H:RfB h r N f B)(O:Only S h h')(hS: ∀b∈S,b∉B):RfB h' r N f B:=by
 obtain⟨lo,M,T,W,p,c,H,w1,w4,hl,e⟩:=H
 subst e
 refine⟨lo,M,T,W,p,c,H.only O (fun hm=>hS _ hm (by simp)) (fun hm=>hS _ hm (by simp)) (fun hm=>hS _ hm (by simp)) (fun k hk b hb hm=>hS _ hm ?_),w1,w4,Nat.le_trans hl O.size,rfl⟩
 simp only[List.mem_cons,List.mem_flatMap,List.mem_range]
 exact .inr (.inr (.inr ⟨k,hk,hb⟩))
theorem RfB.only0(H:RfB h r N f B)(O:Only [] h h'):RfB h' r N f B:=H.only O (by simp)
theorem RfB.lt(H:RfB h r N f B): ∀b∈B,b<h.size:=fun b hb=>by
 obtain⟨lo,M,T,W,p,c,H,w1,w4,hl,e⟩:=H
 subst e
 obtain⟨h1,h2,h3,h4⟩:=H.lt
 simp only[List.mem_cons,List.mem_flatMap,List.mem_range]at hb
 rcases hb with e|e|e|⟨k,hk,hb⟩
 ·omega
 ·omega
 ·omega
 ·exact(h4 k hk b hb).2
theorem rf_new{x:Int}(hK: ∀h' r B,RfB h' r 0 (fun _=>0) B→(∀b∈B,h.size≤b)→Only [] h h'→K (ptrV r) h'):Cl 67 [.int .i64 x] h K:=by
 refine new28 fun h' r M T H O=> ?_
 have hw:=wkI_range x
 refine hK h' r _ ⟨h.size,M,T,(wkI x).toNat,_,_,H,by omega,by omega,O.size,rfl⟩ (fun b hb=> ?_) O
 have g:=H.ge
 simp[OwnB]at hb
 omega
theorem rf_prot(H:RfB h r N f B){x:Nat}(hx:x<4294967296)(hN:N≤LB)(hK: ∀h',RfB h' r (N+1) (fup f x (f x+1)) B→Only B h h'→K (.tuple #[]) h'):Cl 210 [ptrV r,.int .u32 (x:Int)] h K:=by
 obtain⟨lo,M,T,W,p,c,H,w1,w4,hl,e⟩:=H
 refine prot33 H (by omega) hN fun h' H' O=>hK h' ⟨lo,M,T,W,p,c,H',w1,w4,Nat.le_trans hl O.size,e⟩ (O.mono fun b hb _=> ?_)
 subst e
 simp at hb
 simp[hb]
def unpF(f:Int→Int)(x:Int):Int→Int:=if f x=0 then f else fup f x (f x-1)
theorem rf_unp(H:RfB h r N f B){x:Int}(hN:N≤LB)(hK: ∀h' n,RfB h' r (N+1) (unpF f x) B→Only B h h'→K (.int .i64 n) h'):Cl 209 [ptrV r,.int .u32 x] h K:=by
 obtain⟨lo,M,T,W,p,c,H,w1,w4,hl,e⟩:=H
 unfold unpF at hK
 refine unp36 H hN (fun e0=> ?_) fun e0 h' H' O=> ?_
 ·rw[if_pos e0]at hK
  exact hK h _ ⟨lo,M,T,W,p,c,H.grow (by omega),w1,w4,hl,e⟩ (Only.refl _ _)
 ·rw[if_neg e0]at hK
  refine hK h' _ ⟨lo,M,T,W,p,c,H',w1,w4,Nat.le_trans hl O.size,e⟩ (O.mono fun b hb _=> ?_)
  subst e
  simp at hb
  simp[hb]
end
def indR(E:Eng)(x k:Nat):Nat:=if(E.ses (k/6)).there (k%6)=true∧(E.ses (k/6)).hnd (k%6)=x then 1 else 0
def sumN(g:Nat→Nat):Nat→Nat
 |0=>0
 |n+1=>sumN g n+g n
theorem sumN_up{g g':Nat→Nat}{k:Nat}(h: ∀j,j≠k→g' j=g j): ∀n,k<n→sumN g' n+g k=sumN g n+g' k:=by
 have low: ∀n,n≤k→sumN g' n=sumN g n:=by
  intro n
  induction n with
  |zero=>intro _;rfl
  |succ n ih=>intro hn;unfold sumN;rw[ih (by omega),h n (by omega)]
 intro n
 induction n with
 |zero=>intro hk;omega
 |succ n ih=>
  intro hk
  unfold sumN
  by_cases e:n=k
  ·subst e;rw[low n (Nat.le_refl _)];omega
  ·have:=ih (by omega)
   rw[h n e]
   omega
theorem sumN_pos{g:Nat→Nat}{k:Nat}: ∀n,k<n→1≤g k→1≤sumN g n:=by
 intro n
 induction n with
 |zero=>intro hk;omega
 |succ n ih=>
  intro hk h1
  unfold sumN
  by_cases e:n=k
  ·subst e;omega
  ·have:=ih (by omega) h1;omega
def cntR(E:Eng)(x:Nat):Nat:=sumN (indR E x) 24
def CntOk(f:Int→Int)(E:Eng):Prop:= ∀x:Nat,f (x:Int)=(cntR E x:Int)
def clrS(x:Ses)(d:Nat):Ses:={x with there:=upN x.there d false,hnd:=upN x.hnd d 0}
def setS(x:Ses)(d v:Nat):Ses:={x with there:=upN x.there d true,hnd:=upN x.hnd d v}
theorem ind_put{E:Eng}{i d:Nat}{x:Ses}(hd:d<6)(hx: ∀q,q≠d→x.there q=(E.ses i).there q∧x.hnd q=(E.ses i).hnd q)(v:Nat): ∀j,j≠6*i+d→indR (E.put i x) v j=indR E v j:=fun j hj=>by
 unfold indR
 by_cases e:j/6=i
 ·have:=hx (j%6) (by omega)
  rw[e,put_ses,this.1,this.2]
 ·rw[show(E.put i x).ses (j/6)=E.ses (j/6)from upN_ne e]
theorem cnr_clr{f:Int→Int}{E:Eng}{i d:Nat}(C:CntOk f E)(hi:i<4)(hd:d<6):
  CntOk (if(E.ses i).there d=true then unpF f ((E.ses i).hnd d:Nat)else f) (E.put i (clrS (E.ses i) d)):=fun v=>by
 have up:=sumN_up (g:=indR E v) (g':=indR (E.put i (clrS (E.ses i) d)) v) (k:=6*i+d) (ind_put hd (fun q hq=>⟨upN_ne hq,upN_ne hq⟩) v) 24 (by omega)
 have e0:indR (E.put i (clrS (E.ses i) d)) v (6*i+d)=0:=by
  unfold indR
  rw[show(6*i+d)/6=i by omega,show(6*i+d)%6=d by omega,put_ses,if_neg]
  intro c
  rw[show(clrS (E.ses i) d).there d=false from upN_eq]at c
  cases c.1
 have e1:indR E v (6*i+d)=if(E.ses i).there d=true∧(E.ses i).hnd d=v then 1 else 0:=by
  unfold indR
  rw[show(6*i+d)/6=i by omega,show(6*i+d)%6=d by omega]
 rw[e0,e1]at up
 have Cv:=C v
 unfold cntR at Cv ⊢
 by_cases t:(E.ses i).there d=true
 ·rw[if_pos t]
  have Ch:=C ((E.ses i).hnd d)
  have pos:1≤cntR E ((E.ses i).hnd d):=by
   refine sumN_pos (k:=6*i+d) 24 (by omega) ?_
   unfold indR
   rw[show(6*i+d)/6=i by omega,show(6*i+d)%6=d by omega,if_pos ⟨t,rfl⟩]
   exact Nat.le_refl _
  unfold unpF
  rw[if_neg (by omega)]
  unfold fup
  by_cases q:(E.ses i).hnd d=v
  ·rw[if_pos (by omega),Ch,q]
   rw[if_pos ⟨t,q⟩]at up
   unfold cntR
   omega
  ·rw[if_neg (by omega),Cv]
   rw[if_neg (fun w=>q w.2)]at up
   omega
 ·rw[if_neg t,Cv]
  rw[if_neg (fun w=>t w.1)]at up
  omega
theorem cnr_set{f:Int→Int}{E:Eng}{i d v0:Nat}(C:CntOk f E)(hi:i<4)(hd:d<6)(ht:(E.ses i).there d=false):
  CntOk (fup f (v0:Int) (f (v0:Int)+1)) (E.put i (setS (E.ses i) d v0)):=fun v=>by
 have up:=sumN_up (g:=indR E v) (g':=indR (E.put i (setS (E.ses i) d v0)) v) (k:=6*i+d) (ind_put hd (fun q hq=>⟨upN_ne hq,upN_ne hq⟩) v) 24 (by omega)
 have e0:indR (E.put i (setS (E.ses i) d v0)) v (6*i+d)=if v0=v then 1 else 0:=by
  unfold indR
  rw[show(6*i+d)/6=i by omega,show(6*i+d)%6=d by omega,put_ses,show(setS (E.ses i) d v0).there d=true from upN_eq,show(setS (E.ses i) d v0).hnd d=v0 from upN_eq]
  simp
 have e1:indR E v (6*i+d)=0:=by
  unfold indR
  rw[show(6*i+d)/6=i by omega,show(6*i+d)%6=d by omega,ht]
  simp
 rw[e0,e1]at up
 have Cv:=C v
 have C0:=C v0
 unfold cntR at Cv ⊢
 unfold fup
 by_cases q:v0=v
 ·subst q
  rw[if_pos rfl,C0]
  rw[if_pos rfl]at up
  unfold cntR
  omega
 ·rw[if_neg (by omega),Cv]
  rw[if_neg q]at up
  omega
section
variable {h:Heap}{e N i:Nat}{E:Eng}{K:Value→Heap→Prop}{f:Int→Int}{B:List Nat}
def ansS(x:Ses)(er:Int)(n:Nat):Ses:={x with err:=er,num:=n,ansd:=true,pend:=false}
theorem answers168(I:EIs h e E)(hi:i<4){er:Int}{n:Nat}(ha:E.ans<1000000000)(hK: ∀h',EIs h' e {E.put i (ansS (E.ses i) er n)with ans:=E.ans+1}→Only [e] h h'→K (.tuple #[]) h'):
  Cl 168 [ptrV e,.pointer (some ⟨e,3+24*i,none⟩),.agg #[.int .i64 er,.int .u64 (n:Int)]] h K:=by
 refine F168.spec _ _ _ _ h K ?_
 refine newK_at fun h1 A1 O1 z1=> ?_
 simp only[add_mk,Nat.zero_add]
 have I1:=I.only0 O1
 refine ldI_of (n:=er) (by rw[At.rd A1];rfl) (ldI_of (n:=(n:Int)) (by rw[At.rd A1];rfl) ?_)
 obtain⟨x,ex⟩: ∃x,x=E.ses i:=⟨_,rfl⟩
 rw[←ex]at hK
 have p0:E=E.put i x:=by rw[ex,put_self]
 rw[p0]at I1
 have T: ∀{a b:Heap},Only [e] h1 a→Only [e] a b→Only [e] h1 b:=fun p q=>p.trans q fun b hb _=>hb
 refine EIs.setS (x:={x with err:=er}) I1 hi (j:=21) (by omega) (by omega) rfl (fun q hq=>by rw[put_ses];exact sC_err q hq) fun h2 I2 O2 _=> ?_
 rw[put_put]at I2
 refine EIs.setS (x:={x with err:=er,num:=n}) I2 hi (j:=22) (by omega) (by omega) rfl (fun q hq=>by rw[put_ses];exact sC_num (x:={x with err:=er}) q hq) fun h3 I3 O3 _=> ?_
 rw[put_put]at I3
 refine EIs.setS (x:={x with err:=er,num:=n,ansd:=true}) I3 hi (j:=23) (by omega) (by omega) rfl (fun q hq=>by rw[put_ses];exact sC_ansd (x:={x with err:=er,num:=n}) q hq) fun h4 I4 O4 _=> ?_
 rw[put_put]at I4
 refine EIs.setS (x:={x with err:=er,num:=n,ansd:=true,pend:=false}) I4 hi (j:=19) (by omega) (by omega) rfl (fun q hq=>by rw[put_ses];exact sC_pend (x:={x with err:=er,num:=n,ansd:=true}) q hq) fun h5 I5 O5 _=> ?_
 rw[put_put]at I5
 refine ldI_of I5.ans ?_
 rw[show IntKind.wrap .i64 (((E.put i {x with err:=er,num:=n,ansd:=true,pend:=false}).ans:Int)+1)=((E.ans+1:Nat):Int) by
  rw[show(E.put i {x with err:=er,num:=n,ansd:=true,pend:=false}).ans=E.ans from rfl,wrap_i64 (by omega) (by omega)];omega]
 refine EIs.setA I5 fun h6 I6 O6 _=> ?_
 exact hK h6 I6 (((O1.mono (by simp)).trans (T (T (T O2 O3) O4) O5) fun b hb _=>hb).trans O6 fun b hb _=>hb)
theorem clears166(I:EIs h e E)(R:RfB h E.r N f B)(hD:e∉B)(hi:i<4){d:Nat}(hd:d<6)(ed:(E.ses i).cal.dst=(d:Int))(hN:N≤LB)
  (hK: ∀h',EIs h' e (E.put i (clrS (E.ses i) d))→RfB h' E.r (N+1) (if(E.ses i).there d=true then unpF f ((E.ses i).hnd d:Nat)else f) B→Only (e::B) h h'→K (.tuple #[]) h'):
  Cl 166 [ptrV e,.pointer (some ⟨e,3+24*i,none⟩)] h K:=by
 refine F166.spec _ _ h K ?_
 simp only[add_mk,Nat.zero_add]
 have dd:Int.toNat (d:Int)=d:=Int.toNat_natCast d
 have rd0: ∀{hh:Heap} {E':Eng},EIs hh e E'→(E'.ses i).cal.dst=(d:Int)→rd hh ⟨e,3+24*i+12+2,none⟩=some (.int .i64 (d:Int)):=fun {hh E'} II e'=>by rw[II.dst hi (by omega),e']
 refine ldI_of (rd0 I ed) ⟨by omega,by omega,?_⟩
 rw[dd]
 refine ldB_of (I.thr hi hd (by omega)) (ldI_of (I.hnd hi hd (by omega)) (newK_at fun h1 A1 O1 z1=> ?_))
 have I1:=I.only0 O1
 refine⟨trivial,trivial,trivial,trivial,trivial,ldI_of (rd0 I1 ed) ⟨rfl,trivial,trivial,by omega,by omega,trivial,?_⟩⟩
 refine ldB_of (I1.thr hi hd (by omega)) (ldI_of (I1.hnd hi hd (by omega)) ⟨rfl,?_⟩)
 refine stK_at A1 (by simp) rfl fun h2 A2 O2 z2=>stK_at A2 (by simp) rfl fun h3 A3 O3 z3=> ?_
 have he:=At.lt I
 have O03:Only [] h h3:=(O1.trans O2 (by intro x hx hl;simp at hx;omega)).trans O3 (by intro x hx hl;simp at hx;omega)
 have I3:=I.only0 O03
 have R3:=R.only0 O03
 have fin: ∀{hh:Heap} {f':Int→Int},EIs hh e E→RfB hh E.r (N+1) f' B→f'=(if(E.ses i).there d=true then unpF f ((E.ses i).hnd d:Nat)else f)→Only (e::B) h hh→F166.wk3 ⟨e,3+24*i,none⟩ hh K:=fun {hh f'} II RR ef OO=>by
  unfold F166.wk3
  simp only[add_mk,Nat.zero_add]
  refine ldI_of (rd0 II ed) ⟨by omega,by omega,?_⟩
  rw[dd]
  obtain⟨x,ex⟩: ∃x,x=E.ses i:=⟨_,rfl⟩
  rw[←ex]at hK ef
  have p0:E=E.put i x:=by rw[ex,put_self]
  rw[p0]at II
  refine EIs.setS (x:={x with there:=upN x.there d false}) II hi (j:=2*d) (by omega) (by omega) rfl (fun q hq=>by rw[put_ses];exact sC_sett hd q hq) fun h4 I4 O4 _=> ?_
  rw[put_put]at I4
  refine EIs.setS (x:=clrS x d) I4 hi (j:=2*d+1) (by omega) (by omega) rfl (fun q hq=>by rw[put_ses];exact sC_seth (x:={x with there:=upN x.there d false}) (n:=0) hd q hq) fun h5 I5 O5 _=> ?_
  rw[put_put]at I5
  have O45:Only [e] hh h5:=O4.trans O5 fun b hb _=>hb
  subst ef
  exact hK h5 I5 (RR.only O45 fun b hb=>by simp at hb;subst hb;exact hD) (OO.trans O45 fun b hb _=>by simp at hb;simp[hb])
 refine ldB_of (n:=(E.ses i).there d) (by rw[At.rd A3];rfl) (bcase_of (fun t=> ?_) fun t=> ?_)
 ·refine ldP_of I3.r (ldI_of (n:=((E.ses i).hnd d:Int)) (by rw[At.rd A3];rfl) ?_)
  refine rf_unp R3 hN fun h4 n R4 O4=>ldI_of rfl ?_
  exact fin (I3.only O4 hD) R4 (by rw[if_pos t]) ((O03.mono (by simp)).trans O4 fun b hb _=>by simp[hb])
 ·have R3':RfB h3 E.r (N+1) f B:=by
   obtain⟨lo,M,T,W,p,c,H,w1,w4,hl,e⟩:=R3
   exact⟨lo,M,T,W,p,c,H.grow (by omega),w1,w4,hl,e⟩
  exact fin I3 R3' (by rw[if_neg (by rw[t];simp)]) (O03.mono (by simp))
theorem sets167(I:EIs h e E)(R:RfB h E.r N f B)(C:CntOk f E)(hD:e∉B)(hi:i<4){d v:Nat}(hd:d<6)(ed:(E.ses i).cal.dst=(d:Int))(hv:v<4294967296)(hN:N+1≤LB)
  (hK: ∀h' f',EIs h' e (E.put i (setS (E.ses i) d v))→RfB h' E.r (N+2) f' B→CntOk f' (E.put i (setS (E.ses i) d v))→Only (e::B) h h'→K (.tuple #[]) h'):
  Cl 167 [ptrV e,.pointer (some ⟨e,3+24*i,none⟩),.int .u32 (v:Int)] h K:=by
 refine F167.spec _ _ _ h K ?_
 simp only[add_mk,Nat.zero_add]
 refine clears166 I R hD hi hd ed (by omega) fun h1 I1 R1 O1=>⟨rfl,?_⟩
 have C1:=cnr_clr C hi hd
 have dd:Int.toNat (d:Int)=d:=Int.toNat_natCast d
 refine ldI_of (n:=(d:Int)) (by rw[I1.dst hi (by omega),put_ses];exact congrArg (fun z=>some (Value.int .i64 z)) ed) ⟨by omega,by omega,?_⟩
 rw[dd]
 obtain⟨x,ex⟩: ∃x,x=clrS (E.ses i) d:=⟨_,rfl⟩
 rw[←ex]at I1 C1
 refine EIs.setS (x:={x with there:=upN x.there d true}) I1 hi (j:=2*d) (by omega) (by omega) rfl (fun q hq=>by rw[put_ses];exact sC_sett hd q hq) fun h4 I4 O4 _=> ?_
 rw[put_put]at I4
 refine EIs.setS (x:=setS x d v) I4 hi (j:=2*d+1) (by omega) (by omega) rfl (fun q hq=>by rw[put_ses];exact sC_seth (x:={x with there:=upN x.there d true}) (n:=v) hd q hq) fun h5 I5 O5 _=> ?_
 rw[put_put]at I5
 have O45:Only [e] h1 h5:=O4.trans O5 fun b hb _=>hb
 have R5:=R1.only O45 fun b hb=>by simp at hb;subst hb;exact hD
 refine ldP_of I5.r ?_
 refine rf_prot R5 hv (by omega) fun h6 R6 O6=>⟨rfl,?_⟩
 have ht:((E.put i x).ses i).there d=false:=by rw[put_ses,ex];exact upN_eq
 have C2:=cnr_set (v0:=v) C1 hi hd ht
 rw[put_ses,put_put]at C2
 have exs:setS x d v=setS (E.ses i) d v:=by rw[ex];unfold setS clrS;rw[upN_upN,upN_upN]
 rw[exs]at C2 I5
 exact hK h6 _ (I5.only O6 hD) R6 C2 ((O1.trans O45 fun b hb _=>by simp at hb;simp[hb]).trans O6 fun b hb _=>by simp[hb])
end
end
section
def sL(S:Ses):List Value:=[sC S 0,sC S 1,sC S 2,sC S 3,sC S 4,sC S 5,sC S 6,sC S 7,sC S 8,sC S 9,sC S 10,sC S 11,sC S 12,sC S 13,sC S 14,sC S 15,sC S 16,sC S 17,sC S 18,sC S 19,sC S 20,sC S 21,sC S 22,sC S 23]
theorem copy24{h:Heap}{v:List Value}{x:Int}{S:Ses}{G:Nat→Heap→Prop}(r: ∀j,j<24→v[Int.toNat x*24+j]? =some (sC S j))(hG: ∀h',At h' h.size (sL S)→Only [] h h'→G h.size h'):
  ldB (v[Int.toNat x*24+0]?) (fun b1=>ldI .u32 (v[Int.toNat x*24+1]?) (fun n2=>ldB (v[Int.toNat x*24+2]?) (fun b3=>ldI .u32 (v[Int.toNat x*24+3]?) (fun n4=>ldB (v[Int.toNat x*24+4]?) (fun b5=>ldI .u32 (v[Int.toNat x*24+5]?) (fun n6=>ldB (v[Int.toNat x*24+6]?) (fun b7=>ldI .u32 (v[Int.toNat x*24+7]?) (fun n8=>ldB (v[Int.toNat x*24+8]?) (fun b9=>ldI .u32 (v[Int.toNat x*24+9]?) (fun n10=>ldB (v[Int.toNat x*24+10]?) (fun b11=>ldI .u32 (v[Int.toNat x*24+11]?) (fun n12=>ldI .i64 (v[Int.toNat x*24+12]?) (fun n13=>ldI .i64 (v[Int.toNat x*24+13]?) (fun n14=>ldI .i64 (v[Int.toNat x*24+14]?) (fun n15=>ldI .i64 (v[Int.toNat x*24+15]?) (fun n16=>ldI .i64 (v[Int.toNat x*24+16]?) (fun n17=>ldI .i64 (v[Int.toNat x*24+17]?) (fun n18=>ldI .u8 (v[Int.toNat x*24+18]?) (fun n19=>ldB (v[Int.toNat x*24+19]?) (fun b20=>ldI .i64 (v[Int.toNat x*24+20]?) (fun n21=>ldI .i64 (v[Int.toNat x*24+21]?) (fun n22=>ldI .u64 (v[Int.toNat x*24+22]?) (fun n23=>ldB (v[Int.toNat x*24+23]?) (fun b24=>newK h (.cells #[(.bool false),(.int .u32 (0:Int)),(.bool false),(.int .u32 (0:Int)),(.bool false),(.int .u32 (0:Int)),(.bool false),(.int .u32 (0:Int)),(.bool false),(.int .u32 (0:Int)),(.bool false),(.int .u32 (0:Int)),(.int .i64 (0:Int)),(.int .i64 (0:Int)),(.int .i64 (0:Int)),(.int .i64 (0:Int)),(.int .i64 (0:Int)),(.int .i64 (0:Int)),(.int .u8 (0:Int)),(.bool false),(.int .i64 (0:Int)),(.int .i64 (0:Int)),(.int .u64 (0:Int)),(.bool false)] 129) (fun b25 h26=>stK h26 (Addr.add (Addr.mk b25 0 none) 0) (.bool b1) (fun h27=>stK h27 (Addr.add (Addr.mk b25 0 none) 1) (.int .u32 n2) (fun h28=>stK h28 (Addr.add (Addr.mk b25 0 none) 2) (.bool b3) (fun h29=>stK h29 (Addr.add (Addr.mk b25 0 none) 3) (.int .u32 n4) (fun h30=>stK h30 (Addr.add (Addr.mk b25 0 none) 4) (.bool b5) (fun h31=>stK h31 (Addr.add (Addr.mk b25 0 none) 5) (.int .u32 n6) (fun h32=>stK h32 (Addr.add (Addr.mk b25 0 none) 6) (.bool b7) (fun h33=>stK h33 (Addr.add (Addr.mk b25 0 none) 7) (.int .u32 n8) (fun h34=>stK h34 (Addr.add (Addr.mk b25 0 none) 8) (.bool b9) (fun h35=>stK h35 (Addr.add (Addr.mk b25 0 none) 9) (.int .u32 n10) (fun h36=>stK h36 (Addr.add (Addr.mk b25 0 none) 10) (.bool b11) (fun h37=>stK h37 (Addr.add (Addr.mk b25 0 none) 11) (.int .u32 n12) (fun h38=>stK h38 (Addr.add (Addr.mk b25 0 none) 12) (.int .i64 n13) (fun h39=>stK h39 (Addr.add (Addr.mk b25 0 none) 13) (.int .i64 n14) (fun h40=>stK h40 (Addr.add (Addr.mk b25 0 none) 14) (.int .i64 n15) (fun h41=>stK h41 (Addr.add (Addr.mk b25 0 none) 15) (.int .i64 n16) (fun h42=>stK h42 (Addr.add (Addr.mk b25 0 none) 16) (.int .i64 n17) (fun h43=>stK h43 (Addr.add (Addr.mk b25 0 none) 17) (.int .i64 n18) (fun h44=>stK h44 (Addr.add (Addr.mk b25 0 none) 18) (.int .u8 n19) (fun h45=>stK h45 (Addr.add (Addr.mk b25 0 none) 19) (.bool b20) (fun h46=>stK h46 (Addr.add (Addr.mk b25 0 none) 20) (.int .i64 n21) (fun h47=>stK h47 (Addr.add (Addr.mk b25 0 none) 21) (.int .i64 n22) (fun h48=>stK h48 (Addr.add (Addr.mk b25 0 none) 22) (.int .u64 n23) (fun h49=>stK h49 (Addr.add (Addr.mk b25 0 none) 23) (.bool b24) (fun h50=>G b25 h50))))))))))))))))))))))))))))))))))))))))))))))))):=by
 refine ldB_of (r 0 (by omega)) ?_
 refine ldI_of (r 1 (by omega)) ?_
 refine ldB_of (r 2 (by omega)) ?_
 refine ldI_of (r 3 (by omega)) ?_
 refine ldB_of (r 4 (by omega)) ?_
 refine ldI_of (r 5 (by omega)) ?_
 refine ldB_of (r 6 (by omega)) ?_
 refine ldI_of (r 7 (by omega)) ?_
 refine ldB_of (r 8 (by omega)) ?_
 refine ldI_of (r 9 (by omega)) ?_
 refine ldB_of (r 10 (by omega)) ?_
 refine ldI_of (r 11 (by omega)) ?_
 refine ldI_of (r 12 (by omega)) ?_
 refine ldI_of (r 13 (by omega)) ?_
 refine ldI_of (r 14 (by omega)) ?_
 refine ldI_of (r 15 (by omega)) ?_
 refine ldI_of (r 16 (by omega)) ?_
 refine ldI_of (r 17 (by omega)) ?_
 refine ldI_of (r 18 (by omega)) ?_
 refine ldB_of (r 19 (by omega)) ?_
 refine ldI_of (r 20 (by omega)) ?_
 refine ldI_of (r 21 (by omega)) ?_
 refine ldI_of (r 22 (by omega)) ?_
 refine ldB_of (r 23 (by omega)) ?_
 refine newK_at fun h1 A1 O1 z1=> ?_
 show stL ⟨h.size,0,none⟩ 0 (sL S) h1 fun h'=>G h.size h'
 refine stL_own (o:=0) (sL S) 0 _ h1 A1 (by simp[sL]) (fun w hw=> ?_) fun h2 A2 O2 z2=>hG h2 ?_ (O1.trans O2 (by intro y hy hl;simp at hy;omega))
 ·simp only[sL,List.mem_cons,List.not_mem_nil,or_false]at hw
  rcases hw with e|e|e|e|e|e|e|e|e|e|e|e|e|e|e|e|e|e|e|e|e|e|e|e<;>subst e<;>exact sC_one _
 ·simpa[sL]using A2
section
variable {h:Heap}{e:Nat}{E:Eng}{K:Value→Heap→Prop}
theorem big(I:EIs h e E){Q:List Value→Prop}(hQ: ∀v,(∀(k j:Nat),k<4→j<24→v[Int.toNat (k:Int)*24+j]? =some (sC (E.ses k) j))→Q v):ldG h (Addr.add ⟨e,0,none⟩ 3) 96 Q:=by
 refine⟨rowV 96 fun q=>eC E (3+q),rowV_len _ _,fun j v hj=> ?_,hQ _ fun k j hk hj=> ?_⟩
 ·have hl:j<96:=by have:=(List.getElem?_eq_some_iff.1 hj).1;rwa[rowV_len]at this
  rw[rowV_get hl]at hj
  injection hj with hj
  subst hj
  rw[add_mk,add_mk,Nat.zero_add]
  exact I.rd (by omega)
 ·rw[rowV_get (by omega),show 3+(Int.toNat (k:Int)*24+j)=3+24*k+j by omega,eC_ses hk hj]
def anyP(E:Eng):Prop:= ∃k,k<4∧(E.ses k).pend=true
def anyJ(E:Eng):Prop:= ∃k,k<4∧(E.ses k).pend=true∧0<(E.ses k).job
theorem wr_s{k:Nat}(hk:k<4):IntKind.wrap .i64 ((k:Int)+1)=((k+1:Nat):Int):=by rw[wrap_i64 (by omega) (by omega)];omega
theorem pending78(I:EIs h e E)(hT:anyP E→ ∀h',Only [] h h'→K (.bool true) h')(hF: ¬anyP E→ ∀h',Only [] h h'→K (.bool false) h'):Cl 78 [ptrV e] h K:=by
 refine F78.spec _ h K ?_
 refine big I fun v r=> ?_
 have main: ∀(d k:Nat) (hh:Heap),d+k=4→(∀j,j<k→(E.ses j).pend=false)→Only [] h hh→F78.wL2 (d+1) v (k:Int) hh K:=by
  intro d
  induction d with
  |zero=>
   intro k hh hk hb O
   rw[F78.sL2]
   rw[decide_eq_false (by omega),bcase_false]
   refine hF (fun⟨j,hj,hp⟩=> ?_) hh O
   rw[hb j (by omega)]at hp
   cases hp
  |succ d ih=>
   intro k hh hk hb O
   rw[F78.sL2]
   rw[decide_eq_true (by omega),bcase_true]
   refine⟨by omega,by omega,copy24 (S:=E.ses k) (fun j hj=>r k j (by omega) hj) fun h2 A2 O2=> ?_⟩
   refine ldB_of (n:=(E.ses k).pend) (by rw[add_mk,At.rd A2];rfl) (bcase_of (fun p=> ?_) fun p=> ?_)
   ·exact hT ⟨k,by omega,p⟩ h2 (O.trans O2 (by simp))
   ·rw[wr_s (by omega)]
    refine ih (k+1) h2 (by omega) (fun j hj=> ?_) (O.trans O2 (by simp))
    by_cases q:j=k
    ·rw[q];exact p
    ·exact hb j (by omega)
 exact⟨_,main 4 0 h (by omega) (fun j hj=>by omega) (Only.refl _ _)⟩
theorem working170(I:EIs h e E)(hT:anyJ E→ ∀h',Only [] h h'→K (.bool true) h')(hF: ¬anyJ E→ ∀h',Only [] h h'→K (.bool false) h'):Cl 170 [ptrV e] h K:=by
 refine F170.spec _ h K ?_
 refine big I fun v r=> ?_
 have main: ∀(d k:Nat) (hh:Heap),d+k=4→(∀j,j<k→ ¬((E.ses j).pend=true∧0<(E.ses j).job))→Only [] h hh→F170.wL2 (d+1) v (k:Int) hh K:=by
  intro d
  induction d with
  |zero=>
   intro k hh hk hb O
   rw[F170.sL2]
   rw[decide_eq_false (by omega),bcase_false]
   exact hF (fun⟨j,hj,hp⟩=>hb j (by omega) hp) hh O
  |succ d ih=>
   intro k hh hk hb O
   rw[F170.sL2]
   rw[decide_eq_true (by omega),bcase_true]
   refine⟨by omega,by omega,copy24 (S:=E.ses k) (fun j hj=>r k j (by omega) hj) fun h2 A2 O2=> ?_⟩
   have on: ¬((E.ses k).pend=true∧0<(E.ses k).job)→F170.wL2 (d+1) v (IntKind.wrap .i64 ((k:Int)+1)) h2 K:=fun g=>by
    rw[wr_s (by omega)]
    refine ih (k+1) h2 (by omega) (fun j hj=> ?_) (O.trans O2 (by simp))
    by_cases q:j=k
    ·rw[q];exact g
    ·exact hb j (by omega)
   refine ldB_of (n:=(E.ses k).pend) (by rw[add_mk,At.rd A2];rfl) (bcase_of (fun p=> ?_) fun p=> ?_)
   ·refine ldI_of (n:=((E.ses k).job:Int)) (by rw[add_mk,At.rd A2];rfl) (bcase_of (fun q=> ?_) fun q=> ?_)
    ·have q:(0:Int)<((E.ses k).job:Int):=of_decide_eq_true q
     exact hT ⟨k,by omega,p,by omega⟩ h2 (O.trans O2 (by simp))
    ·have q: ¬(0:Int)<((E.ses k).job:Int):=of_decide_eq_false q
     exact on fun w=>q (by omega)
   ·exact on fun w=>by rw[p]at w;cases w.1
 exact⟨_,main 4 0 h (by omega) (fun j hj=>by omega) (Only.refl _ _)⟩
def eng0(s p r:Nat):Eng:=⟨s,p,r,fun _=>⟨fun _=>false,fun _=>0,⟨0,0,0,0,0,0,0⟩,false,0,0,0,false⟩,0⟩
theorem cnr_0(s p r:Nat):CntOk (fun _=>0) (eng0 s p r):=fun x=>by
 have: ∀n,sumN (indR (eng0 s p r) x) n=0:=by
  intro n
  induction n with
  |zero=>rfl
  |succ n ih=>unfold sumN;rw[ih];unfold indR eng0;simp
 unfold cntR
 rw[this]
 rfl
end
end
section
theorem F70.spec(a:Addr)(h:Heap)(K:KK)(H:ldI .i64 (rd h (a.add 0)) fun n1=>K (.int .i64 n1) h):Cl 70 [.pointer (some a)] h K:=cN Tryz.func70 H
theorem F186.spec(b:Addr)(a:Int)(h:Heap)(K:KK)(H:bcase (decide (a<(0:Int))) (K (.int .i64 (-1)) h) (ldI .i64 (rd h (b.add 0)) fun n1=>bcase (decide (a≥n1)) (K (.int .i64 (-1)) h) ((0≤a∧a<(Nat.cast 8:Int)∧ldI .i64 (rd h ((b.add 9).add (Int.toNat a*1))) fun n2=>K (.int .i64 n2) h)))):Cl 186 [.pointer (some b),.int .i64 a] h K:=cN Tryz.func186 H
theorem F208.spec(a:Addr)(b:Int)(h:Heap)(K:KK)(H:Cl 47 [.pointer (some a)] h fun v1 h2=>ldP (some v1) fun p3=>Cl 186 [.pointer p3,.int .i64 b] h2 fun v4 h5=>ldI .i64 (some v4) fun n6=>Cl 161 [.pointer (some a),.int .i64 n6,.int .u32 0,.int .u32 1] h5 fun v7 h8=> ∃n9:Int,∃n10:Int,v7=(.tuple #[.int .u32 n9,.int .i64 n10])∧K (.tuple #[.int .u32 n9,.int .i64 n10]) h8):Cl 208 [.pointer (some a),.int .i64 b] h K:=cN Tryz.func208 H
end
section
def F83.T:Hint:=⟨[],[(10,[[(0,[]),(1,[]),(2,[]),(3,[]),(4,[]),(5,[]),(7,[]),(6,[7]),(8,[]),(9,[]),(10,[]),(11,[]),(12,[]),(13,[]),(15,[]),(16,[]),(14,[15,16]),(17,[]),(18,[]),(19,[]),(20,[18,19]),(21,[])]])]⟩
theorem F83.spec(a:Addr)(b:Int)(d:Option Addr)(c f:Nat)(g:Int)(h:Heap)(K:KK)(H:newK h (.cells #[.int .u64 0,.int .u64 0,.int .u64 0,.int .u64 0] 51) fun b1 h2=>bcase (b==(0:Int)) (stK h2 ((Addr.mk b1 0 none).add 0) (.int .u64 0) fun h3=>stK h3 ((Addr.mk b1 0 none).add 1) (.int .u64 0) fun h4=>stK h4 ((Addr.mk b1 0 none).add 2) (.int .u64 0) fun h5=>stK h5 ((Addr.mk b1 0 none).add 3) (.int .u64 0) fun h6=>ldI .u64 (rd h6 ((Addr.mk b1 0 none).add 0)) fun n7=>ldI .u64 (rd h6 ((Addr.mk b1 0 none).add 1)) fun n8=>ldI .u64 (rd h6 ((Addr.mk b1 0 none).add 2)) fun n9=>ldI .u64 (rd h6 ((Addr.mk b1 0 none).add 3)) fun n10=>K (.tuple #[.agg #[.int .u64 n7,.int .u64 n8,.int .u64 n9,.int .u64 n10],.bool true]) h6) (bcase (b==(1:Int)) (Cl 86 [.agg #[.int .u64 0,.int .u64 0,.int .u64 0,.int .u64 0]] h2 fun v11 h12=> ∃n13:Int,∃n14:Int,∃n15:Int,∃n16:Int,v11=(.agg #[.int .u64 n13,.int .u64 n14,.int .u64 n15,.int .u64 n16])∧stK h12 ((Addr.mk b1 0 none).add 0) (.int .u64 n13) fun h17=>stK h17 ((Addr.mk b1 0 none).add 1) (.int .u64 n14) fun h18=>stK h18 ((Addr.mk b1 0 none).add 2) (.int .u64 n15) fun h19=>stK h19 ((Addr.mk b1 0 none).add 3) (.int .u64 n16) fun h20=>ldI .u64 (rd h20 ((Addr.mk b1 0 none).add 0)) fun n21=>ldI .u64 (rd h20 ((Addr.mk b1 0 none).add 1)) fun n22=>ldI .u64 (rd h20 ((Addr.mk b1 0 none).add 2)) fun n23=>ldI .u64 (rd h20 ((Addr.mk b1 0 none).add 3)) fun n24=>K (.tuple #[.agg #[.int .u64 n21,.int .u64 n22,.int .u64 n23,.int .u64 n24],.bool true]) h20) (Cl 71 [.pointer (some a),.int .u32 b] h2 fun v25 h26=>ldI .i64 (some v25) fun n27=>Cl 74 [.pointer (some a),.int .u32 b] h26 fun v28 h29=>ldB (some v28) fun b30=>bcase (!b30) (stK h29 ((Addr.mk b1 0 none).add 0) (.int .u64 0) fun h31=>stK h31 ((Addr.mk b1 0 none).add 1) (.int .u64 0) fun h32=>stK h32 ((Addr.mk b1 0 none).add 2) (.int .u64 0) fun h33=>stK h33 ((Addr.mk b1 0 none).add 3) (.int .u64 0) fun h34=>ldI .u64 (rd h34 ((Addr.mk b1 0 none).add 0)) fun n35=>ldI .u64 (rd h34 ((Addr.mk b1 0 none).add 1)) fun n36=>ldI .u64 (rd h34 ((Addr.mk b1 0 none).add 2)) fun n37=>ldI .u64 (rd h34 ((Addr.mk b1 0 none).add 3)) fun n38=>K (.tuple #[.agg #[.int .u64 n35,.int .u64 n36,.int .u64 n37,.int .u64 n38],.bool false]) h34) (bcase (decide (n27<g)) (stK h29 ((Addr.mk b1 0 none).add 0) (.int .u64 0) fun h39=>stK h39 ((Addr.mk b1 0 none).add 1) (.int .u64 0) fun h40=>stK h40 ((Addr.mk b1 0 none).add 2) (.int .u64 0) fun h41=>stK h41 ((Addr.mk b1 0 none).add 3) (.int .u64 0) fun h42=>ldI .u64 (rd h42 ((Addr.mk b1 0 none).add 0)) fun n43=>ldI .u64 (rd h42 ((Addr.mk b1 0 none).add 1)) fun n44=>ldI .u64 (rd h42 ((Addr.mk b1 0 none).add 2)) fun n45=>ldI .u64 (rd h42 ((Addr.mk b1 0 none).add 3)) fun n46=>K (.tuple #[.agg #[.int .u64 n43,.int .u64 n44,.int .u64 n45,.int .u64 n46],.bool false]) h42) (bcase (decide (n27≥(Nat.cast c:Int))) (stK h29 ((Addr.mk b1 0 none).add 0) (.int .u64 0) fun h47=>stK h47 ((Addr.mk b1 0 none).add 1) (.int .u64 0) fun h48=>stK h48 ((Addr.mk b1 0 none).add 2) (.int .u64 0) fun h49=>stK h49 ((Addr.mk b1 0 none).add 3) (.int .u64 0) fun h50=>ldI .u64 (rd h50 ((Addr.mk b1 0 none).add 0)) fun n51=>ldI .u64 (rd h50 ((Addr.mk b1 0 none).add 1)) fun n52=>ldI .u64 (rd h50 ((Addr.mk b1 0 none).add 2)) fun n53=>ldI .u64 (rd h50 ((Addr.mk b1 0 none).add 3)) fun n54=>K (.tuple #[.agg #[.int .u64 n51,.int .u64 n52,.int .u64 n53,.int .u64 n54],.bool false]) h50) (Cl 72 [.pointer (some a),.int .u32 b] h29 fun v55 h56=>ldI .u32 (some v55) fun n57=>Cl 83 [.pointer (some a),.int .u32 n57,.slice d c f,.int .i64 (IntKind.wrap .i64 (n27+(1:Int)))] h56 fun v58 h59=> ∃n60:Int,∃n61:Int,∃n62:Int,∃n63:Int,∃b64:Bool,v58=(.tuple #[.agg #[.int .u64 n60,.int .u64 n61,.int .u64 n62,.int .u64 n63],.bool b64])∧newK h59 (.cells #[.int .u64 0,.int .u64 0,.int .u64 0,.int .u64 0] 51) fun b65 h66=>stK h66 ((Addr.mk b65 0 none).add 0) (.int .u64 n60) fun h67=>stK h67 ((Addr.mk b65 0 none).add 1) (.int .u64 n61) fun h68=>stK h68 ((Addr.mk b65 0 none).add 2) (.int .u64 n62) fun h69=>stK h69 ((Addr.mk b65 0 none).add 3) (.int .u64 n63) fun h70=>Cl 73 [.pointer (some a),.int .u32 b] h70 fun v71 h72=>ldI .u32 (some v71) fun n73=>Cl 83 [.pointer (some a),.int .u32 n73,.slice d c f,.int .i64 (IntKind.wrap .i64 (n27+(1:Int)))] h72 fun v74 h75=> ∃n76:Int,∃n77:Int,∃n78:Int,∃n79:Int,∃b80:Bool,v74=(.tuple #[.agg #[.int .u64 n76,.int .u64 n77,.int .u64 n78,.int .u64 n79],.bool b80])∧newK h75 (.cells #[.int .u64 0,.int .u64 0,.int .u64 0,.int .u64 0] 51) fun b81 h82=>stK h82 ((Addr.mk b81 0 none).add 0) (.int .u64 n76) fun h83=>stK h83 ((Addr.mk b81 0 none).add 1) (.int .u64 n77) fun h84=>stK h84 ((Addr.mk b81 0 none).add 2) (.int .u64 n78) fun h85=>stK h85 ((Addr.mk b81 0 none).add 3) (.int .u64 n79) fun h86=>ptrK d fun a87=>0≤n27∧n27<(Nat.cast c:Int)∧ldI .u64 (rd h86 ((a87.add (Int.toNat n27*4)).add 0)) fun n88=>ldI .u64 (rd h86 ((a87.add (Int.toNat n27*4)).add 1)) fun n89=>ldI .u64 (rd h86 ((a87.add (Int.toNat n27*4)).add 2)) fun n90=>ldI .u64 (rd h86 ((a87.add (Int.toNat n27*4)).add 3)) fun n91=>ldI .u64 (rd h86 ((Addr.mk b81 0 none).add 0)) fun n92=>ldI .u64 (rd h86 ((Addr.mk b81 0 none).add 1)) fun n93=>ldI .u64 (rd h86 ((Addr.mk b81 0 none).add 2)) fun n94=>ldI .u64 (rd h86 ((Addr.mk b81 0 none).add 3)) fun n95=>ldI .u64 (rd h86 ((Addr.mk b65 0 none).add 0)) fun n96=>ldI .u64 (rd h86 ((Addr.mk b65 0 none).add 1)) fun n97=>ldI .u64 (rd h86 ((Addr.mk b65 0 none).add 2)) fun n98=>ldI .u64 (rd h86 ((Addr.mk b65 0 none).add 3)) fun n99=>Cl 131 [.agg #[.int .u64 n88,.int .u64 n89,.int .u64 n90,.int .u64 n91],.agg #[.int .u64 n92,.int .u64 n93,.int .u64 n94,.int .u64 n95],.agg #[.int .u64 n96,.int .u64 n97,.int .u64 n98,.int .u64 n99]] h86 fun v100 h101=> ∃n102:Int,∃n103:Int,∃n104:Int,∃n105:Int,v100=(.agg #[.int .u64 n102,.int .u64 n103,.int .u64 n104,.int .u64 n105])∧((.bool b64)=((.bool b64):Value)∧bcase b64 (bcase b80 (Cl 72 [.pointer (some a),.int .u32 b] h101 fun v106 h107=>ldI .u32 (some v106) fun n108=>((.pointer (some a))=((.pointer (some a)):Value)∧((.int .u32 b)=((.int .u32 b):Value)∧Cl 73 [.pointer (some a),.int .u32 b] h107 fun v109 h110=>ldI .u32 (some v109) fun n111=>stK h110 ((Addr.mk b1 0 none).add 0) (.int .u64 n102) fun h112=>stK h112 ((Addr.mk b1 0 none).add 1) (.int .u64 n103) fun h113=>stK h113 ((Addr.mk b1 0 none).add 2) (.int .u64 n104) fun h114=>stK h114 ((Addr.mk b1 0 none).add 3) (.int .u64 n105) fun h115=>((.bool (n108 !=n111))=((.bool (n108 !=n111)):Value)∧((.bool (n108 !=n111))=((.bool (n108 !=n111)):Value)∧ldI .u64 (rd h115 ((Addr.mk b1 0 none).add 0)) fun n116=>ldI .u64 (rd h115 ((Addr.mk b1 0 none).add 1)) fun n117=>ldI .u64 (rd h115 ((Addr.mk b1 0 none).add 2)) fun n118=>ldI .u64 (rd h115 ((Addr.mk b1 0 none).add 3)) fun n119=>K (.tuple #[.agg #[.int .u64 n116,.int .u64 n117,.int .u64 n118,.int .u64 n119],.bool (n108 !=n111)]) h115))))) (((.tuple #[])=undef∧((.tuple #[])=undef∧stK h101 ((Addr.mk b1 0 none).add 0) (.int .u64 n102) fun h120=>stK h120 ((Addr.mk b1 0 none).add 1) (.int .u64 n103) fun h121=>stK h121 ((Addr.mk b1 0 none).add 2) (.int .u64 n104) fun h122=>stK h122 ((Addr.mk b1 0 none).add 3) (.int .u64 n105) fun h123=>((.tuple #[])=undef∧((.bool false)=((.bool false):Value)∧ldI .u64 (rd h123 ((Addr.mk b1 0 none).add 0)) fun n124=>ldI .u64 (rd h123 ((Addr.mk b1 0 none).add 1)) fun n125=>ldI .u64 (rd h123 ((Addr.mk b1 0 none).add 2)) fun n126=>ldI .u64 (rd h123 ((Addr.mk b1 0 none).add 3)) fun n127=>K (.tuple #[.agg #[.int .u64 n124,.int .u64 n125,.int .u64 n126,.int .u64 n127],.bool false]) h123)))))) (((.tuple #[])=undef∧((.tuple #[])=undef∧stK h101 ((Addr.mk b1 0 none).add 0) (.int .u64 n102) fun h128=>stK h128 ((Addr.mk b1 0 none).add 1) (.int .u64 n103) fun h129=>stK h129 ((Addr.mk b1 0 none).add 2) (.int .u64 n104) fun h130=>stK h130 ((Addr.mk b1 0 none).add 3) (.int .u64 n105) fun h131=>((.tuple #[])=undef∧((.bool false)=((.bool false):Value)∧ldI .u64 (rd h131 ((Addr.mk b1 0 none).add 0)) fun n132=>ldI .u64 (rd h131 ((Addr.mk b1 0 none).add 1)) fun n133=>ldI .u64 (rd h131 ((Addr.mk b1 0 none).add 2)) fun n134=>ldI .u64 (rd h131 ((Addr.mk b1 0 none).add 3)) fun n135=>K (.tuple #[.agg #[.int .u64 n132,.int .u64 n133,.int .u64 n134,.int .u64 n135],.bool false]) h131)))))))))))):Cl 83 [.pointer (some a),.int .u32 b,.slice d c f,.int .i64 g] h K:=cT F83.T Tryz.func83 H
def F29.T:Hint:=⟨[(4,[0,1,4,6,7,8]),(7,[0,1,4,7])],[]⟩
section
variable (n:Nat)(i:Addr)(l:Int)(a:Addr)(g:Option Addr)(b j:Nat)(f:Option Addr)(d c:Nat)(o:Int)(h:Heap)(K:KK)
def F29.wk7:Prop:=Cl 83 [.pointer (some i),.int .u32 l,.slice f d c,.int .i64 0] h fun v1 h2=> ∃n3:Int,∃n4:Int,∃n5:Int,∃n6:Int,∃b7:Bool,v1=(.tuple #[.agg #[.int .u64 n3,.int .u64 n4,.int .u64 n5,.int .u64 n6],.bool b7])∧stK h2 (a.add 0) (.int .u64 n3) fun h8=>stK h8 (a.add 1) (.int .u64 n4) fun h9=>stK h9 (a.add 2) (.int .u64 n5) fun h10=>stK h10 (a.add 3) (.int .u64 n6) fun h11=>ldI .u64 (rd h11 (a.add 0)) fun n12=>ldI .u64 (rd h11 (a.add 1)) fun n13=>ldI .u64 (rd h11 (a.add 2)) fun n14=>ldI .u64 (rd h11 (a.add 3)) fun n15=>K (.tuple #[.agg #[.int .u64 n12,.int .u64 n13,.int .u64 n14,.int .u64 n15],.bool b7]) h11
def F29.wL4:Prop:=Lp Tryz.f29 F29.T [1,1,1,0,1,0] n [(0,(.pointer (some i))),(1,(.int .u32 l)),(4,(.pointer (some a))),(6,(.slice g b j)),(7,(.slice f d c)),(8,(.int .i64 o))] h K
theorem F29.sL4:F29.wL4 (n+1) i l a g b j f d c o h K=(bcase (decide (o<(Nat.cast b:Int))) (ptrK g fun a1=>0≤o∧o<(Nat.cast b:Int)∧ldI .i64 (rd h (a1.add (Int.toNat o*1))) fun n2=>Cl 33 [.int .i64 n2] h fun v3 h4=> ∃n5:Int,∃n6:Int,∃n7:Int,∃n8:Int,v3=(.agg #[.int .u64 n5,.int .u64 n6,.int .u64 n7,.int .u64 n8])∧newK h4 (.cells #[.int .u64 n5,.int .u64 n6,.int .u64 n7,.int .u64 n8] 51) fun b9 h10=>appK h10 51 4 32 #[.int .u64 0,.int .u64 0,.int .u64 0,.int .u64 0] f d c (some (Addr.mk b9 0 none)) 1 fun p11 l12 c13 h14=>F29.wL4 n i l a g b j p11 l12 c13 (IntKind.wrap .i64 (o+(1:Int))) h14 K) (F29.wk7 i l a f d c h K)):=by kernel_rfl
def F29.wk4:Prop:=(∃m,F29.wL4 m i l a g b j f d c o h K)
theorem F29.spec(H:newK h (.cells #[.int .u64 0,.int .u64 0,.int .u64 0,.int .u64 0] 51) fun b1 h2=>Cl 47 [.pointer (some i)] h2 fun v3 h4=>ldP (some v3) fun p5=>Cl 48 [.pointer p5] h4 fun v6 h7=>ldS (some v6) fun p8 l9 c10=>F29.wk4 i l (Addr.mk b1 0 none) p8 l9 c10 none 0 0 (0:Int) h7 K):Cl 29 [.pointer (some i),.int .u32 l] h K:=cT F29.T Tryz.func29 H
end
end
section
def F131.T:Hint:=⟨[],[(1,[[(0,[]),(1,[]),(3,[]),(5,[]),(2,[3,5]),(4,[5]),(6,[]),(7,[]),(8,[])]])]⟩
theorem F131.spec(a b c d f g i j l m o q:Int)(h:Heap)(K:KK)(H:newK h (.cells #[.int .u64 a,.int .u64 b,.int .u64 c,.int .u64 d] 51) fun b1 h2=>newK h2 (.cells #[.int .u64 f,.int .u64 g,.int .u64 i,.int .u64 j] 51) fun b3 h4=>newK h4 (.cells #[.int .u64 l,.int .u64 m,.int .u64 o,.int .u64 q] 51) fun b5 h6=>newK h6 (.cells #[.int .u64 0,.int .u64 0,.int .u64 0,.int .u64 0] 51) fun b7 h8=>ldI .u64 (rd h8 ((Addr.mk b1 0 none).add 0)) fun n9=>ldI .u64 (rd h8 ((Addr.mk b1 0 none).add 1)) fun n10=>ldI .u64 (rd h8 ((Addr.mk b1 0 none).add 2)) fun n11=>ldI .u64 (rd h8 ((Addr.mk b1 0 none).add 3)) fun n12=>ldI .u64 (rd h8 ((Addr.mk b3 0 none).add 0)) fun n13=>ldI .u64 (rd h8 ((Addr.mk b3 0 none).add 1)) fun n14=>ldI .u64 (rd h8 ((Addr.mk b3 0 none).add 2)) fun n15=>ldI .u64 (rd h8 ((Addr.mk b3 0 none).add 3)) fun n16=>ldI .u64 (rd h8 ((Addr.mk b1 0 none).add 0)) fun n17=>ldI .u64 (rd h8 ((Addr.mk b1 0 none).add 1)) fun n18=>ldI .u64 (rd h8 ((Addr.mk b1 0 none).add 2)) fun n19=>ldI .u64 (rd h8 ((Addr.mk b1 0 none).add 3)) fun n20=>ldI .u64 (rd h8 ((Addr.mk b5 0 none).add 0)) fun n21=>ldI .u64 (rd h8 ((Addr.mk b5 0 none).add 1)) fun n22=>ldI .u64 (rd h8 ((Addr.mk b5 0 none).add 2)) fun n23=>ldI .u64 (rd h8 ((Addr.mk b5 0 none).add 3)) fun n24=>Cl 145 [.agg #[.int .u64 n9,.int .u64 n10,.int .u64 n11,.int .u64 n12],.agg #[.int .u64 n13,.int .u64 n14,.int .u64 n15,.int .u64 n16]] h8 fun v25 h26=> ∃n27:Int,∃n28:Int,∃n29:Int,∃n30:Int,v25=(.agg #[.int .u64 n27,.int .u64 n28,.int .u64 n29,.int .u64 n30])∧ldI .u64 (rd h26 ((Addr.mk b1 0 none).add 0)) fun n31=>ldI .u64 (rd h26 ((Addr.mk b1 0 none).add 1)) fun n32=>ldI .u64 (rd h26 ((Addr.mk b1 0 none).add 2)) fun n33=>ldI .u64 (rd h26 ((Addr.mk b1 0 none).add 3)) fun n34=>((.agg #[.int .u64 n31,.int .u64 n32,.int .u64 n33,.int .u64 n34])=((.agg #[.int .u64 n17,.int .u64 n18,.int .u64 n19,.int .u64 n20]):Value)∧ldI .u64 (rd h26 ((Addr.mk b5 0 none).add 0)) fun n35=>ldI .u64 (rd h26 ((Addr.mk b5 0 none).add 1)) fun n36=>ldI .u64 (rd h26 ((Addr.mk b5 0 none).add 2)) fun n37=>ldI .u64 (rd h26 ((Addr.mk b5 0 none).add 3)) fun n38=>((.agg #[.int .u64 n35,.int .u64 n36,.int .u64 n37,.int .u64 n38])=((.agg #[.int .u64 n21,.int .u64 n22,.int .u64 n23,.int .u64 n24]):Value)∧Cl 86 [.agg #[.int .u64 n17,.int .u64 n18,.int .u64 n19,.int .u64 n20]] h26 fun v39 h40=> ∃n41:Int,∃n42:Int,∃n43:Int,∃n44:Int,v39=(.agg #[.int .u64 n41,.int .u64 n42,.int .u64 n43,.int .u64 n44])∧ldI .u64 (rd h40 ((Addr.mk b5 0 none).add 0)) fun n45=>ldI .u64 (rd h40 ((Addr.mk b5 0 none).add 1)) fun n46=>ldI .u64 (rd h40 ((Addr.mk b5 0 none).add 2)) fun n47=>ldI .u64 (rd h40 ((Addr.mk b5 0 none).add 3)) fun n48=>((.agg #[.int .u64 n45,.int .u64 n46,.int .u64 n47,.int .u64 n48])=((.agg #[.int .u64 n21,.int .u64 n22,.int .u64 n23,.int .u64 n24]):Value)∧Cl 145 [.agg #[.int .u64 n41,.int .u64 n42,.int .u64 n43,.int .u64 n44],.agg #[.int .u64 n21,.int .u64 n22,.int .u64 n23,.int .u64 n24]] h40 fun v49 h50=> ∃n51:Int,∃n52:Int,∃n53:Int,∃n54:Int,v49=(.agg #[.int .u64 n51,.int .u64 n52,.int .u64 n53,.int .u64 n54])∧Cl 146 [.agg #[.int .u64 n27,.int .u64 n28,.int .u64 n29,.int .u64 n30],.agg #[.int .u64 n51,.int .u64 n52,.int .u64 n53,.int .u64 n54]] h50 fun v55 h56=> ∃n57:Int,∃n58:Int,∃n59:Int,∃n60:Int,v55=(.agg #[.int .u64 n57,.int .u64 n58,.int .u64 n59,.int .u64 n60])∧stK h56 ((Addr.mk b7 0 none).add 0) (.int .u64 n57) fun h61=>stK h61 ((Addr.mk b7 0 none).add 1) (.int .u64 n58) fun h62=>stK h62 ((Addr.mk b7 0 none).add 2) (.int .u64 n59) fun h63=>stK h63 ((Addr.mk b7 0 none).add 3) (.int .u64 n60) fun h64=>ldI .u64 (rd h64 ((Addr.mk b7 0 none).add 0)) fun n65=>ldI .u64 (rd h64 ((Addr.mk b7 0 none).add 1)) fun n66=>ldI .u64 (rd h64 ((Addr.mk b7 0 none).add 2)) fun n67=>ldI .u64 (rd h64 ((Addr.mk b7 0 none).add 3)) fun n68=>K (.agg #[.int .u64 n65,.int .u64 n66,.int .u64 n67,.int .u64 n68]) h64)))):Cl 131 [.agg #[.int .u64 a,.int .u64 b,.int .u64 c,.int .u64 d],.agg #[.int .u64 f,.int .u64 g,.int .u64 i,.int .u64 j],.agg #[.int .u64 l,.int .u64 m,.int .u64 o,.int .u64 q]] h K:=cT F131.T Tryz.func131 H
def F145.T:Hint:=⟨[(2,[2,3,4,5])],[(4,[[(0,[]),(1,[]),(2,[]),(3,[]),(4,[]),(5,[]),(6,[]),(7,[]),(8,[]),(9,[])]])]⟩
section
variable (n:Nat)(d f g i j l o q:Int)(c r b:Addr)(a:Int)(h:Heap)(K:KK)
def F145.wL2:Prop:=Lp Tryz.f145 F145.T [1,0,1,0] n [(2,(.pointer (some c))),(3,(.pointer (some r))),(4,(.pointer (some b))),(5,(.int .i64 a))] h K
theorem F145.sL2:F145.wL2 (n+1) c r b a h K=(bcase (decide (a<(4:Int))) ((0≤a∧a<(Nat.cast 4:Int)∧ldI .u64 (rd h (c.add (Int.toNat a*1))) fun n1=>0≤a∧a<(Nat.cast 4:Int)∧ldI .u64 (rd h (r.add (Int.toNat a*1))) fun n2=>0≤a∧a<(Nat.cast 4:Int)∧stK h ((c.add (Int.toNat a*1)).add 0) (.int .u64 (bitsI .and .u64 n1 n2)) fun h3=>F145.wL2 n c r b (IntKind.wrap .i64 (a+(1:Int))) h3 K)) (ldI .u64 (rd h (c.add 0)) fun n4=>ldI .u64 (rd h (c.add 1)) fun n5=>ldI .u64 (rd h (c.add 2)) fun n6=>ldI .u64 (rd h (c.add 3)) fun n7=>stK h (b.add 0) (.int .u64 n4) fun h8=>stK h8 (b.add 1) (.int .u64 n5) fun h9=>stK h9 (b.add 2) (.int .u64 n6) fun h10=>stK h10 (b.add 3) (.int .u64 n7) fun h11=>ldI .u64 (rd h11 (b.add 0)) fun n12=>ldI .u64 (rd h11 (b.add 1)) fun n13=>ldI .u64 (rd h11 (b.add 2)) fun n14=>ldI .u64 (rd h11 (b.add 3)) fun n15=>K (.agg #[.int .u64 n12,.int .u64 n13,.int .u64 n14,.int .u64 n15]) h11)):=by kernel_rfl
def F145.wk2:Prop:=(∃m,F145.wL2 m c r b a h K)
theorem F145.spec(H:newK h (.cells #[.int .u64 d,.int .u64 f,.int .u64 g,.int .u64 i] 51) fun b1 h2=>newK h2 (.cells #[.int .u64 j,.int .u64 l,.int .u64 o,.int .u64 q] 51) fun b3 h4=>newK h4 (.cells #[.int .u64 0,.int .u64 0,.int .u64 0,.int .u64 0] 51) fun b5 h6=>F145.wk2 (Addr.mk b1 0 none) (Addr.mk b3 0 none) (Addr.mk b5 0 none) (0:Int) h6 K):Cl 145 [.agg #[.int .u64 d,.int .u64 f,.int .u64 g,.int .u64 i],.agg #[.int .u64 j,.int .u64 l,.int .u64 o,.int .u64 q]] h K:=cT F145.T Tryz.func145 H
end
def F86.T:Hint:=⟨[(2,[1,2,3])],[]⟩
section
variable (n:Nat)(d f g i:Int)(c a:Addr)(b:Int)(h:Heap)(K:KK)
def F86.wL2:Prop:=Lp Tryz.f86 F86.T [1,0,1,0] n [(1,(.pointer (some c))),(2,(.pointer (some a))),(3,(.int .i64 b))] h K
theorem F86.sL2:F86.wL2 (n+1) c a b h K=(bcase (decide (b<(4:Int))) ((0≤b∧b<(Nat.cast 4:Int)∧ldI .u64 (rd h (c.add (Int.toNat b*1))) fun n1=>0≤b∧b<(Nat.cast 4:Int)∧stK h ((c.add (Int.toNat b*1)).add 0) (.int .u64 (bitsI .xor .u64 (if IntKind.signed .u64 then-1 else IntKind.max .u64) n1)) fun h2=>F86.wL2 n c a (IntKind.wrap .i64 (b+(1:Int))) h2 K)) (ldI .u64 (rd h (c.add 0)) fun n3=>ldI .u64 (rd h (c.add 1)) fun n4=>ldI .u64 (rd h (c.add 2)) fun n5=>ldI .u64 (rd h (c.add 3)) fun n6=>stK h (a.add 0) (.int .u64 n3) fun h7=>stK h7 (a.add 1) (.int .u64 n4) fun h8=>stK h8 (a.add 2) (.int .u64 n5) fun h9=>stK h9 (a.add 3) (.int .u64 n6) fun h10=>ldI .u64 (rd h10 (a.add 0)) fun n11=>ldI .u64 (rd h10 (a.add 1)) fun n12=>ldI .u64 (rd h10 (a.add 2)) fun n13=>ldI .u64 (rd h10 (a.add 3)) fun n14=>K (.agg #[.int .u64 n11,.int .u64 n12,.int .u64 n13,.int .u64 n14]) h10)):=by kernel_rfl
def F86.wk2:Prop:=(∃m,F86.wL2 m c a b h K)
theorem F86.spec(H:newK h (.cells #[.int .u64 d,.int .u64 f,.int .u64 g,.int .u64 i] 51) fun b1 h2=>newK h2 (.cells #[.int .u64 0,.int .u64 0,.int .u64 0,.int .u64 0] 51) fun b3 h4=>F86.wk2 (Addr.mk b1 0 none) (Addr.mk b3 0 none) (0:Int) h4 K):Cl 86 [.agg #[.int .u64 d,.int .u64 f,.int .u64 g,.int .u64 i]] h K:=cT F86.T Tryz.func86 H
end
end
section
def anTo(f g:Nat→Nat)(i j:Nat):Nat:=if j<i then f j&&&g j else f j
def noTo(f:Nat→Nat)(i j:Nat):Nat:=if j<i then(U64-1)^^^f j else f j
theorem anTo_ok{f g:Nat→Nat}(hf:WOk f)(_hg:WOk g)(i:Nat):WOk (anTo f g i):=fun j hj=>by
 unfold anTo
 split
 ·exact Nat.lt_of_le_of_lt Nat.and_le_left (hf j hj)
 ·exact hf j hj
theorem anTo_fb(f g:Nat→Nat){y:Nat}(hy:y<256):fb (anTo f g 4) y=(fb f y&&fb g y):=by
 unfold fb anTo
 rw[if_pos (by omega),Nat.testBit_and]
theorem u64_bit{k:Nat}(hk:k<64):(U64-1).testBit k=true:=by
 rw[show U64-1=2^64-1 from rfl,Nat.testBit_two_pow_sub_one]
 simp[hk]
theorem noTo_ok{f:Nat→Nat}(hf:WOk f)(i:Nat):WOk (noTo f i):=fun j hj=>by
 unfold noTo
 split
 ·have:=hf j hj
  rw[show U64=2^64 from rfl]at this ⊢
  exact Nat.xor_lt_two_pow (by decide) this
 ·exact hf j hj
theorem noTo_fb{f:Nat→Nat}(_hf:WOk f){y:Nat}(hy:y<256):fb (noTo f 4) y= !fb f y:=by
 unfold fb noTo
 rw[if_pos (by omega),Nat.testBit_xor,u64_bit (by omega)]
 simp
theorem bxor64{a b:Nat}(ha:a<U64)(hb:b<U64):bitsI .xor .u64 (a:Int) (b:Int)=((a^^^b:Nat):Int):=by
 unfold bitsI
 show IntKind.wrap .u64 ((BitVec.ofInt 64 (a:Int)^^^BitVec.ofInt 64 (b:Int)).toNat:Int)=_
 have e: ∀{a:Nat},a<U64→(BitVec.ofInt 64 (a:Int)).toNat=a:=fun {a} h=>by
  rw[BitVec.toNat_ofInt]
  unfold U64 at h
  omega
 rw[BitVec.toNat_xor,e ha,e hb]
 exact wrapU (by rw[show U64=2^64 from rfl]at ha hb ⊢;exact Nat.xor_lt_two_pow ha hb)
set_option maxRecDepth 100000 in
theorem and145{h:Heap}{f g:Nat→Nat}{K:Value→Heap→Prop}(hf:WOk f)(hg:WOk g)(hK: ∀h' k,WOk k→(∀y,y<256→fb k y=(fb f y&&fb g y))→Only [] h h'→K (aggW k) h'):Cl 145 [aggW f,aggW g] h K:=by
 refine F145.spec _ _ _ _ _ _ _ _ h K ?_
 refine newK_at fun h1 A1 O1 z1=>newK_at fun h2 A2 O2 z2=>newK_at fun h3 A3 O3 z3=> ?_
 replace A1:At h1 h.size (wrow f):=A1
 replace A2:At h2 h1.size (wrow g):=A2
 replace A3:At h3 h2.size (wrow fun _=>0):=A3
 have B1:=(A1.only O2 (by simp)).only O3 (by simp)
 have B2:=A2.only O3 (by simp)
 have O13:Only [] h h3:=(O1.trans O2 (by simp)).trans O3 (by simp)
 unfold F145.wk2
 have main: ∀(d i:Nat) (h':Heap),i+d=4→At h' h.size (wrow (anTo f g i))→At h' h1.size (wrow g)→At h' h2.size (wrow fun _=>0)→Only [] h h'→
   F145.wL2 (d+1) ⟨h.size,0,none⟩ ⟨h1.size,0,none⟩ ⟨h2.size,0,none⟩ i h' K:=by
  intro d
  induction d with
  |zero=>
   intro i h' hd A B C O
   rw[F145.sL2]
   rw[show decide ((i:Int)<4)=false by simp;omega,bcase_false]
   have hi:i=4:=by omega
   subst hi
   exact copy4 A C (by omega) fun h'' O''=>hK h'' _ (anTo_ok hf hg 4) (fun y hy=>anTo_fb f g hy) (O.trans O'' (by intro b hb hlt;simp at hb;omega))
  |succ d ih=>
   intro i h' hd A B C O
   rw[F145.sL2]
   have hi:i<4:=by omega
   rw[show decide ((i:Int)<4)=true by simp;omega,bcase_true,show IntKind.wrap .i64 ((i:Int)+1)=((i+1:Nat):Int) by rw[wrap_i64 (by omega) (by omega)];omega]
   refine⟨by omega,by omega,?_⟩
   rw[add_mk,add_mk,show 0+Int.toNat (i:Int)*1=i by omega,wr_rd A hi,ldI_some]
   refine⟨by omega,by omega,?_⟩
   rw[wr_rd B hi,ldI_some]
   refine⟨by omega,by omega,?_⟩
   have e0:anTo f g i i=f i:=if_neg (by omega)
   rw[add_mk,Nat.add_zero,e0,band (hf i hi) (hg i hi)]
   refine wr_st A hi fun h'' A'' O''=>ih (i+1) h'' (by omega) ?_ (B.only O'' (by simp;omega)) (C.only O'' (by simp;omega)) (O.trans O'' (by intro b hb hlt;simp at hb;omega))
   have e:(fun j=>if j=i then f i&&&g i else anTo f g i j)=anTo f g (i+1):=by
    funext j
    unfold anTo
    by_cases hj:j=i
    ·subst hj;rw[if_pos rfl,if_pos (by omega)]
    ·rw[if_neg hj]
     by_cases hl:j<i
     ·rw[if_pos hl,if_pos (by omega)]
     ·rw[if_neg hl,if_neg (by omega)]
   rw[e]at A''
   exact A''
 have e0:anTo f g 0=f:=by funext j;unfold anTo;rw[if_neg (by omega)]
 exact⟨_,main 4 0 h3 (by omega) (by rw[e0];exact B1) B2 A3 O13⟩
set_option maxRecDepth 100000 in
theorem not86{h:Heap}{f:Nat→Nat}{K:Value→Heap→Prop}(hf:WOk f)(hK: ∀h' k,WOk k→(∀y,y<256→fb k y= !fb f y)→Only [] h h'→K (aggW k) h'):Cl 86 [aggW f] h K:=by
 refine F86.spec _ _ _ _ h K ?_
 refine newK_at fun h1 A1 O1 z1=>newK_at fun h2 A2 O2 z2=> ?_
 replace A1:At h1 h.size (wrow f):=A1
 replace A2:At h2 h1.size (wrow fun _=>0):=A2
 have B1:=A1.only O2 (by simp)
 have O12:Only [] h h2:=O1.trans O2 (by simp)
 unfold F86.wk2
 have main: ∀(d i:Nat) (h':Heap),i+d=4→At h' h.size (wrow (noTo f i))→At h' h1.size (wrow fun _=>0)→Only [] h h'→
   F86.wL2 (d+1) ⟨h.size,0,none⟩ ⟨h1.size,0,none⟩ i h' K:=by
  intro d
  induction d with
  |zero=>
   intro i h' hd A C O
   rw[F86.sL2]
   rw[show decide ((i:Int)<4)=false by simp;omega,bcase_false]
   have hi:i=4:=by omega
   subst hi
   exact copy4 A C (by omega) fun h'' O''=>hK h'' _ (noTo_ok hf 4) (fun y hy=>noTo_fb hf hy) (O.trans O'' (by intro b hb hlt;simp at hb;omega))
  |succ d ih=>
   intro i h' hd A C O
   rw[F86.sL2]
   have hi:i<4:=by omega
   rw[show decide ((i:Int)<4)=true by simp;omega,bcase_true,show IntKind.wrap .i64 ((i:Int)+1)=((i+1:Nat):Int) by rw[wrap_i64 (by omega) (by omega)];omega]
   refine⟨by omega,by omega,?_⟩
   rw[add_mk,show 0+Int.toNat (i:Int)*1=i by omega,wr_rd A hi,ldI_some]
   refine⟨by omega,by omega,?_⟩
   have e0:noTo f i i=f i:=if_neg (by omega)
   rw[add_mk,Nat.add_zero,e0,show(if IntKind.signed .u64 then(-1:Int)else IntKind.max .u64)=((U64-1:Nat):Int)from rfl,bxor64 (by unfold U64;omega) (hf i hi)]
   refine wr_st A hi fun h'' A'' O''=>ih (i+1) h'' (by omega) ?_ (C.only O'' (by simp;omega)) (O.trans O'' (by intro b hb hlt;simp at hb;omega))
   have e:(fun j=>if j=i then(U64-1)^^^f i else noTo f i j)=noTo f (i+1):=by
    funext j
    unfold noTo
    by_cases hj:j=i
    ·subst hj;rw[if_pos rfl,if_pos (by omega)]
    ·rw[if_neg hj]
     by_cases hl:j<i
     ·rw[if_pos hl,if_pos (by omega)]
     ·rw[if_neg hl,if_neg (by omega)]
   rw[e]at A''
   exact A''
 have e0:noTo f 0=f:=by funext j;unfold noTo;rw[if_neg (by omega)]
 exact⟨_,main 4 0 h2 (by omega) (by rw[e0];exact B1) A2 O12⟩
set_option maxRecDepth 100000 in
theorem ite131{h:Heap}{f g k:Nat→Nat}{K:Value→Heap→Prop}(hf:WOk f)(hg:WOk g)(hk:WOk k)(hK: ∀h' r,WOk r→(∀y,y<256→fb r y=if fb f y then fb g y else fb k y)→Only [] h h'→K (aggW r) h'):Cl 131 [aggW f,aggW g,aggW k] h K:=by
 refine F131.spec _ _ _ _ _ _ _ _ _ _ _ _ h K ?_
 refine newK_at fun h1 A1 O1 z1=>newK_at fun h2 A2 O2 z2=>newK_at fun h3 A3 O3 z3=>newK_at fun h4 A4 O4 z4=> ?_
 replace A1:At h1 h.size (wrow f):=A1
 replace A2:At h2 h1.size (wrow g):=A2
 replace A3:At h3 h2.size (wrow k):=A3
 replace A4:At h4 h3.size (wrow fun _=>0):=A4
 have B1:=((A1.only O2 (by simp)).only O3 (by simp)).only O4 (by simp)
 have B2:=(A2.only O3 (by simp)).only O4 (by simp)
 have B3:=A3.only O4 (by simp)
 have O14:Only [] h h4:=((O1.trans O2 (by simp)).trans O3 (by simp)).trans O4 (by simp)
 refine rd4 B1 (rd4 B2 (rd4 B1 (rd4 B3 ?_)))
 refine and145 hf hg fun h5 u hu eu O5=>⟨_,_,_,_,rfl,?_⟩
 refine rd4 (B1.only O5 (by simp)) ⟨rfl,?_⟩
 have C3:=B3.only O5 (by simp)
 refine rd4 C3 ⟨rfl,?_⟩
 refine not86 hf fun h6 v hv ev O6=>⟨_,_,_,_,rfl,?_⟩
 refine rd4 (C3.only O6 (by simp)) ⟨rfl,?_⟩
 refine and145 hv hk fun h7 w hw ew O7=>⟨_,_,_,_,rfl,?_⟩
 refine or27 hu hw fun h8 r hr er O8=>⟨_,_,_,_,rfl,?_⟩
 have O58:Only [] h4 h8:=((O5.trans O6 (by simp)).trans O7 (by simp)).trans O8 (by simp)
 refine wr_put (A4.only O58 (by simp)) fun h9 A9 O9=> ?_
 refine rd4 A9 (hK h9 r hr (fun y hy=> ?_) ((O14.trans O58 (by simp)).trans O9 (by intro b hb hl;simp at hb;omega)))
 rw[er y hy,eu y hy,ew y hy,ev y hy]
 cases fb f y<;>simp
end
section
structure Vrs(h:Heap)(b n:Nat)(f:Nat→Nat)(gs:Nat→Nat→Nat):Prop where
 rd: ∀k i,k<n→i<4→Ev.rd h ⟨b,k*4+i,none⟩=some (.int .u64 (gs k i:Int))
 ok: ∀k,k<n→WOk (gs k)
 fb: ∀k,k<n→ ∀y,y<256→Ev.fb (gs k) y=y.testBit (f k)
theorem Vrs.only{h h':Heap}{b n:Nat}{f:Nat→Nat}{gs:Nat→Nat→Nat}(H:Vrs h b n f gs)(O:Only [] h h'):Vrs h' b n f gs:=
 ⟨fun k i hk hi=>rd_only (H.rd k i hk hi) O (by simp),H.ok,H.fb⟩
theorem z4ok:WOk fun _=>0:=fun i _=>by show 0<U64;unfold U64;omega
section
variable {h:Heap}{s a:Nat}{L:List Nat}{X:SX}{K:Value→Heap→Prop}
theorem eq0_cast{a:Nat}:((a:Int)==(0:Int))=decide (a=0):=by
 by_cases h:a=0
 ·subst h;rfl
 ·rw[decide_eq_false h];simp[h]
theorem eq1_cast{a:Nat}:((a:Int)==(1:Int))=decide (a=1):=by
 by_cases h:a=1
 ·subst h;rfl
 ·rw[decide_eq_false h];simp;omega
set_option maxRecDepth 100000 in
theorem walk83{b vc:Nat}{gs:Nat→Nat→Nat}: ∀(d:Nat) {h:Heap} {a deep:Nat} {K:Value→Heap→Prop},X.n-lvl X.n X.N a≤d→Sto h s L X→Vrs h b X.n X.f gs→isN X.N a→deep≤lvl X.n X.N a→
  (∀h' g,WOk g→(∀y,y<256→fb g y=sm X.n X.f X.N a y)→Only [] h h'→K (.tuple #[aggW g,.bool true]) h')→
  Cl 83 [.pointer (some ⟨s,0,none⟩),.int .u32 (a:Int),.slice (some ⟨b,0,none⟩) X.n vc,.int .i64 (deep:Int)] h K:=by
 intro d
 have const: ∀{h:Heap} {a deep:Nat} {K:Value→Heap→Prop},a<2→
   (∀h' g,WOk g→(∀y,y<256→fb g y=sm X.n X.f X.N a y)→Only [] h h'→K (.tuple #[aggW g,.bool true]) h')→
   Cl 83 [.pointer (some ⟨s,0,none⟩),.int .u32 (a:Int),.slice (some ⟨b,0,none⟩) X.n vc,.int .i64 (deep:Int)] h K:=by
  intro h a deep K hlt2 hK
  refine F83.spec _ _ _ _ _ _ h K ?_
  refine newK_at fun h1 A1 O1 z1=> ?_
  replace A1:At h1 h.size (wrow fun _=>0):=A1
  rw[eq0_cast,eq1_cast]
  refine bcase_of (fun e=> ?_) fun e=> ?_
  ·have e:=of_decide_eq_true e
   refine wr_put (g:=fun _=>0) A1 fun h2 A2 O2=>rd4 A2 (hK h2 (fun _=>0) z4ok (fun y _=> ?_) (O1.trans O2 (by intro b hb hl;simp at hb;omega)))
   rw[sm_const hlt2,e]
   unfold fb
   simp
  ·have e:=of_decide_eq_false e
   rw[decide_eq_true (show a=1 by omega),bcase_true]
   refine not86 (f:=fun _=>0) z4ok fun h2 g hg eg O2=>⟨_,_,_,_,rfl,?_⟩
   refine wr_put (A1.only O2 (by simp)) fun h3 A3 O3=>rd4 A3 (hK h3 g hg (fun y hy=> ?_) ((O1.trans O2 (by simp)).trans O3 (by intro b hb hl;simp at hb;have:=O2.size;omega)))
   rw[sm_const hlt2,eg y hy,show a=1 by omega]
   unfold fb
   simp
 induction d with
 |zero=>
  intro h a deep K hd H V ha hdp hK
  refine const ?_ hK
  apply Classical.byContradiction
  intro hn
  have:=(H.ok.1.at ha (by omega)).1
  omega
 |succ d ih=>
  intro h a deep K hd H V ha hdp hK
  by_cases h2:a<2
  ·exact const h2 hK
  have ok:=H.ok
  obtain⟨h3,h4,h5,-,h6,h7⟩:=ok.1.at ha (by omega)
  have hn8:=ok.2.2.1
  refine F83.spec _ _ _ _ _ _ h K ?_
  refine newK_at fun h1 A1 O1 z1=> ?_
  replace A1:At h1 h.size (wrow fun _=>0):=A1
  rw[eq0_cast,eq1_cast,decide_eq_false (by omega),bcase_false,decide_eq_false (by omega),bcase_false]
  have H1:=H.only0 O1
  refine sto_level H1 ha (ldI_of rfl (sto_is1 H1 ha (ldB_of rfl ?_)))
  rw[Bool.not_true,bcase_false,decide_eq_false (by omega),bcase_false,decide_eq_false (by omega),bcase_false]
  have ew:IntKind.wrap .i64 ((lvl X.n X.N a:Int)+1)=((lvl X.n X.N a+1:Nat):Int):=by rw[wrap_i64 (by omega) (by omega)];omega
  rw[ew]
  refine sto_low H1 ha (ldI_of rfl ?_)
  refine ih (by omega) H1 (V.only O1) h4 (by omega) fun h2 g0 hg0 eg0 O2=>⟨_,_,_,_,_,rfl,?_⟩
  have H2:=H1.only0 O2
  refine newK_at fun h3' A3 O3 z3=> ?_
  replace A3:At h3' h2.size (wrow fun _=>0):=A3
  refine wr_put A3 fun h4' A4 O4=> ?_
  have O24:Only [] h2 h4':=O3.trans O4 (by intro b hb hl;simp at hb;omega)
  have H4:=H2.only0 O24
  refine sto_high H4 ha (ldI_of rfl ?_)
  have O04:Only [] h h4':=(O1.trans O2 (by simp)).trans O24 (by simp)
  refine ih (by omega) H4 (V.only O04) h5 (by omega) fun h5' g1 hg1 eg1 O5=>⟨_,_,_,_,_,rfl,?_⟩
  refine newK_at fun h6' A6 O6 z6=> ?_
  replace A6:At h6' h5'.size (wrow fun _=>0):=A6
  refine wr_put A6 fun h7' A7 O7=> ?_
  have O57:Only [] h5' h7':=O6.trans O7 (by intro b hb hl;simp at hb;omega)
  have O47:Only [] h4' h7':=O5.trans O57 (by simp)
  have O07:Only [] h h7':=O04.trans O47 (by simp)
  have V7:=V.only O07
  have B4:=A4.only O47 (by simp)
  rw[ptrK_some]
  refine⟨by omega,by omega,?_⟩
  have rr: ∀i,i<4→rd h7' (Addr.add (Addr.add ⟨b,0,none⟩ (Int.toNat (lvl X.n X.N a:Int)*4)) i)=some (.int .u64 (gs (lvl X.n X.N a) i:Int)):=fun i hi=>by
   rw[add_mk,add_mk,Int.toNat_natCast,Nat.zero_add]
   exact V7.rd _ i h3 hi
  refine ldI_of (rr 0 (by omega)) (ldI_of (rr 1 (by omega)) (ldI_of (rr 2 (by omega)) (ldI_of (rr 3 (by omega)) ?_)))
  refine rd4 A7 (rd4 B4 ?_)
  obtain⟨-,-,-,hne,-,-⟩:=ok.1.at ha (by omega)
  refine ite131 (V.ok _ h3) hg1 hg0 fun h8 r hr er O8=>⟨_,_,_,_,rfl,by trivial,?_⟩
  have O08:Only [] h h8:=O07.trans O8 (by simp)
  have fin: ∀y,y<256→fb r y=sm X.n X.f X.N a y:=fun y hy=>by
   rw[er y hy,V.fb _ h3 y hy,eg1 y hy,eg0 y hy,sm_node ok.1 ha (by omega)]
  have A8:=(A1.only ((O2.trans O24 (by simp)).trans O47 (by simp)) (by simp)).only O8 (by simp)
  have H8:=H.only0 O08
  rw[bcase_true,bcase_true]
  refine sto_low H8 ha (ldI_of rfl ⟨by trivial,by trivial,sto_high H8 ha (ldI_of rfl ?_)⟩)
  have hb:((low X.N a:Int) !=(high X.N a:Int))=true:=by simp;omega
  rw[hb]
  refine wr_put A8 fun h9 A9 O9=>⟨by trivial,by trivial,rd4 A9 (hK h9 r hr fin (O08.trans O9 (by intro b hb hl;simp at hb;omega)))⟩
theorem func29(hf: ∀j,j<X.n→X.f j<8)(H:Sto h s L X)(ha:isN X.N a)(hK: ∀h' g,WOk g→(∀y,y<256→fb g y=sm X.n X.f X.N a y)→Only [] h h'→K (.tuple #[aggW g,.bool true]) h'):
  Cl 29 [.pointer (some ⟨s,0,none⟩),.int .u32 (a:Int)] h K:=by
 have ok:=H.ok
 refine F29.spec _ _ h K ?_
 refine newK_at fun h1 A1 O1 z1=> ?_
 replace A1:At h1 h.size (wrow fun _=>0):=A1
 have H1:=H.only0 O1
 refine sto_order H1 fun c h2 C2 g2 O2=>ldP_of rfl ?_
 refine ord_all C2 ok.2.2.1 fun x h3 V3 g3 O3=>ldS_of rfl ?_
 have O13:Only [] h1 h3:=O2.trans O3 (by simp)
 unfold F29.wk4
 have z13:=O13.size
 have main: ∀(d i:Nat) (h':Heap) (p:Option Addr) (cap:Nat) (gs:Nat→Nat→Nat),i+d=X.n→At h' x (vrow X.n X.f)→At h' h.size (wrow fun _=>0)→Only [] h h'→h3.size≤h'.size→(∀k,k<i→WOk (gs k))→(∀k,k<i→ ∀y,y<256→fb (gs k) y=y.testBit (X.f k))→
   Own h' h3.size 4 p i cap (rowV (i*4) fun j=> .int .u64 (gs (j/4) (j%4):Int))→
   F29.wL4 (d+1) ⟨s,0,none⟩ (a:Int) ⟨h.size,0,none⟩ (some ⟨x,0,none⟩) X.n X.n p i cap (i:Int) h' K:=by
  intro d
  induction d with
  |zero=>
   intro i h' p cap gs hi V A O hz ok1 ok2 W
   have e:i=X.n:=by omega
   subst e
   rw[F29.sL4]
   rw[decide_eq_false (by omega),bcase_false]
   unfold F29.wk7
   have n1:=ok.2.1
   have hb: ∃b,p=some ⟨b,0,none⟩:=by
    obtain⟨b,e,-⟩:=W.rd (j:=0) (by rw[rowV_len];omega)
    exact⟨b,e⟩
   obtain⟨b,rfl⟩:=hb
   have VV:Vrs h' b X.n X.f gs:=⟨fun k i hk hi=>by
    obtain⟨b',e,r⟩:=W.rd (j:=k*4+i) (by rw[rowV_len];omega)
    injection e with e
    injection e with e
    subst e
    rw[r,rowV_get (by omega),show(k*4+i)/4=k by omega,show(k*4+i)%4=i by omega],ok1,ok2⟩
   have la:0≤lvl X.n X.N a:=Nat.zero_le _
   refine walk83 (deep:=0) X.n (by omega) (H.only0 O) VV ha (by omega) fun h5 g hg eg O5=>⟨_,_,_,_,_,rfl,?_⟩
   refine wr_put (A.only O5 (by simp)) fun h6 A6 O6=>rd4 A6 (hK h6 g hg eg ((O.trans O5 (by simp)).trans O6 (by intro b hb hl;simp at hb;omega)))
  |succ d ih=>
   intro i h' p cap gs hi V A O hz ok1 ok2 W
   rw[F29.sL4]
   rw[decide_eq_true (by omega),bcase_true,ptrK_some]
   refine⟨by omega,by omega,?_⟩
   have hin:i<X.n:=by omega
   rw[add_mk,Int.toNat_natCast,Nat.zero_add,Nat.mul_one]
   have rv:rd h' ⟨x,i,none⟩=some (.int .i64 (X.f i:Int)):=by
    rw[At.rd V]
    simp[vrow,hin]
   refine ldI_of rv (var28 fun h4 g hg eg O4=>⟨_,_,_,_,rfl,?_⟩)
   refine newK_at fun h5 A5 O5 z5=> ?_
   have O45:Only [] h' h5:=O4.trans O5 (by simp)
   have W5:=W.only O45 (by simp)
   have z45:=O45.size
   refine own_app W5 A5 rfl rfl (by omega) (by simp[Value.oneCell']) (by omega) fun p' c' h6 W6 O6 g6=> ?_
   have ew:IntKind.wrap .i64 ((i:Int)+1)=((i+1:Nat):Int):=by rw[wrap_i64 (by omega) (by omega)];omega
   rw[ew]
   have zO: ∀b∈OwnB p,h3.size≤b:=fun b hb=>(W.lt b hb).1
   have xl:x<h3.size:=V3.lt
   have hl:h.size<h3.size:=by omega
   refine ih (i+1) h6 p' c' (fun k=>if k=i then g else gs k) (by omega) ((V.only O45 (by simp)).only O6 fun hm=>by have:=zO _ hm;omega) ((A.only O45 (by simp)).only O6 fun hm=>by have:=zO _ hm;omega) ((O.trans O45 (by simp)).trans O6 fun b hb hlt=>by have:=zO b hb;omega) (by have:=O6.size;omega) (fun k hk=> ?_) (fun k hk y hy=> ?_) ?_
   ·by_cases e:k=i
    ·simp only[e,if_true];exact hg
    ·simp only[if_neg e];exact ok1 k (by omega)
   ·by_cases e:k=i
    ·subst e
     simp only[if_true]
     rw[eg y hy]
     have:=hf k hin
     rw[decide_eq_true (show(0:Int)≤(X.f k:Int)∧(X.f k:Int)<8 by omega),Bool.true_and,Int.toNat_natCast]
    ·simp only[if_neg e];exact ok2 k (by omega) y hy
   ·have e:(rowV ((i+1)*4) fun j=>Value.int .u64 (((fun k=>if k=i then g else gs k) (j/4) (j%4):Nat):Int))=(rowV (i*4) fun j=>Value.int .u64 (gs (j/4) (j%4):Int))++[.int .u64 (g 0:Int),.int .u64 (g 1:Int),.int .u64 (g 2:Int),.int .u64 (g 3:Int)]:=by
     rw[show(i+1)*4=i*4+1+1+1+1 by omega,rowV_succ,rowV_succ,rowV_succ,rowV_succ]
     have e1: ∀c,c<4→(i*4+c)/4=i∧(i*4+c)%4=c:=fun c hc=>by omega
     have q:(rowV (i*4) fun j=>Value.int .u64 (((fun k=>if k=i then g else gs k) (j/4) (j%4):Nat):Int))=rowV (i*4) fun j=>Value.int .u64 (gs (j/4) (j%4):Int):=rowV_ext fun j hj=>by
      have:j/4≠i:=by omega
      simp only[if_neg this]
     rw[q]
     have f0:=e1 0 (by omega)
     have f1:=e1 1 (by omega)
     have f2:=e1 2 (by omega)
     have f3:=e1 3 (by omega)
     rw[Nat.add_zero]at f0
     simp only[show i*4+1+1=i*4+2 by omega,show i*4+2+1=i*4+3 by omega,f0.1,f0.2,f1.1,f1.2,f2.1,f2.2,f3.1,f3.2,if_true,List.append_assoc,List.cons_append,List.nil_append]
    rw[e]
    exact W6
 exact⟨_,main X.n 0 h3 none 0 (fun _ _=>0) (by omega) V3 (A1.only O13 (by simp)) (O1.trans O13 (by simp)) (Nat.le_refl _) (fun k hk=>by omega) (fun k hk=>by omega) (Own.nil _ _ _)⟩
theorem is58(hf: ∀j,j<X.n→X.f j<8)(H:Sto h s L X)(ha:isN X.N a){c:Nat→Nat}(hc:WOk c)(hcs: ∀y,y<256→sm X.n X.f X.N a y=fb c y)(hK: ∀h',Only [] h h'→K (.bool true) h'):
  Cl 58 [.pointer (some ⟨s,0,none⟩),.int .u32 (a:Int),aggW c] h K:=by
 refine F58.spec _ _ _ _ _ _ h K ?_
 refine newK_at fun h1 A1 O1 z1=> ?_
 replace A1:At h1 h.size (wrow c):=A1
 refine func29 hf (H.only0 O1) ha fun h2 g hg eg O2=>⟨_,_,_,_,_,rfl,?_⟩
 refine newK_at fun h3 A3 O3 z3=> ?_
 replace A3:At h3 h2.size (wrow fun _=>0):=A3
 refine wr_put A3 fun h4 A4 O4=> ?_
 rw[bcase_true]
 have z12:=O2.size
 have B4:=((A1.only O2 (by simp)).only O3 (by simp)).only O4 (by simp;omega)
 refine rd4 A4 (rd4 B4 ?_)
 rw[(eq4 hg hc).2 fun y hy=>by rw[eg y hy,hcs y hy]]
 exact hK h4 (((O1.trans O2 (by simp)).trans O3 (by simp)).trans O4 (by intro b hb hl;simp at hb;omega))
end
end
section
def PermOk(n:Nat)(fo gg:Nat→Nat):Prop:=(∀v,v<n→gg v<n∧fo (gg v)=v)∧ ∀l,l<n→fo l<n∧gg (fo l)=l
theorem perm_fill(n:Nat):PermOk n (fill n) (fill n):=by
 refine⟨fun v hv=> ?_,fun v hv=> ?_⟩<;>
 ·have:fill n v=v:=if_pos hv
  rw[this,this]
  exact⟨hv,rfl⟩
structure EG where
 E:Eng
 n:Nat
 room:Nat
 fo:Nat→Nat
 gg:Nat→Nat
 off:Bool
 N:List (Option Nd)
 P:PS
 L:List Nat
 B:List Nat
 M:Nat
 f:Int→Int
structure EWd(h:Heap)(e:Nat)(G:EG):Prop where
 W:Wld h G.E.p G.E.s G.n G.room G.fo G.gg G.off G.N G.P G.L
 R:RfB h G.E.r G.M G.f G.B
 I:EIs h e G.E
 C:CntOk G.f G.E
 de:e∉G.L∧(¬PBl G.E.p G.P e)∧e∉G.B
 dB: ∀b∈G.B,b∉G.L∧ ¬PBl G.E.p G.P b
 rg: ∀i,i<4→ ∀r,r<6→(G.E.ses i).there r=true→isN G.N ((G.E.ses i).hnd r)
 r0: ∀i,i<4→ ∀r,r<6→(G.E.ses i).there r=false→(G.E.ses i).hnd r=0
 mq: ∀i,i<4→(G.E.ses i).cal.mask<256
 po:PermOk G.n G.fo G.gg
def ebl(e:Nat)(G:EG):List Nat:=e::(G.L++(G.B++pbl G.E.p G.P))
structure Eside(e:Nat)(G:EG)(h:Heap)(G':EG)(h':Heap):Prop where
 O: ∀T,(∀b∈ebl e G,b∈T)→Only T h h'
 B: ∀b∈ebl e G',b∈ebl e G∨h.size≤b
section
variable {h h' h'':Heap}{e:Nat}{G G' G'':EG}{K:Value→Heap→Prop}
theorem mem_ebl{b:Nat}:b∈ebl e G↔b=e∨b∈G.L∨b∈G.B∨PBl G.E.p G.P b:=by
 simp only[ebl,List.mem_cons,List.mem_append,mem_pbl]
theorem Eside.refl:Eside e G h G h:=⟨fun T _=>Only.refl _ _,fun b hb=> .inl hb⟩
theorem Eside.size(a:Eside e G h G' h'):h.size≤h'.size:=(a.O (ebl e G) fun b hb=>hb).size
theorem Eside.trans(a:Eside e G h G' h')(b:Eside e G' h' G'' h''):Eside e G h G'' h'':=by
 have hz:=a.size
 refine⟨fun T hT=>(a.O T hT).trans (b.O (ebl e G') fun x hx=>hx) fun x hx hl=> ?_,fun x hx=> ?_⟩
 ·rcases a.B x hx with h|h
  ·exact hT x h
  ·omega
 ·rcases b.B x hx with h|h
  ·exact a.B x h
  ·exact .inr (by omega)
theorem Eside.only0(O:Only [] h h'):Eside e G h G h':=⟨fun T _=>O.mono (by simp),fun b hb=> .inl hb⟩
theorem Eside.only{h0:Heap}(a:Eside e G h G' h')(O:Only [] h0 h)(hb: ∀b∈ebl e G,h0.size≤b):Only [] h0 h':=
 O.trans (a.O (ebl e G) fun b hb=>hb) fun b hb' hl=>by have:=hb b hb';omega
theorem Eside.some{S:List Nat}(O:Only S h h')(hS: ∀b∈S,b∈ebl e G)(hb: ∀b∈ebl e G',b∈ebl e G):Eside e G h G' h':=⟨fun _ hT=>O.mono fun b hb _=>hT b (hS b hb),fun b h=> .inl (hb b h)⟩
theorem EWd.only0(W:EWd h e G)(O:Only [] h h'):EWd h' e G:=⟨W.W.only0 O,W.R.only0 O,W.I.only0 O,W.C,W.de,W.dB,W.rg,W.r0,W.mq,W.po⟩
theorem EWd.lt(W:EWd h e G): ∀b∈ebl e G,b<h.size:=fun b hb=>by
 rcases mem_ebl.1 hb with hb|hb|hb|hb
 ·subst hb;exact At.lt W.I
 ·exact W.W.S.lt b hb
 ·exact W.R.lt b hb
 ·exact W.W.H.lt b hb
theorem Wld.only{p s n room:Nat}{fo gg:Nat→Nat}{off:Bool}{N:List (Option Nd)}{P:PS}{L S:List Nat}(W:Wld h p s n room fo gg off N P L)(O:Only S h h')(h1: ∀b∈S,b∉L)(h2: ∀b∈S,¬PBl p P b):Wld h' p s n room fo gg off N P L:=
 ⟨W.S.only O h1,W.H.only O h2,W.Ok,W.GO,W.D⟩
theorem PoolOk.ext{n:Nat}{fo:Nat→Nat}{N N':List (Option Nd)}{P:PS}(H:PoolOk n fo N P)(GO:GoalsOk N P)(ok:NOk n N)(E:Ex N N'):PoolOk n fo N' P∧phi n N' P=phi n N P∧psi n N' P+cntN N=psi n N P+cntN N':=by
 have em: ∀j∈P.jobs,mus n N' j.A.fs=mus n N j.A.fs:=fun j hj=>mus_ext E (H.mst j hj).1.frs
 have en: ∀j∈P.jobs,nbs n N' j.A.fs=nbs n N j.A.fs:=fun j hj=>nbs_ext E (H.mst j hj).1.frs
 refine⟨⟨fun j hj=>⟨(H.mst j hj).1.ext (GO j hj) ok E,by rw[em j hj];exact(H.mst j hj).2⟩,H.at_,H.one,H.loc,H.T,H.len,H.last,H.steals⟩,?_,?_⟩
 ·unfold phi
  rw[List.map_congr_left em]
 ·unfold psi
  rw[List.map_congr_left en]
  omega
theorem goals_ext{N N':List (Option Nd)}{P:PS}(GO:GoalsOk N P)(E:Ex N N'):GoalsOk N' P:=fun j hj=>⟨E.isN (GO j hj).1,E.isN (GO j hj).2.1,E.isN (GO j hj).2.2⟩
theorem ord_level{b n v:Nat}{f g:Nat→Nat}(H:OrdIs h b n f g)(hn:n≤8)(hv:v<n)(hK:K (.int .i64 (g v:Int)) h):Cl 186 [.pointer (some ⟨b,0,none⟩),.int .i64 (v:Int)] h K:=by
 refine F186.spec _ _ h K ?_
 rw[decide_eq_false (by omega),bcase_false]
 simp only[add_mk,Nat.zero_add]
 refine ldI_of H.rd0 ?_
 rw[decide_eq_false (by omega),bcase_false]
 exact⟨by omega,by omega,ldI_of (by rw[show 9+Int.toNat (v:Int)*1=9+v by omega];exact H.rdl (by omega)) hK⟩
theorem sto_room{s:Nat}{L:List Nat}{X:SX}(H:Sto h s L X)(hK:K (.int .i64 (X.room:Int)) h):Cl 70 [ptrV s] h K:=by
 obtain⟨B,F,e,H⟩:=H
 refine F70.spec _ h K ?_
 exact ldI_of (by rw[add_mk,At.rd H.m.S];rfl) hK
theorem sto_var{s v:Nat}{L:List Nat}{X:SX}(H:Sto h s L X)(hv:v<X.n)(hg:X.g v<X.n)
  (hK: ∀h' L' N' r er,MkRel X.room X.N (X.g v) 0 1 N' r er→Sto h' s L' {X with N:=N'}→Only L h h'→Fresh L L' h→K (.tuple #[.int .u32 (r:Int),.int .i64 (er:Int)]) h'):
  Cl 208 [ptrV s,.int .i64 (v:Int)] h K:=by
 have ok:=H.ok
 refine F208.spec _ _ h K ?_
 refine sto_order H fun c h1 Or g1 O1=>ldP_of rfl ?_
 refine ord_level Or ok.2.2.1 hv (ldI_of rfl ?_)
 have H1:=H.only0 O1
 have e0:lvl X.n X.N 0=X.n:=by unfold lvl;rw[if_pos (by omega)]
 have e1:lvl X.n X.N 1=X.n:=by unfold lvl;rw[if_pos (by omega)]
 refine sto_mk H1 (l:=X.g v) (a:=0) (b:=1) hg (.inl (by omega)) (.inl (by omega)) (by rw[e0];exact hg) (by rw[e1];exact hg) fun h2 L2 N2 r er R S2 O2 F2=>⟨_,_,rfl,?_⟩
 exact hK h2 L2 N2 r er R S2 ((O1.mono (by simp)).trans O2 fun b hb _=>hb) fun b hb=>by
  rcases F2 b hb with q|q
  ·exact .inl q
  ·exact .inr (by have:=O1.size;omega)
theorem new18{n room:Nat}{x:Int}(h1:1≤n)(h8:n≤8)(r1:1≤room)(r2:room≤32768)
  (hK: ∀h' e G,EWd h' e G→G.E.ses=(eng0 0 0 0).ses→G.E.ans=0→G.n=n→G.room=room→G.fo=fill n→G.gg=fill n→G.off=false→G.N=[]→G.P.jobs=[]→G.P.ws.length=wkn x→locs G.P.ws=[]→G.P.last=0→G.M=0→(∀b∈ebl e G,h.size≤b)→Only [] h h'→K (.tuple #[ptrV e,.int .i64 0]) h'):
  Cl 18 [.int .i64 (n:Int),.int .i64 (room:Int),.int .i64 x] h K:=by
 refine F18.spec _ _ _ h K ?_
 refine sto_new (Q:=QL n (fill n) []) h1 h8 r1 r2 fun k1 s L S1 O1 g1=>⟨_,_,rfl,?_⟩
 have S1:Sto k1 s L (XL n room (fill n) (fill n) [] false):=S1
 rw[show((0:Int) !=0)=false from rfl,bcase_false]
 refine new34 (s:=s) (x:=x) fun k2 p P H2 e1 e2 e3 e4 e5 g2 O2=>ldP_of rfl ?_
 refine workers68 H2 (ldI_of rfl ?_)
 refine rf_new fun k3 r B R3 g3 O3=>ldP_of rfl ?_
 refine newK_at fun k4 A4 O4 z4=> ?_
 have wl:=wkn_le x
 obtain⟨Ok,GO,lo,ql⟩:=pool_fresh (n:=n) (fo:=fill n) (N:=[]) (P:=P) (by omega) e2 e3 e4 e5
 have z1:=O1.size
 have z2:=O2.size
 have z3:=O3.size
 have hL:=S1.lt
 have hP:=H2.lt
 have hB:=R3.lt
 have W2:Wld k2 p s n room (fill n) (fill n) false [] P L:=⟨S1.only0 O2,H2,Ok,GO,fun b hb hm=>by have:=g2 b hb;have:=hL b hm;omega⟩
 have W4:=(W2.only0 O3).only0 O4
 have R4:=R3.only0 O4
 have I4:EIs k4 k3.size (eng0 s p r):=A4
 refine hK k4 k3.size ⟨eng0 s p r,n,room,fill n,fill n,false,[],P,L,B,0,fun _=>0⟩ ⟨W4,R4,I4,cnr_0 s p r,⟨fun hm=>by have:=hL _ hm;omega,fun hm=>by have:=hP _ hm;omega,fun hm=>by have:=hB _ hm;omega⟩,fun b hb=>⟨fun hm=>by have:=hL b hm;have:=g3 b hb;omega,fun hm=>by have:=hP b hm;have:=g3 b hb;omega⟩,fun i hi r hr ht=>(by cases ht),fun i hi r hr ht=>rfl,fun i hi=>(by show 0<256;omega),perm_fill n⟩ rfl rfl rfl rfl rfl rfl rfl rfl e2 e1 lo e4 rfl (fun b hb=> ?_) (((O1.trans O2 (by simp)).trans O3 (by simp)).trans O4 (by simp))
 rcases mem_ebl.1 hb with hb|hb|hb|hb
 ·subst hb;omega
 ·exact g1 b hb
 ·have:=g3 b hb;omega
 ·have:=g2 b hb;omega
def ansG(G:EG)(i:Nat)(er:Int)(n:Nat):EG:={G with E:={G.E.put i (ansS (G.E.ses i) er n)with ans:=G.E.ans+1}}
theorem ses_put{E:Eng}{i k:Nat}{x:Ses}:(E.put i x).ses k=if k=i then x else E.ses k:=rfl
theorem ind_same{E E':Eng}(hh: ∀k,(E'.ses k).there=(E.ses k).there∧(E'.ses k).hnd=(E.ses k).hnd)(x:Nat):cntR E' x=cntR E x:=by
 have:indR E' x=indR E x:=by
  funext k
  unfold indR
  rw[(hh (k/6)).1,(hh (k/6)).2]
 unfold cntR
 rw[this]
theorem e_answers{i:Nat}(W:EWd h e G)(hi:i<4){er:Int}{n:Nat}(ha:G.E.ans<1000000000)(hK: ∀h',EWd h' e (ansG G i er n)→Eside e G h (ansG G i er n) h'→K (.tuple #[]) h'):
  Cl 168 [ptrV e,.pointer (some ⟨e,3+24*i,none⟩),.agg #[.int .i64 er,.int .u64 (n:Int)]] h K:=by
 refine answers168 W.I hi ha fun h' I' O'=> ?_
 have hs: ∀k,((ansG G i er n).E.ses k).there=(G.E.ses k).there∧((ansG G i er n).E.ses k).hnd=(G.E.ses k).hnd∧((ansG G i er n).E.ses k).cal=(G.E.ses k).cal:=fun k=>by
  show((G.E.put i (ansS (G.E.ses i) er n)).ses k).there=_∧((G.E.put i (ansS (G.E.ses i) er n)).ses k).hnd=_∧((G.E.put i (ansS (G.E.ses i) er n)).ses k).cal=_
  rw[ses_put]
  by_cases q:k=i
  ·rw[if_pos q,q];exact⟨rfl,rfl,rfl⟩
  ·rw[if_neg q];exact⟨rfl,rfl,rfl⟩
 refine hK h' ⟨W.W.only O' (fun b hb=>by simp at hb;subst hb;exact W.de.1) (fun b hb=>by simp at hb;subst hb;exact W.de.2.1),W.R.only O' (fun b hb=>by simp at hb;subst hb;exact W.de.2.2),I',fun x=> ?_,W.de,W.dB,fun k hk r hr ht=> ?_,fun k hk r hr ht=> ?_,fun k hk=> ?_,W.po⟩ (Eside.some O' (fun b hb=>by simp at hb;subst hb;exact mem_ebl.2 (.inl rfl)) fun b hb=>hb)
 ·rw[ind_same fun k=>⟨(hs k).1,(hs k).2.1⟩];exact W.C x
 ·rw[(hs k).2.1];rw[(hs k).1]at ht;exact W.rg k hk r hr ht
 ·rw[(hs k).2.1];rw[(hs k).1]at ht;exact W.r0 k hk r hr ht
 ·rw[(hs k).2.2];exact W.mq k hk
def setG(G:EG)(i d v:Nat)(f':Int→Int):EG:={G with E:=G.E.put i (setS (G.E.ses i) d v),M:=G.M+2,f:=f'}
theorem e_sets{i d v:Nat}(W:EWd h e G)(hi:i<4)(hd:d<6)(ed:(G.E.ses i).cal.dst=(d:Int))(hv:isN G.N v)(hM:G.M+1≤LB)
  (hK: ∀h' f',EWd h' e (setG G i d v f')→Eside e G h (setG G i d v f') h'→K (.tuple #[]) h'):Cl 167 [ptrV e,.pointer (some ⟨e,3+24*i,none⟩),.int .u32 (v:Int)] h K:=by
 have lt:=W.W.S.isN_lt hv
 refine sets167 W.I W.R W.C W.de.2.2 hi hd ed (by omega) hM fun h' f' I' R' C' O'=> ?_
 have hS: ∀b∈e::G.B,b∉G.L∧ ¬PBl G.E.p G.P b:=fun b hb=>by
  rcases List.mem_cons.1 hb with q|q
  ·subst q;exact⟨W.de.1,W.de.2.1⟩
  ·exact W.dB b q
 refine hK h' f' ⟨W.W.only O' (fun b hb=>(hS b hb).1) (fun b hb=>(hS b hb).2),R',I',C',W.de,W.dB,fun k hk r hr ht=> ?_,fun k hk r hr ht=> ?_,fun k hk=> ?_,W.po⟩ (Eside.some O' (fun b hb=> ?_) fun b hb=>hb)
 ·have ht:((G.E.put i (setS (G.E.ses i) d v)).ses k).there r=true:=ht
  show isN G.N (((G.E.put i (setS (G.E.ses i) d v)).ses k).hnd r)
  rw[ses_put]at ht ⊢
  by_cases q:k=i
  ·rw[if_pos q]at ht ⊢
   by_cases w:r=d
   ·subst w
    rw[show(setS (G.E.ses i) r v).hnd r=v from upN_eq]
    exact hv
   ·rw[show(setS (G.E.ses i) d v).hnd r=(G.E.ses i).hnd r from upN_ne w]
    rw[show(setS (G.E.ses i) d v).there r=(G.E.ses i).there r from upN_ne w]at ht
    exact W.rg i hi r hr ht
  ·rw[if_neg q]at ht ⊢
   exact W.rg k hk r hr ht
 ·have ht:((G.E.put i (setS (G.E.ses i) d v)).ses k).there r=false:=ht
  show((G.E.put i (setS (G.E.ses i) d v)).ses k).hnd r=0
  rw[ses_put]at ht ⊢
  by_cases q:k=i
  ·rw[if_pos q]at ht ⊢
   by_cases w:r=d
   ·subst w
    rw[show(setS (G.E.ses i) r v).there r=true from upN_eq]at ht
    cases ht
   ·rw[show(setS (G.E.ses i) d v).hnd r=(G.E.ses i).hnd r from upN_ne w]
    rw[show(setS (G.E.ses i) d v).there r=(G.E.ses i).there r from upN_ne w]at ht
    exact W.r0 i hi r hr ht
  ·rw[if_neg q]at ht ⊢
   exact W.r0 k hk r hr ht
 ·show((G.E.put i (setS (G.E.ses i) d v)).ses k).cal.mask<256
  rw[ses_put]
  by_cases q:k=i
  ·rw[if_pos q];exact W.mq i hi
  ·rw[if_neg q];exact W.mq k hk
 ·rcases List.mem_cons.1 hb with q|q
  ·subst q;exact mem_ebl.2 (.inl rfl)
  ·exact mem_ebl.2 (.inr (.inr (.inl q)))
end
end
section
def trs(p:Nat→Bool)(k:Nat):List Nat:=(List.range k).filter p
theorem trs_succ(p:Nat→Bool)(k:Nat):trs p (k+1)=trs p k++if p k then [k]else []:=by
 unfold trs
 rw[List.range_succ,List.filter_append]
 cases h:p k<;>simp[h]
def tN(p:Nat→Bool)(k:Nat):Nat:=(trs p k).length
theorem tN_zero(p:Nat→Bool):tN p 0=0:=rfl
theorem tN_succ(p:Nat→Bool)(k:Nat):tN p (k+1)=tN p k+if p k then 1 else 0:=by
 unfold tN
 rw[trs_succ,List.length_append]
 cases p k<;>rfl
theorem tN_congr{p q:Nat→Bool}: ∀{k:Nat},(∀x,x<k→p x=q x)→tN p k=tN q k
 |0,_=>rfl
 |k+1,h=>by rw[tN_succ,tN_succ,tN_congr fun x hx=>h x (by omega),h k (by omega)]
theorem tN_add(p:Nat→Bool)(a:Nat): ∀b,tN p (a+b)=tN p a+tN (fun x=>p (a+x)) b
 |0=>by rw[tN_zero];rfl
 |b+1=>by rw[←Nat.add_assoc,tN_succ,tN_add p a b,tN_succ];omega
theorem flip_top{n x:Nat}(h:x<2^n):x^^^2^n=2^n+x:=by
 refine Nat.eq_of_testBit_eq fun i=> ?_
 rw[Nat.testBit_xor,Nat.testBit_two_pow]
 rcases Nat.lt_trichotomy i n with h1|h1|h1
 ·rw[Nat.testBit_two_pow_add_gt h1,decide_eq_false (by omega),Bool.xor_false]
 ·subst h1
  rw[Nat.testBit_two_pow_add_eq,decide_eq_true rfl,Bool.xor_true]
 ·have e:2^(n+1)≤2^i:=Nat.pow_le_pow_right (by decide) h1
  rw[Nat.pow_succ]at e
  rw[Nat.testBit_lt_two_pow (show x<2^i by omega),Nat.testBit_lt_two_pow (show 2^n+x<2^i by omega),decide_eq_false (by omega),Bool.xor_false]
theorem half: ∀(n v:Nat) {p q:Nat→Bool},v<n→(∀x,x<2^n→p (x^^^2^v)=p x)→(∀x,x<2^n→q (x^^^2^v)=q x)→
  2*tN (fun x=>if x.testBit v then q x else p x) (2^n)=tN p (2^n)+tN q (2^n)
 |0,v,p,q,hv,_,_=>by omega
 |n+1,v,p,q,hv,hp,hq=>by
  have e:2^(n+1)=2^n+2^n:=by rw[Nat.pow_succ];omega
  rw[e,tN_add,tN_add,tN_add]
  rcases Nat.lt_or_ge v n with h|h
  ·have cm: ∀x,x<2^n→2^n+(x^^^2^v)=(2^n+x)^^^2^v:=fun x hx=>by
    have lt:x^^^2^v<2^n:=Nat.xor_lt_two_pow hx (Nat.pow_lt_pow_right (by decide) h)
    rw[←flip_top lt,←flip_top hx,Nat.xor_assoc,Nat.xor_assoc,Nat.xor_comm (2^v)]
   have i1:=half n v (p:=p) (q:=q) h (fun x hx=>hp x (by omega)) fun x hx=>hq x (by omega)
   have i2:=half n v (p:=fun x=>p (2^n+x)) (q:=fun x=>q (2^n+x)) h (fun x hx=>by show p _=p _;rw[cm x hx,hp _ (by omega)]) fun x hx=>by show q _=q _;rw[cm x hx,hq _ (by omega)]
   have e2:tN (fun x=>if(2^n+x).testBit v then q (2^n+x)else p (2^n+x)) (2^n)=tN (fun x=>if x.testBit v then q (2^n+x)else p (2^n+x)) (2^n):=
    tN_congr fun x _=>by rw[Nat.testBit_two_pow_add_gt h]
   rw[e2]
   omega
  ·have:v=n:=by omega
   subst this
   have p2:tN (fun x=>p (2^v+x)) (2^v)=tN p (2^v):=tN_congr fun x hx=>by rw[←flip_top hx,hp x (by omega)]
   have q2:tN (fun x=>q (2^v+x)) (2^v)=tN q (2^v):=tN_congr fun x hx=>by rw[←flip_top hx,hq x (by omega)]
   have l1:tN (fun x=>if x.testBit v then q x else p x) (2^v)=tN p (2^v):=tN_congr fun x hx=>by rw[Nat.testBit_lt_two_pow hx];rfl
   have l2:tN (fun x=>if(2^v+x).testBit v then q (2^v+x)else p (2^v+x)) (2^v)=tN q (2^v):=tN_congr fun x hx=>by
    rw[Nat.testBit_two_pow_add_eq,Nat.testBit_lt_two_pow hx,←flip_top hx,hq x (by omega)]
    rfl
   rw[p2,q2,l1,l2]
   omega
section
variable {n:Nat}{f:Nat→Nat}{N:List (Option Nd)}
end
end
section
end
section
section
variable {h:Heap}{s:Nat}{L:List Nat}{X:SX}
end
end
section
structure Coll(G G':EG):Prop where
 E:G'.E=G.E
 n:G'.n=G.n
 room:G'.room=G.room
 fo:G'.fo=G.fo
 gg:G'.gg=G.gg
 off:G'.off=G.off
 P:G'.P=G.P
 f:G'.f=G.f
 ex:Ex G'.N G.N
 cnt:cntN G'.N≤cntN G.N
 M:G.M≤G'.M∧G'.M≤G.M+1000
 ok:NOk G'.n G'.N
 rg: ∀i,i<4→ ∀r,r<6→(G.E.ses i).there r=true→isN G'.N ((G.E.ses i).hnd r)
theorem Coll.refl{h:Heap}{e:Nat}{G:EG}(W:EWd h e G):Coll G G:=⟨rfl,rfl,rfl,rfl,rfl,rfl,rfl,rfl,Ex.refl _,Nat.le_refl _,⟨Nat.le_refl _,by omega⟩,W.W.S.ok.1,W.rg⟩
def MRspec(C:Nat→Nat→Prop):Prop:= ∀{h:Heap} {e:Nat} {G:EG} {K:Value→Heap→Prop},EWd h e G→C (cntN G.N) G.room→G.M≤LB/1000→
 (∀h' G',EWd h' e G'→Coll G G'→Eside e G h G' h'→K (.tuple #[]) h')→Cl 80 [ptrV e] h K
section
variable {h h':Heap}{e:Nat}{G G':EG}{K:Value→Heap→Prop}
theorem mr_less:MRspec fun c r=>c<r:=by
 intro h e G K W hc hM hK
 refine F80.spec _ h K ?_
 have rs:rd h ⟨e,0,none⟩=some (.pointer (some ⟨G.E.s,0,none⟩)):=W.I.s
 simp only[add_mk,Nat.zero_add]
 refine ldP_of rs (ldP_of rs (sto_len W.W.S (ldI_of rfl ⟨trivial,trivial,trivial,ldP_of rs ⟨rfl,sto_room W.W.S (ldI_of rfl ?_)⟩⟩)))
 have hc:cntN (XL G.n G.room G.fo G.gg G.N G.off).N<(XL G.n G.room G.fo G.gg G.N G.off).room:=hc
 rw[decide_eq_false (by omega),bcase_false]
 exact hK h G W (Coll.refl W) Eside.refl
def stoG(G:EG)(N':List (Option Nd))(L':List Nat):EG:={G with N:=N',L:=L'}
theorem EWd.sto{N':List (Option Nd)}{L':List Nat}(W:EWd h e G)(S:Sto h' G.E.s L' {XL G.n G.room G.fo G.gg G.N G.off with N:=N'})(E:Ex G.N N')(O:Only G.L h h')(F:Fresh G.L L' h):
  EWd h' e (stoG G N' L')∧Eside e G h (stoG G N' L') h':=by
 have ok:=W.W.S.ok.1
 have lt:=W.lt
 have DP: ∀b,PBl G.E.p G.P b→b∉L':=fun b hb hm=>by
  rcases F b hm with q|q
  ·exact W.W.D b hb q
  ·have:=lt b (mem_ebl.2 (.inr (.inr (.inr hb))));omega
 refine⟨⟨⟨sto_XL S ok E,W.W.H.only O fun b hb hp=>W.W.D b hp hb,(W.W.Ok.ext W.W.GO ok E).1,goals_ext W.W.GO E,DP⟩,W.R.only O (fun b hb hm=>(W.dB b hm).1 hb),W.I.only O W.de.1,W.C,⟨fun hm=> ?_,W.de.2.1,W.de.2.2⟩,fun b hb=>⟨fun hm=> ?_,(W.dB b hb).2⟩,fun i hi r hr ht=>E.isN (W.rg i hi r hr ht),W.r0,W.mq,W.po⟩,⟨fun T hT=>O.mono fun b hb _=>hT b (mem_ebl.2 (.inr (.inl hb))),fun b hb=> ?_⟩⟩
 ·rcases F e hm with q|q
  ·exact W.de.1 q
  ·have:=lt e (mem_ebl.2 (.inl rfl));omega
 ·rcases F b hm with q|q
  ·exact(W.dB b hb).1 q
  ·have:=lt b (mem_ebl.2 (.inr (.inr (.inl hb))));omega
 ·rcases mem_ebl.1 hb with q|q|q|q
  ·exact .inl (mem_ebl.2 (.inl q))
  ·rcases F b q with q|q
   ·exact .inl (mem_ebl.2 (.inr (.inl q)))
   ·exact .inr q
  ·exact .inl (mem_ebl.2 (.inr (.inr (.inl q))))
  ·exact .inl (mem_ebl.2 (.inr (.inr (.inr q))))
theorem mk_ex{room:Nat}{N N':List (Option Nd)}{l a b r er:Nat}(R:MkRel room N l a b N' r er):Ex N N'∧(er=0∨er=60)∧(er=60→room≤cntN N∧N'=N):=by
 rcases R with⟨-,-,e,e2⟩|⟨-,i,-,-,e,e2⟩|⟨-,-,h1,-,e,e2⟩|⟨-,-,-,e,q,-,p⟩
 ·subst e2;exact⟨Ex.refl _,.inl e,fun h=>by omega⟩
 ·subst e2;exact⟨Ex.refl _,.inl e,fun h=>by omega⟩
 ·subst e2;exact⟨Ex.refl _,.inr e,fun _=>⟨h1,rfl⟩⟩
 ·exact⟨p.ext,.inl e,fun h=>by omega⟩
end
end
section
def stepN(k:Int):Nat:=if k=1∨k=2∨k=6 then 123 else if k=4∨k=5 then 124 else if k=7 then 125 else if k=8 then 126 else 127
def sesP(e i:Nat):Value:= .pointer (some ⟨e,3+24*i,none⟩)
theorem go123:xget X 123=some Ext.go:=by kernel_rfl
theorem go124:xget X 124=some Ext.go:=by kernel_rfl
theorem go125:xget X 125=some Ext.go:=by kernel_rfl
theorem go126:xget X 126=some Ext.go:=by kernel_rfl
theorem go127:xget X 127=some Ext.go:=by kernel_rfl
theorem go_step(k:Int):xget X (stepN k)=some Ext.go:=by
 unfold stepN
 repeat' split
 ·exact go123
 ·exact go124
 ·exact go125
 ·exact go126
 ·exact go127
section
variable {h h':Heap}{e:Nat}{G G':EG}{K:Value→Heap→Prop}{C:Nat→Nat→Prop}
theorem step79{c:Cal}(hK: ∀h',Only [] h h'→K (.func (.func (stepN c.kind)) #[ptrV e] #[]) h'):Cl 79 [ptrV e,calV c] h K:=by
 refine F79.spec _ _ _ _ _ _ _ _ h K ?_
 refine newK_at fun h1 A1 O1 z1=> ?_
 simp only[add_mk,Nat.zero_add]
 refine ldI_of (n:=c.kind) (by rw[At.rd A1];rfl) ?_
 have hK:=hK h1 O1
 obtain⟨k,ek⟩: ∃k,k=c.kind:=⟨_,rfl⟩
 rw[←ek]at hK ⊢
 unfold stepN at hK
 by_cases h1:k=1
 ·subst h1;exact hK
 by_cases h2:k=2
 ·subst h2;exact hK
 by_cases h4:k=4
 ·subst h4;exact hK
 by_cases h5:k=5
 ·subst h5;exact hK
 by_cases h6:k=6
 ·subst h6;exact hK
 by_cases h7:k=7
 ·subst h7;exact hK
 by_cases h8:k=8
 ·subst h8;exact hK
 rw[if_neg (by omega),if_neg (by omega),if_neg h7,if_neg h8]at hK
 simp only[eqz h1,eqz h2,eqz h4,eqz h5,eqz h6,eqz h7,eqz h8,bcase_false]
 exact hK
theorem workers27(W:EWd h e G)(hK:K (.int .i64 (G.P.ws.length:Int)) h):Cl 27 [ptrV e] h K:=by
 refine F27.spec _ h K ?_
 exact ldP_of (by rw[add_mk];exact W.I.p) (workers68 W.W.H (ldI_of rfl hK))
theorem pick26{who draw:Int}(W:EWd h e G)(hOut:(who<0∨(G.P.ws.length:Int)≤who∨ ¬anyP G.E)→ ∀h',Only [] h h'→K (.bool false) h')
  (Inv:Nat→Heap→EG→Prop) (h0: ∀h',Only [] h h'→Inv 0 h' G) (hO: ∀{i h1 G1 h2},Inv i h1 G1→Only [] h1 h2→Inv i h2 G1) (hW: ∀{i h1 G1},Inv i h1 G1→EWd h1 e G1)
  (hn: ∀{i h1 G1},i<4→Inv i h1 G1→(G1.E.ses i).pend=false→Inv (i+1) h1 G1)
  (hs: ∀{i h1 G1} {Q:Value→Heap→Prop},i<4→Inv i h1 G1→(G1.E.ses i).pend=true→(∀b h2 G2,Inv (i+1) h2 G2→Q (.bool b) h2)→Cl (stepN (G1.E.ses i).cal.kind) [ptrV e,sesP e i] h1 Q)
  (hE:0≤who→who<(G.P.ws.length:Int)→anyP G.E→ ∀h1 G1,Inv 4 h1 G1→F26.wk11 ⟨e,0,none⟩ who draw h1 K):
  Cl 26 [ptrV e,.int .i64 who,.int .i64 draw] h K:=by
 refine F26.spec _ _ _ h K ?_
 refine bcase_of (fun q=>hOut (.inl (of_decide_eq_true q)) h (Only.refl _ _)) fun q=> ?_
 have q:=of_decide_eq_false q
 refine workers27 W (ldI_of rfl (bcase_of (fun p=>hOut (.inr (.inl (of_decide_eq_true p))) h (Only.refl _ _)) fun p=> ?_))
 have p: ¬(G.P.ws.length:Int)≤who:=of_decide_eq_false p
 refine pending78 W.I (fun a h1 O1=>ldB_of rfl ?_) fun a h1 O1=>ldB_of rfl (hOut (.inr (.inr a)) h1 O1)
 rw[Bool.not_true,bcase_false]
 unfold F26.wk4
 have main: ∀(d i:Nat) (hh:Heap) (G1:EG),d+i=4→Inv i hh G1→F26.wL4 (d+1) ⟨e,0,none⟩ who draw (i:Int) hh K:=by
  intro d
  induction d with
  |zero=>
   intro i hh G1 hi I
   rw[F26.sL4]
   rw[decide_eq_false (by omega),bcase_false]
   have ei:i=4:=by omega
   subst ei
   exact hE (by omega) (by omega) a hh G1 I
  |succ d ih=>
   intro i hh G1 hi I
   rw[F26.sL4]
   rw[decide_eq_true (by omega),bcase_true]
   have hi4:i<4:=by omega
   have W1:=hW I
   simp only[add_mk]
   rw[show 0+3+Int.toNat (i:Int)*24=3+24*i by omega]
   have nx: ∀{h2 G2},Inv (i+1) h2 G2→F26.wL4 (d+1) ⟨e,0,none⟩ who draw (IntKind.wrap .i64 ((i:Int)+1)) h2 K:=fun {h2 G2} I2=>by
    rw[wr_s hi4]
    exact ih (i+1) h2 G2 (by omega) I2
   refine⟨by omega,by omega,ldB_of (W1.I.pend hi4 rfl) (bcase_of (fun pe=> ?_) fun pe=>nx (hn hi4 I pe))⟩
   refine ldI_of (W1.I.kind hi4 (by omega)) (ldI_of (W1.I.op hi4 (by omega)) (ldI_of (W1.I.dst hi4 (by omega)) (ldI_of (W1.I.ca hi4 (by omega)) (ldI_of (W1.I.cb hi4 (by omega)) (ldI_of (W1.I.cc hi4 (by omega)) (ldI_of (W1.I.mask hi4 (by omega)) ?_))))))
   refine step79 (c:=(G1.E.ses i).cal) fun h2 O2=>⟨_,rfl,?_⟩
   refine dynK_go (go_step _) ?_
   exact hs hi4 (hO I O2) pe fun b h3 G3 I3=>ldB_of rfl (nx I3)
 exact⟨_,main 4 0 h1 G (by omega) (h0 h1 O1)⟩
def PickR(w:Nat)(G G':EG):Prop:= ∃G1 N' P' L' k,Coll G G1∧PoolOk G1.n G1.fo G1.N G1.P∧G'={G1 with N:=N',P:=P',L:=L'}∧Picked G1.n G1.fo G1.room G1.N N' G1.P P'∧G1.P.ws[w]? =some k∧(phi G1.n N' P'+1≤phi G1.n G1.N G1.P∨(k.job=0∧k.q=[]∧WsEq G1.P.ws P'.ws))
theorem EWd.pool{N':List (Option Nd)}{P':PS}{L':List Nat}(W:EWd h e G)(W':Wld h' G.E.p G.E.s G.n G.room G.fo G.gg G.off N' P' L')(E:Ex G.N N')(S:Beside G.E.p G.P G.L h P' L' h'):
  EWd h' e {G with N:=N',P:=P',L:=L'}∧Eside e G h {G with N:=N',P:=P',L:=L'} h':=by
 have lt:=W.lt
 have O':=S.O (pbl G.E.p G.P++G.L) (fun b hb=>List.mem_append.2 (.inl (mem_pbl.2 hb))) fun b hb=>List.mem_append.2 (.inr hb)
 have spare: ∀{b},b∉G.L→ ¬PBl G.E.p G.P b→b∉pbl G.E.p G.P++G.L:=fun h1 h2 hm=>by
  rcases List.mem_append.1 hm with q|q
  ·exact h2 (mem_pbl.1 q)
  ·exact h1 q
 have nL: ∀{b},b∈ebl e G→b∉G.L→b∉L':=fun hb hn hm=>by
  rcases S.F _ hm with q|q
  ·exact hn q
  ·have:=lt _ hb;omega
 have nP: ∀{b},b∈ebl e G→ ¬PBl G.E.p G.P b→ ¬PBl G.E.p P' b:=fun hb hn hm=>by
  rcases S.B _ hm with q|q
  ·exact hn q
  ·have:=lt _ hb;omega
 have me:e∈ebl e G:=mem_ebl.2 (.inl rfl)
 have mB: ∀b∈G.B,b∈ebl e G:=fun b hb=>mem_ebl.2 (.inr (.inr (.inl hb)))
 refine⟨⟨W',W.R.only O' fun b hb hm=>(spare (W.dB b hm).1 (W.dB b hm).2) hb,W.I.only O' (spare W.de.1 W.de.2.1),W.C,⟨nL me W.de.1,nP me W.de.2.1,W.de.2.2⟩,fun b hb=>⟨nL (mB b hb) (W.dB b hb).1,nP (mB b hb) (W.dB b hb).2⟩,fun i hi r hr ht=>E.isN (W.rg i hi r hr ht),W.r0,W.mq,W.po⟩,⟨fun T hT=>S.O T (fun b hb=>hT b (mem_ebl.2 (.inr (.inr (.inr hb))))) fun b hb=>hT b (mem_ebl.2 (.inr (.inl hb))),fun b hb=> ?_⟩⟩
 rcases mem_ebl.1 hb with q|q|q|q
 ·exact .inl (mem_ebl.2 (.inl q))
 ·rcases S.F b q with q|q
  ·exact .inl (mem_ebl.2 (.inr (.inl q)))
  ·exact .inr q
 ·exact .inl (mem_ebl.2 (.inr (.inr (.inl q))))
 ·rcases S.B b q with q|q
  ·exact .inl (mem_ebl.2 (.inr (.inr (.inr q))))
  ·exact .inr q
theorem pick_end(mr:MRspec C)(W:EWd h e G)(hC:C (cntN G.N) G.room)(hM:G.M≤LB/1000){draw:Int}{w:Nat}(hw:w<G.P.ws.length)
  (hK: ∀h' G',EWd h' e G'→Eside e G h G' h'→PickR w G G'→K (.bool true) h'):F26.wk11 ⟨e,0,none⟩ (w:Int) draw h K:=by
 unfold F26.wk11
 refine mr W hC hM fun h1 G1 W1 C1 S1=>⟨rfl,?_⟩
 simp only[add_mk,Nat.zero_add]
 refine ldP_of W1.I.p ?_
 have hl:(G1.P.ws.length:Int)=(G.P.ws.length:Int):=by rw[C1.P]
 refine wld_pick W1.W (who:=(w:Int)) (fun q=>by omega) fun h2 L2 N2 P2 b w' k ew hk W2 Pk _ hph B2=>ldB_of rfl ?_
 have ew:w'=w:=by omega
 subst ew
 obtain⟨W3,S3⟩:=W1.pool W2 Pk.ex B2
 exact hK h2 _ W3 (S1.trans S3) ⟨G1,N2,P2,L2,k,C1,W1.W.Ok,rfl,Pk,hk,hph⟩
def VarR(i d:Nat)(G G':EG)(er:Int):Prop:= ∃G1 N2 L2 r er' f',Coll G G1∧MkRel G1.room G1.N (G1.gg (G.E.ses i).cal.mask) 0 1 N2 r er'∧er=(er':Int)∧G'=if er'=0 then setG (stoG G1 N2 L2) i d r f' else stoG G1 N2 L2
theorem e_variable(mr:MRspec C)(W:EWd h e G){i d:Nat}(hi:i<4)(hC:C (cntN G.N) G.room)(hM:G.M+2000≤LB/1000)(hv:(G.E.ses i).cal.mask<G.n)(hd:d<6)(ed:(G.E.ses i).cal.dst=(d:Int))
  (hK: ∀h' G' (er:Int),EWd h' e G'→Eside e G h G' h'→VarR i d G G' er→K (.int .i64 er) h'):Cl 165 [ptrV e,sesP e i] h K:=by
 have hLB:LB=140737488355328:=rfl
 refine F165.spec _ _ h K ?_
 refine mr W hC (by omega) fun h1 G1 W1 C1 S1=>⟨rfl,?_⟩
 simp only[add_mk,Nat.zero_add]
 have mq:=W.mq i hi
 refine ldP_of W1.I.s (ldI_of (n:=((G.E.ses i).cal.mask:Int)) (by rw[W1.I.mask hi (by omega),C1.E]) ?_)
 rw[wrap_i64 (by omega) (by omega)]
 have hv1:(G.E.ses i).cal.mask<G1.n:=by rw[C1.n];exact hv
 have pg:=(W1.po.1 _ hv1).1
 refine sto_var W1.W.S hv1 pg fun h2 L2 N2 r er R S2 O2 F2=>⟨_,_,rfl,?_⟩
 have R:MkRel G1.room G1.N (G1.gg (G.E.ses i).cal.mask) 0 1 N2 r er:=R
 obtain⟨E2,e2,-⟩:=mk_ex R
 obtain⟨W2,T2⟩:=W1.sto S2 E2 O2 F2
 rcases e2 with q|q
 ·subst q
  rw[show(((0:Nat):Int)==0)=true from rfl,bcase_true]
  have hr:isN N2 r:=by
   have e0:lvl G1.n G1.N 0=G1.n:=by unfold lvl;rw[if_pos (by omega)]
   exact(mk_node (f:=G1.fo) W1.W.S.ok.1 W2.W.S.ok.1 (a:=0) (b:=1) (.inl (by omega)) (.inl (by omega)) (show _<lvl G1.n G1.N 0 by rw[e0];exact pg) R).2.1
  have ed1:((stoG G1 N2 L2).E.ses i).cal.dst=(d:Int):=by show(G1.E.ses i).cal.dst=_;rw[C1.E];exact ed
  have hm1:(stoG G1 N2 L2).M+1≤LB:=by show G1.M+1≤LB;have:=C1.M.2;omega
  refine e_sets W2 hi hd ed1 hr hm1 fun h3 f3 W3 T3=>⟨rfl,hK h3 _ _ W3 ((S1.trans T2).trans T3) ⟨G1,N2,L2,r,0,f3,C1,R,rfl,by rw[if_pos rfl]⟩⟩
 ·subst q
  rw[show(((60:Nat):Int)==0)=false from rfl,bcase_false]
  exact hK h2 _ _ W2 (S1.trans T2) ⟨G1,N2,L2,r,60,G1.f,C1,R,rfl,by rw[if_neg (by omega)]⟩
end
end
section
namespace F42
def T:Hint:=⟨[(2,[0,3]),(5,[0,3,4]),(8,[0])],[]⟩
noncomputable def body:Code:=(Tryz.f42.body).getD .skip
noncomputable def en(S:Stop)(p:List Nat)(κ:XK):Fr→Heap→Prop:=E Tryz.prog X T S (sub body p) κ
noncomputable def ln(S:Stop)(p:List Nat)(κ:XK)(n:Nat):Fr→Heap→Prop:=loopN S (E Tryz.prog X T S (sub body p)) (cutQ T (sub body p)) κ n
def fn(K:KK):XK:=fin Tryz.prog Tryz.f42.results.toList K
noncomputable def c0(S:Stop)(K:KK):XK:=seqN S (cutQ T (sub body [1,1])) (en S [1,1] (fn K)) (fn K)
noncomputable def c1(S:Stop)(K:KK):XK:=blockN 0 (c0 S K)
noncomputable def c2(S:Stop)(n2:Nat)(K:KK):XK:=backN S (cutQ T (sub body [1,0,1,0,0])) (ln S [1,0,1,0,0] (c1 S K) n2) (c1 S K)
noncomputable def c3(S:Stop)(n2:Nat)(K:KK):XK:=seqN S (cutQ T (sub body [1,0,1,0,0,1,1])) (en S [1,0,1,0,0,1,1] (c2 S n2 K)) (c2 S n2 K)
noncomputable def c4(S:Stop)(n2:Nat)(K:KK):XK:=blockN 1 (c3 S n2 K)
noncomputable def c5(S:Stop)(n2:Nat)(K:KK):XK:=blockN 2 (c4 S n2 K)
noncomputable def c6(S:Stop)(n2:Nat)(n5:Nat)(K:KK):XK:=backN S (cutQ T (sub body [1,0,1,0,0,1,0,0,1,0,0])) (ln S [1,0,1,0,0,1,0,0,1,0,0] (c5 S n2 K) n5) (c5 S n2 K)
def f2(a:Addr)(b:Int):Fr:=[(0,(.pointer (some a))),(3,(.int .i64 b))]
def f5(a:Addr)(b c:Int):Fr:=[(0,(.pointer (some a))),(3,(.int .i64 b)),(4,(.int .i64 c))]
def f8(a:Addr):Fr:=[(0,(.pointer (some a)))]
def J0(k2:Addr→Int→Heap→Prop)(a:Addr)(h:Heap)(_K:KK):Prop:=
 k2 a (0:Int) h
theorem E0(S:Stop)(a:Addr)(h:Heap)(K:KK):(E Tryz.prog X T S body (fin Tryz.prog Tryz.f42.results.toList K) (args0 0 [(.pointer (some a))]) h)=J0 (fun a b h=>S (en S [1,0,1] (c0 S K)) (f2 a b) h) a h K:=by kernel_rfl
def Jk2(lp2:Addr→Int→Heap→Prop)(a:Addr)(b:Int)(h:Heap)(_K:KK):Prop:=
 lp2 a b h
theorem Ek2(S:Stop)(a:Addr)(b:Int)(h:Heap)(K:KK):(en S [1,0,1] (c0 S K) (f2 a b) h)=Jk2 (fun a b h=> ∃n,S (ln S [1,0,1,0,0] (c1 S K) n) (f2 a b) h) a b h K:=by kernel_rfl
def JL2(k5:Addr→Int→Int→Heap→Prop)(k8:Addr→Heap→Prop)(a:Addr)(b:Int)(h:Heap)(_K:KK):Prop:=
 bcase (decide (b<(1048576:Int))) (Cl 99 [(.pointer (some a))] h (fun v1 h2=>ldB (some v1) (fun b3=>bcase b3 (k5 a b (0:Int) h2) (k8 a h2)))) (k8 a h)
theorem EL2(S:Stop)(n2:Nat)(a:Addr)(b:Int)(h:Heap)(K:KK):(en S [1,0,1,0,0] (c2 S n2 K) (f2 a b) h)=JL2 (fun a b c h=>S (en S [1,0,1,0,0,1,0,0,1] (c4 S n2 K)) (f5 a b c) h) (fun a h=>S (en S [1,1] (fn K)) (f8 a) h) a b h K:=by kernel_rfl
def Jk5(lp5:Addr→Int→Int→Heap→Prop)(a:Addr)(b c:Int)(h:Heap)(_K:KK):Prop:=
 lp5 a b c h
theorem Ek5(S:Stop)(n2:Nat)(a:Addr)(b c:Int)(h:Heap)(K:KK):(en S [1,0,1,0,0,1,0,0,1] (c4 S n2 K) (f5 a b c) h)=Jk5 (fun a b c h=> ∃n,S (ln S [1,0,1,0,0,1,0,0,1,0,0] (c5 S n2 K) n) (f5 a b c) h) a b c h K:=by kernel_rfl
def JL5(bk5:Addr→Int→Int→Heap→Prop)(bk2:Addr→Int→Heap→Prop)(a:Addr)(b c:Int)(h:Heap)(_K:KK):Prop:=
 Cl 27 [(.pointer (some a))] h (fun v1 h2=>ldI .i64 (some v1) (fun n3=>bcase (decide (c<n3)) (Cl 26 [(.pointer (some a)),(.int .i64 c),(.int .i64 b)] h2 (fun v4 h5=>ldB (some v4) (fun _=>bk5 a b (IntKind.wrap .i64 (c+(1:Int))) h5))) (bk2 a (IntKind.wrap .i64 (b+(1:Int))) h2)))
theorem EL5(S:Stop)(n2:Nat)(n5:Nat)(a:Addr)(b c:Int)(h:Heap)(K:KK):(en S [1,0,1,0,0,1,0,0,1,0,0] (c6 S n2 n5 K) (f5 a b c) h)=JL5 (fun a b c h=>S (ln S [1,0,1,0,0,1,0,0,1,0,0] (c5 S n2 K) n5) (f5 a b c) h) (fun a b h=>S (ln S [1,0,1,0,0] (c1 S K) n2) (f2 a b) h) a b c h K:=by kernel_rfl
def Jk8(a:Addr)(h:Heap)(K:KK):Prop:=
 Cl 99 [(.pointer (some a))] h (fun v1 h2=>ldB (some v1) (fun b3=>K (.bool (!b3)) h2))
theorem Ek8(S:Stop)(a:Addr)(h:Heap)(K:KK):(en S [1,1] (fn K) (f8 a) h)=Jk8 a h K:=by kernel_rfl
def wL5(bk2:Addr→Int→Heap→Prop):Nat→Addr→Int→Int→Heap→KK→Prop
 |0,_,_,_,_,_=>False
 |n+1,a,b,c,h,K=>JL5 (fun a b c h=>wL5 bk2 n a b c h K) bk2 a b c h K
theorem eL5(K:KK)(n2:Nat)(bk2:Addr→Int→Heap→Prop)(hb2: ∀(a:Addr) (b:Int) (h:Heap),(ln S0 [1,0,1,0,0] (c1 S0 K) n2 (f2 a b) h)=bk2 a b h): ∀(n:Nat) (a:Addr) (b c:Int) (h:Heap),(ln S0 [1,0,1,0,0,1,0,0,1,0,0] (c5 S0 n2 K) n (f5 a b c) h)=wL5 bk2 n a b c h K
 |0,_,_,_,_=>rfl
 |n+1,a,b,c,h=>(EL5 S0 n2 n a b c h K).trans (cg2 (fun q0 q1=>JL5 q0 q1 a b c h K) (by funext a b c h;exact(fun a b c h=>eL5 K n2 bk2 hb2 n a b c h) a b c h) (by funext a b h;exact hb2 a b h))
def wk5(bk2:Addr→Int→Heap→Prop)(a:Addr)(b c:Int)(h:Heap)(K:KK):Prop:=
 Jk5 (fun a b c h=> ∃m,wL5 bk2 m a b c h K) a b c h K
theorem ek5(K:KK)(n2:Nat)(bk2:Addr→Int→Heap→Prop)(hb2: ∀(a:Addr) (b:Int) (h:Heap),(ln S0 [1,0,1,0,0] (c1 S0 K) n2 (f2 a b) h)=bk2 a b h)(a:Addr)(b c:Int)(h:Heap):(en S0 [1,0,1,0,0,1,0,0,1] (c4 S0 n2 K) (f5 a b c) h)=wk5 bk2 a b c h K:=(Ek5 S0 n2 a b c h K).trans (cg1 (fun q0=>Jk5 q0 a b c h K) (by funext a b c h;exact ex_congr fun m=>eL5 K n2 bk2 hb2 m a b c h))
def wk8(a:Addr)(h:Heap)(K:KK):Prop:=
 Jk8 a h K
theorem ek8(K:KK)(a:Addr)(h:Heap):(en S0 [1,1] (fn K) (f8 a) h)=wk8 a h K:=(Ek8 S0 a h K).trans (rfl)
def wL2:Nat→Addr→Int→Heap→KK→Prop
 |0,_,_,_,_=>False
 |n+1,a,b,h,K=>JL2 (fun a b c h=>wk5 (fun a b h=>wL2 n a b h K) a b c h K) (fun a h=>wk8 a h K) a b h K
theorem eL2(K:KK): ∀(n:Nat) (a:Addr) (b:Int) (h:Heap),(ln S0 [1,0,1,0,0] (c1 S0 K) n (f2 a b) h)=wL2 n a b h K
 |0,_,_,_=>rfl
 |n+1,a,b,h=>(EL2 S0 n a b h K).trans (cg2 (fun q0 q1=>JL2 q0 q1 a b h K) (by funext a b c h;exact ek5 K n (fun a b h=>wL2 n a b h K) (fun a b h=>eL2 K n a b h) a b c h) (by funext a h;exact ek8 K a h))
def wk2(a:Addr)(b:Int)(h:Heap)(K:KK):Prop:=
 Jk2 (fun a b h=> ∃m,wL2 m a b h K) a b h K
theorem ek2(K:KK)(a:Addr)(b:Int)(h:Heap):(en S0 [1,0,1] (c0 S0 K) (f2 a b) h)=wk2 a b h K:=(Ek2 S0 a b h K).trans (cg1 (fun q0=>Jk2 q0 a b h K) (by funext a b h;exact ex_congr fun m=>eL2 K m a b h))
def w(a:Addr)(h:Heap)(K:KK):Prop:=
 J0 (fun a b h=>wk2 a b h K) a h K
theorem e0(K:KK)(a:Addr)(h:Heap):(E Tryz.prog X T S0 body (fin Tryz.prog Tryz.f42.results.toList K) (args0 0 [(.pointer (some a))]) h)=w a h K:=(E0 S0 a h K).trans (cg1 (fun q0=>J0 q0 a h K) (by funext a b h;exact ek2 K a b h))
theorem hb:Tryz.f42.body=some body:=by kernel_rfl
theorem ok:okCode T Tryz.f42.ntmps body=true:=by kernel_rfl
theorem spec(a:Addr)(h:Heap)(K:KK)(H:w a h K):Cl 42 [(.pointer (some a))] h K:=
 calls_of_E (T:=T) Xok mix Tryz.func42 hb ok rfl (by rw[e0];exact H)
end F42
def F99.T:Hint:=⟨[(2,[0,3])],[]⟩
section
variable (n:Nat)(a:Addr)(b:Int)(h:Heap)(K:KK)
def F99.wL2:Prop:=Lp Tryz.f99 F99.T [1,0,1,0] n [(0,(.pointer (some a))),(3,(.int .i64 b))] h K
theorem F99.sL2:F99.wL2 (n+1) a b h K=(bcase (decide (b<(4:Int))) (Cl 56 [.pointer (some a),.int .i64 b] h fun v1 h2=>ldB (some v1) fun b3=>bcase b3 (K (.bool true) h2) (F99.wL2 n a (IntKind.wrap .i64 (b+(1:Int))) h2 K)) (K (.bool false) h)):=by kernel_rfl
def F99.wk2:Prop:=(∃m,F99.wL2 m a b h K)
theorem F99.spec(H:F99.wk2 a (0:Int) h K):Cl 99 [.pointer (some a)] h K:=cT F99.T Tryz.func99 H
end
theorem F57.spec(a:Int)(h:Heap)(K:KK)(H:bcase (a==(0:Int)) (K (.int .i64 1) h) (K (.int .i64 0) h)):Cl 57 [.int .i64 a] h K:=cN Tryz.func57 H
theorem F40.spec(h:Heap)(K:KK)(H:Cl 18 [.int .i64 4,.int .i64 16400,.int .i64 2] h fun v1 h2=> ∃p3:Option Addr,∃n4:Int,v1=(.tuple #[.pointer p3,.int .i64 n4])∧Cl 18 [.int .i64 9,.int .i64 100,.int .i64 2] h2 fun v5 h6=> ∃p7:Option Addr,∃n8:Int,v5=(.tuple #[.pointer p7,.int .i64 n8])∧bcase (n4 !=(0:Int)) (K (.bool false) h6) (bcase (Option.isNone p3) (K (.bool false) h6) (bcase (n8 !=(40:Int)) (K (.bool false) h6) (Cl 27 [.pointer p3] h6 fun v9 h10=>ldI .i64 (some v9) fun n11=>bcase (n11 !=(2:Int)) (K (.bool false) h10) (Cl 24 [.pointer p3,.int .i64 0,.agg #[.int .i64 1,.int .i64 0,.int .i64 1,.int .i64 0,.int .i64 0,.int .i64 0,.int .u8 2]] h10 fun v12 h13=>ldI .i64 (some v12) fun n14=>Cl 24 [.pointer p3,.int .i64 0,.agg #[.int .i64 6,.int .i64 0,.int .i64 0,.int .i64 0,.int .i64 0,.int .i64 0,.int .u8 0]] h13 fun v15 h16=>ldI .i64 (some v15) fun n17=>Cl 24 [.pointer p3,.int .i64 1,.agg #[.int .i64 4,.int .i64 0,.int .i64 0,.int .i64 0,.int .i64 0,.int .i64 0,.int .u8 0]] h16 fun v18 h19=>ldI .i64 (some v18) fun n20=>bcase (n14 !=(0:Int)) (K (.bool false) h19) (bcase (n17 !=(220:Int)) (K (.bool false) h19) (bcase (n20 !=(221:Int)) (K (.bool false) h19) (Cl 56 [.pointer p3,.int .i64 0] h19 fun v21 h22=>ldB (some v21) fun b23=>bcase (!b23) (K (.bool false) h22) (Cl 42 [.pointer p3] h22 fun v24 h25=>ldB (some v24) fun b26=>bcase (!b26) (K (.bool false) h25) (Cl 43 [.pointer p3,.int .i64 0] h25 fun v27 h28=> ∃n29:Int,∃n30:Int,∃b31:Bool,v27=(.tuple #[.agg #[.int .i64 n29,.int .u64 n30],.bool b31])∧newK h28 (.cells #[.int .i64 0,.int .u64 0] 76) fun b32 h33=>stK h33 ((Addr.mk b32 0 none).add 0) (.int .i64 n29) fun h34=>stK h34 ((Addr.mk b32 0 none).add 1) (.int .u64 n30) fun h35=>Cl 28 [.pointer p3,.int .i64 0,.int .i64 1] h35 fun v36 h37=> ∃n38:Int,∃b39:Bool,v36=(.tuple #[.int .u32 n38,.bool b39])∧bcase b31 (ldI .i64 (rd h37 ((Addr.mk b32 0 none).add 0)) fun n40=>bcase (n40==(0:Int)) (bcase b39 (Cl 23 [.pointer p3] h37 fun v41 h42=>ldP (some v41) fun p43=>Cl 33 [.int .i64 2] h42 fun v44 h45=> ∃n46:Int,∃n47:Int,∃n48:Int,∃n49:Int,v44=(.agg #[.int .u64 n46,.int .u64 n47,.int .u64 n48,.int .u64 n49])∧Cl 58 [.pointer p43,.int .u32 n38,.agg #[.int .u64 n46,.int .u64 n47,.int .u64 n48,.int .u64 n49]] h45 fun v50 h51=>ldB (some v50) fun b52=>bcase b52 (Cl 54 [.pointer p3] h51 fun v53 h54=>ldI .i64 (some v53) fun n55=>K (.bool (n55==(1:Int))) h54) (K (.bool false) h51)) (K (.bool false) h37)) (K (.bool false) h37)) (K (.bool false) h37))))))))))):Cl 40 [] h K:=cN Tryz.func40 H
def F11.T:Hint:=⟨[(14,[0,5,7,14])],[]⟩
section
variable (a:Int)(l:Addr)(m:Option Addr)(o:Int)(h:Heap)(K:KK)
def F11.wk14:Prop:=ldI .i64 (rd h (l.add 0)) fun n1=>ldI .i64 (rd h (l.add 1)) fun n2=>ldI .i64 (rd h (l.add 2)) fun n3=>ldI .i64 (rd h (l.add 3)) fun n4=>ldI .i64 (rd h (l.add 4)) fun n5=>ldI .i64 (rd h (l.add 5)) fun n6=>ldI .u8 (rd h (l.add 6)) fun n7=>Cl 24 [.pointer m,.int .i64 a,.agg #[.int .i64 n1,.int .i64 n2,.int .i64 n3,.int .i64 n4,.int .i64 n5,.int .i64 n6,.int .u8 n7]] h fun v8 h9=>ldI .i64 (some v8) fun n10=>bcase (n10 !=o) (K (.bool false) h9) (Cl 56 [.pointer m,.int .i64 a] h9 fun v11 h12=>ldB (some v11) fun b13=>bcase (!(b13==(n10==(0:Int)))) (K (.bool false) h12) (Cl 42 [.pointer m] h12 fun v14 h15=>ldB (some v14) fun b16=>bcase b16 (Cl 54 [.pointer m] h15 fun v17 h18=>ldI .i64 (some v17) fun n19=>Cl 57 [.int .i64 n10] h18 fun v20 h21=>ldI .i64 (some v20) fun n22=>K (.bool (n19==n22)) h21) (K (.bool false) h15)))
theorem F11.spec(a q b c d f g i j:Int)(h:Heap)(K:KK)(H:newK h (.cells #[.int .i64 b,.int .i64 c,.int .i64 d,.int .i64 f,.int .i64 g,.int .i64 i,.int .u8 j] 41) fun b1 h2=>Cl 40 [] h2 fun v3 h4=>ldB (some v3) fun b5=>bcase (!b5) (K (.bool false) h4) (Cl 18 [.int .i64 4,.int .i64 300,.int .i64 2] h4 fun v6 h7=> ∃p8:Option Addr,∃n9:Int,v6=(.tuple #[.pointer p8,.int .i64 n9])∧bcase (n9 !=(0:Int)) (K (.bool false) h7) (Cl 28 [.pointer p8,.int .i64 a,.int .i64 q] h7 fun v10 h11=> ∃n12:Int,∃b13:Bool,v10=(.tuple #[.int .u32 n12,.bool b13])∧Cl 43 [.pointer p8,.int .i64 a] h11 fun v14 h15=> ∃n16:Int,∃n17:Int,∃b18:Bool,v14=(.tuple #[.agg #[.int .i64 n16,.int .u64 n17],.bool b18])∧newK h15 (.cells #[.int .i64 0,.int .u64 0] 76) fun b19 h20=>stK h20 ((Addr.mk b19 0 none).add 0) (.int .i64 n16) fun h21=>stK h21 ((Addr.mk b19 0 none).add 1) (.int .u64 n17) fun h22=>bcase b13 (K (.bool false) h22) (bcase (n12 !=(0:Int)) (K (.bool false) h22) (bcase b18 (K (.bool false) h22) (Cl 56 [.pointer p8,.int .i64 a] h22 fun v23 h24=>ldB (some v23) fun b25=>bcase b25 (K (.bool false) h24) (newK h24 (.cells #[.int .u64 0,.int .u64 0,.int .u64 0,.int .u64 0,.int .u64 0,.int .u64 0,.int .u64 0,.int .u64 0,.int .u64 0,.int .u64 0,.int .u64 0,.int .u64 0,.int .u64 0,.int .u64 0,.int .u64 0,.int .u64 0,.int .u64 0,.int .u64 0,.int .u64 0,.int .u64 0,.int .u64 0,.int .u64 0,.int .u64 0,.int .u64 0,.bool false,.bool false,.bool false,.bool false,.bool false,.bool false,.int .i64 0,.int .i64 0,.int .i64 0,.int .i64 0,.int .i64 0,.int .i64 0,.int .u8 0,.bool false,.int .i64 0,.int .u64 0,.bool false] 78) fun b26 h27=>ldI .i64 (rd h27 ((Addr.mk b1 0 none).add 0)) fun n28=>ldI .i64 (rd h27 ((Addr.mk b1 0 none).add 1)) fun n29=>ldI .i64 (rd h27 ((Addr.mk b1 0 none).add 2)) fun n30=>ldI .i64 (rd h27 ((Addr.mk b1 0 none).add 3)) fun n31=>ldI .i64 (rd h27 ((Addr.mk b1 0 none).add 4)) fun n32=>ldI .i64 (rd h27 ((Addr.mk b1 0 none).add 5)) fun n33=>ldI .u8 (rd h27 ((Addr.mk b1 0 none).add 6)) fun n34=>Cl 41 [.pointer (some (Addr.mk b26 0 none)),.agg #[.int .i64 n28,.int .i64 n29,.int .i64 n30,.int .i64 n31,.int .i64 n32,.int .i64 n33,.int .u8 n34],.int .i64 4] h27 fun v35 h36=>ldI .i64 (some v35) fun n37=>bcase (decide (a<(0:Int))) (F11.wk14 a (Addr.mk b1 0 none) p8 (222:Int) h36 K) (bcase (decide (a≥(4:Int))) (F11.wk14 a (Addr.mk b1 0 none) p8 (222:Int) h36 K) (F11.wk14 a (Addr.mk b1 0 none) p8 n37 h36 K))))))))):Cl 11 [.int .i64 a,.int .i64 q,.agg #[.int .i64 b,.int .i64 c,.int .i64 d,.int .i64 f,.int .i64 g,.int .i64 i,.int .u8 j]] h K:=cT F11.T Tryz.func11 H
end
end
section
theorem refu2_zero{n:Nat}{c:Cal}(h:refu2 n c=0):(c.kind=3→takesZ c.op≠0)∧(c.kind=1→c.mask<n)∧(c.kind=3→c.op=8→c.mask<n)∧(c.kind=3→(c.op=6∨c.op=7)→c.mask/2^n=0):=by
 unfold refu2 at h
 split at h
 ·cases h
 ·rename_i a
  split at h
  ·cases h
  ·rename_i b
   split at h
   ·cases h
   ·rename_i d
    refine⟨fun k t=>a ⟨k,t⟩,fun k=> ?_,fun k o=> ?_,fun k o=> ?_⟩
    ·exact Nat.lt_of_not_le fun q=>b ⟨.inl k,q⟩
    ·exact Nat.lt_of_not_le fun q=>b ⟨.inr ⟨k,o⟩,q⟩
    ·exact Classical.byContradiction fun q=>d ⟨k,o,q⟩
theorem refu_zero{n:Nat}{x:Ses}{c:Cal}(h:refu n x c=0):(1≤c.kind∧c.kind≤8)∧(wrK c.kind→isR c.dst)∧rdsOk x c∧refu2 n c=0:=by
 unfold refu at h
 split at h
 ·cases h
 ·rename_i a
  split at h
  ·cases h
  ·rename_i b
   split at h
   ·cases h
   ·rename_i d
    exact⟨Classical.not_not.1 a,fun w=>Classical.byContradiction fun q=>b ⟨w,q⟩,Classical.not_not.1 d,h⟩
section
variable {h h':Heap}{e:Nat}{G G':EG}{K:Value→Heap→Prop}{C:Nat→Nat→Prop}
def clrG(G:EG)(i d:Nat)(f':Int→Int):EG:={G with E:=G.E.put i (clrS (G.E.ses i) d),M:=G.M+1,f:=f'}
theorem e_clears{i d:Nat}(W:EWd h e G)(hi:i<4)(hd:d<6)(ed:(G.E.ses i).cal.dst=(d:Int))(hM:G.M≤LB)
  (hK: ∀h' f',EWd h' e (clrG G i d f')→Eside e G h (clrG G i d f') h'→K (.tuple #[]) h'):Cl 166 [ptrV e,sesP e i] h K:=by
 refine clears166 W.I W.R W.de.2.2 hi hd ed hM fun h' I' R' O'=> ?_
 have C':=cnr_clr W.C hi hd
 have hS: ∀b∈e::G.B,b∉G.L∧ ¬PBl G.E.p G.P b:=fun b hb=>by
  rcases List.mem_cons.1 hb with q|q
  ·subst q;exact⟨W.de.1,W.de.2.1⟩
  ·exact W.dB b q
 refine hK h' _ ⟨W.W.only O' (fun b hb=>(hS b hb).1) (fun b hb=>(hS b hb).2),R',I',C',W.de,W.dB,fun k hk r hr ht=> ?_,fun k hk r hr ht=> ?_,fun k hk=> ?_,W.po⟩ (Eside.some O' (fun b hb=> ?_) fun b hb=>hb)
 ·have ht:((G.E.put i (clrS (G.E.ses i) d)).ses k).there r=true:=ht
  show isN G.N (((G.E.put i (clrS (G.E.ses i) d)).ses k).hnd r)
  rw[ses_put]at ht ⊢
  by_cases q:k=i
  ·rw[if_pos q]at ht ⊢
   by_cases w:r=d
   ·subst w
    rw[show(clrS (G.E.ses i) r).there r=false from upN_eq]at ht
    cases ht
   ·rw[show(clrS (G.E.ses i) d).hnd r=(G.E.ses i).hnd r from upN_ne w]
    rw[show(clrS (G.E.ses i) d).there r=(G.E.ses i).there r from upN_ne w]at ht
    exact W.rg i hi r hr ht
  ·rw[if_neg q]at ht ⊢
   exact W.rg k hk r hr ht
 ·have ht:((G.E.put i (clrS (G.E.ses i) d)).ses k).there r=false:=ht
  show((G.E.put i (clrS (G.E.ses i) d)).ses k).hnd r=0
  rw[ses_put]at ht ⊢
  by_cases q:k=i
  ·rw[if_pos q]at ht ⊢
   by_cases w:r=d
   ·subst w
    exact upN_eq
   ·rw[show(clrS (G.E.ses i) d).hnd r=(G.E.ses i).hnd r from upN_ne w]
    rw[show(clrS (G.E.ses i) d).there r=(G.E.ses i).there r from upN_ne w]at ht
    exact W.r0 i hi r hr ht
  ·rw[if_neg q]at ht ⊢
   exact W.r0 k hk r hr ht
 ·show((G.E.put i (clrS (G.E.ses i) d)).ses k).cal.mask<256
  rw[ses_put]
  by_cases q:k=i
  ·rw[if_pos q];exact W.mq i hi
  ·rw[if_neg q];exact W.mq k hk
 ·rcases List.mem_cons.1 hb with q|q
  ·subst q;exact mem_ebl.2 (.inl rfl)
  ·exact mem_ebl.2 (.inr (.inr (.inl q)))
def LayR(i:Nat)(G G':EG):Prop:= ∃d:Nat,d<6∧(G.E.ses i).cal.dst=(d:Int)∧
 (((G.E.ses i).cal.kind=1∧ ∃G1 er,VarR i d G G1 er∧G'=ansG G1 i er 0)∨
  ((G.E.ses i).cal.kind=2∧ ∃f',G'=ansG (setG G i d (min 1 (G.E.ses i).cal.mask) f') i 0 0)∨
  ((G.E.ses i).cal.kind=6∧ ∃f',G'=ansG (clrG G i d f') i 0 0))
theorem VarR.ans{i d:Nat}{er:Int}(R:VarR i d G G' er):G'.E.ans=G.E.ans:=by
 obtain⟨G1,N2,L2,r,e',f',C1,-,-,e⟩:=R
 subst e
 have:G1.E.ans=G.E.ans:=by rw[C1.E]
 split
 ·exact this
 ·exact this
theorem e_lays(mr:MRspec C)(W:EWd h e G){i:Nat}(hi:i<4)(hC:C (cntN G.N) G.room)(hM:G.M+2000≤LB/1000)(ha:G.E.ans<1000000000)(hk:(G.E.ses i).cal.kind=1∨(G.E.ses i).cal.kind=2∨(G.E.ses i).cal.kind=6)(hr:refu G.n (G.E.ses i) (G.E.ses i).cal=0)
  (hK: ∀h' G',EWd h' e G'→Eside e G h G' h'→LayR i G G'→K (.bool true) h'):Cl 123 [ptrV e,sesP e i] h K:=by
 have hLB:LB=140737488355328:=rfl
 obtain⟨-,z2,-,z4⟩:=refu_zero hr
 obtain⟨-,z5,-,-⟩:=refu2_zero z4
 have hd:=z2 (by unfold wrK;omega)
 obtain⟨d,ed⟩: ∃d:Nat,(G.E.ses i).cal.dst=(d:Int):=⟨(G.E.ses i).cal.dst.toNat,by unfold isR at hd;omega⟩
 have d6:d<6:=by unfold isR at hd;omega
 refine F123.spec _ _ h K ?_
 simp only[add_mk,Nat.zero_add]
 refine ldI_of (W.I.kind hi (by omega)) ?_
 rcases hk with k|k|k
 ·rw[k,show((1:Int)==1)=true from rfl,bcase_true]
  refine e_variable mr W hi hC hM (z5 k) d6 ed fun h1 G1 er W1 S1 V=>ldI_of rfl ?_
  unfold F123.wk8
  refine e_answers (n:=0) W1 hi (by rw[V.ans];exact ha) fun h2 W2 S2=>⟨rfl,?_⟩
  exact hK h2 _ W2 (S1.trans S2) ⟨d,d6,ed,.inl ⟨k,G1,er,V,rfl⟩⟩
 ·rw[k,show((2:Int)==1)=false from rfl,bcase_false,show((2:Int)==6)=false from rfl,bcase_false]
  have mq:=W.mq i hi
  refine ldI_of (W.I.mask hi (by omega)) ?_
  have em:(IntKind.wrap .u32 (if(1:Int)<((G.E.ses i).cal.mask:Int)then(1:Int)else((G.E.ses i).cal.mask:Int)))=((min 1 (G.E.ses i).cal.mask:Nat):Int):=by
   by_cases q:1<(G.E.ses i).cal.mask
   ·rw[if_pos (by omega),show min 1 (G.E.ses i).cal.mask=1 by omega];rfl
   ·rw[if_neg (by omega),show min 1 (G.E.ses i).cal.mask=(G.E.ses i).cal.mask by omega]
    exact wrap32 (by omega)
  rw[em]
  refine e_sets W hi d6 ed (.inl (by omega)) (by omega) fun h1 f1 W1 S1=>⟨rfl,?_⟩
  unfold F123.wk8
  refine e_answers (n:=0) W1 hi ha fun h2 W2 S2=>⟨rfl,?_⟩
  exact hK h2 _ W2 (S1.trans S2) ⟨d,d6,ed,.inr (.inl ⟨k,f1,rfl⟩)⟩
 ·rw[k,show((6:Int)==1)=false from rfl,bcase_false,show((6:Int)==6)=true from rfl,bcase_true]
  refine e_clears W hi d6 ed (by omega) fun h1 f1 W1 S1=>⟨rfl,?_⟩
  unfold F123.wk8
  refine e_answers (n:=0) W1 hi ha fun h2 W2 S2=>⟨rfl,?_⟩
  exact hK h2 _ W2 (S1.trans S2) ⟨d,d6,ed,.inr (.inr ⟨k,f1,rfl⟩)⟩
theorem pending99(W:EWd h e G)(hT:anyP G.E→K (.bool true) h)(hF: ¬anyP G.E→K (.bool false) h):Cl 99 [ptrV e] h K:=by
 refine F99.spec _ h K ?_
 unfold F99.wk2
 have main: ∀(d k:Nat),d+k=4→(∀j,j<k→(G.E.ses j).pend=false)→F99.wL2 (d+1) ⟨e,0,none⟩ (k:Int) h K:=by
  intro d
  induction d with
  |zero=>
   intro k hk hb
   rw[F99.sL2]
   rw[decide_eq_false (by omega),bcase_false]
   refine hF fun⟨j,hj,hp⟩=> ?_
   rw[hb j (by omega)]at hp
   cases hp
  |succ d ih=>
   intro k hk hb
   rw[F99.sL2]
   rw[decide_eq_true (by omega),bcase_true]
   refine pending56 W.I (fun q=>by omega) fun k' hk' ek=>ldB_of rfl (bcase_of (fun p=> ?_) fun p=> ?_)
   ·exact hT ⟨k',hk',p⟩
   ·rw[wr_s (by omega)]
    refine ih (k+1) (by omega) fun j hj=> ?_
    by_cases q:j=k
    ·rw[q,show k=k' by omega];exact p
    ·exact hb j (by omega)
 exact⟨_,main 4 0 (by omega) fun j hj=>by omega⟩
theorem fair42{m:Nat}(Inv:Nat→Heap→EG→Prop)(J:Nat→Nat→Heap→EG→Prop)(nw:Nat)(hnw:nw≤4)(h0:Inv m h G)(hm:m<1048576)
  (hW: ∀{m h1 G1},Inv m h1 G1→EWd h1 e G1) (hJ: ∀{m w h1 G1},J m w h1 G1→EWd h1 e G1∧G1.P.ws.length=nw)
  (hS: ∀{m h1 G1},Inv m h1 G1→anyP G1.E→J m 0 h1 G1)
  (hP: ∀{m w h1 G1} {Q:Value→Heap→Prop} {draw:Int},w<nw→J m w h1 G1→(∀b h2 G2,J m (w+1) h2 G2→Q (.bool b) h2)→Cl 26 [ptrV e,.int .i64 (w:Int),.int .i64 draw] h1 Q)
  (hE: ∀{m h1 G1},J m nw h1 G1→ ∃m',m'<m∧Inv m' h1 G1)
  (hK: ∀m' h1 G1,m'≤m→Inv m' h1 G1→ ¬anyP G1.E→K (.bool true) h1):Cl 42 [ptrV e] h K:=by
 refine F42.spec _ h K ?_
 unfold F42.w F42.J0 F42.wk2 F42.Jk2
 have main: ∀(d i m':Nat) (xi:Int) (h1:Heap) (G1:EG),xi=(i:Int)→d+i=m+1→m'+i≤m→Inv m' h1 G1→F42.wL2 (d+1) ⟨e,0,none⟩ xi h1 K:=by
  intro d
  induction d with
  |zero=>intro i m' xi h1 G1 exi hi hm';omega
  |succ d ih=>
   intro i m' xi h1 G1 exi hi hm' I
   unfold F42.wL2 F42.JL2
   rw[decide_eq_true (by omega),bcase_true]
   refine pending99 (hW I) (fun a=>ldB_of rfl ?_) fun a=>ldB_of rfl ?_
   ·rw[bcase_true]
    unfold F42.wk5 F42.Jk5
    have inner: ∀(d2 w:Nat) (h2:Heap) (G2:EG),d2+w=nw→J m' w h2 G2→F42.wL5 (fun x0 x3 h=>F42.wL2 (d+1) x0 x3 h K) (d2+1) ⟨e,0,none⟩ xi (w:Int) h2 K:=by
     intro d2
     induction d2 with
     |zero=>
      intro w h2 G2 hw I2
      unfold F42.wL5 F42.JL5
      obtain⟨W2,wl⟩:=hJ I2
      refine workers27 W2 (ldI_of rfl ?_)
      rw[decide_eq_false (by omega),bcase_false]
      have ew:w=nw:=by omega
      subst ew
      obtain⟨m2,lt,I3⟩:=hE I2
      exact ih (i+1) m2 _ h2 G2 (by rw[exi,wrap_i64 (by omega) (by omega)];omega) (by omega) (by omega) I3
     |succ d2 ih2=>
      intro w h2 G2 hw I2
      unfold F42.wL5 F42.JL5
      obtain⟨W2,wl⟩:=hJ I2
      refine workers27 W2 (ldI_of rfl ?_)
      rw[decide_eq_true (by omega),bcase_true]
      refine hP (by omega) I2 fun b h3 G3 I3=>ldB_of rfl ?_
      rw[wr_s (by omega)]
      exact ih2 (w+1) h3 G3 (by omega) I3
    exact⟨_,inner nw 0 h1 G1 (by omega) (hS I a)⟩
   ·rw[bcase_false]
    unfold F42.wk8 F42.Jk8
    exact pending99 (hW I) (fun q=>absurd q a) fun q=>ldB_of rfl (hK m' h1 G1 (by omega) I a)
 exact⟨_,main (m+1) 0 m 0 h G rfl (by omega) (by omega) h0⟩
end
end
section
def SesR(n:Nat)(fo:Nat→Nat)(N:List (Option Nd))(x x':Ses):Prop:= ∃d:Nat,d<6∧x.cal.dst=(d:Int)∧
 ((x.cal.kind=1∧ ∃v,x'=ansS (setS x d v) 0 0∧ ∀y,sm n fo N v y=y.testBit x.cal.mask)∨
  (x.cal.kind=2∧x'=ansS (setS x d (min 1 x.cal.mask)) 0 0)∨(x.cal.kind=6∧x'=ansS (clrS x d) 0 0))
theorem SesR.pend{n:Nat}{fo:Nat→Nat}{N:List (Option Nd)}{x x':Ses}(R:SesR n fo N x x'):x'.pend=false:=by
 obtain⟨d,-,-,⟨-,v,e,-⟩|⟨-,e⟩|⟨-,e⟩⟩:=R<;>subst e<;>rfl
theorem SesR.to{n:Nat}{fo:Nat→Nat}{N N':List (Option Nd)}{x x':Ses}(R:SesR n fo N x x')(h: ∀r,r<6→x'.there r=true→ ∀y,sm n fo N' (x'.hnd r) y=sm n fo N (x'.hnd r) y):SesR n fo N' x x':=by
 obtain⟨d,d6,ed,⟨k,v,e,s⟩|⟨k,e⟩|⟨k,e⟩⟩:=R
 ·refine⟨d,d6,ed,.inl ⟨k,v,e,fun y=> ?_⟩⟩
  subst e
  have:=h d d6 upN_eq y
  rw[show(ansS (setS x d v) 0 0).hnd d=v from upN_eq]at this
  rw[this,s]
 ·exact⟨d,d6,ed,.inr (.inl ⟨k,e⟩)⟩
 ·exact⟨d,d6,ed,.inr (.inr ⟨k,e⟩)⟩
def nPd(E:Eng)(i:Nat):Nat:=sumN (fun k=>if(E.ses k).pend=true then 1 else 0) i
structure Ran(G0:EG)(i:Nat)(G:EG):Prop where
 s:G.E.s=G0.E.s∧G.E.p=G0.E.p∧G.E.r=G0.E.r
 n:G.n=G0.n
 fo:G.fo=G0.fo
 gg:G.gg=G0.gg
 room:G.room=G0.room
 off:G.off=G0.off
 ws:G.P.ws.length=G0.P.ws.length
 jobs:G.P.jobs=[]
 last:G.P.last=G0.P.last
 cnt:cntN G.N≤cntN G0.N+i
 M:G0.M≤G.M∧G.M≤G0.M+1002*i+1000
 ans:G.E.ans=G0.E.ans+nPd G0.E i
 lo: ∀k,k<i→k<4→((G0.E.ses k).pend=true→SesR G0.n G0.fo G.N (G0.E.ses k) (G.E.ses k))∧((G0.E.ses k).pend=false→G.E.ses k=G0.E.ses k)
 hi: ∀k,i≤k→G.E.ses k=G0.E.ses k
 old: ∀k,k<4→ ∀r,r<6→(G0.E.ses k).there r=true→(G.E.ses k).there r=true→(G.E.ses k).hnd r=(G0.E.ses k).hnd r→ ∀y,sm G0.n G0.fo G.N ((G0.E.ses k).hnd r) y=sm G0.n G0.fo G0.N ((G0.E.ses k).hnd r) y
structure Easy(G:EG):Prop where
 jobs:G.P.jobs=[]
 kind: ∀i,i<4→(G.E.ses i).pend=true→((G.E.ses i).cal.kind=1∨(G.E.ses i).cal.kind=2∨(G.E.ses i).cal.kind=6)∧refu G.n (G.E.ses i) (G.E.ses i).cal=0
 room:cntN G.N+5<G.room
 M:G.M+20000≤LB/1000
 ans:G.E.ans+10<1000000000
theorem set_ans_ses{G:EG}{i d v n:Nat}{er:Int}{f':Int→Int}:(ansG (setG G i d v f') i er n).E.ses=upN G.E.ses i (ansS (setS (G.E.ses i) d v) er n):=by
 show upN (upN G.E.ses i _) i (ansS (upN G.E.ses i (setS (G.E.ses i) d v) i) er n)=_
 rw[upN_upN,upN_eq]
theorem clr_ans_ses{G:EG}{i d n:Nat}{er:Int}{f':Int→Int}:(ansG (clrG G i d f') i er n).E.ses=upN G.E.ses i (ansS (clrS (G.E.ses i) d) er n):=by
 show upN (upN G.E.ses i _) i (ansS (upN G.E.ses i (clrS (G.E.ses i) d) i) er n)=_
 rw[upN_upN,upN_eq]
section
variable {h h':Heap}{e i:Nat}{G G0 G':EG}{K:Value→Heap→Prop}
theorem Ran.refl(hj:G0.P.jobs=[]):Ran G0 0 G0:=⟨⟨rfl,rfl,rfl⟩,rfl,rfl,rfl,rfl,rfl,rfl,hj,rfl,Nat.le_refl _,⟨Nat.le_refl _,by omega⟩,rfl,fun k hk=>by omega,fun k hk=>rfl,fun k hk r hr ht ht' he y=>rfl⟩
theorem Ran.mono(R:Ran G0 i G){N':List (Option Nd)}(hs: ∀v,(∃k r,k<4∧r<6∧(G.E.ses k).there r=true∧v=(G.E.ses k).hnd r)→ ∀y,sm G0.n G0.fo N' v y=sm G0.n G0.fo G.N v y):
  (∀k,k<i→k<4→((G0.E.ses k).pend=true→SesR G0.n G0.fo N' (G0.E.ses k) (G.E.ses k))∧((G0.E.ses k).pend=false→G.E.ses k=G0.E.ses k))∧
  (∀k,k<4→ ∀r,r<6→(G0.E.ses k).there r=true→(G.E.ses k).there r=true→(G.E.ses k).hnd r=(G0.E.ses k).hnd r→ ∀y,sm G0.n G0.fo N' ((G0.E.ses k).hnd r) y=sm G0.n G0.fo G0.N ((G0.E.ses k).hnd r) y):=
 ⟨fun k hk h4=>⟨fun p=>((R.lo k hk h4).1 p).to fun r hr ht=>hs _ ⟨k,r,h4,hr,ht,rfl⟩,(R.lo k hk h4).2⟩,fun k hk r hr ht ht' he y=>by
  rw[←he,hs _ ⟨k,r,hk,hr,ht',rfl⟩ y,he]
  exact R.old k hk r hr ht ht' he y⟩
theorem Ran.lay(Ea:Easy G0)(R:Ran G0 i G)(W:EWd h e G)(W':EWd h' e G')(hi:i<4)(hp:(G.E.ses i).pend=true)(L:LayR i G G'):Ran G0 (i+1) G':=by
 have ei:=R.hi i (Nat.le_refl _)
 have pi:(G0.E.ses i).pend=true:=by rw[←ei];exact hp
 obtain⟨kd,rf⟩:=Ea.kind i hi pi
 have nP:nPd G0.E (i+1)=nPd G0.E i+1:=by unfold nPd;show sumN _ i+(if _ then 1 else 0)=_;rw[if_pos pi]
 obtain⟨d,d6,ed,L⟩:=L
 have fin: ∀(N':List (Option Nd)) (x':Ses),G'.E.ses=upN G.E.ses i x'→G'.N=N'→(∀v,(∃k r,k<4∧r<6∧(G.E.ses k).there r=true∧(G'.E.ses k).there r=true∧(G'.E.ses k).hnd r=(G.E.ses k).hnd r∧v=(G.E.ses k).hnd r)→ ∀y,sm G0.n G0.fo N' v y=sm G0.n G0.fo G.N v y)→SesR G0.n G0.fo N' (G0.E.ses i) x'→
   (G'.E.s=G.E.s∧G'.E.p=G.E.p∧G'.E.r=G.E.r)→G'.n=G.n→G'.fo=G.fo→G'.gg=G.gg→G'.room=G.room→G'.off=G.off→G'.P=G.P→cntN N'≤cntN G.N+1→(G.M≤G'.M∧G'.M≤G.M+1002)→G'.E.ans=G.E.ans+1→Ran G0 (i+1) G':=by
  intro N' x' es eN hs sr e1 e2 e3 e4 e5 e6 e7 e8 e9 e10
  have sk: ∀k,G'.E.ses k=if k=i then x' else G.E.ses k:=fun k=>by rw[es];rfl
  refine⟨⟨e1.1.trans R.s.1,e1.2.1.trans R.s.2.1,e1.2.2.trans R.s.2.2⟩,e2.trans R.n,e3.trans R.fo,e4.trans R.gg,e5.trans R.room,e6.trans R.off,by rw[e7];exact R.ws,by rw[e7];exact R.jobs,by rw[e7];exact R.last,?_,⟨Nat.le_trans R.M.1 e9.1,by have:=R.M.2;omega⟩,by rw[e10,nP,R.ans];omega,fun k hk h4=> ?_,fun k hk=> ?_,fun k hk r hr ht ht' he y=> ?_⟩
  ·have:=R.cnt;rw[eN];omega
  ·by_cases q:k=i
   ·subst q
    rw[sk,if_pos rfl,eN]
    exact⟨fun _=>sr,fun p=>by rw[p]at pi;cases pi⟩
   ·rw[sk,if_neg q,eN]
    have lk:=R.lo k (by omega) h4
    refine⟨fun p=>(lk.1 p).to fun r hr ht=>hs _ ⟨k,r,h4,hr,ht,?_,?_,rfl⟩,lk.2⟩
    ·rw[sk,if_neg q];exact ht
    ·rw[sk,if_neg q]
  ·rw[sk,if_neg (by omega)]
   exact R.hi k (by omega)
  ·rw[eN]
   by_cases q:k=i
   ·subst q
    have ht2:(G.E.ses k).there r=true:=by rw[ei];exact ht
    have:=hs _ ⟨k,r,hk,hr,ht2,ht',by rw[he,ei],rfl⟩ y
    rw[ei]at this
    rw[this]
    exact R.old k hk r hr ht ht2 (by rw[ei]) y
   ·have ht2:(G.E.ses k).there r=true:=by rw[sk,if_neg q]at ht';exact ht'
    have he2:(G.E.ses k).hnd r=(G0.E.ses k).hnd r:=by rw[sk,if_neg q]at he;exact he
    have:=hs _ ⟨k,r,hk,hr,ht2,ht',by rw[he,he2],rfl⟩ y
    rw[he2]at this
    rw[this]
    exact R.old k hk r hr ht ht2 he2 y
 rcases L with⟨k,G1,er,V,e⟩|⟨k,f',e⟩|⟨k,f',e⟩
 ·obtain⟨G2,N2,L2,v,er',f',C1,M,ee,e1⟩:=V
  obtain⟨E2,he2,hfull⟩:=mk_ex M
  have er0:er'=0:=by
   rcases he2 with q|q
   ·exact q
   ·exfalso
    have h1:=(hfull q).1
    have h2:=C1.cnt
    have h3:=R.cnt
    have h4:=Ea.room
    rw[C1.room,R.room]at h1
    omega
  subst er0
  rw[if_pos rfl]at e1
  subst e1 ee e
  have mkn:(G.E.ses i).cal.mask<G2.n:=by
   have z:=(refu2_zero (refu_zero rf).2.2.2).2.1 (by rw[←ei];exact k)
   rw[C1.n,R.n,ei]
   exact z
  have po:=W.po
  rw[←C1.n,←C1.fo,←C1.gg]at po
  have pg:=po.1 _ mkn
  have e0:lvl G2.n G2.N 0=G2.n:=by unfold lvl;rw[if_pos (by omega)]
  have ok2:NOk G2.n N2:=by
   have:=W'.W.S.ok.1
   exact this
  have mn:=mk_node (f:=G2.fo) C1.ok ok2 (a:=0) (b:=1) (.inl (by omega)) (.inl (by omega)) (show _<lvl G2.n G2.N 0 by rw[e0];exact pg.1) M
  have n0:G2.n=G0.n:=C1.n.trans R.n
  have f0:G2.fo=G0.fo:=C1.fo.trans R.fo
  have hE:G2.E=G.E:=C1.E
  have c2:=mk_cnt M
  have hc:=C1.cnt
  have hM:=C1.M
  have es:(ansG (setG (stoG G2 N2 L2) i d v f') i ((0:Nat):Int) 0).E.ses=upN G.E.ses i (ansS (setS (G.E.ses i) d v) 0 0):=by
   rw[←hE]
   exact set_ans_ses
  refine fin N2 _ es rfl (fun w ⟨k',r,h4,hr,ht,_,_,ew⟩ y=> ?_) ⟨d,d6,(by rw[←ei];exact ed),.inl ⟨(by rw[←ei];exact k),v,(by rw[ei]),fun y=> ?_⟩⟩ (by rw[←hE];exact⟨rfl,rfl,rfl⟩) C1.n C1.fo C1.gg C1.room C1.off C1.P (by omega) ⟨(by show G.M≤G2.M+2;omega),(by show G2.M+2≤_;omega)⟩ (by rw[←hE];rfl)
  ·have hw:isN G2.N w:=by rw[ew];exact C1.rg k' h4 r hr ht
   rw[←n0,←f0,E2.sm C1.ok hw,C1.ex.sm C1.ok hw]
  ·rw[←n0,←f0,mn.2.2.2 y,pg.2,sm_const (by omega),sm_const (by omega),ei]
   cases y.testBit (G0.E.ses i).cal.mask<;>rfl
 ·subst e
  exact fin G.N _ set_ans_ses rfl (fun v _ y=>rfl) ⟨d,d6,(by rw[←ei];exact ed),.inr (.inl ⟨(by rw[←ei];exact k),(by rw[ei])⟩)⟩ ⟨rfl,rfl,rfl⟩ rfl rfl rfl rfl rfl rfl (by omega) ⟨(by show G.M≤G.M+2;omega),(by show G.M+2≤_;omega)⟩ rfl
 ·subst e
  exact fin G.N _ clr_ans_ses rfl (fun v _ y=>rfl) ⟨d,d6,(by rw[←ei];exact ed),.inr (.inr ⟨(by rw[←ei];exact k),(by rw[ei])⟩)⟩ ⟨rfl,rfl,rfl⟩ rfl rfl rfl rfl rfl rfl (by omega) ⟨(by show G.M≤G.M+1;omega),(by show G.M+1≤_;omega)⟩ rfl
theorem anyP_not(h: ∀k,k<4→(G.E.ses k).pend=false): ¬anyP G.E:=fun⟨k,hk,hp⟩=>by rw[h k hk]at hp;cases hp
theorem Ran.none(R:Ran G0 4 G): ∀k,k<4→(G.E.ses k).pend=false:=fun k hk=>by
 have:=R.lo k hk hk
 cases q:(G0.E.ses k).pend with
 |true=>exact(this.1 q).pend
 |false=>rw[this.2 q];exact q
theorem Ran.end{w:Nat}(R:Ran G0 4 G)(W:EWd h e G)(P:PickR w G G')(h1:G.M+1000≤G0.M+1002*4+1000):Ran G0 4 G':=by
 obtain⟨G1,N',P',L',k,C1,-,e,Pk,hk,hph⟩:=P
 subst e
 have hj:P'.jobs=[]:=List.eq_nil_of_length_eq_zero (by have:=alike_len Pk.alike;rw[C1.P,R.jobs]at this;simpa using this)
 have j1:G1.P.jobs=[]:=by rw[C1.P];exact R.jobs
 have hE:G1.E=G.E:=C1.E
 have n0:G1.n=G0.n:=C1.n.trans R.n
 have f0:G1.fo=G0.fo:=C1.fo.trans R.fo
 have cn:cntN N'≤cntN G1.N:=by
  have:=Pk.le2
  unfold psi at this
  rw[hj,j1]at this
  simpa using this
 have hc:=C1.cnt
 have rc:=R.cnt
 have hM:=C1.M
 have rM:=R.M
 have mo:=R.mono (N':=N') fun v ⟨k',r,h4,hr,ht,ev⟩ y=>by
  have hv:isN G1.N v:=by rw[ev];exact C1.rg k' h4 r hr ht
  rw[←n0,←f0,Pk.ex.sm C1.ok hv,C1.ex.sm C1.ok hv]
 have he:({G1 with N:=N',P:=P',L:=L'}:EG).E=G.E:=hE
 exact⟨(by rw[he];exact R.s),n0,f0,C1.gg.trans R.gg,C1.room.trans R.room,C1.off.trans R.off,(by show P'.ws.length=_;rw[Pk.alike.2.1,C1.P];exact R.ws),hj,(by show P'.last=_;rw[Pk.alike.1,C1.P];exact R.last),(by show cntN N'≤_;omega),⟨(by show G0.M≤G1.M;omega),(by show G1.M≤_;omega)⟩,(by rw[he];exact R.ans),(by rw[he];exact mo.1),(by rw[he];exact R.hi),(by rw[he];exact mo.2)⟩
end
end
section
section
variable {h h':Heap}{e i:Nat}{G G0 G':EG}{K:Value→Heap→Prop}
theorem nPd_zero{E:Eng}: ∀i,(∀k,k<i→(E.ses k).pend=false)→nPd E i=0:=by
 intro i
 induction i with
 |zero=>intro _;rfl
 |succ i ih=>
  intro hb
  unfold nPd sumN
  have:nPd E i=0:=ih fun k hk=>hb k (by omega)
  unfold nPd at this
  rw[this,hb i (by omega)]
  rfl
theorem Ran.idle(hj:G0.P.jobs=[])(hn: ¬anyP G0.E):Ran G0 4 G0:=by
 have np: ∀k,k<4→(G0.E.ses k).pend=false:=fun k hk=>by
  cases q:(G0.E.ses k).pend with
  |true=>exact absurd ⟨k,hk,q⟩ hn
  |false=>rfl
 exact⟨⟨rfl,rfl,rfl⟩,rfl,rfl,rfl,rfl,rfl,rfl,hj,rfl,by omega,⟨Nat.le_refl _,by omega⟩,by rw[nPd_zero 4 np];rfl,fun k hk h4=>⟨fun p=>(by rw[np k h4]at p;cases p),fun _=>rfl⟩,fun k hk=>rfl,fun k hk r hr ht ht' he y=>rfl⟩
theorem step_easy{k:Int}(h:k=1∨k=2∨k=6):stepN k=123:=if_pos h
theorem nPd_le{E:Eng}: ∀i,nPd E i≤i:=by
 intro i
 induction i with
 |zero=>exact Nat.le_refl _
 |succ i ih=>
  unfold nPd sumN
  unfold nPd at ih
  split<;>omega
theorem Ran.skip(R:Ran G0 i G)(hp:(G.E.ses i).pend=false):Ran G0 (i+1) G:=by
 have ei:=R.hi i (Nat.le_refl _)
 have pi:(G0.E.ses i).pend=false:=by rw[←ei];exact hp
 refine⟨R.s,R.n,R.fo,R.gg,R.room,R.off,R.ws,R.jobs,R.last,by have:=R.cnt;omega,⟨R.M.1,by have:=R.M.2;omega⟩,?_,fun k hk h4=> ?_,fun k hk=>R.hi k (by omega),R.old⟩
 ·rw[R.ans]
  show _=G0.E.ans+(nPd G0.E i+if(G0.E.ses i).pend=true then 1 else 0)
  rw[pi]
  rfl
 ·by_cases q:k=i
  ·subst q
   exact⟨fun p=>(by rw[p]at pi;cases pi),fun _=>ei⟩
  ·exact R.lo k (by omega) h4
theorem pick_none{who draw:Int}(W:EWd h e G)(hN:who<0∨(G.P.ws.length:Int)≤who∨ ¬anyP G.E)(hK: ∀h',Only [] h h'→K (.bool false) h'):Cl 26 [ptrV e,.int .i64 who,.int .i64 draw] h K:=by
 refine F26.spec _ _ _ h K ?_
 refine bcase_of (fun q=>hK h (Only.refl _ _)) fun q=> ?_
 have q:=of_decide_eq_false q
 refine workers27 W (ldI_of rfl (bcase_of (fun p=>hK h (Only.refl _ _)) fun p=> ?_))
 have p: ¬(G.P.ws.length:Int)≤who:=of_decide_eq_false p
 have no: ¬anyP G.E:=by rcases hN with z|z|z<;>first|omega|exact z
 exact pending78 W.I (fun a=>absurd a no) fun _ h1 O1=>ldB_of rfl (hK h1 O1)
theorem easy_pick(W:EWd h e G0)(Ea:Easy G0){w:Nat}(hw:w<G0.P.ws.length){draw:Int}(hN: ¬anyP G0.E→ ∀h',Only [] h h'→K (.bool false) h')
  (hY:anyP G0.E→ ∀h' G',EWd h' e G'→Eside e G0 h G' h'→Ran G0 4 G'→K (.bool true) h'):Cl 26 [ptrV e,.int .i64 (w:Int),.int .i64 draw] h K:=by
 have eM:=Ea.M
 refine pick26 W (fun q h1 O1=>hN ?_ h1 O1) (fun i h1 G1=>EWd h1 e G1∧Eside e G0 h G1 h1∧Ran G0 i G1∧G1.M≤G0.M+1002*i) (fun h1 O1=>⟨W.only0 O1,Eside.only0 O1,Ran.refl Ea.jobs,by omega⟩)
  (fun {i h1 G1 h2} I O=>⟨I.1.only0 O,I.2.1.trans (Eside.only0 O),I.2.2⟩) (fun I=>I.1) (fun {i h1 G1} hi I hp=>⟨I.1,I.2.1,I.2.2.1.skip hp,by have:=I.2.2.2;omega⟩) (fun {i h1 G1 Q} hi I hp hQ=> ?_) (fun _ _ a h1 G1 I=> ?_)
 ·rcases q with q|q|q
  ·omega
  ·omega
  ·exact q
 ·obtain⟨W1,S1,R1,M1⟩:=I
  have ei:=R1.hi i (Nat.le_refl _)
  obtain⟨kd,rf⟩:=Ea.kind i hi (by rw[←ei];exact hp)
  have kd1:(G1.E.ses i).cal.kind=1∨(G1.E.ses i).cal.kind=2∨(G1.E.ses i).cal.kind=6:=by rw[ei];exact kd
  rw[step_easy kd1]
  have rc:=R1.cnt
  have rm:=Ea.room
  have ra:=R1.ans
  have na:=nPd_le (E:=G0.E) i
  have ea:=Ea.ans
  refine e_lays mr_less W1 hi (by show cntN G1.N<G1.room;rw[R1.room];omega) (by omega) (by omega) kd1 (by rw[ei,R1.n];exact rf) fun h2 G2 W2 S2 L=> ?_
  refine hQ true h2 G2 ⟨W2,S1.trans S2,Ran.lay Ea R1 W1 W2 hi hp L,?_⟩
  obtain⟨d,-,-,⟨-,G3,er,⟨G4,N2,L2,v,er',f',C1,-,-,e1⟩,e2⟩|⟨-,f',e2⟩|⟨-,f',e2⟩⟩:=L
  ·have:=C1.M
   have:G3.M≤G4.M+2:=by rw[e1];split<;>(first|exact Nat.le_refl _|exact Nat.le_add_right _ _)
   have:G2.M=G3.M:=by rw[e2];rfl
   omega
  ·have:G2.M=G1.M+2:=by rw[e2];rfl
   omega
  ·have:G2.M=G1.M+1:=by rw[e2];rfl
   omega
 ·obtain⟨W1,S1,R1,M1⟩:=I
  have rc:=R1.cnt
  have rm:=Ea.room
  refine pick_end mr_less W1 (by show cntN G1.N<G1.room;rw[R1.room];omega) (by omega) (by rw[R1.ws];exact hw) fun h2 G2 W2 S2 P=> ?_
  exact hY a h2 G2 W2 (S1.trans S2) (R1.end W1 P (by omega))
theorem easy_fair(W:EWd h e G0)(Ea:Easy G0)(hK: ∀h' G',EWd h' e G'→Eside e G0 h G' h'→Ran G0 4 G'→K (.bool true) h'):Cl 42 [ptrV e] h K:=by
 have wl:=W.W.Ok.len
 refine fair42 (m:=1) (fun m h1 G1=>EWd h1 e G1∧Eside e G0 h G1 h1∧((m=1∧G1=G0)∨(m=0∧Ran G0 4 G1))) (fun m w h1 G1=>EWd h1 e G1∧Eside e G0 h G1 h1∧m=1∧((w=0∧G1=G0∧anyP G0.E)∨(1≤w∧Ran G0 4 G1))) G0.P.ws.length wl.2
  ⟨W,Eside.refl,.inl ⟨rfl,rfl⟩⟩ (by omega) (fun I=>I.1) (fun {m w h1 G1} I=>⟨I.1,?_⟩) (fun {m h1 G1} I a=>⟨I.1,I.2.1,?_⟩) (fun {m w h1 G1 Q draw} hw I hQ=> ?_) (fun {m h1 G1} I=> ?_) (fun m' h1 G1 _ I a=> ?_)
 ·rcases I.2.2.2 with⟨-,q,-⟩|⟨-,q⟩
  ·rw[q]
  ·exact q.ws
 ·rcases I.2.2 with⟨q1,q2⟩|⟨q1,q2⟩
  ·subst q2;exact⟨q1,.inl ⟨rfl,rfl,a⟩⟩
  ·exact absurd a (anyP_not q2.none)
 ·obtain⟨W1,S1,m1,q⟩:=I
  rcases q with⟨q1,q2,q3⟩|⟨q1,q2⟩
  ·subst q2
   exact easy_pick W1 Ea hw (fun a=>absurd q3 a) fun a h2 G2 W2 S2 R2=>hQ _ h2 G2 ⟨W2,S1.trans S2,m1,.inr ⟨by omega,R2⟩⟩
  ·have no:=anyP_not q2.none
   exact pick_none W1 (.inr (.inr no)) fun h2 O2=>hQ _ h2 G1 ⟨W1.only0 O2,S1.trans (Eside.only0 O2),m1,.inr ⟨by omega,q2⟩⟩
 ·obtain⟨W1,S1,m1,q⟩:=I
  rcases q with⟨q1,-,-⟩|⟨q1,q2⟩
  ·omega
  ·exact⟨0,by omega,W1,S1,.inr ⟨rfl,q2⟩⟩
 ·obtain⟨W1,S1,q⟩:=I
  rcases q with⟨q1,q2⟩|⟨q1,q2⟩
  ·subst q2
   exact hK h1 G1 W1 S1 (Ran.idle Ea.jobs a)
  ·exact hK h1 G1 W1 S1 q2
end
end
section
section
variable {h h':Heap}{e i:Nat}{G G0 G':EG}{K:Value→Heap→Prop}
def bgnG(G:EG)(k:Nat)(c:Cal):EG:={G with E:=G.E.put k (bgnS (G.E.ses k) c)}
theorem e_begin{c:Cal}{i:Int}(W:EWd h e G)(hm:c.mask<256)
  (hO:(i<0∨4≤i)→ ∀h',Only [] h h'→K (.int .i64 222) h')
  (hB: ∀k:Nat,k<4→i=(k:Int)→(G.E.ses k).pend=true→ ∀h',Only [] h h'→K (.int .i64 220) h')
  (hR: ∀k:Nat,k<4→i=(k:Int)→(G.E.ses k).pend=false→refu G.n (G.E.ses k) c≠0→ ∀h',Only [] h h'→K (.int .i64 (refu G.n (G.E.ses k) c)) h')
  (hK: ∀k:Nat,k<4→i=(k:Int)→(G.E.ses k).pend=false→refu G.n (G.E.ses k) c=0→ ∀h',EWd h' e (bgnG G k c)→Eside e G h (bgnG G k c) h'→K (.int .i64 0) h'):
  Cl 24 [ptrV e,.int .i64 i,calV c] h K:=by
 refine begin24 W.I W.W.S W.de.1 hm hO hB hR fun k hk ek hp hr h' I' O'=>hK k hk ek hp hr h' ?_ (Eside.some O' (fun b hb=>by simp at hb;subst hb;exact mem_ebl.2 (.inl rfl)) fun b hb=>hb)
 have hs: ∀q,((bgnG G k c).E.ses q).there=(G.E.ses q).there∧((bgnG G k c).E.ses q).hnd=(G.E.ses q).hnd:=fun q=>by
  show((G.E.put k (bgnS (G.E.ses k) c)).ses q).there=_∧((G.E.put k (bgnS (G.E.ses k) c)).ses q).hnd=_
  rw[ses_put]
  by_cases z:q=k
  ·rw[if_pos z,z];exact⟨rfl,rfl⟩
  ·rw[if_neg z];exact⟨rfl,rfl⟩
 refine⟨W.W.only O' (fun b hb=>by simp at hb;subst hb;exact W.de.1) (fun b hb=>by simp at hb;subst hb;exact W.de.2.1),W.R.only O' (fun b hb=>by simp at hb;subst hb;exact W.de.2.2),I',fun x=> ?_,W.de,W.dB,fun q hq r hr ht=> ?_,fun q hq r hr ht=> ?_,fun q hq=> ?_,W.po⟩
 ·rw[ind_same hs];exact W.C x
 ·rw[(hs q).2];rw[(hs q).1]at ht;exact W.rg q hq r hr ht
 ·rw[(hs q).2];rw[(hs q).1]at ht;exact W.r0 q hq r hr ht
 ·show((G.E.put k (bgnS (G.E.ses k) c)).ses q).cal.mask<256
  rw[ses_put]
  by_cases z:q=k
  ·rw[if_pos z];exact hm
  ·rw[if_neg z];exact W.mq q hq
theorem new18_bad{n:Nat}{room x:Int}(h8:8<n)(hn:n<1000000)(hK:K (.tuple #[.pointer none,.int .i64 40]) h):Cl 18 [.int .i64 (n:Int),.int .i64 room,.int .i64 x] h K:=by
 refine F18.spec _ _ _ h K ?_
 refine F61.spec _ _ h _ ?_
 rw[decide_eq_false (by omega),bcase_false,decide_eq_true (by omega),bcase_true]
 exact⟨_,_,rfl,hK⟩
end
end
section
section
variable {h:Heap}{K:Value→Heap→Prop}
theorem fill_8'{n:Nat}(hn:n≤8): ∀j,j<n→fill n j<8:=fun j hj=>by rw[show fill n j=j from if_pos hj];omega
set_option maxRecDepth 100000 in
theorem known40(hK: ∀h',Only [] h h'→K (.bool true) h'):Cl 40 [] h K:=by
 have hLB:LB=140737488355328:=rfl
 refine F40.spec h K ?_
 refine new18 (n:=4) (room:=16400) (by omega) (by omega) (by omega) (by omega) fun h1 e G W1 s1 a1 n1 m1 f1 g1 _ N1 j1 w1 _ _ M1 b1 O1=>⟨_,_,rfl,?_⟩
 refine new18_bad (n:=9) (by omega) (by omega) ⟨_,_,rfl,?_⟩
 rw[show((0:Int) !=0)=false from rfl,bcase_false,show(Option.isNone (some (Addr.mk e 0 none)))=false from rfl,bcase_false,show((40:Int) !=40)=false from rfl,bcase_false]
 refine workers27 W1 (ldI_of rfl ?_)
 rw[w1,show((((wkn 2:Nat):Int)) !=(2:Int))=false from rfl,bcase_false]
 refine e_begin (c:=⟨1,0,1,0,0,0,2⟩) (i:=0) W1 (by show 2<256;omega) (fun q=>by omega) (fun k hk ek hp=> ?_) (fun k hk ek hp hr=> ?_) fun k hk ek hp hr h2 W2 S2=>ldI_of rfl ?_
 ·rw[s1]at hp;cases hp
 ·exfalso
  apply hr
  rw[n1]
  unfold refu refu2
  rw[if_neg (by decide),if_neg (by decide),if_neg,if_neg (by decide),if_neg (by decide),if_neg (by decide)]
  intro q
  exact q fun r hr=>by simp[rds]at hr
 have ek:k=0:=by omega
 subst ek
 refine e_begin (c:=⟨6,0,0,0,0,0,0⟩) (i:=0) W2 (by show 0<256;omega) (fun q=>by omega) (fun k hk ek _ h3 O3=>ldI_of rfl ?_) (fun k hk ek hp2 _=> ?_) fun k hk ek hp2 _=> ?_
 rotate_left
 ·have ek:k=0:=by omega
  subst ek
  rw[show((bgnG G 0 ⟨1,0,1,0,0,0,2⟩).E.ses 0).pend=true from rfl]at hp2
  cases hp2
 ·have ek:k=0:=by omega
  subst ek
  rw[show((bgnG G 0 ⟨1,0,1,0,0,0,2⟩).E.ses 0).pend=true from rfl]at hp2
  cases hp2
 have W3:=W2.only0 O3
 have e1s:((bgnG G 0 ⟨1,0,1,0,0,0,2⟩).E.ses 1)=(eng0 0 0 0).ses 1:=by rw[←s1];rfl
 have nok: ¬rdsOk ((bgnG G 0 ⟨1,0,1,0,0,0,2⟩).E.ses 1) ⟨4,0,0,0,0,0,0⟩:=fun q=>by
  have:=(q 0 (by simp[rds])).2
  rw[e1s]at this
  cases this
 have rv:refu (bgnG G 0 ⟨1,0,1,0,0,0,2⟩).n ((bgnG G 0 ⟨1,0,1,0,0,0,2⟩).E.ses 1) ⟨4,0,0,0,0,0,0⟩=221:=by
  unfold refu
  rw[if_neg (by decide),if_neg (by decide),if_pos nok]
 refine e_begin (c:=⟨4,0,0,0,0,0,0⟩) (i:=1) W3 (by show 0<256;omega) (fun q=>by omega) (fun k hk ek hp2=> ?_) (fun k hk ek _ hr h4 O4=>ldI_of rfl ?_) fun k hk ek _ hr=> ?_
 ·have ek:k=1:=by omega
  subst ek
  rw[e1s]at hp2
  cases hp2
 rotate_left
 ·have ek:k=1:=by omega
  subst ek
  rw[rv]at hr
  cases hr
 have ek:k=1:=by omega
 subst ek
 rw[rv,show((0:Int) !=0)=false from rfl,bcase_false,show((220:Int) !=220)=false from rfl,bcase_false,show((221:Int) !=221)=false from rfl,bcase_false]
 have W4:=W3.only0 O4
 obtain⟨G2,eG2⟩: ∃G2,G2=bgnG G 0 ⟨1,0,1,0,0,0,2⟩:=⟨_,rfl⟩
 rw[←eG2]at W4 S2
 have sG2: ∀k,k≠0→G2.E.ses k=(eng0 0 0 0).ses k:=fun k hk=>by rw[eG2,←s1];exact upN_ne hk
 have sG0:G2.E.ses 0=bgnS ((eng0 0 0 0).ses 0) ⟨1,0,1,0,0,0,2⟩:=by rw[eG2,←s1];rfl
 refine pending56 W4.I (fun q=>by omega) fun k hk ek=>ldB_of rfl ?_
 have ek:k=0:=by omega
 subst ek
 rw[sG0,show(bgnS ((eng0 0 0 0).ses 0) ⟨1,0,1,0,0,0,2⟩).pend=true from rfl,Bool.not_true,bcase_false]
 have Ea:Easy G2:=by
  refine⟨by rw[eG2];exact j1,fun i hi hp=> ?_,by rw[eG2];show cntN G.N+5<G.room;rw[N1,m1];decide,by rw[eG2];show G.M+20000≤_;rw[M1,hLB];decide,by rw[eG2];show G.E.ans+10<_;rw[a1];decide⟩
  by_cases q:i=0
  ·subst q
   rw[sG0,eG2]
   refine⟨.inl rfl,?_⟩
   show refu G.n _ _=0
   rw[n1]
   unfold refu refu2
   rw[if_neg (by decide),if_neg (by decide),if_neg,if_neg (by decide),if_neg (by decide),if_neg (by decide)]
   intro q
   exact q fun r hr=>by simp[rds,bgnS]at hr
  ·rw[sG2 i q]at hp;cases hp
 refine easy_fair W4 Ea fun h5 G5 W5 S5 R5=>ldB_of rfl ?_
 rw[Bool.not_true,bcase_false]
 obtain⟨d,d6,ed,L⟩:=(R5.lo 0 (by omega) (by omega)).1 (by rw[sG0];rfl)
 have z4:G2.n=4:=by rw[eG2];exact n1
 have zf:G2.fo=fill 4:=by rw[eG2];exact f1
 rw[sG0]at ed L
 have d1:d=1:=by have:(1:Int)=(d:Int):=ed;omega
 subst d1
 rcases L with⟨-,v,e5,sv⟩|⟨k,-⟩|⟨k,-⟩
 rotate_left
 ·cases k
 ·cases k
 refine answer43 W5.I (fun q=>by omega) fun k hk ek h6 O6=>⟨_,_,_,rfl,?_⟩
 have ek:k=0:=by omega
 subst ek
 rw[e5]
 have W6:=W5.only0 O6
 refine newK_at fun h7 A7 O7 z7=> ?_
 refine stK_at (i:=0) A7 (by simp) rfl fun h8 A8 O8 z8=> ?_
 refine stK_at (i:=1) A8 (by simp) rfl fun h9 A9 O9 z9=> ?_
 have O79:Only [] h6 h9:=(O7.trans O8 (by intro x hx hl;simp at hx;omega)).trans O9 (by intro x hx hl;simp at hx;omega)
 have W9:=W6.only0 O79
 refine reg28 W9.I ⟨_,_,rfl,?_⟩
 have rV:regV G5.E 0 1=((v:Int),true):=by
  unfold regV
  rw[if_pos ⟨by omega,by unfold isR;omega⟩,show Int.toNat 0=0 from rfl,show Int.toNat 1=1 from rfl,e5]
  rfl
 rw[rV]
 show bcase true _ _
 rw[bcase_true]
 refine ldI_of (n:=0) (by rw[add_mk,At.rd A9];rfl) ?_
 rw[show((0:Int)==0)=true from rfl,bcase_true,bcase_true]
 refine store23 W9.I (ldP_of rfl ?_)
 refine var28 (v:=2) fun h10 g hg eg O10=>⟨_,_,_,_,rfl,?_⟩
 have W10:=W9.only0 O10
 have hv:isN G5.N v:=by
  have:=W5.rg 0 (by omega) 1 (by omega) (by rw[e5];rfl)
  rw[e5]at this
  exact this
 have n5:G5.n=4:=R5.n.trans z4
 have f5:G5.fo=fill 4:=R5.fo.trans zf
 refine is58 (X:=XL G5.n G5.room G5.fo G5.gg G5.N G5.off) (fun j hj=> ?_) W10.W.S hv hg (fun y hy=> ?_) fun h11 O11=>ldB_of rfl ?_
 ·show G5.fo j<8
  rw[f5]
  exact fill_8' (n:=4) (by omega) j (by rw[←n5];exact hj)
 ·show sm G5.n G5.fo G5.N v y=fb g y
  rw[eg y hy,R5.n,R5.fo,sv y]
  rfl
 rw[bcase_true]
 have W11:=W10.only0 O11
 refine answered54 W11.I (ldI_of rfl ?_)
 have ea:G5.E.ans=1:=by
  rw[R5.ans]
  have a2:G2.E.ans=0:=by rw[eG2];exact a1
  rw[a2]
  unfold nPd sumN sumN sumN sumN sumN
  rw[sG0,sG2 1 (by omega),sG2 2 (by omega),sG2 3 (by omega)]
  rfl
 rw[ea]
 have OO:Only [] h h5:=by
  have b2: ∀b∈ebl e G2,h.size≤b:=by
   intro b hb
   rcases S2.B b hb with q|q
   ·exact b1 b q
   ·have:=O1.size;omega
  exact S5.only (((S2.only O1 b1).trans O3 (by simp)).trans O4 (by simp)) b2
 exact hK h11 ((((OO.trans O6 (by simp)).trans O79 (by simp)).trans O10 (by simp)).trans O11 (by simp))
end
end
end Go.Proofs.YtnofenejoebkhaaGreat.Ev
