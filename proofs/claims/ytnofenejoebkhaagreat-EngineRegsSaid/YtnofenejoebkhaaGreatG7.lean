/- PART 7 OF WHAT THE LAW EngineRegs STANDS ON: RefG5, MrkA5, MrkB5, CchA5, CchB5, SftF5, SftG5, SftA5, SftB5, RnkP, RnkF5, RnkC5, RnkD5, RnkF515, RnkG5, RnkE5, SftC5, SftD5, SftE5, RetG5, IterB6. Conditions: none but those that each lemma states. -/
import Derived.Test.YtnofenejoebkhaaGreatG6
namespace Go.Proofs.YtnofenejoebkhaaGreat.Ev
open Go
section
def RowQ(h:Heap)(q:Option Addr)(m:Nat)(new:List Value):Prop:=match q with|some b=>isRow h b new|none=>m=0
theorem Own.weak{h:Heap}{lo lo' N:Nat}{p:Option Addr}{l c:Nat}{cs:List Value}(H:Own h lo N p l c cs)(hl:lo'≤lo):Own h lo' N p l c cs:=by
 obtain⟨e,H⟩:=H
 refine⟨e,?_⟩
 rcases H with h|⟨b,sp,h1,h2,h3⟩
 ·exact .inl h
 ·exact .inr ⟨b,sp,h1,by omega,h3⟩
theorem own_appN{h:Heap}{lo by_:Nat}{z:Array Value}{p q:Option Addr}{l c m:Nat}{cs new:List Value}{e:TypeId}{K:Option Addr→Nat→Nat→Heap→Prop}
  (H:Own h lo 1 p l c cs) (hnew:new.length=m) (hq:RowQ h q m new) (hz:z.size=1) (hcap:(l+m)*by_≤140737488355328) (hv: ∀v∈new,v.oneCell'=true) (hlo:lo≤h.size)
  (hK: ∀p' c' h',Own h' lo 1 p' (l+m) c' (cs++new)→Only (OwnB p) h h'→(∀b∈OwnB p',b∈OwnB p∨h.size≤b)→K p' (l+m) c' h'):
  appK h e 1 by_ z p l c q m K:=by
 obtain⟨hlen,H⟩:=H
 refine⟨new,by omega,?_,fun hle=> ?_,fun hlt=>⟨cs,hlen,?_,hcap,fun cap hc=> ?_⟩⟩
 ·cases q with
  |none=>exact hq
  |some b=>exact hq
 ·rcases H with⟨rfl,h0,h1⟩|⟨b,sp,rfl,h2,h3,h4,h5⟩
  ·have hm:m=0:=by omega
   have hn:new=[]:=List.eq_nil_of_length_eq_zero (by omega)
   subst hm
   refine⟨by omega,hK _ _ _ ⟨by simp[hlen,hn],.inl ⟨rfl,by omega,h1⟩⟩ (Only.refl _ _) fun b hb=> .inl hb⟩
  ·show stL ((⟨b,0,none⟩:Addr).add (l*1)) 0 new h _
   rw[add_mk,Nat.zero_add]
   have hsp:m≤sp.length:=by omega
   refine stL_own new 0 _ h h5 (by simp;omega) hv fun h' A' O' z'=>hK _ _ h' ⟨by simp;omega,Or.inr ⟨b,sp.drop m,rfl,h2,hle,?_,?_⟩⟩ O' fun x hx=>Or.inl hx
   ·rw[List.length_drop,h4]
    omega
   ·rw[Nat.add_zero,←hlen,List.take_left,hnew,List.drop_append,List.drop_eq_nil_of_le (by omega:cs.length≤cs.length+m)]at A'
    simpa using A'
 ·rcases H with⟨e,h0,-⟩|⟨b,sp,rfl,-,-,-,h5⟩
  ·subst e
   exact h0
  ·exact isRow_at h5 fun j v hj=>by
    rw[Nat.zero_add,List.getElem?_append_left (List.getElem?_eq_some_iff.1 hj).1]
    exact hj
 ·refine hK _ _ _ ⟨by simp;omega,Or.inr ⟨h.size,(Builtin.zeroCells z (cap-(l+m))).toList,rfl,hlo,hc,by rw[size_zeroCells,hz],?_⟩⟩ ((Only.push_cells h _ e).mono (by simp)) fun x hx=>Or.inr ?_
  ·have:=At.push h (cs.toArray++new.toArray++Builtin.zeroCells z (cap-(l+m))) e
   simpa using this
  ·simp[OwnB]at hx
   omega
theorem Own.row{h:Heap}{lo:Nat}{p:Option Addr}{l c:Nat}{cs:List Value}(H:Own h lo 1 p l c cs):RowQ h p l cs:=by
 obtain⟨e,H⟩:=H
 rcases H with⟨rfl,h0,-⟩|⟨b,sp,rfl,-,-,-,h5⟩
 ·exact h0
 ·exact isRow_at h5 fun j v hj=>by
   rw[Nat.zero_add,List.getElem?_append_left (List.getElem?_eq_some_iff.1 hj).1]
   exact hj
theorem rowV_list(k:IntKind)(xs:List Int):xs.map (Value.int k)=rowV xs.length fun i=> .int k (xs.getD i 0):=by
 apply List.ext_getElem?
 intro i
 by_cases hi:i<xs.length
 ·rw[rowV_get hi]
  simp[List.getD,hi]
 ·rw[List.getElem?_eq_none (by simpa using Nat.le_of_not_lt hi),List.getElem?_eq_none (by rw[rowV_len];omega)]
theorem map_getD(xs:List Int):(List.range xs.length).map (fun i=>xs.getD i 0)=xs:=by
 apply List.ext_getElem?
 intro i
 by_cases hi:i<xs.length
 ·simp[hi,List.getD]
 ·rw[List.getElem?_eq_none (by simpa using Nat.le_of_not_lt hi),List.getElem?_eq_none (by omega)]
theorem rowV_rng(k:IntKind)(n:Nat)(g:Nat→Int):rowV n (fun i=>Value.int k (g i))=((List.range n).map g).map (Value.int k):=by
 unfold rowV
 rw[List.map_map]
 rfl
def catL(L:Nat→List Int)(i:Nat):List Int:=(List.range i).flatMap L
theorem catL_succ(L:Nat→List Int)(i:Nat):catL L (i+1)=catL L i++L i:=by simp[catL,List.range_succ]
theorem mem_catL{L:Nat→List Int}{i:Nat}{x:Int}:x∈catL L i↔ ∃k,k<i∧x∈L k:=by simp[catL]
theorem catL_len{L:Nat→List Int}{N:Nat}: ∀(i:Nat),(∀k,k<i→(L k).length≤N)→(catL L i).length≤i*N:=by
 intro i
 induction i with
 |zero=>intro _;simp[catL]
 |succ i ih=>
  intro h
  rw[catL_succ,List.length_append,Nat.add_mul]
  have:=ih fun k hk=>h k (by omega)
  have:=h i (by omega)
  omega
theorem tidy{h:Heap}{lo:Nat}{p:Option Addr}{c:Nat}{xs:List Int}{K:Value→Heap→Prop}(H:Own h lo 1 p xs.length c (xs.map (Value.int .u32)))(hn12:xs.length≤12)
  (hK: ∀h' (p':Option Addr) c' (R:List Int),R.Pairwise (· < ·)→(∀x,x∈R↔1<x∧x∈xs)→Own h' lo 1 p' R.length c' (R.map (Value.int .u32))→Only (OwnB p) h h'→OwnB p'=OwnB p→K (.slice p' R.length c') h'):
  Cl 260 [.slice p xs.length c] h fun v1 h2=>(v1=(.tuple #[])∧Cl 261 [(.slice p xs.length c)] h2 (fun v3 h4=>ldS (some v3) (fun p5 l6 c7=>Cl 262 [(.slice p5 l6 c7),(.func (.func 263) #[] #[])] h4 (fun v8 h9=>ldS (some v8) (fun p10 l11 c12=>K (.slice p10 l11 c12) h9))))):=by
 have hn:xs.length≤LB/4:=by unfold LB;omega
 rcases H.2 with⟨rfl,h0,h1⟩|⟨b,sp,rfl,h2,h3,h4,h5⟩
 ·have hx:xs=[]:=List.eq_nil_of_length_eq_zero h0
  subst hx
  refine sort260nil ⟨rfl,cmp51nil ?_⟩
  rw[ldS_some]
  refine del52nil ?_
  rw[ldS_some]
  exact hK h none c [] List.Pairwise.nil (fun x=>by simp) ⟨rfl,.inl ⟨rfl,rfl,h1⟩⟩ (Only.refl _ _) rfl
 ·have A:Arr .u32 h b xs.length (fun i=>xs.getD i 0) sp:=by
   unfold Arr
   rw[←rowV_list]
   exact h5
  refine sort260 A hn12 fun h1 g1 A1 R1 S1 O1=>⟨rfl,?_⟩
  refine cmp51 A1 h3 hn R1 fun h2' k g2 sp2 A2 hl2 hk2 up fw bw O2=> ?_
  rw[ldS_some]
  refine del52 A2 (by omega) (by omega) fun h3' k3 g3 sp3 A3 hl3 hk3 e3 O3=> ?_
  rw[ldS_some]
  have hR:((List.range k3).map g3).length=k3:=by simp
  have:=hK h3' (some ⟨b,0,none⟩) c ((List.range k3).map g3) ?_ (fun x=> ?_) ?_ ((O1.trans O2 (by simp[OwnB])).trans O3 (by simp[OwnB])) rfl
  ·rw[hR]at this
   exact this
  ·rw[e3]
   refine List.Pairwise.filter _ ?_
   rw[List.pairwise_map]
   exact(List.pairwise_lt_range (n:=k)).imp_of_mem fun {p q} _ hq hpq=>up p q hpq (List.mem_range.1 hq)
  ·rw[e3,List.mem_filter]
   have P:=S1.perm (n:=xs.length) (Nat.le_refl _)
   rw[map_getD]at P
   have:x∈(List.range k).map g2↔x∈xs:=by
    rw[←P.mem_iff]
    simp only[List.mem_map,List.mem_range]
    constructor
    ·rintro ⟨p,hp,rfl⟩
     obtain⟨q,hq,e⟩:=fw p hp
     exact⟨q,hq,e.symm⟩
    ·rintro ⟨q,hq,rfl⟩
     obtain⟨p,hp,e⟩:=bw q hq
     exact⟨p,hp,e⟩
   rw[this]
   simp only[okR,decide_eq_true_eq]
   exact⟨fun⟨a,b⟩=>⟨b,a⟩,fun⟨a,b⟩=>⟨b,a⟩⟩
  ·rw[hR]
   refine⟨by simp,.inr ⟨b,sp3,rfl,h2,by omega,by omega,?_⟩⟩
   rw[←rowV_rng]
   exact A3
section
variable {lo:Nat}{h h':Heap}{r M S W N:Nat}{f:Int→Int}{p:Nat→Option Addr}{c:Nat→Nat}{L:Nat→List Int}{K:Value→Heap→Prop}
theorem keys49{h:Heap}{M:Nat}{K:Value→Heap→Prop}(hK: ∀h1,At h1 h.size [.map (some M)]→Only [] h h1→h1.size=h.size+1→K (.func (.func 293) #[] #[.pointer (some ⟨h.size,0,none⟩)]) h1):
  Cl 259 [.map (some M)] h K:=by
 refine F259.spec _ h _ ?_
 refine newK_at fun h1 A1 O1 z1=>hK h1 A1 O1 z1
theorem coll48{B:Nat}(H:Rf lo h r M S W N f p c L)(A:At h B [.map (some M)])(hN:N≤LB/64){K:Value→Heap→Prop}
  (hK: ∀(p:Option Addr) (c:Nat) (h':Heap) (ks:List Int),ks.Nodup→(∀x,x∈ks↔f x≠0)→ks.length≤N→Own h' h.size 1 p ks.length c (ks.map (Value.int .u32))→Only [] h h'→K (.slice p ks.length c) h'):
  Cl 258 [.func (.func 293) #[] #[.pointer (some ⟨B,0,none⟩)]] h K:=by
 have hLB:LB=140737488355328:=rfl
 refine F258.spec _ h _ ?_
 obtain⟨m,a,b,d⟩:=H.Mm
 have hmem: ∀x,x∈m.map (·.1)↔f x≠0:=fun x=>by
  have h2:=b x
  by_cases h0:f x=0
  ·rw[if_pos h0,lookup_none]at h2
   exact⟨fun h=>absurd h h2,fun h=>absurd h0 h⟩
  ·rw[if_neg h0]at h2
   refine⟨fun _=>h0,fun _=> ?_⟩
   apply Classical.byContradiction
   intro hn
   rw[lookup_none.2 hn]at h2
   cases h2
 refine appSeq A a (fun x hx=> ?_) (by omega) fun p c h2 ss hp Ow O2=> ?_
 ·have:=H.fx x ((hmem x).1 hx)
  simp only[Lit.wf,decide_eq_true_eq,Bool.and_eq_true]
  exact⟨this.1,this.2⟩
 ·rw[ldS_some]
  have nd:(m.map (·.1)).Nodup:=by obtain⟨_,_,_,_,h,_⟩:=a;exact h
  exact hK p c h2 ss (hp.nodup_iff.2 nd) (fun x=>by rw[hp.mem_iff];exact hmem x) (by rw[hp.length_eq];simpa using d) (Ow.weak (by omega)) O2
theorem roots32(H:Rf lo h r M S W N f p c L)(hN:N≤LB/64)(hW:W≤4)(few: ∀ks:List Int,ks.Nodup→(∀x,x∈ks↔f x≠0)→ks.length+(catL L W).length≤12)
  (hK: ∀h' (p':Option Addr) c' (R:List Int),R.Pairwise (· < ·)→(∀x,x∈R↔1<x∧(f x≠0∨ ∃k,k<W∧x∈L k))→Own h' h.size 1 p' R.length c' (R.map (Value.int .u32))→Only [] h h'→K (.slice p' R.length c') h'):
  Cl 213 [.pointer (some ⟨r,0,none⟩)] h K:=by
 refine F213.spec _ h K ?_
 have hLB:LB=140737488355328:=rfl
 rw[add_mk,H.rd0,ldM_some]
 refine keys49 fun hB AB OB zB=> ?_
 rw[ldV_some]
 refine coll48 (H.new OB) AB hN fun pk ck h1 ks nd hks hkn Ow1 O1=> ?_
 replace Ow1:=Ow1.weak (lo':=h.size) (by omega)
 replace O1:=OB.trans O1 (by simp)
 rw[ldS_some,add_mk,show rd h1 ⟨r,0+1,none⟩=some (.slice (some ⟨S,0,none⟩) W W)from(H.new O1).rd1,ldS_some]
 unfold F213.wk3
 have main: ∀(d i:Nat) (q:Option Addr) (cq:Nat) (h2:Heap),i+d=W→Own h2 h.size 1 q (ks++catL L i).length cq ((ks++catL L i).map (Value.int .u32))→Only [] h h2→
   F213.wL3 (d+1) q (ks++catL L i).length cq (some ⟨S,0,none⟩) W W W i h2 K:=by
  intro d
  induction d with
  |zero=>
   intro i q cq h2 hd Ow O
   rw[F213.sL3]
   rw[show decide ((i:Int)<(W:Int))=false by simp;omega,bcase_false]
   unfold F213.wk7
   have hi:i=W:=by omega
   subst hi
   have hl:=catL_len (L:=L) (N:=N) i H.len
   have:i*N≤4*N:=Nat.mul_le_mul_right _ hW
   refine tidy Ow (by rw[List.length_append];exact few ks nd hks) fun h3 p3 c3 R hR hm Ow3 O3 _=> ?_
   refine hK h3 p3 c3 R hR (fun x=> ?_) Ow3 (O.trans O3 fun b hb hlt=> ?_)
   ·rw[hm x,List.mem_append,hks,mem_catL]
   ·have:=Ow.lt b hb
    omega
  |succ d ih=>
   intro i q cq h2 hd Ow O
   rw[F213.sL3]
   rw[show decide ((i:Int)<(W:Int))=true by simp;omega,bcase_true,ptrK_some]
   refine⟨by omega,by omega,?_⟩
   have H2:=H.new O
   rw[add_mk,show 0+Int.toNat (i:Int)*1=i by omega,H2.rdT (by omega),ldS_some,show IntKind.wrap .i64 ((i:Int)+1)=((i+1:Nat):Int) by rw[wrapN (by omega) (by omega)];omega]
   have Owi:=H2.own i (by omega)
   have hl:=catL_len (L:=L) (N:=N) i fun k hk=>H.len k (by omega)
   have:i*N≤4*N:=Nat.mul_le_mul_right _ (by omega)
   have hli:=H.len i (by omega)
   have hs:=O.size
   refine own_appN (new:=(L i).map (Value.int .u32)) Ow (by simp) Owi.row rfl (by rw[List.length_append];omega) (by simp[Value.oneCell']) hs fun p' c' h3 Ow3 O3 hp3=> ?_
   have e:(ks++catL L i).length+(L i).length=(ks++catL L (i+1)).length:=by rw[catL_succ];simp;omega
   have e2:(ks++catL L i).map (Value.int .u32)++(L i).map (Value.int .u32)=(ks++catL L (i+1)).map (Value.int .u32):=by rw[catL_succ];simp
   rw[e,e2]at Ow3
   rw[e]
   exact ih (i+1) p' c' h3 (by omega) Ow3 (O.trans O3 fun b hb hlt=>by have:=Ow.lt b hb;omega)
 have e0:ks=ks++catL L 0:=by simp[catL]
 refine⟨W+1,?_⟩
 have:=main W 0 pk ck h1 (by omega) (by rw[←e0];exact Ow1) O1
 rw[←e0]at this
 exact this
end
end
section
abbrev hv(a:Nat):Value:= .int .u32 (a:Int)
theorem Own.pop{h:Heap}{lo:Nat}{p:Option Addr}{l c:Nat}{cs:List Value}{v:Value}(H:Own h lo 1 p (l+1) c (cs++[v])):Own h lo 1 p l c cs:=by
 obtain⟨e,H⟩:=H
 rw[List.length_append,List.length_singleton]at e
 refine⟨by omega,?_⟩
 rcases H with⟨-,h0,-⟩|⟨b,sp,h1,h2,h3,h4,h5⟩
 ·omega
 ·exact .inr ⟨b,v::sp,h1,h2,by omega,by simp;omega,by simpa using h5⟩
theorem Own.none_nil{h:Heap}{lo N:Nat}{l c:Nat}{cs:List Value}(H:Own h lo N none l c cs):l=0∧cs=[]:=by
 obtain⟨e,H⟩:=H
 rcases H with⟨-,h0,-⟩|⟨b,sp,h1,-⟩
 ·subst h0
  exact⟨rfl,List.eq_nil_of_length_eq_zero (by omega)⟩
 ·cases h1
theorem clone299{h:Heap}{lo:Nat}{p:Option Addr}{l c:Nat}{cs:List Value}{K:Value→Heap→Prop}(H:Own h lo 1 p l c cs)(hv: ∀v∈cs,v.oneCell'=true)(hl:l≤1000000)
  (hK: ∀p' c' h',Own h' h.size 1 p' l c' cs→Only [] h h'→K (.slice p' l c') h'):Cl 299 [.slice p l c] h K:=by
 apply F299.spec
 refine bcase_of (fun g=> ?_) fun g=> ?_
 ·obtain rfl:p=none:=by simpa using g
  obtain⟨rfl,rfl⟩:=H.none_nil
  exact hK none 0 h (Own.nil _ _ _) (Only.refl _ _)
 ·refine newK_at fun h1 A1 O1 z1=> ?_
  have B:Own h1 h.size 1 (some ⟨h.size,0,none⟩) 0 0 []:=⟨rfl,.inr ⟨h.size,[],rfl,Nat.le_refl _,Nat.le_refl _,rfl,A1⟩⟩
  have HH:=H.only O1 (by simp)
  have hlen:cs.length=l:=by have:=H.1;omega
  refine own_appN (new:=cs) B hlen HH.row rfl (by omega) hv (by omega) fun p' c' h2 W2 O2 hb2=> ?_
  rw[Nat.zero_add]at W2 ⊢
  rw[List.nil_append]at W2
  exact hK p' c' h2 W2 (O1.trans O2 (by intro b hb hl;simp[OwnB]at hb;omega))
def unm(keep:Nat→Bool)(N:List (Option Nd)):Nat:=cntN (retN (fun a=> !keep a) N)
def add1(keep:Nat→Bool)(k a:Nat):Bool:=keep a||a==k
theorem unm_add{keep:Nat→Bool}{N:List (Option Nd)}{k:Nat}{x:Nd}(h2:2≤k)(hx:nd N (k-2)=some x)(hk:keep k=false):unm (add1 keep k) N+1=unm keep N:=by
 have hi:N[k-2]? =some (some x):=nd_some.1 hx
 have hl:=(List.getElem?_eq_some_iff.1 hi).1
 have e:retN (fun a=> !add1 keep k a) N=(retN (fun a=> !keep a) N).set (k-2) none:=by
  apply List.ext_getElem?
  intro i
  rw[List.getElem?_set]
  split
  ·rename_i e
   subst e
   have e1:(!add1 keep k (k-2+2))=false:=by
    unfold add1
    rw[show k-2+2=k by omega]
    simp
   rw[ret_get hi,e1,if_neg (by simp),if_pos (by rw[ret_len];exact hl)]
  ·rename_i e
   cases h:N[i]? with
   |none=>rw[List.getElem?_eq_none,List.getElem?_eq_none]<;>rw[ret_len]<;>exact List.getElem?_eq_none_iff.1 h
   |some o=>
    rw[ret_get h,ret_get h]
    have:(i+2==k)=false:=by simp;omega
    simp[add1,this]
 unfold unm
 rw[e]
 refine cntN_none (x:=x) ?_
 rw[ret_get hi]
 simp[show k-2+2=k by omega,hk]
structure Mk(N:List (Option Nd))(rs:List Nat)(keep:Nat→Bool)(left:List Nat):Prop where
 is: ∀a,keep a=true→2≤a∧isN N a
 li: ∀a∈left,isN N a
 cl: ∀i x,nd N i=some x→keep (i+2)=true→(x.2.1<2∨keep x.2.1=true∨x.2.1∈left)∧(x.2.2<2∨keep x.2.2=true∨x.2.2∈left)
 ro: ∀r∈rs,r<2∨keep r=true∨r∈left
 mi: ∀P:Nat→Prop,(∀r∈rs,P r)→(∀i x,nd N i=some x→P (i+2)→P x.2.1∧P x.2.2)→(∀a,keep a=true→P a)∧ ∀a∈left,P a
theorem Mk.start{N:List (Option Nd)}{rs:List Nat}(h: ∀r∈rs,isN N r):Mk N rs (fun _=>false) rs:=
 ⟨fun a h=>(by cases h),h,fun i x _ h=>(by cases h),fun r hr=> .inr (.inr hr),fun P h1 _=>⟨fun a h=>(by cases h),h1⟩⟩
theorem Mk.skip{N:List (Option Nd)}{rs:List Nat}{keep:Nat→Bool}{left:List Nat}{a:Nat}(M:Mk N rs keep (left++[a]))(ha:a<2∨keep a=true):Mk N rs keep left:=by
 have w: ∀b,b<2∨keep b=true∨b∈left++[a]→b<2∨keep b=true∨b∈left:=fun b hb=>by
  rcases hb with q|q|q
  ·exact .inl q
  ·exact .inr (.inl q)
  ·rcases List.mem_append.1 q with q|q
   ·exact .inr (.inr q)
   ·simp at q
    subst q
    rcases ha with z|z
    ·exact .inl z
    ·exact .inr (.inl z)
 exact⟨M.is,fun b hb=>M.li b (by simp[hb]),fun i x hx hk=>⟨w _ (M.cl i x hx hk).1,w _ (M.cl i x hx hk).2⟩,fun r hr=>w _ (M.ro r hr),fun P h1 h2=>⟨(M.mi P h1 h2).1,fun b hb=>(M.mi P h1 h2).2 b (by simp[hb])⟩⟩
theorem Mk.step{n:Nat}{N:List (Option Nd)}{rs:List Nat}{keep:Nat→Bool}{left:List Nat}{a:Nat}(H:NOk n N)(M:Mk N rs keep (left++[a]))(h2:2≤a):Mk N rs (add1 keep a) (left++[low N a,high N a]):=by
 have ia:isN N a:=M.li a (by simp)
 obtain⟨x,hx⟩: ∃x,nd N (a-2)=some x:=by
  rcases ia with q|q
  ·omega
  ·exact q
 have el:low N a=x.2.1:=by unfold low;rw[if_neg (by omega),hx]
 have eh:high N a=x.2.2:=by unfold high;rw[if_neg (by omega),hx]
 obtain⟨-,n1,n2,-⟩:=H.node _ x hx
 have w: ∀b,b<2∨keep b=true∨b∈left++[a]→b<2∨add1 keep a b=true∨b∈left++[low N a,high N a]:=fun b hb=>by
  rcases hb with q|q|q
  ·exact .inl q
  ·exact .inr (.inl (by simp[add1,q]))
  ·rcases List.mem_append.1 q with q|q
   ·exact .inr (.inr (by simp[q]))
   ·simp at q
    exact .inr (.inl (by simp[add1,q]))
 refine⟨fun b hb=> ?_,fun b hb=> ?_,fun i y hy hk=> ?_,fun r hr=>w _ (M.ro r hr),fun P p1 p2=> ?_⟩
 ·unfold add1 at hb
  rw[Bool.or_eq_true]at hb
  rcases hb with q|q
  ·exact M.is b q
  ·have:b=a:=by simpa using q
   rw[this]
   exact⟨h2,ia⟩
 ·rcases List.mem_append.1 hb with q|q
  ·exact M.li b (by simp[q])
  ·simp at q
   rcases q with q|q
   ·rw[q,el];exact n1
   ·rw[q,eh];exact n2
 ·unfold add1 at hk
  rw[Bool.or_eq_true]at hk
  rcases hk with q|q
  ·exact⟨w _ (M.cl i y hy q).1,w _ (M.cl i y hy q).2⟩
  ·have:i+2=a:=by simpa using q
   have:i=a-2:=by omega
   subst this
   rw[hx]at hy
   injection hy with hy
   subst hy
   exact⟨.inr (.inr (by simp[el])),.inr (.inr (by simp[eh]))⟩
 ·obtain⟨m1,m2⟩:=M.mi P p1 p2
  have pa:=m2 a (by simp)
  have:=p2 (a-2) x hx (by rw[show a-2+2=a by omega];exact pa)
  refine⟨fun b hb=> ?_,fun b hb=> ?_⟩
  ·unfold add1 at hb
   rw[Bool.or_eq_true]at hb
   rcases hb with q|q
   ·exact m1 b q
   ·have:b=a:=by simpa using q
    rw[this]
    exact pa
  ·rcases List.mem_append.1 hb with q|q
   ·exact m2 b (by simp[q])
   ·simp at q
    rcases q with q|q
    ·rw[q,el];exact this.1
    ·rw[q,eh];exact this.2
theorem KpM.add{mo:List (Int×Value)}{keep:Nat→Bool}{k:Nat}(H:KpM mo keep):KpM (mset mo (k:Int) (.agg #[])) (add1 keep k):=fun a=>by
 have e:(a==k)=decide ((a:Int)=(k:Int)):=by
  by_cases h:a=k
  ·simp[h]
  ·rw[decide_eq_false (by omega)]
   simpa using h
 unfold add1
 rw[lookup_mset,e]
 by_cases h:(a:Int)=(k:Int)
 ·rw[if_pos h,decide_eq_true h,Bool.or_true]
  exact⟨fun _=>rfl,fun h=>by cases h⟩
 ·rw[if_neg h,decide_eq_false h,Bool.or_false]
  exact H a
end
section
section
variable {h:Heap}{s:Nat}{L:List Nat}{X:SX}{K:Value→Heap→Prop}
set_option maxRecDepth 100000 in
theorem marks267{lo:Nat}{p:Option Addr}{c:Nat}{rs:List Nat}(H:Sto h s L X)(Hr:Own h lo 1 p rs.length c (rs.map hv))(hr: ∀r∈rs,isN X.N r)(hl:rs.length≤100000)
  (hK: ∀h' mb mo keep,MapM h' mb .u32 mo→KpM mo keep→h.size≤mb→Mk X.N rs keep []→Only [] h h'→K (.tuple #[.map (some mb),.int .i64 0]) h'):
  Cl 267 [.pointer (some ⟨s,0,none⟩),.slice p rs.length c] h K:=by
 apply F267.spec
 refine newK_map4 (k:= .u32) fun h1 M1 O1 z1=> ?_
 unfold F267.wk3
 have H1:=H.only0 O1
 have Hr1:=Hr.only O1 (by simp)
 have nr: ∀r∈rs,r<32770:=fun r hr'=>H.isN_lt (hr r hr')
 have ok:=H.ok
 have lL:=H.lt
 have second: ∀(d:Nat) (h':Heap) (mo:List (Int×Value)) (keep:Nat→Bool) (left:List Nat) (q:Option Addr) (qc:Nat),3*unm keep X.N+left.length<d→Mk X.N rs keep left→KpM mo keep→MapM h' h.size .u32 mo→
   Own h' h1.size 1 q left.length qc (left.map hv)→Only [] h h'→2*unm keep X.N+left.length≤170000→F267.wL10 d ⟨s,0,none⟩ (some h.size) q left.length qc h' K:=by
  intro d
  induction d with
  |zero=>intro h' mo keep left q qc hd;omega
  |succ d ih=>
   intro h' mo keep left q qc hd Mk Kp Mm Ow O cap
   rw[F267.sL10]
   rcases List.eq_nil_or_concat left with e|⟨l0,a,e⟩
   ·subst e
    rw[decide_eq_false (by simp),bcase_false]
    exact hK h' h.size mo keep Mm Kp (Nat.le_refl _) Mk O
   ·rw[List.concat_eq_append]at e
    subst e
    have el:(l0++[a]).length=l0.length+1:=by simp
    rw[el]at Ow hd cap ⊢
    have em:(l0++[a]).map hv=l0.map hv++[hv a]:=by simp
    rw[em]at Ow
    rw[decide_eq_true (by omega),bcase_true]
    obtain⟨b,eb,rr⟩:=Ow.rd (j:=l0.length) (by simp)
    have w1:IntKind.wrap .i64 (((l0.length+1:Nat):Int)-1)=(l0.length:Int):=by rw[wrap_i64 (by omega) (by omega)];omega
    have cap1:l0.length+1≤qc:=by
     rcases Ow.2 with⟨e,-⟩|⟨_,_,_,_,h3,_⟩
     ·rw[eb]at e;cases e
     ·exact h3
    rw[eb,ptrK_some]
    simp only[w1,add_mk,Nat.zero_add]
    refine⟨by omega,by omega,?_⟩
    have ia:=Mk.li a (by simp)
    have ha:=H.isN_lt ia
    refine ldI_of (n:=(a:Int)) (by rw[show Int.toNat (l0.length:Int)*1=l0.length by omega,rr];simp) ⟨by omega,by omega,?_⟩
    rw[←eb,keep_ptr,Nat.sub_zero,Nat.sub_zero,Int.toNat_natCast]
    have Ow0:=Ow.pop
    have tail: ∀(o:Option (Nat×Value)),o.isSome=keep a→(lkV (.agg #[]) o= .agg #[])→ ∀KK:Heap→Prop,(∀k6,Only [] h' k6→bcase (keep a) (F267.wL10 d ⟨s,0,none⟩ (some h.size) q l0.length qc k6 K) (bcase (decide ((a:Int)≤1)) (F267.wL10 d ⟨s,0,none⟩ (some h.size) q l0.length qc k6 K) (KK k6)))→
      ldV (some (lkV (.agg #[]) o)) (fun v4=>newK h' (.cells #[] 218) (fun b5 h6=>storeE Tryz.prog 218 (some (Addr.mk b5 0 none)) v4 h6 (fun h7=>bcase (Option.isSome o) (F267.wL10 d ⟨s,0,none⟩ (some h.size) q l0.length qc h7 K) (bcase (decide ((a:Int)≤1)) (F267.wL10 d ⟨s,0,none⟩ (some h.size) q l0.length qc h7 K) (KK h7))))):=by
     intro o e1 e2 KK hk
     rw[e2]
     refine⟨_,rfl,newK_at fun k6 B6 P6 y6=>store116 ?_⟩
     rw[e1]
     exact hk k6 P6
    have body: ∀k6,Only [] h' k6→bcase (keep a) (F267.wL10 d ⟨s,0,none⟩ (some h.size) q l0.length qc k6 K) (bcase (decide ((a:Int)≤1)) (F267.wL10 d ⟨s,0,none⟩ (some h.size) q l0.length qc k6 K) (F267.wk15 (fun x0 x6 x9p x9l x9c h=>F267.wL10 d x0 x6 x9p x9l x9c h K) ⟨s,0,none⟩ (some h.size) q l0.length qc (a:Int) k6 K)):=by
     intro k6 P6
     have O6:=O.trans P6 (by simp)
     have z6:=P6.size
     have zO:=O.size
     have go:a<2∨keep a=true→F267.wL10 d ⟨s,0,none⟩ (some h.size) q l0.length qc k6 K:=fun hs=>
      ih k6 mo keep l0 q qc (by omega) (Mk.skip hs) Kp (Mm.only P6 (by simp)) (Ow0.only P6 (by simp)) O6 (by omega)
     cases hka:keep a with
     |true=>exact go (.inr hka)
     |false=>
      rw[bcase_false]
      refine bcase_of (fun g=>go (.inl (by have:=of_decide_eq_true g;omega))) fun g=> ?_
      have g: ¬(a:Int)≤1:=of_decide_eq_false g
      have h2:2≤a:=by omega
      obtain⟨x,hx⟩: ∃x,nd X.N (a-2)=some x:=by
       rcases ia with q|q
       ·omega
       ·exact q
      have hu:=unm_add h2 hx hka
      unfold F267.wk15
      refine upd_map (Mm.only P6 (by simp)) fun h7 M7 O7 z7=> ?_
      have O67:Only [] h h7:=O6.trans O7 (by intro b hb hl;simp at hb;omega)
      have H7:=H.only0 O67
      refine sto_low H7 ia (ldI_of rfl (sto_high H7 ia (ldI_of rfl ?_)))
      refine newK_at fun h8 A8 O8 z8=> ?_
      have nb: ∀b,q=some ⟨b,0,none⟩→b∉[h.size]:=fun b e hm=>by
       have:=Ow.lt b (by rw[e];simp[OwnB])
       simp at hm
       omega
      have Ow8:=((Ow0.only P6 (by simp)).only O7 nb).only O8 (by simp)
      refine own_appN (new:=[hv (low X.N a),hv (high X.N a)]) (q:=some ⟨h7.size,0,none⟩) Ow8 rfl (isRow_at A8 (by simp)) rfl (by omega) (by simp[Value.oneCell']) (by omega) fun p' c' h9 W9 O9 hb9=> ?_
      have e9:l0.map hv++[hv (low X.N a),hv (high X.N a)]=(l0++[low X.N a,high X.N a]).map hv:=by simp
      have e10:l0.length+2=(l0++[low X.N a,high X.N a]).length:=by simp
      rw[e9,e10]at W9
      rw[e10]
      have lq: ∀b∈OwnB q,h1.size≤b:=fun b hb=>(Ow.lt b hb).1
      refine ih h9 _ (add1 keep a) _ p' c' (by simp;omega) (Mk.step ok.1 h2) Kp.add ((M7.only O8 (by simp)).only O9 fun hm=>by have:=lq _ hm;omega) W9 ((O67.trans O8 (by simp)).trans O9 fun b hb hl=>by have:=lq b hb;omega) (by simp;omega)
    refine look_map (m:=mo) Mm (fun hn=> ?_) fun j v hv'=> ?_
    ·have k0:keep a=false:=by
      cases hk:keep a with
      |false=>rfl
      |true=>
       rw[(Kp a).1 hk]at hn
       cases hn
     exact tail none (by rw[k0];rfl) rfl _ body
    ·have k1:keep a=true:=by
      cases hk:keep a with
      |true=>rfl
      |false=>
       rw[(Kp a).2 hk]at hv'
       cases hv'
     rw[(Kp a).1 k1]at hv'
     injection hv' with hv'
     subst hv'
     exact tail (some (j,.agg #[])) (by rw[k1];rfl) rfl _ body
 have first: ∀(d i:Nat),i+d=rs.length→F267.wL3 (d+1) ⟨s,0,none⟩ p rs.length c (some h.size) p rs.length c (rs.length:Int) (i:Int) h1 K:=by
  intro d
  induction d with
  |zero=>
   intro i hi
   rw[F267.sL3]
   rw[decide_eq_false (by omega),bcase_false]
   unfold F267.wk9
   refine clone299 Hr1 (by simp[Value.oneCell']) (by omega) fun p' c' h2 W2 O2=>ldS_of rfl ?_
   unfold F267.wk10
   have hu:unm (fun _=>false) X.N≤X.N.length:=by
    have:unm (fun _=>false) X.N≤(retN (fun a=> !(fun _=>false) a) X.N).length:=cntN_le _
    rw[ret_len]at this
    exact this
   exact⟨_,second _ h2 [] (fun _=>false) rs p' c' (Nat.lt_succ_self _) (Mk.start hr) (fun k=>⟨fun h=>(by cases h),fun _=>rfl⟩) (M1.only O2 (by simp)) W2 (O1.trans O2 (by simp)) (by omega)⟩
  |succ d ih=>
   intro i hi
   rw[F267.sL3]
   rw[decide_eq_true (by omega),bcase_true]
   obtain⟨b,eb,rr⟩:=Hr1.rd (j:=i) (by simp;omega)
   rw[eb,ptrK_some,←eb]
   refine⟨by omega,by omega,?_⟩
   rw[add_mk,Nat.zero_add,show Int.toNat (i:Int)*1=i by omega,rr]
   obtain⟨a,ha⟩: ∃a,rs[i]? =some a:=⟨_,List.getElem?_eq_getElem (by omega)⟩
   have hm:=List.mem_of_getElem? ha
   refine ldI_of (n:=(a:Int)) (by simp[ha]) (sto_is1 H1 (hr a hm) (ldB_of rfl ?_))
   rw[Bool.not_true,bcase_false,show IntKind.wrap .i64 ((i:Int)+1)=((i+1:Nat):Int) by rw[wrap_i64 (by omega) (by omega)];omega]
   exact ih (i+1) (by omega)
 exact⟨_,first rs.length 0 (by omega)⟩
theorem collect218(Q':(Nat→Bool)→Int→Int→Prop){lo:Nat}{p:Option Addr}{c:Nat}{rs:List Nat}(H:Sto h s L X)(Hr:Own h lo 1 p rs.length c (rs.map hv))(hr: ∀r∈rs,isN X.N r)(hl:rs.length≤100000)
  (hK: ∀h' L' gone keep,Mk X.N rs keep []→Sto h' s L' {X with N:=retN keep X.N,Q:=Q' keep}→Only L h h'→Fresh L L' h→K (.tuple #[.int .i64 gone,.int .i64 0]) h'):
  Cl 218 [.pointer (some ⟨s,0,none⟩),.slice p rs.length c] h K:=by
 apply F218.spec
 refine marks267 H Hr hr hl fun h1 mb mo keep M1 Kp gm M O1=>⟨_,_,rfl,?_⟩
 rw[show((0:Int) !=0)=false from rfl,bcase_false]
 have cl: ∀i x,nd X.N i=some x→keep (i+2)=true→(x.2.1<2∨keep x.2.1=true)∧(x.2.2<2∨keep x.2.2=true):=fun i x hx hk=>by
  have:=M.cl i x hx hk
  simpa using this
 have z1:=O1.size
 refine sto_retain (Q' keep) (H.only0 O1) M1 Kp (fun hm=>by have:=H.lt mb hm;omega) cl fun h2 L2 gone S2 O2 F2=>ldI_of rfl ?_
 exact hK h2 L2 gone keep M S2 ((O1.mono (by simp)).trans O2 fun b hb _=>hb) fun b hb=>by
  rcases F2 b hb with q|q
  ·exact .inl q
  ·exact .inr (by omega)
end
end
section
inductive Rch (N:List (Option Nd)):Nat→Nat→Prop
 |self {a:Nat} (h:2≤a):Rch N a a
 |lo {a b:Nat} (h:2≤a) (r:Rch N (low N a) b):Rch N a b
 |hi {a b:Nat} (h:2≤a) (r:Rch N (high N a) b):Rch N a b
def Cls(n:Nat)(N:List (Option Nd))(keep:Nat→Bool)(l:Nat):Prop:= ∀b,keep b=true→l≤lvl n N b→(low N b<2∨keep (low N b)=true)∧(high N b<2∨keep (high N b)=true)
def KM(mo:List (Int×Value))(keep:Nat→Bool):Prop:=KpM mo keep∧ ∀p∈mo,∃k:Nat,keep k=true∧p=((k:Int),Value.agg #[])
theorem lookup_mem{k:Int}{v:Value}: ∀{m:List (Int×Value)},m.lookup k=some v→(k,v)∈m
 | [],h=>by cases h
 |(x,y)::m,h=>by
  rw[List.lookup_cons]at h
  split at h
  ·rename_i e
   have e:k=x:=by simpa using e
   injection h with h
   subst h e
   exact List.mem_cons_self ..
  ·exact List.mem_cons_of_mem _ (lookup_mem h)
theorem KM.add{mo:List (Int×Value)}{keep:Nat→Bool}{k:Nat}(H:KM mo keep):KM (mset mo (k:Int) (.agg #[])) (add1 keep k):=by
 refine⟨H.1.add,fun p hp=> ?_⟩
 have kk:add1 keep k k=true:=by unfold add1;simp
 have up: ∀j,keep j=true→add1 keep k j=true:=fun j hj=>by unfold add1;rw[hj];rfl
 unfold mset at hp
 split at hp
 ·obtain⟨q,hq,e⟩:=List.mem_map.1 hp
  split at e
  ·exact⟨k,kk,e.symm⟩
  ·obtain⟨j,h1,h2⟩:=H.2 q hq
   exact⟨j,up j h1,by rw[←e];exact h2⟩
 ·rcases List.mem_append.1 hp with h|h
  ·obtain⟨j,h1,h2⟩:=H.2 p h
   exact⟨j,up j h1,h2⟩
  ·simp only[List.mem_singleton]at h
   exact⟨k,kk,h⟩
theorem ldM_ofC{x:Option Value}{K:Option Nat→Prop}{n:Option Nat}(hx:x=some (.map n))(hK:K n):ldM x K:=⟨n,hx,hK⟩
theorem go158:xget X 158=some Ext.go:=by kernel_rfl
section
variable {h:Heap}{s:Nat}{L:List Nat}{Y:SX}{K:Value→Heap→Prop}
theorem Rch.lvl_le{n:Nat}{N:List (Option Nd)}(ok:NOk n N){a b:Nat}(R:Rch N a b):isN N a→isN N b∧2≤b∧lvl n N a≤lvl n N b:=by
 induction R with
 |self h=>exact fun ha=>⟨ha,h,Nat.le_refl _⟩
 |lo h r ih=>
  intro ha
  obtain⟨h3,h4,h5,-,h6,h7⟩:=ok.at ha h
  obtain⟨x,y,z⟩:=ih h4
  exact⟨x,y,by omega⟩
 |hi h r ih=>
  intro ha
  obtain⟨h3,h4,h5,-,h6,h7⟩:=ok.at ha h
  obtain⟨x,y,z⟩:=ih h5
  exact⟨x,y,by omega⟩
structure GoC(h:Heap)(s mb b1 b5 b8:Nat):Prop where
 m:At h b5 [.map (some mb)]
 g:At h b8 [.func (.func 158) #[] #[.pointer (some ⟨b5,0,none⟩),.pointer (some ⟨b8,0,none⟩),.pointer (some ⟨b1,0,none⟩)]]
 s:At h b1 [.pointer (some ⟨s,0,none⟩)]
 d:mb≠b1∧mb≠b5∧mb≠b8
theorem GoC.only{S:List Nat}{h h':Heap}{s mb b1 b5 b8:Nat}(G:GoC h s mb b1 b5 b8)(O:Only S h h')(h1:b1∉S)(h5:b5∉S)(h8:b8∉S):GoC h' s mb b1 b5 b8:=⟨G.m.only O h5,G.g.only O h8,G.s.only O h1,G.d⟩
set_option maxRecDepth 100000 in
theorem goes158{mb b1 b5 b8:Nat}(dm:mb∉L): ∀(d:Nat) {h:Heap} {a:Nat} {keep:Nat→Bool} {mo:List (Int×Value)} {K:Value→Heap→Prop},Y.n-lvl Y.n Y.N a≤d→Sto h s L Y→GoC h s mb b1 b5 b8→MapM h mb .u32 mo→KM mo keep→isN Y.N a→Cls Y.n Y.N keep (lvl Y.n Y.N a)→
  (∀h' mo' keep',MapM h' mb .u32 mo'→KM mo' keep'→(∀b,keep b=true→keep' b=true)→(a<2∨keep' a=true)→(∀l,l≤lvl Y.n Y.N a→Cls Y.n Y.N keep l→Cls Y.n Y.N keep' l)→(∀b,keep' b=true→keep b=true∨Rch Y.N a b)→Only [mb] h h'→K (.tuple #[]) h')→
  Cl 158 [.int .u32 (a:Int),.pointer (some ⟨b5,0,none⟩),.pointer (some ⟨b8,0,none⟩),.pointer (some ⟨b1,0,none⟩)] h K:=by
 intro d
 induction d using Nat.strongRecOn with
 |_ d ih=>
  intro h a keep mo K hd H G M Kp ha hC hK
  have ok:=H.ok
  refine F158.spec _ _ _ _ h K ?_
  refine ldM_ofC (by rw[At.rd G.m];rfl) ?_
  have same: ∀k6,Only [] h k6→(a<2∨keep a=true)→K (.tuple #[]) k6:=fun k6 O q=>hK k6 mo keep (M.only O (by simp)) Kp (fun b hb=>hb) q (fun l _ c=>c) (fun b hb=> .inl hb) (O.mono (by simp))
  have body: ∀o:Option (Nat×Value),o.isSome=keep a→lkV (.agg #[]) o= .agg #[]→ldV (some (lkV (.agg #[]) o)) (fun v3=>newK h (.cells #[] 218) (fun b4 h5=>storeE Tryz.prog 218 (some (Addr.mk b4 0 none)) v3 h5 (fun h6=>bcase (Option.isSome o) (K (.tuple #[]) h6) (bcase (decide ((a:Int)≤(1:Int))) (K (.tuple #[]) h6) (F158.wk2 (a:Int) ⟨b5,0,none⟩ ⟨b8,0,none⟩ ⟨b1,0,none⟩ h6 K))))):=by
   intro o e1 e2
   rw[e2]
   refine⟨_,rfl,newK_at fun k6 B6 P6 y6=>store116 ?_⟩
   rw[e1]
   refine bcase_of (fun q=>same k6 P6 (.inr q)) fun q=>bcase_of (fun p=>same k6 P6 (.inl (by have:=of_decide_eq_true p;omega))) fun p=> ?_
   have p:=of_decide_eq_false p
   have a2:2≤a:=by omega
   obtain⟨h3,h4,h5,-,h6,h7⟩:=ok.1.at ha a2
   unfold F158.wk2
   have G6:=G.only P6 (by simp) (by simp) (by simp)
   have H6:=H.only0 P6
   refine ldM_ofC (by rw[At.rd G6.m];rfl) (upd_map (M.only P6 (by simp)) fun k7 M7 O7 z7=> ?_)
   have nd1:b1∉[mb]:=by simpa using fun e=>G.d.1 e.symm
   have nd5:b5∉[mb]:=by simpa using fun e=>G.d.2.1 e.symm
   have nd8:b8∉[mb]:=by simpa using fun e=>G.d.2.2 e.symm
   have nL: ∀b∈[mb],b∉L:=fun b hb hm=>by simp only[List.mem_singleton]at hb;subst hb;exact dm hm
   have G7:=G6.only O7 nd1 nd5 nd8
   have H7:=H6.only O7 nL
   have O07:Only [mb] h k7:=(P6.mono (by simp)).trans O7 fun b hb _=>hb
   have K7:=Kp.add (k:=a)
   have up: ∀b,keep b=true→add1 keep a b=true:=fun b hb=>by unfold add1;rw[hb];rfl
   have k7a:add1 keep a a=true:=by unfold add1;simp
   have ad: ∀b,add1 keep a b=true→keep b=true∨b=a:=fun b hb=>by
    unfold add1 at hb
    rw[Bool.or_eq_true]at hb
    exact hb.imp id fun e=>by simpa using e
   have C7: ∀l,lvl Y.n Y.N a<l→Cls Y.n Y.N (add1 keep a) l:=fun l hl b hb hbl=>by
    rcases ad b hb with q|q
    ·obtain⟨x,y⟩:=hC b q (by omega)
     exact⟨x.imp id (up _),y.imp id (up _)⟩
    ·subst q;omega
   rw[At.rd G7.g,show([.func (.func 158) #[] #[.pointer (some ⟨b5,0,none⟩),.pointer (some ⟨b8,0,none⟩),.pointer (some ⟨b1,0,none⟩)]]:List Value)[0]? =some (.func (.func 158) #[] #[.pointer (some ⟨b5,0,none⟩),.pointer (some ⟨b8,0,none⟩),.pointer (some ⟨b1,0,none⟩)])from rfl,ldV_some]
   refine ldP_of (by rw[At.rd G7.s];rfl) (sto_low H7 ha (ldI_of rfl ?_))
   rw[At.rd G7.g,show([.func (.func 158) #[] #[.pointer (some ⟨b5,0,none⟩),.pointer (some ⟨b8,0,none⟩),.pointer (some ⟨b1,0,none⟩)]]:List Value)[0]? =some (.func (.func 158) #[] #[.pointer (some ⟨b5,0,none⟩),.pointer (some ⟨b8,0,none⟩),.pointer (some ⟨b1,0,none⟩)])from rfl,ldV_some]
   refine⟨rfl,dynK_go go158 ?_⟩
   refine ih (Y.n-lvl Y.n Y.N (low Y.N a)) (by omega) (Nat.le_refl _) H7 G7 M7 K7 h4 (C7 _ h6) fun k8 mo8 keep8 M8 K8 up8 in8 C8 sub8 O8=>⟨rfl,?_⟩
   have G8:=G7.only O8 nd1 nd5 nd8
   have H8:=H7.only O8 nL
   rw[At.rd G8.g,show([.func (.func 158) #[] #[.pointer (some ⟨b5,0,none⟩),.pointer (some ⟨b8,0,none⟩),.pointer (some ⟨b1,0,none⟩)]]:List Value)[0]? =some (.func (.func 158) #[] #[.pointer (some ⟨b5,0,none⟩),.pointer (some ⟨b8,0,none⟩),.pointer (some ⟨b1,0,none⟩)])from rfl,ldV_some]
   refine ldP_of (by rw[At.rd G8.s];rfl) (sto_high H8 ha (ldI_of rfl ?_))
   rw[At.rd G8.g,show([.func (.func 158) #[] #[.pointer (some ⟨b5,0,none⟩),.pointer (some ⟨b8,0,none⟩),.pointer (some ⟨b1,0,none⟩)]]:List Value)[0]? =some (.func (.func 158) #[] #[.pointer (some ⟨b5,0,none⟩),.pointer (some ⟨b8,0,none⟩),.pointer (some ⟨b1,0,none⟩)])from rfl,ldV_some]
   have C8':Cls Y.n Y.N keep8 (lvl Y.n Y.N a+1):=by
    intro b hb hbl
    by_cases q:lvl Y.n Y.N (low Y.N a)≤lvl Y.n Y.N b
    ·exact C8 _ (Nat.le_refl _) (C7 _ h6) b hb q
    ·rcases sub8 b hb with z|z
     ·obtain⟨x,y⟩:=C7 (lvl Y.n Y.N a+1) (by omega) b z hbl
      exact⟨x.imp id (up8 _),y.imp id (up8 _)⟩
     ·have:=(z.lvl_le ok.1 h4).2.2;omega
   refine⟨rfl,dynK_go go158 ?_⟩
   refine ih (Y.n-lvl Y.n Y.N (high Y.N a)) (by omega) (Nat.le_refl _) H8 G8 M8 K8 h5 (fun b hb hbl=>C8' b hb (by omega)) fun k9 mo9 keep9 M9 K9 up9 in9 C9 sub9 O9=>⟨rfl,?_⟩
   have sub: ∀b,keep9 b=true→keep b=true∨b=a∨(Rch Y.N (low Y.N a) b∨Rch Y.N (high Y.N a) b):=fun b hb=>by
    rcases sub9 b hb with q|q
    ·rcases sub8 b q with q|q
     ·exact(ad b q).imp id .inl
     ·exact .inr (.inr (.inl q))
    ·exact .inr (.inr (.inr q))
   refine hK k9 mo9 keep9 M9 K9 (fun b hb=>up9 b (up8 b (up b hb))) (.inr (up9 a (up8 a k7a))) (fun l hl c b hb hbl=> ?_) (fun b hb=> ?_) ((O07.trans O8 fun b hb _=>hb).trans O9 fun b hb _=>hb)
   ·rcases sub b hb with q|q|q
    ·obtain⟨x,y⟩:=c b q hbl
     exact⟨x.imp id fun z=>up9 _ (up8 _ (up _ z)),y.imp id fun z=>up9 _ (up8 _ (up _ z))⟩
    ·subst q
     exact⟨in8.imp id (up9 _),in9⟩
    ·have lb:lvl Y.n Y.N a+1≤lvl Y.n Y.N b:=by
      rcases q with q|q
      ·have:=(q.lvl_le ok.1 h4).2.2;omega
      ·have:=(q.lvl_le ok.1 h5).2.2;omega
     by_cases z:lvl Y.n Y.N (high Y.N a)≤lvl Y.n Y.N b
     ·exact C9 _ (Nat.le_refl _) (fun b hb hbl=>C8' b hb (by omega)) b hb z
     ·rcases sub9 b hb with w|w
      ·obtain⟨x,y⟩:=C8' b w lb
       exact⟨x.imp id (up9 _),y.imp id (up9 _)⟩
      ·have:=(w.lvl_le ok.1 h5).2.2;omega
   ·rcases sub b hb with q|q|q|q
    ·exact .inl q
    ·subst q;exact .inr (.self a2)
    ·exact .inr (.lo a2 q)
    ·exact .inr (.hi a2 q)
  refine look_map (m:=mo) M (fun hn=> ?_) fun j v hv'=> ?_
  ·have k0:keep a=false:=by
    cases hk:keep a with
    |false=>rfl
    |true=>rw[(Kp.1 a).1 hk]at hn;cases hn
   exact body none (by rw[k0];rfl) rfl
  ·have k1:keep a=true:=by
    cases hk:keep a with
    |true=>rfl
    |false=>rw[(Kp.1 a).2 hk]at hv';cases hv'
   rw[(Kp.1 a).1 k1]at hv'
   injection hv' with hv'
   subst hv'
   exact body (some (j,.agg #[])) (by rw[k1];rfl) rfl
theorem reached107{lo:Nat}{p:Option Addr}{c:Nat}{rs:List Nat}(H:Sto h s L Y)(Hr:Own h lo 1 p rs.length c (rs.map hv))(hr: ∀r∈rs,isN Y.N r)(hl:rs.length≤100000)
  (hK: ∀h' mb mo keep,MapM h' mb .u32 mo→KM mo keep→h.size≤mb→(∀b,keep b=true↔ ∃r∈rs,Rch Y.N r b)→Only [] h h'→K (.tuple #[.map (some mb),.int .i64 0]) h'):
  Cl 107 [.pointer (some ⟨s,0,none⟩),.slice p rs.length c] h K:=by
 have ok:=H.ok
 refine F107.spec _ _ _ _ h K ?_
 refine newK_at fun h1 A1 O1 z1=>newK_map4 (k:= .u32) fun h2 M2 O2 z2=>newK_at fun h3 A3 O3 z3=> ?_
 rw[add_mk]
 refine stK_at A3 (by simp) rfl fun h4 A4 O4 z4=>newK_at fun h5 A5 O5 z5=> ?_
 rw[add_mk]
 refine stK_at A5 (by simp) rfl fun h6 A6 O6 z6=> ?_
 have O02:Only [] h h2:=O1.trans O2 (by simp)
 have O04:Only [] h h4:=(O02.trans O3 (by simp)).trans O4 (by intro x hx hl;simp only[List.mem_singleton]at hx;omega)
 have O06:Only [] h h6:=(O04.trans O5 (by simp)).trans O6 (by intro x hx hl;simp only[List.mem_singleton]at hx;omega)
 have H6:=H.only0 O06
 have Hr6:=Hr.only O06 (by simp)
 have M6:MapM h6 h1.size .u32 []:=(((M2.only O3 (by simp)).only O4 (by simp;omega)).only O5 (by simp)).only O6 (by simp;omega)
 have G6:GoC h6 s h1.size h.size h2.size h4.size:=by
  refine⟨(A4.only O5 (by simp)).only O6 (by simp;omega),A6,?_,⟨by omega,by omega,by omega⟩⟩
  exact((((A1.only O2 (by simp)).only O3 (by simp)).only O4 (by simp;omega)).only O5 (by simp)).only O6 (by simp;omega)
 have dm:h1.size∉L:=fun hm=>by have:=H.lt _ hm;omega
 have second: ∀(d i:Nat) (k:Heap) (mo:List (Int×Value)) (keep:Nat→Bool),i+d=rs.length→MapM k h1.size .u32 mo→KM mo keep→Cls Y.n Y.N keep 0→(∀r∈rs.take i,r<2∨keep r=true)→(∀b,keep b=true→ ∃r∈rs,Rch Y.N r b)→Only [h1.size] h6 k→
   F107.wL11 (d+1) ⟨h2.size,0,none⟩ ⟨h4.size,0,none⟩ p rs.length c (rs.length:Int) (i:Int) k K:=by
  intro d
  induction d with
  |zero=>
   intro i k mo keep hi M Kp hC hin hsub O
   rw[F107.sL11]
   rw[decide_eq_false (by omega),bcase_false]
   have G:=G6.only O (by simp;omega) (by simp;omega) (by simp;omega)
   refine ldM_ofC (by rw[At.rd G.m];rfl) ?_
   have et:rs.take i=rs:=List.take_of_length_le (by omega)
   rw[et]at hin
   have down: ∀{r b:Nat},Rch Y.N r b→isN Y.N r→(r<2∨keep r=true)→keep b=true:=fun {r b} R=>by
    induction R with
    |self h=>exact fun _ q=>q.resolve_left (by omega)
    |lo h r ih=>
     intro hr q
     obtain⟨h3,h4,h5,-,h6,h7⟩:=ok.1.at hr h
     exact ih h4 (hC _ (q.resolve_left (by omega)) (Nat.zero_le _)).1
    |hi h r ih=>
     intro hr q
     obtain⟨h3,h4,h5,-,h6,h7⟩:=ok.1.at hr h
     exact ih h5 (hC _ (q.resolve_left (by omega)) (Nat.zero_le _)).2
   exact hK k h1.size mo keep M Kp (by omega) (fun b=>⟨hsub b,fun⟨r,hr',R⟩=>down R (hr r hr') (hin r hr')⟩) (O06.trans O (by intro x hx hl;simp only[List.mem_singleton]at hx;omega))
  |succ d ih=>
   intro i k mo keep hi M Kp hC hin hsub O
   rw[F107.sL11]
   rw[decide_eq_true (by omega),bcase_true]
   have Ok:Only [] h k:=O06.trans O (by intro x hx hl;simp only[List.mem_singleton]at hx;omega)
   have Hrk:=Hr.only Ok (by simp)
   have Hk:=H.only0 Ok
   have G:=G6.only O (by simp;omega) (by simp;omega) (by simp;omega)
   obtain⟨b,eb,rr⟩:=Hrk.rd (j:=i) (by simp;omega)
   rw[eb,ptrK_some,←eb]
   refine⟨by omega,by omega,?_⟩
   rw[add_mk,Nat.zero_add,show Int.toNat (i:Int)*1=i by omega,rr]
   obtain⟨a,ha⟩: ∃a,rs[i]? =some a:=⟨_,List.getElem?_eq_getElem (by omega)⟩
   have hm:=List.mem_of_getElem? ha
   refine ldI_of (n:=(a:Int)) (by simp[ha]) ?_
   rw[At.rd G.g,show([.func (.func 158) #[] #[.pointer (some ⟨h2.size,0,none⟩),.pointer (some ⟨h4.size,0,none⟩),.pointer (some ⟨h.size,0,none⟩)]]:List Value)[0]? =some (.func (.func 158) #[] #[.pointer (some ⟨h2.size,0,none⟩),.pointer (some ⟨h4.size,0,none⟩),.pointer (some ⟨h.size,0,none⟩)])from rfl,ldV_some]
   refine dynK_go go158 (goes158 dm Y.n (Nat.sub_le _ _) Hk G M Kp (hr a hm) (fun b hb hbl=>hC b hb (Nat.zero_le _)) fun k2 mo2 keep2 M2 K2 up2 in2 C2 sub2 O2=>⟨rfl,?_⟩)
   rw[show IntKind.wrap .i64 ((i:Int)+1)=((i+1:Nat):Int) by rw[wrap_i64 (by omega) (by omega)];omega]
   refine ih (i+1) k2 mo2 keep2 (by omega) M2 K2 (C2 0 (Nat.zero_le _) hC) (fun r hr'=> ?_) (fun b hb=> ?_) (O.trans O2 fun x hx _=>hx)
   ·rw[List.take_add_one,ha]at hr'
    rcases List.mem_append.1 hr' with q|q
    ·exact(hin r q).imp id (up2 r)
    ·simp only[Option.toList_some,List.mem_singleton]at q
     subst q
     exact in2
   ·rcases sub2 b hb with q|q
    ·exact hsub b q
    ·exact⟨a,hm,q⟩
 unfold F107.wk5
 have first: ∀(d i:Nat),i+d=rs.length→F107.wL5 (d+1) p rs.length c ⟨h.size,0,none⟩ ⟨h2.size,0,none⟩ ⟨h4.size,0,none⟩ p rs.length c (rs.length:Int) (i:Int) h6 K:=by
  intro d
  induction d with
  |zero=>
   intro i hi
   rw[F107.sL5]
   rw[decide_eq_false (by omega),bcase_false]
   unfold F107.wk10 F107.wk11
   exact⟨_,second rs.length 0 h6 [] (fun _=>false) (by omega) M6 ⟨fun k=>⟨fun h=>(by cases h),fun _=>rfl⟩,fun p hp=>(by cases hp)⟩ (fun b hb=>(by cases hb)) (fun r hr'=>(by simp at hr')) (fun b hb=>(by cases hb)) (Only.refl _ _)⟩
  |succ d ih=>
   intro i hi
   rw[F107.sL5]
   rw[decide_eq_true (by omega),bcase_true]
   obtain⟨b,eb,rr⟩:=Hr6.rd (j:=i) (by simp;omega)
   rw[eb,ptrK_some,←eb]
   refine⟨by omega,by omega,?_⟩
   rw[add_mk,Nat.zero_add,show Int.toNat (i:Int)*1=i by omega,rr]
   obtain⟨a,ha⟩: ∃a,rs[i]? =some a:=⟨_,List.getElem?_eq_getElem (by omega)⟩
   have hm:=List.mem_of_getElem? ha
   refine ldI_of (n:=(a:Int)) (by simp[ha]) (ldP_of (by rw[At.rd G6.s];rfl) (sto_is1 H6 (hr a hm) (ldB_of rfl ?_)))
   rw[Bool.not_true,bcase_false,show IntKind.wrap .i64 ((i:Int)+1)=((i+1:Nat):Int) by rw[wrap_i64 (by omega) (by omega)];omega]
   exact ih (i+1) (by omega)
 exact⟨_,first rs.length 0 (by omega)⟩
end
end
section
open Classical in
section
variable {h:Heap}{s:Nat}{L:List Nat}{Y:SX}{K:Value→Heap→Prop}
def zL(n:Nat)(g:Nat→Nat):List Value:=(List.range n).map fun l=> .int .i64 (g l:Int)
theorem zL_get{n:Nat}{g:Nat→Nat}{l:Nat}(hl:l<n):(zL n g)[l]? =some (.int .i64 (g l:Int)):=by simp[zL,hl]
theorem zL_set{n:Nat}{g:Nat→Nat}{k v:Nat}:(zL n g).set k (.int .i64 (v:Int))=zL n (upd g k v):=by
 apply List.ext_getElem?
 intro i
 rw[List.getElem?_set]
 by_cases hi:i<n
 ·rw[zL_get (g:=upd g k v) hi]
  by_cases e:k=i
  ·subst e
   rw[if_pos rfl,if_pos (by simpa[zL]using hi)]
   unfold upd
   rw[if_pos rfl]
  ·rw[if_neg e,zL_get hi]
   unfold upd
   rw[if_neg (fun h=>e h.symm)]
 ·have:(zL n (upd g k v))[i]? =none:=List.getElem?_eq_none (by simpa[zL]using hi)
  rw[this]
  split
  ·rename_i e
   subst e
   rw[if_neg (by simpa[zL]using hi)]
  ·exact List.getElem?_eq_none (by simpa[zL]using hi)
theorem levels271{lo:Nat}{p:Option Addr}{c:Nat}{rs:List Nat}(H:Sto h s L Y)(Hr:Own h lo 1 p rs.length c (rs.map hv))(hr: ∀r∈rs,isN Y.N r)(hl:rs.length≤100000)
  (hK: ∀h' b g,At h' b (zL Y.n g)→h.size≤b→(∀l,l<Y.n→(0<g l↔ ∃x,(∃r∈rs,Rch Y.N r x)∧lvl Y.n Y.N x=l))→(∀l,g l≤40000)→Only [] h h'→K (.tuple #[.slice (some ⟨b,0,none⟩) Y.n Y.n,.int .i64 0]) h'):
  Cl 271 [.pointer (some ⟨s,0,none⟩),.slice p rs.length c] h K:=by
 have ok:=H.ok
 have n8:=ok.2.2.1
 refine F271.spec _ _ _ _ h K ?_
 unfold F271.w F271.J0
 refine reached107 H Hr hr hl fun h1 mb mo keep M1 Kp gm sem O1=>⟨_,_,rfl,?_⟩
 rw[show((0:Int) !=(0:Int))=false from rfl,bcase_false]
 have H1:=H.only0 O1
 refine sto_vars H1 (ldI_of rfl ⟨Int.natCast_nonneg _,Int.le_refl _,by omega,by omega,newK_at fun h2 A2 O2 z2=> ?_⟩)
 have z1:=O1.size
 have A2:At h2 h1.size (zL Y.n fun _=>0):=by
  have e:(madeCells #[(.int .i64 (0:Int))] (Int.toNat (Y.n:Int)*1)).toList=zL Y.n fun _=>0:=by
   rw[toList_madeCells_one,Int.toNat_natCast,Nat.mul_one]
   unfold zL
   rw[List.map_const',List.length_range]
   rfl
  rw[←e];exact A2
 rw[Int.toNat_natCast]
 have M2:=M1.only O2 (by simp)
 have mlt:=M1.lt
 refine rng_start M2 fun h3 R3 O3 z3=> ?_
 have isk: ∀k,keep k=true→isN Y.N k∧2≤k∧lvl Y.n Y.N k<Y.n:=fun k hk=>by
  obtain⟨r,hr',R⟩:=(sem k).1 hk
  obtain⟨a,b,-⟩:=R.lvl_le ok.1 (hr r hr')
  exact⟨a,b,(ok.1.at a b).1⟩
 have mlen:mo.length≤32770:=by
  obtain⟨es,cl,-,-,nd,-⟩:=M1
  have:=nodup_sub_len (mo.map (·.1)) ((List.range 32770).map fun i:Nat=>(i:Int)) nd fun x hx=>by
   obtain⟨q,hq,e⟩:=List.mem_map.1 hx
   obtain⟨k,hk,e2⟩:=Kp.2 q hq
   have:=H.isN_lt (isk k hk).1
   refine List.mem_map.2 ⟨k,List.mem_range.2 this,?_⟩
   rw[←e,e2]
  simpa using this
 unfold F271.wk6 F271.Jk6
 have main: ∀(d:Nat) (left:List (Int×Value)) (g:Nat→Nat) (k:Heap),left.length≤d→(∀q∈left,q∈mo)→Rng k h2.size mb .u32 mo left→At k h1.size (zL Y.n g)→(∀q∈mo,q∈left∨ ∀a:Nat,q.1=(a:Int)→0<g (lvl Y.n Y.N a))→
   (∀l,0<g l→ ∃a,keep a=true∧lvl Y.n Y.N a=l)→(∀l,g l+left.length≤mo.length)→Only [] h k→F271.wL6 (d+1) ⟨s,0,none⟩ (some ⟨h1.size,0,none⟩) Y.n Y.n (some ⟨h2.size,0,none⟩) k K:=by
  have fin: ∀(g:Nat→Nat) (k:Heap),At k h1.size (zL Y.n g)→(∀q∈mo,∀a:Nat,q.1=(a:Int)→0<g (lvl Y.n Y.N a))→(∀l,0<g l→ ∃a,keep a=true∧lvl Y.n Y.N a=l)→(∀l,g l≤mo.length)→Only [] h k→K (.tuple #[.slice (some ⟨h1.size,0,none⟩) Y.n Y.n,.int .i64 0]) k:=fun g k A c1 c2 c3 O=>by
   refine hK k h1.size g A (by omega) (fun l hl=>⟨fun hg=> ?_,fun⟨x,hx,e⟩=> ?_⟩) (fun l=>by have:=c3 l;omega) O
   ·obtain⟨a,ha,e⟩:=c2 l hg
    exact⟨a,(sem a).1 ha,e⟩
   ·rw[←e]
    exact c1 _ (lookup_mem ((Kp.1 x).1 ((sem x).2 hx))) x rfl
  intro d
  induction d with
  |zero=>
   intro left g k hd hs R A c1 c2 c3 O
   have e:left=[]:=List.eq_nil_of_length_eq_zero (by omega)
   subst e
   unfold F271.wL6 F271.JL6
   refine rng_next R (by omega) (fun _=>fin g k A (fun q hq=>(c1 q hq).resolve_left (by simp)) c2 (fun l=>by have:=c3 l;simpa using this) O) fun A x v B h3 e=> ?_
   simp at e
  |succ d ih=>
   intro left g k hd hs R A c1 c2 c3 O
   unfold F271.wL6 F271.JL6
   refine rng_next R (by omega) (fun e=> ?_) fun L1 x v L2 k2 e R2 P2 O2' z2'=> ?_
   ·subst e
    exact fin g k A (fun q hq=>(c1 q hq).resolve_left (by simp)) c2 (fun l=>by have:=c3 l;simpa using this) O
   ·subst e
    obtain⟨a,ha,e2⟩:=Kp.2 _ (hs (x,v) (by simp))
    injection e2 with e3 e4
    subst e3 e4
    obtain⟨i1,i2,i3⟩:=isk a ha
    have O':Only [] h k2:=O.trans O2' (by intro b hb hl;simp at hb;omega)
    refine rng_entry P2 ⟨(a:Int),rfl,?_⟩
    have Hk:=H.only0 O'
    refine sto_level Hk i1 (ldI_of rfl ?_)
    have Ak:=A.only O2' (by simp;omega)
    rw[ptrK_some]
    have cl:=c3 (lvl Y.n Y.N a)
    have lenL:(L1++((a:Int),Value.agg #[])::L2).length=L1.length+L2.length+1:=by simp;omega
    refine⟨Int.natCast_nonneg _,by omega,?_⟩
    rw[add_mk,Nat.zero_add,Int.toNat_natCast,Nat.mul_one]
    refine ldI_of (n:=(g (lvl Y.n Y.N a):Int)) (by rw[At.rd Ak,zL_get i3]) ?_
    rw[ptrK_some]
    refine⟨Int.natCast_nonneg _,by omega,?_⟩
    have ew:IntKind.wrap .i64 ((g (lvl Y.n Y.N a):Int)+1)=((g (lvl Y.n Y.N a)+1:Nat):Int):=by rw[wrap_i64 (by omega) (by omega)];omega
    rw[ew,add_mk]
    simp only[Nat.zero_add,Nat.add_zero]
    refine stK_at Ak (by simpa[zL]using i3) rfl fun k3 A3 O3' z3'=> ?_
    rw[zL_set]at A3
    have gu: ∀l,g l≤upd g (lvl Y.n Y.N a) (g (lvl Y.n Y.N a)+1) l∧upd g (lvl Y.n Y.N a) (g (lvl Y.n Y.N a)+1) l≤g l+1:=fun l=>by
     unfold upd
     split
     ·rename_i q;subst q;omega
     ·omega
    refine ih (L1++L2) _ k3 (by simp;omega) (fun q hq=>hs q (by rcases List.mem_append.1 hq with w|w<;>simp[w])) ?_ A3 (fun q hq=> ?_) (fun l hg=> ?_) (fun l=> ?_) (O'.trans O3' (by intro b hb hl;simp at hb;omega))
    ·exact R2.only O3' (by simp;omega) (by simp;omega)
    ·rcases c1 q hq with w|w
     ·rcases List.mem_append.1 w with w|w
      ·exact .inl (by simp[w])
      ·rcases List.mem_cons.1 w with w|w
       ·subst w
        refine .inr fun a' e=> ?_
        have:a'=a:=by have e:(a:Int)=(a':Int):=e;omega
        subst this
        unfold upd
        rw[if_pos rfl]
        omega
       ·exact .inl (by simp[w])
     ·exact .inr fun a' e=>by have:=w a' e;have:=(gu (lvl Y.n Y.N a')).1;omega
    ·by_cases q:l=lvl Y.n Y.N a
     ·exact⟨a,ha,q.symm⟩
     ·unfold upd at hg
      rw[if_neg q]at hg
      exact c2 l hg
    ·have:=(gu l).2
     have:=c3 l
     simp only[List.length_append]at*
     omega
 exact⟨_,main mo.length mo (fun _=>0) h3 (Nat.le_refl _) (fun q hq=>hq) R3 (A2.only O3 (by simp)) (fun q hq=> .inl hq) (fun l hg=>absurd hg (Nat.lt_irrefl _)) (fun l=>by simp) (((O1.trans O2 (by simp)).trans O3 (by simp)))⟩
end
end
section
theorem F51.spec(d:Addr)(c:Option Addr)(b a:Nat)(h:Heap)(K:KK)(H:Cl 107 [.pointer (some d),.slice c b a] h fun v1 h2=> ∃r3:Option Nat,∃n4:Int,v1=(.tuple #[.map r3,.int .i64 n4])∧opt r3 fun r5=> ∃es6 cl7,mp h2 r5=some (es6,cl7)∧K (.tuple #[.int .i64 (Nat.cast (Array.size es6):Int),.int .i64 n4]) h2):Cl 51 [.pointer (some d),.slice c b a] h K:=cN Tryz.func51 H
def F369.T:Hint:=⟨[],[(3,[[(0,[]),(1,[]),(2,[]),(3,[]),(4,[]),(5,[]),(6,[]),(7,[]),(8,[]),(9,[]),(10,[]),(11,[]),(12,[]),(13,[]),(14,[])]])]⟩
theorem F369.spec(b:Addr)(a:Int)(h:Heap)(K:KK)(H:bcase (decide (a<(0:Int))) (K (.int .i64 40) h) (ldI .i64 (rd h (b.add 0)) fun n1=>bcase (decide (a≥(IntKind.wrap .i64 (n1-(1:Int))))) (K (.int .i64 40) h) ((0≤a∧a<(Nat.cast 8:Int)∧ldI .i64 (rd h ((b.add 1).add (Int.toNat a*1))) fun n2=>0≤(IntKind.wrap .i64 (a+(1:Int)))∧(IntKind.wrap .i64 (a+(1:Int)))<(Nat.cast 8:Int)∧ldI .i64 (rd h ((b.add 1).add (Int.toNat (IntKind.wrap .i64 (a+(1:Int)))*1))) fun n3=>Cl 370 [.pointer (some b),.int .i64 a,.int .i64 n3] h fun v4 h5=>v4=(.tuple #[])∧Cl 370 [.pointer (some b),.int .i64 (IntKind.wrap .i64 (a+(1:Int))),.int .i64 n2] h5 fun v6 h7=>v6=(.tuple #[])∧K (.int .i64 0) h7)))):Cl 369 [.pointer (some b),.int .i64 a] h K:=cT F369.T Tryz.func369 H
def F370.T:Hint:=⟨[],[(0,[[(0,[]),(1,[]),(2,[]),(3,[]),(4,[]),(5,[]),(6,[]),(7,[]),(8,[]),(10,[]),(11,[]),(9,[2,3,5,10,11]),(12,[]),(13,[])]])]⟩
theorem F370.spec(a:Addr)(b c:Int)(h:Heap)(K:KK)(H:(0≤b∧b<(Nat.cast 8:Int)∧stK h (((a.add 1).add (Int.toNat b*1)).add 0) (.int .i64 c) fun h1=>((.pointer (some a))=((.pointer (some a)):Value)∧((.int .i64 c)=((.int .i64 c):Value)∧((.int .i64 b)=((.int .i64 b):Value)∧((.pointer (some a))=((.pointer (some a)):Value)∧((.pointer (some (a.add 9)))=((.pointer (some (a.add 9))):Value)∧(0≤c∧c<(Nat.cast 8:Int)∧stK h1 (((a.add 9).add (Int.toNat c*1)).add 0) (.int .i64 b) fun h2=>K (.tuple #[]) h2)))))))):Cl 370 [.pointer (some a),.int .i64 b,.int .i64 c] h K:=cT F370.T Tryz.func370 H
theorem F359.spec(a:Addr)(b:Int)(h:Heap)(K:KK)(H:Cl 360 [.pointer (some a),.int .i64 b] h fun v1 h2=>ldS (some v1) fun _ l4 _=>K (.int .i64 (IntKind.wrap .i64 ((2:Int)*(Nat.cast l4:Int)))) h2):Cl 359 [.pointer (some a),.int .i64 b] h K:=cN Tryz.func359 H
def F360.T:Hint:=⟨[(3,[1,5,11,12,13])],[]⟩
section
variable (n:Nat)(o:Addr)(l:Int)(j:Option Addr)(i g:Nat)(c:Option Addr)(b d:Nat)(f a:Int)(h:Heap)(K:KK)
def F360.wL3:Prop:=Lp Tryz.f360 F360.T [1,1,0,1,0] n [(1,(.int .i64 l)),(5,(.slice j i g)),(11,(.slice c b d)),(12,(.int .i64 f)),(13,(.int .i64 a))] h K
theorem F360.sL3:F360.wL3 (n+1) l j i g c b d f a h K=(bcase (decide (a<f)) (ptrK c fun a1=>0≤a∧a<(Nat.cast b:Int)∧ldB (rd h ((a1.add (Int.toNat a*4)).add 0)) fun b2=>ldI .i64 (rd h ((a1.add (Int.toNat a*4)).add 1)) fun n3=>ldI .u32 (rd h ((a1.add (Int.toNat a*4)).add 2)) fun n4=>ldI .u32 (rd h ((a1.add (Int.toNat a*4)).add 3)) fun n5=>newK h (.cells #[.bool false,.int .i64 0,.int .u32 0,.int .u32 0] 195) fun b6 h7=>stK h7 ((Addr.mk b6 0 none).add 0) (.bool b2) fun h8=>stK h8 ((Addr.mk b6 0 none).add 1) (.int .i64 n3) fun h9=>stK h9 ((Addr.mk b6 0 none).add 2) (.int .u32 n4) fun h10=>stK h10 ((Addr.mk b6 0 none).add 3) (.int .u32 n5) fun h11=>ldB (rd h11 ((Addr.mk b6 0 none).add 0)) fun b12=>bcase b12 (ldI .i64 (rd h11 ((Addr.mk b6 0 none).add 1)) fun n13=>bcase (n13==l) (newK h11 (.cells #[.int .u32 (IntKind.wrap .u32 (IntKind.wrap .i64 (a+(2:Int))))] 46) fun b14 h15=>appK h15 46 1 4 #[.int .u32 0] j i g (some (Addr.mk b14 0 none)) 1 fun p16 l17 c18 h19=>F360.wL3 n l p16 l17 c18 c b d f (IntKind.wrap .i64 (a+(1:Int))) h19 K) (F360.wL3 n l j i g c b d f (IntKind.wrap .i64 (a+(1:Int))) h11 K)) (F360.wL3 n l j i g c b d f (IntKind.wrap .i64 (a+(1:Int))) h11 K)) (K (.slice j i g) h)):=by kernel_rfl
def F360.wk3:Prop:=(∃m,F360.wL3 m l j i g c b d f a h K)
theorem F360.spec(H:ldS (rd h (o.add 2)) fun p1 l2 c3=>F360.wk3 l none 0 0 p1 l2 c3 (Nat.cast l2:Int) (0:Int) h K):Cl 360 [.pointer (some o),.int .i64 l] h K:=cT F360.T Tryz.func360 H
end
def F361.T:Hint:=⟨[(3,[0,1,2,6,7,8,25,26,27]),(10,[0,1,2,6,7,8]),(12,[0,1,2,6,8,70,71,72]),(16,[0,1,2,6,8]),(17,[0,1,2,8,83,84,85]),(23,[0,2,8]),(24,[0,2,8,17]),(26,[0,2,8,17])],[]⟩
section
variable (n:Nat)(d:Addr)(g:Int)(i:Value)(l:Option Addr)(f j:Nat)(ad:Option Addr)(v ac:Nat)(c:Option Addr)(a b:Nat)(af:Int)(q:Option Addr)(o s:Nat)(ag r:Int)(aa:Option Addr)(z ai:Nat)(am ab:Int)(u:Option Addr)(t ae:Nat)(aj y:Int)(h:Heap)(K:KK)
def F361.wk26:Prop:=Cl 111 [.pointer (some d),.int .i64 af,.slice c a b] h fun v1 h2=>v1=(.tuple #[])∧dynK Tryz.prog X i [.slice c a b] h2 fun v3 h4=>v3=(.tuple #[])∧K (.tuple #[]) h4
def F361.wL24:Prop:=Lp Tryz.f361 F361.T [1,1,1,1,1,1,1,0,0] n [(0,(.pointer (some d))),(2,i),(8,(.slice c a b)),(17,(.int .i64 af))] h K
theorem F361.sL24:F361.wL24 (n+1) d i c a b af h K=(Cl 45 [.pointer (some d)] h fun v1 h2=>ldI .i64 (some v1) fun n3=>bcase (decide ((IntKind.wrap .i64 ((2:Int)*(IntKind.wrap .i64 ((IntKind.wrap .i64 (n3+(IntKind.wrap .i64 ((2:Int)*(Nat.cast a:Int)))))+(1:Int)))))>af)) (F361.wL24 n d i c a b (IntKind.wrap .i64 (af*(2:Int))) h2 K) (F361.wk26 d i c a b af h2 K)):=by kernel_rfl
def F361.wk24:Prop:=(∃m,F361.wL24 m d i c a b af h K)
def F361.wk23:Prop:=ldP (rd h (d.add 4)) fun p1=>Cl 200 [.pointer p1] h fun v2 h3=>ldI .i64 (some v2) fun n4=>F361.wk24 d i c a b n4 h3 K
def F361.wL17:Prop:=Lp Tryz.f361 F361.T [1,1,1,1,1,0,1,0] n [(0,(.pointer (some d))),(1,(.int .i64 g)),(2,i),(8,(.slice c a b)),(83,(.slice u t ae)),(84,(.int .i64 aj)),(85,(.int .i64 y))] h K
theorem F361.sL17:F361.wL17 (n+1) d g i c a b u t ae aj y h K=(bcase (decide (y<aj)) (ptrK u fun a1=>0≤y∧y<(Nat.cast t:Int)∧ldI .u32 (rd h (a1.add (Int.toNat y*1))) fun n2=>Cl 117 [.pointer (some d),.int .u32 n2] h fun v3 h4=>ldP (some v3) fun p5=>ptrK p5 fun a6=>ldI .i64 (rd h4 (a6.add 1)) fun n7=>bcase (n7==(IntKind.wrap .i64 (g+(2:Int)))) (ptrK p5 fun a8=>stK h4 ((a8.add 1).add 0) (.int .i64 (IntKind.wrap .i64 (g+(1:Int)))) fun h9=>F361.wL17 n d g i c a b u t ae aj (IntKind.wrap .i64 (y+(1:Int))) h9 K) (F361.wL17 n d g i c a b u t ae aj (IntKind.wrap .i64 (y+(1:Int))) h4 K)) (F361.wk23 d i c a b h K)):=by kernel_rfl
def F361.wk17:Prop:=(∃m,F361.wL17 m d g i c a b u t ae aj y h K)
def F361.wk16:Prop:=F361.wk17 d g i c a b l f j (Nat.cast f:Int) (0:Int) h K
def F361.wL12:Prop:=Lp Tryz.f361 F361.T [1,1,1,1,0,1,0] n [(0,(.pointer (some d))),(1,(.int .i64 g)),(2,i),(6,(.slice l f j)),(8,(.slice c a b)),(70,(.slice aa z ai)),(71,(.int .i64 am)),(72,(.int .i64 ab))] h K
theorem F361.sL12:F361.wL12 (n+1) d g i l f j c a b aa z ai am ab h K=(bcase (decide (ab<am)) (ptrK aa fun a1=>0≤ab∧ab<(Nat.cast z:Int)∧ldI .u32 (rd h (a1.add (Int.toNat ab*1))) fun n2=>Cl 117 [.pointer (some d),.int .u32 n2] h fun v3 h4=>ldP (some v3) fun p5=>ptrK p5 fun a6=>stK h4 ((a6.add 1).add 0) (.int .i64 g) fun h7=>F361.wL12 n d g i l f j c a b aa z ai am (IntKind.wrap .i64 (ab+(1:Int))) h7 K) (F361.wk16 d g i l f j c a b h K)):=by kernel_rfl
def F361.wk12:Prop:=(∃m,F361.wL12 m d g i l f j c a b aa z ai am ab h K)
def F361.wk10:Prop:=ldP (rd h (d.add 1)) fun p1=>Cl 369 [.pointer p1,.int .i64 g] h fun v2 h3=>ldI .i64 (some v2) fun _=>F361.wk12 d g i l f j c a b ad v ac (Nat.cast v:Int) (0:Int) h3 K
def F361.wL3:Prop:=Lp Tryz.f361 F361.T [1,1,0,1,0] n [(0,(.pointer (some d))),(1,(.int .i64 g)),(2,i),(6,(.slice l f j)),(7,(.slice ad v ac)),(8,(.slice c a b)),(25,(.slice q o s)),(26,(.int .i64 ag)),(27,(.int .i64 r))] h K
theorem F361.sL3:F361.wL3 (n+1) d g i l f j ad v ac c a b q o s ag r h K=(bcase (decide (r<ag)) (ptrK q fun a1=>0≤r∧r<(Nat.cast o:Int)∧ldI .u32 (rd h (a1.add (Int.toNat r*1))) fun n2=>Cl 117 [.pointer (some d),.int .u32 n2] h fun v3 h4=>ldP (some v3) fun p5=>ptrK p5 fun a6=>ldI .u32 (rd h4 (a6.add 2)) fun n7=>Cl 71 [.pointer (some d),.int .u32 n7] h4 fun v8 h9=>ldI .i64 (some v8) fun n10=>bcase (n10==(IntKind.wrap .i64 (g+(1:Int)))) (newK h9 (.cells #[.int .u32 n2] 46) fun b11 h12=>appK h12 46 1 4 #[.int .u32 0] c a b (some (Addr.mk b11 0 none)) 1 fun p13 l14 c15 h16=>F361.wL3 n d g i l f j ad v ac p13 l14 c15 q o s ag (IntKind.wrap .i64 (r+(1:Int))) h16 K) (ptrK p5 fun a17=>ldI .u32 (rd h9 (a17.add 3)) fun n18=>Cl 71 [.pointer (some d),.int .u32 n18] h9 fun v19 h20=>ldI .i64 (some v19) fun n21=>bcase (n21==(IntKind.wrap .i64 (g+(1:Int)))) (newK h20 (.cells #[.int .u32 n2] 46) fun b22 h23=>appK h23 46 1 4 #[.int .u32 0] c a b (some (Addr.mk b22 0 none)) 1 fun p24 l25 c26 h27=>F361.wL3 n d g i l f j ad v ac p24 l25 c26 q o s ag (IntKind.wrap .i64 (r+(1:Int))) h27 K) (ptrK p5 fun a28=>stK h20 ((a28.add 1).add 0) (.int .i64 (IntKind.wrap .i64 (g+(2:Int)))) fun h29=>F361.wL3 n d g i l f j ad v ac c a b q o s ag (IntKind.wrap .i64 (r+(1:Int))) h29 K))) (F361.wk10 d g i l f j ad v ac c a b h K)):=by kernel_rfl
def F361.wk3:Prop:=(∃m,F361.wL3 m d g i l f j ad v ac c a b q o s ag r h K)
theorem F361.spec(H:Cl 360 [.pointer (some d),.int .i64 g] h fun v1 h2=>ldS (some v1) fun p3 l4 c5=>Cl 360 [.pointer (some d),.int .i64 (IntKind.wrap .i64 (g+(1:Int)))] h2 fun v6 h7=>ldS (some v6) fun p8 l9 c10=>F361.wk3 d g i p3 l4 c5 p8 l9 c10 none 0 0 p3 l4 c5 (Nat.cast l4:Int) (0:Int) h7 K):Cl 361 [.pointer (some d),.int .i64 g,i] h K:=cT F361.T Tryz.func361 H
end
def F342.T:Hint:=⟨[(5,[2,3]),(7,[2,3,5,32,33,34]),(11,[2,3,5])],[(1,[[(0,[]),(1,[]),(2,[]),(3,[]),(4,[]),(5,[3]),(6,[]),(7,[]),(8,[]),(9,[])]]),(3,[[(0,[]),(1,[]),(3,[]),(5,[]),(2,[3,5]),(4,[5]),(6,[]),(7,[]),(8,[]),(9,[])]])]⟩
section
variable (n:Nat)(l:Addr)(o:Int)(g i j:Addr)(b:Option Addr)(a d:Nat)(f c:Int)(h:Heap)(K:KK)
def F342.wk11:Prop:=ldP (rd h g) fun p1=>ldI .i64 (rd h i) fun n2=>Cl 361 [.pointer p1,.int .i64 n2,.func (.func 362) #[] #[.pointer (some g),.pointer (some j),.pointer (some i)]] h fun v3 h4=>v3=(.tuple #[])∧K (.int .i64 0) h4
def F342.wL7:Prop:=Lp Tryz.f342 F342.T [1,1,1,0,1,0] n [(2,(.pointer (some g))),(3,(.pointer (some i))),(5,(.pointer (some j))),(32,(.slice b a d)),(33,(.int .i64 f)),(34,(.int .i64 c))] h K
theorem F342.sL7:F342.wL7 (n+1) g i j b a d f c h K=(bcase (decide (c<f)) (ptrK b fun a1=>0≤c∧c<(Nat.cast a:Int)∧ldI .u32 (rd h (a1.add (Int.toNat c*1))) fun n2=>ldM (rd h j) fun r3=>updK h r3 .u32 .u32 n2 (.agg #[]) fun h4=>F342.wL7 n g i j b a d f (IntKind.wrap .i64 (c+(1:Int))) h4 K) (F342.wk11 g i j h K)):=by kernel_rfl
def F342.wk7:Prop:=(∃m,F342.wL7 m g i j b a d f c h K)
def F342.wk5:Prop:=newK h (.map #[] 0) fun b1 h2=>newK h2 (.cells #[.map none] 191) fun b3 h4=>stK h4 ((Addr.mk b3 0 none).add 0) (.map (some b1)) fun h5=>ldP (rd h5 g) fun p6=>ldI .i64 (rd h5 i) fun n7=>Cl 360 [.pointer p6,.int .i64 (IntKind.wrap .i64 (n7+(1:Int)))] h5 fun v8 h9=>ldS (some v8) fun p10 l11 c12=>F342.wk7 g i (Addr.mk b3 0 none) p10 l11 c12 (Nat.cast l11:Int) (0:Int) h9 K
theorem F342.spec(H:newK h (.cells #[.pointer (some l)] 33) fun b1 h2=>newK h2 (.cells #[.int .i64 o] 3) fun b3 h4=>ldI .i64 (rd h4 (Addr.mk b3 0 none)) fun n5=>bcase (decide (n5<(0:Int))) (((.tuple #[])=undef∧K (.int .i64 40) h4)) (ldI .i64 (rd h4 (Addr.mk b3 0 none)) fun n6=>ldP (rd h4 (Addr.mk b1 0 none)) fun p7=>Cl 75 [.pointer p7] h4 fun v8 h9=>ldI .i64 (some v8) fun n10=>ldI .i64 (rd h9 (Addr.mk b3 0 none)) fun n11=>((.int .i64 n11)=((.int .i64 n6):Value)∧bcase (decide (n6≥(IntKind.wrap .i64 (n10-(1:Int))))) (K (.int .i64 40) h9) (ldP (rd h9 (Addr.mk b1 0 none)) fun p12=>ldI .i64 (rd h9 (Addr.mk b3 0 none)) fun n13=>ldP (rd h9 (Addr.mk b1 0 none)) fun p14=>ldP (rd h9 (Addr.mk b1 0 none)) fun p15=>Cl 359 [.pointer p12,.int .i64 n13] h9 fun v16 h17=>ldI .i64 (some v16) fun n18=>ldP (rd h17 (Addr.mk b1 0 none)) fun p19=>((.pointer p19)=((.pointer p14):Value)∧ldP (rd h17 (Addr.mk b1 0 none)) fun p20=>((.pointer p20)=((.pointer p15):Value)∧Cl 70 [.pointer p14] h17 fun v21 h22=>ldI .i64 (some v21) fun n23=>ldP (rd h22 (Addr.mk b1 0 none)) fun p24=>((.pointer p24)=((.pointer p15):Value)∧Cl 45 [.pointer p15] h22 fun v25 h26=>ldI .i64 (some v25) fun n27=>bcase (decide (n18>(IntKind.wrap .i64 (n23-n27)))) (K (.int .i64 60) h26) (F342.wk5 (Addr.mk b1 0 none) (Addr.mk b3 0 none) h26 K)))))))):Cl 342 [.pointer (some l),.int .i64 o] h K:=cT F342.T Tryz.func342 H
end
def F254.T:Hint:=⟨[(3,[3,7,8,9]),(8,[3])],[]⟩
section
variable (n:Nat)(l:Option Addr)(g j:Nat)(f:Option Nat)(b:Option Addr)(a c:Nat)(i d:Int)(h:Heap)(K:KK)
def F254.wk8:Prop:=opt f fun r1=> ∃es2 cl3,mp h r1=some (es2,cl3)∧K (.int .i64 (IntKind.wrap .i64 ((200:Int)*(if(1:Int)>(Nat.cast (Array.size es2):Int)then(1:Int)else(Nat.cast (Array.size es2):Int))))) h
def F254.wL3:Prop:=Lp Tryz.f254 F254.T [1,1,0,1,0] n [(3,(.map f)),(7,(.slice b a c)),(8,(.int .i64 i)),(9,(.int .i64 d))] h K
theorem F254.sL3:F254.wL3 (n+1) f b a c i d h K=(bcase (decide (d<i)) (ptrK b fun a1=>0≤d∧d<(Nat.cast a:Int)∧ldI .u32 (rd h (a1.add (Int.toNat d*1))) fun n2=>bcase (decide (n2>(1:Int))) (updK h f .u32 .u32 n2 (.agg #[]) fun h3=>F254.wL3 n f b a c i (IntKind.wrap .i64 (d+(1:Int))) h3 K) (F254.wL3 n f b a c i (IntKind.wrap .i64 (d+(1:Int))) h K)) (F254.wk8 f h K)):=by kernel_rfl
def F254.wk3:Prop:=(∃m,F254.wL3 m f b a c i d h K)
theorem F254.spec(H:newK h (.map #[] 0) fun b1 h2=>F254.wk3 (some b1) l g j (Nat.cast g:Int) (0:Int) h2 K):Cl 254 [.slice l g j] h K:=cT F254.T Tryz.func254 H
end
theorem F255.spec(d c:Option Addr)(b a:Nat)(h:Heap)(K:KK)(H:newK h (.cells #[.pointer d,.slice c b a] 330) fun b1 h2=>ldP (rd h2 ((Addr.mk b1 0 none).add 0)) fun p3=>ldS (rd h2 ((Addr.mk b1 0 none).add 1)) fun p4 l5 c6=>Cl 51 [.pointer p3,.slice p4 l5 c6] h2 fun v7 h8=> ∃n9:Int,∃n10:Int,v7=(.tuple #[.int .i64 n9,.int .i64 n10])∧K (.int .i64 n9) h8):Cl 255 [.agg #[.pointer d,.slice c b a]] h K:=cN Tryz.func255 H
def F212.T:Hint:=⟨[(11,[4,6,9,11,42,43,44]),(17,[4,6,9])],[]⟩
section
variable (n:Nat)(s:Addr)(j:Option Addr)(i g:Nat)(q r:Int)(o:Addr)(f:Value)(b:Option Addr)(a d:Nat)(l c:Int)(h:Heap)(K:KK)
def F212.wk17:Prop:=ldP (rd h (o.add 0)) fun p1=>ldS (rd h (o.add 1)) fun p2 l3 c4=>Cl 255 [.agg #[.pointer p1,.slice p2 l3 c4]] h fun v5 h6=>ldI .i64 (some v5) fun n7=>K (.tuple #[.int .i64 q,.int .i64 n7,.int .i64 r]) h6
def F212.wL11:Prop:=Lp Tryz.f212 F212.T [1,1,1,1,1,1,1,0,1,0] n [(4,(.int .i64 q)),(6,(.int .i64 r)),(9,(.pointer (some o))),(11,f),(42,(.slice b a d)),(43,(.int .i64 l)),(44,(.int .i64 c))] h K
theorem F212.sL11:F212.wL11 (n+1) q r o f b a d l c h K=(bcase (decide (c<l)) (ptrK b fun a1=>0≤c∧c<(Nat.cast a:Int)∧ldI .i64 (rd h (a1.add (Int.toNat c*1))) fun n2=>dynK Tryz.prog X f [.int .i64 n2] h fun v3 h4=>ldI .i64 (some v3) fun n5=>bcase (n5 !=(0:Int)) (K (.tuple #[.int .i64 0,.int .i64 0,.int .i64 n5]) h4) (F212.wL11 n q r o f b a d l (IntKind.wrap .i64 (c+(1:Int))) h4 K)) (F212.wk17 q r o h K)):=by kernel_rfl
def F212.wk11:Prop:=(∃m,F212.wL11 m q r o f b a d l c h K)
theorem F212.spec(H:Cl 218 [.pointer (some s),.slice j i g] h fun v1 h2=> ∃n3:Int,∃n4:Int,v1=(.tuple #[.int .i64 n3,.int .i64 n4])∧bcase (n4 !=(0:Int)) (K (.tuple #[.int .i64 0,.int .i64 0,.int .i64 n4]) h2) (Cl 254 [.slice j i g] h2 fun v5 h6=>ldI .i64 (some v5) fun n7=>Cl 70 [.pointer (some s)] h6 fun v8 h9=>ldI .i64 (some v8) fun n10=>bcase (decide (n7>n10)) (K (.tuple #[.int .i64 0,.int .i64 0,.int .i64 60]) h9) (newK h9 (.cells #[.pointer none,.slice none 0 0] 330) fun b11 h12=>stK h12 ((Addr.mk b11 0 none).add 0) (.pointer (some s)) fun h13=>stK h13 ((Addr.mk b11 0 none).add 1) (.slice j i g) fun h14=>ldP (rd h14 ((Addr.mk b11 0 none).add 0)) fun p15=>ldS (rd h14 ((Addr.mk b11 0 none).add 1)) fun p16 l17 c18=>Cl 255 [.agg #[.pointer p15,.slice p16 l17 c18]] h14 fun v19 h20=>ldI .i64 (some v19) fun n21=>Cl 256 [.pointer (some s),.slice j i g] h20 fun v22 h23=> ∃p24:Option Addr,∃l25:Nat,∃c26:Nat,∃n27:Int,v22=(.tuple #[.slice p24 l25 c26,.int .i64 n27])∧ldP (rd h23 ((Addr.mk b11 0 none).add 0)) fun p28=>ldS (rd h23 ((Addr.mk b11 0 none).add 1)) fun p29 l30 c31=>F212.wk11 n21 n27 (Addr.mk b11 0 none) (.func (.func 257) #[.agg #[.pointer p28,.slice p29 l30 c31]] #[]) p24 l25 c26 (Nat.cast l25:Int) (0:Int) h23 K))):Cl 212 [.pointer (some s),.slice j i g] h K:=cT F212.T Tryz.func212 H
end
def F256.T:Hint:=⟨[(7,[8,9,28,29,30]),(11,[8]),(14,[12,13,14,15])],[]⟩
section
variable (n:Nat)(y:Addr)(u:Option Addr)(t s:Nat)(r v d:Option Addr)(c b:Nat)(l:Value)(j:Addr)(q:Bool)(g:Option Addr)(f i:Nat)(o a:Int)(h:Heap)(K:KK)
def F256.wL14:Prop:=Lp Tryz.f256 F256.T [1,1,1,1,1,1,1,1,0,1,0] n [(12,(.slice d c b)),(13,l),(14,(.pointer (some j))),(15,(.bool q))] h K
theorem F256.sL14:F256.wL14 (n+1) d c b l j q h K=(bcase q (ldI .i64 (rd h (j.add 0)) fun n1=>newK h (.cells #[.int .i64 n1] 3) fun b2 h3=>appK h3 3 1 8 #[.int .i64 0] d c b (some (Addr.mk b2 0 none)) 1 fun p4 l5 c6 h7=>ldI .i64 (rd h7 (j.add 0)) fun n8=>ldI .i64 (rd h7 (j.add 1)) fun n9=>newK h7 (.cells #[.int .i64 0,.int .i64 0] 357) fun b10 h11=>stK h11 ((Addr.mk b10 0 none).add 0) (.int .i64 n8) fun h12=>stK h12 ((Addr.mk b10 0 none).add 1) (.int .i64 n9) fun h13=>dynK Tryz.prog X l [] h13 fun v14 h15=> ∃n16:Int,∃n17:Int,∃b18:Bool,v14=(.tuple #[.agg #[.int .i64 n16,.int .i64 n17],.bool b18])∧stK h15 ((Addr.mk b10 0 none).add 0) (.int .i64 n16) fun h19=>stK h19 ((Addr.mk b10 0 none).add 1) (.int .i64 n17) fun h20=>F256.wL14 n p4 l5 c6 l (Addr.mk b10 0 none) b18 h20 K) (K (.tuple #[.slice d c b,.int .i64 0]) h)):=by kernel_rfl
def F256.wk14:Prop:=(∃m,F256.wL14 m d c b l j q h K)
def F256.wk11:Prop:=Cl 290 [.pointer r] h fun v3 h4=> ∃n5:Int,∃n6:Int,∃b7:Bool,v3=(.tuple #[.agg #[.int .i64 n5,.int .i64 n6],.bool b7])∧newK h4 (.cells #[.int .i64 0,.int .i64 0] 357) fun b8 h9=>stK h9 ((Addr.mk b8 0 none).add 0) (.int .i64 n5) fun h10=>stK h10 ((Addr.mk b8 0 none).add 1) (.int .i64 n6) fun h11=>F256.wk14 none 0 0 (.func (.func 290) #[.pointer r] #[]) (Addr.mk b8 0 none) b7 h11 K
def F256.wL7:Prop:=Lp Tryz.f256 F256.T [1,1,1,1,1,0,1,0] n [(8,(.pointer r)),(9,(.pointer v)),(28,(.slice g f i)),(29,(.int .i64 o)),(30,(.int .i64 a))] h K
theorem F256.sL7:F256.wL7 (n+1) r v g f i o a h K=(bcase (decide (a<o)) (ptrK g fun a1=>0≤a∧a<(Nat.cast f:Int)∧ldI .i64 (rd h (a1.add (Int.toNat a*1))) fun n2=>Cl 272 [.pointer v,.int .i64 a] h fun v3 h4=>ldI .i64 (some v3) fun n5=>Cl 289 [.pointer r,.int .i64 n5,.int .i64 n2] h4 fun v6 h7=>ldB (some v6) fun _=>F256.wL7 n r v g f i o (IntKind.wrap .i64 (a+(1:Int))) h7 K) (F256.wk11 r h K)):=by kernel_rfl
def F256.wk7:Prop:=(∃m,F256.wL7 m r v g f i o a h K)
theorem F256.spec(H:Cl 271 [.pointer (some y),.slice u t s] h fun v1 h2=> ∃p3:Option Addr,∃l4:Nat,∃c5:Nat,∃n6:Int,v1=(.tuple #[.slice p3 l4 c5,.int .i64 n6])∧bcase (n6 !=(0:Int)) (K (.tuple #[.slice none 0 0,.int .i64 n6]) h2) (Cl 288 [] h2 fun v7 h8=>ldP (some v7) fun p9=>Cl 47 [.pointer (some y)] h8 fun v10 h11=>ldP (some v10) fun p12=>F256.wk7 p9 p12 p3 l4 c5 (Nat.cast l4:Int) (0:Int) h11 K)):Cl 256 [.pointer (some y),.slice u t s] h K:=cT F256.T Tryz.func256 H
end
def F257.T:Hint:=⟨[(3,[1,2,5,6,12,13]),(12,[1,2,5])],[]⟩
section
variable (n:Nat)(j g:Option Addr)(f d:Nat)(i:Int)(c:Addr)(l o b a:Int)(h:Heap)(K:KK)
def F257.wk12:Prop:=ldP (rd h (c.add 0)) fun p1=>ldS (rd h (c.add 1)) fun p2 l3 c4=>Cl 291 [.agg #[.pointer p1,.slice p2 l3 c4],.int .i64 i,.int .i64 l] h fun v5 h6=>ldI .i64 (some v5) fun n7=>K (.int .i64 n7) h6
def F257.wL3:Prop:=Lp Tryz.f257 F257.T [1,1,0,1,0] n [(1,(.int .i64 i)),(2,(.pointer (some c))),(5,(.int .i64 l)),(6,(.int .i64 o)),(12,(.int .i64 b)),(13,(.int .i64 a))] h K
theorem F257.sL3:F257.wL3 (n+1) i c l o b a h K=(bcase (decide (a<b)) (ldP (rd h (c.add 0)) fun p1=>ldS (rd h (c.add 1)) fun p2 l3 c4=>Cl 291 [.agg #[.pointer p1,.slice p2 l3 c4],.int .i64 i,.int .i64 a] h fun v5 h6=>ldI .i64 (some v5) fun n7=>bcase (n7 !=(0:Int)) (K (.int .i64 n7) h6) (ldP (rd h6 (c.add 0)) fun p8=>ldS (rd h6 (c.add 1)) fun p9 l10 c11=>Cl 255 [.agg #[.pointer p8,.slice p9 l10 c11]] h6 fun v12 h13=>ldI .i64 (some v12) fun n14=>bcase (decide (o<(0:Int))) (F257.wL3 n i c a n14 b (IntKind.wrap .i64 (a+(1:Int))) h13 K) (bcase (decide (n14<o)) (F257.wL3 n i c a n14 b (IntKind.wrap .i64 (a+(1:Int))) h13 K) (F257.wL3 n i c l o b (IntKind.wrap .i64 (a+(1:Int))) h13 K)))) (F257.wk12 i c l h K)):=by kernel_rfl
def F257.wk3:Prop:=(∃m,F257.wL3 m i c l o b a h K)
theorem F257.spec(H:newK h (.cells #[.pointer j,.slice g f d] 330) fun b1 h2=>ldP (rd h2 ((Addr.mk b1 0 none).add 0)) fun p3=>Cl 75 [.pointer p3] h2 fun v4 h5=>ldI .i64 (some v4) fun n6=>F257.wk3 i (Addr.mk b1 0 none) (0:Int) (-1:Int) n6 (0:Int) h5 K):Cl 257 [.agg #[.pointer j,.slice g f d],.int .i64 i] h K:=cT F257.T Tryz.func257 H
end
def F291.T:Hint:=⟨[(1,[1,2,3])],[]⟩
section
variable (n:Nat)(f c:Option Addr)(b a:Nat)(g d:Int)(i:Addr)(h:Heap)(K:KK)
def F291.wL1:Prop:=Lp Tryz.f291 F291.T [1,0] n [(1,(.int .i64 g)),(2,(.int .i64 d)),(3,(.pointer (some i)))] h K
theorem F291.sL1:F291.wL1 (n+1) g d i h K=(ldP (rd h (i.add 0)) fun p1=>Cl 47 [.pointer p1] h fun v2 h3=>ldP (some v2) fun p4=>Cl 186 [.pointer p4,.int .i64 g] h3 fun v5 h6=>ldI .i64 (some v5) fun n7=>bcase (n7==d) (K (.int .i64 0) h6) (ldP (rd h6 (i.add 0)) fun p8=>ldS (rd h6 (i.add 1)) fun p9 l10 c11=>Cl 312 [.agg #[.pointer p8,.slice p9 l10 c11],.int .i64 (if(if d>(IntKind.wrap .i64 (n7-(1:Int)))then d else(IntKind.wrap .i64 (n7-(1:Int))))<n7 then(if d>(IntKind.wrap .i64 (n7-(1:Int)))then d else(IntKind.wrap .i64 (n7-(1:Int))))else n7)] h6 fun v12 h13=>ldI .i64 (some v12) fun n14=>bcase (n14 !=(0:Int)) (K (.int .i64 n14) h13) (F291.wL1 n g d i h13 K))):=by kernel_rfl
def F291.wk1:Prop:=(∃m,F291.wL1 m g d i h K)
theorem F291.spec(H:newK h (.cells #[.pointer f,.slice c b a] 330) fun b1 h2=>F291.wk1 g d (Addr.mk b1 0 none) h2 K):Cl 291 [.agg #[.pointer f,.slice c b a],.int .i64 g,.int .i64 d] h K:=cT F291.T Tryz.func291 H
end
theorem F312.spec(d c:Option Addr)(b a:Nat)(f:Int)(h:Heap)(K:KK)(H:newK h (.cells #[.pointer d,.slice c b a] 330) fun b1 h2=>ldP (rd h2 ((Addr.mk b1 0 none).add 0)) fun p3=>Cl 342 [.pointer p3,.int .i64 f] h2 fun v4 h5=>ldI .i64 (some v4) fun n6=>bcase (n6 !=(0:Int)) (K (.int .i64 n6) h5) (ldP (rd h5 ((Addr.mk b1 0 none).add 0)) fun p7=>ldS (rd h5 ((Addr.mk b1 0 none).add 1)) fun p8 l9 c10=>Cl 218 [.pointer p7,.slice p8 l9 c10] h5 fun v11 h12=> ∃n13:Int,∃n14:Int,v11=(.tuple #[.int .i64 n13,.int .i64 n14])∧K (.int .i64 n14) h12)):Cl 312 [.agg #[.pointer d,.slice c b a],.int .i64 f] h K:=cN Tryz.func312 H
end
section
namespace F362
def T:Hint:=⟨[(2,[1,2,3,5,12,13,14]),(3,[1,2,3,5,12,13,14])],[(4,[[(0,[]),(1,[]),(2,[]),(4,[]),(6,[]),(7,[]),(8,[]),(10,[]),(3,[0,4,6,7,8,10]),(5,[6,7,8,10]),(9,[6,10]),(11,[]),(12,[0,1,2,4,6,7,8,10]),(13,[0,1,2,4,6,7,8,10]),(14,[]),(15,[])],[(0,[]),(1,[]),(2,[]),(4,[]),(6,[]),(7,[]),(8,[]),(10,[]),(3,[0,4,6,7,8,10]),(5,[6,7,8,10]),(9,[6,10]),(11,[]),(13,[0,1,2,4,6,7,8,10]),(12,[0,1,2,4,6,7,8,10]),(14,[]),(15,[])],[(0,[]),(1,[]),(2,[]),(4,[]),(6,[]),(7,[]),(8,[]),(10,[]),(3,[0,4,6,7,8,10]),(5,[6,7,8,10]),(9,[6,10]),(12,[0,1,2,4,6,7,8,10]),(11,[]),(13,[0,1,2,4,6,7,8,10]),(14,[]),(15,[])],[(0,[]),(1,[]),(2,[]),(4,[]),(6,[]),(7,[]),(8,[]),(10,[]),(3,[0,4,6,7,8,10]),(5,[6,7,8,10]),(9,[6,10]),(12,[0,1,2,4,6,7,8,10]),(13,[0,1,2,4,6,7,8,10]),(11,[]),(14,[]),(15,[])],[(0,[]),(1,[]),(2,[]),(4,[]),(6,[]),(7,[]),(8,[]),(10,[]),(3,[0,4,6,7,8,10]),(5,[6,7,8,10]),(9,[6,10]),(13,[0,1,2,4,6,7,8,10]),(11,[]),(12,[0,1,2,4,6,7,8,10]),(14,[]),(15,[])],[(0,[]),(1,[]),(2,[]),(4,[]),(6,[]),(7,[]),(8,[]),(10,[]),(3,[0,4,6,7,8,10]),(5,[6,7,8,10]),(9,[6,10]),(13,[0,1,2,4,6,7,8,10]),(12,[0,1,2,4,6,7,8,10]),(11,[]),(14,[]),(15,[])],[(0,[]),(1,[]),(2,[]),(4,[]),(6,[]),(7,[]),(8,[]),(10,[]),(3,[0,4,6,7,8,10]),(5,[6,7,8,10]),(12,[0,1,2,4,6,7,8,10]),(9,[6,10]),(11,[]),(13,[0,1,2,4,6,7,8,10]),(14,[]),(15,[])],[(0,[]),(1,[]),(2,[]),(4,[]),(6,[]),(7,[]),(8,[]),(10,[]),(3,[0,4,6,7,8,10]),(5,[6,7,8,10]),(12,[0,1,2,4,6,7,8,10]),(9,[6,10]),(13,[0,1,2,4,6,7,8,10]),(11,[]),(14,[]),(15,[])],[(0,[]),(1,[]),(2,[]),(4,[]),(6,[]),(7,[]),(8,[]),(10,[]),(3,[0,4,6,7,8,10]),(5,[6,7,8,10]),(12,[0,1,2,4,6,7,8,10]),(13,[0,1,2,4,6,7,8,10]),(9,[6,10]),(11,[]),(14,[]),(15,[])],[(0,[]),(1,[]),(2,[]),(4,[]),(6,[]),(7,[]),(8,[]),(10,[]),(3,[0,4,6,7,8,10]),(5,[6,7,8,10]),(13,[0,1,2,4,6,7,8,10]),(9,[6,10]),(11,[]),(12,[0,1,2,4,6,7,8,10]),(14,[]),(15,[])],[(0,[]),(1,[]),(2,[]),(4,[]),(6,[]),(7,[]),(8,[]),(10,[]),(3,[0,4,6,7,8,10]),(5,[6,7,8,10]),(13,[0,1,2,4,6,7,8,10]),(9,[6,10]),(12,[0,1,2,4,6,7,8,10]),(11,[]),(14,[]),(15,[])],[(0,[]),(1,[]),(2,[]),(4,[]),(6,[]),(7,[]),(8,[]),(10,[]),(3,[0,4,6,7,8,10]),(5,[6,7,8,10]),(13,[0,1,2,4,6,7,8,10]),(12,[0,1,2,4,6,7,8,10]),(9,[6,10]),(11,[]),(14,[]),(15,[])],[(0,[]),(1,[]),(2,[]),(4,[]),(6,[]),(7,[]),(8,[]),(10,[]),(3,[0,4,6,7,8,10]),(12,[0,1,2,4,6,7,8,10]),(5,[6,7,8,10]),(9,[6,10]),(11,[]),(13,[0,1,2,4,6,7,8,10]),(14,[]),(15,[])],[(0,[]),(1,[]),(2,[]),(4,[]),(6,[]),(7,[]),(8,[]),(10,[]),(3,[0,4,6,7,8,10]),(12,[0,1,2,4,6,7,8,10]),(5,[6,7,8,10]),(9,[6,10]),(13,[0,1,2,4,6,7,8,10]),(11,[]),(14,[]),(15,[])],[(0,[]),(1,[]),(2,[]),(4,[]),(6,[]),(7,[]),(8,[]),(10,[]),(3,[0,4,6,7,8,10]),(12,[0,1,2,4,6,7,8,10]),(5,[6,7,8,10]),(13,[0,1,2,4,6,7,8,10]),(9,[6,10]),(11,[]),(14,[]),(15,[])],[(0,[]),(1,[]),(2,[]),(4,[]),(6,[]),(7,[]),(8,[]),(10,[]),(3,[0,4,6,7,8,10]),(12,[0,1,2,4,6,7,8,10]),(13,[0,1,2,4,6,7,8,10]),(5,[6,7,8,10]),(9,[6,10]),(11,[]),(14,[]),(15,[])],[(0,[]),(1,[]),(2,[]),(4,[]),(6,[]),(7,[]),(8,[]),(10,[]),(3,[0,4,6,7,8,10]),(13,[0,1,2,4,6,7,8,10]),(5,[6,7,8,10]),(9,[6,10]),(11,[]),(12,[0,1,2,4,6,7,8,10]),(14,[]),(15,[])],[(0,[]),(1,[]),(2,[]),(4,[]),(6,[]),(7,[]),(8,[]),(10,[]),(3,[0,4,6,7,8,10]),(13,[0,1,2,4,6,7,8,10]),(5,[6,7,8,10]),(9,[6,10]),(12,[0,1,2,4,6,7,8,10]),(11,[]),(14,[]),(15,[])],[(0,[]),(1,[]),(2,[]),(4,[]),(6,[]),(7,[]),(8,[]),(10,[]),(3,[0,4,6,7,8,10]),(13,[0,1,2,4,6,7,8,10]),(5,[6,7,8,10]),(12,[0,1,2,4,6,7,8,10]),(9,[6,10]),(11,[]),(14,[]),(15,[])],[(0,[]),(1,[]),(2,[]),(4,[]),(6,[]),(7,[]),(8,[]),(10,[]),(3,[0,4,6,7,8,10]),(13,[0,1,2,4,6,7,8,10]),(12,[0,1,2,4,6,7,8,10]),(5,[6,7,8,10]),(9,[6,10]),(11,[]),(14,[]),(15,[])],[(0,[]),(1,[]),(2,[]),(4,[]),(6,[]),(7,[]),(8,[]),(10,[]),(12,[0,1,2,4,6,7,8,10]),(3,[0,4,6,7,8,10]),(5,[6,7,8,10]),(9,[6,10]),(11,[]),(13,[0,1,2,4,6,7,8,10]),(14,[]),(15,[])],[(0,[]),(1,[]),(2,[]),(4,[]),(6,[]),(7,[]),(8,[]),(10,[]),(12,[0,1,2,4,6,7,8,10]),(3,[0,4,6,7,8,10]),(5,[6,7,8,10]),(9,[6,10]),(13,[0,1,2,4,6,7,8,10]),(11,[]),(14,[]),(15,[])],[(0,[]),(1,[]),(2,[]),(4,[]),(6,[]),(7,[]),(8,[]),(10,[]),(12,[0,1,2,4,6,7,8,10]),(3,[0,4,6,7,8,10]),(5,[6,7,8,10]),(13,[0,1,2,4,6,7,8,10]),(9,[6,10]),(11,[]),(14,[]),(15,[])],[(0,[]),(1,[]),(2,[]),(4,[]),(6,[]),(7,[]),(8,[]),(10,[]),(12,[0,1,2,4,6,7,8,10]),(3,[0,4,6,7,8,10]),(13,[0,1,2,4,6,7,8,10]),(5,[6,7,8,10]),(9,[6,10]),(11,[]),(14,[]),(15,[])],[(0,[]),(1,[]),(2,[]),(4,[]),(6,[]),(7,[]),(8,[]),(10,[]),(12,[0,1,2,4,6,7,8,10]),(13,[0,1,2,4,6,7,8,10]),(3,[0,4,6,7,8,10]),(5,[6,7,8,10]),(9,[6,10]),(11,[]),(14,[]),(15,[])],[(0,[]),(1,[]),(2,[]),(4,[]),(6,[]),(7,[]),(8,[]),(10,[]),(13,[0,1,2,4,6,7,8,10]),(3,[0,4,6,7,8,10]),(5,[6,7,8,10]),(9,[6,10]),(11,[]),(12,[0,1,2,4,6,7,8,10]),(14,[]),(15,[])],[(0,[]),(1,[]),(2,[]),(4,[]),(6,[]),(7,[]),(8,[]),(10,[]),(13,[0,1,2,4,6,7,8,10]),(3,[0,4,6,7,8,10]),(5,[6,7,8,10]),(9,[6,10]),(12,[0,1,2,4,6,7,8,10]),(11,[]),(14,[]),(15,[])],[(0,[]),(1,[]),(2,[]),(4,[]),(6,[]),(7,[]),(8,[]),(10,[]),(13,[0,1,2,4,6,7,8,10]),(3,[0,4,6,7,8,10]),(5,[6,7,8,10]),(12,[0,1,2,4,6,7,8,10]),(9,[6,10]),(11,[]),(14,[]),(15,[])],[(0,[]),(1,[]),(2,[]),(4,[]),(6,[]),(7,[]),(8,[]),(10,[]),(13,[0,1,2,4,6,7,8,10]),(3,[0,4,6,7,8,10]),(12,[0,1,2,4,6,7,8,10]),(5,[6,7,8,10]),(9,[6,10]),(11,[]),(14,[]),(15,[])],[(0,[]),(1,[]),(2,[]),(4,[]),(6,[]),(7,[]),(8,[]),(10,[]),(13,[0,1,2,4,6,7,8,10]),(12,[0,1,2,4,6,7,8,10]),(3,[0,4,6,7,8,10]),(5,[6,7,8,10]),(9,[6,10]),(11,[]),(14,[]),(15,[])]]),(5,[[(0,[]),(1,[]),(2,[]),(3,[]),(4,[]),(5,[]),(6,[]),(8,[]),(9,[]),(10,[]),(11,[]),(7,[0,1,2,8,9,10,11]),(12,[0,1,2]),(13,[])]])]⟩
noncomputable def body:Code:=(Tryz.f362.body).getD .skip
noncomputable def en(S:Stop)(p:List Nat)(κ:XK):Fr→Heap→Prop:=E Tryz.prog X T S (sub body p) κ
noncomputable def ln(S:Stop)(p:List Nat)(κ:XK)(n:Nat):Fr→Heap→Prop:=loopN S (E Tryz.prog X T S (sub body p)) (cutQ T (sub body p)) κ n
def fn(K:KK):XK:=fin Tryz.prog Tryz.f362.results.toList K
noncomputable def c0(_S:Stop)(K:KK):XK:=blockN 0 (fn K)
noncomputable def c1(S:Stop)(n2:Nat)(K:KK):XK:=backN S (cutQ T (sub body [1,1,0,0])) (ln S [1,1,0,0] (c0 S K) n2) (c0 S K)
def f2(g i j:Addr)(l:Value)(c:Option Addr)(b a:Nat)(d f:Int):Fr:=[(1,(.pointer (some g))),(2,(.pointer (some i))),(3,(.pointer (some j))),(5,l),(12,(.slice c b a)),(13,(.int .i64 d)),(14,(.int .i64 f))]
def f3(g i j:Addr)(l:Value)(c:Option Addr)(b a:Nat)(d f:Int):Fr:=[(1,(.pointer (some g))),(2,(.pointer (some i))),(3,(.pointer (some j))),(5,l),(12,(.slice c b a)),(13,(.int .i64 d)),(14,(.int .i64 f))]
def J0(k2:Addr→Addr→Addr→Value→(Option Addr)→Nat→Nat→Int→Int→Heap→Prop)(r:Option Addr)(o q:Nat)(g i j:Addr)(h:Heap)(_K:KK):Prop:=
 ldP (rd h g) (fun p1=>k2 g i j (.func (.func 363) #[(.pointer p1)] #[]) r o q (Nat.cast o:Int) (0:Int) h)
theorem E0(S:Stop)(r:Option Addr)(o q:Nat)(g i j:Addr)(h:Heap)(K:KK):(E Tryz.prog X T S body (fin Tryz.prog Tryz.f362.results.toList K) (args0 0 [(.slice r o q),(.pointer (some g)),(.pointer (some i)),(.pointer (some j))]) h)=J0 (fun g i j l c b a d f h=>S (en S [1,1] (fn K)) (f2 g i j l c b a d f) h) r o q g i j h K:=by kernel_rfl
def Jk2(lp2:Addr→Addr→Addr→Value→(Option Addr)→Nat→Nat→Int→Int→Heap→Prop)(g i j:Addr)(l:Value)(c:Option Addr)(b a:Nat)(d f:Int)(h:Heap)(_K:KK):Prop:=
 lp2 g i j l c b a d f h
theorem Ek2(S:Stop)(g i j:Addr)(l:Value)(c:Option Addr)(b a:Nat)(d f:Int)(h:Heap)(K:KK):(en S [1,1] (fn K) (f2 g i j l c b a d f) h)=Jk2 (fun g i j l c b a d f h=> ∃n,S (ln S [1,1,0,0] (c0 S K) n) (f2 g i j l c b a d f) h) g i j l c b a d f h K:=by kernel_rfl
def JL2(k3:Addr→Addr→Addr→Value→(Option Addr)→Nat→Nat→Int→Int→Heap→Prop)(g i j:Addr)(l:Value)(c:Option Addr)(b a:Nat)(d f:Int)(h:Heap)(K:KK):Prop:=
 bcase (decide (f<d)) (k3 g i j l c b a d f h) (K (.tuple #[]) h)
theorem EL2(S:Stop)(n2:Nat)(g i j:Addr)(l:Value)(c:Option Addr)(b a:Nat)(d f:Int)(h:Heap)(K:KK):(en S [1,1,0,0] (c1 S n2 K) (f2 g i j l c b a d f) h)=JL2 (fun g i j l c b a d f h=>S (en S [1,1,0,0,1,1] (c1 S n2 K)) (f3 g i j l c b a d f) h) g i j l c b a d f h K:=by kernel_rfl
def wL2:Nat→Addr→Addr→Addr→Value→(Option Addr)→Nat→Nat→Int→Int→Heap→KK→Prop
 |0,_,_,_,_,_,_,_,_,_,_,_=>False
 |n+1,g,i,j,l,c,b,a,d,f,h,K=>JL2 (fun g i j l c b a d f h=>en S0 [1,1,0,0,1,1] (c1 S0 n K) (f3 g i j l c b a d f) h) g i j l c b a d f h K
theorem eL2(K:KK): ∀(n:Nat) (g i j:Addr) (l:Value) (c:Option Addr) (b a:Nat) (d f:Int) (h:Heap),(ln S0 [1,1,0,0] (c0 S0 K) n (f2 g i j l c b a d f) h)=wL2 n g i j l c b a d f h K
 |0,_,_,_,_,_,_,_,_,_,_=>rfl
 |n+1,g,i,j,l,c,b,a,d,f,h=>(show en S0 [1,1,0,0] (c1 S0 n K) (f2 g i j l c b a d f) h=_ from EL2 S0 n g i j l c b a d f h K)
def wk2(g i j:Addr)(l:Value)(c:Option Addr)(b a:Nat)(d f:Int)(h:Heap)(K:KK):Prop:=
 Jk2 (fun g i j l c b a d f h=> ∃m,wL2 m g i j l c b a d f h K) g i j l c b a d f h K
theorem ek2(K:KK)(g i j:Addr)(l:Value)(c:Option Addr)(b a:Nat)(d f:Int)(h:Heap):(en S0 [1,1] (fn K) (f2 g i j l c b a d f) h)=wk2 g i j l c b a d f h K:=(Ek2 S0 g i j l c b a d f h K).trans (cg1 (fun q0=>Jk2 q0 g i j l c b a d f h K) (by funext g i j l c b a d f h;exact ex_congr fun m=>eL2 K m g i j l c b a d f h))
def w(r:Option Addr)(o q:Nat)(g i j:Addr)(h:Heap)(K:KK):Prop:=
 J0 (fun g i j l c b a d f h=>wk2 g i j l c b a d f h K) r o q g i j h K
theorem e0(K:KK)(r:Option Addr)(o q:Nat)(g i j:Addr)(h:Heap):(E Tryz.prog X T S0 body (fin Tryz.prog Tryz.f362.results.toList K) (args0 0 [(.slice r o q),(.pointer (some g)),(.pointer (some i)),(.pointer (some j))]) h)=w r o q g i j h K:=(E0 S0 r o q g i j h K).trans (cg1 (fun q0=>J0 q0 r o q g i j h K) (by funext g i j l c b a d f h;exact ek2 K g i j l c b a d f h))
theorem hb:Tryz.f362.body=some body:=by kernel_rfl
theorem ok:okCode T Tryz.f362.ntmps body=true:=by kernel_rfl
theorem spec(r:Option Addr)(o q:Nat)(g i j:Addr)(h:Heap)(K:KK)(H:w r o q g i j h K):Cl 362 [(.slice r o q),(.pointer (some g)),(.pointer (some i)),(.pointer (some j))] h K:=
 calls_of_E (T:=T) Xok mix Tryz.func362 hb ok rfl (by rw[e0];exact H)
end F362
end
section
theorem ord_puts{h:Heap}{b n:Nat}{f g:Nat→Nat}{k v:Nat}{K:Value→Heap→Prop}(H:OrdIs h b n f g)(hk:k<8)(hv:v<8)
  (hK: ∀h',OrdIs h' b n (upd f k v) (upd g v k)→Only [b] h h'→K (.tuple #[]) h'):
  Cl 370 [.pointer (some ⟨b,0,none⟩),.int .i64 (k:Int),.int .i64 (v:Int)] h K:=by
 apply F370.spec
 simp only[add_mk,Nat.zero_add,Nat.mul_one,Nat.add_zero,Int.toNat_natCast]
 refine⟨by omega,by omega,H.stv hk fun h1 A1 O1=>⟨trivial,trivial,trivial,trivial,trivial,by omega,by omega,A1.stl hv fun h2 A2 O2=> ?_⟩⟩
 exact hK h2 A2 (O1.trans O2 (by simp))
theorem ord_swap{h:Heap}{b n:Nat}{f g:Nat→Nat}{k:Nat}{K:Value→Heap→Prop}(H:OrdIs h b n f g)(hn:n≤8)(hk:k+1<n)(hf: ∀i,i<n→f i<n)
  (hK: ∀h',OrdIs h' b n (sw k f) (swl k f g)→Only [b] h h'→K (.int .i64 0) h'):
  Cl 369 [.pointer (some ⟨b,0,none⟩),.int .i64 (k:Int)] h K:=by
 apply F369.spec
 have e1:IntKind.wrap .i64 ((k:Int)+1)=((k+1:Nat):Int):=by rw[wrap_i64 (by omega) (by omega)];simp
 have e2:IntKind.wrap .i64 ((n:Int)-1)=(n:Int)-1:=wrap_i64 (by omega) (by omega)
 simp only[add_mk,Nat.zero_add,Nat.mul_one,Int.toNat_natCast,e1]
 have f1:=hf k (by omega)
 have f2:=hf (k+1) (by omega)
 rw[decide_eq_false (by omega),bcase_false]
 refine ldI_of H.rd0 ?_
 rw[e2,decide_eq_false (by omega),bcase_false]
 refine⟨by omega,by omega,ldI_of (H.rdv (by omega)) ⟨by omega,by omega,ldI_of (H.rdv (by omega)) ?_⟩⟩
 refine ord_puts H (by omega) (by omega) fun h1 A1 O1=>⟨rfl,ord_puts A1 (by omega) (by omega) fun h2 A2 O2=>⟨rfl,hK h2 A2 (O1.trans O2 (by simp))⟩⟩
theorem go362:xget X 362=some Ext.go:=by kernel_rfl
section
variable {h:Heap}{s k:Nat}{L:List Nat}{Y:SX}{K:Value→Heap→Prop}
theorem on_nil(H:Sto h s L Y)(hN:Y.N=[]){l:Int}(hK:K (.slice none 0 0) h):Cl 360 [ptrV s,.int .i64 l] h K:=by
 obtain⟨B,F,e,H⟩:=H
 refine F360.spec _ _ h K ?_
 simp only[add_mk,Nat.zero_add]
 refine ldS_of (p:=B.p) (l:=Y.N.length) (c:=B.c) (by rw[At.rd H.m.S];rfl) ?_
 unfold F360.wk3
 refine⟨1,?_⟩
 rw[F360.sL3]
 rw[decide_eq_false (by rw[hN];decide),bcase_false]
 exact hK
theorem needs_nil(H:Sto h s L Y)(hN:Y.N=[]){l:Int}(hK:K (.int .i64 0) h):Cl 359 [ptrV s,.int .i64 l] h K:=by
 refine F359.spec _ _ h K ?_
 exact on_nil H hN (ldS_of rfl hK)
theorem turn_nil{clo:Value}(H:Sto h s L Y)(hN:Y.N=[])(hk:k+1<Y.n)(hf: ∀i,i<Y.n→Y.f i<Y.n)
  (hC: ∀{h':Heap} {Q:Value→Heap→Prop},Only L h h'→Q (.tuple #[]) h'→dynK Tryz.prog X clo [.slice none 0 0] h' Q)
  (hK: ∀h' L',Sto h' s L' {Y with f:=sw k Y.f,g:=swl k Y.f Y.g}→Only L h h'→Fresh L L' h→K (.tuple #[]) h'):Cl 361 [ptrV s,.int .i64 (k:Int),clo] h K:=by
 have H0:=H
 obtain⟨B,F,e,H⟩:=H
 subst e
 have n8:=H.m.n8
 refine F361.spec _ _ _ h K ?_
 refine on_nil H0 hN (ldS_of rfl (on_nil H0 hN (ldS_of rfl ?_)))
 unfold F361.wk3
 refine⟨1,?_⟩
 rw[F361.sL3]
 rw[decide_eq_false (by decide),bcase_false]
 unfold F361.wk10
 simp only[add_mk,Nat.zero_add]
 refine ldP_of (n:=some ⟨B.ob,0,none⟩) (by rw[At.rd H.m.S];rfl) ?_
 refine ord_swap H.m.O n8.2 hk hf fun h1 Or O1=>ldI_of rfl ?_
 have sp:=H.m.sep
 have sp':([s,B.ob,B.cac,B.cm,B.cmc]++OwnB B.p++OwnB B.fp).Nodup:=sp
 simp only[List.cons_append,List.nil_append,List.nodup_cons,List.mem_cons,List.mem_append,not_or]at sp'
 obtain⟨⟨a1,a2,a3,a4,a5,a6⟩,⟨b1,b2,b3,b4,b5⟩,⟨c1,c2,c3,c4⟩,⟨d1,d2,d3⟩,⟨e1,e2⟩,-⟩:=sp'
 have ts:=H.t.sep
 have one: ∀{y},y≠B.ob→y∉[B.ob]:=fun h hm=>h (by simpa using hm)
 have I1:StIs h1 s Y.n Y.room B (sw k Y.f) (swl k Y.f Y.g) Y.N F Y.Q Y.off:=by
  refine⟨⟨H.m.S.only O1 (one a1),Or,H.m.own.only O1 fun b hb=>one fun e=> ?_,H.m.fre.only O1 fun b hb=>one fun e=> ?_,H.m.cac.only O1 (one fun e=>b1 e.symm) (one fun e=>b2 e.symm) (one fun e=>b3 e.symm),n8,H.m.len,sp⟩,H.t.only O1 fun b hb hm=>ts b hm (by simp at hb;subst hb;simp[SB.bm]),H.ok,H.cnt,H.fre⟩
  ·subst e;exact b4 (by rw[show B.p=_ from hb];simp[OwnB])
  ·subst e;exact b5 hb
 have S1:Sto h1 s (B.bm s++B.bt) {Y with f:=sw k Y.f,g:=swl k Y.f Y.g}:=⟨B,F,rfl,I1⟩
 unfold F361.wk12
 refine⟨1,?_⟩
 rw[F361.sL12]
 rw[decide_eq_false (by decide),bcase_false]
 unfold F361.wk16 F361.wk17
 refine⟨1,?_⟩
 rw[F361.sL17]
 rw[decide_eq_false (by decide),bcase_false]
 unfold F361.wk23
 simp only[add_mk,Nat.zero_add]
 refine ldP_of (n:=some ⟨B.tb,0,none⟩) (by rw[At.rd I1.m.S];rfl) ?_
 obtain⟨T,tcs,mm,tops,tfails,t1,t2,t3,L0,t5,t6,t7⟩:=I1.t.tab
 have T32:32≤T:=by
  obtain⟨k,e⟩:=t5
  have:=Nat.two_pow_pos k
  omega
 refine slots_spec t1 (ldI_of rfl ?_)
 unfold F361.wk24
 refine⟨1,?_⟩
 rw[F361.sL24]
 refine sto_len S1 (ldI_of rfl ?_)
 have c0:cntN Y.N=0:=by rw[hN];rfl
 rw[decide_eq_false (by
  show ¬IntKind.wrap .i64 (2*IntKind.wrap .i64 (IntKind.wrap .i64 (((cntN Y.N:Nat):Int)+IntKind.wrap .i64 (2*((0:Nat):Int)))+1))>(T:Int)
  rw[c0]
  show ¬(2:Int)>(T:Int)
  omega),bcase_false]
 unfold F361.wk26
 have ok1:=I1.ok
 refine grows33 (bl:=[]) (bc:=0) (bp:=none) (v4:= .pointer (some ⟨B.tb,0,none⟩)) (v5:= .map (some B.sb)) I1.m.S I1.m.r (fun i hi=>by simp at hi) (fun a e=>by cases e) (by simp) (fun i x hx=> ?_) (fun i j x hi hj=> ?_) t5 (by rw[era_nil];exact t6) t7 fun tb m mc sb h3 m3 T3 _ g1 g2 g3 g4 O3=>⟨rfl,?_⟩
 ·rw[era_nil,hN]at hx
  simp[nd]at hx
 ·rw[era_nil,hN]at hi
  simp[nd]at hi
 rw[era_nil]at T3
 have z1:=O1.size
 have OL:Only (B.bm s++B.bt) h h3:=(O1.mono fun b hb _=>by simp only[List.mem_singleton]at hb;subst hb;simp[SB.bm]).trans O3 fun b hb _=>by simp only[List.mem_singleton]at hb;subst hb;simp[SB.bm]
 refine hC OL ⟨rfl,?_⟩
 refine hK h3 _ ⟨_,F,rfl,⟨m3,T3,ok1,I1.cnt,I1.fre⟩⟩ OL fun y hy=> ?_
 rcases List.mem_append.1 hy with q|q
 ·exact .inl (List.mem_append.2 (.inl q))
 ·refine .inr ?_
  simp[SB.bt,SB.tabs]at q
  omega
set_option maxRecDepth 100000 in
theorem swap_nil(H:Sto h s L Y)(hN:Y.N=[])(hk:k+1<Y.n)(hf: ∀i,i<Y.n→Y.f i<Y.n)
  (hK: ∀h' L',Sto h' s L' {Y with f:=sw k Y.f,g:=swl k Y.f Y.g}→Only L h h'→Fresh L L' h→K (.int .i64 0) h'):Cl 342 [ptrV s,.int .i64 (k:Int)] h K:=by
 have ok:=H.ok
 have n8:=ok.2.2.1
 have c0:cntN Y.N=0:=by rw[hN];rfl
 refine F342.spec _ _ h K ?_
 refine newK_at fun h1 A1 O1 z1=>newK_at fun h2 A2 O2 z2=> ?_
 have O02:=O1.trans O2 (by simp)
 have H2:=H.only0 O02
 have A12:=A1.only O2 (by simp)
 have rs:rd h2 ⟨h.size,0,none⟩=some (ptrV s):=by rw[At.rd A12];rfl
 have rk:rd h2 ⟨h1.size,0,none⟩=some (.int .i64 (k:Int)):=by rw[At.rd A2];rfl
 refine ldI_of rk ?_
 rw[decide_eq_false (by omega),bcase_false]
 refine ldI_of rk (ldP_of rs (sto_vars H2 (ldI_of rfl (ldI_of rk ⟨rfl,?_⟩))))
 rw[show IntKind.wrap .i64 ((Y.n:Int)-1)=(Y.n:Int)-1 from wrap_i64 (by omega) (by omega),decide_eq_false (by omega),bcase_false]
 refine ldP_of rs (ldI_of rk (ldP_of rs (ldP_of rs (needs_nil H2 hN (ldI_of rfl (ldP_of rs ⟨rfl,ldP_of rs ⟨rfl,sto_room H2 (ldI_of rfl (ldP_of rs ⟨rfl,sto_len H2 (ldI_of rfl ?_)⟩))⟩⟩))))))
 rw[c0,decide_eq_false (by rw[wrap_i64 (by omega) (by omega)];omega),bcase_false]
 unfold F342.wk5
 refine newK_map0 fun h3 O3=>newK_at fun h4 A4 O4 z4=> ?_
 rw[add_mk]
 refine stK_at A4 (by simp) rfl fun h5 A5 O5 z5=> ?_
 have s2:=O02.size
 have s3:=O3.size
 have l1:=A12.lt
 have l2:=A2.lt
 have O35:Only [] h2 h5:=(O3.trans O4 (by simp)).trans O5 (by intro y hy hl;simp only[List.mem_singleton]at hy;omega)
 have O05:=O02.trans O35 (by simp)
 have H5:=H.only0 O05
 have rs5:rd h5 ⟨h.size,0,none⟩=some (ptrV s):=by rw[At.rd (A12.only O35 (by simp))];rfl
 have rk5:rd h5 ⟨h1.size,0,none⟩=some (.int .i64 (k:Int)):=by rw[At.rd (A2.only O35 (by simp))];rfl
 refine ldP_of rs5 (ldI_of rk5 (on_nil H5 hN (ldS_of rfl ?_)))
 unfold F342.wk7
 refine⟨1,?_⟩
 rw[F342.sL7]
 rw[decide_eq_false (by decide),bcase_false]
 unfold F342.wk11
 refine ldP_of rs5 (ldI_of rk5 (turn_nil H5 hN hk hf (fun {h6 Q} O6 hQ=> ?_) fun h6 L6 S6 O6 F6=>⟨rfl,hK h6 L6 S6 ((O05.mono (by simp)).trans O6 fun y hy _=>hy) fun y hy=>(F6 y hy).imp id fun z=>by have:=O05.size;omega⟩))
 have nb:h.size∉L:=fun hm=>by have:=H.lt _ hm;omega
 refine dynK_go go362 ?_
 refine F362.spec _ _ _ _ _ _ h6 _ ?_
 unfold F362.w F362.J0
 refine ldP_of (by rw[At.rd ((A12.only O35 (by simp)).only O6 nb)];rfl) ?_
 unfold F362.wk2 F362.Jk2
 refine⟨1,?_⟩
 unfold F362.wL2 F362.JL2
 exact bcase_of (fun c=>absurd (of_decide_eq_true c) (by decide)) fun _=>hQ
end
end
section
theorem perm_sw{n k:Nat}{fo gg:Nat→Nat}(P:PermOk n fo gg)(hk:k+1<n):PermOk n (sw k fo) (swl k fo gg):=by
 have k1:=P.2 k (by omega)
 have k2:=P.2 (k+1) hk
 have ne:fo k≠fo (k+1):=fun e=>by
  have h1:=k1.2
  rw[e,k2.2]at h1
  omega
 refine⟨fun v hv=> ?_,fun l hl=> ?_⟩
 ·unfold swl upd
  by_cases e1:v=fo k
  ·rw[if_pos e1]
   refine⟨hk,?_⟩
   unfold sw upd
   rw[if_pos rfl,e1]
  ·rw[if_neg e1]
   by_cases e2:v=fo (k+1)
   ·rw[if_pos e2]
    refine⟨by omega,?_⟩
    unfold sw upd
    rw[if_neg (by omega),if_pos rfl,e2]
   ·rw[if_neg e2]
    obtain⟨q1,q2⟩:=P.1 v hv
    refine⟨q1,?_⟩
    unfold sw upd
    rw[if_neg (fun e=>e2 (by rw[←e,q2])),if_neg (fun e=>e1 (by rw[←e,q2])),q2]
 ·unfold sw upd
  by_cases e1:l=k+1
  ·rw[if_pos e1]
   refine⟨k1.1,?_⟩
   unfold swl upd
   rw[if_pos rfl,e1]
  ·rw[if_neg e1]
   by_cases e2:l=k
   ·rw[if_pos e2]
    refine⟨k2.1,?_⟩
    unfold swl upd
    rw[if_neg (fun e=>ne e.symm),if_pos rfl,e2]
   ·rw[if_neg e2]
    obtain⟨q1,q2⟩:=P.2 l hl
    refine⟨q1,?_⟩
    unfold swl upd
    rw[if_neg (fun e=>e2 (by rw[←q2,e,k1.2])),if_neg (fun e=>e1 (by rw[←q2,e,k2.2])),q2]
structure Sft(h:Heap)(s n room:Nat)(fo gg:Nat→Nat)(off:Bool)(L:List Nat)(lo:Nat)(p:Option Addr)(c:Nat):Prop where
 S:Sto h s L (XL n room fo gg [] off)
 P:PermOk n fo gg
 Ow:Own h lo 1 p 0 c []
 np: ∀y∈OwnB p,y∉L
section
variable {h h':Heap}{s n room lo c k v level:Nat}{fo gg fo' gg':Nat→Nat}{off:Bool}{L L':List Nat}{p:Option Addr}{K:Value→Heap→Prop}
theorem Sft.lt(S:Sft h s n room fo gg off L lo p c): ∀y∈OwnB p,y<h.size:=fun y hy=>(S.Ow.lt y hy).2
theorem Sft.next(S:Sft h s n room fo gg off L lo p c)(S':Sto h' s L' (XL n room fo' gg' [] off))(P':PermOk n fo' gg')(O:Only L h h')(F:Fresh L L' h):Sft h' s n room fo' gg' off L' lo p c:=
 ⟨S',P',S.Ow.only O fun b e=>S.np b (by rw[e];simp[OwnB]),fun y hy hm=>by
  rcases F y hm with q|q
  ·exact S.np y hy q
  ·have:=S.lt y hy;omega⟩
theorem Sft.only0(S:Sft h s n room fo gg off L lo p c)(O:Only [] h h'):Sft h' s n room fo gg off L lo p c:=S.next (S.S.only0 O) S.P (O.mono (by simp)) (Fresh.refl _ _)
def sfV(s:Nat)(p:Option Addr)(c:Nat):Value:= .agg #[ptrV s,.slice p 0 c]
theorem collect_nil(S:Sft h s n room fo gg off L lo p c)(hK: ∀h' L' gone,Sft h' s n room fo gg off L' lo p c→Only L h h'→Fresh L L' h→K (.tuple #[.int .i64 gone,.int .i64 0]) h'):
  Cl 218 [ptrV s,.slice p 0 c] h K:=by
 refine collect218 (fun _=>QL n fo []) (rs:=[]) S.S S.Ow (fun r hr=>by cases hr) (by simp) fun h1 L1 gone keep M S1 O1 F1=>hK h1 L1 gone ?_ O1 F1
 have S1:Sto h1 s L1 (XL n room fo gg [] off):=S1
 exact S.next S1 S.P O1 F1
set_option maxRecDepth 100000 in
theorem moves_nil(S:Sft h s n room fo gg off L lo p c)(hk:k+1<n)
  (hK: ∀h' L',Sft h' s n room (sw k fo) (swl k fo gg) off L' lo p c→Only L h h'→Fresh L L' h→K (.int .i64 0) h'):Cl 312 [sfV s p c,.int .i64 (k:Int)] h K:=by
 refine F312.spec _ _ _ _ _ h K ?_
 refine newK_at fun h1 A1 O1 z1=> ?_
 simp only[add_mk,Nat.zero_add]
 have S1:=S.only0 O1
 refine ldP_of (n:=some ⟨s,0,none⟩) (by rw[At.rd A1];rfl) ?_
 refine swap_nil S1.S rfl hk (fun i hi=>(S.P.2 i hi).1) fun h2 L2 S2 O2 F2=>ldI_of rfl ?_
 rw[show((0:Int) !=0)=false from rfl,bcase_false]
 have S2':Sto h2 s L2 {XL n room (sw k fo) (swl k fo gg) [] off with Q:=QL n fo []}:=S2
 have nb:h.size∉L:=fun hm=>by have:=S.S.lt _ hm;omega
 have A2:=A1.only O2 nb
 have S2'':Sto h2 s L2 {XL n room (sw k fo) (swl k fo gg) [] off with Q:=QL n fo []}:=S2'
 refine ldP_of (n:=some ⟨s,0,none⟩) (by rw[At.rd A2];rfl) (ldS_of (p:=p) (l:=0) (c:=c) (by rw[At.rd A2];rfl) ?_)
 have Ow2:=S1.Ow.only O2 fun b e=>S1.np b (by rw[e];simp[OwnB])
 refine collect218 (fun _=>QL n (sw k fo) []) (rs:=[]) S2'' Ow2 (fun r hr=>by cases hr) (by simp) fun h3 L3 gone keep M S3 O3 F3=>⟨_,_,rfl,?_⟩
 have S3:Sto h3 s L3 (XL n room (sw k fo) (swl k fo gg) [] off):=S3
 have O13:Only L h1 h3:=O2.app O3 F2
 have F13:Fresh L L3 h1:=F2.trans F3 O2.size
 refine hK h3 L3 (S1.next S3 (perm_sw S.P hk) O13 F13) ((O1.mono (by simp)).trans O13 fun y hy _=>hy) fun y hy=>(F13 y hy).imp id fun q=>by have:=O1.size;omega
set_option maxRecDepth 100000 in
theorem puts_nil(S:Sft h s n room fo gg off L lo p c)(hv:v<n)(hl:level<n)
  (hK: ∀h' L' fo' gg',Sft h' s n room fo' gg' off L' lo p c→Only L h h'→Fresh L L' h→K (.int .i64 0) h'):Cl 291 [sfV s p c,.int .i64 (v:Int),.int .i64 (level:Int)] h K:=by
 have ok:=S.S.ok
 dsimp only[XL]at ok
 have n8:=ok.2.2.1
 refine F291.spec _ _ _ _ _ _ h K ?_
 refine newK_at fun h1 A1 O1 z1=> ?_
 unfold F291.wk1
 have main: ∀(d:Nat) (k:Heap) (L1:List Nat) (fo1 gg1:Nat→Nat),(gg1 v-level)+(level-gg1 v)≤d→Sft k s n room fo1 gg1 off L1 lo p c→h.size∉L1→At k h.size [ptrV s,.slice p 0 c]→Only L h1 k→Fresh L L1 h1→
   F291.wL1 (d+1) (v:Int) (level:Int) ⟨h.size,0,none⟩ k K:=by
  intro d
  induction d with
  |zero=>
   intro k L1 fo1 gg1 hd S1 nb A O F
   rw[F291.sL1]
   simp only[add_mk,Nat.zero_add]
   refine ldP_of (n:=some ⟨s,0,none⟩) (by rw[At.rd A];rfl) (sto_order S1.S fun c2 k2 Or g2 O2=>ldP_of rfl (ord_level Or n8 hv (ldI_of rfl ?_)))
   show bcase (((gg1 v:Nat):Int)==(level:Int)) _ _
   rw[show(((gg1 v:Nat):Int)==(level:Int))=true by rw[beq_iff_eq];omega,bcase_true]
   exact hK k2 L1 fo1 gg1 (S1.only0 O2) (((O1.mono (by simp)).trans O fun y hy _=>hy).trans (O2.mono (by simp)) fun y hy _=>hy) fun y hy=>(F y hy).imp id fun q=>by have:=O1.size;omega
  |succ d ih=>
   intro k L1 fo1 gg1 hd S1 nb A O F
   rw[F291.sL1]
   simp only[add_mk,Nat.zero_add]
   refine ldP_of (n:=some ⟨s,0,none⟩) (by rw[At.rd A];rfl) (sto_order S1.S fun c2 k2 Or g2 O2=>ldP_of rfl (ord_level Or n8 hv (ldI_of rfl ?_)))
   show bcase (((gg1 v:Nat):Int)==(level:Int)) _ _
   by_cases e:gg1 v=level
   ·rw[show(((gg1 v:Nat):Int)==(level:Int))=true by rw[beq_iff_eq];omega,bcase_true]
    exact hK k2 L1 fo1 gg1 (S1.only0 O2) (((O1.mono (by simp)).trans O fun y hy _=>hy).trans (O2.mono (by simp)) fun y hy _=>hy) fun y hy=>(F y hy).imp id fun q=>by have:=O1.size;omega
   rw[show(((gg1 v:Nat):Int)==(level:Int))=false by rw[beq_eq_false_iff_ne];omega,bcase_false]
   have A2:=A.only O2 (by simp)
   have S2:=S1.only0 O2
   refine ldP_of (n:=some ⟨s,0,none⟩) (by rw[At.rd A2];rfl) (ldS_of (p:=p) (l:=0) (c:=c) (by rw[At.rd A2];rfl) ?_)
   obtain⟨gv,ev⟩:=S1.P.1 v hv
   obtain⟨j,ej,hj,hlt⟩: ∃j:Nat,(if(if(level:Int)>(IntKind.wrap .i64 (((gg1 v:Nat):Int)-(1:Int)))then(level:Int)else(IntKind.wrap .i64 (((gg1 v:Nat):Int)-(1:Int))))<((gg1 v:Nat):Int)then(if(level:Int)>(IntKind.wrap .i64 (((gg1 v:Nat):Int)-(1:Int)))then(level:Int)else(IntKind.wrap .i64 (((gg1 v:Nat):Int)-(1:Int))))else((gg1 v:Nat):Int))=(j:Int)∧j+1<n∧(if level<gg1 v then j+1=gg1 v else j=gg1 v):=by
    rw[wrap_i64 (by omega) (by omega)]
    by_cases q:level<gg1 v
    ·refine⟨gg1 v-1,?_,by omega,by rw[if_pos q];omega⟩
     rw[if_neg (show ¬(level:Int)>((gg1 v:Nat):Int)-1 by omega),if_pos (show((gg1 v:Nat):Int)-1<((gg1 v:Nat):Int) by omega)]
     omega
    ·refine⟨gg1 v,?_,by omega,by rw[if_neg q]⟩
     rw[if_pos (show(level:Int)>((gg1 v:Nat):Int)-1 by omega),if_neg (show ¬(level:Int)<((gg1 v:Nat):Int) by omega)]
   show Cl 312 [sfV s p c,.int .i64 (if(if(level:Int)>(IntKind.wrap .i64 (((gg1 v:Nat):Int)-(1:Int)))then(level:Int)else(IntKind.wrap .i64 (((gg1 v:Nat):Int)-(1:Int))))<((gg1 v:Nat):Int)then(if(level:Int)>(IntKind.wrap .i64 (((gg1 v:Nat):Int)-(1:Int)))then(level:Int)else(IntKind.wrap .i64 (((gg1 v:Nat):Int)-(1:Int))))else((gg1 v:Nat):Int))] _ _
   rw[ej]
   refine moves_nil S2 hj fun k3 L3 S3 O3 F3=>ldI_of rfl ?_
   rw[show((0:Int) !=0)=false from rfl,bcase_false]
   have s2:=O2.size
   have lA:=A.lt
   have nb3:h.size∉L3:=fun hm=>by
    rcases F3 _ hm with q|q
    ·exact nb q
    ·omega
   have gv':swl j fo1 gg1 v=if level<gg1 v then j else j+1:=by
    unfold swl upd
    by_cases q:level<gg1 v
    ·rw[if_pos q]at hlt ⊢
     have e1:fo1 (j+1)=v:=by rw[hlt];exact ev
     have e0:v≠fo1 j:=fun e=>by
      have:=(S1.P.2 j (by omega)).2
      rw[←e]at this
      omega
     rw[if_neg e0,if_pos e1.symm]
    ·rw[if_neg q]at hlt ⊢
     rw[if_pos (by rw[hlt];exact ev.symm)]
   have O23:Only L1 k k3:=(O2.mono (by simp)).trans O3 fun y hy _=>hy
   have F23:Fresh L1 L3 k:=fun y hy=>(F3 y hy).imp id fun q=>by omega
   refine ih k3 L3 _ _ (by
    rw[gv']
    by_cases q:level<gg1 v
    ·rw[if_pos q]at hlt ⊢;omega
    ·rw[if_neg q]at hlt ⊢;omega) S3 nb3 (A2.only O3 nb) (O.app O23 F) (F.trans F23 O.size)
 have nb:h.size∉L:=fun hm=>by have:=S.S.lt _ hm;omega
 exact⟨_,main _ h1 L fo gg (Nat.le_refl _) (S.only0 O1) nb A1 (Only.refl _ _) (Fresh.refl _ _)⟩
end
end
section
abbrev It:=Int×Int
def atL(L:List It)(i:Nat):It:=L.getD i (0,0)
def bet(a b:It):Bool:=decide (a.2>b.2)||(a.2==b.2&&decide (a.1<b.1))
def swapL(L:List It)(i j:Nat):List It:=(L.set i (atL L j)).set j (atL L i)
def par(k:Nat):Nat:=(k-1)/2
def okAt(L:List It)(k:Nat):Prop:=bet (atL L k) (atL L (par k))=false
def HeapN(L:List It)(n:Nat):Prop:= ∀k,0<k→k<n→okAt L k
theorem bet_asym{a b:It}(h:bet a b=true):bet b a=false:=by
 simp only[bet,Bool.or_eq_true,Bool.and_eq_true,decide_eq_true_eq,beq_iff_eq,Bool.or_eq_false_iff,Bool.and_eq_false_imp,decide_eq_false_iff_not]at*
 omega
theorem bet_ntrans{a b c:It}(h1:bet a b=false)(h2:bet b c=false):bet a c=false:=by
 simp only[bet,beq_iff_eq,Bool.or_eq_false_iff,Bool.and_eq_false_imp,decide_eq_false_iff_not]at*
 omega
theorem bet_step{a b c:It}(h1:bet c b=false)(h2:bet a b=true):bet c a=false:=by
 simp only[bet,Bool.or_eq_true,Bool.and_eq_true,decide_eq_true_eq,beq_iff_eq,Bool.or_eq_false_iff,Bool.and_eq_false_imp,decide_eq_false_iff_not]at*
 omega
theorem bet_self(a:It):bet a a=false:=by
 simp[bet]
theorem swapL_len(L:List It)(i j:Nat):(swapL L i j).length=L.length:=by simp[swapL]
theorem atL_swap{L:List It}{i j:Nat}(hi:i<L.length)(hj:j<L.length)(k:Nat):atL (swapL L i j) k=if k=j then atL L i else if k=i then atL L j else atL L k:=by
 unfold swapL atL
 by_cases h1:k=j
 ·subst h1
  simp[hj]
 ·rw[if_neg h1]
  by_cases h2:k=i
  ·subst h2
   simp[List.getD,Ne.symm h1,hi]
  ·rw[if_neg h2]
   simp[List.getD,Ne.symm h1,Ne.symm h2]
theorem atL_get{L:List It}{i:Nat}(hi:i<L.length):L[i]=atL L i:=by simp[atL,hi]
theorem swapL_perm{L:List It}{i j:Nat}(hi:i<L.length)(hj:j<L.length):(swapL L i j).Perm L:=by
 have h:=Array.swap_perm (xs:=L.toArray) (i:=i) (j:=j) (by simpa using hi) (by simpa using hj)
 have e:(L.toArray.swap i j (by simpa using hi) (by simpa using hj)).toList=swapL L i j:=by
  unfold swapL
  rw[Array.swap_def]
  simp[atL,hi,hj]
 rw[Array.perm_iff_toList_perm,e]at h
 exact h
structure DownW(L:List It)(n i0 i:Nat):Prop where
 a: ∀k,0<k→k<n→par k≠i→(k≠i∨i≠i0)→okAt L k
 b: ∀k,0<k→k<n→par k=i→0<i→bet (atL L k) (atL L (par i))=false
 le:i0≤i
structure UpW(L:List It)(n j:Nat):Prop where
 a: ∀k,0<k→k<n→k≠j→okAt L k
 b: ∀k,0<k→k<n→par k=j→0<j→bet (atL L k) (atL L (par j))=false
theorem UpW.done{L:List It}{n j:Nat}(H:UpW L n j)(h:j=0∨okAt L j):HeapN L n:=by
 intro k h0 h1
 by_cases e:k=j
 ·subst e
  rcases h with h|h
  ·omega
  ·exact h
 ·exact H.a k h0 h1 e
theorem UpW.step{L:List It}{n j:Nat}(H:UpW L n j)(hj0:0<j)(hjn:j<n)(hn:n≤L.length)(hb:bet (atL L j) (atL L (par j))=true):UpW (swapL L (par j) j) n (par j):=by
 have hp:par j<j:=by unfold par;omega
 have sw:=atL_swap (L:=L) (i:=par j) (j:=j) (by omega) (by omega)
 constructor
 ·intro k h0 h1 hk
  unfold okAt
  rw[sw k,sw (par k)]
  have hpk:par k<k:=by unfold par;omega
  by_cases e:k=j
  ·subst e
   rw[if_pos rfl,if_neg (by omega),if_pos rfl]
   exact bet_asym hb
  ·rw[if_neg e,if_neg hk]
   by_cases e2:par k=j
   ·rw[if_pos e2]
    exact H.b k h0 h1 e2 hj0
   ·rw[if_neg e2]
    by_cases e3:par k=par j
    ·rw[if_pos e3]
     have:=H.a k h0 h1 e
     unfold okAt at this
     rw[e3]at this
     exact bet_step this hb
    ·rw[if_neg e3]
     exact H.a k h0 h1 e
 ·intro k h0 h1 hk hi
  have hpp:par (par j)<par j:=by unfold par at*;omega
  rw[sw k,sw (par (par j)),if_neg (show ¬par (par j)=j by omega),if_neg (show ¬par (par j)=par j by omega)]
  have hq:bet (atL L (par j)) (atL L (par (par j)))=false:=H.a (par j) hi (by omega) (by omega)
  by_cases e:k=j
  ·rw[if_pos e]
   exact hq
  ·have hkp:k≠par j:=by
    intro e2
    rw[e2]at hk
    omega
   rw[if_neg e,if_neg hkp]
   have:=H.a k h0 h1 e
   unfold okAt at this
   rw[hk]at this
   exact bet_ntrans this hq
theorem DownW.done{L:List It}{n i0 i:Nat}(H:DownW L n i0 i)(h: ∀k,0<k→k<n→par k=i→okAt L k):(i≠i0→HeapN L n)∧(i=i0→UpW L n i0):=by
 constructor
 ·intro hi k h0 h1
  by_cases e:par k=i
  ·exact h k h0 h1 e
  ·exact H.a k h0 h1 e (Or.inr hi)
 ·intro hi
  subst hi
  refine⟨fun k h0 h1 hk=> ?_,H.b⟩
  by_cases e:par k=i
  ·exact h k h0 h1 e
  ·exact H.a k h0 h1 e (Or.inl hk)
theorem DownW.step{L:List It}{n i0 i j:Nat}(H:DownW L n i0 i)(hjn:j<n)(hn:n≤L.length)(hj:0<j)(hp:par j=i)(hb:bet (atL L j) (atL L i)=true)(hc: ∀k,0<k→k<n→par k=i→bet (atL L k) (atL L j)=false):DownW (swapL L i j) n i0 j:=by
 have hij:i<j:=by rw[←hp];unfold par;omega
 have sw:=atL_swap (L:=L) (i:=i) (j:=j) (by omega) (by omega)
 have le:=H.le
 refine⟨fun k h0 h1 hk _=> ?_,fun k h0 h1 hk _=> ?_,by omega⟩
 ·unfold okAt
  rw[sw k,sw (par k)]
  have hpk:par k<k:=by unfold par;omega
  rw[if_neg hk]
  by_cases e:k=j
  ·subst e
   rw[if_pos rfl,if_pos hp]
   exact bet_asym hb
  ·rw[if_neg e]
   by_cases e2:k=i
   ·subst e2
    rw[if_pos rfl,if_neg (by omega)]
    exact H.b j hj hjn hp h0
   ·rw[if_neg e2]
    by_cases e3:par k=i
    ·rw[if_pos e3]
     exact hc k h0 h1 e3
    ·rw[if_neg e3]
     exact H.a k h0 h1 e3 (Or.inl e2)
 ·have hpk:par k<k:=by unfold par;omega
  rw[sw k,sw (par j),if_neg (by omega),if_neg (by omega),hp,if_neg (by omega),if_pos rfl]
  have:=H.a k h0 h1 (by omega) (Or.inl (by omega))
  unfold okAt at this
  rw[hk]at this
  exact this
theorem up_begin{L:List It}{x:It}(H:HeapN L L.length):UpW (L++[x]) (L.length+1) L.length:=by
 have e: ∀k,k<L.length→atL (L++[x]) k=atL L k:=fun k hk=>by simp[atL,List.getD,List.getElem?_append_left hk]
 refine⟨fun k h0 h1 hk=> ?_,fun k h0 h1 hk _=> ?_⟩
 ·have hpk:par k<k:=by unfold par;omega
  unfold okAt
  rw[e k (by omega),e (par k) (by omega)]
  exact H k h0 (by omega)
 ·have hpk:par k<k:=by unfold par;omega
  omega
end
section
theorem F357.spec(a:Addr)(h:Heap)(K:KK)(H:ldS (rd h (a.add 0)) fun _ l2 _=>K (.int .i64 (Nat.cast l2:Int)) h):Cl 357 [.pointer (some a)] h K:=cN Tryz.func357 H
def F397.T:Hint:=⟨[],[(1,[[(0,[]),(1,[]),(2,[]),(3,[]),(4,[]),(5,[]),(6,[]),(7,[]),(8,[]),(9,[]),(10,[]),(11,[]),(12,[]),(13,[]),(14,[0,1,2,3,4,5,6,7,8,9,10,11,12,13]),(15,[0,1,2,3,4,5,6,7,8,9,10,11,12,13]),(16,[7,8,9,10,11,12,13]),(17,[])],[(0,[]),(1,[]),(2,[]),(3,[]),(4,[]),(5,[]),(6,[]),(7,[]),(8,[]),(9,[]),(10,[]),(11,[]),(12,[]),(13,[]),(15,[0,1,2,3,4,5,6,7,8,9,10,11,12,13]),(14,[0,1,2,3,4,5,6,7,8,9,10,11,12,13]),(16,[7,8,9,10,11,12,13]),(17,[])]])]⟩
theorem F397.spec(a:Addr)(c b:Int)(h:Heap)(K:KK)(H:(ldS (rd h (a.add 0)) (fun p1 l2 c3=>ptrK p1 fun a4=>0≤c∧c<(Nat.cast l2:Int)∧ldI .i64 (rd h ((a4.add (Int.toNat c*2)).add 0)) fun n5=>ldI .i64 (rd h ((a4.add (Int.toNat c*2)).add 1)) fun n6=>ldS (rd h (a.add 0)) fun p7 l8 c9=>ptrK p7 fun a10=>0≤b∧b<(Nat.cast l8:Int)∧ldI .i64 (rd h ((a10.add (Int.toNat b*2)).add 0)) fun n11=>ldI .i64 (rd h ((a10.add (Int.toNat b*2)).add 1)) fun n12=>newK h (.cells #[.int .i64 0,.int .i64 0] 357) fun b13 h14=>((.pointer (some a))=((.pointer (some a)):Value)∧((.pointer (some a))=((.pointer (some a)):Value)∧((.pointer (some (a.add 0)))=((.pointer (some (a.add 0))):Value)∧ldS (rd h14 (a.add 0)) fun p15 l16 c17=>((.slice p15 l16 c17)=((.slice p1 l2 c3):Value)∧((.int .i64 c)=((.int .i64 c):Value)∧ptrK p1 fun a18=>0≤c∧c<(Nat.cast l2:Int)∧((.pointer (some (a18.add (Int.toNat c*2))))=((.pointer (some (a4.add (Int.toNat c*2)))):Value)∧ldI .i64 (rd h14 ((a4.add (Int.toNat c*2)).add 0)) fun n19=>ldI .i64 (rd h14 ((a4.add (Int.toNat c*2)).add 1)) fun n20=>((.agg #[.int .i64 n19,.int .i64 n20])=((.agg #[.int .i64 n5,.int .i64 n6]):Value)∧((.pointer (some a))=((.pointer (some a)):Value)∧((.pointer (some a))=((.pointer (some a)):Value)∧((.pointer (some (a.add 0)))=((.pointer (some (a.add 0))):Value)∧ldS (rd h14 (a.add 0)) fun p21 l22 c23=>((.slice p21 l22 c23)=((.slice p7 l8 c9):Value)∧((.int .i64 b)=((.int .i64 b):Value)∧ptrK p7 fun a24=>0≤b∧b<(Nat.cast l8:Int)∧((.pointer (some (a24.add (Int.toNat b*2))))=((.pointer (some (a10.add (Int.toNat b*2)))):Value)∧ldI .i64 (rd h14 ((a10.add (Int.toNat b*2)).add 0)) fun n25=>ldI .i64 (rd h14 ((a10.add (Int.toNat b*2)).add 1)) fun n26=>((.agg #[.int .i64 n25,.int .i64 n26])=((.agg #[.int .i64 n11,.int .i64 n12]):Value)∧newK h14 (.cells #[.int .i64 0,.int .i64 0] 357) fun b27 h28=>((.pointer (some a))=((.pointer (some a)):Value)∧((.pointer (some a))=((.pointer (some a)):Value)∧((.pointer (some (a.add 0)))=((.pointer (some (a.add 0))):Value)∧ldS (rd h28 (a.add 0)) fun p29 l30 c31=>((.slice p29 l30 c31)=((.slice p1 l2 c3):Value)∧((.int .i64 c)=((.int .i64 c):Value)∧ptrK p1 fun a32=>0≤c∧c<(Nat.cast l2:Int)∧((.pointer (some (a32.add (Int.toNat c*2))))=((.pointer (some (a4.add (Int.toNat c*2)))):Value)∧ldI .i64 (rd h28 ((a4.add (Int.toNat c*2)).add 0)) fun n33=>ldI .i64 (rd h28 ((a4.add (Int.toNat c*2)).add 1)) fun n34=>((.agg #[.int .i64 n33,.int .i64 n34])=((.agg #[.int .i64 n5,.int .i64 n6]):Value)∧((.pointer (some a))=((.pointer (some a)):Value)∧((.pointer (some a))=((.pointer (some a)):Value)∧((.pointer (some (a.add 0)))=((.pointer (some (a.add 0))):Value)∧ldS (rd h28 (a.add 0)) fun p35 l36 c37=>((.slice p35 l36 c37)=((.slice p7 l8 c9):Value)∧((.int .i64 b)=((.int .i64 b):Value)∧ptrK p7 fun a38=>0≤b∧b<(Nat.cast l8:Int)∧((.pointer (some (a38.add (Int.toNat b*2))))=((.pointer (some (a10.add (Int.toNat b*2)))):Value)∧ldI .i64 (rd h28 ((a10.add (Int.toNat b*2)).add 0)) fun n39=>ldI .i64 (rd h28 ((a10.add (Int.toNat b*2)).add 1)) fun n40=>((.agg #[.int .i64 n39,.int .i64 n40])=((.agg #[.int .i64 n11,.int .i64 n12]):Value)∧stK h28 ((Addr.mk b13 0 none).add 0) (.int .i64 n5) fun h41=>stK h41 ((Addr.mk b13 0 none).add 1) (.int .i64 n6) fun h42=>((.pointer (some a))=((.pointer (some a)):Value)∧((.pointer (some a))=((.pointer (some a)):Value)∧((.pointer (some (a.add 0)))=((.pointer (some (a.add 0))):Value)∧ldS (rd h42 (a.add 0)) fun p43 l44 c45=>((.slice p43 l44 c45)=((.slice p7 l8 c9):Value)∧((.int .i64 b)=((.int .i64 b):Value)∧ptrK p7 fun a46=>0≤b∧b<(Nat.cast l8:Int)∧((.pointer (some (a46.add (Int.toNat b*2))))=((.pointer (some (a10.add (Int.toNat b*2)))):Value)∧ldI .i64 (rd h42 ((a10.add (Int.toNat b*2)).add 0)) fun n47=>ldI .i64 (rd h42 ((a10.add (Int.toNat b*2)).add 1)) fun n48=>((.agg #[.int .i64 n47,.int .i64 n48])=((.agg #[.int .i64 n11,.int .i64 n12]):Value)∧stK h42 ((Addr.mk b27 0 none).add 0) (.int .i64 n11) fun h49=>stK h49 ((Addr.mk b27 0 none).add 1) (.int .i64 n12) fun h50=>ldI .i64 (rd h50 ((Addr.mk b13 0 none).add 1)) fun n51=>ldI .i64 (rd h50 ((Addr.mk b27 0 none).add 1)) fun n52=>bcase (decide (n51>n52)) (K (.bool true) h50) (ldI .i64 (rd h50 ((Addr.mk b13 0 none).add 1)) fun n53=>ldI .i64 (rd h50 ((Addr.mk b27 0 none).add 1)) fun n54=>bcase (n53==n54) (ldI .i64 (rd h50 ((Addr.mk b13 0 none).add 0)) fun n55=>ldI .i64 (rd h50 ((Addr.mk b27 0 none).add 0)) fun n56=>K (.bool (decide (n55<n56))) h50) (K (.bool false) h50))))))))))))))))))))))))))))))))))))))∧ldS (rd h (a.add 0)) fun p57 l58 c59=>ptrK p57 fun a60=>0≤c∧c<(Nat.cast l58:Int)∧ldI .i64 (rd h ((a60.add (Int.toNat c*2)).add 0)) fun n61=>ldI .i64 (rd h ((a60.add (Int.toNat c*2)).add 1)) fun n62=>ldS (rd h (a.add 0)) fun p63 l64 c65=>ptrK p63 fun a66=>0≤b∧b<(Nat.cast l64:Int)∧ldI .i64 (rd h ((a66.add (Int.toNat b*2)).add 0)) fun n67=>ldI .i64 (rd h ((a66.add (Int.toNat b*2)).add 1)) fun n68=>newK h (.cells #[.int .i64 0,.int .i64 0] 357) fun b69 h70=>((.pointer (some a))=((.pointer (some a)):Value)∧((.pointer (some a))=((.pointer (some a)):Value)∧((.pointer (some (a.add 0)))=((.pointer (some (a.add 0))):Value)∧ldS (rd h70 (a.add 0)) fun p71 l72 c73=>((.slice p71 l72 c73)=((.slice p57 l58 c59):Value)∧((.int .i64 c)=((.int .i64 c):Value)∧ptrK p57 fun a74=>0≤c∧c<(Nat.cast l58:Int)∧((.pointer (some (a74.add (Int.toNat c*2))))=((.pointer (some (a60.add (Int.toNat c*2)))):Value)∧ldI .i64 (rd h70 ((a60.add (Int.toNat c*2)).add 0)) fun n75=>ldI .i64 (rd h70 ((a60.add (Int.toNat c*2)).add 1)) fun n76=>((.agg #[.int .i64 n75,.int .i64 n76])=((.agg #[.int .i64 n61,.int .i64 n62]):Value)∧((.pointer (some a))=((.pointer (some a)):Value)∧((.pointer (some a))=((.pointer (some a)):Value)∧((.pointer (some (a.add 0)))=((.pointer (some (a.add 0))):Value)∧ldS (rd h70 (a.add 0)) fun p77 l78 c79=>((.slice p77 l78 c79)=((.slice p63 l64 c65):Value)∧((.int .i64 b)=((.int .i64 b):Value)∧ptrK p63 fun a80=>0≤b∧b<(Nat.cast l64:Int)∧((.pointer (some (a80.add (Int.toNat b*2))))=((.pointer (some (a66.add (Int.toNat b*2)))):Value)∧ldI .i64 (rd h70 ((a66.add (Int.toNat b*2)).add 0)) fun n81=>ldI .i64 (rd h70 ((a66.add (Int.toNat b*2)).add 1)) fun n82=>((.agg #[.int .i64 n81,.int .i64 n82])=((.agg #[.int .i64 n67,.int .i64 n68]):Value)∧newK h70 (.cells #[.int .i64 0,.int .i64 0] 357) fun b83 h84=>((.pointer (some a))=((.pointer (some a)):Value)∧((.pointer (some a))=((.pointer (some a)):Value)∧((.pointer (some (a.add 0)))=((.pointer (some (a.add 0))):Value)∧ldS (rd h84 (a.add 0)) fun p85 l86 c87=>((.slice p85 l86 c87)=((.slice p57 l58 c59):Value)∧((.int .i64 c)=((.int .i64 c):Value)∧ptrK p57 fun a88=>0≤c∧c<(Nat.cast l58:Int)∧((.pointer (some (a88.add (Int.toNat c*2))))=((.pointer (some (a60.add (Int.toNat c*2)))):Value)∧ldI .i64 (rd h84 ((a60.add (Int.toNat c*2)).add 0)) fun n89=>ldI .i64 (rd h84 ((a60.add (Int.toNat c*2)).add 1)) fun n90=>((.agg #[.int .i64 n89,.int .i64 n90])=((.agg #[.int .i64 n61,.int .i64 n62]):Value)∧((.pointer (some a))=((.pointer (some a)):Value)∧((.pointer (some a))=((.pointer (some a)):Value)∧((.pointer (some (a.add 0)))=((.pointer (some (a.add 0))):Value)∧ldS (rd h84 (a.add 0)) fun p91 l92 c93=>((.slice p91 l92 c93)=((.slice p63 l64 c65):Value)∧((.int .i64 b)=((.int .i64 b):Value)∧ptrK p63 fun a94=>0≤b∧b<(Nat.cast l64:Int)∧((.pointer (some (a94.add (Int.toNat b*2))))=((.pointer (some (a66.add (Int.toNat b*2)))):Value)∧ldI .i64 (rd h84 ((a66.add (Int.toNat b*2)).add 0)) fun n95=>ldI .i64 (rd h84 ((a66.add (Int.toNat b*2)).add 1)) fun n96=>((.agg #[.int .i64 n95,.int .i64 n96])=((.agg #[.int .i64 n67,.int .i64 n68]):Value)∧stK h84 ((Addr.mk b83 0 none).add 0) (.int .i64 n61) fun h97=>stK h97 ((Addr.mk b83 0 none).add 1) (.int .i64 n62) fun h98=>((.pointer (some a))=((.pointer (some a)):Value)∧((.pointer (some a))=((.pointer (some a)):Value)∧((.pointer (some (a.add 0)))=((.pointer (some (a.add 0))):Value)∧ldS (rd h98 (a.add 0)) fun p99 l100 c101=>((.slice p99 l100 c101)=((.slice p63 l64 c65):Value)∧((.int .i64 b)=((.int .i64 b):Value)∧ptrK p63 fun a102=>0≤b∧b<(Nat.cast l64:Int)∧((.pointer (some (a102.add (Int.toNat b*2))))=((.pointer (some (a66.add (Int.toNat b*2)))):Value)∧ldI .i64 (rd h98 ((a66.add (Int.toNat b*2)).add 0)) fun n103=>ldI .i64 (rd h98 ((a66.add (Int.toNat b*2)).add 1)) fun n104=>((.agg #[.int .i64 n103,.int .i64 n104])=((.agg #[.int .i64 n67,.int .i64 n68]):Value)∧stK h98 ((Addr.mk b69 0 none).add 0) (.int .i64 n67) fun h105=>stK h105 ((Addr.mk b69 0 none).add 1) (.int .i64 n68) fun h106=>ldI .i64 (rd h106 ((Addr.mk b83 0 none).add 1)) fun n107=>ldI .i64 (rd h106 ((Addr.mk b69 0 none).add 1)) fun n108=>bcase (decide (n107>n108)) (K (.bool true) h106) (ldI .i64 (rd h106 ((Addr.mk b83 0 none).add 1)) fun n109=>ldI .i64 (rd h106 ((Addr.mk b69 0 none).add 1)) fun n110=>bcase (n109==n110) (ldI .i64 (rd h106 ((Addr.mk b83 0 none).add 0)) fun n111=>ldI .i64 (rd h106 ((Addr.mk b69 0 none).add 0)) fun n112=>K (.bool (decide (n111<n112))) h106) (K (.bool false) h106))))))))))))))))))))))))))))))))))))))):Cl 397 [.pointer (some a),.int .i64 c,.int .i64 b] h K:=cT F397.T Tryz.func397 H
def F398.T:Hint:=⟨[],[(4,[[(0,[]),(1,[]),(2,[]),(3,[]),(4,[]),(5,[]),(6,[])]])]⟩
theorem F398.spec(b:Addr)(h:Heap)(K:KK)(H:ldS (rd h (b.add 0)) fun _ l2 _=>ldS (rd h (b.add 0)) fun p4 l5 _=>ptrK p4 fun a7=>0≤(IntKind.wrap .i64 ((Nat.cast l2:Int)-(1:Int)))∧(IntKind.wrap .i64 ((Nat.cast l2:Int)-(1:Int)))<(Nat.cast l5:Int)∧ldI .i64 (rd h ((a7.add (Int.toNat (IntKind.wrap .i64 ((Nat.cast l2:Int)-(1:Int)))*2)).add 0)) fun n8=>ldI .i64 (rd h ((a7.add (Int.toNat (IntKind.wrap .i64 ((Nat.cast l2:Int)-(1:Int)))*2)).add 1)) fun n9=>newK h (.cells #[.int .i64 0,.int .i64 0] 357) fun b10 h11=>stK h11 ((Addr.mk b10 0 none).add 0) (.int .i64 n8) fun h12=>stK h12 ((Addr.mk b10 0 none).add 1) (.int .i64 n9) fun h13=>ldS (rd h13 (b.add 0)) fun p14 _ c16=>0≤(IntKind.wrap .i64 ((Nat.cast l2:Int)-(1:Int)))∧(IntKind.wrap .i64 ((Nat.cast l2:Int)-(1:Int)))≤(Nat.cast c16:Int)∧stK h13 ((b.add 0).add 0) (.slice (if c16=0 then p14 else Option.map (fun a=>Addr.add a (0*2)) p14) (Int.toNat (IntKind.wrap .i64 ((Nat.cast l2:Int)-(1:Int)))-0) (c16-0)) fun h17=>ldM (rd h17 (b.add 1)) fun r18=>ldI .i64 (rd h17 ((Addr.mk b10 0 none).add 0)) fun n19=>delK h17 r18 .i64 .i64 n19 fun h20=>ldI .i64 (rd h20 ((Addr.mk b10 0 none).add 0)) fun n21=>ldI .i64 (rd h20 ((Addr.mk b10 0 none).add 1)) fun n22=>K (.iface 357 (.agg #[.int .i64 n21,.int .i64 n22])) h20):Cl 398 [.pointer (some b)] h K:=cT F398.T Tryz.func398 H
def F399.T:Hint:=⟨[],[(1,[[(0,[]),(1,[]),(2,[]),(3,[]),(4,[]),(5,[]),(6,[]),(7,[]),(8,[]),(9,[]),(10,[]),(11,[])]]),(2,[[(0,[]),(1,[]),(2,[]),(3,[]),(4,[]),(5,[]),(6,[0,1,2,3,4]),(7,[0]),(8,[]),(9,[]),(10,[])]])]⟩
theorem F399.spec(a:Addr)(b c:Int)(h:Heap)(K:KK)(H:newK h (.cells #[.int .i64 0,.int .i64 0] 357) fun b1 h2=>stK h2 ((Addr.mk b1 0 none).add 0) (.int .i64 b) fun h3=>stK h3 ((Addr.mk b1 0 none).add 1) (.int .i64 c) fun h4=>ldM (rd h4 (a.add 1)) fun r5=>ldI .i64 (rd h4 ((Addr.mk b1 0 none).add 0)) fun n6=>ldS (rd h4 (a.add 0)) fun _ l8 _=>updK h4 r5 .i64 .i64 n6 (.int .i64 (Nat.cast l8:Int)) fun h10=>ldS (rd h10 (a.add 0)) fun p11 l12 c13=>ldI .i64 (rd h10 ((Addr.mk b1 0 none).add 0)) fun n14=>ldI .i64 (rd h10 ((Addr.mk b1 0 none).add 1)) fun n15=>newK h10 (.cells #[.int .i64 n14,.int .i64 n15] 357) fun b16 h17=>((.pointer (some a))=((.pointer (some a)):Value)∧((.pointer (some a))=((.pointer (some a)):Value)∧((.pointer (some a))=((.pointer (some a)):Value)∧((.pointer (some (a.add 0)))=((.pointer (some (a.add 0))):Value)∧ldS (rd h17 (a.add 0)) fun p18 l19 c20=>((.slice p18 l19 c20)=((.slice p11 l12 c13):Value)∧appK h17 357 2 16 #[.int .i64 0,.int .i64 0] p11 l12 c13 (some (Addr.mk b16 0 none)) 1 fun p21 l22 c23 h24=>((.pointer (some a))=((.pointer (some a)):Value)∧stK h24 ((a.add 0).add 0) (.slice p21 l22 c23) fun h25=>K (.tuple #[]) h25))))))):Cl 399 [.pointer (some a),.iface 357 (.agg #[.int .i64 b,.int .i64 c])] h K:=cT F399.T Tryz.func399 H
def F400.T:Hint:=⟨[],[(0,[[(0,[]),(1,[]),(2,[]),(3,[]),(4,[]),(5,[]),(6,[]),(7,[]),(8,[]),(9,[]),(10,[]),(11,[]),(12,[]),(13,[]),(14,[]),(15,[]),(16,[]),(17,[]),(18,[]),(19,[]),(20,[]),(21,[]),(22,[]),(23,[]),(24,[]),(25,[9]),(26,[]),(27,[])]]),(1,[[(0,[]),(1,[]),(2,[]),(3,[]),(4,[]),(5,[]),(6,[]),(7,[]),(8,[]),(9,[]),(10,[]),(11,[]),(12,[]),(13,[]),(14,[]),(15,[]),(16,[]),(17,[]),(18,[]),(19,[]),(20,[]),(21,[]),(22,[]),(23,[]),(24,[]),(25,[]),(26,[24,25]),(27,[]),(28,[25]),(29,[25]),(30,[]),(31,[])]])]⟩
theorem F400.spec(c:Addr)(b a:Int)(h:Heap)(K:KK)(H:ldS (rd h (c.add 0)) fun p1 l2 _=>ldS (rd h (c.add 0)) fun p4 l5 _=>ldS (rd h (c.add 0)) fun p7 l8 _=>ptrK p7 fun a10=>0≤a∧a<(Nat.cast l8:Int)∧ldI .i64 (rd h ((a10.add (Int.toNat a*2)).add 0)) fun n11=>ldI .i64 (rd h ((a10.add (Int.toNat a*2)).add 1)) fun n12=>ldS (rd h (c.add 0)) fun p13 l14 _=>ptrK p13 fun a16=>0≤b∧b<(Nat.cast l14:Int)∧ldI .i64 (rd h ((a16.add (Int.toNat b*2)).add 0)) fun n17=>ldI .i64 (rd h ((a16.add (Int.toNat b*2)).add 1)) fun n18=>ptrK p1 fun a19=>0≤b∧b<(Nat.cast l2:Int)∧stK h ((a19.add (Int.toNat b*2)).add 0) (.int .i64 n11) fun h20=>stK h20 ((a19.add (Int.toNat b*2)).add 1) (.int .i64 n12) fun h21=>((.int .i64 a)=((.int .i64 a):Value)∧ptrK p4 fun a22=>0≤a∧a<(Nat.cast l5:Int)∧stK h21 ((a22.add (Int.toNat a*2)).add 0) (.int .i64 n17) fun h23=>stK h23 ((a22.add (Int.toNat a*2)).add 1) (.int .i64 n18) fun h24=>ldM (rd h24 (c.add 1)) fun r25=>ldS (rd h24 (c.add 0)) fun p26 l27 _=>ptrK p26 fun a29=>0≤b∧b<(Nat.cast l27:Int)∧ldI .i64 (rd h24 ((a29.add (Int.toNat b*2)).add 0)) fun n30=>ldM (rd h24 (c.add 1)) fun r31=>ldS (rd h24 (c.add 0)) fun p32 l33 _=>ptrK p32 fun a35=>0≤a∧a<(Nat.cast l33:Int)∧ldI .i64 (rd h24 ((a35.add (Int.toNat a*2)).add 0)) fun n36=>entK h24 r25 .i64 .i64 n30 (.int .i64 0) fun v38 s39 h37=>ldI .i64 (some v38) fun _=>((.int .i64 b)=((.int .i64 b):Value)∧((.int .i64 a)=((.int .i64 a):Value)∧estK h37 r25 s39 (.int .i64 b) fun h41=>((.int .i64 a)=((.int .i64 a):Value)∧entK h41 r31 .i64 .i64 n36 (.int .i64 0) fun v43 s44 h42=>ldI .i64 (some v43) fun _=>((.int .i64 a)=((.int .i64 a):Value)∧estK h42 r31 s44 (.int .i64 a) fun h46=>K (.tuple #[]) h46)))))):Cl 400 [.pointer (some c),.int .i64 b,.int .i64 a] h K:=cT F400.T Tryz.func400 H
def F339.T:Hint:=⟨[(0,[0,1])],[]⟩
section
variable (n:Nat)(b:Addr)(a:Int)(h:Heap)(K:KK)
def F339.wL0:Prop:=Lp Tryz.f339 F339.T [0] n [(0,(.iface 370 (.pointer (some b)))),(1,(.int .i64 a))] h K
theorem F339.sL0:F339.wL0 (n+1) b a h K=(((2:Int)≠0∧bcase ((IntKind.wrap .i64 (Int.tdiv (IntKind.wrap .i64 (a-(1:Int))) (2:Int)))==a) (K (.tuple #[]) h) (Cl 397 [.pointer (some b),.int .i64 a,.int .i64 (IntKind.wrap .i64 (Int.tdiv (IntKind.wrap .i64 (a-(1:Int))) (2:Int)))] h fun v1 h2=>ldB (some v1) fun b3=>bcase (!b3) (K (.tuple #[]) h2) (Cl 400 [.pointer (some b),.int .i64 (IntKind.wrap .i64 (Int.tdiv (IntKind.wrap .i64 (a-(1:Int))) (2:Int))),.int .i64 a] h2 fun v4 h5=>v4=(.tuple #[])∧F339.wL0 n b (IntKind.wrap .i64 (Int.tdiv (IntKind.wrap .i64 (a-(1:Int))) (2:Int))) h5 K)))):=by kernel_rfl
theorem F339.spec(H:(∃m,F339.wL0 m b a h K)):Cl 339 [.iface 370 (.pointer (some b)),.int .i64 a] h K:=cT F339.T Tryz.func339 H
end
def F358.T:Hint:=⟨[(2,[0,1,2,7]),(8,[0,1,2,7,9]),(11,[1,7])],[]⟩
section
variable (bk2:Addr→Int→Int→Int→Heap→Prop)(n:Nat)(c:Addr)(b d a f:Int)(h:Heap)(K:KK)
def F358.wk11:Prop:=K (.bool (decide (a>b))) h
def F358.wk8:Prop:=Cl 397 [.pointer (some c),.int .i64 f,.int .i64 a] h fun v1 h2=>ldB (some v1) fun b3=>bcase (!b3) (F358.wk11 b a h2 K) (Cl 400 [.pointer (some c),.int .i64 a,.int .i64 f] h2 fun v4 h5=>v4=(.tuple #[])∧bk2 c b d f h5)
def F358.wL2:Prop:=Lp Tryz.f358 F358.T [1,1,0,0] n [(0,(.iface 370 (.pointer (some c)))),(1,(.int .i64 b)),(2,(.int .i64 d)),(7,(.int .i64 a))] h K
theorem F358.sL2:F358.wL2 (n+1) c b d a h K=(bcase (decide ((IntKind.wrap .i64 ((IntKind.wrap .i64 ((2:Int)*a))+(1:Int)))≥d)) (F358.wk11 b a h K) (bcase (decide ((IntKind.wrap .i64 ((IntKind.wrap .i64 ((2:Int)*a))+(1:Int)))<(0:Int))) (F358.wk11 b a h K) (bcase (decide ((IntKind.wrap .i64 ((IntKind.wrap .i64 ((IntKind.wrap .i64 ((2:Int)*a))+(1:Int)))+(1:Int)))<d)) (Cl 397 [.pointer (some c),.int .i64 (IntKind.wrap .i64 ((IntKind.wrap .i64 ((IntKind.wrap .i64 ((2:Int)*a))+(1:Int)))+(1:Int))),.int .i64 (IntKind.wrap .i64 ((IntKind.wrap .i64 ((2:Int)*a))+(1:Int)))] h fun v1 h2=>ldB (some v1) fun b3=>bcase b3 (F358.wk8 (fun c b d a h=>F358.wL2 n c b d a h K) c b d a (IntKind.wrap .i64 ((IntKind.wrap .i64 ((IntKind.wrap .i64 ((2:Int)*a))+(1:Int)))+(1:Int))) h2 K) (F358.wk8 (fun c b d a h=>F358.wL2 n c b d a h K) c b d a (IntKind.wrap .i64 ((IntKind.wrap .i64 ((2:Int)*a))+(1:Int))) h2 K)) (F358.wk8 (fun c b d a h=>F358.wL2 n c b d a h K) c b d a (IntKind.wrap .i64 ((IntKind.wrap .i64 ((2:Int)*a))+(1:Int))) h K)))):=by kernel_rfl
def F358.wk2:Prop:=(∃m,F358.wL2 m c b d a h K)
theorem F358.spec(H:F358.wk2 c b d b h K):Cl 358 [.iface 370 (.pointer (some c)),.int .i64 b,.int .i64 d] h K:=cT F358.T Tryz.func358 H
end
theorem F341.spec(a:Addr)(h:Heap)(K:KK)(H:Cl 357 [.pointer (some a)] h fun v1 h2=>ldI .i64 (some v1) fun n3=>Cl 400 [.pointer (some a),.int .i64 0,.int .i64 (IntKind.wrap .i64 (n3-(1:Int)))] h2 fun v4 h5=>v4=(.tuple #[])∧Cl 358 [.iface 370 (.pointer (some a)),.int .i64 0,.int .i64 (IntKind.wrap .i64 (n3-(1:Int)))] h5 fun v6 h7=>ldB (some v6) fun _=>Cl 398 [.pointer (some a)] h7 fun v9 h10=>ldV (some v9) fun v11=>K v11 h10):Cl 341 [.iface 370 (.pointer (some a))] h K:=cN Tryz.func341 H
theorem F309.spec(c:Addr)(a b:Int)(h:Heap)(K:KK)(H:Cl 399 [.pointer (some c),.iface 357 (.agg #[.int .i64 a,.int .i64 b])] h fun v1 h2=>v1=(.tuple #[])∧Cl 357 [.pointer (some c)] h2 fun v3 h4=>ldI .i64 (some v3) fun n5=>Cl 339 [.iface 370 (.pointer (some c)),.int .i64 (IntKind.wrap .i64 (n5-(1:Int)))] h4 fun v6 h7=>v6=(.tuple #[])∧K (.tuple #[]) h7):Cl 309 [.iface 370 (.pointer (some c)),.iface 357 (.agg #[.int .i64 a,.int .i64 b])] h K:=cN Tryz.func309 H
theorem F288.spec(h:Heap)(K:KK)(H:newK h (.map #[] 0) fun b1 h2=>newK h2 (.cells #[.slice none 0 0,.map (some b1)] 374) fun b3 h4=>newK h4 (.cells #[.pointer (some (Addr.mk b3 0 none))] 376) fun b5 h6=>K (.pointer (some (Addr.mk b5 0 none))) h6):Cl 288 [] h K:=cN Tryz.func288 H
theorem F289.spec(a:Addr)(b c:Int)(h:Heap)(K:KK)(H:ldP (rd h (a.add 0)) fun p1=>ptrK p1 fun a2=>ldM (rd h (a2.add 1)) fun r3=>lookK h r3 .i64 .i64 b fun o4=>ldI .i64 (some (lkV (.int .i64 0) o4)) fun _=>bcase (Option.isSome o4) (K (.bool false) h) (ldP (rd h (a.add 0)) fun p6=>Cl 309 [.iface 370 (.pointer p6),.iface 357 (.agg #[.int .i64 b,.int .i64 c])] h fun v7 h8=>v7=(.tuple #[])∧K (.bool true) h8)):Cl 289 [.pointer (some a),.int .i64 b,.int .i64 c] h K:=cN Tryz.func289 H
theorem F340.spec(a:Addr)(h:Heap)(K:KK)(H:ldP (rd h (a.add 0)) fun p1=>Cl 357 [.pointer p1] h fun v2 h3=>ldI .i64 (some v2) fun n4=>K (.int .i64 n4) h3):Cl 340 [.pointer (some a)] h K:=cN Tryz.func340 H
theorem F311.spec(a:Addr)(h:Heap)(K:KK)(H:newK h (.cells #[.int .i64 0,.int .i64 0] 357) fun b1 h2=>ldP (rd h2 (a.add 0)) fun p3=>Cl 341 [.iface 370 (.pointer p3)] h2 fun v4 h5=>ldV (some v4) fun v6=>assertE Tryz.prog 357 false v6 fun v7=>storeE Tryz.prog 357 (some (Addr.mk b1 0 none)) v7 h5 fun h8=>ldI .i64 (rd h8 ((Addr.mk b1 0 none).add 0)) fun n9=>ldI .i64 (rd h8 ((Addr.mk b1 0 none).add 1)) fun n10=>K (.agg #[.int .i64 n9,.int .i64 n10]) h8):Cl 311 [.pointer (some a)] h K:=cN Tryz.func311 H
end
section
def flat:List It→List Value
 | []=> []
 |x::L=> .int .i64 x.1:: .int .i64 x.2::flat L
theorem flat_len: ∀(L:List It),(flat L).length=L.length*2
 | []=>rfl
 |x::L=>by simp[flat,flat_len L];omega
theorem flat_get0: ∀{L:List It} {i:Nat},i<L.length→(flat L)[i*2]? =some (.int .i64 (atL L i).1)
 |x::L,0,_=>rfl
 |x::L,i+1,h=>by
  rw[show(i+1)*2=i*2+1+1 by omega]
  simp only[flat,List.getElem?_cons_succ]
  rw[flat_get0 (by simpa using h)]
  rfl
theorem flat_get1: ∀{L:List It} {i:Nat},i<L.length→(flat L)[i*2+1]? =some (.int .i64 (atL L i).2)
 |x::L,0,_=>rfl
 |x::L,i+1,h=>by
  rw[show(i+1)*2+1=i*2+1+1+1 by omega]
  simp only[flat,List.getElem?_cons_succ]
  rw[flat_get1 (by simpa using h)]
  rfl
theorem flat_app: ∀(L M:List It),flat (L++M)=flat L++flat M
 | [],M=>rfl
 |x::L,M=>by simp[flat,flat_app L M]
theorem flat_set0: ∀(L:List It) (i:Nat) (v:Int),(flat L).set (i*2) (.int .i64 v)=flat (L.set i (v,(atL L i).2))
 | [],_,_=>by simp[flat]
 |x::L,0,v=>rfl
 |x::L,i+1,v=>by
  rw[show(i+1)*2=i*2+1+1 by omega]
  simp only[flat,List.set_cons_succ]
  rw[flat_set0 L i v]
  rfl
theorem flat_set1: ∀(L:List It) (i:Nat) (v:Int),(flat L).set (i*2+1) (.int .i64 v)=flat (L.set i ((atL L i).1,v))
 | [],_,_=>by simp[flat]
 |x::L,0,v=>rfl
 |x::L,i+1,v=>by
  rw[show(i+1)*2+1=i*2+1+1+1 by omega]
  simp only[flat,List.set_cons_succ]
  rw[flat_set1 L i v]
  rfl
theorem ldM_some'{x:Option Value}{K:Option Nat→Prop}{n:Option Nat}(hx:x=some (.map n))(hK:K n):ldM x K:=⟨n,hx,hK⟩
def MapF(h:Heap)(b:Nat)(f:Int→Option Nat):Prop:= ∃m,MapM h b .i64 m∧ ∀x,m.lookup x=(f x).map fun i=> .int .i64 (i:Int)
theorem MapF.only{S:List Nat}{h h':Heap}{b:Nat}{f:Int→Option Nat}(H:MapF h b f)(O:Only S h h')(hb:b∉S):MapF h' b f:=by
 obtain⟨m,h1,h2⟩:=H
 exact⟨m,h1.only O hb,h2⟩
def AtOk(L:List It)(f:Int→Option Nat):Prop:= ∀id i,f id=some i↔i<L.length∧(atL L i).1=id
structure Pile(h:Heap)(lo pi mb:Nat)(p:Option Addr)(c:Nat)(L:List It):Prop where
 at_:At h pi [.slice p L.length c,.map (some mb)]
 own:Own h lo 2 p L.length c (flat L)
 map: ∃f,MapF h mb f∧AtOk L f
 sep:lo≤pi∧lo≤mb∧pi∉OwnB p∧mb∉OwnB p∧pi≠mb
theorem Pile.only{S:List Nat}{h h':Heap}{lo pi mb:Nat}{p:Option Addr}{c:Nat}{L:List It}(H:Pile h lo pi mb p c L)(O:Only S h h')(h1:pi∉S)(h2:mb∉S)(h3: ∀b∈OwnB p,b∉S):Pile h' lo pi mb p c L:=by
 obtain⟨a,b,⟨f,d,e⟩,g⟩:=H
 exact⟨a.only O h1,b.only O fun x hx=>h3 x (by rw[hx];simp[OwnB]),⟨f,d.only O h2,e⟩,g⟩
theorem Pile.lt{h:Heap}{lo pi mb:Nat}{p:Option Addr}{c:Nat}{L:List It}(H:Pile h lo pi mb p c L):pi<h.size∧mb<h.size∧ ∀b∈OwnB p,lo≤b∧b<h.size:=by
 obtain⟨a,b,⟨f,⟨m,d,-⟩,e⟩,g⟩:=H
 exact⟨a.lt,d.lt,b.lt⟩
section
variable {h:Heap}{lo pi mb:Nat}{p:Option Addr}{c:Nat}{L:List It}{K:Value→Heap→Prop}{i j:Nat}
theorem len52(P:Pile h lo pi mb p c L)(hK:K (.int .i64 (L.length:Int)) h):Cl 357 [.pointer (some ⟨pi,0,none⟩)] h K:=by
 apply F357.spec
 rw[add_mk]
 exact ldS_of (by rw[P.at_.rd];rfl) hK
theorem less87(P:Pile h lo pi mb p c L)(hi:i<L.length)(hj:j<L.length)(hK: ∀h',Pile h' lo pi mb p c L→Only [] h h'→K (.bool (bet (atL L i) (atL L j))) h'):
  Cl 397 [.pointer (some ⟨pi,0,none⟩),.int .i64 (i:Int),.int .i64 (j:Int)] h K:=by
 apply F397.spec
 obtain⟨b,ep,-⟩:=P.own.rd (j:=i*2) (by rw[flat_len];omega)
 subst ep
 have R: ∀h',Pile h' lo pi mb (some ⟨b,0,none⟩) c L→rd h' ⟨pi,0,none⟩=some (.slice (some ⟨b,0,none⟩) L.length c)∧rd h' ⟨b,i*2,none⟩=some (.int .i64 (atL L i).1)∧rd h' ⟨b,i*2+1,none⟩=some (.int .i64 (atL L i).2)∧rd h' ⟨b,j*2,none⟩=some (.int .i64 (atL L j).1)∧rd h' ⟨b,j*2+1,none⟩=some (.int .i64 (atL L j).2):=by
  intro h' P'
  have e: ∀k,k<L.length*2→rd h' ⟨b,k,none⟩=(flat L)[k]? :=by
   intro k hk
   obtain⟨b',e1,e2⟩:=P'.own.rd (j:=k) (by rw[flat_len];omega)
   injection e1 with e1
   injection e1 with e1
   subst e1
   exact e2
  refine⟨by rw[P'.at_.rd];rfl,?_,?_,?_,?_⟩
  ·rw[e _ (by omega),flat_get0 hi]
  ·rw[e _ (by omega),flat_get1 hi]
  ·rw[e _ (by omega),flat_get0 hj]
  ·rw[e _ (by omega),flat_get1 hj]
 have i0:(0:Int)≤(i:Int):=by omega
 have i1:(i:Int)<(L.length:Int):=by omega
 have j0:(0:Int)≤(j:Int):=by omega
 have j1:(j:Int)<(L.length:Int):=by omega
 have new: ∀{h h1:Heap} (P:Pile h lo pi mb (some ⟨b,0,none⟩) c L) (O:Only [] h h1),Pile h1 lo pi mb (some ⟨b,0,none⟩) c L:=fun P O=>P.only O (by simp) (by simp) (by simp)
 have st: ∀{h h1:Heap} {x:Nat} (P:Pile h lo pi mb (some ⟨b,0,none⟩) c L) (O:Only [x] h h1),pi≠x→mb≠x→b≠x→Pile h1 lo pi mb (some ⟨b,0,none⟩) c L:=fun P O h1 h2 h3=>P.only O (by simpa using h1) (by simpa using h2) (by simpa[OwnB]using h3)
 have lt:=P.lt
 have ltb:=(lt.2.2 b (by simp[OwnB])).2
 simp only[add_mk,Nat.zero_add,Nat.add_zero,Int.toNat_natCast]
 obtain⟨r0,r1,r2,r3,r4⟩:=R h P
 simp only[r0,r1,r2,r3,r4,ldS_some,ptrK_some,ldI_some,i0,i1,j0,j1,true_and,add_mk,Nat.zero_add,Nat.add_zero]
 constructor
 ·refine newK_at fun h1 A1 O1 z1=> ?_
  have P1:=new P O1
  obtain⟨r0,r1,r2,r3,r4⟩:=R h1 P1
  simp only[r0,r1,r2,r3,r4,ldS_some,ldI_some,true_and]
  refine newK_at fun h2 A2 O2 z2=> ?_
  have P2:=new P1 O2
  obtain⟨r0,r1,r2,r3,r4⟩:=R h2 P2
  simp only[r0,r1,r2,r3,r4,ldS_some,ldI_some,true_and]
  refine stK_at (A1.only O2 (by simp)) (by simp) rfl fun h3 A3 O3 z3=>stK_at A3 (by simp) rfl fun h4 A4 O4 z4=> ?_
  have O34:=O3.trans O4 (by simp)
  have P4:=st P2 O34 (by omega) (by omega) (by omega)
  obtain⟨r0,-,-,r3,r4⟩:=R h4 P4
  simp only[r0,r3,r4,ldS_some,ldI_some,true_and]
  refine stK_at (A2.only O34 (by simp;omega)) (by simp) rfl fun h5 A5 O5 z5=>stK_at A5 (by simp) rfl fun h6 A6 O6 z6=> ?_
  have O56:=O5.trans O6 (by simp)
  have P6:=st P4 O56 (by omega) (by omega) (by omega)
  have A4':=A4.only O56 (by simp;omega)
  have fin:=hK h6 P6 ((((O1.trans O2 (by simp)).nil O34 (by simp)).nil O56 (by simp;omega)))
  refine ldI_of (n:=(atL L i).2) (by rw[A4'.rd];rfl) (ldI_of (n:=(atL L j).2) (by rw[A6.rd];rfl) (bcase_of (fun e=> ?_) fun e=>ldI_of (n:=(atL L i).2) (by rw[A4'.rd];rfl) (ldI_of (n:=(atL L j).2) (by rw[A6.rd];rfl) (bcase_of (fun e2=>ldI_of (n:=(atL L i).1) (by rw[A4'.rd];rfl) (ldI_of (n:=(atL L j).1) (by rw[A6.rd];rfl) ?_)) fun e2=> ?_))))
  ·unfold bet at fin
   rw[e,Bool.true_or]at fin
   exact fin
  ·unfold bet at fin
   rw[e,Bool.false_or,e2,Bool.true_and]at fin
   exact fin
  ·unfold bet at fin
   rw[e,Bool.false_or,e2,Bool.false_and]at fin
   exact fin
 ·refine newK_at fun h1 A1 O1 z1=> ?_
  have P1:=new P O1
  obtain⟨r0,r1,r2,r3,r4⟩:=R h1 P1
  simp only[r0,r1,r2,r3,r4,ldS_some,ldI_some,true_and]
  refine newK_at fun h2 A2 O2 z2=> ?_
  have P2:=new P1 O2
  obtain⟨r0,r1,r2,r3,r4⟩:=R h2 P2
  simp only[r0,r1,r2,r3,r4,ldS_some,ldI_some,true_and]
  refine stK_at A2 (by simp) rfl fun h3 A3 O3 z3=>stK_at A3 (by simp) rfl fun h4 A4 O4 z4=> ?_
  have O34:=O3.trans O4 (by simp)
  have P4:=st P2 O34 (by omega) (by omega) (by omega)
  obtain⟨r0,-,-,r3,r4⟩:=R h4 P4
  simp only[r0,r3,r4,ldS_some,ldI_some,true_and]
  refine stK_at ((A1.only O2 (by simp)).only O34 (by simp;omega)) (by simp) rfl fun h5 A5 O5 z5=>stK_at A5 (by simp) rfl fun h6 A6 O6 z6=> ?_
  have O56:=O5.trans O6 (by simp)
  have P6:=st P4 O56 (by omega) (by omega) (by omega)
  have A4':=A4.only O56 (by simp;omega)
  have fin:=hK h6 P6 ((((O1.trans O2 (by simp)).nil O34 (by simp;omega)).nil O56 (by simp)))
  refine ldI_of (n:=(atL L i).2) (by rw[A4'.rd];rfl) (ldI_of (n:=(atL L j).2) (by rw[A6.rd];rfl) (bcase_of (fun e=> ?_) fun e=>ldI_of (n:=(atL L i).2) (by rw[A4'.rd];rfl) (ldI_of (n:=(atL L j).2) (by rw[A6.rd];rfl) (bcase_of (fun e2=>ldI_of (n:=(atL L i).1) (by rw[A4'.rd];rfl) (ldI_of (n:=(atL L j).1) (by rw[A6.rd];rfl) ?_)) fun e2=> ?_))))
  ·unfold bet at fin
   rw[e,Bool.true_or]at fin
   exact fin
  ·unfold bet at fin
   rw[e,Bool.false_or,e2,Bool.true_and]at fin
   exact fin
  ·unfold bet at fin
   rw[e,Bool.false_or,e2,Bool.false_and]at fin
   exact fin
end
theorem AtOk.inj{L:List It}{f:Int→Option Nat}(H:AtOk L f){a b:Nat}(ha:a<L.length)(hb:b<L.length)(e:(atL L a).1=(atL L b).1):a=b:=by
 have h1:=(H _ a).2 ⟨ha,rfl⟩
 have h2:=(H _ b).2 ⟨hb,rfl⟩
 rw[e,h2]at h1
 injection h1 with h1
 exact h1.symm
theorem AtOk.swap{L:List It}{f:Int→Option Nat}(H:AtOk L f){i j:Nat}(hi:i<L.length)(hj:j<L.length):
  AtOk (swapL L i j) (fun y=>if y=(atL (swapL L i j) j).1 then some j else if y=(atL (swapL L i j) i).1 then some i else f y):=by
 intro id k
 have sw:=atL_swap (L:=L) hi hj
 rw[swapL_len,sw k,sw j,if_pos rfl,sw i]
 dsimp only
 rw[if_pos (rfl:i=i)]
 by_cases h1:id=(atL L i).1
 ·rw[if_pos h1]
  by_cases hk:k=j
  ·subst hk
   simp[hj,h1]
  ·rw[if_neg hk]
   constructor
   ·intro e
    injection e with e
    exact absurd e.symm hk
   ·rintro ⟨a,b⟩
    exfalso
    by_cases hki:k=i
    ·rw[if_pos hki]at b
     have:=H.inj hj hi (b.trans h1)
     omega
    ·rw[if_neg hki]at b
     exact hki (H.inj a hi (b.trans h1))
 ·rw[if_neg h1]
  by_cases hij:i=j
  ·subst hij
   simp only[if_true]
   rw[if_neg h1,H id k]
   by_cases hki:k=i
   ·subst hki
    simp
   ·simp[hki]
  ·rw[if_neg hij]
   by_cases h2:id=(atL L j).1
   ·rw[if_pos h2]
    by_cases hki:k=i
    ·subst hki
     simp[hij,hi,h2]
    ·constructor
     ·intro e
      injection e with e
      exact absurd e.symm hki
     ·rintro ⟨a,b⟩
      exfalso
      by_cases hkj:k=j
      ·rw[if_pos hkj]at b
       exact h1 b.symm
      ·rw[if_neg hkj,if_neg hki]at b
       exact hkj (H.inj a hj (b.trans h2))
   ·rw[if_neg h2,H id k]
    by_cases hkj:k=j
    ·subst hkj
     rw[if_pos rfl]
     exact⟨fun⟨a,b⟩=>absurd b.symm h2,fun⟨a,b⟩=>absurd b.symm h1⟩
    ·rw[if_neg hkj]
     by_cases hki:k=i
     ·subst hki
      rw[if_pos rfl]
      exact⟨fun⟨a,b⟩=>absurd b.symm h1,fun⟨a,b⟩=>absurd b.symm h2⟩
     ·rw[if_neg hki]
theorem AtOk.push{L:List It}{f:Int→Option Nat}(H:AtOk L f){x:It}(hx:f x.1=none):AtOk (L++[x]) (fun y=>if y=x.1 then some L.length else f y):=by
 intro id k
 dsimp only
 have e1: ∀k,k<L.length→atL (L++[x]) k=atL L k:=fun k hk=>by simp[atL,List.getD,List.getElem?_append_left hk]
 have e2:atL (L++[x]) L.length=x:=by simp[atL,List.getD]
 rw[List.length_append,List.length_singleton]
 by_cases h1:id=x.1
 ·rw[if_pos h1]
  constructor
  ·intro e
   injection e with e
   subst e
   exact⟨by omega,by rw[e2,h1]⟩
  ·rintro ⟨a,b⟩
   by_cases hk:k<L.length
   ·rw[e1 k hk]at b
    have:=(H id k).2 ⟨hk,b⟩
    rw[h1,hx]at this
    cases this
   ·rw[show k=L.length by omega]
 ·rw[if_neg h1,H id k]
  constructor
  ·rintro ⟨a,b⟩
   exact⟨by omega,by rw[e1 k a];exact b⟩
  ·rintro ⟨a,b⟩
   by_cases hk:k<L.length
   ·rw[e1 k hk]at b
    exact⟨hk,b⟩
   ·rw[show k=L.length by omega,e2]at b
    exact absurd b.symm h1
theorem AtOk.pop{L:List It}{f:Int→Option Nat}{x:It}(H:AtOk (L++[x]) f):AtOk L (fun y=>if y=x.1 then none else f y):=by
 intro id k
 dsimp only
 have e1: ∀k,k<L.length→atL (L++[x]) k=atL L k:=fun k hk=>by simp[atL,List.getD,List.getElem?_append_left hk]
 have e2:atL (L++[x]) L.length=x:=by simp[atL,List.getD]
 have hl:(L++[x]).length=L.length+1:=by simp
 by_cases h1:id=x.1
 ·rw[if_pos h1]
  constructor
  ·intro e
   cases e
  ·rintro ⟨a,b⟩
   exfalso
   have:=H.inj (a:=k) (b:=L.length) (by omega) (by omega) (by rw[e1 k a,e2,b,h1])
   omega
 ·rw[if_neg h1,H id k,hl]
  constructor
  ·rintro ⟨a,b⟩
   by_cases hk:k<L.length
   ·rw[e1 k hk]at b
    exact⟨hk,b⟩
   ·rw[show k=L.length by omega,e2]at b
    exact absurd b.symm h1
  ·rintro ⟨a,b⟩
   exact⟨by omega,by rw[e1 k a];exact b⟩
theorem put_mapF{h:Heap}{b:Nat}{f:Int→Option Nat}{x:Int}{i:Nat}{K:Heap→Prop}(H:MapF h b f)(hK: ∀h',MapF h' b (fun y=>if y=x then some i else f y)→Only [b] h h'→h'.size=h.size→K h'):
  entK h (some b) .i64 .i64 x (.int .i64 (0:Int)) (fun v st h1=>ldI .i64 (some v) (fun _=>estK h1 (some b) st (.int .i64 (i:Int)) K)):=by
 obtain⟨m,h1,h2⟩:=H
 refine ent_map h1 fun v st h3 hv M3 S3 O3 z3=> ?_
 have hint: ∃n:Int,v= .int .i64 n:=by
  rw[hv,h2 x]
  cases f x with
  |none=>exact⟨_,rfl⟩
  |some k=>exact⟨_,rfl⟩
 obtain⟨n,rfl⟩:=hint
 refine ldI_of rfl (est_map M3 S3 fun h4 M4 O4 z4=>hK h4 ⟨_,M4,fun y=> ?_⟩ (O3.trans O4 (by simp)) (z4.trans z3))
 rw[lookup_mset,lookup_mset]
 dsimp only
 by_cases hy:y=x
 ·rw[if_pos hy,if_pos hy]
  rfl
 ·rw[if_neg hy,if_neg hy,if_neg hy]
  exact h2 y
theorem upd_mapF{h:Heap}{b:Nat}{f:Int→Option Nat}{x:Int}{i:Nat}{K:Heap→Prop}(H:MapF h b f)(hK: ∀h',MapF h' b (fun y=>if y=x then some i else f y)→Only [b] h h'→h'.size=h.size→K h'):
  updK h (some b) .i64 .i64 x (.int .i64 (i:Int)) K:=by
 obtain⟨m,h1,h2⟩:=H
 refine upd_map h1 fun h3 M3 O3 z3=>hK h3 ⟨_,M3,fun y=> ?_⟩ O3 z3
 rw[lookup_mset]
 dsimp only
 by_cases hy:y=x
 ·rw[if_pos hy,if_pos hy]
  rfl
 ·rw[if_neg hy,if_neg hy]
  exact h2 y
theorem del_mapF{h:Heap}{b:Nat}{f:Int→Option Nat}{x:Int}{K:Heap→Prop}(H:MapF h b f)(hK: ∀h',MapF h' b (fun y=>if y=x then none else f y)→Only [b] h h'→h'.size=h.size→K h'):
  delK h (some b) .i64 .i64 x K:=by
 obtain⟨m,h1,h2⟩:=H
 refine del_map h1 fun h3 M3 O3 z3=>hK h3 ⟨_,M3,fun y=> ?_⟩ O3 z3
 rw[lookup_mdel]
 dsimp only
 by_cases hy:y=x
 ·rw[if_pos hy,if_pos hy]
  rfl
 ·rw[if_neg hy,if_neg hy]
  exact h2 y
theorem look_mapF{h:Heap}{b:Nat}{f:Int→Option Nat}{x:Int}{K:Option (Nat×Value)→Prop}(H:MapF h b f)(hN:f x=none→K none)(hS: ∀i k,f x=some k→K (some (i,.int .i64 (k:Int)))):lookK h (some b) .i64 .i64 x K:=by
 obtain⟨m,h1,h2⟩:=H
 refine look_map h1 (fun e=>hN ?_) fun i v e=> ?_
 ·rw[h2 x]at e
  cases hf:f x with
  |none=>rfl
  |some k=>rw[hf]at e;cases e
 ·rw[h2 x]at e
  cases hf:f x with
  |none=>rw[hf]at e;cases e
  |some k=>
   rw[hf]at e
   injection e with e
   subst e
   exact hS i k hf
theorem rset2{h:Heap}{lo l c b i:Nat}{L:List It}{x:It}{K:Heap→Prop}(H:Own h lo 2 (some ⟨b,0,none⟩) l c (flat L))(hi:i<L.length)
  (hK: ∀h',Own h' lo 2 (some ⟨b,0,none⟩) l c (flat (L.set i x))→Only [b] h h'→K h'):stK h ⟨b,i*2,none⟩ (.int .i64 x.1) (fun h1=>stK h1 ⟨b,i*2+1,none⟩ (.int .i64 x.2) K):=by
 refine H.set (by rw[flat_len];omega) rfl fun h1 H1 O1=> ?_
 rw[flat_set0]at H1
 refine H1.set (by rw[flat_len,List.length_set];omega) rfl fun h2 H2 O2=> ?_
 rw[flat_set1]at H2
 have e:(L.set i (x.1,(atL L i).2)).set i ((atL (L.set i (x.1,(atL L i).2)) i).1,x.2)=L.set i x:=by
  rw[List.set_set]
  congr 1
  simp[atL,hi]
 rw[e]at H2
 exact hK h2 H2 (O1.trans O2 (by simp))
theorem Own.cut{h:Heap}{lo:Nat}{p:Option Addr}{l c:Nat}{L:List It}{x:It}(H:Own h lo 2 p (l+1) c (flat (L++[x]))):Own h lo 2 p l c (flat L):=by
 obtain⟨e,H⟩:=H
 rw[flat_len,List.length_append,List.length_singleton]at e
 refine⟨by rw[flat_len];omega,?_⟩
 rcases H with⟨-,h0,-⟩|⟨b,sp,h1,h2,h3,h4,h5⟩
 ·omega
 ·refine Or.inr ⟨b,[.int .i64 x.1,.int .i64 x.2]++sp,h1,h2,by omega,?_,?_⟩
  ·rw[List.length_append,h4]
   obtain⟨r,rfl⟩: ∃r,c=l+1+r:=⟨c-l-1,by omega⟩
   rw[show l+1+r-(l+1)=r by omega,show l+1+r-l=r+1 by omega]
   simp
   omega
  ·rw[flat_app]at h5
   simpa[flat]using h5
section
variable {h:Heap}{lo pi mb:Nat}{p:Option Addr}{c:Nat}{L:List It}{K:Value→Heap→Prop}{i j:Nat}
theorem swap90(P:Pile h lo pi mb p c L)(hi:i<L.length)(hj:j<L.length)(hK: ∀h',Pile h' lo pi mb p c (swapL L i j)→Only (mb::OwnB p) h h'→K (.tuple #[]) h'):
  Cl 400 [.pointer (some ⟨pi,0,none⟩),.int .i64 (i:Int),.int .i64 (j:Int)] h K:=by
 apply F400.spec
 obtain⟨b,ep,-⟩:=P.own.rd (j:=i*2) (by rw[flat_len];omega)
 subst ep
 obtain⟨s1,s2,s3,s4,s5⟩:=P.sep
 simp only[OwnB,List.mem_singleton]at s3 s4
 have rIt: ∀(h':Heap) (M:List It) (k:Nat),Own h' lo 2 (some ⟨b,0,none⟩) L.length c (flat M)→k<M.length→rd h' ⟨b,k*2,none⟩=some (.int .i64 (atL M k).1)∧rd h' ⟨b,k*2+1,none⟩=some (.int .i64 (atL M k).2):=by
  intro h' M k P' hk
  have e: ∀k,k<M.length*2→rd h' ⟨b,k,none⟩=(flat M)[k]? :=by
   intro k hk
   obtain⟨b',e1,e2⟩:=P'.rd (j:=k) (by rw[flat_len];omega)
   injection e1 with e1
   injection e1 with e1
   subst e1
   exact e2
  exact⟨by rw[e _ (by omega),flat_get0 hk],by rw[e _ (by omega),flat_get1 hk]⟩
 have i0:(0:Int)≤(i:Int):=by omega
 have i1:(i:Int)<(L.length:Int):=by omega
 have j0:(0:Int)≤(j:Int):=by omega
 have j1:(j:Int)<(L.length:Int):=by omega
 have r0:rd h ⟨pi,0,none⟩=some (.slice (some ⟨b,0,none⟩) L.length c):=by rw[P.at_.rd];rfl
 obtain⟨r1,r2⟩:=rIt h L i P.own hi
 obtain⟨r3,r4⟩:=rIt h L j P.own hj
 simp only[add_mk,Nat.zero_add,Nat.add_zero,Int.toNat_natCast]
 simp only[r0,r1,r2,r3,r4,ldS_some,ptrK_some,ldI_some,i0,i1,j0,j1,true_and,add_mk,Nat.zero_add,Nat.add_zero]
 refine rset2 (x:=atL L j) P.own hi fun h1 H1 O1=>rset2 (x:=atL L i) H1 (by rw[List.length_set];exact hj) fun h2 H2 O2=> ?_
 have H2:Own h2 lo 2 (some ⟨b,0,none⟩) L.length c (flat (swapL L i j)):=H2
 have O12:=O1.trans O2 (by simp)
 have A2:=P.at_.only O12 (by simpa using s3)
 obtain⟨f,hf,hok⟩:=P.map
 have f2:=hf.only O12 (by simpa using s4)
 have q0:rd h2 ⟨pi,0,none⟩=some (.slice (some ⟨b,0,none⟩) L.length c):=by rw[A2.rd];rfl
 have q1:rd h2 ⟨pi,1,none⟩=some (.map (some mb)):=by rw[A2.rd];rfl
 obtain⟨q2,-⟩:=rIt h2 _ i H2 (by rw[swapL_len];exact hi)
 obtain⟨q3,-⟩:=rIt h2 _ j H2 (by rw[swapL_len];exact hj)
 simp only[q0,q1,q2,q3,ldS_some,ldM_some,ptrK_some,ldI_some,i1,j1,true_and,add_mk,Nat.zero_add,Nat.add_zero]
 refine put_mapF f2 fun h3 M3 O3 z3=>put_mapF M3 fun h4 M4 O4 z4=> ?_
 have O34:=O3.trans O4 (by simp)
 refine hK h4 ⟨?_,?_,⟨_,M4,hok.swap hi hj⟩,P.sep⟩ ?_
 ·rw[swapL_len]
  exact A2.only O34 (by simpa using s5)
 ·rw[swapL_len]
  exact H2.only O34 fun x hx=>by
   injection hx with hx
   injection hx with hx
   subst hx
   simpa using Ne.symm s4
 ·exact(O12.mono (T:=mb::OwnB (some ⟨b,0,none⟩)) (by simp[OwnB])).trans O34 (by simp)
theorem push89{x:It}(P:Pile h lo pi mb p c L)(hx: ∀k,k<L.length→(atL L k).1≠x.1)(hl:L.length<100000)(hlo:lo≤h.size)
  (hK: ∀h' p' c',Pile h' lo pi mb p' c' (L++[x])→Only (pi::mb::OwnB p) h h'→(∀b∈OwnB p',b∈OwnB p∨h.size≤b)→K (.tuple #[]) h'):
  Cl 399 [.pointer (some ⟨pi,0,none⟩),.iface 357 (.agg #[.int .i64 x.1,.int .i64 x.2])] h K:=by
 apply F399.spec
 simp only[add_mk,Nat.zero_add,Nat.add_zero]
 obtain⟨s1,s2,s3,s4,s5⟩:=P.sep
 obtain⟨lt1,lt2,lt3⟩:=P.lt
 refine newK_at fun h1 A1 O1 z1=>stK_at A1 (by simp) rfl fun h2 A2 O2 z2=>stK_at A2 (by simp) rfl fun h3 A3 O3 z3=> ?_
 have A3:At h3 h.size [.int .i64 x.1,.int .i64 x.2]:=A3
 have O13:Only [] h h3:=O1.nil (O2.trans O3 (by simp)) (by simp)
 have P3:=P.only O13 (by simp) (by simp) (by simp)
 obtain⟨f,hf,hok⟩:=P3.map
 have hfx:f x.1=none:=by
  cases hh:f x.1 with
  |none=>rfl
  |some k=>
   obtain⟨a,b⟩:=(hok x.1 k).1 hh
   exact absurd b (hx k a)
 refine ldM_some' (by rw[P3.at_.rd];rfl) (ldI_of (n:=x.1) (by rw[A3.rd];rfl) (ldS_of (by rw[P3.at_.rd];rfl) (upd_mapF hf fun h4 M4 O4 z4=> ?_)))
 have P4at:=P3.at_.only O4 (by simpa using s5)
 have A4:=A3.only O4 (by simp;omega)
 have own4:=P3.own.only O4 fun b hb=>by
  have:mb≠b:=fun e=>s4 (by rw[hb,←e];simp[OwnB])
  simpa using Ne.symm this
 refine ldS_of (by rw[P4at.rd];rfl) (ldI_of (n:=x.1) (by rw[A4.rd];rfl) (ldI_of (n:=x.2) (by rw[A4.rd];rfl) (newK_at fun h5 A5 O5 z5=> ?_)))
 have P5at:=P4at.only O5 (by simp)
 refine⟨by trivial,by trivial,by trivial,by trivial,ldS_of (by rw[P5at.rd];rfl) ⟨by trivial,?_⟩⟩
 have own5:=own4.only O5 (by simp)
 have sz3:=O13.size
 refine own_app own5 A5 rfl rfl (by omega) (by simp[Value.oneCell']) (by omega) fun p' c' h6 own6 O6 hp'=>⟨by trivial,?_⟩
 have P6at:=P5at.only O6 s3
 refine stK_at P6at (by simp) rfl fun h7 A7 O7 z7=> ?_
 have hp2: ∀b∈OwnB p',b∈OwnB p∨h.size≤b:=fun b hb=>by
  rcases hp' b hb with h|h
  ·exact Or.inl h
  ·exact Or.inr (by omega)
 have hpi:pi∉OwnB p':=fun hb=>by
  rcases hp2 _ hb with h|h
  ·exact s3 h
  ·omega
 have hmb:mb∉OwnB p':=fun hb=>by
  rcases hp2 _ hb with h|h
  ·exact s4 h
  ·omega
 refine hK h7 p' c' ⟨?_,?_,⟨_,((M4.only O5 (by simp)).only O6 s4).only O7 (by simpa using Ne.symm s5),hok.push hfx⟩,s1,s2,hpi,hmb,s5⟩ ?_ hp2
 ·rw[List.length_append]
  exact A7
 ·rw[List.length_append,flat_app]
  exact own6.only O7 fun b hb=>by
   have:pi≠b:=fun e=>hpi (by rw[hb,←e];simp[OwnB])
   simpa using Ne.symm this
 ·have g1:Only (pi::mb::OwnB p) h h4:=(O13.mono (T:=pi::mb::OwnB p) (by simp)).trans O4 (by simp)
  exact((g1.trans O5 (by simp)).trans O6 (fun b hb _=>by simp[hb])).trans O7 (by simp)
theorem pop88{x:It}(P:Pile h lo pi mb p c (L++[x]))(hl:L.length<100000)
  (hK: ∀h',Pile h' lo pi mb p c L→Only [pi,mb] h h'→K (.iface 357 (.agg #[.int .i64 x.1,.int .i64 x.2])) h'):
  Cl 398 [.pointer (some ⟨pi,0,none⟩)] h K:=by
 apply F398.spec
 simp only[add_mk,Nat.zero_add,Nat.add_zero]
 obtain⟨s1,s2,s3,s4,s5⟩:=P.sep
 obtain⟨lt1,lt2,lt3⟩:=P.lt
 have hln:(L++[x]).length=L.length+1:=by simp
 obtain⟨b,ep,-⟩:=P.own.rd (j:=0) (by rw[flat_len];omega)
 subst ep
 have e: ∀k,k<(L.length+1)*2→rd h ⟨b,k,none⟩=(flat (L++[x]))[k]? :=by
  intro k hk
  obtain⟨b',e1,e2⟩:=P.own.rd (j:=k) (by rw[flat_len];omega)
  injection e1 with e1
  injection e1 with e1
  subst e1
  exact e2
 have ex:atL (L++[x]) L.length=x:=by simp[atL,List.getD]
 refine ldS_of (by rw[P.at_.rd];rfl) (ldS_of (by rw[P.at_.rd];rfl) ?_)
 rw[show IntKind.wrap .i64 (((L++[x]).length:Int)-(1:Int))=(L.length:Int) by rw[wrap_i64 (by omega) (by omega)];omega]
 simp only[ptrK_some,add_mk,Nat.zero_add,Nat.add_zero,Int.toNat_natCast]
 refine⟨by omega,by omega,ldI_of (n:=x.1) (by rw[e _ (by omega),flat_get0 (by omega),ex]) (ldI_of (n:=x.2) (by rw[e _ (by omega),flat_get1 (by omega),ex]) ?_)⟩
 refine newK_at fun h1 A1 O1 z1=>stK_at A1 (by simp) rfl fun h2 A2 O2 z2=>stK_at A2 (by simp) rfl fun h3 A3 O3 z3=> ?_
 have A3:At h3 h.size [.int .i64 x.1,.int .i64 x.2]:=A3
 have O13:Only [] h h3:=O1.nil (O2.trans O3 (by simp)) (by simp)
 have P3:=P.only O13 (by simp) (by simp) (by simp)
 have hcap:L.length≤c:=by
  obtain⟨-,H⟩:=P.own
  rcases H with⟨h1,-⟩|⟨b',sp,h1,h2,h3,h4,h5⟩
  ·cases h1
  ·omega
 refine ldS_of (by rw[P3.at_.rd];rfl) ⟨by omega,by omega,?_⟩
 rw[show(if c=0 then(some ⟨b,0,none⟩:Option Addr)else Option.map (fun a=>Addr.add a (0*2)) (some ⟨b,0,none⟩))=some ⟨b,0,none⟩ by
  split
  ·rfl
  ·simp[Addr.add]]
 rw[Nat.sub_zero,Nat.sub_zero]
 refine stK_at P3.at_ (by simp) rfl fun h4 A4 O4 z4=> ?_
 obtain⟨f,hf,hok⟩:=P3.map
 have f4:=hf.only O4 (by simpa using Ne.symm s5)
 have B4:=A3.only O4 (by simp;omega)
 refine ldM_some' (by rw[A4.rd];rfl) (ldI_of (n:=x.1) (by rw[B4.rd];rfl) (del_mapF f4 fun h5 M5 O5 z5=> ?_))
 have B5:=B4.only O5 (by simp;omega)
 refine ldI_of (n:=x.1) (by rw[B5.rd];rfl) (ldI_of (n:=x.2) (by rw[B5.rd];rfl) ?_)
 refine hK h5 ⟨A4.only O5 (by simpa using s5),?_,⟨_,M5,hok.pop⟩,P.sep⟩ ?_
 ·have own3:=P3.own
  rw[hln]at own3
  exact((own3.cut).only O4 fun y hy=>by
   injection hy with hy
   injection hy with hy
   subst hy
   simp only[OwnB,List.mem_singleton]at s3
   simpa using Ne.symm s3).only O5 fun y hy=>by
    injection hy with hy
    injection hy with hy
    subst hy
    simp only[OwnB,List.mem_singleton]at s4
    simpa using Ne.symm s4
 ·exact((O13.mono (T:=[pi,mb]) (by simp)).trans O4 (by simp)).trans O5 (by simp)
end
end
section
theorem HeapN.congr{L M:List It}{n:Nat}(H:HeapN L n)(e: ∀k,k<n→atL M k=atL L k):HeapN M n:=by
 intro k h0 h1
 have hp:par k<k:=by unfold par;omega
 unfold okAt
 rw[e k h1,e (par k) (by omega)]
 exact H k h0 h1
theorem split_last{L:List It}{n:Nat}(h:L.length=n+1): ∃M x,L=M++[x]∧M.length=n∧x=atL L n:=by
 have hne:L≠[]:=by
  intro e
  rw[e]at h
  cases h
 refine⟨L.dropLast,L.getLast hne,(List.dropLast_concat_getLast hne).symm,by simp[h],?_⟩
 rw[List.getLast_eq_getElem,←atL_get]
 ·congr 1
  omega
 ·omega
theorem atL_app{M:List It}{x:It}{k:Nat}(hk:k<M.length):atL (M++[x]) k=atL M k:=by simp[atL,List.getD,List.getElem?_append_left hk]
section
variable {h:Heap}{lo pi mb:Nat}{p:Option Addr}{c:Nat}{L:List It}{K:Value→Heap→Prop}{i j:Nat}
theorem up62{n:Nat}(hl:L.length<100000)(hn:n≤L.length): ∀(j:Nat) {L':List It} {h':Heap},Pile h' lo pi mb p c L'→L'.Perm L→UpW L' n j→j<n→Only (mb::OwnB p) h h'→(∀k,n≤k→atL L' k=atL L k)→
  (∀h' L',Pile h' lo pi mb p c L'→L'.Perm L→HeapN L' n→(∀k,n≤k→atL L' k=atL L k)→Only (mb::OwnB p) h h'→K (.tuple #[]) h')→ ∀g,j<g→F339.wL0 g ⟨pi,0,none⟩ (j:Int) h' K:=by
 intro j
 induction j using Nat.strongRecOn with
 |_ j ih=>
  intro L' h' P hp U hj O hge hK g hg
  obtain⟨g,rfl⟩: ∃g',g=g'+1:=⟨g-1,by omega⟩
  have hlen:=hp.length_eq
  rw[F339.sL0]
  refine⟨by decide,?_⟩
  by_cases h0:j=0
  ·subst h0
   rw[show((IntKind.wrap .i64 (Int.tdiv (IntKind.wrap .i64 (((0:Nat):Int)-(1:Int))) (2:Int)))==((0:Nat):Int))=true from rfl,bcase_true]
   exact hK h' L' P hp (U.done (Or.inl rfl)) hge O
  ·have e:IntKind.wrap .i64 (Int.tdiv (IntKind.wrap .i64 ((j:Int)-(1:Int))) (2:Int))=((par j:Nat):Int):=by
    rw[wrap_i64 (n:=(j:Int)-1) (by omega) (by omega),Int.tdiv_eq_ediv_of_nonneg (by omega)]
    unfold par
    rw[wrap_i64 (by omega) (by omega)]
    omega
   have hpj:par j<j:=by unfold par;omega
   rw[e,show(((par j:Nat):Int)==(j:Int))=false by simp;omega,bcase_false]
   refine less87 P (by omega) (by omega) fun h1 P1 O1=>ldB_of rfl ?_
   cases hb:bet (atL L' j) (atL L' (par j))with
   |false=>
    rw[Bool.not_false,bcase_true]
    exact hK h1 L' P1 hp (U.done (Or.inr hb)) hge (O.trans O1 (by simp))
   |true=>
    rw[Bool.not_true,bcase_false]
    refine swap90 P1 (by omega) (by omega) fun h2 P2 O2=>⟨rfl,?_⟩
    refine ih (par j) hpj P2 ((swapL_perm (by omega) (by omega)).trans hp) (U.step (by omega) hj (by omega) hb) (by omega) ((O.trans O1 (by simp)).trans O2 fun b hb _=>hb) (fun k hk=> ?_) hK g (by omega)
    rw[atL_swap (by omega) (by omega),if_neg (by omega),if_neg (by omega)]
    exact hge k hk
theorem up_call{n:Nat}(P:Pile h lo pi mb p c L)(hl:L.length<100000)(hn:n≤L.length)(U:UpW L n j)(hj:j<n)
  (hK: ∀h' L',Pile h' lo pi mb p c L'→L'.Perm L→HeapN L' n→(∀k,n≤k→atL L' k=atL L k)→Only (mb::OwnB p) h h'→K (.tuple #[]) h'):
  Cl 339 [.iface 370 (.pointer (some ⟨pi,0,none⟩)),.int .i64 (j:Int)] h K:=by
 apply F339.spec
 exact⟨j+1,up62 hl hn j P (List.Perm.refl _) U hj (Only.refl _ _) (fun _ _=>rfl) hK (j+1) (by omega)⟩
theorem down64{n i0:Nat}(hl:L.length<100000)(hn:n≤L.length)
  (hK: ∀h' L' mv,Pile h' lo pi mb p c L'→L'.Perm L→(mv=true→HeapN L' n)→(mv=false→UpW L' n i0)→(∀k,n≤k→atL L' k=atL L k)→Only (mb::OwnB p) h h'→K (.bool mv) h'):
  ∀(d i:Nat) {L':List It} {h':Heap},n-i≤d→Pile h' lo pi mb p c L'→L'.Perm L→DownW L' n i0 i→i≤L.length→Only (mb::OwnB p) h h'→(∀k,n≤k→atL L' k=atL L k)→F358.wL2 (d+1) ⟨pi,0,none⟩ (i0:Int) (n:Int) (i:Int) h' K:=by
 intro d
 induction d with
 |zero=>
  intro i L' h' hd P hp D hi O hge
  rw[F358.sL2]
  have e1:IntKind.wrap .i64 ((IntKind.wrap .i64 ((2:Int)*(i:Int)))+(1:Int))=((2*i+1:Nat):Int):=by
   rw[wrap_i64 (n:=(2:Int)*(i:Int)) (by omega) (by omega),wrap_i64 (by omega) (by omega)]
   omega
  rw[e1,decide_eq_true (by omega),bcase_true]
  unfold F358.wk11
  obtain⟨d1,d2⟩:=D.done (fun k h0 h1 hk=>by unfold par at hk;omega)
  have le:=D.le
  refine hK h' L' _ P hp (fun e=>d1 ?_) (fun e=>d2 ?_) hge O
  ·have:=of_decide_eq_true e
   omega
  ·have:=of_decide_eq_false e
   omega
 |succ d ih=>
  intro i L' h' hd P hp D hi O hge
  have hlen:=hp.length_eq
  have le:=D.le
  rw[F358.sL2]
  have e1:IntKind.wrap .i64 ((IntKind.wrap .i64 ((2:Int)*(i:Int)))+(1:Int))=((2*i+1:Nat):Int):=by
   rw[wrap_i64 (n:=(2:Int)*(i:Int)) (by omega) (by omega),wrap_i64 (by omega) (by omega)]
   omega
  rw[e1]
  have stop: ∀h',Pile h' lo pi mb p c L'→Only (mb::OwnB p) h h'→(∀k,0<k→k<n→par k=i→okAt L' k)→F358.wk11 (i0:Int) (i:Int) h' K:=by
   intro h' P' O' hc
   unfold F358.wk11
   obtain⟨d1,d2⟩:=D.done hc
   refine hK h' L' _ P' hp (fun e=>d1 ?_) (fun e=>d2 ?_) hge O'
   ·have:=of_decide_eq_true e
    omega
   ·have:=of_decide_eq_false e
    omega
  by_cases hj1:n≤2*i+1
  ·rw[decide_eq_true (by omega),bcase_true]
   exact stop h' P O (fun k h0 h1 hk=>by unfold par at hk;omega)
  ·rw[decide_eq_false (by omega),bcase_false,decide_eq_false (by omega),bcase_false]
   rw[show IntKind.wrap .i64 (((2*i+1:Nat):Int)+(1:Int))=((2*i+2:Nat):Int) by rw[wrap_i64 (by omega) (by omega)];omega]
   have go: ∀(jj:Nat) (h':Heap),Pile h' lo pi mb p c L'→Only (mb::OwnB p) h h'→jj<n→0<jj→par jj=i→(∀k,0<k→k<n→par k=i→bet (atL L' k) (atL L' jj)=false)→
     F358.wk8 (fun x0 x1 x2 x7 h=>F358.wL2 (d+1) x0 x1 x2 x7 h K) ⟨pi,0,none⟩ (i0:Int) (n:Int) (i:Int) (jj:Int) h' K:=by
    intro jj h' P' O' hjn hj0 hpj hc
    have hij:i<jj:=by rw[←hpj];unfold par;omega
    unfold F358.wk8
    refine less87 P' (by omega) (by omega) fun h1 P1 O1=>ldB_of rfl ?_
    cases hb:bet (atL L' jj) (atL L' i)with
    |false=>
     rw[Bool.not_false,bcase_true]
     refine stop h1 P1 (O'.trans O1 (by simp)) fun k h0 h1 hk=> ?_
     unfold okAt
     rw[hk]
     exact bet_ntrans (hc k h0 h1 hk) hb
    |true=>
     rw[Bool.not_true,bcase_false]
     refine swap90 P1 (by omega) (by omega) fun h2 P2 O2=>⟨rfl,?_⟩
     refine ih jj (by omega) P2 ((swapL_perm (by omega) (by omega)).trans hp) (D.step hjn (by omega) hj0 hpj hb hc) (by omega) ((O'.trans O1 (by simp)).trans O2 fun b hb _=>hb) (fun k hk=> ?_)
     rw[atL_swap (by omega) (by omega),if_neg (by omega),if_neg (by omega)]
     exact hge k hk
   by_cases hj2:2*i+2<n
   ·rw[decide_eq_true (by omega),bcase_true]
    refine less87 P (by omega) (by omega) fun h1 P1 O1=>ldB_of rfl ?_
    cases hb:bet (atL L' (2*i+2)) (atL L' (2*i+1))with
    |true=>
     rw[bcase_true]
     refine go (2*i+2) h1 P1 (O.trans O1 (by simp)) hj2 (by omega) (by unfold par;omega) fun k h0 h1 hk=> ?_
     have:k=2*i+1∨k=2*i+2:=by unfold par at hk;omega
     rcases this with rfl|rfl
     ·exact bet_asym hb
     ·exact bet_self _
    |false=>
     rw[bcase_false]
     refine go (2*i+1) h1 P1 (O.trans O1 (by simp)) (by omega) (by omega) (by unfold par;omega) fun k h0 h1 hk=> ?_
     have:k=2*i+1∨k=2*i+2:=by unfold par at hk;omega
     rcases this with rfl|rfl
     ·exact bet_self _
     ·exact hb
   ·rw[decide_eq_false (by omega),bcase_false]
    refine go (2*i+1) h' P O (by omega) (by omega) (by unfold par;omega) fun k h0 h1 hk=> ?_
    have:k=2*i+1:=by unfold par at hk;omega
    subst this
    exact bet_self _
theorem down_call{n i0:Nat}(P:Pile h lo pi mb p c L)(hl:L.length<100000)(hn:n≤L.length)(hi:i0≤L.length)(D:DownW L n i0 i0)
  (hK: ∀h' L' mv,Pile h' lo pi mb p c L'→L'.Perm L→(mv=true→HeapN L' n)→(mv=false→UpW L' n i0)→(∀k,n≤k→atL L' k=atL L k)→Only (mb::OwnB p) h h'→K (.bool mv) h'):
  Cl 358 [.iface 370 (.pointer (some ⟨pi,0,none⟩)),.int .i64 (i0:Int),.int .i64 (n:Int)] h K:=by
 apply F358.spec
 unfold F358.wk2
 exact⟨n+1,down64 hl hn hK n i0 (by omega) P (List.Perm.refl _) D hi (Only.refl _ _) fun _ _=>rfl⟩
theorem push49{x:It}(P:Pile h lo pi mb p c L)(H:HeapN L L.length)(hx: ∀k,k<L.length→(atL L k).1≠x.1)(hl:L.length<90000)(hlo:lo≤h.size)
  (hK: ∀h' p' c' L',Pile h' lo pi mb p' c' L'→L'.Perm (L++[x])→HeapN L' L'.length→Only (pi::mb::OwnB p) h h'→(∀b∈OwnB p',b∈OwnB p∨h.size≤b)→K (.tuple #[]) h'):
  Cl 309 [.iface 370 (.pointer (some ⟨pi,0,none⟩)),.iface 357 (.agg #[.int .i64 x.1,.int .i64 x.2])] h K:=by
 apply F309.spec
 refine push89 P hx (by omega) hlo fun h1 p1 c1 P1 O1 hp1=>⟨rfl,len52 P1 (ldI_of rfl ?_)⟩
 have hln:(L++[x]).length=L.length+1:=by simp
 rw[show IntKind.wrap .i64 (((L++[x]).length:Int)-(1:Int))=(L.length:Int) by rw[wrap_i64 (by omega) (by omega)];omega]
 refine up_call (n:=L.length+1) P1 (by omega) (by omega) (up_begin H) (by omega) fun h2 L2 P2 p2 H2 _ O2=>⟨rfl,?_⟩
 have hlen2:=p2.length_eq
 refine hK h2 p1 c1 L2 P2 p2 (by rw[hlen2,hln];exact H2) (O1.trans O2 fun b hb hlt=> ?_) hp1
 simp only[List.mem_cons]at hb ⊢
 rcases hb with hb|hb
 ·exact Or.inr (Or.inl hb)
 ·rcases hp1 b hb with h3|h3
  ·exact Or.inr (Or.inr h3)
  ·omega
theorem popped{x:It}{h1:Heap}{L1:List It}(P1:Pile h1 lo pi mb p c L1)(hlen:L1.length=L.length)(hL:L.length<100000)(p1:L1.Perm L)(H1:HeapN L1 (L.length-1))(hne:0<L.length)(hx:atL L1 (L.length-1)=x)(O1:Only (mb::OwnB p) h h1)
  (hK: ∀h' M,Pile h' lo pi mb p c M→(M++[x]).Perm L→HeapN M M.length→Only (pi::mb::OwnB p) h h'→K (.iface 357 (.agg #[.int .i64 x.1,.int .i64 x.2])) h'):
  Cl 398 [.pointer (some ⟨pi,0,none⟩)] h1 (fun v h2=>ldV (some v) (fun v'=>K v' h2)):=by
 obtain⟨M,y,e,hM,hy⟩:=split_last (L:=L1) (n:=L.length-1) (by omega)
 rw[hx]at hy
 subst hy
 subst e
 refine pop88 P1 (by omega) fun h2 P2 O2=> ?_
 rw[ldV_some]
 refine hK h2 M P2 p1 (HeapN.congr (L:=M++[y]) (by rw[hM];exact H1) fun k hk=>(atL_app hk).symm) ((O1.mono (T:=pi::mb::OwnB p) (by simp+contextual)).trans O2 (by simp+contextual))
theorem pop63(P:Pile h lo pi mb p c L)(H:HeapN L L.length)(hl:L.length<100000)(hne:0<L.length)
  (hK: ∀h' M,Pile h' lo pi mb p c M→(M++[atL L 0]).Perm L→HeapN M M.length→Only (pi::mb::OwnB p) h h'→K (.iface 357 (.agg #[.int .i64 (atL L 0).1,.int .i64 (atL L 0).2])) h'):
  Cl 341 [.iface 370 (.pointer (some ⟨pi,0,none⟩))] h K:=by
 apply F341.spec
 refine len52 P (ldI_of rfl ?_)
 rw[show IntKind.wrap .i64 ((L.length:Int)-(1:Int))=((L.length-1:Nat):Int) by rw[wrap_i64 (by omega) (by omega)];omega]
 rw[show(0:Int)=((0:Nat):Int)from rfl]
 refine swap90 P (by omega) (by omega) fun h1 P1 O1=>⟨rfl,?_⟩
 have sw:=atL_swap (L:=L) (i:=0) (j:=L.length-1) (by omega) (by omega)
 have D:DownW (swapL L 0 (L.length-1)) (L.length-1) 0 0:=by
  refine⟨fun k h0 h1 hk hk2=> ?_,fun k h0 h1 hk hi=>by omega,Nat.le_refl _⟩
  have hp:par k<k:=by unfold par;omega
  unfold okAt
  rw[sw k,sw (par k),if_neg (by omega),if_neg (by omega),if_neg (by omega),if_neg (by omega)]
  exact H k h0 (by omega)
 refine down_call P1 (by rw[swapL_len];exact hl) (by rw[swapL_len];omega) (by omega) D fun h2 L2 mv P2 p2 m1 m2 ge O2=>ldB_of rfl ?_
 have hlen:=p2.length_eq
 rw[swapL_len]at hlen
 have H2:HeapN L2 (L.length-1):=by
  cases mv with
  |true=>exact m1 rfl
  |false=>exact(m2 rfl).done (Or.inl rfl)
 refine popped (x:=atL L 0) P2 hlen hl (p2.trans (swapL_perm (by omega) (by omega))) H2 hne ?_ (O1.trans O2 fun b hb _=>hb) hK
 rw[ge _ (Nat.le_refl _),sw,if_pos rfl]
end
end
section
theorem F310.spec(b a:Addr)(h:Heap)(K:KK)(H:newK h (.cells #[.int .i64 0,.int .i64 0] 357) fun b1 h2=>Cl 340 [.pointer (some b)] h2 fun v3 h4=>ldI .i64 (some v3) fun n5=>bcase (n5==(0:Int)) (stK h4 ((Addr.mk b1 0 none).add 0) (.int .i64 0) fun h6=>stK h6 ((Addr.mk b1 0 none).add 1) (.int .i64 0) fun h7=>ldI .i64 (rd h7 ((Addr.mk b1 0 none).add 0)) fun n8=>ldI .i64 (rd h7 ((Addr.mk b1 0 none).add 1)) fun n9=>K (.tuple #[.agg #[.int .i64 n8,.int .i64 n9],.bool false]) h7) (Cl 311 [.pointer (some a)] h4 fun v12 h13=> ∃n14:Int,∃n15:Int,v12=(.agg #[.int .i64 n14,.int .i64 n15])∧stK h13 ((Addr.mk b1 0 none).add 0) (.int .i64 n14) fun h16=>stK h16 ((Addr.mk b1 0 none).add 1) (.int .i64 n15) fun h17=>ldI .i64 (rd h17 ((Addr.mk b1 0 none).add 0)) fun n18=>ldI .i64 (rd h17 ((Addr.mk b1 0 none).add 1)) fun n19=>K (.tuple #[.agg #[.int .i64 n18,.int .i64 n19],.bool true]) h17)):Cl 310 [.pointer (some b),.func (.func 311) #[.pointer (some a)] #[]] h K:=cN Tryz.func310 H
end
section
theorem F290.spec(a:Addr)(h:Heap)(K:KK)(H:newK h (.cells #[.int .i64 0,.int .i64 0] 357) fun b1 h2=>Cl 310 [.pointer (some a),.func (.func 311) #[.pointer (some a)] #[]] h2 fun v3 h4=> ∃n5:Int,∃n6:Int,∃b7:Bool,v3=(.tuple #[.agg #[.int .i64 n5,.int .i64 n6],.bool b7])∧stK h4 ((Addr.mk b1 0 none).add 0) (.int .i64 n5) fun h8=>stK h8 ((Addr.mk b1 0 none).add 1) (.int .i64 n6) fun h9=>ldI .i64 (rd h9 ((Addr.mk b1 0 none).add 0)) fun n10=>ldI .i64 (rd h9 ((Addr.mk b1 0 none).add 1)) fun n11=>K (.tuple #[.agg #[.int .i64 n10,.int .i64 n11],.bool b7]) h9):Cl 290 [.pointer (some a)] h K:=cN Tryz.func290 H
end
section
structure Qu(h:Heap)(lo q pi mb:Nat)(p:Option Addr)(c:Nat)(L:List It):Prop where
 at_:At h q [.pointer (some ⟨pi,0,none⟩)]
 pile:Pile h lo pi mb p c L
 heap:HeapN L L.length
 sep:lo≤q∧q≠pi∧q≠mb∧q∉OwnB p
theorem Qu.only{S:List Nat}{h h':Heap}{lo q pi mb:Nat}{p:Option Addr}{c:Nat}{L:List It}(H:Qu h lo q pi mb p c L)(O:Only S h h')(hS: ∀b∈q::pi::mb::OwnB p,b∉S):Qu h' lo q pi mb p c L:=
 ⟨H.at_.only O (hS _ (by simp)),H.pile.only O (hS _ (by simp)) (hS _ (by simp)) (fun b hb=>hS b (by simp[hb])),H.heap,H.sep⟩
theorem Qu.lt{h:Heap}{lo q pi mb:Nat}{p:Option Addr}{c:Nat}{L:List It}(H:Qu h lo q pi mb p c L): ∀b∈q::pi::mb::OwnB p,lo≤b∧b<h.size:=by
 intro b hb
 obtain⟨s1,s2,s3,s4⟩:=H.sep
 obtain⟨u1,u2,-⟩:=H.pile.sep
 obtain⟨v1,v2,v3⟩:=H.pile.lt
 simp only[List.mem_cons]at hb
 rcases hb with rfl|rfl|rfl|hb
 ·exact⟨s1,H.at_.lt⟩
 ·exact⟨u1,v1⟩
 ·exact⟨u2,v2⟩
 ·exact v3 b hb
def hasId(L:List It)(id:Int):Prop:= ∃k,k<L.length∧(atL L k).1=id
theorem assert57(v:Value)(K:Value→Prop):assertE Tryz.prog 357 false (.iface 357 v) K=K v:=by kernel_rfl
theorem store57(b:Nat)(n m:Int)(h:Heap)(K:Heap→Prop):storeE Tryz.prog 357 (some (Addr.mk b 0 none)) (.agg #[.int .i64 n,.int .i64 m]) h K=stK h (Addr.add (Addr.mk b 0 none) 0) (.int .i64 n) (fun h1=>stK h1 (Addr.add (Addr.mk b 0 none) 1) (.int .i64 m) K):=by kernel_rfl
section
variable {h:Heap}{lo q pi mb:Nat}{p:Option Addr}{c:Nat}{L:List It}{K:Value→Heap→Prop}{i j:Nat}
theorem qnew30(hK: ∀q pi mb h',Qu h' h.size q pi mb none 0 []→Only [] h h'→K (.pointer (some ⟨q,0,none⟩)) h'):Cl 288 [] h K:=by
 apply F288.spec
 have O1:=Only.push_map h #[] 0
 have m1:mp (h.push (.map #[] 0)) h.size=some (#[],0):=by simp[mp]
 have z1:(h.push (.map #[] 0)).size=h.size+1:=by simp
 show(fun b1 h2=>newK h2 (.cells #[(.slice none 0 0),(.map (some b1))] 374) (fun b3 h4=>newK h4 (.cells #[(.pointer (some (Addr.mk b3 0 none)))] 376) (fun b5 h6=>K (.pointer (some (Addr.mk b5 0 none))) h6))) h.size (h.push (.map #[] 0))
 generalize h.push (.map #[] 0)=h1 at*
 refine newK_at fun h2 A2 O2 z2=>newK_at fun h3 A3 O3 z3=> ?_
 have M1:MapM h1 h.size .i64 []:=MapM.empty m1
 have M3:=(M1.only O2 (by simp)).only O3 (by simp)
 refine hK h2.size h1.size h.size h3 ⟨A3,⟨A2.only O3 (by simp),Own.nil _ _ _,⟨fun _=>none,⟨[],M3,fun x=>rfl⟩,fun id i=>by simp⟩,by omega,by omega,by simp[OwnB],by simp[OwnB],by omega⟩,fun k h0 h1=>by simp at h1,by omega,by omega,by omega,by simp[OwnB]⟩ ((O1.trans O2 (by simp)).trans O3 (by simp))
theorem look_id{id:Int}{K:Option (Nat×Value)→Prop}(Q:Pile h lo pi mb p c L)(hN: ¬hasId L id→K none)(hS: ∀i k,k<L.length→(atL L k).1=id→K (some (i,.int .i64 (k:Int)))):lookK h (some mb) .i64 .i64 id K:=by
 obtain⟨f,hf,hok⟩:=Q.map
 refine look_mapF hf (fun e=>hN ?_) fun i k e=> ?_
 ·rintro ⟨k,hk,hid⟩
  rw[(hok id k).2 ⟨hk,hid⟩]at e
  cases e
 ·obtain⟨a,b⟩:=(hok id k).1 e
  exact hS i k a b
theorem qpush31{x:It}(Q:Qu h lo q pi mb p c L)(hl:L.length<90000)(hlo:lo≤h.size)(hT:hasId L x.1→K (.bool false) h)
  (hF: ¬hasId L x.1→ ∀h' p' c' L',Qu h' lo q pi mb p' c' L'→L'.Perm (L++[x])→Only (pi::mb::OwnB p) h h'→(∀b∈OwnB p',b∈OwnB p∨h.size≤b)→K (.bool true) h'):
  Cl 289 [.pointer (some ⟨q,0,none⟩),.int .i64 x.1,.int .i64 x.2] h K:=by
 apply F289.spec
 simp only[add_mk,Nat.zero_add]
 obtain⟨s1,s2,s3,s4⟩:=Q.sep
 refine ldP_of (by rw[Q.at_.rd];rfl) ?_
 simp only[ptrK_some,add_mk,Nat.zero_add]
 refine ldM_some' (by rw[Q.pile.at_.rd];rfl) (look_id Q.pile (fun hn=>ldI_of rfl ?_) fun i k hk hid=>ldI_of rfl ?_)
 ·rw[Option.isSome_none,bcase_false]
  refine ldP_of (by rw[Q.at_.rd];rfl) (push49 Q.pile Q.heap (fun k hk e=>hn ⟨k,hk,e⟩) hl hlo fun h1 p1 c1 L1 P1 p1' H1 O1 hp1=>⟨rfl,?_⟩)
  have hq:=Q.at_.lt
  refine hF hn h1 p1 c1 L1 ⟨Q.at_.only O1 (by simp[s2,s3,s4]),P1,H1,s1,s2,s3,fun hb=> ?_⟩ p1' O1 hp1
  rcases hp1 q hb with h3|h3
  ·exact s4 h3
  ·omega
 ·rw[Option.isSome_some,bcase_true]
  exact hT ⟨k,hk,hid⟩
theorem qlen33(Q:Qu h lo q pi mb p c L)(hK:K (.int .i64 (L.length:Int)) h):Cl 340 [.pointer (some ⟨q,0,none⟩)] h K:=by
 apply F340.spec
 simp only[add_mk,Nat.zero_add]
 exact ldP_of (by rw[Q.at_.rd];rfl) (len52 Q.pile (ldI_of rfl hK))
theorem qtaken51(Q:Qu h lo q pi mb p c L)(hl:L.length<90000)(hne:0<L.length)
  (hK: ∀h' M,Qu h' lo q pi mb p c M→(M++[atL L 0]).Perm L→Only (pi::mb::OwnB p) h h'→K (.agg #[.int .i64 (atL L 0).1,.int .i64 (atL L 0).2]) h'):Cl 311 [.pointer (some ⟨q,0,none⟩)] h K:=by
 apply F311.spec
 simp only[add_mk,Nat.zero_add]
 have lt:=Q.lt
 obtain⟨s1,s2,s3,s4⟩:=Q.sep
 refine newK_at fun h1 A1 O1 z1=> ?_
 have Q1:=Q.only O1 (by simp)
 refine ldP_of (by rw[Q1.at_.rd];rfl) (pop63 Q1.pile Q1.heap (by omega) hne fun h2 M P2 p2 H2 O2=> ?_)
 rw[ldV_some,assert57,store57]
 have hnS:h.size∉pi::mb::OwnB p:=fun hb=>by
  have:=(lt h.size (List.mem_cons_of_mem _ hb)).2
  omega
 simp only[add_mk,Nat.zero_add,Nat.add_zero]
 refine stK_at (A1.only O2 hnS) (by simp) rfl fun h3 A3 O3 z3=>stK_at A3 (by simp) rfl fun h4 A4 O4 z4=> ?_
 refine ldI_of (n:=(atL L 0).1) (by rw[A4.rd];rfl) (ldI_of (n:=(atL L 0).2) (by rw[A4.rd];rfl) ?_)
 have O34:=O3.trans O4 (by simp)
 have Q2:Qu h2 lo q pi mb p c M:=⟨Q1.at_.only O2 (by simp[s2,s3,s4]),P2,H2,s1,s2,s3,s4⟩
 refine hK h4 M (Q2.only O34 fun b hb=> ?_) p2 ?_
 ·have:=(lt b hb).2
  simp
  omega
 ·exact((O1.mono (T:=pi::mb::OwnB p) (by simp)).trans O2 fun b hb _=>hb).trans O34 (by simp)
theorem qpop32(Q:Qu h lo q pi mb p c L)(hl:L.length<90000)(hN:L=[]→ ∀h',Qu h' lo q pi mb p c []→Only [] h h'→K (.tuple #[.agg #[.int .i64 0,.int .i64 0],.bool false]) h')
  (hK: ∀h' M,0<L.length→Qu h' lo q pi mb p c M→(M++[atL L 0]).Perm L→Only (pi::mb::OwnB p) h h'→K (.tuple #[.agg #[.int .i64 (atL L 0).1,.int .i64 (atL L 0).2],.bool true]) h'):Cl 290 [.pointer (some ⟨q,0,none⟩)] h K:=by
 apply F290.spec
 have lt:=Q.lt
 refine newK_at fun h1 A1 O1 z1=> ?_
 have Q1:=Q.only O1 (by simp)
 apply F310.spec
 refine newK_at fun h2 A2 O2 z2=> ?_
 have Q2:=Q1.only O2 (by simp)
 simp only[add_mk,Nat.zero_add]
 refine qlen33 Q2 (ldI_of rfl ?_)
 have frame: ∀{h3 h4:Heap} {M:List It} {x:Nat},Qu h3 lo q pi mb p c M→Only [x] h3 h4→h.size≤x→Qu h4 lo q pi mb p c M:=fun Q3 O hx=>Q3.only O fun b hb=>by
  have:=(lt b hb).2
  simp
  omega
 have B2:=A1.only O2 (by simp)
 by_cases hL:L=[]
 ·subst hL
  rw[show(((([]:List It).length:Int))==(0:Int))=true from rfl,bcase_true]
  refine stK_at A2 (by simp) rfl fun h3 A3 O3 z3=>stK_at A3 (by simp) rfl fun h4 A4 O4 z4=> ?_
  refine ldI_of (n:=0) (by rw[A4.rd];rfl) (ldI_of (n:=0) (by rw[A4.rd];rfl) ⟨_,_,_,rfl,?_⟩)
  have O34:=O3.trans O4 (by simp)
  refine stK_at (B2.only O34 (by simp;omega)) (by simp) rfl fun h5 A5 O5 z5=>stK_at A5 (by simp) rfl fun h6 A6 O6 z6=> ?_
  refine ldI_of (n:=0) (by rw[A6.rd];rfl) (ldI_of (n:=0) (by rw[A6.rd];rfl) ?_)
  have O56:=O5.trans O6 (by simp)
  exact hN rfl h6 (frame (frame Q2 O34 (by omega)) O56 (by omega)) (((O1.trans O2 (by simp)).nil O34 (by simp;omega)).nil O56 (by simp))
 ·have hpos:0<L.length:=List.length_pos_iff.2 hL
  rw[show((L.length:Int)==(0:Int))=false by simp;omega,bcase_false]
  refine qtaken51 Q2 hl hpos fun h3 M Q3 p3 O3=>⟨_,_,rfl,?_⟩
  have hnS: ∀x,h.size≤x→x∉pi::mb::OwnB p:=fun x hx hb=>by
   have:=(lt x (List.mem_cons_of_mem _ hb)).2
   omega
  refine stK_at (A2.only O3 (hnS _ (by omega))) (by simp) rfl fun h4 A4 O4 z4=>stK_at A4 (by simp) rfl fun h5 A5 O5 z5=> ?_
  refine ldI_of (n:=(atL L 0).1) (by rw[A5.rd];rfl) (ldI_of (n:=(atL L 0).2) (by rw[A5.rd];rfl) ⟨_,_,_,rfl,?_⟩)
  have O45:=O4.trans O5 (by simp)
  refine stK_at ((B2.only O3 (hnS _ (by omega))).only O45 (by simp;omega)) (by simp) rfl fun h6 A6 O6 z6=>stK_at A6 (by simp) rfl fun h7 A7 O7 z7=> ?_
  refine ldI_of (n:=(atL L 0).1) (by rw[A7.rd];rfl) (ldI_of (n:=(atL L 0).2) (by rw[A7.rd];rfl) ?_)
  have O67:=O6.trans O7 (by simp)
  refine hK h7 M hpos (frame (frame Q3 O45 (by omega)) O67 (by omega)) p3 ?_
  have g1:Only (pi::mb::OwnB p) h h3:=((O1.trans O2 (by simp)).mono (T:=pi::mb::OwnB p) (by simp)).trans O3 fun b hb _=>hb
  exact(g1.trans O45 (by simp;omega)).trans O67 (by simp)
end
end
section
theorem go257:xget X 257=some Ext.go:=by kernel_rfl
theorem go290:xget X 290=some Ext.go:=by kernel_rfl
section
variable {h h':Heap}{s n room lo c k v level:Nat}{fo gg fo' gg':Nat→Nat}{off:Bool}{L L':List Nat}{p:Option Addr}{K:Value→Heap→Prop}
theorem km_nil{mo:List (Int×Value)}{keep:Nat→Bool}(H:KM mo keep)(e: ∀b,keep b=true↔ ∃r∈([]:List Nat),Rch [] r b):mo=[]:=by
 cases mo with
 |nil=>rfl
 |cons q l=>
  obtain⟨k,hk,-⟩:=H.2 q (by simp)
  obtain⟨r,hr,-⟩:=(e k).1 hk
  cases hr
theorem size_nil(S:Sft h s n room fo gg off L lo p c)(hK: ∀h',Only [] h h'→K (.int .i64 0) h'):Cl 255 [sfV s p c] h K:=by
 refine F255.spec _ _ _ _ h K ?_
 refine newK_at fun h1 A1 O1 z1=> ?_
 simp only[add_mk,Nat.zero_add]
 refine ldP_of (n:=some ⟨s,0,none⟩) (by rw[At.rd A1];rfl) (ldS_of (p:=p) (l:=0) (c:=c) (by rw[At.rd A1];rfl) ?_)
 have S1:=S.only0 O1
 refine F51.spec _ _ _ _ h1 _ ?_
 refine reached107 (rs:=[]) S1.S S1.Ow (fun r hr=>by cases hr) (by simp) fun h2 mb mo keep M Kp gm e O2=>⟨_,_,rfl,?_⟩
 have em:=km_nil Kp e
 subst em
 obtain⟨es,cl,m1,m2,-⟩:=M
 refine⟨es,cl,m1,_,_,rfl,?_⟩
 have e0:es.size=0:=by
  have:=congrArg List.length m2
  simpa using this
 rw[e0]
 exact hK h2 (O1.trans O2 (by simp))
set_option maxRecDepth 100000 in
theorem tries_nil(S:Sft h s n room fo gg off L lo p c)(hv:v<n)
  (hK: ∀h' L' fo' gg',Sft h' s n room fo' gg' off L' lo p c→Only L h h'→Fresh L L' h→K (.int .i64 0) h'):Cl 257 [sfV s p c,.int .i64 (v:Int)] h K:=by
 have ok:=S.S.ok
 dsimp only[XL]at ok
 have n8:=ok.2.2.1
 refine F257.spec _ _ _ _ _ h K ?_
 refine newK_at fun h1 A1 O1 z1=> ?_
 simp only[add_mk,Nat.zero_add]
 have S1:=S.only0 O1
 refine ldP_of (n:=some ⟨s,0,none⟩) (by rw[At.rd A1];rfl) (sto_vars S1.S (ldI_of rfl ?_))
 unfold F257.wk3
 have nb:h.size∉L:=fun hm=>by have:=S.S.lt _ hm;omega
 have main: ∀(d l:Nat) (k:Heap) (L1:List Nat) (fo1 gg1:Nat→Nat) (least:Int),l+d=n→((l=0∧least= -1)∨least=0)→Sft k s n room fo1 gg1 off L1 lo p c→h.size∉L1→At k h.size [ptrV s,.slice p 0 c]→Only L h1 k→Fresh L L1 h1→
   F257.wL3 (d+1) (v:Int) ⟨h.size,0,none⟩ 0 least (n:Int) (l:Int) k K:=by
  intro d
  induction d with
  |zero=>
   intro l k L1 fo1 gg1 least hl hx S2 nb2 A O F
   rw[F257.sL3]
   rw[decide_eq_false (by omega),bcase_false]
   unfold F257.wk12
   simp only[add_mk,Nat.zero_add]
   refine ldP_of (n:=some ⟨s,0,none⟩) (by rw[At.rd A];rfl) (ldS_of (p:=p) (l:=0) (c:=c) (by rw[At.rd A];rfl) ?_)
   refine puts_nil (level:=0) S2 hv (by omega) fun h3 L3 fo3 gg3 S3 O3 F3=>ldI_of rfl ?_
   have O13:=O.app O3 F
   have F13:=F.trans F3 O.size
   exact hK h3 L3 fo3 gg3 S3 ((O1.mono (by simp)).trans O13 fun y hy _=>hy) fun y hy=>(F13 y hy).imp id fun q=>by have:=O1.size;omega
  |succ d ih=>
   intro l k L1 fo1 gg1 least hl hx S2 nb2 A O F
   rw[F257.sL3]
   rw[decide_eq_true (by omega),bcase_true]
   simp only[add_mk,Nat.zero_add]
   refine ldP_of (n:=some ⟨s,0,none⟩) (by rw[At.rd A];rfl) (ldS_of (p:=p) (l:=0) (c:=c) (by rw[At.rd A];rfl) ?_)
   refine puts_nil (level:=l) S2 hv (by omega) fun h3 L3 fo3 gg3 S3 O3 F3=>ldI_of rfl ?_
   rw[show((0:Int) !=0)=false from rfl,bcase_false]
   have lA:=A.lt
   have A3:=A.only O3 nb2
   have nb3:h.size∉L3:=fun hm=>by
    rcases F3 _ hm with q|q
    ·exact nb2 q
    ·omega
   refine ldP_of (n:=some ⟨s,0,none⟩) (by rw[At.rd A3];rfl) (ldS_of (p:=p) (l:=0) (c:=c) (by rw[At.rd A3];rfl) ?_)
   refine size_nil S3 fun h4 O4=>ldI_of rfl ?_
   have S4:=S3.only0 O4
   have A4:=A3.only O4 (by simp)
   have O34:Only L1 k h4:=O3.trans (O4.mono (by simp)) fun y hy _=>hy
   have O14:=O.app O34 F
   have F14:=F.trans F3 O.size
   have ew:IntKind.wrap .i64 ((l:Int)+1)=((l+1:Nat):Int):=by rw[wrap_i64 (by omega) (by omega)];omega
   rw[ew]
   rcases hx with⟨q1,q2⟩|q2
   ·subst q1 q2
    rw[show decide ((-1:Int)<0)=true from rfl,bcase_true]
    exact ih 1 h4 L3 fo3 gg3 0 (by omega) (.inr rfl) S4 nb3 A4 O14 F14
   ·subst q2
    rw[show decide ((0:Int)<0)=false from rfl,bcase_false,bcase_false]
    exact ih (l+1) h4 L3 fo3 gg3 0 (by omega) (.inr rfl) S4 nb3 A4 O14 F14
 exact⟨_,main n 0 h1 L fo gg (-1) (by omega) (.inl ⟨rfl,rfl⟩) S1 nb A1 (Only.refl _ _) (Fresh.refl _ _)⟩
end
end
section
structure Pl(h0 k:Heap)(n lo q pi mb:Nat)(pp:Option Addr)(cc:Nat)(M:List It)(zp:Option Addr)(zc:Nat)(zs:List Int):Prop where
 Q:Qu k lo q pi mb pp cc M
 W:Own k h0.size 1 zp zs.length zc (zs.map (Value.int .i64))
 d: ∀y∈OwnB zp,y∉q::pi::mb::OwnB pp
 O:Only [] h0 k
 l:h0.size≤lo
 mi: ∀x∈M,∃i:Nat,i<n∧x.1=(i:Int)
 zi: ∀z∈zs,∃i:Nat,i<n∧z=(i:Int)
 len:M.length+zs.length≤50
section
variable {h h0 h':Heap}{s n room lo c k v level q pi mb cc zc:Nat}{fo gg fo' gg':Nat→Nat}{off:Bool}{L L':List Nat}{p pp zp:Option Addr}{K:Value→Heap→Prop}{M:List It}{zs:List Int}
theorem Pl.only0(P:Pl h0 h n lo q pi mb pp cc M zp zc zs)(O:Only [] h h'):Pl h0 h' n lo q pi mb pp cc M zp zc zs:=
 ⟨P.Q.only O (fun b hb=>by simp),P.W.only O (by simp),P.d,P.O.trans O (by simp),P.l,P.mi,P.zi,P.len⟩
theorem Pl.onlyB{b:Nat}(P:Pl h0 h n lo q pi mb pp cc M zp zc zs)(O:Only [b] h h')(hb:h0.size≤b)(h1:b∉q::pi::mb::OwnB pp)(h2:b∉OwnB zp):Pl h0 h' n lo q pi mb pp cc M zp zc zs:=
 ⟨P.Q.only O (fun y hy hm=>by simp only[List.mem_singleton]at hm;subst hm;exact h1 hy),P.W.only O (fun y e hm=>by simp only[List.mem_singleton]at hm;subst hm;exact h2 (by rw[e];simp[OwnB])),P.d,P.O.trans O (fun y hy hl=>by simp only[List.mem_singleton]at hy;omega),P.l,P.mi,P.zi,P.len⟩
theorem Pl.lt(P:Pl h0 h n lo q pi mb pp cc M zp zc zs):(∀y∈q::pi::mb::OwnB pp,y<h.size)∧ ∀y∈OwnB zp,y<h.size:=⟨fun y hy=>(P.Q.lt y hy).2,fun y hy=>(P.W.lt y hy).2⟩
theorem pop_pl(P:Pl h0 h n lo q pi mb pp cc M zp zc zs)(hN: ∀h',Pl h0 h' n lo q pi mb pp cc [] zp zc zs→Only [] h h'→K (.tuple #[.agg #[.int .i64 0,.int .i64 0],.bool false]) h')
  (hK: ∀h' M' (i:Nat) (z:Int),i<n→M'.length+1=M.length→Pl h0 h' n lo q pi mb pp cc M' zp zc zs→Only (pi::mb::OwnB pp) h h'→K (.tuple #[.agg #[.int .i64 (i:Int),.int .i64 z],.bool true]) h'):
  Cl 290 [.pointer (some ⟨q,0,none⟩)] h K:=by
 have pl:=P.len
 refine qpop32 P.Q (by omega) (fun e h1 Q1 O1=> ?_) fun h1 M1 hl Q1 pm O1=> ?_
 ·subst e
  exact hN h1 ⟨Q1,P.W.only O1 (by simp),P.d,P.O.trans O1 (by simp),P.l,P.mi,P.zi,P.len⟩ O1
 ·have e1:M1.length+1=M.length:=by
   have:=pm.length_eq
   simpa using this
  have m0:atL M 0∈M:=pm.subset (by simp)
  obtain⟨i,hi,ei⟩:=P.mi _ m0
  rw[ei]
  refine hK h1 M1 i _ hi e1 ⟨Q1,P.W.only O1 fun y e hm=>P.d y (by rw[e];simp[OwnB]) (List.mem_cons_of_mem _ hm),P.d,P.O.trans O1 fun y hy hl=>by have:=(P.Q.lt y (List.mem_cons_of_mem _ hy)).1;have:=P.l;omega,P.l,fun x hx=>P.mi x (pm.subset (by simp[hx])),P.zi,by omega⟩ O1
set_option maxRecDepth 100000 in
theorem pops(hK: ∀(h':Heap) (zp:Option Addr) (zc:Nat) (zs:List Int),Own h' h0.size 1 zp zs.length zc (zs.map (Value.int .i64))→(∀z∈zs,∃i:Nat,i<n∧z=(i:Int))→zs.length≤50→Only [] h0 h'→K (.tuple #[.slice zp zs.length zc,.int .i64 0]) h'):
  ∀(gas:Nat) {h:Heap} {M:List It} {zp:Option Addr} {zc:Nat} {zs:List Int} {b:Nat} {t:Bool},1≤gas→(t=true→M.length+2≤gas)→Pl h0 h n lo q pi mb pp cc M zp zc zs→(t=true→zs.length+M.length<50∧(∃i:Nat,i<n∧ ∃z:Int,At h b [.int .i64 (i:Int),.int .i64 z])∧b∉OwnB zp)→
   F256.wL14 gas zp zs.length zc (.func (.func 290) #[.pointer (some ⟨q,0,none⟩)] #[]) ⟨b,0,none⟩ t h K:=by
 intro gas
 induction gas with
 |zero=>intro h M zp zc zs b t hg;omega
 |succ gas ih=>
  intro h M zp zc zs b t _ hg P ht
  rw[F256.sL14]
  cases t with
  |false=>
   rw[bcase_false]
   exact hK h zp zc zs P.W P.zi (by have:=P.len;omega) P.O
  |true=>
   have hg:=hg rfl
   obtain⟨hz,⟨i,hi,z,A⟩,nb⟩:=ht rfl
   rw[bcase_true]
   simp only[add_mk,Nat.zero_add]
   refine ldI_of (n:=(i:Int)) (by rw[At.rd A];rfl) (newK_at fun h3 A3 O3 z3=> ?_)
   have P3:=P.only0 O3
   have l3:=P3.lt
   have s0:=P3.O.size
   refine own_appN (new:=[.int .i64 (i:Int)]) (q:=some ⟨h.size,0,none⟩) P3.W rfl (isRow_at A3 (by simp)) rfl (by omega) (by simp[Value.oneCell']) (by omega) fun zp' zc' h7 W7 O7 g7=> ?_
   have e9:zs.map (Value.int .i64)++[Value.int .i64 (i:Int)]=(zs++[(i:Int)]).map (Value.int .i64):=by simp
   have e10:zs.length+1=(zs++[(i:Int)]).length:=by simp
   rw[e9,e10]at W7
   rw[e10]
   have P7:Pl h0 h7 n lo q pi mb pp cc M zp' zc' (zs++[(i:Int)]):=by
    refine⟨P3.Q.only O7 fun y hy hm=>P3.d y hm hy,W7,fun y hy hm=> ?_,P3.O.trans O7 fun y hy hl=>by have:=(P3.W.lt y hy).1;omega,P3.l,P3.mi,fun w hw=> ?_,by simp;omega⟩
    ·rcases g7 y hy with q|q
     ·exact P3.d y q hm
     ·have:=l3.1 y hm;omega
    ·rcases List.mem_append.1 hw with q|q
     ·exact P3.zi w q
     ·simp only[List.mem_singleton]at q
      exact⟨i,hi,q⟩
   have A7:=(A.only O3 (by simp)).only O7 nb
   have nb7:b∉OwnB zp':=fun hm=>by
    rcases g7 b hm with q|q
    ·exact nb q
    ·have:=(A.only O3 (by simp)).lt;omega
   refine ldI_of (n:=(i:Int)) (by rw[At.rd A7];rfl) (ldI_of (n:=z) (by rw[At.rd A7];rfl) (newK_at fun h11 A11 O11 z11=> ?_))
   have P11:=P7.only0 O11
   have l7:=P7.lt
   have s7:=P7.O.size
   have n1:h7.size∉q::pi::mb::OwnB pp:=fun hm=>by have:=l7.1 _ hm;omega
   have n2:h7.size∉OwnB zp':=fun hm=>by have:=l7.2 _ hm;omega
   refine stK_at A11 (by simp) rfl fun h12 A12 O12 z12=>stK_at A12 (by simp) rfl fun h13 A13 O13 z13=> ?_
   have P13:=(P11.onlyB O12 (by omega) n1 n2).onlyB O13 (by omega) n1 n2
   refine dynK_go go290 (pop_pl P13 (fun h15 P15 O15=>⟨_,_,_,rfl,?_⟩) fun h15 M' i' z' hi' hM P15 O15=>⟨_,_,_,rfl,?_⟩)
   ·have A15:=A13.only O15 (by simp)
    refine stK_at A15 (by simp) rfl fun h16 A16 O16 z16=>stK_at A16 (by simp) rfl fun h17 A17 O17 z17=> ?_
    exact ih (by omega) (fun e=>by cases e) ((P15.onlyB O16 (by omega) n1 n2).onlyB O17 (by omega) n1 n2) fun e=>by cases e
   ·have A15:=A13.only O15 fun hm=>n1 (List.mem_cons_of_mem _ hm)
    refine stK_at A15 (by simp) rfl fun h16 A16 O16 z16=>stK_at A16 (by simp) rfl fun h17 A17 O17 z17=> ?_
    exact ih (by omega) (fun _=>by omega) ((P15.onlyB O16 (by omega) n1 n2).onlyB O17 (by omega) n1 n2) fun _=>⟨by simp;omega,⟨i',hi',z',A17⟩,n2⟩
set_option maxRecDepth 100000 in
theorem plan_nil(S:Sft h s n room fo gg off L lo p c)
  (hK: ∀(h':Heap) (zp:Option Addr) (zc:Nat) (zs:List Int),Own h' h.size 1 zp zs.length zc (zs.map (Value.int .i64))→(∀z∈zs,∃i:Nat,i<n∧z=(i:Int))→zs.length≤50→Only [] h h'→K (.tuple #[.slice zp zs.length zc,.int .i64 0]) h'):
  Cl 256 [ptrV s,.slice p 0 c] h K:=by
 have ok:=S.S.ok
 dsimp only[XL]at ok
 have n8:=ok.2.2.1
 refine F256.spec _ _ _ _ h K ?_
 refine levels271 (rs:=[]) S.S S.Ow (fun r hr=>by cases hr) (by simp) fun h1 b g A1 gb sem g4 O1=>⟨_,_,_,_,rfl,?_⟩
 rw[show((0:Int) !=0)=false from rfl,bcase_false]
 have S1:=S.only0 O1
 refine qnew30 fun q pi mb h2 Q2 O2=>ldP_of rfl ?_
 have S2:=S1.only0 O2
 refine sto_order S2.S fun oc h3 Or g3 O3=>ldP_of rfl ?_
 have s1:=O1.size
 have s2:=O2.size
 have s3:=O3.size
 have lA:=A1.lt
 unfold F256.wk7
 have main: ∀(d l:Nat) (k:Heap) (pp:Option Addr) (cc:Nat) (M:List It),l+d=n→Pl h k n h1.size q pi mb pp cc M none 0 []→M.length≤l→At k b (zL n g)→OrdIs k oc n fo gg→oc∉q::pi::mb::OwnB pp→oc<k.size→
   F256.wL7 (d+1) (some ⟨q,0,none⟩) (some ⟨oc,0,none⟩) (some ⟨b,0,none⟩) n n (n:Int) (l:Int) k K:=by
  intro d
  induction d with
  |zero=>
   intro l k pp cc M hl P hM A Or no lo
   rw[F256.sL7]
   rw[decide_eq_false (by omega),bcase_false]
   unfold F256.wk11
   have fin: ∀(k2:Heap) (M2:List It) (i z:Int) (t:Bool),Pl h k2 n h1.size q pi mb pp cc M2 none 0 []→M2.length≤20→(t=true→ ∃j:Nat,j<n∧i=(j:Int))→newK k2 (.cells #[(.int .i64 (0:Int)),(.int .i64 (0:Int))] 357) (fun b8 h9=>stK h9 (Addr.add (Addr.mk b8 0 none) 0) (.int .i64 i) (fun h10=>stK h10 (Addr.add (Addr.mk b8 0 none) 1) (.int .i64 z) (fun h11=>F256.wk14 none 0 0 (.func (.func 290) #[(.pointer (some ⟨q,0,none⟩))] #[]) (Addr.mk b8 0 none) t h11 K))):=by
    intro k2 M2 i z t P2 h20 hj
    refine newK_at fun k3 B3 P3 y3=> ?_
    have l2:=P2.lt
    have s2:=P2.O.size
    simp only[add_mk,Nat.zero_add]
    have n1:k2.size∉q::pi::mb::OwnB pp:=fun hm=>by have:=l2.1 _ hm;omega
    refine stK_at B3 (by simp) rfl fun k4 B4 P4 y4=>stK_at B4 (by simp) rfl fun k5 B5 P5 y5=> ?_
    have PP:=((P2.only0 P3).onlyB P4 (by omega) n1 (by simp[OwnB])).onlyB P5 (by omega) n1 (by simp[OwnB])
    unfold F256.wk14
    refine⟨30,pops (zs:=[]) hK 30 (by omega) (fun _=>by omega) PP fun e=>⟨by simp;omega,?_,by simp[OwnB]⟩⟩
    obtain⟨j,hj2,ej⟩:=hj e
    subst ej
    exact⟨j,hj2,z,B5⟩
   exact pop_pl P (fun k2 P2 O2=>⟨_,_,_,rfl,fin k2 [] 0 0 false P2 (by simp) fun e=>by cases e⟩) fun k2 M2 i z hi hM2 P2 O2=>⟨_,_,_,rfl,fin k2 M2 (i:Int) z true P2 (by omega) fun _=>⟨i,hi,rfl⟩⟩
  |succ d ih=>
   intro l k pp cc M hl P hM A Or no lo
   rw[F256.sL7]
   rw[decide_eq_true (by omega),bcase_true,ptrK_some]
   refine⟨by omega,by omega,?_⟩
   rw[add_mk,Nat.zero_add,Int.toNat_natCast,Nat.mul_one]
   refine ldI_of (n:=(g l:Int)) (by rw[At.rd A,zL_get (by omega)]) (ord_var Or n8 (by omega) (ldI_of rfl ?_))
   have ew:IntKind.wrap .i64 ((l:Int)+1)=((l+1:Nat):Int):=by rw[wrap_i64 (by omega) (by omega)];omega
   rw[ew]
   have fl:=(S.P.2 l (by omega)).1
   have pz:=P.O.size
   refine qpush31 (x:=((fo l:Int),(g l:Int))) P.Q (by have:=P.len;omega) (by have:=P.Q.sep.1;have:=P.Q.at_.lt;omega) (fun _=>ldB_of rfl (ih (l+1) k pp cc M (by omega) P (by omega) A Or no lo)) fun _ k2 p2 c2 M2 Q2 pm O2 own=>ldB_of rfl ?_
   have lt:=P.lt
   have bA:=A.lt
   have hb:b∉pi::mb::OwnB pp:=fun hm=>by have:=(P.Q.lt b (List.mem_cons_of_mem _ hm)).1;omega
   have lM:M2.length=M.length+1:=by have:=pm.length_eq;simpa using this
   refine ih (l+1) k2 p2 c2 M2 (by omega) ⟨Q2,Own.nil _ _ _,fun y hy=>(by simp[OwnB]at hy),P.O.trans O2 fun y hy hl=>by have:=(P.Q.lt y (List.mem_cons_of_mem _ hy)).1;omega,P.l,fun x hx=> ?_,fun z hz=>(by cases hz),by simp;omega⟩ (by omega) (A.only O2 hb) (Or.only O2 fun hm=>no (List.mem_cons_of_mem _ hm)) (fun hm=> ?_) (by have:=O2.size;omega)
   ·rcases List.mem_append.1 (pm.subset hx)with q|q
    ·exact P.mi x q
    ·simp only[List.mem_singleton]at q
     subst q
     exact⟨fo l,fl,rfl⟩
   ·rcases List.mem_cons.1 hm with q|q
    ·exact no (by rw[q];simp)
    ·rcases List.mem_cons.1 q with q|q
     ·exact no (by rw[q];simp)
     ·rcases List.mem_cons.1 q with q|q
      ·exact no (by rw[q];simp)
      ·rcases own oc q with q|q
       ·exact no (by simp[q])
       ·omega
 have O03:=(O1.trans O2 (by simp)).trans O3 (by simp)
 refine⟨_,main n 0 h3 none 0 [] (by omega) ⟨Q2.only O3 (fun b hb=>by simp),Own.nil _ _ _,fun y hy=>(by simp[OwnB]at hy),O03,s1,fun x hx=>(by cases hx),fun z hz=>(by cases hz),by simp⟩ (Nat.le_refl _) ((A1.only O2 (by simp)).only O3 (by simp)) Or (fun hm=> ?_) Or.lt⟩
 have:=(Q2.lt oc hm).2
 omega
end
end
section
section
variable {h h0 h':Heap}{s n room lo c:Nat}{fo gg:Nat→Nat}{off:Bool}{L L':List Nat}{p:Option Addr}{K:Value→Heap→Prop}
theorem room_nil(hK: ∀h',Only [] h h'→K (.int .i64 200) h'):Cl 254 [.slice p 0 c] h K:=by
 refine F254.spec _ _ _ h K ?_
 refine newK_map4 (k:= .u32) fun h1 M1 O1 z1=> ?_
 unfold F254.wk3
 refine⟨1,?_⟩
 rw[F254.sL3]
 rw[decide_eq_false (by decide),bcase_false]
 unfold F254.wk8
 obtain⟨es,cl,m1,m2,-⟩:=M1
 refine⟨es,cl,m1,?_⟩
 have e0:es.size=0:=by
  have:=congrArg List.length m2
  simpa using this
 rw[e0]
 exact hK h1 O1
set_option maxRecDepth 100000 in
theorem sift_nil(S:Sft h s n room fo gg off L lo p c)(hr:200≤room)
  (hK: ∀h' L' fo' gg',Sft h' s n room fo' gg' off L' lo p c→Only L h h'→Fresh L L' h→K (.tuple #[.int .i64 0,.int .i64 0,.int .i64 0]) h'):Cl 212 [ptrV s,.slice p 0 c] h K:=by
 have ok:=S.S.ok
 dsimp only[XL]at ok
 refine F212.spec _ _ _ _ h K ?_
 refine collect_nil S fun h1 L1 gone S1 O1 F1=>⟨_,_,rfl,?_⟩
 rw[show((0:Int) !=0)=false from rfl,bcase_false]
 refine room_nil fun h2 O2=>ldI_of rfl ?_
 have S2:=S1.only0 O2
 refine sto_room S2.S (ldI_of rfl ?_)
 rw[decide_eq_false (by show ¬(200:Int)>((room:Nat):Int);omega),bcase_false]
 refine newK_at fun h3 A3 O3 z3=> ?_
 simp only[add_mk,Nat.zero_add]
 refine stK_at A3 (by simp) rfl fun h4 A4 O4 z4=>stK_at A4 (by simp) rfl fun h5 A5 O5 z5=> ?_
 have A5:At h5 h2.size [ptrV s,.slice p 0 c]:=A5
 have O25:Only [] h2 h5:=(O3.trans O4 (by intro y hy hl;simp only[List.mem_singleton]at hy;omega)).trans O5 (by intro y hy hl;simp only[List.mem_singleton]at hy;omega)
 have S5:=S2.only0 O25
 refine ldP_of (n:=some ⟨s,0,none⟩) (by rw[At.rd A5];rfl) (ldS_of (p:=p) (l:=0) (c:=c) (by rw[At.rd A5];rfl) ?_)
 refine size_nil S5 fun h6 O6=>ldI_of rfl ?_
 have S6:=S5.only0 O6
 refine plan_nil S6 fun h7 zp zc zs W7 zi zl O7=>⟨_,_,_,_,rfl,?_⟩
 have S7:=S6.only0 O7
 have A7:=(A5.only O6 (by simp)).only O7 (by simp)
 refine ldP_of (n:=some ⟨s,0,none⟩) (by rw[At.rd A7];rfl) (ldS_of (p:=p) (l:=0) (c:=c) (by rw[At.rd A7];rfl) ?_)
 have s2:=O2.size
 have nb:h2.size∉L1:=fun hm=>by have:=S2.S.lt _ hm;omega
 have l6:=S6.S.lt
 have nz: ∀y∈OwnB zp,y∉L1∧y<h7.size:=fun y hy=>⟨fun hm=>by have:=(W7.lt y hy).1;have:=l6 y hm;omega,(W7.lt y hy).2⟩
 unfold F212.wk11
 have main: ∀(d i:Nat) (k:Heap) (L2:List Nat) (fo2 gg2:Nat→Nat),i+d=zs.length→Sft k s n room fo2 gg2 off L2 lo p c→h2.size∉L2→(∀y∈OwnB zp,y∉L2)→At k h2.size [ptrV s,.slice p 0 c]→Own k h6.size 1 zp zs.length zc (zs.map (Value.int .i64))→Only L1 h7 k→Fresh L1 L2 h7→
   F212.wL11 (d+1) 0 0 ⟨h2.size,0,none⟩ (.func (.func 257) #[sfV s p c] #[]) zp zs.length zc (zs.length:Int) (i:Int) k K:=by
  intro d
  induction d with
  |zero=>
   intro i k L2 fo2 gg2 hi Sk nk nzk A W O F
   rw[F212.sL11]
   rw[decide_eq_false (by omega),bcase_false]
   unfold F212.wk17
   simp only[add_mk,Nat.zero_add]
   refine ldP_of (n:=some ⟨s,0,none⟩) (by rw[At.rd A];rfl) (ldS_of (p:=p) (l:=0) (c:=c) (by rw[At.rd A];rfl) ?_)
   refine size_nil Sk fun k2 O2'=>ldI_of rfl ?_
   have O17:Only L1 h1 h7:=((O2.trans O25 (by simp)).trans (O6.trans O7 (by simp)) (by simp)).mono (by simp)
   have Oa:Only L1 h1 k2:=(O17.trans O fun y hy _=>hy).trans (O2'.mono (by simp)) fun y hy _=>hy
   have Fa:Fresh L1 L2 h1:=fun y hy=>(F y hy).imp id fun q=>by have:=O17.size;omega
   exact hK k2 L2 fo2 gg2 (Sk.only0 O2') (O1.app Oa F1) (F1.trans Fa O1.size)
  |succ d ih=>
   intro i k L2 fo2 gg2 hi Sk nk nzk A W O F
   rw[F212.sL11]
   rw[decide_eq_true (by omega),bcase_true]
   obtain⟨bz,ez,rr⟩:=W.rd (j:=i) (by simp;omega)
   rw[ez,ptrK_some,←ez]
   refine⟨by omega,by omega,?_⟩
   rw[add_mk,Nat.zero_add,show Int.toNat (i:Int)*1=i by omega,rr]
   obtain⟨z,hz⟩: ∃z,zs[i]? =some z:=⟨_,List.getElem?_eq_getElem (by omega)⟩
   obtain⟨v,hv,ev⟩:=zi z (List.mem_of_getElem? hz)
   refine ldI_of (n:=z) (by simp[hz]) ?_
   subst ev
   refine dynK_go go257 (tries_nil Sk hv fun k2 L3 fo3 gg3 S3 O3' F3=>ldI_of rfl ?_)
   rw[show((0:Int) !=0)=false from rfl,bcase_false,show IntKind.wrap .i64 ((i:Int)+1)=((i+1:Nat):Int) by rw[wrap_i64 (by omega) (by omega)];omega]
   have lA:=A.lt
   refine ih (i+1) k2 L3 fo3 gg3 (by omega) S3 (fun hm=> ?_) (fun y hy hm=> ?_) (A.only O3' nk) (W.only O3' fun b e=>nzk b (by rw[e];simp[OwnB])) (O.app O3' F) (F.trans F3 O.size)
   ·rcases F3 _ hm with q|q
    ·exact nk q
    ·omega
   ·rcases F3 y hm with q|q
    ·exact nzk y hy q
    ·have:=(W.lt y hy).2;omega
 exact⟨_,main zs.length 0 h7 L1 fo gg (by omega) S7 nb (fun y hy=>(nz y hy).1) A7 W7 (Only.refl _ _) (Fresh.refl _ _)⟩
end
end
section
theorem F215.spec(x0c0:Addr)(h:Heap)(K:KK)(H:Cl 264 [.func (.func 266) #[] #[.pointer (some x0c0)]] h fun v1 h2=>ldS (some v1) fun p3 l4 c5=>Cl 265 [.slice p3 l4 c5] h2 fun v6 h7=>v6=(.tuple #[])∧K (.slice p3 l4 c5) h7):Cl 215 [.func (.func 266) #[] #[.pointer (some x0c0)]] h K:=cN Tryz.func215 H
theorem F216.spec(a:Option Nat)(h:Heap)(K:KK)(H:newK h (.cells #[.map a] 154) fun b1 h2=>K (.func (.func 266) #[] #[.pointer (some (Addr.mk b1 0 none))]) h2):Cl 216 [.map a] h K:=cN Tryz.func216 H
theorem F264.spec(x0c0:Addr)(h:Heap)(K:KK)(H:Cl 297 [.slice none 0 0,.func (.func 266) #[] #[.pointer (some x0c0)]] h fun v1 h2=>ldS (some v1) fun p3 l4 c5=>K (.slice p3 l4 c5) h2):Cl 264 [.func (.func 266) #[] #[.pointer (some x0c0)]] h K:=cN Tryz.func264 H
end
namespace IN
open Go Go.RowKit Go.Maps
theorem uI3:Tryz.prog.underlying 3=some (.int .i64):=by kernel_rfl
theorem u154:Tryz.prog.underlying 154=some (.map 3 167):=by kernel_rfl
theorem u84:Tryz.prog.underlying 84=some (.slice 3):=by kernel_rfl
set_option maxRecDepth 100000 in
set_option maxHeartbeats 2000000 in
theorem keysN{F:Fence}{n:Nat}(h66:F.fn 266)(hro:F.round=none)(hn:1≤n)(l Bm b nn:Nat)(D0:DataW Unit)(J:List Int→World→Prop)
  (hY: ∀pre x W,J pre W→pre.length<Maps.size D0→YieldAt F (n-1) Tryz.prog l #[.int .i64 x] W fun e W'=>e= .returned (.bool true)∧J (pre++[x]) W'∧KeepsWalks W W')
  (W:World) (hJ:AbidesZ W.heap.size J) (hm:W.cell? ⟨Bm,0,none⟩=some (.map (some b))) (hown:W.ownsMap Tryz.prog 3 anyRd b nn D0) (h0:J [] W):
  CallsIn F n Tryz.prog 266 #[.func (.yield l) #[] #[],.pointer (some ⟨Bm,0,none⟩)] W fun e W'=>(∃v,e= .returned v)∧ ∃ss:List Int,J ss W'∧ ∃left,CollI .i64 D0 left ss∧ ∀kl,left kl=false:=by
 refine callsIn_of_wp Tryz.func266 rfl h66 ?_ hro
 simp only[Tryz.ntmps266,List.size_toArray,List.length_cons,List.length_nil,Nat.reduceAdd,Nat.reduceSub,Array.replicate_succ,Array.replicate_zero,List.push_toArray,List.append_toArray,List.nil_append,List.cons_append]
 gi_wp2_with (first
  |(gi_at_range;refine wpListIn_range_own _ rfl _ 154 rfl 3 167 (int_keyed uI3) u154 _ b nn _ rfl hown ?_;intro w0 hrg0 hg0 hs0)
  |gi_in)
 go_frame
 gi_loopw [3] (fun _ wr=> ∃(left:Lit→Bool) (cnt:Nat) (ss:List Int),wr.ranges Tryz.prog 3 anyRd b W.heap.size nn D0 left cnt∧ss.length+cnt≤Maps.size D0∧CollI .i64 D0 left ss∧J ss wr)
  (fun _ wr=>wr.rangeLeft b W.heap.size)
 case atStart=>
  have hf0:FzK W w0:=by
   obtain⟨es,clock,since,seen,c0,_,_,_,_,hr,_⟩:=hrg0
   exact FzK.one (r:=W.heap.size) (o:= .mapIter none 0 #[] 0) (fun k hk _=>hg0.block k hk (by simp)) (.inr rfl) (fun _=>rfl) hr rfl (by omega)
  exact⟨_,_,[],hrg0,by simp,CollI.start .i64 D0,hJ [] W w0 none h0 hg0 hf0 (fun r e=>by cases e)⟩
 case round=>
  obtain⟨left,cnt,ss,hrg,hcs,hC,hJs⟩:=hrel
  gi_wp2_with (first
   |(gi_at_next;refine wpListIn_next_ranges _ rfl _ rfl 3 (int_keyed uI3) anyRd (Value.int .i64) (fun v:Value=>v) (fun key kl hk=>by obtain⟨x,hx,_⟩:=Maps.keyOf_int_inv uI3 hk;exact⟨x,hx⟩) (fun v y hv=>⟨v,rfl⟩) b W.heap.size nn _ _ _ rfl hrg ?_ ?_)
   |gi_in)
  ·intro hc0 hl0
   gi_wp2
   go_end0
   exact⟨⟨_,rfl⟩,ss,hJs,left,hC,hl0⟩
  ·intro x c kl yd yp w2 cnt2 hkey hlk hv hat hrg2 hlt hg2 hs2 hen
   obtain⟨x',ex,rfl,_⟩:=Maps.keyOf_int_inv uI3 hkey
   cases ex
   have hf2:FzK wr w2:=by
    obtain⟨es,clock,since,seen,c0,_,_,_,_,hr,_⟩:=hrg
    obtain⟨es',clock',since',seen',c0',_,_,_,_,hr',_⟩:=hrg2
    exact FzK.one (r:=W.heap.size) (o:= .mapIter (some b) since seen c0) (fun k hk hne=>hg2.block k hk (by simpa using hne)) (.inl hr) (fun _=>rfl) hr' rfl (by omega)
   have hJ2:J ss w2:=hJ ss wr w2 (some W.heap.size) hJs hg2 hf2 (fun r e=>by cases e;exact⟨Nat.le_refl _,hrg.iter_walk⟩)
   obtain⟨fn,tmps,assign,body,hy,hR⟩:=hY ss x w2 hJ2 (by omega)
   clear hs2 hf2
   gi_wp2
   refine hR.mono ?_
   rintro e W3 ⟨rfl,hJ3,hk3⟩
   gi_wp2
   have hrg3:=hrg2.of_walks hk3
   go_roundw
   case rel=>exact⟨_,cnt2,ss++[x],hrg3,by simp;omega,hC.step hlk hat,hJ3⟩
   case measure=>rw[hrg3.left_eq,hrg.left_eq];exact hlt
end IN
end Go.Proofs.YtnofenejoebkhaaGreat.Ev
