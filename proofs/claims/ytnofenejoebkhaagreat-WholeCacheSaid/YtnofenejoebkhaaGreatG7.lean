/- PART 7 OF WHAT THE LAW WholeCache STANDS ON: RunK5, RunL5, CchF5, CchG5, RetF5, NodL5, NodM5, NodN5, NodO5, SrtA, SrtF5, SrtB5, SrtB6, SrtL5, RefA5, RefB5, IterA, IterB5, IterC5, IterD5, RefG5, MrkA5, MrkB5, CchA5, CchB5, CchH5, CchC5, CchD5, CchE5, EvP, OncA5, OncB5, MakC5, LawS5. Conditions: none but those that each lemma states. -/
import Derived.Test.YtnofenejoebkhaaGreatG6
import Derived.RangeFuncGives
import Derived.RangeFuncLeaves
import Derived.RangeFuncOwn
import Derived.Maps.OwnIn
import Derived.Maps.AppendAt
import Derived.WalkKit
import Derived.RegionIn
import Derived.LoopNIn
import Derived.LoopIn
import Derived.TacticsInMore
import Derived.Shelf.Abstract
namespace Go.Proofs.YtnofenejoebkhaaGreat.Ev
open Go
section
def fnJ(op:Nat):Nat:=if op=6∨op=7 then 136 else if op=8 then 137 else if op=9 then 138 else if op=10 then 139 else 180
def jobG2(op a b c:Nat):Goal:=if op=1 then⟨4,1,a,0⟩else if op=5 then⟨5,a,b,c⟩else if op=6∨op=7 then⟨op,a,0,0⟩else⟨op,a,b,0⟩
def refZ(n op mask:Nat)(ft:Bool):Int:=if op=6∨op=7 then(if mask/2^n≠0 then 40 else 0)else if op=8 then(if n≤mask then 40 else 0)else if op=9∨op=10 then(if n%2=1∨ft=false then 160 else 0)else 0
section
variable {h:Heap}{s n room a b c op:Nat}{fo gg:Nat→Nat}{off:Bool}{N:List (Option Nd)}{K:Value→Heap→Prop}{L:List Nat}{X:SX}
theorem refusesG{mask:Nat}{ft:Bool}(hmask:mask<256)(H:Sto h s L X)(hop:op=1∨op=2∨op=3∨op=4∨op=5∨op=6∨op=7∨op=8∨op=9∨op=10)(ha:isN X.N a)(hb:isN X.N b)(hc:isN X.N c)
  (hF: ∀{h1:Heap} {Q:Value→Heap→Prop},Only [] h h1→(∀h2,Only [] h1 h2→Q (.bool ft) h2)→Cl 179 [ptrV s,.int .u32 (a:Int)] h1 Q)
  (hK: ∀h',Only [] h h'→K (.int .i64 (refZ X.n op mask ft)) h'):
  Cl 133 [ptrV s,jobV (op:Int) a b c (mask:Int)] h K:=by
 have ok:=H.ok
 refine F133.spec _ _ _ _ _ _ h K ?_
 refine newK_at fun h1 A1 O1 z1=> ?_
 simp only[add_mk,Nat.zero_add]
 have r: ∀k,rd h1 ⟨h.size,k,none⟩=([.int .i64 (op:Int),.int .u32 (a:Int),.int .u32 (b:Int),.int .u32 (c:Int),.int .u8 (mask:Int)]:List Value)[k]? :=fun k=>At.rd A1 k
 refine ldI_of (by rw[r];rfl) (takes134 (ldI_of rfl ?_))
 obtain⟨t,ht,ht1,ht3⟩: ∃t:Nat,takesZ (op:Int)=(t:Int)∧1≤t∧t≤3:=by
  rcases hop with e|e|e|e|e|e|e|e|e|e<;>subst e
  ·exact⟨1,rfl,by omega⟩
  ·exact⟨2,rfl,by omega⟩
  ·exact⟨2,rfl,by omega⟩
  ·exact⟨2,rfl,by omega⟩
  ·exact⟨3,rfl,by omega⟩
  ·exact⟨1,rfl,by omega⟩
  ·exact⟨1,rfl,by omega⟩
  ·exact⟨2,rfl,by omega⟩
  ·exact⟨2,rfl,by omega⟩
  ·exact⟨2,rfl,by omega⟩
 rw[ht,show((t:Int)==(0:Int))=false by simp;omega,bcase_false]
 refine ldI_of (by rw[r];rfl) (ldI_of (by rw[r];rfl) (ldI_of (by rw[r];rfl) ?_))
 refine newK_at fun h2 A2 O2 z2=>⟨by omega,by omega,?_⟩
 have H2:=(H.only0 O1).only0 O2
 have O02:=O1.trans O2 (by simp)
 have A12:=A1.only O2 (by simp)
 have r2: ∀k,rd h2 ⟨h.size,k,none⟩=([.int .i64 (op:Int),.int .u32 (a:Int),.int .u32 (b:Int),.int .u32 (c:Int),.int .u8 (mask:Int)]:List Value)[k]? :=fun k=>At.rd A12 k
 have l2: ∀k,rd h2 ⟨h1.size,k,none⟩=([.int .u32 (a:Int),.int .u32 (b:Int),.int .u32 (c:Int)]:List Value)[k]? :=fun k=>At.rd A2 k
 have ep:(if 3=0 then(some (Addr.mk h1.size 0 none))else Option.map (fun a=>Addr.add a (0*1)) (some (Addr.mk h1.size 0 none)))=some ⟨h1.size,0,none⟩:=by simp[Addr.add]
 rw[ep,show Int.toNat (t:Int)-0=t by omega]
 unfold F133.wk5
 have ew:IntKind.wrap .i64 (mask:Int)=(mask:Int):=wrap_i64 (by omega) (by omega)
 have qm: ∀{KK:Int→Prop},KK (if mask/2^X.n≠0 then 40 else 0)→bcase ((Int.fdiv (IntKind.wrap .i64 (mask:Int)) (2^(min (Int.toNat (X.n:Int)) (IntKind.bits .i64)))) !=(0:Int)) (KK 40) (KK 0):=fun {KK} hk=>by
  rw[fdivp ok.2.2.1 hmask]
  by_cases z:mask/2^X.n=0
  ·rw[if_neg (by simpa using z)]at hk
   rw[z]
   exact hk
  ·rw[if_pos z]at hk
   rw[show(((mask/2^X.n:Nat):Int) !=0)=true by rw[bne_iff_ne];omega,bcase_true]
   exact hk
 have cm: ∀{KK:Int→Prop},KK (if X.n≤mask then 40 else 0)→bcase (decide ((IntKind.wrap .i64 (mask:Int))≥(X.n:Int))) (KK 40) (KK 0):=fun {KK} hk=>by
  rw[ew]
  refine bcase_of (fun q=> ?_) fun q=> ?_
  ·rw[if_pos (by have:=of_decide_eq_true q;omega)]at hk;exact hk
  ·rw[if_neg (by have:=of_decide_eq_false q;omega)]at hk;exact hk
 have rl: ∀{KK:Int→Heap→Prop},(∀h3,Only [] h h3→KK (if X.n%2=1∨ft=false then 160 else 0) h3)→((2:Int)≠0∧bcase ((Int.tmod (X.n:Int) (2:Int))==(1:Int)) (KK 160 h2) (ldI .u32 (rd h2 ⟨h.size,1,none⟩) (fun n15=>Cl 179 [ptrV s,(.int .u32 n15)] h2 (fun v16 h17=>ldB (some v16) (fun b18=>bcase (!b18) (KK 160 h17) (KK 0 h17)))))):=fun {KK} hk=>by
  refine⟨by decide,?_⟩
  rw[show Int.tmod (X.n:Int) (2:Int)=((X.n%2:Nat):Int) by rw[Int.tmod_eq_emod_of_nonneg (Int.natCast_nonneg _)];omega]
  refine bcase_of (fun q=> ?_) fun q=> ?_
  ·have:=hk h2 O02
   rw[if_pos (.inl (by simp at q;omega))]at this
   exact this
  ·refine ldI_of (n:=(a:Int)) (by rw[r2];rfl) (hF O02 fun h3 O3=>ldB_of rfl ?_)
   have:=hk h3 (O02.trans O3 (by simp))
   have q0:X.n%2≠1:=fun e=>by rw[e]at q;simp at q
   cases ft with
   |true=>rw[if_neg (by simp;omega)]at this;exact this
   |false=>rw[if_pos (.inr rfl)]at this;exact this
 have fin:F133.wk10 ⟨s,0,none⟩ ⟨h.size,0,none⟩ h2 K:=by
  unfold F133.wk10
  simp only[add_mk,Nat.zero_add]
  refine ldI_of (n:=(op:Int)) (by rw[r2];rfl) ?_
  have r4:rd h2 ⟨h.size,4,none⟩=some (.int .u8 (mask:Int)):=by rw[r2];rfl
  have km:K (.int .i64 (if mask/2^X.n≠0 then 40 else 0)) h2→ldI .u8 (rd h2 ⟨h.size,4,none⟩) (fun n2=>Cl 75 [ptrV s] h2 (fun v3 h4=>ldI .i64 (some v3) (fun n5=>(True∧ldI .u8 (rd h4 ⟨h.size,4,none⟩) (fun n6=>((.int .u8 n6)=((.int .u8 n2):Value)∧(True∧(0≤n5∧bcase ((Int.fdiv (IntKind.wrap .i64 n2) (2^(min (Int.toNat n5) (IntKind.bits .i64)))) !=(0:Int)) (K (.int .i64 (40:Int)) h4) (K (.int .i64 (0:Int)) h4))))))))):=fun hk=>
   ldI_of r4 (sto_vars H2 (ldI_of rfl ⟨trivial,ldI_of r4 ⟨rfl,trivial,Int.natCast_nonneg _,qm (KK:=fun z=>K (.int .i64 z) h2) hk⟩⟩))
  have kv:K (.int .i64 (if X.n≤mask then 40 else 0)) h2→ldI .u8 (rd h2 ⟨h.size,4,none⟩) (fun n7=>Cl 75 [ptrV s] h2 (fun v8 h9=>ldI .i64 (some v8) (fun n10=>(True∧ldI .u8 (rd h9 ⟨h.size,4,none⟩) (fun n11=>((.int .u8 n11)=((.int .u8 n7):Value)∧(True∧bcase (decide ((IntKind.wrap .i64 n7)≥n10)) (K (.int .i64 (40:Int)) h9) (K (.int .i64 (0:Int)) h9)))))))):=fun hk=>
   ldI_of r4 (sto_vars H2 (ldI_of rfl ⟨trivial,ldI_of r4 ⟨rfl,trivial,cm (KK:=fun z=>K (.int .i64 z) h2) hk⟩⟩))
  have kr:(∀h3,Only [] h h3→K (.int .i64 (if X.n%2=1∨ft=false then 160 else 0)) h3)→Cl 75 [ptrV s] h2 (fun v12 h13=>ldI .i64 (some v12) (fun n14=>((2:Int)≠0∧bcase ((Int.tmod n14 (2:Int))==(1:Int)) (K (.int .i64 (160:Int)) h13) (ldI .u32 (rd h13 ⟨h.size,1,none⟩) (fun n15=>Cl 179 [ptrV s,(.int .u32 n15)] h13 (fun v16 h17=>ldB (some v16) (fun b18=>bcase (!b18) (K (.int .i64 (160:Int)) h17) (K (.int .i64 (0:Int)) h17)))))))):=fun hk=>
   sto_vars H2 (ldI_of rfl (rl (KK:=fun z h3=>K (.int .i64 z) h3) hk))
  have k0:=hK h2 O02
  rcases hop with e|e|e|e|e|e|e|e|e|e<;>subst e
  ·exact k0
  ·exact k0
  ·exact k0
  ·exact k0
  ·exact k0
  ·exact km k0
  ·exact km k0
  ·exact kv k0
  ·exact kr fun h3 O3=>hK h3 O3
  ·exact kr fun h3 O3=>hK h3 O3
 have main: ∀(d i:Nat),i+d=t→F133.wL5 (d+1) ⟨s,0,none⟩ ⟨h.size,0,none⟩ (some ⟨h1.size,0,none⟩) t (3-0) (t:Int) (i:Int) h2 K:=by
  intro d
  induction d with
  |zero=>
   intro i hi
   rw[F133.sL5]
   rw[decide_eq_false (by omega),bcase_false]
   exact fin
  |succ d ih=>
   intro i hi
   rw[F133.sL5]
   rw[decide_eq_true (by omega),bcase_true,ptrK_some]
   refine⟨by omega,by omega,?_⟩
   have ew:IntKind.wrap .i64 ((i:Int)+1)=((i+1:Nat):Int):=by rw[wrap_i64 (by omega) (by omega)];omega
   rw[ew,add_mk,Nat.zero_add,Int.toNat_natCast,Nat.mul_one,l2]
   have go: ∀y,isN X.N y→([.int .u32 (a:Int),.int .u32 (b:Int),.int .u32 (c:Int)]:List Value)[i]? =some (.int .u32 (y:Int))→ldI .u32 (([.int .u32 (a:Int),.int .u32 (b:Int),.int .u32 (c:Int)]:List Value)[i]?) fun n2=>Cl 74 [.pointer (some ⟨s,0,none⟩),.int .u32 n2] h2 fun v3 h4=>ldB (some v3) fun b5=>bcase (!b5) (K (.int .i64 (101:Int)) h4) (F133.wL5 (d+1) ⟨s,0,none⟩ ⟨h.size,0,none⟩ (some ⟨h1.size,0,none⟩) t (3-0) (t:Int) ((i+1:Nat):Int) h4 K):=fun y hy e=>by
    refine ldI_of e (sto_is1 H2 hy (ldB_of rfl ?_))
    rw[Bool.not_true,bcase_false]
    exact ih (i+1) (by omega)
   have:i=0∨i=1∨i=2:=by omega
   rcases this with e|e|e
   ·subst e;exact go a ha rfl
   ·subst e;exact go b hb rfl
   ·subst e;exact go c hc rfl
 exact⟨_,main t 0 (by omega)⟩
set_option maxRecDepth 100000 in
theorem new91G{q:Nat}{mask:Nat}(hmask:mask<256)(H:Sto h s L (XL n room fo gg N off))(hop:op=1∨op=2∨op=3∨op=4∨op=5∨op=6∨op=7∨op=8∨op=9∨op=10)(eq:q=fnJ op)
  (hRf: ∀{h1:Heap} {Q:Value→Heap→Prop},Only [] h h1→(∀h2,Only [] h1 h2→Q (.int .i64 0) h2)→Cl 133 [ptrV s,jobV (op:Int) a b c (mask:Int)] h1 Q)
  (hK: ∀h' A f,MaIs h' s A→(∀x∈A.bl,h.size≤x)→A.fs=[f]→f.fn=q→f.op=(jobG2 op a b c).op→f.mask=mask→f.a0=(jobG2 op a b c).a0→f.a1=(jobG2 op a b c).a1→f.a2=(jobG2 op a b c).a2→A.told=0→A.done=false→A.e=0→Only [] h h'→K (.tuple #[ptrV A.m,.int .i64 0]) h'):
  Cl 91 [ptrV s,jobV (op:Int) a b c (mask:Int)] h K:=by
 refine F91.spec _ _ _ _ _ _ h K ?_
 refine newK_at fun h1 A1 O1 z1=> ?_
 simp only[add_mk,Nat.zero_add]
 have r: ∀k,rd h1 ⟨h.size,k,none⟩=([.int .i64 (op:Int),.int .u32 (a:Int),.int .u32 (b:Int),.int .u32 (c:Int),.int .u8 (mask:Int)]:List Value)[k]? :=fun k=>At.rd A1 k
 refine ldI_of (by rw[r];rfl) (ldI_of (by rw[r];rfl) (ldI_of (by rw[r];rfl) (ldI_of (by rw[r];rfl) (ldI_of (by rw[r];rfl) ?_))))
 refine hRf O1 fun h2 O2=>ldI_of rfl ?_
 rw[show((0:Int) !=(0:Int))=false from rfl,bcase_false]
 refine newK_at fun h3 A3 O3 z3=> ?_
 have B3:=(A1.only O2 (by simp)).only O3 (by simp)
 have r3: ∀k,rd h3 ⟨h.size,k,none⟩=([.int .i64 (op:Int),.int .u32 (a:Int),.int .u32 (b:Int),.int .u32 (c:Int),.int .u8 (mask:Int)]:List Value)[k]? :=fun k=>At.rd B3 k
 refine ldI_of (by rw[r3];rfl) (ldI_of (by rw[r3];rfl) (ldI_of (by rw[r3];rfl) ?_))
 refine newK_at fun h4 A4 O4 z4=>stK_at A4 (by simp) rfl fun h5 A5 O5 z5=>stK_at A5 (by simp) rfl fun h6 A6 O6 z6=>stK_at A6 (by simp) rfl fun h7 A7 O7 z7=> ?_
 have A7:At h7 h3.size [.int .u32 (a:Int),.int .u32 (b:Int),.int .u32 (c:Int)]:=A7
 have z12:=O2.size
 have O37:Only [h3.size] h3 h7:=((O4.mono (T:=[h3.size]) (by simp)).trans O5 fun b hb _=>hb).trans O6 (fun b hb _=>hb)|>.trans O7 fun b hb _=>hb
 have B7:=B3.only O37 (by simp;omega)
 have M7:At h7 h2.size (cellM s ⟨h2.size,none,0,[],0,false,0⟩):=At.only (show At h3 h2.size (cellM s ⟨h2.size,none,0,[],0,false,0⟩)from A3) O37 (by simp;omega)
 refine ldI_of (n:=(op:Int)) (by rw[At.rd B7];rfl) (takes134 (ldI_of rfl ?_))
 unfold F91.wk7
 have rest: ∀(h8:Heap) (a' b' c':Nat),At h8 h.size [.int .i64 (op:Int),.int .u32 (a:Int),.int .u32 (b:Int),.int .u32 (c:Int),.int .u8 (mask:Int)]→At h8 h3.size [.int .u32 (a':Int),.int .u32 (b':Int),.int .u32 (c':Int)]→At h8 h2.size (cellM s ⟨h2.size,none,0,[],0,false,0⟩)→Only [] h h8→
   (if op=1 then(⟨4,1,a,0⟩:Goal)else⟨op,a',b',c'⟩)=jobG2 op a b c→F91.wk10 ⟨h.size,0,none⟩ ⟨h2.size,0,none⟩ ⟨h3.size,0,none⟩ h8 K:=by
  intro h8 a' b' c' B8 A8 M8 O8 hG
  unfold F91.wk10
  simp only[add_mk,Nat.zero_add]
  have r8: ∀k,rd h8 ⟨h.size,k,none⟩=([.int .i64 (op:Int),.int .u32 (a:Int),.int .u32 (b:Int),.int .u32 (c:Int),.int .u8 (mask:Int)]:List Value)[k]? :=fun k=>At.rd B8 k
  have q8: ∀k,rd h8 ⟨h3.size,k,none⟩=([.int .u32 (a':Int),.int .u32 (b':Int),.int .u32 (c':Int)]:List Value)[k]? :=fun k=>At.rd A8 k
  refine ldI_of (by rw[r8];rfl) (ldI_of (by rw[r8];rfl) (ldI_of (by rw[q8];rfl) (ldI_of (by rw[q8];rfl) (ldI_of (by rw[q8];rfl) ?_))))
  have op8:IntKind.wrap .u8 (op:Int)=(op:Int):=wrap8 (by omega)
  rw[op8]
  have MI:MaIs h8 s ⟨h2.size,none,0,[],0,false,0⟩:=⟨M8,Win.nil _ _,(fun f hf=>by cases hf),by simp[MA.bl,OwnB]⟩
  refine calls135 (A:=⟨h2.size,none,0,[],0,false,0⟩) MI (by simp) fun h9 f fp fc hf M9 O9 g9=>ldP_of rfl ?_
  obtain⟨bb,rfl,hb9⟩:=hf
  have z08:=O8.size
  have lB:=B8.lt
  have lM:=M8.lt
  have O9':Only [h2.size] h8 h9:=O9
  have B9:=B8.only O9' (by simp;omega)
  have O09:Only [] h h9:=O8.trans O9' (by intro x hx hl;simp at hx;omega)
  have r9: ∀k,rd h9 ⟨h.size,k,none⟩=([.int .i64 (op:Int),.int .u32 (a:Int),.int .u32 (b:Int),.int .u32 (c:Int),.int .u8 (mask:Int)]:List Value)[k]? :=fun k=>At.rd B9 k
  refine ldI_of (by rw[r9];rfl) ?_
  have blk: ∀(f:Fk),f.b=bb→ ∀x∈({m:=h2.size,fp:=fp,fc:=fc,fs:=[]++[f],told:=0,done:=false,e:=0}:MA).bl,h.size≤x:=fun f hf x hx=>by
   simp only[MA.bl,List.mem_cons,List.mem_append,List.map_append,List.map_cons,List.map_nil,List.not_mem_nil,or_false,false_or,List.nil_append]at hx
   rcases hx with h|h|h
   ·omega
   ·rcases g9 x h with h|h
    ·simp[OwnB]at h
    ·omega
   ·omega
  by_cases h1:op=1
  ·subst h1
   rw[show((((1:Nat):Int))==(1:Int))=true from rfl,bcase_true]
   refine ldI_of (by rw[r9];rfl) ?_
   rw[ptrK_some]
   simp only[add_mk,Nat.zero_add]
   refine MaIs.top (A:=⟨h2.size,fp,fc,[],0,false,0⟩) (fl:=[]) (f':=⟨bb,4,mask,a',b',c',0,0,180⟩) M9 (by decide) rfl rfl rfl fun h10 M10 O10=> ?_
   have nb:h.size≠bb:=by omega
   have B10:=B9.only O10 (by simp;omega)
   refine⟨by trivial,by trivial,ldI_of (n:=(a:Int)) (by rw[At.rd B10];rfl) ⟨by trivial,by trivial,?_⟩⟩
   rw[ptrK_some]
   simp only[add_mk,Nat.zero_add]
   refine MaIs.top (A:=⟨h2.size,fp,fc,[],0,false,0⟩) (fl:=[]) (f':=⟨bb,4,mask,1,b',c',0,0,180⟩) M10 (by decide) rfl rfl rfl fun h11 M11 O11=> ?_
   refine MaIs.top (A:=⟨h2.size,fp,fc,[],0,false,0⟩) (fl:=[]) (f':=⟨bb,4,mask,1,a,c',0,0,180⟩) M11 (by decide) rfl rfl rfl fun h12 M12 O12=> ?_
   refine MaIs.top (A:=⟨h2.size,fp,fc,[],0,false,0⟩) (fl:=[]) (f':=⟨bb,4,mask,1,a,0,0,0,180⟩) M12 (by decide) rfl rfl rfl fun h13 M13 O13=> ?_
   have OO:Only [bb] h9 h13:=((O10.trans O11 fun b hb _=>hb).trans O12 fun b hb _=>hb).trans O13 fun b hb _=>hb
   exact hK h13 _ ⟨bb,4,mask,1,a,0,0,0,180⟩ M13 (blk _ rfl) rfl (by rw[eq];rfl) rfl rfl rfl rfl rfl rfl rfl rfl (O09.trans OO (by intro x hx hl;simp at hx;omega))
  ·have h1':=h1
   have hG':(⟨op,a',b',c'⟩:Goal)=jobG2 op a b c:=by rw[if_neg h1]at hG;exact hG
   have fin:180=q→K (.tuple #[ptrV h2.size,.int .i64 0]) h9:=fun e=>hK h9 _ ⟨bb,op,mask,a',b',c',0,0,180⟩ M9 (blk _ rfl) rfl e (by rw[←hG']) rfl (by rw[←hG']) (by rw[←hG']) (by rw[←hG']) rfl rfl rfl O09
   have fins:stK h9 ⟨bb,8,none⟩ (goV q bb) (fun h10=>K (.tuple #[ptrV h2.size,.int .i64 0]) h10):=
    MaIs.top (A:=⟨h2.size,fp,fc,[],0,false,0⟩) (fl:=[]) (f:=⟨bb,op,mask,a',b',c',0,0,180⟩) (f':=⟨bb,op,mask,a',b',c',0,0,q⟩) M9 (by decide) rfl rfl rfl fun h10 M10 O10=>
     hK h10 _ ⟨bb,op,mask,a',b',c',0,0,q⟩ M10 (blk _ rfl) rfl rfl (by rw[←hG']) rfl (by rw[←hG']) (by rw[←hG']) (by rw[←hG']) rfl rfl rfl (O09.trans O10 (by intro x hx hl;simp at hx;omega))
   clear hG hG' h1
   rcases hop with e|e|e|e|e|e|e|e|e|e
   ·exact absurd e h1'
   ·subst e eq;exact fin rfl
   ·subst e eq;exact fin rfl
   ·subst e eq;exact fin rfl
   ·subst e eq;exact fin rfl
   ·subst e eq;exact fins
   ·subst e eq;exact fins
   ·subst e eq;exact fins
   ·subst e eq;exact fins
   ·subst e eq;exact fins
 have zstep: ∀(bk:Addr→Addr→Addr→Int→Heap→Prop) (k10:Addr→Addr→Addr→Heap→Prop) (h8:Heap) (i:Nat) (l:List Value),i<3→l.length=3→At h8 h3.size l→At h8 h.size [.int .i64 (op:Int),.int .u32 (a:Int),.int .u32 (b:Int),.int .u32 (c:Int),.int .u8 (mask:Int)]→At h8 h2.size (cellM s ⟨h2.size,none,0,[],0,false,0⟩)→Only [] h h8→
   (∀h9,At h9 h3.size (l.set i (.int .u32 0))→At h9 h.size [.int .i64 (op:Int),.int .u32 (a:Int),.int .u32 (b:Int),.int .u32 (c:Int),.int .u8 (mask:Int)]→At h9 h2.size (cellM s ⟨h2.size,none,0,[],0,false,0⟩)→Only [] h h9→bk ⟨h.size,0,none⟩ ⟨h2.size,0,none⟩ ⟨h3.size,0,none⟩ ((i+1:Nat):Int) h9)→
   F91.JL7 bk k10 ⟨h.size,0,none⟩ ⟨h2.size,0,none⟩ ⟨h3.size,0,none⟩ (i:Int) h8 K:=by
  intro bk k10 h8 i l hi hl A B M O hB
  unfold F91.JL7
  have ew:IntKind.wrap .i64 ((i:Int)+1)=((i+1:Nat):Int):=by rw[wrap_i64 (by omega) (by omega)];omega
  rw[decide_eq_true (by omega),bcase_true,ew]
  simp only[add_mk,Nat.zero_add,Nat.add_zero,Int.toNat_natCast,Nat.mul_one]
  exact⟨by omega,by omega,stK_at A (by omega) rfl fun h9 A9 O9 z9=>hB h9 A9 (B.only O9 (by simp;omega)) (M.only O9 (by simp;omega)) (O.trans O9 (by intro x hx hl;simp at hx;omega))⟩
 have O07:Only [] h h7:=(((O1.trans O2 (by simp)).trans O3 (by simp)).trans O37 (by intro x hx hl;simp at hx;omega))
 rcases hop with e|e|e|e|e|e|e|e|e|e
 ·subst e
  refine⟨3,?_⟩
  rw[F91.sL7]
  refine zstep _ _ h7 1 _ (by omega) rfl A7 B7 M7 O07 fun h8 A8 B8 M8 O8=> ?_
  rw[F91.sL7]
  refine zstep _ _ h8 2 _ (by omega) rfl A8 B8 M8 O8 fun h9 A9 B9 M9 O9=> ?_
  rw[F91.sL7];unfold F91.JL7
  rw[decide_eq_false (by omega),bcase_false]
  exact rest h9 a 0 0 B9 A9 M9 O9 rfl
 ·subst e
  refine⟨2,?_⟩
  rw[F91.sL7]
  refine zstep _ _ h7 2 _ (by omega) rfl A7 B7 M7 O07 fun h8 A8 B8 M8 O8=> ?_
  rw[F91.sL7];unfold F91.JL7
  rw[decide_eq_false (by omega),bcase_false]
  exact rest h8 a b 0 B8 A8 M8 O8 rfl
 ·subst e
  refine⟨2,?_⟩
  rw[F91.sL7]
  refine zstep _ _ h7 2 _ (by omega) rfl A7 B7 M7 O07 fun h8 A8 B8 M8 O8=> ?_
  rw[F91.sL7];unfold F91.JL7
  rw[decide_eq_false (by omega),bcase_false]
  exact rest h8 a b 0 B8 A8 M8 O8 rfl
 ·subst e
  refine⟨2,?_⟩
  rw[F91.sL7]
  refine zstep _ _ h7 2 _ (by omega) rfl A7 B7 M7 O07 fun h8 A8 B8 M8 O8=> ?_
  rw[F91.sL7];unfold F91.JL7
  rw[decide_eq_false (by omega),bcase_false]
  exact rest h8 a b 0 B8 A8 M8 O8 rfl
 ·subst e
  refine⟨1,?_⟩
  rw[F91.sL7];unfold F91.JL7
  rw[show decide (takesZ ((5:Nat):Int)<(3:Int))=false from rfl,bcase_false]
  exact rest h7 a b c B7 A7 M7 O07 rfl
 ·subst e
  refine⟨3,?_⟩
  rw[F91.sL7]
  refine zstep _ _ h7 1 _ (by omega) rfl A7 B7 M7 O07 fun h8 A8 B8 M8 O8=> ?_
  rw[F91.sL7]
  refine zstep _ _ h8 2 _ (by omega) rfl A8 B8 M8 O8 fun h9 A9 B9 M9 O9=> ?_
  rw[F91.sL7];unfold F91.JL7
  rw[decide_eq_false (by omega),bcase_false]
  exact rest h9 a 0 0 B9 A9 M9 O9 rfl
 ·subst e
  refine⟨3,?_⟩
  rw[F91.sL7]
  refine zstep _ _ h7 1 _ (by omega) rfl A7 B7 M7 O07 fun h8 A8 B8 M8 O8=> ?_
  rw[F91.sL7]
  refine zstep _ _ h8 2 _ (by omega) rfl A8 B8 M8 O8 fun h9 A9 B9 M9 O9=> ?_
  rw[F91.sL7];unfold F91.JL7
  rw[decide_eq_false (by omega),bcase_false]
  exact rest h9 a 0 0 B9 A9 M9 O9 rfl
 ·subst e
  refine⟨2,?_⟩
  rw[F91.sL7]
  refine zstep _ _ h7 2 _ (by omega) rfl A7 B7 M7 O07 fun h8 A8 B8 M8 O8=> ?_
  rw[F91.sL7];unfold F91.JL7
  rw[decide_eq_false (by omega),bcase_false]
  exact rest h8 a b 0 B8 A8 M8 O8 rfl
 ·subst e
  refine⟨2,?_⟩
  rw[F91.sL7]
  refine zstep _ _ h7 2 _ (by omega) rfl A7 B7 M7 O07 fun h8 A8 B8 M8 O8=> ?_
  rw[F91.sL7];unfold F91.JL7
  rw[decide_eq_false (by omega),bcase_false]
  exact rest h8 a b 0 B8 A8 M8 O8 rfl
 ·subst e
  refine⟨2,?_⟩
  rw[F91.sL7]
  refine zstep _ _ h7 2 _ (by omega) rfl A7 B7 M7 O07 fun h8 A8 B8 M8 O8=> ?_
  rw[F91.sL7];unfold F91.JL7
  rw[decide_eq_false (by omega),bcase_false]
  exact rest h8 a b 0 B8 A8 M8 O8 rfl
end
end
section
def JobR(n:Nat)(fo gg:Nat→Nat)(N:List (Option Nd))(op mask a b c r:Nat):Prop:=
 if op=1 then OpR n fo N 4 1 a 0 r else if op=5 then OpR n fo N 5 a b c r else if op=6∨op=7 then QR n fo N op mask a r else if op=8 then CR n fo N (gg mask) b a r else if op=9 then NxR n fo N a b r else if op=10 then PvR n fo N a b r else OpR n fo N op a b 0 r
section
variable {h:Heap}{s n room a b c op mask d:Nat}{fo gg:Nat→Nat}{off:Bool}{N:List (Option Nd)}{K:Value→Heap→Prop}{L:List Nat}{A:MA}{Y:SX}
theorem rn_run(S:Sto h s L Y)(M:MaIs h s A)(R:Rn A.m K d h): ∃k,F64.wL5 k (some ⟨A.m,0,none⟩) (.func (.func 114) #[ptrV A.m] #[]) h K:=by
 refine⟨d+1,?_⟩
 rw[F64.sL5]
 refine dynK_go go114 ?_
 refine F114.spec _ h _ ?_
 simp only[add_mk,Nat.zero_add]
 refine ldP_of (mach_rd M.own).1 (sto_len S (ldI_of rfl ?_))
 unfold F114.wk2
 exact⟨d,R _ d d (Nat.le_refl _) (Nat.le_refl _)⟩
theorem run64_none{x:Int}{mask:Int}(hx:takesZ x=0)(hK: ∀h',Only [] h h'→K (.tuple #[.int .u32 0,.int .i64 200]) h'):Cl 64 [ptrV s,jobV x a b c mask] h K:=by
 refine F64.spec _ _ _ _ _ _ h K ?_
 refine newK_at fun h1 A1 O1 z1=> ?_
 simp only[add_mk,Nat.zero_add]
 have r: ∀k,rd h1 ⟨h.size,k,none⟩=([.int .i64 x,.int .u32 (a:Int),.int .u32 (b:Int),.int .u32 (c:Int),.int .u8 mask]:List Value)[k]? :=fun k=>At.rd A1 k
 refine ldI_of (by rw[r];rfl) (ldI_of (by rw[r];rfl) (ldI_of (by rw[r];rfl) (ldI_of (by rw[r];rfl) (ldI_of (by rw[r];rfl) ?_))))
 refine new91_none (s:=s) hx fun h2 O2=>⟨_,_,rfl,?_⟩
 rw[show((200:Int) !=(0:Int))=true from rfl,bcase_true]
 exact hK h2 (O1.trans O2 (by simp))
theorem new91_ref{mask:Nat}{z:Int}(hz:z≠0)(hRf: ∀{h1:Heap} {Q:Value→Heap→Prop},Only [] h h1→(∀h2,Only [] h1 h2→Q (.int .i64 z) h2)→Cl 133 [ptrV s,jobV (op:Int) a b c (mask:Int)] h1 Q)
  (hK: ∀h',Only [] h h'→K (.tuple #[.pointer none,.int .i64 z]) h'):Cl 91 [ptrV s,jobV (op:Int) a b c (mask:Int)] h K:=by
 refine F91.spec _ _ _ _ _ _ h K ?_
 refine newK_at fun h1 A1 O1 z1=> ?_
 simp only[add_mk,Nat.zero_add]
 have r: ∀k,rd h1 ⟨h.size,k,none⟩=([.int .i64 (op:Int),.int .u32 (a:Int),.int .u32 (b:Int),.int .u32 (c:Int),.int .u8 (mask:Int)]:List Value)[k]? :=fun k=>At.rd A1 k
 refine ldI_of (by rw[r];rfl) (ldI_of (by rw[r];rfl) (ldI_of (by rw[r];rfl) (ldI_of (by rw[r];rfl) (ldI_of (by rw[r];rfl) ?_))))
 refine hRf O1 fun h2 O2=>ldI_of rfl ?_
 rw[show(z !=(0:Int))=true by simpa using hz,bcase_true]
 exact hK h2 (O1.trans O2 (by simp))
theorem run64{ft:Bool}(hm:mask<256)(H:Sto h s L (XL n room fo gg N off))(hop:op=1∨op=2∨op=3∨op=4∨op=5∨op=6∨op=7∨op=8∨op=9∨op=10)(ha:isN N a)(hb:isN N b)(hc:isN N c)(po:PermOk n fo gg)(hp:n%2=0→Pairs n fo gg)
  (hF: ∀{h1:Heap} {Q:Value→Heap→Prop},Only [] h h1→(∀h2,Only [] h1 h2→Q (.bool ft) h2)→Cl 179 [ptrV s,.int .u32 (a:Int)] h1 Q)
  (hR:refZ n op mask ft≠0→ ∀h',Only [] h h'→K (.tuple #[.int .u32 0,.int .i64 (refZ n op mask ft)]) h')
  (hT:refZ n op mask ft=0→ ∀h' L' N' (r:Nat),Ex N N'→JobR n fo gg N' op mask a b c r→Sto h' s L' (XL n room fo gg N' off)→Only L h h'→Fresh L L' h→K (.tuple #[.int .u32 (r:Int),.int .i64 0]) h')
  (hE: ∀h' L' N',Ex N N'→Sto h' s L' (XL n room fo gg N' off)→Only L h h'→Fresh L L' h→K (.tuple #[.int .u32 0,.int .i64 60]) h'):
  Cl 64 [ptrV s,jobV (op:Int) a b c (mask:Int)] h K:=by
 have ok:=H.ok
 dsimp only[XL]at ok
 have n8:=ok.2.2.1
 refine F64.spec _ _ _ _ _ _ h K ?_
 refine newK_at fun h1 A1 O1 z1=> ?_
 simp only[add_mk,Nat.zero_add]
 have r: ∀k,rd h1 ⟨h.size,k,none⟩=([.int .i64 (op:Int),.int .u32 (a:Int),.int .u32 (b:Int),.int .u32 (c:Int),.int .u8 (mask:Int)]:List Value)[k]? :=fun k=>At.rd A1 k
 refine ldI_of (by rw[r];rfl) (ldI_of (by rw[r];rfl) (ldI_of (by rw[r];rfl) (ldI_of (by rw[r];rfl) (ldI_of (by rw[r];rfl) ?_))))
 have hRf: ∀{h2:Heap} {Q:Value→Heap→Prop},Only [] h1 h2→(∀h3,Only [] h2 h3→Q (.int .i64 (refZ n op mask ft)) h3)→Cl 133 [ptrV s,jobV (op:Int) a b c (mask:Int)] h2 Q:=fun {h2 Q} O2 hQ=>by
  have O12:=O1.trans O2 (by simp)
  exact refusesG (ft:=ft) hm (H.only0 O12) hop ha hb hc (fun {h3 Q3} O3 hQ3=>hF (O12.trans O3 (by simp)) hQ3) hQ
 by_cases hz:refZ n op mask ft=0
 ·refine new91G (q:=fnJ op) hm (H.only0 O1) hop rfl (fun {h2 Q} O2 hQ=>hRf O2 (by rw[hz];exact hQ)) fun h2 A f M2 hA2 efs efn eop emk e0 e1 e2 etold ed ee O2=>⟨_,_,rfl,?_⟩
  rw[show((0:Int) !=(0:Int))=false from rfl,bcase_false]
  unfold F64.wk5
  have O02:=O1.trans O2 (by simp)
  have H2:=H.only0 O02
  have eA:A={A with fs:=[]++[f]}:=by rw[List.nil_append,←efs]
  have R2:RS h L N s n room fo gg off h2 L N {A with fs:=[]++[f]}:=by
   rw[←eA]
   exact⟨H2,M2,fun x hx hm=>by have:=hA2 x hx;have:=H.lt x hm;omega,O02.mono (by simp),Fresh.refl _ _,fun x hx=>by have:=hA2 x hx;omega,Ex.refl _⟩
  have F:FullK h L N s n room fo gg off A.m K:=fun h' L' N' A' em R' q1 q2 q3=>by
   have:=rn_done (K:=K) R'.M q2 (by
    rw[if_neg (fun w=>by omega),if_pos q2,q3]
    exact hE h' L' N' R'.E R'.S R'.O R'.g)
   rw[em]at this
   exact this
  have done: ∀h' L' N' fp fc r,JobR n fo gg N' op mask a b c r→RS h L N s n room fo gg off h' L' N' (popA A [] fp fc r)→Rn A.m K 1 h':=fun h' L' N' fp fc r J R'=>by
   refine rn_done (A:=popA A [] fp fc r) R'.M rfl ?_
   rw[if_pos ⟨rfl,ee⟩,if_pos (show(popA A [] fp fc r).done=true from rfl)]
   show K (.tuple #[.int .u32 (r:Int),.int .i64 (A.e:Int)]) h'
   rw[ee]
   exact hT hz h' L' N' r R'.E J R'.S R'.O R'.g
  have hf: ∀l,l<n→fo l<8:=fun l hl=>by have:=(po.2 l hl).1;omega
  obtain⟨d,R⟩: ∃d,Rn A.m K d h2:=by
   rcases hop with e|e|e|e|e|e|e|e|e|e
   ·subst e
    have eop:f.op=4:=eop
    have e0:f.a0=1:=e0
    have e1:f.a1=a:=e1
    have e2:f.a2=0:=e2
    refine⟨1+jc n,run_join F n (A:=A) (fl:=[]) (fr:=f) rfl R2 efn (by rw[eop];unfold isJoin;omega) (by rw[e0];exact(.inl (by decide))) (by rw[e1];exact ha) (by rw[e2];exact(.inl (by decide))) (by omega) (by simp;omega) ed (by omega) fun h' L' N' fp fc r E J R'=>done h' L' N' fp fc r ?_ R'⟩
    rw[eop,e0,e1,e2]at J
    exact J
   ·subst e
    have eop:f.op=2:=eop
    have e0:f.a0=a:=e0
    have e1:f.a1=b:=e1
    have e2:f.a2=0:=e2
    refine⟨1+jc n,run_join F n (A:=A) (fl:=[]) (fr:=f) rfl R2 efn (by rw[eop];unfold isJoin;omega) (by rw[e0];exact ha) (by rw[e1];exact hb) (by rw[e2];exact(.inl (by decide))) (by omega) (by simp;omega) ed (by omega) fun h' L' N' fp fc r E J R'=>done h' L' N' fp fc r ?_ R'⟩
    rw[eop,e0,e1,e2]at J
    exact J
   ·subst e
    have eop:f.op=3:=eop
    have e0:f.a0=a:=e0
    have e1:f.a1=b:=e1
    have e2:f.a2=0:=e2
    refine⟨1+jc n,run_join F n (A:=A) (fl:=[]) (fr:=f) rfl R2 efn (by rw[eop];unfold isJoin;omega) (by rw[e0];exact ha) (by rw[e1];exact hb) (by rw[e2];exact(.inl (by decide))) (by omega) (by simp;omega) ed (by omega) fun h' L' N' fp fc r E J R'=>done h' L' N' fp fc r ?_ R'⟩
    rw[eop,e0,e1,e2]at J
    exact J
   ·subst e
    have eop:f.op=4:=eop
    have e0:f.a0=a:=e0
    have e1:f.a1=b:=e1
    have e2:f.a2=0:=e2
    refine⟨1+jc n,run_join F n (A:=A) (fl:=[]) (fr:=f) rfl R2 efn (by rw[eop];unfold isJoin;omega) (by rw[e0];exact ha) (by rw[e1];exact hb) (by rw[e2];exact(.inl (by decide))) (by omega) (by simp;omega) ed (by omega) fun h' L' N' fp fc r E J R'=>done h' L' N' fp fc r ?_ R'⟩
    rw[eop,e0,e1,e2]at J
    exact J
   ·subst e
    have eop:f.op=5:=eop
    have e0:f.a0=a:=e0
    have e1:f.a1=b:=e1
    have e2:f.a2=c:=e2
    refine⟨1+jc n,run_join F n (A:=A) (fl:=[]) (fr:=f) rfl R2 efn (by rw[eop];unfold isJoin;omega) (by rw[e0];exact ha) (by rw[e1];exact hb) (by rw[e2];exact hc) (by omega) (by simp;omega) ed (by omega) fun h' L' N' fp fc r E J R'=>done h' L' N' fp fc r ?_ R'⟩
    rw[eop,e0,e1,e2]at J
    exact J
   ·subst e
    have eop:f.op=6:=eop
    have e0:f.a0=a:=e0
    have em:f.mask=mask:=emk
    refine⟨1+qc n n,run_quant F hf n8 n (A:=A) (fl:=[]) (fr:=f) rfl R2 efn (by rw[eop];omega) (by rw[em];exact hm) (by rw[e0];exact ha) (by omega) (by simp;omega) ed (by omega) fun h' L' N' fp fc r E J R'=>done h' L' N' fp fc r ?_ R'⟩
    rw[eop,e0,em]at J
    exact J
   ·subst e
    have eop:f.op=7:=eop
    have e0:f.a0=a:=e0
    have em:f.mask=mask:=emk
    refine⟨1+qc n n,run_quant F hf n8 n (A:=A) (fl:=[]) (fr:=f) rfl R2 efn (by rw[eop];omega) (by rw[em];exact hm) (by rw[e0];exact ha) (by omega) (by simp;omega) ed (by omega) fun h' L' N' fp fc r E J R'=>done h' L' N' fp fc r ?_ R'⟩
    rw[eop,e0,em]at J
    exact J
   ·subst e
    have e0:f.a0=a:=e0
    have e1:f.a1=b:=e1
    have em:f.mask=mask:=emk
    have hmn:mask<n:=by
     have hz:(if n≤mask then(40:Int)else 0)=0:=hz
     by_cases q:n≤mask
     ·rw[if_pos q]at hz;cases hz
     ·omega
    refine⟨1+cc n n,run_comp F n (A:=A) (fl:=[]) (fr:=f) rfl R2 efn (by rw[em];exact hmn) (by rw[em];exact(po.1 _ hmn).1) (by rw[e0];exact ha) (by rw[e1];exact hb) (by rw[em];have:=(po.1 _ hmn).1;omega) (by simp;omega) (by omega) ed (by omega) fun h' L' N' fp fc r E J R'=>done h' L' N' fp fc r ?_ R'⟩
    rw[e0,e1,em]at J
    exact J
   ·subst e
    have hz:(if n%2=1∨ft=false then(160:Int)else 0)=0:=hz
    have n2:n%2=0:=by
     by_cases q:n%2=1∨ft=false
     ·rw[if_pos q]at hz;cases hz
     ·omega
    have e0:f.a0=a:=e0
    have e1:f.a1=b:=e1
    refine run_next F (hp n2) n8 (A:=A) (fr:=f) rfl R2 efn (by rw[e0];exact ha) (by rw[e1];exact hb) e2 ed fun h' L' N' fp fc r E J R'=>done h' L' N' fp fc r ?_ R'
    rw[e0,e1]at J
    exact J
   ·subst e
    have hz:(if n%2=1∨ft=false then(160:Int)else 0)=0:=hz
    have n2:n%2=0:=by
     by_cases q:n%2=1∨ft=false
     ·rw[if_pos q]at hz;cases hz
     ·omega
    have e0:f.a0=a:=e0
    have e1:f.a1=b:=e1
    refine run_prev F (hp n2) n8 (A:=A) (fr:=f) rfl R2 efn (by rw[e0];exact ha) (by rw[e1];exact hb) ed fun h' L' N' fp fc r E J R'=>done h' L' N' fp fc r ?_ R'
    rw[e0,e1]at J
    exact J
  exact rn_run (Y:=XL n room fo gg N off) H2 M2 R
 ·refine new91_ref hz (fun {h2 Q} O2 hQ=>hRf O2 hQ) fun h2 O2=>⟨_,_,rfl,?_⟩
  rw[show(refZ n op mask ft !=(0:Int))=true by simpa using hz,bcase_true]
  exact hR hz h2 (O1.trans O2 (by simp))
end
end
section
theorem F179.spec(a:Addr)(b:Int)(h:Heap)(K:KK)(H:Cl 222 [.pointer (some a),.int .u32 b] h fun v1 h2=> ∃n3:Int,∃n4:Int,v1=(.tuple #[.int .u8 n3,.int .i64 n4])∧bcase (n4==(0:Int)) (K (.bool ((bitsI .and .u8 n3 (170:Int))==(0:Int))) h2) (K (.bool false) h2)):Cl 179 [.pointer (some a),.int .u32 b] h K:=cN Tryz.func179 H
def F222.T:Hint:=⟨[(4,[0,7,8,18,19,20]),(9,[7,8])],[]⟩
section
variable (n:Nat)(g:Addr)(l i j:Int)(c:Option Addr)(b d:Nat)(f a:Int)(h:Heap)(K:KK)
def F222.wk9:Prop:=K (.tuple #[.int .u8 j,.int .i64 i]) h
def F222.wL4:Prop:=Lp Tryz.f222 F222.T [1,1,1,0,1,0] n [(0,(.pointer (some g))),(7,(.int .i64 i)),(8,(.int .u8 j)),(18,(.slice c b d)),(19,(.int .i64 f)),(20,(.int .i64 a))] h K
theorem F222.sL4:F222.wL4 (n+1) g i j c b d f a h K=(bcase (decide (a<f)) (ptrK c fun a1=>0≤a∧a<(Nat.cast b:Int)∧ldI .i64 (rd h (a1.add (Int.toNat a*1))) fun n2=>bcase (decide (n2>(0:Int))) (Cl 47 [.pointer (some g)] h fun v3 h4=>ldP (some v3) fun p5=>Cl 272 [.pointer p5,.int .i64 a] h4 fun v6 h7=>ldI .i64 (some v6) fun n8=>0≤n8∧F222.wL4 n g i (bitsI .or .u8 j (IntKind.wrap .u8 ((1:Int)*2^(min (Int.toNat n8) (IntKind.bits .u8))))) c b d f (IntKind.wrap .i64 (a+(1:Int))) h7 K) (F222.wL4 n g i j c b d f (IntKind.wrap .i64 (a+(1:Int))) h K)) (F222.wk9 i j h K)):=by kernel_rfl
def F222.wk4:Prop:=(∃m,F222.wL4 m g i j c b d f a h K)
theorem F222.spec(H:newK h (.cells #[.int .u32 l] 46) fun b1 h2=>Cl 271 [.pointer (some g),.slice (some (Addr.mk b1 0 none)) 1 1] h2 fun v3 h4=> ∃p5:Option Addr,∃l6:Nat,∃c7:Nat,∃n8:Int,v3=(.tuple #[.slice p5 l6 c7,.int .i64 n8])∧F222.wk4 g n8 (0:Int) p5 l6 c7 (Nat.cast l6:Int) (0:Int) h4 K):Cl 222 [.pointer (some g),.int .u32 l] h K:=cT F222.T Tryz.func222 H
end
namespace F271
noncomputable def XX:List (Nat×Ext):=(1000023,.ent 46 218)::X
theorem XXok:XOk Tryz.prog XX:=Xok.ent
def T:Hint:=⟨[(6,[0,8,23])],[]⟩
noncomputable def body:Code:=(Tryz.f271.body).getD .skip
noncomputable def en(S:Stop)(p:List Nat)(κ:XK):Fr→Heap→Prop:=E Tryz.prog XX T S (sub body p) κ
noncomputable def ln(S:Stop)(p:List Nat)(κ:XK)(n:Nat):Fr→Heap→Prop:=loopN S (E Tryz.prog XX T S (sub body p)) (cutQ T (sub body p)) κ n
def fn(K:KK):XK:=fin Tryz.prog Tryz.f271.results.toList K
noncomputable def c0(S:Stop)(K:KK):XK:=seqN S (cutQ T (sub body [1,1,1,1,1])) (en S [1,1,1,1,1] (fn K)) (fn K)
noncomputable def c1(S:Stop)(K:KK):XK:=blockN 0 (c0 S K)
noncomputable def c2(S:Stop)(n6:Nat)(K:KK):XK:=backN S (cutQ T (sub body [1,1,1,1,0,1,0,0])) (ln S [1,1,1,1,0,1,0,0] (c1 S K) n6) (c1 S K)
def f6(f:Addr)(b:Option Addr)(a d:Nat)(c:Option Addr):Fr:=[(0,(.pointer (some f))),(8,(.slice b a d)),(23,(.pointer c))]
def J0(k6:Addr→(Option Addr)→Nat→Nat→(Option Addr)→Heap→Prop)(f:Addr)(j:Option Addr)(i g:Nat)(h:Heap)(K:KK):Prop:=
 Cl 107 [(.pointer (some f)),(.slice j i g)] h (fun v1 h2=>(∃r3:Option Nat,∃n4:Int,v1=(.tuple #[(.map r3),(.int .i64 n4)])∧bcase (n4 !=(0:Int)) (K (.tuple #[(.slice none 0 0),(.int .i64 n4)]) h2) (Cl 75 [(.pointer (some f))] h2 (fun v5 h6=>ldI .i64 (some v5) (fun n7=>(0≤n7∧n7≤n7∧((Nat.cast 8:Int)*n7≤281474976710656)∧n7≤9223372036854775807∧newK h6 (.cells (madeCells #[(.int .i64 0)] (Int.toNat n7*1)) 3) (fun b8 h9=>rngK h9 r3 (fun p10 h11=>k6 f (some (Addr.mk b8 0 none)) (Int.toNat n7) (Int.toNat n7) p10 h11))))))))
theorem E0(S:Stop)(f:Addr)(j:Option Addr)(i g:Nat)(h:Heap)(K:KK):(E Tryz.prog XX T S body (fin Tryz.prog Tryz.f271.results.toList K) (args0 0 [(.pointer (some f)),(.slice j i g)]) h)=J0 (fun f b a d c h=>S (en S [1,1,1,1,0,1] (c0 S K)) (f6 f b a d c) h) f j i g h K:=by kernel_rfl
def Jk6(lp6:Addr→(Option Addr)→Nat→Nat→(Option Addr)→Heap→Prop)(f:Addr)(b:Option Addr)(a d:Nat)(c:Option Addr)(h:Heap)(_K:KK):Prop:=
 lp6 f b a d c h
theorem Ek6(S:Stop)(f:Addr)(b:Option Addr)(a d:Nat)(c:Option Addr)(h:Heap)(K:KK):(en S [1,1,1,1,0,1] (c0 S K) (f6 f b a d c) h)=Jk6 (fun f b a d c h=> ∃n,S (ln S [1,1,1,1,0,1,0,0] (c1 S K) n) (f6 f b a d c) h) f b a d c h K:=by kernel_rfl
def JL6(bk6:Addr→(Option Addr)→Nat→Nat→(Option Addr)→Heap→Prop)(f:Addr)(b:Option Addr)(a d:Nat)(c:Option Addr)(h:Heap)(K:KK):Prop:=
 nxtK h c (K (.tuple #[(.slice b a d),(.int .i64 0)]) h) (fun _ _ h3=>entrK h3 c (fun v4 v5=>(∃n7:Int,(.tuple #[v4,v5])=((.tuple #[(.int .u32 n7),(.agg #[])]):Value)∧Cl 71 [(.pointer (some f)),(.int .u32 n7)] h3 (fun v8 h9=>ldI .i64 (some v8) (fun n10=>ptrK b (fun a11=>(0≤n10∧n10<(Nat.cast a:Int)∧ldI .i64 (rd h9 (a11.add (Int.toNat n10*1))) (fun n12=>ptrK b (fun a13=>(0≤n10∧n10<(Nat.cast a:Int)∧stK h9 ((a13.add (Int.toNat n10*1)).add 0) (.int .i64 (IntKind.wrap .i64 (n12+(1:Int)))) (fun h14=>bk6 f b a d c h14)))))))))))
theorem EL6(S:Stop)(n6:Nat)(f:Addr)(b:Option Addr)(a d:Nat)(c:Option Addr)(h:Heap)(K:KK):(en S [1,1,1,1,0,1,0,0] (c2 S n6 K) (f6 f b a d c) h)=JL6 (fun f b a d c h=>S (ln S [1,1,1,1,0,1,0,0] (c1 S K) n6) (f6 f b a d c) h) f b a d c h K:=by kernel_rfl
def wL6:Nat→Addr→(Option Addr)→Nat→Nat→(Option Addr)→Heap→KK→Prop
 |0,_,_,_,_,_,_,_=>False
 |n+1,f,b,a,d,c,h,K=>JL6 (fun f b a d c h=>wL6 n f b a d c h K) f b a d c h K
theorem eL6(K:KK): ∀(n:Nat) (f:Addr) (b:Option Addr) (a d:Nat) (c:Option Addr) (h:Heap),(ln S0 [1,1,1,1,0,1,0,0] (c1 S0 K) n (f6 f b a d c) h)=wL6 n f b a d c h K
 |0,_,_,_,_,_,_=>rfl
 |n+1,f,b,a,d,c,h=>(EL6 S0 n f b a d c h K).trans (cg1 (fun q0=>JL6 q0 f b a d c h K) (by funext f b a d c h;exact(fun f b a d c h=>eL6 K n f b a d c h) f b a d c h))
def wk6(f:Addr)(b:Option Addr)(a d:Nat)(c:Option Addr)(h:Heap)(K:KK):Prop:=
 Jk6 (fun f b a d c h=> ∃m,wL6 m f b a d c h K) f b a d c h K
theorem ek6(K:KK)(f:Addr)(b:Option Addr)(a d:Nat)(c:Option Addr)(h:Heap):(en S0 [1,1,1,1,0,1] (c0 S0 K) (f6 f b a d c) h)=wk6 f b a d c h K:=(Ek6 S0 f b a d c h K).trans (cg1 (fun q0=>Jk6 q0 f b a d c h K) (by funext f b a d c h;exact ex_congr fun m=>eL6 K m f b a d c h))
def w(f:Addr)(j:Option Addr)(i g:Nat)(h:Heap)(K:KK):Prop:=
 J0 (fun f b a d c h=>wk6 f b a d c h K) f j i g h K
theorem e0(K:KK)(f:Addr)(j:Option Addr)(i g:Nat)(h:Heap):(E Tryz.prog XX T S0 body (fin Tryz.prog Tryz.f271.results.toList K) (args0 0 [(.pointer (some f)),(.slice j i g)]) h)=w f j i g h K:=(E0 S0 f j i g h K).trans (cg1 (fun q0=>J0 q0 f j i g h K) (by funext f b a d c h;exact ek6 K f b a d c h))
theorem hb:Tryz.f271.body=some body:=by kernel_rfl
theorem ok:okCode T Tryz.f271.ntmps body=true:=by kernel_rfl
theorem spec(f:Addr)(j:Option Addr)(i g:Nat)(h:Heap)(K:KK)(H:w f j i g h K):Cl 271 [(.pointer (some f)),(.slice j i g)] h K:=
 calls_of_E (T:=T) XXok mix Tryz.func271 hb ok rfl (by rw[e0];exact H)
end F271
def F107.T:Hint:=⟨[(5,[1,2,6,7,14,15,16]),(10,[1,6,7]),(11,[6,7,25,26,27])],[]⟩
section
variable (n:Nat)(y:Addr)(c:Option Addr)(a b:Nat)(v t u:Addr)(f:Option Addr)(d o:Nat)(r g:Int)(j:Option Addr)(i q:Nat)(s l:Int)(h:Heap)(K:KK)
def F107.wL11:Prop:=Lp Tryz.f107 F107.T [1,1,1,1,1,0,1,0] n [(6,(.pointer (some t))),(7,(.pointer (some u))),(25,(.slice j i q)),(26,(.int .i64 s)),(27,(.int .i64 l))] h K
theorem F107.sL11:F107.wL11 (n+1) t u j i q s l h K=(bcase (decide (l<s)) (ptrK j fun a1=>0≤l∧l<(Nat.cast i:Int)∧ldI .u32 (rd h (a1.add (Int.toNat l*1))) fun n2=>ldV (rd h u) fun v3=>dynK Tryz.prog X v3 [.int .u32 n2] h fun v4 h5=>v4=(.tuple #[])∧F107.wL11 n t u j i q s (IntKind.wrap .i64 (l+(1:Int))) h5 K) (ldM (rd h t) fun r6=>K (.tuple #[.map r6,.int .i64 0]) h)):=by kernel_rfl
def F107.wk11:Prop:=(∃m,F107.wL11 m t u j i q s l h K)
def F107.wk10:Prop:=F107.wk11 t u c a b (Nat.cast a:Int) (0:Int) h K
def F107.wL5:Prop:=Lp Tryz.f107 F107.T [1,1,1,1,0,1,0] n [(1,(.slice c a b)),(2,(.pointer (some v))),(6,(.pointer (some t))),(7,(.pointer (some u))),(14,(.slice f d o)),(15,(.int .i64 r)),(16,(.int .i64 g))] h K
theorem F107.sL5:F107.wL5 (n+1) c a b v t u f d o r g h K=(bcase (decide (g<r)) (ptrK f fun a1=>0≤g∧g<(Nat.cast d:Int)∧ldI .u32 (rd h (a1.add (Int.toNat g*1))) fun n2=>ldP (rd h v) fun p3=>Cl 74 [.pointer p3,.int .u32 n2] h fun v4 h5=>ldB (some v4) fun b6=>bcase (!b6) (K (.tuple #[.map none,.int .i64 101]) h5) (F107.wL5 n c a b v t u f d o r (IntKind.wrap .i64 (g+(1:Int))) h5 K)) (F107.wk10 c a b t u h K)):=by kernel_rfl
def F107.wk5:Prop:=(∃m,F107.wL5 m c a b v t u f d o r g h K)
theorem F107.spec(H:newK h (.cells #[.pointer (some y)] 33) fun b1 h2=>newK h2 (.map #[] 0) fun b3 h4=>newK h4 (.cells #[.map none] 191) fun b5 h6=>stK h6 ((Addr.mk b5 0 none).add 0) (.map (some b3)) fun h7=>newK h7 (.cells #[.nilFunc] 244) fun b8 h9=>stK h9 ((Addr.mk b8 0 none).add 0) (.func (.func 158) #[] #[.pointer (some (Addr.mk b5 0 none)),.pointer (some (Addr.mk b8 0 none)),.pointer (some (Addr.mk b1 0 none))]) fun h10=>F107.wk5 c a b (Addr.mk b1 0 none) (Addr.mk b5 0 none) (Addr.mk b8 0 none) c a b (Nat.cast a:Int) (0:Int) h10 K):Cl 107 [.pointer (some y),.slice c a b] h K:=cT F107.T Tryz.func107 H
end
theorem F63.spec(a:Addr)(b:Bool)(h:Heap)(K:KK)(H:stK h ((a.add 7).add 0) (.bool (!b)) fun h1=>ldP (rd h1 (a.add 6)) fun p2=>Cl 113 [.pointer p2] h1 fun v3 h4=>v3=(.tuple #[])∧K (.tuple #[]) h4):Cl 63 [.pointer (some a),.bool b] h K:=cN Tryz.func63 H
end
section
def F158.T:Hint:=⟨[(2,[0,1,2,3])],[(3,[[(0,[]),(1,[]),(2,[]),(3,[0]),(4,[])]]),(4,[[(0,[]),(1,[]),(2,[]),(3,[0]),(4,[])]])]⟩
section
variable (a:Int)(c b d:Addr)(h:Heap)(K:KK)
def F158.wk2:Prop:=ldM (rd h c) fun r1=>updK h r1 .u32 .u32 a (.agg #[]) fun h2=>ldV (rd h2 b) fun v3=>ldP (rd h2 d) fun p4=>Cl 72 [.pointer p4,.int .u32 a] h2 fun v5 h6=>ldI .u32 (some v5) fun n7=>ldV (rd h6 b) fun v8=>v8=(v3:Value)∧dynK Tryz.prog X v3 [.int .u32 n7] h6 fun v9 h10=>v9=(.tuple #[])∧ldV (rd h10 b) fun v11=>ldP (rd h10 d) fun p12=>Cl 73 [.pointer p12,.int .u32 a] h10 fun v13 h14=>ldI .u32 (some v13) fun n15=>ldV (rd h14 b) fun v16=>v16=(v11:Value)∧dynK Tryz.prog X v11 [.int .u32 n15] h14 fun v17 h18=>v17=(.tuple #[])∧K (.tuple #[]) h18
theorem F158.spec(a:Int)(c b d:Addr)(h:Heap)(K:KK)(H:ldM (rd h c) fun r1=>lookK h r1 .u32 .u32 a fun o2=>ldV (some (lkV (.agg #[]) o2)) fun v3=>newK h (.cells #[] 218) fun b4 h5=>storeE Tryz.prog 218 (some (Addr.mk b4 0 none)) v3 h5 fun h6=>bcase (Option.isSome o2) (K (.tuple #[]) h6) (bcase (decide (a≤(1:Int))) (K (.tuple #[]) h6) (F158.wk2 a c b d h6 K))):Cl 158 [.int .u32 a,.pointer (some c),.pointer (some b),.pointer (some d)] h K:=cT F158.T Tryz.func158 H
end
end
section
def F113.T:Hint:=⟨[(1,[0,8,9])],[]⟩
section
variable (n:Nat)(a:Addr)(c b:Int)(h:Heap)(K:KK)
def F113.wL1:Prop:=Lp Tryz.f113 F113.T [1,0] n [(0,(.pointer (some a))),(8,(.int .i64 c)),(9,(.int .i64 b))] h K
theorem F113.sL1:F113.wL1 (n+1) a c b h K=(bcase (decide (b<c)) (ldI .i64 (rd h (a.add 1)) fun n1=>ldP (rd h (a.add 0)) fun p2=>Cl 162 [.pointer p2,.int .i64 (IntKind.wrap .i64 (n1+(IntKind.wrap .i64 ((3:Int)*b))))] h fun v3 h4=>ldI .u64 (some v3) fun n5=>bcase ((bitsI .and .u64 n5 (1:Int))==(0:Int)) (bcase (n5 !=(0:Int)) (ldP (rd h4 (a.add 0)) fun p6=>Cl 163 [.pointer p6,.int .i64 (IntKind.wrap .i64 (n1+(IntKind.wrap .i64 ((3:Int)*b)))),.int .u64 n5,.int .u64 (IntKind.wrap .u64 ((bitsI .andNot .u64 n5 (2:Int))+(4:Int)))] h4 fun v7 h8=>ldB (some v7) fun _=>F113.wL1 n a c (IntKind.wrap .i64 (b+(1:Int))) h8 K) (F113.wL1 n a c (IntKind.wrap .i64 (b+(1:Int))) h4 K)) (F113.wL1 n a c (IntKind.wrap .i64 (b+(1:Int))) h4 K)) (K (.tuple #[]) h)):=by kernel_rfl
def F113.wk1:Prop:=(∃m,F113.wL1 m a c b h K)
theorem F113.spec(H:ldI .i64 (rd h (a.add 2)) fun n1=>F113.wk1 a n1 (0:Int) h K):Cl 113 [.pointer (some a)] h K:=cT F113.T Tryz.func113 H
end
end
section
section
variable {h:Heap}{c m mc base n:Nat}{cs:List Int}{ops fails:Int}{K:Value→Heap→Prop}
theorem clear113(W:CW h c m mc base n cs ops fails)(hb:base<100000)(hv: ∀l,l<n→0≤cs.getD (base+3*l) 0∧cs.getD (base+3*l) 0<18446744073709551616∧cs.getD (base+3*l) 0%2=0)
  (hK: ∀h' ops' fails' cs',(∀l,l<n→0≤cs'.getD (base+3*l) 0∧cs'.getD (base+3*l) 0<18446744073709551616∧cs'.getD (base+3*l) 0%4=0)→CW h' c m mc base n cs' ops' fails'→Only [m,mc] h h'→K (.tuple #[]) h'):
  Cl 113 [.pointer (some ⟨c,0,none⟩)] h K:=by
 apply F113.spec
 simp only[add_mk,Nat.zero_add]
 refine ldI_of (n:=(n:Int)) (by rw[At.rd W.cac];rfl) ?_
 unfold F113.wk1
 have hn2:=W.hn2
 have: ∀(g i:Nat) (h1:Heap) (cs1:List Int) (ops1 fails1:Int),n-i<g→i≤n→(∀l,l<i→0≤cs1.getD (base+3*l) 0∧cs1.getD (base+3*l) 0<18446744073709551616∧cs1.getD (base+3*l) 0%4=0)→
   (∀l,i≤l→l<n→cs1.getD (base+3*l) 0=cs.getD (base+3*l) 0)→CW h1 c m mc base n cs1 ops1 fails1→Only [m,mc] h h1→F113.wL1 g ⟨c,0,none⟩ (n:Int) (i:Int) h1 K:=by
  intro g
  induction g with
  |zero=>intro i h1 cs1 ops1 fails1 hg;omega
  |succ g ih=>
   intro i h1 cs1 ops1 fails1 hg hi z1 z2 W1 O1
   rw[F113.sL1]
   by_cases hlt:i<n
   ·rw[decide_eq_true (by omega),bcase_true]
    simp only[add_mk,Nat.zero_add]
    have hc:=W1.hc
    have ei:IntKind.wrap .i64 ((i:Int)+1)=((i+1:Nat):Int):=by rw[wrap_i64 (by omega) (by omega)];simp
    have ea:IntKind.wrap .i64 ((base:Int)+IntKind.wrap .i64 (3*(i:Int)))=((base+3*i:Nat):Int):=by
     rw[wrap_i64 (n:=3*(i:Int)) (by omega) (by omega),wrap_i64 (by omega) (by omega)]
     simp
    refine ldI_of (n:=(base:Int)) (by rw[At.rd W1.cac];rfl) (ldP_of (by rw[At.rd W1.cac];rfl) ?_)
    rw[ea,ei]
    refine load_in W1.mem (by omega) (by omega) fun h2 M2 O2=>ldI_of rfl ?_
    rw[Int.toNat_natCast,z2 i (Nat.le_refl _) hlt]
    obtain⟨v0,v1,v2⟩:=hv i hlt
    have hz2:=z2 i (Nat.le_refl _) hlt
    generalize cs.getD (base+3*i) 0=V at*
    have O12:=O1.trans O2 fun b hb _=>hb
    have W2:CW h2 c m mc base n cs1 _ fails1:=⟨W1.cac.only O2 (by simp[W1.d4,W1.d5]),M2,W1.d4,W1.d5,W1.hn,W1.hn2,W1.hc,W1.hl⟩
    rw[and_one v0 (by omega),show(V%2==0)=true by simpa using v2,bcase_true]
    refine bcase_of (fun e=> ?_) fun e=> ?_
    ·refine ldP_of (by rw[At.rd W2.cac];rfl) (cas_in M2 (by omega) (by omega) (fun e' h3 M3 O3=>ldB_of rfl ?_) fun e'=> ?_)
     ·rw[Int.toNat_natCast,andnot_two v0 (by omega),wrap_u64']at M3
      have W3:CW h3 c m mc base n (cs1.set (base+3*i) ((4*(V/4)+V%2+4)%18446744073709551616)) _ fails1:=⟨W2.cac.only O3 (by simp[W1.d4,W1.d5]),M3,W1.d4,W1.d5,W1.hn,W1.hn2,by simpa using W1.hc,by simpa using W1.hl⟩
      refine ih (i+1) h3 _ _ _ (by omega) (by omega) (fun l hl=> ?_) (fun l hl hln=> ?_) W3 (O12.trans O3 fun b hb _=>hb)
      ·rw[getD_set (by omega)]
       by_cases h':l=i
       ·subst h'
        rw[if_pos rfl]
        omega
       ·rw[if_neg (by omega)]
        exact z1 l (by omega)
      ·rw[getD_set (by omega),if_neg (by omega)]
       exact z2 l (by omega) hln
     ·rw[Int.toNat_natCast]at e'
      exact absurd hz2 e'
    ·refine ih (i+1) h2 cs1 _ fails1 (by omega) (by omega) (fun l hl=> ?_) (fun l hl hln=>z2 l (by omega) hln) W2 O12
     by_cases h':l=i
     ·subst h'
      have:V=0:=by simpa using e
      rw[hz2,this]
      decide
     ·exact z1 l (by omega)
   ·rw[decide_eq_false (by omega),bcase_false]
    obtain rfl:i=n:=by omega
    exact hK h1 ops1 fails1 cs1 z1 W1 O1
 exact⟨n+1,this (n+1) 0 h cs ops fails (by omega) (by omega) (by omega) (fun _ _ _=>rfl) W (Only.refl _ _)⟩
end
end
section
def KpM(mo:List (Int×Value))(keep:Nat→Bool):Prop:= ∀k:Nat,(keep k=true→mo.lookup (k:Int)=some (.agg #[]))∧(keep k=false→mo.lookup (k:Int)=none)
section
variable {h:Heap}{s n room:Nat}{B:SB}{f g:Nat→Nat}{N:List (Option Nd)}{F:List Nat}{Q:Int→Int→Prop}{off:Bool}{K:Value→Heap→Prop}
end
end
section
section
variable {h:Heap}{s n room:Nat}{B:SB}{f g:Nat→Nat}{N:List (Option Nd)}{F:List Nat}{Q Q':Int→Int→Prop}{off:Bool}{K:Value→Heap→Prop}{mb:Nat}{mo:List (Int×Value)}{keep:Nat→Bool}
end
end
section
section
variable {h:Heap}{s n room:Nat}{B:SB}{f g:Nat→Nat}{N:List (Option Nd)}{F:List Nat}{Q Q':Int→Int→Prop}{off:Bool}{K:Value→Heap→Prop}{mb:Nat}{mo:List (Int×Value)}{keep:Nat→Bool}
end
end
section
def Arr(q:IntKind)(h:Heap)(b n:Nat)(g:Nat→Int)(sp:List Value):Prop:=At h b (rowV n (fun k=> .int q (g k))++sp)
end
section
end
section
end
namespace IN
end IN
section
end
section
section
variable {b n c:Nat}{g:Nat→Int}{K:Value→Heap→Prop}
end
end
section
section
variable {b n c:Nat}{g:Nat→Int}{K:Value→Heap→Prop}
end
end
section
open Go Go.RowKit Go.Maps
end
section
open Go Go.RowKit Go.Maps
end
section
open Go Go.RowKit Go.Maps
end
section
open Go Go.RowKit Go.Maps Go.Shelf
end
section
section
variable {lo:Nat}{h h':Heap}{r M S W N:Nat}{f:Int→Int}{p:Nat→Option Addr}{c:Nat→Nat}{L:Nat→List Int}{K:Value→Heap→Prop}
end
end
section
abbrev hv(a:Nat):Value:= .int .u32 (a:Int)
def add1(keep:Nat→Bool)(k a:Nat):Bool:=keep a||a==k
structure Mk(N:List (Option Nd))(rs:List Nat)(keep:Nat→Bool)(left:List Nat):Prop where
 is: ∀a,keep a=true→2≤a∧isN N a
 li: ∀a∈left,isN N a
 cl: ∀i x,nd N i=some x→keep (i+2)=true→(x.2.1<2∨keep x.2.1=true∨x.2.1∈left)∧(x.2.2<2∨keep x.2.2=true∨x.2.2∈left)
 ro: ∀r∈rs,r<2∨keep r=true∨r∈left
 mi: ∀P:Nat→Prop,(∀r∈rs,P r)→(∀i x,nd N i=some x→P (i+2)→P x.2.1∧P x.2.2)→(∀a,keep a=true→P a)∧ ∀a∈left,P a
theorem KpM.add{mo:List (Int×Value)}{keep:Nat→Bool}{k:Nat}(H:KpM mo keep):KpM (mset mo (k:Int) (.agg #[])) (add1 keep k):=fun a=>by
 have e:(a==k)=decide ((a:Int)=(k:Int)):=by
  by_cases h:a=k
  ·simp[h]
  ·rw[decide_eq_false (by omega)]
   simpa using h
 unfold add1
 rw[lookup_mset,e]
 by_cases h:(a:Int)=(k:Int)
 ·rw[if_pos h,decide_eq_true h,Bool.or_true]
  exact⟨fun _=>rfl,fun h=>by cases h⟩
 ·rw[if_neg h,decide_eq_false h,Bool.or_false]
  exact H a
end
section
section
variable {h:Heap}{s:Nat}{L:List Nat}{X:SX}{K:Value→Heap→Prop}
end
end
section
inductive Rch (N:List (Option Nd)):Nat→Nat→Prop
 |self {a:Nat} (h:2≤a):Rch N a a
 |lo {a b:Nat} (h:2≤a) (r:Rch N (low N a) b):Rch N a b
 |hi {a b:Nat} (h:2≤a) (r:Rch N (high N a) b):Rch N a b
def Cls(n:Nat)(N:List (Option Nd))(keep:Nat→Bool)(l:Nat):Prop:= ∀b,keep b=true→l≤lvl n N b→(low N b<2∨keep (low N b)=true)∧(high N b<2∨keep (high N b)=true)
def KM(mo:List (Int×Value))(keep:Nat→Bool):Prop:=KpM mo keep∧ ∀p∈mo,∃k:Nat,keep k=true∧p=((k:Int),Value.agg #[])
theorem lookup_mem{k:Int}{v:Value}: ∀{m:List (Int×Value)},m.lookup k=some v→(k,v)∈m
 | [],h=>by cases h
 |(x,y)::m,h=>by
  rw[List.lookup_cons]at h
  split at h
  ·rename_i e
   have e:k=x:=by simpa using e
   injection h with h
   subst h e
   exact List.mem_cons_self ..
  ·exact List.mem_cons_of_mem _ (lookup_mem h)
theorem KM.add{mo:List (Int×Value)}{keep:Nat→Bool}{k:Nat}(H:KM mo keep):KM (mset mo (k:Int) (.agg #[])) (add1 keep k):=by
 refine⟨H.1.add,fun p hp=> ?_⟩
 have kk:add1 keep k k=true:=by unfold add1;simp
 have up: ∀j,keep j=true→add1 keep k j=true:=fun j hj=>by unfold add1;rw[hj];rfl
 unfold mset at hp
 split at hp
 ·obtain⟨q,hq,e⟩:=List.mem_map.1 hp
  split at e
  ·exact⟨k,kk,e.symm⟩
  ·obtain⟨j,h1,h2⟩:=H.2 q hq
   exact⟨j,up j h1,by rw[←e];exact h2⟩
 ·rcases List.mem_append.1 hp with h|h
  ·obtain⟨j,h1,h2⟩:=H.2 p h
   exact⟨j,up j h1,h2⟩
  ·simp only[List.mem_singleton]at h
   exact⟨k,kk,h⟩
theorem ldM_ofC{x:Option Value}{K:Option Nat→Prop}{n:Option Nat}(hx:x=some (.map n))(hK:K n):ldM x K:=⟨n,hx,hK⟩
theorem go158:xget X 158=some Ext.go:=by kernel_rfl
section
variable {h:Heap}{s:Nat}{L:List Nat}{Y:SX}{K:Value→Heap→Prop}
theorem Rch.lvl_le{n:Nat}{N:List (Option Nd)}(ok:NOk n N){a b:Nat}(R:Rch N a b):isN N a→isN N b∧2≤b∧lvl n N a≤lvl n N b:=by
 induction R with
 |self h=>exact fun ha=>⟨ha,h,Nat.le_refl _⟩
 |lo h r ih=>
  intro ha
  obtain⟨h3,h4,h5,-,h6,h7⟩:=ok.at ha h
  obtain⟨x,y,z⟩:=ih h4
  exact⟨x,y,by omega⟩
 |hi h r ih=>
  intro ha
  obtain⟨h3,h4,h5,-,h6,h7⟩:=ok.at ha h
  obtain⟨x,y,z⟩:=ih h5
  exact⟨x,y,by omega⟩
structure GoC(h:Heap)(s mb b1 b5 b8:Nat):Prop where
 m:At h b5 [.map (some mb)]
 g:At h b8 [.func (.func 158) #[] #[.pointer (some ⟨b5,0,none⟩),.pointer (some ⟨b8,0,none⟩),.pointer (some ⟨b1,0,none⟩)]]
 s:At h b1 [.pointer (some ⟨s,0,none⟩)]
 d:mb≠b1∧mb≠b5∧mb≠b8
theorem GoC.only{S:List Nat}{h h':Heap}{s mb b1 b5 b8:Nat}(G:GoC h s mb b1 b5 b8)(O:Only S h h')(h1:b1∉S)(h5:b5∉S)(h8:b8∉S):GoC h' s mb b1 b5 b8:=⟨G.m.only O h5,G.g.only O h8,G.s.only O h1,G.d⟩
set_option maxRecDepth 100000 in
theorem goes158{mb b1 b5 b8:Nat}(dm:mb∉L): ∀(d:Nat) {h:Heap} {a:Nat} {keep:Nat→Bool} {mo:List (Int×Value)} {K:Value→Heap→Prop},Y.n-lvl Y.n Y.N a≤d→Sto h s L Y→GoC h s mb b1 b5 b8→MapM h mb .u32 mo→KM mo keep→isN Y.N a→Cls Y.n Y.N keep (lvl Y.n Y.N a)→
  (∀h' mo' keep',MapM h' mb .u32 mo'→KM mo' keep'→(∀b,keep b=true→keep' b=true)→(a<2∨keep' a=true)→(∀l,l≤lvl Y.n Y.N a→Cls Y.n Y.N keep l→Cls Y.n Y.N keep' l)→(∀b,keep' b=true→keep b=true∨Rch Y.N a b)→Only [mb] h h'→K (.tuple #[]) h')→
  Cl 158 [.int .u32 (a:Int),.pointer (some ⟨b5,0,none⟩),.pointer (some ⟨b8,0,none⟩),.pointer (some ⟨b1,0,none⟩)] h K:=by
 intro d
 induction d using Nat.strongRecOn with
 |_ d ih=>
  intro h a keep mo K hd H G M Kp ha hC hK
  have ok:=H.ok
  refine F158.spec _ _ _ _ h K ?_
  refine ldM_ofC (by rw[At.rd G.m];rfl) ?_
  have same: ∀k6,Only [] h k6→(a<2∨keep a=true)→K (.tuple #[]) k6:=fun k6 O q=>hK k6 mo keep (M.only O (by simp)) Kp (fun b hb=>hb) q (fun l _ c=>c) (fun b hb=> .inl hb) (O.mono (by simp))
  have body: ∀o:Option (Nat×Value),o.isSome=keep a→lkV (.agg #[]) o= .agg #[]→ldV (some (lkV (.agg #[]) o)) (fun v3=>newK h (.cells #[] 218) (fun b4 h5=>storeE Tryz.prog 218 (some (Addr.mk b4 0 none)) v3 h5 (fun h6=>bcase (Option.isSome o) (K (.tuple #[]) h6) (bcase (decide ((a:Int)≤(1:Int))) (K (.tuple #[]) h6) (F158.wk2 (a:Int) ⟨b5,0,none⟩ ⟨b8,0,none⟩ ⟨b1,0,none⟩ h6 K))))):=by
   intro o e1 e2
   rw[e2]
   refine⟨_,rfl,newK_at fun k6 B6 P6 y6=>store116 ?_⟩
   rw[e1]
   refine bcase_of (fun q=>same k6 P6 (.inr q)) fun q=>bcase_of (fun p=>same k6 P6 (.inl (by have:=of_decide_eq_true p;omega))) fun p=> ?_
   have p:=of_decide_eq_false p
   have a2:2≤a:=by omega
   obtain⟨h3,h4,h5,-,h6,h7⟩:=ok.1.at ha a2
   unfold F158.wk2
   have G6:=G.only P6 (by simp) (by simp) (by simp)
   have H6:=H.only0 P6
   refine ldM_ofC (by rw[At.rd G6.m];rfl) (upd_map (M.only P6 (by simp)) fun k7 M7 O7 z7=> ?_)
   have nd1:b1∉[mb]:=by simpa using fun e=>G.d.1 e.symm
   have nd5:b5∉[mb]:=by simpa using fun e=>G.d.2.1 e.symm
   have nd8:b8∉[mb]:=by simpa using fun e=>G.d.2.2 e.symm
   have nL: ∀b∈[mb],b∉L:=fun b hb hm=>by simp only[List.mem_singleton]at hb;subst hb;exact dm hm
   have G7:=G6.only O7 nd1 nd5 nd8
   have H7:=H6.only O7 nL
   have O07:Only [mb] h k7:=(P6.mono (by simp)).trans O7 fun b hb _=>hb
   have K7:=Kp.add (k:=a)
   have up: ∀b,keep b=true→add1 keep a b=true:=fun b hb=>by unfold add1;rw[hb];rfl
   have k7a:add1 keep a a=true:=by unfold add1;simp
   have ad: ∀b,add1 keep a b=true→keep b=true∨b=a:=fun b hb=>by
    unfold add1 at hb
    rw[Bool.or_eq_true]at hb
    exact hb.imp id fun e=>by simpa using e
   have C7: ∀l,lvl Y.n Y.N a<l→Cls Y.n Y.N (add1 keep a) l:=fun l hl b hb hbl=>by
    rcases ad b hb with q|q
    ·obtain⟨x,y⟩:=hC b q (by omega)
     exact⟨x.imp id (up _),y.imp id (up _)⟩
    ·subst q;omega
   rw[At.rd G7.g,show([.func (.func 158) #[] #[.pointer (some ⟨b5,0,none⟩),.pointer (some ⟨b8,0,none⟩),.pointer (some ⟨b1,0,none⟩)]]:List Value)[0]? =some (.func (.func 158) #[] #[.pointer (some ⟨b5,0,none⟩),.pointer (some ⟨b8,0,none⟩),.pointer (some ⟨b1,0,none⟩)])from rfl,ldV_some]
   refine ldP_of (by rw[At.rd G7.s];rfl) (sto_low H7 ha (ldI_of rfl ?_))
   rw[At.rd G7.g,show([.func (.func 158) #[] #[.pointer (some ⟨b5,0,none⟩),.pointer (some ⟨b8,0,none⟩),.pointer (some ⟨b1,0,none⟩)]]:List Value)[0]? =some (.func (.func 158) #[] #[.pointer (some ⟨b5,0,none⟩),.pointer (some ⟨b8,0,none⟩),.pointer (some ⟨b1,0,none⟩)])from rfl,ldV_some]
   refine⟨rfl,dynK_go go158 ?_⟩
   refine ih (Y.n-lvl Y.n Y.N (low Y.N a)) (by omega) (Nat.le_refl _) H7 G7 M7 K7 h4 (C7 _ h6) fun k8 mo8 keep8 M8 K8 up8 in8 C8 sub8 O8=>⟨rfl,?_⟩
   have G8:=G7.only O8 nd1 nd5 nd8
   have H8:=H7.only O8 nL
   rw[At.rd G8.g,show([.func (.func 158) #[] #[.pointer (some ⟨b5,0,none⟩),.pointer (some ⟨b8,0,none⟩),.pointer (some ⟨b1,0,none⟩)]]:List Value)[0]? =some (.func (.func 158) #[] #[.pointer (some ⟨b5,0,none⟩),.pointer (some ⟨b8,0,none⟩),.pointer (some ⟨b1,0,none⟩)])from rfl,ldV_some]
   refine ldP_of (by rw[At.rd G8.s];rfl) (sto_high H8 ha (ldI_of rfl ?_))
   rw[At.rd G8.g,show([.func (.func 158) #[] #[.pointer (some ⟨b5,0,none⟩),.pointer (some ⟨b8,0,none⟩),.pointer (some ⟨b1,0,none⟩)]]:List Value)[0]? =some (.func (.func 158) #[] #[.pointer (some ⟨b5,0,none⟩),.pointer (some ⟨b8,0,none⟩),.pointer (some ⟨b1,0,none⟩)])from rfl,ldV_some]
   have C8':Cls Y.n Y.N keep8 (lvl Y.n Y.N a+1):=by
    intro b hb hbl
    by_cases q:lvl Y.n Y.N (low Y.N a)≤lvl Y.n Y.N b
    ·exact C8 _ (Nat.le_refl _) (C7 _ h6) b hb q
    ·rcases sub8 b hb with z|z
     ·obtain⟨x,y⟩:=C7 (lvl Y.n Y.N a+1) (by omega) b z hbl
      exact⟨x.imp id (up8 _),y.imp id (up8 _)⟩
     ·have:=(z.lvl_le ok.1 h4).2.2;omega
   refine⟨rfl,dynK_go go158 ?_⟩
   refine ih (Y.n-lvl Y.n Y.N (high Y.N a)) (by omega) (Nat.le_refl _) H8 G8 M8 K8 h5 (fun b hb hbl=>C8' b hb (by omega)) fun k9 mo9 keep9 M9 K9 up9 in9 C9 sub9 O9=>⟨rfl,?_⟩
   have sub: ∀b,keep9 b=true→keep b=true∨b=a∨(Rch Y.N (low Y.N a) b∨Rch Y.N (high Y.N a) b):=fun b hb=>by
    rcases sub9 b hb with q|q
    ·rcases sub8 b q with q|q
     ·exact(ad b q).imp id .inl
     ·exact .inr (.inr (.inl q))
    ·exact .inr (.inr (.inr q))
   refine hK k9 mo9 keep9 M9 K9 (fun b hb=>up9 b (up8 b (up b hb))) (.inr (up9 a (up8 a k7a))) (fun l hl c b hb hbl=> ?_) (fun b hb=> ?_) ((O07.trans O8 fun b hb _=>hb).trans O9 fun b hb _=>hb)
   ·rcases sub b hb with q|q|q
    ·obtain⟨x,y⟩:=c b q hbl
     exact⟨x.imp id fun z=>up9 _ (up8 _ (up _ z)),y.imp id fun z=>up9 _ (up8 _ (up _ z))⟩
    ·subst q
     exact⟨in8.imp id (up9 _),in9⟩
    ·have lb:lvl Y.n Y.N a+1≤lvl Y.n Y.N b:=by
      rcases q with q|q
      ·have:=(q.lvl_le ok.1 h4).2.2;omega
      ·have:=(q.lvl_le ok.1 h5).2.2;omega
     by_cases z:lvl Y.n Y.N (high Y.N a)≤lvl Y.n Y.N b
     ·exact C9 _ (Nat.le_refl _) (fun b hb hbl=>C8' b hb (by omega)) b hb z
     ·rcases sub9 b hb with w|w
      ·obtain⟨x,y⟩:=C8' b w lb
       exact⟨x.imp id (up9 _),y.imp id (up9 _)⟩
      ·have:=(w.lvl_le ok.1 h5).2.2;omega
   ·rcases sub b hb with q|q|q|q
    ·exact .inl q
    ·subst q;exact .inr (.self a2)
    ·exact .inr (.lo a2 q)
    ·exact .inr (.hi a2 q)
  refine look_map (m:=mo) M (fun hn=> ?_) fun j v hv'=> ?_
  ·have k0:keep a=false:=by
    cases hk:keep a with
    |false=>rfl
    |true=>rw[(Kp.1 a).1 hk]at hn;cases hn
   exact body none (by rw[k0];rfl) rfl
  ·have k1:keep a=true:=by
    cases hk:keep a with
    |true=>rfl
    |false=>rw[(Kp.1 a).2 hk]at hv';cases hv'
   rw[(Kp.1 a).1 k1]at hv'
   injection hv' with hv'
   subst hv'
   exact body (some (j,.agg #[])) (by rw[k1];rfl) rfl
theorem reached107{lo:Nat}{p:Option Addr}{c:Nat}{rs:List Nat}(H:Sto h s L Y)(Hr:Own h lo 1 p rs.length c (rs.map hv))(hr: ∀r∈rs,isN Y.N r)(hl:rs.length≤100000)
  (hK: ∀h' mb mo keep,MapM h' mb .u32 mo→KM mo keep→h.size≤mb→(∀b,keep b=true↔ ∃r∈rs,Rch Y.N r b)→Only [] h h'→K (.tuple #[.map (some mb),.int .i64 0]) h'):
  Cl 107 [.pointer (some ⟨s,0,none⟩),.slice p rs.length c] h K:=by
 have ok:=H.ok
 refine F107.spec _ _ _ _ h K ?_
 refine newK_at fun h1 A1 O1 z1=>newK_map4 (k:= .u32) fun h2 M2 O2 z2=>newK_at fun h3 A3 O3 z3=> ?_
 rw[add_mk]
 refine stK_at A3 (by simp) rfl fun h4 A4 O4 z4=>newK_at fun h5 A5 O5 z5=> ?_
 rw[add_mk]
 refine stK_at A5 (by simp) rfl fun h6 A6 O6 z6=> ?_
 have O02:Only [] h h2:=O1.trans O2 (by simp)
 have O04:Only [] h h4:=(O02.trans O3 (by simp)).trans O4 (by intro x hx hl;simp only[List.mem_singleton]at hx;omega)
 have O06:Only [] h h6:=(O04.trans O5 (by simp)).trans O6 (by intro x hx hl;simp only[List.mem_singleton]at hx;omega)
 have H6:=H.only0 O06
 have Hr6:=Hr.only O06 (by simp)
 have M6:MapM h6 h1.size .u32 []:=(((M2.only O3 (by simp)).only O4 (by simp;omega)).only O5 (by simp)).only O6 (by simp;omega)
 have G6:GoC h6 s h1.size h.size h2.size h4.size:=by
  refine⟨(A4.only O5 (by simp)).only O6 (by simp;omega),A6,?_,⟨by omega,by omega,by omega⟩⟩
  exact((((A1.only O2 (by simp)).only O3 (by simp)).only O4 (by simp;omega)).only O5 (by simp)).only O6 (by simp;omega)
 have dm:h1.size∉L:=fun hm=>by have:=H.lt _ hm;omega
 have second: ∀(d i:Nat) (k:Heap) (mo:List (Int×Value)) (keep:Nat→Bool),i+d=rs.length→MapM k h1.size .u32 mo→KM mo keep→Cls Y.n Y.N keep 0→(∀r∈rs.take i,r<2∨keep r=true)→(∀b,keep b=true→ ∃r∈rs,Rch Y.N r b)→Only [h1.size] h6 k→
   F107.wL11 (d+1) ⟨h2.size,0,none⟩ ⟨h4.size,0,none⟩ p rs.length c (rs.length:Int) (i:Int) k K:=by
  intro d
  induction d with
  |zero=>
   intro i k mo keep hi M Kp hC hin hsub O
   rw[F107.sL11]
   rw[decide_eq_false (by omega),bcase_false]
   have G:=G6.only O (by simp;omega) (by simp;omega) (by simp;omega)
   refine ldM_ofC (by rw[At.rd G.m];rfl) ?_
   have et:rs.take i=rs:=List.take_of_length_le (by omega)
   rw[et]at hin
   have down: ∀{r b:Nat},Rch Y.N r b→isN Y.N r→(r<2∨keep r=true)→keep b=true:=fun {r b} R=>by
    induction R with
    |self h=>exact fun _ q=>q.resolve_left (by omega)
    |lo h r ih=>
     intro hr q
     obtain⟨h3,h4,h5,-,h6,h7⟩:=ok.1.at hr h
     exact ih h4 (hC _ (q.resolve_left (by omega)) (Nat.zero_le _)).1
    |hi h r ih=>
     intro hr q
     obtain⟨h3,h4,h5,-,h6,h7⟩:=ok.1.at hr h
     exact ih h5 (hC _ (q.resolve_left (by omega)) (Nat.zero_le _)).2
   exact hK k h1.size mo keep M Kp (by omega) (fun b=>⟨hsub b,fun⟨r,hr',R⟩=>down R (hr r hr') (hin r hr')⟩) (O06.trans O (by intro x hx hl;simp only[List.mem_singleton]at hx;omega))
  |succ d ih=>
   intro i k mo keep hi M Kp hC hin hsub O
   rw[F107.sL11]
   rw[decide_eq_true (by omega),bcase_true]
   have Ok:Only [] h k:=O06.trans O (by intro x hx hl;simp only[List.mem_singleton]at hx;omega)
   have Hrk:=Hr.only Ok (by simp)
   have Hk:=H.only0 Ok
   have G:=G6.only O (by simp;omega) (by simp;omega) (by simp;omega)
   obtain⟨b,eb,rr⟩:=Hrk.rd (j:=i) (by simp;omega)
   rw[eb,ptrK_some,←eb]
   refine⟨by omega,by omega,?_⟩
   rw[add_mk,Nat.zero_add,show Int.toNat (i:Int)*1=i by omega,rr]
   obtain⟨a,ha⟩: ∃a,rs[i]? =some a:=⟨_,List.getElem?_eq_getElem (by omega)⟩
   have hm:=List.mem_of_getElem? ha
   refine ldI_of (n:=(a:Int)) (by simp[ha]) ?_
   rw[At.rd G.g,show([.func (.func 158) #[] #[.pointer (some ⟨h2.size,0,none⟩),.pointer (some ⟨h4.size,0,none⟩),.pointer (some ⟨h.size,0,none⟩)]]:List Value)[0]? =some (.func (.func 158) #[] #[.pointer (some ⟨h2.size,0,none⟩),.pointer (some ⟨h4.size,0,none⟩),.pointer (some ⟨h.size,0,none⟩)])from rfl,ldV_some]
   refine dynK_go go158 (goes158 dm Y.n (Nat.sub_le _ _) Hk G M Kp (hr a hm) (fun b hb hbl=>hC b hb (Nat.zero_le _)) fun k2 mo2 keep2 M2 K2 up2 in2 C2 sub2 O2=>⟨rfl,?_⟩)
   rw[show IntKind.wrap .i64 ((i:Int)+1)=((i+1:Nat):Int) by rw[wrap_i64 (by omega) (by omega)];omega]
   refine ih (i+1) k2 mo2 keep2 (by omega) M2 K2 (C2 0 (Nat.zero_le _) hC) (fun r hr'=> ?_) (fun b hb=> ?_) (O.trans O2 fun x hx _=>hx)
   ·rw[List.take_add_one,ha]at hr'
    rcases List.mem_append.1 hr' with q|q
    ·exact(hin r q).imp id (up2 r)
    ·simp only[Option.toList_some,List.mem_singleton]at q
     subst q
     exact in2
   ·rcases sub2 b hb with q|q
    ·exact hsub b q
    ·exact⟨a,hm,q⟩
 unfold F107.wk5
 have first: ∀(d i:Nat),i+d=rs.length→F107.wL5 (d+1) p rs.length c ⟨h.size,0,none⟩ ⟨h2.size,0,none⟩ ⟨h4.size,0,none⟩ p rs.length c (rs.length:Int) (i:Int) h6 K:=by
  intro d
  induction d with
  |zero=>
   intro i hi
   rw[F107.sL5]
   rw[decide_eq_false (by omega),bcase_false]
   unfold F107.wk10 F107.wk11
   exact⟨_,second rs.length 0 h6 [] (fun _=>false) (by omega) M6 ⟨fun k=>⟨fun h=>(by cases h),fun _=>rfl⟩,fun p hp=>(by cases hp)⟩ (fun b hb=>(by cases hb)) (fun r hr'=>(by simp at hr')) (fun b hb=>(by cases hb)) (Only.refl _ _)⟩
  |succ d ih=>
   intro i hi
   rw[F107.sL5]
   rw[decide_eq_true (by omega),bcase_true]
   obtain⟨b,eb,rr⟩:=Hr6.rd (j:=i) (by simp;omega)
   rw[eb,ptrK_some,←eb]
   refine⟨by omega,by omega,?_⟩
   rw[add_mk,Nat.zero_add,show Int.toNat (i:Int)*1=i by omega,rr]
   obtain⟨a,ha⟩: ∃a,rs[i]? =some a:=⟨_,List.getElem?_eq_getElem (by omega)⟩
   have hm:=List.mem_of_getElem? ha
   refine ldI_of (n:=(a:Int)) (by simp[ha]) (ldP_of (by rw[At.rd G6.s];rfl) (sto_is1 H6 (hr a hm) (ldB_of rfl ?_)))
   rw[Bool.not_true,bcase_false,show IntKind.wrap .i64 ((i:Int)+1)=((i+1:Nat):Int) by rw[wrap_i64 (by omega) (by omega)];omega]
   exact ih (i+1) (by omega)
 exact⟨_,first rs.length 0 (by omega)⟩
end
end
section
open Classical in
noncomputable def lvB(n:Nat)(N:List (Option Nd))(a l:Nat):Bool:=decide (∃b,Rch N a b∧lvl n N b=l)
def supM(fo:Nat→Nat)(p:Nat→Bool):Nat→Nat
 |0=>0
 |l+1=>if p l then supM fo p l|||2^fo l else supM fo p l
noncomputable def fitB(n:Nat)(fo:Nat→Nat)(N:List (Option Nd))(a:Nat):Bool:=bitsI .and .u8 ((supM fo (lvB n N a) n:Nat):Int) (170:Int)==(0:Int)
theorem Rch.ext{n:Nat}{N N':List (Option Nd)}(ok:NOk n N)(E:Ex N N'){a b:Nat}(R:Rch N a b):isN N a→Rch N' a b:=by
 induction R with
 |self h=>exact fun _=> .self h
 |lo h r ih=>
  intro ha
  obtain⟨h3,h4,h5,-⟩:=ok.at ha h
  exact .lo h (by rw[E.low ha];exact ih h4)
 |hi h r ih=>
  intro ha
  obtain⟨h3,h4,h5,-⟩:=ok.at ha h
  exact .hi h (by rw[E.high ha];exact ih h5)
theorem Rch.back{n:Nat}{N N':List (Option Nd)}(ok:NOk n N)(E:Ex N N'){a b:Nat}(R:Rch N' a b):isN N a→Rch N a b:=by
 induction R with
 |self h=>exact fun _=> .self h
 |lo h r ih=>
  intro ha
  obtain⟨h3,h4,h5,-⟩:=ok.at ha h
  rw[E.low ha]at ih
  exact .lo h (ih h4)
 |hi h r ih=>
  intro ha
  obtain⟨h3,h4,h5,-⟩:=ok.at ha h
  rw[E.high ha]at ih
  exact .hi h (ih h5)
theorem fitB_ext{n:Nat}{fo:Nat→Nat}{N N':List (Option Nd)}{a:Nat}(ok:NOk n N)(E:Ex N N')(ha:isN N a):fitB n fo N' a=fitB n fo N a:=by
 have:lvB n N' a=lvB n N a:=by
  funext l
  unfold lvB
  congr 1
  apply propext
  constructor
  ·rintro ⟨b,R,e⟩
   have R0:=R.back ok E ha
   exact⟨b,R0,by rw[←E.lvl (R0.lvl_le ok ha).1];exact e⟩
  ·rintro ⟨b,R,e⟩
   exact⟨b,R.ext ok E ha,by rw[E.lvl (R.lvl_le ok ha).1];exact e⟩
 unfold fitB
 rw[this]
theorem supM_lt{fo:Nat→Nat}{p:Nat→Bool}: ∀n,(∀l,l<n→fo l<8)→supM fo p n<256
 |0,_=>by unfold supM;decide
 |n+1,h=>by
  have ih:=supM_lt (p:=p) n fun l hl=>h l (by omega)
  unfold supM
  split
  ·have:2^fo n<2^8:=Nat.pow_lt_pow_right (by decide) (h n (by omega))
   exact Nat.or_lt_two_pow (n:=8) ih this
  ·exact ih
theorem bor8{a b:Nat}(ha:a<256)(hb:b<256):bitsI .or .u8 (a:Int) (b:Int)=((a|||b:Nat):Int):=by
 unfold bitsI
 show IntKind.wrap .u8 ((BitVec.ofInt 8 (a:Int)|||BitVec.ofInt 8 (b:Int)).toNat:Int)=_
 have e: ∀{x:Nat},x<256→(BitVec.ofInt 8 (x:Int)).toNat=x:=fun hx=>by
  rw[BitVec.ofInt_natCast,BitVec.toNat_ofNat]
  exact Nat.mod_eq_of_lt hx
 rw[BitVec.toNat_or,e ha,e hb]
 exact wrap8 (Nat.or_lt_two_pow (n:=8) ha hb)
section
variable {h:Heap}{s:Nat}{L:List Nat}{Y:SX}{K:Value→Heap→Prop}
def zL(n:Nat)(g:Nat→Nat):List Value:=(List.range n).map fun l=> .int .i64 (g l:Int)
theorem zL_get{n:Nat}{g:Nat→Nat}{l:Nat}(hl:l<n):(zL n g)[l]? =some (.int .i64 (g l:Int)):=by simp[zL,hl]
theorem zL_set{n:Nat}{g:Nat→Nat}{k v:Nat}:(zL n g).set k (.int .i64 (v:Int))=zL n (upd g k v):=by
 apply List.ext_getElem?
 intro i
 rw[List.getElem?_set]
 by_cases hi:i<n
 ·rw[zL_get (g:=upd g k v) hi]
  by_cases e:k=i
  ·subst e
   rw[if_pos rfl,if_pos (by simpa[zL]using hi)]
   unfold upd
   rw[if_pos rfl]
  ·rw[if_neg e,zL_get hi]
   unfold upd
   rw[if_neg (fun h=>e h.symm)]
 ·have:(zL n (upd g k v))[i]? =none:=List.getElem?_eq_none (by simpa[zL]using hi)
  rw[this]
  split
  ·rename_i e
   subst e
   rw[if_neg (by simpa[zL]using hi)]
  ·exact List.getElem?_eq_none (by simpa[zL]using hi)
theorem levels271{lo:Nat}{p:Option Addr}{c:Nat}{rs:List Nat}(H:Sto h s L Y)(Hr:Own h lo 1 p rs.length c (rs.map hv))(hr: ∀r∈rs,isN Y.N r)(hl:rs.length≤100000)
  (hK: ∀h' b g,At h' b (zL Y.n g)→h.size≤b→(∀l,l<Y.n→(0<g l↔ ∃x,(∃r∈rs,Rch Y.N r x)∧lvl Y.n Y.N x=l))→(∀l,g l≤40000)→Only [] h h'→K (.tuple #[.slice (some ⟨b,0,none⟩) Y.n Y.n,.int .i64 0]) h'):
  Cl 271 [.pointer (some ⟨s,0,none⟩),.slice p rs.length c] h K:=by
 have ok:=H.ok
 have n8:=ok.2.2.1
 refine F271.spec _ _ _ _ h K ?_
 unfold F271.w F271.J0
 refine reached107 H Hr hr hl fun h1 mb mo keep M1 Kp gm sem O1=>⟨_,_,rfl,?_⟩
 rw[show((0:Int) !=(0:Int))=false from rfl,bcase_false]
 have H1:=H.only0 O1
 refine sto_vars H1 (ldI_of rfl ⟨Int.natCast_nonneg _,Int.le_refl _,by omega,by omega,newK_at fun h2 A2 O2 z2=> ?_⟩)
 have z1:=O1.size
 have A2:At h2 h1.size (zL Y.n fun _=>0):=by
  have e:(madeCells #[(.int .i64 (0:Int))] (Int.toNat (Y.n:Int)*1)).toList=zL Y.n fun _=>0:=by
   rw[toList_madeCells_one,Int.toNat_natCast,Nat.mul_one]
   unfold zL
   rw[List.map_const',List.length_range]
   rfl
  rw[←e];exact A2
 rw[Int.toNat_natCast]
 have M2:=M1.only O2 (by simp)
 have mlt:=M1.lt
 refine rng_start M2 fun h3 R3 O3 z3=> ?_
 have isk: ∀k,keep k=true→isN Y.N k∧2≤k∧lvl Y.n Y.N k<Y.n:=fun k hk=>by
  obtain⟨r,hr',R⟩:=(sem k).1 hk
  obtain⟨a,b,-⟩:=R.lvl_le ok.1 (hr r hr')
  exact⟨a,b,(ok.1.at a b).1⟩
 have mlen:mo.length≤32770:=by
  obtain⟨es,cl,-,-,nd,-⟩:=M1
  have:=nodup_sub_len (mo.map (·.1)) ((List.range 32770).map fun i:Nat=>(i:Int)) nd fun x hx=>by
   obtain⟨q,hq,e⟩:=List.mem_map.1 hx
   obtain⟨k,hk,e2⟩:=Kp.2 q hq
   have:=H.isN_lt (isk k hk).1
   refine List.mem_map.2 ⟨k,List.mem_range.2 this,?_⟩
   rw[←e,e2]
  simpa using this
 unfold F271.wk6 F271.Jk6
 have main: ∀(d:Nat) (left:List (Int×Value)) (g:Nat→Nat) (k:Heap),left.length≤d→(∀q∈left,q∈mo)→Rng k h2.size mb .u32 mo left→At k h1.size (zL Y.n g)→(∀q∈mo,q∈left∨ ∀a:Nat,q.1=(a:Int)→0<g (lvl Y.n Y.N a))→
   (∀l,0<g l→ ∃a,keep a=true∧lvl Y.n Y.N a=l)→(∀l,g l+left.length≤mo.length)→Only [] h k→F271.wL6 (d+1) ⟨s,0,none⟩ (some ⟨h1.size,0,none⟩) Y.n Y.n (some ⟨h2.size,0,none⟩) k K:=by
  have fin: ∀(g:Nat→Nat) (k:Heap),At k h1.size (zL Y.n g)→(∀q∈mo,∀a:Nat,q.1=(a:Int)→0<g (lvl Y.n Y.N a))→(∀l,0<g l→ ∃a,keep a=true∧lvl Y.n Y.N a=l)→(∀l,g l≤mo.length)→Only [] h k→K (.tuple #[.slice (some ⟨h1.size,0,none⟩) Y.n Y.n,.int .i64 0]) k:=fun g k A c1 c2 c3 O=>by
   refine hK k h1.size g A (by omega) (fun l hl=>⟨fun hg=> ?_,fun⟨x,hx,e⟩=> ?_⟩) (fun l=>by have:=c3 l;omega) O
   ·obtain⟨a,ha,e⟩:=c2 l hg
    exact⟨a,(sem a).1 ha,e⟩
   ·rw[←e]
    exact c1 _ (lookup_mem ((Kp.1 x).1 ((sem x).2 hx))) x rfl
  intro d
  induction d with
  |zero=>
   intro left g k hd hs R A c1 c2 c3 O
   have e:left=[]:=List.eq_nil_of_length_eq_zero (by omega)
   subst e
   unfold F271.wL6 F271.JL6
   refine rng_next R (by omega) (fun _=>fin g k A (fun q hq=>(c1 q hq).resolve_left (by simp)) c2 (fun l=>by have:=c3 l;simpa using this) O) fun A x v B h3 e=> ?_
   simp at e
  |succ d ih=>
   intro left g k hd hs R A c1 c2 c3 O
   unfold F271.wL6 F271.JL6
   refine rng_next R (by omega) (fun e=> ?_) fun L1 x v L2 k2 e R2 P2 O2' z2'=> ?_
   ·subst e
    exact fin g k A (fun q hq=>(c1 q hq).resolve_left (by simp)) c2 (fun l=>by have:=c3 l;simpa using this) O
   ·subst e
    obtain⟨a,ha,e2⟩:=Kp.2 _ (hs (x,v) (by simp))
    injection e2 with e3 e4
    subst e3 e4
    obtain⟨i1,i2,i3⟩:=isk a ha
    have O':Only [] h k2:=O.trans O2' (by intro b hb hl;simp at hb;omega)
    refine rng_entry P2 ⟨(a:Int),rfl,?_⟩
    have Hk:=H.only0 O'
    refine sto_level Hk i1 (ldI_of rfl ?_)
    have Ak:=A.only O2' (by simp;omega)
    rw[ptrK_some]
    have cl:=c3 (lvl Y.n Y.N a)
    have lenL:(L1++((a:Int),Value.agg #[])::L2).length=L1.length+L2.length+1:=by simp;omega
    refine⟨Int.natCast_nonneg _,by omega,?_⟩
    rw[add_mk,Nat.zero_add,Int.toNat_natCast,Nat.mul_one]
    refine ldI_of (n:=(g (lvl Y.n Y.N a):Int)) (by rw[At.rd Ak,zL_get i3]) ?_
    rw[ptrK_some]
    refine⟨Int.natCast_nonneg _,by omega,?_⟩
    have ew:IntKind.wrap .i64 ((g (lvl Y.n Y.N a):Int)+1)=((g (lvl Y.n Y.N a)+1:Nat):Int):=by rw[wrap_i64 (by omega) (by omega)];omega
    rw[ew,add_mk]
    simp only[Nat.zero_add,Nat.add_zero]
    refine stK_at Ak (by simpa[zL]using i3) rfl fun k3 A3 O3' z3'=> ?_
    rw[zL_set]at A3
    have gu: ∀l,g l≤upd g (lvl Y.n Y.N a) (g (lvl Y.n Y.N a)+1) l∧upd g (lvl Y.n Y.N a) (g (lvl Y.n Y.N a)+1) l≤g l+1:=fun l=>by
     unfold upd
     split
     ·rename_i q;subst q;omega
     ·omega
    refine ih (L1++L2) _ k3 (by simp;omega) (fun q hq=>hs q (by rcases List.mem_append.1 hq with w|w<;>simp[w])) ?_ A3 (fun q hq=> ?_) (fun l hg=> ?_) (fun l=> ?_) (O'.trans O3' (by intro b hb hl;simp at hb;omega))
    ·exact R2.only O3' (by simp;omega) (by simp;omega)
    ·rcases c1 q hq with w|w
     ·rcases List.mem_append.1 w with w|w
      ·exact .inl (by simp[w])
      ·rcases List.mem_cons.1 w with w|w
       ·subst w
        refine .inr fun a' e=> ?_
        have:a'=a:=by have e:(a:Int)=(a':Int):=e;omega
        subst this
        unfold upd
        rw[if_pos rfl]
        omega
       ·exact .inl (by simp[w])
     ·exact .inr fun a' e=>by have:=w a' e;have:=(gu (lvl Y.n Y.N a')).1;omega
    ·by_cases q:l=lvl Y.n Y.N a
     ·exact⟨a,ha,q.symm⟩
     ·unfold upd at hg
      rw[if_neg q]at hg
      exact c2 l hg
    ·have:=(gu l).2
     have:=c3 l
     simp only[List.length_append]at*
     omega
 exact⟨_,main mo.length mo (fun _=>0) h3 (Nat.le_refl _) (fun q hq=>hq) R3 (A2.only O3 (by simp)) (fun q hq=> .inl hq) (fun l hg=>absurd hg (Nat.lt_irrefl _)) (fun l=>by simp) (((O1.trans O2 (by simp)).trans O3 (by simp)))⟩
theorem support222{a:Nat}(H:Sto h s L Y)(ha:isN Y.N a)(hf: ∀l,l<Y.n→Y.f l<8)
  (hK: ∀h',Only [] h h'→K (.tuple #[.int .u8 ((supM Y.f (lvB Y.n Y.N a) Y.n:Nat):Int),.int .i64 0]) h'):Cl 222 [.pointer (some ⟨s,0,none⟩),.int .u32 (a:Int)] h K:=by
 have ok:=H.ok
 have n8:=ok.2.2.1
 refine F222.spec _ _ h K ?_
 refine newK_at fun h1 A1 O1 z1=> ?_
 have Ow:Own h1 h.size 1 (some ⟨h.size,0,none⟩) [a].length 1 ([a].map hv):=⟨rfl,.inr ⟨h.size,[],rfl,Nat.le_refl _,Nat.le_refl _,rfl,A1⟩⟩
 refine levels271 (rs:=[a]) (H.only0 O1) Ow (fun r hr=>by simp only[List.mem_singleton]at hr;subst hr;exact ha) (by simp) fun h2 b g A2 gb sem g4 O2=>⟨_,_,_,_,rfl,?_⟩
 have O02:=O1.trans O2 (by simp)
 unfold F222.wk4
 have pg: ∀l,l<Y.n→decide (0<g l)=lvB Y.n Y.N a l:=fun l hl=>by
  unfold lvB
  rw[decide_eq_decide,sem l hl]
  simp
 have main: ∀(d l:Nat) (k:Heap),l+d=Y.n→Only [] h2 k→F222.wL4 (d+1) ⟨s,0,none⟩ 0 ((supM Y.f (lvB Y.n Y.N a) l:Nat):Int) (some ⟨b,0,none⟩) Y.n Y.n (Y.n:Int) (l:Int) k K:=by
  intro d
  induction d with
  |zero=>
   intro l k hl O
   rw[F222.sL4]
   rw[decide_eq_false (by omega),bcase_false]
   unfold F222.wk9
   have:=hK k (O02.trans O (by simp))
   rw[←show l=Y.n by omega]at this
   rw[show l=Y.n by omega]at this ⊢
   exact this
  |succ d ih=>
   intro l k hl O
   rw[F222.sL4]
   rw[decide_eq_true (by omega),bcase_true,ptrK_some]
   refine⟨by omega,by omega,?_⟩
   have Ak:=A2.only O (by simp)
   rw[add_mk,Nat.zero_add,Int.toNat_natCast,Nat.mul_one]
   refine ldI_of (n:=(g l:Int)) (by rw[At.rd Ak,zL_get (by omega)]) ?_
   have ew:IntKind.wrap .i64 ((l:Int)+1)=((l+1:Nat):Int):=by rw[wrap_i64 (by omega) (by omega)];omega
   rw[ew]
   have pl:=pg l (by omega)
   have sl:=supM_lt (p:=lvB Y.n Y.N a) l fun l' hl'=>hf l' (by omega)
   refine bcase_of (fun q=> ?_) fun q=> ?_
   ·have q:=of_decide_eq_true q
    have Hk:=H.only0 (O02.trans O (by simp))
    refine sto_order Hk fun c k2 Or g2 O2'=>ldP_of rfl ?_
    refine ord_var Or n8 (by omega) (ldI_of rfl ⟨Int.natCast_nonneg _,?_⟩)
    have f8:=hf l (by omega)
    have p8':2^Y.f l<2^8:=Nat.pow_lt_pow_right (by decide) f8
    have p8:2^Y.f l<256:=p8'
    have e1:IntKind.wrap .u8 ((1:Int)*2^(min (Int.toNat ((Y.f l:Nat):Int)) (IntKind.bits .u8)))=((2^Y.f l:Nat):Int):=by
     rw[show min (Int.toNat ((Y.f l:Nat):Int)) (IntKind.bits .u8)=Y.f l by show min (Y.f l) 8=Y.f l;omega,Int.one_mul,show((2:Int)^Y.f l)=((2^Y.f l:Nat):Int) by simp]
     exact wrap8 p8
    rw[e1,bor8 sl p8]
    have:=ih (l+1) k2 (by omega) (O.trans O2' (by simp))
    unfold supM at this
    rw[←pl,decide_eq_true (by omega),if_pos rfl]at this
    exact this
   ·have q:=of_decide_eq_false q
    have:=ih (l+1) k (by omega) O
    unfold supM at this
    rw[←pl,decide_eq_false (by omega),if_neg (by simp)]at this
    exact this
 exact⟨_,main Y.n 0 h2 (by omega) (Only.refl _ _)⟩
theorem fits179{a:Nat}(H:Sto h s L Y)(ha:isN Y.N a)(hf: ∀l,l<Y.n→Y.f l<8)(hK: ∀h',Only [] h h'→K (.bool (fitB Y.n Y.f Y.N a)) h'):Cl 179 [.pointer (some ⟨s,0,none⟩),.int .u32 (a:Int)] h K:=by
 refine F179.spec _ _ h K ?_
 refine support222 H ha hf fun h1 O1=>⟨_,_,rfl,?_⟩
 rw[show((0:Int)==(0:Int))=true from rfl,bcase_true]
 exact hK h1 O1
end
end
section
def F15.T:Hint:=⟨[(10,[3,9,11,36,37]),(17,[3,9,11]),(18,[3,9,11,16])],[(21,[[(0,[]),(1,[]),(2,[]),(3,[]),(4,[]),(5,[]),(6,[]),(7,[]),(8,[]),(9,[]),(10,[]),(11,[]),(12,[]),(13,[]),(14,[]),(15,[]),(16,[7,8,9,12,13,14]),(17,[]),(18,[12,13,14]),(19,[]),(20,[])]])]⟩
section
variable (n:Nat)(aa ab ac ad ae af ag ai aj am an ao:Int)(y:Option Addr)(u z:Nat)(x9:Option Addr)(a:Addr)(t d f g i j l o q r s b c v:Int)(h:Heap)(K:KK)
def F15.wL18:Prop:=Lp Tryz.f15 F15.T [1,1,1,1,1,1,1,0,1,0] n [(3,(.slice y u z)),(9,(.pointer x9)),(11,(.pointer (some a))),(16,(.int .i64 t))] h K
theorem F15.sL18:F15.wL18 (n+1) y u z x9 a t h K=(bcase (decide (t<(Nat.cast u:Int))) (ptrK y fun a1=>0≤t∧t<(Nat.cast u:Int)∧ldI .i64 (rd h ((a1.add (Int.toNat t*5)).add 0)) fun n2=>ldI .u32 (rd h ((a1.add (Int.toNat t*5)).add 1)) fun n3=>ldI .u32 (rd h ((a1.add (Int.toNat t*5)).add 2)) fun n4=>ldI .u32 (rd h ((a1.add (Int.toNat t*5)).add 3)) fun n5=>ldI .u8 (rd h ((a1.add (Int.toNat t*5)).add 4)) fun n6=>newK h (.cells #[.int .i64 0,.int .u32 0,.int .u32 0,.int .u32 0,.int .u8 0] 66) fun b7 h8=>stK h8 ((Addr.mk b7 0 none).add 0) (.int .i64 n2) fun h9=>stK h9 ((Addr.mk b7 0 none).add 1) (.int .u32 n3) fun h10=>stK h10 ((Addr.mk b7 0 none).add 2) (.int .u32 n4) fun h11=>stK h11 ((Addr.mk b7 0 none).add 3) (.int .u32 n5) fun h12=>stK h12 ((Addr.mk b7 0 none).add 4) (.int .u8 n6) fun h13=>ldI .u32 (rd h13 ((Addr.mk b7 0 none).add 1)) fun n14=>((3:Int)≠0∧(0≤(Int.tmod n14 (3:Int))∧(Int.tmod n14 (3:Int))<(Nat.cast 3:Int)∧ldI .u32 (rd h13 (a.add (Int.toNat (Int.tmod n14 (3:Int))*1))) fun n15=>ldI .u32 (rd h13 ((Addr.mk b7 0 none).add 2)) fun n16=>((3:Int)≠0∧(0≤(Int.tmod n16 (3:Int))∧(Int.tmod n16 (3:Int))<(Nat.cast 3:Int)∧ldI .u32 (rd h13 (a.add (Int.toNat (Int.tmod n16 (3:Int))*1))) fun n17=>ldI .u32 (rd h13 ((Addr.mk b7 0 none).add 3)) fun n18=>((3:Int)≠0∧(0≤(Int.tmod n18 (3:Int))∧(Int.tmod n18 (3:Int))<(Nat.cast 3:Int)∧ldI .u32 (rd h13 (a.add (Int.toNat (Int.tmod n18 (3:Int))*1))) fun n19=>stK h13 (((Addr.mk b7 0 none).add 1).add 0) (.int .u32 n15) fun h20=>((3:Int)≠0∧((.int .u32 (Int.tmod n16 (3:Int)))=((.int .u32 (Int.tmod n16 (3:Int))):Value)∧(0≤(Int.tmod n16 (3:Int))∧(Int.tmod n16 (3:Int))<(Nat.cast 3:Int)∧((.pointer (some (a.add (Int.toNat (Int.tmod n16 (3:Int))*1))))=((.pointer (some (a.add (Int.toNat (Int.tmod n16 (3:Int))*1)))):Value)∧ldI .u32 (rd h20 (a.add (Int.toNat (Int.tmod n16 (3:Int))*1))) fun n21=>((.int .u32 n21)=((.int .u32 n17):Value)∧((3:Int)≠0∧((.int .u32 (Int.tmod n18 (3:Int)))=((.int .u32 (Int.tmod n18 (3:Int))):Value)∧(0≤(Int.tmod n18 (3:Int))∧(Int.tmod n18 (3:Int))<(Nat.cast 3:Int)∧((.pointer (some (a.add (Int.toNat (Int.tmod n18 (3:Int))*1))))=((.pointer (some (a.add (Int.toNat (Int.tmod n18 (3:Int))*1)))):Value)∧ldI .u32 (rd h20 (a.add (Int.toNat (Int.tmod n18 (3:Int))*1))) fun n22=>((.int .u32 n22)=((.int .u32 n19):Value)∧stK h20 (((Addr.mk b7 0 none).add 2).add 0) (.int .u32 n17) fun h23=>((3:Int)≠0∧((.int .u32 (Int.tmod n18 (3:Int)))=((.int .u32 (Int.tmod n18 (3:Int))):Value)∧(0≤(Int.tmod n18 (3:Int))∧(Int.tmod n18 (3:Int))<(Nat.cast 3:Int)∧((.pointer (some (a.add (Int.toNat (Int.tmod n18 (3:Int))*1))))=((.pointer (some (a.add (Int.toNat (Int.tmod n18 (3:Int))*1)))):Value)∧ldI .u32 (rd h23 (a.add (Int.toNat (Int.tmod n18 (3:Int))*1))) fun n24=>((.int .u32 n24)=((.int .u32 n19):Value)∧stK h23 (((Addr.mk b7 0 none).add 3).add 0) (.int .u32 n19) fun h25=>Cl 63 [.pointer x9,.bool true] h25 fun v26 h27=>v26=(.tuple #[])∧ldI .i64 (rd h27 ((Addr.mk b7 0 none).add 0)) fun n28=>ldI .u32 (rd h27 ((Addr.mk b7 0 none).add 1)) fun n29=>ldI .u32 (rd h27 ((Addr.mk b7 0 none).add 2)) fun n30=>ldI .u32 (rd h27 ((Addr.mk b7 0 none).add 3)) fun n31=>ldI .u8 (rd h27 ((Addr.mk b7 0 none).add 4)) fun n32=>Cl 64 [.pointer x9,.agg #[.int .i64 n28,.int .u32 n29,.int .u32 n30,.int .u32 n31,.int .u8 n32]] h27 fun v33 h34=> ∃n35:Int,∃n36:Int,v33=(.tuple #[.int .u32 n35,.int .i64 n36])∧Cl 63 [.pointer x9,.bool false] h34 fun v37 h38=>v37=(.tuple #[])∧ldI .i64 (rd h38 ((Addr.mk b7 0 none).add 0)) fun n39=>ldI .u32 (rd h38 ((Addr.mk b7 0 none).add 1)) fun n40=>ldI .u32 (rd h38 ((Addr.mk b7 0 none).add 2)) fun n41=>ldI .u32 (rd h38 ((Addr.mk b7 0 none).add 3)) fun n42=>ldI .u8 (rd h38 ((Addr.mk b7 0 none).add 4)) fun n43=>Cl 64 [.pointer x9,.agg #[.int .i64 n39,.int .u32 n40,.int .u32 n41,.int .u32 n42,.int .u8 n43]] h38 fun v44 h45=> ∃n46:Int,∃n47:Int,v44=(.tuple #[.int .u32 n46,.int .i64 n47])∧bcase (n35 !=n46) (bcase (n36==(60:Int)) (K (.bool true) h45) (K (.bool (n47==(60:Int))) h45)) (bcase (n36 !=n47) (bcase (n36==(60:Int)) (K (.bool true) h45) (K (.bool (n47==(60:Int))) h45)) (bcase (n36==(60:Int)) (bcase (n36==(60:Int)) (K (.bool true) h45) (K (.bool (n47==(60:Int))) h45)) (bcase (n36==(0:Int)) (((3:Int)≠0∧(0≤(Int.tmod t (3:Int))∧(Int.tmod t (3:Int))<(Nat.cast 3:Int)∧stK h45 ((a.add (Int.toNat (Int.tmod t (3:Int))*1)).add 0) (.int .u32 n35) fun h48=>F15.wL18 n y u z x9 a (IntKind.wrap .i64 (t+(1:Int))) h48 K))) (F15.wL18 n y u z x9 a (IntKind.wrap .i64 (t+(1:Int))) h45 K)))))))))))))))))))))))))) (Cl 22 [.pointer x9] h fun v49 h50=>ldB (some v49) fun b51=>K (.bool b51) h50)):=by kernel_rfl
def F15.wk18:Prop:=(∃m,F15.wL18 m y u z x9 a t h K)
def F15.wk17:Prop:=F15.wk18 y u z x9 a (0:Int) h K
def F15.wL10:Prop:=Lp Tryz.f15 F15.T [1,1,1,1,1,1,0,1,0] n [(3,(.slice y u z)),(9,(.pointer x9)),(11,(.pointer (some a))),(36,(.agg #[.int .u64 d,.int .u64 f,.int .u64 g,.int .u64 i,.int .u64 j,.int .u64 l,.int .u64 o,.int .u64 q,.int .u64 r,.int .u64 s,.int .u64 b,.int .u64 c])),(37,(.int .i64 v))] h K
theorem F15.sL10:F15.wL10 (n+1) y u z x9 a d f g i j l o q r s b c v h K=(bcase (decide (v<(3:Int))) ((0≤v∧v<(Nat.cast 3:Int)∧ldI .u64 (([.int .u64 d,.int .u64 f,.int .u64 g,.int .u64 i,.int .u64 j,.int .u64 l,.int .u64 o,.int .u64 q,.int .u64 r,.int .u64 s,.int .u64 b,.int .u64 c]:List Value)[Int.toNat v*4+0]?) fun n1=>ldI .u64 (([.int .u64 d,.int .u64 f,.int .u64 g,.int .u64 i,.int .u64 j,.int .u64 l,.int .u64 o,.int .u64 q,.int .u64 r,.int .u64 s,.int .u64 b,.int .u64 c]:List Value)[Int.toNat v*4+1]?) fun n2=>ldI .u64 (([.int .u64 d,.int .u64 f,.int .u64 g,.int .u64 i,.int .u64 j,.int .u64 l,.int .u64 o,.int .u64 q,.int .u64 r,.int .u64 s,.int .u64 b,.int .u64 c]:List Value)[Int.toNat v*4+2]?) fun n3=>ldI .u64 (([.int .u64 d,.int .u64 f,.int .u64 g,.int .u64 i,.int .u64 j,.int .u64 l,.int .u64 o,.int .u64 q,.int .u64 r,.int .u64 s,.int .u64 b,.int .u64 c]:List Value)[Int.toNat v*4+3]?) fun n4=>newK h (.cells #[.int .u64 0,.int .u64 0,.int .u64 0,.int .u64 0] 51) fun b5 h6=>stK h6 ((Addr.mk b5 0 none).add 0) (.int .u64 n1) fun h7=>stK h7 ((Addr.mk b5 0 none).add 1) (.int .u64 n2) fun h8=>stK h8 ((Addr.mk b5 0 none).add 2) (.int .u64 n3) fun h9=>stK h9 ((Addr.mk b5 0 none).add 3) (.int .u64 n4) fun h10=>ldI .u64 (rd h10 ((Addr.mk b5 0 none).add 0)) fun n11=>ldI .u64 (rd h10 ((Addr.mk b5 0 none).add 1)) fun n12=>ldI .u64 (rd h10 ((Addr.mk b5 0 none).add 2)) fun n13=>ldI .u64 (rd h10 ((Addr.mk b5 0 none).add 3)) fun n14=>Cl 62 [.pointer x9,.agg #[.int .u64 n11,.int .u64 n12,.int .u64 n13,.int .u64 n14]] h10 fun v15 h16=> ∃n17:Int,∃b18:Bool,v15=(.tuple #[.int .u32 n17,.bool b18])∧bcase (!b18) (K (.bool false) h16) ((0≤v∧v<(Nat.cast 3:Int)∧stK h16 ((a.add (Int.toNat v*1)).add 0) (.int .u32 n17) fun h19=>F15.wL10 n y u z x9 a d f g i j l o q r s b c (IntKind.wrap .i64 (v+(1:Int))) h19 K)))) (F15.wk17 y u z x9 a h K)):=by kernel_rfl
def F15.wk10:Prop:=(∃m,F15.wL10 m y u z x9 a d f g i j l o q r s b c v h K)
theorem F15.spec(H:newK h (.cells #[.int .u64 aa,.int .u64 ab,.int .u64 ac,.int .u64 ad] 51) fun b1 h2=>newK h2 (.cells #[.int .u64 ae,.int .u64 af,.int .u64 ag,.int .u64 ai] 51) fun b3 h4=>newK h4 (.cells #[.int .u64 aj,.int .u64 am,.int .u64 an,.int .u64 ao] 51) fun b5 h6=>Cl 17 [] h6 fun v7 h8=>ldB (some v7) fun b9=>bcase (!b9) (K (.bool false) h8) (bcase (decide ((Nat.cast u:Int)>(6:Int))) (K (.bool true) h8) (Cl 61 [.int .i64 8,.int .i64 20000] h8 fun v10 h11=> ∃p12:Option Addr,∃n13:Int,v10=(.tuple #[.pointer p12,.int .i64 n13])∧bcase (n13 !=(0:Int)) (K (.bool false) h11) (newK h11 (.cells #[.int .u32 0,.int .u32 0,.int .u32 0] 115) fun b14 h15=>ldI .u64 (rd h15 ((Addr.mk b1 0 none).add 0)) fun n16=>ldI .u64 (rd h15 ((Addr.mk b1 0 none).add 1)) fun n17=>ldI .u64 (rd h15 ((Addr.mk b1 0 none).add 2)) fun n18=>ldI .u64 (rd h15 ((Addr.mk b1 0 none).add 3)) fun n19=>ldI .u64 (rd h15 ((Addr.mk b3 0 none).add 0)) fun n20=>ldI .u64 (rd h15 ((Addr.mk b3 0 none).add 1)) fun n21=>ldI .u64 (rd h15 ((Addr.mk b3 0 none).add 2)) fun n22=>ldI .u64 (rd h15 ((Addr.mk b3 0 none).add 3)) fun n23=>ldI .u64 (rd h15 ((Addr.mk b5 0 none).add 0)) fun n24=>ldI .u64 (rd h15 ((Addr.mk b5 0 none).add 1)) fun n25=>ldI .u64 (rd h15 ((Addr.mk b5 0 none).add 2)) fun n26=>ldI .u64 (rd h15 ((Addr.mk b5 0 none).add 3)) fun n27=>F15.wk10 y u z p12 (Addr.mk b14 0 none) n16 n17 n18 n19 n20 n21 n22 n23 n24 n25 n26 n27 (0:Int) h15 K)))):Cl 15 [.agg #[.int .u64 aa,.int .u64 ab,.int .u64 ac,.int .u64 ad],.agg #[.int .u64 ae,.int .u64 af,.int .u64 ag,.int .u64 ai],.agg #[.int .u64 aj,.int .u64 am,.int .u64 an,.int .u64 ao],.slice y u z] h K:=cT F15.T Tryz.func15 H
end
theorem F17.spec(h:Heap)(K:KK)(H:Cl 18 [.int .i64 8,.int .i64 16384,.int .i64 2] h fun v1 h2=> ∃p3:Option Addr,∃n4:Int,v1=(.tuple #[.pointer p3,.int .i64 n4])∧bcase (n4 !=(0:Int)) (K (.bool false) h2) (Cl 66 [.pointer p3,.int .i64 0,.agg #[.int .i64 1,.int .i64 0,.int .i64 0,.int .i64 0,.int .i64 0,.int .i64 0,.int .u8 3]] h2 fun v5 h6=> ∃n7:Int,∃n8:Int,∃b9:Bool,v5=(.tuple #[.agg #[.int .i64 n7,.int .u64 n8],.bool b9])∧newK h6 (.cells #[.int .i64 0,.int .u64 0] 76) fun b10 h11=>stK h11 ((Addr.mk b10 0 none).add 0) (.int .i64 n7) fun h12=>stK h12 ((Addr.mk b10 0 none).add 1) (.int .u64 n8) fun h13=>Cl 66 [.pointer p3,.int .i64 0,.agg #[.int .i64 4,.int .i64 0,.int .i64 0,.int .i64 0,.int .i64 0,.int .i64 0,.int .u8 0]] h13 fun v14 h15=> ∃n16:Int,∃n17:Int,∃b18:Bool,v14=(.tuple #[.agg #[.int .i64 n16,.int .u64 n17],.bool b18])∧newK h15 (.cells #[.int .i64 0,.int .u64 0] 76) fun b19 h20=>stK h20 ((Addr.mk b19 0 none).add 0) (.int .i64 n16) fun h21=>stK h21 ((Addr.mk b19 0 none).add 1) (.int .u64 n17) fun h22=>bcase b9 (bcase b18 (ldI .i64 (rd h22 ((Addr.mk b10 0 none).add 0)) fun n23=>bcase (n23==(0:Int)) (ldI .u64 (rd h22 ((Addr.mk b19 0 none).add 1)) fun n24=>K (.bool (n24==(128:Int))) h22) (K (.bool false) h22)) (K (.bool false) h22)) (K (.bool false) h22))):Cl 17 [] h K:=cN Tryz.func17 H
theorem F66.spec(j:Addr)(l a b c d f g i:Int)(h:Heap)(K:KK)(H:newK h (.cells #[.int .i64 a,.int .i64 b,.int .i64 c,.int .i64 d,.int .i64 f,.int .i64 g,.int .u8 i] 41) fun b1 h2=>newK h2 (.cells #[.int .i64 0,.int .u64 0] 76) fun b3 h4=>ldI .i64 (rd h4 ((Addr.mk b1 0 none).add 0)) fun n5=>ldI .i64 (rd h4 ((Addr.mk b1 0 none).add 1)) fun n6=>ldI .i64 (rd h4 ((Addr.mk b1 0 none).add 2)) fun n7=>ldI .i64 (rd h4 ((Addr.mk b1 0 none).add 3)) fun n8=>ldI .i64 (rd h4 ((Addr.mk b1 0 none).add 4)) fun n9=>ldI .i64 (rd h4 ((Addr.mk b1 0 none).add 5)) fun n10=>ldI .u8 (rd h4 ((Addr.mk b1 0 none).add 6)) fun n11=>Cl 24 [.pointer (some j),.int .i64 l,.agg #[.int .i64 n5,.int .i64 n6,.int .i64 n7,.int .i64 n8,.int .i64 n9,.int .i64 n10,.int .u8 n11]] h4 fun v12 h13=>ldI .i64 (some v12) fun n14=>bcase (n14 !=(0:Int)) (stK h13 ((Addr.mk b3 0 none).add 0) (.int .i64 0) fun h15=>stK h15 ((Addr.mk b3 0 none).add 1) (.int .u64 0) fun h16=>ldI .i64 (rd h16 ((Addr.mk b3 0 none).add 0)) fun n17=>ldI .u64 (rd h16 ((Addr.mk b3 0 none).add 1)) fun n18=>K (.tuple #[.agg #[.int .i64 n17,.int .u64 n18],.bool false]) h16) (Cl 30 [.pointer (some j)] h13 fun v19 h20=>ldB (some v19) fun b21=>bcase (!b21) (stK h20 ((Addr.mk b3 0 none).add 0) (.int .i64 0) fun h22=>stK h22 ((Addr.mk b3 0 none).add 1) (.int .u64 0) fun h23=>ldI .i64 (rd h23 ((Addr.mk b3 0 none).add 0)) fun n24=>ldI .u64 (rd h23 ((Addr.mk b3 0 none).add 1)) fun n25=>K (.tuple #[.agg #[.int .i64 n24,.int .u64 n25],.bool false]) h23) (Cl 43 [.pointer (some j),.int .i64 l] h20 fun v26 h27=> ∃n28:Int,∃n29:Int,∃b30:Bool,v26=(.tuple #[.agg #[.int .i64 n28,.int .u64 n29],.bool b30])∧stK h27 ((Addr.mk b3 0 none).add 0) (.int .i64 n28) fun h31=>stK h31 ((Addr.mk b3 0 none).add 1) (.int .u64 n29) fun h32=>ldI .i64 (rd h32 ((Addr.mk b3 0 none).add 0)) fun n33=>ldI .u64 (rd h32 ((Addr.mk b3 0 none).add 1)) fun n34=>K (.tuple #[.agg #[.int .i64 n33,.int .u64 n34],.bool b30]) h32))):Cl 66 [.pointer (some j),.int .i64 l,.agg #[.int .i64 a,.int .i64 b,.int .i64 c,.int .i64 d,.int .i64 f,.int .i64 g,.int .u8 i]] h K:=cN Tryz.func66 H
namespace F30
def T:Hint:=⟨[(2,[0,3]),(5,[0,3,4]),(8,[0])],[]⟩
noncomputable def body:Code:=(Tryz.f30.body).getD .skip
noncomputable def en(S:Stop)(p:List Nat)(κ:XK):Fr→Heap→Prop:=E Tryz.prog X T S (sub body p) κ
noncomputable def ln(S:Stop)(p:List Nat)(κ:XK)(n:Nat):Fr→Heap→Prop:=loopN S (E Tryz.prog X T S (sub body p)) (cutQ T (sub body p)) κ n
def fn(K:KK):XK:=fin Tryz.prog Tryz.f30.results.toList K
noncomputable def c0(S:Stop)(K:KK):XK:=seqN S (cutQ T (sub body [1,1])) (en S [1,1] (fn K)) (fn K)
noncomputable def c1(S:Stop)(K:KK):XK:=blockN 0 (c0 S K)
noncomputable def c2(S:Stop)(n2:Nat)(K:KK):XK:=backN S (cutQ T (sub body [1,0,1,0,0])) (ln S [1,0,1,0,0] (c1 S K) n2) (c1 S K)
noncomputable def c3(S:Stop)(n2:Nat)(K:KK):XK:=seqN S (cutQ T (sub body [1,0,1,0,0,1,1])) (en S [1,0,1,0,0,1,1] (c2 S n2 K)) (c2 S n2 K)
noncomputable def c4(S:Stop)(n2:Nat)(K:KK):XK:=blockN 1 (c3 S n2 K)
noncomputable def c5(S:Stop)(n2:Nat)(K:KK):XK:=blockN 2 (c4 S n2 K)
noncomputable def c6(S:Stop)(n2:Nat)(n5:Nat)(K:KK):XK:=backN S (cutQ T (sub body [1,0,1,0,0,1,0,0,1,0,0])) (ln S [1,0,1,0,0,1,0,0,1,0,0] (c5 S n2 K) n5) (c5 S n2 K)
def f2(a:Addr)(b:Int):Fr:=[(0,(.pointer (some a))),(3,(.int .i64 b))]
def f5(a:Addr)(b c:Int):Fr:=[(0,(.pointer (some a))),(3,(.int .i64 b)),(4,(.int .i64 c))]
def f8(a:Addr):Fr:=[(0,(.pointer (some a)))]
def J0(k2:Addr→Int→Heap→Prop)(a:Addr)(h:Heap)(_K:KK):Prop:=
 k2 a (0:Int) h
theorem E0(S:Stop)(a:Addr)(h:Heap)(K:KK):(E Tryz.prog X T S body (fin Tryz.prog Tryz.f30.results.toList K) (args0 0 [(.pointer (some a))]) h)=J0 (fun a b h=>S (en S [1,0,1] (c0 S K)) (f2 a b) h) a h K:=by kernel_rfl
def Jk2(lp2:Addr→Int→Heap→Prop)(a:Addr)(b:Int)(h:Heap)(_K:KK):Prop:=
 lp2 a b h
theorem Ek2(S:Stop)(a:Addr)(b:Int)(h:Heap)(K:KK):(en S [1,0,1] (c0 S K) (f2 a b) h)=Jk2 (fun a b h=> ∃n,S (ln S [1,0,1,0,0] (c1 S K) n) (f2 a b) h) a b h K:=by kernel_rfl
def JL2(k5:Addr→Int→Int→Heap→Prop)(k8:Addr→Heap→Prop)(a:Addr)(b:Int)(h:Heap)(_K:KK):Prop:=
 bcase (decide (b<(1048576:Int))) (Cl 84 [(.pointer (some a))] h (fun v1 h2=>ldB (some v1) (fun b3=>bcase b3 (k5 a b (0:Int) h2) (k8 a h2)))) (k8 a h)
theorem EL2(S:Stop)(n2:Nat)(a:Addr)(b:Int)(h:Heap)(K:KK):(en S [1,0,1,0,0] (c2 S n2 K) (f2 a b) h)=JL2 (fun a b c h=>S (en S [1,0,1,0,0,1,0,0,1] (c4 S n2 K)) (f5 a b c) h) (fun a h=>S (en S [1,1] (fn K)) (f8 a) h) a b h K:=by kernel_rfl
def Jk5(lp5:Addr→Int→Int→Heap→Prop)(a:Addr)(b c:Int)(h:Heap)(_K:KK):Prop:=
 lp5 a b c h
theorem Ek5(S:Stop)(n2:Nat)(a:Addr)(b c:Int)(h:Heap)(K:KK):(en S [1,0,1,0,0,1,0,0,1] (c4 S n2 K) (f5 a b c) h)=Jk5 (fun a b c h=> ∃n,S (ln S [1,0,1,0,0,1,0,0,1,0,0] (c5 S n2 K) n) (f5 a b c) h) a b c h K:=by kernel_rfl
def JL5(bk5:Addr→Int→Int→Heap→Prop)(bk2:Addr→Int→Heap→Prop)(a:Addr)(b c:Int)(h:Heap)(_K:KK):Prop:=
 Cl 27 [(.pointer (some a))] h (fun v1 h2=>ldI .i64 (some v1) (fun n3=>bcase (decide (c<n3)) (Cl 26 [(.pointer (some a)),(.int .i64 c),(.int .i64 b)] h2 (fun v4 h5=>ldB (some v4) (fun _=>bk5 a b (IntKind.wrap .i64 (c+(1:Int))) h5))) (bk2 a (IntKind.wrap .i64 (b+(1:Int))) h2)))
theorem EL5(S:Stop)(n2:Nat)(n5:Nat)(a:Addr)(b c:Int)(h:Heap)(K:KK):(en S [1,0,1,0,0,1,0,0,1,0,0] (c6 S n2 n5 K) (f5 a b c) h)=JL5 (fun a b c h=>S (ln S [1,0,1,0,0,1,0,0,1,0,0] (c5 S n2 K) n5) (f5 a b c) h) (fun a b h=>S (ln S [1,0,1,0,0] (c1 S K) n2) (f2 a b) h) a b c h K:=by kernel_rfl
def Jk8(a:Addr)(h:Heap)(K:KK):Prop:=
 Cl 84 [(.pointer (some a))] h (fun v1 h2=>ldB (some v1) (fun b3=>K (.bool (!b3)) h2))
theorem Ek8(S:Stop)(a:Addr)(h:Heap)(K:KK):(en S [1,1] (fn K) (f8 a) h)=Jk8 a h K:=by kernel_rfl
def wL5(bk2:Addr→Int→Heap→Prop):Nat→Addr→Int→Int→Heap→KK→Prop
 |0,_,_,_,_,_=>False
 |n+1,a,b,c,h,K=>JL5 (fun a b c h=>wL5 bk2 n a b c h K) bk2 a b c h K
theorem eL5(K:KK)(n2:Nat)(bk2:Addr→Int→Heap→Prop)(hb2: ∀(a:Addr) (b:Int) (h:Heap),(ln S0 [1,0,1,0,0] (c1 S0 K) n2 (f2 a b) h)=bk2 a b h): ∀(n:Nat) (a:Addr) (b c:Int) (h:Heap),(ln S0 [1,0,1,0,0,1,0,0,1,0,0] (c5 S0 n2 K) n (f5 a b c) h)=wL5 bk2 n a b c h K
 |0,_,_,_,_=>rfl
 |n+1,a,b,c,h=>(EL5 S0 n2 n a b c h K).trans (cg2 (fun q0 q1=>JL5 q0 q1 a b c h K) (by funext a b c h;exact(fun a b c h=>eL5 K n2 bk2 hb2 n a b c h) a b c h) (by funext a b h;exact hb2 a b h))
def wk5(bk2:Addr→Int→Heap→Prop)(a:Addr)(b c:Int)(h:Heap)(K:KK):Prop:=
 Jk5 (fun a b c h=> ∃m,wL5 bk2 m a b c h K) a b c h K
theorem ek5(K:KK)(n2:Nat)(bk2:Addr→Int→Heap→Prop)(hb2: ∀(a:Addr) (b:Int) (h:Heap),(ln S0 [1,0,1,0,0] (c1 S0 K) n2 (f2 a b) h)=bk2 a b h)(a:Addr)(b c:Int)(h:Heap):(en S0 [1,0,1,0,0,1,0,0,1] (c4 S0 n2 K) (f5 a b c) h)=wk5 bk2 a b c h K:=(Ek5 S0 n2 a b c h K).trans (cg1 (fun q0=>Jk5 q0 a b c h K) (by funext a b c h;exact ex_congr fun m=>eL5 K n2 bk2 hb2 m a b c h))
def wk8(a:Addr)(h:Heap)(K:KK):Prop:=
 Jk8 a h K
theorem ek8(K:KK)(a:Addr)(h:Heap):(en S0 [1,1] (fn K) (f8 a) h)=wk8 a h K:=(Ek8 S0 a h K).trans (rfl)
def wL2:Nat→Addr→Int→Heap→KK→Prop
 |0,_,_,_,_=>False
 |n+1,a,b,h,K=>JL2 (fun a b c h=>wk5 (fun a b h=>wL2 n a b h K) a b c h K) (fun a h=>wk8 a h K) a b h K
theorem eL2(K:KK): ∀(n:Nat) (a:Addr) (b:Int) (h:Heap),(ln S0 [1,0,1,0,0] (c1 S0 K) n (f2 a b) h)=wL2 n a b h K
 |0,_,_,_=>rfl
 |n+1,a,b,h=>(EL2 S0 n a b h K).trans (cg2 (fun q0 q1=>JL2 q0 q1 a b h K) (by funext a b c h;exact ek5 K n (fun a b h=>wL2 n a b h K) (fun a b h=>eL2 K n a b h) a b c h) (by funext a h;exact ek8 K a h))
def wk2(a:Addr)(b:Int)(h:Heap)(K:KK):Prop:=
 Jk2 (fun a b h=> ∃m,wL2 m a b h K) a b h K
theorem ek2(K:KK)(a:Addr)(b:Int)(h:Heap):(en S0 [1,0,1] (c0 S0 K) (f2 a b) h)=wk2 a b h K:=(Ek2 S0 a b h K).trans (cg1 (fun q0=>Jk2 q0 a b h K) (by funext a b h;exact ex_congr fun m=>eL2 K m a b h))
def w(a:Addr)(h:Heap)(K:KK):Prop:=
 J0 (fun a b h=>wk2 a b h K) a h K
theorem e0(K:KK)(a:Addr)(h:Heap):(E Tryz.prog X T S0 body (fin Tryz.prog Tryz.f30.results.toList K) (args0 0 [(.pointer (some a))]) h)=w a h K:=(E0 S0 a h K).trans (cg1 (fun q0=>J0 q0 a h K) (by funext a b h;exact ek2 K a b h))
theorem hb:Tryz.f30.body=some body:=by kernel_rfl
theorem ok:okCode T Tryz.f30.ntmps body=true:=by kernel_rfl
theorem spec(a:Addr)(h:Heap)(K:KK)(H:w a h K):Cl 30 [(.pointer (some a))] h K:=
 calls_of_E (T:=T) Xok mix Tryz.func30 hb ok rfl (by rw[e0];exact H)
end F30
def F84.T:Hint:=⟨[(2,[0,3])],[]⟩
section
variable (n:Nat)(a:Addr)(b:Int)(h:Heap)(K:KK)
def F84.wL2:Prop:=Lp Tryz.f84 F84.T [1,0,1,0] n [(0,(.pointer (some a))),(3,(.int .i64 b))] h K
theorem F84.sL2:F84.wL2 (n+1) a b h K=(bcase (decide (b<(4:Int))) (Cl 56 [.pointer (some a),.int .i64 b] h fun v1 h2=>ldB (some v1) fun b3=>bcase b3 (K (.bool true) h2) (F84.wL2 n a (IntKind.wrap .i64 (b+(1:Int))) h2 K)) (K (.bool false) h)):=by kernel_rfl
def F84.wk2:Prop:=(∃m,F84.wL2 m a b h K)
theorem F84.spec(H:F84.wk2 a (0:Int) h K):Cl 84 [.pointer (some a)] h K:=cT F84.T Tryz.func84 H
end
end
section
section
variable {h h':Heap}{e s w op d t i:Nat}{G G0 G1 G':EG}{K:Value→Heap→Prop}{C:Nat→Nat→Prop}{F:Fns}{c:Cal}
theorem pending84(W:EWd h e G)(hT:anyP G.E→K (.bool true) h)(hF: ¬anyP G.E→K (.bool false) h):Cl 84 [ptrV e] h K:=by
 refine F84.spec _ h K ?_
 unfold F84.wk2
 have main: ∀(d k:Nat),d+k=4→(∀j,j<k→(G.E.ses j).pend=false)→F84.wL2 (d+1) ⟨e,0,none⟩ (k:Int) h K:=by
  intro d
  induction d with
  |zero=>
   intro k hk hb
   rw[F84.sL2]
   rw[decide_eq_false (by omega),bcase_false]
   refine hF fun⟨j,hj,hp⟩=> ?_
   rw[hb j (by omega)]at hp
   cases hp
  |succ d ih=>
   intro k hk hb
   rw[F84.sL2]
   rw[decide_eq_true (by omega),bcase_true]
   refine pending56 W.I (fun q=>by omega) fun k' hk' ek=>ldB_of rfl (bcase_of (fun p=> ?_) fun p=> ?_)
   ·exact hT ⟨k',hk',p⟩
   ·rw[wr_s (by omega)]
    refine ih (k+1) (by omega) fun j hj=> ?_
    by_cases q:j=k
    ·rw[q,show k=k' by omega];exact p
    ·exact hb j (by omega)
 exact⟨_,main 4 0 (by omega) fun j hj=>by omega⟩
theorem fair30{m:Nat}(Inv:Nat→Heap→EG→Prop)(J:Nat→Nat→Heap→EG→Prop)(nw:Nat)(hnw:nw≤4)(h0:Inv m h G)(hm:m<1048576)
  (hW: ∀{m h1 G1},Inv m h1 G1→EWd h1 e G1) (hJ: ∀{m w h1 G1},J m w h1 G1→EWd h1 e G1∧G1.P.ws.length=nw)
  (hS: ∀{m h1 G1},Inv m h1 G1→anyP G1.E→J m 0 h1 G1)
  (hP: ∀{m w h1 G1} {Q:Value→Heap→Prop} {draw:Int},w<nw→J m w h1 G1→(∀b h2 G2,J m (w+1) h2 G2→Q (.bool b) h2)→Cl 26 [ptrV e,.int .i64 (w:Int),.int .i64 draw] h1 Q)
  (hE: ∀{m h1 G1},J m nw h1 G1→ ∃m',m'<m∧Inv m' h1 G1)
  (hK: ∀m' h1 G1,m'≤m→Inv m' h1 G1→ ¬anyP G1.E→K (.bool true) h1):Cl 30 [ptrV e] h K:=by
 refine F30.spec _ h K ?_
 unfold F30.w F30.J0 F30.wk2 F30.Jk2
 have main: ∀(d i m':Nat) (xi:Int) (h1:Heap) (G1:EG),xi=(i:Int)→d+i=m+1→m'+i≤m→Inv m' h1 G1→F30.wL2 (d+1) ⟨e,0,none⟩ xi h1 K:=by
  intro d
  induction d with
  |zero=>intro i m' xi h1 G1 exi hi hm';omega
  |succ d ih=>
   intro i m' xi h1 G1 exi hi hm' I
   unfold F30.wL2 F30.JL2
   rw[decide_eq_true (by omega),bcase_true]
   refine pending84 (hW I) (fun a=>ldB_of rfl ?_) fun a=>ldB_of rfl ?_
   ·rw[bcase_true]
    unfold F30.wk5 F30.Jk5
    have inner: ∀(d2 w:Nat) (h2:Heap) (G2:EG),d2+w=nw→J m' w h2 G2→F30.wL5 (fun x0 x3 h=>F30.wL2 (d+1) x0 x3 h K) (d2+1) ⟨e,0,none⟩ xi (w:Int) h2 K:=by
     intro d2
     induction d2 with
     |zero=>
      intro w h2 G2 hw I2
      unfold F30.wL5 F30.JL5
      obtain⟨W2,wl⟩:=hJ I2
      refine workers27 W2 (ldI_of rfl ?_)
      rw[decide_eq_false (by omega),bcase_false]
      have ew:w=nw:=by omega
      subst ew
      obtain⟨m2,lt,I3⟩:=hE I2
      exact ih (i+1) m2 _ h2 G2 (by rw[exi,wrap_i64 (by omega) (by omega)];omega) (by omega) (by omega) I3
     |succ d2 ih2=>
      intro w h2 G2 hw I2
      unfold F30.wL5 F30.JL5
      obtain⟨W2,wl⟩:=hJ I2
      refine workers27 W2 (ldI_of rfl ?_)
      rw[decide_eq_true (by omega),bcase_true]
      refine hP (by omega) I2 fun b h3 G3 I3=>ldB_of rfl ?_
      rw[wr_s (by omega)]
      exact ih2 (w+1) h3 G3 (by omega) I3
    exact⟨_,inner nw 0 h1 G1 (by omega) (hS I a)⟩
   ·rw[bcase_false]
    unfold F30.wk8 F30.Jk8
    exact pending84 (hW I) (fun q=>absurd q a) fun q=>ldB_of rfl (hK m' h1 G1 (by omega) I a)
 exact⟨_,main (m+1) 0 m 0 h G rfl (by omega) (by omega) h0⟩
theorem easy_fair30(W:EWd h e G0)(Ea:Easy G0)(hK: ∀h' G',EWd h' e G'→Eside e G0 h G' h'→Ran G0 4 G'→K (.bool true) h'):Cl 30 [ptrV e] h K:=by
 have wl:=W.W.Ok.len
 refine fair30 (m:=1) (fun m h1 G1=>EWd h1 e G1∧Eside e G0 h G1 h1∧((m=1∧G1=G0)∨(m=0∧Ran G0 4 G1))) (fun m w h1 G1=>EWd h1 e G1∧Eside e G0 h G1 h1∧m=1∧((w=0∧G1=G0∧anyP G0.E)∨(1≤w∧Ran G0 4 G1))) G0.P.ws.length wl.2
  ⟨W,Eside.refl,.inl ⟨rfl,rfl⟩⟩ (by omega) (fun I=>I.1) (fun {m w h1 G1} I=>⟨I.1,?_⟩) (fun {m h1 G1} I a=>⟨I.1,I.2.1,?_⟩) (fun {m w h1 G1 Q draw} hw I hQ=> ?_) (fun {m h1 G1} I=> ?_) (fun m' h1 G1 _ I a=> ?_)
 ·rcases I.2.2.2 with⟨-,q,-⟩|⟨-,q⟩
  ·rw[q]
  ·exact q.ws
 ·rcases I.2.2 with⟨q1,q2⟩|⟨q1,q2⟩
  ·subst q2;exact⟨q1,.inl ⟨rfl,rfl,a⟩⟩
  ·exact absurd a (anyP_not q2.none)
 ·obtain⟨W1,S1,m1,q⟩:=I
  rcases q with⟨q1,q2,q3⟩|⟨q1,q2⟩
  ·subst q2
   exact easy_pick W1 Ea hw (fun a=>absurd q3 a) fun a h2 G2 W2 S2 R2=>hQ _ h2 G2 ⟨W2,S1.trans S2,m1,.inr ⟨by omega,R2⟩⟩
  ·have no:=anyP_not q2.none
   exact pick_none W1 (.inr (.inr no)) fun h2 O2=>hQ _ h2 G1 ⟨W1.only0 O2,S1.trans (Eside.only0 O2),m1,.inr ⟨by omega,q2⟩⟩
 ·obtain⟨W1,S1,m1,q⟩:=I
  rcases q with⟨q1,-,-⟩|⟨q1,q2⟩
  ·omega
  ·exact⟨0,by omega,W1,S1,.inr ⟨rfl,q2⟩⟩
 ·obtain⟨W1,S1,q⟩:=I
  rcases q with⟨q1,q2⟩|⟨q1,q2⟩
  ·subst q2
   exact hK h1 G1 W1 S1 (Ran.idle Ea.jobs a)
  ·exact hK h1 G1 W1 S1 q2
theorem solo_fair30(mr:MRspec C)(W:EWd h e G0)(hs:s<4)(hp:(G0.E.ses s).pend=true)(solo: ∀k,k<4→k≠s→(G0.E.ses k).pend=false)(hM:G0.M+20000000≤LB/1000)(R:EG→Prop)
  (step: ∀{h1} {Q:Value→Heap→Prop},Only [] h h1→(∀b h2 G2,EWd h2 e G2→Eside e G0 h G2 h2→R G2→Q (.bool b) h2)→Cl (stepN (G0.E.ses s).cal.kind) [ptrV e,sesP e s] h1 Q)
  (hR: ∀{G1},R G1→(∃x' Φ add,Aft G0 s x' Φ add G1)∧C (cntN G1.N) G1.room∧G1.M≤G0.M+10000)
  (hK: ∀h' G1 G',R G1→Keeps G1 G'→EWd h' e G'→Eside e G0 h G' h'→K (.bool true) h'):Cl 30 [ptrV e] h K:=by
 have wl:=W.W.Ok.len
 refine fair30 (m:=1) (fun m h1 G1=>EWd h1 e G1∧Eside e G0 h G1 h1∧((m=1∧G1=G0∧Only [] h h1)∨(m=0∧ ∃G2,R G2∧Keeps G2 G1))) (fun m w h1 G1=>EWd h1 e G1∧Eside e G0 h G1 h1∧m=1∧((w=0∧G1=G0∧Only [] h h1)∨(1≤w∧ ∃G2,R G2∧Keeps G2 G1))) G0.P.ws.length wl.2
  ⟨W,Eside.refl,.inl ⟨rfl,rfl,Only.refl _ _⟩⟩ (by omega) (fun I=>I.1) (fun {m w h1 G1} I=>⟨I.1,?_⟩) (fun {m h1 G1} I a=>⟨I.1,I.2.1,?_⟩) (fun {m w h1 G1 Q draw} hw I hQ=> ?_) (fun {m h1 G1} I=> ?_) (fun m' h1 G1 _ I a=> ?_)
 ·rcases I.2.2.2 with⟨-,q,-⟩|⟨-,G2,r,k⟩
  ·rw[q]
  ·obtain⟨⟨x',Φ,add,A⟩,-⟩:=hR r
   rw[k.ws,A.ws]
 ·rcases I.2.2 with⟨q1,q2,q3⟩|⟨q1,G2,r,k⟩
  ·exact⟨q1,.inl ⟨rfl,q2,q3⟩⟩
  ·obtain⟨⟨x',Φ,add,A⟩,-⟩:=hR r
   have:=A.none solo
   rw[←k.E]at this
   exact absurd a (anyP_not this)
 ·obtain⟨W1,S1,m1,q⟩:=I
  rcases q with⟨q1,q2,q3⟩|⟨q1,G2,r,k⟩
  ·subst q2
   refine solo_pick W1 hs hp solo hw (fun h2 G2=>EWd h2 e G2∧Eside e G1 h G2 h2∧R G2) (fun I=>⟨I.1,fun k hk _=> ?_⟩) (fun I O=>⟨I.1.only0 O,I.2.1.trans (Eside.only0 O),I.2.2⟩) (fun {h2 Q2} O2 hQ2=> ?_) fun h2 G2 I=> ?_
   ·obtain⟨⟨x',Φ,add,A⟩,-⟩:=hR I.2.2
    exact A.none solo k hk
   ·exact step (q3.trans O2 (by simp)) fun b h3 G3 W3 S3 R3=>hQ2 b h3 G3 ⟨W3,S3,R3⟩
   ·obtain⟨W2,S2,R2⟩:=I
    obtain⟨⟨x',Φ,add,A⟩,c2,m2⟩:=hR R2
    refine pick_end mr W2 c2 (by omega) (by rw[A.ws];exact hw) fun h3 G3 W3 S3 P=> ?_
    obtain⟨k,-⟩:=P.kept
    exact hQ _ h3 G3 ⟨W3,S2.trans S3,m1,.inr ⟨by omega,G2,R2,k⟩⟩
  ·obtain⟨⟨x',Φ,add,A⟩,-⟩:=hR r
   have no:=A.none solo
   rw[←k.E]at no
   exact pick_none W1 (.inr (.inr (anyP_not no))) fun h2 O2=>hQ _ h2 G1 ⟨W1.only0 O2,S1.trans (Eside.only0 O2),m1,.inr ⟨by omega,G2,r,k⟩⟩
 ·obtain⟨W1,S1,m1,q⟩:=I
  rcases q with⟨q1,-,-⟩|⟨q1,q2⟩
  ·omega
  ·exact⟨0,by omega,W1,S1,.inr ⟨rfl,q2⟩⟩
 ·obtain⟨W1,S1,q⟩:=I
  rcases q with⟨q1,q2,-⟩|⟨q1,G2,r,k⟩
  ·subst q2
   exact absurd ⟨s,hs,hp⟩ a
  ·exact hK h1 G2 G1 r k W1 S1
theorem now66(hs:s<4)(W:EWd h e G)(hp:(G.E.ses s).pend=false)(hm:c.mask<256)(hr:refu G.n (G.E.ses s) c=0)(R:EG→Prop)
  (fair: ∀{h1} {Q:Value→Heap→Prop},EWd h1 e (bgnG G s c)→(∀h2 G2,EWd h2 e G2→Eside e (bgnG G s c) h1 G2 h2→R G2→Q (.bool true) h2)→Cl 30 [ptrV e] h1 Q)
  (hR: ∀{G2},R G2→(G2.E.ses s).ansd=true)
  (hK: ∀h' G2,EWd h' e G2→Eside e G h G2 h'→R G2→K (.tuple #[.agg #[.int .i64 (G2.E.ses s).err,.int .u64 ((G2.E.ses s).num:Int)],.bool true]) h'):
  Cl 66 [ptrV e,.int .i64 (s:Int),calV c] h K:=by
 refine F66.spec _ _ _ _ _ _ _ _ _ h K ?_
 refine newK_at fun h1 A1 O1 z1=>newK_at fun h2 A2 O2 z2=> ?_
 have A1':=A1.only O2 (by simp)
 have r: ∀k,rd h2 ⟨h.size,k,none⟩=([.int .i64 c.kind,.int .i64 c.op,.int .i64 c.dst,.int .i64 c.a,.int .i64 c.b,.int .i64 c.c,.int .u8 (c.mask:Int)]:List Value)[k]? :=fun k=>At.rd A1' k
 simp only[add_mk,Nat.zero_add]
 refine ldI_of (n:=c.kind) (by rw[r];rfl) (ldI_of (n:=c.op) (by rw[r];rfl) (ldI_of (n:=c.dst) (by rw[r];rfl) (ldI_of (n:=c.a) (by rw[r];rfl) (ldI_of (n:=c.b) (by rw[r];rfl) (ldI_of (n:=c.c) (by rw[r];rfl) (ldI_of (n:=(c.mask:Int)) (by rw[r];rfl) ?_))))))
 have O12:=O1.trans O2 (by simp)
 have W2:=W.only0 O12
 have lt:=W.lt
 have z1':=O1.size
 refine e_begin (c:=c) (i:=(s:Int)) W2 hm (fun q=>by omega) (fun k hk ek hp2=> ?_) (fun k hk ek hp2 hr2=> ?_) fun k hk ek hp2 hr2 h3 W3 S3=>ldI_of rfl ?_
 ·have ek:k=s:=by omega
  subst ek;rw[hp]at hp2;cases hp2
 ·have ek:k=s:=by omega
  subst ek;exact absurd hr hr2
 have ek:k=s:=by omega
 subst ek
 rw[show((0:Int) !=0)=false from rfl,bcase_false]
 refine fair W3 fun h4 G2 W4 S4 R4=>ldB_of rfl ?_
 rw[Bool.not_true,bcase_false]
 refine answer43 W4.I (fun q=>by omega) fun k' hk' ek' h5 O5=>⟨_,_,_,rfl,?_⟩
 have ek':k'=k:=by omega
 subst ek'
 have ha:=hR R4
 rw[ha,if_pos rfl,if_pos rfl]
 have S24:Eside e G h2 G2 h4:=S3.trans S4
 have A4:At h4 h1.size [.int .i64 (0:Int),.int .u64 (0:Int)]:=by
  have:=S24.O (ebl e G) (fun b hb=>hb)
  exact At.only A2 this fun hm=>by have:=lt _ hm;omega
 have A5:=A4.only O5 (by simp)
 refine stK_at A5 (by simp) rfl fun h6 A6 O6 z6=>stK_at A6 (by simp) rfl fun h7 A7 O7 z7=> ?_
 refine ldI_of (n:=(G2.E.ses k').err) (by rw[At.rd A7];rfl) (ldI_of (n:=((G2.E.ses k').num:Int)) (by rw[At.rd A7];rfl) ?_)
 have nb:h1.size∉ebl e G2:=fun hm=>by
  rcases S24.B _ hm with q|q
  ·have:=lt _ q;omega
  ·have:=A2.lt;omega
 have O57:Only [h1.size] h5 h7:=O6.trans O7 fun b hb _=>hb
 have W5:=W4.only0 O5
 have W7:EWd h7 e G2:=⟨W5.W.only O57 (fun y hy hm=>by simp at hy;subst hy;exact nb (mem_ebl.2 (.inr (.inl hm)))) (fun y hy hm=>by simp at hy;subst hy;exact nb (mem_ebl.2 (.inr (.inr (.inr hm))))),W5.R.only O57 (fun y hy hm=>by simp at hy;subst hy;exact nb (mem_ebl.2 (.inr (.inr (.inl hm))))),W5.I.only O57 (fun hm=>by simp at hm;exact nb (mem_ebl.2 (.inl hm.symm))),W5.C,W5.de,W5.dB,W5.rg,W5.r0,W5.mq,W5.po⟩
 refine hK h7 G2 W7 ⟨fun T hT=> ?_,fun b hb=> ?_⟩ R4
 ·have o1:Only T h h4:=(O12.mono (by simp)).trans (S24.O T hT) fun b hb _=>hb
  exact(o1.trans (O5.mono (by simp)) fun b hb _=>hb).trans O57 fun b hb hl=>by simp at hb;omega
 ·rcases S24.B b hb with q|q
  ·exact .inl q
  ·exact .inr (by have:=O12.size;omega)
theorem now_var66(Q:Qt h e G F t)(hs:s<4)(hd:d<6)(hm:c.mask<G.n)(kd:c.kind=1)(ed:c.dst=(d:Int))(room:255*t+5<G.room)
  (hK: ∀h' G',Qt h' e G' (updF F s d (some fun y=>y.testBit c.mask)) (t+1)→Eside e G h G' h'→(G'.n=G.n∧G'.fo=G.fo∧G'.room=G.room∧G'.gg=G.gg)→t+1<1000→K (.tuple #[.agg #[.int .i64 0,.int .u64 0],.bool true]) h') (ht:t+1<1000):
  Cl 66 [ptrV e,.int .i64 (s:Int),calV c] h K:=by
 have hLB:LB=140737488355328:=rfl
 have n8:G.n≤8:=Q.W.W.S.ok.2.2.1
 have rd0:rds c=[]:=by unfold rds;rw[if_neg (by omega),if_neg (by omega),if_neg (by omega)]
 have rf: ∀x:Ses,refu G.n x c=0:=fun x=>by
  unfold refu refu2
  rw[if_neg (by omega),if_neg (fun w=>w.2 (by rw[ed];unfold isR;omega)),if_neg (fun w=>w fun r hr=>by rw[rd0]at hr;cases hr),if_neg (fun w=>by omega),if_neg (fun w=>by omega),if_neg (fun w=>by omega)]
 have qM:=Q.M
 have qa:=Q.ans
 have qc:=Q.cnt
 have sE: ∀k,(bgnG G s c).E.ses k=if k=s then bgnS (G.E.ses s) c else G.E.ses k:=fun k=>rfl
 have Ea:Easy (bgnG G s c):=by
  refine⟨Q.jobs,fun i hi hp=> ?_,by show cntN G.N+5<G.room;omega,by show G.M+20000≤_;omega,by show G.E.ans+10<_;omega⟩
  rw[sE]at hp ⊢
  by_cases q:i=s
  ·rw[if_pos q]at hp ⊢
   exact⟨.inl kd,rf _⟩
  ·rw[if_neg q,Q.pend i hi]at hp;cases hp
 have np:nPd (bgnG G s c).E 4≤4:=nPd_le 4
 refine now66 hs Q.W (Q.pend s hs) (by omega) (rf _) (fun G2=>Ran (bgnG G s c) 4 G2) (fun {h1 Q1} W1 hQ=>easy_fair30 W1 Ea hQ) (fun {G2} R=> ?_) fun h2 G2 W2 S2 R=> ?_
 ·obtain⟨d',-,-,⟨-,v,q,-⟩|⟨-,q⟩|⟨-,q⟩⟩:=(R.lo s hs hs).1 (by rw[sE,if_pos rfl];rfl)<;>rw[q]<;>rfl
 ·have L:=(R.lo s hs hs).1 (by rw[sE,if_pos rfl];rfl)
  rw[sE,if_pos rfl]at L
  obtain⟨d',d6',ed',L⟩:=L
  have e1:d'=d:=by have e2:c.dst=(d':Int):=ed';omega
  subst e1
  rcases L with⟨-,v,q,sv⟩|⟨k,-⟩|⟨k,-⟩
  ·have oth: ∀k,k<4→k≠s→G2.E.ses k=G.E.ses k:=fun k hk q=>by
    have:=(R.lo k hk hk).2 (by rw[sE,if_neg q];exact Q.pend k hk)
    rw[sE,if_neg q]at this
    exact this
   have md:=Q.md.set (G':=G2) hs (x:=bgnS (G.E.ses s) c) (v:=v) (er:=0) (num:=0) hd (g:=fun y=>y.testBit c.mask) R.n R.fo ⟨rfl,rfl⟩ q sv (fun k hk z=>by rw[oth k hk z];exact⟨rfl,rfl⟩) (fun k hk r hr ht ht' he y=>by
    have e3:((bgnG G s c).E.ses k).there=(G.E.ses k).there∧((bgnG G s c).E.ses k).hnd=(G.E.ses k).hnd:=by
     rw[sE]
     by_cases z:k=s
     ·rw[if_pos z,z];exact⟨rfl,rfl⟩
     ·rw[if_neg z];exact⟨rfl,rfl⟩
    have:=R.old k hk r hr (by rw[e3.1];exact ht) ht' (by rw[e3.2];exact he) y
    rw[e3.2]at this
    exact this)
   have rc:cntN G2.N≤cntN G.N+4:=R.cnt
   have rM:G2.M≤G.M+1002*4+1000:=R.M.2
   have ra:G2.E.ans=G.E.ans+nPd (bgnG G s c).E 4:=R.ans
   have Q2:Qt h2 e G2 (updF F s d' (some fun y=>y.testBit c.mask)) (t+1):=⟨W2,md,R.jobs,R.none,by have:G2.P.last=G.P.last:=R.last;have:=Q.last;omega,by omega,by omega,by omega,ht⟩
   have:=hK h2 G2 Q2 S2 ⟨R.n,R.fo,R.room,R.gg⟩ ht
   rw[q]
   exact this
  ·exact absurd (show c.kind=2 from k) (by omega)
  ·exact absurd (show c.kind=6 from k) (by omega)
theorem now_ask66(Q:Qt h e G F t)(hs:s<4)(hm:c.mask<256)(kd:c.kind=4∨c.kind=5)(hr: ∀r∈rds c,isR r∧ ∃f,F s r.toNat=some f)(hf:c.kind=4→ ∀j,j<G.n→G.fo j=j)(room:255*t+5<G.room)(ht:t+1<1000)
  (hK: ∀h' G',Qt h' e G' F (t+1)→Eside e G h G' h'→(G'.n=G.n∧G'.fo=G.fo∧G'.room=G.room∧G'.gg=G.gg)→K (.tuple #[.agg #[.int .i64 0,.int .u64 (askN G (bgnS (G.E.ses s) c):Int)],.bool true]) h'):
  Cl 66 [ptrV e,.int .i64 (s:Int),calV c] h K:=by
 have hLB:LB=140737488355328:=rfl
 have qM:=Q.M
 have qa:=Q.ans
 have qc:=Q.cnt
 have ql:=Q.last
 have qt:=Q.t
 have sE: ∀k,(bgnG G s c).E.ses k=if k=s then bgnS (G.E.ses s) c else G.E.ses k:=fun k=>rfl
 have ss:(bgnG G s c).E.ses s=bgnS (G.E.ses s) c:=by rw[sE,if_pos rfl]
 have ok:=rds_ok Q.md hs hr
 have rf:refu G.n (G.E.ses s) c=0:=by
  unfold refu refu2
  rw[if_neg (by omega),if_neg (fun w=>by have:=w.1;unfold wrK at this;omega),if_neg (fun w=>w ok),if_neg (fun w=>by omega),if_neg (fun w=>by omega),if_neg (fun w=>by omega)]
 have hn:stepN ((bgnG G s c).E.ses s).cal.kind=124:=by
  rw[ss]
  show stepN c.kind=124
  unfold stepN
  rw[if_neg (by omega),if_pos kd]
 obtain⟨G3,eG3⟩: ∃G3,G3=ansG (bgnG G s c) s 0 (askN G (bgnS (G.E.ses s) c)):=⟨_,rfl⟩
 have s3: ∀k,G3.E.ses k=if k=s then ansS (bgnS (G.E.ses s) c) 0 (askN G (bgnS (G.E.ses s) c))else G.E.ses k:=fun k=>by
  rw[eG3]
  show upN (upN G.E.ses s _) s (ansS (upN G.E.ses s (bgnS (G.E.ses s) c) s) 0 _) k=_
  rw[upN_upN,upN_eq]
  rfl
 have aft:Aft (bgnG G s c) s (ansS (bgnS (G.E.ses s) c) 0 (askN G (bgnS (G.E.ses s) c))) (fun r y=>sm G.n G.fo G.N ((G.E.ses s).hnd r) y) 0 G3:=by
  refine⟨by rw[eG3];exact⟨rfl,rfl,rfl⟩,by rw[eG3];rfl,by rw[eG3];rfl,by rw[eG3];rfl,by rw[eG3];rfl,by rw[eG3];rfl,by rw[eG3];rfl,by rw[eG3];exact Nat.le_add_right _ _,by rw[eG3];exact Q.jobs,by rw[eG3];rfl,by rw[eG3];exact Nat.le_add_right _ _,rfl,by rw[s3,if_pos rfl],fun k hk z=>by rw[s3,if_neg z,sE,if_neg z],fun r hr2 _ y=>by rw[eG3];rfl,fun k hk z r hr2 _ y=>by rw[eG3];rfl,by rw[eG3];exact Nat.le_refl _⟩
 refine now66 hs Q.W (Q.pend s hs) hm rf (fun G2=> ∃G1,G1=G3∧Keeps G1 G2) (fun {h1 Q1} W1 hQ=> ?_) (fun {G2} R=> ?_) fun h2 G2 W2 S2 R=> ?_
 ·refine solo_fair30 mr_less W1 hs (by rw[ss];rfl) (fun k hk z=>by rw[sE,if_neg z];exact Q.pend k hk) (by show G.M+_≤_;omega) (fun G1=>G1=G3) (fun {h2 Q2} O2 hQ2=> ?_) (fun {G1} eq=> ?_) fun h2 G1 G2 R1 k W2 S2=>hQ h2 G2 W2 S2 ⟨G1,R1,k⟩
  ·rw[hn]
   refine e_asks (W1.only0 O2) hs (by show G.E.ans<_;omega) (by rw[ss];exact kd) (by rw[ss];exact ok) (by rw[ss];exact hf) fun h3 W3 S3=>hQ2 true h3 _ W3 ((Eside.only0 O2).trans S3) ?_
   rw[eG3,ss]
   rfl
  ·subst eq
   refine⟨⟨_,_,_,aft⟩,?_,?_⟩
   ·rw[eG3];show cntN G.N<G.room;omega
   ·rw[eG3];exact Nat.le_add_right _ _
 ·obtain⟨G1,q,k⟩:=R
  subst q
  rw[k.E,s3,if_pos rfl]
  rfl
 ·obtain⟨G1,q,k⟩:=R
  subst q
  have kM:=k.M
  have e3M:G1.M=G.M:=by rw[eG3];rfl
  have A2:=aft.kept hs k (by show _≤G.M+_;omega)
  have no:=A2.none (fun k hk z=>by rw[sE,if_neg z];exact Q.pend k hk)
  have sr: ∀q,(G2.E.ses q).there=(G.E.ses q).there∧(G2.E.ses q).hnd=(G.E.ses q).hnd:=fun q=>by
   rw[k.E,s3]
   by_cases z:q=s
   ·rw[if_pos z,z];exact⟨rfl,rfl⟩
   ·rw[if_neg z];exact⟨rfl,rfl⟩
  have md:Md G2 F:=fun q hq r hr2=>by
   obtain⟨m1,m2⟩:=Q.md q hq r hr2
   rw[(sr q).1,(sr q).2]
   refine⟨m1,fun f z=> ?_⟩
   obtain⟨a,b⟩:=m2 f z
   refine⟨a,fun y=> ?_⟩
   have:=k.sm q hq r hr2 (by rw[←k.E,(sr q).1];exact a) y
   rw[←k.E,(sr q).2]at this
   have e3:G1.n=G.n∧G1.fo=G.fo∧G1.N=G.N:=by rw[eG3];exact⟨rfl,rfl,rfl⟩
   rw[e3.1,e3.2.1,e3.2.2]at this
   rw[A2.n,A2.fo]
   show sm G.n G.fo G2.N _ y=_
   rw[this]
   exact b y
  have rc:=A2.cnt
  have rc:cntN G2.N≤cntN G.N+0:=rc
  have rl:G2.P.last≤G.P.last+1:=A2.last
  have ra:G2.E.ans=G.E.ans+1:=A2.ans
  have Q2:Qt h2 e G2 F (t+1):=⟨W2,md,A2.jobs,no,by omega,by omega,by omega,by omega,ht⟩
  have:=hK h2 G2 Q2 S2 ⟨A2.n,A2.fo,A2.room,A2.gg⟩
  rw[A2.ses]
  exact this
set_option maxRecDepth 100000 in
theorem known17(hK: ∀h',Only [] h h'→K (.bool true) h'):Cl 17 [] h K:=by
 refine F17.spec h K ?_
 refine new18 (n:=8) (room:=16384) (by omega) (by omega) (by omega) (by omega) fun h2 e G W2 s2 a2 n2 m2 f2 g2 _ N2 j2 w2 _ la2 M2 b2 O2=>⟨_,_,rfl,?_⟩
 rw[show((0:Int) !=0)=false from rfl,bcase_false]
 have Q2:=qt_new W2 s2 a2 N2 j2 la2 M2
 refine now_var66 (s:=0) (d:=0) (c:=⟨1,0,0,0,0,0,3⟩) Q2 (by omega) (by omega) (by rw[n2];show 3<8;omega) rfl rfl (by rw[m2];omega) (fun h4 G4 Q4 S4 k4 _=>⟨_,_,_,rfl,cells2 fun h5 A5 O5=> ?_⟩) (by omega)
 have n4:G4.n=8:=k4.1.trans n2
 have o4:G4.fo=fill 8:=k4.2.1.trans f2
 have r4:G4.room=16384:=k4.2.2.1.trans m2
 have id: ∀j,j<8→fill 8 j=j:=fun j hj=>if_pos hj
 have F0:(updF noF 0 0 (some fun y=>y.testBit 3)) 0 0=some fun y=>y.testBit 3:=if_pos ⟨rfl,rfl⟩
 refine now_ask66 (s:=0) (c:=⟨4,0,0,0,0,0,0⟩) (Q4.only0 O5) (by omega) (by show 0<256;omega) (.inl rfl) (fun r hr=> ?_) (fun _=>by rw[n4,o4];exact id) (by rw[r4];omega) (by omega) fun h6 G6 Q6 S6 k6=>⟨_,_,_,rfl,cells2 fun h7 A7 O7=> ?_⟩
 ·have hr:r=0:=by
   have:rds (⟨4,0,0,0,0,0,0⟩:Cal)=[0]:=rfl
   rw[this]at hr
   simpa using hr
  subst hr
  exact⟨by unfold isR;omega,_,F0⟩
 have b5:h4.size∉ebl e G4:=fun hm=>by have:=Q4.W.lt _ hm;omega
 obtain⟨A5,b5⟩:=S6.at A5 b5
 have A5:=A5.only O7 (by simp)
 have v1:askN G4 (bgnS (G4.E.ses 0) ⟨4,0,0,0,0,0,0⟩)=128:=by
  have:askN G4 (bgnS (G4.E.ses 0) ⟨4,0,0,0,0,0,0⟩)=tA G4.n G4.fo G4.N ((G4.E.ses 0).hnd 0):=if_pos rfl
  rw[this]
  unfold tA
  have e:tN (sm G4.n G4.fo G4.N ((G4.E.ses 0).hnd 0)) (2^G4.n)=tN (fun y=>y.testBit 3) (2^8):=by
   rw[n4]
   exact tN_congr fun x _=>by have:=Q4.md.fun (k:=0) (r:=0) (by omega) (by omega) F0 x;rw[n4]at this;exact this
  rw[e]
  decide
 rw[bcase_true,bcase_true]
 refine ldI_of (n:=0) (by rw[add_mk,At.rd A5];rfl) ?_
 rw[show((0:Int)==0)=true from rfl,bcase_true]
 refine ldI_of (n:=((askN G4 (bgnS (G4.E.ses 0) ⟨4,0,0,0,0,0,0⟩):Nat):Int)) (by rw[add_mk,At.rd A7];rfl) ?_
 rw[v1,show(((128:Nat):Int)==128)=true from rfl]
 have O4:Only [] h h4:=S4.only O2 b2
 have ge4:=S4.ge O2.size b2
 exact hK h7 ((S6.only (O4.trans O5 (by simp)) ge4).trans O7 (by simp))
end
end
section
section
variable {h:Heap}{s:Nat}{L:List Nat}{X:SX}{K:Value→Heap→Prop}
theorem sto_cached{on:Bool}(Q':Int→Int→Prop)(H:Sto h s L X)(hK: ∀h',Sto h' s L {X with off:= !on,Q:=Q'}→Only L h h'→K (.tuple #[]) h'):Cl 63 [ptrV s,.bool on] h K:=by
 obtain⟨B,F,e,H⟩:=H
 subst e
 refine F63.spec _ _ h K ?_
 simp only[add_mk,Nat.zero_add,Nat.add_zero]
 refine stK_at H.m.S (by simp[scell]) rfl fun h1 A1 O1 z1=> ?_
 have A1:At h1 s (scell X.room B X.N.length F.length (!on)):=by
  have e:(scell X.room B X.N.length F.length X.off).set 7 (.bool (!on))=scell X.room B X.N.length F.length (!on):=by simp[scell]
  rw[←e];exact A1
 refine ldP_of (by rw[At.rd A1];rfl) ?_
 have sp:=H.m.sep
 have sp:([s,B.ob,B.cac,B.cm,B.cmc]++OwnB B.p++OwnB B.fp).Nodup:=sp
 have sp':=sp
 simp only[List.cons_append,List.nil_append,List.nodup_cons,List.mem_cons,List.mem_append,not_or]at sp
 obtain⟨⟨a1,a2,a3,a4,a5,a6⟩,⟨b1,b2,b3,b4,b5⟩,⟨c1,c2,c3,c4⟩,⟨d1,d2,d3⟩,⟨e1,e2⟩,-⟩:=sp
 have ts:=H.t.sep
 obtain⟨cs,ops,fails,W0,S0⟩:=H.m.cac
 have n1: ∀b∈[B.ob,B.cac,B.cm,B.cmc]++OwnB B.p++OwnB B.fp,b∉[s]:=fun b hb hm=>by
  simp only[List.mem_singleton]at hm
  subst hm
  simp only[List.cons_append,List.nil_append,List.mem_cons,List.mem_append]at hb
  rcases hb with q|q|q|q|q|q
  ·exact a1 q
  ·exact a2 q
  ·exact a3 q
  ·exact a4 q
  ·exact a5 q
  ·exact a6 q
 have nm: ∀y∈[s,B.ob,B.cac]++OwnB B.p++OwnB B.fp,y∉[B.cm,B.cmc]:=fun y hy hm=>by
  simp only[List.mem_cons,List.not_mem_nil,or_false]at hm
  simp only[List.cons_append,List.nil_append,List.mem_cons,List.mem_append]at hy
  rcases hy with q|q|q|q|q<;>rcases hm with r|r<;>subst r
  ·exact a3 q.symm
  ·exact a4 q.symm
  ·exact b2 q.symm
  ·exact b3 q.symm
  ·exact c1 q.symm
  ·exact c2 q.symm
  ·exact d2 q
  ·exact e1 q
  ·exact d3 q
  ·exact e2 q
 have W1:=W0.only O1 (n1 _ (by simp)) (n1 _ (by simp)) (n1 _ (by simp))
 refine clear113 W1 (by omega) (fun l hl=> ?_) fun h2 ops2 fails2 cs2 z2 W2 O2=>⟨rfl,?_⟩
 ·rw[Nat.zero_add]
  have:=S0 l hl
  exact⟨this.1,this.2.1,this.2.2.1⟩
 refine hK h2 ⟨B,F,rfl,⟨⟨A1.only O2 (nm _ (by simp)),(H.m.O.only O1 (n1 _ (by simp))).only O2 (nm _ (by simp)),(H.m.own.only O1 fun b hb=>n1 _ (by rw[show B.p=_ from hb];simp[OwnB])).only O2 (fun b hb=>nm _ (by rw[show B.p=_ from hb];simp[OwnB])),(H.m.fre.only O1 fun b hb=>n1 _ (List.mem_append.2 (.inr hb))).only O2 (fun b hb=>nm _ (List.mem_append.2 (.inr hb))),⟨cs2,ops2,fails2,W2,fun l hl=> ?_⟩,H.m.n8,H.m.len,sp'⟩,(H.t.only O1 fun b hb hm=>ts b hm (by simp at hb;subst hb;simp[SB.bm])).only O2 (fun b hb hm=>ts b hm (by simp at hb;rcases hb with q|q<;>subst q<;>simp[SB.bm])),H.ok,H.cnt,H.fre⟩⟩ ?_
 ·have:=z2 l hl
  rw[Nat.zero_add]at this
  exact⟨this.1,this.2.1,by omega,fun e=>by omega⟩
 ·refine(O1.mono (T:=B.bm s++B.bt) fun b hb _=> ?_).trans O2 fun b hb _=> ?_
  ·simp only[List.mem_singleton]at hb;subst hb;simp[SB.bm]
  ·simp at hb;rcases hb with q|q<;>subst q<;>simp[SB.bm]
end
end
section
theorem arrW{z:List Int}(lz:z.length=4)(rz: ∀y∈z,IntKind.min .u64≤y∧y≤IntKind.max .u64): ∃g:Nat→Nat,WOk g∧(Value.agg (z.map (Value.int .u64)).toArray)=aggW g:=by
 match z,lz with
 | [a,b,c,d],_=>
  have r: ∀y,y∈[a,b,c,d]→0≤y∧y<18446744073709551616:=fun y hy=>by
   have:=rz y hy
   have e1:IntKind.min .u64=0:=rfl
   have e2:IntKind.max .u64=18446744073709551615:=rfl
   omega
  have ra:=r a (by simp)
  have rb:=r b (by simp)
  have rc:=r c (by simp)
  have rd:=r d (by simp)
  refine⟨fun i=>([a,b,c,d].getD i 0).toNat,fun i hi=> ?_,?_⟩
  ·unfold U64
   have:i=0∨i=1∨i=2∨i=3:=by omega
   rcases this with e|e|e|e<;>subst e<;>simp<;>omega
  ·unfold aggW
   simp
   omega
section
variable {n:Nat}{fo gg:Nat→Nat}{N N':List (Option Nd)}{op mask a b c r r':Nat}
theorem JobR.is(J:JobR n fo gg N op mask a b c r):isN N r:=by
 unfold JobR at J
 split at J
 ·exact J.is
 split at J
 ·exact J.is
 split at J
 ·exact J.is
 split at J
 ·exact J.is
 split at J
 ·obtain⟨_,_,-,-,h⟩:=J;exact h.is
 split at J
 ·obtain⟨_,_,-,-,h⟩:=J;exact h.is
 ·exact J.is
theorem JobR.ext(J:JobR n fo gg N op mask a b c r)(H:NOk n N)(E:Ex N N')(hm:op=8→gg mask<n)(ha:isN N a)(hb:isN N b)(hc:isN N c):JobR n fo gg N' op mask a b c r:=by
 have z:isN N 0:= .inl (by decide)
 have o:isN N 1:= .inl (by decide)
 unfold JobR at J ⊢
 split at J
 ·rename_i q;rw[if_pos q];exact OpR.ext J H E o ha z
 rename_i q;rw[if_neg q]
 split at J
 ·rename_i q;rw[if_pos q];exact OpR.ext J H E ha hb hc
 rename_i q;rw[if_neg q]
 split at J
 ·rename_i q;rw[if_pos q];exact QR.ext J H E ha
 rename_i q;rw[if_neg q]
 split at J
 ·rename_i q;rw[if_pos q];exact CR.ext J H E (hm q) ha hb
 rename_i q;rw[if_neg q]
 split at J
 ·rename_i q;rw[if_pos q]
  obtain⟨r1,r2,h1,h2,h3⟩:=J
  exact⟨r1,r2,h1.ext H E ha hb z,h2.ext H E h1.is,h3.ext H E h2.is⟩
 rename_i q;rw[if_neg q]
 split at J
 ·rename_i q;rw[if_pos q]
  obtain⟨r1,r2,h1,h2,h3⟩:=J
  exact⟨r1,r2,h1.ext H E ha,h2.ext H E h1.is hb z,h3.ext H E h2.is⟩
 rename_i q;rw[if_neg q]
 exact OpR.ext J H E ha hb z
theorem one_of(H:NOk n N)(P:PermOk n fo gg)(n8:n≤8)(h1:isN N r)(h2:isN N r')(e: ∀x,sm n fo N r x=sm n fo N r' x):r=r':=
 canon H P n8 n (Nat.sub_le _ _) h1 h2 fun x _=>e x
theorem OpR.det(H:NOk n N)(P:PermOk n fo gg)(n8:n≤8)(A:OpR n fo N op a b c r)(B:OpR n fo N op a b c r'):r=r':=one_of H P n8 A.is B.is fun x=>by rw[A.sm,B.sm]
theorem QR.det(H:NOk n N)(P:PermOk n fo gg)(n8:n≤8)(A:QR n fo N op mask a r)(B:QR n fo N op mask a r'):r=r':=one_of H P n8 A.is B.is fun x=>by rw[A.sm,B.sm]
theorem CR.det(H:NOk n N)(P:PermOk n fo gg)(n8:n≤8)(A:CR n fo N op b a r)(B:CR n fo N op b a r'):r=r':=one_of H P n8 A.is B.is fun x=>by rw[A.sm,B.sm]
theorem TR.det(H:NOk n N)(P:PermOk n fo gg)(n8:n≤8)(A:TR n fo N a r)(B:TR n fo N a r'):r=r':=one_of H P n8 A.is B.is fun x=>by rw[A.sm,B.sm]
theorem JobR.det(H:NOk n N)(P:PermOk n fo gg)(n8:n≤8)(A:JobR n fo gg N op mask a b c r)(B:JobR n fo gg N op mask a b c r'):r=r':=by
 unfold JobR at A B
 split at A
 ·rename_i q;rw[if_pos q]at B;exact OpR.det H P n8 A B
 rename_i q;rw[if_neg q]at B
 split at A
 ·rename_i q;rw[if_pos q]at B;exact OpR.det H P n8 A B
 rename_i q;rw[if_neg q]at B
 split at A
 ·rename_i q;rw[if_pos q]at B;exact QR.det H P n8 A B
 rename_i q;rw[if_neg q]at B
 split at A
 ·rename_i q;rw[if_pos q]at B;exact CR.det H P n8 A B
 rename_i q;rw[if_neg q]at B
 split at A
 ·rename_i q;rw[if_pos q]at B
  obtain⟨r1,r2,h1,h2,h3⟩:=A
  obtain⟨s1,s2,g1,g2,g3⟩:=B
  have:=OpR.det H P n8 h1 g1
  subst this
  have:=QR.det H P n8 h2 g2
  subst this
  exact TR.det H P n8 h3 g3
 rename_i q;rw[if_neg q]at B
 split at A
 ·rename_i q;rw[if_pos q]at B
  obtain⟨r1,r2,h1,h2,h3⟩:=A
  obtain⟨s1,s2,g1,g2,g3⟩:=B
  have:=TR.det H P n8 h1 g1
  subst this
  have:=OpR.det H P n8 h2 g2
  subst this
  exact QR.det H P n8 h3 g3
 rename_i q;rw[if_neg q]at B
 exact OpR.det H P n8 A B
end
end
section
open Go Go.ChangeShapes Go.WideShapes Go.ChangeAt Go.RowKit
theorem open_arr{H:Type}{enc:TypeId×Value→H}{P:Program}{W:World}{r:Reach}{b0 base:Nat}{sp:Nat→Bool}{held:Bool}{t e:TypeId}{n:Nat}{k:IntKind}{v:Value}{d:DataW H}{ps:List MemPlace}
  (ht:P.underlying t=some (.array n e)) (he:P.underlying e=some (.int k)) (hc:P.cellsOf e=1) (hct:P.cellsOf t=n) (hval:Value.okWide P W r b0 t v)
  (hd:DataW.Trod enc P W base sp held t v d ps): ∃zs:List Int,zs.length=n∧v= .agg (zs.map (Value.int k)).toArray∧ ∀z∈zs,k.min≤z∧z≤k.max:=by
 unfold Value.okWide at hval
 rw[ht]at hval
 obtain⟨cs,rfl,hsz,-⟩:=hval
 obtain⟨fuel,hf⟩:=hd
 obtain⟨xs,m,-,-,hl,hx,hi⟩:=Go.DataW.trod_array ht hf
 have hcs:(Value.agg cs).cells=cs:=rfl
 rw[hcs]at hi hl
 have key: ∀i,i<n→ ∃z:Int,cs.toList[i]? =some (.int k z)∧k.min≤z∧z≤k.max:=by
  intro i hin
  have h1:=hi i hin
  have hlt:i<cs.toList.length:=by simp;omega
  rw[hc,Nat.mul_one,List.drop_eq_getElem_cons hlt,List.getElem?_eq_getElem (by omega:i<xs.length)]at h1
  have h2:([cs.toList[i]]:List Value)=List.take 1 (cs.toList[i]::List.drop (i+1) cs.toList):=rfl
  rw[←h2]at h1
  obtain⟨z,h5,-,h6⟩:=DataW.trod_int he h1
  injection h5 with h5
  exact⟨z,by rw[List.getElem?_eq_getElem hlt,h5],wf_range h6⟩
 obtain⟨f,hf'⟩:=pick key
 refine⟨(List.range n).map f,by simp,?_,fun z hz=> ?_⟩
 ·congr 1
  apply Array.ext'
  apply List.ext_getElem?
  intro i
  by_cases hin:i<n
  ·rw[(hf' i hin).1]
   simp[hin]
  ·rw[List.getElem?_eq_none (by simp;omega),List.getElem?_eq_none (by simp;omega)]
 ·obtain⟨i,hin,rfl⟩:=List.mem_map.1 hz
  exact(hf' i (List.mem_range.1 hin)).2
end
section
def livT(N:List (Option Nd))(k:Nat):List Nat:=((List.range k).filter fun i=>(nd N i).isSome).map (· +2)
def liv(N:List (Option Nd)):List Nat:=livT N N.length
theorem livT_succ{N:List (Option Nd)}{k:Nat}:livT N (k+1)=livT N k++if(nd N k).isSome then [k+2]else []:=by
 unfold livT
 rw[List.range_succ,List.filter_append,List.map_append]
 congr 1
 cases h:(nd N k).isSome<;>simp[h]
theorem mem_livT{N:List (Option Nd)}{k a:Nat}:a∈livT N k↔2≤a∧a-2<k∧ ∃x,nd N (a-2)=some x:=by
 unfold livT
 simp only[List.mem_map,List.mem_filter,List.mem_range,Option.isSome_iff_exists]
 constructor
 ·rintro ⟨i,⟨h1,h2⟩,e⟩
  subst e
  exact⟨by omega,by simpa using h1,by simpa using h2⟩
 ·rintro ⟨h0,h1,h2⟩
  exact⟨a-2,⟨h1,h2⟩,by omega⟩
theorem mem_liv{N:List (Option Nd)}{a:Nat}:a∈liv N↔2≤a∧ ∃x,nd N (a-2)=some x:=by
 unfold liv
 rw[mem_livT]
 exact⟨fun h=>⟨h.1,h.2.2⟩,fun h=>⟨h.1,by obtain⟨x,hx⟩:=h.2;exact nd_lt hx,h.2⟩⟩
theorem liv_up{N:List (Option Nd)}(k:Nat):(livT N k).Pairwise (· < ·):=by
 unfold livT
 rw[List.pairwise_map]
 refine List.Pairwise.filter _ ((List.pairwise_lt_range (n:=k)).imp ?_)
 intro a b h
 show a+2<b+2
 omega
theorem livT_len{N:List (Option Nd)}: ∀k,k≤N.length→(livT N k).length=cntN (N.take k):=by
 intro k
 induction k with
 |zero=>intro _;simp[livT,cntN]
 |succ k ih=>
  intro hk
  have:=ih (by omega)
  obtain⟨o,ho⟩: ∃o,N[k]? =some o:=⟨_,List.getElem?_eq_getElem (by omega)⟩
  rw[livT_succ,take_succ' ho,cnt_app,List.length_append,this]
  have e:nd N k=o:=by unfold nd;rw[ho];rfl
  rw[e]
  cases o<;>rfl
theorem liv_len(N:List (Option Nd)):(liv N).length=cntN N:=by
 have:=livT_len (N:=N) N.length (Nat.le_refl _)
 rw[List.take_length]at this
 exact this
section
variable {h:Heap}{s:Nat}{L:List Nat}{X:SX}{K:Value→Heap→Prop}
set_option maxRecDepth 100000 in
theorem all59(H:Sto h s L X)(hK: ∀h' p c,Own h' h.size 1 p (liv X.N).length c ((liv X.N).map hv)→Only [] h h'→K (.slice p (liv X.N).length c) h'):Cl 59 [.pointer (some ⟨s,0,none⟩)] h K:=by
 obtain⟨B,F,eL,H⟩:=H
 have hlen:=H.m.len
 refine F59.spec _ h K ?_
 simp only[add_mk,Nat.zero_add]
 refine ldS_of (p:=B.p) (l:=X.N.length) (c:=B.c) (by rw[At.rd H.m.S];rfl) ?_
 unfold F59.wk3
 have main: ∀(d i:Nat) (h':Heap) (p:Option Addr) (c:Nat),i+d=X.N.length→Own h' h.size 1 p (livT X.N i).length c ((livT X.N i).map hv)→Only [] h h'→
   F59.wL3 (d+1) p (livT X.N i).length c B.p X.N.length B.c (X.N.length:Int) (i:Int) h' K:=by
  intro d
  induction d with
  |zero=>
   intro i h' p c hi Ow O
   rw[F59.sL3]
   rw[decide_eq_false (by omega),bcase_false]
   obtain rfl:i=X.N.length:=by omega
   exact hK h' p c Ow O
  |succ d ih=>
   intro i h' p c hi Ow O
   obtain⟨o,ho⟩: ∃o,X.N[i]? =some o:=⟨_,List.getElem?_eq_getElem (by omega)⟩
   have m1:=H.m.only O (by simp)
   obtain⟨b,eb,rr⟩:=m1.cells ho
   have en:nd X.N i=o:=by unfold nd;rw[ho];rfl
   rw[F59.sL3]
   rw[decide_eq_true (by omega),bcase_true,eb,ptrK_some]
   refine⟨by omega,by omega,?_⟩
   rw[←eb]
   simp only[add_mk,Nat.zero_add]
   have hw:IntKind.wrap .u32 (IntKind.wrap .i64 ((i:Int)+2))=((i+2:Nat):Int):=by
    rw[wrap_i64 (by omega) (by omega),show(i:Int)+2=((i+2:Nat):Int) by omega]
    exact wrap32 (by omega)
   rw[show Int.toNat (i:Int)*4=i*4 by omega,hw,show IntKind.wrap .i64 ((i:Int)+1)=((i+1:Nat):Int) by rw[wrap_i64 (by omega) (by omega)];omega]
   obtain⟨tv,lv,av,bv,ec⟩: ∃tv lv av bv,ncell o=[.bool tv,.int .i64 lv,.int .u32 av,.int .u32 bv]:=by
    cases o with
    |none=>exact⟨_,_,_,_,rfl⟩
    |some x=>exact⟨_,_,_,_,rfl⟩
   have et:tv=o.isSome:=by
    cases o<;>simp only[ncell,List.cons.injEq,Value.bool.injEq]at ec<;>exact ec.1.symm
   rw[ec]at rr
   refine ldB_of (by rw[←Nat.add_zero (i*4),rr 0 (by omega)];rfl) (ldI_of (by rw[rr 1 (by omega)];rfl) (ldI_of (by rw[rr 2 (by omega)];rfl) (ldI_of (by rw[rr 3 (by omega)];rfl) ?_)))
   refine newK_at fun k1 B1 P1 y1=> ?_
   refine stK_at B1 (by simp) rfl fun k2 B2 P2 y2=>stK_at B2 (by simp) rfl fun k3 B3 P3 y3=>stK_at B3 (by simp) rfl fun k4 B4 P4 y4=>stK_at B4 (by simp) rfl fun k5 B5 P5 y5=> ?_
   have P15:Only [] h' k5:=(((P1.trans P2 (by intro b hb hl;simp at hb;omega)).trans P3 (by intro b hb hl;simp at hb;omega)).trans P4 (by intro b hb hl;simp at hb;omega)).trans P5 (by intro b hb hl;simp at hb;omega)
   refine ldB_of (n:=tv) (by rw[At.rd B5];rfl) ?_
   have z0:=O.size
   have z1:=P15.size
   have Ow5:=Ow.only P15 (by simp)
   have hll:(livT X.N i).length≤40000:=by
    rw[livT_len i (by omega)]
    have:=cntN_le (X.N.take i)
    rw[List.length_take]at this
    omega
   have ls:=livT_succ (N:=X.N) (k:=i)
   rw[en]at ls
   cases o with
   |none=>
    rw[et,Option.isSome_none,bcase_false]
    have ls:livT X.N (i+1)=livT X.N i:=by rw[ls];simp
    rw[←ls]at Ow5 ⊢
    exact ih (i+1) k5 p c (by omega) Ow5 (O.trans P15 (by simp))
   |some x=>
    rw[et,Option.isSome_some,bcase_true]
    have ls:livT X.N (i+1)=livT X.N i++[i+2]:=ls
    refine newK_at fun k6 B6 P6 y6=> ?_
    refine own_app (new:=[hv (i+2)]) (Ow5.only P6 (by simp)) B6 rfl rfl (by omega) (by simp[Value.oneCell']) (by omega) fun p' c' k7 W7 P7 hb7=> ?_
    have e1:(livT X.N i).length+1=(livT X.N (i+1)).length:=by rw[ls];simp
    have e2:(livT X.N i).map hv++[hv (i+2)]=(livT X.N (i+1)).map hv:=by rw[ls];simp
    rw[e1,e2]at W7
    rw[e1]
    exact ih (i+1) k7 p' c' (by omega) W7 (((O.trans P15 (by simp)).trans P6 (by simp)).trans P7 fun b hb hl=>by have:=Ow.lt b hb;omega)
 exact⟨_,main X.N.length 0 h none 0 (by omega) (Own.nil _ _ _) (Only.refl _ _)⟩
end
end
section
section
variable {h:Heap}{s:Nat}{L:List Nat}{X:SX}{K:Value→Heap→Prop}
set_option maxRecDepth 100000 in
theorem once22(H:Sto h s L X)(hK: ∀h',Only [] h h'→K (.bool true) h'):Cl 22 [.pointer (some ⟨s,0,none⟩)] h K:=by
 have ok:=H.ok
 have okN:=ok.1
 refine F22.spec _ h K ?_
 unfold F22.w F22.J0
 refine all59 H fun h1 p c Ow O1=>ldS_of rfl ?_
 have H1:=H.only0 O1
 refine sto_len H1 (ldI_of rfl ?_)
 rw[liv_len,show(((cntN X.N:Nat):Int) !=((cntN X.N:Nat):Int))=false by simp,bcase_false]
 have sr:Cl 70 [.pointer (some ⟨s,0,none⟩)] h1 fun v9 h10=>v9= .int .i64 (X.room:Int)∧h10=h1:=by
  obtain⟨B,F,e,H⟩:=H1
  refine F70.spec _ h1 _ ?_
  exact ldI_of (by rw[add_mk,At.rd H.m.S];rfl) ⟨rfl,rfl⟩
 refine sr.mono fun v9 h10 ⟨e1,e2⟩=> ?_
 subst e1 e2
 refine ldI_of rfl ?_
 have hc:cntN X.N≤X.room:=by omega
 rw[decide_eq_false (by omega),bcase_false,←liv_len]
 unfold F22.wk5 F22.Jk5
 have at_: ∀i,i<(liv X.N).length→ ∃a x,(liv X.N)[i]? =some a∧2≤a∧nd X.N (a-2)=some x∧isN X.N a∧lvl X.n X.N a=x.1∧low X.N a=x.2.1∧high X.N a=x.2.2∧a<32770:=fun i hi=>by
  have h0:(liv X.N)[i]? =some (liv X.N)[i]:=List.getElem?_eq_getElem hi
  obtain⟨h2,x,hx⟩:=mem_liv.1 (List.mem_of_getElem? h0)
  refine⟨_,x,h0,h2,hx,.inr ⟨x,hx⟩,?_,?_,?_,H.isN_lt (.inr ⟨x,hx⟩)⟩
  ·unfold lvl;rw[if_neg (by omega),hx]
  ·unfold low;rw[if_neg (by omega),hx]
  ·unfold high;rw[if_neg (by omega),hx]
 have up: ∀i j a b,i<j→(liv X.N)[i]? =some a→(liv X.N)[j]? =some b→a<b:=fun i j a b hij ha hb=>by
  have:=List.pairwise_iff_getElem.1 (show(liv X.N).Pairwise (· < ·)from liv_up _) i j (List.getElem?_eq_some_iff.1 ha).1 (List.getElem?_eq_some_iff.1 hb).1 hij
  rw[(List.getElem?_eq_some_iff.1 ha).2,(List.getElem?_eq_some_iff.1 hb).2]at this
  exact this
 have ldl: ∀{i:Nat} {a:Nat} {Q:Int→Prop},(liv X.N)[i]? =some a→Q (a:Int)→ptrK p (fun a1=>(0≤(i:Int)∧(i:Int)<(Nat.cast (liv X.N).length:Int)∧ldI .u32 (rd h10 (Addr.add a1 (Int.toNat (i:Int)*1))) Q)):=fun {i a Q} ha hQ=>by
  have hi:=(List.getElem?_eq_some_iff.1 ha).1
  obtain⟨b,eb,rr⟩:=Ow.rd (j:=i) (by simpa using hi)
  rw[eb,ptrK_some,add_mk,Nat.zero_add,show Int.toNat (i:Int)*1=i by omega,rr]
  exact⟨by omega,by omega,ldI_of (n:=(a:Int)) (by simp[ha]) hQ⟩
 have hll:(liv X.N).length≤32768:=by rw[liv_len];omega
 have inner: ∀{bk:Addr→Option Addr→Nat→Nat→Int→Heap→Prop} {i a:Nat} {x:Nd},(liv X.N)[i]? =some a→nd X.N (a-2)=some x→bk ⟨s,0,none⟩ p (liv X.N).length c ((i+1:Nat):Int) h10→
   ∀(d j:Nat),j+d=i→F22.wL12 bk (d+1) ⟨s,0,none⟩ p (liv X.N).length c (i:Int) (x.1:Int) (x.2.1:Int) (x.2.2:Int) (j:Int) h10 K:=by
  intro bk i a x ha hx hbk d
  have hi:=(List.getElem?_eq_some_iff.1 ha).1
  induction d with
  |zero=>
   intro j hj
   unfold F22.wL12 F22.JL12
   rw[decide_eq_false (by omega),bcase_false,show IntKind.wrap .i64 ((i:Int)+1)=((i+1:Nat):Int) by rw[wrap_i64 (by omega) (by omega)];omega]
   exact hbk
  |succ d ih=>
   intro j hj
   obtain⟨b,y,hb,b2,hy,nb,el,elo,ehi,-⟩:=at_ j (by omega)
   have lt:=up j i b a (by omega) hb ha
   unfold F22.wL12 F22.JL12
   rw[decide_eq_true (by omega),bcase_true,show IntKind.wrap .i64 ((j:Int)+1)=((j+1:Nat):Int) by rw[wrap_i64 (by omega) (by omega)];omega]
   have nx:=ih (j+1) (by omega)
   refine ldl hb (sto_level H1 nb (ldI_of rfl (bcase_of (fun g1=> ?_) fun _=>nx)))
   refine ldl hb (sto_low H1 nb (ldI_of rfl (bcase_of (fun g2=> ?_) fun _=>nx)))
   refine ldl hb (sto_high H1 nb (ldI_of rfl (bcase_of (fun g3=> ?_) fun _=>nx)))
   exfalso
   have e1:(lvl X.n X.N b:Int)=(x.1:Int):=eq_of_beq g1
   have e2:(low X.N b:Int)=(x.2.1:Int):=eq_of_beq g2
   have e3:(high X.N b:Int)=(x.2.2:Int):=eq_of_beq g3
   rw[el]at e1
   rw[elo]at e2
   rw[ehi]at e3
   have:y=x:=by
    obtain⟨y1,y2,y3⟩:=y
    obtain⟨x1,x2,x3⟩:=x
    have e1:(y1:Int)=x1:=e1
    have e2:(y2:Int)=x2:=e2
    have e3:(y3:Int)=x3:=e3
    rw[Int.ofNat.inj e1,Int.ofNat.inj e2,Int.ofNat.inj e3]
   subst this
   have:=okN.once _ _ _ hy hx
   omega
 have main: ∀(d i:Nat),i+d=(liv X.N).length→F22.wL5 (d+1) ⟨s,0,none⟩ p (liv X.N).length c (i:Int) h10 K:=by
  intro d
  induction d with
  |zero=>
   intro i hi
   unfold F22.wL5 F22.JL5
   rw[decide_eq_false (by omega),bcase_false]
   exact hK _ O1
  |succ d ih=>
   intro i hi
   obtain⟨a,x,ha,a2,hx,na,el,elo,ehi,alt⟩:=at_ i (by omega)
   obtain⟨q1,q2,q3,q4,q5,q6⟩:=okN.node _ x hx
   have q2':=H.isN_lt q2
   have q3':=H.isN_lt q3
   unfold F22.wL5 F22.JL5
   rw[decide_eq_true (by omega),bcase_true]
   have nx:=ih (i+1) (by omega)
   have w12:F22.wk12 (fun x0 x3p x3l x3c x4 h=>F22.wL5 (d+1) x0 x3p x3l x3c x4 h K) ⟨s,0,none⟩ p (liv X.N).length c (i:Int) (x.1:Int) (x.2.1:Int) (x.2.2:Int) 0 h10 K:=by
    unfold F22.wk12 F22.Jk12
    exact⟨_,inner ha hx nx i 0 (by omega)⟩
   refine ldl ha (sto_level H1 na (ldI_of rfl (sto_low H1 na (ldI_of rfl (sto_high H1 na (ldI_of rfl ?_))))))
   rw[el,elo,ehi,decide_eq_false (by omega),bcase_false]
   refine bcase_of (fun g=> ?_) fun g=> ?_
   ·have g:(i:Int)>0:=of_decide_eq_true g
    obtain⟨b,y,hb,-⟩:=at_ (i-1) (by omega)
    have lt:=up (i-1) i b a (by omega) hb ha
    rw[show IntKind.wrap .i64 ((i:Int)-1)=((i-1:Nat):Int) by rw[wrap_i64 (by omega) (by omega)];omega]
    refine ldl hb ?_
    rw[decide_eq_false (by omega),bcase_false]
    refine sto_is1 H1 na (ldB_of rfl ?_)
    rw[Bool.not_true,bcase_false,decide_eq_false (by omega),bcase_false]
    refine sto_vars H1 (ldI_of rfl ?_)
    rw[decide_eq_false (by omega),bcase_false,show((x.2.1:Int)==(x.2.2:Int))=false by simp;omega,bcase_false]
    refine sto_is1 H1 q2 (ldB_of rfl ?_)
    rw[Bool.not_true,bcase_false]
    refine sto_is1 H1 q3 (ldB_of rfl ?_)
    rw[Bool.not_true,bcase_false]
    refine sto_level H1 q2 (ldI_of rfl ?_)
    rw[decide_eq_false (by omega),bcase_false]
    refine sto_level H1 q3 (ldI_of rfl ?_)
    rw[decide_eq_false (by omega),bcase_false]
    exact w12
   ·refine sto_is1 H1 na (ldB_of rfl ?_)
    rw[Bool.not_true,bcase_false,decide_eq_false (by omega),bcase_false]
    refine sto_vars H1 (ldI_of rfl ?_)
    rw[decide_eq_false (by omega),bcase_false,show((x.2.1:Int)==(x.2.2:Int))=false by simp;omega,bcase_false]
    refine sto_is1 H1 q2 (ldB_of rfl ?_)
    rw[Bool.not_true,bcase_false]
    refine sto_is1 H1 q3 (ldB_of rfl ?_)
    rw[Bool.not_true,bcase_false]
    refine sto_level H1 q2 (ldI_of rfl ?_)
    rw[decide_eq_false (by omega),bcase_false]
    refine sto_level H1 q3 (ldI_of rfl ?_)
    rw[decide_eq_false (by omega),bcase_false]
    exact w12
 exact⟨_,main (liv X.N).length 0 (by omega)⟩
end
end
section
theorem make13{h:Heap}{s:Nat}{L:List Nat}{X:SX}{g:Nat→Nat}{K:Value→Heap→Prop}(H:Sto h s L X)(hf: ∀j,j<X.n→X.f j<8)(hg:WOk g)(hI: ∀v,v<8→(∀j,j<X.n→X.f j≠v)→Indep (fb g) v)
  (hroom:clN (lst X.n) X.N+bdn X.n 0+2≤X.room)
  (hK: ∀h' L' N' r,Ex X.N N'→isN N' r→(∀x,x<256→sm X.n X.f N' r x=fb g x)→clN (lst X.n) N'+1≤clN (lst X.n) X.N+bdn X.n 0→Sto h' s L' {X with N:=N'}→Only L h h'→Fresh L L' h→K (.tuple #[.int .u32 (r:Int),.bool true]) h'):
  Cl 62 [.pointer (some ⟨s,0,none⟩),aggW g] h K:=by
 refine F62.spec _ _ _ _ _ h K ?_
 refine newK_at fun h1 A1 O1 z1=> ?_
 replace A1:At h1 h.size (wrow g):=A1
 refine rd4 A1 ?_
 refine sto_order (H.only0 O1) fun c h2 C2 g2 O2=>ldP_of rfl ⟨rfl,?_⟩
 have A2:=A1.only O2 (by simp)
 refine rd4 A2 ⟨rfl,?_⟩
 refine ord_all C2 H.ok.2.2.1 fun x h3 V3 g3 O3=>ldS_of rfl ⟨rfl,?_⟩
 have A3:=A2.only O3 (by simp)
 refine rd4 A3 ⟨rfl,?_⟩
 have O13:=(O1.trans O2 (by simp)).trans O3 (by simp)
 have z12:=O1.size
 have z23:=O2.size
 have hx:x∉L:=fun hm=>by
  have:=H.lt _ hm
  omega
 refine made35 (X.n-0) 0 (by omega) rfl hf (H.only0 O13) V3 hx hg (fun v hv hj=>hI v hv fun j hj'=>hj j (by omega) hj') hroom fun h4 L4 N4 r E4 hr _ hs hc S4 O4 F4=>⟨_,_,rfl,hK h4 L4 N4 r E4 hr hs hc S4 ((O13.mono (by simp)).trans O4 fun b hb _=>hb) fun b hb=> ?_⟩
 rcases F4 b hb with h|h
 ·exact .inl h
 ·exact .inr (by have:=O13.size;omega)
end
section
def X8(N:List (Option Nd))(Q:Int→Int→Prop)(off:Bool):SX:=⟨8,20000,fill 8,fill 8,N,Q,off⟩
theorem fill8{l:Nat}(h:l<8):fill 8 l=l:=if_pos h
theorem pairs8:Pairs 8 (fill 8) (fill 8):=fun l hl=>by
 have:l=0∨l=1∨l=2∨l=3∨l=4∨l=5∨l=6∨l=7:=by omega
 rcases this with e|e|e|e|e|e|e|e<;>subst e<;>decide
theorem takesZ_op{x:Int}(h:takesZ x≠0): ∃o:Nat,x=(o:Int)∧(o=1∨o=2∨o=3∨o=4∨o=5∨o=6∨o=7∨o=8∨o=9∨o=10):=by
 unfold takesZ at h
 refine⟨x.toNat,?_⟩
 split at h
 ·omega
 split at h
 ·omega
 split at h
 ·omega
 ·exact absurd rfl h
structure Ca(h0 h:Heap)(s b:Nat)(L:List Nat)(N:List (Option Nd))(v:Nat→Nat):Prop where
 S: ∃Q off,Sto h s L (X8 N Q off)
 A:At h b [hv (v 0),hv (v 1),hv (v 2)]
 n: ∀i,i<3→isN N (v i)
 O:Only [] h0 h
 g: ∀y∈L,h0.size≤y
 b:h0.size≤b∧b∉L
section
variable {h0 h:Heap}{s b:Nat}{L:List Nat}{N:List (Option Nd)}{v:Nat→Nat}
theorem Ca.rd{i:Nat}(C:Ca h0 h s b L N v)(hi:i<3):rd h ⟨b,i,none⟩=some (hv (v i)):=by
 rw[At.rd C.A]
 have:i=0∨i=1∨i=2:=by omega
 rcases this with e|e|e<;>subst e<;>rfl
theorem Ca.only{h':Heap}(C:Ca h0 h s b L N v)(O:Only [] h h'):Ca h0 h' s b L N v:=by
 obtain⟨Q,off,S⟩:=C.S
 exact⟨⟨Q,off,S.only0 O⟩,C.A.only O (by simp),C.n,C.O.trans O (by simp),C.g,C.b⟩
theorem Ca.sto{h':Heap}{L':List Nat}{N':List (Option Nd)}{Q:Int→Int→Prop}{off:Bool}(C:Ca h0 h s b L N v)(S':Sto h' s L' (X8 N' Q off))(E:Ex N N')(O:Only L h h')(F:Fresh L L' h):Ca h0 h' s b L' N' v:=by
 have z:=C.O.size
 have ab:=C.A.lt
 refine⟨⟨Q,off,S'⟩,C.A.only O C.b.2,fun i hi=>E.isN (C.n i hi),C.O.trans O fun y hy hl=>by have:=C.g y hy;omega,fun y hy=> ?_,C.b.1,fun hm=> ?_⟩
 ·rcases F y hy with q|q
  ·exact C.g y q
  ·omega
 ·rcases F b hm with q|q
  ·exact C.b.2 q
  ·omega
theorem Ca.set{i r:Nat}(C:Ca h0 h s b L N v)(hi:i<3)(hr:isN N r){K:Heap→Prop}(hK: ∀h',Ca h0 h' s b L N (upd v i r)→Only [b] h h'→K h'):stK h ⟨b,i,none⟩ (.int .u32 (r:Int)) K:=by
 obtain⟨Q,off,S⟩:=C.S
 refine stK_at C.A (by simpa using hi) rfl fun h' A' O' z'=>hK h' ⟨⟨Q,off,S.only O' fun y hy hm=>by simp only[List.mem_singleton]at hy;subst hy;exact C.b.2 hm⟩,?_,fun j hj=> ?_,C.O.trans O' fun y hy hl=>by simp only[List.mem_singleton]at hy;subst hy;have:=C.b.1;omega,C.g,C.b⟩ O'
 ·have:i=0∨i=1∨i=2:=by omega
  rcases this with e|e|e<;>subst e<;>exact A'
 ·unfold upd
  split
  ·exact hr
  ·exact C.n j hj
def Tail(n35 n36 n46 n47:Int)(T F S N:Prop):Prop:=bcase (n35 !=n46) (bcase (n36==(60:Int)) T F) (bcase (n36 !=n47) (bcase (n36==(60:Int)) T F) (bcase (n36==(60:Int)) (bcase (n36==(60:Int)) T F) (bcase (n36==(0:Int)) S N)))
theorem tail_a{n35 n46 n47:Int}{T F S N:Prop}(hT:T):Tail n35 60 n46 n47 T F S N:=by
 unfold Tail
 rw[show((60:Int)==60)=true from rfl]
 simp only[bcase_true]
 exact bcase_of (fun _=>hT) fun _=>bcase_of (fun _=>hT) fun _=>hT
theorem tail_b{n35 n36 n46:Int}{T F S N:Prop}(h:n36≠60)(hF:F):Tail n35 n36 n46 60 T F S N:=by
 unfold Tail
 rw[show(n36==(60:Int))=false by simpa using h,show(n36 !=(60:Int))=true by simpa using h]
 simp only[bcase_true,bcase_false]
 exact bcase_of (fun _=>hF) fun _=>hF
theorem tail_c{n35 n36:Int}{T F S N:Prop}(h:n36≠60)(hS:n36=0→S)(hN:n36≠0→N):Tail n35 n36 n35 n36 T F S N:=by
 unfold Tail
 rw[show(n36==(60:Int))=false by simpa using h,show(n36 !=n36)=false by simp,show(n35 !=n35)=false by simp]
 simp only[bcase_false]
 exact bcase_of (fun q=>hS (by simpa using q)) fun q=>hN (by simpa using q)
theorem refZ_ne{n op mask:Nat}{ft:Bool}:refZ n op mask ft≠60:=by
 unfold refZ
 repeat' split
 all_goals decide
def erZ(op:Int)(mask:Nat)(ft:Bool):Int:=if takesZ op=0 then 200 else refZ 8 op.toNat mask ft
theorem erZ_ne{op:Int}{mask:Nat}{ft:Bool}:erZ op mask ft≠60:=by
 unfold erZ
 split
 ·decide
 ·exact refZ_ne
theorem f8: ∀l,l<8→fill 8 l<8:=fun l hl=>by rw[fill8 hl];exact hl
theorem run_j{on:Bool}{Q:Int→Int→Prop}{off:Bool}{q mask a b' c:Nat}{op:Int}{T:Value→Heap→Prop}(hm:mask<256)(S:Sto h s L (X8 N Q off))(B:At h q [.int .i64 op,.int .u32 (a:Int),.int .u32 (b':Int),.int .u32 (c:Int),.int .u8 (mask:Int)])(nq:q∉L)(ha:isN N a)(hb:isN N b')(hc:isN N c)
  (hR:erZ op mask (fitB 8 (fill 8) N a)≠0→ ∀h' Q',Sto h' s L (X8 N Q' (!on))→Only L h h'→T (.tuple #[.int .u32 0,.int .i64 (erZ op mask (fitB 8 (fill 8) N a))]) h')
  (hT:erZ op mask (fitB 8 (fill 8) N a)=0→ ∀h' L' N' Q' (r:Nat),Ex N N'→JobR 8 (fill 8) (fill 8) N' op.toNat mask a b' c r→Sto h' s L' (X8 N' Q' (!on))→Only L h h'→Fresh L L' h→T (.tuple #[.int .u32 (r:Int),.int .i64 0]) h')
  (hE: ∀h' L' N' Q',Ex N N'→Sto h' s L' (X8 N' Q' (!on))→Only L h h'→Fresh L L' h→T (.tuple #[.int .u32 0,.int .i64 60]) h'):
  Cl 63 [ptrV s,.bool on] h (fun v h1=>v= .tuple #[]∧ldI .i64 (rd h1 ⟨q,0,none⟩) fun n0=>ldI .u32 (rd h1 ⟨q,1,none⟩) fun n1=>ldI .u32 (rd h1 ⟨q,2,none⟩) fun n2=>ldI .u32 (rd h1 ⟨q,3,none⟩) fun n3=>ldI .u8 (rd h1 ⟨q,4,none⟩) fun n4=>Cl 64 [ptrV s,.agg #[.int .i64 n0,.int .u32 n1,.int .u32 n2,.int .u32 n3,.int .u8 n4]] h1 T):=by
 refine sto_cached (QL 8 (fill 8) N) S fun h1 S1 O1=>⟨rfl,?_⟩
 have S1:Sto h1 s L (XL 8 20000 (fill 8) (fill 8) N (!on)):=S1
 have B1:=B.only O1 nq
 refine ldI_of (by rw[At.rd B1];rfl) (ldI_of (by rw[At.rd B1];rfl) (ldI_of (by rw[At.rd B1];rfl) (ldI_of (by rw[At.rd B1];rfl) (ldI_of (by rw[At.rd B1];rfl) ?_))))
 have Oe: ∀{h2:Heap},Only [] h1 h2→Only L h h2:=fun O2=>O1.trans O2 (by simp)
 have Ob: ∀{h2:Heap},Only L h1 h2→Only L h h2:=fun O2=>O1.trans O2 fun y hy _=>hy
 have Fb: ∀{L2:List Nat},Fresh L L2 h1→Fresh L L2 h:=fun F y hy=>(F y hy).imp id fun z=>by have:=O1.size;omega
 by_cases hz:takesZ op=0
 ·refine run64_none hz fun h2 O2=> ?_
  have e:erZ op mask (fitB 8 (fill 8) N a)=200:=if_pos hz
  have:=hR (by rw[e];decide) h2 (QL 8 (fill 8) N) (S1.only0 O2) (Oe O2)
  rw[e]at this
  exact this
 ·have e:erZ op mask (fitB 8 (fill 8) N a)=refZ 8 op.toNat mask (fitB 8 (fill 8) N a):=if_neg hz
  rw[e]at hR hT
  obtain⟨o,eo,ho⟩:=takesZ_op hz
  subst eo
  rw[Int.toNat_natCast]at hR hT
  exact run64 (ft:=fitB 8 (fill 8) N a) hm S1 ho ha hb hc (perm_fill 8) (fun _=>pairs8) (fun O hQ=>fits179 (S1.only0 O) ha f8 hQ) (fun z h2 O2=>hR z h2 _ (S1.only0 O2) (Oe O2)) (fun z h2 L2 N2 r E J S2 O2 F2=>hT z h2 L2 N2 _ r E J S2 (Ob O2) (Fb F2)) fun h2 L2 N2 E S2 O2 F2=>hE h2 L2 N2 _ E S2 (Ob O2) (Fb F2)
theorem twice{q mask a b' c:Nat}{op:Int}{K:Value→Heap→Prop}{St:Int→Heap→Prop}{Nx:Heap→Prop}(hm:mask<256)(C:Ca h0 h s b L N v)(B:At h q [.int .i64 op,.int .u32 (a:Int),.int .u32 (b':Int),.int .u32 (c:Int),.int .u8 (mask:Int)])(nq:q∉L)(ha:isN N a)(hb:isN N b')(hc:isN N c)
  (hK: ∀h',Only [] h0 h'→K (.bool true) h') (hS: ∀h' L' N' (r:Nat),isN N' r→Ca h0 h' s b L' N' v→St (r:Int) h') (hN: ∀h' L' N',Ca h0 h' s b L' N' v→Nx h'):
  Cl 63 [ptrV s,.bool true] h (fun v h1=>v= .tuple #[]∧ldI .i64 (rd h1 ⟨q,0,none⟩) fun n0=>ldI .u32 (rd h1 ⟨q,1,none⟩) fun n1=>ldI .u32 (rd h1 ⟨q,2,none⟩) fun n2=>ldI .u32 (rd h1 ⟨q,3,none⟩) fun n3=>ldI .u8 (rd h1 ⟨q,4,none⟩) fun n4=>Cl 64 [ptrV s,.agg #[.int .i64 n0,.int .u32 n1,.int .u32 n2,.int .u32 n3,.int .u8 n4]] h1 (fun v33 h34=> ∃n35:Int,∃n36:Int,v33= .tuple #[.int .u32 n35,.int .i64 n36]∧
   Cl 63 [ptrV s,.bool false] h34 (fun v h1=>v= .tuple #[]∧ldI .i64 (rd h1 ⟨q,0,none⟩) fun n0=>ldI .u32 (rd h1 ⟨q,1,none⟩) fun n1=>ldI .u32 (rd h1 ⟨q,2,none⟩) fun n2=>ldI .u32 (rd h1 ⟨q,3,none⟩) fun n3=>ldI .u8 (rd h1 ⟨q,4,none⟩) fun n4=>Cl 64 [ptrV s,.agg #[.int .i64 n0,.int .u32 n1,.int .u32 n2,.int .u32 n3,.int .u8 n4]] h1 (fun v44 h45=> ∃n46:Int,∃n47:Int,v44= .tuple #[.int .u32 n46,.int .i64 n47]∧Tail n35 n36 n46 n47 (K (.bool true) h45) (K (.bool (n47==(60:Int))) h45) (St n35 h45) (Nx h45))))):=by
 obtain⟨Q,off,S⟩:=C.S
 have ok:=S.ok
 dsimp only[X8]at ok
 have z0:=C.O.size
 have full: ∀h',Only [] h0 h'→K (.bool ((60:Int)==60)) h':=fun h' O=>hK h' O
 have nq2: ∀{L2:List Nat} {h2:Heap},Fresh L L2 h→q∉L2:=fun F hm=>by
  rcases F q hm with z|z
  ·exact nq z
  ·have:=B.lt;omega
 refine run_j (on:=true) (Q:=Q) (off:=off) hm S B nq ha hb hc (fun z h2 Q2 S2 O2=>⟨_,_,rfl,?_⟩) (fun z h2 L2 N2 Q2 r E2 J S2 O2 F2=>⟨_,_,rfl,?_⟩) fun h2 L2 N2 Q2 E2 S2 O2 F2=>⟨_,_,rfl,?_⟩
 ·have C2:=C.sto S2 (Ex.refl _) O2 (Fresh.refl _ _)
  refine run_j (on:=false) hm S2 (B.only O2 nq) nq ha hb hc (fun z' h3 Q3 S3 O3=>⟨_,_,rfl,?_⟩) (fun z'=>absurd z' z) fun h3 L3 N3 Q3 E3 S3 O3 F3=>⟨_,_,rfl,?_⟩
  ·exact tail_c erZ_ne (fun e=>absurd e z) fun _=>hN h3 L N (C2.sto S3 (Ex.refl _) O3 (Fresh.refl _ _))
  ·exact tail_b erZ_ne (full h3 (C2.sto S3 E3 O3 F3).O)
 ·have C2:=C.sto S2 E2 O2 F2
  have eF:fitB 8 (fill 8) N2 a=fitB 8 (fill 8) N a:=fitB_ext ok.1 E2 ha
  have ok2:=S2.ok
  dsimp only[X8]at ok2
  refine run_j (on:=false) hm S2 (B.only O2 nq) (nq2 (h2:=h2) F2) (E2.isN ha) (E2.isN hb) (E2.isN hc) (fun z'=>absurd (by rw[eF];exact z) z') (fun z' h3 L3 N3 Q3 r' E3 J' S3 O3 F3=>⟨_,_,rfl,?_⟩) fun h3 L3 N3 Q3 E3 S3 O3 F3=>⟨_,_,rfl,?_⟩
  ·have ok3:=S3.ok
   dsimp only[X8]at ok3
   have J3:=J.ext ok2.1 E3 (fun e8=>by
    have hz: ¬takesZ op=0:=fun w=>by
     have:erZ op mask (fitB 8 (fill 8) N a)=200:=if_pos w
     rw[this]at z
     cases z
    have e:erZ op mask (fitB 8 (fill 8) N a)=refZ 8 op.toNat mask (fitB 8 (fill 8) N a):=if_neg hz
    rw[e,e8]at z
    have z:(if 8≤mask then(40:Int)else 0)=0:=z
    by_cases w:8≤mask
    ·rw[if_pos w]at z;cases z
    ·have:=f8 mask (by omega);omega) (E2.isN ha) (E2.isN hb) (E2.isN hc)
   have er:r=r':=JobR.det ok3.1 (perm_fill 8) (Nat.le_refl _) J3 J'
   subst er
   exact tail_c (by decide) (fun _=>hS h3 L3 N3 r J'.is (C2.sto S3 E3 O3 F3)) fun w=>absurd rfl w
  ·exact tail_b (by decide) (full h3 (C2.sto S3 E3 O3 F3).O)
 ·have C2:=C.sto S2 E2 O2 F2
  refine run_j (on:=false) hm S2 (B.only O2 nq) (nq2 (h2:=h2) F2) (E2.isN ha) (E2.isN hb) (E2.isN hc) (fun z' h3 Q3 S3 O3=>⟨_,_,rfl,?_⟩) (fun z' h3 L3 N3 Q3 r' E3 J' S3 O3 F3=>⟨_,_,rfl,?_⟩) fun h3 L3 N3 Q3 E3 S3 O3 F3=>⟨_,_,rfl,?_⟩
  ·exact tail_a (hK h3 (C2.sto S3 (Ex.refl _) O3 (Fresh.refl _ _)).O)
  ·exact tail_a (hK h3 (C2.sto S3 E3 O3 F3).O)
  ·exact tail_a (hK h3 (C2.sto S3 E3 O3 F3).O)
theorem tm3(k:Nat):Int.tmod (k:Int) 3=((k%3:Nat):Int):=by rw[Int.tmod_eq_emod_of_nonneg (Int.natCast_nonneg _)];omega
set_option maxRecDepth 100000 in
theorem cache_loop{p:Option Addr}{l cc:Nat}{sv:Nat→Nat→Value}(R0:Recs h0 p l 5 sv)(g0: ∀i,i<l→ ∃n,sv i 0= .int .i64 n∧IntKind.min .i64≤n∧n≤IntKind.max .i64)(g1: ∀i,i<l→ ∃n,sv i 1= .int .u32 n∧IntKind.min .u32≤n∧n≤IntKind.max .u32)
  (g2: ∀i,i<l→ ∃n,sv i 2= .int .u32 n∧IntKind.min .u32≤n∧n≤IntKind.max .u32) (g3: ∀i,i<l→ ∃n,sv i 3= .int .u32 n∧IntKind.min .u32≤n∧n≤IntKind.max .u32) (g4: ∀i,i<l→ ∃n,sv i 4= .int .u8 n∧IntKind.min .u8≤n∧n≤IntKind.max .u8) (hl:l≤6):
  ∀(gas i:Nat) {h:Heap} {L:List Nat} {N:List (Option Nd)} {v:Nat→Nat},l-i<gas→i≤l→Ca h0 h s b L N v→F15.wL18 gas p l cc (some ⟨s,0,none⟩) ⟨b,0,none⟩ (i:Int) h (Lawful h0):=by
 intro gas
 induction gas with
 |zero=>intro i h L N v hg;omega
 |succ gas ih=>
  intro i h L N v hg hi C
  rw[F15.sL18]
  by_cases hlt:i<l
  rotate_left
  ·rw[decide_eq_false (by omega),bcase_false]
   obtain⟨Q,off,S⟩:=C.S
   exact once22 S fun h1 O1=>ldB_of rfl ⟨rfl,C.O.trans O1 (by simp)⟩
  rw[decide_eq_true (by omega),bcase_true]
  have R:=R0.only C.O (by simp)
  obtain⟨a,ea,r0⟩:=R i 0 hlt (by omega)
  obtain⟨a1,e1,r1⟩:=R i 1 hlt (by omega)
  obtain⟨a2,e2,r2⟩:=R i 2 hlt (by omega)
  obtain⟨a3,e3,r3⟩:=R i 3 hlt (by omega)
  obtain⟨a4,e4,r4⟩:=R i 4 hlt (by omega)
  rw[ea]at e1 e2 e3 e4
  injection e1 with e1
  injection e2 with e2
  injection e3 with e3
  injection e4 with e4
  subst e1 e2 e3 e4
  obtain⟨op,w0,-⟩:=g0 i hlt
  obtain⟨x1,w1,b1,-⟩:=g1 i hlt
  obtain⟨x2,w2,b2,-⟩:=g2 i hlt
  obtain⟨x3,w3,b3,-⟩:=g3 i hlt
  obtain⟨x4,w4,b4,b5⟩:=g4 i hlt
  have m0:IntKind.min .u32=0:=rfl
  have m8:IntKind.min .u8=0:=rfl
  have M8:IntKind.max .u8=255:=rfl
  obtain⟨na,rfl⟩: ∃n:Nat,x1=(n:Int):=⟨x1.toNat,by omega⟩
  obtain⟨nb,rfl⟩: ∃n:Nat,x2=(n:Int):=⟨x2.toNat,by omega⟩
  obtain⟨nc,rfl⟩: ∃n:Nat,x3=(n:Int):=⟨x3.toNat,by omega⟩
  obtain⟨mask,rfl⟩: ∃n:Nat,x4=(n:Int):=⟨x4.toNat,by omega⟩
  rw[w0]at r0
  rw[w1]at r1
  rw[w2]at r2
  rw[w3]at r3
  rw[w4]at r4
  rw[ea]at ih
  rw[ea,ptrK_some]
  simp only[Int.toNat_natCast,add_add]
  refine⟨by omega,by omega,ldI_of r0 (ldI_of r1 (ldI_of r2 (ldI_of r3 (ldI_of r4 (newK_at fun h1 A1 O1 z1=> ?_)))))⟩
  have ha:=Nat.mod_lt na (show 0<3 by decide)
  have hb:=Nat.mod_lt nb (show 0<3 by decide)
  have hc:=Nat.mod_lt nc (show 0<3 by decide)
  simp only[add_mk,Nat.zero_add]
  refine stK_at A1 (by simp) rfl fun h2 A2 O2 z2=>stK_at A2 (by simp) rfl fun h3 A3 O3 z3=>stK_at A3 (by simp) rfl fun h4 A4 O4 z4=>stK_at A4 (by simp) rfl fun h5 A5 O5 z5=>stK_at A5 (by simp) rfl fun h6 A6 O6 z6=> ?_
  have A6:At h6 h.size [.int .i64 op,.int .u32 (na:Int),.int .u32 (nb:Int),.int .u32 (nc:Int),.int .u8 (mask:Int)]:=A6
  have Oq: ∀{k k':Heap},Only [] h k→Only [h.size] k k'→Only [] h k':=fun O O'=>O.trans O' (by intro y hy hl;simp only[List.mem_singleton]at hy;omega)
  have O16:Only [] h h6:=Oq (Oq (Oq (Oq (Oq O1 O2) O3) O4) O5) O6
  have C6:=C.only O16
  refine ldI_of (n:=(na:Int)) (by rw[At.rd A6];rfl) ?_
  rw[tm3 na]
  simp only[Int.toNat_natCast,Nat.mul_one]
  refine⟨by decide,by omega,by omega,ldI_of (n:=(v (na%3):Int)) (C6.rd ha) (ldI_of (n:=(nb:Int)) (by rw[At.rd A6];rfl) ?_)⟩
  rw[tm3 nb]
  simp only[Int.toNat_natCast,Nat.mul_one]
  refine⟨by decide,by omega,by omega,ldI_of (n:=(v (nb%3):Int)) (C6.rd hb) (ldI_of (n:=(nc:Int)) (by rw[At.rd A6];rfl) ?_)⟩
  rw[tm3 nc]
  simp only[Int.toNat_natCast,Nat.mul_one]
  refine⟨by decide,by omega,by omega,ldI_of (n:=(v (nc%3):Int)) (C6.rd hc) ?_⟩
  refine stK_at A6 (by simp) rfl fun h7 A7 O7 z7=> ?_
  have O17:=Oq O16 O7
  have C7:=C.only O17
  refine⟨by decide,by trivial,by omega,by omega,by trivial,ldI_of (n:=(v (nb%3):Int)) (C7.rd hb) ⟨by trivial,by decide,by trivial,by omega,by omega,by trivial,ldI_of (n:=(v (nc%3):Int)) (C7.rd hc) ⟨by trivial,?_⟩⟩⟩
  refine stK_at A7 (by simp) rfl fun h8 A8 O8 z8=> ?_
  have O18:=Oq O17 O8
  have C8:=C.only O18
  refine⟨by decide,by trivial,by omega,by omega,by trivial,ldI_of (n:=(v (nc%3):Int)) (C8.rd hc) ⟨by trivial,?_⟩⟩
  refine stK_at A8 (by simp) rfl fun h9 A9 O9 z9=> ?_
  have O19:=Oq O18 O9
  have C9:=C.only O19
  have A9:At h9 h.size [.int .i64 op,.int .u32 (v (na%3):Int),.int .u32 (v (nb%3):Int),.int .u32 (v (nc%3):Int),.int .u8 (mask:Int)]:=A9
  have nq:h.size∉L:=fun hm=>by
   obtain⟨Q,off,S⟩:=C.S
   have:=S.lt _ hm;omega
  have ew:IntKind.wrap .i64 ((i:Int)+1)=((i+1:Nat):Int):=by rw[wrap_i64 (by omega) (by omega)];omega
  have hi3:=Nat.mod_lt i (show 0<3 by decide)
  refine twice (K:=Lawful h0) (mask:=mask) (by omega) C9 A9 nq (C.n _ ha) (C.n _ hb) (C.n _ hc) (fun h' O=>⟨rfl,O⟩) (fun h' L' N' r hr C'=> ?_) fun h' L' N' C'=> ?_
  ·refine⟨by decide,?_⟩
   rw[tm3 i]
   refine⟨by omega,by omega,?_⟩
   rw[ew]
   simp only[Int.toNat_natCast,Nat.mul_one]
   exact C'.set hi3 hr fun h2 C2 O2=>ih (i+1) (by omega) (by omega) C2
  ·rw[ew]
   exact ih (i+1) (by omega) (by omega) C'
end
theorem wrd{g:Nat→Nat}{h:Heap}{q i:Nat}(A:At h q (wrow g))(hi:i<4):rd h ⟨q,i,none⟩=some (.int .u64 (g i:Int)):=by
 rw[At.rd A,wrow_eq]
 have:i=0∨i=1∨i=2∨i=3:=by omega
 rcases this with e|e|e|e<;>subst e<;>rfl
set_option maxRecDepth 100000 in
theorem law15(h:Heap)(z0:List Int)(l0:z0.length=4)(q0: ∀y∈z0,IntKind.min .u64≤y∧y≤IntKind.max .u64)(z1:List Int)(l1:z1.length=4)(q1: ∀y∈z1,IntKind.min .u64≤y∧y≤IntKind.max .u64)(z2:List Int)(l2:z2.length=4)(q2: ∀y∈z2,IntKind.min .u64≤y∧y≤IntKind.max .u64)
  (p:Option Addr) (c l:Nat) (sv:Nat→Nat→Value) (R:Recs h p l 5 sv) (_:(l:Int)≤maxLen) (g0: ∀i,i<l→ ∃n,sv i 0= .int .i64 n∧IntKind.min .i64≤n∧n≤IntKind.max .i64) (g1: ∀i,i<l→ ∃n,sv i 1= .int .u32 n∧IntKind.min .u32≤n∧n≤IntKind.max .u32)
  (g2: ∀i,i<l→ ∃n,sv i 2= .int .u32 n∧IntKind.min .u32≤n∧n≤IntKind.max .u32) (g3: ∀i,i<l→ ∃n,sv i 3= .int .u32 n∧IntKind.min .u32≤n∧n≤IntKind.max .u32) (g4: ∀i,i<l→ ∃n,sv i 4= .int .u8 n∧IntKind.min .u8≤n∧n≤IntKind.max .u8):
  Cl 15 [.agg (z0.map (Value.int .u64)).toArray,.agg (z1.map (Value.int .u64)).toArray,.agg (z2.map (Value.int .u64)).toArray,.slice p l c] h (Lawful h):=by
 obtain⟨f0,w0,e0⟩:=arrW l0 q0
 obtain⟨f1,w1,e1⟩:=arrW l1 q1
 obtain⟨f2,w2,e2⟩:=arrW l2 q2
 rw[e0,e1,e2]
 refine F15.spec _ _ _ _ _ _ _ _ _ _ _ _ _ _ _ h _ ?_
 refine newK_at fun h1 A1 O1 z1=>newK_at fun h2 A2 O2 z2=>newK_at fun h3 A3 O3 z3=> ?_
 refine known17 fun h4 O4=>ldB_of rfl ?_
 rw[Bool.not_true,bcase_false]
 have O02:=O1.trans O2 (by simp)
 have O03:=O02.trans O3 (by simp)
 have O04:=O03.trans O4 (by simp)
 refine bcase_of (fun _=>⟨rfl,O04⟩) fun hl=> ?_
 have hl:=of_decide_eq_false hl
 refine sto_new (n:=8) (room:=20000) (Q:=fun _ _=>True) (by omega) (by omega) (by omega) (by omega) fun h5 s L S5 O5 gL=>⟨_,_,rfl,?_⟩
 rw[show((0:Int) !=0)=false from rfl,bcase_false]
 refine newK_at fun h6 A6 O6 z6=> ?_
 have B1:At h6 h.size (wrow f0):=(((((show At h1 h.size (wrow f0)from A1).only O2 (by simp)).only O3 (by simp)).only O4 (by simp)).only O5 (by simp)).only O6 (by simp)
 have B2:At h6 h1.size (wrow f1):=((((show At h2 h1.size (wrow f1)from A2).only O3 (by simp)).only O4 (by simp)).only O5 (by simp)).only O6 (by simp)
 have B3:At h6 h2.size (wrow f2):=(((show At h3 h2.size (wrow f2)from A3).only O4 (by simp)).only O5 (by simp)).only O6 (by simp)
 have O05:=O04.trans O5 (by simp)
 have O06:=O05.trans O6 (by simp)
 have s4:=O04.size
 have s5:=O05.size
 have C6:Ca h h6 s h5.size L [] (fun _=>0):=by
  refine⟨⟨_,_,S5.only0 O6⟩,A6,fun i hi=> .inl (by decide),O06,fun y hy=>by have:=gL y hy;omega,s5,fun hm=> ?_⟩
  have:=S5.lt _ hm;omega
 simp only[add_mk,Nat.zero_add]
 refine ldI_of (wrd B1 (by decide)) (ldI_of (wrd B1 (by decide)) (ldI_of (wrd B1 (by decide)) (ldI_of (wrd B1 (by decide)) ?_)))
 refine ldI_of (wrd B2 (by decide)) (ldI_of (wrd B2 (by decide)) (ldI_of (wrd B2 (by decide)) (ldI_of (wrd B2 (by decide)) ?_)))
 refine ldI_of (wrd B3 (by decide)) (ldI_of (wrd B3 (by decide)) (ldI_of (wrd B3 (by decide)) (ldI_of (wrd B3 (by decide)) ?_)))
 unfold F15.wk10
 have mk: ∀(i:Nat) (g:Nat→Nat) (k:Heap) (L1:List Nat) (N1:List (Option Nd)) (v1:Nat→Nat) (gas:Nat),i<3→WOk g→Ca h k s h5.size L1 N1 v1→clN (lst 8) N1≤128*i→
   (∀j,j<4→([.int .u64 (f0 0:Int),.int .u64 (f0 1:Int),.int .u64 (f0 2:Int),.int .u64 (f0 3:Int),.int .u64 (f1 0:Int),.int .u64 (f1 1:Int),.int .u64 (f1 2:Int),.int .u64 (f1 3:Int),.int .u64 (f2 0:Int),.int .u64 (f2 1:Int),.int .u64 (f2 2:Int),.int .u64 (f2 3:Int)]:List Value)[i*4+j]? =some (.int .u64 (g j:Int)))→
   (∀k2 L2 N2 v2,Ca h k2 s h5.size L2 N2 v2→clN (lst 8) N2≤128*(i+1)→F15.wL10 gas p l c (some ⟨s,0,none⟩) ⟨h5.size,0,none⟩ (f0 0) (f0 1) (f0 2) (f0 3) (f1 0) (f1 1) (f1 2) (f1 3) (f2 0) (f2 1) (f2 2) (f2 3) ((i+1:Nat):Int) k2 (Lawful h))→
   F15.wL10 (gas+1) p l c (some ⟨s,0,none⟩) ⟨h5.size,0,none⟩ (f0 0) (f0 1) (f0 2) (f0 3) (f1 0) (f1 1) (f1 2) (f1 3) (f2 0) (f2 1) (f2 2) (f2 3) (i:Int) k (Lawful h):=by
  intro i g k L1 N1 v1 gas hi hg C hc hw hN
  rw[F15.sL10]
  rw[decide_eq_true (by omega),bcase_true,Int.toNat_natCast]
  have hw0:=hw 0 (by decide)
  rw[Nat.add_zero]at hw0
  refine⟨by omega,by omega,ldI_of hw0 (ldI_of (hw 1 (by decide)) (ldI_of (hw 2 (by decide)) (ldI_of (hw 3 (by decide)) (newK_at fun k1 D1 P1 y1=> ?_))))⟩
  simp only[add_mk,Nat.zero_add,Nat.mul_one]
  refine stK_at D1 (by simp) rfl fun k2 D2 P2 y2=>stK_at D2 (by simp) rfl fun k3 D3 P3 y3=>stK_at D3 (by simp) rfl fun k4 D4 P4 y4=>stK_at D4 (by simp) rfl fun k5 D5 P5 y5=> ?_
  have D5:At k5 k.size (wrow g):=D5
  have Oq: ∀{m m':Heap},Only [] k m→Only [k.size] m m'→Only [] k m':=fun O O'=>O.trans O' (by intro y hy hl;simp only[List.mem_singleton]at hy;omega)
  have P05:Only [] k k5:=Oq (Oq (Oq (Oq P1 P2) P3) P4) P5
  have C5:=C.only P05
  refine ldI_of (wrd D5 (by decide)) (ldI_of (wrd D5 (by decide)) (ldI_of (wrd D5 (by decide)) (ldI_of (wrd D5 (by decide)) ?_)))
  obtain⟨Q,off,S⟩:=C5.S
  have b0:bdn 8 0=128:=by decide
  refine make13 S f8 hg (fun v hv hn=>absurd (show fill 8 v=v from if_pos hv) (hn v hv)) (by show clN (lst 8) N1+bdn 8 0+2≤20000;omega) fun k6 L6 N6 r E6 hr hs hcl S6 P6 F6=>⟨_,_,rfl,?_⟩
  rw[Bool.not_true,bcase_false]
  refine⟨by omega,by omega,?_⟩
  have C6:Ca h k6 s h5.size L6 N6 v1:=C5.sto (Q:=Q) (off:=off) S6 E6 P6 F6
  have ew:IntKind.wrap .i64 ((i:Int)+1)=((i+1:Nat):Int):=by rw[wrap_i64 (by omega) (by omega)];omega
  have hcl:clN (lst 8) N6+1≤clN (lst 8) N1+bdn 8 0:=hcl
  rw[ew]
  exact C6.set hi hr fun k7 C7 P7=>hN k7 L6 N6 _ C7 (by omega)
 refine⟨4,mk 0 f0 h6 L [] _ 3 (by decide) w0 C6 (Nat.le_of_eq rfl) (fun j hj=> ?_) fun k1 L1 N1 v1 C1 b1=>mk 1 f1 k1 L1 N1 v1 2 (by decide) w1 C1 b1 (fun j hj=> ?_) fun k2 L2 N2 v2 C2 b2=>mk 2 f2 k2 L2 N2 v2 1 (by decide) w2 C2 b2 (fun j hj=> ?_) fun k3 L3 N3 v3 C3 b3=> ?_⟩
 ·have:j=0∨j=1∨j=2∨j=3:=by omega
  rcases this with e|e|e|e<;>subst e<;>rfl
 ·have:j=0∨j=1∨j=2∨j=3:=by omega
  rcases this with e|e|e|e<;>subst e<;>rfl
 ·have:j=0∨j=1∨j=2∨j=3:=by omega
  rcases this with e|e|e|e<;>subst e<;>rfl
 ·rw[F15.sL10]
  rw[show decide (((2+1:Nat):Int)<3)=false by decide,bcase_false]
  unfold F15.wk17 F15.wk18
  exact⟨l+1,cache_loop R g0 g1 g2 g3 g4 (by omega) (l+1) 0 (by omega) (Nat.zero_le _) C3⟩
end
end Go.Proofs.YtnofenejoebkhaaGreat.Ev
