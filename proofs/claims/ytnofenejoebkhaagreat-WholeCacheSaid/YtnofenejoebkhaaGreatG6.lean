/- PART 6 OF WHAT THE LAW WholeCache STANDS ON: CntP5, CntF5, CntA5, EngH5, EngJ5, LeF5, EngK5, EngL5, EngN5, EngO5, EngP5, EngQ5, EngR5, EngT5, EngV5, EngW5, EngX5, EngY5, EngZ5, CanA5, LawM5, LawN5, LawO5, LgF5, LawP5, RunA5, RunB5, TskG5, RunC5, RunD5, RunE5, RunF5, RunG5, RunH5, RunI5, RunJ5. Conditions: none but those that each lemma states. -/
import Derived.Test.YtnofenejoebkhaaGreatG5
namespace Go.Proofs.YtnofenejoebkhaaGreat.Ev
open Go
section
def trs(p:Nat→Bool)(k:Nat):List Nat:=(List.range k).filter p
theorem trs_succ(p:Nat→Bool)(k:Nat):trs p (k+1)=trs p k++if p k then [k]else []:=by
 unfold trs
 rw[List.range_succ,List.filter_append]
 cases h:p k<;>simp[h]
def tN(p:Nat→Bool)(k:Nat):Nat:=(trs p k).length
theorem tN_zero(p:Nat→Bool):tN p 0=0:=rfl
theorem tN_succ(p:Nat→Bool)(k:Nat):tN p (k+1)=tN p k+if p k then 1 else 0:=by
 unfold tN
 rw[trs_succ,List.length_append]
 cases p k<;>rfl
theorem tN_congr{p q:Nat→Bool}: ∀{k:Nat},(∀x,x<k→p x=q x)→tN p k=tN q k
 |0,_=>rfl
 |k+1,h=>by rw[tN_succ,tN_succ,tN_congr fun x hx=>h x (by omega),h k (by omega)]
theorem tN_add(p:Nat→Bool)(a:Nat): ∀b,tN p (a+b)=tN p a+tN (fun x=>p (a+x)) b
 |0=>by rw[tN_zero];rfl
 |b+1=>by rw[←Nat.add_assoc,tN_succ,tN_add p a b,tN_succ];omega
theorem tN_le(p:Nat→Bool): ∀k,tN p k≤k
 |0=>Nat.le_refl _
 |k+1=>by
  have:=tN_le p k
  rw[tN_succ]
  split<;>omega
theorem tN_true(k:Nat):tN (fun _=>true) k=k:=by
 induction k with
 |zero=>rfl
 |succ k ih=>rw[tN_succ,ih];rfl
theorem tN_false(k:Nat):tN (fun _=>false) k=0:=by
 induction k with
 |zero=>rfl
 |succ k ih=>rw[tN_succ,ih];rfl
theorem flip_top{n x:Nat}(h:x<2^n):x^^^2^n=2^n+x:=by
 refine Nat.eq_of_testBit_eq fun i=> ?_
 rw[Nat.testBit_xor,Nat.testBit_two_pow]
 rcases Nat.lt_trichotomy i n with h1|h1|h1
 ·rw[Nat.testBit_two_pow_add_gt h1,decide_eq_false (by omega),Bool.xor_false]
 ·subst h1
  rw[Nat.testBit_two_pow_add_eq,decide_eq_true rfl,Bool.xor_true]
 ·have e:2^(n+1)≤2^i:=Nat.pow_le_pow_right (by decide) h1
  rw[Nat.pow_succ]at e
  rw[Nat.testBit_lt_two_pow (show x<2^i by omega),Nat.testBit_lt_two_pow (show 2^n+x<2^i by omega),decide_eq_false (by omega),Bool.xor_false]
theorem half: ∀(n v:Nat) {p q:Nat→Bool},v<n→(∀x,x<2^n→p (x^^^2^v)=p x)→(∀x,x<2^n→q (x^^^2^v)=q x)→
  2*tN (fun x=>if x.testBit v then q x else p x) (2^n)=tN p (2^n)+tN q (2^n)
 |0,v,p,q,hv,_,_=>by omega
 |n+1,v,p,q,hv,hp,hq=>by
  have e:2^(n+1)=2^n+2^n:=by rw[Nat.pow_succ];omega
  rw[e,tN_add,tN_add,tN_add]
  rcases Nat.lt_or_ge v n with h|h
  ·have cm: ∀x,x<2^n→2^n+(x^^^2^v)=(2^n+x)^^^2^v:=fun x hx=>by
    have lt:x^^^2^v<2^n:=Nat.xor_lt_two_pow hx (Nat.pow_lt_pow_right (by decide) h)
    rw[←flip_top lt,←flip_top hx,Nat.xor_assoc,Nat.xor_assoc,Nat.xor_comm (2^v)]
   have i1:=half n v (p:=p) (q:=q) h (fun x hx=>hp x (by omega)) fun x hx=>hq x (by omega)
   have i2:=half n v (p:=fun x=>p (2^n+x)) (q:=fun x=>q (2^n+x)) h (fun x hx=>by show p _=p _;rw[cm x hx,hp _ (by omega)]) fun x hx=>by show q _=q _;rw[cm x hx,hq _ (by omega)]
   have e2:tN (fun x=>if(2^n+x).testBit v then q (2^n+x)else p (2^n+x)) (2^n)=tN (fun x=>if x.testBit v then q (2^n+x)else p (2^n+x)) (2^n):=
    tN_congr fun x _=>by rw[Nat.testBit_two_pow_add_gt h]
   rw[e2]
   omega
  ·have:v=n:=by omega
   subst this
   have p2:tN (fun x=>p (2^v+x)) (2^v)=tN p (2^v):=tN_congr fun x hx=>by rw[←flip_top hx,hp x (by omega)]
   have q2:tN (fun x=>q (2^v+x)) (2^v)=tN q (2^v):=tN_congr fun x hx=>by rw[←flip_top hx,hq x (by omega)]
   have l1:tN (fun x=>if x.testBit v then q x else p x) (2^v)=tN p (2^v):=tN_congr fun x hx=>by rw[Nat.testBit_lt_two_pow hx];rfl
   have l2:tN (fun x=>if(2^v+x).testBit v then q (2^v+x)else p (2^v+x)) (2^v)=tN q (2^v):=tN_congr fun x hx=>by
    rw[Nat.testBit_two_pow_add_eq,Nat.testBit_lt_two_pow hx,←flip_top hx,hq x (by omega)]
    rfl
   rw[p2,q2,l1,l2]
   omega
section
variable {n:Nat}{f:Nat→Nat}{N:List (Option Nd)}
theorem sm_flip(H:NOk n N)(hf: ∀j,j<n→f j=j): ∀(d:Nat) {a v x:Nat},n-lvl n N a≤d→isN N a→v<lvl n N a→sm n f N a (x^^^2^v)=sm n f N a x:=by
 intro d
 induction d with
 |zero=>
  intro a v x hd ha hv
  have h2:a<2:=by
   apply Classical.byContradiction
   intro hn
   have:=(H.at ha (by omega)).1
   omega
  rw[sm_const h2,sm_const h2]
 |succ d ih=>
  intro a v x hd ha hv
  by_cases h2:a<2
  ·rw[sm_const h2,sm_const h2]
  ·obtain⟨h3,h4,h5,-,h6,h7⟩:=H.at ha (by omega)
   rw[sm_node H ha (by omega),sm_node H ha (by omega),ih (by omega) h4 (by omega),ih (by omega) h5 (by omega),hf _ h3,Nat.testBit_xor,Nat.testBit_two_pow,decide_eq_false (by omega),Bool.xor_false]
def tA(n:Nat)(f:Nat→Nat)(N:List (Option Nd))(a:Nat):Nat:=tN (sm n f N a) (2^n)
def cA(n:Nat)(f:Nat→Nat)(N:List (Option Nd))(a:Nat):Nat:=tA n f N a/2^lvl n N a
theorem tA_half(H:NOk n N)(hf: ∀j,j<n→f j=j){a:Nat}(ha:isN N a)(h2:2≤a):2*tA n f N a=tA n f N (low N a)+tA n f N (high N a):=by
 obtain⟨h3,h4,h5,-,h6,h7⟩:=H.at ha h2
 unfold tA
 rw[←half n (lvl n N a) h3 (fun x _=>sm_flip H hf n (by omega) h4 h6) fun x _=>sm_flip H hf n (by omega) h5 h7]
 congr 1
 refine tN_congr fun x _=> ?_
 rw[sm_node H ha h2,hf _ h3]
theorem tA_const{a:Nat}(h:a<2):tA n f N a=a*2^n:=by
 unfold tA
 have:a=0∨a=1:=by omega
 rcases this with e|e<;>subst e
 ·rw[tN_congr fun x _=>sm_const h]
  rw[show(fun _:Nat=>((0:Nat)==1))=fun _=>false from rfl,tN_false]
  omega
 ·rw[tN_congr fun x _=>sm_const h]
  rw[show(fun _:Nat=>((1:Nat)==1))=fun _=>true from rfl,tN_true]
  omega
theorem tA_cA(H:NOk n N)(hf: ∀j,j<n→f j=j): ∀(d:Nat) {a:Nat},n-lvl n N a≤d→isN N a→tA n f N a=cA n f N a*2^lvl n N a:=by
 intro d
 have base: ∀{a:Nat},a<2→tA n f N a=cA n f N a*2^lvl n N a:=fun {a} h=>by
  have e:lvl n N a=n:=by unfold lvl;rw[if_pos h]
  unfold cA
  rw[tA_const h,e,Nat.mul_div_cancel _ (Nat.two_pow_pos n)]
 induction d with
 |zero=>
  intro a hd ha
  refine base ?_
  apply Classical.byContradiction
  intro hn
  have:=(H.at ha (by omega)).1
  omega
 |succ d ih=>
  intro a hd ha
  by_cases h2:a<2
  ·exact base h2
  ·obtain⟨h3,h4,h5,-,h6,h7⟩:=H.at ha (by omega)
   have e:=tA_half H hf ha (by omega)
   rw[ih (by omega) h4,ih (by omega) h5]at e
   obtain⟨u,hu⟩: ∃u,lvl n N (low N a)=lvl n N a+1+u:=⟨lvl n N (low N a)-lvl n N a-1,by omega⟩
   obtain⟨w,hw⟩: ∃w,lvl n N (high N a)=lvl n N a+1+w:=⟨lvl n N (high N a)-lvl n N a-1,by omega⟩
   rw[hu,hw,Nat.pow_add _ _ u,Nat.pow_add _ _ w,Nat.pow_succ]at e
   have:tA n f N a=(cA n f N (low N a)*2^u+cA n f N (high N a)*2^w)*2^lvl n N a:=by
    generalize cA n f N (low N a)=p at e ⊢
    generalize cA n f N (high N a)=q at e ⊢
    generalize 2^u=r at e ⊢
    generalize 2^w=s at e ⊢
    generalize 2^lvl n N a=t at e ⊢
    generalize tA n f N a=z at e ⊢
    have:p*(t*2*r)+q*(t*2*s)=2*((p*r+q*s)*t):=by
     rw[Nat.add_mul,Nat.mul_add]
     congr 1
     ·rw[show t*2*r=2*(r*t) by rw[Nat.mul_comm t 2,Nat.mul_assoc,Nat.mul_comm t r],Nat.mul_left_comm,Nat.mul_assoc]
     ·rw[show t*2*s=2*(s*t) by rw[Nat.mul_comm t 2,Nat.mul_assoc,Nat.mul_comm t s],Nat.mul_left_comm,Nat.mul_assoc]
    omega
   unfold cA
   rw[Nat.div_mul_cancel]
   exact⟨_,by rw[this,Nat.mul_comm]⟩
theorem cA_const{a:Nat}(h:a<2):cA n f N a=a:=by
 have e:lvl n N a=n:=by unfold lvl;rw[if_pos h]
 unfold cA
 rw[tA_const h,e,Nat.mul_div_cancel _ (Nat.two_pow_pos n)]
theorem cA_node(H:NOk n N)(hf: ∀j,j<n→f j=j){a:Nat}(ha:isN N a)(h2:2≤a):
  cA n f N a=cA n f N (low N a)*2^(lvl n N (low N a)-lvl n N a-1)+cA n f N (high N a)*2^(lvl n N (high N a)-lvl n N a-1):=by
 obtain⟨h3,h4,h5,-,h6,h7⟩:=H.at ha h2
 have e:=tA_half H hf ha h2
 have t0:=tA_cA H hf n (by omega) ha
 rw[tA_cA H hf n (by omega) h4,tA_cA H hf n (by omega) h5,t0]at e
 obtain⟨u,hu⟩: ∃u,lvl n N (low N a)=lvl n N a+1+u:=⟨lvl n N (low N a)-lvl n N a-1,by omega⟩
 obtain⟨w,hw⟩: ∃w,lvl n N (high N a)=lvl n N a+1+w:=⟨lvl n N (high N a)-lvl n N a-1,by omega⟩
 rw[hu,hw]at e ⊢
 rw[show lvl n N a+1+u-lvl n N a-1=u by omega,show lvl n N a+1+w-lvl n N a-1=w by omega]
 rw[Nat.pow_add _ _ u,Nat.pow_add _ _ w,Nat.pow_succ]at e
 have hpos:=Nat.two_pow_pos (lvl n N a)
 generalize cA n f N (low N a)=p at e ⊢
 generalize cA n f N (high N a)=q at e ⊢
 generalize 2^u=r at e ⊢
 generalize 2^w=s at e ⊢
 generalize 2^lvl n N a=t at e hpos
 generalize cA n f N a=z at e ⊢
 have:p*(t*2*r)+q*(t*2*s)=2*((p*r+q*s)*t):=by
  rw[Nat.add_mul,Nat.mul_add]
  congr 1
  ·rw[show t*2*r=2*(r*t) by rw[Nat.mul_comm t 2,Nat.mul_assoc,Nat.mul_comm t r],Nat.mul_left_comm,Nat.mul_assoc]
  ·rw[show t*2*s=2*(s*t) by rw[Nat.mul_comm t 2,Nat.mul_assoc,Nat.mul_comm t s],Nat.mul_left_comm,Nat.mul_assoc]
 exact Nat.eq_of_mul_eq_mul_right hpos (by omega)
theorem cA_pow(H:NOk n N)(hf: ∀j,j<n→f j=j){a:Nat}(ha:isN N a){k:Nat}(hk:k≤lvl n N a):cA n f N a*2^k≤2^n:=
 Nat.le_trans (Nat.mul_le_mul_left _ (Nat.pow_le_pow_right (by decide) hk)) (by rw[←tA_cA H hf n (by omega) ha];exact tN_le _ _)
end
end
section
theorem F211.spec(a:Addr)(b:Int)(h:Heap)(K:KK)(H:Cl 74 [.pointer (some a),.int .u32 b] h fun v1 h2=>ldB (some v1) fun b3=>bcase (!b3) (K (.tuple #[.int .u64 0,.int .i64 101]) h2) (newK h2 (.map #[] 0) fun b4 h5=>newK h5 (.cells #[.pointer none,.map none] 326) fun b6 h7=>stK h7 ((Addr.mk b6 0 none).add 0) (.pointer (some a)) fun h8=>stK h8 ((Addr.mk b6 0 none).add 1) (.map (some b4)) fun h9=>ldP (rd h9 ((Addr.mk b6 0 none).add 0)) fun p10=>ldM (rd h9 ((Addr.mk b6 0 none).add 1)) fun r11=>Cl 253 [.agg #[.pointer p10,.map r11],.int .u32 b] h9 fun v12 h13=>ldI .u64 (some v12) fun n14=>Cl 71 [.pointer (some a),.int .u32 b] h13 fun v15 h16=>ldI .i64 (some v15) fun n17=>0≤n17∧K (.tuple #[.int .u64 (IntKind.wrap .u64 (n14*2^(min (Int.toNat n17) (IntKind.bits .u64)))),.int .i64 0]) h16)):Cl 211 [.pointer (some a),.int .u32 b] h K:=cN Tryz.func211 H
def F253.T:Hint:=⟨[(8,[1,2,7,31,32]),(12,[1,2,7])],[(7,[[(0,[]),(1,[]),(2,[]),(4,[]),(5,[]),(6,[]),(9,[]),(3,[4,5,6,9]),(7,[9]),(8,[])]]),(10,[[(0,[]),(1,[]),(2,[]),(4,[]),(5,[]),(6,[]),(8,[]),(9,[]),(10,[]),(3,[0,4,5,6,8,9,10]),(7,[0,8,9,10]),(11,[0]),(12,[]),(13,[]),(14,[]),(15,[]),(16,[])]])]⟩
section
variable (n:Nat)(i:Option Addr)(j:Option Nat)(c:Int)(d:Addr)(g a b f:Int)(h:Heap)(K:KK)
def F253.JL8(bk8:Int→Addr→Int→Int→Int→Int→Heap→Prop)(k12:Int→Addr→Int→Heap→Prop)(c:Int)(d:Addr)(g a b f:Int)(h:Heap)(_K:KK):Prop:=bcase (decide (f<(2:Int))) ((0≤f∧f<(Nat.cast 2:Int)∧ldI .u32 ([.int .u32 a,.int .u32 b]:List Value)[Int.toNat f]? (fun n1=>ldP (rd h (d.add 0)) fun p2=>ldM (rd h (d.add 1)) fun r3=>ldP (rd h (d.add 0)) fun p4=>ldP (rd h (d.add 0)) fun p5=>Cl 253 [.agg #[.pointer p2,.map r3],.int .u32 n1] h fun v6 h7=>ldI .u64 (some v6) fun n8=>((.int .u64 g)=((.int .u64 g):Value)∧((.pointer (some (d.add 0)))=((.pointer (some (d.add 0))):Value)∧ldP (rd h7 (d.add 0)) fun p9=>((.pointer p9)=((.pointer p4):Value)∧((.int .u32 n1)=((.int .u32 n1):Value)∧((.pointer (some (d.add 0)))=((.pointer (some (d.add 0))):Value)∧ldP (rd h7 (d.add 0)) fun p10=>((.pointer p10)=((.pointer p5):Value)∧((.int .u32 c)=((.int .u32 c):Value)∧Cl 71 [.pointer p4,.int .u32 n1] h7 fun v11 h12=>ldI .i64 (some v11) fun n13=>((.int .u64 g)=((.int .u64 g):Value)∧((.pointer (some (d.add 0)))=((.pointer (some (d.add 0))):Value)∧ldP (rd h12 (d.add 0)) fun p14=>((.pointer p14)=((.pointer p5):Value)∧((.int .u32 c)=((.int .u32 c):Value)∧Cl 71 [.pointer p5,.int .u32 c] h12 fun v15 h16=>ldI .i64 (some v15) fun n17=>((.int .u64 g)=((.int .u64 g):Value)∧(0≤(IntKind.wrap .i64 ((IntKind.wrap .i64 (n13-n17))-(1:Int)))∧bk8 c d (IntKind.wrap .u64 (g+(IntKind.wrap .u64 (n8*2^(min (Int.toNat (IntKind.wrap .i64 ((IntKind.wrap .i64 (n13-n17))-(1:Int)))) (IntKind.bits .u64)))))) a b (IntKind.wrap .i64 (f+(1:Int))) h16)))))))))))))))) (k12 c d g h)
def F253.wk12:Prop:=ldM (rd h (d.add 1)) fun r1=>updK h r1 .u32 .u32 c (.int .u64 g) fun h2=>K (.int .u64 g) h2
def F253.wL8:Prop:=Lp Tryz.f253 F253.T [1,1,1,1,0,1,0] n [(1,(.int .u32 c)),(2,(.pointer (some d))),(7,(.int .u64 g)),(31,(.agg #[.int .u32 a,.int .u32 b])),(32,(.int .i64 f))] h K
theorem F253.sL8:F253.wL8 (n+1) c d g a b f h K=(F253.JL8 (fun c d g a b f h=>F253.wL8 n c d g a b f h K) (fun c d g h=>F253.wk12 c d g h K) c d g a b f h K):=by kernel_rfl
def F253.wk8:Prop:=(∃m,F253.wL8 m c d g a b f h K)
theorem F253.spec(H:newK h (.cells #[.pointer i,.map j] 326) fun b1 h2=>bcase (decide (c≤(1:Int))) (K (.int .u64 (IntKind.wrap .u64 c)) h2) (ldM (rd h2 ((Addr.mk b1 0 none).add 1)) fun r3=>lookK h2 r3 .u32 .u32 c fun o4=>ldI .u64 (some (lkV (.int .u64 0) o4)) fun n5=>bcase (Option.isSome o4) (K (.int .u64 n5) h2) (ldP (rd h2 ((Addr.mk b1 0 none).add 0)) fun p6=>ldP (rd h2 ((Addr.mk b1 0 none).add 0)) fun p7=>Cl 72 [.pointer p6,.int .u32 c] h2 fun v8 h9=>ldI .u32 (some v8) fun n10=>((.pointer (some ((Addr.mk b1 0 none).add 0)))=((.pointer (some ((Addr.mk b1 0 none).add 0))):Value)∧ldP (rd h9 ((Addr.mk b1 0 none).add 0)) fun p11=>((.pointer p11)=((.pointer p7):Value)∧((.int .u32 c)=((.int .u32 c):Value)∧((.int .i64 0)=((.int .i64 0):Value)∧Cl 73 [.pointer p7,.int .u32 c] h9 fun v12 h13=>ldI .u32 (some v12) fun n14=>((.int .i64 0)=((.int .i64 0):Value)∧F253.wk8 c (Addr.mk b1 0 none) (0:Int) n10 n14 (0:Int) h13 K)))))))):Cl 253 [.agg #[.pointer i,.map j],.int .u32 c] h K:=cT F253.T Tryz.func253 H
end
end
section
section
variable {h:Heap}{s:Nat}{L:List Nat}{X:SX}
theorem ldM_of{x:Option Value}{K:Option Nat→Prop}{n:Option Nat}(hx:x=some (.map n))(hK:K n):ldM x K:=⟨n,hx,hK⟩
def Kept(X:SX)(m:List (Int×Value)):Prop:= ∀a v,m.lookup ((a:Nat):Int)=some v→v= .int .u64 (cA X.n X.f X.N a:Int)
theorem pow_u{n:Nat}(h:n≤8):2^n≤256:=Nat.le_trans (Nat.pow_le_pow_right (by decide) h) (by decide)
theorem shl_u64{x k:Nat}(hk:k≤64)(hx:x*2^k<U64):IntKind.wrap .u64 ((x:Int)*2^(min (Int.toNat ((k:Nat):Int)) (IntKind.bits .u64)))=((x*2^k:Nat):Int):=by
 have e:min (Int.toNat ((k:Nat):Int)) (IntKind.bits .u64)=k:=by
  rw[Int.toNat_natCast]
  show min k 64=k
  omega
 rw[e,show(x:Int)*2^k=((x*2^k:Nat):Int) by simp,wrapU hx]
set_option maxRecDepth 100000 in
theorem of45(hf: ∀j,j<X.n→X.f j=j){mb:Nat}(hm:mb∉L): ∀(d:Nat) {h:Heap} {a:Nat} {m:List (Int×Value)} {K:Value→Heap→Prop},X.n-lvl X.n X.N a≤d→Sto h s L X→isN X.N a→MapM h mb .u32 m→Kept X m→
  (∀h' m',MapM h' mb .u32 m'→Kept X m'→Only [mb] h h'→K (.int .u64 (cA X.n X.f X.N a:Int)) h')→
  Cl 253 [.agg #[.pointer (some ⟨s,0,none⟩),.map (some mb)],.int .u32 (a:Int)] h K:=by
 intro d
 have const: ∀{h:Heap} {a:Nat} {m:List (Int×Value)} {K:Value→Heap→Prop},a<2→MapM h mb .u32 m→Kept X m→
   (∀h' m',MapM h' mb .u32 m'→Kept X m'→Only [mb] h h'→K (.int .u64 (cA X.n X.f X.N a:Int)) h')→
   Cl 253 [.agg #[.pointer (some ⟨s,0,none⟩),.map (some mb)],.int .u32 (a:Int)] h K:=by
  intro h a m K h2 M hk hK
  refine F253.spec _ _ _ h K ?_
  refine newK_at fun h1 A1 O1 z1=> ?_
  rw[decide_eq_true (by omega),bcase_true,wrapU (by unfold U64;omega)]
  have:=hK h1 m (M.only O1 (by simp)) hk (O1.mono (by simp))
  rw[cA_const h2]at this
  exact this
 induction d with
 |zero=>
  intro h a m K hd H ha M hk hK
  refine const ?_ M hk hK
  apply Classical.byContradiction
  intro hn
  have:=(H.ok.1.at ha (by omega)).1
  omega
 |succ d ih=>
  intro h a m K hd H ha M hk hK
  by_cases h2:a<2
  ·exact const h2 M hk hK
  have ok:=H.ok
  obtain⟨h3,h4,h5,-,h6,h7⟩:=ok.1.at ha (by omega)
  have l4:=lvl_le ok.1 h4
  have l5:=lvl_le ok.1 h5
  have hp:=pow_u ok.2.2.1
  refine F253.spec _ _ _ h K ?_
  refine newK_at fun h1 A1 O1 z1=> ?_
  rw[decide_eq_false (by omega),bcase_false]
  have lt:=M.lt
  have M1:=M.only O1 (by simp)
  have H1:=H.only0 O1
  simp only[add_mk,Nat.zero_add]
  refine ldM_of (n:=some mb) (by rw[At.rd A1];rfl) (look_map M1 (fun hn=> ?_) fun i v hv=> ?_)
  ·refine ldI_of rfl ?_
   rw[show Option.isSome (none:Option (Nat×Value))=false from rfl,bcase_false]
   have rp:rd h1 ⟨h.size,0,none⟩=some (.pointer (some ⟨s,0,none⟩)):=by rw[At.rd A1];rfl
   refine ldP_of rp (ldP_of rp (sto_low H1 ha (ldI_of rfl ⟨by trivial,ldP_of rp ⟨by trivial,by trivial,by trivial,sto_high H1 ha (ldI_of rfl ⟨by trivial,?_⟩)⟩⟩)))
   unfold F253.wk8
   have last: ∀(h':Heap) (m':List (Int×Value)),At h' h.size [.pointer (some ⟨s,0,none⟩),.map (some mb)]→MapM h' mb .u32 m'→Kept X m'→Only [mb] h h'→
     F253.wk12 (a:Int) ⟨h.size,0,none⟩ (cA X.n X.f X.N a:Int) h' K:=by
    intro h' m' A M' hk' O
    unfold F253.wk12
    rw[add_mk,Nat.zero_add]
    refine ldM_of (n:=some mb) (by rw[At.rd A];rfl) (upd_map M' fun h'' M'' O'' z''=>hK h'' _ M'' (fun b v hb=> ?_) (O.trans O'' (by simp)))
    rw[lookup_mset]at hb
    by_cases e:(b:Int)=(a:Int)
    ·have:b=a:=by omega
     subst this
     rw[if_pos rfl]at hb
     injection hb with hb
     exact hb.symm
    ·rw[if_neg e]at hb
     exact hk' b v hb
   have step: ∀(bk:Int→Addr→Int→Int→Int→Int→Heap→Prop) (k12:Int→Addr→Int→Heap→Prop) (h':Heap) (m':List (Int×Value)) (i c t:Nat),i<2→(if i=0 then low X.N a else high X.N a)=c→isN X.N c→lvl X.n X.N a<lvl X.n X.N c→t≤256→At h' h.size [.pointer (some ⟨s,0,none⟩),.map (some mb)]→MapM h' mb .u32 m'→Kept X m'→Only [mb] h h'→
     (∀h'' m'',At h'' h.size [.pointer (some ⟨s,0,none⟩),.map (some mb)]→MapM h'' mb .u32 m''→Kept X m''→Only [mb] h h''→bk (a:Int) ⟨h.size,0,none⟩ ((t+cA X.n X.f X.N c*2^(lvl X.n X.N c-lvl X.n X.N a-1):Nat):Int) (low X.N a:Int) (high X.N a:Int) ((i+1:Nat):Int) h'')→
     F253.JL8 bk k12 (a:Int) ⟨h.size,0,none⟩ (t:Int) (low X.N a:Int) (high X.N a:Int) (i:Int) h' K:=by
    intro bk k12 h' m' i c t hi hc hcN hcl ht A M' hk' O hB
    have lc:=lvl_le ok.1 hcN
    unfold F253.JL8
    rw[decide_eq_true (by omega),bcase_true]
    refine⟨by omega,by omega,ldI_of (n:=(c:Int)) ?_ ?_⟩
    ·rw[Int.toNat_natCast]
     subst hc
     have:i=0∨i=1:=by omega
     rcases this with e|e<;>subst e<;>rfl
    ·rw[add_mk,Nat.zero_add,add_mk,Nat.zero_add]
     have rp: ∀{h':Heap},At h' h.size [.pointer (some ⟨s,0,none⟩),.map (some mb)]→rd h' ⟨h.size,0,none⟩=some (.pointer (some ⟨s,0,none⟩)):=fun A=>by rw[At.rd A];rfl
     refine ldP_of (rp A) (ldM_of (n:=some mb) (by rw[At.rd A];rfl) (ldP_of (rp A) (ldP_of (rp A) ?_)))
     have S':=H.only O fun b hb hl=>by simp at hb;subst hb;exact hm hl
     refine ih (by omega) S' hcN M' hk' fun h2 m2 M2 k2 O2=>ldI_of rfl ⟨by trivial,by trivial,?_⟩
     have A2:=A.only O2 (by simp;omega)
     have S2:=S'.only O2 fun b hb hl=>by simp at hb;subst hb;exact hm hl
     refine ldP_of (rp A2) ⟨by trivial,by trivial,by trivial,ldP_of (rp A2) ⟨by trivial,by trivial,sto_level S2 hcN (ldI_of rfl ⟨by trivial,by trivial,ldP_of (rp A2) ⟨by trivial,by trivial,sto_level S2 ha (ldI_of rfl ⟨by trivial,?_⟩)⟩⟩)⟩⟩
     have e1:IntKind.wrap .i64 (IntKind.wrap .i64 ((lvl X.n X.N c:Int)-(lvl X.n X.N a:Int))-1)=((lvl X.n X.N c-lvl X.n X.N a-1:Nat):Int):=by
      rw[wrap_i64 (n:=(lvl X.n X.N c:Int)-(lvl X.n X.N a:Int)) (by omega) (by omega),wrap_i64 (by omega) (by omega)]
      omega
     have hb:=cA_pow ok.1 hf hcN (k:=lvl X.n X.N c-lvl X.n X.N a-1) (by omega)
     have ew:IntKind.wrap .i64 ((i:Int)+1)=((i+1:Nat):Int):=by rw[wrap_i64 (by omega) (by omega)];omega
     rw[e1,shl_u64 (by omega) (by unfold U64;omega),ew]
     generalize cA X.n X.f X.N c*2^(lvl X.n X.N c-lvl X.n X.N a-1)=z at hb hB ⊢
     rw[show(t:Int)+(z:Int)=((t+z:Nat):Int) by omega,wrapU (by unfold U64;omega)]
     exact⟨by omega,hB h2 m2 A2 M2 k2 (O.trans O2 (by simp))⟩
   have hb0:=cA_pow ok.1 hf h4 (k:=lvl X.n X.N (low X.N a)-lvl X.n X.N a-1) (by omega)
   refine⟨3,?_⟩
   rw[F253.sL8]
   refine step _ _ h1 m 0 (low X.N a) 0 (by omega) rfl h4 h6 (by omega) A1 M1 hk (O1.mono (by simp)) fun h2 m2 A2 M2 k2 O2=> ?_
   rw[F253.sL8]
   refine step _ _ h2 m2 1 (high X.N a) _ (by omega) rfl h5 h7 (by omega) A2 M2 k2 O2 fun h3 m3 A3 M3 k3 O3=> ?_
   rw[F253.sL8];unfold F253.JL8
   rw[decide_eq_false (by omega),bcase_false,Nat.zero_add,←cA_node ok.1 hf ha (by omega)]
   exact last h3 m3 A3 M3 k3 O3
  ·have e:=hk a v hv
   subst e
   refine ldI_of rfl ?_
   rw[show Option.isSome (some (i,(Value.int .u64 (cA X.n X.f X.N a:Int))))=true from rfl,bcase_true]
   exact hK h1 m M1 hk (O1.mono (by simp))
theorem count23(hf: ∀j,j<X.n→X.f j=j){a:Nat}{K:Value→Heap→Prop}(H:Sto h s L X)(ha:isN X.N a)(hK: ∀h',Only [] h h'→K (.tuple #[.int .u64 (tA X.n X.f X.N a:Int),.int .i64 0]) h'):
  Cl 211 [.pointer (some ⟨s,0,none⟩),.int .u32 (a:Int)] h K:=by
 have ok:=H.ok
 have hp:=pow_u ok.2.2.1
 have lc:=lvl_le ok.1 ha
 refine F211.spec _ _ h K ?_
 refine sto_is1 H ha (ldB_of rfl ?_)
 rw[Bool.not_true,bcase_false]
 refine newK_map4 (k:= .u32) fun h1 M1 O1 z1=>newK_at fun h2 A2 O2 z2=> ?_
 refine stK_at A2 (by simp) rfl fun h3 A3 O3 z3=>stK_at A3 (by simp) rfl fun h4 A4 O4 z4=> ?_
 have n1:h.size∉[h1.size]:=by simp;omega
 have M4:=((M1.only O2 (by simp)).only O3 n1).only O4 n1
 have O04:Only [] h h4:=((O1.trans O2 (by simp)).trans O3 (by intro b hb hl;simp at hb;omega)).trans O4 (by intro b hb hl;simp at hb;omega)
 have S4:=H.only0 O04
 simp only[add_mk,Nat.zero_add]
 refine ldP_of (n:=some ⟨s,0,none⟩) (by rw[At.rd A4];rfl) (ldM_of (n:=some h.size) (by rw[At.rd A4];rfl) ?_)
 have hm:h.size∉L:=fun hm=>Nat.lt_irrefl _ (H.lt _ hm)
 refine of45 hf hm X.n (by omega) S4 ha M4 (fun b v hb=>by cases hb) fun h5 m5 M5 k5 O5=>ldI_of rfl ?_
 have O05:=O04.trans O5 (by intro b hb hl;simp at hb;omega)
 refine sto_level (H.only0 O05) ha (ldI_of rfl ⟨by omega,?_⟩)
 have hb:=tN_le (sm X.n X.f X.N a) (2^X.n)
 have e:=tA_cA ok.1 hf X.n (by omega) ha
 rw[shl_u64 (by omega) (by rw[←e];unfold U64 tA;omega),←e]
 exact hK h5 O05
end
end
section
structure Coll(G G':EG):Prop where
 E:G'.E=G.E
 n:G'.n=G.n
 room:G'.room=G.room
 fo:G'.fo=G.fo
 gg:G'.gg=G.gg
 off:G'.off=G.off
 P:G'.P=G.P
 f:G'.f=G.f
 ex:Ex G'.N G.N
 cnt:cntN G'.N≤cntN G.N
 M:G.M≤G'.M∧G'.M≤G.M+1000
 ok:NOk G'.n G'.N
 rg: ∀i,i<4→ ∀r,r<6→(G.E.ses i).there r=true→isN G'.N ((G.E.ses i).hnd r)
theorem Coll.refl{h:Heap}{e:Nat}{G:EG}(W:EWd h e G):Coll G G:=⟨rfl,rfl,rfl,rfl,rfl,rfl,rfl,rfl,Ex.refl _,Nat.le_refl _,⟨Nat.le_refl _,by omega⟩,W.W.S.ok.1,W.rg⟩
def MRspec(C:Nat→Nat→Prop):Prop:= ∀{h:Heap} {e:Nat} {G:EG} {K:Value→Heap→Prop},EWd h e G→C (cntN G.N) G.room→G.M≤LB/1000→
 (∀h' G',EWd h' e G'→Coll G G'→Eside e G h G' h'→K (.tuple #[]) h')→Cl 80 [ptrV e] h K
section
variable {h h':Heap}{e:Nat}{G G':EG}{K:Value→Heap→Prop}
theorem mr_less:MRspec fun c r=>c<r:=by
 intro h e G K W hc hM hK
 refine F80.spec _ h K ?_
 have rs:rd h ⟨e,0,none⟩=some (.pointer (some ⟨G.E.s,0,none⟩)):=W.I.s
 simp only[add_mk,Nat.zero_add]
 refine ldP_of rs (ldP_of rs (sto_len W.W.S (ldI_of rfl ⟨trivial,trivial,trivial,ldP_of rs ⟨rfl,sto_room W.W.S (ldI_of rfl ?_)⟩⟩)))
 have hc:cntN (XL G.n G.room G.fo G.gg G.N G.off).N<(XL G.n G.room G.fo G.gg G.N G.off).room:=hc
 rw[decide_eq_false (by omega),bcase_false]
 exact hK h G W (Coll.refl W) Eside.refl
def stoG(G:EG)(N':List (Option Nd))(L':List Nat):EG:={G with N:=N',L:=L'}
theorem EWd.sto{N':List (Option Nd)}{L':List Nat}(W:EWd h e G)(S:Sto h' G.E.s L' {XL G.n G.room G.fo G.gg G.N G.off with N:=N'})(E:Ex G.N N')(O:Only G.L h h')(F:Fresh G.L L' h):
  EWd h' e (stoG G N' L')∧Eside e G h (stoG G N' L') h':=by
 have ok:=W.W.S.ok.1
 have lt:=W.lt
 have DP: ∀b,PBl G.E.p G.P b→b∉L':=fun b hb hm=>by
  rcases F b hm with q|q
  ·exact W.W.D b hb q
  ·have:=lt b (mem_ebl.2 (.inr (.inr (.inr hb))));omega
 refine⟨⟨⟨sto_XL S ok E,W.W.H.only O fun b hb hp=>W.W.D b hp hb,(W.W.Ok.ext W.W.GO ok E).1,goals_ext W.W.GO E,DP⟩,W.R.only O (fun b hb hm=>(W.dB b hm).1 hb),W.I.only O W.de.1,W.C,⟨fun hm=> ?_,W.de.2.1,W.de.2.2⟩,fun b hb=>⟨fun hm=> ?_,(W.dB b hb).2⟩,fun i hi r hr ht=>E.isN (W.rg i hi r hr ht),W.r0,W.mq,W.po⟩,⟨fun T hT=>O.mono fun b hb _=>hT b (mem_ebl.2 (.inr (.inl hb))),fun b hb=> ?_⟩⟩
 ·rcases F e hm with q|q
  ·exact W.de.1 q
  ·have:=lt e (mem_ebl.2 (.inl rfl));omega
 ·rcases F b hm with q|q
  ·exact(W.dB b hb).1 q
  ·have:=lt b (mem_ebl.2 (.inr (.inr (.inl hb))));omega
 ·rcases mem_ebl.1 hb with q|q|q|q
  ·exact .inl (mem_ebl.2 (.inl q))
  ·rcases F b q with q|q
   ·exact .inl (mem_ebl.2 (.inr (.inl q)))
   ·exact .inr q
  ·exact .inl (mem_ebl.2 (.inr (.inr (.inl q))))
  ·exact .inl (mem_ebl.2 (.inr (.inr (.inr q))))
theorem mk_ex{room:Nat}{N N':List (Option Nd)}{l a b r er:Nat}(R:MkRel room N l a b N' r er):Ex N N'∧(er=0∨er=60)∧(er=60→room≤cntN N∧N'=N):=by
 rcases R with⟨-,-,e,e2⟩|⟨-,i,-,-,e,e2⟩|⟨-,-,h1,-,e,e2⟩|⟨-,-,-,e,q,-,p⟩
 ·subst e2;exact⟨Ex.refl _,.inl e,fun h=>by omega⟩
 ·subst e2;exact⟨Ex.refl _,.inl e,fun h=>by omega⟩
 ·subst e2;exact⟨Ex.refl _,.inr e,fun _=>⟨h1,rfl⟩⟩
 ·exact⟨p.ext,.inl e,fun h=>by omega⟩
end
end
section
def stepN(k:Int):Nat:=if k=1∨k=2∨k=6 then 123 else if k=4∨k=5 then 124 else if k=7 then 125 else if k=8 then 126 else 127
def sesP(e i:Nat):Value:= .pointer (some ⟨e,3+24*i,none⟩)
theorem go123:xget X 123=some Ext.go:=by kernel_rfl
theorem go124:xget X 124=some Ext.go:=by kernel_rfl
theorem go125:xget X 125=some Ext.go:=by kernel_rfl
theorem go126:xget X 126=some Ext.go:=by kernel_rfl
theorem go127:xget X 127=some Ext.go:=by kernel_rfl
theorem go_step(k:Int):xget X (stepN k)=some Ext.go:=by
 unfold stepN
 repeat' split
 ·exact go123
 ·exact go124
 ·exact go125
 ·exact go126
 ·exact go127
section
variable {h h':Heap}{e:Nat}{G G':EG}{K:Value→Heap→Prop}{C:Nat→Nat→Prop}
theorem step79{c:Cal}(hK: ∀h',Only [] h h'→K (.func (.func (stepN c.kind)) #[ptrV e] #[]) h'):Cl 79 [ptrV e,calV c] h K:=by
 refine F79.spec _ _ _ _ _ _ _ _ h K ?_
 refine newK_at fun h1 A1 O1 z1=> ?_
 simp only[add_mk,Nat.zero_add]
 refine ldI_of (n:=c.kind) (by rw[At.rd A1];rfl) ?_
 have hK:=hK h1 O1
 obtain⟨k,ek⟩: ∃k,k=c.kind:=⟨_,rfl⟩
 rw[←ek]at hK ⊢
 unfold stepN at hK
 by_cases h1:k=1
 ·subst h1;exact hK
 by_cases h2:k=2
 ·subst h2;exact hK
 by_cases h4:k=4
 ·subst h4;exact hK
 by_cases h5:k=5
 ·subst h5;exact hK
 by_cases h6:k=6
 ·subst h6;exact hK
 by_cases h7:k=7
 ·subst h7;exact hK
 by_cases h8:k=8
 ·subst h8;exact hK
 rw[if_neg (by omega),if_neg (by omega),if_neg h7,if_neg h8]at hK
 simp only[eqz h1,eqz h2,eqz h4,eqz h5,eqz h6,eqz h7,eqz h8,bcase_false]
 exact hK
theorem workers27(W:EWd h e G)(hK:K (.int .i64 (G.P.ws.length:Int)) h):Cl 27 [ptrV e] h K:=by
 refine F27.spec _ h K ?_
 exact ldP_of (by rw[add_mk];exact W.I.p) (workers68 W.W.H (ldI_of rfl hK))
theorem pick26{who draw:Int}(W:EWd h e G)(hOut:(who<0∨(G.P.ws.length:Int)≤who∨ ¬anyP G.E)→ ∀h',Only [] h h'→K (.bool false) h')
  (Inv:Nat→Heap→EG→Prop) (h0: ∀h',Only [] h h'→Inv 0 h' G) (hO: ∀{i h1 G1 h2},Inv i h1 G1→Only [] h1 h2→Inv i h2 G1) (hW: ∀{i h1 G1},Inv i h1 G1→EWd h1 e G1)
  (hn: ∀{i h1 G1},i<4→Inv i h1 G1→(G1.E.ses i).pend=false→Inv (i+1) h1 G1)
  (hs: ∀{i h1 G1} {Q:Value→Heap→Prop},i<4→Inv i h1 G1→(G1.E.ses i).pend=true→(∀b h2 G2,Inv (i+1) h2 G2→Q (.bool b) h2)→Cl (stepN (G1.E.ses i).cal.kind) [ptrV e,sesP e i] h1 Q)
  (hE:0≤who→who<(G.P.ws.length:Int)→anyP G.E→ ∀h1 G1,Inv 4 h1 G1→F26.wk11 ⟨e,0,none⟩ who draw h1 K):
  Cl 26 [ptrV e,.int .i64 who,.int .i64 draw] h K:=by
 refine F26.spec _ _ _ h K ?_
 refine bcase_of (fun q=>hOut (.inl (of_decide_eq_true q)) h (Only.refl _ _)) fun q=> ?_
 have q:=of_decide_eq_false q
 refine workers27 W (ldI_of rfl (bcase_of (fun p=>hOut (.inr (.inl (of_decide_eq_true p))) h (Only.refl _ _)) fun p=> ?_))
 have p: ¬(G.P.ws.length:Int)≤who:=of_decide_eq_false p
 refine pending78 W.I (fun a h1 O1=>ldB_of rfl ?_) fun a h1 O1=>ldB_of rfl (hOut (.inr (.inr a)) h1 O1)
 rw[Bool.not_true,bcase_false]
 unfold F26.wk4
 have main: ∀(d i:Nat) (hh:Heap) (G1:EG),d+i=4→Inv i hh G1→F26.wL4 (d+1) ⟨e,0,none⟩ who draw (i:Int) hh K:=by
  intro d
  induction d with
  |zero=>
   intro i hh G1 hi I
   rw[F26.sL4]
   rw[decide_eq_false (by omega),bcase_false]
   have ei:i=4:=by omega
   subst ei
   exact hE (by omega) (by omega) a hh G1 I
  |succ d ih=>
   intro i hh G1 hi I
   rw[F26.sL4]
   rw[decide_eq_true (by omega),bcase_true]
   have hi4:i<4:=by omega
   have W1:=hW I
   simp only[add_mk]
   rw[show 0+3+Int.toNat (i:Int)*24=3+24*i by omega]
   have nx: ∀{h2 G2},Inv (i+1) h2 G2→F26.wL4 (d+1) ⟨e,0,none⟩ who draw (IntKind.wrap .i64 ((i:Int)+1)) h2 K:=fun {h2 G2} I2=>by
    rw[wr_s hi4]
    exact ih (i+1) h2 G2 (by omega) I2
   refine⟨by omega,by omega,ldB_of (W1.I.pend hi4 rfl) (bcase_of (fun pe=> ?_) fun pe=>nx (hn hi4 I pe))⟩
   refine ldI_of (W1.I.kind hi4 (by omega)) (ldI_of (W1.I.op hi4 (by omega)) (ldI_of (W1.I.dst hi4 (by omega)) (ldI_of (W1.I.ca hi4 (by omega)) (ldI_of (W1.I.cb hi4 (by omega)) (ldI_of (W1.I.cc hi4 (by omega)) (ldI_of (W1.I.mask hi4 (by omega)) ?_))))))
   refine step79 (c:=(G1.E.ses i).cal) fun h2 O2=>⟨_,rfl,?_⟩
   refine dynK_go (go_step _) ?_
   exact hs hi4 (hO I O2) pe fun b h3 G3 I3=>ldB_of rfl (nx I3)
 exact⟨_,main 4 0 h1 G (by omega) (h0 h1 O1)⟩
def PickR(w:Nat)(G G':EG):Prop:= ∃G1 N' P' L' k,Coll G G1∧PoolOk G1.n G1.fo G1.N G1.P∧G'={G1 with N:=N',P:=P',L:=L'}∧Picked G1.n G1.fo G1.room G1.N N' G1.P P'∧G1.P.ws[w]? =some k∧(phi G1.n N' P'+1≤phi G1.n G1.N G1.P∨(k.job=0∧k.q=[]∧WsEq G1.P.ws P'.ws))
theorem EWd.pool{N':List (Option Nd)}{P':PS}{L':List Nat}(W:EWd h e G)(W':Wld h' G.E.p G.E.s G.n G.room G.fo G.gg G.off N' P' L')(E:Ex G.N N')(S:Beside G.E.p G.P G.L h P' L' h'):
  EWd h' e {G with N:=N',P:=P',L:=L'}∧Eside e G h {G with N:=N',P:=P',L:=L'} h':=by
 have lt:=W.lt
 have O':=S.O (pbl G.E.p G.P++G.L) (fun b hb=>List.mem_append.2 (.inl (mem_pbl.2 hb))) fun b hb=>List.mem_append.2 (.inr hb)
 have spare: ∀{b},b∉G.L→ ¬PBl G.E.p G.P b→b∉pbl G.E.p G.P++G.L:=fun h1 h2 hm=>by
  rcases List.mem_append.1 hm with q|q
  ·exact h2 (mem_pbl.1 q)
  ·exact h1 q
 have nL: ∀{b},b∈ebl e G→b∉G.L→b∉L':=fun hb hn hm=>by
  rcases S.F _ hm with q|q
  ·exact hn q
  ·have:=lt _ hb;omega
 have nP: ∀{b},b∈ebl e G→ ¬PBl G.E.p G.P b→ ¬PBl G.E.p P' b:=fun hb hn hm=>by
  rcases S.B _ hm with q|q
  ·exact hn q
  ·have:=lt _ hb;omega
 have me:e∈ebl e G:=mem_ebl.2 (.inl rfl)
 have mB: ∀b∈G.B,b∈ebl e G:=fun b hb=>mem_ebl.2 (.inr (.inr (.inl hb)))
 refine⟨⟨W',W.R.only O' fun b hb hm=>(spare (W.dB b hm).1 (W.dB b hm).2) hb,W.I.only O' (spare W.de.1 W.de.2.1),W.C,⟨nL me W.de.1,nP me W.de.2.1,W.de.2.2⟩,fun b hb=>⟨nL (mB b hb) (W.dB b hb).1,nP (mB b hb) (W.dB b hb).2⟩,fun i hi r hr ht=>E.isN (W.rg i hi r hr ht),W.r0,W.mq,W.po⟩,⟨fun T hT=>S.O T (fun b hb=>hT b (mem_ebl.2 (.inr (.inr (.inr hb))))) fun b hb=>hT b (mem_ebl.2 (.inr (.inl hb))),fun b hb=> ?_⟩⟩
 rcases mem_ebl.1 hb with q|q|q|q
 ·exact .inl (mem_ebl.2 (.inl q))
 ·rcases S.F b q with q|q
  ·exact .inl (mem_ebl.2 (.inr (.inl q)))
  ·exact .inr q
 ·exact .inl (mem_ebl.2 (.inr (.inr (.inl q))))
 ·rcases S.B b q with q|q
  ·exact .inl (mem_ebl.2 (.inr (.inr (.inr q))))
  ·exact .inr q
theorem pick_end(mr:MRspec C)(W:EWd h e G)(hC:C (cntN G.N) G.room)(hM:G.M≤LB/1000){draw:Int}{w:Nat}(hw:w<G.P.ws.length)
  (hK: ∀h' G',EWd h' e G'→Eside e G h G' h'→PickR w G G'→K (.bool true) h'):F26.wk11 ⟨e,0,none⟩ (w:Int) draw h K:=by
 unfold F26.wk11
 refine mr W hC hM fun h1 G1 W1 C1 S1=>⟨rfl,?_⟩
 simp only[add_mk,Nat.zero_add]
 refine ldP_of W1.I.p ?_
 have hl:(G1.P.ws.length:Int)=(G.P.ws.length:Int):=by rw[C1.P]
 refine wld_pick W1.W (who:=(w:Int)) (fun q=>by omega) fun h2 L2 N2 P2 b w' k ew hk W2 Pk _ hph B2=>ldB_of rfl ?_
 have ew:w'=w:=by omega
 subst ew
 obtain⟨W3,S3⟩:=W1.pool W2 Pk.ex B2
 exact hK h2 _ W3 (S1.trans S3) ⟨G1,N2,P2,L2,k,C1,W1.W.Ok,rfl,Pk,hk,hph⟩
def VarR(i d:Nat)(G G':EG)(er:Int):Prop:= ∃G1 N2 L2 r er' f',Coll G G1∧MkRel G1.room G1.N (G1.gg (G.E.ses i).cal.mask) 0 1 N2 r er'∧er=(er':Int)∧G'=if er'=0 then setG (stoG G1 N2 L2) i d r f' else stoG G1 N2 L2
theorem e_variable(mr:MRspec C)(W:EWd h e G){i d:Nat}(hi:i<4)(hC:C (cntN G.N) G.room)(hM:G.M+2000≤LB/1000)(hv:(G.E.ses i).cal.mask<G.n)(hd:d<6)(ed:(G.E.ses i).cal.dst=(d:Int))
  (hK: ∀h' G' (er:Int),EWd h' e G'→Eside e G h G' h'→VarR i d G G' er→K (.int .i64 er) h'):Cl 165 [ptrV e,sesP e i] h K:=by
 have hLB:LB=140737488355328:=rfl
 refine F165.spec _ _ h K ?_
 refine mr W hC (by omega) fun h1 G1 W1 C1 S1=>⟨rfl,?_⟩
 simp only[add_mk,Nat.zero_add]
 have mq:=W.mq i hi
 refine ldP_of W1.I.s (ldI_of (n:=((G.E.ses i).cal.mask:Int)) (by rw[W1.I.mask hi (by omega),C1.E]) ?_)
 rw[wrap_i64 (by omega) (by omega)]
 have hv1:(G.E.ses i).cal.mask<G1.n:=by rw[C1.n];exact hv
 have pg:=(W1.po.1 _ hv1).1
 refine sto_var W1.W.S hv1 pg fun h2 L2 N2 r er R S2 O2 F2=>⟨_,_,rfl,?_⟩
 have R:MkRel G1.room G1.N (G1.gg (G.E.ses i).cal.mask) 0 1 N2 r er:=R
 obtain⟨E2,e2,-⟩:=mk_ex R
 obtain⟨W2,T2⟩:=W1.sto S2 E2 O2 F2
 rcases e2 with q|q
 ·subst q
  rw[show(((0:Nat):Int)==0)=true from rfl,bcase_true]
  have hr:isN N2 r:=by
   have e0:lvl G1.n G1.N 0=G1.n:=by unfold lvl;rw[if_pos (by omega)]
   exact(mk_node (f:=G1.fo) W1.W.S.ok.1 W2.W.S.ok.1 (a:=0) (b:=1) (.inl (by omega)) (.inl (by omega)) (show _<lvl G1.n G1.N 0 by rw[e0];exact pg) R).2.1
  have ed1:((stoG G1 N2 L2).E.ses i).cal.dst=(d:Int):=by show(G1.E.ses i).cal.dst=_;rw[C1.E];exact ed
  have hm1:(stoG G1 N2 L2).M+1≤LB:=by show G1.M+1≤LB;have:=C1.M.2;omega
  refine e_sets W2 hi hd ed1 hr hm1 fun h3 f3 W3 T3=>⟨rfl,hK h3 _ _ W3 ((S1.trans T2).trans T3) ⟨G1,N2,L2,r,0,f3,C1,R,rfl,by rw[if_pos rfl]⟩⟩
 ·subst q
  rw[show(((60:Nat):Int)==0)=false from rfl,bcase_false]
  exact hK h2 _ _ W2 (S1.trans T2) ⟨G1,N2,L2,r,60,G1.f,C1,R,rfl,by rw[if_neg (by omega)]⟩
end
end
section
end
section
theorem refu2_zero{n:Nat}{c:Cal}(h:refu2 n c=0):(c.kind=3→takesZ c.op≠0)∧(c.kind=1→c.mask<n)∧(c.kind=3→c.op=8→c.mask<n)∧(c.kind=3→(c.op=6∨c.op=7)→c.mask/2^n=0):=by
 unfold refu2 at h
 split at h
 ·cases h
 ·rename_i a
  split at h
  ·cases h
  ·rename_i b
   split at h
   ·cases h
   ·rename_i d
    refine⟨fun k t=>a ⟨k,t⟩,fun k=> ?_,fun k o=> ?_,fun k o=> ?_⟩
    ·exact Nat.lt_of_not_le fun q=>b ⟨.inl k,q⟩
    ·exact Nat.lt_of_not_le fun q=>b ⟨.inr ⟨k,o⟩,q⟩
    ·exact Classical.byContradiction fun q=>d ⟨k,o,q⟩
theorem refu_zero{n:Nat}{x:Ses}{c:Cal}(h:refu n x c=0):(1≤c.kind∧c.kind≤8)∧(wrK c.kind→isR c.dst)∧rdsOk x c∧refu2 n c=0:=by
 unfold refu at h
 split at h
 ·cases h
 ·rename_i a
  split at h
  ·cases h
  ·rename_i b
   split at h
   ·cases h
   ·rename_i d
    exact⟨Classical.not_not.1 a,fun w=>Classical.byContradiction fun q=>b ⟨w,q⟩,Classical.not_not.1 d,h⟩
section
variable {h h':Heap}{e:Nat}{G G':EG}{K:Value→Heap→Prop}{C:Nat→Nat→Prop}
def clrG(G:EG)(i d:Nat)(f':Int→Int):EG:={G with E:=G.E.put i (clrS (G.E.ses i) d),M:=G.M+1,f:=f'}
theorem e_clears{i d:Nat}(W:EWd h e G)(hi:i<4)(hd:d<6)(ed:(G.E.ses i).cal.dst=(d:Int))(hM:G.M≤LB)
  (hK: ∀h' f',EWd h' e (clrG G i d f')→Eside e G h (clrG G i d f') h'→K (.tuple #[]) h'):Cl 166 [ptrV e,sesP e i] h K:=by
 refine clears166 W.I W.R W.de.2.2 hi hd ed hM fun h' I' R' O'=> ?_
 have C':=cnr_clr W.C hi hd
 have hS: ∀b∈e::G.B,b∉G.L∧ ¬PBl G.E.p G.P b:=fun b hb=>by
  rcases List.mem_cons.1 hb with q|q
  ·subst q;exact⟨W.de.1,W.de.2.1⟩
  ·exact W.dB b q
 refine hK h' _ ⟨W.W.only O' (fun b hb=>(hS b hb).1) (fun b hb=>(hS b hb).2),R',I',C',W.de,W.dB,fun k hk r hr ht=> ?_,fun k hk r hr ht=> ?_,fun k hk=> ?_,W.po⟩ (Eside.some O' (fun b hb=> ?_) fun b hb=>hb)
 ·have ht:((G.E.put i (clrS (G.E.ses i) d)).ses k).there r=true:=ht
  show isN G.N (((G.E.put i (clrS (G.E.ses i) d)).ses k).hnd r)
  rw[ses_put]at ht ⊢
  by_cases q:k=i
  ·rw[if_pos q]at ht ⊢
   by_cases w:r=d
   ·subst w
    rw[show(clrS (G.E.ses i) r).there r=false from upN_eq]at ht
    cases ht
   ·rw[show(clrS (G.E.ses i) d).hnd r=(G.E.ses i).hnd r from upN_ne w]
    rw[show(clrS (G.E.ses i) d).there r=(G.E.ses i).there r from upN_ne w]at ht
    exact W.rg i hi r hr ht
  ·rw[if_neg q]at ht ⊢
   exact W.rg k hk r hr ht
 ·have ht:((G.E.put i (clrS (G.E.ses i) d)).ses k).there r=false:=ht
  show((G.E.put i (clrS (G.E.ses i) d)).ses k).hnd r=0
  rw[ses_put]at ht ⊢
  by_cases q:k=i
  ·rw[if_pos q]at ht ⊢
   by_cases w:r=d
   ·subst w
    exact upN_eq
   ·rw[show(clrS (G.E.ses i) d).hnd r=(G.E.ses i).hnd r from upN_ne w]
    rw[show(clrS (G.E.ses i) d).there r=(G.E.ses i).there r from upN_ne w]at ht
    exact W.r0 i hi r hr ht
  ·rw[if_neg q]at ht ⊢
   exact W.r0 k hk r hr ht
 ·show((G.E.put i (clrS (G.E.ses i) d)).ses k).cal.mask<256
  rw[ses_put]
  by_cases q:k=i
  ·rw[if_pos q];exact W.mq i hi
  ·rw[if_neg q];exact W.mq k hk
 ·rcases List.mem_cons.1 hb with q|q
  ·subst q;exact mem_ebl.2 (.inl rfl)
  ·exact mem_ebl.2 (.inr (.inr (.inl q)))
def LayR(i:Nat)(G G':EG):Prop:= ∃d:Nat,d<6∧(G.E.ses i).cal.dst=(d:Int)∧
 (((G.E.ses i).cal.kind=1∧ ∃G1 er,VarR i d G G1 er∧G'=ansG G1 i er 0)∨
  ((G.E.ses i).cal.kind=2∧ ∃f',G'=ansG (setG G i d (min 1 (G.E.ses i).cal.mask) f') i 0 0)∨
  ((G.E.ses i).cal.kind=6∧ ∃f',G'=ansG (clrG G i d f') i 0 0))
theorem VarR.ans{i d:Nat}{er:Int}(R:VarR i d G G' er):G'.E.ans=G.E.ans:=by
 obtain⟨G1,N2,L2,r,e',f',C1,-,-,e⟩:=R
 subst e
 have:G1.E.ans=G.E.ans:=by rw[C1.E]
 split
 ·exact this
 ·exact this
theorem e_lays(mr:MRspec C)(W:EWd h e G){i:Nat}(hi:i<4)(hC:C (cntN G.N) G.room)(hM:G.M+2000≤LB/1000)(ha:G.E.ans<1000000000)(hk:(G.E.ses i).cal.kind=1∨(G.E.ses i).cal.kind=2∨(G.E.ses i).cal.kind=6)(hr:refu G.n (G.E.ses i) (G.E.ses i).cal=0)
  (hK: ∀h' G',EWd h' e G'→Eside e G h G' h'→LayR i G G'→K (.bool true) h'):Cl 123 [ptrV e,sesP e i] h K:=by
 have hLB:LB=140737488355328:=rfl
 obtain⟨-,z2,-,z4⟩:=refu_zero hr
 obtain⟨-,z5,-,-⟩:=refu2_zero z4
 have hd:=z2 (by unfold wrK;omega)
 obtain⟨d,ed⟩: ∃d:Nat,(G.E.ses i).cal.dst=(d:Int):=⟨(G.E.ses i).cal.dst.toNat,by unfold isR at hd;omega⟩
 have d6:d<6:=by unfold isR at hd;omega
 refine F123.spec _ _ h K ?_
 simp only[add_mk,Nat.zero_add]
 refine ldI_of (W.I.kind hi (by omega)) ?_
 rcases hk with k|k|k
 ·rw[k,show((1:Int)==1)=true from rfl,bcase_true]
  refine e_variable mr W hi hC hM (z5 k) d6 ed fun h1 G1 er W1 S1 V=>ldI_of rfl ?_
  unfold F123.wk8
  refine e_answers (n:=0) W1 hi (by rw[V.ans];exact ha) fun h2 W2 S2=>⟨rfl,?_⟩
  exact hK h2 _ W2 (S1.trans S2) ⟨d,d6,ed,.inl ⟨k,G1,er,V,rfl⟩⟩
 ·rw[k,show((2:Int)==1)=false from rfl,bcase_false,show((2:Int)==6)=false from rfl,bcase_false]
  have mq:=W.mq i hi
  refine ldI_of (W.I.mask hi (by omega)) ?_
  have em:(IntKind.wrap .u32 (if(1:Int)<((G.E.ses i).cal.mask:Int)then(1:Int)else((G.E.ses i).cal.mask:Int)))=((min 1 (G.E.ses i).cal.mask:Nat):Int):=by
   by_cases q:1<(G.E.ses i).cal.mask
   ·rw[if_pos (by omega),show min 1 (G.E.ses i).cal.mask=1 by omega];rfl
   ·rw[if_neg (by omega),show min 1 (G.E.ses i).cal.mask=(G.E.ses i).cal.mask by omega]
    exact wrap32 (by omega)
  rw[em]
  refine e_sets W hi d6 ed (.inl (by omega)) (by omega) fun h1 f1 W1 S1=>⟨rfl,?_⟩
  unfold F123.wk8
  refine e_answers (n:=0) W1 hi ha fun h2 W2 S2=>⟨rfl,?_⟩
  exact hK h2 _ W2 (S1.trans S2) ⟨d,d6,ed,.inr (.inl ⟨k,f1,rfl⟩)⟩
 ·rw[k,show((6:Int)==1)=false from rfl,bcase_false,show((6:Int)==6)=true from rfl,bcase_true]
  refine e_clears W hi d6 ed (by omega) fun h1 f1 W1 S1=>⟨rfl,?_⟩
  unfold F123.wk8
  refine e_answers (n:=0) W1 hi ha fun h2 W2 S2=>⟨rfl,?_⟩
  exact hK h2 _ W2 (S1.trans S2) ⟨d,d6,ed,.inr (.inr ⟨k,f1,rfl⟩)⟩
end
end
section
def SesR(n:Nat)(fo:Nat→Nat)(N:List (Option Nd))(x x':Ses):Prop:= ∃d:Nat,d<6∧x.cal.dst=(d:Int)∧
 ((x.cal.kind=1∧ ∃v,x'=ansS (setS x d v) 0 0∧ ∀y,sm n fo N v y=y.testBit x.cal.mask)∨
  (x.cal.kind=2∧x'=ansS (setS x d (min 1 x.cal.mask)) 0 0)∨(x.cal.kind=6∧x'=ansS (clrS x d) 0 0))
theorem SesR.pend{n:Nat}{fo:Nat→Nat}{N:List (Option Nd)}{x x':Ses}(R:SesR n fo N x x'):x'.pend=false:=by
 obtain⟨d,-,-,⟨-,v,e,-⟩|⟨-,e⟩|⟨-,e⟩⟩:=R<;>subst e<;>rfl
theorem SesR.to{n:Nat}{fo:Nat→Nat}{N N':List (Option Nd)}{x x':Ses}(R:SesR n fo N x x')(h: ∀r,r<6→x'.there r=true→ ∀y,sm n fo N' (x'.hnd r) y=sm n fo N (x'.hnd r) y):SesR n fo N' x x':=by
 obtain⟨d,d6,ed,⟨k,v,e,s⟩|⟨k,e⟩|⟨k,e⟩⟩:=R
 ·refine⟨d,d6,ed,.inl ⟨k,v,e,fun y=> ?_⟩⟩
  subst e
  have:=h d d6 upN_eq y
  rw[show(ansS (setS x d v) 0 0).hnd d=v from upN_eq]at this
  rw[this,s]
 ·exact⟨d,d6,ed,.inr (.inl ⟨k,e⟩)⟩
 ·exact⟨d,d6,ed,.inr (.inr ⟨k,e⟩)⟩
def nPd(E:Eng)(i:Nat):Nat:=sumN (fun k=>if(E.ses k).pend=true then 1 else 0) i
structure Ran(G0:EG)(i:Nat)(G:EG):Prop where
 s:G.E.s=G0.E.s∧G.E.p=G0.E.p∧G.E.r=G0.E.r
 n:G.n=G0.n
 fo:G.fo=G0.fo
 gg:G.gg=G0.gg
 room:G.room=G0.room
 off:G.off=G0.off
 ws:G.P.ws.length=G0.P.ws.length
 jobs:G.P.jobs=[]
 last:G.P.last=G0.P.last
 cnt:cntN G.N≤cntN G0.N+i
 M:G0.M≤G.M∧G.M≤G0.M+1002*i+1000
 ans:G.E.ans=G0.E.ans+nPd G0.E i
 lo: ∀k,k<i→k<4→((G0.E.ses k).pend=true→SesR G0.n G0.fo G.N (G0.E.ses k) (G.E.ses k))∧((G0.E.ses k).pend=false→G.E.ses k=G0.E.ses k)
 hi: ∀k,i≤k→G.E.ses k=G0.E.ses k
 old: ∀k,k<4→ ∀r,r<6→(G0.E.ses k).there r=true→(G.E.ses k).there r=true→(G.E.ses k).hnd r=(G0.E.ses k).hnd r→ ∀y,sm G0.n G0.fo G.N ((G0.E.ses k).hnd r) y=sm G0.n G0.fo G0.N ((G0.E.ses k).hnd r) y
structure Easy(G:EG):Prop where
 jobs:G.P.jobs=[]
 kind: ∀i,i<4→(G.E.ses i).pend=true→((G.E.ses i).cal.kind=1∨(G.E.ses i).cal.kind=2∨(G.E.ses i).cal.kind=6)∧refu G.n (G.E.ses i) (G.E.ses i).cal=0
 room:cntN G.N+5<G.room
 M:G.M+20000≤LB/1000
 ans:G.E.ans+10<1000000000
theorem set_ans_ses{G:EG}{i d v n:Nat}{er:Int}{f':Int→Int}:(ansG (setG G i d v f') i er n).E.ses=upN G.E.ses i (ansS (setS (G.E.ses i) d v) er n):=by
 show upN (upN G.E.ses i _) i (ansS (upN G.E.ses i (setS (G.E.ses i) d v) i) er n)=_
 rw[upN_upN,upN_eq]
theorem clr_ans_ses{G:EG}{i d n:Nat}{er:Int}{f':Int→Int}:(ansG (clrG G i d f') i er n).E.ses=upN G.E.ses i (ansS (clrS (G.E.ses i) d) er n):=by
 show upN (upN G.E.ses i _) i (ansS (upN G.E.ses i (clrS (G.E.ses i) d) i) er n)=_
 rw[upN_upN,upN_eq]
section
variable {h h':Heap}{e i:Nat}{G G0 G':EG}{K:Value→Heap→Prop}
theorem Ran.refl(hj:G0.P.jobs=[]):Ran G0 0 G0:=⟨⟨rfl,rfl,rfl⟩,rfl,rfl,rfl,rfl,rfl,rfl,hj,rfl,Nat.le_refl _,⟨Nat.le_refl _,by omega⟩,rfl,fun k hk=>by omega,fun k hk=>rfl,fun k hk r hr ht ht' he y=>rfl⟩
theorem Ran.mono(R:Ran G0 i G){N':List (Option Nd)}(hs: ∀v,(∃k r,k<4∧r<6∧(G.E.ses k).there r=true∧v=(G.E.ses k).hnd r)→ ∀y,sm G0.n G0.fo N' v y=sm G0.n G0.fo G.N v y):
  (∀k,k<i→k<4→((G0.E.ses k).pend=true→SesR G0.n G0.fo N' (G0.E.ses k) (G.E.ses k))∧((G0.E.ses k).pend=false→G.E.ses k=G0.E.ses k))∧
  (∀k,k<4→ ∀r,r<6→(G0.E.ses k).there r=true→(G.E.ses k).there r=true→(G.E.ses k).hnd r=(G0.E.ses k).hnd r→ ∀y,sm G0.n G0.fo N' ((G0.E.ses k).hnd r) y=sm G0.n G0.fo G0.N ((G0.E.ses k).hnd r) y):=
 ⟨fun k hk h4=>⟨fun p=>((R.lo k hk h4).1 p).to fun r hr ht=>hs _ ⟨k,r,h4,hr,ht,rfl⟩,(R.lo k hk h4).2⟩,fun k hk r hr ht ht' he y=>by
  rw[←he,hs _ ⟨k,r,hk,hr,ht',rfl⟩ y,he]
  exact R.old k hk r hr ht ht' he y⟩
theorem Ran.lay(Ea:Easy G0)(R:Ran G0 i G)(W:EWd h e G)(W':EWd h' e G')(hi:i<4)(hp:(G.E.ses i).pend=true)(L:LayR i G G'):Ran G0 (i+1) G':=by
 have ei:=R.hi i (Nat.le_refl _)
 have pi:(G0.E.ses i).pend=true:=by rw[←ei];exact hp
 obtain⟨kd,rf⟩:=Ea.kind i hi pi
 have nP:nPd G0.E (i+1)=nPd G0.E i+1:=by unfold nPd;show sumN _ i+(if _ then 1 else 0)=_;rw[if_pos pi]
 obtain⟨d,d6,ed,L⟩:=L
 have fin: ∀(N':List (Option Nd)) (x':Ses),G'.E.ses=upN G.E.ses i x'→G'.N=N'→(∀v,(∃k r,k<4∧r<6∧(G.E.ses k).there r=true∧(G'.E.ses k).there r=true∧(G'.E.ses k).hnd r=(G.E.ses k).hnd r∧v=(G.E.ses k).hnd r)→ ∀y,sm G0.n G0.fo N' v y=sm G0.n G0.fo G.N v y)→SesR G0.n G0.fo N' (G0.E.ses i) x'→
   (G'.E.s=G.E.s∧G'.E.p=G.E.p∧G'.E.r=G.E.r)→G'.n=G.n→G'.fo=G.fo→G'.gg=G.gg→G'.room=G.room→G'.off=G.off→G'.P=G.P→cntN N'≤cntN G.N+1→(G.M≤G'.M∧G'.M≤G.M+1002)→G'.E.ans=G.E.ans+1→Ran G0 (i+1) G':=by
  intro N' x' es eN hs sr e1 e2 e3 e4 e5 e6 e7 e8 e9 e10
  have sk: ∀k,G'.E.ses k=if k=i then x' else G.E.ses k:=fun k=>by rw[es];rfl
  refine⟨⟨e1.1.trans R.s.1,e1.2.1.trans R.s.2.1,e1.2.2.trans R.s.2.2⟩,e2.trans R.n,e3.trans R.fo,e4.trans R.gg,e5.trans R.room,e6.trans R.off,by rw[e7];exact R.ws,by rw[e7];exact R.jobs,by rw[e7];exact R.last,?_,⟨Nat.le_trans R.M.1 e9.1,by have:=R.M.2;omega⟩,by rw[e10,nP,R.ans];omega,fun k hk h4=> ?_,fun k hk=> ?_,fun k hk r hr ht ht' he y=> ?_⟩
  ·have:=R.cnt;rw[eN];omega
  ·by_cases q:k=i
   ·subst q
    rw[sk,if_pos rfl,eN]
    exact⟨fun _=>sr,fun p=>by rw[p]at pi;cases pi⟩
   ·rw[sk,if_neg q,eN]
    have lk:=R.lo k (by omega) h4
    refine⟨fun p=>(lk.1 p).to fun r hr ht=>hs _ ⟨k,r,h4,hr,ht,?_,?_,rfl⟩,lk.2⟩
    ·rw[sk,if_neg q];exact ht
    ·rw[sk,if_neg q]
  ·rw[sk,if_neg (by omega)]
   exact R.hi k (by omega)
  ·rw[eN]
   by_cases q:k=i
   ·subst q
    have ht2:(G.E.ses k).there r=true:=by rw[ei];exact ht
    have:=hs _ ⟨k,r,hk,hr,ht2,ht',by rw[he,ei],rfl⟩ y
    rw[ei]at this
    rw[this]
    exact R.old k hk r hr ht ht2 (by rw[ei]) y
   ·have ht2:(G.E.ses k).there r=true:=by rw[sk,if_neg q]at ht';exact ht'
    have he2:(G.E.ses k).hnd r=(G0.E.ses k).hnd r:=by rw[sk,if_neg q]at he;exact he
    have:=hs _ ⟨k,r,hk,hr,ht2,ht',by rw[he,he2],rfl⟩ y
    rw[he2]at this
    rw[this]
    exact R.old k hk r hr ht ht2 he2 y
 rcases L with⟨k,G1,er,V,e⟩|⟨k,f',e⟩|⟨k,f',e⟩
 ·obtain⟨G2,N2,L2,v,er',f',C1,M,ee,e1⟩:=V
  obtain⟨E2,he2,hfull⟩:=mk_ex M
  have er0:er'=0:=by
   rcases he2 with q|q
   ·exact q
   ·exfalso
    have h1:=(hfull q).1
    have h2:=C1.cnt
    have h3:=R.cnt
    have h4:=Ea.room
    rw[C1.room,R.room]at h1
    omega
  subst er0
  rw[if_pos rfl]at e1
  subst e1 ee e
  have mkn:(G.E.ses i).cal.mask<G2.n:=by
   have z:=(refu2_zero (refu_zero rf).2.2.2).2.1 (by rw[←ei];exact k)
   rw[C1.n,R.n,ei]
   exact z
  have po:=W.po
  rw[←C1.n,←C1.fo,←C1.gg]at po
  have pg:=po.1 _ mkn
  have e0:lvl G2.n G2.N 0=G2.n:=by unfold lvl;rw[if_pos (by omega)]
  have ok2:NOk G2.n N2:=by
   have:=W'.W.S.ok.1
   exact this
  have mn:=mk_node (f:=G2.fo) C1.ok ok2 (a:=0) (b:=1) (.inl (by omega)) (.inl (by omega)) (show _<lvl G2.n G2.N 0 by rw[e0];exact pg.1) M
  have n0:G2.n=G0.n:=C1.n.trans R.n
  have f0:G2.fo=G0.fo:=C1.fo.trans R.fo
  have hE:G2.E=G.E:=C1.E
  have c2:=mk_cnt M
  have hc:=C1.cnt
  have hM:=C1.M
  have es:(ansG (setG (stoG G2 N2 L2) i d v f') i ((0:Nat):Int) 0).E.ses=upN G.E.ses i (ansS (setS (G.E.ses i) d v) 0 0):=by
   rw[←hE]
   exact set_ans_ses
  refine fin N2 _ es rfl (fun w ⟨k',r,h4,hr,ht,_,_,ew⟩ y=> ?_) ⟨d,d6,(by rw[←ei];exact ed),.inl ⟨(by rw[←ei];exact k),v,(by rw[ei]),fun y=> ?_⟩⟩ (by rw[←hE];exact⟨rfl,rfl,rfl⟩) C1.n C1.fo C1.gg C1.room C1.off C1.P (by omega) ⟨(by show G.M≤G2.M+2;omega),(by show G2.M+2≤_;omega)⟩ (by rw[←hE];rfl)
  ·have hw:isN G2.N w:=by rw[ew];exact C1.rg k' h4 r hr ht
   rw[←n0,←f0,E2.sm C1.ok hw,C1.ex.sm C1.ok hw]
  ·rw[←n0,←f0,mn.2.2.2 y,pg.2,sm_const (by omega),sm_const (by omega),ei]
   cases y.testBit (G0.E.ses i).cal.mask<;>rfl
 ·subst e
  exact fin G.N _ set_ans_ses rfl (fun v _ y=>rfl) ⟨d,d6,(by rw[←ei];exact ed),.inr (.inl ⟨(by rw[←ei];exact k),(by rw[ei])⟩)⟩ ⟨rfl,rfl,rfl⟩ rfl rfl rfl rfl rfl rfl (by omega) ⟨(by show G.M≤G.M+2;omega),(by show G.M+2≤_;omega)⟩ rfl
 ·subst e
  exact fin G.N _ clr_ans_ses rfl (fun v _ y=>rfl) ⟨d,d6,(by rw[←ei];exact ed),.inr (.inr ⟨(by rw[←ei];exact k),(by rw[ei])⟩)⟩ ⟨rfl,rfl,rfl⟩ rfl rfl rfl rfl rfl rfl (by omega) ⟨(by show G.M≤G.M+1;omega),(by show G.M+1≤_;omega)⟩ rfl
theorem anyP_not(h: ∀k,k<4→(G.E.ses k).pend=false): ¬anyP G.E:=fun⟨k,hk,hp⟩=>by rw[h k hk]at hp;cases hp
theorem Ran.none(R:Ran G0 4 G): ∀k,k<4→(G.E.ses k).pend=false:=fun k hk=>by
 have:=R.lo k hk hk
 cases q:(G0.E.ses k).pend with
 |true=>exact(this.1 q).pend
 |false=>rw[this.2 q];exact q
theorem Ran.end{w:Nat}(R:Ran G0 4 G)(W:EWd h e G)(P:PickR w G G')(h1:G.M+1000≤G0.M+1002*4+1000):Ran G0 4 G':=by
 obtain⟨G1,N',P',L',k,C1,-,e,Pk,hk,hph⟩:=P
 subst e
 have hj:P'.jobs=[]:=List.eq_nil_of_length_eq_zero (by have:=alike_len Pk.alike;rw[C1.P,R.jobs]at this;simpa using this)
 have j1:G1.P.jobs=[]:=by rw[C1.P];exact R.jobs
 have hE:G1.E=G.E:=C1.E
 have n0:G1.n=G0.n:=C1.n.trans R.n
 have f0:G1.fo=G0.fo:=C1.fo.trans R.fo
 have cn:cntN N'≤cntN G1.N:=by
  have:=Pk.le2
  unfold psi at this
  rw[hj,j1]at this
  simpa using this
 have hc:=C1.cnt
 have rc:=R.cnt
 have hM:=C1.M
 have rM:=R.M
 have mo:=R.mono (N':=N') fun v ⟨k',r,h4,hr,ht,ev⟩ y=>by
  have hv:isN G1.N v:=by rw[ev];exact C1.rg k' h4 r hr ht
  rw[←n0,←f0,Pk.ex.sm C1.ok hv,C1.ex.sm C1.ok hv]
 have he:({G1 with N:=N',P:=P',L:=L'}:EG).E=G.E:=hE
 exact⟨(by rw[he];exact R.s),n0,f0,C1.gg.trans R.gg,C1.room.trans R.room,C1.off.trans R.off,(by show P'.ws.length=_;rw[Pk.alike.2.1,C1.P];exact R.ws),hj,(by show P'.last=_;rw[Pk.alike.1,C1.P];exact R.last),(by show cntN N'≤_;omega),⟨(by show G0.M≤G1.M;omega),(by show G1.M≤_;omega)⟩,(by rw[he];exact R.ans),(by rw[he];exact mo.1),(by rw[he];exact R.hi),(by rw[he];exact mo.2)⟩
end
end
section
section
variable {h h':Heap}{e i:Nat}{G G0 G':EG}{K:Value→Heap→Prop}
theorem nPd_zero{E:Eng}: ∀i,(∀k,k<i→(E.ses k).pend=false)→nPd E i=0:=by
 intro i
 induction i with
 |zero=>intro _;rfl
 |succ i ih=>
  intro hb
  unfold nPd sumN
  have:nPd E i=0:=ih fun k hk=>hb k (by omega)
  unfold nPd at this
  rw[this,hb i (by omega)]
  rfl
theorem Ran.idle(hj:G0.P.jobs=[])(hn: ¬anyP G0.E):Ran G0 4 G0:=by
 have np: ∀k,k<4→(G0.E.ses k).pend=false:=fun k hk=>by
  cases q:(G0.E.ses k).pend with
  |true=>exact absurd ⟨k,hk,q⟩ hn
  |false=>rfl
 exact⟨⟨rfl,rfl,rfl⟩,rfl,rfl,rfl,rfl,rfl,rfl,hj,rfl,by omega,⟨Nat.le_refl _,by omega⟩,by rw[nPd_zero 4 np];rfl,fun k hk h4=>⟨fun p=>(by rw[np k h4]at p;cases p),fun _=>rfl⟩,fun k hk=>rfl,fun k hk r hr ht ht' he y=>rfl⟩
theorem step_easy{k:Int}(h:k=1∨k=2∨k=6):stepN k=123:=if_pos h
theorem nPd_le{E:Eng}: ∀i,nPd E i≤i:=by
 intro i
 induction i with
 |zero=>exact Nat.le_refl _
 |succ i ih=>
  unfold nPd sumN
  unfold nPd at ih
  split<;>omega
theorem Ran.skip(R:Ran G0 i G)(hp:(G.E.ses i).pend=false):Ran G0 (i+1) G:=by
 have ei:=R.hi i (Nat.le_refl _)
 have pi:(G0.E.ses i).pend=false:=by rw[←ei];exact hp
 refine⟨R.s,R.n,R.fo,R.gg,R.room,R.off,R.ws,R.jobs,R.last,by have:=R.cnt;omega,⟨R.M.1,by have:=R.M.2;omega⟩,?_,fun k hk h4=> ?_,fun k hk=>R.hi k (by omega),R.old⟩
 ·rw[R.ans]
  show _=G0.E.ans+(nPd G0.E i+if(G0.E.ses i).pend=true then 1 else 0)
  rw[pi]
  rfl
 ·by_cases q:k=i
  ·subst q
   exact⟨fun p=>(by rw[p]at pi;cases pi),fun _=>ei⟩
  ·exact R.lo k (by omega) h4
theorem pick_none{who draw:Int}(W:EWd h e G)(hN:who<0∨(G.P.ws.length:Int)≤who∨ ¬anyP G.E)(hK: ∀h',Only [] h h'→K (.bool false) h'):Cl 26 [ptrV e,.int .i64 who,.int .i64 draw] h K:=by
 refine F26.spec _ _ _ h K ?_
 refine bcase_of (fun q=>hK h (Only.refl _ _)) fun q=> ?_
 have q:=of_decide_eq_false q
 refine workers27 W (ldI_of rfl (bcase_of (fun p=>hK h (Only.refl _ _)) fun p=> ?_))
 have p: ¬(G.P.ws.length:Int)≤who:=of_decide_eq_false p
 have no: ¬anyP G.E:=by rcases hN with z|z|z<;>first|omega|exact z
 exact pending78 W.I (fun a=>absurd a no) fun _ h1 O1=>ldB_of rfl (hK h1 O1)
theorem easy_pick(W:EWd h e G0)(Ea:Easy G0){w:Nat}(hw:w<G0.P.ws.length){draw:Int}(hN: ¬anyP G0.E→ ∀h',Only [] h h'→K (.bool false) h')
  (hY:anyP G0.E→ ∀h' G',EWd h' e G'→Eside e G0 h G' h'→Ran G0 4 G'→K (.bool true) h'):Cl 26 [ptrV e,.int .i64 (w:Int),.int .i64 draw] h K:=by
 have eM:=Ea.M
 refine pick26 W (fun q h1 O1=>hN ?_ h1 O1) (fun i h1 G1=>EWd h1 e G1∧Eside e G0 h G1 h1∧Ran G0 i G1∧G1.M≤G0.M+1002*i) (fun h1 O1=>⟨W.only0 O1,Eside.only0 O1,Ran.refl Ea.jobs,by omega⟩)
  (fun {i h1 G1 h2} I O=>⟨I.1.only0 O,I.2.1.trans (Eside.only0 O),I.2.2⟩) (fun I=>I.1) (fun {i h1 G1} hi I hp=>⟨I.1,I.2.1,I.2.2.1.skip hp,by have:=I.2.2.2;omega⟩) (fun {i h1 G1 Q} hi I hp hQ=> ?_) (fun _ _ a h1 G1 I=> ?_)
 ·rcases q with q|q|q
  ·omega
  ·omega
  ·exact q
 ·obtain⟨W1,S1,R1,M1⟩:=I
  have ei:=R1.hi i (Nat.le_refl _)
  obtain⟨kd,rf⟩:=Ea.kind i hi (by rw[←ei];exact hp)
  have kd1:(G1.E.ses i).cal.kind=1∨(G1.E.ses i).cal.kind=2∨(G1.E.ses i).cal.kind=6:=by rw[ei];exact kd
  rw[step_easy kd1]
  have rc:=R1.cnt
  have rm:=Ea.room
  have ra:=R1.ans
  have na:=nPd_le (E:=G0.E) i
  have ea:=Ea.ans
  refine e_lays mr_less W1 hi (by show cntN G1.N<G1.room;rw[R1.room];omega) (by omega) (by omega) kd1 (by rw[ei,R1.n];exact rf) fun h2 G2 W2 S2 L=> ?_
  refine hQ true h2 G2 ⟨W2,S1.trans S2,Ran.lay Ea R1 W1 W2 hi hp L,?_⟩
  obtain⟨d,-,-,⟨-,G3,er,⟨G4,N2,L2,v,er',f',C1,-,-,e1⟩,e2⟩|⟨-,f',e2⟩|⟨-,f',e2⟩⟩:=L
  ·have:=C1.M
   have:G3.M≤G4.M+2:=by rw[e1];split<;>(first|exact Nat.le_refl _|exact Nat.le_add_right _ _)
   have:G2.M=G3.M:=by rw[e2];rfl
   omega
  ·have:G2.M=G1.M+2:=by rw[e2];rfl
   omega
  ·have:G2.M=G1.M+1:=by rw[e2];rfl
   omega
 ·obtain⟨W1,S1,R1,M1⟩:=I
  have rc:=R1.cnt
  have rm:=Ea.room
  refine pick_end mr_less W1 (by show cntN G1.N<G1.room;rw[R1.room];omega) (by omega) (by rw[R1.ws];exact hw) fun h2 G2 W2 S2 P=> ?_
  exact hY a h2 G2 W2 (S1.trans S2) (R1.end W1 P (by omega))
end
end
section
section
variable {h h':Heap}{e i:Nat}{G G0 G':EG}{K:Value→Heap→Prop}
def bgnG(G:EG)(k:Nat)(c:Cal):EG:={G with E:=G.E.put k (bgnS (G.E.ses k) c)}
theorem e_begin{c:Cal}{i:Int}(W:EWd h e G)(hm:c.mask<256)
  (hO:(i<0∨4≤i)→ ∀h',Only [] h h'→K (.int .i64 222) h')
  (hB: ∀k:Nat,k<4→i=(k:Int)→(G.E.ses k).pend=true→ ∀h',Only [] h h'→K (.int .i64 220) h')
  (hR: ∀k:Nat,k<4→i=(k:Int)→(G.E.ses k).pend=false→refu G.n (G.E.ses k) c≠0→ ∀h',Only [] h h'→K (.int .i64 (refu G.n (G.E.ses k) c)) h')
  (hK: ∀k:Nat,k<4→i=(k:Int)→(G.E.ses k).pend=false→refu G.n (G.E.ses k) c=0→ ∀h',EWd h' e (bgnG G k c)→Eside e G h (bgnG G k c) h'→K (.int .i64 0) h'):
  Cl 24 [ptrV e,.int .i64 i,calV c] h K:=by
 refine begin24 W.I W.W.S W.de.1 hm hO hB hR fun k hk ek hp hr h' I' O'=>hK k hk ek hp hr h' ?_ (Eside.some O' (fun b hb=>by simp at hb;subst hb;exact mem_ebl.2 (.inl rfl)) fun b hb=>hb)
 have hs: ∀q,((bgnG G k c).E.ses q).there=(G.E.ses q).there∧((bgnG G k c).E.ses q).hnd=(G.E.ses q).hnd:=fun q=>by
  show((G.E.put k (bgnS (G.E.ses k) c)).ses q).there=_∧((G.E.put k (bgnS (G.E.ses k) c)).ses q).hnd=_
  rw[ses_put]
  by_cases z:q=k
  ·rw[if_pos z,z];exact⟨rfl,rfl⟩
  ·rw[if_neg z];exact⟨rfl,rfl⟩
 refine⟨W.W.only O' (fun b hb=>by simp at hb;subst hb;exact W.de.1) (fun b hb=>by simp at hb;subst hb;exact W.de.2.1),W.R.only O' (fun b hb=>by simp at hb;subst hb;exact W.de.2.2),I',fun x=> ?_,W.de,W.dB,fun q hq r hr ht=> ?_,fun q hq r hr ht=> ?_,fun q hq=> ?_,W.po⟩
 ·rw[ind_same hs];exact W.C x
 ·rw[(hs q).2];rw[(hs q).1]at ht;exact W.rg q hq r hr ht
 ·rw[(hs q).2];rw[(hs q).1]at ht;exact W.r0 q hq r hr ht
 ·show((G.E.put k (bgnS (G.E.ses k) c)).ses q).cal.mask<256
  rw[ses_put]
  by_cases z:q=k
  ·rw[if_pos z];exact hm
  ·rw[if_neg z];exact W.mq q hq
end
end
section
section
variable {h h':Heap}{e i:Nat}{G G0 G':EG}{K:Value→Heap→Prop}
end
end
section
section
variable {h h':Heap}{e i:Nat}{G G0 G':EG}{K:Value→Heap→Prop}
end
end
section
section
variable {h h':Heap}{e s w:Nat}{G G0 G':EG}{K:Value→Heap→Prop}
theorem solo_pick{draw:Int}(W:EWd h e G)(hs:s<4)(hp:(G.E.ses s).pend=true)(solo: ∀k,k<4→k≠s→(G.E.ses k).pend=false)(hw:w<G.P.ws.length)(R:Heap→EG→Prop)
  (hR: ∀{h1 G1},R h1 G1→EWd h1 e G1∧ ∀k,k<4→s<k→(G1.E.ses k).pend=false) (hO: ∀{h1 G1 h2},R h1 G1→Only [] h1 h2→R h2 G1)
  (hs1: ∀{h1} {Q:Value→Heap→Prop},Only [] h h1→(∀b h2 G2,R h2 G2→Q (.bool b) h2)→Cl (stepN (G.E.ses s).cal.kind) [ptrV e,sesP e s] h1 Q)
  (hE: ∀h1 G1,R h1 G1→F26.wk11 ⟨e,0,none⟩ (w:Int) draw h1 K):Cl 26 [ptrV e,.int .i64 (w:Int),.int .i64 draw] h K:=by
 refine pick26 W (fun q h1 O1=> ?_) (fun i h1 G1=>(i≤s∧G1=G∧Only [] h h1)∨(s<i∧R h1 G1)) (fun h1 O1=> .inl ⟨Nat.zero_le _,rfl,O1⟩) (fun {i h1 G1 h2} I O=> ?_) (fun {i h1 G1} I=> ?_) (fun {i h1 G1} hi I hp'=> ?_) (fun {i h1 G1 Q} hi I hp' hQ=> ?_) (fun _ _ _ h1 G1 I=> ?_)
 ·exfalso
  rcases q with q|q|q
  ·omega
  ·omega
  ·exact q ⟨s,hs,hp⟩
 ·rcases I with⟨a,b,c⟩|⟨a,b⟩
  ·exact .inl ⟨a,b,c.trans O (by simp)⟩
  ·exact .inr ⟨a,hO b O⟩
 ·rcases I with⟨a,b,c⟩|⟨a,b⟩
  ·rw[b];exact W.only0 c
  ·exact(hR b).1
 ·rcases I with⟨a,b,c⟩|⟨a,b⟩
  ·by_cases q:i=s
   ·subst q;rw[b,hp]at hp';cases hp'
   ·exact .inl ⟨by omega,b,c⟩
  ·exact .inr ⟨by omega,b⟩
 ·rcases I with⟨a,b,c⟩|⟨a,b⟩
  ·by_cases q:i=s
   ·subst q
    rw[b]
    exact hs1 c fun b' h2 G2 R2=>hQ b' h2 G2 (.inr ⟨by omega,R2⟩)
   ·rw[b,solo i hi q]at hp';cases hp'
  ·rw[(hR b).2 i hi a]at hp';cases hp'
 ·rcases I with⟨a,b,c⟩|⟨a,b⟩
  ·omega
  ·exact hE h1 G1 b
theorem ex_cnt: ∀{A B:List (Option Nd)},Ex A B→cntN A≤cntN B
 | [],B,_=>Nat.zero_le _
 |none::A,[],h=>ex_cnt (A:=A) (B:=[]) fun i x hx=>by have:=h (i+1) x (by rw[nd_cons];exact hx);simp[nd]at this
 |some x::A,[],h=>by have:=h 0 x (by simp[nd]);simp[nd]at this
 |o::A,p::B,h=>by
  have:=ex_cnt (A:=A) (B:=B) fun i x hx=>by have:=h (i+1) x (by rw[nd_cons];exact hx);rwa[nd_cons]at this
  simp only[cntN,List.countP_cons]at this ⊢
  cases o with
  |none=>simp;omega
  |some x=>
   have h0:=h 0 x (by simp[nd])
   have e:p=some x:=by simpa[nd]using h0
   subst e
   omega
theorem ex_back{A B:List (Option Nd)}(E:Ex A B)(hc:cntN B≤cntN A):Ex B A:=fun i x hx=>by
 apply Classical.byContradiction
 intro hn
 have h0:nd A i=none:=by
  cases h:nd A i with
  |none=>rfl
  |some y=>
   have:=E i y h
   rw[hx]at this
   injection this with this
   subst this
   exact absurd h hn
 have hi:=nd_some.1 hx
 have hl:=(List.getElem?_eq_some_iff.1 hi).1
 have h1:=ex_cnt (A:=A) (B:=B.set i none) fun k y hy=>by
  rw[nd_set hl]
  split
  ·next e=>subst e;rw[h0]at hy;cases hy
  ·exact E k y hy
 have:=cntN_del hi
 omega
structure Keeps(G G':EG):Prop where
 E:G'.E=G.E
 n:G'.n=G.n
 fo:G'.fo=G.fo
 gg:G'.gg=G.gg
 room:G'.room=G.room
 off:G'.off=G.off
 ws:G'.P.ws.length=G.P.ws.length
 last:G'.P.last=G.P.last
 ids:G'.P.jobs.map (fun j=>(j.id,j.G))=G.P.jobs.map fun j=>(j.id,j.G)
 M:G.M≤G'.M∧G'.M≤G.M+1000
 sm: ∀k,k<4→ ∀r,r<6→(G.E.ses k).there r=true→ ∀y,sm G.n G.fo G'.N ((G.E.ses k).hnd r) y=sm G.n G.fo G.N ((G.E.ses k).hnd r) y
 phi:phi G.n G'.N G'.P≤phi G.n G.N G.P
 psi:psi G.n G'.N G'.P≤psi G.n G.N G.P
 bad:(∀j∈G.P.jobs,j.A.e=0)→Ev.psi G.n G.N G.P≤G.room→ ∀j∈G'.P.jobs,j.A.e=0
 sub:G.P.jobs=[]→Ex G'.N G.N
theorem coll_sums{G G1:EG}(C1:Coll G G1)(Ok:PoolOk G1.n G1.fo G1.N G1.P):Ev.phi G.n G1.N G.P=Ev.phi G.n G.N G.P∧Ev.psi G.n G1.N G.P≤Ev.psi G.n G.N G.P:=by
 have fr: ∀j∈G.P.jobs,∀f∈j.A.fs,FrOk G1.n G1.fo G1.N f:=fun j hj=>(Ok.mst j (by rw[C1.P];exact hj)).1.frs
 have em: ∀j∈G.P.jobs,mus G.n G1.N j.A.fs=mus G.n G.N j.A.fs:=fun j hj=>by
  have:=mus_ext (n:=G1.n) (fo:=G1.fo) C1.ex (fr j hj)
  rw[C1.n]at this
  exact this.symm
 have en: ∀j∈G.P.jobs,nbs G.n G1.N j.A.fs=nbs G.n G.N j.A.fs:=fun j hj=>by
  have:=nbs_ext (n:=G1.n) (fo:=G1.fo) C1.ex (fr j hj)
  rw[C1.n]at this
  exact this.symm
 have hc:=C1.cnt
 constructor
 ·unfold Ev.phi
  rw[List.map_congr_left em]
 ·unfold Ev.psi
  rw[List.map_congr_left en]
  omega
theorem PickR.kept(P:PickR w G G'):Keeps G G'∧ ∃k,G.P.ws[w]? =some k∧(Ev.phi G.n G'.N G'.P+1≤Ev.phi G.n G.N G.P∨(k.job=0∧k.q=[]∧WsEq G.P.ws G'.P.ws)):=by
 obtain⟨G1,N',P',L',k,C1,Ok1,e,Pk,hk,hph⟩:=P
 obtain⟨s1,s2⟩:=coll_sums C1 Ok1
 have hn:=C1.n
 have hP:=C1.P
 have hroom:=C1.room
 rw[hP]at Pk hk hph
 rw[hn]at Pk hph
 subst e
 refine⟨⟨C1.E,hn,C1.fo,C1.gg,hroom,C1.off,Pk.alike.2.1,Pk.alike.1,Pk.alike.2.2,C1.M,fun k' h4 r hr ht y=> ?_,?_,?_,fun hb hps=> ?_,fun hj=> ?_⟩,k,hk,?_⟩
 ·have hv:=C1.rg k' h4 r hr ht
  have o1:=C1.ok
  have g1:sm G.n G.fo N' ((G.E.ses k').hnd r) y=sm G.n G.fo G1.N ((G.E.ses k').hnd r) y:=by
   rw[←hn]
   exact Pk.ex.sm o1 hv
  have g2:sm G.n G.fo G.N ((G.E.ses k').hnd r) y=sm G.n G.fo G1.N ((G.E.ses k').hnd r) y:=by
   rw[←hn]
   exact C1.ex.sm o1 hv
  show sm G.n G.fo N' _ y=_
  rw[g1,g2]
 ·have:=Pk.le1;show Ev.phi G.n N' P'≤_;omega
 ·have:=Pk.le2;show Ev.psi G.n N' P'≤_;omega
 ·refine Pk.bad hb ?_
  rw[hroom]
  omega
 ·have l2:=Pk.le2
  have hj':P'.jobs=[]:=List.eq_nil_of_length_eq_zero (by have:=alike_len Pk.alike;rw[hj]at this;simpa using this)
  unfold Ev.psi at l2
  rw[hj,hj']at l2
  exact(ex_back Pk.ex (by simpa using l2)).trans C1.ex
 ·rcases hph with q|q
  ·left;show Ev.phi G.n N' P'+1≤_;omega
  ·exact .inr q
end
end
section
section
variable {h h':Heap}{e s w op:Nat}{G G0 G':EG}{K:Value→Heap→Prop}{C:Nat→Nat→Prop}
end
end
section
section
variable {h h':Heap}{e s w op:Nat}{G G0 G':EG}{K:Value→Heap→Prop}{C:Nat→Nat→Prop}
end
end
section
section
variable {h h':Heap}{e s w op m:Nat}{G G0 G':EG}{K:Value→Heap→Prop}{C:Nat→Nat→Prop}
end
end
section
structure Aft(G0:EG)(s:Nat)(x':Ses)(Φ:Nat→Nat→Bool)(add:Nat)(G:EG):Prop where
 st:G.E.s=G0.E.s∧G.E.p=G0.E.p∧G.E.r=G0.E.r
 n:G.n=G0.n
 fo:G.fo=G0.fo
 gg:G.gg=G0.gg
 room:G.room=G0.room
 off:G.off=G0.off
 ws:G.P.ws.length=G0.P.ws.length
 last:G.P.last≤G0.P.last+1
 jobs:G.P.jobs=[]
 ans:G.E.ans=G0.E.ans+1
 M:G.M≤G0.M+20000000
 pend:x'.pend=false
 ses:G.E.ses s=x'
 oth: ∀k,k<4→k≠s→G.E.ses k=G0.E.ses k
 fs: ∀r,r<6→x'.there r=true→ ∀y,sm G0.n G0.fo G.N (x'.hnd r) y=Φ r y
 old: ∀k,k<4→k≠s→ ∀r,r<6→(G0.E.ses k).there r=true→ ∀y,sm G0.n G0.fo G.N ((G0.E.ses k).hnd r) y=sm G0.n G0.fo G0.N ((G0.E.ses k).hnd r) y
 cnt:cntN G.N≤cntN G0.N+add
section
variable {h h':Heap}{e s w op m add:Nat}{G G0 G':EG}{K:Value→Heap→Prop}{C:Nat→Nat→Prop}{x':Ses}{Φ:Nat→Nat→Bool}
theorem Aft.kept(hs:s<4)(A:Aft G0 s x' Φ add G)(k:Keeps G G')(hM:G'.M≤G0.M+20000000):Aft G0 s x' Φ add G':=by
 have hj':G'.P.jobs=[]:=by
  have:=k.ids
  rw[A.jobs]at this
  simpa using this
 have hn:=A.n
 have hf:=A.fo
 have smr: ∀q,q<4→ ∀r,r<6→(G.E.ses q).there r=true→ ∀y,sm G0.n G0.fo G'.N ((G.E.ses q).hnd r) y=sm G0.n G0.fo G.N ((G.E.ses q).hnd r) y:=fun q hq r hr ht y=>by
  have:=k.sm q hq r hr ht y
  rw[hn,hf]at this
  exact this
 refine⟨by rw[k.E];exact A.st,k.n.trans hn,k.fo.trans hf,k.gg.trans A.gg,k.room.trans A.room,k.off.trans A.off,k.ws.trans A.ws,by rw[k.last];exact A.last,hj',by rw[k.E];exact A.ans,hM,A.pend,by rw[k.E];exact A.ses,by rw[k.E];exact A.oth,fun r hr ht y=> ?_,fun q hq hqs r hr ht y=> ?_,?_⟩
 ·have:=smr s hs r hr (by rw[A.ses];exact ht) y
  rw[A.ses]at this
  rw[this]
  exact A.fs r hr ht y
 ·have:=smr q hq r hr (by rw[A.oth q hq hqs];exact ht) y
  rw[A.oth q hq hqs]at this
  rw[this]
  exact A.old q hq hqs r hr ht y
 ·have:=A.cnt
  have p3:=k.psi
  unfold psi at p3
  rw[hj',A.jobs]at p3
  simp at p3
  omega
theorem Aft.none(hp: ∀k,k<4→k≠s→(G0.E.ses k).pend=false)(A:Aft G0 s x' Φ add G): ∀k,k<4→(G.E.ses k).pend=false:=fun k hk=>by
 by_cases q:k=s
 ·subst q;rw[A.ses];exact A.pend
 ·rw[A.oth k hk q];exact hp k hk q
def askN(G:EG)(x:Ses):Nat:=if x.cal.kind=4 then tA G.n G.fo G.N (x.hnd x.cal.a.toNat)else if x.hnd x.cal.a.toNat=x.hnd x.cal.b.toNat then 1 else 0
theorem e_asks{i:Nat}(W:EWd h e G)(hi:i<4)(ha:G.E.ans<1000000000)(hk:(G.E.ses i).cal.kind=4∨(G.E.ses i).cal.kind=5)(ok:rdsOk (G.E.ses i) (G.E.ses i).cal)(hf:(G.E.ses i).cal.kind=4→ ∀j,j<G.n→G.fo j=j)
  (hK: ∀h',EWd h' e (ansG G i 0 (askN G (G.E.ses i)))→Eside e G h (ansG G i 0 (askN G (G.E.ses i))) h'→K (.bool true) h'):Cl 124 [ptrV e,sesP e i] h K:=by
 refine F124.spec _ _ h K ?_
 have oa:isR (G.E.ses i).cal.a∧(G.E.ses i).there (G.E.ses i).cal.a.toNat=true:=ok _ (by unfold rds;rcases hk with k|k<;>rw[k]<;>simp)
 have a6:(G.E.ses i).cal.a.toNat<6:=by have:=oa.1;unfold isR at this;omega
 refine F169.spec _ _ h _ ?_
 simp only[add_mk,Nat.zero_add]
 refine ldI_of (W.I.ca hi (by omega)) ⟨oa.1.1,oa.1.2,ldI_of (W.I.hnd hi a6 (by omega)) (ldI_of (W.I.kind hi (by omega)) ?_)⟩
 rcases hk with k|k
 ·rw[k,show((4:Int)==4)=true from rfl,bcase_true]
  refine ldP_of W.I.s ?_
  refine count23 (X:=XL G.n G.room G.fo G.gg G.N G.off) (hf k) W.W.S (W.rg i hi _ a6 oa.2) fun h1 O1=>⟨_,_,rfl,ldI_of rfl ?_⟩
  have W1:=W.only0 O1
  have en:askN G (G.E.ses i)=tA G.n G.fo G.N ((G.E.ses i).hnd (G.E.ses i).cal.a.toNat):=if_pos k
  rw[en]at hK
  exact e_answers W1 hi ha fun h2 W2 S2=>⟨rfl,hK h2 W2 ((Eside.only0 O1).trans S2)⟩
 ·have ob:isR (G.E.ses i).cal.b∧(G.E.ses i).there (G.E.ses i).cal.b.toNat=true:=ok _ (by unfold rds;rw[k];simp)
  have b6:(G.E.ses i).cal.b.toNat<6:=by have:=ob.1;unfold isR at this;omega
  rw[k,show((5:Int)==4)=false from rfl,bcase_false]
  refine ldI_of (W.I.cb hi (by omega)) ⟨ob.1.1,ob.1.2,ldI_of (W.I.hnd hi b6 (by omega)) ?_⟩
  have en:askN G (G.E.ses i)=if(G.E.ses i).hnd (G.E.ses i).cal.a.toNat=(G.E.ses i).hnd (G.E.ses i).cal.b.toNat then 1 else 0:=if_neg (by omega)
  rw[en]at hK
  refine bcase_of (fun q=> ?_) fun q=> ?_
  ·have q:(G.E.ses i).hnd (G.E.ses i).cal.a.toNat=(G.E.ses i).hnd (G.E.ses i).cal.b.toNat:=by
    have:=eq_of_beq q
    omega
   rw[if_pos q]at hK
   exact ldI_of (n:=1) rfl (e_answers (n:=1) W hi ha fun h2 W2 S2=>⟨rfl,hK h2 W2 S2⟩)
  ·have q: ¬(G.E.ses i).hnd (G.E.ses i).cal.a.toNat=(G.E.ses i).hnd (G.E.ses i).cal.b.toNat:=fun z=>by
    rw[z]at q
    simp at q
   rw[if_neg q]at hK
   exact ldI_of (n:=0) rfl (e_answers (n:=0) W hi ha fun h2 W2 S2=>⟨rfl,hK h2 W2 S2⟩)
end
end
section
abbrev Fns:=Nat→Nat→Option (Nat→Bool)
def Md(G:EG)(F:Fns):Prop:= ∀k,k<4→ ∀r,r<6→(F k r=none→(G.E.ses k).there r=false)∧ ∀f,F k r=some f→(G.E.ses k).there r=true∧ ∀y,sm G.n G.fo G.N ((G.E.ses k).hnd r) y=f y
def updF(F:Fns)(s d:Nat)(g:Option (Nat→Bool)):Fns:=fun k r=>if k=s∧r=d then g else F k r
structure Qt(h:Heap)(e:Nat)(G:EG)(F:Fns)(t:Nat):Prop where
 W:EWd h e G
 md:Md G F
 jobs:G.P.jobs=[]
 pend: ∀k,k<4→(G.E.ses k).pend=false
 last:G.P.last≤t
 M:G.M≤30000000*t
 ans:G.E.ans≤4*t
 cnt:cntN G.N≤255*t
 t:t<1000
section
variable {h h':Heap}{e s w op d t:Nat}{G G0 G1 G':EG}{K:Value→Heap→Prop}{C:Nat→Nat→Prop}{F:Fns}{c:Cal}
theorem Qt.only0(Q:Qt h e G F t)(O:Only [] h h'):Qt h' e G F t:=⟨Q.W.only0 O,Q.md,Q.jobs,Q.pend,Q.last,Q.M,Q.ans,Q.cnt,Q.t⟩
theorem Md.set(m:Md G F)(hs:s<4){x:Ses}{v er num:Nat}(hd:d<6){g:Nat→Bool}(hn:G'.n=G.n)(hf:G'.fo=G.fo)(hx:x.there=(G.E.ses s).there∧x.hnd=(G.E.ses s).hnd)(es:G'.E.ses s=ansS (setS x d v) er num)(hv: ∀y,sm G.n G.fo G'.N v y=g y)
  (oth: ∀k,k<4→k≠s→(G'.E.ses k).there=(G.E.ses k).there∧(G'.E.ses k).hnd=(G.E.ses k).hnd)
  (old: ∀k,k<4→ ∀r,r<6→(G.E.ses k).there r=true→(G'.E.ses k).there r=true→(G'.E.ses k).hnd r=(G.E.ses k).hnd r→ ∀y,sm G.n G.fo G'.N ((G.E.ses k).hnd r) y=sm G.n G.fo G.N ((G.E.ses k).hnd r) y):Md G' (updF F s d (some g)):=fun k hk r hr=>by
 unfold updF
 rw[hn,hf]
 by_cases q:k=s
 ·subst q
  have tr:(G'.E.ses k).there r=if r=d then true else(G.E.ses k).there r:=by
   rw[es]
   show upN x.there d true r=_
   rw[hx.1]
   rfl
  have hh:(G'.E.ses k).hnd r=if r=d then v else(G.E.ses k).hnd r:=by
   rw[es]
   show upN x.hnd d v r=_
   rw[hx.2]
   rfl
  by_cases z:r=d
  ·rw[if_pos ⟨rfl,z⟩]
   refine⟨fun q=>(by cases q),fun f q=> ?_⟩
   injection q with q
   subst q
   rw[tr,hh,if_pos z,if_pos z]
   exact⟨rfl,hv⟩
  ·rw[if_neg (fun w=>z w.2)]
   rw[if_neg z]at tr hh
   obtain⟨m1,m2⟩:=m k hk r hr
   refine⟨fun q=>by rw[tr];exact m1 q,fun f q=> ?_⟩
   obtain⟨a,b⟩:=m2 f q
   refine⟨by rw[tr];exact a,fun y=> ?_⟩
   rw[hh,old k hk r hr a (by rw[tr];exact a) hh y]
   exact b y
 ·rw[if_neg (fun w=>q w.1)]
  obtain⟨o1,o2⟩:=oth k hk q
  obtain⟨m1,m2⟩:=m k hk r hr
  refine⟨fun z=>by rw[o1];exact m1 z,fun f z=> ?_⟩
  obtain⟨a,b⟩:=m2 f z
  refine⟨by rw[o1];exact a,fun y=> ?_⟩
  rw[o2,old k hk r hr a (by rw[o1];exact a) (by rw[o2]) y]
  exact b y
end
end
section
section
variable {h h':Heap}{e s w op d t:Nat}{G G0 G1 G':EG}{K:Value→Heap→Prop}{C:Nat→Nat→Prop}{F:Fns}{c:Cal}
theorem rds_ok(md:Md G F)(hs:s<4)(hr: ∀r∈rds c,isR r∧ ∃f,F s r.toNat=some f):rdsOk (G.E.ses s) c:=fun r hm=>by
 obtain⟨a,f,b⟩:=hr r hm
 exact⟨a,((md s hs r.toNat (by unfold isR at a;omega)).2 f b).1⟩
end
end
section
section
variable {n:Nat}{fo gg:Nat→Nat}{N:List (Option Nd)}
theorem sm_on(H:NOk n N): ∀(d:Nat) {a x y:Nat},n-lvl n N a≤d→isN N a→(∀l,lvl n N a≤l→l<n→x.testBit (fo l)=y.testBit (fo l))→sm n fo N a x=sm n fo N a y:=by
 intro d
 induction d with
 |zero=>
  intro a x y hd ha hb
  have h2:a<2:=by
   apply Classical.byContradiction
   intro hn
   have:=(H.at ha (by omega)).1
   omega
  rw[sm_const h2,sm_const h2]
 |succ d ih=>
  intro a x y hd ha hb
  by_cases h2:a<2
  ·rw[sm_const h2,sm_const h2]
  ·obtain⟨h3,h4,h5,-,h6,h7⟩:=H.at ha (by omega)
   rw[sm_node H ha (by omega),sm_node H ha (by omega),hb _ (Nat.le_refl _) h3,ih (a:=high N a) (x:=x) (y:=y) (by omega) h5 (fun l hl=>hb l (by omega)),ih (a:=low N a) (x:=x) (y:=y) (by omega) h4 (fun l hl=>hb l (by omega))]
theorem perm_inj(P:PermOk n fo gg){l l':Nat}(hl:l<n)(hl':l'<n)(e:fo l=fo l'):l=l':=by
 rw[←(P.2 l hl).2,←(P.2 l' hl').2,e]
theorem canon(H:NOk n N)(P:PermOk n fo gg)(n8:n≤8): ∀(d:Nat) {a b:Nat},n-min (lvl n N a) (lvl n N b)≤d→isN N a→isN N b→(∀x,x<256→sm n fo N a x=sm n fo N b x)→a=b:=by
 have half: ∀{a x:Nat} {v:Bool},isN N a→2≤a→x<256→sm n fo N a (tob x (fo (lvl n N a)) v)=if v=true then sm n fo N (high N a) x else sm n fo N (low N a) x:=fun {a x v} ha h2 hx=>by
  obtain⟨h3,h4,h5,-,h6,h7⟩:=H.at ha h2
  have f8:fo (lvl n N a)<8:=by have:=(P.2 _ h3).1;omega
  have far: ∀l,lvl n N a<l→l<n→(tob x (fo (lvl n N a)) v).testBit (fo l)=x.testBit (fo l):=fun l hl hn=>by
   have fl:fo l<8:=by have:=(P.2 l hn).1;omega
   rw[tb_tob hx f8 v fl,if_neg]
   intro e
   have:=perm_inj P h3 hn (by first|exact e|exact e.symm)
   omega
  rw[sm_node H ha h2,tb_tob hx f8 v f8,if_pos rfl]
  cases v with
  |true=>
   rw[if_pos rfl,if_pos rfl]
   exact sm_on H n (by omega) h5 fun l hl hn=>far l (by omega) hn
  |false=>
   rw[if_neg (by simp),if_neg (by simp)]
   exact sm_on H n (by omega) h4 fun l hl hn=>far l (by omega) hn
 have away: ∀{b x l:Nat} {v:Bool},isN N b→l<lvl n N b→l<n→x<256→sm n fo N b (tob x (fo l) v)=sm n fo N b x:=fun {b x l v} hb hl hn hx=>by
  have f8:fo l<8:=by have:=(P.2 _ hn).1;omega
  refine sm_on H n (by omega) hb fun l' hl' hn'=> ?_
  have fl:fo l'<8:=by have:=(P.2 l' hn').1;omega
  rw[tb_tob hx f8 v fl,if_neg]
  intro e
  have:=perm_inj P hn hn' (by first|exact e|exact e.symm)
  omega
 intro d
 induction d with
 |zero=>
  intro a b hd ha hb he
  have a2:a<2:=by
   apply Classical.byContradiction
   intro hn
   have:=(H.at ha (by omega)).1
   omega
  have b2:b<2:=by
   apply Classical.byContradiction
   intro hn
   have:=(H.at hb (by omega)).1
   omega
  have:=he 0 (by omega)
  rw[sm_const a2,sm_const b2]at this
  have e2:(a==1)=(b==1):=this
  have:a=0∨a=1:=by omega
  have:b=0∨b=1:=by omega
  rcases ‹a=0∨a=1› with q|q<;>rcases ‹b=0∨b=1› with r|r<;>subst q r<;>first|rfl|(simp at e2)
 |succ d ih=>
  have above: ∀{a b:Nat},n-min (lvl n N a) (lvl n N b)≤d+1→isN N a→isN N b→(∀x,x<256→sm n fo N a x=sm n fo N b x)→lvl n N a<lvl n N b→False:=fun {a b} hd ha hb he hl=>by
   have a2:2≤a:=by
    apply Classical.byContradiction
    intro hn
    have e1:lvl n N a=n:=by unfold lvl;rw[if_pos (by omega)]
    have:=lvl_le H hb
    omega
   obtain⟨h3,h4,h5,hne,h6,h7⟩:=H.at ha a2
   apply hne
   refine ih (by omega) h4 h5 fun x hx=> ?_
   have f8:fo (lvl n N a)<8:=by have:=(P.2 _ h3).1;omega
   have e1:=he (tob x (fo (lvl n N a)) false) (tobl hx f8 _)
   have e2:=he (tob x (fo (lvl n N a)) true) (tobl hx f8 _)
   rw[half ha a2 hx,away hb hl h3 hx]at e1 e2
   rw[if_neg (by simp)]at e1
   rw[if_pos rfl]at e2
   rw[e1,e2]
  intro a b hd ha hb he
  by_cases a2:2≤a
  ·by_cases b2:2≤b
   ·by_cases hl:lvl n N a=lvl n N b
    ·obtain⟨a3,a4,a5,-,a6,a7⟩:=H.at ha a2
     obtain⟨b3,b4,b5,-,b6,b7⟩:=H.at hb b2
     have f8:fo (lvl n N a)<8:=by have:=(P.2 _ a3).1;omega
     have el:low N a=low N b:=by
      refine ih (by omega) a4 b4 fun x hx=> ?_
      have e1:=he (tob x (fo (lvl n N a)) false) (tobl hx f8 _)
      rw[half ha a2 hx,hl,half hb b2 hx,if_neg (by simp),if_neg (by simp)]at e1
      exact e1
     have eh:high N a=high N b:=by
      refine ih (by omega) a5 b5 fun x hx=> ?_
      have e1:=he (tob x (fo (lvl n N a)) true) (tobl hx f8 _)
      rw[half ha a2 hx,hl,half hb b2 hx,if_pos rfl,if_pos rfl]at e1
      exact e1
     rcases ha with q|⟨x,hx⟩
     ·omega
     rcases hb with q|⟨y,hy⟩
     ·omega
     have la:lvl n N a=x.1∧low N a=x.2.1∧high N a=x.2.2:=by
      unfold lvl low high
      rw[if_neg (by omega),if_neg (by omega),if_neg (by omega),hx]
      exact⟨rfl,rfl,rfl⟩
     have lb:lvl n N b=y.1∧low N b=y.2.1∧high N b=y.2.2:=by
      unfold lvl low high
      rw[if_neg (by omega),if_neg (by omega),if_neg (by omega),hy]
      exact⟨rfl,rfl,rfl⟩
     have exy:x=y:=by
      obtain⟨x1,x2,x3⟩:=x
      obtain⟨y1,y2,y3⟩:=y
      have c1:x1=y1:=la.1.symm.trans (hl.trans lb.1)
      have c2:x2=y2:=la.2.1.symm.trans (el.trans lb.2.1)
      have c3:x3=y3:=la.2.2.symm.trans (eh.trans lb.2.2)
      rw[c1,c2,c3]
     subst exy
     have:=H.once _ _ _ hx hy
     omega
    ·by_cases h:lvl n N a<lvl n N b
     ·exact(above hd ha hb he h).elim
     ·exact(above (by rw[Nat.min_comm];exact hd) hb ha (fun x hx=>(he x hx).symm) (by omega)).elim
   ·have e1:lvl n N b=n:=by unfold lvl;rw[if_pos (by omega)]
    exact(above hd ha hb he (by rw[e1];exact(H.at ha a2).1)).elim
  ·by_cases b2:2≤b
   ·have e1:lvl n N a=n:=by unfold lvl;rw[if_pos (by omega)]
    exact(above (by rw[Nat.min_comm];exact hd) hb ha (fun x hx=>(he x hx).symm) (by rw[e1];exact(H.at hb b2).1)).elim
   ·have:=he 0 (by omega)
    rw[sm_const (by omega),sm_const (by omega)]at this
    have e2:(a==1)=(b==1):=this
    have qa:a=0∨a=1:=by omega
    have qb:b=0∨b=1:=by omega
    rcases qa with q|q<;>rcases qb with r|r<;>subst q r<;>first|rfl|(simp at e2)
end
end
section
section
variable {h:Heap}{K:Value→Heap→Prop}
end
end
section
section
variable {h0 h h':Heap}{e s k:Nat}{G G':EG}{K:Value→Heap→Prop}
end
end
section
section
variable {h h':Heap}{e s t:Nat}{G G':EG}{K:Value→Heap→Prop}{F:Fns}
theorem cells2{n1 n2:Int}{Q:Nat→Heap→Prop}(hQ: ∀h',At h' h.size [.int .i64 n1,.int .u64 n2]→Only [] h h'→Q h.size h'):
  newK h (.cells #[(.int .i64 (0:Int)),(.int .u64 (0:Int))] 76) (fun b6 h7=>stK h7 (Addr.add (Addr.mk b6 0 none) 0) (.int .i64 n1) (fun h8=>stK h8 (Addr.add (Addr.mk b6 0 none) 1) (.int .u64 n2) (fun h9=>Q b6 h9))):=by
 refine newK_at fun h1 A1 O1 z1=> ?_
 rw[add_mk,add_mk]
 refine stK_at (i:=0) A1 (by simp) rfl fun h2 A2 O2 z2=>stK_at (i:=1) A2 (by simp) rfl fun h3 A3 O3 z3=>hQ h3 A3 ?_
 exact(O1.trans O2 (by intro x hx hl;simp at hx;omega)).trans O3 (by intro x hx hl;simp at hx;omega)
end
end
section
end
section
theorem Eside.at{h h':Heap}{e b:Nat}{G G':EG}{c:List Value}(S:Eside e G h G' h')(A:At h b c)(nb:b∉ebl e G):At h' b c∧b∉ebl e G':=
 ⟨A.only (S.O (ebl e G) fun _ h=>h) nb,fun hm=>by
  rcases S.B b hm with q|q
  ·exact nb q
  ·have:=A.lt;omega⟩
theorem Md.fun{G:EG}{F:Fns}(m:Md G F){k r:Nat}(hk:k<4)(hr:r<6){f:Nat→Bool}(hf:F k r=some f)(y:Nat):sm G.n G.fo G.N ((G.E.ses k).hnd r) y=f y:=((m k hk r hr).2 f hf).2 y
def noF:Fns:=fun _ _=>none
theorem qt_new{h:Heap}{e:Nat}{G:EG}(W:EWd h e G)(s1:G.E.ses=(eng0 0 0 0).ses)(a1:G.E.ans=0)(N1:G.N=[])(j1:G.P.jobs=[])(l1:G.P.last=0)(M1:G.M=0):Qt h e G noF 0:=
 ⟨W,fun k _ r _=>⟨fun _=>by rw[s1];rfl,fun f q=>by cases q⟩,j1,fun k _=>by rw[s1];rfl,by omega,by omega,by omega,by rw[N1];exact Nat.le_refl _,by omega⟩
end
section
theorem go114:xget X 114=some Ext.go:=by kernel_rfl
noncomputable def RK(m:Nat)(K:Value→Heap→Prop)(v:Nat):Value→Heap→Prop:=fun r h2=>ldB (some r) fun b=>bcase (!b) (F64.wL5 v (some ⟨m,0,none⟩) (.func (.func 114) #[ptrV m] #[]) h2 K) (F64.wk6 (some ⟨m,0,none⟩) h2 K)
noncomputable def Rn(m:Nat)(K:Value→Heap→Prop)(d:Nat)(h:Heap):Prop:= ∀c u v:Nat,d≤u→d≤v→F114.wL2 u ⟨m,0,none⟩ (c:Int) h (RK m K v)
theorem Rn.mono{m d d':Nat}{K:Value→Heap→Prop}{h:Heap}(R:Rn m K d h)(hd:d≤d'):Rn m K d' h:=fun c u v hu hv=>R c u v (by omega) (by omega)
section
variable {h h' h0:Heap}{s n room d:Nat}{fo gg:Nat→Nat}{off:Bool}{N N' N0:List (Option Nd)}{A A':MA}{fl:List Fk}{fr:Fk}{K:Value→Heap→Prop}{L L' L0:List Nat}{Y:SX}
theorem rn_done(M:MaIs h s A)(hd:A.done=true)(hK:K (.tuple #[.int .u32 (if A.done=true∧A.e=0 then(A.told:Int)else 0),.int .i64 (if A.done=true then(A.e:Int)else 61)]) h):Rn A.m K 1 h:=by
 intro c u v hu hv
 obtain⟨u,rfl⟩: ∃u',u=u'+1:=⟨u-1,by omega⟩
 have rm:=mach_rd M.own
 rw[F114.sL2]
 simp only[add_mk,Nat.zero_add]
 refine ldB_of rm.2.2.2.1 ?_
 rw[hd,Bool.not_true,bcase_false]
 unfold F114.wk4
 simp only[add_mk,Nat.zero_add]
 refine ldB_of rm.2.2.2.1 ?_
 unfold RK
 refine ldB_of rfl ?_
 rw[hd,Bool.not_true,bcase_false]
 unfold F64.wk6
 exact result94 M ⟨_,_,rfl,hK⟩
theorem rn_step(S:Sto h s L Y)(M:MaIs h s {A with fs:=fl++[fr]})(hl:fl.length<100000)(hd:A.done=false)
  (hN: ∀{Q:Value→Heap→Prop},(∀h',Rn A.m K d h'→Q (.tuple #[]) h')→dynK Tryz.prog X (goV fr.fn fr.b) [] h Q):Rn A.m K (d+1) h:=by
 have rm:=mach_rd M.own
 have hlen:(fl++[fr]).length=fl.length+1:=by simp
 have core: ∀u v:Nat,d≤u→d≤v→F114.wL2 (u+1) ⟨A.m,0,none⟩ (cntN Y.N:Int) h (RK A.m K v):=fun u v hu hv=>by
  rw[F114.sL2]
  simp only[add_mk,Nat.zero_add]
  refine ldB_of rm.2.2.2.1 ?_
  rw[hd,Bool.not_false,bcase_true]
  refine ldP_of rm.1 (sto_len S (ldI_of rfl ?_))
  rw[eq_cast,decide_eq_true rfl,bcase_true]
  refine ldS_of rm.2.1 (ldS_of rm.2.1 ?_)
  have W:Win h 0 A.fp (fl++[fr]).length A.fc ((fl++[fr]).map fun f=>ptrV f.b):=M.win
  obtain⟨ad,ep,rr⟩:=W.rd (j:=fl.length) (by simp)
  have e1:IntKind.wrap .i64 (((fl++[fr]).length:Int)-1)=(fl.length:Int):=by rw[hlen,wrap_i64 (by omega) (by omega)];omega
  show ptrK A.fp _
  rw[ep,ptrK_some]
  rw[e1]
  refine⟨by omega,by show(fl.length:Int)<((fl++[fr]).length:Int);omega,?_⟩
  rw[Int.toNat_natCast,Nat.mul_one,rr]
  refine ldP_of (n:=some ⟨fr.b,0,none⟩) (by simp[ptrV]) ?_
  rw[ptrK_some]
  simp only[add_mk,Nat.zero_add]
  have F1':At h fr.b (cellK A.m fr):=M.frm fr (by simp)
  rw[(frame_rd F1').2.2.2.2.2.2.2,ldV_some]
  exact hN fun h' R=>⟨rfl,R _ u v hu hv⟩
 intro c u v hu hv
 obtain⟨u,rfl⟩: ∃u',u=u'+1:=⟨u-1,by omega⟩
 by_cases hc:cntN Y.N=c
 ·rw[←hc];exact core u v (by omega) (by omega)
 ·rw[F114.sL2]
  simp only[add_mk,Nat.zero_add]
  refine ldB_of rm.2.2.2.1 ?_
  rw[hd,Bool.not_false,bcase_true]
  refine ldP_of rm.1 (sto_len S (ldI_of rfl ?_))
  rw[eq_cast,decide_eq_false hc,bcase_false]
  unfold F114.wk4
  simp only[add_mk,Nat.zero_add]
  refine ldB_of rm.2.2.2.1 ?_
  unfold RK
  refine ldB_of rfl ?_
  rw[hd,Bool.not_false,bcase_true]
  obtain⟨v,rfl⟩: ∃v',v=v'+1:=⟨v-1,by omega⟩
  rw[F64.sL5]
  refine dynK_go go114 ?_
  refine F114.spec _ h _ ?_
  simp only[add_mk,Nat.zero_add]
  refine ldP_of rm.1 (sto_len S (ldI_of rfl ?_))
  unfold F114.wk2
  exact⟨d+1,core d v (Nat.le_refl _) (by omega)⟩
structure RS(h0:Heap)(L0:List Nat)(N0:List (Option Nd))(s n room:Nat)(fo gg:Nat→Nat)(off:Bool)(h:Heap)(L:List Nat)(N:List (Option Nd))(A:MA):Prop where
 S:Sto h s L (XL n room fo gg N off)
 M:MaIs h s A
 D: ∀b∈A.bl,b∉L
 O:Only L0 h0 h
 g:Fresh L0 L h0
 b: ∀x∈A.bl,h0.size≤x
 E:Ex N0 N
theorem RS.next(R:RS h0 L0 N0 s n room fo gg off h L N A)(S':Sto h' s L' (XL n room fo gg N' off))(M':MaIs h' s A')(E:Ex N N')(O:Only (L++A.bl) h h')(g:Fresh L L' h)(sub: ∀x∈A'.bl,x∈A.bl∨h.size≤x)(D': ∀x∈A'.bl,x∉L'):
  RS h0 L0 N0 s n room fo gg off h' L' N' A':=by
 have z:=R.O.size
 refine⟨S',M',D',R.O.trans O fun b hb hl=> ?_,R.g.trans g z,fun x hx=> ?_,R.E.trans E⟩
 ·rcases List.mem_append.1 hb with q|q
  ·rcases R.g b q with q|q
   ·exact q
   ·omega
  ·have:=R.b b q;omega
 ·rcases sub x hx with q|q
  ·exact R.b x q
  ·omega
theorem RS.next0(R:RS h0 L0 N0 s n room fo gg off h L N A)(S':Sto h' s L (XL n room fo gg N off))(M':MaIs h' s A')(O:Only (L++A.bl) h h')(sub: ∀x∈A'.bl,x∈A.bl∨h.size≤x):
  RS h0 L0 N0 s n room fo gg off h' L N A':=
 R.next S' M' (Ex.refl _) O (Fresh.refl _ _) sub fun x hx hm=>by
  rcases sub x hx with q|q
  ·exact R.D x q hm
  ·have:=R.S.lt x hm;omega
theorem bl_pop{fp:Option Addr}{r:Nat}{dn:Bool}(ep:OwnB fp=OwnB A.fp): ∀x∈({A with fp:=fp,fs:=fl,told:=r,done:=dn}:MA).bl,x∈({A with fs:=fl++[fr]}:MA).bl:=fun x hx=>by
 simp only[MA.bl,List.mem_cons,List.mem_append,List.map_append]at hx ⊢
 rw[ep]at hx
 rcases hx with h|h|h
 ·exact .inl h
 ·exact .inr (.inl h)
 ·exact .inr (.inr (.inl h))
theorem bl_push{fp:Option Addr}{fc b z:Nat}{fr' g:Fk}(hb:fr'.b=fr.b)(gb:g.b=b)(hz:z≤b)(hg: ∀b∈OwnB fp,b∈OwnB A.fp∨z≤b): ∀x∈({A with fp:=fp,fc:=fc,fs:=fl++[fr']++[g]}:MA).bl,x∈({A with fs:=fl++[fr]}:MA).bl∨z≤x:=fun x hx=>by
 simp only[MA.bl,List.mem_cons,List.mem_append,List.map_append,List.map_cons,List.map_nil,List.not_mem_nil,or_false]at hx ⊢
 rcases hx with h|h|(h|h)|h
 ·exact .inl (.inl h)
 ·exact(hg x h).imp (fun h=> .inr (.inl h)) id
 ·exact .inl (.inr (.inr (.inl h)))
 ·exact .inl (.inr (.inr (.inr (by rw[h,hb]))))
 ·exact .inr (by omega)
end
end
section
def FullK(h0:Heap)(L0:List Nat)(N0:List (Option Nd))(s n room:Nat)(fo gg:Nat→Nat)(off:Bool)(m:Nat)(K:Value→Heap→Prop):Prop:=
 ∀h' L' N' A',A'.m=m→RS h0 L0 N0 s n room fo gg off h' L' N' A'→A'.fs=[]→A'.done=true→A'.e=60→Rn m K 1 h'
def jc:Nat→Nat
 |0=>1
 |k+1=>2*jc k+3
theorem jc_pos: ∀k,1≤jc k
 |0=>Nat.le_refl _
 |k+1=>by unfold jc;omega
section
variable {h0:Heap}{s n room m:Nat}{fo gg:Nat→Nat}{off:Bool}{N0:List (Option Nd)}{K:Value→Heap→Prop}{L0:List Nat}
def popA(A:MA)(fl:List Fk)(fp:Option Addr)(fc r:Nat):MA:={A with fp:=fp,fc:=fc,fs:=fl,told:=r,done:=fl.isEmpty}
theorem RS.ofPop{h:Heap}{L:List Nat}{N:List (Option Nd)}{A:MA}{fl:List Fk}{g:Fk}{fp:Option Addr}{fc r:Nat}(R:RS h0 L0 N0 s n room fo gg off h L N (popA A (fl++[g]) fp fc r)):RS h0 L0 N0 s n room fo gg off h L N {({A with fp:=fp,fc:=fc,told:=r,done:=false}:MA)with fs:=fl++[g]}:=by
 have e0:popA A (fl++[g]) fp fc r={({A with fp:=fp,fc:=fc,told:=r,done:=false}:MA)with fs:=fl++[g]}:=by
  unfold popA
  rw[show(fl++[g]).isEmpty=false by simp]
 rw[←e0];exact R
theorem join_ok{N N':List (Option Nd)}{op a b c l lo hi r:Nat}(ok:NOk n N)(ok':NOk n N')(ha:isN N a)(hb:isN N b)(hc:isN N c)(el:l=min (lvl n N c) (min (lvl n N b) (min (lvl n N a) n)))(hn:l<n)
  (V:OpR n fo N op (ch n N l false a) (ch n N l false b) (ch n N l false c) lo) (W:OpR n fo N op (ch n N l true a) (ch n N l true b) (ch n N l true c) hi) (Rk:MkRel room N l lo hi N' r 0):OpR n fo N' op a b c r:=by
 have llo:l<lvl n N lo:=V.lv (l+1) (ch_is ok ha (by omega) hn).2 (ch_is ok hb (by omega) hn).2 (ch_is ok hc (by omega) hn).2
 obtain⟨m1,m2,m3,m4⟩:=mk_node (f:=fo) ok ok' V.is W.is llo Rk
 refine⟨m2,fun k' k1 k2 k3=> ?_,fun x=> ?_⟩
 ·rw[m1.lvl ha]at k1
  rw[m1.lvl hb]at k2
  rw[m1.lvl hc]at k3
  have:=lvl_le ok ha
  omega
 ·rw[m4 x,m1.sm ok ha,m1.sm ok hb,m1.sm ok hc,ch_sm ok ha hn,ch_sm (a:=b) ok hb hn,ch_sm (a:=c) ok hc hn,V.sm,W.sm]
  split<;>rfl
theorem run_join(F:FullK h0 L0 N0 s n room fo gg off m K): ∀(k:Nat) {h:Heap} {L:List Nat} {N:List (Option Nd)} {A:MA} {fl:List Fk} {fr:Fk} {d:Nat},A.m=m→RS h0 L0 N0 s n room fo gg off h L N {A with fs:=fl++[fr]}→fr.fn=180→isJoin fr.op→isN N fr.a0→isN N fr.a1→isN N fr.a2→
  n-min (lvl n N fr.a2) (min (lvl n N fr.a1) (min (lvl n N fr.a0) n))≤k→fl.length+k≤1000→A.done=false→1≤d→
  (∀h' L' N' fp fc r,Ex N N'→OpR n fo N' fr.op fr.a0 fr.a1 fr.a2 r→RS h0 L0 N0 s n room fo gg off h' L' N' (popA A fl fp fc r)→Rn m K d h')→Rn m K (d+jc k) h:=by
 intro k
 induction k with
 |zero=>
  intro h L N A fl fr d em R e hop ha hb hc hk hl hd d1 hT
  subst em
  have ok:=R.S.ok
  dsimp only[XL]at ok
  refine rn_step R.S R.M (by omega) hd fun hQ=> ?_
  unfold goV
  rw[e]
  refine dynK_go go180 (joins180 R.S R.M R.D (by omega) hop ha hb hc (fun h' fp r OR S' M' ep O=> ?_) fun h' l b fp fc el hln hb S' M' g O=> ?_)
  ·exact hQ h' (hT h' L N fp A.fc r (Ex.refl _) OR (R.next0 S' M' O fun x hx=> .inl (bl_pop ep x hx)))
  ·omega
 |succ k ih=>
  intro h L N A fl fr d em R e hop ha hb hc hk hl hd d1 hT
  subst em
  have ok:=R.S.ok
  dsimp only[XL]at ok
  have jp:=jc_pos k
  have ej:d+jc (k+1)=(d+1+jc k+1+jc k)+1:=by have:jc (k+1)=2*jc k+3:=rfl;omega
  rw[ej]
  refine rn_step R.S R.M (by omega) hd fun hQ=> ?_
  unfold goV
  rw[e]
  refine dynK_go go180 (joins180 R.S R.M R.D (by omega) hop ha hb hc (fun h' fp r OR S' M' ep O=> ?_) fun h' l b fp fc el hln hb' S' M' g O=> ?_)
  ·exact hQ h' ((hT h' L N fp A.fc r (Ex.refl _) OR (R.next0 S' M' O fun x hx=> .inl (bl_pop ep x hx))).mono (by omega))
  refine hQ h' ?_
  have k0:l≤lvl n N fr.a0:=by omega
  have k1:l≤lvl n N fr.a1:=by omega
  have k2:l≤lvl n N fr.a2:=by omega
  have c0:=ch_is (side:=false) ok.1 ha k0 hln
  have c1:=ch_is (side:=false) ok.1 hb k1 hln
  have c2:=ch_is (side:=false) ok.1 hc k2 hln
  have R1:=R.next0 S' M' O (bl_push (fr:=fr) rfl rfl hb' g)
  refine ih (A:={A with fp:=fp,fc:=fc}) (d:=d+1+jc k+1) (fr:=⟨b,fr.op,0,ch n N l false fr.a0,ch n N l false fr.a1,ch n N l false fr.a2,0,0,180⟩) rfl R1 rfl hop c0.1 c1.1 c2.1 (by dsimp only;omega) (by simp;omega) hd (by omega) fun h2 L2 N2 fp2 fc2 r E2 V R2=> ?_
  have ok2:=R2.S.ok
  dsimp only[XL]at ok2
  have V:OpR n fo N2 fr.op (ch n N2 l false fr.a0) (ch n N2 l false fr.a1) (ch n N2 l false fr.a2) r:=by
   rw[E2.ch ha,E2.ch hb,E2.ch hc];exact V
  have R2:=R2.ofPop
  refine rn_step (A:={A with fp:=fp2,fc:=fc2,told:=r,done:=false}) R2.S R2.M (by omega) rfl fun hQ2=> ?_
  show dynK Tryz.prog X (goV 225 fr.b) [] h2 _
  unfold goV
  have a0:=E2.isN ha
  have a1:=E2.isN hb
  have a2:=E2.isN hc
  refine dynK_go go225 (joinsHigh225 (fr:={fr with level:=l,fn:=225}) (A:={A with fp:=fp2,fc:=fc2,told:=r,done:=false}) R2.S R2.M R2.D (by omega) a0 a1 a2 fun h3 b3 fp3 fc3 hb3 S3 M3 g3 O3=> ?_)
  refine hQ2 h3 ?_
  have q0:l≤lvl n N2 fr.a0:=by rw[E2.lvl ha];exact k0
  have q1:l≤lvl n N2 fr.a1:=by rw[E2.lvl hb];exact k1
  have q2:l≤lvl n N2 fr.a2:=by rw[E2.lvl hc];exact k2
  have p0:=ch_is (side:=true) ok2.1 a0 q0 hln
  have p1:=ch_is (side:=true) ok2.1 a1 q1 hln
  have p2:=ch_is (side:=true) ok2.1 a2 q2 hln
  have R3:=R2.next0 S3 M3 O3 (bl_push (A:={A with fp:=fp2,fc:=fc2,told:=r,done:=false}) (fr:={fr with level:=l,fn:=225}) rfl rfl hb3 g3)
  refine ih (A:={A with fp:=fp3,fc:=fc3,told:=r,done:=false}) (d:=d+1) (fr:=⟨b3,fr.op,0,ch n N2 l true fr.a0,ch n N2 l true fr.a1,ch n N2 l true fr.a2,0,0,180⟩) rfl R3 rfl hop p0.1 p1.1 p2.1 (by dsimp only;rw[E2.lvl ha,E2.lvl hb,E2.lvl hc]at*;omega) (by simp;omega) rfl (by omega) fun h4 L4 N4 fp4 fc4 r4 E4 W R4=> ?_
  have ok4:=R4.S.ok
  dsimp only[XL]at ok4
  have W:OpR n fo N4 fr.op (ch n N4 l true fr.a0) (ch n N4 l true fr.a1) (ch n N4 l true fr.a2) r4:=by
   rw[E4.ch a0,E4.ch a1,E4.ch a2];exact W
  have V4:OpR n fo N4 fr.op (ch n N4 l false fr.a0) (ch n N4 l false fr.a1) (ch n N4 l false fr.a2) r:=by
   rw[E4.ch a0,E4.ch a1,E4.ch a2]
   exact V.ext ok2.1 E4 (ch_is ok2.1 a0 q0 hln).1 (ch_is ok2.1 a1 q1 hln).1 (ch_is ok2.1 a2 q2 hln).1
  have R4:=R4.ofPop
  refine rn_step (A:={A with fp:=fp4,fc:=fc4,told:=r4,done:=false}) R4.S R4.M (by omega) rfl fun hQ4=> ?_
  show dynK Tryz.prog X (goV 273 fr.b) [] h4 _
  unfold goV
  have b0:=E4.isN a0
  have b1:=E4.isN a1
  have b2:=E4.isN a2
  have u0:l≤lvl n N4 fr.a0:=by rw[E4.lvl a0];exact q0
  have u1:l≤lvl n N4 fr.a1:=by rw[E4.lvl a1];exact q1
  have u2:l≤lvl n N4 fr.a2:=by rw[E4.lvl a2];exact q2
  have el4:l=min (lvl n N4 fr.a2) (min (lvl n N4 fr.a1) (min (lvl n N4 fr.a0) n)):=by
   rw[E4.lvl a0,E4.lvl a1,E4.lvl a2,E2.lvl ha,E2.lvl hb,E2.lvl hc];exact el
  have llo:l<lvl n N4 r:=V4.lv (l+1) (ch_is ok4.1 b0 u0 hln).2 (ch_is ok4.1 b1 u1 hln).2 (ch_is ok4.1 b2 u2 hln).2
  have ltd:l<lvl n N4 r4:=W.lv (l+1) (ch_is ok4.1 b0 u0 hln).2 (ch_is ok4.1 b1 u1 hln).2 (ch_is ok4.1 b2 u2 hln).2
  have zL:=R4.M.lt
  refine dynK_go go273 (joinsNode273 (fr:={fr with level:=l,low:=r,fn:=273}) (A:={A with fp:=fp4,fc:=fc4,told:=r4,done:=false}) R4.S R4.M R4.D (by omega) hop b0 b1 b2 hln V4.is W.is llo ltd (fun N' r' E Rk ok'=>join_ok ok4.1 ok' b0 b1 b2 el4 hln V4 W Rk) (fun h' L' N' fp r' Rk OR S' M' ep O g=>hQ4 h' ?_) fun h' L' hf S' M' O g=>hQ4 h' ?_)
  ·have E:Ex N4 N':=by
    have ok':=S'.ok.1
    dsimp only[XL]at ok'
    exact(mk_node (f:=fo) ok4.1 ok' V4.is W.is llo Rk).1
   have sub:=bl_pop (A:={A with fp:=fp4,fc:=fc4,told:=r4,done:=false}) (fl:=fl) (fr:={fr with level:=l,low:=r,fn:=273}) (r:=r') (dn:=fl.isEmpty) ep
   refine hT h' L' N' fp fc4 r' ((E2.trans E4).trans E) OR (R4.next S' M' E O g (fun x hx=> .inl (sub x hx)) fun x hx hm=> ?_)
   rcases g x hm with h|h
   ·exact R4.D x (sub x hx) h
   ·have:=zL x (sub x hx);omega
  ·have sub: ∀x∈({A with fp:=none,fc:=0,fs:=[],told:=r4,done:=true,e:=60}:MA).bl,x∈({A with fp:=fp4,fc:=fc4,fs:=fl++[{fr with level:=l,low:=r,fn:=273}]}:MA).bl:=fun x hx=>by
    simp only[MA.bl,OwnB,List.map_nil,List.append_nil,List.mem_singleton]at hx
    simp[MA.bl,hx]
   refine(F h' L' N4 {A with fp:=none,fc:=0,fs:=[],told:=r4,done:=true,e:=60} rfl (R4.next S' M' (Ex.refl _) O g (fun x hx=> .inl (sub x hx)) fun x hx hm=> ?_) rfl rfl rfl).mono d1
   rcases g x hm with h|h
   ·exact R4.D x (sub x hx) h
   ·have:=zL x (sub x hx);omega
end
end
section
def F136.T:Hint:=⟨[],[(1,[[(0,[]),(1,[]),(2,[]),(3,[]),(4,[]),(5,[]),(6,[]),(7,[]),(8,[]),(9,[])]]),(2,[[(0,[]),(1,[]),(2,[]),(3,[]),(4,[]),(5,[]),(6,[]),(7,[]),(8,[]),(9,[]),(10,[]),(11,[]),(12,[]),(13,[]),(14,[]),(15,[]),(16,[]),(17,[]),(18,[]),(19,[]),(20,[]),(21,[]),(22,[]),(23,[]),(24,[]),(25,[])]])]⟩
theorem F136.spec(a:Addr)(h:Heap)(K:KK)(H:(0≤(0:Int)∧(0:Int)<(Nat.cast 3:Int)∧ldI .u32 (rd h ((a.add 3).add (Int.toNat (0:Int)*1))) fun n1=>bcase (decide (n1≤(1:Int))) (ldP (rd h (a.add 0)) fun p2=>0≤(0:Int)∧(0:Int)<(Nat.cast 3:Int)∧ldI .u32 (rd h ((a.add 3).add (Int.toNat (0:Int)*1))) fun n3=>Cl 181 [.pointer p2,.int .u32 n3] h fun v4 h5=>v4=(.tuple #[])∧K (.tuple #[]) h5) (ldP (rd h (a.add 0)) fun p6=>ptrK p6 fun a7=>ldP (rd h (a7.add 0)) fun p8=>ldI .u8 (rd h (a.add 1)) fun n9=>ldI .u8 (rd h (a.add 2)) fun n10=>0≤(0:Int)∧(0:Int)<(Nat.cast 3:Int)∧ldI .u32 (rd h ((a.add 3).add (Int.toNat (0:Int)*1))) fun n11=>Cl 182 [.pointer p8,.int .u8 n9,.int .u8 n10,.int .u32 n11,.int .u32 0,.int .u32 0] h fun v12 h13=> ∃n14:Int,∃b15:Bool,v12=(.tuple #[.int .u32 n14,.bool b15])∧bcase b15 (ldP (rd h13 (a.add 0)) fun p16=>Cl 181 [.pointer p16,.int .u32 n14] h13 fun v17 h18=>v17=(.tuple #[])∧K (.tuple #[]) h18) (Cl 183 [.pointer (some a),.func (.func 184) #[.pointer (some a)] #[],.func (.func 185) #[] #[]] h13 fun v19 h20=>v19=(.tuple #[])∧K (.tuple #[]) h20)))):Cl 136 [.pointer (some a)] h K:=cT F136.T Tryz.func136 H
def F137.T:Hint:=⟨[],[(1,[[(0,[]),(2,[]),(3,[]),(4,[]),(5,[]),(6,[]),(1,[2,3,4,5,6]),(7,[]),(8,[])]]),(5,[[(0,[]),(1,[]),(2,[]),(3,[]),(4,[]),(5,[]),(6,[]),(7,[]),(8,[]),(9,[])]]),(7,[[(0,[]),(1,[]),(2,[]),(3,[]),(4,[]),(5,[]),(6,[]),(7,[]),(8,[]),(9,[]),(10,[]),(11,[]),(13,[]),(14,[]),(15,[]),(16,[]),(17,[]),(18,[]),(12,[0,1,2,3,4,5,13,14,15,16,17,18]),(19,[0,1,2,3,4,5]),(20,[]),(21,[])]])]⟩
theorem F137.spec(a:Addr)(h:Heap)(K:KK)(H:ldP (rd h (a.add 0)) fun p1=>ptrK p1 fun a2=>ldP (rd h (a2.add 0)) fun p3=>ldI .u8 (rd h (a.add 2)) fun n4=>Cl 47 [.pointer p3] h fun v5 h6=>ldP (some v5) fun p7=>((.pointer (some a))=((.pointer (some a)):Value)∧((.pointer (some a))=((.pointer (some a)):Value)∧((.pointer (some (a.add 2)))=((.pointer (some (a.add 2))):Value)∧ldI .u8 (rd h6 (a.add 2)) fun n8=>((.int .u8 n8)=((.int .u8 n4):Value)∧((.int .i64 (IntKind.wrap .i64 n4))=((.int .i64 (IntKind.wrap .i64 n4)):Value)∧Cl 186 [.pointer p7,.int .i64 (IntKind.wrap .i64 n4)] h6 fun v9 h10=>ldI .i64 (some v9) fun n11=>0≤(0:Int)∧(0:Int)<(Nat.cast 3:Int)∧ldI .u32 (rd h10 ((a.add 3).add (Int.toNat (0:Int)*1))) fun n12=>Cl 71 [.pointer p3,.int .u32 n12] h10 fun v13 h14=>ldI .i64 (some v13) fun n15=>bcase (decide (n15>n11)) (ldP (rd h14 (a.add 0)) fun p16=>0≤(0:Int)∧(0:Int)<(Nat.cast 3:Int)∧ldI .u32 (rd h14 ((a.add 3).add (Int.toNat (0:Int)*1))) fun n17=>Cl 181 [.pointer p16,.int .u32 n17] h14 fun v18 h19=>v18=(.tuple #[])∧K (.tuple #[]) h19) (bcase (n15==n11) ((0≤(1:Int)∧(1:Int)<(Nat.cast 3:Int)∧ldI .u32 (rd h14 ((a.add 3).add (Int.toNat (1:Int)*1))) fun n20=>0≤(0:Int)∧(0:Int)<(Nat.cast 3:Int)∧ldI .u32 (rd h14 ((a.add 3).add (Int.toNat (0:Int)*1))) fun n21=>0≤(0:Int)∧(0:Int)<(Nat.cast 3:Int)∧ldI .u32 (rd h14 ((a.add 3).add (Int.toNat (0:Int)*1))) fun n22=>Cl 73 [.pointer p3,.int .u32 n21] h14 fun v23 h24=>ldI .u32 (some v23) fun n25=>((.pointer (some a))=((.pointer (some a)):Value)∧((.pointer (some a))=((.pointer (some a)):Value)∧((.pointer (some a))=((.pointer (some a)):Value)∧((.pointer (some (a.add 3)))=((.pointer (some (a.add 3))):Value)∧(0≤(1:Int)∧(1:Int)<(Nat.cast 3:Int)∧((.pointer (some ((a.add 3).add (Int.toNat (1:Int)*1))))=((.pointer (some ((a.add 3).add (Int.toNat (1:Int)*1)))):Value)∧ldI .u32 (rd h24 ((a.add 3).add (Int.toNat (1:Int)*1))) fun n26=>((.int .u32 n26)=((.int .u32 n20):Value)∧((.pointer p3)=((.pointer p3):Value)∧((.pointer (some a))=((.pointer (some a)):Value)∧((.pointer (some a))=((.pointer (some a)):Value)∧((.pointer (some (a.add 3)))=((.pointer (some (a.add 3))):Value)∧(0≤(0:Int)∧(0:Int)<(Nat.cast 3:Int)∧((.pointer (some ((a.add 3).add (Int.toNat (0:Int)*1))))=((.pointer (some ((a.add 3).add (Int.toNat (0:Int)*1)))):Value)∧ldI .u32 (rd h24 ((a.add 3).add (Int.toNat (0:Int)*1))) fun n27=>((.int .u32 n27)=((.int .u32 n22):Value)∧Cl 72 [.pointer p3,.int .u32 n22] h24 fun v28 h29=>ldI .u32 (some v28) fun n30=>((.pointer (some a))=((.pointer (some a)):Value)∧((.pointer (some a))=((.pointer (some a)):Value)∧((.pointer (some a))=((.pointer (some a)):Value)∧((.pointer (some (a.add 3)))=((.pointer (some (a.add 3))):Value)∧(0≤(1:Int)∧(1:Int)<(Nat.cast 3:Int)∧((.pointer (some ((a.add 3).add (Int.toNat (1:Int)*1))))=((.pointer (some ((a.add 3).add (Int.toNat (1:Int)*1)))):Value)∧ldI .u32 (rd h29 ((a.add 3).add (Int.toNat (1:Int)*1))) fun n31=>((.int .u32 n31)=((.int .u32 n20):Value)∧Cl 187 [.pointer (some a),.int .u8 5,.agg #[.int .u32 n20,.int .u32 n25,.int .u32 n30]] h29 fun v32 h33=>v32=(.tuple #[])∧K (.tuple #[]) h33))))))))))))))))))))))) (Cl 183 [.pointer (some a),.func (.func 188) #[.pointer (some a)] #[],.func (.func 189) #[] #[]] h14 fun v34 h35=>v34=(.tuple #[])∧K (.tuple #[]) h35)))))))):Cl 137 [.pointer (some a)] h K:=cT F137.T Tryz.func137 H
def F138.T:Hint:=⟨[],[(1,[[(0,[]),(1,[]),(2,[]),(3,[]),(4,[]),(5,[]),(6,[]),(7,[]),(8,[])]])]⟩
theorem F138.spec(a:Addr)(h:Heap)(K:KK)(H:stK h ((a.add 8).add 0) (.func (.func 190) #[.pointer (some a)] #[]) fun h1=>ldP (rd h1 (a.add 0)) fun p2=>ldI .u32 (rd h1 ((a.add 3).add 0)) fun n3=>ldI .u32 (rd h1 ((a.add 3).add 1)) fun n4=>ldI .u32 (rd h1 ((a.add 3).add 2)) fun n5=>Cl 135 [.pointer p2,.int .u8 2,.int .u8 0,.agg #[.int .u32 n3,.int .u32 n4,.int .u32 n5]] h1 fun v6 h7=>ldP (some v6) fun _=>K (.tuple #[]) h7):Cl 138 [.pointer (some a)] h K:=cT F138.T Tryz.func138 H
def F139.T:Hint:=⟨[],[(1,[[(0,[]),(1,[]),(2,[]),(3,[]),(4,[]),(5,[]),(6,[]),(7,[]),(8,[]),(9,[]),(10,[]),(11,[]),(12,[]),(13,[]),(14,[]),(15,[])]])]⟩
theorem F139.spec(a:Addr)(h:Heap)(K:KK)(H:stK h ((a.add 8).add 0) (.func (.func 191) #[.pointer (some a)] #[]) fun h1=>ldP (rd h1 (a.add 0)) fun p2=>ldI .u8 (rd h1 (a.add 1)) fun n3=>0≤(0:Int)∧(0:Int)<(Nat.cast 3:Int)∧ldI .u32 (rd h1 ((a.add 3).add (Int.toNat (0:Int)*1))) fun n4=>Cl 135 [.pointer p2,.int .u8 n3,.int .u8 0,.agg #[.int .u32 n4,.int .u32 0,.int .u32 0]] h1 fun v5 h6=>ldP (some v5) fun p7=>ptrK p7 fun a8=>stK h6 ((a8.add 8).add 0) (.func (.func 192) #[.pointer p7] #[]) fun h9=>K (.tuple #[]) h9):Cl 139 [.pointer (some a)] h K:=cT F139.T Tryz.func139 H
def F183.T:Hint:=⟨[],[(0,[[(0,[]),(1,[]),(2,[]),(3,[]),(4,[]),(5,[]),(6,[]),(7,[]),(8,[]),(9,[]),(10,[]),(11,[]),(12,[]),(13,[0]),(14,[]),(15,[]),(16,[])]]),(2,[[(0,[]),(1,[]),(2,[]),(3,[]),(4,[]),(5,[]),(6,[]),(7,[]),(8,[]),(9,[]),(10,[]),(11,[]),(12,[]),(14,[]),(13,[0,14]),(15,[])]])]⟩
theorem F183.spec(a:Addr)(c b:Value)(h:Heap)(K:KK)(H:ldP (rd h (a.add 0)) fun p1=>ptrK p1 fun a2=>ldP (rd h (a2.add 0)) fun p3=>0≤(0:Int)∧(0:Int)<(Nat.cast 3:Int)∧ldI .u32 (rd h ((a.add 3).add (Int.toNat (0:Int)*1))) fun n4=>Cl 71 [.pointer p3,.int .u32 n4] h fun v5 h6=>ldI .i64 (some v5) fun n7=>((.pointer (some a))=((.pointer (some a)):Value)∧stK h6 ((a.add 6).add 0) (.int .i64 n7) fun h8=>storeE Tryz.prog 1 (some (a.add 8)) c h8 fun h9=>ldP (rd h9 (a.add 0)) fun p10=>ptrK p10 fun a11=>ldP (rd h9 (a11.add 0)) fun p12=>0≤(0:Int)∧(0:Int)<(Nat.cast 3:Int)∧ldI .u32 (rd h9 ((a.add 3).add (Int.toNat (0:Int)*1))) fun n13=>Cl 72 [.pointer p12,.int .u32 n13] h9 fun v14 h15=>ldI .u32 (some v14) fun n16=>((.pointer (some a))=((.pointer (some a)):Value)∧(b=(b:Value)∧Cl 231 [.pointer (some a),.int .u32 n16,b] h15 fun v17 h18=>v17=(.tuple #[])∧K (.tuple #[]) h18)))):Cl 183 [.pointer (some a),c,b] h K:=cT F183.T Tryz.func183 H
def F184.T:Hint:=⟨[],[(2,[[(0,[]),(1,[]),(2,[]),(3,[]),(4,[]),(5,[]),(6,[]),(7,[]),(8,[]),(9,[]),(10,[]),(11,[]),(12,[]),(13,[0]),(14,[])]])]⟩
theorem F184.spec(a:Addr)(h:Heap)(K:KK)(H:ldP (rd h (a.add 0)) fun p1=>ptrK p1 fun a2=>ldI .u32 (rd h (a2.add 2)) fun n3=>stK h ((a.add 7).add 0) (.int .u32 n3) fun h4=>stK h4 ((a.add 8).add 0) (.func (.func 232) #[.pointer (some a)] #[]) fun h5=>ldP (rd h5 (a.add 0)) fun p6=>ptrK p6 fun a7=>ldP (rd h5 (a7.add 0)) fun p8=>0≤(0:Int)∧(0:Int)<(Nat.cast 3:Int)∧ldI .u32 (rd h5 ((a.add 3).add (Int.toNat (0:Int)*1))) fun n9=>Cl 73 [.pointer p8,.int .u32 n9] h5 fun v10 h11=>ldI .u32 (some v10) fun n12=>((.pointer (some a))=((.pointer (some a)):Value)∧Cl 231 [.pointer (some a),.int .u32 n12,.func (.func 185) #[] #[]] h11 fun v13 h14=>v13=(.tuple #[])∧K (.tuple #[]) h14)):Cl 184 [.pointer (some a)] h K:=cT F184.T Tryz.func184 H
theorem F185.spec(a:Addr)(h:Heap)(K:KK)(H:K (.func (.func 136) #[.pointer (some a)] #[]) h):Cl 185 [.pointer (some a)] h K:=cN Tryz.func185 H
def F187.T:Hint:=⟨[],[(1,[[(0,[]),(1,[]),(2,[]),(3,[]),(4,[]),(5,[]),(6,[]),(7,[]),(8,[1,2,3,5]),(9,[]),(10,[]),(11,[2,3,5]),(12,[]),(13,[]),(14,[3]),(15,[]),(16,[]),(17,[])]])]⟩
theorem F187.spec(a:Addr)(f b c d:Int)(h:Heap)(K:KK)(H:newK h (.cells #[.int .u32 b,.int .u32 c,.int .u32 d] 115) fun b1 h2=>ldI .u32 (rd h2 ((Addr.mk b1 0 none).add 0)) fun n3=>ldI .u32 (rd h2 ((Addr.mk b1 0 none).add 1)) fun n4=>ldI .u32 (rd h2 ((Addr.mk b1 0 none).add 2)) fun n5=>stK h2 ((a.add 1).add 0) (.int .u8 f) fun h6=>((.pointer (some a))=((.pointer (some a)):Value)∧((.pointer (some a))=((.pointer (some a)):Value)∧((.pointer (some a))=((.pointer (some a)):Value)∧ldI .u32 (rd h6 ((Addr.mk b1 0 none).add 0)) fun n7=>ldI .u32 (rd h6 ((Addr.mk b1 0 none).add 1)) fun n8=>ldI .u32 (rd h6 ((Addr.mk b1 0 none).add 2)) fun n9=>((.agg #[.int .u32 n7,.int .u32 n8,.int .u32 n9])=((.agg #[.int .u32 n3,.int .u32 n4,.int .u32 n5]):Value)∧stK h6 ((a.add 2).add 0) (.int .u8 0) fun h10=>((.pointer (some a))=((.pointer (some a)):Value)∧((.pointer (some a))=((.pointer (some a)):Value)∧ldI .u32 (rd h10 ((Addr.mk b1 0 none).add 0)) fun n11=>ldI .u32 (rd h10 ((Addr.mk b1 0 none).add 1)) fun n12=>ldI .u32 (rd h10 ((Addr.mk b1 0 none).add 2)) fun n13=>((.agg #[.int .u32 n11,.int .u32 n12,.int .u32 n13])=((.agg #[.int .u32 n3,.int .u32 n4,.int .u32 n5]):Value)∧stK h10 ((a.add 3).add 0) (.int .u32 n3) fun h14=>stK h14 ((a.add 3).add 1) (.int .u32 n4) fun h15=>stK h15 ((a.add 3).add 2) (.int .u32 n5) fun h16=>((.pointer (some a))=((.pointer (some a)):Value)∧stK h16 ((a.add 7).add 0) (.int .u32 0) fun h17=>stK h17 ((a.add 8).add 0) (.func (.func 180) #[.pointer (some a)] #[]) fun h18=>K (.tuple #[]) h18))))))))):Cl 187 [.pointer (some a),.int .u8 f,.agg #[.int .u32 b,.int .u32 c,.int .u32 d]] h K:=cT F187.T Tryz.func187 H
def F188.T:Hint:=⟨[],[(2,[[(0,[]),(1,[]),(2,[]),(3,[]),(4,[]),(5,[]),(6,[]),(7,[]),(8,[]),(9,[]),(10,[]),(11,[]),(12,[]),(13,[0]),(14,[])]])]⟩
theorem F188.spec(a:Addr)(h:Heap)(K:KK)(H:ldP (rd h (a.add 0)) fun p1=>ptrK p1 fun a2=>ldI .u32 (rd h (a2.add 2)) fun n3=>stK h ((a.add 7).add 0) (.int .u32 n3) fun h4=>stK h4 ((a.add 8).add 0) (.func (.func 233) #[.pointer (some a)] #[]) fun h5=>ldP (rd h5 (a.add 0)) fun p6=>ptrK p6 fun a7=>ldP (rd h5 (a7.add 0)) fun p8=>0≤(0:Int)∧(0:Int)<(Nat.cast 3:Int)∧ldI .u32 (rd h5 ((a.add 3).add (Int.toNat (0:Int)*1))) fun n9=>Cl 73 [.pointer p8,.int .u32 n9] h5 fun v10 h11=>ldI .u32 (some v10) fun n12=>((.pointer (some a))=((.pointer (some a)):Value)∧Cl 231 [.pointer (some a),.int .u32 n12,.func (.func 189) #[] #[]] h11 fun v13 h14=>v13=(.tuple #[])∧K (.tuple #[]) h14)):Cl 188 [.pointer (some a)] h K:=cT F188.T Tryz.func188 H
theorem F189.spec(a:Addr)(h:Heap)(K:KK)(H:K (.func (.func 137) #[.pointer (some a)] #[]) h):Cl 189 [.pointer (some a)] h K:=cN Tryz.func189 H
theorem F190.spec(a:Addr)(h:Heap)(K:KK)(H:stK h ((a.add 8).add 0) (.func (.func 234) #[.pointer (some a)] #[]) fun h1=>ldP (rd h1 (a.add 0)) fun p2=>ptrK p2 fun a3=>ldI .u32 (rd h1 (a3.add 2)) fun n4=>Cl 235 [.pointer (some a),.int .u32 n4,.int .i64 85] h1 fun v5 h6=>v5=(.tuple #[])∧K (.tuple #[]) h6):Cl 190 [.pointer (some a)] h K:=cN Tryz.func190 H
def F191.T:Hint:=⟨[],[(1,[[(0,[]),(1,[]),(2,[]),(3,[]),(4,[]),(5,[]),(6,[]),(7,[]),(8,[]),(9,[]),(10,[]),(11,[]),(12,[]),(13,[]),(14,[]),(15,[]),(16,[]),(17,[])]])]⟩
theorem F191.spec(a:Addr)(h:Heap)(K:KK)(H:stK h ((a.add 8).add 0) (.func (.func 236) #[.pointer (some a)] #[]) fun h1=>ldP (rd h1 (a.add 0)) fun p2=>ldP (rd h1 (a.add 0)) fun p3=>ptrK p3 fun a4=>ldI .u32 (rd h1 (a4.add 2)) fun n5=>0≤(1:Int)∧(1:Int)<(Nat.cast 3:Int)∧ldI .u32 (rd h1 ((a.add 3).add (Int.toNat (1:Int)*1))) fun n6=>Cl 135 [.pointer p2,.int .u8 2,.int .u8 0,.agg #[.int .u32 n5,.int .u32 n6,.int .u32 0]] h1 fun v7 h8=>ldP (some v7) fun _=>K (.tuple #[]) h8):Cl 191 [.pointer (some a)] h K:=cT F191.T Tryz.func191 H
def F192.T:Hint:=⟨[],[(1,[[(0,[]),(1,[]),(2,[]),(3,[]),(4,[]),(5,[]),(6,[]),(7,[]),(8,[]),(9,[])]])]⟩
theorem F192.spec(a:Addr)(h:Heap)(K:KK)(H:(0≤(0:Int)∧(0:Int)<(Nat.cast 3:Int)∧ldI .u32 (rd h ((a.add 3).add (Int.toNat (0:Int)*1))) fun n1=>bcase (decide (n1≤(1:Int))) (ldP (rd h (a.add 0)) fun p2=>0≤(0:Int)∧(0:Int)<(Nat.cast 3:Int)∧ldI .u32 (rd h ((a.add 3).add (Int.toNat (0:Int)*1))) fun n3=>Cl 181 [.pointer p2,.int .u32 n3] h fun v4 h5=>v4=(.tuple #[])∧K (.tuple #[]) h5) (Cl 183 [.pointer (some a),.func (.func 237) #[.pointer (some a)] #[],.func (.func 238) #[] #[]] h fun v6 h7=>v6=(.tuple #[])∧K (.tuple #[]) h7))):Cl 192 [.pointer (some a)] h K:=cT F192.T Tryz.func192 H
def F231.T:Hint:=⟨[],[(0,[[(0,[]),(1,[]),(2,[]),(3,[]),(4,[]),(5,[]),(6,[]),(7,[]),(8,[]),(9,[]),(10,[]),(11,[]),(12,[]),(13,[]),(14,[]),(15,[]),(16,[]),(17,[]),(18,[]),(19,[]),(20,[])]])]⟩
theorem F231.spec(a:Addr)(b:Int)(c:Value)(h:Heap)(K:KK)(H:ldP (rd h (a.add 0)) fun p1=>ldI .u8 (rd h (a.add 1)) fun n2=>ldI .u8 (rd h (a.add 2)) fun n3=>0≤(1:Int)∧(1:Int)<(Nat.cast 3:Int)∧ldI .u32 (rd h ((a.add 3).add (Int.toNat (1:Int)*1))) fun n4=>Cl 135 [.pointer p1,.int .u8 n2,.int .u8 n3,.agg #[.int .u32 b,.int .u32 n4,.int .u32 0]] h fun v5 h6=>ldP (some v5) fun p7=>dynK Tryz.prog X c [.pointer p7] h6 fun v8 h9=>ldV (some v8) fun v10=>ptrK p7 fun a11=>storeE Tryz.prog 1 (some (a11.add 8)) v10 h9 fun h12=>K (.tuple #[]) h12):Cl 231 [.pointer (some a),.int .u32 b,c] h K:=cT F231.T Tryz.func231 H
def F232.T:Hint:=⟨[(7,[0,4])],[(0,[[(0,[]),(1,[]),(2,[]),(3,[]),(4,[]),(5,[]),(6,[]),(7,[]),(8,[]),(9,[]),(10,[]),(12,[]),(13,[]),(14,[]),(15,[]),(11,[0,1,2,3,12,13,14,15]),(16,[0,1,2,3]),(17,[]),(18,[]),(19,[])]]),(1,[[(0,[]),(1,[]),(2,[]),(3,[]),(4,[]),(5,[]),(6,[]),(7,[]),(8,[]),(9,[]),(10,[]),(11,[]),(12,[]),(13,[]),(14,[]),(15,[]),(16,[]),(17,[]),(18,[]),(19,[]),(20,[]),(21,[])]]),(8,[[(0,[]),(1,[]),(2,[]),(3,[]),(4,[]),(5,[]),(6,[]),(7,[]),(8,[]),(9,[]),(10,[]),(11,[]),(12,[]),(13,[]),(14,[]),(15,[]),(16,[]),(17,[])]])]⟩
section
variable (a:Addr)(b:Int)(h:Heap)(K:KK)
def F232.wk7:Prop:=stK h ((a.add 8).add 0) (.func (.func 278) #[.pointer (some a)] #[]) fun h1=>ldP (rd h1 (a.add 0)) fun p2=>ldI .u32 (rd h1 (a.add 7)) fun n3=>ldP (rd h1 (a.add 0)) fun p4=>ptrK p4 fun a5=>ldI .u32 (rd h1 (a5.add 2)) fun n6=>Cl 135 [.pointer p2,.int .u8 b,.int .u8 0,.agg #[.int .u32 n3,.int .u32 n6,.int .u32 0]] h1 fun v7 h8=>ldP (some v7) fun _=>K (.tuple #[]) h8
theorem F232.spec(a:Addr)(h:Heap)(K:KK)(H:ldI .u8 (rd h (a.add 2)) fun n1=>ldP (rd h (a.add 0)) fun p2=>ptrK p2 fun a3=>ldP (rd h (a3.add 0)) fun p4=>ldI .i64 (rd h (a.add 6)) fun n5=>Cl 47 [.pointer p4] h fun v6 h7=>ldP (some v6) fun p8=>((.pointer (some a))=((.pointer (some a)):Value)∧((.pointer (some a))=((.pointer (some a)):Value)∧((.pointer (some (a.add 2)))=((.pointer (some (a.add 2))):Value)∧ldI .u8 (rd h7 (a.add 2)) fun n9=>((.int .u8 n9)=((.int .u8 n1):Value)∧((.pointer (some a))=((.pointer (some a)):Value)∧((.pointer (some a))=((.pointer (some a)):Value)∧((.pointer (some (a.add 6)))=((.pointer (some (a.add 6))):Value)∧ldI .i64 (rd h7 (a.add 6)) fun n10=>((.int .i64 n10)=((.int .i64 n5):Value)∧Cl 272 [.pointer p8,.int .i64 n5] h7 fun v11 h12=>ldI .i64 (some v11) fun n13=>((.pointer (some a))=((.pointer (some a)):Value)∧((.pointer (some a))=((.pointer (some a)):Value)∧((.pointer (some (a.add 2)))=((.pointer (some (a.add 2))):Value)∧ldI .u8 (rd h12 (a.add 2)) fun n14=>((.int .u8 n14)=((.int .u8 n1):Value)∧(0≤n13∧bcase ((bitsI .and .u8 (Int.fdiv n1 (2^(min (Int.toNat n13) (IntKind.bits .u8)))) (1:Int))==(0:Int)) (ldI .i64 (rd h12 (a.add 6)) fun n15=>ldI .u32 (rd h12 (a.add 7)) fun n16=>ldP (rd h12 (a.add 0)) fun p17=>ptrK p17 fun a18=>ldI .u32 (rd h12 (a18.add 2)) fun n19=>Cl 276 [.pointer (some a),.int .i64 n15,.int .u32 n16,.int .u32 n19] h12 fun v20 h21=> ∃n22:Int,∃b23:Bool,v20=(.tuple #[.int .u32 n22,.bool b23])∧bcase b23 (Cl 277 [.pointer (some a),.int .u32 n22] h21 fun v24 h25=>v24=(.tuple #[])∧K (.tuple #[]) h25) (K (.tuple #[]) h21)) (ldI .u8 (rd h12 (a.add 1)) fun n26=>bcase (n26==(7:Int)) (F232.wk7 a (2:Int) h12 K) (F232.wk7 a (3:Int) h12 K)))))))))))))))):Cl 232 [.pointer (some a)] h K:=cT F232.T Tryz.func232 H
end
def F233.T:Hint:=⟨[],[(0,[[(0,[]),(1,[]),(2,[]),(3,[]),(4,[]),(5,[]),(6,[]),(7,[]),(8,[]),(9,[]),(10,[]),(11,[])]]),(2,[[(0,[]),(1,[]),(2,[]),(3,[]),(4,[]),(5,[]),(6,[]),(7,[]),(8,[]),(9,[]),(10,[]),(11,[]),(12,[]),(13,[0]),(14,[]),(15,[]),(16,[])]])]⟩
theorem F233.spec(a:Addr)(h:Heap)(K:KK)(H:ldP (rd h (a.add 0)) fun p1=>ptrK p1 fun a2=>ldI .u32 (rd h (a2.add 2)) fun n3=>0≤(1:Int)∧(1:Int)<(Nat.cast 3:Int)∧stK h (((a.add 3).add (Int.toNat (1:Int)*1)).add 0) (.int .u32 n3) fun h4=>stK h4 ((a.add 8).add 0) (.func (.func 279) #[.pointer (some a)] #[]) fun h5=>ldP (rd h5 (a.add 0)) fun p6=>ptrK p6 fun a7=>ldP (rd h5 (a7.add 0)) fun p8=>0≤(0:Int)∧(0:Int)<(Nat.cast 3:Int)∧ldI .u32 (rd h5 ((a.add 3).add (Int.toNat (0:Int)*1))) fun n9=>Cl 71 [.pointer p8,.int .u32 n9] h5 fun v10 h11=>ldI .i64 (some v10) fun n12=>((.pointer (some a))=((.pointer (some a)):Value)∧stK h11 ((a.add 6).add 0) (.int .i64 n12) fun h13=>K (.tuple #[]) h13)):Cl 233 [.pointer (some a)] h K:=cT F233.T Tryz.func233 H
theorem F234.spec(a:Addr)(h:Heap)(K:KK)(H:ldP (rd h (a.add 0)) fun p1=>ptrK p1 fun a2=>ldI .u32 (rd h (a2.add 2)) fun n3=>stK h ((a.add 3).add 0) (.int .u32 n3) fun h4=>stK h4 ((a.add 3).add 1) (.int .u32 0) fun h5=>stK h5 ((a.add 3).add 2) (.int .u32 0) fun h6=>stK h6 ((a.add 8).add 0) (.func (.func 192) #[.pointer (some a)] #[]) fun h7=>K (.tuple #[]) h7):Cl 234 [.pointer (some a)] h K:=cN Tryz.func234 H
theorem F235.spec(a:Addr)(b c:Int)(h:Heap)(K:KK)(H:ldP (rd h (a.add 0)) fun p1=>ptrK p1 fun a2=>ldP (rd h (a2.add 0)) fun p3=>Cl 75 [.pointer p3] h fun v4 h5=>ldI .i64 (some v4) fun n6=>0≤n6∧ldP (rd h5 (a.add 0)) fun p7=>Cl 135 [.pointer p7,.int .u8 6,.int .u8 (IntKind.wrap .u8 (bitsI .and .i64 c (IntKind.wrap .i64 ((IntKind.wrap .i64 ((1:Int)*2^(min (Int.toNat n6) (IntKind.bits .i64))))-(1:Int))))),.agg #[.int .u32 b,.int .u32 0,.int .u32 0]] h5 fun v8 h9=>ldP (some v8) fun p10=>ptrK p10 fun a11=>stK h9 ((a11.add 8).add 0) (.func (.func 136) #[.pointer p10] #[]) fun h12=>K (.tuple #[]) h12):Cl 235 [.pointer (some a),.int .u32 b,.int .i64 c] h K:=cN Tryz.func235 H
theorem F236.spec(a:Addr)(h:Heap)(K:KK)(H:stK h ((a.add 8).add 0) (.func (.func 280) #[.pointer (some a)] #[]) fun h1=>ldP (rd h1 (a.add 0)) fun p2=>ptrK p2 fun a3=>ldI .u32 (rd h1 (a3.add 2)) fun n4=>Cl 235 [.pointer (some a),.int .u32 n4,.int .i64 170] h1 fun v5 h6=>v5=(.tuple #[])∧K (.tuple #[]) h6):Cl 236 [.pointer (some a)] h K:=cN Tryz.func236 H
def F237.T:Hint:=⟨[],[(2,[[(0,[]),(1,[]),(2,[]),(3,[]),(4,[]),(5,[]),(6,[]),(7,[]),(8,[]),(9,[]),(10,[]),(11,[]),(12,[]),(13,[0]),(14,[])]])]⟩
theorem F237.spec(a:Addr)(h:Heap)(K:KK)(H:ldP (rd h (a.add 0)) fun p1=>ptrK p1 fun a2=>ldI .u32 (rd h (a2.add 2)) fun n3=>stK h ((a.add 7).add 0) (.int .u32 n3) fun h4=>stK h4 ((a.add 8).add 0) (.func (.func 281) #[.pointer (some a)] #[]) fun h5=>ldP (rd h5 (a.add 0)) fun p6=>ptrK p6 fun a7=>ldP (rd h5 (a7.add 0)) fun p8=>0≤(0:Int)∧(0:Int)<(Nat.cast 3:Int)∧ldI .u32 (rd h5 ((a.add 3).add (Int.toNat (0:Int)*1))) fun n9=>Cl 73 [.pointer p8,.int .u32 n9] h5 fun v10 h11=>ldI .u32 (some v10) fun n12=>((.pointer (some a))=((.pointer (some a)):Value)∧Cl 231 [.pointer (some a),.int .u32 n12,.func (.func 238) #[] #[]] h11 fun v13 h14=>v13=(.tuple #[])∧K (.tuple #[]) h14)):Cl 237 [.pointer (some a)] h K:=cT F237.T Tryz.func237 H
theorem F238.spec(a:Addr)(h:Heap)(K:KK)(H:K (.func (.func 192) #[.pointer (some a)] #[]) h):Cl 238 [.pointer (some a)] h K:=cN Tryz.func238 H
def F277.T:Hint:=⟨[],[(0,[[(0,[]),(1,[]),(2,[]),(3,[]),(4,[]),(5,[]),(6,[]),(7,[]),(8,[]),(9,[]),(10,[]),(11,[]),(12,[]),(13,[]),(14,[]),(15,[]),(16,[]),(17,[]),(18,[]),(19,[]),(20,[]),(21,[])]])]⟩
theorem F277.spec(a:Addr)(b:Int)(h:Heap)(K:KK)(H:ldP (rd h (a.add 0)) fun p1=>ptrK p1 fun a2=>ldP (rd h (a2.add 0)) fun p3=>ldI .u8 (rd h (a.add 1)) fun n4=>ldI .u8 (rd h (a.add 2)) fun n5=>0≤(0:Int)∧(0:Int)<(Nat.cast 3:Int)∧ldI .u32 (rd h ((a.add 3).add (Int.toNat (0:Int)*1))) fun n6=>Cl 207 [.pointer p3,.int .u8 n4,.int .u8 n5,.int .u32 n6,.int .u32 0,.int .u32 0,.int .u32 b] h fun v7 h8=>v7=(.tuple #[])∧ldP (rd h8 (a.add 0)) fun p9=>Cl 181 [.pointer p9,.int .u32 b] h8 fun v10 h11=>v10=(.tuple #[])∧K (.tuple #[]) h11):Cl 277 [.pointer (some a),.int .u32 b] h K:=cT F277.T Tryz.func277 H
theorem F278.spec(a:Addr)(h:Heap)(K:KK)(H:ldP (rd h (a.add 0)) fun p1=>ptrK p1 fun a2=>ldI .u32 (rd h (a2.add 2)) fun n3=>Cl 277 [.pointer (some a),.int .u32 n3] h fun v4 h5=>v4=(.tuple #[])∧K (.tuple #[]) h5):Cl 278 [.pointer (some a)] h K:=cN Tryz.func278 H
theorem F279.spec(a:Addr)(h:Heap)(K:KK)(H:ldI .i64 (rd h (a.add 6)) fun n1=>Cl 303 [.pointer (some a),.int .i64 n1] h fun v2 h3=>v2=(.tuple #[])∧K (.tuple #[]) h3):Cl 279 [.pointer (some a)] h K:=cN Tryz.func279 H
def F280.T:Hint:=⟨[],[(0,[[(0,[]),(1,[]),(2,[]),(3,[]),(4,[]),(5,[]),(6,[]),(7,[]),(8,[]),(9,[]),(10,[]),(11,[])]])]⟩
theorem F280.spec(a:Addr)(h:Heap)(K:KK)(H:ldP (rd h (a.add 0)) fun p1=>ldP (rd h (a.add 0)) fun p2=>ptrK p2 fun a3=>ldI .u32 (rd h (a3.add 2)) fun n4=>Cl 181 [.pointer p1,.int .u32 n4] h fun v5 h6=>v5=(.tuple #[])∧K (.tuple #[]) h6):Cl 280 [.pointer (some a)] h K:=cT F280.T Tryz.func280 H
def F281.T:Hint:=⟨[],[(1,[[(0,[]),(1,[]),(2,[]),(3,[]),(4,[]),(5,[]),(6,[]),(7,[]),(8,[]),(9,[]),(10,[]),(11,[])]])]⟩
theorem F281.spec(a:Addr)(h:Heap)(K:KK)(H:ldP (rd h (a.add 0)) fun p1=>ptrK p1 fun a2=>ldP (rd h (a2.add 0)) fun p3=>Cl 47 [.pointer p3] h fun v4 h5=>ldP (some v4) fun p6=>ldP (rd h5 (a.add 0)) fun p7=>ptrK p7 fun a8=>ldI .u32 (rd h5 (a8.add 2)) fun n9=>0≤(1:Int)∧(1:Int)<(Nat.cast 3:Int)∧stK h5 (((a.add 3).add (Int.toNat (1:Int)*1)).add 0) (.int .u32 n9) fun h10=>ldI .i64 (rd h10 (a.add 6)) fun n11=>Cl 272 [.pointer p6,.int .i64 n11] h10 fun v12 h13=>ldI .i64 (some v12) fun n14=>Cl 186 [.pointer p6,.int .i64 (bitsI .xor .i64 n14 (1:Int))] h13 fun v15 h16=>ldI .i64 (some v15) fun n17=>Cl 303 [.pointer (some a),.int .i64 n17] h16 fun v18 h19=>v18=(.tuple #[])∧K (.tuple #[]) h19):Cl 281 [.pointer (some a)] h K:=cT F281.T Tryz.func281 H
def F303.T:Hint:=⟨[],[(2,[[(0,[]),(1,[]),(2,[]),(3,[]),(4,[]),(5,[]),(6,[]),(7,[]),(8,[]),(9,[]),(10,[]),(11,[]),(12,[])]])]⟩
theorem F303.spec(a:Addr)(b:Int)(h:Heap)(K:KK)(H:Cl 276 [.pointer (some a),.int .i64 b,.int .u32 0,.int .u32 1] h fun v1 h2=> ∃n3:Int,∃b4:Bool,v1=(.tuple #[.int .u32 n3,.bool b4])∧bcase b4 ((0≤(1:Int)∧(1:Int)<(Nat.cast 3:Int)∧ldI .u32 (rd h2 ((a.add 3).add (Int.toNat (1:Int)*1))) fun n5=>ldI .u32 (rd h2 (a.add 7)) fun n6=>Cl 187 [.pointer (some a),.int .u8 5,.agg #[.int .u32 n3,.int .u32 n5,.int .u32 n6]] h2 fun v7 h8=>v7=(.tuple #[])∧K (.tuple #[]) h8)) (K (.tuple #[]) h2)):Cl 303 [.pointer (some a),.int .i64 b] h K:=cT F303.T Tryz.func303 H
end
section
theorem go185:xget X 185=some Ext.go:=by kernel_rfl
theorem mk185{b:Nat}{h:Heap}{K:Value→Heap→Prop}(hK:K (goV 136 b) h):Cl 185 [ptrV b] h K:=by
 refine F185.spec _ h K ?_
 exact hK
theorem go189:xget X 189=some Ext.go:=by kernel_rfl
theorem mk189{b:Nat}{h:Heap}{K:Value→Heap→Prop}(hK:K (goV 137 b) h):Cl 189 [ptrV b] h K:=by
 refine F189.spec _ h K ?_
 exact hK
theorem go238:xget X 238=some Ext.go:=by kernel_rfl
theorem mk238{b:Nat}{h:Heap}{K:Value→Heap→Prop}(hK:K (goV 192 b) h):Cl 238 [ptrV b] h K:=by
 refine F238.spec _ h K ?_
 exact hK
section
variable {h:Heap}{s n room:Nat}{fo gg:Nat→Nat}{off:Bool}{N:List (Option Nd)}{A:MA}{fl:List Fk}{fr:Fk}{K:Value→Heap→Prop}{L:List Nat}
theorem store1{b k q x:Nat}{h:Heap}{K:Heap→Prop}:storeE Tryz.prog 1 (some ⟨b,k,none⟩) (goV q x) h K=stK h (Addr.add ⟨b,k,none⟩ 0) (goV q x) K:=by kernel_rfl
theorem mk276{l a b:Nat}(H:Sto h s L (XL n room fo gg N off))(M:MaIs h s {A with fs:=fl++[fr]})(D: ∀b∈({A with fs:=fl++[fr]}:MA).bl,b∉L)
  (hln:l<n) (ha:isN N a) (hb:isN N b) (la:l<lvl n N a) (lb:l<lvl n N b)
  (hY: ∀h' L' N' (r:Nat),MkRel room N l a b N' r 0→Ex N N'→Sto h' s L' (XL n room fo gg N' off)→MaIs h' s {A with fs:=fl++[fr]}→Only L h h'→Fresh L L' h→K (.tuple #[.int .u32 (r:Int),.bool true]) h')
  (hE: ∀h' L' (r:Nat),room≤cntN N→Sto h' s L' (XL n room fo gg N off)→MaIs h' s {A with fp:=none,fc:=0,fs:=[],done:=true,e:=60}→Only (L++({A with fs:=fl++[fr]}:MA).bl) h h'→Fresh L L' h→K (.tuple #[.int .u32 (r:Int),.bool false]) h'):
  Cl 276 [ptrV fr.b,.int .i64 (l:Int),.int .u32 (a:Int),.int .u32 (b:Int)] h K:=by
 have ok:=H.ok
 dsimp only[XL]at ok
 refine F276.spec _ _ _ _ h _ ?_
 simp only[add_mk,Nat.zero_add,Nat.add_zero]
 have hlt:=M.lt
 refine ldP_of (frame_rd M.ftop).1 ?_
 rw[ptrK_some]
 simp only[add_mk,Nat.zero_add,Nat.add_zero]
 refine ldP_of (mach_rd M.own).1 ?_
 refine sto_mk H (l:=l) hln ha hb la lb fun h1 L1 N1 r e R S1 O1 g1=>⟨_,_,rfl,?_⟩
 dsimp only[XL]at R
 have DD: ∀b∈({A with fs:=fl++[fr]}:MA).bl,b∉L1:=fun b hb hm=>by
  rcases g1 b hm with h|h
  ·exact D b hb h
  ·have:=hlt b hb;omega
 have M1:=M.only O1 (fun b hb hm=>D b hm hb)
 have ok1:=S1.ok
 dsimp only[XL]at ok1
 by_cases he:e=0
 ·subst he
  have E1:Ex N N1:=(mk_node (f:=fo) ok.1 ok1.1 ha hb la R).1
  rw[show((((0:Nat):Int)) !=(0:Int))=false from rfl,bcase_false]
  exact hY h1 L1 N1 r R E1 (sto_XL S1 ok.1 E1) M1 O1 g1
 ·have hfull:room≤cntN N∧e=60∧N1=N:=by
   rcases R with⟨-,-,h,-⟩|⟨-,_,-,-,h,-⟩|⟨-,-,h1,-,h2,h3⟩|⟨-,-,-,h,-⟩
   ·exact absurd h he
   ·exact absurd h he
   ·exact⟨h1,h2,h3⟩
   ·exact absurd h he
  obtain⟨hf1,rfl,rfl⟩:=hfull
  rw[show((((60:Nat):Int)) !=(0:Int))=true from rfl,bcase_true]
  obtain⟨p0,-⟩:=frame_rd M1.ftop
  refine ldP_of p0 (ldP_of p0 (ldP_of p0 ?_))
  rw[ptrK_some]
  simp only[add_mk,Nat.zero_add,Nat.add_zero]
  refine stK_at M1.own (by simp[cellM]) rfl fun h2 A2 O2 z2=> ?_
  rw[ptrK_some]
  simp only[add_mk,Nat.zero_add,Nat.add_zero]
  refine stK_at A2 (by simp[cellM]) rfl fun h3 A3 O3 z3=> ?_
  rw[ptrK_some]
  simp only[add_mk,Nat.zero_add,Nat.add_zero]
  refine stK_at A3 (by simp[cellM]) rfl fun h4 A4 O4 z4=> ?_
  have O14:Only [A.m] h1 h4:=(O2.trans O3 fun b hb _=>hb).trans O4 fun b hb _=>hb
  have nm:A.m∉L1:=DD A.m (by simp[MA.bl])
  refine hE h4 L1 r hf1 (S1.only O14 fun b hb hm=>by simp only[List.mem_singleton]at hb;subst hb;exact nm hm) ⟨?_,Win.nil _ _,(fun f hf=>by cases hf),by simp[MA.bl,OwnB]⟩ ?_ g1
  ·have e:(((cellM s {A with fs:=fl++[fr]}).set 4 (.int .i64 ((60:Nat):Int))).set 3 (.bool true)).set 1 (.slice none 0 0)=cellM s {A with fp:=none,fc:=0,fs:=[],done:=true,e:=60}:=by simp[cellM]
   rw[←e]
   exact A4
  ·refine(O1.mono (T:=L++({A with fs:=fl++[fr]}:MA).bl) fun x hx _=>List.mem_append.2 (.inl hx)).trans O14 fun x hx _=> ?_
   simp only[List.mem_singleton]at hx
   subst hx
   exact List.mem_append.2 (.inr (by simp[MA.bl]))
theorem into231{c g q:Nat}(M:MaIs h s {A with fs:=fl++[fr]})(hl:fl.length<100000)(hx:xget X g=some .go)(hg: ∀{b:Nat} {h:Heap} {K:Value→Heap→Prop},K (goV q b) h→Cl g [ptrV b] h K)
  (hK: ∀h' b fp fc,h.size≤b→MaIs h' s {A with fp:=fp,fc:=fc,fs:=fl++[fr]++[⟨b,fr.op,fr.mask,c,fr.a1,0,0,0,q⟩]}→(∀b∈OwnB fp,b∈OwnB A.fp∨h.size≤b)→Only (A.m::OwnB A.fp) h h'→K (.tuple #[]) h'):
  Cl 231 [ptrV fr.b,.int .u32 (c:Int),.func (.func g) #[] #[]] h K:=by
 refine F231.spec _ _ _ h K ?_
 simp only[add_mk,Nat.zero_add,Nat.add_zero]
 have F:=M.ftop
 have r: ∀k,rd h ⟨fr.b,k,none⟩=(cellK A.m fr)[k]? :=fun k=>cellK_rd F k
 refine ldP_of (by rw[r];rfl) (ldI_of (n:=(fr.op:Int)) (by rw[r];rfl) (ldI_of (n:=(fr.mask:Int)) (by rw[r];rfl) ⟨by omega,by omega,ldI_of (n:=(fr.a1:Int)) (by rw[show 3+Int.toNat (1:Int)*1=4 from rfl,r];rfl) ?_⟩))
 refine calls135 (A:={A with fs:=fl++[fr]}) M (by simp;omega) fun h9 g9 fp fc hg9 M9 O9 own9=>ldP_of rfl ?_
 obtain⟨b,rfl,hb9⟩:=hg9
 refine dynK_go hx (hg ?_)
 rw[ldV_some,ptrK_some,add_mk,store1,add_mk,Nat.zero_add,Nat.add_zero]
 refine MaIs.top (A:={A with fp:=fp,fc:=fc}) (fl:=fl++[fr]) (f':=⟨b,fr.op,fr.mask,c,fr.a1,0,0,0,q⟩) M9 (by decide) rfl rfl rfl fun h10 M10 O10=> ?_
 have z9:=O9.size
 exact hK h10 b fp fc hb9 M10 own9 (O9.trans O10 fun x hx hl=>by simp only[List.mem_singleton]at hx;omega)
theorem own_bl: ∀x∈A.m::OwnB A.fp,x∈({A with fs:=fl++[fr]}:MA).bl:=fun x hx=>by
 rcases List.mem_cons.1 hx with e|hx
 ·subst e;simp[MA.bl]
 ·simp[MA.bl,hx]
theorem walks183{nx g q:Nat}(H:Sto h s L (XL n room fo gg N off))(M:MaIs h s {A with fs:=fl++[fr]})(D: ∀b∈({A with fs:=fl++[fr]}:MA).bl,b∉L)(hl:fl.length<100000)(ha:isN N fr.a0)
  (hx:xget X g=some .go) (hg: ∀{b:Nat} {h:Heap} {K:Value→Heap→Prop},K (goV q b) h→Cl g [ptrV b] h K)
  (hK: ∀h' b fp fc,h.size≤b→MaIs h' s {A with fp:=fp,fc:=fc,fs:=fl++[{fr with level:=lvl n N fr.a0,fn:=nx}]++[⟨b,fr.op,fr.mask,low N fr.a0,fr.a1,0,0,0,q⟩]}→(∀b∈OwnB fp,b∈OwnB A.fp∨h.size≤b)→Only ({A with fs:=fl++[fr]}:MA).bl h h'→K (.tuple #[]) h'):
  Cl 183 [ptrV fr.b,goV nx fr.b,.func (.func g) #[] #[]] h K:=by
 refine F183.spec _ _ _ h K ?_
 simp only[add_mk,Nat.zero_add,Nat.add_zero]
 have nfr:fr.b∉L:=D _ top_mem
 refine ldP_of (frame_rd M.ftop).1 ?_
 rw[ptrK_some]
 simp only[add_mk,Nat.zero_add,Nat.add_zero]
 refine ldP_of (mach_rd M.own).1 ⟨by omega,by omega,ldI_of (n:=(fr.a0:Int)) (frame_rd M.ftop).2.2.1 ?_⟩
 refine sto_level H ha (ldI_of rfl ⟨by trivial,?_⟩)
 refine M.top (f':={fr with level:=lvl n N fr.a0}) (by decide) rfl rfl rfl fun h1 M1 O1=> ?_
 rw[store1,add_mk,Nat.add_zero]
 refine M1.top (f':={fr with level:=lvl n N fr.a0,fn:=nx}) (by decide) rfl rfl rfl fun h2 M2 O2=> ?_
 have O02:Only [fr.b] h h2:=O1.trans O2 fun b hb _=>hb
 have S2:=H.only O02 (fun b hb hm=>by simp only[List.mem_singleton]at hb;subst hb;exact nfr hm)
 refine ldP_of (frame_rd M2.ftop).1 ?_
 rw[ptrK_some]
 simp only[add_mk,Nat.zero_add,Nat.add_zero]
 refine ldP_of (mach_rd M2.own).1 ⟨by omega,by omega,ldI_of (n:=(fr.a0:Int)) (frame_rd M2.ftop).2.2.1 ?_⟩
 refine sto_low S2 ha (ldI_of rfl ⟨by trivial,by trivial,?_⟩)
 refine into231 (fr:={fr with level:=lvl n N fr.a0,fn:=nx}) M2 hl hx hg fun h3 b fp fc hb M3 own O3=>⟨rfl,?_⟩
 have z:=O02.size
 refine hK h3 b fp fc (by omega) M3 (fun x hx=>(own x hx).imp id fun h=>by omega) ((O02.mono fun x hx _=> ?_).trans O3 fun x hx _=>own_bl x hx)
 simp only[List.mem_singleton]at hx
 subst hx
 exact top_mem
theorem high184(H:Sto h s L (XL n room fo gg N off))(M:MaIs h s {A with fs:=fl++[fr]})(D: ∀b∈({A with fs:=fl++[fr]}:MA).bl,b∉L)(hl:fl.length<100000)(ha:isN N fr.a0)
  (hK: ∀h' b fp fc,h.size≤b→MaIs h' s {A with fp:=fp,fc:=fc,fs:=fl++[{fr with low:=A.told,fn:=232}]++[⟨b,fr.op,fr.mask,high N fr.a0,fr.a1,0,0,0,136⟩]}→(∀b∈OwnB fp,b∈OwnB A.fp∨h.size≤b)→Only ({A with fs:=fl++[fr]}:MA).bl h h'→K (.tuple #[]) h'):
  Cl 184 [ptrV fr.b] h K:=by
 refine F184.spec _ h K ?_
 simp only[add_mk,Nat.zero_add,Nat.add_zero]
 have nfr:fr.b∉L:=D _ top_mem
 refine ldP_of (frame_rd M.ftop).1 ?_
 rw[ptrK_some]
 simp only[add_mk,Nat.zero_add,Nat.add_zero]
 refine ldI_of (mach_rd M.own).2.2.1 ?_
 refine M.top (f':={fr with low:=A.told}) (by decide) rfl rfl rfl fun h1 M1 O1=> ?_
 refine M1.top (f':={fr with low:=A.told,fn:=232}) (by decide) rfl rfl rfl fun h2 M2 O2=> ?_
 have O02:Only [fr.b] h h2:=O1.trans O2 fun b hb _=>hb
 have S2:=H.only O02 (fun b hb hm=>by simp only[List.mem_singleton]at hb;subst hb;exact nfr hm)
 refine ldP_of (frame_rd M2.ftop).1 ?_
 rw[ptrK_some]
 simp only[add_mk,Nat.zero_add,Nat.add_zero]
 refine ldP_of (mach_rd M2.own).1 ⟨by omega,by omega,ldI_of (n:=(fr.a0:Int)) (frame_rd M2.ftop).2.2.1 ?_⟩
 refine sto_high S2 ha (ldI_of rfl ⟨by trivial,?_⟩)
 refine into231 (fr:={fr with low:=A.told,fn:=232}) M2 hl go185 mk185 fun h3 b fp fc hb M3 own O3=>⟨rfl,?_⟩
 have z:=O02.size
 refine hK h3 b fp fc (by omega) M3 (fun x hx=>(own x hx).imp id fun h=>by omega) ((O02.mono fun x hx _=> ?_).trans O3 fun x hx _=>own_bl x hx)
 simp only[List.mem_singleton]at hx
 subst hx
 exact top_mem
theorem high188(H:Sto h s L (XL n room fo gg N off))(M:MaIs h s {A with fs:=fl++[fr]})(D: ∀b∈({A with fs:=fl++[fr]}:MA).bl,b∉L)(hl:fl.length<100000)(ha:isN N fr.a0)
  (hK: ∀h' b fp fc,h.size≤b→MaIs h' s {A with fp:=fp,fc:=fc,fs:=fl++[{fr with low:=A.told,fn:=233}]++[⟨b,fr.op,fr.mask,high N fr.a0,fr.a1,0,0,0,137⟩]}→(∀b∈OwnB fp,b∈OwnB A.fp∨h.size≤b)→Only ({A with fs:=fl++[fr]}:MA).bl h h'→K (.tuple #[]) h'):
  Cl 188 [ptrV fr.b] h K:=by
 refine F188.spec _ h K ?_
 simp only[add_mk,Nat.zero_add,Nat.add_zero]
 have nfr:fr.b∉L:=D _ top_mem
 refine ldP_of (frame_rd M.ftop).1 ?_
 rw[ptrK_some]
 simp only[add_mk,Nat.zero_add,Nat.add_zero]
 refine ldI_of (mach_rd M.own).2.2.1 ?_
 refine M.top (f':={fr with low:=A.told}) (by decide) rfl rfl rfl fun h1 M1 O1=> ?_
 refine M1.top (f':={fr with low:=A.told,fn:=233}) (by decide) rfl rfl rfl fun h2 M2 O2=> ?_
 have O02:Only [fr.b] h h2:=O1.trans O2 fun b hb _=>hb
 have S2:=H.only O02 (fun b hb hm=>by simp only[List.mem_singleton]at hb;subst hb;exact nfr hm)
 refine ldP_of (frame_rd M2.ftop).1 ?_
 rw[ptrK_some]
 simp only[add_mk,Nat.zero_add,Nat.add_zero]
 refine ldP_of (mach_rd M2.own).1 ⟨by omega,by omega,ldI_of (n:=(fr.a0:Int)) (frame_rd M2.ftop).2.2.1 ?_⟩
 refine sto_high S2 ha (ldI_of rfl ⟨by trivial,?_⟩)
 refine into231 (fr:={fr with low:=A.told,fn:=233}) M2 hl go189 mk189 fun h3 b fp fc hb M3 own O3=>⟨rfl,?_⟩
 have z:=O02.size
 refine hK h3 b fp fc (by omega) M3 (fun x hx=>(own x hx).imp id fun h=>by omega) ((O02.mono fun x hx _=> ?_).trans O3 fun x hx _=>own_bl x hx)
 simp only[List.mem_singleton]at hx
 subst hx
 exact top_mem
theorem high237(H:Sto h s L (XL n room fo gg N off))(M:MaIs h s {A with fs:=fl++[fr]})(D: ∀b∈({A with fs:=fl++[fr]}:MA).bl,b∉L)(hl:fl.length<100000)(ha:isN N fr.a0)
  (hK: ∀h' b fp fc,h.size≤b→MaIs h' s {A with fp:=fp,fc:=fc,fs:=fl++[{fr with low:=A.told,fn:=281}]++[⟨b,fr.op,fr.mask,high N fr.a0,fr.a1,0,0,0,192⟩]}→(∀b∈OwnB fp,b∈OwnB A.fp∨h.size≤b)→Only ({A with fs:=fl++[fr]}:MA).bl h h'→K (.tuple #[]) h'):
  Cl 237 [ptrV fr.b] h K:=by
 refine F237.spec _ h K ?_
 simp only[add_mk,Nat.zero_add,Nat.add_zero]
 have nfr:fr.b∉L:=D _ top_mem
 refine ldP_of (frame_rd M.ftop).1 ?_
 rw[ptrK_some]
 simp only[add_mk,Nat.zero_add,Nat.add_zero]
 refine ldI_of (mach_rd M.own).2.2.1 ?_
 refine M.top (f':={fr with low:=A.told}) (by decide) rfl rfl rfl fun h1 M1 O1=> ?_
 refine M1.top (f':={fr with low:=A.told,fn:=281}) (by decide) rfl rfl rfl fun h2 M2 O2=> ?_
 have O02:Only [fr.b] h h2:=O1.trans O2 fun b hb _=>hb
 have S2:=H.only O02 (fun b hb hm=>by simp only[List.mem_singleton]at hb;subst hb;exact nfr hm)
 refine ldP_of (frame_rd M2.ftop).1 ?_
 rw[ptrK_some]
 simp only[add_mk,Nat.zero_add,Nat.add_zero]
 refine ldP_of (mach_rd M2.own).1 ⟨by omega,by omega,ldI_of (n:=(fr.a0:Int)) (frame_rd M2.ftop).2.2.1 ?_⟩
 refine sto_high S2 ha (ldI_of rfl ⟨by trivial,?_⟩)
 refine into231 (fr:={fr with low:=A.told,fn:=281}) M2 hl go238 mk238 fun h3 b fp fc hb M3 own O3=>⟨rfl,?_⟩
 have z:=O02.size
 refine hK h3 b fp fc (by omega) M3 (fun x hx=>(own x hx).imp id fun h=>by omega) ((O02.mono fun x hx _=> ?_).trans O3 fun x hx _=>own_bl x hx)
 simp only[List.mem_singleton]at hx
 subst hx
 exact top_mem
end
end
section
theorem qf_const{n:Nat}{fo:Nat→Nat}{op mask:Nat}{N:List (Option Nd)}{a:Nat}(ok:NOk n N)(h:a<2):QR n fo N op mask a a:=
 ⟨.inl h,Nat.le_refl _,fun x=>by
  have e:lvl n N a=n:=by unfold lvl;rw[if_pos h]
  rw[sm_const h]
  unfold qgF
  rw[gf_leaf ok (Nat.le_refl _) (.inl h) (by omega)]⟩
theorem fdiv_bit{m v:Nat}(hm:m<256)(hv:v<8):((bitsI .and .u8 (Int.fdiv (m:Int) (2^(min (Int.toNat (v:Int)) (IntKind.bits .u8)))) (1:Int))==(0:Int))= !m.testBit v:=by
 rw[show min (Int.toNat (v:Int)) (IntKind.bits .u8)=v by show min v 8=v;omega,show((2:Int)^v)=((2^v:Nat):Int) by simp,Int.fdiv_eq_ediv_of_nonneg _ (Int.natCast_nonneg _)]
 rw[show((m:Int)/((2^v:Nat):Int))=((m/2^v:Nat):Int) by simp]
 have hq:m/2^v<256:=Nat.lt_of_le_of_lt (Nat.div_le_self _ _) hm
 have e:bitsI .and .u8 ((m/2^v:Nat):Int) (1:Int)=((m/2^v%2:Nat):Int):=by
  unfold bitsI
  show IntKind.wrap .u8 ((BitVec.ofInt 8 ((m/2^v:Nat):Int)&&&BitVec.ofInt 8 1).toNat:Int)=_
  rw[BitVec.toNat_and]
  have e1:(BitVec.ofInt 8 ((m/2^v:Nat):Int)).toNat=m/2^v:=by
   rw[BitVec.ofInt_natCast,BitVec.toNat_ofNat]
   exact Nat.mod_eq_of_lt hq
  rw[e1,show(BitVec.ofInt 8 1).toNat=1 from rfl,Nat.and_one_is_mod]
  have:m/2^v%2<2:=Nat.mod_lt _ (by decide)
  obtain⟨y,hy⟩: ∃y,y=m/2^v%2:=⟨_,rfl⟩
  rw[←hy]at this ⊢
  have:y=0∨y=1:=by omega
  rcases this with q|q<;>subst q<;>rfl
 rw[e,Nat.testBit_eq_decide_div_mod_eq]
 have:m/2^v%2<2:=Nat.mod_lt _ (by decide)
 obtain⟨y,hy⟩: ∃y,y=m/2^v%2:=⟨_,rfl⟩
 rw[←hy]at this ⊢
 have:y=0∨y=1:=by omega
 rcases this with q|q<;>subst q<;>rfl
section
variable {h:Heap}{s n room:Nat}{fo gg:Nat→Nat}{off:Bool}{N:List (Option Nd)}{A:MA}{fl:List Fk}{fr:Fk}{K:Value→Heap→Prop}{L:List Nat}
theorem quant136(H:Sto h s L (XL n room fo gg N off))(M:MaIs h s {A with fs:=fl++[fr]})(D: ∀b∈({A with fs:=fl++[fr]}:MA).bl,b∉L)(hl:fl.length<100000)(hop:fr.op=6∨fr.op=7)(hm:fr.mask<256)(ha:isN N fr.a0)
  (hT: ∀h' fp r,QR n fo N fr.op fr.mask fr.a0 r→Sto h' s L (XL n room fo gg N off)→MaIs h' s {A with fp:=fp,fs:=fl,told:=r,done:=fl.isEmpty}→OwnB fp=OwnB A.fp→Only (L++({A with fs:=fl++[fr]}:MA).bl) h h'→K (.tuple #[]) h')
  (hP:2≤fr.a0→ ∀h' b fp fc,h.size≤b→Sto h' s L (XL n room fo gg N off)→MaIs h' s {A with fp:=fp,fc:=fc,fs:=fl++[{fr with level:=lvl n N fr.a0,fn:=184}]++[⟨b,fr.op,fr.mask,low N fr.a0,fr.a1,0,0,0,136⟩]}→(∀b∈OwnB fp,b∈OwnB A.fp∨h.size≤b)→Only (L++({A with fs:=fl++[fr]}:MA).bl) h h'→K (.tuple #[]) h'):
  Cl 136 [ptrV fr.b] h K:=by
 have ok:=H.ok
 dsimp only[XL]at ok
 have nlt: ∀{y},isN N y→y<2^16:=fun hy=>by have:=H.isN_lt hy;omega
 refine F136.spec _ h K ?_
 simp only[add_mk,Nat.zero_add,Nat.add_zero]
 have F:=M.ftop
 have r3:=(frame_rd F).2.2.1
 have tell: ∀h1 (r:Nat),QR n fo N fr.op fr.mask fr.a0 r→Sto h1 s L (XL n room fo gg N off)→MaIs h1 s {A with fs:=fl++[fr]}→Only L h h1→Cl 181 [ptrV A.m,.int .u32 (r:Int)] h1 (fun v h2=>v= .tuple #[]∧K (.tuple #[]) h2):=fun h1 r R S1 M1 O1=>by
  refine tells181 M1 (by omega) fun h2 fp M2 e2 O2=>⟨rfl,?_⟩
  refine hT h2 fp r R (S1.only O2 fun b hb hm=> ?_) M2 e2 ((O1.mono fun b hb _=>List.mem_append.2 (.inl hb)).trans O2 fun b hb _=> ?_)
  ·simp only[List.mem_singleton]at hb
   subst hb
   exact D A.m (by simp[MA.bl]) hm
  ·simp only[List.mem_singleton]at hb
   subst hb
   exact List.mem_append.2 (.inr (by simp[MA.bl]))
 refine⟨by omega,by omega,ldI_of (n:=(fr.a0:Int)) r3 (bcase_of (fun q=> ?_) fun q=> ?_)⟩
 ·have q:=of_decide_eq_true q
  refine ldP_of (frame_rd F).1 ⟨by omega,by omega,ldI_of (n:=(fr.a0:Int)) r3 ?_⟩
  exact tell h fr.a0 (qf_const ok.1 (by omega)) H M (Only.refl _ _)
 ·have q:=of_decide_eq_false q
  refine ldP_of (frame_rd F).1 ?_
  rw[ptrK_some]
  simp only[add_mk,Nat.zero_add,Nat.add_zero]
  refine ldP_of (mach_rd M.own).1 (ldI_of (frame_rd F).2.1 (ldI_of (n:=(fr.mask:Int)) (by rw[cellK_rd F];rfl) ⟨by omega,by omega,ldI_of (n:=(fr.a0:Int)) r3 ?_⟩))
  have DM: ∀h1,Only L h h1→MaIs h1 s {A with fs:=fl++[fr]}:=fun h1 O1=>M.only O1 fun b hb hm=>D b hm hb
  refine sto_recall (b:=0) (c:=0) H (by omega) hm (nlt ha) (by decide) (by decide) (fun h1 S1 O1=>⟨_,_,rfl,?_⟩) fun h1 v hv S1 O1=>⟨_,_,rfl,?_⟩
  ·rw[bcase_false]
   refine walks183 S1 (DM h1 O1) D hl ha go185 mk185 fun h2 b fp fc hb M2 own O2=>⟨rfl,?_⟩
   have z:=O1.size
   refine hP (by omega) h2 b fp fc (by omega) (S1.only O2 fun x hx=>D x hx) M2 (fun x hx=>(own x hx).imp id fun h=>by omega) ((O1.mono fun b hb _=>List.mem_append.2 (.inl hb)).trans O2 fun b hb _=>List.mem_append.2 (.inr hb))
  ·obtain⟨r,rfl,R⟩:=QL.getq hop hm hv (nlt ha) (by decide) (by decide)
   have hr:=H.isN_lt R.is
   rw[wrap32 (by omega),bcase_true]
   refine ldP_of (frame_rd (DM h1 O1).ftop).1 ?_
   exact tell h1 r R S1 (DM h1 O1) O1
theorem qtells277{r:Nat}(H:Sto h s L (XL n room fo gg N off))(M:MaIs h s {A with fs:=fl++[fr]})(D: ∀b∈({A with fs:=fl++[fr]}:MA).bl,b∉L)(hl:fl.length<100000)(hop:fr.op=6∨fr.op=7)(hm:fr.mask<256)(ha:isN N fr.a0)(R:QR n fo N fr.op fr.mask fr.a0 r)
  (hT: ∀h' fp,Sto h' s L (XL n room fo gg N off)→MaIs h' s {A with fp:=fp,fs:=fl,told:=r,done:=fl.isEmpty}→OwnB fp=OwnB A.fp→Only (L++({A with fs:=fl++[fr]}:MA).bl) h h'→K (.tuple #[]) h'):
  Cl 277 [ptrV fr.b,.int .u32 (r:Int)] h K:=by
 have ok:=H.ok
 dsimp only[XL]at ok
 have nlt: ∀{y},isN N y→y<2^16:=fun hy=>by have:=H.isN_lt hy;omega
 refine F277.spec _ _ h K ?_
 simp only[add_mk,Nat.zero_add,Nat.add_zero]
 have F:=M.ftop
 refine ldP_of (frame_rd F).1 ?_
 rw[ptrK_some]
 simp only[add_mk,Nat.zero_add,Nat.add_zero]
 refine ldP_of (mach_rd M.own).1 (ldI_of (frame_rd F).2.1 (ldI_of (n:=(fr.mask:Int)) (by rw[cellK_rd F];rfl) ⟨by omega,by omega,ldI_of (n:=(fr.a0:Int)) (frame_rd F).2.2.1 ?_⟩))
 have hr:=H.isN_lt R.is
 refine sto_note (b:=0) (c:=0) H (by omega) hm (nlt ha) (by decide) (by decide) (by omega) ⟨fr.op,fr.mask,fr.a0,0,0,r,rfl,rfl,hm,ha,.inl (by decide),.inl (by decide),nlt ha,by decide,by decide,.inr ⟨hop,R⟩⟩ fun h1 S1 O1=>⟨rfl,?_⟩
 have M1:=M.only O1 fun b hb hm=>D b hm hb
 refine ldP_of (frame_rd M1.ftop).1 (tells181 M1 (by omega) fun h2 fp M2 e2 O2=>⟨rfl,?_⟩)
 refine hT h2 fp (S1.only O2 fun b hb hm=> ?_) M2 e2 ((O1.mono fun b hb _=>List.mem_append.2 (.inl hb)).trans O2 fun b hb _=> ?_)
 ·simp only[List.mem_singleton]at hb
  subst hb
  exact D A.m (by simp[MA.bl]) hm
 ·simp only[List.mem_singleton]at hb
  subst hb
  exact List.mem_append.2 (.inr (by simp[MA.bl]))
theorem qnode232(H:Sto h s L (XL n room fo gg N off))(M:MaIs h s {A with fs:=fl++[fr]})(D: ∀b∈({A with fs:=fl++[fr]}:MA).bl,b∉L)(hl:fl.length<100000)(hm:fr.mask<256)(hln:fr.level<n)(f8:fo fr.level<8)
  (hJ:fr.mask.testBit (fo fr.level)=true→ ∀h' b fp fc,h.size≤b→Sto h' s L (XL n room fo gg N off)→MaIs h' s {A with fp:=fp,fc:=fc,fs:=fl++[{fr with fn:=278}]++[⟨b,if fr.op=7 then 2 else 3,0,fr.low,A.told,0,0,0,180⟩]}→(∀b∈OwnB fp,b∈OwnB A.fp∨h.size≤b)→Only (L++({A with fs:=fl++[fr]}:MA).bl) h h'→K (.tuple #[]) h')
  (hN:fr.mask.testBit (fo fr.level)=false→ ∀h' {Q:Value→Heap→Prop},Only [] h h'→Sto h' s L (XL n room fo gg N off)→MaIs h' s {A with fs:=fl++[fr]}→
   (∀h2 (r:Nat),Cl 277 [ptrV fr.b,.int .u32 (r:Int)] h2 (fun v h3=>v= .tuple #[]∧K (.tuple #[]) h3)→Q (.tuple #[.int .u32 (r:Int),.bool true]) h2)→(∀h2 (r:Nat),K (.tuple #[]) h2→Q (.tuple #[.int .u32 (r:Int),.bool false]) h2)→Cl 276 [ptrV fr.b,.int .i64 (fr.level:Int),.int .u32 (fr.low:Int),.int .u32 (A.told:Int)] h' Q):
  Cl 232 [ptrV fr.b] h K:=by
 have ok:=H.ok
 dsimp only[XL]at ok
 refine F232.spec _ h K ?_
 simp only[add_mk,Nat.zero_add,Nat.add_zero]
 have F:=M.ftop
 have nfr:fr.b∉L:=D _ top_mem
 refine ldI_of (n:=(fr.mask:Int)) (by rw[cellK_rd F];rfl) (ldP_of (frame_rd F).1 ?_)
 rw[ptrK_some]
 simp only[add_mk,Nat.zero_add,Nat.add_zero]
 refine ldP_of (mach_rd M.own).1 (ldI_of (n:=(fr.level:Int)) (frame_rd F).2.2.2.2.2.1 ?_)
 refine sto_order H fun c h1 Or g1 O1=>ldP_of rfl ⟨by trivial,by trivial,by trivial,?_⟩
 have M1:=M.only0 O1
 have H1:=H.only0 O1
 have F1:=M1.ftop
 have rk: ∀k,rd h1 ⟨fr.b,k,none⟩=(cellK A.m fr)[k]? :=fun k=>cellK_rd F1 k
 refine ldI_of (n:=(fr.mask:Int)) (by rw[rk];rfl) ⟨by trivial,by trivial,by trivial,by trivial,ldI_of (n:=(fr.level:Int)) (by rw[rk];rfl) ⟨by trivial,?_⟩⟩
 refine ord_var Or ok.2.2.1 hln (ldI_of rfl ⟨by trivial,by trivial,by trivial,ldI_of (n:=(fr.mask:Int)) (by rw[rk];rfl) ⟨by trivial,by omega,?_⟩⟩)
 show bcase ((bitsI .and .u8 (Int.fdiv (fr.mask:Int) (2^(min (Int.toNat ((fo fr.level:Nat):Int)) (IntKind.bits .u8)))) (1:Int))==(0:Int)) _ _
 rw[fdiv_bit hm f8]
 refine bcase_of (fun q=> ?_) fun q=> ?_
 ·have q:fr.mask.testBit (fo fr.level)=false:=by simpa using q
  refine ldI_of (n:=(fr.level:Int)) (by rw[rk];rfl) (ldI_of (n:=(fr.low:Int)) (by rw[rk];rfl) (ldP_of (by rw[rk];rfl) ?_))
  rw[ptrK_some]
  simp only[add_mk,Nat.zero_add,Nat.add_zero]
  refine ldI_of (mach_rd M1.own).2.2.1 ?_
  refine hN q h1 O1 H1 M1 (fun h2 r hC=>⟨_,_,rfl,?_⟩) fun h2 r hK=>⟨_,_,rfl,?_⟩
  ·rw[bcase_true]
   exact hC
  ·rw[bcase_false];exact hK
 ·have q:fr.mask.testBit (fo fr.level)=true:=by simpa using q
  have go: ∀o:Nat,o=(if fr.op=7 then 2 else 3)→F232.wk7 ⟨fr.b,0,none⟩ (o:Int) h1 K:=fun o eo=>by
   unfold F232.wk7
   simp only[add_mk,Nat.zero_add,Nat.add_zero]
   refine M1.top (f':={fr with fn:=278}) (by decide) rfl rfl rfl fun h2 M2 O2=> ?_
   have F2:=M2.ftop
   have rk2: ∀k,rd h2 ⟨fr.b,k,none⟩=(cellK A.m {fr with fn:=278})[k]? :=fun k=>cellK_rd F2 k
   refine ldP_of (by rw[rk2];rfl) (ldI_of (n:=(fr.low:Int)) (by rw[rk2];rfl) (ldP_of (by rw[rk2];rfl) ?_))
   rw[ptrK_some]
   simp only[add_mk,Nat.zero_add,Nat.add_zero]
   refine ldI_of (mach_rd M2.own).2.2.1 ?_
   refine calls135 (A:={A with fs:=fl++[{fr with fn:=278}]}) (mask:=0) (a2:=0) M2 (by simp;omega) fun h9 g9 fp fc hg9 M9 O9 own9=>ldP_of rfl ?_
   obtain⟨b,rfl,hb9⟩:=hg9
   have z1:=O1.size
   have z2:=O2.size
   subst eo
   have S2:=H1.only O2 (fun b hb hm=>by simp only[List.mem_singleton]at hb;subst hb;exact nfr hm)
   refine hJ q h9 b fp fc (by omega) (S2.only O9 fun x hx=>D x (own_bl x hx)) M9 (fun x hx=>(own9 x hx).imp id fun h=>by omega) ((((O1.mono (T:=L++({A with fs:=fl++[fr]}:MA).bl) (by simp)).trans O2 fun x hx _=> ?_)).trans O9 fun x hx _=>List.mem_append.2 (.inr (own_bl x hx)))
   simp only[List.mem_singleton]at hx
   subst hx
   exact List.mem_append.2 (.inr top_mem)
  refine ldI_of (n:=(fr.op:Int)) (by rw[rk];rfl) ?_
  rw[show((7:Int))=((7:Nat):Int)from rfl,eq_cast]
  refine bcase_of (fun p=>go 2 (by rw[if_pos (of_decide_eq_true p)])) fun p=>go 3 (by rw[if_neg (of_decide_eq_false p)])
theorem qtold278(M:MaIs h s {A with fs:=fl++[fr]})(hK:Cl 277 [ptrV fr.b,.int .u32 (A.told:Int)] h (fun v h'=>v= .tuple #[]∧K (.tuple #[]) h')):Cl 278 [ptrV fr.b] h K:=by
 refine F278.spec _ h K ?_
 simp only[add_mk,Nat.zero_add,Nat.add_zero]
 refine ldP_of (frame_rd M.ftop).1 ?_
 rw[ptrK_some]
 simp only[add_mk,Nat.zero_add,Nat.add_zero]
 exact ldI_of (mach_rd M.own).2.2.1 hK
end
end
section
theorem go136:xget X 136=some Ext.go:=by kernel_rfl
theorem go184:xget X 184=some Ext.go:=by kernel_rfl
theorem go232:xget X 232=some Ext.go:=by kernel_rfl
theorem go278:xget X 278=some Ext.go:=by kernel_rfl
section
variable {n room:Nat}{fo:Nat→Nat}{N N':List (Option Nd)}{op mask a lo hi r:Nat}
theorem qgF_node{x:Nat}(ok:NOk n N)(ha:isN N a)(h:lvl n N a<n):qgF n fo op mask N a x=qgC fo op mask (lvl n N a) x (qgF n fo op mask N (low N a) x) (qgF n fo op mask N (high N a) x):=gf_node ok (Nat.le_refl _) ha h
theorem qr_mk(ok:NOk n N)(ok':NOk n N')(ha:isN N a)(h2:2≤a)(V:QR n fo N op mask (low N a) lo)(W:QR n fo N op mask (high N a) hi)(hb:mask.testBit (fo (lvl n N a))=false)(Rk:MkRel room N (lvl n N a) lo hi N' r 0):QR n fo N' op mask a r:=by
 obtain⟨h3,h4,h5,-,h6,h7⟩:=ok.at ha h2
 have v1:=V.lv
 obtain⟨m1,m2,m3,m4⟩:=mk_node (f:=fo) ok ok' V.is W.is (by omega) Rk
 refine⟨m2,by rw[m1.lvl ha];exact m3,fun x=> ?_⟩
 rw[m4 x,qgF_ext ok m1 ha,qgF_node ok ha h3,V.sm,W.sm]
 unfold qgC
 rw[if_neg (show ¬mask.testBit (fo (lvl n N a))=true by rw[hb];simp)]
theorem qr_op(ok:NOk n N)(E:Ex N N')(ha:isN N a)(h2:2≤a)(hop:op=6∨op=7)(V:QR n fo N op mask (low N a) lo)(W:QR n fo N op mask (high N a) hi)(hb:mask.testBit (fo (lvl n N a))=true)(R:OpR n fo N' (if op=7 then 2 else 3) lo hi 0 r):QR n fo N' op mask a r:=by
 obtain⟨h3,h4,h5,-,h6,h7⟩:=ok.at ha h2
 have v1:=V.lv
 have w1:=W.lv
 refine⟨R.is,?_,fun x=> ?_⟩
 ·have e1:=E.lvl (n:=n) ha
  have e2:=E.lvl (n:=n) V.is
  have e3:=E.lvl (n:=n) W.is
  have e4:lvl n N' 0=n:=lvl_end (by omega)
  exact R.lv (lvl n N' a) (by omega) (by omega) (by omega)
 ·rw[R.sm,qgF_ext ok E ha,E.sm ok V.is,E.sm ok W.is,qgF_node ok ha h3,V.sm,W.sm]
  unfold qgC
  rw[hb,if_pos rfl]
  rcases hop with q|q<;>subst q<;>rfl
end
def qc(n:Nat):Nat→Nat
 |0=>1
 |k+1=>2*qc n k+jc n+4
theorem qc_pos(n:Nat): ∀k,1≤qc n k
 |0=>Nat.le_refl _
 |k+1=>by unfold qc;omega
section
variable {h0 h:Heap}{s n room m:Nat}{fo gg:Nat→Nat}{off:Bool}{N0 N:List (Option Nd)}{K:Value→Heap→Prop}{L0 L:List Nat}{A:MA}{fl:List Fk}{fr:Fk}
theorem RS.full{h':Heap}{L':List Nat}{fp:Option Addr}{fc:Nat}{d:Nat}(F:FullK h0 L0 N0 s n room fo gg off m K)(em:A.m=m)(d1:1≤d)(R:RS h0 L0 N0 s n room fo gg off h L N {A with fs:=fl++[fr]})(S':Sto h' s L' (XL n room fo gg N off))(M':MaIs h' s {A with fp:=none,fc:=0,fs:=[],done:=true,e:=60})
  (O:Only (L++({A with fs:=fl++[fr]}:MA).bl) h h') (g:Fresh L L' h):Rn m K d h':=by
 have sub: ∀x∈({A with fp:=none,fc:=0,fs:=[],done:=true,e:=60}:MA).bl,x∈({A with fs:=fl++[fr]}:MA).bl:=fun x hx=>by
  simp only[MA.bl,OwnB,List.map_nil,List.append_nil,List.mem_singleton]at hx
  simp[MA.bl,hx]
 refine(F h' L' N {A with fp:=none,fc:=0,fs:=[],done:=true,e:=60} em (R.next S' M' (Ex.refl _) O g (fun x hx=> .inl (sub x hx)) fun x hx hm=> ?_) rfl rfl rfl).mono d1
 rcases g x hm with h|h
 ·exact R.D x (sub x hx) h
 ·have:=R.M.lt x (sub x hx);omega
theorem RS.popped{h':Heap}{L':List Nat}{N':List (Option Nd)}{fp:Option Addr}{r:Nat}(R:RS h0 L0 N0 s n room fo gg off h L N {A with fs:=fl++[fr]})(E:Ex N N')(S':Sto h' s L' (XL n room fo gg N' off))(M':MaIs h' s {A with fp:=fp,fs:=fl,told:=r,done:=fl.isEmpty})(ep:OwnB fp=OwnB A.fp)
  (O:Only (L++({A with fs:=fl++[fr]}:MA).bl) h h') (g:Fresh L L' h):RS h0 L0 N0 s n room fo gg off h' L' N' (popA A fl fp A.fc r):=by
 have sub:=bl_pop (A:=A) (fl:=fl) (fr:=fr) (r:=r) (dn:=fl.isEmpty) ep
 refine R.next S' M' E O g (fun x hx=> .inl (sub x hx)) fun x hx hm=> ?_
 rcases g x hm with h|h
 ·exact R.D x (sub x hx) h
 ·have:=R.M.lt x (sub x hx);omega
theorem run_quant(F:FullK h0 L0 N0 s n room fo gg off m K)(hf: ∀l,l<n→fo l<8)(hn:n≤8): ∀(k:Nat) {h:Heap} {L:List Nat} {N:List (Option Nd)} {A:MA} {fl:List Fk} {fr:Fk} {d:Nat},A.m=m→RS h0 L0 N0 s n room fo gg off h L N {A with fs:=fl++[fr]}→fr.fn=136→(fr.op=6∨fr.op=7)→fr.mask<256→isN N fr.a0→
  n-lvl n N fr.a0≤k→fl.length+k≤500→A.done=false→1≤d→
  (∀h' L' N' fp fc r,Ex N N'→QR n fo N' fr.op fr.mask fr.a0 r→RS h0 L0 N0 s n room fo gg off h' L' N' (popA A fl fp fc r)→Rn m K d h')→Rn m K (d+qc n k) h:=by
 intro k
 induction k with
 |zero=>
  intro h L N A fl fr d em R e hop hm ha hk hl hd d1 hT
  subst em
  have ok:=R.S.ok
  dsimp only[XL]at ok
  refine rn_step R.S R.M (by omega) hd fun hQ=> ?_
  unfold goV
  rw[e]
  refine dynK_go go136 (quant136 R.S R.M R.D (by omega) hop hm ha (fun h' fp r OR S' M' ep O=> ?_) fun h2 h' b fp fc hb S' M' g O=> ?_)
  ·exact hQ h' (hT h' L N fp A.fc r (Ex.refl _) OR (R.popped (Ex.refl _) S' M' ep O (Fresh.refl _ _)))
  ·have:=(ok.1.at ha h2).1;omega
 |succ k ih=>
  intro h L N A fl fr d em R e hop hm ha hk hl hd d1 hT
  subst em
  have ok:=R.S.ok
  dsimp only[XL]at ok
  have jp:=qc_pos n k
  have jj:=jc_pos n
  have ej:d+qc n (k+1)=(d+jc n+1+1+qc n k+1+qc n k)+1:=by have:qc n (k+1)=2*qc n k+jc n+4:=rfl;omega
  rw[ej]
  refine rn_step R.S R.M (by omega) hd fun hQ=> ?_
  unfold goV
  rw[e]
  refine dynK_go go136 (quant136 R.S R.M R.D (by omega) hop hm ha (fun h' fp r OR S' M' ep O=> ?_) fun h2 h' b fp fc hb S' M' g O=> ?_)
  ·exact hQ h' ((hT h' L N fp A.fc r (Ex.refl _) OR (R.popped (Ex.refl _) S' M' ep O (Fresh.refl _ _))).mono (by omega))
  refine hQ h' ?_
  obtain⟨h3,h4,h5,-,h6,h7⟩:=ok.1.at ha h2
  have R1:=R.next0 S' M' O (bl_push (fr:=fr) rfl rfl hb g)
  refine ih (A:={A with fp:=fp,fc:=fc}) (d:=d+jc n+1+1+qc n k+1) (fr:=⟨b,fr.op,fr.mask,low N fr.a0,fr.a1,0,0,0,136⟩) rfl R1 rfl hop hm h4 (by dsimp only;omega) (by simp;omega) hd (by omega) fun k2 L2 N2 fp2 fc2 r E2 V R2=> ?_
  have ok2:=R2.S.ok
  dsimp only[XL]at ok2
  have R2:=R2.ofPop
  refine rn_step (A:={A with fp:=fp2,fc:=fc2,told:=r,done:=false}) R2.S R2.M (by omega) rfl fun hQ2=> ?_
  show dynK Tryz.prog X (goV 184 fr.b) [] k2 _
  unfold goV
  have a0:=E2.isN ha
  refine dynK_go go184 (high184 (fr:={fr with level:=lvl n N fr.a0,fn:=184}) (A:={A with fp:=fp2,fc:=fc2,told:=r,done:=false}) R2.S R2.M R2.D (by omega) a0 fun k3 b3 fp3 fc3 hb3 M3 g3 O3=> ?_)
  refine hQ2 k3 ?_
  have S3:=R2.S.only O3 (fun x hx=>R2.D x hx)
  have R3:=R2.next0 S3 M3 (O3.mono fun x hx _=>List.mem_append.2 (.inr hx)) (bl_push (A:={A with fp:=fp2,fc:=fc2,told:=r,done:=false}) (fr:={fr with level:=lvl n N fr.a0,fn:=184}) rfl rfl hb3 g3)
  have V:QR n fo N2 fr.op fr.mask (low N2 fr.a0) r:=by rw[E2.low ha];exact V
  refine ih (A:={A with fp:=fp3,fc:=fc3,told:=r,done:=false}) (d:=d+jc n+1+1) (fr:=⟨b3,fr.op,fr.mask,high N2 fr.a0,fr.a1,0,0,0,136⟩) rfl R3 rfl hop hm (by rw[E2.high ha];exact E2.isN h5) (by dsimp only;rw[E2.high ha,E2.lvl h5];omega) (by simp;omega) rfl (by omega) fun k4 L4 N4 fp4 fc4 r4 E4 W R4=> ?_
  have ok4:=R4.S.ok
  dsimp only[XL]at ok4
  have R4:=R4.ofPop
  have b0:=E4.isN a0
  have l4:lvl n N4 fr.a0=lvl n N fr.a0:=by rw[E4.lvl a0,E2.lvl ha]
  obtain⟨i3,i4,i5,-,i6,i7⟩:=ok2.1.at a0 h2
  obtain⟨j3,j4,j5,-,j6,j7⟩:=ok4.1.at b0 h2
  have V4:QR n fo N4 fr.op fr.mask (low N4 fr.a0) r:=by rw[E4.low a0];exact V.ext ok2.1 E4 i4
  have W4:QR n fo N4 fr.op fr.mask (high N4 fr.a0) r4:=by rw[E4.high a0];exact W
  have v1:=V4.lv
  have w1:=W4.lv
  have zL:=R4.M.lt
  refine rn_step (A:={A with fp:=fp4,fc:=fc4,told:=r4,done:=false}) R4.S R4.M (by omega) rfl fun hQ4=> ?_
  show dynK Tryz.prog X (goV 232 fr.b) [] k4 _
  unfold goV
  refine dynK_go go232 (qnode232 (fr:={fr with level:=lvl n N fr.a0,low:=r,fn:=232}) (A:={A with fp:=fp4,fc:=fc4,told:=r4,done:=false}) R4.S R4.M R4.D (by omega) hm h3 (hf _ h3) (fun bt k5 b5 fp5 fc5 hb5 S5 M5 g5 O5=>hQ4 k5 ?_) fun bt k5 Q O5 S5 M5 hc1 hc2=> ?_)
  ·--an or,an and of both
   have R5:=R4.next0 S5 M5 O5 (bl_push (A:={A with fp:=fp4,fc:=fc4,told:=r4,done:=false}) (fr:={fr with level:=lvl n N fr.a0,low:=r,fn:=232}) rfl rfl hb5 g5)
   refine(run_join F n (A:={A with fp:=fp5,fc:=fc5,told:=r4,done:=false}) (fr:=⟨b5,if fr.op=7 then 2 else 3,0,r,r4,0,0,0,180⟩) (d:=d+1) rfl R5 rfl (by dsimp only;unfold isJoin;split<;>omega) V4.is W4.is (.inl (by show 0<2;omega)) (by omega) (by simp;omega) rfl (by omega) fun k6 L6 N6 fp6 fc6 r6 E6 OR R6=> ?_).mono (by omega)
   have ok6:=R6.S.ok
   dsimp only[XL]at ok6
   have R6:=R6.ofPop
   have QR6:=qr_op ok4.1 E6 b0 h2 hop V4 W4 (by rw[l4];exact bt) OR
   refine rn_step (A:={A with fp:=fp6,fc:=fc6,told:=r6,done:=false}) R6.S R6.M (by omega) rfl fun hQ6=> ?_
   show dynK Tryz.prog X (goV 278 fr.b) [] k6 _
   unfold goV
   refine dynK_go go278 (qtold278 (fr:={fr with level:=lvl n N fr.a0,low:=r,fn:=278}) (A:={A with fp:=fp6,fc:=fc6,told:=r6,done:=false}) R6.M (qtells277 (fr:={fr with level:=lvl n N fr.a0,low:=r,fn:=278}) (A:={A with fp:=fp6,fc:=fc6,told:=r6,done:=false}) R6.S R6.M R6.D (by omega) hop hm (E6.isN b0) QR6 fun k7 fp7 S7 M7 ep O7=>⟨rfl,hQ6 k7 ?_⟩))
   exact hT k7 L6 N6 fp7 fc6 r6 ((E2.trans E4).trans E6) QR6 (R6.popped (Ex.refl _) S7 M7 ep O7 (Fresh.refl _ _))
  ·refine mk276 (fr:={fr with level:=lvl n N fr.a0,low:=r,fn:=232}) (A:={A with fp:=fp4,fc:=fc4,told:=r4,done:=false}) S5 M5 R4.D h3 V4.is W4.is (by show lvl n N fr.a0<lvl n N4 r;omega) (by show lvl n N fr.a0<lvl n N4 r4;omega) (fun k6 L6 N6 r6 Rk E6 S6 M6 O6 g6=>hc1 k6 r6 ?_) fun k6 L6 r6 hfull S6 M6 O6 g6=>hc2 k6 r6 (hQ4 k6 ?_)
   ·have ok6:=S6.ok
    dsimp only[XL]at ok6
    have QR6:=qr_mk ok4.1 ok6.1 b0 h2 V4 W4 (by rw[l4];exact bt) (by rw[l4];exact Rk)
    have R6:RS h0 L0 N0 s n room fo gg off k6 L6 N6 {({A with fp:=fp4,fc:=fc4,told:=r4,done:=false}:MA)with fs:=fl++[{fr with level:=lvl n N fr.a0,low:=r,fn:=232}]}:=R4.next S6 M6 E6 ((O5.mono (by simp)).trans O6 fun x hx _=>List.mem_append.2 (.inl hx)) (fun x hx=>(g6 x hx).imp id fun q=>by have:=O5.size;omega) (fun x hx=> .inl hx) fun x hx hmm=>by
     rcases g6 x hmm with q|q
     ·exact R4.D x hx q
     ·have:=zL x hx;have:=O5.size;omega
    refine qtells277 (fr:={fr with level:=lvl n N fr.a0,low:=r,fn:=232}) (A:={A with fp:=fp4,fc:=fc4,told:=r4,done:=false}) R6.S R6.M R6.D (by omega) hop hm (E6.isN b0) QR6 fun k7 fp7 S7 M7 ep O7=>⟨rfl,hQ4 k7 ?_⟩
    exact(hT k7 L6 N6 fp7 fc4 r6 ((E2.trans E4).trans E6) QR6 (R6.popped (Ex.refl _) S7 M7 ep O7 (Fresh.refl _ _))).mono (by omega)
   ·exact RS.full (fp:=none) (fc:=0) F (A:={A with fp:=fp4,fc:=fc4,told:=r4,done:=false}) rfl (by omega) R4 S6 M6 ((O5.mono (by simp)).trans O6 fun x hx _=>hx) fun x hx=>(g6 x hx).imp id fun q=>by have:=O5.size;omega
end
end
section
section
variable {h:Heap}{s n room:Nat}{fo gg:Nat→Nat}{off:Bool}{N:List (Option Nd)}{A:MA}{fl:List Fk}{fr:Fk}{K:Value→Heap→Prop}{L:List Nat}
theorem becomes187{op a b c:Nat}(M:MaIs h s {A with fs:=fl++[fr]})(hK: ∀h',MaIs h' s {A with fs:=fl++[{fr with op:=op,mask:=0,a0:=a,a1:=b,a2:=c,low:=0,fn:=180}]}→Only [fr.b] h h'→K (.tuple #[]) h'):
  Cl 187 [ptrV fr.b,.int .u8 (op:Int),.agg #[.int .u32 (a:Int),.int .u32 (b:Int),.int .u32 (c:Int)]] h K:=by
 refine F187.spec _ _ _ _ _ h K ?_
 refine newK_at fun h1 A1 O1 z1=> ?_
 simp only[add_mk,Nat.zero_add,Nat.add_zero]
 have r: ∀{h'} (_:At h' h.size [.int .u32 (a:Int),.int .u32 (b:Int),.int .u32 (c:Int)]) (k:Nat),rd h' ⟨h.size,k,none⟩=([.int .u32 (a:Int),.int .u32 (b:Int),.int .u32 (c:Int)]:List Value)[k]? :=fun A k=>At.rd A k
 have M1:=M.only0 O1
 have nb:h.size∉[fr.b]:=fun hm=>by
  simp only[List.mem_singleton]at hm
  have:=M.lt fr.b top_mem
  omega
 refine ldI_of (by rw[r A1];rfl) (ldI_of (by rw[r A1];rfl) (ldI_of (by rw[r A1];rfl) ?_))
 refine M1.top (f':={fr with op:=op}) (by decide) rfl rfl rfl fun h2 M2 O2=>⟨by trivial,by trivial,by trivial,?_⟩
 have A2:=A1.only O2 nb
 refine ldI_of (by rw[r A2];rfl) (ldI_of (by rw[r A2];rfl) (ldI_of (by rw[r A2];rfl) ⟨by trivial,?_⟩))
 refine M2.top (f':={fr with op:=op,mask:=0}) (by decide) rfl rfl rfl fun h3 M3 O3=>⟨by trivial,by trivial,?_⟩
 have A3:=A2.only O3 nb
 refine ldI_of (by rw[r A3];rfl) (ldI_of (by rw[r A3];rfl) (ldI_of (by rw[r A3];rfl) ⟨by trivial,?_⟩))
 refine M3.top (f':={fr with op:=op,mask:=0,a0:=a}) (by decide) rfl rfl rfl fun h4 M4 O4=> ?_
 refine M4.top (f':={fr with op:=op,mask:=0,a0:=a,a1:=b}) (by decide) rfl rfl rfl fun h5 M5 O5=> ?_
 refine M5.top (f':={fr with op:=op,mask:=0,a0:=a,a1:=b,a2:=c}) (by decide) rfl rfl rfl fun h6 M6 O6=>⟨by trivial,?_⟩
 refine M6.top (f':={fr with op:=op,mask:=0,a0:=a,a1:=b,a2:=c,low:=0}) (by decide) rfl rfl rfl fun h7 M7 O7=> ?_
 refine M7.top (f':={fr with op:=op,mask:=0,a0:=a,a1:=b,a2:=c,low:=0,fn:=180}) (by decide) rfl rfl rfl fun h8 M8 O8=> ?_
 have st: ∀b∈[fr.b],b<h1.size→b∈[fr.b]:=fun b hb _=>hb
 exact hK h8 M8 ((O1.mono (by simp)).trans (((((((O2.trans O3 fun b hb _=>hb).trans O4 fun b hb _=>hb).trans O5 fun b hb _=>hb).trans O6 fun b hb _=>hb).trans O7 fun b hb _=>hb).trans O8 fun b hb _=>hb)) fun b hb _=>hb)
theorem chooses303{l:Nat}(H:Sto h s L (XL n room fo gg N off))(M:MaIs h s {A with fs:=fl++[fr]})(D: ∀b∈({A with fs:=fl++[fr]}:MA).bl,b∉L)(hln:l<n)
  (hY: ∀h' L' N' (v:Nat),Ex N N'→isN N' v→(∀x,sm n fo N' v x=x.testBit (fo l))→Sto h' s L' (XL n room fo gg N' off)→MaIs h' s {A with fs:=fl++[{fr with op:=5,mask:=0,a0:=v,a1:=fr.a1,a2:=fr.low,low:=0,fn:=180}]}→Only (L++({A with fs:=fl++[fr]}:MA).bl) h h'→Fresh L L' h→K (.tuple #[]) h')
  (hE: ∀h' L',room≤cntN N→Sto h' s L' (XL n room fo gg N off)→MaIs h' s {A with fp:=none,fc:=0,fs:=[],done:=true,e:=60}→Only (L++({A with fs:=fl++[fr]}:MA).bl) h h'→Fresh L L' h→K (.tuple #[]) h'):
  Cl 303 [ptrV fr.b,.int .i64 (l:Int)] h K:=by
 have ok:=H.ok
 dsimp only[XL]at ok
 refine F303.spec _ _ h K ?_
 have e0:lvl n N 0=n:=lvl_end (by omega)
 have e1:lvl n N 1=n:=lvl_end (by omega)
 have hlt:=M.lt
 refine mk276 (l:=l) (a:=0) (b:=1) H M D hln (.inl (by decide)) (.inl (by decide)) (by omega) (by omega) (fun h1 L1 N1 v R E1 S1 M1 O1 g1=>⟨_,_,rfl,?_⟩) fun h1 L1 v hf S1 M1 O1 g1=>⟨_,_,rfl,?_⟩
 ·rw[bcase_true]
  simp only[add_mk,Nat.zero_add,Nat.add_zero]
  have ok1:=S1.ok
  dsimp only[XL]at ok1
  obtain⟨m1,m2,-,m4⟩:=mk_node (f:=fo) ok.1 ok1.1 (a:=0) (b:=1) (.inl (by decide)) (.inl (by decide)) (by omega) R
  have F1:=M1.ftop
  refine⟨by omega,by omega,ldI_of (n:=(fr.a1:Int)) (frame_rd F1).2.2.2.1 (ldI_of (n:=(fr.low:Int)) (frame_rd F1).2.2.2.2.2.2.1 ?_)⟩
  refine becomes187 (op:=5) M1 fun h2 M2 O2=>⟨rfl,?_⟩
  have nf:fr.b∉L1:=fun hm=>by
   rcases g1 _ hm with q|q
   ·exact D _ top_mem q
   ·have:=hlt _ (top_mem (A:=A) (fl:=fl) (fr:=fr));omega
  refine hY h2 L1 N1 v m1 m2 (fun x=> ?_) (S1.only O2 fun b hb hm=>by simp only[List.mem_singleton]at hb;subst hb;exact nf hm) M2 ((O1.mono fun b hb _=>List.mem_append.2 (.inl hb)).trans O2 fun b hb _=> ?_) g1
  ·rw[m4 x,sm_const (by omega),sm_const (by omega)]
   cases x.testBit (fo l)<;>rfl
  ·simp only[List.mem_singleton]at hb
   subst hb
   exact List.mem_append.2 (.inr top_mem)
 ·rw[bcase_false]
  exact hE h1 L1 hf S1 M1 O1 g1
theorem compose137(H:Sto h s L (XL n room fo gg N off))(M:MaIs h s {A with fs:=fl++[fr]})(D: ∀b∈({A with fs:=fl++[fr]}:MA).bl,b∉L)(hl:fl.length<100000)(hm:fr.mask<n)(ha:isN N fr.a0)
  (hT:gg fr.mask<lvl n N fr.a0→ ∀h' fp,Sto h' s L (XL n room fo gg N off)→MaIs h' s {A with fp:=fp,fs:=fl,told:=fr.a0,done:=fl.isEmpty}→OwnB fp=OwnB A.fp→Only (L++({A with fs:=fl++[fr]}:MA).bl) h h'→K (.tuple #[]) h')
  (hI:lvl n N fr.a0=gg fr.mask→ ∀h',Sto h' s L (XL n room fo gg N off)→MaIs h' s {A with fs:=fl++[{fr with op:=5,mask:=0,a0:=fr.a1,a1:=high N fr.a0,a2:=low N fr.a0,low:=0,fn:=180}]}→Only (L++({A with fs:=fl++[fr]}:MA).bl) h h'→K (.tuple #[]) h')
  (hP:lvl n N fr.a0<gg fr.mask→ ∀h' b fp fc,h.size≤b→Sto h' s L (XL n room fo gg N off)→MaIs h' s {A with fp:=fp,fc:=fc,fs:=fl++[{fr with level:=lvl n N fr.a0,fn:=188}]++[⟨b,fr.op,fr.mask,low N fr.a0,fr.a1,0,0,0,137⟩]}→(∀b∈OwnB fp,b∈OwnB A.fp∨h.size≤b)→Only (L++({A with fs:=fl++[fr]}:MA).bl) h h'→K (.tuple #[]) h'):
  Cl 137 [ptrV fr.b] h K:=by
 have ok:=H.ok
 dsimp only[XL]at ok
 have n8:=ok.2.2.1
 refine F137.spec _ h K ?_
 simp only[add_mk,Nat.zero_add,Nat.add_zero]
 have F:=M.ftop
 refine ldP_of (frame_rd F).1 ?_
 rw[ptrK_some]
 simp only[add_mk,Nat.zero_add,Nat.add_zero]
 refine ldP_of (mach_rd M.own).1 (ldI_of (n:=(fr.mask:Int)) (by rw[cellK_rd F];rfl) ?_)
 refine sto_order H fun c h1 Or g1 O1=>ldP_of rfl ⟨by trivial,by trivial,by trivial,?_⟩
 have M1:=M.only0 O1
 have H1:=H.only0 O1
 have F1:=M1.ftop
 have rk: ∀k,rd h1 ⟨fr.b,k,none⟩=(cellK A.m fr)[k]? :=fun k=>cellK_rd F1 k
 have ew:IntKind.wrap .i64 (fr.mask:Int)=(fr.mask:Int):=wrap_i64 (by omega) (by omega)
 rw[ew]
 refine ldI_of (n:=(fr.mask:Int)) (by rw[rk];rfl) ⟨by trivial,by trivial,?_⟩
 refine ord_level Or n8 hm (ldI_of rfl ⟨by omega,by omega,ldI_of (n:=(fr.a0:Int)) (frame_rd F1).2.2.1 ?_⟩)
 refine sto_level H1 ha (ldI_of rfl ?_)
 show bcase (decide (((lvl n N fr.a0:Nat):Int)>((gg fr.mask:Nat):Int))) _ _
 have O1':Only (L++({A with fs:=fl++[fr]}:MA).bl) h h1:=O1.mono (by simp)
 have nfr:fr.b∉L:=D _ top_mem
 have z1:=O1.size
 refine bcase_of (fun q=> ?_) fun q=> ?_
 ·have q:=of_decide_eq_true q
  refine ldP_of (frame_rd F1).1 ⟨by omega,by omega,ldI_of (n:=(fr.a0:Int)) (frame_rd F1).2.2.1 ?_⟩
  refine tells181 M1 (by omega) fun h2 fp M2 e2 O2=>⟨rfl,hT (by omega) h2 fp (H1.only O2 fun b hb hm=> ?_) M2 e2 (O1'.trans O2 fun b hb _=> ?_)⟩
  ·simp only[List.mem_singleton]at hb
   subst hb
   exact D A.m (by simp[MA.bl]) hm
  ·simp only[List.mem_singleton]at hb
   subst hb
   exact List.mem_append.2 (.inr (by simp[MA.bl]))
 have q:=of_decide_eq_false q
 show bcase (((lvl n N fr.a0:Nat):Int)==((gg fr.mask:Nat):Int)) _ _
 rw[eq_cast]
 refine bcase_of (fun p=> ?_) fun p=> ?_
 ·have p:=of_decide_eq_true p
  refine⟨by omega,by omega,ldI_of (n:=(fr.a1:Int)) (frame_rd F1).2.2.2.1 ⟨by omega,by omega,ldI_of (n:=(fr.a0:Int)) (frame_rd F1).2.2.1 ⟨by omega,by omega,ldI_of (n:=(fr.a0:Int)) (frame_rd F1).2.2.1 ?_⟩⟩⟩
  refine sto_high H1 ha (ldI_of rfl ⟨by trivial,by trivial,by trivial,by trivial,by omega,by omega,by trivial,ldI_of (n:=(fr.a1:Int)) (frame_rd F1).2.2.2.1 ⟨by trivial,by trivial,by trivial,by trivial,by trivial,by omega,by omega,by trivial,ldI_of (n:=(fr.a0:Int)) (frame_rd F1).2.2.1 ⟨by trivial,?_⟩⟩⟩)
  refine sto_low H1 ha (ldI_of rfl ⟨by trivial,by trivial,by trivial,by trivial,by omega,by omega,by trivial,ldI_of (n:=(fr.a1:Int)) (frame_rd F1).2.2.2.1 ⟨by trivial,?_⟩⟩)
  refine becomes187 (op:=5) M1 fun h2 M2 O2=>⟨rfl,?_⟩
  refine hI p h2 (H1.only O2 fun b hb hm=>by simp only[List.mem_singleton]at hb;subst hb;exact nfr hm) M2 (O1'.trans O2 fun b hb _=> ?_)
  simp only[List.mem_singleton]at hb
  subst hb
  exact List.mem_append.2 (.inr top_mem)
 ·have p:=of_decide_eq_false p
  refine walks183 H1 M1 D hl ha go189 mk189 fun h2 b fp fc hb M2 own O2=>⟨rfl,?_⟩
  exact hP (by omega) h2 b fp fc (by omega) (H1.only O2 fun x hx=>D x hx) M2 (fun x hx=>(own x hx).imp id fun h=>by omega) (O1'.trans O2 fun b hb _=>List.mem_append.2 (.inr hb))
theorem cvar233(H:Sto h s L (XL n room fo gg N off))(M:MaIs h s {A with fs:=fl++[fr]})(D: ∀b∈({A with fs:=fl++[fr]}:MA).bl,b∉L)(ha:isN N fr.a0)
  (hK: ∀h',Sto h' s L (XL n room fo gg N off)→MaIs h' s {A with fs:=fl++[{fr with a1:=A.told,fn:=279,level:=lvl n N fr.a0}]}→Only [fr.b] h h'→K (.tuple #[]) h'):Cl 233 [ptrV fr.b] h K:=by
 refine F233.spec _ h K ?_
 simp only[add_mk,Nat.zero_add,Nat.add_zero]
 have nfr:fr.b∉L:=D _ top_mem
 refine ldP_of (frame_rd M.ftop).1 ?_
 rw[ptrK_some]
 simp only[add_mk,Nat.zero_add,Nat.add_zero]
 refine ldI_of (mach_rd M.own).2.2.1 ⟨by omega,by omega,?_⟩
 refine M.top (f':={fr with a1:=A.told}) (by decide) rfl rfl rfl fun h1 M1 O1=> ?_
 refine M1.top (f':={fr with a1:=A.told,fn:=279}) (by decide) rfl rfl rfl fun h2 M2 O2=> ?_
 have O02:Only [fr.b] h h2:=O1.trans O2 fun b hb _=>hb
 have S2:=H.only O02 (fun b hb hm=>by simp only[List.mem_singleton]at hb;subst hb;exact nfr hm)
 refine ldP_of (frame_rd M2.ftop).1 ?_
 rw[ptrK_some]
 simp only[add_mk,Nat.zero_add,Nat.add_zero]
 refine ldP_of (mach_rd M2.own).1 ⟨by omega,by omega,ldI_of (n:=(fr.a0:Int)) (frame_rd M2.ftop).2.2.1 ?_⟩
 refine sto_level S2 ha (ldI_of rfl ⟨by trivial,?_⟩)
 refine M2.top (f':={fr with a1:=A.told,fn:=279,level:=lvl n N fr.a0}) (by decide) rfl rfl rfl fun h3 M3 O3=> ?_
 exact hK h3 (S2.only O3 (fun b hb hm=>by simp only[List.mem_singleton]at hb;subst hb;exact nfr hm)) M3 (O02.trans O3 fun b hb _=>hb)
theorem cnode279(M:MaIs h s {A with fs:=fl++[fr]})(hK:Cl 303 [ptrV fr.b,.int .i64 (fr.level:Int)] h (fun v h'=>v= .tuple #[]∧K (.tuple #[]) h')):Cl 279 [ptrV fr.b] h K:=by
 refine F279.spec _ h K ?_
 simp only[add_mk,Nat.zero_add,Nat.add_zero]
 exact ldI_of (frame_rd M.ftop).2.2.2.2.2.1 hK
end
end
section
theorem go137:xget X 137=some Ext.go:=by kernel_rfl
theorem go188:xget X 188=some Ext.go:=by kernel_rfl
theorem go233:xget X 233=some Ext.go:=by kernel_rfl
theorem go279:xget X 279=some Ext.go:=by kernel_rfl
section
variable {n:Nat}{fo:Nat→Nat}{N N':List (Option Nd)}{at_ g a lo hi v r:Nat}
theorem cr_leaf(ok:NOk n N)(hat:at_<n)(ha:isN N a)(h:at_<lvl n N a):CR n fo N at_ g a a:=
 ⟨ha,fun x=>by
  unfold cmF
  rw[gf_leaf ok (Nat.le_of_lt hat) ha (by omega)]
  unfold cmL
  rw[if_neg (by omega)]⟩
theorem cr_at(ok:NOk n N)(E:Ex N N')(hat:at_<n)(ha:isN N a)(hg:isN N g)(h:lvl n N a=at_)(R:OpR n fo N' 5 g (high N a) (low N a) r):CR n fo N' at_ g a r:=by
 have a2:2≤a:=by
  apply Classical.byContradiction
  intro hn
  have:lvl n N a=n:=lvl_end (by omega)
  omega
 obtain⟨h3,h4,h5,-⟩:=ok.at ha a2
 refine⟨R.is,fun x=> ?_⟩
 rw[R.sm,cmF_ext ok E hat ha hg,E.sm ok hg,E.sm ok h4,E.sm ok h5]
 unfold cmF
 rw[gf_leaf ok (Nat.le_of_lt hat) ha (by omega)]
 unfold cmL
 rw[if_pos h]
 rfl
theorem cr_node(ok:NOk n N)(E:Ex N N')(hat:at_<n)(ha:isN N a)(hg:isN N g)(h:lvl n N a<at_)(V:CR n fo N at_ g (low N a) lo)(W:CR n fo N at_ g (high N a) hi)(hv: ∀x,sm n fo N' v x=x.testBit (fo (lvl n N a)))(R:OpR n fo N' 5 v hi lo r):CR n fo N' at_ g a r:=by
 refine⟨R.is,fun x=> ?_⟩
 rw[R.sm,cmF_ext ok E hat ha hg,hv,E.sm ok V.is,E.sm ok W.is,V.sm,W.sm]
 have:=gf_node (x:=x) (leaf:=cmL n fo at_ g N) (c:=cmC fo) ok (Nat.le_of_lt hat) ha h
 unfold cmF
 rw[this]
 rfl
end
def cc(n:Nat):Nat→Nat
 |0=>jc n+1
 |k+1=>2*cc n k+jc n+5
theorem cc_pos(n:Nat): ∀k,jc n+1≤cc n k
 |0=>Nat.le_refl _
 |k+1=>by have:cc n (k+1)=2*cc n k+jc n+5:=rfl;omega
section
variable {h0:Heap}{s n room m:Nat}{fo gg:Nat→Nat}{off:Bool}{N0:List (Option Nd)}{K:Value→Heap→Prop}{L0:List Nat}
theorem run_comp(F:FullK h0 L0 N0 s n room fo gg off m K): ∀(k:Nat) {h:Heap} {L:List Nat} {N:List (Option Nd)} {A:MA} {fl:List Fk} {fr:Fk} {d:Nat},A.m=m→RS h0 L0 N0 s n room fo gg off h L N {A with fs:=fl++[fr]}→fr.fn=137→fr.mask<n→gg fr.mask<n→isN N fr.a0→isN N fr.a1→
  gg fr.mask-lvl n N fr.a0≤k→fl.length+k≤500→n≤100→A.done=false→1≤d→
  (∀h' L' N' fp fc r,Ex N N'→CR n fo N' (gg fr.mask) fr.a1 fr.a0 r→RS h0 L0 N0 s n room fo gg off h' L' N' (popA A fl fp fc r)→Rn m K d h')→Rn m K (d+cc n k) h:=by
 have atL: ∀{h:Heap} {L:List Nat} {N:List (Option Nd)} {A:MA} {fl:List Fk} {fr:Fk} {d:Nat} {h':Heap},A.m=m→RS h0 L0 N0 s n room fo gg off h L N {A with fs:=fl++[fr]}→gg fr.mask<n→isN N fr.a0→isN N fr.a1→lvl n N fr.a0=gg fr.mask→fl.length≤600→n≤100→A.done=false→1≤d→
   (∀h' L' N' fp fc r,Ex N N'→CR n fo N' (gg fr.mask) fr.a1 fr.a0 r→RS h0 L0 N0 s n room fo gg off h' L' N' (popA A fl fp fc r)→Rn m K d h')→
   Sto h' s L (XL n room fo gg N off)→MaIs h' s {A with fs:=fl++[{fr with op:=5,mask:=0,a0:=fr.a1,a1:=high N fr.a0,a2:=low N fr.a0,low:=0,fn:=180}]}→Only (L++({A with fs:=fl++[fr]}:MA).bl) h h'→Rn m K (d+jc n) h':=by
  intro h L N A fl fr d h' em R hat ha hg e hl n1 hd d1 hT S' M' O
  have ok:=R.S.ok
  dsimp only[XL]at ok
  have a2:2≤fr.a0:=by
   apply Classical.byContradiction
   intro hn
   have:lvl n N fr.a0=n:=lvl_end (by omega)
   omega
  obtain⟨h3,h4,h5,-⟩:=ok.1.at ha a2
  have R1:=R.next0 S' M' O fun x hx=> .inl (by rw[bl_top]at hx;exact hx;rfl)
  exact run_join F n (A:=A) (fr:={fr with op:=5,mask:=0,a0:=fr.a1,a1:=high N fr.a0,a2:=low N fr.a0,low:=0,fn:=180}) em R1 rfl (.inr (.inr (.inr rfl))) hg h5 h4 (by omega) (by omega) hd d1 fun h2 L2 N2 fp fc r E2 OR R2=>hT h2 L2 N2 fp fc r E2 (cr_at ok.1 E2 hat ha hg e OR) R2
 intro k
 induction k with
 |zero=>
  intro h L N A fl fr d em R e hm hat ha hg hk hl n1 hd d1 hT
  subst em
  have ok:=R.S.ok
  dsimp only[XL]at ok
  show Rn A.m K ((d+jc n)+1) h
  refine rn_step R.S R.M (by omega) hd fun hQ=> ?_
  unfold goV
  rw[e]
  refine dynK_go go137 (compose137 R.S R.M R.D (by omega) hm ha (fun q h' fp S' M' ep O=> ?_) (fun q h' S' M' O=> ?_) fun q h' b fp fc hb S' M' g O=> ?_)
  ·exact hQ h' ((hT h' L N fp A.fc fr.a0 (Ex.refl _) (cr_leaf ok.1 hat ha q) (R.popped (Ex.refl _) S' M' ep O (Fresh.refl _ _))).mono (by omega))
  ·exact hQ h' (atL rfl R hat ha hg q (by omega) n1 hd d1 hT S' M' O)
  ·omega
 |succ k ih=>
  intro h L N A fl fr d em R e hm hat ha hg hk hl n1 hd d1 hT
  subst em
  have ok:=R.S.ok
  dsimp only[XL]at ok
  have jp:=cc_pos n k
  have ej:d+cc n (k+1)=(d+jc n+1+1+1+cc n k+1+cc n k)+1:=by have:cc n (k+1)=2*cc n k+jc n+5:=rfl;omega
  rw[ej]
  refine rn_step R.S R.M (by omega) hd fun hQ=> ?_
  unfold goV
  rw[e]
  refine dynK_go go137 (compose137 R.S R.M R.D (by omega) hm ha (fun q h' fp S' M' ep O=> ?_) (fun q h' S' M' O=> ?_) fun q h' b fp fc hb S' M' g O=> ?_)
  ·exact hQ h' ((hT h' L N fp A.fc fr.a0 (Ex.refl _) (cr_leaf ok.1 hat ha q) (R.popped (Ex.refl _) S' M' ep O (Fresh.refl _ _))).mono (by omega))
  ·exact hQ h' ((atL rfl R hat ha hg q (by omega) n1 hd d1 hT S' M' O).mono (by omega))
  refine hQ h' ?_
  have a2:2≤fr.a0:=by
   apply Classical.byContradiction
   intro hn
   have:lvl n N fr.a0=n:=lvl_end (by omega)
   omega
  obtain⟨h3,h4,h5,-,h6,h7⟩:=ok.1.at ha a2
  have R1:=R.next0 S' M' O (bl_push (fr:=fr) rfl rfl hb g)
  refine ih (A:={A with fp:=fp,fc:=fc}) (d:=d+jc n+1+1+1+cc n k+1) (fr:=⟨b,fr.op,fr.mask,low N fr.a0,fr.a1,0,0,0,137⟩) rfl R1 rfl hm hat h4 hg (by dsimp only;omega) (by simp;omega) n1 hd (by omega) fun k2 L2 N2 fp2 fc2 r E2 V R2=> ?_
  have ok2:=R2.S.ok
  dsimp only[XL]at ok2
  have R2:=R2.ofPop
  refine rn_step (A:={A with fp:=fp2,fc:=fc2,told:=r,done:=false}) R2.S R2.M (by omega) rfl fun hQ2=> ?_
  show dynK Tryz.prog X (goV 188 fr.b) [] k2 _
  unfold goV
  have a0:=E2.isN ha
  have g2:=E2.isN hg
  refine dynK_go go188 (high188 (fr:={fr with level:=lvl n N fr.a0,fn:=188}) (A:={A with fp:=fp2,fc:=fc2,told:=r,done:=false}) R2.S R2.M R2.D (by omega) a0 fun k3 b3 fp3 fc3 hb3 M3 g3 O3=> ?_)
  refine hQ2 k3 ?_
  have S3:=R2.S.only O3 (fun x hx=>R2.D x hx)
  have R3:=R2.next0 S3 M3 (O3.mono fun x hx _=>List.mem_append.2 (.inr hx)) (bl_push (A:={A with fp:=fp2,fc:=fc2,told:=r,done:=false}) (fr:={fr with level:=lvl n N fr.a0,fn:=188}) rfl rfl hb3 g3)
  have V:CR n fo N2 (gg fr.mask) fr.a1 (low N2 fr.a0) r:=by rw[E2.low ha];exact V
  refine ih (A:={A with fp:=fp3,fc:=fc3,told:=r,done:=false}) (d:=d+jc n+1+1+1) (fr:=⟨b3,fr.op,fr.mask,high N2 fr.a0,fr.a1,0,0,0,137⟩) rfl R3 rfl hm hat (by rw[E2.high ha];exact E2.isN h5) g2 (by dsimp only;rw[E2.high ha,E2.lvl h5];omega) (by simp;omega) n1 rfl (by omega) fun k4 L4 N4 fp4 fc4 r4 E4 W R4=> ?_
  have ok4:=R4.S.ok
  dsimp only[XL]at ok4
  have R4:=R4.ofPop
  have b0:=E4.isN a0
  have g4:=E4.isN g2
  have l4:lvl n N4 fr.a0=lvl n N fr.a0:=by rw[E4.lvl a0,E2.lvl ha]
  obtain⟨i3,i4,i5,-,i6,i7⟩:=ok2.1.at a0 a2
  have V4:CR n fo N4 (gg fr.mask) fr.a1 (low N4 fr.a0) r:=by rw[E4.low a0];exact V.ext ok2.1 E4 hat i4 g2
  have W4:CR n fo N4 (gg fr.mask) fr.a1 (high N4 fr.a0) r4:=by rw[E4.high a0];exact W
  refine rn_step (A:={A with fp:=fp4,fc:=fc4,told:=r4,done:=false}) R4.S R4.M (by omega) rfl fun hQ4=> ?_
  show dynK Tryz.prog X (goV 233 fr.b) [] k4 _
  unfold goV
  refine dynK_go go233 (cvar233 (fr:={fr with level:=lvl n N fr.a0,low:=r,fn:=233}) (A:={A with fp:=fp4,fc:=fc4,told:=r4,done:=false}) R4.S R4.M R4.D b0 fun k5 S5 M5 O5=>hQ4 k5 ?_)
  have R5:=R4.next0 S5 M5 (O5.mono fun x hx _=>List.mem_append.2 (.inr (by simp only[List.mem_singleton]at hx;subst hx;exact top_mem (fr:={fr with level:=lvl n N fr.a0,low:=r,fn:=233})))) fun x hx=> .inl (by rw[bl_top]at hx;exact hx;rfl)
  refine rn_step (A:={A with fp:=fp4,fc:=fc4,told:=r4,done:=false}) R5.S R5.M (by omega) rfl fun hQ5=> ?_
  show dynK Tryz.prog X (goV 279 fr.b) [] k5 _
  unfold goV
  refine dynK_go go279 (cnode279 (fr:={fr with level:=lvl n N4 fr.a0,low:=r,a1:=r4,fn:=279}) (A:={A with fp:=fp4,fc:=fc4,told:=r4,done:=false}) R5.M (chooses303 (fr:={fr with level:=lvl n N4 fr.a0,low:=r,a1:=r4,fn:=279}) (A:={A with fp:=fp4,fc:=fc4,told:=r4,done:=false}) R5.S R5.M R5.D (by rw[l4];exact h3) (fun k6 L6 N6 v E6 vN vS S6 M6 O6 g6=>⟨rfl,hQ5 k6 ?_⟩) fun k6 L6 hf S6 M6 O6 g6=>⟨rfl,hQ5 k6 ?_⟩))
  ·have R6:=R5.next S6 M6 E6 O6 g6 (fun x hx=> .inl (by rw[bl_top]at hx;exact hx;rfl)) fun x hx hmm=>by
    have hx:x∈({({A with fp:=fp4,fc:=fc4,told:=r4,done:=false}:MA)with fs:=fl++[{fr with level:=lvl n N4 fr.a0,low:=r,a1:=r4,fn:=279}]}:MA).bl:=by rw[bl_top]at hx;exact hx;rfl
    rcases g6 x hmm with q|q
    ·exact R5.D x hx q
    ·have:=R5.M.lt x hx;omega
   have ok6:=R6.S.ok
   dsimp only[XL]at ok6
   refine(run_join F n (A:={A with fp:=fp4,fc:=fc4,told:=r4,done:=false}) (d:=d) (fr:={fr with level:=lvl n N4 fr.a0,op:=5,mask:=0,a0:=v,a1:=r4,a2:=r,low:=0,fn:=180}) rfl R6 rfl (.inr (.inr (.inr rfl))) vN (E6.isN W4.is) (E6.isN V4.is) (by omega) (by omega) rfl d1 fun k7 L7 N7 fp7 fc7 r7 E7 OR R7=> ?_).mono (by omega)
   refine hT k7 L7 N7 fp7 fc7 r7 (((E2.trans E4).trans E6).trans E7) (cr_node ok4.1 (E6.trans E7) hat b0 g4 (by rw[l4];exact q) V4 W4 (fun x=> ?_) OR) R7
   rw[E7.sm ok6.1 vN,vS]
  ·exact RS.full (fp:=none) (fc:=0) F (A:={A with fp:=fp4,fc:=fc4,told:=r4,done:=false}) rfl (by omega) R5 S6 M6 O6 g6
end
end
section
theorem go192:xget X 192=some Ext.go:=by kernel_rfl
theorem go237:xget X 237=some Ext.go:=by kernel_rfl
theorem go281:xget X 281=some Ext.go:=by kernel_rfl
theorem xor1{v:Nat}(hv:v<8):bitsI .xor .i64 (v:Int) (1:Int)=((v^^^1:Nat):Int):=by
 have:v=0∨v=1∨v=2∨v=3∨v=4∨v=5∨v=6∨v=7:=by omega
 rcases this with e|e|e|e|e|e|e|e<;>subst e<;>rfl
def Pairs(n:Nat)(fo gg:Nat→Nat):Prop:= ∀l,l<n→fo l<8∧fo l^^^1<n∧gg (fo l^^^1)<n∧fo (gg (fo l^^^1))=fo l^^^1
section
variable {n:Nat}{fo:Nat→Nat}{N N':List (Option Nd)}{a lo hi v r:Nat}
theorem tr_leaf(ok:NOk n N)(h:a<2):TR n fo N a a:=
 ⟨.inl h,fun x=>by
  unfold tnF
  rw[gf_leaf ok (Nat.le_refl _) (.inl h) (by rw[lvl_end h];exact Nat.le_refl _),sm_const h]⟩
theorem tr_node(ok:NOk n N)(E:Ex N N')(ha:isN N a)(h:lvl n N a<n)(V:TR n fo N (low N a) lo)(W:TR n fo N (high N a) hi)(hv: ∀x,sm n fo N' v x=x.testBit (fo (lvl n N a)^^^1))(R:OpR n fo N' 5 v hi lo r):TR n fo N' a r:=by
 refine⟨R.is,fun x=> ?_⟩
 rw[R.sm,tnF_ext ok E ha,hv,E.sm ok V.is,E.sm ok W.is,V.sm,W.sm]
 have:=gf_node (x:=x) (leaf:=fun a _=>a==1) (c:=tnC fo) ok (Nat.le_refl _) ha h
 unfold tnF
 rw[this]
 rfl
end
section
variable {h:Heap}{s n room:Nat}{fo gg:Nat→Nat}{off:Bool}{N:List (Option Nd)}{A:MA}{fl:List Fk}{fr:Fk}{K:Value→Heap→Prop}{L:List Nat}
theorem turn192(H:Sto h s L (XL n room fo gg N off))(M:MaIs h s {A with fs:=fl++[fr]})(D: ∀b∈({A with fs:=fl++[fr]}:MA).bl,b∉L)(hl:fl.length<100000)(ha:isN N fr.a0)
  (hT:fr.a0<2→ ∀h' fp,Sto h' s L (XL n room fo gg N off)→MaIs h' s {A with fp:=fp,fs:=fl,told:=fr.a0,done:=fl.isEmpty}→OwnB fp=OwnB A.fp→Only (L++({A with fs:=fl++[fr]}:MA).bl) h h'→K (.tuple #[]) h')
  (hP:2≤fr.a0→ ∀h' b fp fc,h.size≤b→Sto h' s L (XL n room fo gg N off)→MaIs h' s {A with fp:=fp,fc:=fc,fs:=fl++[{fr with level:=lvl n N fr.a0,fn:=237}]++[⟨b,fr.op,fr.mask,low N fr.a0,fr.a1,0,0,0,192⟩]}→(∀b∈OwnB fp,b∈OwnB A.fp∨h.size≤b)→Only (L++({A with fs:=fl++[fr]}:MA).bl) h h'→K (.tuple #[]) h'):
  Cl 192 [ptrV fr.b] h K:=by
 refine F192.spec _ h K ?_
 simp only[add_mk,Nat.zero_add,Nat.add_zero]
 have F:=M.ftop
 have r3:=(frame_rd F).2.2.1
 refine⟨by omega,by omega,ldI_of (n:=(fr.a0:Int)) r3 (bcase_of (fun q=> ?_) fun q=> ?_)⟩
 ·have q:=of_decide_eq_true q
  refine ldP_of (frame_rd F).1 ⟨by omega,by omega,ldI_of (n:=(fr.a0:Int)) r3 ?_⟩
  refine tells181 M (by omega) fun h2 fp M2 e2 O2=>⟨rfl,hT (by omega) h2 fp (H.only O2 fun b hb hm=> ?_) M2 e2 (O2.mono fun b hb _=> ?_)⟩
  ·simp only[List.mem_singleton]at hb
   subst hb
   exact D A.m (by simp[MA.bl]) hm
  ·simp only[List.mem_singleton]at hb
   subst hb
   exact List.mem_append.2 (.inr (by simp[MA.bl]))
 ·have q:=of_decide_eq_false q
  refine walks183 H M D hl ha go238 mk238 fun h2 b fp fc hb M2 own O2=>⟨rfl,?_⟩
  exact hP (by omega) h2 b fp fc hb (H.only O2 fun x hx=>D x hx) M2 own (O2.mono fun b hb _=>List.mem_append.2 (.inr hb))
theorem tnode281(H:Sto h s L (XL n room fo gg N off))(M:MaIs h s {A with fs:=fl++[fr]})(D: ∀b∈({A with fs:=fl++[fr]}:MA).bl,b∉L)(hp:Pairs n fo gg)(hln:fr.level<n)
  (hK: ∀h',Sto h' s L (XL n room fo gg N off)→MaIs h' s {A with fs:=fl++[{fr with a1:=A.told}]}→Only [fr.b] h h'→Cl 303 [ptrV fr.b,.int .i64 ((gg (fo fr.level^^^1):Nat):Int)] h' (fun v h2=>v= .tuple #[]∧K (.tuple #[]) h2)):Cl 281 [ptrV fr.b] h K:=by
 have ok:=H.ok
 dsimp only[XL]at ok
 have n8:=ok.2.2.1
 obtain⟨p1,p2,p3,p4⟩:=hp _ hln
 refine F281.spec _ h K ?_
 simp only[add_mk,Nat.zero_add,Nat.add_zero]
 have nfr:fr.b∉L:=D _ top_mem
 refine ldP_of (frame_rd M.ftop).1 ?_
 rw[ptrK_some]
 simp only[add_mk,Nat.zero_add,Nat.add_zero]
 refine ldP_of (mach_rd M.own).1 (sto_order H fun c h1 Or g1 O1=>ldP_of rfl ?_)
 have M1:=M.only0 O1
 have H1:=H.only0 O1
 refine ldP_of (frame_rd M1.ftop).1 ?_
 rw[ptrK_some]
 simp only[add_mk,Nat.zero_add,Nat.add_zero]
 refine ldI_of (mach_rd M1.own).2.2.1 ⟨by omega,by omega,?_⟩
 refine M1.top (f':={fr with a1:=A.told}) (by decide) rfl rfl rfl fun h2 M2 O2=> ?_
 have S2:=H1.only O2 (fun b hb hm=>by simp only[List.mem_singleton]at hb;subst hb;exact nfr hm)
 have nc:c∉[fr.b]:=fun hm=>by
  simp only[List.mem_singleton]at hm
  have:=M.lt fr.b top_mem
  omega
 have Or2:=Or.only O2 nc
 refine ldI_of (n:=(fr.level:Int)) (frame_rd M2.ftop).2.2.2.2.2.1 ?_
 refine ord_var Or2 n8 hln (ldI_of rfl ?_)
 show Cl 186 [_,.int .i64 (bitsI .xor .i64 ((fo fr.level:Nat):Int) (1:Int))] _ _
 rw[xor1 p1]
 refine ord_level Or2 n8 p2 (ldI_of rfl ?_)
 exact hK h2 S2 M2 ((O1.mono (by simp)).trans O2 fun b hb _=>hb)
end
def tc(n:Nat):Nat→Nat
 |0=>1
 |k+1=>2*tc n k+jc n+4
theorem tc_pos(n:Nat): ∀k,1≤tc n k
 |0=>Nat.le_refl _
 |k+1=>by have:tc n (k+1)=2*tc n k+jc n+4:=rfl;omega
section
variable {h0:Heap}{s n room m:Nat}{fo gg:Nat→Nat}{off:Bool}{N0:List (Option Nd)}{K:Value→Heap→Prop}{L0:List Nat}
theorem run_turn(F:FullK h0 L0 N0 s n room fo gg off m K)(hp:Pairs n fo gg): ∀(k:Nat) {h:Heap} {L:List Nat} {N:List (Option Nd)} {A:MA} {fl:List Fk} {fr:Fk} {d:Nat},A.m=m→RS h0 L0 N0 s n room fo gg off h L N {A with fs:=fl++[fr]}→fr.fn=192→isN N fr.a0→
  n-lvl n N fr.a0≤k→fl.length+k≤500→n≤100→A.done=false→1≤d→
  (∀h' L' N' fp fc r,Ex N N'→TR n fo N' fr.a0 r→RS h0 L0 N0 s n room fo gg off h' L' N' (popA A fl fp fc r)→Rn m K d h')→Rn m K (d+tc n k) h:=by
 intro k
 induction k with
 |zero=>
  intro h L N A fl fr d em R e ha hk hl n1 hd d1 hT
  subst em
  have ok:=R.S.ok
  dsimp only[XL]at ok
  refine rn_step R.S R.M (by omega) hd fun hQ=> ?_
  unfold goV
  rw[e]
  refine dynK_go go192 (turn192 R.S R.M R.D (by omega) ha (fun q h' fp S' M' ep O=> ?_) fun q h' b fp fc hb S' M' g O=> ?_)
  ·exact hQ h' (hT h' L N fp A.fc fr.a0 (Ex.refl _) (tr_leaf ok.1 q) (R.popped (Ex.refl _) S' M' ep O (Fresh.refl _ _)))
  ·have:=(ok.1.at ha q).1;omega
 |succ k ih=>
  intro h L N A fl fr d em R e ha hk hl n1 hd d1 hT
  subst em
  have ok:=R.S.ok
  dsimp only[XL]at ok
  have jp:=tc_pos n k
  have ej:d+tc n (k+1)=(d+jc n+1+1+tc n k+1+tc n k)+1:=by have:tc n (k+1)=2*tc n k+jc n+4:=rfl;omega
  rw[ej]
  refine rn_step R.S R.M (by omega) hd fun hQ=> ?_
  unfold goV
  rw[e]
  refine dynK_go go192 (turn192 R.S R.M R.D (by omega) ha (fun q h' fp S' M' ep O=> ?_) fun a2 h' b fp fc hb S' M' g O=> ?_)
  ·exact hQ h' ((hT h' L N fp A.fc fr.a0 (Ex.refl _) (tr_leaf ok.1 q) (R.popped (Ex.refl _) S' M' ep O (Fresh.refl _ _))).mono (by omega))
  refine hQ h' ?_
  obtain⟨h3,h4,h5,-,h6,h7⟩:=ok.1.at ha a2
  have R1:=R.next0 S' M' O (bl_push (fr:=fr) rfl rfl hb g)
  refine ih (A:={A with fp:=fp,fc:=fc}) (d:=d+jc n+1+1+tc n k+1) (fr:=⟨b,fr.op,fr.mask,low N fr.a0,fr.a1,0,0,0,192⟩) rfl R1 rfl h4 (by dsimp only;omega) (by simp;omega) n1 hd (by omega) fun k2 L2 N2 fp2 fc2 r E2 V R2=> ?_
  have ok2:=R2.S.ok
  dsimp only[XL]at ok2
  have R2:=R2.ofPop
  refine rn_step (A:={A with fp:=fp2,fc:=fc2,told:=r,done:=false}) R2.S R2.M (by omega) rfl fun hQ2=> ?_
  show dynK Tryz.prog X (goV 237 fr.b) [] k2 _
  unfold goV
  have a0:=E2.isN ha
  refine dynK_go go237 (high237 (fr:={fr with level:=lvl n N fr.a0,fn:=237}) (A:={A with fp:=fp2,fc:=fc2,told:=r,done:=false}) R2.S R2.M R2.D (by omega) a0 fun k3 b3 fp3 fc3 hb3 M3 g3 O3=> ?_)
  refine hQ2 k3 ?_
  have S3:=R2.S.only O3 (fun x hx=>R2.D x hx)
  have R3:=R2.next0 S3 M3 (O3.mono fun x hx _=>List.mem_append.2 (.inr hx)) (bl_push (A:={A with fp:=fp2,fc:=fc2,told:=r,done:=false}) (fr:={fr with level:=lvl n N fr.a0,fn:=237}) rfl rfl hb3 g3)
  have V:TR n fo N2 (low N2 fr.a0) r:=by rw[E2.low ha];exact V
  refine ih (A:={A with fp:=fp3,fc:=fc3,told:=r,done:=false}) (d:=d+jc n+1+1) (fr:=⟨b3,fr.op,fr.mask,high N2 fr.a0,fr.a1,0,0,0,192⟩) rfl R3 rfl (by rw[E2.high ha];exact E2.isN h5) (by dsimp only;rw[E2.high ha,E2.lvl h5];omega) (by simp;omega) n1 rfl (by omega) fun k4 L4 N4 fp4 fc4 r4 E4 W R4=> ?_
  have ok4:=R4.S.ok
  dsimp only[XL]at ok4
  have R4:=R4.ofPop
  have b0:=E4.isN a0
  have l4:lvl n N4 fr.a0=lvl n N fr.a0:=by rw[E4.lvl a0,E2.lvl ha]
  obtain⟨i3,i4,i5,-,i6,i7⟩:=ok2.1.at a0 a2
  have V4:TR n fo N4 (low N4 fr.a0) r:=by rw[E4.low a0];exact V.ext ok2.1 E4 i4
  have W4:TR n fo N4 (high N4 fr.a0) r4:=by rw[E4.high a0];exact W
  obtain⟨p1,p2,p3,p4⟩:=hp _ h3
  refine rn_step (A:={A with fp:=fp4,fc:=fc4,told:=r4,done:=false}) R4.S R4.M (by omega) rfl fun hQ4=> ?_
  show dynK Tryz.prog X (goV 281 fr.b) [] k4 _
  unfold goV
  refine dynK_go go281 (tnode281 (fr:={fr with level:=lvl n N fr.a0,low:=r,fn:=281}) (A:={A with fp:=fp4,fc:=fc4,told:=r4,done:=false}) R4.S R4.M R4.D hp h3 fun k5 S5 M5 O5=> ?_)
  have R5:=R4.next0 S5 M5 (O5.mono fun x hx _=>List.mem_append.2 (.inr (by simp only[List.mem_singleton]at hx;subst hx;exact top_mem (fr:={fr with level:=lvl n N fr.a0,low:=r,fn:=281})))) fun x hx=> .inl (by rw[bl_top]at hx;exact hx;rfl)
  refine chooses303 (fr:={fr with level:=lvl n N fr.a0,low:=r,a1:=r4,fn:=281}) (A:={A with fp:=fp4,fc:=fc4,told:=r4,done:=false}) R5.S R5.M R5.D p3 (fun k6 L6 N6 v E6 vN vS S6 M6 O6 g6=>⟨rfl,hQ4 k6 ?_⟩) fun k6 L6 hf S6 M6 O6 g6=>⟨rfl,hQ4 k6 ?_⟩
  ·have R6:=R5.next S6 M6 E6 O6 g6 (fun x hx=> .inl (by rw[bl_top]at hx;exact hx;rfl)) fun x hx hmm=>by
    have hx:x∈({({A with fp:=fp4,fc:=fc4,told:=r4,done:=false}:MA)with fs:=fl++[{fr with level:=lvl n N fr.a0,low:=r,a1:=r4,fn:=281}]}:MA).bl:=by rw[bl_top]at hx;exact hx;rfl
    rcases g6 x hmm with q|q
    ·exact R5.D x hx q
    ·have:=R5.M.lt x hx;omega
   have ok6:=R6.S.ok
   dsimp only[XL]at ok6
   refine(run_join F n (A:={A with fp:=fp4,fc:=fc4,told:=r4,done:=false}) (d:=d) (fr:={fr with level:=lvl n N fr.a0,op:=5,mask:=0,a0:=v,a1:=r4,a2:=r,low:=0,fn:=180}) rfl R6 rfl (.inr (.inr (.inr rfl))) vN (E6.isN W4.is) (E6.isN V4.is) (by omega) (by omega) rfl d1 fun k7 L7 N7 fp7 fc7 r7 E7 OR R7=> ?_).mono (by omega)
   refine hT k7 L7 N7 fp7 fc7 r7 (((E2.trans E4).trans E6).trans E7) (tr_node ok4.1 (E6.trans E7) b0 (by rw[l4];exact h3) V4 W4 (fun x=> ?_) OR) R7
   rw[E7.sm ok6.1 vN,vS,l4,p4]
  ·exact RS.full (fp:=none) (fc:=0) F (A:={A with fp:=fp4,fc:=fc4,told:=r4,done:=false}) rfl (by omega) R5 S6 M6 O6 g6
end
end
section
theorem go138:xget X 138=some Ext.go:=by kernel_rfl
theorem go139:xget X 139=some Ext.go:=by kernel_rfl
theorem go190:xget X 190=some Ext.go:=by kernel_rfl
theorem go191:xget X 191=some Ext.go:=by kernel_rfl
theorem go234:xget X 234=some Ext.go:=by kernel_rfl
theorem go236:xget X 236=some Ext.go:=by kernel_rfl
theorem go280:xget X 280=some Ext.go:=by kernel_rfl
theorem there_ok{n k:Nat}(hn:n≤8)(hk:k=85∨k=170):IntKind.wrap .u8 (bitsI .and .i64 (k:Int) (IntKind.wrap .i64 ((IntKind.wrap .i64 ((1:Int)*2^(min (Int.toNat (n:Int)) (IntKind.bits .i64))))-(1:Int))))=((k%2^n:Nat):Int):=by
 have:n=0∨n=1∨n=2∨n=3∨n=4∨n=5∨n=6∨n=7∨n=8:=by omega
 rcases hk with e|e<;>subst e<;>rcases this with e|e|e|e|e|e|e|e|e<;>subst e<;>rfl
def laid(A:MA)(fl:List Fk)(fr:Fk)(nx:Nat)(fp:Option Addr)(fc b op mask a0 a1 q:Nat):MA:={A with fp:=fp,fc:=fc,fs:=fl++[{fr with fn:=nx}]++[⟨b,op,mask,a0,a1,0,0,0,q⟩]}
section
variable {h:Heap}{s n room:Nat}{fo gg:Nat→Nat}{off:Bool}{N:List (Option Nd)}{A:MA}{fl:List Fk}{fr:Fk}{K:Value→Heap→Prop}{L:List Nat}
theorem laid_tail{h1 h2:Heap}(nx:Nat)(D: ∀b∈({A with fs:=fl++[fr]}:MA).bl,b∉L)(S1:Sto h1 s L (XL n room fo gg N off))(O1:Only [fr.b] h h1)(O2:Only (A.m::OwnB A.fp) h1 h2):Sto h2 s L (XL n room fo gg N off)∧Only (L++({A with fs:=fl++[fr]}:MA).bl) h h2:=by
 refine⟨S1.only O2 fun x hx=>D x (own_bl x hx),(O1.mono fun x hx _=> ?_).trans O2 fun x hx _=>List.mem_append.2 (.inr (own_bl x hx))⟩
 simp only[List.mem_singleton]at hx
 subst hx
 exact List.mem_append.2 (.inr top_mem)
theorem exists235{r k:Nat}(H:Sto h s L (XL n room fo gg N off))(M:MaIs h s {A with fs:=fl++[fr]})(hl:fl.length<100000)(hk:k=85∨k=170)
  (hK: ∀h' b fp fc,h.size≤b→MaIs h' s {A with fp:=fp,fc:=fc,fs:=fl++[fr]++[⟨b,6,k%2^n,r,0,0,0,0,136⟩]}→(∀b∈OwnB fp,b∈OwnB A.fp∨h.size≤b)→Only (A.m::OwnB A.fp) h h'→K (.tuple #[]) h'):
  Cl 235 [ptrV fr.b,.int .u32 (r:Int),.int .i64 (k:Int)] h K:=by
 have ok:=H.ok
 dsimp only[XL]at ok
 refine F235.spec _ _ _ h K ?_
 simp only[add_mk,Nat.zero_add,Nat.add_zero]
 refine ldP_of (frame_rd M.ftop).1 ?_
 rw[ptrK_some]
 simp only[add_mk,Nat.zero_add,Nat.add_zero]
 refine ldP_of (mach_rd M.own).1 (sto_vars H (ldI_of rfl ⟨Int.natCast_nonneg _,ldP_of (frame_rd M.ftop).1 ?_⟩))
 show Cl 135 [_,_,.int .u8 (IntKind.wrap .u8 (bitsI .and .i64 (k:Int) (IntKind.wrap .i64 ((IntKind.wrap .i64 ((1:Int)*2^(min (Int.toNat ((n:Nat):Int)) (IntKind.bits .i64))))-(1:Int))))),_] _ _
 rw[there_ok ok.2.2.1 hk]
 refine calls135 (op:=6) (a1:=0) (a2:=0) (A:={A with fs:=fl++[fr]}) M (by simp;omega) fun h9 g9 fp fc hg9 M9 O9 own9=>ldP_of rfl ?_
 obtain⟨b,rfl,hb9⟩:=hg9
 rw[ptrK_some]
 simp only[add_mk,Nat.zero_add,Nat.add_zero]
 refine MaIs.top (A:={A with fp:=fp,fc:=fc}) (fl:=fl++[fr]) (f':=⟨b,6,k%2^n,r,0,0,0,0,136⟩) M9 (by decide) rfl rfl rfl fun h10 M10 O10=> ?_
 have z9:=O9.size
 exact hK h10 b fp fc hb9 M10 own9 (O9.trans O10 fun x hx hl=>by simp only[List.mem_singleton]at hx;omega)
theorem nj138(H:Sto h s L (XL n room fo gg N off))(M:MaIs h s {A with fs:=fl++[fr]})(D: ∀b∈({A with fs:=fl++[fr]}:MA).bl,b∉L)(hl:fl.length<100000)(h2:fr.a2=0)
  (hP: ∀h' b fp fc,h.size≤b→Sto h' s L (XL n room fo gg N off)→MaIs h' s (laid A fl fr 190 fp fc b 2 0 fr.a0 fr.a1 180)→(∀b∈OwnB fp,b∈OwnB A.fp∨h.size≤b)→Only (L++({A with fs:=fl++[fr]}:MA).bl) h h'→K (.tuple #[]) h'):Cl 138 [ptrV fr.b] h K:=by
 refine F138.spec _ h K ?_
 simp only[add_mk,Nat.zero_add,Nat.add_zero]
 have nfr:fr.b∉L:=D _ top_mem
 refine M.top (f':={fr with fn:=190}) (by decide) rfl rfl rfl fun h1 M1 O1=> ?_
 have S1:=H.only O1 (fun b hb hm=>by simp only[List.mem_singleton]at hb;subst hb;exact nfr hm)
 obtain⟨q0,q1,q3,q4,q5,-⟩:=frame_rd M1.ftop
 refine ldP_of q0 (ldI_of q3 (ldI_of q4 (ldI_of q5 ?_)))
 refine calls135 (op:=2) (mask:=0) (A:={A with fs:=fl++[{fr with fn:=190}]}) M1 (by simp;omega) fun h9 g9 fp fc hg9 M9 O9 own9=>ldP_of rfl ?_
 obtain⟨b,rfl,hb9⟩:=hg9
 have z1:=O1.size
 obtain⟨S9,O⟩:=laid_tail 190 D S1 O1 O9
 have M9:MaIs h9 s (laid A fl fr 190 fp fc b 2 0 fr.a0 fr.a1 180):=by
  have e:(⟨b,2,0,fr.a0,fr.a1,fr.a2,0,0,180⟩:Fk)=⟨b,2,0,fr.a0,fr.a1,0,0,0,180⟩:=by rw[h2]
  unfold laid
  rw[←e]
  exact M9
 exact hP h9 b fp fc (by omega) S9 M9 (fun x hx=>(own9 x hx).imp id fun h=>by omega) O
theorem ng190(H:Sto h s L (XL n room fo gg N off))(M:MaIs h s {A with fs:=fl++[fr]})(D: ∀b∈({A with fs:=fl++[fr]}:MA).bl,b∉L)(hl:fl.length<100000)
  (hP: ∀h' b fp fc,h.size≤b→Sto h' s L (XL n room fo gg N off)→MaIs h' s (laid A fl fr 234 fp fc b 6 (85%2^n) A.told 0 136)→(∀b∈OwnB fp,b∈OwnB A.fp∨h.size≤b)→Only (L++({A with fs:=fl++[fr]}:MA).bl) h h'→K (.tuple #[]) h'):Cl 190 [ptrV fr.b] h K:=by
 refine F190.spec _ h K ?_
 simp only[add_mk,Nat.zero_add,Nat.add_zero]
 have nfr:fr.b∉L:=D _ top_mem
 refine M.top (f':={fr with fn:=234}) (by decide) rfl rfl rfl fun h1 M1 O1=> ?_
 have S1:=H.only O1 (fun b hb hm=>by simp only[List.mem_singleton]at hb;subst hb;exact nfr hm)
 refine ldP_of (frame_rd M1.ftop).1 ?_
 rw[ptrK_some]
 simp only[add_mk,Nat.zero_add,Nat.add_zero]
 refine ldI_of (mach_rd M1.own).2.2.1 ?_
 refine exists235 (k:=85) (fr:={fr with fn:=234}) S1 M1 hl (.inl rfl) fun h2 b fp fc hb M2 own O2=>⟨rfl,?_⟩
 have z1:=O1.size
 obtain⟨S9,O⟩:=laid_tail 234 D S1 O1 O2
 exact hP h2 b fp fc (by omega) S9 M2 (fun x hx=>(own x hx).imp id fun h=>by omega) O
theorem nt234(M:MaIs h s {A with fs:=fl++[fr]})
  (hK: ∀h',MaIs h' s {A with fs:=fl++[{fr with a0:=A.told,a1:=0,a2:=0,fn:=192}]}→Only [fr.b] h h'→K (.tuple #[]) h'):Cl 234 [ptrV fr.b] h K:=by
 refine F234.spec _ h K ?_
 simp only[add_mk,Nat.zero_add,Nat.add_zero]
 refine ldP_of (frame_rd M.ftop).1 ?_
 rw[ptrK_some]
 simp only[add_mk,Nat.zero_add,Nat.add_zero]
 refine ldI_of (mach_rd M.own).2.2.1 ?_
 refine M.top (f':={fr with a0:=A.told}) (by decide) rfl rfl rfl fun h1 M1 O1=> ?_
 refine M1.top (f':={fr with a0:=A.told,a1:=0}) (by decide) rfl rfl rfl fun h2 M2 O2=> ?_
 refine M2.top (f':={fr with a0:=A.told,a1:=0,a2:=0}) (by decide) rfl rfl rfl fun h3 M3 O3=> ?_
 refine M3.top (f':={fr with a0:=A.told,a1:=0,a2:=0,fn:=192}) (by decide) rfl rfl rfl fun h4 M4 O4=> ?_
 exact hK h4 M4 (((O1.trans O2 fun b hb _=>hb).trans O3 fun b hb _=>hb).trans O4 fun b hb _=>hb)
theorem pt139(H:Sto h s L (XL n room fo gg N off))(M:MaIs h s {A with fs:=fl++[fr]})(D: ∀b∈({A with fs:=fl++[fr]}:MA).bl,b∉L)(hl:fl.length<100000)
  (hP: ∀h' b fp fc,h.size≤b→Sto h' s L (XL n room fo gg N off)→MaIs h' s (laid A fl fr 191 fp fc b fr.op 0 fr.a0 0 192)→(∀b∈OwnB fp,b∈OwnB A.fp∨h.size≤b)→Only (L++({A with fs:=fl++[fr]}:MA).bl) h h'→K (.tuple #[]) h'):Cl 139 [ptrV fr.b] h K:=by
 refine F139.spec _ h K ?_
 simp only[add_mk,Nat.zero_add,Nat.add_zero]
 have nfr:fr.b∉L:=D _ top_mem
 refine M.top (f':={fr with fn:=191}) (by decide) rfl rfl rfl fun h1 M1 O1=> ?_
 have S1:=H.only O1 (fun b hb hm=>by simp only[List.mem_singleton]at hb;subst hb;exact nfr hm)
 obtain⟨q0,q1,q3,q4,q5,-⟩:=frame_rd M1.ftop
 refine ldP_of q0 (ldI_of q1 ⟨by omega,by omega,ldI_of (n:=(fr.a0:Int)) q3 ?_⟩)
 refine calls135 (mask:=0) (a1:=0) (a2:=0) (A:={A with fs:=fl++[{fr with fn:=191}]}) M1 (by simp;omega) fun h9 g9 fp fc hg9 M9 O9 own9=>ldP_of rfl ?_
 obtain⟨b,rfl,hb9⟩:=hg9
 rw[ptrK_some]
 simp only[add_mk,Nat.zero_add,Nat.add_zero]
 have M9:MaIs h9 s {({A with fp:=fp,fc:=fc}:MA)with fs:=(fl++[{fr with fn:=191}])++[⟨b,fr.op,0,fr.a0,0,0,0,0,180⟩]}:=M9
 refine MaIs.top (A:={A with fp:=fp,fc:=fc}) (fl:=fl++[{fr with fn:=191}]) (f:=⟨b,fr.op,0,fr.a0,0,0,0,0,180⟩) (f':=⟨b,fr.op,0,fr.a0,0,0,0,0,192⟩) M9 (by decide) rfl rfl rfl fun h10 M10 O10=> ?_
 have z1:=O1.size
 have z9:=O9.size
 have O910:Only (A.m::OwnB A.fp) h1 h10:=O9.trans O10 fun x hx hl=>by simp only[List.mem_singleton]at hx;omega
 obtain⟨S9,O⟩:=laid_tail 191 D S1 O1 O910
 exact hP h10 b fp fc (by omega) S9 M10 (fun x hx=>(own9 x hx).imp id fun h=>by omega) O
theorem pj191(H:Sto h s L (XL n room fo gg N off))(M:MaIs h s {A with fs:=fl++[fr]})(D: ∀b∈({A with fs:=fl++[fr]}:MA).bl,b∉L)(hl:fl.length<100000)
  (hP: ∀h' b fp fc,h.size≤b→Sto h' s L (XL n room fo gg N off)→MaIs h' s (laid A fl fr 236 fp fc b 2 0 A.told fr.a1 180)→(∀b∈OwnB fp,b∈OwnB A.fp∨h.size≤b)→Only (L++({A with fs:=fl++[fr]}:MA).bl) h h'→K (.tuple #[]) h'):Cl 191 [ptrV fr.b] h K:=by
 refine F191.spec _ h K ?_
 simp only[add_mk,Nat.zero_add,Nat.add_zero]
 have nfr:fr.b∉L:=D _ top_mem
 refine M.top (f':={fr with fn:=236}) (by decide) rfl rfl rfl fun h1 M1 O1=> ?_
 have S1:=H.only O1 (fun b hb hm=>by simp only[List.mem_singleton]at hb;subst hb;exact nfr hm)
 obtain⟨q0,q1,q3,q4,q5,-⟩:=frame_rd M1.ftop
 refine ldP_of q0 (ldP_of q0 ?_)
 rw[ptrK_some]
 simp only[add_mk,Nat.zero_add,Nat.add_zero]
 refine ldI_of (mach_rd M1.own).2.2.1 ⟨by omega,by omega,ldI_of (n:=(fr.a1:Int)) q4 ?_⟩
 refine calls135 (op:=2) (mask:=0) (a2:=0) (A:={A with fs:=fl++[{fr with fn:=236}]}) M1 (by simp;omega) fun h9 g9 fp fc hg9 M9 O9 own9=>ldP_of rfl ?_
 obtain⟨b,rfl,hb9⟩:=hg9
 have z1:=O1.size
 obtain⟨S9,O⟩:=laid_tail 236 D S1 O1 O9
 exact hP h9 b fp fc (by omega) S9 M9 (fun x hx=>(own9 x hx).imp id fun h=>by omega) O
theorem pg236(H:Sto h s L (XL n room fo gg N off))(M:MaIs h s {A with fs:=fl++[fr]})(D: ∀b∈({A with fs:=fl++[fr]}:MA).bl,b∉L)(hl:fl.length<100000)
  (hP: ∀h' b fp fc,h.size≤b→Sto h' s L (XL n room fo gg N off)→MaIs h' s (laid A fl fr 280 fp fc b 6 (170%2^n) A.told 0 136)→(∀b∈OwnB fp,b∈OwnB A.fp∨h.size≤b)→Only (L++({A with fs:=fl++[fr]}:MA).bl) h h'→K (.tuple #[]) h'):Cl 236 [ptrV fr.b] h K:=by
 refine F236.spec _ h K ?_
 simp only[add_mk,Nat.zero_add,Nat.add_zero]
 have nfr:fr.b∉L:=D _ top_mem
 refine M.top (f':={fr with fn:=280}) (by decide) rfl rfl rfl fun h1 M1 O1=> ?_
 have S1:=H.only O1 (fun b hb hm=>by simp only[List.mem_singleton]at hb;subst hb;exact nfr hm)
 refine ldP_of (frame_rd M1.ftop).1 ?_
 rw[ptrK_some]
 simp only[add_mk,Nat.zero_add,Nat.add_zero]
 refine ldI_of (mach_rd M1.own).2.2.1 ?_
 refine exists235 (k:=170) (fr:={fr with fn:=280}) S1 M1 hl (.inr rfl) fun h2 b fp fc hb M2 own O2=>⟨rfl,?_⟩
 have z1:=O1.size
 obtain⟨S9,O⟩:=laid_tail 280 D S1 O1 O2
 exact hP h2 b fp fc (by omega) S9 M2 (fun x hx=>(own x hx).imp id fun h=>by omega) O
theorem lasts280(M:MaIs h s {A with fs:=fl++[fr]})(hl:fl.length<100000)
  (hK: ∀h' fp,MaIs h' s {A with fp:=fp,fs:=fl,told:=A.told,done:=fl.isEmpty}→OwnB fp=OwnB A.fp→Only [A.m] h h'→K (.tuple #[]) h'):Cl 280 [ptrV fr.b] h K:=by
 refine F280.spec _ h K ?_
 simp only[add_mk,Nat.zero_add,Nat.add_zero]
 refine ldP_of (frame_rd M.ftop).1 (ldP_of (frame_rd M.ftop).1 ?_)
 rw[ptrK_some]
 simp only[add_mk,Nat.zero_add,Nat.add_zero]
 refine ldI_of (mach_rd M.own).2.2.1 ?_
 exact tells181 M (by omega) fun h2 fp M2 e2 O2=>⟨rfl,hK h2 fp M2 e2 O2⟩
end
end
section
def NxR(n:Nat)(fo:Nat→Nat)(N:List (Option Nd))(a b r:Nat):Prop:= ∃r1 r2,OpR n fo N 2 a b 0 r1∧QR n fo N 6 (85%2^n) r1 r2∧TR n fo N r2 r
def PvR(n:Nat)(fo:Nat→Nat)(N:List (Option Nd))(a b r:Nat):Prop:= ∃r1 r2,TR n fo N a r1∧OpR n fo N 2 r1 b 0 r2∧QR n fo N 6 (170%2^n) r2 r
section
variable {h0:Heap}{s n room m:Nat}{fo gg:Nat→Nat}{off:Bool}{N0:List (Option Nd)}{K:Value→Heap→Prop}{L0:List Nat}
theorem m256{n k:Nat}(hk:k<256):k%2^n<256:=Nat.lt_of_le_of_lt (Nat.mod_le _ _) hk
theorem run_next(F:FullK h0 L0 N0 s n room fo gg off m K)(hp:Pairs n fo gg)(hn:n≤8){h:Heap}{L:List Nat}{N:List (Option Nd)}{A:MA}{fr:Fk}(em:A.m=m)(R:RS h0 L0 N0 s n room fo gg off h L N {A with fs:=[]++[fr]})(e:fr.fn=138)(ha:isN N fr.a0)(hb:isN N fr.a1)(hc:fr.a2=0)(hd:A.done=false)
  (hT: ∀h' L' N' fp fc r,Ex N N'→NxR n fo N' fr.a0 fr.a1 r→RS h0 L0 N0 s n room fo gg off h' L' N' (popA A [] fp fc r)→Rn m K 1 h'): ∃d,Rn m K d h:=by
 subst em
 have ok:=R.S.ok
 dsimp only[XL]at ok
 have z0: ∀{M:List (Option Nd)},isN M 0:= .inl (by decide)
 refine⟨((((1+tc n n)+1)+qc n n)+1+jc n)+1,?_⟩
 refine rn_step R.S R.M (by simp) hd fun hQ=> ?_
 unfold goV
 rw[e]
 refine dynK_go go138 (nj138 R.S R.M R.D (by simp) hc fun h1 b fp fc hb1 S1 M1 g1 O1=>hQ h1 ?_)
 have R1:=R.next0 S1 M1 O1 (bl_push (fr:=fr) (fr':={fr with fn:=190}) rfl rfl hb1 g1)
 refine run_join F n (A:={A with fp:=fp,fc:=fc}) (fl:=[]++[{fr with fn:=190}]) (fr:=⟨b,2,0,fr.a0,fr.a1,0,0,0,180⟩) rfl R1 rfl (.inl rfl) ha hb z0 (by omega) (by simp;omega) hd (by omega) fun h2 L2 N2 fp2 fc2 r1 E2 OR R2=> ?_
 have ok2:=R2.S.ok
 dsimp only[XL]at ok2
 have R2:=R2.ofPop
 have hf: ∀l,l<n→fo l<8:=fun l hl=>(hp l hl).1
 refine rn_step (A:={A with fp:=fp2,fc:=fc2,told:=r1,done:=false}) R2.S R2.M (by simp) rfl fun hQ2=> ?_
 show dynK Tryz.prog X (goV 190 fr.b) [] h2 _
 unfold goV
 refine dynK_go go190 (ng190 (fr:={fr with fn:=190}) (A:={A with fp:=fp2,fc:=fc2,told:=r1,done:=false}) R2.S R2.M R2.D (by simp) fun h3 b3 fp3 fc3 hb3 S3 M3 g3 O3=>hQ2 h3 ?_)
 have R3:=R2.next0 S3 M3 O3 (bl_push (A:={A with fp:=fp2,fc:=fc2,told:=r1,done:=false}) (fr:={fr with fn:=190}) (fr':={fr with fn:=234}) rfl rfl hb3 g3)
 refine run_quant F hf hn n (A:={A with fp:=fp3,fc:=fc3,told:=r1,done:=false}) (fl:=[]++[{fr with fn:=234}]) (fr:=⟨b3,6,85%2^n,r1,0,0,0,0,136⟩) rfl R3 rfl (.inl rfl) (m256 (by decide)) OR.is (by omega) (by simp;omega) rfl (by omega) fun h4 L4 N4 fp4 fc4 r2 E4 QR4 R4=> ?_
 have ok4:=R4.S.ok
 dsimp only[XL]at ok4
 have R4:=R4.ofPop
 have OR4:=OR.ext ok2.1 E4 (E2.isN ha) (E2.isN hb) z0
 refine rn_step (A:={A with fp:=fp4,fc:=fc4,told:=r2,done:=false}) R4.S R4.M (by simp) rfl fun hQ4=> ?_
 show dynK Tryz.prog X (goV 234 fr.b) [] h4 _
 unfold goV
 refine dynK_go go234 (nt234 (fr:={fr with fn:=234}) (A:={A with fp:=fp4,fc:=fc4,told:=r2,done:=false}) R4.M fun h5 M5 O5=>hQ4 h5 ?_)
 have nfr:fr.b∉L4:=R4.D _ (top_mem (fr:={fr with fn:=234}))
 have R5:=R4.next0 (R4.S.only O5 fun x hx hm=>by simp only[List.mem_singleton]at hx;subst hx;exact nfr hm) M5 (O5.mono fun x hx _=>List.mem_append.2 (.inr (by simp only[List.mem_singleton]at hx;subst hx;exact top_mem (fr:={fr with fn:=234})))) fun x hx=> .inl (by rw[bl_top]at hx;exact hx;rfl)
 refine run_turn F hp n (A:={A with fp:=fp4,fc:=fc4,told:=r2,done:=false}) (fl:=[]) (fr:={fr with a0:=r2,a1:=0,a2:=0,fn:=192}) rfl R5 rfl QR4.is (by omega) (by simp;omega) (by omega) rfl (by omega) fun h6 L6 N6 fp6 fc6 r3 E6 TR6 R6=> ?_
 exact hT h6 L6 N6 fp6 fc6 r3 ((E2.trans E4).trans E6) ⟨r1,r2,OR4.ext ok4.1 E6 (E4.isN (E2.isN ha)) (E4.isN (E2.isN hb)) z0,QR4.ext ok4.1 E6 (E4.isN OR.is),TR6⟩ R6
theorem run_prev(F:FullK h0 L0 N0 s n room fo gg off m K)(hp:Pairs n fo gg)(hn:n≤8){h:Heap}{L:List Nat}{N:List (Option Nd)}{A:MA}{fr:Fk}(em:A.m=m)(R:RS h0 L0 N0 s n room fo gg off h L N {A with fs:=[]++[fr]})(e:fr.fn=139)(ha:isN N fr.a0)(hb:isN N fr.a1)(hd:A.done=false)
  (hT: ∀h' L' N' fp fc r,Ex N N'→PvR n fo N' fr.a0 fr.a1 r→RS h0 L0 N0 s n room fo gg off h' L' N' (popA A [] fp fc r)→Rn m K 1 h'): ∃d,Rn m K d h:=by
 subst em
 have ok:=R.S.ok
 dsimp only[XL]at ok
 have z0: ∀{M:List (Option Nd)},isN M 0:= .inl (by decide)
 refine⟨((((((1+1)+qc n n)+1)+jc n)+1)+tc n n)+1,?_⟩
 refine rn_step R.S R.M (by simp) hd fun hQ=> ?_
 unfold goV
 rw[e]
 refine dynK_go go139 (pt139 R.S R.M R.D (by simp) fun h1 b fp fc hb1 S1 M1 g1 O1=>hQ h1 ?_)
 have R1:=R.next0 S1 M1 O1 (bl_push (fr:=fr) (fr':={fr with fn:=191}) rfl rfl hb1 g1)
 have hf: ∀l,l<n→fo l<8:=fun l hl=>(hp l hl).1
 refine run_turn F hp n (A:={A with fp:=fp,fc:=fc}) (fl:=[]++[{fr with fn:=191}]) (fr:=⟨b,fr.op,0,fr.a0,0,0,0,0,192⟩) rfl R1 rfl ha (by omega) (by simp;omega) (by omega) hd (by omega) fun h2 L2 N2 fp2 fc2 r1 E2 TR2 R2=> ?_
 have ok2:=R2.S.ok
 dsimp only[XL]at ok2
 have R2:=R2.ofPop
 refine rn_step (A:={A with fp:=fp2,fc:=fc2,told:=r1,done:=false}) R2.S R2.M (by simp) rfl fun hQ2=> ?_
 show dynK Tryz.prog X (goV 191 fr.b) [] h2 _
 unfold goV
 refine dynK_go go191 (pj191 (fr:={fr with fn:=191}) (A:={A with fp:=fp2,fc:=fc2,told:=r1,done:=false}) R2.S R2.M R2.D (by simp) fun h3 b3 fp3 fc3 hb3 S3 M3 g3 O3=>hQ2 h3 ?_)
 have R3:=R2.next0 S3 M3 O3 (bl_push (A:={A with fp:=fp2,fc:=fc2,told:=r1,done:=false}) (fr:={fr with fn:=191}) (fr':={fr with fn:=236}) rfl rfl hb3 g3)
 refine run_join F n (A:={A with fp:=fp3,fc:=fc3,told:=r1,done:=false}) (fl:=[]++[{fr with fn:=236}]) (fr:=⟨b3,2,0,r1,fr.a1,0,0,0,180⟩) rfl R3 rfl (.inl rfl) TR2.is (E2.isN hb) z0 (by omega) (by simp;omega) rfl (by omega) fun h4 L4 N4 fp4 fc4 r2 E4 OR R4=> ?_
 have ok4:=R4.S.ok
 dsimp only[XL]at ok4
 have R4:=R4.ofPop
 have TR4:=TR2.ext ok2.1 E4 (E2.isN ha)
 refine rn_step (A:={A with fp:=fp4,fc:=fc4,told:=r2,done:=false}) R4.S R4.M (by simp) rfl fun hQ4=> ?_
 show dynK Tryz.prog X (goV 236 fr.b) [] h4 _
 unfold goV
 refine dynK_go go236 (pg236 (fr:={fr with fn:=236}) (A:={A with fp:=fp4,fc:=fc4,told:=r2,done:=false}) R4.S R4.M R4.D (by simp) fun h5 b5 fp5 fc5 hb5 S5 M5 g5 O5=>hQ4 h5 ?_)
 have R5:=R4.next0 S5 M5 O5 (bl_push (A:={A with fp:=fp4,fc:=fc4,told:=r2,done:=false}) (fr:={fr with fn:=236}) (fr':={fr with fn:=280}) rfl rfl hb5 g5)
 refine run_quant F hf hn n (A:={A with fp:=fp5,fc:=fc5,told:=r2,done:=false}) (fl:=[]++[{fr with fn:=280}]) (fr:=⟨b5,6,170%2^n,r2,0,0,0,0,136⟩) rfl R5 rfl (.inl rfl) (m256 (by decide)) OR.is (by omega) (by simp;omega) rfl (by omega) fun h6 L6 N6 fp6 fc6 r3 E6 QR6 R6=> ?_
 have ok6:=R6.S.ok
 dsimp only[XL]at ok6
 have R6:=R6.ofPop
 refine rn_step (A:={A with fp:=fp6,fc:=fc6,told:=r3,done:=false}) R6.S R6.M (by simp) rfl fun hQ6=> ?_
 show dynK Tryz.prog X (goV 280 fr.b) [] h6 _
 unfold goV
 refine dynK_go go280 (lasts280 (fr:={fr with fn:=280}) (A:={A with fp:=fp6,fc:=fc6,told:=r3,done:=false}) R6.M (by simp) fun h7 fp7 M7 ep O7=>hQ6 h7 ?_)
 have nm:A.m∉L6:=R6.D A.m (by simp[MA.bl])
 refine hT h7 L6 N6 fp7 fc6 r3 ((E2.trans E4).trans E6) ⟨r1,r2,TR4.ext ok4.1 E6 (E4.isN (E2.isN ha)),OR.ext ok4.1 E6 (E4.isN TR2.is) (E4.isN (E2.isN hb)) z0,QR6⟩ ?_
 exact R6.popped (fr:={fr with fn:=280}) (Ex.refl _) (R6.S.only O7 fun x hx hm=>by simp only[List.mem_singleton]at hx;subst hx;exact nm hm) M7 ep (O7.mono fun x hx _=>by simp only[List.mem_singleton]at hx;subst hx;exact List.mem_append.2 (.inr (by simp[MA.bl]))) (Fresh.refl _ _)
end
end
end Go.Proofs.YtnofenejoebkhaaGreat.Ev
