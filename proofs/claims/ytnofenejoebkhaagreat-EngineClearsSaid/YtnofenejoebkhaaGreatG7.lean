/- PART 7 OF WHAT THE LAW EngineClears STANDS ON: SrtF5, SrtB5, SrtB6, SrtL5, RefA5, RefB5, IterA, IterB5, IterC5, IterD5, RefG5, MrkA5, MrkB5, IterB6, IterC6, IterD6, ColA5, ColB5, ColC5, EngC65, OncA5, OncB5, UndA5, LawR5. Conditions: none but those that each lemma states. -/
import Derived.Test.YtnofenejoebkhaaGreatG6
import Derived.RangeFuncGives
import Derived.RangeFuncLeaves
import Derived.RangeFuncOwn
import Derived.Maps.OwnIn
import Derived.Maps.AppendAt
import Derived.WalkKit
import Derived.RegionIn
import Derived.LoopNIn
import Derived.LoopIn
import Derived.TacticsInMore
import Derived.Shelf.Abstract
namespace Go.Proofs.YtnofenejoebkhaaGreat.Ev
open Go
section
theorem F295.spec(a:Int)(h:Heap)(K:KK)(H:Cl 323 [.int .u64 a] h fun v1 h2=>ldI .i64 (some v1) fun n3=>K (.int .i64 n3) h2):Cl 295 [.int .u64 a] h K:=cN Tryz.func295 H
def F323.T:Hint:=⟨[(4,[0,2]),(7,[0,2]),(10,[0,2])],[]⟩
section
variable (a b:Int)(h:Heap)(K:KK)
def F323.wk10:Prop:=(0≤(IntKind.wrap .u8 a)∧strK (ByteArray.mk #[0,1,2,2,3,3,3,3,4,4,4,4,4,4,4,4,5,5,5,5,5,5,5,5,5,5,5,5,5,5,5,5,6,6,6,6,6,6,6,6,6,6,6,6,6,6,6,6,6,6,6,6,6,6,6,6,6,6,6,6,6,6,6,6,7,7,7,7,7,7,7,7,7,7,7,7,7,7,7,7,7,7,7,7,7,7,7,7,7,7,7,7,7,7,7,7,7,7,7,7,7,7,7,7,7,7,7,7,7,7,7,7,7,7,7,7,7,7,7,7,7,7,7,7,7,7,7,7,8,8,8,8,8,8,8,8,8,8,8,8,8,8,8,8,8,8,8,8,8,8,8,8,8,8,8,8,8,8,8,8,8,8,8,8,8,8,8,8,8,8,8,8,8,8,8,8,8,8,8,8,8,8,8,8,8,8,8,8,8,8,8,8,8,8,8,8,8,8,8,8,8,8,8,8,8,8,8,8,8,8,8,8,8,8,8,8,8,8,8,8,8,8,8,8,8,8,8,8,8,8,8,8,8,8,8,8,8,8,8,8,8,8,8,8,8,8,8,8,8,8,8,8,8,8,8,8]) (IntKind.wrap .u8 a) fun n1=>K (.int .i64 (IntKind.wrap .i64 (b+(IntKind.wrap .i64 n1)))) h)
def F323.wk7:Prop:=bcase (decide (a≥(256:Int))) ((0≤(8:Int)∧F323.wk10 (Int.fdiv a (2^(min (Int.toNat (8:Int)) (IntKind.bits .u64)))) (IntKind.wrap .i64 (b+(8:Int))) h K)) (F323.wk10 a b h K)
def F323.wk4:Prop:=bcase (decide (a≥(65536:Int))) ((0≤(16:Int)∧F323.wk7 (Int.fdiv a (2^(min (Int.toNat (16:Int)) (IntKind.bits .u64)))) (IntKind.wrap .i64 (b+(16:Int))) h K)) (F323.wk7 a b h K)
theorem F323.spec(a:Int)(h:Heap)(K:KK)(H:bcase (decide (a≥(4294967296:Int))) ((0≤(32:Int)∧F323.wk4 (Int.fdiv a (2^(min (Int.toNat (32:Int)) (IntKind.bits .u64)))) (32:Int) h K)) (F323.wk4 a (0:Int) h K)):Cl 323 [.int .u64 a] h K:=cT F323.T Tryz.func323 H
end
def F294.T:Hint:=⟨[(2,[0,1,2,3,8,9]),(10,[0,1,2,3,8,9,10]),(15,[0,1,2,3,8,9,10,11,12]),(17,[0,1,2,3,8,9,10,11])],[(17,[[(0,[]),(1,[]),(2,[]),(3,[]),(4,[]),(5,[]),(6,[]),(7,[]),(8,[]),(9,[]),(10,[]),(11,[]),(12,[]),(13,[]),(14,[])]])]⟩
section
variable (bk2:(Option Addr)→Nat→Nat→Int→Int→Int→Bool→Bool→Heap→Prop)(n:Nat)(b:Option Addr)(a c:Nat)(d f g:Int)(l o:Bool)(i j q:Int)(h:Heap)(K:KK)
def F294.wk17(bk2:(Option Addr)→Nat→Nat→Int→Int→Int→Bool→Bool→Heap→Prop)(b:Option Addr)(a c:Nat)(d f g:Int)(l o:Bool)(i j:Int)(h:Heap)(K:KK):Prop:=bcase (decide (d>(0:Int))) (ptrK b fun a1=>0≤(IntKind.wrap .i64 (d-(1:Int)))∧(IntKind.wrap .i64 (d-(1:Int)))<(Nat.cast a:Int)∧ldI .u32 (rd h (a1.add (Int.toNat (IntKind.wrap .i64 (d-(1:Int)))*1))) fun n2=>ptrK b fun a3=>0≤j∧j<(Nat.cast a:Int)∧ldI .u32 (rd h (a3.add (Int.toNat j*1))) fun n4=>Cl 319 [.int .u32 n2,.int .u32 n4] h fun v5 h6=>ldB (some v5) fun b7=>bcase (!b7) (Cl 320 [.slice b a c,.int .i64 d,.int .i64 f,.int .i64 j] h6 fun v8 h9=>ldI .i64 (some v8) fun n10=>bk2 b a c n10 f g l o h9) (Cl 321 [.slice b a c,.int .i64 d,.int .i64 f,.int .i64 j] h6 fun v11 h12=> ∃n13:Int,∃b14:Bool,v11=(.tuple #[.int .i64 n13,.bool b14])∧((8:Int)≠0∧bcase (decide ((IntKind.wrap .i64 (n13-d))<(IntKind.wrap .i64 (f-n13)))) (Cl 294 [.slice b a c,.int .i64 d,.int .i64 n13,.int .i64 g] h12 fun v15 h16=>v15=(.tuple #[])∧bk2 b a c (IntKind.wrap .i64 (n13+(1:Int))) f g (decide ((IntKind.wrap .i64 (n13-d))≥(IntKind.wrap .i64 (Int.tdiv i (8:Int))))) b14 h16) (Cl 294 [.slice b a c,.int .i64 (IntKind.wrap .i64 (n13+(1:Int))),.int .i64 f,.int .i64 g] h12 fun v17 h18=>v17=(.tuple #[])∧bk2 b a c d n13 g (decide ((IntKind.wrap .i64 (f-n13))≥(IntKind.wrap .i64 (Int.tdiv i (8:Int))))) b14 h18)))) (Cl 321 [.slice b a c,.int .i64 d,.int .i64 f,.int .i64 j] h fun v19 h20=> ∃n21:Int,∃b22:Bool,v19=(.tuple #[.int .i64 n21,.bool b22])∧((8:Int)≠0∧bcase (decide ((IntKind.wrap .i64 (n21-d))<(IntKind.wrap .i64 (f-n21)))) (Cl 294 [.slice b a c,.int .i64 d,.int .i64 n21,.int .i64 g] h20 fun v23 h24=>v23=(.tuple #[])∧bk2 b a c (IntKind.wrap .i64 (n21+(1:Int))) f g (decide ((IntKind.wrap .i64 (n21-d))≥(IntKind.wrap .i64 (Int.tdiv i (8:Int))))) b22 h24) (Cl 294 [.slice b a c,.int .i64 (IntKind.wrap .i64 (n21+(1:Int))),.int .i64 f,.int .i64 g] h20 fun v25 h26=>v25=(.tuple #[])∧bk2 b a c d n21 g (decide ((IntKind.wrap .i64 (f-n21))≥(IntKind.wrap .i64 (Int.tdiv i (8:Int))))) b22 h26)))
def F294.wk15:Prop:=bcase l (bcase o (bcase (q==(1:Int)) (Cl 318 [.slice b a c,.int .i64 d,.int .i64 f] h fun v1 h2=>ldB (some v1) fun b3=>bcase b3 (K (.tuple #[]) h2) (F294.wk17 bk2 b a c d f g l o i j h2 K)) (F294.wk17 bk2 b a c d f g l o i j h K)) (F294.wk17 bk2 b a c d f g l o i j h K)) (F294.wk17 bk2 b a c d f g l o i j h K)
def F294.wk10:Prop:=Cl 316 [.slice b a c,.int .i64 d,.int .i64 f] h fun v1 h2=> ∃n3:Int,∃n4:Int,v1=(.tuple #[.int .i64 n3,.int .i64 n4])∧bcase (n4==(2:Int)) (Cl 317 [.slice b a c,.int .i64 d,.int .i64 f] h2 fun v5 h6=>v5=(.tuple #[])∧F294.wk15 bk2 b a c d f g l o i (IntKind.wrap .i64 ((IntKind.wrap .i64 (f-(1:Int)))-(IntKind.wrap .i64 (n3-d)))) (1:Int) h6 K) (F294.wk15 bk2 b a c d f g l o i n3 n4 h2 K)
def F294.wL2:Prop:=Lp Tryz.f294 F294.T [1,1,0] n [(0,(.slice b a c)),(1,(.int .i64 d)),(2,(.int .i64 f)),(3,(.int .i64 g)),(8,(.bool l)),(9,(.bool o))] h K
theorem F294.sL2:F294.wL2 (n+1) b a c d f g l o h K=(bcase (decide ((IntKind.wrap .i64 (f-d))≤(12:Int))) (Cl 313 [.slice b a c,.int .i64 d,.int .i64 f] h fun v1 h2=>v1=(.tuple #[])∧K (.tuple #[]) h2) (bcase (g==(0:Int)) (Cl 314 [.slice b a c,.int .i64 d,.int .i64 f] h fun v3 h4=>v3=(.tuple #[])∧K (.tuple #[]) h4) (bcase (!l) (Cl 315 [.slice b a c,.int .i64 d,.int .i64 f] h fun v5 h6=>v5=(.tuple #[])∧F294.wk10 (fun b a c d f g l o h=>F294.wL2 n b a c d f g l o h K) b a c d f (IntKind.wrap .i64 (g-(1:Int))) l o (IntKind.wrap .i64 (f-d)) h6 K) (F294.wk10 (fun b a c d f g l o h=>F294.wL2 n b a c d f g l o h K) b a c d f g l o (IntKind.wrap .i64 (f-d)) h K)))):=by kernel_rfl
def F294.wk2:Prop:=(∃m,F294.wL2 m b a c d f g l o h K)
theorem F294.spec(H:F294.wk2 b a c d f g true true h K):Cl 294 [.slice b a c,.int .i64 d,.int .i64 f,.int .i64 g] h K:=cT F294.T Tryz.func294 H
end
namespace F313
def T:Hint:=⟨[(1,[0,1,2,6]),(4,[0,1,2,6,7])],[(4,[[(0,[]),(1,[]),(2,[]),(3,[]),(4,[]),(5,[]),(6,[]),(7,[]),(8,[]),(9,[]),(10,[]),(11,[]),(12,[]),(13,[]),(14,[])]]),(6,[[(0,[]),(1,[]),(2,[]),(3,[]),(4,[]),(5,[]),(6,[]),(7,[]),(8,[]),(9,[]),(10,[]),(11,[]),(12,[]),(13,[]),(14,[]),(15,[2,3,4]),(16,[]),(17,[])]])]⟩
noncomputable def body:Code:=(Tryz.f313.body).getD .skip
noncomputable def en(S:Stop)(p:List Nat)(κ:XK):Fr→Heap→Prop:=E Tryz.prog X T S (sub body p) κ
noncomputable def ln(S:Stop)(p:List Nat)(κ:XK)(n:Nat):Fr→Heap→Prop:=loopN S (E Tryz.prog X T S (sub body p)) (cutQ T (sub body p)) κ n
def fn(K:KK):XK:=fin Tryz.prog Tryz.f313.results.toList K
noncomputable def c0(_S:Stop)(K:KK):XK:=blockN 0 (fn K)
noncomputable def c1(S:Stop)(n1:Nat)(K:KK):XK:=backN S (cutQ T (sub body [1,0,0])) (ln S [1,0,0] (c0 S K) n1) (c0 S K)
noncomputable def c2(S:Stop)(n1:Nat)(K:KK):XK:=seqN S (cutQ T (sub body [1,0,0,1,1])) (en S [1,0,0,1,1] (c1 S n1 K)) (c1 S n1 K)
noncomputable def c3(S:Stop)(n1:Nat)(K:KK):XK:=blockN 1 (c2 S n1 K)
noncomputable def c4(S:Stop)(n1:Nat)(K:KK):XK:=blockN 2 (c3 S n1 K)
noncomputable def c5(S:Stop)(n1:Nat)(n4:Nat)(K:KK):XK:=backN S (cutQ T (sub body [1,0,0,1,0,0,1,0,0])) (ln S [1,0,0,1,0,0,1,0,0] (c4 S n1 K) n4) (c4 S n1 K)
def f1(b:Option Addr)(a c:Nat)(d f g:Int):Fr:=[(0,(.slice b a c)),(1,(.int .i64 d)),(2,(.int .i64 f)),(6,(.int .i64 g))]
def f4(b:Option Addr)(a c:Nat)(d f g i:Int):Fr:=[(0,(.slice b a c)),(1,(.int .i64 d)),(2,(.int .i64 f)),(6,(.int .i64 g)),(7,(.int .i64 i))]
def J0(k1:(Option Addr)→Nat→Nat→Int→Int→Int→Heap→Prop)(b:Option Addr)(a c:Nat)(d f:Int)(h:Heap)(_K:KK):Prop:=
 k1 b a c d f (IntKind.wrap .i64 (d+(1:Int))) h
theorem E0(S:Stop)(b:Option Addr)(a c:Nat)(d f:Int)(h:Heap)(K:KK):(E Tryz.prog X T S body (fin Tryz.prog Tryz.f313.results.toList K) (args0 0 [(.slice b a c),(.int .i64 d),(.int .i64 f)]) h)=J0 (fun b a c d f g h=>S (en S [1] (fn K)) (f1 b a c d f g) h) b a c d f h K:=by kernel_rfl
def Jk1(lp1:(Option Addr)→Nat→Nat→Int→Int→Int→Heap→Prop)(b:Option Addr)(a c:Nat)(d f g:Int)(h:Heap)(_K:KK):Prop:=
 lp1 b a c d f g h
theorem Ek1(S:Stop)(b:Option Addr)(a c:Nat)(d f g:Int)(h:Heap)(K:KK):(en S [1] (fn K) (f1 b a c d f g) h)=Jk1 (fun b a c d f g h=> ∃n,S (ln S [1,0,0] (c0 S K) n) (f1 b a c d f g) h) b a c d f g h K:=by kernel_rfl
def JL1(k4:(Option Addr)→Nat→Nat→Int→Int→Int→Int→Heap→Prop)(b:Option Addr)(a c:Nat)(d f g:Int)(h:Heap)(K:KK):Prop:=
 bcase (decide (g<f)) (k4 b a c d f g g h) (K (.tuple #[]) h)
theorem EL1(S:Stop)(n1:Nat)(b:Option Addr)(a c:Nat)(d f g:Int)(h:Heap)(K:KK):(en S [1,0,0] (c1 S n1 K) (f1 b a c d f g) h)=JL1 (fun b a c d f g i h=>S (en S [1,0,0,1,0,0,1] (c3 S n1 K)) (f4 b a c d f g i) h) b a c d f g h K:=by kernel_rfl
def Jk4(lp4:(Option Addr)→Nat→Nat→Int→Int→Int→Int→Heap→Prop)(b:Option Addr)(a c:Nat)(d f g i:Int)(h:Heap)(_K:KK):Prop:=
 lp4 b a c d f g i h
theorem Ek4(S:Stop)(n1:Nat)(b:Option Addr)(a c:Nat)(d f g i:Int)(h:Heap)(K:KK):(en S [1,0,0,1,0,0,1] (c3 S n1 K) (f4 b a c d f g i) h)=Jk4 (fun b a c d f g i h=> ∃n,S (ln S [1,0,0,1,0,0,1,0,0] (c4 S n1 K) n) (f4 b a c d f g i) h) b a c d f g i h K:=by kernel_rfl
def JL4(bk4:(Option Addr)→Nat→Nat→Int→Int→Int→Int→Heap→Prop)(bk1:(Option Addr)→Nat→Nat→Int→Int→Int→Heap→Prop)(b:Option Addr)(a c:Nat)(d f g i:Int)(h:Heap)(_K:KK):Prop:=
 bcase (decide (i>d)) (ptrK b (fun a1=>(0≤i∧i<(Nat.cast a:Int)∧ldI .u32 (rd h (a1.add (Int.toNat i*1))) (fun n2=>ptrK b (fun a3=>(0≤(IntKind.wrap .i64 (i-(1:Int)))∧(IntKind.wrap .i64 (i-(1:Int)))<(Nat.cast a:Int)∧ldI .u32 (rd h (a3.add (Int.toNat (IntKind.wrap .i64 (i-(1:Int)))*1))) (fun n4=>Cl 319 [(.int .u32 n2),(.int .u32 n4)] h (fun v5 h6=>ldB (some v5) (fun b7=>bcase b7 (ptrK b (fun a8=>(0≤(IntKind.wrap .i64 (i-(1:Int)))∧(IntKind.wrap .i64 (i-(1:Int)))<(Nat.cast a:Int)∧ldI .u32 (rd h6 (a8.add (Int.toNat (IntKind.wrap .i64 (i-(1:Int)))*1))) (fun n9=>ptrK b (fun a10=>(0≤i∧i<(Nat.cast a:Int)∧ldI .u32 (rd h6 (a10.add (Int.toNat i*1))) (fun n11=>ptrK b (fun a12=>(0≤i∧i<(Nat.cast a:Int)∧stK h6 ((a12.add (Int.toNat i*1)).add 0) (.int .u32 n9) (fun h13=>((.slice b a c)=((.slice b a c):Value)∧((.int .i64 i)=((.int .i64 i):Value)∧((.int .i64 (IntKind.wrap .i64 (i-(1:Int))))=((.int .i64 (IntKind.wrap .i64 (i-(1:Int)))):Value)∧ptrK b (fun a14=>(0≤(IntKind.wrap .i64 (i-(1:Int)))∧(IntKind.wrap .i64 (i-(1:Int)))<(Nat.cast a:Int)∧stK h13 ((a14.add (Int.toNat (IntKind.wrap .i64 (i-(1:Int)))*1)).add 0) (.int .u32 n11) (fun h15=>bk4 b a c d f g (IntKind.wrap .i64 (i-(1:Int))) h15)))))))))))))))) (bk1 b a c d f (IntKind.wrap .i64 (g+(1:Int))) h6)))))))))) (bk1 b a c d f (IntKind.wrap .i64 (g+(1:Int))) h)
theorem EL4(S:Stop)(n1:Nat)(n4:Nat)(b:Option Addr)(a c:Nat)(d f g i:Int)(h:Heap)(K:KK):(en S [1,0,0,1,0,0,1,0,0] (c5 S n1 n4 K) (f4 b a c d f g i) h)=JL4 (fun b a c d f g i h=>S (ln S [1,0,0,1,0,0,1,0,0] (c4 S n1 K) n4) (f4 b a c d f g i) h) (fun b a c d f g h=>S (ln S [1,0,0] (c0 S K) n1) (f1 b a c d f g) h) b a c d f g i h K:=by kernel_rfl
def wL4(bk1:(Option Addr)→Nat→Nat→Int→Int→Int→Heap→Prop):Nat→(Option Addr)→Nat→Nat→Int→Int→Int→Int→Heap→KK→Prop
 |0,_,_,_,_,_,_,_,_,_=>False
 |n+1,b,a,c,d,f,g,i,h,K=>JL4 (fun b a c d f g i h=>wL4 bk1 n b a c d f g i h K) bk1 b a c d f g i h K
theorem eL4(K:KK)(n1:Nat)(bk1:(Option Addr)→Nat→Nat→Int→Int→Int→Heap→Prop)(hb1: ∀(b:Option Addr) (a c:Nat) (d f g:Int) (h:Heap),(ln S0 [1,0,0] (c0 S0 K) n1 (f1 b a c d f g) h)=bk1 b a c d f g h): ∀(n:Nat) (b:Option Addr) (a c:Nat) (d f g i:Int) (h:Heap),(ln S0 [1,0,0,1,0,0,1,0,0] (c4 S0 n1 K) n (f4 b a c d f g i) h)=wL4 bk1 n b a c d f g i h K
 |0,_,_,_,_,_,_,_,_=>rfl
 |n+1,b,a,c,d,f,g,i,h=>(EL4 S0 n1 n b a c d f g i h K).trans (cg2 (fun q0 q1=>JL4 q0 q1 b a c d f g i h K) (by funext b a c d f g i h;exact(fun b a c d f g i h=>eL4 K n1 bk1 hb1 n b a c d f g i h) b a c d f g i h) (by funext b a c d f g h;exact hb1 b a c d f g h))
def wk4(bk1:(Option Addr)→Nat→Nat→Int→Int→Int→Heap→Prop)(b:Option Addr)(a c:Nat)(d f g i:Int)(h:Heap)(K:KK):Prop:=
 Jk4 (fun b a c d f g i h=> ∃m,wL4 bk1 m b a c d f g i h K) b a c d f g i h K
theorem ek4(K:KK)(n1:Nat)(bk1:(Option Addr)→Nat→Nat→Int→Int→Int→Heap→Prop)(hb1: ∀(b:Option Addr) (a c:Nat) (d f g:Int) (h:Heap),(ln S0 [1,0,0] (c0 S0 K) n1 (f1 b a c d f g) h)=bk1 b a c d f g h)(b:Option Addr)(a c:Nat)(d f g i:Int)(h:Heap):(en S0 [1,0,0,1,0,0,1] (c3 S0 n1 K) (f4 b a c d f g i) h)=wk4 bk1 b a c d f g i h K:=(Ek4 S0 n1 b a c d f g i h K).trans (cg1 (fun q0=>Jk4 q0 b a c d f g i h K) (by funext b a c d f g i h;exact ex_congr fun m=>eL4 K n1 bk1 hb1 m b a c d f g i h))
def wL1:Nat→(Option Addr)→Nat→Nat→Int→Int→Int→Heap→KK→Prop
 |0,_,_,_,_,_,_,_,_=>False
 |n+1,b,a,c,d,f,g,h,K=>JL1 (fun b a c d f g i h=>wk4 (fun b a c d f g h=>wL1 n b a c d f g h K) b a c d f g i h K) b a c d f g h K
theorem eL1(K:KK): ∀(n:Nat) (b:Option Addr) (a c:Nat) (d f g:Int) (h:Heap),(ln S0 [1,0,0] (c0 S0 K) n (f1 b a c d f g) h)=wL1 n b a c d f g h K
 |0,_,_,_,_,_,_,_=>rfl
 |n+1,b,a,c,d,f,g,h=>(EL1 S0 n b a c d f g h K).trans (cg1 (fun q0=>JL1 q0 b a c d f g h K) (by funext b a c d f g i h;exact ek4 K n (fun b a c d f g h=>wL1 n b a c d f g h K) (fun b a c d f g h=>eL1 K n b a c d f g h) b a c d f g i h))
def wk1(b:Option Addr)(a c:Nat)(d f g:Int)(h:Heap)(K:KK):Prop:=
 Jk1 (fun b a c d f g h=> ∃m,wL1 m b a c d f g h K) b a c d f g h K
theorem ek1(K:KK)(b:Option Addr)(a c:Nat)(d f g:Int)(h:Heap):(en S0 [1] (fn K) (f1 b a c d f g) h)=wk1 b a c d f g h K:=(Ek1 S0 b a c d f g h K).trans (cg1 (fun q0=>Jk1 q0 b a c d f g h K) (by funext b a c d f g h;exact ex_congr fun m=>eL1 K m b a c d f g h))
def w(b:Option Addr)(a c:Nat)(d f:Int)(h:Heap)(K:KK):Prop:=
 J0 (fun b a c d f g h=>wk1 b a c d f g h K) b a c d f h K
theorem e0(K:KK)(b:Option Addr)(a c:Nat)(d f:Int)(h:Heap):(E Tryz.prog X T S0 body (fin Tryz.prog Tryz.f313.results.toList K) (args0 0 [(.slice b a c),(.int .i64 d),(.int .i64 f)]) h)=w b a c d f h K:=(E0 S0 b a c d f h K).trans (cg1 (fun q0=>J0 q0 b a c d f h K) (by funext b a c d f g h;exact ek1 K b a c d f g h))
theorem hb:Tryz.f313.body=some body:=by kernel_rfl
theorem ok:okCode T Tryz.f313.ntmps body=true:=by kernel_rfl
theorem spec(b:Option Addr)(a c:Nat)(d f:Int)(h:Heap)(K:KK)(H:w b a c d f h K):Cl 313 [(.slice b a c),(.int .i64 d),(.int .i64 f)] h K:=
 calls_of_E (T:=T) Xok mix Tryz.func313 hb ok rfl (by rw[e0];exact H)
end F313
theorem F319.spec(a b:Int)(h:Heap)(K:KK)(H:Cl 348 [.int .u32 a] h fun v1 h2=>ldB (some v1) fun b3=>bcase b3 (Cl 348 [.int .u32 b] h2 fun v4 h5=>ldB (some v4) fun b6=>bcase (!b6) (K (.bool true) h5) (K (.bool (decide (a<b))) h5)) (K (.bool (decide (a<b))) h2)):Cl 319 [.int .u32 a,.int .u32 b] h K:=cN Tryz.func319 H
theorem F348.spec(a:Int)(h:Heap)(K:KK)(H:K (.bool (a !=a)) h):Cl 348 [.int .u32 a] h K:=cN Tryz.func348 H
theorem F265.spec(c:Option Addr)(a b:Nat)(h:Heap)(K:KK)(H:Cl 295 [.int .u64 (IntKind.wrap .u64 (Nat.cast a:Int))] h fun v1 h2=>ldI .i64 (some v1) fun n3=>Cl 298 [.slice c a b,.int .i64 0,.int .i64 (Nat.cast a:Int),.int .i64 n3] h2 fun v4 h5=>v4=(.tuple #[])∧K (.tuple #[]) h5):Cl 265 [.slice c a b] h K:=cN Tryz.func265 H
def F298.T:Hint:=⟨[(2,[0,1,2,3,8,9]),(10,[0,1,2,3,8,9,10]),(15,[0,1,2,3,8,9,10,11,12]),(17,[0,1,2,3,8,9,10,11])],[(17,[[(0,[]),(1,[]),(2,[]),(3,[]),(4,[]),(5,[]),(6,[]),(7,[]),(8,[]),(9,[]),(10,[]),(11,[]),(12,[]),(13,[]),(14,[])]])]⟩
section
variable (bk2:(Option Addr)→Nat→Nat→Int→Int→Int→Bool→Bool→Heap→Prop)(n:Nat)(b:Option Addr)(a c:Nat)(d f g:Int)(l o:Bool)(i j q:Int)(h:Heap)(K:KK)
def F298.wk17(bk2:(Option Addr)→Nat→Nat→Int→Int→Int→Bool→Bool→Heap→Prop)(b:Option Addr)(a c:Nat)(d f g:Int)(l o:Bool)(i j:Int)(h:Heap)(K:KK):Prop:=bcase (decide (d>(0:Int))) (ptrK b fun a1=>0≤(IntKind.wrap .i64 (d-(1:Int)))∧(IntKind.wrap .i64 (d-(1:Int)))<(Nat.cast a:Int)∧ldI .i64 (rd h (a1.add (Int.toNat (IntKind.wrap .i64 (d-(1:Int)))*1))) fun n2=>ptrK b fun a3=>0≤j∧j<(Nat.cast a:Int)∧ldI .i64 (rd h (a3.add (Int.toNat j*1))) fun n4=>Cl 330 [.int .i64 n2,.int .i64 n4] h fun v5 h6=>ldB (some v5) fun b7=>bcase (!b7) (Cl 331 [.slice b a c,.int .i64 d,.int .i64 f,.int .i64 j] h6 fun v8 h9=>ldI .i64 (some v8) fun n10=>bk2 b a c n10 f g l o h9) (Cl 332 [.slice b a c,.int .i64 d,.int .i64 f,.int .i64 j] h6 fun v11 h12=> ∃n13:Int,∃b14:Bool,v11=(.tuple #[.int .i64 n13,.bool b14])∧((8:Int)≠0∧bcase (decide ((IntKind.wrap .i64 (n13-d))<(IntKind.wrap .i64 (f-n13)))) (Cl 298 [.slice b a c,.int .i64 d,.int .i64 n13,.int .i64 g] h12 fun v15 h16=>v15=(.tuple #[])∧bk2 b a c (IntKind.wrap .i64 (n13+(1:Int))) f g (decide ((IntKind.wrap .i64 (n13-d))≥(IntKind.wrap .i64 (Int.tdiv i (8:Int))))) b14 h16) (Cl 298 [.slice b a c,.int .i64 (IntKind.wrap .i64 (n13+(1:Int))),.int .i64 f,.int .i64 g] h12 fun v17 h18=>v17=(.tuple #[])∧bk2 b a c d n13 g (decide ((IntKind.wrap .i64 (f-n13))≥(IntKind.wrap .i64 (Int.tdiv i (8:Int))))) b14 h18)))) (Cl 332 [.slice b a c,.int .i64 d,.int .i64 f,.int .i64 j] h fun v19 h20=> ∃n21:Int,∃b22:Bool,v19=(.tuple #[.int .i64 n21,.bool b22])∧((8:Int)≠0∧bcase (decide ((IntKind.wrap .i64 (n21-d))<(IntKind.wrap .i64 (f-n21)))) (Cl 298 [.slice b a c,.int .i64 d,.int .i64 n21,.int .i64 g] h20 fun v23 h24=>v23=(.tuple #[])∧bk2 b a c (IntKind.wrap .i64 (n21+(1:Int))) f g (decide ((IntKind.wrap .i64 (n21-d))≥(IntKind.wrap .i64 (Int.tdiv i (8:Int))))) b22 h24) (Cl 298 [.slice b a c,.int .i64 (IntKind.wrap .i64 (n21+(1:Int))),.int .i64 f,.int .i64 g] h20 fun v25 h26=>v25=(.tuple #[])∧bk2 b a c d n21 g (decide ((IntKind.wrap .i64 (f-n21))≥(IntKind.wrap .i64 (Int.tdiv i (8:Int))))) b22 h26)))
def F298.wk15:Prop:=bcase l (bcase o (bcase (q==(1:Int)) (Cl 329 [.slice b a c,.int .i64 d,.int .i64 f] h fun v1 h2=>ldB (some v1) fun b3=>bcase b3 (K (.tuple #[]) h2) (F298.wk17 bk2 b a c d f g l o i j h2 K)) (F298.wk17 bk2 b a c d f g l o i j h K)) (F298.wk17 bk2 b a c d f g l o i j h K)) (F298.wk17 bk2 b a c d f g l o i j h K)
def F298.wk10:Prop:=Cl 327 [.slice b a c,.int .i64 d,.int .i64 f] h fun v1 h2=> ∃n3:Int,∃n4:Int,v1=(.tuple #[.int .i64 n3,.int .i64 n4])∧bcase (n4==(2:Int)) (Cl 328 [.slice b a c,.int .i64 d,.int .i64 f] h2 fun v5 h6=>v5=(.tuple #[])∧F298.wk15 bk2 b a c d f g l o i (IntKind.wrap .i64 ((IntKind.wrap .i64 (f-(1:Int)))-(IntKind.wrap .i64 (n3-d)))) (1:Int) h6 K) (F298.wk15 bk2 b a c d f g l o i n3 n4 h2 K)
def F298.wL2:Prop:=Lp Tryz.f298 F298.T [1,1,0] n [(0,(.slice b a c)),(1,(.int .i64 d)),(2,(.int .i64 f)),(3,(.int .i64 g)),(8,(.bool l)),(9,(.bool o))] h K
theorem F298.sL2:F298.wL2 (n+1) b a c d f g l o h K=(bcase (decide ((IntKind.wrap .i64 (f-d))≤(12:Int))) (Cl 324 [.slice b a c,.int .i64 d,.int .i64 f] h fun v1 h2=>v1=(.tuple #[])∧K (.tuple #[]) h2) (bcase (g==(0:Int)) (Cl 325 [.slice b a c,.int .i64 d,.int .i64 f] h fun v3 h4=>v3=(.tuple #[])∧K (.tuple #[]) h4) (bcase (!l) (Cl 326 [.slice b a c,.int .i64 d,.int .i64 f] h fun v5 h6=>v5=(.tuple #[])∧F298.wk10 (fun b a c d f g l o h=>F298.wL2 n b a c d f g l o h K) b a c d f (IntKind.wrap .i64 (g-(1:Int))) l o (IntKind.wrap .i64 (f-d)) h6 K) (F298.wk10 (fun b a c d f g l o h=>F298.wL2 n b a c d f g l o h K) b a c d f g l o (IntKind.wrap .i64 (f-d)) h K)))):=by kernel_rfl
def F298.wk2:Prop:=(∃m,F298.wL2 m b a c d f g l o h K)
theorem F298.spec(H:F298.wk2 b a c d f g true true h K):Cl 298 [.slice b a c,.int .i64 d,.int .i64 f,.int .i64 g] h K:=cT F298.T Tryz.func298 H
end
namespace F324
def T:Hint:=⟨[(1,[0,1,2,6]),(4,[0,1,2,6,7])],[(4,[[(0,[]),(1,[]),(2,[]),(3,[]),(4,[]),(5,[]),(6,[]),(7,[]),(8,[]),(9,[]),(10,[]),(11,[]),(12,[]),(13,[]),(14,[])]]),(6,[[(0,[]),(1,[]),(2,[]),(3,[]),(4,[]),(5,[]),(6,[]),(7,[]),(8,[]),(9,[]),(10,[]),(11,[]),(12,[]),(13,[]),(14,[]),(15,[2,3,4]),(16,[]),(17,[])]])]⟩
noncomputable def body:Code:=(Tryz.f324.body).getD .skip
noncomputable def en(S:Stop)(p:List Nat)(κ:XK):Fr→Heap→Prop:=E Tryz.prog X T S (sub body p) κ
noncomputable def ln(S:Stop)(p:List Nat)(κ:XK)(n:Nat):Fr→Heap→Prop:=loopN S (E Tryz.prog X T S (sub body p)) (cutQ T (sub body p)) κ n
def fn(K:KK):XK:=fin Tryz.prog Tryz.f324.results.toList K
noncomputable def c0(_S:Stop)(K:KK):XK:=blockN 0 (fn K)
noncomputable def c1(S:Stop)(n1:Nat)(K:KK):XK:=backN S (cutQ T (sub body [1,0,0])) (ln S [1,0,0] (c0 S K) n1) (c0 S K)
noncomputable def c2(S:Stop)(n1:Nat)(K:KK):XK:=seqN S (cutQ T (sub body [1,0,0,1,1])) (en S [1,0,0,1,1] (c1 S n1 K)) (c1 S n1 K)
noncomputable def c3(S:Stop)(n1:Nat)(K:KK):XK:=blockN 1 (c2 S n1 K)
noncomputable def c4(S:Stop)(n1:Nat)(K:KK):XK:=blockN 2 (c3 S n1 K)
noncomputable def c5(S:Stop)(n1:Nat)(n4:Nat)(K:KK):XK:=backN S (cutQ T (sub body [1,0,0,1,0,0,1,0,0])) (ln S [1,0,0,1,0,0,1,0,0] (c4 S n1 K) n4) (c4 S n1 K)
def f1(b:Option Addr)(a c:Nat)(d f g:Int):Fr:=[(0,(.slice b a c)),(1,(.int .i64 d)),(2,(.int .i64 f)),(6,(.int .i64 g))]
def f4(b:Option Addr)(a c:Nat)(d f g i:Int):Fr:=[(0,(.slice b a c)),(1,(.int .i64 d)),(2,(.int .i64 f)),(6,(.int .i64 g)),(7,(.int .i64 i))]
def J0(k1:(Option Addr)→Nat→Nat→Int→Int→Int→Heap→Prop)(b:Option Addr)(a c:Nat)(d f:Int)(h:Heap)(_K:KK):Prop:=
 k1 b a c d f (IntKind.wrap .i64 (d+(1:Int))) h
theorem E0(S:Stop)(b:Option Addr)(a c:Nat)(d f:Int)(h:Heap)(K:KK):(E Tryz.prog X T S body (fin Tryz.prog Tryz.f324.results.toList K) (args0 0 [(.slice b a c),(.int .i64 d),(.int .i64 f)]) h)=J0 (fun b a c d f g h=>S (en S [1] (fn K)) (f1 b a c d f g) h) b a c d f h K:=by kernel_rfl
def Jk1(lp1:(Option Addr)→Nat→Nat→Int→Int→Int→Heap→Prop)(b:Option Addr)(a c:Nat)(d f g:Int)(h:Heap)(_K:KK):Prop:=
 lp1 b a c d f g h
theorem Ek1(S:Stop)(b:Option Addr)(a c:Nat)(d f g:Int)(h:Heap)(K:KK):(en S [1] (fn K) (f1 b a c d f g) h)=Jk1 (fun b a c d f g h=> ∃n,S (ln S [1,0,0] (c0 S K) n) (f1 b a c d f g) h) b a c d f g h K:=by kernel_rfl
def JL1(k4:(Option Addr)→Nat→Nat→Int→Int→Int→Int→Heap→Prop)(b:Option Addr)(a c:Nat)(d f g:Int)(h:Heap)(K:KK):Prop:=
 bcase (decide (g<f)) (k4 b a c d f g g h) (K (.tuple #[]) h)
theorem EL1(S:Stop)(n1:Nat)(b:Option Addr)(a c:Nat)(d f g:Int)(h:Heap)(K:KK):(en S [1,0,0] (c1 S n1 K) (f1 b a c d f g) h)=JL1 (fun b a c d f g i h=>S (en S [1,0,0,1,0,0,1] (c3 S n1 K)) (f4 b a c d f g i) h) b a c d f g h K:=by kernel_rfl
def Jk4(lp4:(Option Addr)→Nat→Nat→Int→Int→Int→Int→Heap→Prop)(b:Option Addr)(a c:Nat)(d f g i:Int)(h:Heap)(_K:KK):Prop:=
 lp4 b a c d f g i h
theorem Ek4(S:Stop)(n1:Nat)(b:Option Addr)(a c:Nat)(d f g i:Int)(h:Heap)(K:KK):(en S [1,0,0,1,0,0,1] (c3 S n1 K) (f4 b a c d f g i) h)=Jk4 (fun b a c d f g i h=> ∃n,S (ln S [1,0,0,1,0,0,1,0,0] (c4 S n1 K) n) (f4 b a c d f g i) h) b a c d f g i h K:=by kernel_rfl
def JL4(bk4:(Option Addr)→Nat→Nat→Int→Int→Int→Int→Heap→Prop)(bk1:(Option Addr)→Nat→Nat→Int→Int→Int→Heap→Prop)(b:Option Addr)(a c:Nat)(d f g i:Int)(h:Heap)(_K:KK):Prop:=
 bcase (decide (i>d)) (ptrK b (fun a1=>(0≤i∧i<(Nat.cast a:Int)∧ldI .i64 (rd h (a1.add (Int.toNat i*1))) (fun n2=>ptrK b (fun a3=>(0≤(IntKind.wrap .i64 (i-(1:Int)))∧(IntKind.wrap .i64 (i-(1:Int)))<(Nat.cast a:Int)∧ldI .i64 (rd h (a3.add (Int.toNat (IntKind.wrap .i64 (i-(1:Int)))*1))) (fun n4=>Cl 330 [(.int .i64 n2),(.int .i64 n4)] h (fun v5 h6=>ldB (some v5) (fun b7=>bcase b7 (ptrK b (fun a8=>(0≤(IntKind.wrap .i64 (i-(1:Int)))∧(IntKind.wrap .i64 (i-(1:Int)))<(Nat.cast a:Int)∧ldI .i64 (rd h6 (a8.add (Int.toNat (IntKind.wrap .i64 (i-(1:Int)))*1))) (fun n9=>ptrK b (fun a10=>(0≤i∧i<(Nat.cast a:Int)∧ldI .i64 (rd h6 (a10.add (Int.toNat i*1))) (fun n11=>ptrK b (fun a12=>(0≤i∧i<(Nat.cast a:Int)∧stK h6 ((a12.add (Int.toNat i*1)).add 0) (.int .i64 n9) (fun h13=>((.slice b a c)=((.slice b a c):Value)∧((.int .i64 i)=((.int .i64 i):Value)∧((.int .i64 (IntKind.wrap .i64 (i-(1:Int))))=((.int .i64 (IntKind.wrap .i64 (i-(1:Int)))):Value)∧ptrK b (fun a14=>(0≤(IntKind.wrap .i64 (i-(1:Int)))∧(IntKind.wrap .i64 (i-(1:Int)))<(Nat.cast a:Int)∧stK h13 ((a14.add (Int.toNat (IntKind.wrap .i64 (i-(1:Int)))*1)).add 0) (.int .i64 n11) (fun h15=>bk4 b a c d f g (IntKind.wrap .i64 (i-(1:Int))) h15)))))))))))))))) (bk1 b a c d f (IntKind.wrap .i64 (g+(1:Int))) h6)))))))))) (bk1 b a c d f (IntKind.wrap .i64 (g+(1:Int))) h)
theorem EL4(S:Stop)(n1:Nat)(n4:Nat)(b:Option Addr)(a c:Nat)(d f g i:Int)(h:Heap)(K:KK):(en S [1,0,0,1,0,0,1,0,0] (c5 S n1 n4 K) (f4 b a c d f g i) h)=JL4 (fun b a c d f g i h=>S (ln S [1,0,0,1,0,0,1,0,0] (c4 S n1 K) n4) (f4 b a c d f g i) h) (fun b a c d f g h=>S (ln S [1,0,0] (c0 S K) n1) (f1 b a c d f g) h) b a c d f g i h K:=by kernel_rfl
def wL4(bk1:(Option Addr)→Nat→Nat→Int→Int→Int→Heap→Prop):Nat→(Option Addr)→Nat→Nat→Int→Int→Int→Int→Heap→KK→Prop
 |0,_,_,_,_,_,_,_,_,_=>False
 |n+1,b,a,c,d,f,g,i,h,K=>JL4 (fun b a c d f g i h=>wL4 bk1 n b a c d f g i h K) bk1 b a c d f g i h K
theorem eL4(K:KK)(n1:Nat)(bk1:(Option Addr)→Nat→Nat→Int→Int→Int→Heap→Prop)(hb1: ∀(b:Option Addr) (a c:Nat) (d f g:Int) (h:Heap),(ln S0 [1,0,0] (c0 S0 K) n1 (f1 b a c d f g) h)=bk1 b a c d f g h): ∀(n:Nat) (b:Option Addr) (a c:Nat) (d f g i:Int) (h:Heap),(ln S0 [1,0,0,1,0,0,1,0,0] (c4 S0 n1 K) n (f4 b a c d f g i) h)=wL4 bk1 n b a c d f g i h K
 |0,_,_,_,_,_,_,_,_=>rfl
 |n+1,b,a,c,d,f,g,i,h=>(EL4 S0 n1 n b a c d f g i h K).trans (cg2 (fun q0 q1=>JL4 q0 q1 b a c d f g i h K) (by funext b a c d f g i h;exact(fun b a c d f g i h=>eL4 K n1 bk1 hb1 n b a c d f g i h) b a c d f g i h) (by funext b a c d f g h;exact hb1 b a c d f g h))
def wk4(bk1:(Option Addr)→Nat→Nat→Int→Int→Int→Heap→Prop)(b:Option Addr)(a c:Nat)(d f g i:Int)(h:Heap)(K:KK):Prop:=
 Jk4 (fun b a c d f g i h=> ∃m,wL4 bk1 m b a c d f g i h K) b a c d f g i h K
theorem ek4(K:KK)(n1:Nat)(bk1:(Option Addr)→Nat→Nat→Int→Int→Int→Heap→Prop)(hb1: ∀(b:Option Addr) (a c:Nat) (d f g:Int) (h:Heap),(ln S0 [1,0,0] (c0 S0 K) n1 (f1 b a c d f g) h)=bk1 b a c d f g h)(b:Option Addr)(a c:Nat)(d f g i:Int)(h:Heap):(en S0 [1,0,0,1,0,0,1] (c3 S0 n1 K) (f4 b a c d f g i) h)=wk4 bk1 b a c d f g i h K:=(Ek4 S0 n1 b a c d f g i h K).trans (cg1 (fun q0=>Jk4 q0 b a c d f g i h K) (by funext b a c d f g i h;exact ex_congr fun m=>eL4 K n1 bk1 hb1 m b a c d f g i h))
def wL1:Nat→(Option Addr)→Nat→Nat→Int→Int→Int→Heap→KK→Prop
 |0,_,_,_,_,_,_,_,_=>False
 |n+1,b,a,c,d,f,g,h,K=>JL1 (fun b a c d f g i h=>wk4 (fun b a c d f g h=>wL1 n b a c d f g h K) b a c d f g i h K) b a c d f g h K
theorem eL1(K:KK): ∀(n:Nat) (b:Option Addr) (a c:Nat) (d f g:Int) (h:Heap),(ln S0 [1,0,0] (c0 S0 K) n (f1 b a c d f g) h)=wL1 n b a c d f g h K
 |0,_,_,_,_,_,_,_=>rfl
 |n+1,b,a,c,d,f,g,h=>(EL1 S0 n b a c d f g h K).trans (cg1 (fun q0=>JL1 q0 b a c d f g h K) (by funext b a c d f g i h;exact ek4 K n (fun b a c d f g h=>wL1 n b a c d f g h K) (fun b a c d f g h=>eL1 K n b a c d f g h) b a c d f g i h))
def wk1(b:Option Addr)(a c:Nat)(d f g:Int)(h:Heap)(K:KK):Prop:=
 Jk1 (fun b a c d f g h=> ∃m,wL1 m b a c d f g h K) b a c d f g h K
theorem ek1(K:KK)(b:Option Addr)(a c:Nat)(d f g:Int)(h:Heap):(en S0 [1] (fn K) (f1 b a c d f g) h)=wk1 b a c d f g h K:=(Ek1 S0 b a c d f g h K).trans (cg1 (fun q0=>Jk1 q0 b a c d f g h K) (by funext b a c d f g h;exact ex_congr fun m=>eL1 K m b a c d f g h))
def w(b:Option Addr)(a c:Nat)(d f:Int)(h:Heap)(K:KK):Prop:=
 J0 (fun b a c d f g h=>wk1 b a c d f g h K) b a c d f h K
theorem e0(K:KK)(b:Option Addr)(a c:Nat)(d f:Int)(h:Heap):(E Tryz.prog X T S0 body (fin Tryz.prog Tryz.f324.results.toList K) (args0 0 [(.slice b a c),(.int .i64 d),(.int .i64 f)]) h)=w b a c d f h K:=(E0 S0 b a c d f h K).trans (cg1 (fun q0=>J0 q0 b a c d f h K) (by funext b a c d f g h;exact ek1 K b a c d f g h))
theorem hb:Tryz.f324.body=some body:=by kernel_rfl
theorem ok:okCode T Tryz.f324.ntmps body=true:=by kernel_rfl
theorem spec(b:Option Addr)(a c:Nat)(d f:Int)(h:Heap)(K:KK)(H:w b a c d f h K):Cl 324 [(.slice b a c),(.int .i64 d),(.int .i64 f)] h K:=
 calls_of_E (T:=T) Xok mix Tryz.func324 hb ok rfl (by rw[e0];exact H)
end F324
theorem F330.spec(a b:Int)(h:Heap)(K:KK)(H:Cl 352 [.int .i64 a] h fun v1 h2=>ldB (some v1) fun b3=>bcase b3 (Cl 352 [.int .i64 b] h2 fun v4 h5=>ldB (some v4) fun b6=>bcase (!b6) (K (.bool true) h5) (K (.bool (decide (a<b))) h5)) (K (.bool (decide (a<b))) h2)):Cl 330 [.int .i64 a,.int .i64 b] h K:=cN Tryz.func330 H
theorem F352.spec(a:Int)(h:Heap)(K:KK)(H:K (.bool (a !=a)) h):Cl 352 [.int .i64 a] h K:=cN Tryz.func352 H
end
section
theorem nan98{x:Int}{h:Heap}{K:Value→Heap→Prop}(hK:K (.bool false) h):Cl 348 [.int .u32 x] h K:=by
 refine F348.spec x h K ?_
 rw[show(x !=x)=false by simp]
 exact hK
theorem less82{x y:Int}{h:Heap}{K:Value→Heap→Prop}(hK:K (.bool (decide (x<y))) h):Cl 319 [.int .u32 x,.int .u32 y] h K:=by
 refine F319.spec x y h K ?_
 exact nan98 (by rw[ldB_some];exact hK)
theorem inner76{b n a e c i:Nat}{sp:List Value}{K:Value→Heap→Prop}{bk:(Option Addr)→Nat→Nat→Int→Int→Int→Heap→Prop}(he:e≤n)(hie:i<e)(hn:n≤LB-2):
  ∀(j:Nat) (g:Nat→Int) (h:Heap),Arr .u32 h b n g sp→Ins a i j g→a≤j→j≤i→(∀h' g',Arr .u32 h' b n g' sp→Srt a (i+1) g'→Swp a e g g'→Only [b] h h'→bk (some ⟨b,0,none⟩) n c a e ((i+1:Nat):Int) h')→
   F313.wL4 bk (j+1) (some ⟨b,0,none⟩) n c a e i j h K:=by
 intro j
 have hLB:LB=140737488355328:=rfl
 have w1:IntKind.wrap .i64 ((i:Int)+1)=((i+1:Nat):Int):=by rw[wrapN (by omega) (by omega)];omega
 induction j with
 |zero=>
  intro g h A I ha hj hK
  unfold F313.wL4 F313.JL4
  rw[w1,show decide (((0:Nat):Int)>(a:Int))=false by simp]
  exact hK h g A (I.stop (.inl (by omega))) (.refl g) (Only.refl _ _)
 |succ j ih=>
  intro g h A I ha hj hK
  unfold F313.wL4 F313.JL4
  have w2:IntKind.wrap .i64 (((j+1:Nat):Int)-1)=(j:Int):=by rw[wrapN (by omega) (by omega)];omega
  rw[w1,w2]
  refine bcase_of (fun hc=> ?_) fun hc=> ?_
  ·simp only[decide_eq_true_eq]at hc
   refine A.ld rfl (by omega) (A.ld rfl (by omega) (less82 ?_))
   rw[ldB_some]
   refine bcase_of (fun hl=> ?_) fun hl=> ?_
   ·simp only[decide_eq_true_eq]at hl
    refine A.ld rfl (by omega) (A.ld rfl (by omega) (A.sto rfl (by omega) fun h1 A1 O1=>⟨rfl,rfl,rfl,A1.sto rfl (by omega) fun h2 A2 O2=> ?_⟩))
    have O:Only [b] h h2:=O1.trans O2 (by simp)
    have S:Swp a e g (swp g (j+1) j):=Swp.one g (by omega) (by omega) (by omega) (by omega)
    have A2':Arr .u32 h2 b n (swp g (j+1) j) sp:=A2
    have I2:=I.step (by omega) hj hl
    rw[show j+1-1=j by omega]at I2
    exact ih _ h2 A2' I2 (by omega) (by omega) fun h' g' A' R' S' O'=>hK h' g' A' R' (S.trans S') (O.trans O' (by simp))
   ·simp only[decide_eq_false_iff_not]at hl
    exact hK h g A (I.stop (.inr (by rw[show j+1-1=j by omega];omega))) (.refl g) (Only.refl _ _)
  ·simp only[decide_eq_false_iff_not]at hc
   exact hK h g A (I.stop (.inl (by omega))) (.refl g) (Only.refl _ _)
theorem outer76{b n a e c:Nat}{sp:List Value}{K:Value→Heap→Prop}(he:e≤n)(hn:n≤LB-2):
  ∀(d i:Nat) (g:Nat→Int) (h:Heap),e≤i+d→Arr .u32 h b n g sp→a<i→i≤e∨e≤a→Srt a i g→(∀h' g',Arr .u32 h' b n g' sp→Srt a e g'→Swp a e g g'→Only [b] h h'→K (.tuple #[]) h')→
   F313.wL1 (d+1) (some ⟨b,0,none⟩) n c a e i h K:=by
 intro d
 induction d with
 |zero=>
  intro i g h hd A ha hi R hK
  unfold F313.wL1 F313.JL1
  rw[show decide ((i:Int)<(e:Int))=false by simp;omega]
  exact hK h g A (fun p q h1 h2 h3=>R p q h1 h2 (by omega)) (.refl g) (Only.refl _ _)
 |succ d ih=>
  intro i g h hd A ha hi R hK
  unfold F313.wL1 F313.JL1
  refine bcase_of (fun hc=> ?_) fun hc=> ?_
  ·simp only[decide_eq_true_eq]at hc
   refine⟨i+1,inner76 he (by omega) hn i g h A (Ins.start R) (by omega) (Nat.le_refl _) fun h1 g1 A1 R1 S1 O1=> ?_⟩
   exact ih (i+1) g1 h1 (by omega) A1 (by omega) (by omega) R1 fun h' g' A' R' S' O'=>hK h' g' A' R' (S1.trans S') (O1.trans O' (by simp))
  ·simp only[decide_eq_false_iff_not]at hc
   exact hK h g A (fun p q h1 h2 h3=>R p q h1 h2 (by omega)) (.refl g) (Only.refl _ _)
theorem ins76{h:Heap}{b n a e c:Nat}{g:Nat→Int}{sp:List Value}{K:Value→Heap→Prop}(A:Arr .u32 h b n g sp)(he:e≤n)(ha:a≤n)(hn:n≤LB-2)
  (hK: ∀h' g',Arr .u32 h' b n g' sp→Srt a e g'→Swp a e g g'→Only [b] h h'→K (.tuple #[]) h'):Cl 313 [.slice (some ⟨b,0,none⟩) n c,.int .i64 a,.int .i64 e] h K:=by
 refine F313.spec _ _ _ _ _ h K ?_
 unfold F313.w F313.J0 F313.wk1 F313.Jk1
 have hLB:LB=140737488355328:=rfl
 rw[show IntKind.wrap .i64 ((a:Int)+1)=((a+1:Nat):Int) by rw[wrapN (by omega) (by omega)];omega]
 exact⟨e+1,outer76 he hn e (a+1) g h (by omega) A (by omega) (by omega) (Srt.single g (by omega)) hK⟩
end
namespace IN
theorem nan98{x:Int}{h:Heap}{K:Value→Heap→Prop}(hK:K (.bool false) h):Cl 352 [.int .i64 x] h K:=by
 refine F352.spec x h K ?_
 rw[show(x !=x)=false by simp]
 exact hK
theorem less82{x y:Int}{h:Heap}{K:Value→Heap→Prop}(hK:K (.bool (decide (x<y))) h):Cl 330 [.int .i64 x,.int .i64 y] h K:=by
 refine F330.spec x y h K ?_
 exact nan98 (by rw[ldB_some];exact hK)
theorem inner76{b n a e c i:Nat}{sp:List Value}{K:Value→Heap→Prop}{bk:(Option Addr)→Nat→Nat→Int→Int→Int→Heap→Prop}(he:e≤n)(hie:i<e)(hn:n≤LB-2):
  ∀(j:Nat) (g:Nat→Int) (h:Heap),Arr .i64 h b n g sp→Ins a i j g→a≤j→j≤i→(∀h' g',Arr .i64 h' b n g' sp→Srt a (i+1) g'→Swp a e g g'→Only [b] h h'→bk (some ⟨b,0,none⟩) n c a e ((i+1:Nat):Int) h')→
   F324.wL4 bk (j+1) (some ⟨b,0,none⟩) n c a e i j h K:=by
 intro j
 have hLB:LB=140737488355328:=rfl
 have w1:IntKind.wrap .i64 ((i:Int)+1)=((i+1:Nat):Int):=by rw[wrapN (by omega) (by omega)];omega
 induction j with
 |zero=>
  intro g h A I ha hj hK
  unfold F324.wL4 F324.JL4
  rw[w1,show decide (((0:Nat):Int)>(a:Int))=false by simp]
  exact hK h g A (I.stop (.inl (by omega))) (.refl g) (Only.refl _ _)
 |succ j ih=>
  intro g h A I ha hj hK
  unfold F324.wL4 F324.JL4
  have w2:IntKind.wrap .i64 (((j+1:Nat):Int)-1)=(j:Int):=by rw[wrapN (by omega) (by omega)];omega
  rw[w1,w2]
  refine bcase_of (fun hc=> ?_) fun hc=> ?_
  ·simp only[decide_eq_true_eq]at hc
   refine A.ld rfl (by omega) (A.ld rfl (by omega) (less82 ?_))
   rw[ldB_some]
   refine bcase_of (fun hl=> ?_) fun hl=> ?_
   ·simp only[decide_eq_true_eq]at hl
    refine A.ld rfl (by omega) (A.ld rfl (by omega) (A.sto rfl (by omega) fun h1 A1 O1=>⟨rfl,rfl,rfl,A1.sto rfl (by omega) fun h2 A2 O2=> ?_⟩))
    have O:Only [b] h h2:=O1.trans O2 (by simp)
    have S:Swp a e g (swp g (j+1) j):=Swp.one g (by omega) (by omega) (by omega) (by omega)
    have A2':Arr .i64 h2 b n (swp g (j+1) j) sp:=A2
    have I2:=I.step (by omega) hj hl
    rw[show j+1-1=j by omega]at I2
    exact ih _ h2 A2' I2 (by omega) (by omega) fun h' g' A' R' S' O'=>hK h' g' A' R' (S.trans S') (O.trans O' (by simp))
   ·simp only[decide_eq_false_iff_not]at hl
    exact hK h g A (I.stop (.inr (by rw[show j+1-1=j by omega];omega))) (.refl g) (Only.refl _ _)
  ·simp only[decide_eq_false_iff_not]at hc
   exact hK h g A (I.stop (.inl (by omega))) (.refl g) (Only.refl _ _)
theorem outer76{b n a e c:Nat}{sp:List Value}{K:Value→Heap→Prop}(he:e≤n)(hn:n≤LB-2):
  ∀(d i:Nat) (g:Nat→Int) (h:Heap),e≤i+d→Arr .i64 h b n g sp→a<i→i≤e∨e≤a→Srt a i g→(∀h' g',Arr .i64 h' b n g' sp→Srt a e g'→Swp a e g g'→Only [b] h h'→K (.tuple #[]) h')→
   F324.wL1 (d+1) (some ⟨b,0,none⟩) n c a e i h K:=by
 intro d
 induction d with
 |zero=>
  intro i g h hd A ha hi R hK
  unfold F324.wL1 F324.JL1
  rw[show decide ((i:Int)<(e:Int))=false by simp;omega]
  exact hK h g A (fun p q h1 h2 h3=>R p q h1 h2 (by omega)) (.refl g) (Only.refl _ _)
 |succ d ih=>
  intro i g h hd A ha hi R hK
  unfold F324.wL1 F324.JL1
  refine bcase_of (fun hc=> ?_) fun hc=> ?_
  ·simp only[decide_eq_true_eq]at hc
   refine⟨i+1,inner76 he (by omega) hn i g h A (Ins.start R) (by omega) (Nat.le_refl _) fun h1 g1 A1 R1 S1 O1=> ?_⟩
   exact ih (i+1) g1 h1 (by omega) A1 (by omega) (by omega) R1 fun h' g' A' R' S' O'=>hK h' g' A' R' (S1.trans S') (O1.trans O' (by simp))
  ·simp only[decide_eq_false_iff_not]at hc
   exact hK h g A (fun p q h1 h2 h3=>R p q h1 h2 (by omega)) (.refl g) (Only.refl _ _)
theorem ins76{h:Heap}{b n a e c:Nat}{g:Nat→Int}{sp:List Value}{K:Value→Heap→Prop}(A:Arr .i64 h b n g sp)(he:e≤n)(ha:a≤n)(hn:n≤LB-2)
  (hK: ∀h' g',Arr .i64 h' b n g' sp→Srt a e g'→Swp a e g g'→Only [b] h h'→K (.tuple #[]) h'):Cl 324 [.slice (some ⟨b,0,none⟩) n c,.int .i64 a,.int .i64 e] h K:=by
 refine F324.spec _ _ _ _ _ h K ?_
 unfold F324.w F324.J0 F324.wk1 F324.Jk1
 have hLB:LB=140737488355328:=rfl
 rw[show IntKind.wrap .i64 ((a:Int)+1)=((a+1:Nat):Int) by rw[wrapN (by omega) (by omega)];omega]
 exact⟨e+1,outer76 he hn e (a+1) g h (by omega) A (by omega) (by omega) (Srt.single g (by omega)) hK⟩
end IN
section
theorem strS{tb:ByteArray}{y:Nat}{K:Int→Prop}(h:((List.range 256).all fun y=>tb[y]?.isSome)=true)(hy:y<256)(hK: ∀n:Int,K n):strK tb (y:Int) K:=by
 rw[List.all_eq_true]at h
 obtain⟨b,hb⟩:=Option.isSome_iff_exists.1 (h y (List.mem_range.2 hy))
 exact⟨b,by rw[Int.toNat_natCast];exact hb,hK _⟩
theorem len295{X:Nat}{h:Heap}{K:Value→Heap→Prop}(hX:X<256)(hK: ∀L:Int,K (.int .i64 L) h):Cl 295 [.int .u64 (X:Int)] h K:=by
 refine F295.spec _ h K ?_
 refine F323.spec _ h _ ?_
 rw[decide_eq_false (by omega),bcase_false]
 show F323.wk4 _ _ _ _
 unfold F323.wk4
 rw[decide_eq_false (by omega),bcase_false]
 show F323.wk7 _ _ _ _
 unfold F323.wk7
 rw[decide_eq_false (by omega),bcase_false]
 show F323.wk10 _ _ _ _
 unfold F323.wk10
 have:IntKind.wrap .u8 (X:Int)=X:=by simp[IntKind.wrap,IntKind.bits,IntKind.signed];omega
 rw[this]
 exact⟨by omega,strS (by decide+kernel) hX fun n=>ldI_of rfl (hK _)⟩
theorem sort260{h:Heap}{b n c:Nat}{g:Nat→Int}{sp:List Value}{K:Value→Heap→Prop}(A:Arr .u32 h b n g sp)(hn:n≤12)
  (hK: ∀h' g',Arr .u32 h' b n g' sp→Srt 0 n g'→Swp 0 n g g'→Only [b] h h'→K (.tuple #[]) h'):Cl 260 [.slice (some ⟨b,0,none⟩) n c] h K:=by
 refine F260.spec _ _ _ h K ?_
 have hLB:LB=140737488355328:=rfl
 rw[wrap_u64 (by omega) (by omega)]
 refine len295 (by omega) fun L=>ldI_of rfl ?_
 refine F294.spec _ _ _ _ _ _ h _ ⟨1,?_⟩
 rw[F294.sL2]
 rw[wrap_i64 (by omega) (by omega),decide_eq_true (by omega),bcase_true]
 exact ins76 (a:=0) A (Nat.le_refl n) (Nat.zero_le n) (by omega) fun h' g' A' R' S' O'=>⟨rfl,rfl,hK h' g' A' R' S' O'⟩
theorem sort260nil{h:Heap}{c:Nat}{p:Option Addr}{K:Value→Heap→Prop}(hK:K (.tuple #[]) h):Cl 260 [.slice p 0 c] h K:=by
 refine F260.spec _ _ _ h K ?_
 rw[wrap_u64 (by omega) (by omega)]
 refine len295 (X:=0) (by omega) fun L=>ldI_of rfl ?_
 refine F294.spec _ _ _ _ _ _ h _ ⟨1,?_⟩
 rw[F294.sL2]
 rw[show IntKind.wrap .i64 ((((0:Nat):Int))-0)=0 by decide,show decide ((0:Int)≤12)=true by decide,bcase_true]
 refine F313.spec _ _ _ _ _ h _ ⟨1,?_⟩
 unfold F313.wL1 F313.JL1
 rw[show decide (IntKind.wrap .i64 ((0:Int)+1)<((0:Nat):Int))=false by decide,bcase_false]
 exact⟨rfl,rfl,hK⟩
theorem sort265{h:Heap}{c n:Nat}{p:Option Addr}{K:Value→Heap→Prop}(hn:n≤1)(hK:K (.tuple #[]) h):Cl 265 [.slice p n c] h K:=by
 refine F265.spec _ _ _ h K ?_
 rw[wrap_u64 (by omega) (by omega)]
 refine len295 (by omega) fun L=>ldI_of rfl ?_
 refine F298.spec _ _ _ _ _ _ h _ ⟨1,?_⟩
 rw[F298.sL2]
 rw[wrap_i64 (by omega) (by omega),decide_eq_true (by omega),bcase_true]
 refine F324.spec _ _ _ _ _ h _ ⟨1,?_⟩
 unfold F324.wL1 F324.JL1
 rw[show decide (IntKind.wrap .i64 ((0:Int)+1)<((n:Nat):Int))=false by rw[decide_eq_false];rw[wrap_i64 (by omega) (by omega)];omega,bcase_false]
 exact⟨rfl,rfl,hK⟩
end
section
theorem Arr.ldo{q:IntKind}{h:Heap}{b n:Nat}{g:Nat→Int}{sp:List Value}(A:Arr q h b n g sp){o l:Nat}{x:Int}{k:Nat}(hx:x=k)(hk:k<l)(hn:o+k<n){Q:Int→Prop}(hQ:Q (g (o+k))):
  ptrK (some ⟨b,o,none⟩) fun a=>(0≤x∧x<(l:Int)∧ldI q (Ev.rd h (Addr.add a (Int.toNat x*1))) Q):=by
 subst hx
 rw[ptrK_some]
 refine⟨by omega,by omega,?_⟩
 rw[add_mk,show o+Int.toNat (k:Int)*1=o+k by omega,A.rd hn,ldI_some]
 exact hQ
theorem Arr.clr{q:IntKind}{h:Heap}{b n:Nat}{g:Nat→Int}{sp:List Value}(A:Arr q h b n g sp){k c m:Nat}(hk:k≤n)(hm:m=n-k)(hc:n≤c){K:Heap→Prop}
  (hK: ∀h' sp',Arr q h' b k g sp'→sp'.length=n-k+sp.length→Only [b] h h'→K h'):
  clrK h #[.int q 0] (if c=k then some ⟨b,0,none⟩else Option.map (fun a=>Addr.add a (k*1)) (some ⟨b,0,none⟩)) m K:=by
 subst hm
 have e0:rowV n (fun k=>Value.int q (g k))=rowV k (fun k=>Value.int q (g k))++(rowV n (fun k=>Value.int q (g k))).drop k:=by
  conv=>lhs;rw[←List.take_append_drop k (rowV n (fun k=>Value.int q (g k)))]
  congr 1
  apply List.ext_getElem?
  intro i
  by_cases hi:i<k
  ·rw[List.getElem?_take_of_lt hi,rowV_get (by omega),rowV_get hi]
  ·rw[List.getElem?_eq_none (by simp[rowV_len];omega),List.getElem?_eq_none (by simp[rowV_len];omega)]
 by_cases hck:c=k
 ·rw[if_pos hck]
  have:n-k=0:=by omega
  unfold clrK
  rw[this]
  have hz:(Builtin.zeroCells #[Value.int q 0] 0).toList=[]:=by simp[Builtin.zeroCells]
  dsimp only
  rw[hz]
  unfold stL
  have:n=k:=by omega
  subst this
  exact hK h sp A (by omega) (Only.refl _ _)
 ·rw[if_neg hck,Option.map_some,add_mk]
  unfold clrK
  simp only[Nat.zero_add,Nat.mul_one]
  have hz:(Builtin.zeroCells #[Value.int q 0] (n-k)).toList.length=n-k:=by rw[size_zeroCells];simp
  refine stL_own _ 0 _ h A (by rw[hz,List.length_append,rowV_len];omega) (fun v hv=> ?_) fun h' A' O' _=> ?_
  ·simp[Builtin.zeroCells]at hv
   obtain⟨i,_,rfl⟩:=hv
   rw[Nat.mod_one]
   rfl
  ·refine hK h' ((Builtin.zeroCells #[Value.int q 0] (n-k)).toList++(rowV n (fun k=>Value.int q (g k))++sp).drop (k+(n-k))) ?_ ?_ O'
   ·have e1:(rowV n (fun k=>Value.int q (g k))++sp).take k=rowV k (fun k=>Value.int q (g k)):=by
     rw[e0,List.append_assoc,List.take_append_of_le_length (by rw[rowV_len];exact Nat.le_refl _),List.take_of_length_le (by rw[rowV_len];exact Nat.le_refl _)]
    rw[Nat.add_zero,hz,e1,List.append_assoc]at A'
    exact A'
   ·rw[List.length_append,hz,List.length_drop,List.length_append,rowV_len]
    omega
structure Cmp(n k j:Nat)(g g':Nat→Int):Prop where
 k1:1≤k
 kj:k≤j
 up: ∀p q,p<q→q<k→g' p<g' q
 fw: ∀p,p<k→ ∃q,q<j∧g' p=g q
 bw: ∀q,q<j→ ∃p,p<k∧g' p=g q
 last:g' (k-1)=g (j-1)
 rest: ∀i,j≤i+1→i<n→k≤i→g' i=g i
theorem Cmp.same{n k j:Nat}{g g':Nat→Int}(H:Cmp n k j g g')(h:g j=g (j-1))(hk:k≤j):Cmp n k (j+1) g g' where
 k1:=H.k1
 kj:=by omega
 up:=H.up
 fw:=fun p hp=>by
  obtain⟨q,h1,h2⟩:=H.fw p hp
  exact⟨q,by omega,h2⟩
 bw:=fun q hq=>by
  by_cases e:q=j
  ·subst e
   exact⟨k-1,by have:=H.k1;omega,by rw[H.last,h]⟩
  ·exact H.bw q (by omega)
 last:=by rw[H.last,show j+1-1=j by omega,h]
 rest:=fun i h1 h2 h3=>H.rest i (by omega) h2 h3
theorem Cmp.new{n k j:Nat}{g g':Nat→Int}(H:Cmp n k j g g')(h:g (j-1)<g j)(hj:j<n):Cmp n (k+1) (j+1) g (fun i=>if i=k then g j else g' i) where
 k1:=by omega
 kj:=by have:=H.kj;omega
 up:=fun p q h1 h2=>by
  rw[if_neg (by omega:p≠k)]
  by_cases hq:q=k
  ·rw[if_pos hq]
   have l:=H.last
   by_cases hp:p=k-1
   ·rw[hp,l];exact h
   ·have:=H.up p (k-1) (by omega) (by omega)
    rw[l]at this
    exact Int.lt_trans this h
  ·rw[if_neg hq]
   exact H.up p q h1 (by omega)
 fw:=fun p hp=>by
  by_cases e:p=k
  ·exact⟨j,by omega,by rw[if_pos e]⟩
  ·obtain⟨q,h1,h2⟩:=H.fw p (by omega)
   exact⟨q,by omega,by rw[if_neg e];exact h2⟩
 bw:=fun q hq=>by
  by_cases e:q=j
  ·subst e
   exact⟨k,by omega,by rw[if_pos rfl]⟩
  ·obtain⟨p,h1,h2⟩:=H.bw q (by omega)
   exact⟨p,by omega,by rw[if_neg (by omega)];exact h2⟩
 last:=by rw[show k+1-1=k by omega,if_pos rfl,show j+1-1=j by omega]
 rest:=fun i h1 h2 h3=>by
  rw[if_neg (by omega)]
  exact H.rest i (by omega) h2 (by omega)
section
variable {b n c:Nat}{g:Nat→Int}{K:Value→Heap→Prop}
theorem end51{h0 h:Heap}{k:Nat}{g':Nat→Int}{sp:List Value}{bk:(Option Addr)→Nat→Nat→Int→Heap→Prop}(A:Arr .u32 h b n g' sp)(hk:k≤n)(hc:n≤c)(hn:n≤LB/4)(O:Only [b] h0 h)
  (hK: ∀h' sp',Arr .u32 h' b k g' sp'→sp'.length=n-k+sp.length→Only [b] h0 h'→K (.slice (some ⟨b,0,none⟩) k c) h'):F261.wk14 bk (some ⟨b,0,none⟩) n c k h K:=by
 unfold F261.wk14 F261.Jk14
 refine⟨by omega,by omega,?_⟩
 rw[Int.toNat_natCast]
 refine A.clr hk rfl hc fun h' sp' A' hl O'=>⟨by omega,by omega,?_⟩
 have e:(if c=0 then(some (⟨b,0,none⟩:Addr))else Option.map (fun a=>Addr.add a (0*1)) (some ⟨b,0,none⟩))=some ⟨b,0,none⟩:=by
  split
  ·rfl
  ·simp
 rw[e]
 exact hK h' sp' A' hl (O.trans O' (by simp))
theorem in51{sp:List Value}{bk:(Option Addr)→Nat→Nat→Int→Heap→Prop}{k0:Nat}(hc:n≤c)(hn:n≤LB/4)(R:Srt 0 n g)(h0:1≤k0){hh:Heap}:
  ∀(d k2 k:Nat) (g':Nat→Int) (h:Heap),k0+k2+d=n→1≤k2→Arr .u32 h b n g' sp→Cmp n k (k0+k2) g g'→k0≤k→k<k0+k2→Only [b] hh h→
   (∀h' k' g'' sp',Arr .u32 h' b k' g'' sp'→sp'.length=n-k'+sp.length→Cmp n k' n g g''→k'≤n→Only [b] hh h'→K (.slice (some ⟨b,0,none⟩) k' c) h')→
   F261.wL9 bk (d+1) (some ⟨b,0,none⟩) n c k (some ⟨b,k0,none⟩) (n-k0) (c-k0) k2 h K:=by
 intro d
 have hLB:LB=140737488355328:=rfl
 induction d with
 |zero=>
  intro k2 k g' h hd h2 A C hk hk' O hK
  unfold F261.wL9 F261.JL9
  rw[show decide ((k2:Int)<((n-k0:Nat):Int))=false by simp;omega,bcase_false]
  rw[show k0+k2=n by omega]at C
  exact end51 A (by omega) hc hn O fun h' sp' A' hl O'=>hK h' k g' sp' A' hl C (by omega) O'
 |succ d ih=>
  intro k2 k g' h hd h2 A C hk hk' O hK
  unfold F261.wL9 F261.JL9
  rw[show decide ((k2:Int)<((n-k0:Nat):Int))=true by simp;omega,bcase_true,show IntKind.wrap .i64 ((k2:Int)-1)=((k2-1:Nat):Int) by rw[wrapN (by omega) (by omega)];omega,
   show IntKind.wrap .i64 ((k2:Int)+1)=((k2+1:Nat):Int) by rw[wrapN (by omega) (by omega)];omega]
  refine A.ldo rfl (by omega) (by omega) (A.ldo rfl (by omega) (by omega) ?_)
  rw[C.rest (k0+k2) (by omega) (by omega) (by omega)]
  by_cases hkk:k≤k0+(k2-1)
  ·have e1:g' (k0+(k2-1))=g (k0+k2-1):=by rw[C.rest (k0+(k2-1)) (by omega) (by omega) hkk,show k0+(k2-1)=k0+k2-1 by omega]
   rw[e1]
   refine bcase_of (fun hc1=> ?_) fun hc1=> ?_
   ·simp only[bne_iff_ne,ne_eq]at hc1
    refine A.ldo rfl (by omega) (by omega) (A.sto rfl (by omega) fun h1 A1 O1=> ?_)
    rw[C.rest (k0+k2) (by omega) (by omega) (by omega)]at A1
    rw[show IntKind.wrap .i64 ((k:Int)+1)=((k+1:Nat):Int) by rw[wrapN (by omega) (by omega)];omega]
    have lt:g (k0+k2-1)<g (k0+k2):=by
     have:=R (k0+k2-1) (k0+k2) (by omega) (by omega) (by omega)
     omega
    exact ih (k2+1) (k+1) _ h1 (by omega) (by omega) A1 (C.new lt (by omega)) (by omega) (by omega) (O.trans O1 (by simp)) hK
   ·have hc1':g (k0+k2)=g (k0+k2-1):=by simpa using hc1
    exact ih (k2+1) k g' h (by omega) (by omega) A (C.same hc1' (by omega)) hk (by omega) O hK
  ·have:k=k0+k2:=by omega
   omega
theorem out51{sp:List Value}(hc:n≤c)(hn:n≤LB/4)(R:Srt 0 n g){h:Heap}(A:Arr .u32 h b n g sp): ∀(d k:Nat),k+d=n→1≤k→Cmp n k k g g→
   (∀h' k' g'' sp',Arr .u32 h' b k' g'' sp'→sp'.length=n-k'+sp.length→Cmp n k' n g g''→k'≤n→Only [b] h h'→K (.slice (some ⟨b,0,none⟩) k' c) h')→
   F261.wL4 (d+1) (some ⟨b,0,none⟩) n c k h K:=by
 intro d
 have hLB:LB=140737488355328:=rfl
 induction d with
 |zero=>
  intro k hd h1 C hK
  unfold F261.wL4 F261.JL4
  rw[show decide ((k:Int)<(n:Int))=false by simp;omega,bcase_false]
  have:k=n:=by omega
  subst this
  exact hK h k g sp A (by omega) C (Nat.le_refl _) (Only.refl _ _)
 |succ d ih=>
  intro k hd h1 C hK
  unfold F261.wL4 F261.JL4
  rw[show decide ((k:Int)<(n:Int))=true by simp;omega,bcase_true,show IntKind.wrap .i64 ((k:Int)-1)=((k-1:Nat):Int) by rw[wrapN (by omega) (by omega)];omega]
  refine A.ld rfl (by omega) (A.ld rfl (by omega) ?_)
  refine bcase_of (fun he=> ?_) fun he=> ?_
  ·have he':g k=g (k-1):=by simpa using he
   refine⟨by omega,by omega,?_⟩
   unfold F261.wk9 F261.Jk9
   rw[Int.toNat_natCast,if_neg (by omega),Option.map_some,add_mk,Nat.zero_add,Nat.mul_one]
   exact⟨_,in51 hc hn R h1 (n-(k+1)) 1 k g h (by omega) (Nat.le_refl _) A (C.same he' (Nat.le_refl _)) (Nat.le_refl _) (by omega) (Only.refl _ _) hK⟩
  ·have he': ¬g k=g (k-1):=by simpa using he
   rw[show IntKind.wrap .i64 ((k:Int)+1)=((k+1:Nat):Int) by rw[wrapN (by omega) (by omega)];omega]
   have lt:g (k-1)<g k:=by
    have:=R (k-1) k (by omega) (by omega) (by omega)
    omega
   have C':=C.new lt (by omega)
   rw[show(fun i=>if i=k then g k else g i)=g by funext i;by_cases e:i=k<;>simp[e]]at C'
   exact ih (k+1) (by omega) (by omega) C' hK
theorem cmp51{h:Heap}{sp:List Value}(A:Arr .u32 h b n g sp)(hc:n≤c)(hn:n≤LB/4)(R:Srt 0 n g)
  (hK: ∀h' k g' sp',Arr .u32 h' b k g' sp'→sp'.length=n-k+sp.length→k≤n→(∀p q,p<q→q<k→g' p<g' q)→(∀p,p<k→ ∃q,q<n∧g' p=g q)→(∀q,q<n→ ∃p,p<k∧g' p=g q)→Only [b] h h'→K (.slice (some ⟨b,0,none⟩) k c) h'):
  Cl 261 [.slice (some ⟨b,0,none⟩) n c] h K:=by
 refine F261.spec _ _ _ h K ?_
 unfold F261.w F261.J0
 refine bcase_of (fun h2=> ?_) fun h2=> ?_
 ·simp only[decide_eq_true_eq]at h2
  exact hK h n g sp A (by omega) (Nat.le_refl _) (fun p q _ _=>by omega) (fun p hp=>⟨p,hp,rfl⟩) (fun q hq=>⟨q,hq,rfl⟩) (Only.refl _ _)
 ·simp only[decide_eq_false_iff_not]at h2
  unfold F261.wk4 F261.Jk4
  exact⟨_,out51 hc hn R A (n-1) 1 (by omega) (Nat.le_refl _) ⟨Nat.le_refl _,Nat.le_refl _,fun p q _ _=>by omega,fun p hp=>⟨p,hp,rfl⟩,fun q hq=>⟨q,hq,rfl⟩,rfl,fun i _ _ _=>rfl⟩
   fun h' k g' sp' A' hl C hk O'=>hK h' k g' sp' A' hl hk C.up C.fw C.bw O'⟩
end
theorem cmp51nil{h:Heap}{c:Nat}{p:Option Addr}{K:Value→Heap→Prop}(hK:K (.slice p 0 c) h):Cl 261 [.slice p 0 c] h K:=by
 refine F261.spec _ _ _ h K ?_
 unfold F261.w F261.J0
 rw[show decide (((0:Nat):Int)<2)=true by decide,bcase_true]
 exact hK
end
section
def okR(x:Int):Bool:=decide (1<x)
structure Flt(i j:Nat)(g g':Nat→Int):Prop where
 ij:i≤j
 eq:(List.range i).map g'=((List.range j).map g).filter okR
 rest: ∀k,j≤k→g' k=g k
theorem Flt.keep{i j:Nat}{g g':Nat→Int}(H:Flt i j g g')(h:1<g j):Flt (i+1) (j+1) g (fun k=>if k=i then g j else g' k) where
 ij:=by have:=H.ij;omega
 eq:=by
  rw[List.range_succ,List.range_succ,List.map_append,List.map_append,List.filter_append,←H.eq]
  congr 1
  ·apply List.map_congr_left
   intro k hk
   rw[List.mem_range]at hk
   rw[if_neg (by omega)]
  ·simp[okR,h]
 rest:=fun k hk=>by
  have:=H.ij
  rw[if_neg (by omega)]
  exact H.rest k (by omega)
theorem Flt.drop{i j:Nat}{g g':Nat→Int}(H:Flt i j g g')(h: ¬1<g j):Flt i (j+1) g g' where
 ij:=by have:=H.ij;omega
 eq:=by
  rw[H.eq,List.range_succ,List.map_append,List.filter_append]
  simp[okR,h]
 rest:=fun k hk=>H.rest k (by omega)
theorem Flt.all{i:Nat}{g:Nat→Int}(h: ∀k,k<i→1<g k):Flt i i g g where
 ij:=Nat.le_refl _
 eq:=by
  symm
  rw[List.filter_eq_self]
  intro x hx
  obtain⟨k,hk,rfl⟩:=List.mem_map.1 hx
  rw[List.mem_range]at hk
  simp[okR,h k hk]
 rest:=fun k _=>rfl
theorem del53{x:Int}{h:Heap}{K:Value→Heap→Prop}(hK:K (.bool (!okR x)) h):dynK Tryz.prog X (.func (.func 263) #[] #[]) [.int .u32 x] h K:=
 dynK_go (by kernel_rfl) (F263.spec x h K (by
  rw[show decide (x≤1)= !okR x by unfold okR;by_cases h:1<x<;>simp[h]<;>omega]
  exact hK))
section
variable {b n c:Nat}{g:Nat→Int}{K:Value→Heap→Prop}
theorem idx69{h:Heap}{sp:List Value}(A:Arr .u32 h b n g sp)(hn:n≤LB/4)(hK: ∀i:Nat,i<n→(∀k,k<i→1<g k)→ ¬1<g i→K (.int .i64 (i:Int)) h)(hN:(∀k,k<n→1<g k)→K (.int .i64 (-1)) h):
  Cl 296 [.slice (some ⟨b,0,none⟩) n c,.func (.func 263) #[] #[]] h K:=by
 refine F296.spec _ _ _ h K ?_
 have hLB:LB=140737488355328:=rfl
 unfold F296.wk2
 have main: ∀(d i:Nat),i+d=n→(∀k,k<i→1<g k)→F296.wL2 (d+1) (some ⟨b,0,none⟩) n c (.func (.func 263) #[] #[]) n i h K:=by
  intro d
  induction d with
  |zero=>
   intro i hd hi
   rw[F296.sL2]
   rw[show decide ((i:Int)<(n:Int))=false by simp;omega,bcase_false]
   exact hN fun k hk=>hi k (by omega)
  |succ d ih=>
   intro i hd hi
   rw[F296.sL2]
   rw[show decide ((i:Int)<(n:Int))=true by simp;omega,bcase_true]
   refine A.ld rfl (by omega) (del53 ?_)
   rw[ldB_some]
   refine bcase_of (fun ho=> ?_) fun ho=> ?_
   ·exact hK i (by omega) hi (by simpa[okR]using ho)
   ·rw[show IntKind.wrap .i64 ((i:Int)+1)=((i+1:Nat):Int) by rw[wrapN (by omega) (by omega)];omega]
    refine ih (i+1) (by omega) fun k hk=> ?_
    by_cases e:k=i
    ·subst e;simpa[okR]using ho
    ·exact hi k (by omega)
 exact⟨_,main n 0 (by omega) fun k hk=>by omega⟩
theorem end52{h0 h:Heap}{k:Nat}{g':Nat→Int}{sp:List Value}(A:Arr .u32 h b n g' sp)(hk:k≤n)(hc:n≤c)(O:Only [b] h0 h)
  (hK: ∀h' sp',Arr .u32 h' b k g' sp'→sp'.length=n-k+sp.length→Only [b] h0 h'→K (.slice (some ⟨b,0,none⟩) k c) h'):F262.wk11 (some ⟨b,0,none⟩) n c k h K:=by
 unfold F262.wk11
 refine⟨by omega,by omega,?_⟩
 rw[Int.toNat_natCast]
 refine A.clr hk rfl hc fun h' sp' A' hl O'=>⟨by omega,by omega,?_⟩
 have e:(if c=0 then(some (⟨b,0,none⟩:Addr))else Option.map (fun a=>Addr.add a (0*1)) (some ⟨b,0,none⟩))=some ⟨b,0,none⟩:=by
  split
  ·rfl
  ·simp
 rw[e]
 exact hK h' sp' A' hl (O.trans O' (by simp))
theorem out52{sp:List Value}(hc:n≤c)(hn:n≤LB/4){hh:Heap}:
  ∀(d j i:Nat) (g':Nat→Int) (h:Heap),j+d=n→i<j→Arr .u32 h b n g' sp→Flt i j g g'→Only [b] hh h→
   (∀h' k g'' sp',Arr .u32 h' b k g'' sp'→sp'.length=n-k+sp.length→k≤n→(List.range k).map g''=((List.range n).map g).filter okR→Only [b] hh h'→K (.slice (some ⟨b,0,none⟩) k c) h')→
   F262.wL5 (d+1) (some ⟨b,0,none⟩) n c (.func (.func 263) #[] #[]) i j h K:=by
 intro d
 have hLB:LB=140737488355328:=rfl
 induction d with
 |zero=>
  intro j i g' h hd hij A C O hK
  rw[F262.sL5]
  rw[show decide ((j:Int)<(n:Int))=false by simp;omega,bcase_false]
  have:j=n:=by omega
  subst this
  exact end52 A (by omega) hc O fun h' sp' A' hl O'=>hK h' i g' sp' A' hl (by omega) C.eq O'
 |succ d ih=>
  intro j i g' h hd hij A C O hK
  rw[F262.sL5]
  rw[show decide ((j:Int)<(n:Int))=true by simp;omega,bcase_true,show IntKind.wrap .i64 ((j:Int)+1)=((j+1:Nat):Int) by rw[wrapN (by omega) (by omega)];omega]
  refine A.ld rfl (by omega) (del53 ?_)
  rw[ldB_some]
  have ej:g' j=g j:=C.rest j (Nat.le_refl _)
  refine bcase_of (fun ho=> ?_) fun ho=> ?_
  ·have ho':1<g j:=by rw[←ej];simpa[okR]using ho
   refine A.sto rfl (by omega) fun h1 A1 O1=> ?_
   rw[ej]at A1
   rw[show IntKind.wrap .i64 ((i:Int)+1)=((i+1:Nat):Int) by rw[wrapN (by omega) (by omega)];omega]
   exact ih (j+1) (i+1) _ h1 (by omega) (by omega) A1 (C.keep ho') (O.trans O1 (by simp)) hK
  ·have ho': ¬1<g j:=by rw[←ej];simpa[okR]using ho
   exact ih (j+1) i g' h (by omega) (by omega) A (C.drop ho') O hK
theorem del52{h:Heap}{sp:List Value}(A:Arr .u32 h b n g sp)(hc:n≤c)(hn:n≤LB/4)
  (hK: ∀h' k g' sp',Arr .u32 h' b k g' sp'→sp'.length=n-k+sp.length→k≤n→(List.range k).map g'=((List.range n).map g).filter okR→Only [b] h h'→K (.slice (some ⟨b,0,none⟩) k c) h'):
  Cl 262 [.slice (some ⟨b,0,none⟩) n c,.func (.func 263) #[] #[]] h K:=by
 refine F262.spec _ _ _ h K ?_
 have hLB:LB=140737488355328:=rfl
 refine idx69 A hn (fun i hi h1 h2=> ?_) fun h1=> ?_
 ·rw[ldI_some,show((i:Int)==(-1))=false by simp,bcase_false,show IntKind.wrap .i64 ((i:Int)+1)=((i+1:Nat):Int) by rw[wrapN (by omega) (by omega)];omega]
  unfold F262.wk5
  exact⟨_,out52 hc hn (n-(i+1)) (i+1) i g h (by omega) (by omega) A ((Flt.all h1).drop h2) (Only.refl _ _) hK⟩
 ·rw[ldI_some,show((-1:Int)==(-1))=true by decide,bcase_true]
  exact hK h n g sp A (by omega) (Nat.le_refl _) (Flt.all h1).eq (Only.refl _ _)
end
theorem del52nil{h:Heap}{c:Nat}{p:Option Addr}{K:Value→Heap→Prop}(hK:K (.slice p 0 c) h):Cl 262 [.slice p 0 c,.func (.func 263) #[] #[]] h K:=by
 refine F262.spec _ _ _ h K ?_
 refine F296.spec _ _ _ h _ ?_
 unfold F296.wk2
 refine⟨1,?_⟩
 rw[F296.sL2]
 rw[show decide ((0:Int)<((0:Nat):Int))=false by decide,bcase_false]
 try dsimp only
 rw[ldI_some,show((-1:Int)==(-1))=true by decide,bcase_true]
 exact hK
end
section
open Go Go.RowKit Go.Maps
def anyRd(_:Value):Option (DataW Unit×List MemPlace):=some (.nil,[])
def keyD(q:IntKind)(p:Int×Value):Lit×DataW Unit:=(.int q p.1,.nil)
theorem owns_of{P:Program}{kt:TypeId}{q:IntKind}(hk:P.underlying kt=some (.int q)){w:World}{b:Nat}{m:List (Int×Value)}(M:MapM w.heap b q m)
  (hwf: ∀x∈m.map (·.1),(Lit.int q x).wf=true) (hsz:m.length≤maxLen):
  ∃D:DataW Unit,w.ownsMap P kt anyRd b m.length D∧Maps.size D=m.length∧ ∀x,Maps.has D (.int q x)=true↔x∈m.map (·.1):=by
 obtain⟨es,cl,h1,h2,h3,h4,h5⟩:=M
 have hlen:es.toList.length=m.length:=by simpa using congrArg List.length h2
 have hrd: ∀(l:List MapEntry) (m:List (Int×Value)),l.map (fun e=>(e.key,e.val))=m.map (fun p=>(Value.int q p.1,p.2))→(∀x∈m.map (·.1),(Lit.int q x).wf=true)→
   l.map (WideElems.rg P kt anyRd)=m.map (keyD q)∧ ∀x∈l,∃y,WideElems.rd P kt anyRd x=some y:=by
  intro l
  induction l with
  |nil=>intro m h _;cases m with
   |nil=>exact⟨rfl,by simp⟩
   |cons p m=>simp at h
  |cons e l ih=>intro m h hw;cases m with
   |nil=>simp at h
   |cons p m=>
    simp only[List.map_cons,List.cons.injEq,Prod.mk.injEq]at h
    obtain⟨⟨a1,a2⟩,a3⟩:=h
    obtain⟨i1,i2⟩:=ih m a3 fun x hx=>hw x (by simp[hx])
    have hr:WideElems.rd P kt anyRd e=some (keyD q p):=by
     unfold WideElems.rd
     rw[a1,keyOf_int_mk hk (hw p.1 (by simp))]
     rfl
    refine⟨by rw[List.map_cons,List.map_cons,i1];unfold WideElems.rg;rw[hr];rfl,fun x hx=> ?_⟩
    rcases List.mem_cons.1 hx with rfl|hx
    ·exact⟨_,hr⟩
    ·exact i2 x hx
 obtain⟨r1,r2⟩:=hrd _ m h2 hwf
 refine⟨_,⟨es,cl,mp_obj h1,⟨by rw[←Array.length_toList,hlen];exact hsz,⟨h5,h4,?_⟩,r2⟩,by rw[←Array.length_toList,hlen];exact Nat.le_refl _,rfl⟩,?_,fun x=> ?_⟩
 ·have e:es.toList.map (·.key)=(m.map (·.1)).map (Value.int q):=by
   have:=congrArg (List.map Prod.fst) h2
   simpa[List.map_map,Function.comp_def]using this
  rw[e]
  exact h3.map _ fun a b hab e=>hab (by injection e)
 ·rw[Maps.size_eq,length_sorted,List.length_map,hlen]
 ·rw[Maps.has_eq,List.any_eq_true,r1]
  constructor
  ·rintro ⟨p,hp,hs⟩
   rw[mem_sorted,List.mem_map]at hp
   obtain⟨y,hy,rfl⟩:=hp
   simp[keyD,Lit.sameKey]at hs
   exact List.mem_map.2 ⟨y,hy,hs⟩
  ·intro hx
   obtain⟨p,hp,rfl⟩:=List.mem_map.1 hx
   exact⟨keyD q p,mem_sorted.2 (List.mem_map.2 ⟨p,hp,rfl⟩),by simp[keyD,Lit.sameKey]⟩
def CollI(q:IntKind)(D0:DataW Unit)(left:Lit→Bool)(ss:List Int):Prop:=ss.Nodup∧ ∀x,x∈ss↔(Maps.has D0 (.int q x)=true∧left (.int q x)=false)
theorem CollI.start(q:IntKind)(D0:DataW Unit):CollI q D0 (Maps.has D0) []:=⟨List.nodup_nil,fun x=>by cases Maps.has D0 (.int q x)<;>simp⟩
theorem CollI.step{q:IntKind}{D0:DataW Unit}{left:Lit→Bool}{ss:List Int}(h:CollI q D0 left ss){x:Int}{y:DataW Unit}(hlk:left (.int q x)=true)(hat: ∀zd,D0.atKey (.int q x) zd=y):
  CollI q D0 (fun z=>left z&& !z.sameKey (.int q x)) (ss++[x]):=by
 have hhas:Maps.has D0 (.int q x)=true:=Maps.has_true_of_atKey hat
 have hnew:x∉ss:=fun hx=>by have:=((h.2 x).1 hx).2;rw[hlk]at this;cases this
 refine⟨List.nodup_append.2 ⟨h.1,by simp,fun a ha b hb=>by simp at hb;subst hb;exact fun e=>hnew (e▸ha)⟩,fun y=> ?_⟩
 by_cases hy:y=x
 ·subst hy;simp[hhas,Lit.sameKey]
 ·simp[h.2 y,hy,Lit.sameKey]
theorem CollI.perm{q:IntKind}{D0:DataW Unit}{left:Lit→Bool}{ss ks:List Int}(h:CollI q D0 left ss)(hl: ∀kl,left kl=false)(hnd:ks.Nodup)(hm: ∀x,Maps.has D0 (.int q x)=true↔x∈ks):ss.Perm ks:=
 (List.perm_ext_iff_of_nodup h.1 hnd).2 fun x=>by rw[h.2 x,hl,←hm];simp
def FzK(W W':World):Prop:= ∀a,fz W'.heap a=fz W.heap a
theorem fz_obj{h:Heap}{a:Addr}{o:Obj}(ho:h[a.block]? =some o)(hc:o.isCells=false):fz h a=false:=by
 unfold fz
 rw[ho]
 cases o<;>first|rfl|(simp[Obj.isCells]at hc)
theorem FzK.alloc(W:World){o:Obj}(hc:o.isCells=false):FzK W (W.alloc o):=fun a=>by
 by_cases ha:a.block=W.heap.size
 ·rw[fz_obj (o:=o) (by rw[ha];exact World.alloc_heap_new W o) hc]
  unfold fz
  rw[ha,Array.getElem?_eq_none (Nat.le_refl _)]
 ·unfold fz
  show(match (W.heap.push o)[a.block]? with|some (.cells _ _ (lo,hi))=>lo≤a.off&&a.off<hi|_=>false)=_
  rw[Array.getElem?_push,if_neg ha]
  rfl
theorem FzK.put{W:World}{l:Nat}{o:Obj}(o':Obj)(hl:W.heap[l]? =some o)(hc:o.isCells=false)(hc':o'.isCells=false):FzK W (W.putObj l o'):=fun a=>by
 by_cases ha:a.block=l
 ·rw[fz_obj (o:=o') (by rw[ha];exact World.putObj_heap_same (Array.getElem?_eq_some_iff.1 hl).1) hc',fz_obj (o:=o) (by rw[ha];exact hl) hc]
 ·unfold fz
  rw[World.putObj_heap_other ha]
theorem FzK.one{W W':World}{r:Nat}(hs: ∀k,k<W.heap.size→k≠r→W'.heap[k]? =W.heap[k]?){o:Obj}(hr:W.heap[r]? =some o∨W.heap.size=r)(ho:W.heap[r]? =some o→o.isCells=false){o':Obj}(hr':W'.heap[r]? =some o')(ho':o'.isCells=false)
  (hsz:W'.heap.size≤max W.heap.size (r+1)):FzK W W':=fun a=>by
 by_cases ha:a.block=r
 ·rw[fz_obj (o:=o') (by rw[ha];exact hr') ho']
  rcases hr with hr|hr
  ·rw[fz_obj (o:=o) (by rw[ha];exact hr) (ho hr)]
  ·unfold fz
   rw[ha,Array.getElem?_eq_none (Nat.le_of_eq hr)]
 ·unfold fz
  by_cases hk:a.block<W.heap.size
  ·rw[hs _ hk ha]
  ·have:W'.heap.size≤a.block:=by
    rcases Nat.le_total W.heap.size (r+1)with h|h
    ·rw[Nat.max_eq_right h]at hsz
     rcases hr with hr|hr
     ·have:=(Array.getElem?_eq_some_iff.1 hr).1;omega
     ·omega
    ·rw[Nat.max_eq_left h]at hsz
     omega
   rw[Array.getElem?_eq_none (Nat.le_of_not_lt hk),Array.getElem?_eq_none this]
theorem Only.allocW(W:World){o:Obj}(hc:o.isCells=false):Only [] W.heap (W.alloc o).heap:=
 ⟨by simp,fun b hb _=>Below.heap_alloc W o b hb,FzK.alloc W hc⟩
theorem Only.putW{W:World}{l:Nat}{o:Obj}(o':Obj)(hl:W.heap[l]? =some o)(hc:o.isCells=false)(hc':o'.isCells=false):Only [l] W.heap (W.putObj l o').heap:=
 ⟨by simp,fun b _ hS=>World.putObj_heap_other (fun e=>hS (by simp[e])),FzK.put o' hl hc hc'⟩
theorem stL_mono{a:Addr}{K K':Heap→Prop}: ∀(cs:List Value) (i:Nat) (h:Heap),stL a i cs h K→(∀h',K h'→K' h')→stL a i cs h K':=by
 intro cs
 induction cs with
 |nil=>intro i h H hK;unfold stL at H ⊢;exact hK h H
 |cons v vs ih=>
  intro i h H hK
  unfold stL stK at H ⊢
  cases hv:v.oneCell' with
  |false=>rw[hv]at H;exact H
  |true=>rw[hv]at H;exact⟨H.1,H.2.1,ih _ _ H.2.2 hK⟩
def AbidesZ(B:Nat)(J:List Int→World→Prop):Prop:=
 ∀s W W' row,J s W→W.grownBy W' row→FzK W W'→(∀r,row=some r→B≤r∧ ∃o:Obj,W.heap[r]? =some o∧o.isWalk=true)→J s W'
theorem grown_only{W W':World}{row:Option Nat}(hg:W.grownBy W' row)(hf:FzK W W'):Only row.toList W.heap W'.heap:=
 ⟨hg.size,fun b hb hS=>hg.block b hb (fun e=>hS (by rw[←e];simp)),hf⟩
theorem grown_same{W W':World}{row:Option Nat}(hg:W.grownBy W' row):W'.os=W.os∧W'.tape=W.tape∧W'.output=W.output:=by
 obtain⟨a,b,c,-⟩:=hg
 constructor<;>(try constructor)<;>assumption
theorem appK_mono{h:Heap}{e:TypeId}{sz by_:Nat}{z:Array Value}{p q:Option Addr}{l c m:Nat}{K K':Option Addr→Nat→Nat→Heap→Prop}(H:appK h e sz by_ z p l c q m K)
  (hK: ∀p' l' c' h',K p' l' c' h'→K' p' l' c' h'):appK h e sz by_ z p l c q m K':=by
 obtain⟨new,a1,a2,a3,a4⟩:=H
 refine⟨new,a1,a2,fun hle=> ?_,fun hlt=> ?_⟩
 ·have:=a3 hle
  cases p with
  |none=>exact⟨this.1,hK _ _ _ _ this.2⟩
  |some ad=>exact stL_mono _ _ _ this fun h' hk=>hK _ _ _ _ hk
 ·obtain⟨old,b1,b2,b3,b4⟩:=a4 hlt
  exact⟨old,b1,b2,b3,fun cap hc=>hK _ _ _ _ (b4 cap hc)⟩
theorem wpListIn_app{F:Fence}{n:Nat}{P:Program}(w:World){ops:Array Oper}{rest:List Oper}{o:Oper}{a:Act}{Q:Exit→Act→World→Prop}(hg:o.guard=none)(x y:Operand)(t:TypeId)
  (ho:o.op= .call {callee:= .builtin .append,args:= #[x,y],argTypes:= #[t,t]}) {e:TypeId} {sz by_:Nat} {z:Array Value} {p q:Option Addr} {l c m c':Nat}
  (ht:P.underlying t=some (.slice e)) (hs:sizeB P e=some (sz,by_,z)) (hby:1≤by_) (hx:a.eval x= .slice p l c) (hy:a.eval y= .slice q m c')
  {K:Option Addr→Nat→Nat→Heap→Prop} (H:appK w.heap e sz by_ z p l c q m K)
  (h: ∀p' l' c' w',Same w w'→K p' l' c' w'.heap→wpListIn F n P ops Q rest (a.put o.dst (.slice p' l' c')) w'):wpListIn F n P ops Q (o::rest) a w:=by
 refine wpListIn_plain hg fun K' hK'=> ?_
 obtain⟨v,w',hr,hsame,⟨p',l',c',hv,hk⟩⟩:=appK_sound (P:=P) (ty:=o.type) (c':=c') (K:=fun v h=> ∃p' l' c',v= .slice p' l' c'∧K p' l' c' h) ht ⟨e,ht⟩ hs hby
  (appK_mono H fun p' l' c' h' hk=>⟨p',l',c',rfl,hk⟩) w rfl
 unfold Oper.wpIn
 refine⟨by simp[Oper.about,ho,resolve,Target.leads,Sem.run_pure],?_⟩
 rw[Oper.semAt_plain F _ _ (by rw[ho];intro c hc';cases hc')]
 simp[execOp,ho,resolve,invoke,builtin,hx,hy,hr,Result.andThen]
 subst hv
 exact hK' _ _ (h _ _ _ _ hsame hk)
end
section
open Go Go.RowKit Go.Maps
theorem u46:Tryz.prog.underlying 46=some (.int .u32):=by kernel_rfl
theorem u204:Tryz.prog.underlying 204=some (.map 46 3):=by kernel_rfl
theorem u56:Tryz.prog.underlying 56=some (.slice 46):=by kernel_rfl
set_option maxRecDepth 100000 in
set_option maxHeartbeats 2000000 in
theorem keysN{F:Fence}{n:Nat}(h66:F.fn 293)(hro:F.round=none)(hn:1≤n)(l Bm b nn:Nat)(D0:DataW Unit)(J:List Int→World→Prop)
  (hY: ∀pre x W,J pre W→pre.length<Maps.size D0→YieldAt F (n-1) Tryz.prog l #[.int .u32 x] W fun e W'=>e= .returned (.bool true)∧J (pre++[x]) W'∧KeepsWalks W W')
  (W:World) (hJ:AbidesZ W.heap.size J) (hm:W.cell? ⟨Bm,0,none⟩=some (.map (some b))) (hown:W.ownsMap Tryz.prog 46 anyRd b nn D0) (h0:J [] W):
  CallsIn F n Tryz.prog 293 #[.func (.yield l) #[] #[],.pointer (some ⟨Bm,0,none⟩)] W fun e W'=>(∃v,e= .returned v)∧ ∃ss:List Int,J ss W'∧ ∃left,CollI .u32 D0 left ss∧ ∀kl,left kl=false:=by
 refine callsIn_of_wp Tryz.func293 rfl h66 ?_ hro
 simp only[Tryz.ntmps293,List.size_toArray,List.length_cons,List.length_nil,Nat.reduceAdd,Nat.reduceSub,Array.replicate_succ,Array.replicate_zero,List.push_toArray,List.append_toArray,List.nil_append,List.cons_append]
 gi_wp2_with (first
  |(gi_at_range;refine wpListIn_range_own _ rfl _ 204 rfl 46 3 (int_keyed u46) u204 _ b nn _ rfl hown ?_;intro w0 hrg0 hg0 hs0)
  |gi_in)
 go_frame
 gi_loopw [3] (fun _ wr=> ∃(left:Lit→Bool) (cnt:Nat) (ss:List Int),wr.ranges Tryz.prog 46 anyRd b W.heap.size nn D0 left cnt∧ss.length+cnt≤Maps.size D0∧CollI .u32 D0 left ss∧J ss wr)
  (fun _ wr=>wr.rangeLeft b W.heap.size)
 case atStart=>
  have hf0:FzK W w0:=by
   obtain⟨es,clock,since,seen,c0,_,_,_,_,hr,_⟩:=hrg0
   exact FzK.one (r:=W.heap.size) (o:= .mapIter none 0 #[] 0) (fun k hk _=>hg0.block k hk (by simp)) (.inr rfl) (fun _=>rfl) hr rfl (by omega)
  exact⟨_,_,[],hrg0,by simp,CollI.start .u32 D0,hJ [] W w0 none h0 hg0 hf0 (fun r e=>by cases e)⟩
 case round=>
  obtain⟨left,cnt,ss,hrg,hcs,hC,hJs⟩:=hrel
  gi_wp2_with (first
   |(gi_at_next;refine wpListIn_next_ranges _ rfl _ rfl 46 (int_keyed u46) anyRd (Value.int .u32) (fun v:Value=>v) (fun key kl hk=>by obtain⟨x,hx,_⟩:=Maps.keyOf_int_inv u46 hk;exact⟨x,hx⟩) (fun v y hv=>⟨v,rfl⟩) b W.heap.size nn _ _ _ rfl hrg ?_ ?_)
   |gi_in)
  ·intro hc0 hl0
   gi_wp2
   go_end0
   exact⟨⟨_,rfl⟩,ss,hJs,left,hC,hl0⟩
  ·intro x c kl yd yp w2 cnt2 hkey hlk hv hat hrg2 hlt hg2 hs2 hen
   obtain⟨x',ex,rfl,_⟩:=Maps.keyOf_int_inv u46 hkey
   cases ex
   have hf2:FzK wr w2:=by
    obtain⟨es,clock,since,seen,c0,_,_,_,_,hr,_⟩:=hrg
    obtain⟨es',clock',since',seen',c0',_,_,_,_,hr',_⟩:=hrg2
    exact FzK.one (r:=W.heap.size) (o:= .mapIter (some b) since seen c0) (fun k hk hne=>hg2.block k hk (by simpa using hne)) (.inl hr) (fun _=>rfl) hr' rfl (by omega)
   have hJ2:J ss w2:=hJ ss wr w2 (some W.heap.size) hJs hg2 hf2 (fun r e=>by cases e;exact⟨Nat.le_refl _,hrg.iter_walk⟩)
   obtain⟨fn,tmps,assign,body,hy,hR⟩:=hY ss x w2 hJ2 (by omega)
   clear hs2 hf2
   gi_wp2
   refine hR.mono ?_
   rintro e W3 ⟨rfl,hJ3,hk3⟩
   gi_wp2
   have hrg3:=hrg2.of_walks hk3
   go_roundw
   case rel=>exact⟨_,cnt2,ss++[x],hrg3,by simp;omega,hC.step hlk hat,hJ3⟩
   case measure=>rw[hrg3.left_eq,hrg.left_eq];exact hlt
end
section
open Go Go.RowKit Go.Maps
def pickC:Code→Option (Code×Code)
 | .seq a b=>(pickC a).or (pickC b)
 | .block _ c=>pickC c
 | .rangeFunc _ _ a b=>some (a,b)
 |_=>none
noncomputable def apAssign:Code:=((Tryz.f292.body.bind pickC).map (·.1)).getD .skip
noncomputable def apBody:Code:=((Tryz.f292.body.bind pickC).map (·.2)).getD .skip
noncomputable def apRec(fn:FuncId)(sv:Value)(Bs D:Nat)(st:LoopState)(pend:Option Code):Loop:=
 {state:=st,pending:=pend,fn,tmps:= #[.slice none 0 0,sv,.pointer (some ⟨Bs,0,none⟩),undef,.slice none 0 0,undef,sv,undef,undef,undef,undef,undef,undef],params:= #[7],assign:=apAssign,body:=apBody,defers:=D}
structure ApAt(w0:World)(fn:FuncId)(sv:Value)(Bs l D:Nat)(ss:List Int)(W:World):Prop where
 box: ∃p c,At W.heap Bs [.slice p ss.length c]∧Own W.heap (Bs+1) 1 p ss.length c (ss.map (Value.int .u32))
 L:W.heap[l]? =some (.loop (apRec fn sv Bs D .ready none))
 K:W.heap[D]? =some (.deferred (some []))
 only:Only [] w0.heap W.heap
 same:Same w0 W
theorem At.notWalk{h:Heap}{b r:Nat}{c:List Value}(A:At h b c)(hr: ∃o:Obj,h[r]? =some o∧o.isWalk=true):b≠r:=by
 obtain⟨e,A⟩:=A
 obtain⟨o,hr,hw⟩:=hr
 intro e'
 subst e'
 rw[A]at hr
 cases hr
 cases hw
theorem Same.of_grown{W W':World}{row:Option Nat}(hg:W.grownBy W' row):Same W W':=grown_same hg
theorem ap_abides(w0:World)(fn:FuncId)(sv:Value)(Bs l D B:Nat)(hB:w0.heap.size≤B):AbidesZ B (ApAt w0 fn sv Bs l D):=fun s W W' row h hg hf hrow=>by
 have hrow': ∀r,row=some r→ ∃o:Obj,W.heap[r]? =some o∧o.isWalk=true:=fun r e=>(hrow r e).2
 have O:=grown_only hg hf
 have hno: ∀b,(∃c,At W.heap b c)→b∉row.toList:=fun b ⟨c,A⟩ hb=>by
  cases row with
  |none=>simp at hb
  |some r=>simp at hb;exact A.notWalk (hrow' r rfl) hb
 obtain⟨p,c,A,H⟩:=h.box
 exact⟨⟨p,c,A.only O (hno _ ⟨_,A⟩),H.onlyC O fun b _ hc=>hno b hc⟩,(grownBy_keeps hg hrow' h.L rfl).trans h.L,(grownBy_keeps hg hrow' h.K rfl).trans h.K,
  h.only.trans O (fun b hb hlt=>by
   cases row with
   |none=>simp at hb
   |some r=>
    simp at hb
    have:=(hrow r rfl).1
    omega),h.same.trans (Same.of_grown hg)⟩
theorem keeps_only{S:List Nat}{W W':World}(O:Only S W.heap W'.heap)(h: ∀r∈S,∀o:Obj,W.heap[r]? =some o→o.isWalk=false):KeepsWalks W W':=
 ⟨O.size,fun k o hk ho=>(O.same k (Array.getElem?_eq_some_iff.1 hk).1 (fun hS=>by rw[h k hS o hk]at ho;cases ho)).trans hk⟩
theorem At.ne_obj{h:Heap}{b r:Nat}{c:List Value}(A:At h b c){o:Obj}(hr:h[r]? =some o)(ho:o.isCells=false):b≠r:=by
 obtain⟨e,A⟩:=A
 intro e'
 subst e'
 rw[A]at hr
 cases hr
 cases ho
theorem At.walkF{h:Heap}{b:Nat}{c:List Value}(A:At h b c): ∀o:Obj,h[b]? =some o→o.isWalk=false:=by
 obtain⟨e,A⟩:=A
 intro o ho
 rw[A]at ho
 cases ho
 rfl
theorem sB46:sizeB Tryz.prog 46=some (1,4,#[.int .u32 0]):=by kernel_rfl
set_option maxRecDepth 100000 in
set_option maxHeartbeats 2000000 in
theorem apYield{F:Fence}{m:Nat}(w0:World)(fn:FuncId)(hfn:F.fn fn)(sv:Value)(Bs l D:Nat)(hBl:Bs≠l)(hDl:D≠l)(hDB:D≠Bs)(h0B:w0.heap.size≤Bs)(h0l:w0.heap.size≤l)
  (N:Nat) (hN:N*4≤140737488355328) (ss:List Int) (x:Int) (W:World) (h:ApAt w0 fn sv Bs l D ss W) (hlen:ss.length<N):
  YieldAt F m Tryz.prog l #[.int .u32 x] W fun e W'=>e= .returned (.bool true)∧ApAt w0 fn sv Bs l D (ss++[x]) W'∧KeepsWalks W W':=by
 obtain⟨p,c,A,H⟩:=h.box
 refine⟨fn,#[.slice none 0 0,sv,.pointer (some ⟨Bs,0,none⟩),undef,.slice none 0 0,undef,sv,.int .u32 x,undef,undef,undef,undef,undef],apAssign,apBody,by simpa[apRec]using run_yield (P:=Tryz.prog) (args:= #[.int .u32 x]) h.L rfl,roundIn_of_wpIn hfn ?_⟩
 have hl:l<W.heap.size:=(Array.getElem?_eq_some_iff.1 h.L).1
 have hbr:=run_beginRound (P:=Tryz.prog) h.L rfl
 obtain⟨W2,hW2⟩: ∃W2,W.putObj l (.loop {apRec fn sv Bs D .ready none with state:= .busy})=W2:=⟨_,rfl⟩
 rw[hW2]at hbr
 have hnl: ∀b,(∃c,At W.heap b c)→b∉[l]:=fun b ⟨c,A⟩ hb=>A.ne_obj h.L rfl (by simpa using hb)
 have O2:Only [l] W.heap W2.heap:=by rw[←hW2];exact Only.putW _ h.L rfl rfl
 have A2:At W2.heap Bs [.slice p ss.length c]:=A.only O2 (hnl _ ⟨_,A⟩)
 have H2:=H.onlyC O2 fun b _ hc=>hnl b hc
 have hK2:W2.heap[D]? =some (.deferred (some [])):=by rw[←hW2];exact(World.putObj_heap_other hDl).trans h.K
 have hL2:W2.heap[l]? =some (.loop {apRec fn sv Bs D .ready none with state:= .busy}):=by rw[←hW2];exact World.putObj_heap_same hl
 have S2:Same W W2:=by rw[←hW2];exact⟨rfl,rfl,rfl⟩
 have hc2:W2.cell? ⟨Bs,0,none⟩=some (.slice p ss.length c):=A2.rd 0
 have hf2:W2.frozen? ⟨Bs,0,none⟩=false:=A2.fz 0 none
 have A3:At (W2.alloc (.cells #[.int .u32 x] 46)).heap W2.heap.size [.int .u32 x]:=At.push _ _ _
 have O3:Only [] W2.heap (W2.alloc (.cells #[.int .u32 x] 46)).heap:=Only.push_cells _ _ _
 have H3:=H2.onlyC O3 fun b _ _=>by simp
 have A3':=A2.only O3 (by simp)
 have hBlt:=A2.lt
 have hz3:=O3.size
 clear hW2
 simp only[apAssign,Tryz.f292,pickC,Option.bind_some,Option.map_some,Option.getD_some,Option.none_or,Option.some_or]
 gi_wp2_with (rw[Oper.semAt_eq _ _ _ (fun c h=>by cases h)];go_simp;try go_bits)
 simp only[apBody,Tryz.f292,pickC,Option.bind_some,Option.map_some,Option.getD_some,Option.none_or,Option.some_or]
 gi_wp2_with (first
  |(gi_at_builtin;refine wpListIn_app _ rfl _ _ 56 rfl u56 sB46 (by decide) rfl rfl (own_app (K:=fun p' l' c' h'=>l'=ss.length+1∧Own h' (Bs+1) 1 p' (ss.length+1) c' (ss.map (Value.int .u32)++[Value.int .u32 x])∧Only (OwnB p) (W2.alloc (.cells #[.int .u32 x] 46)).heap h'∧ ∀b∈OwnB p',b∈OwnB p∨(W2.alloc (.cells #[.int .u32 x] 46)).heap.size≤b) H3 A3 rfl rfl (by omega) (by simp[Value.oneCell']) (by omega) fun p' c' h' a b c=>⟨rfl,a,b,c⟩) ?_;rintro p' l' c' w3 S3 ⟨rfl,H4,O4,hp'⟩
    have hnB:Bs∉OwnB p:=fun hb=>by have:=H2.lt Bs hb;omega
    have A4:=A3'.only O4 hnB
    have hc3:w3.cell? ⟨Bs,0,none⟩=some (.slice p ss.length c):=A4.rd 0
    have hf3:w3.frozen? ⟨Bs,0,none⟩=false:=A4.fz 0 none
    go_frame)
  |(rw[Oper.semAt_eq _ _ _ (fun c h=>by cases h)];go_simp;try go_bits))
 have hlB:l∉OwnB p:=fun hb=>by obtain⟨c,A⟩:=H3.cells l hb;exact A.ne_obj ((Below.heap_alloc _ _ l (Array.getElem?_eq_some_iff.1 hL2).1).trans hL2) rfl rfl
 have hDB':D∉OwnB p:=fun hb=>by obtain⟨c,A⟩:=H3.cells D hb;exact A.ne_obj ((Below.heap_alloc _ _ D (Array.getElem?_eq_some_iff.1 hK2).1).trans hK2) rfl rfl
 have hL3:w3.heap[l]? =some (.loop {apRec fn sv Bs D .ready none with state:= .busy}):=(O4.same l (Nat.lt_of_lt_of_le (Array.getElem?_eq_some_iff.1 hL2).1 hz3) hlB).trans ((O3.same l (Array.getElem?_eq_some_iff.1 hL2).1 (by simp)).trans hL2)
 have hK3:w3.heap[D]? =some (.deferred (some [])):=(O4.same D (Nat.lt_of_lt_of_le (Array.getElem?_eq_some_iff.1 hK2).1 hz3) hDB').trans ((O3.same D (Array.getElem?_eq_some_iff.1 hK2).1 (by simp)).trans hK2)
 obtain⟨w4,hw4⟩: ∃w4,w3.setCell ⟨Bs,0,none⟩ (.slice p' (ss.length+1) c')=w4:=⟨_,rfl⟩
 rw[hw4]
 have O5:Only [Bs] w3.heap w4.heap:=by rw[←hw4];exact Only.wr w3.heap ⟨Bs,0,none⟩ _
 have A5:At w4.heap Bs [.slice p' (ss.length+1) c']:=by rw[←hw4];exact A4.wr 0 _
 have S4:Same w3 w4:=by rw[←hw4];exact⟨rfl,rfl,rfl⟩
 have hL4:w4.heap[l]? =some (.loop {apRec fn sv Bs D .ready none with state:= .busy}):=(O5.same l (Array.getElem?_eq_some_iff.1 hL3).1 (by simpa using Ne.symm hBl)).trans hL3
 have hK4:w4.heap[D]? =some (.deferred (some [])):=(O5.same D (Array.getElem?_eq_some_iff.1 hK3).1 (by simpa using hDB)).trans hK3
 have H5:=H4.onlyC O5 fun b hb _ hbB=>by
  simp at hbB
  subst hbB
  have:=H4.lt b hb
  omega
 clear hw4
 have O6:Only [l] w4.heap (w4.putObj l (.loop {{apRec fn sv Bs D .ready none with state:= .busy}with state:=if(none:Option Code).isNone then .ready else .done,pending:=none})).heap:=Only.putW _ hL4 rfl rfl
 have hnl4: ∀b,(∃c,At w4.heap b c)→b∉[l]:=fun b ⟨c,A⟩ hb=>A.ne_obj hL4 rfl (by simpa using hb)
 have OO:Only (l::Bs::OwnB p) W.heap (w4.putObj l (.loop {{apRec fn sv Bs D .ready none with state:= .busy}with state:=if(none:Option Code).isNone then .ready else .done,pending:=none})).heap:=by
  refine(((((O2.mono (T:=l::Bs::OwnB p) (by simp+contextual)).trans O3 (by simp)).trans O4 (by simp+contextual)).trans O5 (by simp+contextual)).trans O6 (by simp+contextual))
 refine⟨_,_,run_endRound none hL4,rfl,⟨⟨p',c',?_,?_⟩,World.putObj_heap_same (Array.getElem?_eq_some_iff.1 hL4).1,(World.putObj_heap_other hDl).trans hK4,h.only.trans OO ?_,?_⟩,keeps_only OO ?_⟩
 ·rw[List.length_append,List.length_singleton]
  exact A5.only O6 (hnl4 _ ⟨_,A5⟩)
 ·rw[List.length_append,List.length_singleton,List.map_append,List.map_singleton]
  exact H5.onlyC O6 fun b _ hc=>hnl4 b hc
 ·intro b hb hlt
  rcases List.mem_cons.1 hb with rfl|hb
  ·omega
  ·rcases List.mem_cons.1 hb with rfl|hb
   ·omega
   ·have:=H.lt b hb
    omega
 ·exact((((h.same.trans S2).trans ⟨rfl,rfl,rfl⟩).trans S3).trans S4).trans ⟨rfl,rfl,rfl⟩
 ·intro r hr o ho
  rcases List.mem_cons.1 hr with rfl|hr
  ·rw[h.L]at ho;cases ho;rfl
  ·rcases List.mem_cons.1 hr with rfl|hr
   ·exact A.walkF o ho
   ·obtain⟨c,A'⟩:=H.cells r hr
    exact A'.walkF o ho
end
section
open Go Go.RowKit Go.Maps Go.Shelf
set_option maxRecDepth 100000 in
set_option maxHeartbeats 2000000 in
theorem appSeq_in{F:Fence}{n:Nat}(h65:F.fn 292)(h66:F.fn 293)(hro:F.round=none)(hn:2≤n)(Bm b:Nat)(m:List (Int×Value))(w:World)(A:At w.heap Bm [.map (some b)])(M:MapM w.heap b .u32 m)
  (hwf: ∀x∈m.map (·.1),(Lit.int .u32 x).wf=true) (hsz:m.length*4≤140737488355328):
  CallsIn F n Tryz.prog 292 #[.slice none 0 0,.func (.func 293) #[] #[.pointer (some ⟨Bm,0,none⟩)]] w fun e w'=> ∃(p:Option Addr) (c:Nat) (ss:List Int),e= .returned (.slice p ss.length c)∧ss.Perm (m.map (·.1))∧
   Own w'.heap (w.heap.size+1) 1 p ss.length c (ss.map (Value.int .u32))∧Only [] w.heap w'.heap∧Same w w':=by
 have h1:1≤n:=by omega
 have hnd:(m.map (·.1)).Nodup:=by obtain⟨_,_,_,_,h,_⟩:=M;exact h
 have eg: ∀args w,(callFunc 293 args).run Tryz.prog w= .ok (.enter 293 args) w:=enters_of Tryz.func293 (by kernel_rfl) rfl
 refine callsIn_of_wp_marks Tryz.func292 rfl h65 ?_ hro
 simp only[Tryz.ntmps292,List.size_toArray,List.length_cons,List.length_nil,Nat.reduceAdd,Nat.reduceSub,Array.replicate_succ,Array.replicate_zero,List.push_toArray,List.append_toArray,List.nil_append,List.cons_append]
 gi_wp2
 refine wpIn_rangeFunc ?_
 intro fn hfn
 rw[hro]
 obtain⟨W0,hW0⟩: ∃W0,w.alloc (.cells #[.slice none 0 0] 56)=W0:=⟨_,rfl⟩
 have hs0:W0.heap.size=w.heap.size+1:=by rw[←hW0];simp
 have O0:Only [] w.heap W0.heap:=by rw[←hW0];exact Only.push_cells _ _ _
 have A0:At W0.heap w.heap.size [.slice none 0 0]:=by rw[←hW0];exact At.push _ _ _
 have S0:Same w W0:=by rw[←hW0];exact⟨rfl,rfl,rfl⟩
 rw[hW0]
 obtain⟨W1,hW1⟩: ∃W1,(W0.alloc (.deferred (some []))).alloc (.loop (apRec fn (.func (.func 293) #[] #[.pointer (some ⟨Bm,0,none⟩)]) w.heap.size W0.heap.size .ready none))=W1:=⟨_,rfl⟩
 have O1:Only [] W0.heap W1.heap:=by rw[←hW1];exact(Only.allocW W0 rfl).trans (Only.allocW _ rfl) (by simp)
 have hs1:W1.heap.size=W0.heap.size+2:=by rw[←hW1];simp
 have S1:Same W0 W1:=by rw[←hW1];exact⟨rfl,rfl,rfl⟩
 have OW:=O0.trans O1 (by simp)
 have hM:ApAt w fn (.func (.func 293) #[] #[.pointer (some ⟨Bm,0,none⟩)]) w.heap.size (W0.heap.size+1) W0.heap.size [] W1:=
  ⟨⟨none,0,A0.only O1 (by simp),Own.nil _ _ _⟩,
   by rw[←hW1];have:=World.alloc_heap_new (W0.alloc (.deferred (some []))) (.loop (apRec fn (.func (.func 293) #[] #[.pointer (some ⟨Bm,0,none⟩)]) w.heap.size W0.heap.size .ready none));rwa[World.size_alloc]at this,
   by rw[←hW1];exact(Below.heap_alloc _ _ _ (by simp)).trans (World.alloc_heap_new W0 _),OW,S0.trans S1⟩
 obtain⟨D0,hown,hD1,hD2⟩:=owns_of u46 (M.only OW (by simp)) hwf (by simp[maxLen];omega)
 refine⟨W0.heap.size+1,[{target:= .collected W0.heap.size,args:= #[]}],W1,{target:= .fn (.func 293) #[.pointer (some ⟨Bm,0,none⟩)],args:= #[.func (.yield (W0.heap.size+1)) #[] #[]]},W1,293,
  #[.func (.yield (W0.heap.size+1)) #[] #[]]++ #[.pointer (some ⟨Bm,0,none⟩)],W1,?_,?_,?_,?_,fun _=>h1,?_⟩
 ·rw[←hW1];exact run_enterLoop_outer _ _ _ _ _
 ·simp[resolve,go_sem]
 ·intro f' hf';simp[Target.leads]at hf';subst hf';exact h66
 ·simp[invoke,go_sem,eg]
 ·refine(keysN (F:=F) (n:=n-1) h66 hro (by omega) (W0.heap.size+1) Bm b m.length D0 (ApAt w fn (.func (.func 293) #[] #[.pointer (some ⟨Bm,0,none⟩)]) w.heap.size (W0.heap.size+1) W0.heap.size)
   (fun pre x W hJ hl=>apYield (F:=F) (m:=n-1-1) w fn hfn _ w.heap.size (W0.heap.size+1) W0.heap.size (by omega) (by omega) (by omega) (Nat.le_refl _) (by omega) m.length hsz pre x W hJ (by omega)) W1 (ap_abides _ _ _ _ _ _ _ (by omega))
   ((A.only OW (by simp)).rd 0) hown hM).mono ?_
  rintro e W2 ⟨⟨v0,rfl⟩,ss,h2,left,hC,hl⟩
  obtain⟨p,c,A2,H2⟩:=h2.box
  have hend:=run_endLoop (P:=Tryz.prog) h2.L (by simp[apRec])
  obtain⟨W3,hW3⟩: ∃W3,W2.putObj (W0.heap.size+1) (.loop {apRec fn (.func (.func 293) #[] #[.pointer (some ⟨Bm,0,none⟩)]) w.heap.size W0.heap.size .ready none with state:= .exhausted})=W3:=⟨_,rfl⟩
  rw[hW3]at hend
  have O3:Only [W0.heap.size+1] W2.heap W3.heap:=by rw[←hW3];exact Only.putW _ h2.L rfl rfl
  have S3:Same W2 W3:=by rw[←hW3];exact⟨rfl,rfl,rfl⟩
  have hnl: ∀b,(∃c,At W2.heap b c)→b∉[W0.heap.size+1]:=fun b ⟨c,A⟩ hb=>A.ne_obj h2.L rfl (by simpa using hb)
  have A3:=A2.only O3 (hnl _ ⟨_,A2⟩)
  have H3:=H2.onlyC O3 fun b _ hc=>hnl b hc
  have hK3:W3.heap[W0.heap.size]? =some (.deferred (some [])):=by rw[←hW3];exact(World.putObj_heap_other (by omega)).trans h2.K
  have hc3:W3.cell? ⟨w.heap.size,0,none⟩=some (.slice p ss.length c):=A3.rd 0
  have hf3:W3.frozen? ⟨w.heap.size,0,none⟩=false:=A3.fz 0 none
  clear hW3
  refine⟨none,W3,hend,?_⟩
  gi_wp2
  rw[←hs0]
  refine⟨by simp,.inl ⟨_,_,rfl,run_takeDeferred hK3,?_⟩⟩
  have O4:Only [W0.heap.size] W3.heap (W3.putObj W0.heap.size (.deferred none)).heap:=Only.putW _ hK3 rfl rfl
  have hF:=H3.onlyC O4 (fun b _ hc hb=>by obtain⟨c,A⟩:=hc;exact A.ne_obj hK3 rfl (by simpa using hb))
  rw[←hs0]at hF
  exact⟨_,results_tmp rfl _ _ _,p,c,ss,rfl,hC.perm hl hnd hD2,hF,
   (h2.only.trans O3 (by intro b hb hlt;simp at hb;omega)).trans O4 (by intro b hb hlt;simp at hb;omega),(h2.same.trans S3).trans ⟨rfl,rfl,rfl⟩⟩
theorem appSeq{h:Heap}{Bm b:Nat}{m:List (Int×Value)}{K:Value→Heap→Prop}(A:At h Bm [.map (some b)])(M:MapM h b .u32 m)
  (hwf: ∀x∈m.map (·.1),(Lit.int .u32 x).wf=true) (hsz:m.length*4≤140737488355328)
  (hK: ∀(p:Option Addr) (c:Nat) (h':Heap) (ss:List Int),ss.Perm (m.map (·.1))→Own h' (h.size+1) 1 p ss.length c (ss.map (Value.int .u32))→Only [] h h'→K (.slice p ss.length c) h'):
  Cl 292 [.slice none 0 0,.func (.func 293) #[] #[.pointer (some ⟨Bm,0,none⟩)]] h K:=fun w hw=>by
 subst hw
 refine((callsIn_wide (n:=2)).1 (appSeq_in (F:=Fence.wide) (n:=2) trivial trivial rfl (by omega) Bm b m w A M hwf hsz)).mono ?_
 rintro e w' ⟨p,c,ss,rfl,h1,h2,h3,h4⟩
 exact⟨_,rfl,h4,hK p c _ ss h1 h2 h3⟩
end
section
def RowQ(h:Heap)(q:Option Addr)(m:Nat)(new:List Value):Prop:=match q with|some b=>isRow h b new|none=>m=0
theorem Own.weak{h:Heap}{lo lo' N:Nat}{p:Option Addr}{l c:Nat}{cs:List Value}(H:Own h lo N p l c cs)(hl:lo'≤lo):Own h lo' N p l c cs:=by
 obtain⟨e,H⟩:=H
 refine⟨e,?_⟩
 rcases H with h|⟨b,sp,h1,h2,h3⟩
 ·exact .inl h
 ·exact .inr ⟨b,sp,h1,by omega,h3⟩
theorem own_appN{h:Heap}{lo by_:Nat}{z:Array Value}{p q:Option Addr}{l c m:Nat}{cs new:List Value}{e:TypeId}{K:Option Addr→Nat→Nat→Heap→Prop}
  (H:Own h lo 1 p l c cs) (hnew:new.length=m) (hq:RowQ h q m new) (hz:z.size=1) (hcap:(l+m)*by_≤140737488355328) (hv: ∀v∈new,v.oneCell'=true) (hlo:lo≤h.size)
  (hK: ∀p' c' h',Own h' lo 1 p' (l+m) c' (cs++new)→Only (OwnB p) h h'→(∀b∈OwnB p',b∈OwnB p∨h.size≤b)→K p' (l+m) c' h'):
  appK h e 1 by_ z p l c q m K:=by
 obtain⟨hlen,H⟩:=H
 refine⟨new,by omega,?_,fun hle=> ?_,fun hlt=>⟨cs,hlen,?_,hcap,fun cap hc=> ?_⟩⟩
 ·cases q with
  |none=>exact hq
  |some b=>exact hq
 ·rcases H with⟨rfl,h0,h1⟩|⟨b,sp,rfl,h2,h3,h4,h5⟩
  ·have hm:m=0:=by omega
   have hn:new=[]:=List.eq_nil_of_length_eq_zero (by omega)
   subst hm
   refine⟨by omega,hK _ _ _ ⟨by simp[hlen,hn],.inl ⟨rfl,by omega,h1⟩⟩ (Only.refl _ _) fun b hb=> .inl hb⟩
  ·show stL ((⟨b,0,none⟩:Addr).add (l*1)) 0 new h _
   rw[add_mk,Nat.zero_add]
   have hsp:m≤sp.length:=by omega
   refine stL_own new 0 _ h h5 (by simp;omega) hv fun h' A' O' z'=>hK _ _ h' ⟨by simp;omega,Or.inr ⟨b,sp.drop m,rfl,h2,hle,?_,?_⟩⟩ O' fun x hx=>Or.inl hx
   ·rw[List.length_drop,h4]
    omega
   ·rw[Nat.add_zero,←hlen,List.take_left,hnew,List.drop_append,List.drop_eq_nil_of_le (by omega:cs.length≤cs.length+m)]at A'
    simpa using A'
 ·rcases H with⟨e,h0,-⟩|⟨b,sp,rfl,-,-,-,h5⟩
  ·subst e
   exact h0
  ·exact isRow_at h5 fun j v hj=>by
    rw[Nat.zero_add,List.getElem?_append_left (List.getElem?_eq_some_iff.1 hj).1]
    exact hj
 ·refine hK _ _ _ ⟨by simp;omega,Or.inr ⟨h.size,(Builtin.zeroCells z (cap-(l+m))).toList,rfl,hlo,hc,by rw[size_zeroCells,hz],?_⟩⟩ ((Only.push_cells h _ e).mono (by simp)) fun x hx=>Or.inr ?_
  ·have:=At.push h (cs.toArray++new.toArray++Builtin.zeroCells z (cap-(l+m))) e
   simpa using this
  ·simp[OwnB]at hx
   omega
theorem Own.row{h:Heap}{lo:Nat}{p:Option Addr}{l c:Nat}{cs:List Value}(H:Own h lo 1 p l c cs):RowQ h p l cs:=by
 obtain⟨e,H⟩:=H
 rcases H with⟨rfl,h0,-⟩|⟨b,sp,rfl,-,-,-,h5⟩
 ·exact h0
 ·exact isRow_at h5 fun j v hj=>by
   rw[Nat.zero_add,List.getElem?_append_left (List.getElem?_eq_some_iff.1 hj).1]
   exact hj
theorem rowV_list(k:IntKind)(xs:List Int):xs.map (Value.int k)=rowV xs.length fun i=> .int k (xs.getD i 0):=by
 apply List.ext_getElem?
 intro i
 by_cases hi:i<xs.length
 ·rw[rowV_get hi]
  simp[List.getD,hi]
 ·rw[List.getElem?_eq_none (by simpa using Nat.le_of_not_lt hi),List.getElem?_eq_none (by rw[rowV_len];omega)]
theorem map_getD(xs:List Int):(List.range xs.length).map (fun i=>xs.getD i 0)=xs:=by
 apply List.ext_getElem?
 intro i
 by_cases hi:i<xs.length
 ·simp[hi,List.getD]
 ·rw[List.getElem?_eq_none (by simpa using Nat.le_of_not_lt hi),List.getElem?_eq_none (by omega)]
theorem rowV_rng(k:IntKind)(n:Nat)(g:Nat→Int):rowV n (fun i=>Value.int k (g i))=((List.range n).map g).map (Value.int k):=by
 unfold rowV
 rw[List.map_map]
 rfl
def catL(L:Nat→List Int)(i:Nat):List Int:=(List.range i).flatMap L
theorem catL_succ(L:Nat→List Int)(i:Nat):catL L (i+1)=catL L i++L i:=by simp[catL,List.range_succ]
theorem mem_catL{L:Nat→List Int}{i:Nat}{x:Int}:x∈catL L i↔ ∃k,k<i∧x∈L k:=by simp[catL]
theorem catL_len{L:Nat→List Int}{N:Nat}: ∀(i:Nat),(∀k,k<i→(L k).length≤N)→(catL L i).length≤i*N:=by
 intro i
 induction i with
 |zero=>intro _;simp[catL]
 |succ i ih=>
  intro h
  rw[catL_succ,List.length_append,Nat.add_mul]
  have:=ih fun k hk=>h k (by omega)
  have:=h i (by omega)
  omega
theorem tidy{h:Heap}{lo:Nat}{p:Option Addr}{c:Nat}{xs:List Int}{K:Value→Heap→Prop}(H:Own h lo 1 p xs.length c (xs.map (Value.int .u32)))(hn12:xs.length≤12)
  (hK: ∀h' (p':Option Addr) c' (R:List Int),R.Pairwise (· < ·)→(∀x,x∈R↔1<x∧x∈xs)→Own h' lo 1 p' R.length c' (R.map (Value.int .u32))→Only (OwnB p) h h'→OwnB p'=OwnB p→K (.slice p' R.length c') h'):
  Cl 260 [.slice p xs.length c] h fun v1 h2=>(v1=(.tuple #[])∧Cl 261 [(.slice p xs.length c)] h2 (fun v3 h4=>ldS (some v3) (fun p5 l6 c7=>Cl 262 [(.slice p5 l6 c7),(.func (.func 263) #[] #[])] h4 (fun v8 h9=>ldS (some v8) (fun p10 l11 c12=>K (.slice p10 l11 c12) h9))))):=by
 have hn:xs.length≤LB/4:=by unfold LB;omega
 rcases H.2 with⟨rfl,h0,h1⟩|⟨b,sp,rfl,h2,h3,h4,h5⟩
 ·have hx:xs=[]:=List.eq_nil_of_length_eq_zero h0
  subst hx
  refine sort260nil ⟨rfl,cmp51nil ?_⟩
  rw[ldS_some]
  refine del52nil ?_
  rw[ldS_some]
  exact hK h none c [] List.Pairwise.nil (fun x=>by simp) ⟨rfl,.inl ⟨rfl,rfl,h1⟩⟩ (Only.refl _ _) rfl
 ·have A:Arr .u32 h b xs.length (fun i=>xs.getD i 0) sp:=by
   unfold Arr
   rw[←rowV_list]
   exact h5
  refine sort260 A hn12 fun h1 g1 A1 R1 S1 O1=>⟨rfl,?_⟩
  refine cmp51 A1 h3 hn R1 fun h2' k g2 sp2 A2 hl2 hk2 up fw bw O2=> ?_
  rw[ldS_some]
  refine del52 A2 (by omega) (by omega) fun h3' k3 g3 sp3 A3 hl3 hk3 e3 O3=> ?_
  rw[ldS_some]
  have hR:((List.range k3).map g3).length=k3:=by simp
  have:=hK h3' (some ⟨b,0,none⟩) c ((List.range k3).map g3) ?_ (fun x=> ?_) ?_ ((O1.trans O2 (by simp[OwnB])).trans O3 (by simp[OwnB])) rfl
  ·rw[hR]at this
   exact this
  ·rw[e3]
   refine List.Pairwise.filter _ ?_
   rw[List.pairwise_map]
   exact(List.pairwise_lt_range (n:=k)).imp_of_mem fun {p q} _ hq hpq=>up p q hpq (List.mem_range.1 hq)
  ·rw[e3,List.mem_filter]
   have P:=S1.perm (n:=xs.length) (Nat.le_refl _)
   rw[map_getD]at P
   have:x∈(List.range k).map g2↔x∈xs:=by
    rw[←P.mem_iff]
    simp only[List.mem_map,List.mem_range]
    constructor
    ·rintro ⟨p,hp,rfl⟩
     obtain⟨q,hq,e⟩:=fw p hp
     exact⟨q,hq,e.symm⟩
    ·rintro ⟨q,hq,rfl⟩
     obtain⟨p,hp,e⟩:=bw q hq
     exact⟨p,hp,e⟩
   rw[this]
   simp only[okR,decide_eq_true_eq]
   exact⟨fun⟨a,b⟩=>⟨b,a⟩,fun⟨a,b⟩=>⟨b,a⟩⟩
  ·rw[hR]
   refine⟨by simp,.inr ⟨b,sp3,rfl,h2,by omega,by omega,?_⟩⟩
   rw[←rowV_rng]
   exact A3
section
variable {lo:Nat}{h h':Heap}{r M S W N:Nat}{f:Int→Int}{p:Nat→Option Addr}{c:Nat→Nat}{L:Nat→List Int}{K:Value→Heap→Prop}
theorem keys49{h:Heap}{M:Nat}{K:Value→Heap→Prop}(hK: ∀h1,At h1 h.size [.map (some M)]→Only [] h h1→h1.size=h.size+1→K (.func (.func 293) #[] #[.pointer (some ⟨h.size,0,none⟩)]) h1):
  Cl 259 [.map (some M)] h K:=by
 refine F259.spec _ h _ ?_
 refine newK_at fun h1 A1 O1 z1=>hK h1 A1 O1 z1
theorem coll48{B:Nat}(H:Rf lo h r M S W N f p c L)(A:At h B [.map (some M)])(hN:N≤LB/64){K:Value→Heap→Prop}
  (hK: ∀(p:Option Addr) (c:Nat) (h':Heap) (ks:List Int),ks.Nodup→(∀x,x∈ks↔f x≠0)→ks.length≤N→Own h' h.size 1 p ks.length c (ks.map (Value.int .u32))→Only [] h h'→K (.slice p ks.length c) h'):
  Cl 258 [.func (.func 293) #[] #[.pointer (some ⟨B,0,none⟩)]] h K:=by
 have hLB:LB=140737488355328:=rfl
 refine F258.spec _ h _ ?_
 obtain⟨m,a,b,d⟩:=H.Mm
 have hmem: ∀x,x∈m.map (·.1)↔f x≠0:=fun x=>by
  have h2:=b x
  by_cases h0:f x=0
  ·rw[if_pos h0,lookup_none]at h2
   exact⟨fun h=>absurd h h2,fun h=>absurd h0 h⟩
  ·rw[if_neg h0]at h2
   refine⟨fun _=>h0,fun _=> ?_⟩
   apply Classical.byContradiction
   intro hn
   rw[lookup_none.2 hn]at h2
   cases h2
 refine appSeq A a (fun x hx=> ?_) (by omega) fun p c h2 ss hp Ow O2=> ?_
 ·have:=H.fx x ((hmem x).1 hx)
  simp only[Lit.wf,decide_eq_true_eq,Bool.and_eq_true]
  exact⟨this.1,this.2⟩
 ·rw[ldS_some]
  have nd:(m.map (·.1)).Nodup:=by obtain⟨_,_,_,_,h,_⟩:=a;exact h
  exact hK p c h2 ss (hp.nodup_iff.2 nd) (fun x=>by rw[hp.mem_iff];exact hmem x) (by rw[hp.length_eq];simpa using d) (Ow.weak (by omega)) O2
theorem roots32(H:Rf lo h r M S W N f p c L)(hN:N≤LB/64)(hW:W≤4)(few: ∀ks:List Int,ks.Nodup→(∀x,x∈ks↔f x≠0)→ks.length+(catL L W).length≤12)
  (hK: ∀h' (p':Option Addr) c' (R:List Int),R.Pairwise (· < ·)→(∀x,x∈R↔1<x∧(f x≠0∨ ∃k,k<W∧x∈L k))→Own h' h.size 1 p' R.length c' (R.map (Value.int .u32))→Only [] h h'→K (.slice p' R.length c') h'):
  Cl 213 [.pointer (some ⟨r,0,none⟩)] h K:=by
 refine F213.spec _ h K ?_
 have hLB:LB=140737488355328:=rfl
 rw[add_mk,H.rd0,ldM_some]
 refine keys49 fun hB AB OB zB=> ?_
 rw[ldV_some]
 refine coll48 (H.new OB) AB hN fun pk ck h1 ks nd hks hkn Ow1 O1=> ?_
 replace Ow1:=Ow1.weak (lo':=h.size) (by omega)
 replace O1:=OB.trans O1 (by simp)
 rw[ldS_some,add_mk,show rd h1 ⟨r,0+1,none⟩=some (.slice (some ⟨S,0,none⟩) W W)from(H.new O1).rd1,ldS_some]
 unfold F213.wk3
 have main: ∀(d i:Nat) (q:Option Addr) (cq:Nat) (h2:Heap),i+d=W→Own h2 h.size 1 q (ks++catL L i).length cq ((ks++catL L i).map (Value.int .u32))→Only [] h h2→
   F213.wL3 (d+1) q (ks++catL L i).length cq (some ⟨S,0,none⟩) W W W i h2 K:=by
  intro d
  induction d with
  |zero=>
   intro i q cq h2 hd Ow O
   rw[F213.sL3]
   rw[show decide ((i:Int)<(W:Int))=false by simp;omega,bcase_false]
   unfold F213.wk7
   have hi:i=W:=by omega
   subst hi
   have hl:=catL_len (L:=L) (N:=N) i H.len
   have:i*N≤4*N:=Nat.mul_le_mul_right _ hW
   refine tidy Ow (by rw[List.length_append];exact few ks nd hks) fun h3 p3 c3 R hR hm Ow3 O3 _=> ?_
   refine hK h3 p3 c3 R hR (fun x=> ?_) Ow3 (O.trans O3 fun b hb hlt=> ?_)
   ·rw[hm x,List.mem_append,hks,mem_catL]
   ·have:=Ow.lt b hb
    omega
  |succ d ih=>
   intro i q cq h2 hd Ow O
   rw[F213.sL3]
   rw[show decide ((i:Int)<(W:Int))=true by simp;omega,bcase_true,ptrK_some]
   refine⟨by omega,by omega,?_⟩
   have H2:=H.new O
   rw[add_mk,show 0+Int.toNat (i:Int)*1=i by omega,H2.rdT (by omega),ldS_some,show IntKind.wrap .i64 ((i:Int)+1)=((i+1:Nat):Int) by rw[wrapN (by omega) (by omega)];omega]
   have Owi:=H2.own i (by omega)
   have hl:=catL_len (L:=L) (N:=N) i fun k hk=>H.len k (by omega)
   have:i*N≤4*N:=Nat.mul_le_mul_right _ (by omega)
   have hli:=H.len i (by omega)
   have hs:=O.size
   refine own_appN (new:=(L i).map (Value.int .u32)) Ow (by simp) Owi.row rfl (by rw[List.length_append];omega) (by simp[Value.oneCell']) hs fun p' c' h3 Ow3 O3 hp3=> ?_
   have e:(ks++catL L i).length+(L i).length=(ks++catL L (i+1)).length:=by rw[catL_succ];simp;omega
   have e2:(ks++catL L i).map (Value.int .u32)++(L i).map (Value.int .u32)=(ks++catL L (i+1)).map (Value.int .u32):=by rw[catL_succ];simp
   rw[e,e2]at Ow3
   rw[e]
   exact ih (i+1) p' c' h3 (by omega) Ow3 (O.trans O3 fun b hb hlt=>by have:=Ow.lt b hb;omega)
 have e0:ks=ks++catL L 0:=by simp[catL]
 refine⟨W+1,?_⟩
 have:=main W 0 pk ck h1 (by omega) (by rw[←e0];exact Ow1) O1
 rw[←e0]at this
 exact this
end
end
section
abbrev hv(a:Nat):Value:= .int .u32 (a:Int)
theorem Own.pop{h:Heap}{lo:Nat}{p:Option Addr}{l c:Nat}{cs:List Value}{v:Value}(H:Own h lo 1 p (l+1) c (cs++[v])):Own h lo 1 p l c cs:=by
 obtain⟨e,H⟩:=H
 rw[List.length_append,List.length_singleton]at e
 refine⟨by omega,?_⟩
 rcases H with⟨-,h0,-⟩|⟨b,sp,h1,h2,h3,h4,h5⟩
 ·omega
 ·exact .inr ⟨b,v::sp,h1,h2,by omega,by simp;omega,by simpa using h5⟩
theorem Own.none_nil{h:Heap}{lo N:Nat}{l c:Nat}{cs:List Value}(H:Own h lo N none l c cs):l=0∧cs=[]:=by
 obtain⟨e,H⟩:=H
 rcases H with⟨-,h0,-⟩|⟨b,sp,h1,-⟩
 ·subst h0
  exact⟨rfl,List.eq_nil_of_length_eq_zero (by omega)⟩
 ·cases h1
theorem clone299{h:Heap}{lo:Nat}{p:Option Addr}{l c:Nat}{cs:List Value}{K:Value→Heap→Prop}(H:Own h lo 1 p l c cs)(hv: ∀v∈cs,v.oneCell'=true)(hl:l≤1000000)
  (hK: ∀p' c' h',Own h' h.size 1 p' l c' cs→Only [] h h'→K (.slice p' l c') h'):Cl 299 [.slice p l c] h K:=by
 apply F299.spec
 refine bcase_of (fun g=> ?_) fun g=> ?_
 ·obtain rfl:p=none:=by simpa using g
  obtain⟨rfl,rfl⟩:=H.none_nil
  exact hK none 0 h (Own.nil _ _ _) (Only.refl _ _)
 ·refine newK_at fun h1 A1 O1 z1=> ?_
  have B:Own h1 h.size 1 (some ⟨h.size,0,none⟩) 0 0 []:=⟨rfl,.inr ⟨h.size,[],rfl,Nat.le_refl _,Nat.le_refl _,rfl,A1⟩⟩
  have HH:=H.only O1 (by simp)
  have hlen:cs.length=l:=by have:=H.1;omega
  refine own_appN (new:=cs) B hlen HH.row rfl (by omega) hv (by omega) fun p' c' h2 W2 O2 hb2=> ?_
  rw[Nat.zero_add]at W2 ⊢
  rw[List.nil_append]at W2
  exact hK p' c' h2 W2 (O1.trans O2 (by intro b hb hl;simp[OwnB]at hb;omega))
def unm(keep:Nat→Bool)(N:List (Option Nd)):Nat:=cntN (retN (fun a=> !keep a) N)
def add1(keep:Nat→Bool)(k a:Nat):Bool:=keep a||a==k
theorem unm_add{keep:Nat→Bool}{N:List (Option Nd)}{k:Nat}{x:Nd}(h2:2≤k)(hx:nd N (k-2)=some x)(hk:keep k=false):unm (add1 keep k) N+1=unm keep N:=by
 have hi:N[k-2]? =some (some x):=nd_some.1 hx
 have hl:=(List.getElem?_eq_some_iff.1 hi).1
 have e:retN (fun a=> !add1 keep k a) N=(retN (fun a=> !keep a) N).set (k-2) none:=by
  apply List.ext_getElem?
  intro i
  rw[List.getElem?_set]
  split
  ·rename_i e
   subst e
   have e1:(!add1 keep k (k-2+2))=false:=by
    unfold add1
    rw[show k-2+2=k by omega]
    simp
   rw[ret_get hi,e1,if_neg (by simp),if_pos (by rw[ret_len];exact hl)]
  ·rename_i e
   cases h:N[i]? with
   |none=>rw[List.getElem?_eq_none,List.getElem?_eq_none]<;>rw[ret_len]<;>exact List.getElem?_eq_none_iff.1 h
   |some o=>
    rw[ret_get h,ret_get h]
    have:(i+2==k)=false:=by simp;omega
    simp[add1,this]
 unfold unm
 rw[e]
 refine cntN_none (x:=x) ?_
 rw[ret_get hi]
 simp[show k-2+2=k by omega,hk]
structure Mk(N:List (Option Nd))(rs:List Nat)(keep:Nat→Bool)(left:List Nat):Prop where
 is: ∀a,keep a=true→2≤a∧isN N a
 li: ∀a∈left,isN N a
 cl: ∀i x,nd N i=some x→keep (i+2)=true→(x.2.1<2∨keep x.2.1=true∨x.2.1∈left)∧(x.2.2<2∨keep x.2.2=true∨x.2.2∈left)
 ro: ∀r∈rs,r<2∨keep r=true∨r∈left
 mi: ∀P:Nat→Prop,(∀r∈rs,P r)→(∀i x,nd N i=some x→P (i+2)→P x.2.1∧P x.2.2)→(∀a,keep a=true→P a)∧ ∀a∈left,P a
theorem Mk.start{N:List (Option Nd)}{rs:List Nat}(h: ∀r∈rs,isN N r):Mk N rs (fun _=>false) rs:=
 ⟨fun a h=>(by cases h),h,fun i x _ h=>(by cases h),fun r hr=> .inr (.inr hr),fun P h1 _=>⟨fun a h=>(by cases h),h1⟩⟩
theorem Mk.skip{N:List (Option Nd)}{rs:List Nat}{keep:Nat→Bool}{left:List Nat}{a:Nat}(M:Mk N rs keep (left++[a]))(ha:a<2∨keep a=true):Mk N rs keep left:=by
 have w: ∀b,b<2∨keep b=true∨b∈left++[a]→b<2∨keep b=true∨b∈left:=fun b hb=>by
  rcases hb with q|q|q
  ·exact .inl q
  ·exact .inr (.inl q)
  ·rcases List.mem_append.1 q with q|q
   ·exact .inr (.inr q)
   ·simp at q
    subst q
    rcases ha with z|z
    ·exact .inl z
    ·exact .inr (.inl z)
 exact⟨M.is,fun b hb=>M.li b (by simp[hb]),fun i x hx hk=>⟨w _ (M.cl i x hx hk).1,w _ (M.cl i x hx hk).2⟩,fun r hr=>w _ (M.ro r hr),fun P h1 h2=>⟨(M.mi P h1 h2).1,fun b hb=>(M.mi P h1 h2).2 b (by simp[hb])⟩⟩
theorem Mk.step{n:Nat}{N:List (Option Nd)}{rs:List Nat}{keep:Nat→Bool}{left:List Nat}{a:Nat}(H:NOk n N)(M:Mk N rs keep (left++[a]))(h2:2≤a):Mk N rs (add1 keep a) (left++[low N a,high N a]):=by
 have ia:isN N a:=M.li a (by simp)
 obtain⟨x,hx⟩: ∃x,nd N (a-2)=some x:=by
  rcases ia with q|q
  ·omega
  ·exact q
 have el:low N a=x.2.1:=by unfold low;rw[if_neg (by omega),hx]
 have eh:high N a=x.2.2:=by unfold high;rw[if_neg (by omega),hx]
 obtain⟨-,n1,n2,-⟩:=H.node _ x hx
 have w: ∀b,b<2∨keep b=true∨b∈left++[a]→b<2∨add1 keep a b=true∨b∈left++[low N a,high N a]:=fun b hb=>by
  rcases hb with q|q|q
  ·exact .inl q
  ·exact .inr (.inl (by simp[add1,q]))
  ·rcases List.mem_append.1 q with q|q
   ·exact .inr (.inr (by simp[q]))
   ·simp at q
    exact .inr (.inl (by simp[add1,q]))
 refine⟨fun b hb=> ?_,fun b hb=> ?_,fun i y hy hk=> ?_,fun r hr=>w _ (M.ro r hr),fun P p1 p2=> ?_⟩
 ·unfold add1 at hb
  rw[Bool.or_eq_true]at hb
  rcases hb with q|q
  ·exact M.is b q
  ·have:b=a:=by simpa using q
   rw[this]
   exact⟨h2,ia⟩
 ·rcases List.mem_append.1 hb with q|q
  ·exact M.li b (by simp[q])
  ·simp at q
   rcases q with q|q
   ·rw[q,el];exact n1
   ·rw[q,eh];exact n2
 ·unfold add1 at hk
  rw[Bool.or_eq_true]at hk
  rcases hk with q|q
  ·exact⟨w _ (M.cl i y hy q).1,w _ (M.cl i y hy q).2⟩
  ·have:i+2=a:=by simpa using q
   have:i=a-2:=by omega
   subst this
   rw[hx]at hy
   injection hy with hy
   subst hy
   exact⟨.inr (.inr (by simp[el])),.inr (.inr (by simp[eh]))⟩
 ·obtain⟨m1,m2⟩:=M.mi P p1 p2
  have pa:=m2 a (by simp)
  have:=p2 (a-2) x hx (by rw[show a-2+2=a by omega];exact pa)
  refine⟨fun b hb=> ?_,fun b hb=> ?_⟩
  ·unfold add1 at hb
   rw[Bool.or_eq_true]at hb
   rcases hb with q|q
   ·exact m1 b q
   ·have:b=a:=by simpa using q
    rw[this]
    exact pa
  ·rcases List.mem_append.1 hb with q|q
   ·exact m2 b (by simp[q])
   ·simp at q
    rcases q with q|q
    ·rw[q,el];exact this.1
    ·rw[q,eh];exact this.2
theorem KpM.add{mo:List (Int×Value)}{keep:Nat→Bool}{k:Nat}(H:KpM mo keep):KpM (mset mo (k:Int) (.agg #[])) (add1 keep k):=fun a=>by
 have e:(a==k)=decide ((a:Int)=(k:Int)):=by
  by_cases h:a=k
  ·simp[h]
  ·rw[decide_eq_false (by omega)]
   simpa using h
 unfold add1
 rw[lookup_mset,e]
 by_cases h:(a:Int)=(k:Int)
 ·rw[if_pos h,decide_eq_true h,Bool.or_true]
  exact⟨fun _=>rfl,fun h=>by cases h⟩
 ·rw[if_neg h,decide_eq_false h,Bool.or_false]
  exact H a
end
section
section
variable {h:Heap}{s:Nat}{L:List Nat}{X:SX}{K:Value→Heap→Prop}
set_option maxRecDepth 100000 in
theorem marks267{lo:Nat}{p:Option Addr}{c:Nat}{rs:List Nat}(H:Sto h s L X)(Hr:Own h lo 1 p rs.length c (rs.map hv))(hr: ∀r∈rs,isN X.N r)(hl:rs.length≤100000)
  (hK: ∀h' mb mo keep,MapM h' mb .u32 mo→KpM mo keep→h.size≤mb→Mk X.N rs keep []→Only [] h h'→K (.tuple #[.map (some mb),.int .i64 0]) h'):
  Cl 267 [.pointer (some ⟨s,0,none⟩),.slice p rs.length c] h K:=by
 apply F267.spec
 refine newK_map4 (k:= .u32) fun h1 M1 O1 z1=> ?_
 unfold F267.wk3
 have H1:=H.only0 O1
 have Hr1:=Hr.only O1 (by simp)
 have nr: ∀r∈rs,r<32770:=fun r hr'=>H.isN_lt (hr r hr')
 have ok:=H.ok
 have lL:=H.lt
 have second: ∀(d:Nat) (h':Heap) (mo:List (Int×Value)) (keep:Nat→Bool) (left:List Nat) (q:Option Addr) (qc:Nat),3*unm keep X.N+left.length<d→Mk X.N rs keep left→KpM mo keep→MapM h' h.size .u32 mo→
   Own h' h1.size 1 q left.length qc (left.map hv)→Only [] h h'→2*unm keep X.N+left.length≤170000→F267.wL10 d ⟨s,0,none⟩ (some h.size) q left.length qc h' K:=by
  intro d
  induction d with
  |zero=>intro h' mo keep left q qc hd;omega
  |succ d ih=>
   intro h' mo keep left q qc hd Mk Kp Mm Ow O cap
   rw[F267.sL10]
   rcases List.eq_nil_or_concat left with e|⟨l0,a,e⟩
   ·subst e
    rw[decide_eq_false (by simp),bcase_false]
    exact hK h' h.size mo keep Mm Kp (Nat.le_refl _) Mk O
   ·rw[List.concat_eq_append]at e
    subst e
    have el:(l0++[a]).length=l0.length+1:=by simp
    rw[el]at Ow hd cap ⊢
    have em:(l0++[a]).map hv=l0.map hv++[hv a]:=by simp
    rw[em]at Ow
    rw[decide_eq_true (by omega),bcase_true]
    obtain⟨b,eb,rr⟩:=Ow.rd (j:=l0.length) (by simp)
    have w1:IntKind.wrap .i64 (((l0.length+1:Nat):Int)-1)=(l0.length:Int):=by rw[wrap_i64 (by omega) (by omega)];omega
    have cap1:l0.length+1≤qc:=by
     rcases Ow.2 with⟨e,-⟩|⟨_,_,_,_,h3,_⟩
     ·rw[eb]at e;cases e
     ·exact h3
    rw[eb,ptrK_some]
    simp only[w1,add_mk,Nat.zero_add]
    refine⟨by omega,by omega,?_⟩
    have ia:=Mk.li a (by simp)
    have ha:=H.isN_lt ia
    refine ldI_of (n:=(a:Int)) (by rw[show Int.toNat (l0.length:Int)*1=l0.length by omega,rr];simp) ⟨by omega,by omega,?_⟩
    rw[←eb,keep_ptr,Nat.sub_zero,Nat.sub_zero,Int.toNat_natCast]
    have Ow0:=Ow.pop
    have tail: ∀(o:Option (Nat×Value)),o.isSome=keep a→(lkV (.agg #[]) o= .agg #[])→ ∀KK:Heap→Prop,(∀k6,Only [] h' k6→bcase (keep a) (F267.wL10 d ⟨s,0,none⟩ (some h.size) q l0.length qc k6 K) (bcase (decide ((a:Int)≤1)) (F267.wL10 d ⟨s,0,none⟩ (some h.size) q l0.length qc k6 K) (KK k6)))→
      ldV (some (lkV (.agg #[]) o)) (fun v4=>newK h' (.cells #[] 218) (fun b5 h6=>storeE Tryz.prog 218 (some (Addr.mk b5 0 none)) v4 h6 (fun h7=>bcase (Option.isSome o) (F267.wL10 d ⟨s,0,none⟩ (some h.size) q l0.length qc h7 K) (bcase (decide ((a:Int)≤1)) (F267.wL10 d ⟨s,0,none⟩ (some h.size) q l0.length qc h7 K) (KK h7))))):=by
     intro o e1 e2 KK hk
     rw[e2]
     refine⟨_,rfl,newK_at fun k6 B6 P6 y6=>store116 ?_⟩
     rw[e1]
     exact hk k6 P6
    have body: ∀k6,Only [] h' k6→bcase (keep a) (F267.wL10 d ⟨s,0,none⟩ (some h.size) q l0.length qc k6 K) (bcase (decide ((a:Int)≤1)) (F267.wL10 d ⟨s,0,none⟩ (some h.size) q l0.length qc k6 K) (F267.wk15 (fun x0 x6 x9p x9l x9c h=>F267.wL10 d x0 x6 x9p x9l x9c h K) ⟨s,0,none⟩ (some h.size) q l0.length qc (a:Int) k6 K)):=by
     intro k6 P6
     have O6:=O.trans P6 (by simp)
     have z6:=P6.size
     have zO:=O.size
     have go:a<2∨keep a=true→F267.wL10 d ⟨s,0,none⟩ (some h.size) q l0.length qc k6 K:=fun hs=>
      ih k6 mo keep l0 q qc (by omega) (Mk.skip hs) Kp (Mm.only P6 (by simp)) (Ow0.only P6 (by simp)) O6 (by omega)
     cases hka:keep a with
     |true=>exact go (.inr hka)
     |false=>
      rw[bcase_false]
      refine bcase_of (fun g=>go (.inl (by have:=of_decide_eq_true g;omega))) fun g=> ?_
      have g: ¬(a:Int)≤1:=of_decide_eq_false g
      have h2:2≤a:=by omega
      obtain⟨x,hx⟩: ∃x,nd X.N (a-2)=some x:=by
       rcases ia with q|q
       ·omega
       ·exact q
      have hu:=unm_add h2 hx hka
      unfold F267.wk15
      refine upd_map (Mm.only P6 (by simp)) fun h7 M7 O7 z7=> ?_
      have O67:Only [] h h7:=O6.trans O7 (by intro b hb hl;simp at hb;omega)
      have H7:=H.only0 O67
      refine sto_low H7 ia (ldI_of rfl (sto_high H7 ia (ldI_of rfl ?_)))
      refine newK_at fun h8 A8 O8 z8=> ?_
      have nb: ∀b,q=some ⟨b,0,none⟩→b∉[h.size]:=fun b e hm=>by
       have:=Ow.lt b (by rw[e];simp[OwnB])
       simp at hm
       omega
      have Ow8:=((Ow0.only P6 (by simp)).only O7 nb).only O8 (by simp)
      refine own_appN (new:=[hv (low X.N a),hv (high X.N a)]) (q:=some ⟨h7.size,0,none⟩) Ow8 rfl (isRow_at A8 (by simp)) rfl (by omega) (by simp[Value.oneCell']) (by omega) fun p' c' h9 W9 O9 hb9=> ?_
      have e9:l0.map hv++[hv (low X.N a),hv (high X.N a)]=(l0++[low X.N a,high X.N a]).map hv:=by simp
      have e10:l0.length+2=(l0++[low X.N a,high X.N a]).length:=by simp
      rw[e9,e10]at W9
      rw[e10]
      have lq: ∀b∈OwnB q,h1.size≤b:=fun b hb=>(Ow.lt b hb).1
      refine ih h9 _ (add1 keep a) _ p' c' (by simp;omega) (Mk.step ok.1 h2) Kp.add ((M7.only O8 (by simp)).only O9 fun hm=>by have:=lq _ hm;omega) W9 ((O67.trans O8 (by simp)).trans O9 fun b hb hl=>by have:=lq b hb;omega) (by simp;omega)
    refine look_map (m:=mo) Mm (fun hn=> ?_) fun j v hv'=> ?_
    ·have k0:keep a=false:=by
      cases hk:keep a with
      |false=>rfl
      |true=>
       rw[(Kp a).1 hk]at hn
       cases hn
     exact tail none (by rw[k0];rfl) rfl _ body
    ·have k1:keep a=true:=by
      cases hk:keep a with
      |true=>rfl
      |false=>
       rw[(Kp a).2 hk]at hv'
       cases hv'
     rw[(Kp a).1 k1]at hv'
     injection hv' with hv'
     subst hv'
     exact tail (some (j,.agg #[])) (by rw[k1];rfl) rfl _ body
 have first: ∀(d i:Nat),i+d=rs.length→F267.wL3 (d+1) ⟨s,0,none⟩ p rs.length c (some h.size) p rs.length c (rs.length:Int) (i:Int) h1 K:=by
  intro d
  induction d with
  |zero=>
   intro i hi
   rw[F267.sL3]
   rw[decide_eq_false (by omega),bcase_false]
   unfold F267.wk9
   refine clone299 Hr1 (by simp[Value.oneCell']) (by omega) fun p' c' h2 W2 O2=>ldS_of rfl ?_
   unfold F267.wk10
   have hu:unm (fun _=>false) X.N≤X.N.length:=by
    have:unm (fun _=>false) X.N≤(retN (fun a=> !(fun _=>false) a) X.N).length:=cntN_le _
    rw[ret_len]at this
    exact this
   exact⟨_,second _ h2 [] (fun _=>false) rs p' c' (Nat.lt_succ_self _) (Mk.start hr) (fun k=>⟨fun h=>(by cases h),fun _=>rfl⟩) (M1.only O2 (by simp)) W2 (O1.trans O2 (by simp)) (by omega)⟩
  |succ d ih=>
   intro i hi
   rw[F267.sL3]
   rw[decide_eq_true (by omega),bcase_true]
   obtain⟨b,eb,rr⟩:=Hr1.rd (j:=i) (by simp;omega)
   rw[eb,ptrK_some,←eb]
   refine⟨by omega,by omega,?_⟩
   rw[add_mk,Nat.zero_add,show Int.toNat (i:Int)*1=i by omega,rr]
   obtain⟨a,ha⟩: ∃a,rs[i]? =some a:=⟨_,List.getElem?_eq_getElem (by omega)⟩
   have hm:=List.mem_of_getElem? ha
   refine ldI_of (n:=(a:Int)) (by simp[ha]) (sto_is1 H1 (hr a hm) (ldB_of rfl ?_))
   rw[Bool.not_true,bcase_false,show IntKind.wrap .i64 ((i:Int)+1)=((i+1:Nat):Int) by rw[wrap_i64 (by omega) (by omega)];omega]
   exact ih (i+1) (by omega)
 exact⟨_,first rs.length 0 (by omega)⟩
theorem collect218(Q':(Nat→Bool)→Int→Int→Prop){lo:Nat}{p:Option Addr}{c:Nat}{rs:List Nat}(H:Sto h s L X)(Hr:Own h lo 1 p rs.length c (rs.map hv))(hr: ∀r∈rs,isN X.N r)(hl:rs.length≤100000)
  (hK: ∀h' L' gone keep,Mk X.N rs keep []→Sto h' s L' {X with N:=retN keep X.N,Q:=Q' keep}→Only L h h'→Fresh L L' h→K (.tuple #[.int .i64 gone,.int .i64 0]) h'):
  Cl 218 [.pointer (some ⟨s,0,none⟩),.slice p rs.length c] h K:=by
 apply F218.spec
 refine marks267 H Hr hr hl fun h1 mb mo keep M1 Kp gm M O1=>⟨_,_,rfl,?_⟩
 rw[show((0:Int) !=0)=false from rfl,bcase_false]
 have cl: ∀i x,nd X.N i=some x→keep (i+2)=true→(x.2.1<2∨keep x.2.1=true)∧(x.2.2<2∨keep x.2.2=true):=fun i x hx hk=>by
  have:=M.cl i x hx hk
  simpa using this
 have z1:=O1.size
 refine sto_retain (Q' keep) (H.only0 O1) M1 Kp (fun hm=>by have:=H.lt mb hm;omega) cl fun h2 L2 gone S2 O2 F2=>ldI_of rfl ?_
 exact hK h2 L2 gone keep M S2 ((O1.mono (by simp)).trans O2 fun b hb _=>hb) fun b hb=>by
  rcases F2 b hb with q|q
  ·exact .inl q
  ·exact .inr (by omega)
end
end
namespace IN
open Go Go.RowKit Go.Maps
theorem uI3:Tryz.prog.underlying 3=some (.int .i64):=by kernel_rfl
theorem u154:Tryz.prog.underlying 154=some (.map 3 167):=by kernel_rfl
theorem u84:Tryz.prog.underlying 84=some (.slice 3):=by kernel_rfl
set_option maxRecDepth 100000 in
set_option maxHeartbeats 2000000 in
theorem keysN{F:Fence}{n:Nat}(h66:F.fn 266)(hro:F.round=none)(hn:1≤n)(l Bm b nn:Nat)(D0:DataW Unit)(J:List Int→World→Prop)
  (hY: ∀pre x W,J pre W→pre.length<Maps.size D0→YieldAt F (n-1) Tryz.prog l #[.int .i64 x] W fun e W'=>e= .returned (.bool true)∧J (pre++[x]) W'∧KeepsWalks W W')
  (W:World) (hJ:AbidesZ W.heap.size J) (hm:W.cell? ⟨Bm,0,none⟩=some (.map (some b))) (hown:W.ownsMap Tryz.prog 3 anyRd b nn D0) (h0:J [] W):
  CallsIn F n Tryz.prog 266 #[.func (.yield l) #[] #[],.pointer (some ⟨Bm,0,none⟩)] W fun e W'=>(∃v,e= .returned v)∧ ∃ss:List Int,J ss W'∧ ∃left,CollI .i64 D0 left ss∧ ∀kl,left kl=false:=by
 refine callsIn_of_wp Tryz.func266 rfl h66 ?_ hro
 simp only[Tryz.ntmps266,List.size_toArray,List.length_cons,List.length_nil,Nat.reduceAdd,Nat.reduceSub,Array.replicate_succ,Array.replicate_zero,List.push_toArray,List.append_toArray,List.nil_append,List.cons_append]
 gi_wp2_with (first
  |(gi_at_range;refine wpListIn_range_own _ rfl _ 154 rfl 3 167 (int_keyed uI3) u154 _ b nn _ rfl hown ?_;intro w0 hrg0 hg0 hs0)
  |gi_in)
 go_frame
 gi_loopw [3] (fun _ wr=> ∃(left:Lit→Bool) (cnt:Nat) (ss:List Int),wr.ranges Tryz.prog 3 anyRd b W.heap.size nn D0 left cnt∧ss.length+cnt≤Maps.size D0∧CollI .i64 D0 left ss∧J ss wr)
  (fun _ wr=>wr.rangeLeft b W.heap.size)
 case atStart=>
  have hf0:FzK W w0:=by
   obtain⟨es,clock,since,seen,c0,_,_,_,_,hr,_⟩:=hrg0
   exact FzK.one (r:=W.heap.size) (o:= .mapIter none 0 #[] 0) (fun k hk _=>hg0.block k hk (by simp)) (.inr rfl) (fun _=>rfl) hr rfl (by omega)
  exact⟨_,_,[],hrg0,by simp,CollI.start .i64 D0,hJ [] W w0 none h0 hg0 hf0 (fun r e=>by cases e)⟩
 case round=>
  obtain⟨left,cnt,ss,hrg,hcs,hC,hJs⟩:=hrel
  gi_wp2_with (first
   |(gi_at_next;refine wpListIn_next_ranges _ rfl _ rfl 3 (int_keyed uI3) anyRd (Value.int .i64) (fun v:Value=>v) (fun key kl hk=>by obtain⟨x,hx,_⟩:=Maps.keyOf_int_inv uI3 hk;exact⟨x,hx⟩) (fun v y hv=>⟨v,rfl⟩) b W.heap.size nn _ _ _ rfl hrg ?_ ?_)
   |gi_in)
  ·intro hc0 hl0
   gi_wp2
   go_end0
   exact⟨⟨_,rfl⟩,ss,hJs,left,hC,hl0⟩
  ·intro x c kl yd yp w2 cnt2 hkey hlk hv hat hrg2 hlt hg2 hs2 hen
   obtain⟨x',ex,rfl,_⟩:=Maps.keyOf_int_inv uI3 hkey
   cases ex
   have hf2:FzK wr w2:=by
    obtain⟨es,clock,since,seen,c0,_,_,_,_,hr,_⟩:=hrg
    obtain⟨es',clock',since',seen',c0',_,_,_,_,hr',_⟩:=hrg2
    exact FzK.one (r:=W.heap.size) (o:= .mapIter (some b) since seen c0) (fun k hk hne=>hg2.block k hk (by simpa using hne)) (.inl hr) (fun _=>rfl) hr' rfl (by omega)
   have hJ2:J ss w2:=hJ ss wr w2 (some W.heap.size) hJs hg2 hf2 (fun r e=>by cases e;exact⟨Nat.le_refl _,hrg.iter_walk⟩)
   obtain⟨fn,tmps,assign,body,hy,hR⟩:=hY ss x w2 hJ2 (by omega)
   clear hs2 hf2
   gi_wp2
   refine hR.mono ?_
   rintro e W3 ⟨rfl,hJ3,hk3⟩
   gi_wp2
   have hrg3:=hrg2.of_walks hk3
   go_roundw
   case rel=>exact⟨_,cnt2,ss++[x],hrg3,by simp;omega,hC.step hlk hat,hJ3⟩
   case measure=>rw[hrg3.left_eq,hrg.left_eq];exact hlt
end IN
namespace IN
open Go Go.RowKit Go.Maps
noncomputable def apAssign:Code:=((Tryz.f297.body.bind pickC).map (·.1)).getD .skip
noncomputable def apBody:Code:=((Tryz.f297.body.bind pickC).map (·.2)).getD .skip
noncomputable def apRec(fn:FuncId)(sv:Value)(Bs D:Nat)(st:LoopState)(pend:Option Code):Loop:=
 {state:=st,pending:=pend,fn,tmps:= #[.slice none 0 0,sv,.pointer (some ⟨Bs,0,none⟩),undef,.slice none 0 0,undef,sv,undef,undef,undef,undef,undef,undef],params:= #[7],assign:=apAssign,body:=apBody,defers:=D}
structure ApAt(w0:World)(fn:FuncId)(sv:Value)(Bs l D:Nat)(ss:List Int)(W:World):Prop where
 box: ∃p c,At W.heap Bs [.slice p ss.length c]∧Own W.heap (Bs+1) 1 p ss.length c (ss.map (Value.int .i64))
 L:W.heap[l]? =some (.loop (apRec fn sv Bs D .ready none))
 K:W.heap[D]? =some (.deferred (some []))
 only:Only [] w0.heap W.heap
 same:Same w0 W
theorem ap_abides(w0:World)(fn:FuncId)(sv:Value)(Bs l D B:Nat)(hB:w0.heap.size≤B):AbidesZ B (ApAt w0 fn sv Bs l D):=fun s W W' row h hg hf hrow=>by
 have hrow': ∀r,row=some r→ ∃o:Obj,W.heap[r]? =some o∧o.isWalk=true:=fun r e=>(hrow r e).2
 have O:=grown_only hg hf
 have hno: ∀b,(∃c,At W.heap b c)→b∉row.toList:=fun b ⟨c,A⟩ hb=>by
  cases row with
  |none=>simp at hb
  |some r=>simp at hb;exact A.notWalk (hrow' r rfl) hb
 obtain⟨p,c,A,H⟩:=h.box
 exact⟨⟨p,c,A.only O (hno _ ⟨_,A⟩),H.onlyC O fun b _ hc=>hno b hc⟩,(grownBy_keeps hg hrow' h.L rfl).trans h.L,(grownBy_keeps hg hrow' h.K rfl).trans h.K,
  h.only.trans O (fun b hb hlt=>by
   cases row with
   |none=>simp at hb
   |some r=>
    simp at hb
    have:=(hrow r rfl).1
    omega),h.same.trans (Same.of_grown hg)⟩
theorem sB3:sizeB Tryz.prog 3=some (1,8,#[.int .i64 0]):=by kernel_rfl
set_option maxRecDepth 100000 in
set_option maxHeartbeats 2000000 in
theorem apYield{F:Fence}{m:Nat}(w0:World)(fn:FuncId)(hfn:F.fn fn)(sv:Value)(Bs l D:Nat)(hBl:Bs≠l)(hDl:D≠l)(hDB:D≠Bs)(h0B:w0.heap.size≤Bs)(h0l:w0.heap.size≤l)
  (N:Nat) (hN:N*8≤140737488355328) (ss:List Int) (x:Int) (W:World) (h:ApAt w0 fn sv Bs l D ss W) (hlen:ss.length<N):
  YieldAt F m Tryz.prog l #[.int .i64 x] W fun e W'=>e= .returned (.bool true)∧ApAt w0 fn sv Bs l D (ss++[x]) W'∧KeepsWalks W W':=by
 obtain⟨p,c,A,H⟩:=h.box
 refine⟨fn,#[.slice none 0 0,sv,.pointer (some ⟨Bs,0,none⟩),undef,.slice none 0 0,undef,sv,.int .i64 x,undef,undef,undef,undef,undef],apAssign,apBody,by simpa[apRec]using run_yield (P:=Tryz.prog) (args:= #[.int .i64 x]) h.L rfl,roundIn_of_wpIn hfn ?_⟩
 have hl:l<W.heap.size:=(Array.getElem?_eq_some_iff.1 h.L).1
 have hbr:=run_beginRound (P:=Tryz.prog) h.L rfl
 obtain⟨W2,hW2⟩: ∃W2,W.putObj l (.loop {apRec fn sv Bs D .ready none with state:= .busy})=W2:=⟨_,rfl⟩
 rw[hW2]at hbr
 have hnl: ∀b,(∃c,At W.heap b c)→b∉[l]:=fun b ⟨c,A⟩ hb=>A.ne_obj h.L rfl (by simpa using hb)
 have O2:Only [l] W.heap W2.heap:=by rw[←hW2];exact Only.putW _ h.L rfl rfl
 have A2:At W2.heap Bs [.slice p ss.length c]:=A.only O2 (hnl _ ⟨_,A⟩)
 have H2:=H.onlyC O2 fun b _ hc=>hnl b hc
 have hK2:W2.heap[D]? =some (.deferred (some [])):=by rw[←hW2];exact(World.putObj_heap_other hDl).trans h.K
 have hL2:W2.heap[l]? =some (.loop {apRec fn sv Bs D .ready none with state:= .busy}):=by rw[←hW2];exact World.putObj_heap_same hl
 have S2:Same W W2:=by rw[←hW2];exact⟨rfl,rfl,rfl⟩
 have hc2:W2.cell? ⟨Bs,0,none⟩=some (.slice p ss.length c):=A2.rd 0
 have hf2:W2.frozen? ⟨Bs,0,none⟩=false:=A2.fz 0 none
 have A3:At (W2.alloc (.cells #[.int .i64 x] 3)).heap W2.heap.size [.int .i64 x]:=At.push _ _ _
 have O3:Only [] W2.heap (W2.alloc (.cells #[.int .i64 x] 3)).heap:=Only.push_cells _ _ _
 have H3:=H2.onlyC O3 fun b _ _=>by simp
 have A3':=A2.only O3 (by simp)
 have hBlt:=A2.lt
 have hz3:=O3.size
 clear hW2
 simp only[apAssign,Tryz.f297,pickC,Option.bind_some,Option.map_some,Option.getD_some,Option.none_or,Option.some_or]
 gi_wp2_with (rw[Oper.semAt_eq _ _ _ (fun c h=>by cases h)];go_simp;try go_bits)
 simp only[apBody,Tryz.f297,pickC,Option.bind_some,Option.map_some,Option.getD_some,Option.none_or,Option.some_or]
 gi_wp2_with (first
  |(gi_at_builtin;refine wpListIn_app _ rfl _ _ 84 rfl u84 sB3 (by decide) rfl rfl (own_app (K:=fun p' l' c' h'=>l'=ss.length+1∧Own h' (Bs+1) 1 p' (ss.length+1) c' (ss.map (Value.int .i64)++[Value.int .i64 x])∧Only (OwnB p) (W2.alloc (.cells #[.int .i64 x] 3)).heap h'∧ ∀b∈OwnB p',b∈OwnB p∨(W2.alloc (.cells #[.int .i64 x] 3)).heap.size≤b) H3 A3 rfl rfl (by omega) (by simp[Value.oneCell']) (by omega) fun p' c' h' a b c=>⟨rfl,a,b,c⟩) ?_;rintro p' l' c' w3 S3 ⟨rfl,H4,O4,hp'⟩
    have hnB:Bs∉OwnB p:=fun hb=>by have:=H2.lt Bs hb;omega
    have A4:=A3'.only O4 hnB
    have hc3:w3.cell? ⟨Bs,0,none⟩=some (.slice p ss.length c):=A4.rd 0
    have hf3:w3.frozen? ⟨Bs,0,none⟩=false:=A4.fz 0 none
    go_frame)
  |(rw[Oper.semAt_eq _ _ _ (fun c h=>by cases h)];go_simp;try go_bits))
 have hlB:l∉OwnB p:=fun hb=>by obtain⟨c,A⟩:=H3.cells l hb;exact A.ne_obj ((Below.heap_alloc _ _ l (Array.getElem?_eq_some_iff.1 hL2).1).trans hL2) rfl rfl
 have hDB':D∉OwnB p:=fun hb=>by obtain⟨c,A⟩:=H3.cells D hb;exact A.ne_obj ((Below.heap_alloc _ _ D (Array.getElem?_eq_some_iff.1 hK2).1).trans hK2) rfl rfl
 have hL3:w3.heap[l]? =some (.loop {apRec fn sv Bs D .ready none with state:= .busy}):=(O4.same l (Nat.lt_of_lt_of_le (Array.getElem?_eq_some_iff.1 hL2).1 hz3) hlB).trans ((O3.same l (Array.getElem?_eq_some_iff.1 hL2).1 (by simp)).trans hL2)
 have hK3:w3.heap[D]? =some (.deferred (some [])):=(O4.same D (Nat.lt_of_lt_of_le (Array.getElem?_eq_some_iff.1 hK2).1 hz3) hDB').trans ((O3.same D (Array.getElem?_eq_some_iff.1 hK2).1 (by simp)).trans hK2)
 obtain⟨w4,hw4⟩: ∃w4,w3.setCell ⟨Bs,0,none⟩ (.slice p' (ss.length+1) c')=w4:=⟨_,rfl⟩
 rw[hw4]
 have O5:Only [Bs] w3.heap w4.heap:=by rw[←hw4];exact Only.wr w3.heap ⟨Bs,0,none⟩ _
 have A5:At w4.heap Bs [.slice p' (ss.length+1) c']:=by rw[←hw4];exact A4.wr 0 _
 have S4:Same w3 w4:=by rw[←hw4];exact⟨rfl,rfl,rfl⟩
 have hL4:w4.heap[l]? =some (.loop {apRec fn sv Bs D .ready none with state:= .busy}):=(O5.same l (Array.getElem?_eq_some_iff.1 hL3).1 (by simpa using Ne.symm hBl)).trans hL3
 have hK4:w4.heap[D]? =some (.deferred (some [])):=(O5.same D (Array.getElem?_eq_some_iff.1 hK3).1 (by simpa using hDB)).trans hK3
 have H5:=H4.onlyC O5 fun b hb _ hbB=>by
  simp at hbB
  subst hbB
  have:=H4.lt b hb
  omega
 clear hw4
 have O6:Only [l] w4.heap (w4.putObj l (.loop {{apRec fn sv Bs D .ready none with state:= .busy}with state:=if(none:Option Code).isNone then .ready else .done,pending:=none})).heap:=Only.putW _ hL4 rfl rfl
 have hnl4: ∀b,(∃c,At w4.heap b c)→b∉[l]:=fun b ⟨c,A⟩ hb=>A.ne_obj hL4 rfl (by simpa using hb)
 have OO:Only (l::Bs::OwnB p) W.heap (w4.putObj l (.loop {{apRec fn sv Bs D .ready none with state:= .busy}with state:=if(none:Option Code).isNone then .ready else .done,pending:=none})).heap:=by
  refine(((((O2.mono (T:=l::Bs::OwnB p) (by simp+contextual)).trans O3 (by simp)).trans O4 (by simp+contextual)).trans O5 (by simp+contextual)).trans O6 (by simp+contextual))
 refine⟨_,_,run_endRound none hL4,rfl,⟨⟨p',c',?_,?_⟩,World.putObj_heap_same (Array.getElem?_eq_some_iff.1 hL4).1,(World.putObj_heap_other hDl).trans hK4,h.only.trans OO ?_,?_⟩,keeps_only OO ?_⟩
 ·rw[List.length_append,List.length_singleton]
  exact A5.only O6 (hnl4 _ ⟨_,A5⟩)
 ·rw[List.length_append,List.length_singleton,List.map_append,List.map_singleton]
  exact H5.onlyC O6 fun b _ hc=>hnl4 b hc
 ·intro b hb hlt
  rcases List.mem_cons.1 hb with rfl|hb
  ·omega
  ·rcases List.mem_cons.1 hb with rfl|hb
   ·omega
   ·have:=H.lt b hb
    omega
 ·exact((((h.same.trans S2).trans ⟨rfl,rfl,rfl⟩).trans S3).trans S4).trans ⟨rfl,rfl,rfl⟩
 ·intro r hr o ho
  rcases List.mem_cons.1 hr with rfl|hr
  ·rw[h.L]at ho;cases ho;rfl
  ·rcases List.mem_cons.1 hr with rfl|hr
   ·exact A.walkF o ho
   ·obtain⟨c,A'⟩:=H.cells r hr
    exact A'.walkF o ho
end IN
namespace IN
open Go Go.RowKit Go.Maps Go.Shelf
set_option maxRecDepth 100000 in
set_option maxHeartbeats 2000000 in
theorem appSeq_in{F:Fence}{n:Nat}(h65:F.fn 297)(h66:F.fn 266)(hro:F.round=none)(hn:2≤n)(Bm b:Nat)(m:List (Int×Value))(w:World)(A:At w.heap Bm [.map (some b)])(M:MapM w.heap b .i64 m)
  (hwf: ∀x∈m.map (·.1),(Lit.int .i64 x).wf=true) (hsz:m.length*8≤140737488355328):
  CallsIn F n Tryz.prog 297 #[.slice none 0 0,.func (.func 266) #[] #[.pointer (some ⟨Bm,0,none⟩)]] w fun e w'=> ∃(p:Option Addr) (c:Nat) (ss:List Int),e= .returned (.slice p ss.length c)∧ss.Perm (m.map (·.1))∧
   Own w'.heap (w.heap.size+1) 1 p ss.length c (ss.map (Value.int .i64))∧Only [] w.heap w'.heap∧Same w w':=by
 have h1:1≤n:=by omega
 have hnd:(m.map (·.1)).Nodup:=by obtain⟨_,_,_,_,h,_⟩:=M;exact h
 have eg: ∀args w,(callFunc 266 args).run Tryz.prog w= .ok (.enter 266 args) w:=enters_of Tryz.func266 (by kernel_rfl) rfl
 refine callsIn_of_wp_marks Tryz.func297 rfl h65 ?_ hro
 simp only[Tryz.ntmps297,List.size_toArray,List.length_cons,List.length_nil,Nat.reduceAdd,Nat.reduceSub,Array.replicate_succ,Array.replicate_zero,List.push_toArray,List.append_toArray,List.nil_append,List.cons_append]
 gi_wp2
 refine wpIn_rangeFunc ?_
 intro fn hfn
 rw[hro]
 obtain⟨W0,hW0⟩: ∃W0,w.alloc (.cells #[.slice none 0 0] 84)=W0:=⟨_,rfl⟩
 have hs0:W0.heap.size=w.heap.size+1:=by rw[←hW0];simp
 have O0:Only [] w.heap W0.heap:=by rw[←hW0];exact Only.push_cells _ _ _
 have A0:At W0.heap w.heap.size [.slice none 0 0]:=by rw[←hW0];exact At.push _ _ _
 have S0:Same w W0:=by rw[←hW0];exact⟨rfl,rfl,rfl⟩
 rw[hW0]
 obtain⟨W1,hW1⟩: ∃W1,(W0.alloc (.deferred (some []))).alloc (.loop (apRec fn (.func (.func 266) #[] #[.pointer (some ⟨Bm,0,none⟩)]) w.heap.size W0.heap.size .ready none))=W1:=⟨_,rfl⟩
 have O1:Only [] W0.heap W1.heap:=by rw[←hW1];exact(Only.allocW W0 rfl).trans (Only.allocW _ rfl) (by simp)
 have hs1:W1.heap.size=W0.heap.size+2:=by rw[←hW1];simp
 have S1:Same W0 W1:=by rw[←hW1];exact⟨rfl,rfl,rfl⟩
 have OW:=O0.trans O1 (by simp)
 have hM:ApAt w fn (.func (.func 266) #[] #[.pointer (some ⟨Bm,0,none⟩)]) w.heap.size (W0.heap.size+1) W0.heap.size [] W1:=
  ⟨⟨none,0,A0.only O1 (by simp),Own.nil _ _ _⟩,
   by rw[←hW1];have:=World.alloc_heap_new (W0.alloc (.deferred (some []))) (.loop (apRec fn (.func (.func 266) #[] #[.pointer (some ⟨Bm,0,none⟩)]) w.heap.size W0.heap.size .ready none));rwa[World.size_alloc]at this,
   by rw[←hW1];exact(Below.heap_alloc _ _ _ (by simp)).trans (World.alloc_heap_new W0 _),OW,S0.trans S1⟩
 obtain⟨D0,hown,hD1,hD2⟩:=owns_of uI3 (M.only OW (by simp)) hwf (by simp[maxLen];omega)
 refine⟨W0.heap.size+1,[{target:= .collected W0.heap.size,args:= #[]}],W1,{target:= .fn (.func 266) #[.pointer (some ⟨Bm,0,none⟩)],args:= #[.func (.yield (W0.heap.size+1)) #[] #[]]},W1,266,
  #[.func (.yield (W0.heap.size+1)) #[] #[]]++ #[.pointer (some ⟨Bm,0,none⟩)],W1,?_,?_,?_,?_,fun _=>h1,?_⟩
 ·rw[←hW1];exact run_enterLoop_outer _ _ _ _ _
 ·simp[resolve,go_sem]
 ·intro f' hf';simp[Target.leads]at hf';subst hf';exact h66
 ·simp[invoke,go_sem,eg]
 ·refine(keysN (F:=F) (n:=n-1) h66 hro (by omega) (W0.heap.size+1) Bm b m.length D0 (ApAt w fn (.func (.func 266) #[] #[.pointer (some ⟨Bm,0,none⟩)]) w.heap.size (W0.heap.size+1) W0.heap.size)
   (fun pre x W hJ hl=>apYield (F:=F) (m:=n-1-1) w fn hfn _ w.heap.size (W0.heap.size+1) W0.heap.size (by omega) (by omega) (by omega) (Nat.le_refl _) (by omega) m.length hsz pre x W hJ (by omega)) W1 (ap_abides _ _ _ _ _ _ _ (by omega))
   ((A.only OW (by simp)).rd 0) hown hM).mono ?_
  rintro e W2 ⟨⟨v0,rfl⟩,ss,h2,left,hC,hl⟩
  obtain⟨p,c,A2,H2⟩:=h2.box
  have hend:=run_endLoop (P:=Tryz.prog) h2.L (by simp[apRec])
  obtain⟨W3,hW3⟩: ∃W3,W2.putObj (W0.heap.size+1) (.loop {apRec fn (.func (.func 266) #[] #[.pointer (some ⟨Bm,0,none⟩)]) w.heap.size W0.heap.size .ready none with state:= .exhausted})=W3:=⟨_,rfl⟩
  rw[hW3]at hend
  have O3:Only [W0.heap.size+1] W2.heap W3.heap:=by rw[←hW3];exact Only.putW _ h2.L rfl rfl
  have S3:Same W2 W3:=by rw[←hW3];exact⟨rfl,rfl,rfl⟩
  have hnl: ∀b,(∃c,At W2.heap b c)→b∉[W0.heap.size+1]:=fun b ⟨c,A⟩ hb=>A.ne_obj h2.L rfl (by simpa using hb)
  have A3:=A2.only O3 (hnl _ ⟨_,A2⟩)
  have H3:=H2.onlyC O3 fun b _ hc=>hnl b hc
  have hK3:W3.heap[W0.heap.size]? =some (.deferred (some [])):=by rw[←hW3];exact(World.putObj_heap_other (by omega)).trans h2.K
  have hc3:W3.cell? ⟨w.heap.size,0,none⟩=some (.slice p ss.length c):=A3.rd 0
  have hf3:W3.frozen? ⟨w.heap.size,0,none⟩=false:=A3.fz 0 none
  clear hW3
  refine⟨none,W3,hend,?_⟩
  gi_wp2
  rw[←hs0]
  refine⟨by simp,.inl ⟨_,_,rfl,run_takeDeferred hK3,?_⟩⟩
  have O4:Only [W0.heap.size] W3.heap (W3.putObj W0.heap.size (.deferred none)).heap:=Only.putW _ hK3 rfl rfl
  have hF:=H3.onlyC O4 (fun b _ hc hb=>by obtain⟨c,A⟩:=hc;exact A.ne_obj hK3 rfl (by simpa using hb))
  rw[←hs0]at hF
  exact⟨_,results_tmp rfl _ _ _,p,c,ss,rfl,hC.perm hl hnd hD2,hF,
   (h2.only.trans O3 (by intro b hb hlt;simp at hb;omega)).trans O4 (by intro b hb hlt;simp at hb;omega),(h2.same.trans S3).trans ⟨rfl,rfl,rfl⟩⟩
theorem appSeq{h:Heap}{Bm b:Nat}{m:List (Int×Value)}{K:Value→Heap→Prop}(A:At h Bm [.map (some b)])(M:MapM h b .i64 m)
  (hwf: ∀x∈m.map (·.1),(Lit.int .i64 x).wf=true) (hsz:m.length*8≤140737488355328)
  (hK: ∀(p:Option Addr) (c:Nat) (h':Heap) (ss:List Int),ss.Perm (m.map (·.1))→Own h' (h.size+1) 1 p ss.length c (ss.map (Value.int .i64))→Only [] h h'→K (.slice p ss.length c) h'):
  Cl 297 [.slice none 0 0,.func (.func 266) #[] #[.pointer (some ⟨Bm,0,none⟩)]] h K:=fun w hw=>by
 subst hw
 refine((callsIn_wide (n:=2)).1 (appSeq_in (F:=Fence.wide) (n:=2) trivial trivial rfl (by omega) Bm b m w A M hwf hsz)).mono ?_
 rintro e w' ⟨p,c,ss,rfl,h1,h2,h3,h4⟩
 exact⟨_,rfl,h4,hK p c _ ss h1 h2 h3⟩
end IN
section
section
variable {h h':Heap}{e s p:Nat}{G:EG}{P:PS}{K:Value→Heap→Prop}
theorem seq0_wf{m:List (Int×Value)}(e:m=[]): ∀x∈m.map (·.1),(Lit.int .i64 x).wf=true:=by
 subst e
 intro x hx
 cases hx
theorem roots173(H:PoolIs h p s P)(hj:P.jobs=[])(hK: ∀h' c,Only [] h h'→K (.slice none 0 c) h'):Cl 173 [ptrV p] h K:=by
 refine F173.spec _ h K ?_
 simp only[add_mk,Nat.zero_add]
 refine⟨_,by rw[At.rd H.own];rfl,?_⟩
 refine F216.spec _ h _ ?_
 refine newK_at fun h1 A1 O1 z1=>⟨_,rfl,?_⟩
 refine F215.spec _ h1 _ ?_
 refine F264.spec _ h1 _ ?_
 have M1:=H.jbm.only O1 (by simp)
 rw[hj]at M1
 refine IN.appSeq A1 M1 (seq0_wf rfl) (by simp) fun q c h2 ss hp Ow O2=>ldS_of rfl ?_
 obtain rfl:ss=[]:=List.eq_nil_of_length_eq_zero (by rw[hp.length_eq];rfl)
 refine ldS_of rfl (sort265 (by simp) ⟨rfl,ldS_of rfl ?_⟩)
 unfold F173.wk3
 refine⟨1,?_⟩
 rw[F173.sL3]
 rw[decide_eq_false (by simp),bcase_false]
 exact hK h2 0 (O1.trans O2 (by simp))
end
end
section
theorem sumN_ex{g:Nat→Nat}: ∀n,sumN g n≠0→ ∃k,k<n∧g k≠0:=by
 intro n
 induction n with
 |zero=>intro h;exact absurd rfl h
 |succ n ih=>
  intro h
  unfold sumN at h
  by_cases q:g n=0
  ·obtain⟨k,hk,hg⟩:=ih (by omega)
   exact⟨k,by omega,hg⟩
  ·exact⟨n,by omega,q⟩
theorem held{f:Int→Int}{E:Eng}(C:CntOk f E){a:Nat}:f (a:Int)≠0↔ ∃i,i<4∧ ∃r,r<6∧(E.ses i).there r=true∧(E.ses i).hnd r=a:=by
 rw[C a]
 constructor
 ·intro h
  obtain⟨k,hk,hg⟩:=sumN_ex 24 (show sumN (indR E a) 24≠0 from fun z=>h (by show((cntR E a:Nat):Int)=0;unfold cntR;omega))
  unfold indR at hg
  split at hg
  ·next q=>exact⟨k/6,by omega,k%6,by omega,q.1,q.2⟩
  ·exact absurd rfl hg
 ·rintro ⟨i,hi,r,hr,ht,he⟩ z
  have:1≤sumN (indR E a) 24:=sumN_pos (k:=6*i+r) 24 (by omega) (by
   unfold indR
   rw[show(6*i+r)/6=i by omega,show(6*i+r)%6=r by omega,if_pos ⟨ht,he⟩]
   exact Nat.le_refl _)
  have:cntR E a=sumN (indR E a) 24:=rfl
  omega
def Few(G:EG):Prop:= ∀ks:List Int,ks.Nodup→(∀x,x∈ks↔G.f x≠0)→ks.length≤12
section
variable {h h':Heap}{e:Nat}{G G':EG}{K:Value→Heap→Prop}
theorem EWd.ret(W:EWd h e G)(hj:G.P.jobs=[]){keep:Nat→Bool}{rs:List Nat}{L':List Nat}(M:Mk G.N rs keep [])(hrs: ∀a:Nat,1<a→G.f (a:Int)≠0→a∈rs)
  (S:Sto h' G.E.s L' (XL G.n G.room G.fo G.gg (retN keep G.N) G.off)) (O:Only G.L h h') (F:Fresh G.L L' h):EWd h' e (stoG G (retN keep G.N) L')∧Eside e G h (stoG G (retN keep G.N) L') h':=by
 have lt:=W.lt
 have DP: ∀b,PBl G.E.p G.P b→b∉L':=fun b hb hm=>by
  rcases F b hm with q|q
  ·exact W.W.D b hb q
  ·have:=lt b (mem_ebl.2 (.inr (.inr (.inr hb))));omega
 have Ok:=W.W.Ok
 have Ok':PoolOk G.n G.fo (retN keep G.N) G.P:=⟨fun j hm=>(by rw[hj]at hm;cases hm),Ok.at_,Ok.one,Ok.loc,Ok.T,Ok.len,Ok.last,Ok.steals⟩
 have cl: ∀i x,nd G.N i=some x→keep (i+2)=true→(x.2.1<2∨keep x.2.1=true)∧(x.2.2<2∨keep x.2.2=true):=fun i x hx hk=>by
  have:=M.cl i x hx hk
  simpa using this
 have ok0:NOk G.n G.N:=W.W.S.ok.1
 obtain⟨-,is1,-⟩:=retN_ok ok0 cl
 have rg: ∀i,i<4→ ∀r,r<6→(G.E.ses i).there r=true→isN (retN keep G.N) ((G.E.ses i).hnd r):=fun i hi r hr ht=>by
  rw[is1]
  by_cases q:(G.E.ses i).hnd r<2
  ·exact .inl q
  ·refine .inr ⟨W.rg i hi r hr ht,?_⟩
   have:=M.ro _ (hrs ((G.E.ses i).hnd r) (by omega) ((held W.C).2 ⟨i,hi,r,hr,ht,rfl⟩))
   rcases this with z|z|z
   ·omega
   ·exact z
   ·cases z
 refine⟨⟨⟨S,W.W.H.only O fun b hb hp=>W.W.D b hp hb,Ok',(fun j hm=>by rw[show(stoG G (retN keep G.N) L').P.jobs=[]from hj]at hm;cases hm),DP⟩,W.R.only O (fun b hb hm=>(W.dB b hm).1 hb),W.I.only O W.de.1,W.C,⟨fun hm=> ?_,W.de.2.1,W.de.2.2⟩,fun b hb=>⟨fun hm=> ?_,(W.dB b hb).2⟩,rg,W.r0,W.mq,W.po⟩,⟨fun T hT=>O.mono fun b hb _=>hT b (mem_ebl.2 (.inr (.inl hb))),fun b hb=> ?_⟩⟩
 ·rcases F e hm with q|q
  ·exact W.de.1 q
  ·have:=lt e (mem_ebl.2 (.inl rfl));omega
 ·rcases F b hm with q|q
  ·exact(W.dB b hb).1 q
  ·have:=lt b (mem_ebl.2 (.inr (.inr (.inl hb))));omega
 ·rcases mem_ebl.1 hb with q|q|q|q
  ·exact .inl (mem_ebl.2 (.inl q))
  ·rcases F b q with q|q
   ·exact .inl (mem_ebl.2 (.inr (.inl q)))
   ·exact .inr q
  ·exact .inl (mem_ebl.2 (.inr (.inr (.inl q))))
  ·exact .inl (mem_ebl.2 (.inr (.inr (.inr q))))
theorem catL_none(i:Nat):(catL (fun _=> []) i).length=0:=by
 have:=catL_len (L:=fun _=> []) (N:=0) i fun k _=>Nat.le_refl _
 omega
def Swept(G G':EG):Prop:= ∃(keep:Nat→Bool) (rs L':List Nat),(∀a:Nat,a∈rs↔1<a∧G.f (a:Int)≠0)∧Mk G.N rs keep []∧G'=stoG G (retN keep G.N) L'
theorem sweep175(W:EWd h e G)(hj:G.P.jobs=[])(few:Few G)(hM:G.M≤LB/1000)
  (hK: ∀h' G' a b,Swept G G'→EWd h' e G'→Eside e G h G' h'→K (.tuple #[.int .i64 a,.int .i64 b]) h'):Cl 175 [ptrV G.E.s,ptrV G.E.r] h K:=by
 have hLB:LB=140737488355328:=rfl
 refine F175.spec _ _ h K ?_
 obtain⟨lo,M,S,Wn,p,c,R,w1,w4,hl,eB⟩:=W.R
 refine roots32 R (by omega) w4 (fun ks nd hks=>by rw[catL_none];have:=few ks nd hks;omega) fun h1 q c1 Rs pw mem Ow O1=>ldS_of rfl ?_
 obtain⟨rs,ers⟩: ∃rs,rs=Rs.map Int.toNat:=⟨_,rfl⟩
 have pos: ∀x∈Rs,1<x:=fun x hx=>((mem x).1 hx).1
 have eR:Rs.map (Value.int .u32)=rs.map hv:=by
  rw[ers,List.map_map]
  refine List.map_congr_left fun x hx=> ?_
  have:=pos x hx
  show Value.int .u32 x= .int .u32 ((x.toNat:Nat):Int)
  rw[Int.toNat_of_nonneg (by omega)]
 have el:Rs.length=rs.length:=by rw[ers];simp
 have mrs: ∀a:Nat,a∈rs↔1<a∧G.f (a:Int)≠0:=fun a=>by
  rw[ers,List.mem_map]
  constructor
  ·rintro ⟨x,hx,e⟩
   have h1:=(mem x).1 hx
   have h2:x=(a:Int):=by rw[←e];exact(Int.toNat_of_nonneg (Int.le_of_lt (Int.lt_trans (by decide) h1.1))).symm
   rw[h2]at h1
   refine⟨Int.ofNat_lt.1 h1.1,?_⟩
   rcases h1.2 with z|⟨k,-,z⟩
   ·exact z
   ·cases z
  ·rintro ⟨h1,h2⟩
   exact⟨(a:Int),(mem _).2 ⟨by omega,.inl h2⟩,by simp⟩
 have is: ∀r∈rs,isN G.N r:=fun r hr=>by
  obtain⟨i,hi,q,hq,ht,he⟩:=(held W.C).1 ((mrs r).1 hr).2
  rw[←he]
  exact W.rg i hi q hq ht
 have few1:rs.length≤100000:=by
  have ks:Rs.Nodup:=pw.imp fun h=>by omega
  have:=R.Mm
  obtain⟨m,mm,lk,lm⟩:=this
  have sub:Rs.length≤m.length:=by
   have: ∀x∈Rs,x∈m.map (·.1):=fun x hx=>by
    apply Classical.byContradiction
    intro hn
    have h1:=(mem x).1 hx
    have h2:=lk x
    rw[lookup_none.2 hn]at h2
    rcases h1.2 with z|⟨k,-,z⟩
    ·rw[if_neg z]at h2;cases h2
    ·cases z
   have:=ks.length_le_of_subset this
   simpa using this
  have mfew:m.length≤12:=by
   have nd:(m.map (·.1)).Nodup:=by obtain⟨_,_,_,_,h,_⟩:=mm;exact h
   have:=few (m.map (·.1)) nd fun x=>by
    have h2:=lk x
    by_cases h0:G.f x=0
    ·rw[if_pos h0,lookup_none]at h2
     exact⟨fun h=>absurd h h2,fun h=>absurd h0 h⟩
    ·rw[if_neg h0]at h2
     refine⟨fun _=>h0,fun _=>Classical.byContradiction fun hn=> ?_⟩
     rw[lookup_none.2 hn]at h2
     cases h2
   simpa using this
  omega
 have S1:=W.W.S.only0 O1
 rw[el,eR]at Ow
 rw[el]
 refine collect218 (fun keep=>QL G.n G.fo (retN keep G.N)) S1 Ow is few1 fun h2 L2 gone keep Mk2 S2 O2 F2=>⟨_,_,rfl,?_⟩
 have W1:=W.only0 O1
 obtain⟨W2,T2⟩:=W1.ret hj Mk2 (fun a h1 h2=>(mrs a).2 ⟨h1,h2⟩) S2 O2 F2
 exact hK h2 _ gone 0 ⟨keep,rs,L2,mrs,Mk2,rfl⟩ W2 ((Eside.only0 O1).trans T2)
end
end
section
section
variable {h h':Heap}{e s t:Nat}{G G0 G1 G':EG}{K:Value→Heap→Prop}{F:Fns}{c:Cal}
theorem collects128(W:EWd h e G)(hj:G.P.jobs=[])(few:Few G)(hM:G.M≤LB/1000)
  (hK: ∀h' G',Swept G G'→EWd h' e G'→Eside e G h G' h'→K (.tuple #[]) h'):Cl 128 [ptrV e] h K:=by
 refine F128.spec _ h K ?_
 simp only[add_mk,Nat.zero_add]
 refine ldP_of W.I.p (roots173 W.W.H hj fun h1 c1 O1=>ldS_of rfl ?_)
 unfold F128.wk2
 refine⟨1,?_⟩
 rw[F128.sL2]
 rw[decide_eq_false (by simp),bcase_false]
 unfold F128.wk6
 have W1:=W.only0 O1
 simp only[add_mk,Nat.zero_add]
 refine ldP_of W1.I.s (ldP_of W1.I.r (sweep175 W1 hj few hM fun h2 G2 a b Sw W2 S2=>⟨_,_,rfl,?_⟩))
 unfold F128.wk8
 refine⟨1,?_⟩
 rw[F128.sL8]
 rw[decide_eq_false (by simp),bcase_false]
 exact hK h2 G2 Sw W2 ((Eside.only0 O1).trans S2)
theorem e_lets{i:Nat}(W:EWd h e G)(hi:i<4)(ha:G.E.ans<1000000000)(hj:G.P.jobs=[])(few:Few G)(hM:G.M≤LB/1000)
  (hK: ∀h' G1,Swept G G1→EWd h' e (ansG G1 i 0 0)→Eside e G h (ansG G1 i 0 0) h'→K (.bool true) h'):Cl 125 [ptrV e,sesP e i] h K:=by
 refine F125.spec _ _ h K ?_
 refine collects128 W hj few hM fun h1 G1 Sw W1 S1=>⟨rfl,?_⟩
 have ea:G1.E.ans<1000000000:=by
  obtain⟨_,_,_,_,_,e1⟩:=Sw
  rw[e1]
  exact ha
 exact e_answers (n:=0) W1 hi ea fun h2 W2 S2=>⟨rfl,hK h2 G1 Sw W2 (S1.trans S2)⟩
theorem now_coll(Q:Qt h e G F t)(hs:s<4)(hm:c.mask<256)(kd:c.kind=7)(few:Few G)(room:255*t+5<G.room)(ht:t+1<1000)
  (hK: ∀h' G',Qt h' e G' F (t+1)→Eside e G h G' h'→(G'.n=G.n∧G'.fo=G.fo∧G'.room=G.room∧G'.gg=G.gg)→(∀k,(G'.E.ses k).there=(G.E.ses k).there∧(G'.E.ses k).hnd=(G.E.ses k).hnd)→
   (∃(keep:Nat→Bool) (rs:List Nat),(∀a:Nat,a∈rs↔1<a∧G.f (a:Int)≠0)∧Mk G.N rs keep []∧Ex G'.N (retN keep G.N))→K (.tuple #[.agg #[.int .i64 0,.int .u64 0],.bool true]) h'):
  Cl 53 [ptrV e,.int .i64 (s:Int),calV c] h K:=by
 have hLB:LB=140737488355328:=rfl
 have qM:=Q.M
 have qa:=Q.ans
 have qc:=Q.cnt
 have ql:=Q.last
 have qt:=Q.t
 have sE: ∀k,(bgnG G s c).E.ses k=if k=s then bgnS (G.E.ses s) c else G.E.ses k:=fun k=>rfl
 have ss:(bgnG G s c).E.ses s=bgnS (G.E.ses s) c:=by rw[sE,if_pos rfl]
 have rf:refu G.n (G.E.ses s) c=0:=by
  have er:rds c=[]:=by unfold rds;rw[kd];rfl
  unfold refu refu2
  rw[if_neg (by omega),if_neg (fun w=>by have:=w.1;unfold wrK at this;omega),if_neg (fun w=>w (fun r hr=>by rw[er]at hr;cases hr)),if_neg (fun w=>by omega),if_neg (fun w=>by omega),if_neg (fun w=>by omega)]
 have hn:stepN ((bgnG G s c).E.ses s).cal.kind=125:=by
  rw[ss]
  show stepN c.kind=125
  unfold stepN
  rw[if_neg (by omega),if_neg (by omega),if_pos kd]
 have s3: ∀{G2:EG} (k:Nat),Swept (bgnG G s c) G2→(ansG G2 s 0 0).E.ses k=if k=s then ansS (bgnS (G.E.ses s) c) 0 0 else G.E.ses k:=fun {G2} k Sw=>by
  obtain⟨_,_,_,_,_,e1⟩:=Sw
  rw[e1]
  show upN (upN G.E.ses s _) s (ansS (upN G.E.ses s (bgnS (G.E.ses s) c) s) 0 _) k=_
  rw[upN_upN,upN_eq]
  rfl
 have sr: ∀q,((if q=s then ansS (bgnS (G.E.ses s) c) 0 0 else G.E.ses q:Ses)).there=(G.E.ses q).there∧((if q=s then ansS (bgnS (G.E.ses s) c) 0 0 else G.E.ses q:Ses)).hnd=(G.E.ses q).hnd:=fun q=>by
  by_cases z:q=s
  ·rw[if_pos z,z];exact⟨rfl,rfl⟩
  ·rw[if_neg z];exact⟨rfl,rfl⟩
 have mdx: ∀{N':List (Option Nd)},Ex N' G.N→NOk G.n N'→(∀k,k<4→ ∀r,r<6→(G.E.ses k).there r=true→isN N' ((G.E.ses k).hnd r))→ ∀k,k<4→ ∀r,r<6→(G.E.ses k).there r=true→ ∀y,sm G.n G.fo N' ((G.E.ses k).hnd r) y=sm G.n G.fo G.N ((G.E.ses k).hnd r) y:=
  fun E ok rg k hk r hr ht y=>(E.sm ok (rg k hk r hr ht)).symm
 have okG:NOk G.n G.N:=Q.W.W.S.ok.1
 have R1: ∀{G2:EG},Swept (bgnG G s c) G2→NOk G.n G2.N→(∀k,k<4→ ∀r,r<6→(G.E.ses k).there r=true→isN G2.N ((G.E.ses k).hnd r))→Ex G2.N G.N∧Aft (bgnG G s c) s (ansS (bgnS (G.E.ses s) c) 0 0) (fun r y=>sm G.n G.fo G.N ((G.E.ses s).hnd r) y) 0 (ansG G2 s 0 0):=fun {G2} Sw ok2 rg2=>by
  have Sw0:=Sw
  obtain⟨keep,rs,L',m1,m2,e1⟩:=Sw
  have cl: ∀i x,nd G.N i=some x→keep (i+2)=true→(x.2.1<2∨keep x.2.1=true)∧(x.2.2<2∨keep x.2.2=true):=fun i x hx hk=>by
   have:=m2.cl i x hx hk
   simpa using this
  have ex:Ex G2.N G.N:=by rw[e1];exact(retN_ok okG cl).2.2
  have smk:=mdx ex ok2 rg2
  refine⟨ex,by rw[e1];exact⟨rfl,rfl,rfl⟩,by rw[e1];rfl,by rw[e1];rfl,by rw[e1];rfl,by rw[e1];rfl,by rw[e1];rfl,by rw[e1];rfl,by rw[e1];exact Nat.le_add_right _ _,by rw[e1];exact Q.jobs,by rw[e1];rfl,by rw[e1];exact Nat.le_add_right _ _,rfl,by rw[s3 s Sw0,if_pos rfl],fun k hk z=>by rw[s3 k Sw0,if_neg z,sE,if_neg z],fun r hr ht y=> ?_,fun k hk z r hr ht y=> ?_,?_⟩
  ·exact smk s hs r hr ht y
  ·rw[sE,if_neg z]at ht ⊢
   exact smk k hk r hr ht y
  ·exact ex_cnt ex
 refine now53 hs Q.W (Q.pend s hs) hm rf (fun G2=> ∃G1,(∃G3,Swept (bgnG G s c) G3∧G1=ansG G3 s 0 0∧NOk G.n G3.N∧ ∀k,k<4→ ∀r,r<6→(G.E.ses k).there r=true→isN G3.N ((G.E.ses k).hnd r))∧Keeps G1 G2) (fun {h1 Q1} W1 hQ=> ?_) (fun {G2} R=> ?_) fun h2 G2 W2 S2 R=> ?_
 ·refine solo_fair mr_less W1 hs (by rw[ss];rfl) (fun k hk z=>by rw[sE,if_neg z];exact Q.pend k hk) (by show G.M+_≤_;omega) (fun G1=> ∃G3,Swept (bgnG G s c) G3∧G1=ansG G3 s 0 0∧NOk G.n G3.N∧ ∀k,k<4→ ∀r,r<6→(G.E.ses k).there r=true→isN G3.N ((G.E.ses k).hnd r)) (fun {h2 Q2} O2 hQ2=> ?_) (fun {G1} R=> ?_) fun h2 G1 G2 r1 k W2 S2=>hQ h2 G2 W2 S2 ⟨G1,r1,k⟩
  ·rw[hn]
   refine e_lets (W1.only0 O2) hs (by show G.E.ans<_;omega) Q.jobs few (by show G.M≤_;omega) fun h3 G3 Sw W3 S3=>hQ2 true h3 _ W3 ((Eside.only0 O2).trans S3) ⟨G3,Sw,rfl,?_,fun k hk r hr ht=> ?_⟩
   ·have:=W3.W.S.ok.1
    obtain⟨_,_,_,_,_,e1⟩:=Sw
    rw[e1]at this ⊢
    exact this
   ·have:=W3.rg k hk r hr
    rw[s3 k Sw,(sr k).1,(sr k).2]at this
    exact this ht
  ·obtain⟨G3,Sw,eq,ok3,rg3⟩:=R
   obtain⟨ex,A⟩:=R1 Sw ok3 rg3
   subst eq
   obtain⟨_,_,_,_,_,e1⟩:=Sw
   refine⟨⟨_,_,_,A⟩,?_,?_⟩
   ·have c1:=ex_cnt ex
    show cntN G3.N<G3.room
    rw[e1]at c1 ⊢
    show _<G.room
    have c1:cntN (stoG (bgnG G s c) (retN _ (bgnG G s c).N) _).N≤cntN G.N:=c1
    omega
   ·rw[e1];exact Nat.le_add_right _ _
 ·obtain⟨G1,⟨G3,Sw,q,-,-⟩,k⟩:=R
  subst q
  rw[k.E,s3 s Sw,if_pos rfl]
  rfl
 ·obtain⟨G1,⟨G3,Sw,q,ok3,rg3⟩,k⟩:=R
  obtain⟨ex,A⟩:=R1 Sw ok3 rg3
  have s4:=fun q=>s3 q Sw
  obtain⟨keep,rs,L',m1,m2,e1⟩:=Sw
  have kM:=k.M
  have e3M:G1.M=G.M:=by rw[q,e1];rfl
  rw[←q]at A s4
  have A2:=A.kept hs k (by show _≤G.M+_;omega)
  have no:=A2.none (fun k hk z=>by rw[sE,if_neg z];exact Q.pend k hk)
  have sr2: ∀q,(G2.E.ses q).there=(G.E.ses q).there∧(G2.E.ses q).hnd=(G.E.ses q).hnd:=fun q=>by
   rw[k.E,s4]
   exact sr q
  have N1:G1.N=G3.N:=by rw[q];rfl
  have md:Md G2 F:=fun q hq r hr2=>by
   obtain⟨m1,m2⟩:=Q.md q hq r hr2
   rw[(sr2 q).1,(sr2 q).2]
   refine⟨m1,fun f z=> ?_⟩
   obtain⟨a,b⟩:=m2 f z
   refine⟨a,fun y=> ?_⟩
   have:=k.sm q hq r hr2 (by rw[←k.E,(sr2 q).1];exact a) y
   rw[←k.E,(sr2 q).2,A.n,A.fo,N1]at this
   rw[A2.n,A2.fo]
   refine Eq.trans this ?_
   have:=mdx ex ok3 rg3 q hq r hr2 a y
   exact this.trans (b y)
  have rc:=A2.cnt
  have rc:cntN G2.N≤cntN G.N+0:=rc
  have rl:G2.P.last≤G.P.last+1:=A2.last
  have ra:G2.E.ans=G.E.ans+1:=A2.ans
  have Q2:Qt h2 e G2 F (t+1):=⟨W2,md,A2.jobs,no,by omega,by omega,by omega,by omega,ht⟩
  have sb:Ex G2.N G1.N:=k.sub A.jobs
  have:=hK h2 G2 Q2 S2 ⟨A2.n,A2.fo,A2.room,A2.gg⟩ sr2 ⟨keep,rs,m1,m2,by rw[N1,e1]at sb;exact sb⟩
  rw[A2.ses]
  exact this
end
end
section
section
variable {h h':Heap}{e s d t:Nat}{G G':EG}{K:Value→Heap→Prop}{F:Fns}{c:Cal}
theorem now_clr(Q:Qt h e G F t)(hs:s<4)(hd:d<6)(hm:c.mask<256)(kd:c.kind=6)(ed:c.dst=(d:Int))(room:255*t+5<G.room)(ht:t+1<1000)
  (hK: ∀h' G',Qt h' e G' (updF F s d none) (t+1)→Eside e G h G' h'→(G'.n=G.n∧G'.fo=G.fo∧G'.room=G.room∧G'.gg=G.gg)→(∀k,k<4→ ∀r,r<6→(k≠s∨r≠d)→(G'.E.ses k).there r=(G.E.ses k).there r∧(G'.E.ses k).hnd r=(G.E.ses k).hnd r)→K (.tuple #[.agg #[.int .i64 0,.int .u64 0],.bool true]) h'):
  Cl 53 [ptrV e,.int .i64 (s:Int),calV c] h K:=by
 have hLB:LB=140737488355328:=rfl
 have rd0:rds c=[]:=by unfold rds;rw[if_neg (by omega),if_neg (by omega),if_neg (by omega)]
 have rf: ∀x:Ses,refu G.n x c=0:=fun x=>by
  unfold refu refu2
  rw[if_neg (by omega),if_neg (fun w=>w.2 (by rw[ed];unfold isR;omega)),if_neg (fun w=>w fun r hr=>by rw[rd0]at hr;cases hr),if_neg (fun w=>by omega),if_neg (fun w=>by omega),if_neg (fun w=>by omega)]
 have qM:=Q.M
 have qa:=Q.ans
 have qc:=Q.cnt
 have sE: ∀k,(bgnG G s c).E.ses k=if k=s then bgnS (G.E.ses s) c else G.E.ses k:=fun k=>rfl
 have Ea:Easy (bgnG G s c):=by
  refine⟨Q.jobs,fun i hi hp=> ?_,by show cntN G.N+5<G.room;omega,by show G.M+20000≤_;omega,by show G.E.ans+10<_;omega⟩
  rw[sE]at hp ⊢
  by_cases q:i=s
  ·rw[if_pos q]at hp ⊢
   exact⟨.inr (.inr kd),rf _⟩
  ·rw[if_neg q,Q.pend i hi]at hp;cases hp
 have np:nPd (bgnG G s c).E 4≤4:=nPd_le 4
 refine now53 hs Q.W (Q.pend s hs) hm (rf _) (fun G2=>Ran (bgnG G s c) 4 G2) (fun {h1 Q1} W1 hQ=>easy_fair W1 Ea hQ) (fun {G2} R=> ?_) fun h2 G2 W2 S2 R=> ?_
 ·obtain⟨d',-,-,⟨-,v,q,-⟩|⟨-,q⟩|⟨-,q⟩⟩:=(R.lo s hs hs).1 (by rw[sE,if_pos rfl];rfl)<;>rw[q]<;>rfl
 ·have L:=(R.lo s hs hs).1 (by rw[sE,if_pos rfl];rfl)
  rw[sE,if_pos rfl]at L
  obtain⟨d',d6',ed',L⟩:=L
  have e1:d'=d:=by have e2:c.dst=(d':Int):=ed';omega
  subst e1
  rcases L with⟨k,-⟩|⟨k,-⟩|⟨-,q⟩
  ·exact absurd (show c.kind=1 from k) (by omega)
  ·exact absurd (show c.kind=2 from k) (by omega)
  have oth: ∀k,k<4→k≠s→G2.E.ses k=G.E.ses k:=fun k hk q=>by
   have:=(R.lo k hk hk).2 (by rw[sE,if_neg q];exact Q.pend k hk)
   rw[sE,if_neg q]at this
   exact this
  have th: ∀r,(G2.E.ses s).there r=upN (G.E.ses s).there d' false r∧(G2.E.ses s).hnd r=upN (G.E.ses s).hnd d' 0 r:=fun r=>by rw[q];exact⟨rfl,rfl⟩
  have same: ∀k,k<4→ ∀r,r<6→(k≠s∨r≠d')→(G2.E.ses k).there r=(G.E.ses k).there r∧(G2.E.ses k).hnd r=(G.E.ses k).hnd r:=fun k hk r _ hne=>by
   by_cases z:k=s
   ·subst z
    have hr:r≠d':=hne.resolve_left fun h=>h rfl
    rw[(th r).1,(th r).2]
    exact⟨upN_ne hr,upN_ne hr⟩
   ·rw[oth k hk z];exact⟨rfl,rfl⟩
  have e3: ∀k,((bgnG G s c).E.ses k).there=(G.E.ses k).there∧((bgnG G s c).E.ses k).hnd=(G.E.ses k).hnd:=fun k=>by
   rw[sE]
   by_cases z:k=s
   ·rw[if_pos z,z];exact⟨rfl,rfl⟩
   ·rw[if_neg z];exact⟨rfl,rfl⟩
  have md:Md G2 (updF F s d' none):=fun k hk r hr=>by
   unfold updF
   by_cases z:k=s∧r=d'
   ·rw[if_pos z,z.1,z.2,(th d').1]
    exact⟨fun _=>if_pos rfl,fun f hf=>by cases hf⟩
   ·rw[if_neg z]
    have hne:k≠s∨r≠d':=by
     by_cases k0:k=s
     ·exact .inr fun r0=>z ⟨k0,r0⟩
     ·exact .inl k0
    obtain⟨s1,s2⟩:=same k hk r hr hne
    obtain⟨m1,m2⟩:=Q.md k hk r hr
    rw[s1]
    refine⟨m1,fun f hf=> ?_⟩
    obtain⟨a,b⟩:=m2 f hf
    refine⟨a,fun y=> ?_⟩
    have:=R.old k hk r hr (by rw[(e3 k).1];exact a) (by rw[s1];exact a) (by rw[(e3 k).2];exact s2) y
    rw[(e3 k).2]at this
    rw[s2,R.n,R.fo,this]
    exact b y
  have rc:cntN G2.N≤cntN G.N+4:=R.cnt
  have rM:G2.M≤G.M+1002*4+1000:=R.M.2
  have ra:G2.E.ans=G.E.ans+nPd (bgnG G s c).E 4:=R.ans
  have Q2:Qt h2 e G2 (updF F s d' none) (t+1):=⟨W2,md,R.jobs,R.none,by have:G2.P.last=G.P.last:=R.last;have:=Q.last;omega,by omega,by omega,by omega,ht⟩
  have:=hK h2 G2 Q2 S2 ⟨R.n,R.fo,R.room,R.gg⟩ same
  rw[q]
  exact this
end
end
section
def livT(N:List (Option Nd))(k:Nat):List Nat:=((List.range k).filter fun i=>(nd N i).isSome).map (· +2)
def liv(N:List (Option Nd)):List Nat:=livT N N.length
theorem livT_succ{N:List (Option Nd)}{k:Nat}:livT N (k+1)=livT N k++if(nd N k).isSome then [k+2]else []:=by
 unfold livT
 rw[List.range_succ,List.filter_append,List.map_append]
 congr 1
 cases h:(nd N k).isSome<;>simp[h]
theorem mem_livT{N:List (Option Nd)}{k a:Nat}:a∈livT N k↔2≤a∧a-2<k∧ ∃x,nd N (a-2)=some x:=by
 unfold livT
 simp only[List.mem_map,List.mem_filter,List.mem_range,Option.isSome_iff_exists]
 constructor
 ·rintro ⟨i,⟨h1,h2⟩,e⟩
  subst e
  exact⟨by omega,by simpa using h1,by simpa using h2⟩
 ·rintro ⟨h0,h1,h2⟩
  exact⟨a-2,⟨h1,h2⟩,by omega⟩
theorem mem_liv{N:List (Option Nd)}{a:Nat}:a∈liv N↔2≤a∧ ∃x,nd N (a-2)=some x:=by
 unfold liv
 rw[mem_livT]
 exact⟨fun h=>⟨h.1,h.2.2⟩,fun h=>⟨h.1,by obtain⟨x,hx⟩:=h.2;exact nd_lt hx,h.2⟩⟩
theorem liv_up{N:List (Option Nd)}(k:Nat):(livT N k).Pairwise (· < ·):=by
 unfold livT
 rw[List.pairwise_map]
 refine List.Pairwise.filter _ ((List.pairwise_lt_range (n:=k)).imp ?_)
 intro a b h
 show a+2<b+2
 omega
theorem livT_len{N:List (Option Nd)}: ∀k,k≤N.length→(livT N k).length=cntN (N.take k):=by
 intro k
 induction k with
 |zero=>intro _;simp[livT,cntN]
 |succ k ih=>
  intro hk
  have:=ih (by omega)
  obtain⟨o,ho⟩: ∃o,N[k]? =some o:=⟨_,List.getElem?_eq_getElem (by omega)⟩
  rw[livT_succ,take_succ' ho,cnt_app,List.length_append,this]
  have e:nd N k=o:=by unfold nd;rw[ho];rfl
  rw[e]
  cases o<;>rfl
theorem liv_len(N:List (Option Nd)):(liv N).length=cntN N:=by
 have:=livT_len (N:=N) N.length (Nat.le_refl _)
 rw[List.take_length]at this
 exact this
section
variable {h:Heap}{s:Nat}{L:List Nat}{X:SX}{K:Value→Heap→Prop}
set_option maxRecDepth 100000 in
theorem all59(H:Sto h s L X)(hK: ∀h' p c,Own h' h.size 1 p (liv X.N).length c ((liv X.N).map hv)→Only [] h h'→K (.slice p (liv X.N).length c) h'):Cl 59 [.pointer (some ⟨s,0,none⟩)] h K:=by
 obtain⟨B,F,eL,H⟩:=H
 have hlen:=H.m.len
 refine F59.spec _ h K ?_
 simp only[add_mk,Nat.zero_add]
 refine ldS_of (p:=B.p) (l:=X.N.length) (c:=B.c) (by rw[At.rd H.m.S];rfl) ?_
 unfold F59.wk3
 have main: ∀(d i:Nat) (h':Heap) (p:Option Addr) (c:Nat),i+d=X.N.length→Own h' h.size 1 p (livT X.N i).length c ((livT X.N i).map hv)→Only [] h h'→
   F59.wL3 (d+1) p (livT X.N i).length c B.p X.N.length B.c (X.N.length:Int) (i:Int) h' K:=by
  intro d
  induction d with
  |zero=>
   intro i h' p c hi Ow O
   rw[F59.sL3]
   rw[decide_eq_false (by omega),bcase_false]
   obtain rfl:i=X.N.length:=by omega
   exact hK h' p c Ow O
  |succ d ih=>
   intro i h' p c hi Ow O
   obtain⟨o,ho⟩: ∃o,X.N[i]? =some o:=⟨_,List.getElem?_eq_getElem (by omega)⟩
   have m1:=H.m.only O (by simp)
   obtain⟨b,eb,rr⟩:=m1.cells ho
   have en:nd X.N i=o:=by unfold nd;rw[ho];rfl
   rw[F59.sL3]
   rw[decide_eq_true (by omega),bcase_true,eb,ptrK_some]
   refine⟨by omega,by omega,?_⟩
   rw[←eb]
   simp only[add_mk,Nat.zero_add]
   have hw:IntKind.wrap .u32 (IntKind.wrap .i64 ((i:Int)+2))=((i+2:Nat):Int):=by
    rw[wrap_i64 (by omega) (by omega),show(i:Int)+2=((i+2:Nat):Int) by omega]
    exact wrap32 (by omega)
   rw[show Int.toNat (i:Int)*4=i*4 by omega,hw,show IntKind.wrap .i64 ((i:Int)+1)=((i+1:Nat):Int) by rw[wrap_i64 (by omega) (by omega)];omega]
   obtain⟨tv,lv,av,bv,ec⟩: ∃tv lv av bv,ncell o=[.bool tv,.int .i64 lv,.int .u32 av,.int .u32 bv]:=by
    cases o with
    |none=>exact⟨_,_,_,_,rfl⟩
    |some x=>exact⟨_,_,_,_,rfl⟩
   have et:tv=o.isSome:=by
    cases o<;>simp only[ncell,List.cons.injEq,Value.bool.injEq]at ec<;>exact ec.1.symm
   rw[ec]at rr
   refine ldB_of (by rw[←Nat.add_zero (i*4),rr 0 (by omega)];rfl) (ldI_of (by rw[rr 1 (by omega)];rfl) (ldI_of (by rw[rr 2 (by omega)];rfl) (ldI_of (by rw[rr 3 (by omega)];rfl) ?_)))
   refine newK_at fun k1 B1 P1 y1=> ?_
   refine stK_at B1 (by simp) rfl fun k2 B2 P2 y2=>stK_at B2 (by simp) rfl fun k3 B3 P3 y3=>stK_at B3 (by simp) rfl fun k4 B4 P4 y4=>stK_at B4 (by simp) rfl fun k5 B5 P5 y5=> ?_
   have P15:Only [] h' k5:=(((P1.trans P2 (by intro b hb hl;simp at hb;omega)).trans P3 (by intro b hb hl;simp at hb;omega)).trans P4 (by intro b hb hl;simp at hb;omega)).trans P5 (by intro b hb hl;simp at hb;omega)
   refine ldB_of (n:=tv) (by rw[At.rd B5];rfl) ?_
   have z0:=O.size
   have z1:=P15.size
   have Ow5:=Ow.only P15 (by simp)
   have hll:(livT X.N i).length≤40000:=by
    rw[livT_len i (by omega)]
    have:=cntN_le (X.N.take i)
    rw[List.length_take]at this
    omega
   have ls:=livT_succ (N:=X.N) (k:=i)
   rw[en]at ls
   cases o with
   |none=>
    rw[et,Option.isSome_none,bcase_false]
    have ls:livT X.N (i+1)=livT X.N i:=by rw[ls];simp
    rw[←ls]at Ow5 ⊢
    exact ih (i+1) k5 p c (by omega) Ow5 (O.trans P15 (by simp))
   |some x=>
    rw[et,Option.isSome_some,bcase_true]
    have ls:livT X.N (i+1)=livT X.N i++[i+2]:=ls
    refine newK_at fun k6 B6 P6 y6=> ?_
    refine own_app (new:=[hv (i+2)]) (Ow5.only P6 (by simp)) B6 rfl rfl (by omega) (by simp[Value.oneCell']) (by omega) fun p' c' k7 W7 P7 hb7=> ?_
    have e1:(livT X.N i).length+1=(livT X.N (i+1)).length:=by rw[ls];simp
    have e2:(livT X.N i).map hv++[hv (i+2)]=(livT X.N (i+1)).map hv:=by rw[ls];simp
    rw[e1,e2]at W7
    rw[e1]
    exact ih (i+1) k7 p' c' (by omega) W7 (((O.trans P15 (by simp)).trans P6 (by simp)).trans P7 fun b hb hl=>by have:=Ow.lt b hb;omega)
 exact⟨_,main X.N.length 0 h none 0 (by omega) (Own.nil _ _ _) (Only.refl _ _)⟩
end
end
section
section
variable {h:Heap}{s:Nat}{L:List Nat}{X:SX}{K:Value→Heap→Prop}
set_option maxRecDepth 100000 in
theorem once22(H:Sto h s L X)(hK: ∀h',Only [] h h'→K (.bool true) h'):Cl 22 [.pointer (some ⟨s,0,none⟩)] h K:=by
 have ok:=H.ok
 have okN:=ok.1
 refine F22.spec _ h K ?_
 unfold F22.w F22.J0
 refine all59 H fun h1 p c Ow O1=>ldS_of rfl ?_
 have H1:=H.only0 O1
 refine sto_len H1 (ldI_of rfl ?_)
 rw[liv_len,show(((cntN X.N:Nat):Int) !=((cntN X.N:Nat):Int))=false by simp,bcase_false]
 have sr:Cl 70 [.pointer (some ⟨s,0,none⟩)] h1 fun v9 h10=>v9= .int .i64 (X.room:Int)∧h10=h1:=by
  obtain⟨B,F,e,H⟩:=H1
  refine F70.spec _ h1 _ ?_
  exact ldI_of (by rw[add_mk,At.rd H.m.S];rfl) ⟨rfl,rfl⟩
 refine sr.mono fun v9 h10 ⟨e1,e2⟩=> ?_
 subst e1 e2
 refine ldI_of rfl ?_
 have hc:cntN X.N≤X.room:=by omega
 rw[decide_eq_false (by omega),bcase_false,←liv_len]
 unfold F22.wk5 F22.Jk5
 have at_: ∀i,i<(liv X.N).length→ ∃a x,(liv X.N)[i]? =some a∧2≤a∧nd X.N (a-2)=some x∧isN X.N a∧lvl X.n X.N a=x.1∧low X.N a=x.2.1∧high X.N a=x.2.2∧a<32770:=fun i hi=>by
  have h0:(liv X.N)[i]? =some (liv X.N)[i]:=List.getElem?_eq_getElem hi
  obtain⟨h2,x,hx⟩:=mem_liv.1 (List.mem_of_getElem? h0)
  refine⟨_,x,h0,h2,hx,.inr ⟨x,hx⟩,?_,?_,?_,H.isN_lt (.inr ⟨x,hx⟩)⟩
  ·unfold lvl;rw[if_neg (by omega),hx]
  ·unfold low;rw[if_neg (by omega),hx]
  ·unfold high;rw[if_neg (by omega),hx]
 have up: ∀i j a b,i<j→(liv X.N)[i]? =some a→(liv X.N)[j]? =some b→a<b:=fun i j a b hij ha hb=>by
  have:=List.pairwise_iff_getElem.1 (show(liv X.N).Pairwise (· < ·)from liv_up _) i j (List.getElem?_eq_some_iff.1 ha).1 (List.getElem?_eq_some_iff.1 hb).1 hij
  rw[(List.getElem?_eq_some_iff.1 ha).2,(List.getElem?_eq_some_iff.1 hb).2]at this
  exact this
 have ldl: ∀{i:Nat} {a:Nat} {Q:Int→Prop},(liv X.N)[i]? =some a→Q (a:Int)→ptrK p (fun a1=>(0≤(i:Int)∧(i:Int)<(Nat.cast (liv X.N).length:Int)∧ldI .u32 (rd h10 (Addr.add a1 (Int.toNat (i:Int)*1))) Q)):=fun {i a Q} ha hQ=>by
  have hi:=(List.getElem?_eq_some_iff.1 ha).1
  obtain⟨b,eb,rr⟩:=Ow.rd (j:=i) (by simpa using hi)
  rw[eb,ptrK_some,add_mk,Nat.zero_add,show Int.toNat (i:Int)*1=i by omega,rr]
  exact⟨by omega,by omega,ldI_of (n:=(a:Int)) (by simp[ha]) hQ⟩
 have hll:(liv X.N).length≤32768:=by rw[liv_len];omega
 have inner: ∀{bk:Addr→Option Addr→Nat→Nat→Int→Heap→Prop} {i a:Nat} {x:Nd},(liv X.N)[i]? =some a→nd X.N (a-2)=some x→bk ⟨s,0,none⟩ p (liv X.N).length c ((i+1:Nat):Int) h10→
   ∀(d j:Nat),j+d=i→F22.wL12 bk (d+1) ⟨s,0,none⟩ p (liv X.N).length c (i:Int) (x.1:Int) (x.2.1:Int) (x.2.2:Int) (j:Int) h10 K:=by
  intro bk i a x ha hx hbk d
  have hi:=(List.getElem?_eq_some_iff.1 ha).1
  induction d with
  |zero=>
   intro j hj
   unfold F22.wL12 F22.JL12
   rw[decide_eq_false (by omega),bcase_false,show IntKind.wrap .i64 ((i:Int)+1)=((i+1:Nat):Int) by rw[wrap_i64 (by omega) (by omega)];omega]
   exact hbk
  |succ d ih=>
   intro j hj
   obtain⟨b,y,hb,b2,hy,nb,el,elo,ehi,-⟩:=at_ j (by omega)
   have lt:=up j i b a (by omega) hb ha
   unfold F22.wL12 F22.JL12
   rw[decide_eq_true (by omega),bcase_true,show IntKind.wrap .i64 ((j:Int)+1)=((j+1:Nat):Int) by rw[wrap_i64 (by omega) (by omega)];omega]
   have nx:=ih (j+1) (by omega)
   refine ldl hb (sto_level H1 nb (ldI_of rfl (bcase_of (fun g1=> ?_) fun _=>nx)))
   refine ldl hb (sto_low H1 nb (ldI_of rfl (bcase_of (fun g2=> ?_) fun _=>nx)))
   refine ldl hb (sto_high H1 nb (ldI_of rfl (bcase_of (fun g3=> ?_) fun _=>nx)))
   exfalso
   have e1:(lvl X.n X.N b:Int)=(x.1:Int):=eq_of_beq g1
   have e2:(low X.N b:Int)=(x.2.1:Int):=eq_of_beq g2
   have e3:(high X.N b:Int)=(x.2.2:Int):=eq_of_beq g3
   rw[el]at e1
   rw[elo]at e2
   rw[ehi]at e3
   have:y=x:=by
    obtain⟨y1,y2,y3⟩:=y
    obtain⟨x1,x2,x3⟩:=x
    have e1:(y1:Int)=x1:=e1
    have e2:(y2:Int)=x2:=e2
    have e3:(y3:Int)=x3:=e3
    rw[Int.ofNat.inj e1,Int.ofNat.inj e2,Int.ofNat.inj e3]
   subst this
   have:=okN.once _ _ _ hy hx
   omega
 have main: ∀(d i:Nat),i+d=(liv X.N).length→F22.wL5 (d+1) ⟨s,0,none⟩ p (liv X.N).length c (i:Int) h10 K:=by
  intro d
  induction d with
  |zero=>
   intro i hi
   unfold F22.wL5 F22.JL5
   rw[decide_eq_false (by omega),bcase_false]
   exact hK _ O1
  |succ d ih=>
   intro i hi
   obtain⟨a,x,ha,a2,hx,na,el,elo,ehi,alt⟩:=at_ i (by omega)
   obtain⟨q1,q2,q3,q4,q5,q6⟩:=okN.node _ x hx
   have q2':=H.isN_lt q2
   have q3':=H.isN_lt q3
   unfold F22.wL5 F22.JL5
   rw[decide_eq_true (by omega),bcase_true]
   have nx:=ih (i+1) (by omega)
   have w12:F22.wk12 (fun x0 x3p x3l x3c x4 h=>F22.wL5 (d+1) x0 x3p x3l x3c x4 h K) ⟨s,0,none⟩ p (liv X.N).length c (i:Int) (x.1:Int) (x.2.1:Int) (x.2.2:Int) 0 h10 K:=by
    unfold F22.wk12 F22.Jk12
    exact⟨_,inner ha hx nx i 0 (by omega)⟩
   refine ldl ha (sto_level H1 na (ldI_of rfl (sto_low H1 na (ldI_of rfl (sto_high H1 na (ldI_of rfl ?_))))))
   rw[el,elo,ehi,decide_eq_false (by omega),bcase_false]
   refine bcase_of (fun g=> ?_) fun g=> ?_
   ·have g:(i:Int)>0:=of_decide_eq_true g
    obtain⟨b,y,hb,-⟩:=at_ (i-1) (by omega)
    have lt:=up (i-1) i b a (by omega) hb ha
    rw[show IntKind.wrap .i64 ((i:Int)-1)=((i-1:Nat):Int) by rw[wrap_i64 (by omega) (by omega)];omega]
    refine ldl hb ?_
    rw[decide_eq_false (by omega),bcase_false]
    refine sto_is1 H1 na (ldB_of rfl ?_)
    rw[Bool.not_true,bcase_false,decide_eq_false (by omega),bcase_false]
    refine sto_vars H1 (ldI_of rfl ?_)
    rw[decide_eq_false (by omega),bcase_false,show((x.2.1:Int)==(x.2.2:Int))=false by simp;omega,bcase_false]
    refine sto_is1 H1 q2 (ldB_of rfl ?_)
    rw[Bool.not_true,bcase_false]
    refine sto_is1 H1 q3 (ldB_of rfl ?_)
    rw[Bool.not_true,bcase_false]
    refine sto_level H1 q2 (ldI_of rfl ?_)
    rw[decide_eq_false (by omega),bcase_false]
    refine sto_level H1 q3 (ldI_of rfl ?_)
    rw[decide_eq_false (by omega),bcase_false]
    exact w12
   ·refine sto_is1 H1 na (ldB_of rfl ?_)
    rw[Bool.not_true,bcase_false,decide_eq_false (by omega),bcase_false]
    refine sto_vars H1 (ldI_of rfl ?_)
    rw[decide_eq_false (by omega),bcase_false,show((x.2.1:Int)==(x.2.2:Int))=false by simp;omega,bcase_false]
    refine sto_is1 H1 q2 (ldB_of rfl ?_)
    rw[Bool.not_true,bcase_false]
    refine sto_is1 H1 q3 (ldB_of rfl ?_)
    rw[Bool.not_true,bcase_false]
    refine sto_level H1 q2 (ldI_of rfl ?_)
    rw[decide_eq_false (by omega),bcase_false]
    refine sto_level H1 q3 (ldI_of rfl ?_)
    rw[decide_eq_false (by omega),bcase_false]
    exact w12
 exact⟨_,main (liv X.N).length 0 (by omega)⟩
end
end
section
structure Und(N:List (Option Nd))(ls ls':List Nat)(a:Nat):Prop where
 sub: ∀b∈ls,b∈ls'
 nd:ls'.Nodup
 is: ∀b∈ls',2≤b∧isN N b
 a:a<2∨a∈ls'
 cl: ∀b∈ls',b∉ls→(low N b<2∨low N b∈ls')∧(high N b<2∨high N b∈ls')
theorem Und.two{N:List (Option Nd)}{l0 l1 l2:List Nat}{a:Nat}(U:Und N (l0++[a]) l1 (low N a))(V:Und N l1 l2 (high N a)):Und N l0 l2 a:=by
 have up: ∀{b},b<2∨b∈l1→b<2∨b∈l2:=fun h=>h.imp id (V.sub _)
 refine⟨fun b hb=>V.sub _ (U.sub _ (by simp[hb])),V.nd,V.is,.inr (V.sub _ (U.sub _ (by simp))),fun b hb hn=> ?_⟩
 by_cases h1:b∈l1
 ·by_cases h0:b∈l0++[a]
  ·have:b=a:=by
    rcases List.mem_append.1 h0 with q|q
    ·exact absurd q hn
    ·simpa using q
   subst this
   exact⟨up U.a,V.a⟩
  ·have:=U.cl b h1 h0
   exact⟨up this.1,up this.2⟩
 ·exact V.cl b hb h1
section
variable {e s lo:Nat}{L:List Nat}{X:SX}{K:Value→Heap→Prop}{ec:List Value}
set_option maxRecDepth 100000 in
theorem under60(he:ec[0]? =some (.pointer (some ⟨s,0,none⟩)))(l0:e<lo)(l1: ∀b∈L,b<lo):
  ∀(d:Nat) {h:Heap} {p:Option Addr} {c a:Nat} {ls:List Nat} {K:Value→Heap→Prop},X.n-lvl X.n X.N a<d→At h e ec→Sto h s L X→isN X.N a→lo≤h.size→Own h lo 1 p ls.length c (ls.map hv)→ls.Nodup→(∀b∈ls,2≤b∧isN X.N b)→
   (∀h' p' c' ls',Und X.N ls ls' a→Own h' lo 1 p' ls'.length c' (ls'.map hv)→Only (OwnB p) h h'→(∀b∈OwnB p',b∈OwnB p∨h.size≤b)→K (.slice p' ls'.length c') h')→
   Cl 60 [.pointer (some ⟨e,0,none⟩),.int .u32 (a:Int),.slice p ls.length c] h K:=by
 intro d
 induction d with
 |zero=>intro h p c a ls K hd;omega
 |succ d ih=>
  intro h p c a ls K hd A H ia hlo Ow ndl isl hK
  have ok:=H.ok
  have alt:=H.isN_lt ia
  refine F60.spec _ _ _ _ _ h K ?_
  refine bcase_of (fun g=> ?_) fun g=> ?_
  ·have g:(a:Int)≤1:=of_decide_eq_true g
   exact hK h p c ls ⟨fun b hb=>hb,ndl,isl,.inl (by omega),fun b hb hn=>absurd hb hn⟩ Ow (Only.refl _ _) fun b hb=> .inl hb
  have g: ¬(a:Int)≤1:=of_decide_eq_false g
  have a2:2≤a:=by omega
  have lsl:ls.length≤32770:=by
   have:ls.length≤(List.range 32770).length:=ndl.length_le_of_subset fun b hb=>List.mem_range.2 (H.isN_lt (isl b hb).2)
   simpa using this
  have rest:a∉ls→F60.wk8 ⟨e,0,none⟩ (a:Int) p ls.length c h K:=by
   intro hn
   unfold F60.wk8
   refine newK_at fun h1 A1 O1 z1=> ?_
   refine own_app (new:=[hv a]) (Ow.only O1 (by simp)) A1 rfl rfl (by omega) (by simp[Value.oneCell']) (by omega) fun p1 c1 h2 W2 O2 hb2=> ?_
   have e1:ls.length+1=(ls++[a]).length:=by simp
   have e2:ls.map hv++[hv a]=(ls++[a]).map hv:=by simp
   rw[e1,e2]at W2
   rw[e1]
   have sp: ∀{q:Option Addr} {l c':Nat} {cs:List Value} {hh:Heap},Own hh lo 1 q l c' cs→e∉OwnB q∧ ∀b∈OwnB q,b∉L:=fun {q l c' cs hh} W=>⟨fun hm=>by have:=(W.lt e hm).1;omega,fun b hb hm=>by have:=(W.lt b hb).1;have:=l1 b hm;omega⟩
   have A2:=(A.only O1 (by simp)).only O2 (sp Ow).1
   have H2:=(H.only0 O1).only O2 (sp Ow).2
   have r2:rd h2 ⟨e,0,none⟩=some (.pointer (some ⟨s,0,none⟩)):=by rw[At.rd A2,he]
   refine F23.spec _ h2 _ ?_
   refine ldP_of (by rw[add_mk];exact r2) (ldP_of rfl (sto_low H2 ia (ldI_of rfl ?_)))
   obtain⟨x,hx⟩: ∃x,nd X.N (a-2)=some x:=by
    rcases ia with q|q
    ·omega
    ·exact q
   obtain⟨q1,q2,q3,q4,q5,q6⟩:=ok.1.node _ x hx
   have el:low X.N a=x.2.1:=by unfold low;rw[if_neg (by omega),hx]
   have eh:high X.N a=x.2.2:=by unfold high;rw[if_neg (by omega),hx]
   have ev:lvl X.n X.N a=x.1:=by unfold lvl;rw[if_neg (by omega),hx]
   have z1':=O1.size
   have z2:=O2.size
   refine ih (a:=low X.N a) (by rw[el];omega) A2 H2 (by rw[el];exact q2) (by omega) W2 (List.nodup_append.2 ⟨ndl,by simp,fun x hx1 y hy e=>by simp at hy;subst hy e;exact hn hx1⟩) (fun b hb=> ?_) fun h3 p3 c3 l3 U3 W3 O3 hb3=>ldS_of rfl ?_
   ·rcases List.mem_append.1 hb with q|q
    ·exact isl b q
    ·have:b=a:=by simpa using q
     rw[this]
     exact⟨a2,ia⟩
   have A3:=A2.only O3 (sp W2).1
   have H3:=H2.only O3 (sp W2).2
   have r3:rd h3 ⟨e,0,none⟩=some (.pointer (some ⟨s,0,none⟩)):=by rw[At.rd A3,he]
   refine F23.spec _ h3 _ ?_
   have z3:=O3.size
   refine ldP_of (by rw[add_mk];exact r3) (ldP_of rfl (sto_high H3 ia (ldI_of rfl ?_)))
   refine ih (a:=high X.N a) (by rw[eh];omega) A3 H3 (by rw[eh];exact q3) (by omega) W3 U3.nd U3.is fun h4 p4 c4 l4 U4 W4 O4 hb4=>ldS_of rfl ?_
   refine hK h4 p4 c4 l4 (U3.two U4) W4 ((((O1.mono (by simp)).trans O2 fun b hb _=>hb).trans O3 fun b hb hl=> ?_).trans O4 fun b hb hl=> ?_) fun b hb=> ?_
   ·rcases hb2 b hb with q|q
    ·exact q
    ·omega
   ·rcases hb3 b hb with q|q
    ·rcases hb2 b q with q|q
     ·exact q
     ·omega
    ·omega
   ·rcases hb4 b hb with q|q
    ·rcases hb3 b q with q|q
     ·rcases hb2 b q with q|q
      ·exact .inl q
      ·exact .inr (by omega)
     ·exact .inr (by omega)
    ·exact .inr (by omega)
  unfold F60.wk4
  have main: ∀(k i:Nat),i+k=ls.length→a∉ls.take i→F60.wL4 (k+1) ⟨e,0,none⟩ (a:Int) p ls.length c (i:Int) h K:=by
   intro k
   induction k with
   |zero=>
    intro i hi hn
    rw[F60.sL4]
    rw[decide_eq_false (by omega),bcase_false]
    exact rest (by rw[List.take_of_length_le (by omega)]at hn;exact hn)
   |succ k ihk=>
    intro i hi hn
    rw[F60.sL4]
    obtain⟨b,hb⟩: ∃b,ls[i]? =some b:=⟨_,List.getElem?_eq_getElem (by omega)⟩
    rw[decide_eq_true (by omega),bcase_true]
    obtain⟨bb,eb,rr⟩:=Ow.rd (j:=i) (by simp;omega)
    rw[eb,ptrK_some,←eb,add_mk,Nat.zero_add,show Int.toNat (i:Int)*1=i by omega,rr,show IntKind.wrap .i64 ((i:Int)+1)=((i+1:Nat):Int) by rw[wrap_i64 (by omega) (by omega)];omega]
    refine⟨by omega,by omega,ldI_of (n:=(b:Int)) (by simp[hb]) (bcase_of (fun q=> ?_) fun q=> ?_)⟩
    ·have q:(b:Int)=(a:Int):=eq_of_beq q
     have:b=a:=by omega
     subst this
     exact hK h p c ls ⟨fun b hb=>hb,ndl,isl,.inr (List.mem_of_getElem? hb),fun b hb hn=>absurd hb hn⟩ Ow (Only.refl _ _) fun b hb=> .inl hb
    ·have q: ¬(b:Int)=(a:Int):=fun z=>by rw[z]at q;simp at q
     refine ihk (i+1) (by omega) ?_
     rw[List.take_add_one,hb]
     intro hm
     rcases List.mem_append.1 hm with z|z
     ·exact hn z
     ·simp at z
      omega
  exact⟨_,main ls.length 0 (by omega) (by simp)⟩
end
end
section
theorem opsF_none{s q r:Nat}(hn:q≠s∨4≤r): ∀{xs:List Nat} {F:Fns},opsF F s xs q r=F q r:=by
 intro xs
 induction xs with
 |nil=>intro F;rfl
 |cons o l ih=>
  intro F
  show opsF (opFns F s o) s l q r=_
  rw[ih]
  unfold opFns updF
  rw[if_neg]
  rintro ⟨a,b⟩
  omega
theorem var_none{s q r:Nat}(hn:q≠s∨4≤r):varFns (varFns (varFns (varFns noF s 0) s 1) s 2) s 3 q r=none:=by
 unfold varFns updF
 rw[if_neg (by rintro ⟨a,b⟩;omega),if_neg (by rintro ⟨a,b⟩;omega),if_neg (by rintro ⟨a,b⟩;omega),if_neg (by rintro ⟨a,b⟩;omega)]
 rfl
def Lone(F:Fns)(s k:Nat):Prop:= ∀q,q<4→ ∀r,r<6→(q≠s∨r≠k)→F q r=none
theorem Lone.few{h:Heap}{e t s k:Nat}{G:EG}{F:Fns}(Q:Qt h e G F t)(L:Lone F s k):Few G:=fun ks nd hks=>by
 have:ks.length≤[((G.E.ses s).hnd k:Int)].length:=nd.length_le_of_subset fun x hx=>by
  have fx:=(hks x).1 hx
  obtain⟨lo,M,S,Wn,p,c,R,-⟩:=Q.W.R
  have x0:=R.fx x fx
  obtain⟨a,ea⟩: ∃a:Nat,x=(a:Int):=⟨x.toNat,by omega⟩
  subst ea
  obtain⟨i,hi,r,hr,ht,he⟩:=(held Q.W.C).1 fx
  have:i=s∧r=k:=by
   apply Classical.byContradiction
   intro hn
   have:=(Q.md i hi r hr).1 (L i hi r hr (by
    by_cases z:i=s
    ·exact .inr fun w=>hn ⟨z,w⟩
    ·exact .inl z))
   rw[this]at ht
   cases ht
  rw[this.1,this.2]at he
  simp[he]
 simpa using Nat.le_trans this (by simp)
theorem clr_cal(x:Int):calV ⟨6,0,x,0,0,0,0⟩= .agg #[.int .i64 6,.int .i64 0,.int .i64 x,.int .i64 0,.int .i64 0,.int .i64 0,.int .u8 0]:=rfl
theorem cnt_cal(x:Int):calV ⟨4,0,0,x,0,0,0⟩= .agg #[.int .i64 4,.int .i64 0,.int .i64 0,.int .i64 x,.int .i64 0,.int .i64 0,.int .u8 0]:=rfl
theorem regV_at{E:Eng}{i r:Nat}(hi:i<4)(hr:r<6):regV E (i:Int) (r:Int)=(((E.ses i).hnd r:Int),(E.ses i).there r):=by
 unfold regV
 rw[if_pos ⟨by omega,by unfold isR;omega⟩,Int.toNat_natCast,Int.toNat_natCast]
theorem refu_empty{n r:Nat}{x:Ses}(hr:x.there r=false):refu n x ⟨4,0,0,(r:Int),0,0,0⟩=221:=by
 unfold refu
 rw[if_neg (by show ¬ ¬(1≤(4:Int)∧(4:Int)≤8);omega),if_neg (fun w=>by have:=w.1;unfold wrK at this;have:(1≤(4:Int)∧(4:Int)≤3)∨(4:Int)=6:=this;omega),if_pos]
 intro ok
 have:=(ok (r:Int) (by show(r:Int)∈[(r:Int)];simp)).2
 rw[Int.toNat_natCast,hr]at this
 cases this
section
variable {h h0:Heap}{e t k:Nat}{G:EG}{F:Fns}
theorem clears_end(Q:Qt h e G F t)(L:Lone F 1 k)(hk:k<4)(hF: ∃f,F 1 k=some f)(room:255*t+5<G.room)(ht:t+1<1000)(O:Only [] h0 h)(gl: ∀b∈ebl e G,h0.size≤b):
  F13.wk17 (some ⟨e,0,none⟩) (k:Int) h (Lawful h0):=by
 unfold F13.wk17
 obtain⟨f,hf⟩:=hF
 obtain⟨th,-⟩:=(Q.md 1 (by omega) k (by omega)).2 f hf
 refine reg28 Q.W.I ⟨_,_,rfl,?_⟩
 have rv:=regV_at (E:=G.E) (i:=1) (r:=k) (by omega) (by omega)
 rw[show((1:Nat):Int)=1 from rfl]at rv
 rw[rv,th]
 refine now_coll (s:=3) (c:=⟨7,0,0,0,0,0,0⟩) Q (by omega) (by show 0<256;omega) rfl (L.few Q) room ht fun h1 G1 Q1 S1 k1 sm1 Sw=>⟨_,_,_,rfl,cells2 fun h2 A2 O2=> ?_⟩
 rw[Bool.not_true,bcase_false,bcase_false]
 refine ldI_of (n:=0) (by rw[add_mk,At.rd A2];rfl) ?_
 rw[show((0:Int) !=0)=false from rfl,bcase_false]
 have W2:=Q1.W.only0 O2
 have S2:=S1.trans (Eside.only0 O2)
 refine store23 W2.I (ldP_of rfl (all59 W2.W.S fun h3 p3 c3 Ow3 O3=>ldS_of rfl ?_))
 have W3:=W2.only0 O3
 have hs1:(G1.E.ses 1).there k=true∧(G1.E.ses 1).hnd k=(G.E.ses 1).hnd k:=by rw[(sm1 1).1,(sm1 1).2];exact⟨th,rfl⟩
 have ia:isN G1.N ((G.E.ses 1).hnd k):=by
  have:=W3.rg 1 (by omega) k (by omega) hs1.1
  rw[hs1.2]at this
  exact this
 have lt3:=W3.lt
 have z3:=O3.size
 refine under60 (e:=e) (s:=G1.E.s) (lo:=h3.size) (L:=G1.L) (X:=XL G1.n G1.room G1.fo G1.gg G1.N G1.off) (ec:=rowV 100 (eC G1.E)) (rowV_get (by omega)) (lt3 e (mem_ebl.2 (.inl rfl))) (fun b hb=>lt3 b (mem_ebl.2 (.inr (.inl hb)))) (G1.n+1) (p:=none) (c:=0) (ls:=[]) (by show G1.n-lvl G1.n G1.N _<_;omega) W3.I W3.W.S ia (Nat.le_refl _) (Own.nil _ _ _) List.nodup_nil (fun b hb=>by cases hb) fun h4 p4 c4 l4 U4 Ow4 O4 hb4=>ldS_of rfl ?_
 have len:(liv G1.N).length=l4.length:=by
  refine List.Perm.length_eq ((List.perm_ext_iff_of_nodup ((liv_up (N:=G1.N) G1.N.length).imp fun h=>Nat.ne_of_lt h) U4.nd).2 fun a=> ?_)
  constructor
  ·intro ha
   obtain⟨a2,x,hx⟩:=mem_liv.1 ha
   obtain⟨keep,rs,mrs,mk,ex⟩:=Sw
   have hx0:=ex _ _ hx
   rw[nd_ret]at hx0
   have ka:keep a=true:=by
    rw[show a-2+2=a by omega]at hx0
    split at hx0
    ·next q=>exact q
    ·cases hx0
   have P:=(mk.mi (fun b=>b<2∨b∈l4) (fun r hr=> ?_) fun i y hy hp=> ?_).1 a ka
   ·exact P.resolve_left (by omega)
   ·obtain⟨r1,r2⟩:=(mrs r).1 hr
    obtain⟨i,hi,q,hq,tq,hq2⟩:=(held Q.W.C).1 r2
    have e1:i=1∧q=k:=by
     apply Classical.byContradiction
     intro hn
     have:=(Q.md i hi q hq).1 (L i hi q hq (by
      by_cases z:i=1
      ·exact .inr fun w=>hn ⟨z,w⟩
      ·exact .inl z))
     rw[this]at tq
     cases tq
    rw[e1.1,e1.2]at hq2
    rw[←hq2]
    exact U4.a
   ·rcases hp with z|z
    ·omega
    have iy:=(U4.is _ z).2
    obtain⟨y',hy'⟩: ∃y',nd G1.N i=some y':=by
     rcases iy with z|z
     ·omega
     ·exact z
    have e2:=ex _ _ hy'
    rw[nd_ret]at e2
    have e3:y'=y:=by
     split at e2
     ·rw[hy]at e2;injection e2 with e2;exact e2.symm
     ·cases e2
    subst e3
    have el:low G1.N (i+2)=y'.2.1:=by unfold low;rw[if_neg (by omega),show i+2-2=i by omega,hy']
    have eh:high G1.N (i+2)=y'.2.2:=by unfold high;rw[if_neg (by omega),show i+2-2=i by omega,hy']
    obtain⟨c1,c2⟩:=U4.cl (i+2) z (by simp)
    have c1:low G1.N (i+2)<2∨low G1.N (i+2)∈l4:=c1
    have c2:high G1.N (i+2)<2∨high G1.N (i+2)∈l4:=c2
    rw[el]at c1
    rw[eh]at c2
    exact⟨c1,c2⟩
  ·intro ha
   obtain⟨a2,q⟩:=U4.is a ha
   refine mem_liv.2 ⟨a2,?_⟩
   rcases q with z|z
   ·omega
   ·exact z
 rw[show(XL G1.n G1.room G1.fo G1.gg G1.N G1.off).N=G1.N from rfl,len,show(((l4.length:Nat):Int)==((l4.length:Nat):Int))=true by simp,bcase_true]
 have W4:=W3.only0 (O4.mono (by simp[OwnB]))
 refine store23 W4.I (ldP_of rfl (once22 W4.W.S fun h5 O5=>ldB_of rfl ?_))
 have SS:=((S2.trans (Eside.only0 O3)).trans (Eside.only0 (O4.mono (by simp[OwnB])))).trans (Eside.only0 O5)
 exact⟨rfl,SS.only O gl⟩
theorem clears_loop(hk:k<4): ∀(d i:Nat) {h:Heap} {G:EG} {F:Fns} {t:Nat},i+d=4→Qt h e G F t→t≤14+i→G.room=16384→(∀q,q<4→ ∀r,r<6→(q≠1∨r≠k)→(q≠1∨4≤r∨r<i)→F q r=none)→(∃f,F 1 k=some f)→Only [] h0 h→(∀b∈ebl e G,h0.size≤b)→
  F13.wL10 (d+1) (some ⟨e,0,none⟩) (k:Int) (i:Int) h (Lawful h0):=by
 intro d
 induction d with
 |zero=>
  intro i h G F t hi Q ht rm hN hF O gl
  rw[F13.sL10]
  rw[decide_eq_false (by omega),bcase_false]
  exact clears_end Q (fun q hq r hr hn=>hN q hq r hr hn (by omega)) hk hF (by omega) (by omega) O gl
 |succ d ih=>
  intro i h G F t hi Q ht rm hN hF O gl
  rw[F13.sL10]
  rw[decide_eq_true (by omega),bcase_true,show IntKind.wrap .i64 ((i:Int)+1)=((i+1:Nat):Int) by rw[wrap_i64 (by omega) (by omega)];omega]
  refine bcase_of (fun g=> ?_) fun g=> ?_
  ·have g:(i:Int)=(k:Int):=eq_of_beq g
   exact ih (i+1) (by omega) Q (by omega) rm (fun q hq r hr h1 h2=>hN q hq r hr h1 (by omega)) hF O gl
  have g: ¬(i:Int)=(k:Int):=fun z=>by rw[z]at g;simp at g
  rw[←clr_cal]
  refine now_clr (s:=1) (d:=i) (c:=⟨6,0,(i:Int),0,0,0,0⟩) Q (by omega) (by omega) (by show 0<256;omega) rfl rfl (by omega) (by omega) fun h1 G1 Q1 S1 k1 sm1=>⟨_,_,_,rfl,cells2 fun h2 A2 O2=> ?_⟩
  have Q2:=Q1.only0 O2
  have S2:=S1.trans (Eside.only0 O2)
  refine reg28 Q2.W.I ⟨_,_,rfl,?_⟩
  have rv:=regV_at (E:=G1.E) (i:=1) (r:=i) (by omega) (by omega)
  rw[show((1:Nat):Int)=1 from rfl]at rv
  have ht0:(G1.E.ses 1).there i=false:=(Q2.md 1 (by omega) i (by omega)).1 (by unfold updF;rw[if_pos ⟨rfl,rfl⟩])
  rw[rv,ht0,Bool.not_true,bcase_false]
  refine ldI_of (n:=0) (by rw[add_mk,At.rd A2];rfl) ?_
  rw[show((0:Int) !=0)=false from rfl,bcase_false,bcase_false,←cnt_cal]
  have fin: ∀h3,Only [] h2 h3→F13.wL10 (d+1) (some ⟨e,0,none⟩) (k:Int) ((i+1:Nat):Int) h3 (Lawful h0):=fun h3 O3=>by
   have S3:=S2.trans (Eside.only0 O3)
   refine ih (i+1) (by omega) (Q2.only0 O3) (by omega) (k1.2.2.1.trans rm) (fun q hq r hr h1 h2=> ?_) ?_ (S3.only O gl) (S3.ge O.size gl)
   ·unfold updF
    split
    ·rfl
    ·next hz=>exact hN q hq r hr h1 (by omega)
   ·obtain⟨f,hf⟩:=hF
    refine⟨f,?_⟩
    unfold updF
    rw[if_neg (by omega)]
    exact hf
  refine e_begin (c:=⟨4,0,0,(i:Int),0,0,0⟩) (i:=1) Q2.W (by show 0<256;omega) (fun w=>by omega) (fun q hq eq hp=> ?_) (fun q hq eq hp hr h3 O3=> ?_) fun q hq eq hp hr=> ?_
  ·rw[Q2.pend q hq]at hp;cases hp
  ·obtain rfl:q=1:=by omega
   rw[refu_empty ht0]
   exact ldI_of rfl (by rw[show((221:Int) !=221)=false from rfl,bcase_false];exact fin h3 O3)
  ·obtain rfl:q=1:=by omega
   rw[refu_empty ht0]at hr
   cases hr
end
set_option maxRecDepth 100000 in
theorem law13(h:Heap)(bp:Option Addr)(bc:Nat)(zs:List Int)(hI:Ints h .u8 bp zs)(hz: ∀z∈zs,IntKind.min .u8≤z∧z≤IntKind.max .u8)(_:(zs.length:Int)≤maxLen)(x1:Int)(r1:IntKind.min .u8≤x1∧x1≤IntKind.max .u8):
  Cl 13 [.slice bp zs.length bc,.int .u8 x1] h (Lawful h):=by
 obtain⟨k,hk,ek⟩:=mod_b r1 (d:=4) (by omega) (by omega)
 refine F13.spec _ _ _ _ h _ ?_
 rw[ek]
 refine known40 fun h1 O1=>ldB_of rfl ?_
 rw[Bool.not_true,bcase_false]
 refine bcase_of (fun _=>⟨rfl,O1⟩) fun c=> ?_
 have c: ¬(10:Int)<(zs.length:Int):=of_decide_eq_false c
 refine new18 (n:=8) (room:=16384) (by omega) (by omega) (by omega) (by omega) fun h2 e G W2 s2 a2 n2 m2 f2 g2 _ N2 j2 w2 _ la2 M2 b2 O2=>⟨_,_,rfl,?_⟩
 rw[show((0:Int) !=0)=false from rfl,bcase_false]
 have O12:=O1.trans O2 (by simp)
 have z1:=O1.size
 have gl: ∀b∈ebl e G,h.size≤b:=fun b hb=>by have:=b2 b hb;omega
 have Q2:=qt_new W2 s2 a2 N2 j2 la2 M2
 have exs:=toNats hz
 obtain⟨xs,ex⟩: ∃xs,xs=zs.map Int.toNat:=⟨_,rfl⟩
 have lx:xs.length=zs.length:=by rw[ex];simp
 rw[←ex]at exs
 rw[←lx]
 refine fill55 (s:=1) (xs:=xs) Q2 (by omega) (by rw[n2];omega) (by rw[ex];exact toNat_lt hz) (by omega) (by rw[m2];omega) (by omega) (fun hh fr=> ?_) fun h3 G3 Q3 S3 k3=>ldB_of rfl ?_
 ·rw[←exs]
  exact hI.only ((O12.mono (by simp)).trans (fr (ebl e G) fun q hq=>hq) fun b hb _=>hb) gl
 rw[Bool.not_true,bcase_false]
 refine⟨by omega,?_⟩
 unfold F13.wk10
 refine⟨_,clears_loop (k:=k) (by omega) 4 0 (by omega) Q3 (by omega) (k3.2.2.1.trans m2) (fun q hq r hr _ h2=> ?_) (opsF_has (var_has noF 1) k (by omega)) (S3.only O12 gl) (S3.ge O12.size gl)⟩
 rw[opsF_none (by omega)]
 exact var_none (by omega)
end
end Go.Proofs.YtnofenejoebkhaaGreat.Ev
