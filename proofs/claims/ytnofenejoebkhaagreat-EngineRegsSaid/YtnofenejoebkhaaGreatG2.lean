/- PART 2 OF WHAT THE LAW EngineRegs STANDS ON: NodF5, BitsF5, EvJ, EvK, EvL, FunF5, FunA5, FunB5, FunC5, FunD5, MemF5, MemC5, TabF5, TabC5, TabD5, TabP5, NodA5, NodB5, EvN, NodC5, OrdF5, OrdC5, CacF5, CacC5, CacP5, EvM, NodD5, NodG5. Conditions: none but those that each lemma states. -/
import Derived.Test.YtnofenejoebkhaaGreatG1
import Derived.Laws.OwnMore
import Derived.WalkKit
import Derived.ProofKit
import Derived.OpenShut
import Derived.Carry
import Derived.Deep.Slices
import Derived.Laws.AppendOwn
namespace Go.Proofs.YtnofenejoebkhaaGreat.Ev
open Go
section
def F61.T:Hint:=⟨[(5,[0,1])],[]⟩
section
variable (a b:Int)(h:Heap)(K:KK)
def F61.wk5:Prop:=Cl 108 [.int .i64 a] h fun v1 h2=>ldP (some v1) fun p3=>newK h2 (.cells #[.int .i64 b,.pointer p3,.slice none 0 0,.slice none 0 0,.pointer none,.map none,.pointer none,.bool false] 185) fun b4 h5=>Cl 110 [.int .i64 256] h5 fun v6 h7=>ldI .i64 (some v6) fun n8=>Cl 89 [.int .i64 n8] h7 fun v9 h10=>ldP (some v9) fun p11=>Cl 109 [.pointer p11,.int .i64 0,.int .i64 256] h10 fun v12 h13=> ∃p14:Option Addr,∃n15:Int,v12=(.tuple #[.pointer p14,.int .i64 n15])∧stK h13 (((Addr.mk b4 0 none).add 6).add 0) (.pointer p14) fun h16=>Cl 111 [.pointer (some (Addr.mk b4 0 none)),.int .i64 32,.slice none 0 0] h16 fun v17 h18=>v17=(.tuple #[])∧K (.tuple #[.pointer (some (Addr.mk b4 0 none)),.int .i64 0]) h18
theorem F61.spec(a b:Int)(h:Heap)(K:KK)(H:bcase (decide (a<(1:Int))) (K (.tuple #[.pointer none,.int .i64 40]) h) (bcase (decide (a>(8:Int))) (K (.tuple #[.pointer none,.int .i64 40]) h) (bcase (decide (b<(1:Int))) (K (.tuple #[.pointer none,.int .i64 60]) h) (bcase (decide (b>(32768:Int))) (K (.tuple #[.pointer none,.int .i64 60]) h) (F61.wk5 a b h K))))):Cl 61 [.int .i64 a,.int .i64 b] h K:=cT F61.T Tryz.func61 H
end
theorem F74.spec(b:Addr)(a:Int)(h:Heap)(K:KK)(H:bcase (decide (a≤(1:Int))) (K (.bool true) h) (Cl 117 [.pointer (some b),.int .u32 a] h fun v1 h2=>ldP (some v1) fun p3=>K (.bool (!(Option.isNone p3))) h2)):Cl 74 [.pointer (some b),.int .u32 a] h K:=cN Tryz.func74 H
theorem F117.spec(b:Addr)(a:Int)(h:Heap)(K:KK)(H:bcase (decide (a<(2:Int))) (K (.pointer none) h) (ldS (rd h (b.add 2)) fun _ l2 _=>bcase (decide ((IntKind.wrap .i64 ((IntKind.wrap .i64 a)-(2:Int)))≥(Nat.cast l2:Int))) (K (.pointer none) h) (ldS (rd h (b.add 2)) fun p4 l5 _=>ptrK p4 fun a7=>0≤(IntKind.wrap .u32 (a-(2:Int)))∧(IntKind.wrap .u32 (a-(2:Int)))<(Nat.cast l5:Int)∧ldB (rd h ((a7.add (Int.toNat (IntKind.wrap .u32 (a-(2:Int)))*4)).add 0)) fun b8=>bcase (!b8) (K (.pointer none) h) (ldS (rd h (b.add 2)) fun p9 l10 _=>ptrK p9 fun a12=>0≤(IntKind.wrap .u32 (a-(2:Int)))∧(IntKind.wrap .u32 (a-(2:Int)))<(Nat.cast l10:Int)∧K (.pointer (some (a12.add (Int.toNat (IntKind.wrap .u32 (a-(2:Int)))*4)))) h)))):Cl 117 [.pointer (some b),.int .u32 a] h K:=cN Tryz.func117 H
theorem F71.spec(a:Addr)(b:Int)(h:Heap)(K:KK)(H:bcase (decide (b≤(1:Int))) (Cl 75 [.pointer (some a)] h fun v1 h2=>ldI .i64 (some v1) fun n3=>K (.int .i64 n3) h2) (Cl 117 [.pointer (some a),.int .u32 b] h fun v4 h5=>ldP (some v4) fun p6=>bcase (!(Option.isNone p6)) (ptrK p6 fun a7=>ldI .i64 (rd h5 (a7.add 1)) fun n8=>K (.int .i64 n8) h5) (K (.int .i64 (-1)) h5))):Cl 71 [.pointer (some a),.int .u32 b] h K:=cN Tryz.func71 H
theorem F72.spec(b:Addr)(a:Int)(h:Heap)(K:KK)(H:Cl 117 [.pointer (some b),.int .u32 a] h fun v1 h2=>ldP (some v1) fun p3=>bcase (!(Option.isNone p3)) (ptrK p3 fun a4=>ldI .u32 (rd h2 (a4.add 2)) fun n5=>K (.int .u32 n5) h2) (Cl 118 [.pointer (some b),.int .u32 a] h2 fun v6 h7=>ldI .i64 (some v6) fun n8=>K (.int .u32 (bitsI .and .u32 a (IntKind.wrap .u32 n8))) h7)):Cl 72 [.pointer (some b),.int .u32 a] h K:=cN Tryz.func72 H
theorem F73.spec(b:Addr)(a:Int)(h:Heap)(K:KK)(H:Cl 117 [.pointer (some b),.int .u32 a] h fun v1 h2=>ldP (some v1) fun p3=>bcase (!(Option.isNone p3)) (ptrK p3 fun a4=>ldI .u32 (rd h2 (a4.add 3)) fun n5=>K (.int .u32 n5) h2) (Cl 118 [.pointer (some b),.int .u32 a] h2 fun v6 h7=>ldI .i64 (some v6) fun n8=>K (.int .u32 (bitsI .and .u32 a (IntKind.wrap .u32 n8))) h7)):Cl 73 [.pointer (some b),.int .u32 a] h K:=cN Tryz.func73 H
def F199.T:Hint:=⟨[(3,[0,1,6,14,15])],[]⟩
section
variable (n:Nat)(c:Addr)(d f b a:Int)(h:Heap)(K:KK)
def F199.wL3:Prop:=Lp Tryz.f199 F199.T [1,1,0,1,0] n [(0,(.pointer (some c))),(1,(.int .u64 d)),(6,(.int .i64 f)),(14,(.int .i64 b)),(15,(.int .i64 a))] h K
theorem F199.sL3:F199.wL3 (n+1) c d f b a h K=(bcase (decide (a<b)) (Cl 246 [.int .u64 d,.int .i64 f] h fun v1 h2=>ldI .i64 (some v1) fun n3=>(f≠0∧ldP (rd h2 (c.add 4)) fun p4=>Cl 247 [.pointer p4,.int .i64 (Int.tmod (IntKind.wrap .i64 (n3+a)) f)] h2 fun v5 h6=>ldI .u64 (some v5) fun n7=>bcase (n7==d) (ldM (rd h6 (c.add 5)) fun r8=>lookK h6 r8 .i64 .i64 (Int.tmod (IntKind.wrap .i64 (n3+a)) f) fun o9=>ldI .u32 (some (lkV (.int .u32 0) o9)) fun n10=>K (.tuple #[.int .u32 n10,.bool true]) h6) (bcase (n7==(0:Int)) (K (.tuple #[.int .u32 0,.bool false]) h6) (F199.wL3 n c d f b (IntKind.wrap .i64 (a+(1:Int))) h6 K)))) (K (.tuple #[.int .u32 0,.bool false]) h)):=by kernel_rfl
def F199.wk3:Prop:=(∃m,F199.wL3 m c d f b a h K)
theorem F199.spec(H:ldP (rd h (c.add 4)) fun p1=>Cl 200 [.pointer p1] h fun v2 h3=>ldI .i64 (some v2) fun n4=>F199.wk3 c d n4 n4 (0:Int) h3 K):Cl 199 [.pointer (some c),.int .u64 d] h K:=cT F199.T Tryz.func199 H
end
def F197.T:Hint:=⟨[(3,[6,7]),(4,[6])],[]⟩
section
variable (n:Nat)(c:Addr)(d:Int)(a:Option Addr)(b:Value)(h:Heap)(K:KK)
def F197.wk4:Prop:=Cl 243 [.pointer a] h fun v1 h2=> ∃n3:Int,∃n4:Int,v1=(.tuple #[.int .i64 n3,.int .i64 n4])∧Cl 244 [.pointer a] h2 fun v5 h6=>ldB (some v5) fun b7=>K (.tuple #[.int .i64 n3,.bool b7]) h6
def F197.wL3:Prop:=Lp Tryz.f197 F197.T [1,1,0,1,0] n [(6,(.pointer a)),(7,b)] h K
theorem F197.sL3:F197.wL3 (n+1) a b h K=(dynK Tryz.prog X b [] h fun v1 h2=>ldB (some v1) fun b3=>bcase (!b3) (F197.wL3 n a b h2 K) (F197.wk4 a h2 K)):=by kernel_rfl
def F197.wk3:Prop:=(∃m,F197.wL3 m a b h K)
theorem F197.spec(H:ldP (rd h (c.add 4)) fun p1=>Cl 241 [.pointer p1,.int .u64 d] h fun v2 h3=>ldP (some v2) fun p4=>F197.wk3 p4 (.func (.func 242) #[.pointer p4] #[]) h3 K):Cl 197 [.pointer (some c),.int .u64 d] h K:=cT F197.T Tryz.func197 H
end
theorem F160.spec(f:Addr)(g:Int)(a:Bool)(b c d:Int)(h:Heap)(K:KK)(H:newK h (.cells #[.bool a,.int .i64 b,.int .u32 c,.int .u32 d] 195) fun b1 h2=>ldI .i64 (rd h2 ((Addr.mk b1 0 none).add 1)) fun n3=>ldI .u32 (rd h2 ((Addr.mk b1 0 none).add 2)) fun n4=>ldI .u32 (rd h2 ((Addr.mk b1 0 none).add 3)) fun n5=>Cl 198 [.int .i64 n3,.int .u32 n4,.int .u32 n5] h2 fun v6 h7=>ldI .u64 (some v6) fun n8=>Cl 197 [.pointer (some f),.int .u64 n8] h7 fun v9 h10=> ∃n11:Int,∃b12:Bool,v9=(.tuple #[.int .i64 n11,.bool b12])∧ldM (rd h10 (f.add 5)) fun r13=>updK h10 r13 .i64 .i64 n11 (.int .u32 g) fun h14=>K (.tuple #[]) h14):Cl 160 [.pointer (some f),.int .u32 g,.agg #[.bool a,.int .i64 b,.int .u32 c,.int .u32 d]] h K:=cN Tryz.func160 H
def F111.T:Hint:=⟨[(4,[0,6,29,30,31]),(8,[0,6]),(9,[0,6,42,43,44])],[]⟩
section
variable (n:Nat)(f:Addr)(v:Int)(u:Option Addr)(s t:Nat)(q:Option Nat)(i:Option Addr)(g o:Nat)(r j:Int)(c:Option Addr)(b d:Nat)(l a:Int)(h:Heap)(K:KK)
def F111.wL9:Prop:=Lp Tryz.f111 F111.T [1,1,1,1,1,0] n [(0,(.pointer (some f))),(6,(.map q)),(42,(.slice c b d)),(43,(.int .i64 l)),(44,(.int .i64 a))] h K
theorem F111.sL9:F111.wL9 (n+1) f q c b d l a h K=(bcase (decide (a<l)) (ptrK c fun a1=>0≤a∧a<(Nat.cast b:Int)∧ldB (rd h ((a1.add (Int.toNat a*4)).add 0)) fun b2=>ldI .i64 (rd h ((a1.add (Int.toNat a*4)).add 1)) fun n3=>ldI .u32 (rd h ((a1.add (Int.toNat a*4)).add 2)) fun n4=>ldI .u32 (rd h ((a1.add (Int.toNat a*4)).add 3)) fun n5=>newK h (.cells #[.bool false,.int .i64 0,.int .u32 0,.int .u32 0] 195) fun b6 h7=>stK h7 ((Addr.mk b6 0 none).add 0) (.bool b2) fun h8=>stK h8 ((Addr.mk b6 0 none).add 1) (.int .i64 n3) fun h9=>stK h9 ((Addr.mk b6 0 none).add 2) (.int .u32 n4) fun h10=>stK h10 ((Addr.mk b6 0 none).add 3) (.int .u32 n5) fun h11=>lookK h11 q .u32 .u32 (IntKind.wrap .u32 (IntKind.wrap .i64 (a+(2:Int)))) fun o12=>ldV (some (lkV (.agg #[]) o12)) fun v13=>newK h11 (.cells #[] 218) fun b14 h15=>storeE Tryz.prog 218 (some (Addr.mk b14 0 none)) v13 h15 fun h16=>ldB (rd h16 ((Addr.mk b6 0 none).add 0)) fun b17=>bcase b17 (bcase (!(Option.isSome o12)) (ldB (rd h16 ((Addr.mk b6 0 none).add 0)) fun b18=>ldI .i64 (rd h16 ((Addr.mk b6 0 none).add 1)) fun n19=>ldI .u32 (rd h16 ((Addr.mk b6 0 none).add 2)) fun n20=>ldI .u32 (rd h16 ((Addr.mk b6 0 none).add 3)) fun n21=>Cl 160 [.pointer (some f),.int .u32 (IntKind.wrap .u32 (IntKind.wrap .i64 (a+(2:Int)))),.agg #[.bool b18,.int .i64 n19,.int .u32 n20,.int .u32 n21]] h16 fun v22 h23=>v22=(.tuple #[])∧F111.wL9 n f q c b d l (IntKind.wrap .i64 (a+(1:Int))) h23 K) (F111.wL9 n f q c b d l (IntKind.wrap .i64 (a+(1:Int))) h16 K)) (F111.wL9 n f q c b d l (IntKind.wrap .i64 (a+(1:Int))) h16 K)) (K (.tuple #[]) h)):=by kernel_rfl
def F111.wk9:Prop:=(∃m,F111.wL9 m f q c b d l a h K)
def F111.wk8:Prop:=ldS (rd h (f.add 2)) fun p1 l2 c3=>F111.wk9 f q p1 l2 c3 (Nat.cast l2:Int) (0:Int) h K
def F111.wL4:Prop:=Lp Tryz.f111 F111.T [1,1,1,0,1,0] n [(0,(.pointer (some f))),(6,(.map q)),(29,(.slice i g o)),(30,(.int .i64 r)),(31,(.int .i64 j))] h K
theorem F111.sL4:F111.wL4 (n+1) f q i g o r j h K=(bcase (decide (j<r)) (ptrK i fun a1=>0≤j∧j<(Nat.cast g:Int)∧ldI .u32 (rd h (a1.add (Int.toNat j*1))) fun n2=>updK h q .u32 .u32 n2 (.agg #[]) fun h3=>F111.wL4 n f q i g o r (IntKind.wrap .i64 (j+(1:Int))) h3 K) (F111.wk8 f q h K)):=by kernel_rfl
def F111.wk4:Prop:=(∃m,F111.wL4 m f q i g o r j h K)
theorem F111.spec(H:Cl 89 [.int .i64 v] h fun v1 h2=>ldP (some v1) fun p3=>Cl 159 [.pointer p3,.int .i64 0,.int .i64 v] h2 fun v4 h5=> ∃p6:Option Addr,∃n7:Int,v4=(.tuple #[.pointer p6,.int .i64 n7])∧stK h5 ((f.add 4).add 0) (.pointer p6) fun h8=>newK h8 (.map #[] 0) fun b9 h10=>stK h10 ((f.add 5).add 0) (.map (some b9)) fun h11=>newK h11 (.map #[] 0) fun b12 h13=>F111.wk4 f (some b12) u s t (Nat.cast s:Int) (0:Int) h13 K):Cl 111 [.pointer (some f),.int .i64 v,.slice u s t] h K:=cT F111.T Tryz.func111 H
end
def F161.T:Hint:=⟨[(9,[0,1,2,3]),(17,[0,1,2,3])],[(13,[[(0,[]),(2,[]),(3,[]),(4,[]),(5,[]),(1,[2,3,4,5]),(6,[])]]),(15,[[(0,[]),(4,[]),(5,[]),(6,[]),(7,[]),(1,[4,5,6,7]),(2,[]),(3,[]),(8,[2,3]),(9,[])]])]⟩
section
variable (a:Addr)(b c d:Int)(h:Heap)(K:KK)
def F161.wk17:Prop:=Cl 201 [.pointer (some a)] h fun v1 h2=>ldI .u32 (some v1) fun n3=>ldS (rd h2 (a.add 2)) fun p4 l5 _=>ptrK p4 fun a7=>0≤(IntKind.wrap .u32 (n3-(2:Int)))∧(IntKind.wrap .u32 (n3-(2:Int)))<(Nat.cast l5:Int)∧stK h2 ((a7.add (Int.toNat (IntKind.wrap .u32 (n3-(2:Int)))*4)).add 0) (.bool true) fun h8=>stK h8 ((a7.add (Int.toNat (IntKind.wrap .u32 (n3-(2:Int)))*4)).add 1) (.int .i64 b) fun h9=>stK h9 ((a7.add (Int.toNat (IntKind.wrap .u32 (n3-(2:Int)))*4)).add 2) (.int .u32 c) fun h10=>stK h10 ((a7.add (Int.toNat (IntKind.wrap .u32 (n3-(2:Int)))*4)).add 3) (.int .u32 d) fun h11=>ldS (rd h11 (a.add 2)) fun p12 l13 _=>ptrK p12 fun a15=>0≤(IntKind.wrap .u32 (n3-(2:Int)))∧(IntKind.wrap .u32 (n3-(2:Int)))<(Nat.cast l13:Int)∧ldB (rd h11 ((a15.add (Int.toNat (IntKind.wrap .u32 (n3-(2:Int)))*4)).add 0)) fun b16=>ldI .i64 (rd h11 ((a15.add (Int.toNat (IntKind.wrap .u32 (n3-(2:Int)))*4)).add 1)) fun n17=>ldI .u32 (rd h11 ((a15.add (Int.toNat (IntKind.wrap .u32 (n3-(2:Int)))*4)).add 2)) fun n18=>ldI .u32 (rd h11 ((a15.add (Int.toNat (IntKind.wrap .u32 (n3-(2:Int)))*4)).add 3)) fun n19=>Cl 160 [.pointer (some a),.int .u32 n3,.agg #[.bool b16,.int .i64 n17,.int .u32 n18,.int .u32 n19]] h11 fun v20 h21=>v20=(.tuple #[])∧K (.tuple #[.int .u32 n3,.int .i64 0]) h21
def F161.wk9:Prop:=Cl 198 [.int .i64 b,.int .u32 c,.int .u32 d] h fun v1 h2=>ldI .u64 (some v1) fun n3=>Cl 199 [.pointer (some a),.int .u64 n3] h2 fun v4 h5=> ∃n6:Int,∃b7:Bool,v4=(.tuple #[.int .u32 n6,.bool b7])∧bcase b7 (K (.tuple #[.int .u32 n6,.int .i64 0]) h5) (ldI .i64 (rd h5 (a.add 0)) fun n8=>Cl 45 [.pointer (some a)] h5 fun v9 h10=>ldI .i64 (some v9) fun n11=>((.pointer (some a))=((.pointer (some a)):Value)∧((.pointer (some a))=((.pointer (some a)):Value)∧((.pointer (some (a.add 0)))=((.pointer (some (a.add 0))):Value)∧ldI .i64 (rd h10 (a.add 0)) fun n12=>((.int .i64 n12)=((.int .i64 n8):Value)∧bcase (decide (n11≥n8)) (K (.tuple #[.int .u32 0,.int .i64 60]) h10) (ldP (rd h10 (a.add 4)) fun p13=>Cl 45 [.pointer (some a)] h10 fun v14 h15=>ldI .i64 (some v14) fun n16=>((.pointer (some a))=((.pointer (some a)):Value)∧((.pointer (some a))=((.pointer (some a)):Value)∧((.pointer (some (a.add 4)))=((.pointer (some (a.add 4))):Value)∧ldP (rd h15 (a.add 4)) fun p17=>((.pointer p17)=((.pointer p13):Value)∧Cl 200 [.pointer p13] h15 fun v18 h19=>ldI .i64 (some v18) fun n20=>((.int .i64 (IntKind.wrap .i64 (n16+(1:Int))))=((.int .i64 (IntKind.wrap .i64 (n16+(1:Int)))):Value)∧((.int .i64 (IntKind.wrap .i64 ((2:Int)*(IntKind.wrap .i64 (n16+(1:Int))))))=((.int .i64 (IntKind.wrap .i64 ((2:Int)*(IntKind.wrap .i64 (n16+(1:Int)))))):Value)∧bcase (decide ((IntKind.wrap .i64 ((2:Int)*(IntKind.wrap .i64 (n16+(1:Int)))))>n20)) (ldP (rd h19 (a.add 4)) fun p21=>Cl 200 [.pointer p21] h19 fun v22 h23=>ldI .i64 (some v22) fun n24=>Cl 111 [.pointer (some a),.int .i64 (IntKind.wrap .i64 ((2:Int)*n24)),.slice none 0 0] h23 fun v25 h26=>v25=(.tuple #[])∧F161.wk17 a b c d h26 K) (F161.wk17 a b c d h19 K)))))))))))))
theorem F161.spec(a:Addr)(b c d:Int)(h:Heap)(K:KK)(H:bcase (decide (b<(0:Int))) (K (.tuple #[.int .u32 0,.int .i64 40]) h) (Cl 75 [.pointer (some a)] h fun v1 h2=>ldI .i64 (some v1) fun n3=>bcase (decide (b≥n3)) (K (.tuple #[.int .u32 0,.int .i64 40]) h2) (Cl 74 [.pointer (some a),.int .u32 c] h2 fun v4 h5=>ldB (some v4) fun b6=>bcase (!b6) (K (.tuple #[.int .u32 0,.int .i64 101]) h5) (Cl 74 [.pointer (some a),.int .u32 d] h5 fun v7 h8=>ldB (some v7) fun b9=>bcase (!b9) (K (.tuple #[.int .u32 0,.int .i64 101]) h8) (Cl 71 [.pointer (some a),.int .u32 c] h8 fun v10 h11=>ldI .i64 (some v10) fun n12=>bcase (decide (n12≤b)) (K (.tuple #[.int .u32 0,.int .i64 100]) h11) (Cl 71 [.pointer (some a),.int .u32 d] h11 fun v13 h14=>ldI .i64 (some v13) fun n15=>bcase (decide (n15≤b)) (K (.tuple #[.int .u32 0,.int .i64 100]) h14) (bcase (c==d) (K (.tuple #[.int .u32 c,.int .i64 0]) h14) (F161.wk9 a b c d h14 K)))))))):Cl 161 [.pointer (some a),.int .i64 b,.int .u32 c,.int .u32 d] h K:=cT F161.T Tryz.func161 H
end
def F45.T:Hint:=⟨[],[(1,[[(0,[]),(1,[]),(2,[]),(3,[]),(4,[]),(5,[]),(6,[]),(7,[]),(8,[]),(9,[]),(10,[]),(11,[])]])]⟩
theorem F45.spec(a:Addr)(h:Heap)(K:KK)(H:ldS (rd h (a.add 2)) fun _ l2 _=>ldS (rd h (a.add 3)) fun _ l5 _=>K (.int .i64 (IntKind.wrap .i64 ((Nat.cast l2:Int)-(Nat.cast l5:Int)))) h):Cl 45 [.pointer (some a)] h K:=cT F45.T Tryz.func45 H
theorem F201.spec(b:Addr)(h:Heap)(K:KK)(H:ldS (rd h (b.add 3)) fun _ l2 _=>bcase (decide ((Nat.cast l2:Int)>(0:Int))) (ldS (rd h (b.add 3)) fun p4 l5 _=>ptrK p4 fun a7=>0≤(IntKind.wrap .i64 ((Nat.cast l2:Int)-(1:Int)))∧(IntKind.wrap .i64 ((Nat.cast l2:Int)-(1:Int)))<(Nat.cast l5:Int)∧ldI .u32 (rd h (a7.add (Int.toNat (IntKind.wrap .i64 ((Nat.cast l2:Int)-(1:Int)))*1))) fun n8=>ldS (rd h (b.add 3)) fun p9 _ c11=>0≤(IntKind.wrap .i64 ((Nat.cast l2:Int)-(1:Int)))∧(IntKind.wrap .i64 ((Nat.cast l2:Int)-(1:Int)))≤(Nat.cast c11:Int)∧stK h ((b.add 3).add 0) (.slice (if c11=0 then p9 else Option.map (fun a=>Addr.add a (0*1)) p9) (Int.toNat (IntKind.wrap .i64 ((Nat.cast l2:Int)-(1:Int)))-0) (c11-0)) fun h12=>K (.int .u32 n8) h12) (ldS (rd h (b.add 2)) fun p13 l14 c15=>newK h (.cells #[.bool false,.int .i64 0,.int .u32 0,.int .u32 0] 195) fun b16 h17=>appK h17 195 4 24 #[.bool false,.int .i64 0,.int .u32 0,.int .u32 0] p13 l14 c15 (some (Addr.mk b16 0 none)) 1 fun p18 l19 c20 h21=>stK h21 ((b.add 2).add 0) (.slice p18 l19 c20) fun h22=>ldS (rd h22 (b.add 2)) fun _ l24 _=>K (.int .u32 (IntKind.wrap .u32 (IntKind.wrap .i64 ((IntKind.wrap .i64 ((Nat.cast l24:Int)-(1:Int)))+(2:Int))))) h22)):Cl 201 [.pointer (some b)] h K:=cN Tryz.func201 H
theorem F75.spec(a:Addr)(h:Heap)(K:KK)(H:ldP (rd h (a.add 1)) fun p1=>Cl 119 [.pointer p1] h fun v2 h3=>ldI .i64 (some v2) fun n4=>K (.int .i64 n4) h3):Cl 75 [.pointer (some a)] h K:=cN Tryz.func75 H
theorem F47.spec(a:Addr)(h:Heap)(K:KK)(H:ldP (rd h (a.add 1)) fun p1=>Cl 104 [.pointer p1] h fun v2 h3=>ldP (some v2) fun p4=>K (.pointer p4) h3):Cl 47 [.pointer (some a)] h K:=cN Tryz.func47 H
theorem F198.spec(a b c:Int)(h:Heap)(K:KK)(H:Cl 245 [.int .u8 (IntKind.wrap .u8 a),.int .u32 b,.int .u32 c] h fun v1 h2=>ldI .u64 (some v1) fun n3=>K (.int .u64 n3) h2):Cl 198 [.int .i64 a,.int .u32 b,.int .u32 c] h K:=cN Tryz.func198 H
theorem F118.spec(b:Addr)(a:Int)(h:Heap)(K:KK)(H:bcase (decide (a≤(1:Int))) (K (.int .i64 1) h) (K (.int .i64 0) h)):Cl 118 [.pointer (some b),.int .u32 a] h K:=cN Tryz.func118 H
end
section
theorem F246.spec(b a:Int)(h:Heap)(K:KK)(H:bcase (decide (a<(1:Int))) (K (.int .i64 0) h) (Cl 286 [.int .u64 b] h fun v1 h2=>ldI .u64 (some v1) fun n3=>((IntKind.wrap .u64 a)≠0∧K (.int .i64 (IntKind.wrap .i64 (Int.tmod n3 (IntKind.wrap .u64 a)))) h2))):Cl 246 [.int .u64 b,.int .i64 a] h K:=cN Tryz.func246 H
def F286.T:Hint:=⟨[(2,[0,5,6]),(7,[0])],[]⟩
section
variable (n:Nat)(a b:Int)(h:Heap)(K:KK)
def F286.wk7:Prop:=(0≤(33:Int)∧K (.int .u64 (bitsI .xor .u64 a (Int.fdiv a (2^(min (Int.toNat (33:Int)) (IntKind.bits .u64)))))) h)
def F286.wL2:Prop:=Lp Tryz.f286 F286.T [1,0,1,0] n [(0,(.int .u64 a)),(5,(.agg #[.int .u64 18397679294719823053,.int .u64 14181476777654086739])),(6,(.int .i64 b))] h K
theorem F286.sL2:F286.wL2 (n+1) a b h K=(bcase (decide (b<(2:Int))) ((0≤b∧b<(Nat.cast 2:Int)∧ldI .u64 ([.int .u64 18397679294719823053,.int .u64 14181476777654086739]:List Value)[Int.toNat b]? (fun n1=>0≤(33:Int)∧F286.wL2 n (IntKind.wrap .u64 ((bitsI .xor .u64 a (Int.fdiv a (2^(min (Int.toNat (33:Int)) (IntKind.bits .u64)))))*n1)) (IntKind.wrap .i64 (b+(1:Int))) h K))) (F286.wk7 a h K)):=by kernel_rfl
def F286.wk2:Prop:=(∃m,F286.wL2 m a b h K)
theorem F286.spec(H:F286.wk2 a (0:Int) h K):Cl 286 [.int .u64 a] h K:=cT F286.T Tryz.func286 H
end
theorem F245.spec(a b c:Int)(h:Heap)(K:KK)(H:(0≤(56:Int)∧(0≤(28:Int)∧K (.int .u64 (bitsI .or .u64 (bitsI .or .u64 (IntKind.wrap .u64 ((IntKind.wrap .u64 a)*2^(min (Int.toNat (56:Int)) (IntKind.bits .u64)))) (IntKind.wrap .u64 ((IntKind.wrap .u64 (bitsI .and .u32 b (268435455:Int)))*2^(min (Int.toNat (28:Int)) (IntKind.bits .u64))))) (IntKind.wrap .u64 (bitsI .and .u32 c (268435455:Int))))) h))):Cl 245 [.int .u8 a,.int .u32 b,.int .u32 c] h K:=cN Tryz.func245 H
end
section
def At(h:Heap)(b:Nat)(c:List Value):Prop:= ∃e,h[b]? =some (.cells c.toArray e)
structure Only(S:List Nat)(h h':Heap):Prop where
 size:h.size≤h'.size
 same: ∀b,b<h.size→b∉S→h'[b]? =h[b]?
 fzn: ∀a,fz h' a=fz h a
theorem At.lt{h:Heap}{b:Nat}{c:List Value}(H:At h b c):b<h.size:=by
 obtain⟨e,H⟩:=H
 exact(Array.getElem?_eq_some_iff.1 H).1
theorem At.rd{h:Heap}{b:Nat}{c:List Value}(H:At h b c)(i:Nat):rd h ⟨b,i,none⟩=c[i]? :=by
 obtain⟨e,H⟩:=H
 simp[Ev.rd,H]
theorem At.fz{h:Heap}{b:Nat}{c:List Value}(H:At h b c)(i:Nat)(s:Option Nat):fz h ⟨b,i,s⟩=false:=by
 obtain⟨e,H⟩:=H
 simp[Ev.fz,H]
theorem At.only{S:List Nat}{h h':Heap}{b:Nat}{c:List Value}(H:At h b c)(O:Only S h h')(hb:b∉S):At h' b c:=by
 obtain⟨e,H⟩:=H
 exact⟨e,(O.same b (Array.getElem?_eq_some_iff.1 H).1 hb).trans H⟩
theorem Only.refl(S:List Nat)(h:Heap):Only S h h:=⟨Nat.le_refl _,fun _ _ _=>rfl,fun _=>rfl⟩
theorem Only.trans{S T:List Nat}{h h' h'':Heap}(A:Only S h h')(B:Only T h' h'')(hT: ∀b,b∈T→b<h.size→b∈S):Only S h h'':=
 ⟨Nat.le_trans A.size B.size,fun b hb hS=>(B.same b (Nat.lt_of_lt_of_le hb A.size) (fun hbT=>hS (hT b hbT hb))).trans (A.same b hb hS),
  fun a=>(B.fzn a).trans (A.fzn a)⟩
theorem Only.mono{S T:List Nat}{h h':Heap}(A:Only S h h')(hS: ∀b,b∈S→b<h.size→b∈T):Only T h h':=
 Only.trans (Only.refl T h) A hS
theorem Only.push_cells(h:Heap)(c:Array Value)(e:TypeId):Only [] h (h.push (.cells c e)):=by
 refine⟨by simp,fun b hb _=>by simp[Array.getElem?_push,Nat.ne_of_lt hb],fun a=> ?_⟩
 unfold fz
 rw[Array.getElem?_push]
 by_cases ha:a.block=h.size
 ·rw[if_pos ha,ha]
  simp
 ·rw[if_neg ha]
theorem Only.push_map(h:Heap)(es:Array MapEntry)(n:Nat):Only [] h (h.push (.map es n)):=by
 refine⟨by simp,fun b hb _=>by simp[Array.getElem?_push,Nat.ne_of_lt hb],fun a=> ?_⟩
 unfold fz
 rw[Array.getElem?_push]
 by_cases ha:a.block=h.size
 ·rw[if_pos ha,ha]
  simp
 ·rw[if_neg ha]
theorem wr_other(h:Heap)(a:Addr)(v:Value)(b:Nat)(hb:b≠a.block):(wr h a v)[b]? =h[b]? :=by
 unfold wr
 rw[Array.getElem?_modify,if_neg (fun e=>hb e.symm)]
theorem Only.wr(h:Heap)(a:Addr)(v:Value):Only [a.block] h (wr h a v):=by
 refine⟨by simp[Ev.wr],fun b _ hS=>wr_other h a v b (by simpa using hS),fun x=> ?_⟩
 unfold Ev.fz
 by_cases hx:x.block=a.block
 ·unfold Ev.wr
  rw[Array.getElem?_modify,if_pos hx.symm]
  cases hh:h[x.block]? with
  |none=>simp
  |some o=>cases o<;>simp
 ·rw[wr_other h a v x.block hx]
theorem At.wr{h:Heap}{b:Nat}{c:List Value}(H:At h b c)(i:Nat)(v:Value):At (wr h ⟨b,i,none⟩ v) b (c.set i v):=by
 obtain⟨e,H⟩:=H
 refine⟨e,?_⟩
 unfold Ev.wr
 rw[Array.getElem?_modify,if_pos rfl,H]
 simp
theorem At.push(h:Heap)(c:Array Value)(e:TypeId):At (h.push (.cells c e)) h.size c.toList:=⟨e,by simp⟩
@[simp] theorem add_mk (b o n:Nat):Addr.add ⟨b,o,none⟩ n=⟨b,o+n,none⟩:=by
 unfold Addr.add
 split
 ·next h=>subst h;rfl
 ·rfl
theorem add_zero(a:Addr):Addr.add a 0=a:=by simp[Addr.add]
theorem ldI_of{k:IntKind}{x:Option Value}{K:Int→Prop}{n:Int}(hx:x=some (.int k n))(hK:K n):ldI k x K:=⟨n,hx,hK⟩
theorem ldB_of{x:Option Value}{K:Bool→Prop}{n:Bool}(hx:x=some (.bool n))(hK:K n):ldB x K:=⟨n,hx,hK⟩
theorem ldP_of{x:Option Value}{K:Option Addr→Prop}{n:Option Addr}(hx:x=some (.pointer n))(hK:K n):ldP x K:=⟨n,hx,hK⟩
theorem ldS_of{x:Option Value}{K:Option Addr→Nat→Nat→Prop}{p:Option Addr}{l c:Nat}(hx:x=some (.slice p l c))(hK:K p l c):ldS x K:=⟨p,l,c,hx,hK⟩
@[simp] theorem ldI_some {k:IntKind} {K:Int→Prop} {n:Int}:ldI k (some (.int k n)) K↔K n:=
 ⟨fun⟨m,e,h⟩=>by injection e with e;injection e with _ e;exact e▸h,ldI_of rfl⟩
@[simp] theorem ldB_some {K:Bool→Prop} {n:Bool}:ldB (some (.bool n)) K↔K n:=
 ⟨fun⟨m,e,h⟩=>by injection e with e;injection e with e;exact e▸h,ldB_of rfl⟩
@[simp] theorem ldP_some {K:Option Addr→Prop} {n:Option Addr}:ldP (some (.pointer n)) K↔K n:=
 ⟨fun⟨m,e,h⟩=>by injection e with e;injection e with e;exact e▸h,ldP_of rfl⟩
@[simp] theorem ldS_some {K:Option Addr→Nat→Nat→Prop} {p:Option Addr} {l c:Nat}:ldS (some (.slice p l c)) K↔K p l c:=
 ⟨fun⟨_,_,_,e,h⟩=>by injection e with e;injection e with e1 e2 e3;subst e1;subst e2;subst e3;exact h,ldS_of rfl⟩
@[simp] theorem ldM_some {K:Option Nat→Prop} {n:Option Nat}:ldM (some (.map n)) K↔K n:=
 ⟨fun⟨m,e,h⟩=>by injection e with e;injection e with e;exact e▸h,fun h=>⟨n,rfl,h⟩⟩
@[simp] theorem ldV_some {K:Value→Prop} {v:Value}:ldV (some v) K↔K v:=
 ⟨fun⟨m,e,h⟩=>by injection e with e;exact e▸h,fun h=>⟨v,rfl,h⟩⟩
@[simp] theorem ptrK_some {a:Addr} {K:Addr→Prop}:ptrK (some a) K↔K a:=Iff.rfl
@[simp] theorem bcase_true {t f:Prop}:bcase true t f↔t:=Iff.rfl
@[simp] theorem bcase_false {t f:Prop}:bcase false t f↔f:=Iff.rfl
theorem bcase_of{b:Bool}{t f:Prop}(ht:b=true→t)(hf:b=false→f):bcase b t f:=by
 cases b with
 |true=>exact ht rfl
 |false=>exact hf rfl
theorem stK_at{h:Heap}{b i:Nat}{c:List Value}{v:Value}{K:Heap→Prop}(H:At h b c)(hi:i<c.length)(hv:v.oneCell'=true)
  (hK: ∀h',At h' b (c.set i v)→Only [b] h h'→h'.size=h.size→K h'):stK h ⟨b,i,none⟩ v K:=by
 unfold stK
 rw[hv]
 refine⟨?_,H.fz i none,hK _ (H.wr i v) (Only.wr h ⟨b,i,none⟩ v) (by simp[Ev.wr])⟩
 rw[H.rd]
 simp[hi]
theorem newK_at{h:Heap}{c:Array Value}{e:TypeId}{K:Nat→Heap→Prop}
  (hK: ∀h',At h' h.size c.toList→Only [] h h'→h'.size=h.size+1→K h.size h'):newK h (.cells c e) K:=
 hK _ (At.push h c e) (Only.push_cells h c e) (by simp)
theorem wrap_i64{n:Int}(h0: -9223372036854775808≤n)(h1:n<9223372036854775808):IntKind.wrap .i64 n=n:=by
 rw[IntKind.wrap_i64];omega
theorem wrap_u64{n:Int}(h0:0≤n)(h1:n<18446744073709551616):IntKind.wrap .u64 n=n:=by
 simp[IntKind.wrap,IntKind.bits,IntKind.signed];omega
theorem wrap_u64'(n:Int):IntKind.wrap .u64 n=n%18446744073709551616:=by
 simp[IntKind.wrap,IntKind.bits,IntKind.signed]
theorem dynK_go{P:Program}{X:List (Nat×Ext)}{g:Nat}{first captured:Array Value}{args:List Value}{h:Heap}{K:Value→Heap→Prop}(hx:xget X g=some .go)
  (H:CallsH P g (first.toList++args++captured.toList) h K):dynK P X (.func (.func g) first captured) args h K:=by
 unfold dynK
 simp only[hx]
 exact H
end
section
open Go Go.ChangeShapes Go.WideShapes Go.ChangeAt Go.RowKit
def Lawful(h:Heap)(v:Value)(h':Heap):Prop:=v= .bool true∧Only [] h h'
theorem frz(w:World)(a:Addr):w.frozen? a=fz w.heap a:=by
 unfold World.frozen? fz
 rfl
theorem law_calls{P:Program}{f:FuncId}{args:List Value}{W:World}(H:CallsH P f args W.heap (Lawful W.heap)):
  Calls P f args.toArray W fun e W'=>e= .returned (.bool true)∧Below W.heap.size W W'∧ ∀a,W'.frozen? a=W.frozen? a:=by
 refine(H W rfl).mono fun e W' ⟨v,he,hs,hv,hO⟩=> ?_
 subst hv
 exact⟨he,⟨hs.1,hs.2.1,hs.2.2,hO.size,fun k hk=>hO.same k hk (by simp)⟩,fun a=>by rw[frz,frz];exact hO.fzn a⟩
theorem trodAll_stays{H:Type}{enc:TypeId×Value→H}{P:Program}(hl:laidOutB P=true){W W':World}{sp:Nat→Bool}:
  ∀(ts:List TypeId) (vs:List Value) (ds:List (DataW H)) (ps:List MemPlace),ts.all (fun t=>P.readableRec t&&decide (t<P.types.size))=true→
   DataW.TrodAll enc P W 0 (fun _=>true) true ts vs ds ps→(∀p∈ps,W.sameAt W' p)→(∀p∈ps,sp p.block=true)→DataW.TrodAll enc P W' 0 sp true ts vs ds ps
 | [],[],[],_,_,h,_,_=>h
 |t::ts,v::vs,d::ds,ps,hr,⟨p,q,hd,hds,e⟩,hsame,hsp=>by
  subst e
  simp only[List.all_cons,Bool.and_eq_true,decide_eq_true_eq]at hr
  exact⟨p,q,WideElems.Trod_stays hl hr.1.1 hr.1.2 hd (fun x hx=>hsame x (List.mem_append.2 (.inl hx))) (fun x hx=>hsp x (List.mem_append.2 (.inl hx))),
   trodAll_stays hl ts vs ds q hr.2 hds (fun x hx=>hsame x (List.mem_append.2 (.inr hx))) (fun x hx=>hsp x (List.mem_append.2 (.inr hx))),rfl⟩
 | [],_::_,_,_,_,h,_,_=>h.elim
 | [],[],_::_,_,_,h,_,_=>h.elim
 |_::_,[],_,_,_,h,_,_=>h.elim
 |_::_,_::_,[],_,_,h,_,_=>h.elim
theorem post_law{H:Type}{enc:TypeId×Value→H}{P:Program}{f:Func}{s:ChangeSpec}{apart fresh handsOn again:Bool}{W W':World}{args:Array Value}{ds gs:List (DataW H)}{before:List MemPlace}{tb:TypeId}
  (hl:laidOutB P=true) (hread:f.params.toList.all (fun t=>P.readableRec t&&decide (t<P.types.size))=true)
  (hres:f.resultTypes= #[tb]) (hb:P.underlying tb=some .bool) (hvars:s.vars=[])
  (hW:DataW.Whole enc P f.params.toList s.vars apart W args.toList ds gs before)
  (hs:s.fn H ds={results:=[.lit (.bool true)],args:=ds})
  (hB:Below W.heap.size W W') (hfz: ∀a,W'.frozen? a=W.frozen? a):s.post enc P f apart fresh handsOn again W args (.bool true) W':=by
 have hlt: ∀p∈before,p.block<W.heap.size:=fun p hp=>hW.lt p hp
 obtain⟨p,q,hA,hV,rfl,hz,hn⟩:=id hW
 rw[hvars]at hV
 obtain⟨rfl,rfl⟩:gs=[]∧q=[]:=by
  cases gs with
  |nil=>exact⟨rfl,hV⟩
  |cons _ _=>exact hV.elim
 refine post_of_same (pa:=p) (pv:=[]) hW (fun _ _ _=> ?_) (fun sp hsp=> ?_) (fun sp hsp=> ?_) rfl (hB.frame _) hfz ?_
 ·rw[hres,List.append_nil,hs]
  exact trodAll_cons_mk (shut_bool hb _) trodAll_mk0
 ·rw[List.append_nil,hs]
  exact trodAll_stays hl _ _ _ _ hread hA (fun x hx=>hB.same (hlt x (List.mem_append.2 (.inl hx)))) (fun x hx=>hsp x (List.mem_append.2 (.inl hx)))
 ·rw[List.append_nil,hs,hvars]
  rfl
 ·exact ok_one hres rfl (okWide_bool_mk hb _)
def Ints(h:Heap)(k:IntKind)(p:Option Addr)(zs:List Int):Prop:=
 ∀i,i<zs.length→ ∃a,p=some a∧rd h (a.add i)=some (.int k (zs.getD i 0))
theorem wf_range{k:IntKind}{n:Int}(h:(Lit.int k n).wf=true):k.min≤n∧n≤k.max:=by
 simpa[Lit.wf]using h
theorem rd_only{S:List Nat}{h h':Heap}{a:Addr}{v:Value}(H:rd h a=some v)(O:Only S h h')(hS: ∀b∈S,h.size≤b):rd h' a=some v:=by
 rw[←H]
 have hb:a.block<h.size:=by
  apply Classical.byContradiction
  intro hn
  have:h[a.block]? =none:=Array.getElem?_eq_none (by omega)
  simp[rd,this]at H
 unfold rd
 rw[O.same _ hb fun hm=>absurd (hS _ hm) (by omega)]
theorem pick{α:Type}[Inhabited α]{l:Nat}{Q:Nat→α→Prop}(H: ∀i,i<l→ ∃n,Q i n): ∃f:Nat→α,∀i,i<l→Q i (f i):=
 ⟨fun i=>if h:i<l then(H i h).choose else default,fun i hi=>by simp only[dif_pos hi];exact(H i hi).choose_spec⟩
theorem Only.nil{h h' h'':Heap}{S:List Nat}(A:Only [] h h')(B:Only S h' h'')(hS: ∀b∈S,h.size≤b):Only [] h h'':=
 A.trans B fun b hb hl=>absurd (hS b hb) (by omega)
end
section
theorem stL_own{b o:Nat}{K:Heap→Prop}: ∀(new:List Value) (i:Nat) (c:List Value) (h:Heap),At h b c→o+i+new.length≤c.length→(∀v∈new,v.oneCell'=true)→
  (∀h',At h' b (c.take (o+i)++new++c.drop (o+i+new.length))→Only [b] h h'→h'.size=h.size→K h')→stL ⟨b,o,none⟩ i new h K:=by
 intro new
 induction new with
 |nil=>
  intro i c h A hi hv hK
  unfold stL
  exact hK h (by simpa using A) (Only.refl _ _) rfl
 |cons v vs ih=>
  intro i c h A hi hv hK
  simp only[List.length_cons]at hi
  unfold stL
  rw[add_mk]
  refine stK_at A (by omega) (hv v (by simp)) fun h1 A1 O1 z1=>ih (i+1) _ h1 A1 (by simp;omega) (fun x hx=>hv x (by simp[hx])) fun h2 A2 O2 z2=>hK h2 ?_ (O1.trans O2 (by simp)) (z2.trans z1)
  have e:(c.set (o+i) v).take (o+(i+1))=c.take (o+i)++[v]:=by
   rw[show o+(i+1)=(o+i)+1 by omega,List.take_set,List.take_succ_eq_append_getElem (by omega),List.set_append_right _ _ (by simp;omega)]
   simp[List.length_take,Nat.min_eq_left (by omega:o+i≤c.length)]
  have e2:(c.set (o+i) v).drop (o+(i+1)+vs.length)=c.drop (o+i+(vs.length+1)):=by
   rw[List.drop_set_of_lt (by omega)]
   congr 1
   omega
  rw[e,e2]at A2
  simpa using A2
def Own(h:Heap)(lo N:Nat)(p:Option Addr)(l c:Nat)(cs:List Value):Prop:=
 cs.length=l*N∧((p=none∧l=0∧c=0)∨ ∃(b:Nat) (sp:List Value),p=some ⟨b,0,none⟩∧lo≤b∧l≤c∧sp.length=(c-l)*N∧At h b (cs++sp))
def OwnB:Option Addr→List Nat
 |some a=> [a.block]
 |none=> []
theorem Own.nil(h:Heap)(lo N:Nat):Own h lo N none 0 0 []:=⟨by simp,Or.inl ⟨rfl,rfl,rfl⟩⟩
theorem Own.only{S:List Nat}{h h':Heap}{lo N:Nat}{p:Option Addr}{l c:Nat}{cs:List Value}(H:Own h lo N p l c cs)(O:Only S h h')(hS: ∀b,p=some ⟨b,0,none⟩→b∉S):Own h' lo N p l c cs:=by
 obtain⟨e,H⟩:=H
 rcases H with H|⟨b,sp,h1,h2,h3,h4,h5⟩
 ·exact⟨e,Or.inl H⟩
 ·exact⟨e,Or.inr ⟨b,sp,h1,h2,h3,h4,h5.only O (hS b h1)⟩⟩
theorem Own.lt{h:Heap}{lo N:Nat}{p:Option Addr}{l c:Nat}{cs:List Value}(H:Own h lo N p l c cs): ∀b∈OwnB p,lo≤b∧b<h.size:=by
 obtain⟨-,H⟩:=H
 rcases H with⟨e,-⟩|⟨b,sp,h1,h2,-,-,h5⟩
 ·subst e;simp[OwnB]
 ·subst h1
  intro x hx
  simp[OwnB]at hx
  subst hx
  exact⟨h2,h5.lt⟩
theorem Own.rd{h:Heap}{lo N:Nat}{p:Option Addr}{l c:Nat}{cs:List Value}(H:Own h lo N p l c cs){j:Nat}(hj:j<cs.length): ∃b,p=some ⟨b,0,none⟩∧rd h ⟨b,j,none⟩=cs[j]? :=by
 obtain⟨e,H⟩:=H
 rcases H with⟨-,h0,-⟩|⟨b,sp,h1,h2,-,-,h5⟩
 ·subst h0
  simp at e
  simp[e]at hj
 ·exact⟨b,h1,by rw[h5.rd,List.getElem?_append_left hj]⟩
theorem isRow_at{h:Heap}{b o:Nat}{c new:List Value}(A:At h b c)(hn: ∀j v,new[j]? =some v→c[o+j]? =some v):isRow h ⟨b,o,none⟩ new:=by
 intro j v hj
 rw[add_mk,A.rd]
 exact hn j v hj
theorem size_zeroCells(z:Array Value)(n:Nat):(Builtin.zeroCells z n).toList.length=n*z.size:=by
 simp[Builtin.zeroCells]
theorem own_app{h:Heap}{lo N by_:Nat}{z:Array Value}{p:Option Addr}{l c bx:Nat}{cs new:List Value}{e:TypeId}{K:Option Addr→Nat→Nat→Heap→Prop}
  (H:Own h lo N p l c cs) (A:At h bx new) (hnew:new.length=N) (hz:z.size=N) (hcap:(l+1)*by_≤140737488355328) (hv: ∀v∈new,v.oneCell'=true) (hlo:lo≤h.size)
  (hK: ∀p' c' h',Own h' lo N p' (l+1) c' (cs++new)→Only (OwnB p) h h'→(∀b∈OwnB p',b∈OwnB p∨h.size≤b)→K p' (l+1) c' h'):
  appK h e N by_ z p l c (some ⟨bx,0,none⟩) 1 K:=by
 obtain⟨hlen,H⟩:=H
 refine⟨new,by omega,isRow_at A (by simp),fun hle=> ?_,fun hlt=>⟨cs,hlen,?_,hcap,fun cap hc=> ?_⟩⟩
 ·rcases H with⟨-,h0,h1⟩|⟨b,sp,rfl,h2,h3,h4,h5⟩
  ·omega
  ·show stL ((⟨b,0,none⟩:Addr).add (l*N)) 0 new h _
   rw[add_mk,Nat.zero_add]
   have hsp:N≤sp.length:=by
    rw[h4]
    have:1*N≤(c-l)*N:=Nat.mul_le_mul_right _ (by omega)
    omega
   refine stL_own new 0 _ h h5 (by simp;omega) hv fun h' A' O' z'=>hK _ _ h' ⟨by simp[hlen,hnew,Nat.add_mul],Or.inr ⟨b,sp.drop N,rfl,h2,hle,?_,?_⟩⟩ O' fun x hx=>Or.inl hx
   ·rw[List.length_drop,h4,show c-l=(c-(l+1))+1 by omega,Nat.add_mul]
    omega
   ·rw[Nat.add_zero,←hlen,List.take_left,hnew,List.drop_append,List.drop_eq_nil_of_le (by omega:cs.length≤cs.length+N)]at A'
    simpa using A'
 ·rcases H with⟨e,h0,-⟩|⟨b,sp,rfl,-,-,-,h5⟩
  ·subst e
   exact h0
  ·exact isRow_at h5 fun j v hj=>by
    rw[Nat.zero_add,List.getElem?_append_left (List.getElem?_eq_some_iff.1 hj).1]
    exact hj
 ·refine hK _ _ _ ⟨by simp[hlen,hnew,Nat.add_mul],Or.inr ⟨h.size,(Builtin.zeroCells z (cap-(l+1))).toList,rfl,hlo,hc,by rw[size_zeroCells,hz],?_⟩⟩ ((Only.push_cells h _ e).mono (by simp)) fun x hx=>Or.inr ?_
  ·have:=At.push h (cs.toArray++new.toArray++Builtin.zeroCells z (cap-(l+1))) e
   simpa using this
  ·simp[OwnB]at hx
   omega
theorem Own.set{h:Heap}{lo N:Nat}{l c b j:Nat}{cs:List Value}{v:Value}{K:Heap→Prop}(H:Own h lo N (some ⟨b,0,none⟩) l c cs)(hj:j<cs.length)(hv:v.oneCell'=true)
  (hK: ∀h',Own h' lo N (some ⟨b,0,none⟩) l c (cs.set j v)→Only [b] h h'→K h'):stK h ⟨b,j,none⟩ v K:=by
 obtain⟨e,H⟩:=H
 rcases H with⟨h1,-⟩|⟨b',sp,h1,h2,h3,h4,h5⟩
 ·cases h1
 ·injection h1 with h1
  injection h1 with h1
  subst h1
  refine stK_at h5 (by simp;omega) hv fun h' A O _=>hK h' ⟨by simp[e],Or.inr ⟨b,sp,rfl,h2,h3,h4,?_⟩⟩ O
  rw[List.set_append_left _ _ hj]at A
  exact A
def rowV(L:Nat)(g:Nat→Value):List Value:=(List.range L).map g
theorem rowV_len(L:Nat)(g:Nat→Value):(rowV L g).length=L:=by simp[rowV]
theorem rowV_get{L k:Nat}{g:Nat→Value}(hk:k<L):(rowV L g)[k]? =some (g k):=by simp[rowV,hk]
theorem rowV_set(L k:Nat)(g:Nat→Value)(v:Value):(rowV L g).set k v=rowV L fun j=>if j=k then v else g j:=by
 apply List.ext_getElem?
 intro i
 by_cases hi:i<L
 ·rw[rowV_get hi,List.getElem?_set]
  by_cases h:k=i
  ·subst h
   rw[if_pos rfl,if_pos (by rw[rowV_len];exact hi),if_pos rfl]
  ·rw[if_neg h,rowV_get hi,if_neg (Ne.symm h)]
 ·rw[List.getElem?_eq_none (by simp[rowV_len];omega),List.getElem?_eq_none (by simp[rowV_len];omega)]
theorem rowV_succ(L:Nat)(g:Nat→Value):rowV (L+1) g=rowV L g++[g L]:=by simp[rowV,List.range_succ]
theorem rowV_ext{L:Nat}{g g':Nat→Value}(h: ∀k,k<L→g k=g' k):rowV L g=rowV L g':=List.map_congr_left fun k hk=>h k (List.mem_range.1 hk)
end
section
def F87.T:Hint:=⟨[],[(1,[[(0,[]),(1,[]),(2,[]),(3,[]),(4,[]),(5,[]),(6,[]),(7,[]),(8,[]),(9,[]),(10,[]),(11,[]),(12,[]),(13,[]),(14,[]),(15,[])]])]⟩
theorem F87.spec(b:Addr)(a:Int)(c:Bool)(h:Heap)(K:KK)(H:bcase c (((64:Int)≠0∧((64:Int)≠0∧(0≤(IntKind.wrap .u8 (Int.tdiv a (64:Int)))∧(IntKind.wrap .u8 (Int.tdiv a (64:Int)))<(Nat.cast 4:Int)∧ldI .u64 (rd h (b.add (Int.toNat (IntKind.wrap .u8 (Int.tdiv a (64:Int)))*1))) fun n1=>((64:Int)≠0∧(0≤(Int.tmod a (64:Int))∧(0≤(IntKind.wrap .u8 (Int.tdiv a (64:Int)))∧(IntKind.wrap .u8 (Int.tdiv a (64:Int)))<(Nat.cast 4:Int)∧stK h ((b.add (Int.toNat (IntKind.wrap .u8 (Int.tdiv a (64:Int)))*1)).add 0) (.int .u64 (bitsI .or .u64 n1 (IntKind.wrap .u64 ((1:Int)*2^(min (Int.toNat (Int.tmod a (64:Int))) (IntKind.bits .u64)))))) fun h2=>K (.tuple #[]) h2))))))) (K (.tuple #[]) h)):Cl 87 [.pointer (some b),.int .u8 a,.bool c] h K:=cT F87.T Tryz.func87 H
def F33.T:Hint:=⟨[(3,[0,2,3,4])],[]⟩
section
variable (n:Nat)(c:Int)(a b:Addr)(d:Int)(h:Heap)(K:KK)
def F33.wL3:Prop:=Lp Tryz.f33 F33.T [1,1,0,1,0] n [(0,(.int .i64 c)),(2,(.pointer (some a))),(3,(.pointer (some b))),(4,(.int .i64 d))] h K
theorem F33.sL3:F33.wL3 (n+1) c a b d h K=(bcase (decide (d<(256:Int))) (bcase (decide (c≥(0:Int))) (bcase (decide (c<(8:Int))) ((0≤(IntKind.wrap .u64 c)∧Cl 87 [.pointer (some b),.int .u8 (IntKind.wrap .u8 d),.bool ((bitsI .and .i64 (Int.fdiv d (2^(min (Int.toNat (IntKind.wrap .u64 c)) (IntKind.bits .i64)))) (1:Int))==(1:Int))] h fun v1 h2=>v1=(.tuple #[])∧F33.wL3 n c a b (IntKind.wrap .i64 (d+(1:Int))) h2 K)) (ldI .u64 (rd h (b.add 0)) fun n3=>ldI .u64 (rd h (b.add 1)) fun n4=>ldI .u64 (rd h (b.add 2)) fun n5=>ldI .u64 (rd h (b.add 3)) fun n6=>stK h (a.add 0) (.int .u64 n3) fun h7=>stK h7 (a.add 1) (.int .u64 n4) fun h8=>stK h8 (a.add 2) (.int .u64 n5) fun h9=>stK h9 (a.add 3) (.int .u64 n6) fun h10=>ldI .u64 (rd h10 (a.add 0)) fun n11=>ldI .u64 (rd h10 (a.add 1)) fun n12=>ldI .u64 (rd h10 (a.add 2)) fun n13=>ldI .u64 (rd h10 (a.add 3)) fun n14=>K (.agg #[.int .u64 n11,.int .u64 n12,.int .u64 n13,.int .u64 n14]) h10)) (ldI .u64 (rd h (b.add 0)) fun n15=>ldI .u64 (rd h (b.add 1)) fun n16=>ldI .u64 (rd h (b.add 2)) fun n17=>ldI .u64 (rd h (b.add 3)) fun n18=>stK h (a.add 0) (.int .u64 n15) fun h19=>stK h19 (a.add 1) (.int .u64 n16) fun h20=>stK h20 (a.add 2) (.int .u64 n17) fun h21=>stK h21 (a.add 3) (.int .u64 n18) fun h22=>ldI .u64 (rd h22 (a.add 0)) fun n23=>ldI .u64 (rd h22 (a.add 1)) fun n24=>ldI .u64 (rd h22 (a.add 2)) fun n25=>ldI .u64 (rd h22 (a.add 3)) fun n26=>K (.agg #[.int .u64 n23,.int .u64 n24,.int .u64 n25,.int .u64 n26]) h22)) (ldI .u64 (rd h (b.add 0)) fun n27=>ldI .u64 (rd h (b.add 1)) fun n28=>ldI .u64 (rd h (b.add 2)) fun n29=>ldI .u64 (rd h (b.add 3)) fun n30=>stK h (a.add 0) (.int .u64 n27) fun h31=>stK h31 (a.add 1) (.int .u64 n28) fun h32=>stK h32 (a.add 2) (.int .u64 n29) fun h33=>stK h33 (a.add 3) (.int .u64 n30) fun h34=>ldI .u64 (rd h34 (a.add 0)) fun n35=>ldI .u64 (rd h34 (a.add 1)) fun n36=>ldI .u64 (rd h34 (a.add 2)) fun n37=>ldI .u64 (rd h34 (a.add 3)) fun n38=>K (.agg #[.int .u64 n35,.int .u64 n36,.int .u64 n37,.int .u64 n38]) h34)):=by kernel_rfl
def F33.wk3:Prop:=(∃m,F33.wL3 m c a b d h K)
theorem F33.spec(H:newK h (.cells #[.int .u64 0,.int .u64 0,.int .u64 0,.int .u64 0] 51) fun b1 h2=>newK h2 (.cells #[.int .u64 0,.int .u64 0,.int .u64 0,.int .u64 0] 51) fun b3 h4=>stK h4 ((Addr.mk b3 0 none).add 0) (.int .u64 0) fun h5=>stK h5 ((Addr.mk b3 0 none).add 1) (.int .u64 0) fun h6=>stK h6 ((Addr.mk b3 0 none).add 2) (.int .u64 0) fun h7=>stK h7 ((Addr.mk b3 0 none).add 3) (.int .u64 0) fun h8=>F33.wk3 c (Addr.mk b1 0 none) (Addr.mk b3 0 none) (0:Int) h8 K):Cl 33 [.int .i64 c] h K:=cT F33.T Tryz.func33 H
end
def F146.T:Hint:=⟨[(2,[2,3,4,5])],[(4,[[(0,[]),(1,[]),(2,[]),(3,[]),(4,[]),(5,[]),(6,[]),(7,[]),(8,[]),(9,[])]])]⟩
section
variable (n:Nat)(d f g i j l o q:Int)(c r b:Addr)(a:Int)(h:Heap)(K:KK)
def F146.wL2:Prop:=Lp Tryz.f146 F146.T [1,0,1,0] n [(2,(.pointer (some c))),(3,(.pointer (some r))),(4,(.pointer (some b))),(5,(.int .i64 a))] h K
theorem F146.sL2:F146.wL2 (n+1) c r b a h K=(bcase (decide (a<(4:Int))) ((0≤a∧a<(Nat.cast 4:Int)∧ldI .u64 (rd h (c.add (Int.toNat a*1))) fun n1=>0≤a∧a<(Nat.cast 4:Int)∧ldI .u64 (rd h (r.add (Int.toNat a*1))) fun n2=>0≤a∧a<(Nat.cast 4:Int)∧stK h ((c.add (Int.toNat a*1)).add 0) (.int .u64 (bitsI .or .u64 n1 n2)) fun h3=>F146.wL2 n c r b (IntKind.wrap .i64 (a+(1:Int))) h3 K)) (ldI .u64 (rd h (c.add 0)) fun n4=>ldI .u64 (rd h (c.add 1)) fun n5=>ldI .u64 (rd h (c.add 2)) fun n6=>ldI .u64 (rd h (c.add 3)) fun n7=>stK h (b.add 0) (.int .u64 n4) fun h8=>stK h8 (b.add 1) (.int .u64 n5) fun h9=>stK h9 (b.add 2) (.int .u64 n6) fun h10=>stK h10 (b.add 3) (.int .u64 n7) fun h11=>ldI .u64 (rd h11 (b.add 0)) fun n12=>ldI .u64 (rd h11 (b.add 1)) fun n13=>ldI .u64 (rd h11 (b.add 2)) fun n14=>ldI .u64 (rd h11 (b.add 3)) fun n15=>K (.agg #[.int .u64 n12,.int .u64 n13,.int .u64 n14,.int .u64 n15]) h11)):=by kernel_rfl
def F146.wk2:Prop:=(∃m,F146.wL2 m c r b a h K)
theorem F146.spec(H:newK h (.cells #[.int .u64 d,.int .u64 f,.int .u64 g,.int .u64 i] 51) fun b1 h2=>newK h2 (.cells #[.int .u64 j,.int .u64 l,.int .u64 o,.int .u64 q] 51) fun b3 h4=>newK h4 (.cells #[.int .u64 0,.int .u64 0,.int .u64 0,.int .u64 0] 51) fun b5 h6=>F146.wk2 (Addr.mk b1 0 none) (Addr.mk b3 0 none) (Addr.mk b5 0 none) (0:Int) h6 K):Cl 146 [.agg #[.int .u64 d,.int .u64 f,.int .u64 g,.int .u64 i],.agg #[.int .u64 j,.int .u64 l,.int .u64 o,.int .u64 q]] h K:=cT F146.T Tryz.func146 H
end
end
section
def U64:Nat:=18446744073709551616
theorem U64_pow:U64=2^64:=by decide
theorem ofInt_nat{a:Nat}(ha:a<U64):(BitVec.ofInt 64 (a:Int)).toNat=a:=by
 unfold U64 at ha
 rw[BitVec.toNat_ofInt]
 omega
theorem wrapU{a:Nat}(ha:a<U64):IntKind.wrap .u64 (a:Int)=a:=wrap_u64 (by omega) (by unfold U64 at ha;omega)
theorem bor{a b:Nat}(ha:a<U64)(hb:b<U64):bitsI .or .u64 (a:Int) (b:Int)=((a|||b:Nat):Int):=by
 unfold bitsI
 show IntKind.wrap .u64 ((BitVec.ofInt 64 (a:Int)|||BitVec.ofInt 64 (b:Int)).toNat:Int)=_
 rw[BitVec.toNat_or,ofInt_nat ha,ofInt_nat hb]
 exact wrapU (by rw[U64_pow]at*;exact Nat.or_lt_two_pow ha hb)
theorem band{a b:Nat}(ha:a<U64)(hb:b<U64):bitsI .and .u64 (a:Int) (b:Int)=((a&&&b:Nat):Int):=by
 unfold bitsI
 show IntKind.wrap .u64 ((BitVec.ofInt 64 (a:Int)&&&BitVec.ofInt 64 (b:Int)).toNat:Int)=_
 rw[BitVec.toNat_and,ofInt_nat ha,ofInt_nat hb]
 exact wrapU (by rw[U64_pow]at*;exact Nat.and_lt_two_pow _ hb)
def fb(g:Nat→Nat)(x:Nat):Bool:=(g (x/64)).testBit (x%64)
def WOk(g:Nat→Nat):Prop:= ∀i,i<4→g i<U64
theorem fb_ext{g g':Nat→Nat}(hg:WOk g)(hg':WOk g')(h: ∀x,x<256→fb g x=fb g' x): ∀i,i<4→g i=g' i:=fun i hi=>by
 apply Nat.eq_of_testBit_eq
 intro k
 by_cases hk:k<64
 ·have:=h (i*64+k) (by omega)
  unfold fb at this
  rwa[show(i*64+k)/64=i by omega,show(i*64+k)%64=k by omega]at this
 ·have a:=hg i hi
  have b:=hg' i hi
  rw[U64_pow]at a b
  rw[Nat.testBit_lt_two_pow (Nat.lt_of_lt_of_le a (Nat.pow_le_pow_right (by omega) (by omega))),Nat.testBit_lt_two_pow (Nat.lt_of_lt_of_le b (Nat.pow_le_pow_right (by omega) (by omega)))]
def wrow(g:Nat→Nat):List Value:=rowV 4 fun i=> .int .u64 (g i:Int)
def sbit(g:Nat→Nat)(x:Nat)(v:Bool):Nat→Nat:=fun i=>if v=true∧i=x/64 then g i|||2^(x%64)else g i
theorem pow_lt(k:Nat)(hk:k<64):2^k<U64:=by rw[U64_pow];exact Nat.pow_lt_pow_right (by omega) hk
theorem sbit_ok{g:Nat→Nat}(hg:WOk g){x:Nat}{v:Bool}:WOk (sbit g x v):=fun i hi=>by
 unfold sbit
 split
 ·have a:=hg i hi
  have b:=pow_lt (x%64) (Nat.mod_lt _ (by omega))
  rw[U64_pow]at*
  exact Nat.or_lt_two_pow a b
 ·exact hg i hi
theorem sbit_fb(g:Nat→Nat)(x:Nat)(v:Bool)(y:Nat):fb (sbit g x v) y=(fb g y||(v&&decide (y=x))):=by
 unfold fb sbit
 cases v
 ·simp
 ·by_cases h:y/64=x/64
  ·rw[if_pos ⟨rfl,h⟩,Nat.testBit_or,Nat.testBit_two_pow]
   congr 1
   by_cases e:y=x
   ·subst e;simp
   ·simp only[Bool.true_and,decide_eq_false e,decide_eq_false_iff_not]
    omega
  ·rw[if_neg (fun hh=>h hh.2)]
   have:y≠x:=fun e=>h (by rw[e])
   simp[this]
theorem tdiv64{x:Nat}(hx:x<256):IntKind.wrap .u8 (Int.tdiv (x:Int) 64)=((x/64:Nat):Int):=by
 rw[Int.tdiv_eq_ediv_of_nonneg (by omega)]
 simp[IntKind.wrap,IntKind.bits,IntKind.signed];omega
theorem tmod64(x:Nat):Int.tmod (x:Int) 64=((x%64:Nat):Int):=by
 rw[Int.tmod_eq_emod_of_nonneg (by omega)]
 rfl
theorem min64{k:Nat}(hk:k<64):min (Int.toNat (k:Int)) (IntKind.bits .u64)=k:=by
 rw[Int.toNat_natCast]
 show min k 64=k
 omega
theorem wr_rd{h:Heap}{b:Nat}{g:Nat→Nat}(A:At h b (wrow g)){i:Nat}(hi:i<4):rd h ⟨b,i,none⟩=some (.int .u64 (g i:Int)):=by
 rw[A.rd]
 exact rowV_get hi
theorem wr_st{h:Heap}{b:Nat}{g:Nat→Nat}(A:At h b (wrow g)){i:Nat}(hi:i<4){v:Nat}{K:Heap→Prop}(hK: ∀h',At h' b (wrow fun j=>if j=i then v else g j)→Only [b] h h'→K h'):stK h ⟨b,i,none⟩ (.int .u64 (v:Int)) K:=
 stK_at A (by unfold wrow;rw[rowV_len];exact hi) rfl fun h' A' O' _=>hK h' (by
  unfold wrow at A' ⊢
  rw[rowV_set]at A'
  have e:(rowV 4 fun j=>if j=i then Value.int .u64 (v:Int)else .int .u64 (g j:Int))=rowV 4 fun j=> .int .u64 ((if j=i then v else g j:Nat):Int):=rowV_ext fun j _=>by split<;>rfl
  rw[e]at A'
  exact A') O'
theorem set51{h:Heap}{b x:Nat}{g:Nat→Nat}{v:Bool}{K:Value→Heap→Prop}(A:At h b (wrow g))(hg:WOk g)(hx:x<256)(hK: ∀h',At h' b (wrow (sbit g x v))→Only [b] h h'→K (.tuple #[]) h'):
  Cl 87 [.pointer (some ⟨b,0,none⟩),.int .u8 (x:Int),.bool v] h K:=by
 refine F87.spec _ _ _ h K ?_
 refine bcase_of (fun hv=> ?_) fun hv=> ?_
 ·subst hv
  have q:x/64<4:=by omega
  rw[tdiv64 hx,tmod64]
  refine⟨by decide,by decide,by omega,by omega,?_⟩
  rw[add_mk,Int.toNat_natCast,Nat.zero_add,Nat.mul_one,wr_rd A q,ldI_some,min64 (by omega)]
  refine⟨by decide,by omega,by omega,by omega,?_⟩
  rw[add_mk,Nat.add_zero,show(1:Int)*2^(x%64)=((2^(x%64):Nat):Int) by simp,wrapU (pow_lt _ (by omega)),bor (hg _ q) (pow_lt _ (by omega))]
  refine wr_st A q fun h' A' O'=>hK h' ?_ O'
  have e:(fun j=>if j=x/64 then g (x/64)|||2^(x%64)else g j)=sbit g x true:=by
   funext j
   unfold sbit
   by_cases hj:j=x/64
   ·subst hj;simp
   ·rw[if_neg hj,if_neg (fun h=>hj h.2)]
  rw[e]at A'
  exact A'
 ·subst hv
  refine hK h ?_ (Only.refl _ _)
  have e:sbit g x false=g:=by
   funext j
   unfold sbit
   rw[if_neg (fun h=>by cases h.1)]
  rw[e]
  exact A
end
section
theorem wrap8{x:Nat}(h:x<256):IntKind.wrap .u8 (x:Int)=x:=by
 simp[IntKind.wrap,IntKind.bits,IntKind.signed];omega
def aggW(g:Nat→Nat):Value:= .agg #[.int .u64 (g 0:Int),.int .u64 (g 1:Int),.int .u64 (g 2:Int),.int .u64 (g 3:Int)]
theorem copy4{h:Heap}{b c:Nat}{g g0:Nat→Nat}{K:Value→Heap→Prop}(A:At h b (wrow g))(C:At h c (wrow g0))(hne:b≠c)(hK: ∀h',Only [c] h h'→K (aggW g) h'):
  ldI .u64 (rd h (Addr.add ⟨b,0,none⟩ 0)) (fun n4=>ldI .u64 (rd h (Addr.add ⟨b,0,none⟩ 1)) (fun n5=>ldI .u64 (rd h (Addr.add ⟨b,0,none⟩ 2)) (fun n6=>ldI .u64 (rd h (Addr.add ⟨b,0,none⟩ 3)) (fun n7=>stK h (Addr.add ⟨c,0,none⟩ 0) (.int .u64 n4) (fun h8=>stK h8 (Addr.add ⟨c,0,none⟩ 1) (.int .u64 n5) (fun h9=>stK h9 (Addr.add ⟨c,0,none⟩ 2) (.int .u64 n6) (fun h10=>stK h10 (Addr.add ⟨c,0,none⟩ 3) (.int .u64 n7) (fun h11=>ldI .u64 (rd h11 (Addr.add ⟨c,0,none⟩ 0)) (fun n12=>ldI .u64 (rd h11 (Addr.add ⟨c,0,none⟩ 1)) (fun n13=>ldI .u64 (rd h11 (Addr.add ⟨c,0,none⟩ 2)) (fun n14=>ldI .u64 (rd h11 (Addr.add ⟨c,0,none⟩ 3)) (fun n15=>K (.agg #[(.int .u64 n12),(.int .u64 n13),(.int .u64 n14),(.int .u64 n15)]) h11)))))))))))):=by
 simp only[add_mk,Nat.zero_add]
 rw[wr_rd A (by decide:0<4),ldI_some,wr_rd A (by decide:1<4),ldI_some,wr_rd A (by decide:2<4),ldI_some,wr_rd A (by decide:3<4),ldI_some]
 refine wr_st C (by decide) fun h1 C1 O1=>wr_st C1 (by decide) fun h2 C2 O2=>wr_st C2 (by decide) fun h3 C3 O3=>wr_st C3 (by decide) fun h4 C4 O4=> ?_
 rw[wr_rd C4 (by decide:0<4),ldI_some,wr_rd C4 (by decide:1<4),ldI_some,wr_rd C4 (by decide:2<4),ldI_some,wr_rd C4 (by decide:3<4),ldI_some]
 exact hK h4 (((O1.trans O2 (by simp)).trans O3 (by simp)).trans O4 (by simp))
theorem zero_fb(y:Nat):fb (fun _=>0) y=false:=by simp[fb]
end
section
theorem or_lt{a b:Nat}(ha:a<U64)(hb:b<U64):a|||b<U64:=by
 rw[U64_pow]at*
 exact Nat.or_lt_two_pow ha hb
def orTo(f g:Nat→Nat)(i:Nat):Nat→Nat:=fun j=>if j<i then f j|||g j else f j
theorem orTo_ok{f g:Nat→Nat}(hf:WOk f)(hg:WOk g)(i:Nat):WOk (orTo f g i):=fun j hj=>by
 unfold orTo
 split
 ·exact or_lt (hf j hj) (hg j hj)
 ·exact hf j hj
theorem orTo_fb(f g:Nat→Nat){y:Nat}(hy:y<256):fb (orTo f g 4) y=(fb f y||fb g y):=by
 unfold fb orTo
 rw[if_pos (by omega),Nat.testBit_or]
theorem or27{h:Heap}{f g:Nat→Nat}{K:Value→Heap→Prop}(hf:WOk f)(hg:WOk g)(hK: ∀h' k,WOk k→(∀y,y<256→fb k y=(fb f y||fb g y))→Only [] h h'→K (aggW k) h'):Cl 146 [aggW f,aggW g] h K:=by
 refine F146.spec _ _ _ _ _ _ _ _ h K ?_
 refine newK_at fun h1 A1 O1 z1=>newK_at fun h2 A2 O2 z2=>newK_at fun h3 A3 O3 z3=> ?_
 replace A1:At h1 h.size (wrow f):=A1
 replace A2:At h2 h1.size (wrow g):=A2
 replace A3:At h3 h2.size (wrow fun _=>0):=A3
 have B1:=(A1.only O2 (by simp)).only O3 (by simp)
 have B2:=A2.only O3 (by simp)
 have O13:Only [] h h3:=(O1.trans O2 (by simp)).trans O3 (by simp)
 unfold F146.wk2
 have main: ∀(d i:Nat) (h':Heap),i+d=4→At h' h.size (wrow (orTo f g i))→At h' h1.size (wrow g)→At h' h2.size (wrow fun _=>0)→Only [] h h'→
   F146.wL2 (d+1) ⟨h.size,0,none⟩ ⟨h1.size,0,none⟩ ⟨h2.size,0,none⟩ i h' K:=by
  intro d
  induction d with
  |zero=>
   intro i h' hd A B C O
   rw[F146.sL2]
   rw[show decide ((i:Int)<4)=false by simp;omega,bcase_false]
   have hi:i=4:=by omega
   subst hi
   exact copy4 A C (by omega) fun h'' O''=>hK h'' _ (orTo_ok hf hg 4) (fun y hy=>orTo_fb f g hy) (O.trans O'' (by intro b hb hlt;simp at hb;omega))
  |succ d ih=>
   intro i h' hd A B C O
   rw[F146.sL2]
   have hi:i<4:=by omega
   rw[show decide ((i:Int)<4)=true by simp;omega,bcase_true,show IntKind.wrap .i64 ((i:Int)+1)=((i+1:Nat):Int) by rw[wrap_i64 (by omega) (by omega)];omega]
   refine⟨by omega,by omega,?_⟩
   rw[add_mk,add_mk,show 0+Int.toNat (i:Int)*1=i by omega,wr_rd A hi,ldI_some]
   refine⟨by omega,by omega,?_⟩
   rw[wr_rd B hi,ldI_some]
   refine⟨by omega,by omega,?_⟩
   have e0:orTo f g i i=f i:=if_neg (by omega)
   rw[add_mk,Nat.add_zero,e0,bor (hf i hi) (hg i hi)]
   refine wr_st A hi fun h'' A'' O''=>ih (i+1) h'' (by omega) ?_ (B.only O'' (by simp;omega)) (C.only O'' (by simp;omega)) (O.trans O'' (by intro b hb hlt;simp at hb;omega))
   have e:(fun j=>if j=i then f i|||g i else orTo f g i j)=orTo f g (i+1):=by
    funext j
    unfold orTo
    by_cases hj:j=i
    ·subst hj;rw[if_pos rfl,if_pos (by omega)]
    ·rw[if_neg hj]
     by_cases hl:j<i
     ·rw[if_pos hl,if_pos (by omega)]
     ·rw[if_neg hl,if_neg (by omega)]
   rw[e]at A''
   exact A''
 have e0:orTo f g 0=f:=by funext j;unfold orTo;rw[if_neg (by omega)]
 exact⟨_,main 4 0 h3 (by omega) (by rw[e0];exact B1) B2 A3 O13⟩
end
section
end
section
theorem F89.spec(a:Int)(h:Heap)(K:KK)(H:(0≤(if(262144:Int)<(if(0:Int)>a then(0:Int)else a)then(262144:Int)else(if(0:Int)>a then(0:Int)else a))∧(if(262144:Int)<(if(0:Int)>a then(0:Int)else a)then(262144:Int)else(if(0:Int)>a then(0:Int)else a))≤(if(262144:Int)<(if(0:Int)>a then(0:Int)else a)then(262144:Int)else(if(0:Int)>a then(0:Int)else a))∧((Nat.cast 8:Int)*(if(262144:Int)<(if(0:Int)>a then(0:Int)else a)then(262144:Int)else(if(0:Int)>a then(0:Int)else a))≤281474976710656)∧(if(262144:Int)<(if(0:Int)>a then(0:Int)else a)then(262144:Int)else(if(0:Int)>a then(0:Int)else a))≤9223372036854775807∧newK h (.cells (madeCells #[.int .u64 0] (Int.toNat (if(262144:Int)<(if(0:Int)>a then(0:Int)else a)then(262144:Int)else(if(0:Int)>a then(0:Int)else a))*1)) 315) fun b1 h2=>newK h2 (.cells #[.slice (some (Addr.mk b1 0 none)) (Int.toNat (if(262144:Int)<(if(0:Int)>a then(0:Int)else a)then(262144:Int)else(if(0:Int)>a then(0:Int)else a))) (Int.toNat (if(262144:Int)<(if(0:Int)>a then(0:Int)else a)then(262144:Int)else(if(0:Int)>a then(0:Int)else a))),.int .i64 0,.int .i64 0] 224) fun b3 h4=>K (.pointer (some (Addr.mk b3 0 none))) h4)):Cl 89 [.int .i64 a] h K:=cN Tryz.func89 H
theorem F110.spec(a:Int)(h:Heap)(K:KK)(H:bcase (decide (a<(1:Int))) (K (.int .i64 0) h) (K (.int .i64 (IntKind.wrap .i64 ((3:Int)*a))) h)):Cl 110 [.int .i64 a] h K:=cN Tryz.func110 H
theorem F132.spec(a:Addr)(h:Heap)(K:KK)(H:ldS (rd h (a.add 0)) fun _ l2 _=>K (.int .i64 (Nat.cast l2:Int)) h):Cl 132 [.pointer (some a)] h K:=cN Tryz.func132 H
theorem F162.spec(a:Addr)(b:Int)(h:Heap)(K:KK)(H:Cl 202 [.pointer (some a),.int .i64 b] h fun v1 h2=>ldP (some v1) fun p3=>bcase (!(Option.isNone p3)) (Cl 203 [.pointer p3] h2 fun v4 h5=>ldI .u64 (some v4) fun n6=>K (.int .u64 n6) h5) (K (.int .u64 0) h2)):Cl 162 [.pointer (some a),.int .i64 b] h K:=cN Tryz.func162 H
theorem F202.spec(b:Addr)(a:Int)(h:Heap)(K:KK)(H:bcase (decide (a<(0:Int))) (K (.pointer none) h) (ldS (rd h (b.add 0)) fun _ l2 _=>bcase (decide (a≥(Nat.cast l2:Int))) (K (.pointer none) h) (Cl 205 [.pointer (some (b.add 1)),.int .i64 1] h fun v4 h5=>ldI .i64 (some v4) fun _=>ldS (rd h5 (b.add 0)) fun p7 l8 _=>ptrK p7 fun a10=>0≤a∧a<(Nat.cast l8:Int)∧K (.pointer (some (a10.add (Int.toNat a*1)))) h5))):Cl 202 [.pointer (some b),.int .i64 a] h K:=cN Tryz.func202 H
theorem F203.spec(a:Addr)(h:Heap)(K:KK)(H:ldI .u64 (rd h (a.add 0)) fun n3=>K (.int .u64 n3) h):Cl 203 [.pointer (some a)] h K:=cN Tryz.func203 H
theorem F163.spec(a:Addr)(b c d:Int)(h:Heap)(K:KK)(H:Cl 202 [.pointer (some a),.int .i64 b] h fun v1 h2=>ldP (some v1) fun p3=>bcase (Option.isNone p3) (K (.bool false) h2) (Cl 204 [.pointer p3,.int .u64 c,.int .u64 d] h2 fun v4 h5=>ldB (some v4) fun b6=>bcase (!b6) (Cl 205 [.pointer (some (a.add 2)),.int .i64 1] h5 fun v7 h8=>ldI .i64 (some v7) fun _=>K (.bool b6) h8) (K (.bool b6) h5))):Cl 163 [.pointer (some a),.int .i64 b,.int .u64 c,.int .u64 d] h K:=cN Tryz.func163 H
theorem F205.spec(a:Addr)(b:Int)(h:Heap)(K:KK)(H:ldI .i64 (rd h (a.add 0)) fun n3=>stK h (a.add 0) (.int .i64 (IntKind.wrap .i64 (n3+b))) fun h2=>K (.int .i64 (IntKind.wrap .i64 (n3+b))) h2):Cl 205 [.pointer (some a),.int .i64 b] h K:=cN Tryz.func205 H
theorem F204.spec(a:Addr)(b c:Int)(h:Heap)(K:KK)(H:ldI .u64 (rd h (a.add 0)) fun n3=>bcase (n3==b) (stK h (a.add 0) (.int .u64 c) fun h2=>K (.bool true) h2) (fz h (a.add 0)=false∧K (.bool false) h)):Cl 204 [.pointer (some a),.int .u64 b,.int .u64 c] h K:=cN Tryz.func204 H
theorem F282.spec(a:Addr)(b c:Int)(h:Heap)(K:KK)(H:Cl 202 [.pointer (some a),.int .i64 b] h fun v1 h2=>ldP (some v1) fun p3=>bcase (!(Option.isNone p3)) (Cl 304 [.pointer p3,.int .u64 c] h2 fun v4 h5=>v4=(.tuple #[])∧K (.tuple #[]) h5) (K (.tuple #[]) h2)):Cl 282 [.pointer (some a),.int .i64 b,.int .u64 c] h K:=cN Tryz.func282 H
theorem F304.spec(a:Addr)(b:Int)(h:Heap)(K:KK)(H:stK h (a.add 0) (.int .u64 b) fun h2=>K (.tuple #[]) h2):Cl 304 [.pointer (some a),.int .u64 b] h K:=cN Tryz.func304 H
end
section
structure MemIs(h:Heap)(m c:Nat)(cs:List Int)(ops fails:Int):Prop where
 head:At h m [.slice (some ⟨c,0,none⟩) cs.length cs.length,.int .i64 ops,.int .i64 fails]
 body:At h c (cs.map (.int .u64))
 ne:m≠c
theorem MemIs.only{S:List Nat}{h h':Heap}{m c:Nat}{cs:List Int}{ops fails:Int}(H:MemIs h m c cs ops fails)(O:Only S h h')(hm:m∉S)(hc:c∉S):MemIs h' m c cs ops fails:=
 ⟨H.head.only O hm,H.body.only O hc,H.ne⟩
def up(n:Int):Int:=IntKind.wrap .i64 (n+1)
theorem c40{h:Heap}{b i:Nat}{n:Int}{K:Value→Heap→Prop}(hr:rd h ⟨b,i,none⟩=some (.int .u64 n))(hK:K (.int .u64 n) h):
  Cl 203 [.pointer (some ⟨b,i,none⟩)] h K:=by
 apply F203.spec
 rw[add_zero]
 exact ldI_of hr hK
theorem c42{h:Heap}{b i:Nat}{c:List Value}{n d:Int}{K:Value→Heap→Prop}(H:At h b c)(hi:c[i]? =some (.int .i64 n))
  (hK: ∀h',At h' b (c.set i (.int .i64 (IntKind.wrap .i64 (n+d))))→Only [b] h h'→K (.int .i64 (IntKind.wrap .i64 (n+d))) h'):
  Cl 205 [.pointer (some ⟨b,i,none⟩),.int .i64 d] h K:=by
 apply F205.spec
 rw[add_zero]
 exact ldI_of (by rw[H.rd];exact hi) (stK_at H (List.getElem?_eq_some_iff.1 hi).1 rfl fun h' h1 h2 _=>hK h' h1 h2)
theorem c48{h:Heap}{b i:Nat}{c:List Value}{d:Int}{K:Value→Heap→Prop}(H:At h b c)(hi:i<c.length)
  (hK: ∀h',At h' b (c.set i (.int .u64 d))→Only [b] h h'→K (.tuple #[]) h'):
  Cl 304 [.pointer (some ⟨b,i,none⟩),.int .u64 d] h K:=by
 apply F304.spec
 rw[add_zero]
 exact stK_at H hi rfl fun h' h1 h2 _=>hK h' h1 h2
theorem c41{h:Heap}{b i:Nat}{c:List Value}{n x y:Int}{K:Value→Heap→Prop}(H:At h b c)(hi:c[i]? =some (.int .u64 n))
  (hT:n=x→ ∀h',At h' b (c.set i (.int .u64 y))→Only [b] h h'→K (.bool true) h') (hF:n≠x→K (.bool false) h):
  Cl 204 [.pointer (some ⟨b,i,none⟩),.int .u64 x,.int .u64 y] h K:=by
 apply F204.spec
 rw[add_zero]
 refine ldI_of (by rw[H.rd];exact hi) (bcase_of (fun e=>stK_at H (List.getElem?_eq_some_iff.1 hi).1 rfl fun h' h1 h2 _=>hT (by simpa using e) h' h1 h2) fun e=>⟨H.fz _ _,hF (by simpa using e)⟩)
theorem at_in{h:Heap}{m c:Nat}{cs:List Int}{ops fails:Int}{i:Int}{K:Value→Heap→Prop}(H:MemIs h m c cs ops fails)(h0:0≤i)(h1:i<cs.length)
  (hK: ∀h',MemIs h' m c cs (up ops) fails→Only [m,c] h h'→K (.pointer (some ⟨c,i.toNat,none⟩)) h'):
  Cl 202 [.pointer (some ⟨m,0,none⟩),.int .i64 i] h K:=by
 apply F202.spec
 rw[decide_eq_false (by omega: ¬i<0)]
 simp only[add_mk,H.head.rd,Nat.zero_add,List.getElem?_cons_zero,ldS_some,bcase_false]
 rw[decide_eq_false (by omega: ¬i≥(Nat.cast cs.length:Int)),bcase_false]
 refine c42 (n:=ops) (i:=1) H.head rfl fun h' a1 a2=> ?_
 simp only[ldI_some,List.set_cons_succ,List.set_cons_zero]at a1 ⊢
 simp only[a1.rd,List.getElem?_cons_zero,ldS_some,ptrK_some,add_mk,Nat.zero_add,Nat.mul_one]
 exact⟨h0,h1,hK h' ⟨a1,H.body.only a2 (by simp[H.ne.symm]),H.ne⟩ (a2.mono (by simp+contextual))⟩
theorem load_in{h:Heap}{m c:Nat}{cs:List Int}{ops fails:Int}{i:Int}{K:Value→Heap→Prop}(H:MemIs h m c cs ops fails)(h0:0≤i)(h1:i<cs.length)
  (hK: ∀h',MemIs h' m c cs (up ops) fails→Only [m,c] h h'→K (.int .u64 (cs.getD i.toNat 0)) h'):
  Cl 162 [.pointer (some ⟨m,0,none⟩),.int .i64 i] h K:=by
 apply F162.spec
 refine at_in H h0 h1 fun h' a1 a2=> ?_
 have hi:i.toNat<cs.length:=by omega
 simp only[ldP_some,Option.isNone_some,Bool.not_false,bcase_true]
 refine c40 (n:=cs.getD i.toNat 0) (by rw[a1.body.rd];simp[hi]) ?_
 simp only[ldI_some]
 exact hK h' a1 a2
theorem MemIs.put{h h':Heap}{m c:Nat}{cs:List Int}{ops fails:Int}(H:MemIs h m c cs ops fails){i:Nat}{v:Int}(a:At h' c ((cs.map (Value.int .u64)).set i (.int .u64 v)))(O:Only [c] h h'):
  MemIs h' m c (cs.set i v) ops fails:=
 ⟨by rw[List.length_set];exact H.head.only O (by simp[H.ne]),by rw[List.map_set];exact a,H.ne⟩
theorem store_in{h:Heap}{m c:Nat}{cs:List Int}{ops fails:Int}{i d:Int}{K:Value→Heap→Prop}(H:MemIs h m c cs ops fails)(h0:0≤i)(h1:i<cs.length)
  (hK: ∀h',MemIs h' m c (cs.set i.toNat d) (up ops) fails→Only [m,c] h h'→K (.tuple #[]) h'):
  Cl 282 [.pointer (some ⟨m,0,none⟩),.int .i64 i,.int .u64 d] h K:=by
 apply F282.spec
 refine at_in H h0 h1 fun h' a1 a2=> ?_
 have hi:i.toNat<cs.length:=by omega
 simp only[ldP_some,Option.isNone_some,Bool.not_false,bcase_true]
 exact c48 a1.body (by simpa using hi) fun h'' b1 b2=>⟨rfl,hK h'' (a1.put b1 b2) (a2.trans b2 (by simp))⟩
theorem cas_in{h:Heap}{m c:Nat}{cs:List Int}{ops fails:Int}{i x y:Int}{K:Value→Heap→Prop}(H:MemIs h m c cs ops fails)(h0:0≤i)(h1:i<cs.length)
  (hT:cs.getD i.toNat 0=x→ ∀h',MemIs h' m c (cs.set i.toNat y) (up ops) fails→Only [m,c] h h'→K (.bool true) h')
  (hF:cs.getD i.toNat 0≠x→ ∀h',MemIs h' m c cs (up ops) (up fails)→Only [m,c] h h'→K (.bool false) h'):
  Cl 163 [.pointer (some ⟨m,0,none⟩),.int .i64 i,.int .u64 x,.int .u64 y] h K:=by
 apply F163.spec
 refine at_in H h0 h1 fun h' a1 a2=> ?_
 have hi:i.toNat<cs.length:=by omega
 simp only[ldP_some,Option.isNone_some,bcase_false]
 refine c41 (n:=cs.getD i.toNat 0) a1.body (by simp[hi]) (fun e h'' b1 b2=> ?_) fun e=> ?_
 ·simp only[ldB_some,Bool.not_true,bcase_false]
  exact hT e h'' (a1.put b1 b2) (a2.trans b2 (by simp))
 ·simp only[ldB_some,Bool.not_false,bcase_true,add_mk,Nat.zero_add]
  refine c42 (n:=fails) a1.head rfl fun h'' b1 b2=> ?_
  simp only[ldI_some]
  exact hF e h'' ⟨b1,a1.body.only b2 (by simp[H.ne.symm]),H.ne⟩ (a2.trans b2 (by simp))
theorem len_spec{h:Heap}{m c:Nat}{cs:List Int}{ops fails:Int}{K:Value→Heap→Prop}(H:MemIs h m c cs ops fails)(hK:K (.int .i64 cs.length) h):
  Cl 132 [.pointer (some ⟨m,0,none⟩)] h K:=by
 apply F132.spec
 rw[add_mk,H.head.rd]
 exact ldS_of rfl hK
def cellsFor(n:Int):Nat:=(min (max n 0) 262144).toNat
theorem cellsFor_of{k:Nat}(h:k≤262144):cellsFor (k:Int)=k:=by
 unfold cellsFor
 rw[Int.max_eq_left (by omega),Int.min_eq_left (by omega),Int.toNat_natCast]
theorem made_ints(n:Nat):(madeCells #[.int .u64 (0:Int)] n).toList=(List.replicate n (0:Int)).map (Value.int .u64):=by
 rw[toList_madeCells_one];simp
theorem new_spec{h:Heap}{n:Int}{K:Value→Heap→Prop}
  (hK: ∀m c h',MemIs h' m c (List.replicate (cellsFor n) 0) 0 0→Only [] h h'→h.size≤m→h.size≤c→K (.pointer (some ⟨m,0,none⟩)) h'):
  Cl 89 [.int .i64 n] h K:=by
 apply F89.spec
 have e:(if(262144:Int)<(if(0:Int)>n then(0:Int)else n)then(262144:Int)else(if(0:Int)>n then(0:Int)else n))=(cellsFor n:Int):=by
  unfold cellsFor
  split<;>split<;>omega
 have h2:cellsFor n≤262144:=by unfold cellsFor;omega
 rw[e]
 refine⟨by omega,by omega,by omega,by omega,?_⟩
 refine newK_at fun h1 a1 a2 a3=>newK_at fun h2 b1 b2 b3=> ?_
 simp only[Int.toNat_natCast,Nat.mul_one]at a1 b1 ⊢
 rw[made_ints]at a1
 refine hK h1.size h.size h2 ⟨?_,a1.only b2 (by simp),by omega⟩ (a2.trans b2 (by simp)) (by omega) (by omega)
 rw[List.length_replicate]
 exact b1
end
section
theorem F159.spec(b:Addr)(a c:Int)(h:Heap)(K:KK)(H:bcase (decide (a<(0:Int))) (K (.tuple #[.pointer none,.int .i64 61]) h) (bcase (decide (c<(1:Int))) (K (.tuple #[.pointer none,.int .i64 61]) h) (Cl 132 [.pointer (some b)] h fun v1 h2=>ldI .i64 (some v1) fun n3=>bcase (decide (a>n3)) (K (.tuple #[.pointer none,.int .i64 61]) h2) (Cl 132 [.pointer (some b)] h2 fun v4 h5=>ldI .i64 (some v4) fun n6=>bcase (decide (c>(IntKind.wrap .i64 (n6-a)))) (K (.tuple #[.pointer none,.int .i64 61]) h5) (newK h5 (.cells #[.pointer (some b),.int .i64 a,.int .i64 c] 276) fun b7 h8=>K (.tuple #[.pointer (some (Addr.mk b7 0 none)),.int .i64 0]) h8))))):Cl 159 [.pointer (some b),.int .i64 a,.int .i64 c] h K:=cN Tryz.func159 H
def F241.T:Hint:=⟨[],[(1,[[(0,[]),(1,[]),(2,[]),(3,[]),(4,[]),(5,[]),(6,[]),(8,[]),(9,[]),(10,[]),(11,[]),(12,[]),(13,[]),(7,[0,1,8,9,10,11,12,13]),(14,[]),(15,[]),(16,[])]])]⟩
theorem F241.spec(a:Addr)(b:Int)(h:Heap)(K:KK)(H:ldI .i64 (rd h (a.add 2)) fun n1=>ldI .i64 (rd h (a.add 2)) fun n2=>Cl 246 [.int .u64 b,.int .i64 n1] h fun v3 h4=>ldI .i64 (some v3) fun n5=>((.pointer (some a))=((.pointer (some a)):Value)∧((.int .u64 b)=((.int .u64 b):Value)∧((.pointer (some a))=((.pointer (some a)):Value)∧((.pointer (some a))=((.pointer (some a)):Value)∧((.pointer (some (a.add 2)))=((.pointer (some (a.add 2))):Value)∧ldI .i64 (rd h4 (a.add 2)) fun n6=>((.int .i64 n6)=((.int .i64 n2):Value)∧((.int .u64 b)=((.int .u64 b):Value)∧((.bool (b==(0:Int)))=((.bool (b==(0:Int))):Value)∧newK h4 (.cells #[.pointer (some a),.int .u64 b,.int .i64 n5,.int .i64 n2,.nilFunc,.bool (b==(0:Int)),.int .i64 (-1),.int .i64 61,.bool false] 350) fun b7 h8=>stK h8 (((Addr.mk b7 0 none).add 4).add 0) (.func (.func 285) #[.pointer (some (Addr.mk b7 0 none))] #[]) fun h9=>K (.pointer (some (Addr.mk b7 0 none))) h9))))))))):Cl 241 [.pointer (some a),.int .u64 b] h K:=cT F241.T Tryz.func241 H
def F242.T:Hint:=⟨[(3,[0])],[]⟩
section
variable (a:Addr)(h:Heap)(K:KK)
def F242.wk3:Prop:=ldB (rd h (a.add 5)) fun b1=>K (.bool b1) h
theorem F242.spec(a:Addr)(h:Heap)(K:KK)(H:ldB (rd h (a.add 5)) fun b1=>bcase (!b1) (ldV (rd h (a.add 4)) fun v2=>dynK Tryz.prog X v2 [] h fun v3 h4=>v3=(.tuple #[])∧F242.wk3 a h4 K) (F242.wk3 a h K)):Cl 242 [.pointer (some a)] h K:=cT F242.T Tryz.func242 H
end
def F243.T:Hint:=⟨[],[(1,[[(0,[]),(1,[]),(2,[]),(3,[]),(4,[]),(5,[]),(6,[]),(7,[]),(8,[]),(9,[])]])]⟩
theorem F243.spec(a:Addr)(h:Heap)(K:KK)(H:ldI .i64 (rd h (a.add 6)) fun n1=>ldI .i64 (rd h (a.add 7)) fun n2=>K (.tuple #[.int .i64 n1,.int .i64 n2]) h):Cl 243 [.pointer (some a)] h K:=cT F243.T Tryz.func243 H
theorem F244.spec(a:Addr)(h:Heap)(K:KK)(H:ldB (rd h (a.add 8)) fun b1=>K (.bool b1) h):Cl 244 [.pointer (some a)] h K:=cN Tryz.func244 H
theorem F200.spec(a:Addr)(h:Heap)(K:KK)(H:ldI .i64 (rd h (a.add 2)) fun n1=>K (.int .i64 n1) h):Cl 200 [.pointer (some a)] h K:=cN Tryz.func200 H
def F247.T:Hint:=⟨[],[(3,[[(0,[]),(1,[]),(2,[]),(3,[]),(4,[]),(5,[]),(6,[]),(7,[]),(8,[]),(9,[]),(10,[]),(11,[])]])]⟩
theorem F247.spec(a:Addr)(b:Int)(h:Heap)(K:KK)(H:bcase (decide (b<(0:Int))) (K (.int .u64 0) h) (ldI .i64 (rd h (a.add 2)) fun n1=>bcase (decide (b≥n1)) (K (.int .u64 0) h) (ldP (rd h (a.add 0)) fun p2=>ldI .i64 (rd h (a.add 1)) fun n3=>Cl 162 [.pointer p2,.int .i64 (IntKind.wrap .i64 (n3+b))] h fun v4 h5=>ldI .u64 (some v4) fun n6=>K (.int .u64 n6) h5))):Cl 247 [.pointer (some a),.int .i64 b] h K:=cT F247.T Tryz.func247 H
def F285.T:Hint:=⟨[],[(0,[[(0,[]),(1,[]),(2,[]),(3,[]),(4,[]),(5,[]),(6,[]),(7,[]),(8,[]),(9,[]),(10,[]),(11,[]),(12,[]),(13,[]),(14,[]),(15,[]),(16,[]),(17,[]),(18,[]),(19,[])]])]⟩
theorem F285.spec(a:Addr)(h:Heap)(K:KK)(H:ldP (rd h (a.add 0)) fun p1=>ptrK p1 fun a2=>ldP (rd h (a2.add 0)) fun p3=>ldP (rd h (a.add 0)) fun p4=>ptrK p4 fun a5=>ldI .i64 (rd h (a5.add 1)) fun n6=>ldI .i64 (rd h (a.add 2)) fun n7=>Cl 162 [.pointer p3,.int .i64 (IntKind.wrap .i64 (n6+n7))] h fun v8 h9=>ldI .u64 (some v8) fun n10=>ldI .u64 (rd h9 (a.add 1)) fun n11=>bcase (n10==n11) (ldI .i64 (rd h9 (a.add 2)) fun n12=>Cl 305 [.pointer (some a),.int .i64 n12,.int .i64 0] h9 fun v13 h14=>v13=(.tuple #[])∧K (.tuple #[]) h14) (bcase (n10==(0:Int)) (stK h9 ((a.add 4).add 0) (.func (.func 306) #[.pointer (some a)] #[]) fun h15=>K (.tuple #[]) h15) (Cl 307 [.pointer (some a)] h9 fun v16 h17=>v16=(.tuple #[])∧K (.tuple #[]) h17))):Cl 285 [.pointer (some a)] h K:=cT F285.T Tryz.func285 H
theorem F305.spec(a:Addr)(b c:Int)(h:Heap)(K:KK)(H:stK h ((a.add 5).add 0) (.bool true) fun h1=>stK h1 ((a.add 6).add 0) (.int .i64 b) fun h2=>stK h2 ((a.add 7).add 0) (.int .i64 c) fun h3=>K (.tuple #[]) h3):Cl 305 [.pointer (some a),.int .i64 b,.int .i64 c] h K:=cN Tryz.func305 H
def F306.T:Hint:=⟨[],[(1,[[(0,[]),(1,[]),(2,[]),(3,[]),(4,[]),(5,[]),(6,[]),(7,[]),(8,[]),(9,[]),(10,[]),(11,[]),(12,[]),(13,[]),(14,[]),(15,[]),(16,[]),(17,[]),(18,[]),(19,[]),(20,[]),(21,[]),(22,[]),(23,[])]])]⟩
theorem F306.spec(a:Addr)(h:Heap)(K:KK)(H:stK h ((a.add 4).add 0) (.func (.func 285) #[.pointer (some a)] #[]) fun h1=>ldP (rd h1 (a.add 0)) fun p2=>ptrK p2 fun a3=>ldP (rd h1 (a3.add 0)) fun p4=>ldP (rd h1 (a.add 0)) fun p5=>ptrK p5 fun a6=>ldI .i64 (rd h1 (a6.add 1)) fun n7=>ldI .i64 (rd h1 (a.add 2)) fun n8=>ldI .u64 (rd h1 (a.add 1)) fun n9=>Cl 163 [.pointer p4,.int .i64 (IntKind.wrap .i64 (n7+n8)),.int .u64 0,.int .u64 n9] h1 fun v10 h11=>ldB (some v10) fun b12=>bcase b12 (stK h11 ((a.add 8).add 0) (.bool true) fun h13=>ldI .i64 (rd h13 (a.add 2)) fun n14=>Cl 305 [.pointer (some a),.int .i64 n14,.int .i64 0] h13 fun v15 h16=>v15=(.tuple #[])∧K (.tuple #[]) h16) (K (.tuple #[]) h11)):Cl 306 [.pointer (some a)] h K:=cT F306.T Tryz.func306 H
def F307.T:Hint:=⟨[],[(0,[[(0,[]),(1,[]),(2,[]),(3,[]),(4,[]),(5,[]),(6,[]),(7,[]),(8,[]),(9,[]),(10,[]),(11,[]),(12,[]),(13,[]),(14,[]),(15,[]),(16,[])]])]⟩
theorem F307.spec(a:Addr)(h:Heap)(K:KK)(H:ldI .i64 (rd h (a.add 2)) fun n1=>ldP (rd h (a.add 0)) fun p2=>ptrK p2 fun a3=>ldI .i64 (rd h (a3.add 2)) fun n4=>(n4≠0∧stK h ((a.add 2).add 0) (.int .i64 (Int.tmod (IntKind.wrap .i64 (n1+(1:Int))) n4)) fun h5=>ldI .i64 (rd h5 (a.add 3)) fun n6=>stK h5 ((a.add 3).add 0) (.int .i64 (IntKind.wrap .i64 (n6-(1:Int)))) fun h7=>ldI .i64 (rd h7 (a.add 3)) fun n8=>bcase (n8==(0:Int)) (Cl 305 [.pointer (some a),.int .i64 (-1),.int .i64 60] h7 fun v9 h10=>v9=(.tuple #[])∧K (.tuple #[]) h10) (K (.tuple #[]) h7))):Cl 307 [.pointer (some a)] h K:=cT F307.T Tryz.func307 H
end
section
def xsf(x:Int):Int:=bitsI .xor .u64 x (Int.fdiv x (2^(min (Int.toNat (33:Int)) (IntKind.bits .u64))))
def mixF(x:Int):Int:=xsf (IntKind.wrap .u64 (xsf (IntKind.wrap .u64 (xsf x*18397679294719823053))*14181476777654086739))
theorem wrapu_range(x:Int):0≤IntKind.wrap .u64 x∧IntKind.wrap .u64 x<18446744073709551616:=by
 rw[wrap_u64'];omega
theorem xsf_range(x:Int):0≤xsf x∧xsf x<18446744073709551616:=wrapu_range _
theorem mix_spec{h:Heap}{x:Int}{K:Value→Heap→Prop}(hK:K (.int .u64 (mixF x)) h):Cl 286 [.int .u64 x] h K:=by
 apply F286.spec
 unfold F286.wk2
 refine⟨3,?_⟩
 rw[F286.sL2]
 rw[show decide ((0:Int)<2)=true from rfl,bcase_true]
 refine⟨by decide,by decide,ldI_of rfl ⟨by decide,?_⟩⟩
 rw[F286.sL2]
 try dsimp only
 rw[show IntKind.wrap .i64 ((0:Int)+1)=1 from rfl,show decide ((1:Int)<2)=true from rfl,bcase_true]
 refine⟨by decide,by decide,ldI_of rfl ⟨by decide,?_⟩⟩
 rw[F286.sL2]
 try dsimp only
 rw[show IntKind.wrap .i64 ((1:Int)+1)=2 from rfl,show decide ((2:Int)<2)=false from rfl,bcase_false]
 exact⟨by decide,hK⟩
def home(key:Int)(n:Nat):Nat:=((mixF key).tmod n).toNat
theorem home_lt(key:Int){n:Nat}(hn:1≤n):home key n<n:=by
 unfold home
 have h0:0≤mixF key:=(xsf_range _).1
 rw[Int.tmod_eq_emod_of_nonneg h0]
 have:=Int.emod_lt_of_pos (mixF key) (by omega:(0:Int)<n)
 have:=Int.emod_nonneg (mixF key) (by omega:(n:Int)≠0)
 omega
theorem home_spec{h:Heap}{x:Int}{n:Nat}{K:Value→Heap→Prop}(h1:1≤n)(h2:n<1000000000)(hK:K (.int .i64 (home x n:Int)) h):Cl 246 [.int .u64 x,.int .i64 (n:Int)] h K:=by
 apply F246.spec
 rw[decide_eq_false (by omega),bcase_false]
 refine mix_spec (ldI_of rfl ?_)
 rw[wrap_u64 (n:=(n:Int)) (by omega) (by omega)]
 have h0:0≤mixF x:=(xsf_range _).1
 have e:(mixF x).tmod n=(home x n:Int):=by
  unfold home
  rw[Int.tmod_eq_emod_of_nonneg h0]
  have:=Int.emod_nonneg (mixF x) (by omega:(n:Int)≠0)
  omega
 have:=home_lt x h1
 rw[e,wrap_i64 (by omega) (by omega)]
 exact⟨by omega,hK⟩
def TabIs(h:Heap)(t m base n:Nat):Prop:=At h t [.pointer (some ⟨m,0,none⟩),.int .i64 (base:Int),.int .i64 (n:Int)]
theorem TabIs.only{S:List Nat}{h h':Heap}{t m base n:Nat}(H:TabIs h t m base n)(O:Only S h h')(ht:t∉S):TabIs h' t m base n:=At.only H O ht
structure Fi where
 key:Int
 pos:Nat
 left:Nat
 claims:Bool
 done:Bool
 slot:Int
 e:Int
 made:Bool
def nxt(f:Nat):Bool→Value
 |true=> .func (.func 306) #[.pointer (some ⟨f,0,none⟩)] #[]
 |false=> .func (.func 285) #[.pointer (some ⟨f,0,none⟩)] #[]
def FindIs(h:Heap)(f t:Nat)(F:Fi):Prop:=
 At h f [.pointer (some ⟨t,0,none⟩),.int .u64 F.key,.int .i64 (F.pos:Int),.int .i64 (F.left:Int),nxt f F.claims,.bool F.done,.int .i64 F.slot,.int .i64 F.e,.bool F.made]
theorem FindIs.only{S:List Nat}{h h':Heap}{f t:Nat}{F:Fi}(H:FindIs h f t F)(O:Only S h h')(ht:f∉S):FindIs h' f t F:=At.only H O ht
def stepF(base n:Nat)(cs:List Int)(F:Fi):Fi×List Int:=
 if F.done then(F,cs)else
 if F.claims then
  if cs.getD (base+F.pos) 0=0 then({F with claims:=false,made:=true,done:=true,slot:=F.pos,e:=0},cs.set (base+F.pos) F.key)
  else({F with claims:=false},cs)
 else if cs.getD (base+F.pos) 0=F.key then({F with done:=true,slot:=F.pos,e:=0},cs)
 else if cs.getD (base+F.pos) 0=0 then({F with claims:=true},cs)
 else if F.left=1 then({F with pos:=(F.pos+1)%n,left:=0,done:=true,slot:= -1,e:=60},cs)
 else({F with pos:=(F.pos+1)%n,left:=F.left-1},cs)
theorem ends_spec{h:Heap}{f t:Nat}{F:Fi}{s e:Int}{K:Value→Heap→Prop}(H:FindIs h f t F)
  (hK: ∀h',FindIs h' f t {F with done:=true,slot:=s,e:=e}→Only [f] h h'→K (.tuple #[]) h'):
  Cl 305 [.pointer (some ⟨f,0,none⟩),.int .i64 s,.int .i64 e] h K:=by
 apply F305.spec
 simp only[add_mk,Nat.zero_add,Nat.add_zero]
 refine stK_at H (by simp) rfl fun h1 A1 O1 _=>stK_at A1 (by simp) rfl fun h2 A2 O2 _=>stK_at A2 (by simp) rfl fun h3 A3 O3 _=> ?_
 exact hK h3 A3 ((O1.trans O2 (by simp)).trans O3 (by simp))
section
variable {h:Heap}{f t m mc base n:Nat}{cs:List Int}{ops fails:Int}{F:Fi}{K:Value→Heap→Prop}
theorem goes_spec(T:TabIs h t m base n)(H:FindIs h f t F)(hn:1≤n)(hn2:n<1000000000)(hp:F.pos<n)(hl:1≤F.left)(hl2:F.left<1000000000)
  (hK: ∀h',FindIs h' f t (if F.left=1 then {F with pos:=(F.pos+1)%n,left:=0,done:=true,slot:= -1,e:=60}else {F with pos:=(F.pos+1)%n,left:=F.left-1})→Only [f] h h'→K (.tuple #[]) h'):
  Cl 307 [.pointer (some ⟨f,0,none⟩)] h K:=by
 apply F307.spec
 simp only[add_mk,Nat.zero_add,Nat.add_zero]
 refine ldI_of (by rw[At.rd H];rfl) (ldP_of (by rw[At.rd H];rfl) ?_)
 simp only[ptrK_some,add_mk,Nat.zero_add]
 refine ldI_of (by rw[At.rd T];rfl) ⟨by omega,stK_at H (by simp) rfl fun h1 A1 O1 _=> ?_⟩
 have e1:(IntKind.wrap .i64 ((F.pos:Int)+1)).tmod n=(((F.pos+1)%n:Nat):Int):=by
  rw[wrap_i64 (by omega) (by omega),Int.tmod_eq_emod_of_nonneg (by omega)]
  simp
 rw[e1]at A1
 refine ldI_of (by rw[A1.rd];rfl) (stK_at A1 (by simp) rfl fun h2 A2 O2 _=> ?_)
 rw[wrap_i64 (by omega) (by omega)]at A2
 have A2:FindIs h2 f t {F with pos:=(F.pos+1)%n,left:=F.left-1}:=by
  rw[show(F.left:Int)-1=((F.left-1:Nat):Int) by omega]at A2
  exact A2
 have O12:=O1.trans O2 (by simp)
 refine ldI_of (n:=((F.left-1:Nat):Int)) (by rw[At.rd A2];rfl) ?_
 by_cases h1:F.left=1
 ·rw[show(((F.left-1:Nat):Int)==0)=true by simp[h1],bcase_true]
  refine ends_spec A2 fun h3 A3 O3=>⟨rfl,hK h3 ?_ (O12.trans O3 (by simp))⟩
  rw[if_pos h1]
  simpa[h1]using A3
 ·rw[show(((F.left-1:Nat):Int)==0)=false by simp;omega,bcase_false]
  refine hK h2 ?_ O12
  rw[if_neg h1]
  exact A2
theorem step_spec(T:TabIs h t m base n)(H:FindIs h f t F)(M:MemIs h m mc cs ops fails)(hn:1≤n)(hn2:n<1000000000)(hb:base<1000000000)(hp:F.pos<n)(hl:F.done=false→1≤F.left)(hl2:F.left<1000000000)
  (hc:base+n≤cs.length) (d1:f≠t) (d2:f≠m) (d3:f≠mc) (d4:t≠m) (d5:t≠mc)
  (hK: ∀h' fails',FindIs h' f t (stepF base n cs F).1→TabIs h' t m base n→MemIs h' m mc (stepF base n cs F).2 (if F.done then ops else up ops) fails'→Only [f,m,mc] h h'→K (.bool (stepF base n cs F).1.done) h'):
  Cl 242 [.pointer (some ⟨f,0,none⟩)] h K:=by
 apply F242.spec
 simp only[add_mk,Nat.zero_add]
 refine ldB_of (n:=F.done) (by rw[At.rd H];rfl) ?_
 have hend: ∀h' fails',FindIs h' f t (stepF base n cs F).1→TabIs h' t m base n→MemIs h' m mc (stepF base n cs F).2 (if F.done then ops else up ops) fails'→Only [f,m,mc] h h'→F242.wk3 ⟨f,0,none⟩ h' K:=by
  intro h' fails' a1 a2 a3 a4
  unfold F242.wk3
  simp only[add_mk,Nat.zero_add]
  exact ldB_of (by rw[At.rd a1];rfl) (hK h' fails' a1 a2 a3 a4)
 cases hd:F.done with
 |true=>
  rw[Bool.not_true,bcase_false]
  have e:stepF base n cs F=(F,cs):=by unfold stepF;rw[if_pos hd]
  rw[e,hd]at hend
  exact hend h fails H T M (Only.refl _ _)
 |false=>
  rw[Bool.not_false,bcase_true]
  have hb2:IntKind.wrap .i64 ((base:Int)+(F.pos:Int))=((base+F.pos:Nat):Int):=by rw[wrap_i64 (by omega) (by omega)];simp
  have hi:base+F.pos<cs.length:=by omega
  have hg:cs.getD (((base+F.pos:Nat):Int).toNat) 0=cs.getD (base+F.pos) 0:=by rw[Int.toNat_natCast]
  rw[hd]at hend
  have hs: ∀b∈[m,mc],b∈[f,m,mc]:=by simp+contextual
  cases hcl:F.claims with
  |false=>
   refine⟨_,by rw[At.rd H];rfl,?_⟩
   rw[hcl]
   refine dynK_go (by kernel_rfl) ?_
   refine F285.spec _ _ _ ?_
   simp only[add_mk,Nat.zero_add,Nat.add_zero]
   refine ldP_of (by rw[At.rd H];rfl) ?_
   simp only[ptrK_some,add_mk,Nat.zero_add]
   refine ldP_of (by rw[At.rd T];rfl) (ldP_of (by rw[At.rd H];rfl) ?_)
   simp only[ptrK_some,add_mk,Nat.zero_add]
   refine ldI_of (by rw[At.rd T];rfl) (ldI_of (by rw[At.rd H];rfl) ?_)
   rw[hb2]
   refine load_in M (by omega) (by omega) fun h1 M1 O1=>ldI_of rfl ?_
   have H1:=H.only O1 (by simp[d2,d3])
   have T1:=T.only O1 (by simp[d4,d5])
   have Q1:=O1.mono (T:=[f,m,mc]) fun b hb _=>hs b hb
   rw[hg]
   refine ldI_of (n:=F.key) (by rw[At.rd H1];rfl) ?_
   unfold stepF at hend
   rw[if_neg (by simp[hd]),if_neg (by simp[hcl])]at hend
   by_cases hk:cs.getD (base+F.pos) 0=F.key
   ·rw[if_pos hk]at hend
    rw[show(cs.getD (base+F.pos) 0==F.key)=true by simpa using hk,bcase_true]
    refine ldI_of (by rw[At.rd H1];rfl) (ends_spec H1 fun h2 H2 O2=>⟨by trivial,by trivial,?_⟩)
    exact hend h2 fails H2 (T1.only O2 (by simp[d1.symm])) (M1.only O2 (by simp[d2.symm]) (by simp[d3.symm])) (Q1.trans O2 (by simp))
   ·rw[if_neg hk]at hend
    rw[show(cs.getD (base+F.pos) 0==F.key)=false by simpa using hk,bcase_false]
    by_cases hz:cs.getD (base+F.pos) 0=0
    ·rw[if_pos hz]at hend
     rw[show(cs.getD (base+F.pos) 0==0)=true by simpa using hz,bcase_true]
     refine stK_at H1 (by simp) rfl fun h2 A2 O2 _=>⟨by trivial,?_⟩
     exact hend h2 fails A2 (T1.only O2 (by simp[d1.symm])) (M1.only O2 (by simp[d2.symm]) (by simp[d3.symm])) (Q1.trans O2 (by simp))
    ·rw[if_neg hz]at hend
     rw[show(cs.getD (base+F.pos) 0==0)=false by simpa using hz,bcase_false]
     refine goes_spec T1 H1 hn hn2 hp (hl hd) hl2 fun h2 H2 O2=>⟨by trivial,by trivial,?_⟩
     have T2:=T1.only O2 (by simp[d1.symm])
     have M2:=M1.only O2 (by simp[d2.symm]) (by simp[d3.symm])
     have Q2:=Q1.trans O2 (by simp)
     by_cases h1:F.left=1
     ·rw[if_pos h1]at hend H2
      exact hend h2 fails H2 T2 M2 Q2
     ·rw[if_neg h1]at hend H2
      exact hend h2 fails H2 T2 M2 Q2
  |true=>
   refine⟨_,by rw[At.rd H];rfl,?_⟩
   rw[hcl]
   refine dynK_go (by kernel_rfl) ?_
   refine F306.spec _ _ _ ?_
   simp only[add_mk,Nat.zero_add,Nat.add_zero]
   refine stK_at H (by simp) rfl fun h1 A1 O1 _=> ?_
   have H1:FindIs h1 f t {F with claims:=false}:=A1
   have T1:=T.only O1 (by simp[d1.symm])
   have M1:=M.only O1 (by simp[d2.symm]) (by simp[d3.symm])
   have Q1:=O1.mono (T:=[f,m,mc]) fun b hb _=>(by simp at hb;simp[hb])
   refine ldP_of (by rw[At.rd H1];rfl) ?_
   simp only[ptrK_some,add_mk,Nat.zero_add]
   refine ldP_of (by rw[At.rd T1];rfl) (ldP_of (by rw[At.rd H1];rfl) ?_)
   simp only[ptrK_some,add_mk,Nat.zero_add]
   refine ldI_of (by rw[At.rd T1];rfl) (ldI_of (by rw[At.rd H1];rfl) (ldI_of (n:=F.key) (by rw[At.rd H1];rfl) ?_))
   rw[hb2]
   unfold stepF at hend
   rw[if_neg (by simp[hd]),if_pos (by simp[hcl])]at hend
   refine cas_in M1 (by omega) (by omega) (fun e h2 M2 O2=> ?_) fun e h2 M2 O2=> ?_
   ·rw[hg]at e
    rw[if_pos e]at hend
    rw[ldB_some,bcase_true]
    refine stK_at (H1.only O2 (by simp[d2,d3])) (by simp) rfl fun h3 A3 O3 _=> ?_
    have H3:FindIs h3 f t {F with claims:=false,made:=true}:=A3
    refine ldI_of (by rw[At.rd H3];rfl) (ends_spec H3 fun h4 H4 O4=>⟨by trivial,by trivial,?_⟩)
    have O34:=O3.trans O4 (by simp)
    rw[Int.toNat_natCast]at M2
    exact hend h4 fails H4 ((T1.only O2 (by simp[d4,d5])).only O34 (by simp[d1.symm])) (M2.only O34 (by simp[d2.symm]) (by simp[d3.symm])) ((Q1.trans O2 fun b hb _=>hs b hb).trans O34 (by simp))
   ·rw[hg]at e
    rw[if_neg e]at hend
    rw[ldB_some,bcase_false]
    exact⟨by trivial,hend h2 (up fails) (H1.only O2 (by simp[d2,d3])) (T1.only O2 (by simp[d4,d5])) M2 (Q1.trans O2 fun b hb _=>hs b hb)⟩
def newFi(key:Int)(n:Nat):Fi:=⟨key,home key n,n,false,key==0,-1,61,false⟩
theorem find_spec{key:Int}(T:TabIs h t m base n)(hn:1≤n)(hn2:n<1000000000)
  (hK: ∀f h',FindIs h' f t (newFi key n)→Only [] h h'→h.size≤f→K (.pointer (some ⟨f,0,none⟩)) h'):
  Cl 241 [.pointer (some ⟨t,0,none⟩),.int .u64 key] h K:=by
 apply F241.spec
 simp only[add_mk,Nat.zero_add,Nat.add_zero]
 have hr:rd h ⟨t,2,none⟩=some (.int .i64 (n:Int)):=by rw[At.rd T];rfl
 refine ldI_of hr (ldI_of hr (home_spec hn hn2 (ldI_of rfl ⟨trivial,trivial,trivial,trivial,trivial,ldI_of hr ⟨rfl,trivial,trivial,?_⟩⟩)))
 refine newK_at fun h1 A1 O1 z1=>stK_at A1 (by simp) rfl fun h2 A2 O2 _=> ?_
 exact hK h.size h2 A2 (O1.trans O2 fun b hb hl=>absurd (show b=h.size by simpa using hb) (by omega)) (Nat.le_refl _)
theorem made_spec(H:FindIs h f t F)(hK:K (.bool F.made) h):Cl 244 [.pointer (some ⟨f,0,none⟩)] h K:=by
 apply F244.spec
 simp only[add_mk,Nat.zero_add]
 exact ldB_of (by rw[At.rd H];rfl) hK
theorem slot_spec(H:FindIs h f t F)(hK:K (.tuple #[.int .i64 F.slot,.int .i64 F.e]) h):Cl 243 [.pointer (some ⟨f,0,none⟩)] h K:=by
 apply F243.spec
 simp only[add_mk,Nat.zero_add]
 exact ldI_of (by rw[At.rd H];rfl) (ldI_of (by rw[At.rd H];rfl) hK)
theorem slots_spec(T:TabIs h t m base n)(hK:K (.int .i64 (n:Int)) h):Cl 200 [.pointer (some ⟨t,0,none⟩)] h K:=by
 apply F200.spec
 simp only[add_mk,Nat.zero_add]
 exact ldI_of (by rw[At.rd T];rfl) hK
theorem tabnew_spec{base n:Nat}(M:MemIs h m mc cs ops fails)(hn:1≤n)(hb:base+n≤cs.length)(hc:cs.length<1000000000)
  (hK: ∀t h',TabIs h' t m base n→Only [] h h'→h.size≤t→K (.tuple #[.pointer (some ⟨t,0,none⟩),.int .i64 0]) h'):
  Cl 159 [.pointer (some ⟨m,0,none⟩),.int .i64 (base:Int),.int .i64 (n:Int)] h K:=by
 apply F159.spec
 rw[decide_eq_false (by omega),bcase_false,decide_eq_false (by omega),bcase_false]
 refine len_spec M (ldI_of rfl ?_)
 rw[decide_eq_false (by omega),bcase_false]
 refine len_spec M (ldI_of rfl ?_)
 rw[wrap_i64 (by omega) (by omega),decide_eq_false (by omega),bcase_false]
 exact newK_at fun h1 A1 O1 z1=>hK h.size h1 A1 O1 (Nat.le_refl _)
end
end
section
def cell(base:Nat)(cs:List Int)(i:Nat):Int:=cs.getD (base+i) 0
def cnt(base:Nat)(cs:List Int):Nat→Nat
 |0=>0
 |n+1=>cnt base cs n+(if cell base cs n=0 then 0 else 1)
section
variable {h:Heap}{t m mc base n:Nat}{cs:List Int}{ops fails:Int}{K:Value→Heap→Prop}
theorem at_spec(T:TabIs h t m base n)(M:MemIs h m mc cs ops fails)(hb:base<1000000000)(hn:n<1000000000)(hc:base+n≤cs.length){i:Nat}(hi:i<n)
  (hK: ∀h',MemIs h' m mc cs (up ops) fails→Only [m,mc] h h'→K (.int .u64 (cell base cs i)) h'):
  Cl 247 [.pointer (some ⟨t,0,none⟩),.int .i64 (i:Int)] h K:=by
 apply F247.spec
 simp only[add_mk,Nat.zero_add]
 rw[decide_eq_false (by omega),bcase_false]
 refine ldI_of (n:=(n:Int)) (by rw[At.rd T];rfl) ?_
 rw[decide_eq_false (by omega),bcase_false]
 refine ldP_of (by rw[At.rd T];rfl) (ldI_of (by rw[At.rd T];rfl) ?_)
 rw[show IntKind.wrap .i64 ((base:Int)+(i:Int))=((base+i:Nat):Int) by rw[wrap_i64 (by omega) (by omega)];simp]
 refine load_in M (by omega) (by omega) fun h1 M1 O1=>ldI_of rfl ?_
 rw[Int.toNat_natCast]
 exact hK h1 M1 O1
end
end
section
def path(n:Nat)(key:Int)(d:Nat):Nat:=(home key n+d)%n
theorem path_lt{n:Nat}{key:Int}{d:Nat}(hn:1≤n):path n key d<n:=Nat.mod_lt _ (by omega)
theorem path_surj{n:Nat}{key:Int}{i:Nat}(hi:i<n): ∃d,d<n∧path n key d=i:=by
 have hh:=home_lt key (show 1≤n by omega)
 by_cases h:home key n≤i
 ·exact⟨i-home key n,by omega,by unfold path;rw[show home key n+(i-home key n)=i by omega];exact Nat.mod_eq_of_lt hi⟩
 ·exact⟨i+n-home key n,by omega,by
   unfold path
   rw[show home key n+(i+n-home key n)=i+n by omega,Nat.add_mod_right]
   exact Nat.mod_eq_of_lt hi⟩
theorem path_succ{n:Nat}{key:Int}{d:Nat}:path n key (d+1)=(path n key d+1)%n:=by
 unfold path
 rw[←Nat.add_assoc,Nat.mod_add_mod]
def Seen(base n:Nat)(cs:List Int)(key:Int)(d:Nat):Prop:= ∀j,j<d→cell base cs (path n key j)≠0∧cell base cs (path n key j)≠key
def TInv(base n:Nat)(cs:List Int):Prop:=
 ∀i,i<n→cell base cs i≠0→ ∃d,d<n∧path n (cell base cs i) d=i∧Seen base n cs (cell base cs i) d
structure Fok(base n:Nat)(cs:List Int)(F:Fi):Prop where
 pos:F.pos<n
 left:F.left≤n
 going:F.done=false→F.key≠0∧1≤F.left∧F.pos=path n F.key (n-F.left)∧Seen base n cs F.key (n-F.left)∧F.made=false∧F.slot= -1∧F.e=61
 ended:F.done=true→(F.key=0∧F.slot= -1∧F.e=61∧F.made=false)∨(F.key≠0∧F.e=0∧ ∃i:Nat,i<n∧F.slot=i∧cell base cs i=F.key)∨
  (F.key≠0∧F.e=60∧F.slot= -1∧F.made=false∧ ∀i,i<n→cell base cs i≠0∧cell base cs i≠F.key)
def Grow(base n:Nat)(cs cs':List Int):Prop:=cs'.length=cs.length∧(∀i,i<n→cell base cs i≠0→cell base cs' i=cell base cs i)∧ ∀x,x<base∨base+n≤x→cs'.getD x 0=cs.getD x 0
theorem Grow.refl(base n:Nat)(cs:List Int):Grow base n cs cs:=⟨rfl,fun _ _ _=>rfl,fun _ _=>rfl⟩
theorem Grow.trans{base n:Nat}{a b c:List Int}(H:Grow base n a b)(G:Grow base n b c):Grow base n a c:=
 ⟨G.1.trans H.1,fun i hi h=>by rw[G.2.1 i hi (by rw[H.2.1 i hi h];exact h),H.2.1 i hi h],fun x hx=>(G.2.2 x hx).trans (H.2.2 x hx)⟩
theorem Seen.grow{base n:Nat}{cs cs':List Int}{key:Int}{d:Nat}(hn:1≤n)(H:Seen base n cs key d)(G:Grow base n cs cs'):Seen base n cs' key d:=by
 intro j hj
 obtain⟨a,b⟩:=H j hj
 rw[G.2.1 _ (path_lt hn) a]
 exact⟨a,b⟩
theorem newFi_ok{base n:Nat}{cs:List Int}{key:Int}(hn:1≤n):Fok base n cs (newFi key n):=by
 refine⟨home_lt key hn,Nat.le_refl _,fun hd=> ?_,fun hd=> ?_⟩
 ·have hk:key≠0:=by simpa[newFi]using hd
  refine⟨hk,hn,?_,?_,rfl,rfl,rfl⟩
  ·show home key n=path n key (n-n)
   unfold path
   rw[Nat.sub_self,Nat.add_zero,Nat.mod_eq_of_lt (home_lt key hn)]
  ·intro j hj
   simp[newFi]at hj
 ·have hk:key=0:=by simpa[newFi]using hd
  exact Or.inl ⟨hk,rfl,rfl,rfl⟩
section
variable {base n:Nat}{cs:List Int}{F:Fi}
theorem cell_set{i j:Nat}{v:Int}(hi:base+i<cs.length):cell base (cs.set (base+i) v) j=if j=i then v else cell base cs j:=by
 unfold cell
 by_cases h:j=i
 ·subst h
  simp[hi]
 ·simp only[List.getD,List.getElem?_set,if_neg (by omega: ¬base+i=base+j),if_neg h]
theorem TInv.absent(T:TInv base n cs){key:Int}{d:Nat}(hd:d<n)(hk:key≠0)(S:Seen base n cs key d)(hz:cell base cs (path n key d)=0): ∀j,j<n→cell base cs j≠key:=by
 intro j hj e
 obtain⟨d',h1,h2,h3⟩:=T j hj (by rw[e];exact hk)
 rw[e]at h2 h3
 by_cases c1:d'<d
 ·have:=(S d' c1).2
  rw[h2]at this
  exact this e
 ·by_cases c2:d'=d
  ·subst c2
   rw[h2,e]at hz
   exact hk hz
  ·exact(h3 d (by omega)).1 hz
theorem grow_set{i:Nat}{v:Int}(hi:i<n)(hc:base+n≤cs.length)(hz:cell base cs i=0):Grow base n cs (cs.set (base+i) v):=by
 refine⟨by simp,fun j hj hnz=> ?_,fun x hx=> ?_⟩
 ·rw[cell_set (by omega),if_neg (fun e=>hnz (by rw[e];exact hz))]
 ·simp only[List.getD,List.getElem?_set,if_neg (by omega: ¬base+i=x)]
theorem TInv.set(hn:1≤n)(hc:base+n≤cs.length)(T:TInv base n cs){key:Int}{d:Nat}(hd:d<n)(S:Seen base n cs key d)(hz:cell base cs (path n key d)=0):
  TInv base n (cs.set (base+path n key d) key):=by
 have hp:path n key d<n:=path_lt hn
 have G:=grow_set (v:=key) hp hc hz
 intro i hi hnz
 rw[cell_set (by omega)]at hnz ⊢
 by_cases h:i=path n key d
 ·rw[if_pos h]
  exact⟨d,hd,h.symm,S.grow hn G⟩
 ·rw[if_neg h]at hnz ⊢
  obtain⟨d',h1,h2,h3⟩:=T i hi hnz
  exact⟨d',h1,h2,h3.grow hn G⟩
theorem step_ok(hn:1≤n)(hc:base+n≤cs.length)(T:TInv base n cs)(H:Fok base n cs F):
  TInv base n (stepF base n cs F).2∧Fok base n (stepF base n cs F).2 (stepF base n cs F).1∧Grow base n cs (stepF base n cs F).2∧(stepF base n cs F).1.key=F.key∧
  (((stepF base n cs F).1.made=F.made∧(stepF base n cs F).2=cs)∨
   (F.done=false∧F.made=false∧(stepF base n cs F).1.made=true∧(stepF base n cs F).1.done=true∧(stepF base n cs F).1.slot=F.pos∧(stepF base n cs F).1.e=0∧F.pos<n∧cell base cs F.pos=0∧F.key≠0∧(∀j,j<n→cell base cs j≠F.key)∧(stepF base n cs F).2=cs.set (base+F.pos) F.key)):=by
 unfold stepF
 by_cases hd:F.done=true
 ·rw[if_pos hd]
  exact⟨T,H,Grow.refl _ _ _,rfl,Or.inl ⟨rfl,rfl⟩⟩
 ·rw[if_neg hd]
  have hd':F.done=false:=by simpa using hd
  obtain⟨hk,hl,hp,S,hm,hs,he⟩:=H.going hd'
  have hdn:n-F.left<n:=by omega
  by_cases hcl:F.claims=true
  ·rw[if_pos hcl]
   by_cases hz:cs.getD (base+F.pos) 0=0
   ·rw[if_pos hz]
    have hz':cell base cs F.pos=0:=hz
    have hz2:cell base cs (path n F.key (n-F.left))=0:=by rw[←hp];exact hz'
    refine⟨?_,⟨H.pos,H.left,fun h=>by simp at h,fun _=>Or.inr (Or.inl ⟨hk,rfl,F.pos,H.pos,rfl,?_⟩)⟩,grow_set H.pos hc hz',rfl,
     Or.inr ⟨hd',hm,rfl,rfl,rfl,rfl,H.pos,hz',hk,T.absent hdn hk S hz2,rfl⟩⟩
    ·have:=T.set hn hc hdn S hz2
     rw[←hp]at this
     exact this
    ·rw[cell_set (by have:=H.pos;omega),if_pos rfl]
   ·rw[if_neg hz]
    exact⟨T,⟨H.pos,H.left,fun _=>⟨hk,hl,hp,S,hm,hs,he⟩,fun h=>absurd h hd⟩,Grow.refl _ _ _,rfl,Or.inl ⟨rfl,rfl⟩⟩
  ·rw[if_neg hcl]
   by_cases hkey:cs.getD (base+F.pos) 0=F.key
   ·rw[if_pos hkey]
    exact⟨T,⟨H.pos,H.left,fun h=>by simp at h,fun _=>Or.inr (Or.inl ⟨hk,rfl,F.pos,H.pos,rfl,hkey⟩)⟩,Grow.refl _ _ _,rfl,Or.inl ⟨rfl,rfl⟩⟩
   ·rw[if_neg hkey]
    by_cases hz:cs.getD (base+F.pos) 0=0
    ·rw[if_pos hz]
     exact⟨T,⟨H.pos,H.left,fun _=>⟨hk,hl,hp,S,hm,hs,he⟩,fun h=>absurd h hd⟩,Grow.refl _ _ _,rfl,Or.inl ⟨rfl,rfl⟩⟩
    ·rw[if_neg hz]
     have S':Seen base n cs F.key (n-F.left+1):=by
      intro j hj
      by_cases h':j<n-F.left
      ·exact S j h'
      ·obtain rfl:j=n-F.left:=by omega
       rw[←hp]
       exact⟨hz,hkey⟩
     have hp':(F.pos+1)%n<n:=Nat.mod_lt _ (by omega)
     by_cases h1:F.left=1
     ·rw[if_pos h1]
      refine⟨T,⟨hp',Nat.zero_le _,fun h=>by simp at h,fun _=>Or.inr (Or.inr ⟨hk,rfl,rfl,hm,fun i hi=> ?_⟩)⟩,Grow.refl _ _ _,rfl,Or.inl ⟨rfl,rfl⟩⟩
      obtain⟨d,hd1,hd2⟩:=path_surj (key:=F.key) hi
      rw[←hd2]
      exact S' d (by omega)
     ·rw[if_neg h1]
      refine⟨T,⟨hp',by have:=H.left;show F.left-1≤n;omega,fun _=>⟨hk,by show 1≤F.left-1;omega,?_,?_,hm,hs,he⟩,fun h=>absurd h hd⟩,Grow.refl _ _ _,rfl,Or.inl ⟨rfl,rfl⟩⟩
      ·show(F.pos+1)%n=path n F.key (n-(F.left-1))
       have:=H.left
       rw[show n-(F.left-1)=(n-F.left)+1 by omega,path_succ,←hp]
      ·show Seen base n cs F.key (n-(F.left-1))
       have:=H.left
       rw[show n-(F.left-1)=(n-F.left)+1 by omega]
       exact S'
def pot(base:Nat)(cs:List Int)(F:Fi):Nat:=
 if F.done then 0 else 3*(F.left-1)+(if F.claims then 2 else if cell base cs F.pos=0 then 3 else 1)
theorem pot_of_done(h:F.done=true):pot base cs F=0:=by unfold pot;rw[if_pos h]
theorem pot_of_claims(h:F.done=false)(hc:F.claims=true):pot base cs F=3*(F.left-1)+2:=by unfold pot;rw[if_neg (by simp[h]),if_pos hc]
theorem pot_of_zero(h:F.done=false)(hc:F.claims=false)(hz:cell base cs F.pos=0):pot base cs F=3*(F.left-1)+3:=by unfold pot;rw[if_neg (by simp[h]),if_neg (by simp[hc]),if_pos hz]
theorem pot_of_full(h:F.done=false)(hc:F.claims=false)(hz:cell base cs F.pos≠0):pot base cs F=3*(F.left-1)+1:=by unfold pot;rw[if_neg (by simp[h]),if_neg (by simp[hc]),if_neg hz]
theorem pot_le(h:F.done=false)(hc:F.claims=false):pot base cs F≤3*(F.left-1)+3∧3*(F.left-1)+1≤pot base cs F:=by
 by_cases hz:cell base cs F.pos=0
 ·rw[pot_of_zero h hc hz];omega
 ·rw[pot_of_full h hc hz];omega
theorem pot_new{key:Int}(hn:1≤n):pot base cs (newFi key n)≤3*n:=by
 by_cases h:(newFi key n).done=true
 ·rw[pot_of_done h];omega
 ·have:=(pot_le (base:=base) (cs:=cs) (F:=newFi key n) (by simpa using h) rfl).1
  have e:(newFi key n).left=n:=rfl
  rw[e]at this
  omega
theorem pot_step(H:Fok base n cs F)(hd:F.done=false):pot base (stepF base n cs F).2 (stepF base n cs F).1<pot base cs F:=by
 obtain⟨hk,hl,hp,S,hm,hs,he⟩:=H.going hd
 by_cases hcl:F.claims=true
 ·rw[pot_of_claims hd hcl]
  by_cases hz:cs.getD (base+F.pos) 0=0
  ·rw[pot_of_done (by unfold stepF;rw[if_neg (by simp[hd]),if_pos hcl,if_pos hz])]
   omega
  ·have e:stepF base n cs F=({F with claims:=false},cs):=by unfold stepF;rw[if_neg (by simp[hd]),if_pos hcl,if_neg hz]
   rw[e,pot_of_full (F:={F with claims:=false}) hd rfl hz]
   show 3*(F.left-1)+1<_
   omega
 ·have hcl':F.claims=false:=by simpa using hcl
  have hle:=pot_le (base:=base) (cs:=cs) hd hcl'
  by_cases hkey:cs.getD (base+F.pos) 0=F.key
  ·rw[pot_of_done (by unfold stepF;rw[if_neg (by simp[hd]),if_neg hcl,if_pos hkey])]
   omega
  ·by_cases hz:cs.getD (base+F.pos) 0=0
   ·have e:stepF base n cs F=({F with claims:=true},cs):=by unfold stepF;rw[if_neg (by simp[hd]),if_neg hcl,if_neg hkey,if_pos hz]
    rw[e,pot_of_claims (F:={F with claims:=true}) hd rfl,pot_of_zero hd hcl' hz]
    show 3*(F.left-1)+2<_
    omega
   ·by_cases h1:F.left=1
    ·rw[pot_of_done (by unfold stepF;rw[if_neg (by simp[hd]),if_neg hcl,if_neg hkey,if_neg hz,if_pos h1])]
     omega
    ·have e:stepF base n cs F=({F with pos:=(F.pos+1)%n,left:=F.left-1},cs):=by unfold stepF;rw[if_neg (by simp[hd]),if_neg hcl,if_neg hkey,if_neg hz,if_neg h1]
     have h2:=(pot_le (base:=base) (cs:=cs) (F:={F with pos:=(F.pos+1)%n,left:=F.left-1}) hd hcl').1
     rw[e]
     refine Nat.lt_of_le_of_lt h2 ?_
     show 3*(F.left-1-1)+3<_
     omega
theorem pot_done(H:pot base cs F=0):F.done=true:=by
 unfold pot at H
 by_cases h:F.done=true
 ·exact h
 ·rw[if_neg h]at H
  split at H
  ·omega
  ·split at H<;>omega
def Run(base n:Nat)(cs0 cs:List Int)(F:Fi):Prop:=
 Fok base n cs F∧TInv base n cs∧Grow base n cs0 cs∧((F.made=false∧cs=cs0)∨(F.made=true∧F.done=true∧F.e=0∧F.key≠0∧ ∃i:Nat,i<n∧F.slot=i∧cell base cs0 i=0∧(∀j,j<n→cell base cs0 j≠F.key)∧cs=cs0.set (base+i) F.key))
theorem Run.new{cs0:List Int}{key:Int}(hn:1≤n)(T:TInv base n cs0):Run base n cs0 cs0 (newFi key n):=
 ⟨newFi_ok hn,T,Grow.refl _ _ _,Or.inl ⟨rfl,rfl⟩⟩
theorem Run.step{cs0:List Int}(hn:1≤n)(hc:base+n≤cs.length)(R:Run base n cs0 cs F):Run base n cs0 (stepF base n cs F).2 (stepF base n cs F).1∧(stepF base n cs F).1.key=F.key:=by
 obtain⟨H,T,G,D⟩:=R
 obtain⟨s1,s2,s3,s4,s5⟩:=step_ok hn hc T H
 refine⟨⟨s2,s1,G.trans s3,?_⟩,s4⟩
 rcases D with⟨d1,d2⟩|⟨d1,d2,d3,d4,d5⟩
 ·subst d2
  rcases s5 with⟨e1,e2⟩|⟨e1,e2,e3,e4,e5,e6,e7,e8,e9,e10,e11⟩
  ·exact Or.inl ⟨e1.trans d1,e2⟩
  ·exact Or.inr ⟨e3,e4,e6,by rw[s4];exact e9,F.pos,e7,e5,e8,by rw[s4];exact e10,by rw[s4];exact e11⟩
 ·have e:stepF base n cs F=(F,cs):=by unfold stepF;rw[if_pos d2]
  rw[e]
  exact Or.inr ⟨d1,d2,d3,d4,d5⟩
theorem cnt_set{i:Nat}{v:Int}(hv:v≠0)(hz:cell base cs i=0)(hi:base+i<cs.length): ∀m,cnt base (cs.set (base+i) v) m=cnt base cs m+(if i<m then 1 else 0):=by
 intro m
 induction m with
 |zero=>rfl
 |succ m ih=>
  unfold cnt
  rw[ih,cell_set hi]
  by_cases h:m=i
  ·subst h
   simp[hv,hz]
  ·rw[if_neg h]
   by_cases h':i<m
   ·rw[if_pos h',if_pos (by omega:i<m+1)]
    omega
   ·rw[if_neg h',if_neg (by omega: ¬i<m+1)]
    omega
theorem cnt_full: ∀m,(∀i,i<m→cell base cs i≠0)→cnt base cs m=m:=by
 intro m
 induction m with
 |zero=>intro _;rfl
 |succ m ih=>
  intro h
  unfold cnt
  rw[ih fun i hi=>h i (by omega),if_neg (h m (by omega))]
theorem cnt_zero: ∀m,(∀i,i<m→cell base cs i=0)→cnt base cs m=0:=by
 intro m
 induction m with
 |zero=>intro _;rfl
 |succ m ih=>
  intro h
  unfold cnt
  rw[ih fun i hi=>h i (by omega),if_pos (h m (by omega))]
theorem TInv.empty(h: ∀i,i<n→cell base cs i=0):TInv base n cs:=fun i hi hnz=>absurd (h i hi) hnz
end
end
section
def nkey(l a b:Nat):Nat:=l*2^56+(a*2^28+b)
theorem nkey_inj{l a b l' a' b':Nat}(ha:a<2^28)(hb:b<2^28)(ha':a'<2^28)(hb':b'<2^28)(e:nkey l a b=nkey l' a' b'):l=l'∧a=a'∧b=b':=by
 unfold nkey at e
 omega
theorem ofInt32{a:Nat}(ha:a<2^32):(BitVec.ofInt 32 (a:Int)).toNat=a:=by
 rw[BitVec.toNat_ofInt]
 omega
theorem wrap32{a:Nat}(ha:a<2^32):IntKind.wrap .u32 (a:Int)=a:=by
 simp[IntKind.wrap,IntKind.bits,IntKind.signed]
 omega
theorem band32{a b:Nat}(ha:a<2^32)(hb:b<2^32):bitsI .and .u32 (a:Int) (b:Int)=((a&&&b:Nat):Int):=by
 unfold bitsI
 show IntKind.wrap .u32 ((BitVec.ofInt 32 (a:Int)&&&BitVec.ofInt 32 (b:Int)).toNat:Int)=_
 rw[BitVec.toNat_and,ofInt32 ha,ofInt32 hb]
 exact wrap32 (by have:= @Nat.and_le_left a b;omega)
theorem low28{a:Nat}(ha:a<2^28):bitsI .and .u32 (a:Int) 268435455=(a:Int):=by
 rw[show(268435455:Int)=((2^28-1:Nat):Int) by rfl,band32 (by omega) (by decide),Nat.and_two_pow_sub_one_eq_mod,Nat.mod_eq_of_lt ha]
theorem key73{h:Heap}{l a b:Nat}{K:Value→Heap→Prop}(hl:l<256)(ha:a<2^28)(hb:b<2^28)(hK:K (.int .u64 ((nkey l a b:Nat):Int)) h):
  Cl 198 [.int .i64 (l:Int),.int .u32 (a:Int),.int .u32 (b:Int)] h K:=by
 refine F198.spec _ _ _ h K ?_
 refine F245.spec _ _ _ h _ ?_
 have U: ∀{x:Nat},x<2^64→IntKind.wrap .u64 (x:Int)=(x:Int):=fun h=>wrapU (by unfold U64;omega)
 have e1:IntKind.wrap .u64 ((IntKind.wrap .u64 (IntKind.wrap .u8 (l:Int)))*2^(min (Int.toNat (56:Int)) (IntKind.bits .u64)))=((l<<<56:Nat):Int):=by
  rw[show IntKind.wrap .u8 (l:Int)=(l:Int)from wrap8 hl,U (by omega),show min (Int.toNat (56:Int)) (IntKind.bits .u64)=56 by rfl,show(l:Int)*2^56=((l*2^56:Nat):Int) by omega,U (by omega),Nat.shiftLeft_eq]
 have e2:IntKind.wrap .u64 ((IntKind.wrap .u64 (bitsI .and .u32 (a:Int) 268435455))*2^(min (Int.toNat (28:Int)) (IntKind.bits .u64)))=((a<<<28:Nat):Int):=by
  rw[low28 ha,U (by omega),show min (Int.toNat (28:Int)) (IntKind.bits .u64)=28 by rfl,show(a:Int)*2^28=((a*2^28:Nat):Int) by omega,U (by omega),Nat.shiftLeft_eq]
 refine⟨by omega,by omega,ldI_of rfl ?_⟩
 rw[e1,e2,low28 hb,U (by omega)]
 have s1:l<<<56<U64:=by rw[Nat.shiftLeft_eq];unfold U64;omega
 have s2:a<<<28<U64:=by rw[Nat.shiftLeft_eq];unfold U64;omega
 have s3:b<U64:=by unfold U64;omega
 rw[bor s1 s2,bor (or_lt s1 s2) s3,Nat.or_assoc,←Nat.shiftLeft_add_eq_or_of_lt hb,←Nat.shiftLeft_add_eq_or_of_lt (by rw[Nat.shiftLeft_eq];omega),Nat.shiftLeft_eq,Nat.shiftLeft_eq]
 exact hK
end
section
set_option maxRecDepth 100000 in
theorem finds72{h:Heap}{s t m mc T:Nat}{cs:List Int}{ops fails key:Int}{K:Value→Heap→Prop}(hp:rd h ⟨s,4,none⟩=some (.pointer (some ⟨t,0,none⟩)))
  (Tb:TabIs h t m 0 T) (M:MemIs h m mc cs ops fails) (hn:1≤T) (hn2:T<1000000000) (hc:cs.length=T) (d4:t≠m) (d5:t≠mc) (bt:t<h.size) (bm:m<h.size) (bmc:mc<h.size)
  (I:TInv 0 T cs) (hk:key≠0) (habs: ∀j,j<T→cell 0 cs j≠key) {z:Nat} (hz:z<T) (hz0:cell 0 cs z=0)
  (hK: ∀h' i ops' fails',i<T→cell 0 cs i=0→TabIs h' t m 0 T→MemIs h' m mc (cs.set i key) ops' fails'→TInv 0 T (cs.set i key)→Only [m,mc] h h'→K (.tuple #[.int .i64 (i:Int),.bool true]) h'):
  Cl 197 [.pointer (some ⟨s,0,none⟩),.int .u64 key] h K:=by
 refine F197.spec _ _ h K ?_
 simp only[add_mk,Nat.zero_add]
 refine ldP_of hp ?_
 refine find_spec Tb hn hn2 fun f h1 H1 O1 hf=>ldP_of rfl ?_
 unfold F197.wk3
 have ht:=Tb.only O1 (by simp)
 have hm:=M.only O1 (by simp) (by simp)
 have fin: ∀(F:Fi) (cs':List Int) (h':Heap) (ops' fails':Int),F.done=true→Run 0 T cs cs' F→F.key=key→FindIs h' f t F→TabIs h' t m 0 T→MemIs h' m mc cs' ops' fails'→Only [m,mc] h h'→
   F197.wk4 (some ⟨f,0,none⟩) h' K:=by
  intro F cs' h' ops' fails' hd R ek H Tb M O
  unfold F197.wk4
  refine slot_spec H ⟨_,_,rfl,made_spec H (ldB_of rfl ?_)⟩
  obtain⟨R1,R2,R3,R4⟩:=R
  have ze:cell 0 cs z=0:=hz0
  rcases R4 with⟨r1,r2⟩|⟨r1,r2,r3,r4,i,r5,r6,r7,r8,r9⟩
  ·subst r2
   rcases R1.ended hd with⟨e1,_⟩|⟨_,_,i,hi,_,e4⟩|⟨_,_,_,_,e5⟩
   ·exact absurd (ek▸e1) hk
   ·exact absurd (e4.trans ek) (habs i hi)
   ·exact absurd ze (e5 z hz).1
  ·rw[r6,r1]
   rw[Nat.zero_add,ek]at r9
   rw[r9]at M R2
   exact hK h' i _ _ r5 r7 Tb M R2 O
 have pass: ∀(d:Nat) (F:Fi) (cs':List Int) (h':Heap) (ops' fails':Int),Run 0 T cs cs' F→F.key=key→FindIs h' f t F→TabIs h' t m 0 T→MemIs h' m mc cs' ops' fails'→Only [m,mc] h h'→
   (F.done=false→ ∀h'' ops'' fails'',(stepF 0 T cs' F).1.done=false→Run 0 T cs (stepF 0 T cs' F).2 (stepF 0 T cs' F).1→(stepF 0 T cs' F).1.key=key→FindIs h'' f t (stepF 0 T cs' F).1→TabIs h'' t m 0 T→MemIs h'' m mc (stepF 0 T cs' F).2 ops'' fails''→Only [m,mc] h h''→
    F197.wL3 d (some ⟨f,0,none⟩) (.func (.func 242) #[.pointer (some ⟨f,0,none⟩)] #[]) h'' K)→
   F197.wL3 (d+1) (some ⟨f,0,none⟩) (.func (.func 242) #[.pointer (some ⟨f,0,none⟩)] #[]) h' K:=by
  intro d F cs' h' ops' fails' R ek H Tb M O nx
  have hl':cs'.length=T:=R.2.2.1.1.trans hc
  obtain⟨R',ek'⟩:=R.step hn (by omega)
  rw[F197.sL3]
  refine dynK_go (by kernel_rfl) ?_
  refine step_spec Tb H M hn hn2 (by omega) R.1.pos (fun hd=>(R.1.going hd).2.1) (by have:=R.1.left;omega) (by omega) (by omega) (by omega) (by omega) d4 d5 fun h2 fails2 H2 T2 M2 O2=>ldB_of rfl ?_
  have O':Only [m,mc] h h2:=O.trans O2 (by intro b hb hl;simp at hb ⊢;omega)
  refine bcase_of (fun hb=> ?_) fun hb=> ?_
  ·have hb:(stepF 0 T cs' F).1.done=false:=by simpa using hb
   refine nx ?_ h2 _ _ hb R' (ek'.trans ek) H2 T2 M2 O'
   cases hd:F.done with
   |false=>rfl
   |true=>
    have e:stepF 0 T cs' F=(F,cs'):=by unfold stepF;rw[if_pos hd]
    rw[e,hd]at hb
    exact absurd hb (by simp)
  ·have hb:(stepF 0 T cs' F).1.done=true:=by simpa using hb
   exact fin _ _ _ _ _ hb R' (ek'.trans ek) H2 T2 M2 O'
 have main: ∀(d:Nat) (F:Fi) (cs':List Int) (h':Heap) (ops' fails':Int),pot 0 cs' F≤d→Run 0 T cs cs' F→F.key=key→FindIs h' f t F→TabIs h' t m 0 T→MemIs h' m mc cs' ops' fails'→Only [m,mc] h h'→
   F197.wL3 (d+1) (some ⟨f,0,none⟩) (.func (.func 242) #[.pointer (some ⟨f,0,none⟩)] #[]) h' K:=by
  intro d
  induction d with
  |zero=> 
   intro F cs' h' ops' fails' hd R ek H Tb M O
   refine pass 0 F cs' h' ops' fails' R ek H Tb M O fun hf=> ?_
   rw[pot_done (base:=0) (cs:=cs') (F:=F) (by omega)]at hf
   exact absurd hf (by simp)
  |succ d ih=>
   intro F cs' h' ops' fails' hd R ek H Tb M O
   refine pass (d+1) F cs' h' ops' fails' R ek H Tb M O fun hf h2 o2 f2 _ R' ek' H' T' M' O'=> ?_
   exact ih _ _ _ _ _ (by have:=pot_step (base:=0) (cs:=cs') R.1 hf;omega) R' ek' H' T' M' O'
 exact⟨_,main (3*T) (newFi key T) cs h1 ops fails (pot_new hn) (Run.new hn I) rfl H1 ht hm (by have:=(Only.refl [m,mc] h).trans O1 (by simp);exact this)⟩
end
section
def MapM(h:Heap)(b:Nat)(k:IntKind)(m:List (Int×Value)):Prop:=
 ∃es cl,mp h b=some (es,cl)∧es.toList.map (fun e=>(e.key,e.val))=m.map (fun p=>(Value.int k p.1,p.2))∧(m.map (·.1)).Nodup∧(es.toList.map (·.born)).Nodup∧ ∀e∈es.toList,e.born<cl
theorem MapM.lt{h:Heap}{b:Nat}{k:IntKind}{m:List (Int×Value)}(H:MapM h b k m):b<h.size:=by
 obtain⟨es,cl,h1,-⟩:=H
 unfold mp at h1
 cases hh:h[b]? with
 |none=>rw[hh]at h1;cases h1
 |some o=>exact(Array.getElem?_eq_some_iff.1 hh).1
theorem MapM.only{S:List Nat}{h h':Heap}{b:Nat}{k:IntKind}{m:List (Int×Value)}(H:MapM h b k m)(O:Only S h h')(hb:b∉S):MapM h' b k m:=by
 have hl:=H.lt
 obtain⟨es,cl,h1,h2⟩:=H
 refine⟨es,cl,?_,h2⟩
 unfold mp at h1 ⊢
 rw[O.same b hl hb]
 exact h1
theorem mp_obj{h:Heap}{b:Nat}{es:Array MapEntry}{cl:Nat}(h1:mp h b=some (es,cl)):h[b]? =some (.map es cl):=by
 unfold mp at h1
 cases hh:h[b]? with
 |none=>rw[hh]at h1;cases h1
 |some o=>
  rw[hh]at h1
  cases o with
  |map a c=>injection h1 with h1;injection h1 with e1 e2;subst e1;subst e2;rfl
  |_=>cases h1
theorem Only.map{h:Heap}{b:Nat}{es:Array MapEntry}{cl:Nat}(h1:mp h b=some (es,cl))(es':Array MapEntry)(cl':Nat):Only [b] h (h.setIfInBounds b (.map es' cl')):=by
 have ho:=mp_obj h1
 refine⟨by simp,fun j hj hb=> ?_,fun a=> ?_⟩
 ·rw[Array.getElem?_setIfInBounds,if_neg (fun e=>hb (by simp[e]))]
 ·unfold fz
  rw[Array.getElem?_setIfInBounds]
  by_cases e:b=a.block
  ·subst e
   rw[if_pos rfl,if_pos (Array.getElem?_eq_some_iff.1 ho).1,ho]
  ·rw[if_neg e]
theorem mp_set{h:Heap}{b:Nat}{es:Array MapEntry}{cl:Nat}(h1:mp h b=some (es,cl))(es':Array MapEntry)(cl':Nat):mp (h.setIfInBounds b (.map es' cl')) b=some (es',cl'):=by
 unfold mp
 rw[Array.getElem?_setIfInBounds,if_pos rfl,if_pos (Array.getElem?_eq_some_iff.1 (mp_obj h1)).1]
theorem findNow_int{k:IntKind}{x:Int}: ∀(es:List MapEntry) (m:List (Int×Value)) (i:Nat),es.map (fun e=>(e.key,e.val))=m.map (fun p=>(Value.int k p.1,p.2))→
  (Instr.findNow (.int k) (.int k x) es i=some none∧m.lookup x=none∧ ∀p∈m,p.1≠x)∨
  ∃j v m1 m2,Instr.findNow (.int k) (.int k x) es i=some (some (i+j,v))∧m=m1++(x,v)::m2∧m1.length=j∧m.lookup x=some v∧(∀p∈m1,p.1≠x)
 | [],[],i,_=>Or.inl ⟨rfl,rfl,by simp⟩
 | [],_::_,_,h=>by simp at h
 |_::_,[],_,h=>by simp at h
 |e::es,p::m,i,h=>by
  simp only[List.map_cons,List.cons.injEq,Prod.mk.injEq]at h
  obtain⟨⟨h1,h2⟩,h3⟩:=h
  by_cases hx:x=p.1
  ·subst hx
   refine Or.inr ⟨0,p.2,[],m,?_,rfl,rfl,?_,by simp⟩
   ·simp[Instr.findNow,Instr.sameNow,h1,h2]
   ·simp[List.lookup]
  ·have hs:Instr.sameNow (.int k) (.int k x) e.key=some false:=by simp[Instr.sameNow,h1,hx]
   rcases findNow_int es m (i+1) h3 with⟨a,b,c⟩|⟨j,v,m1,m2,a,b,c,d,f⟩
   ·refine Or.inl ⟨?_,?_,?_⟩
    ·simp only[Instr.findNow,hs]
     exact a
    ·simp only[List.lookup,show(x==p.1)=false by simp[hx]]
     exact b
    ·intro q hq
     rcases List.mem_cons.1 hq with rfl|hq
     ·exact fun e=>hx e.symm
     ·exact c q hq
   ·refine Or.inr ⟨j+1,v,p::m1,m2,?_,by rw[b];rfl,by simp[c],?_,?_⟩
    ·simp only[Instr.findNow,hs]
     rw[a]
     congr 3
     omega
    ·simp only[List.lookup,show(x==p.1)=false by simp[hx]]
     exact d
    ·intro q hq
     rcases List.mem_cons.1 hq with rfl|hq
     ·exact fun e=>hx e.symm
     ·exact f q hq
theorem look_map{h:Heap}{b:Nat}{k:IntKind}{m:List (Int×Value)}{x:Int}{K:Option (Nat×Value)→Prop}(H:MapM h b k m)
  (hN:m.lookup x=none→K none) (hS: ∀i v,m.lookup x=some v→K (some (i,v))):lookK h (some b) k k x K:=by
 obtain⟨es,cl,h1,h2,h3,-⟩:=H
 refine⟨es,cl,h1,?_⟩
 rcases findNow_int (x:=x) es.toList m 0 h2 with⟨a,c,-⟩|⟨j,v,m1,m2,a,c,d,e,-⟩
 ·exact⟨_,a,hN c⟩
 ·exact⟨_,a,hS _ v e⟩
def mset(m:List (Int×Value))(x:Int)(v:Value):List (Int×Value):=if(m.lookup x).isSome then m.map (fun p=>if p.1=x then(x,v)else p)else m++[(x,v)]
def mdel(m:List (Int×Value))(x:Int):List (Int×Value):=m.filter fun p=>p.1≠x
theorem lookup_append{m m':List (Int×Value)}{x:Int}:(m++m').lookup x=(m.lookup x).or (m'.lookup x):=by
 induction m with
 |nil=>simp[List.lookup]
 |cons p m ih=>
  simp only[List.cons_append,List.lookup]
  cases x==p.1<;>simp[ih]
theorem mset_keys{m:List (Int×Value)}{x:Int}{v:Value}:(mset m x v).map (·.1)=if(m.lookup x).isSome then m.map (·.1)else m.map (·.1)++[x]:=by
 unfold mset
 split
 ·rw[List.map_map]
  apply List.map_congr_left
  intro p _
  simp only[Function.comp]
  split
  ·next e=>exact e.symm
  ·rfl
 ·simp
theorem lookup_none{m:List (Int×Value)}{x:Int}:m.lookup x=none↔x∉m.map (·.1):=by
 induction m with
 |nil=>simp[List.lookup]
 |cons p m ih=>
  simp only[List.lookup,List.map_cons,List.mem_cons,not_or]
  by_cases h:x=p.1
  ·subst h;simp
  ·simp only[show(x==p.1)=false by simp[h]]
   rw[ih]
   exact⟨fun a=>⟨h,a⟩,fun a=>a.2⟩
theorem lookup_mset{m:List (Int×Value)}{x y:Int}{v:Value}:(mset m x v).lookup y=if y=x then some v else m.lookup y:=by
 unfold mset
 split
 ·next hs=>
  induction m with
  |nil=>simp[List.lookup]at hs
  |cons p m ih=>
   simp only[List.map_cons,List.lookup]
   by_cases hp:p.1=x
   ·rw[if_pos hp]
    by_cases hy:y=x
    ·subst hy
     simp
    ·rw[if_neg hy]
     have e1:(y==x)=false:=by simp[hy]
     have e2:(y==p.1)=false:=by simp[hp,hy]
     simp only[e1,e2]
     clear ih hs
     induction m with
     |nil=>rfl
     |cons r m ih2=>
      simp only[List.map_cons,List.lookup]
      by_cases hr:r.1=x
      ·rw[if_pos hr]
       have e3:(y==r.1)=false:=by simp[hr,hy]
       simp only[e1,e3]
       exact ih2
      ·rw[if_neg hr]
       cases y==r.1
       ·exact ih2
       ·rfl
   ·rw[if_neg hp]
    have hs':(m.lookup x).isSome:=by
     simp only[List.lookup,show(x==p.1)=false by simp[Ne.symm hp]]at hs
     exact hs
    by_cases hy:y=p.1
    ·subst hy
     simp[hp]
    ·have e1:(y==p.1)=false:=by simp[hy]
     simp only[e1]
     exact ih hs'
 ·next hs=>
  have hn:m.lookup x=none:=by
   cases hh:m.lookup x with
   |none=>rfl
   |some v=>rw[hh]at hs;exact absurd rfl hs
  rw[lookup_append]
  by_cases hy:y=x
  ·subst hy
   rw[hn,if_pos rfl]
   simp[List.lookup]
  ·rw[if_neg hy]
   simp[List.lookup,show(y==x)=false by simp[hy]]
theorem lookup_mdel{m:List (Int×Value)}{x y:Int}:(mdel m x).lookup y=if y=x then none else m.lookup y:=by
 unfold mdel
 induction m with
 |nil=>simp[List.lookup]
 |cons p m ih=>
  by_cases hp:p.1=x
  ·rw[List.filter_cons_of_neg (by simp[hp]),ih]
   by_cases hy:y=x
   ·rw[if_pos hy,if_pos hy]
   ·rw[if_neg hy,if_neg hy]
    simp[List.lookup,show(y==p.1)=false by simp[hp,hy]]
  ·rw[List.filter_cons_of_pos (by simp[hp])]
   simp only[List.lookup]
   by_cases hy:y=p.1
   ·subst hy
    simp[hp]
   ·simp only[show(y==p.1)=false by simp[hy]]
    exact ih
theorem mid_map{m1 m2:List (Int×Value)}{x:Int}{v v':Value}(h1: ∀p∈m1,p.1≠x)(h2: ∀p∈m2,p.1≠x):(m1++(x,v)::m2).map (fun p=>if p.1=x then(x,v')else p)=m1++(x,v')::m2:=by
 have e: ∀l:List (Int×Value),(∀p∈l,p.1≠x)→l.map (fun p=>if p.1=x then(x,v')else p)=l:=by
  intro l hl
  conv=>rhs;rw[←List.map_id l]
  apply List.map_congr_left
  intro p hp
  rw[if_neg (hl p hp)]
  rfl
 rw[List.map_append,List.map_cons,if_pos rfl,e m1 h1,e m2 h2]
theorem nodup_mid{m1 m2:List (Int×Value)}{x:Int}{v:Value}(h:((m1++(x,v)::m2).map (·.1)).Nodup):(∀p∈m1,p.1≠x)∧ ∀p∈m2,p.1≠x:=by
 rw[List.map_append,List.map_cons]at h
 obtain⟨h1,h2,h3⟩:=List.nodup_append.1 h
 refine⟨fun p hp e=>h3 p.1 (List.mem_map.2 ⟨p,hp,rfl⟩) x (by simp) e,fun p hp e=> ?_⟩
 exact(List.nodup_cons.1 h2).1 (List.mem_map.2 ⟨p,hp,e⟩)
theorem map_found{h:Heap}{b:Nat}{k:IntKind}{m:List (Int×Value)}{x:Int}(H:MapM h b k m):
  ∃es cl,mp h b=some (es,cl)∧((Instr.findNow (.int k) (.int k x) es.toList 0=some none∧m.lookup x=none∧MapM (h.setIfInBounds b (.map es cl)) b k (mdel m x)∧
    (∀v,MapM (h.setIfInBounds b (.map (es.push {key:= .int k x,val:=v,born:=cl}) (cl+1))) b k (mset m x v)))∨
   ∃j v,Instr.findNow (.int k) (.int k x) es.toList 0=some (some (j,v))∧m.lookup x=some v∧Instr.sameBits 10000 (((es[j]?).map (·.key)).getD (.int k x)) (.int k x)=true∧
    MapM (h.setIfInBounds b (.map (es.eraseIdxIfInBounds j) cl)) b k (mdel m x)∧(∃e,es[j]? =some e∧e.key= .int k x∧e.val=v∧ ∀i e',es[i]? =some e'→e'.key= .int k x→i=j)∧
    ∀(g:MapEntry→MapEntry) v',(∀e,es[j]? =some e→(g e).key= .int k x∧(g e).val=v'∧(g e).born=e.born)→MapM (h.setIfInBounds b (.map (es.modify j g) cl)) b k (mset m x v')):=by
 obtain⟨es,cl,h1,h2,h3,h4,h5⟩:=H
 refine⟨es,cl,h1,?_⟩
 rcases findNow_int (x:=x) es.toList m 0 h2 with⟨a,c,c'⟩|⟨j,v,m1,m2,a,c,d,e,e'⟩
 ·refine Or.inl ⟨a,c,⟨es,cl,mp_set h1 _ _,?_,?_,h4,h5⟩,fun v=>⟨_,_,mp_set h1 _ _,?_,?_,?_,?_⟩⟩
  ·rw[show mdel m x=m from List.filter_eq_self.2 fun p hp=>by simp[c' p hp]]
   exact h2
  ·rw[show mdel m x=m from List.filter_eq_self.2 fun p hp=>by simp[c' p hp]]
   exact h3
  ·unfold mset
   rw[if_neg (by simp[c])]
   simp[h2]
  ·rw[mset_keys,if_neg (by simp[c])]
   refine List.nodup_append.2 ⟨h3,by simp,fun y hy z hz=> ?_⟩
   simp at hz
   subst hz
   intro e
   subst e
   exact lookup_none.1 c hy
  ·simp only[Array.toList_push,List.map_append]
   refine List.nodup_append.2 ⟨h4,by simp,fun y hy z hz=> ?_⟩
   simp at hz
   subst hz
   obtain⟨e0,he0,rfl⟩:=List.mem_map.1 hy
   have:=h5 e0 he0
   omega
  ·intro e0 he0
   simp only[Array.toList_push,List.mem_append,List.mem_singleton]at he0
   rcases he0 with he0|rfl
   ·have:=h5 e0 he0
    omega
   ·exact Nat.lt_succ_self _
 ·subst c
  obtain⟨n1,n2⟩:=nodup_mid h3
  rw[Nat.zero_add]at a
  have hjl:j<es.size:=by
   have:=congrArg List.length h2
   simp at this
   omega
  have hget:es.toList.map (fun e=>(e.key,e.val))=m1.map (fun p=>(Value.int k p.1,p.2))++(Value.int k x,v)::m2.map (fun p=>(Value.int k p.1,p.2)):=by
   rw[h2]
   simp
  have hj5:(es.toList.map (fun e=>(e.key,e.val)))[j]? =some (Value.int k x,v):=by
   rw[hget,List.getElem?_append_right (by simp[d])]
   simp[d]
  obtain⟨e0,he0,hk0,hv0⟩: ∃e0,es[j]? =some e0∧e0.key= .int k x∧e0.val=v:=by
   rw[List.getElem?_map]at hj5
   cases hh:es[j]? with
   |none=>simp[hh]at hj5
   |some e0=>
    simp[hh]at hj5
    exact⟨e0,rfl,hj5.1,hj5.2⟩
  have huniq: ∀i e',es[i]? =some e'→e'.key= .int k x→i=j:=by
   intro i e' hi hk
   have h6:=congrArg (fun l=>l[i]?) hget
   simp only[List.getElem?_map]at h6
   rw[show es.toList[i]? =some e' by rw[←hi];simp]at h6
   by_cases hlt:i<j
   ·rw[List.getElem?_append_left (by simp;omega),List.getElem?_map]at h6
    cases hm:m1[i]? with
    |none=>simp[hm]at h6
    |some p=>
     simp[hm,hk]at h6
     exact absurd h6.1.symm (n1 p (List.mem_of_getElem? hm))
   ·by_cases hgt:j<i
    ·rw[List.getElem?_append_right (by simp;omega)]at h6
     obtain⟨r,hr⟩: ∃r,i=j+1+r:=⟨i-j-1,by omega⟩
     subst hr
     simp only[List.length_map,d]at h6
     rw[show j+1+r-j=r+1 by omega,List.getElem?_cons_succ,List.getElem?_map]at h6
     cases hm:m2[r]? with
     |none=>simp[hm]at h6
     |some p=>
      simp[hm,hk]at h6
      exact absurd h6.1.symm (n2 p (List.mem_of_getElem? hm))
    ·omega
  refine Or.inr ⟨j,v,a,e,?_,⟨_,_,mp_set h1 _ _,?_,?_,?_,?_⟩,⟨e0,he0,hk0,hv0,huniq⟩,fun g v' hg=>⟨_,_,mp_set h1 _ _,?_,?_,?_,?_⟩⟩
  ·rw[he0]
   simp[Instr.sameBits,hk0]
  ·have hd:mdel (m1++(x,v)::m2) x=m1++m2:=by
    unfold mdel
    rw[List.filter_append,List.filter_cons_of_neg (by simp),List.filter_eq_self.2 (fun p hp=>by simp[n1 p hp]),List.filter_eq_self.2 (fun p hp=>by simp[n2 p hp])]
   rw[hd]
   simp only[Array.eraseIdxIfInBounds,hjl,dif_pos,Array.toList_eraseIdx]
   rw[List.eraseIdx_eq_take_drop_succ,List.map_append,List.map_take,List.map_drop,hget]
   have l1:(m1.map (fun p=>(Value.int k p.1,p.2))).length=j:=by simp[d]
   rw[←l1,List.take_left,List.drop_append,List.drop_eq_nil_of_le (by omega)]
   simp
  ·have:=h3.sublist (l₁:=(mdel (m1++(x,v)::m2) x).map (·.1)) (List.Sublist.map _ List.filter_sublist)
   exact this
  ·simp only[Array.eraseIdxIfInBounds,hjl,dif_pos,Array.toList_eraseIdx]
   exact h4.sublist (List.Sublist.map _ (List.eraseIdx_sublist _ _))
  ·simp only[Array.eraseIdxIfInBounds,hjl,dif_pos,Array.toList_eraseIdx]
   exact fun e1 he1=>h5 e1 ((List.eraseIdx_sublist _ _).subset he1)
  ·unfold mset
   rw[if_pos (by simp[e]),mid_map n1 n2]
   rw[Array.toList_modify]
   apply List.ext_getElem?
   intro i
   rw[List.getElem?_map,List.getElem?_modify]
   have h6:=congrArg (fun l=>l[i]?) hget
   simp only[List.getElem?_map]at h6
   by_cases hi:j=i
   ·subst hi
    simp only[if_true]
    rw[show es.toList[j]? =some e0 by rw[←he0];simp]
    obtain⟨g1,g2,-⟩:=hg e0 he0
    rw[List.map_append,List.map_cons,List.getElem?_append_right (by simp[d])]
    simp[d,g1,g2]
   ·simp only[hi,if_false]
    rw[List.map_append,List.map_cons]
    rw[show((fun a:MapEntry=>a)<$>es.toList[i]?)=es.toList[i]? by cases es.toList[i]? <;>rfl]
    rw[h6]
    by_cases hlt:i<j
    ·rw[List.getElem?_append_left (by simp;omega),List.getElem?_append_left (by simp;omega)]
    ·rw[List.getElem?_append_right (by simp;omega),List.getElem?_append_right (by simp;omega)]
     obtain⟨r,hr⟩: ∃r,i=j+1+r:=⟨i-j-1,by omega⟩
     subst hr
     simp only[List.length_map,d]
     rw[show j+1+r-j=r+1 by omega]
     rfl
  ·rw[mset_keys,if_pos (by simp[e])]
   exact h3
  ·rw[show(es.modify j g).toList.map (·.born)=es.toList.map (·.born)from ?_]
   ·exact h4
   ·rw[Array.toList_modify]
    apply List.ext_getElem?
    intro i
    rw[List.getElem?_map,List.getElem?_modify,List.getElem?_map]
    by_cases hi:j=i
    ·subst hi
     rw[show es.toList[j]? =some e0 by rw[←he0];simp]
     simp[(hg e0 he0).2.2]
    ·simp only[hi,if_false]
     cases es.toList[i]? <;>rfl
  ·intro e1 he1
   rw[Array.toList_modify]at he1
   obtain⟨i,hi⟩:=List.mem_iff_getElem?.1 he1
   rw[List.getElem?_modify]at hi
   by_cases hij:j=i
   ·subst hij
    rw[show es.toList[j]? =some e0 by rw[←he0];simp]at hi
    simp at hi
    subst hi
    rw[(hg e0 he0).2.2]
    exact h5 e0 (List.mem_of_getElem? (i:=j) (by rw[←he0];simp))
   ·simp only[hij,if_false]at hi
    have:es.toList[i]? =some e1:=by
     cases hh:es.toList[i]? with
     |none=>rw[hh]at hi;cases hi
     |some e2=>rw[hh]at hi;exact hi
    exact h5 e1 (List.mem_of_getElem? this)
theorem upd_map{h:Heap}{b:Nat}{k:IntKind}{m:List (Int×Value)}{x:Int}{v:Value}{K:Heap→Prop}(H:MapM h b k m)(hK: ∀h',MapM h' b k (mset m x v)→Only [b] h h'→h'.size=h.size→K h'):updK h (some b) k k x v K:=by
 obtain⟨es,cl,h1,h2⟩:=map_found (x:=x) H
 refine⟨es,cl,h1,?_⟩
 rcases h2 with⟨a,c,d,e⟩|⟨j,v0,a,c,d,e,f,g⟩
 ·exact⟨_,a,hK _ (e v) (Only.map h1 _ _) (by simp)⟩
 ·exact⟨_,a,d,hK _ (g _ v fun e _=>⟨rfl,rfl,rfl⟩) (Only.map h1 _ _) (by simp)⟩
theorem del_map{h:Heap}{b:Nat}{k:IntKind}{m:List (Int×Value)}{x:Int}{K:Heap→Prop}(H:MapM h b k m)(hK: ∀h',MapM h' b k (mdel m x)→Only [b] h h'→h'.size=h.size→K h'):delK h (some b) k k x K:=by
 obtain⟨es,cl,h1,h2⟩:=map_found (x:=x) H
 refine⟨es,cl,h1,?_⟩
 rcases h2 with⟨a,c,d,e⟩|⟨j,v0,a,c,d,e,f,g⟩
 ·exact⟨_,a,hK _ d (Only.map h1 _ _) (by simp)⟩
 ·exact⟨_,a,hK _ e (Only.map h1 _ _) (by simp)⟩
def Stamp(h:Heap)(b:Nat)(k:IntKind)(x st:Int):Prop:= ∃(es:Array MapEntry) (cl i:Nat) (e:MapEntry),mp h b=some (es,cl)∧es[i]? =some e∧e.key= .int k x∧(e.born:Int)=st
theorem ent_map{h:Heap}{b:Nat}{k:IntKind}{m:List (Int×Value)}{x:Int}{z:Value}{K:Value→Int→Heap→Prop}(H:MapM h b k m)
  (hK: ∀v st h',v=(m.lookup x).getD z→MapM h' b k (mset m x v)→Stamp h' b k x st→Only [b] h h'→h'.size=h.size→K v st h'):entK h (some b) k k x z K:=by
 obtain⟨es,cl,h1,h2⟩:=map_found (x:=x) H
 refine⟨es,cl,h1,?_⟩
 rcases h2 with⟨a,c,d,e⟩|⟨j,v0,a,c,d,e,⟨e0,f1,f2,f3,f4⟩,g⟩
 ·refine⟨_,a,hK _ _ _ (by rw[c];rfl) (e z) ⟨_,_,es.size,{key:= .int k x,val:=z,born:=cl},mp_set h1 _ _,by simp,rfl,rfl⟩ (Only.map h1 _ _) (by simp)⟩
 ·refine⟨_,a,d,hK _ _ _ (by rw[c];rfl) (g _ v0 fun e he=> ?_) ⟨_,_,j,{e0 with key:= .int k x},mp_set h1 _ _,by simp[Array.getElem?_modify,f1],rfl,?_⟩ (Only.map h1 _ _) (by simp)⟩
  ·rw[f1]at he
   injection he with he
   subst he
   exact⟨rfl,f3,rfl⟩
  ·simp[f1]
theorem est_map{h:Heap}{b:Nat}{k:IntKind}{m:List (Int×Value)}{x st:Int}{v:Value}{K:Heap→Prop}(H:MapM h b k m)(S:Stamp h b k x st)
  (hK: ∀h',MapM h' b k (mset m x v)→Only [b] h h'→h'.size=h.size→K h'):estK h (some b) st v K:=by
 obtain⟨es',cl',i,ei,s1,s2,s3,s4⟩:=S
 have H':=H
 obtain⟨es,cl,h1,h2⟩:=map_found (x:=x) H
 rw[h1]at s1
 injection s1 with s1
 injection s1 with s1 s1'
 subst s1 s1'
 refine⟨es,cl,h1,?_⟩
 rcases h2 with⟨a,c,d,e⟩|⟨j,v0,a,c,d,e,⟨e0,f1,f2,f3,f4⟩,g⟩
 ·obtain⟨es2,cl2,q1,q2,q3,q4,q5⟩:=H'
  rw[h1]at q1
  injection q1 with q1
  injection q1 with q1 q1'
  subst q1 q1'
  exfalso
  have h6:(es.toList.map (fun e=>(e.key,e.val)))[i]? =some (Value.int k x,ei.val):=by
   rw[List.getElem?_map,show es.toList[i]? =some ei by rw[←s2];simp]
   simp[s3]
  rw[q2,List.getElem?_map]at h6
  cases hm:m[i]? with
  |none=>simp[hm]at h6
  |some p=>
   simp[hm]at h6
   exact lookup_none.1 c (List.mem_map.2 ⟨p,List.mem_of_getElem? hm,h6.1⟩)
 ·have hij:=f4 i ei s2 s3
  subst hij
  obtain⟨es2,cl2,q1,q2,q3,q4,q5⟩:=H'
  rw[h1]at q1
  injection q1 with q1
  injection q1 with q1 q1'
  subst q1 q1'
  have hlt:i<es.size:=(Array.getElem?_eq_some_iff.1 s2).1
  refine⟨i,?_,hK _ (g _ v fun e he=> ?_) (Only.map h1 _ _) (by simp)⟩
  ·rw[Array.findIdx?_eq_some_iff_getElem]
   refine⟨hlt,?_,fun j hji=> ?_⟩
   ·have:es[i]=ei:=(Array.getElem?_eq_some_iff.1 s2).2
    rw[this]
    simp[s4]
   ·have hi':es[i]=ei:=(Array.getElem?_eq_some_iff.1 s2).2
    intro hb
    have hb:(es[j].born:Int)=st:=by simpa using hb
    have:es[j].born=es[i].born:=by
     rw[hi']
     omega
    have hnd:=List.nodup_iff_pairwise_ne.1 q4
    rw[List.pairwise_map,List.pairwise_iff_getElem]at hnd
    exact hnd j i (by simp;omega) (by simpa using hlt) hji (by simpa using this)
  ·rw[s2]at he
   injection he with he
   subst he
   exact⟨s3,rfl,rfl⟩
theorem MapM.empty{h:Heap}{b:Nat}{k:IntKind}(h1:mp h b=some (#[],0)):MapM h b k []:=⟨#[],0,h1,rfl,by simp,by simp,by simp⟩
end
section
abbrev Nd:=Nat×Nat×Nat
def kf(x:Nd):Nat:=nkey x.1 x.2.1 x.2.2
def NdOk(x:Nd):Prop:=x.1<256∧x.2.1<2^28∧x.2.2<2^28∧x.2.1≠x.2.2
theorem kf_ne{x:Nd}(h:NdOk x):kf x≠0:=by
 obtain⟨a,b,c,d⟩:=h
 unfold kf nkey
 omega
theorem kf_inj{x y:Nd}(h:NdOk x)(g:NdOk y)(e:kf x=kf y):x=y:=by
 obtain⟨a,b,c⟩:=x
 obtain⟨a',b',c'⟩:=y
 obtain⟨e1,e2,e3⟩:=nkey_inj h.2.1 h.2.2.1 g.2.1 g.2.2.1 e
 dsimp only at e1 e2 e3
 rw[e1,e2,e3]
def nd(N:List (Option Nd))(i:Nat):Option Nd:=(N[i]?).join
def cntN(N:List (Option Nd)):Nat:=N.countP (·.isSome)
theorem nd_some{N:List (Option Nd)}{i:Nat}{x:Nd}:nd N i=some x↔N[i]? =some (some x):=by
 unfold nd
 cases h:N[i]? with
 |none=>simp
 |some o=>simp
theorem nd_lt{N:List (Option Nd)}{i:Nat}{x:Nd}(h:nd N i=some x):i<N.length:=(List.getElem?_eq_some_iff.1 (nd_some.1 h)).1
theorem nd_out{N:List (Option Nd)}{i:Nat}(h:N.length≤i):nd N i=none:=by
 unfold nd
 rw[List.getElem?_eq_none h]
 rfl
theorem nd_app{N:List (Option Nd)}{o:Option Nd}(k:Nat):nd (N++[o]) k=if k=N.length then o else nd N k:=by
 unfold nd
 by_cases h:k<N.length
 ·rw[List.getElem?_append_left h,if_neg (by omega)]
 ·by_cases e:k=N.length
  ·subst e
   rw[if_pos rfl]
   simp
  ·rw[if_neg e,List.getElem?_eq_none (by simp;omega),List.getElem?_eq_none (by omega)]
theorem nd_set{N:List (Option Nd)}{i:Nat}{o:Option Nd}(hi:i<N.length)(k:Nat):nd (N.set i o) k=if k=i then o else nd N k:=by
 unfold nd
 rw[List.getElem?_set]
 by_cases e:i=k
 ·subst e
  rw[if_pos rfl,if_pos hi,if_pos rfl]
  rfl
 ·rw[if_neg e,if_neg (Ne.symm e)]
theorem cnt_app(N:List (Option Nd))(o:Option Nd):cntN (N++[o])=cntN N+if o.isSome then 1 else 0:=by
 unfold cntN
 rw[List.countP_append,List.countP_singleton]
theorem cntN_le: ∀N:List (Option Nd),cntN N≤N.length:=fun N=>List.countP_le_length
theorem cntN_set{x:Nd}: ∀{N:List (Option Nd)} {i:Nat},N[i]? =some none→cntN (N.set i (some x))=cntN N+1
 | [],i,h=>by simp at h
 |o::N,0,h=>by
  simp at h
  subst h
  simp[cntN]
 |o::N,i+1,h=>by
  have:=cntN_set (x:=x) (N:=N) (i:=i) (by simpa using h)
  unfold cntN at this ⊢
  rw[List.set_cons_succ,List.countP_cons,List.countP_cons,this]
  omega
structure Laid(T:Nat)(cs:List Int)(mm:List (Int×Value))(N:List (Option Nd)):Prop where
 len:cs.length=T
 inv:TInv 0 T cs
 cells: ∀j,j<T→cell 0 cs j=0∨ ∃i x,nd N i=some x∧cell 0 cs j=(kf x:Int)∧mm.lookup (j:Int)=some (.int .u32 ((i+2:Nat):Int))
 all: ∀i x,nd N i=some x→ ∃j,j<T∧cell 0 cs j=(kf x:Int)
 cnt:cnt 0 cs T=cntN N
 ok: ∀i x,nd N i=some x→NdOk x
theorem Laid.congr{T:Nat}{cs:List Int}{mm:List (Int×Value)}{N N':List (Option Nd)}(L:Laid T cs mm N)(h: ∀k,nd N' k=nd N k)(hc:cntN N'=cntN N):Laid T cs mm N':=
 ⟨L.len,L.inv,fun j hj=>by
  rcases L.cells j hj with e|⟨i,x,e1,e2⟩
  ·exact .inl e
  ·exact .inr ⟨i,x,by rw[h];exact e1,e2⟩,fun i x e=>L.all i x (by rw[←h];exact e),by rw[hc];exact L.cnt,fun i x e=>L.ok i x (by rw[←h];exact e)⟩
theorem free_slot{cs:List Int}: ∀T,cnt 0 cs T<T→ ∃z,z<T∧cell 0 cs z=0:=fun T h=>by
 by_cases e: ∃z,z<T∧cell 0 cs z=0
 ·exact e
 ·have:=cnt_full T fun i hi hz=>e ⟨i,hi,hz⟩
  omega
def NoKey(N:List (Option Nd))(k:Nat):Prop:= ∀i x,nd N i=some x→kf x≠k
theorem Laid.absent{T:Nat}{cs:List Int}{mm:List (Int×Value)}{N:List (Option Nd)}(L:Laid T cs mm N){k:Nat}(hk:k≠0)(hn:NoKey N k): ∀j,j<T→cell 0 cs j≠(k:Int):=fun j hj e=>by
 rcases L.cells j hj with h|⟨i,x,h1,h2,_⟩
 ·omega
 ·exact hn i x h1 (by omega)
set_option maxRecDepth 100000 in
theorem Laid.put{T:Nat}{cs:List Int}{mm:List (Int×Value)}{N N':List (Option Nd)}{q:Nat}(L:Laid T cs mm N){x:Nd}(hx:NdOk x){i:Nat}(hi:i<T)(hz:cell 0 cs i=0)(I:TInv 0 T (cs.set i (kf x)))
  (hq:nd N q=none) (hN: ∀k,nd N' k=if k=q then some x else nd N k) (hc:cntN N'=cntN N+1):
  Laid T (cs.set i (kf x)) (mset mm (i:Int) (.int .u32 ((q+2:Nat):Int))) N':=by
 have hi':0+i<cs.length:=by have:=L.len;omega
 have cell': ∀j,cell 0 (cs.set i (kf x:Int)) j=if j=i then(kf x:Int)else cell 0 cs j:=fun j=>by
  have:=cell_set (base:=0) (cs:=cs) (i:=i) (j:=j) (v:=(kf x:Int)) hi'
  rw[Nat.zero_add]at this
  exact this
 have kx:=kf_ne hx
 refine⟨by rw[List.length_set];exact L.len,I,fun j hj=> ?_,fun k y hy=> ?_,?_,fun k y hy=> ?_⟩
 ·rw[cell' j,lookup_mset]
  by_cases e:j=i
  ·subst e
   rw[if_pos rfl,if_pos rfl]
   exact .inr ⟨q,x,by rw[hN,if_pos rfl],rfl,rfl⟩
  ·rw[if_neg e,if_neg (by omega)]
   rcases L.cells j hj with h|⟨k,y,h1,h2,h3⟩
   ·exact .inl h
   ·refine .inr ⟨k,y,?_,h2,h3⟩
    rw[hN,if_neg]
    ·exact h1
    ·intro e2
     subst e2
     rw[hq]at h1
     cases h1
 ·rw[hN]at hy
  split at hy
  ·injection hy with hy
   subst hy
   exact⟨i,hi,by rw[cell' i,if_pos rfl]⟩
  ·obtain⟨j,h1,h2⟩:=L.all k y hy
   refine⟨j,h1,?_⟩
   rw[cell' j,if_neg ?_]
   ·exact h2
   ·intro e
    subst e
    rw[hz]at h2
    have:=kf_ne (L.ok k y hy)
    omega
 ·have:=cnt_set (base:=0) (cs:=cs) (i:=i) (v:=(kf x:Int)) (by omega) hz hi' T
  rw[Nat.zero_add,if_pos hi]at this
  rw[this,L.cnt,hc]
 ·rw[hN]at hy
  split at hy
  ·injection hy with hy
   subst hy
   exact hx
  ·exact L.ok k y hy
set_option maxRecDepth 100000 in
theorem lays54{h:Heap}{s t m mc sb T q:Nat}{S:List Value}{cs:List Int}{ops fails:Int}{mm:List (Int×Value)}{N N':List (Option Nd)}{x:Nd}{K:Value→Heap→Prop}(A:At h s S)
  (hp4:S[4]? =some (.pointer (some ⟨t,0,none⟩))) (hp5:S[5]? =some (.map (some sb))) (ds:s∉[m,mc,sb])
  (Tb:TabIs h t m 0 T) (M:MemIs h m mc cs ops fails) (Mp:MapM h sb .i64 mm) (hn2:T<1000000000) (d4:t∉[m,mc,sb]) (d7:m≠sb) (d8:mc≠sb) (bt:t<h.size) (bm:m<h.size) (bmc:mc<h.size)
  (L:Laid T cs mm N) (hx:NdOk x) (hnew:NoKey N (kf x)) (hroom:cntN N<T) (hq:nd N q=none) (hN: ∀k,nd N' k=if k=q then some x else nd N k) (hc:cntN N'=cntN N+1)
  (hK: ∀h' cs' mm' ops' fails',At h' s S→TabIs h' t m 0 T→MemIs h' m mc cs' ops' fails'→MapM h' sb .i64 mm'→Laid T cs' mm' N'→Only [m,mc,sb] h h'→K (.tuple #[]) h'):
  Cl 160 [.pointer (some ⟨s,0,none⟩),.int .u32 ((q+2:Nat):Int),.agg #[.bool true,.int .i64 (x.1:Int),.int .u32 (x.2.1:Int),.int .u32 (x.2.2:Int)]] h K:=by
 simp only[List.mem_cons,List.not_mem_nil,or_false,not_or]at d4 ds
 refine F160.spec _ _ _ _ _ _ h K ?_
 simp only[add_mk,Nat.zero_add]
 refine newK_at fun h1 A1 O1 z1=> ?_
 refine ldI_of (by rw[At.rd A1];rfl) (ldI_of (by rw[At.rd A1];rfl) (ldI_of (by rw[At.rd A1];rfl) ?_))
 refine key73 hx.1 hx.2.1 hx.2.2.1 (ldI_of rfl ?_)
 obtain⟨z,hz,hz0⟩:=free_slot (cs:=cs) T (by rw[L.cnt];exact hroom)
 have As:=A.only O1 (by simp)
 refine finds72 (t:=t) (by rw[At.rd As];exact hp4) (Tb.only O1 (by simp)) (M.only O1 (by simp) (by simp)) (by omega) hn2 L.len d4.1 d4.2.1 (by omega) (by omega) (by omega) L.inv (by have:=kf_ne hx;unfold kf at this;omega)
  (L.absent (kf_ne hx) hnew) hz hz0 fun h2 i o2 f2 hi hi0 T2 M2 I2 O2=>⟨_,_,rfl,?_⟩
 have As2:=As.only O2 (by simp;omega)
 refine⟨_,(by rw[At.rd As2];exact hp5),?_⟩
 refine upd_map ((Mp.only O1 (by simp)).only O2 (by simp;omega)) fun h3 M3 O3 z3=> ?_
 refine hK h3 _ _ _ _ (As2.only O3 (by simp;omega)) (T2.only O3 (by simp;omega)) (M2.only O3 (by simp;omega) (by simp;omega)) M3 (L.put hx hi hi0 I2 hq hN hc) ?_
 exact(((Only.refl [m,mc,sb] h).trans O1 (by simp)).trans O2 (by intro b hb _;simp at hb ⊢;omega)).trans O3 (by intro b hb _;simp at hb ⊢;omega)
end
section
def F108.T:Hint:=⟨[(3,[3,13,14])],[(5,[[(0,[]),(1,[]),(2,[]),(3,[]),(4,[]),(5,[]),(6,[]),(7,[]),(8,[]),(10,[]),(11,[]),(9,[2,3,5,10,11]),(12,[]),(13,[])]])]⟩
section
variable (n:Nat)(d:Int)(b:Addr)(c a:Int)(h:Heap)(K:KK)
def F108.wL3:Prop:=Lp Tryz.f108 F108.T [1,1,0,1,0] n [(3,(.pointer (some b))),(13,(.int .i64 c)),(14,(.int .i64 a))] h K
theorem F108.sL3:F108.wL3 (n+1) b c a h K=(bcase (decide (a<c)) ((0≤a∧a<(Nat.cast 8:Int)∧stK h (((b.add 1).add (Int.toNat a*1)).add 0) (.int .i64 a) fun h1=>((.pointer (some b))=((.pointer (some b)):Value)∧((.int .i64 a)=((.int .i64 a):Value)∧((.int .i64 a)=((.int .i64 a):Value)∧((.pointer (some b))=((.pointer (some b)):Value)∧((.pointer (some (b.add 9)))=((.pointer (some (b.add 9))):Value)∧(0≤a∧a<(Nat.cast 8:Int)∧stK h1 (((b.add 9).add (Int.toNat a*1)).add 0) (.int .i64 a) fun h2=>F108.wL3 n b c (IntKind.wrap .i64 (a+(1:Int))) h2 K)))))))) (K (.pointer (some b)) h)):=by kernel_rfl
def F108.wk3:Prop:=(∃m,F108.wL3 m b c a h K)
theorem F108.spec(H:newK h (.cells #[.int .i64 (if(8:Int)<(if(1:Int)>d then(1:Int)else d)then(8:Int)else(if(1:Int)>d then(1:Int)else d)),.int .i64 0,.int .i64 0,.int .i64 0,.int .i64 0,.int .i64 0,.int .i64 0,.int .i64 0,.int .i64 0,.int .i64 0,.int .i64 0,.int .i64 0,.int .i64 0,.int .i64 0,.int .i64 0,.int .i64 0,.int .i64 0] 189) fun b1 h2=>ldI .i64 (rd h2 ((Addr.mk b1 0 none).add 0)) fun n3=>F108.wk3 (Addr.mk b1 0 none) n3 (0:Int) h2 K):Cl 108 [.int .i64 d] h K:=cT F108.T Tryz.func108 H
end
def F48.T:Hint:=⟨[],[(2,[[(0,[]),(1,[]),(2,[]),(3,[]),(4,[]),(5,[]),(6,[]),(7,[]),(8,[]),(9,[])]])]⟩
theorem F48.spec(a:Addr)(h:Heap)(K:KK)(H:ldI .i64 (rd h (a.add 0)) fun n1=>0≤n1∧n1≤n1∧((Nat.cast 8:Int)*n1≤281474976710656)∧n1≤9223372036854775807∧newK h (.cells (madeCells #[.int .i64 0] (Int.toNat n1*1)) 3) fun b2 h3=>ldI .i64 (rd h3 (a.add 0)) fun n4=>0≤n4∧n4≤(Nat.cast 8:Int)∧copyK h3 1 (some (Addr.mk b2 0 none)) (Int.toNat n1) (some (if 8=0 then(a.add 1)else Addr.add (a.add 1) (0*1))) (Int.toNat n4-0) fun _ h6=>K (.slice (some (Addr.mk b2 0 none)) (Int.toNat n1) (Int.toNat n1)) h6):Cl 48 [.pointer (some a)] h K:=cT F48.T Tryz.func48 H
theorem F104.spec(a:Addr)(h:Heap)(K:KK)(H:ldI .i64 (rd h (a.add 0)) fun n1=>ldI .i64 (rd h (a.add 1)) fun n2=>ldI .i64 (rd h (a.add 2)) fun n3=>ldI .i64 (rd h (a.add 3)) fun n4=>ldI .i64 (rd h (a.add 4)) fun n5=>ldI .i64 (rd h (a.add 5)) fun n6=>ldI .i64 (rd h (a.add 6)) fun n7=>ldI .i64 (rd h (a.add 7)) fun n8=>ldI .i64 (rd h (a.add 8)) fun n9=>ldI .i64 (rd h (a.add 9)) fun n10=>ldI .i64 (rd h (a.add 10)) fun n11=>ldI .i64 (rd h (a.add 11)) fun n12=>ldI .i64 (rd h (a.add 12)) fun n13=>ldI .i64 (rd h (a.add 13)) fun n14=>ldI .i64 (rd h (a.add 14)) fun n15=>ldI .i64 (rd h (a.add 15)) fun n16=>ldI .i64 (rd h (a.add 16)) fun n17=>newK h (.cells (Array.replicate 17 ((.int .i64 0):Value)) 189) fun b18 h19=>stK h19 ((Addr.mk b18 0 none).add 0) (.int .i64 n1) fun h20=>stK h20 ((Addr.mk b18 0 none).add 1) (.int .i64 n2) fun h21=>stK h21 ((Addr.mk b18 0 none).add 2) (.int .i64 n3) fun h22=>stK h22 ((Addr.mk b18 0 none).add 3) (.int .i64 n4) fun h23=>stK h23 ((Addr.mk b18 0 none).add 4) (.int .i64 n5) fun h24=>stK h24 ((Addr.mk b18 0 none).add 5) (.int .i64 n6) fun h25=>stK h25 ((Addr.mk b18 0 none).add 6) (.int .i64 n7) fun h26=>stK h26 ((Addr.mk b18 0 none).add 7) (.int .i64 n8) fun h27=>stK h27 ((Addr.mk b18 0 none).add 8) (.int .i64 n9) fun h28=>stK h28 ((Addr.mk b18 0 none).add 9) (.int .i64 n10) fun h29=>stK h29 ((Addr.mk b18 0 none).add 10) (.int .i64 n11) fun h30=>stK h30 ((Addr.mk b18 0 none).add 11) (.int .i64 n12) fun h31=>stK h31 ((Addr.mk b18 0 none).add 12) (.int .i64 n13) fun h32=>stK h32 ((Addr.mk b18 0 none).add 13) (.int .i64 n14) fun h33=>stK h33 ((Addr.mk b18 0 none).add 14) (.int .i64 n15) fun h34=>stK h34 ((Addr.mk b18 0 none).add 15) (.int .i64 n16) fun h35=>stK h35 ((Addr.mk b18 0 none).add 16) (.int .i64 n17) fun h36=>K (.pointer (some (Addr.mk b18 0 none))) h36):Cl 104 [.pointer (some a)] h K:=cN Tryz.func104 H
theorem F272.spec(b:Addr)(a:Int)(h:Heap)(K:KK)(H:bcase (decide (a<(0:Int))) (K (.int .i64 (-1)) h) (ldI .i64 (rd h (b.add 0)) fun n1=>bcase (decide (a≥n1)) (K (.int .i64 (-1)) h) ((0≤a∧a<(Nat.cast 8:Int)∧ldI .i64 (rd h ((b.add 1).add (Int.toNat a*1))) fun n2=>K (.int .i64 n2) h)))):Cl 272 [.pointer (some b),.int .i64 a] h K:=cN Tryz.func272 H
theorem F119.spec(a:Addr)(h:Heap)(K:KK)(H:ldI .i64 (rd h (a.add 0)) fun n1=>K (.int .i64 n1) h):Cl 119 [.pointer (some a)] h K:=cN Tryz.func119 H
end
section
def L8(f:Nat→Nat):List Value:=(List.range 8).map fun i=> .int .i64 (f i:Int)
def upd(f:Nat→Nat)(k v:Nat):Nat→Nat:=fun i=>if i=k then v else f i
theorem L8_len(f:Nat→Nat):(L8 f).length=8:=by simp[L8]
theorem L8_get{f:Nat→Nat}{i:Nat}(hi:i<8):(L8 f)[i]? =some (.int .i64 (f i:Int)):=by simp[L8,hi]
theorem L8_set(f:Nat→Nat)(k v:Nat):(L8 f).set k (.int .i64 (v:Int))=L8 (upd f k v):=by
 apply List.ext_getElem?
 intro i
 by_cases h8:i<8
 ·rw[L8_get h8,List.getElem?_set]
  by_cases h:k=i
  ·subst h
   rw[if_pos rfl,if_pos (by rw[L8_len];exact h8)]
   simp[upd]
  ·rw[if_neg h,L8_get h8]
   simp[upd,Ne.symm h]
 ·rw[List.getElem?_eq_none (by simp[L8_len];omega),List.getElem?_eq_none (by simp[L8_len];omega)]
def OrdIs(h:Heap)(b n:Nat)(f g:Nat→Nat):Prop:=At h b (.int .i64 (n:Int)::(L8 f++L8 g))
theorem OrdIs.only{S:List Nat}{h h':Heap}{b n:Nat}{f g:Nat→Nat}(H:OrdIs h b n f g)(O:Only S h h')(hb:b∉S):OrdIs h' b n f g:=At.only H O hb
theorem OrdIs.rd0{h:Heap}{b n:Nat}{f g:Nat→Nat}(H:OrdIs h b n f g):rd h ⟨b,0,none⟩=some (.int .i64 n):=by rw[At.rd H];rfl
theorem OrdIs.rdv{h:Heap}{b n:Nat}{f g:Nat→Nat}(H:OrdIs h b n f g){i:Nat}(hi:i<8):rd h ⟨b,1+i,none⟩=some (.int .i64 (f i:Int)):=by
 rw[At.rd H,Nat.add_comm,List.getElem?_cons_succ,List.getElem?_append_left (by rw[L8_len];exact hi),L8_get hi]
theorem OrdIs.rdl{h:Heap}{b n:Nat}{f g:Nat→Nat}(H:OrdIs h b n f g){i:Nat}(hi:i<8):rd h ⟨b,9+i,none⟩=some (.int .i64 (g i:Int)):=by
 rw[At.rd H,show 9+i=(8+i)+1 by omega,List.getElem?_cons_succ,List.getElem?_append_right (by rw[L8_len];omega),L8_len,show 8+i-8=i by omega,L8_get hi]
theorem OrdIs.stv{h:Heap}{b n:Nat}{f g:Nat→Nat}{i v:Nat}{K:Heap→Prop}(H:OrdIs h b n f g)(hi:i<8)
  (hK: ∀h',OrdIs h' b n (upd f i v) g→Only [b] h h'→K h'):stK h ⟨b,1+i,none⟩ (.int .i64 (v:Int)) K:=by
 refine stK_at H (by simp[L8_len];omega) rfl fun h' A O _=>hK h' ?_ O
 rw[Nat.add_comm,List.set_cons_succ,List.set_append_left _ _ (by rw[L8_len];exact hi),L8_set]at A
 exact A
theorem OrdIs.stl{h:Heap}{b n:Nat}{f g:Nat→Nat}{i v:Nat}{K:Heap→Prop}(H:OrdIs h b n f g)(hi:i<8)
  (hK: ∀h',OrdIs h' b n f (upd g i v)→Only [b] h h'→K h'):stK h ⟨b,9+i,none⟩ (.int .i64 (v:Int)) K:=by
 refine stK_at H (by simp[L8_len];omega) rfl fun h' A O _=>hK h' ?_ O
 rw[show 9+i=(8+i)+1 by omega,List.set_cons_succ,List.set_append_right _ _ (by rw[L8_len];omega),L8_len,show 8+i-8=i by omega,L8_set]at A
 exact A
theorem ord_var{h:Heap}{b n:Nat}{f g:Nat→Nat}{k:Nat}{K:Value→Heap→Prop}(H:OrdIs h b n f g)(hn:n≤8)(hk:k<n)(hK:K (.int .i64 (f k:Int)) h):
  Cl 272 [.pointer (some ⟨b,0,none⟩),.int .i64 (k:Int)] h K:=by
 apply F272.spec
 simp only[add_mk,Nat.zero_add,Nat.mul_one,Int.toNat_natCast]
 rw[decide_eq_false (by omega),bcase_false]
 refine ldI_of H.rd0 ?_
 rw[decide_eq_false (by omega),bcase_false]
 exact⟨by omega,by omega,ldI_of (H.rdv (by omega)) hK⟩
theorem ord_len{h:Heap}{b n:Nat}{f g:Nat→Nat}{K:Value→Heap→Prop}(H:OrdIs h b n f g)(hK:K (.int .i64 n) h):
  Cl 119 [.pointer (some ⟨b,0,none⟩)] h K:=by
 apply F119.spec
 simp only[add_mk,Nat.zero_add]
 exact ldI_of H.rd0 hK
def sw(k:Nat)(f:Nat→Nat):Nat→Nat:=upd (upd f k (f (k+1))) (k+1) (f k)
def swl(k:Nat)(f g:Nat→Nat):Nat→Nat:=upd (upd g (f (k+1)) k) (f k) (k+1)
def fill(k:Nat):Nat→Nat:=fun i=>if i<k then i else 0
theorem upd_fill{k:Nat}:upd (fill k) k k=fill (k+1):=by
 funext i
 unfold upd fill
 split
 ·next h=>subst h;simp
 ·split
  ·rw[if_pos (by omega)]
  ·rw[if_neg (by omega)]
theorem new_loop{h0:Heap}{b n:Nat}(hb:h0.size≤b)(hn:n≤8){K:Value→Heap→Prop}(hK: ∀h',OrdIs h' b n (fill n) (fill n)→Only [] h0 h'→K (.pointer (some ⟨b,0,none⟩)) h'):
  ∀(m k:Nat) (h:Heap),n-k<m→k≤n→OrdIs h b n (fill k) (fill k)→Only [] h0 h→F108.wL3 m ⟨b,0,none⟩ (n:Int) (k:Int) h K:=by
 intro m
 induction m with
 |zero=>intro k h hm;omega
 |succ m ih=>
  intro k h hm hk H O
  rw[F108.sL3]
  by_cases hlt:k<n
  ·rw[decide_eq_true (by omega),bcase_true]
   simp only[add_mk,Nat.zero_add,Nat.mul_one,Nat.add_zero,Int.toNat_natCast]
   refine⟨by omega,by omega,H.stv (by omega) fun h1 A1 O1=>⟨trivial,trivial,trivial,trivial,trivial,by omega,by omega,A1.stl (by omega) fun h2 A2 O2=> ?_⟩⟩
   rw[show IntKind.wrap .i64 ((k:Int)+1)=((k+1:Nat):Int) by rw[wrap_i64 (by omega) (by omega)];simp]
   rw[upd_fill]at A2
   exact ih (k+1) h2 (by omega) (by omega) A2 (O.trans (O1.trans (T:=[b]) O2 (by simp)) fun x hx hl=>absurd (show x=b by simpa using hx) (by omega))
  ·rw[decide_eq_false (by omega),bcase_false]
   obtain rfl:k=n:=by omega
   exact hK h H O
theorem ord_new{h:Heap}{n:Nat}(h1:1≤n)(h8:n≤8){K:Value→Heap→Prop}(hK: ∀b h',OrdIs h' b n (fill n) (fill n)→h.size≤b→Only [] h h'→K (.pointer (some ⟨b,0,none⟩)) h'):
  Cl 108 [.int .i64 (n:Int)] h K:=by
 apply F108.spec
 rw[if_neg (by omega: ¬(1:Int)>(n:Int)),if_neg (by omega: ¬(8:Int)<(n:Int))]
 refine newK_at fun h2 A2 O2 z2=> ?_
 have A2:OrdIs h2 h.size n (fill 0) (fill 0):=A2
 simp only[add_mk,Nat.zero_add]
 refine ldI_of A2.rd0 ?_
 unfold F108.wk3
 exact⟨n+1,new_loop (Nat.le_refl _) h8 (fun h' H O=>hK h.size h' H (Nat.le_refl _) O) (n+1) 0 h2 (by omega) (by omega) A2 O2⟩
theorem stL_row{b:Nat}{K:Heap→Prop}: ∀(new:List Value) (i:Nat) (c:List Value) (h:Heap),At h b c→i+new.length≤c.length→(∀v∈new,v.oneCell'=true)→
  (∀h',At h' b (c.take i++new++c.drop (i+new.length))→Only [b] h h'→K h')→stL ⟨b,0,none⟩ i new h K:=by
 intro new
 induction new with
 |nil=>
  intro i c h A hi hv hK
  unfold stL
  exact hK h (by simpa using A) (Only.refl _ _)
 |cons v vs ih=>
  intro i c h A hi hv hK
  simp only[List.length_cons]at hi
  unfold stL
  rw[add_mk,Nat.zero_add]
  refine stK_at A (by omega) (hv v (by simp)) fun h1 A1 O1 _=>ih (i+1) _ h1 A1 (by simp;omega) (fun x hx=>hv x (by simp[hx])) fun h2 A2 O2=>hK h2 ?_ (O1.trans O2 (by simp))
  have e:(c.set i v).take (i+1)=c.take i++[v]:=by
   rw[List.take_set,List.take_succ_eq_append_getElem (by omega),List.set_append_right _ _ (by simp;omega)]
   simp[List.length_take,Nat.min_eq_left (by omega:i≤c.length)]
  have e2:(c.set i v).drop (i+1+vs.length)=c.drop (i+(vs.length+1)):=by
   rw[List.drop_set_of_lt (by omega)]
   congr 1
   omega
  rw[e,e2]at A2
  simpa using A2
theorem ord_all{h:Heap}{b n:Nat}{f g:Nat→Nat}{K:Value→Heap→Prop}(H:OrdIs h b n f g)(hn:n≤8)
  (hK: ∀x h',At h' x (((List.range n).map fun i=>(f i:Int)).map (.int .i64))→h.size≤x→Only [] h h'→K (.slice (some ⟨x,0,none⟩) n n) h'):
  Cl 48 [.pointer (some ⟨b,0,none⟩)] h K:=by
 apply F48.spec
 simp only[add_mk,Nat.zero_add,Nat.mul_one]
 refine ldI_of H.rd0 ⟨by omega,by omega,by omega,by omega,newK_at fun h1 A1 O1 z1=> ?_⟩
 have H1:=H.only O1 (by simp)
 refine ldI_of H1.rd0 ⟨by omega,by omega,?_⟩
 rw[if_neg (by decide: ¬(8=0)),Int.toNat_natCast,Nat.sub_zero,toList_madeCells_one]at*
 unfold copyK
 rw[show Nat.min n n=n from Nat.min_self n]
 refine⟨((List.range n).map fun i=>(f i:Int)).map (.int .i64),by simp,?_,?_⟩
 ·intro j v hj
  have hjn:j<n:=by
   have:=(List.getElem?_eq_some_iff.1 hj).1
   simpa using this
  rw[add_mk,H1.rdv (by omega),←hj]
  simp[hjn]
 ·refine stL_row _ 0 _ h1 A1 (by simp) (by simp[Value.oneCell']) fun h2 A2 O2=>hK h.size h2 ?_ (Nat.le_refl _) ?_
  ·simpa using A2
  ·exact O1.trans O2 fun x hx hl=>absurd (show x=h.size by simpa using hx) (by omega)
end
section
theorem F109.spec(c:Addr)(a b:Int)(h:Heap)(K:KK)(H:bcase (decide (a<(0:Int))) (K (.tuple #[.pointer none,.int .i64 61]) h) (bcase (decide (b<(1:Int))) (K (.tuple #[.pointer none,.int .i64 61]) h) (bcase (decide (b>(1024:Int))) (K (.tuple #[.pointer none,.int .i64 61]) h) (Cl 132 [.pointer (some c)] h fun v1 h2=>ldI .i64 (some v1) fun n3=>bcase (decide (a>n3)) (K (.tuple #[.pointer none,.int .i64 61]) h2) (Cl 110 [.int .i64 b] h2 fun v4 h5=>ldI .i64 (some v4) fun n6=>Cl 132 [.pointer (some c)] h5 fun v7 h8=>ldI .i64 (some v7) fun n9=>bcase (decide (n6>(IntKind.wrap .i64 (n9-a)))) (K (.tuple #[.pointer none,.int .i64 61]) h8) (newK h8 (.cells #[.pointer (some c),.int .i64 a,.int .i64 b] 247) fun b10 h11=>K (.tuple #[.pointer (some (Addr.mk b10 0 none)),.int .i64 0]) h11)))))):Cl 109 [.pointer (some c),.int .i64 a,.int .i64 b] h K:=cN Tryz.func109 H
def F227.T:Hint:=⟨[],[(1,[[(0,[]),(1,[]),(2,[]),(3,[]),(4,[]),(5,[]),(7,[]),(6,[0,1,2,3,7]),(8,[]),(9,[]),(10,[])]])]⟩
theorem F227.spec(a:Addr)(b:Int)(h:Heap)(K:KK)(H:ldP (rd h (a.add 0)) fun p1=>Cl 274 [.pointer (some a),.int .u64 b] h fun v2 h3=>ldI .i64 (some v2) fun n4=>((.pointer (some a))=((.pointer (some a)):Value)∧((.pointer (some a))=((.pointer (some a)):Value)∧((.pointer (some (a.add 0)))=((.pointer (some (a.add 0))):Value)∧ldP (rd h3 (a.add 0)) fun p5=>((.pointer p5)=((.pointer p1):Value)∧((.int .u64 b)=((.int .u64 b):Value)∧newK h3 (.cells #[.pointer p1,.int .i64 n4,.int .u64 b,.int .u64 0,.int .u64 0,.nilFunc,.bool false,.bool false,.int .u64 0] 345) fun b6 h7=>stK h7 (((Addr.mk b6 0 none).add 5).add 0) (.func (.func 275) #[.pointer (some (Addr.mk b6 0 none))] #[]) fun h8=>K (.pointer (some (Addr.mk b6 0 none))) h8)))))):Cl 227 [.pointer (some a),.int .u64 b] h K:=cT F227.T Tryz.func227 H
def F252.T:Hint:=⟨[],[(1,[[(0,[]),(1,[]),(2,[]),(3,[]),(4,[]),(5,[]),(7,[]),(8,[]),(6,[0,1,2,3,7,8]),(9,[]),(10,[]),(11,[])]])]⟩
theorem F252.spec(a:Addr)(b c:Int)(h:Heap)(K:KK)(H:ldP (rd h (a.add 0)) fun p1=>Cl 274 [.pointer (some a),.int .u64 b] h fun v2 h3=>ldI .i64 (some v2) fun n4=>((.pointer (some a))=((.pointer (some a)):Value)∧((.pointer (some a))=((.pointer (some a)):Value)∧((.pointer (some (a.add 0)))=((.pointer (some (a.add 0))):Value)∧ldP (rd h3 (a.add 0)) fun p5=>((.pointer p5)=((.pointer p1):Value)∧((.int .u64 b)=((.int .u64 b):Value)∧((.int .u64 c)=((.int .u64 c):Value)∧newK h3 (.cells #[.pointer p1,.int .i64 n4,.int .u64 b,.int .u64 c,.int .u64 0,.nilFunc,.bool false,.bool false,.int .u64 0] 345) fun b6 h7=>stK h7 (((Addr.mk b6 0 none).add 5).add 0) (.func (.func 287) #[.pointer (some (Addr.mk b6 0 none))] #[]) fun h8=>K (.pointer (some (Addr.mk b6 0 none))) h8))))))):Cl 252 [.pointer (some a),.int .u64 b,.int .u64 c] h K:=cT F252.T Tryz.func252 H
def F229.T:Hint:=⟨[(3,[0])],[]⟩
section
variable (a:Addr)(h:Heap)(K:KK)
def F229.wk3:Prop:=ldB (rd h (a.add 6)) fun b1=>K (.bool b1) h
theorem F229.spec(a:Addr)(h:Heap)(K:KK)(H:ldB (rd h (a.add 6)) fun b1=>bcase (!b1) (ldV (rd h (a.add 5)) fun v2=>dynK Tryz.prog X v2 [] h fun v3 h4=>v3=(.tuple #[])∧F229.wk3 a h4 K) (F229.wk3 a h K)):Cl 229 [.pointer (some a)] h K:=cT F229.T Tryz.func229 H
end
theorem F230.spec(a:Addr)(h:Heap)(K:KK)(H:ldB (rd h (a.add 6)) fun b1=>bcase (!b1) (K (.tuple #[.int .u64 0,.bool false]) h) (ldB (rd h (a.add 7)) fun b2=>bcase (!b2) (K (.tuple #[.int .u64 0,.bool false]) h) (ldI .u64 (rd h (a.add 8)) fun n3=>K (.tuple #[.int .u64 n3,.bool true]) h))):Cl 230 [.pointer (some a)] h K:=cN Tryz.func230 H
def F274.T:Hint:=⟨[],[(1,[[(0,[]),(1,[]),(2,[]),(3,[]),(4,[]),(5,[]),(6,[]),(7,[]),(8,[]),(9,[0,1,2,3]),(10,[]),(11,[]),(12,[])]])]⟩
theorem F274.spec(a:Addr)(b:Int)(h:Heap)(K:KK)(H:ldI .i64 (rd h (a.add 1)) fun n1=>ldI .i64 (rd h (a.add 2)) fun n2=>Cl 246 [.int .u64 b,.int .i64 n2] h fun v3 h4=>ldI .i64 (some v3) fun n5=>((.pointer (some a))=((.pointer (some a)):Value)∧((.pointer (some a))=((.pointer (some a)):Value)∧((.pointer (some (a.add 1)))=((.pointer (some (a.add 1))):Value)∧ldI .i64 (rd h4 (a.add 1)) fun n6=>((.int .i64 n6)=((.int .i64 n1):Value)∧K (.int .i64 (IntKind.wrap .i64 (n1+(IntKind.wrap .i64 ((3:Int)*n5))))) h4))))):Cl 274 [.pointer (some a),.int .u64 b] h K:=cT F274.T Tryz.func274 H
def F275.T:Hint:=⟨[],[(0,[[(0,[]),(1,[]),(2,[]),(3,[]),(4,[]),(5,[]),(6,[]),(7,[]),(8,[]),(9,[0]),(10,[]),(11,[]),(12,[])]])]⟩
theorem F275.spec(a:Addr)(h:Heap)(K:KK)(H:ldP (rd h (a.add 0)) fun p1=>ldI .i64 (rd h (a.add 1)) fun n2=>Cl 162 [.pointer p1,.int .i64 n2] h fun v3 h4=>ldI .u64 (some v3) fun n5=>((.pointer (some a))=((.pointer (some a)):Value)∧stK h4 ((a.add 4).add 0) (.int .u64 n5) fun h6=>stK h6 ((a.add 5).add 0) (.func (.func 302) #[.pointer (some a)] #[]) fun h7=>ldI .u64 (rd h7 (a.add 4)) fun n8=>stK h7 ((a.add 6).add 0) (.bool ((bitsI .and .u64 n8 (3:Int)) !=(2:Int))) fun h9=>K (.tuple #[]) h9)):Cl 275 [.pointer (some a)] h K:=cT F275.T Tryz.func275 H
def F287.T:Hint:=⟨[],[(0,[[(0,[]),(1,[]),(2,[]),(3,[]),(4,[]),(5,[]),(6,[]),(7,[]),(8,[]),(9,[0]),(10,[]),(11,[]),(12,[])]])]⟩
theorem F287.spec(a:Addr)(h:Heap)(K:KK)(H:ldP (rd h (a.add 0)) fun p1=>ldI .i64 (rd h (a.add 1)) fun n2=>Cl 162 [.pointer p1,.int .i64 n2] h fun v3 h4=>ldI .u64 (some v3) fun n5=>((.pointer (some a))=((.pointer (some a)):Value)∧stK h4 ((a.add 4).add 0) (.int .u64 n5) fun h6=>stK h6 ((a.add 5).add 0) (.func (.func 308) #[.pointer (some a)] #[]) fun h7=>ldI .u64 (rd h7 (a.add 4)) fun n8=>stK h7 ((a.add 6).add 0) (.bool ((bitsI .and .u64 n8 (1:Int)) !=(0:Int))) fun h9=>K (.tuple #[]) h9)):Cl 287 [.pointer (some a)] h K:=cT F287.T Tryz.func287 H
def F302.T:Hint:=⟨[],[(0,[[(0,[]),(1,[]),(2,[]),(3,[]),(4,[]),(5,[]),(6,[]),(7,[]),(8,[]),(9,[]),(11,[]),(12,[]),(13,[]),(14,[]),(10,[0,11,12,13,14]),(15,[]),(16,[]),(17,[]),(18,[])]])]⟩
theorem F302.spec(a:Addr)(h:Heap)(K:KK)(H:ldP (rd h (a.add 0)) fun p1=>ldI .i64 (rd h (a.add 1)) fun n2=>ldI .u64 (rd h (a.add 2)) fun n3=>Cl 162 [.pointer p1,.int .i64 (IntKind.wrap .i64 (n2+(1:Int)))] h fun v4 h5=>ldI .u64 (some v4) fun n6=>((.pointer (some a))=((.pointer (some a)):Value)∧((.pointer (some a))=((.pointer (some a)):Value)∧((.pointer (some a))=((.pointer (some a)):Value)∧((.pointer (some (a.add 2)))=((.pointer (some (a.add 2))):Value)∧ldI .u64 (rd h5 (a.add 2)) fun n7=>((.int .u64 n7)=((.int .u64 n3):Value)∧stK h5 ((a.add 6).add 0) (.bool (n6 !=n3)) fun h8=>stK h8 ((a.add 5).add 0) (.func (.func 336) #[.pointer (some a)] #[]) fun h9=>K (.tuple #[]) h9)))))):Cl 302 [.pointer (some a)] h K:=cT F302.T Tryz.func302 H
def F308.T:Hint:=⟨[],[(1,[[(0,[]),(1,[]),(2,[]),(3,[]),(4,[]),(5,[]),(6,[]),(7,[]),(8,[]),(9,[]),(10,[]),(11,[]),(12,[]),(13,[]),(14,[]),(15,[]),(16,[]),(17,[]),(18,[0]),(19,[]),(20,[]),(21,[]),(22,[])]])]⟩
theorem F308.spec(a:Addr)(h:Heap)(K:KK)(H:stK h ((a.add 5).add 0) (.func (.func 338) #[.pointer (some a)] #[]) fun h1=>ldP (rd h1 (a.add 0)) fun p2=>ldI .i64 (rd h1 (a.add 1)) fun n3=>ldI .u64 (rd h1 (a.add 4)) fun n4=>ldI .u64 (rd h1 (a.add 4)) fun n5=>Cl 163 [.pointer p2,.int .i64 n3,.int .u64 n4,.int .u64 (bitsI .or .u64 n5 (1:Int))] h1 fun v6 h7=>ldB (some v6) fun b8=>((.pointer (some a))=((.pointer (some a)):Value)∧stK h7 ((a.add 6).add 0) (.bool (!b8)) fun h9=>K (.tuple #[]) h9)):Cl 308 [.pointer (some a)] h K:=cT F308.T Tryz.func308 H
def F336.T:Hint:=⟨[],[(0,[[(0,[]),(1,[]),(2,[]),(3,[]),(4,[]),(5,[]),(6,[]),(7,[]),(8,[]),(9,[]),(10,[0]),(11,[]),(12,[]),(13,[])]])]⟩
theorem F336.spec(a:Addr)(h:Heap)(K:KK)(H:ldP (rd h (a.add 0)) fun p1=>ldI .i64 (rd h (a.add 1)) fun n2=>Cl 162 [.pointer p1,.int .i64 (IntKind.wrap .i64 (n2+(2:Int)))] h fun v3 h4=>ldI .u64 (some v3) fun n5=>((.pointer (some a))=((.pointer (some a)):Value)∧stK h4 ((a.add 8).add 0) (.int .u64 n5) fun h6=>stK h6 ((a.add 5).add 0) (.func (.func 355) #[.pointer (some a)] #[]) fun h7=>K (.tuple #[]) h7)):Cl 336 [.pointer (some a)] h K:=cT F336.T Tryz.func336 H
def F338.T:Hint:=⟨[],[(0,[[(0,[]),(1,[]),(2,[]),(3,[]),(4,[]),(5,[]),(6,[]),(7,[]),(8,[]),(9,[]),(10,[]),(11,[]),(12,[]),(13,[])]])]⟩
theorem F338.spec(a:Addr)(h:Heap)(K:KK)(H:ldP (rd h (a.add 0)) fun p1=>ldI .i64 (rd h (a.add 1)) fun n2=>ldI .u64 (rd h (a.add 2)) fun n3=>Cl 282 [.pointer p1,.int .i64 (IntKind.wrap .i64 (n2+(1:Int))),.int .u64 n3] h fun v4 h5=>v4=(.tuple #[])∧stK h5 ((a.add 5).add 0) (.func (.func 356) #[.pointer (some a)] #[]) fun h6=>K (.tuple #[]) h6):Cl 338 [.pointer (some a)] h K:=cT F338.T Tryz.func338 H
def F355.T:Hint:=⟨[],[(0,[[(0,[]),(1,[]),(2,[]),(3,[]),(4,[]),(5,[]),(6,[]),(7,[]),(8,[]),(10,[]),(11,[]),(12,[]),(13,[]),(9,[0,10,11,12,13]),(14,[]),(15,[]),(16,[]),(17,[])]])]⟩
theorem F355.spec(a:Addr)(h:Heap)(K:KK)(H:ldP (rd h (a.add 0)) fun p1=>ldI .i64 (rd h (a.add 1)) fun n2=>ldI .u64 (rd h (a.add 4)) fun n3=>Cl 162 [.pointer p1,.int .i64 n2] h fun v4 h5=>ldI .u64 (some v4) fun n6=>((.pointer (some a))=((.pointer (some a)):Value)∧((.pointer (some a))=((.pointer (some a)):Value)∧((.pointer (some a))=((.pointer (some a)):Value)∧((.pointer (some (a.add 4)))=((.pointer (some (a.add 4))):Value)∧ldI .u64 (rd h5 (a.add 4)) fun n7=>((.int .u64 n7)=((.int .u64 n3):Value)∧stK h5 ((a.add 7).add 0) (.bool (n6==n3)) fun h8=>stK h8 ((a.add 6).add 0) (.bool true) fun h9=>K (.tuple #[]) h9)))))):Cl 355 [.pointer (some a)] h K:=cT F355.T Tryz.func355 H
def F356.T:Hint:=⟨[],[(0,[[(0,[]),(1,[]),(2,[]),(3,[]),(4,[]),(5,[]),(6,[]),(7,[]),(8,[]),(9,[]),(10,[]),(11,[]),(12,[]),(13,[])]])]⟩
theorem F356.spec(a:Addr)(h:Heap)(K:KK)(H:ldP (rd h (a.add 0)) fun p1=>ldI .i64 (rd h (a.add 1)) fun n2=>ldI .u64 (rd h (a.add 3)) fun n3=>Cl 282 [.pointer p1,.int .i64 (IntKind.wrap .i64 (n2+(2:Int))),.int .u64 n3] h fun v4 h5=>v4=(.tuple #[])∧stK h5 ((a.add 5).add 0) (.func (.func 368) #[.pointer (some a)] #[]) fun h6=>K (.tuple #[]) h6):Cl 356 [.pointer (some a)] h K:=cT F356.T Tryz.func356 H
def F368.T:Hint:=⟨[],[(0,[[(0,[]),(1,[]),(2,[]),(3,[]),(4,[]),(5,[]),(6,[]),(7,[]),(8,[]),(9,[]),(10,[]),(11,[]),(12,[]),(13,[]),(14,[])]])]⟩
theorem F368.spec(a:Addr)(h:Heap)(K:KK)(H:ldP (rd h (a.add 0)) fun p1=>ldI .i64 (rd h (a.add 1)) fun n2=>ldI .u64 (rd h (a.add 4)) fun n3=>Cl 282 [.pointer p1,.int .i64 n2,.int .u64 (IntKind.wrap .u64 ((bitsI .or .u64 n3 (2:Int))+(4:Int)))] h fun v4 h5=>v4=(.tuple #[])∧stK h5 ((a.add 6).add 0) (.bool true) fun h6=>K (.tuple #[]) h6):Cl 368 [.pointer (some a)] h K:=cT F368.T Tryz.func368 H
end
section
def CacIs(h:Heap)(c m base n:Nat):Prop:=At h c [.pointer (some ⟨m,0,none⟩),.int .i64 (base:Int),.int .i64 (n:Int)]
theorem CacIs.only{S:List Nat}{h h':Heap}{t m base n:Nat}(H:CacIs h t m base n)(O:Only S h h')(ht:t∉S):CacIs h' t m base n:=At.only H O ht
structure Ac where
 key:Int
 val:Int
 pos:Nat
 ver:Int
 ph:Nat
 done:Bool
 ok:Bool
 got:Int
def phf:Nat→Nat
 |0=>287
 |1=>308
 |2=>338
 |3=>356
 |4=>368
 |5=>275
 |6=>302
 |7=>336
 |_=>355
theorem go287:xget X 287=some Ext.go:=by kernel_rfl
theorem go308:xget X 308=some Ext.go:=by kernel_rfl
theorem go338:xget X 338=some Ext.go:=by kernel_rfl
theorem go356:xget X 356=some Ext.go:=by kernel_rfl
theorem go368:xget X 368=some Ext.go:=by kernel_rfl
theorem go275:xget X 275=some Ext.go:=by kernel_rfl
theorem go302:xget X 302=some Ext.go:=by kernel_rfl
theorem go336:xget X 336=some Ext.go:=by kernel_rfl
theorem go355:xget X 355=some Ext.go:=by kernel_rfl
theorem phf_go: ∀k,k≤8→xget X (phf k)=some Ext.go
 |0,_=>go287
 |1,_=>go308
 |2,_=>go338
 |3,_=>go356
 |4,_=>go368
 |5,_=>go275
 |6,_=>go302
 |7,_=>go336
 |8,_=>go355
def nxa(f ph:Nat):Value:= .func (.func (phf ph)) #[.pointer (some ⟨f,0,none⟩)] #[]
def ActIs(h:Heap)(f m:Nat)(A:Ac):Prop:=
 At h f [.pointer (some ⟨m,0,none⟩),.int .i64 (A.pos:Int),.int .u64 A.key,.int .u64 A.val,.int .u64 A.ver,nxa f A.ph,.bool A.done,.bool A.ok,.int .u64 A.got]
theorem ActIs.only{S:List Nat}{h h':Heap}{f m:Nat}{A:Ac}(H:ActIs h f m A)(O:Only S h h')(ht:f∉S):ActIs h' f m A:=At.only H O ht
def stepA(cs:List Int)(A:Ac):Ac×List Int:=
 if A.done then(A,cs)else
 match A.ph with
 |0=>({A with ver:=cs.getD A.pos 0,ph:=1,done:=bitsI .and .u64 (cs.getD A.pos 0) 1 !=0},cs)
 |1=>if cs.getD A.pos 0=A.ver then({A with ph:=2,done:=false},cs.set A.pos (bitsI .or .u64 A.ver 1))else({A with ph:=2,done:=true},cs)
 |2=>({A with ph:=3},cs.set (A.pos+1) A.key)
 |3=>({A with ph:=4},cs.set (A.pos+2) A.val)
 |4=>({A with done:=true},cs.set A.pos (IntKind.wrap .u64 (bitsI .or .u64 A.ver 2+4)))
 |5=>({A with ver:=cs.getD A.pos 0,ph:=6,done:=bitsI .and .u64 (cs.getD A.pos 0) 3 !=2},cs)
 |6=>({A with ph:=7,done:=cs.getD (A.pos+1) 0 !=A.key},cs)
 |7=>({A with ph:=8,got:=cs.getD (A.pos+2) 0},cs)
 |_=>({A with ok:=cs.getD A.pos 0==A.ver,done:=true},cs)
theorem stepA_len{cs:List Int}{A:Ac}:(stepA cs A).2.length=cs.length:=by
 unfold stepA
 repeat' split
 all_goals simp
section
variable {h:Heap}{f c m mc base n:Nat}{cs:List Int}{ops fails:Int}{A:Ac}{K:Value→Heap→Prop}
theorem stepA_spec(H:ActIs h f m A)(M:MemIs h m mc cs ops fails)(hp:A.pos+2<cs.length)(hc:cs.length<1000000000)(hph:A.ph≤8)(d2:f≠m)(d3:f≠mc)
  (hK: ∀h' ops' fails',ActIs h' f m (stepA cs A).1→MemIs h' m mc (stepA cs A).2 ops' fails'→Only [f,m,mc] h h'→K (.bool (stepA cs A).1.done) h'):
  Cl 229 [.pointer (some ⟨f,0,none⟩)] h K:=by
 apply F229.spec
 simp only[add_mk,Nat.zero_add]
 refine ldB_of (n:=A.done) (by rw[At.rd H];rfl) ?_
 have hend: ∀h' ops' fails',ActIs h' f m (stepA cs A).1→MemIs h' m mc (stepA cs A).2 ops' fails'→Only [f,m,mc] h h'→F229.wk3 ⟨f,0,none⟩ h' K:=by
  intro h' ops' fails' a1 a2 a3
  unfold F229.wk3
  simp only[add_mk,Nat.zero_add]
  exact ldB_of (by rw[At.rd a1];rfl) (hK h' ops' fails' a1 a2 a3)
 cases hd:A.done with
 |true=>
  rw[Bool.not_true,bcase_false]
  have e:stepA cs A=(A,cs):=by unfold stepA;rw[if_pos hd]
  rw[e]at hend
  exact hend h ops fails H M (Only.refl _ _)
 |false=>
  rw[Bool.not_false,bcase_true]
  have hs: ∀b∈[m,mc],b∈[f,m,mc]:=by simp+contextual
  have hS: ∀b∈[f],b∈[f,m,mc]:=by simp
  have d2':=d2.symm
  have d3':=d3.symm
  have w1:IntKind.wrap .i64 ((A.pos:Int)+1)=((A.pos+1:Nat):Int):=by rw[wrap_i64 (by omega) (by omega)];simp
  have w2:IntKind.wrap .i64 ((A.pos:Int)+2)=((A.pos+2:Nat):Int):=by rw[wrap_i64 (by omega) (by omega)];simp
  unfold stepA at hend
  rw[if_neg (by simp[hd])]at hend
  have hx:=phf_go A.ph hph
  refine⟨_,by rw[At.rd H];rfl,dynK_go hx ?_⟩
  clear hx
  obtain⟨key,val,pos,ver,ph,done,ok,got⟩:=A
  dsimp only at*
  subst hd
  match ph,hph,H,hend with
  |0,_,H,hend=>
   refine F287.spec _ _ _ ?_
   simp only[add_mk,Nat.zero_add,Nat.add_zero]
   refine ldP_of (by rw[At.rd H];rfl) (ldI_of (n:=(pos:Int)) (by rw[At.rd H];rfl) (load_in M (by omega) (by omega) fun h1 M1 O1=>ldI_of rfl ⟨trivial,?_⟩))
   have H1:=H.only O1 (by simp[d2,d3])
   rw[Int.toNat_natCast]
   refine stK_at H1 (by simp) rfl fun h2 A2 O2 _=>stK_at A2 (by simp) rfl fun h3 A3 O3 _=>ldI_of (n:=cs.getD pos 0) (by rw[A3.rd];rfl) (stK_at A3 (by simp) rfl fun h4 A4 O4 _=>⟨by trivial,?_⟩)
   have O24:=(O2.trans O3 (by simp)).trans O4 (by simp)
   exact hend h4 _ _ A4 (M1.only O24 (by simp[d2']) (by simp[d3'])) ((O1.mono fun b hb _=>hs b hb).trans O24 fun b hb _=>hS b hb)
  |1,_,H,hend=>
   refine F308.spec _ _ _ ?_
   simp only[add_mk,Nat.zero_add,Nat.add_zero]
   refine stK_at H (by simp) rfl fun h1 A1 O1 _=> ?_
   have M1:=M.only O1 (by simp[d2']) (by simp[d3'])
   refine ldP_of (by rw[A1.rd];rfl) (ldI_of (n:=(pos:Int)) (by rw[A1.rd];rfl) (ldI_of (n:=ver) (by rw[A1.rd];rfl) (ldI_of (n:=ver) (by rw[A1.rd];rfl) ?_)))
   refine cas_in M1 (by omega) (by omega) (fun e h2 M2 O2=>ldB_of rfl ⟨trivial,?_⟩) fun e h2 M2 O2=>ldB_of rfl ⟨trivial,?_⟩
   all_goals rw[Int.toNat_natCast]at e
   ·rw[Int.toNat_natCast]at M2
    refine stK_at (A1.only O2 (by simp[d2,d3])) (by simp) rfl fun h3 A3 O3 _=>⟨by trivial,?_⟩
    rw[if_pos e]at hend
    exact hend h3 _ _ A3 (M2.only O3 (by simp[d2']) (by simp[d3'])) (((O1.mono fun b hb _=>hS b hb).trans O2 fun b hb _=>hs b hb).trans O3 fun b hb _=>hS b hb)
   ·refine stK_at (A1.only O2 (by simp[d2,d3])) (by simp) rfl fun h3 A3 O3 _=>⟨by trivial,?_⟩
    rw[if_neg e]at hend
    exact hend h3 _ _ A3 (M2.only O3 (by simp[d2']) (by simp[d3'])) (((O1.mono fun b hb _=>hS b hb).trans O2 fun b hb _=>hs b hb).trans O3 fun b hb _=>hS b hb)
  |2,_,H,hend=>
   refine F338.spec _ _ _ ?_
   simp only[add_mk,Nat.zero_add,Nat.add_zero]
   refine ldP_of (by rw[At.rd H];rfl) (ldI_of (n:=(pos:Int)) (by rw[At.rd H];rfl) (ldI_of (n:=key) (by rw[At.rd H];rfl) ?_))
   rw[w1]
   refine store_in M (by omega) (by omega) fun h1 M1 O1=>⟨rfl,stK_at (H.only O1 (by simp[d2,d3])) (by simp) rfl fun h2 A2 O2 _=>⟨by trivial,?_⟩⟩
   rw[Int.toNat_natCast]at M1
   exact hend h2 _ _ A2 (M1.only O2 (by simp[d2']) (by simp[d3'])) ((O1.mono fun b hb _=>hs b hb).trans O2 fun b hb _=>hS b hb)
  |3,_,H,hend=>
   refine F356.spec _ _ _ ?_
   simp only[add_mk,Nat.zero_add,Nat.add_zero]
   refine ldP_of (by rw[At.rd H];rfl) (ldI_of (n:=(pos:Int)) (by rw[At.rd H];rfl) (ldI_of (n:=val) (by rw[At.rd H];rfl) ?_))
   rw[w2]
   refine store_in M (by omega) (by omega) fun h1 M1 O1=>⟨rfl,stK_at (H.only O1 (by simp[d2,d3])) (by simp) rfl fun h2 A2 O2 _=>⟨by trivial,?_⟩⟩
   rw[Int.toNat_natCast]at M1
   exact hend h2 _ _ A2 (M1.only O2 (by simp[d2']) (by simp[d3'])) ((O1.mono fun b hb _=>hs b hb).trans O2 fun b hb _=>hS b hb)
  |4,_,H,hend=>
   refine F368.spec _ _ _ ?_
   simp only[add_mk,Nat.zero_add,Nat.add_zero]
   refine ldP_of (by rw[At.rd H];rfl) (ldI_of (n:=(pos:Int)) (by rw[At.rd H];rfl) (ldI_of (n:=ver) (by rw[At.rd H];rfl) ?_))
   refine store_in M (by omega) (by omega) fun h1 M1 O1=>⟨rfl,stK_at (H.only O1 (by simp[d2,d3])) (by simp) rfl fun h2 A2 O2 _=>⟨by trivial,?_⟩⟩
   rw[Int.toNat_natCast]at M1
   exact hend h2 _ _ A2 (M1.only O2 (by simp[d2']) (by simp[d3'])) ((O1.mono fun b hb _=>hs b hb).trans O2 fun b hb _=>hS b hb)
  |5,_,H,hend=>
   refine F275.spec _ _ _ ?_
   simp only[add_mk,Nat.zero_add,Nat.add_zero]
   refine ldP_of (by rw[At.rd H];rfl) (ldI_of (n:=(pos:Int)) (by rw[At.rd H];rfl) (load_in M (by omega) (by omega) fun h1 M1 O1=>ldI_of rfl ⟨trivial,?_⟩))
   have H1:=H.only O1 (by simp[d2,d3])
   rw[Int.toNat_natCast]
   refine stK_at H1 (by simp) rfl fun h2 A2 O2 _=>stK_at A2 (by simp) rfl fun h3 A3 O3 _=>ldI_of (n:=cs.getD pos 0) (by rw[A3.rd];rfl) (stK_at A3 (by simp) rfl fun h4 A4 O4 _=>⟨by trivial,?_⟩)
   have O24:=(O2.trans O3 (by simp)).trans O4 (by simp)
   exact hend h4 _ _ A4 (M1.only O24 (by simp[d2']) (by simp[d3'])) ((O1.mono fun b hb _=>hs b hb).trans O24 fun b hb _=>hS b hb)
  |6,_,H,hend=>
   refine F302.spec _ _ _ ?_
   simp only[add_mk,Nat.zero_add,Nat.add_zero]
   refine ldP_of (by rw[At.rd H];rfl) (ldI_of (n:=(pos:Int)) (by rw[At.rd H];rfl) (ldI_of (n:=key) (by rw[At.rd H];rfl) ?_))
   rw[w1]
   refine load_in M (by omega) (by omega) fun h1 M1 O1=>ldI_of rfl ⟨trivial,trivial,trivial,trivial,?_⟩
   have H1:=H.only O1 (by simp[d2,d3])
   rw[Int.toNat_natCast]
   refine ldI_of (n:=key) (by rw[At.rd H1];rfl) ⟨rfl,stK_at H1 (by simp) rfl fun h2 A2 O2 _=>stK_at A2 (by simp) rfl fun h3 A3 O3 _=>⟨by trivial,?_⟩⟩
   have O24:=O2.trans O3 (by simp)
   exact hend h3 _ _ A3 (M1.only O24 (by simp[d2']) (by simp[d3'])) ((O1.mono fun b hb _=>hs b hb).trans O24 fun b hb _=>hS b hb)
  |7,_,H,hend=>
   refine F336.spec _ _ _ ?_
   simp only[add_mk,Nat.zero_add,Nat.add_zero]
   refine ldP_of (by rw[At.rd H];rfl) (ldI_of (n:=(pos:Int)) (by rw[At.rd H];rfl) ?_)
   rw[w2]
   refine load_in M (by omega) (by omega) fun h1 M1 O1=>ldI_of rfl ⟨trivial,?_⟩
   have H1:=H.only O1 (by simp[d2,d3])
   rw[Int.toNat_natCast]
   refine stK_at H1 (by simp) rfl fun h2 A2 O2 _=>stK_at A2 (by simp) rfl fun h3 A3 O3 _=>⟨by trivial,?_⟩
   have O24:=O2.trans O3 (by simp)
   exact hend h3 _ _ A3 (M1.only O24 (by simp[d2']) (by simp[d3'])) ((O1.mono fun b hb _=>hs b hb).trans O24 fun b hb _=>hS b hb)
  |8,_,H,hend=>
   refine F355.spec _ _ _ ?_
   simp only[add_mk,Nat.zero_add,Nat.add_zero]
   refine ldP_of (by rw[At.rd H];rfl) (ldI_of (n:=(pos:Int)) (by rw[At.rd H];rfl) (ldI_of (n:=ver) (by rw[At.rd H];rfl) ?_))
   refine load_in M (by omega) (by omega) fun h1 M1 O1=>ldI_of rfl ⟨trivial,trivial,trivial,trivial,?_⟩
   have H1:=H.only O1 (by simp[d2,d3])
   rw[Int.toNat_natCast]
   refine ldI_of (n:=ver) (by rw[At.rd H1];rfl) ⟨rfl,stK_at H1 (by simp) rfl fun h2 A2 O2 _=>stK_at A2 (by simp) rfl fun h3 A3 O3 _=>⟨by trivial,?_⟩⟩
   have O24:=O2.trans O3 (by simp)
   exact hend h3 _ _ A3 (M1.only O24 (by simp[d2']) (by simp[d3'])) ((O1.mono fun b hb _=>hs b hb).trans O24 fun b hb _=>hS b hb)
def lineOf(base n:Nat)(key:Int):Nat:=base+3*home key n
theorem line_spec{key:Int}(C:CacIs h c m base n)(hn:1≤n)(hn2:n<10000)(hb:base<1000000)(hK:K (.int .i64 (lineOf base n key:Int)) h):Cl 274 [.pointer (some ⟨c,0,none⟩),.int .u64 key] h K:=by
 apply F274.spec
 simp only[add_mk,Nat.zero_add]
 have hl:=home_lt key hn
 have r1:rd h ⟨c,1,none⟩=some (.int .i64 (base:Int)):=by rw[At.rd C];rfl
 refine ldI_of r1 (ldI_of (n:=(n:Int)) (by rw[At.rd C];rfl) (home_spec hn (by omega) (ldI_of rfl ⟨trivial,trivial,trivial,ldI_of r1 ⟨rfl,?_⟩⟩)))
 rw[show IntKind.wrap .i64 ((base:Int)+IntKind.wrap .i64 (3*(home key n:Int)))=(lineOf base n key:Int) by
  unfold lineOf
  rw[wrap_i64 (n:=3*(home key n:Int)) (by omega) (by omega),wrap_i64 (by omega) (by omega)]
  simp]
 exact hK
def getA(base n:Nat)(key:Int):Ac:=⟨key,0,lineOf base n key,0,5,false,false,0⟩
def putA(base n:Nat)(key val:Int):Ac:=⟨key,val,lineOf base n key,0,0,false,false,0⟩
theorem get_spec{key:Int}(C:CacIs h c m base n)(hn:1≤n)(hn2:n<10000)(hb:base<1000000)
  (hK: ∀f h',ActIs h' f m (getA base n key)→Only [] h h'→h.size≤f→K (.pointer (some ⟨f,0,none⟩)) h'):Cl 227 [.pointer (some ⟨c,0,none⟩),.int .u64 key] h K:=by
 apply F227.spec
 simp only[add_mk,Nat.zero_add,Nat.add_zero]
 have r0:rd h ⟨c,0,none⟩=some (.pointer (some ⟨m,0,none⟩)):=by rw[At.rd C];rfl
 refine ldP_of r0 (line_spec C hn hn2 hb (ldI_of rfl ⟨trivial,trivial,trivial,ldP_of r0 ⟨rfl,trivial,newK_at fun h1 A1 O1 z1=>stK_at A1 (by simp) rfl fun h2 A2 O2 _=> ?_⟩⟩))
 exact hK h.size h2 A2 (O1.trans O2 fun b hb hl=>absurd (show b=h.size by simpa using hb) (by omega)) (Nat.le_refl _)
theorem put_spec{key val:Int}(C:CacIs h c m base n)(hn:1≤n)(hn2:n<10000)(hb:base<1000000)
  (hK: ∀f h',ActIs h' f m (putA base n key val)→Only [] h h'→h.size≤f→K (.pointer (some ⟨f,0,none⟩)) h'):Cl 252 [.pointer (some ⟨c,0,none⟩),.int .u64 key,.int .u64 val] h K:=by
 apply F252.spec
 simp only[add_mk,Nat.zero_add,Nat.add_zero]
 have r0:rd h ⟨c,0,none⟩=some (.pointer (some ⟨m,0,none⟩)):=by rw[At.rd C];rfl
 refine ldP_of r0 (line_spec C hn hn2 hb (ldI_of rfl ⟨trivial,trivial,trivial,ldP_of r0 ⟨rfl,trivial,trivial,newK_at fun h1 A1 O1 z1=>stK_at A1 (by simp) rfl fun h2 A2 O2 _=> ?_⟩⟩))
 exact hK h.size h2 A2 (O1.trans O2 fun b hb hl=>absurd (show b=h.size by simpa using hb) (by omega)) (Nat.le_refl _)
def gotV(A:Ac):Int:=if A.done&&A.ok then A.got else 0
def gotB(A:Ac):Bool:=A.done&&A.ok
theorem got_spec(H:ActIs h f m A)(hK:K (.tuple #[.int .u64 (gotV A),.bool (gotB A)]) h):Cl 230 [.pointer (some ⟨f,0,none⟩)] h K:=by
 apply F230.spec
 simp only[add_mk,Nat.zero_add]
 unfold gotV gotB at hK
 refine ldB_of (n:=A.done) (by rw[At.rd H];rfl) (bcase_of (fun e=> ?_) fun e=>ldB_of (n:=A.ok) (by rw[At.rd H];rfl) (bcase_of (fun e'=> ?_) fun e'=>ldI_of (n:=A.got) (by rw[At.rd H];rfl) ?_))
 ·have e:A.done=false:=by simpa using e
  simpa[e]using hK
 ·have e:A.done=true:=by simpa using e
  have e':A.ok=false:=by simpa using e'
  simpa[e,e']using hK
 ·have e:A.done=true:=by simpa using e
  have e':A.ok=true:=by simpa using e'
  simpa[e,e']using hK
theorem cells_spec{k:Int}(h0:1≤k)(h1:k<1000000)(hK:K (.int .i64 (3*k)) h):Cl 110 [.int .i64 k] h K:=by
 apply F110.spec
 rw[decide_eq_false (by omega),bcase_false,wrap_i64 (by omega) (by omega)]
 exact hK
theorem cacnew_spec(M:MemIs h m mc cs ops fails)(hn:1≤n)(hn2:n≤1024)(hb:base+3*n≤cs.length)(hc:cs.length<1000000)
  (hK: ∀c h',CacIs h' c m base n→Only [] h h'→h.size≤c→K (.tuple #[.pointer (some ⟨c,0,none⟩),.int .i64 0]) h'):
  Cl 109 [.pointer (some ⟨m,0,none⟩),.int .i64 (base:Int),.int .i64 (n:Int)] h K:=by
 apply F109.spec
 rw[decide_eq_false (by omega),bcase_false,decide_eq_false (by omega),bcase_false,decide_eq_false (by omega),bcase_false]
 refine len_spec M (ldI_of rfl ?_)
 rw[decide_eq_false (by omega),bcase_false]
 refine cells_spec (by omega) (by omega) (ldI_of rfl (len_spec M (ldI_of rfl ?_)))
 rw[wrap_i64 (by omega) (by omega),decide_eq_false (by omega),bcase_false]
 exact newK_at fun h1 A1 O1 z1=>hK h.size h1 A1 O1 (Nat.le_refl _)
end
end
section
theorem bv64{x:Int}(h0:0≤x)(h1:x<18446744073709551616):(BitVec.ofInt 64 x).toNat=x.toNat:=by
 rw[BitVec.toNat_ofInt]
 congr 1
 omega
theorem and_one{x:Int}(h0:0≤x)(h1:x<18446744073709551616):bitsI .and .u64 x 1=x%2:=by
 show IntKind.wrap .u64 (((BitVec.ofInt 64 x&&&BitVec.ofInt 64 1).toNat:Nat):Int)=_
 rw[BitVec.toNat_and,bv64 h0 h1,show(BitVec.ofInt 64 1).toNat=1 from rfl,Nat.and_one_is_mod,wrap_u64 (by omega) (by omega)]
 omega
theorem and_three{x:Int}(h0:0≤x)(h1:x<18446744073709551616):bitsI .and .u64 x 3=x%4:=by
 show IntKind.wrap .u64 (((BitVec.ofInt 64 x&&&BitVec.ofInt 64 3).toNat:Nat):Int)=_
 rw[BitVec.toNat_and,bv64 h0 h1,show(BitVec.ofInt 64 3).toNat=2^2-1 from rfl,Nat.and_two_pow_sub_one_eq_mod,wrap_u64 (by omega) (by omega)]
 omega
theorem nat_or_two(n:Nat):n|||2=4*(n/4)+2+n%2:=by
 apply Nat.eq_of_testBit_eq
 intro i
 match i with
 |0=>
  rw[Nat.testBit_or]
  simp[Nat.testBit_zero]
  omega
 |1=>
  rw[Nat.testBit_or,Nat.testBit_succ,Nat.testBit_succ,Nat.testBit_succ,Nat.testBit_zero,Nat.testBit_zero,Nat.testBit_zero]
  simp
  omega
 |i+2=>
  rw[Nat.testBit_or,Nat.testBit_succ,Nat.testBit_succ,Nat.testBit_succ,Nat.testBit_succ,Nat.testBit_succ,Nat.testBit_succ]
  rw[show 2/2/2=0 by omega,show(4*(n/4)+2+n%2)/2/2=n/2/2 by omega]
  simp
theorem or_two{x:Int}(h0:0≤x)(h1:x<18446744073709551616):bitsI .or .u64 x 2=4*(x/4)+2+x%2:=by
 show IntKind.wrap .u64 (((BitVec.ofInt 64 x|||BitVec.ofInt 64 2).toNat:Nat):Int)=_
 rw[BitVec.toNat_or,bv64 h0 h1,show(BitVec.ofInt 64 2).toNat=2 from rfl,nat_or_two,wrap_u64 (by omega) (by omega)]
 omega
theorem nat_andnot_two{n:Nat}(h:n<18446744073709551616):n&&&18446744073709551613=4*(n/4)+n%2:=by
 apply Nat.eq_of_testBit_eq
 intro i
 match i with
 |0=>
  rw[Nat.testBit_and]
  simp[Nat.testBit_zero]
  omega
 |1=>
  rw[Nat.testBit_and,Nat.testBit_succ,Nat.testBit_succ,Nat.testBit_succ,Nat.testBit_zero,Nat.testBit_zero,Nat.testBit_zero]
  simp
  omega
 |i+2=>
  rw[Nat.testBit_and,Nat.testBit_succ,Nat.testBit_succ,Nat.testBit_succ,Nat.testBit_succ,Nat.testBit_succ,Nat.testBit_succ]
  rw[show 18446744073709551613/2/2=2^62-1 by decide,Nat.testBit_two_pow_sub_one,show(4*(n/4)+n%2)/2/2=n/2/2 by omega]
  by_cases hi:i<62
  ·simp[hi]
  ·have:n/2/2<2^i:=Nat.lt_of_lt_of_le (show n/2/2<2^62 by omega) (Nat.pow_le_pow_right (by omega) (by omega))
   rw[Nat.testBit_lt_two_pow this]
   simp
theorem andnot_two{x:Int}(h0:0≤x)(h1:x<18446744073709551616):bitsI .andNot .u64 x 2=4*(x/4)+x%2:=by
 show IntKind.wrap .u64 (((BitVec.ofInt 64 x&&& ~~~ BitVec.ofInt 64 2).toNat:Nat):Int)=_
 rw[BitVec.toNat_and,bv64 h0 h1,show(~~~ BitVec.ofInt 64 2).toNat=18446744073709551613 from rfl,nat_andnot_two (by omega),wrap_u64 (by omega) (by omega)]
 omega
def PutRel(pos:Nat)(key val:Int)(cs cs':List Int):Prop:=
 cs'.length=cs.length∧(∀x,x≠pos→x≠pos+1→x≠pos+2→cs'.getD x 0=cs.getD x 0)∧
 ((bitsI .and .u64 (cs.getD pos 0) 1=0∧cs'.getD pos 0=IntKind.wrap .u64 (bitsI .or .u64 (cs.getD pos 0) 2+4)∧cs'.getD (pos+1) 0=key∧cs'.getD (pos+2) 0=val)∨
  (bitsI .and .u64 (cs.getD pos 0) 1≠0∧cs'=cs))
def GetRel(pos:Nat)(key:Int)(cs:List Int)(v:Int)(ok:Bool):Prop:=
 (ok=true∧bitsI .and .u64 (cs.getD pos 0) 3=2∧cs.getD (pos+1) 0=key∧v=cs.getD (pos+2) 0)∨(ok=false∧v=0∧ ¬(bitsI .and .u64 (cs.getD pos 0) 3=2∧cs.getD (pos+1) 0=key))
def GInv(cs:List Int)(A:Ac):Prop:=
 A.done=false∧A.ok=false∧(A.ph=5∨(A.ph=6∧A.ver=cs.getD A.pos 0∧bitsI .and .u64 (cs.getD A.pos 0) 3=2)∨(A.ph=7∧A.ver=cs.getD A.pos 0∧bitsI .and .u64 (cs.getD A.pos 0) 3=2∧cs.getD (A.pos+1) 0=A.key)∨
  (A.ph=8∧A.ver=cs.getD A.pos 0∧bitsI .and .u64 (cs.getD A.pos 0) 3=2∧cs.getD (A.pos+1) 0=A.key∧A.got=cs.getD (A.pos+2) 0))
theorem GInv.step{cs:List Int}{A:Ac}(G:GInv cs A):(stepA cs A).2=cs∧(stepA cs A).1.pos=A.pos∧(stepA cs A).1.key=A.key∧
  (((stepA cs A).1.done=true∧GetRel A.pos A.key cs (gotV (stepA cs A).1) (gotB (stepA cs A).1))∨(GInv cs (stepA cs A).1∧(stepA cs A).1.ph=A.ph+1)):=by
 obtain⟨key,val,pos,ver,ph,done,ok,got⟩:=A
 obtain⟨hd,ho,G⟩:=G
 dsimp only at hd ho G
 subst hd ho
 rcases G with rfl|⟨rfl,hv,h3⟩|⟨rfl,hv,h3,hk⟩|⟨rfl,hv,h3,hk,hg⟩
 ·by_cases h:bitsI .and .u64 (cs.getD pos 0) 3=2
  ·have e:(bitsI .and .u64 (cs.getD pos 0) 3 !=2)=false:=by simpa using h
   refine⟨rfl,rfl,rfl,Or.inr ⟨⟨?_,rfl,Or.inr (Or.inl ⟨rfl,rfl,h⟩)⟩,rfl⟩⟩
   simpa[stepA]using h
  ·have e:(bitsI .and .u64 (cs.getD pos 0) 3 !=2)=true:=by simpa using h
   refine⟨rfl,rfl,rfl,Or.inl ⟨?_,Or.inr ⟨?_,?_,fun h'=>h h'.1⟩⟩⟩
   ·simpa[stepA]using h
   ·simp[gotB,stepA]
   ·simp[gotV,stepA]
 ·by_cases h:cs.getD (pos+1) 0=key
  ·refine⟨rfl,rfl,rfl,Or.inr ⟨⟨?_,rfl,Or.inr (Or.inr (Or.inl ⟨rfl,hv,h3,h⟩))⟩,rfl⟩⟩
   simpa[stepA]using h
  ·refine⟨rfl,rfl,rfl,Or.inl ⟨?_,Or.inr ⟨?_,?_,fun h'=>h h'.2⟩⟩⟩
   ·simpa[stepA]using h
   ·simp[gotB,stepA]
   ·simp[gotV,stepA]
 ·exact⟨rfl,rfl,rfl,Or.inr ⟨⟨rfl,rfl,Or.inr (Or.inr (Or.inr ⟨rfl,hv,h3,hk,rfl⟩))⟩,rfl⟩⟩
 ·refine⟨rfl,rfl,rfl,Or.inl ⟨rfl,Or.inl ⟨?_,h3,hk,?_⟩⟩⟩
  ·simp[gotB,stepA,hv]
  ·simp only[gotV,stepA,hv,hg]
   simp
def PInvA(cs0 cs:List Int)(A:Ac):Prop:=
 A.done=false∧A.ok=false∧((A.ph=0∧cs=cs0)∨(bitsI .and .u64 (cs0.getD A.pos 0) 1=0∧A.ver=cs0.getD A.pos 0∧
  ((A.ph=1∧cs=cs0)∨(A.ph=2∧cs=cs0.set A.pos (bitsI .or .u64 A.ver 1))∨(A.ph=3∧cs=(cs0.set A.pos (bitsI .or .u64 A.ver 1)).set (A.pos+1) A.key)∨
   (A.ph=4∧cs=((cs0.set A.pos (bitsI .or .u64 A.ver 1)).set (A.pos+1) A.key).set (A.pos+2) A.val))))
theorem getD_set{l:List Int}{i j:Nat}{v:Int}(hi:i<l.length):(l.set i v).getD j 0=if i=j then v else l.getD j 0:=by
 by_cases h:i=j
 ·subst h;simp[hi]
 ·simp[List.getD,h]
theorem PInvA.step{cs0 cs:List Int}{A:Ac}(hp:A.pos+2<cs0.length)(G:PInvA cs0 cs A):(stepA cs A).1.pos=A.pos∧(stepA cs A).1.key=A.key∧(stepA cs A).1.val=A.val∧
  (((stepA cs A).1.done=true∧(stepA cs A).1.ok=false∧PutRel A.pos A.key A.val cs0 (stepA cs A).2)∨(PInvA cs0 (stepA cs A).2 (stepA cs A).1∧(stepA cs A).1.ph=A.ph+1)):=by
 obtain⟨key,val,pos,ver,ph,done,ok,got⟩:=A
 obtain⟨hd,ho,G⟩:=G
 dsimp only at hd ho G hp
 subst hd ho
 rcases G with⟨rfl,rfl⟩|⟨h1,rfl,⟨rfl,rfl⟩|⟨rfl,rfl⟩|⟨rfl,rfl⟩|⟨rfl,rfl⟩⟩
 ·by_cases h:bitsI .and .u64 (cs.getD pos 0) 1=0
  ·refine⟨rfl,rfl,rfl,Or.inr ⟨⟨?_,rfl,Or.inr ⟨h,rfl,Or.inl ⟨rfl,rfl⟩⟩⟩,rfl⟩⟩
   simpa[stepA]using h
  ·refine⟨rfl,rfl,rfl,Or.inl ⟨?_,rfl,rfl,fun _ _ _ _=>rfl,Or.inr ⟨h,rfl⟩⟩⟩
   simpa[stepA]using h
 ·refine⟨?_,?_,?_,Or.inr ⟨⟨?_,?_,Or.inr ⟨?_,?_,Or.inr (Or.inl ⟨?_,?_⟩)⟩⟩,?_⟩⟩<;>simp[stepA]
  exact h1
 ·exact⟨rfl,rfl,rfl,Or.inr ⟨⟨rfl,rfl,Or.inr ⟨h1,rfl,Or.inr (Or.inr (Or.inl ⟨rfl,rfl⟩))⟩⟩,rfl⟩⟩
 ·exact⟨rfl,rfl,rfl,Or.inr ⟨⟨rfl,rfl,Or.inr ⟨h1,rfl,Or.inr (Or.inr (Or.inr ⟨rfl,rfl⟩))⟩⟩,rfl⟩⟩
 ·refine⟨rfl,rfl,rfl,Or.inl ⟨rfl,rfl,by simp[stepA],fun x n1 n2 n3=> ?_,Or.inl ⟨h1,?_,?_,?_⟩⟩⟩
  ·simp only[stepA,Bool.false_eq_true,if_false]
   rw[getD_set (by simp;omega),if_neg (Ne.symm n1),getD_set (by simp;omega),if_neg (Ne.symm n3),getD_set (by simp;omega),if_neg (Ne.symm n2),getD_set (by omega),if_neg (Ne.symm n1)]
  ·simp only[stepA,Bool.false_eq_true,if_false]
   rw[getD_set (by simp;omega),if_pos rfl]
  ·simp only[stepA,Bool.false_eq_true,if_false]
   rw[getD_set (by simp;omega),if_neg (by omega),getD_set (by simp;omega),if_neg (by omega),getD_set (by simp;omega),if_pos rfl]
  ·simp only[stepA,Bool.false_eq_true,if_false]
   rw[getD_set (by simp;omega),if_neg (by omega),getD_set (by simp;omega),if_pos rfl]
structure CW(h:Heap)(c m mc base n:Nat)(cs:List Int)(ops fails:Int):Prop where
 cac:CacIs h c m base n
 mem:MemIs h m mc cs ops fails
 d4:c≠m
 d5:c≠mc
 hn:1≤n
 hn2:n≤1024
 hc:base+3*n≤cs.length
 hl:cs.length<1000000
theorem CW.only{h h':Heap}{c m mc base n:Nat}{cs:List Int}{ops fails:Int}{S:List Nat}(W:CW h c m mc base n cs ops fails)(O:Only S h h')(h1:c∉S)(h2:m∉S)(h3:mc∉S):CW h' c m mc base n cs ops fails:=
 ⟨W.cac.only O h1,W.mem.only O h2 h3,W.d4,W.d5,W.hn,W.hn2,W.hc,W.hl⟩
theorem CW.pos{h:Heap}{c m mc base n:Nat}{cs:List Int}{ops fails:Int}(W:CW h c m mc base n cs ops fails)(key:Int):lineOf base n key+2<cs.length:=by
 have:=home_lt key W.hn
 have:=W.hc
 unfold lineOf
 omega
theorem CW.lt{h:Heap}{c m mc base n:Nat}{cs:List Int}{ops fails:Int}(W:CW h c m mc base n cs ops fails):c<h.size∧m<h.size∧mc<h.size:=⟨At.lt W.cac,W.mem.head.lt,W.mem.body.lt⟩
section
variable {h0 h:Heap}{f c m mc base n:Nat}{cs:List Int}{ops fails:Int}{K:Value→Heap→Prop}{key val:Int}
theorem stepA_cw{A:Ac}(W:CW h c m mc base n cs ops fails)(H:ActIs h f m A)(hp:A.pos+2<cs.length)(hph:A.ph≤8)(d1:f≠c)(d2:f≠m)(d3:f≠mc)
  (hK: ∀h' ops' fails',ActIs h' f m (stepA cs A).1→CW h' c m mc base n (stepA cs A).2 ops' fails'→Only [f,m,mc] h h'→K (.bool (stepA cs A).1.done) h'):
  Cl 229 [.pointer (some ⟨f,0,none⟩)] h K:=
 stepA_spec H W.mem hp (Nat.lt_trans W.hl (by decide)) hph d2 d3 fun h' ops' fails' a b O=>
  hK h' ops' fails' a ⟨W.cac.only O (by simp[d1.symm,W.d4,W.d5]),b,W.d4,W.d5,W.hn,W.hn2,by rw[stepA_len];exact W.hc,by rw[stepA_len];exact W.hl⟩ O
end
end
section
def Win(h:Heap)(lo:Nat)(p:Option Addr)(l c:Nat)(cs:List Value):Prop:=
 cs.length=l∧((p=none∧l=0∧c=0)∨ ∃b o,p=some ⟨b,o,none⟩∧lo≤b∧b<h.size∧((l=0∧c=0)∨ ∃pre sp:List Value,pre.length=o∧l≤c∧sp.length=c-l∧At h b (pre++cs++sp)))
theorem Win.nil(h:Heap)(lo:Nat):Win h lo none 0 0 []:=⟨rfl,Or.inl ⟨rfl,rfl,rfl⟩⟩
theorem Win.only{S:List Nat}{h h':Heap}{lo:Nat}{p:Option Addr}{l c:Nat}{cs:List Value}(H:Win h lo p l c cs)(O:Only S h h')(hS: ∀b∈OwnB p,b∉S):Win h' lo p l c cs:=by
 obtain⟨e,H⟩:=H
 rcases H with H|⟨b,o,h1,h2,h3,H⟩
 ·exact⟨e,Or.inl H⟩
 ·refine⟨e,Or.inr ⟨b,o,h1,h2,Nat.lt_of_lt_of_le h3 O.size,?_⟩⟩
  rcases H with H|⟨pre,sp,h4,h5,h6,h7⟩
  ·exact Or.inl H
  ·exact Or.inr ⟨pre,sp,h4,h5,h6,h7.only O (hS b (by rw[h1];simp[OwnB]))⟩
theorem Win.lt{h:Heap}{lo:Nat}{p:Option Addr}{l c:Nat}{cs:List Value}(H:Win h lo p l c cs): ∀b∈OwnB p,lo≤b∧b<h.size:=by
 obtain⟨-,H⟩:=H
 rcases H with⟨e,-⟩|⟨b,o,h1,h2,h3,-⟩
 ·subst e;simp[OwnB]
 ·subst h1
  intro x hx
  simp[OwnB]at hx
  subst hx
  exact⟨h2,h3⟩
theorem Win.rd{h:Heap}{lo:Nat}{p:Option Addr}{l c:Nat}{cs:List Value}(H:Win h lo p l c cs){j:Nat}(hj:j<cs.length): ∃a,p=some a∧rd h (a.add j)=cs[j]? :=by
 obtain⟨e,H⟩:=H
 rcases H with⟨-,h0,-⟩|⟨b,o,h1,h2,h3,⟨h0,-⟩|⟨pre,sp,h4,h5,h6,h7⟩⟩
 ·omega
 ·omega
 ·refine⟨_,h1,?_⟩
  rw[add_mk,h7.rd,List.getElem?_append_left (by simp;omega),List.getElem?_append_right (by omega)]
  congr 1
  omega
theorem Win.cap{h:Heap}{lo:Nat}{p:Option Addr}{l c:Nat}{cs:List Value}(H:Win h lo p l c cs):l≤c:=by
 obtain⟨e,H⟩:=H
 rcases H with⟨-,h0,h1⟩|⟨b,o,h1,h2,h3,⟨h0,h4⟩|⟨pre,sp,h4,h5,h6,h7⟩⟩
 ·omega
 ·omega
 ·exact h5
theorem Win.pop{h:Heap}{lo:Nat}{p:Option Addr}{l c:Nat}{cs:List Value}{v:Value}(H:Win h lo p (l+1) c (cs++[v])):Win h lo (if c=0 then p else Option.map (fun a=>Addr.add a (0*1)) p) l c cs:=by
 have ep:(if c=0 then p else Option.map (fun a=>Addr.add a (0*1)) p)=p:=by
  split
  ·rfl
  ·cases p with
   |none=>rfl
   |some a=>simp[Addr.add]
 rw[ep]
 obtain⟨e,H⟩:=H
 rw[List.length_append,List.length_singleton]at e
 refine⟨by omega,?_⟩
 rcases H with⟨-,h0,-⟩|⟨b,o,h1,h2,h3,⟨h0,-⟩|⟨pre,sp,h4,h5,h6,h7⟩⟩
 ·omega
 ·omega
 ·exact Or.inr ⟨b,o,h1,h2,h3,Or.inr ⟨pre,v::sp,h4,by omega,by simp;omega,by simpa using h7⟩⟩
theorem win_app{h:Heap}{lo by_:Nat}{z:Value}{p:Option Addr}{l c bx:Nat}{cs:List Value}{v:Value}{e:TypeId}{K:Option Addr→Nat→Nat→Heap→Prop}
  (H:Win h lo p l c cs) (A:At h bx [v]) (hcap:(l+1)*by_≤140737488355328) (hv:v.oneCell'=true) (hlo:lo≤h.size)
  (hK: ∀p' c' h',Win h' lo p' (l+1) c' (cs++[v])→Only (OwnB p) h h'→(∀b∈OwnB p',b∈OwnB p∨h.size≤b)→K p' (l+1) c' h'):
  appK h e 1 by_ #[z] p l c (some ⟨bx,0,none⟩) 1 K:=by
 obtain⟨hlen,H⟩:=H
 refine⟨[v],rfl,isRow_at A (by simp),fun hle=> ?_,fun hlt=>⟨cs,by omega,?_,hcap,fun cap hc=> ?_⟩⟩
 ·rcases H with⟨-,h0,h1⟩|⟨b,o,h1,h2,h3,⟨h0,h4⟩|⟨pre,sp,h4,h5,h6,h7⟩⟩
  ·omega
  ·omega
  ·subst h1
   show stL ((⟨b,o,none⟩:Addr).add (l*1)) 0 [v] h _
   rw[add_mk]
   refine stL_own [v] 0 _ h h7 (by simp;omega) (by simpa using hv) fun h' A' O' z'=>hK _ _ h' ⟨by simp[hlen],Or.inr ⟨b,o,rfl,h2,by omega,Or.inr ⟨pre,sp.drop 1,h4,hle,by simp;omega,?_⟩⟩⟩ O' fun x hx=>Or.inl hx
   have e1:(pre++cs++sp).take (o+l*1+0)=pre++cs:=by
    rw[show o+l*1+0=(pre++cs).length by simp;omega,List.take_left]
   have e2:(pre++cs++sp).drop (o+l*1+0+[v].length)=sp.drop 1:=by
    rw[List.drop_append,List.drop_eq_nil_of_le (by simp;omega),List.nil_append]
    congr 1
    simp
    omega
   rw[e1,e2]at A'
   simpa using A'
 ·rcases H with⟨e,h0,-⟩|⟨b,o,h1,h2,h3,⟨h0,h4⟩|⟨pre,sp,h4,h5,h6,h7⟩⟩
  ·subst e
   exact h0
  ·subst h1
   obtain rfl:cs=[]:=List.length_eq_zero_iff.1 (by omega)
   intro j x hj
   simp at hj
  ·subst h1
   exact isRow_at h7 fun j x hj=>by
    have hj':=(List.getElem?_eq_some_iff.1 hj).1
    rw[List.getElem?_append_left (by simp;omega),List.getElem?_append_right (by omega),←hj]
    congr 1
    omega
 ·refine hK _ _ _ ⟨by simp[hlen],Or.inr ⟨h.size,0,rfl,hlo,by simp,Or.inr ⟨[],(Builtin.zeroCells #[z] (cap-(l+1))).toList,rfl,hc,by rw[size_zeroCells];simp,?_⟩⟩⟩ ((Only.push_cells h _ e).mono (by simp)) fun x hx=>Or.inr ?_
  ·have:=At.push h (cs.toArray++ #[v]++Builtin.zeroCells #[z] (cap-(l+1))) e
   simpa using this
  ·simp[OwnB]at hx
   omega
end
section
def ncell:Option Nd→List Value
 |some x=> [.bool true,.int .i64 (x.1:Int),.int .u32 (x.2.1:Int),.int .u32 (x.2.2:Int)]
 |none=> [.bool false,.int .i64 0,.int .u32 0,.int .u32 0]
theorem ncell_len(o:Option Nd):(ncell o).length=4:=by cases o<;>rfl
def nrow:List (Option Nd)→List Value
 | []=> []
 |x::N=>ncell x++nrow N
theorem nrow_len: ∀N,(nrow N).length=N.length*4
 | []=>rfl
 |x::N=>by simp[nrow,ncell_len,nrow_len N];omega
theorem nrow_app: ∀N M,nrow (N++M)=nrow N++nrow M
 | [],M=>rfl
 |x::N,M=>by simp[nrow,nrow_app N M]
theorem nrow_get: ∀(N:List (Option Nd)) (i:Nat) (x:Option Nd) (k:Nat),N[i]? =some x→k<4→(nrow N)[i*4+k]? =(ncell x)[k]?
 | [],i,x,k,h,_=>by simp at h
 |y::N,0,x,k,h,hk=>by
  simp at h
  subst h
  rw[Nat.zero_mul,Nat.zero_add]
  exact List.getElem?_append_left (by rw[ncell_len];exact hk)
 |y::N,i+1,x,k,h,hk=>by
  have:=nrow_get N i x k (by simpa using h) hk
  unfold nrow
  rw[List.getElem?_append_right (by rw[ncell_len];omega),←this]
  congr 1
  rw[ncell_len]
  omega
theorem nrow_set4: ∀(N:List (Option Nd)) (i:Nat) (o:Option Nd) (a b c d:Value),i<N.length→ncell o=[a,b,c,d]→((((nrow N).set (i*4+0) a).set (i*4+1) b).set (i*4+2) c).set (i*4+3) d=nrow (N.set i o)
 | [],i,o,a,b,c,d,h,_=>by simp at h
 |y::N,0,o,a,b,c,d,h,e=>by
  simp only[nrow,List.set_cons_zero,e]
  have:=ncell_len y
  match hy:ncell y,this with
  | [p,q,r,s],_=>simp
 |y::N,i+1,o,a,b,c,d,h,e=>by
  have ih:=nrow_set4 N i o a b c d (by simpa using h) e
  simp only[nrow,List.set_cons_succ]
  rw[←ih]
  have:=ncell_len y
  rw[show(i+1)*4+0=(ncell y).length+(i*4+0) by omega,show(i+1)*4+1=(ncell y).length+(i*4+1) by omega,show(i+1)*4+2=(ncell y).length+(i*4+2) by omega,show(i+1)*4+3=(ncell y).length+(i*4+3) by omega]
  simp only[List.set_append,Nat.not_lt.2 (Nat.le_add_right _ _),if_false,Nat.add_sub_cancel_left]
def isN(N:List (Option Nd))(a:Nat):Prop:=a<2∨ ∃x,nd N (a-2)=some x
def lvl(n:Nat)(N:List (Option Nd))(a:Nat):Nat:=if a<2 then n else match nd N (a-2)with|some x=>x.1|none=>0
def low(N:List (Option Nd))(a:Nat):Nat:=if a<2 then a else match nd N (a-2)with|some x=>x.2.1|none=>0
def high(N:List (Option Nd))(a:Nat):Nat:=if a<2 then a else match nd N (a-2)with|some x=>x.2.2|none=>0
structure NOk(n:Nat)(N:List (Option Nd)):Prop where
 node: ∀i x,nd N i=some x→x.1<n∧isN N x.2.1∧isN N x.2.2∧x.2.1≠x.2.2∧x.1<lvl n N x.2.1∧x.1<lvl n N x.2.2
 once: ∀i j x,nd N i=some x→nd N j=some x→i=j
structure SB where
 ob:Nat
 tb:Nat
 m:Nat
 mc:Nat
 sb:Nat
 cac:Nat
 cm:Nat
 cmc:Nat
 p:Option Addr
 c:Nat
 fp:Option Addr
 fc:Nat
def SB.bm(B:SB)(s:Nat):List Nat:=[s,B.ob,B.cac,B.cm,B.cmc]++OwnB B.p++OwnB B.fp
def SB.bt(B:SB):List Nat:=[B.tb,B.m,B.mc,B.sb]
def frow(F:List Nat):List Value:=F.map fun(a:Nat)=>Value.int .u32 (a:Int)
def scell(room:Nat)(B:SB)(l fl:Nat)(off:Bool):List Value:=[.int .i64 (room:Int),.pointer (some ⟨B.ob,0,none⟩),.slice B.p l B.c,.slice B.fp fl B.fc,.pointer (some ⟨B.tb,0,none⟩),.map (some B.sb),.pointer (some ⟨B.cac,0,none⟩),.bool off]
def CSound(Q:Int→Int→Prop)(cs:List Int):Prop:= ∀l,l<256→0≤cs.getD (3*l) 0∧cs.getD (3*l) 0<18446744073709551616∧cs.getD (3*l) 0%2=0∧(cs.getD (3*l) 0%4=2→Q (cs.getD (3*l+1) 0) (cs.getD (3*l+2) 0))
def CacOk(h:Heap)(B:SB)(Q:Int→Int→Prop):Prop:= ∃cs ops fails,CW h B.cac B.cm B.cmc 0 256 cs ops fails∧CSound Q cs
theorem CacOk.only{S:List Nat}{h h':Heap}{B:SB}{Q:Int→Int→Prop}(H:CacOk h B Q)(O:Only S h h')(h1:B.cac∉S)(h2:B.cm∉S)(h3:B.cmc∉S):CacOk h' B Q:=by
 obtain⟨cs,o,f,a,b⟩:=H
 exact⟨cs,o,f,a.only O h1 h2 h3,b⟩
structure StM(h:Heap)(s n room:Nat)(B:SB)(f g:Nat→Nat)(N:List (Option Nd))(F:List Nat)(Q:Int→Int→Prop)(off:Bool):Prop where
 S:At h s (scell room B N.length F.length off)
 O:OrdIs h B.ob n f g
 own:Own h 0 4 B.p N.length B.c (nrow N)
 fre:Win h 0 B.fp F.length B.fc (frow F)
 cac:CacOk h B Q
 n8:1≤n∧n≤8
 len:N.length≤room∧room≤32768∧F.length≤N.length
 sep:(B.bm s).Nodup
structure TabM(h:Heap)(s:Nat)(B:SB)(N:List (Option Nd)):Prop where
 tab: ∃T cs mm ops fails,TabIs h B.tb B.m 0 T∧MemIs h B.m B.mc cs ops fails∧MapM h B.sb .i64 mm∧Laid T cs mm N∧(∃k,T=32*2^k)∧2*cntN N≤T∧T≤262144
 nd:B.bt.Nodup
 sep: ∀b∈B.bt,b∉B.bm s
theorem StM.only{h h':Heap}{s n room:Nat}{B:SB}{f g:Nat→Nat}{N:List (Option Nd)}{F:List Nat}{Q:Int→Int→Prop}{off:Bool}{L:List Nat}(H:StM h s n room B f g N F Q off)(O:Only L h h')(hL: ∀b∈L,b∉B.bm s):StM h' s n room B f g N F Q off:=by
 have d: ∀b,b∈B.bm s→b∉L:=fun b hb hl=>hL b hl hb
 exact⟨H.S.only O (d _ (by simp[SB.bm])),H.O.only O (d _ (by simp[SB.bm])),H.own.only O fun b hb=>d _ (by simp[SB.bm,hb,OwnB]),H.fre.only O fun b hb=>d _ (by simp[SB.bm,hb]),H.cac.only O (d _ (by simp[SB.bm])) (d _ (by simp[SB.bm])) (d _ (by simp[SB.bm])),H.n8,H.len,H.sep⟩
theorem TabM.only{h h':Heap}{s:Nat}{B:SB}{N:List (Option Nd)}{L:List Nat}(H:TabM h s B N)(O:Only L h h')(hL: ∀b∈L,b∉B.bt):TabM h' s B N:=by
 have d: ∀b,b∈B.bt→b∉L:=fun b hb hl=>hL b hl hb
 obtain⟨T,cs,mm,o,f',t1,t2,t3,t4⟩:=H.tab
 exact⟨⟨T,cs,mm,o,f',t1.only O (d _ (by simp[SB.bt])),t2.only O (d _ (by simp[SB.bt])) (d _ (by simp[SB.bt])),t3.only O (d _ (by simp[SB.bt])),t4⟩,H.nd,H.sep⟩
theorem StM.lt{h:Heap}{s n room:Nat}{B:SB}{f g:Nat→Nat}{N:List (Option Nd)}{F:List Nat}{Q:Int→Int→Prop}{off:Bool}(H:StM h s n room B f g N F Q off): ∀b∈B.bm s,b<h.size:=fun b hb=>by
 obtain⟨cs,o,f,c1,-⟩:=H.cac
 have:=c1.lt
 have:=H.S.lt
 have:=At.lt H.O
 simp only[SB.bm,List.mem_append,List.mem_cons,List.not_mem_nil,or_false]at hb
 rcases hb with(hb|hb)|hb
 ·omega
 ·exact(H.own.lt b hb).2
 ·exact(H.fre.lt b hb).2
theorem TabM.lt{h:Heap}{s:Nat}{B:SB}{N:List (Option Nd)}(H:TabM h s B N): ∀b∈B.bt,b<h.size:=fun b hb=>by
 obtain⟨T,cs,mm,o,f',t1,t2,t3,-⟩:=H.tab
 have:=At.lt t1
 have:=t2.head.lt
 have:=t2.body.lt
 have:=t3.lt
 simp only[SB.bt,List.mem_cons,List.not_mem_nil,or_false]at hb
 omega
section
variable {h:Heap}{s n room:Nat}{B:SB}{f g:Nat→Nat}{N:List (Option Nd)}{F:List Nat}{Q:Int→Int→Prop}{off:Bool}{K:Value→Heap→Prop}
theorem vars58(H:StM h s n room B f g N F Q off)(hK:K (.int .i64 (n:Int)) h):Cl 75 [.pointer (some ⟨s,0,none⟩)] h K:=by
 refine F75.spec _ h K ?_
 simp only[add_mk,Nat.zero_add]
 refine ldP_of (by rw[At.rd H.S];rfl) (ord_len H.O (ldI_of rfl hK))
theorem wrap_sub2{a:Nat}(h2:2≤a)(ha:a<4294967296):IntKind.wrap .u32 ((a:Int)-2)=((a-2:Nat):Int):=by
 rw[show(a:Int)-2=((a-2:Nat):Int) by omega]
 exact wrap32 (by omega)
theorem StM.cells(H:StM h s n room B f g N F Q off){i:Nat}{o:Option Nd}(hi:N[i]? =some o): ∃b,B.p=some ⟨b,0,none⟩∧ ∀k,k<4→rd h ⟨b,i*4+k,none⟩=(ncell o)[k]? :=by
 have hl:=(List.getElem?_eq_some_iff.1 hi).1
 have rr: ∀k,k<4→ ∃b,B.p=some ⟨b,0,none⟩∧rd h ⟨b,i*4+k,none⟩=(ncell o)[k]? :=fun k hk=>by
  obtain⟨b,e1,e2⟩:=H.own.rd (j:=i*4+k) (by rw[nrow_len];omega)
  exact⟨b,e1,by rw[e2,nrow_get N _ o k hi hk]⟩
 obtain⟨b,e1,e2⟩:=rr 0 (by omega)
 refine⟨b,e1,fun k hk=> ?_⟩
 obtain⟨b',e1',e2'⟩:=rr k hk
 rw[e1]at e1'
 injection e1' with e1'
 injection e1' with e1'
 subst e1'
 exact e2'
theorem at44(H:StM h s n room B f g N F Q off){a:Nat}(ha:a<4294967296)
  (h1:(∀x,2≤a→nd N (a-2)≠some x)→K (.pointer none) h)
  (h2: ∀b x,B.p=some ⟨b,0,none⟩→2≤a→nd N (a-2)=some x→(∀k,k<4→rd h ⟨b,(a-2)*4+k,none⟩=(ncell (some x))[k]?)→K (.pointer (some ⟨b,(a-2)*4,none⟩)) h):
  Cl 117 [.pointer (some ⟨s,0,none⟩),.int .u32 (a:Int)] h K:=by
 refine F117.spec _ _ h K ?_
 simp only[add_mk,Nat.zero_add]
 refine bcase_of (fun hb=> ?_) fun hb=> ?_
 ·have hb:=of_decide_eq_true hb
  exact h1 fun x h2=>by omega
 have hb:=of_decide_eq_false hb
 have rs:rd h ⟨s,2,none⟩=some (.slice B.p N.length B.c):=by rw[At.rd H.S];rfl
 refine ldS_of rs ?_
 have w1:IntKind.wrap .i64 (a:Int)=(a:Int):=wrap_i64 (by omega) (by omega)
 rw[w1,wrap_i64 (by omega) (by omega),wrap_sub2 (by omega) ha]
 refine bcase_of (fun hc=> ?_) fun hc=> ?_
 ·have hc:=of_decide_eq_true hc
  exact h1 fun x h2=>by rw[nd_out (by omega)];simp
 have hc:=of_decide_eq_false hc
 have hi:a-2<N.length:=by omega
 obtain⟨o,ho⟩: ∃o,N[a-2]? =some o:=⟨_,List.getElem?_eq_getElem hi⟩
 obtain⟨b,e1,rb⟩:=H.cells ho
 refine ldS_of rs ?_
 rw[e1,ptrK_some]
 refine⟨by omega,by omega,?_⟩
 rw[add_mk,add_mk,show 0+Int.toNat ((a-2:Nat):Int)*4+0=(a-2)*4+0 by omega,rb 0 (by omega)]
 cases o with
 |none=>
  refine ldB_of rfl ?_
  rw[Bool.not_false,bcase_true]
  exact h1 fun x _=>by rw[Ne,nd_some,ho];simp
 |some x=>
  refine ldB_of rfl ?_
  rw[Bool.not_true,bcase_false]
  refine ldS_of rs ?_
  rw[e1,ptrK_some]
  refine⟨by omega,by omega,?_⟩
  rw[add_mk,show 0+Int.toNat ((a-2:Nat):Int)*4=(a-2)*4 by omega]
  exact h2 b x e1 (by omega) (nd_some.2 ho) rb
theorem isN_lt(H:StM h s n room B f g N F Q off){a:Nat}(ha:isN N a):a<N.length+2:=by
 rcases ha with h|⟨x,h⟩
 ·omega
 ·have:=nd_lt h
  omega
theorem is21(H:StM h s n room B f g N F Q off){a:Nat}(ha:a<4294967296)(h1:isN N a→K (.bool true) h)(h0: ¬isN N a→K (.bool false) h):Cl 74 [.pointer (some ⟨s,0,none⟩),.int .u32 (a:Int)] h K:=by
 refine F74.spec _ _ h K ?_
 refine bcase_of (fun hb=> ?_) fun hb=> ?_
 ·have hb:=of_decide_eq_true hb
  exact h1 (.inl (by omega))
 have hb:=of_decide_eq_false hb
 refine at44 H ha (fun e=>ldP_of rfl ?_) fun b x e1 h2 hx r=>ldP_of rfl ?_
 ·refine h0 fun hn=> ?_
  rcases hn with h|⟨x,h⟩
  ·omega
  ·exact e x (by omega) h
 ·exact h1 (.inr ⟨x,hx⟩)
theorem level46(H:StM h s n room B f g N F Q off){a:Nat}(ha:isN N a)(hK:K (.int .i64 (lvl n N a:Int)) h):Cl 71 [.pointer (some ⟨s,0,none⟩),.int .u32 (a:Int)] h K:=by
 have hl:=H.len
 have ha':=isN_lt H ha
 refine F71.spec _ _ h K ?_
 unfold lvl at hK
 refine bcase_of (fun hb=> ?_) fun hb=> ?_
 ·have hb:=of_decide_eq_true hb
  rw[if_pos (by omega)]at hK
  exact vars58 H (ldI_of rfl hK)
 have hb:=of_decide_eq_false hb
 rw[if_neg (by omega)]at hK
 refine at44 H (by omega) (fun h1=> ?_) fun b x e1 h2 hx r=>ldP_of rfl ?_
 ·rcases ha with h|⟨x,h⟩
  ·omega
  ·exact absurd h (h1 x (by omega))
 rw[show(!(Option.isNone (some (⟨b,(a-2)*4,none⟩:Addr))))=true from rfl,bcase_true,ptrK_some,add_mk,r 1 (by omega)]
 refine ldI_of rfl ?_
 rw[hx]at hK
 exact hK
theorem one85{a:Nat}(ha:a<2)(hK:K (.int .i64 1) h):Cl 118 [.pointer (some ⟨s,0,none⟩),.int .u32 (a:Int)] h K:=by
 refine F118.spec _ _ h K ?_
 exact bcase_of (fun _=>hK) fun hb=>absurd (of_decide_eq_false hb) (by omega)
theorem and_oneb: ∀a:Fin 2,bitsI .and .u32 ((a.1:Nat):Int) (IntKind.wrap .u32 1)=((a.1:Nat):Int):=by decide+kernel
theorem low68(H:StM h s n room B f g N F Q off){a:Nat}(ha:isN N a)(hK:K (.int .u32 (low N a:Int)) h):Cl 72 [.pointer (some ⟨s,0,none⟩),.int .u32 (a:Int)] h K:=by
 have hl:=H.len
 have ha':=isN_lt H ha
 refine F72.spec _ _ h K ?_
 unfold low at hK
 refine at44 H (by omega) (fun h1=>ldP_of rfl ?_) fun b x e1 h2 hx r=>ldP_of rfl ?_
 ·have h2:a<2:=by
   rcases ha with h|⟨x,h⟩
   ·exact h
   ·exact Classical.byContradiction fun hn=>h1 x (by omega) h
  rw[if_pos h2]at hK
  rw[show(!(Option.isNone (none:Option Addr)))=false from rfl,bcase_false]
  refine one85 h2 ?_
  refine ldI_of rfl ?_
  have:=and_oneb ⟨a,h2⟩
  dsimp only at this
  rw[this]
  exact hK
 ·rw[if_neg (by omega),hx]at hK
  rw[show(!(Option.isNone (some (⟨b,(a-2)*4,none⟩:Addr))))=true from rfl,bcase_true,ptrK_some,add_mk,r 2 (by omega)]
  exact ldI_of rfl hK
theorem high69(H:StM h s n room B f g N F Q off){a:Nat}(ha:isN N a)(hK:K (.int .u32 (high N a:Int)) h):Cl 73 [.pointer (some ⟨s,0,none⟩),.int .u32 (a:Int)] h K:=by
 have hl:=H.len
 have ha':=isN_lt H ha
 refine F73.spec _ _ h K ?_
 unfold high at hK
 refine at44 H (by omega) (fun h1=>ldP_of rfl ?_) fun b x e1 h2 hx r=>ldP_of rfl ?_
 ·have h2:a<2:=by
   rcases ha with h|⟨x,h⟩
   ·exact h
   ·exact Classical.byContradiction fun hn=>h1 x (by omega) h
  rw[if_pos h2]at hK
  rw[show(!(Option.isNone (none:Option Addr)))=false from rfl,bcase_false]
  refine one85 h2 ?_
  refine ldI_of rfl ?_
  have:=and_oneb ⟨a,h2⟩
  dsimp only at this
  rw[this]
  exact hK
 ·rw[if_neg (by omega),hx]at hK
  rw[show(!(Option.isNone (some (⟨b,(a-2)*4,none⟩:Addr))))=true from rfl,bcase_true,ptrK_some,add_mk,r 3 (by omega)]
  exact ldI_of rfl hK
theorem len75(H:StM h s n room B f g N F Q off)(hF:N.length=cntN N+F.length)(hK:K (.int .i64 (cntN N:Int)) h):Cl 45 [.pointer (some ⟨s,0,none⟩)] h K:=by
 have hl:=H.len
 refine F45.spec _ h K ?_
 simp only[add_mk,Nat.zero_add]
 refine ldS_of (by rw[At.rd H.S];rfl) (ldS_of (by rw[At.rd H.S];rfl) ?_)
 rw[wrap_i64 (by omega) (by omega),show((N.length:Nat):Int)-((F.length:Nat):Int)=(cntN N:Int) by omega]
 exact hK
end
end
section
section
variable {h:Heap}{s n room:Nat}{B:SB}{f g:Nat→Nat}{N:List (Option Nd)}{F:List Nat}{Q:Int→Int→Prop}{off:Bool}{K:Value→Heap→Prop}
theorem has74(H:StM h s n room B f g N F Q off)(Tm:TabM h s B N){k:Nat}(hk:k≠0)
  (hY: ∀h' i x,nd N i=some x→kf x=k→Only [B.m,B.mc] h h'→TabM h' s B N→K (.tuple #[.int .u32 ((i+2:Nat):Int),.bool true]) h')
  (hN: ∀h',NoKey N k→Only [B.m,B.mc] h h'→TabM h' s B N→K (.tuple #[.int .u32 0,.bool false]) h'):
  Cl 199 [.pointer (some ⟨s,0,none⟩),.int .u64 (k:Int)] h K:=by
 obtain⟨T,cs,mm,ops,fails,t1,t2,t3,L,⟨q,t5⟩,t6,t7⟩:=Tm.tab
 have hT:1≤T:=by have:=Nat.two_pow_pos q;omega
 have nn:=Tm.nd
 simp only[SB.bt,List.nodup_cons,List.mem_cons,List.not_mem_nil,or_false,not_or,List.nodup_nil,and_true,not_false_eq_true]at nn
 obtain⟨s1,s2,s3⟩:=nn
 have sp:s∉B.bt:=fun hm=>Tm.sep s hm (by simp[SB.bm])
 simp only[SB.bt,List.mem_cons,List.not_mem_nil,or_false,not_or]at sp
 refine F199.spec _ _ h K ?_
 simp only[add_mk,Nat.zero_add]
 refine ldP_of (by rw[At.rd H.S];rfl) (slots_spec t1 (ldI_of rfl ?_))
 unfold F199.wk3
 have mk: ∀h' ops',MemIs h' B.m B.mc cs ops' fails→Only [B.m,B.mc] h h'→TabM h' s B N:=fun h' ops' M O=> 
  ⟨⟨T,cs,mm,ops',fails,t1.only O (by simp;omega),M,t3.only O (by simp;omega),L,⟨q,t5⟩,t6,t7⟩,Tm.nd,Tm.sep⟩
 have S': ∀{h'},Only [B.m,B.mc] h h'→At h' s (scell room B N.length F.length off):=fun O=>H.S.only O (by simp;omega)
 have main: ∀(d i:Nat) (h':Heap) (ops':Int),i+d=T→Seen 0 T cs (k:Int) i→MemIs h' B.m B.mc cs ops' fails→Only [B.m,B.mc] h h'→F199.wL3 (d+1) ⟨s,0,none⟩ (k:Int) (T:Int) (T:Int) (i:Int) h' K:=by
  intro d
  induction d with
  |zero=>
   intro i h' ops' hd S M O
   rw[F199.sL3]
   rw[decide_eq_false (by omega),bcase_false]
   refine hN h' (fun i0 x hx e=> ?_) O (mk h' ops' M O)
   obtain⟨j,hj,ej⟩:=L.all i0 x hx
   obtain⟨d',hd',ed⟩:=path_surj (key:=(k:Int)) hj
   have:=(S d' (by omega)).2
   rw[ed,ej,e]at this
   exact this rfl
  |succ d ih=>
   intro i h' ops' hd S M O
   rw[F199.sL3]
   rw[decide_eq_true (by omega),bcase_true]
   refine home_spec (by omega) (by omega) (ldI_of rfl ⟨by omega,?_⟩)
   simp only[add_mk,Nat.zero_add]
   refine ldP_of (by rw[At.rd (S' O)];rfl) ?_
   have hh:=home_lt (k:Int) (n:=T) (by omega)
   have ep:Int.tmod (IntKind.wrap .i64 ((home (k:Int) T:Int)+(i:Int))) (T:Int)=((path T (k:Int) i:Nat):Int):=by
    unfold path
    generalize home (k:Int) T=y at hh
    rw[wrap_i64 (by omega) (by omega),show(y:Int)+(i:Int)=((y+i:Nat):Int) by omega,Int.tmod_eq_emod_of_nonneg (by omega)]
    rfl
   rw[ep]
   have hp:path T (k:Int) i<T:=path_lt (by omega)
   refine at_spec (t1.only O (by simp;omega)) M (by omega) (by omega) (by have:=L.len;omega) hp fun h2 M2 O2=>ldI_of rfl ?_
   have O':Only [B.m,B.mc] h h2:=O.trans O2 (by intro b hb _;exact hb)
   refine bcase_of (fun hb=> ?_) fun hb=> ?_
   ·have hb:cell 0 cs (path T (k:Int) i)=(k:Int):=by simpa using hb
    refine⟨_,by rw[At.rd (S' O')];rfl,?_⟩
    rcases L.cells _ hp with h0|⟨i0,x,c1,c2,c3⟩
    ·omega
    refine look_map (m:=mm) (t3.only O' (by simp;omega)) (fun hn=>by rw[hn]at c3;cases c3) fun j v hv=> ?_
    rw[c3]at hv
    injection hv with hv
    subst hv
    exact ldI_of rfl (hY h2 i0 x c1 (by omega) O' (mk h2 _ M2 O'))
   ·have hb:cell 0 cs (path T (k:Int) i)≠(k:Int):=by simpa using hb
    refine bcase_of (fun hz=> ?_) fun hz=> ?_
    ·have hz:cell 0 cs (path T (k:Int) i)=0:=by simpa using hz
     refine hN h2 (fun i0 x hx e=> ?_) O' (mk h2 _ M2 O')
     obtain⟨j,hj,ej⟩:=L.all i0 x hx
     exact L.inv.absent (by omega) (by omega) S hz j hj (by rw[ej,e])
    ·have hz:cell 0 cs (path T (k:Int) i)≠0:=by simpa using hz
     rw[show IntKind.wrap .i64 ((i:Int)+1)=((i+1:Nat):Int) by rw[wrap_i64 (by omega) (by omega)];omega]
     refine ih (i+1) h2 _ (by omega) (fun j hj=> ?_) M2 O'
     by_cases e:j=i
     ·subst e;exact⟨hz,hb⟩
     ·exact S j (by omega)
 exact⟨_,main T 0 h ops (by omega) (fun j hj=>by omega) t2 (Only.refl _ _)⟩
end
end
end Go.Proofs.YtnofenejoebkhaaGreat.Ev
