/- PART 6 OF WHAT THE LAW EngineRegs STANDS ON: RegF5, RegG5, RegA5, RunA5, RunB5, TskG5, RunC5, RunD5, RunE5, RunF5, RunG5, RunH5, RunI5, RunJ5, RunK5, RunL5, CchF5, CchG5, RetF5, NodL5, NodM5, NodN5, NodO5, SrtA, SrtF5, SrtB5, SrtB6, SrtL5, RefA5, RefB5, IterA, IterB5, IterC5, IterD5. Conditions: none but those that each lemma states. -/
import Derived.Test.YtnofenejoebkhaaGreatG5
import Derived.RangeFuncGives
import Derived.RangeFuncLeaves
import Derived.RangeFuncOwn
import Derived.Maps.OwnIn
import Derived.Maps.AppendAt
import Derived.WalkKit
import Derived.RegionIn
import Derived.LoopNIn
import Derived.LoopIn
import Derived.TacticsInMore
import Derived.Shelf.Abstract
namespace Go.Proofs.YtnofenejoebkhaaGreat.Ev
open Go
section
namespace F41
def T:Hint:=⟨[(6,[0,2,4,7]),(9,[0,2,4,7,8]),(11,[0,2,4,7,8]),(15,[0,2,4,7,8])],[(21,[[(0,[]),(1,[]),(2,[]),(3,[]),(4,[]),(5,[]),(6,[]),(7,[]),(8,[]),(9,[]),(10,[]),(11,[]),(12,[]),(13,[]),(14,[]),(15,[]),(16,[]),(17,[]),(18,[]),(19,[]),(20,[]),(21,[]),(22,[]),(23,[]),(24,[]),(25,[]),(26,[]),(27,[]),(28,[])]])]⟩
noncomputable def body:Code:=(Tryz.f41.body).getD .skip
noncomputable def en(S:Stop)(p:List Nat)(κ:XK):Fr→Heap→Prop:=E Tryz.prog X T S (sub body p) κ
def fn(K:KK):XK:=fin Tryz.prog Tryz.f41.results.toList K
def f6(b:Addr)(c:Int)(a:Addr)(f:Bool):Fr:=[(0,(.pointer (some b))),(2,(.int .i64 c)),(4,(.pointer (some a))),(7,(.bool f))]
def f9(b:Addr)(c:Int)(a:Addr)(f:Bool)(d:Int):Fr:=[(0,(.pointer (some b))),(2,(.int .i64 c)),(4,(.pointer (some a))),(7,(.bool f)),(8,(.int .i64 d))]
def f11(b:Addr)(c:Int)(a:Addr)(f:Bool)(d:Int):Fr:=[(0,(.pointer (some b))),(2,(.int .i64 c)),(4,(.pointer (some a))),(7,(.bool f)),(8,(.int .i64 d))]
def f15(b:Addr)(c:Int)(a:Addr)(f:Bool)(d:Int):Fr:=[(0,(.pointer (some b))),(2,(.int .i64 c)),(4,(.pointer (some a))),(7,(.bool f)),(8,(.int .i64 d))]
def J0(k6:Addr→Int→Addr→Bool→Heap→Prop)(b:Addr)(g i j l m o q c:Int)(h:Heap)(K:KK):Prop:=
 newK h (.cells #[(.int .i64 g),(.int .i64 i),(.int .i64 j),(.int .i64 l),(.int .i64 m),(.int .i64 o),(.int .u8 q)] 41) (fun b1 h2=>ldB (rd h2 (b.add 37)) (fun b3=>bcase b3 (K (.int .i64 220) h2) (ldI .i64 (rd h2 ((Addr.mk b1 0 none).add 0)) (fun n4=>bcase (decide (n4<(1:Int))) (K (.int .i64 222) h2) (ldI .i64 (rd h2 ((Addr.mk b1 0 none).add 0)) (fun n5=>bcase (decide (n5>(8:Int))) (K (.int .i64 222) h2) (ldI .i64 (rd h2 ((Addr.mk b1 0 none).add 0)) (fun n6=>bcase (n6==(1:Int)) (k6 b c (Addr.mk b1 0 none) true h2) (ldI .i64 (rd h2 ((Addr.mk b1 0 none).add 0)) (fun n7=>bcase (n7==(2:Int)) (k6 b c (Addr.mk b1 0 none) true h2) (ldI .i64 (rd h2 ((Addr.mk b1 0 none).add 0)) (fun n8=>bcase (n8==(3:Int)) (k6 b c (Addr.mk b1 0 none) true h2) (ldI .i64 (rd h2 ((Addr.mk b1 0 none).add 0)) (fun n9=>k6 b c (Addr.mk b1 0 none) (n9==(6:Int)) h2))))))))))))))
theorem E0(S:Stop)(b:Addr)(g i j l m o q c:Int)(h:Heap)(K:KK):(E Tryz.prog X T S body (fin Tryz.prog Tryz.f41.results.toList K) (args0 0 [(.pointer (some b)),(.agg #[(.int .i64 g),(.int .i64 i),(.int .i64 j),(.int .i64 l),(.int .i64 m),(.int .i64 o),(.int .u8 q)]),(.int .i64 c)]) h)=J0 (fun b c a f h=>S (en S [1,1,1,1] (fn K)) (f6 b c a f) h) b g i j l m o q c h K:=by kernel_rfl
def Jk6(k9:Addr→Int→Addr→Bool→Int→Heap→Prop)(b:Addr)(c:Int)(a:Addr)(f:Bool)(h:Heap)(_K:KK):Prop:=
 ldI .i64 (rd h (a.add 0)) (fun n1=>bcase (n1==(4:Int)) (k9 b c a f (1:Int) h) (k9 b c a f (0:Int) h))
theorem Ek6(S:Stop)(b:Addr)(c:Int)(a:Addr)(f:Bool)(h:Heap)(K:KK):(en S [1,1,1,1] (fn K) (f6 b c a f) h)=Jk6 (fun b c a f d h=>S (en S [1,1,1,1,1,1] (fn K)) (f9 b c a f d) h) b c a f h K:=by kernel_rfl
def Jk9(k11:Addr→Int→Addr→Bool→Int→Heap→Prop)(b:Addr)(c:Int)(a:Addr)(f:Bool)(d:Int)(h:Heap)(_K:KK):Prop:=
 ldI .i64 (rd h (a.add 0)) (fun n1=>bcase (n1==(5:Int)) (k11 b c a f (2:Int) h) (k11 b c a f d h))
theorem Ek9(S:Stop)(b:Addr)(c:Int)(a:Addr)(f:Bool)(d:Int)(h:Heap)(K:KK):(en S [1,1,1,1,1,1] (fn K) (f9 b c a f d) h)=Jk9 (fun b c a f d h=>S (en S [1,1,1,1,1,1,1] (fn K)) (f11 b c a f d) h) b c a f d h K:=by kernel_rfl
def Jk11(k15:Addr→Int→Addr→Bool→Int→Heap→Prop)(b:Addr)(c:Int)(a:Addr)(f:Bool)(d:Int)(h:Heap)(_K:KK):Prop:=
 ldI .i64 (rd h (a.add 0)) (fun n1=>bcase (n1==(3:Int)) (ldI .i64 (rd h (a.add 1)) (fun n2=>Cl 96 [(.int .i64 n2)] h (fun v3 h4=>ldI .i64 (some v3) (fun n5=>bcase (n5==(0:Int)) (k15 b c a f (-1:Int) h4) (k15 b c a f n5 h4))))) (k15 b c a f d h))
theorem Ek11(S:Stop)(b:Addr)(c:Int)(a:Addr)(f:Bool)(d:Int)(h:Heap)(K:KK):(en S [1,1,1,1,1,1,1] (fn K) (f11 b c a f d) h)=Jk11 (fun b c a f d h=>S (en S [1,1,1,1,1,1,1,1] (fn K)) (f15 b c a f d) h) b c a f d h K:=by kernel_rfl
def Jk15(b:Addr)(c:Int)(a:Addr)(f:Bool)(d:Int)(h:Heap)(K:KK):Prop:=
 bcase f (ldI .i64 (rd h (a.add 2)) (fun n1=>bcase (decide (n1<(0:Int))) (K (.int .i64 221) h) (ldI .i64 (rd h (a.add 2)) (fun n2=>bcase (decide (n2≥(6:Int))) (K (.int .i64 221) h) (bcase (decide (d>(0:Int))) (ldI .i64 (rd h (a.add 3)) (fun n3=>Cl 97 [(.pointer (some b)),(.int .i64 n3)] h (fun v4 h5=>ldB (some v4) (fun b6=>bcase (!b6) (K (.int .i64 221) h5) (bcase (decide (d>(1:Int))) (ldI .i64 (rd h5 (a.add 4)) (fun n7=>Cl 97 [(.pointer (some b)),(.int .i64 n7)] h5 (fun v8 h9=>ldB (some v8) (fun b10=>bcase (!b10) (K (.int .i64 221) h9) (bcase (decide (d>(2:Int))) (ldI .i64 (rd h9 (a.add 5)) (fun n11=>Cl 97 [(.pointer (some b)),(.int .i64 n11)] h9 (fun v12 h13=>ldB (some v12) (fun b14=>bcase (!b14) (K (.int .i64 221) h13) (bcase (decide (d<(0:Int))) (K (.int .i64 200) h13) (ldI .i64 (rd h13 (a.add 0)) (fun n15=>bcase (n15==(1:Int)) (ldI .u8 (rd h13 (a.add 6)) (fun n16=>bcase (decide ((IntKind.wrap .i64 n16)≥c)) (K (.int .i64 40) h13) (ldI .i64 (rd h13 (a.add 0)) (fun n17=>bcase (n17==(3:Int)) (ldI .i64 (rd h13 (a.add 1)) (fun n18=>bcase (n18 !=(9:Int)) (ldI .i64 (rd h13 (a.add 1)) (fun n19=>bcase (n19 !=(10:Int)) (ldI .i64 (rd h13 (a.add 1)) (fun n20=>ldI .i64 (rd h13 (a.add 3)) (fun n21=>(0≤n21∧n21<(Nat.cast 6:Int)∧ldI .u64 (rd h13 (((b.add 0).add (Int.toNat n21*4)).add 0)) (fun n22=>ldI .u64 (rd h13 (((b.add 0).add (Int.toNat n21*4)).add 1)) (fun n23=>ldI .u64 (rd h13 (((b.add 0).add (Int.toNat n21*4)).add 2)) (fun n24=>ldI .u64 (rd h13 (((b.add 0).add (Int.toNat n21*4)).add 3)) (fun n25=>ldI .u8 (rd h13 (a.add 6)) (fun n26=>Cl 98 [(.int .i64 n20),(.agg #[(.int .u64 n22),(.int .u64 n23),(.int .u64 n24),(.int .u64 n25)]),(.int .u8 n26),(.int .i64 c)] h13 (fun v27 h28=>ldI .i64 (some v27) (fun n29=>bcase (n29 !=(0:Int)) (K (.int .i64 40) h28) (K (.int .i64 0) h28)))))))))))) (K (.int .i64 0) h13))) (K (.int .i64 0) h13))) (K (.int .i64 0) h13))))) (ldI .i64 (rd h13 (a.add 0)) (fun n30=>bcase (n30==(3:Int)) (ldI .i64 (rd h13 (a.add 1)) (fun n31=>bcase (n31 !=(9:Int)) (ldI .i64 (rd h13 (a.add 1)) (fun n32=>bcase (n32 !=(10:Int)) (ldI .i64 (rd h13 (a.add 1)) (fun n33=>ldI .i64 (rd h13 (a.add 3)) (fun n34=>(0≤n34∧n34<(Nat.cast 6:Int)∧ldI .u64 (rd h13 (((b.add 0).add (Int.toNat n34*4)).add 0)) (fun n35=>ldI .u64 (rd h13 (((b.add 0).add (Int.toNat n34*4)).add 1)) (fun n36=>ldI .u64 (rd h13 (((b.add 0).add (Int.toNat n34*4)).add 2)) (fun n37=>ldI .u64 (rd h13 (((b.add 0).add (Int.toNat n34*4)).add 3)) (fun n38=>ldI .u8 (rd h13 (a.add 6)) (fun n39=>Cl 98 [(.int .i64 n33),(.agg #[(.int .u64 n35),(.int .u64 n36),(.int .u64 n37),(.int .u64 n38)]),(.int .u8 n39),(.int .i64 c)] h13 (fun v40 h41=>ldI .i64 (some v40) (fun n42=>bcase (n42 !=(0:Int)) (K (.int .i64 40) h41) (K (.int .i64 0) h41)))))))))))) (K (.int .i64 0) h13))) (K (.int .i64 0) h13))) (K (.int .i64 0) h13)))))))))) (bcase (decide (d<(0:Int))) (K (.int .i64 200) h9) (ldI .i64 (rd h9 (a.add 0)) (fun n43=>bcase (n43==(1:Int)) (ldI .u8 (rd h9 (a.add 6)) (fun n44=>bcase (decide ((IntKind.wrap .i64 n44)≥c)) (K (.int .i64 40) h9) (ldI .i64 (rd h9 (a.add 0)) (fun n45=>bcase (n45==(3:Int)) (ldI .i64 (rd h9 (a.add 1)) (fun n46=>bcase (n46 !=(9:Int)) (ldI .i64 (rd h9 (a.add 1)) (fun n47=>bcase (n47 !=(10:Int)) (ldI .i64 (rd h9 (a.add 1)) (fun n48=>ldI .i64 (rd h9 (a.add 3)) (fun n49=>(0≤n49∧n49<(Nat.cast 6:Int)∧ldI .u64 (rd h9 (((b.add 0).add (Int.toNat n49*4)).add 0)) (fun n50=>ldI .u64 (rd h9 (((b.add 0).add (Int.toNat n49*4)).add 1)) (fun n51=>ldI .u64 (rd h9 (((b.add 0).add (Int.toNat n49*4)).add 2)) (fun n52=>ldI .u64 (rd h9 (((b.add 0).add (Int.toNat n49*4)).add 3)) (fun n53=>ldI .u8 (rd h9 (a.add 6)) (fun n54=>Cl 98 [(.int .i64 n48),(.agg #[(.int .u64 n50),(.int .u64 n51),(.int .u64 n52),(.int .u64 n53)]),(.int .u8 n54),(.int .i64 c)] h9 (fun v55 h56=>ldI .i64 (some v55) (fun n57=>bcase (n57 !=(0:Int)) (K (.int .i64 40) h56) (K (.int .i64 0) h56)))))))))))) (K (.int .i64 0) h9))) (K (.int .i64 0) h9))) (K (.int .i64 0) h9))))) (ldI .i64 (rd h9 (a.add 0)) (fun n58=>bcase (n58==(3:Int)) (ldI .i64 (rd h9 (a.add 1)) (fun n59=>bcase (n59 !=(9:Int)) (ldI .i64 (rd h9 (a.add 1)) (fun n60=>bcase (n60 !=(10:Int)) (ldI .i64 (rd h9 (a.add 1)) (fun n61=>ldI .i64 (rd h9 (a.add 3)) (fun n62=>(0≤n62∧n62<(Nat.cast 6:Int)∧ldI .u64 (rd h9 (((b.add 0).add (Int.toNat n62*4)).add 0)) (fun n63=>ldI .u64 (rd h9 (((b.add 0).add (Int.toNat n62*4)).add 1)) (fun n64=>ldI .u64 (rd h9 (((b.add 0).add (Int.toNat n62*4)).add 2)) (fun n65=>ldI .u64 (rd h9 (((b.add 0).add (Int.toNat n62*4)).add 3)) (fun n66=>ldI .u8 (rd h9 (a.add 6)) (fun n67=>Cl 98 [(.int .i64 n61),(.agg #[(.int .u64 n63),(.int .u64 n64),(.int .u64 n65),(.int .u64 n66)]),(.int .u8 n67),(.int .i64 c)] h9 (fun v68 h69=>ldI .i64 (some v68) (fun n70=>bcase (n70 !=(0:Int)) (K (.int .i64 40) h69) (K (.int .i64 0) h69)))))))))))) (K (.int .i64 0) h9))) (K (.int .i64 0) h9))) (K (.int .i64 0) h9))))))))))) (bcase (decide (d>(2:Int))) (ldI .i64 (rd h5 (a.add 5)) (fun n71=>Cl 97 [(.pointer (some b)),(.int .i64 n71)] h5 (fun v72 h73=>ldB (some v72) (fun b74=>bcase (!b74) (K (.int .i64 221) h73) (bcase (decide (d<(0:Int))) (K (.int .i64 200) h73) (ldI .i64 (rd h73 (a.add 0)) (fun n75=>bcase (n75==(1:Int)) (ldI .u8 (rd h73 (a.add 6)) (fun n76=>bcase (decide ((IntKind.wrap .i64 n76)≥c)) (K (.int .i64 40) h73) (ldI .i64 (rd h73 (a.add 0)) (fun n77=>bcase (n77==(3:Int)) (ldI .i64 (rd h73 (a.add 1)) (fun n78=>bcase (n78 !=(9:Int)) (ldI .i64 (rd h73 (a.add 1)) (fun n79=>bcase (n79 !=(10:Int)) (ldI .i64 (rd h73 (a.add 1)) (fun n80=>ldI .i64 (rd h73 (a.add 3)) (fun n81=>(0≤n81∧n81<(Nat.cast 6:Int)∧ldI .u64 (rd h73 (((b.add 0).add (Int.toNat n81*4)).add 0)) (fun n82=>ldI .u64 (rd h73 (((b.add 0).add (Int.toNat n81*4)).add 1)) (fun n83=>ldI .u64 (rd h73 (((b.add 0).add (Int.toNat n81*4)).add 2)) (fun n84=>ldI .u64 (rd h73 (((b.add 0).add (Int.toNat n81*4)).add 3)) (fun n85=>ldI .u8 (rd h73 (a.add 6)) (fun n86=>Cl 98 [(.int .i64 n80),(.agg #[(.int .u64 n82),(.int .u64 n83),(.int .u64 n84),(.int .u64 n85)]),(.int .u8 n86),(.int .i64 c)] h73 (fun v87 h88=>ldI .i64 (some v87) (fun n89=>bcase (n89 !=(0:Int)) (K (.int .i64 40) h88) (K (.int .i64 0) h88)))))))))))) (K (.int .i64 0) h73))) (K (.int .i64 0) h73))) (K (.int .i64 0) h73))))) (ldI .i64 (rd h73 (a.add 0)) (fun n90=>bcase (n90==(3:Int)) (ldI .i64 (rd h73 (a.add 1)) (fun n91=>bcase (n91 !=(9:Int)) (ldI .i64 (rd h73 (a.add 1)) (fun n92=>bcase (n92 !=(10:Int)) (ldI .i64 (rd h73 (a.add 1)) (fun n93=>ldI .i64 (rd h73 (a.add 3)) (fun n94=>(0≤n94∧n94<(Nat.cast 6:Int)∧ldI .u64 (rd h73 (((b.add 0).add (Int.toNat n94*4)).add 0)) (fun n95=>ldI .u64 (rd h73 (((b.add 0).add (Int.toNat n94*4)).add 1)) (fun n96=>ldI .u64 (rd h73 (((b.add 0).add (Int.toNat n94*4)).add 2)) (fun n97=>ldI .u64 (rd h73 (((b.add 0).add (Int.toNat n94*4)).add 3)) (fun n98=>ldI .u8 (rd h73 (a.add 6)) (fun n99=>Cl 98 [(.int .i64 n93),(.agg #[(.int .u64 n95),(.int .u64 n96),(.int .u64 n97),(.int .u64 n98)]),(.int .u8 n99),(.int .i64 c)] h73 (fun v100 h101=>ldI .i64 (some v100) (fun n102=>bcase (n102 !=(0:Int)) (K (.int .i64 40) h101) (K (.int .i64 0) h101)))))))))))) (K (.int .i64 0) h73))) (K (.int .i64 0) h73))) (K (.int .i64 0) h73)))))))))) (bcase (decide (d<(0:Int))) (K (.int .i64 200) h5) (ldI .i64 (rd h5 (a.add 0)) (fun n103=>bcase (n103==(1:Int)) (ldI .u8 (rd h5 (a.add 6)) (fun n104=>bcase (decide ((IntKind.wrap .i64 n104)≥c)) (K (.int .i64 40) h5) (ldI .i64 (rd h5 (a.add 0)) (fun n105=>bcase (n105==(3:Int)) (ldI .i64 (rd h5 (a.add 1)) (fun n106=>bcase (n106 !=(9:Int)) (ldI .i64 (rd h5 (a.add 1)) (fun n107=>bcase (n107 !=(10:Int)) (ldI .i64 (rd h5 (a.add 1)) (fun n108=>ldI .i64 (rd h5 (a.add 3)) (fun n109=>(0≤n109∧n109<(Nat.cast 6:Int)∧ldI .u64 (rd h5 (((b.add 0).add (Int.toNat n109*4)).add 0)) (fun n110=>ldI .u64 (rd h5 (((b.add 0).add (Int.toNat n109*4)).add 1)) (fun n111=>ldI .u64 (rd h5 (((b.add 0).add (Int.toNat n109*4)).add 2)) (fun n112=>ldI .u64 (rd h5 (((b.add 0).add (Int.toNat n109*4)).add 3)) (fun n113=>ldI .u8 (rd h5 (a.add 6)) (fun n114=>Cl 98 [(.int .i64 n108),(.agg #[(.int .u64 n110),(.int .u64 n111),(.int .u64 n112),(.int .u64 n113)]),(.int .u8 n114),(.int .i64 c)] h5 (fun v115 h116=>ldI .i64 (some v115) (fun n117=>bcase (n117 !=(0:Int)) (K (.int .i64 40) h116) (K (.int .i64 0) h116)))))))))))) (K (.int .i64 0) h5))) (K (.int .i64 0) h5))) (K (.int .i64 0) h5))))) (ldI .i64 (rd h5 (a.add 0)) (fun n118=>bcase (n118==(3:Int)) (ldI .i64 (rd h5 (a.add 1)) (fun n119=>bcase (n119 !=(9:Int)) (ldI .i64 (rd h5 (a.add 1)) (fun n120=>bcase (n120 !=(10:Int)) (ldI .i64 (rd h5 (a.add 1)) (fun n121=>ldI .i64 (rd h5 (a.add 3)) (fun n122=>(0≤n122∧n122<(Nat.cast 6:Int)∧ldI .u64 (rd h5 (((b.add 0).add (Int.toNat n122*4)).add 0)) (fun n123=>ldI .u64 (rd h5 (((b.add 0).add (Int.toNat n122*4)).add 1)) (fun n124=>ldI .u64 (rd h5 (((b.add 0).add (Int.toNat n122*4)).add 2)) (fun n125=>ldI .u64 (rd h5 (((b.add 0).add (Int.toNat n122*4)).add 3)) (fun n126=>ldI .u8 (rd h5 (a.add 6)) (fun n127=>Cl 98 [(.int .i64 n121),(.agg #[(.int .u64 n123),(.int .u64 n124),(.int .u64 n125),(.int .u64 n126)]),(.int .u8 n127),(.int .i64 c)] h5 (fun v128 h129=>ldI .i64 (some v128) (fun n130=>bcase (n130 !=(0:Int)) (K (.int .i64 40) h129) (K (.int .i64 0) h129)))))))))))) (K (.int .i64 0) h5))) (K (.int .i64 0) h5))) (K (.int .i64 0) h5)))))))))))) (bcase (decide (d>(1:Int))) (ldI .i64 (rd h (a.add 4)) (fun n131=>Cl 97 [(.pointer (some b)),(.int .i64 n131)] h (fun v132 h133=>ldB (some v132) (fun b134=>bcase (!b134) (K (.int .i64 221) h133) (bcase (decide (d>(2:Int))) (ldI .i64 (rd h133 (a.add 5)) (fun n135=>Cl 97 [(.pointer (some b)),(.int .i64 n135)] h133 (fun v136 h137=>ldB (some v136) (fun b138=>bcase (!b138) (K (.int .i64 221) h137) (bcase (decide (d<(0:Int))) (K (.int .i64 200) h137) (ldI .i64 (rd h137 (a.add 0)) (fun n139=>bcase (n139==(1:Int)) (ldI .u8 (rd h137 (a.add 6)) (fun n140=>bcase (decide ((IntKind.wrap .i64 n140)≥c)) (K (.int .i64 40) h137) (ldI .i64 (rd h137 (a.add 0)) (fun n141=>bcase (n141==(3:Int)) (ldI .i64 (rd h137 (a.add 1)) (fun n142=>bcase (n142 !=(9:Int)) (ldI .i64 (rd h137 (a.add 1)) (fun n143=>bcase (n143 !=(10:Int)) (ldI .i64 (rd h137 (a.add 1)) (fun n144=>ldI .i64 (rd h137 (a.add 3)) (fun n145=>(0≤n145∧n145<(Nat.cast 6:Int)∧ldI .u64 (rd h137 (((b.add 0).add (Int.toNat n145*4)).add 0)) (fun n146=>ldI .u64 (rd h137 (((b.add 0).add (Int.toNat n145*4)).add 1)) (fun n147=>ldI .u64 (rd h137 (((b.add 0).add (Int.toNat n145*4)).add 2)) (fun n148=>ldI .u64 (rd h137 (((b.add 0).add (Int.toNat n145*4)).add 3)) (fun n149=>ldI .u8 (rd h137 (a.add 6)) (fun n150=>Cl 98 [(.int .i64 n144),(.agg #[(.int .u64 n146),(.int .u64 n147),(.int .u64 n148),(.int .u64 n149)]),(.int .u8 n150),(.int .i64 c)] h137 (fun v151 h152=>ldI .i64 (some v151) (fun n153=>bcase (n153 !=(0:Int)) (K (.int .i64 40) h152) (K (.int .i64 0) h152)))))))))))) (K (.int .i64 0) h137))) (K (.int .i64 0) h137))) (K (.int .i64 0) h137))))) (ldI .i64 (rd h137 (a.add 0)) (fun n154=>bcase (n154==(3:Int)) (ldI .i64 (rd h137 (a.add 1)) (fun n155=>bcase (n155 !=(9:Int)) (ldI .i64 (rd h137 (a.add 1)) (fun n156=>bcase (n156 !=(10:Int)) (ldI .i64 (rd h137 (a.add 1)) (fun n157=>ldI .i64 (rd h137 (a.add 3)) (fun n158=>(0≤n158∧n158<(Nat.cast 6:Int)∧ldI .u64 (rd h137 (((b.add 0).add (Int.toNat n158*4)).add 0)) (fun n159=>ldI .u64 (rd h137 (((b.add 0).add (Int.toNat n158*4)).add 1)) (fun n160=>ldI .u64 (rd h137 (((b.add 0).add (Int.toNat n158*4)).add 2)) (fun n161=>ldI .u64 (rd h137 (((b.add 0).add (Int.toNat n158*4)).add 3)) (fun n162=>ldI .u8 (rd h137 (a.add 6)) (fun n163=>Cl 98 [(.int .i64 n157),(.agg #[(.int .u64 n159),(.int .u64 n160),(.int .u64 n161),(.int .u64 n162)]),(.int .u8 n163),(.int .i64 c)] h137 (fun v164 h165=>ldI .i64 (some v164) (fun n166=>bcase (n166 !=(0:Int)) (K (.int .i64 40) h165) (K (.int .i64 0) h165)))))))))))) (K (.int .i64 0) h137))) (K (.int .i64 0) h137))) (K (.int .i64 0) h137)))))))))) (bcase (decide (d<(0:Int))) (K (.int .i64 200) h133) (ldI .i64 (rd h133 (a.add 0)) (fun n167=>bcase (n167==(1:Int)) (ldI .u8 (rd h133 (a.add 6)) (fun n168=>bcase (decide ((IntKind.wrap .i64 n168)≥c)) (K (.int .i64 40) h133) (ldI .i64 (rd h133 (a.add 0)) (fun n169=>bcase (n169==(3:Int)) (ldI .i64 (rd h133 (a.add 1)) (fun n170=>bcase (n170 !=(9:Int)) (ldI .i64 (rd h133 (a.add 1)) (fun n171=>bcase (n171 !=(10:Int)) (ldI .i64 (rd h133 (a.add 1)) (fun n172=>ldI .i64 (rd h133 (a.add 3)) (fun n173=>(0≤n173∧n173<(Nat.cast 6:Int)∧ldI .u64 (rd h133 (((b.add 0).add (Int.toNat n173*4)).add 0)) (fun n174=>ldI .u64 (rd h133 (((b.add 0).add (Int.toNat n173*4)).add 1)) (fun n175=>ldI .u64 (rd h133 (((b.add 0).add (Int.toNat n173*4)).add 2)) (fun n176=>ldI .u64 (rd h133 (((b.add 0).add (Int.toNat n173*4)).add 3)) (fun n177=>ldI .u8 (rd h133 (a.add 6)) (fun n178=>Cl 98 [(.int .i64 n172),(.agg #[(.int .u64 n174),(.int .u64 n175),(.int .u64 n176),(.int .u64 n177)]),(.int .u8 n178),(.int .i64 c)] h133 (fun v179 h180=>ldI .i64 (some v179) (fun n181=>bcase (n181 !=(0:Int)) (K (.int .i64 40) h180) (K (.int .i64 0) h180)))))))))))) (K (.int .i64 0) h133))) (K (.int .i64 0) h133))) (K (.int .i64 0) h133))))) (ldI .i64 (rd h133 (a.add 0)) (fun n182=>bcase (n182==(3:Int)) (ldI .i64 (rd h133 (a.add 1)) (fun n183=>bcase (n183 !=(9:Int)) (ldI .i64 (rd h133 (a.add 1)) (fun n184=>bcase (n184 !=(10:Int)) (ldI .i64 (rd h133 (a.add 1)) (fun n185=>ldI .i64 (rd h133 (a.add 3)) (fun n186=>(0≤n186∧n186<(Nat.cast 6:Int)∧ldI .u64 (rd h133 (((b.add 0).add (Int.toNat n186*4)).add 0)) (fun n187=>ldI .u64 (rd h133 (((b.add 0).add (Int.toNat n186*4)).add 1)) (fun n188=>ldI .u64 (rd h133 (((b.add 0).add (Int.toNat n186*4)).add 2)) (fun n189=>ldI .u64 (rd h133 (((b.add 0).add (Int.toNat n186*4)).add 3)) (fun n190=>ldI .u8 (rd h133 (a.add 6)) (fun n191=>Cl 98 [(.int .i64 n185),(.agg #[(.int .u64 n187),(.int .u64 n188),(.int .u64 n189),(.int .u64 n190)]),(.int .u8 n191),(.int .i64 c)] h133 (fun v192 h193=>ldI .i64 (some v192) (fun n194=>bcase (n194 !=(0:Int)) (K (.int .i64 40) h193) (K (.int .i64 0) h193)))))))))))) (K (.int .i64 0) h133))) (K (.int .i64 0) h133))) (K (.int .i64 0) h133))))))))))) (bcase (decide (d>(2:Int))) (ldI .i64 (rd h (a.add 5)) (fun n195=>Cl 97 [(.pointer (some b)),(.int .i64 n195)] h (fun v196 h197=>ldB (some v196) (fun b198=>bcase (!b198) (K (.int .i64 221) h197) (bcase (decide (d<(0:Int))) (K (.int .i64 200) h197) (ldI .i64 (rd h197 (a.add 0)) (fun n199=>bcase (n199==(1:Int)) (ldI .u8 (rd h197 (a.add 6)) (fun n200=>bcase (decide ((IntKind.wrap .i64 n200)≥c)) (K (.int .i64 40) h197) (ldI .i64 (rd h197 (a.add 0)) (fun n201=>bcase (n201==(3:Int)) (ldI .i64 (rd h197 (a.add 1)) (fun n202=>bcase (n202 !=(9:Int)) (ldI .i64 (rd h197 (a.add 1)) (fun n203=>bcase (n203 !=(10:Int)) (ldI .i64 (rd h197 (a.add 1)) (fun n204=>ldI .i64 (rd h197 (a.add 3)) (fun n205=>(0≤n205∧n205<(Nat.cast 6:Int)∧ldI .u64 (rd h197 (((b.add 0).add (Int.toNat n205*4)).add 0)) (fun n206=>ldI .u64 (rd h197 (((b.add 0).add (Int.toNat n205*4)).add 1)) (fun n207=>ldI .u64 (rd h197 (((b.add 0).add (Int.toNat n205*4)).add 2)) (fun n208=>ldI .u64 (rd h197 (((b.add 0).add (Int.toNat n205*4)).add 3)) (fun n209=>ldI .u8 (rd h197 (a.add 6)) (fun n210=>Cl 98 [(.int .i64 n204),(.agg #[(.int .u64 n206),(.int .u64 n207),(.int .u64 n208),(.int .u64 n209)]),(.int .u8 n210),(.int .i64 c)] h197 (fun v211 h212=>ldI .i64 (some v211) (fun n213=>bcase (n213 !=(0:Int)) (K (.int .i64 40) h212) (K (.int .i64 0) h212)))))))))))) (K (.int .i64 0) h197))) (K (.int .i64 0) h197))) (K (.int .i64 0) h197))))) (ldI .i64 (rd h197 (a.add 0)) (fun n214=>bcase (n214==(3:Int)) (ldI .i64 (rd h197 (a.add 1)) (fun n215=>bcase (n215 !=(9:Int)) (ldI .i64 (rd h197 (a.add 1)) (fun n216=>bcase (n216 !=(10:Int)) (ldI .i64 (rd h197 (a.add 1)) (fun n217=>ldI .i64 (rd h197 (a.add 3)) (fun n218=>(0≤n218∧n218<(Nat.cast 6:Int)∧ldI .u64 (rd h197 (((b.add 0).add (Int.toNat n218*4)).add 0)) (fun n219=>ldI .u64 (rd h197 (((b.add 0).add (Int.toNat n218*4)).add 1)) (fun n220=>ldI .u64 (rd h197 (((b.add 0).add (Int.toNat n218*4)).add 2)) (fun n221=>ldI .u64 (rd h197 (((b.add 0).add (Int.toNat n218*4)).add 3)) (fun n222=>ldI .u8 (rd h197 (a.add 6)) (fun n223=>Cl 98 [(.int .i64 n217),(.agg #[(.int .u64 n219),(.int .u64 n220),(.int .u64 n221),(.int .u64 n222)]),(.int .u8 n223),(.int .i64 c)] h197 (fun v224 h225=>ldI .i64 (some v224) (fun n226=>bcase (n226 !=(0:Int)) (K (.int .i64 40) h225) (K (.int .i64 0) h225)))))))))))) (K (.int .i64 0) h197))) (K (.int .i64 0) h197))) (K (.int .i64 0) h197)))))))))) (bcase (decide (d<(0:Int))) (K (.int .i64 200) h) (ldI .i64 (rd h (a.add 0)) (fun n227=>bcase (n227==(1:Int)) (ldI .u8 (rd h (a.add 6)) (fun n228=>bcase (decide ((IntKind.wrap .i64 n228)≥c)) (K (.int .i64 40) h) (ldI .i64 (rd h (a.add 0)) (fun n229=>bcase (n229==(3:Int)) (ldI .i64 (rd h (a.add 1)) (fun n230=>bcase (n230 !=(9:Int)) (ldI .i64 (rd h (a.add 1)) (fun n231=>bcase (n231 !=(10:Int)) (ldI .i64 (rd h (a.add 1)) (fun n232=>ldI .i64 (rd h (a.add 3)) (fun n233=>(0≤n233∧n233<(Nat.cast 6:Int)∧ldI .u64 (rd h (((b.add 0).add (Int.toNat n233*4)).add 0)) (fun n234=>ldI .u64 (rd h (((b.add 0).add (Int.toNat n233*4)).add 1)) (fun n235=>ldI .u64 (rd h (((b.add 0).add (Int.toNat n233*4)).add 2)) (fun n236=>ldI .u64 (rd h (((b.add 0).add (Int.toNat n233*4)).add 3)) (fun n237=>ldI .u8 (rd h (a.add 6)) (fun n238=>Cl 98 [(.int .i64 n232),(.agg #[(.int .u64 n234),(.int .u64 n235),(.int .u64 n236),(.int .u64 n237)]),(.int .u8 n238),(.int .i64 c)] h (fun v239 h240=>ldI .i64 (some v239) (fun n241=>bcase (n241 !=(0:Int)) (K (.int .i64 40) h240) (K (.int .i64 0) h240)))))))))))) (K (.int .i64 0) h))) (K (.int .i64 0) h))) (K (.int .i64 0) h))))) (ldI .i64 (rd h (a.add 0)) (fun n242=>bcase (n242==(3:Int)) (ldI .i64 (rd h (a.add 1)) (fun n243=>bcase (n243 !=(9:Int)) (ldI .i64 (rd h (a.add 1)) (fun n244=>bcase (n244 !=(10:Int)) (ldI .i64 (rd h (a.add 1)) (fun n245=>ldI .i64 (rd h (a.add 3)) (fun n246=>(0≤n246∧n246<(Nat.cast 6:Int)∧ldI .u64 (rd h (((b.add 0).add (Int.toNat n246*4)).add 0)) (fun n247=>ldI .u64 (rd h (((b.add 0).add (Int.toNat n246*4)).add 1)) (fun n248=>ldI .u64 (rd h (((b.add 0).add (Int.toNat n246*4)).add 2)) (fun n249=>ldI .u64 (rd h (((b.add 0).add (Int.toNat n246*4)).add 3)) (fun n250=>ldI .u8 (rd h (a.add 6)) (fun n251=>Cl 98 [(.int .i64 n245),(.agg #[(.int .u64 n247),(.int .u64 n248),(.int .u64 n249),(.int .u64 n250)]),(.int .u8 n251),(.int .i64 c)] h (fun v252 h253=>ldI .i64 (some v252) (fun n254=>bcase (n254 !=(0:Int)) (K (.int .i64 40) h253) (K (.int .i64 0) h253)))))))))))) (K (.int .i64 0) h))) (K (.int .i64 0) h))) (K (.int .i64 0) h))))))))))))) (bcase (decide (d>(0:Int))) (ldI .i64 (rd h (a.add 3)) (fun n255=>Cl 97 [(.pointer (some b)),(.int .i64 n255)] h (fun v256 h257=>ldB (some v256) (fun b258=>bcase (!b258) (K (.int .i64 221) h257) (bcase (decide (d>(1:Int))) (ldI .i64 (rd h257 (a.add 4)) (fun n259=>Cl 97 [(.pointer (some b)),(.int .i64 n259)] h257 (fun v260 h261=>ldB (some v260) (fun b262=>bcase (!b262) (K (.int .i64 221) h261) (bcase (decide (d>(2:Int))) (ldI .i64 (rd h261 (a.add 5)) (fun n263=>Cl 97 [(.pointer (some b)),(.int .i64 n263)] h261 (fun v264 h265=>ldB (some v264) (fun b266=>bcase (!b266) (K (.int .i64 221) h265) (bcase (decide (d<(0:Int))) (K (.int .i64 200) h265) (ldI .i64 (rd h265 (a.add 0)) (fun n267=>bcase (n267==(1:Int)) (ldI .u8 (rd h265 (a.add 6)) (fun n268=>bcase (decide ((IntKind.wrap .i64 n268)≥c)) (K (.int .i64 40) h265) (ldI .i64 (rd h265 (a.add 0)) (fun n269=>bcase (n269==(3:Int)) (ldI .i64 (rd h265 (a.add 1)) (fun n270=>bcase (n270 !=(9:Int)) (ldI .i64 (rd h265 (a.add 1)) (fun n271=>bcase (n271 !=(10:Int)) (ldI .i64 (rd h265 (a.add 1)) (fun n272=>ldI .i64 (rd h265 (a.add 3)) (fun n273=>(0≤n273∧n273<(Nat.cast 6:Int)∧ldI .u64 (rd h265 (((b.add 0).add (Int.toNat n273*4)).add 0)) (fun n274=>ldI .u64 (rd h265 (((b.add 0).add (Int.toNat n273*4)).add 1)) (fun n275=>ldI .u64 (rd h265 (((b.add 0).add (Int.toNat n273*4)).add 2)) (fun n276=>ldI .u64 (rd h265 (((b.add 0).add (Int.toNat n273*4)).add 3)) (fun n277=>ldI .u8 (rd h265 (a.add 6)) (fun n278=>Cl 98 [(.int .i64 n272),(.agg #[(.int .u64 n274),(.int .u64 n275),(.int .u64 n276),(.int .u64 n277)]),(.int .u8 n278),(.int .i64 c)] h265 (fun v279 h280=>ldI .i64 (some v279) (fun n281=>bcase (n281 !=(0:Int)) (K (.int .i64 40) h280) (K (.int .i64 0) h280)))))))))))) (K (.int .i64 0) h265))) (K (.int .i64 0) h265))) (K (.int .i64 0) h265))))) (ldI .i64 (rd h265 (a.add 0)) (fun n282=>bcase (n282==(3:Int)) (ldI .i64 (rd h265 (a.add 1)) (fun n283=>bcase (n283 !=(9:Int)) (ldI .i64 (rd h265 (a.add 1)) (fun n284=>bcase (n284 !=(10:Int)) (ldI .i64 (rd h265 (a.add 1)) (fun n285=>ldI .i64 (rd h265 (a.add 3)) (fun n286=>(0≤n286∧n286<(Nat.cast 6:Int)∧ldI .u64 (rd h265 (((b.add 0).add (Int.toNat n286*4)).add 0)) (fun n287=>ldI .u64 (rd h265 (((b.add 0).add (Int.toNat n286*4)).add 1)) (fun n288=>ldI .u64 (rd h265 (((b.add 0).add (Int.toNat n286*4)).add 2)) (fun n289=>ldI .u64 (rd h265 (((b.add 0).add (Int.toNat n286*4)).add 3)) (fun n290=>ldI .u8 (rd h265 (a.add 6)) (fun n291=>Cl 98 [(.int .i64 n285),(.agg #[(.int .u64 n287),(.int .u64 n288),(.int .u64 n289),(.int .u64 n290)]),(.int .u8 n291),(.int .i64 c)] h265 (fun v292 h293=>ldI .i64 (some v292) (fun n294=>bcase (n294 !=(0:Int)) (K (.int .i64 40) h293) (K (.int .i64 0) h293)))))))))))) (K (.int .i64 0) h265))) (K (.int .i64 0) h265))) (K (.int .i64 0) h265)))))))))) (bcase (decide (d<(0:Int))) (K (.int .i64 200) h261) (ldI .i64 (rd h261 (a.add 0)) (fun n295=>bcase (n295==(1:Int)) (ldI .u8 (rd h261 (a.add 6)) (fun n296=>bcase (decide ((IntKind.wrap .i64 n296)≥c)) (K (.int .i64 40) h261) (ldI .i64 (rd h261 (a.add 0)) (fun n297=>bcase (n297==(3:Int)) (ldI .i64 (rd h261 (a.add 1)) (fun n298=>bcase (n298 !=(9:Int)) (ldI .i64 (rd h261 (a.add 1)) (fun n299=>bcase (n299 !=(10:Int)) (ldI .i64 (rd h261 (a.add 1)) (fun n300=>ldI .i64 (rd h261 (a.add 3)) (fun n301=>(0≤n301∧n301<(Nat.cast 6:Int)∧ldI .u64 (rd h261 (((b.add 0).add (Int.toNat n301*4)).add 0)) (fun n302=>ldI .u64 (rd h261 (((b.add 0).add (Int.toNat n301*4)).add 1)) (fun n303=>ldI .u64 (rd h261 (((b.add 0).add (Int.toNat n301*4)).add 2)) (fun n304=>ldI .u64 (rd h261 (((b.add 0).add (Int.toNat n301*4)).add 3)) (fun n305=>ldI .u8 (rd h261 (a.add 6)) (fun n306=>Cl 98 [(.int .i64 n300),(.agg #[(.int .u64 n302),(.int .u64 n303),(.int .u64 n304),(.int .u64 n305)]),(.int .u8 n306),(.int .i64 c)] h261 (fun v307 h308=>ldI .i64 (some v307) (fun n309=>bcase (n309 !=(0:Int)) (K (.int .i64 40) h308) (K (.int .i64 0) h308)))))))))))) (K (.int .i64 0) h261))) (K (.int .i64 0) h261))) (K (.int .i64 0) h261))))) (ldI .i64 (rd h261 (a.add 0)) (fun n310=>bcase (n310==(3:Int)) (ldI .i64 (rd h261 (a.add 1)) (fun n311=>bcase (n311 !=(9:Int)) (ldI .i64 (rd h261 (a.add 1)) (fun n312=>bcase (n312 !=(10:Int)) (ldI .i64 (rd h261 (a.add 1)) (fun n313=>ldI .i64 (rd h261 (a.add 3)) (fun n314=>(0≤n314∧n314<(Nat.cast 6:Int)∧ldI .u64 (rd h261 (((b.add 0).add (Int.toNat n314*4)).add 0)) (fun n315=>ldI .u64 (rd h261 (((b.add 0).add (Int.toNat n314*4)).add 1)) (fun n316=>ldI .u64 (rd h261 (((b.add 0).add (Int.toNat n314*4)).add 2)) (fun n317=>ldI .u64 (rd h261 (((b.add 0).add (Int.toNat n314*4)).add 3)) (fun n318=>ldI .u8 (rd h261 (a.add 6)) (fun n319=>Cl 98 [(.int .i64 n313),(.agg #[(.int .u64 n315),(.int .u64 n316),(.int .u64 n317),(.int .u64 n318)]),(.int .u8 n319),(.int .i64 c)] h261 (fun v320 h321=>ldI .i64 (some v320) (fun n322=>bcase (n322 !=(0:Int)) (K (.int .i64 40) h321) (K (.int .i64 0) h321)))))))))))) (K (.int .i64 0) h261))) (K (.int .i64 0) h261))) (K (.int .i64 0) h261))))))))))) (bcase (decide (d>(2:Int))) (ldI .i64 (rd h257 (a.add 5)) (fun n323=>Cl 97 [(.pointer (some b)),(.int .i64 n323)] h257 (fun v324 h325=>ldB (some v324) (fun b326=>bcase (!b326) (K (.int .i64 221) h325) (bcase (decide (d<(0:Int))) (K (.int .i64 200) h325) (ldI .i64 (rd h325 (a.add 0)) (fun n327=>bcase (n327==(1:Int)) (ldI .u8 (rd h325 (a.add 6)) (fun n328=>bcase (decide ((IntKind.wrap .i64 n328)≥c)) (K (.int .i64 40) h325) (ldI .i64 (rd h325 (a.add 0)) (fun n329=>bcase (n329==(3:Int)) (ldI .i64 (rd h325 (a.add 1)) (fun n330=>bcase (n330 !=(9:Int)) (ldI .i64 (rd h325 (a.add 1)) (fun n331=>bcase (n331 !=(10:Int)) (ldI .i64 (rd h325 (a.add 1)) (fun n332=>ldI .i64 (rd h325 (a.add 3)) (fun n333=>(0≤n333∧n333<(Nat.cast 6:Int)∧ldI .u64 (rd h325 (((b.add 0).add (Int.toNat n333*4)).add 0)) (fun n334=>ldI .u64 (rd h325 (((b.add 0).add (Int.toNat n333*4)).add 1)) (fun n335=>ldI .u64 (rd h325 (((b.add 0).add (Int.toNat n333*4)).add 2)) (fun n336=>ldI .u64 (rd h325 (((b.add 0).add (Int.toNat n333*4)).add 3)) (fun n337=>ldI .u8 (rd h325 (a.add 6)) (fun n338=>Cl 98 [(.int .i64 n332),(.agg #[(.int .u64 n334),(.int .u64 n335),(.int .u64 n336),(.int .u64 n337)]),(.int .u8 n338),(.int .i64 c)] h325 (fun v339 h340=>ldI .i64 (some v339) (fun n341=>bcase (n341 !=(0:Int)) (K (.int .i64 40) h340) (K (.int .i64 0) h340)))))))))))) (K (.int .i64 0) h325))) (K (.int .i64 0) h325))) (K (.int .i64 0) h325))))) (ldI .i64 (rd h325 (a.add 0)) (fun n342=>bcase (n342==(3:Int)) (ldI .i64 (rd h325 (a.add 1)) (fun n343=>bcase (n343 !=(9:Int)) (ldI .i64 (rd h325 (a.add 1)) (fun n344=>bcase (n344 !=(10:Int)) (ldI .i64 (rd h325 (a.add 1)) (fun n345=>ldI .i64 (rd h325 (a.add 3)) (fun n346=>(0≤n346∧n346<(Nat.cast 6:Int)∧ldI .u64 (rd h325 (((b.add 0).add (Int.toNat n346*4)).add 0)) (fun n347=>ldI .u64 (rd h325 (((b.add 0).add (Int.toNat n346*4)).add 1)) (fun n348=>ldI .u64 (rd h325 (((b.add 0).add (Int.toNat n346*4)).add 2)) (fun n349=>ldI .u64 (rd h325 (((b.add 0).add (Int.toNat n346*4)).add 3)) (fun n350=>ldI .u8 (rd h325 (a.add 6)) (fun n351=>Cl 98 [(.int .i64 n345),(.agg #[(.int .u64 n347),(.int .u64 n348),(.int .u64 n349),(.int .u64 n350)]),(.int .u8 n351),(.int .i64 c)] h325 (fun v352 h353=>ldI .i64 (some v352) (fun n354=>bcase (n354 !=(0:Int)) (K (.int .i64 40) h353) (K (.int .i64 0) h353)))))))))))) (K (.int .i64 0) h325))) (K (.int .i64 0) h325))) (K (.int .i64 0) h325)))))))))) (bcase (decide (d<(0:Int))) (K (.int .i64 200) h257) (ldI .i64 (rd h257 (a.add 0)) (fun n355=>bcase (n355==(1:Int)) (ldI .u8 (rd h257 (a.add 6)) (fun n356=>bcase (decide ((IntKind.wrap .i64 n356)≥c)) (K (.int .i64 40) h257) (ldI .i64 (rd h257 (a.add 0)) (fun n357=>bcase (n357==(3:Int)) (ldI .i64 (rd h257 (a.add 1)) (fun n358=>bcase (n358 !=(9:Int)) (ldI .i64 (rd h257 (a.add 1)) (fun n359=>bcase (n359 !=(10:Int)) (ldI .i64 (rd h257 (a.add 1)) (fun n360=>ldI .i64 (rd h257 (a.add 3)) (fun n361=>(0≤n361∧n361<(Nat.cast 6:Int)∧ldI .u64 (rd h257 (((b.add 0).add (Int.toNat n361*4)).add 0)) (fun n362=>ldI .u64 (rd h257 (((b.add 0).add (Int.toNat n361*4)).add 1)) (fun n363=>ldI .u64 (rd h257 (((b.add 0).add (Int.toNat n361*4)).add 2)) (fun n364=>ldI .u64 (rd h257 (((b.add 0).add (Int.toNat n361*4)).add 3)) (fun n365=>ldI .u8 (rd h257 (a.add 6)) (fun n366=>Cl 98 [(.int .i64 n360),(.agg #[(.int .u64 n362),(.int .u64 n363),(.int .u64 n364),(.int .u64 n365)]),(.int .u8 n366),(.int .i64 c)] h257 (fun v367 h368=>ldI .i64 (some v367) (fun n369=>bcase (n369 !=(0:Int)) (K (.int .i64 40) h368) (K (.int .i64 0) h368)))))))))))) (K (.int .i64 0) h257))) (K (.int .i64 0) h257))) (K (.int .i64 0) h257))))) (ldI .i64 (rd h257 (a.add 0)) (fun n370=>bcase (n370==(3:Int)) (ldI .i64 (rd h257 (a.add 1)) (fun n371=>bcase (n371 !=(9:Int)) (ldI .i64 (rd h257 (a.add 1)) (fun n372=>bcase (n372 !=(10:Int)) (ldI .i64 (rd h257 (a.add 1)) (fun n373=>ldI .i64 (rd h257 (a.add 3)) (fun n374=>(0≤n374∧n374<(Nat.cast 6:Int)∧ldI .u64 (rd h257 (((b.add 0).add (Int.toNat n374*4)).add 0)) (fun n375=>ldI .u64 (rd h257 (((b.add 0).add (Int.toNat n374*4)).add 1)) (fun n376=>ldI .u64 (rd h257 (((b.add 0).add (Int.toNat n374*4)).add 2)) (fun n377=>ldI .u64 (rd h257 (((b.add 0).add (Int.toNat n374*4)).add 3)) (fun n378=>ldI .u8 (rd h257 (a.add 6)) (fun n379=>Cl 98 [(.int .i64 n373),(.agg #[(.int .u64 n375),(.int .u64 n376),(.int .u64 n377),(.int .u64 n378)]),(.int .u8 n379),(.int .i64 c)] h257 (fun v380 h381=>ldI .i64 (some v380) (fun n382=>bcase (n382 !=(0:Int)) (K (.int .i64 40) h381) (K (.int .i64 0) h381)))))))))))) (K (.int .i64 0) h257))) (K (.int .i64 0) h257))) (K (.int .i64 0) h257)))))))))))) (bcase (decide (d>(1:Int))) (ldI .i64 (rd h (a.add 4)) (fun n383=>Cl 97 [(.pointer (some b)),(.int .i64 n383)] h (fun v384 h385=>ldB (some v384) (fun b386=>bcase (!b386) (K (.int .i64 221) h385) (bcase (decide (d>(2:Int))) (ldI .i64 (rd h385 (a.add 5)) (fun n387=>Cl 97 [(.pointer (some b)),(.int .i64 n387)] h385 (fun v388 h389=>ldB (some v388) (fun b390=>bcase (!b390) (K (.int .i64 221) h389) (bcase (decide (d<(0:Int))) (K (.int .i64 200) h389) (ldI .i64 (rd h389 (a.add 0)) (fun n391=>bcase (n391==(1:Int)) (ldI .u8 (rd h389 (a.add 6)) (fun n392=>bcase (decide ((IntKind.wrap .i64 n392)≥c)) (K (.int .i64 40) h389) (ldI .i64 (rd h389 (a.add 0)) (fun n393=>bcase (n393==(3:Int)) (ldI .i64 (rd h389 (a.add 1)) (fun n394=>bcase (n394 !=(9:Int)) (ldI .i64 (rd h389 (a.add 1)) (fun n395=>bcase (n395 !=(10:Int)) (ldI .i64 (rd h389 (a.add 1)) (fun n396=>ldI .i64 (rd h389 (a.add 3)) (fun n397=>(0≤n397∧n397<(Nat.cast 6:Int)∧ldI .u64 (rd h389 (((b.add 0).add (Int.toNat n397*4)).add 0)) (fun n398=>ldI .u64 (rd h389 (((b.add 0).add (Int.toNat n397*4)).add 1)) (fun n399=>ldI .u64 (rd h389 (((b.add 0).add (Int.toNat n397*4)).add 2)) (fun n400=>ldI .u64 (rd h389 (((b.add 0).add (Int.toNat n397*4)).add 3)) (fun n401=>ldI .u8 (rd h389 (a.add 6)) (fun n402=>Cl 98 [(.int .i64 n396),(.agg #[(.int .u64 n398),(.int .u64 n399),(.int .u64 n400),(.int .u64 n401)]),(.int .u8 n402),(.int .i64 c)] h389 (fun v403 h404=>ldI .i64 (some v403) (fun n405=>bcase (n405 !=(0:Int)) (K (.int .i64 40) h404) (K (.int .i64 0) h404)))))))))))) (K (.int .i64 0) h389))) (K (.int .i64 0) h389))) (K (.int .i64 0) h389))))) (ldI .i64 (rd h389 (a.add 0)) (fun n406=>bcase (n406==(3:Int)) (ldI .i64 (rd h389 (a.add 1)) (fun n407=>bcase (n407 !=(9:Int)) (ldI .i64 (rd h389 (a.add 1)) (fun n408=>bcase (n408 !=(10:Int)) (ldI .i64 (rd h389 (a.add 1)) (fun n409=>ldI .i64 (rd h389 (a.add 3)) (fun n410=>(0≤n410∧n410<(Nat.cast 6:Int)∧ldI .u64 (rd h389 (((b.add 0).add (Int.toNat n410*4)).add 0)) (fun n411=>ldI .u64 (rd h389 (((b.add 0).add (Int.toNat n410*4)).add 1)) (fun n412=>ldI .u64 (rd h389 (((b.add 0).add (Int.toNat n410*4)).add 2)) (fun n413=>ldI .u64 (rd h389 (((b.add 0).add (Int.toNat n410*4)).add 3)) (fun n414=>ldI .u8 (rd h389 (a.add 6)) (fun n415=>Cl 98 [(.int .i64 n409),(.agg #[(.int .u64 n411),(.int .u64 n412),(.int .u64 n413),(.int .u64 n414)]),(.int .u8 n415),(.int .i64 c)] h389 (fun v416 h417=>ldI .i64 (some v416) (fun n418=>bcase (n418 !=(0:Int)) (K (.int .i64 40) h417) (K (.int .i64 0) h417)))))))))))) (K (.int .i64 0) h389))) (K (.int .i64 0) h389))) (K (.int .i64 0) h389)))))))))) (bcase (decide (d<(0:Int))) (K (.int .i64 200) h385) (ldI .i64 (rd h385 (a.add 0)) (fun n419=>bcase (n419==(1:Int)) (ldI .u8 (rd h385 (a.add 6)) (fun n420=>bcase (decide ((IntKind.wrap .i64 n420)≥c)) (K (.int .i64 40) h385) (ldI .i64 (rd h385 (a.add 0)) (fun n421=>bcase (n421==(3:Int)) (ldI .i64 (rd h385 (a.add 1)) (fun n422=>bcase (n422 !=(9:Int)) (ldI .i64 (rd h385 (a.add 1)) (fun n423=>bcase (n423 !=(10:Int)) (ldI .i64 (rd h385 (a.add 1)) (fun n424=>ldI .i64 (rd h385 (a.add 3)) (fun n425=>(0≤n425∧n425<(Nat.cast 6:Int)∧ldI .u64 (rd h385 (((b.add 0).add (Int.toNat n425*4)).add 0)) (fun n426=>ldI .u64 (rd h385 (((b.add 0).add (Int.toNat n425*4)).add 1)) (fun n427=>ldI .u64 (rd h385 (((b.add 0).add (Int.toNat n425*4)).add 2)) (fun n428=>ldI .u64 (rd h385 (((b.add 0).add (Int.toNat n425*4)).add 3)) (fun n429=>ldI .u8 (rd h385 (a.add 6)) (fun n430=>Cl 98 [(.int .i64 n424),(.agg #[(.int .u64 n426),(.int .u64 n427),(.int .u64 n428),(.int .u64 n429)]),(.int .u8 n430),(.int .i64 c)] h385 (fun v431 h432=>ldI .i64 (some v431) (fun n433=>bcase (n433 !=(0:Int)) (K (.int .i64 40) h432) (K (.int .i64 0) h432)))))))))))) (K (.int .i64 0) h385))) (K (.int .i64 0) h385))) (K (.int .i64 0) h385))))) (ldI .i64 (rd h385 (a.add 0)) (fun n434=>bcase (n434==(3:Int)) (ldI .i64 (rd h385 (a.add 1)) (fun n435=>bcase (n435 !=(9:Int)) (ldI .i64 (rd h385 (a.add 1)) (fun n436=>bcase (n436 !=(10:Int)) (ldI .i64 (rd h385 (a.add 1)) (fun n437=>ldI .i64 (rd h385 (a.add 3)) (fun n438=>(0≤n438∧n438<(Nat.cast 6:Int)∧ldI .u64 (rd h385 (((b.add 0).add (Int.toNat n438*4)).add 0)) (fun n439=>ldI .u64 (rd h385 (((b.add 0).add (Int.toNat n438*4)).add 1)) (fun n440=>ldI .u64 (rd h385 (((b.add 0).add (Int.toNat n438*4)).add 2)) (fun n441=>ldI .u64 (rd h385 (((b.add 0).add (Int.toNat n438*4)).add 3)) (fun n442=>ldI .u8 (rd h385 (a.add 6)) (fun n443=>Cl 98 [(.int .i64 n437),(.agg #[(.int .u64 n439),(.int .u64 n440),(.int .u64 n441),(.int .u64 n442)]),(.int .u8 n443),(.int .i64 c)] h385 (fun v444 h445=>ldI .i64 (some v444) (fun n446=>bcase (n446 !=(0:Int)) (K (.int .i64 40) h445) (K (.int .i64 0) h445)))))))))))) (K (.int .i64 0) h385))) (K (.int .i64 0) h385))) (K (.int .i64 0) h385))))))))))) (bcase (decide (d>(2:Int))) (ldI .i64 (rd h (a.add 5)) (fun n447=>Cl 97 [(.pointer (some b)),(.int .i64 n447)] h (fun v448 h449=>ldB (some v448) (fun b450=>bcase (!b450) (K (.int .i64 221) h449) (bcase (decide (d<(0:Int))) (K (.int .i64 200) h449) (ldI .i64 (rd h449 (a.add 0)) (fun n451=>bcase (n451==(1:Int)) (ldI .u8 (rd h449 (a.add 6)) (fun n452=>bcase (decide ((IntKind.wrap .i64 n452)≥c)) (K (.int .i64 40) h449) (ldI .i64 (rd h449 (a.add 0)) (fun n453=>bcase (n453==(3:Int)) (ldI .i64 (rd h449 (a.add 1)) (fun n454=>bcase (n454 !=(9:Int)) (ldI .i64 (rd h449 (a.add 1)) (fun n455=>bcase (n455 !=(10:Int)) (ldI .i64 (rd h449 (a.add 1)) (fun n456=>ldI .i64 (rd h449 (a.add 3)) (fun n457=>(0≤n457∧n457<(Nat.cast 6:Int)∧ldI .u64 (rd h449 (((b.add 0).add (Int.toNat n457*4)).add 0)) (fun n458=>ldI .u64 (rd h449 (((b.add 0).add (Int.toNat n457*4)).add 1)) (fun n459=>ldI .u64 (rd h449 (((b.add 0).add (Int.toNat n457*4)).add 2)) (fun n460=>ldI .u64 (rd h449 (((b.add 0).add (Int.toNat n457*4)).add 3)) (fun n461=>ldI .u8 (rd h449 (a.add 6)) (fun n462=>Cl 98 [(.int .i64 n456),(.agg #[(.int .u64 n458),(.int .u64 n459),(.int .u64 n460),(.int .u64 n461)]),(.int .u8 n462),(.int .i64 c)] h449 (fun v463 h464=>ldI .i64 (some v463) (fun n465=>bcase (n465 !=(0:Int)) (K (.int .i64 40) h464) (K (.int .i64 0) h464)))))))))))) (K (.int .i64 0) h449))) (K (.int .i64 0) h449))) (K (.int .i64 0) h449))))) (ldI .i64 (rd h449 (a.add 0)) (fun n466=>bcase (n466==(3:Int)) (ldI .i64 (rd h449 (a.add 1)) (fun n467=>bcase (n467 !=(9:Int)) (ldI .i64 (rd h449 (a.add 1)) (fun n468=>bcase (n468 !=(10:Int)) (ldI .i64 (rd h449 (a.add 1)) (fun n469=>ldI .i64 (rd h449 (a.add 3)) (fun n470=>(0≤n470∧n470<(Nat.cast 6:Int)∧ldI .u64 (rd h449 (((b.add 0).add (Int.toNat n470*4)).add 0)) (fun n471=>ldI .u64 (rd h449 (((b.add 0).add (Int.toNat n470*4)).add 1)) (fun n472=>ldI .u64 (rd h449 (((b.add 0).add (Int.toNat n470*4)).add 2)) (fun n473=>ldI .u64 (rd h449 (((b.add 0).add (Int.toNat n470*4)).add 3)) (fun n474=>ldI .u8 (rd h449 (a.add 6)) (fun n475=>Cl 98 [(.int .i64 n469),(.agg #[(.int .u64 n471),(.int .u64 n472),(.int .u64 n473),(.int .u64 n474)]),(.int .u8 n475),(.int .i64 c)] h449 (fun v476 h477=>ldI .i64 (some v476) (fun n478=>bcase (n478 !=(0:Int)) (K (.int .i64 40) h477) (K (.int .i64 0) h477)))))))))))) (K (.int .i64 0) h449))) (K (.int .i64 0) h449))) (K (.int .i64 0) h449)))))))))) (bcase (decide (d<(0:Int))) (K (.int .i64 200) h) (ldI .i64 (rd h (a.add 0)) (fun n479=>bcase (n479==(1:Int)) (ldI .u8 (rd h (a.add 6)) (fun n480=>bcase (decide ((IntKind.wrap .i64 n480)≥c)) (K (.int .i64 40) h) (ldI .i64 (rd h (a.add 0)) (fun n481=>bcase (n481==(3:Int)) (ldI .i64 (rd h (a.add 1)) (fun n482=>bcase (n482 !=(9:Int)) (ldI .i64 (rd h (a.add 1)) (fun n483=>bcase (n483 !=(10:Int)) (ldI .i64 (rd h (a.add 1)) (fun n484=>ldI .i64 (rd h (a.add 3)) (fun n485=>(0≤n485∧n485<(Nat.cast 6:Int)∧ldI .u64 (rd h (((b.add 0).add (Int.toNat n485*4)).add 0)) (fun n486=>ldI .u64 (rd h (((b.add 0).add (Int.toNat n485*4)).add 1)) (fun n487=>ldI .u64 (rd h (((b.add 0).add (Int.toNat n485*4)).add 2)) (fun n488=>ldI .u64 (rd h (((b.add 0).add (Int.toNat n485*4)).add 3)) (fun n489=>ldI .u8 (rd h (a.add 6)) (fun n490=>Cl 98 [(.int .i64 n484),(.agg #[(.int .u64 n486),(.int .u64 n487),(.int .u64 n488),(.int .u64 n489)]),(.int .u8 n490),(.int .i64 c)] h (fun v491 h492=>ldI .i64 (some v491) (fun n493=>bcase (n493 !=(0:Int)) (K (.int .i64 40) h492) (K (.int .i64 0) h492)))))))))))) (K (.int .i64 0) h))) (K (.int .i64 0) h))) (K (.int .i64 0) h))))) (ldI .i64 (rd h (a.add 0)) (fun n494=>bcase (n494==(3:Int)) (ldI .i64 (rd h (a.add 1)) (fun n495=>bcase (n495 !=(9:Int)) (ldI .i64 (rd h (a.add 1)) (fun n496=>bcase (n496 !=(10:Int)) (ldI .i64 (rd h (a.add 1)) (fun n497=>ldI .i64 (rd h (a.add 3)) (fun n498=>(0≤n498∧n498<(Nat.cast 6:Int)∧ldI .u64 (rd h (((b.add 0).add (Int.toNat n498*4)).add 0)) (fun n499=>ldI .u64 (rd h (((b.add 0).add (Int.toNat n498*4)).add 1)) (fun n500=>ldI .u64 (rd h (((b.add 0).add (Int.toNat n498*4)).add 2)) (fun n501=>ldI .u64 (rd h (((b.add 0).add (Int.toNat n498*4)).add 3)) (fun n502=>ldI .u8 (rd h (a.add 6)) (fun n503=>Cl 98 [(.int .i64 n497),(.agg #[(.int .u64 n499),(.int .u64 n500),(.int .u64 n501),(.int .u64 n502)]),(.int .u8 n503),(.int .i64 c)] h (fun v504 h505=>ldI .i64 (some v504) (fun n506=>bcase (n506 !=(0:Int)) (K (.int .i64 40) h505) (K (.int .i64 0) h505)))))))))))) (K (.int .i64 0) h))) (K (.int .i64 0) h))) (K (.int .i64 0) h)))))))))
theorem Ek15(S:Stop)(b:Addr)(c:Int)(a:Addr)(f:Bool)(d:Int)(h:Heap)(K:KK):(en S [1,1,1,1,1,1,1,1] (fn K) (f15 b c a f d) h)=Jk15 b c a f d h K:=by kernel_rfl
def wk15(b:Addr)(c:Int)(a:Addr)(f:Bool)(d:Int)(h:Heap)(K:KK):Prop:=
 Jk15 b c a f d h K
theorem ek15(K:KK)(b:Addr)(c:Int)(a:Addr)(f:Bool)(d:Int)(h:Heap):(en S0 [1,1,1,1,1,1,1,1] (fn K) (f15 b c a f d) h)=wk15 b c a f d h K:=(Ek15 S0 b c a f d h K).trans (rfl)
def wk11(b:Addr)(c:Int)(a:Addr)(f:Bool)(d:Int)(h:Heap)(K:KK):Prop:=
 Jk11 (fun b c a f d h=>wk15 b c a f d h K) b c a f d h K
theorem ek11(K:KK)(b:Addr)(c:Int)(a:Addr)(f:Bool)(d:Int)(h:Heap):(en S0 [1,1,1,1,1,1,1] (fn K) (f11 b c a f d) h)=wk11 b c a f d h K:=(Ek11 S0 b c a f d h K).trans (cg1 (fun q0=>Jk11 q0 b c a f d h K) (by funext b c a f d h;exact ek15 K b c a f d h))
def wk9(b:Addr)(c:Int)(a:Addr)(f:Bool)(d:Int)(h:Heap)(K:KK):Prop:=
 Jk9 (fun b c a f d h=>wk11 b c a f d h K) b c a f d h K
theorem ek9(K:KK)(b:Addr)(c:Int)(a:Addr)(f:Bool)(d:Int)(h:Heap):(en S0 [1,1,1,1,1,1] (fn K) (f9 b c a f d) h)=wk9 b c a f d h K:=(Ek9 S0 b c a f d h K).trans (cg1 (fun q0=>Jk9 q0 b c a f d h K) (by funext b c a f d h;exact ek11 K b c a f d h))
def wk6(b:Addr)(c:Int)(a:Addr)(f:Bool)(h:Heap)(K:KK):Prop:=
 Jk6 (fun b c a f d h=>wk9 b c a f d h K) b c a f h K
theorem ek6(K:KK)(b:Addr)(c:Int)(a:Addr)(f:Bool)(h:Heap):(en S0 [1,1,1,1] (fn K) (f6 b c a f) h)=wk6 b c a f h K:=(Ek6 S0 b c a f h K).trans (cg1 (fun q0=>Jk6 q0 b c a f h K) (by funext b c a f d h;exact ek9 K b c a f d h))
def w(b:Addr)(g i j l m o q c:Int)(h:Heap)(K:KK):Prop:=
 J0 (fun b c a f h=>wk6 b c a f h K) b g i j l m o q c h K
theorem e0(K:KK)(b:Addr)(g i j l m o q c:Int)(h:Heap):(E Tryz.prog X T S0 body (fin Tryz.prog Tryz.f41.results.toList K) (args0 0 [(.pointer (some b)),(.agg #[(.int .i64 g),(.int .i64 i),(.int .i64 j),(.int .i64 l),(.int .i64 m),(.int .i64 o),(.int .u8 q)]),(.int .i64 c)]) h)=w b g i j l m o q c h K:=(E0 S0 b g i j l m o q c h K).trans (cg1 (fun q0=>J0 q0 b g i j l m o q c h K) (by funext b c a f h;exact ek6 K b c a f h))
theorem hb:Tryz.f41.body=some body:=by kernel_rfl
theorem ok:okCode T Tryz.f41.ntmps body=true:=by kernel_rfl
theorem spec(b:Addr)(g i j l m o q c:Int)(h:Heap)(K:KK)(H:w b g i j l m o q c h K):Cl 41 [(.pointer (some b)),(.agg #[(.int .i64 g),(.int .i64 i),(.int .i64 j),(.int .i64 l),(.int .i64 m),(.int .i64 o),(.int .u8 q)]),(.int .i64 c)] h K:=
 calls_of_E (T:=T) Xok mix Tryz.func41 hb ok rfl (by rw[e0];exact H)
end F41
theorem F97.spec(b:Addr)(a:Int)(h:Heap)(K:KK)(H:bcase (decide (a≥(0:Int))) (bcase (decide (a<(6:Int))) ((0≤a∧a<(Nat.cast 6:Int)∧ldB (rd h ((b.add 24).add (Int.toNat a*1))) fun b1=>K (.bool b1) h)) (K (.bool false) h)) (K (.bool false) h)):Cl 97 [.pointer (some b),.int .i64 a] h K:=cN Tryz.func97 H
end
section
theorem F96.spec(a:Int)(h:Heap)(K:KK)(H:bcase (a==(1:Int)) (bcase (a==(1:Int)) (K (.int .i64 1) h) (bcase (a==(2:Int)) (bcase (a==(2:Int)) (K (.int .i64 2) h) (bcase (a==(5:Int)) (K (.int .i64 3) h) (K (.int .i64 0) h))) (bcase (a==(3:Int)) (bcase (a==(3:Int)) (K (.int .i64 2) h) (bcase (a==(5:Int)) (K (.int .i64 3) h) (K (.int .i64 0) h))) (bcase (a==(4:Int)) (bcase (a==(4:Int)) (K (.int .i64 2) h) (bcase (a==(5:Int)) (K (.int .i64 3) h) (K (.int .i64 0) h))) (bcase (a==(8:Int)) (bcase (a==(8:Int)) (K (.int .i64 2) h) (bcase (a==(5:Int)) (K (.int .i64 3) h) (K (.int .i64 0) h))) (bcase (a==(9:Int)) (bcase (a==(9:Int)) (K (.int .i64 2) h) (bcase (a==(5:Int)) (K (.int .i64 3) h) (K (.int .i64 0) h))) (bcase (a==(10:Int)) (K (.int .i64 2) h) (bcase (a==(5:Int)) (K (.int .i64 3) h) (K (.int .i64 0) h))))))))) (bcase (a==(6:Int)) (bcase (a==(6:Int)) (K (.int .i64 1) h) (bcase (a==(2:Int)) (bcase (a==(2:Int)) (K (.int .i64 2) h) (bcase (a==(5:Int)) (K (.int .i64 3) h) (K (.int .i64 0) h))) (bcase (a==(3:Int)) (bcase (a==(3:Int)) (K (.int .i64 2) h) (bcase (a==(5:Int)) (K (.int .i64 3) h) (K (.int .i64 0) h))) (bcase (a==(4:Int)) (bcase (a==(4:Int)) (K (.int .i64 2) h) (bcase (a==(5:Int)) (K (.int .i64 3) h) (K (.int .i64 0) h))) (bcase (a==(8:Int)) (bcase (a==(8:Int)) (K (.int .i64 2) h) (bcase (a==(5:Int)) (K (.int .i64 3) h) (K (.int .i64 0) h))) (bcase (a==(9:Int)) (bcase (a==(9:Int)) (K (.int .i64 2) h) (bcase (a==(5:Int)) (K (.int .i64 3) h) (K (.int .i64 0) h))) (bcase (a==(10:Int)) (K (.int .i64 2) h) (bcase (a==(5:Int)) (K (.int .i64 3) h) (K (.int .i64 0) h))))))))) (bcase (a==(7:Int)) (K (.int .i64 1) h) (bcase (a==(2:Int)) (bcase (a==(2:Int)) (K (.int .i64 2) h) (bcase (a==(5:Int)) (K (.int .i64 3) h) (K (.int .i64 0) h))) (bcase (a==(3:Int)) (bcase (a==(3:Int)) (K (.int .i64 2) h) (bcase (a==(5:Int)) (K (.int .i64 3) h) (K (.int .i64 0) h))) (bcase (a==(4:Int)) (bcase (a==(4:Int)) (K (.int .i64 2) h) (bcase (a==(5:Int)) (K (.int .i64 3) h) (K (.int .i64 0) h))) (bcase (a==(8:Int)) (bcase (a==(8:Int)) (K (.int .i64 2) h) (bcase (a==(5:Int)) (K (.int .i64 3) h) (K (.int .i64 0) h))) (bcase (a==(9:Int)) (bcase (a==(9:Int)) (K (.int .i64 2) h) (bcase (a==(5:Int)) (K (.int .i64 3) h) (K (.int .i64 0) h))) (bcase (a==(10:Int)) (K (.int .i64 2) h) (bcase (a==(5:Int)) (K (.int .i64 3) h) (K (.int .i64 0) h))))))))))):Cl 96 [.int .i64 a] h K:=cN Tryz.func96 H
end
section
theorem takes96{h:Heap}{x:Int}{K:Value→Heap→Prop}(hK:K (.int .i64 (takesZ x)) h):Cl 96 [.int .i64 x] h K:=by
 refine F96.spec _ h K ?_
 unfold takesZ at hK
 by_cases h1:x=1
 ·subst h1;exact hK
 by_cases h2:x=2
 ·subst h2;exact hK
 by_cases h3:x=3
 ·subst h3;exact hK
 by_cases h4:x=4
 ·subst h4;exact hK
 by_cases h5:x=5
 ·subst h5;exact hK
 by_cases h6:x=6
 ·subst h6;exact hK
 by_cases h7:x=7
 ·subst h7;exact hK
 by_cases h8:x=8
 ·subst h8;exact hK
 by_cases h9:x=9
 ·subst h9;exact hK
 by_cases h10:x=10
 ·subst h10;exact hK
 rw[if_neg (by omega),if_neg (by omega),if_neg h5]at hK
 simp only[eqz h1,eqz h2,eqz h3,eqz h4,eqz h5,eqz h6,eqz h7,eqz h8,eqz h9,eqz h10,bcase_false]
 exact hK
def Mz(L:List Value):Prop:=L[37]? =some (.bool false)∧ ∀i,i<6→L[24+i]? =some (.bool false)
section
variable {h:Heap}{m q:Nat}{c:Cal}{L:List Value}{K:Value→Heap→Prop}{x8:Int}{t:Bool}
theorem reg97_none{x:Int}(A:At h m L)(Z:Mz L)(hK:K (.bool false) h):Cl 97 [ptrV m,.int .i64 x] h K:=by
 refine F97.spec _ _ h K ?_
 refine bcase_of (fun p=>bcase_of (fun q=> ?_) fun _=>hK) fun _=>hK
 have p:=of_decide_eq_true p
 have q:=of_decide_eq_true q
 refine⟨by omega,by omega,ldB_of (n:=false) ?_ hK⟩
 rw[add_mk,add_mk,At.rd A,show 0+24+Int.toNat x*1=24+x.toNat by omega]
 exact Z.2 _ (by omega)
def calR(c:Cal):List Value:=[.int .i64 c.kind,.int .i64 c.op,.int .i64 c.dst,.int .i64 c.a,.int .i64 c.b,.int .i64 c.c,.int .u8 (c.mask:Int)]
theorem due_regs(A:At h m L)(Z:Mz L)(B:At h q (calR c))(h8:0<x8)(hK:K (.int .i64 221) h):F41.wk15 ⟨m,0,none⟩ 4 ⟨q,0,none⟩ t x8 h K:=by
 have r: ∀k,rd h ⟨q,k,none⟩=(calR c)[k]? :=fun k=>At.rd B k
 unfold F41.wk15 F41.Jk15
 simp only[add_mk,Nat.zero_add]
 rw[decide_eq_true (show x8>0 by omega),bcase_true]
 cases t with
 |true=>
  rw[bcase_true]
  refine ldI_of (n:=c.dst) (by rw[r];rfl) (bcase_of (fun _=>hK) fun _=>ldI_of (n:=c.dst) (by rw[r];rfl) (bcase_of (fun _=>hK) fun _=> ?_))
  refine ldI_of (n:=c.a) (by rw[r];rfl) (reg97_none A Z (ldB_of rfl ?_))
  rw[Bool.not_false,bcase_true]
  exact hK
 |false=>
  rw[bcase_false]
  refine ldI_of (n:=c.a) (by rw[r];rfl) (reg97_none A Z (ldB_of rfl ?_))
  rw[Bool.not_false,bcase_true]
  exact hK
theorem due_dst(B:At h q (calR c))(hb: ¬isR c.dst)(hK:K (.int .i64 221) h):F41.wk15 ⟨m,0,none⟩ 4 ⟨q,0,none⟩ true x8 h K:=by
 have r: ∀k,rd h ⟨q,k,none⟩=(calR c)[k]? :=fun k=>At.rd B k
 unfold F41.wk15 F41.Jk15
 simp only[add_mk,Nat.zero_add]
 rw[bcase_true]
 refine ldI_of (n:=c.dst) (by rw[r];rfl) (bcase_of (fun _=>hK) fun p=>ldI_of (n:=c.dst) (by rw[r];rfl) (bcase_of (fun _=>hK) fun p'=> ?_))
 have p:=of_decide_eq_false p
 have p':=of_decide_eq_false p'
 exact absurd ⟨by omega,by omega⟩ hb
theorem due_neg(B:At h q (calR c))(hb:isR c.dst)(hK:K (.int .i64 200) h):F41.wk15 ⟨m,0,none⟩ 4 ⟨q,0,none⟩ true (-1) h K:=by
 have r: ∀k,rd h ⟨q,k,none⟩=(calR c)[k]? :=fun k=>At.rd B k
 unfold isR at hb
 unfold F41.wk15 F41.Jk15
 simp only[add_mk,Nat.zero_add]
 rw[bcase_true]
 refine ldI_of (n:=c.dst) (by rw[r];rfl) ?_
 rw[decide_eq_false (by omega),bcase_false]
 refine ldI_of (n:=c.dst) (by rw[r];rfl) ?_
 rw[decide_eq_false (by omega),bcase_false]
 exact hK
theorem due_zero(B:At h q (calR c))(hm:c.mask<256)(hb:t=true→isR c.dst)(k3:c.kind≠3)(hK:K (.int .i64 (if c.kind=1∧4≤c.mask then 40 else 0)) h):F41.wk15 ⟨m,0,none⟩ 4 ⟨q,0,none⟩ t 0 h K:=by
 have r: ∀k,rd h ⟨q,k,none⟩=(calR c)[k]? :=fun k=>At.rd B k
 unfold isR at hb
 unfold F41.wk15 F41.Jk15
 simp only[add_mk,Nat.zero_add]
 rw[show decide ((0:Int)>0)=false from rfl,show decide ((0:Int)>1)=false from rfl,show decide ((0:Int)>2)=false from rfl]
 simp only[bcase_false]
 have ew:IntKind.wrap .i64 (c.mask:Int)=(c.mask:Int):=wrap_i64 (by omega) (by omega)
 have e3:(c.kind==(3:Int))=false:=by simpa using k3
 have tail: ∀(A1 A2:Int→Prop),ldI .i64 (rd h ⟨q,0,none⟩) (fun n30=>bcase (n30==(1:Int)) (ldI .u8 (rd h ⟨q,6,none⟩) (fun n31=>bcase (decide ((IntKind.wrap .i64 n31)≥4)) (K (.int .i64 40) h) (ldI .i64 (rd h ⟨q,0,none⟩) (fun n32=>bcase (n32==(3:Int)) (A1 n32) (K (.int .i64 0) h))))) (ldI .i64 (rd h ⟨q,0,none⟩) (fun n33=>bcase (n33==(3:Int)) (A2 n33) (K (.int .i64 0) h)))):=by
  intro A1 A2
  refine ldI_of (n:=c.kind) (by rw[r];rfl) ?_
  by_cases k1:c.kind=1
  ·rw[show(c.kind==(1:Int))=true by simpa using k1,bcase_true]
   refine ldI_of (n:=(c.mask:Int)) (by rw[r];rfl) ?_
   rw[ew]
   refine bcase_of (fun p=> ?_) fun p=>ldI_of (n:=c.kind) (by rw[r];rfl) ?_
   ·have p:=of_decide_eq_true p
    rw[if_pos ⟨k1,by omega⟩]at hK
    exact hK
   ·have p:=of_decide_eq_false p
    rw[if_neg (fun w=>by have:=w.2;omega)]at hK
    rw[e3,bcase_false]
    exact hK
  ·rw[show(c.kind==(1:Int))=false by simpa using k1,bcase_false]
   refine ldI_of (n:=c.kind) (by rw[r];rfl) ?_
   rw[if_neg (fun w=>k1 w.1)]at hK
   rw[e3,bcase_false]
   exact hK
 cases t with
 |true=>
  have hb:=hb rfl
  rw[bcase_true]
  refine ldI_of (n:=c.dst) (by rw[r];rfl) ?_
  rw[decide_eq_false (by omega),bcase_false]
  refine ldI_of (n:=c.dst) (by rw[r];rfl) ?_
  rw[decide_eq_false (by omega),bcase_false]
  exact tail _ _
 |false=>
  rw[bcase_false]
  exact tail _ _
theorem due41{x:Ses}(A:At h m L)(Z:Mz L)(hm:c.mask<256)(emp: ∀r,x.there r=false)(hK: ∀h',Only [] h h'→K (.int .i64 (refu 4 x c)) h'):Cl 41 [ptrV m,calV c,.int .i64 4] h K:=by
 refine F41.spec _ _ _ _ _ _ _ _ _ h K ?_
 unfold F41.w F41.J0
 refine newK_at fun h1 B O1 z1=> ?_
 have B:At h1 h.size (calR c):=B
 have A1:=A.only O1 (by simp)
 have hK:=hK h1 O1
 have r: ∀k,rd h1 ⟨h.size,k,none⟩=(calR c)[k]? :=fun k=>At.rd B k
 have r0:rd h1 ⟨h.size,0,none⟩=some (.int .i64 c.kind):=by rw[r];rfl
 simp only[add_mk,Nat.zero_add]
 refine ldB_of (n:=false) (by rw[At.rd A1];exact Z.1) ?_
 rw[bcase_false]
 refine ldI_of r0 (bcase_of (fun p=> ?_) fun p=>ldI_of r0 (bcase_of (fun p'=> ?_) fun p'=> ?_))
 ·have p:=of_decide_eq_true p
  unfold refu at hK
  rw[if_pos (by omega)]at hK
  exact hK
 ·have p':=of_decide_eq_true p'
  unfold refu at hK
  rw[if_pos (by omega)]at hK
  exact hK
 have p:=of_decide_eq_false p
 have p':=of_decide_eq_false p'
 have nr: ∀{y},y∈rds c→ ¬rdsOk x c:=fun {y} hy w=>by
  have:=(w y hy).2
  rw[emp]at this
  cases this
 have Kr:(rds c≠[])→K (.int .i64 221) h1:=fun hne=>by
  obtain⟨y,l,e⟩: ∃y l,rds c=y::l:=by
   cases hh:rds c with
   |nil=>exact absurd hh hne
   |cons y l=>exact⟨y,l,rfl⟩
  have nok:=nr (y:=y) (by rw[e];simp)
  unfold refu at hK
  rw[if_neg (by omega)]at hK
  by_cases w:wrK c.kind∧ ¬isR c.dst
  ·rw[if_pos w]at hK;exact hK
  ·rw[if_neg w,if_pos nok]at hK;exact hK
 have Kd:wrK c.kind→ ¬isR c.dst→K (.int .i64 221) h1:=fun w1 w2=>by
  unfold refu at hK
  rw[if_neg (by omega),if_pos ⟨w1,w2⟩]at hK
  exact hK
 have K0:rds c=[]→(wrK c.kind→isR c.dst)→K (.int .i64 (refu2 4 c)) h1:=fun e w=>by
  unfold refu at hK
  rw[if_neg (by omega),if_neg (fun z=>z.2 (w z.1)),if_neg (fun z=>z fun y hy=>by rw[e]at hy;cases hy)]at hK
  exact hK
 have last: ∀(t:Bool),(t=true↔wrK c.kind)→F41.wk6 ⟨m,0,none⟩ 4 ⟨h.size,0,none⟩ t h1 K:=fun t ht=>by
  unfold F41.wk6 F41.Jk6
  simp only[add_mk,Nat.zero_add]
  refine ldI_of r0 ?_
  have nine: ∀x8:Int,(c.kind=5→0<x8)→(c.kind=4→0<x8)→(c.kind≠4→c.kind≠5→x8=0)→F41.wk11 ⟨m,0,none⟩ 4 ⟨h.size,0,none⟩ t x8 h1 K:=fun x8 h5 h4 h0=>by
   unfold F41.wk11 F41.Jk11
   simp only[add_mk,Nat.zero_add]
   refine ldI_of r0 ?_
   by_cases k3:c.kind=3
   ·rw[show(c.kind==(3:Int))=true by simpa using k3,bcase_true]
    refine ldI_of (n:=c.op) (by rw[r];rfl) (takes96 (ldI_of rfl ?_))
    have tt:t=true:=ht.2 (by rw[k3];unfold wrK;omega)
    subst tt
    have er:rds c=[c.a,c.b,c.c].take (takesZ c.op).toNat:=by unfold rds;rw[if_neg (by omega),if_neg (by omega),if_pos k3]
    by_cases z:takesZ c.op=0
    ·rw[show(takesZ c.op==(0:Int))=true by simpa using z,bcase_true]
     by_cases hb:isR c.dst
     ·refine due_neg B hb ?_
      have:=K0 (by rw[er,z];rfl) (fun _=>hb)
      unfold refu2 at this
      rw[if_pos ⟨k3,z⟩]at this
      exact this
     ·exact due_dst B hb (Kd (by rw[k3];unfold wrK;omega) hb)
    ·rw[show(takesZ c.op==(0:Int))=false by simpa using z,bcase_false]
     have pos:0<takesZ c.op:=by unfold takesZ at z ⊢;repeat' split<;>omega
     refine due_regs A1 Z B pos (Kr ?_)
     rw[er]
     obtain⟨j,hj⟩: ∃j,(takesZ c.op).toNat=j+1:=⟨(takesZ c.op).toNat-1,by omega⟩
     rw[hj]
     simp
   ·rw[show(c.kind==(3:Int))=false by simpa using k3,bcase_false]
    by_cases h45:c.kind=4∨c.kind=5
    ·refine due_regs A1 Z B (by rcases h45 with q|q;exact h4 q;exact h5 q) (Kr ?_)
     unfold rds
     rcases h45 with q|q
     ·rw[if_pos q];simp
     ·rw[if_neg (by omega),if_pos q];simp
    ·have e0:=h0 (by omega) (by omega)
     subst e0
     have er:rds c=[]:=by unfold rds;rw[if_neg (by omega),if_neg (by omega),if_neg k3]
     by_cases hb:wrK c.kind→isR c.dst
     ·refine due_zero B hm (fun e=>hb (ht.1 e)) k3 ?_
      have:=K0 er hb
      unfold refu2 at this
      rw[if_neg (fun w=>k3 w.1)]at this
      by_cases w:c.kind=1∧4≤c.mask
      ·rw[if_pos ⟨.inl w.1,w.2⟩]at this
       rw[if_pos w];exact this
      ·rw[if_neg (fun z=>w ⟨by rcases z.1 with q|q;exact q;exact absurd q.1 k3,z.2⟩),if_neg (fun z=>k3 z.1)]at this
       rw[if_neg w];exact this
     ·have w1:wrK c.kind:=Classical.byContradiction fun n=>hb fun w=>absurd w n
      have w2: ¬isR c.dst:=fun n=>hb fun _=>n
      have tt:t=true:=ht.2 w1
      subst tt
      exact due_dst B w2 (Kd w1 w2)
  have five: ∀x8:Int,(c.kind=4→0<x8)→(c.kind≠4→x8=0)→F41.wk9 ⟨m,0,none⟩ 4 ⟨h.size,0,none⟩ t x8 h1 K:=fun x8 h4 h0=>by
   unfold F41.wk9 F41.Jk9
   simp only[add_mk,Nat.zero_add]
   refine ldI_of r0 (bcase_of (fun q=> ?_) fun q=> ?_)
   ·have q:c.kind=5:=by simpa using q
    exact nine 2 (fun _=>by decide) (fun e=>by omega) fun _ e=>absurd q e
   ·have q: ¬c.kind=5:=by simpa using q
    exact nine x8 (fun e=>absurd e q) h4 fun e _=>h0 e
  refine bcase_of (fun q=> ?_) fun q=> ?_
  ·have q:c.kind=4:=by simpa using q
   exact five 1 (fun _=>by decide) fun e=>absurd q e
  ·have q: ¬c.kind=4:=by simpa using q
   exact five 0 (fun e=>absurd e q) fun _=>rfl
 refine ldI_of r0 (bcase_of (fun q=> ?_) fun q=>ldI_of r0 (bcase_of (fun q'=> ?_) fun q'=>ldI_of r0 (bcase_of (fun q2=> ?_) fun q2=>ldI_of r0 ?_)))
 ·have q:c.kind=1:=by simpa using q
  exact last true ⟨fun _=>by rw[q];unfold wrK;omega,fun _=>rfl⟩
 ·have q':c.kind=2:=by simpa using q'
  exact last true ⟨fun _=>by rw[q'];unfold wrK;omega,fun _=>rfl⟩
 ·have q2:c.kind=3:=by simpa using q2
  exact last true ⟨fun _=>by rw[q2];unfold wrK;omega,fun _=>rfl⟩
 ·have q: ¬c.kind=1:=by simpa using q
  have q': ¬c.kind=2:=by simpa using q'
  have q2: ¬c.kind=3:=by simpa using q2
  refine last _ ⟨fun e=> ?_,fun w=> ?_⟩
  ·have e:c.kind=6:=by simpa using e
   exact .inr e
  ·unfold wrK at w
   have:c.kind=6:=by omega
   simpa using this
end
end
section
noncomputable def RK(m:Nat)(K:Value→Heap→Prop)(v:Nat):Value→Heap→Prop:=fun r h2=>ldB (some r) fun b=>bcase (!b) (F64.wL5 v (some ⟨m,0,none⟩) (.func (.func 114) #[ptrV m] #[]) h2 K) (F64.wk6 (some ⟨m,0,none⟩) h2 K)
noncomputable def Rn(m:Nat)(K:Value→Heap→Prop)(d:Nat)(h:Heap):Prop:= ∀c u v:Nat,d≤u→d≤v→F114.wL2 u ⟨m,0,none⟩ (c:Int) h (RK m K v)
section
variable {h h' h0:Heap}{s n room d:Nat}{fo gg:Nat→Nat}{off:Bool}{N N' N0:List (Option Nd)}{A A':MA}{fl:List Fk}{fr:Fk}{K:Value→Heap→Prop}{L L' L0:List Nat}{Y:SX}
structure RS(h0:Heap)(L0:List Nat)(N0:List (Option Nd))(s n room:Nat)(fo gg:Nat→Nat)(off:Bool)(h:Heap)(L:List Nat)(N:List (Option Nd))(A:MA):Prop where
 S:Sto h s L (XL n room fo gg N off)
 M:MaIs h s A
 D: ∀b∈A.bl,b∉L
 O:Only L0 h0 h
 g:Fresh L0 L h0
 b: ∀x∈A.bl,h0.size≤x
 E:Ex N0 N
end
end
section
def FullK(h0:Heap)(L0:List Nat)(N0:List (Option Nd))(s n room:Nat)(fo gg:Nat→Nat)(off:Bool)(m:Nat)(K:Value→Heap→Prop):Prop:=
 ∀h' L' N' A',A'.m=m→RS h0 L0 N0 s n room fo gg off h' L' N' A'→A'.fs=[]→A'.done=true→A'.e=60→Rn m K 1 h'
def jc:Nat→Nat
 |0=>1
 |k+1=>2*jc k+3
section
variable {h0:Heap}{s n room m:Nat}{fo gg:Nat→Nat}{off:Bool}{N0:List (Option Nd)}{K:Value→Heap→Prop}{L0:List Nat}
end
end
section
end
section
section
variable {h:Heap}{s n room:Nat}{fo gg:Nat→Nat}{off:Bool}{N:List (Option Nd)}{A:MA}{fl:List Fk}{fr:Fk}{K:Value→Heap→Prop}{L:List Nat}
end
end
section
section
variable {h:Heap}{s n room:Nat}{fo gg:Nat→Nat}{off:Bool}{N:List (Option Nd)}{A:MA}{fl:List Fk}{fr:Fk}{K:Value→Heap→Prop}{L:List Nat}
end
end
section
section
variable {n room:Nat}{fo:Nat→Nat}{N N':List (Option Nd)}{op mask a lo hi r:Nat}
end
def qc(n:Nat):Nat→Nat
 |0=>1
 |k+1=>2*qc n k+jc n+4
section
variable {h0 h:Heap}{s n room m:Nat}{fo gg:Nat→Nat}{off:Bool}{N0 N:List (Option Nd)}{K:Value→Heap→Prop}{L0 L:List Nat}{A:MA}{fl:List Fk}{fr:Fk}
end
end
section
section
variable {h:Heap}{s n room:Nat}{fo gg:Nat→Nat}{off:Bool}{N:List (Option Nd)}{A:MA}{fl:List Fk}{fr:Fk}{K:Value→Heap→Prop}{L:List Nat}
end
end
section
section
variable {n:Nat}{fo:Nat→Nat}{N N':List (Option Nd)}{at_ g a lo hi v r:Nat}
end
def cc(n:Nat):Nat→Nat
 |0=>jc n+1
 |k+1=>2*cc n k+jc n+5
section
variable {h0:Heap}{s n room m:Nat}{fo gg:Nat→Nat}{off:Bool}{N0:List (Option Nd)}{K:Value→Heap→Prop}{L0:List Nat}
end
end
section
section
variable {n:Nat}{fo:Nat→Nat}{N N':List (Option Nd)}{a lo hi v r:Nat}
end
section
variable {h:Heap}{s n room:Nat}{fo gg:Nat→Nat}{off:Bool}{N:List (Option Nd)}{A:MA}{fl:List Fk}{fr:Fk}{K:Value→Heap→Prop}{L:List Nat}
end
section
variable {h0:Heap}{s n room m:Nat}{fo gg:Nat→Nat}{off:Bool}{N0:List (Option Nd)}{K:Value→Heap→Prop}{L0:List Nat}
end
end
section
def laid(A:MA)(fl:List Fk)(fr:Fk)(nx:Nat)(fp:Option Addr)(fc b op mask a0 a1 q:Nat):MA:={A with fp:=fp,fc:=fc,fs:=fl++[{fr with fn:=nx}]++[⟨b,op,mask,a0,a1,0,0,0,q⟩]}
section
variable {h:Heap}{s n room:Nat}{fo gg:Nat→Nat}{off:Bool}{N:List (Option Nd)}{A:MA}{fl:List Fk}{fr:Fk}{K:Value→Heap→Prop}{L:List Nat}
end
end
section
section
variable {h0:Heap}{s n room m:Nat}{fo gg:Nat→Nat}{off:Bool}{N0:List (Option Nd)}{K:Value→Heap→Prop}{L0:List Nat}
end
end
section
section
variable {h:Heap}{s n room a b c op:Nat}{fo gg:Nat→Nat}{off:Bool}{N:List (Option Nd)}{K:Value→Heap→Prop}{L:List Nat}{X:SX}
end
end
section
section
variable {h:Heap}{s n room a b c op mask d:Nat}{fo gg:Nat→Nat}{off:Bool}{N:List (Option Nd)}{K:Value→Heap→Prop}{L:List Nat}{A:MA}{Y:SX}
end
end
section
namespace F271
noncomputable def XX:List (Nat×Ext):=(1000023,.ent 46 218)::X
theorem XXok:XOk Tryz.prog XX:=Xok.ent
def T:Hint:=⟨[(6,[0,8,23])],[]⟩
noncomputable def body:Code:=(Tryz.f271.body).getD .skip
noncomputable def en(S:Stop)(p:List Nat)(κ:XK):Fr→Heap→Prop:=E Tryz.prog XX T S (sub body p) κ
noncomputable def ln(S:Stop)(p:List Nat)(κ:XK)(n:Nat):Fr→Heap→Prop:=loopN S (E Tryz.prog XX T S (sub body p)) (cutQ T (sub body p)) κ n
def fn(K:KK):XK:=fin Tryz.prog Tryz.f271.results.toList K
noncomputable def c0(S:Stop)(K:KK):XK:=seqN S (cutQ T (sub body [1,1,1,1,1])) (en S [1,1,1,1,1] (fn K)) (fn K)
noncomputable def c1(S:Stop)(K:KK):XK:=blockN 0 (c0 S K)
noncomputable def c2(S:Stop)(n6:Nat)(K:KK):XK:=backN S (cutQ T (sub body [1,1,1,1,0,1,0,0])) (ln S [1,1,1,1,0,1,0,0] (c1 S K) n6) (c1 S K)
def f6(f:Addr)(b:Option Addr)(a d:Nat)(c:Option Addr):Fr:=[(0,(.pointer (some f))),(8,(.slice b a d)),(23,(.pointer c))]
def J0(k6:Addr→(Option Addr)→Nat→Nat→(Option Addr)→Heap→Prop)(f:Addr)(j:Option Addr)(i g:Nat)(h:Heap)(K:KK):Prop:=
 Cl 107 [(.pointer (some f)),(.slice j i g)] h (fun v1 h2=>(∃r3:Option Nat,∃n4:Int,v1=(.tuple #[(.map r3),(.int .i64 n4)])∧bcase (n4 !=(0:Int)) (K (.tuple #[(.slice none 0 0),(.int .i64 n4)]) h2) (Cl 75 [(.pointer (some f))] h2 (fun v5 h6=>ldI .i64 (some v5) (fun n7=>(0≤n7∧n7≤n7∧((Nat.cast 8:Int)*n7≤281474976710656)∧n7≤9223372036854775807∧newK h6 (.cells (madeCells #[(.int .i64 0)] (Int.toNat n7*1)) 3) (fun b8 h9=>rngK h9 r3 (fun p10 h11=>k6 f (some (Addr.mk b8 0 none)) (Int.toNat n7) (Int.toNat n7) p10 h11))))))))
theorem E0(S:Stop)(f:Addr)(j:Option Addr)(i g:Nat)(h:Heap)(K:KK):(E Tryz.prog XX T S body (fin Tryz.prog Tryz.f271.results.toList K) (args0 0 [(.pointer (some f)),(.slice j i g)]) h)=J0 (fun f b a d c h=>S (en S [1,1,1,1,0,1] (c0 S K)) (f6 f b a d c) h) f j i g h K:=by kernel_rfl
def Jk6(lp6:Addr→(Option Addr)→Nat→Nat→(Option Addr)→Heap→Prop)(f:Addr)(b:Option Addr)(a d:Nat)(c:Option Addr)(h:Heap)(_K:KK):Prop:=
 lp6 f b a d c h
theorem Ek6(S:Stop)(f:Addr)(b:Option Addr)(a d:Nat)(c:Option Addr)(h:Heap)(K:KK):(en S [1,1,1,1,0,1] (c0 S K) (f6 f b a d c) h)=Jk6 (fun f b a d c h=> ∃n,S (ln S [1,1,1,1,0,1,0,0] (c1 S K) n) (f6 f b a d c) h) f b a d c h K:=by kernel_rfl
def JL6(bk6:Addr→(Option Addr)→Nat→Nat→(Option Addr)→Heap→Prop)(f:Addr)(b:Option Addr)(a d:Nat)(c:Option Addr)(h:Heap)(K:KK):Prop:=
 nxtK h c (K (.tuple #[(.slice b a d),(.int .i64 0)]) h) (fun _ _ h3=>entrK h3 c (fun v4 v5=>(∃n7:Int,(.tuple #[v4,v5])=((.tuple #[(.int .u32 n7),(.agg #[])]):Value)∧Cl 71 [(.pointer (some f)),(.int .u32 n7)] h3 (fun v8 h9=>ldI .i64 (some v8) (fun n10=>ptrK b (fun a11=>(0≤n10∧n10<(Nat.cast a:Int)∧ldI .i64 (rd h9 (a11.add (Int.toNat n10*1))) (fun n12=>ptrK b (fun a13=>(0≤n10∧n10<(Nat.cast a:Int)∧stK h9 ((a13.add (Int.toNat n10*1)).add 0) (.int .i64 (IntKind.wrap .i64 (n12+(1:Int)))) (fun h14=>bk6 f b a d c h14)))))))))))
theorem EL6(S:Stop)(n6:Nat)(f:Addr)(b:Option Addr)(a d:Nat)(c:Option Addr)(h:Heap)(K:KK):(en S [1,1,1,1,0,1,0,0] (c2 S n6 K) (f6 f b a d c) h)=JL6 (fun f b a d c h=>S (ln S [1,1,1,1,0,1,0,0] (c1 S K) n6) (f6 f b a d c) h) f b a d c h K:=by kernel_rfl
def wL6:Nat→Addr→(Option Addr)→Nat→Nat→(Option Addr)→Heap→KK→Prop
 |0,_,_,_,_,_,_,_=>False
 |n+1,f,b,a,d,c,h,K=>JL6 (fun f b a d c h=>wL6 n f b a d c h K) f b a d c h K
theorem eL6(K:KK): ∀(n:Nat) (f:Addr) (b:Option Addr) (a d:Nat) (c:Option Addr) (h:Heap),(ln S0 [1,1,1,1,0,1,0,0] (c1 S0 K) n (f6 f b a d c) h)=wL6 n f b a d c h K
 |0,_,_,_,_,_,_=>rfl
 |n+1,f,b,a,d,c,h=>(EL6 S0 n f b a d c h K).trans (cg1 (fun q0=>JL6 q0 f b a d c h K) (by funext f b a d c h;exact(fun f b a d c h=>eL6 K n f b a d c h) f b a d c h))
def wk6(f:Addr)(b:Option Addr)(a d:Nat)(c:Option Addr)(h:Heap)(K:KK):Prop:=
 Jk6 (fun f b a d c h=> ∃m,wL6 m f b a d c h K) f b a d c h K
theorem ek6(K:KK)(f:Addr)(b:Option Addr)(a d:Nat)(c:Option Addr)(h:Heap):(en S0 [1,1,1,1,0,1] (c0 S0 K) (f6 f b a d c) h)=wk6 f b a d c h K:=(Ek6 S0 f b a d c h K).trans (cg1 (fun q0=>Jk6 q0 f b a d c h K) (by funext f b a d c h;exact ex_congr fun m=>eL6 K m f b a d c h))
def w(f:Addr)(j:Option Addr)(i g:Nat)(h:Heap)(K:KK):Prop:=
 J0 (fun f b a d c h=>wk6 f b a d c h K) f j i g h K
theorem e0(K:KK)(f:Addr)(j:Option Addr)(i g:Nat)(h:Heap):(E Tryz.prog XX T S0 body (fin Tryz.prog Tryz.f271.results.toList K) (args0 0 [(.pointer (some f)),(.slice j i g)]) h)=w f j i g h K:=(E0 S0 f j i g h K).trans (cg1 (fun q0=>J0 q0 f j i g h K) (by funext f b a d c h;exact ek6 K f b a d c h))
theorem hb:Tryz.f271.body=some body:=by kernel_rfl
theorem ok:okCode T Tryz.f271.ntmps body=true:=by kernel_rfl
theorem spec(f:Addr)(j:Option Addr)(i g:Nat)(h:Heap)(K:KK)(H:w f j i g h K):Cl 271 [(.pointer (some f)),(.slice j i g)] h K:=
 calls_of_E (T:=T) XXok mix Tryz.func271 hb ok rfl (by rw[e0];exact H)
end F271
def F107.T:Hint:=⟨[(5,[1,2,6,7,14,15,16]),(10,[1,6,7]),(11,[6,7,25,26,27])],[]⟩
section
variable (n:Nat)(y:Addr)(c:Option Addr)(a b:Nat)(v t u:Addr)(f:Option Addr)(d o:Nat)(r g:Int)(j:Option Addr)(i q:Nat)(s l:Int)(h:Heap)(K:KK)
def F107.wL11:Prop:=Lp Tryz.f107 F107.T [1,1,1,1,1,0,1,0] n [(6,(.pointer (some t))),(7,(.pointer (some u))),(25,(.slice j i q)),(26,(.int .i64 s)),(27,(.int .i64 l))] h K
theorem F107.sL11:F107.wL11 (n+1) t u j i q s l h K=(bcase (decide (l<s)) (ptrK j fun a1=>0≤l∧l<(Nat.cast i:Int)∧ldI .u32 (rd h (a1.add (Int.toNat l*1))) fun n2=>ldV (rd h u) fun v3=>dynK Tryz.prog X v3 [.int .u32 n2] h fun v4 h5=>v4=(.tuple #[])∧F107.wL11 n t u j i q s (IntKind.wrap .i64 (l+(1:Int))) h5 K) (ldM (rd h t) fun r6=>K (.tuple #[.map r6,.int .i64 0]) h)):=by kernel_rfl
def F107.wk11:Prop:=(∃m,F107.wL11 m t u j i q s l h K)
def F107.wk10:Prop:=F107.wk11 t u c a b (Nat.cast a:Int) (0:Int) h K
def F107.wL5:Prop:=Lp Tryz.f107 F107.T [1,1,1,1,0,1,0] n [(1,(.slice c a b)),(2,(.pointer (some v))),(6,(.pointer (some t))),(7,(.pointer (some u))),(14,(.slice f d o)),(15,(.int .i64 r)),(16,(.int .i64 g))] h K
theorem F107.sL5:F107.wL5 (n+1) c a b v t u f d o r g h K=(bcase (decide (g<r)) (ptrK f fun a1=>0≤g∧g<(Nat.cast d:Int)∧ldI .u32 (rd h (a1.add (Int.toNat g*1))) fun n2=>ldP (rd h v) fun p3=>Cl 74 [.pointer p3,.int .u32 n2] h fun v4 h5=>ldB (some v4) fun b6=>bcase (!b6) (K (.tuple #[.map none,.int .i64 101]) h5) (F107.wL5 n c a b v t u f d o r (IntKind.wrap .i64 (g+(1:Int))) h5 K)) (F107.wk10 c a b t u h K)):=by kernel_rfl
def F107.wk5:Prop:=(∃m,F107.wL5 m c a b v t u f d o r g h K)
theorem F107.spec(H:newK h (.cells #[.pointer (some y)] 33) fun b1 h2=>newK h2 (.map #[] 0) fun b3 h4=>newK h4 (.cells #[.map none] 191) fun b5 h6=>stK h6 ((Addr.mk b5 0 none).add 0) (.map (some b3)) fun h7=>newK h7 (.cells #[.nilFunc] 244) fun b8 h9=>stK h9 ((Addr.mk b8 0 none).add 0) (.func (.func 158) #[] #[.pointer (some (Addr.mk b5 0 none)),.pointer (some (Addr.mk b8 0 none)),.pointer (some (Addr.mk b1 0 none))]) fun h10=>F107.wk5 c a b (Addr.mk b1 0 none) (Addr.mk b5 0 none) (Addr.mk b8 0 none) c a b (Nat.cast a:Int) (0:Int) h10 K):Cl 107 [.pointer (some y),.slice c a b] h K:=cT F107.T Tryz.func107 H
end
end
section
def F158.T:Hint:=⟨[(2,[0,1,2,3])],[(3,[[(0,[]),(1,[]),(2,[]),(3,[0]),(4,[])]]),(4,[[(0,[]),(1,[]),(2,[]),(3,[0]),(4,[])]])]⟩
section
variable (a:Int)(c b d:Addr)(h:Heap)(K:KK)
def F158.wk2:Prop:=ldM (rd h c) fun r1=>updK h r1 .u32 .u32 a (.agg #[]) fun h2=>ldV (rd h2 b) fun v3=>ldP (rd h2 d) fun p4=>Cl 72 [.pointer p4,.int .u32 a] h2 fun v5 h6=>ldI .u32 (some v5) fun n7=>ldV (rd h6 b) fun v8=>v8=(v3:Value)∧dynK Tryz.prog X v3 [.int .u32 n7] h6 fun v9 h10=>v9=(.tuple #[])∧ldV (rd h10 b) fun v11=>ldP (rd h10 d) fun p12=>Cl 73 [.pointer p12,.int .u32 a] h10 fun v13 h14=>ldI .u32 (some v13) fun n15=>ldV (rd h14 b) fun v16=>v16=(v11:Value)∧dynK Tryz.prog X v11 [.int .u32 n15] h14 fun v17 h18=>v17=(.tuple #[])∧K (.tuple #[]) h18
theorem F158.spec(a:Int)(c b d:Addr)(h:Heap)(K:KK)(H:ldM (rd h c) fun r1=>lookK h r1 .u32 .u32 a fun o2=>ldV (some (lkV (.agg #[]) o2)) fun v3=>newK h (.cells #[] 218) fun b4 h5=>storeE Tryz.prog 218 (some (Addr.mk b4 0 none)) v3 h5 fun h6=>bcase (Option.isSome o2) (K (.tuple #[]) h6) (bcase (decide (a≤(1:Int))) (K (.tuple #[]) h6) (F158.wk2 a c b d h6 K))):Cl 158 [.int .u32 a,.pointer (some c),.pointer (some b),.pointer (some d)] h K:=cT F158.T Tryz.func158 H
end
end
section
def F268.T:Hint:=⟨[(3,[0,1,5,14,15,16]),(12,[0,5])],[]⟩
section
variable (n:Nat)(f:Addr)(i:Option Nat)(j:Int)(c:Option Addr)(b d:Nat)(g a:Int)(h:Heap)(K:KK)
def F268.wk12:Prop:=ldP (rd h (f.add 6)) fun p1=>Cl 113 [.pointer p1] h fun v2 h3=>v2=(.tuple #[])∧ldP (rd h3 (f.add 4)) fun p4=>Cl 200 [.pointer p4] h3 fun v5 h6=>ldI .i64 (some v5) fun n7=>Cl 111 [.pointer (some f),.int .i64 (if n7>(32:Int)then n7 else(32:Int)),.slice none 0 0] h6 fun v8 h9=>v8=(.tuple #[])∧K (.int .i64 j) h9
def F268.wL3:Prop:=Lp Tryz.f268 F268.T [1,1,0,1,0] n [(0,(.pointer (some f))),(1,(.map i)),(5,(.int .i64 j)),(14,(.slice c b d)),(15,(.int .i64 g)),(16,(.int .i64 a))] h K
theorem F268.sL3:F268.wL3 (n+1) f i j c b d g a h K=(bcase (decide (a<g)) (ptrK c fun a1=>0≤a∧a<(Nat.cast b:Int)∧ldB (rd h ((a1.add (Int.toNat a*4)).add 0)) fun b2=>ldI .i64 (rd h ((a1.add (Int.toNat a*4)).add 1)) fun n3=>ldI .u32 (rd h ((a1.add (Int.toNat a*4)).add 2)) fun n4=>ldI .u32 (rd h ((a1.add (Int.toNat a*4)).add 3)) fun n5=>newK h (.cells #[.bool false,.int .i64 0,.int .u32 0,.int .u32 0] 195) fun b6 h7=>stK h7 ((Addr.mk b6 0 none).add 0) (.bool b2) fun h8=>stK h8 ((Addr.mk b6 0 none).add 1) (.int .i64 n3) fun h9=>stK h9 ((Addr.mk b6 0 none).add 2) (.int .u32 n4) fun h10=>stK h10 ((Addr.mk b6 0 none).add 3) (.int .u32 n5) fun h11=>lookK h11 i .u32 .u32 (IntKind.wrap .u32 (IntKind.wrap .i64 (a+(2:Int)))) fun o12=>ldV (some (lkV (.agg #[]) o12)) fun v13=>newK h11 (.cells #[] 218) fun b14 h15=>storeE Tryz.prog 218 (some (Addr.mk b14 0 none)) v13 h15 fun h16=>ldB (rd h16 ((Addr.mk b6 0 none).add 0)) fun b17=>bcase b17 (bcase (!(Option.isSome o12)) (ldS (rd h16 (f.add 2)) fun p18 l19 _=>ptrK p18 fun a21=>0≤a∧a<(Nat.cast l19:Int)∧stK h16 ((a21.add (Int.toNat a*4)).add 0) (.bool false) fun h22=>stK h22 ((a21.add (Int.toNat a*4)).add 1) (.int .i64 0) fun h23=>stK h23 ((a21.add (Int.toNat a*4)).add 2) (.int .u32 0) fun h24=>stK h24 ((a21.add (Int.toNat a*4)).add 3) (.int .u32 0) fun h25=>ldS (rd h25 (f.add 3)) fun p26 l27 c28=>newK h25 (.cells #[.int .u32 (IntKind.wrap .u32 (IntKind.wrap .i64 (a+(2:Int))))] 46) fun b29 h30=>appK h30 46 1 4 #[.int .u32 0] p26 l27 c28 (some (Addr.mk b29 0 none)) 1 fun p31 l32 c33 h34=>stK h34 ((f.add 3).add 0) (.slice p31 l32 c33) fun h35=>F268.wL3 n f i (IntKind.wrap .i64 (j+(1:Int))) c b d g (IntKind.wrap .i64 (a+(1:Int))) h35 K) (F268.wL3 n f i j c b d g (IntKind.wrap .i64 (a+(1:Int))) h16 K)) (F268.wL3 n f i j c b d g (IntKind.wrap .i64 (a+(1:Int))) h16 K)) (F268.wk12 f j h K)):=by kernel_rfl
def F268.wk3:Prop:=(∃m,F268.wL3 m f i j c b d g a h K)
theorem F268.spec(H:ldS (rd h (f.add 2)) fun p1 l2 c3=>F268.wk3 f i (0:Int) p1 l2 c3 (Nat.cast l2:Int) (0:Int) h K):Cl 268 [.pointer (some f),.map i] h K:=cT F268.T Tryz.func268 H
end
def F267.T:Hint:=⟨[(3,[0,1,6,14,15,16]),(9,[0,1,6]),(10,[0,6,9]),(15,[0,6,9,10])],[]⟩
section
variable (n:Nat)(f:Addr)(j:Option Addr)(g i:Nat)(l:Option Nat)(d:Option Addr)(b c:Nat)(q:Option Addr)(o s:Nat)(t r:Int)(h:Heap)(K:KK)
def F267.wk15(bk10:Addr→(Option Nat)→(Option Addr)→Nat→Nat→Heap→Prop)(f:Addr)(l:Option Nat)(d:Option Addr)(b c:Nat)(u:Int)(h:Heap)(K:KK):Prop:=updK h l .u32 .u32 u (.agg #[]) fun h1=>Cl 72 [.pointer (some f),.int .u32 u] h1 fun v2 h3=>ldI .u32 (some v2) fun n4=>Cl 73 [.pointer (some f),.int .u32 u] h3 fun v5 h6=>ldI .u32 (some v5) fun n7=>newK h6 (.cells #[.int .u32 n4,.int .u32 n7] 46) fun b8 h9=>appK h9 46 1 4 #[.int .u32 0] d b c (some (Addr.mk b8 0 none)) 2 fun p10 l11 c12 h13=>bk10 f l p10 l11 c12 h13
def F267.wL10:Prop:=Lp Tryz.f267 F267.T [1,1,1,1,0,0] n [(0,(.pointer (some f))),(6,(.map l)),(9,(.slice d b c))] h K
theorem F267.sL10:F267.wL10 (n+1) f l d b c h K=(bcase (decide ((Nat.cast b:Int)>(0:Int))) (ptrK d fun a1=>0≤(IntKind.wrap .i64 ((Nat.cast b:Int)-(1:Int)))∧(IntKind.wrap .i64 ((Nat.cast b:Int)-(1:Int)))<(Nat.cast b:Int)∧ldI .u32 (rd h (a1.add (Int.toNat (IntKind.wrap .i64 ((Nat.cast b:Int)-(1:Int)))*1))) fun n2=>0≤(IntKind.wrap .i64 ((Nat.cast b:Int)-(1:Int)))∧(IntKind.wrap .i64 ((Nat.cast b:Int)-(1:Int)))≤(Nat.cast c:Int)∧lookK h l .u32 .u32 n2 fun o3=>ldV (some (lkV (.agg #[]) o3)) fun v4=>newK h (.cells #[] 218) fun b5 h6=>storeE Tryz.prog 218 (some (Addr.mk b5 0 none)) v4 h6 fun h7=>bcase (Option.isSome o3) (F267.wL10 n f l (if c=0 then d else Option.map (fun a=>Addr.add a (0*1)) d) (Int.toNat (IntKind.wrap .i64 ((Nat.cast b:Int)-(1:Int)))-0) (c-0) h7 K) (bcase (decide (n2≤(1:Int))) (F267.wL10 n f l (if c=0 then d else Option.map (fun a=>Addr.add a (0*1)) d) (Int.toNat (IntKind.wrap .i64 ((Nat.cast b:Int)-(1:Int)))-0) (c-0) h7 K) (F267.wk15 (fun f l d b c h=>F267.wL10 n f l d b c h K) f l (if c=0 then d else Option.map (fun a=>Addr.add a (0*1)) d) (Int.toNat (IntKind.wrap .i64 ((Nat.cast b:Int)-(1:Int)))-0) (c-0) n2 h7 K))) (K (.tuple #[.map l,.int .i64 0]) h)):=by kernel_rfl
def F267.wk10:Prop:=(∃m,F267.wL10 m f l d b c h K)
def F267.wk9:Prop:=Cl 299 [.slice j g i] h fun v1 h2=>ldS (some v1) fun p3 l4 c5=>F267.wk10 f l p3 l4 c5 h2 K
def F267.wL3:Prop:=Lp Tryz.f267 F267.T [1,1,0,1,0] n [(0,(.pointer (some f))),(1,(.slice j g i)),(6,(.map l)),(14,(.slice q o s)),(15,(.int .i64 t)),(16,(.int .i64 r))] h K
theorem F267.sL3:F267.wL3 (n+1) f j g i l q o s t r h K=(bcase (decide (r<t)) (ptrK q fun a1=>0≤r∧r<(Nat.cast o:Int)∧ldI .u32 (rd h (a1.add (Int.toNat r*1))) fun n2=>Cl 74 [.pointer (some f),.int .u32 n2] h fun v3 h4=>ldB (some v3) fun b5=>bcase (!b5) False (F267.wL3 n f j g i l q o s t (IntKind.wrap .i64 (r+(1:Int))) h4 K)) (F267.wk9 f j g i l h K)):=by kernel_rfl
def F267.wk3:Prop:=(∃m,F267.wL3 m f j g i l q o s t r h K)
theorem F267.spec(H:newK h (.map #[] 0) fun b1 h2=>F267.wk3 f j g i (some b1) j g i (Nat.cast g:Int) (0:Int) h2 K):Cl 267 [.pointer (some f),.slice j g i] h K:=cT F267.T Tryz.func267 H
end
theorem F218.spec(d:Addr)(c:Option Addr)(b a:Nat)(h:Heap)(K:KK)(H:Cl 267 [.pointer (some d),.slice c b a] h fun v1 h2=> ∃r3:Option Nat,∃n4:Int,v1=(.tuple #[.map r3,.int .i64 n4])∧bcase (n4 !=(0:Int)) (K (.tuple #[.int .i64 0,.int .i64 n4]) h2) (Cl 268 [.pointer (some d),.map r3] h2 fun v5 h6=>ldI .i64 (some v5) fun n7=>K (.tuple #[.int .i64 n7,.int .i64 0]) h6)):Cl 218 [.pointer (some d),.slice c b a] h K:=cN Tryz.func218 H
theorem F175.spec(a b:Addr)(h:Heap)(K:KK)(H:Cl 213 [.pointer (some b)] h fun v1 h2=>ldS (some v1) fun p3 l4 c5=>Cl 218 [.pointer (some a),.slice p3 l4 c5] h2 fun v6 h7=> ∃n8:Int,∃n9:Int,v6=(.tuple #[.int .i64 n8,.int .i64 n9])∧K (.tuple #[.int .i64 n8,.int .i64 n9]) h7):Cl 175 [.pointer (some a),.pointer (some b)] h K:=cN Tryz.func175 H
def F113.T:Hint:=⟨[(1,[0,8,9])],[]⟩
section
variable (n:Nat)(a:Addr)(c b:Int)(h:Heap)(K:KK)
def F113.wL1:Prop:=Lp Tryz.f113 F113.T [1,0] n [(0,(.pointer (some a))),(8,(.int .i64 c)),(9,(.int .i64 b))] h K
theorem F113.sL1:F113.wL1 (n+1) a c b h K=(bcase (decide (b<c)) (ldI .i64 (rd h (a.add 1)) fun n1=>ldP (rd h (a.add 0)) fun p2=>Cl 162 [.pointer p2,.int .i64 (IntKind.wrap .i64 (n1+(IntKind.wrap .i64 ((3:Int)*b))))] h fun v3 h4=>ldI .u64 (some v3) fun n5=>bcase ((bitsI .and .u64 n5 (1:Int))==(0:Int)) (bcase (n5 !=(0:Int)) (ldP (rd h4 (a.add 0)) fun p6=>Cl 163 [.pointer p6,.int .i64 (IntKind.wrap .i64 (n1+(IntKind.wrap .i64 ((3:Int)*b)))),.int .u64 n5,.int .u64 (IntKind.wrap .u64 ((bitsI .andNot .u64 n5 (2:Int))+(4:Int)))] h4 fun v7 h8=>ldB (some v7) fun _=>F113.wL1 n a c (IntKind.wrap .i64 (b+(1:Int))) h8 K) (F113.wL1 n a c (IntKind.wrap .i64 (b+(1:Int))) h4 K)) (F113.wL1 n a c (IntKind.wrap .i64 (b+(1:Int))) h4 K)) (K (.tuple #[]) h)):=by kernel_rfl
def F113.wk1:Prop:=(∃m,F113.wL1 m a c b h K)
theorem F113.spec(H:ldI .i64 (rd h (a.add 2)) fun n1=>F113.wk1 a n1 (0:Int) h K):Cl 113 [.pointer (some a)] h K:=cT F113.T Tryz.func113 H
end
theorem F299.spec(a:Option Addr)(b c:Nat)(h:Heap)(K:KK)(H:bcase (Option.isNone a) (K (.slice none 0 0) h) (newK h (.cells #[] 46) fun b1 h2=>appK h2 46 1 4 #[.int .u32 0] (some (Addr.mk b1 0 none)) 0 0 a b fun p3 l4 c5 h6=>K (.slice p3 l4 c5) h6)):Cl 299 [.slice a b c] h K:=cN Tryz.func299 H
end
section
section
variable {h:Heap}{c m mc base n:Nat}{cs:List Int}{ops fails:Int}{K:Value→Heap→Prop}
theorem clear113(W:CW h c m mc base n cs ops fails)(hb:base<100000)(hv: ∀l,l<n→0≤cs.getD (base+3*l) 0∧cs.getD (base+3*l) 0<18446744073709551616∧cs.getD (base+3*l) 0%2=0)
  (hK: ∀h' ops' fails' cs',(∀l,l<n→0≤cs'.getD (base+3*l) 0∧cs'.getD (base+3*l) 0<18446744073709551616∧cs'.getD (base+3*l) 0%4=0)→CW h' c m mc base n cs' ops' fails'→Only [m,mc] h h'→K (.tuple #[]) h'):
  Cl 113 [.pointer (some ⟨c,0,none⟩)] h K:=by
 apply F113.spec
 simp only[add_mk,Nat.zero_add]
 refine ldI_of (n:=(n:Int)) (by rw[At.rd W.cac];rfl) ?_
 unfold F113.wk1
 have hn2:=W.hn2
 have: ∀(g i:Nat) (h1:Heap) (cs1:List Int) (ops1 fails1:Int),n-i<g→i≤n→(∀l,l<i→0≤cs1.getD (base+3*l) 0∧cs1.getD (base+3*l) 0<18446744073709551616∧cs1.getD (base+3*l) 0%4=0)→
   (∀l,i≤l→l<n→cs1.getD (base+3*l) 0=cs.getD (base+3*l) 0)→CW h1 c m mc base n cs1 ops1 fails1→Only [m,mc] h h1→F113.wL1 g ⟨c,0,none⟩ (n:Int) (i:Int) h1 K:=by
  intro g
  induction g with
  |zero=>intro i h1 cs1 ops1 fails1 hg;omega
  |succ g ih=>
   intro i h1 cs1 ops1 fails1 hg hi z1 z2 W1 O1
   rw[F113.sL1]
   by_cases hlt:i<n
   ·rw[decide_eq_true (by omega),bcase_true]
    simp only[add_mk,Nat.zero_add]
    have hc:=W1.hc
    have ei:IntKind.wrap .i64 ((i:Int)+1)=((i+1:Nat):Int):=by rw[wrap_i64 (by omega) (by omega)];simp
    have ea:IntKind.wrap .i64 ((base:Int)+IntKind.wrap .i64 (3*(i:Int)))=((base+3*i:Nat):Int):=by
     rw[wrap_i64 (n:=3*(i:Int)) (by omega) (by omega),wrap_i64 (by omega) (by omega)]
     simp
    refine ldI_of (n:=(base:Int)) (by rw[At.rd W1.cac];rfl) (ldP_of (by rw[At.rd W1.cac];rfl) ?_)
    rw[ea,ei]
    refine load_in W1.mem (by omega) (by omega) fun h2 M2 O2=>ldI_of rfl ?_
    rw[Int.toNat_natCast,z2 i (Nat.le_refl _) hlt]
    obtain⟨v0,v1,v2⟩:=hv i hlt
    have hz2:=z2 i (Nat.le_refl _) hlt
    generalize cs.getD (base+3*i) 0=V at*
    have O12:=O1.trans O2 fun b hb _=>hb
    have W2:CW h2 c m mc base n cs1 _ fails1:=⟨W1.cac.only O2 (by simp[W1.d4,W1.d5]),M2,W1.d4,W1.d5,W1.hn,W1.hn2,W1.hc,W1.hl⟩
    rw[and_one v0 (by omega),show(V%2==0)=true by simpa using v2,bcase_true]
    refine bcase_of (fun e=> ?_) fun e=> ?_
    ·refine ldP_of (by rw[At.rd W2.cac];rfl) (cas_in M2 (by omega) (by omega) (fun e' h3 M3 O3=>ldB_of rfl ?_) fun e'=> ?_)
     ·rw[Int.toNat_natCast,andnot_two v0 (by omega),wrap_u64']at M3
      have W3:CW h3 c m mc base n (cs1.set (base+3*i) ((4*(V/4)+V%2+4)%18446744073709551616)) _ fails1:=⟨W2.cac.only O3 (by simp[W1.d4,W1.d5]),M3,W1.d4,W1.d5,W1.hn,W1.hn2,by simpa using W1.hc,by simpa using W1.hl⟩
      refine ih (i+1) h3 _ _ _ (by omega) (by omega) (fun l hl=> ?_) (fun l hl hln=> ?_) W3 (O12.trans O3 fun b hb _=>hb)
      ·rw[getD_set (by omega)]
       by_cases h':l=i
       ·subst h'
        rw[if_pos rfl]
        omega
       ·rw[if_neg (by omega)]
        exact z1 l (by omega)
      ·rw[getD_set (by omega),if_neg (by omega)]
       exact z2 l (by omega) hln
     ·rw[Int.toNat_natCast]at e'
      exact absurd hz2 e'
    ·refine ih (i+1) h2 cs1 _ fails1 (by omega) (by omega) (fun l hl=> ?_) (fun l hl hln=>z2 l (by omega) hln) W2 O12
     by_cases h':l=i
     ·subst h'
      have:V=0:=by simpa using e
      rw[hz2,this]
      decide
     ·exact z1 l (by omega)
   ·rw[decide_eq_false (by omega),bcase_false]
    obtain rfl:i=n:=by omega
    exact hK h1 ops1 fails1 cs1 z1 W1 O1
 exact⟨n+1,this (n+1) 0 h cs ops fails (by omega) (by omega) (by omega) (fun _ _ _=>rfl) W (Only.refl _ _)⟩
end
def retN(keep:Nat→Bool)(N:List (Option Nd)):List (Option Nd):=N.mapIdx fun i o=>if keep (i+2)then o else none
def retK(keep:Nat→Bool)(i:Nat)(a:Nat):Bool:=decide (i+2≤a)||keep a
theorem ret_len{keep:Nat→Bool}{N:List (Option Nd)}:(retN keep N).length=N.length:=by simp[retN]
theorem nd_ret{keep:Nat→Bool}{N:List (Option Nd)}(i:Nat):nd (retN keep N) i=if keep (i+2)then nd N i else none:=by
 unfold nd retN
 rw[List.getElem?_mapIdx]
 cases h:N[i]? with
 |none=>simp
 |some o=>
  simp only[Option.map_some,Option.join_some]
theorem ret_get{keep:Nat→Bool}{N:List (Option Nd)}{i:Nat}{o:Option Nd}(h:N[i]? =some o):(retN keep N)[i]? =some (if keep (i+2)then o else none):=by
 unfold retN
 rw[List.getElem?_mapIdx,h]
 rfl
theorem ret_zero{keep:Nat→Bool}{N:List (Option Nd)}:retN (retK keep 0) N=N:=by
 apply List.ext_getElem?
 intro i
 cases h:N[i]? with
 |none=>rw[List.getElem?_eq_none];rw[ret_len];exact List.getElem?_eq_none_iff.1 h
 |some o=>
  rw[ret_get h]
  unfold retK
  rw[show decide (0+2≤i+2)=true by simp]
  rfl
theorem ret_all{keep:Nat→Bool}{N:List (Option Nd)}:retN (retK keep N.length) N=retN keep N:=by
 apply List.ext_getElem?
 intro i
 cases h:N[i]? with
 |none=>rw[List.getElem?_eq_none,List.getElem?_eq_none]<;>rw[ret_len]<;>exact List.getElem?_eq_none_iff.1 h
 |some o=>
  have hl:=(List.getElem?_eq_some_iff.1 h).1
  rw[ret_get h,ret_get h]
  unfold retK
  rw[show decide (N.length+2≤i+2)=false by simp;omega]
  rfl
theorem ret_succ{keep:Nat→Bool}{N:List (Option Nd)}{i:Nat}{o:Option Nd}(h:N[i]? =some o):retN (retK keep (i+1)) N=(retN (retK keep i) N).set i (if keep (i+2)then o else none):=by
 have hl:=(List.getElem?_eq_some_iff.1 h).1
 apply List.ext_getElem?
 intro k
 rw[List.getElem?_set]
 by_cases hk:i=k
 ·subst hk
  rw[if_pos rfl,if_pos (by rw[ret_len];exact hl),ret_get h]
  unfold retK
  rw[show decide (i+1+2≤i+2)=false by simp]
  rfl
 ·rw[if_neg hk]
  cases h2:N[k]? with
  |none=>rw[List.getElem?_eq_none,List.getElem?_eq_none]<;>rw[ret_len]<;>exact List.getElem?_eq_none_iff.1 h2
  |some o2=>
   rw[ret_get h2,ret_get h2]
   unfold retK
   rw[show decide (i+1+2≤k+2)=decide (i+2≤k+2) by
    by_cases z:i+1≤k
    ·rw[decide_eq_true (by omega),decide_eq_true (by omega)]
    ·rw[decide_eq_false (by omega),decide_eq_false (by omega)]]
theorem ret_at{keep:Nat→Bool}{N:List (Option Nd)}{i:Nat}{o:Option Nd}(h:N[i]? =some o):(retN (retK keep i) N)[i]? =some o:=by
 rw[ret_get h]
 unfold retK
 rw[show decide (i+2≤i+2)=true by simp]
 rfl
theorem retN_ok{n:Nat}{keep:Nat→Bool}{N:List (Option Nd)}(H:NOk n N)(hk: ∀i x,nd N i=some x→keep (i+2)=true→(x.2.1<2∨keep x.2.1=true)∧(x.2.2<2∨keep x.2.2=true)):NOk n (retN keep N)∧(∀a,isN (retN keep N) a↔(a<2∨isN N a∧keep a=true))∧Ex (retN keep N) N:=by
 have ex:Ex (retN keep N) N:=fun i x hx=>by
  rw[nd_ret]at hx
  split at hx
  ·exact hx
  ·cases hx
 have is: ∀a,isN (retN keep N) a↔(a<2∨isN N a∧keep a=true):=fun a=>by
  constructor
  ·intro ha
   rcases ha with q|⟨x,hx⟩
   ·exact .inl q
   ·rw[nd_ret]at hx
    by_cases a2:a<2
    ·exact .inl a2
    ·split at hx
     ·rename_i hk'
      rw[show a-2+2=a by omega]at hk'
      exact .inr ⟨.inr ⟨x,hx⟩,hk'⟩
     ·cases hx
  ·intro ha
   rcases ha with q|⟨q|⟨x,hx⟩,r⟩
   ·exact .inl q
   ·exact .inl q
   ·by_cases a2:a<2
    ·exact .inl a2
    ·right
     refine⟨x,?_⟩
     rw[nd_ret,show a-2+2=a by omega,if_pos r]
     exact hx
 refine⟨⟨fun i x hx=> ?_,fun i j x hi hj=>H.once i j x (ex i x hi) (ex j x hj)⟩,is,ex⟩
 have h0:=ex i x hx
 have hki:keep (i+2)=true:=by
  rw[nd_ret]at hx
  split at hx
  ·rename_i q;exact q
  ·cases hx
 obtain⟨a,b,c,d,e,f⟩:=H.node i x h0
 obtain⟨k1,k2⟩:=hk i x h0 hki
 have i1:isN (retN keep N) x.2.1:=(is _).2 (by rcases k1 with q|q;exact .inl q;exact .inr ⟨b,q⟩)
 have i2:isN (retN keep N) x.2.2:=(is _).2 (by rcases k2 with q|q;exact .inl q;exact .inr ⟨c,q⟩)
 have l1:=ex.lvl (n:=n) i1
 have l2:=ex.lvl (n:=n) i2
 exact⟨a,i1,i2,d,by rw[←l1];exact e,by rw[←l2];exact f⟩
end
section
def KpM(mo:List (Int×Value))(keep:Nat→Bool):Prop:= ∀k:Nat,(keep k=true→mo.lookup (k:Int)=some (.agg #[]))∧(keep k=false→mo.lookup (k:Int)=none)
theorem set_self{α:Type}{l:List α}{i:Nat}{o:α}(h:l[i]? =some o):l.set i o=l:=by
 apply List.ext_getElem?
 intro k
 rw[List.getElem?_set]
 split
 ·rename_i e
  subst e
  rw[if_pos (List.getElem?_eq_some_iff.1 h).1,h]
 ·rfl
theorem cntN_none{x:Nd}: ∀{N:List (Option Nd)} {i:Nat},N[i]? =some (some x)→cntN (N.set i none)+1=cntN N
 | [],i,h=>by simp at h
 |o::N,0,h=>by
  simp at h
  subst h
  simp[cntN]
 |o::N,i+1,h=>by
  have:=cntN_none (N:=N) (i:=i) (by simpa using h)
  simp only[cntN,List.set_cons_succ,List.countP_cons]at this ⊢
  omega
section
variable {h:Heap}{s n room:Nat}{B:SB}{f g:Nat→Nat}{N:List (Option Nd)}{F:List Nat}{Q:Int→Int→Prop}{off:Bool}{K:Value→Heap→Prop}
theorem SB.growf{s:Nat}{fp':Option Addr}{fc':Nat}(H:(B.bm s).Nodup)(hlt: ∀b∈B.bm s,b<h.size)(hp: ∀b∈OwnB fp',b∈OwnB B.fp∨h.size≤b):
  (SB.bm {B with fp:=fp',fc:=fc'} s).Nodup∧ ∀b∈SB.bm {B with fp:=fp',fc:=fc'} s,b∈B.bm s∨h.size≤b:=by
 refine⟨?_,fun b hb=> ?_⟩
 ·unfold SB.bm at H ⊢
  simp only at H ⊢
  rw[List.nodup_append]at H ⊢
  refine⟨H.1,own_nodup fp',fun a ha b hb e=> ?_⟩
  rcases hp b hb with h1|h1
  ·exact H.2.2 a ha b h1 e
  ·have:=hlt a (by unfold SB.bm;exact List.mem_append.2 (.inl ha))
   omega
 ·simp only[SB.bm,List.mem_append]at hb ⊢
  rcases hb with(hb|hb)|hb
  ·exact .inl (.inl (.inl hb))
  ·exact .inl (.inl (.inr hb))
  ·rcases hp b hb with h1|h1
   ·exact .inl (.inr h1)
   ·exact .inr h1
theorem node_none{M:List (Option Nd)}{i:Nat}{x:Nd}{F1:List Nat}{b0:Nat}{KK:Heap→Prop}(H:StM h s n room B f g M F1 Q off)(hi:M[i]? =some (some x))(eb:B.p=some ⟨b0,0,none⟩)(hlt:F1.length<M.length)(hs:s<h.size)
  (hK: ∀fp' fc' h',StM h' s n room {B with fp:=fp',fc:=fc'} f g (M.set i none) (F1++[i+2]) Q off→Only (s::OwnB B.p++OwnB B.fp) h h'→(∀b∈OwnB fp',b∈OwnB B.fp∨h.size≤b)→KK h'):
  stK h ⟨b0,i*4,none⟩ (.bool false) (fun h22=>stK h22 ⟨b0,i*4+1,none⟩ (.int .i64 0) (fun h23=>stK h23 ⟨b0,i*4+2,none⟩ (.int .u32 0) (fun h24=>stK h24 ⟨b0,i*4+3,none⟩ (.int .u32 0) (fun h25=>ldS (rd h25 ⟨s,3,none⟩) (fun p26 l27 c28=>newK h25 (.cells #[(.int .u32 ((i+2:Nat):Int))] 46) (fun b29 h30=>appK h30 46 1 4 #[(.int .u32 (0:Int))] p26 l27 c28 (some (Addr.mk b29 0 none)) 1 (fun p31 l32 c33 h34=>stK h34 ⟨s,3,none⟩ (.slice p31 l32 c33) (fun h35=>KK h35)))))))):=by
 have hil:=(List.getElem?_eq_some_iff.1 hi).1
 have W:=H.own
 rw[eb]at W
 have nl:(nrow M).length=M.length*4:=nrow_len M
 have hln:=H.len
 refine Own.set (j:=i*4+0) W (by omega) rfl fun h2 W2 O2=>Own.set W2 (by simp;omega) rfl fun h3 W3 O3=>Own.set W3 (by simp;omega) rfl fun h4 W4 O4=>Own.set W4 (by simp;omega) rfl fun h5 W5 O5=> ?_
 rw[nrow_set4 M i none _ _ _ _ hil rfl]at W5
 have O25:Only [b0] h h5:=((O2.trans O3 (by simp)).trans O4 (by simp)).trans O5 (by simp)
 have hsep:=H.sep
 have nb: ∀y∈[s,B.ob,B.cac,B.cm,B.cmc]++OwnB B.fp,y∉[b0]:=fun y hy hm=>by
  simp only[List.mem_singleton]at hm
  subst hm
  unfold SB.bm at hsep
  simp only[List.nodup_append,List.mem_append,ne_eq]at hsep
  obtain⟨⟨_,_,g2⟩,_,g4⟩:=hsep
  have hmp:y∈OwnB B.p:=by rw[eb];simp[OwnB]
  rcases List.mem_append.1 hy with h|h
  ·exact g2 y h y hmp rfl
  ·exact g4 y (.inr hmp) y h rfl
 have nf: ∀y∈[s,B.ob,B.cac,B.cm,B.cmc]++OwnB B.p,y∉OwnB B.fp:=fun y hy hm=>by
  unfold SB.bm at hsep
  simp only[List.nodup_append,List.mem_append,ne_eq]at hsep
  obtain⟨⟨_,_,g2⟩,_,g4⟩:=hsep
  exact g4 y (by simpa only[List.mem_append]using hy) y hm rfl
 have ns: ∀y∈[B.ob,B.cac,B.cm,B.cmc]++OwnB B.p++OwnB B.fp,y∉[s]:=fun y hy hm=>by
  simp only[List.mem_singleton]at hm
  subst hm
  unfold SB.bm at hsep
  simp only[List.cons_append,List.nodup_cons,List.nil_append]at hsep
  exact hsep.1 (by simpa[or_assoc]using hy)
 have S5:=H.S.only O25 (nb _ (by simp))
 have z5:=O25.size
 refine ldS_of (p:=B.fp) (l:=F1.length) (c:=B.fc) (by rw[At.rd S5];rfl) ?_
 have fr5:=H.fre.only O25 fun y hy=>nb _ (List.mem_append.2 (.inr hy))
 refine newK_at fun h6 A6 O6 z6=> ?_
 refine win_app (fr5.only O6 (by simp)) A6 (by omega) rfl (by omega) fun fp' fc' h7 W7 O7 hb7=> ?_
 have lp: ∀b∈OwnB B.fp,b<h.size:=fun b hb=>(H.fre.lt b hb).2
 have S7:=(S5.only O6 (by simp)).only O7 (fun hm=>nf s (by simp) hm)
 refine stK_at S7 (by simp[scell]) rfl fun h8 A8 O8 z8=> ?_
 have O58:Only (s::OwnB B.fp) h5 h8:=((O6.mono (by simp)).trans O7 (by intro b hb _;simp[hb])).trans O8 (by intro b hb _;simp at hb;simp[hb])
 have nn: ∀y∈[B.ob,B.cac,B.cm,B.cmc]++OwnB B.p,y∉s::OwnB B.fp:=fun y hy hm=>by
  rcases List.mem_cons.1 hm with e|e
  ·exact ns y (List.mem_append.2 (.inl hy)) (by simp[e])
  ·exact nf y (by rcases List.mem_append.1 hy with q|q;exact List.mem_append.2 (.inl (List.mem_cons_of_mem _ q));exact List.mem_append.2 (.inr q)) e
 have hbf: ∀b∈OwnB fp',b∈OwnB B.fp∨h.size≤b:=fun b hb=>by
  rcases hb7 b hb with q|q
  ·exact .inl q
  ·exact .inr (by omega)
 have es:s∉OwnB fp':=fun hm=>by
  rcases hbf s hm with q|q
  ·exact nf s (by simp) q
  ·omega
 have el:(M.set i none).length=M.length:=by simp
 have g1:=SB.growf (fc':=fc') hsep H.lt hbf
 refine hK fp' fc' h8 ⟨?_,(H.O.only O25 (nb _ (by simp))).only O58 (nn _ (by simp)),?_,?_,(H.cac.only O25 (nb _ (by simp)) (nb _ (by simp)) (nb _ (by simp))).only O58 (nn _ (by simp)) (nn _ (by simp)) (nn _ (by simp)),H.n8,by rw[el];exact⟨hln.1,hln.2.1,by simp;omega⟩,g1.1⟩ ((O25.mono (by intro b hb _;simp at hb;subst hb;rw[eb];simp[OwnB])).trans O58 (by intro b hb _;rcases List.mem_cons.1 hb with q|q;simp[q];exact List.mem_append.2 (.inr q))) hbf
 ·rw[el,List.length_append]
  exact A8
 ·rw[el]
  show Own h8 0 4 B.p M.length B.c _
  rw[eb]
  exact W5.only O58 fun b hb=>by
   injection hb with hb
   injection hb with hb
   subst hb
   exact nn b0 (by rw[eb];simp[OwnB])
 ·have:frow (F1++[i+2])=frow F1++[.int .u32 ((i+2:Nat):Int)]:=by simp[frow]
  rw[this,List.length_append]
  exact W7.only O8 fun b hb hm=>es (by simp at hm;subst hm;exact hb)
end
end
section
section
variable {h:Heap}{s n room:Nat}{B:SB}{f g:Nat→Nat}{N:List (Option Nd)}{F:List Nat}{Q Q':Int→Int→Prop}{off:Bool}{K:Value→Heap→Prop}{mb:Nat}{mo:List (Int×Value)}{keep:Nat→Bool}
theorem retK_at{i:Nat}(k:keep (i+2)=true){o:Option Nd}(hi:N[i]? =some o):retN (retK keep (i+1)) N=retN (retK keep i) N:=by
 rw[ret_succ hi,if_pos k,set_self (ret_at hi)]
theorem retK_no{i:Nat}(hi:N[i]? =some none):retN (retK keep (i+1)) N=retN (retK keep i) N:=by
 rw[ret_succ hi,show(if keep (i+2)=true then none else none:Option Nd)=none by split<;>rfl,set_self (ret_at hi)]
theorem retK_go{i:Nat}(k:keep (i+2)=false){o:Option Nd}(hi:N[i]? =some o):retN (retK keep (i+1)) N=(retN (retK keep i) N).set i none:=by
 rw[ret_succ hi,k]
 rfl
structure Rt(h0 h:Heap)(s n room:Nat)(B:SB)(f g:Nat→Nat)(N:List (Option Nd))(Q:Int→Int→Prop)(off:Bool)(mb:Nat)(mo:List (Int×Value))(keep:Nat→Bool)(i:Nat)(fp:Option Addr)(fc:Nat)(F:List Nat):Prop where
 m:StM h s n room {B with fp:=fp,fc:=fc} f g (retN (retK keep i) N) F Q off
 M:MapM h mb .u32 mo
 cnt:N.length=cntN (retN (retK keep i) N)+F.length
 fre:F.Nodup∧ ∀a∈F,2≤a∧a-2<N.length∧nd (retN (retK keep i) N) (a-2)=none
 O:Only (B.bm s) h0 h
 fr: ∀b∈OwnB fp,b∈OwnB B.fp∨h0.size≤b
set_option maxRecDepth 100000 in
theorem retain_loop{h0:Heap}(sep0:(B.bm s).Nodup)(Hk:KpM mo keep)(dm:mb∉B.bm s)(lm:mb<h0.size)(lb: ∀b∈B.bm s,b<h0.size)(hn:N.length≤room∧room≤32768)
  (hK: ∀h' fp fc F gone,Rt h0 h' s n room B f g N Q off mb mo keep N.length fp fc F→F268.wk12 ⟨s,0,none⟩ gone h' K):
  ∀(d i:Nat) (h':Heap) (fp:Option Addr) (fc:Nat) (F:List Nat) (gone:Int),i+d=N.length→Rt h0 h' s n room B f g N Q off mb mo keep i fp fc F→
   F268.wL3 (d+1) ⟨s,0,none⟩ (some mb) gone B.p N.length B.c (N.length:Int) (i:Int) h' K:=by
 intro d
 induction d with
 |zero=>
  intro i h' fp fc F gone hd R
  rw[F268.sL3]
  rw[decide_eq_false (by omega),bcase_false]
  obtain rfl:i=N.length:=by omega
  exact hK h' fp fc F gone R
 |succ d ih=>
  intro i h' fp fc F gone hd R
  have hi:i<N.length:=by omega
  obtain⟨o,ho⟩: ∃o,N[i]? =some o:=⟨_,List.getElem?_eq_getElem hi⟩
  have hm:=ret_at (keep:=keep) ho
  obtain⟨b,eb,rr⟩:=R.m.cells hm
  have eb:B.p=some ⟨b,0,none⟩:=eb
  have z0:=R.O.size
  have hw:IntKind.wrap .u32 (IntKind.wrap .i64 ((i:Int)+2))=((i+2:Nat):Int):=by
   rw[wrap_i64 (by omega) (by omega),show(i:Int)+2=((i+2:Nat):Int) by omega]
   exact wrap32 (by omega)
  have hs1:s<h'.size:=R.m.S.lt
  have stay: ∀k6,Only [] h' k6→retN (retK keep (i+1)) N=retN (retK keep i) N→F268.wL3 (d+1) ⟨s,0,none⟩ (some mb) gone B.p N.length B.c (N.length:Int) (IntKind.wrap .i64 ((i:Int)+1)) k6 K:=fun k6 P e=>by
   rw[show IntKind.wrap .i64 ((i:Int)+1)=((i+1:Nat):Int) by rw[wrap_i64 (by omega) (by omega)];omega]
   refine ih (i+1) k6 fp fc F gone (by omega) ⟨?_,R.M.only P (by simp),by rw[e];exact R.cnt,by rw[e];exact R.fre,R.O.trans P (by simp),R.fr⟩
   rw[e]
   exact R.m.only P (by simp)
  rw[F268.sL3]
  rw[decide_eq_true (by omega),bcase_true,eb,ptrK_some]
  refine⟨by omega,by omega,?_⟩
  rw[←eb]
  simp only[add_mk,Nat.zero_add]
  rw[show Int.toNat (i:Int)*4=i*4 by omega,hw]
  obtain⟨tv,lv,av,bv,ec⟩: ∃tv lv av bv,ncell o=[.bool tv,.int .i64 lv,.int .u32 av,.int .u32 bv]:=by
   cases o with
   |none=>exact⟨_,_,_,_,rfl⟩
   |some x=>exact⟨_,_,_,_,rfl⟩
  rw[ec]at rr
  refine ldB_of (by rw[←Nat.add_zero (i*4),rr 0 (by omega)];rfl) (ldI_of (by rw[rr 1 (by omega)];rfl) (ldI_of (by rw[rr 2 (by omega)];rfl) (ldI_of (by rw[rr 3 (by omega)];rfl) ?_)))
  refine newK_at fun k1 B1 P1 y1=> ?_
  refine stK_at B1 (by simp) rfl fun k2 B2 P2 y2=>stK_at B2 (by simp) rfl fun k3 B3 P3 y3=>stK_at B3 (by simp) rfl fun k4 B4 P4 y4=>stK_at B4 (by simp) rfl fun k5 B5 P5 y5=> ?_
  replace B5:At k5 h'.size [.bool tv,.int .i64 lv,.int .u32 av,.int .u32 bv]:=B5
  have P15:Only [] h' k5:=(((P1.trans P2 (by intro b hb hl;simp at hb;omega)).trans P3 (by intro b hb hl;simp at hb;omega)).trans P4 (by intro b hb hl;simp at hb;omega)).trans P5 (by intro b hb hl;simp at hb;omega)
  have tail: ∀(o12:Option (Nat×Value)),(o12.isSome=keep (i+2))→(lkV (.agg #[]) o12= .agg #[])→ ∀KK:Heap→Prop,(∀k6,Only [] h' k6→k5.size≤k6.size→bcase tv (bcase (!(keep (i+2))) (KK k6) (F268.wL3 (d+1) ⟨s,0,none⟩ (some mb) gone B.p N.length B.c (N.length:Int) (IntKind.wrap .i64 ((i:Int)+1)) k6 K)) (F268.wL3 (d+1) ⟨s,0,none⟩ (some mb) gone B.p N.length B.c (N.length:Int) (IntKind.wrap .i64 ((i:Int)+1)) k6 K))→
    ldV (some (lkV (.agg #[]) o12)) (fun v13=>newK k5 (.cells #[] 218) (fun b14 h15=>storeE Tryz.prog 218 (some (Addr.mk b14 0 none)) v13 h15 (fun h16=>ldB (rd h16 ⟨h'.size,0,none⟩) (fun b17=>bcase b17 (bcase (!(Option.isSome o12)) (KK h16) (F268.wL3 (d+1) ⟨s,0,none⟩ (some mb) gone B.p N.length B.c (N.length:Int) (IntKind.wrap .i64 ((i:Int)+1)) h16 K)) (F268.wL3 (d+1) ⟨s,0,none⟩ (some mb) gone B.p N.length B.c (N.length:Int) (IntKind.wrap .i64 ((i:Int)+1)) h16 K))))):=by
   intro o12 e1 e2 KK hk
   rw[e2]
   refine⟨_,rfl,?_⟩
   refine newK_at fun k6 B6 P6 y6=> ?_
   refine store116 ?_
   have C6:=B5.only P6 (by simp)
   have P16:Only [] h' k6:=P15.trans P6 (by simp)
   refine ldB_of (by rw[At.rd C6 0];rfl) ?_
   rw[e1]
   exact hk k6 P16 (by omega)
  have body: ∀k6,Only [] h' k6→k5.size≤k6.size→bcase tv (bcase (!(keep (i+2))) (ldS (rd k6 ⟨s,2,none⟩) (fun p18 l19 _=>ptrK p18 (fun a21=>(0≤(i:Int)∧(i:Int)<(Nat.cast l19:Int)∧stK k6 (Addr.add (Addr.add a21 (i*4)) 0) (.bool false) (fun h22=>stK h22 (Addr.add (Addr.add a21 (i*4)) 1) (.int .i64 (0:Int)) (fun h23=>stK h23 (Addr.add (Addr.add a21 (i*4)) 2) (.int .u32 (0:Int)) (fun h24=>stK h24 (Addr.add (Addr.add a21 (i*4)) 3) (.int .u32 (0:Int)) (fun h25=>ldS (rd h25 ⟨s,3,none⟩) (fun p26 l27 c28=>newK h25 (.cells #[(.int .u32 ((i+2:Nat):Int))] 46) (fun b29 h30=>appK h30 46 1 4 #[(.int .u32 (0:Int))] p26 l27 c28 (some (Addr.mk b29 0 none)) 1 (fun p31 l32 c33 h34=>stK h34 ⟨s,3,none⟩ (.slice p31 l32 c33) (fun h35=>F268.wL3 (d+1) ⟨s,0,none⟩ (some mb) (IntKind.wrap .i64 (gone+(1:Int))) B.p N.length B.c (N.length:Int) (IntKind.wrap .i64 ((i:Int)+(1:Int))) h35 K)))))))))))) (F268.wL3 (d+1) ⟨s,0,none⟩ (some mb) gone B.p N.length B.c (N.length:Int) (IntKind.wrap .i64 ((i:Int)+1)) k6 K)) (F268.wL3 (d+1) ⟨s,0,none⟩ (some mb) gone B.p N.length B.c (N.length:Int) (IntKind.wrap .i64 ((i:Int)+1)) k6 K):=by
   intro k6 P16 y6
   cases o with
   |none=>
    simp only[ncell,List.cons.injEq,Value.bool.injEq]at ec
    rw[←ec.1,bcase_false]
    exact stay k6 P16 (retK_no ho)
   |some x=>
    simp only[ncell,List.cons.injEq,Value.bool.injEq,Value.int.injEq,true_and,and_true]at ec
    rw[←ec.1,bcase_true]
    cases hkp:keep (i+2)with
    |true=>rw[Bool.not_true,bcase_false];exact stay k6 P16 (retK_at hkp ho)
    |false=>
     rw[Bool.not_false,bcase_true]
     have m6:=R.m.only P16 (by simp)
     have el:(retN (retK keep i) N).length=N.length:=ret_len
     refine ldS_of (p:=B.p) (l:=N.length) (c:=B.c) (by rw[At.rd m6.S,el];rfl) ?_
     rw[eb,ptrK_some]
     refine⟨by omega,by omega,?_⟩
     simp only[add_mk,Nat.zero_add,Nat.add_zero]
     have c1:F.length<N.length:=by
      have:0<cntN (retN (retK keep i) N):=List.countP_pos_iff.2 ⟨some x,List.mem_of_getElem? hm,rfl⟩
      have:=R.cnt
      omega
     refine node_none (B:={B with fp:=fp,fc:=fc}) m6 hm eb (by rw[el];exact c1) (by have:=P16.size;omega) fun fp' fc' h7 H7 O7 hf7=> ?_
     rw[show IntKind.wrap .i64 ((i:Int)+1)=((i+1:Nat):Int) by rw[wrap_i64 (by omega) (by omega)];omega,←eb]
     have e:=retK_go hkp ho
     have z6:=P16.size
     have ni:i+2∉F:=fun hm2=>by
      have:=(R.fre.2 _ hm2).2.2
      rw[show i+2-2=i by omega]at this
      rw[nd_some.2 hm]at this
      cases this
     have sub: ∀b∈s::OwnB B.p++OwnB fp,b<h0.size→b∈B.bm s:=fun b hb hl=>by
      simp only[SB.bm,List.mem_append,List.mem_cons]at hb ⊢
      rcases hb with(q|q)|q
      ·exact .inl (.inl (.inl q))
      ·exact .inl (.inr q)
      ·rcases R.fr b q with r|r
       ·exact .inr r
       ·omega
     have nm:mb∉s::OwnB B.p++OwnB fp:=fun hm2=>dm (sub mb hm2 lm)
     refine ih (i+1) h7 fp' fc' _ _ (by omega) ⟨by rw[e];exact H7,(R.M.only P16 (by simp)).only O7 nm,?_,?_,(R.O.trans P16 (by simp)).trans O7 sub,fun b hb=> ?_⟩
     ·rw[e]
      have:=cntN_none hm
      have:=R.cnt
      simp
      omega
     ·rw[e]
      refine⟨List.nodup_append.2 ⟨R.fre.1,by simp,fun a ha c hc e2=> ?_⟩,fun a ha=> ?_⟩
      ·simp at hc
       subst hc e2
       exact ni ha
      ·rw[nd_set (by rw[el];exact hi)]
       rcases List.mem_append.1 ha with q|q
       ·obtain⟨q1,q2,q3⟩:=R.fre.2 a q
        refine⟨q1,q2,?_⟩
        split
        ·rfl
        ·exact q3
       ·simp at q
        subst q
        exact⟨by omega,by omega,by rw[if_pos (by omega)]⟩
     ·rcases hf7 b hb with q|q
      ·exact R.fr b q
      ·exact .inr (by omega)
  refine look_map (m:=mo) (R.M.only P15 (by simp)) (fun hn=> ?_) fun j v hv=> ?_
  ·have k0:keep (i+2)=false:=by
    cases hk:keep (i+2)with
    |false=>rfl
    |true=>
     rw[(Hk (i+2)).1 hk]at hn
     cases hn
   exact tail none (by rw[k0];rfl) rfl _ body
  ·have k1:keep (i+2)=true:=by
    cases hk:keep (i+2)with
    |true=>rfl
    |false=>
     rw[(Hk (i+2)).2 hk]at hv
     cases hv
   rw[(Hk (i+2)).1 k1]at hv
   injection hv with hv
   subst hv
   exact tail (some (j,.agg #[])) (by rw[k1];rfl) rfl _ body
end
end
section
section
variable {h:Heap}{s n room:Nat}{B:SB}{f g:Nat→Nat}{N:List (Option Nd)}{F:List Nat}{Q Q':Int→Int→Prop}{off:Bool}{K:Value→Heap→Prop}{mb:Nat}{mo:List (Int×Value)}{keep:Nat→Bool}
set_option maxRecDepth 100000 in
theorem retain268(Q':Int→Int→Prop)(H:StIs h s n room B f g N F Q off)(M0:MapM h mb .u32 mo)(Hk:KpM mo keep)(dm:mb∉B.bm s++B.bt)
  (hk: ∀i x,nd N i=some x→keep (i+2)=true→(x.2.1<2∨keep x.2.1=true)∧(x.2.2<2∨keep x.2.2=true))
  (hK: ∀h' B' F' gone,StIs h' s n room B' f g (retN keep N) F' Q' off→Only (B.bm s++B.bt) h h'→(∀y∈B'.bm s++B'.bt,y∈B.bm s++B.bt∨h.size≤y)→K (.int .i64 gone) h'):
  Cl 268 [.pointer (some ⟨s,0,none⟩),.map (some mb)] h K:=by
 have hlen:=H.m.len
 have hn8:=H.m.n8
 apply F268.spec
 simp only[add_mk,Nat.zero_add]
 refine ldS_of (p:=B.p) (l:=N.length) (c:=B.c) (by rw[At.rd H.m.S];rfl) ?_
 unfold F268.wk3
 have dm1:mb∉B.bm s:=fun hm=>dm (List.mem_append.2 (.inl hm))
 have R0:Rt h h s n room B f g N Q off mb mo keep 0 B.fp B.fc F:=⟨by rw[ret_zero];exact H.m,M0,by rw[ret_zero];exact H.cnt,by rw[ret_zero];exact H.fre,Only.refl _ _,fun b hb=> .inl hb⟩
 refine⟨_,retain_loop H.m.sep Hk dm1 M0.lt H.m.lt ⟨hlen.1,hlen.2.1⟩ (fun h1 fp fc F1 gone R=> ?_) N.length 0 h B.fp B.fc F 0 (by omega) R0⟩
 obtain⟨m1,-,cnt1,fre1,O1,fr1⟩:=R
 rw[ret_all]at m1 cnt1 fre1
 have el:(retN keep N).length=N.length:=ret_len
 obtain⟨ok1,is1,ex1⟩:=retN_ok H.ok hk
 have tsep: ∀b∈B.bt,b∉B.bm s:=H.t.sep
 have T1:=H.t.only O1 fun b hb hm=>tsep b hm hb
 unfold F268.wk12
 simp only[add_mk,Nat.zero_add]
 refine ldP_of (by rw[At.rd m1.S];rfl) ?_
 obtain⟨cs,ops,fails,W1,S1⟩:=m1.cac
 have W1:CW h1 B.cac B.cm B.cmc 0 256 cs ops fails:=W1
 refine clear113 W1 (by omega) (fun l hl=> ?_) fun h2 ops2 fails2 cs2 z2 W2 O2=>⟨rfl,?_⟩
 ·rw[Nat.zero_add]
  have:=S1 l hl
  exact⟨this.1,this.2.1,this.2.2.1⟩
 have sep1:=m1.sep
 have nm: ∀y∈[s,B.ob,B.cac]++OwnB B.p++OwnB fp,y∉[B.cm,B.cmc]:=fun y hy hm=>by
  have sep1:([s,B.ob,B.cac,B.cm,B.cmc]++OwnB B.p++OwnB fp).Nodup:=sep1
  simp only[List.cons_append,List.nil_append,List.nodup_cons,List.mem_cons,List.mem_append,not_or]at sep1
  obtain⟨⟨a1,a2,a3,a4,a5,a6⟩,⟨b1,b2,b3,b4,b5⟩,⟨c1,c2,c3,c4⟩,⟨d1,d2,d3⟩,⟨e1,e2⟩,-⟩:=sep1
  simp only[List.mem_cons,List.not_mem_nil,or_false]at hm
  simp only[List.cons_append,List.nil_append,List.mem_cons,List.mem_append]at hy
  rcases hy with q|q|q|q|q<;>rcases hm with r|r<;>subst r
  ·exact a3 q.symm
  ·exact a4 q.symm
  ·exact b2 q.symm
  ·exact b3 q.symm
  ·exact c1 q.symm
  ·exact c2 q.symm
  ·exact d2 q
  ·exact e1 q
  ·exact d3 q
  ·exact e2 q
 have nt: ∀y∈B.bt,y∉[B.cm,B.cmc]:=fun y hy hm=>tsep y hy (by simp at hm;rcases hm with q|q<;>subst q<;>simp[SB.bm])
 have S2:=m1.S.only O2 (nm _ (by simp))
 have S2':At h2 s (gcell room {B with fp:=fp,fc:=fc} (retN keep N).length F1.length off (.pointer (some ⟨B.tb,0,none⟩)) (.map (some B.sb))):=S2
 have T2:=T1.only O2 fun b hb hm=>nt b hm hb
 refine ldP_of (by rw[At.rd S2];rfl) ?_
 obtain⟨T,tcs,mm,tops,tfails,t1,t2,t3,L,t5,t6,t7⟩:=T2.tab
 refine slots_spec t1 (ldI_of rfl ?_)
 have T32:32≤T:=by
  obtain⟨k,e⟩:=t5
  have:=Nat.two_pow_pos k
  omega
 rw[show(if(T:Int)>32 then(T:Int)else 32)=(T:Int) by split<;>omega]
 have cle:cntN (retN keep N)≤cntN N:=by
  have:=H.cnt
  have h1: ∀(N:List (Option Nd)) (k:Nat→Bool),cntN (N.mapIdx fun i o=>if k i then o else none)≤cntN N:=by
   intro N
   induction N with
   |nil=>intro k;simp[cntN]
   |cons o N ih=>
    intro k
    have:=ih fun i=>k (i+1)
    simp only[cntN,List.mapIdx_cons,List.countP_cons]at this ⊢
    split
    ·omega
    ·simp;omega
  exact h1 N fun i=>keep (i+2)
 have R2:StR h2 s n room {B with fp:=fp,fc:=fc} f g (retN keep N) F1 Q':=
  ⟨m1.O.only O2 (nm _ (by simp)),m1.own.only O2 fun b hb=>nm _ (by rw[show B.p=_ from hb];simp[OwnB]),m1.fre.only O2 fun b hb=>nm _ (List.mem_append.2 (.inr hb)),⟨cs2,ops2,fails2,W2,fun l hl=>by
   have:=z2 l hl
   rw[Nat.zero_add]at this
   exact⟨this.1,this.2.1,by omega,fun e=>by omega⟩⟩,m1.n8,m1.len,m1.sep⟩
 refine grows33 (bl:=[]) S2' R2 (fun i hi=>by simp at hi) (fun a e=>by cases e) (by simp) (fun i x hx=> ?_) (fun i j x hi hj=> ?_) t5 (by rw[era_nil];omega) t7 fun tb m mc sb h3 m3 T3 _ g1 g2 g3 g4 O3=>⟨rfl,?_⟩
 ·rw[era_nil]at hx
  exact ok1.ndok hn8.2 (by rw[el];omega) hx
 ·rw[era_nil]at hi hj
  exact ok1.once i j x hi hj
 rw[era_nil]at T3
 have z1:=O1.size
 have z2':=O2.size
 have z3:=O3.size
 refine hK h3 _ F1 gone ⟨m3,T3,ok1,by rw[el];exact cnt1,fre1.1,fun a ha=>by rw[el];exact fre1.2 a ha⟩ (((O1.mono fun b hb _=>List.mem_append.2 (.inl hb)).trans O2 fun b hb _=>List.mem_append.2 (.inl (by simp at hb;rcases hb with q|q<;>subst q<;>simp[SB.bm]))).trans O3 fun b hb _=>List.mem_append.2 (.inl (by simp at hb;subst hb;simp[SB.bm]))) fun y hy=> ?_
 have new: ∀y,y∈SB.bt (SB.tabs {B with fp:=fp,fc:=fc} tb m mc sb)→h.size≤y:=fun y hy=>by
  simp[SB.bt,SB.tabs]at hy
  omega
 rcases List.mem_append.1 hy with q|q
 ·have q:y∈[s,B.ob,B.cac,B.cm,B.cmc]++OwnB B.p++OwnB fp:=q
  simp only[SB.bm,List.mem_append]at q ⊢
  rcases q with(q|q)|q
  ·exact .inl (.inl (.inl (.inl q)))
  ·exact .inl (.inl (.inl (.inr q)))
  ·rcases fr1 y q with r|r
   ·exact .inl (.inl (.inr r))
   ·exact .inr r
 ·exact .inr (new y q)
end
theorem sto_retain{h:Heap}{s:Nat}{L:List Nat}{X:SX}{mb:Nat}{mo:List (Int×Value)}{keep:Nat→Bool}{K:Value→Heap→Prop}(Q':Int→Int→Prop)(H:Sto h s L X)(M0:MapM h mb .u32 mo)(Hk:KpM mo keep)(dm:mb∉L)
  (hk: ∀i x,nd X.N i=some x→keep (i+2)=true→(x.2.1<2∨keep x.2.1=true)∧(x.2.2<2∨keep x.2.2=true))
  (hK: ∀h' L' gone,Sto h' s L' {X with N:=retN keep X.N,Q:=Q'}→Only L h h'→Fresh L L' h→K (.int .i64 gone) h'):
  Cl 268 [.pointer (some ⟨s,0,none⟩),.map (some mb)] h K:=by
 obtain⟨B,F,e,H⟩:=H
 subst e
 exact retain268 Q' H M0 Hk dm hk fun h' B' F' gone S O fr=>hK h' _ gone ⟨B',F',rfl,S⟩ O fr
end
section
def swp(g:Nat→Int)(i j:Nat):Nat→Int:=fun k=>if k=j then g i else if k=i then g j else g k
inductive Swp (a b:Nat):(Nat→Int)→(Nat→Int)→Prop
 |refl (g:Nat→Int):Swp a b g g
 |step {g g':Nat→Int} {i j:Nat}:a≤i→i<b→a≤j→j<b→Swp a b (swp g i j) g'→Swp a b g g'
theorem Swp.trans{a b:Nat}{f g k:Nat→Int}(H:Swp a b f g)(G:Swp a b g k):Swp a b f k:=by
 induction H with
 |refl _=>exact G
 |step h1 h2 h3 h4 _ ih=>exact .step h1 h2 h3 h4 (ih G)
theorem Swp.one{a b i j:Nat}(g:Nat→Int)(h1:a≤i)(h2:i<b)(h3:a≤j)(h4:j<b):Swp a b g (swp g i j):= .step h1 h2 h3 h4 (.refl _)
theorem Swp.perm{a b n:Nat}{f g:Nat→Int}(H:Swp a b f g)(hb:b≤n):((List.range n).map g).Perm ((List.range n).map f):=by
 induction H with
 |refl g=>exact List.Perm.refl _
 | @step g g' i j h1 h2 h3 h4 _ ih=>
  refine ih.trans ?_
  have e:(List.range n).map (swp g i j)=((List.range n).map fun k=>if k=j then i else if k=i then j else k).map g:=by
   rw[List.map_map]
   apply List.map_congr_left
   intro k _
   simp only[Function.comp,swp]
   split
   ·rfl
   ·split<;>rfl
  rw[e]
  refine List.Perm.map g ?_
  refine(List.perm_ext_iff_of_nodup ?_ List.nodup_range).2 fun k=> ?_
  ·refine List.Pairwise.map _ (fun x y (hxy:x≠y)=> ?_) List.nodup_range
   (repeat' split)<;>omega
  ·rw[List.mem_map]
   constructor
   ·rintro ⟨x,hx,rfl⟩
    rw[List.mem_range]at hx ⊢
    split
    ·omega
    ·split<;>omega
   ·intro hk
    rw[List.mem_range]at hk
    by_cases h:k=j
    ·exact⟨i,by rw[List.mem_range];omega,by by_cases h':i=j<;>simp[h,h']⟩
    ·by_cases h':k=i
     ·exact⟨j,by rw[List.mem_range];omega,by simp[h']⟩
     ·exact⟨k,by rw[List.mem_range];omega,by simp[h,h']⟩
def Srt(a b:Nat)(g:Nat→Int):Prop:= ∀p q,a≤p→p<q→q<b→g p≤g q
theorem Srt.single{a b:Nat}(g:Nat→Int)(h:b≤a+1):Srt a b g:=fun p q _ _ _=>by omega
def Ins(a i j:Nat)(g:Nat→Int):Prop:= ∀p q,a≤p→p<q→q≤i→q≠j→g p≤g q
theorem Ins.start{a i:Nat}{g:Nat→Int}(H:Srt a i g):Ins a i i g:=fun p q h1 h2 h3 h4=>H p q h1 h2 (by omega)
theorem Ins.stop{a i j:Nat}{g:Nat→Int}(H:Ins a i j g)(h:j≤a∨g (j-1)≤g j):Srt a (i+1) g:=fun p q h1 h2 h3=>by
 by_cases hq:q=j
 ·subst hq
  rcases h with h|h
  ·omega
  ·by_cases hp:p=q-1
   ·subst hp;exact h
   ·exact Int.le_trans (H p (q-1) h1 (by omega) (by omega) (by omega)) h
 ·exact H p q h1 h2 (by omega) hq
theorem swp_i(g:Nat→Int)(i j:Nat):swp g i j i=g j:=by
 unfold swp
 by_cases h:i=j
 ·rw[if_pos h,h]
 ·rw[if_neg h,if_pos rfl]
theorem swp_j(g:Nat→Int)(i j:Nat):swp g i j j=g i:=if_pos rfl
theorem swp_o(g:Nat→Int){i j k:Nat}(hi:k≠i)(hj:k≠j):swp g i j k=g k:=by
 unfold swp
 rw[if_neg hj,if_neg hi]
theorem Ins.step{a i j:Nat}{g:Nat→Int}(H:Ins a i j g)(hj:a<j)(hji:j≤i)(hl:g j<g (j-1)):Ins a i (j-1) (swp g j (j-1)):=fun p q h1 h2 h3 h4=>by
 by_cases hq:q=j
 ·subst hq
  rw[swp_i]
  by_cases hp:p=q-1
  ·subst hp
   rw[swp_j]
   omega
  ·rw[swp_o g (by omega) hp]
   exact H p (q-1) h1 (by omega) (by omega) (by omega)
 ·rw[swp_o g hq h4]
  by_cases hp:p=j
  ·subst hp
   rw[swp_i]
   exact H (p-1) q (by omega) (by omega) h3 hq
  ·by_cases hp':p=j-1
   ·subst hp'
    rw[swp_j]
    exact H j q (by omega) (by omega) h3 hq
   ·rw[swp_o g hp hp']
    exact H p q h1 h2 h3 hq
def Arr(q:IntKind)(h:Heap)(b n:Nat)(g:Nat→Int)(sp:List Value):Prop:=At h b (rowV n (fun k=> .int q (g k))++sp)
theorem Arr.rd{q:IntKind}{h:Heap}{b n:Nat}{g:Nat→Int}{sp:List Value}(A:Arr q h b n g sp){k:Nat}(hk:k<n):Ev.rd h ⟨b,k,none⟩=some (.int q (g k)):=by
 rw[At.rd A,List.getElem?_append_left (by rw[rowV_len];exact hk),rowV_get hk]
theorem Arr.st{q:IntKind}{h:Heap}{b n:Nat}{g:Nat→Int}{sp:List Value}(A:Arr q h b n g sp){k:Nat}(hk:k<n){v:Int}{K:Heap→Prop}
  (hK: ∀h',Arr q h' b n (fun j=>if j=k then v else g j) sp→Only [b] h h'→K h'):stK h ⟨b,k,none⟩ (.int q v) K:=
 stK_at A (by simp[rowV_len];omega) rfl fun h' A' O' _=>hK h' (by
  have e:(rowV n (fun j=>Value.int q (g j))++sp).set k (.int q v)=rowV n (fun j=>Value.int q (if j=k then v else g j))++sp:=by
   rw[List.set_append_left _ _ (by rw[rowV_len];exact hk),rowV_set]
   congr 1
   apply rowV_ext
   intro j _
   split<;>rfl
  rw[e]at A'
  exact A') O'
theorem Arr.ld{q:IntKind}{h:Heap}{b n:Nat}{g:Nat→Int}{sp:List Value}(A:Arr q h b n g sp){x:Int}{k:Nat}(hx:x=k)(hk:k<n){Q:Int→Prop}(hQ:Q (g k)):
  ptrK (some ⟨b,0,none⟩) fun a=>(0≤x∧x<(n:Int)∧ldI q (Ev.rd h (Addr.add a (Int.toNat x*1))) Q):=by
 subst hx
 rw[ptrK_some]
 refine⟨by omega,by omega,?_⟩
 rw[add_mk,show 0+Int.toNat (k:Int)*1=k by omega,A.rd hk,ldI_some]
 exact hQ
theorem Arr.sto{q:IntKind}{h:Heap}{b n:Nat}{g:Nat→Int}{sp:List Value}(A:Arr q h b n g sp){x:Int}{k:Nat}(hx:x=k)(hk:k<n){v:Int}{K:Heap→Prop}
  (hK: ∀h',Arr q h' b n (fun j=>if j=k then v else g j) sp→Only [b] h h'→K h'):
  ptrK (some ⟨b,0,none⟩) fun a=>(0≤x∧x<(n:Int)∧stK h (Addr.add (Addr.add a (Int.toNat x*1)) 0) (.int q v) K):=by
 subst hx
 rw[ptrK_some]
 refine⟨by omega,by omega,?_⟩
 rw[add_mk,add_mk,show 0+Int.toNat (k:Int)*1+0=k by omega]
 exact A.st hk hK
end
section
theorem F295.spec(a:Int)(h:Heap)(K:KK)(H:Cl 323 [.int .u64 a] h fun v1 h2=>ldI .i64 (some v1) fun n3=>K (.int .i64 n3) h2):Cl 295 [.int .u64 a] h K:=cN Tryz.func295 H
def F323.T:Hint:=⟨[(4,[0,2]),(7,[0,2]),(10,[0,2])],[]⟩
section
variable (a b:Int)(h:Heap)(K:KK)
def F323.wk10:Prop:=(0≤(IntKind.wrap .u8 a)∧strK (ByteArray.mk #[0,1,2,2,3,3,3,3,4,4,4,4,4,4,4,4,5,5,5,5,5,5,5,5,5,5,5,5,5,5,5,5,6,6,6,6,6,6,6,6,6,6,6,6,6,6,6,6,6,6,6,6,6,6,6,6,6,6,6,6,6,6,6,6,7,7,7,7,7,7,7,7,7,7,7,7,7,7,7,7,7,7,7,7,7,7,7,7,7,7,7,7,7,7,7,7,7,7,7,7,7,7,7,7,7,7,7,7,7,7,7,7,7,7,7,7,7,7,7,7,7,7,7,7,7,7,7,7,8,8,8,8,8,8,8,8,8,8,8,8,8,8,8,8,8,8,8,8,8,8,8,8,8,8,8,8,8,8,8,8,8,8,8,8,8,8,8,8,8,8,8,8,8,8,8,8,8,8,8,8,8,8,8,8,8,8,8,8,8,8,8,8,8,8,8,8,8,8,8,8,8,8,8,8,8,8,8,8,8,8,8,8,8,8,8,8,8,8,8,8,8,8,8,8,8,8,8,8,8,8,8,8,8,8,8,8,8,8,8,8,8,8,8,8,8,8,8,8,8,8,8,8,8,8,8,8]) (IntKind.wrap .u8 a) fun n1=>K (.int .i64 (IntKind.wrap .i64 (b+(IntKind.wrap .i64 n1)))) h)
def F323.wk7:Prop:=bcase (decide (a≥(256:Int))) ((0≤(8:Int)∧F323.wk10 (Int.fdiv a (2^(min (Int.toNat (8:Int)) (IntKind.bits .u64)))) (IntKind.wrap .i64 (b+(8:Int))) h K)) (F323.wk10 a b h K)
def F323.wk4:Prop:=bcase (decide (a≥(65536:Int))) ((0≤(16:Int)∧F323.wk7 (Int.fdiv a (2^(min (Int.toNat (16:Int)) (IntKind.bits .u64)))) (IntKind.wrap .i64 (b+(16:Int))) h K)) (F323.wk7 a b h K)
theorem F323.spec(a:Int)(h:Heap)(K:KK)(H:bcase (decide (a≥(4294967296:Int))) ((0≤(32:Int)∧F323.wk4 (Int.fdiv a (2^(min (Int.toNat (32:Int)) (IntKind.bits .u64)))) (32:Int) h K)) (F323.wk4 a (0:Int) h K)):Cl 323 [.int .u64 a] h K:=cT F323.T Tryz.func323 H
end
def F294.T:Hint:=⟨[(2,[0,1,2,3,8,9]),(10,[0,1,2,3,8,9,10]),(15,[0,1,2,3,8,9,10,11,12]),(17,[0,1,2,3,8,9,10,11])],[(17,[[(0,[]),(1,[]),(2,[]),(3,[]),(4,[]),(5,[]),(6,[]),(7,[]),(8,[]),(9,[]),(10,[]),(11,[]),(12,[]),(13,[]),(14,[])]])]⟩
section
variable (bk2:(Option Addr)→Nat→Nat→Int→Int→Int→Bool→Bool→Heap→Prop)(n:Nat)(b:Option Addr)(a c:Nat)(d f g:Int)(l o:Bool)(i j q:Int)(h:Heap)(K:KK)
def F294.wk17(bk2:(Option Addr)→Nat→Nat→Int→Int→Int→Bool→Bool→Heap→Prop)(b:Option Addr)(a c:Nat)(d f g:Int)(l o:Bool)(i j:Int)(h:Heap)(K:KK):Prop:=bcase (decide (d>(0:Int))) (ptrK b fun a1=>0≤(IntKind.wrap .i64 (d-(1:Int)))∧(IntKind.wrap .i64 (d-(1:Int)))<(Nat.cast a:Int)∧ldI .u32 (rd h (a1.add (Int.toNat (IntKind.wrap .i64 (d-(1:Int)))*1))) fun n2=>ptrK b fun a3=>0≤j∧j<(Nat.cast a:Int)∧ldI .u32 (rd h (a3.add (Int.toNat j*1))) fun n4=>Cl 319 [.int .u32 n2,.int .u32 n4] h fun v5 h6=>ldB (some v5) fun b7=>bcase (!b7) (Cl 320 [.slice b a c,.int .i64 d,.int .i64 f,.int .i64 j] h6 fun v8 h9=>ldI .i64 (some v8) fun n10=>bk2 b a c n10 f g l o h9) (Cl 321 [.slice b a c,.int .i64 d,.int .i64 f,.int .i64 j] h6 fun v11 h12=> ∃n13:Int,∃b14:Bool,v11=(.tuple #[.int .i64 n13,.bool b14])∧((8:Int)≠0∧bcase (decide ((IntKind.wrap .i64 (n13-d))<(IntKind.wrap .i64 (f-n13)))) (Cl 294 [.slice b a c,.int .i64 d,.int .i64 n13,.int .i64 g] h12 fun v15 h16=>v15=(.tuple #[])∧bk2 b a c (IntKind.wrap .i64 (n13+(1:Int))) f g (decide ((IntKind.wrap .i64 (n13-d))≥(IntKind.wrap .i64 (Int.tdiv i (8:Int))))) b14 h16) (Cl 294 [.slice b a c,.int .i64 (IntKind.wrap .i64 (n13+(1:Int))),.int .i64 f,.int .i64 g] h12 fun v17 h18=>v17=(.tuple #[])∧bk2 b a c d n13 g (decide ((IntKind.wrap .i64 (f-n13))≥(IntKind.wrap .i64 (Int.tdiv i (8:Int))))) b14 h18)))) (Cl 321 [.slice b a c,.int .i64 d,.int .i64 f,.int .i64 j] h fun v19 h20=> ∃n21:Int,∃b22:Bool,v19=(.tuple #[.int .i64 n21,.bool b22])∧((8:Int)≠0∧bcase (decide ((IntKind.wrap .i64 (n21-d))<(IntKind.wrap .i64 (f-n21)))) (Cl 294 [.slice b a c,.int .i64 d,.int .i64 n21,.int .i64 g] h20 fun v23 h24=>v23=(.tuple #[])∧bk2 b a c (IntKind.wrap .i64 (n21+(1:Int))) f g (decide ((IntKind.wrap .i64 (n21-d))≥(IntKind.wrap .i64 (Int.tdiv i (8:Int))))) b22 h24) (Cl 294 [.slice b a c,.int .i64 (IntKind.wrap .i64 (n21+(1:Int))),.int .i64 f,.int .i64 g] h20 fun v25 h26=>v25=(.tuple #[])∧bk2 b a c d n21 g (decide ((IntKind.wrap .i64 (f-n21))≥(IntKind.wrap .i64 (Int.tdiv i (8:Int))))) b22 h26)))
def F294.wk15:Prop:=bcase l (bcase o (bcase (q==(1:Int)) (Cl 318 [.slice b a c,.int .i64 d,.int .i64 f] h fun v1 h2=>ldB (some v1) fun b3=>bcase b3 (K (.tuple #[]) h2) (F294.wk17 bk2 b a c d f g l o i j h2 K)) (F294.wk17 bk2 b a c d f g l o i j h K)) (F294.wk17 bk2 b a c d f g l o i j h K)) (F294.wk17 bk2 b a c d f g l o i j h K)
def F294.wk10:Prop:=Cl 316 [.slice b a c,.int .i64 d,.int .i64 f] h fun v1 h2=> ∃n3:Int,∃n4:Int,v1=(.tuple #[.int .i64 n3,.int .i64 n4])∧bcase (n4==(2:Int)) (Cl 317 [.slice b a c,.int .i64 d,.int .i64 f] h2 fun v5 h6=>v5=(.tuple #[])∧F294.wk15 bk2 b a c d f g l o i (IntKind.wrap .i64 ((IntKind.wrap .i64 (f-(1:Int)))-(IntKind.wrap .i64 (n3-d)))) (1:Int) h6 K) (F294.wk15 bk2 b a c d f g l o i n3 n4 h2 K)
def F294.wL2:Prop:=Lp Tryz.f294 F294.T [1,1,0] n [(0,(.slice b a c)),(1,(.int .i64 d)),(2,(.int .i64 f)),(3,(.int .i64 g)),(8,(.bool l)),(9,(.bool o))] h K
theorem F294.sL2:F294.wL2 (n+1) b a c d f g l o h K=(bcase (decide ((IntKind.wrap .i64 (f-d))≤(12:Int))) (Cl 313 [.slice b a c,.int .i64 d,.int .i64 f] h fun v1 h2=>v1=(.tuple #[])∧K (.tuple #[]) h2) (bcase (g==(0:Int)) (Cl 314 [.slice b a c,.int .i64 d,.int .i64 f] h fun v3 h4=>v3=(.tuple #[])∧K (.tuple #[]) h4) (bcase (!l) (Cl 315 [.slice b a c,.int .i64 d,.int .i64 f] h fun v5 h6=>v5=(.tuple #[])∧F294.wk10 (fun b a c d f g l o h=>F294.wL2 n b a c d f g l o h K) b a c d f (IntKind.wrap .i64 (g-(1:Int))) l o (IntKind.wrap .i64 (f-d)) h6 K) (F294.wk10 (fun b a c d f g l o h=>F294.wL2 n b a c d f g l o h K) b a c d f g l o (IntKind.wrap .i64 (f-d)) h K)))):=by kernel_rfl
def F294.wk2:Prop:=(∃m,F294.wL2 m b a c d f g l o h K)
theorem F294.spec(H:F294.wk2 b a c d f g true true h K):Cl 294 [.slice b a c,.int .i64 d,.int .i64 f,.int .i64 g] h K:=cT F294.T Tryz.func294 H
end
namespace F313
def T:Hint:=⟨[(1,[0,1,2,6]),(4,[0,1,2,6,7])],[(4,[[(0,[]),(1,[]),(2,[]),(3,[]),(4,[]),(5,[]),(6,[]),(7,[]),(8,[]),(9,[]),(10,[]),(11,[]),(12,[]),(13,[]),(14,[])]]),(6,[[(0,[]),(1,[]),(2,[]),(3,[]),(4,[]),(5,[]),(6,[]),(7,[]),(8,[]),(9,[]),(10,[]),(11,[]),(12,[]),(13,[]),(14,[]),(15,[2,3,4]),(16,[]),(17,[])]])]⟩
noncomputable def body:Code:=(Tryz.f313.body).getD .skip
noncomputable def en(S:Stop)(p:List Nat)(κ:XK):Fr→Heap→Prop:=E Tryz.prog X T S (sub body p) κ
noncomputable def ln(S:Stop)(p:List Nat)(κ:XK)(n:Nat):Fr→Heap→Prop:=loopN S (E Tryz.prog X T S (sub body p)) (cutQ T (sub body p)) κ n
def fn(K:KK):XK:=fin Tryz.prog Tryz.f313.results.toList K
noncomputable def c0(_S:Stop)(K:KK):XK:=blockN 0 (fn K)
noncomputable def c1(S:Stop)(n1:Nat)(K:KK):XK:=backN S (cutQ T (sub body [1,0,0])) (ln S [1,0,0] (c0 S K) n1) (c0 S K)
noncomputable def c2(S:Stop)(n1:Nat)(K:KK):XK:=seqN S (cutQ T (sub body [1,0,0,1,1])) (en S [1,0,0,1,1] (c1 S n1 K)) (c1 S n1 K)
noncomputable def c3(S:Stop)(n1:Nat)(K:KK):XK:=blockN 1 (c2 S n1 K)
noncomputable def c4(S:Stop)(n1:Nat)(K:KK):XK:=blockN 2 (c3 S n1 K)
noncomputable def c5(S:Stop)(n1:Nat)(n4:Nat)(K:KK):XK:=backN S (cutQ T (sub body [1,0,0,1,0,0,1,0,0])) (ln S [1,0,0,1,0,0,1,0,0] (c4 S n1 K) n4) (c4 S n1 K)
def f1(b:Option Addr)(a c:Nat)(d f g:Int):Fr:=[(0,(.slice b a c)),(1,(.int .i64 d)),(2,(.int .i64 f)),(6,(.int .i64 g))]
def f4(b:Option Addr)(a c:Nat)(d f g i:Int):Fr:=[(0,(.slice b a c)),(1,(.int .i64 d)),(2,(.int .i64 f)),(6,(.int .i64 g)),(7,(.int .i64 i))]
def J0(k1:(Option Addr)→Nat→Nat→Int→Int→Int→Heap→Prop)(b:Option Addr)(a c:Nat)(d f:Int)(h:Heap)(_K:KK):Prop:=
 k1 b a c d f (IntKind.wrap .i64 (d+(1:Int))) h
theorem E0(S:Stop)(b:Option Addr)(a c:Nat)(d f:Int)(h:Heap)(K:KK):(E Tryz.prog X T S body (fin Tryz.prog Tryz.f313.results.toList K) (args0 0 [(.slice b a c),(.int .i64 d),(.int .i64 f)]) h)=J0 (fun b a c d f g h=>S (en S [1] (fn K)) (f1 b a c d f g) h) b a c d f h K:=by kernel_rfl
def Jk1(lp1:(Option Addr)→Nat→Nat→Int→Int→Int→Heap→Prop)(b:Option Addr)(a c:Nat)(d f g:Int)(h:Heap)(_K:KK):Prop:=
 lp1 b a c d f g h
theorem Ek1(S:Stop)(b:Option Addr)(a c:Nat)(d f g:Int)(h:Heap)(K:KK):(en S [1] (fn K) (f1 b a c d f g) h)=Jk1 (fun b a c d f g h=> ∃n,S (ln S [1,0,0] (c0 S K) n) (f1 b a c d f g) h) b a c d f g h K:=by kernel_rfl
def JL1(k4:(Option Addr)→Nat→Nat→Int→Int→Int→Int→Heap→Prop)(b:Option Addr)(a c:Nat)(d f g:Int)(h:Heap)(K:KK):Prop:=
 bcase (decide (g<f)) (k4 b a c d f g g h) (K (.tuple #[]) h)
theorem EL1(S:Stop)(n1:Nat)(b:Option Addr)(a c:Nat)(d f g:Int)(h:Heap)(K:KK):(en S [1,0,0] (c1 S n1 K) (f1 b a c d f g) h)=JL1 (fun b a c d f g i h=>S (en S [1,0,0,1,0,0,1] (c3 S n1 K)) (f4 b a c d f g i) h) b a c d f g h K:=by kernel_rfl
def Jk4(lp4:(Option Addr)→Nat→Nat→Int→Int→Int→Int→Heap→Prop)(b:Option Addr)(a c:Nat)(d f g i:Int)(h:Heap)(_K:KK):Prop:=
 lp4 b a c d f g i h
theorem Ek4(S:Stop)(n1:Nat)(b:Option Addr)(a c:Nat)(d f g i:Int)(h:Heap)(K:KK):(en S [1,0,0,1,0,0,1] (c3 S n1 K) (f4 b a c d f g i) h)=Jk4 (fun b a c d f g i h=> ∃n,S (ln S [1,0,0,1,0,0,1,0,0] (c4 S n1 K) n) (f4 b a c d f g i) h) b a c d f g i h K:=by kernel_rfl
def JL4(bk4:(Option Addr)→Nat→Nat→Int→Int→Int→Int→Heap→Prop)(bk1:(Option Addr)→Nat→Nat→Int→Int→Int→Heap→Prop)(b:Option Addr)(a c:Nat)(d f g i:Int)(h:Heap)(_K:KK):Prop:=
 bcase (decide (i>d)) (ptrK b (fun a1=>(0≤i∧i<(Nat.cast a:Int)∧ldI .u32 (rd h (a1.add (Int.toNat i*1))) (fun n2=>ptrK b (fun a3=>(0≤(IntKind.wrap .i64 (i-(1:Int)))∧(IntKind.wrap .i64 (i-(1:Int)))<(Nat.cast a:Int)∧ldI .u32 (rd h (a3.add (Int.toNat (IntKind.wrap .i64 (i-(1:Int)))*1))) (fun n4=>Cl 319 [(.int .u32 n2),(.int .u32 n4)] h (fun v5 h6=>ldB (some v5) (fun b7=>bcase b7 (ptrK b (fun a8=>(0≤(IntKind.wrap .i64 (i-(1:Int)))∧(IntKind.wrap .i64 (i-(1:Int)))<(Nat.cast a:Int)∧ldI .u32 (rd h6 (a8.add (Int.toNat (IntKind.wrap .i64 (i-(1:Int)))*1))) (fun n9=>ptrK b (fun a10=>(0≤i∧i<(Nat.cast a:Int)∧ldI .u32 (rd h6 (a10.add (Int.toNat i*1))) (fun n11=>ptrK b (fun a12=>(0≤i∧i<(Nat.cast a:Int)∧stK h6 ((a12.add (Int.toNat i*1)).add 0) (.int .u32 n9) (fun h13=>((.slice b a c)=((.slice b a c):Value)∧((.int .i64 i)=((.int .i64 i):Value)∧((.int .i64 (IntKind.wrap .i64 (i-(1:Int))))=((.int .i64 (IntKind.wrap .i64 (i-(1:Int)))):Value)∧ptrK b (fun a14=>(0≤(IntKind.wrap .i64 (i-(1:Int)))∧(IntKind.wrap .i64 (i-(1:Int)))<(Nat.cast a:Int)∧stK h13 ((a14.add (Int.toNat (IntKind.wrap .i64 (i-(1:Int)))*1)).add 0) (.int .u32 n11) (fun h15=>bk4 b a c d f g (IntKind.wrap .i64 (i-(1:Int))) h15)))))))))))))))) (bk1 b a c d f (IntKind.wrap .i64 (g+(1:Int))) h6)))))))))) (bk1 b a c d f (IntKind.wrap .i64 (g+(1:Int))) h)
theorem EL4(S:Stop)(n1:Nat)(n4:Nat)(b:Option Addr)(a c:Nat)(d f g i:Int)(h:Heap)(K:KK):(en S [1,0,0,1,0,0,1,0,0] (c5 S n1 n4 K) (f4 b a c d f g i) h)=JL4 (fun b a c d f g i h=>S (ln S [1,0,0,1,0,0,1,0,0] (c4 S n1 K) n4) (f4 b a c d f g i) h) (fun b a c d f g h=>S (ln S [1,0,0] (c0 S K) n1) (f1 b a c d f g) h) b a c d f g i h K:=by kernel_rfl
def wL4(bk1:(Option Addr)→Nat→Nat→Int→Int→Int→Heap→Prop):Nat→(Option Addr)→Nat→Nat→Int→Int→Int→Int→Heap→KK→Prop
 |0,_,_,_,_,_,_,_,_,_=>False
 |n+1,b,a,c,d,f,g,i,h,K=>JL4 (fun b a c d f g i h=>wL4 bk1 n b a c d f g i h K) bk1 b a c d f g i h K
theorem eL4(K:KK)(n1:Nat)(bk1:(Option Addr)→Nat→Nat→Int→Int→Int→Heap→Prop)(hb1: ∀(b:Option Addr) (a c:Nat) (d f g:Int) (h:Heap),(ln S0 [1,0,0] (c0 S0 K) n1 (f1 b a c d f g) h)=bk1 b a c d f g h): ∀(n:Nat) (b:Option Addr) (a c:Nat) (d f g i:Int) (h:Heap),(ln S0 [1,0,0,1,0,0,1,0,0] (c4 S0 n1 K) n (f4 b a c d f g i) h)=wL4 bk1 n b a c d f g i h K
 |0,_,_,_,_,_,_,_,_=>rfl
 |n+1,b,a,c,d,f,g,i,h=>(EL4 S0 n1 n b a c d f g i h K).trans (cg2 (fun q0 q1=>JL4 q0 q1 b a c d f g i h K) (by funext b a c d f g i h;exact(fun b a c d f g i h=>eL4 K n1 bk1 hb1 n b a c d f g i h) b a c d f g i h) (by funext b a c d f g h;exact hb1 b a c d f g h))
def wk4(bk1:(Option Addr)→Nat→Nat→Int→Int→Int→Heap→Prop)(b:Option Addr)(a c:Nat)(d f g i:Int)(h:Heap)(K:KK):Prop:=
 Jk4 (fun b a c d f g i h=> ∃m,wL4 bk1 m b a c d f g i h K) b a c d f g i h K
theorem ek4(K:KK)(n1:Nat)(bk1:(Option Addr)→Nat→Nat→Int→Int→Int→Heap→Prop)(hb1: ∀(b:Option Addr) (a c:Nat) (d f g:Int) (h:Heap),(ln S0 [1,0,0] (c0 S0 K) n1 (f1 b a c d f g) h)=bk1 b a c d f g h)(b:Option Addr)(a c:Nat)(d f g i:Int)(h:Heap):(en S0 [1,0,0,1,0,0,1] (c3 S0 n1 K) (f4 b a c d f g i) h)=wk4 bk1 b a c d f g i h K:=(Ek4 S0 n1 b a c d f g i h K).trans (cg1 (fun q0=>Jk4 q0 b a c d f g i h K) (by funext b a c d f g i h;exact ex_congr fun m=>eL4 K n1 bk1 hb1 m b a c d f g i h))
def wL1:Nat→(Option Addr)→Nat→Nat→Int→Int→Int→Heap→KK→Prop
 |0,_,_,_,_,_,_,_,_=>False
 |n+1,b,a,c,d,f,g,h,K=>JL1 (fun b a c d f g i h=>wk4 (fun b a c d f g h=>wL1 n b a c d f g h K) b a c d f g i h K) b a c d f g h K
theorem eL1(K:KK): ∀(n:Nat) (b:Option Addr) (a c:Nat) (d f g:Int) (h:Heap),(ln S0 [1,0,0] (c0 S0 K) n (f1 b a c d f g) h)=wL1 n b a c d f g h K
 |0,_,_,_,_,_,_,_=>rfl
 |n+1,b,a,c,d,f,g,h=>(EL1 S0 n b a c d f g h K).trans (cg1 (fun q0=>JL1 q0 b a c d f g h K) (by funext b a c d f g i h;exact ek4 K n (fun b a c d f g h=>wL1 n b a c d f g h K) (fun b a c d f g h=>eL1 K n b a c d f g h) b a c d f g i h))
def wk1(b:Option Addr)(a c:Nat)(d f g:Int)(h:Heap)(K:KK):Prop:=
 Jk1 (fun b a c d f g h=> ∃m,wL1 m b a c d f g h K) b a c d f g h K
theorem ek1(K:KK)(b:Option Addr)(a c:Nat)(d f g:Int)(h:Heap):(en S0 [1] (fn K) (f1 b a c d f g) h)=wk1 b a c d f g h K:=(Ek1 S0 b a c d f g h K).trans (cg1 (fun q0=>Jk1 q0 b a c d f g h K) (by funext b a c d f g h;exact ex_congr fun m=>eL1 K m b a c d f g h))
def w(b:Option Addr)(a c:Nat)(d f:Int)(h:Heap)(K:KK):Prop:=
 J0 (fun b a c d f g h=>wk1 b a c d f g h K) b a c d f h K
theorem e0(K:KK)(b:Option Addr)(a c:Nat)(d f:Int)(h:Heap):(E Tryz.prog X T S0 body (fin Tryz.prog Tryz.f313.results.toList K) (args0 0 [(.slice b a c),(.int .i64 d),(.int .i64 f)]) h)=w b a c d f h K:=(E0 S0 b a c d f h K).trans (cg1 (fun q0=>J0 q0 b a c d f h K) (by funext b a c d f g h;exact ek1 K b a c d f g h))
theorem hb:Tryz.f313.body=some body:=by kernel_rfl
theorem ok:okCode T Tryz.f313.ntmps body=true:=by kernel_rfl
theorem spec(b:Option Addr)(a c:Nat)(d f:Int)(h:Heap)(K:KK)(H:w b a c d f h K):Cl 313 [(.slice b a c),(.int .i64 d),(.int .i64 f)] h K:=
 calls_of_E (T:=T) Xok mix Tryz.func313 hb ok rfl (by rw[e0];exact H)
end F313
theorem F319.spec(a b:Int)(h:Heap)(K:KK)(H:Cl 348 [.int .u32 a] h fun v1 h2=>ldB (some v1) fun b3=>bcase b3 (Cl 348 [.int .u32 b] h2 fun v4 h5=>ldB (some v4) fun b6=>bcase (!b6) (K (.bool true) h5) (K (.bool (decide (a<b))) h5)) (K (.bool (decide (a<b))) h2)):Cl 319 [.int .u32 a,.int .u32 b] h K:=cN Tryz.func319 H
theorem F348.spec(a:Int)(h:Heap)(K:KK)(H:K (.bool (a !=a)) h):Cl 348 [.int .u32 a] h K:=cN Tryz.func348 H
theorem F265.spec(c:Option Addr)(a b:Nat)(h:Heap)(K:KK)(H:Cl 295 [.int .u64 (IntKind.wrap .u64 (Nat.cast a:Int))] h fun v1 h2=>ldI .i64 (some v1) fun n3=>Cl 298 [.slice c a b,.int .i64 0,.int .i64 (Nat.cast a:Int),.int .i64 n3] h2 fun v4 h5=>v4=(.tuple #[])∧K (.tuple #[]) h5):Cl 265 [.slice c a b] h K:=cN Tryz.func265 H
def F298.T:Hint:=⟨[(2,[0,1,2,3,8,9]),(10,[0,1,2,3,8,9,10]),(15,[0,1,2,3,8,9,10,11,12]),(17,[0,1,2,3,8,9,10,11])],[(17,[[(0,[]),(1,[]),(2,[]),(3,[]),(4,[]),(5,[]),(6,[]),(7,[]),(8,[]),(9,[]),(10,[]),(11,[]),(12,[]),(13,[]),(14,[])]])]⟩
section
variable (bk2:(Option Addr)→Nat→Nat→Int→Int→Int→Bool→Bool→Heap→Prop)(n:Nat)(b:Option Addr)(a c:Nat)(d f g:Int)(l o:Bool)(i j q:Int)(h:Heap)(K:KK)
def F298.wk17(bk2:(Option Addr)→Nat→Nat→Int→Int→Int→Bool→Bool→Heap→Prop)(b:Option Addr)(a c:Nat)(d f g:Int)(l o:Bool)(i j:Int)(h:Heap)(K:KK):Prop:=bcase (decide (d>(0:Int))) (ptrK b fun a1=>0≤(IntKind.wrap .i64 (d-(1:Int)))∧(IntKind.wrap .i64 (d-(1:Int)))<(Nat.cast a:Int)∧ldI .i64 (rd h (a1.add (Int.toNat (IntKind.wrap .i64 (d-(1:Int)))*1))) fun n2=>ptrK b fun a3=>0≤j∧j<(Nat.cast a:Int)∧ldI .i64 (rd h (a3.add (Int.toNat j*1))) fun n4=>Cl 330 [.int .i64 n2,.int .i64 n4] h fun v5 h6=>ldB (some v5) fun b7=>bcase (!b7) (Cl 331 [.slice b a c,.int .i64 d,.int .i64 f,.int .i64 j] h6 fun v8 h9=>ldI .i64 (some v8) fun n10=>bk2 b a c n10 f g l o h9) (Cl 332 [.slice b a c,.int .i64 d,.int .i64 f,.int .i64 j] h6 fun v11 h12=> ∃n13:Int,∃b14:Bool,v11=(.tuple #[.int .i64 n13,.bool b14])∧((8:Int)≠0∧bcase (decide ((IntKind.wrap .i64 (n13-d))<(IntKind.wrap .i64 (f-n13)))) (Cl 298 [.slice b a c,.int .i64 d,.int .i64 n13,.int .i64 g] h12 fun v15 h16=>v15=(.tuple #[])∧bk2 b a c (IntKind.wrap .i64 (n13+(1:Int))) f g (decide ((IntKind.wrap .i64 (n13-d))≥(IntKind.wrap .i64 (Int.tdiv i (8:Int))))) b14 h16) (Cl 298 [.slice b a c,.int .i64 (IntKind.wrap .i64 (n13+(1:Int))),.int .i64 f,.int .i64 g] h12 fun v17 h18=>v17=(.tuple #[])∧bk2 b a c d n13 g (decide ((IntKind.wrap .i64 (f-n13))≥(IntKind.wrap .i64 (Int.tdiv i (8:Int))))) b14 h18)))) (Cl 332 [.slice b a c,.int .i64 d,.int .i64 f,.int .i64 j] h fun v19 h20=> ∃n21:Int,∃b22:Bool,v19=(.tuple #[.int .i64 n21,.bool b22])∧((8:Int)≠0∧bcase (decide ((IntKind.wrap .i64 (n21-d))<(IntKind.wrap .i64 (f-n21)))) (Cl 298 [.slice b a c,.int .i64 d,.int .i64 n21,.int .i64 g] h20 fun v23 h24=>v23=(.tuple #[])∧bk2 b a c (IntKind.wrap .i64 (n21+(1:Int))) f g (decide ((IntKind.wrap .i64 (n21-d))≥(IntKind.wrap .i64 (Int.tdiv i (8:Int))))) b22 h24) (Cl 298 [.slice b a c,.int .i64 (IntKind.wrap .i64 (n21+(1:Int))),.int .i64 f,.int .i64 g] h20 fun v25 h26=>v25=(.tuple #[])∧bk2 b a c d n21 g (decide ((IntKind.wrap .i64 (f-n21))≥(IntKind.wrap .i64 (Int.tdiv i (8:Int))))) b22 h26)))
def F298.wk15:Prop:=bcase l (bcase o (bcase (q==(1:Int)) (Cl 329 [.slice b a c,.int .i64 d,.int .i64 f] h fun v1 h2=>ldB (some v1) fun b3=>bcase b3 (K (.tuple #[]) h2) (F298.wk17 bk2 b a c d f g l o i j h2 K)) (F298.wk17 bk2 b a c d f g l o i j h K)) (F298.wk17 bk2 b a c d f g l o i j h K)) (F298.wk17 bk2 b a c d f g l o i j h K)
def F298.wk10:Prop:=Cl 327 [.slice b a c,.int .i64 d,.int .i64 f] h fun v1 h2=> ∃n3:Int,∃n4:Int,v1=(.tuple #[.int .i64 n3,.int .i64 n4])∧bcase (n4==(2:Int)) (Cl 328 [.slice b a c,.int .i64 d,.int .i64 f] h2 fun v5 h6=>v5=(.tuple #[])∧F298.wk15 bk2 b a c d f g l o i (IntKind.wrap .i64 ((IntKind.wrap .i64 (f-(1:Int)))-(IntKind.wrap .i64 (n3-d)))) (1:Int) h6 K) (F298.wk15 bk2 b a c d f g l o i n3 n4 h2 K)
def F298.wL2:Prop:=Lp Tryz.f298 F298.T [1,1,0] n [(0,(.slice b a c)),(1,(.int .i64 d)),(2,(.int .i64 f)),(3,(.int .i64 g)),(8,(.bool l)),(9,(.bool o))] h K
theorem F298.sL2:F298.wL2 (n+1) b a c d f g l o h K=(bcase (decide ((IntKind.wrap .i64 (f-d))≤(12:Int))) (Cl 324 [.slice b a c,.int .i64 d,.int .i64 f] h fun v1 h2=>v1=(.tuple #[])∧K (.tuple #[]) h2) (bcase (g==(0:Int)) (Cl 325 [.slice b a c,.int .i64 d,.int .i64 f] h fun v3 h4=>v3=(.tuple #[])∧K (.tuple #[]) h4) (bcase (!l) (Cl 326 [.slice b a c,.int .i64 d,.int .i64 f] h fun v5 h6=>v5=(.tuple #[])∧F298.wk10 (fun b a c d f g l o h=>F298.wL2 n b a c d f g l o h K) b a c d f (IntKind.wrap .i64 (g-(1:Int))) l o (IntKind.wrap .i64 (f-d)) h6 K) (F298.wk10 (fun b a c d f g l o h=>F298.wL2 n b a c d f g l o h K) b a c d f g l o (IntKind.wrap .i64 (f-d)) h K)))):=by kernel_rfl
def F298.wk2:Prop:=(∃m,F298.wL2 m b a c d f g l o h K)
theorem F298.spec(H:F298.wk2 b a c d f g true true h K):Cl 298 [.slice b a c,.int .i64 d,.int .i64 f,.int .i64 g] h K:=cT F298.T Tryz.func298 H
end
namespace F324
def T:Hint:=⟨[(1,[0,1,2,6]),(4,[0,1,2,6,7])],[(4,[[(0,[]),(1,[]),(2,[]),(3,[]),(4,[]),(5,[]),(6,[]),(7,[]),(8,[]),(9,[]),(10,[]),(11,[]),(12,[]),(13,[]),(14,[])]]),(6,[[(0,[]),(1,[]),(2,[]),(3,[]),(4,[]),(5,[]),(6,[]),(7,[]),(8,[]),(9,[]),(10,[]),(11,[]),(12,[]),(13,[]),(14,[]),(15,[2,3,4]),(16,[]),(17,[])]])]⟩
noncomputable def body:Code:=(Tryz.f324.body).getD .skip
noncomputable def en(S:Stop)(p:List Nat)(κ:XK):Fr→Heap→Prop:=E Tryz.prog X T S (sub body p) κ
noncomputable def ln(S:Stop)(p:List Nat)(κ:XK)(n:Nat):Fr→Heap→Prop:=loopN S (E Tryz.prog X T S (sub body p)) (cutQ T (sub body p)) κ n
def fn(K:KK):XK:=fin Tryz.prog Tryz.f324.results.toList K
noncomputable def c0(_S:Stop)(K:KK):XK:=blockN 0 (fn K)
noncomputable def c1(S:Stop)(n1:Nat)(K:KK):XK:=backN S (cutQ T (sub body [1,0,0])) (ln S [1,0,0] (c0 S K) n1) (c0 S K)
noncomputable def c2(S:Stop)(n1:Nat)(K:KK):XK:=seqN S (cutQ T (sub body [1,0,0,1,1])) (en S [1,0,0,1,1] (c1 S n1 K)) (c1 S n1 K)
noncomputable def c3(S:Stop)(n1:Nat)(K:KK):XK:=blockN 1 (c2 S n1 K)
noncomputable def c4(S:Stop)(n1:Nat)(K:KK):XK:=blockN 2 (c3 S n1 K)
noncomputable def c5(S:Stop)(n1:Nat)(n4:Nat)(K:KK):XK:=backN S (cutQ T (sub body [1,0,0,1,0,0,1,0,0])) (ln S [1,0,0,1,0,0,1,0,0] (c4 S n1 K) n4) (c4 S n1 K)
def f1(b:Option Addr)(a c:Nat)(d f g:Int):Fr:=[(0,(.slice b a c)),(1,(.int .i64 d)),(2,(.int .i64 f)),(6,(.int .i64 g))]
def f4(b:Option Addr)(a c:Nat)(d f g i:Int):Fr:=[(0,(.slice b a c)),(1,(.int .i64 d)),(2,(.int .i64 f)),(6,(.int .i64 g)),(7,(.int .i64 i))]
def J0(k1:(Option Addr)→Nat→Nat→Int→Int→Int→Heap→Prop)(b:Option Addr)(a c:Nat)(d f:Int)(h:Heap)(_K:KK):Prop:=
 k1 b a c d f (IntKind.wrap .i64 (d+(1:Int))) h
theorem E0(S:Stop)(b:Option Addr)(a c:Nat)(d f:Int)(h:Heap)(K:KK):(E Tryz.prog X T S body (fin Tryz.prog Tryz.f324.results.toList K) (args0 0 [(.slice b a c),(.int .i64 d),(.int .i64 f)]) h)=J0 (fun b a c d f g h=>S (en S [1] (fn K)) (f1 b a c d f g) h) b a c d f h K:=by kernel_rfl
def Jk1(lp1:(Option Addr)→Nat→Nat→Int→Int→Int→Heap→Prop)(b:Option Addr)(a c:Nat)(d f g:Int)(h:Heap)(_K:KK):Prop:=
 lp1 b a c d f g h
theorem Ek1(S:Stop)(b:Option Addr)(a c:Nat)(d f g:Int)(h:Heap)(K:KK):(en S [1] (fn K) (f1 b a c d f g) h)=Jk1 (fun b a c d f g h=> ∃n,S (ln S [1,0,0] (c0 S K) n) (f1 b a c d f g) h) b a c d f g h K:=by kernel_rfl
def JL1(k4:(Option Addr)→Nat→Nat→Int→Int→Int→Int→Heap→Prop)(b:Option Addr)(a c:Nat)(d f g:Int)(h:Heap)(K:KK):Prop:=
 bcase (decide (g<f)) (k4 b a c d f g g h) (K (.tuple #[]) h)
theorem EL1(S:Stop)(n1:Nat)(b:Option Addr)(a c:Nat)(d f g:Int)(h:Heap)(K:KK):(en S [1,0,0] (c1 S n1 K) (f1 b a c d f g) h)=JL1 (fun b a c d f g i h=>S (en S [1,0,0,1,0,0,1] (c3 S n1 K)) (f4 b a c d f g i) h) b a c d f g h K:=by kernel_rfl
def Jk4(lp4:(Option Addr)→Nat→Nat→Int→Int→Int→Int→Heap→Prop)(b:Option Addr)(a c:Nat)(d f g i:Int)(h:Heap)(_K:KK):Prop:=
 lp4 b a c d f g i h
theorem Ek4(S:Stop)(n1:Nat)(b:Option Addr)(a c:Nat)(d f g i:Int)(h:Heap)(K:KK):(en S [1,0,0,1,0,0,1] (c3 S n1 K) (f4 b a c d f g i) h)=Jk4 (fun b a c d f g i h=> ∃n,S (ln S [1,0,0,1,0,0,1,0,0] (c4 S n1 K) n) (f4 b a c d f g i) h) b a c d f g i h K:=by kernel_rfl
def JL4(bk4:(Option Addr)→Nat→Nat→Int→Int→Int→Int→Heap→Prop)(bk1:(Option Addr)→Nat→Nat→Int→Int→Int→Heap→Prop)(b:Option Addr)(a c:Nat)(d f g i:Int)(h:Heap)(_K:KK):Prop:=
 bcase (decide (i>d)) (ptrK b (fun a1=>(0≤i∧i<(Nat.cast a:Int)∧ldI .i64 (rd h (a1.add (Int.toNat i*1))) (fun n2=>ptrK b (fun a3=>(0≤(IntKind.wrap .i64 (i-(1:Int)))∧(IntKind.wrap .i64 (i-(1:Int)))<(Nat.cast a:Int)∧ldI .i64 (rd h (a3.add (Int.toNat (IntKind.wrap .i64 (i-(1:Int)))*1))) (fun n4=>Cl 330 [(.int .i64 n2),(.int .i64 n4)] h (fun v5 h6=>ldB (some v5) (fun b7=>bcase b7 (ptrK b (fun a8=>(0≤(IntKind.wrap .i64 (i-(1:Int)))∧(IntKind.wrap .i64 (i-(1:Int)))<(Nat.cast a:Int)∧ldI .i64 (rd h6 (a8.add (Int.toNat (IntKind.wrap .i64 (i-(1:Int)))*1))) (fun n9=>ptrK b (fun a10=>(0≤i∧i<(Nat.cast a:Int)∧ldI .i64 (rd h6 (a10.add (Int.toNat i*1))) (fun n11=>ptrK b (fun a12=>(0≤i∧i<(Nat.cast a:Int)∧stK h6 ((a12.add (Int.toNat i*1)).add 0) (.int .i64 n9) (fun h13=>((.slice b a c)=((.slice b a c):Value)∧((.int .i64 i)=((.int .i64 i):Value)∧((.int .i64 (IntKind.wrap .i64 (i-(1:Int))))=((.int .i64 (IntKind.wrap .i64 (i-(1:Int)))):Value)∧ptrK b (fun a14=>(0≤(IntKind.wrap .i64 (i-(1:Int)))∧(IntKind.wrap .i64 (i-(1:Int)))<(Nat.cast a:Int)∧stK h13 ((a14.add (Int.toNat (IntKind.wrap .i64 (i-(1:Int)))*1)).add 0) (.int .i64 n11) (fun h15=>bk4 b a c d f g (IntKind.wrap .i64 (i-(1:Int))) h15)))))))))))))))) (bk1 b a c d f (IntKind.wrap .i64 (g+(1:Int))) h6)))))))))) (bk1 b a c d f (IntKind.wrap .i64 (g+(1:Int))) h)
theorem EL4(S:Stop)(n1:Nat)(n4:Nat)(b:Option Addr)(a c:Nat)(d f g i:Int)(h:Heap)(K:KK):(en S [1,0,0,1,0,0,1,0,0] (c5 S n1 n4 K) (f4 b a c d f g i) h)=JL4 (fun b a c d f g i h=>S (ln S [1,0,0,1,0,0,1,0,0] (c4 S n1 K) n4) (f4 b a c d f g i) h) (fun b a c d f g h=>S (ln S [1,0,0] (c0 S K) n1) (f1 b a c d f g) h) b a c d f g i h K:=by kernel_rfl
def wL4(bk1:(Option Addr)→Nat→Nat→Int→Int→Int→Heap→Prop):Nat→(Option Addr)→Nat→Nat→Int→Int→Int→Int→Heap→KK→Prop
 |0,_,_,_,_,_,_,_,_,_=>False
 |n+1,b,a,c,d,f,g,i,h,K=>JL4 (fun b a c d f g i h=>wL4 bk1 n b a c d f g i h K) bk1 b a c d f g i h K
theorem eL4(K:KK)(n1:Nat)(bk1:(Option Addr)→Nat→Nat→Int→Int→Int→Heap→Prop)(hb1: ∀(b:Option Addr) (a c:Nat) (d f g:Int) (h:Heap),(ln S0 [1,0,0] (c0 S0 K) n1 (f1 b a c d f g) h)=bk1 b a c d f g h): ∀(n:Nat) (b:Option Addr) (a c:Nat) (d f g i:Int) (h:Heap),(ln S0 [1,0,0,1,0,0,1,0,0] (c4 S0 n1 K) n (f4 b a c d f g i) h)=wL4 bk1 n b a c d f g i h K
 |0,_,_,_,_,_,_,_,_=>rfl
 |n+1,b,a,c,d,f,g,i,h=>(EL4 S0 n1 n b a c d f g i h K).trans (cg2 (fun q0 q1=>JL4 q0 q1 b a c d f g i h K) (by funext b a c d f g i h;exact(fun b a c d f g i h=>eL4 K n1 bk1 hb1 n b a c d f g i h) b a c d f g i h) (by funext b a c d f g h;exact hb1 b a c d f g h))
def wk4(bk1:(Option Addr)→Nat→Nat→Int→Int→Int→Heap→Prop)(b:Option Addr)(a c:Nat)(d f g i:Int)(h:Heap)(K:KK):Prop:=
 Jk4 (fun b a c d f g i h=> ∃m,wL4 bk1 m b a c d f g i h K) b a c d f g i h K
theorem ek4(K:KK)(n1:Nat)(bk1:(Option Addr)→Nat→Nat→Int→Int→Int→Heap→Prop)(hb1: ∀(b:Option Addr) (a c:Nat) (d f g:Int) (h:Heap),(ln S0 [1,0,0] (c0 S0 K) n1 (f1 b a c d f g) h)=bk1 b a c d f g h)(b:Option Addr)(a c:Nat)(d f g i:Int)(h:Heap):(en S0 [1,0,0,1,0,0,1] (c3 S0 n1 K) (f4 b a c d f g i) h)=wk4 bk1 b a c d f g i h K:=(Ek4 S0 n1 b a c d f g i h K).trans (cg1 (fun q0=>Jk4 q0 b a c d f g i h K) (by funext b a c d f g i h;exact ex_congr fun m=>eL4 K n1 bk1 hb1 m b a c d f g i h))
def wL1:Nat→(Option Addr)→Nat→Nat→Int→Int→Int→Heap→KK→Prop
 |0,_,_,_,_,_,_,_,_=>False
 |n+1,b,a,c,d,f,g,h,K=>JL1 (fun b a c d f g i h=>wk4 (fun b a c d f g h=>wL1 n b a c d f g h K) b a c d f g i h K) b a c d f g h K
theorem eL1(K:KK): ∀(n:Nat) (b:Option Addr) (a c:Nat) (d f g:Int) (h:Heap),(ln S0 [1,0,0] (c0 S0 K) n (f1 b a c d f g) h)=wL1 n b a c d f g h K
 |0,_,_,_,_,_,_,_=>rfl
 |n+1,b,a,c,d,f,g,h=>(EL1 S0 n b a c d f g h K).trans (cg1 (fun q0=>JL1 q0 b a c d f g h K) (by funext b a c d f g i h;exact ek4 K n (fun b a c d f g h=>wL1 n b a c d f g h K) (fun b a c d f g h=>eL1 K n b a c d f g h) b a c d f g i h))
def wk1(b:Option Addr)(a c:Nat)(d f g:Int)(h:Heap)(K:KK):Prop:=
 Jk1 (fun b a c d f g h=> ∃m,wL1 m b a c d f g h K) b a c d f g h K
theorem ek1(K:KK)(b:Option Addr)(a c:Nat)(d f g:Int)(h:Heap):(en S0 [1] (fn K) (f1 b a c d f g) h)=wk1 b a c d f g h K:=(Ek1 S0 b a c d f g h K).trans (cg1 (fun q0=>Jk1 q0 b a c d f g h K) (by funext b a c d f g h;exact ex_congr fun m=>eL1 K m b a c d f g h))
def w(b:Option Addr)(a c:Nat)(d f:Int)(h:Heap)(K:KK):Prop:=
 J0 (fun b a c d f g h=>wk1 b a c d f g h K) b a c d f h K
theorem e0(K:KK)(b:Option Addr)(a c:Nat)(d f:Int)(h:Heap):(E Tryz.prog X T S0 body (fin Tryz.prog Tryz.f324.results.toList K) (args0 0 [(.slice b a c),(.int .i64 d),(.int .i64 f)]) h)=w b a c d f h K:=(E0 S0 b a c d f h K).trans (cg1 (fun q0=>J0 q0 b a c d f h K) (by funext b a c d f g h;exact ek1 K b a c d f g h))
theorem hb:Tryz.f324.body=some body:=by kernel_rfl
theorem ok:okCode T Tryz.f324.ntmps body=true:=by kernel_rfl
theorem spec(b:Option Addr)(a c:Nat)(d f:Int)(h:Heap)(K:KK)(H:w b a c d f h K):Cl 324 [(.slice b a c),(.int .i64 d),(.int .i64 f)] h K:=
 calls_of_E (T:=T) Xok mix Tryz.func324 hb ok rfl (by rw[e0];exact H)
end F324
theorem F330.spec(a b:Int)(h:Heap)(K:KK)(H:Cl 352 [.int .i64 a] h fun v1 h2=>ldB (some v1) fun b3=>bcase b3 (Cl 352 [.int .i64 b] h2 fun v4 h5=>ldB (some v4) fun b6=>bcase (!b6) (K (.bool true) h5) (K (.bool (decide (a<b))) h5)) (K (.bool (decide (a<b))) h2)):Cl 330 [.int .i64 a,.int .i64 b] h K:=cN Tryz.func330 H
theorem F352.spec(a:Int)(h:Heap)(K:KK)(H:K (.bool (a !=a)) h):Cl 352 [.int .i64 a] h K:=cN Tryz.func352 H
end
section
theorem nan98{x:Int}{h:Heap}{K:Value→Heap→Prop}(hK:K (.bool false) h):Cl 348 [.int .u32 x] h K:=by
 refine F348.spec x h K ?_
 rw[show(x !=x)=false by simp]
 exact hK
theorem less82{x y:Int}{h:Heap}{K:Value→Heap→Prop}(hK:K (.bool (decide (x<y))) h):Cl 319 [.int .u32 x,.int .u32 y] h K:=by
 refine F319.spec x y h K ?_
 exact nan98 (by rw[ldB_some];exact hK)
theorem inner76{b n a e c i:Nat}{sp:List Value}{K:Value→Heap→Prop}{bk:(Option Addr)→Nat→Nat→Int→Int→Int→Heap→Prop}(he:e≤n)(hie:i<e)(hn:n≤LB-2):
  ∀(j:Nat) (g:Nat→Int) (h:Heap),Arr .u32 h b n g sp→Ins a i j g→a≤j→j≤i→(∀h' g',Arr .u32 h' b n g' sp→Srt a (i+1) g'→Swp a e g g'→Only [b] h h'→bk (some ⟨b,0,none⟩) n c a e ((i+1:Nat):Int) h')→
   F313.wL4 bk (j+1) (some ⟨b,0,none⟩) n c a e i j h K:=by
 intro j
 have hLB:LB=140737488355328:=rfl
 have w1:IntKind.wrap .i64 ((i:Int)+1)=((i+1:Nat):Int):=by rw[wrapN (by omega) (by omega)];omega
 induction j with
 |zero=>
  intro g h A I ha hj hK
  unfold F313.wL4 F313.JL4
  rw[w1,show decide (((0:Nat):Int)>(a:Int))=false by simp]
  exact hK h g A (I.stop (.inl (by omega))) (.refl g) (Only.refl _ _)
 |succ j ih=>
  intro g h A I ha hj hK
  unfold F313.wL4 F313.JL4
  have w2:IntKind.wrap .i64 (((j+1:Nat):Int)-1)=(j:Int):=by rw[wrapN (by omega) (by omega)];omega
  rw[w1,w2]
  refine bcase_of (fun hc=> ?_) fun hc=> ?_
  ·simp only[decide_eq_true_eq]at hc
   refine A.ld rfl (by omega) (A.ld rfl (by omega) (less82 ?_))
   rw[ldB_some]
   refine bcase_of (fun hl=> ?_) fun hl=> ?_
   ·simp only[decide_eq_true_eq]at hl
    refine A.ld rfl (by omega) (A.ld rfl (by omega) (A.sto rfl (by omega) fun h1 A1 O1=>⟨rfl,rfl,rfl,A1.sto rfl (by omega) fun h2 A2 O2=> ?_⟩))
    have O:Only [b] h h2:=O1.trans O2 (by simp)
    have S:Swp a e g (swp g (j+1) j):=Swp.one g (by omega) (by omega) (by omega) (by omega)
    have A2':Arr .u32 h2 b n (swp g (j+1) j) sp:=A2
    have I2:=I.step (by omega) hj hl
    rw[show j+1-1=j by omega]at I2
    exact ih _ h2 A2' I2 (by omega) (by omega) fun h' g' A' R' S' O'=>hK h' g' A' R' (S.trans S') (O.trans O' (by simp))
   ·simp only[decide_eq_false_iff_not]at hl
    exact hK h g A (I.stop (.inr (by rw[show j+1-1=j by omega];omega))) (.refl g) (Only.refl _ _)
  ·simp only[decide_eq_false_iff_not]at hc
   exact hK h g A (I.stop (.inl (by omega))) (.refl g) (Only.refl _ _)
theorem outer76{b n a e c:Nat}{sp:List Value}{K:Value→Heap→Prop}(he:e≤n)(hn:n≤LB-2):
  ∀(d i:Nat) (g:Nat→Int) (h:Heap),e≤i+d→Arr .u32 h b n g sp→a<i→i≤e∨e≤a→Srt a i g→(∀h' g',Arr .u32 h' b n g' sp→Srt a e g'→Swp a e g g'→Only [b] h h'→K (.tuple #[]) h')→
   F313.wL1 (d+1) (some ⟨b,0,none⟩) n c a e i h K:=by
 intro d
 induction d with
 |zero=>
  intro i g h hd A ha hi R hK
  unfold F313.wL1 F313.JL1
  rw[show decide ((i:Int)<(e:Int))=false by simp;omega]
  exact hK h g A (fun p q h1 h2 h3=>R p q h1 h2 (by omega)) (.refl g) (Only.refl _ _)
 |succ d ih=>
  intro i g h hd A ha hi R hK
  unfold F313.wL1 F313.JL1
  refine bcase_of (fun hc=> ?_) fun hc=> ?_
  ·simp only[decide_eq_true_eq]at hc
   refine⟨i+1,inner76 he (by omega) hn i g h A (Ins.start R) (by omega) (Nat.le_refl _) fun h1 g1 A1 R1 S1 O1=> ?_⟩
   exact ih (i+1) g1 h1 (by omega) A1 (by omega) (by omega) R1 fun h' g' A' R' S' O'=>hK h' g' A' R' (S1.trans S') (O1.trans O' (by simp))
  ·simp only[decide_eq_false_iff_not]at hc
   exact hK h g A (fun p q h1 h2 h3=>R p q h1 h2 (by omega)) (.refl g) (Only.refl _ _)
theorem ins76{h:Heap}{b n a e c:Nat}{g:Nat→Int}{sp:List Value}{K:Value→Heap→Prop}(A:Arr .u32 h b n g sp)(he:e≤n)(ha:a≤n)(hn:n≤LB-2)
  (hK: ∀h' g',Arr .u32 h' b n g' sp→Srt a e g'→Swp a e g g'→Only [b] h h'→K (.tuple #[]) h'):Cl 313 [.slice (some ⟨b,0,none⟩) n c,.int .i64 a,.int .i64 e] h K:=by
 refine F313.spec _ _ _ _ _ h K ?_
 unfold F313.w F313.J0 F313.wk1 F313.Jk1
 have hLB:LB=140737488355328:=rfl
 rw[show IntKind.wrap .i64 ((a:Int)+1)=((a+1:Nat):Int) by rw[wrapN (by omega) (by omega)];omega]
 exact⟨e+1,outer76 he hn e (a+1) g h (by omega) A (by omega) (by omega) (Srt.single g (by omega)) hK⟩
end
namespace IN
theorem nan98{x:Int}{h:Heap}{K:Value→Heap→Prop}(hK:K (.bool false) h):Cl 352 [.int .i64 x] h K:=by
 refine F352.spec x h K ?_
 rw[show(x !=x)=false by simp]
 exact hK
theorem less82{x y:Int}{h:Heap}{K:Value→Heap→Prop}(hK:K (.bool (decide (x<y))) h):Cl 330 [.int .i64 x,.int .i64 y] h K:=by
 refine F330.spec x y h K ?_
 exact nan98 (by rw[ldB_some];exact hK)
theorem inner76{b n a e c i:Nat}{sp:List Value}{K:Value→Heap→Prop}{bk:(Option Addr)→Nat→Nat→Int→Int→Int→Heap→Prop}(he:e≤n)(hie:i<e)(hn:n≤LB-2):
  ∀(j:Nat) (g:Nat→Int) (h:Heap),Arr .i64 h b n g sp→Ins a i j g→a≤j→j≤i→(∀h' g',Arr .i64 h' b n g' sp→Srt a (i+1) g'→Swp a e g g'→Only [b] h h'→bk (some ⟨b,0,none⟩) n c a e ((i+1:Nat):Int) h')→
   F324.wL4 bk (j+1) (some ⟨b,0,none⟩) n c a e i j h K:=by
 intro j
 have hLB:LB=140737488355328:=rfl
 have w1:IntKind.wrap .i64 ((i:Int)+1)=((i+1:Nat):Int):=by rw[wrapN (by omega) (by omega)];omega
 induction j with
 |zero=>
  intro g h A I ha hj hK
  unfold F324.wL4 F324.JL4
  rw[w1,show decide (((0:Nat):Int)>(a:Int))=false by simp]
  exact hK h g A (I.stop (.inl (by omega))) (.refl g) (Only.refl _ _)
 |succ j ih=>
  intro g h A I ha hj hK
  unfold F324.wL4 F324.JL4
  have w2:IntKind.wrap .i64 (((j+1:Nat):Int)-1)=(j:Int):=by rw[wrapN (by omega) (by omega)];omega
  rw[w1,w2]
  refine bcase_of (fun hc=> ?_) fun hc=> ?_
  ·simp only[decide_eq_true_eq]at hc
   refine A.ld rfl (by omega) (A.ld rfl (by omega) (less82 ?_))
   rw[ldB_some]
   refine bcase_of (fun hl=> ?_) fun hl=> ?_
   ·simp only[decide_eq_true_eq]at hl
    refine A.ld rfl (by omega) (A.ld rfl (by omega) (A.sto rfl (by omega) fun h1 A1 O1=>⟨rfl,rfl,rfl,A1.sto rfl (by omega) fun h2 A2 O2=> ?_⟩))
    have O:Only [b] h h2:=O1.trans O2 (by simp)
    have S:Swp a e g (swp g (j+1) j):=Swp.one g (by omega) (by omega) (by omega) (by omega)
    have A2':Arr .i64 h2 b n (swp g (j+1) j) sp:=A2
    have I2:=I.step (by omega) hj hl
    rw[show j+1-1=j by omega]at I2
    exact ih _ h2 A2' I2 (by omega) (by omega) fun h' g' A' R' S' O'=>hK h' g' A' R' (S.trans S') (O.trans O' (by simp))
   ·simp only[decide_eq_false_iff_not]at hl
    exact hK h g A (I.stop (.inr (by rw[show j+1-1=j by omega];omega))) (.refl g) (Only.refl _ _)
  ·simp only[decide_eq_false_iff_not]at hc
   exact hK h g A (I.stop (.inl (by omega))) (.refl g) (Only.refl _ _)
theorem outer76{b n a e c:Nat}{sp:List Value}{K:Value→Heap→Prop}(he:e≤n)(hn:n≤LB-2):
  ∀(d i:Nat) (g:Nat→Int) (h:Heap),e≤i+d→Arr .i64 h b n g sp→a<i→i≤e∨e≤a→Srt a i g→(∀h' g',Arr .i64 h' b n g' sp→Srt a e g'→Swp a e g g'→Only [b] h h'→K (.tuple #[]) h')→
   F324.wL1 (d+1) (some ⟨b,0,none⟩) n c a e i h K:=by
 intro d
 induction d with
 |zero=>
  intro i g h hd A ha hi R hK
  unfold F324.wL1 F324.JL1
  rw[show decide ((i:Int)<(e:Int))=false by simp;omega]
  exact hK h g A (fun p q h1 h2 h3=>R p q h1 h2 (by omega)) (.refl g) (Only.refl _ _)
 |succ d ih=>
  intro i g h hd A ha hi R hK
  unfold F324.wL1 F324.JL1
  refine bcase_of (fun hc=> ?_) fun hc=> ?_
  ·simp only[decide_eq_true_eq]at hc
   refine⟨i+1,inner76 he (by omega) hn i g h A (Ins.start R) (by omega) (Nat.le_refl _) fun h1 g1 A1 R1 S1 O1=> ?_⟩
   exact ih (i+1) g1 h1 (by omega) A1 (by omega) (by omega) R1 fun h' g' A' R' S' O'=>hK h' g' A' R' (S1.trans S') (O1.trans O' (by simp))
  ·simp only[decide_eq_false_iff_not]at hc
   exact hK h g A (fun p q h1 h2 h3=>R p q h1 h2 (by omega)) (.refl g) (Only.refl _ _)
theorem ins76{h:Heap}{b n a e c:Nat}{g:Nat→Int}{sp:List Value}{K:Value→Heap→Prop}(A:Arr .i64 h b n g sp)(he:e≤n)(ha:a≤n)(hn:n≤LB-2)
  (hK: ∀h' g',Arr .i64 h' b n g' sp→Srt a e g'→Swp a e g g'→Only [b] h h'→K (.tuple #[]) h'):Cl 324 [.slice (some ⟨b,0,none⟩) n c,.int .i64 a,.int .i64 e] h K:=by
 refine F324.spec _ _ _ _ _ h K ?_
 unfold F324.w F324.J0 F324.wk1 F324.Jk1
 have hLB:LB=140737488355328:=rfl
 rw[show IntKind.wrap .i64 ((a:Int)+1)=((a+1:Nat):Int) by rw[wrapN (by omega) (by omega)];omega]
 exact⟨e+1,outer76 he hn e (a+1) g h (by omega) A (by omega) (by omega) (Srt.single g (by omega)) hK⟩
end IN
section
theorem strS{tb:ByteArray}{y:Nat}{K:Int→Prop}(h:((List.range 256).all fun y=>tb[y]?.isSome)=true)(hy:y<256)(hK: ∀n:Int,K n):strK tb (y:Int) K:=by
 rw[List.all_eq_true]at h
 obtain⟨b,hb⟩:=Option.isSome_iff_exists.1 (h y (List.mem_range.2 hy))
 exact⟨b,by rw[Int.toNat_natCast];exact hb,hK _⟩
theorem len295{X:Nat}{h:Heap}{K:Value→Heap→Prop}(hX:X<256)(hK: ∀L:Int,K (.int .i64 L) h):Cl 295 [.int .u64 (X:Int)] h K:=by
 refine F295.spec _ h K ?_
 refine F323.spec _ h _ ?_
 rw[decide_eq_false (by omega),bcase_false]
 show F323.wk4 _ _ _ _
 unfold F323.wk4
 rw[decide_eq_false (by omega),bcase_false]
 show F323.wk7 _ _ _ _
 unfold F323.wk7
 rw[decide_eq_false (by omega),bcase_false]
 show F323.wk10 _ _ _ _
 unfold F323.wk10
 have:IntKind.wrap .u8 (X:Int)=X:=by simp[IntKind.wrap,IntKind.bits,IntKind.signed];omega
 rw[this]
 exact⟨by omega,strS (by decide+kernel) hX fun n=>ldI_of rfl (hK _)⟩
theorem sort260{h:Heap}{b n c:Nat}{g:Nat→Int}{sp:List Value}{K:Value→Heap→Prop}(A:Arr .u32 h b n g sp)(hn:n≤12)
  (hK: ∀h' g',Arr .u32 h' b n g' sp→Srt 0 n g'→Swp 0 n g g'→Only [b] h h'→K (.tuple #[]) h'):Cl 260 [.slice (some ⟨b,0,none⟩) n c] h K:=by
 refine F260.spec _ _ _ h K ?_
 have hLB:LB=140737488355328:=rfl
 rw[wrap_u64 (by omega) (by omega)]
 refine len295 (by omega) fun L=>ldI_of rfl ?_
 refine F294.spec _ _ _ _ _ _ h _ ⟨1,?_⟩
 rw[F294.sL2]
 rw[wrap_i64 (by omega) (by omega),decide_eq_true (by omega),bcase_true]
 exact ins76 (a:=0) A (Nat.le_refl n) (Nat.zero_le n) (by omega) fun h' g' A' R' S' O'=>⟨rfl,rfl,hK h' g' A' R' S' O'⟩
theorem sort260nil{h:Heap}{c:Nat}{p:Option Addr}{K:Value→Heap→Prop}(hK:K (.tuple #[]) h):Cl 260 [.slice p 0 c] h K:=by
 refine F260.spec _ _ _ h K ?_
 rw[wrap_u64 (by omega) (by omega)]
 refine len295 (X:=0) (by omega) fun L=>ldI_of rfl ?_
 refine F294.spec _ _ _ _ _ _ h _ ⟨1,?_⟩
 rw[F294.sL2]
 rw[show IntKind.wrap .i64 ((((0:Nat):Int))-0)=0 by decide,show decide ((0:Int)≤12)=true by decide,bcase_true]
 refine F313.spec _ _ _ _ _ h _ ⟨1,?_⟩
 unfold F313.wL1 F313.JL1
 rw[show decide (IntKind.wrap .i64 ((0:Int)+1)<((0:Nat):Int))=false by decide,bcase_false]
 exact⟨rfl,rfl,hK⟩
theorem sort265{h:Heap}{c n:Nat}{p:Option Addr}{K:Value→Heap→Prop}(hn:n≤1)(hK:K (.tuple #[]) h):Cl 265 [.slice p n c] h K:=by
 refine F265.spec _ _ _ h K ?_
 rw[wrap_u64 (by omega) (by omega)]
 refine len295 (by omega) fun L=>ldI_of rfl ?_
 refine F298.spec _ _ _ _ _ _ h _ ⟨1,?_⟩
 rw[F298.sL2]
 rw[wrap_i64 (by omega) (by omega),decide_eq_true (by omega),bcase_true]
 refine F324.spec _ _ _ _ _ h _ ⟨1,?_⟩
 unfold F324.wL1 F324.JL1
 rw[show decide (IntKind.wrap .i64 ((0:Int)+1)<((n:Nat):Int))=false by rw[decide_eq_false];rw[wrap_i64 (by omega) (by omega)];omega,bcase_false]
 exact⟨rfl,rfl,hK⟩
end
section
theorem Arr.ldo{q:IntKind}{h:Heap}{b n:Nat}{g:Nat→Int}{sp:List Value}(A:Arr q h b n g sp){o l:Nat}{x:Int}{k:Nat}(hx:x=k)(hk:k<l)(hn:o+k<n){Q:Int→Prop}(hQ:Q (g (o+k))):
  ptrK (some ⟨b,o,none⟩) fun a=>(0≤x∧x<(l:Int)∧ldI q (Ev.rd h (Addr.add a (Int.toNat x*1))) Q):=by
 subst hx
 rw[ptrK_some]
 refine⟨by omega,by omega,?_⟩
 rw[add_mk,show o+Int.toNat (k:Int)*1=o+k by omega,A.rd hn,ldI_some]
 exact hQ
theorem Arr.clr{q:IntKind}{h:Heap}{b n:Nat}{g:Nat→Int}{sp:List Value}(A:Arr q h b n g sp){k c m:Nat}(hk:k≤n)(hm:m=n-k)(hc:n≤c){K:Heap→Prop}
  (hK: ∀h' sp',Arr q h' b k g sp'→sp'.length=n-k+sp.length→Only [b] h h'→K h'):
  clrK h #[.int q 0] (if c=k then some ⟨b,0,none⟩else Option.map (fun a=>Addr.add a (k*1)) (some ⟨b,0,none⟩)) m K:=by
 subst hm
 have e0:rowV n (fun k=>Value.int q (g k))=rowV k (fun k=>Value.int q (g k))++(rowV n (fun k=>Value.int q (g k))).drop k:=by
  conv=>lhs;rw[←List.take_append_drop k (rowV n (fun k=>Value.int q (g k)))]
  congr 1
  apply List.ext_getElem?
  intro i
  by_cases hi:i<k
  ·rw[List.getElem?_take_of_lt hi,rowV_get (by omega),rowV_get hi]
  ·rw[List.getElem?_eq_none (by simp[rowV_len];omega),List.getElem?_eq_none (by simp[rowV_len];omega)]
 by_cases hck:c=k
 ·rw[if_pos hck]
  have:n-k=0:=by omega
  unfold clrK
  rw[this]
  have hz:(Builtin.zeroCells #[Value.int q 0] 0).toList=[]:=by simp[Builtin.zeroCells]
  dsimp only
  rw[hz]
  unfold stL
  have:n=k:=by omega
  subst this
  exact hK h sp A (by omega) (Only.refl _ _)
 ·rw[if_neg hck,Option.map_some,add_mk]
  unfold clrK
  simp only[Nat.zero_add,Nat.mul_one]
  have hz:(Builtin.zeroCells #[Value.int q 0] (n-k)).toList.length=n-k:=by rw[size_zeroCells];simp
  refine stL_own _ 0 _ h A (by rw[hz,List.length_append,rowV_len];omega) (fun v hv=> ?_) fun h' A' O' _=> ?_
  ·simp[Builtin.zeroCells]at hv
   obtain⟨i,_,rfl⟩:=hv
   rw[Nat.mod_one]
   rfl
  ·refine hK h' ((Builtin.zeroCells #[Value.int q 0] (n-k)).toList++(rowV n (fun k=>Value.int q (g k))++sp).drop (k+(n-k))) ?_ ?_ O'
   ·have e1:(rowV n (fun k=>Value.int q (g k))++sp).take k=rowV k (fun k=>Value.int q (g k)):=by
     rw[e0,List.append_assoc,List.take_append_of_le_length (by rw[rowV_len];exact Nat.le_refl _),List.take_of_length_le (by rw[rowV_len];exact Nat.le_refl _)]
    rw[Nat.add_zero,hz,e1,List.append_assoc]at A'
    exact A'
   ·rw[List.length_append,hz,List.length_drop,List.length_append,rowV_len]
    omega
structure Cmp(n k j:Nat)(g g':Nat→Int):Prop where
 k1:1≤k
 kj:k≤j
 up: ∀p q,p<q→q<k→g' p<g' q
 fw: ∀p,p<k→ ∃q,q<j∧g' p=g q
 bw: ∀q,q<j→ ∃p,p<k∧g' p=g q
 last:g' (k-1)=g (j-1)
 rest: ∀i,j≤i+1→i<n→k≤i→g' i=g i
theorem Cmp.same{n k j:Nat}{g g':Nat→Int}(H:Cmp n k j g g')(h:g j=g (j-1))(hk:k≤j):Cmp n k (j+1) g g' where
 k1:=H.k1
 kj:=by omega
 up:=H.up
 fw:=fun p hp=>by
  obtain⟨q,h1,h2⟩:=H.fw p hp
  exact⟨q,by omega,h2⟩
 bw:=fun q hq=>by
  by_cases e:q=j
  ·subst e
   exact⟨k-1,by have:=H.k1;omega,by rw[H.last,h]⟩
  ·exact H.bw q (by omega)
 last:=by rw[H.last,show j+1-1=j by omega,h]
 rest:=fun i h1 h2 h3=>H.rest i (by omega) h2 h3
theorem Cmp.new{n k j:Nat}{g g':Nat→Int}(H:Cmp n k j g g')(h:g (j-1)<g j)(hj:j<n):Cmp n (k+1) (j+1) g (fun i=>if i=k then g j else g' i) where
 k1:=by omega
 kj:=by have:=H.kj;omega
 up:=fun p q h1 h2=>by
  rw[if_neg (by omega:p≠k)]
  by_cases hq:q=k
  ·rw[if_pos hq]
   have l:=H.last
   by_cases hp:p=k-1
   ·rw[hp,l];exact h
   ·have:=H.up p (k-1) (by omega) (by omega)
    rw[l]at this
    exact Int.lt_trans this h
  ·rw[if_neg hq]
   exact H.up p q h1 (by omega)
 fw:=fun p hp=>by
  by_cases e:p=k
  ·exact⟨j,by omega,by rw[if_pos e]⟩
  ·obtain⟨q,h1,h2⟩:=H.fw p (by omega)
   exact⟨q,by omega,by rw[if_neg e];exact h2⟩
 bw:=fun q hq=>by
  by_cases e:q=j
  ·subst e
   exact⟨k,by omega,by rw[if_pos rfl]⟩
  ·obtain⟨p,h1,h2⟩:=H.bw q (by omega)
   exact⟨p,by omega,by rw[if_neg (by omega)];exact h2⟩
 last:=by rw[show k+1-1=k by omega,if_pos rfl,show j+1-1=j by omega]
 rest:=fun i h1 h2 h3=>by
  rw[if_neg (by omega)]
  exact H.rest i (by omega) h2 (by omega)
section
variable {b n c:Nat}{g:Nat→Int}{K:Value→Heap→Prop}
theorem end51{h0 h:Heap}{k:Nat}{g':Nat→Int}{sp:List Value}{bk:(Option Addr)→Nat→Nat→Int→Heap→Prop}(A:Arr .u32 h b n g' sp)(hk:k≤n)(hc:n≤c)(hn:n≤LB/4)(O:Only [b] h0 h)
  (hK: ∀h' sp',Arr .u32 h' b k g' sp'→sp'.length=n-k+sp.length→Only [b] h0 h'→K (.slice (some ⟨b,0,none⟩) k c) h'):F261.wk14 bk (some ⟨b,0,none⟩) n c k h K:=by
 unfold F261.wk14 F261.Jk14
 refine⟨by omega,by omega,?_⟩
 rw[Int.toNat_natCast]
 refine A.clr hk rfl hc fun h' sp' A' hl O'=>⟨by omega,by omega,?_⟩
 have e:(if c=0 then(some (⟨b,0,none⟩:Addr))else Option.map (fun a=>Addr.add a (0*1)) (some ⟨b,0,none⟩))=some ⟨b,0,none⟩:=by
  split
  ·rfl
  ·simp
 rw[e]
 exact hK h' sp' A' hl (O.trans O' (by simp))
theorem in51{sp:List Value}{bk:(Option Addr)→Nat→Nat→Int→Heap→Prop}{k0:Nat}(hc:n≤c)(hn:n≤LB/4)(R:Srt 0 n g)(h0:1≤k0){hh:Heap}:
  ∀(d k2 k:Nat) (g':Nat→Int) (h:Heap),k0+k2+d=n→1≤k2→Arr .u32 h b n g' sp→Cmp n k (k0+k2) g g'→k0≤k→k<k0+k2→Only [b] hh h→
   (∀h' k' g'' sp',Arr .u32 h' b k' g'' sp'→sp'.length=n-k'+sp.length→Cmp n k' n g g''→k'≤n→Only [b] hh h'→K (.slice (some ⟨b,0,none⟩) k' c) h')→
   F261.wL9 bk (d+1) (some ⟨b,0,none⟩) n c k (some ⟨b,k0,none⟩) (n-k0) (c-k0) k2 h K:=by
 intro d
 have hLB:LB=140737488355328:=rfl
 induction d with
 |zero=>
  intro k2 k g' h hd h2 A C hk hk' O hK
  unfold F261.wL9 F261.JL9
  rw[show decide ((k2:Int)<((n-k0:Nat):Int))=false by simp;omega,bcase_false]
  rw[show k0+k2=n by omega]at C
  exact end51 A (by omega) hc hn O fun h' sp' A' hl O'=>hK h' k g' sp' A' hl C (by omega) O'
 |succ d ih=>
  intro k2 k g' h hd h2 A C hk hk' O hK
  unfold F261.wL9 F261.JL9
  rw[show decide ((k2:Int)<((n-k0:Nat):Int))=true by simp;omega,bcase_true,show IntKind.wrap .i64 ((k2:Int)-1)=((k2-1:Nat):Int) by rw[wrapN (by omega) (by omega)];omega,
   show IntKind.wrap .i64 ((k2:Int)+1)=((k2+1:Nat):Int) by rw[wrapN (by omega) (by omega)];omega]
  refine A.ldo rfl (by omega) (by omega) (A.ldo rfl (by omega) (by omega) ?_)
  rw[C.rest (k0+k2) (by omega) (by omega) (by omega)]
  by_cases hkk:k≤k0+(k2-1)
  ·have e1:g' (k0+(k2-1))=g (k0+k2-1):=by rw[C.rest (k0+(k2-1)) (by omega) (by omega) hkk,show k0+(k2-1)=k0+k2-1 by omega]
   rw[e1]
   refine bcase_of (fun hc1=> ?_) fun hc1=> ?_
   ·simp only[bne_iff_ne,ne_eq]at hc1
    refine A.ldo rfl (by omega) (by omega) (A.sto rfl (by omega) fun h1 A1 O1=> ?_)
    rw[C.rest (k0+k2) (by omega) (by omega) (by omega)]at A1
    rw[show IntKind.wrap .i64 ((k:Int)+1)=((k+1:Nat):Int) by rw[wrapN (by omega) (by omega)];omega]
    have lt:g (k0+k2-1)<g (k0+k2):=by
     have:=R (k0+k2-1) (k0+k2) (by omega) (by omega) (by omega)
     omega
    exact ih (k2+1) (k+1) _ h1 (by omega) (by omega) A1 (C.new lt (by omega)) (by omega) (by omega) (O.trans O1 (by simp)) hK
   ·have hc1':g (k0+k2)=g (k0+k2-1):=by simpa using hc1
    exact ih (k2+1) k g' h (by omega) (by omega) A (C.same hc1' (by omega)) hk (by omega) O hK
  ·have:k=k0+k2:=by omega
   omega
theorem out51{sp:List Value}(hc:n≤c)(hn:n≤LB/4)(R:Srt 0 n g){h:Heap}(A:Arr .u32 h b n g sp): ∀(d k:Nat),k+d=n→1≤k→Cmp n k k g g→
   (∀h' k' g'' sp',Arr .u32 h' b k' g'' sp'→sp'.length=n-k'+sp.length→Cmp n k' n g g''→k'≤n→Only [b] h h'→K (.slice (some ⟨b,0,none⟩) k' c) h')→
   F261.wL4 (d+1) (some ⟨b,0,none⟩) n c k h K:=by
 intro d
 have hLB:LB=140737488355328:=rfl
 induction d with
 |zero=>
  intro k hd h1 C hK
  unfold F261.wL4 F261.JL4
  rw[show decide ((k:Int)<(n:Int))=false by simp;omega,bcase_false]
  have:k=n:=by omega
  subst this
  exact hK h k g sp A (by omega) C (Nat.le_refl _) (Only.refl _ _)
 |succ d ih=>
  intro k hd h1 C hK
  unfold F261.wL4 F261.JL4
  rw[show decide ((k:Int)<(n:Int))=true by simp;omega,bcase_true,show IntKind.wrap .i64 ((k:Int)-1)=((k-1:Nat):Int) by rw[wrapN (by omega) (by omega)];omega]
  refine A.ld rfl (by omega) (A.ld rfl (by omega) ?_)
  refine bcase_of (fun he=> ?_) fun he=> ?_
  ·have he':g k=g (k-1):=by simpa using he
   refine⟨by omega,by omega,?_⟩
   unfold F261.wk9 F261.Jk9
   rw[Int.toNat_natCast,if_neg (by omega),Option.map_some,add_mk,Nat.zero_add,Nat.mul_one]
   exact⟨_,in51 hc hn R h1 (n-(k+1)) 1 k g h (by omega) (Nat.le_refl _) A (C.same he' (Nat.le_refl _)) (Nat.le_refl _) (by omega) (Only.refl _ _) hK⟩
  ·have he': ¬g k=g (k-1):=by simpa using he
   rw[show IntKind.wrap .i64 ((k:Int)+1)=((k+1:Nat):Int) by rw[wrapN (by omega) (by omega)];omega]
   have lt:g (k-1)<g k:=by
    have:=R (k-1) k (by omega) (by omega) (by omega)
    omega
   have C':=C.new lt (by omega)
   rw[show(fun i=>if i=k then g k else g i)=g by funext i;by_cases e:i=k<;>simp[e]]at C'
   exact ih (k+1) (by omega) (by omega) C' hK
theorem cmp51{h:Heap}{sp:List Value}(A:Arr .u32 h b n g sp)(hc:n≤c)(hn:n≤LB/4)(R:Srt 0 n g)
  (hK: ∀h' k g' sp',Arr .u32 h' b k g' sp'→sp'.length=n-k+sp.length→k≤n→(∀p q,p<q→q<k→g' p<g' q)→(∀p,p<k→ ∃q,q<n∧g' p=g q)→(∀q,q<n→ ∃p,p<k∧g' p=g q)→Only [b] h h'→K (.slice (some ⟨b,0,none⟩) k c) h'):
  Cl 261 [.slice (some ⟨b,0,none⟩) n c] h K:=by
 refine F261.spec _ _ _ h K ?_
 unfold F261.w F261.J0
 refine bcase_of (fun h2=> ?_) fun h2=> ?_
 ·simp only[decide_eq_true_eq]at h2
  exact hK h n g sp A (by omega) (Nat.le_refl _) (fun p q _ _=>by omega) (fun p hp=>⟨p,hp,rfl⟩) (fun q hq=>⟨q,hq,rfl⟩) (Only.refl _ _)
 ·simp only[decide_eq_false_iff_not]at h2
  unfold F261.wk4 F261.Jk4
  exact⟨_,out51 hc hn R A (n-1) 1 (by omega) (Nat.le_refl _) ⟨Nat.le_refl _,Nat.le_refl _,fun p q _ _=>by omega,fun p hp=>⟨p,hp,rfl⟩,fun q hq=>⟨q,hq,rfl⟩,rfl,fun i _ _ _=>rfl⟩
   fun h' k g' sp' A' hl C hk O'=>hK h' k g' sp' A' hl hk C.up C.fw C.bw O'⟩
end
theorem cmp51nil{h:Heap}{c:Nat}{p:Option Addr}{K:Value→Heap→Prop}(hK:K (.slice p 0 c) h):Cl 261 [.slice p 0 c] h K:=by
 refine F261.spec _ _ _ h K ?_
 unfold F261.w F261.J0
 rw[show decide (((0:Nat):Int)<2)=true by decide,bcase_true]
 exact hK
end
section
def okR(x:Int):Bool:=decide (1<x)
structure Flt(i j:Nat)(g g':Nat→Int):Prop where
 ij:i≤j
 eq:(List.range i).map g'=((List.range j).map g).filter okR
 rest: ∀k,j≤k→g' k=g k
theorem Flt.keep{i j:Nat}{g g':Nat→Int}(H:Flt i j g g')(h:1<g j):Flt (i+1) (j+1) g (fun k=>if k=i then g j else g' k) where
 ij:=by have:=H.ij;omega
 eq:=by
  rw[List.range_succ,List.range_succ,List.map_append,List.map_append,List.filter_append,←H.eq]
  congr 1
  ·apply List.map_congr_left
   intro k hk
   rw[List.mem_range]at hk
   rw[if_neg (by omega)]
  ·simp[okR,h]
 rest:=fun k hk=>by
  have:=H.ij
  rw[if_neg (by omega)]
  exact H.rest k (by omega)
theorem Flt.drop{i j:Nat}{g g':Nat→Int}(H:Flt i j g g')(h: ¬1<g j):Flt i (j+1) g g' where
 ij:=by have:=H.ij;omega
 eq:=by
  rw[H.eq,List.range_succ,List.map_append,List.filter_append]
  simp[okR,h]
 rest:=fun k hk=>H.rest k (by omega)
theorem Flt.all{i:Nat}{g:Nat→Int}(h: ∀k,k<i→1<g k):Flt i i g g where
 ij:=Nat.le_refl _
 eq:=by
  symm
  rw[List.filter_eq_self]
  intro x hx
  obtain⟨k,hk,rfl⟩:=List.mem_map.1 hx
  rw[List.mem_range]at hk
  simp[okR,h k hk]
 rest:=fun k _=>rfl
theorem del53{x:Int}{h:Heap}{K:Value→Heap→Prop}(hK:K (.bool (!okR x)) h):dynK Tryz.prog X (.func (.func 263) #[] #[]) [.int .u32 x] h K:=
 dynK_go (by kernel_rfl) (F263.spec x h K (by
  rw[show decide (x≤1)= !okR x by unfold okR;by_cases h:1<x<;>simp[h]<;>omega]
  exact hK))
section
variable {b n c:Nat}{g:Nat→Int}{K:Value→Heap→Prop}
theorem idx69{h:Heap}{sp:List Value}(A:Arr .u32 h b n g sp)(hn:n≤LB/4)(hK: ∀i:Nat,i<n→(∀k,k<i→1<g k)→ ¬1<g i→K (.int .i64 (i:Int)) h)(hN:(∀k,k<n→1<g k)→K (.int .i64 (-1)) h):
  Cl 296 [.slice (some ⟨b,0,none⟩) n c,.func (.func 263) #[] #[]] h K:=by
 refine F296.spec _ _ _ h K ?_
 have hLB:LB=140737488355328:=rfl
 unfold F296.wk2
 have main: ∀(d i:Nat),i+d=n→(∀k,k<i→1<g k)→F296.wL2 (d+1) (some ⟨b,0,none⟩) n c (.func (.func 263) #[] #[]) n i h K:=by
  intro d
  induction d with
  |zero=>
   intro i hd hi
   rw[F296.sL2]
   rw[show decide ((i:Int)<(n:Int))=false by simp;omega,bcase_false]
   exact hN fun k hk=>hi k (by omega)
  |succ d ih=>
   intro i hd hi
   rw[F296.sL2]
   rw[show decide ((i:Int)<(n:Int))=true by simp;omega,bcase_true]
   refine A.ld rfl (by omega) (del53 ?_)
   rw[ldB_some]
   refine bcase_of (fun ho=> ?_) fun ho=> ?_
   ·exact hK i (by omega) hi (by simpa[okR]using ho)
   ·rw[show IntKind.wrap .i64 ((i:Int)+1)=((i+1:Nat):Int) by rw[wrapN (by omega) (by omega)];omega]
    refine ih (i+1) (by omega) fun k hk=> ?_
    by_cases e:k=i
    ·subst e;simpa[okR]using ho
    ·exact hi k (by omega)
 exact⟨_,main n 0 (by omega) fun k hk=>by omega⟩
theorem end52{h0 h:Heap}{k:Nat}{g':Nat→Int}{sp:List Value}(A:Arr .u32 h b n g' sp)(hk:k≤n)(hc:n≤c)(O:Only [b] h0 h)
  (hK: ∀h' sp',Arr .u32 h' b k g' sp'→sp'.length=n-k+sp.length→Only [b] h0 h'→K (.slice (some ⟨b,0,none⟩) k c) h'):F262.wk11 (some ⟨b,0,none⟩) n c k h K:=by
 unfold F262.wk11
 refine⟨by omega,by omega,?_⟩
 rw[Int.toNat_natCast]
 refine A.clr hk rfl hc fun h' sp' A' hl O'=>⟨by omega,by omega,?_⟩
 have e:(if c=0 then(some (⟨b,0,none⟩:Addr))else Option.map (fun a=>Addr.add a (0*1)) (some ⟨b,0,none⟩))=some ⟨b,0,none⟩:=by
  split
  ·rfl
  ·simp
 rw[e]
 exact hK h' sp' A' hl (O.trans O' (by simp))
theorem out52{sp:List Value}(hc:n≤c)(hn:n≤LB/4){hh:Heap}:
  ∀(d j i:Nat) (g':Nat→Int) (h:Heap),j+d=n→i<j→Arr .u32 h b n g' sp→Flt i j g g'→Only [b] hh h→
   (∀h' k g'' sp',Arr .u32 h' b k g'' sp'→sp'.length=n-k+sp.length→k≤n→(List.range k).map g''=((List.range n).map g).filter okR→Only [b] hh h'→K (.slice (some ⟨b,0,none⟩) k c) h')→
   F262.wL5 (d+1) (some ⟨b,0,none⟩) n c (.func (.func 263) #[] #[]) i j h K:=by
 intro d
 have hLB:LB=140737488355328:=rfl
 induction d with
 |zero=>
  intro j i g' h hd hij A C O hK
  rw[F262.sL5]
  rw[show decide ((j:Int)<(n:Int))=false by simp;omega,bcase_false]
  have:j=n:=by omega
  subst this
  exact end52 A (by omega) hc O fun h' sp' A' hl O'=>hK h' i g' sp' A' hl (by omega) C.eq O'
 |succ d ih=>
  intro j i g' h hd hij A C O hK
  rw[F262.sL5]
  rw[show decide ((j:Int)<(n:Int))=true by simp;omega,bcase_true,show IntKind.wrap .i64 ((j:Int)+1)=((j+1:Nat):Int) by rw[wrapN (by omega) (by omega)];omega]
  refine A.ld rfl (by omega) (del53 ?_)
  rw[ldB_some]
  have ej:g' j=g j:=C.rest j (Nat.le_refl _)
  refine bcase_of (fun ho=> ?_) fun ho=> ?_
  ·have ho':1<g j:=by rw[←ej];simpa[okR]using ho
   refine A.sto rfl (by omega) fun h1 A1 O1=> ?_
   rw[ej]at A1
   rw[show IntKind.wrap .i64 ((i:Int)+1)=((i+1:Nat):Int) by rw[wrapN (by omega) (by omega)];omega]
   exact ih (j+1) (i+1) _ h1 (by omega) (by omega) A1 (C.keep ho') (O.trans O1 (by simp)) hK
  ·have ho': ¬1<g j:=by rw[←ej];simpa[okR]using ho
   exact ih (j+1) i g' h (by omega) (by omega) A (C.drop ho') O hK
theorem del52{h:Heap}{sp:List Value}(A:Arr .u32 h b n g sp)(hc:n≤c)(hn:n≤LB/4)
  (hK: ∀h' k g' sp',Arr .u32 h' b k g' sp'→sp'.length=n-k+sp.length→k≤n→(List.range k).map g'=((List.range n).map g).filter okR→Only [b] h h'→K (.slice (some ⟨b,0,none⟩) k c) h'):
  Cl 262 [.slice (some ⟨b,0,none⟩) n c,.func (.func 263) #[] #[]] h K:=by
 refine F262.spec _ _ _ h K ?_
 have hLB:LB=140737488355328:=rfl
 refine idx69 A hn (fun i hi h1 h2=> ?_) fun h1=> ?_
 ·rw[ldI_some,show((i:Int)==(-1))=false by simp,bcase_false,show IntKind.wrap .i64 ((i:Int)+1)=((i+1:Nat):Int) by rw[wrapN (by omega) (by omega)];omega]
  unfold F262.wk5
  exact⟨_,out52 hc hn (n-(i+1)) (i+1) i g h (by omega) (by omega) A ((Flt.all h1).drop h2) (Only.refl _ _) hK⟩
 ·rw[ldI_some,show((-1:Int)==(-1))=true by decide,bcase_true]
  exact hK h n g sp A (by omega) (Nat.le_refl _) (Flt.all h1).eq (Only.refl _ _)
end
theorem del52nil{h:Heap}{c:Nat}{p:Option Addr}{K:Value→Heap→Prop}(hK:K (.slice p 0 c) h):Cl 262 [.slice p 0 c,.func (.func 263) #[] #[]] h K:=by
 refine F262.spec _ _ _ h K ?_
 refine F296.spec _ _ _ h _ ?_
 unfold F296.wk2
 refine⟨1,?_⟩
 rw[F296.sL2]
 rw[show decide ((0:Int)<((0:Nat):Int))=false by decide,bcase_false]
 try dsimp only
 rw[ldI_some,show((-1:Int)==(-1))=true by decide,bcase_true]
 exact hK
end
section
open Go Go.RowKit Go.Maps
def anyRd(_:Value):Option (DataW Unit×List MemPlace):=some (.nil,[])
def keyD(q:IntKind)(p:Int×Value):Lit×DataW Unit:=(.int q p.1,.nil)
theorem owns_of{P:Program}{kt:TypeId}{q:IntKind}(hk:P.underlying kt=some (.int q)){w:World}{b:Nat}{m:List (Int×Value)}(M:MapM w.heap b q m)
  (hwf: ∀x∈m.map (·.1),(Lit.int q x).wf=true) (hsz:m.length≤maxLen):
  ∃D:DataW Unit,w.ownsMap P kt anyRd b m.length D∧Maps.size D=m.length∧ ∀x,Maps.has D (.int q x)=true↔x∈m.map (·.1):=by
 obtain⟨es,cl,h1,h2,h3,h4,h5⟩:=M
 have hlen:es.toList.length=m.length:=by simpa using congrArg List.length h2
 have hrd: ∀(l:List MapEntry) (m:List (Int×Value)),l.map (fun e=>(e.key,e.val))=m.map (fun p=>(Value.int q p.1,p.2))→(∀x∈m.map (·.1),(Lit.int q x).wf=true)→
   l.map (WideElems.rg P kt anyRd)=m.map (keyD q)∧ ∀x∈l,∃y,WideElems.rd P kt anyRd x=some y:=by
  intro l
  induction l with
  |nil=>intro m h _;cases m with
   |nil=>exact⟨rfl,by simp⟩
   |cons p m=>simp at h
  |cons e l ih=>intro m h hw;cases m with
   |nil=>simp at h
   |cons p m=>
    simp only[List.map_cons,List.cons.injEq,Prod.mk.injEq]at h
    obtain⟨⟨a1,a2⟩,a3⟩:=h
    obtain⟨i1,i2⟩:=ih m a3 fun x hx=>hw x (by simp[hx])
    have hr:WideElems.rd P kt anyRd e=some (keyD q p):=by
     unfold WideElems.rd
     rw[a1,keyOf_int_mk hk (hw p.1 (by simp))]
     rfl
    refine⟨by rw[List.map_cons,List.map_cons,i1];unfold WideElems.rg;rw[hr];rfl,fun x hx=> ?_⟩
    rcases List.mem_cons.1 hx with rfl|hx
    ·exact⟨_,hr⟩
    ·exact i2 x hx
 obtain⟨r1,r2⟩:=hrd _ m h2 hwf
 refine⟨_,⟨es,cl,mp_obj h1,⟨by rw[←Array.length_toList,hlen];exact hsz,⟨h5,h4,?_⟩,r2⟩,by rw[←Array.length_toList,hlen];exact Nat.le_refl _,rfl⟩,?_,fun x=> ?_⟩
 ·have e:es.toList.map (·.key)=(m.map (·.1)).map (Value.int q):=by
   have:=congrArg (List.map Prod.fst) h2
   simpa[List.map_map,Function.comp_def]using this
  rw[e]
  exact h3.map _ fun a b hab e=>hab (by injection e)
 ·rw[Maps.size_eq,length_sorted,List.length_map,hlen]
 ·rw[Maps.has_eq,List.any_eq_true,r1]
  constructor
  ·rintro ⟨p,hp,hs⟩
   rw[mem_sorted,List.mem_map]at hp
   obtain⟨y,hy,rfl⟩:=hp
   simp[keyD,Lit.sameKey]at hs
   exact List.mem_map.2 ⟨y,hy,hs⟩
  ·intro hx
   obtain⟨p,hp,rfl⟩:=List.mem_map.1 hx
   exact⟨keyD q p,mem_sorted.2 (List.mem_map.2 ⟨p,hp,rfl⟩),by simp[keyD,Lit.sameKey]⟩
def CollI(q:IntKind)(D0:DataW Unit)(left:Lit→Bool)(ss:List Int):Prop:=ss.Nodup∧ ∀x,x∈ss↔(Maps.has D0 (.int q x)=true∧left (.int q x)=false)
theorem CollI.start(q:IntKind)(D0:DataW Unit):CollI q D0 (Maps.has D0) []:=⟨List.nodup_nil,fun x=>by cases Maps.has D0 (.int q x)<;>simp⟩
theorem CollI.step{q:IntKind}{D0:DataW Unit}{left:Lit→Bool}{ss:List Int}(h:CollI q D0 left ss){x:Int}{y:DataW Unit}(hlk:left (.int q x)=true)(hat: ∀zd,D0.atKey (.int q x) zd=y):
  CollI q D0 (fun z=>left z&& !z.sameKey (.int q x)) (ss++[x]):=by
 have hhas:Maps.has D0 (.int q x)=true:=Maps.has_true_of_atKey hat
 have hnew:x∉ss:=fun hx=>by have:=((h.2 x).1 hx).2;rw[hlk]at this;cases this
 refine⟨List.nodup_append.2 ⟨h.1,by simp,fun a ha b hb=>by simp at hb;subst hb;exact fun e=>hnew (e▸ha)⟩,fun y=> ?_⟩
 by_cases hy:y=x
 ·subst hy;simp[hhas,Lit.sameKey]
 ·simp[h.2 y,hy,Lit.sameKey]
theorem CollI.perm{q:IntKind}{D0:DataW Unit}{left:Lit→Bool}{ss ks:List Int}(h:CollI q D0 left ss)(hl: ∀kl,left kl=false)(hnd:ks.Nodup)(hm: ∀x,Maps.has D0 (.int q x)=true↔x∈ks):ss.Perm ks:=
 (List.perm_ext_iff_of_nodup h.1 hnd).2 fun x=>by rw[h.2 x,hl,←hm];simp
def FzK(W W':World):Prop:= ∀a,fz W'.heap a=fz W.heap a
theorem fz_obj{h:Heap}{a:Addr}{o:Obj}(ho:h[a.block]? =some o)(hc:o.isCells=false):fz h a=false:=by
 unfold fz
 rw[ho]
 cases o<;>first|rfl|(simp[Obj.isCells]at hc)
theorem FzK.alloc(W:World){o:Obj}(hc:o.isCells=false):FzK W (W.alloc o):=fun a=>by
 by_cases ha:a.block=W.heap.size
 ·rw[fz_obj (o:=o) (by rw[ha];exact World.alloc_heap_new W o) hc]
  unfold fz
  rw[ha,Array.getElem?_eq_none (Nat.le_refl _)]
 ·unfold fz
  show(match (W.heap.push o)[a.block]? with|some (.cells _ _ (lo,hi))=>lo≤a.off&&a.off<hi|_=>false)=_
  rw[Array.getElem?_push,if_neg ha]
  rfl
theorem FzK.put{W:World}{l:Nat}{o:Obj}(o':Obj)(hl:W.heap[l]? =some o)(hc:o.isCells=false)(hc':o'.isCells=false):FzK W (W.putObj l o'):=fun a=>by
 by_cases ha:a.block=l
 ·rw[fz_obj (o:=o') (by rw[ha];exact World.putObj_heap_same (Array.getElem?_eq_some_iff.1 hl).1) hc',fz_obj (o:=o) (by rw[ha];exact hl) hc]
 ·unfold fz
  rw[World.putObj_heap_other ha]
theorem FzK.one{W W':World}{r:Nat}(hs: ∀k,k<W.heap.size→k≠r→W'.heap[k]? =W.heap[k]?){o:Obj}(hr:W.heap[r]? =some o∨W.heap.size=r)(ho:W.heap[r]? =some o→o.isCells=false){o':Obj}(hr':W'.heap[r]? =some o')(ho':o'.isCells=false)
  (hsz:W'.heap.size≤max W.heap.size (r+1)):FzK W W':=fun a=>by
 by_cases ha:a.block=r
 ·rw[fz_obj (o:=o') (by rw[ha];exact hr') ho']
  rcases hr with hr|hr
  ·rw[fz_obj (o:=o) (by rw[ha];exact hr) (ho hr)]
  ·unfold fz
   rw[ha,Array.getElem?_eq_none (Nat.le_of_eq hr)]
 ·unfold fz
  by_cases hk:a.block<W.heap.size
  ·rw[hs _ hk ha]
  ·have:W'.heap.size≤a.block:=by
    rcases Nat.le_total W.heap.size (r+1)with h|h
    ·rw[Nat.max_eq_right h]at hsz
     rcases hr with hr|hr
     ·have:=(Array.getElem?_eq_some_iff.1 hr).1;omega
     ·omega
    ·rw[Nat.max_eq_left h]at hsz
     omega
   rw[Array.getElem?_eq_none (Nat.le_of_not_lt hk),Array.getElem?_eq_none this]
theorem Only.allocW(W:World){o:Obj}(hc:o.isCells=false):Only [] W.heap (W.alloc o).heap:=
 ⟨by simp,fun b hb _=>Below.heap_alloc W o b hb,FzK.alloc W hc⟩
theorem Only.putW{W:World}{l:Nat}{o:Obj}(o':Obj)(hl:W.heap[l]? =some o)(hc:o.isCells=false)(hc':o'.isCells=false):Only [l] W.heap (W.putObj l o').heap:=
 ⟨by simp,fun b _ hS=>World.putObj_heap_other (fun e=>hS (by simp[e])),FzK.put o' hl hc hc'⟩
theorem stL_mono{a:Addr}{K K':Heap→Prop}: ∀(cs:List Value) (i:Nat) (h:Heap),stL a i cs h K→(∀h',K h'→K' h')→stL a i cs h K':=by
 intro cs
 induction cs with
 |nil=>intro i h H hK;unfold stL at H ⊢;exact hK h H
 |cons v vs ih=>
  intro i h H hK
  unfold stL stK at H ⊢
  cases hv:v.oneCell' with
  |false=>rw[hv]at H;exact H
  |true=>rw[hv]at H;exact⟨H.1,H.2.1,ih _ _ H.2.2 hK⟩
def AbidesZ(B:Nat)(J:List Int→World→Prop):Prop:=
 ∀s W W' row,J s W→W.grownBy W' row→FzK W W'→(∀r,row=some r→B≤r∧ ∃o:Obj,W.heap[r]? =some o∧o.isWalk=true)→J s W'
theorem grown_only{W W':World}{row:Option Nat}(hg:W.grownBy W' row)(hf:FzK W W'):Only row.toList W.heap W'.heap:=
 ⟨hg.size,fun b hb hS=>hg.block b hb (fun e=>hS (by rw[←e];simp)),hf⟩
theorem grown_same{W W':World}{row:Option Nat}(hg:W.grownBy W' row):W'.os=W.os∧W'.tape=W.tape∧W'.output=W.output:=by
 obtain⟨a,b,c,-⟩:=hg
 constructor<;>(try constructor)<;>assumption
theorem appK_mono{h:Heap}{e:TypeId}{sz by_:Nat}{z:Array Value}{p q:Option Addr}{l c m:Nat}{K K':Option Addr→Nat→Nat→Heap→Prop}(H:appK h e sz by_ z p l c q m K)
  (hK: ∀p' l' c' h',K p' l' c' h'→K' p' l' c' h'):appK h e sz by_ z p l c q m K':=by
 obtain⟨new,a1,a2,a3,a4⟩:=H
 refine⟨new,a1,a2,fun hle=> ?_,fun hlt=> ?_⟩
 ·have:=a3 hle
  cases p with
  |none=>exact⟨this.1,hK _ _ _ _ this.2⟩
  |some ad=>exact stL_mono _ _ _ this fun h' hk=>hK _ _ _ _ hk
 ·obtain⟨old,b1,b2,b3,b4⟩:=a4 hlt
  exact⟨old,b1,b2,b3,fun cap hc=>hK _ _ _ _ (b4 cap hc)⟩
theorem wpListIn_app{F:Fence}{n:Nat}{P:Program}(w:World){ops:Array Oper}{rest:List Oper}{o:Oper}{a:Act}{Q:Exit→Act→World→Prop}(hg:o.guard=none)(x y:Operand)(t:TypeId)
  (ho:o.op= .call {callee:= .builtin .append,args:= #[x,y],argTypes:= #[t,t]}) {e:TypeId} {sz by_:Nat} {z:Array Value} {p q:Option Addr} {l c m c':Nat}
  (ht:P.underlying t=some (.slice e)) (hs:sizeB P e=some (sz,by_,z)) (hby:1≤by_) (hx:a.eval x= .slice p l c) (hy:a.eval y= .slice q m c')
  {K:Option Addr→Nat→Nat→Heap→Prop} (H:appK w.heap e sz by_ z p l c q m K)
  (h: ∀p' l' c' w',Same w w'→K p' l' c' w'.heap→wpListIn F n P ops Q rest (a.put o.dst (.slice p' l' c')) w'):wpListIn F n P ops Q (o::rest) a w:=by
 refine wpListIn_plain hg fun K' hK'=> ?_
 obtain⟨v,w',hr,hsame,⟨p',l',c',hv,hk⟩⟩:=appK_sound (P:=P) (ty:=o.type) (c':=c') (K:=fun v h=> ∃p' l' c',v= .slice p' l' c'∧K p' l' c' h) ht ⟨e,ht⟩ hs hby
  (appK_mono H fun p' l' c' h' hk=>⟨p',l',c',rfl,hk⟩) w rfl
 unfold Oper.wpIn
 refine⟨by simp[Oper.about,ho,resolve,Target.leads,Sem.run_pure],?_⟩
 rw[Oper.semAt_plain F _ _ (by rw[ho];intro c hc';cases hc')]
 simp[execOp,ho,resolve,invoke,builtin,hx,hy,hr,Result.andThen]
 subst hv
 exact hK' _ _ (h _ _ _ _ hsame hk)
end
section
open Go Go.RowKit Go.Maps
theorem u46:Tryz.prog.underlying 46=some (.int .u32):=by kernel_rfl
theorem u204:Tryz.prog.underlying 204=some (.map 46 3):=by kernel_rfl
theorem u56:Tryz.prog.underlying 56=some (.slice 46):=by kernel_rfl
set_option maxRecDepth 100000 in
set_option maxHeartbeats 2000000 in
theorem keysN{F:Fence}{n:Nat}(h66:F.fn 293)(hro:F.round=none)(hn:1≤n)(l Bm b nn:Nat)(D0:DataW Unit)(J:List Int→World→Prop)
  (hY: ∀pre x W,J pre W→pre.length<Maps.size D0→YieldAt F (n-1) Tryz.prog l #[.int .u32 x] W fun e W'=>e= .returned (.bool true)∧J (pre++[x]) W'∧KeepsWalks W W')
  (W:World) (hJ:AbidesZ W.heap.size J) (hm:W.cell? ⟨Bm,0,none⟩=some (.map (some b))) (hown:W.ownsMap Tryz.prog 46 anyRd b nn D0) (h0:J [] W):
  CallsIn F n Tryz.prog 293 #[.func (.yield l) #[] #[],.pointer (some ⟨Bm,0,none⟩)] W fun e W'=>(∃v,e= .returned v)∧ ∃ss:List Int,J ss W'∧ ∃left,CollI .u32 D0 left ss∧ ∀kl,left kl=false:=by
 refine callsIn_of_wp Tryz.func293 rfl h66 ?_ hro
 simp only[Tryz.ntmps293,List.size_toArray,List.length_cons,List.length_nil,Nat.reduceAdd,Nat.reduceSub,Array.replicate_succ,Array.replicate_zero,List.push_toArray,List.append_toArray,List.nil_append,List.cons_append]
 gi_wp2_with (first
  |(gi_at_range;refine wpListIn_range_own _ rfl _ 204 rfl 46 3 (int_keyed u46) u204 _ b nn _ rfl hown ?_;intro w0 hrg0 hg0 hs0)
  |gi_in)
 go_frame
 gi_loopw [3] (fun _ wr=> ∃(left:Lit→Bool) (cnt:Nat) (ss:List Int),wr.ranges Tryz.prog 46 anyRd b W.heap.size nn D0 left cnt∧ss.length+cnt≤Maps.size D0∧CollI .u32 D0 left ss∧J ss wr)
  (fun _ wr=>wr.rangeLeft b W.heap.size)
 case atStart=>
  have hf0:FzK W w0:=by
   obtain⟨es,clock,since,seen,c0,_,_,_,_,hr,_⟩:=hrg0
   exact FzK.one (r:=W.heap.size) (o:= .mapIter none 0 #[] 0) (fun k hk _=>hg0.block k hk (by simp)) (.inr rfl) (fun _=>rfl) hr rfl (by omega)
  exact⟨_,_,[],hrg0,by simp,CollI.start .u32 D0,hJ [] W w0 none h0 hg0 hf0 (fun r e=>by cases e)⟩
 case round=>
  obtain⟨left,cnt,ss,hrg,hcs,hC,hJs⟩:=hrel
  gi_wp2_with (first
   |(gi_at_next;refine wpListIn_next_ranges _ rfl _ rfl 46 (int_keyed u46) anyRd (Value.int .u32) (fun v:Value=>v) (fun key kl hk=>by obtain⟨x,hx,_⟩:=Maps.keyOf_int_inv u46 hk;exact⟨x,hx⟩) (fun v y hv=>⟨v,rfl⟩) b W.heap.size nn _ _ _ rfl hrg ?_ ?_)
   |gi_in)
  ·intro hc0 hl0
   gi_wp2
   go_end0
   exact⟨⟨_,rfl⟩,ss,hJs,left,hC,hl0⟩
  ·intro x c kl yd yp w2 cnt2 hkey hlk hv hat hrg2 hlt hg2 hs2 hen
   obtain⟨x',ex,rfl,_⟩:=Maps.keyOf_int_inv u46 hkey
   cases ex
   have hf2:FzK wr w2:=by
    obtain⟨es,clock,since,seen,c0,_,_,_,_,hr,_⟩:=hrg
    obtain⟨es',clock',since',seen',c0',_,_,_,_,hr',_⟩:=hrg2
    exact FzK.one (r:=W.heap.size) (o:= .mapIter (some b) since seen c0) (fun k hk hne=>hg2.block k hk (by simpa using hne)) (.inl hr) (fun _=>rfl) hr' rfl (by omega)
   have hJ2:J ss w2:=hJ ss wr w2 (some W.heap.size) hJs hg2 hf2 (fun r e=>by cases e;exact⟨Nat.le_refl _,hrg.iter_walk⟩)
   obtain⟨fn,tmps,assign,body,hy,hR⟩:=hY ss x w2 hJ2 (by omega)
   clear hs2 hf2
   gi_wp2
   refine hR.mono ?_
   rintro e W3 ⟨rfl,hJ3,hk3⟩
   gi_wp2
   have hrg3:=hrg2.of_walks hk3
   go_roundw
   case rel=>exact⟨_,cnt2,ss++[x],hrg3,by simp;omega,hC.step hlk hat,hJ3⟩
   case measure=>rw[hrg3.left_eq,hrg.left_eq];exact hlt
end
section
open Go Go.RowKit Go.Maps
def pickC:Code→Option (Code×Code)
 | .seq a b=>(pickC a).or (pickC b)
 | .block _ c=>pickC c
 | .rangeFunc _ _ a b=>some (a,b)
 |_=>none
noncomputable def apAssign:Code:=((Tryz.f292.body.bind pickC).map (·.1)).getD .skip
noncomputable def apBody:Code:=((Tryz.f292.body.bind pickC).map (·.2)).getD .skip
noncomputable def apRec(fn:FuncId)(sv:Value)(Bs D:Nat)(st:LoopState)(pend:Option Code):Loop:=
 {state:=st,pending:=pend,fn,tmps:= #[.slice none 0 0,sv,.pointer (some ⟨Bs,0,none⟩),undef,.slice none 0 0,undef,sv,undef,undef,undef,undef,undef,undef],params:= #[7],assign:=apAssign,body:=apBody,defers:=D}
structure ApAt(w0:World)(fn:FuncId)(sv:Value)(Bs l D:Nat)(ss:List Int)(W:World):Prop where
 box: ∃p c,At W.heap Bs [.slice p ss.length c]∧Own W.heap (Bs+1) 1 p ss.length c (ss.map (Value.int .u32))
 L:W.heap[l]? =some (.loop (apRec fn sv Bs D .ready none))
 K:W.heap[D]? =some (.deferred (some []))
 only:Only [] w0.heap W.heap
 same:Same w0 W
theorem At.notWalk{h:Heap}{b r:Nat}{c:List Value}(A:At h b c)(hr: ∃o:Obj,h[r]? =some o∧o.isWalk=true):b≠r:=by
 obtain⟨e,A⟩:=A
 obtain⟨o,hr,hw⟩:=hr
 intro e'
 subst e'
 rw[A]at hr
 cases hr
 cases hw
theorem Same.of_grown{W W':World}{row:Option Nat}(hg:W.grownBy W' row):Same W W':=grown_same hg
theorem ap_abides(w0:World)(fn:FuncId)(sv:Value)(Bs l D B:Nat)(hB:w0.heap.size≤B):AbidesZ B (ApAt w0 fn sv Bs l D):=fun s W W' row h hg hf hrow=>by
 have hrow': ∀r,row=some r→ ∃o:Obj,W.heap[r]? =some o∧o.isWalk=true:=fun r e=>(hrow r e).2
 have O:=grown_only hg hf
 have hno: ∀b,(∃c,At W.heap b c)→b∉row.toList:=fun b ⟨c,A⟩ hb=>by
  cases row with
  |none=>simp at hb
  |some r=>simp at hb;exact A.notWalk (hrow' r rfl) hb
 obtain⟨p,c,A,H⟩:=h.box
 exact⟨⟨p,c,A.only O (hno _ ⟨_,A⟩),H.onlyC O fun b _ hc=>hno b hc⟩,(grownBy_keeps hg hrow' h.L rfl).trans h.L,(grownBy_keeps hg hrow' h.K rfl).trans h.K,
  h.only.trans O (fun b hb hlt=>by
   cases row with
   |none=>simp at hb
   |some r=>
    simp at hb
    have:=(hrow r rfl).1
    omega),h.same.trans (Same.of_grown hg)⟩
theorem keeps_only{S:List Nat}{W W':World}(O:Only S W.heap W'.heap)(h: ∀r∈S,∀o:Obj,W.heap[r]? =some o→o.isWalk=false):KeepsWalks W W':=
 ⟨O.size,fun k o hk ho=>(O.same k (Array.getElem?_eq_some_iff.1 hk).1 (fun hS=>by rw[h k hS o hk]at ho;cases ho)).trans hk⟩
theorem At.ne_obj{h:Heap}{b r:Nat}{c:List Value}(A:At h b c){o:Obj}(hr:h[r]? =some o)(ho:o.isCells=false):b≠r:=by
 obtain⟨e,A⟩:=A
 intro e'
 subst e'
 rw[A]at hr
 cases hr
 cases ho
theorem At.walkF{h:Heap}{b:Nat}{c:List Value}(A:At h b c): ∀o:Obj,h[b]? =some o→o.isWalk=false:=by
 obtain⟨e,A⟩:=A
 intro o ho
 rw[A]at ho
 cases ho
 rfl
theorem sB46:sizeB Tryz.prog 46=some (1,4,#[.int .u32 0]):=by kernel_rfl
set_option maxRecDepth 100000 in
set_option maxHeartbeats 2000000 in
theorem apYield{F:Fence}{m:Nat}(w0:World)(fn:FuncId)(hfn:F.fn fn)(sv:Value)(Bs l D:Nat)(hBl:Bs≠l)(hDl:D≠l)(hDB:D≠Bs)(h0B:w0.heap.size≤Bs)(h0l:w0.heap.size≤l)
  (N:Nat) (hN:N*4≤140737488355328) (ss:List Int) (x:Int) (W:World) (h:ApAt w0 fn sv Bs l D ss W) (hlen:ss.length<N):
  YieldAt F m Tryz.prog l #[.int .u32 x] W fun e W'=>e= .returned (.bool true)∧ApAt w0 fn sv Bs l D (ss++[x]) W'∧KeepsWalks W W':=by
 obtain⟨p,c,A,H⟩:=h.box
 refine⟨fn,#[.slice none 0 0,sv,.pointer (some ⟨Bs,0,none⟩),undef,.slice none 0 0,undef,sv,.int .u32 x,undef,undef,undef,undef,undef],apAssign,apBody,by simpa[apRec]using run_yield (P:=Tryz.prog) (args:= #[.int .u32 x]) h.L rfl,roundIn_of_wpIn hfn ?_⟩
 have hl:l<W.heap.size:=(Array.getElem?_eq_some_iff.1 h.L).1
 have hbr:=run_beginRound (P:=Tryz.prog) h.L rfl
 obtain⟨W2,hW2⟩: ∃W2,W.putObj l (.loop {apRec fn sv Bs D .ready none with state:= .busy})=W2:=⟨_,rfl⟩
 rw[hW2]at hbr
 have hnl: ∀b,(∃c,At W.heap b c)→b∉[l]:=fun b ⟨c,A⟩ hb=>A.ne_obj h.L rfl (by simpa using hb)
 have O2:Only [l] W.heap W2.heap:=by rw[←hW2];exact Only.putW _ h.L rfl rfl
 have A2:At W2.heap Bs [.slice p ss.length c]:=A.only O2 (hnl _ ⟨_,A⟩)
 have H2:=H.onlyC O2 fun b _ hc=>hnl b hc
 have hK2:W2.heap[D]? =some (.deferred (some [])):=by rw[←hW2];exact(World.putObj_heap_other hDl).trans h.K
 have hL2:W2.heap[l]? =some (.loop {apRec fn sv Bs D .ready none with state:= .busy}):=by rw[←hW2];exact World.putObj_heap_same hl
 have S2:Same W W2:=by rw[←hW2];exact⟨rfl,rfl,rfl⟩
 have hc2:W2.cell? ⟨Bs,0,none⟩=some (.slice p ss.length c):=A2.rd 0
 have hf2:W2.frozen? ⟨Bs,0,none⟩=false:=A2.fz 0 none
 have A3:At (W2.alloc (.cells #[.int .u32 x] 46)).heap W2.heap.size [.int .u32 x]:=At.push _ _ _
 have O3:Only [] W2.heap (W2.alloc (.cells #[.int .u32 x] 46)).heap:=Only.push_cells _ _ _
 have H3:=H2.onlyC O3 fun b _ _=>by simp
 have A3':=A2.only O3 (by simp)
 have hBlt:=A2.lt
 have hz3:=O3.size
 clear hW2
 simp only[apAssign,Tryz.f292,pickC,Option.bind_some,Option.map_some,Option.getD_some,Option.none_or,Option.some_or]
 gi_wp2_with (rw[Oper.semAt_eq _ _ _ (fun c h=>by cases h)];go_simp;try go_bits)
 simp only[apBody,Tryz.f292,pickC,Option.bind_some,Option.map_some,Option.getD_some,Option.none_or,Option.some_or]
 gi_wp2_with (first
  |(gi_at_builtin;refine wpListIn_app _ rfl _ _ 56 rfl u56 sB46 (by decide) rfl rfl (own_app (K:=fun p' l' c' h'=>l'=ss.length+1∧Own h' (Bs+1) 1 p' (ss.length+1) c' (ss.map (Value.int .u32)++[Value.int .u32 x])∧Only (OwnB p) (W2.alloc (.cells #[.int .u32 x] 46)).heap h'∧ ∀b∈OwnB p',b∈OwnB p∨(W2.alloc (.cells #[.int .u32 x] 46)).heap.size≤b) H3 A3 rfl rfl (by omega) (by simp[Value.oneCell']) (by omega) fun p' c' h' a b c=>⟨rfl,a,b,c⟩) ?_;rintro p' l' c' w3 S3 ⟨rfl,H4,O4,hp'⟩
    have hnB:Bs∉OwnB p:=fun hb=>by have:=H2.lt Bs hb;omega
    have A4:=A3'.only O4 hnB
    have hc3:w3.cell? ⟨Bs,0,none⟩=some (.slice p ss.length c):=A4.rd 0
    have hf3:w3.frozen? ⟨Bs,0,none⟩=false:=A4.fz 0 none
    go_frame)
  |(rw[Oper.semAt_eq _ _ _ (fun c h=>by cases h)];go_simp;try go_bits))
 have hlB:l∉OwnB p:=fun hb=>by obtain⟨c,A⟩:=H3.cells l hb;exact A.ne_obj ((Below.heap_alloc _ _ l (Array.getElem?_eq_some_iff.1 hL2).1).trans hL2) rfl rfl
 have hDB':D∉OwnB p:=fun hb=>by obtain⟨c,A⟩:=H3.cells D hb;exact A.ne_obj ((Below.heap_alloc _ _ D (Array.getElem?_eq_some_iff.1 hK2).1).trans hK2) rfl rfl
 have hL3:w3.heap[l]? =some (.loop {apRec fn sv Bs D .ready none with state:= .busy}):=(O4.same l (Nat.lt_of_lt_of_le (Array.getElem?_eq_some_iff.1 hL2).1 hz3) hlB).trans ((O3.same l (Array.getElem?_eq_some_iff.1 hL2).1 (by simp)).trans hL2)
 have hK3:w3.heap[D]? =some (.deferred (some [])):=(O4.same D (Nat.lt_of_lt_of_le (Array.getElem?_eq_some_iff.1 hK2).1 hz3) hDB').trans ((O3.same D (Array.getElem?_eq_some_iff.1 hK2).1 (by simp)).trans hK2)
 obtain⟨w4,hw4⟩: ∃w4,w3.setCell ⟨Bs,0,none⟩ (.slice p' (ss.length+1) c')=w4:=⟨_,rfl⟩
 rw[hw4]
 have O5:Only [Bs] w3.heap w4.heap:=by rw[←hw4];exact Only.wr w3.heap ⟨Bs,0,none⟩ _
 have A5:At w4.heap Bs [.slice p' (ss.length+1) c']:=by rw[←hw4];exact A4.wr 0 _
 have S4:Same w3 w4:=by rw[←hw4];exact⟨rfl,rfl,rfl⟩
 have hL4:w4.heap[l]? =some (.loop {apRec fn sv Bs D .ready none with state:= .busy}):=(O5.same l (Array.getElem?_eq_some_iff.1 hL3).1 (by simpa using Ne.symm hBl)).trans hL3
 have hK4:w4.heap[D]? =some (.deferred (some [])):=(O5.same D (Array.getElem?_eq_some_iff.1 hK3).1 (by simpa using hDB)).trans hK3
 have H5:=H4.onlyC O5 fun b hb _ hbB=>by
  simp at hbB
  subst hbB
  have:=H4.lt b hb
  omega
 clear hw4
 have O6:Only [l] w4.heap (w4.putObj l (.loop {{apRec fn sv Bs D .ready none with state:= .busy}with state:=if(none:Option Code).isNone then .ready else .done,pending:=none})).heap:=Only.putW _ hL4 rfl rfl
 have hnl4: ∀b,(∃c,At w4.heap b c)→b∉[l]:=fun b ⟨c,A⟩ hb=>A.ne_obj hL4 rfl (by simpa using hb)
 have OO:Only (l::Bs::OwnB p) W.heap (w4.putObj l (.loop {{apRec fn sv Bs D .ready none with state:= .busy}with state:=if(none:Option Code).isNone then .ready else .done,pending:=none})).heap:=by
  refine(((((O2.mono (T:=l::Bs::OwnB p) (by simp+contextual)).trans O3 (by simp)).trans O4 (by simp+contextual)).trans O5 (by simp+contextual)).trans O6 (by simp+contextual))
 refine⟨_,_,run_endRound none hL4,rfl,⟨⟨p',c',?_,?_⟩,World.putObj_heap_same (Array.getElem?_eq_some_iff.1 hL4).1,(World.putObj_heap_other hDl).trans hK4,h.only.trans OO ?_,?_⟩,keeps_only OO ?_⟩
 ·rw[List.length_append,List.length_singleton]
  exact A5.only O6 (hnl4 _ ⟨_,A5⟩)
 ·rw[List.length_append,List.length_singleton,List.map_append,List.map_singleton]
  exact H5.onlyC O6 fun b _ hc=>hnl4 b hc
 ·intro b hb hlt
  rcases List.mem_cons.1 hb with rfl|hb
  ·omega
  ·rcases List.mem_cons.1 hb with rfl|hb
   ·omega
   ·have:=H.lt b hb
    omega
 ·exact((((h.same.trans S2).trans ⟨rfl,rfl,rfl⟩).trans S3).trans S4).trans ⟨rfl,rfl,rfl⟩
 ·intro r hr o ho
  rcases List.mem_cons.1 hr with rfl|hr
  ·rw[h.L]at ho;cases ho;rfl
  ·rcases List.mem_cons.1 hr with rfl|hr
   ·exact A.walkF o ho
   ·obtain⟨c,A'⟩:=H.cells r hr
    exact A'.walkF o ho
end
section
open Go Go.RowKit Go.Maps Go.Shelf
set_option maxRecDepth 100000 in
set_option maxHeartbeats 2000000 in
theorem appSeq_in{F:Fence}{n:Nat}(h65:F.fn 292)(h66:F.fn 293)(hro:F.round=none)(hn:2≤n)(Bm b:Nat)(m:List (Int×Value))(w:World)(A:At w.heap Bm [.map (some b)])(M:MapM w.heap b .u32 m)
  (hwf: ∀x∈m.map (·.1),(Lit.int .u32 x).wf=true) (hsz:m.length*4≤140737488355328):
  CallsIn F n Tryz.prog 292 #[.slice none 0 0,.func (.func 293) #[] #[.pointer (some ⟨Bm,0,none⟩)]] w fun e w'=> ∃(p:Option Addr) (c:Nat) (ss:List Int),e= .returned (.slice p ss.length c)∧ss.Perm (m.map (·.1))∧
   Own w'.heap (w.heap.size+1) 1 p ss.length c (ss.map (Value.int .u32))∧Only [] w.heap w'.heap∧Same w w':=by
 have h1:1≤n:=by omega
 have hnd:(m.map (·.1)).Nodup:=by obtain⟨_,_,_,_,h,_⟩:=M;exact h
 have eg: ∀args w,(callFunc 293 args).run Tryz.prog w= .ok (.enter 293 args) w:=enters_of Tryz.func293 (by kernel_rfl) rfl
 refine callsIn_of_wp_marks Tryz.func292 rfl h65 ?_ hro
 simp only[Tryz.ntmps292,List.size_toArray,List.length_cons,List.length_nil,Nat.reduceAdd,Nat.reduceSub,Array.replicate_succ,Array.replicate_zero,List.push_toArray,List.append_toArray,List.nil_append,List.cons_append]
 gi_wp2
 refine wpIn_rangeFunc ?_
 intro fn hfn
 rw[hro]
 obtain⟨W0,hW0⟩: ∃W0,w.alloc (.cells #[.slice none 0 0] 56)=W0:=⟨_,rfl⟩
 have hs0:W0.heap.size=w.heap.size+1:=by rw[←hW0];simp
 have O0:Only [] w.heap W0.heap:=by rw[←hW0];exact Only.push_cells _ _ _
 have A0:At W0.heap w.heap.size [.slice none 0 0]:=by rw[←hW0];exact At.push _ _ _
 have S0:Same w W0:=by rw[←hW0];exact⟨rfl,rfl,rfl⟩
 rw[hW0]
 obtain⟨W1,hW1⟩: ∃W1,(W0.alloc (.deferred (some []))).alloc (.loop (apRec fn (.func (.func 293) #[] #[.pointer (some ⟨Bm,0,none⟩)]) w.heap.size W0.heap.size .ready none))=W1:=⟨_,rfl⟩
 have O1:Only [] W0.heap W1.heap:=by rw[←hW1];exact(Only.allocW W0 rfl).trans (Only.allocW _ rfl) (by simp)
 have hs1:W1.heap.size=W0.heap.size+2:=by rw[←hW1];simp
 have S1:Same W0 W1:=by rw[←hW1];exact⟨rfl,rfl,rfl⟩
 have OW:=O0.trans O1 (by simp)
 have hM:ApAt w fn (.func (.func 293) #[] #[.pointer (some ⟨Bm,0,none⟩)]) w.heap.size (W0.heap.size+1) W0.heap.size [] W1:=
  ⟨⟨none,0,A0.only O1 (by simp),Own.nil _ _ _⟩,
   by rw[←hW1];have:=World.alloc_heap_new (W0.alloc (.deferred (some []))) (.loop (apRec fn (.func (.func 293) #[] #[.pointer (some ⟨Bm,0,none⟩)]) w.heap.size W0.heap.size .ready none));rwa[World.size_alloc]at this,
   by rw[←hW1];exact(Below.heap_alloc _ _ _ (by simp)).trans (World.alloc_heap_new W0 _),OW,S0.trans S1⟩
 obtain⟨D0,hown,hD1,hD2⟩:=owns_of u46 (M.only OW (by simp)) hwf (by simp[maxLen];omega)
 refine⟨W0.heap.size+1,[{target:= .collected W0.heap.size,args:= #[]}],W1,{target:= .fn (.func 293) #[.pointer (some ⟨Bm,0,none⟩)],args:= #[.func (.yield (W0.heap.size+1)) #[] #[]]},W1,293,
  #[.func (.yield (W0.heap.size+1)) #[] #[]]++ #[.pointer (some ⟨Bm,0,none⟩)],W1,?_,?_,?_,?_,fun _=>h1,?_⟩
 ·rw[←hW1];exact run_enterLoop_outer _ _ _ _ _
 ·simp[resolve,go_sem]
 ·intro f' hf';simp[Target.leads]at hf';subst hf';exact h66
 ·simp[invoke,go_sem,eg]
 ·refine(keysN (F:=F) (n:=n-1) h66 hro (by omega) (W0.heap.size+1) Bm b m.length D0 (ApAt w fn (.func (.func 293) #[] #[.pointer (some ⟨Bm,0,none⟩)]) w.heap.size (W0.heap.size+1) W0.heap.size)
   (fun pre x W hJ hl=>apYield (F:=F) (m:=n-1-1) w fn hfn _ w.heap.size (W0.heap.size+1) W0.heap.size (by omega) (by omega) (by omega) (Nat.le_refl _) (by omega) m.length hsz pre x W hJ (by omega)) W1 (ap_abides _ _ _ _ _ _ _ (by omega))
   ((A.only OW (by simp)).rd 0) hown hM).mono ?_
  rintro e W2 ⟨⟨v0,rfl⟩,ss,h2,left,hC,hl⟩
  obtain⟨p,c,A2,H2⟩:=h2.box
  have hend:=run_endLoop (P:=Tryz.prog) h2.L (by simp[apRec])
  obtain⟨W3,hW3⟩: ∃W3,W2.putObj (W0.heap.size+1) (.loop {apRec fn (.func (.func 293) #[] #[.pointer (some ⟨Bm,0,none⟩)]) w.heap.size W0.heap.size .ready none with state:= .exhausted})=W3:=⟨_,rfl⟩
  rw[hW3]at hend
  have O3:Only [W0.heap.size+1] W2.heap W3.heap:=by rw[←hW3];exact Only.putW _ h2.L rfl rfl
  have S3:Same W2 W3:=by rw[←hW3];exact⟨rfl,rfl,rfl⟩
  have hnl: ∀b,(∃c,At W2.heap b c)→b∉[W0.heap.size+1]:=fun b ⟨c,A⟩ hb=>A.ne_obj h2.L rfl (by simpa using hb)
  have A3:=A2.only O3 (hnl _ ⟨_,A2⟩)
  have H3:=H2.onlyC O3 fun b _ hc=>hnl b hc
  have hK3:W3.heap[W0.heap.size]? =some (.deferred (some [])):=by rw[←hW3];exact(World.putObj_heap_other (by omega)).trans h2.K
  have hc3:W3.cell? ⟨w.heap.size,0,none⟩=some (.slice p ss.length c):=A3.rd 0
  have hf3:W3.frozen? ⟨w.heap.size,0,none⟩=false:=A3.fz 0 none
  clear hW3
  refine⟨none,W3,hend,?_⟩
  gi_wp2
  rw[←hs0]
  refine⟨by simp,.inl ⟨_,_,rfl,run_takeDeferred hK3,?_⟩⟩
  have O4:Only [W0.heap.size] W3.heap (W3.putObj W0.heap.size (.deferred none)).heap:=Only.putW _ hK3 rfl rfl
  have hF:=H3.onlyC O4 (fun b _ hc hb=>by obtain⟨c,A⟩:=hc;exact A.ne_obj hK3 rfl (by simpa using hb))
  rw[←hs0]at hF
  exact⟨_,results_tmp rfl _ _ _,p,c,ss,rfl,hC.perm hl hnd hD2,hF,
   (h2.only.trans O3 (by intro b hb hlt;simp at hb;omega)).trans O4 (by intro b hb hlt;simp at hb;omega),(h2.same.trans S3).trans ⟨rfl,rfl,rfl⟩⟩
theorem appSeq{h:Heap}{Bm b:Nat}{m:List (Int×Value)}{K:Value→Heap→Prop}(A:At h Bm [.map (some b)])(M:MapM h b .u32 m)
  (hwf: ∀x∈m.map (·.1),(Lit.int .u32 x).wf=true) (hsz:m.length*4≤140737488355328)
  (hK: ∀(p:Option Addr) (c:Nat) (h':Heap) (ss:List Int),ss.Perm (m.map (·.1))→Own h' (h.size+1) 1 p ss.length c (ss.map (Value.int .u32))→Only [] h h'→K (.slice p ss.length c) h'):
  Cl 292 [.slice none 0 0,.func (.func 293) #[] #[.pointer (some ⟨Bm,0,none⟩)]] h K:=fun w hw=>by
 subst hw
 refine((callsIn_wide (n:=2)).1 (appSeq_in (F:=Fence.wide) (n:=2) trivial trivial rfl (by omega) Bm b m w A M hwf hsz)).mono ?_
 rintro e w' ⟨p,c,ss,rfl,h1,h2,h3,h4⟩
 exact⟨_,rfl,h4,hK p c _ ss h1 h2 h3⟩
end
end Go.Proofs.YtnofenejoebkhaaGreat.Ev
