/- PART 4 OF WHAT THE LAW WholeCache STANDS ON: TskF5, TskA5, LogB5, TskP5, TskB5, TskC5, TskD5, TskE5, TskH5, TskI5, TskJ5, DeqF5, DeqA405, DeqA415, DeqA425, DeqC5, DeqS5, DeqT5, DeqG5, DeqU5, DeqV5, PolF5, DeqP5, DeqR5, DeqQ5, EvO, PolA5. Conditions: none but those that each lemma states. -/
import Derived.Test.YtnofenejoebkhaaGreatG3
namespace Go.Proofs.YtnofenejoebkhaaGreat.Ev
open Go
section
def F91.T:Hint:=⟨[(7,[3,7,8,9]),(10,[3,7,8])],[(13,[[(0,[]),(1,[]),(2,[]),(3,[]),(4,[]),(5,[]),(6,[]),(7,[1,2,3,4]),(8,[]),(9,[]),(10,[])]])]⟩
section
variable (n:Nat)(o:Addr)(f g i j l:Int)(b a c:Addr)(d:Int)(h:Heap)(K:KK)
def F91.JL7(bk7:Addr→Addr→Addr→Int→Heap→Prop)(k10:Addr→Addr→Addr→Heap→Prop)(b a c:Addr)(d:Int)(h:Heap)(_K:KK):Prop:=bcase (decide (d<(3:Int))) ((0≤d∧d<(Nat.cast 3:Int)∧stK h ((c.add (Int.toNat d*1)).add 0) (.int .u32 0) fun h1=>bk7 b a c (IntKind.wrap .i64 (d+(1:Int))) h1)) (k10 b a c h)
def F91.wk10:Prop:=ldI .i64 (rd h (b.add 0)) fun n1=>ldI .u8 (rd h (b.add 4)) fun n2=>ldI .u32 (rd h (c.add 0)) fun n3=>ldI .u32 (rd h (c.add 1)) fun n4=>ldI .u32 (rd h (c.add 2)) fun n5=>Cl 135 [.pointer (some a),.int .u8 (IntKind.wrap .u8 n1),.int .u8 n2,.agg #[.int .u32 n3,.int .u32 n4,.int .u32 n5]] h fun v6 h7=>ldP (some v6) fun p8=>ldI .i64 (rd h7 (b.add 0)) fun n9=>bcase (n9==(1:Int)) (ldI .u32 (rd h7 (b.add 1)) fun n10=>ptrK p8 fun a11=>stK h7 ((a11.add 1).add 0) (.int .u8 4) fun h12=>((.pointer p8)=((.pointer p8):Value)∧((.pointer (some (b.add 1)))=((.pointer (some (b.add 1))):Value)∧ldI .u32 (rd h12 (b.add 1)) fun n13=>((.int .u32 n13)=((.int .u32 n10):Value)∧((.agg #[.int .u32 1,.int .u32 n10,.int .u32 0])=((.agg #[.int .u32 1,.int .u32 n10,.int .u32 0]):Value)∧ptrK p8 fun a14=>stK h12 ((a14.add 3).add 0) (.int .u32 1) fun h15=>stK h15 ((a14.add 3).add 1) (.int .u32 n10) fun h16=>stK h16 ((a14.add 3).add 2) (.int .u32 0) fun h17=>K (.tuple #[.pointer (some a),.int .i64 0]) h17))))) (bcase (n9==(6:Int)) (bcase (n9==(6:Int)) (ptrK p8 fun a18=>stK h7 ((a18.add 8).add 0) (.func (.func 136) #[.pointer p8] #[]) fun h19=>K (.tuple #[.pointer (some a),.int .i64 0]) h19) (bcase (n9==(8:Int)) (ptrK p8 fun a20=>stK h7 ((a20.add 8).add 0) (.func (.func 137) #[.pointer p8] #[]) fun h21=>K (.tuple #[.pointer (some a),.int .i64 0]) h21) (bcase (n9==(9:Int)) (ptrK p8 fun a22=>stK h7 ((a22.add 8).add 0) (.func (.func 138) #[.pointer p8] #[]) fun h23=>K (.tuple #[.pointer (some a),.int .i64 0]) h23) (bcase (n9==(10:Int)) (ptrK p8 fun a24=>stK h7 ((a24.add 8).add 0) (.func (.func 139) #[.pointer p8] #[]) fun h25=>K (.tuple #[.pointer (some a),.int .i64 0]) h25) (K (.tuple #[.pointer (some a),.int .i64 0]) h7))))) (bcase (n9==(7:Int)) (ptrK p8 fun a26=>stK h7 ((a26.add 8).add 0) (.func (.func 136) #[.pointer p8] #[]) fun h27=>K (.tuple #[.pointer (some a),.int .i64 0]) h27) (bcase (n9==(8:Int)) (ptrK p8 fun a28=>stK h7 ((a28.add 8).add 0) (.func (.func 137) #[.pointer p8] #[]) fun h29=>K (.tuple #[.pointer (some a),.int .i64 0]) h29) (bcase (n9==(9:Int)) (ptrK p8 fun a30=>stK h7 ((a30.add 8).add 0) (.func (.func 138) #[.pointer p8] #[]) fun h31=>K (.tuple #[.pointer (some a),.int .i64 0]) h31) (bcase (n9==(10:Int)) (ptrK p8 fun a32=>stK h7 ((a32.add 8).add 0) (.func (.func 139) #[.pointer p8] #[]) fun h33=>K (.tuple #[.pointer (some a),.int .i64 0]) h33) (K (.tuple #[.pointer (some a),.int .i64 0]) h7))))))
def F91.wL7:Prop:=Lp Tryz.f91 F91.T [1,1,1,1,0,1,0] n [(3,(.pointer (some b))),(7,(.pointer (some a))),(8,(.pointer (some c))),(9,(.int .i64 d))] h K
theorem F91.sL7:F91.wL7 (n+1) b a c d h K=(F91.JL7 (fun b a c d h=>F91.wL7 n b a c d h K) (fun b a c h=>F91.wk10 b a c h K) b a c d h K):=by kernel_rfl
def F91.wk7:Prop:=(∃m,F91.wL7 m b a c d h K)
theorem F91.spec(H:newK h (.cells #[.int .i64 f,.int .u32 g,.int .u32 i,.int .u32 j,.int .u8 l] 66) fun b1 h2=>ldI .i64 (rd h2 ((Addr.mk b1 0 none).add 0)) fun n3=>ldI .u32 (rd h2 ((Addr.mk b1 0 none).add 1)) fun n4=>ldI .u32 (rd h2 ((Addr.mk b1 0 none).add 2)) fun n5=>ldI .u32 (rd h2 ((Addr.mk b1 0 none).add 3)) fun n6=>ldI .u8 (rd h2 ((Addr.mk b1 0 none).add 4)) fun n7=>Cl 133 [.pointer (some o),.agg #[.int .i64 n3,.int .u32 n4,.int .u32 n5,.int .u32 n6,.int .u8 n7]] h2 fun v8 h9=>ldI .i64 (some v8) fun n10=>bcase (n10 !=(0:Int)) (K (.tuple #[.pointer none,.int .i64 n10]) h9) (newK h9 (.cells #[.pointer (some o),.slice none 0 0,.int .u32 0,.bool false,.int .i64 0] 228) fun b11 h12=>ldI .u32 (rd h12 ((Addr.mk b1 0 none).add 1)) fun n13=>ldI .u32 (rd h12 ((Addr.mk b1 0 none).add 2)) fun n14=>ldI .u32 (rd h12 ((Addr.mk b1 0 none).add 3)) fun n15=>newK h12 (.cells #[.int .u32 0,.int .u32 0,.int .u32 0] 115) fun b16 h17=>stK h17 ((Addr.mk b16 0 none).add 0) (.int .u32 n13) fun h18=>stK h18 ((Addr.mk b16 0 none).add 1) (.int .u32 n14) fun h19=>stK h19 ((Addr.mk b16 0 none).add 2) (.int .u32 n15) fun h20=>ldI .i64 (rd h20 ((Addr.mk b1 0 none).add 0)) fun n21=>Cl 134 [.int .i64 n21] h20 fun v22 h23=>ldI .i64 (some v22) fun n24=>F91.wk7 (Addr.mk b1 0 none) (Addr.mk b11 0 none) (Addr.mk b16 0 none) n24 h23 K)):Cl 91 [.pointer (some o),.agg #[.int .i64 f,.int .u32 g,.int .u32 i,.int .u32 j,.int .u8 l]] h K:=cT F91.T Tryz.func91 H
end
def F133.T:Hint:=⟨[(5,[0,3,21,22,23]),(10,[0,3])],[(13,[[(0,[]),(1,[]),(2,[]),(3,[]),(4,[0,1,2]),(5,[]),(6,[])]]),(16,[[(0,[]),(1,[]),(2,[]),(3,[]),(4,[0,1,2]),(5,[])]])]⟩
section
variable (n:Nat)(c:Addr)(l o q r s:Int)(b:Addr)(f:Option Addr)(d i:Nat)(j g:Int)(h:Heap)(K:KK)
def F133.wk10:Prop:=ldI .i64 (rd h (b.add 0)) fun n1=>bcase (n1==(6:Int)) (bcase (n1==(6:Int)) (ldI .u8 (rd h (b.add 4)) fun n2=>Cl 75 [.pointer (some c)] h fun v3 h4=>ldI .i64 (some v3) fun n5=>((.pointer (some (b.add 4)))=((.pointer (some (b.add 4))):Value)∧ldI .u8 (rd h4 (b.add 4)) fun n6=>((.int .u8 n6)=((.int .u8 n2):Value)∧((.int .i64 (IntKind.wrap .i64 n2))=((.int .i64 (IntKind.wrap .i64 n2)):Value)∧(0≤n5∧bcase ((Int.fdiv (IntKind.wrap .i64 n2) (2^(min (Int.toNat n5) (IntKind.bits .i64)))) !=(0:Int)) (K (.int .i64 40) h4) (K (.int .i64 0) h4)))))) (bcase (n1==(8:Int)) (ldI .u8 (rd h (b.add 4)) fun n7=>Cl 75 [.pointer (some c)] h fun v8 h9=>ldI .i64 (some v8) fun n10=>((.pointer (some (b.add 4)))=((.pointer (some (b.add 4))):Value)∧ldI .u8 (rd h9 (b.add 4)) fun n11=>((.int .u8 n11)=((.int .u8 n7):Value)∧((.int .i64 (IntKind.wrap .i64 n7))=((.int .i64 (IntKind.wrap .i64 n7)):Value)∧bcase (decide ((IntKind.wrap .i64 n7)≥n10)) (K (.int .i64 40) h9) (K (.int .i64 0) h9))))) (bcase (n1==(9:Int)) (bcase (n1==(9:Int)) (Cl 75 [.pointer (some c)] h fun v12 h13=>ldI .i64 (some v12) fun n14=>((2:Int)≠0∧bcase ((Int.tmod n14 (2:Int))==(1:Int)) (K (.int .i64 160) h13) (ldI .u32 (rd h13 (b.add 1)) fun n15=>Cl 179 [.pointer (some c),.int .u32 n15] h13 fun v16 h17=>ldB (some v16) fun b18=>bcase (!b18) (K (.int .i64 160) h17) (K (.int .i64 0) h17)))) (K (.int .i64 0) h)) (bcase (n1==(10:Int)) (Cl 75 [.pointer (some c)] h fun v19 h20=>ldI .i64 (some v19) fun n21=>((2:Int)≠0∧bcase ((Int.tmod n21 (2:Int))==(1:Int)) (K (.int .i64 160) h20) (ldI .u32 (rd h20 (b.add 1)) fun n22=>Cl 179 [.pointer (some c),.int .u32 n22] h20 fun v23 h24=>ldB (some v23) fun b25=>bcase (!b25) (K (.int .i64 160) h24) (K (.int .i64 0) h24)))) (K (.int .i64 0) h))))) (bcase (n1==(7:Int)) (ldI .u8 (rd h (b.add 4)) fun n26=>Cl 75 [.pointer (some c)] h fun v27 h28=>ldI .i64 (some v27) fun n29=>((.pointer (some (b.add 4)))=((.pointer (some (b.add 4))):Value)∧ldI .u8 (rd h28 (b.add 4)) fun n30=>((.int .u8 n30)=((.int .u8 n26):Value)∧((.int .i64 (IntKind.wrap .i64 n26))=((.int .i64 (IntKind.wrap .i64 n26)):Value)∧(0≤n29∧bcase ((Int.fdiv (IntKind.wrap .i64 n26) (2^(min (Int.toNat n29) (IntKind.bits .i64)))) !=(0:Int)) (K (.int .i64 40) h28) (K (.int .i64 0) h28)))))) (bcase (n1==(8:Int)) (ldI .u8 (rd h (b.add 4)) fun n31=>Cl 75 [.pointer (some c)] h fun v32 h33=>ldI .i64 (some v32) fun n34=>((.pointer (some (b.add 4)))=((.pointer (some (b.add 4))):Value)∧ldI .u8 (rd h33 (b.add 4)) fun n35=>((.int .u8 n35)=((.int .u8 n31):Value)∧((.int .i64 (IntKind.wrap .i64 n31))=((.int .i64 (IntKind.wrap .i64 n31)):Value)∧bcase (decide ((IntKind.wrap .i64 n31)≥n34)) (K (.int .i64 40) h33) (K (.int .i64 0) h33))))) (bcase (n1==(9:Int)) (bcase (n1==(9:Int)) (Cl 75 [.pointer (some c)] h fun v36 h37=>ldI .i64 (some v36) fun n38=>((2:Int)≠0∧bcase ((Int.tmod n38 (2:Int))==(1:Int)) (K (.int .i64 160) h37) (ldI .u32 (rd h37 (b.add 1)) fun n39=>Cl 179 [.pointer (some c),.int .u32 n39] h37 fun v40 h41=>ldB (some v40) fun b42=>bcase (!b42) (K (.int .i64 160) h41) (K (.int .i64 0) h41)))) (K (.int .i64 0) h)) (bcase (n1==(10:Int)) (Cl 75 [.pointer (some c)] h fun v43 h44=>ldI .i64 (some v43) fun n45=>((2:Int)≠0∧bcase ((Int.tmod n45 (2:Int))==(1:Int)) (K (.int .i64 160) h44) (ldI .u32 (rd h44 (b.add 1)) fun n46=>Cl 179 [.pointer (some c),.int .u32 n46] h44 fun v47 h48=>ldB (some v47) fun b49=>bcase (!b49) (K (.int .i64 160) h48) (K (.int .i64 0) h48)))) (K (.int .i64 0) h)))))
def F133.wL5:Prop:=Lp Tryz.f133 F133.T [1,1,1,0,1,0] n [(0,(.pointer (some c))),(3,(.pointer (some b))),(21,(.slice f d i)),(22,(.int .i64 j)),(23,(.int .i64 g))] h K
theorem F133.sL5:F133.wL5 (n+1) c b f d i j g h K=(bcase (decide (g<j)) (ptrK f fun a1=>0≤g∧g<(Nat.cast d:Int)∧ldI .u32 (rd h (a1.add (Int.toNat g*1))) fun n2=>Cl 74 [.pointer (some c),.int .u32 n2] h fun v3 h4=>ldB (some v3) fun b5=>bcase (!b5) (K (.int .i64 101) h4) (F133.wL5 n c b f d i j (IntKind.wrap .i64 (g+(1:Int))) h4 K)) (F133.wk10 c b h K)):=by kernel_rfl
def F133.wk5:Prop:=(∃m,F133.wL5 m c b f d i j g h K)
theorem F133.spec(H:newK h (.cells #[.int .i64 l,.int .u32 o,.int .u32 q,.int .u32 r,.int .u8 s] 66) fun b1 h2=>ldI .i64 (rd h2 ((Addr.mk b1 0 none).add 0)) fun n3=>Cl 134 [.int .i64 n3] h2 fun v4 h5=>ldI .i64 (some v4) fun n6=>bcase (n6==(0:Int)) (K (.int .i64 200) h5) (ldI .u32 (rd h5 ((Addr.mk b1 0 none).add 1)) fun n7=>ldI .u32 (rd h5 ((Addr.mk b1 0 none).add 2)) fun n8=>ldI .u32 (rd h5 ((Addr.mk b1 0 none).add 3)) fun n9=>newK h5 (.cells #[.int .u32 n7,.int .u32 n8,.int .u32 n9] 46) fun b10 h11=>0≤n6∧n6≤(Nat.cast 3:Int)∧F133.wk5 c (Addr.mk b1 0 none) (if 3=0 then(some (Addr.mk b10 0 none))else Option.map (fun a=>Addr.add a (0*1)) (some (Addr.mk b10 0 none))) (Int.toNat n6-0) (3-0) (Nat.cast (Int.toNat n6-0):Int) (0:Int) h11 K)):Cl 133 [.pointer (some c),.agg #[.int .i64 l,.int .u32 o,.int .u32 q,.int .u32 r,.int .u8 s]] h K:=cT F133.T Tryz.func133 H
end
theorem F134.spec(a:Int)(h:Heap)(K:KK)(H:bcase (a==(1:Int)) (bcase (a==(1:Int)) (K (.int .i64 1) h) (bcase (a==(2:Int)) (bcase (a==(2:Int)) (K (.int .i64 2) h) (bcase (a==(5:Int)) (K (.int .i64 3) h) (K (.int .i64 0) h))) (bcase (a==(3:Int)) (bcase (a==(3:Int)) (K (.int .i64 2) h) (bcase (a==(5:Int)) (K (.int .i64 3) h) (K (.int .i64 0) h))) (bcase (a==(4:Int)) (bcase (a==(4:Int)) (K (.int .i64 2) h) (bcase (a==(5:Int)) (K (.int .i64 3) h) (K (.int .i64 0) h))) (bcase (a==(8:Int)) (bcase (a==(8:Int)) (K (.int .i64 2) h) (bcase (a==(5:Int)) (K (.int .i64 3) h) (K (.int .i64 0) h))) (bcase (a==(9:Int)) (bcase (a==(9:Int)) (K (.int .i64 2) h) (bcase (a==(5:Int)) (K (.int .i64 3) h) (K (.int .i64 0) h))) (bcase (a==(10:Int)) (K (.int .i64 2) h) (bcase (a==(5:Int)) (K (.int .i64 3) h) (K (.int .i64 0) h))))))))) (bcase (a==(6:Int)) (bcase (a==(6:Int)) (K (.int .i64 1) h) (bcase (a==(2:Int)) (bcase (a==(2:Int)) (K (.int .i64 2) h) (bcase (a==(5:Int)) (K (.int .i64 3) h) (K (.int .i64 0) h))) (bcase (a==(3:Int)) (bcase (a==(3:Int)) (K (.int .i64 2) h) (bcase (a==(5:Int)) (K (.int .i64 3) h) (K (.int .i64 0) h))) (bcase (a==(4:Int)) (bcase (a==(4:Int)) (K (.int .i64 2) h) (bcase (a==(5:Int)) (K (.int .i64 3) h) (K (.int .i64 0) h))) (bcase (a==(8:Int)) (bcase (a==(8:Int)) (K (.int .i64 2) h) (bcase (a==(5:Int)) (K (.int .i64 3) h) (K (.int .i64 0) h))) (bcase (a==(9:Int)) (bcase (a==(9:Int)) (K (.int .i64 2) h) (bcase (a==(5:Int)) (K (.int .i64 3) h) (K (.int .i64 0) h))) (bcase (a==(10:Int)) (K (.int .i64 2) h) (bcase (a==(5:Int)) (K (.int .i64 3) h) (K (.int .i64 0) h))))))))) (bcase (a==(7:Int)) (K (.int .i64 1) h) (bcase (a==(2:Int)) (bcase (a==(2:Int)) (K (.int .i64 2) h) (bcase (a==(5:Int)) (K (.int .i64 3) h) (K (.int .i64 0) h))) (bcase (a==(3:Int)) (bcase (a==(3:Int)) (K (.int .i64 2) h) (bcase (a==(5:Int)) (K (.int .i64 3) h) (K (.int .i64 0) h))) (bcase (a==(4:Int)) (bcase (a==(4:Int)) (K (.int .i64 2) h) (bcase (a==(5:Int)) (K (.int .i64 3) h) (K (.int .i64 0) h))) (bcase (a==(8:Int)) (bcase (a==(8:Int)) (K (.int .i64 2) h) (bcase (a==(5:Int)) (K (.int .i64 3) h) (K (.int .i64 0) h))) (bcase (a==(9:Int)) (bcase (a==(9:Int)) (K (.int .i64 2) h) (bcase (a==(5:Int)) (K (.int .i64 3) h) (K (.int .i64 0) h))) (bcase (a==(10:Int)) (K (.int .i64 2) h) (bcase (a==(5:Int)) (K (.int .i64 3) h) (K (.int .i64 0) h))))))))))):Cl 134 [.int .i64 a] h K:=cN Tryz.func134 H
theorem F135.spec(d:Addr)(f g a b c:Int)(h:Heap)(K:KK)(H:newK h (.cells #[.int .u32 a,.int .u32 b,.int .u32 c] 115) fun b1 h2=>ldI .u32 (rd h2 ((Addr.mk b1 0 none).add 0)) fun n3=>ldI .u32 (rd h2 ((Addr.mk b1 0 none).add 1)) fun n4=>ldI .u32 (rd h2 ((Addr.mk b1 0 none).add 2)) fun n5=>newK h2 (.cells #[.pointer (some d),.int .u8 f,.int .u8 g,.int .u32 n3,.int .u32 n4,.int .u32 n5,.int .i64 0,.int .u32 0,.nilFunc] 232) fun b6 h7=>stK h7 (((Addr.mk b6 0 none).add 8).add 0) (.func (.func 180) #[.pointer (some (Addr.mk b6 0 none))] #[]) fun h8=>ldS (rd h8 (d.add 1)) fun p9 l10 c11=>newK h8 (.cells #[.pointer (some (Addr.mk b6 0 none))] 229) fun b12 h13=>appK h13 229 1 8 #[.pointer none] p9 l10 c11 (some (Addr.mk b12 0 none)) 1 fun p14 l15 c16 h17=>stK h17 ((d.add 1).add 0) (.slice p14 l15 c16) fun h18=>K (.pointer (some (Addr.mk b6 0 none))) h18):Cl 135 [.pointer (some d),.int .u8 f,.int .u8 g,.agg #[.int .u32 a,.int .u32 b,.int .u32 c]] h K:=cN Tryz.func135 H
def F114.T:Hint:=⟨[(2,[0,3]),(4,[0])],[(3,[[(0,[]),(1,[]),(2,[]),(3,[]),(4,[]),(5,[]),(6,[]),(7,[]),(8,[]),(9,[]),(10,[]),(11,[]),(12,[]),(13,[]),(14,[]),(15,[])]])]⟩
section
variable (n:Nat)(a:Addr)(b:Int)(h:Heap)(K:KK)
def F114.wk4:Prop:=ldB (rd h (a.add 3)) fun b1=>K (.bool b1) h
def F114.wL2:Prop:=Lp Tryz.f114 F114.T [1,1,0,0] n [(0,(.pointer (some a))),(3,(.int .i64 b))] h K
theorem F114.sL2:F114.wL2 (n+1) a b h K=(ldB (rd h (a.add 3)) fun b1=>bcase (!b1) (ldP (rd h (a.add 0)) fun p2=>Cl 45 [.pointer p2] h fun v3 h4=>ldI .i64 (some v3) fun n5=>bcase (n5==b) (ldS (rd h4 (a.add 1)) fun p6 l7 _=>ldS (rd h4 (a.add 1)) fun _ l10 _=>ptrK p6 fun a12=>0≤(IntKind.wrap .i64 ((Nat.cast l10:Int)-(1:Int)))∧(IntKind.wrap .i64 ((Nat.cast l10:Int)-(1:Int)))<(Nat.cast l7:Int)∧ldP (rd h4 (a12.add (Int.toNat (IntKind.wrap .i64 ((Nat.cast l10:Int)-(1:Int)))*1))) fun p13=>ptrK p13 fun a14=>ldV (rd h4 (a14.add 8)) fun v15=>dynK Tryz.prog X v15 [] h4 fun v16 h17=>v16=(.tuple #[])∧F114.wL2 n a b h17 K) (F114.wk4 a h4 K)) (F114.wk4 a h K)):=by kernel_rfl
def F114.wk2:Prop:=(∃m,F114.wL2 m a b h K)
theorem F114.spec(H:ldP (rd h (a.add 0)) fun p1=>Cl 45 [.pointer p1] h fun v2 h3=>ldI .i64 (some v2) fun n4=>F114.wk2 a n4 h3 K):Cl 114 [.pointer (some a)] h K:=cT F114.T Tryz.func114 H
end
def F180.T:Hint:=⟨[(4,[0,2,3,4]),(6,[0,2,3,4]),(10,[0,2,67,68]),(14,[0,2])],[(5,[[(0,[]),(1,[]),(2,[]),(3,[]),(4,[]),(5,[]),(6,[]),(7,[]),(8,[]),(9,[]),(10,[]),(11,[]),(12,[]),(13,[]),(14,[]),(15,[]),(16,[]),(17,[]),(18,[]),(19,[]),(20,[]),(21,[]),(22,[]),(23,[]),(24,[]),(25,[])]]),(12,[[(0,[]),(1,[]),(2,[]),(3,[]),(4,[]),(5,[]),(6,[]),(7,[0,1,2,3,4]),(8,[]),(9,[]),(10,[]),(11,[])]]),(15,[[(0,[]),(1,[]),(2,[]),(3,[]),(4,[]),(5,[]),(6,[]),(7,[]),(8,[]),(9,[]),(10,[]),(11,[0,1,2,3,4,5,6,7]),(12,[])]])]⟩
section
variable (n:Nat)(a:Addr)(g:Option Addr)(j:Int)(i:Bool)(b c d f:Int)(h:Heap)(K:KK)
def F180.JL10(bk10:Addr→(Option Addr)→Int→Int→Int→Int→Heap→Prop)(k14:Addr→(Option Addr)→Heap→Prop)(a:Addr)(g:Option Addr)(b c d f:Int)(h:Heap)(_K:KK):Prop:=bcase (decide (f<(3:Int))) ((0≤f∧f<(Nat.cast 3:Int)∧ldI .u32 ([.int .u32 b,.int .u32 c,.int .u32 d]:List Value)[Int.toNat f]? (fun n1=>ldI .i64 (rd h (a.add 6)) fun n2=>Cl 71 [.pointer g,.int .u32 n1] h fun v3 h4=>ldI .i64 (some v3) fun n5=>((.pointer (some a))=((.pointer (some a)):Value)∧((.pointer (some a))=((.pointer (some a)):Value)∧((.pointer (some a))=((.pointer (some a)):Value)∧((.pointer (some (a.add 6)))=((.pointer (some (a.add 6))):Value)∧ldI .i64 (rd h4 (a.add 6)) fun n6=>((.int .i64 n6)=((.int .i64 n2):Value)∧stK h4 ((a.add 6).add 0) (.int .i64 (if n5<n2 then n5 else n2)) fun h7=>bk10 a g b c d (IntKind.wrap .i64 (f+(1:Int))) h7)))))))) (k14 a g h)
def F180.wk14:Prop:=stK h ((a.add 8).add 0) (.func (.func 225) #[.pointer (some a)] #[]) fun h1=>ldP (rd h1 (a.add 0)) fun p2=>ldI .u8 (rd h1 (a.add 1)) fun n3=>Cl 226 [.pointer (some a),.func (.func 72) #[.pointer g] #[]] h1 fun v4 h5=> ∃n6:Int,∃n7:Int,∃n8:Int,v4=(.agg #[.int .u32 n6,.int .u32 n7,.int .u32 n8])∧((.pointer (some a))=((.pointer (some a)):Value)∧((.pointer (some a))=((.pointer (some a)):Value)∧((.pointer (some (a.add 0)))=((.pointer (some (a.add 0))):Value)∧ldP (rd h5 (a.add 0)) fun p9=>((.pointer p9)=((.pointer p2):Value)∧((.pointer (some a))=((.pointer (some a)):Value)∧((.pointer (some a))=((.pointer (some a)):Value)∧((.pointer (some (a.add 1)))=((.pointer (some (a.add 1))):Value)∧ldI .u8 (rd h5 (a.add 1)) fun n10=>((.int .u8 n10)=((.int .u8 n3):Value)∧Cl 135 [.pointer p2,.int .u8 n3,.int .u8 0,.agg #[.int .u32 n6,.int .u32 n7,.int .u32 n8]] h5 fun v11 h12=>ldP (some v11) fun _=>K (.tuple #[]) h12))))))))
def F180.wL10:Prop:=Lp Tryz.f180 F180.T [1,1,1,1,1,1,0,1,0] n [(0,(.pointer (some a))),(2,(.pointer g)),(67,(.agg #[.int .u32 b,.int .u32 c,.int .u32 d])),(68,(.int .i64 f))] h K
theorem F180.sL10:F180.wL10 (n+1) a g b c d f h K=(F180.JL10 (fun a g b c d f h=>F180.wL10 n a g b c d f h K) (fun a g h=>F180.wk14 a g h K) a g b c d f h K):=by kernel_rfl
def F180.wk10:Prop:=(∃m,F180.wL10 m a g b c d f h K)
def F180.wk6:Prop:=bcase i (ldP (rd h (a.add 0)) fun p1=>Cl 181 [.pointer p1,.int .u32 j] h fun v2 h3=>v2=(.tuple #[])∧K (.tuple #[]) h3) (Cl 75 [.pointer g] h fun v4 h5=>ldI .i64 (some v4) fun n6=>stK h5 ((a.add 6).add 0) (.int .i64 n6) fun h7=>ldI .u32 (rd h7 ((a.add 3).add 0)) fun n8=>ldI .u32 (rd h7 ((a.add 3).add 1)) fun n9=>ldI .u32 (rd h7 ((a.add 3).add 2)) fun n10=>F180.wk10 a g n8 n9 n10 (0:Int) h7 K)
def F180.wk4:Prop:=bcase (!i) (ldI .u8 (rd h (a.add 1)) fun n1=>0≤(0:Int)∧(0:Int)<(Nat.cast 3:Int)∧ldI .u32 (rd h ((a.add 3).add (Int.toNat (0:Int)*1))) fun n2=>0≤(1:Int)∧(1:Int)<(Nat.cast 3:Int)∧ldI .u32 (rd h ((a.add 3).add (Int.toNat (1:Int)*1))) fun n3=>0≤(2:Int)∧(2:Int)<(Nat.cast 3:Int)∧ldI .u32 (rd h ((a.add 3).add (Int.toNat (2:Int)*1))) fun n4=>Cl 182 [.pointer g,.int .u8 n1,.int .u8 0,.int .u32 n2,.int .u32 n3,.int .u32 n4] h fun v5 h6=> ∃n7:Int,∃b8:Bool,v5=(.tuple #[.int .u32 n7,.bool b8])∧F180.wk6 a g n7 b8 h6 K) (F180.wk6 a g j i h K)
theorem F180.spec(H:ldP (rd h (a.add 0)) fun p1=>ptrK p1 fun a2=>ldP (rd h (a2.add 0)) fun p3=>Cl 223 [.pointer (some a)] h fun v4 h5=> ∃n6:Int,∃b7:Bool,v4=(.tuple #[.int .u32 n6,.bool b7])∧bcase (!b7) (Cl 224 [.pointer (some a)] h5 fun v8 h9=> ∃n10:Int,∃b11:Bool,v8=(.tuple #[.int .u32 n10,.bool b11])∧F180.wk4 a p3 n10 b11 h9 K) (F180.wk4 a p3 n6 b7 h5 K)):Cl 180 [.pointer (some a)] h K:=cT F180.T Tryz.func180 H
end
def F181.T:Hint:=⟨[],[(1,[[(0,[]),(1,[]),(2,[]),(3,[]),(4,[]),(5,[]),(6,[]),(7,[]),(8,[]),(9,[]),(10,[]),(11,[]),(12,[]),(13,[]),(14,[])]])]⟩
theorem F181.spec(b:Addr)(c:Int)(h:Heap)(K:KK)(H:stK h ((b.add 2).add 0) (.int .u32 c) fun h1=>ldS (rd h1 (b.add 1)) fun p2 _ c4=>ldS (rd h1 (b.add 1)) fun _ l6 _=>0≤(IntKind.wrap .i64 ((Nat.cast l6:Int)-(1:Int)))∧(IntKind.wrap .i64 ((Nat.cast l6:Int)-(1:Int)))≤(Nat.cast c4:Int)∧stK h1 ((b.add 1).add 0) (.slice (if c4=0 then p2 else Option.map (fun a=>Addr.add a (0*1)) p2) (Int.toNat (IntKind.wrap .i64 ((Nat.cast l6:Int)-(1:Int)))-0) (c4-0)) fun h8=>ldS (rd h8 (b.add 1)) fun _ l10 _=>stK h8 ((b.add 3).add 0) (.bool ((Nat.cast l10:Int)==(0:Int))) fun h12=>K (.tuple #[]) h12):Cl 181 [.pointer (some b),.int .u32 c] h K:=cT F181.T Tryz.func181 H
def F223.T:Hint:=⟨[(5,[0,4,5,6])],[(1,[[(0,[]),(1,[]),(2,[]),(3,[]),(4,[]),(5,[]),(6,[]),(7,[]),(8,[]),(9,[]),(10,[]),(11,[])]])]⟩
section
variable (a:Addr)(c b d:Int)(h:Heap)(K:KK)
def F223.wk5:Prop:=ldI .u8 (rd h (a.add 1)) fun n1=>bcase (n1==(5:Int)) (K (.tuple #[.int .u32 0,.bool false]) h) (bcase (c==d) (K (.tuple #[.int .u32 b,.bool true]) h) (bcase (c==b) (ldI .u8 (rd h (a.add 1)) fun n2=>bcase (n2 !=(4:Int)) (K (.tuple #[.int .u32 b,.bool true]) h) (bcase (b==d) (K (.tuple #[.int .u32 c,.bool true]) h) (K (.tuple #[.int .u32 0,.bool false]) h))) (bcase (b==d) (K (.tuple #[.int .u32 c,.bool true]) h) (K (.tuple #[.int .u32 0,.bool false]) h))))
theorem F223.spec(a:Addr)(h:Heap)(K:KK)(H:(0≤(0:Int)∧(0:Int)<(Nat.cast 3:Int)∧ldI .u32 (rd h ((a.add 3).add (Int.toNat (0:Int)*1))) fun n1=>0≤(1:Int)∧(1:Int)<(Nat.cast 3:Int)∧ldI .u32 (rd h ((a.add 3).add (Int.toNat (1:Int)*1))) fun n2=>ldI .u8 (rd h (a.add 1)) fun n3=>bcase (n3==(2:Int)) (F223.wk5 a n1 n2 (1:Int) h K) (F223.wk5 a n1 n2 (0:Int) h K))):Cl 223 [.pointer (some a)] h K:=cT F223.T Tryz.func223 H
end
def F224.T:Hint:=⟨[],[(1,[[(0,[]),(1,[]),(2,[]),(3,[]),(4,[]),(5,[]),(6,[]),(7,[]),(8,[]),(9,[]),(10,[]),(11,[]),(12,[]),(13,[]),(14,[]),(15,[]),(16,[]),(17,[])]])]⟩
theorem F224.spec(a:Addr)(h:Heap)(K:KK)(H:(0≤(0:Int)∧(0:Int)<(Nat.cast 3:Int)∧ldI .u32 (rd h ((a.add 3).add (Int.toNat (0:Int)*1))) fun n1=>0≤(1:Int)∧(1:Int)<(Nat.cast 3:Int)∧ldI .u32 (rd h ((a.add 3).add (Int.toNat (1:Int)*1))) fun n2=>0≤(2:Int)∧(2:Int)<(Nat.cast 3:Int)∧ldI .u32 (rd h ((a.add 3).add (Int.toNat (2:Int)*1))) fun n3=>ldI .u8 (rd h (a.add 1)) fun n4=>bcase (n4==(2:Int)) (bcase (decide (n1≤(1:Int))) (bcase (decide (n2≤(1:Int))) (K (.tuple #[.int .u32 (bitsI .and .u32 n1 n2),.bool true]) h) (bcase (n1==(0:Int)) (K (.tuple #[.int .u32 (bitsI .and .u32 n1 n2),.bool true]) h) (K (.tuple #[.int .u32 (bitsI .and .u32 n1 n2),.bool (n2==(0:Int))]) h))) (bcase (n1==(0:Int)) (K (.tuple #[.int .u32 (bitsI .and .u32 n1 n2),.bool true]) h) (K (.tuple #[.int .u32 (bitsI .and .u32 n1 n2),.bool (n2==(0:Int))]) h))) (bcase (n4==(3:Int)) (bcase (n1==(1:Int)) (K (.tuple #[.int .u32 1,.bool true]) h) (K (.tuple #[.int .u32 1,.bool (n2==(1:Int))]) h)) (bcase (n4==(4:Int)) (bcase (n1==n2) (K (.tuple #[.int .u32 (bitsI .xor .u32 n1 n2),.bool true]) h) (bcase (decide (n1≤(1:Int))) (K (.tuple #[.int .u32 (bitsI .xor .u32 n1 n2),.bool (decide (n2≤(1:Int)))]) h) (K (.tuple #[.int .u32 (bitsI .xor .u32 n1 n2),.bool false]) h))) (bcase (n1==(1:Int)) (K (.tuple #[.int .u32 n2,.bool true]) h) (bcase (n2==n3) (K (.tuple #[.int .u32 n2,.bool true]) h) (bcase (n1==(0:Int)) (K (.tuple #[.int .u32 n3,.bool true]) h) (K (.tuple #[.int .u32 0,.bool false]) h)))))))):Cl 224 [.pointer (some a)] h K:=cT F224.T Tryz.func224 H
def F226.T:Hint:=⟨[(3,[0,1,4,5,12,13])],[(5,[[(0,[]),(1,[]),(2,[]),(3,[]),(4,[]),(5,[]),(6,[]),(7,[]),(9,[]),(10,[]),(11,[]),(12,[]),(8,[9,10,11,12]),(13,[])]])]⟩
section
variable (n:Nat)(f:Addr)(j:Value)(g i:Addr)(a b c d:Int)(h:Heap)(K:KK)
def F226.JL3(bk3:Addr→Value→Addr→Addr→Int→Int→Int→Int→Heap→Prop)(f:Addr)(j:Value)(g i:Addr)(a b c d:Int)(h:Heap)(K:KK):Prop:=bcase (decide (d<(3:Int))) ((0≤d∧d<(Nat.cast 3:Int)∧ldI .u32 ([.int .u32 a,.int .u32 b,.int .u32 c]:List Value)[Int.toNat d]? (fun n1=>ldP (rd h (f.add 0)) fun p2=>ptrK p2 fun a3=>ldP (rd h (a3.add 0)) fun p4=>ldI .i64 (rd h (f.add 6)) fun n5=>Cl 71 [.pointer p4,.int .u32 n1] h fun v6 h7=>ldI .i64 (some v6) fun n8=>((.pointer (some f))=((.pointer (some f)):Value)∧((.pointer (some f))=((.pointer (some f)):Value)∧((.pointer (some (f.add 6)))=((.pointer (some (f.add 6))):Value)∧ldI .i64 (rd h7 (f.add 6)) fun n9=>((.int .i64 n9)=((.int .i64 n5):Value)∧bcase (n8==n5) (dynK Tryz.prog X j [.int .u32 n1] h7 fun v10 h11=>ldI .u32 (some v10) fun n12=>0≤d∧d<(Nat.cast 3:Int)∧stK h11 ((i.add (Int.toNat d*1)).add 0) (.int .u32 n12) fun h13=>bk3 f j g i a b c (IntKind.wrap .i64 (d+(1:Int))) h13) (bk3 f j g i a b c (IntKind.wrap .i64 (d+(1:Int))) h7)))))))) (ldI .u32 (rd h (i.add 0)) fun n14=>ldI .u32 (rd h (i.add 1)) fun n15=>ldI .u32 (rd h (i.add 2)) fun n16=>stK h (g.add 0) (.int .u32 n14) fun h17=>stK h17 (g.add 1) (.int .u32 n15) fun h18=>stK h18 (g.add 2) (.int .u32 n16) fun h19=>ldI .u32 (rd h19 (g.add 0)) fun n20=>ldI .u32 (rd h19 (g.add 1)) fun n21=>ldI .u32 (rd h19 (g.add 2)) fun n22=>K (.agg #[.int .u32 n20,.int .u32 n21,.int .u32 n22]) h19)
def F226.wL3:Prop:=Lp Tryz.f226 F226.T [1,1,0,1,0] n [(0,(.pointer (some f))),(1,j),(4,(.pointer (some g))),(5,(.pointer (some i))),(12,(.agg #[.int .u32 a,.int .u32 b,.int .u32 c])),(13,(.int .i64 d))] h K
theorem F226.sL3:F226.wL3 (n+1) f j g i a b c d h K=(F226.JL3 (fun f j g i a b c d h=>F226.wL3 n f j g i a b c d h K) f j g i a b c d h K):=by kernel_rfl
def F226.wk3:Prop:=(∃m,F226.wL3 m f j g i a b c d h K)
theorem F226.spec(H:newK h (.cells #[.int .u32 0,.int .u32 0,.int .u32 0] 115) fun b1 h2=>ldI .u32 (rd h2 ((f.add 3).add 0)) fun n3=>ldI .u32 (rd h2 ((f.add 3).add 1)) fun n4=>ldI .u32 (rd h2 ((f.add 3).add 2)) fun n5=>newK h2 (.cells #[.int .u32 0,.int .u32 0,.int .u32 0] 115) fun b6 h7=>stK h7 ((Addr.mk b6 0 none).add 0) (.int .u32 n3) fun h8=>stK h8 ((Addr.mk b6 0 none).add 1) (.int .u32 n4) fun h9=>stK h9 ((Addr.mk b6 0 none).add 2) (.int .u32 n5) fun h10=>ldI .u32 (rd h10 ((Addr.mk b6 0 none).add 0)) fun n11=>ldI .u32 (rd h10 ((Addr.mk b6 0 none).add 1)) fun n12=>ldI .u32 (rd h10 ((Addr.mk b6 0 none).add 2)) fun n13=>F226.wk3 f j (Addr.mk b1 0 none) (Addr.mk b6 0 none) n11 n12 n13 (0:Int) h10 K):Cl 226 [.pointer (some f),j] h K:=cT F226.T Tryz.func226 H
end
def F225.T:Hint:=⟨[],[(2,[[(0,[]),(1,[]),(2,[]),(3,[]),(4,[]),(5,[]),(6,[]),(7,[]),(8,[]),(9,[]),(10,[]),(11,[]),(12,[]),(13,[]),(14,[]),(15,[]),(16,[]),(17,[0,1,2,3,4,5,6,7]),(18,[])]])]⟩
theorem F225.spec(a:Addr)(h:Heap)(K:KK)(H:ldP (rd h (a.add 0)) fun p1=>ptrK p1 fun a2=>ldI .u32 (rd h (a2.add 2)) fun n3=>stK h ((a.add 7).add 0) (.int .u32 n3) fun h4=>stK h4 ((a.add 8).add 0) (.func (.func 273) #[.pointer (some a)] #[]) fun h5=>ldP (rd h5 (a.add 0)) fun p6=>ldI .u8 (rd h5 (a.add 1)) fun n7=>ldP (rd h5 (a.add 0)) fun p8=>ptrK p8 fun a9=>ldP (rd h5 (a9.add 0)) fun p10=>Cl 226 [.pointer (some a),.func (.func 73) #[.pointer p10] #[]] h5 fun v11 h12=> ∃n13:Int,∃n14:Int,∃n15:Int,v11=(.agg #[.int .u32 n13,.int .u32 n14,.int .u32 n15])∧((.pointer (some a))=((.pointer (some a)):Value)∧((.pointer (some a))=((.pointer (some a)):Value)∧((.pointer (some (a.add 0)))=((.pointer (some (a.add 0))):Value)∧ldP (rd h12 (a.add 0)) fun p16=>((.pointer p16)=((.pointer p6):Value)∧((.pointer (some a))=((.pointer (some a)):Value)∧((.pointer (some a))=((.pointer (some a)):Value)∧((.pointer (some (a.add 1)))=((.pointer (some (a.add 1))):Value)∧ldI .u8 (rd h12 (a.add 1)) fun n17=>((.int .u8 n17)=((.int .u8 n7):Value)∧Cl 135 [.pointer p6,.int .u8 n7,.int .u8 0,.agg #[.int .u32 n13,.int .u32 n14,.int .u32 n15]] h12 fun v18 h19=>ldP (some v18) fun _=>K (.tuple #[]) h19))))))))):Cl 225 [.pointer (some a)] h K:=cT F225.T Tryz.func225 H
def F273.T:Hint:=⟨[],[(0,[[(0,[]),(1,[]),(2,[]),(3,[]),(4,[]),(5,[]),(6,[]),(7,[]),(8,[]),(9,[]),(10,[]),(11,[]),(12,[]),(13,[]),(14,[]),(15,[]),(16,[]),(17,[]),(18,[]),(19,[]),(20,[]),(21,[])]]),(2,[[(0,[]),(1,[]),(2,[]),(3,[]),(4,[]),(5,[]),(6,[]),(7,[]),(8,[]),(9,[]),(10,[]),(11,[]),(12,[]),(13,[]),(14,[]),(15,[]),(16,[]),(17,[]),(18,[]),(19,[]),(20,[]),(21,[]),(22,[]),(23,[]),(24,[]),(25,[]),(26,[]),(27,[])]])]⟩
theorem F273.spec(a:Addr)(h:Heap)(K:KK)(H:ldI .i64 (rd h (a.add 6)) fun n1=>ldI .u32 (rd h (a.add 7)) fun n2=>ldP (rd h (a.add 0)) fun p3=>ptrK p3 fun a4=>ldI .u32 (rd h (a4.add 2)) fun n5=>Cl 276 [.pointer (some a),.int .i64 n1,.int .u32 n2,.int .u32 n5] h fun v6 h7=> ∃n8:Int,∃b9:Bool,v6=(.tuple #[.int .u32 n8,.bool b9])∧bcase b9 (ldP (rd h7 (a.add 0)) fun p10=>ptrK p10 fun a11=>ldP (rd h7 (a11.add 0)) fun p12=>ldI .u8 (rd h7 (a.add 1)) fun n13=>0≤(0:Int)∧(0:Int)<(Nat.cast 3:Int)∧ldI .u32 (rd h7 ((a.add 3).add (Int.toNat (0:Int)*1))) fun n14=>0≤(1:Int)∧(1:Int)<(Nat.cast 3:Int)∧ldI .u32 (rd h7 ((a.add 3).add (Int.toNat (1:Int)*1))) fun n15=>0≤(2:Int)∧(2:Int)<(Nat.cast 3:Int)∧ldI .u32 (rd h7 ((a.add 3).add (Int.toNat (2:Int)*1))) fun n16=>Cl 207 [.pointer p12,.int .u8 n13,.int .u8 0,.int .u32 n14,.int .u32 n15,.int .u32 n16,.int .u32 n8] h7 fun v17 h18=>v17=(.tuple #[])∧ldP (rd h18 (a.add 0)) fun p19=>Cl 181 [.pointer p19,.int .u32 n8] h18 fun v20 h21=>v20=(.tuple #[])∧K (.tuple #[]) h21) (K (.tuple #[]) h7)):Cl 273 [.pointer (some a)] h K:=cT F273.T Tryz.func273 H
def F276.T:Hint:=⟨[(4,[10,11])],[(3,[[(0,[]),(1,[]),(2,[]),(3,[]),(4,[]),(5,[]),(6,[]),(7,[]),(8,[]),(9,[]),(10,[]),(11,[]),(12,[]),(13,[]),(14,[]),(15,[]),(16,[]),(17,[]),(18,[]),(19,[]),(20,[]),(21,[])]])]⟩
section
variable (b c:Int)(h:Heap)(K:KK)
def F276.wk4:Prop:=K (.tuple #[.int .u32 b,.bool (c==(0:Int))]) h
theorem F276.spec(a:Addr)(d f g:Int)(h:Heap)(K:KK)(H:ldP (rd h (a.add 0)) fun p1=>ptrK p1 fun a2=>ldP (rd h (a2.add 0)) fun p3=>Cl 161 [.pointer p3,.int .i64 d,.int .u32 f,.int .u32 g] h fun v4 h5=> ∃n6:Int,∃n7:Int,v4=(.tuple #[.int .u32 n6,.int .i64 n7])∧bcase (n7 !=(0:Int)) (ldP (rd h5 (a.add 0)) fun p8=>ldP (rd h5 (a.add 0)) fun p9=>ldP (rd h5 (a.add 0)) fun p10=>ptrK p8 fun a11=>stK h5 ((a11.add 4).add 0) (.int .i64 n7) fun h12=>ptrK p9 fun a13=>stK h12 ((a13.add 3).add 0) (.bool true) fun h14=>ptrK p10 fun a15=>stK h14 ((a15.add 1).add 0) (.slice none 0 0) fun h16=>F276.wk4 n6 n7 h16 K) (F276.wk4 n6 n7 h5 K)):Cl 276 [.pointer (some a),.int .i64 d,.int .u32 f,.int .u32 g] h K:=cT F276.T Tryz.func276 H
end
def F94.T:Hint:=⟨[],[(4,[[(0,[]),(1,[]),(2,[]),(3,[]),(4,[]),(5,[])]])]⟩
theorem F94.spec(a:Addr)(h:Heap)(K:KK)(H:ldB (rd h (a.add 3)) fun b1=>bcase (!b1) (K (.tuple #[.int .u32 0,.int .i64 61]) h) (ldI .i64 (rd h (a.add 4)) fun n2=>bcase (n2 !=(0:Int)) (ldI .i64 (rd h (a.add 4)) fun n3=>K (.tuple #[.int .u32 0,.int .i64 n3]) h) (ldI .u32 (rd h (a.add 2)) fun n4=>K (.tuple #[.int .u32 n4,.int .i64 0]) h))):Cl 94 [.pointer (some a)] h K:=cT F94.T Tryz.func94 H
def F64.T:Hint:=⟨[(5,[6,8]),(6,[6])],[]⟩
section
variable (n:Nat)(j:Addr)(a b c d f:Int)(g:Option Addr)(i:Value)(h:Heap)(K:KK)
def F64.wk6:Prop:=Cl 94 [.pointer g] h fun v1 h2=> ∃n3:Int,∃n4:Int,v1=(.tuple #[.int .u32 n3,.int .i64 n4])∧K (.tuple #[.int .u32 n3,.int .i64 n4]) h2
def F64.wL5:Prop:=Lp Tryz.f64 F64.T [1,1,1,0,1,0] n [(6,(.pointer g)),(8,i)] h K
theorem F64.sL5:F64.wL5 (n+1) g i h K=(dynK Tryz.prog X i [] h fun v1 h2=>ldB (some v1) fun b3=>bcase (!b3) (F64.wL5 n g i h2 K) (F64.wk6 g h2 K)):=by kernel_rfl
def F64.wk5:Prop:=(∃m,F64.wL5 m g i h K)
theorem F64.spec(H:newK h (.cells #[.int .i64 a,.int .u32 b,.int .u32 c,.int .u32 d,.int .u8 f] 66) fun b1 h2=>ldI .i64 (rd h2 ((Addr.mk b1 0 none).add 0)) fun n3=>ldI .u32 (rd h2 ((Addr.mk b1 0 none).add 1)) fun n4=>ldI .u32 (rd h2 ((Addr.mk b1 0 none).add 2)) fun n5=>ldI .u32 (rd h2 ((Addr.mk b1 0 none).add 3)) fun n6=>ldI .u8 (rd h2 ((Addr.mk b1 0 none).add 4)) fun n7=>Cl 91 [.pointer (some j),.agg #[.int .i64 n3,.int .u32 n4,.int .u32 n5,.int .u32 n6,.int .u8 n7]] h2 fun v8 h9=> ∃p10:Option Addr,∃n11:Int,v8=(.tuple #[.pointer p10,.int .i64 n11])∧bcase (n11 !=(0:Int)) (K (.tuple #[.int .u32 0,.int .i64 n11]) h9) (F64.wk5 p10 (.func (.func 114) #[.pointer p10] #[]) h9 K)):Cl 64 [.pointer (some j),.agg #[.int .i64 a,.int .u32 b,.int .u32 c,.int .u32 d,.int .u8 f]] h K:=cT F64.T Tryz.func64 H
end
end
section
structure Fk where
 b:Nat
 op:Nat
 mask:Nat
 a0:Nat
 a1:Nat
 a2:Nat
 level:Nat
 low:Nat
 fn:Nat
structure MA where
 m:Nat
 fp:Option Addr
 fc:Nat
 fs:List Fk
 told:Nat
 done:Bool
 e:Nat
def goV(fn b:Nat):Value:= .func (.func fn) #[.pointer (some ⟨b,0,none⟩)] #[]
def ptrV(b:Nat):Value:= .pointer (some ⟨b,0,none⟩)
def cellK(m:Nat)(f:Fk):List Value:=[ptrV m,.int .u8 (f.op:Int),.int .u8 (f.mask:Int),.int .u32 (f.a0:Int),.int .u32 (f.a1:Int),.int .u32 (f.a2:Int),.int .i64 (f.level:Int),.int .u32 (f.low:Int),goV f.fn f.b]
def cellM(s:Nat)(A:MA):List Value:=[ptrV s,.slice A.fp A.fs.length A.fc,.int .u32 (A.told:Int),.bool A.done,.int .i64 (A.e:Int)]
def MA.bl(A:MA):List Nat:=A.m::(OwnB A.fp++A.fs.map (·.b))
structure MaIs(h:Heap)(s:Nat)(A:MA):Prop where
 own:At h A.m (cellM s A)
 win:Win h 0 A.fp A.fs.length A.fc (A.fs.map fun f=>ptrV f.b)
 frm: ∀f∈A.fs,At h f.b (cellK A.m f)
 sep:A.bl.Nodup
theorem MaIs.only{h h':Heap}{s:Nat}{A:MA}{S:List Nat}(H:MaIs h s A)(O:Only S h h')(hS: ∀b∈S,b∉A.bl):MaIs h' s A:=by
 refine⟨H.own.only O fun hm=>hS _ hm (by simp[MA.bl]),H.win.only O fun b hb hm=>hS _ hm (by simp[MA.bl,hb]),fun f hf=>(H.frm f hf).only O fun hm=>hS _ hm ?_,H.sep⟩
 simp only[MA.bl,List.mem_cons,List.mem_append,List.mem_map]
 exact .inr (.inr ⟨f,hf,rfl⟩)
theorem MaIs.only0{h h':Heap}{s:Nat}{A:MA}(H:MaIs h s A)(O:Only [] h h'):MaIs h' s A:=H.only O (by simp)
theorem MaIs.lt{h:Heap}{s:Nat}{A:MA}(H:MaIs h s A): ∀b∈A.bl,b<h.size:=fun b hb=>by
 simp only[MA.bl,List.mem_cons,List.mem_append,List.mem_map]at hb
 rcases hb with e|hb|⟨f,hf,e⟩
 ·subst e;exact H.own.lt
 ·exact(H.win.lt b hb).2
 ·subst e;exact(H.frm f hf).lt
theorem bxor32{a b:Nat}(ha:a<2^32)(hb:b<2^32):bitsI .xor .u32 (a:Int) (b:Int)=((a^^^b:Nat):Int):=by
 unfold bitsI
 show IntKind.wrap .u32 ((BitVec.ofInt 32 (a:Int)^^^BitVec.ofInt 32 (b:Int)).toNat:Int)=_
 rw[BitVec.toNat_xor,ofInt32 ha,ofInt32 hb]
 exact wrap32 (Nat.xor_lt_two_pow ha hb)
section
variable {h:Heap}{s m:Nat}{f:Fk}{K:Value→Heap→Prop}
theorem cellK_rd(A:At h f.b (cellK m f))(k:Nat):rd h ⟨f.b,k,none⟩=(cellK m f)[k]? :=At.rd A k
theorem MaIs.top{fl:List Fk}{f':Fk}{A:MA}{j:Nat}{v:Value}{K:Heap→Prop}(H:MaIs h s {A with fs:=fl++[f]})(hj:j<9)(hv:v.oneCell'=true)(hb:f'.b=f.b)(hc:(cellK A.m f).set j v=cellK A.m f')
  (hK: ∀h',MaIs h' s {A with fs:=fl++[f']}→Only [f.b] h h'→K h'):stK h ⟨f.b,j,none⟩ v K:=by
 have hf:f∈fl++[f]:=by simp
 refine stK_at (H.frm f hf) (by simpa[cellK]using hj) hv fun h' A' O' z=>hK h' ?_ O'
 rw[hc]at A'
 have sp:=H.sep
 simp only[MA.bl,List.map_append,List.map_cons,List.map_nil,List.nodup_cons,List.mem_append,List.nodup_append,List.mem_singleton,not_or,ne_eq,forall_eq]at sp
 obtain⟨⟨s1,s2,s3⟩,s4,⟨s5,s6,s7⟩,s8⟩:=sp
 have e1:A.m∉[f.b]:=by simp;omega
 have ew:(fl++[f']).map (fun f=>ptrV f.b)=(fl++[f]).map (fun f=>ptrV f.b):=by simp[hb]
 refine⟨?_,?_,fun g hg=> ?_,?_⟩
 ·have:=H.own.only O' e1
  simpa[cellM]using this
 ·have:=H.win.only O' (fun b hb hm=>by
   simp only[List.mem_singleton]at hm
   subst hm
   exact s8 _ hb _ (.inr rfl) rfl)
  show Win h' 0 A.fp (fl++[f']).length A.fc ((fl++[f']).map fun f=>ptrV f.b)
  rw[ew]
  simpa using this
 ·rcases List.mem_append.1 hg with hg|hg
  ·refine(H.frm g (by simp[hg])).only O' fun hm=> ?_
   simp only[List.mem_singleton]at hm
   exact s7 _ (List.mem_map.2 ⟨g,hg,rfl⟩) hm
  ·simp only[List.mem_singleton]at hg
   subst hg
   rw[hb]
   exact A'
 ·have:=H.sep
  simp only[MA.bl]at this ⊢
  rw[show(fl++[f']).map (·.b)=(fl++[f]).map (·.b) by simp[hb]]
  exact this
end
theorem calls135{h:Heap}{s op mask a0 a1 a2:Nat}{A:MA}{K:Value→Heap→Prop}(H:MaIs h s A)(hl:A.fs.length<1000000)
  (hK: ∀h' f fp fc,(∃b,f=⟨b,op,mask,a0,a1,a2,0,0,180⟩∧h.size≤b)→MaIs h' s {A with fp:=fp,fc:=fc,fs:=A.fs++[f]}→Only (A.m::OwnB A.fp) h h'→(∀b∈OwnB fp,b∈OwnB A.fp∨h.size≤b)→K (ptrV f.b) h'):
  Cl 135 [ptrV A.m,.int .u8 (op:Int),.int .u8 (mask:Int),.agg #[.int .u32 (a0:Int),.int .u32 (a1:Int),.int .u32 (a2:Int)]] h K:=by
 refine F135.spec _ _ _ _ _ _ h K ?_
 refine newK_at fun h1 A1 O1 z1=> ?_
 simp only[add_mk,Nat.zero_add,Nat.add_zero]
 have r: ∀k,rd h1 ⟨h.size,k,none⟩=([.int .u32 (a0:Int),.int .u32 (a1:Int),.int .u32 (a2:Int)]:List Value)[k]? :=fun k=>At.rd A1 k
 refine ldI_of (by rw[r];rfl) (ldI_of (by rw[r];rfl) (ldI_of (by rw[r];rfl) ?_))
 refine newK_at fun h2 A2 O2 z2=> ?_
 refine stK_at A2 (by simp) rfl fun h3 A3 O3 z3=> ?_
 have hlt:=H.lt
 have mlt: ∀b∈A.bl,b<h1.size:=fun b hb=>by have:=hlt b hb;omega
 have O13:Only [] h h3:=((O1.trans O2 (by simp)).trans O3 (by intro x hx hl;simp at hx;omega))
 have H3:=H.only0 O13
 refine ldS_of (by rw[At.rd H3.own];rfl) ?_
 refine newK_at fun h4 A4 O4 z4=> ?_
 have H4:=H3.only0 O4
 have F4:At h4 h1.size (cellK A.m ⟨h1.size,op,mask,a0,a1,a2,0,0,180⟩):=A3.only O4 (by simp)
 refine win_app H4.win A4 (by omega) rfl (by omega) fun p' c' h5 W5 O5 g5=> ?_
 have nm:A.m∉OwnB A.fp:=fun hm=>by
  have:=H.sep
  simp only[MA.bl,List.nodup_cons,List.mem_append,not_or]at this
  exact this.1.1 hm
 have M5:=H4.own.only O5 nm
 refine stK_at M5 (by simp[cellM]) rfl fun h6 M6 O6 z6=> ?_
 have O46:Only (A.m::OwnB A.fp) h4 h6:=(O5.mono fun b hb _=>List.mem_cons_of_mem _ hb).trans O6 fun b hb hl=>by simp only[List.mem_singleton]at hb;exact List.mem_cons.2 (.inl hb)
 have hO:Only (A.m::OwnB A.fp) h h6:=((O13.trans O4 (by simp)).mono (by simp)).trans O46 fun b hb _=>hb
 have z4':h1.size<h4.size:=F4.lt
 have sp:=H.sep
 simp only[MA.bl,List.nodup_cons,List.mem_append,List.mem_map,List.nodup_append,not_or]at sp
 have ownlt: ∀b∈OwnB A.fp,b<h1.size:=fun b hb=>mlt b (by simp[MA.bl,hb])
 have frlt: ∀f∈A.fs,f.b<h1.size:=fun f hf=>mlt f.b (by simp only[MA.bl,List.mem_cons,List.mem_append,List.mem_map];exact .inr (.inr ⟨f,hf,rfl⟩))
 have hm1:=mlt A.m (by simp[MA.bl])
 have nP:h1.size∉A.m::OwnB A.fp:=fun hm=>by
  rcases List.mem_cons.1 hm with e|hm
  ·omega
  ·have:=ownlt _ hm;omega
 have g5': ∀b∈OwnB p',b∈OwnB A.fp∨h4.size≤b:=g5
 refine hK h6 ⟨h1.size,op,mask,a0,a1,a2,0,0,180⟩ p' c' ⟨h1.size,rfl,by omega⟩ ⟨?_,?_,fun g hg=> ?_,?_⟩ hO fun b hb=>(g5 b hb).imp id fun h=>by omega
 ·have:(cellM s A).set 1 (.slice p' (A.fs.length+1) c')=cellM s {A with fp:=p',fc:=c',fs:=A.fs++[⟨h1.size,op,mask,a0,a1,a2,0,0,180⟩]}:=by simp[cellM]
  rw[←this]
  exact M6
 ·have:=W5.only O6 (fun b hb hm=>by
   simp only[List.mem_singleton]at hm
   subst hm
   rcases g5' _ hb with h|h
   ·exact nm h
   ·omega)
  simpa[ptrV]using this
 ·rcases List.mem_append.1 hg with hg|hg
  ·refine((H4.frm g hg)).only O46 fun hm=> ?_
   rcases List.mem_cons.1 hm with e|hm
   ·exact sp.1.2 ⟨g,hg,e⟩
   ·exact sp.2.2.2 _ hm _ ⟨g,hg,rfl⟩ rfl
  ·simp only[List.mem_singleton]at hg
   subst hg
   exact F4.only O46 nP
 ·show(A.m::(OwnB p'++(A.fs++[(⟨h1.size,op,mask,a0,a1,a2,0,0,180⟩:Fk)]).map (·.b))).Nodup
  have np:(OwnB p').Nodup:=by cases p'<;>simp[OwnB]
  simp only[List.map_append,List.map_cons,List.map_nil,List.nodup_cons,List.mem_append,List.mem_map,List.mem_singleton,List.nodup_append,not_or,ne_eq]
  refine⟨⟨fun hm=> ?_,sp.1.2,by omega⟩,np,⟨sp.2.2.1,by simp,?_⟩,?_⟩
  ·rcases g5' _ hm with h|h
   ·exact nm h
   ·omega
  ·rintro b ⟨g,hg,rfl⟩ c rfl
   have:=frlt g hg
   omega
  ·rintro b hb c (⟨g,hg,rfl⟩|rfl) e
   ·rcases g5' _ hb with h|h
    ·exact sp.2.2.2 _ h _ ⟨g,hg,rfl⟩ e
    ·have:=frlt g hg
     omega
   ·rcases g5' _ hb with h|h
    ·have:=ownlt _ h
     omega
    ·omega
theorem tells181{h:Heap}{s r:Nat}{A:MA}{fl:List Fk}{f:Fk}{K:Value→Heap→Prop}(H:MaIs h s {A with fs:=fl++[f]})(hl:fl.length<1000000)
  (hK: ∀h' fp,MaIs h' s {A with fp:=fp,fs:=fl,told:=r,done:=fl.isEmpty}→OwnB fp=OwnB A.fp→Only [A.m] h h'→K (.tuple #[]) h'):
  Cl 181 [ptrV A.m,.int .u32 (r:Int)] h K:=by
 refine F181.spec _ _ h K ?_
 simp only[add_mk,Nat.zero_add,Nat.add_zero]
 have M0:=H.own
 refine stK_at M0 (by simp[cellM]) rfl fun h1 M1 O1 z1=> ?_
 have len:(fl++[f]).length=fl.length+1:=by simp
 have rs:rd h1 ⟨A.m,1,none⟩=some (.slice A.fp (fl.length+1) A.fc):=by rw[At.rd M1];simp[cellM]
 refine ldS_of rs (ldS_of rs ?_)
 have e1:IntKind.wrap .i64 (((fl.length+1:Nat):Int)-1)=(fl.length:Int):=by rw[wrap_i64 (by omega) (by omega)];omega
 have W:=H.win
 have W1:Win h 0 A.fp (fl.length+1) A.fc (fl.map (fun f=>ptrV f.b)++[ptrV f.b]):=by simpa using W
 have cap:=W1.cap
 rw[e1]
 refine⟨by omega,by omega,?_⟩
 refine stK_at M1 (by simp[cellM]) rfl fun h2 M2 O2 z2=> ?_
 refine ldS_of (p:=if A.fc=0 then A.fp else Option.map (fun a=>Addr.add a (0*1)) A.fp) (l:=fl.length) (c:=A.fc) (by rw[At.rd M2];simp[cellM]) ?_
 refine stK_at M2 (by simp[cellM]) rfl fun h3 M3 O3 z3=> ?_
 have O:Only [A.m] h h3:=(O1.trans O2 fun b hb _=>hb).trans O3 fun b hb _=>hb
 have ep:(if A.fc=0 then A.fp else Option.map (fun a=>Addr.add a (0*1)) A.fp)=A.fp:=by
  split
  ·rfl
  ·cases A.fp with
   |none=>rfl
   |some a=>simp[Addr.add]
 have Wp:=W1.pop
 have sp:=H.sep
 simp only[MA.bl,List.map_append,List.map_cons,List.map_nil,List.nodup_cons,List.mem_append,List.nodup_append,List.mem_singleton,not_or]at sp
 refine hK h3 A.fp ⟨?_,?_,fun g hg=> ?_,?_⟩ rfl O
 ·have e:((((cellM s {A with fs:=fl++[f]}).set 2 (.int .u32 (r:Int))).set 1 (.slice (if A.fc=0 then A.fp else Option.map (fun a=>Addr.add a (0*1)) A.fp) (Int.toNat (fl.length:Int)-0) (A.fc-0))).set 3 (.bool ((fl.length:Int)==(0:Int))))=cellM s {A with fs:=fl,told:=r,done:=fl.isEmpty}:=by
   rw[ep]
   have:((fl.length:Int)==(0:Int))=fl.isEmpty:=by cases fl<;>simp;omega
   simp[cellM,this]
  rw[←e]
  exact M3
 ·rw[ep]at Wp
  exact Wp.only O fun b hb hm=>by
   simp only[List.mem_singleton]at hm
   subst hm
   exact sp.1.1 hb
 ·refine(H.frm g (by simp[hg])).only O fun hm=> ?_
  simp only[List.mem_singleton]at hm
  exact sp.1.2.1 (List.mem_map.2 ⟨g,hg,hm⟩)
 ·show(A.m::(OwnB A.fp++fl.map (·.b))).Nodup
  simp only[List.nodup_cons,List.mem_append,List.nodup_append,not_or]
  exact⟨⟨sp.1.1,sp.1.2.1⟩,sp.2.1,sp.2.2.1.1,fun a ha b hb=>sp.2.2.2 a ha b (.inl hb)⟩
end
section
theorem go72:xget X 72=some Ext.go:=by kernel_rfl
theorem go73:xget X 73=some Ext.go:=by kernel_rfl
def ch(n:Nat)(N:List (Option Nd))(l:Nat)(side:Bool)(a:Nat):Nat:=if lvl n N a=l then(if side then high N a else low N a)else a
section
variable {n:Nat}{f:Nat→Nat}{N N':List (Option Nd)}{a l:Nat}{side:Bool}
theorem ch_is(H:NOk n N)(ha:isN N a)(hl:l≤lvl n N a)(hn:l<n):isN N (ch n N l side a)∧l+1≤lvl n N (ch n N l side a):=by
 unfold ch
 by_cases e:lvl n N a=l
 ·rw[if_pos e]
  have h2:2≤a:=by
   apply Classical.byContradiction
   intro h
   have:=lvl_end (n:=n) (N:=N) (a:=a) (by omega)
   omega
  obtain⟨h3,h4,h5,-,h6,h7⟩:=H.at ha h2
  cases side with
  |true=>exact⟨h5,by rw[if_pos rfl];omega⟩
  |false=>exact⟨h4,by rw[if_neg (by simp)];omega⟩
 ·rw[if_neg e]
  exact⟨ha,by omega⟩
theorem ch_sm(H:NOk n N)(ha:isN N a)(hn:l<n)(x:Nat):sm n f N a x=if x.testBit (f l)then sm n f N (ch n N l true a) x else sm n f N (ch n N l false a) x:=by
 unfold ch
 by_cases e:lvl n N a=l
 ·have h2:2≤a:=by
   apply Classical.byContradiction
   intro h
   have:=lvl_end (n:=n) (N:=N) (a:=a) (by omega)
   omega
  rw[if_pos e,if_pos e,sm_node H ha h2,e]
  rfl
 ·rw[if_neg e,if_neg e]
  simp
theorem Ex.ch(E:Ex N N')(ha:Ev.isN N a):ch n N' l side a=ch n N l side a:=by
 unfold Ev.ch
 rw[E.lvl ha,E.low ha,E.high ha]
end
section
variable {h:Heap}{s:Nat}{L:List Nat}{X:SX}
end
theorem ifmin{p q:Nat}:(if(p:Int)<(q:Int)then(p:Int)else(q:Int))=((min p q:Nat):Int):=by
 by_cases h:(p:Int)<(q:Int)
 ·rw[if_pos h,show min p q=p by omega]
 ·rw[if_neg h,show min p q=q by omega]
end
section
def isJoin(op:Nat):Prop:=op=2∨op=3∨op=4∨op=5
def mlv(n:Nat)(N:List (Option Nd))(f:Fk):Nat:=min (lvl n N f.a2) (min (lvl n N f.a1) (min (lvl n N f.a0) n))
def Wants(n:Nat)(fo:Nat→Nat)(N:List (Option Nd))(g:Fk)(r:Nat):Prop:=
 (g.fn=225∧OpR n fo N g.op (ch n N g.level false g.a0) (ch n N g.level false g.a1) (ch n N g.level false g.a2) r)∨
 (g.fn=273∧OpR n fo N g.op (ch n N g.level true g.a0) (ch n N g.level true g.a1) (ch n N g.level true g.a2) r)
def Link(n:Nat)(N:List (Option Nd))(g f:Fk):Prop:=f.op=g.op∧
 ((g.fn=225∧f.a0=ch n N g.level false g.a0∧f.a1=ch n N g.level false g.a1∧f.a2=ch n N g.level false g.a2)∨
  (g.fn=273∧f.a0=ch n N g.level true g.a0∧f.a1=ch n N g.level true g.a1∧f.a2=ch n N g.level true g.a2))
structure FrOk(n:Nat)(fo:Nat→Nat)(N:List (Option Nd))(f:Fk):Prop where
 op:isJoin f.op
 a:isN N f.a0∧isN N f.a1∧isN N f.a2
 fn:f.fn=180∨((f.fn=225∨f.fn=273)∧f.level=mlv n N f∧f.level<n)
 low:f.fn=273→OpR n fo N f.op (ch n N f.level false f.a0) (ch n N f.level false f.a1) (ch n N f.level false f.a2) f.low
theorem FrOk.lev{n:Nat}{fo:Nat→Nat}{N:List (Option Nd)}{f:Fk}(F:FrOk n fo N f)(h:f.fn=225∨f.fn=273):f.level<n∧f.level≤lvl n N f.a0∧f.level≤lvl n N f.a1∧f.level≤lvl n N f.a2:=by
 rcases F.fn with e|⟨-,e,hn⟩
 ·omega
 ·unfold mlv at e
  omega
structure Goal where
 op:Nat
 a0:Nat
 a1:Nat
 a2:Nat
structure Runs(n:Nat)(fo:Nat→Nat)(N:List (Option Nd))(G:Goal)(fs:List Fk)(told:Nat):Prop where
 frs: ∀f∈fs,FrOk n fo N f
 lnk: ∀(i:Nat) (g f:Fk),fs[i]? =some g→fs[i+1]? =some f→Link n N g f
 bot: ∃f,fs[0]? =some f∧f.op=G.op∧f.a0=G.a0∧f.a1=G.a1∧f.a2=G.a2
 top: ∀fl fr,fs=fl++[fr]→fr.fn=180∨Wants n fo N fr told
 tld:isN N told
def fmu(n:Nat)(N:List (Option Nd))(f:Fk):Nat:=if f.fn=180 then 4*2^(n-mlv n N f)-3 else if f.fn=225 then 4*2^(n-(f.level+1))-1 else 1
def mus(n:Nat)(N:List (Option Nd))(fs:List Fk):Nat:=(fs.map (fmu n N)).sum
def fnb(n:Nat)(N:List (Option Nd))(f:Fk):Nat:=if f.fn=180 then 2^(n-mlv n N f)-1 else if f.fn=225 then 2^(n-(f.level+1))else 1
def nbs(n:Nat)(N:List (Option Nd))(fs:List Fk):Nat:=(fs.map (fnb n N)).sum
section
variable {n:Nat}{fo:Nat→Nat}{N N':List (Option Nd)}{G:Goal}{fs fl:List Fk}{f g fr:Fk}{told r:Nat}
theorem ch_isN(H:NOk n N){l a:Nat}{side:Bool}(ha:isN N a)(hl:l≤lvl n N a)(hn:l<n):isN N (ch n N l side a):=(ch_is H ha hl hn).1
theorem Wants.ext(H:NOk n N)(E:Ex N N')(F:FrOk n fo N g)(W:Wants n fo N g r):Wants n fo N' g r:=by
 obtain⟨a0,a1,a2⟩:=F.a
 have lv:=F.lev
 rcases W with⟨e,R⟩|⟨e,R⟩
 ·obtain⟨l1,l2,l3,l4⟩:=lv (.inl e)
  refine .inl ⟨e,?_⟩
  rw[E.ch a0,E.ch a1,E.ch a2]
  exact R.ext H E (ch_isN H a0 l2 l1) (ch_isN H a1 l3 l1) (ch_isN H a2 l4 l1)
 ·obtain⟨l1,l2,l3,l4⟩:=lv (.inr e)
  refine .inr ⟨e,?_⟩
  rw[E.ch a0,E.ch a1,E.ch a2]
  exact R.ext H E (ch_isN H a0 l2 l1) (ch_isN H a1 l3 l1) (ch_isN H a2 l4 l1)
theorem Link.ext(E:Ex N N')(F:FrOk n fo N g)(W:Link n N g f):Link n N' g f:=by
 obtain⟨a0,a1,a2⟩:=F.a
 unfold Link at W ⊢
 rw[E.ch a0,E.ch a1,E.ch a2,E.ch a0,E.ch a1,E.ch a2]
 exact W
theorem FrOk.ext(H:NOk n N)(E:Ex N N')(F:FrOk n fo N f):FrOk n fo N' f:=by
 obtain⟨a0,a1,a2⟩:=F.a
 refine⟨F.op,⟨E.isN a0,E.isN a1,E.isN a2⟩,?_,fun e=> ?_⟩
 ·unfold mlv
  rw[E.lvl a0,E.lvl a1,E.lvl a2]
  exact F.fn
 ·have lv:=F.lev (.inr e)
  obtain⟨l1,l2,l3,l4⟩:=lv
  rw[E.ch a0,E.ch a1,E.ch a2]
  exact(F.low e).ext H E (ch_isN H a0 l2 l1) (ch_isN H a1 l3 l1) (ch_isN H a2 l4 l1)
theorem Runs.ext(H:NOk n N)(E:Ex N N')(R:Runs n fo N G fs told):Runs n fo N' G fs told:=
 ⟨fun f hf=>(R.frs f hf).ext H E,fun i g f h1 h2=>(R.lnk i g f h1 h2).ext E (R.frs g (List.mem_of_getElem? h1)),R.bot,fun fl fr e=>(R.top fl fr e).imp id fun W=>W.ext H E (R.frs fr (by rw[e];simp)),E.isN R.tld⟩
theorem mlv_ext(E:Ex N N')(F:FrOk n fo N f):mlv n N' f=mlv n N f:=by
 obtain⟨a0,a1,a2⟩:=F.a
 unfold mlv
 rw[E.lvl a0,E.lvl a1,E.lvl a2]
theorem mus_ext(E:Ex N N')(H: ∀f∈fs,FrOk n fo N f):mus n N' fs=mus n N fs:=by
 unfold mus
 congr 1
 refine List.map_congr_left fun f hf=> ?_
 unfold fmu
 rw[mlv_ext E (H f hf)]
theorem nbs_ext(E:Ex N N')(H: ∀f∈fs,FrOk n fo N f):nbs n N' fs=nbs n N fs:=by
 unfold nbs
 congr 1
 refine List.map_congr_left fun f hf=> ?_
 unfold fnb
 rw[mlv_ext E (H f hf)]
theorem mus_app:mus n N (fl++[f])=mus n N fl+fmu n N f:=by simp[mus]
theorem nbs_app:nbs n N (fl++[f])=nbs n N fl+fnb n N f:=by simp[nbs]
theorem Link.wants(W:Link n N g fr)(R:OpR n fo N fr.op fr.a0 fr.a1 fr.a2 r):Wants n fo N g r:=by
 obtain⟨e,h|h⟩:=W
 ·obtain⟨e1,e2,e3,e4⟩:=h
  rw[e,e2,e3,e4]at R
  exact .inl ⟨e1,R⟩
 ·obtain⟨e1,e2,e3,e4⟩:=h
  rw[e,e2,e3,e4]at R
  exact .inr ⟨e1,R⟩
theorem Runs.pop(R:Runs n fo N G (fl++[fr]) told)(hr:OpR n fo N fr.op fr.a0 fr.a1 fr.a2 r)(hne:fl≠[]):Runs n fo N G fl r:=by
 refine⟨fun f hf=>R.frs f (by simp[hf]),fun i g f h1 h2=> ?_,?_,fun fl' g e=> .inr ?_,hr.is⟩
 ·have l2:=(List.getElem?_eq_some_iff.1 h2).1
  refine R.lnk i g f ?_ ?_
  ·rw[List.getElem?_append_left (by omega)];exact h1
  ·rw[List.getElem?_append_left l2];exact h2
 ·obtain⟨f,h1,h2⟩:=R.bot
  refine⟨f,?_,h2⟩
  rw[List.getElem?_append_left (List.length_pos_iff.2 hne)]at h1
  exact h1
 ·subst e
  refine(R.lnk fl'.length g fr ?_ ?_).wants hr
  ·simp
  ·simp
theorem Runs.goal(R:Runs n fo N G [fr] told)(hr:OpR n fo N fr.op fr.a0 fr.a1 fr.a2 r):OpR n fo N G.op G.a0 G.a1 G.a2 r:=by
 obtain⟨f,h1,h2,h3,h4,h5⟩:=R.bot
 simp at h1
 subst h1
 rw[←h2,←h3,←h4,←h5]
 exact hr
theorem Runs.push{fr':Fk}(R:Runs n fo N G (fl++[fr]) told)(e:fr'.op=fr.op∧fr'.a0=fr.a0∧fr'.a1=fr.a1∧fr'.a2=fr.a2)(F:FrOk n fo N fr')(W:FrOk n fo N g)(hl:Link n N fr' g)(hg:g.fn=180):Runs n fo N G (fl++[fr']++[g]) told:=by
 refine⟨fun f hf=> ?_,fun i x f h1 h2=> ?_,?_,fun fl' x e'=> .inl ?_,R.tld⟩
 ·simp only[List.mem_append,List.mem_singleton]at hf
  rcases hf with(hf|hf)|hf
  ·exact R.frs f (by simp[hf])
  ·subst hf;exact F
  ·subst hf;exact W
 ·have l2:=(List.getElem?_eq_some_iff.1 h2).1
  simp only[List.length_append,List.length_singleton]at l2
  by_cases hi:i+1<fl.length
  ·rw[List.append_assoc,List.getElem?_append_left (by omega)]at h1
   rw[List.append_assoc,List.getElem?_append_left hi]at h2
   refine R.lnk i x f ?_ ?_
   ·rw[List.getElem?_append_left (by omega)];exact h1
   ·rw[List.getElem?_append_left hi];exact h2
  ·by_cases hi2:i+1=fl.length
   ·rw[List.append_assoc,List.getElem?_append_left (by omega)]at h1
    have h2':f=fr':=by
     rw[List.append_assoc,List.getElem?_append_right (by omega),hi2]at h2
     simp at h2
     exact h2.symm
    subst h2'
    have L:=R.lnk i x fr (by rw[List.getElem?_append_left (by omega)];exact h1) (by rw[hi2];simp)
    unfold Link at L ⊢
    rw[e.1,e.2.1,e.2.2.1,e.2.2.2]
    exact L
   ·have hi3:i=fl.length:=by omega
    subst hi3
    have e1:x=fr':=by
     rw[List.append_assoc,List.getElem?_append_right (Nat.le_refl _)]at h1
     simp at h1
     exact h1.symm
    have e2:f=g:=by
     rw[List.append_assoc,List.getElem?_append_right (by omega)]at h2
     simp at h2
     exact h2.symm
    subst e1 e2
    exact hl
 ·obtain⟨f,h1,h2,h3,h4,h5⟩:=R.bot
  by_cases hz:fl=[]
  ·subst hz
   simp at h1
   subst h1
   exact⟨fr',by simp,by rw[e.1];exact h2,by rw[e.2.1];exact h3,by rw[e.2.2.1];exact h4,by rw[e.2.2.2];exact h5⟩
  ·refine⟨f,?_,h2,h3,h4,h5⟩
   rw[List.getElem?_append_left (List.length_pos_iff.2 hz)]at h1
   rw[List.append_assoc,List.getElem?_append_left (List.length_pos_iff.2 hz)]
   exact h1
 ·have:=List.append_inj' e' rfl
  have:=this.2
  simp at this
  rw[←this]
  exact hg
theorem pow_pos2(k:Nat):1≤2^k:=Nat.two_pow_pos k
theorem fmu180(h:f.fn=180):fmu n N f=4*2^(n-mlv n N f)-3∧fnb n N f=2^(n-mlv n N f)-1:=by
 unfold fmu fnb
 rw[if_pos h,if_pos h]
 exact⟨rfl,rfl⟩
theorem fmu225(h:f.fn=225):fmu n N f=4*2^(n-(f.level+1))-1∧fnb n N f=2^(n-(f.level+1)):=by
 unfold fmu fnb
 rw[if_neg (by omega),if_pos h,if_neg (by omega),if_pos h]
 exact⟨rfl,rfl⟩
theorem fmu273(h:f.fn=273):fmu n N f=1∧fnb n N f=1:=by
 unfold fmu fnb
 rw[if_neg (by omega),if_neg (by omega),if_neg (by omega),if_neg (by omega)]
 exact⟨rfl,rfl⟩
theorem mu_split(hl:mlv n N fr<n)(hg:g.fn=180)(hgl:mlv n N fr+1≤mlv n N g){fr':Fk}(h0:fr.fn=180)(h1:fr'.fn=225)(h2:fr'.level=mlv n N fr):
  fmu n N fr'+fmu n N g+1≤fmu n N fr∧fnb n N fr'+fnb n N g≤fnb n N fr:=by
 rw[(fmu180 h0).1,(fmu180 h0).2,(fmu180 hg).1,(fmu180 hg).2,(fmu225 h1).1,(fmu225 h1).2,h2]
 have e:2^(n-mlv n N fr)=2*2^(n-(mlv n N fr+1)):=by
  rw[show n-mlv n N fr=(n-(mlv n N fr+1))+1 by omega,Nat.pow_succ]
  omega
 have le:2^(n-mlv n N g)≤2^(n-(mlv n N fr+1)):=Nat.pow_le_pow_right (by decide) (by omega)
 have p:=pow_pos2 (n-mlv n N g)
 omega
theorem mu_high(hl:fr.level<n)(hg:g.fn=180)(hgl:fr.level+1≤mlv n N g){fr':Fk}(h0:fr.fn=225)(h1:fr'.fn=273):
  fmu n N fr'+fmu n N g+1≤fmu n N fr∧fnb n N fr'+fnb n N g≤fnb n N fr:=by
 rw[(fmu225 h0).1,(fmu225 h0).2,(fmu180 hg).1,(fmu180 hg).2,(fmu273 h1).1,(fmu273 h1).2]
 have le:2^(n-mlv n N g)≤2^(n-(fr.level+1)):=Nat.pow_le_pow_right (by decide) (by omega)
 have p:=pow_pos2 (n-mlv n N g)
 omega
theorem fmu_pos:1≤fmu n N f:=by
 unfold fmu
 have p:=pow_pos2 (n-mlv n N f)
 have q:=pow_pos2 (n-(f.level+1))
 split
 ·omega
 ·split<;>omega
end
end
section
def AtOnce(op a b c r:Nat):Prop:= ∀n f N,NOk n N→isN N a→isN N b→isN N c→OpR n f N op a b c r
theorem opr_c0{n:Nat}{f:Nat→Nat}{N:List (Option Nd)}{op a b c:Nat}(H:NOk n N)(ha:isN N a)(h: ∀x,false=opB op (sm n f N a x) (sm n f N b x) (sm n f N c x)):OpR n f N op a b c 0:=
 ⟨.inl (by omega),fun k h1 _ _=>by rw[lvl_end (a:=0) (by omega)];have:=lvl_le H ha;omega,fun x=>by rw[sm_const (by omega)];exact h x⟩
theorem opr_c1{n:Nat}{f:Nat→Nat}{N:List (Option Nd)}{op a b c:Nat}(H:NOk n N)(ha:isN N a)(h: ∀x,true=opB op (sm n f N a x) (sm n f N b x) (sm n f N c x)):OpR n f N op a b c 1:=
 ⟨.inl (by omega),fun k h1 _ _=>by rw[lvl_end (a:=1) (by omega)];have:=lvl_le H ha;omega,fun x=>by rw[sm_const (by omega)];exact h x⟩
section
variable {h:Heap}{s m:Nat}{f:Fk}{K:Value→Heap→Prop}
theorem frame_rd(A:At h f.b (cellK m f)):rd h ⟨f.b,0,none⟩=some (ptrV m)∧rd h ⟨f.b,1,none⟩=some (.int .u8 (f.op:Int))∧rd h ⟨f.b,3,none⟩=some (.int .u32 (f.a0:Int))∧rd h ⟨f.b,4,none⟩=some (.int .u32 (f.a1:Int))∧rd h ⟨f.b,5,none⟩=some (.int .u32 (f.a2:Int))∧rd h ⟨f.b,6,none⟩=some (.int .i64 (f.level:Int))∧rd h ⟨f.b,7,none⟩=some (.int .u32 (f.low:Int))∧rd h ⟨f.b,8,none⟩=some (goV f.fn f.b):=
 ⟨by rw[At.rd A];rfl,by rw[At.rd A];rfl,by rw[At.rd A];rfl,by rw[At.rd A];rfl,by rw[At.rd A];rfl,by rw[At.rd A];rfl,by rw[At.rd A];rfl,by rw[At.rd A];rfl⟩
theorem mach_rd{A:MA}(M:At h A.m (cellM s A)):rd h ⟨A.m,0,none⟩=some (ptrV s)∧rd h ⟨A.m,1,none⟩=some (.slice A.fp A.fs.length A.fc)∧rd h ⟨A.m,2,none⟩=some (.int .u32 (A.told:Int))∧rd h ⟨A.m,3,none⟩=some (.bool A.done)∧rd h ⟨A.m,4,none⟩=some (.int .i64 (A.e:Int)):=
 ⟨by rw[At.rd M];rfl,by rw[At.rd M];rfl,by rw[At.rd M];rfl,by rw[At.rd M];rfl,by rw[At.rd M];rfl⟩
theorem same223(F:At h f.b (cellK m f))(hop:isJoin f.op)(hT: ∀r:Nat,AtOnce f.op f.a0 f.a1 f.a2 r→K (.tuple #[.int .u32 (r:Int),.bool true]) h)
  (hF: ∀r:Nat,(f.op=3→f.a0≠0)→K (.tuple #[.int .u32 (r:Int),.bool false]) h):Cl 223 [ptrV f.b] h K:=by
 obtain⟨-,r1,r3,r4,r5,-⟩:=frame_rd F
 refine F223.spec _ h K ?_
 simp only[add_mk,Nat.zero_add,Nat.add_zero]
 have r3':rd h ⟨f.b,3+Int.toNat (0:Int)*1,none⟩=some (.int .u32 (f.a0:Int)):=r3
 have r4':rd h ⟨f.b,3+Int.toNat (1:Int)*1,none⟩=some (.int .u32 (f.a1:Int)):=r4
 refine⟨by omega,by omega,ldI_of r3' ⟨by omega,by omega,ldI_of r4' (ldI_of r1 ?_)⟩⟩
 have tail: ∀z:Nat,(z=1∧f.op=2)∨(z=0∧f.op≠2)→F223.wk5 ⟨f.b,0,none⟩ (f.a0:Int) (f.a1:Int) (z:Int) h K:=by
  intro z hz
  unfold F223.wk5
  simp only[add_mk,Nat.zero_add,Nat.add_zero]
  refine ldI_of r1 ?_
  rw[show(5:Int)=((5:Nat):Int)from rfl,eq_cast]
  refine bcase_of (fun e=> ?_) fun e5=> ?_
  ·have e:=of_decide_eq_true e
   exact hF 0 fun h3=>by omega
  have e5:=of_decide_eq_false e5
  have hop':f.op=2∨f.op=3∨f.op=4:=by rcases hop with h|h|h|h<;>omega
  rw[eq_cast]
  refine bcase_of (fun e=> ?_) fun e0=> ?_
  ·have e:=of_decide_eq_true e
   refine hT _ fun n fo N H ha hb hc=>⟨hb,fun k _ h2 _=>h2,fun x=> ?_⟩
   rcases hz with⟨h1,h2⟩|⟨h1,h2⟩
   ·rw[h2,e,h1,sm_const (a:=1) (by omega)]
    simp[opB]
   ·rcases hop' with h|h|h
    ·omega
    ·rw[h,e,h1,sm_const (a:=0) (by omega)]
     simp[opB]
    ·rw[h,e,h1,sm_const (a:=0) (by omega)]
     simp[opB]
  have e0:=of_decide_eq_false e0
  have last:bcase ((f.a1:Int)==(z:Int)) (K (.tuple #[.int .u32 (f.a0:Int),.bool true]) h) (K (.tuple #[.int .u32 (0:Int),.bool false]) h):=by
   rw[eq_cast]
   refine bcase_of (fun e=> ?_) fun e=> ?_
   ·have e:=of_decide_eq_true e
    refine hT _ fun n fo N H ha hb hc=>⟨ha,fun k h2 _ _=>h2,fun x=> ?_⟩
    rcases hz with⟨h1,h2⟩|⟨h1,h2⟩
    ·rw[h2,e,h1,sm_const (a:=1) (by omega)]
     simp[opB]
    ·rcases hop' with h|h|h
     ·omega
     ·rw[h,e,h1,sm_const (a:=0) (by omega)]
      simp[opB]
     ·rw[h,e,h1,sm_const (a:=0) (by omega)]
      simp[opB]
   ·exact hF 0 fun h3=>by omega
  rw[eq_cast]
  refine bcase_of (fun e=>ldI_of r1 ?_) fun e=>last
  have e:=of_decide_eq_true e
  rw[show((f.op:Int) !=(4:Int))= !decide (f.op=4) by rw[show(4:Int)=((4:Nat):Int)from rfl,←eq_cast];rfl]
  refine bcase_of (fun e4=> ?_) fun e4=>last
  have e4:f.op≠4:=by simpa using e4
  refine hT _ fun n fo N H ha hb hc=>⟨hb,fun k _ h2 _=>h2,fun x=> ?_⟩
  rw[e]
  rcases hop' with h|h|h
  ·rw[h];simp[opB]
  ·rw[h];simp[opB]
  ·omega
 rw[show(2:Int)=((2:Nat):Int)from rfl,eq_cast]
 refine bcase_of (fun e=> ?_) fun e=> ?_
 ·exact tail 1 (.inl ⟨rfl,of_decide_eq_true e⟩)
 ·exact tail 0 (.inr ⟨rfl,of_decide_eq_false e⟩)
theorem le_cast{a:Nat}:decide ((a:Int)≤(1:Int))=decide (a≤1):=by
 by_cases h:a≤1
 ·rw[decide_eq_true h,decide_eq_true (by omega)]
 ·rw[decide_eq_false h,decide_eq_false (by omega)]
theorem sm_bit{n:Nat}{f:Nat→Nat}{N:List (Option Nd)}{a x:Nat}(h:a≤1):sm n f N a x=decide (a=1):=by
 rw[sm_const (by omega)]
 by_cases e:a=1<;>simp[e]
theorem ends224(F:At h f.b (cellK m f))(hop:isJoin f.op)(h32:f.a0<2^32∧f.a1<2^32)(h3:f.op=3→f.a0≠0)(hT: ∀r:Nat,AtOnce f.op f.a0 f.a1 f.a2 r→K (.tuple #[.int .u32 (r:Int),.bool true]) h)
  (hF: ∀r:Nat,(2≤f.a0∨2≤f.a1∨2≤f.a2)→K (.tuple #[.int .u32 (r:Int),.bool false]) h):Cl 224 [ptrV f.b] h K:=by
 obtain⟨-,r1,r3,r4,r5,-⟩:=frame_rd F
 refine F224.spec _ h K ?_
 simp only[add_mk,Nat.zero_add,Nat.add_zero]
 have r3':rd h ⟨f.b,3+Int.toNat (0:Int)*1,none⟩=some (.int .u32 (f.a0:Int)):=r3
 have r4':rd h ⟨f.b,3+Int.toNat (1:Int)*1,none⟩=some (.int .u32 (f.a1:Int)):=r4
 have r5':rd h ⟨f.b,3+Int.toNat (2:Int)*1,none⟩=some (.int .u32 (f.a2:Int)):=r5
 refine⟨by omega,by omega,ldI_of r3' ⟨by omega,by omega,ldI_of r4' ⟨by omega,by omega,ldI_of r5' (ldI_of r1 ?_)⟩⟩⟩
 rw[band32 h32.1 h32.2,bxor32 h32.1 h32.2,le_cast,le_cast]
 simp only[show(2:Int)=((2:Nat):Int)from rfl,show(3:Int)=((3:Nat):Int)from rfl,show(4:Int)=((4:Nat):Int)from rfl,show(1:Int)=((1:Nat):Int)from rfl,show(0:Int)=((0:Nat):Int)from rfl,eq_cast]
 have and0:f.op=2→(f.a0=0∨f.a1=0)→K (.tuple #[.int .u32 ((f.a0&&&f.a1:Nat):Int),.bool true]) h:=fun e he=>by
  have:f.a0&&&f.a1=0:=by rcases he with h|h<;>rw[h]<;>simp
  rw[this]
  refine hT 0 fun n fo N H ha hb hc=>opr_c0 H ha fun x=> ?_
  rw[e]
  rcases he with h|h
  ·rw[h,sm_const (a:=0) (by omega)];simp[opB]
  ·rw[h,sm_const (a:=0) (by omega)];simp[opB]
 refine bcase_of (fun e=> ?_) fun e2=> ?_
 ·have e:=of_decide_eq_true e
  have no0:f.a0≠0→bcase (decide (f.a0=0)) (K (.tuple #[.int .u32 ((f.a0&&&f.a1:Nat):Int),.bool true]) h) (K (.tuple #[.int .u32 ((f.a0&&&f.a1:Nat):Int),.bool (decide (f.a1=0))]) h)→True:=fun _ _=>trivial
  have rest:(2≤f.a0∨2≤f.a1)→bcase (decide (f.a0=0)) (K (.tuple #[.int .u32 ((f.a0&&&f.a1:Nat):Int),.bool true]) h) (K (.tuple #[.int .u32 ((f.a0&&&f.a1:Nat):Int),.bool (decide (f.a1=0))]) h):=fun h2=>by
   refine bcase_of (fun e0=>and0 e (.inl (of_decide_eq_true e0))) fun e0=> ?_
   by_cases h1:f.a1=0
   ·rw[decide_eq_true h1]
    exact and0 e (.inr h1)
   ·rw[decide_eq_false h1]
    exact hF _ (h2.imp id .inl)
  refine bcase_of (fun e0=> ?_) fun e0=>rest (.inl (by have:=of_decide_eq_false e0;omega))
  have e0:=of_decide_eq_true e0
  refine bcase_of (fun e1=> ?_) fun e1=>rest (.inr (by have:=of_decide_eq_false e1;omega))
  have e1:=of_decide_eq_true e1
  by_cases hz:f.a0=0∨f.a1=0
  ·exact and0 e hz
  ·have q0:f.a0=1:=by omega
   have q1:f.a1=1:=by omega
   rw[show f.a0&&&f.a1=1 by rw[q0,q1];rfl]
   refine hT 1 fun n fo N H ha hb hc=>opr_c1 H ha fun x=> ?_
   rw[e,q0,q1,sm_const (a:=1) (by omega)]
   simp[opB]
 have e2:=of_decide_eq_false e2
 refine bcase_of (fun e=> ?_) fun e3=> ?_
 ·have e:=of_decide_eq_true e
  have or1:(f.a0=1∨f.a1=1)→K (.tuple #[.int .u32 ((1:Nat):Int),.bool true]) h:=fun he=>by
   refine hT 1 fun n fo N H ha hb hc=>opr_c1 H ha fun x=> ?_
   rw[e]
   rcases he with h|h
   ·rw[h,sm_const (a:=1) (by omega)];simp[opB]
   ·rw[h,sm_const (a:=1) (by omega)];simp[opB]
  refine bcase_of (fun e0=>or1 (.inl (of_decide_eq_true e0))) fun e0=> ?_
  by_cases h1:f.a1=1
  ·rw[decide_eq_true h1]
   exact or1 (.inr h1)
  ·rw[decide_eq_false h1]
   refine hF 1 (.inl ?_)
   have:=of_decide_eq_false e0
   have:=h3 e
   omega
 have e3:=of_decide_eq_false e3
 refine bcase_of (fun e=> ?_) fun e4=> ?_
 ·have e:=of_decide_eq_true e
  refine bcase_of (fun e0=> ?_) fun e0=> ?_
  ·have e0:=of_decide_eq_true e0
   rw[e0,Nat.xor_self]
   refine hT 0 fun n fo N H ha hb hc=>opr_c0 H ha fun x=> ?_
   rw[e,e0]
   simp[opB]
  ·have e0:=of_decide_eq_false e0
   refine bcase_of (fun e1=> ?_) fun e1=>hF _ (.inl (by have:=of_decide_eq_false e1;omega))
   have e1:=of_decide_eq_true e1
   by_cases h1:f.a1≤1
   ·rw[decide_eq_true h1]
    have q:f.a0^^^f.a1=1:=by
     have:(f.a0=0∧f.a1=1)∨(f.a0=1∧f.a1=0):=by omega
     rcases this with⟨h,h'⟩|⟨h,h'⟩<;>rw[h,h']<;>rfl
    rw[q]
    refine hT 1 fun n fo N H ha hb hc=>opr_c1 H ha fun x=> ?_
    rw[e,sm_bit e1,sm_bit h1]
    have:(f.a0=0∧f.a1=1)∨(f.a0=1∧f.a1=0):=by omega
    rcases this with⟨h,h'⟩|⟨h,h'⟩<;>rw[h,h']<;>simp[opB]
   ·rw[decide_eq_false h1]
    exact hF _ (.inr (.inl (by omega)))
 have e4:=of_decide_eq_false e4
 have e5:f.op=5:=by rcases hop with h|h|h|h<;>omega
 refine bcase_of (fun e=> ?_) fun e1=>bcase_of (fun e=> ?_) fun e12=>bcase_of (fun e=> ?_) fun e0=> ?_
 ·have e:=of_decide_eq_true e
  refine hT _ fun n fo N H ha hb hc=>⟨hb,fun k _ h2 _=>h2,fun x=> ?_⟩
  rw[e5,e,sm_const (a:=1) (by omega)]
  simp[opB]
 ·have e:=of_decide_eq_true e
  refine hT _ fun n fo N H ha hb hc=>⟨hb,fun k _ h2 _=>h2,fun x=> ?_⟩
  rw[e5,e]
  simp[opB]
 ·have e:=of_decide_eq_true e
  refine hT _ fun n fo N H ha hb hc=>⟨hc,fun k _ _ h2=>h2,fun x=> ?_⟩
  rw[e5,e,sm_const (a:=0) (by omega)]
  simp[opB]
 ·exact hF 0 (.inl (by have:=of_decide_eq_false e1;have:=of_decide_eq_false e0;omega))
end
end
section
def sideB(side:Bool)(s:Nat):Value:= .func (.func (if side then 73 else 72)) #[.pointer (some ⟨s,0,none⟩)] #[]
section
variable {h:Heap}{s m:Nat}{f:Fk}{K:Value→Heap→Prop}{L:List Nat}{X:SX}
set_option maxRecDepth 100000 in
theorem half226{A:MA}{side:Bool}(H:Sto h s L X)(F:At h f.b (cellK A.m f))(M:At h A.m (cellM s A))(ha:isN X.N f.a0)(hb:isN X.N f.a1)(hc:isN X.N f.a2)
  (hK: ∀h',Only [] h h'→K (.agg #[.int .u32 (ch X.n X.N f.level side f.a0:Int),.int .u32 (ch X.n X.N f.level side f.a1:Int),.int .u32 (ch X.n X.N f.level side f.a2:Int)]) h'):
  Cl 226 [ptrV f.b,sideB side s] h K:=by
 refine F226.spec _ _ h K ?_
 refine newK_at fun h1 A1 O1 z1=> ?_
 simp only[add_mk,Nat.zero_add,Nat.add_zero]
 have F1:=F.only O1 (by simp)
 obtain⟨-,-,r3,r4,r5,-⟩:=frame_rd F1
 refine ldI_of r3 (ldI_of r4 (ldI_of r5 ?_))
 refine newK_at fun h2 A2 O2 z2=> ?_
 refine stK_at A2 (by simp) rfl fun h3 A3 O3 z3=>stK_at A3 (by simp) rfl fun h4 A4 O4 z4=>stK_at A4 (by simp) rfl fun h5 A5 O5 z5=> ?_
 have A5:At h5 h1.size [.int .u32 (f.a0:Int),.int .u32 (f.a1:Int),.int .u32 (f.a2:Int)]:=A5
 have r: ∀k,rd h5 ⟨h1.size,k,none⟩=([.int .u32 (f.a0:Int),.int .u32 (f.a1:Int),.int .u32 (f.a2:Int)]:List Value)[k]? :=fun k=>At.rd A5 k
 refine ldI_of (by rw[r];rfl) (ldI_of (by rw[r];rfl) (ldI_of (by rw[r];rfl) ?_))
 unfold F226.wk3
 have O15:Only [h1.size] h1 h5:=((O2.mono (T:=[h1.size]) (by simp)).trans O3 fun b hb _=>hb).trans O4 (fun b hb _=>hb)|>.trans O5 fun b hb _=>hb
 have B5:At h5 h.size [.int .u32 0,.int .u32 0,.int .u32 0]:=A1.only O15 (by simp;omega)
 have O05:Only [] h h5:=O1.trans O15 (by intro b hb hl;simp at hb;omega)
 have step: ∀(bk:Addr→Value→Addr→Addr→Int→Int→Int→Int→Heap→Prop) (h':Heap) (i y:Nat) (l':List Value),i<3→(if i=0 then f.a0 else if i=1 then f.a1 else f.a2)=y→isN X.N y→l'.length=3→(l'[i]? =some (.int .u32 (y:Int)))→
   At h' h.size [.int .u32 0,.int .u32 0,.int .u32 0]→At h' h1.size l'→Only [] h h'→
   (∀h'',At h'' h.size [.int .u32 0,.int .u32 0,.int .u32 0]→At h'' h1.size (l'.set i (.int .u32 (ch X.n X.N f.level side y:Int)))→Only [] h h''→bk ⟨f.b,0,none⟩ (sideB side s) ⟨h.size,0,none⟩ ⟨h1.size,0,none⟩ (f.a0:Int) (f.a1:Int) (f.a2:Int) ((i+1:Nat):Int) h'')→
   F226.JL3 bk ⟨f.b,0,none⟩ (sideB side s) ⟨h.size,0,none⟩ ⟨h1.size,0,none⟩ (f.a0:Int) (f.a1:Int) (f.a2:Int) (i:Int) h' K:=by
  intro bk h' i y l' hi hy hN hl' hy' B A O hB
  unfold F226.JL3
  have F':=F.only O (by simp)
  have M':=M.only O (by simp)
  have S':=H.only0 O
  obtain⟨r0,-,-,-,-,r6,-⟩:=frame_rd F'
  have m0:=(mach_rd M').1
  rw[decide_eq_true (by omega),bcase_true]
  refine⟨by omega,by omega,ldI_of (n:=(y:Int)) ?_ ?_⟩
  ·rw[Int.toNat_natCast]
   subst hy
   have:i=0∨i=1∨i=2:=by omega
   rcases this with e|e|e<;>subst e<;>rfl
  simp only[add_mk,Nat.zero_add,Nat.add_zero]
  refine ldP_of r0 ?_
  rw[ptrK_some]
  simp only[add_mk,Nat.zero_add,Nat.add_zero]
  refine ldP_of m0 (ldI_of r6 (sto_level S' hN (ldI_of rfl ⟨by trivial,by trivial,by trivial,ldI_of r6 ⟨by trivial,?_⟩⟩)))
  have ew:IntKind.wrap .i64 ((i:Int)+1)=((i+1:Nat):Int):=by rw[wrap_i64 (by omega) (by omega)];omega
  rw[ew,eq_cast]
  refine bcase_of (fun e=> ?_) fun e=> ?_
  ·have e:=of_decide_eq_true e
   have ech:ch X.n X.N f.level side y=if side then high X.N y else low X.N y:=by unfold ch;rw[if_pos e]
   have wr: ∀z:Nat,z=ch X.n X.N f.level side y→ldI .u32 (some (Value.int .u32 (z:Int))) fun n12=>0≤(i:Int)∧(i:Int)<(Nat.cast 3:Int)∧stK h' ⟨h1.size,Int.toNat (i:Int)*1,none⟩ (.int .u32 n12) fun h13=>bk ⟨f.b,0,none⟩ (sideB side s) ⟨h.size,0,none⟩ ⟨h1.size,0,none⟩ (f.a0:Int) (f.a1:Int) (f.a2:Int) ((i+1:Nat):Int) h13:=fun z hz=>by
    refine ldI_of rfl ⟨by omega,by omega,?_⟩
    rw[Int.toNat_natCast,Nat.mul_one,hz]
    exact stK_at A (by omega) rfl fun h'' A' O' z'=>hB h'' (B.only O' (by simp;omega)) A' (O.trans O' (by intro x hx hlt;simp at hx;omega))
   unfold sideB at wr ⊢
   cases side with
   |true=>exact dynK_go go73 (sto_high S' hN (wr _ (by rw[ech];rfl)))
   |false=>exact dynK_go go72 (sto_low S' hN (wr _ (by rw[ech];rfl)))
  ·have e:=of_decide_eq_false e
   have ech:ch X.n X.N f.level side y=y:=by unfold ch;rw[if_neg e]
   refine hB h' B ?_ O
   rw[ech]
   have:l'.set i (.int .u32 (y:Int))=l':=by
    apply List.ext_getElem?
    intro j
    rw[List.getElem?_set]
    by_cases hij:i=j
    ·subst hij
     rw[if_pos rfl,if_pos (by omega),hy']
    ·rw[if_neg hij]
   rw[this]
   exact A
 refine⟨4,?_⟩
 rw[F226.sL3]
 refine step _ h5 0 f.a0 _ (by omega) rfl ha rfl rfl B5 A5 O05 fun h6 B6 A6 O6=> ?_
 rw[F226.sL3]
 refine step _ h6 1 f.a1 _ (by omega) rfl hb rfl rfl B6 A6 O6 fun h7 B7 A7 O7=> ?_
 rw[F226.sL3]
 refine step _ h7 2 f.a2 _ (by omega) rfl hc rfl rfl B7 A7 O7 fun h8 B8 A8 O8=> ?_
 rw[F226.sL3];unfold F226.JL3
 rw[decide_eq_false (by omega),bcase_false]
 simp only[add_mk,Nat.zero_add,Nat.add_zero]
 have A8:At h8 h1.size [.int .u32 (ch X.n X.N f.level side f.a0:Int),.int .u32 (ch X.n X.N f.level side f.a1:Int),.int .u32 (ch X.n X.N f.level side f.a2:Int)]:=A8
 have r8: ∀k,rd h8 ⟨h1.size,k,none⟩=([.int .u32 (ch X.n X.N f.level side f.a0:Int),.int .u32 (ch X.n X.N f.level side f.a1:Int),.int .u32 (ch X.n X.N f.level side f.a2:Int)]:List Value)[k]? :=fun k=>At.rd A8 k
 refine ldI_of (by rw[r8];rfl) (ldI_of (by rw[r8];rfl) (ldI_of (by rw[r8];rfl) ?_))
 refine stK_at B8 (by simp) rfl fun h9 A9 O9 z9=>stK_at A9 (by simp) rfl fun h10 A10 O10 z10=>stK_at A10 (by simp) rfl fun h11 A11 O11 z11=> ?_
 have A11:At h11 h.size [.int .u32 (ch X.n X.N f.level side f.a0:Int),.int .u32 (ch X.n X.N f.level side f.a1:Int),.int .u32 (ch X.n X.N f.level side f.a2:Int)]:=A11
 have r11: ∀k,rd h11 ⟨h.size,k,none⟩=([.int .u32 (ch X.n X.N f.level side f.a0:Int),.int .u32 (ch X.n X.N f.level side f.a1:Int),.int .u32 (ch X.n X.N f.level side f.a2:Int)]:List Value)[k]? :=fun k=>At.rd A11 k
 refine ldI_of (by rw[r11];rfl) (ldI_of (by rw[r11];rfl) (ldI_of (by rw[r11];rfl) ?_))
 exact hK h11 (((O8.trans O9 (by intro b hb hl;simp at hb;omega)).trans O10 (by intro b hb hl;simp at hb;omega)).trans O11 (by intro b hb hl;simp at hb;omega))
end
end
section
theorem go180:xget X 180=some Ext.go:=by kernel_rfl
theorem go225:xget X 225=some Ext.go:=by kernel_rfl
theorem go273:xget X 273=some Ext.go:=by kernel_rfl
section
variable {h:Heap}{s n room:Nat}{fo gg:Nat→Nat}{off:Bool}{N:List (Option Nd)}{A:MA}{fl:List Fk}{fr:Fk}{K:Value→Heap→Prop}{L:List Nat}
theorem MaIs.ftop(M:MaIs h s {A with fs:=fl++[fr]}):At h fr.b (cellK A.m fr):=M.frm fr (by simp)
theorem top_mem:fr.b∈({A with fs:=fl++[fr]}:MA).bl:=by simp[MA.bl]
theorem bl_top{f':Fk}(hb:f'.b=fr.b):({A with fs:=fl++[f']}:MA).bl=({A with fs:=fl++[fr]}:MA).bl:=by simp[MA.bl,hb]
set_option maxRecDepth 100000 in
theorem joins180(H:Sto h s L (XL n room fo gg N off))(M:MaIs h s {A with fs:=fl++[fr]})(D: ∀b∈({A with fs:=fl++[fr]}:MA).bl,b∉L)(hl:fl.length<100000)(hop:isJoin fr.op)(ha:isN N fr.a0)(hb:isN N fr.a1)(hc:isN N fr.a2)
  (hT: ∀h' fp r,OpR n fo N fr.op fr.a0 fr.a1 fr.a2 r→Sto h' s L (XL n room fo gg N off)→MaIs h' s {A with fp:=fp,fs:=fl,told:=r,done:=fl.isEmpty}→OwnB fp=OwnB A.fp→Only (L++({A with fs:=fl++[fr]}:MA).bl) h h'→K (.tuple #[]) h')
  (hP: ∀h' l b fp fc,l=min (lvl n N fr.a2) (min (lvl n N fr.a1) (min (lvl n N fr.a0) n))→l<n→h.size≤b→Sto h' s L (XL n room fo gg N off)→
   MaIs h' s {A with fp:=fp,fc:=fc,fs:=fl++[{fr with level:=l,fn:=225}]++[⟨b,fr.op,0,ch n N l false fr.a0,ch n N l false fr.a1,ch n N l false fr.a2,0,0,180⟩]}→(∀b∈OwnB fp,b∈OwnB A.fp∨h.size≤b)→Only (L++({A with fs:=fl++[fr]}:MA).bl) h h'→K (.tuple #[]) h'):
  Cl 180 [ptrV fr.b] h K:=by
 have ok:=H.ok
 dsimp only[XL]at ok
 have hn8:=ok.2.2.1
 have nlt: ∀{y},isN N y→y<2^16:=fun hy=>by have:=H.isN_lt hy;omega
 have opl:fr.op<2^8:=by rcases hop with h|h|h|h<;>omega
 refine F180.spec _ h K ?_
 simp only[add_mk,Nat.zero_add,Nat.add_zero]
 have F:=M.ftop
 have r0:=(frame_rd F).1
 have m0:=(mach_rd M.own).1
 refine ldP_of r0 ?_
 rw[ptrK_some]
 simp only[add_mk,Nat.zero_add,Nat.add_zero]
 refine ldP_of m0 ?_
 have tell: ∀h' r,OpR n fo N fr.op fr.a0 fr.a1 fr.a2 r→Sto h' s L (XL n room fo gg N off)→MaIs h' s {A with fs:=fl++[fr]}→Only L h h'→F180.wk6 ⟨fr.b,0,none⟩ (some ⟨s,0,none⟩) (r:Int) true h' K:=by
  intro h' r R S M' O
  unfold F180.wk6
  rw[bcase_true]
  simp only[add_mk,Nat.zero_add,Nat.add_zero]
  refine ldP_of (frame_rd M'.ftop).1 (tells181 M' (by omega) fun h2 fp M2 e2 O2=>⟨rfl,?_⟩)
  refine hT h2 fp r R (S.only O2 fun b hb hm=> ?_) M2 e2 ((O.mono fun b hb _=>List.mem_append.2 (.inl hb)).trans O2 fun b hb _=> ?_)
  ·simp only[List.mem_singleton]at hb
   subst hb
   exact D A.m (by simp[MA.bl]) hm
  ·simp only[List.mem_singleton]at hb
   subst hb
   exact List.mem_append.2 (.inr (by simp[MA.bl]))
 have down: ∀h' (z:Int),(2≤fr.a0∨2≤fr.a1∨2≤fr.a2)→Sto h' s L (XL n room fo gg N off)→MaIs h' s {A with fs:=fl++[fr]}→Only L h h'→F180.wk6 ⟨fr.b,0,none⟩ (some ⟨s,0,none⟩) z false h' K:=by
  intro h' z h2 S M' O
  unfold F180.wk6
  rw[bcase_false]
  simp only[add_mk,Nat.zero_add,Nat.add_zero]
  refine sto_vars S (ldI_of rfl ?_)
  have hsz:=O.size
  have nfr:fr.b∉L:=D _ top_mem
  have zL:=H.lt
  refine M'.top (f':={fr with level:=n}) (by decide) rfl rfl rfl fun h3 M3 O3=> ?_
  have S3:=S.only O3 (fun b hb hm=>by simp only[List.mem_singleton]at hb;subst hb;exact nfr hm)
  obtain⟨q0,q1,q3,q4,q5,q6,-⟩:=frame_rd M3.ftop
  refine ldI_of q3 (ldI_of q4 (ldI_of q5 ?_))
  unfold F180.wk10
  have O03:Only (L++[fr.b]) h h3:=(O.mono fun b hb _=>List.mem_append.2 (.inl hb)).trans O3 fun b hb _=>List.mem_append.2 (.inr hb)
  have lstep: ∀(bk:Addr→Option Addr→Int→Int→Int→Int→Heap→Prop) (k14:Addr→Option Addr→Heap→Prop) (h4:Heap) (i y l:Nat),i<3→(if i=0 then fr.a0 else if i=1 then fr.a1 else fr.a2)=y→isN N y→Sto h4 s L (XL n room fo gg N off)→MaIs h4 s {A with fs:=fl++[{fr with level:=l}]}→Only (L++[fr.b]) h h4→
    (∀h5,Sto h5 s L (XL n room fo gg N off)→MaIs h5 s {A with fs:=fl++[{fr with level:=min (lvl n N y) l}]}→Only (L++[fr.b]) h h5→bk ⟨fr.b,0,none⟩ (some ⟨s,0,none⟩) (fr.a0:Int) (fr.a1:Int) (fr.a2:Int) ((i+1:Nat):Int) h5)→
    F180.JL10 bk k14 ⟨fr.b,0,none⟩ (some ⟨s,0,none⟩) (fr.a0:Int) (fr.a1:Int) (fr.a2:Int) (i:Int) h4 K:=by
   intro bk k14 h4 i y l hi hy hN S4 M4 O4 hB
   unfold F180.JL10
   rw[decide_eq_true (by omega),bcase_true]
   simp only[add_mk,Nat.zero_add,Nat.add_zero]
   obtain⟨p0,p1,p3,p4,p5,p6,-⟩:=frame_rd M4.ftop
   refine⟨by omega,by omega,ldI_of (n:=(y:Int)) ?_ (ldI_of p6 (sto_level S4 hN (ldI_of rfl ⟨by trivial,by trivial,by trivial,by trivial,ldI_of p6 ⟨by trivial,?_⟩⟩)))⟩
   ·rw[Int.toNat_natCast]
    subst hy
    have:i=0∨i=1∨i=2:=by omega
    rcases this with e|e|e<;>subst e<;>rfl
   ·have ew:IntKind.wrap .i64 ((i:Int)+1)=((i+1:Nat):Int):=by rw[wrap_i64 (by omega) (by omega)];omega
    rw[ew]
    show stK h4 ⟨fr.b,6,none⟩ (.int .i64 (if((lvl n N y:Nat):Int)<(l:Int)then((lvl n N y:Nat):Int)else(l:Int))) _
    rw[ifmin]
    refine M4.top (f':={fr with level:=min (lvl n N y) l}) (by decide) rfl rfl rfl fun h5 M5 O5=>hB h5 (S4.only O5 fun b hb hm=>by simp only[List.mem_singleton]at hb;subst hb;exact nfr hm) M5 (O4.trans O5 fun b hb _=>List.mem_append.2 (.inr hb))
  refine⟨4,?_⟩
  rw[F180.sL10]
  refine lstep _ _ h3 0 fr.a0 n (by omega) rfl ha S3 M3 O03 fun h4 S4 M4 O4=> ?_
  rw[F180.sL10]
  refine lstep _ _ h4 1 fr.a1 _ (by omega) rfl hb S4 M4 O4 fun h5 S5 M5 O5=> ?_
  rw[F180.sL10]
  refine lstep _ _ h5 2 fr.a2 _ (by omega) rfl hc S5 M5 O5 fun h6 S6 M6 O6=> ?_
  rw[F180.sL10];unfold F180.JL10
  rw[decide_eq_false (by omega),bcase_false]
  obtain⟨l,el⟩: ∃l,l=min (lvl n N fr.a2) (min (lvl n N fr.a1) (min (lvl n N fr.a0) n)):=⟨_,rfl⟩
  rw[←el]at M6
  have lt2: ∀{y},isN N y→2≤y→lvl n N y<n:=fun hy h2=>(ok.1.at hy h2).1
  have hln:l<n:=by
   rcases h2 with h2|h2|h2
   ·have:=lt2 ha h2;omega
   ·have:=lt2 hb h2;omega
   ·have:=lt2 hc h2;omega
  unfold F180.wk14
  simp only[add_mk,Nat.zero_add,Nat.add_zero]
  refine M6.top (f':={fr with level:=l,fn:=225}) (by decide) rfl rfl rfl fun h7 M7 O7=> ?_
  have S7:=S6.only O7 (fun b hb hm=>by simp only[List.mem_singleton]at hb;subst hb;exact nfr hm)
  have F7:=M7.ftop
  obtain⟨q0,q1,-⟩:=frame_rd F7
  refine ldP_of q0 (ldI_of q1 ?_)
  have O07:Only (L++[fr.b]) h h7:=O6.trans O7 fun b hb _=>List.mem_append.2 (.inr hb)
  refine half226 (A:={A with fs:=fl++[{fr with level:=l,fn:=225}]}) (side:=false) (f:={fr with level:=l,fn:=225}) S7 F7 M7.own ha hb hc fun h8 O8=>⟨_,_,_,rfl,by trivial,by trivial,by trivial,?_⟩
  have M8:=M7.only0 O8
  have S8:=S7.only0 O8
  obtain⟨p0,p1,-⟩:=frame_rd M8.ftop
  refine ldP_of p0 ⟨by trivial,by trivial,by trivial,by trivial,ldI_of p1 ⟨by trivial,?_⟩⟩
  refine calls135 (A:={A with fs:=fl++[{fr with level:=l,fn:=225}]}) (mask:=0) M8 (by simp;omega) fun h9 g fp fc hg M9 O9 g9=>ldP_of rfl ?_
  obtain⟨b,rfl,hb9⟩:=hg
  have hz8:h.size≤h8.size:=Nat.le_trans O07.size O8.size
  refine hP h9 l b fp fc el hln (by omega) (S8.only O9 fun x hx hm=> ?_) M9 (fun x hx=>(g9 x hx).imp id fun h=>by omega) ?_
  ·rcases List.mem_cons.1 hx with e|hx
   ·subst e
    exact D A.m (by simp[MA.bl]) hm
   ·have hx:x∈OwnB A.fp:=hx
    exact D x (by simp[MA.bl,hx]) hm
  ·refine((O07.trans O8 (by simp)).mono (T:=L++({A with fs:=fl++[fr]}:MA).bl) fun x hx _=> ?_).trans O9 fun x hx _=>List.mem_append.2 (.inr ?_)
   ·rcases List.mem_append.1 hx with h|h
    ·exact List.mem_append.2 (.inl h)
    ·simp only[List.mem_singleton]at h
     subst h
     exact List.mem_append.2 (.inr top_mem)
   ·rcases List.mem_cons.1 hx with e|hx
    ·subst e
     simp[MA.bl]
    ·have hx:x∈OwnB A.fp:=hx
     simp[MA.bl,hx]
 have h32:fr.a0<2^32∧fr.a1<2^32:=⟨by have:=nlt ha;omega,by have:=nlt hb;omega⟩
 refine same223 F hop (fun r R=>⟨_,_,rfl,?_⟩) fun r h3=>⟨_,_,rfl,?_⟩
 ·rw[Bool.not_true,bcase_false]
  unfold F180.wk4
  rw[Bool.not_true,bcase_false]
  exact tell h r (R n fo N ok.1 ha hb hc) H M (Only.refl _ _)
 ·rw[Bool.not_false,bcase_true]
  refine ends224 F hop h32 h3 (fun r R=>⟨_,_,rfl,?_⟩) fun r h2=>⟨_,_,rfl,?_⟩
  ·unfold F180.wk4
   rw[Bool.not_true,bcase_false]
   exact tell h r (R n fo N ok.1 ha hb hc) H M (Only.refl _ _)
  ·unfold F180.wk4
   rw[Bool.not_false,bcase_true]
   simp only[add_mk,Nat.zero_add,Nat.add_zero]
   obtain⟨-,p1,p3,p4,p5,-⟩:=frame_rd F
   have r3':rd h ⟨fr.b,3+Int.toNat (0:Int)*1,none⟩=some (.int .u32 (fr.a0:Int)):=p3
   have r4':rd h ⟨fr.b,3+Int.toNat (1:Int)*1,none⟩=some (.int .u32 (fr.a1:Int)):=p4
   have r5':rd h ⟨fr.b,3+Int.toNat (2:Int)*1,none⟩=some (.int .u32 (fr.a2:Int)):=p5
   refine ldI_of p1 ⟨by omega,by omega,ldI_of r3' ⟨by omega,by omega,ldI_of r4' ⟨by omega,by omega,ldI_of r5' ?_⟩⟩⟩
   refine sto_recall (mask:=0) H opl (by decide) (nlt ha) (nlt hb) (nlt hc) (fun h4 S4 O4=>⟨_,_,rfl,?_⟩) fun h4 v hv S4 O4=>⟨_,_,rfl,?_⟩
   ·exact down h4 _ h2 S4 (M.only O4 fun b hb hm=>D b hm hb) O4
   ·obtain⟨r,rfl,R⟩:=QL.get (by rcases hop with h|h|h|h<;>omega) hv (nlt ha) (nlt hb) (nlt hc)
    have hr:=H.isN_lt R.is
    rw[wrap32 (by omega)]
    exact tell h4 r R S4 (M.only O4 fun b hb hm=>D b hm hb) O4
end
end
section
section
variable {h:Heap}{s n room:Nat}{fo gg:Nat→Nat}{off:Bool}{N:List (Option Nd)}{A:MA}{fl:List Fk}{fr:Fk}{K:Value→Heap→Prop}{L:List Nat}
set_option maxRecDepth 100000 in
theorem joinsHigh225(H:Sto h s L (XL n room fo gg N off))(M:MaIs h s {A with fs:=fl++[fr]})(D: ∀b∈({A with fs:=fl++[fr]}:MA).bl,b∉L)(hl:fl.length<100000)(ha:isN N fr.a0)(hb:isN N fr.a1)(hc:isN N fr.a2)
  (hP: ∀h' b fp fc,h.size≤b→Sto h' s L (XL n room fo gg N off)→
   MaIs h' s {A with fp:=fp,fc:=fc,fs:=fl++[{fr with low:=A.told,fn:=273}]++[⟨b,fr.op,0,ch n N fr.level true fr.a0,ch n N fr.level true fr.a1,ch n N fr.level true fr.a2,0,0,180⟩]}→(∀b∈OwnB fp,b∈OwnB A.fp∨h.size≤b)→Only (L++({A with fs:=fl++[fr]}:MA).bl) h h'→K (.tuple #[]) h'):
  Cl 225 [ptrV fr.b] h K:=by
 refine F225.spec _ h K ?_
 simp only[add_mk,Nat.zero_add,Nat.add_zero]
 have nfr:fr.b∉L:=D _ top_mem
 have rm:=mach_rd M.own
 refine ldP_of (frame_rd M.ftop).1 ?_
 rw[ptrK_some]
 simp only[add_mk,Nat.zero_add,Nat.add_zero]
 refine ldI_of rm.2.2.1 ?_
 refine M.top (f':={fr with low:=A.told}) (by decide) rfl rfl rfl fun h1 M1 O1=> ?_
 refine M1.top (f':={fr with low:=A.told,fn:=273}) (by decide) rfl rfl rfl fun h2 M2 O2=> ?_
 have O02:Only [fr.b] h h2:=O1.trans O2 fun b hb _=>hb
 have S2:=H.only O02 (fun b hb hm=>by simp only[List.mem_singleton]at hb;subst hb;exact nfr hm)
 have F2:=M2.ftop
 obtain⟨q0,q1,-⟩:=frame_rd F2
 refine ldP_of q0 (ldI_of q1 (ldP_of q0 ?_))
 rw[ptrK_some]
 simp only[add_mk,Nat.zero_add,Nat.add_zero]
 refine ldP_of (mach_rd M2.own).1 ?_
 refine half226 (A:={A with fs:=fl++[{fr with low:=A.told,fn:=273}]}) (side:=true) (f:={fr with low:=A.told,fn:=273}) S2 F2 M2.own ha hb hc fun h8 O8=>⟨_,_,_,rfl,by trivial,by trivial,by trivial,?_⟩
 have M8:=M2.only0 O8
 have S8:=S2.only0 O8
 obtain⟨p0,p1,-⟩:=frame_rd M8.ftop
 refine ldP_of p0 ⟨by trivial,by trivial,by trivial,by trivial,ldI_of p1 ⟨by trivial,?_⟩⟩
 refine calls135 (A:={A with fs:=fl++[{fr with low:=A.told,fn:=273}]}) (mask:=0) M8 (by simp;omega) fun h9 g fp fc hg M9 O9 g9=>ldP_of rfl ?_
 obtain⟨b,rfl,hb9⟩:=hg
 have hz8:h.size≤h8.size:=Nat.le_trans O02.size O8.size
 refine hP h9 b fp fc (by omega) (S8.only O9 fun x hx hm=> ?_) M9 (fun x hx=>(g9 x hx).imp id fun h=>by omega) ?_
 ·rcases List.mem_cons.1 hx with e|hx
  ·subst e
   exact D A.m (by simp[MA.bl]) hm
  ·have hx:x∈OwnB A.fp:=hx
   exact D x (by simp[MA.bl,hx]) hm
 ·refine((O02.trans O8 (by simp)).mono (T:=L++({A with fs:=fl++[fr]}:MA).bl) fun x hx _=> ?_).trans O9 fun x hx _=>List.mem_append.2 (.inr ?_)
  ·simp only[List.mem_singleton]at hx
   subst hx
   exact List.mem_append.2 (.inr top_mem)
  ·rcases List.mem_cons.1 hx with e|hx
   ·subst e
    simp[MA.bl]
   ·have hx:x∈OwnB A.fp:=hx
    simp[MA.bl,hx]
set_option maxRecDepth 100000 in
theorem joinsNode273(H:Sto h s L (XL n room fo gg N off))(M:MaIs h s {A with fs:=fl++[fr]})(D: ∀b∈({A with fs:=fl++[fr]}:MA).bl,b∉L)(hl:fl.length<100000)(hop:isJoin fr.op)(ha:isN N fr.a0)(hb:isN N fr.a1)(hc:isN N fr.a2)
  (hln:fr.level<n) (hlo:isN N fr.low) (htd:isN N A.told) (llo:fr.level<lvl n N fr.low) (ltd:fr.level<lvl n N A.told)
  (hR: ∀N' r,Ex N N'→MkRel room N fr.level fr.low A.told N' r 0→NOk n N'→OpR n fo N' fr.op fr.a0 fr.a1 fr.a2 r)
  (hT: ∀h' L' N' fp r,MkRel room N fr.level fr.low A.told N' r 0→OpR n fo N' fr.op fr.a0 fr.a1 fr.a2 r→Sto h' s L' (XL n room fo gg N' off)→MaIs h' s {A with fp:=fp,fs:=fl,told:=r,done:=fl.isEmpty}→OwnB fp=OwnB A.fp→Only (L++({A with fs:=fl++[fr]}:MA).bl) h h'→Fresh L L' h→K (.tuple #[]) h')
  (hE: ∀h' L',room≤cntN N→Sto h' s L' (XL n room fo gg N off)→MaIs h' s {A with fp:=none,fc:=0,fs:=[],done:=true,e:=60}→Only (L++({A with fs:=fl++[fr]}:MA).bl) h h'→Fresh L L' h→K (.tuple #[]) h'):
  Cl 273 [ptrV fr.b] h K:=by
 have ok:=H.ok
 dsimp only[XL]at ok
 have hn8:=ok.2.2.1
 have nlt: ∀{y},isN N y→y<2^16:=fun hy=>by have:=H.isN_lt hy;omega
 have opl:fr.op<2^8:=by rcases hop with h|h|h|h<;>omega
 refine F273.spec _ h K ?_
 simp only[add_mk,Nat.zero_add,Nat.add_zero]
 have nfr:fr.b∉L:=D _ top_mem
 have hlt:=M.lt
 obtain⟨q0,q1,-,-,-,q6,q7,-⟩:=frame_rd M.ftop
 refine ldI_of q6 (ldI_of q7 (ldP_of q0 ?_))
 rw[ptrK_some]
 simp only[add_mk,Nat.zero_add,Nat.add_zero]
 refine ldI_of (mach_rd M.own).2.2.1 ?_
 refine F276.spec _ _ _ _ h _ ?_
 simp only[add_mk,Nat.zero_add,Nat.add_zero]
 refine ldP_of q0 ?_
 rw[ptrK_some]
 simp only[add_mk,Nat.zero_add,Nat.add_zero]
 refine ldP_of (mach_rd M.own).1 ?_
 refine sto_mk H (l:=fr.level) hln hlo htd llo ltd fun h1 L1 N1 r e R S1 O1 g1=>⟨_,_,rfl,?_⟩
 dsimp only[XL]at R
 have DD: ∀b∈({A with fs:=fl++[fr]}:MA).bl,b∉L1:=fun b hb hm=>by
  rcases g1 b hm with h|h
  ·exact D b hb h
  ·have:=hlt b hb;omega
 have M1:=M.only O1 (fun b hb hm=>D b hm hb)
 have ok1:=S1.ok
 dsimp only[XL]at ok1
 by_cases he:e=0
 ·subst he
  have E1:Ex N N1:=(mk_node (f:=fo) ok.1 ok1.1 hlo htd llo R).1
  have S1':=sto_XL S1 ok.1 E1
  have RR:=hR N1 r E1 R ok1.1
  rw[show((((0:Nat):Int)) !=(0:Int))=false from rfl,bcase_false]
  unfold F276.wk4
  refine⟨_,_,rfl,?_⟩
  rw[show((((0:Nat):Int))==(0:Int))=true from rfl,bcase_true]
  obtain⟨p0,p1,p3,p4,p5,-⟩:=frame_rd M1.ftop
  refine ldP_of p0 ?_
  rw[ptrK_some]
  simp only[add_mk,Nat.zero_add,Nat.add_zero]
  refine ldP_of (mach_rd M1.own).1 (ldI_of p1 ?_)
  have r3':rd h1 ⟨fr.b,3+Int.toNat (0:Int)*1,none⟩=some (.int .u32 (fr.a0:Int)):=p3
  have r4':rd h1 ⟨fr.b,3+Int.toNat (1:Int)*1,none⟩=some (.int .u32 (fr.a1:Int)):=p4
  have r5':rd h1 ⟨fr.b,3+Int.toNat (2:Int)*1,none⟩=some (.int .u32 (fr.a2:Int)):=p5
  have hr:=S1'.isN_lt RR.is
  refine⟨by omega,by omega,ldI_of r3' ⟨by omega,by omega,ldI_of r4' ⟨by omega,by omega,ldI_of r5' ?_⟩⟩⟩
  refine sto_note (mask:=0) S1' opl (by decide) (nlt ha) (nlt hb) (nlt hc) (by omega) ⟨fr.op,0,fr.a0,fr.a1,fr.a2,r,rfl,rfl,by decide,E1.isN ha,E1.isN hb,E1.isN hc,nlt ha,nlt hb,nlt hc,.inl ⟨by rcases hop with h|h|h|h<;>omega,rfl,RR⟩⟩ fun h2 S2 O2=>⟨rfl,?_⟩
  have M2:=M1.only O2 (fun b hb hm=>DD b hm hb)
  refine ldP_of (frame_rd M2.ftop).1 (tells181 M2 (by omega) fun h3 fp M3 e3 O3=>⟨rfl,?_⟩)
  have nm:A.m∉L1:=DD A.m (by simp[MA.bl])
  refine hT h3 L1 N1 fp r R RR (S2.only O3 fun b hb hm=>by simp only[List.mem_singleton]at hb;subst hb;exact nm hm) M3 e3 ?_ g1
  refine((O1.app O2 g1).mono (T:=L++({A with fs:=fl++[fr]}:MA).bl) fun x hx _=>List.mem_append.2 (.inl hx)).trans O3 fun x hx _=> ?_
  simp only[List.mem_singleton]at hx
  subst hx
  exact List.mem_append.2 (.inr (by simp[MA.bl]))
 ·have hfull:room≤cntN N∧e=60∧N1=N:=by
   rcases R with⟨-,-,h,-⟩|⟨-,_,-,-,h,-⟩|⟨-,-,h1,-,h2,h3⟩|⟨-,-,-,h,-⟩
   ·exact absurd h he
   ·exact absurd h he
   ·exact⟨h1,h2,h3⟩
   ·exact absurd h he
  obtain⟨hf1,rfl,rfl⟩:=hfull
  rw[show((((60:Nat):Int)) !=(0:Int))=true from rfl,bcase_true]
  obtain⟨p0,-⟩:=frame_rd M1.ftop
  refine ldP_of p0 (ldP_of p0 (ldP_of p0 ?_))
  rw[ptrK_some]
  simp only[add_mk,Nat.zero_add,Nat.add_zero]
  refine stK_at M1.own (by simp[cellM]) rfl fun h2 A2 O2 z2=> ?_
  rw[ptrK_some]
  simp only[add_mk,Nat.zero_add,Nat.add_zero]
  refine stK_at A2 (by simp[cellM]) rfl fun h3 A3 O3 z3=> ?_
  rw[ptrK_some]
  simp only[add_mk,Nat.zero_add,Nat.add_zero]
  refine stK_at A3 (by simp[cellM]) rfl fun h4 A4 O4 z4=> ?_
  unfold F276.wk4
  refine⟨_,_,rfl,?_⟩
  rw[show((((60:Nat):Int))==(0:Int))=false from rfl,bcase_false]
  have O14:Only [A.m] h1 h4:=(O2.trans O3 fun b hb _=>hb).trans O4 fun b hb _=>hb
  have nm:A.m∉L1:=DD A.m (by simp[MA.bl])
  refine hE h4 L1 hf1 (S1.only O14 fun b hb hm=>by simp only[List.mem_singleton]at hb;subst hb;exact nm hm) ⟨?_,Win.nil _ _,(fun f hf=>by cases hf),by simp[MA.bl,OwnB]⟩ ?_ g1
  ·have e:(((cellM s {A with fs:=fl++[fr]}).set 4 (.int .i64 ((60:Nat):Int))).set 3 (.bool true)).set 1 (.slice none 0 0)=cellM s {A with fp:=none,fc:=0,fs:=[],done:=true,e:=60}:=by simp[cellM]
   rw[←e]
   exact A4
  ·refine(O1.mono (T:=L++({A with fs:=fl++[fr]}:MA).bl) fun x hx _=>List.mem_append.2 (.inl hx)).trans O14 fun x hx _=> ?_
   simp only[List.mem_singleton]at hx
   subst hx
   exact List.mem_append.2 (.inr (by simp[MA.bl]))
end
end
section
def MRes(n:Nat)(fo:Nat→Nat)(room:Nat)(G:Goal)(N N':List (Option Nd))(A A':MA):Prop:=
 (A'.done=false∧A'.e=0∧A'.fs≠[]∧Runs n fo N' G A'.fs A'.told∧mus n N' A'.fs+1≤mus n N A.fs∧cntN N'+nbs n N' A'.fs≤cntN N+nbs n N A.fs)∨
 (A'.done=true∧A'.e=0∧A'.fs=[]∧OpR n fo N' G.op G.a0 G.a1 G.a2 A'.told∧cntN N'≤cntN N+nbs n N A.fs)∨
 (A'.done=true∧A'.e=60∧A'.fs=[]∧N'=N∧room≤cntN N∧1≤nbs n N A.fs)
theorem mk_cnt{room:Nat}{N N':List (Option Nd)}{l a b r:Nat}(R:MkRel room N l a b N' r 0):cntN N'≤cntN N+1:=by
 rcases R with⟨-,-,-,e⟩|⟨-,_,-,-,-,e⟩|⟨-,-,-,-,e,-⟩|⟨-,-,-,-,q,-,P⟩
 ·rw[e];omega
 ·rw[e];omega
 ·omega
 ·rw[P.cnt];exact Nat.le_refl _
section
variable {h:Heap}{s n room:Nat}{fo gg:Nat→Nat}{off:Bool}{N:List (Option Nd)}{A:MA}{fl:List Fk}{fr:Fk}{K:Value→Heap→Prop}{L:List Nat}{G:Goal}
theorem res_pop{N':List (Option Nd)}{r:Nat}{fp:Option Addr}(ok:NOk n N)(E:Ex N N')(R:Runs n fo N G (fl++[fr]) A.told)(hr:OpR n fo N' fr.op fr.a0 fr.a1 fr.a2 r)(he:A.e=0)(hc:cntN N'≤cntN N+fnb n N fr):
  MRes n fo room G N N' {A with fs:=fl++[fr]} {A with fp:=fp,fs:=fl,told:=r,done:=fl.isEmpty}:=by
 have R':=R.ext ok E
 by_cases hz:fl=[]
 ·subst hz
  refine .inr (.inl ⟨rfl,he,rfl,?_,?_⟩)
  ·exact R'.goal hr
  ·show cntN N'≤cntN N+nbs n N ([]++[fr])
   rw[nbs_app]
   omega
 ·refine .inl ⟨?_,he,hz,R'.pop hr hz,?_,?_⟩
  ·show fl.isEmpty=false
   cases fl with
   |nil=>exact absurd rfl hz
   |cons a l=>rfl
  ·show mus n N' fl+1≤mus n N (fl++[fr])
   rw[mus_app,mus_ext (fo:=fo) E fun f hf=>R.frs f (by simp[hf])]
   have:=fmu_pos (n:=n) (N:=N) (f:=fr)
   omega
  ·show cntN N'+nbs n N' fl≤cntN N+nbs n N (fl++[fr])
   rw[nbs_app,nbs_ext (fo:=fo) E fun f hf=>R.frs f (by simp[hf])]
   omega
theorem next_ok(H:Sto h s L (XL n room fo gg N off))(M:MaIs h s {A with fs:=fl++[fr]})(D: ∀b∈({A with fs:=fl++[fr]}:MA).bl,b∉L)(hl:fl.length<100000)(R:Runs n fo N G (fl++[fr]) A.told)(he:A.e=0)(hd:A.done=false)
  (hK: ∀h' L' N' A',A'.m=A.m→Sto h' s L' (XL n room fo gg N' off)→MaIs h' s A'→(∀b∈A'.bl,b∉L')→Ex N N'→MRes n fo room G N N' {A with fs:=fl++[fr]} A'→A'.fs.length≤fl.length+2→Only (L++({A with fs:=fl++[fr]}:MA).bl) h h'→Fresh L L' h→(∀b∈A'.bl,b∈({A with fs:=fl++[fr]}:MA).bl∨h.size≤b)→K (.tuple #[]) h'):
  dynK Tryz.prog X (goV fr.fn fr.b) [] h K:=by
 have ok:=H.ok
 dsimp only[XL]at ok
 have F:=R.frs fr (by simp)
 obtain⟨a0,a1,a2⟩:=F.a
 have hlt:=M.lt
 have zL:=H.lt
 rcases F.fn with e|⟨e|e,lm,-⟩
 ·unfold goV
  rw[e]
  refine dynK_go go180 (joins180 H M D hl F.op a0 a1 a2 (fun h' fp r OR S' M' ep O=> ?_) fun h' l b fp fc el hln hb S' M' g O=> ?_)
  ·have sub: ∀x∈({A with fp:=fp,fs:=fl,told:=r,done:=fl.isEmpty}:MA).bl,x∈({A with fs:=fl++[fr]}:MA).bl:=fun x hx=>by
    simp only[MA.bl,List.mem_cons,List.mem_append,List.map_append]at hx ⊢
    rw[ep]at hx
    rcases hx with h|h|h
    ·exact .inl h
    ·exact .inr (.inl h)
    ·exact .inr (.inr (.inl h))
   exact hK h' L N {A with fp:=fp,fs:=fl,told:=r,done:=fl.isEmpty} rfl S' M' (fun x hx=>D x (sub x hx)) (Ex.refl _) (res_pop ok.1 (Ex.refl _) R OR he (by omega)) (by show fl.length≤_;omega) O (Fresh.refl _ _) fun x hx=> .inl (sub x hx)
  ·have em:mlv n N fr=l:=by unfold mlv;exact el.symm
   have k0:l≤lvl n N fr.a0:=by omega
   have k1:l≤lvl n N fr.a1:=by omega
   have k2:l≤lvl n N fr.a2:=by omega
   have c0:=ch_is (side:=false) ok.1 a0 k0 hln
   have c1:=ch_is (side:=false) ok.1 a1 k1 hln
   have c2:=ch_is (side:=false) ok.1 a2 k2 hln
   have Fr':FrOk n fo N {fr with level:=l,fn:=225}:=⟨F.op,F.a,.inr ⟨.inl rfl,em.symm,hln⟩,fun e=>by cases e⟩
   have Fg:FrOk n fo N ⟨b,fr.op,0,ch n N l false fr.a0,ch n N l false fr.a1,ch n N l false fr.a2,0,0,180⟩:=⟨F.op,⟨c0.1,c1.1,c2.1⟩,.inl rfl,fun e=>by cases e⟩
   have R':=R.push (fr':={fr with level:=l,fn:=225}) (g:=⟨b,fr.op,0,ch n N l false fr.a0,ch n N l false fr.a1,ch n N l false fr.a2,0,0,180⟩) ⟨rfl,rfl,rfl,rfl⟩ Fr' Fg ⟨rfl,.inl ⟨rfl,rfl,rfl,rfl⟩⟩ rfl
   have mg:l+1≤mlv n N ⟨b,fr.op,0,ch n N l false fr.a0,ch n N l false fr.a1,ch n N l false fr.a2,0,0,180⟩:=by
    unfold mlv
    have:=c0.2
    have:=c1.2
    have:=c2.2
    dsimp only
    omega
   have sp:=mu_split (n:=n) (N:=N) (fr:=fr) (fr':={fr with level:=l,fn:=225}) (g:=⟨b,fr.op,0,ch n N l false fr.a0,ch n N l false fr.a1,ch n N l false fr.a2,0,0,180⟩) (by omega) rfl (by omega) e rfl em.symm
   have sub: ∀x∈({A with fp:=fp,fc:=fc,fs:=fl++[{fr with level:=l,fn:=225}]++[⟨b,fr.op,0,ch n N l false fr.a0,ch n N l false fr.a1,ch n N l false fr.a2,0,0,180⟩]}:MA).bl,x∈({A with fs:=fl++[fr]}:MA).bl∨h.size≤x:=fun x hx=>by
    simp only[MA.bl,List.mem_cons,List.mem_append,List.map_append,List.map_cons,List.map_nil,List.not_mem_nil,or_false]at hx ⊢
    rcases hx with h|h|(h|h)|h
    ·exact .inl (.inl h)
    ·exact(g x h).imp (fun h=> .inr (.inl h)) id
    ·exact .inl (.inr (.inr (.inl h)))
    ·exact .inl (.inr (.inr (.inr h)))
    ·exact .inr (by omega)
   refine hK h' L N {A with fp:=fp,fc:=fc,fs:=fl++[{fr with level:=l,fn:=225}]++[⟨b,fr.op,0,ch n N l false fr.a0,ch n N l false fr.a1,ch n N l false fr.a2,0,0,180⟩]} rfl S' M' (fun x hx hm=> ?_) (Ex.refl _) (.inl ⟨hd,he,by simp,R',?_,?_⟩) (by simp) O (Fresh.refl _ _) sub
   ·rcases sub x hx with h|h
    ·exact D x h hm
    ·have:=zL x hm;omega
   ·dsimp only
    rw[mus_app,mus_app,mus_app]
    omega
   ·dsimp only
    rw[nbs_app,nbs_app,nbs_app]
    omega
 ·obtain⟨l1,l2,l3,l4⟩:=F.lev (.inl e)
  unfold goV
  rw[e]
  have W:OpR n fo N fr.op (ch n N fr.level false fr.a0) (ch n N fr.level false fr.a1) (ch n N fr.level false fr.a2) A.told:=by
   rcases R.top fl fr rfl with h|⟨-,h⟩|⟨h,-⟩
   ·omega
   ·exact h
   ·omega
  refine dynK_go go225 (joinsHigh225 H M D hl a0 a1 a2 fun h' b fp fc hb S' M' g O=> ?_)
  have c0:=ch_is (side:=true) ok.1 a0 l2 l1
  have c1:=ch_is (side:=true) ok.1 a1 l3 l1
  have c2:=ch_is (side:=true) ok.1 a2 l4 l1
  have Fr':FrOk n fo N {fr with low:=A.told,fn:=273}:=⟨F.op,F.a,.inr ⟨.inr rfl,lm,l1⟩,fun _=>W⟩
  have Fg:FrOk n fo N ⟨b,fr.op,0,ch n N fr.level true fr.a0,ch n N fr.level true fr.a1,ch n N fr.level true fr.a2,0,0,180⟩:=⟨F.op,⟨c0.1,c1.1,c2.1⟩,.inl rfl,fun e=>by cases e⟩
  have R':=R.push (fr':={fr with low:=A.told,fn:=273}) (g:=⟨b,fr.op,0,ch n N fr.level true fr.a0,ch n N fr.level true fr.a1,ch n N fr.level true fr.a2,0,0,180⟩) ⟨rfl,rfl,rfl,rfl⟩ Fr' Fg ⟨rfl,.inr ⟨rfl,rfl,rfl,rfl⟩⟩ rfl
  have mg:fr.level+1≤mlv n N ⟨b,fr.op,0,ch n N fr.level true fr.a0,ch n N fr.level true fr.a1,ch n N fr.level true fr.a2,0,0,180⟩:=by
   unfold mlv
   have:=c0.2
   have:=c1.2
   have:=c2.2
   dsimp only
   omega
  have sp:=mu_high (n:=n) (N:=N) (fr:=fr) (fr':={fr with low:=A.told,fn:=273}) (g:=⟨b,fr.op,0,ch n N fr.level true fr.a0,ch n N fr.level true fr.a1,ch n N fr.level true fr.a2,0,0,180⟩) l1 rfl mg e rfl
  have sub: ∀x∈({A with fp:=fp,fc:=fc,fs:=fl++[{fr with low:=A.told,fn:=273}]++[⟨b,fr.op,0,ch n N fr.level true fr.a0,ch n N fr.level true fr.a1,ch n N fr.level true fr.a2,0,0,180⟩]}:MA).bl,x∈({A with fs:=fl++[fr]}:MA).bl∨h.size≤x:=fun x hx=>by
   simp only[MA.bl,List.mem_cons,List.mem_append,List.map_append,List.map_cons,List.map_nil,List.not_mem_nil,or_false]at hx ⊢
   rcases hx with h|h|(h|h)|h
   ·exact .inl (.inl h)
   ·exact(g x h).imp (fun h=> .inr (.inl h)) id
   ·exact .inl (.inr (.inr (.inl h)))
   ·exact .inl (.inr (.inr (.inr h)))
   ·exact .inr (by omega)
  refine hK h' L N {A with fp:=fp,fc:=fc,fs:=fl++[{fr with low:=A.told,fn:=273}]++[⟨b,fr.op,0,ch n N fr.level true fr.a0,ch n N fr.level true fr.a1,ch n N fr.level true fr.a2,0,0,180⟩]} rfl S' M' (fun x hx hm=> ?_) (Ex.refl _) (.inl ⟨hd,he,by simp,R',?_,?_⟩) (by simp) O (Fresh.refl _ _) sub
  ·rcases sub x hx with h|h
   ·exact D x h hm
   ·have:=zL x hm;omega
  ·dsimp only
   rw[mus_app,mus_app,mus_app]
   omega
  ·dsimp only
   rw[nbs_app,nbs_app,nbs_app]
   omega
 ·obtain⟨l1,l2,l3,l4⟩:=F.lev (.inr e)
  unfold goV
  rw[e]
  have W:OpR n fo N fr.op (ch n N fr.level true fr.a0) (ch n N fr.level true fr.a1) (ch n N fr.level true fr.a2) A.told:=by
   rcases R.top fl fr rfl with h|⟨h,-⟩|⟨-,h⟩
   ·omega
   ·omega
   ·exact h
  have V:=F.low e
  have c0:=ch_is (side:=false) ok.1 a0 l2 l1
  have c1:=ch_is (side:=false) ok.1 a1 l3 l1
  have c2:=ch_is (side:=false) ok.1 a2 l4 l1
  have d0:=ch_is (side:=true) ok.1 a0 l2 l1
  have d1:=ch_is (side:=true) ok.1 a1 l3 l1
  have d2:=ch_is (side:=true) ok.1 a2 l4 l1
  have llo:fr.level<lvl n N fr.low:=V.lv (fr.level+1) c0.2 c1.2 c2.2
  have ltd:fr.level<lvl n N A.told:=W.lv (fr.level+1) d0.2 d1.2 d2.2
  have f1:fnb n N fr=1:=(fmu273 e).2
  refine dynK_go go273 (joinsNode273 H M D hl F.op a0 a1 a2 l1 V.is W.is llo ltd (fun N' r E Rk ok'=> ?_) (fun h' L' N' fp r Rk OR S' M' ep O g=> ?_) fun h' L' hf S' M' O g=> ?_)
  ·obtain⟨m1,m2,m3,m4⟩:=mk_node (f:=fo) ok.1 ok' V.is W.is llo Rk
   refine⟨m2,fun k' k1 k2 k3=> ?_,fun x=> ?_⟩
   ·rw[m1.lvl a0]at k1
    rw[m1.lvl a1]at k2
    rw[m1.lvl a2]at k3
    have:k'≤fr.level:=by
     rw[lm]
     unfold mlv
     have:=lvl_le ok.1 a0
     omega
    omega
   ·rw[m4 x,m1.sm ok.1 a0,m1.sm ok.1 a1,m1.sm ok.1 a2,ch_sm ok.1 a0 l1,ch_sm (a:=fr.a1) ok.1 a1 l1,ch_sm (a:=fr.a2) ok.1 a2 l1,V.sm,W.sm]
    split<;>rfl
  ·have E:Ex N N':=by
    have ok':=S'.ok.1
    dsimp only[XL]at ok'
    exact(mk_node (f:=fo) ok.1 ok' V.is W.is llo Rk).1
   have sub: ∀x∈({A with fp:=fp,fs:=fl,told:=r,done:=fl.isEmpty}:MA).bl,x∈({A with fs:=fl++[fr]}:MA).bl:=fun x hx=>by
    simp only[MA.bl,List.mem_cons,List.mem_append,List.map_append]at hx ⊢
    rw[ep]at hx
    rcases hx with h|h|h
    ·exact .inl h
    ·exact .inr (.inl h)
    ·exact .inr (.inr (.inl h))
   refine hK h' L' N' {A with fp:=fp,fs:=fl,told:=r,done:=fl.isEmpty} rfl S' M' (fun x hx hm=> ?_) E (res_pop ok.1 E R OR he (by rw[f1];exact mk_cnt Rk)) (by show fl.length≤_;omega) O g fun x hx=> .inl (sub x hx)
   rcases g x hm with h|h
   ·exact D x (sub x hx) h
   ·have:=hlt x (sub x hx);omega
  ·have sub: ∀x∈({A with fp:=none,fc:=0,fs:=[],done:=true,e:=60}:MA).bl,x∈({A with fs:=fl++[fr]}:MA).bl:=fun x hx=>by
    simp only[MA.bl,OwnB,List.map_nil,List.append_nil,List.mem_singleton]at hx
    simp[MA.bl,hx]
   refine hK h' L' N {A with fp:=none,fc:=0,fs:=[],done:=true,e:=60} rfl S' M' (fun x hx hm=> ?_) (Ex.refl _) (.inr (.inr ⟨rfl,rfl,rfl,rfl,hf,?_⟩)) (by show 0≤_;omega) O g fun x hx=> .inl (sub x hx)
   ·rcases g x hm with h|h
    ·exact D x (sub x hx) h
    ·have:=hlt x (sub x hx);omega
   ·show 1≤nbs n N (fl++[fr])
    rw[nbs_app]
    omega
end
end
section
def MSt(n:Nat)(fo:Nat→Nat)(N:List (Option Nd))(G:Goal)(A:MA):Prop:=
 (A.done=false∧A.e=0∧A.fs≠[]∧Runs n fo N G A.fs A.told)∨(A.done=true∧A.e=0∧A.fs=[]∧OpR n fo N G.op G.a0 G.a1 G.a2 A.told)∨(A.done=true∧A.e=60∧A.fs=[])
theorem len_le_mus{n:Nat}{N:List (Option Nd)}: ∀fs:List Fk,fs.length≤mus n N fs
 | []=>by simp[mus]
 |f::fs=>by
  have ih:=len_le_mus (n:=n) (N:=N) fs
  have:=fmu_pos (n:=n) (N:=N) (f:=f)
  simp only[mus,List.map_cons,List.sum_cons,List.length_cons]at ih ⊢
  omega
section
variable {h:Heap}{s n room:Nat}{fo gg:Nat→Nat}{off:Bool}{N:List (Option Nd)}{A:MA}{K:Value→Heap→Prop}{L:List Nat}{G:Goal}
theorem MSt.run(M:MSt n fo N G A)(h:A.done=false):A.e=0∧A.fs≠[]∧Runs n fo N G A.fs A.told:=by
 rcases M with⟨-,h1⟩|⟨h1,-⟩|⟨h1,-⟩
 ·exact h1
 ·rw[h1]at h;cases h
 ·rw[h1]at h;cases h
theorem sub_trans{B0 B1 B2:List Nat}{z0 z1:Nat}(a: ∀b∈B1,b∈B0∨z0≤b)(b: ∀b∈B2,b∈B1∨z1≤b)(hz:z0≤z1): ∀x∈B2,x∈B0∨z0≤x:=fun x hx=>by
 rcases b x hx with h|h
 ·exact a x h
 ·exact .inr (by omega)
theorem step114(H:Sto h s L (XL n room fo gg N off))(M:MaIs h s A)(D: ∀b∈A.bl,b∉L)(hm:mus n N A.fs≤90000)(R:MSt n fo N G A)(hd:A.done=false)
  (hK: ∀h' L' N' A',A'.m=A.m→Sto h' s L' (XL n room fo gg N' off)→MaIs h' s A'→(∀b∈A'.bl,b∉L')→Ex N N'→MSt n fo N' G A'→mus n N' A'.fs+1≤mus n N A.fs→cntN N'+nbs n N' A'.fs≤cntN N+nbs n N A.fs→(A'.e=60→room+1≤cntN N+nbs n N A.fs)→
   Only (L++A.bl) h h'→Fresh L L' h→(∀b∈A'.bl,b∈A.bl∨h.size≤b)→K (.bool A'.done) h'):
  Cl 114 [ptrV A.m] h K:=by
 refine F114.spec _ h K ?_
 simp only[add_mk,Nat.zero_add]
 refine ldP_of (mach_rd M.own).1 (sto_len H (ldI_of rfl ?_))
 unfold F114.wk2
 have main: ∀(d:Nat) (h1:Heap) (L1:List Nat) (N1:List (Option Nd)) (A1:MA),mus n N1 A1.fs≤d→A1.m=A.m→Sto h1 s L1 (XL n room fo gg N1 off)→MaIs h1 s A1→(∀b∈A1.bl,b∉L1)→Ex N N1→MSt n fo N1 G A1→
   (mus n N1 A1.fs+1≤mus n N A.fs∨(mus n N1 A1.fs≤mus n N A.fs∧cntN N1=cntN N∧A1.done=false))→cntN N1+nbs n N1 A1.fs≤cntN N+nbs n N A.fs→(A1.e=60→room+1≤cntN N+nbs n N A.fs)→
   Only (L++A.bl) h h1→Fresh L L1 h→(∀b∈A1.bl,b∈A.bl∨h.size≤b)→F114.wL2 (d+1) ⟨A.m,0,none⟩ (cntN N:Int) h1 K:=by
  intro d
  induction d with
  |zero=>
   intro h1 L1 N1 A1 hd1 em S1 M1 D1 E1 R1 P1 C1 F1 O1 g1 s1
   have hz:A1.fs=[]:=List.eq_nil_of_length_eq_zero (by have:=len_le_mus (n:=n) (N:=N1) A1.fs;omega)
   have hdn:A1.done=true:=by
    rcases R1 with⟨-,-,h,-⟩|⟨h,-⟩|⟨h,-⟩
    ·exact absurd hz h
    ·exact h
    ·exact h
   have rm:=mach_rd M1.own
   rw[em]at rm
   rw[F114.sL2]
   simp only[add_mk,Nat.zero_add]
   refine ldB_of rm.2.2.2.1 ?_
   rw[hdn,Bool.not_true,bcase_false]
   unfold F114.wk4
   simp only[add_mk,Nat.zero_add]
   refine ldB_of rm.2.2.2.1 (hK h1 L1 N1 A1 em S1 M1 D1 E1 R1 ?_ C1 F1 O1 g1 s1)
   rcases P1 with h|⟨-,-,h⟩
   ·exact h
   ·rw[hdn]at h;cases h
  |succ d ih=>
   intro h1 L1 N1 A1 hd1 em S1 M1 D1 E1 R1 P1 C1 F1 O1 g1 s1
   have rm:=mach_rd M1.own
   rw[em]at rm
   rw[F114.sL2]
   simp only[add_mk,Nat.zero_add]
   refine ldB_of rm.2.2.2.1 (bcase_of (fun hn=> ?_) fun hn=> ?_)
   ·have hn:A1.done=false:=by simpa using hn
    refine ldP_of rm.1 (sto_len S1 (ldI_of rfl ?_))
    dsimp only[XL]
    rw[eq_cast]
    refine bcase_of (fun e=> ?_) fun e=> ?_
    ·have e:=of_decide_eq_true e
     obtain⟨he,hne,RR⟩:=R1.run hn
     obtain⟨fl,fr,hfs⟩: ∃fl fr,A1.fs=fl++[fr]:=⟨A1.fs.dropLast,A1.fs.getLast hne,(List.dropLast_concat_getLast hne).symm⟩
     have eA:A1={A1 with fs:=fl++[fr]}:=by rw[←hfs]
     have hlen:A1.fs.length=fl.length+1:=by rw[hfs];simp
     have hml:A1.fs.length≤mus n N1 A1.fs:=len_le_mus _
     have hmb:mus n N1 A1.fs≤mus n N A.fs:=by omega
     rw[hlen]at rm
     refine ldS_of rm.2.1 (ldS_of rm.2.1 ?_)
     have W:Win h1 0 A1.fp A1.fs.length A1.fc (A1.fs.map fun f=>ptrV f.b):=M1.win
     obtain⟨ad,ep,rr⟩:=W.rd (j:=fl.length) (by simp;omega)
     have e1:IntKind.wrap .i64 (((fl.length+1:Nat):Int)-1)=(fl.length:Int):=by rw[wrap_i64 (by omega) (by omega)];omega
     rw[ep,ptrK_some,e1]
     refine⟨by omega,by omega,?_⟩
     rw[Int.toNat_natCast,Nat.mul_one,rr]
     refine ldP_of (n:=some ⟨fr.b,0,none⟩) (by rw[hfs];simp[ptrV]) ?_
     rw[ptrK_some]
     simp only[add_mk,Nat.zero_add]
     have F1':At h1 fr.b (cellK A1.m fr):=M1.frm fr (by rw[hfs];simp)
     rw[(frame_rd F1').2.2.2.2.2.2.2,ldV_some]
     rw[hfs]at RR
     rw[eA]at M1 D1
     refine next_ok S1 M1 D1 (by omega) RR he hn fun h2 L2 N2 A2 em2 S2 M2 D2 E2 R2 hl2 O2 g2 s2=>⟨rfl,?_⟩
     rw[←eA]at O2 s2 R2
     have hO:Only (L++A.bl) h h2:=O1.trans O2 fun b hb hlt=>by
      rcases List.mem_append.1 hb with h|h
      ·rcases g1 b h with h|h
       ·exact List.mem_append.2 (.inl h)
       ·omega
      ·rcases s1 b h with h|h
       ·exact List.mem_append.2 (.inr h)
       ·omega
     have key:MSt n fo N2 G A2∧mus n N2 A2.fs+1≤mus n N1 A1.fs∧cntN N2+nbs n N2 A2.fs≤cntN N1+nbs n N1 A1.fs∧(A2.e=60→room+1≤cntN N1+nbs n N1 A1.fs):=by
      rcases R2 with⟨q1,q2,q3,q4,q5,q6⟩|⟨q1,q2,q3,q4,q5⟩|⟨q1,q2,q3,q4,q5,q6⟩
      ·exact⟨.inl ⟨q1,q2,q3,q4⟩,q5,q6,fun h=>by omega⟩
      ·refine⟨.inr (.inl ⟨q1,q2,q3,q4⟩),?_,?_,fun h=>by omega⟩
       ·rw[q3];simp[mus];simp[mus]at hml;omega
       ·rw[q3];simpa[nbs]using q5
      ·refine⟨.inr (.inr ⟨q1,q2,q3⟩),?_,?_,fun _=>by omega⟩
       ·rw[q3];simp[mus];simp[mus]at hml;omega
       ·rw[q3,q4];simp[nbs]
     obtain⟨k1,k2,k3,k4⟩:=key
     have hz1:=O1.size
     refine ih h2 L2 N2 A2 (by omega) (em2.trans em) S2 M2 D2 (E1.trans E2) k1 (.inl (by omega)) (by omega) (fun h=>by have:=k4 h;omega) hO (g1.trans g2 hz1) (sub_trans s1 s2 hz1)
    ·have e:=of_decide_eq_false e
     unfold F114.wk4
     simp only[add_mk,Nat.zero_add]
     refine ldB_of rm.2.2.2.1 (hK h1 L1 N1 A1 em S1 M1 D1 E1 R1 ?_ C1 F1 O1 g1 s1)
     rcases P1 with h|⟨-,h,-⟩
     ·exact h
     ·exact absurd h e
   ·have hn:A1.done=true:=by simpa using hn
    unfold F114.wk4
    simp only[add_mk,Nat.zero_add]
    refine ldB_of rm.2.2.2.1 (hK h1 L1 N1 A1 em S1 M1 D1 E1 R1 ?_ C1 F1 O1 g1 s1)
    rcases P1 with h|⟨-,-,h⟩
    ·exact h
    ·rw[hn]at h;cases h
 refine⟨_,main (mus n N A.fs) h L N A (Nat.le_refl _) rfl H M D (Ex.refl _) R (.inr ⟨Nat.le_refl _,rfl,hd⟩) (Nat.le_refl _) (fun h=> ?_) (Only.refl _ _) (Fresh.refl _ _) fun b hb=> .inl hb⟩
 have:=(R.run hd).1
 omega
theorem result94(M:MaIs h s A)(hK:K (.tuple #[.int .u32 (if A.done=true∧A.e=0 then(A.told:Int)else 0),.int .i64 (if A.done=true then(A.e:Int)else 61)]) h):Cl 94 [ptrV A.m] h K:=by
 refine F94.spec _ h K ?_
 simp only[add_mk,Nat.zero_add]
 have rm:=mach_rd M.own
 refine ldB_of rm.2.2.2.1 (bcase_of (fun e=> ?_) fun e=>ldI_of rm.2.2.2.2 ?_)
 ·have e:A.done=false:=by simpa using e
  rw[if_neg (by rw[e];simp),if_neg (by rw[e];simp)]at hK
  exact hK
 ·have e:A.done=true:=by simpa using e
  rw[show((A.e:Int) !=(0:Int))= !decide (A.e=0) by rw[show(0:Int)=((0:Nat):Int)from rfl,←eq_cast];rfl]
  by_cases h0:A.e=0
  ·rw[decide_eq_true h0,Bool.not_true,bcase_false]
   rw[if_pos ⟨e,h0⟩,if_pos e,h0]at hK
   exact ldI_of rm.2.2.1 hK
  ·rw[decide_eq_false h0,Bool.not_false,bcase_true]
   rw[if_neg (fun h=>h0 h.2),if_pos e]at hK
   exact ldI_of rm.2.2.2.2 hK
end
end
section
def takesZ(x:Int):Int:=if x=1∨x=6∨x=7 then 1 else if x=2∨x=3∨x=4∨x=8∨x=9∨x=10 then 2 else if x=5 then 3 else 0
theorem eqz{x y:Int}(h:x≠y):(x==y)=false:=by simp[h]
theorem takes134{h:Heap}{x:Int}{K:Value→Heap→Prop}(hK:K (.int .i64 (takesZ x)) h):Cl 134 [.int .i64 x] h K:=by
 refine F134.spec _ h K ?_
 unfold takesZ at hK
 by_cases h1:x=1
 ·subst h1;exact hK
 by_cases h2:x=2
 ·subst h2;exact hK
 by_cases h3:x=3
 ·subst h3;exact hK
 by_cases h4:x=4
 ·subst h4;exact hK
 by_cases h5:x=5
 ·subst h5;exact hK
 by_cases h6:x=6
 ·subst h6;exact hK
 by_cases h7:x=7
 ·subst h7;exact hK
 by_cases h8:x=8
 ·subst h8;exact hK
 by_cases h9:x=9
 ·subst h9;exact hK
 by_cases h10:x=10
 ·subst h10;exact hK
 rw[if_neg (by omega),if_neg (by omega),if_neg h5]at hK
 simp only[eqz h1,eqz h2,eqz h3,eqz h4,eqz h5,eqz h6,eqz h7,eqz h8,eqz h9,eqz h10,bcase_false]
 exact hK
def jobV(op:Int)(a b c:Nat)(mask:Int):Value:= .agg #[.int .i64 op,.int .u32 (a:Int),.int .u32 (b:Int),.int .u32 (c:Int),.int .u8 mask]
section
variable {h:Heap}{s n room a b c op:Nat}{mask:Int}{fo gg:Nat→Nat}{off:Bool}{N:List (Option Nd)}{K:Value→Heap→Prop}{L:List Nat}{X:SX}
theorem refuses_none{x:Int}(hx:takesZ x=0)(hK: ∀h',Only [] h h'→K (.int .i64 200) h'):Cl 133 [ptrV s,jobV x a b c mask] h K:=by
 refine F133.spec _ _ _ _ _ _ h K ?_
 refine newK_at fun h1 A1 O1 z1=> ?_
 simp only[add_mk,Nat.zero_add]
 refine ldI_of (n:=x) (by rw[At.rd A1];rfl) (takes134 (ldI_of rfl ?_))
 rw[hx]
 exact hK h1 O1
theorem new91_none{x:Int}(hx:takesZ x=0)(hK: ∀h',Only [] h h'→K (.tuple #[.pointer none,.int .i64 200]) h'):Cl 91 [ptrV s,jobV x a b c mask] h K:=by
 refine F91.spec _ _ _ _ _ _ h K ?_
 refine newK_at fun h1 A1 O1 z1=> ?_
 simp only[add_mk,Nat.zero_add]
 have r: ∀k,rd h1 ⟨h.size,k,none⟩=([.int .i64 x,.int .u32 (a:Int),.int .u32 (b:Int),.int .u32 (c:Int),.int .u8 mask]:List Value)[k]? :=fun k=>At.rd A1 k
 refine ldI_of (by rw[r];rfl) (ldI_of (by rw[r];rfl) (ldI_of (by rw[r];rfl) (ldI_of (by rw[r];rfl) (ldI_of (by rw[r];rfl) ?_))))
 refine refuses_none (s:=s) hx fun h2 O2=>ldI_of rfl ?_
 rw[show((200:Int) !=(0:Int))=true from rfl,bcase_true]
 exact hK h2 (O1.trans O2 (by simp))
end
end
section
theorem F88.spec(c:Addr)(a b:Int)(h:Heap)(K:KK)(H:bcase (decide (a<(0:Int))) (K (.tuple #[.pointer none,.int .i64 61]) h) (bcase (decide (b<(1:Int))) (K (.tuple #[.pointer none,.int .i64 61]) h) (bcase (decide (b>(256:Int))) (K (.tuple #[.pointer none,.int .i64 61]) h) (Cl 132 [.pointer (some c)] h fun v1 h2=>ldI .i64 (some v1) fun n3=>bcase (decide (a>n3)) (K (.tuple #[.pointer none,.int .i64 61]) h2) (Cl 90 [.int .i64 b] h2 fun v4 h5=>ldI .i64 (some v4) fun n6=>Cl 132 [.pointer (some c)] h5 fun v7 h8=>ldI .i64 (some v7) fun n9=>bcase (decide (n6>(IntKind.wrap .i64 (n9-a)))) (K (.tuple #[.pointer none,.int .i64 61]) h8) (newK h8 (.cells #[.pointer (some c),.int .i64 a,.int .i64 b] 216) fun b10 h11=>K (.tuple #[.pointer (some (Addr.mk b10 0 none)),.int .i64 0]) h11)))))):Cl 88 [.pointer (some c),.int .i64 a,.int .i64 b] h K:=cN Tryz.func88 H
theorem F90.spec(a:Int)(h:Heap)(K:KK)(H:bcase (decide (a<(1:Int))) (K (.int .i64 0) h) (K (.int .i64 (IntKind.wrap .i64 (a+(2:Int)))) h)):Cl 90 [.int .i64 a] h K:=cN Tryz.func90 H
theorem F193.spec(a b:Addr)(h:Heap)(K:KK)(H:ldV (rd h a) fun v1=>ldP (rd h b) fun p2=>dynK Tryz.prog X v1 [.pointer p2] h fun v3 h4=>v3=(.tuple #[])∧K (.tuple #[]) h4):Cl 193 [.pointer (some a),.pointer (some b)] h K:=cN Tryz.func193 H
def F194.T:Hint:=⟨[],[(1,[[(0,[]),(1,[]),(2,[]),(3,[]),(4,[]),(5,[]),(6,[]),(7,[]),(8,[]),(9,[]),(10,[]),(11,[]),(12,[])]])]⟩
theorem F194.spec(a:Addr)(b:Int)(h:Heap)(K:KK)(H:ldP (rd h (a.add 0)) fun p1=>ldI .i64 (rd h (a.add 1)) fun n2=>Cl 162 [.pointer p1,.int .i64 (IntKind.wrap .i64 (n2+b))] h fun v3 h4=>ldI .u64 (some v3) fun n5=>K (.int .i64 (IntKind.wrap .i64 n5)) h4):Cl 194 [.pointer (some a),.int .i64 b] h K:=cT F194.T Tryz.func194 H
theorem F143.spec(a:Addr)(h:Heap)(K:KK)(H:ldP (rd h (a.add 0)) fun p1=>Cl 194 [.pointer p1,.int .i64 1] h fun v2 h3=>ldI .i64 (some v2) fun n4=>stK h3 ((a.add 3).add 0) (.int .i64 n4) fun h5=>stK h5 ((a.add 4).add 0) (.func (.func 195) #[.pointer (some a)] #[]) fun h6=>K (.tuple #[]) h6):Cl 143 [.pointer (some a)] h K:=cN Tryz.func143 H
def F195.T:Hint:=⟨[],[(2,[[(0,[]),(1,[]),(2,[]),(3,[]),(4,[]),(5,[]),(6,[]),(7,[]),(8,[]),(9,[]),(10,[]),(11,[]),(12,[]),(13,[]),(14,[]),(15,[]),(16,[])]])]⟩
theorem F195.spec(a:Addr)(h:Heap)(K:KK)(H:ldP (rd h (a.add 0)) fun p1=>Cl 194 [.pointer p1,.int .i64 0] h fun v2 h3=>ldI .i64 (some v2) fun n4=>stK h3 ((a.add 2).add 0) (.int .i64 n4) fun h5=>stK h5 ((a.add 4).add 0) (.func (.func 239) #[.pointer (some a)] #[]) fun h6=>ldI .i64 (rd h6 (a.add 3)) fun n7=>ldI .i64 (rd h6 (a.add 2)) fun n8=>ldP (rd h6 (a.add 0)) fun p9=>ptrK p9 fun a10=>ldI .i64 (rd h6 (a10.add 2)) fun n11=>bcase (decide ((IntKind.wrap .i64 (n7-n8))≥n11)) (Cl 240 [.pointer (some a),.bool false] h6 fun v12 h13=>v12=(.tuple #[])∧K (.tuple #[]) h13) (K (.tuple #[]) h6)):Cl 195 [.pointer (some a)] h K:=cT F195.T Tryz.func195 H
def F239.T:Hint:=⟨[],[(0,[[(0,[]),(1,[]),(2,[]),(3,[]),(4,[]),(5,[]),(6,[]),(7,[]),(8,[]),(9,[]),(10,[]),(11,[]),(12,[]),(13,[]),(14,[]),(16,[]),(17,[]),(18,[]),(19,[]),(15,[0,1,2,3,4,5,6,16,17,18,19]),(20,[])]])]⟩
theorem F239.spec(a:Addr)(h:Heap)(K:KK)(H:ldP (rd h (a.add 0)) fun p1=>ptrK p1 fun a2=>ldP (rd h (a2.add 0)) fun p3=>ldP (rd h (a.add 0)) fun p4=>ldI .i64 (rd h (a.add 3)) fun n5=>ldI .u64 (rd h (a.add 1)) fun n6=>Cl 283 [.pointer p4,.int .i64 n5] h fun v7 h8=>ldI .i64 (some v7) fun n9=>((.pointer (some a))=((.pointer (some a)):Value)∧((.pointer (some a))=((.pointer (some a)):Value)∧((.pointer (some (a.add 0)))=((.pointer (some (a.add 0))):Value)∧ldP (rd h8 (a.add 0)) fun p10=>((.pointer p10)=((.pointer p1):Value)∧ptrK p1 fun a11=>((.pointer (some a11))=((.pointer (some a2)):Value)∧((.pointer (some (a2.add 0)))=((.pointer (some (a2.add 0))):Value)∧ldP (rd h8 (a2.add 0)) fun p12=>((.pointer p12)=((.pointer p3):Value)∧((.pointer (some a))=((.pointer (some a)):Value)∧((.pointer (some a))=((.pointer (some a)):Value)∧((.pointer (some (a.add 1)))=((.pointer (some (a.add 1))):Value)∧ldI .u64 (rd h8 (a.add 1)) fun n13=>((.int .u64 n13)=((.int .u64 n6):Value)∧Cl 282 [.pointer p3,.int .i64 n9,.int .u64 n6] h8 fun v14 h15=>v14=(.tuple #[])∧stK h15 ((a.add 4).add 0) (.func (.func 284) #[.pointer (some a)] #[]) fun h16=>K (.tuple #[]) h16)))))))))))):Cl 239 [.pointer (some a)] h K:=cT F239.T Tryz.func239 H
theorem F240.spec(a:Addr)(b:Bool)(h:Heap)(K:KK)(H:stK h ((a.add 5).add 0) (.bool true) fun h1=>stK h1 ((a.add 6).add 0) (.bool b) fun h2=>K (.tuple #[]) h2):Cl 240 [.pointer (some a),.bool b] h K:=cN Tryz.func240 H
def F284.T:Hint:=⟨[],[(0,[[(0,[]),(1,[]),(2,[]),(3,[]),(4,[]),(5,[]),(6,[]),(7,[]),(8,[]),(9,[]),(10,[]),(11,[]),(12,[]),(13,[]),(14,[]),(15,[]),(16,[]),(17,[]),(18,[]),(19,[]),(20,[]),(21,[])]])]⟩
theorem F284.spec(a:Addr)(h:Heap)(K:KK)(H:ldP (rd h (a.add 0)) fun p1=>ptrK p1 fun a2=>ldP (rd h (a2.add 0)) fun p3=>ldP (rd h (a.add 0)) fun p4=>ptrK p4 fun a5=>ldI .i64 (rd h (a5.add 1)) fun n6=>ldI .i64 (rd h (a.add 3)) fun n7=>Cl 282 [.pointer p3,.int .i64 (IntKind.wrap .i64 (n6+(1:Int))),.int .u64 (IntKind.wrap .u64 (IntKind.wrap .i64 (n7+(1:Int))))] h fun v8 h9=>v8=(.tuple #[])∧Cl 240 [.pointer (some a),.bool true] h9 fun v10 h11=>v10=(.tuple #[])∧K (.tuple #[]) h11):Cl 284 [.pointer (some a)] h K:=cT F284.T Tryz.func284 H
theorem F220.spec(a:Addr)(h:Heap)(K:KK)(H:ldP (rd h (a.add 0)) fun p1=>Cl 194 [.pointer p1,.int .i64 1] h fun v2 h3=>ldI .i64 (some v2) fun n4=>stK h3 ((a.add 3).add 0) (.int .i64 (IntKind.wrap .i64 (n4-(1:Int)))) fun h5=>stK h5 ((a.add 4).add 0) (.func (.func 269) #[.pointer (some a)] #[]) fun h6=>K (.tuple #[]) h6):Cl 220 [.pointer (some a)] h K:=cN Tryz.func220 H
def F269.T:Hint:=⟨[],[(0,[[(0,[]),(1,[]),(2,[]),(3,[]),(4,[]),(5,[]),(6,[]),(7,[]),(8,[]),(9,[]),(10,[]),(11,[]),(12,[]),(13,[]),(14,[]),(15,[]),(16,[]),(17,[]),(18,[]),(19,[]),(20,[])]])]⟩
theorem F269.spec(a:Addr)(h:Heap)(K:KK)(H:ldP (rd h (a.add 0)) fun p1=>ptrK p1 fun a2=>ldP (rd h (a2.add 0)) fun p3=>ldP (rd h (a.add 0)) fun p4=>ptrK p4 fun a5=>ldI .i64 (rd h (a5.add 1)) fun n6=>ldI .i64 (rd h (a.add 3)) fun n7=>Cl 282 [.pointer p3,.int .i64 (IntKind.wrap .i64 (n6+(1:Int))),.int .u64 (IntKind.wrap .u64 n7)] h fun v8 h9=>v8=(.tuple #[])∧stK h9 ((a.add 4).add 0) (.func (.func 300) #[.pointer (some a)] #[]) fun h10=>K (.tuple #[]) h10):Cl 269 [.pointer (some a)] h K:=cT F269.T Tryz.func269 H
def F300.T:Hint:=⟨[],[(2,[[(0,[]),(1,[]),(2,[]),(3,[]),(4,[]),(5,[]),(6,[]),(7,[]),(8,[])]])]⟩
theorem F300.spec(a:Addr)(h:Heap)(K:KK)(H:ldP (rd h (a.add 0)) fun p1=>Cl 194 [.pointer p1,.int .i64 0] h fun v2 h3=>ldI .i64 (some v2) fun n4=>stK h3 ((a.add 2).add 0) (.int .i64 n4) fun h5=>stK h5 ((a.add 4).add 0) (.func (.func 333) #[.pointer (some a)] #[]) fun h6=>ldI .i64 (rd h6 (a.add 2)) fun n7=>ldI .i64 (rd h6 (a.add 3)) fun n8=>bcase (decide (n7>n8)) (stK h6 ((a.add 4).add 0) (.func (.func 334) #[.pointer (some a)] #[]) fun h9=>K (.tuple #[]) h9) (K (.tuple #[]) h6)):Cl 300 [.pointer (some a)] h K:=cT F300.T Tryz.func300 H
def F333.T:Hint:=⟨[],[(0,[[(0,[]),(1,[]),(2,[]),(3,[]),(4,[]),(5,[]),(6,[]),(7,[]),(8,[]),(9,[]),(10,[]),(11,[]),(12,[]),(13,[]),(14,[]),(15,[]),(16,[0,1,2,3,4,5,6,7]),(17,[0]),(18,[]),(19,[]),(20,[])]]),(1,[[(0,[]),(1,[]),(2,[]),(3,[]),(4,[]),(5,[]),(6,[]),(7,[]),(8,[])]])]⟩
theorem F333.spec(a:Addr)(h:Heap)(K:KK)(H:ldP (rd h (a.add 0)) fun p1=>ptrK p1 fun a2=>ldP (rd h (a2.add 0)) fun p3=>ldP (rd h (a.add 0)) fun p4=>ldI .i64 (rd h (a.add 3)) fun n5=>Cl 283 [.pointer p4,.int .i64 n5] h fun v6 h7=>ldI .i64 (some v6) fun n8=>((.pointer (some a))=((.pointer (some a)):Value)∧((.pointer (some a))=((.pointer (some a)):Value)∧((.pointer (some a))=((.pointer (some a)):Value)∧((.pointer (some (a.add 0)))=((.pointer (some (a.add 0))):Value)∧ldP (rd h7 (a.add 0)) fun p9=>((.pointer p9)=((.pointer p1):Value)∧ptrK p1 fun a10=>((.pointer (some a10))=((.pointer (some a2)):Value)∧((.pointer (some (a2.add 0)))=((.pointer (some (a2.add 0))):Value)∧ldP (rd h7 (a2.add 0)) fun p11=>((.pointer p11)=((.pointer p3):Value)∧Cl 162 [.pointer p3,.int .i64 n8] h7 fun v12 h13=>ldI .u64 (some v12) fun n14=>((.pointer (some a))=((.pointer (some a)):Value)∧stK h13 ((a.add 1).add 0) (.int .u64 n14) fun h15=>ldI .i64 (rd h15 (a.add 2)) fun n16=>ldI .i64 (rd h15 (a.add 3)) fun n17=>bcase (decide (n16<n17)) (Cl 240 [.pointer (some a),.bool true] h15 fun v18 h19=>v18=(.tuple #[])∧K (.tuple #[]) h19) (stK h15 ((a.add 4).add 0) (.func (.func 353) #[.pointer (some a)] #[]) fun h20=>K (.tuple #[]) h20))))))))))):Cl 333 [.pointer (some a)] h K:=cT F333.T Tryz.func333 H
def F353.T:Hint:=⟨[],[(0,[[(0,[]),(1,[]),(2,[]),(3,[]),(4,[]),(5,[]),(6,[]),(7,[]),(8,[]),(9,[]),(10,[]),(11,[]),(12,[]),(13,[]),(14,[]),(15,[]),(16,[]),(17,[]),(18,[]),(19,[]),(20,[]),(21,[]),(22,[]),(23,[]),(24,[]),(25,[]),(26,[]),(27,[0]),(28,[]),(29,[]),(30,[])]])]⟩
theorem F353.spec(a:Addr)(h:Heap)(K:KK)(H:ldP (rd h (a.add 0)) fun p1=>ptrK p1 fun a2=>ldP (rd h (a2.add 0)) fun p3=>ldP (rd h (a.add 0)) fun p4=>ptrK p4 fun a5=>ldI .i64 (rd h (a5.add 1)) fun n6=>ldI .i64 (rd h (a.add 2)) fun n7=>ldI .i64 (rd h (a.add 2)) fun n8=>Cl 163 [.pointer p3,.int .i64 (IntKind.wrap .i64 (n6+(0:Int))),.int .u64 (IntKind.wrap .u64 n7),.int .u64 (IntKind.wrap .u64 (IntKind.wrap .i64 (n8+(1:Int))))] h fun v9 h10=>ldB (some v9) fun b11=>((.pointer (some a))=((.pointer (some a)):Value)∧stK h10 ((a.add 6).add 0) (.bool b11) fun h12=>stK h12 ((a.add 4).add 0) (.func (.func 354) #[.pointer (some a)] #[]) fun h13=>K (.tuple #[]) h13)):Cl 353 [.pointer (some a)] h K:=cT F353.T Tryz.func353 H
theorem F334.spec(a:Addr)(h:Heap)(K:KK)(H:stK h ((a.add 6).add 0) (.bool false) fun h1=>Cl 354 [.pointer (some a)] h1 fun v2 h3=>v2=(.tuple #[])∧K (.tuple #[]) h3):Cl 334 [.pointer (some a)] h K:=cN Tryz.func334 H
def F354.T:Hint:=⟨[],[(0,[[(0,[]),(1,[]),(2,[]),(3,[]),(4,[]),(5,[]),(6,[]),(7,[]),(8,[]),(9,[]),(10,[]),(11,[]),(12,[]),(13,[]),(14,[]),(15,[]),(16,[]),(17,[]),(18,[]),(19,[]),(20,[]),(21,[])]])]⟩
theorem F354.spec(a:Addr)(h:Heap)(K:KK)(H:ldP (rd h (a.add 0)) fun p1=>ptrK p1 fun a2=>ldP (rd h (a2.add 0)) fun p3=>ldP (rd h (a.add 0)) fun p4=>ptrK p4 fun a5=>ldI .i64 (rd h (a5.add 1)) fun n6=>ldI .i64 (rd h (a.add 3)) fun n7=>Cl 282 [.pointer p3,.int .i64 (IntKind.wrap .i64 (n6+(1:Int))),.int .u64 (IntKind.wrap .u64 (IntKind.wrap .i64 (n7+(1:Int))))] h fun v8 h9=>v8=(.tuple #[])∧ldB (rd h9 (a.add 6)) fun b10=>Cl 240 [.pointer (some a),.bool b10] h9 fun v11 h12=>v11=(.tuple #[])∧K (.tuple #[]) h12):Cl 354 [.pointer (some a)] h K:=cT F354.T Tryz.func354 H
theorem F221.spec(a:Addr)(h:Heap)(K:KK)(H:ldP (rd h (a.add 0)) fun p1=>Cl 194 [.pointer p1,.int .i64 0] h fun v2 h3=>ldI .i64 (some v2) fun n4=>stK h3 ((a.add 2).add 0) (.int .i64 n4) fun h5=>stK h5 ((a.add 4).add 0) (.func (.func 270) #[.pointer (some a)] #[]) fun h6=>K (.tuple #[]) h6):Cl 221 [.pointer (some a)] h K:=cN Tryz.func221 H
def F270.T:Hint:=⟨[],[(2,[[(0,[]),(1,[]),(2,[]),(3,[]),(4,[]),(5,[]),(6,[]),(7,[]),(8,[])]])]⟩
theorem F270.spec(a:Addr)(h:Heap)(K:KK)(H:ldP (rd h (a.add 0)) fun p1=>Cl 194 [.pointer p1,.int .i64 1] h fun v2 h3=>ldI .i64 (some v2) fun n4=>stK h3 ((a.add 3).add 0) (.int .i64 n4) fun h5=>stK h5 ((a.add 4).add 0) (.func (.func 301) #[.pointer (some a)] #[]) fun h6=>ldI .i64 (rd h6 (a.add 2)) fun n7=>ldI .i64 (rd h6 (a.add 3)) fun n8=>bcase (decide (n7≥n8)) (Cl 240 [.pointer (some a),.bool false] h6 fun v9 h10=>v9=(.tuple #[])∧K (.tuple #[]) h10) (K (.tuple #[]) h6)):Cl 270 [.pointer (some a)] h K:=cT F270.T Tryz.func270 H
def F301.T:Hint:=⟨[],[(0,[[(0,[]),(1,[]),(2,[]),(3,[]),(4,[]),(5,[]),(6,[]),(7,[]),(8,[]),(9,[]),(10,[]),(11,[]),(12,[]),(13,[]),(14,[]),(15,[]),(16,[0,1,2,3,4,5,6,7]),(17,[0]),(18,[]),(19,[]),(20,[])]])]⟩
theorem F301.spec(a:Addr)(h:Heap)(K:KK)(H:ldP (rd h (a.add 0)) fun p1=>ptrK p1 fun a2=>ldP (rd h (a2.add 0)) fun p3=>ldP (rd h (a.add 0)) fun p4=>ldI .i64 (rd h (a.add 2)) fun n5=>Cl 283 [.pointer p4,.int .i64 n5] h fun v6 h7=>ldI .i64 (some v6) fun n8=>((.pointer (some a))=((.pointer (some a)):Value)∧((.pointer (some a))=((.pointer (some a)):Value)∧((.pointer (some a))=((.pointer (some a)):Value)∧((.pointer (some (a.add 0)))=((.pointer (some (a.add 0))):Value)∧ldP (rd h7 (a.add 0)) fun p9=>((.pointer p9)=((.pointer p1):Value)∧ptrK p1 fun a10=>((.pointer (some a10))=((.pointer (some a2)):Value)∧((.pointer (some (a2.add 0)))=((.pointer (some (a2.add 0))):Value)∧ldP (rd h7 (a2.add 0)) fun p11=>((.pointer p11)=((.pointer p3):Value)∧Cl 162 [.pointer p3,.int .i64 n8] h7 fun v12 h13=>ldI .u64 (some v12) fun n14=>((.pointer (some a))=((.pointer (some a)):Value)∧stK h13 ((a.add 1).add 0) (.int .u64 n14) fun h15=>stK h15 ((a.add 4).add 0) (.func (.func 335) #[.pointer (some a)] #[]) fun h16=>K (.tuple #[]) h16)))))))))):Cl 301 [.pointer (some a)] h K:=cT F301.T Tryz.func301 H
def F335.T:Hint:=⟨[],[(0,[[(0,[]),(1,[]),(2,[]),(3,[]),(4,[]),(5,[]),(6,[]),(7,[]),(8,[]),(9,[]),(10,[]),(11,[]),(12,[]),(13,[]),(14,[]),(15,[]),(16,[]),(17,[]),(18,[]),(19,[]),(20,[]),(21,[]),(22,[]),(23,[]),(24,[]),(25,[]),(26,[]),(27,[0]),(28,[])]])]⟩
theorem F335.spec(a:Addr)(h:Heap)(K:KK)(H:ldP (rd h (a.add 0)) fun p1=>ptrK p1 fun a2=>ldP (rd h (a2.add 0)) fun p3=>ldP (rd h (a.add 0)) fun p4=>ptrK p4 fun a5=>ldI .i64 (rd h (a5.add 1)) fun n6=>ldI .i64 (rd h (a.add 2)) fun n7=>ldI .i64 (rd h (a.add 2)) fun n8=>Cl 163 [.pointer p3,.int .i64 (IntKind.wrap .i64 (n6+(0:Int))),.int .u64 (IntKind.wrap .u64 n7),.int .u64 (IntKind.wrap .u64 (IntKind.wrap .i64 (n8+(1:Int))))] h fun v9 h10=>ldB (some v9) fun b11=>((.pointer (some a))=((.pointer (some a)):Value)∧Cl 240 [.pointer (some a),.bool b11] h10 fun v12 h13=>v12=(.tuple #[])∧K (.tuple #[]) h13)):Cl 335 [.pointer (some a)] h K:=cT F335.T Tryz.func335 H
def F140.T:Hint:=⟨[(3,[0])],[]⟩
section
variable (a:Addr)(h:Heap)(K:KK)
def F140.wk3:Prop:=ldB (rd h (a.add 5)) fun b1=>K (.bool b1) h
theorem F140.spec(a:Addr)(h:Heap)(K:KK)(H:ldB (rd h (a.add 5)) fun b1=>bcase (!b1) (ldV (rd h (a.add 4)) fun v2=>dynK Tryz.prog X v2 [] h fun v3 h4=>v3=(.tuple #[])∧F140.wk3 a h4 K) (F140.wk3 a h K)):Cl 140 [.pointer (some a)] h K:=cT F140.T Tryz.func140 H
end
theorem F141.spec(a:Addr)(h:Heap)(K:KK)(H:ldB (rd h (a.add 5)) fun b1=>bcase (!b1) (K (.tuple #[.int .u64 0,.bool false]) h) (ldB (rd h (a.add 6)) fun b2=>bcase (!b2) (K (.tuple #[.int .u64 0,.bool false]) h) (ldI .u64 (rd h (a.add 1)) fun n3=>K (.tuple #[.int .u64 n3,.bool true]) h))):Cl 141 [.pointer (some a)] h K:=cN Tryz.func141 H
def F283.T:Hint:=⟨[],[(1,[[(0,[]),(1,[]),(2,[]),(3,[]),(4,[]),(5,[]),(6,[]),(7,[]),(8,[]),(9,[]),(10,[]),(11,[]),(12,[])]])]⟩
theorem F283.spec(a:Addr)(b:Int)(h:Heap)(K:KK)(H:ldI .i64 (rd h (a.add 1)) fun n1=>ldI .i64 (rd h (a.add 2)) fun n2=>(n2≠0∧K (.int .i64 (IntKind.wrap .i64 ((IntKind.wrap .i64 (n1+(2:Int)))+(Int.tmod b n2)))) h)):Cl 283 [.pointer (some a),.int .i64 b] h K:=cT F283.T Tryz.func283 H
end
namespace A40
theorem F142.spec(a:Addr)(b:Int)(h:Heap)(K:KK)(H:newK h (.cells #[.func (.func 143) #[] #[]] 235) fun b1 h2=>newK h2 (.cells #[.pointer (some a),.int .u64 b,.int .i64 0,.int .i64 0,.nilFunc,.bool false,.bool false] 272) fun b3 h4=>newK h4 (.cells #[.pointer none] 172) fun b5 h6=>stK h6 ((Addr.mk b5 0 none).add 0) (.pointer (some (Addr.mk b3 0 none))) fun h7=>ldP (rd h7 (Addr.mk b5 0 none)) fun p8=>ptrK p8 fun a9=>stK h7 ((a9.add 4).add 0) (.func (.func 193) #[] #[.pointer (some (Addr.mk b1 0 none)),.pointer (some (Addr.mk b5 0 none))]) fun h10=>ldP (rd h10 (Addr.mk b5 0 none)) fun p11=>K (.pointer p11) h10):Cl 142 [.pointer (some a),.int .u64 b,.func (.func 143) #[] #[]] h K:=cN Tryz.func142 H
end A40
namespace A41
theorem F142.spec(a:Addr)(b:Int)(h:Heap)(K:KK)(H:newK h (.cells #[.func (.func 220) #[] #[]] 235) fun b1 h2=>newK h2 (.cells #[.pointer (some a),.int .u64 b,.int .i64 0,.int .i64 0,.nilFunc,.bool false,.bool false] 272) fun b3 h4=>newK h4 (.cells #[.pointer none] 172) fun b5 h6=>stK h6 ((Addr.mk b5 0 none).add 0) (.pointer (some (Addr.mk b3 0 none))) fun h7=>ldP (rd h7 (Addr.mk b5 0 none)) fun p8=>ptrK p8 fun a9=>stK h7 ((a9.add 4).add 0) (.func (.func 193) #[] #[.pointer (some (Addr.mk b1 0 none)),.pointer (some (Addr.mk b5 0 none))]) fun h10=>ldP (rd h10 (Addr.mk b5 0 none)) fun p11=>K (.pointer p11) h10):Cl 142 [.pointer (some a),.int .u64 b,.func (.func 220) #[] #[]] h K:=cN Tryz.func142 H
end A41
namespace A42
theorem F142.spec(a:Addr)(b:Int)(h:Heap)(K:KK)(H:newK h (.cells #[.func (.func 221) #[] #[]] 235) fun b1 h2=>newK h2 (.cells #[.pointer (some a),.int .u64 b,.int .i64 0,.int .i64 0,.nilFunc,.bool false,.bool false] 272) fun b3 h4=>newK h4 (.cells #[.pointer none] 172) fun b5 h6=>stK h6 ((Addr.mk b5 0 none).add 0) (.pointer (some (Addr.mk b3 0 none))) fun h7=>ldP (rd h7 (Addr.mk b5 0 none)) fun p8=>ptrK p8 fun a9=>stK h7 ((a9.add 4).add 0) (.func (.func 193) #[] #[.pointer (some (Addr.mk b1 0 none)),.pointer (some (Addr.mk b5 0 none))]) fun h10=>ldP (rd h10 (Addr.mk b5 0 none)) fun p11=>K (.pointer p11) h10):Cl 142 [.pointer (some a),.int .u64 b,.func (.func 221) #[] #[]] h K:=cN Tryz.func142 H
end A42
section
def DqIs(h:Heap)(d m base n:Nat):Prop:=At h d [.pointer (some ⟨m,0,none⟩),.int .i64 (base:Int),.int .i64 (n:Int)]
theorem DqIs.only{S:List Nat}{h h':Heap}{t m base n:Nat}(H:DqIs h t m base n)(O:Only S h h')(ht:t∉S):DqIs h' t m base n:=At.only H O ht
structure Dc where
 v:Int
 t:Int
 b:Int
 ph:Nat
 done:Bool
 ok:Bool
def phd:Nat→Nat
 |0=>143
 |1=>195
 |2=>239
 |3=>284
 |4=>220
 |5=>269
 |6=>300
 |7=>333
 |8=>353
 |9=>354
 |10=>334
 |11=>221
 |12=>270
 |13=>301
 |_=>335
theorem go143:xget X 143=some Ext.go:=by kernel_rfl
theorem go195:xget X 195=some Ext.go:=by kernel_rfl
theorem go239:xget X 239=some Ext.go:=by kernel_rfl
theorem go284:xget X 284=some Ext.go:=by kernel_rfl
theorem go220:xget X 220=some Ext.go:=by kernel_rfl
theorem go269:xget X 269=some Ext.go:=by kernel_rfl
theorem go300:xget X 300=some Ext.go:=by kernel_rfl
theorem go333:xget X 333=some Ext.go:=by kernel_rfl
theorem go353:xget X 353=some Ext.go:=by kernel_rfl
theorem go354:xget X 354=some Ext.go:=by kernel_rfl
theorem go334:xget X 334=some Ext.go:=by kernel_rfl
theorem go221:xget X 221=some Ext.go:=by kernel_rfl
theorem go270:xget X 270=some Ext.go:=by kernel_rfl
theorem go301:xget X 301=some Ext.go:=by kernel_rfl
theorem go335:xget X 335=some Ext.go:=by kernel_rfl
theorem go193:xget X 193=some Ext.go:=by kernel_rfl
def isFirst(ph:Nat):Bool:=ph==0||ph==4||ph==11
def nxd(f bx by_ ph:Nat):Value:=
 if isFirst ph then .func (.func 193) #[] #[.pointer (some ⟨bx,0,none⟩),.pointer (some ⟨by_,0,none⟩)]else .func (.func (phd ph)) #[.pointer (some ⟨f,0,none⟩)] #[]
def cellsD(f d bx by_:Nat)(A:Dc):List Value:=
 [.pointer (some ⟨d,0,none⟩),.int .u64 A.v,.int .i64 A.t,.int .i64 A.b,nxd f bx by_ A.ph,.bool A.done,.bool A.ok]
structure DcIs(h:Heap)(f d bx by_:Nat)(A:Dc):Prop where
 act:At h f (cellsD f d bx by_ A)
 fn:isFirst A.ph=true→At h bx [.func (.func (phd A.ph)) #[] #[]]
 me:isFirst A.ph=true→At h by_ [.pointer (some ⟨f,0,none⟩)]
section
variable {h:Heap}{f d m mc base n:Nat}{cs:List Int}{ops fails:Int}{K:Value→Heap→Prop}
theorem load43{c:Int}(Q:DqIs h d m base n)(M:MemIs h m mc cs ops fails)(hb:base<1000000000)(hc0:0≤c)(hc1:c≤1)(hl:base+2≤cs.length)
  (hK: ∀h',MemIs h' m mc cs (up ops) fails→Only [m,mc] h h'→K (.int .i64 (IntKind.wrap .i64 (cs.getD (base+c.toNat) 0))) h'):
  Cl 194 [.pointer (some ⟨d,0,none⟩),.int .i64 c] h K:=by
 apply F194.spec
 simp only[add_mk,Nat.zero_add]
 refine ldP_of (by rw[At.rd Q];rfl) (ldI_of (n:=(base:Int)) (by rw[At.rd Q];rfl) ?_)
 rw[show IntKind.wrap .i64 ((base:Int)+c)=((base+c.toNat:Nat):Int) by rw[wrap_i64 (by omega) (by omega)];omega]
 refine load_in M (by omega) (by omega) fun h1 M1 O1=>ldI_of rfl ?_
 rw[Int.toNat_natCast]
 exact hK h1 M1 O1
def slotOf(base n:Nat)(x:Int):Nat:=base+2+(x.tmod n).toNat
theorem slotOf_lt{base n:Nat}{x:Int}(hn:1≤n)(hx:0≤x):slotOf base n x<base+2+n:=by
 unfold slotOf
 rw[Int.tmod_eq_emod_of_nonneg hx]
 have:=Int.emod_lt_of_pos x (by omega:(0:Int)<n)
 omega
theorem value87{x:Int}(Q:DqIs h d m base n)(hb:base<1000000000)(hn:1≤n)(hn2:n<1000000000)(hx:0≤x)(hK:K (.int .i64 (slotOf base n x:Int)) h):
  Cl 283 [.pointer (some ⟨d,0,none⟩),.int .i64 x] h K:=by
 apply F283.spec
 simp only[add_mk,Nat.zero_add]
 refine ldI_of (n:=(base:Int)) (by rw[At.rd Q];rfl) (ldI_of (n:=(n:Int)) (by rw[At.rd Q];rfl) ⟨by omega,?_⟩)
 have e:x.tmod n=(((x.tmod n).toNat:Nat):Int):=by
  rw[Int.tmod_eq_emod_of_nonneg hx]
  have:=Int.emod_nonneg x (by omega:(n:Int)≠0)
  omega
 have hlt:=slotOf_lt (base:=base) hn hx
 unfold slotOf at hK hlt
 rw[e,wrap_i64 (n:=(base:Int)+2) (by omega) (by omega),wrap_i64 (by omega) (by omega)]
 rw[show((base:Int)+2+((x.tmod n).toNat:Int))=((base+2+(x.tmod n).toNat:Nat):Int) by simp]
 exact hK
theorem ends71{c:List Value}{ok:Bool}(H:At h f c)(hl:c.length=7)(hK: ∀h',At h' f ((c.set 5 (.bool true)).set 6 (.bool ok))→Only [f] h h'→K (.tuple #[]) h'):
  Cl 240 [.pointer (some ⟨f,0,none⟩),.bool ok] h K:=by
 apply F240.spec
 simp only[add_mk,Nat.zero_add,Nat.add_zero]
 refine stK_at H (by omega) rfl fun h1 A1 O1 _=>stK_at A1 (by simp;omega) rfl fun h2 A2 O2 _=> ?_
 exact hK h2 A2 (O1.trans O2 (by simp))
end
def stepD(base n:Nat)(cs:List Int)(A:Dc):Dc×List Int:=
 if A.done then(A,cs)else
 match A.ph with
 |0=>({A with b:=IntKind.wrap .i64 (cs.getD (base+1) 0),ph:=1},cs)
 |1=>({A with t:=IntKind.wrap .i64 (cs.getD base 0),ph:=2,done:=decide (IntKind.wrap .i64 (A.b-IntKind.wrap .i64 (cs.getD base 0))≥(n:Int)),ok:=if decide (IntKind.wrap .i64 (A.b-IntKind.wrap .i64 (cs.getD base 0))≥(n:Int))then false else A.ok},cs)
 |2=>({A with ph:=3},cs.set (slotOf base n A.b) A.v)
 |3=>({A with done:=true,ok:=true},cs.set (base+1) (IntKind.wrap .u64 (IntKind.wrap .i64 (A.b+1))))
 |4=>({A with b:=IntKind.wrap .i64 (IntKind.wrap .i64 (cs.getD (base+1) 0)-1),ph:=5},cs)
 |5=>({A with ph:=6},cs.set (base+1) (IntKind.wrap .u64 A.b))
 |6=>({A with t:=IntKind.wrap .i64 (cs.getD base 0),ph:=if decide (IntKind.wrap .i64 (cs.getD base 0)>A.b)then 10 else 7},cs)
 |7=>if decide (A.t<A.b)then({A with v:=cs.getD (slotOf base n A.b) 0,done:=true,ok:=true},cs)else({A with v:=cs.getD (slotOf base n A.b) 0,ph:=8},cs)
 |8=>if cs.getD base 0=IntKind.wrap .u64 A.t then({A with ok:=true,ph:=9},cs.set base (IntKind.wrap .u64 (IntKind.wrap .i64 (A.t+1))))else({A with ok:=false,ph:=9},cs)
 |9=>({A with done:=true},cs.set (base+1) (IntKind.wrap .u64 (IntKind.wrap .i64 (A.b+1))))
 |10=>({A with done:=true,ok:=false},cs.set (base+1) (IntKind.wrap .u64 (IntKind.wrap .i64 (A.b+1))))
 |11=>({A with t:=IntKind.wrap .i64 (cs.getD base 0),ph:=12},cs)
 |12=>({A with b:=IntKind.wrap .i64 (cs.getD (base+1) 0),ph:=13,done:=decide (A.t≥IntKind.wrap .i64 (cs.getD (base+1) 0)),ok:=if decide (A.t≥IntKind.wrap .i64 (cs.getD (base+1) 0))then false else A.ok},cs)
 |13=>({A with v:=cs.getD (slotOf base n A.t) 0,ph:=14},cs)
 |_=>if cs.getD base 0=IntKind.wrap .u64 A.t then({A with done:=true,ok:=true},cs.set base (IntKind.wrap .u64 (IntKind.wrap .i64 (A.t+1))))else({A with done:=true,ok:=false},cs)
end
section
def cD(d:Nat)(v t b:Int)(x:Value)(dn ok:Bool):List Value:=[.pointer (some ⟨d,0,none⟩),.int .u64 v,.int .i64 t,.int .i64 b,x,.bool dn,.bool ok]
def nf(g f:Nat):Value:= .func (.func g) #[.pointer (some ⟨f,0,none⟩)] #[]
section
variable {h:Heap}{f d m mc base n:Nat}{cs:List Int}{ops fails:Int}{K:Value→Heap→Prop}{v t b:Int}{x:Value}{dn ok:Bool}
variable (Q:DqIs h d m base n)(M:MemIs h m mc cs ops fails)(H:At h f (cD d v t b x dn ok))(hb:base<1000000)(hn:1≤n)(hn2:n<1000000)(hl:base+2+n≤cs.length)(d1:f≠d)(d2:f≠m)(d3:f≠mc)(d4:d≠m)(d5:d≠mc)
include Q M H hb hn hl d2 d3
theorem q40(hK: ∀h',At h' f (cD d v t (IntKind.wrap .i64 (cs.getD (base+1) 0)) (nf 195 f) dn ok)→MemIs h' m mc cs (up ops) fails→Only [f,m,mc] h h'→K (.tuple #[]) h'):Cl 143 [.pointer (some ⟨f,0,none⟩)] h K:=by
 apply F143.spec
 simp only[add_mk,Nat.zero_add,Nat.add_zero]
 refine ldP_of (by rw[H.rd];rfl) (load43 Q M (by omega) (by decide) (by decide) (by omega) fun h1 M1 O1=>ldI_of rfl ?_)
 refine stK_at (H.only O1 (by simp[d2,d3])) (by simp[cD]) rfl fun h2 A2 O2 _=>stK_at A2 (by simp[cD]) rfl fun h3 A3 O3 _=> ?_
 have O23:=O2.trans O3 (by simp)
 exact hK h3 A3 (M1.only O23 (by simp[d2.symm]) (by simp[d3.symm])) ((O1.mono (T:=[f,m,mc]) (by simp+contextual)).trans O23 (by simp))
theorem q41(hK: ∀h',At h' f (cD d v t (IntKind.wrap .i64 (IntKind.wrap .i64 (cs.getD (base+1) 0)-1)) (nf 269 f) dn ok)→MemIs h' m mc cs (up ops) fails→Only [f,m,mc] h h'→K (.tuple #[]) h'):Cl 220 [.pointer (some ⟨f,0,none⟩)] h K:=by
 apply F220.spec
 simp only[add_mk,Nat.zero_add,Nat.add_zero]
 refine ldP_of (by rw[H.rd];rfl) (load43 Q M (by omega) (by decide) (by decide) (by omega) fun h1 M1 O1=>ldI_of rfl ?_)
 refine stK_at (H.only O1 (by simp[d2,d3])) (by simp[cD]) rfl fun h2 A2 O2 _=>stK_at A2 (by simp[cD]) rfl fun h3 A3 O3 _=> ?_
 have O23:=O2.trans O3 (by simp)
 exact hK h3 A3 (M1.only O23 (by simp[d2.symm]) (by simp[d3.symm])) ((O1.mono (T:=[f,m,mc]) (by simp+contextual)).trans O23 (by simp))
theorem q42(hK: ∀h',At h' f (cD d v (IntKind.wrap .i64 (cs.getD base 0)) b (nf 270 f) dn ok)→MemIs h' m mc cs (up ops) fails→Only [f,m,mc] h h'→K (.tuple #[]) h'):Cl 221 [.pointer (some ⟨f,0,none⟩)] h K:=by
 apply F221.spec
 simp only[add_mk,Nat.zero_add,Nat.add_zero]
 refine ldP_of (by rw[H.rd];rfl) (load43 Q M (by omega) (by decide) (by decide) (by omega) fun h1 M1 O1=>ldI_of rfl ?_)
 refine stK_at (H.only O1 (by simp[d2,d3])) (by simp[cD]) rfl fun h2 A2 O2 _=>stK_at A2 (by simp[cD]) rfl fun h3 A3 O3 _=> ?_
 have O23:=O2.trans O3 (by simp)
 exact hK h3 A3 (M1.only O23 (by simp[d2.symm]) (by simp[d3.symm])) ((O1.mono (T:=[f,m,mc]) (by simp+contextual)).trans O23 (by simp))
theorem q60(hK: ∀h',At h' f (cD d v t (IntKind.wrap .i64 (cs.getD (base+1) 0)) (nf 301 f) (if decide (t≥IntKind.wrap .i64 (cs.getD (base+1) 0))then true else dn) (if decide (t≥IntKind.wrap .i64 (cs.getD (base+1) 0))then false else ok))→
  MemIs h' m mc cs (up ops) fails→Only [f,m,mc] h h'→K (.tuple #[]) h'):Cl 270 [.pointer (some ⟨f,0,none⟩)] h K:=by
 apply F270.spec
 simp only[add_mk,Nat.zero_add,Nat.add_zero]
 refine ldP_of (by rw[H.rd];rfl) (load43 Q M (by omega) (by decide) (by decide) (by omega) fun h1 M1 O1=>ldI_of rfl ?_)
 refine stK_at (H.only O1 (by simp[d2,d3])) (by simp[cD]) rfl fun h2 A2 O2 _=>stK_at A2 (by simp[cD]) rfl fun h3 A3 O3 _=> ?_
 have O23:=O2.trans O3 (by simp)
 have M3:=M1.only O23 (by simp[d2.symm]) (by simp[d3.symm])
 have P3:=(O1.mono (T:=[f,m,mc]) (by simp+contextual)).trans O23 (by simp)
 refine ldI_of (n:=t) (by rw[A3.rd];rfl) (ldI_of (n:=IntKind.wrap .i64 (cs.getD (base+1) 0)) (by rw[A3.rd];rfl) (bcase_of (fun e=> ?_) fun e=> ?_))
 ·refine ends71 A3 (by simp[cD]) fun h4 A4 O4=>⟨by trivial,hK h4 ?_ (M3.only O4 (by simp[d2.symm]) (by simp[d3.symm])) (P3.trans O4 (by simp))⟩
  rw[e]
  exact A4
 ·refine hK h3 ?_ M3 P3
  rw[e]
  exact A3
theorem q72(hK: ∀h',At h' f (cD d v (IntKind.wrap .i64 (cs.getD base 0)) b (if decide (IntKind.wrap .i64 (cs.getD base 0)>b)then nf 334 f else nf 333 f) dn ok)→
  MemIs h' m mc cs (up ops) fails→Only [f,m,mc] h h'→K (.tuple #[]) h'):Cl 300 [.pointer (some ⟨f,0,none⟩)] h K:=by
 apply F300.spec
 simp only[add_mk,Nat.zero_add,Nat.add_zero]
 refine ldP_of (by rw[H.rd];rfl) (load43 Q M (by omega) (by decide) (by decide) (by omega) fun h1 M1 O1=>ldI_of rfl ?_)
 refine stK_at (H.only O1 (by simp[d2,d3])) (by simp[cD]) rfl fun h2 A2 O2 _=>stK_at A2 (by simp[cD]) rfl fun h3 A3 O3 _=> ?_
 have O23:=O2.trans O3 (by simp)
 have M3:=M1.only O23 (by simp[d2.symm]) (by simp[d3.symm])
 have P3:=(O1.mono (T:=[f,m,mc]) (by simp+contextual)).trans O23 (by simp)
 refine ldI_of (n:=IntKind.wrap .i64 (cs.getD base 0)) (by rw[A3.rd];rfl) (ldI_of (n:=b) (by rw[A3.rd];rfl) (bcase_of (fun e=> ?_) fun e=> ?_))
 ·refine stK_at A3 (by simp[cD]) rfl fun h4 A4 O4 _=>hK h4 ?_ (M3.only O4 (by simp[d2.symm]) (by simp[d3.symm])) (P3.trans O4 (by simp))
  rw[e]
  exact A4
 ·refine hK h3 ?_ M3 P3
  rw[e]
  exact A3
theorem q88(hK: ∀h',At h' f (cD d v t b x true true)→MemIs h' m mc (cs.set (base+1) (IntKind.wrap .u64 (IntKind.wrap .i64 (b+1)))) (up ops) fails→Only [f,m,mc] h h'→K (.tuple #[]) h'):Cl 284 [.pointer (some ⟨f,0,none⟩)] h K:=by
 apply F284.spec
 simp only[add_mk,Nat.zero_add,Nat.add_zero]
 refine ldP_of (by rw[H.rd];rfl) ?_
 simp only[ptrK_some,add_mk,Nat.zero_add]
 refine ldP_of (by rw[At.rd Q];rfl) (ldP_of (by rw[H.rd];rfl) ?_)
 simp only[ptrK_some,add_mk,Nat.zero_add]
 refine ldI_of (n:=(base:Int)) (by rw[At.rd Q];rfl) (ldI_of (n:=b) (by rw[H.rd];rfl) ?_)
 rw[show IntKind.wrap .i64 ((base:Int)+1)=((base+1:Nat):Int) by rw[wrap_i64 (by omega) (by omega)];simp]
 refine store_in M (by omega) (by omega) fun h1 M1 O1=>⟨rfl,?_⟩
 rw[Int.toNat_natCast]at M1
 refine ends71 (H.only O1 (by simp[d2,d3])) (by simp[cD]) fun h2 A2 O2=>⟨rfl,hK h2 A2 (M1.only O2 (by simp[d2.symm]) (by simp[d3.symm])) ((O1.mono (T:=[f,m,mc]) (by simp+contextual)).trans O2 (by simp))⟩
theorem q59(hK: ∀h',At h' f (cD d v t b (nf 300 f) dn ok)→MemIs h' m mc (cs.set (base+1) (IntKind.wrap .u64 b)) (up ops) fails→Only [f,m,mc] h h'→K (.tuple #[]) h'):Cl 269 [.pointer (some ⟨f,0,none⟩)] h K:=by
 apply F269.spec
 simp only[add_mk,Nat.zero_add,Nat.add_zero]
 refine ldP_of (by rw[H.rd];rfl) ?_
 simp only[ptrK_some,add_mk,Nat.zero_add]
 refine ldP_of (by rw[At.rd Q];rfl) (ldP_of (by rw[H.rd];rfl) ?_)
 simp only[ptrK_some,add_mk,Nat.zero_add]
 refine ldI_of (n:=(base:Int)) (by rw[At.rd Q];rfl) (ldI_of (n:=b) (by rw[H.rd];rfl) ?_)
 rw[show IntKind.wrap .i64 ((base:Int)+1)=((base+1:Nat):Int) by rw[wrap_i64 (by omega) (by omega)];simp]
 refine store_in M (by omega) (by omega) fun h1 M1 O1=>⟨rfl,?_⟩
 rw[Int.toNat_natCast]at M1
 refine stK_at (H.only O1 (by simp[d2,d3])) (by simp[cD]) rfl fun h2 A2 O2 _=> ?_
 exact hK h2 A2 (M1.only O2 (by simp[d2.symm]) (by simp[d3.symm])) ((O1.mono (T:=[f,m,mc]) (by simp+contextual)).trans O2 (by simp))
theorem q100(hK: ∀h',At h' f (cD d v t b x true ok)→MemIs h' m mc (cs.set (base+1) (IntKind.wrap .u64 (IntKind.wrap .i64 (b+1)))) (up ops) fails→Only [f,m,mc] h h'→K (.tuple #[]) h'):Cl 354 [.pointer (some ⟨f,0,none⟩)] h K:=by
 apply F354.spec
 simp only[add_mk,Nat.zero_add,Nat.add_zero]
 refine ldP_of (by rw[H.rd];rfl) ?_
 simp only[ptrK_some,add_mk,Nat.zero_add]
 refine ldP_of (by rw[At.rd Q];rfl) (ldP_of (by rw[H.rd];rfl) ?_)
 simp only[ptrK_some,add_mk,Nat.zero_add]
 refine ldI_of (n:=(base:Int)) (by rw[At.rd Q];rfl) (ldI_of (n:=b) (by rw[H.rd];rfl) ?_)
 rw[show IntKind.wrap .i64 ((base:Int)+1)=((base+1:Nat):Int) by rw[wrap_i64 (by omega) (by omega)];simp]
 refine store_in M (by omega) (by omega) fun h1 M1 O1=>⟨rfl,?_⟩
 rw[Int.toNat_natCast]at M1
 have H1:=H.only O1 (by simp[d2,d3])
 refine ldB_of (n:=ok) (by rw[H1.rd];rfl) (ends71 H1 (by simp[cD]) fun h2 A2 O2=>⟨rfl,hK h2 A2 (M1.only O2 (by simp[d2.symm]) (by simp[d3.symm])) ((O1.mono (T:=[f,m,mc]) (by simp+contextual)).trans O2 (by simp))⟩)
theorem q99(hT:cs.getD base 0=IntKind.wrap .u64 t→ ∀h',At h' f (cD d v t b (nf 354 f) dn true)→MemIs h' m mc (cs.set base (IntKind.wrap .u64 (IntKind.wrap .i64 (t+1)))) (up ops) fails→Only [f,m,mc] h h'→K (.tuple #[]) h')
  (hF:cs.getD base 0≠IntKind.wrap .u64 t→ ∀h' fails',At h' f (cD d v t b (nf 354 f) dn false)→MemIs h' m mc cs (up ops) fails'→Only [f,m,mc] h h'→K (.tuple #[]) h'):Cl 353 [.pointer (some ⟨f,0,none⟩)] h K:=by
 apply F353.spec
 simp only[add_mk,Nat.zero_add,Nat.add_zero]
 refine ldP_of (by rw[H.rd];rfl) ?_
 simp only[ptrK_some,add_mk,Nat.zero_add]
 refine ldP_of (by rw[At.rd Q];rfl) (ldP_of (by rw[H.rd];rfl) ?_)
 simp only[ptrK_some,add_mk,Nat.zero_add]
 refine ldI_of (n:=(base:Int)) (by rw[At.rd Q];rfl) (ldI_of (n:=t) (by rw[H.rd];rfl) (ldI_of (n:=t) (by rw[H.rd];rfl) ?_))
 rw[show IntKind.wrap .i64 ((base:Int)+0)=(base:Int) by rw[wrap_i64 (by omega) (by omega)];simp]
 refine cas_in M (by omega) (by omega) (fun e h1 M1 O1=>ldB_of rfl ⟨by trivial,?_⟩) fun e h1 M1 O1=>ldB_of rfl ⟨by trivial,?_⟩
 all_goals
  rw[Int.toNat_natCast]at e
  refine stK_at (H.only O1 (by simp[d2,d3])) (by simp[cD]) rfl fun h2 A2 O2 _=>stK_at A2 (by simp[cD]) rfl fun h3 A3 O3 _=> ?_
  have O23:=O2.trans O3 (by simp)
  have M3:=M1.only O23 (by simp[d2.symm]) (by simp[d3.symm])
  have P3:=(O1.mono (T:=[f,m,mc]) (by simp+contextual)).trans O23 (by simp)
 ·rw[Int.toNat_natCast]at M3
  exact hT e h3 A3 M3 P3
 ·exact hF e h3 _ A3 M3 P3
theorem q91(hT:cs.getD base 0=IntKind.wrap .u64 t→ ∀h',At h' f (cD d v t b x true true)→MemIs h' m mc (cs.set base (IntKind.wrap .u64 (IntKind.wrap .i64 (t+1)))) (up ops) fails→Only [f,m,mc] h h'→K (.tuple #[]) h')
  (hF:cs.getD base 0≠IntKind.wrap .u64 t→ ∀h' fails',At h' f (cD d v t b x true false)→MemIs h' m mc cs (up ops) fails'→Only [f,m,mc] h h'→K (.tuple #[]) h'):Cl 335 [.pointer (some ⟨f,0,none⟩)] h K:=by
 apply F335.spec
 simp only[add_mk,Nat.zero_add,Nat.add_zero]
 refine ldP_of (by rw[H.rd];rfl) ?_
 simp only[ptrK_some,add_mk,Nat.zero_add]
 refine ldP_of (by rw[At.rd Q];rfl) (ldP_of (by rw[H.rd];rfl) ?_)
 simp only[ptrK_some,add_mk,Nat.zero_add]
 refine ldI_of (n:=(base:Int)) (by rw[At.rd Q];rfl) (ldI_of (n:=t) (by rw[H.rd];rfl) (ldI_of (n:=t) (by rw[H.rd];rfl) ?_))
 rw[show IntKind.wrap .i64 ((base:Int)+0)=(base:Int) by rw[wrap_i64 (by omega) (by omega)];simp]
 refine cas_in M (by omega) (by omega) (fun e h1 M1 O1=>ldB_of rfl ⟨by trivial,?_⟩) fun e h1 M1 O1=>ldB_of rfl ⟨by trivial,?_⟩
 all_goals
  rw[Int.toNat_natCast]at e
  refine ends71 (H.only O1 (by simp[d2,d3])) (by simp[cD]) fun h2 A2 O2=>⟨by trivial,?_⟩
  have M3:=M1.only O2 (by simp[d2.symm]) (by simp[d3.symm])
  have P3:=(O1.mono (T:=[f,m,mc]) (by simp+contextual)).trans O2 (by simp)
 ·rw[Int.toNat_natCast]at M3
  exact hT e h2 A2 M3 P3
 ·exact hF e h2 _ A2 M3 P3
include d1 d4 d5
theorem q58(hK: ∀h',At h' f (cD d v (IntKind.wrap .i64 (cs.getD base 0)) b (nf 239 f) (if decide (IntKind.wrap .i64 (b-IntKind.wrap .i64 (cs.getD base 0))≥(n:Int))then true else dn) (if decide (IntKind.wrap .i64 (b-IntKind.wrap .i64 (cs.getD base 0))≥(n:Int))then false else ok))→
  MemIs h' m mc cs (up ops) fails→Only [f,m,mc] h h'→K (.tuple #[]) h'):Cl 195 [.pointer (some ⟨f,0,none⟩)] h K:=by
 apply F195.spec
 simp only[add_mk,Nat.zero_add,Nat.add_zero]
 refine ldP_of (by rw[H.rd];rfl) (load43 Q M (by omega) (by decide) (by decide) (by omega) fun h1 M1 O1=>ldI_of rfl ?_)
 refine stK_at (H.only O1 (by simp[d2,d3])) (by simp[cD]) rfl fun h2 A2 O2 _=>stK_at A2 (by simp[cD]) rfl fun h3 A3 O3 _=> ?_
 have O23:=O2.trans O3 (by simp)
 have M3:=M1.only O23 (by simp[d2.symm]) (by simp[d3.symm])
 have P3:=(O1.mono (T:=[f,m,mc]) (by simp+contextual)).trans O23 (by simp)
 have Q3:=Q.only P3 (by simp[d1.symm,d4,d5])
 refine ldI_of (n:=b) (by rw[A3.rd];rfl) (ldI_of (n:=IntKind.wrap .i64 (cs.getD base 0)) (by rw[A3.rd];rfl) (ldP_of (by rw[A3.rd];rfl) ?_))
 simp only[ptrK_some,add_mk,Nat.zero_add]
 refine ldI_of (n:=(n:Int)) (by rw[At.rd Q3];rfl) (bcase_of (fun e=> ?_) fun e=> ?_)
 ·refine ends71 A3 (by simp[cD]) fun h4 A4 O4=>⟨by trivial,hK h4 ?_ (M3.only O4 (by simp[d2.symm]) (by simp[d3.symm])) (P3.trans O4 (by simp))⟩
  rw[e]
  exact A4
 ·refine hK h3 ?_ M3 P3
  rw[e]
  exact A3
end
end
section
section
variable {h:Heap}{f d m mc base n:Nat}{cs:List Int}{ops fails:Int}{K:Value→Heap→Prop}{v t b:Int}{x:Value}{dn ok:Bool}
variable (Q:DqIs h d m base n)(M:MemIs h m mc cs ops fails)(H:At h f (cD d v t b x dn ok))(hb:base<1000000)(hn:1≤n)(hn2:n<1000000)(hl:base+2+n≤cs.length)(d1:f≠d)(d2:f≠m)(d3:f≠mc)(d4:d≠m)(d5:d≠mc)
include Q M H hb hn hn2 hl d2 d3
theorem q70(hp:0≤b)(hK: ∀h',At h' f (cD d v t b (nf 284 f) dn ok)→MemIs h' m mc (cs.set (slotOf base n b) v) (up ops) fails→Only [f,m,mc] h h'→K (.tuple #[]) h'):Cl 239 [.pointer (some ⟨f,0,none⟩)] h K:=by
 have hsl:=slotOf_lt (base:=base) hn hp
 apply F239.spec
 simp only[add_mk,Nat.zero_add,Nat.add_zero]
 have r0:rd h ⟨f,0,none⟩=some (.pointer (some ⟨d,0,none⟩)):=by rw[H.rd];rfl
 have rm:rd h ⟨d,0,none⟩=some (.pointer (some ⟨m,0,none⟩)):=by rw[At.rd Q];rfl
 refine ldP_of r0 ?_
 simp only[ptrK_some,add_mk,Nat.zero_add]
 refine ldP_of rm (ldP_of r0 (ldI_of (n:=b) (by rw[H.rd];rfl) (ldI_of (n:=v) (by rw[H.rd];rfl) (value87 Q (by omega) hn (by omega) hp (ldI_of rfl ⟨by trivial,by trivial,by trivial,ldP_of r0 ⟨by trivial,?_⟩⟩)))))
 refine⟨by trivial,by trivial,ldP_of rm ⟨by trivial,by trivial,by trivial,by trivial,ldI_of (n:=v) (by rw[H.rd];rfl) ⟨rfl,?_⟩⟩⟩
 refine store_in M (by omega) (by omega) fun h1 M1 O1=>⟨rfl,?_⟩
 rw[Int.toNat_natCast]at M1
 refine stK_at (H.only O1 (by simp[d2,d3])) (by simp[cD]) rfl fun h2 A2 O2 _=> ?_
 exact hK h2 A2 (M1.only O2 (by simp[d2.symm]) (by simp[d3.symm])) ((O1.mono (T:=[f,m,mc]) (by simp+contextual)).trans O2 (by simp))
theorem q89(hp:0≤b)(hT:t<b→ ∀h',At h' f (cD d (cs.getD (slotOf base n b) 0) t b x true true)→MemIs h' m mc cs (up ops) fails→Only [f,m,mc] h h'→K (.tuple #[]) h')
  (hF: ¬t<b→ ∀h',At h' f (cD d (cs.getD (slotOf base n b) 0) t b (nf 353 f) dn ok)→MemIs h' m mc cs (up ops) fails→Only [f,m,mc] h h'→K (.tuple #[]) h'):Cl 333 [.pointer (some ⟨f,0,none⟩)] h K:=by
 have hsl:=slotOf_lt (base:=base) hn hp
 apply F333.spec
 simp only[add_mk,Nat.zero_add,Nat.add_zero]
 have r0:rd h ⟨f,0,none⟩=some (.pointer (some ⟨d,0,none⟩)):=by rw[H.rd];rfl
 have rm:rd h ⟨d,0,none⟩=some (.pointer (some ⟨m,0,none⟩)):=by rw[At.rd Q];rfl
 refine ldP_of r0 ?_
 simp only[ptrK_some,add_mk,Nat.zero_add]
 refine ldP_of rm (ldP_of r0 (ldI_of (n:=b) (by rw[H.rd];rfl) (value87 Q (by omega) hn (by omega) hp (ldI_of rfl ⟨by trivial,by trivial,by trivial,by trivial,ldP_of r0 ⟨by trivial,?_⟩⟩))))
 refine⟨by trivial,by trivial,ldP_of rm ⟨by trivial,load_in M (by omega) (by omega) fun h1 M1 O1=>ldI_of rfl ⟨by trivial,?_⟩⟩⟩
 rw[Int.toNat_natCast]
 refine stK_at (H.only O1 (by simp[d2,d3])) (by simp[cD]) rfl fun h2 A2 O2 _=> ?_
 have M2:=M1.only O2 (by simp[d2.symm]) (by simp[d3.symm])
 have P2:=(O1.mono (T:=[f,m,mc]) (by simp+contextual)).trans O2 (by simp)
 refine ldI_of (n:=t) (by rw[A2.rd];rfl) (ldI_of (n:=b) (by rw[A2.rd];rfl) (bcase_of (fun e=> ?_) fun e=> ?_))
 ·refine ends71 A2 (by simp[cD]) fun h3 A3 O3=>⟨rfl,hT (of_decide_eq_true e) h3 A3 (M2.only O3 (by simp[d2.symm]) (by simp[d3.symm])) (P2.trans O3 (by simp))⟩
 ·refine stK_at A2 (by simp[cD]) rfl fun h3 A3 O3 _=> ?_
  exact hF (of_decide_eq_false e) h3 A3 (M2.only O3 (by simp[d2.symm]) (by simp[d3.symm])) (P2.trans O3 (by simp))
theorem q73(hp:0≤t)(hK: ∀h',At h' f (cD d (cs.getD (slotOf base n t) 0) t b (nf 335 f) dn ok)→MemIs h' m mc cs (up ops) fails→Only [f,m,mc] h h'→K (.tuple #[]) h'):Cl 301 [.pointer (some ⟨f,0,none⟩)] h K:=by
 have hsl:=slotOf_lt (base:=base) hn hp
 apply F301.spec
 simp only[add_mk,Nat.zero_add,Nat.add_zero]
 have r0:rd h ⟨f,0,none⟩=some (.pointer (some ⟨d,0,none⟩)):=by rw[H.rd];rfl
 have rm:rd h ⟨d,0,none⟩=some (.pointer (some ⟨m,0,none⟩)):=by rw[At.rd Q];rfl
 refine ldP_of r0 ?_
 simp only[ptrK_some,add_mk,Nat.zero_add]
 refine ldP_of rm (ldP_of r0 (ldI_of (n:=t) (by rw[H.rd];rfl) (value87 Q (by omega) hn (by omega) hp (ldI_of rfl ⟨by trivial,by trivial,by trivial,by trivial,ldP_of r0 ⟨by trivial,?_⟩⟩))))
 refine⟨by trivial,by trivial,ldP_of rm ⟨by trivial,load_in M (by omega) (by omega) fun h1 M1 O1=>ldI_of rfl ⟨by trivial,?_⟩⟩⟩
 rw[Int.toNat_natCast]
 refine stK_at (H.only O1 (by simp[d2,d3])) (by simp[cD]) rfl fun h2 A2 O2 _=>stK_at A2 (by simp[cD]) rfl fun h3 A3 O3 _=> ?_
 have O23:=O2.trans O3 (by simp)
 exact hK h3 A3 (M1.only O23 (by simp[d2.symm]) (by simp[d3.symm])) ((O1.mono (T:=[f,m,mc]) (by simp+contextual)).trans O23 (by simp))
omit hn2
include d1
theorem q90(hK: ∀h',At h' f (cD d v t b x true false)→MemIs h' m mc (cs.set (base+1) (IntKind.wrap .u64 (IntKind.wrap .i64 (b+1)))) (up ops) fails→Only [f,m,mc] h h'→K (.tuple #[]) h'):Cl 334 [.pointer (some ⟨f,0,none⟩)] h K:=by
 apply F334.spec
 simp only[add_mk,Nat.zero_add,Nat.add_zero]
 refine stK_at H (by simp[cD]) rfl fun h1 A1 O1 _=> ?_
 have A1:At h1 f (cD d v t b x dn false):=A1
 refine q100 (Q.only O1 (by simp[d1.symm])) (M.only O1 (by simp[d2.symm]) (by simp[d3.symm])) A1 hb hn hl d2 d3 fun h2 A2 M2 O2=>⟨rfl,hK h2 A2 M2 ?_⟩
 exact(O1.mono (T:=[f,m,mc]) (by simp+contextual)).trans O2 (by simp)
end
end
section
theorem F177.spec(a:Addr)(h:Heap)(K:KK)(H:Cl 142 [.pointer (some a),.int .u64 0,.func (.func 220) #[] #[]] h fun v1 h2=>ldP (some v1) fun p3=>K (.pointer p3) h2):Cl 177 [.pointer (some a)] h K:=cN Tryz.func177 H
theorem F178.spec(a:Addr)(h:Heap)(K:KK)(H:Cl 142 [.pointer (some a),.int .u64 0,.func (.func 221) #[] #[]] h fun v1 h2=>ldP (some v1) fun p3=>K (.pointer p3) h2):Cl 178 [.pointer (some a)] h K:=cN Tryz.func178 H
end
section
theorem stepD_len{base n:Nat}{cs:List Int}{A:Dc}:(stepD base n cs A).2.length=cs.length:=by
 unfold stepD
 repeat' split
 all_goals simp
theorem DcIs.of{h:Heap}{f d bx by_:Nat}{A:Dc}(H:At h f (cellsD f d bx by_ A))(e:isFirst A.ph=false):DcIs h f d bx by_ A:=
 ⟨H,(fun e'=>by rw[e]at e';cases e'),(fun e'=>by rw[e]at e';cases e')⟩
section
variable {h:Heap}{f d bx by_ m mc base n:Nat}{cs:List Int}{ops fails:Int}{K:Value→Heap→Prop}{A:Dc}
theorem q57{g:Nat}(F:At h bx [.func (.func g) #[] #[]])(B:At h by_ [.pointer (some ⟨f,0,none⟩)])(hg:xget X g=some .go)
  (hK:Cl g [.pointer (some ⟨f,0,none⟩)] h (fun v h'=>v= .tuple #[]∧K (.tuple #[]) h')):
  Cl 193 [.pointer (some ⟨bx,0,none⟩),.pointer (some ⟨by_,0,none⟩)] h K:=by
 apply F193.spec
 refine⟨_,by rw[F.rd];rfl,ldP_of (by rw[B.rd];rfl) (dynK_go hg ?_)⟩
 simpa using hK
theorem stepD_spec(Q:DqIs h d m base n)(M:MemIs h m mc cs ops fails)(H:DcIs h f d bx by_ A)(hb:base<1000000)(hn:1≤n)(hn2:n<1000000)(hl:base+2+n≤cs.length)(d1:f≠d)(d2:f≠m)(d3:f≠mc)(d4:d≠m)(d5:d≠mc)
  (hph:A.ph≤14) (hp1:A.ph=2∨A.ph=7→0≤A.b) (hp2:A.ph=13→0≤A.t)
  (hK: ∀h' fails',DcIs h' f d bx by_ (stepD base n cs A).1→MemIs h' m mc (stepD base n cs A).2 (if A.done then ops else up ops) fails'→Only [f,m,mc] h h'→K (.bool (stepD base n cs A).1.done) h'):
  Cl 140 [.pointer (some ⟨f,0,none⟩)] h K:=by
 apply F140.spec
 simp only[add_mk,Nat.zero_add]
 obtain⟨v,t,b,ph,dn,ok⟩:=A
 have H0:At h f (cD d v t b (nxd f bx by_ ph) dn ok):=H.act
 refine ldB_of (n:=dn) (by rw[H0.rd];rfl) ?_
 have hend: ∀h' fails',DcIs h' f d bx by_ (stepD base n cs ⟨v,t,b,ph,dn,ok⟩).1→MemIs h' m mc (stepD base n cs ⟨v,t,b,ph,dn,ok⟩).2 (if dn then ops else up ops) fails'→Only [f,m,mc] h h'→F140.wk3 ⟨f,0,none⟩ h' K:=by
  intro h' fails' a1 a2 a3
  unfold F140.wk3
  simp only[add_mk,Nat.zero_add]
  exact ldB_of (by rw[a1.act.rd];rfl) (hK h' fails' a1 a2 a3)
 clear hK
 dsimp only at hph hp1 hp2
 cases dn with
 |true=>
  rw[Bool.not_true,bcase_false]
  exact hend h fails H M (Only.refl _ _)
 |false=>
  rw[Bool.not_false,bcase_true]
  simp only[stepD,Bool.false_eq_true,if_false]at hend
  refine⟨_,by rw[H0.rd];rfl,?_⟩
  match ph,hph,H,H0,hend,hp1,hp2 with
  |0,_,H,H0,hend,_,_=>
   refine dynK_go go193 (q57 (H.fn rfl) (H.me rfl) go143 (q40 Q M H0 hb hn hl d2 d3 fun h1 A1 M1 O1=>⟨rfl,rfl,hend h1 _ (DcIs.of A1 rfl) M1 O1⟩))
  |1,_,H,H0,hend,_,_=>
   refine dynK_go go195 (q58 Q M H0 hb hn hl d1 d2 d3 d4 d5 fun h1 A1 M1 O1=>⟨rfl,hend h1 _ (DcIs.of ?_ rfl) M1 O1⟩)
   show At h1 f (cD d v _ b (nf 239 f) (decide _) _)
   simpa using A1
  |2,_,H,H0,hend,hp,_=>
   exact dynK_go go239 (q70 Q M H0 hb hn hn2 hl d2 d3 (hp (Or.inl rfl)) fun h1 A1 M1 O1=>⟨rfl,hend h1 _ (DcIs.of A1 rfl) M1 O1⟩)
  |3,_,H,H0,hend,_,_=>
   exact dynK_go go284 (q88 Q M H0 hb hn hl d2 d3 fun h1 A1 M1 O1=>⟨rfl,hend h1 _ (DcIs.of A1 rfl) M1 O1⟩)
  |4,_,H,H0,hend,_,_=>
   refine dynK_go go193 (q57 (H.fn rfl) (H.me rfl) go220 (q41 Q M H0 hb hn hl d2 d3 fun h1 A1 M1 O1=>⟨rfl,rfl,hend h1 _ (DcIs.of A1 rfl) M1 O1⟩))
  |5,_,H,H0,hend,_,_=>
   exact dynK_go go269 (q59 Q M H0 hb hn hl d2 d3 fun h1 A1 M1 O1=>⟨rfl,hend h1 _ (DcIs.of A1 rfl) M1 O1⟩)
  |6,_,H,H0,hend,_,_=>
   refine dynK_go go300 (q72 Q M H0 hb hn hl d2 d3 fun h1 A1 M1 O1=>⟨rfl,?_⟩)
   refine hend h1 _ ?_ M1 O1
   cases hd:decide (IntKind.wrap .i64 (cs.getD base 0)>b)with
   |true=>
    rw[hd]at A1
    exact DcIs.of A1 rfl
   |false=>
    rw[hd]at A1
    exact DcIs.of A1 rfl
  |7,_,H,H0,hend,hp,_=>
   refine dynK_go go333 (q89 Q M H0 hb hn hn2 hl d2 d3 (hp (Or.inr rfl)) (fun e h1 A1 M1 O1=>⟨rfl,?_⟩) fun e h1 A1 M1 O1=>⟨rfl,?_⟩)
   ·exact hend h1 _ (by
     show DcIs h1 f d bx by_ (ite _ _ _:Dc×List Int).1
     rw[if_pos (decide_eq_true e)]
     exact DcIs.of A1 rfl) (by
     show MemIs h1 m mc (ite _ _ _:Dc×List Int).2 _ _
     rw[if_pos (decide_eq_true e)]
     exact M1) O1
   ·exact hend h1 _ (by
     show DcIs h1 f d bx by_ (ite _ _ _:Dc×List Int).1
     rw[if_neg (by simpa using e)]
     exact DcIs.of A1 rfl) (by
     show MemIs h1 m mc (ite _ _ _:Dc×List Int).2 _ _
     rw[if_neg (by simpa using e)]
     exact M1) O1
  |8,_,H,H0,hend,_,_=>
   refine dynK_go go353 (q99 Q M H0 hb hn hl d2 d3 (fun e h1 A1 M1 O1=>⟨rfl,?_⟩) fun e h1 fails' A1 M1 O1=>⟨rfl,?_⟩)
   ·exact hend h1 _ (by
     show DcIs h1 f d bx by_ (ite _ _ _:Dc×List Int).1
     rw[if_pos e]
     exact DcIs.of A1 rfl) (by
     show MemIs h1 m mc (ite _ _ _:Dc×List Int).2 _ _
     rw[if_pos e]
     exact M1) O1
   ·exact hend h1 _ (by
     show DcIs h1 f d bx by_ (ite _ _ _:Dc×List Int).1
     rw[if_neg e]
     exact DcIs.of A1 rfl) (by
     show MemIs h1 m mc (ite _ _ _:Dc×List Int).2 _ _
     rw[if_neg e]
     exact M1) O1
  |9,_,H,H0,hend,_,_=>
   exact dynK_go go354 (q100 Q M H0 hb hn hl d2 d3 fun h1 A1 M1 O1=>⟨rfl,hend h1 _ (DcIs.of A1 rfl) M1 O1⟩)
  |10,_,H,H0,hend,_,_=>
   exact dynK_go go334 (q90 Q M H0 hb hn hl d1 d2 d3 fun h1 A1 M1 O1=>⟨rfl,hend h1 _ (DcIs.of A1 rfl) M1 O1⟩)
  |11,_,H,H0,hend,_,_=>
   refine dynK_go go193 (q57 (H.fn rfl) (H.me rfl) go221 (q42 Q M H0 hb hn hl d2 d3 fun h1 A1 M1 O1=>⟨rfl,rfl,hend h1 _ (DcIs.of A1 rfl) M1 O1⟩))
  |12,_,H,H0,hend,_,_=>
   refine dynK_go go270 (q60 Q M H0 hb hn hl d2 d3 fun h1 A1 M1 O1=>⟨rfl,hend h1 _ (DcIs.of ?_ rfl) M1 O1⟩)
   show At h1 f (cD d v t _ (nf 301 f) (decide _) _)
   simpa using A1
  |13,_,H,H0,hend,_,hp=>
   exact dynK_go go301 (q73 Q M H0 hb hn hn2 hl d2 d3 (hp rfl) fun h1 A1 M1 O1=>⟨rfl,hend h1 _ (DcIs.of A1 rfl) M1 O1⟩)
  |14,_,H,H0,hend,_,_=>
   refine dynK_go go335 (q91 Q M H0 hb hn hl d2 d3 (fun e h1 A1 M1 O1=>⟨rfl,?_⟩) fun e h1 fails' A1 M1 O1=>⟨rfl,?_⟩)
   ·exact hend h1 _ (by
     show DcIs h1 f d bx by_ (ite _ _ _:Dc×List Int).1
     rw[if_pos e]
     exact DcIs.of A1 rfl) (by
     show MemIs h1 m mc (ite _ _ _:Dc×List Int).2 _ _
     rw[if_pos e]
     exact M1) O1
   ·exact hend h1 _ (by
     show DcIs h1 f d bx by_ (ite _ _ _:Dc×List Int).1
     rw[if_neg e]
     exact DcIs.of A1 rfl) (by
     show MemIs h1 m mc (ite _ _ _:Dc×List Int).2 _ _
     rw[if_neg e]
     exact M1) O1
end
end
section
structure DW(h:Heap)(d m mc base n:Nat)(cs:List Int)(ops fails:Int):Prop where
 deq:DqIs h d m base n
 mem:MemIs h m mc cs ops fails
 d4:d≠m
 d5:d≠mc
 hn:1≤n
 hn2:n≤256
 hb:base<100000
 hl:base+2+n≤cs.length
theorem DW.only{h h':Heap}{d m mc base n:Nat}{cs:List Int}{ops fails:Int}{S:List Nat}(W:DW h d m mc base n cs ops fails)(O:Only S h h')(h1:d∉S)(h2:m∉S)(h3:mc∉S):DW h' d m mc base n cs ops fails:=
 ⟨W.deq.only O h1,W.mem.only O h2 h3,W.d4,W.d5,W.hn,W.hn2,W.hb,W.hl⟩
theorem DW.lt{h:Heap}{d m mc base n:Nat}{cs:List Int}{ops fails:Int}(W:DW h d m mc base n cs ops fails):d<h.size∧m<h.size∧mc<h.size:=⟨At.lt W.deq,W.mem.head.lt,W.mem.body.lt⟩
section
variable {h:Heap}{f d bx by_ m mc base n:Nat}{cs:List Int}{ops fails:Int}{K:Value→Heap→Prop}{A:Dc}
theorem stepD_dw(W:DW h d m mc base n cs ops fails)(H:DcIs h f d bx by_ A)(d1:f≠d)(d2:f≠m)(d3:f≠mc)(hph:A.ph≤14)(hp1:A.ph=2∨A.ph=7→0≤A.b)(hp2:A.ph=13→0≤A.t)
  (hK: ∀h' fails',DcIs h' f d bx by_ (stepD base n cs A).1→DW h' d m mc base n (stepD base n cs A).2 (if A.done then ops else up ops) fails'→Only [f,m,mc] h h'→K (.bool (stepD base n cs A).1.done) h'):
  Cl 140 [.pointer (some ⟨f,0,none⟩)] h K:=
 stepD_spec W.deq W.mem H (Nat.lt_of_lt_of_le W.hb (by decide)) W.hn (Nat.lt_of_le_of_lt W.hn2 (by decide)) W.hl d1 d2 d3 W.d4 W.d5 hph hp1 hp2 fun h' fails' a b O=>
  hK h' fails' a ⟨W.deq.only O (by simp[d1.symm,W.d4,W.d5]),b,W.d4,W.d5,W.hn,W.hn2,W.hb,by rw[stepD_len];exact W.hl⟩ O
theorem act40{v:Int}(hK: ∀f bx by_ h',DcIs h' f d bx by_ ⟨v,0,0,0,false,false⟩→Only [] h h'→h.size≤f→h.size≤bx→h.size≤by_→f<h'.size→bx<h'.size→by_<h'.size→f≠bx→f≠by_→bx≠by_→K (.pointer (some ⟨f,0,none⟩)) h'):
  Cl 142 [.pointer (some ⟨d,0,none⟩),.int .u64 v,.func (.func 143) #[] #[]] h K:=by
 apply A40.F142.spec
 refine newK_at fun h1 A1 O1 z1=>newK_at fun h2 A2 O2 z2=>newK_at fun h3 A3 O3 z3=> ?_
 simp only[add_mk,Nat.zero_add]
 refine stK_at A3 (by simp) rfl fun h4 A4 O4 z4=>ldP_of (by rw[A4.rd];rfl) ?_
 simp only[ptrK_some,add_mk,Nat.zero_add,Nat.add_zero]
 have B4:=((A2.only O3 (by simp)).only O4 (by simp;omega))
 have C4:=(((A1.only O2 (by simp)).only O3 (by simp)).only O4 (by simp;omega))
 refine stK_at B4 (by simp) rfl fun h5 A5 O5 z5=>ldP_of (n:=some ⟨h1.size,0,none⟩) (by rw[(A4.only O5 (by simp;omega)).rd];rfl) ?_
 have P5:Only [] h h5:=(((O1.trans O2 (by simp)).trans O3 (by simp)).trans O4 fun b hb hl=>absurd (show b=h2.size by simpa using hb) (by omega)).trans O5 fun b hb hl=>absurd (show b=h1.size by simpa using hb) (by omega)
 refine hK h1.size h.size h2.size h5 ⟨A5,fun _=>C4.only O5 (by simp;omega),fun _=>A4.only O5 (by simp;omega)⟩ P5 (by omega) (by omega) (by omega) (by omega) (by omega) (by omega) (by omega) (by omega) (by omega)
theorem act41{v:Int}(hK: ∀f bx by_ h',DcIs h' f d bx by_ ⟨v,0,0,4,false,false⟩→Only [] h h'→h.size≤f→h.size≤bx→h.size≤by_→f<h'.size→bx<h'.size→by_<h'.size→f≠bx→f≠by_→bx≠by_→K (.pointer (some ⟨f,0,none⟩)) h'):
  Cl 142 [.pointer (some ⟨d,0,none⟩),.int .u64 v,.func (.func 220) #[] #[]] h K:=by
 apply A41.F142.spec
 refine newK_at fun h1 A1 O1 z1=>newK_at fun h2 A2 O2 z2=>newK_at fun h3 A3 O3 z3=> ?_
 simp only[add_mk,Nat.zero_add]
 refine stK_at A3 (by simp) rfl fun h4 A4 O4 z4=>ldP_of (by rw[A4.rd];rfl) ?_
 simp only[ptrK_some,add_mk,Nat.zero_add,Nat.add_zero]
 have B4:=((A2.only O3 (by simp)).only O4 (by simp;omega))
 have C4:=(((A1.only O2 (by simp)).only O3 (by simp)).only O4 (by simp;omega))
 refine stK_at B4 (by simp) rfl fun h5 A5 O5 z5=>ldP_of (n:=some ⟨h1.size,0,none⟩) (by rw[(A4.only O5 (by simp;omega)).rd];rfl) ?_
 have P5:Only [] h h5:=(((O1.trans O2 (by simp)).trans O3 (by simp)).trans O4 fun b hb hl=>absurd (show b=h2.size by simpa using hb) (by omega)).trans O5 fun b hb hl=>absurd (show b=h1.size by simpa using hb) (by omega)
 refine hK h1.size h.size h2.size h5 ⟨A5,fun _=>C4.only O5 (by simp;omega),fun _=>A4.only O5 (by simp;omega)⟩ P5 (by omega) (by omega) (by omega) (by omega) (by omega) (by omega) (by omega) (by omega) (by omega)
theorem act42{v:Int}(hK: ∀f bx by_ h',DcIs h' f d bx by_ ⟨v,0,0,11,false,false⟩→Only [] h h'→h.size≤f→h.size≤bx→h.size≤by_→f<h'.size→bx<h'.size→by_<h'.size→f≠bx→f≠by_→bx≠by_→K (.pointer (some ⟨f,0,none⟩)) h'):
  Cl 142 [.pointer (some ⟨d,0,none⟩),.int .u64 v,.func (.func 221) #[] #[]] h K:=by
 apply A42.F142.spec
 refine newK_at fun h1 A1 O1 z1=>newK_at fun h2 A2 O2 z2=>newK_at fun h3 A3 O3 z3=> ?_
 simp only[add_mk,Nat.zero_add]
 refine stK_at A3 (by simp) rfl fun h4 A4 O4 z4=>ldP_of (by rw[A4.rd];rfl) ?_
 simp only[ptrK_some,add_mk,Nat.zero_add,Nat.add_zero]
 have B4:=((A2.only O3 (by simp)).only O4 (by simp;omega))
 have C4:=(((A1.only O2 (by simp)).only O3 (by simp)).only O4 (by simp;omega))
 refine stK_at B4 (by simp) rfl fun h5 A5 O5 z5=>ldP_of (n:=some ⟨h1.size,0,none⟩) (by rw[(A4.only O5 (by simp;omega)).rd];rfl) ?_
 have P5:Only [] h h5:=(((O1.trans O2 (by simp)).trans O3 (by simp)).trans O4 fun b hb hl=>absurd (show b=h2.size by simpa using hb) (by omega)).trans O5 fun b hb hl=>absurd (show b=h1.size by simpa using hb) (by omega)
 refine hK h1.size h.size h2.size h5 ⟨A5,fun _=>C4.only O5 (by simp;omega),fun _=>A4.only O5 (by simp;omega)⟩ P5 (by omega) (by omega) (by omega) (by omega) (by omega) (by omega) (by omega) (by omega) (by omega)
theorem pop_dw(hK: ∀f bx by_ h',DcIs h' f d bx by_ ⟨0,0,0,4,false,false⟩→Only [] h h'→h.size≤f→h.size≤bx→h.size≤by_→f<h'.size→bx<h'.size→by_<h'.size→f≠bx→f≠by_→bx≠by_→K (.pointer (some ⟨f,0,none⟩)) h'):
  Cl 177 [.pointer (some ⟨d,0,none⟩)] h K:=by
 apply F177.spec
 exact act41 fun f bx by_ h' a b c e g i j k l m o=>ldP_of rfl (hK f bx by_ h' a b c e g i j k l m o)
theorem steal_dw(hK: ∀f bx by_ h',DcIs h' f d bx by_ ⟨0,0,0,11,false,false⟩→Only [] h h'→h.size≤f→h.size≤bx→h.size≤by_→f<h'.size→bx<h'.size→by_<h'.size→f≠bx→f≠by_→bx≠by_→K (.pointer (some ⟨f,0,none⟩)) h'):
  Cl 178 [.pointer (some ⟨d,0,none⟩)] h K:=by
 apply F178.spec
 exact act42 fun f bx by_ h' a b c e g i j k l m o=>ldP_of rfl (hK f bx by_ h' a b c e g i j k l m o)
def gotDV(A:Dc):Int:=if A.done&&A.ok then A.v else 0
def gotDB(A:Dc):Bool:=A.done&&A.ok
theorem gotD_spec(H:DcIs h f d bx by_ A)(hK:K (.tuple #[.int .u64 (gotDV A),.bool (gotDB A)]) h):Cl 141 [.pointer (some ⟨f,0,none⟩)] h K:=by
 apply F141.spec
 simp only[add_mk,Nat.zero_add]
 unfold gotDV gotDB at hK
 refine ldB_of (n:=A.done) (by rw[H.act.rd];rfl) (bcase_of (fun e=> ?_) fun e=>ldB_of (n:=A.ok) (by rw[H.act.rd];rfl) (bcase_of (fun e'=> ?_) fun e'=>ldI_of (n:=A.v) (by rw[H.act.rd];rfl) ?_))
 ·have e:A.done=false:=by simpa using e
  simpa[e]using hK
 ·have e:A.done=true:=by simpa using e
  have e':A.ok=false:=by simpa using e'
  simpa[e,e']using hK
 ·have e:A.done=true:=by simpa using e
  have e':A.ok=true:=by simpa using e'
  simpa[e,e']using hK
theorem cellsD_spec{k:Int}(h0:1≤k)(h1:k<1000000)(hK:K (.int .i64 (k+2)) h):Cl 90 [.int .i64 k] h K:=by
 apply F90.spec
 rw[decide_eq_false (by omega),bcase_false,wrap_i64 (by omega) (by omega)]
 exact hK
theorem deqnew_spec(M:MemIs h m mc cs ops fails)(hn:1≤n)(hn2:n≤256)(hb:base+2+n≤cs.length)(hc:cs.length<100000)
  (hK: ∀c h',DqIs h' c m base n→Only [] h h'→h.size≤c→K (.tuple #[.pointer (some ⟨c,0,none⟩),.int .i64 0]) h'):
  Cl 88 [.pointer (some ⟨m,0,none⟩),.int .i64 (base:Int),.int .i64 (n:Int)] h K:=by
 apply F88.spec
 rw[decide_eq_false (by omega),bcase_false,decide_eq_false (by omega),bcase_false,decide_eq_false (by omega),bcase_false]
 refine len_spec M (ldI_of rfl ?_)
 rw[decide_eq_false (by omega),bcase_false]
 refine cellsD_spec (by omega) (by omega) (ldI_of rfl (len_spec M (ldI_of rfl ?_)))
 rw[wrap_i64 (by omega) (by omega),decide_eq_false (by omega),bcase_false]
 exact newK_at fun h1 A1 O1 z1=>hK h.size h1 A1 O1 (Nat.le_refl _)
end
end
section
def F34.T:Hint:=⟨[(3,[5,14,15])],[]⟩
section
variable (n:Nat)(f:Addr)(d:Int)(c:Addr)(a b:Int)(h:Heap)(K:KK)
def F34.wL3:Prop:=Lp Tryz.f34 F34.T [1,1,0,1,0] n [(5,(.pointer (some c))),(14,(.int .i64 a)),(15,(.int .i64 b))] h K
theorem F34.sL3:F34.wL3 (n+1) c a b h K=(bcase (decide (b<a)) (Cl 90 [.int .i64 64] h fun v1 h2=>ldI .i64 (some v1) fun n3=>Cl 89 [.int .i64 n3] h2 fun v4 h5=>ldP (some v4) fun p6=>Cl 88 [.pointer p6,.int .i64 0,.int .i64 64] h5 fun v7 h8=> ∃p9:Option Addr,∃n10:Int,v7=(.tuple #[.pointer p9,.int .i64 n10])∧ldS (rd h8 (c.add 1)) fun p11 l12 c13=>newK h8 (.cells #[.pointer p9,.int .i64 0] 166) fun b14 h15=>newK h15 (.cells #[.pointer (some (Addr.mk b14 0 none))] 164) fun b16 h17=>appK h17 164 1 8 #[.pointer none] p11 l12 c13 (some (Addr.mk b16 0 none)) 1 fun p18 l19 c20 h21=>stK h21 ((c.add 1).add 0) (.slice p18 l19 c20) fun h22=>F34.wL3 n c a (IntKind.wrap .i64 (b+(1:Int))) h22 K) (K (.pointer (some c)) h)):=by kernel_rfl
def F34.wk3:Prop:=(∃m,F34.wL3 m c a b h K)
theorem F34.spec(H:newK h (.map #[] 0) fun b1 h2=>newK h2 (.cells #[.pointer (some f),.slice none 0 0,.map (some b1),.int .i64 0,.int .i64 0] 157) fun b3 h4=>F34.wk3 (Addr.mk b3 0 none) (if(4:Int)<(if(1:Int)>d then(1:Int)else d)then(4:Int)else(if(1:Int)>d then(1:Int)else d)) (0:Int) h4 K):Cl 34 [.pointer (some f),.int .i64 d] h K:=cT F34.T Tryz.func34 H
end
theorem F68.spec(a:Addr)(h:Heap)(K:KK)(H:ldS (rd h (a.add 1)) fun _ l2 _=>K (.int .i64 (Nat.cast l2:Int)) h):Cl 68 [.pointer (some a)] h K:=cN Tryz.func68 H
def F92.T:Hint:=⟨[(2,[0,4]),(3,[0])],[]⟩
section
variable (n:Nat)(a:Addr)(b:Value)(h:Heap)(K:KK)
def F92.wk3:Prop:=Cl 141 [.pointer (some a)] h fun v1 h2=> ∃n3:Int,∃b4:Bool,v1=(.tuple #[.int .u64 n3,.bool b4])∧K (.tuple #[.int .u64 n3,.bool b4]) h2
def F92.wL2:Prop:=Lp Tryz.f92 F92.T [1,0,1,0] n [(0,(.pointer (some a))),(4,b)] h K
theorem F92.sL2:F92.wL2 (n+1) a b h K=(dynK Tryz.prog X b [] h fun v1 h2=>ldB (some v1) fun b3=>bcase (!b3) (F92.wL2 n a b h2 K) (F92.wk3 a h2 K)):=by kernel_rfl
def F92.wk2:Prop:=(∃m,F92.wL2 m a b h K)
theorem F92.spec(H:F92.wk2 a (.func (.func 140) #[.pointer (some a)] #[]) h K):Cl 92 [.pointer (some a)] h K:=cT F92.T Tryz.func92 H
end
theorem F129.spec(a:Addr)(h:Heap)(K:KK)(H:ldP (rd h (a.add 0)) fun p1=>Cl 177 [.pointer p1] h fun v2 h3=>ldP (some v2) fun p4=>Cl 92 [.pointer p4] h3 fun v5 h6=> ∃n7:Int,∃b8:Bool,v5=(.tuple #[.int .u64 n7,.bool b8])∧bcase b8 (stK h6 ((a.add 1).add 0) (.int .i64 (IntKind.wrap .i64 n7)) fun h9=>K (.bool b8) h9) (K (.bool b8) h6)):Cl 129 [.pointer (some a)] h K:=cN Tryz.func129 H
def F130.T:Hint:=⟨[(3,[0,1,2,7,17,18])],[(5,[[(0,[]),(1,[]),(2,[]),(3,[]),(4,[]),(5,[]),(6,[]),(7,[]),(8,[]),(9,[]),(10,[]),(11,[]),(12,[]),(13,[]),(14,[]),(15,[]),(16,[]),(17,[])]])]⟩
section
variable (n:Nat)(d g:Addr)(f a c b:Int)(h:Heap)(K:KK)
def F130.wL3:Prop:=Lp Tryz.f130 F130.T [1,1,0,1,0] n [(0,(.pointer (some d))),(1,(.pointer (some g))),(2,(.int .i64 f)),(7,(.int .i64 a)),(17,(.int .i64 c)),(18,(.int .i64 b))] h K
theorem F130.sL3:F130.wL3 (n+1) d g f a c b h K=(bcase (decide (b<c)) (ldS (rd h (d.add 1)) fun p1 l2 _=>(a≠0∧(a≠0∧(a≠0∧ptrK p1 fun a4=>0≤(Int.tmod (IntKind.wrap .i64 ((Int.tmod (IntKind.wrap .i64 ((Int.tmod f a)+b)) a)+a)) a)∧(Int.tmod (IntKind.wrap .i64 ((Int.tmod (IntKind.wrap .i64 ((Int.tmod f a)+b)) a)+a)) a)<(Nat.cast l2:Int)∧ldP (rd h (a4.add (Int.toNat (Int.tmod (IntKind.wrap .i64 ((Int.tmod (IntKind.wrap .i64 ((Int.tmod f a)+b)) a)+a)) a)*1))) fun p5=>eqE Tryz.prog h 164 (.pointer p5) (.pointer (some g)) fun b6=>bcase b6 (F130.wL3 n d g f a c (IntKind.wrap .i64 (b+(1:Int))) h K) (ptrK p5 fun a7=>ldP (rd h (a7.add 0)) fun p8=>Cl 178 [.pointer p8] h fun v9 h10=>ldP (some v9) fun p11=>Cl 92 [.pointer p11] h10 fun v12 h13=> ∃n14:Int,∃b15:Bool,v12=(.tuple #[.int .u64 n14,.bool b15])∧bcase b15 (stK h13 ((g.add 1).add 0) (.int .i64 (IntKind.wrap .i64 n14)) fun h16=>ldI .i64 (rd h16 (d.add 4)) fun n17=>stK h16 ((d.add 4).add 0) (.int .i64 (IntKind.wrap .i64 (n17+(1:Int)))) fun h18=>K (.bool true) h18) (F130.wL3 n d g f a c (IntKind.wrap .i64 (b+(1:Int))) h13 K)))))) (K (.bool false) h)):=by kernel_rfl
def F130.wk3:Prop:=(∃m,F130.wL3 m d g f a c b h K)
theorem F130.spec(H:ldS (rd h (d.add 1)) fun _ l2 _=>F130.wk3 d g f (Nat.cast l2:Int) (Nat.cast l2:Int) (0:Int) h K):Cl 130 [.pointer (some d),.pointer (some g),.int .i64 f] h K:=cT F130.T Tryz.func130 H
end
def F81.T:Hint:=⟨[],[(6,[[(0,[]),(1,[]),(2,[]),(3,[]),(4,[]),(5,[]),(6,[]),(7,[]),(8,[]),(9,[]),(10,[])]])]⟩
theorem F81.spec(a:Addr)(b c:Int)(h:Heap)(K:KK)(H:bcase (decide (b<(0:Int))) (K (.bool false) h) (ldS (rd h (a.add 1)) fun _ l2 _=>bcase (decide (b≥(Nat.cast l2:Int))) (K (.bool false) h) (ldS (rd h (a.add 1)) fun p4 l5 _=>ptrK p4 fun a7=>0≤b∧b<(Nat.cast l5:Int)∧ldP (rd h (a7.add (Int.toNat b*1))) fun p8=>ptrK p8 fun a9=>ldI .i64 (rd h (a9.add 1)) fun n10=>bcase (n10==(0:Int)) (Cl 129 [.pointer p8] h fun v11 h12=>ldB (some v11) fun b13=>bcase (!b13) (Cl 130 [.pointer (some a),.pointer p8,.int .i64 c] h12 fun v14 h15=>ldB (some v14) fun b16=>K (.bool b16) h15) (ldM (rd h12 (a.add 2)) fun r17=>ptrK p8 fun a18=>ldI .i64 (rd h12 (a18.add 1)) fun n19=>lookK h12 r17 .i64 .i64 n19 fun o20=>ldP (some (lkV (.pointer none) o20)) fun p21=>Cl 114 [.pointer p21] h12 fun v24 h25=>ldB (some v24) fun b26=>bcase b26 (ptrK p8 fun a27=>stK h25 ((a27.add 1).add 0) (.int .i64 0) fun h28=>K (.bool true) h28) (K (.bool true) h25))) (ldM (rd h (a.add 2)) fun r29=>ptrK p8 fun a30=>ldI .i64 (rd h (a30.add 1)) fun n31=>lookK h r29 .i64 .i64 n31 fun o32=>ldP (some (lkV (.pointer none) o32)) fun p33=>Cl 114 [.pointer p33] h fun v36 h37=>ldB (some v36) fun b38=>bcase b38 (ptrK p8 fun a39=>stK h37 ((a39.add 1).add 0) (.int .i64 0) fun h40=>K (.bool true) h40) (K (.bool true) h37))))):Cl 81 [.pointer (some a),.int .i64 b,.int .i64 c] h K:=cT F81.T Tryz.func81 H
end
section
def stp(f:Nat):Value:= .func (.func 140) #[.pointer (some ⟨f,0,none⟩)] #[]
theorem go140:xget X 140=some Ext.go:=by kernel_rfl
structure DS(base n:Nat)(cs:List Int)(T:Nat)(q:List Int):Prop where
 top:cs.getD base 0=T
 bot:cs.getD (base+1) 0=((T+q.length:Nat):Int)
 len:q.length≤n
 val: ∀i,i<q.length→cs.getD (base+2+(T+i)%n) 0=q.getD i 0
theorem slotN(base n x:Nat):slotOf base n (x:Int)=base+2+x%n:=by
 unfold slotOf
 rw[Int.tmod_eq_emod_of_nonneg (by omega)]
 congr 1
theorem getD_set'{l:List Int}{i j:Nat}{v:Int}(hi:i<l.length):(l.set i v).getD j 0=if i=j then v else l.getD j 0:=by
 by_cases h:i=j
 ·subst h;simp[hi]
 ·simp[List.getD,h]
section
variable {h h0:Heap}{f d bx by_ m mc base n:Nat}{cs:List Int}{ops fails:Int}{K:Value→Heap→Prop}{A:Dc}
theorem run_go{g:Nat}(hi:True)(W:DW h d m mc base n cs ops fails)(H:DcIs h f d bx by_ A)(d1:f≠d)(d2:f≠m)(d3:f≠mc)(hph:A.ph≤14)(hp1:A.ph=2∨A.ph=7→0≤A.b)(hp2:A.ph=13→0≤A.t)
  (hD:(stepD base n cs A).1.done=true→ ∀h' ops' fails',DW h' d m mc base n (stepD base n cs A).2 ops' fails'→Only [f,m,mc] h h'→K (.tuple #[.int .u64 (gotDV (stepD base n cs A).1),.bool (gotDB (stepD base n cs A).1)]) h')
  (hN:(stepD base n cs A).1.done=false→ ∀h' ops' fails',DcIs h' f d bx by_ (stepD base n cs A).1→DW h' d m mc base n (stepD base n cs A).2 ops' fails'→Only [f,m,mc] h h'→F92.wL2 g ⟨f,0,none⟩ (stp f) h' K):
  F92.wL2 (g+1) ⟨f,0,none⟩ (stp f) h K:=by
 rw[F92.sL2]
 unfold stp
 refine dynK_go go140 (stepD_dw W H d1 d2 d3 hph hp1 hp2 fun h1 fails1 H1 W1 O1=>ldB_of rfl ?_)
 cases hd:(stepD base n cs A).1.done with
 |true=>
  rw[Bool.not_true,bcase_false]
  unfold F92.wk3
  exact gotD_spec H1 ⟨_,_,rfl,hD hd h1 _ _ W1 O1⟩
 |false=>
  rw[Bool.not_false,bcase_true]
  exact hN hd h1 _ _ H1 W1 O1
theorem run_to{g:Nat}{A':Dc}{cs':List Int}(e:stepD base n cs A=(A',cs'))(hi:True)(W:DW h d m mc base n cs ops fails)(H:DcIs h f d bx by_ A)(d1:f≠d)(d2:f≠m)(d3:f≠mc)(hph:A.ph≤14)(hp1:A.ph=2∨A.ph=7→0≤A.b)(hp2:A.ph=13→0≤A.t)(hd:A'.done=false)
  (hN: ∀h' ops' fails',DcIs h' f d bx by_ A'→DW h' d m mc base n cs' ops' fails'→Only [f,m,mc] h h'→F92.wL2 g ⟨f,0,none⟩ (stp f) h' K):
  F92.wL2 (g+1) ⟨f,0,none⟩ (stp f) h K:=by
 refine run_go hi W H d1 d2 d3 hph hp1 hp2 (fun h'=> ?_) fun _=> ?_
 ·rw[e,hd]at h'
  cases h'
 ·rw[e]
  exact hN
theorem run_end{g:Nat}{A':Dc}{cs':List Int}(e:stepD base n cs A=(A',cs'))(hi:True)(W:DW h d m mc base n cs ops fails)(H:DcIs h f d bx by_ A)(d1:f≠d)(d2:f≠m)(d3:f≠mc)(hph:A.ph≤14)(hp1:A.ph=2∨A.ph=7→0≤A.b)(hp2:A.ph=13→0≤A.t)(hd:A'.done=true)
  (hD: ∀h' ops' fails',DW h' d m mc base n cs' ops' fails'→Only [f,m,mc] h h'→K (.tuple #[.int .u64 (gotDV A'),.bool (gotDB A')]) h'):
  F92.wL2 (g+1) ⟨f,0,none⟩ (stp f) h K:=by
 refine run_go hi W H d1 d2 d3 hph hp1 hp2 (fun _=> ?_) fun h'=> ?_
 ·rw[e]
  exact hD
 ·rw[e,hd]at h'
  cases h'
def Apart(base n:Nat)(cs cs':List Int):Prop:=cs'.length=cs.length∧ ∀x,x<base∨base+2+n≤x→cs'.getD x 0=cs.getD x 0
end
end
section
section
variable {h h0:Heap}{f d bx by_ m mc base n:Nat}{cs:List Int}{ops fails:Int}{K:Value→Heap→Prop}
theorem runsteal{T:Nat}{q:List Int}(W:DW h d m mc base n cs ops fails)(S:DS base n cs T q)(hT:T+q.length<1000000000)(H:DcIs h f d bx by_ ⟨0,0,0,11,false,false⟩)(d1:f≠d)(d2:f≠m)(d3:f≠mc)
  (hE:q=[]→ ∀h' ops' fails',DW h' d m mc base n cs ops' fails'→Only [f,m,mc] h h'→K (.tuple #[.int .u64 0,.bool false]) h')
  (hK: ∀x q',q=x::q'→ ∀h' ops' fails' cs',DS base n cs' (T+1) q'→Apart base n cs cs'→DW h' d m mc base n cs' ops' fails'→Only [f,m,mc] h h'→K (.tuple #[.int .u64 x,.bool true]) h'):
  Cl 92 [.pointer (some ⟨f,0,none⟩)] h K:=by
 apply F92.spec
 unfold F92.wk2
 have hb:IntKind.wrap .i64 (cs.getD (base+1) 0)=((T+q.length:Nat):Int):=by rw[S.bot,wrap_i64 (by omega) (by omega)]
 have ht:IntKind.wrap .i64 (cs.getD base 0)=(T:Int):=by rw[S.top,wrap_i64 (by omega) (by omega)]
 have hl:=W.hl
 have hn:=W.hn
 refine⟨4,?_⟩
 refine run_to (A':=⟨0,T,0,12,false,false⟩) (cs':=cs) (by
  unfold stepD
  simp only[Bool.false_eq_true,if_false,ht]) (by decide) W H d1 d2 d3 (by simp) (by simp) (by simp) rfl fun h1 o1 f1 H1 W1 O1=> ?_
 cases q with
 |nil=>
  refine run_end (A':=⟨0,T,T,13,true,false⟩) (cs':=cs) (by
   unfold stepD
   simp only[Bool.false_eq_true,if_false,hb]
   simp) (by decide) W1 H1 d1 d2 d3 (by simp) (by simp) (by simp) rfl fun h2 o2 f2 W2 O2=> ?_
  have:=hE rfl h2 o2 f2 W2 (O1.trans O2 fun b hb _=>hb)
  simpa[gotDV,gotDB]using this
 |cons x q'=>
  simp only[List.length_cons]at hb hT
  refine run_to (A':=⟨0,T,((T+(q'.length+1):Nat):Int),13,false,false⟩) (cs':=cs) (by
   unfold stepD
   simp only[Bool.false_eq_true,if_false,hb]
   rw[decide_eq_false (by omega)]
   simp) (by decide) W1 H1 d1 d2 d3 (by simp) (by simp) (by simp) rfl fun h2 o2 f2 H2 W2 O2=> ?_
  have hv:cs.getD (slotOf base n (T:Int)) 0=x:=by
   rw[slotN]
   have:=S.val 0 (by simp)
   simpa using this
  refine run_to (A':=⟨x,T,((T+(q'.length+1):Nat):Int),14,false,false⟩) (cs':=cs) (by
   unfold stepD
   simp only[Bool.false_eq_true,if_false,hv]) (by decide) W2 H2 d1 d2 d3 (by simp) (by simp) (fun _=>by show(0:Int)≤(T:Int);omega) rfl fun h3 o3 f3 H3 W3 O3=> ?_
  refine run_end (A':=⟨x,T,((T+(q'.length+1):Nat):Int),14,true,true⟩) (cs':=cs.set base ((T+1:Nat):Int)) (by
   unfold stepD
   simp only[Bool.false_eq_true,if_false]
   rw[if_pos (by rw[S.top,wrap_u64 (by omega) (by omega)]),wrap_i64 (by omega) (by omega),wrap_u64 (by omega) (by omega)]
   simp) (by decide) W3 H3 d1 d2 d3 (by simp) (by simp) (by simp) rfl fun h4 o4 f4 W4 O4=> ?_
  have P:=((O1.trans O2 fun b hb _=>hb).trans O3 fun b hb _=>hb).trans O4 fun b hb _=>hb
  have:=hK x q' rfl h4 o4 f4 _ ?_ ?_ W4 P
  ·simpa[gotDV,gotDB]using this
  ·refine⟨?_,?_,by have:=S.len;simp at this;omega,fun i hi=> ?_⟩
   ·rw[getD_set' (by omega),if_pos rfl]
   ·rw[getD_set' (by omega),if_neg (by omega),S.bot]
    simp only[List.length_cons]
    omega
   ·rw[getD_set' (by omega),if_neg (by omega),show T+1+i=T+(i+1) by omega,S.val (i+1) (by simp;omega)]
    simp[List.getD]
  ·refine⟨by simp,fun y hy=> ?_⟩
   rw[getD_set' (by omega),if_neg (by omega)]
theorem runpop{T:Nat}{q:List Int}(W:DW h d m mc base n cs ops fails)(S:DS base n cs T q)(hT:T+q.length<1000000000)(H:DcIs h f d bx by_ ⟨0,0,0,4,false,false⟩)(d1:f≠d)(d2:f≠m)(d3:f≠mc)
  (hE:q=[]→ ∀h' ops' fails' cs',DS base n cs' T []→Apart base n cs cs'→DW h' d m mc base n cs' ops' fails'→Only [f,m,mc] h h'→K (.tuple #[.int .u64 0,.bool false]) h')
  (hK: ∀x q' T',q=q'++[x]→T'+q'.length≤T+q.length→DS base n cs (T) q→ ∀h' ops' fails' cs',DS base n cs' T' q'→Apart base n cs cs'→DW h' d m mc base n cs' ops' fails'→Only [f,m,mc] h h'→K (.tuple #[.int .u64 x,.bool true]) h'):
  Cl 92 [.pointer (some ⟨f,0,none⟩)] h K:=by
 apply F92.spec
 unfold F92.wk2
 have hb:IntKind.wrap .i64 (cs.getD (base+1) 0)=((T+q.length:Nat):Int):=by rw[S.bot,wrap_i64 (by omega) (by omega)]
 have ht:IntKind.wrap .i64 (cs.getD base 0)=(T:Int):=by rw[S.top,wrap_i64 (by omega) (by omega)]
 have hl:=W.hl
 have hn:=W.hn
 refine⟨6,?_⟩
 refine run_to (A':=⟨0,0,((T+q.length:Nat):Int)-1,5,false,false⟩) (cs':=cs) (by
  unfold stepD
  simp only[Bool.false_eq_true,if_false,hb]
  rw[wrap_i64 (by omega) (by omega)]) (by decide) W H d1 d2 d3 (by simp) (by simp) (by simp) rfl fun h1 o1 f1 H1 W1 O1=> ?_
 refine run_to (A':=⟨0,0,((T+q.length:Nat):Int)-1,6,false,false⟩) (cs':=cs.set (base+1) (IntKind.wrap .u64 (((T+q.length:Nat):Int)-1))) (by
  unfold stepD
  simp only[Bool.false_eq_true,if_false]) (by decide) W1 H1 d1 d2 d3 (by simp) (by simp) (by simp) rfl fun h2 o2 f2 H2 W2 O2=> ?_
 have ht2:IntKind.wrap .i64 ((cs.set (base+1) (IntKind.wrap .u64 (((T+q.length:Nat):Int)-1))).getD base 0)=(T:Int):=by rw[getD_set' (by omega),if_neg (by omega),ht]
 have top2:(cs.set (base+1) (IntKind.wrap .u64 (((T+q.length:Nat):Int)-1))).getD base 0=(T:Int):=by rw[getD_set' (by omega),if_neg (by omega),S.top]
 have P2:=O1.trans O2 fun b hb _=>hb
 have ap2:Apart base n cs (cs.set (base+1) (IntKind.wrap .u64 (((T+q.length:Nat):Int)-1))):=⟨by simp,fun y hy=>by rw[getD_set' (by omega),if_neg (by omega)]⟩
 by_cases hq:q=[]
 ·subst hq
  simp only[List.length_nil,Nat.add_zero]at*
  refine run_to (A':=⟨0,T,(T:Int)-1,10,false,false⟩) (cs':=cs.set (base+1) (IntKind.wrap .u64 ((T:Int)-1))) (by
   unfold stepD
   simp only[Bool.false_eq_true,if_false,ht2]
   rw[decide_eq_true (by omega)]
   simp) (by decide) W2 H2 d1 d2 d3 (by simp) (by simp) (by simp) rfl fun h3 o3 f3 H3 W3 O3=> ?_
  refine run_end (A':=⟨0,T,(T:Int)-1,10,true,false⟩) (cs':=(cs.set (base+1) (IntKind.wrap .u64 ((T:Int)-1))).set (base+1) (T:Int)) (by
   unfold stepD
   simp only[Bool.false_eq_true,if_false]
   rw[show(T:Int)-1+1=T by omega,wrap_i64 (n:=(T:Int)) (by omega) (by omega),wrap_u64 (n:=(T:Int)) (by omega) (by omega)]) (by decide) W3 H3 d1 d2 d3 (by simp) (by simp) (by simp) rfl fun h4 o4 f4 W4 O4=> ?_
  have:=hE (by trivial) h4 o4 f4 _ ⟨?_,?_,Nat.zero_le _,fun i hi=>by simp at hi⟩ ⟨by simp,fun y hy=> ?_⟩ W4 ((P2.trans O3 fun b hb _=>hb).trans O4 fun b hb _=>hb)
  ·simpa[gotDV,gotDB]using this
  ·rw[getD_set' (by simp;omega),if_neg (by omega)]
   exact top2
  ·rw[getD_set' (by simp;omega),if_pos rfl]
   simp
  ·rw[getD_set' (by simp;omega),if_neg (by omega)]
   exact ap2.2 y hy
 ·obtain⟨q',x,rfl⟩: ∃q' x,q=q'++[x]:=⟨q.dropLast,q.getLast hq,(List.dropLast_concat_getLast hq).symm⟩
  have sl:=S.len
  simp only[List.length_append,List.length_cons,List.length_nil,Nat.zero_add]at*
  have eb:(((T+(q'.length+1):Nat):Int)-1)=((T+q'.length:Nat):Int):=by omega
  have ew:IntKind.wrap .u64 ((T+q'.length:Nat):Int)=((T+q'.length:Nat):Int):=wrap_u64 (by omega) (by omega)
  simp only[eb,ew]at H1 H2 W2 ht2 top2 ap2
  refine run_to (A':=⟨0,T,((T+q'.length:Nat):Int),7,false,false⟩) (cs':=cs.set (base+1) ((T+q'.length:Nat):Int)) (by
   unfold stepD
   simp only[Bool.false_eq_true,if_false,ht2]
   rw[decide_eq_false (by omega)]
   simp) (by decide) W2 H2 d1 d2 d3 (by simp) (by simp) (by simp) rfl fun h3 o3 f3 H3 W3 O3=> ?_
  have hmod:(T+q'.length)%n<n:=Nat.mod_lt _ (by omega)
  have hv:(cs.set (base+1) ((T+q'.length:Nat):Int)).getD (slotOf base n ((T+q'.length:Nat):Int)) 0=x:=by
   rw[slotN,getD_set' (by omega),if_neg (by omega),S.val q'.length (by simp)]
   simp[List.getD]
  have vals: ∀i,i<q'.length→(cs.set (base+1) ((T+q'.length:Nat):Int)).getD (base+2+(T+i)%n) 0=q'.getD i 0:=by
   intro i hi
   rw[getD_set' (by omega),if_neg (by omega),S.val i (by simp;omega)]
   simp only[List.getD,List.getElem?_append_left hi]
  by_cases h1q:T<T+q'.length
  ·refine run_end (A':=⟨x,T,((T+q'.length:Nat):Int),7,true,true⟩) (cs':=cs.set (base+1) ((T+q'.length:Nat):Int)) (by
    unfold stepD
    simp only[Bool.false_eq_true,if_false,hv]
    rw[if_pos (decide_eq_true (by omega))]) (by decide) W3 H3 d1 d2 d3 (by simp) (fun _=>by show(0:Int)≤((T+q'.length:Nat):Int);omega) (by simp) rfl fun h4 o4 f4 W4 O4=> ?_
   have:=hK x q' T rfl (by omega) S h4 o4 f4 _ ⟨top2,by rw[getD_set' (by omega),if_pos rfl],by omega,vals⟩ ap2 W4 ((P2.trans O3 fun b hb _=>hb).trans O4 fun b hb _=>hb)
   simpa[gotDV,gotDB]using this
  ·have hq0:q'=[]:=List.length_eq_zero_iff.1 (by omega)
   subst hq0
   simp only[List.length_nil,Nat.add_zero]at*
   refine run_to (A':=⟨x,T,(T:Int),8,false,false⟩) (cs':=cs.set (base+1) (T:Int)) (by
    unfold stepD
    simp only[Bool.false_eq_true,if_false,hv]
    rw[if_neg (by simp)]) (by decide) W3 H3 d1 d2 d3 (by simp) (fun _=>by show(0:Int)≤(T:Int);omega) (by simp) rfl fun h4 o4 f4 H4 W4 O4=> ?_
   refine run_to (A':=⟨x,T,(T:Int),9,false,true⟩) (cs':=(cs.set (base+1) (T:Int)).set base ((T+1:Nat):Int)) (by
    unfold stepD
    simp only[Bool.false_eq_true,if_false]
    rw[if_pos (by rw[top2,wrap_u64 (by omega) (by omega)]),wrap_i64 (by omega) (by omega),wrap_u64 (by omega) (by omega)]
    simp) (by decide) W4 H4 d1 d2 d3 (by simp) (by simp) (by simp) rfl fun h5 o5 f5 H5 W5 O5=> ?_
   refine run_end (A':=⟨x,T,(T:Int),9,true,true⟩) (cs':=((cs.set (base+1) (T:Int)).set base ((T+1:Nat):Int)).set (base+1) ((T+1:Nat):Int)) (by
    unfold stepD
    simp only[Bool.false_eq_true,if_false]
    rw[wrap_i64 (by omega) (by omega),wrap_u64 (by omega) (by omega)]
    simp) (by decide) W5 H5 d1 d2 d3 (by simp) (by simp) (by simp) rfl fun h6 o6 f6 W6 O6=> ?_
   have:=hK x [] (T+1) rfl (by simp) S h6 o6 f6 _ ⟨?_,?_,Nat.zero_le _,fun i hi=>by simp at hi⟩ ⟨by simp,fun y hy=> ?_⟩ W6 ((((P2.trans O3 fun b hb _=>hb).trans O4 fun b hb _=>hb).trans O5 fun b hb _=>hb).trans O6 fun b hb _=>hb)
   ·simpa[gotDV,gotDB]using this
   ·rw[getD_set' (by simp;omega),if_neg (by omega),getD_set' (by simp;omega),if_pos rfl]
   ·rw[getD_set' (by simp;omega),if_pos rfl]
    simp
   ·rw[getD_set' (by simp;omega),if_neg (by omega),getD_set' (by simp;omega),if_neg (by omega)]
    exact ap2.2 y hy
end
end
section
section
variable {h:Heap}{d m mc base n:Nat}{cs:List Int}{ops fails:Int}{Q:Value→Heap→Prop}{T:Nat}{q:List Int}
theorem poprun(W:DW h d m mc base n cs ops fails)(S:DS base n cs T q)(hT:T+q.length<1000000000)
  (hE:q=[]→ ∀h' ops' fails' cs',DS base n cs' T []→Apart base n cs cs'→DW h' d m mc base n cs' ops' fails'→Only [m,mc] h h'→Q (.tuple #[.int .u64 0,.bool false]) h')
  (hQ: ∀x q' T',q=q'++[x]→T'+q'.length≤T+q.length→ ∀h' ops' fails' cs',DS base n cs' T' q'→Apart base n cs cs'→DW h' d m mc base n cs' ops' fails'→Only [m,mc] h h'→Q (.tuple #[.int .u64 x,.bool true]) h'):
  Cl 177 [.pointer (some ⟨d,0,none⟩)] h (fun v1 h2=>ldP (some v1) (fun p3=>Cl 92 [.pointer p3] h2 Q)):=by
 have lt:=W.lt
 refine pop_dw fun f bx by_ h1 H1 O1 a b c a' b' c' n1 n2 n3=>ldP_of rfl ?_
 have hO: ∀h2,Only [f,m,mc] h1 h2→Only [m,mc] h h2:=fun h2 O2=>(O1.mono (T:=[m,mc]) (by simp)).trans O2 fun x hx hl=>by
  simp at hx ⊢
  omega
 exact runpop (W.only O1 (by simp) (by simp) (by simp)) S hT H1 (by omega) (by omega) (by omega) (fun e h2 o2 f2 cs2 r1 r2 W2 O2=>hE e h2 o2 f2 cs2 r1 r2 W2 (hO h2 O2)) fun x q' T' e le _ h2 o2 f2 cs2 r1 r2 W2 O2=>hQ x q' T' e le h2 o2 f2 cs2 r1 r2 W2 (hO h2 O2)
theorem stealrun(W:DW h d m mc base n cs ops fails)(S:DS base n cs T q)(hT:T+q.length<1000000000)
  (hE:q=[]→ ∀h' ops' fails',DW h' d m mc base n cs ops' fails'→Only [m,mc] h h'→Q (.tuple #[.int .u64 0,.bool false]) h')
  (hQ: ∀x q',q=x::q'→ ∀h' ops' fails' cs',DS base n cs' (T+1) q'→Apart base n cs cs'→DW h' d m mc base n cs' ops' fails'→Only [m,mc] h h'→Q (.tuple #[.int .u64 x,.bool true]) h'):
  Cl 178 [.pointer (some ⟨d,0,none⟩)] h (fun v1 h2=>ldP (some v1) (fun p3=>Cl 92 [.pointer p3] h2 Q)):=by
 have lt:=W.lt
 refine steal_dw fun f bx by_ h1 H1 O1 a b c a' b' c' n1 n2 n3=>ldP_of rfl ?_
 have hO: ∀h2,Only [f,m,mc] h1 h2→Only [m,mc] h h2:=fun h2 O2=>(O1.mono (T:=[m,mc]) (by simp)).trans O2 fun x hx hl=>by
  simp at hx ⊢
  omega
 exact runsteal (W.only O1 (by simp) (by simp) (by simp)) S hT H1 (by omega) (by omega) (by omega) (fun e h2 o2 f2 W2 O2=>hE e h2 o2 f2 W2 (hO h2 O2)) fun x q' e h2 o2 f2 cs2 r1 r2 W2 O2=>hQ x q' e h2 o2 f2 cs2 r1 r2 W2 (hO h2 O2)
end
end
section
def Rng(h:Heap)(r b:Nat)(k:IntKind)(m left:List (Int×Value)):Prop:=
 ∃es cl since seen last,mp h b=some (es,cl)∧es.toList.map (fun e=>(e.key,e.val))=m.map (fun p=>(Value.int k p.1,p.2))∧(es.toList.map (·.born)).Nodup∧h[r]? =some (.mapIter (some b) since seen last)∧
  (∀x∈es.toList,x.born<since)∧since≤last∧(leftOf es seen).toList.map (fun e=>(e.key,e.val))=left.map (fun p=>(Value.int k p.1,p.2))∧since≤cl
def RngAt(h:Heap)(r b:Nat)(k:IntKind)(x:Int)(v:Value):Prop:=
 ∃(es:Array MapEntry) (since:Nat) (seen:Array Nat) (cl:Nat) (e:MapEntry),h[r]? =some (.mapIter (some b) since (seen.push e.born) cl)∧mp h b=some (es,cl)∧e∈es.toList∧(es.toList.map (·.born)).Nodup∧e.key= .int k x∧e.val=v
theorem Rng.only{S:List Nat}{h h':Heap}{r b:Nat}{k:IntKind}{m left:List (Int×Value)}(H:Rng h r b k m left)(O:Only S h h')(hr:r∉S)(hb:b∉S):Rng h' r b k m left:=by
 obtain⟨es,cl,since,seen,last,h1,h2,h3,h4,h5⟩:=H
 refine⟨es,cl,since,seen,last,?_,h2,h3,?_,h5⟩
 ·have:=mp_obj h1
  unfold mp
  rw[O.same b (Array.getElem?_eq_some_iff.1 this).1 hb,this]
 ·rw[O.same r (Array.getElem?_eq_some_iff.1 h4).1 hr]
  exact h4
theorem Only.push_obj(h:Heap)(o:Obj)(ho: ∀c e f,o≠ .cells c e f):Only [] h (h.push o):=by
 refine⟨by simp,fun b hb _=>by simp[Array.getElem?_push,Nat.ne_of_lt hb],fun a=> ?_⟩
 unfold fz
 rw[Array.getElem?_push]
 by_cases ha:a.block=h.size
 ·rw[if_pos ha,ha]
  cases o<;>simp_all
 ·rw[if_neg ha]
theorem Only.set_iter{h:Heap}{r:Nat}{m:Option Nat}{s:Nat}{seen:Array Nat}{l:Nat}(hr:h[r]? =some (.mapIter m s seen l))(m':Option Nat)(s':Nat)(seen':Array Nat)(l':Nat):Only [r] h (h.setIfInBounds r (.mapIter m' s' seen' l')):=by
 have hlt:=(Array.getElem?_eq_some_iff.1 hr).1
 refine⟨by simp,fun b hb hS=> ?_,fun a=> ?_⟩
 ·have:r≠b:=fun e=>hS (by simp[e])
  rw[Array.getElem?_setIfInBounds,if_neg this]
 ·unfold fz
  rw[Array.getElem?_setIfInBounds]
  by_cases ha:r=a.block
  ·rw[if_pos ha,if_pos hlt,←ha,hr]
  ·rw[if_neg ha]
theorem rng_start{h:Heap}{b:Nat}{k:IntKind}{m:List (Int×Value)}{K:Option Addr→Heap→Prop}(H:MapM h b k m)
  (hK: ∀h',Rng h' h.size b k m m→Only [] h h'→h'.size=h.size+1→K (some ⟨h.size,0,none⟩) h'):rngK h (some b) K:=by
 obtain⟨es,cl,h1,h2,h3,h4,h5⟩:=H
 have hb:=mp_obj h1
 have hlt:=(Array.getElem?_eq_some_iff.1 hb).1
 refine⟨es,cl,h1,hK _ ⟨es,cl,cl,#[],cl,?_,h2,h4,by simp,h5,Nat.le_refl _,?_,Nat.le_refl _⟩ (Only.push_obj _ _ (by simp)) (by simp)⟩
 ·unfold mp
  rw[Array.getElem?_push,if_neg (Nat.ne_of_lt hlt),hb]
 ·rw[←h2]
  unfold leftOf
  rw[Array.toList_filter,List.filter_eq_self.2 (by simp)]
theorem rng_next{h:Heap}{r b:Nat}{k:IntKind}{m left:List (Int×Value)}{K0:Prop}{K1:Value→Value→Heap→Prop}(H:Rng h r b k m left)(hrb:r≠b)(h0:left=[]→K0)
  (h1: ∀A x v B h',left=A++(x,v)::B→Rng h' r b k m (A++B)→RngAt h' r b k x v→Only [r] h h'→h'.size=h.size→K1 (.int k x) v h'):nxtK h (some ⟨r,0,none⟩) K0 K1:=by
 obtain⟨es,cl,since,seen,last,g1,g2,g3,g4,g5,g6,g7,g8⟩:=H
 refine⟨rfl,some b,since,seen,last,g4,es,cl,g1,g5,g6,fun hz=>h0 ?_,fun e he=> ?_⟩
 ·have hl:(leftOf es seen).toList=[]:=by
   apply List.eq_nil_of_length_eq_zero
   simpa using hz
  rw[hl]at g7
  cases left with
  |nil=>rfl
  |cons a l=>simp at g7
 ·obtain⟨A',B',eL⟩:=List.append_of_mem he
  rw[eL,List.map_append,List.map_cons]at g7
  obtain⟨A,C,e1,e2,e3⟩:=List.map_eq_append_iff.1 g7.symm
  obtain⟨⟨x,v⟩,B,e4,e5,e6⟩:=List.map_eq_cons_iff.1 e3
  subst e4 e1
  simp only[Prod.mk.injEq]at e5
  have hsub:(leftOf es seen).toList.Sublist es.toList:=by unfold leftOf;rw[Array.toList_filter];exact List.filter_sublist
  have hnd:((A'++e::B').map (·.born)).Nodup:=by rw[←eL];exact g3.sublist (hsub.map _)
  have hlt:=(Array.getElem?_eq_some_iff.1 g4).1
  have hit:(h.setIfInBounds r (.mapIter (some b) since (seen.push e.born) cl))[r]? =some (.mapIter (some b) since (seen.push e.born) cl):=by
   rw[Array.getElem?_setIfInBounds,if_pos rfl,if_pos hlt]
  have hmp:mp (h.setIfInBounds r (.mapIter (some b) since (seen.push e.born) cl)) b=some (es,cl):=by
   unfold mp
   rw[Array.getElem?_setIfInBounds,if_neg hrb,mp_obj g1]
  have hK:=h1 A x v B (h.setIfInBounds r (.mapIter (some b) since (seen.push e.born) cl)) rfl ⟨es,cl,since,seen.push e.born,cl,hmp,g2,g3,hit,g5,g8,?_,g8⟩
   ⟨es,since,seen,cl,e,hit,hmp,hsub.subset he,g3,e5.1.symm,e5.2.symm⟩ (Only.set_iter g4 _ _ _ _) (by simp)
  ·rw[←e5.1,←e5.2]
   exact hK
  ·have hf:(leftOf es (seen.push e.born)).toList=A'++B':=by
    have h2:(leftOf es (seen.push e.born)).toList=(leftOf es seen).toList.filter fun y=> !(y.born==e.born):=by
     unfold leftOf
     rw[Array.toList_filter,Array.toList_filter,List.filter_filter]
     apply List.filter_congr
     intro y _
     simp only[Array.contains_push]
     cases h:seen.contains y.born<;>cases h':(y.born==e.born)<;>simp_all
    rw[h2,eL]
    rw[List.map_append,List.map_cons,List.nodup_append]at hnd
    obtain⟨n1,n2,n3⟩:=hnd
    rw[List.nodup_cons]at n2
    rw[List.filter_append,List.filter_cons]
    simp only[beq_self_eq_true,Bool.not_true,Bool.false_eq_true,if_false]
    rw[List.filter_eq_self.2 fun y hy=> ?_,List.filter_eq_self.2 fun y hy=> ?_]
    ·have:y.born≠e.born:=fun e'=>n2.1 (e'▸List.mem_map.2 ⟨y,hy,rfl⟩)
     simpa using this
    ·have:y.born≠e.born:=fun e'=>n3 y.born (List.mem_map.2 ⟨y,hy,rfl⟩) e.born (by simp) e'
     simpa using this
   rw[hf,List.map_append,List.map_append,e2,e6]
theorem rng_entry{h:Heap}{r b:Nat}{k:IntKind}{x:Int}{v:Value}{K:Value→Value→Prop}(H:RngAt h r b k x v)(hK:K (.int k x) v):entrK h (some ⟨r,0,none⟩) K:=by
 obtain⟨es,since,seen,cl,e,h1,h2,h3,h4,h5,h6⟩:=H
 refine⟨rfl,b,since,seen.push e.born,cl,es,e.born,e,h1,by simp,h2,?_,by rw[h5,h6];exact hK⟩
 rw[←Array.find?_toList]
 exact find_born e es.toList h4 h3
end
section
structure Wk where
 w:Nat
 d:Nat
 m:Nat
 mc:Nat
 cs:List Int
 ops:Int
 fails:Int
 T:Nat
 q:List Int
 job:Int
def Wk.bl(k:Wk):List Nat:=[k.w,k.d,k.m,k.mc]
structure WkIs(h:Heap)(k:Wk):Prop where
 own:At h k.w [ptrV k.d,.int .i64 k.job]
 dw:DW h k.d k.m k.mc 0 64 k.cs k.ops k.fails
 ds:DS 0 64 k.cs k.T k.q
 ne:k.w≠k.d∧k.w≠k.m∧k.w≠k.mc
theorem WkIs.only{h h':Heap}{k:Wk}{S:List Nat}(H:WkIs h k)(O:Only S h h')(hS: ∀b∈S,b∉k.bl):WkIs h' k:=
 ⟨H.own.only O fun hm=>hS _ hm (by simp[Wk.bl]),H.dw.only O (fun hm=>hS _ hm (by simp[Wk.bl])) (fun hm=>hS _ hm (by simp[Wk.bl])) fun hm=>hS _ hm (by simp[Wk.bl]),H.ds,H.ne⟩
theorem WkIs.lt{h:Heap}{k:Wk}(H:WkIs h k): ∀b∈k.bl,b<h.size:=fun b hb=>by
 have h1:=H.own.lt
 obtain⟨h2,h3,h4⟩:=H.dw.lt
 simp only[Wk.bl,List.mem_cons,List.not_mem_nil,or_false]at hb
 rcases hb with e|e|e|e<;>subst e<;>assumption
structure Jb where
 id:Nat
 A:MA
 G:Goal
structure PS where
 wp:Option Addr
 wc:Nat
 jb:Nat
 ws:List Wk
 jobs:List Jb
 last:Nat
 steals:Int
def cellP(s:Nat)(P:PS):List Value:=[ptrV s,.slice P.wp P.ws.length P.wc,.map (some P.jb),.int .i64 (P.last:Int),.int .i64 P.steals]
def PBl(p:Nat)(P:PS)(b:Nat):Prop:=b=p∨b=P.jb∨b∈OwnB P.wp∨(∃k∈P.ws,b∈k.bl)∨ ∃j∈P.jobs,b∈j.A.bl
structure Tags(τ:Nat→Nat)(p:Nat)(P:PS):Prop where
 p:τ p=0
 jb:τ P.jb=0
 wp: ∀b∈OwnB P.wp,τ b=0
 ws: ∀i k,P.ws[i]? =some k→ ∀b∈k.bl,τ b=2*i+1
 jobs: ∀j∈P.jobs,∀b∈j.A.bl,τ b=2*j.id+2
structure PoolIs(h:Heap)(p s:Nat)(P:PS):Prop where
 own:At h p (cellP s P)
 wks:Own h 0 1 P.wp P.ws.length P.wc (P.ws.map fun k=>ptrV k.w)
 wk: ∀k∈P.ws,WkIs h k
 jbm:MapM h P.jb .i64 (P.jobs.map fun j=>((j.id:Int),ptrV j.A.m))
 ma: ∀j∈P.jobs,MaIs h s j.A
 sep: ∃τ,Tags τ p P
 ne:p≠P.jb∧p∉OwnB P.wp∧P.jb∉OwnB P.wp
 ids:(P.jobs.map (·.id)).Nodup∧ ∀j∈P.jobs,1≤j.id∧j.id≤P.last
section
variable {h h':Heap}{p s:Nat}{P:PS}{S:List Nat}
theorem PoolIs.only(H:PoolIs h p s P)(O:Only S h h')(hS: ∀b∈S,¬PBl p P b):PoolIs h' p s P:=by
 refine⟨H.own.only O fun hm=>hS _ hm (.inl rfl),H.wks.only O fun b e hm=>hS b hm (.inr (.inr (.inl (by rw[e];simp[OwnB])))),fun k hk=>(H.wk k hk).only O fun b hb hm=>hS b hb (.inr (.inr (.inr (.inl ⟨k,hk,hm⟩)))),H.jbm.only O fun hm=>hS _ hm (.inr (.inl rfl)),fun j hj=>(H.ma j hj).only O fun b hb hm=>hS b hb (.inr (.inr (.inr (.inr ⟨j,hj,hm⟩)))),H.sep,H.ne,H.ids⟩
theorem PoolIs.only0(H:PoolIs h p s P)(O:Only [] h h'):PoolIs h' p s P:=H.only O (by simp)
theorem PoolIs.lt(H:PoolIs h p s P): ∀b,PBl p P b→b<h.size:=fun b hb=>by
 rcases hb with e|e|hb|⟨k,hk,hb⟩|⟨j,hj,hb⟩
 ·subst e;exact H.own.lt
 ·subst e;exact H.jbm.lt
 ·exact(H.wks.lt b hb).2
 ·exact(H.wk k hk).lt b hb
 ·exact(H.ma j hj).lt b hb
theorem PoolIs.set_wk(H:PoolIs h p s P){i:Nat}{k k':Wk}(hi:P.ws[i]? =some k)(O:Only S h h')(hS: ∀b∈S,b∈k.bl)(W:WkIs h' k')(hb:k'.bl=k.bl):PoolIs h' p s {P with ws:=P.ws.set i k'}:=by
 obtain⟨τ,t⟩:=H.sep
 have hil:i<P.ws.length:=(List.getElem?_eq_some_iff.1 hi).1
 have tS: ∀b∈S,τ b=2*i+1:=fun b hb=>t.ws i k hi b (hS b hb)
 have ew:k'.w=k.w:=by simp only[Wk.bl,List.cons.injEq]at hb;exact hb.1
 have em:(P.ws.set i k').map (fun k=>ptrV k.w)=P.ws.map fun k=>ptrV k.w:=by
  rw[List.map_set]
  apply List.ext_getElem?
  intro j
  rw[List.getElem?_set]
  by_cases hij:i=j
  ·subst hij
   rw[if_pos rfl,if_pos (by simpa using hil),List.getElem?_map,hi]
   simp[ew]
  ·rw[if_neg hij]
 refine⟨?_,?_,fun x hx=> ?_,H.jbm.only O fun hm=>by have:=tS _ hm;have:=t.jb;omega,fun j hj=>(H.ma j hj).only O fun b hb hm=>by have:=tS b hb;have:=t.jobs j hj b hm;omega,⟨τ,t.p,t.jb,t.wp,fun j x hx b hb'=> ?_,t.jobs⟩,H.ne,H.ids⟩
 ·have:=H.own.only O (fun hm=>by have:=tS _ hm;have:=t.p;omega)
  simpa[cellP]using this
 ·show Own h' 0 1 P.wp (P.ws.set i k').length P.wc ((P.ws.set i k').map fun k=>ptrV k.w)
  rw[em,List.length_set]
  exact H.wks.only O fun b e hm=>by have:=tS b hm;have:=t.wp b (by rw[e];simp[OwnB]);omega
 ·obtain⟨j,hj⟩:=List.mem_iff_getElem?.1 hx
  have hj:(P.ws.set i k')[j]? =some x:=hj
  rw[List.getElem?_set]at hj
  by_cases hij:i=j
  ·rw[if_pos hij,if_pos (by omega)]at hj
   injection hj with hj
   subst hj
   exact W
  ·rw[if_neg hij]at hj
   refine(H.wk x (List.mem_of_getElem? hj)).only O fun b hb hm=> ?_
   have:=tS b hb
   have:=t.ws j x hj b hm
   omega
 ·have hx:(P.ws.set i k')[j]? =some x:=hx
  rw[List.getElem?_set]at hx
  by_cases hij:i=j
  ·subst hij
   rw[if_pos rfl,if_pos hil]at hx
   injection hx with hx
   subst hx
   rw[hb]at hb'
   exact t.ws i k hi b hb'
  ·rw[if_neg hij]at hx
   exact t.ws j x hx b hb'
theorem pbl_set_wk{i b:Nat}{k k':Wk}(hi:P.ws[i]? =some k)(hb:k'.bl=k.bl)(h:PBl p {P with ws:=P.ws.set i k'} b):PBl p P b:=by
 have hil:i<P.ws.length:=(List.getElem?_eq_some_iff.1 hi).1
 rcases h with e|e|h|⟨x,hx,h⟩|h
 ·exact .inl e
 ·exact .inr (.inl e)
 ·exact .inr (.inr (.inl h))
 ·obtain⟨j,hj⟩:=List.mem_iff_getElem?.1 hx
  have hj:(P.ws.set i k')[j]? =some x:=hj
  rw[List.getElem?_set]at hj
  by_cases hij:i=j
  ·rw[if_pos hij,if_pos (by omega)]at hj
   injection hj with hj
   subst hj
   rw[hb]at h
   exact .inr (.inr (.inr (.inl ⟨k,List.mem_of_getElem? hi,h⟩)))
  ·rw[if_neg hij]at hj
   exact .inr (.inr (.inr (.inl ⟨x,List.mem_of_getElem? hj,h⟩)))
 ·exact .inr (.inr (.inr (.inr h)))
theorem PoolIs.set_ma(H:PoolIs h p s P){i:Nat}{j:Jb}{A':MA}(hi:P.jobs[i]? =some j)(O:Only S h h')(hS: ∀b∈S,PBl p P b→b∈j.A.bl)(M:MaIs h' s A')(em:A'.m=j.A.m)(hb: ∀b∈A'.bl,b∈j.A.bl∨h.size≤b):
  PoolIs h' p s {P with jobs:=P.jobs.set i {j with A:=A'}}:=by
 obtain⟨τ,t⟩:=H.sep
 have hil:i<P.jobs.length:=(List.getElem?_eq_some_iff.1 hi).1
 have hj:=List.mem_of_getElem? hi
 have tS: ∀b∈S,PBl p P b→τ b=2*j.id+2:=fun b hb h=>t.jobs j hj b (hS b hb h)
 have map_set: ∀{β:Type} (f:Jb→β),f {j with A:=A'}=f j→(P.jobs.set i {j with A:=A'}).map f=P.jobs.map f:=fun f e=>by
  rw[List.map_set,e]
  apply List.ext_getElem?
  intro x
  rw[List.getElem?_set]
  by_cases hix:i=x
  ·subst hix
   rw[if_pos rfl,if_pos (by simpa using hil),List.getElem?_map,hi]
   rfl
  ·rw[if_neg hix]
 have uniq: ∀x y,P.jobs[x]? =some y→y.id=j.id→x=i:=fun x y hy e=>by
  have nd:=H.ids.1
  have h1:(P.jobs.map (·.id))[x]? =some j.id:=by rw[List.getElem?_map,hy];simp[e]
  have h2:(P.jobs.map (·.id))[i]? =some j.id:=by rw[List.getElem?_map,hi];rfl
  have l1:x<(P.jobs.map (·.id)).length:=(List.getElem?_eq_some_iff.1 h1).1
  have l2:i<(P.jobs.map (·.id)).length:=(List.getElem?_eq_some_iff.1 h2).1
  apply Classical.byContradiction
  intro hne
  rcases Nat.lt_or_ge x i with h|h
  ·have:=(List.pairwise_iff_getElem.1 nd) x i l1 l2 h
   rw[List.getElem?_eq_getElem l1]at h1
   rw[List.getElem?_eq_getElem l2]at h2
   injection h1 with h1
   injection h2 with h2
   exact this (h1.trans h2.symm)
  ·have:=(List.pairwise_iff_getElem.1 nd) i x l2 l1 (by omega)
   rw[List.getElem?_eq_getElem l1]at h1
   rw[List.getElem?_eq_getElem l2]at h2
   injection h1 with h1
   injection h2 with h2
   exact this (h2.trans h1.symm)
 have tp: ∀b∈S,b≠p:=fun b hb e=>by subst e;have:=tS b hb (.inl rfl);have:=t.p;omega
 refine⟨?_,H.wks.only O fun b e hm=> ?_,fun k hk=>(H.wk k hk).only O fun b hb hm=> ?_,?_,fun y hy=> ?_,⟨fun b=>if b<h.size then τ b else 2*j.id+2,?_,?_,fun b hb=> ?_,fun x k hk b hb=> ?_,fun y hy b hb'=> ?_⟩,H.ne,?_⟩
 ·have:=H.own.only O (fun hm=>tp _ hm rfl)
  exact this
 ·have hb:b∈OwnB P.wp:=by rw[e];simp[OwnB]
  have:=tS b hm (.inr (.inr (.inl hb)))
  have:=t.wp b hb
  omega
 ·have h1:=tS b hb (.inr (.inr (.inr (.inl ⟨k,hk,hm⟩))))
  obtain⟨x,hx⟩:=List.mem_iff_getElem?.1 hk
  have:=t.ws x k hx b hm
  omega
 ·show MapM h' P.jb .i64 ((P.jobs.set i {j with A:=A'}).map fun j=>((j.id:Int),ptrV j.A.m))
  rw[map_set (fun j=>((j.id:Int),ptrV j.A.m)) (by simp[em])]
  exact H.jbm.only O fun hm=>by have:=tS _ hm (.inr (.inl rfl));have:=t.jb;omega
 ·obtain⟨x,hx⟩:=List.mem_iff_getElem?.1 hy
  have hx:(P.jobs.set i {j with A:=A'})[x]? =some y:=hx
  rw[List.getElem?_set]at hx
  by_cases hix:i=x
  ·rw[if_pos hix,if_pos (by omega)]at hx
   injection hx with hx
   subst hx
   exact M
  ·rw[if_neg hix]at hx
   refine(H.ma y (List.mem_of_getElem? hx)).only O fun b hb hm=> ?_
   have h1:=tS b hb (.inr (.inr (.inr (.inr ⟨y,List.mem_of_getElem? hx,hm⟩))))
   have h2:=t.jobs y (List.mem_of_getElem? hx) b hm
   exact hix (uniq x y hx (by omega)).symm
 ·show(if p<h.size then τ p else _)=0
  rw[if_pos H.own.lt]
  exact t.p
 ·show(if P.jb<h.size then τ P.jb else _)=0
  rw[if_pos H.jbm.lt]
  exact t.jb
 ·show(if b<h.size then τ b else _)=0
  rw[if_pos (H.wks.lt b hb).2]
  exact t.wp b hb
 ·show(if b<h.size then τ b else _)=_
  rw[if_pos ((H.wk k (List.mem_of_getElem? hk)).lt b hb)]
  exact t.ws x k hk b hb
 ·show(if b<h.size then τ b else _)=_
  obtain⟨x,hx⟩:=List.mem_iff_getElem?.1 hy
  have hx:(P.jobs.set i {j with A:=A'})[x]? =some y:=hx
  rw[List.getElem?_set]at hx
  by_cases hix:i=x
  ·rw[if_pos hix,if_pos (by omega)]at hx
   injection hx with hx
   subst hx
   rcases hb b hb' with h1|h1
   ·rw[if_pos ((H.ma j hj).lt b h1)]
    exact t.jobs j hj b h1
   ·rw[if_neg (by omega)]
  ·rw[if_neg hix]at hx
   rw[if_pos ((H.ma y (List.mem_of_getElem? hx)).lt b hb')]
   exact t.jobs y (List.mem_of_getElem? hx) b hb'
 ·refine⟨?_,fun y hy=> ?_⟩
  ·show((P.jobs.set i {j with A:=A'}).map (·.id)).Nodup
   rw[map_set (·.id) rfl]
   exact H.ids.1
  ·obtain⟨x,hx⟩:=List.mem_iff_getElem?.1 hy
   have hx:(P.jobs.set i {j with A:=A'})[x]? =some y:=hx
   rw[List.getElem?_set]at hx
   by_cases hix:i=x
   ·rw[if_pos hix,if_pos (by omega)]at hx
    injection hx with hx
    subst hx
    exact H.ids.2 j hj
   ·rw[if_neg hix]at hx
    exact H.ids.2 y (List.mem_of_getElem? hx)
end
end
end Go.Proofs.YtnofenejoebkhaaGreat.Ev
