/- PART 2 OF WHAT THE LAW WeighBests STANDS ON: PlyF4, EvJ, EvK, EvL, FunF4, FunA4, FunB4, FunC4, FunD4, FunE4, FunG4, FunH4, OrdF4, OrdC4, MakA4. Conditions: each part names its own. -/
import Derived.Test.YtnbnlhpleomaoaaGreatG1
import Derived.Laws.OwnMore
import Derived.WalkKit
import Derived.ProofKit
import Derived.OpenShut
import Derived.Carry
import Derived.Deep.Slices
import Derived.Laws.AppendOwn
/- PRINTED BY PROGRAM: what each of these functions does, computed over heaps by the evaluator, and that its calls do so. Conditions: none. -/
namespace Go.Proofs.YtnbnlhpleomaoaaGreat.Ev
open Go
-- spinney/spinneyplay.made
namespace F35
def T : Hint := ⟨[(5, [0, 2, 3, 5]), (8, [0, 2, 3, 10, 11])], [(1, [[(0, []), (1, [0]), (2, []), (3, []), (4, []), (5, [4]), (6, []), (7, [])]]), (2, [[(0, []), (1, [0]), (2, [])]]), (7, [[(0, []), (1, []), (2, []), (3, []), (4, []), (6, []), (7, []), (8, []), (9, []), (10, []), (5, [6, 7, 8, 9, 10]), (11, []), (12, [0, 1, 2, 3, 4, 6, 7, 8, 9, 10]), (13, [0, 1, 2, 3, 4, 6, 7, 8, 9, 10]), (14, []), (15, [])], [(0, []), (1, []), (2, []), (3, []), (4, []), (6, []), (7, []), (8, []), (9, []), (10, []), (5, [6, 7, 8, 9, 10]), (11, []), (13, [0, 1, 2, 3, 4, 6, 7, 8, 9, 10]), (12, [0, 1, 2, 3, 4, 6, 7, 8, 9, 10]), (14, []), (15, [])], [(0, []), (1, []), (2, []), (3, []), (4, []), (6, []), (7, []), (8, []), (9, []), (10, []), (5, [6, 7, 8, 9, 10]), (12, [0, 1, 2, 3, 4, 6, 7, 8, 9, 10]), (11, []), (13, [0, 1, 2, 3, 4, 6, 7, 8, 9, 10]), (14, []), (15, [])], [(0, []), (1, []), (2, []), (3, []), (4, []), (6, []), (7, []), (8, []), (9, []), (10, []), (5, [6, 7, 8, 9, 10]), (12, [0, 1, 2, 3, 4, 6, 7, 8, 9, 10]), (13, [0, 1, 2, 3, 4, 6, 7, 8, 9, 10]), (11, []), (14, []), (15, [])], [(0, []), (1, []), (2, []), (3, []), (4, []), (6, []), (7, []), (8, []), (9, []), (10, []), (5, [6, 7, 8, 9, 10]), (13, [0, 1, 2, 3, 4, 6, 7, 8, 9, 10]), (11, []), (12, [0, 1, 2, 3, 4, 6, 7, 8, 9, 10]), (14, []), (15, [])], [(0, []), (1, []), (2, []), (3, []), (4, []), (6, []), (7, []), (8, []), (9, []), (10, []), (5, [6, 7, 8, 9, 10]), (13, [0, 1, 2, 3, 4, 6, 7, 8, 9, 10]), (12, [0, 1, 2, 3, 4, 6, 7, 8, 9, 10]), (11, []), (14, []), (15, [])], [(0, []), (1, []), (2, []), (3, []), (4, []), (6, []), (7, []), (8, []), (9, []), (10, []), (12, [0, 1, 2, 3, 4, 6, 7, 8, 9, 10]), (5, [6, 7, 8, 9, 10]), (11, []), (13, [0, 1, 2, 3, 4, 6, 7, 8, 9, 10]), (14, []), (15, [])], [(0, []), (1, []), (2, []), (3, []), (4, []), (6, []), (7, []), (8, []), (9, []), (10, []), (12, [0, 1, 2, 3, 4, 6, 7, 8, 9, 10]), (5, [6, 7, 8, 9, 10]), (13, [0, 1, 2, 3, 4, 6, 7, 8, 9, 10]), (11, []), (14, []), (15, [])], [(0, []), (1, []), (2, []), (3, []), (4, []), (6, []), (7, []), (8, []), (9, []), (10, []), (12, [0, 1, 2, 3, 4, 6, 7, 8, 9, 10]), (13, [0, 1, 2, 3, 4, 6, 7, 8, 9, 10]), (5, [6, 7, 8, 9, 10]), (11, []), (14, []), (15, [])], [(0, []), (1, []), (2, []), (3, []), (4, []), (6, []), (7, []), (8, []), (9, []), (10, []), (13, [0, 1, 2, 3, 4, 6, 7, 8, 9, 10]), (5, [6, 7, 8, 9, 10]), (11, []), (12, [0, 1, 2, 3, 4, 6, 7, 8, 9, 10]), (14, []), (15, [])], [(0, []), (1, []), (2, []), (3, []), (4, []), (6, []), (7, []), (8, []), (9, []), (10, []), (13, [0, 1, 2, 3, 4, 6, 7, 8, 9, 10]), (5, [6, 7, 8, 9, 10]), (12, [0, 1, 2, 3, 4, 6, 7, 8, 9, 10]), (11, []), (14, []), (15, [])], [(0, []), (1, []), (2, []), (3, []), (4, []), (6, []), (7, []), (8, []), (9, []), (10, []), (13, [0, 1, 2, 3, 4, 6, 7, 8, 9, 10]), (12, [0, 1, 2, 3, 4, 6, 7, 8, 9, 10]), (5, [6, 7, 8, 9, 10]), (11, []), (14, []), (15, [])]])]⟩
noncomputable def body : Code := (Tryz.f35.body).getD .skip
noncomputable def en (S : Stop) (p : List Nat) (κ : XK) : Fr → Heap → Prop := E Tryz.prog X T S (sub body p) κ
def fn (K : KK) : XK := fin Tryz.prog Tryz.f35.results.toList K
def f5 (x0 : Addr) (x2p : Option Addr) (x2l x2c : Nat) (x3 : Int) (x5 : Addr) : Fr := [(0, (.pointer (some x0))), (2, (.slice x2p x2l x2c)), (3, (.int .i64 x3)), (5, (.pointer (some x5)))]
def f8 (x0 : Addr) (x2p : Option Addr) (x2l x2c : Nat) (x3 : Int) (x10 x11 : Addr) : Fr := [(0, (.pointer (some x0))), (2, (.slice x2p x2l x2c)), (3, (.int .i64 x3)), (10, (.pointer (some x10))), (11, (.pointer (some x11)))]
def J0 (k5 : Addr → (Option Addr) → Nat → Nat → Int → Addr → Heap → Prop) (x0 : Addr) (x1_0 x1_1 x1_2 x1_3 : Int) (x2p : Option Addr) (x2l x2c : Nat) (x3 : Int) (h : Heap) (K : KK) : Prop :=
  newK h (.cells #[(.int .u64 x1_0), (.int .u64 x1_1), (.int .u64 x1_2), (.int .u64 x1_3)] 24) (fun b1 h2 => ldI .u64 (rd h2 (Addr.add (Addr.mk b1 0 none) 0)) (fun n3 => ldI .u64 (rd h2 (Addr.add (Addr.mk b1 0 none) 1)) (fun n4 => ldI .u64 (rd h2 (Addr.add (Addr.mk b1 0 none) 2)) (fun n5 => ldI .u64 (rd h2 (Addr.add (Addr.mk b1 0 none) 3)) (fun n6 => CallsH Tryz.prog 55 [(.bool false)] h2 (fun v7 h8 => (∃ n9 : Int, ∃ n10 : Int, ∃ n11 : Int, ∃ n12 : Int, v7 = (.agg #[(.int .u64 n9), (.int .u64 n10), (.int .u64 n11), (.int .u64 n12)]) ∧ ldI .u64 (rd h8 (Addr.add (Addr.mk b1 0 none) 0)) (fun n13 => ldI .u64 (rd h8 (Addr.add (Addr.mk b1 0 none) 1)) (fun n14 => ldI .u64 (rd h8 (Addr.add (Addr.mk b1 0 none) 2)) (fun n15 => ldI .u64 (rd h8 (Addr.add (Addr.mk b1 0 none) 3)) (fun n16 => ((.agg #[(.int .u64 n13), (.int .u64 n14), (.int .u64 n15), (.int .u64 n16)]) = ((.agg #[(.int .u64 n3), (.int .u64 n4), (.int .u64 n5), (.int .u64 n6)]) : Value) ∧ bcase (n3 == n9 && (n4 == n10 && (n5 == n11 && (n6 == n12 && true)))) (((.tuple #[]) = undef ∧ ldI .u64 (rd h8 (Addr.add (Addr.mk b1 0 none) 0)) (fun n17 => ldI .u64 (rd h8 (Addr.add (Addr.mk b1 0 none) 1)) (fun n18 => ldI .u64 (rd h8 (Addr.add (Addr.mk b1 0 none) 2)) (fun n19 => ldI .u64 (rd h8 (Addr.add (Addr.mk b1 0 none) 3)) (fun n20 => CallsH Tryz.prog 55 [(.bool true)] h8 (fun v21 h22 => (∃ n23 : Int, ∃ n24 : Int, ∃ n25 : Int, ∃ n26 : Int, v21 = (.agg #[(.int .u64 n23), (.int .u64 n24), (.int .u64 n25), (.int .u64 n26)]) ∧ ldI .u64 (rd h22 (Addr.add (Addr.mk b1 0 none) 0)) (fun n27 => ldI .u64 (rd h22 (Addr.add (Addr.mk b1 0 none) 1)) (fun n28 => ldI .u64 (rd h22 (Addr.add (Addr.mk b1 0 none) 2)) (fun n29 => ldI .u64 (rd h22 (Addr.add (Addr.mk b1 0 none) 3)) (fun n30 => ((.agg #[(.int .u64 n27), (.int .u64 n28), (.int .u64 n29), (.int .u64 n30)]) = ((.agg #[(.int .u64 n17), (.int .u64 n18), (.int .u64 n19), (.int .u64 n20)]) : Value) ∧ bcase (n17 == n23 && (n18 == n24 && (n19 == n25 && (n20 == n26 && true)))) (K (.tuple #[(.int .u32 (1 : Int)), (.bool true)]) h22) (K (.tuple #[(.int .u32 (0 : Int)), (.bool true)]) h22)))))))))))))) (ldI .u64 (rd h8 (Addr.add (Addr.mk b1 0 none) 0)) (fun n31 => ldI .u64 (rd h8 (Addr.add (Addr.mk b1 0 none) 1)) (fun n32 => ldI .u64 (rd h8 (Addr.add (Addr.mk b1 0 none) 2)) (fun n33 => ldI .u64 (rd h8 (Addr.add (Addr.mk b1 0 none) 3)) (fun n34 => CallsH Tryz.prog 55 [(.bool true)] h8 (fun v35 h36 => (∃ n37 : Int, ∃ n38 : Int, ∃ n39 : Int, ∃ n40 : Int, v35 = (.agg #[(.int .u64 n37), (.int .u64 n38), (.int .u64 n39), (.int .u64 n40)]) ∧ ldI .u64 (rd h36 (Addr.add (Addr.mk b1 0 none) 0)) (fun n41 => ldI .u64 (rd h36 (Addr.add (Addr.mk b1 0 none) 1)) (fun n42 => ldI .u64 (rd h36 (Addr.add (Addr.mk b1 0 none) 2)) (fun n43 => ldI .u64 (rd h36 (Addr.add (Addr.mk b1 0 none) 3)) (fun n44 => ((.agg #[(.int .u64 n41), (.int .u64 n42), (.int .u64 n43), (.int .u64 n44)]) = ((.agg #[(.int .u64 n31), (.int .u64 n32), (.int .u64 n33), (.int .u64 n34)]) : Value) ∧ bcase (n31 == n37 && (n32 == n38 && (n33 == n39 && (n34 == n40 && true)))) (ldI .u64 (rd h36 (Addr.add (Addr.mk b1 0 none) 0)) (fun n45 => ldI .u64 (rd h36 (Addr.add (Addr.mk b1 0 none) 1)) (fun n46 => ldI .u64 (rd h36 (Addr.add (Addr.mk b1 0 none) 2)) (fun n47 => ldI .u64 (rd h36 (Addr.add (Addr.mk b1 0 none) 3)) (fun n48 => CallsH Tryz.prog 55 [(.bool true)] h36 (fun v49 h50 => (∃ n51 : Int, ∃ n52 : Int, ∃ n53 : Int, ∃ n54 : Int, v49 = (.agg #[(.int .u64 n51), (.int .u64 n52), (.int .u64 n53), (.int .u64 n54)]) ∧ ldI .u64 (rd h50 (Addr.add (Addr.mk b1 0 none) 0)) (fun n55 => ldI .u64 (rd h50 (Addr.add (Addr.mk b1 0 none) 1)) (fun n56 => ldI .u64 (rd h50 (Addr.add (Addr.mk b1 0 none) 2)) (fun n57 => ldI .u64 (rd h50 (Addr.add (Addr.mk b1 0 none) 3)) (fun n58 => ((.agg #[(.int .u64 n55), (.int .u64 n56), (.int .u64 n57), (.int .u64 n58)]) = ((.agg #[(.int .u64 n45), (.int .u64 n46), (.int .u64 n47), (.int .u64 n48)]) : Value) ∧ bcase (n45 == n51 && (n46 == n52 && (n47 == n53 && (n48 == n54 && true)))) (K (.tuple #[(.int .u32 (1 : Int)), (.bool true)]) h50) (K (.tuple #[(.int .u32 (0 : Int)), (.bool true)]) h50))))))))))))) (k5 x0 x2p x2l x2c x3 (Addr.mk b1 0 none) h36)))))))))))))))))))))))))
theorem E0 (S : Stop) (x0 : Addr) (x1_0 x1_1 x1_2 x1_3 : Int) (x2p : Option Addr) (x2l x2c : Nat) (x3 : Int) (h : Heap) (K : KK) : (E Tryz.prog X T S body (fin Tryz.prog Tryz.f35.results.toList K) (args0 0 [(.pointer (some x0)), (.agg #[(.int .u64 x1_0), (.int .u64 x1_1), (.int .u64 x1_2), (.int .u64 x1_3)]), (.slice x2p x2l x2c), (.int .i64 x3)]) h) = J0 (fun x0 x2p x2l x2c x3 x5 h => S (en S [1, 1] (fn K)) (f5 x0 x2p x2l x2c x3 x5) h) x0 x1_0 x1_1 x1_2 x1_3 x2p x2l x2c x3 h K := by kernel_rfl
def Jk5 (k8 : Addr → (Option Addr) → Nat → Nat → Int → Addr → Addr → Heap → Prop) (x0 : Addr) (x2p : Option Addr) (x2l x2c : Nat) (x3 : Int) (x5 : Addr) (h : Heap) (K : KK) : Prop :=
  bcase (decide (x3 ≥ (Nat.cast x2l : Int))) (K (.tuple #[(.int .u32 (0 : Int)), (.bool false)]) h) (ldI .u64 (rd h (Addr.add x5 0)) (fun n1 => ldI .u64 (rd h (Addr.add x5 1)) (fun n2 => ldI .u64 (rd h (Addr.add x5 2)) (fun n3 => ldI .u64 (rd h (Addr.add x5 3)) (fun n4 => ptrK x2p (fun a5 => (0 ≤ x3 ∧ x3 < (Nat.cast x2l : Int) ∧ ldI .i64 (rd h (Addr.add a5 (Int.toNat x3 * 1))) (fun n6 => ldI .u64 (rd h (Addr.add x5 0)) (fun n7 => ldI .u64 (rd h (Addr.add x5 1)) (fun n8 => ldI .u64 (rd h (Addr.add x5 2)) (fun n9 => ldI .u64 (rd h (Addr.add x5 3)) (fun n10 => ptrK x2p (fun a11 => (0 ≤ x3 ∧ x3 < (Nat.cast x2l : Int) ∧ ldI .i64 (rd h (Addr.add a11 (Int.toNat x3 * 1))) (fun n12 => (CallsH Tryz.prog 34 [(.agg #[(.int .u64 n1), (.int .u64 n2), (.int .u64 n3), (.int .u64 n4)]), (.int .i64 n6), (.bool false)] h (fun v13 h14 => (∃ n15 : Int, ∃ n16 : Int, ∃ n17 : Int, ∃ n18 : Int, v13 = (.agg #[(.int .u64 n15), (.int .u64 n16), (.int .u64 n17), (.int .u64 n18)]) ∧ ldI .u64 (rd h14 (Addr.add x5 0)) (fun n19 => ldI .u64 (rd h14 (Addr.add x5 1)) (fun n20 => ldI .u64 (rd h14 (Addr.add x5 2)) (fun n21 => ldI .u64 (rd h14 (Addr.add x5 3)) (fun n22 => ((.agg #[(.int .u64 n19), (.int .u64 n20), (.int .u64 n21), (.int .u64 n22)]) = ((.agg #[(.int .u64 n7), (.int .u64 n8), (.int .u64 n9), (.int .u64 n10)]) : Value) ∧ ((.slice x2p x2l x2c) = ((.slice x2p x2l x2c) : Value) ∧ ((.int .i64 x3) = ((.int .i64 x3) : Value) ∧ ptrK x2p (fun a23 => (0 ≤ x3 ∧ x3 < (Nat.cast x2l : Int) ∧ ((.pointer (some (Addr.add a23 (Int.toNat x3 * 1)))) = ((.pointer (some (Addr.add a11 (Int.toNat x3 * 1)))) : Value) ∧ ldI .i64 (rd h14 (Addr.add a11 (Int.toNat x3 * 1))) (fun n24 => ((.int .i64 n24) = ((.int .i64 n12) : Value) ∧ (CallsH Tryz.prog 34 [(.agg #[(.int .u64 n7), (.int .u64 n8), (.int .u64 n9), (.int .u64 n10)]), (.int .i64 n12), (.bool true)] h14 (fun v25 h26 => (∃ n27 : Int, ∃ n28 : Int, ∃ n29 : Int, ∃ n30 : Int, v25 = (.agg #[(.int .u64 n27), (.int .u64 n28), (.int .u64 n29), (.int .u64 n30)]) ∧ (newK h26 (.cells #[(.int .u64 (0 : Int)), (.int .u64 (0 : Int)), (.int .u64 (0 : Int)), (.int .u64 (0 : Int))] 24) (fun b31 h32 => ldI .u64 (rd h32 (Addr.add x5 0)) (fun n33 => ldI .u64 (rd h32 (Addr.add x5 1)) (fun n34 => ldI .u64 (rd h32 (Addr.add x5 2)) (fun n35 => ldI .u64 (rd h32 (Addr.add x5 3)) (fun n36 => ((.agg #[(.int .u64 n33), (.int .u64 n34), (.int .u64 n35), (.int .u64 n36)]) = ((.agg #[(.int .u64 n1), (.int .u64 n2), (.int .u64 n3), (.int .u64 n4)]) : Value) ∧ ((.slice x2p x2l x2c) = ((.slice x2p x2l x2c) : Value) ∧ ((.int .i64 x3) = ((.int .i64 x3) : Value) ∧ ptrK x2p (fun a37 => (0 ≤ x3 ∧ x3 < (Nat.cast x2l : Int) ∧ ((.pointer (some (Addr.add a37 (Int.toNat x3 * 1)))) = ((.pointer (some (Addr.add a5 (Int.toNat x3 * 1)))) : Value) ∧ ldI .i64 (rd h32 (Addr.add a5 (Int.toNat x3 * 1))) (fun n38 => ((.int .i64 n38) = ((.int .i64 n6) : Value) ∧ ldI .u64 (rd h32 (Addr.add x5 0)) (fun n39 => ldI .u64 (rd h32 (Addr.add x5 1)) (fun n40 => ldI .u64 (rd h32 (Addr.add x5 2)) (fun n41 => ldI .u64 (rd h32 (Addr.add x5 3)) (fun n42 => ((.agg #[(.int .u64 n39), (.int .u64 n40), (.int .u64 n41), (.int .u64 n42)]) = ((.agg #[(.int .u64 n7), (.int .u64 n8), (.int .u64 n9), (.int .u64 n10)]) : Value) ∧ ((.slice x2p x2l x2c) = ((.slice x2p x2l x2c) : Value) ∧ ((.int .i64 x3) = ((.int .i64 x3) : Value) ∧ ptrK x2p (fun a43 => (0 ≤ x3 ∧ x3 < (Nat.cast x2l : Int) ∧ ((.pointer (some (Addr.add a43 (Int.toNat x3 * 1)))) = ((.pointer (some (Addr.add a11 (Int.toNat x3 * 1)))) : Value) ∧ ldI .i64 (rd h32 (Addr.add a11 (Int.toNat x3 * 1))) (fun n44 => ((.int .i64 n44) = ((.int .i64 n12) : Value) ∧ newK h32 (.cells #[(.int .u64 (0 : Int)), (.int .u64 (0 : Int)), (.int .u64 (0 : Int)), (.int .u64 (0 : Int))] 24) (fun b45 h46 => ldI .u64 (rd h46 (Addr.add x5 0)) (fun n47 => ldI .u64 (rd h46 (Addr.add x5 1)) (fun n48 => ldI .u64 (rd h46 (Addr.add x5 2)) (fun n49 => ldI .u64 (rd h46 (Addr.add x5 3)) (fun n50 => ((.agg #[(.int .u64 n47), (.int .u64 n48), (.int .u64 n49), (.int .u64 n50)]) = ((.agg #[(.int .u64 n1), (.int .u64 n2), (.int .u64 n3), (.int .u64 n4)]) : Value) ∧ ((.slice x2p x2l x2c) = ((.slice x2p x2l x2c) : Value) ∧ ((.int .i64 x3) = ((.int .i64 x3) : Value) ∧ ptrK x2p (fun a51 => (0 ≤ x3 ∧ x3 < (Nat.cast x2l : Int) ∧ ((.pointer (some (Addr.add a51 (Int.toNat x3 * 1)))) = ((.pointer (some (Addr.add a5 (Int.toNat x3 * 1)))) : Value) ∧ ldI .i64 (rd h46 (Addr.add a5 (Int.toNat x3 * 1))) (fun n52 => ((.int .i64 n52) = ((.int .i64 n6) : Value) ∧ ldI .u64 (rd h46 (Addr.add x5 0)) (fun n53 => ldI .u64 (rd h46 (Addr.add x5 1)) (fun n54 => ldI .u64 (rd h46 (Addr.add x5 2)) (fun n55 => ldI .u64 (rd h46 (Addr.add x5 3)) (fun n56 => ((.agg #[(.int .u64 n53), (.int .u64 n54), (.int .u64 n55), (.int .u64 n56)]) = ((.agg #[(.int .u64 n7), (.int .u64 n8), (.int .u64 n9), (.int .u64 n10)]) : Value) ∧ ((.slice x2p x2l x2c) = ((.slice x2p x2l x2c) : Value) ∧ ((.int .i64 x3) = ((.int .i64 x3) : Value) ∧ ptrK x2p (fun a57 => (0 ≤ x3 ∧ x3 < (Nat.cast x2l : Int) ∧ ((.pointer (some (Addr.add a57 (Int.toNat x3 * 1)))) = ((.pointer (some (Addr.add a11 (Int.toNat x3 * 1)))) : Value) ∧ ldI .i64 (rd h46 (Addr.add a11 (Int.toNat x3 * 1))) (fun n58 => ((.int .i64 n58) = ((.int .i64 n12) : Value) ∧ stK h46 (Addr.add (Addr.mk b31 0 none) 0) (.int .u64 n15) (fun h59 => stK h59 (Addr.add (Addr.mk b31 0 none) 1) (.int .u64 n16) (fun h60 => stK h60 (Addr.add (Addr.mk b31 0 none) 2) (.int .u64 n17) (fun h61 => stK h61 (Addr.add (Addr.mk b31 0 none) 3) (.int .u64 n18) (fun h62 => stK h62 (Addr.add (Addr.mk b45 0 none) 0) (.int .u64 n27) (fun h63 => stK h63 (Addr.add (Addr.mk b45 0 none) 1) (.int .u64 n28) (fun h64 => stK h64 (Addr.add (Addr.mk b45 0 none) 2) (.int .u64 n29) (fun h65 => stK h65 (Addr.add (Addr.mk b45 0 none) 3) (.int .u64 n30) (fun h66 => k8 x0 x2p x2l x2c x3 (Addr.mk b31 0 none) (Addr.mk b45 0 none) h66)))))))))))))))))))))))))))))))))))))))))))))))))))))))))) ∧ newK h26 (.cells #[(.int .u64 (0 : Int)), (.int .u64 (0 : Int)), (.int .u64 (0 : Int)), (.int .u64 (0 : Int))] 24) (fun b67 h68 => ldI .u64 (rd h68 (Addr.add x5 0)) (fun n69 => ldI .u64 (rd h68 (Addr.add x5 1)) (fun n70 => ldI .u64 (rd h68 (Addr.add x5 2)) (fun n71 => ldI .u64 (rd h68 (Addr.add x5 3)) (fun n72 => ((.agg #[(.int .u64 n69), (.int .u64 n70), (.int .u64 n71), (.int .u64 n72)]) = ((.agg #[(.int .u64 n1), (.int .u64 n2), (.int .u64 n3), (.int .u64 n4)]) : Value) ∧ ((.slice x2p x2l x2c) = ((.slice x2p x2l x2c) : Value) ∧ ((.int .i64 x3) = ((.int .i64 x3) : Value) ∧ ptrK x2p (fun a73 => (0 ≤ x3 ∧ x3 < (Nat.cast x2l : Int) ∧ ((.pointer (some (Addr.add a73 (Int.toNat x3 * 1)))) = ((.pointer (some (Addr.add a5 (Int.toNat x3 * 1)))) : Value) ∧ ldI .i64 (rd h68 (Addr.add a5 (Int.toNat x3 * 1))) (fun n74 => ((.int .i64 n74) = ((.int .i64 n6) : Value) ∧ ldI .u64 (rd h68 (Addr.add x5 0)) (fun n75 => ldI .u64 (rd h68 (Addr.add x5 1)) (fun n76 => ldI .u64 (rd h68 (Addr.add x5 2)) (fun n77 => ldI .u64 (rd h68 (Addr.add x5 3)) (fun n78 => ((.agg #[(.int .u64 n75), (.int .u64 n76), (.int .u64 n77), (.int .u64 n78)]) = ((.agg #[(.int .u64 n7), (.int .u64 n8), (.int .u64 n9), (.int .u64 n10)]) : Value) ∧ ((.slice x2p x2l x2c) = ((.slice x2p x2l x2c) : Value) ∧ ((.int .i64 x3) = ((.int .i64 x3) : Value) ∧ ptrK x2p (fun a79 => (0 ≤ x3 ∧ x3 < (Nat.cast x2l : Int) ∧ ((.pointer (some (Addr.add a79 (Int.toNat x3 * 1)))) = ((.pointer (some (Addr.add a11 (Int.toNat x3 * 1)))) : Value) ∧ ldI .i64 (rd h68 (Addr.add a11 (Int.toNat x3 * 1))) (fun n80 => ((.int .i64 n80) = ((.int .i64 n12) : Value) ∧ newK h68 (.cells #[(.int .u64 (0 : Int)), (.int .u64 (0 : Int)), (.int .u64 (0 : Int)), (.int .u64 (0 : Int))] 24) (fun b81 h82 => ldI .u64 (rd h82 (Addr.add x5 0)) (fun n83 => ldI .u64 (rd h82 (Addr.add x5 1)) (fun n84 => ldI .u64 (rd h82 (Addr.add x5 2)) (fun n85 => ldI .u64 (rd h82 (Addr.add x5 3)) (fun n86 => ((.agg #[(.int .u64 n83), (.int .u64 n84), (.int .u64 n85), (.int .u64 n86)]) = ((.agg #[(.int .u64 n1), (.int .u64 n2), (.int .u64 n3), (.int .u64 n4)]) : Value) ∧ ((.slice x2p x2l x2c) = ((.slice x2p x2l x2c) : Value) ∧ ((.int .i64 x3) = ((.int .i64 x3) : Value) ∧ ptrK x2p (fun a87 => (0 ≤ x3 ∧ x3 < (Nat.cast x2l : Int) ∧ ((.pointer (some (Addr.add a87 (Int.toNat x3 * 1)))) = ((.pointer (some (Addr.add a5 (Int.toNat x3 * 1)))) : Value) ∧ ldI .i64 (rd h82 (Addr.add a5 (Int.toNat x3 * 1))) (fun n88 => ((.int .i64 n88) = ((.int .i64 n6) : Value) ∧ ldI .u64 (rd h82 (Addr.add x5 0)) (fun n89 => ldI .u64 (rd h82 (Addr.add x5 1)) (fun n90 => ldI .u64 (rd h82 (Addr.add x5 2)) (fun n91 => ldI .u64 (rd h82 (Addr.add x5 3)) (fun n92 => ((.agg #[(.int .u64 n89), (.int .u64 n90), (.int .u64 n91), (.int .u64 n92)]) = ((.agg #[(.int .u64 n7), (.int .u64 n8), (.int .u64 n9), (.int .u64 n10)]) : Value) ∧ ((.slice x2p x2l x2c) = ((.slice x2p x2l x2c) : Value) ∧ ((.int .i64 x3) = ((.int .i64 x3) : Value) ∧ ptrK x2p (fun a93 => (0 ≤ x3 ∧ x3 < (Nat.cast x2l : Int) ∧ ((.pointer (some (Addr.add a93 (Int.toNat x3 * 1)))) = ((.pointer (some (Addr.add a11 (Int.toNat x3 * 1)))) : Value) ∧ ldI .i64 (rd h82 (Addr.add a11 (Int.toNat x3 * 1))) (fun n94 => ((.int .i64 n94) = ((.int .i64 n12) : Value) ∧ stK h82 (Addr.add (Addr.mk b81 0 none) 0) (.int .u64 n15) (fun h95 => stK h95 (Addr.add (Addr.mk b81 0 none) 1) (.int .u64 n16) (fun h96 => stK h96 (Addr.add (Addr.mk b81 0 none) 2) (.int .u64 n17) (fun h97 => stK h97 (Addr.add (Addr.mk b81 0 none) 3) (.int .u64 n18) (fun h98 => stK h98 (Addr.add (Addr.mk b67 0 none) 0) (.int .u64 n27) (fun h99 => stK h99 (Addr.add (Addr.mk b67 0 none) 1) (.int .u64 n28) (fun h100 => stK h100 (Addr.add (Addr.mk b67 0 none) 2) (.int .u64 n29) (fun h101 => stK h101 (Addr.add (Addr.mk b67 0 none) 3) (.int .u64 n30) (fun h102 => k8 x0 x2p x2l x2c x3 (Addr.mk b81 0 none) (Addr.mk b67 0 none) h102))))))))))))))))))))))))))))))))))))))))))))))))))))))))))))) ∧ (newK h14 (.cells #[(.int .u64 (0 : Int)), (.int .u64 (0 : Int)), (.int .u64 (0 : Int)), (.int .u64 (0 : Int))] 24) (fun b103 h104 => ldI .u64 (rd h104 (Addr.add x5 0)) (fun n105 => ldI .u64 (rd h104 (Addr.add x5 1)) (fun n106 => ldI .u64 (rd h104 (Addr.add x5 2)) (fun n107 => ldI .u64 (rd h104 (Addr.add x5 3)) (fun n108 => ((.agg #[(.int .u64 n105), (.int .u64 n106), (.int .u64 n107), (.int .u64 n108)]) = ((.agg #[(.int .u64 n1), (.int .u64 n2), (.int .u64 n3), (.int .u64 n4)]) : Value) ∧ ((.slice x2p x2l x2c) = ((.slice x2p x2l x2c) : Value) ∧ ((.int .i64 x3) = ((.int .i64 x3) : Value) ∧ ptrK x2p (fun a109 => (0 ≤ x3 ∧ x3 < (Nat.cast x2l : Int) ∧ ((.pointer (some (Addr.add a109 (Int.toNat x3 * 1)))) = ((.pointer (some (Addr.add a5 (Int.toNat x3 * 1)))) : Value) ∧ ldI .i64 (rd h104 (Addr.add a5 (Int.toNat x3 * 1))) (fun n110 => ((.int .i64 n110) = ((.int .i64 n6) : Value) ∧ ldI .u64 (rd h104 (Addr.add x5 0)) (fun n111 => ldI .u64 (rd h104 (Addr.add x5 1)) (fun n112 => ldI .u64 (rd h104 (Addr.add x5 2)) (fun n113 => ldI .u64 (rd h104 (Addr.add x5 3)) (fun n114 => ((.agg #[(.int .u64 n111), (.int .u64 n112), (.int .u64 n113), (.int .u64 n114)]) = ((.agg #[(.int .u64 n7), (.int .u64 n8), (.int .u64 n9), (.int .u64 n10)]) : Value) ∧ ((.slice x2p x2l x2c) = ((.slice x2p x2l x2c) : Value) ∧ ((.int .i64 x3) = ((.int .i64 x3) : Value) ∧ ptrK x2p (fun a115 => (0 ≤ x3 ∧ x3 < (Nat.cast x2l : Int) ∧ ((.pointer (some (Addr.add a115 (Int.toNat x3 * 1)))) = ((.pointer (some (Addr.add a11 (Int.toNat x3 * 1)))) : Value) ∧ ldI .i64 (rd h104 (Addr.add a11 (Int.toNat x3 * 1))) (fun n116 => ((.int .i64 n116) = ((.int .i64 n12) : Value) ∧ (CallsH Tryz.prog 34 [(.agg #[(.int .u64 n7), (.int .u64 n8), (.int .u64 n9), (.int .u64 n10)]), (.int .i64 n12), (.bool true)] h104 (fun v117 h118 => (∃ n119 : Int, ∃ n120 : Int, ∃ n121 : Int, ∃ n122 : Int, v117 = (.agg #[(.int .u64 n119), (.int .u64 n120), (.int .u64 n121), (.int .u64 n122)]) ∧ newK h118 (.cells #[(.int .u64 (0 : Int)), (.int .u64 (0 : Int)), (.int .u64 (0 : Int)), (.int .u64 (0 : Int))] 24) (fun b123 h124 => ldI .u64 (rd h124 (Addr.add x5 0)) (fun n125 => ldI .u64 (rd h124 (Addr.add x5 1)) (fun n126 => ldI .u64 (rd h124 (Addr.add x5 2)) (fun n127 => ldI .u64 (rd h124 (Addr.add x5 3)) (fun n128 => ((.agg #[(.int .u64 n125), (.int .u64 n126), (.int .u64 n127), (.int .u64 n128)]) = ((.agg #[(.int .u64 n1), (.int .u64 n2), (.int .u64 n3), (.int .u64 n4)]) : Value) ∧ ((.slice x2p x2l x2c) = ((.slice x2p x2l x2c) : Value) ∧ ((.int .i64 x3) = ((.int .i64 x3) : Value) ∧ ptrK x2p (fun a129 => (0 ≤ x3 ∧ x3 < (Nat.cast x2l : Int) ∧ ((.pointer (some (Addr.add a129 (Int.toNat x3 * 1)))) = ((.pointer (some (Addr.add a5 (Int.toNat x3 * 1)))) : Value) ∧ ldI .i64 (rd h124 (Addr.add a5 (Int.toNat x3 * 1))) (fun n130 => ((.int .i64 n130) = ((.int .i64 n6) : Value) ∧ ldI .u64 (rd h124 (Addr.add x5 0)) (fun n131 => ldI .u64 (rd h124 (Addr.add x5 1)) (fun n132 => ldI .u64 (rd h124 (Addr.add x5 2)) (fun n133 => ldI .u64 (rd h124 (Addr.add x5 3)) (fun n134 => ((.agg #[(.int .u64 n131), (.int .u64 n132), (.int .u64 n133), (.int .u64 n134)]) = ((.agg #[(.int .u64 n7), (.int .u64 n8), (.int .u64 n9), (.int .u64 n10)]) : Value) ∧ ((.slice x2p x2l x2c) = ((.slice x2p x2l x2c) : Value) ∧ ((.int .i64 x3) = ((.int .i64 x3) : Value) ∧ ptrK x2p (fun a135 => (0 ≤ x3 ∧ x3 < (Nat.cast x2l : Int) ∧ ((.pointer (some (Addr.add a135 (Int.toNat x3 * 1)))) = ((.pointer (some (Addr.add a11 (Int.toNat x3 * 1)))) : Value) ∧ ldI .i64 (rd h124 (Addr.add a11 (Int.toNat x3 * 1))) (fun n136 => ((.int .i64 n136) = ((.int .i64 n12) : Value) ∧ stK h124 (Addr.add (Addr.mk b103 0 none) 0) (.int .u64 n15) (fun h137 => stK h137 (Addr.add (Addr.mk b103 0 none) 1) (.int .u64 n16) (fun h138 => stK h138 (Addr.add (Addr.mk b103 0 none) 2) (.int .u64 n17) (fun h139 => stK h139 (Addr.add (Addr.mk b103 0 none) 3) (.int .u64 n18) (fun h140 => stK h140 (Addr.add (Addr.mk b123 0 none) 0) (.int .u64 n119) (fun h141 => stK h141 (Addr.add (Addr.mk b123 0 none) 1) (.int .u64 n120) (fun h142 => stK h142 (Addr.add (Addr.mk b123 0 none) 2) (.int .u64 n121) (fun h143 => stK h143 (Addr.add (Addr.mk b123 0 none) 3) (.int .u64 n122) (fun h144 => k8 x0 x2p x2l x2c x3 (Addr.mk b103 0 none) (Addr.mk b123 0 none) h144))))))))))))))))))))))))))))))))))) ∧ newK h104 (.cells #[(.int .u64 (0 : Int)), (.int .u64 (0 : Int)), (.int .u64 (0 : Int)), (.int .u64 (0 : Int))] 24) (fun b145 h146 => ldI .u64 (rd h146 (Addr.add x5 0)) (fun n147 => ldI .u64 (rd h146 (Addr.add x5 1)) (fun n148 => ldI .u64 (rd h146 (Addr.add x5 2)) (fun n149 => ldI .u64 (rd h146 (Addr.add x5 3)) (fun n150 => ((.agg #[(.int .u64 n147), (.int .u64 n148), (.int .u64 n149), (.int .u64 n150)]) = ((.agg #[(.int .u64 n1), (.int .u64 n2), (.int .u64 n3), (.int .u64 n4)]) : Value) ∧ ((.slice x2p x2l x2c) = ((.slice x2p x2l x2c) : Value) ∧ ((.int .i64 x3) = ((.int .i64 x3) : Value) ∧ ptrK x2p (fun a151 => (0 ≤ x3 ∧ x3 < (Nat.cast x2l : Int) ∧ ((.pointer (some (Addr.add a151 (Int.toNat x3 * 1)))) = ((.pointer (some (Addr.add a5 (Int.toNat x3 * 1)))) : Value) ∧ ldI .i64 (rd h146 (Addr.add a5 (Int.toNat x3 * 1))) (fun n152 => ((.int .i64 n152) = ((.int .i64 n6) : Value) ∧ ldI .u64 (rd h146 (Addr.add x5 0)) (fun n153 => ldI .u64 (rd h146 (Addr.add x5 1)) (fun n154 => ldI .u64 (rd h146 (Addr.add x5 2)) (fun n155 => ldI .u64 (rd h146 (Addr.add x5 3)) (fun n156 => ((.agg #[(.int .u64 n153), (.int .u64 n154), (.int .u64 n155), (.int .u64 n156)]) = ((.agg #[(.int .u64 n7), (.int .u64 n8), (.int .u64 n9), (.int .u64 n10)]) : Value) ∧ ((.slice x2p x2l x2c) = ((.slice x2p x2l x2c) : Value) ∧ ((.int .i64 x3) = ((.int .i64 x3) : Value) ∧ ptrK x2p (fun a157 => (0 ≤ x3 ∧ x3 < (Nat.cast x2l : Int) ∧ ((.pointer (some (Addr.add a157 (Int.toNat x3 * 1)))) = ((.pointer (some (Addr.add a11 (Int.toNat x3 * 1)))) : Value) ∧ ldI .i64 (rd h146 (Addr.add a11 (Int.toNat x3 * 1))) (fun n158 => ((.int .i64 n158) = ((.int .i64 n12) : Value) ∧ CallsH Tryz.prog 34 [(.agg #[(.int .u64 n7), (.int .u64 n8), (.int .u64 n9), (.int .u64 n10)]), (.int .i64 n12), (.bool true)] h146 (fun v159 h160 => (∃ n161 : Int, ∃ n162 : Int, ∃ n163 : Int, ∃ n164 : Int, v159 = (.agg #[(.int .u64 n161), (.int .u64 n162), (.int .u64 n163), (.int .u64 n164)]) ∧ stK h160 (Addr.add (Addr.mk b103 0 none) 0) (.int .u64 n15) (fun h165 => stK h165 (Addr.add (Addr.mk b103 0 none) 1) (.int .u64 n16) (fun h166 => stK h166 (Addr.add (Addr.mk b103 0 none) 2) (.int .u64 n17) (fun h167 => stK h167 (Addr.add (Addr.mk b103 0 none) 3) (.int .u64 n18) (fun h168 => stK h168 (Addr.add (Addr.mk b145 0 none) 0) (.int .u64 n161) (fun h169 => stK h169 (Addr.add (Addr.mk b145 0 none) 1) (.int .u64 n162) (fun h170 => stK h170 (Addr.add (Addr.mk b145 0 none) 2) (.int .u64 n163) (fun h171 => stK h171 (Addr.add (Addr.mk b145 0 none) 3) (.int .u64 n164) (fun h172 => k8 x0 x2p x2l x2c x3 (Addr.mk b103 0 none) (Addr.mk b145 0 none) h172))))))))))))))))))))))))))))))))))))))))))))))))))))))))))))) ∧ newK h14 (.cells #[(.int .u64 (0 : Int)), (.int .u64 (0 : Int)), (.int .u64 (0 : Int)), (.int .u64 (0 : Int))] 24) (fun b173 h174 => ldI .u64 (rd h174 (Addr.add x5 0)) (fun n175 => ldI .u64 (rd h174 (Addr.add x5 1)) (fun n176 => ldI .u64 (rd h174 (Addr.add x5 2)) (fun n177 => ldI .u64 (rd h174 (Addr.add x5 3)) (fun n178 => ((.agg #[(.int .u64 n175), (.int .u64 n176), (.int .u64 n177), (.int .u64 n178)]) = ((.agg #[(.int .u64 n1), (.int .u64 n2), (.int .u64 n3), (.int .u64 n4)]) : Value) ∧ ((.slice x2p x2l x2c) = ((.slice x2p x2l x2c) : Value) ∧ ((.int .i64 x3) = ((.int .i64 x3) : Value) ∧ ptrK x2p (fun a179 => (0 ≤ x3 ∧ x3 < (Nat.cast x2l : Int) ∧ ((.pointer (some (Addr.add a179 (Int.toNat x3 * 1)))) = ((.pointer (some (Addr.add a5 (Int.toNat x3 * 1)))) : Value) ∧ ldI .i64 (rd h174 (Addr.add a5 (Int.toNat x3 * 1))) (fun n180 => ((.int .i64 n180) = ((.int .i64 n6) : Value) ∧ ldI .u64 (rd h174 (Addr.add x5 0)) (fun n181 => ldI .u64 (rd h174 (Addr.add x5 1)) (fun n182 => ldI .u64 (rd h174 (Addr.add x5 2)) (fun n183 => ldI .u64 (rd h174 (Addr.add x5 3)) (fun n184 => ((.agg #[(.int .u64 n181), (.int .u64 n182), (.int .u64 n183), (.int .u64 n184)]) = ((.agg #[(.int .u64 n7), (.int .u64 n8), (.int .u64 n9), (.int .u64 n10)]) : Value) ∧ ((.slice x2p x2l x2c) = ((.slice x2p x2l x2c) : Value) ∧ ((.int .i64 x3) = ((.int .i64 x3) : Value) ∧ ptrK x2p (fun a185 => (0 ≤ x3 ∧ x3 < (Nat.cast x2l : Int) ∧ ((.pointer (some (Addr.add a185 (Int.toNat x3 * 1)))) = ((.pointer (some (Addr.add a11 (Int.toNat x3 * 1)))) : Value) ∧ ldI .i64 (rd h174 (Addr.add a11 (Int.toNat x3 * 1))) (fun n186 => ((.int .i64 n186) = ((.int .i64 n12) : Value) ∧ (CallsH Tryz.prog 34 [(.agg #[(.int .u64 n7), (.int .u64 n8), (.int .u64 n9), (.int .u64 n10)]), (.int .i64 n12), (.bool true)] h174 (fun v187 h188 => (∃ n189 : Int, ∃ n190 : Int, ∃ n191 : Int, ∃ n192 : Int, v187 = (.agg #[(.int .u64 n189), (.int .u64 n190), (.int .u64 n191), (.int .u64 n192)]) ∧ newK h188 (.cells #[(.int .u64 (0 : Int)), (.int .u64 (0 : Int)), (.int .u64 (0 : Int)), (.int .u64 (0 : Int))] 24) (fun b193 h194 => ldI .u64 (rd h194 (Addr.add x5 0)) (fun n195 => ldI .u64 (rd h194 (Addr.add x5 1)) (fun n196 => ldI .u64 (rd h194 (Addr.add x5 2)) (fun n197 => ldI .u64 (rd h194 (Addr.add x5 3)) (fun n198 => ((.agg #[(.int .u64 n195), (.int .u64 n196), (.int .u64 n197), (.int .u64 n198)]) = ((.agg #[(.int .u64 n1), (.int .u64 n2), (.int .u64 n3), (.int .u64 n4)]) : Value) ∧ ((.slice x2p x2l x2c) = ((.slice x2p x2l x2c) : Value) ∧ ((.int .i64 x3) = ((.int .i64 x3) : Value) ∧ ptrK x2p (fun a199 => (0 ≤ x3 ∧ x3 < (Nat.cast x2l : Int) ∧ ((.pointer (some (Addr.add a199 (Int.toNat x3 * 1)))) = ((.pointer (some (Addr.add a5 (Int.toNat x3 * 1)))) : Value) ∧ ldI .i64 (rd h194 (Addr.add a5 (Int.toNat x3 * 1))) (fun n200 => ((.int .i64 n200) = ((.int .i64 n6) : Value) ∧ ldI .u64 (rd h194 (Addr.add x5 0)) (fun n201 => ldI .u64 (rd h194 (Addr.add x5 1)) (fun n202 => ldI .u64 (rd h194 (Addr.add x5 2)) (fun n203 => ldI .u64 (rd h194 (Addr.add x5 3)) (fun n204 => ((.agg #[(.int .u64 n201), (.int .u64 n202), (.int .u64 n203), (.int .u64 n204)]) = ((.agg #[(.int .u64 n7), (.int .u64 n8), (.int .u64 n9), (.int .u64 n10)]) : Value) ∧ ((.slice x2p x2l x2c) = ((.slice x2p x2l x2c) : Value) ∧ ((.int .i64 x3) = ((.int .i64 x3) : Value) ∧ ptrK x2p (fun a205 => (0 ≤ x3 ∧ x3 < (Nat.cast x2l : Int) ∧ ((.pointer (some (Addr.add a205 (Int.toNat x3 * 1)))) = ((.pointer (some (Addr.add a11 (Int.toNat x3 * 1)))) : Value) ∧ ldI .i64 (rd h194 (Addr.add a11 (Int.toNat x3 * 1))) (fun n206 => ((.int .i64 n206) = ((.int .i64 n12) : Value) ∧ stK h194 (Addr.add (Addr.mk b193 0 none) 0) (.int .u64 n15) (fun h207 => stK h207 (Addr.add (Addr.mk b193 0 none) 1) (.int .u64 n16) (fun h208 => stK h208 (Addr.add (Addr.mk b193 0 none) 2) (.int .u64 n17) (fun h209 => stK h209 (Addr.add (Addr.mk b193 0 none) 3) (.int .u64 n18) (fun h210 => stK h210 (Addr.add (Addr.mk b173 0 none) 0) (.int .u64 n189) (fun h211 => stK h211 (Addr.add (Addr.mk b173 0 none) 1) (.int .u64 n190) (fun h212 => stK h212 (Addr.add (Addr.mk b173 0 none) 2) (.int .u64 n191) (fun h213 => stK h213 (Addr.add (Addr.mk b173 0 none) 3) (.int .u64 n192) (fun h214 => k8 x0 x2p x2l x2c x3 (Addr.mk b193 0 none) (Addr.mk b173 0 none) h214))))))))))))))))))))))))))))))))))) ∧ newK h174 (.cells #[(.int .u64 (0 : Int)), (.int .u64 (0 : Int)), (.int .u64 (0 : Int)), (.int .u64 (0 : Int))] 24) (fun b215 h216 => ldI .u64 (rd h216 (Addr.add x5 0)) (fun n217 => ldI .u64 (rd h216 (Addr.add x5 1)) (fun n218 => ldI .u64 (rd h216 (Addr.add x5 2)) (fun n219 => ldI .u64 (rd h216 (Addr.add x5 3)) (fun n220 => ((.agg #[(.int .u64 n217), (.int .u64 n218), (.int .u64 n219), (.int .u64 n220)]) = ((.agg #[(.int .u64 n1), (.int .u64 n2), (.int .u64 n3), (.int .u64 n4)]) : Value) ∧ ((.slice x2p x2l x2c) = ((.slice x2p x2l x2c) : Value) ∧ ((.int .i64 x3) = ((.int .i64 x3) : Value) ∧ ptrK x2p (fun a221 => (0 ≤ x3 ∧ x3 < (Nat.cast x2l : Int) ∧ ((.pointer (some (Addr.add a221 (Int.toNat x3 * 1)))) = ((.pointer (some (Addr.add a5 (Int.toNat x3 * 1)))) : Value) ∧ ldI .i64 (rd h216 (Addr.add a5 (Int.toNat x3 * 1))) (fun n222 => ((.int .i64 n222) = ((.int .i64 n6) : Value) ∧ ldI .u64 (rd h216 (Addr.add x5 0)) (fun n223 => ldI .u64 (rd h216 (Addr.add x5 1)) (fun n224 => ldI .u64 (rd h216 (Addr.add x5 2)) (fun n225 => ldI .u64 (rd h216 (Addr.add x5 3)) (fun n226 => ((.agg #[(.int .u64 n223), (.int .u64 n224), (.int .u64 n225), (.int .u64 n226)]) = ((.agg #[(.int .u64 n7), (.int .u64 n8), (.int .u64 n9), (.int .u64 n10)]) : Value) ∧ ((.slice x2p x2l x2c) = ((.slice x2p x2l x2c) : Value) ∧ ((.int .i64 x3) = ((.int .i64 x3) : Value) ∧ ptrK x2p (fun a227 => (0 ≤ x3 ∧ x3 < (Nat.cast x2l : Int) ∧ ((.pointer (some (Addr.add a227 (Int.toNat x3 * 1)))) = ((.pointer (some (Addr.add a11 (Int.toNat x3 * 1)))) : Value) ∧ ldI .i64 (rd h216 (Addr.add a11 (Int.toNat x3 * 1))) (fun n228 => ((.int .i64 n228) = ((.int .i64 n12) : Value) ∧ CallsH Tryz.prog 34 [(.agg #[(.int .u64 n7), (.int .u64 n8), (.int .u64 n9), (.int .u64 n10)]), (.int .i64 n12), (.bool true)] h216 (fun v229 h230 => (∃ n231 : Int, ∃ n232 : Int, ∃ n233 : Int, ∃ n234 : Int, v229 = (.agg #[(.int .u64 n231), (.int .u64 n232), (.int .u64 n233), (.int .u64 n234)]) ∧ stK h230 (Addr.add (Addr.mk b215 0 none) 0) (.int .u64 n15) (fun h235 => stK h235 (Addr.add (Addr.mk b215 0 none) 1) (.int .u64 n16) (fun h236 => stK h236 (Addr.add (Addr.mk b215 0 none) 2) (.int .u64 n17) (fun h237 => stK h237 (Addr.add (Addr.mk b215 0 none) 3) (.int .u64 n18) (fun h238 => stK h238 (Addr.add (Addr.mk b173 0 none) 0) (.int .u64 n231) (fun h239 => stK h239 (Addr.add (Addr.mk b173 0 none) 1) (.int .u64 n232) (fun h240 => stK h240 (Addr.add (Addr.mk b173 0 none) 2) (.int .u64 n233) (fun h241 => stK h241 (Addr.add (Addr.mk b173 0 none) 3) (.int .u64 n234) (fun h242 => k8 x0 x2p x2l x2c x3 (Addr.mk b215 0 none) (Addr.mk b173 0 none) h242))))))))))))))))))))))))))))))))))))))))))))))))))))))))))))))))))))))))))))) ∧ (newK h (.cells #[(.int .u64 (0 : Int)), (.int .u64 (0 : Int)), (.int .u64 (0 : Int)), (.int .u64 (0 : Int))] 24) (fun b243 h244 => ldI .u64 (rd h244 (Addr.add x5 0)) (fun n245 => ldI .u64 (rd h244 (Addr.add x5 1)) (fun n246 => ldI .u64 (rd h244 (Addr.add x5 2)) (fun n247 => ldI .u64 (rd h244 (Addr.add x5 3)) (fun n248 => ((.agg #[(.int .u64 n245), (.int .u64 n246), (.int .u64 n247), (.int .u64 n248)]) = ((.agg #[(.int .u64 n1), (.int .u64 n2), (.int .u64 n3), (.int .u64 n4)]) : Value) ∧ ((.slice x2p x2l x2c) = ((.slice x2p x2l x2c) : Value) ∧ ((.int .i64 x3) = ((.int .i64 x3) : Value) ∧ ptrK x2p (fun a249 => (0 ≤ x3 ∧ x3 < (Nat.cast x2l : Int) ∧ ((.pointer (some (Addr.add a249 (Int.toNat x3 * 1)))) = ((.pointer (some (Addr.add a5 (Int.toNat x3 * 1)))) : Value) ∧ ldI .i64 (rd h244 (Addr.add a5 (Int.toNat x3 * 1))) (fun n250 => ((.int .i64 n250) = ((.int .i64 n6) : Value) ∧ ldI .u64 (rd h244 (Addr.add x5 0)) (fun n251 => ldI .u64 (rd h244 (Addr.add x5 1)) (fun n252 => ldI .u64 (rd h244 (Addr.add x5 2)) (fun n253 => ldI .u64 (rd h244 (Addr.add x5 3)) (fun n254 => ((.agg #[(.int .u64 n251), (.int .u64 n252), (.int .u64 n253), (.int .u64 n254)]) = ((.agg #[(.int .u64 n7), (.int .u64 n8), (.int .u64 n9), (.int .u64 n10)]) : Value) ∧ ((.slice x2p x2l x2c) = ((.slice x2p x2l x2c) : Value) ∧ ((.int .i64 x3) = ((.int .i64 x3) : Value) ∧ ptrK x2p (fun a255 => (0 ≤ x3 ∧ x3 < (Nat.cast x2l : Int) ∧ ((.pointer (some (Addr.add a255 (Int.toNat x3 * 1)))) = ((.pointer (some (Addr.add a11 (Int.toNat x3 * 1)))) : Value) ∧ ldI .i64 (rd h244 (Addr.add a11 (Int.toNat x3 * 1))) (fun n256 => ((.int .i64 n256) = ((.int .i64 n12) : Value) ∧ (CallsH Tryz.prog 34 [(.agg #[(.int .u64 n1), (.int .u64 n2), (.int .u64 n3), (.int .u64 n4)]), (.int .i64 n6), (.bool false)] h244 (fun v257 h258 => (∃ n259 : Int, ∃ n260 : Int, ∃ n261 : Int, ∃ n262 : Int, v257 = (.agg #[(.int .u64 n259), (.int .u64 n260), (.int .u64 n261), (.int .u64 n262)]) ∧ ldI .u64 (rd h258 (Addr.add x5 0)) (fun n263 => ldI .u64 (rd h258 (Addr.add x5 1)) (fun n264 => ldI .u64 (rd h258 (Addr.add x5 2)) (fun n265 => ldI .u64 (rd h258 (Addr.add x5 3)) (fun n266 => ((.agg #[(.int .u64 n263), (.int .u64 n264), (.int .u64 n265), (.int .u64 n266)]) = ((.agg #[(.int .u64 n7), (.int .u64 n8), (.int .u64 n9), (.int .u64 n10)]) : Value) ∧ ((.slice x2p x2l x2c) = ((.slice x2p x2l x2c) : Value) ∧ ((.int .i64 x3) = ((.int .i64 x3) : Value) ∧ ptrK x2p (fun a267 => (0 ≤ x3 ∧ x3 < (Nat.cast x2l : Int) ∧ ((.pointer (some (Addr.add a267 (Int.toNat x3 * 1)))) = ((.pointer (some (Addr.add a11 (Int.toNat x3 * 1)))) : Value) ∧ ldI .i64 (rd h258 (Addr.add a11 (Int.toNat x3 * 1))) (fun n268 => ((.int .i64 n268) = ((.int .i64 n12) : Value) ∧ (CallsH Tryz.prog 34 [(.agg #[(.int .u64 n7), (.int .u64 n8), (.int .u64 n9), (.int .u64 n10)]), (.int .i64 n12), (.bool true)] h258 (fun v269 h270 => (∃ n271 : Int, ∃ n272 : Int, ∃ n273 : Int, ∃ n274 : Int, v269 = (.agg #[(.int .u64 n271), (.int .u64 n272), (.int .u64 n273), (.int .u64 n274)]) ∧ newK h270 (.cells #[(.int .u64 (0 : Int)), (.int .u64 (0 : Int)), (.int .u64 (0 : Int)), (.int .u64 (0 : Int))] 24) (fun b275 h276 => ldI .u64 (rd h276 (Addr.add x5 0)) (fun n277 => ldI .u64 (rd h276 (Addr.add x5 1)) (fun n278 => ldI .u64 (rd h276 (Addr.add x5 2)) (fun n279 => ldI .u64 (rd h276 (Addr.add x5 3)) (fun n280 => ((.agg #[(.int .u64 n277), (.int .u64 n278), (.int .u64 n279), (.int .u64 n280)]) = ((.agg #[(.int .u64 n1), (.int .u64 n2), (.int .u64 n3), (.int .u64 n4)]) : Value) ∧ ((.slice x2p x2l x2c) = ((.slice x2p x2l x2c) : Value) ∧ ((.int .i64 x3) = ((.int .i64 x3) : Value) ∧ ptrK x2p (fun a281 => (0 ≤ x3 ∧ x3 < (Nat.cast x2l : Int) ∧ ((.pointer (some (Addr.add a281 (Int.toNat x3 * 1)))) = ((.pointer (some (Addr.add a5 (Int.toNat x3 * 1)))) : Value) ∧ ldI .i64 (rd h276 (Addr.add a5 (Int.toNat x3 * 1))) (fun n282 => ((.int .i64 n282) = ((.int .i64 n6) : Value) ∧ ldI .u64 (rd h276 (Addr.add x5 0)) (fun n283 => ldI .u64 (rd h276 (Addr.add x5 1)) (fun n284 => ldI .u64 (rd h276 (Addr.add x5 2)) (fun n285 => ldI .u64 (rd h276 (Addr.add x5 3)) (fun n286 => ((.agg #[(.int .u64 n283), (.int .u64 n284), (.int .u64 n285), (.int .u64 n286)]) = ((.agg #[(.int .u64 n7), (.int .u64 n8), (.int .u64 n9), (.int .u64 n10)]) : Value) ∧ ((.slice x2p x2l x2c) = ((.slice x2p x2l x2c) : Value) ∧ ((.int .i64 x3) = ((.int .i64 x3) : Value) ∧ ptrK x2p (fun a287 => (0 ≤ x3 ∧ x3 < (Nat.cast x2l : Int) ∧ ((.pointer (some (Addr.add a287 (Int.toNat x3 * 1)))) = ((.pointer (some (Addr.add a11 (Int.toNat x3 * 1)))) : Value) ∧ ldI .i64 (rd h276 (Addr.add a11 (Int.toNat x3 * 1))) (fun n288 => ((.int .i64 n288) = ((.int .i64 n12) : Value) ∧ stK h276 (Addr.add (Addr.mk b243 0 none) 0) (.int .u64 n259) (fun h289 => stK h289 (Addr.add (Addr.mk b243 0 none) 1) (.int .u64 n260) (fun h290 => stK h290 (Addr.add (Addr.mk b243 0 none) 2) (.int .u64 n261) (fun h291 => stK h291 (Addr.add (Addr.mk b243 0 none) 3) (.int .u64 n262) (fun h292 => stK h292 (Addr.add (Addr.mk b275 0 none) 0) (.int .u64 n271) (fun h293 => stK h293 (Addr.add (Addr.mk b275 0 none) 1) (.int .u64 n272) (fun h294 => stK h294 (Addr.add (Addr.mk b275 0 none) 2) (.int .u64 n273) (fun h295 => stK h295 (Addr.add (Addr.mk b275 0 none) 3) (.int .u64 n274) (fun h296 => k8 x0 x2p x2l x2c x3 (Addr.mk b243 0 none) (Addr.mk b275 0 none) h296))))))))))))))))))))))))))))))))))) ∧ newK h258 (.cells #[(.int .u64 (0 : Int)), (.int .u64 (0 : Int)), (.int .u64 (0 : Int)), (.int .u64 (0 : Int))] 24) (fun b297 h298 => ldI .u64 (rd h298 (Addr.add x5 0)) (fun n299 => ldI .u64 (rd h298 (Addr.add x5 1)) (fun n300 => ldI .u64 (rd h298 (Addr.add x5 2)) (fun n301 => ldI .u64 (rd h298 (Addr.add x5 3)) (fun n302 => ((.agg #[(.int .u64 n299), (.int .u64 n300), (.int .u64 n301), (.int .u64 n302)]) = ((.agg #[(.int .u64 n1), (.int .u64 n2), (.int .u64 n3), (.int .u64 n4)]) : Value) ∧ ((.slice x2p x2l x2c) = ((.slice x2p x2l x2c) : Value) ∧ ((.int .i64 x3) = ((.int .i64 x3) : Value) ∧ ptrK x2p (fun a303 => (0 ≤ x3 ∧ x3 < (Nat.cast x2l : Int) ∧ ((.pointer (some (Addr.add a303 (Int.toNat x3 * 1)))) = ((.pointer (some (Addr.add a5 (Int.toNat x3 * 1)))) : Value) ∧ ldI .i64 (rd h298 (Addr.add a5 (Int.toNat x3 * 1))) (fun n304 => ((.int .i64 n304) = ((.int .i64 n6) : Value) ∧ ldI .u64 (rd h298 (Addr.add x5 0)) (fun n305 => ldI .u64 (rd h298 (Addr.add x5 1)) (fun n306 => ldI .u64 (rd h298 (Addr.add x5 2)) (fun n307 => ldI .u64 (rd h298 (Addr.add x5 3)) (fun n308 => ((.agg #[(.int .u64 n305), (.int .u64 n306), (.int .u64 n307), (.int .u64 n308)]) = ((.agg #[(.int .u64 n7), (.int .u64 n8), (.int .u64 n9), (.int .u64 n10)]) : Value) ∧ ((.slice x2p x2l x2c) = ((.slice x2p x2l x2c) : Value) ∧ ((.int .i64 x3) = ((.int .i64 x3) : Value) ∧ ptrK x2p (fun a309 => (0 ≤ x3 ∧ x3 < (Nat.cast x2l : Int) ∧ ((.pointer (some (Addr.add a309 (Int.toNat x3 * 1)))) = ((.pointer (some (Addr.add a11 (Int.toNat x3 * 1)))) : Value) ∧ ldI .i64 (rd h298 (Addr.add a11 (Int.toNat x3 * 1))) (fun n310 => ((.int .i64 n310) = ((.int .i64 n12) : Value) ∧ CallsH Tryz.prog 34 [(.agg #[(.int .u64 n7), (.int .u64 n8), (.int .u64 n9), (.int .u64 n10)]), (.int .i64 n12), (.bool true)] h298 (fun v311 h312 => (∃ n313 : Int, ∃ n314 : Int, ∃ n315 : Int, ∃ n316 : Int, v311 = (.agg #[(.int .u64 n313), (.int .u64 n314), (.int .u64 n315), (.int .u64 n316)]) ∧ stK h312 (Addr.add (Addr.mk b243 0 none) 0) (.int .u64 n259) (fun h317 => stK h317 (Addr.add (Addr.mk b243 0 none) 1) (.int .u64 n260) (fun h318 => stK h318 (Addr.add (Addr.mk b243 0 none) 2) (.int .u64 n261) (fun h319 => stK h319 (Addr.add (Addr.mk b243 0 none) 3) (.int .u64 n262) (fun h320 => stK h320 (Addr.add (Addr.mk b297 0 none) 0) (.int .u64 n313) (fun h321 => stK h321 (Addr.add (Addr.mk b297 0 none) 1) (.int .u64 n314) (fun h322 => stK h322 (Addr.add (Addr.mk b297 0 none) 2) (.int .u64 n315) (fun h323 => stK h323 (Addr.add (Addr.mk b297 0 none) 3) (.int .u64 n316) (fun h324 => k8 x0 x2p x2l x2c x3 (Addr.mk b243 0 none) (Addr.mk b297 0 none) h324)))))))))))))))))))))))))))))))))))))))))))))))))) ∧ newK h244 (.cells #[(.int .u64 (0 : Int)), (.int .u64 (0 : Int)), (.int .u64 (0 : Int)), (.int .u64 (0 : Int))] 24) (fun b325 h326 => ldI .u64 (rd h326 (Addr.add x5 0)) (fun n327 => ldI .u64 (rd h326 (Addr.add x5 1)) (fun n328 => ldI .u64 (rd h326 (Addr.add x5 2)) (fun n329 => ldI .u64 (rd h326 (Addr.add x5 3)) (fun n330 => ((.agg #[(.int .u64 n327), (.int .u64 n328), (.int .u64 n329), (.int .u64 n330)]) = ((.agg #[(.int .u64 n1), (.int .u64 n2), (.int .u64 n3), (.int .u64 n4)]) : Value) ∧ ((.slice x2p x2l x2c) = ((.slice x2p x2l x2c) : Value) ∧ ((.int .i64 x3) = ((.int .i64 x3) : Value) ∧ ptrK x2p (fun a331 => (0 ≤ x3 ∧ x3 < (Nat.cast x2l : Int) ∧ ((.pointer (some (Addr.add a331 (Int.toNat x3 * 1)))) = ((.pointer (some (Addr.add a5 (Int.toNat x3 * 1)))) : Value) ∧ ldI .i64 (rd h326 (Addr.add a5 (Int.toNat x3 * 1))) (fun n332 => ((.int .i64 n332) = ((.int .i64 n6) : Value) ∧ ldI .u64 (rd h326 (Addr.add x5 0)) (fun n333 => ldI .u64 (rd h326 (Addr.add x5 1)) (fun n334 => ldI .u64 (rd h326 (Addr.add x5 2)) (fun n335 => ldI .u64 (rd h326 (Addr.add x5 3)) (fun n336 => ((.agg #[(.int .u64 n333), (.int .u64 n334), (.int .u64 n335), (.int .u64 n336)]) = ((.agg #[(.int .u64 n7), (.int .u64 n8), (.int .u64 n9), (.int .u64 n10)]) : Value) ∧ ((.slice x2p x2l x2c) = ((.slice x2p x2l x2c) : Value) ∧ ((.int .i64 x3) = ((.int .i64 x3) : Value) ∧ ptrK x2p (fun a337 => (0 ≤ x3 ∧ x3 < (Nat.cast x2l : Int) ∧ ((.pointer (some (Addr.add a337 (Int.toNat x3 * 1)))) = ((.pointer (some (Addr.add a11 (Int.toNat x3 * 1)))) : Value) ∧ ldI .i64 (rd h326 (Addr.add a11 (Int.toNat x3 * 1))) (fun n338 => ((.int .i64 n338) = ((.int .i64 n12) : Value) ∧ CallsH Tryz.prog 34 [(.agg #[(.int .u64 n1), (.int .u64 n2), (.int .u64 n3), (.int .u64 n4)]), (.int .i64 n6), (.bool false)] h326 (fun v339 h340 => (∃ n341 : Int, ∃ n342 : Int, ∃ n343 : Int, ∃ n344 : Int, v339 = (.agg #[(.int .u64 n341), (.int .u64 n342), (.int .u64 n343), (.int .u64 n344)]) ∧ ldI .u64 (rd h340 (Addr.add x5 0)) (fun n345 => ldI .u64 (rd h340 (Addr.add x5 1)) (fun n346 => ldI .u64 (rd h340 (Addr.add x5 2)) (fun n347 => ldI .u64 (rd h340 (Addr.add x5 3)) (fun n348 => ((.agg #[(.int .u64 n345), (.int .u64 n346), (.int .u64 n347), (.int .u64 n348)]) = ((.agg #[(.int .u64 n7), (.int .u64 n8), (.int .u64 n9), (.int .u64 n10)]) : Value) ∧ ((.slice x2p x2l x2c) = ((.slice x2p x2l x2c) : Value) ∧ ((.int .i64 x3) = ((.int .i64 x3) : Value) ∧ ptrK x2p (fun a349 => (0 ≤ x3 ∧ x3 < (Nat.cast x2l : Int) ∧ ((.pointer (some (Addr.add a349 (Int.toNat x3 * 1)))) = ((.pointer (some (Addr.add a11 (Int.toNat x3 * 1)))) : Value) ∧ ldI .i64 (rd h340 (Addr.add a11 (Int.toNat x3 * 1))) (fun n350 => ((.int .i64 n350) = ((.int .i64 n12) : Value) ∧ CallsH Tryz.prog 34 [(.agg #[(.int .u64 n7), (.int .u64 n8), (.int .u64 n9), (.int .u64 n10)]), (.int .i64 n12), (.bool true)] h340 (fun v351 h352 => (∃ n353 : Int, ∃ n354 : Int, ∃ n355 : Int, ∃ n356 : Int, v351 = (.agg #[(.int .u64 n353), (.int .u64 n354), (.int .u64 n355), (.int .u64 n356)]) ∧ stK h352 (Addr.add (Addr.mk b243 0 none) 0) (.int .u64 n341) (fun h357 => stK h357 (Addr.add (Addr.mk b243 0 none) 1) (.int .u64 n342) (fun h358 => stK h358 (Addr.add (Addr.mk b243 0 none) 2) (.int .u64 n343) (fun h359 => stK h359 (Addr.add (Addr.mk b243 0 none) 3) (.int .u64 n344) (fun h360 => stK h360 (Addr.add (Addr.mk b325 0 none) 0) (.int .u64 n353) (fun h361 => stK h361 (Addr.add (Addr.mk b325 0 none) 1) (.int .u64 n354) (fun h362 => stK h362 (Addr.add (Addr.mk b325 0 none) 2) (.int .u64 n355) (fun h363 => stK h363 (Addr.add (Addr.mk b325 0 none) 3) (.int .u64 n356) (fun h364 => k8 x0 x2p x2l x2c x3 (Addr.mk b243 0 none) (Addr.mk b325 0 none) h364))))))))))))))))))))))))))))))))))))))))))))))))))))))))))))))))))))))))))) ∧ newK h (.cells #[(.int .u64 (0 : Int)), (.int .u64 (0 : Int)), (.int .u64 (0 : Int)), (.int .u64 (0 : Int))] 24) (fun b365 h366 => ldI .u64 (rd h366 (Addr.add x5 0)) (fun n367 => ldI .u64 (rd h366 (Addr.add x5 1)) (fun n368 => ldI .u64 (rd h366 (Addr.add x5 2)) (fun n369 => ldI .u64 (rd h366 (Addr.add x5 3)) (fun n370 => ((.agg #[(.int .u64 n367), (.int .u64 n368), (.int .u64 n369), (.int .u64 n370)]) = ((.agg #[(.int .u64 n1), (.int .u64 n2), (.int .u64 n3), (.int .u64 n4)]) : Value) ∧ ((.slice x2p x2l x2c) = ((.slice x2p x2l x2c) : Value) ∧ ((.int .i64 x3) = ((.int .i64 x3) : Value) ∧ ptrK x2p (fun a371 => (0 ≤ x3 ∧ x3 < (Nat.cast x2l : Int) ∧ ((.pointer (some (Addr.add a371 (Int.toNat x3 * 1)))) = ((.pointer (some (Addr.add a5 (Int.toNat x3 * 1)))) : Value) ∧ ldI .i64 (rd h366 (Addr.add a5 (Int.toNat x3 * 1))) (fun n372 => ((.int .i64 n372) = ((.int .i64 n6) : Value) ∧ ldI .u64 (rd h366 (Addr.add x5 0)) (fun n373 => ldI .u64 (rd h366 (Addr.add x5 1)) (fun n374 => ldI .u64 (rd h366 (Addr.add x5 2)) (fun n375 => ldI .u64 (rd h366 (Addr.add x5 3)) (fun n376 => ((.agg #[(.int .u64 n373), (.int .u64 n374), (.int .u64 n375), (.int .u64 n376)]) = ((.agg #[(.int .u64 n7), (.int .u64 n8), (.int .u64 n9), (.int .u64 n10)]) : Value) ∧ ((.slice x2p x2l x2c) = ((.slice x2p x2l x2c) : Value) ∧ ((.int .i64 x3) = ((.int .i64 x3) : Value) ∧ ptrK x2p (fun a377 => (0 ≤ x3 ∧ x3 < (Nat.cast x2l : Int) ∧ ((.pointer (some (Addr.add a377 (Int.toNat x3 * 1)))) = ((.pointer (some (Addr.add a11 (Int.toNat x3 * 1)))) : Value) ∧ ldI .i64 (rd h366 (Addr.add a11 (Int.toNat x3 * 1))) (fun n378 => ((.int .i64 n378) = ((.int .i64 n12) : Value) ∧ (CallsH Tryz.prog 34 [(.agg #[(.int .u64 n1), (.int .u64 n2), (.int .u64 n3), (.int .u64 n4)]), (.int .i64 n6), (.bool false)] h366 (fun v379 h380 => (∃ n381 : Int, ∃ n382 : Int, ∃ n383 : Int, ∃ n384 : Int, v379 = (.agg #[(.int .u64 n381), (.int .u64 n382), (.int .u64 n383), (.int .u64 n384)]) ∧ ldI .u64 (rd h380 (Addr.add x5 0)) (fun n385 => ldI .u64 (rd h380 (Addr.add x5 1)) (fun n386 => ldI .u64 (rd h380 (Addr.add x5 2)) (fun n387 => ldI .u64 (rd h380 (Addr.add x5 3)) (fun n388 => ((.agg #[(.int .u64 n385), (.int .u64 n386), (.int .u64 n387), (.int .u64 n388)]) = ((.agg #[(.int .u64 n7), (.int .u64 n8), (.int .u64 n9), (.int .u64 n10)]) : Value) ∧ ((.slice x2p x2l x2c) = ((.slice x2p x2l x2c) : Value) ∧ ((.int .i64 x3) = ((.int .i64 x3) : Value) ∧ ptrK x2p (fun a389 => (0 ≤ x3 ∧ x3 < (Nat.cast x2l : Int) ∧ ((.pointer (some (Addr.add a389 (Int.toNat x3 * 1)))) = ((.pointer (some (Addr.add a11 (Int.toNat x3 * 1)))) : Value) ∧ ldI .i64 (rd h380 (Addr.add a11 (Int.toNat x3 * 1))) (fun n390 => ((.int .i64 n390) = ((.int .i64 n12) : Value) ∧ (CallsH Tryz.prog 34 [(.agg #[(.int .u64 n7), (.int .u64 n8), (.int .u64 n9), (.int .u64 n10)]), (.int .i64 n12), (.bool true)] h380 (fun v391 h392 => (∃ n393 : Int, ∃ n394 : Int, ∃ n395 : Int, ∃ n396 : Int, v391 = (.agg #[(.int .u64 n393), (.int .u64 n394), (.int .u64 n395), (.int .u64 n396)]) ∧ newK h392 (.cells #[(.int .u64 (0 : Int)), (.int .u64 (0 : Int)), (.int .u64 (0 : Int)), (.int .u64 (0 : Int))] 24) (fun b397 h398 => ldI .u64 (rd h398 (Addr.add x5 0)) (fun n399 => ldI .u64 (rd h398 (Addr.add x5 1)) (fun n400 => ldI .u64 (rd h398 (Addr.add x5 2)) (fun n401 => ldI .u64 (rd h398 (Addr.add x5 3)) (fun n402 => ((.agg #[(.int .u64 n399), (.int .u64 n400), (.int .u64 n401), (.int .u64 n402)]) = ((.agg #[(.int .u64 n1), (.int .u64 n2), (.int .u64 n3), (.int .u64 n4)]) : Value) ∧ ((.slice x2p x2l x2c) = ((.slice x2p x2l x2c) : Value) ∧ ((.int .i64 x3) = ((.int .i64 x3) : Value) ∧ ptrK x2p (fun a403 => (0 ≤ x3 ∧ x3 < (Nat.cast x2l : Int) ∧ ((.pointer (some (Addr.add a403 (Int.toNat x3 * 1)))) = ((.pointer (some (Addr.add a5 (Int.toNat x3 * 1)))) : Value) ∧ ldI .i64 (rd h398 (Addr.add a5 (Int.toNat x3 * 1))) (fun n404 => ((.int .i64 n404) = ((.int .i64 n6) : Value) ∧ ldI .u64 (rd h398 (Addr.add x5 0)) (fun n405 => ldI .u64 (rd h398 (Addr.add x5 1)) (fun n406 => ldI .u64 (rd h398 (Addr.add x5 2)) (fun n407 => ldI .u64 (rd h398 (Addr.add x5 3)) (fun n408 => ((.agg #[(.int .u64 n405), (.int .u64 n406), (.int .u64 n407), (.int .u64 n408)]) = ((.agg #[(.int .u64 n7), (.int .u64 n8), (.int .u64 n9), (.int .u64 n10)]) : Value) ∧ ((.slice x2p x2l x2c) = ((.slice x2p x2l x2c) : Value) ∧ ((.int .i64 x3) = ((.int .i64 x3) : Value) ∧ ptrK x2p (fun a409 => (0 ≤ x3 ∧ x3 < (Nat.cast x2l : Int) ∧ ((.pointer (some (Addr.add a409 (Int.toNat x3 * 1)))) = ((.pointer (some (Addr.add a11 (Int.toNat x3 * 1)))) : Value) ∧ ldI .i64 (rd h398 (Addr.add a11 (Int.toNat x3 * 1))) (fun n410 => ((.int .i64 n410) = ((.int .i64 n12) : Value) ∧ stK h398 (Addr.add (Addr.mk b397 0 none) 0) (.int .u64 n381) (fun h411 => stK h411 (Addr.add (Addr.mk b397 0 none) 1) (.int .u64 n382) (fun h412 => stK h412 (Addr.add (Addr.mk b397 0 none) 2) (.int .u64 n383) (fun h413 => stK h413 (Addr.add (Addr.mk b397 0 none) 3) (.int .u64 n384) (fun h414 => stK h414 (Addr.add (Addr.mk b365 0 none) 0) (.int .u64 n393) (fun h415 => stK h415 (Addr.add (Addr.mk b365 0 none) 1) (.int .u64 n394) (fun h416 => stK h416 (Addr.add (Addr.mk b365 0 none) 2) (.int .u64 n395) (fun h417 => stK h417 (Addr.add (Addr.mk b365 0 none) 3) (.int .u64 n396) (fun h418 => k8 x0 x2p x2l x2c x3 (Addr.mk b397 0 none) (Addr.mk b365 0 none) h418))))))))))))))))))))))))))))))))))) ∧ newK h380 (.cells #[(.int .u64 (0 : Int)), (.int .u64 (0 : Int)), (.int .u64 (0 : Int)), (.int .u64 (0 : Int))] 24) (fun b419 h420 => ldI .u64 (rd h420 (Addr.add x5 0)) (fun n421 => ldI .u64 (rd h420 (Addr.add x5 1)) (fun n422 => ldI .u64 (rd h420 (Addr.add x5 2)) (fun n423 => ldI .u64 (rd h420 (Addr.add x5 3)) (fun n424 => ((.agg #[(.int .u64 n421), (.int .u64 n422), (.int .u64 n423), (.int .u64 n424)]) = ((.agg #[(.int .u64 n1), (.int .u64 n2), (.int .u64 n3), (.int .u64 n4)]) : Value) ∧ ((.slice x2p x2l x2c) = ((.slice x2p x2l x2c) : Value) ∧ ((.int .i64 x3) = ((.int .i64 x3) : Value) ∧ ptrK x2p (fun a425 => (0 ≤ x3 ∧ x3 < (Nat.cast x2l : Int) ∧ ((.pointer (some (Addr.add a425 (Int.toNat x3 * 1)))) = ((.pointer (some (Addr.add a5 (Int.toNat x3 * 1)))) : Value) ∧ ldI .i64 (rd h420 (Addr.add a5 (Int.toNat x3 * 1))) (fun n426 => ((.int .i64 n426) = ((.int .i64 n6) : Value) ∧ ldI .u64 (rd h420 (Addr.add x5 0)) (fun n427 => ldI .u64 (rd h420 (Addr.add x5 1)) (fun n428 => ldI .u64 (rd h420 (Addr.add x5 2)) (fun n429 => ldI .u64 (rd h420 (Addr.add x5 3)) (fun n430 => ((.agg #[(.int .u64 n427), (.int .u64 n428), (.int .u64 n429), (.int .u64 n430)]) = ((.agg #[(.int .u64 n7), (.int .u64 n8), (.int .u64 n9), (.int .u64 n10)]) : Value) ∧ ((.slice x2p x2l x2c) = ((.slice x2p x2l x2c) : Value) ∧ ((.int .i64 x3) = ((.int .i64 x3) : Value) ∧ ptrK x2p (fun a431 => (0 ≤ x3 ∧ x3 < (Nat.cast x2l : Int) ∧ ((.pointer (some (Addr.add a431 (Int.toNat x3 * 1)))) = ((.pointer (some (Addr.add a11 (Int.toNat x3 * 1)))) : Value) ∧ ldI .i64 (rd h420 (Addr.add a11 (Int.toNat x3 * 1))) (fun n432 => ((.int .i64 n432) = ((.int .i64 n12) : Value) ∧ CallsH Tryz.prog 34 [(.agg #[(.int .u64 n7), (.int .u64 n8), (.int .u64 n9), (.int .u64 n10)]), (.int .i64 n12), (.bool true)] h420 (fun v433 h434 => (∃ n435 : Int, ∃ n436 : Int, ∃ n437 : Int, ∃ n438 : Int, v433 = (.agg #[(.int .u64 n435), (.int .u64 n436), (.int .u64 n437), (.int .u64 n438)]) ∧ stK h434 (Addr.add (Addr.mk b419 0 none) 0) (.int .u64 n381) (fun h439 => stK h439 (Addr.add (Addr.mk b419 0 none) 1) (.int .u64 n382) (fun h440 => stK h440 (Addr.add (Addr.mk b419 0 none) 2) (.int .u64 n383) (fun h441 => stK h441 (Addr.add (Addr.mk b419 0 none) 3) (.int .u64 n384) (fun h442 => stK h442 (Addr.add (Addr.mk b365 0 none) 0) (.int .u64 n435) (fun h443 => stK h443 (Addr.add (Addr.mk b365 0 none) 1) (.int .u64 n436) (fun h444 => stK h444 (Addr.add (Addr.mk b365 0 none) 2) (.int .u64 n437) (fun h445 => stK h445 (Addr.add (Addr.mk b365 0 none) 3) (.int .u64 n438) (fun h446 => k8 x0 x2p x2l x2c x3 (Addr.mk b419 0 none) (Addr.mk b365 0 none) h446)))))))))))))))))))))))))))))))))))))))))))))))))) ∧ newK h366 (.cells #[(.int .u64 (0 : Int)), (.int .u64 (0 : Int)), (.int .u64 (0 : Int)), (.int .u64 (0 : Int))] 24) (fun b447 h448 => ldI .u64 (rd h448 (Addr.add x5 0)) (fun n449 => ldI .u64 (rd h448 (Addr.add x5 1)) (fun n450 => ldI .u64 (rd h448 (Addr.add x5 2)) (fun n451 => ldI .u64 (rd h448 (Addr.add x5 3)) (fun n452 => ((.agg #[(.int .u64 n449), (.int .u64 n450), (.int .u64 n451), (.int .u64 n452)]) = ((.agg #[(.int .u64 n1), (.int .u64 n2), (.int .u64 n3), (.int .u64 n4)]) : Value) ∧ ((.slice x2p x2l x2c) = ((.slice x2p x2l x2c) : Value) ∧ ((.int .i64 x3) = ((.int .i64 x3) : Value) ∧ ptrK x2p (fun a453 => (0 ≤ x3 ∧ x3 < (Nat.cast x2l : Int) ∧ ((.pointer (some (Addr.add a453 (Int.toNat x3 * 1)))) = ((.pointer (some (Addr.add a5 (Int.toNat x3 * 1)))) : Value) ∧ ldI .i64 (rd h448 (Addr.add a5 (Int.toNat x3 * 1))) (fun n454 => ((.int .i64 n454) = ((.int .i64 n6) : Value) ∧ ldI .u64 (rd h448 (Addr.add x5 0)) (fun n455 => ldI .u64 (rd h448 (Addr.add x5 1)) (fun n456 => ldI .u64 (rd h448 (Addr.add x5 2)) (fun n457 => ldI .u64 (rd h448 (Addr.add x5 3)) (fun n458 => ((.agg #[(.int .u64 n455), (.int .u64 n456), (.int .u64 n457), (.int .u64 n458)]) = ((.agg #[(.int .u64 n7), (.int .u64 n8), (.int .u64 n9), (.int .u64 n10)]) : Value) ∧ ((.slice x2p x2l x2c) = ((.slice x2p x2l x2c) : Value) ∧ ((.int .i64 x3) = ((.int .i64 x3) : Value) ∧ ptrK x2p (fun a459 => (0 ≤ x3 ∧ x3 < (Nat.cast x2l : Int) ∧ ((.pointer (some (Addr.add a459 (Int.toNat x3 * 1)))) = ((.pointer (some (Addr.add a11 (Int.toNat x3 * 1)))) : Value) ∧ ldI .i64 (rd h448 (Addr.add a11 (Int.toNat x3 * 1))) (fun n460 => ((.int .i64 n460) = ((.int .i64 n12) : Value) ∧ CallsH Tryz.prog 34 [(.agg #[(.int .u64 n1), (.int .u64 n2), (.int .u64 n3), (.int .u64 n4)]), (.int .i64 n6), (.bool false)] h448 (fun v461 h462 => (∃ n463 : Int, ∃ n464 : Int, ∃ n465 : Int, ∃ n466 : Int, v461 = (.agg #[(.int .u64 n463), (.int .u64 n464), (.int .u64 n465), (.int .u64 n466)]) ∧ ldI .u64 (rd h462 (Addr.add x5 0)) (fun n467 => ldI .u64 (rd h462 (Addr.add x5 1)) (fun n468 => ldI .u64 (rd h462 (Addr.add x5 2)) (fun n469 => ldI .u64 (rd h462 (Addr.add x5 3)) (fun n470 => ((.agg #[(.int .u64 n467), (.int .u64 n468), (.int .u64 n469), (.int .u64 n470)]) = ((.agg #[(.int .u64 n7), (.int .u64 n8), (.int .u64 n9), (.int .u64 n10)]) : Value) ∧ ((.slice x2p x2l x2c) = ((.slice x2p x2l x2c) : Value) ∧ ((.int .i64 x3) = ((.int .i64 x3) : Value) ∧ ptrK x2p (fun a471 => (0 ≤ x3 ∧ x3 < (Nat.cast x2l : Int) ∧ ((.pointer (some (Addr.add a471 (Int.toNat x3 * 1)))) = ((.pointer (some (Addr.add a11 (Int.toNat x3 * 1)))) : Value) ∧ ldI .i64 (rd h462 (Addr.add a11 (Int.toNat x3 * 1))) (fun n472 => ((.int .i64 n472) = ((.int .i64 n12) : Value) ∧ CallsH Tryz.prog 34 [(.agg #[(.int .u64 n7), (.int .u64 n8), (.int .u64 n9), (.int .u64 n10)]), (.int .i64 n12), (.bool true)] h462 (fun v473 h474 => (∃ n475 : Int, ∃ n476 : Int, ∃ n477 : Int, ∃ n478 : Int, v473 = (.agg #[(.int .u64 n475), (.int .u64 n476), (.int .u64 n477), (.int .u64 n478)]) ∧ stK h474 (Addr.add (Addr.mk b447 0 none) 0) (.int .u64 n463) (fun h479 => stK h479 (Addr.add (Addr.mk b447 0 none) 1) (.int .u64 n464) (fun h480 => stK h480 (Addr.add (Addr.mk b447 0 none) 2) (.int .u64 n465) (fun h481 => stK h481 (Addr.add (Addr.mk b447 0 none) 3) (.int .u64 n466) (fun h482 => stK h482 (Addr.add (Addr.mk b365 0 none) 0) (.int .u64 n475) (fun h483 => stK h483 (Addr.add (Addr.mk b365 0 none) 1) (.int .u64 n476) (fun h484 => stK h484 (Addr.add (Addr.mk b365 0 none) 2) (.int .u64 n477) (fun h485 => stK h485 (Addr.add (Addr.mk b365 0 none) 3) (.int .u64 n478) (fun h486 => k8 x0 x2p x2l x2c x3 (Addr.mk b447 0 none) (Addr.mk b365 0 none) h486))))))))))))))))))))))))))))))))))))))))))))))))))))))))))))))))))))))))))))))))))))))))))))
theorem Ek5 (S : Stop) (x0 : Addr) (x2p : Option Addr) (x2l x2c : Nat) (x3 : Int) (x5 : Addr) (h : Heap) (K : KK) : (en S [1, 1] (fn K) (f5 x0 x2p x2l x2c x3 x5) h) = Jk5 (fun x0 x2p x2l x2c x3 x10 x11 h => S (en S [1, 1, 1, 1] (fn K)) (f8 x0 x2p x2l x2c x3 x10 x11) h) x0 x2p x2l x2c x3 x5 h K := by kernel_rfl
def Jk8 (x0 : Addr) (x2p : Option Addr) (x2l x2c : Nat) (x3 : Int) (x10 x11 : Addr) (h : Heap) (K : KK) : Prop :=
  ldI .u64 (rd h (Addr.add x10 0)) (fun n1 => ldI .u64 (rd h (Addr.add x10 1)) (fun n2 => ldI .u64 (rd h (Addr.add x10 2)) (fun n3 => ldI .u64 (rd h (Addr.add x10 3)) (fun n4 => ldI .u64 (rd h (Addr.add x11 0)) (fun n5 => ldI .u64 (rd h (Addr.add x11 1)) (fun n6 => ldI .u64 (rd h (Addr.add x11 2)) (fun n7 => ldI .u64 (rd h (Addr.add x11 3)) (fun n8 => bcase (n1 == n5 && (n2 == n6 && (n3 == n7 && (n4 == n8 && true)))) (ldI .u64 (rd h (Addr.add x10 0)) (fun n9 => ldI .u64 (rd h (Addr.add x10 1)) (fun n10 => ldI .u64 (rd h (Addr.add x10 2)) (fun n11 => ldI .u64 (rd h (Addr.add x10 3)) (fun n12 => CallsH Tryz.prog 35 [(.pointer (some x0)), (.agg #[(.int .u64 n9), (.int .u64 n10), (.int .u64 n11), (.int .u64 n12)]), (.slice x2p x2l x2c), (.int .i64 (IntKind.wrap .i64 (x3 + (1 : Int))))] h (fun v13 h14 => (∃ n15 : Int, ∃ b16 : Bool, v13 = (.tuple #[(.int .u32 n15), (.bool b16)]) ∧ K (.tuple #[(.int .u32 n15), (.bool b16)]) h14))))))) (ldI .u64 (rd h (Addr.add x10 0)) (fun n17 => ldI .u64 (rd h (Addr.add x10 1)) (fun n18 => ldI .u64 (rd h (Addr.add x10 2)) (fun n19 => ldI .u64 (rd h (Addr.add x10 3)) (fun n20 => CallsH Tryz.prog 35 [(.pointer (some x0)), (.agg #[(.int .u64 n17), (.int .u64 n18), (.int .u64 n19), (.int .u64 n20)]), (.slice x2p x2l x2c), (.int .i64 (IntKind.wrap .i64 (x3 + (1 : Int))))] h (fun v21 h22 => (∃ n23 : Int, ∃ b24 : Bool, v21 = (.tuple #[(.int .u32 n23), (.bool b24)]) ∧ ldI .u64 (rd h22 (Addr.add x11 0)) (fun n25 => ldI .u64 (rd h22 (Addr.add x11 1)) (fun n26 => ldI .u64 (rd h22 (Addr.add x11 2)) (fun n27 => ldI .u64 (rd h22 (Addr.add x11 3)) (fun n28 => CallsH Tryz.prog 35 [(.pointer (some x0)), (.agg #[(.int .u64 n25), (.int .u64 n26), (.int .u64 n27), (.int .u64 n28)]), (.slice x2p x2l x2c), (.int .i64 (IntKind.wrap .i64 (x3 + (1 : Int))))] h22 (fun v29 h30 => (∃ n31 : Int, ∃ b32 : Bool, v29 = (.tuple #[(.int .u32 n31), (.bool b32)]) ∧ bcase (!b24) (K (.tuple #[(.int .u32 (0 : Int)), (.bool false)]) h30) (bcase (!b32) (K (.tuple #[(.int .u32 (0 : Int)), (.bool false)]) h30) (CallsH Tryz.prog 56 [(.pointer (some x0)), (.int .i64 x3), (.int .u32 n23), (.int .u32 n31)] h30 (fun v33 h34 => (∃ n35 : Int, ∃ n36 : Int, v33 = (.tuple #[(.int .u32 n35), (.int .i64 n36)]) ∧ K (.tuple #[(.int .u32 n35), (.bool (n36 == (0 : Int)))]) h34)))))))))))))))))))))))))
theorem Ek8 (S : Stop) (x0 : Addr) (x2p : Option Addr) (x2l x2c : Nat) (x3 : Int) (x10 x11 : Addr) (h : Heap) (K : KK) : (en S [1, 1, 1, 1] (fn K) (f8 x0 x2p x2l x2c x3 x10 x11) h) = Jk8 x0 x2p x2l x2c x3 x10 x11 h K := by kernel_rfl
def wk8 (x0 : Addr) (x2p : Option Addr) (x2l x2c : Nat) (x3 : Int) (x10 x11 : Addr) (h : Heap) (K : KK) : Prop :=
  Jk8 x0 x2p x2l x2c x3 x10 x11 h K
theorem ek8 (K : KK) (x0 : Addr) (x2p : Option Addr) (x2l x2c : Nat) (x3 : Int) (x10 x11 : Addr) (h : Heap) : (en S0 [1, 1, 1, 1] (fn K) (f8 x0 x2p x2l x2c x3 x10 x11) h) = wk8 x0 x2p x2l x2c x3 x10 x11 h K := (Ek8 S0 x0 x2p x2l x2c x3 x10 x11 h K).trans (rfl)
def wk5 (x0 : Addr) (x2p : Option Addr) (x2l x2c : Nat) (x3 : Int) (x5 : Addr) (h : Heap) (K : KK) : Prop :=
  Jk5 (fun x0 x2p x2l x2c x3 x10 x11 h => wk8 x0 x2p x2l x2c x3 x10 x11 h K) x0 x2p x2l x2c x3 x5 h K
theorem ek5 (K : KK) (x0 : Addr) (x2p : Option Addr) (x2l x2c : Nat) (x3 : Int) (x5 : Addr) (h : Heap) : (en S0 [1, 1] (fn K) (f5 x0 x2p x2l x2c x3 x5) h) = wk5 x0 x2p x2l x2c x3 x5 h K := (Ek5 S0 x0 x2p x2l x2c x3 x5 h K).trans (cg1 (fun q0 => Jk5 q0 x0 x2p x2l x2c x3 x5 h K) (by funext x0 x2p x2l x2c x3 x10 x11 h; exact ek8 K x0 x2p x2l x2c x3 x10 x11 h))
def w (x0 : Addr) (x1_0 x1_1 x1_2 x1_3 : Int) (x2p : Option Addr) (x2l x2c : Nat) (x3 : Int) (h : Heap) (K : KK) : Prop :=
  J0 (fun x0 x2p x2l x2c x3 x5 h => wk5 x0 x2p x2l x2c x3 x5 h K) x0 x1_0 x1_1 x1_2 x1_3 x2p x2l x2c x3 h K
theorem e0 (K : KK) (x0 : Addr) (x1_0 x1_1 x1_2 x1_3 : Int) (x2p : Option Addr) (x2l x2c : Nat) (x3 : Int) (h : Heap) : (E Tryz.prog X T S0 body (fin Tryz.prog Tryz.f35.results.toList K) (args0 0 [(.pointer (some x0)), (.agg #[(.int .u64 x1_0), (.int .u64 x1_1), (.int .u64 x1_2), (.int .u64 x1_3)]), (.slice x2p x2l x2c), (.int .i64 x3)]) h) = w x0 x1_0 x1_1 x1_2 x1_3 x2p x2l x2c x3 h K := (E0 S0 x0 x1_0 x1_1 x1_2 x1_3 x2p x2l x2c x3 h K).trans (cg1 (fun q0 => J0 q0 x0 x1_0 x1_1 x1_2 x1_3 x2p x2l x2c x3 h K) (by funext x0 x2p x2l x2c x3 x5 h; exact ek5 K x0 x2p x2l x2c x3 x5 h))
theorem hb : Tryz.f35.body = some body := by kernel_rfl
theorem ok : okCode T Tryz.f35.ntmps body = true := by kernel_rfl
theorem spec (x0 : Addr) (x1_0 : Int) (x1_1 : Int) (x1_2 : Int) (x1_3 : Int) (x2p : Option Addr) (x2l : Nat) (x2c : Nat) (x3 : Int) (h : Heap) (K : KK) (H : w x0 x1_0 x1_1 x1_2 x1_3 x2p x2l x2c x3 h K) : CallsH Tryz.prog 35 [(.pointer (some x0)), (.agg #[(.int .u64 x1_0), (.int .u64 x1_1), (.int .u64 x1_2), (.int .u64 x1_3)]), (.slice x2p x2l x2c), (.int .i64 x3)] h K :=
  calls_of_E (T := T) Xok mix Tryz.func35 hb ok rfl (by rw [e0]; exact H)
end F35
end Go.Proofs.YtnbnlhpleomaoaaGreat.Ev
/- HEAPS: blocks that hold cells, what is read there, what a store and a new block leave alone. Conditions: none. -/
namespace Go.Proofs.YtnbnlhpleomaoaaGreat.Ev
open Go
/-- block b holds these cells, none of them frozen -/
def At (h : Heap) (b : Nat) (c : List Value) : Prop := ∃ e, h[b]? = some (.cells c.toArray e)
/-- of what was there, at most the blocks S have turned -/
structure Only (S : List Nat) (h h' : Heap) : Prop where
  size : h.size ≤ h'.size
  same : ∀ b, b < h.size → b ∉ S → h'[b]? = h[b]?
  fzn : ∀ a, fz h' a = fz h a

theorem At.lt {h : Heap} {b : Nat} {c : List Value} (H : At h b c) : b < h.size := by
  obtain ⟨e, H⟩ := H
  exact (Array.getElem?_eq_some_iff.1 H).1
theorem At.rd {h : Heap} {b : Nat} {c : List Value} (H : At h b c) (i : Nat) : rd h ⟨b, i, none⟩ = c[i]? := by
  obtain ⟨e, H⟩ := H
  simp [Ev.rd, H]
theorem At.fz {h : Heap} {b : Nat} {c : List Value} (H : At h b c) (i : Nat) (s : Option Nat) : fz h ⟨b, i, s⟩ = false := by
  obtain ⟨e, H⟩ := H
  simp [Ev.fz, H]
theorem At.only {S : List Nat} {h h' : Heap} {b : Nat} {c : List Value} (H : At h b c) (O : Only S h h') (hb : b ∉ S) : At h' b c := by
  obtain ⟨e, H⟩ := H
  exact ⟨e, (O.same b (Array.getElem?_eq_some_iff.1 H).1 hb).trans H⟩
theorem At.inj {h : Heap} {b : Nat} {c d : List Value} (H : At h b c) (G : At h b d) : c = d := by
  obtain ⟨e, H⟩ := H
  obtain ⟨f, G⟩ := G
  rw [H] at G
  injection G with G
  injection G with G
  exact List.toArray_inj G

theorem Only.refl (S : List Nat) (h : Heap) : Only S h h := ⟨Nat.le_refl _, fun _ _ _ => rfl, fun _ => rfl⟩
theorem Only.trans {S T : List Nat} {h h' h'' : Heap} (A : Only S h h') (B : Only T h' h'') (hT : ∀ b, b ∈ T → b < h.size → b ∈ S) : Only S h h'' :=
  ⟨Nat.le_trans A.size B.size, fun b hb hS => (B.same b (Nat.lt_of_lt_of_le hb A.size) (fun hbT => hS (hT b hbT hb))).trans (A.same b hb hS),
   fun a => (B.fzn a).trans (A.fzn a)⟩
theorem Only.mono {S T : List Nat} {h h' : Heap} (A : Only S h h') (hS : ∀ b, b ∈ S → b < h.size → b ∈ T) : Only T h h' :=
  Only.trans (Only.refl T h) A hS
theorem Only.push_cells (h : Heap) (c : Array Value) (e : TypeId) : Only [] h (h.push (.cells c e)) := by
  refine ⟨by simp, fun b hb _ => by simp [Array.getElem?_push, Nat.ne_of_lt hb], fun a => ?_⟩
  unfold fz
  rw [Array.getElem?_push]
  by_cases ha : a.block = h.size
  · rw [if_pos ha, ha]
    simp
  · rw [if_neg ha]
theorem Only.push_map (h : Heap) (es : Array MapEntry) (n : Nat) : Only [] h (h.push (.map es n)) := by
  refine ⟨by simp, fun b hb _ => by simp [Array.getElem?_push, Nat.ne_of_lt hb], fun a => ?_⟩
  unfold fz
  rw [Array.getElem?_push]
  by_cases ha : a.block = h.size
  · rw [if_pos ha, ha]
    simp
  · rw [if_neg ha]
theorem wr_other (h : Heap) (a : Addr) (v : Value) (b : Nat) (hb : b ≠ a.block) : (wr h a v)[b]? = h[b]? := by
  unfold wr
  rw [Array.getElem?_modify, if_neg (fun e => hb e.symm)]
theorem Only.wr (h : Heap) (a : Addr) (v : Value) : Only [a.block] h (wr h a v) := by
  refine ⟨by simp [Ev.wr], fun b _ hS => wr_other h a v b (by simpa using hS), fun x => ?_⟩
  unfold Ev.fz
  by_cases hx : x.block = a.block
  · unfold Ev.wr
    rw [Array.getElem?_modify, if_pos hx.symm]
    cases hh : h[x.block]? with
    | none => simp
    | some o => cases o <;> simp
  · rw [wr_other h a v x.block hx]
theorem At.wr {h : Heap} {b : Nat} {c : List Value} (H : At h b c) (i : Nat) (v : Value) : At (wr h ⟨b, i, none⟩ v) b (c.set i v) := by
  obtain ⟨e, H⟩ := H
  refine ⟨e, ?_⟩
  unfold Ev.wr
  rw [Array.getElem?_modify, if_pos rfl, H]
  simp
theorem At.push (h : Heap) (c : Array Value) (e : TypeId) : At (h.push (.cells c e)) h.size c.toList := ⟨e, by simp⟩
@[simp] theorem add_mk (b o n : Nat) : Addr.add ⟨b, o, none⟩ n = ⟨b, o + n, none⟩ := by
  unfold Addr.add
  split
  · next h => subst h; rfl
  · rfl
theorem add_zero (a : Addr) : Addr.add a 0 = a := by simp [Addr.add]

theorem ldI_of {k : IntKind} {x : Option Value} {K : Int → Prop} {n : Int} (hx : x = some (.int k n)) (hK : K n) : ldI k x K := ⟨n, hx, hK⟩
theorem ldB_of {x : Option Value} {K : Bool → Prop} {n : Bool} (hx : x = some (.bool n)) (hK : K n) : ldB x K := ⟨n, hx, hK⟩
theorem ldP_of {x : Option Value} {K : Option Addr → Prop} {n : Option Addr} (hx : x = some (.pointer n)) (hK : K n) : ldP x K := ⟨n, hx, hK⟩
theorem ldS_of {x : Option Value} {K : Option Addr → Nat → Nat → Prop} {p : Option Addr} {l c : Nat} (hx : x = some (.slice p l c)) (hK : K p l c) : ldS x K := ⟨p, l, c, hx, hK⟩
@[simp] theorem ldI_some {k : IntKind} {K : Int → Prop} {n : Int} : ldI k (some (.int k n)) K ↔ K n :=
  ⟨fun ⟨m, e, h⟩ => by injection e with e; injection e with _ e; exact e ▸ h, ldI_of rfl⟩
@[simp] theorem ldB_some {K : Bool → Prop} {n : Bool} : ldB (some (.bool n)) K ↔ K n :=
  ⟨fun ⟨m, e, h⟩ => by injection e with e; injection e with e; exact e ▸ h, ldB_of rfl⟩
@[simp] theorem ldP_some {K : Option Addr → Prop} {n : Option Addr} : ldP (some (.pointer n)) K ↔ K n :=
  ⟨fun ⟨m, e, h⟩ => by injection e with e; injection e with e; exact e ▸ h, ldP_of rfl⟩
@[simp] theorem ldS_some {K : Option Addr → Nat → Nat → Prop} {p : Option Addr} {l c : Nat} : ldS (some (.slice p l c)) K ↔ K p l c :=
  ⟨fun ⟨_, _, _, e, h⟩ => by injection e with e; injection e with e1 e2 e3; subst e1; subst e2; subst e3; exact h, ldS_of rfl⟩
@[simp] theorem ldM_some {K : Option Nat → Prop} {n : Option Nat} : ldM (some (.map n)) K ↔ K n :=
  ⟨fun ⟨m, e, h⟩ => by injection e with e; injection e with e; exact e ▸ h, fun h => ⟨n, rfl, h⟩⟩
@[simp] theorem ldV_some {K : Value → Prop} {v : Value} : ldV (some v) K ↔ K v :=
  ⟨fun ⟨m, e, h⟩ => by injection e with e; exact e ▸ h, fun h => ⟨v, rfl, h⟩⟩
@[simp] theorem ptrK_some {a : Addr} {K : Addr → Prop} : ptrK (some a) K ↔ K a := Iff.rfl
@[simp] theorem bcase_true {t f : Prop} : bcase true t f ↔ t := Iff.rfl
@[simp] theorem bcase_false {t f : Prop} : bcase false t f ↔ f := Iff.rfl
theorem bcase_of {b : Bool} {t f : Prop} (ht : b = true → t) (hf : b = false → f) : bcase b t f := by
  cases b with
  | true => exact ht rfl
  | false => exact hf rfl

theorem stK_at {h : Heap} {b i : Nat} {c : List Value} {v : Value} {K : Heap → Prop} (H : At h b c) (hi : i < c.length) (hv : v.oneCell' = true)
    (hK : ∀ h', At h' b (c.set i v) → Only [b] h h' → h'.size = h.size → K h') : stK h ⟨b, i, none⟩ v K := by
  unfold stK
  rw [hv]
  refine ⟨?_, H.fz i none, hK _ (H.wr i v) (Only.wr h ⟨b, i, none⟩ v) (by simp [Ev.wr])⟩
  rw [H.rd]
  simp [hi]
theorem newK_at {h : Heap} {c : Array Value} {e : TypeId} {K : Nat → Heap → Prop}
    (hK : ∀ h', At h' h.size c.toList → Only [] h h' → h'.size = h.size + 1 → K h.size h') : newK h (.cells c e) K :=
  hK _ (At.push h c e) (Only.push_cells h c e) (by simp)
theorem CallsH.mono {P : Program} {f : FuncId} {args : List Value} {h : Heap} {K K' : Value → Heap → Prop} (H : CallsH P f args h K) (hK : ∀ v h', K v h' → K' v h') : CallsH P f args h K' :=
  fun w hw => (H w hw).mono fun _ _ ⟨v, e, s, k⟩ => ⟨v, e, s, hK _ _ k⟩

theorem wrap_i64 {n : Int} (h0 : -9223372036854775808 ≤ n) (h1 : n < 9223372036854775808) : IntKind.wrap .i64 n = n := by
  rw [IntKind.wrap_i64]; omega
theorem wrap_u64 {n : Int} (h0 : 0 ≤ n) (h1 : n < 18446744073709551616) : IntKind.wrap .u64 n = n := by
  simp [IntKind.wrap, IntKind.bits, IntKind.signed]; omega
theorem wrap_u64' (n : Int) : IntKind.wrap .u64 n = n % 18446744073709551616 := by
  simp [IntKind.wrap, IntKind.bits, IntKind.signed]
theorem dynK_go {P : Program} {X : List (Nat × Ext)} {g : Nat} {first captured : Array Value} {args : List Value} {h : Heap} {K : Value → Heap → Prop} (hx : xget X g = some .go)
    (H : CallsH P g (first.toList ++ args ++ captured.toList) h K) : dynK P X (.func (.func g) first captured) args h K := by
  unfold dynK
  simp only [hx]
  exact H
end Go.Proofs.YtnbnlhpleomaoaaGreat.Ev
/- FROM A CALL SEEN FROM THE HEAP TO A LAW's ROW: the call returns true, nothing that was there has turned: so each argument reads as it read. Conditions: the table is laid out, the parameters' types can be read back. -/
namespace Go.Proofs.YtnbnlhpleomaoaaGreat.Ev
open Go Go.ChangeShapes Go.WideShapes Go.ChangeAt Go.RowKit
/-- what a law's call ends in -/
def Lawful (h : Heap) (v : Value) (h' : Heap) : Prop := v = .bool true ∧ Only [] h h'

theorem frz (w : World) (a : Addr) : w.frozen? a = fz w.heap a := by
  unfold World.frozen? fz
  rfl
theorem law_calls {P : Program} {f : FuncId} {args : List Value} {W : World} (H : CallsH P f args W.heap (Lawful W.heap)) :
    Calls P f args.toArray W fun e W' => e = .returned (.bool true) ∧ Below W.heap.size W W' ∧ ∀ a, W'.frozen? a = W.frozen? a := by
  refine (H W rfl).mono fun e W' ⟨v, he, hs, hv, hO⟩ => ?_
  subst hv
  exact ⟨he, ⟨hs.1, hs.2.1, hs.2.2, hO.size, fun k hk => hO.same k hk (by simp)⟩, fun a => by rw [frz, frz]; exact hO.fzn a⟩

theorem trodAll_stays {H : Type} {enc : TypeId × Value → H} {P : Program} (hl : laidOutB P = true) {W W' : World} {sp : Nat → Bool} :
    ∀ (ts : List TypeId) (vs : List Value) (ds : List (DataW H)) (ps : List MemPlace), ts.all (fun t => P.readableRec t && decide (t < P.types.size)) = true →
      DataW.TrodAll enc P W 0 (fun _ => true) true ts vs ds ps → (∀ p ∈ ps, W.sameAt W' p) → (∀ p ∈ ps, sp p.block = true) → DataW.TrodAll enc P W' 0 sp true ts vs ds ps
  | [], [], [], _, _, h, _, _ => h
  | t :: ts, v :: vs, d :: ds, ps, hr, ⟨p, q, hd, hds, e⟩, hsame, hsp => by
    subst e
    simp only [List.all_cons, Bool.and_eq_true, decide_eq_true_eq] at hr
    exact ⟨p, q, WideElems.Trod_stays hl hr.1.1 hr.1.2 hd (fun x hx => hsame x (List.mem_append.2 (.inl hx))) (fun x hx => hsp x (List.mem_append.2 (.inl hx))),
      trodAll_stays hl ts vs ds q hr.2 hds (fun x hx => hsame x (List.mem_append.2 (.inr hx))) (fun x hx => hsp x (List.mem_append.2 (.inr hx))), rfl⟩
  | [], _ :: _, _, _, _, h, _, _ => h.elim
  | [], [], _ :: _, _, _, h, _, _ => h.elim
  | _ :: _, [], _, _, _, h, _, _ => h.elim
  | _ :: _, _ :: _, [], _, _, h, _, _ => h.elim

theorem post_law {H : Type} {enc : TypeId × Value → H} {P : Program} {f : Func} {s : ChangeSpec} {apart fresh handsOn again : Bool} {W W' : World} {args : Array Value} {ds gs : List (DataW H)} {before : List MemPlace} {tb : TypeId}
    (hl : laidOutB P = true) (hread : f.params.toList.all (fun t => P.readableRec t && decide (t < P.types.size)) = true)
    (hres : f.resultTypes = #[tb]) (hb : P.underlying tb = some .bool) (hvars : s.vars = [])
    (hW : DataW.Whole enc P f.params.toList s.vars apart W args.toList ds gs before)
    (hs : s.fn H ds = { results := [.lit (.bool true)], args := ds })
    (hB : Below W.heap.size W W') (hfz : ∀ a, W'.frozen? a = W.frozen? a) : s.post enc P f apart fresh handsOn again W args (.bool true) W' := by
  have hlt : ∀ p ∈ before, p.block < W.heap.size := fun p hp => hW.lt p hp
  obtain ⟨p, q, hA, hV, rfl, hz, hn⟩ := id hW
  rw [hvars] at hV
  obtain ⟨rfl, rfl⟩ : gs = [] ∧ q = [] := by
    cases gs with
    | nil => exact ⟨rfl, hV⟩
    | cons _ _ => exact hV.elim
  refine post_of_same (pa := p) (pv := []) hW (fun _ _ _ => ?_) (fun sp hsp => ?_) (fun sp hsp => ?_) rfl (hB.frame _) hfz ?_
  · rw [hres, List.append_nil, hs]
    exact trodAll_cons_mk (shut_bool hb _) trodAll_mk0
  · rw [List.append_nil, hs]
    exact trodAll_stays hl _ _ _ _ hread hA (fun x hx => hB.same (hlt x (List.mem_append.2 (.inl hx)))) (fun x hx => hsp x (List.mem_append.2 (.inl hx)))
  · rw [List.append_nil, hs, hvars]
    rfl
  · exact ok_one hres rfl (okWide_bool_mk hb _)

/-- a row of whole numbers in memory -/
def Ints (h : Heap) (k : IntKind) (p : Option Addr) (zs : List Int) : Prop :=
  ∀ i, i < zs.length → ∃ a, p = some a ∧ rd h (a.add i) = some (.int k (zs.getD i 0))
theorem Ints.only {S : List Nat} {h h' : Heap} {k : IntKind} {p : Option Addr} {zs : List Int} (H : Ints h k p zs) (O : Only S h h') (hS : ∀ b ∈ S, h.size ≤ b) : Ints h' k p zs := by
  intro i hi
  obtain ⟨a, e, hr⟩ := H i hi
  refine ⟨a, e, ?_⟩
  rw [← hr]
  have hb : (a.add i).block < h.size := by
    apply Classical.byContradiction
    intro hn
    have : h[(a.add i).block]? = none := Array.getElem?_eq_none (by omega)
    simp [rd, this] at hr
  unfold rd
  rw [O.same _ hb fun hm => absurd (hS _ hm) (by omega)]
theorem wf_range {k : IntKind} {n : Int} (h : (Lit.int k n).wf = true) : k.min ≤ n ∧ n ≤ k.max := by
  simpa [Lit.wf] using h
/-- a row of records of N cells -/
def Recs (h : Heap) (p : Option Addr) (l N : Nat) (s : Nat → Nat → Value) : Prop :=
  ∀ i j, i < l → j < N → ∃ a, p = some a ∧ rd h (a.add (i * N + j)) = some (s i j)
theorem rd_only {S : List Nat} {h h' : Heap} {a : Addr} {v : Value} (H : rd h a = some v) (O : Only S h h') (hS : ∀ b ∈ S, h.size ≤ b) : rd h' a = some v := by
  rw [← H]
  have hb : a.block < h.size := by
    apply Classical.byContradiction
    intro hn
    have : h[a.block]? = none := Array.getElem?_eq_none (by omega)
    simp [rd, this] at H
  unfold rd
  rw [O.same _ hb fun hm => absurd (hS _ hm) (by omega)]
theorem Recs.only {S : List Nat} {h h' : Heap} {p : Option Addr} {l N : Nat} {s : Nat → Nat → Value} (H : Recs h p l N s) (O : Only S h h') (hS : ∀ b ∈ S, h.size ≤ b) : Recs h' p l N s := by
  intro i j hi hj
  obtain ⟨a, e, hr⟩ := H i j hi hj
  exact ⟨a, e, rd_only hr O hS⟩
/-- a choice along a row -/
theorem pick {α : Type} [Inhabited α] {l : Nat} {Q : Nat → α → Prop} (H : ∀ i, i < l → ∃ n, Q i n) : ∃ f : Nat → α, ∀ i, i < l → Q i (f i) :=
  ⟨fun i => if h : i < l then (H i h).choose else default, fun i hi => by simp only [dif_pos hi]; exact (H i hi).choose_spec⟩
theorem Only.nil {h h' h'' : Heap} {S : List Nat} (A : Only [] h h') (B : Only S h' h'') (hS : ∀ b ∈ S, h.size ≤ b) : Only [] h h'' :=
  A.trans B fun b hb hl => absurd (hS b hb) (by omega)
end Go.Proofs.YtnbnlhpleomaoaaGreat.Ev
/- SLICES OF A CALL's OWN: how they grow, one element at a time. Conditions: the slice stands (Own). -/
namespace Go.Proofs.YtnbnlhpleomaoaaGreat.Ev
open Go
theorem stL_own {b o : Nat} {K : Heap → Prop} : ∀ (new : List Value) (i : Nat) (c : List Value) (h : Heap), At h b c → o + i + new.length ≤ c.length → (∀ v ∈ new, v.oneCell' = true) →
    (∀ h', At h' b (c.take (o + i) ++ new ++ c.drop (o + i + new.length)) → Only [b] h h' → h'.size = h.size → K h') → stL ⟨b, o, none⟩ i new h K := by
  intro new
  induction new with
  | nil =>
    intro i c h A hi hv hK
    unfold stL
    exact hK h (by simpa using A) (Only.refl _ _) rfl
  | cons v vs ih =>
    intro i c h A hi hv hK
    simp only [List.length_cons] at hi
    unfold stL
    rw [add_mk]
    refine stK_at A (by omega) (hv v (by simp)) fun h1 A1 O1 z1 => ih (i + 1) _ h1 A1 (by simp; omega) (fun x hx => hv x (by simp [hx])) fun h2 A2 O2 z2 => hK h2 ?_ (O1.trans O2 (by simp)) (z2.trans z1)
    have e : (c.set (o + i) v).take (o + (i + 1)) = c.take (o + i) ++ [v] := by
      rw [show o + (i + 1) = (o + i) + 1 by omega, List.take_set, List.take_succ_eq_append_getElem (by omega), List.set_append_right _ _ (by simp; omega)]
      simp [List.length_take, Nat.min_eq_left (by omega : o + i ≤ c.length)]
    have e2 : (c.set (o + i) v).drop (o + (i + 1) + vs.length) = c.drop (o + i + (vs.length + 1)) := by
      rw [List.drop_set_of_lt (by omega)]
      congr 1
      omega
    rw [e, e2] at A2
    simpa using A2

/-- a slice whose cells are cs, in a block of its own behind lo, or none yet -/
def Own (h : Heap) (lo N : Nat) (p : Option Addr) (l c : Nat) (cs : List Value) : Prop :=
  cs.length = l * N ∧ ((p = none ∧ l = 0 ∧ c = 0) ∨ ∃ (b : Nat) (sp : List Value), p = some ⟨b, 0, none⟩ ∧ lo ≤ b ∧ l ≤ c ∧ sp.length = (c - l) * N ∧ At h b (cs ++ sp))
def OwnB : Option Addr → List Nat
  | some a => [a.block]
  | none => []
theorem Own.nil (h : Heap) (lo N : Nat) : Own h lo N none 0 0 [] := ⟨by simp, Or.inl ⟨rfl, rfl, rfl⟩⟩
theorem Own.only {S : List Nat} {h h' : Heap} {lo N : Nat} {p : Option Addr} {l c : Nat} {cs : List Value} (H : Own h lo N p l c cs) (O : Only S h h') (hS : ∀ b, p = some ⟨b, 0, none⟩ → b ∉ S) : Own h' lo N p l c cs := by
  obtain ⟨e, H⟩ := H
  rcases H with H | ⟨b, sp, h1, h2, h3, h4, h5⟩
  · exact ⟨e, Or.inl H⟩
  · exact ⟨e, Or.inr ⟨b, sp, h1, h2, h3, h4, h5.only O (hS b h1)⟩⟩
theorem Own.lt {h : Heap} {lo N : Nat} {p : Option Addr} {l c : Nat} {cs : List Value} (H : Own h lo N p l c cs) : ∀ b ∈ OwnB p, lo ≤ b ∧ b < h.size := by
  obtain ⟨-, H⟩ := H
  rcases H with ⟨e, -⟩ | ⟨b, sp, h1, h2, -, -, h5⟩
  · subst e; simp [OwnB]
  · subst h1
    intro x hx
    simp [OwnB] at hx
    subst hx
    exact ⟨h2, h5.lt⟩
theorem Own.rd {h : Heap} {lo N : Nat} {p : Option Addr} {l c : Nat} {cs : List Value} (H : Own h lo N p l c cs) {j : Nat} (hj : j < cs.length) : ∃ b, p = some ⟨b, 0, none⟩ ∧ rd h ⟨b, j, none⟩ = cs[j]? := by
  obtain ⟨e, H⟩ := H
  rcases H with ⟨-, h0, -⟩ | ⟨b, sp, h1, h2, -, -, h5⟩
  · subst h0
    simp at e
    simp [e] at hj
  · exact ⟨b, h1, by rw [h5.rd, List.getElem?_append_left hj]⟩
theorem isRow_at {h : Heap} {b o : Nat} {c new : List Value} (A : At h b c) (hn : ∀ j v, new[j]? = some v → c[o + j]? = some v) : isRow h ⟨b, o, none⟩ new := by
  intro j v hj
  rw [add_mk, A.rd]
  exact hn j v hj
theorem size_zeroCells (z : Array Value) (n : Nat) : (Builtin.zeroCells z n).toList.length = n * z.size := by
  simp [Builtin.zeroCells]
/-- one element more -/
theorem own_app {h : Heap} {lo N by_ : Nat} {z : Array Value} {p : Option Addr} {l c bx : Nat} {cs new : List Value} {e : TypeId} {K : Option Addr → Nat → Nat → Heap → Prop}
    (H : Own h lo N p l c cs) (A : At h bx new) (hnew : new.length = N) (hz : z.size = N) (hcap : (l + 1) * by_ ≤ 140737488355328) (hv : ∀ v ∈ new, v.oneCell' = true) (hlo : lo ≤ h.size)
    (hK : ∀ p' c' h', Own h' lo N p' (l + 1) c' (cs ++ new) → Only (OwnB p) h h' → (∀ b ∈ OwnB p', b ∈ OwnB p ∨ h.size ≤ b) → K p' (l + 1) c' h') :
    appK h e N by_ z p l c (some ⟨bx, 0, none⟩) 1 K := by
  obtain ⟨hlen, H⟩ := H
  refine ⟨new, by omega, isRow_at A (by simp), fun hle => ?_, fun hlt => ⟨cs, hlen, ?_, hcap, fun cap hc => ?_⟩⟩
  · rcases H with ⟨-, h0, h1⟩ | ⟨b, sp, rfl, h2, h3, h4, h5⟩
    · omega
    · show stL ((⟨b, 0, none⟩ : Addr).add (l * N)) 0 new h _
      rw [add_mk, Nat.zero_add]
      have hsp : N ≤ sp.length := by
        rw [h4]
        have : 1 * N ≤ (c - l) * N := Nat.mul_le_mul_right _ (by omega)
        omega
      refine stL_own new 0 _ h h5 (by simp; omega) hv fun h' A' O' z' => hK _ _ h' ⟨by simp [hlen, hnew, Nat.add_mul], Or.inr ⟨b, sp.drop N, rfl, h2, hle, ?_, ?_⟩⟩ O' fun x hx => Or.inl hx
      · rw [List.length_drop, h4, show c - l = (c - (l + 1)) + 1 by omega, Nat.add_mul]
        omega
      · rw [Nat.add_zero, ← hlen, List.take_left, hnew, List.drop_append, List.drop_eq_nil_of_le (by omega : cs.length ≤ cs.length + N)] at A'
        simpa using A'
  · rcases H with ⟨e, h0, -⟩ | ⟨b, sp, rfl, -, -, -, h5⟩
    · subst e
      exact h0
    · exact isRow_at h5 fun j v hj => by
        rw [Nat.zero_add, List.getElem?_append_left (List.getElem?_eq_some_iff.1 hj).1]
        exact hj
  · refine hK _ _ _ ⟨by simp [hlen, hnew, Nat.add_mul], Or.inr ⟨h.size, (Builtin.zeroCells z (cap - (l + 1))).toList, rfl, hlo, hc, by rw [size_zeroCells, hz], ?_⟩⟩ ((Only.push_cells h _ e).mono (by simp)) fun x hx => Or.inr ?_
    · have := At.push h (cs.toArray ++ new.toArray ++ Builtin.zeroCells z (cap - (l + 1))) e
      simpa using this
    · simp [OwnB] at hx
      omega
theorem Own.set {h : Heap} {lo N : Nat} {l c b j : Nat} {cs : List Value} {v : Value} {K : Heap → Prop} (H : Own h lo N (some ⟨b, 0, none⟩) l c cs) (hj : j < cs.length) (hv : v.oneCell' = true)
    (hK : ∀ h', Own h' lo N (some ⟨b, 0, none⟩) l c (cs.set j v) → Only [b] h h' → K h') : stK h ⟨b, j, none⟩ v K := by
  obtain ⟨e, H⟩ := H
  rcases H with ⟨h1, -⟩ | ⟨b', sp, h1, h2, h3, h4, h5⟩
  · cases h1
  · injection h1 with h1
    injection h1 with h1
    subst h1
    refine stK_at h5 (by simp; omega) hv fun h' A O _ => hK h' ⟨by simp [e], Or.inr ⟨b, sp, rfl, h2, h3, h4, ?_⟩⟩ O
    rw [List.set_append_left _ _ hj] at A
    exact A
def rowV (L : Nat) (g : Nat → Value) : List Value := (List.range L).map g
theorem rowV_len (L : Nat) (g : Nat → Value) : (rowV L g).length = L := by simp [rowV]
theorem rowV_get {L k : Nat} {g : Nat → Value} (hk : k < L) : (rowV L g)[k]? = some (g k) := by simp [rowV, hk]
theorem rowV_set (L k : Nat) (g : Nat → Value) (v : Value) : (rowV L g).set k v = rowV L fun j => if j = k then v else g j := by
  apply List.ext_getElem?
  intro i
  by_cases hi : i < L
  · rw [rowV_get hi, List.getElem?_set]
    by_cases h : k = i
    · subst h
      rw [if_pos rfl, if_pos (by rw [rowV_len]; exact hi), if_pos rfl]
    · rw [if_neg h, rowV_get hi, if_neg (Ne.symm h)]
  · rw [List.getElem?_eq_none (by simp [rowV_len]; omega), List.getElem?_eq_none (by simp [rowV_len]; omega)]
theorem rowV_ext {L : Nat} {g g' : Nat → Value} (h : ∀ k, k < L → g k = g' k) : rowV L g = rowV L g' := List.map_congr_left fun k hk => h k (List.mem_range.1 hk)

end Go.Proofs.YtnbnlhpleomaoaaGreat.Ev
/- PRINTED BY PROGRAM: what each of these functions does, computed over heaps by the evaluator, and that its calls do so. Conditions: none. -/
namespace Go.Proofs.YtnbnlhpleomaoaaGreat.Ev
open Go
-- spinney/spinneyref3.set
namespace F51
def T : Hint := ⟨[], [(1, [[(0, []), (1, []), (2, []), (3, []), (4, []), (5, []), (6, []), (7, []), (8, []), (9, []), (10, []), (11, []), (12, []), (13, []), (14, []), (15, [])]])]⟩
noncomputable def body : Code := (Tryz.f51.body).getD .skip
def J0 (x0 : Addr) (x1 : Int) (x2 : Bool) (h : Heap) (K : KK) : Prop :=
  bcase x2 (((64 : Int) ≠ 0 ∧ ((64 : Int) ≠ 0 ∧ (0 ≤ (IntKind.wrap .u8 (Int.tdiv x1 (64 : Int))) ∧ (IntKind.wrap .u8 (Int.tdiv x1 (64 : Int))) < (Nat.cast 4 : Int) ∧ ldI .u64 (rd h (Addr.add x0 (Int.toNat (IntKind.wrap .u8 (Int.tdiv x1 (64 : Int))) * 1))) (fun n1 => ((64 : Int) ≠ 0 ∧ (0 ≤ (Int.tmod x1 (64 : Int)) ∧ (0 ≤ (IntKind.wrap .u8 (Int.tdiv x1 (64 : Int))) ∧ (IntKind.wrap .u8 (Int.tdiv x1 (64 : Int))) < (Nat.cast 4 : Int) ∧ stK h (Addr.add (Addr.add x0 (Int.toNat (IntKind.wrap .u8 (Int.tdiv x1 (64 : Int))) * 1)) 0) (.int .u64 (bitsI .or .u64 n1 (IntKind.wrap .u64 ((1 : Int) * 2 ^ (min (Int.toNat (Int.tmod x1 (64 : Int))) (IntKind.bits .u64)))))) (fun h2 => K (.tuple #[]) h2))))))))) (K (.tuple #[]) h)
theorem E0 (S : Stop) (x0 : Addr) (x1 : Int) (x2 : Bool) (h : Heap) (K : KK) : (E Tryz.prog X T S body (fin Tryz.prog Tryz.f51.results.toList K) (args0 0 [(.pointer (some x0)), (.int .u8 x1), (.bool x2)]) h) = J0 x0 x1 x2 h K := by kernel_rfl
def w (x0 : Addr) (x1 : Int) (x2 : Bool) (h : Heap) (K : KK) : Prop :=
  J0 x0 x1 x2 h K
theorem e0 (K : KK) (x0 : Addr) (x1 : Int) (x2 : Bool) (h : Heap) : (E Tryz.prog X T S0 body (fin Tryz.prog Tryz.f51.results.toList K) (args0 0 [(.pointer (some x0)), (.int .u8 x1), (.bool x2)]) h) = w x0 x1 x2 h K := (E0 S0 x0 x1 x2 h K).trans (rfl)
theorem hb : Tryz.f51.body = some body := by kernel_rfl
theorem ok : okCode T Tryz.f51.ntmps body = true := by kernel_rfl
theorem spec (x0 : Addr) (x1 : Int) (x2 : Bool) (h : Heap) (K : KK) (H : w x0 x1 x2 h K) : CallsH Tryz.prog 51 [(.pointer (some x0)), (.int .u8 x1), (.bool x2)] h K :=
  calls_of_E (T := T) Xok mix Tryz.func51 hb ok rfl (by rw [e0]; exact H)
end F51
-- spinney/spinneyref3.Const
namespace F55
def T : Hint := ⟨[(3, [0, 2, 3, 4])], []⟩
noncomputable def body : Code := (Tryz.f55.body).getD .skip
noncomputable def en (S : Stop) (p : List Nat) (κ : XK) : Fr → Heap → Prop := E Tryz.prog X T S (sub body p) κ
noncomputable def ln (S : Stop) (p : List Nat) (κ : XK) (n : Nat) : Fr → Heap → Prop := loopN S (E Tryz.prog X T S (sub body p)) (cutQ T (sub body p)) κ n
def fn (K : KK) : XK := fin Tryz.prog Tryz.f55.results.toList K
noncomputable def c0 (S : Stop) (K : KK) : XK := seqN S (cutQ T (sub body [1, 1, 1])) (en S [1, 1, 1] (fn K)) (fn K)
noncomputable def c1 (S : Stop) (K : KK) : XK := blockN 0 (c0 S K)
noncomputable def c2 (S : Stop) (n3 : Nat) (K : KK) : XK := backN S (cutQ T (sub body [1, 1, 0, 1, 0, 0])) (ln S [1, 1, 0, 1, 0, 0] (c1 S K) n3) (c1 S K)
def f3 (x0 : Bool) (x2 x3 : Addr) (x4 : Int) : Fr := [(0, (.bool x0)), (2, (.pointer (some x2))), (3, (.pointer (some x3))), (4, (.int .i64 x4))]
def J0 (k3 : Bool → Addr → Addr → Int → Heap → Prop) (x0 : Bool) (h : Heap) (_K : KK) : Prop :=
  newK h (.cells #[(.int .u64 (0 : Int)), (.int .u64 (0 : Int)), (.int .u64 (0 : Int)), (.int .u64 (0 : Int))] 24) (fun b1 h2 => newK h2 (.cells #[(.int .u64 (0 : Int)), (.int .u64 (0 : Int)), (.int .u64 (0 : Int)), (.int .u64 (0 : Int))] 24) (fun b3 h4 => stK h4 (Addr.add (Addr.mk b3 0 none) 0) (.int .u64 (0 : Int)) (fun h5 => stK h5 (Addr.add (Addr.mk b3 0 none) 1) (.int .u64 (0 : Int)) (fun h6 => stK h6 (Addr.add (Addr.mk b3 0 none) 2) (.int .u64 (0 : Int)) (fun h7 => stK h7 (Addr.add (Addr.mk b3 0 none) 3) (.int .u64 (0 : Int)) (fun h8 => k3 x0 (Addr.mk b1 0 none) (Addr.mk b3 0 none) (0 : Int) h8))))))
theorem E0 (S : Stop) (x0 : Bool) (h : Heap) (K : KK) : (E Tryz.prog X T S body (fin Tryz.prog Tryz.f55.results.toList K) (args0 0 [(.bool x0)]) h) = J0 (fun x0 x2 x3 x4 h => S (en S [1, 1, 0, 1] (c0 S K)) (f3 x0 x2 x3 x4) h) x0 h K := by kernel_rfl
def Jk3 (lp3 : Bool → Addr → Addr → Int → Heap → Prop) (x0 : Bool) (x2 x3 : Addr) (x4 : Int) (h : Heap) (_K : KK) : Prop :=
  lp3 x0 x2 x3 x4 h
theorem Ek3 (S : Stop) (x0 : Bool) (x2 x3 : Addr) (x4 : Int) (h : Heap) (K : KK) : (en S [1, 1, 0, 1] (c0 S K) (f3 x0 x2 x3 x4) h) = Jk3 (fun x0 x2 x3 x4 h => ∃ n, S (ln S [1, 1, 0, 1, 0, 0] (c1 S K) n) (f3 x0 x2 x3 x4) h) x0 x2 x3 x4 h K := by kernel_rfl
def JL3 (bk3 : Bool → Addr → Addr → Int → Heap → Prop) (x0 : Bool) (x2 x3 : Addr) (x4 : Int) (h : Heap) (K : KK) : Prop :=
  bcase (decide (x4 < (256 : Int))) (CallsH Tryz.prog 51 [(.pointer (some x3)), (.int .u8 (IntKind.wrap .u8 x4)), (.bool x0)] h (fun v1 h2 => (v1 = (.tuple #[]) ∧ bk3 x0 x2 x3 (IntKind.wrap .i64 (x4 + (1 : Int))) h2))) (ldI .u64 (rd h (Addr.add x3 0)) (fun n3 => ldI .u64 (rd h (Addr.add x3 1)) (fun n4 => ldI .u64 (rd h (Addr.add x3 2)) (fun n5 => ldI .u64 (rd h (Addr.add x3 3)) (fun n6 => stK h (Addr.add x2 0) (.int .u64 n3) (fun h7 => stK h7 (Addr.add x2 1) (.int .u64 n4) (fun h8 => stK h8 (Addr.add x2 2) (.int .u64 n5) (fun h9 => stK h9 (Addr.add x2 3) (.int .u64 n6) (fun h10 => ldI .u64 (rd h10 (Addr.add x2 0)) (fun n11 => ldI .u64 (rd h10 (Addr.add x2 1)) (fun n12 => ldI .u64 (rd h10 (Addr.add x2 2)) (fun n13 => ldI .u64 (rd h10 (Addr.add x2 3)) (fun n14 => K (.agg #[(.int .u64 n11), (.int .u64 n12), (.int .u64 n13), (.int .u64 n14)]) h10)))))))))))))
theorem EL3 (S : Stop) (n3 : Nat) (x0 : Bool) (x2 x3 : Addr) (x4 : Int) (h : Heap) (K : KK) : (en S [1, 1, 0, 1, 0, 0] (c2 S n3 K) (f3 x0 x2 x3 x4) h) = JL3 (fun x0 x2 x3 x4 h => S (ln S [1, 1, 0, 1, 0, 0] (c1 S K) n3) (f3 x0 x2 x3 x4) h) x0 x2 x3 x4 h K := by kernel_rfl
def wL3 : Nat → Bool → Addr → Addr → Int → Heap → KK → Prop
  | 0, _, _, _, _, _, _ => False
  | n + 1, x0, x2, x3, x4, h, K => JL3 (fun x0 x2 x3 x4 h => wL3 n x0 x2 x3 x4 h K) x0 x2 x3 x4 h K
theorem eL3 (K : KK) : ∀ (n : Nat) (x0 : Bool) (x2 x3 : Addr) (x4 : Int) (h : Heap), (ln S0 [1, 1, 0, 1, 0, 0] (c1 S0 K) n (f3 x0 x2 x3 x4) h) = wL3 n x0 x2 x3 x4 h K
  | 0, _, _, _, _, _ => rfl
  | n + 1, x0, x2, x3, x4, h => (EL3 S0 n x0 x2 x3 x4 h K).trans (cg1 (fun q0 => JL3 q0 x0 x2 x3 x4 h K) (by funext x0 x2 x3 x4 h; exact (fun x0 x2 x3 x4 h => eL3 K n x0 x2 x3 x4 h) x0 x2 x3 x4 h))
def wk3 (x0 : Bool) (x2 x3 : Addr) (x4 : Int) (h : Heap) (K : KK) : Prop :=
  Jk3 (fun x0 x2 x3 x4 h => ∃ m, wL3 m x0 x2 x3 x4 h K) x0 x2 x3 x4 h K
theorem ek3 (K : KK) (x0 : Bool) (x2 x3 : Addr) (x4 : Int) (h : Heap) : (en S0 [1, 1, 0, 1] (c0 S0 K) (f3 x0 x2 x3 x4) h) = wk3 x0 x2 x3 x4 h K := (Ek3 S0 x0 x2 x3 x4 h K).trans (cg1 (fun q0 => Jk3 q0 x0 x2 x3 x4 h K) (by funext x0 x2 x3 x4 h; exact ex_congr fun m => eL3 K m x0 x2 x3 x4 h))
def w (x0 : Bool) (h : Heap) (K : KK) : Prop :=
  J0 (fun x0 x2 x3 x4 h => wk3 x0 x2 x3 x4 h K) x0 h K
theorem e0 (K : KK) (x0 : Bool) (h : Heap) : (E Tryz.prog X T S0 body (fin Tryz.prog Tryz.f55.results.toList K) (args0 0 [(.bool x0)]) h) = w x0 h K := (E0 S0 x0 h K).trans (cg1 (fun q0 => J0 q0 x0 h K) (by funext x0 x2 x3 x4 h; exact ek3 K x0 x2 x3 x4 h))
theorem hb : Tryz.f55.body = some body := by kernel_rfl
theorem ok : okCode T Tryz.f55.ntmps body = true := by kernel_rfl
theorem spec (x0 : Bool) (h : Heap) (K : KK) (H : w x0 h K) : CallsH Tryz.prog 55 [(.bool x0)] h K :=
  calls_of_E (T := T) Xok mix Tryz.func55 hb ok rfl (by rw [e0]; exact H)
end F55
-- spinney/spinneyref3.Var
namespace F28
def T : Hint := ⟨[(3, [0, 2, 3, 4])], []⟩
noncomputable def body : Code := (Tryz.f28.body).getD .skip
noncomputable def en (S : Stop) (p : List Nat) (κ : XK) : Fr → Heap → Prop := E Tryz.prog X T S (sub body p) κ
noncomputable def ln (S : Stop) (p : List Nat) (κ : XK) (n : Nat) : Fr → Heap → Prop := loopN S (E Tryz.prog X T S (sub body p)) (cutQ T (sub body p)) κ n
def fn (K : KK) : XK := fin Tryz.prog Tryz.f28.results.toList K
noncomputable def c0 (S : Stop) (K : KK) : XK := seqN S (cutQ T (sub body [1, 1, 1])) (en S [1, 1, 1] (fn K)) (fn K)
noncomputable def c1 (S : Stop) (K : KK) : XK := blockN 0 (c0 S K)
noncomputable def c2 (S : Stop) (n3 : Nat) (K : KK) : XK := backN S (cutQ T (sub body [1, 1, 0, 1, 0, 0])) (ln S [1, 1, 0, 1, 0, 0] (c1 S K) n3) (c1 S K)
def f3 (x0 : Int) (x2 x3 : Addr) (x4 : Int) : Fr := [(0, (.int .i64 x0)), (2, (.pointer (some x2))), (3, (.pointer (some x3))), (4, (.int .i64 x4))]
def J0 (k3 : Int → Addr → Addr → Int → Heap → Prop) (x0 : Int) (h : Heap) (_K : KK) : Prop :=
  newK h (.cells #[(.int .u64 (0 : Int)), (.int .u64 (0 : Int)), (.int .u64 (0 : Int)), (.int .u64 (0 : Int))] 24) (fun b1 h2 => newK h2 (.cells #[(.int .u64 (0 : Int)), (.int .u64 (0 : Int)), (.int .u64 (0 : Int)), (.int .u64 (0 : Int))] 24) (fun b3 h4 => stK h4 (Addr.add (Addr.mk b3 0 none) 0) (.int .u64 (0 : Int)) (fun h5 => stK h5 (Addr.add (Addr.mk b3 0 none) 1) (.int .u64 (0 : Int)) (fun h6 => stK h6 (Addr.add (Addr.mk b3 0 none) 2) (.int .u64 (0 : Int)) (fun h7 => stK h7 (Addr.add (Addr.mk b3 0 none) 3) (.int .u64 (0 : Int)) (fun h8 => k3 x0 (Addr.mk b1 0 none) (Addr.mk b3 0 none) (0 : Int) h8))))))
theorem E0 (S : Stop) (x0 : Int) (h : Heap) (K : KK) : (E Tryz.prog X T S body (fin Tryz.prog Tryz.f28.results.toList K) (args0 0 [(.int .i64 x0)]) h) = J0 (fun x0 x2 x3 x4 h => S (en S [1, 1, 0, 1] (c0 S K)) (f3 x0 x2 x3 x4) h) x0 h K := by kernel_rfl
def Jk3 (lp3 : Int → Addr → Addr → Int → Heap → Prop) (x0 : Int) (x2 x3 : Addr) (x4 : Int) (h : Heap) (_K : KK) : Prop :=
  lp3 x0 x2 x3 x4 h
theorem Ek3 (S : Stop) (x0 : Int) (x2 x3 : Addr) (x4 : Int) (h : Heap) (K : KK) : (en S [1, 1, 0, 1] (c0 S K) (f3 x0 x2 x3 x4) h) = Jk3 (fun x0 x2 x3 x4 h => ∃ n, S (ln S [1, 1, 0, 1, 0, 0] (c1 S K) n) (f3 x0 x2 x3 x4) h) x0 x2 x3 x4 h K := by kernel_rfl
def JL3 (bk3 : Int → Addr → Addr → Int → Heap → Prop) (x0 : Int) (x2 x3 : Addr) (x4 : Int) (h : Heap) (K : KK) : Prop :=
  bcase (decide (x4 < (256 : Int))) (bcase (decide (x0 ≥ (0 : Int))) (bcase (decide (x0 < (8 : Int))) ((0 ≤ (IntKind.wrap .u64 x0) ∧ CallsH Tryz.prog 51 [(.pointer (some x3)), (.int .u8 (IntKind.wrap .u8 x4)), (.bool ((bitsI .and .i64 (Int.fdiv x4 (2 ^ (min (Int.toNat (IntKind.wrap .u64 x0)) (IntKind.bits .i64)))) (1 : Int)) == (1 : Int)))] h (fun v1 h2 => (v1 = (.tuple #[]) ∧ bk3 x0 x2 x3 (IntKind.wrap .i64 (x4 + (1 : Int))) h2)))) (ldI .u64 (rd h (Addr.add x3 0)) (fun n3 => ldI .u64 (rd h (Addr.add x3 1)) (fun n4 => ldI .u64 (rd h (Addr.add x3 2)) (fun n5 => ldI .u64 (rd h (Addr.add x3 3)) (fun n6 => stK h (Addr.add x2 0) (.int .u64 n3) (fun h7 => stK h7 (Addr.add x2 1) (.int .u64 n4) (fun h8 => stK h8 (Addr.add x2 2) (.int .u64 n5) (fun h9 => stK h9 (Addr.add x2 3) (.int .u64 n6) (fun h10 => ldI .u64 (rd h10 (Addr.add x2 0)) (fun n11 => ldI .u64 (rd h10 (Addr.add x2 1)) (fun n12 => ldI .u64 (rd h10 (Addr.add x2 2)) (fun n13 => ldI .u64 (rd h10 (Addr.add x2 3)) (fun n14 => K (.agg #[(.int .u64 n11), (.int .u64 n12), (.int .u64 n13), (.int .u64 n14)]) h10)))))))))))))) (ldI .u64 (rd h (Addr.add x3 0)) (fun n15 => ldI .u64 (rd h (Addr.add x3 1)) (fun n16 => ldI .u64 (rd h (Addr.add x3 2)) (fun n17 => ldI .u64 (rd h (Addr.add x3 3)) (fun n18 => stK h (Addr.add x2 0) (.int .u64 n15) (fun h19 => stK h19 (Addr.add x2 1) (.int .u64 n16) (fun h20 => stK h20 (Addr.add x2 2) (.int .u64 n17) (fun h21 => stK h21 (Addr.add x2 3) (.int .u64 n18) (fun h22 => ldI .u64 (rd h22 (Addr.add x2 0)) (fun n23 => ldI .u64 (rd h22 (Addr.add x2 1)) (fun n24 => ldI .u64 (rd h22 (Addr.add x2 2)) (fun n25 => ldI .u64 (rd h22 (Addr.add x2 3)) (fun n26 => K (.agg #[(.int .u64 n23), (.int .u64 n24), (.int .u64 n25), (.int .u64 n26)]) h22)))))))))))))) (ldI .u64 (rd h (Addr.add x3 0)) (fun n27 => ldI .u64 (rd h (Addr.add x3 1)) (fun n28 => ldI .u64 (rd h (Addr.add x3 2)) (fun n29 => ldI .u64 (rd h (Addr.add x3 3)) (fun n30 => stK h (Addr.add x2 0) (.int .u64 n27) (fun h31 => stK h31 (Addr.add x2 1) (.int .u64 n28) (fun h32 => stK h32 (Addr.add x2 2) (.int .u64 n29) (fun h33 => stK h33 (Addr.add x2 3) (.int .u64 n30) (fun h34 => ldI .u64 (rd h34 (Addr.add x2 0)) (fun n35 => ldI .u64 (rd h34 (Addr.add x2 1)) (fun n36 => ldI .u64 (rd h34 (Addr.add x2 2)) (fun n37 => ldI .u64 (rd h34 (Addr.add x2 3)) (fun n38 => K (.agg #[(.int .u64 n35), (.int .u64 n36), (.int .u64 n37), (.int .u64 n38)]) h34)))))))))))))
theorem EL3 (S : Stop) (n3 : Nat) (x0 : Int) (x2 x3 : Addr) (x4 : Int) (h : Heap) (K : KK) : (en S [1, 1, 0, 1, 0, 0] (c2 S n3 K) (f3 x0 x2 x3 x4) h) = JL3 (fun x0 x2 x3 x4 h => S (ln S [1, 1, 0, 1, 0, 0] (c1 S K) n3) (f3 x0 x2 x3 x4) h) x0 x2 x3 x4 h K := by kernel_rfl
def wL3 : Nat → Int → Addr → Addr → Int → Heap → KK → Prop
  | 0, _, _, _, _, _, _ => False
  | n + 1, x0, x2, x3, x4, h, K => JL3 (fun x0 x2 x3 x4 h => wL3 n x0 x2 x3 x4 h K) x0 x2 x3 x4 h K
theorem eL3 (K : KK) : ∀ (n : Nat) (x0 : Int) (x2 x3 : Addr) (x4 : Int) (h : Heap), (ln S0 [1, 1, 0, 1, 0, 0] (c1 S0 K) n (f3 x0 x2 x3 x4) h) = wL3 n x0 x2 x3 x4 h K
  | 0, _, _, _, _, _ => rfl
  | n + 1, x0, x2, x3, x4, h => (EL3 S0 n x0 x2 x3 x4 h K).trans (cg1 (fun q0 => JL3 q0 x0 x2 x3 x4 h K) (by funext x0 x2 x3 x4 h; exact (fun x0 x2 x3 x4 h => eL3 K n x0 x2 x3 x4 h) x0 x2 x3 x4 h))
def wk3 (x0 : Int) (x2 x3 : Addr) (x4 : Int) (h : Heap) (K : KK) : Prop :=
  Jk3 (fun x0 x2 x3 x4 h => ∃ m, wL3 m x0 x2 x3 x4 h K) x0 x2 x3 x4 h K
theorem ek3 (K : KK) (x0 : Int) (x2 x3 : Addr) (x4 : Int) (h : Heap) : (en S0 [1, 1, 0, 1] (c0 S0 K) (f3 x0 x2 x3 x4) h) = wk3 x0 x2 x3 x4 h K := (Ek3 S0 x0 x2 x3 x4 h K).trans (cg1 (fun q0 => Jk3 q0 x0 x2 x3 x4 h K) (by funext x0 x2 x3 x4 h; exact ex_congr fun m => eL3 K m x0 x2 x3 x4 h))
def w (x0 : Int) (h : Heap) (K : KK) : Prop :=
  J0 (fun x0 x2 x3 x4 h => wk3 x0 x2 x3 x4 h K) x0 h K
theorem e0 (K : KK) (x0 : Int) (h : Heap) : (E Tryz.prog X T S0 body (fin Tryz.prog Tryz.f28.results.toList K) (args0 0 [(.int .i64 x0)]) h) = w x0 h K := (E0 S0 x0 h K).trans (cg1 (fun q0 => J0 q0 x0 h K) (by funext x0 x2 x3 x4 h; exact ek3 K x0 x2 x3 x4 h))
theorem hb : Tryz.f28.body = some body := by kernel_rfl
theorem ok : okCode T Tryz.f28.ntmps body = true := by kernel_rfl
theorem spec (x0 : Int) (h : Heap) (K : KK) (H : w x0 h K) : CallsH Tryz.prog 28 [(.int .i64 x0)] h K :=
  calls_of_E (T := T) Xok mix Tryz.func28 hb ok rfl (by rw [e0]; exact H)
end F28
-- spinney/spinneyref3.Or
namespace F27
def T : Hint := ⟨[(2, [2, 3, 4, 5])], [(4, [[(0, []), (1, []), (2, []), (3, []), (4, []), (5, []), (6, []), (7, []), (8, []), (9, [])]])]⟩
noncomputable def body : Code := (Tryz.f27.body).getD .skip
noncomputable def en (S : Stop) (p : List Nat) (κ : XK) : Fr → Heap → Prop := E Tryz.prog X T S (sub body p) κ
noncomputable def ln (S : Stop) (p : List Nat) (κ : XK) (n : Nat) : Fr → Heap → Prop := loopN S (E Tryz.prog X T S (sub body p)) (cutQ T (sub body p)) κ n
def fn (K : KK) : XK := fin Tryz.prog Tryz.f27.results.toList K
noncomputable def c0 (S : Stop) (K : KK) : XK := seqN S (cutQ T (sub body [1, 1])) (en S [1, 1] (fn K)) (fn K)
noncomputable def c1 (S : Stop) (K : KK) : XK := blockN 0 (c0 S K)
noncomputable def c2 (S : Stop) (n2 : Nat) (K : KK) : XK := backN S (cutQ T (sub body [1, 0, 1, 0, 0])) (ln S [1, 0, 1, 0, 0] (c1 S K) n2) (c1 S K)
def f2 (x2 x3 x4 : Addr) (x5 : Int) : Fr := [(2, (.pointer (some x2))), (3, (.pointer (some x3))), (4, (.pointer (some x4))), (5, (.int .i64 x5))]
def J0 (k2 : Addr → Addr → Addr → Int → Heap → Prop) (x0_0 x0_1 x0_2 x0_3 x1_0 x1_1 x1_2 x1_3 : Int) (h : Heap) (_K : KK) : Prop :=
  newK h (.cells #[(.int .u64 x0_0), (.int .u64 x0_1), (.int .u64 x0_2), (.int .u64 x0_3)] 24) (fun b1 h2 => newK h2 (.cells #[(.int .u64 x1_0), (.int .u64 x1_1), (.int .u64 x1_2), (.int .u64 x1_3)] 24) (fun b3 h4 => newK h4 (.cells #[(.int .u64 (0 : Int)), (.int .u64 (0 : Int)), (.int .u64 (0 : Int)), (.int .u64 (0 : Int))] 24) (fun b5 h6 => k2 (Addr.mk b1 0 none) (Addr.mk b3 0 none) (Addr.mk b5 0 none) (0 : Int) h6)))
theorem E0 (S : Stop) (x0_0 x0_1 x0_2 x0_3 x1_0 x1_1 x1_2 x1_3 : Int) (h : Heap) (K : KK) : (E Tryz.prog X T S body (fin Tryz.prog Tryz.f27.results.toList K) (args0 0 [(.agg #[(.int .u64 x0_0), (.int .u64 x0_1), (.int .u64 x0_2), (.int .u64 x0_3)]), (.agg #[(.int .u64 x1_0), (.int .u64 x1_1), (.int .u64 x1_2), (.int .u64 x1_3)])]) h) = J0 (fun x2 x3 x4 x5 h => S (en S [1, 0, 1] (c0 S K)) (f2 x2 x3 x4 x5) h) x0_0 x0_1 x0_2 x0_3 x1_0 x1_1 x1_2 x1_3 h K := by kernel_rfl
def Jk2 (lp2 : Addr → Addr → Addr → Int → Heap → Prop) (x2 x3 x4 : Addr) (x5 : Int) (h : Heap) (_K : KK) : Prop :=
  lp2 x2 x3 x4 x5 h
theorem Ek2 (S : Stop) (x2 x3 x4 : Addr) (x5 : Int) (h : Heap) (K : KK) : (en S [1, 0, 1] (c0 S K) (f2 x2 x3 x4 x5) h) = Jk2 (fun x2 x3 x4 x5 h => ∃ n, S (ln S [1, 0, 1, 0, 0] (c1 S K) n) (f2 x2 x3 x4 x5) h) x2 x3 x4 x5 h K := by kernel_rfl
def JL2 (bk2 : Addr → Addr → Addr → Int → Heap → Prop) (x2 x3 x4 : Addr) (x5 : Int) (h : Heap) (K : KK) : Prop :=
  bcase (decide (x5 < (4 : Int))) ((0 ≤ x5 ∧ x5 < (Nat.cast 4 : Int) ∧ ldI .u64 (rd h (Addr.add x2 (Int.toNat x5 * 1))) (fun n1 => (0 ≤ x5 ∧ x5 < (Nat.cast 4 : Int) ∧ ldI .u64 (rd h (Addr.add x3 (Int.toNat x5 * 1))) (fun n2 => (0 ≤ x5 ∧ x5 < (Nat.cast 4 : Int) ∧ stK h (Addr.add (Addr.add x2 (Int.toNat x5 * 1)) 0) (.int .u64 (bitsI .or .u64 n1 n2)) (fun h3 => bk2 x2 x3 x4 (IntKind.wrap .i64 (x5 + (1 : Int))) h3))))))) (ldI .u64 (rd h (Addr.add x2 0)) (fun n4 => ldI .u64 (rd h (Addr.add x2 1)) (fun n5 => ldI .u64 (rd h (Addr.add x2 2)) (fun n6 => ldI .u64 (rd h (Addr.add x2 3)) (fun n7 => stK h (Addr.add x4 0) (.int .u64 n4) (fun h8 => stK h8 (Addr.add x4 1) (.int .u64 n5) (fun h9 => stK h9 (Addr.add x4 2) (.int .u64 n6) (fun h10 => stK h10 (Addr.add x4 3) (.int .u64 n7) (fun h11 => ldI .u64 (rd h11 (Addr.add x4 0)) (fun n12 => ldI .u64 (rd h11 (Addr.add x4 1)) (fun n13 => ldI .u64 (rd h11 (Addr.add x4 2)) (fun n14 => ldI .u64 (rd h11 (Addr.add x4 3)) (fun n15 => K (.agg #[(.int .u64 n12), (.int .u64 n13), (.int .u64 n14), (.int .u64 n15)]) h11)))))))))))))
theorem EL2 (S : Stop) (n2 : Nat) (x2 x3 x4 : Addr) (x5 : Int) (h : Heap) (K : KK) : (en S [1, 0, 1, 0, 0] (c2 S n2 K) (f2 x2 x3 x4 x5) h) = JL2 (fun x2 x3 x4 x5 h => S (ln S [1, 0, 1, 0, 0] (c1 S K) n2) (f2 x2 x3 x4 x5) h) x2 x3 x4 x5 h K := by kernel_rfl
def wL2 : Nat → Addr → Addr → Addr → Int → Heap → KK → Prop
  | 0, _, _, _, _, _, _ => False
  | n + 1, x2, x3, x4, x5, h, K => JL2 (fun x2 x3 x4 x5 h => wL2 n x2 x3 x4 x5 h K) x2 x3 x4 x5 h K
theorem eL2 (K : KK) : ∀ (n : Nat) (x2 x3 x4 : Addr) (x5 : Int) (h : Heap), (ln S0 [1, 0, 1, 0, 0] (c1 S0 K) n (f2 x2 x3 x4 x5) h) = wL2 n x2 x3 x4 x5 h K
  | 0, _, _, _, _, _ => rfl
  | n + 1, x2, x3, x4, x5, h => (EL2 S0 n x2 x3 x4 x5 h K).trans (cg1 (fun q0 => JL2 q0 x2 x3 x4 x5 h K) (by funext x2 x3 x4 x5 h; exact (fun x2 x3 x4 x5 h => eL2 K n x2 x3 x4 x5 h) x2 x3 x4 x5 h))
def wk2 (x2 x3 x4 : Addr) (x5 : Int) (h : Heap) (K : KK) : Prop :=
  Jk2 (fun x2 x3 x4 x5 h => ∃ m, wL2 m x2 x3 x4 x5 h K) x2 x3 x4 x5 h K
theorem ek2 (K : KK) (x2 x3 x4 : Addr) (x5 : Int) (h : Heap) : (en S0 [1, 0, 1] (c0 S0 K) (f2 x2 x3 x4 x5) h) = wk2 x2 x3 x4 x5 h K := (Ek2 S0 x2 x3 x4 x5 h K).trans (cg1 (fun q0 => Jk2 q0 x2 x3 x4 x5 h K) (by funext x2 x3 x4 x5 h; exact ex_congr fun m => eL2 K m x2 x3 x4 x5 h))
def w (x0_0 x0_1 x0_2 x0_3 x1_0 x1_1 x1_2 x1_3 : Int) (h : Heap) (K : KK) : Prop :=
  J0 (fun x2 x3 x4 x5 h => wk2 x2 x3 x4 x5 h K) x0_0 x0_1 x0_2 x0_3 x1_0 x1_1 x1_2 x1_3 h K
theorem e0 (K : KK) (x0_0 x0_1 x0_2 x0_3 x1_0 x1_1 x1_2 x1_3 : Int) (h : Heap) : (E Tryz.prog X T S0 body (fin Tryz.prog Tryz.f27.results.toList K) (args0 0 [(.agg #[(.int .u64 x0_0), (.int .u64 x0_1), (.int .u64 x0_2), (.int .u64 x0_3)]), (.agg #[(.int .u64 x1_0), (.int .u64 x1_1), (.int .u64 x1_2), (.int .u64 x1_3)])]) h) = w x0_0 x0_1 x0_2 x0_3 x1_0 x1_1 x1_2 x1_3 h K := (E0 S0 x0_0 x0_1 x0_2 x0_3 x1_0 x1_1 x1_2 x1_3 h K).trans (cg1 (fun q0 => J0 q0 x0_0 x0_1 x0_2 x0_3 x1_0 x1_1 x1_2 x1_3 h K) (by funext x2 x3 x4 x5 h; exact ek2 K x2 x3 x4 x5 h))
theorem hb : Tryz.f27.body = some body := by kernel_rfl
theorem ok : okCode T Tryz.f27.ntmps body = true := by kernel_rfl
theorem spec (x0_0 : Int) (x0_1 : Int) (x0_2 : Int) (x0_3 : Int) (x1_0 : Int) (x1_1 : Int) (x1_2 : Int) (x1_3 : Int) (h : Heap) (K : KK) (H : w x0_0 x0_1 x0_2 x0_3 x1_0 x1_1 x1_2 x1_3 h K) : CallsH Tryz.prog 27 [(.agg #[(.int .u64 x0_0), (.int .u64 x0_1), (.int .u64 x0_2), (.int .u64 x0_3)]), (.agg #[(.int .u64 x1_0), (.int .u64 x1_1), (.int .u64 x1_2), (.int .u64 x1_3)])] h K :=
  calls_of_E (T := T) Xok mix Tryz.func27 hb ok rfl (by rw [e0]; exact H)
end F27
-- spinney/spinneyref3.Trim
namespace F12
def T : Hint := ⟨[(2, [2, 4, 5])], []⟩
noncomputable def body : Code := (Tryz.f12.body).getD .skip
noncomputable def en (S : Stop) (p : List Nat) (κ : XK) : Fr → Heap → Prop := E Tryz.prog X T S (sub body p) κ
noncomputable def ln (S : Stop) (p : List Nat) (κ : XK) (n : Nat) : Fr → Heap → Prop := loopN S (E Tryz.prog X T S (sub body p)) (cutQ T (sub body p)) κ n
def fn (K : KK) : XK := fin Tryz.prog Tryz.f12.results.toList K
noncomputable def c0 (S : Stop) (K : KK) : XK := seqN S (cutQ T (sub body [1, 1])) (en S [1, 1] (fn K)) (fn K)
noncomputable def c1 (S : Stop) (K : KK) : XK := blockN 0 (c0 S K)
noncomputable def c2 (S : Stop) (n2 : Nat) (K : KK) : XK := backN S (cutQ T (sub body [1, 0, 1, 0, 0])) (ln S [1, 0, 1, 0, 0] (c1 S K) n2) (c1 S K)
def f2 (x2 x4 : Addr) (x5 : Int) : Fr := [(2, (.pointer (some x2))), (4, (.pointer (some x4))), (5, (.int .i64 x5))]
def J0 (k2 : Addr → Addr → Int → Heap → Prop) (x0_0 x0_1 x0_2 x0_3 x1 : Int) (h : Heap) (_K : KK) : Prop :=
  newK h (.cells #[(.int .u64 x0_0), (.int .u64 x0_1), (.int .u64 x0_2), (.int .u64 x0_3)] 24) (fun b1 h2 => newK h2 (.cells #[(.int .u64 (0 : Int)), (.int .u64 (0 : Int)), (.int .u64 (0 : Int)), (.int .u64 (0 : Int))] 24) (fun b3 h4 => k2 (Addr.mk b1 0 none) (Addr.mk b3 0 none) (if (0 : Int) > x1 then (0 : Int) else x1) h4))
theorem E0 (S : Stop) (x0_0 x0_1 x0_2 x0_3 x1 : Int) (h : Heap) (K : KK) : (E Tryz.prog X T S body (fin Tryz.prog Tryz.f12.results.toList K) (args0 0 [(.agg #[(.int .u64 x0_0), (.int .u64 x0_1), (.int .u64 x0_2), (.int .u64 x0_3)]), (.int .i64 x1)]) h) = J0 (fun x2 x4 x5 h => S (en S [1, 0, 1] (c0 S K)) (f2 x2 x4 x5) h) x0_0 x0_1 x0_2 x0_3 x1 h K := by kernel_rfl
def Jk2 (lp2 : Addr → Addr → Int → Heap → Prop) (x2 x4 : Addr) (x5 : Int) (h : Heap) (_K : KK) : Prop :=
  lp2 x2 x4 x5 h
theorem Ek2 (S : Stop) (x2 x4 : Addr) (x5 : Int) (h : Heap) (K : KK) : (en S [1, 0, 1] (c0 S K) (f2 x2 x4 x5) h) = Jk2 (fun x2 x4 x5 h => ∃ n, S (ln S [1, 0, 1, 0, 0] (c1 S K) n) (f2 x2 x4 x5) h) x2 x4 x5 h K := by kernel_rfl
def JL2 (bk2 : Addr → Addr → Int → Heap → Prop) (x2 x4 : Addr) (x5 : Int) (h : Heap) (K : KK) : Prop :=
  bcase (decide (x5 < (8 : Int))) (ldI .u64 (rd h (Addr.add x2 0)) (fun n1 => ldI .u64 (rd h (Addr.add x2 1)) (fun n2 => ldI .u64 (rd h (Addr.add x2 2)) (fun n3 => ldI .u64 (rd h (Addr.add x2 3)) (fun n4 => CallsH Tryz.prog 34 [(.agg #[(.int .u64 n1), (.int .u64 n2), (.int .u64 n3), (.int .u64 n4)]), (.int .i64 x5), (.bool false)] h (fun v5 h6 => (∃ n7 : Int, ∃ n8 : Int, ∃ n9 : Int, ∃ n10 : Int, v5 = (.agg #[(.int .u64 n7), (.int .u64 n8), (.int .u64 n9), (.int .u64 n10)]) ∧ stK h6 (Addr.add x2 0) (.int .u64 n7) (fun h11 => stK h11 (Addr.add x2 1) (.int .u64 n8) (fun h12 => stK h12 (Addr.add x2 2) (.int .u64 n9) (fun h13 => stK h13 (Addr.add x2 3) (.int .u64 n10) (fun h14 => bk2 x2 x4 (IntKind.wrap .i64 (x5 + (1 : Int))) h14))))))))))) (ldI .u64 (rd h (Addr.add x2 0)) (fun n15 => ldI .u64 (rd h (Addr.add x2 1)) (fun n16 => ldI .u64 (rd h (Addr.add x2 2)) (fun n17 => ldI .u64 (rd h (Addr.add x2 3)) (fun n18 => stK h (Addr.add x4 0) (.int .u64 n15) (fun h19 => stK h19 (Addr.add x4 1) (.int .u64 n16) (fun h20 => stK h20 (Addr.add x4 2) (.int .u64 n17) (fun h21 => stK h21 (Addr.add x4 3) (.int .u64 n18) (fun h22 => ldI .u64 (rd h22 (Addr.add x4 0)) (fun n23 => ldI .u64 (rd h22 (Addr.add x4 1)) (fun n24 => ldI .u64 (rd h22 (Addr.add x4 2)) (fun n25 => ldI .u64 (rd h22 (Addr.add x4 3)) (fun n26 => K (.agg #[(.int .u64 n23), (.int .u64 n24), (.int .u64 n25), (.int .u64 n26)]) h22)))))))))))))
theorem EL2 (S : Stop) (n2 : Nat) (x2 x4 : Addr) (x5 : Int) (h : Heap) (K : KK) : (en S [1, 0, 1, 0, 0] (c2 S n2 K) (f2 x2 x4 x5) h) = JL2 (fun x2 x4 x5 h => S (ln S [1, 0, 1, 0, 0] (c1 S K) n2) (f2 x2 x4 x5) h) x2 x4 x5 h K := by kernel_rfl
def wL2 : Nat → Addr → Addr → Int → Heap → KK → Prop
  | 0, _, _, _, _, _ => False
  | n + 1, x2, x4, x5, h, K => JL2 (fun x2 x4 x5 h => wL2 n x2 x4 x5 h K) x2 x4 x5 h K
theorem eL2 (K : KK) : ∀ (n : Nat) (x2 x4 : Addr) (x5 : Int) (h : Heap), (ln S0 [1, 0, 1, 0, 0] (c1 S0 K) n (f2 x2 x4 x5) h) = wL2 n x2 x4 x5 h K
  | 0, _, _, _, _ => rfl
  | n + 1, x2, x4, x5, h => (EL2 S0 n x2 x4 x5 h K).trans (cg1 (fun q0 => JL2 q0 x2 x4 x5 h K) (by funext x2 x4 x5 h; exact (fun x2 x4 x5 h => eL2 K n x2 x4 x5 h) x2 x4 x5 h))
def wk2 (x2 x4 : Addr) (x5 : Int) (h : Heap) (K : KK) : Prop :=
  Jk2 (fun x2 x4 x5 h => ∃ m, wL2 m x2 x4 x5 h K) x2 x4 x5 h K
theorem ek2 (K : KK) (x2 x4 : Addr) (x5 : Int) (h : Heap) : (en S0 [1, 0, 1] (c0 S0 K) (f2 x2 x4 x5) h) = wk2 x2 x4 x5 h K := (Ek2 S0 x2 x4 x5 h K).trans (cg1 (fun q0 => Jk2 q0 x2 x4 x5 h K) (by funext x2 x4 x5 h; exact ex_congr fun m => eL2 K m x2 x4 x5 h))
def w (x0_0 x0_1 x0_2 x0_3 x1 : Int) (h : Heap) (K : KK) : Prop :=
  J0 (fun x2 x4 x5 h => wk2 x2 x4 x5 h K) x0_0 x0_1 x0_2 x0_3 x1 h K
theorem e0 (K : KK) (x0_0 x0_1 x0_2 x0_3 x1 : Int) (h : Heap) : (E Tryz.prog X T S0 body (fin Tryz.prog Tryz.f12.results.toList K) (args0 0 [(.agg #[(.int .u64 x0_0), (.int .u64 x0_1), (.int .u64 x0_2), (.int .u64 x0_3)]), (.int .i64 x1)]) h) = w x0_0 x0_1 x0_2 x0_3 x1 h K := (E0 S0 x0_0 x0_1 x0_2 x0_3 x1 h K).trans (cg1 (fun q0 => J0 q0 x0_0 x0_1 x0_2 x0_3 x1 h K) (by funext x2 x4 x5 h; exact ek2 K x2 x4 x5 h))
theorem hb : Tryz.f12.body = some body := by kernel_rfl
theorem ok : okCode T Tryz.f12.ntmps body = true := by kernel_rfl
theorem spec (x0_0 : Int) (x0_1 : Int) (x0_2 : Int) (x0_3 : Int) (x1 : Int) (h : Heap) (K : KK) (H : w x0_0 x0_1 x0_2 x0_3 x1 h K) : CallsH Tryz.prog 12 [(.agg #[(.int .u64 x0_0), (.int .u64 x0_1), (.int .u64 x0_2), (.int .u64 x0_3)]), (.int .i64 x1)] h K :=
  calls_of_E (T := T) Xok mix Tryz.func12 hb ok rfl (by rw [e0]; exact H)
end F12
-- spinney/spinneyref3.Fix
namespace F34
def T : Hint := ⟨[(6, [2, 3, 6, 7, 8]), (12, [2, 3, 6, 7, 8, 9]), (14, [1, 2, 3, 6]), (16, [2, 3, 6, 10, 11, 12]), (20, [2, 3, 6, 10, 11]), (21, [2, 3, 6, 10, 11, 13])], []⟩
noncomputable def body : Code := (Tryz.f34.body).getD .skip
noncomputable def en (S : Stop) (p : List Nat) (κ : XK) : Fr → Heap → Prop := E Tryz.prog X T S (sub body p) κ
noncomputable def ln (S : Stop) (p : List Nat) (κ : XK) (n : Nat) : Fr → Heap → Prop := loopN S (E Tryz.prog X T S (sub body p)) (cutQ T (sub body p)) κ n
def fn (K : KK) : XK := fin Tryz.prog Tryz.f34.results.toList K
noncomputable def c0 (S : Stop) (K : KK) : XK := seqN S (cutQ T (sub body [1, 1, 1])) (en S [1, 1, 1] (fn K)) (fn K)
noncomputable def c1 (S : Stop) (K : KK) : XK := seqN S (cutQ T (sub body [1, 1, 0, 1, 0, 1, 1])) (en S [1, 1, 0, 1, 0, 1, 1] (c0 S K)) (c0 S K)
noncomputable def c2 (S : Stop) (K : KK) : XK := blockN 0 (c1 S K)
noncomputable def c3 (S : Stop) (n6 : Nat) (K : KK) : XK := backN S (cutQ T (sub body [1, 1, 0, 1, 0, 1, 0, 1, 0, 0])) (ln S [1, 1, 0, 1, 0, 1, 0, 1, 0, 0] (c2 S K) n6) (c2 S K)
noncomputable def c4 (S : Stop) (n6 : Nat) (K : KK) : XK := seqN S (cutQ T (sub body [1, 1, 0, 1, 0, 1, 0, 1, 0, 0, 1, 1])) (en S [1, 1, 0, 1, 0, 1, 0, 1, 0, 0, 1, 1] (c3 S n6 K)) (c3 S n6 K)
noncomputable def c5 (S : Stop) (n6 : Nat) (K : KK) : XK := blockN 1 (c4 S n6 K)
noncomputable def c6 (S : Stop) (K : KK) : XK := seqN S (cutQ T (sub body [1, 1, 1, 1, 1])) (en S [1, 1, 1, 1, 1] (fn K)) (fn K)
noncomputable def c7 (S : Stop) (K : KK) : XK := blockN 2 (c6 S K)
noncomputable def c8 (S : Stop) (n16 : Nat) (K : KK) : XK := backN S (cutQ T (sub body [1, 1, 1, 1, 0, 1, 0, 0])) (ln S [1, 1, 1, 1, 0, 1, 0, 0] (c7 S K) n16) (c7 S K)
noncomputable def c9 (S : Stop) (K : KK) : XK := seqN S (cutQ T (sub body [1, 1, 1, 1, 1, 1])) (en S [1, 1, 1, 1, 1, 1] (fn K)) (fn K)
noncomputable def c10 (S : Stop) (K : KK) : XK := blockN 4 (c9 S K)
noncomputable def c11 (S : Stop) (n21 : Nat) (K : KK) : XK := backN S (cutQ T (sub body [1, 1, 1, 1, 1, 0, 1, 0, 0])) (ln S [1, 1, 1, 1, 1, 0, 1, 0, 0] (c10 S K) n21) (c10 S K)
def f6 (x2 : Bool) (x3 x6 : Addr) (x7 x8 : Int) : Fr := [(2, (.bool x2)), (3, (.pointer (some x3))), (6, (.pointer (some x6))), (7, (.int .i64 x7)), (8, (.int .i64 x8))]
def f12 (x2 : Bool) (x3 x6 : Addr) (x7 x8 x9 : Int) : Fr := [(2, (.bool x2)), (3, (.pointer (some x3))), (6, (.pointer (some x6))), (7, (.int .i64 x7)), (8, (.int .i64 x8)), (9, (.int .u64 x9))]
def f14 (x1 : Int) (x2 : Bool) (x3 x6 : Addr) : Fr := [(1, (.int .i64 x1)), (2, (.bool x2)), (3, (.pointer (some x3))), (6, (.pointer (some x6)))]
def f16 (x2 : Bool) (x3 x6 : Addr) (x10 x11 x12 : Int) : Fr := [(2, (.bool x2)), (3, (.pointer (some x3))), (6, (.pointer (some x6))), (10, (.int .u64 x10)), (11, (.int .u64 x11)), (12, (.int .u64 x12))]
def f20 (x2 : Bool) (x3 x6 : Addr) (x10 x11 : Int) : Fr := [(2, (.bool x2)), (3, (.pointer (some x3))), (6, (.pointer (some x6))), (10, (.int .u64 x10)), (11, (.int .u64 x11))]
def f21 (x2 : Bool) (x3 x6 : Addr) (x10 x11 x13 : Int) : Fr := [(2, (.bool x2)), (3, (.pointer (some x3))), (6, (.pointer (some x6))), (10, (.int .u64 x10)), (11, (.int .u64 x11)), (13, (.int .i64 x13))]
def J0 (k6 : Bool → Addr → Addr → Int → Int → Heap → Prop) (k14 : Int → Bool → Addr → Addr → Heap → Prop) (x0_0 x0_1 x0_2 x0_3 x1 : Int) (x2 : Bool) (h : Heap) (K : KK) : Prop :=
  newK h (.cells #[(.int .u64 x0_0), (.int .u64 x0_1), (.int .u64 x0_2), (.int .u64 x0_3)] 24) (fun b1 h2 => newK h2 (.cells #[(.int .u64 (0 : Int)), (.int .u64 (0 : Int)), (.int .u64 (0 : Int)), (.int .u64 (0 : Int))] 24) (fun b3 h4 => bcase (decide (x1 < (0 : Int))) (ldI .u64 (rd h4 (Addr.add (Addr.mk b1 0 none) 0)) (fun n5 => ldI .u64 (rd h4 (Addr.add (Addr.mk b1 0 none) 1)) (fun n6 => ldI .u64 (rd h4 (Addr.add (Addr.mk b1 0 none) 2)) (fun n7 => ldI .u64 (rd h4 (Addr.add (Addr.mk b1 0 none) 3)) (fun n8 => stK h4 (Addr.add (Addr.mk b3 0 none) 0) (.int .u64 n5) (fun h9 => stK h9 (Addr.add (Addr.mk b3 0 none) 1) (.int .u64 n6) (fun h10 => stK h10 (Addr.add (Addr.mk b3 0 none) 2) (.int .u64 n7) (fun h11 => stK h11 (Addr.add (Addr.mk b3 0 none) 3) (.int .u64 n8) (fun h12 => ldI .u64 (rd h12 (Addr.add (Addr.mk b3 0 none) 0)) (fun n13 => ldI .u64 (rd h12 (Addr.add (Addr.mk b3 0 none) 1)) (fun n14 => ldI .u64 (rd h12 (Addr.add (Addr.mk b3 0 none) 2)) (fun n15 => ldI .u64 (rd h12 (Addr.add (Addr.mk b3 0 none) 3)) (fun n16 => K (.agg #[(.int .u64 n13), (.int .u64 n14), (.int .u64 n15), (.int .u64 n16)]) h12))))))))))))) (bcase (decide (x1 ≥ (8 : Int))) (ldI .u64 (rd h4 (Addr.add (Addr.mk b1 0 none) 0)) (fun n17 => ldI .u64 (rd h4 (Addr.add (Addr.mk b1 0 none) 1)) (fun n18 => ldI .u64 (rd h4 (Addr.add (Addr.mk b1 0 none) 2)) (fun n19 => ldI .u64 (rd h4 (Addr.add (Addr.mk b1 0 none) 3)) (fun n20 => stK h4 (Addr.add (Addr.mk b3 0 none) 0) (.int .u64 n17) (fun h21 => stK h21 (Addr.add (Addr.mk b3 0 none) 1) (.int .u64 n18) (fun h22 => stK h22 (Addr.add (Addr.mk b3 0 none) 2) (.int .u64 n19) (fun h23 => stK h23 (Addr.add (Addr.mk b3 0 none) 3) (.int .u64 n20) (fun h24 => ldI .u64 (rd h24 (Addr.add (Addr.mk b3 0 none) 0)) (fun n25 => ldI .u64 (rd h24 (Addr.add (Addr.mk b3 0 none) 1)) (fun n26 => ldI .u64 (rd h24 (Addr.add (Addr.mk b3 0 none) 2)) (fun n27 => ldI .u64 (rd h24 (Addr.add (Addr.mk b3 0 none) 3)) (fun n28 => K (.agg #[(.int .u64 n25), (.int .u64 n26), (.int .u64 n27), (.int .u64 n28)]) h24))))))))))))) (bcase (decide (x1 ≥ (6 : Int))) ((0 ≤ (IntKind.wrap .u64 (IntKind.wrap .i64 (x1 - (6 : Int)))) ∧ k6 x2 (Addr.mk b1 0 none) (Addr.mk b3 0 none) (IntKind.wrap .i64 ((1 : Int) * 2 ^ (min (Int.toNat (IntKind.wrap .u64 (IntKind.wrap .i64 (x1 - (6 : Int))))) (IntKind.bits .i64)))) (0 : Int) h4)) (k14 x1 x2 (Addr.mk b1 0 none) (Addr.mk b3 0 none) h4)))))
theorem E0 (S : Stop) (x0_0 x0_1 x0_2 x0_3 x1 : Int) (x2 : Bool) (h : Heap) (K : KK) : (E Tryz.prog X T S body (fin Tryz.prog Tryz.f34.results.toList K) (args0 0 [(.agg #[(.int .u64 x0_0), (.int .u64 x0_1), (.int .u64 x0_2), (.int .u64 x0_3)]), (.int .i64 x1), (.bool x2)]) h) = J0 (fun x2 x3 x6 x7 x8 h => S (en S [1, 1, 0, 1, 0, 1, 0, 1] (c1 S K)) (f6 x2 x3 x6 x7 x8) h) (fun x1 x2 x3 x6 h => S (en S [1, 1, 1] (fn K)) (f14 x1 x2 x3 x6) h) x0_0 x0_1 x0_2 x0_3 x1 x2 h K := by kernel_rfl
def Jk6 (lp6 : Bool → Addr → Addr → Int → Int → Heap → Prop) (x2 : Bool) (x3 x6 : Addr) (x7 x8 : Int) (h : Heap) (_K : KK) : Prop :=
  lp6 x2 x3 x6 x7 x8 h
theorem Ek6 (S : Stop) (x2 : Bool) (x3 x6 : Addr) (x7 x8 : Int) (h : Heap) (K : KK) : (en S [1, 1, 0, 1, 0, 1, 0, 1] (c1 S K) (f6 x2 x3 x6 x7 x8) h) = Jk6 (fun x2 x3 x6 x7 x8 h => ∃ n, S (ln S [1, 1, 0, 1, 0, 1, 0, 1, 0, 0] (c2 S K) n) (f6 x2 x3 x6 x7 x8) h) x2 x3 x6 x7 x8 h K := by kernel_rfl
def JL6 (k12 : Bool → Addr → Addr → Int → Int → Int → Heap → Prop) (bk6 : Bool → Addr → Addr → Int → Int → Heap → Prop) (x2 : Bool) (x3 x6 : Addr) (x7 x8 : Int) (h : Heap) (K : KK) : Prop :=
  bcase (decide (x8 < (4 : Int))) (bcase ((bitsI .and .i64 x8 x7) == (0 : Int)) ((0 ≤ x8 ∧ x8 < (Nat.cast 4 : Int) ∧ ldI .u64 (rd h (Addr.add x3 (Int.toNat x8 * 1))) (fun n1 => bcase x2 ((0 ≤ (bitsI .or .i64 x8 x7) ∧ (bitsI .or .i64 x8 x7) < (Nat.cast 4 : Int) ∧ ldI .u64 (rd h (Addr.add x3 (Int.toNat (bitsI .or .i64 x8 x7) * 1))) (fun n2 => k12 x2 x3 x6 x7 x8 n2 h))) (k12 x2 x3 x6 x7 x8 n1 h)))) (bk6 x2 x3 x6 x7 (IntKind.wrap .i64 (x8 + (1 : Int))) h)) (ldI .u64 (rd h (Addr.add x3 0)) (fun n3 => ldI .u64 (rd h (Addr.add x3 1)) (fun n4 => ldI .u64 (rd h (Addr.add x3 2)) (fun n5 => ldI .u64 (rd h (Addr.add x3 3)) (fun n6 => stK h (Addr.add x6 0) (.int .u64 n3) (fun h7 => stK h7 (Addr.add x6 1) (.int .u64 n4) (fun h8 => stK h8 (Addr.add x6 2) (.int .u64 n5) (fun h9 => stK h9 (Addr.add x6 3) (.int .u64 n6) (fun h10 => ldI .u64 (rd h10 (Addr.add x6 0)) (fun n11 => ldI .u64 (rd h10 (Addr.add x6 1)) (fun n12 => ldI .u64 (rd h10 (Addr.add x6 2)) (fun n13 => ldI .u64 (rd h10 (Addr.add x6 3)) (fun n14 => K (.agg #[(.int .u64 n11), (.int .u64 n12), (.int .u64 n13), (.int .u64 n14)]) h10)))))))))))))
theorem EL6 (S : Stop) (n6 : Nat) (x2 : Bool) (x3 x6 : Addr) (x7 x8 : Int) (h : Heap) (K : KK) : (en S [1, 1, 0, 1, 0, 1, 0, 1, 0, 0] (c3 S n6 K) (f6 x2 x3 x6 x7 x8) h) = JL6 (fun x2 x3 x6 x7 x8 x9 h => S (en S [1, 1, 0, 1, 0, 1, 0, 1, 0, 0, 1, 0, 0, 1, 0, 1, 1] (c5 S n6 K)) (f12 x2 x3 x6 x7 x8 x9) h) (fun x2 x3 x6 x7 x8 h => S (ln S [1, 1, 0, 1, 0, 1, 0, 1, 0, 0] (c2 S K) n6) (f6 x2 x3 x6 x7 x8) h) x2 x3 x6 x7 x8 h K := by kernel_rfl
def Jk12 (bk6 : Bool → Addr → Addr → Int → Int → Heap → Prop) (x2 : Bool) (x3 x6 : Addr) (x7 x8 x9 : Int) (h : Heap) (_K : KK) : Prop :=
  (0 ≤ x8 ∧ x8 < (Nat.cast 4 : Int) ∧ stK h (Addr.add (Addr.add x3 (Int.toNat x8 * 1)) 0) (.int .u64 x9) (fun h1 => (0 ≤ (bitsI .or .i64 x8 x7) ∧ (bitsI .or .i64 x8 x7) < (Nat.cast 4 : Int) ∧ stK h1 (Addr.add (Addr.add x3 (Int.toNat (bitsI .or .i64 x8 x7) * 1)) 0) (.int .u64 x9) (fun h2 => bk6 x2 x3 x6 x7 (IntKind.wrap .i64 (x8 + (1 : Int))) h2))))
theorem Ek12 (S : Stop) (n6 : Nat) (x2 : Bool) (x3 x6 : Addr) (x7 x8 x9 : Int) (h : Heap) (K : KK) : (en S [1, 1, 0, 1, 0, 1, 0, 1, 0, 0, 1, 0, 0, 1, 0, 1, 1] (c5 S n6 K) (f12 x2 x3 x6 x7 x8 x9) h) = Jk12 (fun x2 x3 x6 x7 x8 h => S (ln S [1, 1, 0, 1, 0, 1, 0, 1, 0, 0] (c2 S K) n6) (f6 x2 x3 x6 x7 x8) h) x2 x3 x6 x7 x8 x9 h K := by kernel_rfl
def Jk14 (k16 : Bool → Addr → Addr → Int → Int → Int → Heap → Prop) (x1 : Int) (x2 : Bool) (x3 x6 : Addr) (h : Heap) (_K : KK) : Prop :=
  (0 ≤ (IntKind.wrap .u64 x1) ∧ k16 x2 x3 x6 (0 : Int) (IntKind.wrap .u64 ((1 : Int) * 2 ^ (min (Int.toNat (IntKind.wrap .u64 x1)) (IntKind.bits .u64)))) (0 : Int) h)
theorem Ek14 (S : Stop) (x1 : Int) (x2 : Bool) (x3 x6 : Addr) (h : Heap) (K : KK) : (en S [1, 1, 1] (fn K) (f14 x1 x2 x3 x6) h) = Jk14 (fun x2 x3 x6 x10 x11 x12 h => S (en S [1, 1, 1, 1, 0, 1] (c6 S K)) (f16 x2 x3 x6 x10 x11 x12) h) x1 x2 x3 x6 h K := by kernel_rfl
def Jk16 (lp16 : Bool → Addr → Addr → Int → Int → Int → Heap → Prop) (x2 : Bool) (x3 x6 : Addr) (x10 x11 x12 : Int) (h : Heap) (_K : KK) : Prop :=
  lp16 x2 x3 x6 x10 x11 x12 h
theorem Ek16 (S : Stop) (x2 : Bool) (x3 x6 : Addr) (x10 x11 x12 : Int) (h : Heap) (K : KK) : (en S [1, 1, 1, 1, 0, 1] (c6 S K) (f16 x2 x3 x6 x10 x11 x12) h) = Jk16 (fun x2 x3 x6 x10 x11 x12 h => ∃ n, S (ln S [1, 1, 1, 1, 0, 1, 0, 0] (c7 S K) n) (f16 x2 x3 x6 x10 x11 x12) h) x2 x3 x6 x10 x11 x12 h K := by kernel_rfl
def JL16 (bk16 : Bool → Addr → Addr → Int → Int → Int → Heap → Prop) (k20 : Bool → Addr → Addr → Int → Int → Heap → Prop) (x2 : Bool) (x3 x6 : Addr) (x10 x11 x12 : Int) (h : Heap) (_K : KK) : Prop :=
  bcase (decide (x12 < (64 : Int))) (bcase ((bitsI .and .u64 x12 x11) != (0 : Int)) ((0 ≤ x12 ∧ bk16 x2 x3 x6 (bitsI .or .u64 x10 (IntKind.wrap .u64 ((1 : Int) * 2 ^ (min (Int.toNat x12) (IntKind.bits .u64))))) x11 (IntKind.wrap .u64 (x12 + (1 : Int))) h)) (bk16 x2 x3 x6 x10 x11 (IntKind.wrap .u64 (x12 + (1 : Int))) h)) (k20 x2 x3 x6 x10 x11 h)
theorem EL16 (S : Stop) (n16 : Nat) (x2 : Bool) (x3 x6 : Addr) (x10 x11 x12 : Int) (h : Heap) (K : KK) : (en S [1, 1, 1, 1, 0, 1, 0, 0] (c8 S n16 K) (f16 x2 x3 x6 x10 x11 x12) h) = JL16 (fun x2 x3 x6 x10 x11 x12 h => S (ln S [1, 1, 1, 1, 0, 1, 0, 0] (c7 S K) n16) (f16 x2 x3 x6 x10 x11 x12) h) (fun x2 x3 x6 x10 x11 h => S (en S [1, 1, 1, 1, 1] (fn K)) (f20 x2 x3 x6 x10 x11) h) x2 x3 x6 x10 x11 x12 h K := by kernel_rfl
def Jk20 (k21 : Bool → Addr → Addr → Int → Int → Int → Heap → Prop) (x2 : Bool) (x3 x6 : Addr) (x10 x11 : Int) (h : Heap) (_K : KK) : Prop :=
  k21 x2 x3 x6 x10 x11 (0 : Int) h
theorem Ek20 (S : Stop) (x2 : Bool) (x3 x6 : Addr) (x10 x11 : Int) (h : Heap) (K : KK) : (en S [1, 1, 1, 1, 1] (fn K) (f20 x2 x3 x6 x10 x11) h) = Jk20 (fun x2 x3 x6 x10 x11 x13 h => S (en S [1, 1, 1, 1, 1, 0, 1] (c9 S K)) (f21 x2 x3 x6 x10 x11 x13) h) x2 x3 x6 x10 x11 h K := by kernel_rfl
def Jk21 (lp21 : Bool → Addr → Addr → Int → Int → Int → Heap → Prop) (x2 : Bool) (x3 x6 : Addr) (x10 x11 x13 : Int) (h : Heap) (_K : KK) : Prop :=
  lp21 x2 x3 x6 x10 x11 x13 h
theorem Ek21 (S : Stop) (x2 : Bool) (x3 x6 : Addr) (x10 x11 x13 : Int) (h : Heap) (K : KK) : (en S [1, 1, 1, 1, 1, 0, 1] (c9 S K) (f21 x2 x3 x6 x10 x11 x13) h) = Jk21 (fun x2 x3 x6 x10 x11 x13 h => ∃ n, S (ln S [1, 1, 1, 1, 1, 0, 1, 0, 0] (c10 S K) n) (f21 x2 x3 x6 x10 x11 x13) h) x2 x3 x6 x10 x11 x13 h K := by kernel_rfl
def JL21 (bk21 : Bool → Addr → Addr → Int → Int → Int → Heap → Prop) (x2 : Bool) (x3 x6 : Addr) (x10 x11 x13 : Int) (h : Heap) (K : KK) : Prop :=
  bcase (decide (x13 < (4 : Int))) (bcase x2 ((0 ≤ x13 ∧ x13 < (Nat.cast 4 : Int) ∧ ldI .u64 (rd h (Addr.add x3 (Int.toNat x13 * 1))) (fun n1 => (0 ≤ x11 ∧ (0 ≤ x13 ∧ x13 < (Nat.cast 4 : Int) ∧ stK h (Addr.add (Addr.add x3 (Int.toNat x13 * 1)) 0) (.int .u64 (bitsI .or .u64 (bitsI .and .u64 n1 x10) (Int.fdiv (bitsI .and .u64 n1 x10) (2 ^ (min (Int.toNat x11) (IntKind.bits .u64)))))) (fun h2 => bk21 x2 x3 x6 x10 x11 (IntKind.wrap .i64 (x13 + (1 : Int))) h2)))))) ((0 ≤ x13 ∧ x13 < (Nat.cast 4 : Int) ∧ ldI .u64 (rd h (Addr.add x3 (Int.toNat x13 * 1))) (fun n3 => (0 ≤ x11 ∧ (0 ≤ x13 ∧ x13 < (Nat.cast 4 : Int) ∧ stK h (Addr.add (Addr.add x3 (Int.toNat x13 * 1)) 0) (.int .u64 (bitsI .or .u64 (bitsI .andNot .u64 n3 x10) (IntKind.wrap .u64 ((bitsI .andNot .u64 n3 x10) * 2 ^ (min (Int.toNat x11) (IntKind.bits .u64)))))) (fun h4 => bk21 x2 x3 x6 x10 x11 (IntKind.wrap .i64 (x13 + (1 : Int))) h4))))))) (ldI .u64 (rd h (Addr.add x3 0)) (fun n5 => ldI .u64 (rd h (Addr.add x3 1)) (fun n6 => ldI .u64 (rd h (Addr.add x3 2)) (fun n7 => ldI .u64 (rd h (Addr.add x3 3)) (fun n8 => stK h (Addr.add x6 0) (.int .u64 n5) (fun h9 => stK h9 (Addr.add x6 1) (.int .u64 n6) (fun h10 => stK h10 (Addr.add x6 2) (.int .u64 n7) (fun h11 => stK h11 (Addr.add x6 3) (.int .u64 n8) (fun h12 => ldI .u64 (rd h12 (Addr.add x6 0)) (fun n13 => ldI .u64 (rd h12 (Addr.add x6 1)) (fun n14 => ldI .u64 (rd h12 (Addr.add x6 2)) (fun n15 => ldI .u64 (rd h12 (Addr.add x6 3)) (fun n16 => K (.agg #[(.int .u64 n13), (.int .u64 n14), (.int .u64 n15), (.int .u64 n16)]) h12)))))))))))))
theorem EL21 (S : Stop) (n21 : Nat) (x2 : Bool) (x3 x6 : Addr) (x10 x11 x13 : Int) (h : Heap) (K : KK) : (en S [1, 1, 1, 1, 1, 0, 1, 0, 0] (c11 S n21 K) (f21 x2 x3 x6 x10 x11 x13) h) = JL21 (fun x2 x3 x6 x10 x11 x13 h => S (ln S [1, 1, 1, 1, 1, 0, 1, 0, 0] (c10 S K) n21) (f21 x2 x3 x6 x10 x11 x13) h) x2 x3 x6 x10 x11 x13 h K := by kernel_rfl
def wk12 (bk6 : Bool → Addr → Addr → Int → Int → Heap → Prop) (x2 : Bool) (x3 x6 : Addr) (x7 x8 x9 : Int) (h : Heap) (K : KK) : Prop :=
  Jk12 bk6 x2 x3 x6 x7 x8 x9 h K
theorem ek12 (K : KK) (n6 : Nat) (bk6 : Bool → Addr → Addr → Int → Int → Heap → Prop) (hb6 : ∀ (x2 : Bool) (x3 x6 : Addr) (x7 x8 : Int) (h : Heap), (ln S0 [1, 1, 0, 1, 0, 1, 0, 1, 0, 0] (c2 S0 K) n6 (f6 x2 x3 x6 x7 x8) h) = bk6 x2 x3 x6 x7 x8 h) (x2 : Bool) (x3 x6 : Addr) (x7 x8 x9 : Int) (h : Heap) : (en S0 [1, 1, 0, 1, 0, 1, 0, 1, 0, 0, 1, 0, 0, 1, 0, 1, 1] (c5 S0 n6 K) (f12 x2 x3 x6 x7 x8 x9) h) = wk12 bk6 x2 x3 x6 x7 x8 x9 h K := (Ek12 S0 n6 x2 x3 x6 x7 x8 x9 h K).trans (cg1 (fun q0 => Jk12 q0 x2 x3 x6 x7 x8 x9 h K) (by funext x2 x3 x6 x7 x8 h; exact hb6 x2 x3 x6 x7 x8 h))
def wL6 : Nat → Bool → Addr → Addr → Int → Int → Heap → KK → Prop
  | 0, _, _, _, _, _, _, _ => False
  | n + 1, x2, x3, x6, x7, x8, h, K => JL6 (fun x2 x3 x6 x7 x8 x9 h => wk12 (fun x2 x3 x6 x7 x8 h => wL6 n x2 x3 x6 x7 x8 h K) x2 x3 x6 x7 x8 x9 h K) (fun x2 x3 x6 x7 x8 h => wL6 n x2 x3 x6 x7 x8 h K) x2 x3 x6 x7 x8 h K
theorem eL6 (K : KK) : ∀ (n : Nat) (x2 : Bool) (x3 x6 : Addr) (x7 x8 : Int) (h : Heap), (ln S0 [1, 1, 0, 1, 0, 1, 0, 1, 0, 0] (c2 S0 K) n (f6 x2 x3 x6 x7 x8) h) = wL6 n x2 x3 x6 x7 x8 h K
  | 0, _, _, _, _, _, _ => rfl
  | n + 1, x2, x3, x6, x7, x8, h => (EL6 S0 n x2 x3 x6 x7 x8 h K).trans (cg2 (fun q0 q1 => JL6 q0 q1 x2 x3 x6 x7 x8 h K) (by funext x2 x3 x6 x7 x8 x9 h; exact ek12 K n (fun x2 x3 x6 x7 x8 h => wL6 n x2 x3 x6 x7 x8 h K) (fun x2 x3 x6 x7 x8 h => eL6 K n x2 x3 x6 x7 x8 h) x2 x3 x6 x7 x8 x9 h) (by funext x2 x3 x6 x7 x8 h; exact (fun x2 x3 x6 x7 x8 h => eL6 K n x2 x3 x6 x7 x8 h) x2 x3 x6 x7 x8 h))
def wk6 (x2 : Bool) (x3 x6 : Addr) (x7 x8 : Int) (h : Heap) (K : KK) : Prop :=
  Jk6 (fun x2 x3 x6 x7 x8 h => ∃ m, wL6 m x2 x3 x6 x7 x8 h K) x2 x3 x6 x7 x8 h K
theorem ek6 (K : KK) (x2 : Bool) (x3 x6 : Addr) (x7 x8 : Int) (h : Heap) : (en S0 [1, 1, 0, 1, 0, 1, 0, 1] (c1 S0 K) (f6 x2 x3 x6 x7 x8) h) = wk6 x2 x3 x6 x7 x8 h K := (Ek6 S0 x2 x3 x6 x7 x8 h K).trans (cg1 (fun q0 => Jk6 q0 x2 x3 x6 x7 x8 h K) (by funext x2 x3 x6 x7 x8 h; exact ex_congr fun m => eL6 K m x2 x3 x6 x7 x8 h))
def wL21 : Nat → Bool → Addr → Addr → Int → Int → Int → Heap → KK → Prop
  | 0, _, _, _, _, _, _, _, _ => False
  | n + 1, x2, x3, x6, x10, x11, x13, h, K => JL21 (fun x2 x3 x6 x10 x11 x13 h => wL21 n x2 x3 x6 x10 x11 x13 h K) x2 x3 x6 x10 x11 x13 h K
theorem eL21 (K : KK) : ∀ (n : Nat) (x2 : Bool) (x3 x6 : Addr) (x10 x11 x13 : Int) (h : Heap), (ln S0 [1, 1, 1, 1, 1, 0, 1, 0, 0] (c10 S0 K) n (f21 x2 x3 x6 x10 x11 x13) h) = wL21 n x2 x3 x6 x10 x11 x13 h K
  | 0, _, _, _, _, _, _, _ => rfl
  | n + 1, x2, x3, x6, x10, x11, x13, h => (EL21 S0 n x2 x3 x6 x10 x11 x13 h K).trans (cg1 (fun q0 => JL21 q0 x2 x3 x6 x10 x11 x13 h K) (by funext x2 x3 x6 x10 x11 x13 h; exact (fun x2 x3 x6 x10 x11 x13 h => eL21 K n x2 x3 x6 x10 x11 x13 h) x2 x3 x6 x10 x11 x13 h))
def wk21 (x2 : Bool) (x3 x6 : Addr) (x10 x11 x13 : Int) (h : Heap) (K : KK) : Prop :=
  Jk21 (fun x2 x3 x6 x10 x11 x13 h => ∃ m, wL21 m x2 x3 x6 x10 x11 x13 h K) x2 x3 x6 x10 x11 x13 h K
theorem ek21 (K : KK) (x2 : Bool) (x3 x6 : Addr) (x10 x11 x13 : Int) (h : Heap) : (en S0 [1, 1, 1, 1, 1, 0, 1] (c9 S0 K) (f21 x2 x3 x6 x10 x11 x13) h) = wk21 x2 x3 x6 x10 x11 x13 h K := (Ek21 S0 x2 x3 x6 x10 x11 x13 h K).trans (cg1 (fun q0 => Jk21 q0 x2 x3 x6 x10 x11 x13 h K) (by funext x2 x3 x6 x10 x11 x13 h; exact ex_congr fun m => eL21 K m x2 x3 x6 x10 x11 x13 h))
def wk20 (x2 : Bool) (x3 x6 : Addr) (x10 x11 : Int) (h : Heap) (K : KK) : Prop :=
  Jk20 (fun x2 x3 x6 x10 x11 x13 h => wk21 x2 x3 x6 x10 x11 x13 h K) x2 x3 x6 x10 x11 h K
theorem ek20 (K : KK) (x2 : Bool) (x3 x6 : Addr) (x10 x11 : Int) (h : Heap) : (en S0 [1, 1, 1, 1, 1] (fn K) (f20 x2 x3 x6 x10 x11) h) = wk20 x2 x3 x6 x10 x11 h K := (Ek20 S0 x2 x3 x6 x10 x11 h K).trans (cg1 (fun q0 => Jk20 q0 x2 x3 x6 x10 x11 h K) (by funext x2 x3 x6 x10 x11 x13 h; exact ek21 K x2 x3 x6 x10 x11 x13 h))
def wL16 : Nat → Bool → Addr → Addr → Int → Int → Int → Heap → KK → Prop
  | 0, _, _, _, _, _, _, _, _ => False
  | n + 1, x2, x3, x6, x10, x11, x12, h, K => JL16 (fun x2 x3 x6 x10 x11 x12 h => wL16 n x2 x3 x6 x10 x11 x12 h K) (fun x2 x3 x6 x10 x11 h => wk20 x2 x3 x6 x10 x11 h K) x2 x3 x6 x10 x11 x12 h K
theorem eL16 (K : KK) : ∀ (n : Nat) (x2 : Bool) (x3 x6 : Addr) (x10 x11 x12 : Int) (h : Heap), (ln S0 [1, 1, 1, 1, 0, 1, 0, 0] (c7 S0 K) n (f16 x2 x3 x6 x10 x11 x12) h) = wL16 n x2 x3 x6 x10 x11 x12 h K
  | 0, _, _, _, _, _, _, _ => rfl
  | n + 1, x2, x3, x6, x10, x11, x12, h => (EL16 S0 n x2 x3 x6 x10 x11 x12 h K).trans (cg2 (fun q0 q1 => JL16 q0 q1 x2 x3 x6 x10 x11 x12 h K) (by funext x2 x3 x6 x10 x11 x12 h; exact (fun x2 x3 x6 x10 x11 x12 h => eL16 K n x2 x3 x6 x10 x11 x12 h) x2 x3 x6 x10 x11 x12 h) (by funext x2 x3 x6 x10 x11 h; exact ek20 K x2 x3 x6 x10 x11 h))
def wk16 (x2 : Bool) (x3 x6 : Addr) (x10 x11 x12 : Int) (h : Heap) (K : KK) : Prop :=
  Jk16 (fun x2 x3 x6 x10 x11 x12 h => ∃ m, wL16 m x2 x3 x6 x10 x11 x12 h K) x2 x3 x6 x10 x11 x12 h K
theorem ek16 (K : KK) (x2 : Bool) (x3 x6 : Addr) (x10 x11 x12 : Int) (h : Heap) : (en S0 [1, 1, 1, 1, 0, 1] (c6 S0 K) (f16 x2 x3 x6 x10 x11 x12) h) = wk16 x2 x3 x6 x10 x11 x12 h K := (Ek16 S0 x2 x3 x6 x10 x11 x12 h K).trans (cg1 (fun q0 => Jk16 q0 x2 x3 x6 x10 x11 x12 h K) (by funext x2 x3 x6 x10 x11 x12 h; exact ex_congr fun m => eL16 K m x2 x3 x6 x10 x11 x12 h))
def wk14 (x1 : Int) (x2 : Bool) (x3 x6 : Addr) (h : Heap) (K : KK) : Prop :=
  Jk14 (fun x2 x3 x6 x10 x11 x12 h => wk16 x2 x3 x6 x10 x11 x12 h K) x1 x2 x3 x6 h K
theorem ek14 (K : KK) (x1 : Int) (x2 : Bool) (x3 x6 : Addr) (h : Heap) : (en S0 [1, 1, 1] (fn K) (f14 x1 x2 x3 x6) h) = wk14 x1 x2 x3 x6 h K := (Ek14 S0 x1 x2 x3 x6 h K).trans (cg1 (fun q0 => Jk14 q0 x1 x2 x3 x6 h K) (by funext x2 x3 x6 x10 x11 x12 h; exact ek16 K x2 x3 x6 x10 x11 x12 h))
def w (x0_0 x0_1 x0_2 x0_3 x1 : Int) (x2 : Bool) (h : Heap) (K : KK) : Prop :=
  J0 (fun x2 x3 x6 x7 x8 h => wk6 x2 x3 x6 x7 x8 h K) (fun x1 x2 x3 x6 h => wk14 x1 x2 x3 x6 h K) x0_0 x0_1 x0_2 x0_3 x1 x2 h K
theorem e0 (K : KK) (x0_0 x0_1 x0_2 x0_3 x1 : Int) (x2 : Bool) (h : Heap) : (E Tryz.prog X T S0 body (fin Tryz.prog Tryz.f34.results.toList K) (args0 0 [(.agg #[(.int .u64 x0_0), (.int .u64 x0_1), (.int .u64 x0_2), (.int .u64 x0_3)]), (.int .i64 x1), (.bool x2)]) h) = w x0_0 x0_1 x0_2 x0_3 x1 x2 h K := (E0 S0 x0_0 x0_1 x0_2 x0_3 x1 x2 h K).trans (cg2 (fun q0 q1 => J0 q0 q1 x0_0 x0_1 x0_2 x0_3 x1 x2 h K) (by funext x2 x3 x6 x7 x8 h; exact ek6 K x2 x3 x6 x7 x8 h) (by funext x1 x2 x3 x6 h; exact ek14 K x1 x2 x3 x6 h))
theorem hb : Tryz.f34.body = some body := by kernel_rfl
theorem ok : okCode T Tryz.f34.ntmps body = true := by kernel_rfl
theorem spec (x0_0 : Int) (x0_1 : Int) (x0_2 : Int) (x0_3 : Int) (x1 : Int) (x2 : Bool) (h : Heap) (K : KK) (H : w x0_0 x0_1 x0_2 x0_3 x1 x2 h K) : CallsH Tryz.prog 34 [(.agg #[(.int .u64 x0_0), (.int .u64 x0_1), (.int .u64 x0_2), (.int .u64 x0_3)]), (.int .i64 x1), (.bool x2)] h K :=
  calls_of_E (T := T) Xok mix Tryz.func34 hb ok rfl (by rw [e0]; exact H)
end F34
end Go.Proofs.YtnbnlhpleomaoaaGreat.Ev
/- FUNCTIONS OF EIGHT VARIABLES as four words (package spinneyref3): bits, plainly; set, Const, Eval. Conditions: the words are in their bounds. -/
namespace Go.Proofs.YtnbnlhpleomaoaaGreat.Ev
open Go
def U64 : Nat := 18446744073709551616
theorem U64_pow : U64 = 2 ^ 64 := by decide
theorem ofInt_nat {a : Nat} (ha : a < U64) : (BitVec.ofInt 64 (a : Int)).toNat = a := by
  unfold U64 at ha
  rw [BitVec.toNat_ofInt]
  omega
theorem wrapU {a : Nat} (ha : a < U64) : IntKind.wrap .u64 (a : Int) = a := wrap_u64 (by omega) (by unfold U64 at ha; omega)
theorem bor {a b : Nat} (ha : a < U64) (hb : b < U64) : bitsI .or .u64 (a : Int) (b : Int) = ((a ||| b : Nat) : Int) := by
  unfold bitsI
  show IntKind.wrap .u64 ((BitVec.ofInt 64 (a : Int) ||| BitVec.ofInt 64 (b : Int)).toNat : Int) = _
  rw [BitVec.toNat_or, ofInt_nat ha, ofInt_nat hb]
  exact wrapU (by rw [U64_pow] at *; exact Nat.or_lt_two_pow ha hb)
theorem band {a b : Nat} (ha : a < U64) (hb : b < U64) : bitsI .and .u64 (a : Int) (b : Int) = ((a &&& b : Nat) : Int) := by
  unfold bitsI
  show IntKind.wrap .u64 ((BitVec.ofInt 64 (a : Int) &&& BitVec.ofInt 64 (b : Int)).toNat : Int) = _
  rw [BitVec.toNat_and, ofInt_nat ha, ofInt_nat hb]
  exact wrapU (by rw [U64_pow] at *; exact Nat.and_lt_two_pow _ hb)
/-- the value at x -/
def fb (g : Nat → Nat) (x : Nat) : Bool := (g (x / 64)).testBit (x % 64)
def WOk (g : Nat → Nat) : Prop := ∀ i, i < 4 → g i < U64
theorem fb_ext {g g' : Nat → Nat} (hg : WOk g) (hg' : WOk g') (h : ∀ x, x < 256 → fb g x = fb g' x) : ∀ i, i < 4 → g i = g' i := fun i hi => by
  apply Nat.eq_of_testBit_eq
  intro k
  by_cases hk : k < 64
  · have := h (i * 64 + k) (by omega)
    unfold fb at this
    rwa [show (i * 64 + k) / 64 = i by omega, show (i * 64 + k) % 64 = k by omega] at this
  · have a := hg i hi
    have b := hg' i hi
    rw [U64_pow] at a b
    rw [Nat.testBit_lt_two_pow (Nat.lt_of_lt_of_le a (Nat.pow_le_pow_right (by omega) (by omega))), Nat.testBit_lt_two_pow (Nat.lt_of_lt_of_le b (Nat.pow_le_pow_right (by omega) (by omega)))]
def wrow (g : Nat → Nat) : List Value := rowV 4 fun i => .int .u64 (g i : Int)
/-- a bit set -/
def sbit (g : Nat → Nat) (x : Nat) (v : Bool) : Nat → Nat := fun i => if v = true ∧ i = x / 64 then g i ||| 2 ^ (x % 64) else g i
theorem pow_lt (k : Nat) (hk : k < 64) : 2 ^ k < U64 := by rw [U64_pow]; exact Nat.pow_lt_pow_right (by omega) hk
theorem sbit_ok {g : Nat → Nat} (hg : WOk g) {x : Nat} {v : Bool} : WOk (sbit g x v) := fun i hi => by
  unfold sbit
  split
  · have a := hg i hi
    have b := pow_lt (x % 64) (Nat.mod_lt _ (by omega))
    rw [U64_pow] at *
    exact Nat.or_lt_two_pow a b
  · exact hg i hi
theorem sbit_fb (g : Nat → Nat) (x : Nat) (v : Bool) (y : Nat) : fb (sbit g x v) y = (fb g y || (v && decide (y = x))) := by
  unfold fb sbit
  cases v
  · simp
  · by_cases h : y / 64 = x / 64
    · rw [if_pos ⟨rfl, h⟩, Nat.testBit_or, Nat.testBit_two_pow]
      congr 1
      by_cases e : y = x
      · subst e; simp
      · simp only [Bool.true_and, decide_eq_false e, decide_eq_false_iff_not]
        omega
    · rw [if_neg (fun hh => h hh.2)]
      have : y ≠ x := fun e => h (by rw [e])
      simp [this]
theorem tdiv64 {x : Nat} (hx : x < 256) : IntKind.wrap .u8 (Int.tdiv (x : Int) 64) = ((x / 64 : Nat) : Int) := by
  rw [Int.tdiv_eq_ediv_of_nonneg (by omega)]
  simp [IntKind.wrap, IntKind.bits, IntKind.signed]; omega
theorem tmod64 (x : Nat) : Int.tmod (x : Int) 64 = ((x % 64 : Nat) : Int) := by
  rw [Int.tmod_eq_emod_of_nonneg (by omega)]
  rfl
theorem min64 {k : Nat} (hk : k < 64) : min (Int.toNat (k : Int)) (IntKind.bits .u64) = k := by
  rw [Int.toNat_natCast]
  show min k 64 = k
  omega
theorem wr_rd {h : Heap} {b : Nat} {g : Nat → Nat} (A : At h b (wrow g)) {i : Nat} (hi : i < 4) : rd h ⟨b, i, none⟩ = some (.int .u64 (g i : Int)) := by
  rw [A.rd]
  exact rowV_get hi
theorem wr_st {h : Heap} {b : Nat} {g : Nat → Nat} (A : At h b (wrow g)) {i : Nat} (hi : i < 4) {v : Nat} {K : Heap → Prop} (hK : ∀ h', At h' b (wrow fun j => if j = i then v else g j) → Only [b] h h' → K h') : stK h ⟨b, i, none⟩ (.int .u64 (v : Int)) K :=
  stK_at A (by unfold wrow; rw [rowV_len]; exact hi) rfl fun h' A' O' _ => hK h' (by
    unfold wrow at A' ⊢
    rw [rowV_set] at A'
    have e : (rowV 4 fun j => if j = i then Value.int .u64 (v : Int) else .int .u64 (g j : Int)) = rowV 4 fun j => .int .u64 ((if j = i then v else g j : Nat) : Int) := rowV_ext fun j _ => by split <;> rfl
    rw [e] at A'
    exact A') O'
theorem set51 {h : Heap} {b x : Nat} {g : Nat → Nat} {v : Bool} {K : Value → Heap → Prop} (A : At h b (wrow g)) (hg : WOk g) (hx : x < 256) (hK : ∀ h', At h' b (wrow (sbit g x v)) → Only [b] h h' → K (.tuple #[]) h') :
    CallsH Tryz.prog 51 [.pointer (some ⟨b, 0, none⟩), .int .u8 (x : Int), .bool v] h K := by
  refine F51.spec _ _ _ h K ?_
  unfold F51.w F51.J0
  refine bcase_of (fun hv => ?_) fun hv => ?_
  · subst hv
    have q : x / 64 < 4 := by omega
    rw [tdiv64 hx, tmod64]
    refine ⟨by decide, by decide, by omega, by omega, ?_⟩
    rw [add_mk, Int.toNat_natCast, Nat.zero_add, Nat.mul_one, wr_rd A q, ldI_some, min64 (by omega)]
    refine ⟨by decide, by omega, by omega, by omega, ?_⟩
    rw [add_mk, Nat.add_zero, show (1 : Int) * 2 ^ (x % 64) = ((2 ^ (x % 64) : Nat) : Int) by simp, wrapU (pow_lt _ (by omega)), bor (hg _ q) (pow_lt _ (by omega))]
    refine wr_st A q fun h' A' O' => hK h' ?_ O'
    have e : (fun j => if j = x / 64 then g (x / 64) ||| 2 ^ (x % 64) else g j) = sbit g x true := by
      funext j
      unfold sbit
      by_cases hj : j = x / 64
      · subst hj; simp
      · rw [if_neg hj, if_neg (fun h => hj h.2)]
    rw [e] at A'
    exact A'
  · subst hv
    refine hK h ?_ (Only.refl _ _)
    have e : sbit g x false = g := by
      funext j
      unfold sbit
      rw [if_neg (fun h => by cases h.1)]
    rw [e]
    exact A
end Go.Proofs.YtnbnlhpleomaoaaGreat.Ev
/- FUNCTIONS OF EIGHT VARIABLES as four words (package spinneyref3): Const, Or. Conditions: the words are in their bounds. -/
namespace Go.Proofs.YtnbnlhpleomaoaaGreat.Ev
open Go
theorem wrap8 {x : Nat} (h : x < 256) : IntKind.wrap .u8 (x : Int) = x := by
  simp [IntKind.wrap, IntKind.bits, IntKind.signed]; omega
def aggW (g : Nat → Nat) : Value := .agg #[.int .u64 (g 0 : Int), .int .u64 (g 1 : Int), .int .u64 (g 2 : Int), .int .u64 (g 3 : Int)]
/-- the words carried to the result's block, and handed back -/
theorem copy4 {h : Heap} {b c : Nat} {g g0 : Nat → Nat} {K : Value → Heap → Prop} (A : At h b (wrow g)) (C : At h c (wrow g0)) (hne : b ≠ c) (hK : ∀ h', Only [c] h h' → K (aggW g) h') :
    ldI .u64 (rd h (Addr.add ⟨b, 0, none⟩ 0)) (fun n4 => ldI .u64 (rd h (Addr.add ⟨b, 0, none⟩ 1)) (fun n5 => ldI .u64 (rd h (Addr.add ⟨b, 0, none⟩ 2)) (fun n6 => ldI .u64 (rd h (Addr.add ⟨b, 0, none⟩ 3)) (fun n7 => stK h (Addr.add ⟨c, 0, none⟩ 0) (.int .u64 n4) (fun h8 => stK h8 (Addr.add ⟨c, 0, none⟩ 1) (.int .u64 n5) (fun h9 => stK h9 (Addr.add ⟨c, 0, none⟩ 2) (.int .u64 n6) (fun h10 => stK h10 (Addr.add ⟨c, 0, none⟩ 3) (.int .u64 n7) (fun h11 => ldI .u64 (rd h11 (Addr.add ⟨c, 0, none⟩ 0)) (fun n12 => ldI .u64 (rd h11 (Addr.add ⟨c, 0, none⟩ 1)) (fun n13 => ldI .u64 (rd h11 (Addr.add ⟨c, 0, none⟩ 2)) (fun n14 => ldI .u64 (rd h11 (Addr.add ⟨c, 0, none⟩ 3)) (fun n15 => K (.agg #[(.int .u64 n12), (.int .u64 n13), (.int .u64 n14), (.int .u64 n15)]) h11)))))))))))) := by
  simp only [add_mk, Nat.zero_add]
  rw [wr_rd A (by decide : 0 < 4), ldI_some, wr_rd A (by decide : 1 < 4), ldI_some, wr_rd A (by decide : 2 < 4), ldI_some, wr_rd A (by decide : 3 < 4), ldI_some]
  refine wr_st C (by decide) fun h1 C1 O1 => wr_st C1 (by decide) fun h2 C2 O2 => wr_st C2 (by decide) fun h3 C3 O3 => wr_st C3 (by decide) fun h4 C4 O4 => ?_
  rw [wr_rd C4 (by decide : 0 < 4), ldI_some, wr_rd C4 (by decide : 1 < 4), ldI_some, wr_rd C4 (by decide : 2 < 4), ldI_some, wr_rd C4 (by decide : 3 < 4), ldI_some]
  exact hK h4 (((O1.trans O2 (by simp)).trans O3 (by simp)).trans O4 (by simp))
theorem zero_fb (y : Nat) : fb (fun _ => 0) y = false := by simp [fb]
set_option maxRecDepth 100000 in
theorem const55 {h : Heap} {v : Bool} {K : Value → Heap → Prop} (hK : ∀ h' g, WOk g → (∀ y, y < 256 → fb g y = v) → Only [] h h' → K (aggW g) h') : CallsH Tryz.prog 55 [.bool v] h K := by
  refine F55.spec _ h K ?_
  unfold F55.w F55.J0
  refine newK_at fun h1 A1 O1 z1 => newK_at fun h2 A2 O2 z2 => ?_
  replace A1 : At h1 h.size (wrow fun _ => 0) := A1
  replace A2 : At h2 h1.size (wrow fun _ => 0) := A2
  simp only [add_mk, Nat.zero_add]
  have st0 : ∀ {h' : Heap} {i : Nat} {K' : Heap → Prop}, At h' h1.size (wrow fun _ => 0) → i < 4 → (∀ h'', At h'' h1.size (wrow fun _ => 0) → Only [h1.size] h' h'' → K' h'') → stK h' ⟨h1.size, i, none⟩ (.int .u64 0) K' := fun A hi hk =>
    wr_st (v := 0) A hi fun h'' A' O' => hk h'' (by
      simp only [ite_self] at A'
      exact A') O'
  refine st0 A2 (by decide) fun h3 A3 O3 => st0 A3 (by decide) fun h4 A4 O4 => st0 A4 (by decide) fun h5 A5 O5 => st0 A5 (by decide) fun h6 A6 O6 => ?_
  have C2 := A1.only O2 (by simp)
  have hne : h1.size ≠ h.size := by omega
  have O36 : Only [h1.size] h2 h6 := ((O3.trans O4 (by simp)).trans O5 (by simp)).trans O6 (by simp)
  have C6 := C2.only O36 (by simp; omega)
  have O06 : Only [] h h6 := (O1.trans O2 (by simp)).trans O36 (by intro b hb hlt; simp at hb; omega)
  unfold F55.wk3 F55.Jk3
  have main : ∀ (d k : Nat) (g : Nat → Nat) (h' : Heap), k + d = 256 → WOk g → (∀ y, y < 256 → fb g y = (v && decide (y < k))) → At h' h1.size (wrow g) → At h' h.size (wrow fun _ => 0) → Only [] h h' →
      F55.wL3 (d + 1) v ⟨h.size, 0, none⟩ ⟨h1.size, 0, none⟩ k h' K := by
    intro d
    induction d with
    | zero =>
      intro k g h' hd hg hf A C O
      unfold F55.wL3 F55.JL3
      rw [show decide ((k : Int) < 256) = false by simp; omega, bcase_false]
      refine copy4 A C hne fun h'' O'' => hK h'' g hg (fun y hy => ?_) (O.trans O'' (by intro b hb hlt; simp at hb; omega))
      rw [hf y hy, decide_eq_true (by omega), Bool.and_true]
    | succ d ih =>
      intro k g h' hd hg hf A C O
      unfold F55.wL3 F55.JL3
      rw [show decide ((k : Int) < 256) = true by simp; omega, bcase_true]
      have wk : IntKind.wrap .u8 (k : Int) = (k : Int) := wrap8 (by omega)
      rw [wk, show IntKind.wrap .i64 ((k : Int) + 1) = ((k + 1 : Nat) : Int) by rw [wrap_i64 (by omega) (by omega)]; omega]
      refine set51 A hg (by omega) fun h'' A'' O'' => ⟨rfl, ih (k + 1) _ h'' (by omega) (sbit_ok hg) (fun y hy => ?_) A'' (C.only O'' (by simp; omega)) (O.trans O'' (by intro b hb hlt; simp at hb; omega))⟩
      rw [sbit_fb, hf y hy]
      cases v
      · simp
      · simp only [Bool.true_and]
        by_cases e : y = k
        · subst e; simp
        · by_cases l : y < k
          · rw [decide_eq_true l, decide_eq_true (by omega : y < k + 1)]; rfl
          · rw [decide_eq_false l, decide_eq_false e, decide_eq_false (by omega : ¬ y < k + 1)]; rfl
  exact ⟨_, main 256 0 (fun _ => 0) h6 (by omega) (fun i _ => by show 0 < U64; decide) (fun y _ => by rw [zero_fb]; simp) A6 C6 O06⟩
end Go.Proofs.YtnbnlhpleomaoaaGreat.Ev
/- FUNCTIONS OF EIGHT VARIABLES as four words (package spinneyref3): Or. Conditions: the words are in their bounds. -/
namespace Go.Proofs.YtnbnlhpleomaoaaGreat.Ev
open Go
theorem or_lt {a b : Nat} (ha : a < U64) (hb : b < U64) : a ||| b < U64 := by
  rw [U64_pow] at *
  exact Nat.or_lt_two_pow ha hb
def orTo (f g : Nat → Nat) (i : Nat) : Nat → Nat := fun j => if j < i then f j ||| g j else f j
theorem orTo_ok {f g : Nat → Nat} (hf : WOk f) (hg : WOk g) (i : Nat) : WOk (orTo f g i) := fun j hj => by
  unfold orTo
  split
  · exact or_lt (hf j hj) (hg j hj)
  · exact hf j hj
theorem orTo_fb (f g : Nat → Nat) {y : Nat} (hy : y < 256) : fb (orTo f g 4) y = (fb f y || fb g y) := by
  unfold fb orTo
  rw [if_pos (by omega), Nat.testBit_or]
theorem or27 {h : Heap} {f g : Nat → Nat} {K : Value → Heap → Prop} (hf : WOk f) (hg : WOk g) (hK : ∀ h' k, WOk k → (∀ y, y < 256 → fb k y = (fb f y || fb g y)) → Only [] h h' → K (aggW k) h') : CallsH Tryz.prog 27 [aggW f, aggW g] h K := by
  refine F27.spec _ _ _ _ _ _ _ _ h K ?_
  unfold F27.w F27.J0
  refine newK_at fun h1 A1 O1 z1 => newK_at fun h2 A2 O2 z2 => newK_at fun h3 A3 O3 z3 => ?_
  replace A1 : At h1 h.size (wrow f) := A1
  replace A2 : At h2 h1.size (wrow g) := A2
  replace A3 : At h3 h2.size (wrow fun _ => 0) := A3
  have B1 := (A1.only O2 (by simp)).only O3 (by simp)
  have B2 := A2.only O3 (by simp)
  have O13 : Only [] h h3 := (O1.trans O2 (by simp)).trans O3 (by simp)
  unfold F27.wk2 F27.Jk2
  have main : ∀ (d i : Nat) (h' : Heap), i + d = 4 → At h' h.size (wrow (orTo f g i)) → At h' h1.size (wrow g) → At h' h2.size (wrow fun _ => 0) → Only [] h h' →
      F27.wL2 (d + 1) ⟨h.size, 0, none⟩ ⟨h1.size, 0, none⟩ ⟨h2.size, 0, none⟩ i h' K := by
    intro d
    induction d with
    | zero =>
      intro i h' hd A B C O
      unfold F27.wL2 F27.JL2
      rw [show decide ((i : Int) < 4) = false by simp; omega, bcase_false]
      have hi : i = 4 := by omega
      subst hi
      exact copy4 A C (by omega) fun h'' O'' => hK h'' _ (orTo_ok hf hg 4) (fun y hy => orTo_fb f g hy) (O.trans O'' (by intro b hb hlt; simp at hb; omega))
    | succ d ih =>
      intro i h' hd A B C O
      unfold F27.wL2 F27.JL2
      have hi : i < 4 := by omega
      rw [show decide ((i : Int) < 4) = true by simp; omega, bcase_true, show IntKind.wrap .i64 ((i : Int) + 1) = ((i + 1 : Nat) : Int) by rw [wrap_i64 (by omega) (by omega)]; omega]
      refine ⟨by omega, by omega, ?_⟩
      rw [add_mk, add_mk, show 0 + Int.toNat (i : Int) * 1 = i by omega, wr_rd A hi, ldI_some]
      refine ⟨by omega, by omega, ?_⟩
      rw [wr_rd B hi, ldI_some]
      refine ⟨by omega, by omega, ?_⟩
      have e0 : orTo f g i i = f i := if_neg (by omega)
      rw [add_mk, Nat.add_zero, e0, bor (hf i hi) (hg i hi)]
      refine wr_st A hi fun h'' A'' O'' => ih (i + 1) h'' (by omega) ?_ (B.only O'' (by simp; omega)) (C.only O'' (by simp; omega)) (O.trans O'' (by intro b hb hlt; simp at hb; omega))
      have e : (fun j => if j = i then f i ||| g i else orTo f g i j) = orTo f g (i + 1) := by
        funext j
        unfold orTo
        by_cases hj : j = i
        · subst hj; rw [if_pos rfl, if_pos (by omega)]
        · rw [if_neg hj]
          by_cases hl : j < i
          · rw [if_pos hl, if_pos (by omega)]
          · rw [if_neg hl, if_neg (by omega)]
      rw [e] at A''
      exact A''
  have e0 : orTo f g 0 = f := by funext j; unfold orTo; rw [if_neg (by omega)]
  exact ⟨_, main 4 0 h3 (by omega) (by rw [e0]; exact B1) B2 A3 O13⟩
end Go.Proofs.YtnbnlhpleomaoaaGreat.Ev
/- FUNCTIONS OF EIGHT VARIABLES as four words: a variable fixed, plainly. Conditions: the words are in their bounds. -/
namespace Go.Proofs.YtnbnlhpleomaoaaGreat.Ev
open Go
/-- an assignment with a variable set -/
def tob (y v : Nat) (b : Bool) : Nat := if y.testBit v = b then y else if b then y + 2 ^ v else y - 2 ^ v
theorem tb_add (y v : Nat) : (y + 2 ^ v).testBit v = !y.testBit v := by
  rw [Nat.add_comm]
  exact Nat.testBit_two_pow_add_eq y v
theorem tb_ge {y v : Nat} (h : y.testBit v = true) : 2 ^ v ≤ y := Nat.ge_two_pow_of_testBit h
theorem tb_sub {y v : Nat} (h : 2 ^ v ≤ y) : (y - 2 ^ v).testBit v = !y.testBit v := by
  have := tb_add (y - 2 ^ v) v
  rw [Nat.sub_add_cancel h] at this
  rw [this, Bool.not_not]
/-- the bits below k whose place has bit v -/
def maskTo (v : Nat) : Nat → Nat
  | 0 => 0
  | k + 1 => if k.testBit v then maskTo v k ||| 2 ^ k else maskTo v k
theorem maskTo_bit (v j : Nat) : ∀ k, (maskTo v k).testBit j = (decide (j < k) && j.testBit v)
  | 0 => by simp [maskTo]
  | k + 1 => by
    unfold maskTo
    have ih := maskTo_bit v j k
    by_cases hk : k.testBit v = true
    · rw [if_pos hk, Nat.testBit_or, ih, Nat.testBit_two_pow]
      by_cases e : k = j
      · subst e; simp [hk]
      · by_cases l : j < k
        · simp [l, e, show j < k + 1 by omega]
        · simp [l, e, show ¬ j < k + 1 by omega]
    · rw [if_neg hk, ih]
      by_cases e : j = k
      · subst e; simp [hk]
      · by_cases l : j < k
        · simp [l, show j < k + 1 by omega]
        · simp [l, show ¬ j < k + 1 by omega]
theorem maskTo_lt (v : Nat) : ∀ k, k ≤ 64 → maskTo v k < U64
  | 0, _ => by
    show 0 < U64
    decide
  | k + 1, h => by
    unfold maskTo
    have ih := maskTo_lt v k (by omega)
    split
    · exact or_lt ih (pow_lt k (by omega))
    · exact ih
theorem low_add : ∀ v : Fin 6, ∀ j : Fin 64, j.1.testBit v.1 = false → j.1 + 2 ^ v.1 < 64 := by decide +kernel
/-- one word, a variable of its own fixed -/
def fixw (v : Nat) (b : Bool) (w : Nat) : Nat :=
  if b then (w &&& maskTo v 64) ||| (w &&& maskTo v 64) / 2 ^ (2 ^ v) else (w &&& (U64 - 1 - maskTo v 64)) ||| ((w &&& (U64 - 1 - maskTo v 64)) * 2 ^ (2 ^ v)) % U64
theorem fixw_bit {v j w : Nat} {b : Bool} (hv : v < 6) (hj : j < 64) (hw : w < U64) : (fixw v b w).testBit j = w.testBit (tob j v b) := by
  have hmk : ∀ i, (maskTo v 64).testBit i = (decide (i < 64) && i.testBit v) := fun i => maskTo_bit v i 64
  have hnm : ∀ i, (U64 - 1 - maskTo v 64).testBit i = (decide (i < 64) && !(i.testBit v)) := fun i => by
    rw [U64_pow, show 2 ^ 64 - 1 - maskTo v 64 = 2 ^ 64 - (maskTo v 64 + 1) by omega, Nat.testBit_two_pow_sub_succ (by have := maskTo_lt v 64 (Nat.le_refl _); rw [U64_pow] at this; exact this), hmk i]
    by_cases h : i < 64 <;> simp [h]
  have hw2 : ∀ i, 64 ≤ i → w.testBit i = false := fun i hi => by
    rw [U64_pow] at hw
    exact Nat.testBit_lt_two_pow (Nat.lt_of_lt_of_le hw (Nat.pow_le_pow_right (by omega) hi))
  unfold fixw tob
  generalize U64 - 1 - maskTo v 64 = nm at hnm ⊢
  cases b
  · simp only [Bool.false_eq_true, if_false]
    rw [Nat.testBit_or, Nat.testBit_and, hnm, U64_pow, Nat.testBit_mod_two_pow, ← Nat.shiftLeft_eq, Nat.testBit_shiftLeft, Nat.testBit_and, hnm]
    by_cases hb : j.testBit v = true
    · have hge := tb_ge hb
      have hs := tb_sub hge
      rw [hb] at hs
      rw [if_neg (by simp [hb]), hs]
      have hl : j - 2 ^ v < 64 := Nat.lt_of_le_of_lt (Nat.sub_le _ _) hj
      simp [hb, hj, hge]
      exact fun _ => hl
    · have hb' : j.testBit v = false := by simpa using hb
      rw [if_pos hb']
      by_cases hge : 2 ^ v ≤ j
      · have hs := tb_sub hge
        rw [hb'] at hs
        rw [hs]
        simp [hb', hj]
      · simp [hb', hj, hge]
  · simp only [if_true]
    rw [Nat.testBit_or, Nat.testBit_and, hmk, Nat.testBit_div_two_pow, Nat.testBit_and, hmk]
    have ha := tb_add j v
    by_cases hb : j.testBit v = true
    · rw [if_pos hb, ha, hb]
      simp [hj]
    · have hb' : j.testBit v = false := by simpa using hb
      have hlt : j + 2 ^ v < 64 := low_add ⟨v, hv⟩ ⟨j, hj⟩ hb'
      rw [if_neg hb, ha, hb']
      simp [hj, hlt]
end Go.Proofs.YtnbnlhpleomaoaaGreat.Ev
/- FUNCTIONS OF EIGHT VARIABLES as four words (package spinneyref3): Fix. Conditions: the words are in their bounds, the variable is one. -/
namespace Go.Proofs.YtnbnlhpleomaoaaGreat.Ev
open Go
def fixG (v : Nat) (b : Bool) (g : Nat → Nat) : Nat → Nat := if v < 6 then fun i => fixw v b (g i) else fun i => g (tob i (v - 6) b)
theorem tob_low : ∀ y : Fin 256, ∀ v : Fin 6, ∀ b : Bool, tob y.1 v.1 b / 64 = y.1 / 64 ∧ tob y.1 v.1 b % 64 = tob (y.1 % 64) v.1 b := by decide +kernel
theorem tob_high : ∀ y : Fin 256, ∀ v : Fin 2, ∀ b : Bool, tob y.1 (v.1 + 6) b / 64 = tob (y.1 / 64) v.1 b ∧ tob y.1 (v.1 + 6) b % 64 = y.1 % 64 := by decide +kernel
theorem tob_lt4 : ∀ i : Fin 4, ∀ v : Fin 2, ∀ b : Bool, tob i.1 v.1 b < 4 := by decide
theorem tob_lt : ∀ y : Fin 256, ∀ v : Fin 8, ∀ b : Bool, tob y.1 v.1 b < 256 := by decide +kernel
theorem fixG_fb {g : Nat → Nat} (hg : WOk g) {v y : Nat} {b : Bool} (hv : v < 8) (hy : y < 256) : fb (fixG v b g) y = fb g (tob y v b) := by
  unfold fb fixG
  by_cases h : v < 6
  · rw [if_pos h]
    have t := tob_low ⟨y, hy⟩ ⟨v, h⟩ b
    dsimp only at t
    rw [t.1, t.2]
    exact fixw_bit h (Nat.mod_lt _ (by omega)) (hg _ (by omega))
  · rw [if_neg h]
    have t := tob_high ⟨y, hy⟩ ⟨v - 6, by omega⟩ b
    dsimp only at t
    rw [show v - 6 + 6 = v by omega] at t
    rw [t.1, t.2]
theorem fixw_lt {v w : Nat} {b : Bool} (hw : w < U64) : fixw v b w < U64 := by
  unfold fixw
  have a : ∀ m, w &&& m < U64 := fun m => Nat.lt_of_le_of_lt Nat.and_le_left hw
  split
  · exact or_lt (a _) (Nat.lt_of_le_of_lt (Nat.div_le_self _ _) (a _))
  · exact or_lt (a _) (Nat.mod_lt _ (by decide))
theorem fixG_ok {g : Nat → Nat} (hg : WOk g) {v : Nat} {b : Bool} (hv : v < 8) : WOk (fixG v b g) := fun i hi => by
  unfold fixG
  by_cases h : v < 6
  · rw [if_pos h]; exact fixw_lt (hg i hi)
  · rw [if_neg h]
    exact hg _ (tob_lt4 ⟨i, hi⟩ ⟨v - 6, by omega⟩ b)
theorem bandN {a b : Nat} (ha : a < U64) (hb : b < U64) : bitsI .andNot .u64 (a : Int) (b : Int) = ((a &&& (U64 - 1 - b) : Nat) : Int) := by
  unfold bitsI
  show IntKind.wrap .u64 ((BitVec.ofInt 64 (a : Int) &&& ~~~ BitVec.ofInt 64 (b : Int)).toNat : Int) = _
  rw [BitVec.toNat_and, BitVec.toNat_not, ofInt_nat ha, ofInt_nat hb, ← U64_pow]
  exact wrapU (Nat.lt_of_le_of_lt Nat.and_le_left ha)
theorem wrow_ext {g g' : Nat → Nat} (h : ∀ i, i < 4 → g i = g' i) : wrow g = wrow g' := rowV_ext fun i hi => by rw [h i hi]
def fxTo (v : Nat) (b : Bool) (g : Nat → Nat) (i : Nat) : Nat → Nat := fun j => if j < i then fixw v b (g j) else g j
theorem and_bitF : ∀ x : Fin 64, ∀ v : Fin 6, (x.1 &&& 2 ^ v.1 != 0) = x.1.testBit v.1 := by decide +kernel
theorem and_bit {x v : Nat} (hx : x < 64) (hv : v < 6) : (bitsI .and .u64 (x : Int) ((2 ^ v : Nat) : Int) != 0) = x.testBit v := by
  have h2 : 2 ^ v < U64 := pow_lt v (by omega)
  have e := and_bitF ⟨x, hx⟩ ⟨v, hv⟩
  dsimp only at e
  rw [band (by unfold U64; omega) h2, ← e]
  generalize x &&& 2 ^ v = z
  cases z with
  | zero => rfl
  | succ n => 
    rw [show ((n + 1 : Nat) != 0) = true from rfl]
    simp only [bne_iff_ne, ne_eq]
    omega
theorem pow_v : ∀ v : Fin 6, 2 ^ v.1 < 64 := by decide
set_option maxRecDepth 100000 in
theorem fix_low {h : Heap} {b1 b3 v : Nat} {b : Bool} {g g0 : Nat → Nat} {K : Value → Heap → Prop} (hg : WOk g) (hv : v < 6) (A : At h b1 (wrow g)) (C : At h b3 (wrow g0)) (hne : b1 ≠ b3)
    (hK : ∀ h', Only [b1, b3] h h' → K (aggW (fixG v b g)) h') : F34.wk14 v b ⟨b1, 0, none⟩ ⟨b3, 0, none⟩ h K := by
  have pv := pow_v ⟨v, hv⟩
  dsimp only at pv
  unfold F34.wk14 F34.Jk14
  rw [wrapU (a := v) (by unfold U64; omega), min64 (by omega), show (1 : Int) * 2 ^ v = ((2 ^ v : Nat) : Int) by simp, wrapU (pow_lt v (by omega))]
  refine ⟨by omega, ?_⟩
  unfold F34.wk16 F34.Jk16
  have m64 := maskTo_lt v 64 (Nat.le_refl _)
  have words : ∀ (d i : Nat) (h' : Heap), i + d = 4 → At h' b1 (wrow (fxTo v b g i)) → At h' b3 (wrow g0) → Only [b1, b3] h h' → F34.wL21 (d + 1) b ⟨b1, 0, none⟩ ⟨b3, 0, none⟩ ((maskTo v 64 : Nat) : Int) ((2 ^ v : Nat) : Int) i h' K := by
    intro d
    induction d with
    | zero =>
      intro i h' hd A C O
      unfold F34.wL21 F34.JL21
      rw [show decide ((i : Int) < 4) = false by simp; omega, bcase_false]
      have hi : i = 4 := by omega
      subst hi
      have e : wrow (fxTo v b g 4) = wrow (fixG v b g) := wrow_ext fun j hj => by
        unfold fxTo fixG
        rw [if_pos hj, if_pos hv]
      rw [e] at A
      exact copy4 A C hne fun h'' O'' => hK h'' (O.trans O'' (by intro b hb _; simp at hb; simp [hb]))
    | succ d ih =>
      intro i h' hd A C O
      unfold F34.wL21 F34.JL21
      have hi : i < 4 := by omega
      rw [show decide ((i : Int) < 4) = true by simp; omega, bcase_true, show IntKind.wrap .i64 ((i : Int) + 1) = ((i + 1 : Nat) : Int) by rw [wrap_i64 (by omega) (by omega)]; omega]
      have e0 : fxTo v b g i i = g i := if_neg (by omega)
      have nxt : ∀ h'', At h'' b1 (wrow fun j => if j = i then fixw v b (g i) else fxTo v b g i j) → Only [b1] h' h'' → F34.wL21 (d + 1) b ⟨b1, 0, none⟩ ⟨b3, 0, none⟩ ((maskTo v 64 : Nat) : Int) ((2 ^ v : Nat) : Int) ((i + 1 : Nat) : Int) h'' K := fun h'' A'' O'' => by
        refine ih (i + 1) h'' (by omega) ?_ (C.only O'' (by simpa using Ne.symm hne)) (O.trans O'' (by intro b hb _; simp at hb; simp [hb]))
        have e : (fun j => if j = i then fixw v b (g i) else fxTo v b g i j) = fxTo v b g (i + 1) := by
          funext j
          unfold fxTo
          by_cases hj : j = i
          · subst hj; rw [if_pos rfl, if_pos (by omega)]
          · rw [if_neg hj]
            by_cases hl : j < i
            · rw [if_pos hl, if_pos (by omega)]
            · rw [if_neg hl, if_neg (by omega)]
        rw [e] at A''
        exact A''
      have gi := hg i hi
      have mm : min (Int.toNat ((2 ^ v : Nat) : Int)) (IntKind.bits .u64) = 2 ^ v := min64 pv
      rw [mm]
      refine bcase_of (fun hb => ?_) fun hb => ?_
      · subst hb
        refine ⟨by omega, by omega, ?_⟩
        rw [add_mk, show 0 + Int.toNat (i : Int) * 1 = i by omega, wr_rd A hi, ldI_some, e0]
        refine ⟨by omega, by omega, by omega, ?_⟩
        have am : g i &&& maskTo v 64 < U64 := Nat.lt_of_le_of_lt Nat.and_le_left gi
        rw [add_mk, Nat.add_zero, band gi m64, show ((2 : Int) ^ (2 ^ v)) = ((2 ^ (2 ^ v) : Nat) : Int) by simp, Int.fdiv_eq_ediv_of_nonneg _ (Int.natCast_nonneg _), show ((g i &&& maskTo v 64 : Nat) : Int) / ((2 ^ (2 ^ v) : Nat) : Int) = (((g i &&& maskTo v 64) / 2 ^ (2 ^ v) : Nat) : Int) from rfl,
          bor am (Nat.lt_of_le_of_lt (Nat.div_le_self _ _) am)]
        exact wr_st A hi fun h'' A'' O'' => nxt h'' A'' O''
      · subst hb
        refine ⟨by omega, by omega, ?_⟩
        rw [add_mk, show 0 + Int.toNat (i : Int) * 1 = i by omega, wr_rd A hi, ldI_some, e0]
        refine ⟨by omega, by omega, by omega, ?_⟩
        have am : g i &&& (U64 - 1 - maskTo v 64) < U64 := Nat.lt_of_le_of_lt Nat.and_le_left gi
        rw [add_mk, Nat.add_zero, bandN gi m64, show ((g i &&& (U64 - 1 - maskTo v 64) : Nat) : Int) * (2 : Int) ^ (2 ^ v) = (((g i &&& (U64 - 1 - maskTo v 64)) * 2 ^ (2 ^ v) : Nat) : Int) by simp,
          show IntKind.wrap .u64 ((((g i &&& (U64 - 1 - maskTo v 64)) * 2 ^ (2 ^ v) : Nat) : Int)) = ((((g i &&& (U64 - 1 - maskTo v 64)) * 2 ^ (2 ^ v)) % U64 : Nat) : Int) by
            simp only [IntKind.wrap, IntKind.bits, IntKind.signed]
            rfl,
          bor am (Nat.mod_lt _ (by decide))]
        exact wr_st A hi fun h'' A'' O'' => nxt h'' A'' O''
  have mask : ∀ (d k : Nat), k + d = 64 → F34.wL16 (d + 1) b ⟨b1, 0, none⟩ ⟨b3, 0, none⟩ ((maskTo v k : Nat) : Int) ((2 ^ v : Nat) : Int) k h K := by
    intro d
    induction d with
    | zero =>
      intro k hd
      unfold F34.wL16 F34.JL16
      rw [show decide ((k : Int) < 64) = false by simp; omega, bcase_false]
      have hk : k = 64 := by omega
      subst hk
      unfold F34.wk20 F34.Jk20 F34.wk21 F34.Jk21
      have e : fxTo v b g 0 = g := by funext j; unfold fxTo; rw [if_neg (by omega)]
      exact ⟨_, words 4 0 h (by omega) (by rw [e]; exact A) C (Only.refl _ _)⟩
    | succ d ih =>
      intro k hd
      have nx := ih (k + 1) (by omega)
      have hk : k < 64 := by omega
      unfold F34.wL16 F34.JL16
      rw [show decide ((k : Int) < 64) = true by simp; omega, bcase_true, and_bit hk hv, show IntKind.wrap .u64 ((k : Int) + 1) = ((k + 1 : Nat) : Int) from wrapU (a := k + 1) (by unfold U64; omega)]
      unfold maskTo at nx
      refine bcase_of (fun hb => ?_) fun hb => ?_
      · rw [if_pos hb] at nx
        refine ⟨by omega, ?_⟩
        rw [min64 hk, show (1 : Int) * 2 ^ k = ((2 ^ k : Nat) : Int) by simp, wrapU (pow_lt k hk), bor (maskTo_lt v k (by omega)) (pow_lt k hk)]
        exact nx
      · rw [if_neg (by rw [hb]; simp)] at nx
        exact nx
  exact ⟨_, mask 64 0 (by omega)⟩
end Go.Proofs.YtnbnlhpleomaoaaGreat.Ev
/- FUNCTIONS OF EIGHT VARIABLES as four words (package spinneyref3): Fix of the two high variables, and Fix whole. Conditions: the words are in their bounds. -/
namespace Go.Proofs.YtnbnlhpleomaoaaGreat.Ev
open Go
def hiTo (u : Nat) (b : Bool) (g : Nat → Nat) (i : Nat) : Nat → Nat := fun j => if tob j u false < i then g (tob j u b) else g j
theorem hi_and : ∀ i : Fin 4, ∀ u : Fin 2, (bitsI .and .i64 ((i.1 : Nat) : Int) ((2 ^ u.1 : Nat) : Int) == 0) = !i.1.testBit u.1 := by decide +kernel
theorem hi_or : ∀ i : Fin 4, ∀ u : Fin 2, i.1.testBit u.1 = false → bitsI .or .i64 ((i.1 : Nat) : Int) ((2 ^ u.1 : Nat) : Int) = ((i.1 + 2 ^ u.1 : Nat) : Int) ∧ i.1 + 2 ^ u.1 < 4 ∧ tob i.1 u.1 true = i.1 + 2 ^ u.1 ∧ tob i.1 u.1 false = i.1 ∧ tob (i.1 + 2 ^ u.1) u.1 false = i.1 ∧ i.1 < i.1 + 2 ^ u.1 := by decide +kernel
theorem hi_one : ∀ i : Fin 4, ∀ u : Fin 2, i.1.testBit u.1 = true → ∀ j : Fin 4, ¬ tob j.1 u.1 false = i.1 := by decide +kernel
theorem hi_two : ∀ i : Fin 4, ∀ u : Fin 2, i.1.testBit u.1 = false → ∀ j : Fin 4, tob j.1 u.1 false = i.1 ↔ j.1 = i.1 + 2 ^ u.1 ∨ j.1 = i.1 := by decide +kernel
theorem hi_par : ∀ i : Fin 4, ∀ u : Fin 2, i.1.testBit u.1 = false → ∀ b : Bool, tob (i.1 + 2 ^ u.1) u.1 b = tob i.1 u.1 b := by decide +kernel
theorem hi_step1 {u : Nat} {b : Bool} {g : Nat → Nat} {i : Nat} (hi : i < 4) (hu : u < 2) (ht : i.testBit u = true) : ∀ j, j < 4 → hiTo u b g i j = hiTo u b g (i + 1) j := fun j hj => by
  have e := hi_one ⟨i, hi⟩ ⟨u, hu⟩ ht ⟨j, hj⟩
  dsimp only at e
  unfold hiTo
  by_cases hl : tob j u false < i
  · rw [if_pos hl, if_pos (by omega)]
  · rw [if_neg hl, if_neg (by omega)]
theorem hi_step2 {u : Nat} {b : Bool} {g : Nat → Nat} {i : Nat} (hi : i < 4) (hu : u < 2) (ht : i.testBit u = false) : ∀ j, j < 4 →
    (if j = i + 2 ^ u then g (tob i u b) else if j = i then g (tob i u b) else hiTo u b g i j) = hiTo u b g (i + 1) j := fun j hj => by
  have e := hi_two ⟨i, hi⟩ ⟨u, hu⟩ ht ⟨j, hj⟩
  have p := hi_par ⟨i, hi⟩ ⟨u, hu⟩ ht b
  dsimp only at e p
  unfold hiTo
  by_cases h1 : j = i + 2 ^ u
  · rw [if_pos h1, if_pos (by rw [e.2 (.inl h1)]; omega), h1, p]
  · rw [if_neg h1]
    by_cases h2 : j = i
    · rw [if_pos h2, if_pos (by rw [e.2 (.inr h2)]; omega), h2]
    · rw [if_neg h2]
      have ne : tob j u false ≠ i := fun h => by rcases e.1 h with h | h; exact h1 h; exact h2 h
      by_cases hl : tob j u false < i
      · rw [if_pos hl, if_pos (by omega)]
      · rw [if_neg hl, if_neg (by omega)]
theorem hi_done : ∀ j : Fin 4, ∀ u : Fin 2, tob j.1 u.1 false < 4 := by decide
theorem fix_high {h : Heap} {b1 b3 u : Nat} {b : Bool} {g g0 : Nat → Nat} {K : Value → Heap → Prop} (hu : u < 2) (A : At h b1 (wrow g)) (C : At h b3 (wrow g0)) (hne : b1 ≠ b3)
    (hK : ∀ h', Only [b1, b3] h h' → K (aggW (fixG (u + 6) b g)) h') : F34.wk6 b ⟨b1, 0, none⟩ ⟨b3, 0, none⟩ ((2 ^ u : Nat) : Int) 0 h K := by
  unfold F34.wk6 F34.Jk6
  have words : ∀ (d i : Nat) (h' : Heap), i + d = 4 → At h' b1 (wrow (hiTo u b g i)) → At h' b3 (wrow g0) → Only [b1, b3] h h' → F34.wL6 (d + 1) b ⟨b1, 0, none⟩ ⟨b3, 0, none⟩ ((2 ^ u : Nat) : Int) i h' K := by
    intro d
    induction d with
    | zero =>
      intro i h' hd A C O
      unfold F34.wL6 F34.JL6
      rw [show decide ((i : Int) < 4) = false by simp; omega, bcase_false]
      have hi : i = 4 := by omega
      subst hi
      have e : wrow (hiTo u b g 4) = wrow (fixG (u + 6) b g) := wrow_ext fun j hj => by
        unfold hiTo fixG
        rw [if_pos (hi_done ⟨j, hj⟩ ⟨u, hu⟩), if_neg (by omega), show u + 6 - 6 = u by omega]
      rw [e] at A
      exact copy4 A C hne fun h'' O'' => hK h'' (O.trans O'' (by intro b hb _; simp at hb; simp [hb]))
    | succ d ih =>
      intro i h' hd A C O
      unfold F34.wL6 F34.JL6
      have hi : i < 4 := by omega
      have ea := hi_and ⟨i, hi⟩ ⟨u, hu⟩
      dsimp only at ea
      have ew : IntKind.wrap .i64 ((i : Int) + 1) = ((i + 1 : Nat) : Int) := by rw [wrap_i64 (by omega) (by omega)]; omega
      rw [show decide ((i : Int) < 4) = true by simp; omega, bcase_true, ea]
      cases ht : i.testBit u with
      | true =>
        rw [show (!true) = false from rfl, bcase_false, ew]
        exact ih (i + 1) h' (by omega) (by rw [wrow_ext (g' := hiTo u b g i) fun j hj => (hi_step1 hi hu ht j hj).symm]; exact A) C O
      | false =>
        obtain ⟨eo, o4, tt, tf, tp, lt⟩ := hi_or ⟨i, hi⟩ ⟨u, hu⟩ ht
        dsimp only at eo o4 tt tf tp lt
        rw [show (!false) = true from rfl, bcase_true]
        have e1 : hiTo u b g i i = g i := if_neg (by omega)
        have e2 : hiTo u b g i (i + 2 ^ u) = g (i + 2 ^ u) := if_neg (by omega)
        have st : F34.wk12 (fun x2 x3 x6 x7 x8 h => F34.wL6 (d + 1) x2 x3 x6 x7 x8 h K) b ⟨b1, 0, none⟩ ⟨b3, 0, none⟩ ((2 ^ u : Nat) : Int) i ((g (tob i u b) : Nat) : Int) h' K := by
          unfold F34.wk12 F34.Jk12
          refine ⟨by omega, by omega, ?_⟩
          rw [add_mk, add_mk, show 0 + Int.toNat (i : Int) * 1 + 0 = i by omega]
          refine wr_st A hi fun h1 A1 O1 => ?_
          rw [eo]
          refine ⟨by omega, by omega, ?_⟩
          rw [add_mk, add_mk, show 0 + Int.toNat ((i + 2 ^ u : Nat) : Int) * 1 + 0 = i + 2 ^ u by omega]
          refine wr_st A1 o4 fun h2 A2 O2 => ?_
          rw [ew]
          have O12 : Only [b1] h' h2 := O1.trans O2 (by intro b hb _; exact hb)
          refine ih (i + 1) h2 (by omega) ?_ (C.only O12 (by simpa using Ne.symm hne)) (O.trans O12 (by intro b hb _; simp at hb; simp [hb]))
          rw [wrow_ext (hi_step2 hi hu ht)] at A2
          exact A2
        refine ⟨by omega, by omega, ?_⟩
        rw [add_mk, show 0 + Int.toNat (i : Int) * 1 = i by omega, wr_rd A hi, ldI_some, e1]
        cases b with
        | true =>
          rw [bcase_true, eo]
          refine ⟨by omega, by omega, ?_⟩
          rw [add_mk, show 0 + Int.toNat ((i + 2 ^ u : Nat) : Int) * 1 = i + 2 ^ u by omega, wr_rd A o4, ldI_some, e2]
          rw [tt] at st
          exact st
        | false =>
          rw [bcase_false]
          rw [tf] at st
          exact st
  have e : hiTo u b g 0 = g := by funext j; unfold hiTo; rw [if_neg (by omega)]
  exact ⟨_, words 4 0 h (by omega) (by rw [e]; exact A) C (Only.refl _ _)⟩
def fixA (v : Int) (b : Bool) (g : Nat → Nat) : Nat → Nat := if 0 ≤ v ∧ v < 8 then fixG v.toNat b g else g
set_option maxRecDepth 100000 in
theorem fix34 {h : Heap} {v : Int} {b : Bool} {g : Nat → Nat} {K : Value → Heap → Prop} (hg : WOk g)
    (hK : ∀ h', Only [] h h' → K (aggW (fixA v b g)) h') : CallsH Tryz.prog 34 [aggW g, .int .i64 v, .bool b] h K := by
  refine F34.spec _ _ _ _ _ _ h K ?_
  unfold F34.w F34.J0
  refine newK_at fun h1 A1 O1 z1 => newK_at fun h2 A2 O2 z2 => ?_
  replace A1 : At h1 h.size (wrow g) := A1
  replace A2 : At h2 h1.size (wrow fun _ => 0) := A2
  have B1 := A1.only O2 (by simp)
  have hne : h.size ≠ h1.size := by omega
  have O02 : Only [] h h2 := O1.trans O2 (by simp)
  have fin : ∀ {g'}, g' = fixA v b g → ∀ h', Only [h1.size] h2 h' → K (aggW g') h' := fun e h' O => by
    subst e
    exact hK h' (O02.trans O (by intro b hb hlt; simp at hb; omega))
  have fin2 : ∀ {g'}, g' = fixA v b g → ∀ h', Only [h.size, h1.size] h2 h' → K (aggW g') h' := fun e h' O => by
    subst e
    exact hK h' (O02.trans O (by intro b hb hlt; simp at hb; omega))
  refine bcase_of (fun hb => ?_) fun hb => ?_
  · have hb := of_decide_eq_true hb
    exact copy4 B1 A2 hne (fin (by unfold fixA; rw [if_neg (by omega)]))
  have hb := of_decide_eq_false hb
  refine bcase_of (fun hb => ?_) fun hb => ?_
  · have hb := of_decide_eq_true hb
    exact copy4 B1 A2 hne (fin (by unfold fixA; rw [if_neg (by omega)]))
  have hb' := of_decide_eq_false hb
  obtain ⟨n, rfl⟩ : ∃ n : Nat, v = n := ⟨v.toNat, by omega⟩
  have en : fixA (n : Int) b g = fixG n b g := by
    unfold fixA
    rw [if_pos ⟨by omega, by omega⟩, Int.toNat_natCast]
  refine bcase_of (fun hc => ?_) fun hc => ?_
  · have hc := of_decide_eq_true hc
    have hu : n - 6 < 2 := by omega
    have e6 : IntKind.wrap .u64 (IntKind.wrap .i64 ((n : Int) - 6)) = ((n - 6 : Nat) : Int) := by
      rw [wrap_i64 (by omega) (by omega), show (n : Int) - 6 = ((n - 6 : Nat) : Int) by omega]
      exact wrapU (by unfold U64; omega)
    rw [e6]
    refine ⟨by omega, ?_⟩
    have ep : ∀ u : Fin 2, IntKind.wrap .i64 (1 * 2 ^ (min (Int.toNat ((u.1 : Nat) : Int)) (IntKind.bits .i64))) = ((2 ^ u.1 : Nat) : Int) := by decide +kernel
    have ep := ep ⟨n - 6, hu⟩
    dsimp only at ep
    rw [ep]
    exact fix_high hu B1 A2 hne (fin2 (by rw [en, show n - 6 + 6 = n by omega]))
  · have hc := of_decide_eq_false hc
    exact fix_low hg (by omega) B1 A2 hne (fin2 en.symm)
end Go.Proofs.YtnbnlhpleomaoaaGreat.Ev
/- FUNCTIONS OF EIGHT VARIABLES as four words (package spinneyref3): Trim, Var and Count. Conditions: the words are in their bounds. -/
namespace Go.Proofs.YtnbnlhpleomaoaaGreat.Ev
open Go
def clr (n k y : Nat) : Nat := y % 2 ^ n + y / 2 ^ k * 2 ^ k
theorem clr_step : ∀ y : Fin 256, ∀ n : Fin 8, ∀ k : Fin 8, n.1 ≤ k.1 → clr n.1 (k.1 + 1) y.1 = clr n.1 k.1 (tob y.1 k.1 false) := by decide +kernel
theorem clr_self (n y : Nat) : clr n n y = y := by unfold clr; rw [Nat.mul_comm]; exact Nat.mod_add_div y (2 ^ n)
theorem clr_8 {n y : Nat} (hy : y < 256) : clr n 8 y = y % 2 ^ n := by
  unfold clr
  rw [show (2 : Nat) ^ 8 = 256 by rfl, Nat.div_eq_of_lt hy]
  omega
theorem wr_put {h : Heap} {b : Nat} {g0 g : Nat → Nat} {K : Heap → Prop} (A : At h b (wrow g0)) (hK : ∀ h', At h' b (wrow g) → Only [b] h h' → K h') :
    stK h (Addr.add ⟨b, 0, none⟩ 0) (.int .u64 ((g 0 : Nat) : Int)) fun h1 => stK h1 (Addr.add ⟨b, 0, none⟩ 1) (.int .u64 ((g 1 : Nat) : Int)) fun h2 => stK h2 (Addr.add ⟨b, 0, none⟩ 2) (.int .u64 ((g 2 : Nat) : Int)) fun h3 => stK h3 (Addr.add ⟨b, 0, none⟩ 3) (.int .u64 ((g 3 : Nat) : Int)) K := by
  simp only [add_mk, Nat.zero_add]
  exact wr_st A (by decide) fun h1 C1 O1 => wr_st C1 (by decide) fun h2 C2 O2 => wr_st C2 (by decide) fun h3 C3 O3 => wr_st C3 (by decide) fun h4 C4 O4 =>
    hK h4 C4 (((O1.trans O2 (by simp)).trans O3 (by simp)).trans O4 (by simp))
set_option maxRecDepth 100000 in
theorem trim12 {h : Heap} {v : Int} {g : Nat → Nat} {K : Value → Heap → Prop} (hg : WOk g)
    (hK : ∀ h' g', WOk g' → (∀ y, y < 256 → fb g' y = fb g (y % 2 ^ v.toNat)) → Only [] h h' → K (aggW g') h') : CallsH Tryz.prog 12 [aggW g, .int .i64 v] h K := by
  refine F12.spec _ _ _ _ _ h K ?_
  unfold F12.w F12.J0
  refine newK_at fun h1 A1 O1 z1 => newK_at fun h2 A2 O2 z2 => ?_
  replace A1 : At h1 h.size (wrow g) := A1
  replace A2 : At h2 h1.size (wrow fun _ => 0) := A2
  have B1 := A1.only O2 (by simp)
  have hne : h.size ≠ h1.size := by omega
  have O02 : Only [] h h2 := O1.trans O2 (by simp)
  obtain ⟨n, en⟩ : ∃ n : Nat, v.toNat = n := ⟨_, rfl⟩
  have e0 : (if (0 : Int) > v then (0 : Int) else v) = (n : Int) := by split <;> omega
  rw [e0]
  rw [en] at hK
  unfold F12.wk2 F12.Jk2
  have fin : ∀ (m k : Nat) (g' : Nat → Nat) (h' : Heap), 8 ≤ k → WOk g' → (∀ y, y < 256 → fb g' y = fb g (y % 2 ^ n)) → At h' h.size (wrow g') → At h' h1.size (wrow fun _ => 0) → Only [] h h' →
      F12.wL2 (m + 1) ⟨h.size, 0, none⟩ ⟨h1.size, 0, none⟩ k h' K := by
    intro m k g' h' hk hg' hf A C O
    unfold F12.wL2 F12.JL2
    rw [show decide ((k : Int) < 8) = false by simp; omega, bcase_false]
    exact copy4 A C hne fun h'' O'' => hK h'' g' hg' hf (O.trans O'' (by intro b hb hlt; simp at hb; omega))
  by_cases h8 : 8 ≤ n
  · refine ⟨1, fin 0 n g h2 h8 hg (fun y hy => ?_) B1 A2 O02⟩
    have : 2 ^ 8 ≤ 2 ^ n := Nat.pow_le_pow_right (by omega) h8
    rw [Nat.mod_eq_of_lt (by omega)]
  have main : ∀ (d k : Nat) (g' : Nat → Nat) (h' : Heap), k + d = 8 → n ≤ k → WOk g' → (∀ y, y < 256 → fb g' y = fb g (clr n k y)) → At h' h.size (wrow g') → At h' h1.size (wrow fun _ => 0) → Only [] h h' →
      F12.wL2 (d + 1) ⟨h.size, 0, none⟩ ⟨h1.size, 0, none⟩ k h' K := by
    intro d
    induction d with
    | zero =>
      intro k g' h' hd hn hg' hf A C O
      have hk : k = 8 := by omega
      subst hk
      exact fin 0 8 g' h' (by omega) hg' (fun y hy => by rw [hf y hy, clr_8 hy]) A C O
    | succ d ih =>
      intro k g' h' hd hn hg' hf A C O
      unfold F12.wL2 F12.JL2
      rw [show decide ((k : Int) < 8) = true by simp; omega, bcase_true, show IntKind.wrap .i64 ((k : Int) + 1) = ((k + 1 : Nat) : Int) by rw [wrap_i64 (by omega) (by omega)]; omega]
      have r : ∀ i, i < 4 → rd h' (Addr.add ⟨h.size, 0, none⟩ i) = some (.int .u64 (g' i : Int)) := fun i hi => by rw [add_mk, Nat.zero_add]; exact wr_rd A hi
      rw [r 0 (by decide), ldI_some, r 1 (by decide), ldI_some, r 2 (by decide), ldI_some, r 3 (by decide), ldI_some]
      have ef : fixA (k : Int) false g' = fixG k false g' := by
        unfold fixA
        rw [if_pos ⟨by omega, by omega⟩, Int.toNat_natCast]
      refine fix34 hg' fun h3 O3 => ?_
      rw [ef]
      refine ⟨_, _, _, _, rfl, ?_⟩
      refine wr_put (A.only O3 (by simp)) fun h4 A4 O4 => ?_
      have O24 : Only [h.size] h' h4 := ((Only.refl [h.size] h').trans O3 (by simp)).trans O4 (by simp)
      refine ih (k + 1) _ h4 (by omega) (by omega) (fixG_ok hg' (by omega)) (fun y hy => ?_) A4 (C.only O24 (by simp; omega)) (O.trans O24 (by intro b hb hlt; simp at hb; omega))
      rw [fixG_fb hg' (by omega) hy, hf _ (tob_lt ⟨y, hy⟩ ⟨k, by omega⟩ false)]
      have e := clr_step ⟨y, hy⟩ ⟨n, by omega⟩ ⟨k, by omega⟩ hn
      dsimp only at e
      rw [e]
  exact ⟨_, main (8 - n) n g h2 (by omega) (Nat.le_refl _) hg (fun y _ => by rw [clr_self]) B1 A2 O02⟩
theorem bit_and : ∀ y : Fin 256, ∀ v : Fin 8, (bitsI .and .i64 (Int.fdiv ((y.1 : Nat) : Int) (2 ^ (min (Int.toNat (IntKind.wrap .u64 ((v.1 : Nat) : Int))) (IntKind.bits .i64)))) 1 == 1) = y.1.testBit v.1 := by decide +kernel
set_option maxRecDepth 100000 in
theorem var28 {h : Heap} {v : Int} {K : Value → Heap → Prop}
    (hK : ∀ h' g, WOk g → (∀ y, y < 256 → fb g y = (decide (0 ≤ v ∧ v < 8) && y.testBit v.toNat)) → Only [] h h' → K (aggW g) h') : CallsH Tryz.prog 28 [.int .i64 v] h K := by
  refine F28.spec _ h K ?_
  unfold F28.w F28.J0
  refine newK_at fun h1 A1 O1 z1 => newK_at fun h2 A2 O2 z2 => ?_
  replace A1 : At h1 h.size (wrow fun _ => 0) := A1
  replace A2 : At h2 h1.size (wrow fun _ => 0) := A2
  have B1 := A1.only O2 (by simp)
  have hne : h1.size ≠ h.size := by omega
  refine wr_put (g := fun _ => 0) A2 fun h3 A3 O3 => ?_
  have B3 := B1.only O3 (by simp; omega)
  have O03 : Only [] h h3 := (O1.trans O2 (by simp)).trans O3 (by intro b hb hlt; simp at hb; omega)
  unfold F28.wk3 F28.Jk3
  by_cases hv : 0 ≤ v ∧ v < 8
  · obtain ⟨n, rfl⟩ : ∃ n : Nat, v = n := ⟨v.toNat, by omega⟩
    have hn : n < 8 := by omega
    have main : ∀ (d k : Nat) (g : Nat → Nat) (h' : Heap), k + d = 256 → WOk g → (∀ y, y < 256 → fb g y = (y.testBit n && decide (y < k))) → At h' h1.size (wrow g) → At h' h.size (wrow fun _ => 0) → Only [] h h' →
        F28.wL3 (d + 1) n ⟨h.size, 0, none⟩ ⟨h1.size, 0, none⟩ k h' K := by
      intro d
      induction d with
      | zero =>
        intro k g h' hd hg hf A C O
        unfold F28.wL3 F28.JL3
        rw [show decide ((k : Int) < 256) = false by simp; omega, bcase_false]
        refine copy4 A C hne fun h'' O'' => hK h'' g hg (fun y hy => ?_) (O.trans O'' (by intro b hb hlt; simp at hb; omega))
        rw [hf y hy, decide_eq_true (by omega), Bool.and_true, decide_eq_true hv, Bool.true_and, Int.toNat_natCast]
      | succ d ih =>
        intro k g h' hd hg hf A C O
        unfold F28.wL3 F28.JL3
        have e := bit_and ⟨k, by omega⟩ ⟨n, hn⟩
        dsimp only at e
        rw [show decide ((k : Int) < 256) = true by simp; omega, bcase_true, show decide ((n : Int) ≥ 0) = true by simp, bcase_true, show decide ((n : Int) < 8) = true by simp; omega, bcase_true, e,
          wrap8 (by omega), show IntKind.wrap .i64 ((k : Int) + 1) = ((k + 1 : Nat) : Int) by rw [wrap_i64 (by omega) (by omega)]; omega, wrapU (a := n) (by unfold U64; omega)]
        refine ⟨by omega, ?_⟩
        refine set51 A hg (by omega) fun h'' A'' O'' => ⟨rfl, ih (k + 1) _ h'' (by omega) (sbit_ok hg) (fun y hy => ?_) A'' (C.only O'' (by simp; omega)) (O.trans O'' (by intro b hb hlt; simp at hb; omega))⟩
        rw [sbit_fb, hf y hy]
        by_cases e : y = k
        · subst e; simp
        · by_cases l : y < k
          · simp [e, l, show y < k + 1 by omega]
          · simp [e, l, show ¬ y < k + 1 by omega]
    exact ⟨_, main 256 0 _ h3 rfl (fun _ _ => by decide) (fun y _ => by rw [zero_fb]; simp) A3 B3 O03⟩
  · refine ⟨1, ?_⟩
    unfold F28.wL3 F28.JL3
    rw [show decide ((0 : Int) < 256) = true by decide, bcase_true]
    have out : ∀ h', Only [h.size] h3 h' → K (aggW fun _ => 0) h' := fun h' O => hK h' _ (fun _ _ => by decide) (fun y _ => by rw [zero_fb, decide_eq_false hv, Bool.false_and]) (O03.trans O (by intro b hb hlt; simp at hb; omega))
    refine bcase_of (fun hb => ?_) fun hb => ?_
    · have hb := of_decide_eq_true hb
      rw [decide_eq_false (by omega), bcase_false]
      exact copy4 A3 B3 hne out
    · exact copy4 A3 B3 hne out
end Go.Proofs.YtnbnlhpleomaoaaGreat.Ev
/- PRINTED BY PROGRAM: what each of these functions does, computed over heaps by the evaluator, and that its calls do so. Conditions: none. -/
namespace Go.Proofs.YtnbnlhpleomaoaaGreat.Ev
open Go
-- spinney/order.New
namespace F29
def T : Hint := ⟨[(3, [3, 13, 14])], [(5, [[(0, []), (1, []), (2, []), (3, []), (4, []), (5, []), (6, []), (7, []), (8, []), (10, []), (11, []), (9, [2, 3, 5, 10, 11]), (12, []), (13, [])]])]⟩
noncomputable def body : Code := (Tryz.f29.body).getD .skip
noncomputable def en (S : Stop) (p : List Nat) (κ : XK) : Fr → Heap → Prop := E Tryz.prog X T S (sub body p) κ
noncomputable def ln (S : Stop) (p : List Nat) (κ : XK) (n : Nat) : Fr → Heap → Prop := loopN S (E Tryz.prog X T S (sub body p)) (cutQ T (sub body p)) κ n
def fn (K : KK) : XK := fin Tryz.prog Tryz.f29.results.toList K
noncomputable def c0 (S : Stop) (K : KK) : XK := seqN S (cutQ T (sub body [1, 1, 1])) (en S [1, 1, 1] (fn K)) (fn K)
noncomputable def c1 (S : Stop) (K : KK) : XK := blockN 0 (c0 S K)
noncomputable def c2 (S : Stop) (n3 : Nat) (K : KK) : XK := backN S (cutQ T (sub body [1, 1, 0, 1, 0, 0])) (ln S [1, 1, 0, 1, 0, 0] (c1 S K) n3) (c1 S K)
def f3 (x3 : Addr) (x13 x14 : Int) : Fr := [(3, (.pointer (some x3))), (13, (.int .i64 x13)), (14, (.int .i64 x14))]
def J0 (k3 : Addr → Int → Int → Heap → Prop) (x0 : Int) (h : Heap) (_K : KK) : Prop :=
  newK h (.cells #[(.int .i64 (if (8 : Int) < (if (1 : Int) > x0 then (1 : Int) else x0) then (8 : Int) else (if (1 : Int) > x0 then (1 : Int) else x0))), (.int .i64 (0 : Int)), (.int .i64 (0 : Int)), (.int .i64 (0 : Int)), (.int .i64 (0 : Int)), (.int .i64 (0 : Int)), (.int .i64 (0 : Int)), (.int .i64 (0 : Int)), (.int .i64 (0 : Int)), (.int .i64 (0 : Int)), (.int .i64 (0 : Int)), (.int .i64 (0 : Int)), (.int .i64 (0 : Int)), (.int .i64 (0 : Int)), (.int .i64 (0 : Int)), (.int .i64 (0 : Int)), (.int .i64 (0 : Int))] 111) (fun b1 h2 => ldI .i64 (rd h2 (Addr.add (Addr.mk b1 0 none) 0)) (fun n3 => k3 (Addr.mk b1 0 none) n3 (0 : Int) h2))
theorem E0 (S : Stop) (x0 : Int) (h : Heap) (K : KK) : (E Tryz.prog X T S body (fin Tryz.prog Tryz.f29.results.toList K) (args0 0 [(.int .i64 x0)]) h) = J0 (fun x3 x13 x14 h => S (en S [1, 1, 0, 1] (c0 S K)) (f3 x3 x13 x14) h) x0 h K := by kernel_rfl
def Jk3 (lp3 : Addr → Int → Int → Heap → Prop) (x3 : Addr) (x13 x14 : Int) (h : Heap) (_K : KK) : Prop :=
  lp3 x3 x13 x14 h
theorem Ek3 (S : Stop) (x3 : Addr) (x13 x14 : Int) (h : Heap) (K : KK) : (en S [1, 1, 0, 1] (c0 S K) (f3 x3 x13 x14) h) = Jk3 (fun x3 x13 x14 h => ∃ n, S (ln S [1, 1, 0, 1, 0, 0] (c1 S K) n) (f3 x3 x13 x14) h) x3 x13 x14 h K := by kernel_rfl
def JL3 (bk3 : Addr → Int → Int → Heap → Prop) (x3 : Addr) (x13 x14 : Int) (h : Heap) (K : KK) : Prop :=
  bcase (decide (x14 < x13)) ((0 ≤ x14 ∧ x14 < (Nat.cast 8 : Int) ∧ stK h (Addr.add (Addr.add (Addr.add x3 1) (Int.toNat x14 * 1)) 0) (.int .i64 x14) (fun h1 => ((.pointer (some x3)) = ((.pointer (some x3)) : Value) ∧ ((.int .i64 x14) = ((.int .i64 x14) : Value) ∧ ((.int .i64 x14) = ((.int .i64 x14) : Value) ∧ ((.pointer (some x3)) = ((.pointer (some x3)) : Value) ∧ ((.pointer (some (Addr.add x3 9))) = ((.pointer (some (Addr.add x3 9))) : Value) ∧ (0 ≤ x14 ∧ x14 < (Nat.cast 8 : Int) ∧ stK h1 (Addr.add (Addr.add (Addr.add x3 9) (Int.toNat x14 * 1)) 0) (.int .i64 x14) (fun h2 => bk3 x3 x13 (IntKind.wrap .i64 (x14 + (1 : Int))) h2)))))))))) (K (.pointer (some x3)) h)
theorem EL3 (S : Stop) (n3 : Nat) (x3 : Addr) (x13 x14 : Int) (h : Heap) (K : KK) : (en S [1, 1, 0, 1, 0, 0] (c2 S n3 K) (f3 x3 x13 x14) h) = JL3 (fun x3 x13 x14 h => S (ln S [1, 1, 0, 1, 0, 0] (c1 S K) n3) (f3 x3 x13 x14) h) x3 x13 x14 h K := by kernel_rfl
def wL3 : Nat → Addr → Int → Int → Heap → KK → Prop
  | 0, _, _, _, _, _ => False
  | n + 1, x3, x13, x14, h, K => JL3 (fun x3 x13 x14 h => wL3 n x3 x13 x14 h K) x3 x13 x14 h K
theorem eL3 (K : KK) : ∀ (n : Nat) (x3 : Addr) (x13 x14 : Int) (h : Heap), (ln S0 [1, 1, 0, 1, 0, 0] (c1 S0 K) n (f3 x3 x13 x14) h) = wL3 n x3 x13 x14 h K
  | 0, _, _, _, _ => rfl
  | n + 1, x3, x13, x14, h => (EL3 S0 n x3 x13 x14 h K).trans (cg1 (fun q0 => JL3 q0 x3 x13 x14 h K) (by funext x3 x13 x14 h; exact (fun x3 x13 x14 h => eL3 K n x3 x13 x14 h) x3 x13 x14 h))
def wk3 (x3 : Addr) (x13 x14 : Int) (h : Heap) (K : KK) : Prop :=
  Jk3 (fun x3 x13 x14 h => ∃ m, wL3 m x3 x13 x14 h K) x3 x13 x14 h K
theorem ek3 (K : KK) (x3 : Addr) (x13 x14 : Int) (h : Heap) : (en S0 [1, 1, 0, 1] (c0 S0 K) (f3 x3 x13 x14) h) = wk3 x3 x13 x14 h K := (Ek3 S0 x3 x13 x14 h K).trans (cg1 (fun q0 => Jk3 q0 x3 x13 x14 h K) (by funext x3 x13 x14 h; exact ex_congr fun m => eL3 K m x3 x13 x14 h))
def w (x0 : Int) (h : Heap) (K : KK) : Prop :=
  J0 (fun x3 x13 x14 h => wk3 x3 x13 x14 h K) x0 h K
theorem e0 (K : KK) (x0 : Int) (h : Heap) : (E Tryz.prog X T S0 body (fin Tryz.prog Tryz.f29.results.toList K) (args0 0 [(.int .i64 x0)]) h) = w x0 h K := (E0 S0 x0 h K).trans (cg1 (fun q0 => J0 q0 x0 h K) (by funext x3 x13 x14 h; exact ek3 K x3 x13 x14 h))
theorem hb : Tryz.f29.body = some body := by kernel_rfl
theorem ok : okCode T Tryz.f29.ntmps body = true := by kernel_rfl
theorem spec (x0 : Int) (h : Heap) (K : KK) (H : w x0 h K) : CallsH Tryz.prog 29 [(.int .i64 x0)] h K :=
  calls_of_E (T := T) Xok mix Tryz.func29 hb ok rfl (by rw [e0]; exact H)
end F29
-- (*spinney/order.Order).All
namespace F37
def T : Hint := ⟨[], [(2, [[(0, []), (1, []), (2, []), (3, []), (4, []), (5, []), (6, []), (7, []), (8, []), (9, [])]])]⟩
noncomputable def body : Code := (Tryz.f37.body).getD .skip
def J0 (x0 : Addr) (h : Heap) (K : KK) : Prop :=
  ldI .i64 (rd h (Addr.add x0 0)) (fun n1 => (0 ≤ n1 ∧ n1 ≤ n1 ∧ ((Nat.cast 8 : Int) * n1 ≤ 281474976710656) ∧ n1 ≤ 9223372036854775807 ∧ newK h (.cells (madeCells #[(.int .i64 (0 : Int))] (Int.toNat n1 * 1)) 3) (fun b2 h3 => ldI .i64 (rd h3 (Addr.add x0 0)) (fun n4 => (0 ≤ n4 ∧ n4 ≤ (Nat.cast 8 : Int) ∧ copyK h3 1 (some (Addr.mk b2 0 none)) (Int.toNat n1) (some (if 8 = 0 then (Addr.add x0 1) else Addr.add (Addr.add x0 1) (0 * 1))) (Int.toNat n4 - 0) (fun _ h6 => K (.slice (some (Addr.mk b2 0 none)) (Int.toNat n1) (Int.toNat n1)) h6))))))
theorem E0 (S : Stop) (x0 : Addr) (h : Heap) (K : KK) : (E Tryz.prog X T S body (fin Tryz.prog Tryz.f37.results.toList K) (args0 0 [(.pointer (some x0))]) h) = J0 x0 h K := by kernel_rfl
def w (x0 : Addr) (h : Heap) (K : KK) : Prop :=
  J0 x0 h K
theorem e0 (K : KK) (x0 : Addr) (h : Heap) : (E Tryz.prog X T S0 body (fin Tryz.prog Tryz.f37.results.toList K) (args0 0 [(.pointer (some x0))]) h) = w x0 h K := (E0 S0 x0 h K).trans (rfl)
theorem hb : Tryz.f37.body = some body := by kernel_rfl
theorem ok : okCode T Tryz.f37.ntmps body = true := by kernel_rfl
theorem spec (x0 : Addr) (h : Heap) (K : KK) (H : w x0 h K) : CallsH Tryz.prog 37 [(.pointer (some x0))] h K :=
  calls_of_E (T := T) Xok mix Tryz.func37 hb ok rfl (by rw [e0]; exact H)
end F37
-- (*spinney/order.Order).Copy
namespace F57
def T : Hint := ⟨[], []⟩
noncomputable def body : Code := (Tryz.f57.body).getD .skip
def J0 (x0 : Addr) (h : Heap) (K : KK) : Prop :=
  ldI .i64 (rd h (Addr.add x0 0)) (fun n1 => ldI .i64 (rd h (Addr.add x0 1)) (fun n2 => ldI .i64 (rd h (Addr.add x0 2)) (fun n3 => ldI .i64 (rd h (Addr.add x0 3)) (fun n4 => ldI .i64 (rd h (Addr.add x0 4)) (fun n5 => ldI .i64 (rd h (Addr.add x0 5)) (fun n6 => ldI .i64 (rd h (Addr.add x0 6)) (fun n7 => ldI .i64 (rd h (Addr.add x0 7)) (fun n8 => ldI .i64 (rd h (Addr.add x0 8)) (fun n9 => ldI .i64 (rd h (Addr.add x0 9)) (fun n10 => ldI .i64 (rd h (Addr.add x0 10)) (fun n11 => ldI .i64 (rd h (Addr.add x0 11)) (fun n12 => ldI .i64 (rd h (Addr.add x0 12)) (fun n13 => ldI .i64 (rd h (Addr.add x0 13)) (fun n14 => ldI .i64 (rd h (Addr.add x0 14)) (fun n15 => ldI .i64 (rd h (Addr.add x0 15)) (fun n16 => ldI .i64 (rd h (Addr.add x0 16)) (fun n17 => newK h (.cells (Array.replicate 17 ((.int .i64 (0 : Int)) : Value)) 111) (fun b18 h19 => stK h19 (Addr.add (Addr.mk b18 0 none) 0) (.int .i64 n1) (fun h20 => stK h20 (Addr.add (Addr.mk b18 0 none) 1) (.int .i64 n2) (fun h21 => stK h21 (Addr.add (Addr.mk b18 0 none) 2) (.int .i64 n3) (fun h22 => stK h22 (Addr.add (Addr.mk b18 0 none) 3) (.int .i64 n4) (fun h23 => stK h23 (Addr.add (Addr.mk b18 0 none) 4) (.int .i64 n5) (fun h24 => stK h24 (Addr.add (Addr.mk b18 0 none) 5) (.int .i64 n6) (fun h25 => stK h25 (Addr.add (Addr.mk b18 0 none) 6) (.int .i64 n7) (fun h26 => stK h26 (Addr.add (Addr.mk b18 0 none) 7) (.int .i64 n8) (fun h27 => stK h27 (Addr.add (Addr.mk b18 0 none) 8) (.int .i64 n9) (fun h28 => stK h28 (Addr.add (Addr.mk b18 0 none) 9) (.int .i64 n10) (fun h29 => stK h29 (Addr.add (Addr.mk b18 0 none) 10) (.int .i64 n11) (fun h30 => stK h30 (Addr.add (Addr.mk b18 0 none) 11) (.int .i64 n12) (fun h31 => stK h31 (Addr.add (Addr.mk b18 0 none) 12) (.int .i64 n13) (fun h32 => stK h32 (Addr.add (Addr.mk b18 0 none) 13) (.int .i64 n14) (fun h33 => stK h33 (Addr.add (Addr.mk b18 0 none) 14) (.int .i64 n15) (fun h34 => stK h34 (Addr.add (Addr.mk b18 0 none) 15) (.int .i64 n16) (fun h35 => stK h35 (Addr.add (Addr.mk b18 0 none) 16) (.int .i64 n17) (fun h36 => K (.pointer (some (Addr.mk b18 0 none))) h36)))))))))))))))))))))))))))))))))))
theorem E0 (S : Stop) (x0 : Addr) (h : Heap) (K : KK) : (E Tryz.prog X T S body (fin Tryz.prog Tryz.f57.results.toList K) (args0 0 [(.pointer (some x0))]) h) = J0 x0 h K := by kernel_rfl
def w (x0 : Addr) (h : Heap) (K : KK) : Prop :=
  J0 x0 h K
theorem e0 (K : KK) (x0 : Addr) (h : Heap) : (E Tryz.prog X T S0 body (fin Tryz.prog Tryz.f57.results.toList K) (args0 0 [(.pointer (some x0))]) h) = w x0 h K := (E0 S0 x0 h K).trans (rfl)
theorem hb : Tryz.f57.body = some body := by kernel_rfl
theorem ok : okCode T Tryz.f57.ntmps body = true := by kernel_rfl
theorem spec (x0 : Addr) (h : Heap) (K : KK) (H : w x0 h K) : CallsH Tryz.prog 57 [(.pointer (some x0))] h K :=
  calls_of_E (T := T) Xok mix Tryz.func57 hb ok rfl (by rw [e0]; exact H)
end F57
-- (*spinney/order.Order).Var
namespace F71
def T : Hint := ⟨[], []⟩
noncomputable def body : Code := (Tryz.f71.body).getD .skip
def J0 (x0 : Addr) (x1 : Int) (h : Heap) (K : KK) : Prop :=
  bcase (decide (x1 < (0 : Int))) (K (.int .i64 (-1 : Int)) h) (ldI .i64 (rd h (Addr.add x0 0)) (fun n1 => bcase (decide (x1 ≥ n1)) (K (.int .i64 (-1 : Int)) h) ((0 ≤ x1 ∧ x1 < (Nat.cast 8 : Int) ∧ ldI .i64 (rd h (Addr.add (Addr.add x0 1) (Int.toNat x1 * 1))) (fun n2 => K (.int .i64 n2) h)))))
theorem E0 (S : Stop) (x0 : Addr) (x1 : Int) (h : Heap) (K : KK) : (E Tryz.prog X T S body (fin Tryz.prog Tryz.f71.results.toList K) (args0 0 [(.pointer (some x0)), (.int .i64 x1)]) h) = J0 x0 x1 h K := by kernel_rfl
def w (x0 : Addr) (x1 : Int) (h : Heap) (K : KK) : Prop :=
  J0 x0 x1 h K
theorem e0 (K : KK) (x0 : Addr) (x1 : Int) (h : Heap) : (E Tryz.prog X T S0 body (fin Tryz.prog Tryz.f71.results.toList K) (args0 0 [(.pointer (some x0)), (.int .i64 x1)]) h) = w x0 x1 h K := (E0 S0 x0 x1 h K).trans (rfl)
theorem hb : Tryz.f71.body = some body := by kernel_rfl
theorem ok : okCode T Tryz.f71.ntmps body = true := by kernel_rfl
theorem spec (x0 : Addr) (x1 : Int) (h : Heap) (K : KK) (H : w x0 x1 h K) : CallsH Tryz.prog 71 [(.pointer (some x0)), (.int .i64 x1)] h K :=
  calls_of_E (T := T) Xok mix Tryz.func71 hb ok rfl (by rw [e0]; exact H)
end F71
-- (*spinney/order.Order).Len
namespace F78
def T : Hint := ⟨[], []⟩
noncomputable def body : Code := (Tryz.f78.body).getD .skip
def J0 (x0 : Addr) (h : Heap) (K : KK) : Prop :=
  ldI .i64 (rd h (Addr.add x0 0)) (fun n1 => K (.int .i64 n1) h)
theorem E0 (S : Stop) (x0 : Addr) (h : Heap) (K : KK) : (E Tryz.prog X T S body (fin Tryz.prog Tryz.f78.results.toList K) (args0 0 [(.pointer (some x0))]) h) = J0 x0 h K := by kernel_rfl
def w (x0 : Addr) (h : Heap) (K : KK) : Prop :=
  J0 x0 h K
theorem e0 (K : KK) (x0 : Addr) (h : Heap) : (E Tryz.prog X T S0 body (fin Tryz.prog Tryz.f78.results.toList K) (args0 0 [(.pointer (some x0))]) h) = w x0 h K := (E0 S0 x0 h K).trans (rfl)
theorem hb : Tryz.f78.body = some body := by kernel_rfl
theorem ok : okCode T Tryz.f78.ntmps body = true := by kernel_rfl
theorem spec (x0 : Addr) (h : Heap) (K : KK) (H : w x0 h K) : CallsH Tryz.prog 78 [(.pointer (some x0))] h K :=
  calls_of_E (T := T) Xok mix Tryz.func78 hb ok rfl (by rw [e0]; exact H)
end F78
end Go.Proofs.YtnbnlhpleomaoaaGreat.Ev
/- ORDERS (package order): what each of its functions does to a row of levels and variables, seen from the heap. Conditions: the row stands (OrdIs). -/
namespace Go.Proofs.YtnbnlhpleomaoaaGreat.Ev
open Go
/-- eight numbers -/
def L8 (f : Nat → Nat) : List Value := (List.range 8).map fun i => .int .i64 (f i : Int)
def upd (f : Nat → Nat) (k v : Nat) : Nat → Nat := fun i => if i = k then v else f i
theorem L8_len (f : Nat → Nat) : (L8 f).length = 8 := by simp [L8]
theorem L8_get {f : Nat → Nat} {i : Nat} (hi : i < 8) : (L8 f)[i]? = some (.int .i64 (f i : Int)) := by simp [L8, hi]
theorem L8_set (f : Nat → Nat) (k v : Nat) : (L8 f).set k (.int .i64 (v : Int)) = L8 (upd f k v) := by
  apply List.ext_getElem?
  intro i
  by_cases h8 : i < 8
  · rw [L8_get h8, List.getElem?_set]
    by_cases h : k = i
    · subst h
      rw [if_pos rfl, if_pos (by rw [L8_len]; exact h8)]
      simp [upd]
    · rw [if_neg h, L8_get h8]
      simp [upd, Ne.symm h]
  · rw [List.getElem?_eq_none (by simp [L8_len]; omega), List.getElem?_eq_none (by simp [L8_len]; omega)]
/-- block b is an Order of n variables -/
def OrdIs (h : Heap) (b n : Nat) (f g : Nat → Nat) : Prop := At h b (.int .i64 (n : Int) :: (L8 f ++ L8 g))
theorem OrdIs.only {S : List Nat} {h h' : Heap} {b n : Nat} {f g : Nat → Nat} (H : OrdIs h b n f g) (O : Only S h h') (hb : b ∉ S) : OrdIs h' b n f g := At.only H O hb
theorem OrdIs.rd0 {h : Heap} {b n : Nat} {f g : Nat → Nat} (H : OrdIs h b n f g) : rd h ⟨b, 0, none⟩ = some (.int .i64 n) := by rw [At.rd H]; rfl
theorem OrdIs.rdv {h : Heap} {b n : Nat} {f g : Nat → Nat} (H : OrdIs h b n f g) {i : Nat} (hi : i < 8) : rd h ⟨b, 1 + i, none⟩ = some (.int .i64 (f i : Int)) := by
  rw [At.rd H, Nat.add_comm, List.getElem?_cons_succ, List.getElem?_append_left (by rw [L8_len]; exact hi), L8_get hi]
theorem OrdIs.stv {h : Heap} {b n : Nat} {f g : Nat → Nat} {i v : Nat} {K : Heap → Prop} (H : OrdIs h b n f g) (hi : i < 8)
    (hK : ∀ h', OrdIs h' b n (upd f i v) g → Only [b] h h' → K h') : stK h ⟨b, 1 + i, none⟩ (.int .i64 (v : Int)) K := by
  refine stK_at H (by simp [L8_len]; omega) rfl fun h' A O _ => hK h' ?_ O
  rw [Nat.add_comm, List.set_cons_succ, List.set_append_left _ _ (by rw [L8_len]; exact hi), L8_set] at A
  exact A
theorem OrdIs.stl {h : Heap} {b n : Nat} {f g : Nat → Nat} {i v : Nat} {K : Heap → Prop} (H : OrdIs h b n f g) (hi : i < 8)
    (hK : ∀ h', OrdIs h' b n f (upd g i v) → Only [b] h h' → K h') : stK h ⟨b, 9 + i, none⟩ (.int .i64 (v : Int)) K := by
  refine stK_at H (by simp [L8_len]; omega) rfl fun h' A O _ => hK h' ?_ O
  rw [show 9 + i = (8 + i) + 1 by omega, List.set_cons_succ, List.set_append_right _ _ (by rw [L8_len]; omega), L8_len, show 8 + i - 8 = i by omega, L8_set] at A
  exact A

theorem ord_var {h : Heap} {b n : Nat} {f g : Nat → Nat} {k : Nat} {K : Value → Heap → Prop} (H : OrdIs h b n f g) (hn : n ≤ 8) (hk : k < n) (hK : K (.int .i64 (f k : Int)) h) :
    CallsH Tryz.prog 71 [.pointer (some ⟨b, 0, none⟩), .int .i64 (k : Int)] h K := by
  apply F71.spec
  unfold F71.w F71.J0
  simp only [add_mk, Nat.zero_add, Nat.mul_one, Int.toNat_natCast]
  rw [decide_eq_false (by omega), bcase_false]
  refine ldI_of H.rd0 ?_
  rw [decide_eq_false (by omega), bcase_false]
  exact ⟨by omega, by omega, ldI_of (H.rdv (by omega)) hK⟩
theorem ord_len {h : Heap} {b n : Nat} {f g : Nat → Nat} {K : Value → Heap → Prop} (H : OrdIs h b n f g) (hK : K (.int .i64 n) h) :
    CallsH Tryz.prog 78 [.pointer (some ⟨b, 0, none⟩)] h K := by
  apply F78.spec
  unfold F78.w F78.J0
  simp only [add_mk, Nat.zero_add]
  exact ldI_of H.rd0 hK
def fill (k : Nat) : Nat → Nat := fun i => if i < k then i else 0
theorem upd_fill {k : Nat} : upd (fill k) k k = fill (k + 1) := by
  funext i
  unfold upd fill
  split
  · next h => subst h; simp
  · split
    · rw [if_pos (by omega)]
    · rw [if_neg (by omega)]
theorem new_loop {h0 : Heap} {b n : Nat} (hb : h0.size ≤ b) (hn : n ≤ 8) {K : Value → Heap → Prop} (hK : ∀ h', OrdIs h' b n (fill n) (fill n) → Only [] h0 h' → K (.pointer (some ⟨b, 0, none⟩)) h') :
    ∀ (m k : Nat) (h : Heap), n - k < m → k ≤ n → OrdIs h b n (fill k) (fill k) → Only [] h0 h → F29.wL3 m ⟨b, 0, none⟩ (n : Int) (k : Int) h K := by
  intro m
  induction m with
  | zero => intro k h hm; omega
  | succ m ih =>
    intro k h hm hk H O
    unfold F29.wL3 F29.JL3
    by_cases hlt : k < n
    · rw [decide_eq_true (by omega), bcase_true]
      simp only [add_mk, Nat.zero_add, Nat.mul_one, Nat.add_zero, Int.toNat_natCast]
      refine ⟨by omega, by omega, H.stv (by omega) fun h1 A1 O1 => ⟨trivial, trivial, trivial, trivial, trivial, by omega, by omega, A1.stl (by omega) fun h2 A2 O2 => ?_⟩⟩
      rw [show IntKind.wrap .i64 ((k : Int) + 1) = ((k + 1 : Nat) : Int) by rw [wrap_i64 (by omega) (by omega)]; simp]
      rw [upd_fill] at A2
      exact ih (k + 1) h2 (by omega) (by omega) A2 (O.trans (O1.trans (T := [b]) O2 (by simp)) fun x hx hl => absurd (show x = b by simpa using hx) (by omega))
    · rw [decide_eq_false (by omega), bcase_false]
      obtain rfl : k = n := by omega
      exact hK h H O
theorem ord_new {h : Heap} {n : Nat} (h1 : 1 ≤ n) (h8 : n ≤ 8) {K : Value → Heap → Prop} (hK : ∀ b h', OrdIs h' b n (fill n) (fill n) → h.size ≤ b → Only [] h h' → K (.pointer (some ⟨b, 0, none⟩)) h') :
    CallsH Tryz.prog 29 [.int .i64 (n : Int)] h K := by
  apply F29.spec
  unfold F29.w F29.J0
  rw [if_neg (by omega : ¬ (1 : Int) > (n : Int)), if_neg (by omega : ¬ (8 : Int) < (n : Int))]
  refine newK_at fun h2 A2 O2 z2 => ?_
  have A2 : OrdIs h2 h.size n (fill 0) (fill 0) := A2
  simp only [add_mk, Nat.zero_add]
  refine ldI_of A2.rd0 ?_
  unfold F29.wk3 F29.Jk3
  exact ⟨n + 1, new_loop (Nat.le_refl _) h8 (fun h' H O => hK h.size h' H (Nat.le_refl _) O) (n + 1) 0 h2 (by omega) (by omega) A2 O2⟩
/-- the variables by levels, in a slice of their own -/
theorem stL_row {b : Nat} {K : Heap → Prop} : ∀ (new : List Value) (i : Nat) (c : List Value) (h : Heap), At h b c → i + new.length ≤ c.length → (∀ v ∈ new, v.oneCell' = true) →
    (∀ h', At h' b (c.take i ++ new ++ c.drop (i + new.length)) → Only [b] h h' → K h') → stL ⟨b, 0, none⟩ i new h K := by
  intro new
  induction new with
  | nil =>
    intro i c h A hi hv hK
    unfold stL
    exact hK h (by simpa using A) (Only.refl _ _)
  | cons v vs ih =>
    intro i c h A hi hv hK
    simp only [List.length_cons] at hi
    unfold stL
    rw [add_mk, Nat.zero_add]
    refine stK_at A (by omega) (hv v (by simp)) fun h1 A1 O1 _ => ih (i + 1) _ h1 A1 (by simp; omega) (fun x hx => hv x (by simp [hx])) fun h2 A2 O2 => hK h2 ?_ (O1.trans O2 (by simp))
    have e : (c.set i v).take (i + 1) = c.take i ++ [v] := by
      rw [List.take_set, List.take_succ_eq_append_getElem (by omega), List.set_append_right _ _ (by simp; omega)]
      simp [List.length_take, Nat.min_eq_left (by omega : i ≤ c.length)]
    have e2 : (c.set i v).drop (i + 1 + vs.length) = c.drop (i + (vs.length + 1)) := by
      rw [List.drop_set_of_lt (by omega)]
      congr 1
      omega
    rw [e, e2] at A2
    simpa using A2
theorem ord_all {h : Heap} {b n : Nat} {f g : Nat → Nat} {K : Value → Heap → Prop} (H : OrdIs h b n f g) (hn : n ≤ 8)
    (hK : ∀ x h', At h' x (((List.range n).map fun i => (f i : Int)).map (.int .i64)) → h.size ≤ x → Only [] h h' → K (.slice (some ⟨x, 0, none⟩) n n) h') :
    CallsH Tryz.prog 37 [.pointer (some ⟨b, 0, none⟩)] h K := by
  apply F37.spec
  unfold F37.w F37.J0
  simp only [add_mk, Nat.zero_add, Nat.mul_one]
  refine ldI_of H.rd0 ⟨by omega, by omega, by omega, by omega, newK_at fun h1 A1 O1 z1 => ?_⟩
  have H1 := H.only O1 (by simp)
  refine ldI_of H1.rd0 ⟨by omega, by omega, ?_⟩
  rw [if_neg (by decide : ¬ (8 = 0)), Int.toNat_natCast, Nat.sub_zero, toList_madeCells_one] at *
  unfold copyK
  rw [show Nat.min n n = n from Nat.min_self n]
  refine ⟨((List.range n).map fun i => (f i : Int)).map (.int .i64), by simp, ?_, ?_⟩
  · intro j v hj
    have hjn : j < n := by
      have := (List.getElem?_eq_some_iff.1 hj).1
      simpa using this
    rw [add_mk, H1.rdv (by omega), ← hj]
    simp [hjn]
  · refine stL_row _ 0 _ h1 A1 (by simp) (by simp [Value.oneCell']) fun h2 A2 O2 => hK h.size h2 ?_ (Nat.le_refl _) ?_
    · simpa using A2
    · exact O1.trans O2 fun x hx hl => absurd (show x = h.size by simpa using hx) (by omega)
end Go.Proofs.YtnbnlhpleomaoaaGreat.Ev
/- FUNCTIONS MADE IN A STORE (package spinneyplay), the part that fixes a variable: two calls of Fix in whatever order with two new blocks. PRINTED IN PART (mkmade.py). Conditions: the words and the row of variables stand. -/
namespace Go.Proofs.YtnbnlhpleomaoaaGreat.Ev
open Go
theorem rd4 {h : Heap} {b : Nat} {g : Nat → Nat} {K : Int → Int → Int → Int → Prop} (A : At h b (wrow g)) (hK : K (g 0 : Int) (g 1 : Int) (g 2 : Int) (g 3 : Int)) :
    ldI .u64 (rd h (Addr.add ⟨b, 0, none⟩ 0)) fun n1 => ldI .u64 (rd h (Addr.add ⟨b, 0, none⟩ 1)) fun n2 => ldI .u64 (rd h (Addr.add ⟨b, 0, none⟩ 2)) fun n3 => ldI .u64 (rd h (Addr.add ⟨b, 0, none⟩ 3)) fun n4 => K n1 n2 n3 n4 := by
  simp only [add_mk, Nat.zero_add]
  exact ldI_of (wr_rd A (by decide)) (ldI_of (wr_rd A (by decide)) (ldI_of (wr_rd A (by decide)) (ldI_of (wr_rd A (by decide)) hK)))
/-- the row of a store's variables -/
def vrow (n : Nat) (f : Nat → Nat) : List Value := ((List.range n).map fun i => (f i : Int)).map (.int .i64)
theorem vrow_get {n : Nat} {f : Nat → Nat} {k : Nat} (hk : k < n) : (vrow n f)[k]? = some (.int .i64 (f k : Int)) := by simp [vrow, hk]
theorem rdv {h : Heap} {vb n k : Nat} {f : Nat → Nat} {K : Addr → Int → Prop} (V : At h vb (vrow n f)) (hk : k < n) (hK : K ⟨vb, 0, none⟩ (f k : Int)) :
    ptrK (some ⟨vb, 0, none⟩) fun a => 0 ≤ (k : Int) ∧ (k : Int) < ((n : Nat) : Int) ∧ ldI .i64 (rd h (Addr.add a (Int.toNat (k : Int) * 1))) fun v => K a v := by
  refine ⟨by omega, by omega, ldI_of ?_ hK⟩
  rw [add_mk, V.rd, show 0 + Int.toNat (k : Int) * 1 = k by omega]
  exact vrow_get hk
theorem rdva {h : Heap} {vb n k : Nat} {f : Nat → Nat} {P : Prop} (V : At h vb (vrow n f)) (hk : k < n) (hP : P) :
    ptrK (some ⟨vb, 0, none⟩) fun a => 0 ≤ (k : Int) ∧ (k : Int) < ((n : Nat) : Int) ∧ ((.pointer (some (Addr.add a (Int.toNat (k : Int) * 1)))) = ((.pointer (some (Addr.add ⟨vb, 0, none⟩ (Int.toNat (k : Int) * 1)))) : Value) ∧
      ldI .i64 (rd h (Addr.add ⟨vb, 0, none⟩ (Int.toNat (k : Int) * 1))) fun v => ((.int .i64 v) = ((.int .i64 (f k : Int)) : Value) ∧ P)) := by
  refine ⟨by omega, by omega, rfl, ldI_of ?_ ⟨rfl, hP⟩⟩
  rw [add_mk, V.rd, show 0 + Int.toNat (k : Int) * 1 = k by omega]
  exact vrow_get hk
set_option maxRecDepth 100000 in
theorem made_fix {h : Heap} {s b5 vb n k vc v : Nat} {f g : Nat → Nat} {K : Value → Heap → Prop} (A : At h b5 (wrow g)) (hg : WOk g) (V : At h vb (vrow n f)) (hk : k < n) (ev : f k = v)
    (hK : ∀ h' bx by_, h.size ≤ bx → h.size ≤ by_ → At h' bx (wrow (fixA (v : Int) false g)) → At h' by_ (wrow (fixA (v : Int) true g)) → Only [] h h' → F35.wk8 ⟨s, 0, none⟩ (some ⟨vb, 0, none⟩) n vc (k : Int) ⟨bx, 0, none⟩ ⟨by_, 0, none⟩ h' K) :
    F35.wk5 ⟨s, 0, none⟩ (some ⟨vb, 0, none⟩) n vc (k : Int) ⟨b5, 0, none⟩ h K := by
  subst ev
  unfold F35.wk5 F35.Jk5
  rw [decide_eq_false (by omega), bcase_false]
  have P := Only.refl [] h
  refine rd4 A (rdv V hk (rd4 A (rdv V hk ?_)))
  refine ⟨?_, ?_⟩
  ·
    refine fix34 hg fun h1 O1 => ⟨_, _, _, _, rfl, ?_⟩
    have A1 := A.only O1 (by simp)
    have V1 := V.only O1 (by simp)
    have P1 := P.trans O1 (by simp)
    refine rd4 A1 ⟨rfl, rfl, rfl, rdva V1 hk ?_⟩
    refine ⟨?_, ?_⟩
    ·
      refine fix34 hg fun h2 O2 => ⟨_, _, _, _, rfl, ?_⟩
      have A2 := A1.only O2 (by simp)
      have V2 := V1.only O2 (by simp)
      have P2 := P1.trans O2 (by simp)
      refine ⟨?_, ?_⟩
      ·
        refine newK_at fun h3 Y3 O3 z3 => ?_
        replace Y3 : At h3 h2.size (wrow fun _ => 0) := Y3
        have g3 := P2.size
        have A3 := A2.only O3 (by simp)
        have V3 := V2.only O3 (by simp)
        have P3 := P2.trans O3 (by simp)
        refine rd4 A3 ⟨rfl, rfl, rfl, rdva V3 hk ?_⟩
        refine rd4 A3 ⟨rfl, rfl, rfl, rdva V3 hk ?_⟩
        refine newK_at fun h4 Y4 O4 z4 => ?_
        replace Y4 : At h4 h3.size (wrow fun _ => 0) := Y4
        have g4 := P3.size
        have l4_12 := Y3.lt
        have A4 := A3.only O4 (by simp)
        have V4 := V3.only O4 (by simp)
        have P4 := P3.trans O4 (by simp)
        have Z4_12 := Y3.only O4 (by simp)
        refine rd4 A4 ⟨rfl, rfl, rfl, rdva V4 hk ?_⟩
        refine rd4 A4 ⟨rfl, rfl, rfl, rdva V4 hk ?_⟩
        refine wr_put (g := fixA (f k : Int) false g) Z4_12 fun h5 S5 Q5 => wr_put (g := fixA (f k : Int) true g) (Y4.only Q5 (by simp; omega)) fun k5 T5 R5 => ?_
        exact hK k5 _ _ g3 g4 (S5.only R5 (by simp; omega)) T5 (((P4.trans Q5 (by intro x hx hl; simp at hx; omega))).trans R5 (by intro x hx hl; simp at hx; omega))
      refine newK_at fun h6 Y6 O6 z6 => ?_
      replace Y6 : At h6 h2.size (wrow fun _ => 0) := Y6
      have g6 := P2.size
      have A6 := A2.only O6 (by simp)
      have V6 := V2.only O6 (by simp)
      have P6 := P2.trans O6 (by simp)
      refine rd4 A6 ⟨rfl, rfl, rfl, rdva V6 hk ?_⟩
      refine rd4 A6 ⟨rfl, rfl, rfl, rdva V6 hk ?_⟩
      refine newK_at fun h7 Y7 O7 z7 => ?_
      replace Y7 : At h7 h6.size (wrow fun _ => 0) := Y7
      have g7 := P6.size
      have l7_13 := Y6.lt
      have A7 := A6.only O7 (by simp)
      have V7 := V6.only O7 (by simp)
      have P7 := P6.trans O7 (by simp)
      have Z7_13 := Y6.only O7 (by simp)
      refine rd4 A7 ⟨rfl, rfl, rfl, rdva V7 hk ?_⟩
      refine rd4 A7 ⟨rfl, rfl, rfl, rdva V7 hk ?_⟩
      refine wr_put (g := fixA (f k : Int) false g) Y7 fun h8 S8 Q8 => wr_put (g := fixA (f k : Int) true g) (Z7_13.only Q8 (by simp; omega)) fun k8 T8 R8 => ?_
      exact hK k8 _ _ g7 g6 (S8.only R8 (by simp; omega)) T8 (((P7.trans Q8 (by intro x hx hl; simp at hx; omega))).trans R8 (by intro x hx hl; simp at hx; omega))
    refine ⟨?_, ?_⟩
    ·
      refine newK_at fun h9 Y9 O9 z9 => ?_
      replace Y9 : At h9 h1.size (wrow fun _ => 0) := Y9
      have g9 := P1.size
      have A9 := A1.only O9 (by simp)
      have V9 := V1.only O9 (by simp)
      have P9 := P1.trans O9 (by simp)
      refine rd4 A9 ⟨rfl, rfl, rfl, rdva V9 hk ?_⟩
      refine rd4 A9 ⟨rfl, rfl, rfl, rdva V9 hk ?_⟩
      refine ⟨?_, ?_⟩
      ·
        refine fix34 hg fun h10 O10 => ⟨_, _, _, _, rfl, ?_⟩
        have A10 := A9.only O10 (by simp)
        have V10 := V9.only O10 (by simp)
        have P10 := P9.trans O10 (by simp)
        have Z10_12 := Y9.only O10 (by simp)
        refine newK_at fun h11 Y11 O11 z11 => ?_
        replace Y11 : At h11 h10.size (wrow fun _ => 0) := Y11
        have g11 := P10.size
        have l11_12 := Z10_12.lt
        have A11 := A10.only O11 (by simp)
        have V11 := V10.only O11 (by simp)
        have P11 := P10.trans O11 (by simp)
        have Z11_12 := Z10_12.only O11 (by simp)
        refine rd4 A11 ⟨rfl, rfl, rfl, rdva V11 hk ?_⟩
        refine rd4 A11 ⟨rfl, rfl, rfl, rdva V11 hk ?_⟩
        refine wr_put (g := fixA (f k : Int) false g) Z11_12 fun h12 S12 Q12 => wr_put (g := fixA (f k : Int) true g) (Y11.only Q12 (by simp; omega)) fun k12 T12 R12 => ?_
        exact hK k12 _ _ g9 g11 (S12.only R12 (by simp; omega)) T12 (((P11.trans Q12 (by intro x hx hl; simp at hx; omega))).trans R12 (by intro x hx hl; simp at hx; omega))
      refine newK_at fun h13 Y13 O13 z13 => ?_
      replace Y13 : At h13 h9.size (wrow fun _ => 0) := Y13
      have g13 := P9.size
      have l13_12 := Y9.lt
      have A13 := A9.only O13 (by simp)
      have V13 := V9.only O13 (by simp)
      have P13 := P9.trans O13 (by simp)
      have Z13_12 := Y9.only O13 (by simp)
      refine rd4 A13 ⟨rfl, rfl, rfl, rdva V13 hk ?_⟩
      refine rd4 A13 ⟨rfl, rfl, rfl, rdva V13 hk ?_⟩
      refine fix34 hg fun h14 O14 => ⟨_, _, _, _, rfl, ?_⟩
      have A14 := A13.only O14 (by simp)
      have V14 := V13.only O14 (by simp)
      have P14 := P13.trans O14 (by simp)
      have Z14_12 := Z13_12.only O14 (by simp)
      have Z14_13 := Y13.only O14 (by simp)
      refine wr_put (g := fixA (f k : Int) false g) Z14_12 fun h15 S15 Q15 => wr_put (g := fixA (f k : Int) true g) (Z14_13.only Q15 (by simp; omega)) fun k15 T15 R15 => ?_
      exact hK k15 _ _ g9 g13 (S15.only R15 (by simp; omega)) T15 (((P14.trans Q15 (by intro x hx hl; simp at hx; omega))).trans R15 (by intro x hx hl; simp at hx; omega))
    refine newK_at fun h16 Y16 O16 z16 => ?_
    replace Y16 : At h16 h1.size (wrow fun _ => 0) := Y16
    have g16 := P1.size
    have A16 := A1.only O16 (by simp)
    have V16 := V1.only O16 (by simp)
    have P16 := P1.trans O16 (by simp)
    refine rd4 A16 ⟨rfl, rfl, rfl, rdva V16 hk ?_⟩
    refine rd4 A16 ⟨rfl, rfl, rfl, rdva V16 hk ?_⟩
    refine ⟨?_, ?_⟩
    ·
      refine fix34 hg fun h17 O17 => ⟨_, _, _, _, rfl, ?_⟩
      have A17 := A16.only O17 (by simp)
      have V17 := V16.only O17 (by simp)
      have P17 := P16.trans O17 (by simp)
      have Z17_13 := Y16.only O17 (by simp)
      refine newK_at fun h18 Y18 O18 z18 => ?_
      replace Y18 : At h18 h17.size (wrow fun _ => 0) := Y18
      have g18 := P17.size
      have l18_13 := Z17_13.lt
      have A18 := A17.only O18 (by simp)
      have V18 := V17.only O18 (by simp)
      have P18 := P17.trans O18 (by simp)
      have Z18_13 := Z17_13.only O18 (by simp)
      refine rd4 A18 ⟨rfl, rfl, rfl, rdva V18 hk ?_⟩
      refine rd4 A18 ⟨rfl, rfl, rfl, rdva V18 hk ?_⟩
      refine wr_put (g := fixA (f k : Int) false g) Y18 fun h19 S19 Q19 => wr_put (g := fixA (f k : Int) true g) (Z18_13.only Q19 (by simp; omega)) fun k19 T19 R19 => ?_
      exact hK k19 _ _ g18 g16 (S19.only R19 (by simp; omega)) T19 (((P18.trans Q19 (by intro x hx hl; simp at hx; omega))).trans R19 (by intro x hx hl; simp at hx; omega))
    refine newK_at fun h20 Y20 O20 z20 => ?_
    replace Y20 : At h20 h16.size (wrow fun _ => 0) := Y20
    have g20 := P16.size
    have l20_13 := Y16.lt
    have A20 := A16.only O20 (by simp)
    have V20 := V16.only O20 (by simp)
    have P20 := P16.trans O20 (by simp)
    have Z20_13 := Y16.only O20 (by simp)
    refine rd4 A20 ⟨rfl, rfl, rfl, rdva V20 hk ?_⟩
    refine rd4 A20 ⟨rfl, rfl, rfl, rdva V20 hk ?_⟩
    refine fix34 hg fun h21 O21 => ⟨_, _, _, _, rfl, ?_⟩
    have A21 := A20.only O21 (by simp)
    have V21 := V20.only O21 (by simp)
    have P21 := P20.trans O21 (by simp)
    have Z21_13 := Z20_13.only O21 (by simp)
    have Z21_12 := Y20.only O21 (by simp)
    refine wr_put (g := fixA (f k : Int) false g) Z21_12 fun h22 S22 Q22 => wr_put (g := fixA (f k : Int) true g) (Z21_13.only Q22 (by simp; omega)) fun k22 T22 R22 => ?_
    exact hK k22 _ _ g20 g16 (S22.only R22 (by simp; omega)) T22 (((P21.trans Q22 (by intro x hx hl; simp at hx; omega))).trans R22 (by intro x hx hl; simp at hx; omega))
  refine ⟨?_, ?_⟩
  ·
    refine newK_at fun h23 Y23 O23 z23 => ?_
    replace Y23 : At h23 h.size (wrow fun _ => 0) := Y23
    have g23 := P.size
    have A23 := A.only O23 (by simp)
    have V23 := V.only O23 (by simp)
    have P23 := P.trans O23 (by simp)
    refine rd4 A23 ⟨rfl, rfl, rfl, rdva V23 hk ?_⟩
    refine rd4 A23 ⟨rfl, rfl, rfl, rdva V23 hk ?_⟩
    refine ⟨?_, ?_⟩
    ·
      refine fix34 hg fun h24 O24 => ⟨_, _, _, _, rfl, ?_⟩
      have A24 := A23.only O24 (by simp)
      have V24 := V23.only O24 (by simp)
      have P24 := P23.trans O24 (by simp)
      have Z24_12 := Y23.only O24 (by simp)
      refine rd4 A24 ⟨rfl, rfl, rfl, rdva V24 hk ?_⟩
      refine ⟨?_, ?_⟩
      ·
        refine fix34 hg fun h25 O25 => ⟨_, _, _, _, rfl, ?_⟩
        have A25 := A24.only O25 (by simp)
        have V25 := V24.only O25 (by simp)
        have P25 := P24.trans O25 (by simp)
        have Z25_12 := Z24_12.only O25 (by simp)
        refine newK_at fun h26 Y26 O26 z26 => ?_
        replace Y26 : At h26 h25.size (wrow fun _ => 0) := Y26
        have g26 := P25.size
        have l26_12 := Z25_12.lt
        have A26 := A25.only O26 (by simp)
        have V26 := V25.only O26 (by simp)
        have P26 := P25.trans O26 (by simp)
        have Z26_12 := Z25_12.only O26 (by simp)
        refine rd4 A26 ⟨rfl, rfl, rfl, rdva V26 hk ?_⟩
        refine rd4 A26 ⟨rfl, rfl, rfl, rdva V26 hk ?_⟩
        refine wr_put (g := fixA (f k : Int) false g) Z26_12 fun h27 S27 Q27 => wr_put (g := fixA (f k : Int) true g) (Y26.only Q27 (by simp; omega)) fun k27 T27 R27 => ?_
        exact hK k27 _ _ g23 g26 (S27.only R27 (by simp; omega)) T27 (((P26.trans Q27 (by intro x hx hl; simp at hx; omega))).trans R27 (by intro x hx hl; simp at hx; omega))
      refine newK_at fun h28 Y28 O28 z28 => ?_
      replace Y28 : At h28 h24.size (wrow fun _ => 0) := Y28
      have g28 := P24.size
      have l28_12 := Z24_12.lt
      have A28 := A24.only O28 (by simp)
      have V28 := V24.only O28 (by simp)
      have P28 := P24.trans O28 (by simp)
      have Z28_12 := Z24_12.only O28 (by simp)
      refine rd4 A28 ⟨rfl, rfl, rfl, rdva V28 hk ?_⟩
      refine rd4 A28 ⟨rfl, rfl, rfl, rdva V28 hk ?_⟩
      refine fix34 hg fun h29 O29 => ⟨_, _, _, _, rfl, ?_⟩
      have A29 := A28.only O29 (by simp)
      have V29 := V28.only O29 (by simp)
      have P29 := P28.trans O29 (by simp)
      have Z29_12 := Z28_12.only O29 (by simp)
      have Z29_13 := Y28.only O29 (by simp)
      refine wr_put (g := fixA (f k : Int) false g) Z29_12 fun h30 S30 Q30 => wr_put (g := fixA (f k : Int) true g) (Z29_13.only Q30 (by simp; omega)) fun k30 T30 R30 => ?_
      exact hK k30 _ _ g23 g28 (S30.only R30 (by simp; omega)) T30 (((P29.trans Q30 (by intro x hx hl; simp at hx; omega))).trans R30 (by intro x hx hl; simp at hx; omega))
    refine newK_at fun h31 Y31 O31 z31 => ?_
    replace Y31 : At h31 h23.size (wrow fun _ => 0) := Y31
    have g31 := P23.size
    have l31_12 := Y23.lt
    have A31 := A23.only O31 (by simp)
    have V31 := V23.only O31 (by simp)
    have P31 := P23.trans O31 (by simp)
    have Z31_12 := Y23.only O31 (by simp)
    refine rd4 A31 ⟨rfl, rfl, rfl, rdva V31 hk ?_⟩
    refine rd4 A31 ⟨rfl, rfl, rfl, rdva V31 hk ?_⟩
    refine fix34 hg fun h32 O32 => ⟨_, _, _, _, rfl, ?_⟩
    have A32 := A31.only O32 (by simp)
    have V32 := V31.only O32 (by simp)
    have P32 := P31.trans O32 (by simp)
    have Z32_12 := Z31_12.only O32 (by simp)
    have Z32_13 := Y31.only O32 (by simp)
    refine rd4 A32 ⟨rfl, rfl, rfl, rdva V32 hk ?_⟩
    refine fix34 hg fun h33 O33 => ⟨_, _, _, _, rfl, ?_⟩
    have A33 := A32.only O33 (by simp)
    have V33 := V32.only O33 (by simp)
    have P33 := P32.trans O33 (by simp)
    have Z33_12 := Z32_12.only O33 (by simp)
    have Z33_13 := Z32_13.only O33 (by simp)
    refine wr_put (g := fixA (f k : Int) false g) Z33_12 fun h34 S34 Q34 => wr_put (g := fixA (f k : Int) true g) (Z33_13.only Q34 (by simp; omega)) fun k34 T34 R34 => ?_
    exact hK k34 _ _ g23 g31 (S34.only R34 (by simp; omega)) T34 (((P33.trans Q34 (by intro x hx hl; simp at hx; omega))).trans R34 (by intro x hx hl; simp at hx; omega))
  refine newK_at fun h35 Y35 O35 z35 => ?_
  replace Y35 : At h35 h.size (wrow fun _ => 0) := Y35
  have g35 := P.size
  have A35 := A.only O35 (by simp)
  have V35 := V.only O35 (by simp)
  have P35 := P.trans O35 (by simp)
  refine rd4 A35 ⟨rfl, rfl, rfl, rdva V35 hk ?_⟩
  refine rd4 A35 ⟨rfl, rfl, rfl, rdva V35 hk ?_⟩
  refine ⟨?_, ?_⟩
  ·
    refine fix34 hg fun h36 O36 => ⟨_, _, _, _, rfl, ?_⟩
    have A36 := A35.only O36 (by simp)
    have V36 := V35.only O36 (by simp)
    have P36 := P35.trans O36 (by simp)
    have Z36_13 := Y35.only O36 (by simp)
    refine rd4 A36 ⟨rfl, rfl, rfl, rdva V36 hk ?_⟩
    refine ⟨?_, ?_⟩
    ·
      refine fix34 hg fun h37 O37 => ⟨_, _, _, _, rfl, ?_⟩
      have A37 := A36.only O37 (by simp)
      have V37 := V36.only O37 (by simp)
      have P37 := P36.trans O37 (by simp)
      have Z37_13 := Z36_13.only O37 (by simp)
      refine newK_at fun h38 Y38 O38 z38 => ?_
      replace Y38 : At h38 h37.size (wrow fun _ => 0) := Y38
      have g38 := P37.size
      have l38_13 := Z37_13.lt
      have A38 := A37.only O38 (by simp)
      have V38 := V37.only O38 (by simp)
      have P38 := P37.trans O38 (by simp)
      have Z38_13 := Z37_13.only O38 (by simp)
      refine rd4 A38 ⟨rfl, rfl, rfl, rdva V38 hk ?_⟩
      refine rd4 A38 ⟨rfl, rfl, rfl, rdva V38 hk ?_⟩
      refine wr_put (g := fixA (f k : Int) false g) Y38 fun h39 S39 Q39 => wr_put (g := fixA (f k : Int) true g) (Z38_13.only Q39 (by simp; omega)) fun k39 T39 R39 => ?_
      exact hK k39 _ _ g38 g35 (S39.only R39 (by simp; omega)) T39 (((P38.trans Q39 (by intro x hx hl; simp at hx; omega))).trans R39 (by intro x hx hl; simp at hx; omega))
    refine newK_at fun h40 Y40 O40 z40 => ?_
    replace Y40 : At h40 h36.size (wrow fun _ => 0) := Y40
    have g40 := P36.size
    have l40_13 := Z36_13.lt
    have A40 := A36.only O40 (by simp)
    have V40 := V36.only O40 (by simp)
    have P40 := P36.trans O40 (by simp)
    have Z40_13 := Z36_13.only O40 (by simp)
    refine rd4 A40 ⟨rfl, rfl, rfl, rdva V40 hk ?_⟩
    refine rd4 A40 ⟨rfl, rfl, rfl, rdva V40 hk ?_⟩
    refine fix34 hg fun h41 O41 => ⟨_, _, _, _, rfl, ?_⟩
    have A41 := A40.only O41 (by simp)
    have V41 := V40.only O41 (by simp)
    have P41 := P40.trans O41 (by simp)
    have Z41_13 := Z40_13.only O41 (by simp)
    have Z41_12 := Y40.only O41 (by simp)
    refine wr_put (g := fixA (f k : Int) false g) Z41_12 fun h42 S42 Q42 => wr_put (g := fixA (f k : Int) true g) (Z41_13.only Q42 (by simp; omega)) fun k42 T42 R42 => ?_
    exact hK k42 _ _ g40 g35 (S42.only R42 (by simp; omega)) T42 (((P41.trans Q42 (by intro x hx hl; simp at hx; omega))).trans R42 (by intro x hx hl; simp at hx; omega))
  refine newK_at fun h43 Y43 O43 z43 => ?_
  replace Y43 : At h43 h35.size (wrow fun _ => 0) := Y43
  have g43 := P35.size
  have l43_13 := Y35.lt
  have A43 := A35.only O43 (by simp)
  have V43 := V35.only O43 (by simp)
  have P43 := P35.trans O43 (by simp)
  have Z43_13 := Y35.only O43 (by simp)
  refine rd4 A43 ⟨rfl, rfl, rfl, rdva V43 hk ?_⟩
  refine rd4 A43 ⟨rfl, rfl, rfl, rdva V43 hk ?_⟩
  refine fix34 hg fun h44 O44 => ⟨_, _, _, _, rfl, ?_⟩
  have A44 := A43.only O44 (by simp)
  have V44 := V43.only O44 (by simp)
  have P44 := P43.trans O44 (by simp)
  have Z44_13 := Z43_13.only O44 (by simp)
  have Z44_12 := Y43.only O44 (by simp)
  refine rd4 A44 ⟨rfl, rfl, rfl, rdva V44 hk ?_⟩
  refine fix34 hg fun h45 O45 => ⟨_, _, _, _, rfl, ?_⟩
  have A45 := A44.only O45 (by simp)
  have V45 := V44.only O45 (by simp)
  have P45 := P44.trans O45 (by simp)
  have Z45_13 := Z44_13.only O45 (by simp)
  have Z45_12 := Z44_12.only O45 (by simp)
  refine wr_put (g := fixA (f k : Int) false g) Z45_12 fun h46 S46 Q46 => wr_put (g := fixA (f k : Int) true g) (Z45_13.only Q46 (by simp; omega)) fun k46 T46 R46 => ?_
  exact hK k46 _ _ g43 g35 (S46.only R46 (by simp; omega)) T46 (((P45.trans Q46 (by intro x hx hl; simp at hx; omega))).trans R46 (by intro x hx hl; simp at hx; omega))
end Go.Proofs.YtnbnlhpleomaoaaGreat.Ev
