/- PRINTED BY PROGRAM: what each of these functions does, computed over heaps by the evaluator, and that its calls do so. Conditions: none. -/
import Derived.Test.YtkdegjjenbbjfaaTX
namespace Go.Proofs.Ytkdegjjenbbjfaa.Ev
open Go
-- (*spinney/ranks.pile).Len
namespace F52
def T : Hint := ⟨[], []⟩
noncomputable def body : Code := (Try.f52.body).getD .skip
def J0 (x0 : Addr) (h : Heap) (K : Value → Heap → Prop) : Prop :=
  ldS (rd h (Addr.add x0 0)) (fun _ l2 _ => K (.int .i64 (Nat.cast l2 : Int)) h)
theorem E0 (S : Stop) (x0 : Addr) (h : Heap) (K : Value → Heap → Prop) :
    (E Try.prog X T S body (fin Try.prog Try.f52.results.toList K) (args0 0 [(.pointer (some x0))]) h) = J0 x0 h K := by kernel_rfl
def w (x0 : Addr) (h : Heap) (K : Value → Heap → Prop) : Prop :=
  J0 x0 h K
theorem e0 (K : Value → Heap → Prop) (x0 : Addr) (h : Heap) : (E Try.prog X T S0 body (fin Try.prog Try.f52.results.toList K) (args0 0 [(.pointer (some x0))]) h) = w x0 h K :=
  (E0 S0 x0 h K).trans (rfl)
theorem hb : Try.f52.body = some body := by kernel_rfl
theorem ok : okCode T Try.f52.ntmps body = true := by kernel_rfl
theorem spec (x0 : Addr) (h : Heap) (K : Value → Heap → Prop) (H : w x0 h K) : CallsH Try.prog 52 [(.pointer (some x0))] h K :=
  calls_of_E (T := T) Xok mix Try.func52 hb ok rfl (by rw [e0]; exact H)
end F52
-- (*spinney/ranks.pile).Less
namespace F87
def T : Hint := ⟨[], [(1, [[(0, []), (1, []), (2, []), (3, []), (4, []), (5, []), (6, []), (7, []), (8, []), (9, []), (10, []), (11, []), (12, []), (13, []), (14, [0, 1, 2, 3, 4, 5, 6, 7, 8, 9, 10, 11, 12, 13]), (15, [0, 1, 2, 3, 4, 5, 6, 7, 8, 9, 10, 11, 12, 13]), (16, [7, 8, 9, 10, 11, 12, 13]), (17, [])], [(0, []), (1, []), (2, []), (3, []), (4, []), (5, []), (6, []), (7, []), (8, []), (9, []), (10, []), (11, []), (12, []), (13, []), (15, [0, 1, 2, 3, 4, 5, 6, 7, 8, 9, 10, 11, 12, 13]), (14, [0, 1, 2, 3, 4, 5, 6, 7, 8, 9, 10, 11, 12, 13]), (16, [7, 8, 9, 10, 11, 12, 13]), (17, [])]])]⟩
noncomputable def body : Code := (Try.f87.body).getD .skip
def J0 (x0 : Addr) (x1 : Int) (x2 : Int) (h : Heap) (K : Value → Heap → Prop) : Prop :=
  (ldS (rd h (Addr.add x0 0)) (fun p1 l2 c3 => ptrK p1 (fun a4 => (0 ≤ x1 ∧ x1 < (Nat.cast l2 : Int) ∧ ldI .i64 (rd h (Addr.add (Addr.add a4 (Int.toNat x1 * 2)) 0)) (fun n5 => ldI .i64 (rd h (Addr.add (Addr.add a4 (Int.toNat x1 * 2)) 1)) (fun n6 => ldS (rd h (Addr.add x0 0)) (fun p7 l8 c9 => ptrK p7 (fun a10 => (0 ≤ x2 ∧ x2 < (Nat.cast l8 : Int) ∧ ldI .i64 (rd h (Addr.add (Addr.add a10 (Int.toNat x2 * 2)) 0)) (fun n11 => ldI .i64 (rd h (Addr.add (Addr.add a10 (Int.toNat x2 * 2)) 1)) (fun n12 => newK h (.cells #[(.int .i64 (0 : Int)), (.int .i64 (0 : Int))] 57) (fun b13 h14 => ((.pointer (some x0)) = ((.pointer (some x0)) : Value) ∧ ((.pointer (some x0)) = ((.pointer (some x0)) : Value) ∧ ((.pointer (some (Addr.add x0 0))) = ((.pointer (some (Addr.add x0 0))) : Value) ∧ ldS (rd h14 (Addr.add x0 0)) (fun p15 l16 c17 => ((.slice p15 l16 c17) = ((.slice p1 l2 c3) : Value) ∧ ((.int .i64 x1) = ((.int .i64 x1) : Value) ∧ ptrK p1 (fun a18 => (0 ≤ x1 ∧ x1 < (Nat.cast l2 : Int) ∧ ((.pointer (some (Addr.add a18 (Int.toNat x1 * 2)))) = ((.pointer (some (Addr.add a4 (Int.toNat x1 * 2)))) : Value) ∧ ldI .i64 (rd h14 (Addr.add (Addr.add a4 (Int.toNat x1 * 2)) 0)) (fun n19 => ldI .i64 (rd h14 (Addr.add (Addr.add a4 (Int.toNat x1 * 2)) 1)) (fun n20 => ((.agg #[(.int .i64 n19), (.int .i64 n20)]) = ((.agg #[(.int .i64 n5), (.int .i64 n6)]) : Value) ∧ ((.pointer (some x0)) = ((.pointer (some x0)) : Value) ∧ ((.pointer (some x0)) = ((.pointer (some x0)) : Value) ∧ ((.pointer (some (Addr.add x0 0))) = ((.pointer (some (Addr.add x0 0))) : Value) ∧ ldS (rd h14 (Addr.add x0 0)) (fun p21 l22 c23 => ((.slice p21 l22 c23) = ((.slice p7 l8 c9) : Value) ∧ ((.int .i64 x2) = ((.int .i64 x2) : Value) ∧ ptrK p7 (fun a24 => (0 ≤ x2 ∧ x2 < (Nat.cast l8 : Int) ∧ ((.pointer (some (Addr.add a24 (Int.toNat x2 * 2)))) = ((.pointer (some (Addr.add a10 (Int.toNat x2 * 2)))) : Value) ∧ ldI .i64 (rd h14 (Addr.add (Addr.add a10 (Int.toNat x2 * 2)) 0)) (fun n25 => ldI .i64 (rd h14 (Addr.add (Addr.add a10 (Int.toNat x2 * 2)) 1)) (fun n26 => ((.agg #[(.int .i64 n25), (.int .i64 n26)]) = ((.agg #[(.int .i64 n11), (.int .i64 n12)]) : Value) ∧ newK h14 (.cells #[(.int .i64 (0 : Int)), (.int .i64 (0 : Int))] 57) (fun b27 h28 => ((.pointer (some x0)) = ((.pointer (some x0)) : Value) ∧ ((.pointer (some x0)) = ((.pointer (some x0)) : Value) ∧ ((.pointer (some (Addr.add x0 0))) = ((.pointer (some (Addr.add x0 0))) : Value) ∧ ldS (rd h28 (Addr.add x0 0)) (fun p29 l30 c31 => ((.slice p29 l30 c31) = ((.slice p1 l2 c3) : Value) ∧ ((.int .i64 x1) = ((.int .i64 x1) : Value) ∧ ptrK p1 (fun a32 => (0 ≤ x1 ∧ x1 < (Nat.cast l2 : Int) ∧ ((.pointer (some (Addr.add a32 (Int.toNat x1 * 2)))) = ((.pointer (some (Addr.add a4 (Int.toNat x1 * 2)))) : Value) ∧ ldI .i64 (rd h28 (Addr.add (Addr.add a4 (Int.toNat x1 * 2)) 0)) (fun n33 => ldI .i64 (rd h28 (Addr.add (Addr.add a4 (Int.toNat x1 * 2)) 1)) (fun n34 => ((.agg #[(.int .i64 n33), (.int .i64 n34)]) = ((.agg #[(.int .i64 n5), (.int .i64 n6)]) : Value) ∧ ((.pointer (some x0)) = ((.pointer (some x0)) : Value) ∧ ((.pointer (some x0)) = ((.pointer (some x0)) : Value) ∧ ((.pointer (some (Addr.add x0 0))) = ((.pointer (some (Addr.add x0 0))) : Value) ∧ ldS (rd h28 (Addr.add x0 0)) (fun p35 l36 c37 => ((.slice p35 l36 c37) = ((.slice p7 l8 c9) : Value) ∧ ((.int .i64 x2) = ((.int .i64 x2) : Value) ∧ ptrK p7 (fun a38 => (0 ≤ x2 ∧ x2 < (Nat.cast l8 : Int) ∧ ((.pointer (some (Addr.add a38 (Int.toNat x2 * 2)))) = ((.pointer (some (Addr.add a10 (Int.toNat x2 * 2)))) : Value) ∧ ldI .i64 (rd h28 (Addr.add (Addr.add a10 (Int.toNat x2 * 2)) 0)) (fun n39 => ldI .i64 (rd h28 (Addr.add (Addr.add a10 (Int.toNat x2 * 2)) 1)) (fun n40 => ((.agg #[(.int .i64 n39), (.int .i64 n40)]) = ((.agg #[(.int .i64 n11), (.int .i64 n12)]) : Value) ∧ stK h28 (Addr.add (Addr.mk b13 0 none) 0) (.int .i64 n5) (fun h41 => stK h41 (Addr.add (Addr.mk b13 0 none) 1) (.int .i64 n6) (fun h42 => ((.pointer (some x0)) = ((.pointer (some x0)) : Value) ∧ ((.pointer (some x0)) = ((.pointer (some x0)) : Value) ∧ ((.pointer (some (Addr.add x0 0))) = ((.pointer (some (Addr.add x0 0))) : Value) ∧ ldS (rd h42 (Addr.add x0 0)) (fun p43 l44 c45 => ((.slice p43 l44 c45) = ((.slice p7 l8 c9) : Value) ∧ ((.int .i64 x2) = ((.int .i64 x2) : Value) ∧ ptrK p7 (fun a46 => (0 ≤ x2 ∧ x2 < (Nat.cast l8 : Int) ∧ ((.pointer (some (Addr.add a46 (Int.toNat x2 * 2)))) = ((.pointer (some (Addr.add a10 (Int.toNat x2 * 2)))) : Value) ∧ ldI .i64 (rd h42 (Addr.add (Addr.add a10 (Int.toNat x2 * 2)) 0)) (fun n47 => ldI .i64 (rd h42 (Addr.add (Addr.add a10 (Int.toNat x2 * 2)) 1)) (fun n48 => ((.agg #[(.int .i64 n47), (.int .i64 n48)]) = ((.agg #[(.int .i64 n11), (.int .i64 n12)]) : Value) ∧ stK h42 (Addr.add (Addr.mk b27 0 none) 0) (.int .i64 n11) (fun h49 => stK h49 (Addr.add (Addr.mk b27 0 none) 1) (.int .i64 n12) (fun h50 => ldI .i64 (rd h50 (Addr.add (Addr.mk b13 0 none) 1)) (fun n51 => ldI .i64 (rd h50 (Addr.add (Addr.mk b27 0 none) 1)) (fun n52 => bcase (decide (n51 > n52)) (K (.bool true) h50) (ldI .i64 (rd h50 (Addr.add (Addr.mk b13 0 none) 1)) (fun n53 => ldI .i64 (rd h50 (Addr.add (Addr.mk b27 0 none) 1)) (fun n54 => bcase (n53 == n54) (ldI .i64 (rd h50 (Addr.add (Addr.mk b13 0 none) 0)) (fun n55 => ldI .i64 (rd h50 (Addr.add (Addr.mk b27 0 none) 0)) (fun n56 => K (.bool (decide (n55 < n56))) h50))) (K (.bool false) h50)))))))))))))))))))))))))))))))))))))))))))))))))))))))))))))))))))))))))))))))))) ∧ ldS (rd h (Addr.add x0 0)) (fun p57 l58 c59 => ptrK p57 (fun a60 => (0 ≤ x1 ∧ x1 < (Nat.cast l58 : Int) ∧ ldI .i64 (rd h (Addr.add (Addr.add a60 (Int.toNat x1 * 2)) 0)) (fun n61 => ldI .i64 (rd h (Addr.add (Addr.add a60 (Int.toNat x1 * 2)) 1)) (fun n62 => ldS (rd h (Addr.add x0 0)) (fun p63 l64 c65 => ptrK p63 (fun a66 => (0 ≤ x2 ∧ x2 < (Nat.cast l64 : Int) ∧ ldI .i64 (rd h (Addr.add (Addr.add a66 (Int.toNat x2 * 2)) 0)) (fun n67 => ldI .i64 (rd h (Addr.add (Addr.add a66 (Int.toNat x2 * 2)) 1)) (fun n68 => newK h (.cells #[(.int .i64 (0 : Int)), (.int .i64 (0 : Int))] 57) (fun b69 h70 => ((.pointer (some x0)) = ((.pointer (some x0)) : Value) ∧ ((.pointer (some x0)) = ((.pointer (some x0)) : Value) ∧ ((.pointer (some (Addr.add x0 0))) = ((.pointer (some (Addr.add x0 0))) : Value) ∧ ldS (rd h70 (Addr.add x0 0)) (fun p71 l72 c73 => ((.slice p71 l72 c73) = ((.slice p57 l58 c59) : Value) ∧ ((.int .i64 x1) = ((.int .i64 x1) : Value) ∧ ptrK p57 (fun a74 => (0 ≤ x1 ∧ x1 < (Nat.cast l58 : Int) ∧ ((.pointer (some (Addr.add a74 (Int.toNat x1 * 2)))) = ((.pointer (some (Addr.add a60 (Int.toNat x1 * 2)))) : Value) ∧ ldI .i64 (rd h70 (Addr.add (Addr.add a60 (Int.toNat x1 * 2)) 0)) (fun n75 => ldI .i64 (rd h70 (Addr.add (Addr.add a60 (Int.toNat x1 * 2)) 1)) (fun n76 => ((.agg #[(.int .i64 n75), (.int .i64 n76)]) = ((.agg #[(.int .i64 n61), (.int .i64 n62)]) : Value) ∧ ((.pointer (some x0)) = ((.pointer (some x0)) : Value) ∧ ((.pointer (some x0)) = ((.pointer (some x0)) : Value) ∧ ((.pointer (some (Addr.add x0 0))) = ((.pointer (some (Addr.add x0 0))) : Value) ∧ ldS (rd h70 (Addr.add x0 0)) (fun p77 l78 c79 => ((.slice p77 l78 c79) = ((.slice p63 l64 c65) : Value) ∧ ((.int .i64 x2) = ((.int .i64 x2) : Value) ∧ ptrK p63 (fun a80 => (0 ≤ x2 ∧ x2 < (Nat.cast l64 : Int) ∧ ((.pointer (some (Addr.add a80 (Int.toNat x2 * 2)))) = ((.pointer (some (Addr.add a66 (Int.toNat x2 * 2)))) : Value) ∧ ldI .i64 (rd h70 (Addr.add (Addr.add a66 (Int.toNat x2 * 2)) 0)) (fun n81 => ldI .i64 (rd h70 (Addr.add (Addr.add a66 (Int.toNat x2 * 2)) 1)) (fun n82 => ((.agg #[(.int .i64 n81), (.int .i64 n82)]) = ((.agg #[(.int .i64 n67), (.int .i64 n68)]) : Value) ∧ newK h70 (.cells #[(.int .i64 (0 : Int)), (.int .i64 (0 : Int))] 57) (fun b83 h84 => ((.pointer (some x0)) = ((.pointer (some x0)) : Value) ∧ ((.pointer (some x0)) = ((.pointer (some x0)) : Value) ∧ ((.pointer (some (Addr.add x0 0))) = ((.pointer (some (Addr.add x0 0))) : Value) ∧ ldS (rd h84 (Addr.add x0 0)) (fun p85 l86 c87 => ((.slice p85 l86 c87) = ((.slice p57 l58 c59) : Value) ∧ ((.int .i64 x1) = ((.int .i64 x1) : Value) ∧ ptrK p57 (fun a88 => (0 ≤ x1 ∧ x1 < (Nat.cast l58 : Int) ∧ ((.pointer (some (Addr.add a88 (Int.toNat x1 * 2)))) = ((.pointer (some (Addr.add a60 (Int.toNat x1 * 2)))) : Value) ∧ ldI .i64 (rd h84 (Addr.add (Addr.add a60 (Int.toNat x1 * 2)) 0)) (fun n89 => ldI .i64 (rd h84 (Addr.add (Addr.add a60 (Int.toNat x1 * 2)) 1)) (fun n90 => ((.agg #[(.int .i64 n89), (.int .i64 n90)]) = ((.agg #[(.int .i64 n61), (.int .i64 n62)]) : Value) ∧ ((.pointer (some x0)) = ((.pointer (some x0)) : Value) ∧ ((.pointer (some x0)) = ((.pointer (some x0)) : Value) ∧ ((.pointer (some (Addr.add x0 0))) = ((.pointer (some (Addr.add x0 0))) : Value) ∧ ldS (rd h84 (Addr.add x0 0)) (fun p91 l92 c93 => ((.slice p91 l92 c93) = ((.slice p63 l64 c65) : Value) ∧ ((.int .i64 x2) = ((.int .i64 x2) : Value) ∧ ptrK p63 (fun a94 => (0 ≤ x2 ∧ x2 < (Nat.cast l64 : Int) ∧ ((.pointer (some (Addr.add a94 (Int.toNat x2 * 2)))) = ((.pointer (some (Addr.add a66 (Int.toNat x2 * 2)))) : Value) ∧ ldI .i64 (rd h84 (Addr.add (Addr.add a66 (Int.toNat x2 * 2)) 0)) (fun n95 => ldI .i64 (rd h84 (Addr.add (Addr.add a66 (Int.toNat x2 * 2)) 1)) (fun n96 => ((.agg #[(.int .i64 n95), (.int .i64 n96)]) = ((.agg #[(.int .i64 n67), (.int .i64 n68)]) : Value) ∧ stK h84 (Addr.add (Addr.mk b83 0 none) 0) (.int .i64 n61) (fun h97 => stK h97 (Addr.add (Addr.mk b83 0 none) 1) (.int .i64 n62) (fun h98 => ((.pointer (some x0)) = ((.pointer (some x0)) : Value) ∧ ((.pointer (some x0)) = ((.pointer (some x0)) : Value) ∧ ((.pointer (some (Addr.add x0 0))) = ((.pointer (some (Addr.add x0 0))) : Value) ∧ ldS (rd h98 (Addr.add x0 0)) (fun p99 l100 c101 => ((.slice p99 l100 c101) = ((.slice p63 l64 c65) : Value) ∧ ((.int .i64 x2) = ((.int .i64 x2) : Value) ∧ ptrK p63 (fun a102 => (0 ≤ x2 ∧ x2 < (Nat.cast l64 : Int) ∧ ((.pointer (some (Addr.add a102 (Int.toNat x2 * 2)))) = ((.pointer (some (Addr.add a66 (Int.toNat x2 * 2)))) : Value) ∧ ldI .i64 (rd h98 (Addr.add (Addr.add a66 (Int.toNat x2 * 2)) 0)) (fun n103 => ldI .i64 (rd h98 (Addr.add (Addr.add a66 (Int.toNat x2 * 2)) 1)) (fun n104 => ((.agg #[(.int .i64 n103), (.int .i64 n104)]) = ((.agg #[(.int .i64 n67), (.int .i64 n68)]) : Value) ∧ stK h98 (Addr.add (Addr.mk b69 0 none) 0) (.int .i64 n67) (fun h105 => stK h105 (Addr.add (Addr.mk b69 0 none) 1) (.int .i64 n68) (fun h106 => ldI .i64 (rd h106 (Addr.add (Addr.mk b83 0 none) 1)) (fun n107 => ldI .i64 (rd h106 (Addr.add (Addr.mk b69 0 none) 1)) (fun n108 => bcase (decide (n107 > n108)) (K (.bool true) h106) (ldI .i64 (rd h106 (Addr.add (Addr.mk b83 0 none) 1)) (fun n109 => ldI .i64 (rd h106 (Addr.add (Addr.mk b69 0 none) 1)) (fun n110 => bcase (n109 == n110) (ldI .i64 (rd h106 (Addr.add (Addr.mk b83 0 none) 0)) (fun n111 => ldI .i64 (rd h106 (Addr.add (Addr.mk b69 0 none) 0)) (fun n112 => K (.bool (decide (n111 < n112))) h106))) (K (.bool false) h106)))))))))))))))))))))))))))))))))))))))))))))))))))))))))))))))))))))))))))))))))))
theorem E0 (S : Stop) (x0 : Addr) (x1 : Int) (x2 : Int) (h : Heap) (K : Value → Heap → Prop) :
    (E Try.prog X T S body (fin Try.prog Try.f87.results.toList K) (args0 0 [(.pointer (some x0)), (.int .i64 x1), (.int .i64 x2)]) h) = J0 x0 x1 x2 h K := by kernel_rfl
def w (x0 : Addr) (x1 : Int) (x2 : Int) (h : Heap) (K : Value → Heap → Prop) : Prop :=
  J0 x0 x1 x2 h K
theorem e0 (K : Value → Heap → Prop) (x0 : Addr) (x1 : Int) (x2 : Int) (h : Heap) : (E Try.prog X T S0 body (fin Try.prog Try.f87.results.toList K) (args0 0 [(.pointer (some x0)), (.int .i64 x1), (.int .i64 x2)]) h) = w x0 x1 x2 h K :=
  (E0 S0 x0 x1 x2 h K).trans (rfl)
theorem hb : Try.f87.body = some body := by kernel_rfl
theorem ok : okCode T Try.f87.ntmps body = true := by kernel_rfl
theorem spec (x0 : Addr) (x1 : Int) (x2 : Int) (h : Heap) (K : Value → Heap → Prop) (H : w x0 x1 x2 h K) : CallsH Try.prog 87 [(.pointer (some x0)), (.int .i64 x1), (.int .i64 x2)] h K :=
  calls_of_E (T := T) Xok mix Try.func87 hb ok rfl (by rw [e0]; exact H)
end F87
-- (*spinney/ranks.pile).Pop
namespace F88
def T : Hint := ⟨[], [(4, [[(0, []), (1, []), (2, []), (3, []), (4, []), (5, []), (6, [])]])]⟩
noncomputable def body : Code := (Try.f88.body).getD .skip
def J0 (x0 : Addr) (h : Heap) (K : Value → Heap → Prop) : Prop :=
  ldS (rd h (Addr.add x0 0)) (fun _ l2 _ => ldS (rd h (Addr.add x0 0)) (fun p4 l5 _ => ptrK p4 (fun a7 => (0 ≤ (IntKind.wrap .i64 ((Nat.cast l2 : Int) - (1 : Int))) ∧ (IntKind.wrap .i64 ((Nat.cast l2 : Int) - (1 : Int))) < (Nat.cast l5 : Int) ∧ ldI .i64 (rd h (Addr.add (Addr.add a7 (Int.toNat (IntKind.wrap .i64 ((Nat.cast l2 : Int) - (1 : Int))) * 2)) 0)) (fun n8 => ldI .i64 (rd h (Addr.add (Addr.add a7 (Int.toNat (IntKind.wrap .i64 ((Nat.cast l2 : Int) - (1 : Int))) * 2)) 1)) (fun n9 => newK h (.cells #[(.int .i64 (0 : Int)), (.int .i64 (0 : Int))] 57) (fun b10 h11 => stK h11 (Addr.add (Addr.mk b10 0 none) 0) (.int .i64 n8) (fun h12 => stK h12 (Addr.add (Addr.mk b10 0 none) 1) (.int .i64 n9) (fun h13 => ldS (rd h13 (Addr.add x0 0)) (fun p14 _ c16 => (0 ≤ (IntKind.wrap .i64 ((Nat.cast l2 : Int) - (1 : Int))) ∧ (IntKind.wrap .i64 ((Nat.cast l2 : Int) - (1 : Int))) ≤ (Nat.cast c16 : Int) ∧ stK h13 (Addr.add (Addr.add x0 0) 0) (.slice (if c16 = 0 then p14 else Option.map (fun a => Addr.add a (0 * 2)) p14) (Int.toNat (IntKind.wrap .i64 ((Nat.cast l2 : Int) - (1 : Int))) - 0) (c16 - 0)) (fun h17 => ldM (rd h17 (Addr.add x0 1)) (fun r18 => ldI .i64 (rd h17 (Addr.add (Addr.mk b10 0 none) 0)) (fun n19 => delK h17 r18 .i64 .i64 n19 (fun h20 => ldI .i64 (rd h20 (Addr.add (Addr.mk b10 0 none) 0)) (fun n21 => ldI .i64 (rd h20 (Addr.add (Addr.mk b10 0 none) 1)) (fun n22 => K (.iface 57 (.agg #[(.int .i64 n21), (.int .i64 n22)])) h20)))))))))))))))))
theorem E0 (S : Stop) (x0 : Addr) (h : Heap) (K : Value → Heap → Prop) :
    (E Try.prog X T S body (fin Try.prog Try.f88.results.toList K) (args0 0 [(.pointer (some x0))]) h) = J0 x0 h K := by kernel_rfl
def w (x0 : Addr) (h : Heap) (K : Value → Heap → Prop) : Prop :=
  J0 x0 h K
theorem e0 (K : Value → Heap → Prop) (x0 : Addr) (h : Heap) : (E Try.prog X T S0 body (fin Try.prog Try.f88.results.toList K) (args0 0 [(.pointer (some x0))]) h) = w x0 h K :=
  (E0 S0 x0 h K).trans (rfl)
theorem hb : Try.f88.body = some body := by kernel_rfl
theorem ok : okCode T Try.f88.ntmps body = true := by kernel_rfl
theorem spec (x0 : Addr) (h : Heap) (K : Value → Heap → Prop) (H : w x0 h K) : CallsH Try.prog 88 [(.pointer (some x0))] h K :=
  calls_of_E (T := T) Xok mix Try.func88 hb ok rfl (by rw [e0]; exact H)
end F88
-- (*spinney/ranks.pile).Push
namespace F89
def T : Hint := ⟨[], [(1, [[(0, []), (1, []), (2, []), (3, []), (4, []), (5, []), (6, []), (7, []), (8, []), (9, []), (10, []), (11, [])]]), (2, [[(0, []), (1, []), (2, []), (3, []), (4, []), (5, []), (6, [0, 1, 2, 3, 4]), (7, [0]), (8, []), (9, []), (10, [])]])]⟩
noncomputable def body : Code := (Try.f89.body).getD .skip
def J0 (x0 : Addr) (x1_0 : Int) (x1_1 : Int) (h : Heap) (K : Value → Heap → Prop) : Prop :=
  newK h (.cells #[(.int .i64 (0 : Int)), (.int .i64 (0 : Int))] 57) (fun b1 h2 => stK h2 (Addr.add (Addr.mk b1 0 none) 0) (.int .i64 x1_0) (fun h3 => stK h3 (Addr.add (Addr.mk b1 0 none) 1) (.int .i64 x1_1) (fun h4 => ldM (rd h4 (Addr.add x0 1)) (fun r5 => ldI .i64 (rd h4 (Addr.add (Addr.mk b1 0 none) 0)) (fun n6 => ldS (rd h4 (Addr.add x0 0)) (fun _ l8 _ => updK h4 r5 .i64 .i64 n6 (.int .i64 (Nat.cast l8 : Int)) (fun h10 => ldS (rd h10 (Addr.add x0 0)) (fun p11 l12 c13 => ldI .i64 (rd h10 (Addr.add (Addr.mk b1 0 none) 0)) (fun n14 => ldI .i64 (rd h10 (Addr.add (Addr.mk b1 0 none) 1)) (fun n15 => newK h10 (.cells #[(.int .i64 n14), (.int .i64 n15)] 57) (fun b16 h17 => ((.pointer (some x0)) = ((.pointer (some x0)) : Value) ∧ ((.pointer (some x0)) = ((.pointer (some x0)) : Value) ∧ ((.pointer (some x0)) = ((.pointer (some x0)) : Value) ∧ ((.pointer (some (Addr.add x0 0))) = ((.pointer (some (Addr.add x0 0))) : Value) ∧ ldS (rd h17 (Addr.add x0 0)) (fun p18 l19 c20 => ((.slice p18 l19 c20) = ((.slice p11 l12 c13) : Value) ∧ appK h17 57 2 16 #[(.int .i64 (0 : Int)), (.int .i64 (0 : Int))] p11 l12 c13 (some (Addr.mk b16 0 none)) 1 (fun p21 l22 c23 h24 => ((.pointer (some x0)) = ((.pointer (some x0)) : Value) ∧ stK h24 (Addr.add (Addr.add x0 0) 0) (.slice p21 l22 c23) (fun h25 => K (.tuple #[]) h25))))))))))))))))))))
theorem E0 (S : Stop) (x0 : Addr) (x1_0 : Int) (x1_1 : Int) (h : Heap) (K : Value → Heap → Prop) :
    (E Try.prog X T S body (fin Try.prog Try.f89.results.toList K) (args0 0 [(.pointer (some x0)), (.iface 57 (.agg #[(.int .i64 x1_0), (.int .i64 x1_1)]))]) h) = J0 x0 x1_0 x1_1 h K := by kernel_rfl
def w (x0 : Addr) (x1_0 : Int) (x1_1 : Int) (h : Heap) (K : Value → Heap → Prop) : Prop :=
  J0 x0 x1_0 x1_1 h K
theorem e0 (K : Value → Heap → Prop) (x0 : Addr) (x1_0 : Int) (x1_1 : Int) (h : Heap) : (E Try.prog X T S0 body (fin Try.prog Try.f89.results.toList K) (args0 0 [(.pointer (some x0)), (.iface 57 (.agg #[(.int .i64 x1_0), (.int .i64 x1_1)]))]) h) = w x0 x1_0 x1_1 h K :=
  (E0 S0 x0 x1_0 x1_1 h K).trans (rfl)
theorem hb : Try.f89.body = some body := by kernel_rfl
theorem ok : okCode T Try.f89.ntmps body = true := by kernel_rfl
theorem spec (x0 : Addr) (x1_0 : Int) (x1_1 : Int) (h : Heap) (K : Value → Heap → Prop) (H : w x0 x1_0 x1_1 h K) : CallsH Try.prog 89 [(.pointer (some x0)), (.iface 57 (.agg #[(.int .i64 x1_0), (.int .i64 x1_1)]))] h K :=
  calls_of_E (T := T) Xok mix Try.func89 hb ok rfl (by rw [e0]; exact H)
end F89
-- (*spinney/ranks.pile).Swap
namespace F90
def T : Hint := ⟨[], [(0, [[(0, []), (1, []), (2, []), (3, []), (4, []), (5, []), (6, []), (7, []), (8, []), (9, []), (10, []), (11, []), (12, []), (13, []), (14, []), (15, []), (16, []), (17, []), (18, []), (19, []), (20, []), (21, []), (22, []), (23, []), (24, []), (25, [9]), (26, []), (27, [])]]), (1, [[(0, []), (1, []), (2, []), (3, []), (4, []), (5, []), (6, []), (7, []), (8, []), (9, []), (10, []), (11, []), (12, []), (13, []), (14, []), (15, []), (16, []), (17, []), (18, []), (19, []), (20, []), (21, []), (22, []), (23, []), (24, []), (25, []), (26, [24, 25]), (27, []), (28, [25]), (29, [25]), (30, []), (31, [])]])]⟩
noncomputable def body : Code := (Try.f90.body).getD .skip
def J0 (x0 : Addr) (x1 : Int) (x2 : Int) (h : Heap) (K : Value → Heap → Prop) : Prop :=
  ldS (rd h (Addr.add x0 0)) (fun p1 l2 _ => ldS (rd h (Addr.add x0 0)) (fun p4 l5 _ => ldS (rd h (Addr.add x0 0)) (fun p7 l8 _ => ptrK p7 (fun a10 => (0 ≤ x2 ∧ x2 < (Nat.cast l8 : Int) ∧ ldI .i64 (rd h (Addr.add (Addr.add a10 (Int.toNat x2 * 2)) 0)) (fun n11 => ldI .i64 (rd h (Addr.add (Addr.add a10 (Int.toNat x2 * 2)) 1)) (fun n12 => ldS (rd h (Addr.add x0 0)) (fun p13 l14 _ => ptrK p13 (fun a16 => (0 ≤ x1 ∧ x1 < (Nat.cast l14 : Int) ∧ ldI .i64 (rd h (Addr.add (Addr.add a16 (Int.toNat x1 * 2)) 0)) (fun n17 => ldI .i64 (rd h (Addr.add (Addr.add a16 (Int.toNat x1 * 2)) 1)) (fun n18 => ptrK p1 (fun a19 => (0 ≤ x1 ∧ x1 < (Nat.cast l2 : Int) ∧ stK h (Addr.add (Addr.add a19 (Int.toNat x1 * 2)) 0) (.int .i64 n11) (fun h20 => stK h20 (Addr.add (Addr.add a19 (Int.toNat x1 * 2)) 1) (.int .i64 n12) (fun h21 => ((.int .i64 x2) = ((.int .i64 x2) : Value) ∧ ptrK p4 (fun a22 => (0 ≤ x2 ∧ x2 < (Nat.cast l5 : Int) ∧ stK h21 (Addr.add (Addr.add a22 (Int.toNat x2 * 2)) 0) (.int .i64 n17) (fun h23 => stK h23 (Addr.add (Addr.add a22 (Int.toNat x2 * 2)) 1) (.int .i64 n18) (fun h24 => ldM (rd h24 (Addr.add x0 1)) (fun r25 => ldS (rd h24 (Addr.add x0 0)) (fun p26 l27 _ => ptrK p26 (fun a29 => (0 ≤ x1 ∧ x1 < (Nat.cast l27 : Int) ∧ ldI .i64 (rd h24 (Addr.add (Addr.add a29 (Int.toNat x1 * 2)) 0)) (fun n30 => ldM (rd h24 (Addr.add x0 1)) (fun r31 => ldS (rd h24 (Addr.add x0 0)) (fun p32 l33 _ => ptrK p32 (fun a35 => (0 ≤ x2 ∧ x2 < (Nat.cast l33 : Int) ∧ ldI .i64 (rd h24 (Addr.add (Addr.add a35 (Int.toNat x2 * 2)) 0)) (fun n36 => entK h24 r25 .i64 .i64 n30 (.int .i64 (0 : Int)) (fun v38 s39 h37 => ldI .i64 (some v38) (fun _ => ((.int .i64 x1) = ((.int .i64 x1) : Value) ∧ ((.int .i64 x2) = ((.int .i64 x2) : Value) ∧ estK h37 r25 s39 (.int .i64 x1) (fun h41 => ((.int .i64 x2) = ((.int .i64 x2) : Value) ∧ entK h41 r31 .i64 .i64 n36 (.int .i64 (0 : Int)) (fun v43 s44 h42 => ldI .i64 (some v43) (fun _ => ((.int .i64 x2) = ((.int .i64 x2) : Value) ∧ estK h42 r31 s44 (.int .i64 x2) (fun h46 => K (.tuple #[]) h46)))))))))))))))))))))))))))))))))))))))))
theorem E0 (S : Stop) (x0 : Addr) (x1 : Int) (x2 : Int) (h : Heap) (K : Value → Heap → Prop) :
    (E Try.prog X T S body (fin Try.prog Try.f90.results.toList K) (args0 0 [(.pointer (some x0)), (.int .i64 x1), (.int .i64 x2)]) h) = J0 x0 x1 x2 h K := by kernel_rfl
def w (x0 : Addr) (x1 : Int) (x2 : Int) (h : Heap) (K : Value → Heap → Prop) : Prop :=
  J0 x0 x1 x2 h K
theorem e0 (K : Value → Heap → Prop) (x0 : Addr) (x1 : Int) (x2 : Int) (h : Heap) : (E Try.prog X T S0 body (fin Try.prog Try.f90.results.toList K) (args0 0 [(.pointer (some x0)), (.int .i64 x1), (.int .i64 x2)]) h) = w x0 x1 x2 h K :=
  (E0 S0 x0 x1 x2 h K).trans (rfl)
theorem hb : Try.f90.body = some body := by kernel_rfl
theorem ok : okCode T Try.f90.ntmps body = true := by kernel_rfl
theorem spec (x0 : Addr) (x1 : Int) (x2 : Int) (h : Heap) (K : Value → Heap → Prop) (H : w x0 x1 x2 h K) : CallsH Try.prog 90 [(.pointer (some x0)), (.int .i64 x1), (.int .i64 x2)] h K :=
  calls_of_E (T := T) Xok mix Try.func90 hb ok rfl (by rw [e0]; exact H)
end F90
-- container/heap.up
namespace F62
def T : Hint := ⟨[(0, [0, 1])], []⟩
noncomputable def body : Code := (Try.f62.body).getD .skip
def c0 (_S : Stop) (K : Value → Heap → Prop) : Exit → Fr → Heap → Prop := blockN 0 (fin Try.prog Try.f62.results.toList K)
def c1 (S : Stop) (n0 : Nat) (K : Value → Heap → Prop) : Exit → Fr → Heap → Prop := backN S (cutQ T (sub body [0, 0])) (loopN S (E Try.prog X T S (sub body [0, 0])) (cutQ T (sub body [0, 0])) (c0 S K) n0) (c0 S K)
def J0 (lp0 : Addr → Int → Heap → Prop) (x0 : Addr) (x1 : Int) (h : Heap) (_K : Value → Heap → Prop) : Prop :=
  lp0 x0 x1 h
theorem E0 (S : Stop) (x0 : Addr) (x1 : Int) (h : Heap) (K : Value → Heap → Prop) :
    (E Try.prog X T S body (fin Try.prog Try.f62.results.toList K) (args0 0 [(.iface 94 (.pointer (some x0))), (.int .i64 x1)]) h) = J0 (fun x0 x1 h => ∃ n, S (loopN S (E Try.prog X T S (sub body [0, 0])) (cutQ T (sub body [0, 0])) (c0 S K) n) [(0, (.iface 94 (.pointer (some x0)))), (1, (.int .i64 x1))] h) x0 x1 h K := by kernel_rfl
def JL0 (bk0 : Addr → Int → Heap → Prop) (x0 : Addr) (x1 : Int) (h : Heap) (K : Value → Heap → Prop) : Prop :=
  ((2 : Int) ≠ 0 ∧ bcase ((IntKind.wrap .i64 (Int.tdiv (IntKind.wrap .i64 (x1 - (1 : Int))) (2 : Int))) == x1) (K (.tuple #[]) h) (CallsH Try.prog 87 [(.pointer (some x0)), (.int .i64 x1), (.int .i64 (IntKind.wrap .i64 (Int.tdiv (IntKind.wrap .i64 (x1 - (1 : Int))) (2 : Int))))] h (fun v1 h2 => ldB (some v1) (fun b3 => bcase (!b3) (K (.tuple #[]) h2) (CallsH Try.prog 90 [(.pointer (some x0)), (.int .i64 (IntKind.wrap .i64 (Int.tdiv (IntKind.wrap .i64 (x1 - (1 : Int))) (2 : Int)))), (.int .i64 x1)] h2 (fun v4 h5 => (v4 = (.tuple #[]) ∧ bk0 x0 (IntKind.wrap .i64 (Int.tdiv (IntKind.wrap .i64 (x1 - (1 : Int))) (2 : Int))) h5)))))))
theorem EL0 (S : Stop) (n0 : Nat) (x0 : Addr) (x1 : Int) (h : Heap) (K : Value → Heap → Prop) :
    (E Try.prog X T S (sub body [0, 0]) (c1 S n0 K) [(0, (.iface 94 (.pointer (some x0)))), (1, (.int .i64 x1))] h) = JL0 (fun x0 x1 h => S (loopN S (E Try.prog X T S (sub body [0, 0])) (cutQ T (sub body [0, 0])) (c0 S K) n0) [(0, (.iface 94 (.pointer (some x0)))), (1, (.int .i64 x1))] h) x0 x1 h K := by kernel_rfl
def wL0 : Nat → Addr → Int → Heap → (Value → Heap → Prop) → Prop
  | 0, _, _, _, _ => False
  | n + 1, x0, x1, h, K => JL0 (fun x0 x1 h => wL0 n x0 x1 h K) x0 x1 h K
theorem eL0 (K : Value → Heap → Prop) : ∀ (n : Nat) (x0 : Addr) (x1 : Int) (h : Heap), (loopN S0 (E Try.prog X T S0 (sub body [0, 0])) (cutQ T (sub body [0, 0])) (c0 S0 K) n [(0, (.iface 94 (.pointer (some x0)))), (1, (.int .i64 x1))] h) = wL0 n x0 x1 h K
  | 0, _, _, _ => rfl
  | n + 1, x0, x1, h => (EL0 S0 n x0 x1 h K).trans (congrFun (congrFun (congrFun (congrFun (congrArg JL0 (funext fun x0 => funext fun x1 => funext fun h => (fun x0 x1 h => eL0 K n x0 x1 h) x0 x1 h)) x0) x1) h) K)
def w (x0 : Addr) (x1 : Int) (h : Heap) (K : Value → Heap → Prop) : Prop :=
  J0 (fun x0 x1 h => ∃ n, wL0 n x0 x1 h K) x0 x1 h K
theorem e0 (K : Value → Heap → Prop) (x0 : Addr) (x1 : Int) (h : Heap) : (E Try.prog X T S0 body (fin Try.prog Try.f62.results.toList K) (args0 0 [(.iface 94 (.pointer (some x0))), (.int .i64 x1)]) h) = w x0 x1 h K :=
  (E0 S0 x0 x1 h K).trans (congrFun (congrFun (congrFun (congrFun (congrArg J0 (funext fun x0 => funext fun x1 => funext fun h => congrArg (fun p : Nat → Prop => ∃ n, p n) (funext fun n => eL0 K n x0 x1 h))) x0) x1) h) K)
theorem hb : Try.f62.body = some body := by kernel_rfl
theorem ok : okCode T Try.f62.ntmps body = true := by kernel_rfl
theorem spec (x0 : Addr) (x1 : Int) (h : Heap) (K : Value → Heap → Prop) (H : w x0 x1 h K) : CallsH Try.prog 62 [(.iface 94 (.pointer (some x0))), (.int .i64 x1)] h K :=
  calls_of_E (T := T) Xok mix Try.func62 hb ok rfl (by rw [e0]; exact H)
end F62
-- container/heap.down
namespace F64
def T : Hint := ⟨[(2, [0, 1, 2, 7]), (8, [0, 1, 2, 7, 9]), (11, [1, 7])], []⟩
noncomputable def body : Code := (Try.f64.body).getD .skip
def c0 (S : Stop) (K : Value → Heap → Prop) : Exit → Fr → Heap → Prop := seqN S (cutQ T (sub body [1, 1, 1])) (E Try.prog X T S (sub body [1, 1, 1]) (fin Try.prog Try.f64.results.toList K)) (fin Try.prog Try.f64.results.toList K)
def c1 (S : Stop) (K : Value → Heap → Prop) : Exit → Fr → Heap → Prop := blockN 0 (c0 S K)
def c2 (S : Stop) (n2 : Nat) (K : Value → Heap → Prop) : Exit → Fr → Heap → Prop := backN S (cutQ T (sub body [1, 1, 0, 0, 0])) (loopN S (E Try.prog X T S (sub body [1, 1, 0, 0, 0])) (cutQ T (sub body [1, 1, 0, 0, 0])) (c1 S K) n2) (c1 S K)
def c3 (S : Stop) (n2 : Nat) (K : Value → Heap → Prop) : Exit → Fr → Heap → Prop := blockN 1 (c2 S n2 K)
def J0 (k2 : Addr → Int → Int → Int → Heap → Prop) (x0 : Addr) (x1 : Int) (x2 : Int) (h : Heap) (_K : Value → Heap → Prop) : Prop :=
  k2 x0 x1 x2 x1 h
theorem E0 (S : Stop) (x0 : Addr) (x1 : Int) (x2 : Int) (h : Heap) (K : Value → Heap → Prop) :
    (E Try.prog X T S body (fin Try.prog Try.f64.results.toList K) (args0 0 [(.iface 94 (.pointer (some x0))), (.int .i64 x1), (.int .i64 x2)]) h) = J0 (fun x0 x1 x2 x7 h => S (E Try.prog X T S (sub body [1, 1]) (fin Try.prog Try.f64.results.toList K)) [(0, (.iface 94 (.pointer (some x0)))), (1, (.int .i64 x1)), (2, (.int .i64 x2)), (7, (.int .i64 x7))] h) x0 x1 x2 h K := by kernel_rfl
def Jk2 (lp2 : Addr → Int → Int → Int → Heap → Prop) (x0 : Addr) (x1 : Int) (x2 : Int) (x7 : Int) (h : Heap) (_K : Value → Heap → Prop) : Prop :=
  lp2 x0 x1 x2 x7 h
theorem Ek2 (S : Stop) (x0 : Addr) (x1 : Int) (x2 : Int) (x7 : Int) (h : Heap) (K : Value → Heap → Prop) :
    (E Try.prog X T S (sub body [1, 1]) (fin Try.prog Try.f64.results.toList K) [(0, (.iface 94 (.pointer (some x0)))), (1, (.int .i64 x1)), (2, (.int .i64 x2)), (7, (.int .i64 x7))] h) = Jk2 (fun x0 x1 x2 x7 h => ∃ n, S (loopN S (E Try.prog X T S (sub body [1, 1, 0, 0, 0])) (cutQ T (sub body [1, 1, 0, 0, 0])) (c1 S K) n) [(0, (.iface 94 (.pointer (some x0)))), (1, (.int .i64 x1)), (2, (.int .i64 x2)), (7, (.int .i64 x7))] h) x0 x1 x2 x7 h K := by kernel_rfl
def JL2 (k11 : Int → Int → Heap → Prop) (k8 : Addr → Int → Int → Int → Int → Heap → Prop) (x0 : Addr) (x1 : Int) (x2 : Int) (x7 : Int) (h : Heap) (_K : Value → Heap → Prop) : Prop :=
  bcase (decide ((IntKind.wrap .i64 ((IntKind.wrap .i64 ((2 : Int) * x7)) + (1 : Int))) ≥ x2)) (k11 x1 x7 h) (bcase (decide ((IntKind.wrap .i64 ((IntKind.wrap .i64 ((2 : Int) * x7)) + (1 : Int))) < (0 : Int))) (k11 x1 x7 h) (bcase (decide ((IntKind.wrap .i64 ((IntKind.wrap .i64 ((IntKind.wrap .i64 ((2 : Int) * x7)) + (1 : Int))) + (1 : Int))) < x2)) (CallsH Try.prog 87 [(.pointer (some x0)), (.int .i64 (IntKind.wrap .i64 ((IntKind.wrap .i64 ((IntKind.wrap .i64 ((2 : Int) * x7)) + (1 : Int))) + (1 : Int)))), (.int .i64 (IntKind.wrap .i64 ((IntKind.wrap .i64 ((2 : Int) * x7)) + (1 : Int))))] h (fun v1 h2 => ldB (some v1) (fun b3 => bcase b3 (k8 x0 x1 x2 x7 (IntKind.wrap .i64 ((IntKind.wrap .i64 ((IntKind.wrap .i64 ((2 : Int) * x7)) + (1 : Int))) + (1 : Int))) h2) (k8 x0 x1 x2 x7 (IntKind.wrap .i64 ((IntKind.wrap .i64 ((2 : Int) * x7)) + (1 : Int))) h2)))) (k8 x0 x1 x2 x7 (IntKind.wrap .i64 ((IntKind.wrap .i64 ((2 : Int) * x7)) + (1 : Int))) h)))
theorem EL2 (S : Stop) (n2 : Nat) (x0 : Addr) (x1 : Int) (x2 : Int) (x7 : Int) (h : Heap) (K : Value → Heap → Prop) :
    (E Try.prog X T S (sub body [1, 1, 0, 0, 0]) (c2 S n2 K) [(0, (.iface 94 (.pointer (some x0)))), (1, (.int .i64 x1)), (2, (.int .i64 x2)), (7, (.int .i64 x7))] h) = JL2 (fun x1 x7 h => S (E Try.prog X T S (sub body [1, 1, 1]) (fin Try.prog Try.f64.results.toList K)) [(1, (.int .i64 x1)), (7, (.int .i64 x7))] h) (fun x0 x1 x2 x7 x9 h => S (E Try.prog X T S (sub body [1, 1, 0, 0, 0, 0, 1, 1, 1, 1]) (c3 S n2 K)) [(0, (.iface 94 (.pointer (some x0)))), (1, (.int .i64 x1)), (2, (.int .i64 x2)), (7, (.int .i64 x7)), (9, (.int .i64 x9))] h) x0 x1 x2 x7 h K := by kernel_rfl
def Jk11 (x1 : Int) (x7 : Int) (h : Heap) (K : Value → Heap → Prop) : Prop :=
  K (.bool (decide (x7 > x1))) h
theorem Ek11 (S : Stop) (x1 : Int) (x7 : Int) (h : Heap) (K : Value → Heap → Prop) :
    (E Try.prog X T S (sub body [1, 1, 1]) (fin Try.prog Try.f64.results.toList K) [(1, (.int .i64 x1)), (7, (.int .i64 x7))] h) = Jk11 x1 x7 h K := by kernel_rfl
def Jk8 (k11 : Int → Int → Heap → Prop) (bk2 : Addr → Int → Int → Int → Heap → Prop) (x0 : Addr) (x1 : Int) (x2 : Int) (x7 : Int) (x9 : Int) (h : Heap) (_K : Value → Heap → Prop) : Prop :=
  CallsH Try.prog 87 [(.pointer (some x0)), (.int .i64 x9), (.int .i64 x7)] h (fun v1 h2 => ldB (some v1) (fun b3 => bcase (!b3) (k11 x1 x7 h2) (CallsH Try.prog 90 [(.pointer (some x0)), (.int .i64 x7), (.int .i64 x9)] h2 (fun v4 h5 => (v4 = (.tuple #[]) ∧ bk2 x0 x1 x2 x9 h5)))))
theorem Ek8 (S : Stop) (n2 : Nat) (x0 : Addr) (x1 : Int) (x2 : Int) (x7 : Int) (x9 : Int) (h : Heap) (K : Value → Heap → Prop) :
    (E Try.prog X T S (sub body [1, 1, 0, 0, 0, 0, 1, 1, 1, 1]) (c3 S n2 K) [(0, (.iface 94 (.pointer (some x0)))), (1, (.int .i64 x1)), (2, (.int .i64 x2)), (7, (.int .i64 x7)), (9, (.int .i64 x9))] h) = Jk8 (fun x1 x7 h => S (E Try.prog X T S (sub body [1, 1, 1]) (fin Try.prog Try.f64.results.toList K)) [(1, (.int .i64 x1)), (7, (.int .i64 x7))] h) (fun x0 x1 x2 x7 h => S (loopN S (E Try.prog X T S (sub body [1, 1, 0, 0, 0])) (cutQ T (sub body [1, 1, 0, 0, 0])) (c1 S K) n2) [(0, (.iface 94 (.pointer (some x0)))), (1, (.int .i64 x1)), (2, (.int .i64 x2)), (7, (.int .i64 x7))] h) x0 x1 x2 x7 x9 h K := by kernel_rfl
def wk11 (x1 : Int) (x7 : Int) (h : Heap) (K : Value → Heap → Prop) : Prop :=
  Jk11 x1 x7 h K
theorem ek11 (K : Value → Heap → Prop) (x1 : Int) (x7 : Int) (h : Heap) : (E Try.prog X T S0 (sub body [1, 1, 1]) (fin Try.prog Try.f64.results.toList K) [(1, (.int .i64 x1)), (7, (.int .i64 x7))] h) = wk11 x1 x7 h K :=
  (Ek11 S0 x1 x7 h K).trans (rfl)
def wk8 (bk2 : Addr → Int → Int → Int → Heap → Prop) (x0 : Addr) (x1 : Int) (x2 : Int) (x7 : Int) (x9 : Int) (h : Heap) (K : Value → Heap → Prop) : Prop :=
  Jk8 (fun x1 x7 h => wk11 x1 x7 h K) bk2 x0 x1 x2 x7 x9 h K
theorem ek8 (K : Value → Heap → Prop) (n2 : Nat) (bk2 : Addr → Int → Int → Int → Heap → Prop) (hb2 : ∀ (x0 : Addr) (x1 : Int) (x2 : Int) (x7 : Int) (h : Heap), (loopN S0 (E Try.prog X T S0 (sub body [1, 1, 0, 0, 0])) (cutQ T (sub body [1, 1, 0, 0, 0])) (c1 S0 K) n2 [(0, (.iface 94 (.pointer (some x0)))), (1, (.int .i64 x1)), (2, (.int .i64 x2)), (7, (.int .i64 x7))] h) = bk2 x0 x1 x2 x7 h) (x0 : Addr) (x1 : Int) (x2 : Int) (x7 : Int) (x9 : Int) (h : Heap) : (E Try.prog X T S0 (sub body [1, 1, 0, 0, 0, 0, 1, 1, 1, 1]) (c3 S0 n2 K) [(0, (.iface 94 (.pointer (some x0)))), (1, (.int .i64 x1)), (2, (.int .i64 x2)), (7, (.int .i64 x7)), (9, (.int .i64 x9))] h) = wk8 bk2 x0 x1 x2 x7 x9 h K :=
  (Ek8 S0 n2 x0 x1 x2 x7 x9 h K).trans (congrFun (congrFun (congrFun (congrFun (congrFun (congrFun (congrFun (congr (congrArg Jk8 (funext fun x1 => funext fun x7 => funext fun h => ek11 K x1 x7 h)) (funext fun x0 => funext fun x1 => funext fun x2 => funext fun x7 => funext fun h => hb2 x0 x1 x2 x7 h)) x0) x1) x2) x7) x9) h) K)
def wL2 : Nat → Addr → Int → Int → Int → Heap → (Value → Heap → Prop) → Prop
  | 0, _, _, _, _, _, _ => False
  | n + 1, x0, x1, x2, x7, h, K => JL2 (fun x1 x7 h => wk11 x1 x7 h K) (fun x0 x1 x2 x7 x9 h => wk8 (fun x0 x1 x2 x7 h => wL2 n x0 x1 x2 x7 h K) x0 x1 x2 x7 x9 h K) x0 x1 x2 x7 h K
theorem eL2 (K : Value → Heap → Prop) : ∀ (n : Nat) (x0 : Addr) (x1 : Int) (x2 : Int) (x7 : Int) (h : Heap), (loopN S0 (E Try.prog X T S0 (sub body [1, 1, 0, 0, 0])) (cutQ T (sub body [1, 1, 0, 0, 0])) (c1 S0 K) n [(0, (.iface 94 (.pointer (some x0)))), (1, (.int .i64 x1)), (2, (.int .i64 x2)), (7, (.int .i64 x7))] h) = wL2 n x0 x1 x2 x7 h K
  | 0, _, _, _, _, _ => rfl
  | n + 1, x0, x1, x2, x7, h => (EL2 S0 n x0 x1 x2 x7 h K).trans (congrFun (congrFun (congrFun (congrFun (congrFun (congrFun (congr (congrArg JL2 (funext fun x1 => funext fun x7 => funext fun h => ek11 K x1 x7 h)) (funext fun x0 => funext fun x1 => funext fun x2 => funext fun x7 => funext fun x9 => funext fun h => ek8 K n (fun x0 x1 x2 x7 h => wL2 n x0 x1 x2 x7 h K) (fun x0 x1 x2 x7 h => eL2 K n x0 x1 x2 x7 h) x0 x1 x2 x7 x9 h)) x0) x1) x2) x7) h) K)
def wk2 (x0 : Addr) (x1 : Int) (x2 : Int) (x7 : Int) (h : Heap) (K : Value → Heap → Prop) : Prop :=
  Jk2 (fun x0 x1 x2 x7 h => ∃ n, wL2 n x0 x1 x2 x7 h K) x0 x1 x2 x7 h K
theorem ek2 (K : Value → Heap → Prop) (x0 : Addr) (x1 : Int) (x2 : Int) (x7 : Int) (h : Heap) : (E Try.prog X T S0 (sub body [1, 1]) (fin Try.prog Try.f64.results.toList K) [(0, (.iface 94 (.pointer (some x0)))), (1, (.int .i64 x1)), (2, (.int .i64 x2)), (7, (.int .i64 x7))] h) = wk2 x0 x1 x2 x7 h K :=
  (Ek2 S0 x0 x1 x2 x7 h K).trans (congrFun (congrFun (congrFun (congrFun (congrFun (congrFun (congrArg Jk2 (funext fun x0 => funext fun x1 => funext fun x2 => funext fun x7 => funext fun h => congrArg (fun p : Nat → Prop => ∃ n, p n) (funext fun n => eL2 K n x0 x1 x2 x7 h))) x0) x1) x2) x7) h) K)
def w (x0 : Addr) (x1 : Int) (x2 : Int) (h : Heap) (K : Value → Heap → Prop) : Prop :=
  J0 (fun x0 x1 x2 x7 h => wk2 x0 x1 x2 x7 h K) x0 x1 x2 h K
theorem e0 (K : Value → Heap → Prop) (x0 : Addr) (x1 : Int) (x2 : Int) (h : Heap) : (E Try.prog X T S0 body (fin Try.prog Try.f64.results.toList K) (args0 0 [(.iface 94 (.pointer (some x0))), (.int .i64 x1), (.int .i64 x2)]) h) = w x0 x1 x2 h K :=
  (E0 S0 x0 x1 x2 h K).trans (congrFun (congrFun (congrFun (congrFun (congrFun (congrArg J0 (funext fun x0 => funext fun x1 => funext fun x2 => funext fun x7 => funext fun h => ek2 K x0 x1 x2 x7 h)) x0) x1) x2) h) K)
theorem hb : Try.f64.body = some body := by kernel_rfl
theorem ok : okCode T Try.f64.ntmps body = true := by kernel_rfl
theorem spec (x0 : Addr) (x1 : Int) (x2 : Int) (h : Heap) (K : Value → Heap → Prop) (H : w x0 x1 x2 h K) : CallsH Try.prog 64 [(.iface 94 (.pointer (some x0))), (.int .i64 x1), (.int .i64 x2)] h K :=
  calls_of_E (T := T) Xok mix Try.func64 hb ok rfl (by rw [e0]; exact H)
end F64
-- container/heap.Pop
namespace F63
def T : Hint := ⟨[], []⟩
noncomputable def body : Code := (Try.f63.body).getD .skip
def J0 (x0 : Addr) (h : Heap) (K : Value → Heap → Prop) : Prop :=
  CallsH Try.prog 52 [(.pointer (some x0))] h (fun v1 h2 => ldI .i64 (some v1) (fun n3 => CallsH Try.prog 90 [(.pointer (some x0)), (.int .i64 (0 : Int)), (.int .i64 (IntKind.wrap .i64 (n3 - (1 : Int))))] h2 (fun v4 h5 => (v4 = (.tuple #[]) ∧ CallsH Try.prog 64 [(.iface 94 (.pointer (some x0))), (.int .i64 (0 : Int)), (.int .i64 (IntKind.wrap .i64 (n3 - (1 : Int))))] h5 (fun v6 h7 => ldB (some v6) (fun _ => CallsH Try.prog 88 [(.pointer (some x0))] h7 (fun v9 h10 => ldV (some v9) (fun v11 => K v11 h10))))))))
theorem E0 (S : Stop) (x0 : Addr) (h : Heap) (K : Value → Heap → Prop) :
    (E Try.prog X T S body (fin Try.prog Try.f63.results.toList K) (args0 0 [(.iface 94 (.pointer (some x0)))]) h) = J0 x0 h K := by kernel_rfl
def w (x0 : Addr) (h : Heap) (K : Value → Heap → Prop) : Prop :=
  J0 x0 h K
theorem e0 (K : Value → Heap → Prop) (x0 : Addr) (h : Heap) : (E Try.prog X T S0 body (fin Try.prog Try.f63.results.toList K) (args0 0 [(.iface 94 (.pointer (some x0)))]) h) = w x0 h K :=
  (E0 S0 x0 h K).trans (rfl)
theorem hb : Try.f63.body = some body := by kernel_rfl
theorem ok : okCode T Try.f63.ntmps body = true := by kernel_rfl
theorem spec (x0 : Addr) (h : Heap) (K : Value → Heap → Prop) (H : w x0 h K) : CallsH Try.prog 63 [(.iface 94 (.pointer (some x0)))] h K :=
  calls_of_E (T := T) Xok mix Try.func63 hb ok rfl (by rw [e0]; exact H)
end F63
-- container/heap.Push
namespace F49
def T : Hint := ⟨[], []⟩
noncomputable def body : Code := (Try.f49.body).getD .skip
def J0 (x0 : Addr) (x1_0 : Int) (x1_1 : Int) (h : Heap) (K : Value → Heap → Prop) : Prop :=
  CallsH Try.prog 89 [(.pointer (some x0)), (.iface 57 (.agg #[(.int .i64 x1_0), (.int .i64 x1_1)]))] h (fun v1 h2 => (v1 = (.tuple #[]) ∧ CallsH Try.prog 52 [(.pointer (some x0))] h2 (fun v3 h4 => ldI .i64 (some v3) (fun n5 => CallsH Try.prog 62 [(.iface 94 (.pointer (some x0))), (.int .i64 (IntKind.wrap .i64 (n5 - (1 : Int))))] h4 (fun v6 h7 => (v6 = (.tuple #[]) ∧ K (.tuple #[]) h7))))))
theorem E0 (S : Stop) (x0 : Addr) (x1_0 : Int) (x1_1 : Int) (h : Heap) (K : Value → Heap → Prop) :
    (E Try.prog X T S body (fin Try.prog Try.f49.results.toList K) (args0 0 [(.iface 94 (.pointer (some x0))), (.iface 57 (.agg #[(.int .i64 x1_0), (.int .i64 x1_1)]))]) h) = J0 x0 x1_0 x1_1 h K := by kernel_rfl
def w (x0 : Addr) (x1_0 : Int) (x1_1 : Int) (h : Heap) (K : Value → Heap → Prop) : Prop :=
  J0 x0 x1_0 x1_1 h K
theorem e0 (K : Value → Heap → Prop) (x0 : Addr) (x1_0 : Int) (x1_1 : Int) (h : Heap) : (E Try.prog X T S0 body (fin Try.prog Try.f49.results.toList K) (args0 0 [(.iface 94 (.pointer (some x0))), (.iface 57 (.agg #[(.int .i64 x1_0), (.int .i64 x1_1)]))]) h) = w x0 x1_0 x1_1 h K :=
  (E0 S0 x0 x1_0 x1_1 h K).trans (rfl)
theorem hb : Try.f49.body = some body := by kernel_rfl
theorem ok : okCode T Try.f49.ntmps body = true := by kernel_rfl
theorem spec (x0 : Addr) (x1_0 : Int) (x1_1 : Int) (h : Heap) (K : Value → Heap → Prop) (H : w x0 x1_0 x1_1 h K) : CallsH Try.prog 49 [(.iface 94 (.pointer (some x0))), (.iface 57 (.agg #[(.int .i64 x1_0), (.int .i64 x1_1)]))] h K :=
  calls_of_E (T := T) Xok mix Try.func49 hb ok rfl (by rw [e0]; exact H)
end F49
-- container/heap.Fix
namespace F53
def T : Hint := ⟨[], []⟩
noncomputable def body : Code := (Try.f53.body).getD .skip
def J0 (x0 : Addr) (x1 : Int) (h : Heap) (K : Value → Heap → Prop) : Prop :=
  CallsH Try.prog 52 [(.pointer (some x0))] h (fun v1 h2 => ldI .i64 (some v1) (fun n3 => CallsH Try.prog 64 [(.iface 94 (.pointer (some x0))), (.int .i64 x1), (.int .i64 n3)] h2 (fun v4 h5 => ldB (some v4) (fun b6 => bcase (!b6) (CallsH Try.prog 62 [(.iface 94 (.pointer (some x0))), (.int .i64 x1)] h5 (fun v7 h8 => (v7 = (.tuple #[]) ∧ K (.tuple #[]) h8))) (K (.tuple #[]) h5)))))
theorem E0 (S : Stop) (x0 : Addr) (x1 : Int) (h : Heap) (K : Value → Heap → Prop) :
    (E Try.prog X T S body (fin Try.prog Try.f53.results.toList K) (args0 0 [(.iface 94 (.pointer (some x0))), (.int .i64 x1)]) h) = J0 x0 x1 h K := by kernel_rfl
def w (x0 : Addr) (x1 : Int) (h : Heap) (K : Value → Heap → Prop) : Prop :=
  J0 x0 x1 h K
theorem e0 (K : Value → Heap → Prop) (x0 : Addr) (x1 : Int) (h : Heap) : (E Try.prog X T S0 body (fin Try.prog Try.f53.results.toList K) (args0 0 [(.iface 94 (.pointer (some x0))), (.int .i64 x1)]) h) = w x0 x1 h K :=
  (E0 S0 x0 x1 h K).trans (rfl)
theorem hb : Try.f53.body = some body := by kernel_rfl
theorem ok : okCode T Try.f53.ntmps body = true := by kernel_rfl
theorem spec (x0 : Addr) (x1 : Int) (h : Heap) (K : Value → Heap → Prop) (H : w x0 x1 h K) : CallsH Try.prog 53 [(.iface 94 (.pointer (some x0))), (.int .i64 x1)] h K :=
  calls_of_E (T := T) Xok mix Try.func53 hb ok rfl (by rw [e0]; exact H)
end F53
-- container/heap.Remove
namespace F54
def T : Hint := ⟨[], []⟩
noncomputable def body : Code := (Try.f54.body).getD .skip
def J0 (x0 : Addr) (x1 : Int) (h : Heap) (K : Value → Heap → Prop) : Prop :=
  CallsH Try.prog 52 [(.pointer (some x0))] h (fun v1 h2 => ldI .i64 (some v1) (fun n3 => bcase ((IntKind.wrap .i64 (n3 - (1 : Int))) != x1) (CallsH Try.prog 90 [(.pointer (some x0)), (.int .i64 x1), (.int .i64 (IntKind.wrap .i64 (n3 - (1 : Int))))] h2 (fun v4 h5 => (v4 = (.tuple #[]) ∧ CallsH Try.prog 64 [(.iface 94 (.pointer (some x0))), (.int .i64 x1), (.int .i64 (IntKind.wrap .i64 (n3 - (1 : Int))))] h5 (fun v6 h7 => ldB (some v6) (fun b8 => bcase (!b8) (CallsH Try.prog 62 [(.iface 94 (.pointer (some x0))), (.int .i64 x1)] h7 (fun v9 h10 => (v9 = (.tuple #[]) ∧ CallsH Try.prog 88 [(.pointer (some x0))] h10 (fun v11 h12 => ldV (some v11) (fun v13 => K v13 h12))))) (CallsH Try.prog 88 [(.pointer (some x0))] h7 (fun v14 h15 => ldV (some v14) (fun v16 => K v16 h15)))))))) (CallsH Try.prog 88 [(.pointer (some x0))] h2 (fun v17 h18 => ldV (some v17) (fun v19 => K v19 h18)))))
theorem E0 (S : Stop) (x0 : Addr) (x1 : Int) (h : Heap) (K : Value → Heap → Prop) :
    (E Try.prog X T S body (fin Try.prog Try.f54.results.toList K) (args0 0 [(.iface 94 (.pointer (some x0))), (.int .i64 x1)]) h) = J0 x0 x1 h K := by kernel_rfl
def w (x0 : Addr) (x1 : Int) (h : Heap) (K : Value → Heap → Prop) : Prop :=
  J0 x0 x1 h K
theorem e0 (K : Value → Heap → Prop) (x0 : Addr) (x1 : Int) (h : Heap) : (E Try.prog X T S0 body (fin Try.prog Try.f54.results.toList K) (args0 0 [(.iface 94 (.pointer (some x0))), (.int .i64 x1)]) h) = w x0 x1 h K :=
  (E0 S0 x0 x1 h K).trans (rfl)
theorem hb : Try.f54.body = some body := by kernel_rfl
theorem ok : okCode T Try.f54.ntmps body = true := by kernel_rfl
theorem spec (x0 : Addr) (x1 : Int) (h : Heap) (K : Value → Heap → Prop) (H : w x0 x1 h K) : CallsH Try.prog 54 [(.iface 94 (.pointer (some x0))), (.int .i64 x1)] h K :=
  calls_of_E (T := T) Xok mix Try.func54 hb ok rfl (by rw [e0]; exact H)
end F54
-- spinney/ranks.New
namespace F30
def T : Hint := ⟨[], []⟩
noncomputable def body : Code := (Try.f30.body).getD .skip
def J0 (h : Heap) (K : Value → Heap → Prop) : Prop :=
  newK h (.map #[] 0) (fun b1 h2 => newK h2 (.cells #[(.slice none 0 0), (.map (some b1))] 97) (fun b3 h4 => newK h4 (.cells #[(.pointer (some (Addr.mk b3 0 none)))] 99) (fun b5 h6 => K (.pointer (some (Addr.mk b5 0 none))) h6)))
theorem E0 (S : Stop) (h : Heap) (K : Value → Heap → Prop) :
    (E Try.prog X T S body (fin Try.prog Try.f30.results.toList K) (args0 0 []) h) = J0 h K := by kernel_rfl
def w (h : Heap) (K : Value → Heap → Prop) : Prop :=
  J0 h K
theorem e0 (K : Value → Heap → Prop) (h : Heap) : (E Try.prog X T S0 body (fin Try.prog Try.f30.results.toList K) (args0 0 []) h) = w h K :=
  (E0 S0 h K).trans (rfl)
theorem hb : Try.f30.body = some body := by kernel_rfl
theorem ok : okCode T Try.f30.ntmps body = true := by kernel_rfl
theorem spec (h : Heap) (K : Value → Heap → Prop) (H : w h K) : CallsH Try.prog 30 [] h K :=
  calls_of_E (T := T) Xok mix Try.func30 hb ok rfl (by rw [e0]; exact H)
end F30
-- (*spinney/ranks.Queue).Push
namespace F31
def T : Hint := ⟨[], []⟩
noncomputable def body : Code := (Try.f31.body).getD .skip
def J0 (x0 : Addr) (x1 : Int) (x2 : Int) (h : Heap) (K : Value → Heap → Prop) : Prop :=
  ldP (rd h (Addr.add x0 0)) (fun p1 => ptrK p1 (fun a2 => ldM (rd h (Addr.add a2 1)) (fun r3 => lookK h r3 .i64 .i64 x1 (fun o4 => ldI .i64 (some (lkV (.int .i64 (0 : Int)) o4)) (fun _ => bcase (Option.isSome o4) (K (.bool false) h) (ldP (rd h (Addr.add x0 0)) (fun p6 => CallsH Try.prog 49 [(.iface 94 (.pointer p6)), (.iface 57 (.agg #[(.int .i64 x1), (.int .i64 x2)]))] h (fun v7 h8 => (v7 = (.tuple #[]) ∧ K (.bool true) h8)))))))))
theorem E0 (S : Stop) (x0 : Addr) (x1 : Int) (x2 : Int) (h : Heap) (K : Value → Heap → Prop) :
    (E Try.prog X T S body (fin Try.prog Try.f31.results.toList K) (args0 0 [(.pointer (some x0)), (.int .i64 x1), (.int .i64 x2)]) h) = J0 x0 x1 x2 h K := by kernel_rfl
def w (x0 : Addr) (x1 : Int) (x2 : Int) (h : Heap) (K : Value → Heap → Prop) : Prop :=
  J0 x0 x1 x2 h K
theorem e0 (K : Value → Heap → Prop) (x0 : Addr) (x1 : Int) (x2 : Int) (h : Heap) : (E Try.prog X T S0 body (fin Try.prog Try.f31.results.toList K) (args0 0 [(.pointer (some x0)), (.int .i64 x1), (.int .i64 x2)]) h) = w x0 x1 x2 h K :=
  (E0 S0 x0 x1 x2 h K).trans (rfl)
theorem hb : Try.f31.body = some body := by kernel_rfl
theorem ok : okCode T Try.f31.ntmps body = true := by kernel_rfl
theorem spec (x0 : Addr) (x1 : Int) (x2 : Int) (h : Heap) (K : Value → Heap → Prop) (H : w x0 x1 x2 h K) : CallsH Try.prog 31 [(.pointer (some x0)), (.int .i64 x1), (.int .i64 x2)] h K :=
  calls_of_E (T := T) Xok mix Try.func31 hb ok rfl (by rw [e0]; exact H)
end F31
-- (*spinney/ranks.Queue).Len
namespace F33
def T : Hint := ⟨[], []⟩
noncomputable def body : Code := (Try.f33.body).getD .skip
def J0 (x0 : Addr) (h : Heap) (K : Value → Heap → Prop) : Prop :=
  ldP (rd h (Addr.add x0 0)) (fun p1 => CallsH Try.prog 52 [(.pointer p1)] h (fun v2 h3 => ldI .i64 (some v2) (fun n4 => K (.int .i64 n4) h3)))
theorem E0 (S : Stop) (x0 : Addr) (h : Heap) (K : Value → Heap → Prop) :
    (E Try.prog X T S body (fin Try.prog Try.f33.results.toList K) (args0 0 [(.pointer (some x0))]) h) = J0 x0 h K := by kernel_rfl
def w (x0 : Addr) (h : Heap) (K : Value → Heap → Prop) : Prop :=
  J0 x0 h K
theorem e0 (K : Value → Heap → Prop) (x0 : Addr) (h : Heap) : (E Try.prog X T S0 body (fin Try.prog Try.f33.results.toList K) (args0 0 [(.pointer (some x0))]) h) = w x0 h K :=
  (E0 S0 x0 h K).trans (rfl)
theorem hb : Try.f33.body = some body := by kernel_rfl
theorem ok : okCode T Try.f33.ntmps body = true := by kernel_rfl
theorem spec (x0 : Addr) (h : Heap) (K : Value → Heap → Prop) (H : w x0 h K) : CallsH Try.prog 33 [(.pointer (some x0))] h K :=
  calls_of_E (T := T) Xok mix Try.func33 hb ok rfl (by rw [e0]; exact H)
end F33
-- (*spinney/ranks.Queue).Change
namespace F34
def T : Hint := ⟨[], []⟩
noncomputable def body : Code := (Try.f34.body).getD .skip
def J0 (x0 : Addr) (x1 : Int) (x2 : Int) (h : Heap) (K : Value → Heap → Prop) : Prop :=
  ldP (rd h (Addr.add x0 0)) (fun p1 => ptrK p1 (fun a2 => ldM (rd h (Addr.add a2 1)) (fun r3 => lookK h r3 .i64 .i64 x1 (fun o4 => ldI .i64 (some (lkV (.int .i64 (0 : Int)) o4)) (fun n5 => bcase (!(Option.isSome o4)) (K (.bool false) h) (ldP (rd h (Addr.add x0 0)) (fun p6 => ptrK p6 (fun a7 => ldS (rd h (Addr.add a7 0)) (fun p8 l9 _ => ptrK p8 (fun a11 => (0 ≤ n5 ∧ n5 < (Nat.cast l9 : Int) ∧ stK h (Addr.add (Addr.add (Addr.add a11 (Int.toNat n5 * 2)) 1) 0) (.int .i64 x2) (fun h12 => ldP (rd h12 (Addr.add x0 0)) (fun p13 => CallsH Try.prog 53 [(.iface 94 (.pointer p13)), (.int .i64 n5)] h12 (fun v14 h15 => (v14 = (.tuple #[]) ∧ K (.bool true) h15)))))))))))))))
theorem E0 (S : Stop) (x0 : Addr) (x1 : Int) (x2 : Int) (h : Heap) (K : Value → Heap → Prop) :
    (E Try.prog X T S body (fin Try.prog Try.f34.results.toList K) (args0 0 [(.pointer (some x0)), (.int .i64 x1), (.int .i64 x2)]) h) = J0 x0 x1 x2 h K := by kernel_rfl
def w (x0 : Addr) (x1 : Int) (x2 : Int) (h : Heap) (K : Value → Heap → Prop) : Prop :=
  J0 x0 x1 x2 h K
theorem e0 (K : Value → Heap → Prop) (x0 : Addr) (x1 : Int) (x2 : Int) (h : Heap) : (E Try.prog X T S0 body (fin Try.prog Try.f34.results.toList K) (args0 0 [(.pointer (some x0)), (.int .i64 x1), (.int .i64 x2)]) h) = w x0 x1 x2 h K :=
  (E0 S0 x0 x1 x2 h K).trans (rfl)
theorem hb : Try.f34.body = some body := by kernel_rfl
theorem ok : okCode T Try.f34.ntmps body = true := by kernel_rfl
theorem spec (x0 : Addr) (x1 : Int) (x2 : Int) (h : Heap) (K : Value → Heap → Prop) (H : w x0 x1 x2 h K) : CallsH Try.prog 34 [(.pointer (some x0)), (.int .i64 x1), (.int .i64 x2)] h K :=
  calls_of_E (T := T) Xok mix Try.func34 hb ok rfl (by rw [e0]; exact H)
end F34
-- (*spinney/ranks.Queue).Drop
namespace F35
def T : Hint := ⟨[], []⟩
noncomputable def body : Code := (Try.f35.body).getD .skip
def J0 (x0 : Addr) (x1 : Int) (h : Heap) (K : Value → Heap → Prop) : Prop :=
  ldP (rd h (Addr.add x0 0)) (fun p1 => ptrK p1 (fun a2 => ldM (rd h (Addr.add a2 1)) (fun r3 => lookK h r3 .i64 .i64 x1 (fun o4 => ldI .i64 (some (lkV (.int .i64 (0 : Int)) o4)) (fun n5 => bcase (Option.isSome o4) (ldP (rd h (Addr.add x0 0)) (fun p6 => CallsH Try.prog 54 [(.iface 94 (.pointer p6)), (.int .i64 n5)] h (fun v7 h8 => ldV (some v7) (fun _ => K (.bool (Option.isSome o4)) h8)))) (K (.bool (Option.isSome o4)) h))))))
theorem E0 (S : Stop) (x0 : Addr) (x1 : Int) (h : Heap) (K : Value → Heap → Prop) :
    (E Try.prog X T S body (fin Try.prog Try.f35.results.toList K) (args0 0 [(.pointer (some x0)), (.int .i64 x1)]) h) = J0 x0 x1 h K := by kernel_rfl
def w (x0 : Addr) (x1 : Int) (h : Heap) (K : Value → Heap → Prop) : Prop :=
  J0 x0 x1 h K
theorem e0 (K : Value → Heap → Prop) (x0 : Addr) (x1 : Int) (h : Heap) : (E Try.prog X T S0 body (fin Try.prog Try.f35.results.toList K) (args0 0 [(.pointer (some x0)), (.int .i64 x1)]) h) = w x0 x1 h K :=
  (E0 S0 x0 x1 h K).trans (rfl)
theorem hb : Try.f35.body = some body := by kernel_rfl
theorem ok : okCode T Try.f35.ntmps body = true := by kernel_rfl
theorem spec (x0 : Addr) (x1 : Int) (h : Heap) (K : Value → Heap → Prop) (H : w x0 x1 h K) : CallsH Try.prog 35 [(.pointer (some x0)), (.int .i64 x1)] h K :=
  calls_of_E (T := T) Xok mix Try.func35 hb ok rfl (by rw [e0]; exact H)
end F35
-- (*spinney/ranks.Queue).Key
namespace F38
def T : Hint := ⟨[], []⟩
noncomputable def body : Code := (Try.f38.body).getD .skip
def J0 (x0 : Addr) (x1 : Int) (h : Heap) (K : Value → Heap → Prop) : Prop :=
  ldP (rd h (Addr.add x0 0)) (fun p1 => ptrK p1 (fun a2 => ldM (rd h (Addr.add a2 1)) (fun r3 => lookK h r3 .i64 .i64 x1 (fun o4 => ldI .i64 (some (lkV (.int .i64 (0 : Int)) o4)) (fun n5 => bcase (!(Option.isSome o4)) (K (.tuple #[(.int .i64 (0 : Int)), (.bool false)]) h) (ldP (rd h (Addr.add x0 0)) (fun p6 => ptrK p6 (fun a7 => ldS (rd h (Addr.add a7 0)) (fun p8 l9 _ => ptrK p8 (fun a11 => (0 ≤ n5 ∧ n5 < (Nat.cast l9 : Int) ∧ ldI .i64 (rd h (Addr.add (Addr.add a11 (Int.toNat n5 * 2)) 1)) (fun n12 => K (.tuple #[(.int .i64 n12), (.bool true)]) h))))))))))))
theorem E0 (S : Stop) (x0 : Addr) (x1 : Int) (h : Heap) (K : Value → Heap → Prop) :
    (E Try.prog X T S body (fin Try.prog Try.f38.results.toList K) (args0 0 [(.pointer (some x0)), (.int .i64 x1)]) h) = J0 x0 x1 h K := by kernel_rfl
def w (x0 : Addr) (x1 : Int) (h : Heap) (K : Value → Heap → Prop) : Prop :=
  J0 x0 x1 h K
theorem e0 (K : Value → Heap → Prop) (x0 : Addr) (x1 : Int) (h : Heap) : (E Try.prog X T S0 body (fin Try.prog Try.f38.results.toList K) (args0 0 [(.pointer (some x0)), (.int .i64 x1)]) h) = w x0 x1 h K :=
  (E0 S0 x0 x1 h K).trans (rfl)
theorem hb : Try.f38.body = some body := by kernel_rfl
theorem ok : okCode T Try.f38.ntmps body = true := by kernel_rfl
theorem spec (x0 : Addr) (x1 : Int) (h : Heap) (K : Value → Heap → Prop) (H : w x0 x1 h K) : CallsH Try.prog 38 [(.pointer (some x0)), (.int .i64 x1)] h K :=
  calls_of_E (T := T) Xok mix Try.func38 hb ok rfl (by rw [e0]; exact H)
end F38
-- (*spinney/ranks.Queue).taken
namespace F51
def T : Hint := ⟨[], []⟩
noncomputable def body : Code := (Try.f51.body).getD .skip
def J0 (x0 : Addr) (h : Heap) (K : Value → Heap → Prop) : Prop :=
  newK h (.cells #[(.int .i64 (0 : Int)), (.int .i64 (0 : Int))] 57) (fun b1 h2 => ldP (rd h2 (Addr.add x0 0)) (fun p3 => CallsH Try.prog 63 [(.iface 94 (.pointer p3))] h2 (fun v4 h5 => ldV (some v4) (fun v6 => assertE Try.prog 57 false v6 (fun v7 => storeE Try.prog 57 (some (Addr.mk b1 0 none)) v7 h5 (fun h8 => ldI .i64 (rd h8 (Addr.add (Addr.mk b1 0 none) 0)) (fun n9 => ldI .i64 (rd h8 (Addr.add (Addr.mk b1 0 none) 1)) (fun n10 => K (.agg #[(.int .i64 n9), (.int .i64 n10)]) h8))))))))
theorem E0 (S : Stop) (x0 : Addr) (h : Heap) (K : Value → Heap → Prop) :
    (E Try.prog X T S body (fin Try.prog Try.f51.results.toList K) (args0 0 [(.pointer (some x0))]) h) = J0 x0 h K := by kernel_rfl
def w (x0 : Addr) (h : Heap) (K : Value → Heap → Prop) : Prop :=
  J0 x0 h K
theorem e0 (K : Value → Heap → Prop) (x0 : Addr) (h : Heap) : (E Try.prog X T S0 body (fin Try.prog Try.f51.results.toList K) (args0 0 [(.pointer (some x0))]) h) = w x0 h K :=
  (E0 S0 x0 h K).trans (rfl)
theorem hb : Try.f51.body = some body := by kernel_rfl
theorem ok : okCode T Try.f51.ntmps body = true := by kernel_rfl
theorem spec (x0 : Addr) (h : Heap) (K : Value → Heap → Prop) (H : w x0 h K) : CallsH Try.prog 51 [(.pointer (some x0))] h K :=
  calls_of_E (T := T) Xok mix Try.func51 hb ok rfl (by rw [e0]; exact H)
end F51
-- (*spinney/ranks.Queue).seen
namespace F55
def T : Hint := ⟨[], []⟩
noncomputable def body : Code := (Try.f55.body).getD .skip
def J0 (x0 : Addr) (h : Heap) (K : Value → Heap → Prop) : Prop :=
  newK h (.cells #[(.int .i64 (0 : Int)), (.int .i64 (0 : Int))] 57) (fun b1 h2 => ldP (rd h2 (Addr.add x0 0)) (fun p3 => ptrK p3 (fun a4 => ldS (rd h2 (Addr.add a4 0)) (fun p5 l6 _ => ptrK p5 (fun a8 => (0 ≤ (0 : Int) ∧ (0 : Int) < (Nat.cast l6 : Int) ∧ ldI .i64 (rd h2 (Addr.add (Addr.add a8 (Int.toNat (0 : Int) * 2)) 0)) (fun n9 => ldI .i64 (rd h2 (Addr.add (Addr.add a8 (Int.toNat (0 : Int) * 2)) 1)) (fun n10 => stK h2 (Addr.add (Addr.mk b1 0 none) 0) (.int .i64 n9) (fun h11 => stK h11 (Addr.add (Addr.mk b1 0 none) 1) (.int .i64 n10) (fun h12 => ldI .i64 (rd h12 (Addr.add (Addr.mk b1 0 none) 0)) (fun n13 => ldI .i64 (rd h12 (Addr.add (Addr.mk b1 0 none) 1)) (fun n14 => K (.agg #[(.int .i64 n13), (.int .i64 n14)]) h12))))))))))))
theorem E0 (S : Stop) (x0 : Addr) (h : Heap) (K : Value → Heap → Prop) :
    (E Try.prog X T S body (fin Try.prog Try.f55.results.toList K) (args0 0 [(.pointer (some x0))]) h) = J0 x0 h K := by kernel_rfl
def w (x0 : Addr) (h : Heap) (K : Value → Heap → Prop) : Prop :=
  J0 x0 h K
theorem e0 (K : Value → Heap → Prop) (x0 : Addr) (h : Heap) : (E Try.prog X T S0 body (fin Try.prog Try.f55.results.toList K) (args0 0 [(.pointer (some x0))]) h) = w x0 h K :=
  (E0 S0 x0 h K).trans (rfl)
theorem hb : Try.f55.body = some body := by kernel_rfl
theorem ok : okCode T Try.f55.ntmps body = true := by kernel_rfl
theorem spec (x0 : Addr) (h : Heap) (K : Value → Heap → Prop) (H : w x0 h K) : CallsH Try.prog 55 [(.pointer (some x0))] h K :=
  calls_of_E (T := T) Xok mix Try.func55 hb ok rfl (by rw [e0]; exact H)
end F55
end Go.Proofs.Ytkdegjjenbbjfaa.Ev
