/- PRINTED BY PROGRAM: what each of these functions does, computed over heaps by the evaluator, and that its calls do so. Conditions: none. -/
import Derived.Test.YtkdegjjenbbjfaaTX
namespace Go.Proofs.Ytkdegjjenbbjfaa.Ev
open Go
-- (*spinney/order.Order).puts
namespace F47
def T : Hint := ⟨[], [(0, [[(0, []), (1, []), (2, []), (3, []), (4, []), (5, []), (6, []), (7, []), (8, []), (10, []), (11, []), (9, [2, 3, 5, 10, 11]), (12, []), (13, [])]])]⟩
noncomputable def body : Code := (Try.f47.body).getD .skip
def J0 (x0 : Addr) (x1 : Int) (x2 : Int) (h : Heap) (K : Value → Heap → Prop) : Prop :=
  (0 ≤ x1 ∧ x1 < (Nat.cast 8 : Int) ∧ stK h (Addr.add (Addr.add (Addr.add x0 1) (Int.toNat x1 * 1)) 0) (.int .i64 x2) (fun h1 => ((.pointer (some x0)) = ((.pointer (some x0)) : Value) ∧ ((.int .i64 x2) = ((.int .i64 x2) : Value) ∧ ((.int .i64 x1) = ((.int .i64 x1) : Value) ∧ ((.pointer (some x0)) = ((.pointer (some x0)) : Value) ∧ ((.pointer (some (Addr.add x0 9))) = ((.pointer (some (Addr.add x0 9))) : Value) ∧ (0 ≤ x2 ∧ x2 < (Nat.cast 8 : Int) ∧ stK h1 (Addr.add (Addr.add (Addr.add x0 9) (Int.toNat x2 * 1)) 0) (.int .i64 x1) (fun h2 => K (.tuple #[]) h2)))))))))
theorem E0 (S : Stop) (x0 : Addr) (x1 : Int) (x2 : Int) (h : Heap) (K : Value → Heap → Prop) :
    (E Try.prog X T S body (fin Try.prog Try.f47.results.toList K) (args0 0 [(.pointer (some x0)), (.int .i64 x1), (.int .i64 x2)]) h) = J0 x0 x1 x2 h K := by kernel_rfl
def w (x0 : Addr) (x1 : Int) (x2 : Int) (h : Heap) (K : Value → Heap → Prop) : Prop :=
  J0 x0 x1 x2 h K
theorem e0 (K : Value → Heap → Prop) (x0 : Addr) (x1 : Int) (x2 : Int) (h : Heap) : (E Try.prog X T S0 body (fin Try.prog Try.f47.results.toList K) (args0 0 [(.pointer (some x0)), (.int .i64 x1), (.int .i64 x2)]) h) = w x0 x1 x2 h K :=
  (E0 S0 x0 x1 x2 h K).trans (rfl)
theorem hb : Try.f47.body = some body := by kernel_rfl
theorem ok : okCode T Try.f47.ntmps body = true := by kernel_rfl
theorem spec (x0 : Addr) (x1 : Int) (x2 : Int) (h : Heap) (K : Value → Heap → Prop) (H : w x0 x1 x2 h K) : CallsH Try.prog 47 [(.pointer (some x0)), (.int .i64 x1), (.int .i64 x2)] h K :=
  calls_of_E (T := T) Xok mix Try.func47 hb ok rfl (by rw [e0]; exact H)
end F47
-- spinney/order.New
namespace F21
def T : Hint := ⟨[(3, [3, 13, 14])], [(5, [[(0, []), (1, []), (2, []), (3, []), (4, []), (5, []), (6, []), (7, []), (8, []), (10, []), (11, []), (9, [2, 3, 5, 10, 11]), (12, []), (13, [])]])]⟩
noncomputable def body : Code := (Try.f21.body).getD .skip
def c0 (S : Stop) (K : Value → Heap → Prop) : Exit → Fr → Heap → Prop := seqN S (cutQ T (sub body [1, 1, 1])) (E Try.prog X T S (sub body [1, 1, 1]) (fin Try.prog Try.f21.results.toList K)) (fin Try.prog Try.f21.results.toList K)
def c1 (S : Stop) (K : Value → Heap → Prop) : Exit → Fr → Heap → Prop := blockN 0 (c0 S K)
def c2 (S : Stop) (n3 : Nat) (K : Value → Heap → Prop) : Exit → Fr → Heap → Prop := backN S (cutQ T (sub body [1, 1, 0, 1, 0, 0])) (loopN S (E Try.prog X T S (sub body [1, 1, 0, 1, 0, 0])) (cutQ T (sub body [1, 1, 0, 1, 0, 0])) (c1 S K) n3) (c1 S K)
def J0 (k3 : Addr → Int → Int → Heap → Prop) (x0 : Int) (h : Heap) (_K : Value → Heap → Prop) : Prop :=
  newK h (.cells #[(.int .i64 (if (8 : Int) < (if (1 : Int) > x0 then (1 : Int) else x0) then (8 : Int) else (if (1 : Int) > x0 then (1 : Int) else x0))), (.int .i64 (0 : Int)), (.int .i64 (0 : Int)), (.int .i64 (0 : Int)), (.int .i64 (0 : Int)), (.int .i64 (0 : Int)), (.int .i64 (0 : Int)), (.int .i64 (0 : Int)), (.int .i64 (0 : Int)), (.int .i64 (0 : Int)), (.int .i64 (0 : Int)), (.int .i64 (0 : Int)), (.int .i64 (0 : Int)), (.int .i64 (0 : Int)), (.int .i64 (0 : Int)), (.int .i64 (0 : Int)), (.int .i64 (0 : Int))] 91) (fun b1 h2 => ldI .i64 (rd h2 (Addr.add (Addr.mk b1 0 none) 0)) (fun n3 => k3 (Addr.mk b1 0 none) n3 (0 : Int) h2))
theorem E0 (S : Stop) (x0 : Int) (h : Heap) (K : Value → Heap → Prop) :
    (E Try.prog X T S body (fin Try.prog Try.f21.results.toList K) (args0 0 [(.int .i64 x0)]) h) = J0 (fun x3 x13 x14 h => S (E Try.prog X T S (sub body [1, 1, 0, 1]) (c0 S K)) [(3, (.pointer (some x3))), (13, (.int .i64 x13)), (14, (.int .i64 x14))] h) x0 h K := by kernel_rfl
def Jk3 (lp3 : Addr → Int → Int → Heap → Prop) (x3 : Addr) (x13 : Int) (x14 : Int) (h : Heap) (_K : Value → Heap → Prop) : Prop :=
  lp3 x3 x13 x14 h
theorem Ek3 (S : Stop) (x3 : Addr) (x13 : Int) (x14 : Int) (h : Heap) (K : Value → Heap → Prop) :
    (E Try.prog X T S (sub body [1, 1, 0, 1]) (c0 S K) [(3, (.pointer (some x3))), (13, (.int .i64 x13)), (14, (.int .i64 x14))] h) = Jk3 (fun x3 x13 x14 h => ∃ n, S (loopN S (E Try.prog X T S (sub body [1, 1, 0, 1, 0, 0])) (cutQ T (sub body [1, 1, 0, 1, 0, 0])) (c1 S K) n) [(3, (.pointer (some x3))), (13, (.int .i64 x13)), (14, (.int .i64 x14))] h) x3 x13 x14 h K := by kernel_rfl
def JL3 (bk3 : Addr → Int → Int → Heap → Prop) (x3 : Addr) (x13 : Int) (x14 : Int) (h : Heap) (K : Value → Heap → Prop) : Prop :=
  bcase (decide (x14 < x13)) ((0 ≤ x14 ∧ x14 < (Nat.cast 8 : Int) ∧ stK h (Addr.add (Addr.add (Addr.add x3 1) (Int.toNat x14 * 1)) 0) (.int .i64 x14) (fun h1 => ((.pointer (some x3)) = ((.pointer (some x3)) : Value) ∧ ((.int .i64 x14) = ((.int .i64 x14) : Value) ∧ ((.int .i64 x14) = ((.int .i64 x14) : Value) ∧ ((.pointer (some x3)) = ((.pointer (some x3)) : Value) ∧ ((.pointer (some (Addr.add x3 9))) = ((.pointer (some (Addr.add x3 9))) : Value) ∧ (0 ≤ x14 ∧ x14 < (Nat.cast 8 : Int) ∧ stK h1 (Addr.add (Addr.add (Addr.add x3 9) (Int.toNat x14 * 1)) 0) (.int .i64 x14) (fun h2 => bk3 x3 x13 (IntKind.wrap .i64 (x14 + (1 : Int))) h2)))))))))) (K (.pointer (some x3)) h)
theorem EL3 (S : Stop) (n3 : Nat) (x3 : Addr) (x13 : Int) (x14 : Int) (h : Heap) (K : Value → Heap → Prop) :
    (E Try.prog X T S (sub body [1, 1, 0, 1, 0, 0]) (c2 S n3 K) [(3, (.pointer (some x3))), (13, (.int .i64 x13)), (14, (.int .i64 x14))] h) = JL3 (fun x3 x13 x14 h => S (loopN S (E Try.prog X T S (sub body [1, 1, 0, 1, 0, 0])) (cutQ T (sub body [1, 1, 0, 1, 0, 0])) (c1 S K) n3) [(3, (.pointer (some x3))), (13, (.int .i64 x13)), (14, (.int .i64 x14))] h) x3 x13 x14 h K := by kernel_rfl
def wL3 : Nat → Addr → Int → Int → Heap → (Value → Heap → Prop) → Prop
  | 0, _, _, _, _, _ => False
  | n + 1, x3, x13, x14, h, K => JL3 (fun x3 x13 x14 h => wL3 n x3 x13 x14 h K) x3 x13 x14 h K
theorem eL3 (K : Value → Heap → Prop) : ∀ (n : Nat) (x3 : Addr) (x13 : Int) (x14 : Int) (h : Heap), (loopN S0 (E Try.prog X T S0 (sub body [1, 1, 0, 1, 0, 0])) (cutQ T (sub body [1, 1, 0, 1, 0, 0])) (c1 S0 K) n [(3, (.pointer (some x3))), (13, (.int .i64 x13)), (14, (.int .i64 x14))] h) = wL3 n x3 x13 x14 h K
  | 0, _, _, _, _ => rfl
  | n + 1, x3, x13, x14, h => (EL3 S0 n x3 x13 x14 h K).trans (congrFun (congrFun (congrFun (congrFun (congrFun (congrArg JL3 (funext fun x3 => funext fun x13 => funext fun x14 => funext fun h => (fun x3 x13 x14 h => eL3 K n x3 x13 x14 h) x3 x13 x14 h)) x3) x13) x14) h) K)
def wk3 (x3 : Addr) (x13 : Int) (x14 : Int) (h : Heap) (K : Value → Heap → Prop) : Prop :=
  Jk3 (fun x3 x13 x14 h => ∃ n, wL3 n x3 x13 x14 h K) x3 x13 x14 h K
theorem ek3 (K : Value → Heap → Prop) (x3 : Addr) (x13 : Int) (x14 : Int) (h : Heap) : (E Try.prog X T S0 (sub body [1, 1, 0, 1]) (c0 S0 K) [(3, (.pointer (some x3))), (13, (.int .i64 x13)), (14, (.int .i64 x14))] h) = wk3 x3 x13 x14 h K :=
  (Ek3 S0 x3 x13 x14 h K).trans (congrFun (congrFun (congrFun (congrFun (congrFun (congrArg Jk3 (funext fun x3 => funext fun x13 => funext fun x14 => funext fun h => congrArg (fun p : Nat → Prop => ∃ n, p n) (funext fun n => eL3 K n x3 x13 x14 h))) x3) x13) x14) h) K)
def w (x0 : Int) (h : Heap) (K : Value → Heap → Prop) : Prop :=
  J0 (fun x3 x13 x14 h => wk3 x3 x13 x14 h K) x0 h K
theorem e0 (K : Value → Heap → Prop) (x0 : Int) (h : Heap) : (E Try.prog X T S0 body (fin Try.prog Try.f21.results.toList K) (args0 0 [(.int .i64 x0)]) h) = w x0 h K :=
  (E0 S0 x0 h K).trans (congrFun (congrFun (congrFun (congrArg J0 (funext fun x3 => funext fun x13 => funext fun x14 => funext fun h => ek3 K x3 x13 x14 h)) x0) h) K)
theorem hb : Try.f21.body = some body := by kernel_rfl
theorem ok : okCode T Try.f21.ntmps body = true := by kernel_rfl
theorem spec (x0 : Int) (h : Heap) (K : Value → Heap → Prop) (H : w x0 h K) : CallsH Try.prog 21 [(.int .i64 x0)] h K :=
  calls_of_E (T := T) Xok mix Try.func21 hb ok rfl (by rw [e0]; exact H)
end F21
-- (*spinney/order.Order).All
namespace F22
def T : Hint := ⟨[], [(2, [[(0, []), (1, []), (2, []), (3, []), (4, []), (5, []), (6, []), (7, []), (8, []), (9, [])]])]⟩
noncomputable def body : Code := (Try.f22.body).getD .skip
def J0 (x0 : Addr) (h : Heap) (K : Value → Heap → Prop) : Prop :=
  ldI .i64 (rd h (Addr.add x0 0)) (fun n1 => (0 ≤ n1 ∧ n1 ≤ n1 ∧ ((Nat.cast 8 : Int) * n1 ≤ 281474976710656) ∧ n1 ≤ 9223372036854775807 ∧ newK h (.cells (madeCells #[(.int .i64 (0 : Int))] (Int.toNat n1 * 1)) 3) (fun b2 h3 => ldI .i64 (rd h3 (Addr.add x0 0)) (fun n4 => (0 ≤ n4 ∧ n4 ≤ (Nat.cast 8 : Int) ∧ copyK h3 1 (some (Addr.mk b2 0 none)) (Int.toNat n1) (some (if 8 = 0 then (Addr.add x0 1) else Addr.add (Addr.add x0 1) (0 * 1))) (Int.toNat n4 - 0) (fun _ h6 => K (.slice (some (Addr.mk b2 0 none)) (Int.toNat n1) (Int.toNat n1)) h6))))))
theorem E0 (S : Stop) (x0 : Addr) (h : Heap) (K : Value → Heap → Prop) :
    (E Try.prog X T S body (fin Try.prog Try.f22.results.toList K) (args0 0 [(.pointer (some x0))]) h) = J0 x0 h K := by kernel_rfl
def w (x0 : Addr) (h : Heap) (K : Value → Heap → Prop) : Prop :=
  J0 x0 h K
theorem e0 (K : Value → Heap → Prop) (x0 : Addr) (h : Heap) : (E Try.prog X T S0 body (fin Try.prog Try.f22.results.toList K) (args0 0 [(.pointer (some x0))]) h) = w x0 h K :=
  (E0 S0 x0 h K).trans (rfl)
theorem hb : Try.f22.body = some body := by kernel_rfl
theorem ok : okCode T Try.f22.ntmps body = true := by kernel_rfl
theorem spec (x0 : Addr) (h : Heap) (K : Value → Heap → Prop) (H : w x0 h K) : CallsH Try.prog 22 [(.pointer (some x0))] h K :=
  calls_of_E (T := T) Xok mix Try.func22 hb ok rfl (by rw [e0]; exact H)
end F22
-- (*spinney/order.Order).Swap
namespace F23
def T : Hint := ⟨[], [(3, [[(0, []), (1, []), (2, []), (3, []), (4, []), (5, []), (6, []), (7, []), (8, []), (9, []), (10, []), (11, []), (12, []), (13, []), (14, [])]])]⟩
noncomputable def body : Code := (Try.f23.body).getD .skip
def J0 (x0 : Addr) (x1 : Int) (h : Heap) (K : Value → Heap → Prop) : Prop :=
  bcase (decide (x1 < (0 : Int))) (K (.int .i64 (40 : Int)) h) (ldI .i64 (rd h (Addr.add x0 0)) (fun n1 => bcase (decide (x1 ≥ (IntKind.wrap .i64 (n1 - (1 : Int))))) (K (.int .i64 (40 : Int)) h) ((0 ≤ x1 ∧ x1 < (Nat.cast 8 : Int) ∧ ldI .i64 (rd h (Addr.add (Addr.add x0 1) (Int.toNat x1 * 1))) (fun n2 => (0 ≤ (IntKind.wrap .i64 (x1 + (1 : Int))) ∧ (IntKind.wrap .i64 (x1 + (1 : Int))) < (Nat.cast 8 : Int) ∧ ldI .i64 (rd h (Addr.add (Addr.add x0 1) (Int.toNat (IntKind.wrap .i64 (x1 + (1 : Int))) * 1))) (fun n3 => CallsH Try.prog 47 [(.pointer (some x0)), (.int .i64 x1), (.int .i64 n3)] h (fun v4 h5 => (v4 = (.tuple #[]) ∧ CallsH Try.prog 47 [(.pointer (some x0)), (.int .i64 (IntKind.wrap .i64 (x1 + (1 : Int)))), (.int .i64 n2)] h5 (fun v6 h7 => (v6 = (.tuple #[]) ∧ K (.int .i64 (0 : Int)) h7)))))))))))
theorem E0 (S : Stop) (x0 : Addr) (x1 : Int) (h : Heap) (K : Value → Heap → Prop) :
    (E Try.prog X T S body (fin Try.prog Try.f23.results.toList K) (args0 0 [(.pointer (some x0)), (.int .i64 x1)]) h) = J0 x0 x1 h K := by kernel_rfl
def w (x0 : Addr) (x1 : Int) (h : Heap) (K : Value → Heap → Prop) : Prop :=
  J0 x0 x1 h K
theorem e0 (K : Value → Heap → Prop) (x0 : Addr) (x1 : Int) (h : Heap) : (E Try.prog X T S0 body (fin Try.prog Try.f23.results.toList K) (args0 0 [(.pointer (some x0)), (.int .i64 x1)]) h) = w x0 x1 h K :=
  (E0 S0 x0 x1 h K).trans (rfl)
theorem hb : Try.f23.body = some body := by kernel_rfl
theorem ok : okCode T Try.f23.ntmps body = true := by kernel_rfl
theorem spec (x0 : Addr) (x1 : Int) (h : Heap) (K : Value → Heap → Prop) (H : w x0 x1 h K) : CallsH Try.prog 23 [(.pointer (some x0)), (.int .i64 x1)] h K :=
  calls_of_E (T := T) Xok mix Try.func23 hb ok rfl (by rw [e0]; exact H)
end F23
-- (*spinney/order.Order).Var
namespace F25
def T : Hint := ⟨[], []⟩
noncomputable def body : Code := (Try.f25.body).getD .skip
def J0 (x0 : Addr) (x1 : Int) (h : Heap) (K : Value → Heap → Prop) : Prop :=
  bcase (decide (x1 < (0 : Int))) (K (.int .i64 (-1 : Int)) h) (ldI .i64 (rd h (Addr.add x0 0)) (fun n1 => bcase (decide (x1 ≥ n1)) (K (.int .i64 (-1 : Int)) h) ((0 ≤ x1 ∧ x1 < (Nat.cast 8 : Int) ∧ ldI .i64 (rd h (Addr.add (Addr.add x0 1) (Int.toNat x1 * 1))) (fun n2 => K (.int .i64 n2) h)))))
theorem E0 (S : Stop) (x0 : Addr) (x1 : Int) (h : Heap) (K : Value → Heap → Prop) :
    (E Try.prog X T S body (fin Try.prog Try.f25.results.toList K) (args0 0 [(.pointer (some x0)), (.int .i64 x1)]) h) = J0 x0 x1 h K := by kernel_rfl
def w (x0 : Addr) (x1 : Int) (h : Heap) (K : Value → Heap → Prop) : Prop :=
  J0 x0 x1 h K
theorem e0 (K : Value → Heap → Prop) (x0 : Addr) (x1 : Int) (h : Heap) : (E Try.prog X T S0 body (fin Try.prog Try.f25.results.toList K) (args0 0 [(.pointer (some x0)), (.int .i64 x1)]) h) = w x0 x1 h K :=
  (E0 S0 x0 x1 h K).trans (rfl)
theorem hb : Try.f25.body = some body := by kernel_rfl
theorem ok : okCode T Try.f25.ntmps body = true := by kernel_rfl
theorem spec (x0 : Addr) (x1 : Int) (h : Heap) (K : Value → Heap → Prop) (H : w x0 x1 h K) : CallsH Try.prog 25 [(.pointer (some x0)), (.int .i64 x1)] h K :=
  calls_of_E (T := T) Xok mix Try.func25 hb ok rfl (by rw [e0]; exact H)
end F25
-- (*spinney/order.Order).Level
namespace F26
def T : Hint := ⟨[], []⟩
noncomputable def body : Code := (Try.f26.body).getD .skip
def J0 (x0 : Addr) (x1 : Int) (h : Heap) (K : Value → Heap → Prop) : Prop :=
  bcase (decide (x1 < (0 : Int))) (K (.int .i64 (-1 : Int)) h) (ldI .i64 (rd h (Addr.add x0 0)) (fun n1 => bcase (decide (x1 ≥ n1)) (K (.int .i64 (-1 : Int)) h) ((0 ≤ x1 ∧ x1 < (Nat.cast 8 : Int) ∧ ldI .i64 (rd h (Addr.add (Addr.add x0 9) (Int.toNat x1 * 1))) (fun n2 => K (.int .i64 n2) h)))))
theorem E0 (S : Stop) (x0 : Addr) (x1 : Int) (h : Heap) (K : Value → Heap → Prop) :
    (E Try.prog X T S body (fin Try.prog Try.f26.results.toList K) (args0 0 [(.pointer (some x0)), (.int .i64 x1)]) h) = J0 x0 x1 h K := by kernel_rfl
def w (x0 : Addr) (x1 : Int) (h : Heap) (K : Value → Heap → Prop) : Prop :=
  J0 x0 x1 h K
theorem e0 (K : Value → Heap → Prop) (x0 : Addr) (x1 : Int) (h : Heap) : (E Try.prog X T S0 body (fin Try.prog Try.f26.results.toList K) (args0 0 [(.pointer (some x0)), (.int .i64 x1)]) h) = w x0 x1 h K :=
  (E0 S0 x0 x1 h K).trans (rfl)
theorem hb : Try.f26.body = some body := by kernel_rfl
theorem ok : okCode T Try.f26.ntmps body = true := by kernel_rfl
theorem spec (x0 : Addr) (x1 : Int) (h : Heap) (K : Value → Heap → Prop) (H : w x0 x1 h K) : CallsH Try.prog 26 [(.pointer (some x0)), (.int .i64 x1)] h K :=
  calls_of_E (T := T) Xok mix Try.func26 hb ok rfl (by rw [e0]; exact H)
end F26
-- (*spinney/order.Order).Set
namespace F45
def T : Hint := ⟨[(5, [0, 1, 5, 17, 18, 19]), (12, [0, 41, 42, 43])], []⟩
noncomputable def body : Code := (Try.f45.body).getD .skip
def c0 (S : Stop) (K : Value → Heap → Prop) : Exit → Fr → Heap → Prop := seqN S (cutQ T (sub body [1, 1, 1, 1])) (E Try.prog X T S (sub body [1, 1, 1, 1]) (fin Try.prog Try.f45.results.toList K)) (fin Try.prog Try.f45.results.toList K)
def c1 (S : Stop) (K : Value → Heap → Prop) : Exit → Fr → Heap → Prop := blockN 0 (c0 S K)
def c2 (S : Stop) (n5 : Nat) (K : Value → Heap → Prop) : Exit → Fr → Heap → Prop := backN S (cutQ T (sub body [1, 1, 1, 0, 1, 0, 0])) (loopN S (E Try.prog X T S (sub body [1, 1, 1, 0, 1, 0, 0])) (cutQ T (sub body [1, 1, 1, 0, 1, 0, 0])) (c1 S K) n5) (c1 S K)
def c3 (S : Stop) (K : Value → Heap → Prop) : Exit → Fr → Heap → Prop := seqN S (cutQ T (sub body [1, 1, 1, 1, 1])) (E Try.prog X T S (sub body [1, 1, 1, 1, 1]) (fin Try.prog Try.f45.results.toList K)) (fin Try.prog Try.f45.results.toList K)
def c4 (S : Stop) (K : Value → Heap → Prop) : Exit → Fr → Heap → Prop := blockN 2 (c3 S K)
def c5 (S : Stop) (n12 : Nat) (K : Value → Heap → Prop) : Exit → Fr → Heap → Prop := backN S (cutQ T (sub body [1, 1, 1, 1, 0, 1, 0, 0])) (loopN S (E Try.prog X T S (sub body [1, 1, 1, 1, 0, 1, 0, 0])) (cutQ T (sub body [1, 1, 1, 1, 0, 1, 0, 0])) (c4 S K) n12) (c4 S K)
def J0 (k5 : Addr → (Option Addr) → Nat → Nat → Addr → (Option Addr) → Nat → Nat → Int → Int → Heap → Prop) (x0 : Addr) (x1p : Option Addr) (x1l : Nat) (x1c : Nat) (h : Heap) (K : Value → Heap → Prop) : Prop :=
  ldI .i64 (rd h (Addr.add x0 0)) (fun n1 => bcase ((Nat.cast x1l : Int) != n1) (K (.int .i64 (40 : Int)) h) (newK h (.cells #[(.bool false), (.bool false), (.bool false), (.bool false), (.bool false), (.bool false), (.bool false), (.bool false)] 114) (fun b2 h3 => k5 x0 x1p x1l x1c (Addr.mk b2 0 none) x1p x1l x1c (Nat.cast x1l : Int) (0 : Int) h3)))
theorem E0 (S : Stop) (x0 : Addr) (x1p : Option Addr) (x1l : Nat) (x1c : Nat) (h : Heap) (K : Value → Heap → Prop) :
    (E Try.prog X T S body (fin Try.prog Try.f45.results.toList K) (args0 0 [(.pointer (some x0)), (.slice x1p x1l x1c)]) h) = J0 (fun x0 x1p x1l x1c x5 x17p x17l x17c x18 x19 h => S (E Try.prog X T S (sub body [1, 1, 1, 0, 1]) (c0 S K)) [(0, (.pointer (some x0))), (1, (.slice x1p x1l x1c)), (5, (.pointer (some x5))), (17, (.slice x17p x17l x17c)), (18, (.int .i64 x18)), (19, (.int .i64 x19))] h) x0 x1p x1l x1c h K := by kernel_rfl
def Jk5 (lp5 : Addr → (Option Addr) → Nat → Nat → Addr → (Option Addr) → Nat → Nat → Int → Int → Heap → Prop) (x0 : Addr) (x1p : Option Addr) (x1l : Nat) (x1c : Nat) (x5 : Addr) (x17p : Option Addr) (x17l : Nat) (x17c : Nat) (x18 : Int) (x19 : Int) (h : Heap) (_K : Value → Heap → Prop) : Prop :=
  lp5 x0 x1p x1l x1c x5 x17p x17l x17c x18 x19 h
theorem Ek5 (S : Stop) (x0 : Addr) (x1p : Option Addr) (x1l : Nat) (x1c : Nat) (x5 : Addr) (x17p : Option Addr) (x17l : Nat) (x17c : Nat) (x18 : Int) (x19 : Int) (h : Heap) (K : Value → Heap → Prop) :
    (E Try.prog X T S (sub body [1, 1, 1, 0, 1]) (c0 S K) [(0, (.pointer (some x0))), (1, (.slice x1p x1l x1c)), (5, (.pointer (some x5))), (17, (.slice x17p x17l x17c)), (18, (.int .i64 x18)), (19, (.int .i64 x19))] h) = Jk5 (fun x0 x1p x1l x1c x5 x17p x17l x17c x18 x19 h => ∃ n, S (loopN S (E Try.prog X T S (sub body [1, 1, 1, 0, 1, 0, 0])) (cutQ T (sub body [1, 1, 1, 0, 1, 0, 0])) (c1 S K) n) [(0, (.pointer (some x0))), (1, (.slice x1p x1l x1c)), (5, (.pointer (some x5))), (17, (.slice x17p x17l x17c)), (18, (.int .i64 x18)), (19, (.int .i64 x19))] h) x0 x1p x1l x1c x5 x17p x17l x17c x18 x19 h K := by kernel_rfl
def JL5 (bk5 : Addr → (Option Addr) → Nat → Nat → Addr → (Option Addr) → Nat → Nat → Int → Int → Heap → Prop) (k12 : Addr → (Option Addr) → Nat → Nat → Int → Int → Heap → Prop) (x0 : Addr) (x1p : Option Addr) (x1l : Nat) (x1c : Nat) (x5 : Addr) (x17p : Option Addr) (x17l : Nat) (x17c : Nat) (x18 : Int) (x19 : Int) (h : Heap) (K : Value → Heap → Prop) : Prop :=
  bcase (decide (x19 < x18)) (ptrK x17p (fun a1 => (0 ≤ x19 ∧ x19 < (Nat.cast x17l : Int) ∧ ldI .i64 (rd h (Addr.add a1 (Int.toNat x19 * 1))) (fun n2 => bcase (decide (n2 < (0 : Int))) (K (.int .i64 (40 : Int)) h) (ldI .i64 (rd h (Addr.add x0 0)) (fun n3 => bcase (decide (n2 ≥ n3)) (K (.int .i64 (40 : Int)) h) ((0 ≤ n2 ∧ n2 < (Nat.cast 8 : Int) ∧ ldB (rd h (Addr.add x5 (Int.toNat n2 * 1))) (fun b4 => bcase b4 (K (.int .i64 (40 : Int)) h) ((0 ≤ n2 ∧ n2 < (Nat.cast 8 : Int) ∧ stK h (Addr.add (Addr.add x5 (Int.toNat n2 * 1)) 0) (.bool true) (fun h5 => bk5 x0 x1p x1l x1c x5 x17p x17l x17c x18 (IntKind.wrap .i64 (x19 + (1 : Int))) h5)))))))))))) (k12 x0 x1p x1l x1c (Nat.cast x1l : Int) (0 : Int) h)
theorem EL5 (S : Stop) (n5 : Nat) (x0 : Addr) (x1p : Option Addr) (x1l : Nat) (x1c : Nat) (x5 : Addr) (x17p : Option Addr) (x17l : Nat) (x17c : Nat) (x18 : Int) (x19 : Int) (h : Heap) (K : Value → Heap → Prop) :
    (E Try.prog X T S (sub body [1, 1, 1, 0, 1, 0, 0]) (c2 S n5 K) [(0, (.pointer (some x0))), (1, (.slice x1p x1l x1c)), (5, (.pointer (some x5))), (17, (.slice x17p x17l x17c)), (18, (.int .i64 x18)), (19, (.int .i64 x19))] h) = JL5 (fun x0 x1p x1l x1c x5 x17p x17l x17c x18 x19 h => S (loopN S (E Try.prog X T S (sub body [1, 1, 1, 0, 1, 0, 0])) (cutQ T (sub body [1, 1, 1, 0, 1, 0, 0])) (c1 S K) n5) [(0, (.pointer (some x0))), (1, (.slice x1p x1l x1c)), (5, (.pointer (some x5))), (17, (.slice x17p x17l x17c)), (18, (.int .i64 x18)), (19, (.int .i64 x19))] h) (fun x0 x41p x41l x41c x42 x43 h => S (E Try.prog X T S (sub body [1, 1, 1, 1, 0, 1]) (c3 S K)) [(0, (.pointer (some x0))), (41, (.slice x41p x41l x41c)), (42, (.int .i64 x42)), (43, (.int .i64 x43))] h) x0 x1p x1l x1c x5 x17p x17l x17c x18 x19 h K := by kernel_rfl
def Jk12 (lp12 : Addr → (Option Addr) → Nat → Nat → Int → Int → Heap → Prop) (x0 : Addr) (x41p : Option Addr) (x41l : Nat) (x41c : Nat) (x42 : Int) (x43 : Int) (h : Heap) (_K : Value → Heap → Prop) : Prop :=
  lp12 x0 x41p x41l x41c x42 x43 h
theorem Ek12 (S : Stop) (x0 : Addr) (x41p : Option Addr) (x41l : Nat) (x41c : Nat) (x42 : Int) (x43 : Int) (h : Heap) (K : Value → Heap → Prop) :
    (E Try.prog X T S (sub body [1, 1, 1, 1, 0, 1]) (c3 S K) [(0, (.pointer (some x0))), (41, (.slice x41p x41l x41c)), (42, (.int .i64 x42)), (43, (.int .i64 x43))] h) = Jk12 (fun x0 x41p x41l x41c x42 x43 h => ∃ n, S (loopN S (E Try.prog X T S (sub body [1, 1, 1, 1, 0, 1, 0, 0])) (cutQ T (sub body [1, 1, 1, 1, 0, 1, 0, 0])) (c4 S K) n) [(0, (.pointer (some x0))), (41, (.slice x41p x41l x41c)), (42, (.int .i64 x42)), (43, (.int .i64 x43))] h) x0 x41p x41l x41c x42 x43 h K := by kernel_rfl
def JL12 (bk12 : Addr → (Option Addr) → Nat → Nat → Int → Int → Heap → Prop) (x0 : Addr) (x41p : Option Addr) (x41l : Nat) (x41c : Nat) (x42 : Int) (x43 : Int) (h : Heap) (K : Value → Heap → Prop) : Prop :=
  bcase (decide (x43 < x42)) (ptrK x41p (fun a1 => (0 ≤ x43 ∧ x43 < (Nat.cast x41l : Int) ∧ ldI .i64 (rd h (Addr.add a1 (Int.toNat x43 * 1))) (fun n2 => CallsH Try.prog 47 [(.pointer (some x0)), (.int .i64 x43), (.int .i64 n2)] h (fun v3 h4 => (v3 = (.tuple #[]) ∧ bk12 x0 x41p x41l x41c x42 (IntKind.wrap .i64 (x43 + (1 : Int))) h4)))))) (K (.int .i64 (0 : Int)) h)
theorem EL12 (S : Stop) (n12 : Nat) (x0 : Addr) (x41p : Option Addr) (x41l : Nat) (x41c : Nat) (x42 : Int) (x43 : Int) (h : Heap) (K : Value → Heap → Prop) :
    (E Try.prog X T S (sub body [1, 1, 1, 1, 0, 1, 0, 0]) (c5 S n12 K) [(0, (.pointer (some x0))), (41, (.slice x41p x41l x41c)), (42, (.int .i64 x42)), (43, (.int .i64 x43))] h) = JL12 (fun x0 x41p x41l x41c x42 x43 h => S (loopN S (E Try.prog X T S (sub body [1, 1, 1, 1, 0, 1, 0, 0])) (cutQ T (sub body [1, 1, 1, 1, 0, 1, 0, 0])) (c4 S K) n12) [(0, (.pointer (some x0))), (41, (.slice x41p x41l x41c)), (42, (.int .i64 x42)), (43, (.int .i64 x43))] h) x0 x41p x41l x41c x42 x43 h K := by kernel_rfl
def wL12 : Nat → Addr → (Option Addr) → Nat → Nat → Int → Int → Heap → (Value → Heap → Prop) → Prop
  | 0, _, _, _, _, _, _, _, _ => False
  | n + 1, x0, x41p, x41l, x41c, x42, x43, h, K => JL12 (fun x0 x41p x41l x41c x42 x43 h => wL12 n x0 x41p x41l x41c x42 x43 h K) x0 x41p x41l x41c x42 x43 h K
theorem eL12 (K : Value → Heap → Prop) : ∀ (n : Nat) (x0 : Addr) (x41p : Option Addr) (x41l : Nat) (x41c : Nat) (x42 : Int) (x43 : Int) (h : Heap), (loopN S0 (E Try.prog X T S0 (sub body [1, 1, 1, 1, 0, 1, 0, 0])) (cutQ T (sub body [1, 1, 1, 1, 0, 1, 0, 0])) (c4 S0 K) n [(0, (.pointer (some x0))), (41, (.slice x41p x41l x41c)), (42, (.int .i64 x42)), (43, (.int .i64 x43))] h) = wL12 n x0 x41p x41l x41c x42 x43 h K
  | 0, _, _, _, _, _, _, _ => rfl
  | n + 1, x0, x41p, x41l, x41c, x42, x43, h => (EL12 S0 n x0 x41p x41l x41c x42 x43 h K).trans (congrFun (congrFun (congrFun (congrFun (congrFun (congrFun (congrFun (congrFun (congrArg JL12 (funext fun x0 => funext fun x41p => funext fun x41l => funext fun x41c => funext fun x42 => funext fun x43 => funext fun h => (fun x0 x41p x41l x41c x42 x43 h => eL12 K n x0 x41p x41l x41c x42 x43 h) x0 x41p x41l x41c x42 x43 h)) x0) x41p) x41l) x41c) x42) x43) h) K)
def wk12 (x0 : Addr) (x41p : Option Addr) (x41l : Nat) (x41c : Nat) (x42 : Int) (x43 : Int) (h : Heap) (K : Value → Heap → Prop) : Prop :=
  Jk12 (fun x0 x41p x41l x41c x42 x43 h => ∃ n, wL12 n x0 x41p x41l x41c x42 x43 h K) x0 x41p x41l x41c x42 x43 h K
theorem ek12 (K : Value → Heap → Prop) (x0 : Addr) (x41p : Option Addr) (x41l : Nat) (x41c : Nat) (x42 : Int) (x43 : Int) (h : Heap) : (E Try.prog X T S0 (sub body [1, 1, 1, 1, 0, 1]) (c3 S0 K) [(0, (.pointer (some x0))), (41, (.slice x41p x41l x41c)), (42, (.int .i64 x42)), (43, (.int .i64 x43))] h) = wk12 x0 x41p x41l x41c x42 x43 h K :=
  (Ek12 S0 x0 x41p x41l x41c x42 x43 h K).trans (congrFun (congrFun (congrFun (congrFun (congrFun (congrFun (congrFun (congrFun (congrArg Jk12 (funext fun x0 => funext fun x41p => funext fun x41l => funext fun x41c => funext fun x42 => funext fun x43 => funext fun h => congrArg (fun p : Nat → Prop => ∃ n, p n) (funext fun n => eL12 K n x0 x41p x41l x41c x42 x43 h))) x0) x41p) x41l) x41c) x42) x43) h) K)
def wL5 : Nat → Addr → (Option Addr) → Nat → Nat → Addr → (Option Addr) → Nat → Nat → Int → Int → Heap → (Value → Heap → Prop) → Prop
  | 0, _, _, _, _, _, _, _, _, _, _, _, _ => False
  | n + 1, x0, x1p, x1l, x1c, x5, x17p, x17l, x17c, x18, x19, h, K => JL5 (fun x0 x1p x1l x1c x5 x17p x17l x17c x18 x19 h => wL5 n x0 x1p x1l x1c x5 x17p x17l x17c x18 x19 h K) (fun x0 x41p x41l x41c x42 x43 h => wk12 x0 x41p x41l x41c x42 x43 h K) x0 x1p x1l x1c x5 x17p x17l x17c x18 x19 h K
theorem eL5 (K : Value → Heap → Prop) : ∀ (n : Nat) (x0 : Addr) (x1p : Option Addr) (x1l : Nat) (x1c : Nat) (x5 : Addr) (x17p : Option Addr) (x17l : Nat) (x17c : Nat) (x18 : Int) (x19 : Int) (h : Heap), (loopN S0 (E Try.prog X T S0 (sub body [1, 1, 1, 0, 1, 0, 0])) (cutQ T (sub body [1, 1, 1, 0, 1, 0, 0])) (c1 S0 K) n [(0, (.pointer (some x0))), (1, (.slice x1p x1l x1c)), (5, (.pointer (some x5))), (17, (.slice x17p x17l x17c)), (18, (.int .i64 x18)), (19, (.int .i64 x19))] h) = wL5 n x0 x1p x1l x1c x5 x17p x17l x17c x18 x19 h K
  | 0, _, _, _, _, _, _, _, _, _, _, _ => rfl
  | n + 1, x0, x1p, x1l, x1c, x5, x17p, x17l, x17c, x18, x19, h => (EL5 S0 n x0 x1p x1l x1c x5 x17p x17l x17c x18 x19 h K).trans (congrFun (congrFun (congrFun (congrFun (congrFun (congrFun (congrFun (congrFun (congrFun (congrFun (congrFun (congrFun (congr (congrArg JL5 (funext fun x0 => funext fun x1p => funext fun x1l => funext fun x1c => funext fun x5 => funext fun x17p => funext fun x17l => funext fun x17c => funext fun x18 => funext fun x19 => funext fun h => (fun x0 x1p x1l x1c x5 x17p x17l x17c x18 x19 h => eL5 K n x0 x1p x1l x1c x5 x17p x17l x17c x18 x19 h) x0 x1p x1l x1c x5 x17p x17l x17c x18 x19 h)) (funext fun x0 => funext fun x41p => funext fun x41l => funext fun x41c => funext fun x42 => funext fun x43 => funext fun h => ek12 K x0 x41p x41l x41c x42 x43 h)) x0) x1p) x1l) x1c) x5) x17p) x17l) x17c) x18) x19) h) K)
def wk5 (x0 : Addr) (x1p : Option Addr) (x1l : Nat) (x1c : Nat) (x5 : Addr) (x17p : Option Addr) (x17l : Nat) (x17c : Nat) (x18 : Int) (x19 : Int) (h : Heap) (K : Value → Heap → Prop) : Prop :=
  Jk5 (fun x0 x1p x1l x1c x5 x17p x17l x17c x18 x19 h => ∃ n, wL5 n x0 x1p x1l x1c x5 x17p x17l x17c x18 x19 h K) x0 x1p x1l x1c x5 x17p x17l x17c x18 x19 h K
theorem ek5 (K : Value → Heap → Prop) (x0 : Addr) (x1p : Option Addr) (x1l : Nat) (x1c : Nat) (x5 : Addr) (x17p : Option Addr) (x17l : Nat) (x17c : Nat) (x18 : Int) (x19 : Int) (h : Heap) : (E Try.prog X T S0 (sub body [1, 1, 1, 0, 1]) (c0 S0 K) [(0, (.pointer (some x0))), (1, (.slice x1p x1l x1c)), (5, (.pointer (some x5))), (17, (.slice x17p x17l x17c)), (18, (.int .i64 x18)), (19, (.int .i64 x19))] h) = wk5 x0 x1p x1l x1c x5 x17p x17l x17c x18 x19 h K :=
  (Ek5 S0 x0 x1p x1l x1c x5 x17p x17l x17c x18 x19 h K).trans (congrFun (congrFun (congrFun (congrFun (congrFun (congrFun (congrFun (congrFun (congrFun (congrFun (congrFun (congrFun (congrArg Jk5 (funext fun x0 => funext fun x1p => funext fun x1l => funext fun x1c => funext fun x5 => funext fun x17p => funext fun x17l => funext fun x17c => funext fun x18 => funext fun x19 => funext fun h => congrArg (fun p : Nat → Prop => ∃ n, p n) (funext fun n => eL5 K n x0 x1p x1l x1c x5 x17p x17l x17c x18 x19 h))) x0) x1p) x1l) x1c) x5) x17p) x17l) x17c) x18) x19) h) K)
def w (x0 : Addr) (x1p : Option Addr) (x1l : Nat) (x1c : Nat) (h : Heap) (K : Value → Heap → Prop) : Prop :=
  J0 (fun x0 x1p x1l x1c x5 x17p x17l x17c x18 x19 h => wk5 x0 x1p x1l x1c x5 x17p x17l x17c x18 x19 h K) x0 x1p x1l x1c h K
theorem e0 (K : Value → Heap → Prop) (x0 : Addr) (x1p : Option Addr) (x1l : Nat) (x1c : Nat) (h : Heap) : (E Try.prog X T S0 body (fin Try.prog Try.f45.results.toList K) (args0 0 [(.pointer (some x0)), (.slice x1p x1l x1c)]) h) = w x0 x1p x1l x1c h K :=
  (E0 S0 x0 x1p x1l x1c h K).trans (congrFun (congrFun (congrFun (congrFun (congrFun (congrFun (congrArg J0 (funext fun x0 => funext fun x1p => funext fun x1l => funext fun x1c => funext fun x5 => funext fun x17p => funext fun x17l => funext fun x17c => funext fun x18 => funext fun x19 => funext fun h => ek5 K x0 x1p x1l x1c x5 x17p x17l x17c x18 x19 h)) x0) x1p) x1l) x1c) h) K)
theorem hb : Try.f45.body = some body := by kernel_rfl
theorem ok : okCode T Try.f45.ntmps body = true := by kernel_rfl
theorem spec (x0 : Addr) (x1p : Option Addr) (x1l : Nat) (x1c : Nat) (h : Heap) (K : Value → Heap → Prop) (H : w x0 x1p x1l x1c h K) : CallsH Try.prog 45 [(.pointer (some x0)), (.slice x1p x1l x1c)] h K :=
  calls_of_E (T := T) Xok mix Try.func45 hb ok rfl (by rw [e0]; exact H)
end F45
-- (*spinney/order.Order).Len
namespace F46
def T : Hint := ⟨[], []⟩
noncomputable def body : Code := (Try.f46.body).getD .skip
def J0 (x0 : Addr) (h : Heap) (K : Value → Heap → Prop) : Prop :=
  ldI .i64 (rd h (Addr.add x0 0)) (fun n1 => K (.int .i64 n1) h)
theorem E0 (S : Stop) (x0 : Addr) (h : Heap) (K : Value → Heap → Prop) :
    (E Try.prog X T S body (fin Try.prog Try.f46.results.toList K) (args0 0 [(.pointer (some x0))]) h) = J0 x0 h K := by kernel_rfl
def w (x0 : Addr) (h : Heap) (K : Value → Heap → Prop) : Prop :=
  J0 x0 h K
theorem e0 (K : Value → Heap → Prop) (x0 : Addr) (h : Heap) : (E Try.prog X T S0 body (fin Try.prog Try.f46.results.toList K) (args0 0 [(.pointer (some x0))]) h) = w x0 h K :=
  (E0 S0 x0 h K).trans (rfl)
theorem hb : Try.f46.body = some body := by kernel_rfl
theorem ok : okCode T Try.f46.ntmps body = true := by kernel_rfl
theorem spec (x0 : Addr) (h : Heap) (K : Value → Heap → Prop) (H : w x0 h K) : CallsH Try.prog 46 [(.pointer (some x0))] h K :=
  calls_of_E (T := T) Xok mix Try.func46 hb ok rfl (by rw [e0]; exact H)
end F46
end Go.Proofs.Ytkdegjjenbbjfaa.Ev
