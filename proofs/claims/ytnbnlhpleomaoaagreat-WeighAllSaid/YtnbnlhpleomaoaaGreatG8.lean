/- PART 8 OF WHAT THE LAW WeighAll STANDS ON: CntF4, CntA4, LawG4. Conditions: each part names its own. -/
import Derived.Test.YtnbnlhpleomaoaaGreatG7
/- PRINTED BY PROGRAM: what each of these functions does, computed over heaps by the evaluator, and that its calls do so. Conditions: none. -/
namespace Go.Proofs.YtnbnlhpleomaoaaGreat.Ev
open Go
-- spinney/count.Count
namespace F23
def T : Hint := ⟨[], []⟩
noncomputable def body : Code := (Tryz.f23.body).getD .skip
def J0 (x0 : Addr) (x1 : Int) (h : Heap) (K : KK) : Prop :=
  CallsH Tryz.prog 21 [(.pointer (some x0)), (.int .u32 x1)] h (fun v1 h2 => ldB (some v1) (fun b3 => bcase (!b3) (K (.tuple #[(.int .u64 (0 : Int)), (.int .i64 (101 : Int))]) h2) (newK h2 (.map #[] 0) (fun b4 h5 => newK h5 (.cells #[(.pointer none), (.map none)] 99) (fun b6 h7 => stK h7 (Addr.add (Addr.mk b6 0 none) 0) (.pointer (some x0)) (fun h8 => stK h8 (Addr.add (Addr.mk b6 0 none) 1) (.map (some b4)) (fun h9 => ldP (rd h9 (Addr.add (Addr.mk b6 0 none) 0)) (fun p10 => ldM (rd h9 (Addr.add (Addr.mk b6 0 none) 1)) (fun r11 => CallsH Tryz.prog 45 [(.agg #[(.pointer p10), (.map r11)]), (.int .u32 x1)] h9 (fun v12 h13 => ldI .u64 (some v12) (fun n14 => CallsH Tryz.prog 46 [(.pointer (some x0)), (.int .u32 x1)] h13 (fun v15 h16 => ldI .i64 (some v15) (fun n17 => (0 ≤ n17 ∧ K (.tuple #[(.int .u64 (IntKind.wrap .u64 (n14 * 2 ^ (min (Int.toNat n17) (IntKind.bits .u64))))), (.int .i64 (0 : Int))]) h16))))))))))))))
theorem E0 (S : Stop) (x0 : Addr) (x1 : Int) (h : Heap) (K : KK) : (E Tryz.prog X T S body (fin Tryz.prog Tryz.f23.results.toList K) (args0 0 [(.pointer (some x0)), (.int .u32 x1)]) h) = J0 x0 x1 h K := by kernel_rfl
def w (x0 : Addr) (x1 : Int) (h : Heap) (K : KK) : Prop :=
  J0 x0 x1 h K
theorem e0 (K : KK) (x0 : Addr) (x1 : Int) (h : Heap) : (E Tryz.prog X T S0 body (fin Tryz.prog Tryz.f23.results.toList K) (args0 0 [(.pointer (some x0)), (.int .u32 x1)]) h) = w x0 x1 h K := (E0 S0 x0 x1 h K).trans (rfl)
theorem hb : Tryz.f23.body = some body := by kernel_rfl
theorem ok : okCode T Tryz.f23.ntmps body = true := by kernel_rfl
theorem spec (x0 : Addr) (x1 : Int) (h : Heap) (K : KK) (H : w x0 x1 h K) : CallsH Tryz.prog 23 [(.pointer (some x0)), (.int .u32 x1)] h K :=
  calls_of_E (T := T) Xok mix Tryz.func23 hb ok rfl (by rw [e0]; exact H)
end F23
-- (spinney/count.counter).of
namespace F45
def T : Hint := ⟨[(8, [1, 2, 7, 31, 32]), (12, [1, 2, 7])], [(7, [[(0, []), (1, []), (2, []), (4, []), (5, []), (6, []), (9, []), (3, [4, 5, 6, 9]), (7, [9]), (8, [])]]), (10, [[(0, []), (1, []), (2, []), (4, []), (5, []), (6, []), (8, []), (9, []), (10, []), (3, [0, 4, 5, 6, 8, 9, 10]), (7, [0, 8, 9, 10]), (11, [0]), (12, []), (13, []), (14, []), (15, []), (16, [])]])]⟩
noncomputable def body : Code := (Tryz.f45.body).getD .skip
noncomputable def en (S : Stop) (p : List Nat) (κ : XK) : Fr → Heap → Prop := E Tryz.prog X T S (sub body p) κ
noncomputable def ln (S : Stop) (p : List Nat) (κ : XK) (n : Nat) : Fr → Heap → Prop := loopN S (E Tryz.prog X T S (sub body p)) (cutQ T (sub body p)) κ n
def fn (K : KK) : XK := fin Tryz.prog Tryz.f45.results.toList K
noncomputable def c0 (S : Stop) (K : KK) : XK := seqN S (cutQ T (sub body [1, 1, 1, 1, 1])) (en S [1, 1, 1, 1, 1] (fn K)) (fn K)
noncomputable def c1 (S : Stop) (K : KK) : XK := blockN 0 (c0 S K)
noncomputable def c2 (S : Stop) (n8 : Nat) (K : KK) : XK := backN S (cutQ T (sub body [1, 1, 1, 1, 0, 1, 0, 0])) (ln S [1, 1, 1, 1, 0, 1, 0, 0] (c1 S K) n8) (c1 S K)
def f8 (x1 : Int) (x2 : Addr) (x7 x31_0 x31_1 x32 : Int) : Fr := [(1, (.int .u32 x1)), (2, (.pointer (some x2))), (7, (.int .u64 x7)), (31, (.agg #[(.int .u32 x31_0), (.int .u32 x31_1)])), (32, (.int .i64 x32))]
def f12 (x1 : Int) (x2 : Addr) (x7 : Int) : Fr := [(1, (.int .u32 x1)), (2, (.pointer (some x2))), (7, (.int .u64 x7))]
def J0 (k8 : Int → Addr → Int → Int → Int → Int → Heap → Prop) (x0_0 : Option Addr) (x0_1 : Option Nat) (x1 : Int) (h : Heap) (K : KK) : Prop :=
  newK h (.cells #[(.pointer x0_0), (.map x0_1)] 99) (fun b1 h2 => bcase (decide (x1 ≤ (1 : Int))) (K (.int .u64 (IntKind.wrap .u64 x1)) h2) (ldM (rd h2 (Addr.add (Addr.mk b1 0 none) 1)) (fun r3 => lookK h2 r3 .u32 .u32 x1 (fun o4 => ldI .u64 (some (lkV (.int .u64 (0 : Int)) o4)) (fun n5 => bcase (Option.isSome o4) (K (.int .u64 n5) h2) (ldP (rd h2 (Addr.add (Addr.mk b1 0 none) 0)) (fun p6 => ldP (rd h2 (Addr.add (Addr.mk b1 0 none) 0)) (fun p7 => CallsH Tryz.prog 68 [(.pointer p6), (.int .u32 x1)] h2 (fun v8 h9 => ldI .u32 (some v8) (fun n10 => ((.pointer (some (Addr.add (Addr.mk b1 0 none) 0))) = ((.pointer (some (Addr.add (Addr.mk b1 0 none) 0))) : Value) ∧ ldP (rd h9 (Addr.add (Addr.mk b1 0 none) 0)) (fun p11 => ((.pointer p11) = ((.pointer p7) : Value) ∧ ((.int .u32 x1) = ((.int .u32 x1) : Value) ∧ ((.int .i64 (0 : Int)) = ((.int .i64 (0 : Int)) : Value) ∧ CallsH Tryz.prog 69 [(.pointer p7), (.int .u32 x1)] h9 (fun v12 h13 => ldI .u32 (some v12) (fun n14 => ((.int .i64 (0 : Int)) = ((.int .i64 (0 : Int)) : Value) ∧ k8 x1 (Addr.mk b1 0 none) (0 : Int) n10 n14 (0 : Int) h13))))))))))))))))))
theorem E0 (S : Stop) (x0_0 : Option Addr) (x0_1 : Option Nat) (x1 : Int) (h : Heap) (K : KK) : (E Tryz.prog X T S body (fin Tryz.prog Tryz.f45.results.toList K) (args0 0 [(.agg #[(.pointer x0_0), (.map x0_1)]), (.int .u32 x1)]) h) = J0 (fun x1 x2 x7 x31_0 x31_1 x32 h => S (en S [1, 1, 1, 1, 0, 1] (c0 S K)) (f8 x1 x2 x7 x31_0 x31_1 x32) h) x0_0 x0_1 x1 h K := by kernel_rfl
def Jk8 (lp8 : Int → Addr → Int → Int → Int → Int → Heap → Prop) (x1 : Int) (x2 : Addr) (x7 x31_0 x31_1 x32 : Int) (h : Heap) (_K : KK) : Prop :=
  lp8 x1 x2 x7 x31_0 x31_1 x32 h
theorem Ek8 (S : Stop) (x1 : Int) (x2 : Addr) (x7 x31_0 x31_1 x32 : Int) (h : Heap) (K : KK) : (en S [1, 1, 1, 1, 0, 1] (c0 S K) (f8 x1 x2 x7 x31_0 x31_1 x32) h) = Jk8 (fun x1 x2 x7 x31_0 x31_1 x32 h => ∃ n, S (ln S [1, 1, 1, 1, 0, 1, 0, 0] (c1 S K) n) (f8 x1 x2 x7 x31_0 x31_1 x32) h) x1 x2 x7 x31_0 x31_1 x32 h K := by kernel_rfl
def JL8 (bk8 : Int → Addr → Int → Int → Int → Int → Heap → Prop) (k12 : Int → Addr → Int → Heap → Prop) (x1 : Int) (x2 : Addr) (x7 x31_0 x31_1 x32 : Int) (h : Heap) (_K : KK) : Prop :=
  bcase (decide (x32 < (2 : Int))) ((0 ≤ x32 ∧ x32 < (Nat.cast 2 : Int) ∧ ldI .u32 ([(.int .u32 x31_0), (.int .u32 x31_1)] : List Value)[Int.toNat x32]? (fun n1 => ldP (rd h (Addr.add x2 0)) (fun p2 => ldM (rd h (Addr.add x2 1)) (fun r3 => ldP (rd h (Addr.add x2 0)) (fun p4 => ldP (rd h (Addr.add x2 0)) (fun p5 => CallsH Tryz.prog 45 [(.agg #[(.pointer p2), (.map r3)]), (.int .u32 n1)] h (fun v6 h7 => ldI .u64 (some v6) (fun n8 => ((.int .u64 x7) = ((.int .u64 x7) : Value) ∧ ((.pointer (some (Addr.add x2 0))) = ((.pointer (some (Addr.add x2 0))) : Value) ∧ ldP (rd h7 (Addr.add x2 0)) (fun p9 => ((.pointer p9) = ((.pointer p4) : Value) ∧ ((.int .u32 n1) = ((.int .u32 n1) : Value) ∧ ((.pointer (some (Addr.add x2 0))) = ((.pointer (some (Addr.add x2 0))) : Value) ∧ ldP (rd h7 (Addr.add x2 0)) (fun p10 => ((.pointer p10) = ((.pointer p5) : Value) ∧ ((.int .u32 x1) = ((.int .u32 x1) : Value) ∧ CallsH Tryz.prog 46 [(.pointer p4), (.int .u32 n1)] h7 (fun v11 h12 => ldI .i64 (some v11) (fun n13 => ((.int .u64 x7) = ((.int .u64 x7) : Value) ∧ ((.pointer (some (Addr.add x2 0))) = ((.pointer (some (Addr.add x2 0))) : Value) ∧ ldP (rd h12 (Addr.add x2 0)) (fun p14 => ((.pointer p14) = ((.pointer p5) : Value) ∧ ((.int .u32 x1) = ((.int .u32 x1) : Value) ∧ CallsH Tryz.prog 46 [(.pointer p5), (.int .u32 x1)] h12 (fun v15 h16 => ldI .i64 (some v15) (fun n17 => ((.int .u64 x7) = ((.int .u64 x7) : Value) ∧ (0 ≤ (IntKind.wrap .i64 ((IntKind.wrap .i64 (n13 - n17)) - (1 : Int))) ∧ bk8 x1 x2 (IntKind.wrap .u64 (x7 + (IntKind.wrap .u64 (n8 * 2 ^ (min (Int.toNat (IntKind.wrap .i64 ((IntKind.wrap .i64 (n13 - n17)) - (1 : Int)))) (IntKind.bits .u64)))))) x31_0 x31_1 (IntKind.wrap .i64 (x32 + (1 : Int))) h16))))))))))))))))))))))))))))) (k12 x1 x2 x7 h)
theorem EL8 (S : Stop) (n8 : Nat) (x1 : Int) (x2 : Addr) (x7 x31_0 x31_1 x32 : Int) (h : Heap) (K : KK) : (en S [1, 1, 1, 1, 0, 1, 0, 0] (c2 S n8 K) (f8 x1 x2 x7 x31_0 x31_1 x32) h) = JL8 (fun x1 x2 x7 x31_0 x31_1 x32 h => S (ln S [1, 1, 1, 1, 0, 1, 0, 0] (c1 S K) n8) (f8 x1 x2 x7 x31_0 x31_1 x32) h) (fun x1 x2 x7 h => S (en S [1, 1, 1, 1, 1] (fn K)) (f12 x1 x2 x7) h) x1 x2 x7 x31_0 x31_1 x32 h K := by kernel_rfl
def Jk12 (x1 : Int) (x2 : Addr) (x7 : Int) (h : Heap) (K : KK) : Prop :=
  ldM (rd h (Addr.add x2 1)) (fun r1 => updK h r1 .u32 .u32 x1 (.int .u64 x7) (fun h2 => K (.int .u64 x7) h2))
theorem Ek12 (S : Stop) (x1 : Int) (x2 : Addr) (x7 : Int) (h : Heap) (K : KK) : (en S [1, 1, 1, 1, 1] (fn K) (f12 x1 x2 x7) h) = Jk12 x1 x2 x7 h K := by kernel_rfl
def wk12 (x1 : Int) (x2 : Addr) (x7 : Int) (h : Heap) (K : KK) : Prop :=
  Jk12 x1 x2 x7 h K
theorem ek12 (K : KK) (x1 : Int) (x2 : Addr) (x7 : Int) (h : Heap) : (en S0 [1, 1, 1, 1, 1] (fn K) (f12 x1 x2 x7) h) = wk12 x1 x2 x7 h K := (Ek12 S0 x1 x2 x7 h K).trans (rfl)
def wL8 : Nat → Int → Addr → Int → Int → Int → Int → Heap → KK → Prop
  | 0, _, _, _, _, _, _, _, _ => False
  | n + 1, x1, x2, x7, x31_0, x31_1, x32, h, K => JL8 (fun x1 x2 x7 x31_0 x31_1 x32 h => wL8 n x1 x2 x7 x31_0 x31_1 x32 h K) (fun x1 x2 x7 h => wk12 x1 x2 x7 h K) x1 x2 x7 x31_0 x31_1 x32 h K
theorem eL8 (K : KK) : ∀ (n : Nat) (x1 : Int) (x2 : Addr) (x7 x31_0 x31_1 x32 : Int) (h : Heap), (ln S0 [1, 1, 1, 1, 0, 1, 0, 0] (c1 S0 K) n (f8 x1 x2 x7 x31_0 x31_1 x32) h) = wL8 n x1 x2 x7 x31_0 x31_1 x32 h K
  | 0, _, _, _, _, _, _, _ => rfl
  | n + 1, x1, x2, x7, x31_0, x31_1, x32, h => (EL8 S0 n x1 x2 x7 x31_0 x31_1 x32 h K).trans (cg2 (fun q0 q1 => JL8 q0 q1 x1 x2 x7 x31_0 x31_1 x32 h K) (by funext x1 x2 x7 x31_0 x31_1 x32 h; exact (fun x1 x2 x7 x31_0 x31_1 x32 h => eL8 K n x1 x2 x7 x31_0 x31_1 x32 h) x1 x2 x7 x31_0 x31_1 x32 h) (by funext x1 x2 x7 h; exact ek12 K x1 x2 x7 h))
def wk8 (x1 : Int) (x2 : Addr) (x7 x31_0 x31_1 x32 : Int) (h : Heap) (K : KK) : Prop :=
  Jk8 (fun x1 x2 x7 x31_0 x31_1 x32 h => ∃ m, wL8 m x1 x2 x7 x31_0 x31_1 x32 h K) x1 x2 x7 x31_0 x31_1 x32 h K
theorem ek8 (K : KK) (x1 : Int) (x2 : Addr) (x7 x31_0 x31_1 x32 : Int) (h : Heap) : (en S0 [1, 1, 1, 1, 0, 1] (c0 S0 K) (f8 x1 x2 x7 x31_0 x31_1 x32) h) = wk8 x1 x2 x7 x31_0 x31_1 x32 h K := (Ek8 S0 x1 x2 x7 x31_0 x31_1 x32 h K).trans (cg1 (fun q0 => Jk8 q0 x1 x2 x7 x31_0 x31_1 x32 h K) (by funext x1 x2 x7 x31_0 x31_1 x32 h; exact ex_congr fun m => eL8 K m x1 x2 x7 x31_0 x31_1 x32 h))
def w (x0_0 : Option Addr) (x0_1 : Option Nat) (x1 : Int) (h : Heap) (K : KK) : Prop :=
  J0 (fun x1 x2 x7 x31_0 x31_1 x32 h => wk8 x1 x2 x7 x31_0 x31_1 x32 h K) x0_0 x0_1 x1 h K
theorem e0 (K : KK) (x0_0 : Option Addr) (x0_1 : Option Nat) (x1 : Int) (h : Heap) : (E Tryz.prog X T S0 body (fin Tryz.prog Tryz.f45.results.toList K) (args0 0 [(.agg #[(.pointer x0_0), (.map x0_1)]), (.int .u32 x1)]) h) = w x0_0 x0_1 x1 h K := (E0 S0 x0_0 x0_1 x1 h K).trans (cg1 (fun q0 => J0 q0 x0_0 x0_1 x1 h K) (by funext x1 x2 x7 x31_0 x31_1 x32 h; exact ek8 K x1 x2 x7 x31_0 x31_1 x32 h))
theorem hb : Tryz.f45.body = some body := by kernel_rfl
theorem ok : okCode T Tryz.f45.ntmps body = true := by kernel_rfl
theorem spec (x0_0 : Option Addr) (x0_1 : Option Nat) (x1 : Int) (h : Heap) (K : KK) (H : w x0_0 x0_1 x1 h K) : CallsH Tryz.prog 45 [(.agg #[(.pointer x0_0), (.map x0_1)]), (.int .u32 x1)] h K :=
  calls_of_E (T := T) Xok mix Tryz.func45 hb ok rfl (by rw [e0]; exact H)
end F45
-- spinney/count.One
namespace F26
def T : Hint := ⟨[(4, [0, 1, 12])], []⟩
noncomputable def body : Code := (Tryz.f26.body).getD .skip
noncomputable def en (S : Stop) (p : List Nat) (κ : XK) : Fr → Heap → Prop := E Tryz.prog X T S (sub body p) κ
noncomputable def ln (S : Stop) (p : List Nat) (κ : XK) (n : Nat) : Fr → Heap → Prop := loopN S (E Tryz.prog X T S (sub body p)) (cutQ T (sub body p)) κ n
def fn (K : KK) : XK := fin Tryz.prog Tryz.f26.results.toList K
noncomputable def c0 (S : Stop) (K : KK) : XK := seqN S (cutQ T (sub body [1, 1, 1])) (en S [1, 1, 1] (fn K)) (fn K)
noncomputable def c1 (S : Stop) (K : KK) : XK := blockN 0 (c0 S K)
noncomputable def c2 (S : Stop) (n4 : Nat) (K : KK) : XK := backN S (cutQ T (sub body [1, 1, 0, 1, 0, 0])) (ln S [1, 1, 0, 1, 0, 0] (c1 S K) n4) (c1 S K)
def f4 (x0 : Addr) (x1 x12 : Int) : Fr := [(0, (.pointer (some x0))), (1, (.int .u32 x1)), (12, (.int .i64 x12))]
def J0 (k4 : Addr → Int → Int → Heap → Prop) (x0 : Addr) (x1 : Int) (h : Heap) (K : KK) : Prop :=
  CallsH Tryz.prog 21 [(.pointer (some x0)), (.int .u32 x1)] h (fun v1 h2 => ldB (some v1) (fun b3 => bcase (!b3) (K (.tuple #[(.int .u8 (0 : Int)), (.bool false), (.int .i64 (101 : Int))]) h2) (k4 x0 x1 (0 : Int) h2)))
theorem E0 (S : Stop) (x0 : Addr) (x1 : Int) (h : Heap) (K : KK) : (E Tryz.prog X T S body (fin Tryz.prog Tryz.f26.results.toList K) (args0 0 [(.pointer (some x0)), (.int .u32 x1)]) h) = J0 (fun x0 x1 x12 h => S (en S [1, 1, 0, 1] (c0 S K)) (f4 x0 x1 x12) h) x0 x1 h K := by kernel_rfl
def Jk4 (lp4 : Addr → Int → Int → Heap → Prop) (x0 : Addr) (x1 x12 : Int) (h : Heap) (_K : KK) : Prop :=
  lp4 x0 x1 x12 h
theorem Ek4 (S : Stop) (x0 : Addr) (x1 x12 : Int) (h : Heap) (K : KK) : (en S [1, 1, 0, 1] (c0 S K) (f4 x0 x1 x12) h) = Jk4 (fun x0 x1 x12 h => ∃ n, S (ln S [1, 1, 0, 1, 0, 0] (c1 S K) n) (f4 x0 x1 x12) h) x0 x1 x12 h K := by kernel_rfl
def JL4 (bk4 : Addr → Int → Int → Heap → Prop) (x0 : Addr) (x1 x12 : Int) (h : Heap) (K : KK) : Prop :=
  bcase (decide (x12 < (256 : Int))) (CallsH Tryz.prog 50 [(.pointer (some x0)), (.int .u32 x1), (.int .u8 (IntKind.wrap .u8 x12))] h (fun v1 h2 => ldB (some v1) (fun b3 => bcase b3 (K (.tuple #[(.int .u8 (IntKind.wrap .u8 x12)), (.bool true), (.int .i64 (0 : Int))]) h2) (bk4 x0 x1 (IntKind.wrap .i64 (x12 + (1 : Int))) h2)))) (K (.tuple #[(.int .u8 (0 : Int)), (.bool false), (.int .i64 (0 : Int))]) h)
theorem EL4 (S : Stop) (n4 : Nat) (x0 : Addr) (x1 x12 : Int) (h : Heap) (K : KK) : (en S [1, 1, 0, 1, 0, 0] (c2 S n4 K) (f4 x0 x1 x12) h) = JL4 (fun x0 x1 x12 h => S (ln S [1, 1, 0, 1, 0, 0] (c1 S K) n4) (f4 x0 x1 x12) h) x0 x1 x12 h K := by kernel_rfl
def wL4 : Nat → Addr → Int → Int → Heap → KK → Prop
  | 0, _, _, _, _, _ => False
  | n + 1, x0, x1, x12, h, K => JL4 (fun x0 x1 x12 h => wL4 n x0 x1 x12 h K) x0 x1 x12 h K
theorem eL4 (K : KK) : ∀ (n : Nat) (x0 : Addr) (x1 x12 : Int) (h : Heap), (ln S0 [1, 1, 0, 1, 0, 0] (c1 S0 K) n (f4 x0 x1 x12) h) = wL4 n x0 x1 x12 h K
  | 0, _, _, _, _ => rfl
  | n + 1, x0, x1, x12, h => (EL4 S0 n x0 x1 x12 h K).trans (cg1 (fun q0 => JL4 q0 x0 x1 x12 h K) (by funext x0 x1 x12 h; exact (fun x0 x1 x12 h => eL4 K n x0 x1 x12 h) x0 x1 x12 h))
def wk4 (x0 : Addr) (x1 x12 : Int) (h : Heap) (K : KK) : Prop :=
  Jk4 (fun x0 x1 x12 h => ∃ m, wL4 m x0 x1 x12 h K) x0 x1 x12 h K
theorem ek4 (K : KK) (x0 : Addr) (x1 x12 : Int) (h : Heap) : (en S0 [1, 1, 0, 1] (c0 S0 K) (f4 x0 x1 x12) h) = wk4 x0 x1 x12 h K := (Ek4 S0 x0 x1 x12 h K).trans (cg1 (fun q0 => Jk4 q0 x0 x1 x12 h K) (by funext x0 x1 x12 h; exact ex_congr fun m => eL4 K m x0 x1 x12 h))
def w (x0 : Addr) (x1 : Int) (h : Heap) (K : KK) : Prop :=
  J0 (fun x0 x1 x12 h => wk4 x0 x1 x12 h K) x0 x1 h K
theorem e0 (K : KK) (x0 : Addr) (x1 : Int) (h : Heap) : (E Tryz.prog X T S0 body (fin Tryz.prog Tryz.f26.results.toList K) (args0 0 [(.pointer (some x0)), (.int .u32 x1)]) h) = w x0 x1 h K := (E0 S0 x0 x1 h K).trans (cg1 (fun q0 => J0 q0 x0 x1 h K) (by funext x0 x1 x12 h; exact ek4 K x0 x1 x12 h))
theorem hb : Tryz.f26.body = some body := by kernel_rfl
theorem ok : okCode T Tryz.f26.ntmps body = true := by kernel_rfl
theorem spec (x0 : Addr) (x1 : Int) (h : Heap) (K : KK) (H : w x0 x1 h K) : CallsH Tryz.prog 26 [(.pointer (some x0)), (.int .u32 x1)] h K :=
  calls_of_E (T := T) Xok mix Tryz.func26 hb ok rfl (by rw [e0]; exact H)
end F26
end Go.Proofs.YtnbnlhpleomaoaaGreat.Ev
/- COUNT (package count): how often a node's function is true. Conditions: the store stands (Sto), the levels are the variables. -/
namespace Go.Proofs.YtnbnlhpleomaoaaGreat.Ev
open Go
section
variable {h : Heap} {s : Nat} {L : List Nat} {X : SX}
theorem ldM_of {x : Option Value} {K : Option Nat → Prop} {n : Option Nat} (hx : x = some (.map n)) (hK : K n) : ldM x K := ⟨n, hx, hK⟩
/-- what the count has kept -/
def Kept (X : SX) (m : List (Int × Value)) : Prop := ∀ a v, m.lookup ((a : Nat) : Int) = some v → v = .int .u64 (cA X.n X.f X.N a : Int)
theorem pow_u {n : Nat} (h : n ≤ 8) : 2 ^ n ≤ 256 := Nat.le_trans (Nat.pow_le_pow_right (by decide) h) (by decide)
theorem shl_u64 {x k : Nat} (hk : k ≤ 64) (hx : x * 2 ^ k < U64) : IntKind.wrap .u64 ((x : Int) * 2 ^ (min (Int.toNat ((k : Nat) : Int)) (IntKind.bits .u64))) = ((x * 2 ^ k : Nat) : Int) := by
  have e : min (Int.toNat ((k : Nat) : Int)) (IntKind.bits .u64) = k := by
    rw [Int.toNat_natCast]
    show min k 64 = k
    omega
  rw [e, show (x : Int) * 2 ^ k = ((x * 2 ^ k : Nat) : Int) by simp, wrapU hx]
set_option maxRecDepth 100000 in
theorem of45 (hf : ∀ j, j < X.n → X.f j = j) {mb : Nat} (hm : mb ∉ L) : ∀ (d : Nat) {h : Heap} {a : Nat} {m : List (Int × Value)} {K : Value → Heap → Prop}, X.n - lvl X.n X.N a ≤ d → Sto h s L X → isN X.N a → MapM h mb .u32 m → Kept X m →
    (∀ h' m', MapM h' mb .u32 m' → Kept X m' → Only [mb] h h' → K (.int .u64 (cA X.n X.f X.N a : Int)) h') →
    CallsH Tryz.prog 45 [.agg #[.pointer (some ⟨s, 0, none⟩), .map (some mb)], .int .u32 (a : Int)] h K := by
  intro d
  have const : ∀ {h : Heap} {a : Nat} {m : List (Int × Value)} {K : Value → Heap → Prop}, a < 2 → MapM h mb .u32 m → Kept X m →
      (∀ h' m', MapM h' mb .u32 m' → Kept X m' → Only [mb] h h' → K (.int .u64 (cA X.n X.f X.N a : Int)) h') →
      CallsH Tryz.prog 45 [.agg #[.pointer (some ⟨s, 0, none⟩), .map (some mb)], .int .u32 (a : Int)] h K := by
    intro h a m K h2 M hk hK
    refine F45.spec _ _ _ h K ?_
    unfold F45.w F45.J0
    refine newK_at fun h1 A1 O1 z1 => ?_
    rw [decide_eq_true (by omega), bcase_true, wrapU (by unfold U64; omega)]
    have := hK h1 m (M.only O1 (by simp)) hk (O1.mono (by simp))
    rw [cA_const h2] at this
    exact this
  induction d with
  | zero =>
    intro h a m K hd H ha M hk hK
    refine const ?_ M hk hK
    apply Classical.byContradiction
    intro hn
    have := (H.ok.1.at ha (by omega)).1
    omega
  | succ d ih =>
    intro h a m K hd H ha M hk hK
    by_cases h2 : a < 2
    · exact const h2 M hk hK
    have ok := H.ok
    obtain ⟨h3, h4, h5, -, h6, h7⟩ := ok.1.at ha (by omega)
    have l4 := lvl_le ok.1 h4
    have l5 := lvl_le ok.1 h5
    have hp := pow_u ok.2.2.1
    refine F45.spec _ _ _ h K ?_
    unfold F45.w F45.J0
    refine newK_at fun h1 A1 O1 z1 => ?_
    rw [decide_eq_false (by omega), bcase_false]
    have lt := M.lt
    have M1 := M.only O1 (by simp)
    have H1 := H.only0 O1
    simp only [add_mk, Nat.zero_add]
    refine ldM_of (n := some mb) (by rw [At.rd A1]; rfl) (look_map M1 (fun hn => ?_) fun i v hv => ?_)
    · refine ldI_of rfl ?_
      rw [show Option.isSome (none : Option (Nat × Value)) = false from rfl, bcase_false]
      have rp : rd h1 ⟨h.size, 0, none⟩ = some (.pointer (some ⟨s, 0, none⟩)) := by rw [At.rd A1]; rfl
      refine ldP_of rp (ldP_of rp (sto_low H1 ha (ldI_of rfl ⟨by trivial, ldP_of rp ⟨by trivial, by trivial, by trivial, sto_high H1 ha (ldI_of rfl ⟨by trivial, ?_⟩)⟩⟩)))
      unfold F45.wk8 F45.Jk8
      have last : ∀ (h' : Heap) (m' : List (Int × Value)), At h' h.size [.pointer (some ⟨s, 0, none⟩), .map (some mb)] → MapM h' mb .u32 m' → Kept X m' → Only [mb] h h' →
          F45.wk12 (a : Int) ⟨h.size, 0, none⟩ (cA X.n X.f X.N a : Int) h' K := by
        intro h' m' A M' hk' O
        unfold F45.wk12 F45.Jk12
        rw [add_mk, Nat.zero_add]
        refine ldM_of (n := some mb) (by rw [At.rd A]; rfl) (upd_map M' fun h'' M'' O'' z'' => hK h'' _ M'' (fun b v hb => ?_) (O.trans O'' (by simp)))
        rw [lookup_mset] at hb
        by_cases e : (b : Int) = (a : Int)
        · have : b = a := by omega
          subst this
          rw [if_pos rfl] at hb
          injection hb with hb
          exact hb.symm
        · rw [if_neg e] at hb
          exact hk' b v hb
      have step : ∀ (bk : Int → Addr → Int → Int → Int → Int → Heap → Prop) (k12 : Int → Addr → Int → Heap → Prop) (h' : Heap) (m' : List (Int × Value)) (i c t : Nat), i < 2 → (if i = 0 then low X.N a else high X.N a) = c → isN X.N c → lvl X.n X.N a < lvl X.n X.N c → t ≤ 256 → At h' h.size [.pointer (some ⟨s, 0, none⟩), .map (some mb)] → MapM h' mb .u32 m' → Kept X m' → Only [mb] h h' →
          (∀ h'' m'', At h'' h.size [.pointer (some ⟨s, 0, none⟩), .map (some mb)] → MapM h'' mb .u32 m'' → Kept X m'' → Only [mb] h h'' → bk (a : Int) ⟨h.size, 0, none⟩ ((t + cA X.n X.f X.N c * 2 ^ (lvl X.n X.N c - lvl X.n X.N a - 1) : Nat) : Int) (low X.N a : Int) (high X.N a : Int) ((i + 1 : Nat) : Int) h'') →
          F45.JL8 bk k12 (a : Int) ⟨h.size, 0, none⟩ (t : Int) (low X.N a : Int) (high X.N a : Int) (i : Int) h' K := by
        intro bk k12 h' m' i c t hi hc hcN hcl ht A M' hk' O hB
        have lc := lvl_le ok.1 hcN
        unfold F45.JL8
        rw [decide_eq_true (by omega), bcase_true]
        refine ⟨by omega, by omega, ldI_of (n := (c : Int)) ?_ ?_⟩
        · rw [Int.toNat_natCast]
          subst hc
          have : i = 0 ∨ i = 1 := by omega
          rcases this with e | e <;> subst e <;> rfl
        · rw [add_mk, Nat.zero_add, add_mk, Nat.zero_add]
          have rp : ∀ {h' : Heap}, At h' h.size [.pointer (some ⟨s, 0, none⟩), .map (some mb)] → rd h' ⟨h.size, 0, none⟩ = some (.pointer (some ⟨s, 0, none⟩)) := fun A => by rw [At.rd A]; rfl
          refine ldP_of (rp A) (ldM_of (n := some mb) (by rw [At.rd A]; rfl) (ldP_of (rp A) (ldP_of (rp A) ?_)))
          have S' := H.only O fun b hb hl => by simp at hb; subst hb; exact hm hl
          refine ih (by omega) S' hcN M' hk' fun h2 m2 M2 k2 O2 => ldI_of rfl ⟨by trivial, by trivial, ?_⟩
          have A2 := A.only O2 (by simp; omega)
          have S2 := S'.only O2 fun b hb hl => by simp at hb; subst hb; exact hm hl
          refine ldP_of (rp A2) ⟨by trivial, by trivial, by trivial, ldP_of (rp A2) ⟨by trivial, by trivial, sto_level S2 hcN (ldI_of rfl ⟨by trivial, by trivial, ldP_of (rp A2) ⟨by trivial, by trivial, sto_level S2 ha (ldI_of rfl ⟨by trivial, ?_⟩)⟩⟩)⟩⟩
          have e1 : IntKind.wrap .i64 (IntKind.wrap .i64 ((lvl X.n X.N c : Int) - (lvl X.n X.N a : Int)) - 1) = ((lvl X.n X.N c - lvl X.n X.N a - 1 : Nat) : Int) := by
            rw [wrap_i64 (n := (lvl X.n X.N c : Int) - (lvl X.n X.N a : Int)) (by omega) (by omega), wrap_i64 (by omega) (by omega)]
            omega
          have hb := cA_pow ok.1 hf hcN (k := lvl X.n X.N c - lvl X.n X.N a - 1) (by omega)
          have ew : IntKind.wrap .i64 ((i : Int) + 1) = ((i + 1 : Nat) : Int) := by rw [wrap_i64 (by omega) (by omega)]; omega
          rw [e1, shl_u64 (by omega) (by unfold U64; omega), ew]
          generalize cA X.n X.f X.N c * 2 ^ (lvl X.n X.N c - lvl X.n X.N a - 1) = z at hb hB ⊢
          rw [show (t : Int) + (z : Int) = ((t + z : Nat) : Int) by omega, wrapU (by unfold U64; omega)]
          exact ⟨by omega, hB h2 m2 A2 M2 k2 (O.trans O2 (by simp))⟩
      have hb0 := cA_pow ok.1 hf h4 (k := lvl X.n X.N (low X.N a) - lvl X.n X.N a - 1) (by omega)
      refine ⟨3, ?_⟩
      unfold F45.wL8
      refine step _ _ h1 m 0 (low X.N a) 0 (by omega) rfl h4 h6 (by omega) A1 M1 hk (O1.mono (by simp)) fun h2 m2 A2 M2 k2 O2 => ?_
      unfold F45.wL8
      refine step _ _ h2 m2 1 (high X.N a) _ (by omega) rfl h5 h7 (by omega) A2 M2 k2 O2 fun h3 m3 A3 M3 k3 O3 => ?_
      unfold F45.wL8 F45.JL8
      rw [decide_eq_false (by omega), bcase_false, Nat.zero_add, ← cA_node ok.1 hf ha (by omega)]
      exact last h3 m3 A3 M3 k3 O3
    · have e := hk a v hv
      subst e
      refine ldI_of rfl ?_
      rw [show Option.isSome (some (i, (Value.int .u64 (cA X.n X.f X.N a : Int)))) = true from rfl, bcase_true]
      exact hK h1 m M1 hk (O1.mono (by simp))
theorem count23 (hf : ∀ j, j < X.n → X.f j = j) {a : Nat} {K : Value → Heap → Prop} (H : Sto h s L X) (ha : isN X.N a) (hK : ∀ h', Only [] h h' → K (.tuple #[.int .u64 (tA X.n X.f X.N a : Int), .int .i64 0]) h') :
    CallsH Tryz.prog 23 [.pointer (some ⟨s, 0, none⟩), .int .u32 (a : Int)] h K := by
  have ok := H.ok
  have hp := pow_u ok.2.2.1
  have lc := lvl_le ok.1 ha
  refine F23.spec _ _ h K ?_
  unfold F23.w F23.J0
  refine sto_is1 H ha (ldB_of rfl ?_)
  rw [Bool.not_true, bcase_false]
  refine newK_map4 (k := .u32) fun h1 M1 O1 z1 => newK_at fun h2 A2 O2 z2 => ?_
  refine stK_at A2 (by simp) rfl fun h3 A3 O3 z3 => stK_at A3 (by simp) rfl fun h4 A4 O4 z4 => ?_
  have n1 : h.size ∉ [h1.size] := by simp; omega
  have M4 := ((M1.only O2 (by simp)).only O3 n1).only O4 n1
  have O04 : Only [] h h4 := ((O1.trans O2 (by simp)).trans O3 (by intro b hb hl; simp at hb; omega)).trans O4 (by intro b hb hl; simp at hb; omega)
  have S4 := H.only0 O04
  simp only [add_mk, Nat.zero_add]
  refine ldP_of (n := some ⟨s, 0, none⟩) (by rw [At.rd A4]; rfl) (ldM_of (n := some h.size) (by rw [At.rd A4]; rfl) ?_)
  have hm : h.size ∉ L := fun hm => Nat.lt_irrefl _ (H.lt _ hm)
  refine of45 hf hm X.n (by omega) S4 ha M4 (fun b v hb => by cases hb) fun h5 m5 M5 k5 O5 => ldI_of rfl ?_
  have O05 := O04.trans O5 (by intro b hb hl; simp at hb; omega)
  refine sto_level (H.only0 O05) ha (ldI_of rfl ⟨by omega, ?_⟩)
  have hb := tN_le (sm X.n X.f X.N a) (2 ^ X.n)
  have e := tA_cA ok.1 hf X.n (by omega) ha
  rw [shl_u64 (by omega) (by rw [← e]; unfold U64 tA; omega), ← e]
  exact hK h5 O05
end
end Go.Proofs.YtnbnlhpleomaoaaGreat.Ev
/- THE LAWS OF LAYER 30: the ranks of all assignments (WeighAll). Conditions: the arguments are in their kinds' bounds. -/
namespace Go.Proofs.YtnbnlhpleomaoaaGreat.Ev
open Go
theorem below_trs (p : Nat → Bool) (x : Nat) : ∀ k, below (trs p k) x = tN p (min k x)
  | 0 => by rw [Nat.zero_min]; rfl
  | k + 1 => by
    have ih := below_trs p x k
    unfold below at ih ⊢
    rw [trs_succ, List.filter_append, List.length_append, ih]
    by_cases h : k < x
    · rw [show min (k + 1) x = k + 1 by omega, show min k x = k by omega, tN_succ]
      cases hp : p k <;> simp [h]
    · rw [show min (k + 1) x = x by omega, show min k x = x by omega]
      cases hp : p k <;> simp [h]
def w5 (b : Bool) : Nat → Nat := fun _ => if b then 6148914691236517205 else 0
theorem w5_ok (b : Bool) : WOk (w5 b) := fun i _ => by unfold w5 U64; cases b <;> simp
theorem w5_fb : ∀ y : Fin 256, fb (w5 true) y.1 = !y.1.testBit 0 := by decide +kernel
theorem w5_ff : ∀ y : Fin 256, fb (w5 false) y.1 = false := by decide +kernel
theorem w5_indep {b : Bool} {n : Nat} (h1 : 1 ≤ n) : ∀ v, v < 8 → n ≤ v → Indep (fb (w5 b)) v := fun v hv hn y hy => by
  cases b with
  | false => rw [w5_ff ⟨_, tobl hy hv true⟩, w5_ff ⟨_, tobl hy hv false⟩]
  | true => rw [w5_fb ⟨_, tobl hy hv true⟩, w5_fb ⟨_, tobl hy hv false⟩, tb_tob hy hv true (by omega), tb_tob hy hv false (by omega), if_neg (by omega), if_neg (by omega)]
set_option maxRecDepth 100000 in
theorem all_tail {h0 h : Heap} {s bf n : Nat} {L : List Nat} {b : Bool} (n1 : 1 ≤ n) (n8 : n ≤ 8) (H : Sto h s L (X0 n 400)) (A : At h bf (wrow (w5 b))) (O0 : Only [] h0 h) (hL : ∀ b ∈ L, h0.size ≤ b) :
    F7.wk10 (n : Int) (some ⟨s, 0, none⟩) ⟨bf, 0, none⟩ h (Lawful h0) := by
  unfold F7.wk10 F7.Jk10
  refine rd4 A ?_
  have hb := bdn_le (n := n) n8
  refine make13 H (fill_8 n8) (w5_ok b) (fill_indep n8 (w5_indep n1)) (by show clN (lst n) [] + bdn n 0 + 2 ≤ 400; rw [cl_nil]; omega) fun h4 L4 N4 r E4 hr hs hc S4 O4 F4 => ⟨_, _, rfl, ?_⟩
  dsimp only [X0] at hs hr
  have O04 : Only [] h0 h4 := O0.grow O4 hL
  have hp := pow_u n8
  refine count23 (fun j hj => fill_lt hj) S4 hr fun h5 O5 => ⟨_, _, rfl, ?_⟩
  have S5 := S4.only0 O5
  refine rank20 (x := 255) S5 (fill_8 n8) hr fun h6 O6 => ⟨_, _, rfl, ?_⟩
  have S6 := S5.only0 O6
  refine rank20 (x := 255) (a := 1) S6 (fill_8 n8) (.inl (by omega)) fun h7 O7 => ⟨_, _, rfl, ?_⟩
  have O07 := ((O04.trans O5 (by simp)).trans O6 (by simp)).trans O7 (by simp)
  dsimp only [X0]
  have e1 : below (trs (sm n (fill n) N4 r) (2 ^ n)) 255 = tA n (fill n) N4 r := by
    rw [below_trs]
    unfold tA
    by_cases h : 2 ^ n ≤ 255
    · rw [show min (2 ^ n) 255 = 2 ^ n by omega]
    · have e : 2 ^ n = 255 + 1 := by omega
      rw [e, show min (255 + 1) 255 = 255 by omega, tN_succ (sm n (fill n) N4 r) 255, hs 255 (by omega)]
      have : fb (w5 b) 255 = false := by cases b <;> decide
      rw [this]
      rfl
  have e2 : below (trs (sm n (fill n) N4 1) (2 ^ n)) 255 = min (2 ^ n) 255 := by
    rw [below_trs, tN_congr fun x _ => sm_const (by omega)]
    exact tN_true _
  have e3 : IntKind.wrap .u64 (n : Int) = (n : Int) := wrapU (by unfold U64; omega)
  have e4 : IntKind.wrap .i64 (1 * 2 ^ (min (Int.toNat (n : Int)) (IntKind.bits .i64))) = ((2 ^ n : Nat) : Int) := by
    rw [show min (Int.toNat (n : Int)) (IntKind.bits .i64) = n by
      rw [Int.toNat_natCast]
      show min n 64 = n
      omega, Int.one_mul, show ((2 : Int) ^ n) = ((2 ^ n : Nat) : Int) by simp]
    generalize 2 ^ n = q at hp
    exact wrap_i64 (by omega) (by omega)
  have ht : tA n (fill n) N4 r ≤ 2 ^ n := tN_le _ _
  rw [e1, e2, e3, e4, wrap_i64 (n := (tA n (fill n) N4 r : Int)) (by omega) (by omega)]
  refine ⟨by omega, ?_⟩
  simp only [beq_self_eq_true, bcase_true]
  refine ⟨?_, O07⟩
  congr 1
  generalize 2 ^ n = q at hp
  split
  · rw [show min q 255 = 255 by omega]
    rfl
  · rw [show min q 255 = q by omega]
    simp
set_option maxRecDepth 100000 in
theorem law7 (h : Heap) (x0 : Int) (r0 : IntKind.min .u8 ≤ x0 ∧ x0 ≤ IntKind.max .u8) (z : List Int) (lz : z.length = 4) (rz : ∀ y ∈ z, IntKind.min .u64 ≤ y ∧ y ≤ IntKind.max .u64) :
    CallsH Tryz.prog 7 [.int .u8 x0, .agg (z.map (Value.int .u64)).toArray] h (Lawful h) := by
  obtain ⟨g, hg, eg⟩ := arrW lz rz
  rw [eg]
  obtain ⟨n, n1, n8, en⟩ := nvars r0
  refine F7.spec _ _ _ _ _ h _ ?_
  unfold F7.w F7.J0
  refine newK_at fun h1 A1 O1 z1 => ?_
  replace A1 : At h1 h.size (wrow g) := A1
  refine known10 fun h2 O2 => ldB_of rfl ?_
  rw [Bool.not_true, bcase_false, en]
  refine ⟨by omega, ?_⟩
  refine sto_new (n := n) (room := 400) (Q := fun _ _ => True) n1 n8 (by omega) (by omega) fun h3 s L S3 O3 g3 => ⟨_, _, rfl, ?_⟩
  rw [show ((0 : Int) != 0) = false from rfl, bcase_false]
  have A3 := (A1.only O2 (by simp)).only O3 (by simp)
  have O03 := (O1.trans O2 (by simp)).trans O3 (by simp)
  have z03 := O03.size
  have z13 : h1.size ≤ h3.size := Nat.le_trans O2.size O3.size
  refine newK_at fun h4 A4 O4 z4 => ?_
  refine stK_at A4 (by simp) rfl fun h5 A5 O5 z5 => stK_at A5 (by simp) rfl fun h6 A6 O6 z6 => stK_at A6 (by simp) rfl fun h7 A7 O7 z7 => stK_at A7 (by simp) rfl fun h8 A8 O8 z8 => ?_
  have O38 : Only [h3.size] h3 h8 := ((((O4.mono (T := [h3.size]) (by simp)).trans O5 (fun _ h _ => h)).trans O6 (fun _ h _ => h)).trans O7 (fun _ h _ => h)).trans O8 (fun _ h _ => h)
  have gl : ∀ b ∈ L, h.size ≤ b := fun b hb => by have := g3 b hb; have := O2.size; omega
  have S8 := S3.only O38 fun b hb hl => by simp at hb; have := S3.lt _ hl; omega
  have O08 : Only [] h h8 := O03.grow O38 fun b hb => by simp at hb; omega
  have A38 := A3.only O38 (by simp; omega)
  refine ⟨by omega, by omega, ?_⟩
  simp only [add_mk, Nat.zero_add]
  refine ldI_of (n := (g 0 : Int)) (by rw [At.rd A38]; rfl) (bcase_of (fun _ => ?_) fun _ => ?_)
  · refine stK_at A8 (by simp) rfl fun h9 A9 O9 z9 => stK_at A9 (by simp) rfl fun h10 A10 O10 z10 => stK_at A10 (by simp) rfl fun h11 A11 O11 z11 => stK_at A11 (by simp) rfl fun h12 A12 O12 z12 => ?_
    have O9' : Only [h3.size] h8 h12 := ((O9.trans O10 (fun _ h _ => h)).trans O11 (fun _ h _ => h)).trans O12 (fun _ h _ => h)
    refine all_tail (b := true) n1 n8 (S8.only O9' fun b hb hl => by simp at hb; have := S3.lt _ hl; omega) A12 (O08.grow O9' fun b hb => by simp at hb; omega) gl
  · exact all_tail (b := false) n1 n8 S8 A8 O08 gl
end Go.Proofs.YtnbnlhpleomaoaaGreat.Ev
