/- PART 7 OF WHAT THE LAW PoolMany STANDS ON: LpF5, PolJ5, PlyH5, FunI5, FunJ5, PlyI5, MakC5, LawJ5, LawK5, LawL5. Conditions: each part names its own. -/
import Derived.Test.YtnofenejoebkhaaGreatG6
/- PRINTED BY PROGRAM: what each of these functions does, computed over heaps by the evaluator, and that its calls do so. Conditions: none. -/
namespace Go.Proofs.YtnofenejoebkhaaGreat.Ev
open Go
-- spinney/spinneylaw21.PoolMany
namespace F6
def T : Hint := ⟨[(9, [1, 6, 8, 9, 10]), (14, [1, 6, 8, 9]), (19, [1, 6, 8, 9, 13, 14]), (25, [1, 6, 8, 9, 13, 14]), (28, [6, 8, 9, 13])], []⟩
noncomputable def body : Code := (Tryz.f6.body).getD .skip
noncomputable def en (S : Stop) (p : List Nat) (κ : XK) : Fr → Heap → Prop := E Tryz.prog X T S (sub body p) κ
noncomputable def ln (S : Stop) (p : List Nat) (κ : XK) (n : Nat) : Fr → Heap → Prop := loopN S (E Tryz.prog X T S (sub body p)) (cutQ T (sub body p)) κ n
def fn (K : KK) : XK := fin Tryz.prog Tryz.f6.results.toList K
noncomputable def c0 (S : Stop) (K : KK) : XK := seqN S (cutQ T (sub body [1, 1, 1, 1, 1, 1, 1])) (en S [1, 1, 1, 1, 1, 1, 1] (fn K)) (fn K)
noncomputable def c1 (S : Stop) (K : KK) : XK := blockN 0 (c0 S K)
noncomputable def c2 (S : Stop) (n9 : Nat) (K : KK) : XK := backN S (cutQ T (sub body [1, 1, 1, 1, 1, 1, 0, 1, 0, 0])) (ln S [1, 1, 1, 1, 1, 1, 0, 1, 0, 0] (c1 S K) n9) (c1 S K)
noncomputable def c3 (S : Stop) (K : KK) : XK := seqN S (cutQ T (sub body [1, 1, 1, 1, 1, 1, 1, 1, 1, 1, 1])) (en S [1, 1, 1, 1, 1, 1, 1, 1, 1, 1, 1] (fn K)) (fn K)
noncomputable def c4 (S : Stop) (K : KK) : XK := blockN 2 (c3 S K)
noncomputable def c5 (S : Stop) (n19 : Nat) (K : KK) : XK := backN S (cutQ T (sub body [1, 1, 1, 1, 1, 1, 1, 1, 1, 1, 0, 1, 0, 0])) (ln S [1, 1, 1, 1, 1, 1, 1, 1, 1, 1, 0, 1, 0, 0] (c4 S K) n19) (c4 S K)
noncomputable def c6 (S : Stop) (n19 : Nat) (K : KK) : XK := seqN S (cutQ T (sub body [1, 1, 1, 1, 1, 1, 1, 1, 1, 1, 0, 1, 0, 0, 1, 1])) (en S [1, 1, 1, 1, 1, 1, 1, 1, 1, 1, 0, 1, 0, 0, 1, 1] (c5 S n19 K)) (c5 S n19 K)
noncomputable def c7 (S : Stop) (n19 : Nat) (K : KK) : XK := blockN 3 (c6 S n19 K)
def f9 (x1 : Int) (x6p : Option Addr) (x6l x6c : Nat) (x8 : Option Addr) (x9 x10 : Int) : Fr := [(1, (.int .u8 x1)), (6, (.slice x6p x6l x6c)), (8, (.pointer x8)), (9, (.int .i64 x9)), (10, (.int .i64 x10))]
def f14 (x1 : Int) (x6p : Option Addr) (x6l x6c : Nat) (x8 : Option Addr) (x9 : Int) : Fr := [(1, (.int .u8 x1)), (6, (.slice x6p x6l x6c)), (8, (.pointer x8)), (9, (.int .i64 x9))]
def f19 (x1 : Int) (x6p : Option Addr) (x6l x6c : Nat) (x8 : Option Addr) (x9 x13 x14 : Int) : Fr := [(1, (.int .u8 x1)), (6, (.slice x6p x6l x6c)), (8, (.pointer x8)), (9, (.int .i64 x9)), (13, (.int .i64 x13)), (14, (.int .i64 x14))]
def f25 (x1 : Int) (x6p : Option Addr) (x6l x6c : Nat) (x8 : Option Addr) (x9 x13 x14 : Int) : Fr := [(1, (.int .u8 x1)), (6, (.slice x6p x6l x6c)), (8, (.pointer x8)), (9, (.int .i64 x9)), (13, (.int .i64 x13)), (14, (.int .i64 x14))]
def f28 (x6p : Option Addr) (x6l x6c : Nat) (x8 : Option Addr) (x9 x13 : Int) : Fr := [(6, (.slice x6p x6l x6c)), (8, (.pointer x8)), (9, (.int .i64 x9)), (13, (.int .i64 x13))]
def J0 (k9 : Int → (Option Addr) → Nat → Nat → (Option Addr) → Int → Int → Heap → Prop) (x0 x1 : Int) (h : Heap) (K : KK) : Prop :=
  CallsH Tryz.prog 31 [] h (fun v1 h2 => ldB (some v1) (fun b3 => bcase (!b3) (K (.bool false) h2) (CallsH Tryz.prog 33 [(.int .i64 (1 : Int))] h2 (fun v4 h5 => (∃ n6 : Int, ∃ n7 : Int, ∃ n8 : Int, ∃ n9 : Int, v4 = (.agg #[(.int .u64 n6), (.int .u64 n7), (.int .u64 n8), (.int .u64 n9)]) ∧ newK h5 (.cells #[(.int .u64 n6), (.int .u64 n7), (.int .u64 n8), (.int .u64 n9)] 51) (fun b10 h11 => CallsH Tryz.prog 32 [(.int .i64 (3 : Int)), (.int .i64 (200 : Int)), (.slice (some (Addr.mk b10 0 none)) 1 1)] h11 (fun v12 h13 => (∃ p14 : Option Addr, ∃ p15 : Option Addr, ∃ l16 : Nat, ∃ c17 : Nat, ∃ b18 : Bool, v12 = (.tuple #[(.pointer p14), (.slice p15 l16 c17), (.bool b18)]) ∧ bcase (!b18) (K (.bool false) h13) (CallsH Tryz.prog 34 [(.pointer p14), (.int .i64 (2 : Int))] h13 (fun v19 h20 => ldP (some v19) (fun p21 => ((80 : Int) ≠ 0 ∧ k9 x1 p15 l16 c17 p21 (IntKind.wrap .i64 (Int.tmod x0 (80 : Int))) (1 : Int) h20))))))))))))
theorem E0 (S : Stop) (x0 x1 : Int) (h : Heap) (K : KK) : (E Tryz.prog X T S body (fin Tryz.prog Tryz.f6.results.toList K) (args0 0 [(.int .u8 x0), (.int .u8 x1)]) h) = J0 (fun x1 x6p x6l x6c x8 x9 x10 h => S (en S [1, 1, 1, 1, 1, 1, 0, 1] (c0 S K)) (f9 x1 x6p x6l x6c x8 x9 x10) h) x0 x1 h K := by kernel_rfl
def Jk9 (lp9 : Int → (Option Addr) → Nat → Nat → (Option Addr) → Int → Int → Heap → Prop) (x1 : Int) (x6p : Option Addr) (x6l x6c : Nat) (x8 : Option Addr) (x9 x10 : Int) (h : Heap) (_K : KK) : Prop :=
  lp9 x1 x6p x6l x6c x8 x9 x10 h
theorem Ek9 (S : Stop) (x1 : Int) (x6p : Option Addr) (x6l x6c : Nat) (x8 : Option Addr) (x9 x10 : Int) (h : Heap) (K : KK) : (en S [1, 1, 1, 1, 1, 1, 0, 1] (c0 S K) (f9 x1 x6p x6l x6c x8 x9 x10) h) = Jk9 (fun x1 x6p x6l x6c x8 x9 x10 h => ∃ n, S (ln S [1, 1, 1, 1, 1, 1, 0, 1, 0, 0] (c1 S K) n) (f9 x1 x6p x6l x6c x8 x9 x10) h) x1 x6p x6l x6c x8 x9 x10 h K := by kernel_rfl
def JL9 (bk9 : Int → (Option Addr) → Nat → Nat → (Option Addr) → Int → Int → Heap → Prop) (k14 : Int → (Option Addr) → Nat → Nat → (Option Addr) → Int → Heap → Prop) (x1 : Int) (x6p : Option Addr) (x6l x6c : Nat) (x8 : Option Addr) (x9 x10 : Int) (h : Heap) (K : KK) : Prop :=
  bcase (decide (x10 ≤ x9)) (ptrK x6p (fun a1 => (0 ≤ (0 : Int) ∧ (0 : Int) < (Nat.cast x6l : Int) ∧ ldI .u32 (rd h (Addr.add a1 (Int.toNat (0 : Int) * 1))) (fun n2 => CallsH Tryz.prog 35 [(.pointer x8), (.agg #[(.int .i64 (1 : Int)), (.int .u32 n2), (.int .u32 (0 : Int)), (.int .u32 (0 : Int)), (.int .u8 (0 : Int))])] h (fun v3 h4 => (∃ n5 : Int, ∃ n6 : Int, v3 = (.tuple #[(.int .i64 n5), (.int .i64 n6)]) ∧ bcase (!((n6 == (0 : Int)) == (decide (x10 ≤ (64 : Int))))) (K (.bool false) h4) (bcase (n6 != (0 : Int)) (bcase (n6 != (60 : Int)) (K (.bool false) h4) (bcase (n5 != (0 : Int)) (K (.bool false) h4) (bcase (n6 == (0 : Int)) (bcase (n5 != x10) (K (.bool false) h4) (bk9 x1 x6p x6l x6c x8 x9 (IntKind.wrap .i64 (x10 + (1 : Int))) h4)) (bk9 x1 x6p x6l x6c x8 x9 (IntKind.wrap .i64 (x10 + (1 : Int))) h4)))) (bcase (n6 == (0 : Int)) (bcase (n5 != x10) (K (.bool false) h4) (bk9 x1 x6p x6l x6c x8 x9 (IntKind.wrap .i64 (x10 + (1 : Int))) h4)) (bk9 x1 x6p x6l x6c x8 x9 (IntKind.wrap .i64 (x10 + (1 : Int))) h4))))))))) (k14 x1 x6p x6l x6c x8 x9 h)
theorem EL9 (S : Stop) (n9 : Nat) (x1 : Int) (x6p : Option Addr) (x6l x6c : Nat) (x8 : Option Addr) (x9 x10 : Int) (h : Heap) (K : KK) : (en S [1, 1, 1, 1, 1, 1, 0, 1, 0, 0] (c2 S n9 K) (f9 x1 x6p x6l x6c x8 x9 x10) h) = JL9 (fun x1 x6p x6l x6c x8 x9 x10 h => S (ln S [1, 1, 1, 1, 1, 1, 0, 1, 0, 0] (c1 S K) n9) (f9 x1 x6p x6l x6c x8 x9 x10) h) (fun x1 x6p x6l x6c x8 x9 h => S (en S [1, 1, 1, 1, 1, 1, 1] (fn K)) (f14 x1 x6p x6l x6c x8 x9) h) x1 x6p x6l x6c x8 x9 x10 h K := by kernel_rfl
def Jk14 (k19 : Int → (Option Addr) → Nat → Nat → (Option Addr) → Int → Int → Int → Heap → Prop) (x1 : Int) (x6p : Option Addr) (x6l x6c : Nat) (x8 : Option Addr) (x9 : Int) (h : Heap) (K : KK) : Prop :=
  bcase (decide ((if (64 : Int) < x9 then (64 : Int) else x9) > (0 : Int))) (CallsH Tryz.prog 36 [(.pointer x8), (.int .i64 (1 : Int))] h (fun v1 h2 => ldB (some v1) (fun b3 => bcase b3 (K (.bool false) h2) (CallsH Tryz.prog 37 [(.pointer x8), (.int .i64 (if (if (64 : Int) < x9 then (64 : Int) else x9) > (1 : Int) then (if (64 : Int) < x9 then (64 : Int) else x9) else (1 : Int))), (.int .u8 (1 : Int))] h2 (fun v4 h5 => ldB (some v4) (fun b6 => bcase (!b6) (K (.bool false) h5) (k19 x1 x6p x6l x6c x8 (if (64 : Int) < x9 then (64 : Int) else x9) (0 : Int) (1 : Int) h5))))))) (CallsH Tryz.prog 37 [(.pointer x8), (.int .i64 (if (if (64 : Int) < x9 then (64 : Int) else x9) > (1 : Int) then (if (64 : Int) < x9 then (64 : Int) else x9) else (1 : Int))), (.int .u8 (1 : Int))] h (fun v7 h8 => ldB (some v7) (fun b9 => bcase (!b9) (K (.bool false) h8) (k19 x1 x6p x6l x6c x8 (if (64 : Int) < x9 then (64 : Int) else x9) (0 : Int) (1 : Int) h8))))
theorem Ek14 (S : Stop) (x1 : Int) (x6p : Option Addr) (x6l x6c : Nat) (x8 : Option Addr) (x9 : Int) (h : Heap) (K : KK) : (en S [1, 1, 1, 1, 1, 1, 1] (fn K) (f14 x1 x6p x6l x6c x8 x9) h) = Jk14 (fun x1 x6p x6l x6c x8 x9 x13 x14 h => S (en S [1, 1, 1, 1, 1, 1, 1, 1, 1, 1, 0, 1] (c3 S K)) (f19 x1 x6p x6l x6c x8 x9 x13 x14) h) x1 x6p x6l x6c x8 x9 h K := by kernel_rfl
def Jk19 (lp19 : Int → (Option Addr) → Nat → Nat → (Option Addr) → Int → Int → Int → Heap → Prop) (x1 : Int) (x6p : Option Addr) (x6l x6c : Nat) (x8 : Option Addr) (x9 x13 x14 : Int) (h : Heap) (_K : KK) : Prop :=
  lp19 x1 x6p x6l x6c x8 x9 x13 x14 h
theorem Ek19 (S : Stop) (x1 : Int) (x6p : Option Addr) (x6l x6c : Nat) (x8 : Option Addr) (x9 x13 x14 : Int) (h : Heap) (K : KK) : (en S [1, 1, 1, 1, 1, 1, 1, 1, 1, 1, 0, 1] (c3 S K) (f19 x1 x6p x6l x6c x8 x9 x13 x14) h) = Jk19 (fun x1 x6p x6l x6c x8 x9 x13 x14 h => ∃ n, S (ln S [1, 1, 1, 1, 1, 1, 1, 1, 1, 1, 0, 1, 0, 0] (c4 S K) n) (f19 x1 x6p x6l x6c x8 x9 x13 x14) h) x1 x6p x6l x6c x8 x9 x13 x14 h K := by kernel_rfl
def JL19 (k25 : Int → (Option Addr) → Nat → Nat → (Option Addr) → Int → Int → Int → Heap → Prop) (k28 : (Option Addr) → Nat → Nat → (Option Addr) → Int → Int → Heap → Prop) (x1 : Int) (x6p : Option Addr) (x6l x6c : Nat) (x8 : Option Addr) (x9 x13 x14 : Int) (h : Heap) (K : KK) : Prop :=
  ((70 : Int) ≠ 0 ∧ bcase (decide (x14 ≤ (IntKind.wrap .i64 (Int.tmod x1 (70 : Int))))) (CallsH Tryz.prog 36 [(.pointer x8), (.int .i64 x14)] h (fun v1 h2 => ldB (some v1) (fun b3 => bcase (!(b3 == (decide (x14 ≤ x9)))) (K (.bool false) h2) (bcase (decide (x14 ≤ x9)) (k25 x1 x6p x6l x6c x8 x9 (IntKind.wrap .i64 (x13 + (1 : Int))) x14 h2) (k25 x1 x6p x6l x6c x8 x9 x13 x14 h2))))) (k28 x6p x6l x6c x8 x9 x13 h))
theorem EL19 (S : Stop) (n19 : Nat) (x1 : Int) (x6p : Option Addr) (x6l x6c : Nat) (x8 : Option Addr) (x9 x13 x14 : Int) (h : Heap) (K : KK) : (en S [1, 1, 1, 1, 1, 1, 1, 1, 1, 1, 0, 1, 0, 0] (c5 S n19 K) (f19 x1 x6p x6l x6c x8 x9 x13 x14) h) = JL19 (fun x1 x6p x6l x6c x8 x9 x13 x14 h => S (en S [1, 1, 1, 1, 1, 1, 1, 1, 1, 1, 0, 1, 0, 0, 1, 0, 0, 1, 1] (c7 S n19 K)) (f25 x1 x6p x6l x6c x8 x9 x13 x14) h) (fun x6p x6l x6c x8 x9 x13 h => S (en S [1, 1, 1, 1, 1, 1, 1, 1, 1, 1, 1] (fn K)) (f28 x6p x6l x6c x8 x9 x13) h) x1 x6p x6l x6c x8 x9 x13 x14 h K := by kernel_rfl
def Jk25 (bk19 : Int → (Option Addr) → Nat → Nat → (Option Addr) → Int → Int → Int → Heap → Prop) (x1 : Int) (x6p : Option Addr) (x6l x6c : Nat) (x8 : Option Addr) (x9 x13 x14 : Int) (h : Heap) (K : KK) : Prop :=
  CallsH Tryz.prog 38 [(.pointer x8), (.int .i64 x14)] h (fun v1 h2 => (∃ n3 : Int, ∃ n4 : Int, v1 = (.tuple #[(.int .u32 n3), (.int .i64 n4)]) ∧ bcase (n4 != (61 : Int)) (K (.bool false) h2) (CallsH Tryz.prog 39 [(.pointer x8), (.int .i64 x14)] h2 (fun v5 h6 => ldB (some v5) (fun b7 => bcase b7 (K (.bool false) h6) (bk19 x1 x6p x6l x6c x8 x9 x13 (IntKind.wrap .i64 (x14 + (1 : Int))) h6))))))
theorem Ek25 (S : Stop) (n19 : Nat) (x1 : Int) (x6p : Option Addr) (x6l x6c : Nat) (x8 : Option Addr) (x9 x13 x14 : Int) (h : Heap) (K : KK) : (en S [1, 1, 1, 1, 1, 1, 1, 1, 1, 1, 0, 1, 0, 0, 1, 0, 0, 1, 1] (c7 S n19 K) (f25 x1 x6p x6l x6c x8 x9 x13 x14) h) = Jk25 (fun x1 x6p x6l x6c x8 x9 x13 x14 h => S (ln S [1, 1, 1, 1, 1, 1, 1, 1, 1, 1, 0, 1, 0, 0] (c4 S K) n19) (f19 x1 x6p x6l x6c x8 x9 x13 x14) h) x1 x6p x6l x6c x8 x9 x13 x14 h K := by kernel_rfl
def Jk28 (x6p : Option Addr) (x6l _x6c : Nat) (x8 : Option Addr) (x9 x13 : Int) (h : Heap) (K : KK) : Prop :=
  ptrK x6p (fun a1 => (0 ≤ (0 : Int) ∧ (0 : Int) < (Nat.cast x6l : Int) ∧ ldI .u32 (rd h (Addr.add a1 (Int.toNat (0 : Int) * 1))) (fun n2 => CallsH Tryz.prog 35 [(.pointer x8), (.agg #[(.int .i64 (1 : Int)), (.int .u32 n2), (.int .u32 (0 : Int)), (.int .u32 (0 : Int)), (.int .u8 (0 : Int))])] h (fun v3 h4 => (∃ n5 : Int, ∃ n6 : Int, v3 = (.tuple #[(.int .i64 n5), (.int .i64 n6)]) ∧ bcase ((n6 == (0 : Int)) == (decide ((IntKind.wrap .i64 (x9 - x13)) < (64 : Int)))) (bcase (n6 != (0 : Int)) (K (.bool true) h4) (K (.bool (n5 == (IntKind.wrap .i64 (x9 + (1 : Int))))) h4)) (K (.bool false) h4))))))
theorem Ek28 (S : Stop) (x6p : Option Addr) (x6l x6c : Nat) (x8 : Option Addr) (x9 x13 : Int) (h : Heap) (K : KK) : (en S [1, 1, 1, 1, 1, 1, 1, 1, 1, 1, 1] (fn K) (f28 x6p x6l x6c x8 x9 x13) h) = Jk28 x6p x6l x6c x8 x9 x13 h K := by kernel_rfl
def wk25 (bk19 : Int → (Option Addr) → Nat → Nat → (Option Addr) → Int → Int → Int → Heap → Prop) (x1 : Int) (x6p : Option Addr) (x6l x6c : Nat) (x8 : Option Addr) (x9 x13 x14 : Int) (h : Heap) (K : KK) : Prop :=
  Jk25 bk19 x1 x6p x6l x6c x8 x9 x13 x14 h K
theorem ek25 (K : KK) (n19 : Nat) (bk19 : Int → (Option Addr) → Nat → Nat → (Option Addr) → Int → Int → Int → Heap → Prop) (hb19 : ∀ (x1 : Int) (x6p : Option Addr) (x6l x6c : Nat) (x8 : Option Addr) (x9 x13 x14 : Int) (h : Heap), (ln S0 [1, 1, 1, 1, 1, 1, 1, 1, 1, 1, 0, 1, 0, 0] (c4 S0 K) n19 (f19 x1 x6p x6l x6c x8 x9 x13 x14) h) = bk19 x1 x6p x6l x6c x8 x9 x13 x14 h) (x1 : Int) (x6p : Option Addr) (x6l x6c : Nat) (x8 : Option Addr) (x9 x13 x14 : Int) (h : Heap) : (en S0 [1, 1, 1, 1, 1, 1, 1, 1, 1, 1, 0, 1, 0, 0, 1, 0, 0, 1, 1] (c7 S0 n19 K) (f25 x1 x6p x6l x6c x8 x9 x13 x14) h) = wk25 bk19 x1 x6p x6l x6c x8 x9 x13 x14 h K := (Ek25 S0 n19 x1 x6p x6l x6c x8 x9 x13 x14 h K).trans (cg1 (fun q0 => Jk25 q0 x1 x6p x6l x6c x8 x9 x13 x14 h K) (by funext x1 x6p x6l x6c x8 x9 x13 x14 h; exact hb19 x1 x6p x6l x6c x8 x9 x13 x14 h))
def wk28 (x6p : Option Addr) (x6l x6c : Nat) (x8 : Option Addr) (x9 x13 : Int) (h : Heap) (K : KK) : Prop :=
  Jk28 x6p x6l x6c x8 x9 x13 h K
theorem ek28 (K : KK) (x6p : Option Addr) (x6l x6c : Nat) (x8 : Option Addr) (x9 x13 : Int) (h : Heap) : (en S0 [1, 1, 1, 1, 1, 1, 1, 1, 1, 1, 1] (fn K) (f28 x6p x6l x6c x8 x9 x13) h) = wk28 x6p x6l x6c x8 x9 x13 h K := (Ek28 S0 x6p x6l x6c x8 x9 x13 h K).trans (rfl)
def wL19 : Nat → Int → (Option Addr) → Nat → Nat → (Option Addr) → Int → Int → Int → Heap → KK → Prop
  | 0, _, _, _, _, _, _, _, _, _, _ => False
  | n + 1, x1, x6p, x6l, x6c, x8, x9, x13, x14, h, K => JL19 (fun x1 x6p x6l x6c x8 x9 x13 x14 h => wk25 (fun x1 x6p x6l x6c x8 x9 x13 x14 h => wL19 n x1 x6p x6l x6c x8 x9 x13 x14 h K) x1 x6p x6l x6c x8 x9 x13 x14 h K) (fun x6p x6l x6c x8 x9 x13 h => wk28 x6p x6l x6c x8 x9 x13 h K) x1 x6p x6l x6c x8 x9 x13 x14 h K
theorem eL19 (K : KK) : ∀ (n : Nat) (x1 : Int) (x6p : Option Addr) (x6l x6c : Nat) (x8 : Option Addr) (x9 x13 x14 : Int) (h : Heap), (ln S0 [1, 1, 1, 1, 1, 1, 1, 1, 1, 1, 0, 1, 0, 0] (c4 S0 K) n (f19 x1 x6p x6l x6c x8 x9 x13 x14) h) = wL19 n x1 x6p x6l x6c x8 x9 x13 x14 h K
  | 0, _, _, _, _, _, _, _, _, _ => rfl
  | n + 1, x1, x6p, x6l, x6c, x8, x9, x13, x14, h => (EL19 S0 n x1 x6p x6l x6c x8 x9 x13 x14 h K).trans (cg2 (fun q0 q1 => JL19 q0 q1 x1 x6p x6l x6c x8 x9 x13 x14 h K) (by funext x1 x6p x6l x6c x8 x9 x13 x14 h; exact ek25 K n (fun x1 x6p x6l x6c x8 x9 x13 x14 h => wL19 n x1 x6p x6l x6c x8 x9 x13 x14 h K) (fun x1 x6p x6l x6c x8 x9 x13 x14 h => eL19 K n x1 x6p x6l x6c x8 x9 x13 x14 h) x1 x6p x6l x6c x8 x9 x13 x14 h) (by funext x6p x6l x6c x8 x9 x13 h; exact ek28 K x6p x6l x6c x8 x9 x13 h))
def wk19 (x1 : Int) (x6p : Option Addr) (x6l x6c : Nat) (x8 : Option Addr) (x9 x13 x14 : Int) (h : Heap) (K : KK) : Prop :=
  Jk19 (fun x1 x6p x6l x6c x8 x9 x13 x14 h => ∃ m, wL19 m x1 x6p x6l x6c x8 x9 x13 x14 h K) x1 x6p x6l x6c x8 x9 x13 x14 h K
theorem ek19 (K : KK) (x1 : Int) (x6p : Option Addr) (x6l x6c : Nat) (x8 : Option Addr) (x9 x13 x14 : Int) (h : Heap) : (en S0 [1, 1, 1, 1, 1, 1, 1, 1, 1, 1, 0, 1] (c3 S0 K) (f19 x1 x6p x6l x6c x8 x9 x13 x14) h) = wk19 x1 x6p x6l x6c x8 x9 x13 x14 h K := (Ek19 S0 x1 x6p x6l x6c x8 x9 x13 x14 h K).trans (cg1 (fun q0 => Jk19 q0 x1 x6p x6l x6c x8 x9 x13 x14 h K) (by funext x1 x6p x6l x6c x8 x9 x13 x14 h; exact ex_congr fun m => eL19 K m x1 x6p x6l x6c x8 x9 x13 x14 h))
def wk14 (x1 : Int) (x6p : Option Addr) (x6l x6c : Nat) (x8 : Option Addr) (x9 : Int) (h : Heap) (K : KK) : Prop :=
  Jk14 (fun x1 x6p x6l x6c x8 x9 x13 x14 h => wk19 x1 x6p x6l x6c x8 x9 x13 x14 h K) x1 x6p x6l x6c x8 x9 h K
theorem ek14 (K : KK) (x1 : Int) (x6p : Option Addr) (x6l x6c : Nat) (x8 : Option Addr) (x9 : Int) (h : Heap) : (en S0 [1, 1, 1, 1, 1, 1, 1] (fn K) (f14 x1 x6p x6l x6c x8 x9) h) = wk14 x1 x6p x6l x6c x8 x9 h K := (Ek14 S0 x1 x6p x6l x6c x8 x9 h K).trans (cg1 (fun q0 => Jk14 q0 x1 x6p x6l x6c x8 x9 h K) (by funext x1 x6p x6l x6c x8 x9 x13 x14 h; exact ek19 K x1 x6p x6l x6c x8 x9 x13 x14 h))
def wL9 : Nat → Int → (Option Addr) → Nat → Nat → (Option Addr) → Int → Int → Heap → KK → Prop
  | 0, _, _, _, _, _, _, _, _, _ => False
  | n + 1, x1, x6p, x6l, x6c, x8, x9, x10, h, K => JL9 (fun x1 x6p x6l x6c x8 x9 x10 h => wL9 n x1 x6p x6l x6c x8 x9 x10 h K) (fun x1 x6p x6l x6c x8 x9 h => wk14 x1 x6p x6l x6c x8 x9 h K) x1 x6p x6l x6c x8 x9 x10 h K
theorem eL9 (K : KK) : ∀ (n : Nat) (x1 : Int) (x6p : Option Addr) (x6l x6c : Nat) (x8 : Option Addr) (x9 x10 : Int) (h : Heap), (ln S0 [1, 1, 1, 1, 1, 1, 0, 1, 0, 0] (c1 S0 K) n (f9 x1 x6p x6l x6c x8 x9 x10) h) = wL9 n x1 x6p x6l x6c x8 x9 x10 h K
  | 0, _, _, _, _, _, _, _, _ => rfl
  | n + 1, x1, x6p, x6l, x6c, x8, x9, x10, h => (EL9 S0 n x1 x6p x6l x6c x8 x9 x10 h K).trans (cg2 (fun q0 q1 => JL9 q0 q1 x1 x6p x6l x6c x8 x9 x10 h K) (by funext x1 x6p x6l x6c x8 x9 x10 h; exact (fun x1 x6p x6l x6c x8 x9 x10 h => eL9 K n x1 x6p x6l x6c x8 x9 x10 h) x1 x6p x6l x6c x8 x9 x10 h) (by funext x1 x6p x6l x6c x8 x9 h; exact ek14 K x1 x6p x6l x6c x8 x9 h))
def wk9 (x1 : Int) (x6p : Option Addr) (x6l x6c : Nat) (x8 : Option Addr) (x9 x10 : Int) (h : Heap) (K : KK) : Prop :=
  Jk9 (fun x1 x6p x6l x6c x8 x9 x10 h => ∃ m, wL9 m x1 x6p x6l x6c x8 x9 x10 h K) x1 x6p x6l x6c x8 x9 x10 h K
theorem ek9 (K : KK) (x1 : Int) (x6p : Option Addr) (x6l x6c : Nat) (x8 : Option Addr) (x9 x10 : Int) (h : Heap) : (en S0 [1, 1, 1, 1, 1, 1, 0, 1] (c0 S0 K) (f9 x1 x6p x6l x6c x8 x9 x10) h) = wk9 x1 x6p x6l x6c x8 x9 x10 h K := (Ek9 S0 x1 x6p x6l x6c x8 x9 x10 h K).trans (cg1 (fun q0 => Jk9 q0 x1 x6p x6l x6c x8 x9 x10 h K) (by funext x1 x6p x6l x6c x8 x9 x10 h; exact ex_congr fun m => eL9 K m x1 x6p x6l x6c x8 x9 x10 h))
def w (x0 x1 : Int) (h : Heap) (K : KK) : Prop :=
  J0 (fun x1 x6p x6l x6c x8 x9 x10 h => wk9 x1 x6p x6l x6c x8 x9 x10 h K) x0 x1 h K
theorem e0 (K : KK) (x0 x1 : Int) (h : Heap) : (E Tryz.prog X T S0 body (fin Tryz.prog Tryz.f6.results.toList K) (args0 0 [(.int .u8 x0), (.int .u8 x1)]) h) = w x0 x1 h K := (E0 S0 x0 x1 h K).trans (cg1 (fun q0 => J0 q0 x0 x1 h K) (by funext x1 x6p x6l x6c x8 x9 x10 h; exact ek9 K x1 x6p x6l x6c x8 x9 x10 h))
theorem hb : Tryz.f6.body = some body := by kernel_rfl
theorem ok : okCode T Tryz.f6.ntmps body = true := by kernel_rfl
theorem spec (x0 : Int) (x1 : Int) (h : Heap) (K : KK) (H : w x0 x1 h K) : CallsH Tryz.prog 6 [(.int .u8 x0), (.int .u8 x1)] h K :=
  calls_of_E (T := T) Xok mix Tryz.func6 hb ok rfl (by rw [e0]; exact H)
end F6
-- spinney/spinneylaw21.known
namespace F31
def T : Hint := ⟨[(12, [1, 5, 6, 7, 9, 11, 12]), (16, [1, 5, 6, 7, 9, 11])], []⟩
noncomputable def body : Code := (Tryz.f31.body).getD .skip
noncomputable def en (S : Stop) (p : List Nat) (κ : XK) : Fr → Heap → Prop := E Tryz.prog X T S (sub body p) κ
noncomputable def ln (S : Stop) (p : List Nat) (κ : XK) (n : Nat) : Fr → Heap → Prop := loopN S (E Tryz.prog X T S (sub body p)) (cutQ T (sub body p)) κ n
def fn (K : KK) : XK := fin Tryz.prog Tryz.f31.results.toList K
noncomputable def c0 (S : Stop) (K : KK) : XK := seqN S (cutQ T (sub body [1, 1, 1, 1, 1, 1, 1, 1, 1, 1])) (en S [1, 1, 1, 1, 1, 1, 1, 1, 1, 1] (fn K)) (fn K)
noncomputable def c1 (S : Stop) (K : KK) : XK := blockN 0 (c0 S K)
noncomputable def c2 (S : Stop) (n12 : Nat) (K : KK) : XK := backN S (cutQ T (sub body [1, 1, 1, 1, 1, 1, 1, 1, 1, 0, 1, 0, 0])) (ln S [1, 1, 1, 1, 1, 1, 1, 1, 1, 0, 1, 0, 0] (c1 S K) n12) (c1 S K)
def f12 (x1 x5 : Option Addr) (x6 x7 x9 x11 x12 : Int) : Fr := [(1, (.pointer x1)), (5, (.pointer x5)), (6, (.int .i64 x6)), (7, (.int .i64 x7)), (9, (.int .i64 x9)), (11, (.int .i64 x11)), (12, (.int .i64 x12))]
def f16 (x1 x5 : Option Addr) (x6 x7 x9 x11 : Int) : Fr := [(1, (.pointer x1)), (5, (.pointer x5)), (6, (.int .i64 x6)), (7, (.int .i64 x7)), (9, (.int .i64 x9)), (11, (.int .i64 x11))]
def J0 (k12 : (Option Addr) → (Option Addr) → Int → Int → Int → Int → Int → Heap → Prop) (h : Heap) (K : KK) : Prop :=
  CallsH Tryz.prog 61 [(.int .i64 (4 : Int)), (.int .i64 (300 : Int))] h (fun v1 h2 => (∃ p3 : Option Addr, ∃ n4 : Int, v1 = (.tuple #[(.pointer p3), (.int .i64 n4)]) ∧ bcase (n4 != (0 : Int)) (K (.bool false) h2) (CallsH Tryz.prog 33 [(.int .i64 (2 : Int))] h2 (fun v5 h6 => (∃ n7 : Int, ∃ n8 : Int, ∃ n9 : Int, ∃ n10 : Int, v5 = (.agg #[(.int .u64 n7), (.int .u64 n8), (.int .u64 n9), (.int .u64 n10)]) ∧ CallsH Tryz.prog 62 [(.pointer p3), (.agg #[(.int .u64 n7), (.int .u64 n8), (.int .u64 n9), (.int .u64 n10)])] h6 (fun v11 h12 => (∃ n13 : Int, ∃ b14 : Bool, v11 = (.tuple #[(.int .u32 n13), (.bool b14)]) ∧ CallsH Tryz.prog 34 [(.pointer p3), (.int .i64 (2 : Int))] h12 (fun v15 h16 => ldP (some v15) (fun p17 => bcase (!b14) (K (.bool false) h16) (bcase (Option.isNone p17) (K (.bool false) h16) (CallsH Tryz.prog 68 [(.pointer p17)] h16 (fun v18 h19 => ldI .i64 (some v18) (fun n20 => bcase (n20 != (2 : Int)) (K (.bool false) h19) (CallsH Tryz.prog 81 [(.pointer p17), (.int .i64 (0 : Int)), (.int .i64 (5 : Int))] h19 (fun v21 h22 => ldB (some v21) (fun b23 => bcase b23 (K (.bool false) h22) (CallsH Tryz.prog 85 [(.pointer p17)] h22 (fun v24 h25 => ldB (some v24) (fun b26 => bcase (!b26) (K (.bool false) h25) (CallsH Tryz.prog 35 [(.pointer p17), (.agg #[(.int .i64 (1 : Int)), (.int .u32 n13), (.int .u32 (0 : Int)), (.int .u32 (0 : Int)), (.int .u8 (0 : Int))])] h25 (fun v27 h28 => (∃ n29 : Int, ∃ n30 : Int, v27 = (.tuple #[(.int .i64 n29), (.int .i64 n30)]) ∧ CallsH Tryz.prog 38 [(.pointer p17), (.int .i64 n29)] h28 (fun v31 h32 => (∃ n33 : Int, ∃ n34 : Int, v31 = (.tuple #[(.int .u32 n33), (.int .i64 n34)]) ∧ CallsH Tryz.prog 35 [(.pointer p17), (.agg #[(.int .i64 (99 : Int)), (.int .u32 (0 : Int)), (.int .u32 (0 : Int)), (.int .u32 (0 : Int)), (.int .u8 (0 : Int))])] h32 (fun v35 h36 => (∃ n37 : Int, ∃ n38 : Int, v35 = (.tuple #[(.int .i64 n37), (.int .i64 n38)]) ∧ k12 p3 p17 n29 n30 n34 n38 (0 : Int) h36))))))))))))))))))))))))))
theorem E0 (S : Stop) (h : Heap) (K : KK) : (E Tryz.prog X T S body (fin Tryz.prog Tryz.f31.results.toList K) (args0 0 []) h) = J0 (fun x1 x5 x6 x7 x9 x11 x12 h => S (en S [1, 1, 1, 1, 1, 1, 1, 1, 1, 0, 1] (c0 S K)) (f12 x1 x5 x6 x7 x9 x11 x12) h) h K := by kernel_rfl
def Jk12 (lp12 : (Option Addr) → (Option Addr) → Int → Int → Int → Int → Int → Heap → Prop) (x1 x5 : Option Addr) (x6 x7 x9 x11 x12 : Int) (h : Heap) (_K : KK) : Prop :=
  lp12 x1 x5 x6 x7 x9 x11 x12 h
theorem Ek12 (S : Stop) (x1 x5 : Option Addr) (x6 x7 x9 x11 x12 : Int) (h : Heap) (K : KK) : (en S [1, 1, 1, 1, 1, 1, 1, 1, 1, 0, 1] (c0 S K) (f12 x1 x5 x6 x7 x9 x11 x12) h) = Jk12 (fun x1 x5 x6 x7 x9 x11 x12 h => ∃ n, S (ln S [1, 1, 1, 1, 1, 1, 1, 1, 1, 0, 1, 0, 0] (c1 S K) n) (f12 x1 x5 x6 x7 x9 x11 x12) h) x1 x5 x6 x7 x9 x11 x12 h K := by kernel_rfl
def JL12 (bk12 : (Option Addr) → (Option Addr) → Int → Int → Int → Int → Int → Heap → Prop) (k16 : (Option Addr) → (Option Addr) → Int → Int → Int → Int → Heap → Prop) (x1 x5 : Option Addr) (x6 x7 x9 x11 x12 : Int) (h : Heap) (_K : KK) : Prop :=
  bcase (decide (x12 < (262144 : Int))) (CallsH Tryz.prog 85 [(.pointer x5)] h (fun v1 h2 => ldB (some v1) (fun b3 => bcase (!b3) (CallsH Tryz.prog 81 [(.pointer x5), (.int .i64 (0 : Int)), (.int .i64 (1 : Int))] h2 (fun v4 h5 => ldB (some v4) (fun _ => CallsH Tryz.prog 81 [(.pointer x5), (.int .i64 (1 : Int)), (.int .i64 (0 : Int))] h5 (fun v7 h8 => ldB (some v7) (fun _ => bk12 x1 x5 x6 x7 x9 x11 (IntKind.wrap .i64 (x12 + (1 : Int))) h8))))) (k16 x1 x5 x6 x7 x9 x11 h2)))) (k16 x1 x5 x6 x7 x9 x11 h)
theorem EL12 (S : Stop) (n12 : Nat) (x1 x5 : Option Addr) (x6 x7 x9 x11 x12 : Int) (h : Heap) (K : KK) : (en S [1, 1, 1, 1, 1, 1, 1, 1, 1, 0, 1, 0, 0] (c2 S n12 K) (f12 x1 x5 x6 x7 x9 x11 x12) h) = JL12 (fun x1 x5 x6 x7 x9 x11 x12 h => S (ln S [1, 1, 1, 1, 1, 1, 1, 1, 1, 0, 1, 0, 0] (c1 S K) n12) (f12 x1 x5 x6 x7 x9 x11 x12) h) (fun x1 x5 x6 x7 x9 x11 h => S (en S [1, 1, 1, 1, 1, 1, 1, 1, 1, 1] (fn K)) (f16 x1 x5 x6 x7 x9 x11) h) x1 x5 x6 x7 x9 x11 x12 h K := by kernel_rfl
def Jk16 (x1 x5 : Option Addr) (x6 x7 x9 x11 : Int) (h : Heap) (K : KK) : Prop :=
  CallsH Tryz.prog 38 [(.pointer x5), (.int .i64 x6)] h (fun v1 h2 => (∃ n3 : Int, ∃ n4 : Int, v1 = (.tuple #[(.int .u32 n3), (.int .i64 n4)]) ∧ bcase (x7 == (0 : Int)) (bcase (x6 == (1 : Int)) (bcase (x9 == (61 : Int)) (bcase (x11 == (200 : Int)) (CallsH Tryz.prog 39 [(.pointer x5), (.int .i64 (1 : Int))] h2 (fun v5 h6 => ldB (some v5) (fun b7 => bcase b7 (bcase (n4 == (0 : Int)) (CallsH Tryz.prog 33 [(.int .i64 (2 : Int))] h6 (fun v8 h9 => (∃ n10 : Int, ∃ n11 : Int, ∃ n12 : Int, ∃ n13 : Int, v8 = (.agg #[(.int .u64 n10), (.int .u64 n11), (.int .u64 n12), (.int .u64 n13)]) ∧ CallsH Tryz.prog 86 [(.agg #[(.int .u64 n10), (.int .u64 n11), (.int .u64 n12), (.int .u64 n13)])] h9 (fun v14 h15 => (∃ n16 : Int, ∃ n17 : Int, ∃ n18 : Int, ∃ n19 : Int, v14 = (.agg #[(.int .u64 n16), (.int .u64 n17), (.int .u64 n18), (.int .u64 n19)]) ∧ CallsH Tryz.prog 58 [(.pointer x1), (.int .u32 n3), (.agg #[(.int .u64 n16), (.int .u64 n17), (.int .u64 n18), (.int .u64 n19)])] h15 (fun v20 h21 => ldB (some v20) (fun b22 => bcase b22 (CallsH Tryz.prog 36 [(.pointer x5), (.int .i64 (1 : Int))] h21 (fun v23 h24 => ldB (some v23) (fun b25 => bcase b25 (CallsH Tryz.prog 36 [(.pointer x5), (.int .i64 (1 : Int))] h24 (fun v26 h27 => ldB (some v26) (fun b28 => K (.bool (!b28)) h27))) (K (.bool false) h24)))) (K (.bool false) h21)))))))) (K (.bool false) h6)) (K (.bool false) h6)))) (K (.bool false) h2)) (K (.bool false) h2)) (K (.bool false) h2)) (K (.bool false) h2)))
theorem Ek16 (S : Stop) (x1 x5 : Option Addr) (x6 x7 x9 x11 : Int) (h : Heap) (K : KK) : (en S [1, 1, 1, 1, 1, 1, 1, 1, 1, 1] (fn K) (f16 x1 x5 x6 x7 x9 x11) h) = Jk16 x1 x5 x6 x7 x9 x11 h K := by kernel_rfl
def wk16 (x1 x5 : Option Addr) (x6 x7 x9 x11 : Int) (h : Heap) (K : KK) : Prop :=
  Jk16 x1 x5 x6 x7 x9 x11 h K
theorem ek16 (K : KK) (x1 x5 : Option Addr) (x6 x7 x9 x11 : Int) (h : Heap) : (en S0 [1, 1, 1, 1, 1, 1, 1, 1, 1, 1] (fn K) (f16 x1 x5 x6 x7 x9 x11) h) = wk16 x1 x5 x6 x7 x9 x11 h K := (Ek16 S0 x1 x5 x6 x7 x9 x11 h K).trans (rfl)
def wL12 : Nat → (Option Addr) → (Option Addr) → Int → Int → Int → Int → Int → Heap → KK → Prop
  | 0, _, _, _, _, _, _, _, _, _ => False
  | n + 1, x1, x5, x6, x7, x9, x11, x12, h, K => JL12 (fun x1 x5 x6 x7 x9 x11 x12 h => wL12 n x1 x5 x6 x7 x9 x11 x12 h K) (fun x1 x5 x6 x7 x9 x11 h => wk16 x1 x5 x6 x7 x9 x11 h K) x1 x5 x6 x7 x9 x11 x12 h K
theorem eL12 (K : KK) : ∀ (n : Nat) (x1 x5 : Option Addr) (x6 x7 x9 x11 x12 : Int) (h : Heap), (ln S0 [1, 1, 1, 1, 1, 1, 1, 1, 1, 0, 1, 0, 0] (c1 S0 K) n (f12 x1 x5 x6 x7 x9 x11 x12) h) = wL12 n x1 x5 x6 x7 x9 x11 x12 h K
  | 0, _, _, _, _, _, _, _, _ => rfl
  | n + 1, x1, x5, x6, x7, x9, x11, x12, h => (EL12 S0 n x1 x5 x6 x7 x9 x11 x12 h K).trans (cg2 (fun q0 q1 => JL12 q0 q1 x1 x5 x6 x7 x9 x11 x12 h K) (by funext x1 x5 x6 x7 x9 x11 x12 h; exact (fun x1 x5 x6 x7 x9 x11 x12 h => eL12 K n x1 x5 x6 x7 x9 x11 x12 h) x1 x5 x6 x7 x9 x11 x12 h) (by funext x1 x5 x6 x7 x9 x11 h; exact ek16 K x1 x5 x6 x7 x9 x11 h))
def wk12 (x1 x5 : Option Addr) (x6 x7 x9 x11 x12 : Int) (h : Heap) (K : KK) : Prop :=
  Jk12 (fun x1 x5 x6 x7 x9 x11 x12 h => ∃ m, wL12 m x1 x5 x6 x7 x9 x11 x12 h K) x1 x5 x6 x7 x9 x11 x12 h K
theorem ek12 (K : KK) (x1 x5 : Option Addr) (x6 x7 x9 x11 x12 : Int) (h : Heap) : (en S0 [1, 1, 1, 1, 1, 1, 1, 1, 1, 0, 1] (c0 S0 K) (f12 x1 x5 x6 x7 x9 x11 x12) h) = wk12 x1 x5 x6 x7 x9 x11 x12 h K := (Ek12 S0 x1 x5 x6 x7 x9 x11 x12 h K).trans (cg1 (fun q0 => Jk12 q0 x1 x5 x6 x7 x9 x11 x12 h K) (by funext x1 x5 x6 x7 x9 x11 x12 h; exact ex_congr fun m => eL12 K m x1 x5 x6 x7 x9 x11 x12 h))
def w (h : Heap) (K : KK) : Prop :=
  J0 (fun x1 x5 x6 x7 x9 x11 x12 h => wk12 x1 x5 x6 x7 x9 x11 x12 h K) h K
theorem e0 (K : KK) (h : Heap) : (E Tryz.prog X T S0 body (fin Tryz.prog Tryz.f31.results.toList K) (args0 0 []) h) = w h K := (E0 S0 h K).trans (cg1 (fun q0 => J0 q0 h K) (by funext x1 x5 x6 x7 x9 x11 x12 h; exact ek12 K x1 x5 x6 x7 x9 x11 x12 h))
theorem hb : Tryz.f31.body = some body := by kernel_rfl
theorem ok : okCode T Tryz.f31.ntmps body = true := by kernel_rfl
theorem spec (h : Heap) (K : KK) (H : w h K) : CallsH Tryz.prog 31 [] h K :=
  calls_of_E (T := T) Xok mix Tryz.func31 hb ok rfl (by rw [e0]; exact H)
end F31
-- spinney/spinneylaw21.made
namespace F32
def T : Hint := ⟨[(6, [2, 9, 11, 12]), (12, [9, 11])], []⟩
noncomputable def body : Code := (Tryz.f32.body).getD .skip
noncomputable def en (S : Stop) (p : List Nat) (κ : XK) : Fr → Heap → Prop := E Tryz.prog X T S (sub body p) κ
noncomputable def ln (S : Stop) (p : List Nat) (κ : XK) (n : Nat) : Fr → Heap → Prop := loopN S (E Tryz.prog X T S (sub body p)) (cutQ T (sub body p)) κ n
def fn (K : KK) : XK := fin Tryz.prog Tryz.f32.results.toList K
noncomputable def c0 (S : Stop) (K : KK) : XK := seqN S (cutQ T (sub body [1, 1, 1, 1, 1])) (en S [1, 1, 1, 1, 1] (fn K)) (fn K)
noncomputable def c1 (S : Stop) (K : KK) : XK := blockN 0 (c0 S K)
noncomputable def c2 (S : Stop) (n6 : Nat) (K : KK) : XK := backN S (cutQ T (sub body [1, 1, 1, 1, 0, 1, 0, 0])) (ln S [1, 1, 1, 1, 0, 1, 0, 0] (c1 S K) n6) (c1 S K)
def f6 (x2p : Option Addr) (x2l x2c : Nat) (x9 x11p : Option Addr) (x11l x11c : Nat) (x12 : Int) : Fr := [(2, (.slice x2p x2l x2c)), (9, (.pointer x9)), (11, (.slice x11p x11l x11c)), (12, (.int .i64 x12))]
def f12 (x9 x11p : Option Addr) (x11l x11c : Nat) : Fr := [(9, (.pointer x9)), (11, (.slice x11p x11l x11c))]
def J0 (k6 : (Option Addr) → Nat → Nat → (Option Addr) → (Option Addr) → Nat → Nat → Int → Heap → Prop) (x0 x1 : Int) (x2p : Option Addr) (x2l x2c : Nat) (h : Heap) (K : KK) : Prop :=
  CallsH Tryz.prog 61 [(.int .i64 x0), (.int .i64 x1)] h (fun v1 h2 => (∃ p3 : Option Addr, ∃ n4 : Int, v1 = (.tuple #[(.pointer p3), (.int .i64 n4)]) ∧ bcase (n4 != (0 : Int)) (K (.tuple #[(.pointer none), (.slice none 0 0), (.bool false)]) h2) (k6 x2p x2l x2c p3 none 0 0 (0 : Int) h2)))
theorem E0 (S : Stop) (x0 x1 : Int) (x2p : Option Addr) (x2l x2c : Nat) (h : Heap) (K : KK) : (E Tryz.prog X T S body (fin Tryz.prog Tryz.f32.results.toList K) (args0 0 [(.int .i64 x0), (.int .i64 x1), (.slice x2p x2l x2c)]) h) = J0 (fun x2p x2l x2c x9 x11p x11l x11c x12 h => S (en S [1, 1, 1, 1, 0, 1] (c0 S K)) (f6 x2p x2l x2c x9 x11p x11l x11c x12) h) x0 x1 x2p x2l x2c h K := by kernel_rfl
def Jk6 (lp6 : (Option Addr) → Nat → Nat → (Option Addr) → (Option Addr) → Nat → Nat → Int → Heap → Prop) (x2p : Option Addr) (x2l x2c : Nat) (x9 x11p : Option Addr) (x11l x11c : Nat) (x12 : Int) (h : Heap) (_K : KK) : Prop :=
  lp6 x2p x2l x2c x9 x11p x11l x11c x12 h
theorem Ek6 (S : Stop) (x2p : Option Addr) (x2l x2c : Nat) (x9 x11p : Option Addr) (x11l x11c : Nat) (x12 : Int) (h : Heap) (K : KK) : (en S [1, 1, 1, 1, 0, 1] (c0 S K) (f6 x2p x2l x2c x9 x11p x11l x11c x12) h) = Jk6 (fun x2p x2l x2c x9 x11p x11l x11c x12 h => ∃ n, S (ln S [1, 1, 1, 1, 0, 1, 0, 0] (c1 S K) n) (f6 x2p x2l x2c x9 x11p x11l x11c x12) h) x2p x2l x2c x9 x11p x11l x11c x12 h K := by kernel_rfl
def JL6 (bk6 : (Option Addr) → Nat → Nat → (Option Addr) → (Option Addr) → Nat → Nat → Int → Heap → Prop) (k12 : (Option Addr) → (Option Addr) → Nat → Nat → Heap → Prop) (x2p : Option Addr) (x2l x2c : Nat) (x9 x11p : Option Addr) (x11l x11c : Nat) (x12 : Int) (h : Heap) (K : KK) : Prop :=
  bcase (decide (x12 < (Nat.cast x2l : Int))) (ptrK x2p (fun a1 => (0 ≤ x12 ∧ x12 < (Nat.cast x2l : Int) ∧ ldI .u64 (rd h (Addr.add (Addr.add a1 (Int.toNat x12 * 4)) 0)) (fun n2 => ldI .u64 (rd h (Addr.add (Addr.add a1 (Int.toNat x12 * 4)) 1)) (fun n3 => ldI .u64 (rd h (Addr.add (Addr.add a1 (Int.toNat x12 * 4)) 2)) (fun n4 => ldI .u64 (rd h (Addr.add (Addr.add a1 (Int.toNat x12 * 4)) 3)) (fun n5 => CallsH Tryz.prog 62 [(.pointer x9), (.agg #[(.int .u64 n2), (.int .u64 n3), (.int .u64 n4), (.int .u64 n5)])] h (fun v6 h7 => (∃ n8 : Int, ∃ b9 : Bool, v6 = (.tuple #[(.int .u32 n8), (.bool b9)]) ∧ bcase (!b9) (K (.tuple #[(.pointer none), (.slice none 0 0), (.bool false)]) h7) (newK h7 (.cells #[(.int .u32 n8)] 46) (fun b10 h11 => appK h11 46 1 4 #[(.int .u32 (0 : Int))] x11p x11l x11c (some (Addr.mk b10 0 none)) 1 (fun p12 l13 c14 h15 => bk6 x2p x2l x2c x9 p12 l13 c14 (IntKind.wrap .i64 (x12 + (1 : Int))) h15)))))))))))) (k12 x9 x11p x11l x11c h)
theorem EL6 (S : Stop) (n6 : Nat) (x2p : Option Addr) (x2l x2c : Nat) (x9 x11p : Option Addr) (x11l x11c : Nat) (x12 : Int) (h : Heap) (K : KK) : (en S [1, 1, 1, 1, 0, 1, 0, 0] (c2 S n6 K) (f6 x2p x2l x2c x9 x11p x11l x11c x12) h) = JL6 (fun x2p x2l x2c x9 x11p x11l x11c x12 h => S (ln S [1, 1, 1, 1, 0, 1, 0, 0] (c1 S K) n6) (f6 x2p x2l x2c x9 x11p x11l x11c x12) h) (fun x9 x11p x11l x11c h => S (en S [1, 1, 1, 1, 1] (fn K)) (f12 x9 x11p x11l x11c) h) x2p x2l x2c x9 x11p x11l x11c x12 h K := by kernel_rfl
def Jk12 (x9 x11p : Option Addr) (x11l x11c : Nat) (h : Heap) (K : KK) : Prop :=
  K (.tuple #[(.pointer x9), (.slice x11p x11l x11c), (.bool true)]) h
theorem Ek12 (S : Stop) (x9 x11p : Option Addr) (x11l x11c : Nat) (h : Heap) (K : KK) : (en S [1, 1, 1, 1, 1] (fn K) (f12 x9 x11p x11l x11c) h) = Jk12 x9 x11p x11l x11c h K := by kernel_rfl
def wk12 (x9 x11p : Option Addr) (x11l x11c : Nat) (h : Heap) (K : KK) : Prop :=
  Jk12 x9 x11p x11l x11c h K
theorem ek12 (K : KK) (x9 x11p : Option Addr) (x11l x11c : Nat) (h : Heap) : (en S0 [1, 1, 1, 1, 1] (fn K) (f12 x9 x11p x11l x11c) h) = wk12 x9 x11p x11l x11c h K := (Ek12 S0 x9 x11p x11l x11c h K).trans (rfl)
def wL6 : Nat → (Option Addr) → Nat → Nat → (Option Addr) → (Option Addr) → Nat → Nat → Int → Heap → KK → Prop
  | 0, _, _, _, _, _, _, _, _, _, _ => False
  | n + 1, x2p, x2l, x2c, x9, x11p, x11l, x11c, x12, h, K => JL6 (fun x2p x2l x2c x9 x11p x11l x11c x12 h => wL6 n x2p x2l x2c x9 x11p x11l x11c x12 h K) (fun x9 x11p x11l x11c h => wk12 x9 x11p x11l x11c h K) x2p x2l x2c x9 x11p x11l x11c x12 h K
theorem eL6 (K : KK) : ∀ (n : Nat) (x2p : Option Addr) (x2l x2c : Nat) (x9 x11p : Option Addr) (x11l x11c : Nat) (x12 : Int) (h : Heap), (ln S0 [1, 1, 1, 1, 0, 1, 0, 0] (c1 S0 K) n (f6 x2p x2l x2c x9 x11p x11l x11c x12) h) = wL6 n x2p x2l x2c x9 x11p x11l x11c x12 h K
  | 0, _, _, _, _, _, _, _, _, _ => rfl
  | n + 1, x2p, x2l, x2c, x9, x11p, x11l, x11c, x12, h => (EL6 S0 n x2p x2l x2c x9 x11p x11l x11c x12 h K).trans (cg2 (fun q0 q1 => JL6 q0 q1 x2p x2l x2c x9 x11p x11l x11c x12 h K) (by funext x2p x2l x2c x9 x11p x11l x11c x12 h; exact (fun x2p x2l x2c x9 x11p x11l x11c x12 h => eL6 K n x2p x2l x2c x9 x11p x11l x11c x12 h) x2p x2l x2c x9 x11p x11l x11c x12 h) (by funext x9 x11p x11l x11c h; exact ek12 K x9 x11p x11l x11c h))
def wk6 (x2p : Option Addr) (x2l x2c : Nat) (x9 x11p : Option Addr) (x11l x11c : Nat) (x12 : Int) (h : Heap) (K : KK) : Prop :=
  Jk6 (fun x2p x2l x2c x9 x11p x11l x11c x12 h => ∃ m, wL6 m x2p x2l x2c x9 x11p x11l x11c x12 h K) x2p x2l x2c x9 x11p x11l x11c x12 h K
theorem ek6 (K : KK) (x2p : Option Addr) (x2l x2c : Nat) (x9 x11p : Option Addr) (x11l x11c : Nat) (x12 : Int) (h : Heap) : (en S0 [1, 1, 1, 1, 0, 1] (c0 S0 K) (f6 x2p x2l x2c x9 x11p x11l x11c x12) h) = wk6 x2p x2l x2c x9 x11p x11l x11c x12 h K := (Ek6 S0 x2p x2l x2c x9 x11p x11l x11c x12 h K).trans (cg1 (fun q0 => Jk6 q0 x2p x2l x2c x9 x11p x11l x11c x12 h K) (by funext x2p x2l x2c x9 x11p x11l x11c x12 h; exact ex_congr fun m => eL6 K m x2p x2l x2c x9 x11p x11l x11c x12 h))
def w (x0 x1 : Int) (x2p : Option Addr) (x2l x2c : Nat) (h : Heap) (K : KK) : Prop :=
  J0 (fun x2p x2l x2c x9 x11p x11l x11c x12 h => wk6 x2p x2l x2c x9 x11p x11l x11c x12 h K) x0 x1 x2p x2l x2c h K
theorem e0 (K : KK) (x0 x1 : Int) (x2p : Option Addr) (x2l x2c : Nat) (h : Heap) : (E Tryz.prog X T S0 body (fin Tryz.prog Tryz.f32.results.toList K) (args0 0 [(.int .i64 x0), (.int .i64 x1), (.slice x2p x2l x2c)]) h) = w x0 x1 x2p x2l x2c h K := (E0 S0 x0 x1 x2p x2l x2c h K).trans (cg1 (fun q0 => J0 q0 x0 x1 x2p x2l x2c h K) (by funext x2p x2l x2c x9 x11p x11l x11c x12 h; exact ek6 K x2p x2l x2c x9 x11p x11l x11c x12 h))
theorem hb : Tryz.f32.body = some body := by kernel_rfl
theorem ok : okCode T Tryz.f32.ntmps body = true := by kernel_rfl
theorem spec (x0 : Int) (x1 : Int) (x2p : Option Addr) (x2l : Nat) (x2c : Nat) (h : Heap) (K : KK) (H : w x0 x1 x2p x2l x2c h K) : CallsH Tryz.prog 32 [(.int .i64 x0), (.int .i64 x1), (.slice x2p x2l x2c)] h K :=
  calls_of_E (T := T) Xok mix Tryz.func32 hb ok rfl (by rw [e0]; exact H)
end F32
-- spinney/spinneylaw21.rounds
namespace F37
def T : Hint := ⟨[(2, [0, 1, 2, 7]), (5, [0, 1, 2, 7, 8])], []⟩
noncomputable def body : Code := (Tryz.f37.body).getD .skip
noncomputable def en (S : Stop) (p : List Nat) (κ : XK) : Fr → Heap → Prop := E Tryz.prog X T S (sub body p) κ
noncomputable def ln (S : Stop) (p : List Nat) (κ : XK) (n : Nat) : Fr → Heap → Prop := loopN S (E Tryz.prog X T S (sub body p)) (cutQ T (sub body p)) κ n
def fn (K : KK) : XK := fin Tryz.prog Tryz.f37.results.toList K
noncomputable def c0 (S : Stop) (K : KK) : XK := seqN S (cutQ T (sub body [1, 1])) (en S [1, 1] (fn K)) (fn K)
noncomputable def c1 (S : Stop) (K : KK) : XK := blockN 0 (c0 S K)
noncomputable def c2 (S : Stop) (n2 : Nat) (K : KK) : XK := backN S (cutQ T (sub body [1, 0, 1, 0, 0])) (ln S [1, 0, 1, 0, 0] (c1 S K) n2) (c1 S K)
noncomputable def c3 (S : Stop) (n2 : Nat) (K : KK) : XK := seqN S (cutQ T (sub body [1, 0, 1, 0, 0, 1, 1])) (en S [1, 0, 1, 0, 0, 1, 1] (c2 S n2 K)) (c2 S n2 K)
noncomputable def c4 (S : Stop) (n2 : Nat) (K : KK) : XK := blockN 1 (c3 S n2 K)
noncomputable def c5 (S : Stop) (n2 : Nat) (K : KK) : XK := blockN 2 (c4 S n2 K)
noncomputable def c6 (S : Stop) (n2 : Nat) (n5 : Nat) (K : KK) : XK := backN S (cutQ T (sub body [1, 0, 1, 0, 0, 1, 0, 0, 1, 0, 0])) (ln S [1, 0, 1, 0, 0, 1, 0, 0, 1, 0, 0] (c5 S n2 K) n5) (c5 S n2 K)
def f2 (x0 : Addr) (x1 x2 x7 : Int) : Fr := [(0, (.pointer (some x0))), (1, (.int .i64 x1)), (2, (.int .u8 x2)), (7, (.int .i64 x7))]
def f5 (x0 : Addr) (x1 x2 x7 x8 : Int) : Fr := [(0, (.pointer (some x0))), (1, (.int .i64 x1)), (2, (.int .u8 x2)), (7, (.int .i64 x7)), (8, (.int .i64 x8))]
def J0 (k2 : Addr → Int → Int → Int → Heap → Prop) (x0 : Addr) (x1 x2 : Int) (h : Heap) (_K : KK) : Prop :=
  k2 x0 x1 x2 (0 : Int) h
theorem E0 (S : Stop) (x0 : Addr) (x1 x2 : Int) (h : Heap) (K : KK) : (E Tryz.prog X T S body (fin Tryz.prog Tryz.f37.results.toList K) (args0 0 [(.pointer (some x0)), (.int .i64 x1), (.int .u8 x2)]) h) = J0 (fun x0 x1 x2 x7 h => S (en S [1, 0, 1] (c0 S K)) (f2 x0 x1 x2 x7) h) x0 x1 x2 h K := by kernel_rfl
def Jk2 (lp2 : Addr → Int → Int → Int → Heap → Prop) (x0 : Addr) (x1 x2 x7 : Int) (h : Heap) (_K : KK) : Prop :=
  lp2 x0 x1 x2 x7 h
theorem Ek2 (S : Stop) (x0 : Addr) (x1 x2 x7 : Int) (h : Heap) (K : KK) : (en S [1, 0, 1] (c0 S K) (f2 x0 x1 x2 x7) h) = Jk2 (fun x0 x1 x2 x7 h => ∃ n, S (ln S [1, 0, 1, 0, 0] (c1 S K) n) (f2 x0 x1 x2 x7) h) x0 x1 x2 x7 h K := by kernel_rfl
def JL2 (k5 : Addr → Int → Int → Int → Int → Heap → Prop) (x0 : Addr) (x1 x2 x7 : Int) (h : Heap) (K : KK) : Prop :=
  (0 ≤ (18 : Int) ∧ bcase (decide (x7 < (IntKind.wrap .i64 (x1 * 2 ^ (min (Int.toNat (18 : Int)) (IntKind.bits .i64)))))) (CallsH Tryz.prog 85 [(.pointer (some x0))] h (fun v1 h2 => ldB (some v1) (fun b3 => bcase (!b3) (k5 x0 x1 x2 x7 (0 : Int) h2) (CallsH Tryz.prog 85 [(.pointer (some x0))] h2 (fun v4 h5 => ldB (some v4) (fun b6 => K (.bool b6) h5)))))) (CallsH Tryz.prog 85 [(.pointer (some x0))] h (fun v7 h8 => ldB (some v7) (fun b9 => K (.bool b9) h8))))
theorem EL2 (S : Stop) (n2 : Nat) (x0 : Addr) (x1 x2 x7 : Int) (h : Heap) (K : KK) : (en S [1, 0, 1, 0, 0] (c2 S n2 K) (f2 x0 x1 x2 x7) h) = JL2 (fun x0 x1 x2 x7 x8 h => S (en S [1, 0, 1, 0, 0, 1, 0, 0, 1] (c4 S n2 K)) (f5 x0 x1 x2 x7 x8) h) x0 x1 x2 x7 h K := by kernel_rfl
def Jk5 (lp5 : Addr → Int → Int → Int → Int → Heap → Prop) (x0 : Addr) (x1 x2 x7 x8 : Int) (h : Heap) (_K : KK) : Prop :=
  lp5 x0 x1 x2 x7 x8 h
theorem Ek5 (S : Stop) (n2 : Nat) (x0 : Addr) (x1 x2 x7 x8 : Int) (h : Heap) (K : KK) : (en S [1, 0, 1, 0, 0, 1, 0, 0, 1] (c4 S n2 K) (f5 x0 x1 x2 x7 x8) h) = Jk5 (fun x0 x1 x2 x7 x8 h => ∃ n, S (ln S [1, 0, 1, 0, 0, 1, 0, 0, 1, 0, 0] (c5 S n2 K) n) (f5 x0 x1 x2 x7 x8) h) x0 x1 x2 x7 x8 h K := by kernel_rfl
def JL5 (bk5 : Addr → Int → Int → Int → Int → Heap → Prop) (bk2 : Addr → Int → Int → Int → Heap → Prop) (x0 : Addr) (x1 x2 x7 x8 : Int) (h : Heap) (_K : KK) : Prop :=
  CallsH Tryz.prog 68 [(.pointer (some x0))] h (fun v1 h2 => ldI .i64 (some v1) (fun n3 => bcase (decide (x8 < n3)) (CallsH Tryz.prog 81 [(.pointer (some x0)), (.int .i64 x8), (.int .i64 (IntKind.wrap .i64 ((IntKind.wrap .i64 x2) + x7)))] h2 (fun v4 h5 => ldB (some v4) (fun _ => bk5 x0 x1 x2 x7 (IntKind.wrap .i64 (x8 + (1 : Int))) h5))) (bk2 x0 x1 x2 (IntKind.wrap .i64 (x7 + (1 : Int))) h2)))
theorem EL5 (S : Stop) (n2 : Nat) (n5 : Nat) (x0 : Addr) (x1 x2 x7 x8 : Int) (h : Heap) (K : KK) : (en S [1, 0, 1, 0, 0, 1, 0, 0, 1, 0, 0] (c6 S n2 n5 K) (f5 x0 x1 x2 x7 x8) h) = JL5 (fun x0 x1 x2 x7 x8 h => S (ln S [1, 0, 1, 0, 0, 1, 0, 0, 1, 0, 0] (c5 S n2 K) n5) (f5 x0 x1 x2 x7 x8) h) (fun x0 x1 x2 x7 h => S (ln S [1, 0, 1, 0, 0] (c1 S K) n2) (f2 x0 x1 x2 x7) h) x0 x1 x2 x7 x8 h K := by kernel_rfl
def wL5 (bk2 : Addr → Int → Int → Int → Heap → Prop) : Nat → Addr → Int → Int → Int → Int → Heap → KK → Prop
  | 0, _, _, _, _, _, _, _ => False
  | n + 1, x0, x1, x2, x7, x8, h, K => JL5 (fun x0 x1 x2 x7 x8 h => wL5 bk2 n x0 x1 x2 x7 x8 h K) bk2 x0 x1 x2 x7 x8 h K
theorem eL5 (K : KK) (n2 : Nat) (bk2 : Addr → Int → Int → Int → Heap → Prop) (hb2 : ∀ (x0 : Addr) (x1 x2 x7 : Int) (h : Heap), (ln S0 [1, 0, 1, 0, 0] (c1 S0 K) n2 (f2 x0 x1 x2 x7) h) = bk2 x0 x1 x2 x7 h) : ∀ (n : Nat) (x0 : Addr) (x1 x2 x7 x8 : Int) (h : Heap), (ln S0 [1, 0, 1, 0, 0, 1, 0, 0, 1, 0, 0] (c5 S0 n2 K) n (f5 x0 x1 x2 x7 x8) h) = wL5 bk2 n x0 x1 x2 x7 x8 h K
  | 0, _, _, _, _, _, _ => rfl
  | n + 1, x0, x1, x2, x7, x8, h => (EL5 S0 n2 n x0 x1 x2 x7 x8 h K).trans (cg2 (fun q0 q1 => JL5 q0 q1 x0 x1 x2 x7 x8 h K) (by funext x0 x1 x2 x7 x8 h; exact (fun x0 x1 x2 x7 x8 h => eL5 K n2 bk2 hb2 n x0 x1 x2 x7 x8 h) x0 x1 x2 x7 x8 h) (by funext x0 x1 x2 x7 h; exact hb2 x0 x1 x2 x7 h))
def wk5 (bk2 : Addr → Int → Int → Int → Heap → Prop) (x0 : Addr) (x1 x2 x7 x8 : Int) (h : Heap) (K : KK) : Prop :=
  Jk5 (fun x0 x1 x2 x7 x8 h => ∃ m, wL5 bk2 m x0 x1 x2 x7 x8 h K) x0 x1 x2 x7 x8 h K
theorem ek5 (K : KK) (n2 : Nat) (bk2 : Addr → Int → Int → Int → Heap → Prop) (hb2 : ∀ (x0 : Addr) (x1 x2 x7 : Int) (h : Heap), (ln S0 [1, 0, 1, 0, 0] (c1 S0 K) n2 (f2 x0 x1 x2 x7) h) = bk2 x0 x1 x2 x7 h) (x0 : Addr) (x1 x2 x7 x8 : Int) (h : Heap) : (en S0 [1, 0, 1, 0, 0, 1, 0, 0, 1] (c4 S0 n2 K) (f5 x0 x1 x2 x7 x8) h) = wk5 bk2 x0 x1 x2 x7 x8 h K := (Ek5 S0 n2 x0 x1 x2 x7 x8 h K).trans (cg1 (fun q0 => Jk5 q0 x0 x1 x2 x7 x8 h K) (by funext x0 x1 x2 x7 x8 h; exact ex_congr fun m => eL5 K n2 bk2 hb2 m x0 x1 x2 x7 x8 h))
def wL2 : Nat → Addr → Int → Int → Int → Heap → KK → Prop
  | 0, _, _, _, _, _, _ => False
  | n + 1, x0, x1, x2, x7, h, K => JL2 (fun x0 x1 x2 x7 x8 h => wk5 (fun x0 x1 x2 x7 h => wL2 n x0 x1 x2 x7 h K) x0 x1 x2 x7 x8 h K) x0 x1 x2 x7 h K
theorem eL2 (K : KK) : ∀ (n : Nat) (x0 : Addr) (x1 x2 x7 : Int) (h : Heap), (ln S0 [1, 0, 1, 0, 0] (c1 S0 K) n (f2 x0 x1 x2 x7) h) = wL2 n x0 x1 x2 x7 h K
  | 0, _, _, _, _, _ => rfl
  | n + 1, x0, x1, x2, x7, h => (EL2 S0 n x0 x1 x2 x7 h K).trans (cg1 (fun q0 => JL2 q0 x0 x1 x2 x7 h K) (by funext x0 x1 x2 x7 x8 h; exact ek5 K n (fun x0 x1 x2 x7 h => wL2 n x0 x1 x2 x7 h K) (fun x0 x1 x2 x7 h => eL2 K n x0 x1 x2 x7 h) x0 x1 x2 x7 x8 h))
def wk2 (x0 : Addr) (x1 x2 x7 : Int) (h : Heap) (K : KK) : Prop :=
  Jk2 (fun x0 x1 x2 x7 h => ∃ m, wL2 m x0 x1 x2 x7 h K) x0 x1 x2 x7 h K
theorem ek2 (K : KK) (x0 : Addr) (x1 x2 x7 : Int) (h : Heap) : (en S0 [1, 0, 1] (c0 S0 K) (f2 x0 x1 x2 x7) h) = wk2 x0 x1 x2 x7 h K := (Ek2 S0 x0 x1 x2 x7 h K).trans (cg1 (fun q0 => Jk2 q0 x0 x1 x2 x7 h K) (by funext x0 x1 x2 x7 h; exact ex_congr fun m => eL2 K m x0 x1 x2 x7 h))
def w (x0 : Addr) (x1 x2 : Int) (h : Heap) (K : KK) : Prop :=
  J0 (fun x0 x1 x2 x7 h => wk2 x0 x1 x2 x7 h K) x0 x1 x2 h K
theorem e0 (K : KK) (x0 : Addr) (x1 x2 : Int) (h : Heap) : (E Tryz.prog X T S0 body (fin Tryz.prog Tryz.f37.results.toList K) (args0 0 [(.pointer (some x0)), (.int .i64 x1), (.int .u8 x2)]) h) = w x0 x1 x2 h K := (E0 S0 x0 x1 x2 h K).trans (cg1 (fun q0 => J0 q0 x0 x1 x2 h K) (by funext x0 x1 x2 x7 h; exact ek2 K x0 x1 x2 x7 h))
theorem hb : Tryz.f37.body = some body := by kernel_rfl
theorem ok : okCode T Tryz.f37.ntmps body = true := by kernel_rfl
theorem spec (x0 : Addr) (x1 : Int) (x2 : Int) (h : Heap) (K : KK) (H : w x0 x1 x2 h K) : CallsH Tryz.prog 37 [(.pointer (some x0)), (.int .i64 x1), (.int .u8 x2)] h K :=
  calls_of_E (T := T) Xok mix Tryz.func37 hb ok rfl (by rw [e0]; exact H)
end F37
-- spinney/spinneyplay.Is
namespace F58
def T : Hint := ⟨[], []⟩
noncomputable def body : Code := (Tryz.f58.body).getD .skip
def J0 (x0 : Addr) (x1 x2_0 x2_1 x2_2 x2_3 : Int) (h : Heap) (K : KK) : Prop :=
  newK h (.cells #[(.int .u64 x2_0), (.int .u64 x2_1), (.int .u64 x2_2), (.int .u64 x2_3)] 51) (fun b1 h2 => CallsH Tryz.prog 29 [(.pointer (some x0)), (.int .u32 x1)] h2 (fun v3 h4 => (∃ n5 : Int, ∃ n6 : Int, ∃ n7 : Int, ∃ n8 : Int, ∃ b9 : Bool, v3 = (.tuple #[(.agg #[(.int .u64 n5), (.int .u64 n6), (.int .u64 n7), (.int .u64 n8)]), (.bool b9)]) ∧ newK h4 (.cells #[(.int .u64 (0 : Int)), (.int .u64 (0 : Int)), (.int .u64 (0 : Int)), (.int .u64 (0 : Int))] 51) (fun b10 h11 => stK h11 (Addr.add (Addr.mk b10 0 none) 0) (.int .u64 n5) (fun h12 => stK h12 (Addr.add (Addr.mk b10 0 none) 1) (.int .u64 n6) (fun h13 => stK h13 (Addr.add (Addr.mk b10 0 none) 2) (.int .u64 n7) (fun h14 => stK h14 (Addr.add (Addr.mk b10 0 none) 3) (.int .u64 n8) (fun h15 => bcase b9 (ldI .u64 (rd h15 (Addr.add (Addr.mk b10 0 none) 0)) (fun n16 => ldI .u64 (rd h15 (Addr.add (Addr.mk b10 0 none) 1)) (fun n17 => ldI .u64 (rd h15 (Addr.add (Addr.mk b10 0 none) 2)) (fun n18 => ldI .u64 (rd h15 (Addr.add (Addr.mk b10 0 none) 3)) (fun n19 => ldI .u64 (rd h15 (Addr.add (Addr.mk b1 0 none) 0)) (fun n20 => ldI .u64 (rd h15 (Addr.add (Addr.mk b1 0 none) 1)) (fun n21 => ldI .u64 (rd h15 (Addr.add (Addr.mk b1 0 none) 2)) (fun n22 => ldI .u64 (rd h15 (Addr.add (Addr.mk b1 0 none) 3)) (fun n23 => K (.bool (n16 == n20 && (n17 == n21 && (n18 == n22 && (n19 == n23 && true))))) h15))))))))) (K (.bool false) h15)))))))))
theorem E0 (S : Stop) (x0 : Addr) (x1 x2_0 x2_1 x2_2 x2_3 : Int) (h : Heap) (K : KK) : (E Tryz.prog X T S body (fin Tryz.prog Tryz.f58.results.toList K) (args0 0 [(.pointer (some x0)), (.int .u32 x1), (.agg #[(.int .u64 x2_0), (.int .u64 x2_1), (.int .u64 x2_2), (.int .u64 x2_3)])]) h) = J0 x0 x1 x2_0 x2_1 x2_2 x2_3 h K := by kernel_rfl
def w (x0 : Addr) (x1 x2_0 x2_1 x2_2 x2_3 : Int) (h : Heap) (K : KK) : Prop :=
  J0 x0 x1 x2_0 x2_1 x2_2 x2_3 h K
theorem e0 (K : KK) (x0 : Addr) (x1 x2_0 x2_1 x2_2 x2_3 : Int) (h : Heap) : (E Tryz.prog X T S0 body (fin Tryz.prog Tryz.f58.results.toList K) (args0 0 [(.pointer (some x0)), (.int .u32 x1), (.agg #[(.int .u64 x2_0), (.int .u64 x2_1), (.int .u64 x2_2), (.int .u64 x2_3)])]) h) = w x0 x1 x2_0 x2_1 x2_2 x2_3 h K := (E0 S0 x0 x1 x2_0 x2_1 x2_2 x2_3 h K).trans (rfl)
theorem hb : Tryz.f58.body = some body := by kernel_rfl
theorem ok : okCode T Tryz.f58.ntmps body = true := by kernel_rfl
theorem spec (x0 : Addr) (x1 : Int) (x2_0 : Int) (x2_1 : Int) (x2_2 : Int) (x2_3 : Int) (h : Heap) (K : KK) (H : w x0 x1 x2_0 x2_1 x2_2 x2_3 h K) : CallsH Tryz.prog 58 [(.pointer (some x0)), (.int .u32 x1), (.agg #[(.int .u64 x2_0), (.int .u64 x2_1), (.int .u64 x2_2), (.int .u64 x2_3)])] h K :=
  calls_of_E (T := T) Xok mix Tryz.func58 hb ok rfl (by rw [e0]; exact H)
end F58
end Go.Proofs.YtnofenejoebkhaaGreat.Ev
/- THE POOL (package pool): rounds of fair picks do all jobs (spinneylaw21.rounds). Conditions: the pool stands (PoolIs), its jobs are in order (PoolOk), the store stands beside it (Sto). -/
namespace Go.Proofs.YtnofenejoebkhaaGreat.Ev
open Go
section
variable {h : Heap} {p s n room : Nat} {fo gg : Nat → Nat} {off : Bool} {N : List (Option Nd)} {P : PS} {K : Value → Heap → Prop} {L : List Nat}
theorem alike_len {P P' : PS} (a : Alike P P') : P'.jobs.length = P.jobs.length := by
  have := congrArg List.length a.2.2
  simpa using this
theorem goals_ex {N N' : List (Option Nd)} {P P' : PS} (GO : GoalsOk N P) (E : Ex N N') (a : Alike P P') : GoalsOk N' P' := fun j hj => by
  have h1 : (j.id, j.G) ∈ P'.jobs.map fun j => (j.id, j.G) := List.mem_map.2 ⟨j, hj, rfl⟩
  rw [a.2.2] at h1
  obtain ⟨y, hy, e⟩ := List.mem_map.1 h1
  have e2 : y.G = j.G := congrArg Prod.snd e
  obtain ⟨g1, g2, g3⟩ := GO y hy
  rw [e2] at g1 g2 g3
  exact ⟨E.isN g1, E.isN g2, E.isN g3⟩
/-- the world of a pool and its store -/
structure Wld (h : Heap) (p s n room : Nat) (fo gg : Nat → Nat) (off : Bool) (N : List (Option Nd)) (P : PS) (L : List Nat) : Prop where
  S : Sto h s L (XL n room fo gg N off)
  H : PoolIs h p s P
  Ok : PoolOk n fo N P
  GO : GoalsOk N P
  D : ∀ b, PBl p P b → b ∉ L
/-- nothing beside it has turned -/
structure Beside (p : Nat) (P : PS) (L : List Nat) (h : Heap) (P' : PS) (L' : List Nat) (h' : Heap) : Prop where
  O : ∀ T, (∀ b, PBl p P b → b ∈ T) → (∀ b ∈ L, b ∈ T) → Only T h h'
  F : Fresh L L' h
  B : ∀ b, PBl p P' b → PBl p P b ∨ h.size ≤ b
theorem Beside.refl : Beside p P L h P L h := ⟨fun T _ _ => Only.refl _ _, Fresh.refl _ _, fun b hb => .inl hb⟩
theorem Beside.size {P' : PS} {L' : List Nat} {h' : Heap} (a : Beside p P L h P' L' h') : h.size ≤ h'.size := (a.O (pbl p P ++ L) (fun b hb => List.mem_append.2 (.inl (mem_pbl.2 hb))) fun b hb => List.mem_append.2 (.inr hb)).size
theorem Beside.trans {P' P'' : PS} {L' L'' : List Nat} {h' h'' : Heap} (a : Beside p P L h P' L' h') (b : Beside p P' L' h' P'' L'' h'') : Beside p P L h P'' L'' h'' := by
  have hz := a.size
  refine ⟨fun T hT hL => (a.O T hT hL).trans (b.O (pbl p P' ++ L') (fun x hx => List.mem_append.2 (.inl (mem_pbl.2 hx))) fun x hx => List.mem_append.2 (.inr hx)) fun x hx hl => ?_, a.F.trans b.F hz, fun x hx => ?_⟩
  · rcases List.mem_append.1 hx with h | h
    · rcases a.B x (mem_pbl.1 h) with h | h
      · exact hT x h
      · omega
    · rcases a.F x h with h | h
      · exact hL x h
      · omega
  · rcases b.B x hx with h | h
    · exact a.B x h
    · exact .inr (by omega)
theorem Beside.only {P' : PS} {L' : List Nat} {h' h0 : Heap} (a : Beside p P L h P' L' h') (O : Only [] h0 h) (hP : ∀ b, PBl p P b → h0.size ≤ b) (hL : ∀ b ∈ L, h0.size ≤ b) : Only [] h0 h' :=
  O.trans (a.O (pbl p P ++ L) (fun x hx => List.mem_append.2 (.inl (mem_pbl.2 hx))) fun x hx => List.mem_append.2 (.inr hx)) fun b hb hl => by
    rcases List.mem_append.1 hb with h | h
    · have := hP b (mem_pbl.1 h); omega
    · have := hL b h; omega
theorem Wld.only0 {h' : Heap} (W : Wld h p s n room fo gg off N P L) (O : Only [] h h') : Wld h' p s n room fo gg off N P L := ⟨W.S.only0 O, W.H.only0 O, W.Ok, W.GO, W.D⟩
theorem Beside.only0 {h' : Heap} (O : Only [] h h') : Beside p P L h P L h' := ⟨fun T _ _ => O.mono (by simp), Fresh.refl _ _, fun b hb => .inl hb⟩
/-- a pick, in the world -/
theorem wld_pick (W : Wld h p s n room fo gg off N P L) {who draw : Int}
    (hOut : who < 0 ∨ (P.ws.length : Int) ≤ who → K (.bool false) h)
    (hK : ∀ h' L' N' P' b (w : Nat) (k : Wk), who = (w : Int) → P.ws[w]? = some k → Wld h' p s n room fo gg off N' P' L' → Picked n fo room N N' P P' → (b = true → locs P.ws ≠ []) → (phi n N' P' + 1 ≤ phi n N P ∨ (k.job = 0 ∧ k.q = [] ∧ WsEq P.ws P'.ws)) → Beside p P L h P' L' h' → K (.bool b) h') :
    CallsH Tryz.prog 81 [ptrV p, .int .i64 who, .int .i64 draw] h K :=
  pick81 W.S W.H W.Ok W.GO W.D hOut fun h' L' N' P' b w k e1 e2 S' H' D' Pk e3 e4 O' F' B' => hK h' L' N' P' b w k e1 e2 ⟨S', H', Pk.ok, goals_ex W.GO Pk.ex Pk.alike, D'⟩ Pk e3 e4 ⟨O', F', B'⟩
theorem busy_of (Ok : PoolOk n fo N P) {j : Jb} (hj : j ∈ P.jobs) (hd : j.A.done = false) : ∃ (w : Nat) (k : Wk), P.ws[w]? = some k ∧ (k.job ≠ 0 ∨ k.q ≠ []) := by
  obtain ⟨k, hk, hm⟩ := List.mem_flatMap.1 (Ok.loc j hj hd)
  obtain ⟨w, hw⟩ := List.mem_iff_getElem?.1 hk
  refine ⟨w, k, hw, ?_⟩
  unfold Wk.loc at hm
  by_cases h0 : k.job = 0
  · rw [if_pos h0] at hm
    exact .inr fun e => by rw [e] at hm; cases hm
  · exact .inl h0
set_option maxRecDepth 100000 in
theorem rounds37 {jobs : Nat} {draw : Int} (W : Wld h p s n room fo gg off N P L) (hj : jobs ≤ 1000) (hphi : phi n N P < jobs * 262144)
    (hK : ∀ h' L' N' P', Wld h' p s n room fo gg off N' P' L' → Picked n fo room N N' P P' → (∀ j ∈ P'.jobs, j.A.done = true) → Beside p P L h P' L' h' → K (.bool true) h') :
    CallsH Tryz.prog 37 [ptrV p, .int .i64 (jobs : Int), .int .u8 draw] h K := by
  refine F37.spec _ _ _ h K ?_
  unfold F37.w F37.J0 F37.wk2 F37.Jk2
  have ejobs : IntKind.wrap .i64 ((jobs : Int) * 2 ^ (min (Int.toNat (18 : Int)) (IntKind.bits .i64))) = ((jobs * 262144 : Nat) : Int) := by
    rw [show (2 : Int) ^ (min (Int.toNat (18 : Int)) (IntKind.bits .i64)) = 262144 by rfl, wrap_i64 (by omega) (by omega)]
    omega
  have main : ∀ (d i : Nat) (h1 : Heap) (L1 : List Nat) (N1 : List (Option Nd)) (P1 : PS), i + d = jobs * 262144 → Wld h1 p s n room fo gg off N1 P1 L1 → Picked n fo room N N1 P P1 → Beside p P L h P1 L1 h1 → phi n N1 P1 + i ≤ phi n N P →
      F37.wL2 (d + 1) ⟨p, 0, none⟩ (jobs : Int) draw (i : Int) h1 K := by
    intro d
    induction d with
    | zero =>
      intro i h1 L1 N1 P1 hi W1 Pk B1 hp
      omega
    | succ d ih =>
      intro i h1 L1 N1 P1 hi W1 Pk B1 hp
      have ei : IntKind.wrap .i64 ((i : Int) + 1) = ((i + 1 : Nat) : Int) := by rw [wrap_i64 (by omega) (by omega)]; omega
      cases hall : (P1.jobs.all fun j => j.A.done) with
      | true =>
        unfold F37.wL2 F37.JL2
        rw [ejobs, decide_eq_true (by omega), bcase_true]
        refine ⟨by omega, idle85 W1.H fun h2 O2 => ldB_of rfl ?_⟩
        rw [hall, Bool.not_true, bcase_false]
        refine idle85 (W1.only0 O2).H fun h3 O3 => ldB_of rfl ?_
        rw [hall]
        exact hK h3 L1 N1 P1 ((W1.only0 O2).only0 O3) Pk (fun j hj => by have := List.all_eq_true.1 hall j hj; simpa using this) (B1.trans (Beside.only0 (O2.trans O3 (by simp))))
      | false =>
        obtain ⟨j0, hj0, hd0⟩ : ∃ j ∈ P1.jobs, j.A.done = false := by
          obtain ⟨j, hj, e⟩ := List.all_eq_false.1 hall
          exact ⟨j, hj, by simpa using e⟩
        obtain ⟨w0, k0, hw0, hb0⟩ := busy_of W1.Ok hj0 hd0
        have wl := W1.Ok.len
        have w0l : w0 < P1.ws.length := (List.getElem?_eq_some_iff.1 hw0).1
        -- the round
        have inner : ∀ (g : Nat), (∀ (bk : Addr → Int → Int → Int → Heap → Prop) (w : Nat) (h2 : Heap) (L2 : List Nat) (N2 : List (Option Nd)) (P2 : PS), w + g = P1.ws.length → Wld h2 p s n room fo gg off N2 P2 L2 → Picked n fo room N1 N2 P1 P2 → Beside p P1 L1 h1 P2 L2 h2 →
            (phi n N2 P2 + 1 ≤ phi n N1 P1 ∨ (w ≤ w0 ∧ ∃ k, P2.ws[w0]? = some k ∧ (k.job ≠ 0 ∨ k.q ≠ []))) →
            (∀ h3 L3 N3 P3, Wld h3 p s n room fo gg off N3 P3 L3 → Picked n fo room N1 N3 P1 P3 → Beside p P1 L1 h1 P3 L3 h3 → phi n N3 P3 + 1 ≤ phi n N1 P1 → bk ⟨p, 0, none⟩ (jobs : Int) draw ((i + 1 : Nat) : Int) h3) →
            F37.wL5 bk (g + 1) ⟨p, 0, none⟩ (jobs : Int) draw (i : Int) (w : Int) h2 K) := by
          intro g
          induction g with
          | zero =>
            intro bk w h2 L2 N2 P2 hw W2 Pk2 B2 hpg hbk
            unfold F37.wL5 F37.JL5
            refine workers68 W2.H (ldI_of rfl ?_)
            have e2 : P2.ws.length = P1.ws.length := Pk2.alike.2.1
            rw [decide_eq_false (by omega), bcase_false, ei]
            refine hbk h2 L2 N2 P2 W2 Pk2 B2 ?_
            rcases hpg with h | ⟨h, -⟩
            · exact h
            · omega
          | succ g ihg =>
            intro bk w h2 L2 N2 P2 hw W2 Pk2 B2 hpg hbk
            unfold F37.wL5 F37.JL5
            refine workers68 W2.H (ldI_of rfl ?_)
            have e2 : P2.ws.length = P1.ws.length := Pk2.alike.2.1
            have ewi : IntKind.wrap .i64 ((w : Int) + 1) = ((w + 1 : Nat) : Int) := by rw [wrap_i64 (by omega) (by omega)]; omega
            rw [decide_eq_true (by omega), bcase_true, ewi]
            refine wld_pick W2 (fun h => by omega) fun h3 L3 N3 P3 b w' k' ew' hk' W3 Pk3 _ hs B3 => ldB_of rfl ?_
            have ew : w' = w := by omega
            subst ew
            refine ihg bk (w' + 1) h3 L3 N3 P3 (by omega) W3 (Pk2.trans Pk3) (B2.trans B3) ?_ hbk
            have l3 := Pk3.le1
            rcases hpg with h | ⟨h, k, hk, hb⟩
            · exact .inl (by omega)
            · rcases hs with h' | ⟨q1, q2, E⟩
              · have := Pk2.le1
                exact .inl (by omega)
              · by_cases hww : w' = w0
                · subst hww
                  rw [hk] at hk'
                  injection hk' with hk'
                  subst hk'
                  rcases hb with hb | hb
                  · exact absurd q1 hb
                  · exact absurd q2 hb
                · obtain ⟨k3, hk3, e3⟩ := E.2 w0 k hk
                  exact .inr ⟨by omega, k3, hk3, by rw [e3.2.1, e3.2.2.1]; exact hb⟩
        unfold F37.wL2 F37.JL2
        rw [ejobs, decide_eq_true (by omega), bcase_true]
        refine ⟨by omega, idle85 W1.H fun h2 O2 => ldB_of rfl ?_⟩
        rw [hall, Bool.not_false, bcase_true]
        unfold F37.wk5 F37.Jk5
        have W2 := W1.only0 O2
        refine ⟨_, inner P1.ws.length (fun x0 x1 x2 x7 h => F37.wL2 (d + 1) x0 x1 x2 x7 h K) 0 h2 L1 N1 P1 (by omega) W2 (Picked.refl W1.Ok) (Beside.only0 O2) (.inr ⟨Nat.zero_le _, k0, hw0, hb0⟩) fun h3 L3 N3 P3 W3 Pk3 B3 hp3 => ?_⟩
        exact ih (i + 1) h3 L3 N3 P3 (by omega) W3 (Pk.trans Pk3) (B1.trans B3) (by omega)
  exact ⟨_, main (jobs * 262144) 0 h L N P (by omega) W (Picked.refl W.Ok) Beside.refl (Nat.le_refl _)⟩
end
end Go.Proofs.YtnofenejoebkhaaGreat.Ev
/- PRINTED BY PROGRAM: what each of these functions does, computed over heaps by the evaluator, and that its calls do so. Conditions: none. -/
namespace Go.Proofs.YtnofenejoebkhaaGreat.Ev
open Go
-- spinney/spinneyplay.walk
namespace F83
def T : Hint := ⟨[], [(10, [[(0, []), (1, []), (2, []), (3, []), (4, []), (5, []), (7, []), (6, [7]), (8, []), (9, []), (10, []), (11, []), (12, []), (13, []), (15, []), (16, []), (14, [15, 16]), (17, []), (18, []), (19, []), (20, [18, 19]), (21, [])]])]⟩
noncomputable def body : Code := (Tryz.f83.body).getD .skip
def J0 (x0 : Addr) (x1 : Int) (x2p : Option Addr) (x2l x2c : Nat) (x3 : Int) (h : Heap) (K : KK) : Prop :=
  newK h (.cells #[(.int .u64 (0 : Int)), (.int .u64 (0 : Int)), (.int .u64 (0 : Int)), (.int .u64 (0 : Int))] 51) (fun b1 h2 => bcase (x1 == (0 : Int)) (stK h2 (Addr.add (Addr.mk b1 0 none) 0) (.int .u64 (0 : Int)) (fun h3 => stK h3 (Addr.add (Addr.mk b1 0 none) 1) (.int .u64 (0 : Int)) (fun h4 => stK h4 (Addr.add (Addr.mk b1 0 none) 2) (.int .u64 (0 : Int)) (fun h5 => stK h5 (Addr.add (Addr.mk b1 0 none) 3) (.int .u64 (0 : Int)) (fun h6 => ldI .u64 (rd h6 (Addr.add (Addr.mk b1 0 none) 0)) (fun n7 => ldI .u64 (rd h6 (Addr.add (Addr.mk b1 0 none) 1)) (fun n8 => ldI .u64 (rd h6 (Addr.add (Addr.mk b1 0 none) 2)) (fun n9 => ldI .u64 (rd h6 (Addr.add (Addr.mk b1 0 none) 3)) (fun n10 => K (.tuple #[(.agg #[(.int .u64 n7), (.int .u64 n8), (.int .u64 n9), (.int .u64 n10)]), (.bool true)]) h6))))))))) (bcase (x1 == (1 : Int)) (CallsH Tryz.prog 86 [(.agg #[(.int .u64 (0 : Int)), (.int .u64 (0 : Int)), (.int .u64 (0 : Int)), (.int .u64 (0 : Int))])] h2 (fun v11 h12 => (∃ n13 : Int, ∃ n14 : Int, ∃ n15 : Int, ∃ n16 : Int, v11 = (.agg #[(.int .u64 n13), (.int .u64 n14), (.int .u64 n15), (.int .u64 n16)]) ∧ stK h12 (Addr.add (Addr.mk b1 0 none) 0) (.int .u64 n13) (fun h17 => stK h17 (Addr.add (Addr.mk b1 0 none) 1) (.int .u64 n14) (fun h18 => stK h18 (Addr.add (Addr.mk b1 0 none) 2) (.int .u64 n15) (fun h19 => stK h19 (Addr.add (Addr.mk b1 0 none) 3) (.int .u64 n16) (fun h20 => ldI .u64 (rd h20 (Addr.add (Addr.mk b1 0 none) 0)) (fun n21 => ldI .u64 (rd h20 (Addr.add (Addr.mk b1 0 none) 1)) (fun n22 => ldI .u64 (rd h20 (Addr.add (Addr.mk b1 0 none) 2)) (fun n23 => ldI .u64 (rd h20 (Addr.add (Addr.mk b1 0 none) 3)) (fun n24 => K (.tuple #[(.agg #[(.int .u64 n21), (.int .u64 n22), (.int .u64 n23), (.int .u64 n24)]), (.bool true)]) h20))))))))))) (CallsH Tryz.prog 71 [(.pointer (some x0)), (.int .u32 x1)] h2 (fun v25 h26 => ldI .i64 (some v25) (fun n27 => CallsH Tryz.prog 74 [(.pointer (some x0)), (.int .u32 x1)] h26 (fun v28 h29 => ldB (some v28) (fun b30 => bcase (!b30) (stK h29 (Addr.add (Addr.mk b1 0 none) 0) (.int .u64 (0 : Int)) (fun h31 => stK h31 (Addr.add (Addr.mk b1 0 none) 1) (.int .u64 (0 : Int)) (fun h32 => stK h32 (Addr.add (Addr.mk b1 0 none) 2) (.int .u64 (0 : Int)) (fun h33 => stK h33 (Addr.add (Addr.mk b1 0 none) 3) (.int .u64 (0 : Int)) (fun h34 => ldI .u64 (rd h34 (Addr.add (Addr.mk b1 0 none) 0)) (fun n35 => ldI .u64 (rd h34 (Addr.add (Addr.mk b1 0 none) 1)) (fun n36 => ldI .u64 (rd h34 (Addr.add (Addr.mk b1 0 none) 2)) (fun n37 => ldI .u64 (rd h34 (Addr.add (Addr.mk b1 0 none) 3)) (fun n38 => K (.tuple #[(.agg #[(.int .u64 n35), (.int .u64 n36), (.int .u64 n37), (.int .u64 n38)]), (.bool false)]) h34))))))))) (bcase (decide (n27 < x3)) (stK h29 (Addr.add (Addr.mk b1 0 none) 0) (.int .u64 (0 : Int)) (fun h39 => stK h39 (Addr.add (Addr.mk b1 0 none) 1) (.int .u64 (0 : Int)) (fun h40 => stK h40 (Addr.add (Addr.mk b1 0 none) 2) (.int .u64 (0 : Int)) (fun h41 => stK h41 (Addr.add (Addr.mk b1 0 none) 3) (.int .u64 (0 : Int)) (fun h42 => ldI .u64 (rd h42 (Addr.add (Addr.mk b1 0 none) 0)) (fun n43 => ldI .u64 (rd h42 (Addr.add (Addr.mk b1 0 none) 1)) (fun n44 => ldI .u64 (rd h42 (Addr.add (Addr.mk b1 0 none) 2)) (fun n45 => ldI .u64 (rd h42 (Addr.add (Addr.mk b1 0 none) 3)) (fun n46 => K (.tuple #[(.agg #[(.int .u64 n43), (.int .u64 n44), (.int .u64 n45), (.int .u64 n46)]), (.bool false)]) h42))))))))) (bcase (decide (n27 ≥ (Nat.cast x2l : Int))) (stK h29 (Addr.add (Addr.mk b1 0 none) 0) (.int .u64 (0 : Int)) (fun h47 => stK h47 (Addr.add (Addr.mk b1 0 none) 1) (.int .u64 (0 : Int)) (fun h48 => stK h48 (Addr.add (Addr.mk b1 0 none) 2) (.int .u64 (0 : Int)) (fun h49 => stK h49 (Addr.add (Addr.mk b1 0 none) 3) (.int .u64 (0 : Int)) (fun h50 => ldI .u64 (rd h50 (Addr.add (Addr.mk b1 0 none) 0)) (fun n51 => ldI .u64 (rd h50 (Addr.add (Addr.mk b1 0 none) 1)) (fun n52 => ldI .u64 (rd h50 (Addr.add (Addr.mk b1 0 none) 2)) (fun n53 => ldI .u64 (rd h50 (Addr.add (Addr.mk b1 0 none) 3)) (fun n54 => K (.tuple #[(.agg #[(.int .u64 n51), (.int .u64 n52), (.int .u64 n53), (.int .u64 n54)]), (.bool false)]) h50))))))))) (CallsH Tryz.prog 72 [(.pointer (some x0)), (.int .u32 x1)] h29 (fun v55 h56 => ldI .u32 (some v55) (fun n57 => CallsH Tryz.prog 83 [(.pointer (some x0)), (.int .u32 n57), (.slice x2p x2l x2c), (.int .i64 (IntKind.wrap .i64 (n27 + (1 : Int))))] h56 (fun v58 h59 => (∃ n60 : Int, ∃ n61 : Int, ∃ n62 : Int, ∃ n63 : Int, ∃ b64 : Bool, v58 = (.tuple #[(.agg #[(.int .u64 n60), (.int .u64 n61), (.int .u64 n62), (.int .u64 n63)]), (.bool b64)]) ∧ newK h59 (.cells #[(.int .u64 (0 : Int)), (.int .u64 (0 : Int)), (.int .u64 (0 : Int)), (.int .u64 (0 : Int))] 51) (fun b65 h66 => stK h66 (Addr.add (Addr.mk b65 0 none) 0) (.int .u64 n60) (fun h67 => stK h67 (Addr.add (Addr.mk b65 0 none) 1) (.int .u64 n61) (fun h68 => stK h68 (Addr.add (Addr.mk b65 0 none) 2) (.int .u64 n62) (fun h69 => stK h69 (Addr.add (Addr.mk b65 0 none) 3) (.int .u64 n63) (fun h70 => CallsH Tryz.prog 73 [(.pointer (some x0)), (.int .u32 x1)] h70 (fun v71 h72 => ldI .u32 (some v71) (fun n73 => CallsH Tryz.prog 83 [(.pointer (some x0)), (.int .u32 n73), (.slice x2p x2l x2c), (.int .i64 (IntKind.wrap .i64 (n27 + (1 : Int))))] h72 (fun v74 h75 => (∃ n76 : Int, ∃ n77 : Int, ∃ n78 : Int, ∃ n79 : Int, ∃ b80 : Bool, v74 = (.tuple #[(.agg #[(.int .u64 n76), (.int .u64 n77), (.int .u64 n78), (.int .u64 n79)]), (.bool b80)]) ∧ newK h75 (.cells #[(.int .u64 (0 : Int)), (.int .u64 (0 : Int)), (.int .u64 (0 : Int)), (.int .u64 (0 : Int))] 51) (fun b81 h82 => stK h82 (Addr.add (Addr.mk b81 0 none) 0) (.int .u64 n76) (fun h83 => stK h83 (Addr.add (Addr.mk b81 0 none) 1) (.int .u64 n77) (fun h84 => stK h84 (Addr.add (Addr.mk b81 0 none) 2) (.int .u64 n78) (fun h85 => stK h85 (Addr.add (Addr.mk b81 0 none) 3) (.int .u64 n79) (fun h86 => ptrK x2p (fun a87 => (0 ≤ n27 ∧ n27 < (Nat.cast x2l : Int) ∧ ldI .u64 (rd h86 (Addr.add (Addr.add a87 (Int.toNat n27 * 4)) 0)) (fun n88 => ldI .u64 (rd h86 (Addr.add (Addr.add a87 (Int.toNat n27 * 4)) 1)) (fun n89 => ldI .u64 (rd h86 (Addr.add (Addr.add a87 (Int.toNat n27 * 4)) 2)) (fun n90 => ldI .u64 (rd h86 (Addr.add (Addr.add a87 (Int.toNat n27 * 4)) 3)) (fun n91 => ldI .u64 (rd h86 (Addr.add (Addr.mk b81 0 none) 0)) (fun n92 => ldI .u64 (rd h86 (Addr.add (Addr.mk b81 0 none) 1)) (fun n93 => ldI .u64 (rd h86 (Addr.add (Addr.mk b81 0 none) 2)) (fun n94 => ldI .u64 (rd h86 (Addr.add (Addr.mk b81 0 none) 3)) (fun n95 => ldI .u64 (rd h86 (Addr.add (Addr.mk b65 0 none) 0)) (fun n96 => ldI .u64 (rd h86 (Addr.add (Addr.mk b65 0 none) 1)) (fun n97 => ldI .u64 (rd h86 (Addr.add (Addr.mk b65 0 none) 2)) (fun n98 => ldI .u64 (rd h86 (Addr.add (Addr.mk b65 0 none) 3)) (fun n99 => CallsH Tryz.prog 131 [(.agg #[(.int .u64 n88), (.int .u64 n89), (.int .u64 n90), (.int .u64 n91)]), (.agg #[(.int .u64 n92), (.int .u64 n93), (.int .u64 n94), (.int .u64 n95)]), (.agg #[(.int .u64 n96), (.int .u64 n97), (.int .u64 n98), (.int .u64 n99)])] h86 (fun v100 h101 => (∃ n102 : Int, ∃ n103 : Int, ∃ n104 : Int, ∃ n105 : Int, v100 = (.agg #[(.int .u64 n102), (.int .u64 n103), (.int .u64 n104), (.int .u64 n105)]) ∧ ((.bool b64) = ((.bool b64) : Value) ∧ bcase b64 (bcase b80 (CallsH Tryz.prog 72 [(.pointer (some x0)), (.int .u32 x1)] h101 (fun v106 h107 => ldI .u32 (some v106) (fun n108 => ((.pointer (some x0)) = ((.pointer (some x0)) : Value) ∧ ((.int .u32 x1) = ((.int .u32 x1) : Value) ∧ CallsH Tryz.prog 73 [(.pointer (some x0)), (.int .u32 x1)] h107 (fun v109 h110 => ldI .u32 (some v109) (fun n111 => stK h110 (Addr.add (Addr.mk b1 0 none) 0) (.int .u64 n102) (fun h112 => stK h112 (Addr.add (Addr.mk b1 0 none) 1) (.int .u64 n103) (fun h113 => stK h113 (Addr.add (Addr.mk b1 0 none) 2) (.int .u64 n104) (fun h114 => stK h114 (Addr.add (Addr.mk b1 0 none) 3) (.int .u64 n105) (fun h115 => ((.bool (n108 != n111)) = ((.bool (n108 != n111)) : Value) ∧ ((.bool (n108 != n111)) = ((.bool (n108 != n111)) : Value) ∧ ldI .u64 (rd h115 (Addr.add (Addr.mk b1 0 none) 0)) (fun n116 => ldI .u64 (rd h115 (Addr.add (Addr.mk b1 0 none) 1)) (fun n117 => ldI .u64 (rd h115 (Addr.add (Addr.mk b1 0 none) 2)) (fun n118 => ldI .u64 (rd h115 (Addr.add (Addr.mk b1 0 none) 3)) (fun n119 => K (.tuple #[(.agg #[(.int .u64 n116), (.int .u64 n117), (.int .u64 n118), (.int .u64 n119)]), (.bool (n108 != n111))]) h115))))))))))))))))) (((.tuple #[]) = undef ∧ ((.tuple #[]) = undef ∧ stK h101 (Addr.add (Addr.mk b1 0 none) 0) (.int .u64 n102) (fun h120 => stK h120 (Addr.add (Addr.mk b1 0 none) 1) (.int .u64 n103) (fun h121 => stK h121 (Addr.add (Addr.mk b1 0 none) 2) (.int .u64 n104) (fun h122 => stK h122 (Addr.add (Addr.mk b1 0 none) 3) (.int .u64 n105) (fun h123 => ((.tuple #[]) = undef ∧ ((.bool false) = ((.bool false) : Value) ∧ ldI .u64 (rd h123 (Addr.add (Addr.mk b1 0 none) 0)) (fun n124 => ldI .u64 (rd h123 (Addr.add (Addr.mk b1 0 none) 1)) (fun n125 => ldI .u64 (rd h123 (Addr.add (Addr.mk b1 0 none) 2)) (fun n126 => ldI .u64 (rd h123 (Addr.add (Addr.mk b1 0 none) 3)) (fun n127 => K (.tuple #[(.agg #[(.int .u64 n124), (.int .u64 n125), (.int .u64 n126), (.int .u64 n127)]), (.bool false)]) h123)))))))))))))) (((.tuple #[]) = undef ∧ ((.tuple #[]) = undef ∧ stK h101 (Addr.add (Addr.mk b1 0 none) 0) (.int .u64 n102) (fun h128 => stK h128 (Addr.add (Addr.mk b1 0 none) 1) (.int .u64 n103) (fun h129 => stK h129 (Addr.add (Addr.mk b1 0 none) 2) (.int .u64 n104) (fun h130 => stK h130 (Addr.add (Addr.mk b1 0 none) 3) (.int .u64 n105) (fun h131 => ((.tuple #[]) = undef ∧ ((.bool false) = ((.bool false) : Value) ∧ ldI .u64 (rd h131 (Addr.add (Addr.mk b1 0 none) 0)) (fun n132 => ldI .u64 (rd h131 (Addr.add (Addr.mk b1 0 none) 1)) (fun n133 => ldI .u64 (rd h131 (Addr.add (Addr.mk b1 0 none) 2)) (fun n134 => ldI .u64 (rd h131 (Addr.add (Addr.mk b1 0 none) 3)) (fun n135 => K (.tuple #[(.agg #[(.int .u64 n132), (.int .u64 n133), (.int .u64 n134), (.int .u64 n135)]), (.bool false)]) h131))))))))))))))))))))))))))))))))))))))))))))))))))))))))))
theorem E0 (S : Stop) (x0 : Addr) (x1 : Int) (x2p : Option Addr) (x2l x2c : Nat) (x3 : Int) (h : Heap) (K : KK) : (E Tryz.prog X T S body (fin Tryz.prog Tryz.f83.results.toList K) (args0 0 [(.pointer (some x0)), (.int .u32 x1), (.slice x2p x2l x2c), (.int .i64 x3)]) h) = J0 x0 x1 x2p x2l x2c x3 h K := by kernel_rfl
def w (x0 : Addr) (x1 : Int) (x2p : Option Addr) (x2l x2c : Nat) (x3 : Int) (h : Heap) (K : KK) : Prop :=
  J0 x0 x1 x2p x2l x2c x3 h K
theorem e0 (K : KK) (x0 : Addr) (x1 : Int) (x2p : Option Addr) (x2l x2c : Nat) (x3 : Int) (h : Heap) : (E Tryz.prog X T S0 body (fin Tryz.prog Tryz.f83.results.toList K) (args0 0 [(.pointer (some x0)), (.int .u32 x1), (.slice x2p x2l x2c), (.int .i64 x3)]) h) = w x0 x1 x2p x2l x2c x3 h K := (E0 S0 x0 x1 x2p x2l x2c x3 h K).trans (rfl)
theorem hb : Tryz.f83.body = some body := by kernel_rfl
theorem ok : okCode T Tryz.f83.ntmps body = true := by kernel_rfl
theorem spec (x0 : Addr) (x1 : Int) (x2p : Option Addr) (x2l : Nat) (x2c : Nat) (x3 : Int) (h : Heap) (K : KK) (H : w x0 x1 x2p x2l x2c x3 h K) : CallsH Tryz.prog 83 [(.pointer (some x0)), (.int .u32 x1), (.slice x2p x2l x2c), (.int .i64 x3)] h K :=
  calls_of_E (T := T) Xok mix Tryz.func83 hb ok rfl (by rw [e0]; exact H)
end F83
-- spinney/spinneyplay.Func
namespace F29
def T : Hint := ⟨[(4, [0, 1, 4, 6, 7, 8]), (7, [0, 1, 4, 7])], []⟩
noncomputable def body : Code := (Tryz.f29.body).getD .skip
noncomputable def en (S : Stop) (p : List Nat) (κ : XK) : Fr → Heap → Prop := E Tryz.prog X T S (sub body p) κ
noncomputable def ln (S : Stop) (p : List Nat) (κ : XK) (n : Nat) : Fr → Heap → Prop := loopN S (E Tryz.prog X T S (sub body p)) (cutQ T (sub body p)) κ n
def fn (K : KK) : XK := fin Tryz.prog Tryz.f29.results.toList K
noncomputable def c0 (S : Stop) (K : KK) : XK := seqN S (cutQ T (sub body [1, 1, 1, 1])) (en S [1, 1, 1, 1] (fn K)) (fn K)
noncomputable def c1 (S : Stop) (K : KK) : XK := blockN 0 (c0 S K)
noncomputable def c2 (S : Stop) (n4 : Nat) (K : KK) : XK := backN S (cutQ T (sub body [1, 1, 1, 0, 1, 0, 0])) (ln S [1, 1, 1, 0, 1, 0, 0] (c1 S K) n4) (c1 S K)
def f4 (x0 : Addr) (x1 : Int) (x4 : Addr) (x6p : Option Addr) (x6l x6c : Nat) (x7p : Option Addr) (x7l x7c : Nat) (x8 : Int) : Fr := [(0, (.pointer (some x0))), (1, (.int .u32 x1)), (4, (.pointer (some x4))), (6, (.slice x6p x6l x6c)), (7, (.slice x7p x7l x7c)), (8, (.int .i64 x8))]
def f7 (x0 : Addr) (x1 : Int) (x4 : Addr) (x7p : Option Addr) (x7l x7c : Nat) : Fr := [(0, (.pointer (some x0))), (1, (.int .u32 x1)), (4, (.pointer (some x4))), (7, (.slice x7p x7l x7c))]
def J0 (k4 : Addr → Int → Addr → (Option Addr) → Nat → Nat → (Option Addr) → Nat → Nat → Int → Heap → Prop) (x0 : Addr) (x1 : Int) (h : Heap) (_K : KK) : Prop :=
  newK h (.cells #[(.int .u64 (0 : Int)), (.int .u64 (0 : Int)), (.int .u64 (0 : Int)), (.int .u64 (0 : Int))] 51) (fun b1 h2 => CallsH Tryz.prog 47 [(.pointer (some x0))] h2 (fun v3 h4 => ldP (some v3) (fun p5 => CallsH Tryz.prog 48 [(.pointer p5)] h4 (fun v6 h7 => ldS (some v6) (fun p8 l9 c10 => k4 x0 x1 (Addr.mk b1 0 none) p8 l9 c10 none 0 0 (0 : Int) h7)))))
theorem E0 (S : Stop) (x0 : Addr) (x1 : Int) (h : Heap) (K : KK) : (E Tryz.prog X T S body (fin Tryz.prog Tryz.f29.results.toList K) (args0 0 [(.pointer (some x0)), (.int .u32 x1)]) h) = J0 (fun x0 x1 x4 x6p x6l x6c x7p x7l x7c x8 h => S (en S [1, 1, 1, 0, 1] (c0 S K)) (f4 x0 x1 x4 x6p x6l x6c x7p x7l x7c x8) h) x0 x1 h K := by kernel_rfl
def Jk4 (lp4 : Addr → Int → Addr → (Option Addr) → Nat → Nat → (Option Addr) → Nat → Nat → Int → Heap → Prop) (x0 : Addr) (x1 : Int) (x4 : Addr) (x6p : Option Addr) (x6l x6c : Nat) (x7p : Option Addr) (x7l x7c : Nat) (x8 : Int) (h : Heap) (_K : KK) : Prop :=
  lp4 x0 x1 x4 x6p x6l x6c x7p x7l x7c x8 h
theorem Ek4 (S : Stop) (x0 : Addr) (x1 : Int) (x4 : Addr) (x6p : Option Addr) (x6l x6c : Nat) (x7p : Option Addr) (x7l x7c : Nat) (x8 : Int) (h : Heap) (K : KK) : (en S [1, 1, 1, 0, 1] (c0 S K) (f4 x0 x1 x4 x6p x6l x6c x7p x7l x7c x8) h) = Jk4 (fun x0 x1 x4 x6p x6l x6c x7p x7l x7c x8 h => ∃ n, S (ln S [1, 1, 1, 0, 1, 0, 0] (c1 S K) n) (f4 x0 x1 x4 x6p x6l x6c x7p x7l x7c x8) h) x0 x1 x4 x6p x6l x6c x7p x7l x7c x8 h K := by kernel_rfl
def JL4 (bk4 : Addr → Int → Addr → (Option Addr) → Nat → Nat → (Option Addr) → Nat → Nat → Int → Heap → Prop) (k7 : Addr → Int → Addr → (Option Addr) → Nat → Nat → Heap → Prop) (x0 : Addr) (x1 : Int) (x4 : Addr) (x6p : Option Addr) (x6l x6c : Nat) (x7p : Option Addr) (x7l x7c : Nat) (x8 : Int) (h : Heap) (_K : KK) : Prop :=
  bcase (decide (x8 < (Nat.cast x6l : Int))) (ptrK x6p (fun a1 => (0 ≤ x8 ∧ x8 < (Nat.cast x6l : Int) ∧ ldI .i64 (rd h (Addr.add a1 (Int.toNat x8 * 1))) (fun n2 => CallsH Tryz.prog 33 [(.int .i64 n2)] h (fun v3 h4 => (∃ n5 : Int, ∃ n6 : Int, ∃ n7 : Int, ∃ n8 : Int, v3 = (.agg #[(.int .u64 n5), (.int .u64 n6), (.int .u64 n7), (.int .u64 n8)]) ∧ newK h4 (.cells #[(.int .u64 n5), (.int .u64 n6), (.int .u64 n7), (.int .u64 n8)] 51) (fun b9 h10 => appK h10 51 4 32 #[(.int .u64 (0 : Int)), (.int .u64 (0 : Int)), (.int .u64 (0 : Int)), (.int .u64 (0 : Int))] x7p x7l x7c (some (Addr.mk b9 0 none)) 1 (fun p11 l12 c13 h14 => bk4 x0 x1 x4 x6p x6l x6c p11 l12 c13 (IntKind.wrap .i64 (x8 + (1 : Int))) h14)))))))) (k7 x0 x1 x4 x7p x7l x7c h)
theorem EL4 (S : Stop) (n4 : Nat) (x0 : Addr) (x1 : Int) (x4 : Addr) (x6p : Option Addr) (x6l x6c : Nat) (x7p : Option Addr) (x7l x7c : Nat) (x8 : Int) (h : Heap) (K : KK) : (en S [1, 1, 1, 0, 1, 0, 0] (c2 S n4 K) (f4 x0 x1 x4 x6p x6l x6c x7p x7l x7c x8) h) = JL4 (fun x0 x1 x4 x6p x6l x6c x7p x7l x7c x8 h => S (ln S [1, 1, 1, 0, 1, 0, 0] (c1 S K) n4) (f4 x0 x1 x4 x6p x6l x6c x7p x7l x7c x8) h) (fun x0 x1 x4 x7p x7l x7c h => S (en S [1, 1, 1, 1] (fn K)) (f7 x0 x1 x4 x7p x7l x7c) h) x0 x1 x4 x6p x6l x6c x7p x7l x7c x8 h K := by kernel_rfl
def Jk7 (x0 : Addr) (x1 : Int) (x4 : Addr) (x7p : Option Addr) (x7l x7c : Nat) (h : Heap) (K : KK) : Prop :=
  CallsH Tryz.prog 83 [(.pointer (some x0)), (.int .u32 x1), (.slice x7p x7l x7c), (.int .i64 (0 : Int))] h (fun v1 h2 => (∃ n3 : Int, ∃ n4 : Int, ∃ n5 : Int, ∃ n6 : Int, ∃ b7 : Bool, v1 = (.tuple #[(.agg #[(.int .u64 n3), (.int .u64 n4), (.int .u64 n5), (.int .u64 n6)]), (.bool b7)]) ∧ stK h2 (Addr.add x4 0) (.int .u64 n3) (fun h8 => stK h8 (Addr.add x4 1) (.int .u64 n4) (fun h9 => stK h9 (Addr.add x4 2) (.int .u64 n5) (fun h10 => stK h10 (Addr.add x4 3) (.int .u64 n6) (fun h11 => ldI .u64 (rd h11 (Addr.add x4 0)) (fun n12 => ldI .u64 (rd h11 (Addr.add x4 1)) (fun n13 => ldI .u64 (rd h11 (Addr.add x4 2)) (fun n14 => ldI .u64 (rd h11 (Addr.add x4 3)) (fun n15 => K (.tuple #[(.agg #[(.int .u64 n12), (.int .u64 n13), (.int .u64 n14), (.int .u64 n15)]), (.bool b7)]) h11))))))))))
theorem Ek7 (S : Stop) (x0 : Addr) (x1 : Int) (x4 : Addr) (x7p : Option Addr) (x7l x7c : Nat) (h : Heap) (K : KK) : (en S [1, 1, 1, 1] (fn K) (f7 x0 x1 x4 x7p x7l x7c) h) = Jk7 x0 x1 x4 x7p x7l x7c h K := by kernel_rfl
def wk7 (x0 : Addr) (x1 : Int) (x4 : Addr) (x7p : Option Addr) (x7l x7c : Nat) (h : Heap) (K : KK) : Prop :=
  Jk7 x0 x1 x4 x7p x7l x7c h K
theorem ek7 (K : KK) (x0 : Addr) (x1 : Int) (x4 : Addr) (x7p : Option Addr) (x7l x7c : Nat) (h : Heap) : (en S0 [1, 1, 1, 1] (fn K) (f7 x0 x1 x4 x7p x7l x7c) h) = wk7 x0 x1 x4 x7p x7l x7c h K := (Ek7 S0 x0 x1 x4 x7p x7l x7c h K).trans (rfl)
def wL4 : Nat → Addr → Int → Addr → (Option Addr) → Nat → Nat → (Option Addr) → Nat → Nat → Int → Heap → KK → Prop
  | 0, _, _, _, _, _, _, _, _, _, _, _, _ => False
  | n + 1, x0, x1, x4, x6p, x6l, x6c, x7p, x7l, x7c, x8, h, K => JL4 (fun x0 x1 x4 x6p x6l x6c x7p x7l x7c x8 h => wL4 n x0 x1 x4 x6p x6l x6c x7p x7l x7c x8 h K) (fun x0 x1 x4 x7p x7l x7c h => wk7 x0 x1 x4 x7p x7l x7c h K) x0 x1 x4 x6p x6l x6c x7p x7l x7c x8 h K
theorem eL4 (K : KK) : ∀ (n : Nat) (x0 : Addr) (x1 : Int) (x4 : Addr) (x6p : Option Addr) (x6l x6c : Nat) (x7p : Option Addr) (x7l x7c : Nat) (x8 : Int) (h : Heap), (ln S0 [1, 1, 1, 0, 1, 0, 0] (c1 S0 K) n (f4 x0 x1 x4 x6p x6l x6c x7p x7l x7c x8) h) = wL4 n x0 x1 x4 x6p x6l x6c x7p x7l x7c x8 h K
  | 0, _, _, _, _, _, _, _, _, _, _, _ => rfl
  | n + 1, x0, x1, x4, x6p, x6l, x6c, x7p, x7l, x7c, x8, h => (EL4 S0 n x0 x1 x4 x6p x6l x6c x7p x7l x7c x8 h K).trans (cg2 (fun q0 q1 => JL4 q0 q1 x0 x1 x4 x6p x6l x6c x7p x7l x7c x8 h K) (by funext x0 x1 x4 x6p x6l x6c x7p x7l x7c x8 h; exact (fun x0 x1 x4 x6p x6l x6c x7p x7l x7c x8 h => eL4 K n x0 x1 x4 x6p x6l x6c x7p x7l x7c x8 h) x0 x1 x4 x6p x6l x6c x7p x7l x7c x8 h) (by funext x0 x1 x4 x7p x7l x7c h; exact ek7 K x0 x1 x4 x7p x7l x7c h))
def wk4 (x0 : Addr) (x1 : Int) (x4 : Addr) (x6p : Option Addr) (x6l x6c : Nat) (x7p : Option Addr) (x7l x7c : Nat) (x8 : Int) (h : Heap) (K : KK) : Prop :=
  Jk4 (fun x0 x1 x4 x6p x6l x6c x7p x7l x7c x8 h => ∃ m, wL4 m x0 x1 x4 x6p x6l x6c x7p x7l x7c x8 h K) x0 x1 x4 x6p x6l x6c x7p x7l x7c x8 h K
theorem ek4 (K : KK) (x0 : Addr) (x1 : Int) (x4 : Addr) (x6p : Option Addr) (x6l x6c : Nat) (x7p : Option Addr) (x7l x7c : Nat) (x8 : Int) (h : Heap) : (en S0 [1, 1, 1, 0, 1] (c0 S0 K) (f4 x0 x1 x4 x6p x6l x6c x7p x7l x7c x8) h) = wk4 x0 x1 x4 x6p x6l x6c x7p x7l x7c x8 h K := (Ek4 S0 x0 x1 x4 x6p x6l x6c x7p x7l x7c x8 h K).trans (cg1 (fun q0 => Jk4 q0 x0 x1 x4 x6p x6l x6c x7p x7l x7c x8 h K) (by funext x0 x1 x4 x6p x6l x6c x7p x7l x7c x8 h; exact ex_congr fun m => eL4 K m x0 x1 x4 x6p x6l x6c x7p x7l x7c x8 h))
def w (x0 : Addr) (x1 : Int) (h : Heap) (K : KK) : Prop :=
  J0 (fun x0 x1 x4 x6p x6l x6c x7p x7l x7c x8 h => wk4 x0 x1 x4 x6p x6l x6c x7p x7l x7c x8 h K) x0 x1 h K
theorem e0 (K : KK) (x0 : Addr) (x1 : Int) (h : Heap) : (E Tryz.prog X T S0 body (fin Tryz.prog Tryz.f29.results.toList K) (args0 0 [(.pointer (some x0)), (.int .u32 x1)]) h) = w x0 x1 h K := (E0 S0 x0 x1 h K).trans (cg1 (fun q0 => J0 q0 x0 x1 h K) (by funext x0 x1 x4 x6p x6l x6c x7p x7l x7c x8 h; exact ek4 K x0 x1 x4 x6p x6l x6c x7p x7l x7c x8 h))
theorem hb : Tryz.f29.body = some body := by kernel_rfl
theorem ok : okCode T Tryz.f29.ntmps body = true := by kernel_rfl
theorem spec (x0 : Addr) (x1 : Int) (h : Heap) (K : KK) (H : w x0 x1 h K) : CallsH Tryz.prog 29 [(.pointer (some x0)), (.int .u32 x1)] h K :=
  calls_of_E (T := T) Xok mix Tryz.func29 hb ok rfl (by rw [e0]; exact H)
end F29
end Go.Proofs.YtnofenejoebkhaaGreat.Ev
/- PRINTED BY PROGRAM: what each of these functions does, computed over heaps by the evaluator, and that its calls do so. Conditions: none. -/
namespace Go.Proofs.YtnofenejoebkhaaGreat.Ev
open Go
-- spinney/spinneyref3.Ite
namespace F131
def T : Hint := ⟨[], [(1, [[(0, []), (1, []), (3, []), (5, []), (2, [3, 5]), (4, [5]), (6, []), (7, []), (8, [])]])]⟩
noncomputable def body : Code := (Tryz.f131.body).getD .skip
def J0 (x0_0 x0_1 x0_2 x0_3 x1_0 x1_1 x1_2 x1_3 x2_0 x2_1 x2_2 x2_3 : Int) (h : Heap) (K : KK) : Prop :=
  newK h (.cells #[(.int .u64 x0_0), (.int .u64 x0_1), (.int .u64 x0_2), (.int .u64 x0_3)] 51) (fun b1 h2 => newK h2 (.cells #[(.int .u64 x1_0), (.int .u64 x1_1), (.int .u64 x1_2), (.int .u64 x1_3)] 51) (fun b3 h4 => newK h4 (.cells #[(.int .u64 x2_0), (.int .u64 x2_1), (.int .u64 x2_2), (.int .u64 x2_3)] 51) (fun b5 h6 => newK h6 (.cells #[(.int .u64 (0 : Int)), (.int .u64 (0 : Int)), (.int .u64 (0 : Int)), (.int .u64 (0 : Int))] 51) (fun b7 h8 => ldI .u64 (rd h8 (Addr.add (Addr.mk b1 0 none) 0)) (fun n9 => ldI .u64 (rd h8 (Addr.add (Addr.mk b1 0 none) 1)) (fun n10 => ldI .u64 (rd h8 (Addr.add (Addr.mk b1 0 none) 2)) (fun n11 => ldI .u64 (rd h8 (Addr.add (Addr.mk b1 0 none) 3)) (fun n12 => ldI .u64 (rd h8 (Addr.add (Addr.mk b3 0 none) 0)) (fun n13 => ldI .u64 (rd h8 (Addr.add (Addr.mk b3 0 none) 1)) (fun n14 => ldI .u64 (rd h8 (Addr.add (Addr.mk b3 0 none) 2)) (fun n15 => ldI .u64 (rd h8 (Addr.add (Addr.mk b3 0 none) 3)) (fun n16 => ldI .u64 (rd h8 (Addr.add (Addr.mk b1 0 none) 0)) (fun n17 => ldI .u64 (rd h8 (Addr.add (Addr.mk b1 0 none) 1)) (fun n18 => ldI .u64 (rd h8 (Addr.add (Addr.mk b1 0 none) 2)) (fun n19 => ldI .u64 (rd h8 (Addr.add (Addr.mk b1 0 none) 3)) (fun n20 => ldI .u64 (rd h8 (Addr.add (Addr.mk b5 0 none) 0)) (fun n21 => ldI .u64 (rd h8 (Addr.add (Addr.mk b5 0 none) 1)) (fun n22 => ldI .u64 (rd h8 (Addr.add (Addr.mk b5 0 none) 2)) (fun n23 => ldI .u64 (rd h8 (Addr.add (Addr.mk b5 0 none) 3)) (fun n24 => CallsH Tryz.prog 145 [(.agg #[(.int .u64 n9), (.int .u64 n10), (.int .u64 n11), (.int .u64 n12)]), (.agg #[(.int .u64 n13), (.int .u64 n14), (.int .u64 n15), (.int .u64 n16)])] h8 (fun v25 h26 => (∃ n27 : Int, ∃ n28 : Int, ∃ n29 : Int, ∃ n30 : Int, v25 = (.agg #[(.int .u64 n27), (.int .u64 n28), (.int .u64 n29), (.int .u64 n30)]) ∧ ldI .u64 (rd h26 (Addr.add (Addr.mk b1 0 none) 0)) (fun n31 => ldI .u64 (rd h26 (Addr.add (Addr.mk b1 0 none) 1)) (fun n32 => ldI .u64 (rd h26 (Addr.add (Addr.mk b1 0 none) 2)) (fun n33 => ldI .u64 (rd h26 (Addr.add (Addr.mk b1 0 none) 3)) (fun n34 => ((.agg #[(.int .u64 n31), (.int .u64 n32), (.int .u64 n33), (.int .u64 n34)]) = ((.agg #[(.int .u64 n17), (.int .u64 n18), (.int .u64 n19), (.int .u64 n20)]) : Value) ∧ ldI .u64 (rd h26 (Addr.add (Addr.mk b5 0 none) 0)) (fun n35 => ldI .u64 (rd h26 (Addr.add (Addr.mk b5 0 none) 1)) (fun n36 => ldI .u64 (rd h26 (Addr.add (Addr.mk b5 0 none) 2)) (fun n37 => ldI .u64 (rd h26 (Addr.add (Addr.mk b5 0 none) 3)) (fun n38 => ((.agg #[(.int .u64 n35), (.int .u64 n36), (.int .u64 n37), (.int .u64 n38)]) = ((.agg #[(.int .u64 n21), (.int .u64 n22), (.int .u64 n23), (.int .u64 n24)]) : Value) ∧ CallsH Tryz.prog 86 [(.agg #[(.int .u64 n17), (.int .u64 n18), (.int .u64 n19), (.int .u64 n20)])] h26 (fun v39 h40 => (∃ n41 : Int, ∃ n42 : Int, ∃ n43 : Int, ∃ n44 : Int, v39 = (.agg #[(.int .u64 n41), (.int .u64 n42), (.int .u64 n43), (.int .u64 n44)]) ∧ ldI .u64 (rd h40 (Addr.add (Addr.mk b5 0 none) 0)) (fun n45 => ldI .u64 (rd h40 (Addr.add (Addr.mk b5 0 none) 1)) (fun n46 => ldI .u64 (rd h40 (Addr.add (Addr.mk b5 0 none) 2)) (fun n47 => ldI .u64 (rd h40 (Addr.add (Addr.mk b5 0 none) 3)) (fun n48 => ((.agg #[(.int .u64 n45), (.int .u64 n46), (.int .u64 n47), (.int .u64 n48)]) = ((.agg #[(.int .u64 n21), (.int .u64 n22), (.int .u64 n23), (.int .u64 n24)]) : Value) ∧ CallsH Tryz.prog 145 [(.agg #[(.int .u64 n41), (.int .u64 n42), (.int .u64 n43), (.int .u64 n44)]), (.agg #[(.int .u64 n21), (.int .u64 n22), (.int .u64 n23), (.int .u64 n24)])] h40 (fun v49 h50 => (∃ n51 : Int, ∃ n52 : Int, ∃ n53 : Int, ∃ n54 : Int, v49 = (.agg #[(.int .u64 n51), (.int .u64 n52), (.int .u64 n53), (.int .u64 n54)]) ∧ CallsH Tryz.prog 146 [(.agg #[(.int .u64 n27), (.int .u64 n28), (.int .u64 n29), (.int .u64 n30)]), (.agg #[(.int .u64 n51), (.int .u64 n52), (.int .u64 n53), (.int .u64 n54)])] h50 (fun v55 h56 => (∃ n57 : Int, ∃ n58 : Int, ∃ n59 : Int, ∃ n60 : Int, v55 = (.agg #[(.int .u64 n57), (.int .u64 n58), (.int .u64 n59), (.int .u64 n60)]) ∧ stK h56 (Addr.add (Addr.mk b7 0 none) 0) (.int .u64 n57) (fun h61 => stK h61 (Addr.add (Addr.mk b7 0 none) 1) (.int .u64 n58) (fun h62 => stK h62 (Addr.add (Addr.mk b7 0 none) 2) (.int .u64 n59) (fun h63 => stK h63 (Addr.add (Addr.mk b7 0 none) 3) (.int .u64 n60) (fun h64 => ldI .u64 (rd h64 (Addr.add (Addr.mk b7 0 none) 0)) (fun n65 => ldI .u64 (rd h64 (Addr.add (Addr.mk b7 0 none) 1)) (fun n66 => ldI .u64 (rd h64 (Addr.add (Addr.mk b7 0 none) 2)) (fun n67 => ldI .u64 (rd h64 (Addr.add (Addr.mk b7 0 none) 3)) (fun n68 => K (.agg #[(.int .u64 n65), (.int .u64 n66), (.int .u64 n67), (.int .u64 n68)]) h64)))))))))))))))))))))))))))))))))))))))))))))))))))
theorem E0 (S : Stop) (x0_0 x0_1 x0_2 x0_3 x1_0 x1_1 x1_2 x1_3 x2_0 x2_1 x2_2 x2_3 : Int) (h : Heap) (K : KK) : (E Tryz.prog X T S body (fin Tryz.prog Tryz.f131.results.toList K) (args0 0 [(.agg #[(.int .u64 x0_0), (.int .u64 x0_1), (.int .u64 x0_2), (.int .u64 x0_3)]), (.agg #[(.int .u64 x1_0), (.int .u64 x1_1), (.int .u64 x1_2), (.int .u64 x1_3)]), (.agg #[(.int .u64 x2_0), (.int .u64 x2_1), (.int .u64 x2_2), (.int .u64 x2_3)])]) h) = J0 x0_0 x0_1 x0_2 x0_3 x1_0 x1_1 x1_2 x1_3 x2_0 x2_1 x2_2 x2_3 h K := by kernel_rfl
def w (x0_0 x0_1 x0_2 x0_3 x1_0 x1_1 x1_2 x1_3 x2_0 x2_1 x2_2 x2_3 : Int) (h : Heap) (K : KK) : Prop :=
  J0 x0_0 x0_1 x0_2 x0_3 x1_0 x1_1 x1_2 x1_3 x2_0 x2_1 x2_2 x2_3 h K
theorem e0 (K : KK) (x0_0 x0_1 x0_2 x0_3 x1_0 x1_1 x1_2 x1_3 x2_0 x2_1 x2_2 x2_3 : Int) (h : Heap) : (E Tryz.prog X T S0 body (fin Tryz.prog Tryz.f131.results.toList K) (args0 0 [(.agg #[(.int .u64 x0_0), (.int .u64 x0_1), (.int .u64 x0_2), (.int .u64 x0_3)]), (.agg #[(.int .u64 x1_0), (.int .u64 x1_1), (.int .u64 x1_2), (.int .u64 x1_3)]), (.agg #[(.int .u64 x2_0), (.int .u64 x2_1), (.int .u64 x2_2), (.int .u64 x2_3)])]) h) = w x0_0 x0_1 x0_2 x0_3 x1_0 x1_1 x1_2 x1_3 x2_0 x2_1 x2_2 x2_3 h K := (E0 S0 x0_0 x0_1 x0_2 x0_3 x1_0 x1_1 x1_2 x1_3 x2_0 x2_1 x2_2 x2_3 h K).trans (rfl)
theorem hb : Tryz.f131.body = some body := by kernel_rfl
theorem ok : okCode T Tryz.f131.ntmps body = true := by kernel_rfl
theorem spec (x0_0 : Int) (x0_1 : Int) (x0_2 : Int) (x0_3 : Int) (x1_0 : Int) (x1_1 : Int) (x1_2 : Int) (x1_3 : Int) (x2_0 : Int) (x2_1 : Int) (x2_2 : Int) (x2_3 : Int) (h : Heap) (K : KK) (H : w x0_0 x0_1 x0_2 x0_3 x1_0 x1_1 x1_2 x1_3 x2_0 x2_1 x2_2 x2_3 h K) : CallsH Tryz.prog 131 [(.agg #[(.int .u64 x0_0), (.int .u64 x0_1), (.int .u64 x0_2), (.int .u64 x0_3)]), (.agg #[(.int .u64 x1_0), (.int .u64 x1_1), (.int .u64 x1_2), (.int .u64 x1_3)]), (.agg #[(.int .u64 x2_0), (.int .u64 x2_1), (.int .u64 x2_2), (.int .u64 x2_3)])] h K :=
  calls_of_E (T := T) Xok mix Tryz.func131 hb ok rfl (by rw [e0]; exact H)
end F131
-- spinney/spinneyref3.And
namespace F145
def T : Hint := ⟨[(2, [2, 3, 4, 5])], [(4, [[(0, []), (1, []), (2, []), (3, []), (4, []), (5, []), (6, []), (7, []), (8, []), (9, [])]])]⟩
noncomputable def body : Code := (Tryz.f145.body).getD .skip
noncomputable def en (S : Stop) (p : List Nat) (κ : XK) : Fr → Heap → Prop := E Tryz.prog X T S (sub body p) κ
noncomputable def ln (S : Stop) (p : List Nat) (κ : XK) (n : Nat) : Fr → Heap → Prop := loopN S (E Tryz.prog X T S (sub body p)) (cutQ T (sub body p)) κ n
def fn (K : KK) : XK := fin Tryz.prog Tryz.f145.results.toList K
noncomputable def c0 (S : Stop) (K : KK) : XK := seqN S (cutQ T (sub body [1, 1])) (en S [1, 1] (fn K)) (fn K)
noncomputable def c1 (S : Stop) (K : KK) : XK := blockN 0 (c0 S K)
noncomputable def c2 (S : Stop) (n2 : Nat) (K : KK) : XK := backN S (cutQ T (sub body [1, 0, 1, 0, 0])) (ln S [1, 0, 1, 0, 0] (c1 S K) n2) (c1 S K)
def f2 (x2 x3 x4 : Addr) (x5 : Int) : Fr := [(2, (.pointer (some x2))), (3, (.pointer (some x3))), (4, (.pointer (some x4))), (5, (.int .i64 x5))]
def J0 (k2 : Addr → Addr → Addr → Int → Heap → Prop) (x0_0 x0_1 x0_2 x0_3 x1_0 x1_1 x1_2 x1_3 : Int) (h : Heap) (_K : KK) : Prop :=
  newK h (.cells #[(.int .u64 x0_0), (.int .u64 x0_1), (.int .u64 x0_2), (.int .u64 x0_3)] 51) (fun b1 h2 => newK h2 (.cells #[(.int .u64 x1_0), (.int .u64 x1_1), (.int .u64 x1_2), (.int .u64 x1_3)] 51) (fun b3 h4 => newK h4 (.cells #[(.int .u64 (0 : Int)), (.int .u64 (0 : Int)), (.int .u64 (0 : Int)), (.int .u64 (0 : Int))] 51) (fun b5 h6 => k2 (Addr.mk b1 0 none) (Addr.mk b3 0 none) (Addr.mk b5 0 none) (0 : Int) h6)))
theorem E0 (S : Stop) (x0_0 x0_1 x0_2 x0_3 x1_0 x1_1 x1_2 x1_3 : Int) (h : Heap) (K : KK) : (E Tryz.prog X T S body (fin Tryz.prog Tryz.f145.results.toList K) (args0 0 [(.agg #[(.int .u64 x0_0), (.int .u64 x0_1), (.int .u64 x0_2), (.int .u64 x0_3)]), (.agg #[(.int .u64 x1_0), (.int .u64 x1_1), (.int .u64 x1_2), (.int .u64 x1_3)])]) h) = J0 (fun x2 x3 x4 x5 h => S (en S [1, 0, 1] (c0 S K)) (f2 x2 x3 x4 x5) h) x0_0 x0_1 x0_2 x0_3 x1_0 x1_1 x1_2 x1_3 h K := by kernel_rfl
def Jk2 (lp2 : Addr → Addr → Addr → Int → Heap → Prop) (x2 x3 x4 : Addr) (x5 : Int) (h : Heap) (_K : KK) : Prop :=
  lp2 x2 x3 x4 x5 h
theorem Ek2 (S : Stop) (x2 x3 x4 : Addr) (x5 : Int) (h : Heap) (K : KK) : (en S [1, 0, 1] (c0 S K) (f2 x2 x3 x4 x5) h) = Jk2 (fun x2 x3 x4 x5 h => ∃ n, S (ln S [1, 0, 1, 0, 0] (c1 S K) n) (f2 x2 x3 x4 x5) h) x2 x3 x4 x5 h K := by kernel_rfl
def JL2 (bk2 : Addr → Addr → Addr → Int → Heap → Prop) (x2 x3 x4 : Addr) (x5 : Int) (h : Heap) (K : KK) : Prop :=
  bcase (decide (x5 < (4 : Int))) ((0 ≤ x5 ∧ x5 < (Nat.cast 4 : Int) ∧ ldI .u64 (rd h (Addr.add x2 (Int.toNat x5 * 1))) (fun n1 => (0 ≤ x5 ∧ x5 < (Nat.cast 4 : Int) ∧ ldI .u64 (rd h (Addr.add x3 (Int.toNat x5 * 1))) (fun n2 => (0 ≤ x5 ∧ x5 < (Nat.cast 4 : Int) ∧ stK h (Addr.add (Addr.add x2 (Int.toNat x5 * 1)) 0) (.int .u64 (bitsI .and .u64 n1 n2)) (fun h3 => bk2 x2 x3 x4 (IntKind.wrap .i64 (x5 + (1 : Int))) h3))))))) (ldI .u64 (rd h (Addr.add x2 0)) (fun n4 => ldI .u64 (rd h (Addr.add x2 1)) (fun n5 => ldI .u64 (rd h (Addr.add x2 2)) (fun n6 => ldI .u64 (rd h (Addr.add x2 3)) (fun n7 => stK h (Addr.add x4 0) (.int .u64 n4) (fun h8 => stK h8 (Addr.add x4 1) (.int .u64 n5) (fun h9 => stK h9 (Addr.add x4 2) (.int .u64 n6) (fun h10 => stK h10 (Addr.add x4 3) (.int .u64 n7) (fun h11 => ldI .u64 (rd h11 (Addr.add x4 0)) (fun n12 => ldI .u64 (rd h11 (Addr.add x4 1)) (fun n13 => ldI .u64 (rd h11 (Addr.add x4 2)) (fun n14 => ldI .u64 (rd h11 (Addr.add x4 3)) (fun n15 => K (.agg #[(.int .u64 n12), (.int .u64 n13), (.int .u64 n14), (.int .u64 n15)]) h11)))))))))))))
theorem EL2 (S : Stop) (n2 : Nat) (x2 x3 x4 : Addr) (x5 : Int) (h : Heap) (K : KK) : (en S [1, 0, 1, 0, 0] (c2 S n2 K) (f2 x2 x3 x4 x5) h) = JL2 (fun x2 x3 x4 x5 h => S (ln S [1, 0, 1, 0, 0] (c1 S K) n2) (f2 x2 x3 x4 x5) h) x2 x3 x4 x5 h K := by kernel_rfl
def wL2 : Nat → Addr → Addr → Addr → Int → Heap → KK → Prop
  | 0, _, _, _, _, _, _ => False
  | n + 1, x2, x3, x4, x5, h, K => JL2 (fun x2 x3 x4 x5 h => wL2 n x2 x3 x4 x5 h K) x2 x3 x4 x5 h K
theorem eL2 (K : KK) : ∀ (n : Nat) (x2 x3 x4 : Addr) (x5 : Int) (h : Heap), (ln S0 [1, 0, 1, 0, 0] (c1 S0 K) n (f2 x2 x3 x4 x5) h) = wL2 n x2 x3 x4 x5 h K
  | 0, _, _, _, _, _ => rfl
  | n + 1, x2, x3, x4, x5, h => (EL2 S0 n x2 x3 x4 x5 h K).trans (cg1 (fun q0 => JL2 q0 x2 x3 x4 x5 h K) (by funext x2 x3 x4 x5 h; exact (fun x2 x3 x4 x5 h => eL2 K n x2 x3 x4 x5 h) x2 x3 x4 x5 h))
def wk2 (x2 x3 x4 : Addr) (x5 : Int) (h : Heap) (K : KK) : Prop :=
  Jk2 (fun x2 x3 x4 x5 h => ∃ m, wL2 m x2 x3 x4 x5 h K) x2 x3 x4 x5 h K
theorem ek2 (K : KK) (x2 x3 x4 : Addr) (x5 : Int) (h : Heap) : (en S0 [1, 0, 1] (c0 S0 K) (f2 x2 x3 x4 x5) h) = wk2 x2 x3 x4 x5 h K := (Ek2 S0 x2 x3 x4 x5 h K).trans (cg1 (fun q0 => Jk2 q0 x2 x3 x4 x5 h K) (by funext x2 x3 x4 x5 h; exact ex_congr fun m => eL2 K m x2 x3 x4 x5 h))
def w (x0_0 x0_1 x0_2 x0_3 x1_0 x1_1 x1_2 x1_3 : Int) (h : Heap) (K : KK) : Prop :=
  J0 (fun x2 x3 x4 x5 h => wk2 x2 x3 x4 x5 h K) x0_0 x0_1 x0_2 x0_3 x1_0 x1_1 x1_2 x1_3 h K
theorem e0 (K : KK) (x0_0 x0_1 x0_2 x0_3 x1_0 x1_1 x1_2 x1_3 : Int) (h : Heap) : (E Tryz.prog X T S0 body (fin Tryz.prog Tryz.f145.results.toList K) (args0 0 [(.agg #[(.int .u64 x0_0), (.int .u64 x0_1), (.int .u64 x0_2), (.int .u64 x0_3)]), (.agg #[(.int .u64 x1_0), (.int .u64 x1_1), (.int .u64 x1_2), (.int .u64 x1_3)])]) h) = w x0_0 x0_1 x0_2 x0_3 x1_0 x1_1 x1_2 x1_3 h K := (E0 S0 x0_0 x0_1 x0_2 x0_3 x1_0 x1_1 x1_2 x1_3 h K).trans (cg1 (fun q0 => J0 q0 x0_0 x0_1 x0_2 x0_3 x1_0 x1_1 x1_2 x1_3 h K) (by funext x2 x3 x4 x5 h; exact ek2 K x2 x3 x4 x5 h))
theorem hb : Tryz.f145.body = some body := by kernel_rfl
theorem ok : okCode T Tryz.f145.ntmps body = true := by kernel_rfl
theorem spec (x0_0 : Int) (x0_1 : Int) (x0_2 : Int) (x0_3 : Int) (x1_0 : Int) (x1_1 : Int) (x1_2 : Int) (x1_3 : Int) (h : Heap) (K : KK) (H : w x0_0 x0_1 x0_2 x0_3 x1_0 x1_1 x1_2 x1_3 h K) : CallsH Tryz.prog 145 [(.agg #[(.int .u64 x0_0), (.int .u64 x0_1), (.int .u64 x0_2), (.int .u64 x0_3)]), (.agg #[(.int .u64 x1_0), (.int .u64 x1_1), (.int .u64 x1_2), (.int .u64 x1_3)])] h K :=
  calls_of_E (T := T) Xok mix Tryz.func145 hb ok rfl (by rw [e0]; exact H)
end F145
-- spinney/spinneyref3.Not
namespace F86
def T : Hint := ⟨[(2, [1, 2, 3])], []⟩
noncomputable def body : Code := (Tryz.f86.body).getD .skip
noncomputable def en (S : Stop) (p : List Nat) (κ : XK) : Fr → Heap → Prop := E Tryz.prog X T S (sub body p) κ
noncomputable def ln (S : Stop) (p : List Nat) (κ : XK) (n : Nat) : Fr → Heap → Prop := loopN S (E Tryz.prog X T S (sub body p)) (cutQ T (sub body p)) κ n
def fn (K : KK) : XK := fin Tryz.prog Tryz.f86.results.toList K
noncomputable def c0 (S : Stop) (K : KK) : XK := seqN S (cutQ T (sub body [1, 1])) (en S [1, 1] (fn K)) (fn K)
noncomputable def c1 (S : Stop) (K : KK) : XK := blockN 0 (c0 S K)
noncomputable def c2 (S : Stop) (n2 : Nat) (K : KK) : XK := backN S (cutQ T (sub body [1, 0, 1, 0, 0])) (ln S [1, 0, 1, 0, 0] (c1 S K) n2) (c1 S K)
def f2 (x1 x2 : Addr) (x3 : Int) : Fr := [(1, (.pointer (some x1))), (2, (.pointer (some x2))), (3, (.int .i64 x3))]
def J0 (k2 : Addr → Addr → Int → Heap → Prop) (x0_0 x0_1 x0_2 x0_3 : Int) (h : Heap) (_K : KK) : Prop :=
  newK h (.cells #[(.int .u64 x0_0), (.int .u64 x0_1), (.int .u64 x0_2), (.int .u64 x0_3)] 51) (fun b1 h2 => newK h2 (.cells #[(.int .u64 (0 : Int)), (.int .u64 (0 : Int)), (.int .u64 (0 : Int)), (.int .u64 (0 : Int))] 51) (fun b3 h4 => k2 (Addr.mk b1 0 none) (Addr.mk b3 0 none) (0 : Int) h4))
theorem E0 (S : Stop) (x0_0 x0_1 x0_2 x0_3 : Int) (h : Heap) (K : KK) : (E Tryz.prog X T S body (fin Tryz.prog Tryz.f86.results.toList K) (args0 0 [(.agg #[(.int .u64 x0_0), (.int .u64 x0_1), (.int .u64 x0_2), (.int .u64 x0_3)])]) h) = J0 (fun x1 x2 x3 h => S (en S [1, 0, 1] (c0 S K)) (f2 x1 x2 x3) h) x0_0 x0_1 x0_2 x0_3 h K := by kernel_rfl
def Jk2 (lp2 : Addr → Addr → Int → Heap → Prop) (x1 x2 : Addr) (x3 : Int) (h : Heap) (_K : KK) : Prop :=
  lp2 x1 x2 x3 h
theorem Ek2 (S : Stop) (x1 x2 : Addr) (x3 : Int) (h : Heap) (K : KK) : (en S [1, 0, 1] (c0 S K) (f2 x1 x2 x3) h) = Jk2 (fun x1 x2 x3 h => ∃ n, S (ln S [1, 0, 1, 0, 0] (c1 S K) n) (f2 x1 x2 x3) h) x1 x2 x3 h K := by kernel_rfl
def JL2 (bk2 : Addr → Addr → Int → Heap → Prop) (x1 x2 : Addr) (x3 : Int) (h : Heap) (K : KK) : Prop :=
  bcase (decide (x3 < (4 : Int))) ((0 ≤ x3 ∧ x3 < (Nat.cast 4 : Int) ∧ ldI .u64 (rd h (Addr.add x1 (Int.toNat x3 * 1))) (fun n1 => (0 ≤ x3 ∧ x3 < (Nat.cast 4 : Int) ∧ stK h (Addr.add (Addr.add x1 (Int.toNat x3 * 1)) 0) (.int .u64 (bitsI .xor .u64 (if IntKind.signed .u64 then -1 else IntKind.max .u64) n1)) (fun h2 => bk2 x1 x2 (IntKind.wrap .i64 (x3 + (1 : Int))) h2))))) (ldI .u64 (rd h (Addr.add x1 0)) (fun n3 => ldI .u64 (rd h (Addr.add x1 1)) (fun n4 => ldI .u64 (rd h (Addr.add x1 2)) (fun n5 => ldI .u64 (rd h (Addr.add x1 3)) (fun n6 => stK h (Addr.add x2 0) (.int .u64 n3) (fun h7 => stK h7 (Addr.add x2 1) (.int .u64 n4) (fun h8 => stK h8 (Addr.add x2 2) (.int .u64 n5) (fun h9 => stK h9 (Addr.add x2 3) (.int .u64 n6) (fun h10 => ldI .u64 (rd h10 (Addr.add x2 0)) (fun n11 => ldI .u64 (rd h10 (Addr.add x2 1)) (fun n12 => ldI .u64 (rd h10 (Addr.add x2 2)) (fun n13 => ldI .u64 (rd h10 (Addr.add x2 3)) (fun n14 => K (.agg #[(.int .u64 n11), (.int .u64 n12), (.int .u64 n13), (.int .u64 n14)]) h10)))))))))))))
theorem EL2 (S : Stop) (n2 : Nat) (x1 x2 : Addr) (x3 : Int) (h : Heap) (K : KK) : (en S [1, 0, 1, 0, 0] (c2 S n2 K) (f2 x1 x2 x3) h) = JL2 (fun x1 x2 x3 h => S (ln S [1, 0, 1, 0, 0] (c1 S K) n2) (f2 x1 x2 x3) h) x1 x2 x3 h K := by kernel_rfl
def wL2 : Nat → Addr → Addr → Int → Heap → KK → Prop
  | 0, _, _, _, _, _ => False
  | n + 1, x1, x2, x3, h, K => JL2 (fun x1 x2 x3 h => wL2 n x1 x2 x3 h K) x1 x2 x3 h K
theorem eL2 (K : KK) : ∀ (n : Nat) (x1 x2 : Addr) (x3 : Int) (h : Heap), (ln S0 [1, 0, 1, 0, 0] (c1 S0 K) n (f2 x1 x2 x3) h) = wL2 n x1 x2 x3 h K
  | 0, _, _, _, _ => rfl
  | n + 1, x1, x2, x3, h => (EL2 S0 n x1 x2 x3 h K).trans (cg1 (fun q0 => JL2 q0 x1 x2 x3 h K) (by funext x1 x2 x3 h; exact (fun x1 x2 x3 h => eL2 K n x1 x2 x3 h) x1 x2 x3 h))
def wk2 (x1 x2 : Addr) (x3 : Int) (h : Heap) (K : KK) : Prop :=
  Jk2 (fun x1 x2 x3 h => ∃ m, wL2 m x1 x2 x3 h K) x1 x2 x3 h K
theorem ek2 (K : KK) (x1 x2 : Addr) (x3 : Int) (h : Heap) : (en S0 [1, 0, 1] (c0 S0 K) (f2 x1 x2 x3) h) = wk2 x1 x2 x3 h K := (Ek2 S0 x1 x2 x3 h K).trans (cg1 (fun q0 => Jk2 q0 x1 x2 x3 h K) (by funext x1 x2 x3 h; exact ex_congr fun m => eL2 K m x1 x2 x3 h))
def w (x0_0 x0_1 x0_2 x0_3 : Int) (h : Heap) (K : KK) : Prop :=
  J0 (fun x1 x2 x3 h => wk2 x1 x2 x3 h K) x0_0 x0_1 x0_2 x0_3 h K
theorem e0 (K : KK) (x0_0 x0_1 x0_2 x0_3 : Int) (h : Heap) : (E Tryz.prog X T S0 body (fin Tryz.prog Tryz.f86.results.toList K) (args0 0 [(.agg #[(.int .u64 x0_0), (.int .u64 x0_1), (.int .u64 x0_2), (.int .u64 x0_3)])]) h) = w x0_0 x0_1 x0_2 x0_3 h K := (E0 S0 x0_0 x0_1 x0_2 x0_3 h K).trans (cg1 (fun q0 => J0 q0 x0_0 x0_1 x0_2 x0_3 h K) (by funext x1 x2 x3 h; exact ek2 K x1 x2 x3 h))
theorem hb : Tryz.f86.body = some body := by kernel_rfl
theorem ok : okCode T Tryz.f86.ntmps body = true := by kernel_rfl
theorem spec (x0_0 : Int) (x0_1 : Int) (x0_2 : Int) (x0_3 : Int) (h : Heap) (K : KK) (H : w x0_0 x0_1 x0_2 x0_3 h K) : CallsH Tryz.prog 86 [(.agg #[(.int .u64 x0_0), (.int .u64 x0_1), (.int .u64 x0_2), (.int .u64 x0_3)])] h K :=
  calls_of_E (T := T) Xok mix Tryz.func86 hb ok rfl (by rw [e0]; exact H)
end F86
end Go.Proofs.YtnofenejoebkhaaGreat.Ev
/- FUNCTIONS AS TABLES (package spinneyref3): And, Not, Ite. Conditions: the words are words. -/
namespace Go.Proofs.YtnofenejoebkhaaGreat.Ev
open Go
def anTo (f g : Nat → Nat) (i j : Nat) : Nat := if j < i then f j &&& g j else f j
def noTo (f : Nat → Nat) (i j : Nat) : Nat := if j < i then (U64 - 1) ^^^ f j else f j
theorem anTo_ok {f g : Nat → Nat} (hf : WOk f) (_hg : WOk g) (i : Nat) : WOk (anTo f g i) := fun j hj => by
  unfold anTo
  split
  · exact Nat.lt_of_le_of_lt Nat.and_le_left (hf j hj)
  · exact hf j hj
theorem anTo_fb (f g : Nat → Nat) {y : Nat} (hy : y < 256) : fb (anTo f g 4) y = (fb f y && fb g y) := by
  unfold fb anTo
  rw [if_pos (by omega), Nat.testBit_and]
theorem u64_bit {k : Nat} (hk : k < 64) : (U64 - 1).testBit k = true := by
  rw [show U64 - 1 = 2 ^ 64 - 1 from rfl, Nat.testBit_two_pow_sub_one]
  simp [hk]
theorem noTo_ok {f : Nat → Nat} (hf : WOk f) (i : Nat) : WOk (noTo f i) := fun j hj => by
  unfold noTo
  split
  · have := hf j hj
    rw [show U64 = 2 ^ 64 from rfl] at this ⊢
    exact Nat.xor_lt_two_pow (by decide) this
  · exact hf j hj
theorem noTo_fb {f : Nat → Nat} (_hf : WOk f) {y : Nat} (hy : y < 256) : fb (noTo f 4) y = !fb f y := by
  unfold fb noTo
  rw [if_pos (by omega), Nat.testBit_xor, u64_bit (by omega)]
  simp
theorem bxor64 {a b : Nat} (ha : a < U64) (hb : b < U64) : bitsI .xor .u64 (a : Int) (b : Int) = ((a ^^^ b : Nat) : Int) := by
  unfold bitsI
  show IntKind.wrap .u64 ((BitVec.ofInt 64 (a : Int) ^^^ BitVec.ofInt 64 (b : Int)).toNat : Int) = _
  have e : ∀ {a : Nat}, a < U64 → (BitVec.ofInt 64 (a : Int)).toNat = a := fun {a} h => by
    rw [BitVec.toNat_ofInt]
    unfold U64 at h
    omega
  rw [BitVec.toNat_xor, e ha, e hb]
  exact wrapU (by rw [show U64 = 2 ^ 64 from rfl] at ha hb ⊢; exact Nat.xor_lt_two_pow ha hb)
set_option maxRecDepth 100000 in
theorem and145 {h : Heap} {f g : Nat → Nat} {K : Value → Heap → Prop} (hf : WOk f) (hg : WOk g) (hK : ∀ h' k, WOk k → (∀ y, y < 256 → fb k y = (fb f y && fb g y)) → Only [] h h' → K (aggW k) h') : CallsH Tryz.prog 145 [aggW f, aggW g] h K := by
  refine F145.spec _ _ _ _ _ _ _ _ h K ?_
  unfold F145.w F145.J0
  refine newK_at fun h1 A1 O1 z1 => newK_at fun h2 A2 O2 z2 => newK_at fun h3 A3 O3 z3 => ?_
  replace A1 : At h1 h.size (wrow f) := A1
  replace A2 : At h2 h1.size (wrow g) := A2
  replace A3 : At h3 h2.size (wrow fun _ => 0) := A3
  have B1 := (A1.only O2 (by simp)).only O3 (by simp)
  have B2 := A2.only O3 (by simp)
  have O13 : Only [] h h3 := (O1.trans O2 (by simp)).trans O3 (by simp)
  unfold F145.wk2 F145.Jk2
  have main : ∀ (d i : Nat) (h' : Heap), i + d = 4 → At h' h.size (wrow (anTo f g i)) → At h' h1.size (wrow g) → At h' h2.size (wrow fun _ => 0) → Only [] h h' →
      F145.wL2 (d + 1) ⟨h.size, 0, none⟩ ⟨h1.size, 0, none⟩ ⟨h2.size, 0, none⟩ i h' K := by
    intro d
    induction d with
    | zero =>
      intro i h' hd A B C O
      unfold F145.wL2 F145.JL2
      rw [show decide ((i : Int) < 4) = false by simp; omega, bcase_false]
      have hi : i = 4 := by omega
      subst hi
      exact copy4 A C (by omega) fun h'' O'' => hK h'' _ (anTo_ok hf hg 4) (fun y hy => anTo_fb f g hy) (O.trans O'' (by intro b hb hlt; simp at hb; omega))
    | succ d ih =>
      intro i h' hd A B C O
      unfold F145.wL2 F145.JL2
      have hi : i < 4 := by omega
      rw [show decide ((i : Int) < 4) = true by simp; omega, bcase_true, show IntKind.wrap .i64 ((i : Int) + 1) = ((i + 1 : Nat) : Int) by rw [wrap_i64 (by omega) (by omega)]; omega]
      refine ⟨by omega, by omega, ?_⟩
      rw [add_mk, add_mk, show 0 + Int.toNat (i : Int) * 1 = i by omega, wr_rd A hi, ldI_some]
      refine ⟨by omega, by omega, ?_⟩
      rw [wr_rd B hi, ldI_some]
      refine ⟨by omega, by omega, ?_⟩
      have e0 : anTo f g i i = f i := if_neg (by omega)
      rw [add_mk, Nat.add_zero, e0, band (hf i hi) (hg i hi)]
      refine wr_st A hi fun h'' A'' O'' => ih (i + 1) h'' (by omega) ?_ (B.only O'' (by simp; omega)) (C.only O'' (by simp; omega)) (O.trans O'' (by intro b hb hlt; simp at hb; omega))
      have e : (fun j => if j = i then f i &&& g i else anTo f g i j) = anTo f g (i + 1) := by
        funext j
        unfold anTo
        by_cases hj : j = i
        · subst hj; rw [if_pos rfl, if_pos (by omega)]
        · rw [if_neg hj]
          by_cases hl : j < i
          · rw [if_pos hl, if_pos (by omega)]
          · rw [if_neg hl, if_neg (by omega)]
      rw [e] at A''
      exact A''
  have e0 : anTo f g 0 = f := by funext j; unfold anTo; rw [if_neg (by omega)]
  exact ⟨_, main 4 0 h3 (by omega) (by rw [e0]; exact B1) B2 A3 O13⟩
set_option maxRecDepth 100000 in
theorem not86 {h : Heap} {f : Nat → Nat} {K : Value → Heap → Prop} (hf : WOk f) (hK : ∀ h' k, WOk k → (∀ y, y < 256 → fb k y = !fb f y) → Only [] h h' → K (aggW k) h') : CallsH Tryz.prog 86 [aggW f] h K := by
  refine F86.spec _ _ _ _ h K ?_
  unfold F86.w F86.J0
  refine newK_at fun h1 A1 O1 z1 => newK_at fun h2 A2 O2 z2 => ?_
  replace A1 : At h1 h.size (wrow f) := A1
  replace A2 : At h2 h1.size (wrow fun _ => 0) := A2
  have B1 := A1.only O2 (by simp)
  have O12 : Only [] h h2 := O1.trans O2 (by simp)
  unfold F86.wk2 F86.Jk2
  have main : ∀ (d i : Nat) (h' : Heap), i + d = 4 → At h' h.size (wrow (noTo f i)) → At h' h1.size (wrow fun _ => 0) → Only [] h h' →
      F86.wL2 (d + 1) ⟨h.size, 0, none⟩ ⟨h1.size, 0, none⟩ i h' K := by
    intro d
    induction d with
    | zero =>
      intro i h' hd A C O
      unfold F86.wL2 F86.JL2
      rw [show decide ((i : Int) < 4) = false by simp; omega, bcase_false]
      have hi : i = 4 := by omega
      subst hi
      exact copy4 A C (by omega) fun h'' O'' => hK h'' _ (noTo_ok hf 4) (fun y hy => noTo_fb hf hy) (O.trans O'' (by intro b hb hlt; simp at hb; omega))
    | succ d ih =>
      intro i h' hd A C O
      unfold F86.wL2 F86.JL2
      have hi : i < 4 := by omega
      rw [show decide ((i : Int) < 4) = true by simp; omega, bcase_true, show IntKind.wrap .i64 ((i : Int) + 1) = ((i + 1 : Nat) : Int) by rw [wrap_i64 (by omega) (by omega)]; omega]
      refine ⟨by omega, by omega, ?_⟩
      rw [add_mk, show 0 + Int.toNat (i : Int) * 1 = i by omega, wr_rd A hi, ldI_some]
      refine ⟨by omega, by omega, ?_⟩
      have e0 : noTo f i i = f i := if_neg (by omega)
      rw [add_mk, Nat.add_zero, e0, show (if IntKind.signed .u64 then (-1 : Int) else IntKind.max .u64) = ((U64 - 1 : Nat) : Int) from rfl, bxor64 (by unfold U64; omega) (hf i hi)]
      refine wr_st A hi fun h'' A'' O'' => ih (i + 1) h'' (by omega) ?_ (C.only O'' (by simp; omega)) (O.trans O'' (by intro b hb hlt; simp at hb; omega))
      have e : (fun j => if j = i then (U64 - 1) ^^^ f i else noTo f i j) = noTo f (i + 1) := by
        funext j
        unfold noTo
        by_cases hj : j = i
        · subst hj; rw [if_pos rfl, if_pos (by omega)]
        · rw [if_neg hj]
          by_cases hl : j < i
          · rw [if_pos hl, if_pos (by omega)]
          · rw [if_neg hl, if_neg (by omega)]
      rw [e] at A''
      exact A''
  have e0 : noTo f 0 = f := by funext j; unfold noTo; rw [if_neg (by omega)]
  exact ⟨_, main 4 0 h2 (by omega) (by rw [e0]; exact B1) A2 O12⟩
set_option maxRecDepth 100000 in
theorem ite131 {h : Heap} {f g k : Nat → Nat} {K : Value → Heap → Prop} (hf : WOk f) (hg : WOk g) (hk : WOk k) (hK : ∀ h' r, WOk r → (∀ y, y < 256 → fb r y = if fb f y then fb g y else fb k y) → Only [] h h' → K (aggW r) h') : CallsH Tryz.prog 131 [aggW f, aggW g, aggW k] h K := by
  refine F131.spec _ _ _ _ _ _ _ _ _ _ _ _ h K ?_
  unfold F131.w F131.J0
  refine newK_at fun h1 A1 O1 z1 => newK_at fun h2 A2 O2 z2 => newK_at fun h3 A3 O3 z3 => newK_at fun h4 A4 O4 z4 => ?_
  replace A1 : At h1 h.size (wrow f) := A1
  replace A2 : At h2 h1.size (wrow g) := A2
  replace A3 : At h3 h2.size (wrow k) := A3
  replace A4 : At h4 h3.size (wrow fun _ => 0) := A4
  have B1 := ((A1.only O2 (by simp)).only O3 (by simp)).only O4 (by simp)
  have B2 := (A2.only O3 (by simp)).only O4 (by simp)
  have B3 := A3.only O4 (by simp)
  have O14 : Only [] h h4 := ((O1.trans O2 (by simp)).trans O3 (by simp)).trans O4 (by simp)
  refine rd4 B1 (rd4 B2 (rd4 B1 (rd4 B3 ?_)))
  refine and145 hf hg fun h5 u hu eu O5 => ⟨_, _, _, _, rfl, ?_⟩
  refine rd4 (B1.only O5 (by simp)) ⟨rfl, ?_⟩
  have C3 := B3.only O5 (by simp)
  refine rd4 C3 ⟨rfl, ?_⟩
  refine not86 hf fun h6 v hv ev O6 => ⟨_, _, _, _, rfl, ?_⟩
  refine rd4 (C3.only O6 (by simp)) ⟨rfl, ?_⟩
  refine and145 hv hk fun h7 w hw ew O7 => ⟨_, _, _, _, rfl, ?_⟩
  refine or27 hu hw fun h8 r hr er O8 => ⟨_, _, _, _, rfl, ?_⟩
  have O58 : Only [] h4 h8 := ((O5.trans O6 (by simp)).trans O7 (by simp)).trans O8 (by simp)
  refine wr_put (A4.only O58 (by simp)) fun h9 A9 O9 => ?_
  refine rd4 A9 (hK h9 r hr (fun y hy => ?_) ((O14.trans O58 (by simp)).trans O9 (by intro b hb hl; simp at hb; omega)))
  rw [er y hy, eu y hy, ew y hy, ev y hy]
  cases fb f y <;> simp
end Go.Proofs.YtnofenejoebkhaaGreat.Ev
/- A NODE'S FUNCTION AS A TABLE (package spinneyplay): walk, Func, Is. Conditions: the store stands (Sto). -/
namespace Go.Proofs.YtnofenejoebkhaaGreat.Ev
open Go
/-- a row of tables -/
structure Vrs (h : Heap) (b n : Nat) (f : Nat → Nat) (gs : Nat → Nat → Nat) : Prop where
  rd : ∀ k i, k < n → i < 4 → Ev.rd h ⟨b, k * 4 + i, none⟩ = some (.int .u64 (gs k i : Int))
  ok : ∀ k, k < n → WOk (gs k)
  fb : ∀ k, k < n → ∀ y, y < 256 → Ev.fb (gs k) y = y.testBit (f k)
theorem Vrs.only {h h' : Heap} {b n : Nat} {f : Nat → Nat} {gs : Nat → Nat → Nat} (H : Vrs h b n f gs) (O : Only [] h h') : Vrs h' b n f gs :=
  ⟨fun k i hk hi => rd_only (H.rd k i hk hi) O (by simp), H.ok, H.fb⟩
theorem z4ok : WOk fun _ => 0 := fun i _ => by show 0 < U64; unfold U64; omega
section
variable {h : Heap} {s a : Nat} {L : List Nat} {X : SX} {K : Value → Heap → Prop}
theorem eq0_cast {a : Nat} : ((a : Int) == (0 : Int)) = decide (a = 0) := by
  by_cases h : a = 0
  · subst h; rfl
  · rw [decide_eq_false h]; simp [h]
theorem eq1_cast {a : Nat} : ((a : Int) == (1 : Int)) = decide (a = 1) := by
  by_cases h : a = 1
  · subst h; rfl
  · rw [decide_eq_false h]; simp; omega
set_option maxRecDepth 100000 in
theorem walk83 {b vc : Nat} {gs : Nat → Nat → Nat} : ∀ (d : Nat) {h : Heap} {a deep : Nat} {K : Value → Heap → Prop}, X.n - lvl X.n X.N a ≤ d → Sto h s L X → Vrs h b X.n X.f gs → isN X.N a → deep ≤ lvl X.n X.N a →
    (∀ h' g, WOk g → (∀ y, y < 256 → fb g y = sm X.n X.f X.N a y) → Only [] h h' → K (.tuple #[aggW g, .bool true]) h') →
    CallsH Tryz.prog 83 [.pointer (some ⟨s, 0, none⟩), .int .u32 (a : Int), .slice (some ⟨b, 0, none⟩) X.n vc, .int .i64 (deep : Int)] h K := by
  intro d
  have const : ∀ {h : Heap} {a deep : Nat} {K : Value → Heap → Prop}, a < 2 →
      (∀ h' g, WOk g → (∀ y, y < 256 → fb g y = sm X.n X.f X.N a y) → Only [] h h' → K (.tuple #[aggW g, .bool true]) h') →
      CallsH Tryz.prog 83 [.pointer (some ⟨s, 0, none⟩), .int .u32 (a : Int), .slice (some ⟨b, 0, none⟩) X.n vc, .int .i64 (deep : Int)] h K := by
    intro h a deep K hlt2 hK
    refine F83.spec _ _ _ _ _ _ h K ?_
    unfold F83.w F83.J0
    refine newK_at fun h1 A1 O1 z1 => ?_
    replace A1 : At h1 h.size (wrow fun _ => 0) := A1
    rw [eq0_cast, eq1_cast]
    refine bcase_of (fun e => ?_) fun e => ?_
    · have e := of_decide_eq_true e
      refine wr_put (g := fun _ => 0) A1 fun h2 A2 O2 => rd4 A2 (hK h2 (fun _ => 0) z4ok (fun y _ => ?_) (O1.trans O2 (by intro b hb hl; simp at hb; omega)))
      rw [sm_const hlt2, e]
      unfold fb
      simp
    · have e := of_decide_eq_false e
      rw [decide_eq_true (show a = 1 by omega), bcase_true]
      refine not86 (f := fun _ => 0) z4ok fun h2 g hg eg O2 => ⟨_, _, _, _, rfl, ?_⟩
      refine wr_put (A1.only O2 (by simp)) fun h3 A3 O3 => rd4 A3 (hK h3 g hg (fun y hy => ?_) ((O1.trans O2 (by simp)).trans O3 (by intro b hb hl; simp at hb; have := O2.size; omega)))
      rw [sm_const hlt2, eg y hy, show a = 1 by omega]
      unfold fb
      simp
  induction d with
  | zero =>
    intro h a deep K hd H V ha hdp hK
    refine const ?_ hK
    apply Classical.byContradiction
    intro hn
    have := (H.ok.1.at ha (by omega)).1
    omega
  | succ d ih =>
    intro h a deep K hd H V ha hdp hK
    by_cases h2 : a < 2
    · exact const h2 hK
    have ok := H.ok
    obtain ⟨h3, h4, h5, -, h6, h7⟩ := ok.1.at ha (by omega)
    have hn8 := ok.2.2.1
    refine F83.spec _ _ _ _ _ _ h K ?_
    unfold F83.w F83.J0
    refine newK_at fun h1 A1 O1 z1 => ?_
    replace A1 : At h1 h.size (wrow fun _ => 0) := A1
    rw [eq0_cast, eq1_cast, decide_eq_false (by omega), bcase_false, decide_eq_false (by omega), bcase_false]
    have H1 := H.only0 O1
    refine sto_level H1 ha (ldI_of rfl (sto_is1 H1 ha (ldB_of rfl ?_)))
    rw [Bool.not_true, bcase_false, decide_eq_false (by omega), bcase_false, decide_eq_false (by omega), bcase_false]
    have ew : IntKind.wrap .i64 ((lvl X.n X.N a : Int) + 1) = ((lvl X.n X.N a + 1 : Nat) : Int) := by rw [wrap_i64 (by omega) (by omega)]; omega
    rw [ew]
    refine sto_low H1 ha (ldI_of rfl ?_)
    refine ih (by omega) H1 (V.only O1) h4 (by omega) fun h2 g0 hg0 eg0 O2 => ⟨_, _, _, _, _, rfl, ?_⟩
    have H2 := H1.only0 O2
    refine newK_at fun h3' A3 O3 z3 => ?_
    replace A3 : At h3' h2.size (wrow fun _ => 0) := A3
    refine wr_put A3 fun h4' A4 O4 => ?_
    have O24 : Only [] h2 h4' := O3.trans O4 (by intro b hb hl; simp at hb; omega)
    have H4 := H2.only0 O24
    refine sto_high H4 ha (ldI_of rfl ?_)
    have O04 : Only [] h h4' := (O1.trans O2 (by simp)).trans O24 (by simp)
    refine ih (by omega) H4 (V.only O04) h5 (by omega) fun h5' g1 hg1 eg1 O5 => ⟨_, _, _, _, _, rfl, ?_⟩
    refine newK_at fun h6' A6 O6 z6 => ?_
    replace A6 : At h6' h5'.size (wrow fun _ => 0) := A6
    refine wr_put A6 fun h7' A7 O7 => ?_
    have O57 : Only [] h5' h7' := O6.trans O7 (by intro b hb hl; simp at hb; omega)
    have O47 : Only [] h4' h7' := O5.trans O57 (by simp)
    have O07 : Only [] h h7' := O04.trans O47 (by simp)
    have V7 := V.only O07
    have B4 := A4.only O47 (by simp)
    rw [ptrK_some]
    refine ⟨by omega, by omega, ?_⟩
    have rr : ∀ i, i < 4 → rd h7' (Addr.add (Addr.add ⟨b, 0, none⟩ (Int.toNat (lvl X.n X.N a : Int) * 4)) i) = some (.int .u64 (gs (lvl X.n X.N a) i : Int)) := fun i hi => by
      rw [add_mk, add_mk, Int.toNat_natCast, Nat.zero_add]
      exact V7.rd _ i h3 hi
    refine ldI_of (rr 0 (by omega)) (ldI_of (rr 1 (by omega)) (ldI_of (rr 2 (by omega)) (ldI_of (rr 3 (by omega)) ?_)))
    refine rd4 A7 (rd4 B4 ?_)
    obtain ⟨-, -, -, hne, -, -⟩ := ok.1.at ha (by omega)
    refine ite131 (V.ok _ h3) hg1 hg0 fun h8 r hr er O8 => ⟨_, _, _, _, rfl, by trivial, ?_⟩
    have O08 : Only [] h h8 := O07.trans O8 (by simp)
    have fin : ∀ y, y < 256 → fb r y = sm X.n X.f X.N a y := fun y hy => by
      rw [er y hy, V.fb _ h3 y hy, eg1 y hy, eg0 y hy, sm_node ok.1 ha (by omega)]
    have A8 := (A1.only ((O2.trans O24 (by simp)).trans O47 (by simp)) (by simp)).only O8 (by simp)
    have H8 := H.only0 O08
    rw [bcase_true, bcase_true]
    refine sto_low H8 ha (ldI_of rfl ⟨by trivial, by trivial, sto_high H8 ha (ldI_of rfl ?_)⟩)
    have hb : ((low X.N a : Int) != (high X.N a : Int)) = true := by simp; omega
    rw [hb]
    refine wr_put A8 fun h9 A9 O9 => ⟨by trivial, by trivial, rd4 A9 (hK h9 r hr fin (O08.trans O9 (by intro b hb hl; simp at hb; omega)))⟩
theorem func29 (hf : ∀ j, j < X.n → X.f j < 8) (H : Sto h s L X) (ha : isN X.N a) (hK : ∀ h' g, WOk g → (∀ y, y < 256 → fb g y = sm X.n X.f X.N a y) → Only [] h h' → K (.tuple #[aggW g, .bool true]) h') :
    CallsH Tryz.prog 29 [.pointer (some ⟨s, 0, none⟩), .int .u32 (a : Int)] h K := by
  have ok := H.ok
  refine F29.spec _ _ h K ?_
  unfold F29.w F29.J0
  refine newK_at fun h1 A1 O1 z1 => ?_
  replace A1 : At h1 h.size (wrow fun _ => 0) := A1
  have H1 := H.only0 O1
  refine sto_order H1 fun c h2 C2 g2 O2 => ldP_of rfl ?_
  refine ord_all C2 ok.2.2.1 fun x h3 V3 g3 O3 => ldS_of rfl ?_
  have O13 : Only [] h1 h3 := O2.trans O3 (by simp)
  unfold F29.wk4 F29.Jk4
  have z13 := O13.size
  have main : ∀ (d i : Nat) (h' : Heap) (p : Option Addr) (cap : Nat) (gs : Nat → Nat → Nat), i + d = X.n → At h' x (vrow X.n X.f) → At h' h.size (wrow fun _ => 0) → Only [] h h' → h3.size ≤ h'.size → (∀ k, k < i → WOk (gs k)) → (∀ k, k < i → ∀ y, y < 256 → fb (gs k) y = y.testBit (X.f k)) →
      Own h' h3.size 4 p i cap (rowV (i * 4) fun j => .int .u64 (gs (j / 4) (j % 4) : Int)) →
      F29.wL4 (d + 1) ⟨s, 0, none⟩ (a : Int) ⟨h.size, 0, none⟩ (some ⟨x, 0, none⟩) X.n X.n p i cap (i : Int) h' K := by
    intro d
    induction d with
    | zero =>
      intro i h' p cap gs hi V A O hz ok1 ok2 W
      have e : i = X.n := by omega
      subst e
      unfold F29.wL4 F29.JL4
      rw [decide_eq_false (by omega), bcase_false]
      unfold F29.wk7 F29.Jk7
      have n1 := ok.2.1
      have hb : ∃ b, p = some ⟨b, 0, none⟩ := by
        obtain ⟨b, e, -⟩ := W.rd (j := 0) (by rw [rowV_len]; omega)
        exact ⟨b, e⟩
      obtain ⟨b, rfl⟩ := hb
      have VV : Vrs h' b X.n X.f gs := ⟨fun k i hk hi => by
        obtain ⟨b', e, r⟩ := W.rd (j := k * 4 + i) (by rw [rowV_len]; omega)
        injection e with e
        injection e with e
        subst e
        rw [r, rowV_get (by omega), show (k * 4 + i) / 4 = k by omega, show (k * 4 + i) % 4 = i by omega], ok1, ok2⟩
      have la : 0 ≤ lvl X.n X.N a := Nat.zero_le _
      refine walk83 (deep := 0) X.n (by omega) (H.only0 O) VV ha (by omega) fun h5 g hg eg O5 => ⟨_, _, _, _, _, rfl, ?_⟩
      refine wr_put (A.only O5 (by simp)) fun h6 A6 O6 => rd4 A6 (hK h6 g hg eg ((O.trans O5 (by simp)).trans O6 (by intro b hb hl; simp at hb; omega)))
    | succ d ih =>
      intro i h' p cap gs hi V A O hz ok1 ok2 W
      unfold F29.wL4 F29.JL4
      rw [decide_eq_true (by omega), bcase_true, ptrK_some]
      refine ⟨by omega, by omega, ?_⟩
      have hin : i < X.n := by omega
      rw [add_mk, Int.toNat_natCast, Nat.zero_add, Nat.mul_one]
      have rv : rd h' ⟨x, i, none⟩ = some (.int .i64 (X.f i : Int)) := by
        rw [At.rd V]
        simp [vrow, hin]
      refine ldI_of rv (var28 fun h4 g hg eg O4 => ⟨_, _, _, _, rfl, ?_⟩)
      refine newK_at fun h5 A5 O5 z5 => ?_
      have O45 : Only [] h' h5 := O4.trans O5 (by simp)
      have W5 := W.only O45 (by simp)
      have z45 := O45.size
      refine own_app W5 A5 rfl rfl (by omega) (by simp [Value.oneCell']) (by omega) fun p' c' h6 W6 O6 g6 => ?_
      have ew : IntKind.wrap .i64 ((i : Int) + 1) = ((i + 1 : Nat) : Int) := by rw [wrap_i64 (by omega) (by omega)]; omega
      rw [ew]
      have zO : ∀ b ∈ OwnB p, h3.size ≤ b := fun b hb => (W.lt b hb).1
      have xl : x < h3.size := V3.lt
      have hl : h.size < h3.size := by omega
      refine ih (i + 1) h6 p' c' (fun k => if k = i then g else gs k) (by omega) ((V.only O45 (by simp)).only O6 fun hm => by have := zO _ hm; omega) ((A.only O45 (by simp)).only O6 fun hm => by have := zO _ hm; omega) ((O.trans O45 (by simp)).trans O6 fun b hb hlt => by have := zO b hb; omega) (by have := O6.size; omega) (fun k hk => ?_) (fun k hk y hy => ?_) ?_
      · by_cases e : k = i
        · simp only [e, if_true]; exact hg
        · simp only [if_neg e]; exact ok1 k (by omega)
      · by_cases e : k = i
        · subst e
          simp only [if_true]
          rw [eg y hy]
          have := hf k hin
          rw [decide_eq_true (show (0 : Int) ≤ (X.f k : Int) ∧ (X.f k : Int) < 8 by omega), Bool.true_and, Int.toNat_natCast]
        · simp only [if_neg e]; exact ok2 k (by omega) y hy
      · have e : (rowV ((i + 1) * 4) fun j => Value.int .u64 (((fun k => if k = i then g else gs k) (j / 4) (j % 4) : Nat) : Int)) = (rowV (i * 4) fun j => Value.int .u64 (gs (j / 4) (j % 4) : Int)) ++ [.int .u64 (g 0 : Int), .int .u64 (g 1 : Int), .int .u64 (g 2 : Int), .int .u64 (g 3 : Int)] := by
          rw [show (i + 1) * 4 = i * 4 + 1 + 1 + 1 + 1 by omega, rowV_succ, rowV_succ, rowV_succ, rowV_succ]
          have e1 : ∀ c, c < 4 → (i * 4 + c) / 4 = i ∧ (i * 4 + c) % 4 = c := fun c hc => by omega
          have q : (rowV (i * 4) fun j => Value.int .u64 (((fun k => if k = i then g else gs k) (j / 4) (j % 4) : Nat) : Int)) = rowV (i * 4) fun j => Value.int .u64 (gs (j / 4) (j % 4) : Int) := rowV_ext fun j hj => by
            have : j / 4 ≠ i := by omega
            simp only [if_neg this]
          rw [q]
          have f0 := e1 0 (by omega)
          have f1 := e1 1 (by omega)
          have f2 := e1 2 (by omega)
          have f3 := e1 3 (by omega)
          rw [Nat.add_zero] at f0
          simp only [show i * 4 + 1 + 1 = i * 4 + 2 by omega, show i * 4 + 2 + 1 = i * 4 + 3 by omega, f0.1, f0.2, f1.1, f1.2, f2.1, f2.2, f3.1, f3.2, if_true, List.append_assoc, List.cons_append, List.nil_append]
        rw [e]
        exact W6
  exact ⟨_, main X.n 0 h3 none 0 (fun _ _ => 0) (by omega) V3 (A1.only O13 (by simp)) (O1.trans O13 (by simp)) (Nat.le_refl _) (fun k hk => by omega) (fun k hk => by omega) (Own.nil _ _ _)⟩
theorem is58 (hf : ∀ j, j < X.n → X.f j < 8) (H : Sto h s L X) (ha : isN X.N a) {c : Nat → Nat} (hc : WOk c) (hcs : ∀ y, y < 256 → sm X.n X.f X.N a y = fb c y) (hK : ∀ h', Only [] h h' → K (.bool true) h') :
    CallsH Tryz.prog 58 [.pointer (some ⟨s, 0, none⟩), .int .u32 (a : Int), aggW c] h K := by
  refine F58.spec _ _ _ _ _ _ h K ?_
  unfold F58.w F58.J0
  refine newK_at fun h1 A1 O1 z1 => ?_
  replace A1 : At h1 h.size (wrow c) := A1
  refine func29 hf (H.only0 O1) ha fun h2 g hg eg O2 => ⟨_, _, _, _, _, rfl, ?_⟩
  refine newK_at fun h3 A3 O3 z3 => ?_
  replace A3 : At h3 h2.size (wrow fun _ => 0) := A3
  refine wr_put A3 fun h4 A4 O4 => ?_
  rw [bcase_true]
  have z12 := O2.size
  have B4 := ((A1.only O2 (by simp)).only O3 (by simp)).only O4 (by simp; omega)
  refine rd4 A4 (rd4 B4 ?_)
  rw [(eq4 hg hc).2 fun y hy => by rw [eg y hy, hcs y hy]]
  exact hK h4 (((O1.trans O2 (by simp)).trans O3 (by simp)).trans O4 (by intro b hb hl; simp at hb; omega))
end
end Go.Proofs.YtnofenejoebkhaaGreat.Ev
/- FUNCTIONS MADE IN A STORE (package spinneyplay): Make; a node's value (count.eval, count.Eval). Conditions: the store stands, there is room. -/
namespace Go.Proofs.YtnofenejoebkhaaGreat.Ev
open Go
theorem make13 {h : Heap} {s : Nat} {L : List Nat} {X : SX} {g : Nat → Nat} {K : Value → Heap → Prop} (H : Sto h s L X) (hf : ∀ j, j < X.n → X.f j < 8) (hg : WOk g) (hI : ∀ v, v < 8 → (∀ j, j < X.n → X.f j ≠ v) → Indep (fb g) v)
    (hroom : clN (lst X.n) X.N + bdn X.n 0 + 2 ≤ X.room)
    (hK : ∀ h' L' N' r, Ex X.N N' → isN N' r → (∀ x, x < 256 → sm X.n X.f N' r x = fb g x) → clN (lst X.n) N' + 1 ≤ clN (lst X.n) X.N + bdn X.n 0 → Sto h' s L' { X with N := N' } → Only L h h' → Fresh L L' h → K (.tuple #[.int .u32 (r : Int), .bool true]) h') :
    CallsH Tryz.prog 62 [.pointer (some ⟨s, 0, none⟩), aggW g] h K := by
  refine F62.spec _ _ _ _ _ h K ?_
  unfold F62.w F62.J0
  refine newK_at fun h1 A1 O1 z1 => ?_
  replace A1 : At h1 h.size (wrow g) := A1
  refine rd4 A1 ?_
  refine sto_order (H.only0 O1) fun c h2 C2 g2 O2 => ldP_of rfl ⟨rfl, ?_⟩
  have A2 := A1.only O2 (by simp)
  refine rd4 A2 ⟨rfl, ?_⟩
  refine ord_all C2 H.ok.2.2.1 fun x h3 V3 g3 O3 => ldS_of rfl ⟨rfl, ?_⟩
  have A3 := A2.only O3 (by simp)
  refine rd4 A3 ⟨rfl, ?_⟩
  have O13 := (O1.trans O2 (by simp)).trans O3 (by simp)
  have z12 := O1.size
  have z23 := O2.size
  have hx : x ∉ L := fun hm => by
    have := H.lt _ hm
    omega
  refine made35 (X.n - 0) 0 (by omega) rfl hf (H.only0 O13) V3 hx hg (fun v hv hj => hI v hv fun j hj' => hj j (by omega) hj') hroom fun h4 L4 N4 r E4 hr _ hs hc S4 O4 F4 => ⟨_, _, rfl, hK h4 L4 N4 r E4 hr hs hc S4 ((O13.mono (by simp)).trans O4 fun b hb _ => hb) fun b hb => ?_⟩
  rcases F4 b hb with h | h
  · exact .inl h
  · exact .inr (by have := O13.size; omega)
end Go.Proofs.YtnofenejoebkhaaGreat.Ev
/- THE LAWS OF LAYER 21: the self-test (known). Conditions: none. -/
namespace Go.Proofs.YtnofenejoebkhaaGreat.Ev
open Go
theorem fill_lt {n j : Nat} (h : j < n) : fill n j = j := if_pos h
theorem fill_8 {n : Nat} (hn : n ≤ 8) : ∀ j, j < n → fill n j < 8 := fun j hj => by rw [fill_lt hj]; omega
theorem Only.grow {S : List Nat} {h0 h h' : Heap} (A : Only [] h0 h) (O : Only S h h') (hS : ∀ b ∈ S, h0.size ≤ b) : Only [] h0 h' := A.trans O fun b hb hl => by have := hS b hb; omega
theorem Fresh.ge {L L' : List Nat} {h0 h : Heap} (F : Fresh L L' h) (hL : ∀ b ∈ L, h0.size ≤ b) (hz : h0.size ≤ h.size) : ∀ b ∈ L', h0.size ≤ b := fun b hb => by
  rcases F b hb with h | h
  · exact hL b h
  · omega
theorem cl_nil (p : Nat → Bool) : clN p [] = 0 := rfl
theorem no_more {x i B : Nat} (h : i + 0 = B + 1) (hp : x + i ≤ B) : False := by omega
theorem one_more {x y i B : Nat} (h : x + 1 ≤ y) (hp : y + i ≤ B) : x + (i + 1) ≤ B := by omega
theorem known_loop {h0 : Heap} {p s n room : Nat} {fo gg : Nat → Nat} {off : Bool} {N5 : List (Option Nd)} {P P7 : PS} {L3 : List Nat} {K : Value → Heap → Prop} {B : Nat} (hw7 : P7.ws.length = 2) (hB : B < 2000)
    (tail : ∀ (h9 : Heap) (N9 : List (Option Nd)) (P9 : PS) (L9 : List Nat), Wld h9 p s n room fo gg off N9 P9 L9 → Picked n fo room N5 N9 P7 P9 → (∀ j ∈ P9.jobs, j.A.done = true) → Beside p P L3 h0 P9 L9 h9 → F31.wk16 (some ⟨s, 0, none⟩) (some ⟨p, 0, none⟩) 1 0 61 200 h9 K) :
    ∀ (d i : Nat) (xi : Int) (h9 : Heap) (N9 : List (Option Nd)) (P9 : PS) (L9 : List Nat), xi = (i : Int) → i + d = B + 1 → Wld h9 p s n room fo gg off N9 P9 L9 → Picked n fo room N5 N9 P7 P9 → Beside p P L3 h0 P9 L9 h9 → phi n N9 P9 + i ≤ B →
      F31.wL12 (d + 1) (some ⟨s, 0, none⟩) (some ⟨p, 0, none⟩) 1 0 61 200 xi h9 K := by
  intro d
  induction d with
  | zero => intro i xi h9 N9 P9 L9 exi hi W9 Pk9 B9 hp; exfalso; exact no_more hi hp
  | succ d ih =>
    intro i xi h9 N9 P9 L9 exi hi W9 Pk9 B9 hp
    unfold F31.wL12 F31.JL12
    rw [decide_eq_true (by omega), bcase_true]
    refine idle85 W9.H fun h10 O10 => ldB_of rfl (bcase_of (fun e => ?_) fun e => ?_)
    · have W10 := W9.only0 O10
      have B10 := B9.trans (Beside.only0 O10)
      obtain ⟨j0, hj0, hd0⟩ : ∃ j ∈ P9.jobs, j.A.done = false := by
        have e : (P9.jobs.all fun j => j.A.done) = false := by simpa using e
        obtain ⟨j, hj, e⟩ := List.all_eq_false.1 e
        exact ⟨j, hj, by simpa using e⟩
      obtain ⟨w0, k0, hw0, hb0⟩ := busy_of W10.Ok hj0 hd0
      have wl9 : P9.ws.length = 2 := by rw [Pk9.alike.2.1]; exact hw7
      have w0l : w0 < P9.ws.length := (List.getElem?_eq_some_iff.1 hw0).1
      refine wld_pick (who := 0) (draw := 1) W10 (fun h => by omega) fun h11 L11 N11 P11 b1 w1 k1 ew1 hk1 W11 Pk11 _ hs11 B11 => ldB_of rfl ?_
      have w1z : w1 = 0 := by omega
      subst w1z
      have wl11 : P11.ws.length = 2 := by rw [Pk11.alike.2.1]; exact wl9
      refine wld_pick (who := 1) (draw := 0) W11 (fun h => by omega) fun h12 L12 N12 P12 b2 w2 k2 ew2 hk2 W12 Pk12 _ hs12 B12 => ldB_of rfl ?_
      have w2z : w2 = 1 := by omega
      subst w2z
      have ew : IntKind.wrap .i64 (xi + 1) = ((i + 1 : Nat) : Int) := by rw [exi, wrap_i64 (by omega) (by omega)]; omega
      have dec : phi n N12 P12 + 1 ≤ phi n N9 P9 := by
        have l11 := Pk11.le1
        have l12 := Pk12.le1
        rcases hs11 with h | ⟨q1, q2, E⟩
        · omega
        · by_cases hw : w0 = 0
          · subst hw
            rw [hw0] at hk1
            injection hk1 with hk1
            subst hk1
            rcases hb0 with h | h
            · exact absurd q1 h
            · exact absurd q2 h
          · have hw1 : w0 = 1 := by omega
            subst hw1
            obtain ⟨k3, hk3, e3⟩ := E.2 1 k0 hw0
            rw [hk2] at hk3
            injection hk3 with hk3
            subst hk3
            rcases hs12 with h | ⟨q3, q4, -⟩
            · omega
            · rw [e3.2.2.1] at q3
              rw [e3.2.1] at q4
              rcases hb0 with h | h
              · exact absurd q3 h
              · exact absurd q4 h
      have e1 : i + 1 + d = B + 1 := by rw [← hi, Nat.add_assoc, Nat.add_comm 1 d]
      have st := ih (i + 1) _ h12 N12 P12 L12 ew e1 W12 ((Pk9.trans Pk11).trans Pk12) ((B10.trans B11).trans B12) (one_more dec hp)
      exact st
    · have e : (P9.jobs.all fun j => j.A.done) = true := by simpa using e
      exact tail h10 N9 P9 L9 (W9.only0 O10) Pk9 (fun j hj => by have := List.all_eq_true.1 e j hj; simpa using this) (B9.trans (Beside.only0 O10))
theorem var_indep {n v : Nat} {g : Nat → Nat} (hn : n ≤ 8) (hv : v < n) (hg : ∀ y, y < 256 → fb g y = y.testBit v) : ∀ u, u < 8 → (∀ j, j < n → fill n j ≠ u) → Indep (fb g) u := fun u hu hj y hy => by
  have hne : v ≠ u := fun e => hj v hv (by rw [fill_lt hv, e])
  rw [hg _ (tobl hy hu true), hg _ (tobl hy hu false), tb_tob hy hu true (by omega), tb_tob hy hu false (by omega), if_neg hne, if_neg hne]
set_option maxRecDepth 100000 in
theorem known31 {h : Heap} {K : Value → Heap → Prop} (hK : ∀ h', Only [] h h' → K (.bool true) h') : CallsH Tryz.prog 31 [] h K := by
  refine F31.spec h K ?_
  unfold F31.w F31.J0
  refine sto_new (n := 4) (room := 300) (Q := QL 4 (fill 4) []) (by omega) (by omega) (by omega) (by omega) fun h1 s L S1 O1 g1 => ⟨_, _, rfl, ?_⟩
  have S1 : Sto h1 s L (XL 4 300 (fill 4) (fill 4) [] false) := S1
  rw [show ((0 : Int) != 0) = false from rfl, bcase_false]
  refine var28 (v := 2) fun h2 g hg eg O2 => ⟨_, _, _, _, rfl, ?_⟩
  have eg' : ∀ y, y < 256 → fb g y = y.testBit 2 := fun y hy => by rw [eg y hy]; simp
  have S2 := S1.only0 O2
  have bd : bdn 4 0 = 8 := rfl
  refine make13 S2 (fill_8 (n := 4) (by decide)) hg (var_indep (n := 4) (by decide) (by decide) eg') (by show clN (lst 4) [] + bdn 4 0 + 2 ≤ 300; rw [cl_nil, bd]; omega) fun h3 L3 N3 a E3 ha hs hc3 S3 O3 F3 => ⟨_, _, rfl, ?_⟩
  dsimp only [XL] at hs
  have ok1 := S1.ok
  dsimp only [XL] at ok1
  have S3 : Sto h3 s L3 (XL 4 300 (fill 4) (fill 4) N3 false) := sto_XL S3 ok1.1 E3
  have ok3 := S3.ok
  dsimp only [XL] at ok3
  have cn3 : cntN N3 ≤ 20 := by
    have h1 := cnt_bound ok3.1
    have hc3 : clN (lst 4) N3 + 1 ≤ clN (lst 4) [] + bdn 4 0 := hc3
    rw [cl_nil, bd] at hc3
    omega
  have O02 := O1.trans O2 (by simp)
  have z02 := O02.size
  have gl : ∀ b ∈ L, h.size ≤ b := g1
  have O03 : Only [] h h3 := O02.grow O3 gl
  have gl3 : ∀ b ∈ L3, h.size ≤ b := F3.ge gl (by omega)
  refine new34 (s := s) (x := 2) fun h4 p P H4 e1 e2 e3 e4 e5 g4 O4 => ldP_of rfl ?_
  rw [Bool.not_true, bcase_false, show (Option.isNone (some (Addr.mk p 0 none))) = false from rfl, bcase_false]
  have e1 : P.ws.length = 2 := e1
  obtain ⟨Ok4, GO4, lo4, ql4⟩ := pool_fresh (n := 4) (fo := fill 4) (N := N3) (P := P) (by omega) e2 e3 e4 e5
  have S4 := S3.only0 O4
  have O04 := O03.trans O4 (by simp)
  have z34 := O3.size
  have gp : ∀ b, PBl p P b → h.size ≤ b := fun b hb => by have := g4 b hb; omega
  have D4 : ∀ b, PBl p P b → b ∉ L3 := fun b hb hm => by have := g4 b hb; have := S3.lt b hm; omega
  have W4 : Wld h4 p s 4 300 (fill 4) (fill 4) false N3 P L3 := ⟨S4, H4, Ok4, GO4, D4⟩
  refine workers68 H4 (ldI_of rfl ?_)
  rw [e1, show ((((2 : Nat) : Int)) != (2 : Int)) = false from rfl, bcase_false]
  refine wld_pick (who := 0) (draw := 5) W4 (fun h => by omega) fun h5 L5 N5 P5 b w k _ _ W5 Pk5 hb5 hs5 B5 => ldB_of rfl ?_
  have b5 : b = false := by
    cases b with
    | false => rfl
    | true => exact absurd lo4 (hb5 rfl)
  rw [b5, bcase_false]
  have j5 : P5.jobs = [] := List.eq_nil_of_length_eq_zero (by have := alike_len Pk5.alike; rw [e2] at this; simpa using this)
  have la5 : P5.last = 0 := by rw [Pk5.alike.1]; exact e4
  refine idle85 W5.H fun h6 O6 => ldB_of rfl ?_
  rw [show (P5.jobs.all fun j => j.A.done) = true by rw [j5]; rfl, Bool.not_true, bcase_false]
  have W6 := W5.only0 O6
  have B6 : Beside p P L3 h4 P5 L5 h6 := B5.trans (Beside.only0 O6)
  have ha5 := Pk5.ex.isN ha
  refine submit35 (op := 1) (a := a) (b := 0) (c := 0) (mask := 0) (by omega) W6.S W6.H W6.Ok W6.GO W6.D (.inl rfl) ha5 (fun h => absurd rfl h) (fun h => by omega) (by omega) (fun h => by rw [j5] at h; simp at h) fun _ h7 ws A S7 H7 Ok7 GO7 bk7 D7 wl7 dn7 ee7 mu7 nb7 ql7 O7 => ⟨_, _, rfl, ?_⟩
  have ids7 := H7.ids
  have jm7 : P5.jobs ++ [(⟨P5.last + 1, A, jobG 1 a 0 0⟩ : Jb)] = [⟨P5.last + 1, A, jobG 1 a 0 0⟩] := by rw [j5]; rfl
  obtain ⟨P7, eP7⟩ : ∃ P7 : PS, P7 = { P5 with ws := ws, jobs := P5.jobs ++ [⟨P5.last + 1, A, jobG 1 a 0 0⟩], last := P5.last + 1 } := ⟨_, rfl⟩
  rw [← eP7] at H7 Ok7 GO7 bk7 D7
  have hj7 : P7.jobs = [⟨1, A, jobG 1 a 0 0⟩] := by rw [eP7]; show P5.jobs ++ _ = _; rw [jm7, la5]
  have hl7 : P7.last = 1 := by rw [eP7]; show P5.last + 1 = 1; omega
  have hw7 : P7.ws.length = 2 := by rw [eP7]; show ws.length = 2; rw [wl7, Pk5.alike.2.1]; exact e1
  have W7 : Wld h7 p s 4 300 (fill 4) (fill 4) false N5 P7 L5 := ⟨S7, H7, Ok7, GO7, D7⟩
  have B67 : Beside p P5 L5 h6 P7 L5 h7 := ⟨fun T hT _ => O7 T hT, Fresh.refl _ _, bk7⟩
  have B7 : Beside p P L3 h4 P7 L5 h7 := B6.trans B67
  rw [show (P5.last + 1 : Nat) = 1 by omega]
  refine result38 H7 (fun h => absurd rfl (h ⟨1, A, jobG 1 a 0 0⟩ (by rw [hj7]; simp))) fun i j hij ej => ⟨_, _, rfl, ?_⟩
  have ej : j = ⟨1, A, jobG 1 a 0 0⟩ := by
    have := List.mem_of_getElem? hij
    rw [hj7] at this
    simpa using this
  subst ej
  rw [if_neg (show ¬ A.done = true by rw [dn7]; simp)]
  refine submit_none (x := 99) (a := 0) (b := 0) (c := 0) (mask := 0) H7 rfl fun h8 O8 => ⟨_, _, rfl, ?_⟩
  have W8 := W7.only0 O8
  have B8 := B7.trans (Beside.only0 O8)
  have psi7 : psi 4 N5 P7 ≤ 300 := by
    have h1 := Pk5.le2
    have h2 : psi 4 N3 P = cntN N3 := by unfold psi; rw [e2]; simp
    have h3 : cntN N5 ≤ psi 4 N5 P5 := by unfold psi; omega
    unfold psi
    rw [hj7]
    simp only [List.map_cons, List.map_nil, List.sum_cons, List.sum_nil]
    have : (2 : Nat) ^ 4 = 16 := rfl
    omega
  have phi7 : phi 4 N5 P7 ≤ 1022 := by
    have h1 := Ok7.steals
    unfold phi
    rw [hj7]
    simp only [List.map_cons, List.map_nil, List.sum_cons, List.sum_nil]
    omega
  have good7 : ∀ j ∈ P7.jobs, j.A.e = 0 := fun j hj => by rw [hj7] at hj; simp at hj; subst hj; exact ee7
  unfold F31.wk12 F31.Jk12
  -- behind the loop
  have tail : ∀ (h9 : Heap) (N9 : List (Option Nd)) (P9 : PS) (L9 : List Nat), Wld h9 p s 4 300 (fill 4) (fill 4) false N9 P9 L9 → Picked 4 (fill 4) 300 N5 N9 P7 P9 → (∀ j ∈ P9.jobs, j.A.done = true) → Beside p P L3 h4 P9 L9 h9 →
      F31.wk16 (some ⟨s, 0, none⟩) (some ⟨p, 0, none⟩) 1 0 61 200 h9 K := by
    intro h9 N9 P9 L9 W9 Pk9 all9 B9
    obtain ⟨j9, hj9⟩ : ∃ j9, P9.jobs = [j9] := List.length_eq_one_iff.1 (by rw [alike_len Pk9.alike, hj7]; rfl)
    have al := Pk9.alike.2.2
    rw [hj9, hj7] at al
    simp only [List.map_cons, List.map_nil, List.cons.injEq, Prod.mk.injEq, and_true] at al
    obtain ⟨id9, G9⟩ := al
    have m9 : j9 ∈ P9.jobs := by rw [hj9]; simp
    have dn9 := all9 j9 m9
    have ee9 : j9.A.e = 0 := Pk9.bad good7 psi7 j9 m9
    have OR : OpR 4 (fill 4) N9 4 1 a 0 j9.A.told := by
      have := (W9.Ok.mst j9 m9).1
      rw [G9] at this
      rcases this with ⟨q, -⟩ | ⟨-, -, -, q⟩ | ⟨-, q, -⟩
      · rw [dn9] at q; cases q
      · exact q
      · omega
    unfold F31.wk16 F31.Jk16
    refine result38 (x := 1) W9.H (fun h => absurd (by rw [id9]; rfl) (h j9 m9)) fun i j hij ej => ⟨_, _, rfl, ?_⟩
    have ej9 : j = j9 := by
      have := List.mem_of_getElem? hij
      rw [hj9] at this
      simpa using this
    subst ej9
    rw [if_pos (show j.A.done = true ∧ j.A.e = 0 from ⟨dn9, ee9⟩), if_pos dn9, ee9]
    rw [show ((0 : Int) == (0 : Int)) = true from rfl, bcase_true, show (((1 : Int)) == (1 : Int)) = true from rfl, bcase_true, show ((61 : Int) == (61 : Int)) = true from rfl, bcase_true, show ((200 : Int) == (200 : Int)) = true from rfl, bcase_true]
    refine done39 (x := 1) W9.H (fun h => absurd (by rw [id9]; rfl) (h j m9)) fun i2 j2 hij2 ej2 => ldB_of rfl ?_
    have ej2 : j2 = j := by
      have := List.mem_of_getElem? hij2
      rw [hj9] at this
      simpa using this
    subst ej2
    rw [dn9, bcase_true, show ((((0 : Nat) : Int)) == (0 : Int)) = true from rfl, bcase_true]
    refine var28 (v := 2) fun h10 g' hg' eg'' O10 => ⟨_, _, _, _, rfl, ?_⟩
    refine not86 hg' fun h11 c hc ec O11 => ⟨_, _, _, _, rfl, ?_⟩
    have W11 := (W9.only0 O10).only0 O11
    have E9 : Ex N3 N9 := Pk5.ex.trans Pk9.ex
    have ok9 := W9.S.ok
    dsimp only [XL] at ok9
    refine is58 (X := XL 4 300 (fill 4) (fill 4) N9 false) (fill_8 (n := 4) (by decide)) W11.S OR.is hc (fun y hy => ?_) fun h12 O12 => ldB_of rfl ?_
    · show sm 4 (fill 4) N9 j2.A.told y = _
      rw [OR.sm y, E9.sm ok3.1 ha, hs y hy, eg' y hy, sm_const (a := 1) (by omega), ec y hy, eg'' y hy]
      simp [opB]
    · rw [bcase_true]
      have W12 := W11.only0 O12
      refine forget36 (x := 1) W12.H W12.Ok (fun h => ?_) fun h13 j3 hj3 ej3 hd3 H13 Ok13 O13 => ldB_of rfl ?_
      · exfalso
        rcases h with h | ⟨j, hj, -, h⟩
        · exact h j2 m9 (by rw [id9]; rfl)
        · rw [all9 j hj] at h; cases h
      · rw [bcase_true]
        have e13 : j3 = j2 := by rw [hj9] at hj3; simpa using hj3
        have hnil : (P9.jobs.filter fun z => decide (z.id ≠ j3.id)) = [] := by rw [hj9, e13]; simp
        refine forget36 (x := 1) H13 Ok13 (fun _ => ldB_of rfl ?_) fun h14 j4 hj4 _ _ _ _ _ => ?_
        · rw [Bool.not_false]
          have B13 : Beside p P L3 h4 { P9 with jobs := P9.jobs.filter fun z => decide (z.id ≠ j3.id) } L9 h13 := by
            refine B9.trans ((Beside.only0 ((O10.trans O11 (by simp)).trans O12 (by simp))).trans ⟨fun T hT _ => O13.mono fun b hb _ => hT b (by simp only [List.mem_singleton] at hb; exact .inr (.inl hb)), Fresh.refl _ _, fun b hb => ?_⟩)
            rcases hb with h | h | h | h | ⟨y, hy, h⟩
            · exact .inl (.inl h)
            · exact .inl (.inr (.inl h))
            · exact .inl (.inr (.inr (.inl h)))
            · exact .inl (.inr (.inr (.inr (.inl h))))
            · exact .inl (.inr (.inr (.inr (.inr ⟨y, (List.mem_filter.1 hy).1, h⟩))))
          exact hK h13 (B13.only O04 gp gl3)
        · have hj4 : j4 ∈ P9.jobs.filter fun z => decide (z.id ≠ j3.id) := hj4
          rw [hnil] at hj4
          cases hj4
  exact ⟨_, known_loop hw7 (B := 1022) (by decide) tail 1023 0 0 h8 N5 P7 L5 rfl rfl W8 (Picked.refl Ok7) B8 phi7⟩
end Go.Proofs.YtnofenejoebkhaaGreat.Ev
/- THE LAWS OF LAYER 21: sixty-four jobs (PoolMany). Conditions: the arguments are in their kinds' bounds. -/
namespace Go.Proofs.YtnofenejoebkhaaGreat.Ev
open Go
/-- what is behind the store's making: a store, a node of variable v, a slice of its handle -/
theorem made32 {h : Heap} {b n room v : Nat} {g : Nat → Nat} {K : Value → Heap → Prop} (h1 : 1 ≤ n) (h8 : n ≤ 8) (hv : v < n) (r1 : 131 ≤ room) (r2 : room ≤ 32768) (A : At h b (wrow g)) (hg : WOk g) (eg : ∀ y, y < 256 → fb g y = y.testBit v)
    (hK : ∀ h' s L N r bb c, Sto h' s L (XL n room (fill n) (fill n) N false) → isN N r → (∀ x, x < 256 → sm n (fill n) N r x = x.testBit v) → (∀ x ∈ L, h.size ≤ x) → rd h' ⟨bb, 0, none⟩ = some (.int .u32 (r : Int)) → h.size ≤ bb → bb ∉ L → Only [] h h' → K (.tuple #[.pointer (some ⟨s, 0, none⟩), .slice (some ⟨bb, 0, none⟩) 1 c, .bool true]) h') :
    CallsH Tryz.prog 32 [.int .i64 (n : Int), .int .i64 (room : Int), .slice (some ⟨b, 0, none⟩) 1 1] h K := by
  refine F32.spec _ _ _ _ _ h K ?_
  unfold F32.w F32.J0
  refine sto_new (n := n) (room := room) (Q := QL n (fill n) []) h1 h8 (by omega) r2 fun h2 s L S2 O2 g2 => ⟨_, _, rfl, ?_⟩
  have S2 : Sto h2 s L (XL n room (fill n) (fill n) [] false) := S2
  rw [show ((0 : Int) != 0) = false from rfl, bcase_false]
  unfold F32.wk6 F32.Jk6
  have A2 := A.only O2 (by simp)
  have lb := A.lt
  refine ⟨2, ?_⟩
  unfold F32.wL6 F32.JL6
  rw [show decide ((0 : Int) < (Nat.cast 1 : Int)) = true from rfl, bcase_true, ptrK_some]
  refine ⟨by omega, by omega, ?_⟩
  simp only [add_mk, Nat.zero_add, Nat.add_zero]
  have r4 : ∀ i, i < 4 → rd h2 ⟨b, Int.toNat (0 : Int) * 4 + i, none⟩ = some (.int .u64 (g i : Int)) := fun i hi => by
    rw [show Int.toNat (0 : Int) * 4 + i = i by simp]
    exact wr_rd A2 hi
  refine ldI_of (r4 0 (by omega)) (ldI_of (r4 1 (by omega)) (ldI_of (r4 2 (by omega)) (ldI_of (r4 3 (by omega)) ?_)))
  have bd : bdn n 0 ≤ 128 := by
    unfold bdn
    calc 2 ^ (n - 1 - 0) ≤ 2 ^ 7 := Nat.pow_le_pow_right (by decide) (by omega)
      _ = 128 := rfl
  refine make13 S2 (fill_8 h8) hg (var_indep h8 hv eg) (by show clN (lst n) [] + bdn n 0 + 2 ≤ room; rw [cl_nil]; omega) fun h3 L3 N3 r E3 hr hs hc3 S3 O3 F3 => ⟨_, _, rfl, ?_⟩
  dsimp only [XL] at hs
  have ok2 := S2.ok
  dsimp only [XL] at ok2
  have S3 : Sto h3 s L3 (XL n room (fill n) (fill n) N3 false) := sto_XL S3 ok2.1 E3
  have z2 := O2.size
  have z3 := O3.size
  have O03 : Only [] h h3 := O2.grow O3 g2
  have gl3 : ∀ x ∈ L3, h.size ≤ x := F3.ge g2 (by omega)
  rw [Bool.not_true, bcase_false]
  refine newK_at fun h4 A4 O4 z4 => ?_
  refine own_app (lo := h4.size) (Own.nil _ _ _) A4 rfl rfl (by omega) (by simp [Value.oneCell']) (Nat.le_refl _) fun p' c' h5 W5 O5 g5 => ?_
  have ew : IntKind.wrap .i64 ((0 : Int) + 1) = 1 := rfl
  rw [ew]
  unfold F32.wL6 F32.JL6
  rw [show decide ((1 : Int) < (Nat.cast 1 : Int)) = false from rfl, bcase_false]
  unfold F32.wk12 F32.Jk12
  obtain ⟨bb, eb, rb⟩ := W5.rd (j := 0) (by simp)
  subst eb
  have lbb := (W5.lt bb (by simp [OwnB])).1
  have O35 : Only [] h3 h5 := O4.trans (show Only [] h4 h5 from O5) (by simp)
  exact hK h5 s L3 N3 r bb c' (S3.only0 O35) hr (fun x hx => by rw [hs x hx, eg x hx]) gl3 (by rw [rb]; rfl) (by omega) (fun hm => by have := S3.lt _ hm; omega) (O03.trans O35 (by simp))
theorem rd_keep {S : List Nat} {h h' : Heap} {a : Addr} {v : Value} (H : rd h a = some v) (O : Only S h h') (hS : a.block ∉ S) : rd h' a = some v := by
  rw [← H]
  have hb : a.block < h.size := by
    apply Classical.byContradiction
    intro hn
    have : h[a.block]? = none := Array.getElem?_eq_none (by omega)
    simp [rd, this] at H
  unfold rd
  rw [O.same _ hb hS]
theorem beside_rd {p : Nat} {P P' : PS} {L L' : List Nat} {h h' : Heap} {bb : Nat} {v : Value} (B : Beside p P L h P' L' h') (H : rd h ⟨bb, 0, none⟩ = some v) (h1 : ¬ PBl p P bb) (h2 : bb ∉ L) : rd h' ⟨bb, 0, none⟩ = some v :=
  rd_keep H (B.O (pbl p P ++ L) (fun b hb => List.mem_append.2 (.inl (mem_pbl.2 hb))) fun b hb => List.mem_append.2 (.inr hb)) fun hm => by
    rcases List.mem_append.1 hm with h | h
    · exact h1 (mem_pbl.1 h)
    · exact h2 h
theorem ids_mem {l : List Jb} {a c : Nat} (e : l.map (·.id) = List.range' a c) (x : Nat) : (∃ j ∈ l, j.id = x) ↔ a ≤ x ∧ x < a + c := by
  have h1 : (∃ j ∈ l, j.id = x) ↔ x ∈ l.map (·.id) := by simp
  rw [h1, e, List.mem_range']
  constructor
  · rintro ⟨i, hi, rfl⟩
    omega
  · rintro ⟨h1, h2⟩
    exact ⟨x - a, by omega, by omega⟩
theorem ids_len {l : List Jb} {a c : Nat} (e : l.map (·.id) = List.range' a c) : l.length = c := by
  have := congrArg List.length e
  simpa using this
theorem ids_drop {l : List Jb} {a c : Nat} (e : l.map (·.id) = List.range' a (c + 1)) : (l.filter fun z => decide (z.id ≠ a)).map (·.id) = List.range' (a + 1) c := by
  have h1 : (l.filter fun z => decide (z.id ≠ a)).map (·.id) = (l.map (·.id)).filter fun x => decide (x ≠ a) := by
    rw [List.filter_map]
    rfl
  rw [h1, e, List.range'_succ, List.filter_cons, if_neg (by simp), List.filter_eq_self]
  intro x hx
  rw [List.mem_range'] at hx
  obtain ⟨i, hi, rfl⟩ := hx
  simp
  omega
/-- so many jobs, none of them done -/
def Subs (n : Nat) (N : List (Option Nd)) (P : PS) (c : Nat) : Prop := P.jobs.map (·.id) = List.range' 1 c ∧ P.last = c ∧ ∀ j ∈ P.jobs, j.A.done = false ∧ mus n N j.A.fs ≤ 1021
section
variable {h0 : Heap} {p s bb r cap kN : Nat} {x1 : Int} {P0 : PS} {L0 : List Nat} {N : List (Option Nd)} {K : Value → Heap → Prop}
theorem subs_loop (hr : isN N r) (rb : rd h0 ⟨bb, 0, none⟩ = some (.int .u32 (r : Int))) (nb1 : ¬ PBl p P0 bb) (nb2 : bb ∉ L0) (hk : kN < 80)
    (cont : ∀ h' P, Wld h' p s 3 200 (fill 3) (fill 3) false N P L0 → Beside p P0 L0 h0 P L0 h' → Subs 3 N P (min kN 64) → F6.wk14 x1 (some ⟨bb, 0, none⟩) 1 cap (some ⟨p, 0, none⟩) (kN : Int) h' K) :
    ∀ (d i : Nat) (xi : Int) (h' : Heap) (P : PS), xi = (i : Int) → i + d = kN + 1 → 1 ≤ i → Wld h' p s 3 200 (fill 3) (fill 3) false N P L0 → Beside p P0 L0 h0 P L0 h' → Subs 3 N P (min (i - 1) 64) →
      F6.wL9 (d + 1) x1 (some ⟨bb, 0, none⟩) 1 cap (some ⟨p, 0, none⟩) (kN : Int) xi h' K := by
  intro d
  induction d with
  | zero =>
    intro i xi h' P exi hi h1 W B S
    unfold F6.wL9 F6.JL9
    rw [decide_eq_false (by omega), bcase_false]
    rw [show i - 1 = kN by omega] at S
    exact cont h' P W B S
  | succ d ih =>
    intro i xi h' P exi hi h1 W B S
    obtain ⟨s1, s2, s3⟩ := S
    have ew : IntKind.wrap .i64 (xi + 1) = ((i + 1 : Nat) : Int) := by rw [exi, wrap_i64 (by omega) (by omega)]; omega
    have len := ids_len s1
    unfold F6.wL9 F6.JL9
    rw [decide_eq_true (by omega), bcase_true, ptrK_some]
    refine ⟨by omega, by omega, ldI_of (n := (r : Int)) (beside_rd B rb nb1 nb2) ?_⟩
    refine submit35 (op := 1) (a := r) (b := 0) (c := 0) (mask := 0) (by omega) W.S W.H W.Ok W.GO W.D (.inl rfl) hr (fun h => absurd rfl h) (fun h => by omega) (by omega) (fun hF h2 O2 => ⟨_, _, rfl, ?_⟩) fun hT h2 ws A S2 H2 Ok2 GO2 bk2 D2 wl2 dn2 ee2 mu2 nb2' ql2 O2 => ⟨_, _, rfl, ?_⟩
    · have h64 : 65 ≤ i := by omega
      rw [decide_eq_false (by omega)]
      rw [show (!(((60 : Int) == (0 : Int)) == false)) = false from rfl, bcase_false, show ((60 : Int) != (0 : Int)) = true from rfl, bcase_true, show ((60 : Int) != (60 : Int)) = false from rfl, bcase_false, show ((0 : Int) != (0 : Int)) = false from rfl, bcase_false, show ((60 : Int) == (0 : Int)) = false from rfl, bcase_false]
      refine ih (i + 1) _ h2 P ew (by omega) (by omega) (W.only0 O2) (B.trans (Beside.only0 O2)) ⟨?_, ?_, s3⟩
      · rw [s1, show min (i - 1) 64 = min (i + 1 - 1) 64 by omega]
      · omega
    · have h64 : i ≤ 64 := by omega
      rw [decide_eq_true (by omega)]
      rw [show (!(((0 : Int) == (0 : Int)) == true)) = false from rfl, bcase_false, show ((0 : Int) != (0 : Int)) = false from rfl, bcase_false, show ((0 : Int) == (0 : Int)) = true from rfl, bcase_true]
      have e1 : ((((P.last + 1 : Nat) : Int)) != xi) = false := by rw [exi, s2]; simp; omega
      rw [e1, bcase_false]
      refine ih (i + 1) _ h2 _ ew (by omega) (by omega) ⟨S2, H2, Ok2, GO2, D2⟩ (B.trans ⟨fun T hT _ => O2 T hT, Fresh.refl _ _, bk2⟩) ⟨?_, ?_, fun j hj => ?_⟩
      · show (P.jobs ++ [(⟨P.last + 1, A, jobG 1 r 0 0⟩ : Jb)]).map (·.id) = _
        rw [List.map_append, s1, s2, show min (i + 1 - 1) 64 = min (i - 1) 64 + 1 by omega, List.range'_concat]
        simp
        omega
      · show P.last + 1 = _
        omega
      · rcases List.mem_append.1 hj with hj | hj
        · exact s3 j hj
        · simp only [List.mem_singleton] at hj
          subst hj
          exact ⟨dn2, mu2⟩
/-- all done, those up to m forgotten -/
def Left (P : PS) (m c : Nat) : Prop := P.jobs.map (·.id) = List.range' (m + 1) (c - m) ∧ P.last = c ∧ ∀ j ∈ P.jobs, j.A.done = true
theorem left_loop {kk t : Nat} {N' : List (Option Nd)} {L' : List Nat} (hr : isN N' r) (rb : rd h0 ⟨bb, 0, none⟩ = some (.int .u32 (r : Int))) (nb1 : ¬ PBl p P0 bb) (nb2 : bb ∉ L0) (hkk : kk ≤ 64) (ht : IntKind.wrap .i64 (Int.tmod x1 (70 : Int)) = (t : Int)) (ht2 : t < 70)
    (cont : ∀ h', Beside p P0 L0 h0 P0 L0 h0 → (∀ T, (∀ b, PBl p P0 b → b ∈ T) → (∀ b ∈ L0, b ∈ T) → Only T h0 h') → K (.bool true) h') :
    ∀ (d i : Nat) (xi xm : Int) (h' : Heap) (P : PS), xi = (i : Int) → xm = ((min (i - 1) kk : Nat) : Int) → i + d = t + 1 + 1 → i ≤ t + 1 → 1 ≤ i → Wld h' p s 3 200 (fill 3) (fill 3) false N' P L' → Beside p P0 L0 h0 P L' h' → Left P (min (i - 1) kk) kk →
      F6.wL19 (d + 1) x1 (some ⟨bb, 0, none⟩) 1 cap (some ⟨p, 0, none⟩) (kk : Int) xm xi h' K := by
  intro d
  induction d with
  | zero =>
    intro i xi xm h' P exi exm hi hle h1 W B S
    omega
  | succ d ih =>
    intro i xi xm h' P exi exm hi hle h1 W B S
    obtain ⟨s1, s2, s3⟩ := S
    unfold F6.wL19 F6.JL19
    rw [ht]
    refine ⟨by omega, ?_⟩
    have len := ids_len s1
    by_cases hit : i ≤ t
    · rw [decide_eq_true (by omega), bcase_true]
      have ew : IntKind.wrap .i64 (xi + 1) = ((i + 1 : Nat) : Int) := by rw [exi, wrap_i64 (by omega) (by omega)]; omega
      have em : IntKind.wrap .i64 (xm + 1) = xm + 1 := by rw [exm, wrap_i64 (by omega) (by omega)]
      -- behind the forgetting
      have after : ∀ (h2 : Heap) (P2 : PS) (xm2 : Int), xm2 = ((min (i + 1 - 1) kk : Nat) : Int) → Wld h2 p s 3 200 (fill 3) (fill 3) false N' P2 L' → Beside p P0 L0 h0 P2 L' h2 → Left P2 (min (i + 1 - 1) kk) kk →
          F6.wk25 (fun x1 x6p x6l x6c x8 x9 x13 x14 h => F6.wL19 (d + 1) x1 x6p x6l x6c x8 x9 x13 x14 h K) x1 (some ⟨bb, 0, none⟩) 1 cap (some ⟨p, 0, none⟩) (kk : Int) xm2 xi h2 K := by
        intro h2 P2 xm2 exm2 W2 B2 S2
        have none2 : ∀ j ∈ P2.jobs, xi ≠ (j.id : Int) := fun j hj e => by
          have := (ids_mem S2.1 j.id).1 ⟨j, hj, rfl⟩
          omega
        unfold F6.wk25 F6.Jk25
        refine result38 W2.H (fun _ => ⟨_, _, rfl, ?_⟩) fun i2 j hj e => absurd e (none2 j (List.mem_of_getElem? hj))
        rw [show ((61 : Int) != (61 : Int)) = false from rfl, bcase_false]
        refine done39 W2.H (fun _ => ldB_of rfl ?_) fun i2 j hj e => absurd e (none2 j (List.mem_of_getElem? hj))
        rw [bcase_false, ew]
        exact ih (i + 1) _ _ h2 P2 rfl exm2 (by omega) (by omega) (by omega) W2 B2 S2
      by_cases hik : i ≤ kk
      · rw [decide_eq_true (show xi ≤ (kk : Int) by omega)]
        refine forget36 W.H W.Ok (fun h => ?_) fun h2 j hj ej hd H2 Ok2 O2 => ldB_of rfl ?_
        · exfalso
          obtain ⟨j, hj, e⟩ := (ids_mem s1 i).2 (by omega)
          rcases h with h | ⟨y, hy, -, h⟩
          · exact h j hj (by rw [exi, e])
          · rw [s3 y hy] at h; cases h
        · rw [show (!(true == true)) = false from rfl, bcase_false, bcase_true, em]
          have hji : j.id = i := by omega
          have B2 : Beside p P0 L0 h0 { P with jobs := P.jobs.filter fun z => decide (z.id ≠ j.id) } L' h2 := by
            refine B.trans ⟨fun T hT _ => O2.mono fun b hb _ => hT b (by simp only [List.mem_singleton] at hb; exact .inr (.inl hb)), Fresh.refl _ _, fun b hb => ?_⟩
            rcases hb with h | h | h | h | ⟨y, hy, h⟩
            · exact .inl (.inl h)
            · exact .inl (.inr (.inl h))
            · exact .inl (.inr (.inr (.inl h)))
            · exact .inl (.inr (.inr (.inr (.inl h))))
            · exact .inl (.inr (.inr (.inr (.inr ⟨y, (List.mem_filter.1 hy).1, h⟩))))
          have nL : P.jb ∉ L' := W.D _ (.inr (.inl rfl))
          refine after h2 _ _ (by rw [exm]; omega) ⟨W.S.only O2 (fun b hb hm => by simp only [List.mem_singleton] at hb; subst hb; exact nL hm), H2, Ok2, fun y hy => W.GO y (List.mem_filter.1 hy).1, fun b hb => W.D b ?_⟩ B2 ⟨?_, s2, fun y hy => s3 y (List.mem_filter.1 hy).1⟩
          · rcases hb with h | h | h | h | ⟨y, hy, h⟩
            · exact .inl h
            · exact .inr (.inl h)
            · exact .inr (.inr (.inl h))
            · exact .inr (.inr (.inr (.inl h)))
            · exact .inr (.inr (.inr (.inr ⟨y, (List.mem_filter.1 hy).1, h⟩)))
          · show (P.jobs.filter fun z => decide (z.id ≠ j.id)).map (·.id) = _
            rw [hji]
            have e := ids_drop (l := P.jobs) (a := i) (c := kk - i) (by rw [s1, show min (i - 1) kk + 1 = i by omega, show kk - min (i - 1) kk = kk - i + 1 by omega])
            rw [e, show min (i + 1 - 1) kk = i by omega]
      · rw [decide_eq_false (show ¬ xi ≤ (kk : Int) by omega)]
        refine forget36 W.H W.Ok (fun _ => ldB_of rfl ?_) fun h2 j hj ej hd H2 Ok2 O2 => ?_
        · rw [show (!(false == false)) = false from rfl, bcase_false, bcase_false]
          refine after h' P xm (by rw [exm]; omega) W B ⟨?_, s2, s3⟩
          rw [s1, show min (i + 1 - 1) kk = min (i - 1) kk by omega]
        · exfalso
          have := (ids_mem s1 j.id).1 ⟨j, hj, rfl⟩
          omega
    · rw [decide_eq_false (by omega), bcase_false]
      unfold F6.wk28 F6.Jk28
      dsimp only
      rw [ptrK_some]
      refine ⟨by omega, by omega, ldI_of (n := (r : Int)) (beside_rd B rb nb1 nb2) ?_⟩
      have hmk : IntKind.wrap .i64 ((kk : Int) - xm) = ((kk - min (i - 1) kk : Nat) : Int) := by rw [exm, wrap_i64 (by omega) (by omega)]; omega
      have hkk1 : IntKind.wrap .i64 ((kk : Int) + 1) = ((kk + 1 : Nat) : Int) := by rw [wrap_i64 (by omega) (by omega)]; omega
      rw [hmk, hkk1]
      refine submit35 (op := 1) (a := r) (b := 0) (c := 0) (mask := 0) (by omega) W.S W.H W.Ok W.GO W.D (.inl rfl) hr (fun h => absurd rfl h) (fun h => by omega) (by omega) (fun hF h2 O2 => ⟨_, _, rfl, ?_⟩) fun hT h2 ws A S2 H2 Ok2 GO2 bk2 D2 wl2 dn2 ee2 mu2 nb2' ql2 O2 => ⟨_, _, rfl, ?_⟩
      · rw [decide_eq_false (by omega), show (((60 : Int) == (0 : Int)) == false) = true from rfl, bcase_true, show ((60 : Int) != (0 : Int)) = true from rfl, bcase_true]
        exact cont h2 Beside.refl (B.trans (Beside.only0 O2)).O
      · rw [decide_eq_true (by omega), show (((0 : Int) == (0 : Int)) == true) = true from rfl, bcase_true, show ((0 : Int) != (0 : Int)) = false from rfl, bcase_false, s2]
        simp only [beq_self_eq_true]
        exact cont h2 Beside.refl (B.trans ⟨fun T hT _ => O2 T hT, Fresh.refl _ _, bk2⟩).O
end
end Go.Proofs.YtnofenejoebkhaaGreat.Ev
/- THE LAWS OF LAYER 21: sixty-four jobs (PoolMany). Conditions: the arguments are in their kinds' bounds. -/
namespace Go.Proofs.YtnofenejoebkhaaGreat.Ev
open Go
theorem mod_u8 {x : Int} (h : IntKind.min .u8 ≤ x ∧ x ≤ IntKind.max .u8) {d : Int} (hd : 0 < d) (hd2 : d < 1000) : ∃ k : Nat, (k : Int) < d ∧ IntKind.wrap .i64 (Int.tmod x d) = (k : Int) := by
  have ht := tmod_fit h hd
  rw [wrap_i64 (by omega) (by omega)]
  exact ⟨(Int.tmod x d).toNat, by omega, by omega⟩
theorem sum_le {l : List Jb} {f : Jb → Nat} {B : Nat} (h : ∀ j ∈ l, f j ≤ B) : (l.map f).sum ≤ B * l.length := by
  induction l with
  | nil => simp
  | cons a l ih =>
    have h1 := h a (by simp)
    have h2 := ih fun j hj => h j (by simp [hj])
    simp only [List.map_cons, List.sum_cons, List.length_cons, Nat.mul_add]
    omega
set_option maxRecDepth 100000 in
theorem law6 (h : Heap) (x0 : Int) (r0 : IntKind.min .u8 ≤ x0 ∧ x0 ≤ IntKind.max .u8) (x1 : Int) (r1 : IntKind.min .u8 ≤ x1 ∧ x1 ≤ IntKind.max .u8) : CallsH Tryz.prog 6 [.int .u8 x0, .int .u8 x1] h (Lawful h) := by
  obtain ⟨k, hk, ek⟩ := mod_u8 r0 (d := 80) (by omega) (by omega)
  obtain ⟨t, ht, et⟩ := mod_u8 r1 (d := 70) (by omega) (by omega)
  refine F6.spec _ _ h _ ?_
  unfold F6.w F6.J0
  refine known31 fun h1 O1 => ldB_of rfl ?_
  rw [Bool.not_true, bcase_false]
  refine var28 (v := 1) fun h2 g hg eg O2 => ⟨_, _, _, _, rfl, ?_⟩
  have eg' : ∀ y, y < 256 → fb g y = y.testBit 1 := fun y hy => by rw [eg y hy]; simp
  refine newK_at fun h3 A3 O3 z3 => ?_
  replace A3 : At h3 h2.size (wrow g) := A3
  refine made32 (n := 3) (room := 200) (v := 1) (by omega) (by omega) (by omega) (by omega) (by omega) A3 hg eg' fun h4 s L N r bb c S4 hr _ gL rb gbb nbL O4 => ⟨_, _, _, _, _, rfl, ?_⟩
  rw [Bool.not_true, bcase_false]
  refine new34 (s := s) (x := 2) fun h5 p P H5 e1 e2 e3 e4 e5 g5 O5 => ldP_of rfl ⟨by omega, ?_⟩
  have e1 : P.ws.length = 2 := e1
  obtain ⟨Ok5, GO5, lo5, ql5⟩ := pool_fresh (n := 3) (fo := fill 3) (N := N) (P := P) (by omega) e2 e3 e4 e5
  have S5 := S4.only0 O5
  have D5 : ∀ b, PBl p P b → b ∉ L := fun b hb hm => by have := g5 b hb; have := S4.lt b hm; omega
  have W5 : Wld h5 p s 3 200 (fill 3) (fill 3) false N P L := ⟨S5, H5, Ok5, GO5, D5⟩
  have O05 : Only [] h h5 := (((O1.trans O2 (by simp)).trans O3 (by simp)).trans O4 (by simp)).trans O5 (by simp)
  have z13 : h.size ≤ h3.size := Nat.le_trans (Nat.le_trans O1.size O2.size) O3.size
  have z4 := O4.size
  have lbb : bb < h4.size := by
    apply Classical.byContradiction
    intro hn
    have : h4[bb]? = none := Array.getElem?_eq_none (by omega)
    simp [rd, this] at rb
  have rb5 : rd h5 ⟨bb, 0, none⟩ = some (.int .u32 (r : Int)) := rd_keep rb O5 (by simp)
  have nbP : ¬ PBl p P bb := fun hb => by have := g5 bb hb; omega
  have gp : ∀ b, PBl p P b → h.size ≤ b := fun b hb => by have := g5 b hb; omega
  have gl : ∀ b ∈ L, h.size ≤ b := fun b hb => by have := gL b hb; omega
  rw [ek]
  unfold F6.wk9 F6.Jk9
  refine ⟨k + 1, ?_⟩
  refine subs_loop (h0 := h5) (P0 := P) hr rb5 nbP nbL (by omega) (fun h6 P6 W6 B6 S6 => ?_) k 1 1 h5 P rfl (by omega) (by omega) W5 Beside.refl ⟨by rw [e2]; rfl, by rw [e4]; rfl, fun j hj => by rw [e2] at hj; cases hj⟩
  obtain ⟨s1, s2, s3⟩ := S6
  obtain ⟨kk, hkk⟩ : ∃ kk, kk = min k 64 := ⟨_, rfl⟩
  rw [← hkk] at s1 s2
  have len := ids_len s1
  have emin : (if (64 : Int) < (k : Int) then (64 : Int) else (k : Int)) = (kk : Int) := by
    have := ifmin (p := 64) (q := k)
    rw [show (((64 : Nat) : Int)) = (64 : Int) from rfl] at this
    rw [this, hkk, Nat.min_comm]
  have emax : (if (kk : Int) > (1 : Int) then (kk : Int) else (1 : Int)) = ((max kk 1 : Nat) : Int) := by
    by_cases hq : (kk : Int) > 1
    · rw [if_pos hq, show max kk 1 = kk by omega]
    · rw [if_neg hq, show max kk 1 = 1 by omega]; rfl
  unfold F6.wk14 F6.Jk14
  rw [emin, emax]
  have hphi : phi 3 N P6 < max kk 1 * 262144 := by
    have h1 := sum_le (l := P6.jobs) (f := fun j => mus 3 N j.A.fs) fun j hj => (s3 j hj).2
    have h2 := W6.Ok.steals
    unfold phi
    rw [len] at h1
    omega
  -- behind the rounds
  have rest : ∀ h7, Only [] h6 h7 → CallsH Tryz.prog 37 [.pointer (some ⟨p, 0, none⟩), .int .i64 ((max kk 1 : Nat) : Int), .int .u8 1] h7 fun v7 h8 => ldB (some v7) fun b9 => bcase (!b9) (Lawful h (.bool false) h8) (F6.wk19 x1 (some ⟨bb, 0, none⟩) 1 c (some ⟨p, 0, none⟩) (kk : Int) 0 1 h8 (Lawful h)) := by
    intro h7 O7
    have W7 := W6.only0 O7
    refine rounds37 (jobs := max kk 1) (draw := 1) W7 (by omega) hphi fun h8 L8 N8 P8 W8 Pk8 all8 B8 => ldB_of rfl ?_
    rw [Bool.not_true, bcase_false]
    have BB : Beside p P L h5 P8 L8 h8 := (B6.trans (Beside.only0 O7)).trans B8
    have ids8 : P8.jobs.map (·.id) = List.range' 1 kk := by
      rw [← s1]
      have := congrArg (List.map Prod.fst) Pk8.alike.2.2
      rw [List.map_map, List.map_map] at this
      exact this
    unfold F6.wk19 F6.Jk19
    refine ⟨t + 1 + 1, ?_⟩
    refine left_loop (h0 := h5) (P0 := P) (t := t) (Pk8.ex.isN hr) rb5 nbP nbL (by omega) et (by omega) (fun h9 _ O9 => ⟨rfl, ?_⟩) (t + 1) 1 1 0 h8 P8 rfl (by simp) (by omega) (by omega) (by omega) W8 BB ⟨by simpa using ids8, by rw [Pk8.alike.1, s2], all8⟩
    exact O05.trans (O9 (pbl p P ++ L) (fun b hb => List.mem_append.2 (.inl (mem_pbl.2 hb))) fun b hb => List.mem_append.2 (.inr hb)) fun b hb hl => by
      rcases List.mem_append.1 hb with q | q
      · have := gp b (mem_pbl.1 q); omega
      · have := gl b q; omega
  refine bcase_of (fun e => ?_) fun e => rest h6 (Only.refl _ _)
  have e := of_decide_eq_true e
  refine forget36 (x := 1) W6.H W6.Ok (fun _ => ldB_of rfl ?_) fun h7 j hj _ hd _ _ _ => ?_
  · rw [bcase_false]
    exact rest h6 (Only.refl _ _)
  · rw [(s3 j hj).1] at hd
    cases hd
end Go.Proofs.YtnofenejoebkhaaGreat.Ev
