/- PART 5 OF WHAT THE LAW WeighAll STANDS ON: WgF4, EvO, WghA4, WgF5, WgF6, SrtA, RefF4, SrtB4. Conditions: each part names its own. -/
import Derived.Test.YtnbnlhpleomaoaaGreatG4
/- PRINTED BY PROGRAM: what each of these functions does, computed over heaps by the evaluator, and that its calls do so. Conditions: none. -/
namespace Go.Proofs.YtnbnlhpleomaoaaGreat.Ev
open Go
-- (spinney/weigh.looker).holds
namespace F62
def T : Hint := ⟨[], []⟩
noncomputable def body : Code := (Tryz.f62.body).getD .skip
def J0 (x0_0 : Option Addr) (x0_1 x1 : Int) (h : Heap) (K : KK) : Prop :=
  newK h (.cells #[(.pointer x0_0), (.int .u32 x0_1)] 137) (fun b1 h2 => ldP (rd h2 (Addr.add (Addr.mk b1 0 none) 0)) (fun p3 => ldI .u32 (rd h2 (Addr.add (Addr.mk b1 0 none) 1)) (fun n4 => CallsH Tryz.prog 80 [(.pointer p3), (.int .u32 n4), (.int .u8 x1)] h2 (fun v5 h6 => (∃ b7 : Bool, ∃ n8 : Int, v5 = (.tuple #[(.bool b7), (.int .i64 n8)]) ∧ K (.bool b7) h6)))))
theorem E0 (S : Stop) (x0_0 : Option Addr) (x0_1 x1 : Int) (h : Heap) (K : KK) : (E Tryz.prog X T S body (fin Tryz.prog Tryz.f62.results.toList K) (args0 0 [(.agg #[(.pointer x0_0), (.int .u32 x0_1)]), (.int .u8 x1)]) h) = J0 x0_0 x0_1 x1 h K := by kernel_rfl
def w (x0_0 : Option Addr) (x0_1 x1 : Int) (h : Heap) (K : KK) : Prop :=
  J0 x0_0 x0_1 x1 h K
theorem e0 (K : KK) (x0_0 : Option Addr) (x0_1 x1 : Int) (h : Heap) : (E Tryz.prog X T S0 body (fin Tryz.prog Tryz.f62.results.toList K) (args0 0 [(.agg #[(.pointer x0_0), (.int .u32 x0_1)]), (.int .u8 x1)]) h) = w x0_0 x0_1 x1 h K := (E0 S0 x0_0 x0_1 x1 h K).trans (rfl)
theorem hb : Tryz.f62.body = some body := by kernel_rfl
theorem ok : okCode T Tryz.f62.ntmps body = true := by kernel_rfl
theorem spec (x0_0 : Option Addr) (x0_1 : Int) (x1 : Int) (h : Heap) (K : KK) (H : w x0_0 x0_1 x1 h K) : CallsH Tryz.prog 62 [(.agg #[(.pointer x0_0), (.int .u32 x0_1)]), (.int .u8 x1)] h K :=
  calls_of_E (T := T) Xok mix Tryz.func62 hb ok rfl (by rw [e0]; exact H)
end F62
-- spinney/weigh.costs
namespace F61
def T : Hint := ⟨[(3, [1, 2, 7, 14, 15]), (8, [1, 2, 7, 8, 9, 14, 15, 23, 24, 25]), (12, [1, 2, 7, 8, 9, 14, 15])], []⟩
noncomputable def body : Code := (Tryz.f61.body).getD .skip
noncomputable def en (S : Stop) (p : List Nat) (κ : XK) : Fr → Heap → Prop := E Tryz.prog X T S (sub body p) κ
noncomputable def ln (S : Stop) (p : List Nat) (κ : XK) (n : Nat) : Fr → Heap → Prop := loopN S (E Tryz.prog X T S (sub body p)) (cutQ T (sub body p)) κ n
def fn (K : KK) : XK := fin Tryz.prog Tryz.f61.results.toList K
noncomputable def c0 (S : Stop) (K : KK) : XK := seqN S (cutQ T (sub body [1, 1, 1])) (en S [1, 1, 1] (fn K)) (fn K)
noncomputable def c1 (S : Stop) (K : KK) : XK := blockN 0 (c0 S K)
noncomputable def c2 (S : Stop) (n3 : Nat) (K : KK) : XK := backN S (cutQ T (sub body [1, 1, 0, 1, 0, 0])) (ln S [1, 1, 0, 1, 0, 0] (c1 S K) n3) (c1 S K)
noncomputable def c3 (S : Stop) (n3 : Nat) (K : KK) : XK := seqN S (cutQ T (sub body [1, 1, 0, 1, 0, 0, 1, 1, 1])) (en S [1, 1, 0, 1, 0, 0, 1, 1, 1] (c2 S n3 K)) (c2 S n3 K)
noncomputable def c4 (S : Stop) (n3 : Nat) (K : KK) : XK := blockN 1 (c3 S n3 K)
noncomputable def c5 (S : Stop) (n3 : Nat) (K : KK) : XK := seqN S (cutQ T (sub body [1, 1, 0, 1, 0, 0, 1, 1, 0, 0, 1, 1, 1, 1])) (en S [1, 1, 0, 1, 0, 0, 1, 1, 0, 0, 1, 1, 1, 1] (c4 S n3 K)) (c4 S n3 K)
noncomputable def c6 (S : Stop) (n3 : Nat) (K : KK) : XK := blockN 2 (c5 S n3 K)
noncomputable def c7 (S : Stop) (n3 : Nat) (n8 : Nat) (K : KK) : XK := backN S (cutQ T (sub body [1, 1, 0, 1, 0, 0, 1, 1, 0, 0, 1, 1, 1, 0, 1, 0, 0])) (ln S [1, 1, 0, 1, 0, 0, 1, 1, 0, 0, 1, 1, 1, 0, 1, 0, 0] (c6 S n3 K) n8) (c6 S n3 K)
def f3 (x1 : Value) (x2p : Option Addr) (x2l x2c : Nat) (x7 : Option Nat) (x14 x15 : Int) : Fr := [(1, x1), (2, (.slice x2p x2l x2c)), (7, (.map x7)), (14, (.int .i64 x14)), (15, (.int .i64 x15))]
def f8 (x1 : Value) (x2p : Option Addr) (x2l x2c : Nat) (x7 : Option Nat) (x8 x9 x14 x15 : Int) (x23p : Option Addr) (x23l x23c : Nat) (x24 x25 : Int) : Fr := [(1, x1), (2, (.slice x2p x2l x2c)), (7, (.map x7)), (8, (.int .i64 x8)), (9, (.int .i64 x9)), (14, (.int .i64 x14)), (15, (.int .i64 x15)), (23, (.slice x23p x23l x23c)), (24, (.int .i64 x24)), (25, (.int .i64 x25))]
def f12 (x1 : Value) (x2p : Option Addr) (x2l x2c : Nat) (x7 : Option Nat) (x8 x9 x14 x15 : Int) : Fr := [(1, x1), (2, (.slice x2p x2l x2c)), (7, (.map x7)), (8, (.int .i64 x8)), (9, (.int .i64 x9)), (14, (.int .i64 x14)), (15, (.int .i64 x15))]
def J0 (k3 : Value → (Option Addr) → Nat → Nat → (Option Nat) → Int → Int → Heap → Prop) (x0 : Int) (x1 : Value) (x2p : Option Addr) (x2l x2c : Nat) (h : Heap) (_K : KK) : Prop :=
  newK h (.map #[] 0) (fun b1 h2 => (0 ≤ x0 ∧ k3 x1 x2p x2l x2c (some b1) (IntKind.wrap .i64 ((1 : Int) * 2 ^ (min (Int.toNat x0) (IntKind.bits .i64)))) (0 : Int) h2))
theorem E0 (S : Stop) (x0 : Int) (x1 : Value) (x2p : Option Addr) (x2l x2c : Nat) (h : Heap) (K : KK) : (E Tryz.prog X T S body (fin Tryz.prog Tryz.f61.results.toList K) (args0 0 [(.int .i64 x0), x1, (.slice x2p x2l x2c)]) h) = J0 (fun x1 x2p x2l x2c x7 x14 x15 h => S (en S [1, 1, 0, 1] (c0 S K)) (f3 x1 x2p x2l x2c x7 x14 x15) h) x0 x1 x2p x2l x2c h K := by kernel_rfl
def Jk3 (lp3 : Value → (Option Addr) → Nat → Nat → (Option Nat) → Int → Int → Heap → Prop) (x1 : Value) (x2p : Option Addr) (x2l x2c : Nat) (x7 : Option Nat) (x14 x15 : Int) (h : Heap) (_K : KK) : Prop :=
  lp3 x1 x2p x2l x2c x7 x14 x15 h
theorem Ek3 (S : Stop) (x1 : Value) (x2p : Option Addr) (x2l x2c : Nat) (x7 : Option Nat) (x14 x15 : Int) (h : Heap) (K : KK) : (en S [1, 1, 0, 1] (c0 S K) (f3 x1 x2p x2l x2c x7 x14 x15) h) = Jk3 (fun x1 x2p x2l x2c x7 x14 x15 h => ∃ n, S (ln S [1, 1, 0, 1, 0, 0] (c1 S K) n) (f3 x1 x2p x2l x2c x7 x14 x15) h) x1 x2p x2l x2c x7 x14 x15 h K := by kernel_rfl
def JL3 (bk3 : Value → (Option Addr) → Nat → Nat → (Option Nat) → Int → Int → Heap → Prop) (k8 : Value → (Option Addr) → Nat → Nat → (Option Nat) → Int → Int → Int → Int → (Option Addr) → Nat → Nat → Int → Int → Heap → Prop) (x1 : Value) (x2p : Option Addr) (x2l x2c : Nat) (x7 : Option Nat) (x14 x15 : Int) (h : Heap) (K : KK) : Prop :=
  bcase (decide (x15 < x14)) (dynK Tryz.prog X x1 [(.int .u8 (IntKind.wrap .u8 x15))] h (fun v1 h2 => ldB (some v1) (fun b3 => bcase (!b3) (bk3 x1 x2p x2l x2c x7 x14 (IntKind.wrap .i64 (x15 + (1 : Int))) h2) (k8 x1 x2p x2l x2c x7 x15 (0 : Int) x14 x15 x2p x2l x2c (Nat.cast x2l : Int) (0 : Int) h2)))) (K (.map x7) h)
theorem EL3 (S : Stop) (n3 : Nat) (x1 : Value) (x2p : Option Addr) (x2l x2c : Nat) (x7 : Option Nat) (x14 x15 : Int) (h : Heap) (K : KK) : (en S [1, 1, 0, 1, 0, 0] (c2 S n3 K) (f3 x1 x2p x2l x2c x7 x14 x15) h) = JL3 (fun x1 x2p x2l x2c x7 x14 x15 h => S (ln S [1, 1, 0, 1, 0, 0] (c1 S K) n3) (f3 x1 x2p x2l x2c x7 x14 x15) h) (fun x1 x2p x2l x2c x7 x8 x9 x14 x15 x23p x23l x23c x24 x25 h => S (en S [1, 1, 0, 1, 0, 0, 1, 1, 0, 0, 1, 1, 1, 0, 1] (c5 S n3 K)) (f8 x1 x2p x2l x2c x7 x8 x9 x14 x15 x23p x23l x23c x24 x25) h) x1 x2p x2l x2c x7 x14 x15 h K := by kernel_rfl
def Jk8 (lp8 : Value → (Option Addr) → Nat → Nat → (Option Nat) → Int → Int → Int → Int → (Option Addr) → Nat → Nat → Int → Int → Heap → Prop) (x1 : Value) (x2p : Option Addr) (x2l x2c : Nat) (x7 : Option Nat) (x8 x9 x14 x15 : Int) (x23p : Option Addr) (x23l x23c : Nat) (x24 x25 : Int) (h : Heap) (_K : KK) : Prop :=
  lp8 x1 x2p x2l x2c x7 x8 x9 x14 x15 x23p x23l x23c x24 x25 h
theorem Ek8 (S : Stop) (n3 : Nat) (x1 : Value) (x2p : Option Addr) (x2l x2c : Nat) (x7 : Option Nat) (x8 x9 x14 x15 : Int) (x23p : Option Addr) (x23l x23c : Nat) (x24 x25 : Int) (h : Heap) (K : KK) : (en S [1, 1, 0, 1, 0, 0, 1, 1, 0, 0, 1, 1, 1, 0, 1] (c5 S n3 K) (f8 x1 x2p x2l x2c x7 x8 x9 x14 x15 x23p x23l x23c x24 x25) h) = Jk8 (fun x1 x2p x2l x2c x7 x8 x9 x14 x15 x23p x23l x23c x24 x25 h => ∃ n, S (ln S [1, 1, 0, 1, 0, 0, 1, 1, 0, 0, 1, 1, 1, 0, 1, 0, 0] (c6 S n3 K) n) (f8 x1 x2p x2l x2c x7 x8 x9 x14 x15 x23p x23l x23c x24 x25) h) x1 x2p x2l x2c x7 x8 x9 x14 x15 x23p x23l x23c x24 x25 h K := by kernel_rfl
def JL8 (bk8 : Value → (Option Addr) → Nat → Nat → (Option Nat) → Int → Int → Int → Int → (Option Addr) → Nat → Nat → Int → Int → Heap → Prop) (k12 : Value → (Option Addr) → Nat → Nat → (Option Nat) → Int → Int → Int → Int → Heap → Prop) (x1 : Value) (x2p : Option Addr) (x2l x2c : Nat) (x7 : Option Nat) (x8 x9 x14 x15 : Int) (x23p : Option Addr) (x23l x23c : Nat) (x24 x25 : Int) (h : Heap) (_K : KK) : Prop :=
  bcase (decide (x25 < x24)) (ptrK x23p (fun a1 => (0 ≤ x25 ∧ x25 < (Nat.cast x23l : Int) ∧ ldI .i64 (rd h (Addr.add a1 (Int.toNat x25 * 1))) (fun n2 => (0 ≤ x25 ∧ bk8 x1 x2p x2l x2c x7 x8 (IntKind.wrap .i64 (x9 + (IntKind.wrap .i64 ((bitsI .and .i64 (Int.fdiv x8 (2 ^ (min (Int.toNat x25) (IntKind.bits .i64)))) (1 : Int)) * n2)))) x14 x15 x23p x23l x23c x24 (IntKind.wrap .i64 (x25 + (1 : Int))) h))))) (k12 x1 x2p x2l x2c x7 x8 x9 x14 x15 h)
theorem EL8 (S : Stop) (n3 : Nat) (n8 : Nat) (x1 : Value) (x2p : Option Addr) (x2l x2c : Nat) (x7 : Option Nat) (x8 x9 x14 x15 : Int) (x23p : Option Addr) (x23l x23c : Nat) (x24 x25 : Int) (h : Heap) (K : KK) : (en S [1, 1, 0, 1, 0, 0, 1, 1, 0, 0, 1, 1, 1, 0, 1, 0, 0] (c7 S n3 n8 K) (f8 x1 x2p x2l x2c x7 x8 x9 x14 x15 x23p x23l x23c x24 x25) h) = JL8 (fun x1 x2p x2l x2c x7 x8 x9 x14 x15 x23p x23l x23c x24 x25 h => S (ln S [1, 1, 0, 1, 0, 0, 1, 1, 0, 0, 1, 1, 1, 0, 1, 0, 0] (c6 S n3 K) n8) (f8 x1 x2p x2l x2c x7 x8 x9 x14 x15 x23p x23l x23c x24 x25) h) (fun x1 x2p x2l x2c x7 x8 x9 x14 x15 h => S (en S [1, 1, 0, 1, 0, 0, 1, 1, 0, 0, 1, 1, 1, 1] (c4 S n3 K)) (f12 x1 x2p x2l x2c x7 x8 x9 x14 x15) h) x1 x2p x2l x2c x7 x8 x9 x14 x15 x23p x23l x23c x24 x25 h K := by kernel_rfl
def Jk12 (bk3 : Value → (Option Addr) → Nat → Nat → (Option Nat) → Int → Int → Heap → Prop) (x1 : Value) (x2p : Option Addr) (x2l x2c : Nat) (x7 : Option Nat) (x8 x9 x14 x15 : Int) (h : Heap) (_K : KK) : Prop :=
  updK h x7 .u8 .u8 (IntKind.wrap .u8 x8) (.int .i64 x9) (fun h1 => bk3 x1 x2p x2l x2c x7 x14 (IntKind.wrap .i64 (x15 + (1 : Int))) h1)
theorem Ek12 (S : Stop) (n3 : Nat) (x1 : Value) (x2p : Option Addr) (x2l x2c : Nat) (x7 : Option Nat) (x8 x9 x14 x15 : Int) (h : Heap) (K : KK) : (en S [1, 1, 0, 1, 0, 0, 1, 1, 0, 0, 1, 1, 1, 1] (c4 S n3 K) (f12 x1 x2p x2l x2c x7 x8 x9 x14 x15) h) = Jk12 (fun x1 x2p x2l x2c x7 x14 x15 h => S (ln S [1, 1, 0, 1, 0, 0] (c1 S K) n3) (f3 x1 x2p x2l x2c x7 x14 x15) h) x1 x2p x2l x2c x7 x8 x9 x14 x15 h K := by kernel_rfl
def wk12 (bk3 : Value → (Option Addr) → Nat → Nat → (Option Nat) → Int → Int → Heap → Prop) (x1 : Value) (x2p : Option Addr) (x2l x2c : Nat) (x7 : Option Nat) (x8 x9 x14 x15 : Int) (h : Heap) (K : KK) : Prop :=
  Jk12 bk3 x1 x2p x2l x2c x7 x8 x9 x14 x15 h K
theorem ek12 (K : KK) (n3 : Nat) (bk3 : Value → (Option Addr) → Nat → Nat → (Option Nat) → Int → Int → Heap → Prop) (hb3 : ∀ (x1 : Value) (x2p : Option Addr) (x2l x2c : Nat) (x7 : Option Nat) (x14 x15 : Int) (h : Heap), (ln S0 [1, 1, 0, 1, 0, 0] (c1 S0 K) n3 (f3 x1 x2p x2l x2c x7 x14 x15) h) = bk3 x1 x2p x2l x2c x7 x14 x15 h) (x1 : Value) (x2p : Option Addr) (x2l x2c : Nat) (x7 : Option Nat) (x8 x9 x14 x15 : Int) (h : Heap) : (en S0 [1, 1, 0, 1, 0, 0, 1, 1, 0, 0, 1, 1, 1, 1] (c4 S0 n3 K) (f12 x1 x2p x2l x2c x7 x8 x9 x14 x15) h) = wk12 bk3 x1 x2p x2l x2c x7 x8 x9 x14 x15 h K := (Ek12 S0 n3 x1 x2p x2l x2c x7 x8 x9 x14 x15 h K).trans (cg1 (fun q0 => Jk12 q0 x1 x2p x2l x2c x7 x8 x9 x14 x15 h K) (by funext x1 x2p x2l x2c x7 x14 x15 h; exact hb3 x1 x2p x2l x2c x7 x14 x15 h))
def wL8 (bk3 : Value → (Option Addr) → Nat → Nat → (Option Nat) → Int → Int → Heap → Prop) : Nat → Value → (Option Addr) → Nat → Nat → (Option Nat) → Int → Int → Int → Int → (Option Addr) → Nat → Nat → Int → Int → Heap → KK → Prop
  | 0, _, _, _, _, _, _, _, _, _, _, _, _, _, _, _, _ => False
  | n + 1, x1, x2p, x2l, x2c, x7, x8, x9, x14, x15, x23p, x23l, x23c, x24, x25, h, K => JL8 (fun x1 x2p x2l x2c x7 x8 x9 x14 x15 x23p x23l x23c x24 x25 h => wL8 bk3 n x1 x2p x2l x2c x7 x8 x9 x14 x15 x23p x23l x23c x24 x25 h K) (fun x1 x2p x2l x2c x7 x8 x9 x14 x15 h => wk12 bk3 x1 x2p x2l x2c x7 x8 x9 x14 x15 h K) x1 x2p x2l x2c x7 x8 x9 x14 x15 x23p x23l x23c x24 x25 h K
theorem eL8 (K : KK) (n3 : Nat) (bk3 : Value → (Option Addr) → Nat → Nat → (Option Nat) → Int → Int → Heap → Prop) (hb3 : ∀ (x1 : Value) (x2p : Option Addr) (x2l x2c : Nat) (x7 : Option Nat) (x14 x15 : Int) (h : Heap), (ln S0 [1, 1, 0, 1, 0, 0] (c1 S0 K) n3 (f3 x1 x2p x2l x2c x7 x14 x15) h) = bk3 x1 x2p x2l x2c x7 x14 x15 h) : ∀ (n : Nat) (x1 : Value) (x2p : Option Addr) (x2l x2c : Nat) (x7 : Option Nat) (x8 x9 x14 x15 : Int) (x23p : Option Addr) (x23l x23c : Nat) (x24 x25 : Int) (h : Heap), (ln S0 [1, 1, 0, 1, 0, 0, 1, 1, 0, 0, 1, 1, 1, 0, 1, 0, 0] (c6 S0 n3 K) n (f8 x1 x2p x2l x2c x7 x8 x9 x14 x15 x23p x23l x23c x24 x25) h) = wL8 bk3 n x1 x2p x2l x2c x7 x8 x9 x14 x15 x23p x23l x23c x24 x25 h K
  | 0, _, _, _, _, _, _, _, _, _, _, _, _, _, _, _ => rfl
  | n + 1, x1, x2p, x2l, x2c, x7, x8, x9, x14, x15, x23p, x23l, x23c, x24, x25, h => (EL8 S0 n3 n x1 x2p x2l x2c x7 x8 x9 x14 x15 x23p x23l x23c x24 x25 h K).trans (cg2 (fun q0 q1 => JL8 q0 q1 x1 x2p x2l x2c x7 x8 x9 x14 x15 x23p x23l x23c x24 x25 h K) (by funext x1 x2p x2l x2c x7 x8 x9 x14 x15 x23p x23l x23c x24 x25 h; exact (fun x1 x2p x2l x2c x7 x8 x9 x14 x15 x23p x23l x23c x24 x25 h => eL8 K n3 bk3 hb3 n x1 x2p x2l x2c x7 x8 x9 x14 x15 x23p x23l x23c x24 x25 h) x1 x2p x2l x2c x7 x8 x9 x14 x15 x23p x23l x23c x24 x25 h) (by funext x1 x2p x2l x2c x7 x8 x9 x14 x15 h; exact ek12 K n3 bk3 hb3 x1 x2p x2l x2c x7 x8 x9 x14 x15 h))
def wk8 (bk3 : Value → (Option Addr) → Nat → Nat → (Option Nat) → Int → Int → Heap → Prop) (x1 : Value) (x2p : Option Addr) (x2l x2c : Nat) (x7 : Option Nat) (x8 x9 x14 x15 : Int) (x23p : Option Addr) (x23l x23c : Nat) (x24 x25 : Int) (h : Heap) (K : KK) : Prop :=
  Jk8 (fun x1 x2p x2l x2c x7 x8 x9 x14 x15 x23p x23l x23c x24 x25 h => ∃ m, wL8 bk3 m x1 x2p x2l x2c x7 x8 x9 x14 x15 x23p x23l x23c x24 x25 h K) x1 x2p x2l x2c x7 x8 x9 x14 x15 x23p x23l x23c x24 x25 h K
theorem ek8 (K : KK) (n3 : Nat) (bk3 : Value → (Option Addr) → Nat → Nat → (Option Nat) → Int → Int → Heap → Prop) (hb3 : ∀ (x1 : Value) (x2p : Option Addr) (x2l x2c : Nat) (x7 : Option Nat) (x14 x15 : Int) (h : Heap), (ln S0 [1, 1, 0, 1, 0, 0] (c1 S0 K) n3 (f3 x1 x2p x2l x2c x7 x14 x15) h) = bk3 x1 x2p x2l x2c x7 x14 x15 h) (x1 : Value) (x2p : Option Addr) (x2l x2c : Nat) (x7 : Option Nat) (x8 x9 x14 x15 : Int) (x23p : Option Addr) (x23l x23c : Nat) (x24 x25 : Int) (h : Heap) : (en S0 [1, 1, 0, 1, 0, 0, 1, 1, 0, 0, 1, 1, 1, 0, 1] (c5 S0 n3 K) (f8 x1 x2p x2l x2c x7 x8 x9 x14 x15 x23p x23l x23c x24 x25) h) = wk8 bk3 x1 x2p x2l x2c x7 x8 x9 x14 x15 x23p x23l x23c x24 x25 h K := (Ek8 S0 n3 x1 x2p x2l x2c x7 x8 x9 x14 x15 x23p x23l x23c x24 x25 h K).trans (cg1 (fun q0 => Jk8 q0 x1 x2p x2l x2c x7 x8 x9 x14 x15 x23p x23l x23c x24 x25 h K) (by funext x1 x2p x2l x2c x7 x8 x9 x14 x15 x23p x23l x23c x24 x25 h; exact ex_congr fun m => eL8 K n3 bk3 hb3 m x1 x2p x2l x2c x7 x8 x9 x14 x15 x23p x23l x23c x24 x25 h))
def wL3 : Nat → Value → (Option Addr) → Nat → Nat → (Option Nat) → Int → Int → Heap → KK → Prop
  | 0, _, _, _, _, _, _, _, _, _ => False
  | n + 1, x1, x2p, x2l, x2c, x7, x14, x15, h, K => JL3 (fun x1 x2p x2l x2c x7 x14 x15 h => wL3 n x1 x2p x2l x2c x7 x14 x15 h K) (fun x1 x2p x2l x2c x7 x8 x9 x14 x15 x23p x23l x23c x24 x25 h => wk8 (fun x1 x2p x2l x2c x7 x14 x15 h => wL3 n x1 x2p x2l x2c x7 x14 x15 h K) x1 x2p x2l x2c x7 x8 x9 x14 x15 x23p x23l x23c x24 x25 h K) x1 x2p x2l x2c x7 x14 x15 h K
theorem eL3 (K : KK) : ∀ (n : Nat) (x1 : Value) (x2p : Option Addr) (x2l x2c : Nat) (x7 : Option Nat) (x14 x15 : Int) (h : Heap), (ln S0 [1, 1, 0, 1, 0, 0] (c1 S0 K) n (f3 x1 x2p x2l x2c x7 x14 x15) h) = wL3 n x1 x2p x2l x2c x7 x14 x15 h K
  | 0, _, _, _, _, _, _, _, _ => rfl
  | n + 1, x1, x2p, x2l, x2c, x7, x14, x15, h => (EL3 S0 n x1 x2p x2l x2c x7 x14 x15 h K).trans (cg2 (fun q0 q1 => JL3 q0 q1 x1 x2p x2l x2c x7 x14 x15 h K) (by funext x1 x2p x2l x2c x7 x14 x15 h; exact (fun x1 x2p x2l x2c x7 x14 x15 h => eL3 K n x1 x2p x2l x2c x7 x14 x15 h) x1 x2p x2l x2c x7 x14 x15 h) (by funext x1 x2p x2l x2c x7 x8 x9 x14 x15 x23p x23l x23c x24 x25 h; exact ek8 K n (fun x1 x2p x2l x2c x7 x14 x15 h => wL3 n x1 x2p x2l x2c x7 x14 x15 h K) (fun x1 x2p x2l x2c x7 x14 x15 h => eL3 K n x1 x2p x2l x2c x7 x14 x15 h) x1 x2p x2l x2c x7 x8 x9 x14 x15 x23p x23l x23c x24 x25 h))
def wk3 (x1 : Value) (x2p : Option Addr) (x2l x2c : Nat) (x7 : Option Nat) (x14 x15 : Int) (h : Heap) (K : KK) : Prop :=
  Jk3 (fun x1 x2p x2l x2c x7 x14 x15 h => ∃ m, wL3 m x1 x2p x2l x2c x7 x14 x15 h K) x1 x2p x2l x2c x7 x14 x15 h K
theorem ek3 (K : KK) (x1 : Value) (x2p : Option Addr) (x2l x2c : Nat) (x7 : Option Nat) (x14 x15 : Int) (h : Heap) : (en S0 [1, 1, 0, 1] (c0 S0 K) (f3 x1 x2p x2l x2c x7 x14 x15) h) = wk3 x1 x2p x2l x2c x7 x14 x15 h K := (Ek3 S0 x1 x2p x2l x2c x7 x14 x15 h K).trans (cg1 (fun q0 => Jk3 q0 x1 x2p x2l x2c x7 x14 x15 h K) (by funext x1 x2p x2l x2c x7 x14 x15 h; exact ex_congr fun m => eL3 K m x1 x2p x2l x2c x7 x14 x15 h))
def w (x0 : Int) (x1 : Value) (x2p : Option Addr) (x2l x2c : Nat) (h : Heap) (K : KK) : Prop :=
  J0 (fun x1 x2p x2l x2c x7 x14 x15 h => wk3 x1 x2p x2l x2c x7 x14 x15 h K) x0 x1 x2p x2l x2c h K
theorem e0 (K : KK) (x0 : Int) (x1 : Value) (x2p : Option Addr) (x2l x2c : Nat) (h : Heap) : (E Tryz.prog X T S0 body (fin Tryz.prog Tryz.f61.results.toList K) (args0 0 [(.int .i64 x0), x1, (.slice x2p x2l x2c)]) h) = w x0 x1 x2p x2l x2c h K := (E0 S0 x0 x1 x2p x2l x2c h K).trans (cg1 (fun q0 => J0 q0 x0 x1 x2p x2l x2c h K) (by funext x1 x2p x2l x2c x7 x14 x15 h; exact ek3 K x1 x2p x2l x2c x7 x14 x15 h))
theorem hb : Tryz.f61.body = some body := by kernel_rfl
theorem ok : okCode T Tryz.f61.ntmps body = true := by kernel_rfl
theorem spec (x0 : Int) (x1 : Value) (x2p : Option Addr) (x2l : Nat) (x2c : Nat) (h : Heap) (K : KK) (H : w x0 x1 x2p x2l x2c h K) : CallsH Tryz.prog 61 [(.int .i64 x0), x1, (.slice x2p x2l x2c)] h K :=
  calls_of_E (T := T) Xok mix Tryz.func61 hb ok rfl (by rw [e0]; exact H)
end F61
-- spinney/weigh.all
namespace F39
def T : Hint := ⟨[], []⟩
noncomputable def body : Code := (Tryz.f39.body).getD .skip
def J0 (x0 : Addr) (x1 : Int) (x2p : Option Addr) (x2l x2c : Nat) (h : Heap) (K : KK) : Prop :=
  CallsH Tryz.prog 58 [(.pointer (some x0))] h (fun v1 h2 => ldI .i64 (some v1) (fun n3 => CallsH Tryz.prog 61 [(.int .i64 n3), (.func (.func 62) #[(.agg #[(.pointer (some x0)), (.int .u32 x1)])] #[]), (.slice x2p x2l x2c)] h2 (fun v4 h5 => ldM (some v4) (fun r6 => K (.map r6) h5))))
theorem E0 (S : Stop) (x0 : Addr) (x1 : Int) (x2p : Option Addr) (x2l x2c : Nat) (h : Heap) (K : KK) : (E Tryz.prog X T S body (fin Tryz.prog Tryz.f39.results.toList K) (args0 0 [(.pointer (some x0)), (.int .u32 x1), (.slice x2p x2l x2c)]) h) = J0 x0 x1 x2p x2l x2c h K := by kernel_rfl
def w (x0 : Addr) (x1 : Int) (x2p : Option Addr) (x2l x2c : Nat) (h : Heap) (K : KK) : Prop :=
  J0 x0 x1 x2p x2l x2c h K
theorem e0 (K : KK) (x0 : Addr) (x1 : Int) (x2p : Option Addr) (x2l x2c : Nat) (h : Heap) : (E Tryz.prog X T S0 body (fin Tryz.prog Tryz.f39.results.toList K) (args0 0 [(.pointer (some x0)), (.int .u32 x1), (.slice x2p x2l x2c)]) h) = w x0 x1 x2p x2l x2c h K := (E0 S0 x0 x1 x2p x2l x2c h K).trans (rfl)
theorem hb : Tryz.f39.body = some body := by kernel_rfl
theorem ok : okCode T Tryz.f39.ntmps body = true := by kernel_rfl
theorem spec (x0 : Addr) (x1 : Int) (x2p : Option Addr) (x2l : Nat) (x2c : Nat) (h : Heap) (K : KK) (H : w x0 x1 x2p x2l x2c h K) : CallsH Tryz.prog 39 [(.pointer (some x0)), (.int .u32 x1), (.slice x2p x2l x2c)] h K :=
  calls_of_E (T := T) Xok mix Tryz.func39 hb ok rfl (by rw [e0]; exact H)
end F39
-- spinney/weigh.refuses
namespace F38
def T : Hint := ⟨[], []⟩
noncomputable def body : Code := (Tryz.f38.body).getD .skip
def J0 (x0 : Addr) (x1 : Int) (x2p : Option Addr) (x2l x2c : Nat) (h : Heap) (K : KK) : Prop :=
  CallsH Tryz.prog 21 [(.pointer (some x0)), (.int .u32 x1)] h (fun v1 h2 => ldB (some v1) (fun b3 => bcase (!b3) (K (.int .i64 (101 : Int)) h2) (CallsH Tryz.prog 58 [(.pointer (some x0))] h2 (fun v4 h5 => ldI .i64 (some v4) (fun n6 => bcase ((Nat.cast x2l : Int) != n6) (K (.int .i64 (40 : Int)) h5) (CallsH Tryz.prog 59 [(.slice x2p x2l x2c), (.func (.func 60) #[] #[])] h5 (fun v7 h8 => ldB (some v7) (fun b9 => bcase b9 (K (.int .i64 (40 : Int)) h8) (K (.int .i64 (0 : Int)) h8)))))))))
theorem E0 (S : Stop) (x0 : Addr) (x1 : Int) (x2p : Option Addr) (x2l x2c : Nat) (h : Heap) (K : KK) : (E Tryz.prog X T S body (fin Tryz.prog Tryz.f38.results.toList K) (args0 0 [(.pointer (some x0)), (.int .u32 x1), (.slice x2p x2l x2c)]) h) = J0 x0 x1 x2p x2l x2c h K := by kernel_rfl
def w (x0 : Addr) (x1 : Int) (x2p : Option Addr) (x2l x2c : Nat) (h : Heap) (K : KK) : Prop :=
  J0 x0 x1 x2p x2l x2c h K
theorem e0 (K : KK) (x0 : Addr) (x1 : Int) (x2p : Option Addr) (x2l x2c : Nat) (h : Heap) : (E Tryz.prog X T S0 body (fin Tryz.prog Tryz.f38.results.toList K) (args0 0 [(.pointer (some x0)), (.int .u32 x1), (.slice x2p x2l x2c)]) h) = w x0 x1 x2p x2l x2c h K := (E0 S0 x0 x1 x2p x2l x2c h K).trans (rfl)
theorem hb : Tryz.f38.body = some body := by kernel_rfl
theorem ok : okCode T Tryz.f38.ntmps body = true := by kernel_rfl
theorem spec (x0 : Addr) (x1 : Int) (x2p : Option Addr) (x2l : Nat) (x2c : Nat) (h : Heap) (K : KK) (H : w x0 x1 x2p x2l x2c h K) : CallsH Tryz.prog 38 [(.pointer (some x0)), (.int .u32 x1), (.slice x2p x2l x2c)] h K :=
  calls_of_E (T := T) Xok mix Tryz.func38 hb ok rfl (by rw [e0]; exact H)
end F38
-- slices.ContainsFunc[[]int,int]
namespace F59
def T : Hint := ⟨[], []⟩
noncomputable def body : Code := (Tryz.f59.body).getD .skip
def J0 (x0p : Option Addr) (x0l x0c : Nat) (x1 : Value) (h : Heap) (K : KK) : Prop :=
  CallsH Tryz.prog 79 [(.slice x0p x0l x0c), x1] h (fun v1 h2 => ldI .i64 (some v1) (fun n3 => K (.bool (decide (n3 ≥ (0 : Int)))) h2))
theorem E0 (S : Stop) (x0p : Option Addr) (x0l x0c : Nat) (x1 : Value) (h : Heap) (K : KK) : (E Tryz.prog X T S body (fin Tryz.prog Tryz.f59.results.toList K) (args0 0 [(.slice x0p x0l x0c), x1]) h) = J0 x0p x0l x0c x1 h K := by kernel_rfl
def w (x0p : Option Addr) (x0l x0c : Nat) (x1 : Value) (h : Heap) (K : KK) : Prop :=
  J0 x0p x0l x0c x1 h K
theorem e0 (K : KK) (x0p : Option Addr) (x0l x0c : Nat) (x1 : Value) (h : Heap) : (E Tryz.prog X T S0 body (fin Tryz.prog Tryz.f59.results.toList K) (args0 0 [(.slice x0p x0l x0c), x1]) h) = w x0p x0l x0c x1 h K := (E0 S0 x0p x0l x0c x1 h K).trans (rfl)
theorem hb : Tryz.f59.body = some body := by kernel_rfl
theorem ok : okCode T Tryz.f59.ntmps body = true := by kernel_rfl
theorem spec (x0p : Option Addr) (x0l : Nat) (x0c : Nat) (x1 : Value) (h : Heap) (K : KK) (H : w x0p x0l x0c x1 h K) : CallsH Tryz.prog 59 [(.slice x0p x0l x0c), x1] h K :=
  calls_of_E (T := T) Xok mix Tryz.func59 hb ok rfl (by rw [e0]; exact H)
end F59
-- spinney/weigh.refuses$1
namespace F60
def T : Hint := ⟨[], []⟩
noncomputable def body : Code := (Tryz.f60.body).getD .skip
def J0 (x0 : Int) (h : Heap) (K : KK) : Prop :=
  bcase (decide (x0 < (-1000 : Int))) (K (.bool true) h) (K (.bool (decide (x0 > (1000 : Int)))) h)
theorem E0 (S : Stop) (x0 : Int) (h : Heap) (K : KK) : (E Tryz.prog X T S body (fin Tryz.prog Tryz.f60.results.toList K) (args0 0 [(.int .i64 x0)]) h) = J0 x0 h K := by kernel_rfl
def w (x0 : Int) (h : Heap) (K : KK) : Prop :=
  J0 x0 h K
theorem e0 (K : KK) (x0 : Int) (h : Heap) : (E Tryz.prog X T S0 body (fin Tryz.prog Tryz.f60.results.toList K) (args0 0 [(.int .i64 x0)]) h) = w x0 h K := (E0 S0 x0 h K).trans (rfl)
theorem hb : Tryz.f60.body = some body := by kernel_rfl
theorem ok : okCode T Tryz.f60.ntmps body = true := by kernel_rfl
theorem spec (x0 : Int) (h : Heap) (K : KK) (H : w x0 h K) : CallsH Tryz.prog 60 [(.int .i64 x0)] h K :=
  calls_of_E (T := T) Xok mix Tryz.func60 hb ok rfl (by rw [e0]; exact H)
end F60
-- slices.IndexFunc[[]int,int]
namespace F79
def T : Hint := ⟨[(2, [0, 1, 7, 8])], []⟩
noncomputable def body : Code := (Tryz.f79.body).getD .skip
noncomputable def en (S : Stop) (p : List Nat) (κ : XK) : Fr → Heap → Prop := E Tryz.prog X T S (sub body p) κ
noncomputable def ln (S : Stop) (p : List Nat) (κ : XK) (n : Nat) : Fr → Heap → Prop := loopN S (E Tryz.prog X T S (sub body p)) (cutQ T (sub body p)) κ n
def fn (K : KK) : XK := fin Tryz.prog Tryz.f79.results.toList K
noncomputable def c0 (S : Stop) (K : KK) : XK := seqN S (cutQ T (sub body [1, 1])) (en S [1, 1] (fn K)) (fn K)
noncomputable def c1 (S : Stop) (K : KK) : XK := blockN 0 (c0 S K)
noncomputable def c2 (S : Stop) (n2 : Nat) (K : KK) : XK := backN S (cutQ T (sub body [1, 0, 1, 0, 0])) (ln S [1, 0, 1, 0, 0] (c1 S K) n2) (c1 S K)
def f2 (x0p : Option Addr) (x0l x0c : Nat) (x1 : Value) (x7 x8 : Int) : Fr := [(0, (.slice x0p x0l x0c)), (1, x1), (7, (.int .i64 x7)), (8, (.int .i64 x8))]
def J0 (k2 : (Option Addr) → Nat → Nat → Value → Int → Int → Heap → Prop) (x0p : Option Addr) (x0l x0c : Nat) (x1 : Value) (h : Heap) (_K : KK) : Prop :=
  k2 x0p x0l x0c x1 (Nat.cast x0l : Int) (0 : Int) h
theorem E0 (S : Stop) (x0p : Option Addr) (x0l x0c : Nat) (x1 : Value) (h : Heap) (K : KK) : (E Tryz.prog X T S body (fin Tryz.prog Tryz.f79.results.toList K) (args0 0 [(.slice x0p x0l x0c), x1]) h) = J0 (fun x0p x0l x0c x1 x7 x8 h => S (en S [1, 0, 1] (c0 S K)) (f2 x0p x0l x0c x1 x7 x8) h) x0p x0l x0c x1 h K := by kernel_rfl
def Jk2 (lp2 : (Option Addr) → Nat → Nat → Value → Int → Int → Heap → Prop) (x0p : Option Addr) (x0l x0c : Nat) (x1 : Value) (x7 x8 : Int) (h : Heap) (_K : KK) : Prop :=
  lp2 x0p x0l x0c x1 x7 x8 h
theorem Ek2 (S : Stop) (x0p : Option Addr) (x0l x0c : Nat) (x1 : Value) (x7 x8 : Int) (h : Heap) (K : KK) : (en S [1, 0, 1] (c0 S K) (f2 x0p x0l x0c x1 x7 x8) h) = Jk2 (fun x0p x0l x0c x1 x7 x8 h => ∃ n, S (ln S [1, 0, 1, 0, 0] (c1 S K) n) (f2 x0p x0l x0c x1 x7 x8) h) x0p x0l x0c x1 x7 x8 h K := by kernel_rfl
def JL2 (bk2 : (Option Addr) → Nat → Nat → Value → Int → Int → Heap → Prop) (x0p : Option Addr) (x0l x0c : Nat) (x1 : Value) (x7 x8 : Int) (h : Heap) (K : KK) : Prop :=
  bcase (decide (x8 < x7)) (ptrK x0p (fun a1 => (0 ≤ x8 ∧ x8 < (Nat.cast x0l : Int) ∧ ldI .i64 (rd h (Addr.add a1 (Int.toNat x8 * 1))) (fun n2 => dynK Tryz.prog X x1 [(.int .i64 n2)] h (fun v3 h4 => ldB (some v3) (fun b5 => bcase b5 (K (.int .i64 x8) h4) (bk2 x0p x0l x0c x1 x7 (IntKind.wrap .i64 (x8 + (1 : Int))) h4))))))) (K (.int .i64 (-1 : Int)) h)
theorem EL2 (S : Stop) (n2 : Nat) (x0p : Option Addr) (x0l x0c : Nat) (x1 : Value) (x7 x8 : Int) (h : Heap) (K : KK) : (en S [1, 0, 1, 0, 0] (c2 S n2 K) (f2 x0p x0l x0c x1 x7 x8) h) = JL2 (fun x0p x0l x0c x1 x7 x8 h => S (ln S [1, 0, 1, 0, 0] (c1 S K) n2) (f2 x0p x0l x0c x1 x7 x8) h) x0p x0l x0c x1 x7 x8 h K := by kernel_rfl
def wL2 : Nat → (Option Addr) → Nat → Nat → Value → Int → Int → Heap → KK → Prop
  | 0, _, _, _, _, _, _, _, _ => False
  | n + 1, x0p, x0l, x0c, x1, x7, x8, h, K => JL2 (fun x0p x0l x0c x1 x7 x8 h => wL2 n x0p x0l x0c x1 x7 x8 h K) x0p x0l x0c x1 x7 x8 h K
theorem eL2 (K : KK) : ∀ (n : Nat) (x0p : Option Addr) (x0l x0c : Nat) (x1 : Value) (x7 x8 : Int) (h : Heap), (ln S0 [1, 0, 1, 0, 0] (c1 S0 K) n (f2 x0p x0l x0c x1 x7 x8) h) = wL2 n x0p x0l x0c x1 x7 x8 h K
  | 0, _, _, _, _, _, _, _ => rfl
  | n + 1, x0p, x0l, x0c, x1, x7, x8, h => (EL2 S0 n x0p x0l x0c x1 x7 x8 h K).trans (cg1 (fun q0 => JL2 q0 x0p x0l x0c x1 x7 x8 h K) (by funext x0p x0l x0c x1 x7 x8 h; exact (fun x0p x0l x0c x1 x7 x8 h => eL2 K n x0p x0l x0c x1 x7 x8 h) x0p x0l x0c x1 x7 x8 h))
def wk2 (x0p : Option Addr) (x0l x0c : Nat) (x1 : Value) (x7 x8 : Int) (h : Heap) (K : KK) : Prop :=
  Jk2 (fun x0p x0l x0c x1 x7 x8 h => ∃ m, wL2 m x0p x0l x0c x1 x7 x8 h K) x0p x0l x0c x1 x7 x8 h K
theorem ek2 (K : KK) (x0p : Option Addr) (x0l x0c : Nat) (x1 : Value) (x7 x8 : Int) (h : Heap) : (en S0 [1, 0, 1] (c0 S0 K) (f2 x0p x0l x0c x1 x7 x8) h) = wk2 x0p x0l x0c x1 x7 x8 h K := (Ek2 S0 x0p x0l x0c x1 x7 x8 h K).trans (cg1 (fun q0 => Jk2 q0 x0p x0l x0c x1 x7 x8 h K) (by funext x0p x0l x0c x1 x7 x8 h; exact ex_congr fun m => eL2 K m x0p x0l x0c x1 x7 x8 h))
def w (x0p : Option Addr) (x0l x0c : Nat) (x1 : Value) (h : Heap) (K : KK) : Prop :=
  J0 (fun x0p x0l x0c x1 x7 x8 h => wk2 x0p x0l x0c x1 x7 x8 h K) x0p x0l x0c x1 h K
theorem e0 (K : KK) (x0p : Option Addr) (x0l x0c : Nat) (x1 : Value) (h : Heap) : (E Tryz.prog X T S0 body (fin Tryz.prog Tryz.f79.results.toList K) (args0 0 [(.slice x0p x0l x0c), x1]) h) = w x0p x0l x0c x1 h K := (E0 S0 x0p x0l x0c x1 h K).trans (cg1 (fun q0 => J0 q0 x0p x0l x0c x1 h K) (by funext x0p x0l x0c x1 x7 x8 h; exact ek2 K x0p x0l x0c x1 x7 x8 h))
theorem hb : Tryz.f79.body = some body := by kernel_rfl
theorem ok : okCode T Tryz.f79.ntmps body = true := by kernel_rfl
theorem spec (x0p : Option Addr) (x0l : Nat) (x0c : Nat) (x1 : Value) (h : Heap) (K : KK) (H : w x0p x0l x0c x1 h K) : CallsH Tryz.prog 79 [(.slice x0p x0l x0c), x1] h K :=
  calls_of_E (T := T) Xok mix Tryz.func79 hb ok rfl (by rw [e0]; exact H)
end F79
-- spinney/weigh.Best
namespace F17
def T : Hint := ⟨[(7, [11, 12, 13, 29, 30, 31]), (12, [11, 12, 13])], [(12, [[(0, []), (1, []), (2, []), (3, []), (4, []), (5, []), (6, []), (7, []), (8, [])]])]⟩
noncomputable def body : Code := (Tryz.f17.body).getD .skip
noncomputable def en (S : Stop) (p : List Nat) (κ : XK) : Fr → Heap → Prop := E Tryz.prog X T S (sub body p) κ
noncomputable def ln (S : Stop) (p : List Nat) (κ : XK) (n : Nat) : Fr → Heap → Prop := loopN S (E Tryz.prog X T S (sub body p)) (cutQ T (sub body p)) κ n
def fn (K : KK) : XK := fin Tryz.prog Tryz.f17.results.toList K
noncomputable def c0 (S : Stop) (K : KK) : XK := seqN S (cutQ T (sub body [1, 1, 1, 1, 1])) (en S [1, 1, 1, 1, 1] (fn K)) (fn K)
noncomputable def c1 (S : Stop) (K : KK) : XK := blockN 0 (c0 S K)
noncomputable def c2 (S : Stop) (n7 : Nat) (K : KK) : XK := backN S (cutQ T (sub body [1, 1, 1, 1, 0, 1, 0, 0])) (ln S [1, 1, 1, 1, 0, 1, 0, 0] (c1 S K) n7) (c1 S K)
def f7 (x11 : Option Nat) (x12 : Int) (x13 : Bool) (x29p : Option Addr) (x29l x29c : Nat) (x30 x31 : Int) : Fr := [(11, (.map x11)), (12, (.int .u8 x12)), (13, (.bool x13)), (29, (.slice x29p x29l x29c)), (30, (.int .i64 x30)), (31, (.int .i64 x31))]
def f12 (x11 : Option Nat) (x12 : Int) (x13 : Bool) : Fr := [(11, (.map x11)), (12, (.int .u8 x12)), (13, (.bool x13))]
def J0 (k7 : (Option Nat) → Int → Bool → (Option Addr) → Nat → Nat → Int → Int → Heap → Prop) (x0 : Addr) (x1 : Int) (x2p : Option Addr) (x2l x2c : Nat) (h : Heap) (K : KK) : Prop :=
  CallsH Tryz.prog 38 [(.pointer (some x0)), (.int .u32 x1), (.slice x2p x2l x2c)] h (fun v1 h2 => ldI .i64 (some v1) (fun n3 => bcase (n3 != (0 : Int)) (K (.tuple #[(.int .u8 (0 : Int)), (.int .i64 (0 : Int)), (.bool false), (.int .i64 n3)]) h2) (CallsH Tryz.prog 39 [(.pointer (some x0)), (.int .u32 x1), (.slice x2p x2l x2c)] h2 (fun v4 h5 => ldM (some v4) (fun r6 => CallsH Tryz.prog 41 [(.map r6)] h5 (fun v7 h8 => ldV (some v7) (fun v9 => CallsH Tryz.prog 40 [v9] h8 (fun v10 h11 => ldS (some v10) (fun p12 l13 c14 => k7 r6 (0 : Int) false p12 l13 c14 (Nat.cast l13 : Int) (0 : Int) h11)))))))))
theorem E0 (S : Stop) (x0 : Addr) (x1 : Int) (x2p : Option Addr) (x2l x2c : Nat) (h : Heap) (K : KK) : (E Tryz.prog X T S body (fin Tryz.prog Tryz.f17.results.toList K) (args0 0 [(.pointer (some x0)), (.int .u32 x1), (.slice x2p x2l x2c)]) h) = J0 (fun x11 x12 x13 x29p x29l x29c x30 x31 h => S (en S [1, 1, 1, 1, 0, 1] (c0 S K)) (f7 x11 x12 x13 x29p x29l x29c x30 x31) h) x0 x1 x2p x2l x2c h K := by kernel_rfl
def Jk7 (lp7 : (Option Nat) → Int → Bool → (Option Addr) → Nat → Nat → Int → Int → Heap → Prop) (x11 : Option Nat) (x12 : Int) (x13 : Bool) (x29p : Option Addr) (x29l x29c : Nat) (x30 x31 : Int) (h : Heap) (_K : KK) : Prop :=
  lp7 x11 x12 x13 x29p x29l x29c x30 x31 h
theorem Ek7 (S : Stop) (x11 : Option Nat) (x12 : Int) (x13 : Bool) (x29p : Option Addr) (x29l x29c : Nat) (x30 x31 : Int) (h : Heap) (K : KK) : (en S [1, 1, 1, 1, 0, 1] (c0 S K) (f7 x11 x12 x13 x29p x29l x29c x30 x31) h) = Jk7 (fun x11 x12 x13 x29p x29l x29c x30 x31 h => ∃ n, S (ln S [1, 1, 1, 1, 0, 1, 0, 0] (c1 S K) n) (f7 x11 x12 x13 x29p x29l x29c x30 x31) h) x11 x12 x13 x29p x29l x29c x30 x31 h K := by kernel_rfl
def JL7 (bk7 : (Option Nat) → Int → Bool → (Option Addr) → Nat → Nat → Int → Int → Heap → Prop) (k12 : (Option Nat) → Int → Bool → Heap → Prop) (x11 : Option Nat) (x12 : Int) (x13 : Bool) (x29p : Option Addr) (x29l x29c : Nat) (x30 x31 : Int) (h : Heap) (_K : KK) : Prop :=
  bcase (decide (x31 < x30)) (ptrK x29p (fun a1 => (0 ≤ x31 ∧ x31 < (Nat.cast x29l : Int) ∧ ldI .u8 (rd h (Addr.add a1 (Int.toNat x31 * 1))) (fun n2 => bcase (!x13) (bk7 x11 n2 true x29p x29l x29c x30 (IntKind.wrap .i64 (x31 + (1 : Int))) h) (lookK h x11 .u8 .u8 n2 (fun o3 => ldI .i64 (some (lkV (.int .i64 (0 : Int)) o3)) (fun n4 => lookK h x11 .u8 .u8 x12 (fun o5 => ldI .i64 (some (lkV (.int .i64 (0 : Int)) o5)) (fun n6 => bcase (decide (n4 < n6)) (bk7 x11 n2 true x29p x29l x29c x30 (IntKind.wrap .i64 (x31 + (1 : Int))) h) (bk7 x11 x12 x13 x29p x29l x29c x30 (IntKind.wrap .i64 (x31 + (1 : Int))) h)))))))))) (k12 x11 x12 x13 h)
theorem EL7 (S : Stop) (n7 : Nat) (x11 : Option Nat) (x12 : Int) (x13 : Bool) (x29p : Option Addr) (x29l x29c : Nat) (x30 x31 : Int) (h : Heap) (K : KK) : (en S [1, 1, 1, 1, 0, 1, 0, 0] (c2 S n7 K) (f7 x11 x12 x13 x29p x29l x29c x30 x31) h) = JL7 (fun x11 x12 x13 x29p x29l x29c x30 x31 h => S (ln S [1, 1, 1, 1, 0, 1, 0, 0] (c1 S K) n7) (f7 x11 x12 x13 x29p x29l x29c x30 x31) h) (fun x11 x12 x13 h => S (en S [1, 1, 1, 1, 1] (fn K)) (f12 x11 x12 x13) h) x11 x12 x13 x29p x29l x29c x30 x31 h K := by kernel_rfl
def Jk12 (x11 : Option Nat) (x12 : Int) (x13 : Bool) (h : Heap) (K : KK) : Prop :=
  lookK h x11 .u8 .u8 x12 (fun o1 => ldI .i64 (some (lkV (.int .i64 (0 : Int)) o1)) (fun n2 => K (.tuple #[(.int .u8 x12), (.int .i64 n2), (.bool x13), (.int .i64 (0 : Int))]) h))
theorem Ek12 (S : Stop) (x11 : Option Nat) (x12 : Int) (x13 : Bool) (h : Heap) (K : KK) : (en S [1, 1, 1, 1, 1] (fn K) (f12 x11 x12 x13) h) = Jk12 x11 x12 x13 h K := by kernel_rfl
def wk12 (x11 : Option Nat) (x12 : Int) (x13 : Bool) (h : Heap) (K : KK) : Prop :=
  Jk12 x11 x12 x13 h K
theorem ek12 (K : KK) (x11 : Option Nat) (x12 : Int) (x13 : Bool) (h : Heap) : (en S0 [1, 1, 1, 1, 1] (fn K) (f12 x11 x12 x13) h) = wk12 x11 x12 x13 h K := (Ek12 S0 x11 x12 x13 h K).trans (rfl)
def wL7 : Nat → (Option Nat) → Int → Bool → (Option Addr) → Nat → Nat → Int → Int → Heap → KK → Prop
  | 0, _, _, _, _, _, _, _, _, _, _ => False
  | n + 1, x11, x12, x13, x29p, x29l, x29c, x30, x31, h, K => JL7 (fun x11 x12 x13 x29p x29l x29c x30 x31 h => wL7 n x11 x12 x13 x29p x29l x29c x30 x31 h K) (fun x11 x12 x13 h => wk12 x11 x12 x13 h K) x11 x12 x13 x29p x29l x29c x30 x31 h K
theorem eL7 (K : KK) : ∀ (n : Nat) (x11 : Option Nat) (x12 : Int) (x13 : Bool) (x29p : Option Addr) (x29l x29c : Nat) (x30 x31 : Int) (h : Heap), (ln S0 [1, 1, 1, 1, 0, 1, 0, 0] (c1 S0 K) n (f7 x11 x12 x13 x29p x29l x29c x30 x31) h) = wL7 n x11 x12 x13 x29p x29l x29c x30 x31 h K
  | 0, _, _, _, _, _, _, _, _, _ => rfl
  | n + 1, x11, x12, x13, x29p, x29l, x29c, x30, x31, h => (EL7 S0 n x11 x12 x13 x29p x29l x29c x30 x31 h K).trans (cg2 (fun q0 q1 => JL7 q0 q1 x11 x12 x13 x29p x29l x29c x30 x31 h K) (by funext x11 x12 x13 x29p x29l x29c x30 x31 h; exact (fun x11 x12 x13 x29p x29l x29c x30 x31 h => eL7 K n x11 x12 x13 x29p x29l x29c x30 x31 h) x11 x12 x13 x29p x29l x29c x30 x31 h) (by funext x11 x12 x13 h; exact ek12 K x11 x12 x13 h))
def wk7 (x11 : Option Nat) (x12 : Int) (x13 : Bool) (x29p : Option Addr) (x29l x29c : Nat) (x30 x31 : Int) (h : Heap) (K : KK) : Prop :=
  Jk7 (fun x11 x12 x13 x29p x29l x29c x30 x31 h => ∃ m, wL7 m x11 x12 x13 x29p x29l x29c x30 x31 h K) x11 x12 x13 x29p x29l x29c x30 x31 h K
theorem ek7 (K : KK) (x11 : Option Nat) (x12 : Int) (x13 : Bool) (x29p : Option Addr) (x29l x29c : Nat) (x30 x31 : Int) (h : Heap) : (en S0 [1, 1, 1, 1, 0, 1] (c0 S0 K) (f7 x11 x12 x13 x29p x29l x29c x30 x31) h) = wk7 x11 x12 x13 x29p x29l x29c x30 x31 h K := (Ek7 S0 x11 x12 x13 x29p x29l x29c x30 x31 h K).trans (cg1 (fun q0 => Jk7 q0 x11 x12 x13 x29p x29l x29c x30 x31 h K) (by funext x11 x12 x13 x29p x29l x29c x30 x31 h; exact ex_congr fun m => eL7 K m x11 x12 x13 x29p x29l x29c x30 x31 h))
def w (x0 : Addr) (x1 : Int) (x2p : Option Addr) (x2l x2c : Nat) (h : Heap) (K : KK) : Prop :=
  J0 (fun x11 x12 x13 x29p x29l x29c x30 x31 h => wk7 x11 x12 x13 x29p x29l x29c x30 x31 h K) x0 x1 x2p x2l x2c h K
theorem e0 (K : KK) (x0 : Addr) (x1 : Int) (x2p : Option Addr) (x2l x2c : Nat) (h : Heap) : (E Tryz.prog X T S0 body (fin Tryz.prog Tryz.f17.results.toList K) (args0 0 [(.pointer (some x0)), (.int .u32 x1), (.slice x2p x2l x2c)]) h) = w x0 x1 x2p x2l x2c h K := (E0 S0 x0 x1 x2p x2l x2c h K).trans (cg1 (fun q0 => J0 q0 x0 x1 x2p x2l x2c h K) (by funext x11 x12 x13 x29p x29l x29c x30 x31 h; exact ek7 K x11 x12 x13 x29p x29l x29c x30 x31 h))
theorem hb : Tryz.f17.body = some body := by kernel_rfl
theorem ok : okCode T Tryz.f17.ntmps body = true := by kernel_rfl
theorem spec (x0 : Addr) (x1 : Int) (x2p : Option Addr) (x2l : Nat) (x2c : Nat) (h : Heap) (K : KK) (H : w x0 x1 x2p x2l x2c h K) : CallsH Tryz.prog 17 [(.pointer (some x0)), (.int .u32 x1), (.slice x2p x2l x2c)] h K :=
  calls_of_E (T := T) Xok mix Tryz.func17 hb ok rfl (by rw [e0]; exact H)
end F17
-- spinney/weigh.rising
namespace F42
def T : Hint := ⟨[], []⟩
noncomputable def body : Code := (Tryz.f42.body).getD .skip
def J0 (x0 : Addr) (x1 : Int) (h : Heap) (K : KK) : Prop :=
  CallsH Tryz.prog 39 [(.pointer (some x0)), (.int .u32 x1), (.slice none 0 0)] h (fun v1 h2 => ldM (some v1) (fun r3 => CallsH Tryz.prog 41 [(.map r3)] h2 (fun v4 h5 => ldV (some v4) (fun v6 => CallsH Tryz.prog 40 [v6] h5 (fun v7 h8 => ldS (some v7) (fun p9 l10 c11 => K (.slice p9 l10 c11) h8))))))
theorem E0 (S : Stop) (x0 : Addr) (x1 : Int) (h : Heap) (K : KK) : (E Tryz.prog X T S body (fin Tryz.prog Tryz.f42.results.toList K) (args0 0 [(.pointer (some x0)), (.int .u32 x1)]) h) = J0 x0 x1 h K := by kernel_rfl
def w (x0 : Addr) (x1 : Int) (h : Heap) (K : KK) : Prop :=
  J0 x0 x1 h K
theorem e0 (K : KK) (x0 : Addr) (x1 : Int) (h : Heap) : (E Tryz.prog X T S0 body (fin Tryz.prog Tryz.f42.results.toList K) (args0 0 [(.pointer (some x0)), (.int .u32 x1)]) h) = w x0 x1 h K := (E0 S0 x0 x1 h K).trans (rfl)
theorem hb : Tryz.f42.body = some body := by kernel_rfl
theorem ok : okCode T Tryz.f42.ntmps body = true := by kernel_rfl
theorem spec (x0 : Addr) (x1 : Int) (h : Heap) (K : KK) (H : w x0 x1 h K) : CallsH Tryz.prog 42 [(.pointer (some x0)), (.int .u32 x1)] h K :=
  calls_of_E (T := T) Xok mix Tryz.func42 hb ok rfl (by rw [e0]; exact H)
end F42
-- spinney/weigh.Sample
namespace F19
def T : Hint := ⟨[], []⟩
noncomputable def body : Code := (Tryz.f19.body).getD .skip
def J0 (x0 : Addr) (x1 x2 : Int) (h : Heap) (K : KK) : Prop :=
  CallsH Tryz.prog 21 [(.pointer (some x0)), (.int .u32 x1)] h (fun v1 h2 => ldB (some v1) (fun b3 => bcase (!b3) (K (.tuple #[(.int .u8 (0 : Int)), (.bool false), (.int .i64 (101 : Int))]) h2) (CallsH Tryz.prog 42 [(.pointer (some x0)), (.int .u32 x1)] h2 (fun v4 h5 => ldS (some v4) (fun p6 l7 _ => bcase (decide (x2 < (0 : Int))) (K (.tuple #[(.int .u8 (0 : Int)), (.bool false), (.int .i64 (0 : Int))]) h5) (bcase (decide (x2 ≥ (Nat.cast l7 : Int))) (K (.tuple #[(.int .u8 (0 : Int)), (.bool false), (.int .i64 (0 : Int))]) h5) (ptrK p6 (fun a9 => (0 ≤ x2 ∧ x2 < (Nat.cast l7 : Int) ∧ ldI .u8 (rd h5 (Addr.add a9 (Int.toNat x2 * 1))) (fun n10 => K (.tuple #[(.int .u8 n10), (.bool true), (.int .i64 (0 : Int))]) h5))))))))))
theorem E0 (S : Stop) (x0 : Addr) (x1 x2 : Int) (h : Heap) (K : KK) : (E Tryz.prog X T S body (fin Tryz.prog Tryz.f19.results.toList K) (args0 0 [(.pointer (some x0)), (.int .u32 x1), (.int .i64 x2)]) h) = J0 x0 x1 x2 h K := by kernel_rfl
def w (x0 : Addr) (x1 x2 : Int) (h : Heap) (K : KK) : Prop :=
  J0 x0 x1 x2 h K
theorem e0 (K : KK) (x0 : Addr) (x1 x2 : Int) (h : Heap) : (E Tryz.prog X T S0 body (fin Tryz.prog Tryz.f19.results.toList K) (args0 0 [(.pointer (some x0)), (.int .u32 x1), (.int .i64 x2)]) h) = w x0 x1 x2 h K := (E0 S0 x0 x1 x2 h K).trans (rfl)
theorem hb : Tryz.f19.body = some body := by kernel_rfl
theorem ok : okCode T Tryz.f19.ntmps body = true := by kernel_rfl
theorem spec (x0 : Addr) (x1 : Int) (x2 : Int) (h : Heap) (K : KK) (H : w x0 x1 x2 h K) : CallsH Tryz.prog 19 [(.pointer (some x0)), (.int .u32 x1), (.int .i64 x2)] h K :=
  calls_of_E (T := T) Xok mix Tryz.func19 hb ok rfl (by rw [e0]; exact H)
end F19
-- spinney/weigh.Rank
namespace F20
def T : Hint := ⟨[], []⟩
noncomputable def body : Code := (Tryz.f20.body).getD .skip
def J0 (x0 : Addr) (x1 x2 : Int) (h : Heap) (K : KK) : Prop :=
  CallsH Tryz.prog 21 [(.pointer (some x0)), (.int .u32 x1)] h (fun v1 h2 => ldB (some v1) (fun b3 => bcase (!b3) (K (.tuple #[(.int .i64 (0 : Int)), (.int .i64 (101 : Int))]) h2) (CallsH Tryz.prog 42 [(.pointer (some x0)), (.int .u32 x1)] h2 (fun v4 h5 => ldS (some v4) (fun p6 l7 c8 => CallsH Tryz.prog 43 [(.slice p6 l7 c8), (.int .u8 x2)] h5 (fun v9 h10 => (∃ n11 : Int, ∃ b12 : Bool, v9 = (.tuple #[(.int .i64 n11), (.bool b12)]) ∧ K (.tuple #[(.int .i64 n11), (.int .i64 (0 : Int))]) h10)))))))
theorem E0 (S : Stop) (x0 : Addr) (x1 x2 : Int) (h : Heap) (K : KK) : (E Tryz.prog X T S body (fin Tryz.prog Tryz.f20.results.toList K) (args0 0 [(.pointer (some x0)), (.int .u32 x1), (.int .u8 x2)]) h) = J0 x0 x1 x2 h K := by kernel_rfl
def w (x0 : Addr) (x1 x2 : Int) (h : Heap) (K : KK) : Prop :=
  J0 x0 x1 x2 h K
theorem e0 (K : KK) (x0 : Addr) (x1 x2 : Int) (h : Heap) : (E Tryz.prog X T S0 body (fin Tryz.prog Tryz.f20.results.toList K) (args0 0 [(.pointer (some x0)), (.int .u32 x1), (.int .u8 x2)]) h) = w x0 x1 x2 h K := (E0 S0 x0 x1 x2 h K).trans (rfl)
theorem hb : Tryz.f20.body = some body := by kernel_rfl
theorem ok : okCode T Tryz.f20.ntmps body = true := by kernel_rfl
theorem spec (x0 : Addr) (x1 : Int) (x2 : Int) (h : Heap) (K : KK) (H : w x0 x1 x2 h K) : CallsH Tryz.prog 20 [(.pointer (some x0)), (.int .u32 x1), (.int .u8 x2)] h K :=
  calls_of_E (T := T) Xok mix Tryz.func20 hb ok rfl (by rw [e0]; exact H)
end F20
end Go.Proofs.YtnbnlhpleomaoaaGreat.Ev
/- LOOPS OVER MAPS whose keys are whole numbers: the iterator, what it may still hand out. Conditions: the map stands (MapM). -/
namespace Go.Proofs.YtnbnlhpleomaoaaGreat.Ev
open Go
/-- block r walks over map b, whose entries are m; left may come still -/
def Rng (h : Heap) (r b : Nat) (k : IntKind) (m left : List (Int × Value)) : Prop :=
  ∃ es cl since seen last, mp h b = some (es, cl) ∧ es.toList.map (fun e => (e.key, e.val)) = m.map (fun p => (Value.int k p.1, p.2)) ∧ (es.toList.map (·.born)).Nodup ∧ h[r]? = some (.mapIter (some b) since seen last) ∧
    (∀ x ∈ es.toList, x.born < since) ∧ since ≤ last ∧ (leftOf es seen).toList.map (fun e => (e.key, e.val)) = left.map (fun p => (Value.int k p.1, p.2)) ∧ since ≤ cl
/-- where it stands -/
def RngAt (h : Heap) (r b : Nat) (k : IntKind) (x : Int) (v : Value) : Prop :=
  ∃ (es : Array MapEntry) (since : Nat) (seen : Array Nat) (cl : Nat) (e : MapEntry), h[r]? = some (.mapIter (some b) since (seen.push e.born) cl) ∧ mp h b = some (es, cl) ∧ e ∈ es.toList ∧ (es.toList.map (·.born)).Nodup ∧ e.key = .int k x ∧ e.val = v
theorem Rng.only {S : List Nat} {h h' : Heap} {r b : Nat} {k : IntKind} {m left : List (Int × Value)} (H : Rng h r b k m left) (O : Only S h h') (hr : r ∉ S) (hb : b ∉ S) : Rng h' r b k m left := by
  obtain ⟨es, cl, since, seen, last, h1, h2, h3, h4, h5⟩ := H
  refine ⟨es, cl, since, seen, last, ?_, h2, h3, ?_, h5⟩
  · have := mp_obj h1
    unfold mp
    rw [O.same b (Array.getElem?_eq_some_iff.1 this).1 hb, this]
  · rw [O.same r (Array.getElem?_eq_some_iff.1 h4).1 hr]
    exact h4
theorem Rng.lt {h : Heap} {r b : Nat} {k : IntKind} {m left : List (Int × Value)} (H : Rng h r b k m left) : r < h.size ∧ b < h.size := by
  obtain ⟨es, cl, since, seen, last, h1, h2, h3, h4, h5⟩ := H
  exact ⟨(Array.getElem?_eq_some_iff.1 h4).1, (Array.getElem?_eq_some_iff.1 (mp_obj h1)).1⟩
theorem Only.push_obj (h : Heap) (o : Obj) (ho : ∀ c e f, o ≠ .cells c e f) : Only [] h (h.push o) := by
  refine ⟨by simp, fun b hb _ => by simp [Array.getElem?_push, Nat.ne_of_lt hb], fun a => ?_⟩
  unfold fz
  rw [Array.getElem?_push]
  by_cases ha : a.block = h.size
  · rw [if_pos ha, ha]
    cases o <;> simp_all
  · rw [if_neg ha]
theorem Only.set_iter {h : Heap} {r : Nat} {m : Option Nat} {s : Nat} {seen : Array Nat} {l : Nat} (hr : h[r]? = some (.mapIter m s seen l)) (m' : Option Nat) (s' : Nat) (seen' : Array Nat) (l' : Nat) : Only [r] h (h.setIfInBounds r (.mapIter m' s' seen' l')) := by
  have hlt := (Array.getElem?_eq_some_iff.1 hr).1
  refine ⟨by simp, fun b hb hS => ?_, fun a => ?_⟩
  · have : r ≠ b := fun e => hS (by simp [e])
    rw [Array.getElem?_setIfInBounds, if_neg this]
  · unfold fz
    rw [Array.getElem?_setIfInBounds]
    by_cases ha : r = a.block
    · rw [if_pos ha, if_pos hlt, ← ha, hr]
    · rw [if_neg ha]
theorem rng_start {h : Heap} {b : Nat} {k : IntKind} {m : List (Int × Value)} {K : Option Addr → Heap → Prop} (H : MapM h b k m)
    (hK : ∀ h', Rng h' h.size b k m m → Only [] h h' → h'.size = h.size + 1 → K (some ⟨h.size, 0, none⟩) h') : rngK h (some b) K := by
  obtain ⟨es, cl, h1, h2, h3, h4, h5⟩ := H
  have hb := mp_obj h1
  have hlt := (Array.getElem?_eq_some_iff.1 hb).1
  refine ⟨es, cl, h1, hK _ ⟨es, cl, cl, #[], cl, ?_, h2, h4, by simp, h5, Nat.le_refl _, ?_, Nat.le_refl _⟩ (Only.push_obj _ _ (by simp)) (by simp)⟩
  · unfold mp
    rw [Array.getElem?_push, if_neg (Nat.ne_of_lt hlt), hb]
  · rw [← h2]
    unfold leftOf
    rw [Array.toList_filter, List.filter_eq_self.2 (by simp)]
theorem rng_next {h : Heap} {r b : Nat} {k : IntKind} {m left : List (Int × Value)} {K0 : Prop} {K1 : Value → Value → Heap → Prop} (H : Rng h r b k m left) (hrb : r ≠ b) (h0 : left = [] → K0)
    (h1 : ∀ A x v B h', left = A ++ (x, v) :: B → Rng h' r b k m (A ++ B) → RngAt h' r b k x v → Only [r] h h' → h'.size = h.size → K1 (.int k x) v h') : nxtK h (some ⟨r, 0, none⟩) K0 K1 := by
  obtain ⟨es, cl, since, seen, last, g1, g2, g3, g4, g5, g6, g7, g8⟩ := H
  refine ⟨rfl, some b, since, seen, last, g4, es, cl, g1, g5, g6, fun hz => h0 ?_, fun e he => ?_⟩
  · have hl : (leftOf es seen).toList = [] := by
      apply List.eq_nil_of_length_eq_zero
      simpa using hz
    rw [hl] at g7
    cases left with
    | nil => rfl
    | cons a l => simp at g7
  · obtain ⟨A', B', eL⟩ := List.append_of_mem he
    rw [eL, List.map_append, List.map_cons] at g7
    obtain ⟨A, C, e1, e2, e3⟩ := List.map_eq_append_iff.1 g7.symm
    obtain ⟨⟨x, v⟩, B, e4, e5, e6⟩ := List.map_eq_cons_iff.1 e3
    subst e4 e1
    simp only [Prod.mk.injEq] at e5
    have hsub : (leftOf es seen).toList.Sublist es.toList := by unfold leftOf; rw [Array.toList_filter]; exact List.filter_sublist
    have hnd : ((A' ++ e :: B').map (·.born)).Nodup := by rw [← eL]; exact g3.sublist (hsub.map _)
    have hlt := (Array.getElem?_eq_some_iff.1 g4).1
    have hit : (h.setIfInBounds r (.mapIter (some b) since (seen.push e.born) cl))[r]? = some (.mapIter (some b) since (seen.push e.born) cl) := by
      rw [Array.getElem?_setIfInBounds, if_pos rfl, if_pos hlt]
    have hmp : mp (h.setIfInBounds r (.mapIter (some b) since (seen.push e.born) cl)) b = some (es, cl) := by
      unfold mp
      rw [Array.getElem?_setIfInBounds, if_neg hrb, mp_obj g1]
    have hK := h1 A x v B (h.setIfInBounds r (.mapIter (some b) since (seen.push e.born) cl)) rfl ⟨es, cl, since, seen.push e.born, cl, hmp, g2, g3, hit, g5, g8, ?_, g8⟩
      ⟨es, since, seen, cl, e, hit, hmp, hsub.subset he, g3, e5.1.symm, e5.2.symm⟩ (Only.set_iter g4 _ _ _ _) (by simp)
    · rw [← e5.1, ← e5.2]
      exact hK
    · have hf : (leftOf es (seen.push e.born)).toList = A' ++ B' := by
        have h2 : (leftOf es (seen.push e.born)).toList = (leftOf es seen).toList.filter fun y => !(y.born == e.born) := by
          unfold leftOf
          rw [Array.toList_filter, Array.toList_filter, List.filter_filter]
          apply List.filter_congr
          intro y _
          simp only [Array.contains_push]
          cases h : seen.contains y.born <;> cases h' : (y.born == e.born) <;> simp_all
        rw [h2, eL]
        rw [List.map_append, List.map_cons, List.nodup_append] at hnd
        obtain ⟨n1, n2, n3⟩ := hnd
        rw [List.nodup_cons] at n2
        rw [List.filter_append, List.filter_cons]
        simp only [beq_self_eq_true, Bool.not_true, Bool.false_eq_true, if_false]
        rw [List.filter_eq_self.2 fun y hy => ?_, List.filter_eq_self.2 fun y hy => ?_]
        · have : y.born ≠ e.born := fun e' => n2.1 (e' ▸ List.mem_map.2 ⟨y, hy, rfl⟩)
          simpa using this
        · have : y.born ≠ e.born := fun e' => n3 y.born (List.mem_map.2 ⟨y, hy, rfl⟩) e.born (by simp) e'
          simpa using this
      rw [hf, List.map_append, List.map_append, e2, e6]
theorem rng_entry {h : Heap} {r b : Nat} {k : IntKind} {x : Int} {v : Value} {K : Value → Value → Prop} (H : RngAt h r b k x v) (hK : K (.int k x) v) : entrK h (some ⟨r, 0, none⟩) K := by
  obtain ⟨es, since, seen, cl, e, h1, h2, h3, h4, h5, h6⟩ := H
  refine ⟨rfl, b, since, seen.push e.born, cl, es, e.born, e, h1, by simp, h2, ?_, by rw [h5, h6]; exact hK⟩
  rw [← Array.find?_toList]
  exact find_born e es.toList h4 h3
end Go.Proofs.YtnbnlhpleomaoaaGreat.Ev
/- WEIGHTS (package weigh): costs, all, refuses. Conditions: the store stands, the costs are few and in their bounds. -/
namespace Go.Proofs.YtnbnlhpleomaoaaGreat.Ev
open Go
/-- what an assignment costs -/
def cst (c : List Int) (x : Nat) : Nat → Int
  | 0 => 0
  | v + 1 => cst c x v + if x.testBit v then c.getD v 0 else 0
def COk (c : List Int) : Prop := c.length ≤ 8 ∧ ∀ z ∈ c, -1000 ≤ z ∧ z ≤ 1000
theorem COk.get {c : List Int} (H : COk c) (v : Nat) : -1000 ≤ c.getD v 0 ∧ c.getD v 0 ≤ 1000 := by
  by_cases h : v < c.length
  · rw [show c.getD v 0 = c[v] by simp [List.getD, h]]
    exact H.2 _ (List.getElem_mem h)
  · rw [List.getD_eq_getElem?_getD, List.getElem?_eq_none (by omega)]
    simp
theorem cst_bound {c : List Int} (H : COk c) (x : Nat) : ∀ v : Nat, -1000 * (v : Int) ≤ cst c x v ∧ cst c x v ≤ 1000 * (v : Int)
  | 0 => by simp [cst]
  | v + 1 => by
    have ih := cst_bound H x v
    have hg := H.get v
    unfold cst
    split <;> omega
/-- the assignments below k at which p holds -/
def trs (p : Nat → Bool) (k : Nat) : List Nat := (List.range k).filter p
theorem trs_succ (p : Nat → Bool) (k : Nat) : trs p (k + 1) = trs p k ++ if p k then [k] else [] := by
  unfold trs
  rw [List.range_succ, List.filter_append]
  cases h : p k <;> simp [h]
def cmap (c : List Int) (l : List Nat) : List (Int × Value) := l.map fun (x : Nat) => ((x : Int), Value.int .i64 (cst c x c.length))
theorem cmap_app (c : List Int) (l m : List Nat) : cmap c (l ++ m) = cmap c l ++ cmap c m := by simp [cmap]
theorem cmap_none {c : List Int} {p : Nat → Bool} {k : Nat} : (cmap c (trs p k)).lookup (k : Int) = none := by
  rw [lookup_none]
  intro hm
  simp only [cmap, List.map_map, List.mem_map, Function.comp, trs, List.mem_filter, List.mem_range] at hm
  obtain ⟨x, ⟨hx, -⟩, e⟩ := hm
  omega
theorem bit_i : ∀ y : Fin 256, ∀ v : Fin 8, bitsI .and .i64 (Int.fdiv ((y.1 : Nat) : Int) (2 ^ (min (Int.toNat ((v.1 : Nat) : Int)) (IntKind.bits .i64)))) 1 = if y.1.testBit v.1 then 1 else 0 := by decide +kernel
theorem go62 : xget X 62 = some Ext.go := by kernel_rfl
theorem holds62 {h : Heap} {s a x : Nat} {L : List Nat} {X : SX} {K : Value → Heap → Prop} (H : Sto h s L X) (hf : ∀ j, j < X.n → X.f j < 8) (ha : isN X.N a) (hx : x < 256) (hK : ∀ h', Only [] h h' → K (.bool (sm X.n X.f X.N a x)) h') :
    CallsH Tryz.prog 62 [.agg #[.pointer (some ⟨s, 0, none⟩), .int .u32 (a : Int)], .int .u8 (x : Int)] h K := by
  refine F62.spec _ _ _ h K ?_
  unfold F62.w F62.J0
  refine newK_at fun h1 A1 O1 z1 => ?_
  simp only [add_mk, Nat.zero_add]
  refine ldP_of (by rw [A1.rd]; rfl) (ldI_of (by rw [A1.rd]; rfl) ?_)
  exact eval80 (H.only0 O1) hf ha hx fun h' O => ⟨_, _, rfl, hK h' (O1.trans O (by simp))⟩
def lkr (s a : Nat) : Value := .func (.func 62) #[.agg #[.pointer (some ⟨s, 0, none⟩), .int .u32 (a : Int)]] #[]
theorem two_pow_le {n : Nat} (h : n ≤ 8) : 2 ^ n ≤ 256 := by
  have : 2 ^ n ≤ 2 ^ 8 := Nat.pow_le_pow_right (by omega) h
  omega
set_option maxRecDepth 100000 in
theorem costs61 {h : Heap} {s a cc : Nat} {L : List Nat} {X : SX} {cp : Option Addr} {c : List Int} {K : Value → Heap → Prop} (H : Sto h s L X) (hf : ∀ j, j < X.n → X.f j < 8) (ha : isN X.N a) (hc : Ints h .i64 cp c) (hco : COk c)
    (hK : ∀ h' b, MapM h' b .u8 (cmap c (trs (sm X.n X.f X.N a) (2 ^ X.n))) → Only [] h h' → h.size ≤ b → K (.map (some b)) h') :
    CallsH Tryz.prog 61 [.int .i64 (X.n : Int), lkr s a, .slice cp c.length cc] h K := by
  have ok := H.ok
  have hp := two_pow_le ok.2.2.1
  refine F61.spec _ _ _ _ _ h K ?_
  unfold F61.w F61.J0
  refine newK_map4 (k := .u8) fun h1 M1 O1 z1 => ⟨by omega, ?_⟩
  have e2 : IntKind.wrap .i64 (1 * 2 ^ (min (Int.toNat (X.n : Int)) (IntKind.bits .i64))) = ((2 ^ X.n : Nat) : Int) := by
    rw [show min (Int.toNat (X.n : Int)) (IntKind.bits .i64) = X.n by
      rw [Int.toNat_natCast]
      show min X.n 64 = X.n
      omega, Int.one_mul, show ((2 : Int) ^ X.n) = ((2 ^ X.n : Nat) : Int) by simp]
    generalize 2 ^ X.n = q at hp
    exact wrap_i64 (by omega) (by omega)
  rw [e2]
  unfold F61.wk3 F61.Jk3
  have main : ∀ (d x : Nat) (h' : Heap), x + d = 2 ^ X.n → MapM h' h.size .u8 (cmap c (trs (sm X.n X.f X.N a) x)) → Only [] h h' → F61.wL3 (d + 1) (lkr s a) cp c.length cc (some h.size) ((2 ^ X.n : Nat) : Int) (x : Int) h' K := by
    intro d
    induction d with
    | zero =>
      intro x h' hd M O
      unfold F61.wL3 F61.JL3
      rw [decide_eq_false (by omega), bcase_false]
      have e : x = 2 ^ X.n := by omega
      subst e
      exact hK h' _ M O (Nat.le_refl _)
    | succ d ih =>
      intro x h' hd M O
      unfold F61.wL3 F61.JL3
      rw [decide_eq_true (by omega), bcase_true, show IntKind.wrap .u8 (x : Int) = (x : Int) from wrap8 (by omega)]
      unfold lkr
      refine dynK_go go62 ?_
      have ew : IntKind.wrap .i64 ((x : Int) + 1) = ((x + 1 : Nat) : Int) := by rw [wrap_i64 (by omega) (by omega)]; omega
      refine holds62 (H.only0 O) hf ha (by omega) fun h2 O2 => ldB_of rfl ?_
      have O12 := O.trans O2 (by simp)
      have M2 := M.only O2 (by simp)
      refine bcase_of (fun hb => ?_) fun hb => ?_
      · have hb : sm X.n X.f X.N a x = false := by simpa using hb
        have := ih (x + 1) h2 (by omega) (by rw [trs_succ, hb]; simpa using M2) O12
        rw [ew]
        exact this
      · have hb : sm X.n X.f X.N a x = true := by simpa using hb
        unfold F61.wk8 F61.Jk8
        have inner : ∀ (d2 v : Nat), v + d2 = c.length → ∀ bk : Value → Option Addr → Nat → Nat → Option Nat → Int → Int → Heap → Prop, bk = (fun x1 x2p x2l x2c x7 x14 x15 h => F61.wL3 (d + 1) x1 x2p x2l x2c x7 x14 x15 h K) →
            F61.wL8 bk (d2 + 1) (lkr s a) cp c.length cc (some h.size) (x : Int) (cst c x v) ((2 ^ X.n : Nat) : Int) (x : Int) cp c.length cc (c.length : Int) (v : Int) h2 K := by
          intro d2
          induction d2 with
          | zero =>
            intro v hv bk ebk
            unfold F61.wL8 F61.JL8
            rw [decide_eq_false (by omega), bcase_false]
            unfold F61.wk12 F61.Jk12
            dsimp only
            rw [show IntKind.wrap .u8 (x : Int) = (x : Int) from wrap8 (by omega)]
            refine upd_map M2 fun h3 M3 O3 z3 => ?_
            subst ebk
            dsimp only
            rw [ew]
            have lt := M2.lt
            refine ih (x + 1) h3 (by omega) ?_ (O12.trans O3 (by intro b hb hl; simp at hb; omega))
            rw [trs_succ, hb, if_pos rfl, cmap_app]
            unfold mset at M3
            rw [cmap_none] at M3
            have hv : v = c.length := by omega
            subst hv
            exact M3
          | succ d2 ih2 =>
            intro v hv bk ebk
            have hvl : v < c.length := by omega
            obtain ⟨ad, e1, r1⟩ := (hc.only' O12 (by simp)) v hvl
            unfold F61.wL8 F61.JL8
            rw [decide_eq_true (by omega), bcase_true, e1, ptrK_some]
            refine ⟨by omega, by omega, ?_⟩
            rw [← e1, Nat.mul_one, Int.toNat_natCast, r1]
            refine ldI_of rfl ⟨by omega, ?_⟩
            have := hco.1
            have hg := hco.get v
            have hb2 := cst_bound hco x v
            have eb := bit_i ⟨x, by omega⟩ ⟨v, by omega⟩
            dsimp only at eb
            rw [Int.toNat_natCast] at eb
            rw [eb]
            have ev : IntKind.wrap .i64 ((v : Int) + 1) = ((v + 1 : Nat) : Int) := by rw [wrap_i64 (by omega) (by omega)]; omega
            have es : IntKind.wrap .i64 (cst c x v + IntKind.wrap .i64 ((if x.testBit v then (1 : Int) else 0) * c.getD v 0)) = cst c x (v + 1) := by
              have e3 : (if x.testBit v then (1 : Int) else 0) * c.getD v 0 = if x.testBit v then c.getD v 0 else 0 := by split <;> simp
              rw [e3]
              rw [show cst c x (v + 1) = cst c x v + if x.testBit v then c.getD v 0 else 0 from rfl]
              have e4 : -1000 ≤ (if x.testBit v then c.getD v 0 else 0) ∧ (if x.testBit v then c.getD v 0 else 0) ≤ 1000 := by split <;> omega
              rw [wrap_i64 (n := if x.testBit v then c.getD v 0 else 0) (by omega) (by omega), wrap_i64 (by omega) (by omega)]
            rw [ev, es]
            exact ih2 (v + 1) (by omega) bk ebk
        exact ⟨_, inner c.length 0 (by omega) _ rfl⟩
  exact ⟨_, main (2 ^ X.n) 0 h1 (by omega) M1 O1⟩
theorem all39 {h : Heap} {s a cc : Nat} {L : List Nat} {X : SX} {cp : Option Addr} {c : List Int} {K : Value → Heap → Prop} (H : Sto h s L X) (hf : ∀ j, j < X.n → X.f j < 8) (ha : isN X.N a) (hc : Ints h .i64 cp c) (hco : COk c)
    (hK : ∀ h' b, MapM h' b .u8 (cmap c (trs (sm X.n X.f X.N a) (2 ^ X.n))) → Only [] h h' → h.size ≤ b → K (.map (some b)) h') :
    CallsH Tryz.prog 39 [.pointer (some ⟨s, 0, none⟩), .int .u32 (a : Int), .slice cp c.length cc] h K := by
  refine F39.spec _ _ _ _ _ h K ?_
  unfold F39.w F39.J0
  refine sto_vars H (ldI_of rfl ?_)
  exact costs61 H hf ha hc hco fun h' b M O g => ⟨_, rfl, hK h' b M O g⟩
theorem go60 : xget X 60 = some Ext.go := by kernel_rfl
/-- does a cost lie out of its bounds? -/
def badC (c : List Int) : Bool := c.any fun z => decide (z < -1000) || decide (z > 1000)
theorem any_bad {h : Heap} {cp : Option Addr} {cc : Nat} {c : List Int} {K : Value → Heap → Prop} (hl : c.length < 1000000000) (hc : Ints h .i64 cp c) (hK : K (.bool (badC c)) h) :
    CallsH Tryz.prog 59 [.slice cp c.length cc, .func (.func 60) #[] #[]] h K := by
  refine F59.spec _ _ _ _ h K ?_
  unfold F59.w F59.J0
  refine F79.spec _ _ _ _ h _ ?_
  unfold F79.w F79.J0 F79.wk2 F79.Jk2
  have main : ∀ (d i : Nat), i + d = c.length → (∀ j, j < i → (decide (c.getD j 0 < -1000) || decide (c.getD j 0 > 1000)) = false) → F79.wL2 (d + 1) cp c.length cc (.func (.func 60) #[] #[]) (c.length : Int) (i : Int) h fun v1 h2 => ldI .i64 (some v1) (fun n3 => K (.bool (decide (n3 ≥ (0 : Int)))) h2) := by
    intro d
    induction d with
    | zero =>
      intro i hd hj
      unfold F79.wL2 F79.JL2
      rw [decide_eq_false (by omega), bcase_false]
      refine ldI_of rfl ?_
      have e : badC c = false := by
        unfold badC
        rw [List.any_eq_false]
        intro z hz
        obtain ⟨j, hj', rfl⟩ := List.mem_iff_getElem.1 hz
        have := hj j (by omega)
        rw [show c.getD j 0 = c[j] by simp [List.getD, hj']] at this
        simp only [this]
        simp
      rw [e] at hK
      exact hK
    | succ d ih =>
      intro i hd hj
      have hi : i < c.length := by omega
      obtain ⟨ad, e1, r1⟩ := hc i hi
      unfold F79.wL2 F79.JL2
      rw [decide_eq_true (by omega), bcase_true, e1, ptrK_some]
      refine ⟨by omega, by omega, ?_⟩
      rw [← e1, Nat.mul_one, Int.toNat_natCast, r1]
      refine ldI_of rfl (dynK_go go60 ?_)
      refine F60.spec _ h _ ?_
      unfold F60.w F60.J0
      have step : (decide (c.getD i 0 < -1000) || decide (c.getD i 0 > 1000)) = true → K (.bool true) h := fun e => by
        have e' : badC c = true := by
          unfold badC
          rw [List.any_eq_true]
          refine ⟨c[i], List.getElem_mem hi, ?_⟩
          rw [show c.getD i 0 = c[i] by simp [List.getD, hi]] at e
          exact e
        rw [e'] at hK
        exact hK
      refine bcase_of (fun hb => ldB_of rfl ?_) fun hb => ldB_of rfl ?_
      · rw [bcase_true]
        refine ldI_of rfl ?_
        rw [decide_eq_true (by omega)]
        exact step (by rw [hb]; rfl)
      · refine bcase_of (fun hb2 => ldI_of rfl ?_) fun hb2 => ?_
        · rw [decide_eq_true (by omega)]
          exact step (by rw [hb2]; simp)
        · rw [show IntKind.wrap .i64 ((i : Int) + 1) = ((i + 1 : Nat) : Int) by rw [wrap_i64 (by omega) (by omega)]; omega]
          refine ih (i + 1) (by omega) fun j hj' => ?_
          by_cases e : j = i
          · subst e
            rw [hb, hb2]
            rfl
          · exact hj j (by omega)
  exact ⟨_, main c.length 0 (by omega) fun j hj => by omega⟩
/-- why nothing is weighed -/
def refE (n : Nat) (N : List (Option Nd)) (a : Nat) (c : List Int) (isn : Bool) : Int := if isn then (if c.length ≠ n ∨ badC c = true then 40 else 0) else 101
theorem refuses38 {h : Heap} {s a cc : Nat} {L : List Nat} {X : SX} {cp : Option Addr} {c : List Int} {K : Value → Heap → Prop} (H : Sto h s L X) (ha : a < 4294967296) (hl : c.length < 1000000000) (hc : Ints h .i64 cp c)
    (h0 : ¬ isN X.N a → K (.int .i64 101) h) (h1 : isN X.N a → (c.length ≠ X.n ∨ badC c = true) → K (.int .i64 40) h) (h2 : isN X.N a → c.length = X.n → badC c = false → K (.int .i64 0) h) :
    CallsH Tryz.prog 38 [.pointer (some ⟨s, 0, none⟩), .int .u32 (a : Int), .slice cp c.length cc] h K := by
  refine F38.spec _ _ _ _ _ h K ?_
  unfold F38.w F38.J0
  refine sto_is H ha (fun hn => ldB_of rfl ?_) fun hn => ldB_of rfl ?_
  · rw [Bool.not_true, bcase_false]
    refine sto_vars H (ldI_of rfl (bcase_of (fun e => ?_) fun e => ?_))
    · exact h1 hn (.inl (by intro e'; rw [e'] at e; simp at e))
    · have e : c.length = X.n := by
        have : ((c.length : Nat) : Int) = X.n := by simpa using e
        omega
      refine any_bad hl hc (ldB_of rfl (bcase_of (fun e' => h1 hn (.inr e')) fun e' => h2 hn e e'))
  · rw [Bool.not_false, bcase_true]
    exact h0 hn
theorem cok_of {c : List Int} (h : c.length ≤ 8) (hb : badC c = false) : COk c := by
  refine ⟨h, fun z hz => ?_⟩
  unfold badC at hb
  rw [List.any_eq_false] at hb
  have := hb z hz
  simp at this
  omega
end Go.Proofs.YtnbnlhpleomaoaaGreat.Ev
/- PRINTED BY PROGRAM: what each of these functions does, computed over heaps by the evaluator, and that its calls do so. Conditions: none. -/
namespace Go.Proofs.YtnbnlhpleomaoaaGreat.Ev
open Go
-- spinney/weigh.Sum
namespace F18
def XX : List (Nat × Ext) := (1000023, .ent 5 3) :: X
theorem XXok : XOk Tryz.prog XX := Xok.ent
def T : Hint := ⟨[(6, [9, 23])], []⟩
noncomputable def body : Code := (Tryz.f18.body).getD .skip
noncomputable def en (S : Stop) (p : List Nat) (κ : XK) : Fr → Heap → Prop := E Tryz.prog XX T S (sub body p) κ
noncomputable def ln (S : Stop) (p : List Nat) (κ : XK) (n : Nat) : Fr → Heap → Prop := loopN S (E Tryz.prog XX T S (sub body p)) (cutQ T (sub body p)) κ n
def fn (K : KK) : XK := fin Tryz.prog Tryz.f18.results.toList K
noncomputable def c0 (S : Stop) (K : KK) : XK := seqN S (cutQ T (sub body [1, 1, 1, 1])) (en S [1, 1, 1, 1] (fn K)) (fn K)
noncomputable def c1 (S : Stop) (K : KK) : XK := blockN 0 (c0 S K)
noncomputable def c2 (S : Stop) (n6 : Nat) (K : KK) : XK := backN S (cutQ T (sub body [1, 1, 1, 0, 1, 0, 0])) (ln S [1, 1, 1, 0, 1, 0, 0] (c1 S K) n6) (c1 S K)
def f6 (x9 : Int) (x23 : Option Addr) : Fr := [(9, (.int .i64 x9)), (23, (.pointer x23))]
def J0 (k6 : Int → (Option Addr) → Heap → Prop) (x0 : Addr) (x1 : Int) (x2p : Option Addr) (x2l x2c : Nat) (h : Heap) (K : KK) : Prop :=
  CallsH Tryz.prog 38 [(.pointer (some x0)), (.int .u32 x1), (.slice x2p x2l x2c)] h (fun v1 h2 => ldI .i64 (some v1) (fun n3 => bcase (n3 != (0 : Int)) (K (.tuple #[(.int .i64 (0 : Int)), (.int .i64 n3)]) h2) (CallsH Tryz.prog 39 [(.pointer (some x0)), (.int .u32 x1), (.slice x2p x2l x2c)] h2 (fun v4 h5 => ldM (some v4) (fun r6 => rngK h5 r6 (fun p7 h8 => k6 (0 : Int) p7 h8))))))
theorem E0 (S : Stop) (x0 : Addr) (x1 : Int) (x2p : Option Addr) (x2l x2c : Nat) (h : Heap) (K : KK) : (E Tryz.prog XX T S body (fin Tryz.prog Tryz.f18.results.toList K) (args0 0 [(.pointer (some x0)), (.int .u32 x1), (.slice x2p x2l x2c)]) h) = J0 (fun x9 x23 h => S (en S [1, 1, 1, 0, 1] (c0 S K)) (f6 x9 x23) h) x0 x1 x2p x2l x2c h K := by kernel_rfl
def Jk6 (lp6 : Int → (Option Addr) → Heap → Prop) (x9 : Int) (x23 : Option Addr) (h : Heap) (_K : KK) : Prop :=
  lp6 x9 x23 h
theorem Ek6 (S : Stop) (x9 : Int) (x23 : Option Addr) (h : Heap) (K : KK) : (en S [1, 1, 1, 0, 1] (c0 S K) (f6 x9 x23) h) = Jk6 (fun x9 x23 h => ∃ n, S (ln S [1, 1, 1, 0, 1, 0, 0] (c1 S K) n) (f6 x9 x23) h) x9 x23 h K := by kernel_rfl
def JL6 (bk6 : Int → (Option Addr) → Heap → Prop) (x9 : Int) (x23 : Option Addr) (h : Heap) (K : KK) : Prop :=
  nxtK h x23 (K (.tuple #[(.int .i64 x9), (.int .i64 (0 : Int))]) h) (fun _ _ h3 => entrK h3 x23 (fun v4 v5 => (∃ n7 : Int, ∃ n8 : Int, (.tuple #[v4, v5]) = ((.tuple #[(.int .u8 n7), (.int .i64 n8)]) : Value) ∧ bk6 (IntKind.wrap .i64 (x9 + n8)) x23 h3)))
theorem EL6 (S : Stop) (n6 : Nat) (x9 : Int) (x23 : Option Addr) (h : Heap) (K : KK) : (en S [1, 1, 1, 0, 1, 0, 0] (c2 S n6 K) (f6 x9 x23) h) = JL6 (fun x9 x23 h => S (ln S [1, 1, 1, 0, 1, 0, 0] (c1 S K) n6) (f6 x9 x23) h) x9 x23 h K := by kernel_rfl
def wL6 : Nat → Int → (Option Addr) → Heap → KK → Prop
  | 0, _, _, _, _ => False
  | n + 1, x9, x23, h, K => JL6 (fun x9 x23 h => wL6 n x9 x23 h K) x9 x23 h K
theorem eL6 (K : KK) : ∀ (n : Nat) (x9 : Int) (x23 : Option Addr) (h : Heap), (ln S0 [1, 1, 1, 0, 1, 0, 0] (c1 S0 K) n (f6 x9 x23) h) = wL6 n x9 x23 h K
  | 0, _, _, _ => rfl
  | n + 1, x9, x23, h => (EL6 S0 n x9 x23 h K).trans (cg1 (fun q0 => JL6 q0 x9 x23 h K) (by funext x9 x23 h; exact (fun x9 x23 h => eL6 K n x9 x23 h) x9 x23 h))
def wk6 (x9 : Int) (x23 : Option Addr) (h : Heap) (K : KK) : Prop :=
  Jk6 (fun x9 x23 h => ∃ m, wL6 m x9 x23 h K) x9 x23 h K
theorem ek6 (K : KK) (x9 : Int) (x23 : Option Addr) (h : Heap) : (en S0 [1, 1, 1, 0, 1] (c0 S0 K) (f6 x9 x23) h) = wk6 x9 x23 h K := (Ek6 S0 x9 x23 h K).trans (cg1 (fun q0 => Jk6 q0 x9 x23 h K) (by funext x9 x23 h; exact ex_congr fun m => eL6 K m x9 x23 h))
def w (x0 : Addr) (x1 : Int) (x2p : Option Addr) (x2l x2c : Nat) (h : Heap) (K : KK) : Prop :=
  J0 (fun x9 x23 h => wk6 x9 x23 h K) x0 x1 x2p x2l x2c h K
theorem e0 (K : KK) (x0 : Addr) (x1 : Int) (x2p : Option Addr) (x2l x2c : Nat) (h : Heap) : (E Tryz.prog XX T S0 body (fin Tryz.prog Tryz.f18.results.toList K) (args0 0 [(.pointer (some x0)), (.int .u32 x1), (.slice x2p x2l x2c)]) h) = w x0 x1 x2p x2l x2c h K := (E0 S0 x0 x1 x2p x2l x2c h K).trans (cg1 (fun q0 => J0 q0 x0 x1 x2p x2l x2c h K) (by funext x9 x23 h; exact ek6 K x9 x23 h))
theorem hb : Tryz.f18.body = some body := by kernel_rfl
theorem ok : okCode T Tryz.f18.ntmps body = true := by kernel_rfl
theorem spec (x0 : Addr) (x1 : Int) (x2p : Option Addr) (x2l : Nat) (x2c : Nat) (h : Heap) (K : KK) (H : w x0 x1 x2p x2l x2c h K) : CallsH Tryz.prog 18 [(.pointer (some x0)), (.int .u32 x1), (.slice x2p x2l x2c)] h K :=
  calls_of_E (T := T) XXok mix Tryz.func18 hb ok rfl (by rw [e0]; exact H)
end F18
end Go.Proofs.YtnbnlhpleomaoaaGreat.Ev
/- PRINTED BY PROGRAM: what each of these functions does, computed over heaps by the evaluator, and that its calls do so. Conditions: none. -/
namespace Go.Proofs.YtnbnlhpleomaoaaGreat.Ev
open Go
-- slices.BinarySearch[[]uint8,uint8]
namespace F43
def T : Hint := ⟨[(3, [0, 1, 6, 7, 8]), (8, [0, 1, 6, 7])], []⟩
noncomputable def body : Code := (Tryz.f43.body).getD .skip
noncomputable def en (S : Stop) (p : List Nat) (κ : XK) : Fr → Heap → Prop := E Tryz.prog X T S (sub body p) κ
noncomputable def ln (S : Stop) (p : List Nat) (κ : XK) (n : Nat) : Fr → Heap → Prop := loopN S (E Tryz.prog X T S (sub body p)) (cutQ T (sub body p)) κ n
def fn (K : KK) : XK := fin Tryz.prog Tryz.f43.results.toList K
noncomputable def c0 (S : Stop) (K : KK) : XK := seqN S (cutQ T (sub body [1, 1, 1, 1])) (en S [1, 1, 1, 1] (fn K)) (fn K)
noncomputable def c1 (S : Stop) (K : KK) : XK := blockN 0 (c0 S K)
noncomputable def c2 (S : Stop) (n3 : Nat) (K : KK) : XK := backN S (cutQ T (sub body [1, 1, 1, 0, 0, 0])) (ln S [1, 1, 1, 0, 0, 0] (c1 S K) n3) (c1 S K)
def f3 (x0p : Option Addr) (x0l x0c : Nat) (x1 x6 x7 x8 : Int) : Fr := [(0, (.slice x0p x0l x0c)), (1, (.int .u8 x1)), (6, (.int .i64 x6)), (7, (.int .i64 x7)), (8, (.int .i64 x8))]
def f8 (x0p : Option Addr) (x0l x0c : Nat) (x1 x6 x7 : Int) : Fr := [(0, (.slice x0p x0l x0c)), (1, (.int .u8 x1)), (6, (.int .i64 x6)), (7, (.int .i64 x7))]
def J0 (k3 : (Option Addr) → Nat → Nat → Int → Int → Int → Int → Heap → Prop) (x0p : Option Addr) (x0l x0c : Nat) (x1 : Int) (h : Heap) (_K : KK) : Prop :=
  k3 x0p x0l x0c x1 (Nat.cast x0l : Int) (0 : Int) (Nat.cast x0l : Int) h
theorem E0 (S : Stop) (x0p : Option Addr) (x0l x0c : Nat) (x1 : Int) (h : Heap) (K : KK) : (E Tryz.prog X T S body (fin Tryz.prog Tryz.f43.results.toList K) (args0 0 [(.slice x0p x0l x0c), (.int .u8 x1)]) h) = J0 (fun x0p x0l x0c x1 x6 x7 x8 h => S (en S [1, 1, 1] (fn K)) (f3 x0p x0l x0c x1 x6 x7 x8) h) x0p x0l x0c x1 h K := by kernel_rfl
def Jk3 (lp3 : (Option Addr) → Nat → Nat → Int → Int → Int → Int → Heap → Prop) (x0p : Option Addr) (x0l x0c : Nat) (x1 x6 x7 x8 : Int) (h : Heap) (_K : KK) : Prop :=
  lp3 x0p x0l x0c x1 x6 x7 x8 h
theorem Ek3 (S : Stop) (x0p : Option Addr) (x0l x0c : Nat) (x1 x6 x7 x8 : Int) (h : Heap) (K : KK) : (en S [1, 1, 1] (fn K) (f3 x0p x0l x0c x1 x6 x7 x8) h) = Jk3 (fun x0p x0l x0c x1 x6 x7 x8 h => ∃ n, S (ln S [1, 1, 1, 0, 0, 0] (c1 S K) n) (f3 x0p x0l x0c x1 x6 x7 x8) h) x0p x0l x0c x1 x6 x7 x8 h K := by kernel_rfl
def JL3 (bk3 : (Option Addr) → Nat → Nat → Int → Int → Int → Int → Heap → Prop) (k8 : (Option Addr) → Nat → Nat → Int → Int → Int → Heap → Prop) (x0p : Option Addr) (x0l x0c : Nat) (x1 x6 x7 x8 : Int) (h : Heap) (_K : KK) : Prop :=
  bcase (decide (x7 < x8)) ((0 ≤ (1 : Int) ∧ ptrK x0p (fun a1 => (0 ≤ (IntKind.wrap .i64 (Int.fdiv (IntKind.wrap .u64 (IntKind.wrap .i64 (x7 + x8))) (2 ^ (min (Int.toNat (1 : Int)) (IntKind.bits .u64))))) ∧ (IntKind.wrap .i64 (Int.fdiv (IntKind.wrap .u64 (IntKind.wrap .i64 (x7 + x8))) (2 ^ (min (Int.toNat (1 : Int)) (IntKind.bits .u64))))) < (Nat.cast x0l : Int) ∧ ldI .u8 (rd h (Addr.add a1 (Int.toNat (IntKind.wrap .i64 (Int.fdiv (IntKind.wrap .u64 (IntKind.wrap .i64 (x7 + x8))) (2 ^ (min (Int.toNat (1 : Int)) (IntKind.bits .u64))))) * 1))) (fun n2 => CallsH Tryz.prog 66 [(.int .u8 n2), (.int .u8 x1)] h (fun v3 h4 => ldB (some v3) (fun b5 => bcase b5 (bk3 x0p x0l x0c x1 x6 (IntKind.wrap .i64 ((IntKind.wrap .i64 (Int.fdiv (IntKind.wrap .u64 (IntKind.wrap .i64 (x7 + x8))) (2 ^ (min (Int.toNat (1 : Int)) (IntKind.bits .u64))))) + (1 : Int))) x8 h4) (bk3 x0p x0l x0c x1 x6 x7 (IntKind.wrap .i64 (Int.fdiv (IntKind.wrap .u64 (IntKind.wrap .i64 (x7 + x8))) (2 ^ (min (Int.toNat (1 : Int)) (IntKind.bits .u64))))) h4)))))))) (k8 x0p x0l x0c x1 x6 x7 h)
theorem EL3 (S : Stop) (n3 : Nat) (x0p : Option Addr) (x0l x0c : Nat) (x1 x6 x7 x8 : Int) (h : Heap) (K : KK) : (en S [1, 1, 1, 0, 0, 0] (c2 S n3 K) (f3 x0p x0l x0c x1 x6 x7 x8) h) = JL3 (fun x0p x0l x0c x1 x6 x7 x8 h => S (ln S [1, 1, 1, 0, 0, 0] (c1 S K) n3) (f3 x0p x0l x0c x1 x6 x7 x8) h) (fun x0p x0l x0c x1 x6 x7 h => S (en S [1, 1, 1, 1] (fn K)) (f8 x0p x0l x0c x1 x6 x7) h) x0p x0l x0c x1 x6 x7 x8 h K := by kernel_rfl
def Jk8 (x0p : Option Addr) (x0l _x0c : Nat) (x1 x6 x7 : Int) (h : Heap) (K : KK) : Prop :=
  bcase (decide (x7 < x6)) (ptrK x0p (fun a1 => (0 ≤ x7 ∧ x7 < (Nat.cast x0l : Int) ∧ ldI .u8 (rd h (Addr.add a1 (Int.toNat x7 * 1))) (fun n2 => bcase (n2 == x1) (K (.tuple #[(.int .i64 x7), (.bool true)]) h) (ptrK x0p (fun a3 => (0 ≤ x7 ∧ x7 < (Nat.cast x0l : Int) ∧ ldI .u8 (rd h (Addr.add a3 (Int.toNat x7 * 1))) (fun n4 => CallsH Tryz.prog 67 [(.int .u8 n4)] h (fun v5 h6 => ldB (some v5) (fun b7 => bcase b7 (CallsH Tryz.prog 67 [(.int .u8 x1)] h6 (fun v8 h9 => ldB (some v8) (fun b10 => K (.tuple #[(.int .i64 x7), (.bool b10)]) h9))) (K (.tuple #[(.int .i64 x7), (.bool false)]) h6))))))))))) (K (.tuple #[(.int .i64 x7), (.bool false)]) h)
theorem Ek8 (S : Stop) (x0p : Option Addr) (x0l x0c : Nat) (x1 x6 x7 : Int) (h : Heap) (K : KK) : (en S [1, 1, 1, 1] (fn K) (f8 x0p x0l x0c x1 x6 x7) h) = Jk8 x0p x0l x0c x1 x6 x7 h K := by kernel_rfl
def wk8 (x0p : Option Addr) (x0l x0c : Nat) (x1 x6 x7 : Int) (h : Heap) (K : KK) : Prop :=
  Jk8 x0p x0l x0c x1 x6 x7 h K
theorem ek8 (K : KK) (x0p : Option Addr) (x0l x0c : Nat) (x1 x6 x7 : Int) (h : Heap) : (en S0 [1, 1, 1, 1] (fn K) (f8 x0p x0l x0c x1 x6 x7) h) = wk8 x0p x0l x0c x1 x6 x7 h K := (Ek8 S0 x0p x0l x0c x1 x6 x7 h K).trans (rfl)
def wL3 : Nat → (Option Addr) → Nat → Nat → Int → Int → Int → Int → Heap → KK → Prop
  | 0, _, _, _, _, _, _, _, _, _ => False
  | n + 1, x0p, x0l, x0c, x1, x6, x7, x8, h, K => JL3 (fun x0p x0l x0c x1 x6 x7 x8 h => wL3 n x0p x0l x0c x1 x6 x7 x8 h K) (fun x0p x0l x0c x1 x6 x7 h => wk8 x0p x0l x0c x1 x6 x7 h K) x0p x0l x0c x1 x6 x7 x8 h K
theorem eL3 (K : KK) : ∀ (n : Nat) (x0p : Option Addr) (x0l x0c : Nat) (x1 x6 x7 x8 : Int) (h : Heap), (ln S0 [1, 1, 1, 0, 0, 0] (c1 S0 K) n (f3 x0p x0l x0c x1 x6 x7 x8) h) = wL3 n x0p x0l x0c x1 x6 x7 x8 h K
  | 0, _, _, _, _, _, _, _, _ => rfl
  | n + 1, x0p, x0l, x0c, x1, x6, x7, x8, h => (EL3 S0 n x0p x0l x0c x1 x6 x7 x8 h K).trans (cg2 (fun q0 q1 => JL3 q0 q1 x0p x0l x0c x1 x6 x7 x8 h K) (by funext x0p x0l x0c x1 x6 x7 x8 h; exact (fun x0p x0l x0c x1 x6 x7 x8 h => eL3 K n x0p x0l x0c x1 x6 x7 x8 h) x0p x0l x0c x1 x6 x7 x8 h) (by funext x0p x0l x0c x1 x6 x7 h; exact ek8 K x0p x0l x0c x1 x6 x7 h))
def wk3 (x0p : Option Addr) (x0l x0c : Nat) (x1 x6 x7 x8 : Int) (h : Heap) (K : KK) : Prop :=
  Jk3 (fun x0p x0l x0c x1 x6 x7 x8 h => ∃ m, wL3 m x0p x0l x0c x1 x6 x7 x8 h K) x0p x0l x0c x1 x6 x7 x8 h K
theorem ek3 (K : KK) (x0p : Option Addr) (x0l x0c : Nat) (x1 x6 x7 x8 : Int) (h : Heap) : (en S0 [1, 1, 1] (fn K) (f3 x0p x0l x0c x1 x6 x7 x8) h) = wk3 x0p x0l x0c x1 x6 x7 x8 h K := (Ek3 S0 x0p x0l x0c x1 x6 x7 x8 h K).trans (cg1 (fun q0 => Jk3 q0 x0p x0l x0c x1 x6 x7 x8 h K) (by funext x0p x0l x0c x1 x6 x7 x8 h; exact ex_congr fun m => eL3 K m x0p x0l x0c x1 x6 x7 x8 h))
def w (x0p : Option Addr) (x0l x0c : Nat) (x1 : Int) (h : Heap) (K : KK) : Prop :=
  J0 (fun x0p x0l x0c x1 x6 x7 x8 h => wk3 x0p x0l x0c x1 x6 x7 x8 h K) x0p x0l x0c x1 h K
theorem e0 (K : KK) (x0p : Option Addr) (x0l x0c : Nat) (x1 : Int) (h : Heap) : (E Tryz.prog X T S0 body (fin Tryz.prog Tryz.f43.results.toList K) (args0 0 [(.slice x0p x0l x0c), (.int .u8 x1)]) h) = w x0p x0l x0c x1 h K := (E0 S0 x0p x0l x0c x1 h K).trans (cg1 (fun q0 => J0 q0 x0p x0l x0c x1 h K) (by funext x0p x0l x0c x1 x6 x7 x8 h; exact ek3 K x0p x0l x0c x1 x6 x7 x8 h))
theorem hb : Tryz.f43.body = some body := by kernel_rfl
theorem ok : okCode T Tryz.f43.ntmps body = true := by kernel_rfl
theorem spec (x0p : Option Addr) (x0l : Nat) (x0c : Nat) (x1 : Int) (h : Heap) (K : KK) (H : w x0p x0l x0c x1 h K) : CallsH Tryz.prog 43 [(.slice x0p x0l x0c), (.int .u8 x1)] h K :=
  calls_of_E (T := T) Xok mix Tryz.func43 hb ok rfl (by rw [e0]; exact H)
end F43
-- slices.isNaN[uint8]
namespace F67
def T : Hint := ⟨[], []⟩
noncomputable def body : Code := (Tryz.f67.body).getD .skip
def J0 (x0 : Int) (h : Heap) (K : KK) : Prop :=
  K (.bool (x0 != x0)) h
theorem E0 (S : Stop) (x0 : Int) (h : Heap) (K : KK) : (E Tryz.prog X T S body (fin Tryz.prog Tryz.f67.results.toList K) (args0 0 [(.int .u8 x0)]) h) = J0 x0 h K := by kernel_rfl
def w (x0 : Int) (h : Heap) (K : KK) : Prop :=
  J0 x0 h K
theorem e0 (K : KK) (x0 : Int) (h : Heap) : (E Tryz.prog X T S0 body (fin Tryz.prog Tryz.f67.results.toList K) (args0 0 [(.int .u8 x0)]) h) = w x0 h K := (E0 S0 x0 h K).trans (rfl)
theorem hb : Tryz.f67.body = some body := by kernel_rfl
theorem ok : okCode T Tryz.f67.ntmps body = true := by kernel_rfl
theorem spec (x0 : Int) (h : Heap) (K : KK) (H : w x0 h K) : CallsH Tryz.prog 67 [(.int .u8 x0)] h K :=
  calls_of_E (T := T) Xok mix Tryz.func67 hb ok rfl (by rw [e0]; exact H)
end F67
end Go.Proofs.YtnbnlhpleomaoaaGreat.Ev
/- SORTING IN PLACE, plainly: rows of numbers, swaps, what is kept by swaps within a part; one step of an insertion. Conditions: none. -/
namespace Go.Proofs.YtnbnlhpleomaoaaGreat.Ev
open Go

def swp (g : Nat → Int) (i j : Nat) : Nat → Int := fun k => if k = j then g i else if k = i then g j else g k
inductive Swp (a b : Nat) : (Nat → Int) → (Nat → Int) → Prop
  | refl (g : Nat → Int) : Swp a b g g
  | step {g g' : Nat → Int} {i j : Nat} : a ≤ i → i < b → a ≤ j → j < b → Swp a b (swp g i j) g' → Swp a b g g'
theorem Swp.trans {a b : Nat} {f g k : Nat → Int} (H : Swp a b f g) (G : Swp a b g k) : Swp a b f k := by
  induction H with
  | refl _ => exact G
  | step h1 h2 h3 h4 _ ih => exact .step h1 h2 h3 h4 (ih G)
theorem Swp.one {a b i j : Nat} (g : Nat → Int) (h1 : a ≤ i) (h2 : i < b) (h3 : a ≤ j) (h4 : j < b) : Swp a b g (swp g i j) := .step h1 h2 h3 h4 (.refl _)
theorem Swp.mono {a b a' b' : Nat} {f g : Nat → Int} (H : Swp a b f g) (ha : a' ≤ a) (hb : b ≤ b') : Swp a' b' f g := by
  induction H with
  | refl g => exact .refl g
  | step h1 h2 h3 h4 _ ih => exact .step (by omega) (by omega) (by omega) (by omega) ih
theorem Swp.out {a b : Nat} {f g : Nat → Int} (H : Swp a b f g) {k : Nat} (hk : k < a ∨ b ≤ k) : g k = f k := by
  induction H with
  | refl g => rfl
  | step h1 h2 h3 h4 _ ih =>
    rw [ih]
    unfold swp
    rw [if_neg (by omega), if_neg (by omega)]
theorem Swp.all {a b : Nat} {f g : Nat → Int} (H : Swp a b f g) {Q : Int → Prop} (h : ∀ k, a ≤ k → k < b → Q (f k)) : ∀ k, a ≤ k → k < b → Q (g k) := by
  induction H with
  | refl g => exact h
  | @step g g' i j h1 h2 h3 h4 _ ih =>
    apply ih
    intro k hk1 hk2
    unfold swp
    split
    · exact h i h1 h2
    · split
      · exact h j h3 h4
      · exact h k hk1 hk2
theorem Swp.perm {a b n : Nat} {f g : Nat → Int} (H : Swp a b f g) (hb : b ≤ n) : ((List.range n).map g).Perm ((List.range n).map f) := by
  induction H with
  | refl g => exact List.Perm.refl _
  | @step g g' i j h1 h2 h3 h4 _ ih =>
    refine ih.trans ?_
    have e : (List.range n).map (swp g i j) = ((List.range n).map fun k => if k = j then i else if k = i then j else k).map g := by
      rw [List.map_map]
      apply List.map_congr_left
      intro k _
      simp only [Function.comp, swp]
      split
      · rfl
      · split <;> rfl
    rw [e]
    refine List.Perm.map g ?_
    refine (List.perm_ext_iff_of_nodup ?_ List.nodup_range).2 fun k => ?_
    · refine List.Pairwise.map _ (fun x y (hxy : x ≠ y) => ?_) List.nodup_range
      (repeat' split) <;> omega
    · rw [List.mem_map]
      constructor
      · rintro ⟨x, hx, rfl⟩
        rw [List.mem_range] at hx ⊢
        split
        · omega
        · split <;> omega
      · intro hk
        rw [List.mem_range] at hk
        by_cases h : k = j
        · exact ⟨i, by rw [List.mem_range]; omega, by by_cases h' : i = j <;> simp [h, h']⟩
        · by_cases h' : k = i
          · exact ⟨j, by rw [List.mem_range]; omega, by simp [h']⟩
          · exact ⟨k, by rw [List.mem_range]; omega, by simp [h, h']⟩
/-- rising -/
def Srt (a b : Nat) (g : Nat → Int) : Prop := ∀ p q, a ≤ p → p < q → q < b → g p ≤ g q
theorem Srt.of_adj {a b : Nat} {g : Nat → Int} (H : ∀ p, a ≤ p → p + 1 < b → g p ≤ g (p + 1)) : Srt a b g := by
  intro p q ha hpq hq
  obtain ⟨d, rfl⟩ := Nat.exists_eq_add_of_lt hpq
  induction d with
  | zero => exact H p ha hq
  | succ d ih => exact Int.le_trans (ih (by omega) (by omega)) (H (p + d + 1) (by omega) hq)
theorem Srt.single {a b : Nat} (g : Nat → Int) (h : b ≤ a + 1) : Srt a b g := fun p q _ _ _ => by omega
/-- all in their order but the one at j, which may have to go further down -/
def Ins (a i j : Nat) (g : Nat → Int) : Prop := ∀ p q, a ≤ p → p < q → q ≤ i → q ≠ j → g p ≤ g q
theorem Ins.start {a i : Nat} {g : Nat → Int} (H : Srt a i g) : Ins a i i g := fun p q h1 h2 h3 h4 => H p q h1 h2 (by omega)
theorem Ins.stop {a i j : Nat} {g : Nat → Int} (H : Ins a i j g) (h : j ≤ a ∨ g (j - 1) ≤ g j) : Srt a (i + 1) g := fun p q h1 h2 h3 => by
  by_cases hq : q = j
  · subst hq
    rcases h with h | h
    · omega
    · by_cases hp : p = q - 1
      · subst hp; exact h
      · exact Int.le_trans (H p (q - 1) h1 (by omega) (by omega) (by omega)) h
  · exact H p q h1 h2 (by omega) hq
theorem swp_i (g : Nat → Int) (i j : Nat) : swp g i j i = g j := by
  unfold swp
  by_cases h : i = j
  · rw [if_pos h, h]
  · rw [if_neg h, if_pos rfl]
theorem swp_j (g : Nat → Int) (i j : Nat) : swp g i j j = g i := if_pos rfl
theorem swp_o (g : Nat → Int) {i j k : Nat} (hi : k ≠ i) (hj : k ≠ j) : swp g i j k = g k := by
  unfold swp
  rw [if_neg hj, if_neg hi]
theorem Ins.step {a i j : Nat} {g : Nat → Int} (H : Ins a i j g) (hj : a < j) (hji : j ≤ i) (hl : g j < g (j - 1)) : Ins a i (j - 1) (swp g j (j - 1)) := fun p q h1 h2 h3 h4 => by
  by_cases hq : q = j
  · subst hq
    rw [swp_i]
    by_cases hp : p = q - 1
    · subst hp
      rw [swp_j]
      omega
    · rw [swp_o g (by omega) hp]
      exact H p (q - 1) h1 (by omega) (by omega) (by omega)
  · rw [swp_o g hq h4]
    by_cases hp : p = j
    · subst hp
      rw [swp_i]
      exact H (p - 1) q (by omega) (by omega) h3 hq
    · by_cases hp' : p = j - 1
      · subst hp'
        rw [swp_j]
        exact H j q (by omega) (by omega) h3 hq
      · rw [swp_o g hp hp']
        exact H p q h1 h2 h3 hq

/-- block b holds these numbers, and more -/
def Arr (q : IntKind) (h : Heap) (b n : Nat) (g : Nat → Int) (sp : List Value) : Prop := At h b (rowV n (fun k => .int q (g k)) ++ sp)
theorem Arr.rd {q : IntKind} {h : Heap} {b n : Nat} {g : Nat → Int} {sp : List Value} (A : Arr q h b n g sp) {k : Nat} (hk : k < n) : Ev.rd h ⟨b, k, none⟩ = some (.int q (g k)) := by
  rw [At.rd A, List.getElem?_append_left (by rw [rowV_len]; exact hk), rowV_get hk]
theorem Arr.only {q : IntKind} {h h' : Heap} {b n : Nat} {g : Nat → Int} {sp : List Value} (A : Arr q h b n g sp) {S : List Nat} (O : Only S h h') (hb : b ∉ S) : Arr q h' b n g sp := At.only A O hb
theorem Arr.st {q : IntKind} {h : Heap} {b n : Nat} {g : Nat → Int} {sp : List Value} (A : Arr q h b n g sp) {k : Nat} (hk : k < n) {v : Int} {K : Heap → Prop}
    (hK : ∀ h', Arr q h' b n (fun j => if j = k then v else g j) sp → Only [b] h h' → K h') : stK h ⟨b, k, none⟩ (.int q v) K :=
  stK_at A (by simp [rowV_len]; omega) rfl fun h' A' O' _ => hK h' (by
    have e : (rowV n (fun j => Value.int q (g j)) ++ sp).set k (.int q v) = rowV n (fun j => Value.int q (if j = k then v else g j)) ++ sp := by
      rw [List.set_append_left _ _ (by rw [rowV_len]; exact hk), rowV_set]
      congr 1
      apply rowV_ext
      intro j _
      split <;> rfl
    rw [e] at A'
    exact A') O'
theorem Arr.ld {q : IntKind} {h : Heap} {b n : Nat} {g : Nat → Int} {sp : List Value} (A : Arr q h b n g sp) {x : Int} {k : Nat} (hx : x = k) (hk : k < n) {Q : Int → Prop} (hQ : Q (g k)) :
    ptrK (some ⟨b, 0, none⟩) fun a => (0 ≤ x ∧ x < (n : Int) ∧ ldI q (Ev.rd h (Addr.add a (Int.toNat x * 1))) Q) := by
  subst hx
  rw [ptrK_some]
  refine ⟨by omega, by omega, ?_⟩
  rw [add_mk, show 0 + Int.toNat (k : Int) * 1 = k by omega, A.rd hk, ldI_some]
  exact hQ
theorem Arr.sto {q : IntKind} {h : Heap} {b n : Nat} {g : Nat → Int} {sp : List Value} (A : Arr q h b n g sp) {x : Int} {k : Nat} (hx : x = k) (hk : k < n) {v : Int} {K : Heap → Prop}
    (hK : ∀ h', Arr q h' b n (fun j => if j = k then v else g j) sp → Only [b] h h' → K h') :
    ptrK (some ⟨b, 0, none⟩) fun a => (0 ≤ x ∧ x < (n : Int) ∧ stK h (Addr.add (Addr.add a (Int.toNat x * 1)) 0) (.int q v) K) := by
  subst hx
  rw [ptrK_some]
  refine ⟨by omega, by omega, ?_⟩
  rw [add_mk, add_mk, show 0 + Int.toNat (k : Int) * 1 + 0 = k by omega]
  exact A.st hk hK
theorem set2 (g : Nat → Int) (i j : Nat) : (fun k => if k = j then g i else (fun k => if k = i then g j else g k) k) = swp g i j := rfl
end Go.Proofs.YtnbnlhpleomaoaaGreat.Ev
/- PRINTED BY PROGRAM: what each of these functions does, computed over heaps by the evaluator, and that its calls do so. Conditions: none. -/
namespace Go.Proofs.YtnbnlhpleomaoaaGreat.Ev
open Go
-- slices.Collect[uint8]
namespace F63
def T : Hint := ⟨[], []⟩
noncomputable def body : Code := (Tryz.f63.body).getD .skip
def J0 (x0c0 : Addr) (h : Heap) (K : KK) : Prop :=
  CallsH Tryz.prog 81 [(.slice none 0 0), (.func (.func 65) #[] #[(.pointer (some x0c0))])] h (fun v1 h2 => ldS (some v1) (fun p3 l4 c5 => K (.slice p3 l4 c5) h2))
theorem E0 (S : Stop) (x0c0 : Addr) (h : Heap) (K : KK) : (E Tryz.prog X T S body (fin Tryz.prog Tryz.f63.results.toList K) (args0 0 [(.func (.func 65) #[] #[(.pointer (some x0c0))])]) h) = J0 x0c0 h K := by kernel_rfl
def w (x0c0 : Addr) (h : Heap) (K : KK) : Prop :=
  J0 x0c0 h K
theorem e0 (K : KK) (x0c0 : Addr) (h : Heap) : (E Tryz.prog X T S0 body (fin Tryz.prog Tryz.f63.results.toList K) (args0 0 [(.func (.func 65) #[] #[(.pointer (some x0c0))])]) h) = w x0c0 h K := (E0 S0 x0c0 h K).trans (rfl)
theorem hb : Tryz.f63.body = some body := by kernel_rfl
theorem ok : okCode T Tryz.f63.ntmps body = true := by kernel_rfl
theorem spec (x0c0 : Addr) (h : Heap) (K : KK) (H : w x0c0 h K) : CallsH Tryz.prog 63 [(.func (.func 65) #[] #[(.pointer (some x0c0))])] h K :=
  calls_of_E (T := T) Xok mix Tryz.func63 hb ok rfl (by rw [e0]; exact H)
end F63
-- maps.Keys[map[uint8]int,uint8,int]
namespace F41
def T : Hint := ⟨[], []⟩
noncomputable def body : Code := (Tryz.f41.body).getD .skip
def J0 (x0 : Option Nat) (h : Heap) (K : KK) : Prop :=
  newK h (.cells #[(.map x0)] 85) (fun b1 h2 => K (.func (.func 65) #[] #[(.pointer (some (Addr.mk b1 0 none)))]) h2)
theorem E0 (S : Stop) (x0 : Option Nat) (h : Heap) (K : KK) : (E Tryz.prog X T S body (fin Tryz.prog Tryz.f41.results.toList K) (args0 0 [(.map x0)]) h) = J0 x0 h K := by kernel_rfl
def w (x0 : Option Nat) (h : Heap) (K : KK) : Prop :=
  J0 x0 h K
theorem e0 (K : KK) (x0 : Option Nat) (h : Heap) : (E Tryz.prog X T S0 body (fin Tryz.prog Tryz.f41.results.toList K) (args0 0 [(.map x0)]) h) = w x0 h K := (E0 S0 x0 h K).trans (rfl)
theorem hb : Tryz.f41.body = some body := by kernel_rfl
theorem ok : okCode T Tryz.f41.ntmps body = true := by kernel_rfl
theorem spec (x0 : Option Nat) (h : Heap) (K : KK) (H : w x0 h K) : CallsH Tryz.prog 41 [(.map x0)] h K :=
  calls_of_E (T := T) Xok mix Tryz.func41 hb ok rfl (by rw [e0]; exact H)
end F41
-- slices.Sort[[]uint8,uint8]
namespace F64
def T : Hint := ⟨[], []⟩
noncomputable def body : Code := (Tryz.f64.body).getD .skip
def J0 (x0p : Option Addr) (x0l x0c : Nat) (h : Heap) (K : KK) : Prop :=
  CallsH Tryz.prog 83 [(.int .u64 (IntKind.wrap .u64 (Nat.cast x0l : Int)))] h (fun v1 h2 => ldI .i64 (some v1) (fun n3 => CallsH Tryz.prog 82 [(.slice x0p x0l x0c), (.int .i64 (0 : Int)), (.int .i64 (Nat.cast x0l : Int)), (.int .i64 n3)] h2 (fun v4 h5 => (v4 = (.tuple #[]) ∧ K (.tuple #[]) h5))))
theorem E0 (S : Stop) (x0p : Option Addr) (x0l x0c : Nat) (h : Heap) (K : KK) : (E Tryz.prog X T S body (fin Tryz.prog Tryz.f64.results.toList K) (args0 0 [(.slice x0p x0l x0c)]) h) = J0 x0p x0l x0c h K := by kernel_rfl
def w (x0p : Option Addr) (x0l x0c : Nat) (h : Heap) (K : KK) : Prop :=
  J0 x0p x0l x0c h K
theorem e0 (K : KK) (x0p : Option Addr) (x0l x0c : Nat) (h : Heap) : (E Tryz.prog X T S0 body (fin Tryz.prog Tryz.f64.results.toList K) (args0 0 [(.slice x0p x0l x0c)]) h) = w x0p x0l x0c h K := (E0 S0 x0p x0l x0c h K).trans (rfl)
theorem hb : Tryz.f64.body = some body := by kernel_rfl
theorem ok : okCode T Tryz.f64.ntmps body = true := by kernel_rfl
theorem spec (x0p : Option Addr) (x0l : Nat) (x0c : Nat) (h : Heap) (K : KK) (H : w x0p x0l x0c h K) : CallsH Tryz.prog 64 [(.slice x0p x0l x0c)] h K :=
  calls_of_E (T := T) Xok mix Tryz.func64 hb ok rfl (by rw [e0]; exact H)
end F64
-- slices.Sorted[uint8]
namespace F40
def T : Hint := ⟨[], []⟩
noncomputable def body : Code := (Tryz.f40.body).getD .skip
def J0 (x0c0 : Addr) (h : Heap) (K : KK) : Prop :=
  CallsH Tryz.prog 63 [(.func (.func 65) #[] #[(.pointer (some x0c0))])] h (fun v1 h2 => ldS (some v1) (fun p3 l4 c5 => CallsH Tryz.prog 64 [(.slice p3 l4 c5)] h2 (fun v6 h7 => (v6 = (.tuple #[]) ∧ K (.slice p3 l4 c5) h7))))
theorem E0 (S : Stop) (x0c0 : Addr) (h : Heap) (K : KK) : (E Tryz.prog X T S body (fin Tryz.prog Tryz.f40.results.toList K) (args0 0 [(.func (.func 65) #[] #[(.pointer (some x0c0))])]) h) = J0 x0c0 h K := by kernel_rfl
def w (x0c0 : Addr) (h : Heap) (K : KK) : Prop :=
  J0 x0c0 h K
theorem e0 (K : KK) (x0c0 : Addr) (h : Heap) : (E Tryz.prog X T S0 body (fin Tryz.prog Tryz.f40.results.toList K) (args0 0 [(.func (.func 65) #[] #[(.pointer (some x0c0))])]) h) = w x0c0 h K := (E0 S0 x0c0 h K).trans (rfl)
theorem hb : Tryz.f40.body = some body := by kernel_rfl
theorem ok : okCode T Tryz.f40.ntmps body = true := by kernel_rfl
theorem spec (x0c0 : Addr) (h : Heap) (K : KK) (H : w x0c0 h K) : CallsH Tryz.prog 40 [(.func (.func 65) #[] #[(.pointer (some x0c0))])] h K :=
  calls_of_E (T := T) Xok mix Tryz.func40 hb ok rfl (by rw [e0]; exact H)
end F40
-- cmp.Less[uint8]
namespace F66
def T : Hint := ⟨[], []⟩
noncomputable def body : Code := (Tryz.f66.body).getD .skip
def J0 (x0 x1 : Int) (h : Heap) (K : KK) : Prop :=
  CallsH Tryz.prog 84 [(.int .u8 x0)] h (fun v1 h2 => ldB (some v1) (fun b3 => bcase b3 (CallsH Tryz.prog 84 [(.int .u8 x1)] h2 (fun v4 h5 => ldB (some v4) (fun b6 => bcase (!b6) (K (.bool true) h5) (K (.bool (decide (x0 < x1))) h5)))) (K (.bool (decide (x0 < x1))) h2)))
theorem E0 (S : Stop) (x0 x1 : Int) (h : Heap) (K : KK) : (E Tryz.prog X T S body (fin Tryz.prog Tryz.f66.results.toList K) (args0 0 [(.int .u8 x0), (.int .u8 x1)]) h) = J0 x0 x1 h K := by kernel_rfl
def w (x0 x1 : Int) (h : Heap) (K : KK) : Prop :=
  J0 x0 x1 h K
theorem e0 (K : KK) (x0 x1 : Int) (h : Heap) : (E Tryz.prog X T S0 body (fin Tryz.prog Tryz.f66.results.toList K) (args0 0 [(.int .u8 x0), (.int .u8 x1)]) h) = w x0 x1 h K := (E0 S0 x0 x1 h K).trans (rfl)
theorem hb : Tryz.f66.body = some body := by kernel_rfl
theorem ok : okCode T Tryz.f66.ntmps body = true := by kernel_rfl
theorem spec (x0 : Int) (x1 : Int) (h : Heap) (K : KK) (H : w x0 x1 h K) : CallsH Tryz.prog 66 [(.int .u8 x0), (.int .u8 x1)] h K :=
  calls_of_E (T := T) Xok mix Tryz.func66 hb ok rfl (by rw [e0]; exact H)
end F66
-- cmp.isNaN[uint8]
namespace F84
def T : Hint := ⟨[], []⟩
noncomputable def body : Code := (Tryz.f84.body).getD .skip
def J0 (x0 : Int) (h : Heap) (K : KK) : Prop :=
  K (.bool (x0 != x0)) h
theorem E0 (S : Stop) (x0 : Int) (h : Heap) (K : KK) : (E Tryz.prog X T S body (fin Tryz.prog Tryz.f84.results.toList K) (args0 0 [(.int .u8 x0)]) h) = J0 x0 h K := by kernel_rfl
def w (x0 : Int) (h : Heap) (K : KK) : Prop :=
  J0 x0 h K
theorem e0 (K : KK) (x0 : Int) (h : Heap) : (E Tryz.prog X T S0 body (fin Tryz.prog Tryz.f84.results.toList K) (args0 0 [(.int .u8 x0)]) h) = w x0 h K := (E0 S0 x0 h K).trans (rfl)
theorem hb : Tryz.f84.body = some body := by kernel_rfl
theorem ok : okCode T Tryz.f84.ntmps body = true := by kernel_rfl
theorem spec (x0 : Int) (h : Heap) (K : KK) (H : w x0 h K) : CallsH Tryz.prog 84 [(.int .u8 x0)] h K :=
  calls_of_E (T := T) Xok mix Tryz.func84 hb ok rfl (by rw [e0]; exact H)
end F84
-- slices.insertionSortOrdered[uint8]
namespace F96
def T : Hint := ⟨[(1, [0, 1, 2, 6]), (4, [0, 1, 2, 6, 7])], [(4, [[(0, []), (1, []), (2, []), (3, []), (4, []), (5, []), (6, []), (7, []), (8, []), (9, []), (10, []), (11, []), (12, []), (13, []), (14, [])]]), (6, [[(0, []), (1, []), (2, []), (3, []), (4, []), (5, []), (6, []), (7, []), (8, []), (9, []), (10, []), (11, []), (12, []), (13, []), (14, []), (15, [2, 3, 4]), (16, []), (17, [])]])]⟩
noncomputable def body : Code := (Tryz.f96.body).getD .skip
noncomputable def en (S : Stop) (p : List Nat) (κ : XK) : Fr → Heap → Prop := E Tryz.prog X T S (sub body p) κ
noncomputable def ln (S : Stop) (p : List Nat) (κ : XK) (n : Nat) : Fr → Heap → Prop := loopN S (E Tryz.prog X T S (sub body p)) (cutQ T (sub body p)) κ n
def fn (K : KK) : XK := fin Tryz.prog Tryz.f96.results.toList K
noncomputable def c0 (_S : Stop) (K : KK) : XK := blockN 0 (fn K)
noncomputable def c1 (S : Stop) (n1 : Nat) (K : KK) : XK := backN S (cutQ T (sub body [1, 0, 0])) (ln S [1, 0, 0] (c0 S K) n1) (c0 S K)
noncomputable def c2 (S : Stop) (n1 : Nat) (K : KK) : XK := seqN S (cutQ T (sub body [1, 0, 0, 1, 1])) (en S [1, 0, 0, 1, 1] (c1 S n1 K)) (c1 S n1 K)
noncomputable def c3 (S : Stop) (n1 : Nat) (K : KK) : XK := blockN 1 (c2 S n1 K)
noncomputable def c4 (S : Stop) (n1 : Nat) (K : KK) : XK := blockN 2 (c3 S n1 K)
noncomputable def c5 (S : Stop) (n1 : Nat) (n4 : Nat) (K : KK) : XK := backN S (cutQ T (sub body [1, 0, 0, 1, 0, 0, 1, 0, 0])) (ln S [1, 0, 0, 1, 0, 0, 1, 0, 0] (c4 S n1 K) n4) (c4 S n1 K)
def f1 (x0p : Option Addr) (x0l x0c : Nat) (x1 x2 x6 : Int) : Fr := [(0, (.slice x0p x0l x0c)), (1, (.int .i64 x1)), (2, (.int .i64 x2)), (6, (.int .i64 x6))]
def f4 (x0p : Option Addr) (x0l x0c : Nat) (x1 x2 x6 x7 : Int) : Fr := [(0, (.slice x0p x0l x0c)), (1, (.int .i64 x1)), (2, (.int .i64 x2)), (6, (.int .i64 x6)), (7, (.int .i64 x7))]
def J0 (k1 : (Option Addr) → Nat → Nat → Int → Int → Int → Heap → Prop) (x0p : Option Addr) (x0l x0c : Nat) (x1 x2 : Int) (h : Heap) (_K : KK) : Prop :=
  k1 x0p x0l x0c x1 x2 (IntKind.wrap .i64 (x1 + (1 : Int))) h
theorem E0 (S : Stop) (x0p : Option Addr) (x0l x0c : Nat) (x1 x2 : Int) (h : Heap) (K : KK) : (E Tryz.prog X T S body (fin Tryz.prog Tryz.f96.results.toList K) (args0 0 [(.slice x0p x0l x0c), (.int .i64 x1), (.int .i64 x2)]) h) = J0 (fun x0p x0l x0c x1 x2 x6 h => S (en S [1] (fn K)) (f1 x0p x0l x0c x1 x2 x6) h) x0p x0l x0c x1 x2 h K := by kernel_rfl
def Jk1 (lp1 : (Option Addr) → Nat → Nat → Int → Int → Int → Heap → Prop) (x0p : Option Addr) (x0l x0c : Nat) (x1 x2 x6 : Int) (h : Heap) (_K : KK) : Prop :=
  lp1 x0p x0l x0c x1 x2 x6 h
theorem Ek1 (S : Stop) (x0p : Option Addr) (x0l x0c : Nat) (x1 x2 x6 : Int) (h : Heap) (K : KK) : (en S [1] (fn K) (f1 x0p x0l x0c x1 x2 x6) h) = Jk1 (fun x0p x0l x0c x1 x2 x6 h => ∃ n, S (ln S [1, 0, 0] (c0 S K) n) (f1 x0p x0l x0c x1 x2 x6) h) x0p x0l x0c x1 x2 x6 h K := by kernel_rfl
def JL1 (k4 : (Option Addr) → Nat → Nat → Int → Int → Int → Int → Heap → Prop) (x0p : Option Addr) (x0l x0c : Nat) (x1 x2 x6 : Int) (h : Heap) (K : KK) : Prop :=
  bcase (decide (x6 < x2)) (k4 x0p x0l x0c x1 x2 x6 x6 h) (K (.tuple #[]) h)
theorem EL1 (S : Stop) (n1 : Nat) (x0p : Option Addr) (x0l x0c : Nat) (x1 x2 x6 : Int) (h : Heap) (K : KK) : (en S [1, 0, 0] (c1 S n1 K) (f1 x0p x0l x0c x1 x2 x6) h) = JL1 (fun x0p x0l x0c x1 x2 x6 x7 h => S (en S [1, 0, 0, 1, 0, 0, 1] (c3 S n1 K)) (f4 x0p x0l x0c x1 x2 x6 x7) h) x0p x0l x0c x1 x2 x6 h K := by kernel_rfl
def Jk4 (lp4 : (Option Addr) → Nat → Nat → Int → Int → Int → Int → Heap → Prop) (x0p : Option Addr) (x0l x0c : Nat) (x1 x2 x6 x7 : Int) (h : Heap) (_K : KK) : Prop :=
  lp4 x0p x0l x0c x1 x2 x6 x7 h
theorem Ek4 (S : Stop) (n1 : Nat) (x0p : Option Addr) (x0l x0c : Nat) (x1 x2 x6 x7 : Int) (h : Heap) (K : KK) : (en S [1, 0, 0, 1, 0, 0, 1] (c3 S n1 K) (f4 x0p x0l x0c x1 x2 x6 x7) h) = Jk4 (fun x0p x0l x0c x1 x2 x6 x7 h => ∃ n, S (ln S [1, 0, 0, 1, 0, 0, 1, 0, 0] (c4 S n1 K) n) (f4 x0p x0l x0c x1 x2 x6 x7) h) x0p x0l x0c x1 x2 x6 x7 h K := by kernel_rfl
def JL4 (bk4 : (Option Addr) → Nat → Nat → Int → Int → Int → Int → Heap → Prop) (bk1 : (Option Addr) → Nat → Nat → Int → Int → Int → Heap → Prop) (x0p : Option Addr) (x0l x0c : Nat) (x1 x2 x6 x7 : Int) (h : Heap) (_K : KK) : Prop :=
  bcase (decide (x7 > x1)) (ptrK x0p (fun a1 => (0 ≤ x7 ∧ x7 < (Nat.cast x0l : Int) ∧ ldI .u8 (rd h (Addr.add a1 (Int.toNat x7 * 1))) (fun n2 => ptrK x0p (fun a3 => (0 ≤ (IntKind.wrap .i64 (x7 - (1 : Int))) ∧ (IntKind.wrap .i64 (x7 - (1 : Int))) < (Nat.cast x0l : Int) ∧ ldI .u8 (rd h (Addr.add a3 (Int.toNat (IntKind.wrap .i64 (x7 - (1 : Int))) * 1))) (fun n4 => CallsH Tryz.prog 66 [(.int .u8 n2), (.int .u8 n4)] h (fun v5 h6 => ldB (some v5) (fun b7 => bcase b7 (ptrK x0p (fun a8 => (0 ≤ (IntKind.wrap .i64 (x7 - (1 : Int))) ∧ (IntKind.wrap .i64 (x7 - (1 : Int))) < (Nat.cast x0l : Int) ∧ ldI .u8 (rd h6 (Addr.add a8 (Int.toNat (IntKind.wrap .i64 (x7 - (1 : Int))) * 1))) (fun n9 => ptrK x0p (fun a10 => (0 ≤ x7 ∧ x7 < (Nat.cast x0l : Int) ∧ ldI .u8 (rd h6 (Addr.add a10 (Int.toNat x7 * 1))) (fun n11 => ptrK x0p (fun a12 => (0 ≤ x7 ∧ x7 < (Nat.cast x0l : Int) ∧ stK h6 (Addr.add (Addr.add a12 (Int.toNat x7 * 1)) 0) (.int .u8 n9) (fun h13 => ((.slice x0p x0l x0c) = ((.slice x0p x0l x0c) : Value) ∧ ((.int .i64 x7) = ((.int .i64 x7) : Value) ∧ ((.int .i64 (IntKind.wrap .i64 (x7 - (1 : Int)))) = ((.int .i64 (IntKind.wrap .i64 (x7 - (1 : Int)))) : Value) ∧ ptrK x0p (fun a14 => (0 ≤ (IntKind.wrap .i64 (x7 - (1 : Int))) ∧ (IntKind.wrap .i64 (x7 - (1 : Int))) < (Nat.cast x0l : Int) ∧ stK h13 (Addr.add (Addr.add a14 (Int.toNat (IntKind.wrap .i64 (x7 - (1 : Int))) * 1)) 0) (.int .u8 n11) (fun h15 => bk4 x0p x0l x0c x1 x2 x6 (IntKind.wrap .i64 (x7 - (1 : Int))) h15)))))))))))))))) (bk1 x0p x0l x0c x1 x2 (IntKind.wrap .i64 (x6 + (1 : Int))) h6)))))))))) (bk1 x0p x0l x0c x1 x2 (IntKind.wrap .i64 (x6 + (1 : Int))) h)
theorem EL4 (S : Stop) (n1 : Nat) (n4 : Nat) (x0p : Option Addr) (x0l x0c : Nat) (x1 x2 x6 x7 : Int) (h : Heap) (K : KK) : (en S [1, 0, 0, 1, 0, 0, 1, 0, 0] (c5 S n1 n4 K) (f4 x0p x0l x0c x1 x2 x6 x7) h) = JL4 (fun x0p x0l x0c x1 x2 x6 x7 h => S (ln S [1, 0, 0, 1, 0, 0, 1, 0, 0] (c4 S n1 K) n4) (f4 x0p x0l x0c x1 x2 x6 x7) h) (fun x0p x0l x0c x1 x2 x6 h => S (ln S [1, 0, 0] (c0 S K) n1) (f1 x0p x0l x0c x1 x2 x6) h) x0p x0l x0c x1 x2 x6 x7 h K := by kernel_rfl
def wL4 (bk1 : (Option Addr) → Nat → Nat → Int → Int → Int → Heap → Prop) : Nat → (Option Addr) → Nat → Nat → Int → Int → Int → Int → Heap → KK → Prop
  | 0, _, _, _, _, _, _, _, _, _ => False
  | n + 1, x0p, x0l, x0c, x1, x2, x6, x7, h, K => JL4 (fun x0p x0l x0c x1 x2 x6 x7 h => wL4 bk1 n x0p x0l x0c x1 x2 x6 x7 h K) bk1 x0p x0l x0c x1 x2 x6 x7 h K
theorem eL4 (K : KK) (n1 : Nat) (bk1 : (Option Addr) → Nat → Nat → Int → Int → Int → Heap → Prop) (hb1 : ∀ (x0p : Option Addr) (x0l x0c : Nat) (x1 x2 x6 : Int) (h : Heap), (ln S0 [1, 0, 0] (c0 S0 K) n1 (f1 x0p x0l x0c x1 x2 x6) h) = bk1 x0p x0l x0c x1 x2 x6 h) : ∀ (n : Nat) (x0p : Option Addr) (x0l x0c : Nat) (x1 x2 x6 x7 : Int) (h : Heap), (ln S0 [1, 0, 0, 1, 0, 0, 1, 0, 0] (c4 S0 n1 K) n (f4 x0p x0l x0c x1 x2 x6 x7) h) = wL4 bk1 n x0p x0l x0c x1 x2 x6 x7 h K
  | 0, _, _, _, _, _, _, _, _ => rfl
  | n + 1, x0p, x0l, x0c, x1, x2, x6, x7, h => (EL4 S0 n1 n x0p x0l x0c x1 x2 x6 x7 h K).trans (cg2 (fun q0 q1 => JL4 q0 q1 x0p x0l x0c x1 x2 x6 x7 h K) (by funext x0p x0l x0c x1 x2 x6 x7 h; exact (fun x0p x0l x0c x1 x2 x6 x7 h => eL4 K n1 bk1 hb1 n x0p x0l x0c x1 x2 x6 x7 h) x0p x0l x0c x1 x2 x6 x7 h) (by funext x0p x0l x0c x1 x2 x6 h; exact hb1 x0p x0l x0c x1 x2 x6 h))
def wk4 (bk1 : (Option Addr) → Nat → Nat → Int → Int → Int → Heap → Prop) (x0p : Option Addr) (x0l x0c : Nat) (x1 x2 x6 x7 : Int) (h : Heap) (K : KK) : Prop :=
  Jk4 (fun x0p x0l x0c x1 x2 x6 x7 h => ∃ m, wL4 bk1 m x0p x0l x0c x1 x2 x6 x7 h K) x0p x0l x0c x1 x2 x6 x7 h K
theorem ek4 (K : KK) (n1 : Nat) (bk1 : (Option Addr) → Nat → Nat → Int → Int → Int → Heap → Prop) (hb1 : ∀ (x0p : Option Addr) (x0l x0c : Nat) (x1 x2 x6 : Int) (h : Heap), (ln S0 [1, 0, 0] (c0 S0 K) n1 (f1 x0p x0l x0c x1 x2 x6) h) = bk1 x0p x0l x0c x1 x2 x6 h) (x0p : Option Addr) (x0l x0c : Nat) (x1 x2 x6 x7 : Int) (h : Heap) : (en S0 [1, 0, 0, 1, 0, 0, 1] (c3 S0 n1 K) (f4 x0p x0l x0c x1 x2 x6 x7) h) = wk4 bk1 x0p x0l x0c x1 x2 x6 x7 h K := (Ek4 S0 n1 x0p x0l x0c x1 x2 x6 x7 h K).trans (cg1 (fun q0 => Jk4 q0 x0p x0l x0c x1 x2 x6 x7 h K) (by funext x0p x0l x0c x1 x2 x6 x7 h; exact ex_congr fun m => eL4 K n1 bk1 hb1 m x0p x0l x0c x1 x2 x6 x7 h))
def wL1 : Nat → (Option Addr) → Nat → Nat → Int → Int → Int → Heap → KK → Prop
  | 0, _, _, _, _, _, _, _, _ => False
  | n + 1, x0p, x0l, x0c, x1, x2, x6, h, K => JL1 (fun x0p x0l x0c x1 x2 x6 x7 h => wk4 (fun x0p x0l x0c x1 x2 x6 h => wL1 n x0p x0l x0c x1 x2 x6 h K) x0p x0l x0c x1 x2 x6 x7 h K) x0p x0l x0c x1 x2 x6 h K
theorem eL1 (K : KK) : ∀ (n : Nat) (x0p : Option Addr) (x0l x0c : Nat) (x1 x2 x6 : Int) (h : Heap), (ln S0 [1, 0, 0] (c0 S0 K) n (f1 x0p x0l x0c x1 x2 x6) h) = wL1 n x0p x0l x0c x1 x2 x6 h K
  | 0, _, _, _, _, _, _, _ => rfl
  | n + 1, x0p, x0l, x0c, x1, x2, x6, h => (EL1 S0 n x0p x0l x0c x1 x2 x6 h K).trans (cg1 (fun q0 => JL1 q0 x0p x0l x0c x1 x2 x6 h K) (by funext x0p x0l x0c x1 x2 x6 x7 h; exact ek4 K n (fun x0p x0l x0c x1 x2 x6 h => wL1 n x0p x0l x0c x1 x2 x6 h K) (fun x0p x0l x0c x1 x2 x6 h => eL1 K n x0p x0l x0c x1 x2 x6 h) x0p x0l x0c x1 x2 x6 x7 h))
def wk1 (x0p : Option Addr) (x0l x0c : Nat) (x1 x2 x6 : Int) (h : Heap) (K : KK) : Prop :=
  Jk1 (fun x0p x0l x0c x1 x2 x6 h => ∃ m, wL1 m x0p x0l x0c x1 x2 x6 h K) x0p x0l x0c x1 x2 x6 h K
theorem ek1 (K : KK) (x0p : Option Addr) (x0l x0c : Nat) (x1 x2 x6 : Int) (h : Heap) : (en S0 [1] (fn K) (f1 x0p x0l x0c x1 x2 x6) h) = wk1 x0p x0l x0c x1 x2 x6 h K := (Ek1 S0 x0p x0l x0c x1 x2 x6 h K).trans (cg1 (fun q0 => Jk1 q0 x0p x0l x0c x1 x2 x6 h K) (by funext x0p x0l x0c x1 x2 x6 h; exact ex_congr fun m => eL1 K m x0p x0l x0c x1 x2 x6 h))
def w (x0p : Option Addr) (x0l x0c : Nat) (x1 x2 : Int) (h : Heap) (K : KK) : Prop :=
  J0 (fun x0p x0l x0c x1 x2 x6 h => wk1 x0p x0l x0c x1 x2 x6 h K) x0p x0l x0c x1 x2 h K
theorem e0 (K : KK) (x0p : Option Addr) (x0l x0c : Nat) (x1 x2 : Int) (h : Heap) : (E Tryz.prog X T S0 body (fin Tryz.prog Tryz.f96.results.toList K) (args0 0 [(.slice x0p x0l x0c), (.int .i64 x1), (.int .i64 x2)]) h) = w x0p x0l x0c x1 x2 h K := (E0 S0 x0p x0l x0c x1 x2 h K).trans (cg1 (fun q0 => J0 q0 x0p x0l x0c x1 x2 h K) (by funext x0p x0l x0c x1 x2 x6 h; exact ek1 K x0p x0l x0c x1 x2 x6 h))
theorem hb : Tryz.f96.body = some body := by kernel_rfl
theorem ok : okCode T Tryz.f96.ntmps body = true := by kernel_rfl
theorem spec (x0p : Option Addr) (x0l : Nat) (x0c : Nat) (x1 : Int) (x2 : Int) (h : Heap) (K : KK) (H : w x0p x0l x0c x1 x2 h K) : CallsH Tryz.prog 96 [(.slice x0p x0l x0c), (.int .i64 x1), (.int .i64 x2)] h K :=
  calls_of_E (T := T) Xok mix Tryz.func96 hb ok rfl (by rw [e0]; exact H)
end F96
end Go.Proofs.YtnbnlhpleomaoaaGreat.Ev
/- SORTING: a comparison; insertion. Conditions: the row stands (Arr). -/
namespace Go.Proofs.YtnbnlhpleomaoaaGreat.Ev
open Go

theorem nan98 {x : Int} {h : Heap} {K : Value → Heap → Prop} (hK : K (.bool false) h) : CallsH Tryz.prog 84 [.int .u8 x] h K := by
  refine F84.spec x h K ?_
  unfold F84.w F84.J0
  rw [show (x != x) = false by simp]
  exact hK
theorem less82 {x y : Int} {h : Heap} {K : Value → Heap → Prop} (hK : K (.bool (decide (x < y))) h) : CallsH Tryz.prog 66 [.int .u8 x, .int .u8 y] h K := by
  refine F66.spec x y h K ?_
  unfold F66.w F66.J0
  exact nan98 (by rw [ldB_some]; exact hK)
/-- the bound of a slice's length -/
def LB : Nat := 140737488355328
theorem wrapN {x : Int} (h0 : -LB ≤ x) (h1 : x ≤ LB) : IntKind.wrap .i64 x = x := wrap_i64 (by unfold LB at h0; omega) (by unfold LB at h1; omega)
theorem inner76 {b n a e c i : Nat} {sp : List Value} {K : Value → Heap → Prop} {bk : (Option Addr) → Nat → Nat → Int → Int → Int → Heap → Prop} (he : e ≤ n) (hie : i < e) (hn : n ≤ LB - 2) :
    ∀ (j : Nat) (g : Nat → Int) (h : Heap), Arr .u8 h b n g sp → Ins a i j g → a ≤ j → j ≤ i → (∀ h' g', Arr .u8 h' b n g' sp → Srt a (i + 1) g' → Swp a e g g' → Only [b] h h' → bk (some ⟨b, 0, none⟩) n c a e ((i + 1 : Nat) : Int) h') →
      F96.wL4 bk (j + 1) (some ⟨b, 0, none⟩) n c a e i j h K := by
  intro j
  have hLB : LB = 140737488355328 := rfl
  have w1 : IntKind.wrap .i64 ((i : Int) + 1) = ((i + 1 : Nat) : Int) := by rw [wrapN (by omega) (by omega)]; omega
  induction j with
  | zero =>
    intro g h A I ha hj hK
    unfold F96.wL4 F96.JL4
    rw [w1, show decide (((0 : Nat) : Int) > (a : Int)) = false by simp]
    exact hK h g A (I.stop (.inl (by omega))) (.refl g) (Only.refl _ _)
  | succ j ih =>
    intro g h A I ha hj hK
    unfold F96.wL4 F96.JL4
    have w2 : IntKind.wrap .i64 (((j + 1 : Nat) : Int) - 1) = (j : Int) := by rw [wrapN (by omega) (by omega)]; omega
    rw [w1, w2]
    refine bcase_of (fun hc => ?_) fun hc => ?_
    · simp only [decide_eq_true_eq] at hc
      refine A.ld rfl (by omega) (A.ld rfl (by omega) (less82 ?_))
      rw [ldB_some]
      refine bcase_of (fun hl => ?_) fun hl => ?_
      · simp only [decide_eq_true_eq] at hl
        refine A.ld rfl (by omega) (A.ld rfl (by omega) (A.sto rfl (by omega) fun h1 A1 O1 => ⟨rfl, rfl, rfl, A1.sto rfl (by omega) fun h2 A2 O2 => ?_⟩))
        have O : Only [b] h h2 := O1.trans O2 (by simp)
        have S : Swp a e g (swp g (j + 1) j) := Swp.one g (by omega) (by omega) (by omega) (by omega)
        have A2' : Arr .u8 h2 b n (swp g (j + 1) j) sp := A2
        have I2 := I.step (by omega) hj hl
        rw [show j + 1 - 1 = j by omega] at I2
        exact ih _ h2 A2' I2 (by omega) (by omega) fun h' g' A' R' S' O' => hK h' g' A' R' (S.trans S') (O.trans O' (by simp))
      · simp only [decide_eq_false_iff_not] at hl
        exact hK h g A (I.stop (.inr (by rw [show j + 1 - 1 = j by omega]; omega))) (.refl g) (Only.refl _ _)
    · simp only [decide_eq_false_iff_not] at hc
      exact hK h g A (I.stop (.inl (by omega))) (.refl g) (Only.refl _ _)
theorem outer76 {b n a e c : Nat} {sp : List Value} {K : Value → Heap → Prop} (he : e ≤ n) (hn : n ≤ LB - 2) :
    ∀ (d i : Nat) (g : Nat → Int) (h : Heap), e ≤ i + d → Arr .u8 h b n g sp → a < i → i ≤ e ∨ e ≤ a → Srt a i g → (∀ h' g', Arr .u8 h' b n g' sp → Srt a e g' → Swp a e g g' → Only [b] h h' → K (.tuple #[]) h') →
      F96.wL1 (d + 1) (some ⟨b, 0, none⟩) n c a e i h K := by
  intro d
  induction d with
  | zero =>
    intro i g h hd A ha hi R hK
    unfold F96.wL1 F96.JL1
    rw [show decide ((i : Int) < (e : Int)) = false by simp; omega]
    exact hK h g A (fun p q h1 h2 h3 => R p q h1 h2 (by omega)) (.refl g) (Only.refl _ _)
  | succ d ih =>
    intro i g h hd A ha hi R hK
    unfold F96.wL1 F96.JL1
    refine bcase_of (fun hc => ?_) fun hc => ?_
    · simp only [decide_eq_true_eq] at hc
      refine ⟨i + 1, inner76 he (by omega) hn i g h A (Ins.start R) (by omega) (Nat.le_refl _) fun h1 g1 A1 R1 S1 O1 => ?_⟩
      exact ih (i + 1) g1 h1 (by omega) A1 (by omega) (by omega) R1 fun h' g' A' R' S' O' => hK h' g' A' R' (S1.trans S') (O1.trans O' (by simp))
    · simp only [decide_eq_false_iff_not] at hc
      exact hK h g A (fun p q h1 h2 h3 => R p q h1 h2 (by omega)) (.refl g) (Only.refl _ _)
theorem ins76 {h : Heap} {b n a e c : Nat} {g : Nat → Int} {sp : List Value} {K : Value → Heap → Prop} (A : Arr .u8 h b n g sp) (he : e ≤ n) (ha : a ≤ n) (hn : n ≤ LB - 2)
    (hK : ∀ h' g', Arr .u8 h' b n g' sp → Srt a e g' → Swp a e g g' → Only [b] h h' → K (.tuple #[]) h') : CallsH Tryz.prog 96 [.slice (some ⟨b, 0, none⟩) n c, .int .i64 a, .int .i64 e] h K := by
  refine F96.spec _ _ _ _ _ h K ?_
  unfold F96.w F96.J0 F96.wk1 F96.Jk1
  have hLB : LB = 140737488355328 := rfl
  rw [show IntKind.wrap .i64 ((a : Int) + 1) = ((a + 1 : Nat) : Int) by rw [wrapN (by omega) (by omega)]; omega]
  exact ⟨e + 1, outer76 he hn e (a + 1) g h (by omega) A (by omega) (by omega) (Srt.single g (by omega)) hK⟩
end Go.Proofs.YtnbnlhpleomaoaaGreat.Ev
