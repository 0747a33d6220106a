/- PRINTED BY PROGRAM: what each of these functions does, computed over heaps by the evaluator, and that its calls do so. Conditions: none. -/
import Derived.Test.YtbjdjgdbkfjglaaTX2
namespace Go.Proofs.Ytbjdjgdbkfjglaa.Ev
open Go
-- spinney/bits.Mix
namespace F50
def T : Hint := ⟨[(2, [0, 5, 6])], []⟩
noncomputable def body : Code := (Try.f50.body).getD .skip
def c0 (S : Stop) (K : Value → Heap → Prop) : Exit → Fr → Heap → Prop := seqN S (cutQ T (sub body [1, 1])) (E Try.prog X T S (sub body [1, 1]) (fin Try.prog Try.f50.results.toList K)) (fin Try.prog Try.f50.results.toList K)
def c1 (S : Stop) (K : Value → Heap → Prop) : Exit → Fr → Heap → Prop := blockN 0 (c0 S K)
def c2 (S : Stop) (n2 : Nat) (K : Value → Heap → Prop) : Exit → Fr → Heap → Prop := backN S (cutQ T (sub body [1, 0, 1, 0, 0])) (loopN S (E Try.prog X T S (sub body [1, 0, 1, 0, 0])) (cutQ T (sub body [1, 0, 1, 0, 0])) (c1 S K) n2) (c1 S K)
def J0 (k2 : Int → Int → Heap → Prop) (x0 : Int) (h : Heap) (_K : Value → Heap → Prop) : Prop :=
  k2 x0 (0 : Int) h
theorem E0 (S : Stop) (x0 : Int) (h : Heap) (K : Value → Heap → Prop) :
    (E Try.prog X T S body (fin Try.prog Try.f50.results.toList K) (args0 0 [(.int .u64 x0)]) h) = J0 (fun x0 x6 h => S (E Try.prog X T S (sub body [1, 0, 1]) (c0 S K)) [(0, (.int .u64 x0)), (5, (.agg #[(.int .u64 (18397679294719823053 : Int)), (.int .u64 (14181476777654086739 : Int))])), (6, (.int .i64 x6))] h) x0 h K := by kernel_rfl
def Jk2 (lp2 : Int → Int → Heap → Prop) (x0 : Int) (x6 : Int) (h : Heap) (_K : Value → Heap → Prop) : Prop :=
  lp2 x0 x6 h
theorem Ek2 (S : Stop) (x0 : Int) (x6 : Int) (h : Heap) (K : Value → Heap → Prop) :
    (E Try.prog X T S (sub body [1, 0, 1]) (c0 S K) [(0, (.int .u64 x0)), (5, (.agg #[(.int .u64 (18397679294719823053 : Int)), (.int .u64 (14181476777654086739 : Int))])), (6, (.int .i64 x6))] h) = Jk2 (fun x0 x6 h => ∃ n, S (loopN S (E Try.prog X T S (sub body [1, 0, 1, 0, 0])) (cutQ T (sub body [1, 0, 1, 0, 0])) (c1 S K) n) [(0, (.int .u64 x0)), (5, (.agg #[(.int .u64 (18397679294719823053 : Int)), (.int .u64 (14181476777654086739 : Int))])), (6, (.int .i64 x6))] h) x0 x6 h K := by kernel_rfl
def JL2 (bk2 : Int → Int → Heap → Prop) (x0 : Int) (x6 : Int) (h : Heap) (K : Value → Heap → Prop) : Prop :=
  bcase (decide (x6 < (2 : Int))) ((0 ≤ x6 ∧ x6 < (Nat.cast 2 : Int) ∧ ldI .u64 ([(.int .u64 (18397679294719823053 : Int)), (.int .u64 (14181476777654086739 : Int))] : List Value)[Int.toNat x6]? (fun n1 => (0 ≤ (33 : Int) ∧ bk2 (IntKind.wrap .u64 ((bitsI .xor .u64 x0 (Int.fdiv x0 (2 ^ (min (Int.toNat (33 : Int)) (IntKind.bits .u64))))) * n1)) (IntKind.wrap .i64 (x6 + (1 : Int))) h)))) ((0 ≤ (33 : Int) ∧ K (.int .u64 (bitsI .xor .u64 x0 (Int.fdiv x0 (2 ^ (min (Int.toNat (33 : Int)) (IntKind.bits .u64)))))) h))
theorem EL2 (S : Stop) (n2 : Nat) (x0 : Int) (x6 : Int) (h : Heap) (K : Value → Heap → Prop) :
    (E Try.prog X T S (sub body [1, 0, 1, 0, 0]) (c2 S n2 K) [(0, (.int .u64 x0)), (5, (.agg #[(.int .u64 (18397679294719823053 : Int)), (.int .u64 (14181476777654086739 : Int))])), (6, (.int .i64 x6))] h) = JL2 (fun x0 x6 h => S (loopN S (E Try.prog X T S (sub body [1, 0, 1, 0, 0])) (cutQ T (sub body [1, 0, 1, 0, 0])) (c1 S K) n2) [(0, (.int .u64 x0)), (5, (.agg #[(.int .u64 (18397679294719823053 : Int)), (.int .u64 (14181476777654086739 : Int))])), (6, (.int .i64 x6))] h) x0 x6 h K := by kernel_rfl
def wL2 : Nat → Int → Int → Heap → (Value → Heap → Prop) → Prop
  | 0, _, _, _, _ => False
  | n + 1, x0, x6, h, K => JL2 (fun x0 x6 h => wL2 n x0 x6 h K) x0 x6 h K
theorem eL2 (K : Value → Heap → Prop) : ∀ (n : Nat) (x0 : Int) (x6 : Int) (h : Heap), (loopN S0 (E Try.prog X T S0 (sub body [1, 0, 1, 0, 0])) (cutQ T (sub body [1, 0, 1, 0, 0])) (c1 S0 K) n [(0, (.int .u64 x0)), (5, (.agg #[(.int .u64 (18397679294719823053 : Int)), (.int .u64 (14181476777654086739 : Int))])), (6, (.int .i64 x6))] h) = wL2 n x0 x6 h K
  | 0, _, _, _ => rfl
  | n + 1, x0, x6, h => (EL2 S0 n x0 x6 h K).trans (congrFun (congrFun (congrFun (congrFun (congrArg JL2 (funext fun x0 => funext fun x6 => funext fun h => (fun x0 x6 h => eL2 K n x0 x6 h) x0 x6 h)) x0) x6) h) K)
def wk2 (x0 : Int) (x6 : Int) (h : Heap) (K : Value → Heap → Prop) : Prop :=
  Jk2 (fun x0 x6 h => ∃ n, wL2 n x0 x6 h K) x0 x6 h K
theorem ek2 (K : Value → Heap → Prop) (x0 : Int) (x6 : Int) (h : Heap) : (E Try.prog X T S0 (sub body [1, 0, 1]) (c0 S0 K) [(0, (.int .u64 x0)), (5, (.agg #[(.int .u64 (18397679294719823053 : Int)), (.int .u64 (14181476777654086739 : Int))])), (6, (.int .i64 x6))] h) = wk2 x0 x6 h K :=
  (Ek2 S0 x0 x6 h K).trans (congrFun (congrFun (congrFun (congrFun (congrArg Jk2 (funext fun x0 => funext fun x6 => funext fun h => congrArg (fun p : Nat → Prop => ∃ n, p n) (funext fun n => eL2 K n x0 x6 h))) x0) x6) h) K)
def w (x0 : Int) (h : Heap) (K : Value → Heap → Prop) : Prop :=
  J0 (fun x0 x6 h => wk2 x0 x6 h K) x0 h K
theorem e0 (K : Value → Heap → Prop) (x0 : Int) (h : Heap) : (E Try.prog X T S0 body (fin Try.prog Try.f50.results.toList K) (args0 0 [(.int .u64 x0)]) h) = w x0 h K :=
  (E0 S0 x0 h K).trans (congrFun (congrFun (congrFun (congrArg J0 (funext fun x0 => funext fun x6 => funext fun h => ek2 K x0 x6 h)) x0) h) K)
theorem hb : Try.f50.body = some body := by kernel_rfl
theorem ok : okCode T Try.f50.ntmps body = true := by kernel_rfl
theorem spec (x0 : Int) (h : Heap) (K : Value → Heap → Prop) (H : w x0 h K) : CallsH Try.prog 50 [(.int .u64 x0)] h K :=
  calls_of_E (T := T) Xok mix Try.func50 hb ok rfl (by rw [e0]; exact H)
end F50
-- spinney/bits.Home
namespace F40
def T : Hint := ⟨[], []⟩
noncomputable def body : Code := (Try.f40.body).getD .skip
def J0 (x0 : Int) (x1 : Int) (h : Heap) (K : Value → Heap → Prop) : Prop :=
  bcase (decide (x1 < (1 : Int))) (K (.int .i64 (0 : Int)) h) (CallsH Try.prog 50 [(.int .u64 x0)] h (fun v1 h2 => ldI .u64 (some v1) (fun n3 => ((IntKind.wrap .u64 x1) ≠ 0 ∧ K (.int .i64 (IntKind.wrap .i64 (Int.tmod n3 (IntKind.wrap .u64 x1)))) h2))))
theorem E0 (S : Stop) (x0 : Int) (x1 : Int) (h : Heap) (K : Value → Heap → Prop) :
    (E Try.prog X T S body (fin Try.prog Try.f40.results.toList K) (args0 0 [(.int .u64 x0), (.int .i64 x1)]) h) = J0 x0 x1 h K := by kernel_rfl
def w (x0 : Int) (x1 : Int) (h : Heap) (K : Value → Heap → Prop) : Prop :=
  J0 x0 x1 h K
theorem e0 (K : Value → Heap → Prop) (x0 : Int) (x1 : Int) (h : Heap) : (E Try.prog X T S0 body (fin Try.prog Try.f40.results.toList K) (args0 0 [(.int .u64 x0), (.int .i64 x1)]) h) = w x0 x1 h K :=
  (E0 S0 x0 x1 h K).trans (rfl)
theorem hb : Try.f40.body = some body := by kernel_rfl
theorem ok : okCode T Try.f40.ntmps body = true := by kernel_rfl
theorem spec (x0 : Int) (x1 : Int) (h : Heap) (K : Value → Heap → Prop) (H : w x0 x1 h K) : CallsH Try.prog 40 [(.int .u64 x0), (.int .i64 x1)] h K :=
  calls_of_E (T := T) Xok mix Try.func40 hb ok rfl (by rw [e0]; exact H)
end F40
end Go.Proofs.Ytbjdjgdbkfjglaa.Ev
