/- PRINTED BY PROGRAM: what each of these functions does, computed over heaps by the evaluator, and that its calls do so. Conditions: none. -/
import Derived.Test.YtipckkeaoncjiaaSrtD
namespace Go.Proofs.Ytipckkeaoncjiaa.Ev
open Go
-- math/bits.Len
namespace F68
def T : Hint := ⟨[], []⟩
noncomputable def body : Code := (Try.f68.body).getD .skip
def J0 (x0 : Int) (h : Heap) (K : Value → Heap → Prop) : Prop :=
  CallsH Try.prog 86 [(.int .u64 x0)] h (fun v1 h2 => ldI .i64 (some v1) (fun n3 => K (.int .i64 n3) h2))
theorem E0 (S : Stop) (x0 : Int) (h : Heap) (K : Value → Heap → Prop) :
    (E Try.prog X T S body (fin Try.prog Try.f68.results.toList K) (args0 0 [(.int .u64 x0)]) h) = J0 x0 h K := by kernel_rfl
def w (x0 : Int) (h : Heap) (K : Value → Heap → Prop) : Prop :=
  J0 x0 h K
theorem e0 (K : Value → Heap → Prop) (x0 : Int) (h : Heap) : (E Try.prog X T S0 body (fin Try.prog Try.f68.results.toList K) (args0 0 [(.int .u64 x0)]) h) = w x0 h K :=
  (E0 S0 x0 h K).trans (rfl)
theorem hb : Try.f68.body = some body := by kernel_rfl
theorem ok : okCode T Try.f68.ntmps body = true := by kernel_rfl
theorem spec (x0 : Int) (h : Heap) (K : Value → Heap → Prop) (H : w x0 h K) : CallsH Try.prog 68 [(.int .u64 x0)] h K :=
  calls_of_E (T := T) Xok mix Try.func68 hb ok rfl (by rw [e0]; exact H)
end F68
-- math/bits.Len32
namespace F85
def T : Hint := ⟨[(4, [0, 2]), (7, [0, 2])], []⟩
noncomputable def body : Code := (Try.f85.body).getD .skip
def J0 (k4 : Int → Int → Heap → Prop) (x0 : Int) (h : Heap) (_K : Value → Heap → Prop) : Prop :=
  bcase (decide (x0 ≥ (65536 : Int))) ((0 ≤ (16 : Int) ∧ k4 (Int.fdiv x0 (2 ^ (min (Int.toNat (16 : Int)) (IntKind.bits .u32)))) (16 : Int) h)) (k4 x0 (0 : Int) h)
theorem E0 (S : Stop) (x0 : Int) (h : Heap) (K : Value → Heap → Prop) :
    (E Try.prog X T S body (fin Try.prog Try.f85.results.toList K) (args0 0 [(.int .u32 x0)]) h) = J0 (fun x0 x2 h => S (E Try.prog X T S (sub body [1, 1]) (fin Try.prog Try.f85.results.toList K)) [(0, (.int .u32 x0)), (2, (.int .i64 x2))] h) x0 h K := by kernel_rfl
def Jk4 (k7 : Int → Int → Heap → Prop) (x0 : Int) (x2 : Int) (h : Heap) (_K : Value → Heap → Prop) : Prop :=
  bcase (decide (x0 ≥ (256 : Int))) ((0 ≤ (8 : Int) ∧ k7 (Int.fdiv x0 (2 ^ (min (Int.toNat (8 : Int)) (IntKind.bits .u32)))) (IntKind.wrap .i64 (x2 + (8 : Int))) h)) (k7 x0 x2 h)
theorem Ek4 (S : Stop) (x0 : Int) (x2 : Int) (h : Heap) (K : Value → Heap → Prop) :
    (E Try.prog X T S (sub body [1, 1]) (fin Try.prog Try.f85.results.toList K) [(0, (.int .u32 x0)), (2, (.int .i64 x2))] h) = Jk4 (fun x0 x2 h => S (E Try.prog X T S (sub body [1, 1, 1]) (fin Try.prog Try.f85.results.toList K)) [(0, (.int .u32 x0)), (2, (.int .i64 x2))] h) x0 x2 h K := by kernel_rfl
def Jk7 (x0 : Int) (x2 : Int) (h : Heap) (K : Value → Heap → Prop) : Prop :=
  (0 ≤ (IntKind.wrap .u8 x0) ∧ strK (ByteArray.mk #[0, 1, 2, 2, 3, 3, 3, 3, 4, 4, 4, 4, 4, 4, 4, 4, 5, 5, 5, 5, 5, 5, 5, 5, 5, 5, 5, 5, 5, 5, 5, 5, 6, 6, 6, 6, 6, 6, 6, 6, 6, 6, 6, 6, 6, 6, 6, 6, 6, 6, 6, 6, 6, 6, 6, 6, 6, 6, 6, 6, 6, 6, 6, 6, 7, 7, 7, 7, 7, 7, 7, 7, 7, 7, 7, 7, 7, 7, 7, 7, 7, 7, 7, 7, 7, 7, 7, 7, 7, 7, 7, 7, 7, 7, 7, 7, 7, 7, 7, 7, 7, 7, 7, 7, 7, 7, 7, 7, 7, 7, 7, 7, 7, 7, 7, 7, 7, 7, 7, 7, 7, 7, 7, 7, 7, 7, 7, 7, 8, 8, 8, 8, 8, 8, 8, 8, 8, 8, 8, 8, 8, 8, 8, 8, 8, 8, 8, 8, 8, 8, 8, 8, 8, 8, 8, 8, 8, 8, 8, 8, 8, 8, 8, 8, 8, 8, 8, 8, 8, 8, 8, 8, 8, 8, 8, 8, 8, 8, 8, 8, 8, 8, 8, 8, 8, 8, 8, 8, 8, 8, 8, 8, 8, 8, 8, 8, 8, 8, 8, 8, 8, 8, 8, 8, 8, 8, 8, 8, 8, 8, 8, 8, 8, 8, 8, 8, 8, 8, 8, 8, 8, 8, 8, 8, 8, 8, 8, 8, 8, 8, 8, 8, 8, 8, 8, 8, 8, 8, 8, 8, 8, 8, 8, 8, 8, 8, 8, 8, 8, 8, 8, 8, 8, 8, 8, 8]) (IntKind.wrap .u8 x0) fun n1 => K (.int .i64 (IntKind.wrap .i64 (x2 + (IntKind.wrap .i64 n1)))) h)
theorem Ek7 (S : Stop) (x0 : Int) (x2 : Int) (h : Heap) (K : Value → Heap → Prop) :
    (E Try.prog X T S (sub body [1, 1, 1]) (fin Try.prog Try.f85.results.toList K) [(0, (.int .u32 x0)), (2, (.int .i64 x2))] h) = Jk7 x0 x2 h K := by kernel_rfl
def wk7 (x0 : Int) (x2 : Int) (h : Heap) (K : Value → Heap → Prop) : Prop :=
  Jk7 x0 x2 h K
theorem ek7 (K : Value → Heap → Prop) (x0 : Int) (x2 : Int) (h : Heap) : (E Try.prog X T S0 (sub body [1, 1, 1]) (fin Try.prog Try.f85.results.toList K) [(0, (.int .u32 x0)), (2, (.int .i64 x2))] h) = wk7 x0 x2 h K :=
  (Ek7 S0 x0 x2 h K).trans (rfl)
def wk4 (x0 : Int) (x2 : Int) (h : Heap) (K : Value → Heap → Prop) : Prop :=
  Jk4 (fun x0 x2 h => wk7 x0 x2 h K) x0 x2 h K
theorem ek4 (K : Value → Heap → Prop) (x0 : Int) (x2 : Int) (h : Heap) : (E Try.prog X T S0 (sub body [1, 1]) (fin Try.prog Try.f85.results.toList K) [(0, (.int .u32 x0)), (2, (.int .i64 x2))] h) = wk4 x0 x2 h K :=
  (Ek4 S0 x0 x2 h K).trans (congrFun (congrFun (congrFun (congrFun (congrArg Jk4 (funext fun x0 => funext fun x2 => funext fun h => ek7 K x0 x2 h)) x0) x2) h) K)
def w (x0 : Int) (h : Heap) (K : Value → Heap → Prop) : Prop :=
  J0 (fun x0 x2 h => wk4 x0 x2 h K) x0 h K
theorem e0 (K : Value → Heap → Prop) (x0 : Int) (h : Heap) : (E Try.prog X T S0 body (fin Try.prog Try.f85.results.toList K) (args0 0 [(.int .u32 x0)]) h) = w x0 h K :=
  (E0 S0 x0 h K).trans (congrFun (congrFun (congrFun (congrArg J0 (funext fun x0 => funext fun x2 => funext fun h => ek4 K x0 x2 h)) x0) h) K)
theorem hb : Try.f85.body = some body := by kernel_rfl
theorem ok : okCode T Try.f85.ntmps body = true := by kernel_rfl
theorem spec (x0 : Int) (h : Heap) (K : Value → Heap → Prop) (H : w x0 h K) : CallsH Try.prog 85 [(.int .u32 x0)] h K :=
  calls_of_E (T := T) Xok mix Try.func85 hb ok rfl (by rw [e0]; exact H)
end F85
-- math/bits.Len64
namespace F86
def T : Hint := ⟨[(4, [0, 2]), (7, [0, 2]), (10, [0, 2])], []⟩
noncomputable def body : Code := (Try.f86.body).getD .skip
def J0 (k4 : Int → Int → Heap → Prop) (x0 : Int) (h : Heap) (_K : Value → Heap → Prop) : Prop :=
  bcase (decide (x0 ≥ (4294967296 : Int))) ((0 ≤ (32 : Int) ∧ k4 (Int.fdiv x0 (2 ^ (min (Int.toNat (32 : Int)) (IntKind.bits .u64)))) (32 : Int) h)) (k4 x0 (0 : Int) h)
theorem E0 (S : Stop) (x0 : Int) (h : Heap) (K : Value → Heap → Prop) :
    (E Try.prog X T S body (fin Try.prog Try.f86.results.toList K) (args0 0 [(.int .u64 x0)]) h) = J0 (fun x0 x2 h => S (E Try.prog X T S (sub body [1, 1]) (fin Try.prog Try.f86.results.toList K)) [(0, (.int .u64 x0)), (2, (.int .i64 x2))] h) x0 h K := by kernel_rfl
def Jk4 (k7 : Int → Int → Heap → Prop) (x0 : Int) (x2 : Int) (h : Heap) (_K : Value → Heap → Prop) : Prop :=
  bcase (decide (x0 ≥ (65536 : Int))) ((0 ≤ (16 : Int) ∧ k7 (Int.fdiv x0 (2 ^ (min (Int.toNat (16 : Int)) (IntKind.bits .u64)))) (IntKind.wrap .i64 (x2 + (16 : Int))) h)) (k7 x0 x2 h)
theorem Ek4 (S : Stop) (x0 : Int) (x2 : Int) (h : Heap) (K : Value → Heap → Prop) :
    (E Try.prog X T S (sub body [1, 1]) (fin Try.prog Try.f86.results.toList K) [(0, (.int .u64 x0)), (2, (.int .i64 x2))] h) = Jk4 (fun x0 x2 h => S (E Try.prog X T S (sub body [1, 1, 1]) (fin Try.prog Try.f86.results.toList K)) [(0, (.int .u64 x0)), (2, (.int .i64 x2))] h) x0 x2 h K := by kernel_rfl
def Jk7 (k10 : Int → Int → Heap → Prop) (x0 : Int) (x2 : Int) (h : Heap) (_K : Value → Heap → Prop) : Prop :=
  bcase (decide (x0 ≥ (256 : Int))) ((0 ≤ (8 : Int) ∧ k10 (Int.fdiv x0 (2 ^ (min (Int.toNat (8 : Int)) (IntKind.bits .u64)))) (IntKind.wrap .i64 (x2 + (8 : Int))) h)) (k10 x0 x2 h)
theorem Ek7 (S : Stop) (x0 : Int) (x2 : Int) (h : Heap) (K : Value → Heap → Prop) :
    (E Try.prog X T S (sub body [1, 1, 1]) (fin Try.prog Try.f86.results.toList K) [(0, (.int .u64 x0)), (2, (.int .i64 x2))] h) = Jk7 (fun x0 x2 h => S (E Try.prog X T S (sub body [1, 1, 1, 1]) (fin Try.prog Try.f86.results.toList K)) [(0, (.int .u64 x0)), (2, (.int .i64 x2))] h) x0 x2 h K := by kernel_rfl
def Jk10 (x0 : Int) (x2 : Int) (h : Heap) (K : Value → Heap → Prop) : Prop :=
  (0 ≤ (IntKind.wrap .u8 x0) ∧ strK (ByteArray.mk #[0, 1, 2, 2, 3, 3, 3, 3, 4, 4, 4, 4, 4, 4, 4, 4, 5, 5, 5, 5, 5, 5, 5, 5, 5, 5, 5, 5, 5, 5, 5, 5, 6, 6, 6, 6, 6, 6, 6, 6, 6, 6, 6, 6, 6, 6, 6, 6, 6, 6, 6, 6, 6, 6, 6, 6, 6, 6, 6, 6, 6, 6, 6, 6, 7, 7, 7, 7, 7, 7, 7, 7, 7, 7, 7, 7, 7, 7, 7, 7, 7, 7, 7, 7, 7, 7, 7, 7, 7, 7, 7, 7, 7, 7, 7, 7, 7, 7, 7, 7, 7, 7, 7, 7, 7, 7, 7, 7, 7, 7, 7, 7, 7, 7, 7, 7, 7, 7, 7, 7, 7, 7, 7, 7, 7, 7, 7, 7, 8, 8, 8, 8, 8, 8, 8, 8, 8, 8, 8, 8, 8, 8, 8, 8, 8, 8, 8, 8, 8, 8, 8, 8, 8, 8, 8, 8, 8, 8, 8, 8, 8, 8, 8, 8, 8, 8, 8, 8, 8, 8, 8, 8, 8, 8, 8, 8, 8, 8, 8, 8, 8, 8, 8, 8, 8, 8, 8, 8, 8, 8, 8, 8, 8, 8, 8, 8, 8, 8, 8, 8, 8, 8, 8, 8, 8, 8, 8, 8, 8, 8, 8, 8, 8, 8, 8, 8, 8, 8, 8, 8, 8, 8, 8, 8, 8, 8, 8, 8, 8, 8, 8, 8, 8, 8, 8, 8, 8, 8, 8, 8, 8, 8, 8, 8, 8, 8, 8, 8, 8, 8, 8, 8, 8, 8, 8, 8]) (IntKind.wrap .u8 x0) fun n1 => K (.int .i64 (IntKind.wrap .i64 (x2 + (IntKind.wrap .i64 n1)))) h)
theorem Ek10 (S : Stop) (x0 : Int) (x2 : Int) (h : Heap) (K : Value → Heap → Prop) :
    (E Try.prog X T S (sub body [1, 1, 1, 1]) (fin Try.prog Try.f86.results.toList K) [(0, (.int .u64 x0)), (2, (.int .i64 x2))] h) = Jk10 x0 x2 h K := by kernel_rfl
def wk10 (x0 : Int) (x2 : Int) (h : Heap) (K : Value → Heap → Prop) : Prop :=
  Jk10 x0 x2 h K
theorem ek10 (K : Value → Heap → Prop) (x0 : Int) (x2 : Int) (h : Heap) : (E Try.prog X T S0 (sub body [1, 1, 1, 1]) (fin Try.prog Try.f86.results.toList K) [(0, (.int .u64 x0)), (2, (.int .i64 x2))] h) = wk10 x0 x2 h K :=
  (Ek10 S0 x0 x2 h K).trans (rfl)
def wk7 (x0 : Int) (x2 : Int) (h : Heap) (K : Value → Heap → Prop) : Prop :=
  Jk7 (fun x0 x2 h => wk10 x0 x2 h K) x0 x2 h K
theorem ek7 (K : Value → Heap → Prop) (x0 : Int) (x2 : Int) (h : Heap) : (E Try.prog X T S0 (sub body [1, 1, 1]) (fin Try.prog Try.f86.results.toList K) [(0, (.int .u64 x0)), (2, (.int .i64 x2))] h) = wk7 x0 x2 h K :=
  (Ek7 S0 x0 x2 h K).trans (congrFun (congrFun (congrFun (congrFun (congrArg Jk7 (funext fun x0 => funext fun x2 => funext fun h => ek10 K x0 x2 h)) x0) x2) h) K)
def wk4 (x0 : Int) (x2 : Int) (h : Heap) (K : Value → Heap → Prop) : Prop :=
  Jk4 (fun x0 x2 h => wk7 x0 x2 h K) x0 x2 h K
theorem ek4 (K : Value → Heap → Prop) (x0 : Int) (x2 : Int) (h : Heap) : (E Try.prog X T S0 (sub body [1, 1]) (fin Try.prog Try.f86.results.toList K) [(0, (.int .u64 x0)), (2, (.int .i64 x2))] h) = wk4 x0 x2 h K :=
  (Ek4 S0 x0 x2 h K).trans (congrFun (congrFun (congrFun (congrFun (congrArg Jk4 (funext fun x0 => funext fun x2 => funext fun h => ek7 K x0 x2 h)) x0) x2) h) K)
def w (x0 : Int) (h : Heap) (K : Value → Heap → Prop) : Prop :=
  J0 (fun x0 x2 h => wk4 x0 x2 h K) x0 h K
theorem e0 (K : Value → Heap → Prop) (x0 : Int) (h : Heap) : (E Try.prog X T S0 body (fin Try.prog Try.f86.results.toList K) (args0 0 [(.int .u64 x0)]) h) = w x0 h K :=
  (E0 S0 x0 h K).trans (congrFun (congrFun (congrFun (congrArg J0 (funext fun x0 => funext fun x2 => funext fun h => ek4 K x0 x2 h)) x0) h) K)
theorem hb : Try.f86.body = some body := by kernel_rfl
theorem ok : okCode T Try.f86.ntmps body = true := by kernel_rfl
theorem spec (x0 : Int) (h : Heap) (K : Value → Heap → Prop) (H : w x0 h K) : CallsH Try.prog 86 [(.int .u64 x0)] h K :=
  calls_of_E (T := T) Xok mix Try.func86 hb ok rfl (by rw [e0]; exact H)
end F86
end Go.Proofs.Ytipckkeaoncjiaa.Ev
