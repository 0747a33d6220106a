/- PRINTED BY PROGRAM: what each of these functions does, computed over heaps by the evaluator, and that its calls do so. Conditions: none. -/
import Derived.Test.YtipckkeaoncjiaaTX3
namespace Go.Proofs.Ytipckkeaoncjiaa.Ev
open Go
-- (*spinney/mem.Mem).at
namespace F44
def T : Hint := ⟨[], []⟩
noncomputable def body : Code := (Try.f44.body).getD .skip
def J0 (x0 : Addr) (x1 : Int) (h : Heap) (K : Value → Heap → Prop) : Prop :=
  bcase (decide (x1 < (0 : Int))) (K (.pointer none) h) (ldS (rd h (Addr.add x0 0)) (fun _ l2 _ => bcase (decide (x1 ≥ (Nat.cast l2 : Int))) (K (.pointer none) h) (CallsH Try.prog 61 [(.pointer (some (Addr.add x0 1))), (.int .i64 (1 : Int))] h (fun v4 h5 => ldI .i64 (some v4) (fun _ => ldS (rd h5 (Addr.add x0 0)) (fun p7 l8 _ => ptrK p7 (fun a10 => (0 ≤ x1 ∧ x1 < (Nat.cast l8 : Int) ∧ K (.pointer (some (Addr.add a10 (Int.toNat x1 * 1)))) h5))))))))
theorem E0 (S : Stop) (x0 : Addr) (x1 : Int) (h : Heap) (K : Value → Heap → Prop) :
    (E Try.prog X T S body (fin Try.prog Try.f44.results.toList K) (args0 0 [(.pointer (some x0)), (.int .i64 x1)]) h) = J0 x0 x1 h K := by kernel_rfl
def w (x0 : Addr) (x1 : Int) (h : Heap) (K : Value → Heap → Prop) : Prop :=
  J0 x0 x1 h K
theorem e0 (K : Value → Heap → Prop) (x0 : Addr) (x1 : Int) (h : Heap) : (E Try.prog X T S0 body (fin Try.prog Try.f44.results.toList K) (args0 0 [(.pointer (some x0)), (.int .i64 x1)]) h) = w x0 x1 h K :=
  (E0 S0 x0 x1 h K).trans (rfl)
theorem hb : Try.f44.body = some body := by kernel_rfl
theorem ok : okCode T Try.f44.ntmps body = true := by kernel_rfl
theorem spec (x0 : Addr) (x1 : Int) (h : Heap) (K : Value → Heap → Prop) (H : w x0 x1 h K) : CallsH Try.prog 44 [(.pointer (some x0)), (.int .i64 x1)] h K :=
  calls_of_E (T := T) Xok mix Try.func44 hb ok rfl (by rw [e0]; exact H)
end F44
-- (*sync/atomic.Uint64).Load
namespace F46
def T : Hint := ⟨[], []⟩
noncomputable def body : Code := (Try.f46.body).getD .skip
def J0 (x0 : Addr) (h : Heap) (K : Value → Heap → Prop) : Prop :=
  ldI .u64 (rd h (Addr.add x0 0)) (fun n3 => K (.int .u64 n3) h)
theorem E0 (S : Stop) (x0 : Addr) (h : Heap) (K : Value → Heap → Prop) :
    (E Try.prog X T S body (fin Try.prog Try.f46.results.toList K) (args0 0 [(.pointer (some x0))]) h) = J0 x0 h K := by kernel_rfl
def w (x0 : Addr) (h : Heap) (K : Value → Heap → Prop) : Prop :=
  J0 x0 h K
theorem e0 (K : Value → Heap → Prop) (x0 : Addr) (h : Heap) : (E Try.prog X T S0 body (fin Try.prog Try.f46.results.toList K) (args0 0 [(.pointer (some x0))]) h) = w x0 h K :=
  (E0 S0 x0 h K).trans (rfl)
theorem hb : Try.f46.body = some body := by kernel_rfl
theorem ok : okCode T Try.f46.ntmps body = true := by kernel_rfl
theorem spec (x0 : Addr) (h : Heap) (K : Value → Heap → Prop) (H : w x0 h K) : CallsH Try.prog 46 [(.pointer (some x0))] h K :=
  calls_of_E (T := T) Xok mix Try.func46 hb ok rfl (by rw [e0]; exact H)
end F46
-- (*sync/atomic.Uint64).CompareAndSwap
namespace F104
def T : Hint := ⟨[], []⟩
noncomputable def body : Code := (Try.f104.body).getD .skip
def J0 (x0 : Addr) (x1 : Int) (x2 : Int) (h : Heap) (K : Value → Heap → Prop) : Prop :=
  ldI .u64 (rd h (Addr.add x0 0)) (fun n3 => bcase (n3 == x1) (stK h (Addr.add x0 0) (.int .u64 x2) (fun h2 => K (.bool true) h2)) (fz h (Addr.add x0 0) = false ∧ K (.bool false) h))
theorem E0 (S : Stop) (x0 : Addr) (x1 : Int) (x2 : Int) (h : Heap) (K : Value → Heap → Prop) :
    (E Try.prog X T S body (fin Try.prog Try.f104.results.toList K) (args0 0 [(.pointer (some x0)), (.int .u64 x1), (.int .u64 x2)]) h) = J0 x0 x1 x2 h K := by kernel_rfl
def w (x0 : Addr) (x1 : Int) (x2 : Int) (h : Heap) (K : Value → Heap → Prop) : Prop :=
  J0 x0 x1 x2 h K
theorem e0 (K : Value → Heap → Prop) (x0 : Addr) (x1 : Int) (x2 : Int) (h : Heap) : (E Try.prog X T S0 body (fin Try.prog Try.f104.results.toList K) (args0 0 [(.pointer (some x0)), (.int .u64 x1), (.int .u64 x2)]) h) = w x0 x1 x2 h K :=
  (E0 S0 x0 x1 x2 h K).trans (rfl)
theorem hb : Try.f104.body = some body := by kernel_rfl
theorem ok : okCode T Try.f104.ntmps body = true := by kernel_rfl
theorem spec (x0 : Addr) (x1 : Int) (x2 : Int) (h : Heap) (K : Value → Heap → Prop) (H : w x0 x1 x2 h K) : CallsH Try.prog 104 [(.pointer (some x0)), (.int .u64 x1), (.int .u64 x2)] h K :=
  calls_of_E (T := T) Xok mix Try.func104 hb ok rfl (by rw [e0]; exact H)
end F104
-- (*sync/atomic.Int64).Add
namespace F61
def T : Hint := ⟨[], []⟩
noncomputable def body : Code := (Try.f61.body).getD .skip
def J0 (x0 : Addr) (x1 : Int) (h : Heap) (K : Value → Heap → Prop) : Prop :=
  ldI .i64 (rd h (Addr.add x0 0)) (fun n3 => stK h (Addr.add x0 0) (.int .i64 (IntKind.wrap .i64 (n3 + x1))) (fun h2 => K (.int .i64 (IntKind.wrap .i64 (n3 + x1))) h2))
theorem E0 (S : Stop) (x0 : Addr) (x1 : Int) (h : Heap) (K : Value → Heap → Prop) :
    (E Try.prog X T S body (fin Try.prog Try.f61.results.toList K) (args0 0 [(.pointer (some x0)), (.int .i64 x1)]) h) = J0 x0 x1 h K := by kernel_rfl
def w (x0 : Addr) (x1 : Int) (h : Heap) (K : Value → Heap → Prop) : Prop :=
  J0 x0 x1 h K
theorem e0 (K : Value → Heap → Prop) (x0 : Addr) (x1 : Int) (h : Heap) : (E Try.prog X T S0 body (fin Try.prog Try.f61.results.toList K) (args0 0 [(.pointer (some x0)), (.int .i64 x1)]) h) = w x0 x1 h K :=
  (E0 S0 x0 x1 h K).trans (rfl)
theorem hb : Try.f61.body = some body := by kernel_rfl
theorem ok : okCode T Try.f61.ntmps body = true := by kernel_rfl
theorem spec (x0 : Addr) (x1 : Int) (h : Heap) (K : Value → Heap → Prop) (H : w x0 x1 h K) : CallsH Try.prog 61 [(.pointer (some x0)), (.int .i64 x1)] h K :=
  calls_of_E (T := T) Xok mix Try.func61 hb ok rfl (by rw [e0]; exact H)
end F61
-- (*sync/atomic.Uint64).Store
namespace F45
def T : Hint := ⟨[], []⟩
noncomputable def body : Code := (Try.f45.body).getD .skip
def J0 (x0 : Addr) (x1 : Int) (h : Heap) (K : Value → Heap → Prop) : Prop :=
  stK h (Addr.add x0 0) (.int .u64 x1) (fun h2 => K (.tuple #[]) h2)
theorem E0 (S : Stop) (x0 : Addr) (x1 : Int) (h : Heap) (K : Value → Heap → Prop) :
    (E Try.prog X T S body (fin Try.prog Try.f45.results.toList K) (args0 0 [(.pointer (some x0)), (.int .u64 x1)]) h) = J0 x0 x1 h K := by kernel_rfl
def w (x0 : Addr) (x1 : Int) (h : Heap) (K : Value → Heap → Prop) : Prop :=
  J0 x0 x1 h K
theorem e0 (K : Value → Heap → Prop) (x0 : Addr) (x1 : Int) (h : Heap) : (E Try.prog X T S0 body (fin Try.prog Try.f45.results.toList K) (args0 0 [(.pointer (some x0)), (.int .u64 x1)]) h) = w x0 x1 h K :=
  (E0 S0 x0 x1 h K).trans (rfl)
theorem hb : Try.f45.body = some body := by kernel_rfl
theorem ok : okCode T Try.f45.ntmps body = true := by kernel_rfl
theorem spec (x0 : Addr) (x1 : Int) (h : Heap) (K : Value → Heap → Prop) (H : w x0 x1 h K) : CallsH Try.prog 45 [(.pointer (some x0)), (.int .u64 x1)] h K :=
  calls_of_E (T := T) Xok mix Try.func45 hb ok rfl (by rw [e0]; exact H)
end F45
-- (*sync/atomic.Int64).Load
namespace F92
def T : Hint := ⟨[], []⟩
noncomputable def body : Code := (Try.f92.body).getD .skip
def J0 (x0 : Addr) (h : Heap) (K : Value → Heap → Prop) : Prop :=
  ldI .i64 (rd h (Addr.add x0 0)) (fun n3 => K (.int .i64 n3) h)
theorem E0 (S : Stop) (x0 : Addr) (h : Heap) (K : Value → Heap → Prop) :
    (E Try.prog X T S body (fin Try.prog Try.f92.results.toList K) (args0 0 [(.pointer (some x0))]) h) = J0 x0 h K := by kernel_rfl
def w (x0 : Addr) (h : Heap) (K : Value → Heap → Prop) : Prop :=
  J0 x0 h K
theorem e0 (K : Value → Heap → Prop) (x0 : Addr) (h : Heap) : (E Try.prog X T S0 body (fin Try.prog Try.f92.results.toList K) (args0 0 [(.pointer (some x0))]) h) = w x0 h K :=
  (E0 S0 x0 h K).trans (rfl)
theorem hb : Try.f92.body = some body := by kernel_rfl
theorem ok : okCode T Try.f92.ntmps body = true := by kernel_rfl
theorem spec (x0 : Addr) (h : Heap) (K : Value → Heap → Prop) (H : w x0 h K) : CallsH Try.prog 92 [(.pointer (some x0))] h K :=
  calls_of_E (T := T) Xok mix Try.func92 hb ok rfl (by rw [e0]; exact H)
end F92
-- (*spinney/mem.Mem).Load
namespace F21
def T : Hint := ⟨[], []⟩
noncomputable def body : Code := (Try.f21.body).getD .skip
def J0 (x0 : Addr) (x1 : Int) (h : Heap) (K : Value → Heap → Prop) : Prop :=
  CallsH Try.prog 44 [(.pointer (some x0)), (.int .i64 x1)] h (fun v1 h2 => ldP (some v1) (fun p3 => bcase (!(Option.isNone p3)) (CallsH Try.prog 46 [(.pointer p3)] h2 (fun v4 h5 => ldI .u64 (some v4) (fun n6 => K (.int .u64 n6) h5))) (K (.int .u64 (0 : Int)) h2)))
theorem E0 (S : Stop) (x0 : Addr) (x1 : Int) (h : Heap) (K : Value → Heap → Prop) :
    (E Try.prog X T S body (fin Try.prog Try.f21.results.toList K) (args0 0 [(.pointer (some x0)), (.int .i64 x1)]) h) = J0 x0 x1 h K := by kernel_rfl
def w (x0 : Addr) (x1 : Int) (h : Heap) (K : Value → Heap → Prop) : Prop :=
  J0 x0 x1 h K
theorem e0 (K : Value → Heap → Prop) (x0 : Addr) (x1 : Int) (h : Heap) : (E Try.prog X T S0 body (fin Try.prog Try.f21.results.toList K) (args0 0 [(.pointer (some x0)), (.int .i64 x1)]) h) = w x0 x1 h K :=
  (E0 S0 x0 x1 h K).trans (rfl)
theorem hb : Try.f21.body = some body := by kernel_rfl
theorem ok : okCode T Try.f21.ntmps body = true := by kernel_rfl
theorem spec (x0 : Addr) (x1 : Int) (h : Heap) (K : Value → Heap → Prop) (H : w x0 x1 h K) : CallsH Try.prog 21 [(.pointer (some x0)), (.int .i64 x1)] h K :=
  calls_of_E (T := T) Xok mix Try.func21 hb ok rfl (by rw [e0]; exact H)
end F21
-- (*spinney/mem.Mem).CAS
namespace F101
def T : Hint := ⟨[], []⟩
noncomputable def body : Code := (Try.f101.body).getD .skip
def J0 (x0 : Addr) (x1 : Int) (x2 : Int) (x3 : Int) (h : Heap) (K : Value → Heap → Prop) : Prop :=
  CallsH Try.prog 44 [(.pointer (some x0)), (.int .i64 x1)] h (fun v1 h2 => ldP (some v1) (fun p3 => bcase (Option.isNone p3) (K (.bool false) h2) (CallsH Try.prog 104 [(.pointer p3), (.int .u64 x2), (.int .u64 x3)] h2 (fun v4 h5 => ldB (some v4) (fun b6 => bcase (!b6) (CallsH Try.prog 61 [(.pointer (some (Addr.add x0 2))), (.int .i64 (1 : Int))] h5 (fun v7 h8 => ldI .i64 (some v7) (fun _ => K (.bool b6) h8))) (K (.bool b6) h5))))))
theorem E0 (S : Stop) (x0 : Addr) (x1 : Int) (x2 : Int) (x3 : Int) (h : Heap) (K : Value → Heap → Prop) :
    (E Try.prog X T S body (fin Try.prog Try.f101.results.toList K) (args0 0 [(.pointer (some x0)), (.int .i64 x1), (.int .u64 x2), (.int .u64 x3)]) h) = J0 x0 x1 x2 x3 h K := by kernel_rfl
def w (x0 : Addr) (x1 : Int) (x2 : Int) (x3 : Int) (h : Heap) (K : Value → Heap → Prop) : Prop :=
  J0 x0 x1 x2 x3 h K
theorem e0 (K : Value → Heap → Prop) (x0 : Addr) (x1 : Int) (x2 : Int) (x3 : Int) (h : Heap) : (E Try.prog X T S0 body (fin Try.prog Try.f101.results.toList K) (args0 0 [(.pointer (some x0)), (.int .i64 x1), (.int .u64 x2), (.int .u64 x3)]) h) = w x0 x1 x2 x3 h K :=
  (E0 S0 x0 x1 x2 x3 h K).trans (rfl)
theorem hb : Try.f101.body = some body := by kernel_rfl
theorem ok : okCode T Try.f101.ntmps body = true := by kernel_rfl
theorem spec (x0 : Addr) (x1 : Int) (x2 : Int) (x3 : Int) (h : Heap) (K : Value → Heap → Prop) (H : w x0 x1 x2 x3 h K) : CallsH Try.prog 101 [(.pointer (some x0)), (.int .i64 x1), (.int .u64 x2), (.int .u64 x3)] h K :=
  calls_of_E (T := T) Xok mix Try.func101 hb ok rfl (by rw [e0]; exact H)
end F101
-- (*spinney/mem.Mem).Ops
namespace F64
def T : Hint := ⟨[], []⟩
noncomputable def body : Code := (Try.f64.body).getD .skip
def J0 (x0 : Addr) (h : Heap) (K : Value → Heap → Prop) : Prop :=
  CallsH Try.prog 75 [(.pointer (some (Addr.add x0 1)))] h (fun v1 h2 => ldI .i64 (some v1) (fun n3 => K (.int .i64 n3) h2))
theorem E0 (S : Stop) (x0 : Addr) (h : Heap) (K : Value → Heap → Prop) :
    (E Try.prog X T S body (fin Try.prog Try.f64.results.toList K) (args0 0 [(.pointer (some x0))]) h) = J0 x0 h K := by kernel_rfl
def w (x0 : Addr) (h : Heap) (K : Value → Heap → Prop) : Prop :=
  J0 x0 h K
theorem e0 (K : Value → Heap → Prop) (x0 : Addr) (h : Heap) : (E Try.prog X T S0 body (fin Try.prog Try.f64.results.toList K) (args0 0 [(.pointer (some x0))]) h) = w x0 h K :=
  (E0 S0 x0 h K).trans (rfl)
theorem hb : Try.f64.body = some body := by kernel_rfl
theorem ok : okCode T Try.f64.ntmps body = true := by kernel_rfl
theorem spec (x0 : Addr) (h : Heap) (K : Value → Heap → Prop) (H : w x0 h K) : CallsH Try.prog 64 [(.pointer (some x0))] h K :=
  calls_of_E (T := T) Xok mix Try.func64 hb ok rfl (by rw [e0]; exact H)
end F64
-- (*spinney/mem.Mem).Store
namespace F20
def T : Hint := ⟨[], []⟩
noncomputable def body : Code := (Try.f20.body).getD .skip
def J0 (x0 : Addr) (x1 : Int) (x2 : Int) (h : Heap) (K : Value → Heap → Prop) : Prop :=
  CallsH Try.prog 44 [(.pointer (some x0)), (.int .i64 x1)] h (fun v1 h2 => ldP (some v1) (fun p3 => bcase (!(Option.isNone p3)) (CallsH Try.prog 45 [(.pointer p3), (.int .u64 x2)] h2 (fun v4 h5 => (v4 = (.tuple #[]) ∧ K (.tuple #[]) h5))) (K (.tuple #[]) h2)))
theorem E0 (S : Stop) (x0 : Addr) (x1 : Int) (x2 : Int) (h : Heap) (K : Value → Heap → Prop) :
    (E Try.prog X T S body (fin Try.prog Try.f20.results.toList K) (args0 0 [(.pointer (some x0)), (.int .i64 x1), (.int .u64 x2)]) h) = J0 x0 x1 x2 h K := by kernel_rfl
def w (x0 : Addr) (x1 : Int) (x2 : Int) (h : Heap) (K : Value → Heap → Prop) : Prop :=
  J0 x0 x1 x2 h K
theorem e0 (K : Value → Heap → Prop) (x0 : Addr) (x1 : Int) (x2 : Int) (h : Heap) : (E Try.prog X T S0 body (fin Try.prog Try.f20.results.toList K) (args0 0 [(.pointer (some x0)), (.int .i64 x1), (.int .u64 x2)]) h) = w x0 x1 x2 h K :=
  (E0 S0 x0 x1 x2 h K).trans (rfl)
theorem hb : Try.f20.body = some body := by kernel_rfl
theorem ok : okCode T Try.f20.ntmps body = true := by kernel_rfl
theorem spec (x0 : Addr) (x1 : Int) (x2 : Int) (h : Heap) (K : Value → Heap → Prop) (H : w x0 x1 x2 h K) : CallsH Try.prog 20 [(.pointer (some x0)), (.int .i64 x1), (.int .u64 x2)] h K :=
  calls_of_E (T := T) Xok mix Try.func20 hb ok rfl (by rw [e0]; exact H)
end F20
-- (*spinney/mem.Mem).Len
namespace F38
def T : Hint := ⟨[], []⟩
noncomputable def body : Code := (Try.f38.body).getD .skip
def J0 (x0 : Addr) (h : Heap) (K : Value → Heap → Prop) : Prop :=
  ldS (rd h (Addr.add x0 0)) (fun _ l2 _ => K (.int .i64 (Nat.cast l2 : Int)) h)
theorem E0 (S : Stop) (x0 : Addr) (h : Heap) (K : Value → Heap → Prop) :
    (E Try.prog X T S body (fin Try.prog Try.f38.results.toList K) (args0 0 [(.pointer (some x0))]) h) = J0 x0 h K := by kernel_rfl
def w (x0 : Addr) (h : Heap) (K : Value → Heap → Prop) : Prop :=
  J0 x0 h K
theorem e0 (K : Value → Heap → Prop) (x0 : Addr) (h : Heap) : (E Try.prog X T S0 body (fin Try.prog Try.f38.results.toList K) (args0 0 [(.pointer (some x0))]) h) = w x0 h K :=
  (E0 S0 x0 h K).trans (rfl)
theorem hb : Try.f38.body = some body := by kernel_rfl
theorem ok : okCode T Try.f38.ntmps body = true := by kernel_rfl
theorem spec (x0 : Addr) (h : Heap) (K : Value → Heap → Prop) (H : w x0 h K) : CallsH Try.prog 38 [(.pointer (some x0))] h K :=
  calls_of_E (T := T) Xok mix Try.func38 hb ok rfl (by rw [e0]; exact H)
end F38
-- spinney/mem.New
namespace F12
def T : Hint := ⟨[], []⟩
noncomputable def body : Code := (Try.f12.body).getD .skip
def J0 (x0 : Int) (h : Heap) (K : Value → Heap → Prop) : Prop :=
  (0 ≤ (if (262144 : Int) < (if (0 : Int) > x0 then (0 : Int) else x0) then (262144 : Int) else (if (0 : Int) > x0 then (0 : Int) else x0)) ∧ (if (262144 : Int) < (if (0 : Int) > x0 then (0 : Int) else x0) then (262144 : Int) else (if (0 : Int) > x0 then (0 : Int) else x0)) ≤ (if (262144 : Int) < (if (0 : Int) > x0 then (0 : Int) else x0) then (262144 : Int) else (if (0 : Int) > x0 then (0 : Int) else x0)) ∧ ((Nat.cast 8 : Int) * (if (262144 : Int) < (if (0 : Int) > x0 then (0 : Int) else x0) then (262144 : Int) else (if (0 : Int) > x0 then (0 : Int) else x0)) ≤ 281474976710656) ∧ (if (262144 : Int) < (if (0 : Int) > x0 then (0 : Int) else x0) then (262144 : Int) else (if (0 : Int) > x0 then (0 : Int) else x0)) ≤ 9223372036854775807 ∧ newK h (.cells (madeCells #[(.int .u64 (0 : Int))] (Int.toNat (if (262144 : Int) < (if (0 : Int) > x0 then (0 : Int) else x0) then (262144 : Int) else (if (0 : Int) > x0 then (0 : Int) else x0)) * 1)) 112) (fun b1 h2 => newK h2 (.cells #[(.slice (some (Addr.mk b1 0 none)) (Int.toNat (if (262144 : Int) < (if (0 : Int) > x0 then (0 : Int) else x0) then (262144 : Int) else (if (0 : Int) > x0 then (0 : Int) else x0))) (Int.toNat (if (262144 : Int) < (if (0 : Int) > x0 then (0 : Int) else x0) then (262144 : Int) else (if (0 : Int) > x0 then (0 : Int) else x0)))), (.int .i64 (0 : Int)), (.int .i64 (0 : Int))] 84) (fun b3 h4 => K (.pointer (some (Addr.mk b3 0 none))) h4)))
theorem E0 (S : Stop) (x0 : Int) (h : Heap) (K : Value → Heap → Prop) :
    (E Try.prog X T S body (fin Try.prog Try.f12.results.toList K) (args0 0 [(.int .i64 x0)]) h) = J0 x0 h K := by kernel_rfl
def w (x0 : Int) (h : Heap) (K : Value → Heap → Prop) : Prop :=
  J0 x0 h K
theorem e0 (K : Value → Heap → Prop) (x0 : Int) (h : Heap) : (E Try.prog X T S0 body (fin Try.prog Try.f12.results.toList K) (args0 0 [(.int .i64 x0)]) h) = w x0 h K :=
  (E0 S0 x0 h K).trans (rfl)
theorem hb : Try.f12.body = some body := by kernel_rfl
theorem ok : okCode T Try.f12.ntmps body = true := by kernel_rfl
theorem spec (x0 : Int) (h : Heap) (K : Value → Heap → Prop) (H : w x0 h K) : CallsH Try.prog 12 [(.int .i64 x0)] h K :=
  calls_of_E (T := T) Xok mix Try.func12 hb ok rfl (by rw [e0]; exact H)
end F12
-- spinney/mem.counted
namespace F75
def T : Hint := ⟨[], []⟩
noncomputable def body : Code := (Try.f75.body).getD .skip
def J0 (x0 : Addr) (h : Heap) (K : Value → Heap → Prop) : Prop :=
  CallsH Try.prog 92 [(.pointer (some x0))] h (fun v3 h4 => ldI .i64 (some v3) (fun n5 => K (.int .i64 n5) h4))
theorem E0 (S : Stop) (x0 : Addr) (h : Heap) (K : Value → Heap → Prop) :
    (E Try.prog X T S body (fin Try.prog Try.f75.results.toList K) (args0 0 [(.pointer (some x0))]) h) = J0 x0 h K := by kernel_rfl
def w (x0 : Addr) (h : Heap) (K : Value → Heap → Prop) : Prop :=
  J0 x0 h K
theorem e0 (K : Value → Heap → Prop) (x0 : Addr) (h : Heap) : (E Try.prog X T S0 body (fin Try.prog Try.f75.results.toList K) (args0 0 [(.pointer (some x0))]) h) = w x0 h K :=
  (E0 S0 x0 h K).trans (rfl)
theorem hb : Try.f75.body = some body := by kernel_rfl
theorem ok : okCode T Try.f75.ntmps body = true := by kernel_rfl
theorem spec (x0 : Addr) (h : Heap) (K : Value → Heap → Prop) (H : w x0 h K) : CallsH Try.prog 75 [(.pointer (some x0))] h K :=
  calls_of_E (T := T) Xok mix Try.func75 hb ok rfl (by rw [e0]; exact H)
end F75
end Go.Proofs.Ytipckkeaoncjiaa.Ev
