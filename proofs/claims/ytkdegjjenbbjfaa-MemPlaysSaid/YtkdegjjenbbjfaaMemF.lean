/- PRINTED BY PROGRAM: what each of these functions does, computed over heaps by the evaluator, and that its calls do so. Conditions: none. -/
import Derived.Test.YtkdegjjenbbjfaaTX
namespace Go.Proofs.Ytkdegjjenbbjfaa.Ev
open Go
-- (*spinney/mem.Mem).at
namespace F39
def T : Hint := ⟨[], []⟩
noncomputable def body : Code := (Try.f39.body).getD .skip
def J0 (x0 : Addr) (x1 : Int) (h : Heap) (K : Value → Heap → Prop) : Prop :=
  bcase (decide (x1 < (0 : Int))) (K (.pointer none) h) (ldS (rd h (Addr.add x0 0)) (fun _ l2 _ => bcase (decide (x1 ≥ (Nat.cast l2 : Int))) (K (.pointer none) h) (CallsH Try.prog 42 [(.pointer (some (Addr.add x0 1))), (.int .i64 (1 : Int))] h (fun v4 h5 => ldI .i64 (some v4) (fun _ => ldS (rd h5 (Addr.add x0 0)) (fun p7 l8 _ => ptrK p7 (fun a10 => (0 ≤ x1 ∧ x1 < (Nat.cast l8 : Int) ∧ K (.pointer (some (Addr.add a10 (Int.toNat x1 * 1)))) h5))))))))
theorem E0 (S : Stop) (x0 : Addr) (x1 : Int) (h : Heap) (K : Value → Heap → Prop) :
    (E Try.prog X T S body (fin Try.prog Try.f39.results.toList K) (args0 0 [(.pointer (some x0)), (.int .i64 x1)]) h) = J0 x0 x1 h K := by kernel_rfl
def w (x0 : Addr) (x1 : Int) (h : Heap) (K : Value → Heap → Prop) : Prop :=
  J0 x0 x1 h K
theorem e0 (K : Value → Heap → Prop) (x0 : Addr) (x1 : Int) (h : Heap) : (E Try.prog X T S0 body (fin Try.prog Try.f39.results.toList K) (args0 0 [(.pointer (some x0)), (.int .i64 x1)]) h) = w x0 x1 h K :=
  (E0 S0 x0 x1 h K).trans (rfl)
theorem hb : Try.f39.body = some body := by kernel_rfl
theorem ok : okCode T Try.f39.ntmps body = true := by kernel_rfl
theorem spec (x0 : Addr) (x1 : Int) (h : Heap) (K : Value → Heap → Prop) (H : w x0 x1 h K) : CallsH Try.prog 39 [(.pointer (some x0)), (.int .i64 x1)] h K :=
  calls_of_E (T := T) Xok mix Try.func39 hb ok rfl (by rw [e0]; exact H)
end F39
-- (*sync/atomic.Uint64).Load
namespace F40
def T : Hint := ⟨[], []⟩
noncomputable def body : Code := (Try.f40.body).getD .skip
def J0 (x0 : Addr) (h : Heap) (K : Value → Heap → Prop) : Prop :=
  ldI .u64 (rd h (Addr.add x0 0)) (fun n3 => K (.int .u64 n3) h)
theorem E0 (S : Stop) (x0 : Addr) (h : Heap) (K : Value → Heap → Prop) :
    (E Try.prog X T S body (fin Try.prog Try.f40.results.toList K) (args0 0 [(.pointer (some x0))]) h) = J0 x0 h K := by kernel_rfl
def w (x0 : Addr) (h : Heap) (K : Value → Heap → Prop) : Prop :=
  J0 x0 h K
theorem e0 (K : Value → Heap → Prop) (x0 : Addr) (h : Heap) : (E Try.prog X T S0 body (fin Try.prog Try.f40.results.toList K) (args0 0 [(.pointer (some x0))]) h) = w x0 h K :=
  (E0 S0 x0 h K).trans (rfl)
theorem hb : Try.f40.body = some body := by kernel_rfl
theorem ok : okCode T Try.f40.ntmps body = true := by kernel_rfl
theorem spec (x0 : Addr) (h : Heap) (K : Value → Heap → Prop) (H : w x0 h K) : CallsH Try.prog 40 [(.pointer (some x0))] h K :=
  calls_of_E (T := T) Xok mix Try.func40 hb ok rfl (by rw [e0]; exact H)
end F40
-- (*sync/atomic.Uint64).CompareAndSwap
namespace F41
def T : Hint := ⟨[], []⟩
noncomputable def body : Code := (Try.f41.body).getD .skip
def J0 (x0 : Addr) (x1 : Int) (x2 : Int) (h : Heap) (K : Value → Heap → Prop) : Prop :=
  ldI .u64 (rd h (Addr.add x0 0)) (fun n3 => bcase (n3 == x1) (stK h (Addr.add x0 0) (.int .u64 x2) (fun h2 => K (.bool true) h2)) (fz h (Addr.add x0 0) = false ∧ K (.bool false) h))
theorem E0 (S : Stop) (x0 : Addr) (x1 : Int) (x2 : Int) (h : Heap) (K : Value → Heap → Prop) :
    (E Try.prog X T S body (fin Try.prog Try.f41.results.toList K) (args0 0 [(.pointer (some x0)), (.int .u64 x1), (.int .u64 x2)]) h) = J0 x0 x1 x2 h K := by kernel_rfl
def w (x0 : Addr) (x1 : Int) (x2 : Int) (h : Heap) (K : Value → Heap → Prop) : Prop :=
  J0 x0 x1 x2 h K
theorem e0 (K : Value → Heap → Prop) (x0 : Addr) (x1 : Int) (x2 : Int) (h : Heap) : (E Try.prog X T S0 body (fin Try.prog Try.f41.results.toList K) (args0 0 [(.pointer (some x0)), (.int .u64 x1), (.int .u64 x2)]) h) = w x0 x1 x2 h K :=
  (E0 S0 x0 x1 x2 h K).trans (rfl)
theorem hb : Try.f41.body = some body := by kernel_rfl
theorem ok : okCode T Try.f41.ntmps body = true := by kernel_rfl
theorem spec (x0 : Addr) (x1 : Int) (x2 : Int) (h : Heap) (K : Value → Heap → Prop) (H : w x0 x1 x2 h K) : CallsH Try.prog 41 [(.pointer (some x0)), (.int .u64 x1), (.int .u64 x2)] h K :=
  calls_of_E (T := T) Xok mix Try.func41 hb ok rfl (by rw [e0]; exact H)
end F41
-- (*sync/atomic.Int64).Add
namespace F42
def T : Hint := ⟨[], []⟩
noncomputable def body : Code := (Try.f42.body).getD .skip
def J0 (x0 : Addr) (x1 : Int) (h : Heap) (K : Value → Heap → Prop) : Prop :=
  ldI .i64 (rd h (Addr.add x0 0)) (fun n3 => stK h (Addr.add x0 0) (.int .i64 (IntKind.wrap .i64 (n3 + x1))) (fun h2 => K (.int .i64 (IntKind.wrap .i64 (n3 + x1))) h2))
theorem E0 (S : Stop) (x0 : Addr) (x1 : Int) (h : Heap) (K : Value → Heap → Prop) :
    (E Try.prog X T S body (fin Try.prog Try.f42.results.toList K) (args0 0 [(.pointer (some x0)), (.int .i64 x1)]) h) = J0 x0 x1 h K := by kernel_rfl
def w (x0 : Addr) (x1 : Int) (h : Heap) (K : Value → Heap → Prop) : Prop :=
  J0 x0 x1 h K
theorem e0 (K : Value → Heap → Prop) (x0 : Addr) (x1 : Int) (h : Heap) : (E Try.prog X T S0 body (fin Try.prog Try.f42.results.toList K) (args0 0 [(.pointer (some x0)), (.int .i64 x1)]) h) = w x0 x1 h K :=
  (E0 S0 x0 x1 h K).trans (rfl)
theorem hb : Try.f42.body = some body := by kernel_rfl
theorem ok : okCode T Try.f42.ntmps body = true := by kernel_rfl
theorem spec (x0 : Addr) (x1 : Int) (h : Heap) (K : Value → Heap → Prop) (H : w x0 x1 h K) : CallsH Try.prog 42 [(.pointer (some x0)), (.int .i64 x1)] h K :=
  calls_of_E (T := T) Xok mix Try.func42 hb ok rfl (by rw [e0]; exact H)
end F42
-- (*sync/atomic.Uint64).Add
namespace F43
def T : Hint := ⟨[], []⟩
noncomputable def body : Code := (Try.f43.body).getD .skip
def J0 (x0 : Addr) (x1 : Int) (h : Heap) (K : Value → Heap → Prop) : Prop :=
  ldI .u64 (rd h (Addr.add x0 0)) (fun n3 => stK h (Addr.add x0 0) (.int .u64 (IntKind.wrap .u64 (n3 + x1))) (fun h2 => K (.int .u64 (IntKind.wrap .u64 (n3 + x1))) h2))
theorem E0 (S : Stop) (x0 : Addr) (x1 : Int) (h : Heap) (K : Value → Heap → Prop) :
    (E Try.prog X T S body (fin Try.prog Try.f43.results.toList K) (args0 0 [(.pointer (some x0)), (.int .u64 x1)]) h) = J0 x0 x1 h K := by kernel_rfl
def w (x0 : Addr) (x1 : Int) (h : Heap) (K : Value → Heap → Prop) : Prop :=
  J0 x0 x1 h K
theorem e0 (K : Value → Heap → Prop) (x0 : Addr) (x1 : Int) (h : Heap) : (E Try.prog X T S0 body (fin Try.prog Try.f43.results.toList K) (args0 0 [(.pointer (some x0)), (.int .u64 x1)]) h) = w x0 x1 h K :=
  (E0 S0 x0 x1 h K).trans (rfl)
theorem hb : Try.f43.body = some body := by kernel_rfl
theorem ok : okCode T Try.f43.ntmps body = true := by kernel_rfl
theorem spec (x0 : Addr) (x1 : Int) (h : Heap) (K : Value → Heap → Prop) (H : w x0 x1 h K) : CallsH Try.prog 43 [(.pointer (some x0)), (.int .u64 x1)] h K :=
  calls_of_E (T := T) Xok mix Try.func43 hb ok rfl (by rw [e0]; exact H)
end F43
-- (*sync/atomic.Uint64).Store
namespace F48
def T : Hint := ⟨[], []⟩
noncomputable def body : Code := (Try.f48.body).getD .skip
def J0 (x0 : Addr) (x1 : Int) (h : Heap) (K : Value → Heap → Prop) : Prop :=
  stK h (Addr.add x0 0) (.int .u64 x1) (fun h2 => K (.tuple #[]) h2)
theorem E0 (S : Stop) (x0 : Addr) (x1 : Int) (h : Heap) (K : Value → Heap → Prop) :
    (E Try.prog X T S body (fin Try.prog Try.f48.results.toList K) (args0 0 [(.pointer (some x0)), (.int .u64 x1)]) h) = J0 x0 x1 h K := by kernel_rfl
def w (x0 : Addr) (x1 : Int) (h : Heap) (K : Value → Heap → Prop) : Prop :=
  J0 x0 x1 h K
theorem e0 (K : Value → Heap → Prop) (x0 : Addr) (x1 : Int) (h : Heap) : (E Try.prog X T S0 body (fin Try.prog Try.f48.results.toList K) (args0 0 [(.pointer (some x0)), (.int .u64 x1)]) h) = w x0 x1 h K :=
  (E0 S0 x0 x1 h K).trans (rfl)
theorem hb : Try.f48.body = some body := by kernel_rfl
theorem ok : okCode T Try.f48.ntmps body = true := by kernel_rfl
theorem spec (x0 : Addr) (x1 : Int) (h : Heap) (K : Value → Heap → Prop) (H : w x0 x1 h K) : CallsH Try.prog 48 [(.pointer (some x0)), (.int .u64 x1)] h K :=
  calls_of_E (T := T) Xok mix Try.func48 hb ok rfl (by rw [e0]; exact H)
end F48
-- (*sync/atomic.Int64).Load
namespace F60
def T : Hint := ⟨[], []⟩
noncomputable def body : Code := (Try.f60.body).getD .skip
def J0 (x0 : Addr) (h : Heap) (K : Value → Heap → Prop) : Prop :=
  ldI .i64 (rd h (Addr.add x0 0)) (fun n3 => K (.int .i64 n3) h)
theorem E0 (S : Stop) (x0 : Addr) (h : Heap) (K : Value → Heap → Prop) :
    (E Try.prog X T S body (fin Try.prog Try.f60.results.toList K) (args0 0 [(.pointer (some x0))]) h) = J0 x0 h K := by kernel_rfl
def w (x0 : Addr) (h : Heap) (K : Value → Heap → Prop) : Prop :=
  J0 x0 h K
theorem e0 (K : Value → Heap → Prop) (x0 : Addr) (h : Heap) : (E Try.prog X T S0 body (fin Try.prog Try.f60.results.toList K) (args0 0 [(.pointer (some x0))]) h) = w x0 h K :=
  (E0 S0 x0 h K).trans (rfl)
theorem hb : Try.f60.body = some body := by kernel_rfl
theorem ok : okCode T Try.f60.ntmps body = true := by kernel_rfl
theorem spec (x0 : Addr) (h : Heap) (K : Value → Heap → Prop) (H : w x0 h K) : CallsH Try.prog 60 [(.pointer (some x0))] h K :=
  calls_of_E (T := T) Xok mix Try.func60 hb ok rfl (by rw [e0]; exact H)
end F60
-- (*spinney/mem.Mem).Load
namespace F15
def T : Hint := ⟨[], []⟩
noncomputable def body : Code := (Try.f15.body).getD .skip
def J0 (x0 : Addr) (x1 : Int) (h : Heap) (K : Value → Heap → Prop) : Prop :=
  CallsH Try.prog 39 [(.pointer (some x0)), (.int .i64 x1)] h (fun v1 h2 => ldP (some v1) (fun p3 => bcase (!(Option.isNone p3)) (CallsH Try.prog 40 [(.pointer p3)] h2 (fun v4 h5 => ldI .u64 (some v4) (fun n6 => K (.int .u64 n6) h5))) (K (.int .u64 (0 : Int)) h2)))
theorem E0 (S : Stop) (x0 : Addr) (x1 : Int) (h : Heap) (K : Value → Heap → Prop) :
    (E Try.prog X T S body (fin Try.prog Try.f15.results.toList K) (args0 0 [(.pointer (some x0)), (.int .i64 x1)]) h) = J0 x0 x1 h K := by kernel_rfl
def w (x0 : Addr) (x1 : Int) (h : Heap) (K : Value → Heap → Prop) : Prop :=
  J0 x0 x1 h K
theorem e0 (K : Value → Heap → Prop) (x0 : Addr) (x1 : Int) (h : Heap) : (E Try.prog X T S0 body (fin Try.prog Try.f15.results.toList K) (args0 0 [(.pointer (some x0)), (.int .i64 x1)]) h) = w x0 x1 h K :=
  (E0 S0 x0 x1 h K).trans (rfl)
theorem hb : Try.f15.body = some body := by kernel_rfl
theorem ok : okCode T Try.f15.ntmps body = true := by kernel_rfl
theorem spec (x0 : Addr) (x1 : Int) (h : Heap) (K : Value → Heap → Prop) (H : w x0 x1 h K) : CallsH Try.prog 15 [(.pointer (some x0)), (.int .i64 x1)] h K :=
  calls_of_E (T := T) Xok mix Try.func15 hb ok rfl (by rw [e0]; exact H)
end F15
-- (*spinney/mem.Mem).CAS
namespace F16
def T : Hint := ⟨[], []⟩
noncomputable def body : Code := (Try.f16.body).getD .skip
def J0 (x0 : Addr) (x1 : Int) (x2 : Int) (x3 : Int) (h : Heap) (K : Value → Heap → Prop) : Prop :=
  CallsH Try.prog 39 [(.pointer (some x0)), (.int .i64 x1)] h (fun v1 h2 => ldP (some v1) (fun p3 => bcase (Option.isNone p3) (K (.bool false) h2) (CallsH Try.prog 41 [(.pointer p3), (.int .u64 x2), (.int .u64 x3)] h2 (fun v4 h5 => ldB (some v4) (fun b6 => bcase (!b6) (CallsH Try.prog 42 [(.pointer (some (Addr.add x0 2))), (.int .i64 (1 : Int))] h5 (fun v7 h8 => ldI .i64 (some v7) (fun _ => K (.bool b6) h8))) (K (.bool b6) h5))))))
theorem E0 (S : Stop) (x0 : Addr) (x1 : Int) (x2 : Int) (x3 : Int) (h : Heap) (K : Value → Heap → Prop) :
    (E Try.prog X T S body (fin Try.prog Try.f16.results.toList K) (args0 0 [(.pointer (some x0)), (.int .i64 x1), (.int .u64 x2), (.int .u64 x3)]) h) = J0 x0 x1 x2 x3 h K := by kernel_rfl
def w (x0 : Addr) (x1 : Int) (x2 : Int) (x3 : Int) (h : Heap) (K : Value → Heap → Prop) : Prop :=
  J0 x0 x1 x2 x3 h K
theorem e0 (K : Value → Heap → Prop) (x0 : Addr) (x1 : Int) (x2 : Int) (x3 : Int) (h : Heap) : (E Try.prog X T S0 body (fin Try.prog Try.f16.results.toList K) (args0 0 [(.pointer (some x0)), (.int .i64 x1), (.int .u64 x2), (.int .u64 x3)]) h) = w x0 x1 x2 x3 h K :=
  (E0 S0 x0 x1 x2 x3 h K).trans (rfl)
theorem hb : Try.f16.body = some body := by kernel_rfl
theorem ok : okCode T Try.f16.ntmps body = true := by kernel_rfl
theorem spec (x0 : Addr) (x1 : Int) (x2 : Int) (x3 : Int) (h : Heap) (K : Value → Heap → Prop) (H : w x0 x1 x2 x3 h K) : CallsH Try.prog 16 [(.pointer (some x0)), (.int .i64 x1), (.int .u64 x2), (.int .u64 x3)] h K :=
  calls_of_E (T := T) Xok mix Try.func16 hb ok rfl (by rw [e0]; exact H)
end F16
-- (*spinney/mem.Mem).Add
namespace F17
def T : Hint := ⟨[], []⟩
noncomputable def body : Code := (Try.f17.body).getD .skip
def J0 (x0 : Addr) (x1 : Int) (x2 : Int) (h : Heap) (K : Value → Heap → Prop) : Prop :=
  CallsH Try.prog 39 [(.pointer (some x0)), (.int .i64 x1)] h (fun v1 h2 => ldP (some v1) (fun p3 => bcase (!(Option.isNone p3)) (CallsH Try.prog 43 [(.pointer p3), (.int .u64 x2)] h2 (fun v4 h5 => ldI .u64 (some v4) (fun n6 => K (.int .u64 n6) h5))) (K (.int .u64 (0 : Int)) h2)))
theorem E0 (S : Stop) (x0 : Addr) (x1 : Int) (x2 : Int) (h : Heap) (K : Value → Heap → Prop) :
    (E Try.prog X T S body (fin Try.prog Try.f17.results.toList K) (args0 0 [(.pointer (some x0)), (.int .i64 x1), (.int .u64 x2)]) h) = J0 x0 x1 x2 h K := by kernel_rfl
def w (x0 : Addr) (x1 : Int) (x2 : Int) (h : Heap) (K : Value → Heap → Prop) : Prop :=
  J0 x0 x1 x2 h K
theorem e0 (K : Value → Heap → Prop) (x0 : Addr) (x1 : Int) (x2 : Int) (h : Heap) : (E Try.prog X T S0 body (fin Try.prog Try.f17.results.toList K) (args0 0 [(.pointer (some x0)), (.int .i64 x1), (.int .u64 x2)]) h) = w x0 x1 x2 h K :=
  (E0 S0 x0 x1 x2 h K).trans (rfl)
theorem hb : Try.f17.body = some body := by kernel_rfl
theorem ok : okCode T Try.f17.ntmps body = true := by kernel_rfl
theorem spec (x0 : Addr) (x1 : Int) (x2 : Int) (h : Heap) (K : Value → Heap → Prop) (H : w x0 x1 x2 h K) : CallsH Try.prog 17 [(.pointer (some x0)), (.int .i64 x1), (.int .u64 x2)] h K :=
  calls_of_E (T := T) Xok mix Try.func17 hb ok rfl (by rw [e0]; exact H)
end F17
-- (*spinney/mem.Mem).Fails
namespace F18
def T : Hint := ⟨[], []⟩
noncomputable def body : Code := (Try.f18.body).getD .skip
def J0 (x0 : Addr) (h : Heap) (K : Value → Heap → Prop) : Prop :=
  CallsH Try.prog 44 [(.pointer (some (Addr.add x0 2)))] h (fun v1 h2 => ldI .i64 (some v1) (fun n3 => K (.int .i64 n3) h2))
theorem E0 (S : Stop) (x0 : Addr) (h : Heap) (K : Value → Heap → Prop) :
    (E Try.prog X T S body (fin Try.prog Try.f18.results.toList K) (args0 0 [(.pointer (some x0))]) h) = J0 x0 h K := by kernel_rfl
def w (x0 : Addr) (h : Heap) (K : Value → Heap → Prop) : Prop :=
  J0 x0 h K
theorem e0 (K : Value → Heap → Prop) (x0 : Addr) (h : Heap) : (E Try.prog X T S0 body (fin Try.prog Try.f18.results.toList K) (args0 0 [(.pointer (some x0))]) h) = w x0 h K :=
  (E0 S0 x0 h K).trans (rfl)
theorem hb : Try.f18.body = some body := by kernel_rfl
theorem ok : okCode T Try.f18.ntmps body = true := by kernel_rfl
theorem spec (x0 : Addr) (h : Heap) (K : Value → Heap → Prop) (H : w x0 h K) : CallsH Try.prog 18 [(.pointer (some x0))] h K :=
  calls_of_E (T := T) Xok mix Try.func18 hb ok rfl (by rw [e0]; exact H)
end F18
-- (*spinney/mem.Mem).Ops
namespace F19
def T : Hint := ⟨[], []⟩
noncomputable def body : Code := (Try.f19.body).getD .skip
def J0 (x0 : Addr) (h : Heap) (K : Value → Heap → Prop) : Prop :=
  CallsH Try.prog 44 [(.pointer (some (Addr.add x0 1)))] h (fun v1 h2 => ldI .i64 (some v1) (fun n3 => K (.int .i64 n3) h2))
theorem E0 (S : Stop) (x0 : Addr) (h : Heap) (K : Value → Heap → Prop) :
    (E Try.prog X T S body (fin Try.prog Try.f19.results.toList K) (args0 0 [(.pointer (some x0))]) h) = J0 x0 h K := by kernel_rfl
def w (x0 : Addr) (h : Heap) (K : Value → Heap → Prop) : Prop :=
  J0 x0 h K
theorem e0 (K : Value → Heap → Prop) (x0 : Addr) (h : Heap) : (E Try.prog X T S0 body (fin Try.prog Try.f19.results.toList K) (args0 0 [(.pointer (some x0))]) h) = w x0 h K :=
  (E0 S0 x0 h K).trans (rfl)
theorem hb : Try.f19.body = some body := by kernel_rfl
theorem ok : okCode T Try.f19.ntmps body = true := by kernel_rfl
theorem spec (x0 : Addr) (h : Heap) (K : Value → Heap → Prop) (H : w x0 h K) : CallsH Try.prog 19 [(.pointer (some x0))] h K :=
  calls_of_E (T := T) Xok mix Try.func19 hb ok rfl (by rw [e0]; exact H)
end F19
-- (*spinney/mem.Mem).Store
namespace F27
def T : Hint := ⟨[], []⟩
noncomputable def body : Code := (Try.f27.body).getD .skip
def J0 (x0 : Addr) (x1 : Int) (x2 : Int) (h : Heap) (K : Value → Heap → Prop) : Prop :=
  CallsH Try.prog 39 [(.pointer (some x0)), (.int .i64 x1)] h (fun v1 h2 => ldP (some v1) (fun p3 => bcase (!(Option.isNone p3)) (CallsH Try.prog 48 [(.pointer p3), (.int .u64 x2)] h2 (fun v4 h5 => (v4 = (.tuple #[]) ∧ K (.tuple #[]) h5))) (K (.tuple #[]) h2)))
theorem E0 (S : Stop) (x0 : Addr) (x1 : Int) (x2 : Int) (h : Heap) (K : Value → Heap → Prop) :
    (E Try.prog X T S body (fin Try.prog Try.f27.results.toList K) (args0 0 [(.pointer (some x0)), (.int .i64 x1), (.int .u64 x2)]) h) = J0 x0 x1 x2 h K := by kernel_rfl
def w (x0 : Addr) (x1 : Int) (x2 : Int) (h : Heap) (K : Value → Heap → Prop) : Prop :=
  J0 x0 x1 x2 h K
theorem e0 (K : Value → Heap → Prop) (x0 : Addr) (x1 : Int) (x2 : Int) (h : Heap) : (E Try.prog X T S0 body (fin Try.prog Try.f27.results.toList K) (args0 0 [(.pointer (some x0)), (.int .i64 x1), (.int .u64 x2)]) h) = w x0 x1 x2 h K :=
  (E0 S0 x0 x1 x2 h K).trans (rfl)
theorem hb : Try.f27.body = some body := by kernel_rfl
theorem ok : okCode T Try.f27.ntmps body = true := by kernel_rfl
theorem spec (x0 : Addr) (x1 : Int) (x2 : Int) (h : Heap) (K : Value → Heap → Prop) (H : w x0 x1 x2 h K) : CallsH Try.prog 27 [(.pointer (some x0)), (.int .i64 x1), (.int .u64 x2)] h K :=
  calls_of_E (T := T) Xok mix Try.func27 hb ok rfl (by rw [e0]; exact H)
end F27
-- (*spinney/mem.Mem).Len
namespace F28
def T : Hint := ⟨[], []⟩
noncomputable def body : Code := (Try.f28.body).getD .skip
def J0 (x0 : Addr) (h : Heap) (K : Value → Heap → Prop) : Prop :=
  ldS (rd h (Addr.add x0 0)) (fun _ l2 _ => K (.int .i64 (Nat.cast l2 : Int)) h)
theorem E0 (S : Stop) (x0 : Addr) (h : Heap) (K : Value → Heap → Prop) :
    (E Try.prog X T S body (fin Try.prog Try.f28.results.toList K) (args0 0 [(.pointer (some x0))]) h) = J0 x0 h K := by kernel_rfl
def w (x0 : Addr) (h : Heap) (K : Value → Heap → Prop) : Prop :=
  J0 x0 h K
theorem e0 (K : Value → Heap → Prop) (x0 : Addr) (h : Heap) : (E Try.prog X T S0 body (fin Try.prog Try.f28.results.toList K) (args0 0 [(.pointer (some x0))]) h) = w x0 h K :=
  (E0 S0 x0 h K).trans (rfl)
theorem hb : Try.f28.body = some body := by kernel_rfl
theorem ok : okCode T Try.f28.ntmps body = true := by kernel_rfl
theorem spec (x0 : Addr) (h : Heap) (K : Value → Heap → Prop) (H : w x0 h K) : CallsH Try.prog 28 [(.pointer (some x0))] h K :=
  calls_of_E (T := T) Xok mix Try.func28 hb ok rfl (by rw [e0]; exact H)
end F28
-- spinney/mem.New
namespace F14
def T : Hint := ⟨[], []⟩
noncomputable def body : Code := (Try.f14.body).getD .skip
def J0 (x0 : Int) (h : Heap) (K : Value → Heap → Prop) : Prop :=
  (0 ≤ (if (262144 : Int) < (if (0 : Int) > x0 then (0 : Int) else x0) then (262144 : Int) else (if (0 : Int) > x0 then (0 : Int) else x0)) ∧ (if (262144 : Int) < (if (0 : Int) > x0 then (0 : Int) else x0) then (262144 : Int) else (if (0 : Int) > x0 then (0 : Int) else x0)) ≤ (if (262144 : Int) < (if (0 : Int) > x0 then (0 : Int) else x0) then (262144 : Int) else (if (0 : Int) > x0 then (0 : Int) else x0)) ∧ ((Nat.cast 8 : Int) * (if (262144 : Int) < (if (0 : Int) > x0 then (0 : Int) else x0) then (262144 : Int) else (if (0 : Int) > x0 then (0 : Int) else x0)) ≤ 281474976710656) ∧ (if (262144 : Int) < (if (0 : Int) > x0 then (0 : Int) else x0) then (262144 : Int) else (if (0 : Int) > x0 then (0 : Int) else x0)) ≤ 9223372036854775807 ∧ newK h (.cells (madeCells #[(.int .u64 (0 : Int))] (Int.toNat (if (262144 : Int) < (if (0 : Int) > x0 then (0 : Int) else x0) then (262144 : Int) else (if (0 : Int) > x0 then (0 : Int) else x0)) * 1)) 106) (fun b1 h2 => newK h2 (.cells #[(.slice (some (Addr.mk b1 0 none)) (Int.toNat (if (262144 : Int) < (if (0 : Int) > x0 then (0 : Int) else x0) then (262144 : Int) else (if (0 : Int) > x0 then (0 : Int) else x0))) (Int.toNat (if (262144 : Int) < (if (0 : Int) > x0 then (0 : Int) else x0) then (262144 : Int) else (if (0 : Int) > x0 then (0 : Int) else x0)))), (.int .i64 (0 : Int)), (.int .i64 (0 : Int))] 79) (fun b3 h4 => K (.pointer (some (Addr.mk b3 0 none))) h4)))
theorem E0 (S : Stop) (x0 : Int) (h : Heap) (K : Value → Heap → Prop) :
    (E Try.prog X T S body (fin Try.prog Try.f14.results.toList K) (args0 0 [(.int .i64 x0)]) h) = J0 x0 h K := by kernel_rfl
def w (x0 : Int) (h : Heap) (K : Value → Heap → Prop) : Prop :=
  J0 x0 h K
theorem e0 (K : Value → Heap → Prop) (x0 : Int) (h : Heap) : (E Try.prog X T S0 body (fin Try.prog Try.f14.results.toList K) (args0 0 [(.int .i64 x0)]) h) = w x0 h K :=
  (E0 S0 x0 h K).trans (rfl)
theorem hb : Try.f14.body = some body := by kernel_rfl
theorem ok : okCode T Try.f14.ntmps body = true := by kernel_rfl
theorem spec (x0 : Int) (h : Heap) (K : Value → Heap → Prop) (H : w x0 h K) : CallsH Try.prog 14 [(.int .i64 x0)] h K :=
  calls_of_E (T := T) Xok mix Try.func14 hb ok rfl (by rw [e0]; exact H)
end F14
-- spinney/mem.counted
namespace F44
def T : Hint := ⟨[], []⟩
noncomputable def body : Code := (Try.f44.body).getD .skip
def J0 (x0 : Addr) (h : Heap) (K : Value → Heap → Prop) : Prop :=
  CallsH Try.prog 60 [(.pointer (some x0))] h (fun v3 h4 => ldI .i64 (some v3) (fun n5 => K (.int .i64 n5) h4))
theorem E0 (S : Stop) (x0 : Addr) (h : Heap) (K : Value → Heap → Prop) :
    (E Try.prog X T S body (fin Try.prog Try.f44.results.toList K) (args0 0 [(.pointer (some x0))]) h) = J0 x0 h K := by kernel_rfl
def w (x0 : Addr) (h : Heap) (K : Value → Heap → Prop) : Prop :=
  J0 x0 h K
theorem e0 (K : Value → Heap → Prop) (x0 : Addr) (h : Heap) : (E Try.prog X T S0 body (fin Try.prog Try.f44.results.toList K) (args0 0 [(.pointer (some x0))]) h) = w x0 h K :=
  (E0 S0 x0 h K).trans (rfl)
theorem hb : Try.f44.body = some body := by kernel_rfl
theorem ok : okCode T Try.f44.ntmps body = true := by kernel_rfl
theorem spec (x0 : Addr) (h : Heap) (K : Value → Heap → Prop) (H : w x0 h K) : CallsH Try.prog 44 [(.pointer (some x0))] h K :=
  calls_of_E (T := T) Xok mix Try.func44 hb ok rfl (by rw [e0]; exact H)
end F44
end Go.Proofs.Ytkdegjjenbbjfaa.Ev
