/- PRINTED BY PROGRAM: what each of these functions does, computed over heaps by the evaluator, and that its calls do so. Conditions: none. -/
import Derived.Test.YtbjdjgdbkfjglaaMemF2
import Derived.Test.YtbjdjgdbkfjglaaBitsF
namespace Go.Proofs.Ytbjdjgdbkfjglaa.Ev
open Go
-- (*spinney/cache.Cache).line
namespace F43
def T : Hint := ⟨[], [(1, [[(0, []), (1, []), (2, []), (3, []), (4, []), (5, []), (6, []), (7, []), (8, []), (9, [0, 1, 2, 3]), (10, []), (11, []), (12, [])]])]⟩
noncomputable def body : Code := (Try.f43.body).getD .skip
def J0 (x0 : Addr) (x1 : Int) (h : Heap) (K : Value → Heap → Prop) : Prop :=
  ldI .i64 (rd h (Addr.add x0 1)) (fun n1 => ldI .i64 (rd h (Addr.add x0 2)) (fun n2 => CallsH Try.prog 40 [(.int .u64 x1), (.int .i64 n2)] h (fun v3 h4 => ldI .i64 (some v3) (fun n5 => ((.pointer (some x0)) = ((.pointer (some x0)) : Value) ∧ ((.pointer (some x0)) = ((.pointer (some x0)) : Value) ∧ ((.pointer (some (Addr.add x0 1))) = ((.pointer (some (Addr.add x0 1))) : Value) ∧ ldI .i64 (rd h4 (Addr.add x0 1)) (fun n6 => ((.int .i64 n6) = ((.int .i64 n1) : Value) ∧ K (.int .i64 (IntKind.wrap .i64 (n1 + (IntKind.wrap .i64 ((3 : Int) * n5))))) h4)))))))))
theorem E0 (S : Stop) (x0 : Addr) (x1 : Int) (h : Heap) (K : Value → Heap → Prop) :
    (E Try.prog X T S body (fin Try.prog Try.f43.results.toList K) (args0 0 [(.pointer (some x0)), (.int .u64 x1)]) h) = J0 x0 x1 h K := by kernel_rfl
def w (x0 : Addr) (x1 : Int) (h : Heap) (K : Value → Heap → Prop) : Prop :=
  J0 x0 x1 h K
theorem e0 (K : Value → Heap → Prop) (x0 : Addr) (x1 : Int) (h : Heap) : (E Try.prog X T S0 body (fin Try.prog Try.f43.results.toList K) (args0 0 [(.pointer (some x0)), (.int .u64 x1)]) h) = w x0 x1 h K :=
  (E0 S0 x0 x1 h K).trans (rfl)
theorem hb : Try.f43.body = some body := by kernel_rfl
theorem ok : okCode T Try.f43.ntmps body = true := by kernel_rfl
theorem spec (x0 : Addr) (x1 : Int) (h : Heap) (K : Value → Heap → Prop) (H : w x0 x1 h K) : CallsH Try.prog 43 [(.pointer (some x0)), (.int .u64 x1)] h K :=
  calls_of_E (T := T) Xok mix Try.func43 hb ok rfl (by rw [e0]; exact H)
end F43
-- spinney/cache.Cells
namespace F28
def T : Hint := ⟨[], []⟩
noncomputable def body : Code := (Try.f28.body).getD .skip
def J0 (x0 : Int) (h : Heap) (K : Value → Heap → Prop) : Prop :=
  bcase (decide (x0 < (1 : Int))) (K (.int .i64 (0 : Int)) h) (K (.int .i64 (IntKind.wrap .i64 ((3 : Int) * x0))) h)
theorem E0 (S : Stop) (x0 : Int) (h : Heap) (K : Value → Heap → Prop) :
    (E Try.prog X T S body (fin Try.prog Try.f28.results.toList K) (args0 0 [(.int .i64 x0)]) h) = J0 x0 h K := by kernel_rfl
def w (x0 : Int) (h : Heap) (K : Value → Heap → Prop) : Prop :=
  J0 x0 h K
theorem e0 (K : Value → Heap → Prop) (x0 : Int) (h : Heap) : (E Try.prog X T S0 body (fin Try.prog Try.f28.results.toList K) (args0 0 [(.int .i64 x0)]) h) = w x0 h K :=
  (E0 S0 x0 h K).trans (rfl)
theorem hb : Try.f28.body = some body := by kernel_rfl
theorem ok : okCode T Try.f28.ntmps body = true := by kernel_rfl
theorem spec (x0 : Int) (h : Heap) (K : Value → Heap → Prop) (H : w x0 h K) : CallsH Try.prog 28 [(.int .i64 x0)] h K :=
  calls_of_E (T := T) Xok mix Try.func28 hb ok rfl (by rw [e0]; exact H)
end F28
-- spinney/cache.New
namespace F29
def T : Hint := ⟨[], []⟩
noncomputable def body : Code := (Try.f29.body).getD .skip
def J0 (x0 : Addr) (x1 : Int) (x2 : Int) (h : Heap) (K : Value → Heap → Prop) : Prop :=
  bcase (decide (x1 < (0 : Int))) (K (.tuple #[(.pointer none), (.int .i64 (61 : Int))]) h) (bcase (decide (x2 < (1 : Int))) (K (.tuple #[(.pointer none), (.int .i64 (61 : Int))]) h) (bcase (decide (x2 > (1024 : Int))) (K (.tuple #[(.pointer none), (.int .i64 (61 : Int))]) h) (CallsH Try.prog 39 [(.pointer (some x0))] h (fun v1 h2 => ldI .i64 (some v1) (fun n3 => bcase (decide (x1 > n3)) (K (.tuple #[(.pointer none), (.int .i64 (61 : Int))]) h2) (CallsH Try.prog 28 [(.int .i64 x2)] h2 (fun v4 h5 => ldI .i64 (some v4) (fun n6 => CallsH Try.prog 39 [(.pointer (some x0))] h5 (fun v7 h8 => ldI .i64 (some v7) (fun n9 => bcase (decide (n6 > (IntKind.wrap .i64 (n9 - x1)))) (K (.tuple #[(.pointer none), (.int .i64 (61 : Int))]) h8) (newK h8 (.cells #[(.pointer (some x0)), (.int .i64 x1), (.int .i64 x2)] 83) (fun b10 h11 => K (.tuple #[(.pointer (some (Addr.mk b10 0 none))), (.int .i64 (0 : Int))]) h11))))))))))))
theorem E0 (S : Stop) (x0 : Addr) (x1 : Int) (x2 : Int) (h : Heap) (K : Value → Heap → Prop) :
    (E Try.prog X T S body (fin Try.prog Try.f29.results.toList K) (args0 0 [(.pointer (some x0)), (.int .i64 x1), (.int .i64 x2)]) h) = J0 x0 x1 x2 h K := by kernel_rfl
def w (x0 : Addr) (x1 : Int) (x2 : Int) (h : Heap) (K : Value → Heap → Prop) : Prop :=
  J0 x0 x1 x2 h K
theorem e0 (K : Value → Heap → Prop) (x0 : Addr) (x1 : Int) (x2 : Int) (h : Heap) : (E Try.prog X T S0 body (fin Try.prog Try.f29.results.toList K) (args0 0 [(.pointer (some x0)), (.int .i64 x1), (.int .i64 x2)]) h) = w x0 x1 x2 h K :=
  (E0 S0 x0 x1 x2 h K).trans (rfl)
theorem hb : Try.f29.body = some body := by kernel_rfl
theorem ok : okCode T Try.f29.ntmps body = true := by kernel_rfl
theorem spec (x0 : Addr) (x1 : Int) (x2 : Int) (h : Heap) (K : Value → Heap → Prop) (H : w x0 x1 x2 h K) : CallsH Try.prog 29 [(.pointer (some x0)), (.int .i64 x1), (.int .i64 x2)] h K :=
  calls_of_E (T := T) Xok mix Try.func29 hb ok rfl (by rw [e0]; exact H)
end F29
-- (*spinney/cache.Act).looks
namespace F44
def T : Hint := ⟨[], [(0, [[(0, []), (1, []), (2, []), (3, []), (4, []), (5, []), (6, []), (7, []), (8, []), (9, [0]), (10, []), (11, []), (12, [])]])]⟩
noncomputable def body : Code := (Try.f44.body).getD .skip
def J0 (x0 : Addr) (h : Heap) (K : Value → Heap → Prop) : Prop :=
  ldP (rd h (Addr.add x0 0)) (fun p1 => ldI .i64 (rd h (Addr.add x0 1)) (fun n2 => CallsH Try.prog 35 [(.pointer p1), (.int .i64 n2)] h (fun v3 h4 => ldI .u64 (some v3) (fun n5 => ((.pointer (some x0)) = ((.pointer (some x0)) : Value) ∧ stK h4 (Addr.add (Addr.add x0 4) 0) (.int .u64 n5) (fun h6 => stK h6 (Addr.add (Addr.add x0 5) 0) (.func (.func 55) #[(.pointer (some x0))] #[]) (fun h7 => ldI .u64 (rd h7 (Addr.add x0 4)) (fun n8 => stK h7 (Addr.add (Addr.add x0 6) 0) (.bool ((bitsI .and .u64 n8 (3 : Int)) != (2 : Int))) (fun h9 => K (.tuple #[]) h9)))))))))
theorem E0 (S : Stop) (x0 : Addr) (h : Heap) (K : Value → Heap → Prop) :
    (E Try.prog X T S body (fin Try.prog Try.f44.results.toList K) (args0 0 [(.pointer (some x0))]) h) = J0 x0 h K := by kernel_rfl
def w (x0 : Addr) (h : Heap) (K : Value → Heap → Prop) : Prop :=
  J0 x0 h K
theorem e0 (K : Value → Heap → Prop) (x0 : Addr) (h : Heap) : (E Try.prog X T S0 body (fin Try.prog Try.f44.results.toList K) (args0 0 [(.pointer (some x0))]) h) = w x0 h K :=
  (E0 S0 x0 h K).trans (rfl)
theorem hb : Try.f44.body = some body := by kernel_rfl
theorem ok : okCode T Try.f44.ntmps body = true := by kernel_rfl
theorem spec (x0 : Addr) (h : Heap) (K : Value → Heap → Prop) (H : w x0 h K) : CallsH Try.prog 44 [(.pointer (some x0))] h K :=
  calls_of_E (T := T) Xok mix Try.func44 hb ok rfl (by rw [e0]; exact H)
end F44
-- (*spinney/cache.Act).opens
namespace F45
def T : Hint := ⟨[], [(0, [[(0, []), (1, []), (2, []), (3, []), (4, []), (5, []), (6, []), (7, []), (8, []), (9, [0]), (10, []), (11, []), (12, [])]])]⟩
noncomputable def body : Code := (Try.f45.body).getD .skip
def J0 (x0 : Addr) (h : Heap) (K : Value → Heap → Prop) : Prop :=
  ldP (rd h (Addr.add x0 0)) (fun p1 => ldI .i64 (rd h (Addr.add x0 1)) (fun n2 => CallsH Try.prog 35 [(.pointer p1), (.int .i64 n2)] h (fun v3 h4 => ldI .u64 (some v3) (fun n5 => ((.pointer (some x0)) = ((.pointer (some x0)) : Value) ∧ stK h4 (Addr.add (Addr.add x0 4) 0) (.int .u64 n5) (fun h6 => stK h6 (Addr.add (Addr.add x0 5) 0) (.func (.func 56) #[(.pointer (some x0))] #[]) (fun h7 => ldI .u64 (rd h7 (Addr.add x0 4)) (fun n8 => stK h7 (Addr.add (Addr.add x0 6) 0) (.bool ((bitsI .and .u64 n8 (1 : Int)) != (0 : Int))) (fun h9 => K (.tuple #[]) h9)))))))))
theorem E0 (S : Stop) (x0 : Addr) (h : Heap) (K : Value → Heap → Prop) :
    (E Try.prog X T S body (fin Try.prog Try.f45.results.toList K) (args0 0 [(.pointer (some x0))]) h) = J0 x0 h K := by kernel_rfl
def w (x0 : Addr) (h : Heap) (K : Value → Heap → Prop) : Prop :=
  J0 x0 h K
theorem e0 (K : Value → Heap → Prop) (x0 : Addr) (h : Heap) : (E Try.prog X T S0 body (fin Try.prog Try.f45.results.toList K) (args0 0 [(.pointer (some x0))]) h) = w x0 h K :=
  (E0 S0 x0 h K).trans (rfl)
theorem hb : Try.f45.body = some body := by kernel_rfl
theorem ok : okCode T Try.f45.ntmps body = true := by kernel_rfl
theorem spec (x0 : Addr) (h : Heap) (K : Value → Heap → Prop) (H : w x0 h K) : CallsH Try.prog 45 [(.pointer (some x0))] h K :=
  calls_of_E (T := T) Xok mix Try.func45 hb ok rfl (by rw [e0]; exact H)
end F45
-- (*spinney/cache.Act).compares
namespace F55
def T : Hint := ⟨[], [(0, [[(0, []), (1, []), (2, []), (3, []), (4, []), (5, []), (6, []), (7, []), (8, []), (9, []), (11, []), (12, []), (13, []), (14, []), (10, [0, 11, 12, 13, 14]), (15, []), (16, []), (17, []), (18, [])]])]⟩
noncomputable def body : Code := (Try.f55.body).getD .skip
def J0 (x0 : Addr) (h : Heap) (K : Value → Heap → Prop) : Prop :=
  ldP (rd h (Addr.add x0 0)) (fun p1 => ldI .i64 (rd h (Addr.add x0 1)) (fun n2 => ldI .u64 (rd h (Addr.add x0 2)) (fun n3 => CallsH Try.prog 35 [(.pointer p1), (.int .i64 (IntKind.wrap .i64 (n2 + (1 : Int))))] h (fun v4 h5 => ldI .u64 (some v4) (fun n6 => ((.pointer (some x0)) = ((.pointer (some x0)) : Value) ∧ ((.pointer (some x0)) = ((.pointer (some x0)) : Value) ∧ ((.pointer (some x0)) = ((.pointer (some x0)) : Value) ∧ ((.pointer (some (Addr.add x0 2))) = ((.pointer (some (Addr.add x0 2))) : Value) ∧ ldI .u64 (rd h5 (Addr.add x0 2)) (fun n7 => ((.int .u64 n7) = ((.int .u64 n3) : Value) ∧ stK h5 (Addr.add (Addr.add x0 6) 0) (.bool (n6 != n3)) (fun h8 => stK h8 (Addr.add (Addr.add x0 5) 0) (.func (.func 62) #[(.pointer (some x0))] #[]) (fun h9 => K (.tuple #[]) h9)))))))))))))
theorem E0 (S : Stop) (x0 : Addr) (h : Heap) (K : Value → Heap → Prop) :
    (E Try.prog X T S body (fin Try.prog Try.f55.results.toList K) (args0 0 [(.pointer (some x0))]) h) = J0 x0 h K := by kernel_rfl
def w (x0 : Addr) (h : Heap) (K : Value → Heap → Prop) : Prop :=
  J0 x0 h K
theorem e0 (K : Value → Heap → Prop) (x0 : Addr) (h : Heap) : (E Try.prog X T S0 body (fin Try.prog Try.f55.results.toList K) (args0 0 [(.pointer (some x0))]) h) = w x0 h K :=
  (E0 S0 x0 h K).trans (rfl)
theorem hb : Try.f55.body = some body := by kernel_rfl
theorem ok : okCode T Try.f55.ntmps body = true := by kernel_rfl
theorem spec (x0 : Addr) (h : Heap) (K : Value → Heap → Prop) (H : w x0 h K) : CallsH Try.prog 55 [(.pointer (some x0))] h K :=
  calls_of_E (T := T) Xok mix Try.func55 hb ok rfl (by rw [e0]; exact H)
end F55
-- (*spinney/cache.Act).locks
namespace F56
def T : Hint := ⟨[], [(1, [[(0, []), (1, []), (2, []), (3, []), (4, []), (5, []), (6, []), (7, []), (8, []), (9, []), (10, []), (11, []), (12, []), (13, []), (14, []), (15, []), (16, []), (17, []), (18, [0]), (19, []), (20, []), (21, []), (22, [])]])]⟩
noncomputable def body : Code := (Try.f56.body).getD .skip
def J0 (x0 : Addr) (h : Heap) (K : Value → Heap → Prop) : Prop :=
  stK h (Addr.add (Addr.add x0 5) 0) (.func (.func 63) #[(.pointer (some x0))] #[]) (fun h1 => ldP (rd h1 (Addr.add x0 0)) (fun p2 => ldI .i64 (rd h1 (Addr.add x0 1)) (fun n3 => ldI .u64 (rd h1 (Addr.add x0 4)) (fun n4 => ldI .u64 (rd h1 (Addr.add x0 4)) (fun n5 => CallsH Try.prog 46 [(.pointer p2), (.int .i64 n3), (.int .u64 n4), (.int .u64 (bitsI .or .u64 n5 (1 : Int)))] h1 (fun v6 h7 => ldB (some v6) (fun b8 => ((.pointer (some x0)) = ((.pointer (some x0)) : Value) ∧ stK h7 (Addr.add (Addr.add x0 6) 0) (.bool (!b8)) (fun h9 => K (.tuple #[]) h9)))))))))
theorem E0 (S : Stop) (x0 : Addr) (h : Heap) (K : Value → Heap → Prop) :
    (E Try.prog X T S body (fin Try.prog Try.f56.results.toList K) (args0 0 [(.pointer (some x0))]) h) = J0 x0 h K := by kernel_rfl
def w (x0 : Addr) (h : Heap) (K : Value → Heap → Prop) : Prop :=
  J0 x0 h K
theorem e0 (K : Value → Heap → Prop) (x0 : Addr) (h : Heap) : (E Try.prog X T S0 body (fin Try.prog Try.f56.results.toList K) (args0 0 [(.pointer (some x0))]) h) = w x0 h K :=
  (E0 S0 x0 h K).trans (rfl)
theorem hb : Try.f56.body = some body := by kernel_rfl
theorem ok : okCode T Try.f56.ntmps body = true := by kernel_rfl
theorem spec (x0 : Addr) (h : Heap) (K : Value → Heap → Prop) (H : w x0 h K) : CallsH Try.prog 56 [(.pointer (some x0))] h K :=
  calls_of_E (T := T) Xok mix Try.func56 hb ok rfl (by rw [e0]; exact H)
end F56
-- (*spinney/cache.Act).reads
namespace F62
def T : Hint := ⟨[], [(0, [[(0, []), (1, []), (2, []), (3, []), (4, []), (5, []), (6, []), (7, []), (8, []), (9, []), (10, [0]), (11, []), (12, []), (13, [])]])]⟩
noncomputable def body : Code := (Try.f62.body).getD .skip
def J0 (x0 : Addr) (h : Heap) (K : Value → Heap → Prop) : Prop :=
  ldP (rd h (Addr.add x0 0)) (fun p1 => ldI .i64 (rd h (Addr.add x0 1)) (fun n2 => CallsH Try.prog 35 [(.pointer p1), (.int .i64 (IntKind.wrap .i64 (n2 + (2 : Int))))] h (fun v3 h4 => ldI .u64 (some v3) (fun n5 => ((.pointer (some x0)) = ((.pointer (some x0)) : Value) ∧ stK h4 (Addr.add (Addr.add x0 8) 0) (.int .u64 n5) (fun h6 => stK h6 (Addr.add (Addr.add x0 5) 0) (.func (.func 66) #[(.pointer (some x0))] #[]) (fun h7 => K (.tuple #[]) h7)))))))
theorem E0 (S : Stop) (x0 : Addr) (h : Heap) (K : Value → Heap → Prop) :
    (E Try.prog X T S body (fin Try.prog Try.f62.results.toList K) (args0 0 [(.pointer (some x0))]) h) = J0 x0 h K := by kernel_rfl
def w (x0 : Addr) (h : Heap) (K : Value → Heap → Prop) : Prop :=
  J0 x0 h K
theorem e0 (K : Value → Heap → Prop) (x0 : Addr) (h : Heap) : (E Try.prog X T S0 body (fin Try.prog Try.f62.results.toList K) (args0 0 [(.pointer (some x0))]) h) = w x0 h K :=
  (E0 S0 x0 h K).trans (rfl)
theorem hb : Try.f62.body = some body := by kernel_rfl
theorem ok : okCode T Try.f62.ntmps body = true := by kernel_rfl
theorem spec (x0 : Addr) (h : Heap) (K : Value → Heap → Prop) (H : w x0 h K) : CallsH Try.prog 62 [(.pointer (some x0))] h K :=
  calls_of_E (T := T) Xok mix Try.func62 hb ok rfl (by rw [e0]; exact H)
end F62
-- (*spinney/cache.Act).keys
namespace F63
def T : Hint := ⟨[], [(0, [[(0, []), (1, []), (2, []), (3, []), (4, []), (5, []), (6, []), (7, []), (8, []), (9, []), (10, []), (11, []), (12, []), (13, [])]])]⟩
noncomputable def body : Code := (Try.f63.body).getD .skip
def J0 (x0 : Addr) (h : Heap) (K : Value → Heap → Prop) : Prop :=
  ldP (rd h (Addr.add x0 0)) (fun p1 => ldI .i64 (rd h (Addr.add x0 1)) (fun n2 => ldI .u64 (rd h (Addr.add x0 2)) (fun n3 => CallsH Try.prog 34 [(.pointer p1), (.int .i64 (IntKind.wrap .i64 (n2 + (1 : Int)))), (.int .u64 n3)] h (fun v4 h5 => (v4 = (.tuple #[]) ∧ stK h5 (Addr.add (Addr.add x0 5) 0) (.func (.func 67) #[(.pointer (some x0))] #[]) (fun h6 => K (.tuple #[]) h6))))))
theorem E0 (S : Stop) (x0 : Addr) (h : Heap) (K : Value → Heap → Prop) :
    (E Try.prog X T S body (fin Try.prog Try.f63.results.toList K) (args0 0 [(.pointer (some x0))]) h) = J0 x0 h K := by kernel_rfl
def w (x0 : Addr) (h : Heap) (K : Value → Heap → Prop) : Prop :=
  J0 x0 h K
theorem e0 (K : Value → Heap → Prop) (x0 : Addr) (h : Heap) : (E Try.prog X T S0 body (fin Try.prog Try.f63.results.toList K) (args0 0 [(.pointer (some x0))]) h) = w x0 h K :=
  (E0 S0 x0 h K).trans (rfl)
theorem hb : Try.f63.body = some body := by kernel_rfl
theorem ok : okCode T Try.f63.ntmps body = true := by kernel_rfl
theorem spec (x0 : Addr) (h : Heap) (K : Value → Heap → Prop) (H : w x0 h K) : CallsH Try.prog 63 [(.pointer (some x0))] h K :=
  calls_of_E (T := T) Xok mix Try.func63 hb ok rfl (by rw [e0]; exact H)
end F63
-- (*spinney/cache.Act).trusts
namespace F66
def T : Hint := ⟨[], [(0, [[(0, []), (1, []), (2, []), (3, []), (4, []), (5, []), (6, []), (7, []), (8, []), (10, []), (11, []), (12, []), (13, []), (9, [0, 10, 11, 12, 13]), (14, []), (15, []), (16, []), (17, [])]])]⟩
noncomputable def body : Code := (Try.f66.body).getD .skip
def J0 (x0 : Addr) (h : Heap) (K : Value → Heap → Prop) : Prop :=
  ldP (rd h (Addr.add x0 0)) (fun p1 => ldI .i64 (rd h (Addr.add x0 1)) (fun n2 => ldI .u64 (rd h (Addr.add x0 4)) (fun n3 => CallsH Try.prog 35 [(.pointer p1), (.int .i64 n2)] h (fun v4 h5 => ldI .u64 (some v4) (fun n6 => ((.pointer (some x0)) = ((.pointer (some x0)) : Value) ∧ ((.pointer (some x0)) = ((.pointer (some x0)) : Value) ∧ ((.pointer (some x0)) = ((.pointer (some x0)) : Value) ∧ ((.pointer (some (Addr.add x0 4))) = ((.pointer (some (Addr.add x0 4))) : Value) ∧ ldI .u64 (rd h5 (Addr.add x0 4)) (fun n7 => ((.int .u64 n7) = ((.int .u64 n3) : Value) ∧ stK h5 (Addr.add (Addr.add x0 7) 0) (.bool (n6 == n3)) (fun h8 => stK h8 (Addr.add (Addr.add x0 6) 0) (.bool true) (fun h9 => K (.tuple #[]) h9)))))))))))))
theorem E0 (S : Stop) (x0 : Addr) (h : Heap) (K : Value → Heap → Prop) :
    (E Try.prog X T S body (fin Try.prog Try.f66.results.toList K) (args0 0 [(.pointer (some x0))]) h) = J0 x0 h K := by kernel_rfl
def w (x0 : Addr) (h : Heap) (K : Value → Heap → Prop) : Prop :=
  J0 x0 h K
theorem e0 (K : Value → Heap → Prop) (x0 : Addr) (h : Heap) : (E Try.prog X T S0 body (fin Try.prog Try.f66.results.toList K) (args0 0 [(.pointer (some x0))]) h) = w x0 h K :=
  (E0 S0 x0 h K).trans (rfl)
theorem hb : Try.f66.body = some body := by kernel_rfl
theorem ok : okCode T Try.f66.ntmps body = true := by kernel_rfl
theorem spec (x0 : Addr) (h : Heap) (K : Value → Heap → Prop) (H : w x0 h K) : CallsH Try.prog 66 [(.pointer (some x0))] h K :=
  calls_of_E (T := T) Xok mix Try.func66 hb ok rfl (by rw [e0]; exact H)
end F66
-- (*spinney/cache.Act).vals
namespace F67
def T : Hint := ⟨[], [(0, [[(0, []), (1, []), (2, []), (3, []), (4, []), (5, []), (6, []), (7, []), (8, []), (9, []), (10, []), (11, []), (12, []), (13, [])]])]⟩
noncomputable def body : Code := (Try.f67.body).getD .skip
def J0 (x0 : Addr) (h : Heap) (K : Value → Heap → Prop) : Prop :=
  ldP (rd h (Addr.add x0 0)) (fun p1 => ldI .i64 (rd h (Addr.add x0 1)) (fun n2 => ldI .u64 (rd h (Addr.add x0 3)) (fun n3 => CallsH Try.prog 34 [(.pointer p1), (.int .i64 (IntKind.wrap .i64 (n2 + (2 : Int)))), (.int .u64 n3)] h (fun v4 h5 => (v4 = (.tuple #[]) ∧ stK h5 (Addr.add (Addr.add x0 5) 0) (.func (.func 68) #[(.pointer (some x0))] #[]) (fun h6 => K (.tuple #[]) h6))))))
theorem E0 (S : Stop) (x0 : Addr) (h : Heap) (K : Value → Heap → Prop) :
    (E Try.prog X T S body (fin Try.prog Try.f67.results.toList K) (args0 0 [(.pointer (some x0))]) h) = J0 x0 h K := by kernel_rfl
def w (x0 : Addr) (h : Heap) (K : Value → Heap → Prop) : Prop :=
  J0 x0 h K
theorem e0 (K : Value → Heap → Prop) (x0 : Addr) (h : Heap) : (E Try.prog X T S0 body (fin Try.prog Try.f67.results.toList K) (args0 0 [(.pointer (some x0))]) h) = w x0 h K :=
  (E0 S0 x0 h K).trans (rfl)
theorem hb : Try.f67.body = some body := by kernel_rfl
theorem ok : okCode T Try.f67.ntmps body = true := by kernel_rfl
theorem spec (x0 : Addr) (h : Heap) (K : Value → Heap → Prop) (H : w x0 h K) : CallsH Try.prog 67 [(.pointer (some x0))] h K :=
  calls_of_E (T := T) Xok mix Try.func67 hb ok rfl (by rw [e0]; exact H)
end F67
-- (*spinney/cache.Act).opensAgain
namespace F68
def T : Hint := ⟨[], [(0, [[(0, []), (1, []), (2, []), (3, []), (4, []), (5, []), (6, []), (7, []), (8, []), (9, []), (10, []), (11, []), (12, []), (13, []), (14, [])]])]⟩
noncomputable def body : Code := (Try.f68.body).getD .skip
def J0 (x0 : Addr) (h : Heap) (K : Value → Heap → Prop) : Prop :=
  ldP (rd h (Addr.add x0 0)) (fun p1 => ldI .i64 (rd h (Addr.add x0 1)) (fun n2 => ldI .u64 (rd h (Addr.add x0 4)) (fun n3 => CallsH Try.prog 34 [(.pointer p1), (.int .i64 n2), (.int .u64 (IntKind.wrap .u64 ((bitsI .or .u64 n3 (2 : Int)) + (4 : Int))))] h (fun v4 h5 => (v4 = (.tuple #[]) ∧ stK h5 (Addr.add (Addr.add x0 6) 0) (.bool true) (fun h6 => K (.tuple #[]) h6))))))
theorem E0 (S : Stop) (x0 : Addr) (h : Heap) (K : Value → Heap → Prop) :
    (E Try.prog X T S body (fin Try.prog Try.f68.results.toList K) (args0 0 [(.pointer (some x0))]) h) = J0 x0 h K := by kernel_rfl
def w (x0 : Addr) (h : Heap) (K : Value → Heap → Prop) : Prop :=
  J0 x0 h K
theorem e0 (K : Value → Heap → Prop) (x0 : Addr) (h : Heap) : (E Try.prog X T S0 body (fin Try.prog Try.f68.results.toList K) (args0 0 [(.pointer (some x0))]) h) = w x0 h K :=
  (E0 S0 x0 h K).trans (rfl)
theorem hb : Try.f68.body = some body := by kernel_rfl
theorem ok : okCode T Try.f68.ntmps body = true := by kernel_rfl
theorem spec (x0 : Addr) (h : Heap) (K : Value → Heap → Prop) (H : w x0 h K) : CallsH Try.prog 68 [(.pointer (some x0))] h K :=
  calls_of_E (T := T) Xok mix Try.func68 hb ok rfl (by rw [e0]; exact H)
end F68
-- (*spinney/cache.Cache).Get
namespace F31
def T : Hint := ⟨[], [(1, [[(0, []), (1, []), (2, []), (3, []), (4, []), (5, []), (7, []), (6, [0, 1, 2, 3, 7]), (8, []), (9, []), (10, [])]])]⟩
noncomputable def body : Code := (Try.f31.body).getD .skip
def J0 (x0 : Addr) (x1 : Int) (h : Heap) (K : Value → Heap → Prop) : Prop :=
  ldP (rd h (Addr.add x0 0)) (fun p1 => CallsH Try.prog 43 [(.pointer (some x0)), (.int .u64 x1)] h (fun v2 h3 => ldI .i64 (some v2) (fun n4 => ((.pointer (some x0)) = ((.pointer (some x0)) : Value) ∧ ((.pointer (some x0)) = ((.pointer (some x0)) : Value) ∧ ((.pointer (some (Addr.add x0 0))) = ((.pointer (some (Addr.add x0 0))) : Value) ∧ ldP (rd h3 (Addr.add x0 0)) (fun p5 => ((.pointer p5) = ((.pointer p1) : Value) ∧ ((.int .u64 x1) = ((.int .u64 x1) : Value) ∧ newK h3 (.cells #[(.pointer p1), (.int .i64 n4), (.int .u64 x1), (.int .u64 (0 : Int)), (.int .u64 (0 : Int)), .nilFunc, (.bool false), (.bool false), (.int .u64 (0 : Int))] 86) (fun b6 h7 => stK h7 (Addr.add (Addr.add (Addr.mk b6 0 none) 5) 0) (.func (.func 44) #[(.pointer (some (Addr.mk b6 0 none)))] #[]) (fun h8 => K (.pointer (some (Addr.mk b6 0 none))) h8)))))))))))
theorem E0 (S : Stop) (x0 : Addr) (x1 : Int) (h : Heap) (K : Value → Heap → Prop) :
    (E Try.prog X T S body (fin Try.prog Try.f31.results.toList K) (args0 0 [(.pointer (some x0)), (.int .u64 x1)]) h) = J0 x0 x1 h K := by kernel_rfl
def w (x0 : Addr) (x1 : Int) (h : Heap) (K : Value → Heap → Prop) : Prop :=
  J0 x0 x1 h K
theorem e0 (K : Value → Heap → Prop) (x0 : Addr) (x1 : Int) (h : Heap) : (E Try.prog X T S0 body (fin Try.prog Try.f31.results.toList K) (args0 0 [(.pointer (some x0)), (.int .u64 x1)]) h) = w x0 x1 h K :=
  (E0 S0 x0 x1 h K).trans (rfl)
theorem hb : Try.f31.body = some body := by kernel_rfl
theorem ok : okCode T Try.f31.ntmps body = true := by kernel_rfl
theorem spec (x0 : Addr) (x1 : Int) (h : Heap) (K : Value → Heap → Prop) (H : w x0 x1 h K) : CallsH Try.prog 31 [(.pointer (some x0)), (.int .u64 x1)] h K :=
  calls_of_E (T := T) Xok mix Try.func31 hb ok rfl (by rw [e0]; exact H)
end F31
-- (*spinney/cache.Cache).Put
namespace F32
def T : Hint := ⟨[], [(1, [[(0, []), (1, []), (2, []), (3, []), (4, []), (5, []), (7, []), (8, []), (6, [0, 1, 2, 3, 7, 8]), (9, []), (10, []), (11, [])]])]⟩
noncomputable def body : Code := (Try.f32.body).getD .skip
def J0 (x0 : Addr) (x1 : Int) (x2 : Int) (h : Heap) (K : Value → Heap → Prop) : Prop :=
  ldP (rd h (Addr.add x0 0)) (fun p1 => CallsH Try.prog 43 [(.pointer (some x0)), (.int .u64 x1)] h (fun v2 h3 => ldI .i64 (some v2) (fun n4 => ((.pointer (some x0)) = ((.pointer (some x0)) : Value) ∧ ((.pointer (some x0)) = ((.pointer (some x0)) : Value) ∧ ((.pointer (some (Addr.add x0 0))) = ((.pointer (some (Addr.add x0 0))) : Value) ∧ ldP (rd h3 (Addr.add x0 0)) (fun p5 => ((.pointer p5) = ((.pointer p1) : Value) ∧ ((.int .u64 x1) = ((.int .u64 x1) : Value) ∧ ((.int .u64 x2) = ((.int .u64 x2) : Value) ∧ newK h3 (.cells #[(.pointer p1), (.int .i64 n4), (.int .u64 x1), (.int .u64 x2), (.int .u64 (0 : Int)), .nilFunc, (.bool false), (.bool false), (.int .u64 (0 : Int))] 86) (fun b6 h7 => stK h7 (Addr.add (Addr.add (Addr.mk b6 0 none) 5) 0) (.func (.func 45) #[(.pointer (some (Addr.mk b6 0 none)))] #[]) (fun h8 => K (.pointer (some (Addr.mk b6 0 none))) h8))))))))))))
theorem E0 (S : Stop) (x0 : Addr) (x1 : Int) (x2 : Int) (h : Heap) (K : Value → Heap → Prop) :
    (E Try.prog X T S body (fin Try.prog Try.f32.results.toList K) (args0 0 [(.pointer (some x0)), (.int .u64 x1), (.int .u64 x2)]) h) = J0 x0 x1 x2 h K := by kernel_rfl
def w (x0 : Addr) (x1 : Int) (x2 : Int) (h : Heap) (K : Value → Heap → Prop) : Prop :=
  J0 x0 x1 x2 h K
theorem e0 (K : Value → Heap → Prop) (x0 : Addr) (x1 : Int) (x2 : Int) (h : Heap) : (E Try.prog X T S0 body (fin Try.prog Try.f32.results.toList K) (args0 0 [(.pointer (some x0)), (.int .u64 x1), (.int .u64 x2)]) h) = w x0 x1 x2 h K :=
  (E0 S0 x0 x1 x2 h K).trans (rfl)
theorem hb : Try.f32.body = some body := by kernel_rfl
theorem ok : okCode T Try.f32.ntmps body = true := by kernel_rfl
theorem spec (x0 : Addr) (x1 : Int) (x2 : Int) (h : Heap) (K : Value → Heap → Prop) (H : w x0 x1 x2 h K) : CallsH Try.prog 32 [(.pointer (some x0)), (.int .u64 x1), (.int .u64 x2)] h K :=
  calls_of_E (T := T) Xok mix Try.func32 hb ok rfl (by rw [e0]; exact H)
end F32
-- (*spinney/cache.Act).Step
namespace F36
def T : Hint := ⟨[(3, [0])], []⟩
noncomputable def body : Code := (Try.f36.body).getD .skip
def J0 (k3 : Addr → Heap → Prop) (x0 : Addr) (h : Heap) (_K : Value → Heap → Prop) : Prop :=
  ldB (rd h (Addr.add x0 6)) (fun b1 => bcase (!b1) (ldV (rd h (Addr.add x0 5)) (fun v2 => dynK Try.prog X v2 [] h (fun v3 h4 => (v3 = (.tuple #[]) ∧ k3 x0 h4)))) (k3 x0 h))
theorem E0 (S : Stop) (x0 : Addr) (h : Heap) (K : Value → Heap → Prop) :
    (E Try.prog X T S body (fin Try.prog Try.f36.results.toList K) (args0 0 [(.pointer (some x0))]) h) = J0 (fun x0 h => S (E Try.prog X T S (sub body [1, 1]) (fin Try.prog Try.f36.results.toList K)) [(0, (.pointer (some x0)))] h) x0 h K := by kernel_rfl
def Jk3 (x0 : Addr) (h : Heap) (K : Value → Heap → Prop) : Prop :=
  ldB (rd h (Addr.add x0 6)) (fun b1 => K (.bool b1) h)
theorem Ek3 (S : Stop) (x0 : Addr) (h : Heap) (K : Value → Heap → Prop) :
    (E Try.prog X T S (sub body [1, 1]) (fin Try.prog Try.f36.results.toList K) [(0, (.pointer (some x0)))] h) = Jk3 x0 h K := by kernel_rfl
def wk3 (x0 : Addr) (h : Heap) (K : Value → Heap → Prop) : Prop :=
  Jk3 x0 h K
theorem ek3 (K : Value → Heap → Prop) (x0 : Addr) (h : Heap) : (E Try.prog X T S0 (sub body [1, 1]) (fin Try.prog Try.f36.results.toList K) [(0, (.pointer (some x0)))] h) = wk3 x0 h K :=
  (Ek3 S0 x0 h K).trans (rfl)
def w (x0 : Addr) (h : Heap) (K : Value → Heap → Prop) : Prop :=
  J0 (fun x0 h => wk3 x0 h K) x0 h K
theorem e0 (K : Value → Heap → Prop) (x0 : Addr) (h : Heap) : (E Try.prog X T S0 body (fin Try.prog Try.f36.results.toList K) (args0 0 [(.pointer (some x0))]) h) = w x0 h K :=
  (E0 S0 x0 h K).trans (congrFun (congrFun (congrFun (congrArg J0 (funext fun x0 => funext fun h => ek3 K x0 h)) x0) h) K)
theorem hb : Try.f36.body = some body := by kernel_rfl
theorem ok : okCode T Try.f36.ntmps body = true := by kernel_rfl
theorem spec (x0 : Addr) (h : Heap) (K : Value → Heap → Prop) (H : w x0 h K) : CallsH Try.prog 36 [(.pointer (some x0))] h K :=
  calls_of_E (T := T) Xok mix Try.func36 hb ok rfl (by rw [e0]; exact H)
end F36
-- (*spinney/cache.Act).Done
namespace F37
def T : Hint := ⟨[], []⟩
noncomputable def body : Code := (Try.f37.body).getD .skip
def J0 (x0 : Addr) (h : Heap) (K : Value → Heap → Prop) : Prop :=
  ldB (rd h (Addr.add x0 6)) (fun b1 => K (.bool b1) h)
theorem E0 (S : Stop) (x0 : Addr) (h : Heap) (K : Value → Heap → Prop) :
    (E Try.prog X T S body (fin Try.prog Try.f37.results.toList K) (args0 0 [(.pointer (some x0))]) h) = J0 x0 h K := by kernel_rfl
def w (x0 : Addr) (h : Heap) (K : Value → Heap → Prop) : Prop :=
  J0 x0 h K
theorem e0 (K : Value → Heap → Prop) (x0 : Addr) (h : Heap) : (E Try.prog X T S0 body (fin Try.prog Try.f37.results.toList K) (args0 0 [(.pointer (some x0))]) h) = w x0 h K :=
  (E0 S0 x0 h K).trans (rfl)
theorem hb : Try.f37.body = some body := by kernel_rfl
theorem ok : okCode T Try.f37.ntmps body = true := by kernel_rfl
theorem spec (x0 : Addr) (h : Heap) (K : Value → Heap → Prop) (H : w x0 h K) : CallsH Try.prog 37 [(.pointer (some x0))] h K :=
  calls_of_E (T := T) Xok mix Try.func37 hb ok rfl (by rw [e0]; exact H)
end F37
-- (*spinney/cache.Act).Got
namespace F38
def T : Hint := ⟨[], []⟩
noncomputable def body : Code := (Try.f38.body).getD .skip
def J0 (x0 : Addr) (h : Heap) (K : Value → Heap → Prop) : Prop :=
  ldB (rd h (Addr.add x0 6)) (fun b1 => bcase (!b1) (K (.tuple #[(.int .u64 (0 : Int)), (.bool false)]) h) (ldB (rd h (Addr.add x0 7)) (fun b2 => bcase (!b2) (K (.tuple #[(.int .u64 (0 : Int)), (.bool false)]) h) (ldI .u64 (rd h (Addr.add x0 8)) (fun n3 => K (.tuple #[(.int .u64 n3), (.bool true)]) h)))))
theorem E0 (S : Stop) (x0 : Addr) (h : Heap) (K : Value → Heap → Prop) :
    (E Try.prog X T S body (fin Try.prog Try.f38.results.toList K) (args0 0 [(.pointer (some x0))]) h) = J0 x0 h K := by kernel_rfl
def w (x0 : Addr) (h : Heap) (K : Value → Heap → Prop) : Prop :=
  J0 x0 h K
theorem e0 (K : Value → Heap → Prop) (x0 : Addr) (h : Heap) : (E Try.prog X T S0 body (fin Try.prog Try.f38.results.toList K) (args0 0 [(.pointer (some x0))]) h) = w x0 h K :=
  (E0 S0 x0 h K).trans (rfl)
theorem hb : Try.f38.body = some body := by kernel_rfl
theorem ok : okCode T Try.f38.ntmps body = true := by kernel_rfl
theorem spec (x0 : Addr) (h : Heap) (K : Value → Heap → Prop) (H : w x0 h K) : CallsH Try.prog 38 [(.pointer (some x0))] h K :=
  calls_of_E (T := T) Xok mix Try.func38 hb ok rfl (by rw [e0]; exact H)
end F38
-- (*spinney/cache.Cache).Clear
namespace F33
def T : Hint := ⟨[(1, [0, 8, 9])], []⟩
noncomputable def body : Code := (Try.f33.body).getD .skip
def c0 (_S : Stop) (K : Value → Heap → Prop) : Exit → Fr → Heap → Prop := blockN 0 (fin Try.prog Try.f33.results.toList K)
def c1 (S : Stop) (n1 : Nat) (K : Value → Heap → Prop) : Exit → Fr → Heap → Prop := backN S (cutQ T (sub body [1, 0, 0])) (loopN S (E Try.prog X T S (sub body [1, 0, 0])) (cutQ T (sub body [1, 0, 0])) (c0 S K) n1) (c0 S K)
def J0 (k1 : Addr → Int → Int → Heap → Prop) (x0 : Addr) (h : Heap) (_K : Value → Heap → Prop) : Prop :=
  ldI .i64 (rd h (Addr.add x0 2)) (fun n1 => k1 x0 n1 (0 : Int) h)
theorem E0 (S : Stop) (x0 : Addr) (h : Heap) (K : Value → Heap → Prop) :
    (E Try.prog X T S body (fin Try.prog Try.f33.results.toList K) (args0 0 [(.pointer (some x0))]) h) = J0 (fun x0 x8 x9 h => S (E Try.prog X T S (sub body [1]) (fin Try.prog Try.f33.results.toList K)) [(0, (.pointer (some x0))), (8, (.int .i64 x8)), (9, (.int .i64 x9))] h) x0 h K := by kernel_rfl
def Jk1 (lp1 : Addr → Int → Int → Heap → Prop) (x0 : Addr) (x8 : Int) (x9 : Int) (h : Heap) (_K : Value → Heap → Prop) : Prop :=
  lp1 x0 x8 x9 h
theorem Ek1 (S : Stop) (x0 : Addr) (x8 : Int) (x9 : Int) (h : Heap) (K : Value → Heap → Prop) :
    (E Try.prog X T S (sub body [1]) (fin Try.prog Try.f33.results.toList K) [(0, (.pointer (some x0))), (8, (.int .i64 x8)), (9, (.int .i64 x9))] h) = Jk1 (fun x0 x8 x9 h => ∃ n, S (loopN S (E Try.prog X T S (sub body [1, 0, 0])) (cutQ T (sub body [1, 0, 0])) (c0 S K) n) [(0, (.pointer (some x0))), (8, (.int .i64 x8)), (9, (.int .i64 x9))] h) x0 x8 x9 h K := by kernel_rfl
def JL1 (bk1 : Addr → Int → Int → Heap → Prop) (x0 : Addr) (x8 : Int) (x9 : Int) (h : Heap) (K : Value → Heap → Prop) : Prop :=
  bcase (decide (x9 < x8)) (ldI .i64 (rd h (Addr.add x0 1)) (fun n1 => ldP (rd h (Addr.add x0 0)) (fun p2 => CallsH Try.prog 35 [(.pointer p2), (.int .i64 (IntKind.wrap .i64 (n1 + (IntKind.wrap .i64 ((3 : Int) * x9)))))] h (fun v3 h4 => ldI .u64 (some v3) (fun n5 => bcase ((bitsI .and .u64 n5 (1 : Int)) == (0 : Int)) (bcase (n5 != (0 : Int)) (ldP (rd h4 (Addr.add x0 0)) (fun p6 => CallsH Try.prog 46 [(.pointer p6), (.int .i64 (IntKind.wrap .i64 (n1 + (IntKind.wrap .i64 ((3 : Int) * x9))))), (.int .u64 n5), (.int .u64 (IntKind.wrap .u64 ((bitsI .andNot .u64 n5 (2 : Int)) + (4 : Int))))] h4 (fun v7 h8 => ldB (some v7) (fun _ => bk1 x0 x8 (IntKind.wrap .i64 (x9 + (1 : Int))) h8)))) (bk1 x0 x8 (IntKind.wrap .i64 (x9 + (1 : Int))) h4)) (bk1 x0 x8 (IntKind.wrap .i64 (x9 + (1 : Int))) h4)))))) (K (.tuple #[]) h)
theorem EL1 (S : Stop) (n1 : Nat) (x0 : Addr) (x8 : Int) (x9 : Int) (h : Heap) (K : Value → Heap → Prop) :
    (E Try.prog X T S (sub body [1, 0, 0]) (c1 S n1 K) [(0, (.pointer (some x0))), (8, (.int .i64 x8)), (9, (.int .i64 x9))] h) = JL1 (fun x0 x8 x9 h => S (loopN S (E Try.prog X T S (sub body [1, 0, 0])) (cutQ T (sub body [1, 0, 0])) (c0 S K) n1) [(0, (.pointer (some x0))), (8, (.int .i64 x8)), (9, (.int .i64 x9))] h) x0 x8 x9 h K := by kernel_rfl
def wL1 : Nat → Addr → Int → Int → Heap → (Value → Heap → Prop) → Prop
  | 0, _, _, _, _, _ => False
  | n + 1, x0, x8, x9, h, K => JL1 (fun x0 x8 x9 h => wL1 n x0 x8 x9 h K) x0 x8 x9 h K
theorem eL1 (K : Value → Heap → Prop) : ∀ (n : Nat) (x0 : Addr) (x8 : Int) (x9 : Int) (h : Heap), (loopN S0 (E Try.prog X T S0 (sub body [1, 0, 0])) (cutQ T (sub body [1, 0, 0])) (c0 S0 K) n [(0, (.pointer (some x0))), (8, (.int .i64 x8)), (9, (.int .i64 x9))] h) = wL1 n x0 x8 x9 h K
  | 0, _, _, _, _ => rfl
  | n + 1, x0, x8, x9, h => (EL1 S0 n x0 x8 x9 h K).trans (congrFun (congrFun (congrFun (congrFun (congrFun (congrArg JL1 (funext fun x0 => funext fun x8 => funext fun x9 => funext fun h => (fun x0 x8 x9 h => eL1 K n x0 x8 x9 h) x0 x8 x9 h)) x0) x8) x9) h) K)
def wk1 (x0 : Addr) (x8 : Int) (x9 : Int) (h : Heap) (K : Value → Heap → Prop) : Prop :=
  Jk1 (fun x0 x8 x9 h => ∃ n, wL1 n x0 x8 x9 h K) x0 x8 x9 h K
theorem ek1 (K : Value → Heap → Prop) (x0 : Addr) (x8 : Int) (x9 : Int) (h : Heap) : (E Try.prog X T S0 (sub body [1]) (fin Try.prog Try.f33.results.toList K) [(0, (.pointer (some x0))), (8, (.int .i64 x8)), (9, (.int .i64 x9))] h) = wk1 x0 x8 x9 h K :=
  (Ek1 S0 x0 x8 x9 h K).trans (congrFun (congrFun (congrFun (congrFun (congrFun (congrArg Jk1 (funext fun x0 => funext fun x8 => funext fun x9 => funext fun h => congrArg (fun p : Nat → Prop => ∃ n, p n) (funext fun n => eL1 K n x0 x8 x9 h))) x0) x8) x9) h) K)
def w (x0 : Addr) (h : Heap) (K : Value → Heap → Prop) : Prop :=
  J0 (fun x0 x8 x9 h => wk1 x0 x8 x9 h K) x0 h K
theorem e0 (K : Value → Heap → Prop) (x0 : Addr) (h : Heap) : (E Try.prog X T S0 body (fin Try.prog Try.f33.results.toList K) (args0 0 [(.pointer (some x0))]) h) = w x0 h K :=
  (E0 S0 x0 h K).trans (congrFun (congrFun (congrFun (congrArg J0 (funext fun x0 => funext fun x8 => funext fun x9 => funext fun h => ek1 K x0 x8 x9 h)) x0) h) K)
theorem hb : Try.f33.body = some body := by kernel_rfl
theorem ok : okCode T Try.f33.ntmps body = true := by kernel_rfl
theorem spec (x0 : Addr) (h : Heap) (K : Value → Heap → Prop) (H : w x0 h K) : CallsH Try.prog 33 [(.pointer (some x0))] h K :=
  calls_of_E (T := T) Xok mix Try.func33 hb ok rfl (by rw [e0]; exact H)
end F33
end Go.Proofs.Ytbjdjgdbkfjglaa.Ev
