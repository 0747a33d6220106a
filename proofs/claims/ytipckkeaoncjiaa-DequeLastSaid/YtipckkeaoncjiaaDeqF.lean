/- PRINTED BY PROGRAM: what each of these functions does, computed over heaps by the evaluator, and that its calls do so. Conditions: none. -/
import Derived.Test.YtipckkeaoncjiaaMemF3
namespace Go.Proofs.Ytipckkeaoncjiaa.Ev
open Go
-- spinney/deque.Cells
namespace F13
def T : Hint := ⟨[], []⟩
noncomputable def body : Code := (Try.f13.body).getD .skip
def J0 (x0 : Int) (h : Heap) (K : Value → Heap → Prop) : Prop :=
  bcase (decide (x0 < (1 : Int))) (K (.int .i64 (0 : Int)) h) (K (.int .i64 (IntKind.wrap .i64 (x0 + (2 : Int)))) h)
theorem E0 (S : Stop) (x0 : Int) (h : Heap) (K : Value → Heap → Prop) :
    (E Try.prog X T S body (fin Try.prog Try.f13.results.toList K) (args0 0 [(.int .i64 x0)]) h) = J0 x0 h K := by kernel_rfl
def w (x0 : Int) (h : Heap) (K : Value → Heap → Prop) : Prop :=
  J0 x0 h K
theorem e0 (K : Value → Heap → Prop) (x0 : Int) (h : Heap) : (E Try.prog X T S0 body (fin Try.prog Try.f13.results.toList K) (args0 0 [(.int .i64 x0)]) h) = w x0 h K :=
  (E0 S0 x0 h K).trans (rfl)
theorem hb : Try.f13.body = some body := by kernel_rfl
theorem ok : okCode T Try.f13.ntmps body = true := by kernel_rfl
theorem spec (x0 : Int) (h : Heap) (K : Value → Heap → Prop) (H : w x0 h K) : CallsH Try.prog 13 [(.int .i64 x0)] h K :=
  calls_of_E (T := T) Xok mix Try.func13 hb ok rfl (by rw [e0]; exact H)
end F13
-- spinney/deque.New
namespace F14
def T : Hint := ⟨[], []⟩
noncomputable def body : Code := (Try.f14.body).getD .skip
def J0 (x0 : Addr) (x1 : Int) (x2 : Int) (h : Heap) (K : Value → Heap → Prop) : Prop :=
  bcase (decide (x1 < (0 : Int))) (K (.tuple #[(.pointer none), (.int .i64 (61 : Int))]) h) (bcase (decide (x2 < (1 : Int))) (K (.tuple #[(.pointer none), (.int .i64 (61 : Int))]) h) (bcase (decide (x2 > (256 : Int))) (K (.tuple #[(.pointer none), (.int .i64 (61 : Int))]) h) (CallsH Try.prog 38 [(.pointer (some x0))] h (fun v1 h2 => ldI .i64 (some v1) (fun n3 => bcase (decide (x1 > n3)) (K (.tuple #[(.pointer none), (.int .i64 (61 : Int))]) h2) (CallsH Try.prog 13 [(.int .i64 x2)] h2 (fun v4 h5 => ldI .i64 (some v4) (fun n6 => CallsH Try.prog 38 [(.pointer (some x0))] h5 (fun v7 h8 => ldI .i64 (some v7) (fun n9 => bcase (decide (n6 > (IntKind.wrap .i64 (n9 - x1)))) (K (.tuple #[(.pointer none), (.int .i64 (61 : Int))]) h8) (newK h8 (.cells #[(.pointer (some x0)), (.int .i64 x1), (.int .i64 x2)] 86) (fun b10 h11 => K (.tuple #[(.pointer (some (Addr.mk b10 0 none))), (.int .i64 (0 : Int))]) h11))))))))))))
theorem E0 (S : Stop) (x0 : Addr) (x1 : Int) (x2 : Int) (h : Heap) (K : Value → Heap → Prop) :
    (E Try.prog X T S body (fin Try.prog Try.f14.results.toList K) (args0 0 [(.pointer (some x0)), (.int .i64 x1), (.int .i64 x2)]) h) = J0 x0 x1 x2 h K := by kernel_rfl
def w (x0 : Addr) (x1 : Int) (x2 : Int) (h : Heap) (K : Value → Heap → Prop) : Prop :=
  J0 x0 x1 x2 h K
theorem e0 (K : Value → Heap → Prop) (x0 : Addr) (x1 : Int) (x2 : Int) (h : Heap) : (E Try.prog X T S0 body (fin Try.prog Try.f14.results.toList K) (args0 0 [(.pointer (some x0)), (.int .i64 x1), (.int .i64 x2)]) h) = w x0 x1 x2 h K :=
  (E0 S0 x0 x1 x2 h K).trans (rfl)
theorem hb : Try.f14.body = some body := by kernel_rfl
theorem ok : okCode T Try.f14.ntmps body = true := by kernel_rfl
theorem spec (x0 : Addr) (x1 : Int) (x2 : Int) (h : Heap) (K : Value → Heap → Prop) (H : w x0 x1 x2 h K) : CallsH Try.prog 14 [(.pointer (some x0)), (.int .i64 x1), (.int .i64 x2)] h K :=
  calls_of_E (T := T) Xok mix Try.func14 hb ok rfl (by rw [e0]; exact H)
end F14
-- (*spinney/deque.Deque).load
namespace F43
def T : Hint := ⟨[], [(1, [[(0, []), (1, []), (2, []), (3, []), (4, []), (5, []), (6, []), (7, []), (8, []), (9, []), (10, []), (11, []), (12, [])]])]⟩
noncomputable def body : Code := (Try.f43.body).getD .skip
def J0 (x0 : Addr) (x1 : Int) (h : Heap) (K : Value → Heap → Prop) : Prop :=
  ldP (rd h (Addr.add x0 0)) (fun p1 => ldI .i64 (rd h (Addr.add x0 1)) (fun n2 => CallsH Try.prog 21 [(.pointer p1), (.int .i64 (IntKind.wrap .i64 (n2 + x1)))] h (fun v3 h4 => ldI .u64 (some v3) (fun n5 => K (.int .i64 (IntKind.wrap .i64 n5)) h4))))
theorem E0 (S : Stop) (x0 : Addr) (x1 : Int) (h : Heap) (K : Value → Heap → Prop) :
    (E Try.prog X T S body (fin Try.prog Try.f43.results.toList K) (args0 0 [(.pointer (some x0)), (.int .i64 x1)]) h) = J0 x0 x1 h K := by kernel_rfl
def w (x0 : Addr) (x1 : Int) (h : Heap) (K : Value → Heap → Prop) : Prop :=
  J0 x0 x1 h K
theorem e0 (K : Value → Heap → Prop) (x0 : Addr) (x1 : Int) (h : Heap) : (E Try.prog X T S0 body (fin Try.prog Try.f43.results.toList K) (args0 0 [(.pointer (some x0)), (.int .i64 x1)]) h) = w x0 x1 h K :=
  (E0 S0 x0 x1 h K).trans (rfl)
theorem hb : Try.f43.body = some body := by kernel_rfl
theorem ok : okCode T Try.f43.ntmps body = true := by kernel_rfl
theorem spec (x0 : Addr) (x1 : Int) (h : Heap) (K : Value → Heap → Prop) (H : w x0 x1 h K) : CallsH Try.prog 43 [(.pointer (some x0)), (.int .i64 x1)] h K :=
  calls_of_E (T := T) Xok mix Try.func43 hb ok rfl (by rw [e0]; exact H)
end F43
-- (*spinney/deque.Deque).value
namespace F87
def T : Hint := ⟨[], [(1, [[(0, []), (1, []), (2, []), (3, []), (4, []), (5, []), (6, []), (7, []), (8, []), (9, []), (10, []), (11, []), (12, [])]])]⟩
noncomputable def body : Code := (Try.f87.body).getD .skip
def J0 (x0 : Addr) (x1 : Int) (h : Heap) (K : Value → Heap → Prop) : Prop :=
  ldI .i64 (rd h (Addr.add x0 1)) (fun n1 => ldI .i64 (rd h (Addr.add x0 2)) (fun n2 => (n2 ≠ 0 ∧ K (.int .i64 (IntKind.wrap .i64 ((IntKind.wrap .i64 (n1 + (2 : Int))) + (Int.tmod x1 n2)))) h)))
theorem E0 (S : Stop) (x0 : Addr) (x1 : Int) (h : Heap) (K : Value → Heap → Prop) :
    (E Try.prog X T S body (fin Try.prog Try.f87.results.toList K) (args0 0 [(.pointer (some x0)), (.int .i64 x1)]) h) = J0 x0 x1 h K := by kernel_rfl
def w (x0 : Addr) (x1 : Int) (h : Heap) (K : Value → Heap → Prop) : Prop :=
  J0 x0 x1 h K
theorem e0 (K : Value → Heap → Prop) (x0 : Addr) (x1 : Int) (h : Heap) : (E Try.prog X T S0 body (fin Try.prog Try.f87.results.toList K) (args0 0 [(.pointer (some x0)), (.int .i64 x1)]) h) = w x0 x1 h K :=
  (E0 S0 x0 x1 h K).trans (rfl)
theorem hb : Try.f87.body = some body := by kernel_rfl
theorem ok : okCode T Try.f87.ntmps body = true := by kernel_rfl
theorem spec (x0 : Addr) (x1 : Int) (h : Heap) (K : Value → Heap → Prop) (H : w x0 x1 h K) : CallsH Try.prog 87 [(.pointer (some x0)), (.int .i64 x1)] h K :=
  calls_of_E (T := T) Xok mix Try.func87 hb ok rfl (by rw [e0]; exact H)
end F87
-- (*spinney/deque.Act).ends
namespace F71
def T : Hint := ⟨[], []⟩
noncomputable def body : Code := (Try.f71.body).getD .skip
def J0 (x0 : Addr) (x1 : Bool) (h : Heap) (K : Value → Heap → Prop) : Prop :=
  stK h (Addr.add (Addr.add x0 5) 0) (.bool true) (fun h1 => stK h1 (Addr.add (Addr.add x0 6) 0) (.bool x1) (fun h2 => K (.tuple #[]) h2))
theorem E0 (S : Stop) (x0 : Addr) (x1 : Bool) (h : Heap) (K : Value → Heap → Prop) :
    (E Try.prog X T S body (fin Try.prog Try.f71.results.toList K) (args0 0 [(.pointer (some x0)), (.bool x1)]) h) = J0 x0 x1 h K := by kernel_rfl
def w (x0 : Addr) (x1 : Bool) (h : Heap) (K : Value → Heap → Prop) : Prop :=
  J0 x0 x1 h K
theorem e0 (K : Value → Heap → Prop) (x0 : Addr) (x1 : Bool) (h : Heap) : (E Try.prog X T S0 body (fin Try.prog Try.f71.results.toList K) (args0 0 [(.pointer (some x0)), (.bool x1)]) h) = w x0 x1 h K :=
  (E0 S0 x0 x1 h K).trans (rfl)
theorem hb : Try.f71.body = some body := by kernel_rfl
theorem ok : okCode T Try.f71.ntmps body = true := by kernel_rfl
theorem spec (x0 : Addr) (x1 : Bool) (h : Heap) (K : Value → Heap → Prop) (H : w x0 x1 h K) : CallsH Try.prog 71 [(.pointer (some x0)), (.bool x1)] h K :=
  calls_of_E (T := T) Xok mix Try.func71 hb ok rfl (by rw [e0]; exact H)
end F71
-- (*spinney/deque.Act).pushes
namespace F40
def T : Hint := ⟨[], []⟩
noncomputable def body : Code := (Try.f40.body).getD .skip
def J0 (x0 : Addr) (h : Heap) (K : Value → Heap → Prop) : Prop :=
  ldP (rd h (Addr.add x0 0)) (fun p1 => CallsH Try.prog 43 [(.pointer p1), (.int .i64 (1 : Int))] h (fun v2 h3 => ldI .i64 (some v2) (fun n4 => stK h3 (Addr.add (Addr.add x0 3) 0) (.int .i64 n4) (fun h5 => stK h5 (Addr.add (Addr.add x0 4) 0) (.func (.func 58) #[(.pointer (some x0))] #[]) (fun h6 => K (.tuple #[]) h6)))))
theorem E0 (S : Stop) (x0 : Addr) (h : Heap) (K : Value → Heap → Prop) :
    (E Try.prog X T S body (fin Try.prog Try.f40.results.toList K) (args0 0 [(.pointer (some x0))]) h) = J0 x0 h K := by kernel_rfl
def w (x0 : Addr) (h : Heap) (K : Value → Heap → Prop) : Prop :=
  J0 x0 h K
theorem e0 (K : Value → Heap → Prop) (x0 : Addr) (h : Heap) : (E Try.prog X T S0 body (fin Try.prog Try.f40.results.toList K) (args0 0 [(.pointer (some x0))]) h) = w x0 h K :=
  (E0 S0 x0 h K).trans (rfl)
theorem hb : Try.f40.body = some body := by kernel_rfl
theorem ok : okCode T Try.f40.ntmps body = true := by kernel_rfl
theorem spec (x0 : Addr) (h : Heap) (K : Value → Heap → Prop) (H : w x0 h K) : CallsH Try.prog 40 [(.pointer (some x0))] h K :=
  calls_of_E (T := T) Xok mix Try.func40 hb ok rfl (by rw [e0]; exact H)
end F40
-- (*spinney/deque.Act).pushHasRoom
namespace F58
def T : Hint := ⟨[], [(2, [[(0, []), (1, []), (2, []), (3, []), (4, []), (5, []), (6, []), (7, []), (8, []), (9, []), (10, []), (11, []), (12, []), (13, []), (14, []), (15, []), (16, [])]])]⟩
noncomputable def body : Code := (Try.f58.body).getD .skip
def J0 (x0 : Addr) (h : Heap) (K : Value → Heap → Prop) : Prop :=
  ldP (rd h (Addr.add x0 0)) (fun p1 => CallsH Try.prog 43 [(.pointer p1), (.int .i64 (0 : Int))] h (fun v2 h3 => ldI .i64 (some v2) (fun n4 => stK h3 (Addr.add (Addr.add x0 2) 0) (.int .i64 n4) (fun h5 => stK h5 (Addr.add (Addr.add x0 4) 0) (.func (.func 70) #[(.pointer (some x0))] #[]) (fun h6 => ldI .i64 (rd h6 (Addr.add x0 3)) (fun n7 => ldI .i64 (rd h6 (Addr.add x0 2)) (fun n8 => ldP (rd h6 (Addr.add x0 0)) (fun p9 => ptrK p9 (fun a10 => ldI .i64 (rd h6 (Addr.add a10 2)) (fun n11 => bcase (decide ((IntKind.wrap .i64 (n7 - n8)) ≥ n11)) (CallsH Try.prog 71 [(.pointer (some x0)), (.bool false)] h6 (fun v12 h13 => (v12 = (.tuple #[]) ∧ K (.tuple #[]) h13))) (K (.tuple #[]) h6)))))))))))
theorem E0 (S : Stop) (x0 : Addr) (h : Heap) (K : Value → Heap → Prop) :
    (E Try.prog X T S body (fin Try.prog Try.f58.results.toList K) (args0 0 [(.pointer (some x0))]) h) = J0 x0 h K := by kernel_rfl
def w (x0 : Addr) (h : Heap) (K : Value → Heap → Prop) : Prop :=
  J0 x0 h K
theorem e0 (K : Value → Heap → Prop) (x0 : Addr) (h : Heap) : (E Try.prog X T S0 body (fin Try.prog Try.f58.results.toList K) (args0 0 [(.pointer (some x0))]) h) = w x0 h K :=
  (E0 S0 x0 h K).trans (rfl)
theorem hb : Try.f58.body = some body := by kernel_rfl
theorem ok : okCode T Try.f58.ntmps body = true := by kernel_rfl
theorem spec (x0 : Addr) (h : Heap) (K : Value → Heap → Prop) (H : w x0 h K) : CallsH Try.prog 58 [(.pointer (some x0))] h K :=
  calls_of_E (T := T) Xok mix Try.func58 hb ok rfl (by rw [e0]; exact H)
end F58
-- (*spinney/deque.Act).pushLays
namespace F70
def T : Hint := ⟨[], [(0, [[(0, []), (1, []), (2, []), (3, []), (4, []), (5, []), (6, []), (7, []), (8, []), (9, []), (10, []), (11, []), (12, []), (13, []), (14, []), (16, []), (17, []), (18, []), (19, []), (15, [0, 1, 2, 3, 4, 5, 6, 16, 17, 18, 19]), (20, [])]])]⟩
noncomputable def body : Code := (Try.f70.body).getD .skip
def J0 (x0 : Addr) (h : Heap) (K : Value → Heap → Prop) : Prop :=
  ldP (rd h (Addr.add x0 0)) (fun p1 => ptrK p1 (fun a2 => ldP (rd h (Addr.add a2 0)) (fun p3 => ldP (rd h (Addr.add x0 0)) (fun p4 => ldI .i64 (rd h (Addr.add x0 3)) (fun n5 => ldI .u64 (rd h (Addr.add x0 1)) (fun n6 => CallsH Try.prog 87 [(.pointer p4), (.int .i64 n5)] h (fun v7 h8 => ldI .i64 (some v7) (fun n9 => ((.pointer (some x0)) = ((.pointer (some x0)) : Value) ∧ ((.pointer (some x0)) = ((.pointer (some x0)) : Value) ∧ ((.pointer (some (Addr.add x0 0))) = ((.pointer (some (Addr.add x0 0))) : Value) ∧ ldP (rd h8 (Addr.add x0 0)) (fun p10 => ((.pointer p10) = ((.pointer p1) : Value) ∧ ptrK p1 (fun a11 => ((.pointer (some a11)) = ((.pointer (some a2)) : Value) ∧ ((.pointer (some (Addr.add a2 0))) = ((.pointer (some (Addr.add a2 0))) : Value) ∧ ldP (rd h8 (Addr.add a2 0)) (fun p12 => ((.pointer p12) = ((.pointer p3) : Value) ∧ ((.pointer (some x0)) = ((.pointer (some x0)) : Value) ∧ ((.pointer (some x0)) = ((.pointer (some x0)) : Value) ∧ ((.pointer (some (Addr.add x0 1))) = ((.pointer (some (Addr.add x0 1))) : Value) ∧ ldI .u64 (rd h8 (Addr.add x0 1)) (fun n13 => ((.int .u64 n13) = ((.int .u64 n6) : Value) ∧ CallsH Try.prog 20 [(.pointer p3), (.int .i64 n9), (.int .u64 n6)] h8 (fun v14 h15 => (v14 = (.tuple #[]) ∧ stK h15 (Addr.add (Addr.add x0 4) 0) (.func (.func 88) #[(.pointer (some x0))] #[]) (fun h16 => K (.tuple #[]) h16))))))))))))))))))))))))))
theorem E0 (S : Stop) (x0 : Addr) (h : Heap) (K : Value → Heap → Prop) :
    (E Try.prog X T S body (fin Try.prog Try.f70.results.toList K) (args0 0 [(.pointer (some x0))]) h) = J0 x0 h K := by kernel_rfl
def w (x0 : Addr) (h : Heap) (K : Value → Heap → Prop) : Prop :=
  J0 x0 h K
theorem e0 (K : Value → Heap → Prop) (x0 : Addr) (h : Heap) : (E Try.prog X T S0 body (fin Try.prog Try.f70.results.toList K) (args0 0 [(.pointer (some x0))]) h) = w x0 h K :=
  (E0 S0 x0 h K).trans (rfl)
theorem hb : Try.f70.body = some body := by kernel_rfl
theorem ok : okCode T Try.f70.ntmps body = true := by kernel_rfl
theorem spec (x0 : Addr) (h : Heap) (K : Value → Heap → Prop) (H : w x0 h K) : CallsH Try.prog 70 [(.pointer (some x0))] h K :=
  calls_of_E (T := T) Xok mix Try.func70 hb ok rfl (by rw [e0]; exact H)
end F70
-- (*spinney/deque.Act).pushShows
namespace F88
def T : Hint := ⟨[], [(0, [[(0, []), (1, []), (2, []), (3, []), (4, []), (5, []), (6, []), (7, []), (8, []), (9, []), (10, []), (11, []), (12, []), (13, []), (14, []), (15, []), (16, []), (17, []), (18, []), (19, []), (20, []), (21, [])]])]⟩
noncomputable def body : Code := (Try.f88.body).getD .skip
def J0 (x0 : Addr) (h : Heap) (K : Value → Heap → Prop) : Prop :=
  ldP (rd h (Addr.add x0 0)) (fun p1 => ptrK p1 (fun a2 => ldP (rd h (Addr.add a2 0)) (fun p3 => ldP (rd h (Addr.add x0 0)) (fun p4 => ptrK p4 (fun a5 => ldI .i64 (rd h (Addr.add a5 1)) (fun n6 => ldI .i64 (rd h (Addr.add x0 3)) (fun n7 => CallsH Try.prog 20 [(.pointer p3), (.int .i64 (IntKind.wrap .i64 (n6 + (1 : Int)))), (.int .u64 (IntKind.wrap .u64 (IntKind.wrap .i64 (n7 + (1 : Int)))))] h (fun v8 h9 => (v8 = (.tuple #[]) ∧ CallsH Try.prog 71 [(.pointer (some x0)), (.bool true)] h9 (fun v10 h11 => (v10 = (.tuple #[]) ∧ K (.tuple #[]) h11)))))))))))
theorem E0 (S : Stop) (x0 : Addr) (h : Heap) (K : Value → Heap → Prop) :
    (E Try.prog X T S body (fin Try.prog Try.f88.results.toList K) (args0 0 [(.pointer (some x0))]) h) = J0 x0 h K := by kernel_rfl
def w (x0 : Addr) (h : Heap) (K : Value → Heap → Prop) : Prop :=
  J0 x0 h K
theorem e0 (K : Value → Heap → Prop) (x0 : Addr) (h : Heap) : (E Try.prog X T S0 body (fin Try.prog Try.f88.results.toList K) (args0 0 [(.pointer (some x0))]) h) = w x0 h K :=
  (E0 S0 x0 h K).trans (rfl)
theorem hb : Try.f88.body = some body := by kernel_rfl
theorem ok : okCode T Try.f88.ntmps body = true := by kernel_rfl
theorem spec (x0 : Addr) (h : Heap) (K : Value → Heap → Prop) (H : w x0 h K) : CallsH Try.prog 88 [(.pointer (some x0))] h K :=
  calls_of_E (T := T) Xok mix Try.func88 hb ok rfl (by rw [e0]; exact H)
end F88
-- (*spinney/deque.Act).pops
namespace F41
def T : Hint := ⟨[], []⟩
noncomputable def body : Code := (Try.f41.body).getD .skip
def J0 (x0 : Addr) (h : Heap) (K : Value → Heap → Prop) : Prop :=
  ldP (rd h (Addr.add x0 0)) (fun p1 => CallsH Try.prog 43 [(.pointer p1), (.int .i64 (1 : Int))] h (fun v2 h3 => ldI .i64 (some v2) (fun n4 => stK h3 (Addr.add (Addr.add x0 3) 0) (.int .i64 (IntKind.wrap .i64 (n4 - (1 : Int)))) (fun h5 => stK h5 (Addr.add (Addr.add x0 4) 0) (.func (.func 59) #[(.pointer (some x0))] #[]) (fun h6 => K (.tuple #[]) h6)))))
theorem E0 (S : Stop) (x0 : Addr) (h : Heap) (K : Value → Heap → Prop) :
    (E Try.prog X T S body (fin Try.prog Try.f41.results.toList K) (args0 0 [(.pointer (some x0))]) h) = J0 x0 h K := by kernel_rfl
def w (x0 : Addr) (h : Heap) (K : Value → Heap → Prop) : Prop :=
  J0 x0 h K
theorem e0 (K : Value → Heap → Prop) (x0 : Addr) (h : Heap) : (E Try.prog X T S0 body (fin Try.prog Try.f41.results.toList K) (args0 0 [(.pointer (some x0))]) h) = w x0 h K :=
  (E0 S0 x0 h K).trans (rfl)
theorem hb : Try.f41.body = some body := by kernel_rfl
theorem ok : okCode T Try.f41.ntmps body = true := by kernel_rfl
theorem spec (x0 : Addr) (h : Heap) (K : Value → Heap → Prop) (H : w x0 h K) : CallsH Try.prog 41 [(.pointer (some x0))] h K :=
  calls_of_E (T := T) Xok mix Try.func41 hb ok rfl (by rw [e0]; exact H)
end F41
-- (*spinney/deque.Act).popHides
namespace F59
def T : Hint := ⟨[], [(0, [[(0, []), (1, []), (2, []), (3, []), (4, []), (5, []), (6, []), (7, []), (8, []), (9, []), (10, []), (11, []), (12, []), (13, []), (14, []), (15, []), (16, []), (17, []), (18, []), (19, []), (20, [])]])]⟩
noncomputable def body : Code := (Try.f59.body).getD .skip
def J0 (x0 : Addr) (h : Heap) (K : Value → Heap → Prop) : Prop :=
  ldP (rd h (Addr.add x0 0)) (fun p1 => ptrK p1 (fun a2 => ldP (rd h (Addr.add a2 0)) (fun p3 => ldP (rd h (Addr.add x0 0)) (fun p4 => ptrK p4 (fun a5 => ldI .i64 (rd h (Addr.add a5 1)) (fun n6 => ldI .i64 (rd h (Addr.add x0 3)) (fun n7 => CallsH Try.prog 20 [(.pointer p3), (.int .i64 (IntKind.wrap .i64 (n6 + (1 : Int)))), (.int .u64 (IntKind.wrap .u64 n7))] h (fun v8 h9 => (v8 = (.tuple #[]) ∧ stK h9 (Addr.add (Addr.add x0 4) 0) (.func (.func 72) #[(.pointer (some x0))] #[]) (fun h10 => K (.tuple #[]) h10))))))))))
theorem E0 (S : Stop) (x0 : Addr) (h : Heap) (K : Value → Heap → Prop) :
    (E Try.prog X T S body (fin Try.prog Try.f59.results.toList K) (args0 0 [(.pointer (some x0))]) h) = J0 x0 h K := by kernel_rfl
def w (x0 : Addr) (h : Heap) (K : Value → Heap → Prop) : Prop :=
  J0 x0 h K
theorem e0 (K : Value → Heap → Prop) (x0 : Addr) (h : Heap) : (E Try.prog X T S0 body (fin Try.prog Try.f59.results.toList K) (args0 0 [(.pointer (some x0))]) h) = w x0 h K :=
  (E0 S0 x0 h K).trans (rfl)
theorem hb : Try.f59.body = some body := by kernel_rfl
theorem ok : okCode T Try.f59.ntmps body = true := by kernel_rfl
theorem spec (x0 : Addr) (h : Heap) (K : Value → Heap → Prop) (H : w x0 h K) : CallsH Try.prog 59 [(.pointer (some x0))] h K :=
  calls_of_E (T := T) Xok mix Try.func59 hb ok rfl (by rw [e0]; exact H)
end F59
-- (*spinney/deque.Act).popLooks
namespace F72
def T : Hint := ⟨[], [(2, [[(0, []), (1, []), (2, []), (3, []), (4, []), (5, []), (6, []), (7, []), (8, [])]])]⟩
noncomputable def body : Code := (Try.f72.body).getD .skip
def J0 (x0 : Addr) (h : Heap) (K : Value → Heap → Prop) : Prop :=
  ldP (rd h (Addr.add x0 0)) (fun p1 => CallsH Try.prog 43 [(.pointer p1), (.int .i64 (0 : Int))] h (fun v2 h3 => ldI .i64 (some v2) (fun n4 => stK h3 (Addr.add (Addr.add x0 2) 0) (.int .i64 n4) (fun h5 => stK h5 (Addr.add (Addr.add x0 4) 0) (.func (.func 89) #[(.pointer (some x0))] #[]) (fun h6 => ldI .i64 (rd h6 (Addr.add x0 2)) (fun n7 => ldI .i64 (rd h6 (Addr.add x0 3)) (fun n8 => bcase (decide (n7 > n8)) (stK h6 (Addr.add (Addr.add x0 4) 0) (.func (.func 90) #[(.pointer (some x0))] #[]) (fun h9 => K (.tuple #[]) h9)) (K (.tuple #[]) h6))))))))
theorem E0 (S : Stop) (x0 : Addr) (h : Heap) (K : Value → Heap → Prop) :
    (E Try.prog X T S body (fin Try.prog Try.f72.results.toList K) (args0 0 [(.pointer (some x0))]) h) = J0 x0 h K := by kernel_rfl
def w (x0 : Addr) (h : Heap) (K : Value → Heap → Prop) : Prop :=
  J0 x0 h K
theorem e0 (K : Value → Heap → Prop) (x0 : Addr) (h : Heap) : (E Try.prog X T S0 body (fin Try.prog Try.f72.results.toList K) (args0 0 [(.pointer (some x0))]) h) = w x0 h K :=
  (E0 S0 x0 h K).trans (rfl)
theorem hb : Try.f72.body = some body := by kernel_rfl
theorem ok : okCode T Try.f72.ntmps body = true := by kernel_rfl
theorem spec (x0 : Addr) (h : Heap) (K : Value → Heap → Prop) (H : w x0 h K) : CallsH Try.prog 72 [(.pointer (some x0))] h K :=
  calls_of_E (T := T) Xok mix Try.func72 hb ok rfl (by rw [e0]; exact H)
end F72
-- (*spinney/deque.Act).popReads
namespace F89
def T : Hint := ⟨[], [(0, [[(0, []), (1, []), (2, []), (3, []), (4, []), (5, []), (6, []), (7, []), (8, []), (9, []), (10, []), (11, []), (12, []), (13, []), (14, []), (15, []), (16, [0, 1, 2, 3, 4, 5, 6, 7]), (17, [0]), (18, []), (19, []), (20, [])]]), (1, [[(0, []), (1, []), (2, []), (3, []), (4, []), (5, []), (6, []), (7, []), (8, [])]])]⟩
noncomputable def body : Code := (Try.f89.body).getD .skip
def J0 (x0 : Addr) (h : Heap) (K : Value → Heap → Prop) : Prop :=
  ldP (rd h (Addr.add x0 0)) (fun p1 => ptrK p1 (fun a2 => ldP (rd h (Addr.add a2 0)) (fun p3 => ldP (rd h (Addr.add x0 0)) (fun p4 => ldI .i64 (rd h (Addr.add x0 3)) (fun n5 => CallsH Try.prog 87 [(.pointer p4), (.int .i64 n5)] h (fun v6 h7 => ldI .i64 (some v6) (fun n8 => ((.pointer (some x0)) = ((.pointer (some x0)) : Value) ∧ ((.pointer (some x0)) = ((.pointer (some x0)) : Value) ∧ ((.pointer (some x0)) = ((.pointer (some x0)) : Value) ∧ ((.pointer (some (Addr.add x0 0))) = ((.pointer (some (Addr.add x0 0))) : Value) ∧ ldP (rd h7 (Addr.add x0 0)) (fun p9 => ((.pointer p9) = ((.pointer p1) : Value) ∧ ptrK p1 (fun a10 => ((.pointer (some a10)) = ((.pointer (some a2)) : Value) ∧ ((.pointer (some (Addr.add a2 0))) = ((.pointer (some (Addr.add a2 0))) : Value) ∧ ldP (rd h7 (Addr.add a2 0)) (fun p11 => ((.pointer p11) = ((.pointer p3) : Value) ∧ CallsH Try.prog 21 [(.pointer p3), (.int .i64 n8)] h7 (fun v12 h13 => ldI .u64 (some v12) (fun n14 => ((.pointer (some x0)) = ((.pointer (some x0)) : Value) ∧ stK h13 (Addr.add (Addr.add x0 1) 0) (.int .u64 n14) (fun h15 => ldI .i64 (rd h15 (Addr.add x0 2)) (fun n16 => ldI .i64 (rd h15 (Addr.add x0 3)) (fun n17 => bcase (decide (n16 < n17)) (CallsH Try.prog 71 [(.pointer (some x0)), (.bool true)] h15 (fun v18 h19 => (v18 = (.tuple #[]) ∧ K (.tuple #[]) h19))) (stK h15 (Addr.add (Addr.add x0 4) 0) (.func (.func 99) #[(.pointer (some x0))] #[]) (fun h20 => K (.tuple #[]) h20))))))))))))))))))))))))))
theorem E0 (S : Stop) (x0 : Addr) (h : Heap) (K : Value → Heap → Prop) :
    (E Try.prog X T S body (fin Try.prog Try.f89.results.toList K) (args0 0 [(.pointer (some x0))]) h) = J0 x0 h K := by kernel_rfl
def w (x0 : Addr) (h : Heap) (K : Value → Heap → Prop) : Prop :=
  J0 x0 h K
theorem e0 (K : Value → Heap → Prop) (x0 : Addr) (h : Heap) : (E Try.prog X T S0 body (fin Try.prog Try.f89.results.toList K) (args0 0 [(.pointer (some x0))]) h) = w x0 h K :=
  (E0 S0 x0 h K).trans (rfl)
theorem hb : Try.f89.body = some body := by kernel_rfl
theorem ok : okCode T Try.f89.ntmps body = true := by kernel_rfl
theorem spec (x0 : Addr) (h : Heap) (K : Value → Heap → Prop) (H : w x0 h K) : CallsH Try.prog 89 [(.pointer (some x0))] h K :=
  calls_of_E (T := T) Xok mix Try.func89 hb ok rfl (by rw [e0]; exact H)
end F89
-- (*spinney/deque.Act).popClaims
namespace F99
def T : Hint := ⟨[], [(0, [[(0, []), (1, []), (2, []), (3, []), (4, []), (5, []), (6, []), (7, []), (8, []), (9, []), (10, []), (11, []), (12, []), (13, []), (14, []), (15, []), (16, []), (17, []), (18, []), (19, []), (20, []), (21, []), (22, []), (23, []), (24, []), (25, []), (26, []), (27, [0]), (28, []), (29, []), (30, [])]])]⟩
noncomputable def body : Code := (Try.f99.body).getD .skip
def J0 (x0 : Addr) (h : Heap) (K : Value → Heap → Prop) : Prop :=
  ldP (rd h (Addr.add x0 0)) (fun p1 => ptrK p1 (fun a2 => ldP (rd h (Addr.add a2 0)) (fun p3 => ldP (rd h (Addr.add x0 0)) (fun p4 => ptrK p4 (fun a5 => ldI .i64 (rd h (Addr.add a5 1)) (fun n6 => ldI .i64 (rd h (Addr.add x0 2)) (fun n7 => ldI .i64 (rd h (Addr.add x0 2)) (fun n8 => CallsH Try.prog 101 [(.pointer p3), (.int .i64 (IntKind.wrap .i64 (n6 + (0 : Int)))), (.int .u64 (IntKind.wrap .u64 n7)), (.int .u64 (IntKind.wrap .u64 (IntKind.wrap .i64 (n8 + (1 : Int)))))] h (fun v9 h10 => ldB (some v9) (fun b11 => ((.pointer (some x0)) = ((.pointer (some x0)) : Value) ∧ stK h10 (Addr.add (Addr.add x0 6) 0) (.bool b11) (fun h12 => stK h12 (Addr.add (Addr.add x0 4) 0) (.func (.func 100) #[(.pointer (some x0))] #[]) (fun h13 => K (.tuple #[]) h13)))))))))))))
theorem E0 (S : Stop) (x0 : Addr) (h : Heap) (K : Value → Heap → Prop) :
    (E Try.prog X T S body (fin Try.prog Try.f99.results.toList K) (args0 0 [(.pointer (some x0))]) h) = J0 x0 h K := by kernel_rfl
def w (x0 : Addr) (h : Heap) (K : Value → Heap → Prop) : Prop :=
  J0 x0 h K
theorem e0 (K : Value → Heap → Prop) (x0 : Addr) (h : Heap) : (E Try.prog X T S0 body (fin Try.prog Try.f99.results.toList K) (args0 0 [(.pointer (some x0))]) h) = w x0 h K :=
  (E0 S0 x0 h K).trans (rfl)
theorem hb : Try.f99.body = some body := by kernel_rfl
theorem ok : okCode T Try.f99.ntmps body = true := by kernel_rfl
theorem spec (x0 : Addr) (h : Heap) (K : Value → Heap → Prop) (H : w x0 h K) : CallsH Try.prog 99 [(.pointer (some x0))] h K :=
  calls_of_E (T := T) Xok mix Try.func99 hb ok rfl (by rw [e0]; exact H)
end F99
-- (*spinney/deque.Act).popShows
namespace F100
def T : Hint := ⟨[], [(0, [[(0, []), (1, []), (2, []), (3, []), (4, []), (5, []), (6, []), (7, []), (8, []), (9, []), (10, []), (11, []), (12, []), (13, []), (14, []), (15, []), (16, []), (17, []), (18, []), (19, []), (20, []), (21, [])]])]⟩
noncomputable def body : Code := (Try.f100.body).getD .skip
def J0 (x0 : Addr) (h : Heap) (K : Value → Heap → Prop) : Prop :=
  ldP (rd h (Addr.add x0 0)) (fun p1 => ptrK p1 (fun a2 => ldP (rd h (Addr.add a2 0)) (fun p3 => ldP (rd h (Addr.add x0 0)) (fun p4 => ptrK p4 (fun a5 => ldI .i64 (rd h (Addr.add a5 1)) (fun n6 => ldI .i64 (rd h (Addr.add x0 3)) (fun n7 => CallsH Try.prog 20 [(.pointer p3), (.int .i64 (IntKind.wrap .i64 (n6 + (1 : Int)))), (.int .u64 (IntKind.wrap .u64 (IntKind.wrap .i64 (n7 + (1 : Int)))))] h (fun v8 h9 => (v8 = (.tuple #[]) ∧ ldB (rd h9 (Addr.add x0 6)) (fun b10 => CallsH Try.prog 71 [(.pointer (some x0)), (.bool b10)] h9 (fun v11 h12 => (v11 = (.tuple #[]) ∧ K (.tuple #[]) h12))))))))))))
theorem E0 (S : Stop) (x0 : Addr) (h : Heap) (K : Value → Heap → Prop) :
    (E Try.prog X T S body (fin Try.prog Try.f100.results.toList K) (args0 0 [(.pointer (some x0))]) h) = J0 x0 h K := by kernel_rfl
def w (x0 : Addr) (h : Heap) (K : Value → Heap → Prop) : Prop :=
  J0 x0 h K
theorem e0 (K : Value → Heap → Prop) (x0 : Addr) (h : Heap) : (E Try.prog X T S0 body (fin Try.prog Try.f100.results.toList K) (args0 0 [(.pointer (some x0))]) h) = w x0 h K :=
  (E0 S0 x0 h K).trans (rfl)
theorem hb : Try.f100.body = some body := by kernel_rfl
theorem ok : okCode T Try.f100.ntmps body = true := by kernel_rfl
theorem spec (x0 : Addr) (h : Heap) (K : Value → Heap → Prop) (H : w x0 h K) : CallsH Try.prog 100 [(.pointer (some x0))] h K :=
  calls_of_E (T := T) Xok mix Try.func100 hb ok rfl (by rw [e0]; exact H)
end F100
-- (*spinney/deque.Act).popGivesUp
namespace F90
def T : Hint := ⟨[], []⟩
noncomputable def body : Code := (Try.f90.body).getD .skip
def J0 (x0 : Addr) (h : Heap) (K : Value → Heap → Prop) : Prop :=
  stK h (Addr.add (Addr.add x0 6) 0) (.bool false) (fun h1 => CallsH Try.prog 100 [(.pointer (some x0))] h1 (fun v2 h3 => (v2 = (.tuple #[]) ∧ K (.tuple #[]) h3)))
theorem E0 (S : Stop) (x0 : Addr) (h : Heap) (K : Value → Heap → Prop) :
    (E Try.prog X T S body (fin Try.prog Try.f90.results.toList K) (args0 0 [(.pointer (some x0))]) h) = J0 x0 h K := by kernel_rfl
def w (x0 : Addr) (h : Heap) (K : Value → Heap → Prop) : Prop :=
  J0 x0 h K
theorem e0 (K : Value → Heap → Prop) (x0 : Addr) (h : Heap) : (E Try.prog X T S0 body (fin Try.prog Try.f90.results.toList K) (args0 0 [(.pointer (some x0))]) h) = w x0 h K :=
  (E0 S0 x0 h K).trans (rfl)
theorem hb : Try.f90.body = some body := by kernel_rfl
theorem ok : okCode T Try.f90.ntmps body = true := by kernel_rfl
theorem spec (x0 : Addr) (h : Heap) (K : Value → Heap → Prop) (H : w x0 h K) : CallsH Try.prog 90 [(.pointer (some x0))] h K :=
  calls_of_E (T := T) Xok mix Try.func90 hb ok rfl (by rw [e0]; exact H)
end F90
-- (*spinney/deque.Act).steals
namespace F42
def T : Hint := ⟨[], []⟩
noncomputable def body : Code := (Try.f42.body).getD .skip
def J0 (x0 : Addr) (h : Heap) (K : Value → Heap → Prop) : Prop :=
  ldP (rd h (Addr.add x0 0)) (fun p1 => CallsH Try.prog 43 [(.pointer p1), (.int .i64 (0 : Int))] h (fun v2 h3 => ldI .i64 (some v2) (fun n4 => stK h3 (Addr.add (Addr.add x0 2) 0) (.int .i64 n4) (fun h5 => stK h5 (Addr.add (Addr.add x0 4) 0) (.func (.func 60) #[(.pointer (some x0))] #[]) (fun h6 => K (.tuple #[]) h6)))))
theorem E0 (S : Stop) (x0 : Addr) (h : Heap) (K : Value → Heap → Prop) :
    (E Try.prog X T S body (fin Try.prog Try.f42.results.toList K) (args0 0 [(.pointer (some x0))]) h) = J0 x0 h K := by kernel_rfl
def w (x0 : Addr) (h : Heap) (K : Value → Heap → Prop) : Prop :=
  J0 x0 h K
theorem e0 (K : Value → Heap → Prop) (x0 : Addr) (h : Heap) : (E Try.prog X T S0 body (fin Try.prog Try.f42.results.toList K) (args0 0 [(.pointer (some x0))]) h) = w x0 h K :=
  (E0 S0 x0 h K).trans (rfl)
theorem hb : Try.f42.body = some body := by kernel_rfl
theorem ok : okCode T Try.f42.ntmps body = true := by kernel_rfl
theorem spec (x0 : Addr) (h : Heap) (K : Value → Heap → Prop) (H : w x0 h K) : CallsH Try.prog 42 [(.pointer (some x0))] h K :=
  calls_of_E (T := T) Xok mix Try.func42 hb ok rfl (by rw [e0]; exact H)
end F42
-- (*spinney/deque.Act).stealLooks
namespace F60
def T : Hint := ⟨[], [(2, [[(0, []), (1, []), (2, []), (3, []), (4, []), (5, []), (6, []), (7, []), (8, [])]])]⟩
noncomputable def body : Code := (Try.f60.body).getD .skip
def J0 (x0 : Addr) (h : Heap) (K : Value → Heap → Prop) : Prop :=
  ldP (rd h (Addr.add x0 0)) (fun p1 => CallsH Try.prog 43 [(.pointer p1), (.int .i64 (1 : Int))] h (fun v2 h3 => ldI .i64 (some v2) (fun n4 => stK h3 (Addr.add (Addr.add x0 3) 0) (.int .i64 n4) (fun h5 => stK h5 (Addr.add (Addr.add x0 4) 0) (.func (.func 73) #[(.pointer (some x0))] #[]) (fun h6 => ldI .i64 (rd h6 (Addr.add x0 2)) (fun n7 => ldI .i64 (rd h6 (Addr.add x0 3)) (fun n8 => bcase (decide (n7 ≥ n8)) (CallsH Try.prog 71 [(.pointer (some x0)), (.bool false)] h6 (fun v9 h10 => (v9 = (.tuple #[]) ∧ K (.tuple #[]) h10))) (K (.tuple #[]) h6))))))))
theorem E0 (S : Stop) (x0 : Addr) (h : Heap) (K : Value → Heap → Prop) :
    (E Try.prog X T S body (fin Try.prog Try.f60.results.toList K) (args0 0 [(.pointer (some x0))]) h) = J0 x0 h K := by kernel_rfl
def w (x0 : Addr) (h : Heap) (K : Value → Heap → Prop) : Prop :=
  J0 x0 h K
theorem e0 (K : Value → Heap → Prop) (x0 : Addr) (h : Heap) : (E Try.prog X T S0 body (fin Try.prog Try.f60.results.toList K) (args0 0 [(.pointer (some x0))]) h) = w x0 h K :=
  (E0 S0 x0 h K).trans (rfl)
theorem hb : Try.f60.body = some body := by kernel_rfl
theorem ok : okCode T Try.f60.ntmps body = true := by kernel_rfl
theorem spec (x0 : Addr) (h : Heap) (K : Value → Heap → Prop) (H : w x0 h K) : CallsH Try.prog 60 [(.pointer (some x0))] h K :=
  calls_of_E (T := T) Xok mix Try.func60 hb ok rfl (by rw [e0]; exact H)
end F60
-- (*spinney/deque.Act).stealReads
namespace F73
def T : Hint := ⟨[], [(0, [[(0, []), (1, []), (2, []), (3, []), (4, []), (5, []), (6, []), (7, []), (8, []), (9, []), (10, []), (11, []), (12, []), (13, []), (14, []), (15, []), (16, [0, 1, 2, 3, 4, 5, 6, 7]), (17, [0]), (18, []), (19, []), (20, [])]])]⟩
noncomputable def body : Code := (Try.f73.body).getD .skip
def J0 (x0 : Addr) (h : Heap) (K : Value → Heap → Prop) : Prop :=
  ldP (rd h (Addr.add x0 0)) (fun p1 => ptrK p1 (fun a2 => ldP (rd h (Addr.add a2 0)) (fun p3 => ldP (rd h (Addr.add x0 0)) (fun p4 => ldI .i64 (rd h (Addr.add x0 2)) (fun n5 => CallsH Try.prog 87 [(.pointer p4), (.int .i64 n5)] h (fun v6 h7 => ldI .i64 (some v6) (fun n8 => ((.pointer (some x0)) = ((.pointer (some x0)) : Value) ∧ ((.pointer (some x0)) = ((.pointer (some x0)) : Value) ∧ ((.pointer (some x0)) = ((.pointer (some x0)) : Value) ∧ ((.pointer (some (Addr.add x0 0))) = ((.pointer (some (Addr.add x0 0))) : Value) ∧ ldP (rd h7 (Addr.add x0 0)) (fun p9 => ((.pointer p9) = ((.pointer p1) : Value) ∧ ptrK p1 (fun a10 => ((.pointer (some a10)) = ((.pointer (some a2)) : Value) ∧ ((.pointer (some (Addr.add a2 0))) = ((.pointer (some (Addr.add a2 0))) : Value) ∧ ldP (rd h7 (Addr.add a2 0)) (fun p11 => ((.pointer p11) = ((.pointer p3) : Value) ∧ CallsH Try.prog 21 [(.pointer p3), (.int .i64 n8)] h7 (fun v12 h13 => ldI .u64 (some v12) (fun n14 => ((.pointer (some x0)) = ((.pointer (some x0)) : Value) ∧ stK h13 (Addr.add (Addr.add x0 1) 0) (.int .u64 n14) (fun h15 => stK h15 (Addr.add (Addr.add x0 4) 0) (.func (.func 91) #[(.pointer (some x0))] #[]) (fun h16 => K (.tuple #[]) h16)))))))))))))))))))))))
theorem E0 (S : Stop) (x0 : Addr) (h : Heap) (K : Value → Heap → Prop) :
    (E Try.prog X T S body (fin Try.prog Try.f73.results.toList K) (args0 0 [(.pointer (some x0))]) h) = J0 x0 h K := by kernel_rfl
def w (x0 : Addr) (h : Heap) (K : Value → Heap → Prop) : Prop :=
  J0 x0 h K
theorem e0 (K : Value → Heap → Prop) (x0 : Addr) (h : Heap) : (E Try.prog X T S0 body (fin Try.prog Try.f73.results.toList K) (args0 0 [(.pointer (some x0))]) h) = w x0 h K :=
  (E0 S0 x0 h K).trans (rfl)
theorem hb : Try.f73.body = some body := by kernel_rfl
theorem ok : okCode T Try.f73.ntmps body = true := by kernel_rfl
theorem spec (x0 : Addr) (h : Heap) (K : Value → Heap → Prop) (H : w x0 h K) : CallsH Try.prog 73 [(.pointer (some x0))] h K :=
  calls_of_E (T := T) Xok mix Try.func73 hb ok rfl (by rw [e0]; exact H)
end F73
-- (*spinney/deque.Act).stealClaims
namespace F91
def T : Hint := ⟨[], [(0, [[(0, []), (1, []), (2, []), (3, []), (4, []), (5, []), (6, []), (7, []), (8, []), (9, []), (10, []), (11, []), (12, []), (13, []), (14, []), (15, []), (16, []), (17, []), (18, []), (19, []), (20, []), (21, []), (22, []), (23, []), (24, []), (25, []), (26, []), (27, [0]), (28, [])]])]⟩
noncomputable def body : Code := (Try.f91.body).getD .skip
def J0 (x0 : Addr) (h : Heap) (K : Value → Heap → Prop) : Prop :=
  ldP (rd h (Addr.add x0 0)) (fun p1 => ptrK p1 (fun a2 => ldP (rd h (Addr.add a2 0)) (fun p3 => ldP (rd h (Addr.add x0 0)) (fun p4 => ptrK p4 (fun a5 => ldI .i64 (rd h (Addr.add a5 1)) (fun n6 => ldI .i64 (rd h (Addr.add x0 2)) (fun n7 => ldI .i64 (rd h (Addr.add x0 2)) (fun n8 => CallsH Try.prog 101 [(.pointer p3), (.int .i64 (IntKind.wrap .i64 (n6 + (0 : Int)))), (.int .u64 (IntKind.wrap .u64 n7)), (.int .u64 (IntKind.wrap .u64 (IntKind.wrap .i64 (n8 + (1 : Int)))))] h (fun v9 h10 => ldB (some v9) (fun b11 => ((.pointer (some x0)) = ((.pointer (some x0)) : Value) ∧ CallsH Try.prog 71 [(.pointer (some x0)), (.bool b11)] h10 (fun v12 h13 => (v12 = (.tuple #[]) ∧ K (.tuple #[]) h13)))))))))))))
theorem E0 (S : Stop) (x0 : Addr) (h : Heap) (K : Value → Heap → Prop) :
    (E Try.prog X T S body (fin Try.prog Try.f91.results.toList K) (args0 0 [(.pointer (some x0))]) h) = J0 x0 h K := by kernel_rfl
def w (x0 : Addr) (h : Heap) (K : Value → Heap → Prop) : Prop :=
  J0 x0 h K
theorem e0 (K : Value → Heap → Prop) (x0 : Addr) (h : Heap) : (E Try.prog X T S0 body (fin Try.prog Try.f91.results.toList K) (args0 0 [(.pointer (some x0))]) h) = w x0 h K :=
  (E0 S0 x0 h K).trans (rfl)
theorem hb : Try.f91.body = some body := by kernel_rfl
theorem ok : okCode T Try.f91.ntmps body = true := by kernel_rfl
theorem spec (x0 : Addr) (h : Heap) (K : Value → Heap → Prop) (H : w x0 h K) : CallsH Try.prog 91 [(.pointer (some x0))] h K :=
  calls_of_E (T := T) Xok mix Try.func91 hb ok rfl (by rw [e0]; exact H)
end F91
-- (*spinney/deque.Deque).act$1
namespace F57
def T : Hint := ⟨[], []⟩
noncomputable def body : Code := (Try.f57.body).getD .skip
def J0 (x0 : Addr) (x1 : Addr) (h : Heap) (K : Value → Heap → Prop) : Prop :=
  ldV (rd h x0) (fun v1 => ldP (rd h x1) (fun p2 => dynK Try.prog X v1 [(.pointer p2)] h (fun v3 h4 => (v3 = (.tuple #[]) ∧ K (.tuple #[]) h4))))
theorem E0 (S : Stop) (x0 : Addr) (x1 : Addr) (h : Heap) (K : Value → Heap → Prop) :
    (E Try.prog X T S body (fin Try.prog Try.f57.results.toList K) (args0 0 [(.pointer (some x0)), (.pointer (some x1))]) h) = J0 x0 x1 h K := by kernel_rfl
def w (x0 : Addr) (x1 : Addr) (h : Heap) (K : Value → Heap → Prop) : Prop :=
  J0 x0 x1 h K
theorem e0 (K : Value → Heap → Prop) (x0 : Addr) (x1 : Addr) (h : Heap) : (E Try.prog X T S0 body (fin Try.prog Try.f57.results.toList K) (args0 0 [(.pointer (some x0)), (.pointer (some x1))]) h) = w x0 x1 h K :=
  (E0 S0 x0 x1 h K).trans (rfl)
theorem hb : Try.f57.body = some body := by kernel_rfl
theorem ok : okCode T Try.f57.ntmps body = true := by kernel_rfl
theorem spec (x0 : Addr) (x1 : Addr) (h : Heap) (K : Value → Heap → Prop) (H : w x0 x1 h K) : CallsH Try.prog 57 [(.pointer (some x0)), (.pointer (some x1))] h K :=
  calls_of_E (T := T) Xok mix Try.func57 hb ok rfl (by rw [e0]; exact H)
end F57
-- (*spinney/deque.Act).Step
namespace F22
def T : Hint := ⟨[(3, [0])], []⟩
noncomputable def body : Code := (Try.f22.body).getD .skip
def J0 (k3 : Addr → Heap → Prop) (x0 : Addr) (h : Heap) (_K : Value → Heap → Prop) : Prop :=
  ldB (rd h (Addr.add x0 5)) (fun b1 => bcase (!b1) (ldV (rd h (Addr.add x0 4)) (fun v2 => dynK Try.prog X v2 [] h (fun v3 h4 => (v3 = (.tuple #[]) ∧ k3 x0 h4)))) (k3 x0 h))
theorem E0 (S : Stop) (x0 : Addr) (h : Heap) (K : Value → Heap → Prop) :
    (E Try.prog X T S body (fin Try.prog Try.f22.results.toList K) (args0 0 [(.pointer (some x0))]) h) = J0 (fun x0 h => S (E Try.prog X T S (sub body [1, 1]) (fin Try.prog Try.f22.results.toList K)) [(0, (.pointer (some x0)))] h) x0 h K := by kernel_rfl
def Jk3 (x0 : Addr) (h : Heap) (K : Value → Heap → Prop) : Prop :=
  ldB (rd h (Addr.add x0 5)) (fun b1 => K (.bool b1) h)
theorem Ek3 (S : Stop) (x0 : Addr) (h : Heap) (K : Value → Heap → Prop) :
    (E Try.prog X T S (sub body [1, 1]) (fin Try.prog Try.f22.results.toList K) [(0, (.pointer (some x0)))] h) = Jk3 x0 h K := by kernel_rfl
def wk3 (x0 : Addr) (h : Heap) (K : Value → Heap → Prop) : Prop :=
  Jk3 x0 h K
theorem ek3 (K : Value → Heap → Prop) (x0 : Addr) (h : Heap) : (E Try.prog X T S0 (sub body [1, 1]) (fin Try.prog Try.f22.results.toList K) [(0, (.pointer (some x0)))] h) = wk3 x0 h K :=
  (Ek3 S0 x0 h K).trans (rfl)
def w (x0 : Addr) (h : Heap) (K : Value → Heap → Prop) : Prop :=
  J0 (fun x0 h => wk3 x0 h K) x0 h K
theorem e0 (K : Value → Heap → Prop) (x0 : Addr) (h : Heap) : (E Try.prog X T S0 body (fin Try.prog Try.f22.results.toList K) (args0 0 [(.pointer (some x0))]) h) = w x0 h K :=
  (E0 S0 x0 h K).trans (congrFun (congrFun (congrFun (congrArg J0 (funext fun x0 => funext fun h => ek3 K x0 h)) x0) h) K)
theorem hb : Try.f22.body = some body := by kernel_rfl
theorem ok : okCode T Try.f22.ntmps body = true := by kernel_rfl
theorem spec (x0 : Addr) (h : Heap) (K : Value → Heap → Prop) (H : w x0 h K) : CallsH Try.prog 22 [(.pointer (some x0))] h K :=
  calls_of_E (T := T) Xok mix Try.func22 hb ok rfl (by rw [e0]; exact H)
end F22
-- (*spinney/deque.Act).Got
namespace F23
def T : Hint := ⟨[], []⟩
noncomputable def body : Code := (Try.f23.body).getD .skip
def J0 (x0 : Addr) (h : Heap) (K : Value → Heap → Prop) : Prop :=
  ldB (rd h (Addr.add x0 5)) (fun b1 => bcase (!b1) (K (.tuple #[(.int .u64 (0 : Int)), (.bool false)]) h) (ldB (rd h (Addr.add x0 6)) (fun b2 => bcase (!b2) (K (.tuple #[(.int .u64 (0 : Int)), (.bool false)]) h) (ldI .u64 (rd h (Addr.add x0 1)) (fun n3 => K (.tuple #[(.int .u64 n3), (.bool true)]) h)))))
theorem E0 (S : Stop) (x0 : Addr) (h : Heap) (K : Value → Heap → Prop) :
    (E Try.prog X T S body (fin Try.prog Try.f23.results.toList K) (args0 0 [(.pointer (some x0))]) h) = J0 x0 h K := by kernel_rfl
def w (x0 : Addr) (h : Heap) (K : Value → Heap → Prop) : Prop :=
  J0 x0 h K
theorem e0 (K : Value → Heap → Prop) (x0 : Addr) (h : Heap) : (E Try.prog X T S0 body (fin Try.prog Try.f23.results.toList K) (args0 0 [(.pointer (some x0))]) h) = w x0 h K :=
  (E0 S0 x0 h K).trans (rfl)
theorem hb : Try.f23.body = some body := by kernel_rfl
theorem ok : okCode T Try.f23.ntmps body = true := by kernel_rfl
theorem spec (x0 : Addr) (h : Heap) (K : Value → Heap → Prop) (H : w x0 h K) : CallsH Try.prog 23 [(.pointer (some x0))] h K :=
  calls_of_E (T := T) Xok mix Try.func23 hb ok rfl (by rw [e0]; exact H)
end F23
-- (*spinney/deque.Act).Done
namespace F24
def T : Hint := ⟨[], []⟩
noncomputable def body : Code := (Try.f24.body).getD .skip
def J0 (x0 : Addr) (h : Heap) (K : Value → Heap → Prop) : Prop :=
  ldB (rd h (Addr.add x0 5)) (fun b1 => K (.bool b1) h)
theorem E0 (S : Stop) (x0 : Addr) (h : Heap) (K : Value → Heap → Prop) :
    (E Try.prog X T S body (fin Try.prog Try.f24.results.toList K) (args0 0 [(.pointer (some x0))]) h) = J0 x0 h K := by kernel_rfl
def w (x0 : Addr) (h : Heap) (K : Value → Heap → Prop) : Prop :=
  J0 x0 h K
theorem e0 (K : Value → Heap → Prop) (x0 : Addr) (h : Heap) : (E Try.prog X T S0 body (fin Try.prog Try.f24.results.toList K) (args0 0 [(.pointer (some x0))]) h) = w x0 h K :=
  (E0 S0 x0 h K).trans (rfl)
theorem hb : Try.f24.body = some body := by kernel_rfl
theorem ok : okCode T Try.f24.ntmps body = true := by kernel_rfl
theorem spec (x0 : Addr) (h : Heap) (K : Value → Heap → Prop) (H : w x0 h K) : CallsH Try.prog 24 [(.pointer (some x0))] h K :=
  calls_of_E (T := T) Xok mix Try.func24 hb ok rfl (by rw [e0]; exact H)
end F24
-- (*spinney/deque.Deque).Len
namespace F19
def T : Hint := ⟨[], []⟩
noncomputable def body : Code := (Try.f19.body).getD .skip
def J0 (x0 : Addr) (h : Heap) (K : Value → Heap → Prop) : Prop :=
  CallsH Try.prog 43 [(.pointer (some x0)), (.int .i64 (1 : Int))] h (fun v1 h2 => ldI .i64 (some v1) (fun n3 => CallsH Try.prog 43 [(.pointer (some x0)), (.int .i64 (0 : Int))] h2 (fun v4 h5 => ldI .i64 (some v4) (fun n6 => K (.int .i64 (IntKind.wrap .i64 (n3 - n6))) h5))))
theorem E0 (S : Stop) (x0 : Addr) (h : Heap) (K : Value → Heap → Prop) :
    (E Try.prog X T S body (fin Try.prog Try.f19.results.toList K) (args0 0 [(.pointer (some x0))]) h) = J0 x0 h K := by kernel_rfl
def w (x0 : Addr) (h : Heap) (K : Value → Heap → Prop) : Prop :=
  J0 x0 h K
theorem e0 (K : Value → Heap → Prop) (x0 : Addr) (h : Heap) : (E Try.prog X T S0 body (fin Try.prog Try.f19.results.toList K) (args0 0 [(.pointer (some x0))]) h) = w x0 h K :=
  (E0 S0 x0 h K).trans (rfl)
theorem hb : Try.f19.body = some body := by kernel_rfl
theorem ok : okCode T Try.f19.ntmps body = true := by kernel_rfl
theorem spec (x0 : Addr) (h : Heap) (K : Value → Heap → Prop) (H : w x0 h K) : CallsH Try.prog 19 [(.pointer (some x0))] h K :=
  calls_of_E (T := T) Xok mix Try.func19 hb ok rfl (by rw [e0]; exact H)
end F19
end Go.Proofs.Ytipckkeaoncjiaa.Ev
