/- PRINTED BY PROGRAM: what each of these functions does, computed over heaps by the evaluator, and that its calls do so. Conditions: none. -/
import Derived.Test.YtbjdjgdbkfjglaaMemF2
import Derived.Test.YtbjdjgdbkfjglaaBitsF
namespace Go.Proofs.Ytbjdjgdbkfjglaa.Ev
open Go
-- (*spinney/utable.Finder).ends
namespace F51
def T : Hint := ⟨[], []⟩
noncomputable def body : Code := (Try.f51.body).getD .skip
def J0 (x0 : Addr) (x1 : Int) (x2 : Int) (h : Heap) (K : Value → Heap → Prop) : Prop :=
  stK h (Addr.add (Addr.add x0 5) 0) (.bool true) (fun h1 => stK h1 (Addr.add (Addr.add x0 6) 0) (.int .i64 x1) (fun h2 => stK h2 (Addr.add (Addr.add x0 7) 0) (.int .i64 x2) (fun h3 => K (.tuple #[]) h3)))
theorem E0 (S : Stop) (x0 : Addr) (x1 : Int) (x2 : Int) (h : Heap) (K : Value → Heap → Prop) :
    (E Try.prog X T S body (fin Try.prog Try.f51.results.toList K) (args0 0 [(.pointer (some x0)), (.int .i64 x1), (.int .i64 x2)]) h) = J0 x0 x1 x2 h K := by kernel_rfl
def w (x0 : Addr) (x1 : Int) (x2 : Int) (h : Heap) (K : Value → Heap → Prop) : Prop :=
  J0 x0 x1 x2 h K
theorem e0 (K : Value → Heap → Prop) (x0 : Addr) (x1 : Int) (x2 : Int) (h : Heap) : (E Try.prog X T S0 body (fin Try.prog Try.f51.results.toList K) (args0 0 [(.pointer (some x0)), (.int .i64 x1), (.int .i64 x2)]) h) = w x0 x1 x2 h K :=
  (E0 S0 x0 x1 x2 h K).trans (rfl)
theorem hb : Try.f51.body = some body := by kernel_rfl
theorem ok : okCode T Try.f51.ntmps body = true := by kernel_rfl
theorem spec (x0 : Addr) (x1 : Int) (x2 : Int) (h : Heap) (K : Value → Heap → Prop) (H : w x0 x1 x2 h K) : CallsH Try.prog 51 [(.pointer (some x0)), (.int .i64 x1), (.int .i64 x2)] h K :=
  calls_of_E (T := T) Xok mix Try.func51 hb ok rfl (by rw [e0]; exact H)
end F51
-- (*spinney/utable.Finder).goes
namespace F53
def T : Hint := ⟨[], [(0, [[(0, []), (1, []), (2, []), (3, []), (4, []), (5, []), (6, []), (7, []), (8, []), (9, []), (10, []), (11, []), (12, []), (13, []), (14, []), (15, []), (16, [])]])]⟩
noncomputable def body : Code := (Try.f53.body).getD .skip
def J0 (x0 : Addr) (h : Heap) (K : Value → Heap → Prop) : Prop :=
  ldI .i64 (rd h (Addr.add x0 2)) (fun n1 => ldP (rd h (Addr.add x0 0)) (fun p2 => ptrK p2 (fun a3 => ldI .i64 (rd h (Addr.add a3 2)) (fun n4 => (n4 ≠ 0 ∧ stK h (Addr.add (Addr.add x0 2) 0) (.int .i64 (Int.tmod (IntKind.wrap .i64 (n1 + (1 : Int))) n4)) (fun h5 => ldI .i64 (rd h5 (Addr.add x0 3)) (fun n6 => stK h5 (Addr.add (Addr.add x0 3) 0) (.int .i64 (IntKind.wrap .i64 (n6 - (1 : Int)))) (fun h7 => ldI .i64 (rd h7 (Addr.add x0 3)) (fun n8 => bcase (n8 == (0 : Int)) (CallsH Try.prog 51 [(.pointer (some x0)), (.int .i64 (-1 : Int)), (.int .i64 (60 : Int))] h7 (fun v9 h10 => (v9 = (.tuple #[]) ∧ K (.tuple #[]) h10))) (K (.tuple #[]) h7))))))))))
theorem E0 (S : Stop) (x0 : Addr) (h : Heap) (K : Value → Heap → Prop) :
    (E Try.prog X T S body (fin Try.prog Try.f53.results.toList K) (args0 0 [(.pointer (some x0))]) h) = J0 x0 h K := by kernel_rfl
def w (x0 : Addr) (h : Heap) (K : Value → Heap → Prop) : Prop :=
  J0 x0 h K
theorem e0 (K : Value → Heap → Prop) (x0 : Addr) (h : Heap) : (E Try.prog X T S0 body (fin Try.prog Try.f53.results.toList K) (args0 0 [(.pointer (some x0))]) h) = w x0 h K :=
  (E0 S0 x0 h K).trans (rfl)
theorem hb : Try.f53.body = some body := by kernel_rfl
theorem ok : okCode T Try.f53.ntmps body = true := by kernel_rfl
theorem spec (x0 : Addr) (h : Heap) (K : Value → Heap → Prop) (H : w x0 h K) : CallsH Try.prog 53 [(.pointer (some x0))] h K :=
  calls_of_E (T := T) Xok mix Try.func53 hb ok rfl (by rw [e0]; exact H)
end F53
-- (*spinney/utable.Finder).claims
namespace F52
def T : Hint := ⟨[], [(1, [[(0, []), (1, []), (2, []), (3, []), (4, []), (5, []), (6, []), (7, []), (8, []), (9, []), (10, []), (11, []), (12, []), (13, []), (14, []), (15, []), (16, []), (17, []), (18, []), (19, []), (20, []), (21, []), (22, []), (23, [])]])]⟩
noncomputable def body : Code := (Try.f52.body).getD .skip
def J0 (x0 : Addr) (h : Heap) (K : Value → Heap → Prop) : Prop :=
  stK h (Addr.add (Addr.add x0 4) 0) (.func (.func 41) #[(.pointer (some x0))] #[]) (fun h1 => ldP (rd h1 (Addr.add x0 0)) (fun p2 => ptrK p2 (fun a3 => ldP (rd h1 (Addr.add a3 0)) (fun p4 => ldP (rd h1 (Addr.add x0 0)) (fun p5 => ptrK p5 (fun a6 => ldI .i64 (rd h1 (Addr.add a6 1)) (fun n7 => ldI .i64 (rd h1 (Addr.add x0 2)) (fun n8 => ldI .u64 (rd h1 (Addr.add x0 1)) (fun n9 => CallsH Try.prog 46 [(.pointer p4), (.int .i64 (IntKind.wrap .i64 (n7 + n8))), (.int .u64 (0 : Int)), (.int .u64 n9)] h1 (fun v10 h11 => ldB (some v10) (fun b12 => bcase b12 (stK h11 (Addr.add (Addr.add x0 8) 0) (.bool true) (fun h13 => ldI .i64 (rd h13 (Addr.add x0 2)) (fun n14 => CallsH Try.prog 51 [(.pointer (some x0)), (.int .i64 n14), (.int .i64 (0 : Int))] h13 (fun v15 h16 => (v15 = (.tuple #[]) ∧ K (.tuple #[]) h16))))) (K (.tuple #[]) h11))))))))))))
theorem E0 (S : Stop) (x0 : Addr) (h : Heap) (K : Value → Heap → Prop) :
    (E Try.prog X T S body (fin Try.prog Try.f52.results.toList K) (args0 0 [(.pointer (some x0))]) h) = J0 x0 h K := by kernel_rfl
def w (x0 : Addr) (h : Heap) (K : Value → Heap → Prop) : Prop :=
  J0 x0 h K
theorem e0 (K : Value → Heap → Prop) (x0 : Addr) (h : Heap) : (E Try.prog X T S0 body (fin Try.prog Try.f52.results.toList K) (args0 0 [(.pointer (some x0))]) h) = w x0 h K :=
  (E0 S0 x0 h K).trans (rfl)
theorem hb : Try.f52.body = some body := by kernel_rfl
theorem ok : okCode T Try.f52.ntmps body = true := by kernel_rfl
theorem spec (x0 : Addr) (h : Heap) (K : Value → Heap → Prop) (H : w x0 h K) : CallsH Try.prog 52 [(.pointer (some x0))] h K :=
  calls_of_E (T := T) Xok mix Try.func52 hb ok rfl (by rw [e0]; exact H)
end F52
-- (*spinney/utable.Finder).looks
namespace F41
def T : Hint := ⟨[], [(0, [[(0, []), (1, []), (2, []), (3, []), (4, []), (5, []), (6, []), (7, []), (8, []), (9, []), (10, []), (11, []), (12, []), (13, []), (14, []), (15, []), (16, []), (17, []), (18, []), (19, [])]])]⟩
noncomputable def body : Code := (Try.f41.body).getD .skip
def J0 (x0 : Addr) (h : Heap) (K : Value → Heap → Prop) : Prop :=
  ldP (rd h (Addr.add x0 0)) (fun p1 => ptrK p1 (fun a2 => ldP (rd h (Addr.add a2 0)) (fun p3 => ldP (rd h (Addr.add x0 0)) (fun p4 => ptrK p4 (fun a5 => ldI .i64 (rd h (Addr.add a5 1)) (fun n6 => ldI .i64 (rd h (Addr.add x0 2)) (fun n7 => CallsH Try.prog 35 [(.pointer p3), (.int .i64 (IntKind.wrap .i64 (n6 + n7)))] h (fun v8 h9 => ldI .u64 (some v8) (fun n10 => ldI .u64 (rd h9 (Addr.add x0 1)) (fun n11 => bcase (n10 == n11) (ldI .i64 (rd h9 (Addr.add x0 2)) (fun n12 => CallsH Try.prog 51 [(.pointer (some x0)), (.int .i64 n12), (.int .i64 (0 : Int))] h9 (fun v13 h14 => (v13 = (.tuple #[]) ∧ K (.tuple #[]) h14)))) (bcase (n10 == (0 : Int)) (stK h9 (Addr.add (Addr.add x0 4) 0) (.func (.func 52) #[(.pointer (some x0))] #[]) (fun h15 => K (.tuple #[]) h15)) (CallsH Try.prog 53 [(.pointer (some x0))] h9 (fun v16 h17 => (v16 = (.tuple #[]) ∧ K (.tuple #[]) h17))))))))))))))
theorem E0 (S : Stop) (x0 : Addr) (h : Heap) (K : Value → Heap → Prop) :
    (E Try.prog X T S body (fin Try.prog Try.f41.results.toList K) (args0 0 [(.pointer (some x0))]) h) = J0 x0 h K := by kernel_rfl
def w (x0 : Addr) (h : Heap) (K : Value → Heap → Prop) : Prop :=
  J0 x0 h K
theorem e0 (K : Value → Heap → Prop) (x0 : Addr) (h : Heap) : (E Try.prog X T S0 body (fin Try.prog Try.f41.results.toList K) (args0 0 [(.pointer (some x0))]) h) = w x0 h K :=
  (E0 S0 x0 h K).trans (rfl)
theorem hb : Try.f41.body = some body := by kernel_rfl
theorem ok : okCode T Try.f41.ntmps body = true := by kernel_rfl
theorem spec (x0 : Addr) (h : Heap) (K : Value → Heap → Prop) (H : w x0 h K) : CallsH Try.prog 41 [(.pointer (some x0))] h K :=
  calls_of_E (T := T) Xok mix Try.func41 hb ok rfl (by rw [e0]; exact H)
end F41
-- spinney/utable.New
namespace F13
def T : Hint := ⟨[], []⟩
noncomputable def body : Code := (Try.f13.body).getD .skip
def J0 (x0 : Addr) (x1 : Int) (x2 : Int) (h : Heap) (K : Value → Heap → Prop) : Prop :=
  bcase (decide (x1 < (0 : Int))) (K (.tuple #[(.pointer none), (.int .i64 (61 : Int))]) h) (bcase (decide (x2 < (1 : Int))) (K (.tuple #[(.pointer none), (.int .i64 (61 : Int))]) h) (CallsH Try.prog 39 [(.pointer (some x0))] h (fun v1 h2 => ldI .i64 (some v1) (fun n3 => bcase (decide (x1 > n3)) (K (.tuple #[(.pointer none), (.int .i64 (61 : Int))]) h2) (CallsH Try.prog 39 [(.pointer (some x0))] h2 (fun v4 h5 => ldI .i64 (some v4) (fun n6 => bcase (decide (x2 > (IntKind.wrap .i64 (n6 - x1)))) (K (.tuple #[(.pointer none), (.int .i64 (61 : Int))]) h5) (newK h5 (.cells #[(.pointer (some x0)), (.int .i64 x1), (.int .i64 x2)] 76) (fun b7 h8 => K (.tuple #[(.pointer (some (Addr.mk b7 0 none))), (.int .i64 (0 : Int))]) h8)))))))))
theorem E0 (S : Stop) (x0 : Addr) (x1 : Int) (x2 : Int) (h : Heap) (K : Value → Heap → Prop) :
    (E Try.prog X T S body (fin Try.prog Try.f13.results.toList K) (args0 0 [(.pointer (some x0)), (.int .i64 x1), (.int .i64 x2)]) h) = J0 x0 x1 x2 h K := by kernel_rfl
def w (x0 : Addr) (x1 : Int) (x2 : Int) (h : Heap) (K : Value → Heap → Prop) : Prop :=
  J0 x0 x1 x2 h K
theorem e0 (K : Value → Heap → Prop) (x0 : Addr) (x1 : Int) (x2 : Int) (h : Heap) : (E Try.prog X T S0 body (fin Try.prog Try.f13.results.toList K) (args0 0 [(.pointer (some x0)), (.int .i64 x1), (.int .i64 x2)]) h) = w x0 x1 x2 h K :=
  (E0 S0 x0 x1 x2 h K).trans (rfl)
theorem hb : Try.f13.body = some body := by kernel_rfl
theorem ok : okCode T Try.f13.ntmps body = true := by kernel_rfl
theorem spec (x0 : Addr) (x1 : Int) (x2 : Int) (h : Heap) (K : Value → Heap → Prop) (H : w x0 x1 x2 h K) : CallsH Try.prog 13 [(.pointer (some x0)), (.int .i64 x1), (.int .i64 x2)] h K :=
  calls_of_E (T := T) Xok mix Try.func13 hb ok rfl (by rw [e0]; exact H)
end F13
-- (*spinney/utable.Table).Find
namespace F14
def T : Hint := ⟨[], [(1, [[(0, []), (1, []), (2, []), (3, []), (4, []), (5, []), (6, []), (8, []), (9, []), (10, []), (11, []), (12, []), (13, []), (7, [0, 1, 8, 9, 10, 11, 12, 13]), (14, []), (15, []), (16, [])]])]⟩
noncomputable def body : Code := (Try.f14.body).getD .skip
def J0 (x0 : Addr) (x1 : Int) (h : Heap) (K : Value → Heap → Prop) : Prop :=
  ldI .i64 (rd h (Addr.add x0 2)) (fun n1 => ldI .i64 (rd h (Addr.add x0 2)) (fun n2 => CallsH Try.prog 40 [(.int .u64 x1), (.int .i64 n1)] h (fun v3 h4 => ldI .i64 (some v3) (fun n5 => ((.pointer (some x0)) = ((.pointer (some x0)) : Value) ∧ ((.int .u64 x1) = ((.int .u64 x1) : Value) ∧ ((.pointer (some x0)) = ((.pointer (some x0)) : Value) ∧ ((.pointer (some x0)) = ((.pointer (some x0)) : Value) ∧ ((.pointer (some (Addr.add x0 2))) = ((.pointer (some (Addr.add x0 2))) : Value) ∧ ldI .i64 (rd h4 (Addr.add x0 2)) (fun n6 => ((.int .i64 n6) = ((.int .i64 n2) : Value) ∧ ((.int .u64 x1) = ((.int .u64 x1) : Value) ∧ ((.bool (x1 == (0 : Int))) = ((.bool (x1 == (0 : Int))) : Value) ∧ newK h4 (.cells #[(.pointer (some x0)), (.int .u64 x1), (.int .i64 n5), (.int .i64 n2), .nilFunc, (.bool (x1 == (0 : Int))), (.int .i64 (-1 : Int)), (.int .i64 (61 : Int)), (.bool false)] 79) (fun b7 h8 => stK h8 (Addr.add (Addr.add (Addr.mk b7 0 none) 4) 0) (.func (.func 41) #[(.pointer (some (Addr.mk b7 0 none)))] #[]) (fun h9 => K (.pointer (some (Addr.mk b7 0 none))) h9)))))))))))))))
theorem E0 (S : Stop) (x0 : Addr) (x1 : Int) (h : Heap) (K : Value → Heap → Prop) :
    (E Try.prog X T S body (fin Try.prog Try.f14.results.toList K) (args0 0 [(.pointer (some x0)), (.int .u64 x1)]) h) = J0 x0 x1 h K := by kernel_rfl
def w (x0 : Addr) (x1 : Int) (h : Heap) (K : Value → Heap → Prop) : Prop :=
  J0 x0 x1 h K
theorem e0 (K : Value → Heap → Prop) (x0 : Addr) (x1 : Int) (h : Heap) : (E Try.prog X T S0 body (fin Try.prog Try.f14.results.toList K) (args0 0 [(.pointer (some x0)), (.int .u64 x1)]) h) = w x0 x1 h K :=
  (E0 S0 x0 x1 h K).trans (rfl)
theorem hb : Try.f14.body = some body := by kernel_rfl
theorem ok : okCode T Try.f14.ntmps body = true := by kernel_rfl
theorem spec (x0 : Addr) (x1 : Int) (h : Heap) (K : Value → Heap → Prop) (H : w x0 x1 h K) : CallsH Try.prog 14 [(.pointer (some x0)), (.int .u64 x1)] h K :=
  calls_of_E (T := T) Xok mix Try.func14 hb ok rfl (by rw [e0]; exact H)
end F14
-- (*spinney/utable.Finder).Step
namespace F16
def T : Hint := ⟨[(3, [0])], []⟩
noncomputable def body : Code := (Try.f16.body).getD .skip
def J0 (k3 : Addr → Heap → Prop) (x0 : Addr) (h : Heap) (_K : Value → Heap → Prop) : Prop :=
  ldB (rd h (Addr.add x0 5)) (fun b1 => bcase (!b1) (ldV (rd h (Addr.add x0 4)) (fun v2 => dynK Try.prog X v2 [] h (fun v3 h4 => (v3 = (.tuple #[]) ∧ k3 x0 h4)))) (k3 x0 h))
theorem E0 (S : Stop) (x0 : Addr) (h : Heap) (K : Value → Heap → Prop) :
    (E Try.prog X T S body (fin Try.prog Try.f16.results.toList K) (args0 0 [(.pointer (some x0))]) h) = J0 (fun x0 h => S (E Try.prog X T S (sub body [1, 1]) (fin Try.prog Try.f16.results.toList K)) [(0, (.pointer (some x0)))] h) x0 h K := by kernel_rfl
def Jk3 (x0 : Addr) (h : Heap) (K : Value → Heap → Prop) : Prop :=
  ldB (rd h (Addr.add x0 5)) (fun b1 => K (.bool b1) h)
theorem Ek3 (S : Stop) (x0 : Addr) (h : Heap) (K : Value → Heap → Prop) :
    (E Try.prog X T S (sub body [1, 1]) (fin Try.prog Try.f16.results.toList K) [(0, (.pointer (some x0)))] h) = Jk3 x0 h K := by kernel_rfl
def wk3 (x0 : Addr) (h : Heap) (K : Value → Heap → Prop) : Prop :=
  Jk3 x0 h K
theorem ek3 (K : Value → Heap → Prop) (x0 : Addr) (h : Heap) : (E Try.prog X T S0 (sub body [1, 1]) (fin Try.prog Try.f16.results.toList K) [(0, (.pointer (some x0)))] h) = wk3 x0 h K :=
  (Ek3 S0 x0 h K).trans (rfl)
def w (x0 : Addr) (h : Heap) (K : Value → Heap → Prop) : Prop :=
  J0 (fun x0 h => wk3 x0 h K) x0 h K
theorem e0 (K : Value → Heap → Prop) (x0 : Addr) (h : Heap) : (E Try.prog X T S0 body (fin Try.prog Try.f16.results.toList K) (args0 0 [(.pointer (some x0))]) h) = w x0 h K :=
  (E0 S0 x0 h K).trans (congrFun (congrFun (congrFun (congrArg J0 (funext fun x0 => funext fun h => ek3 K x0 h)) x0) h) K)
theorem hb : Try.f16.body = some body := by kernel_rfl
theorem ok : okCode T Try.f16.ntmps body = true := by kernel_rfl
theorem spec (x0 : Addr) (h : Heap) (K : Value → Heap → Prop) (H : w x0 h K) : CallsH Try.prog 16 [(.pointer (some x0))] h K :=
  calls_of_E (T := T) Xok mix Try.func16 hb ok rfl (by rw [e0]; exact H)
end F16
-- (*spinney/utable.Finder).Done
namespace F17
def T : Hint := ⟨[], []⟩
noncomputable def body : Code := (Try.f17.body).getD .skip
def J0 (x0 : Addr) (h : Heap) (K : Value → Heap → Prop) : Prop :=
  ldB (rd h (Addr.add x0 5)) (fun b1 => K (.bool b1) h)
theorem E0 (S : Stop) (x0 : Addr) (h : Heap) (K : Value → Heap → Prop) :
    (E Try.prog X T S body (fin Try.prog Try.f17.results.toList K) (args0 0 [(.pointer (some x0))]) h) = J0 x0 h K := by kernel_rfl
def w (x0 : Addr) (h : Heap) (K : Value → Heap → Prop) : Prop :=
  J0 x0 h K
theorem e0 (K : Value → Heap → Prop) (x0 : Addr) (h : Heap) : (E Try.prog X T S0 body (fin Try.prog Try.f17.results.toList K) (args0 0 [(.pointer (some x0))]) h) = w x0 h K :=
  (E0 S0 x0 h K).trans (rfl)
theorem hb : Try.f17.body = some body := by kernel_rfl
theorem ok : okCode T Try.f17.ntmps body = true := by kernel_rfl
theorem spec (x0 : Addr) (h : Heap) (K : Value → Heap → Prop) (H : w x0 h K) : CallsH Try.prog 17 [(.pointer (some x0))] h K :=
  calls_of_E (T := T) Xok mix Try.func17 hb ok rfl (by rw [e0]; exact H)
end F17
-- (*spinney/utable.Finder).Slot
namespace F18
def T : Hint := ⟨[], [(1, [[(0, []), (1, []), (2, []), (3, []), (4, []), (5, []), (6, []), (7, []), (8, []), (9, [])]])]⟩
noncomputable def body : Code := (Try.f18.body).getD .skip
def J0 (x0 : Addr) (h : Heap) (K : Value → Heap → Prop) : Prop :=
  ldI .i64 (rd h (Addr.add x0 6)) (fun n1 => ldI .i64 (rd h (Addr.add x0 7)) (fun n2 => K (.tuple #[(.int .i64 n1), (.int .i64 n2)]) h))
theorem E0 (S : Stop) (x0 : Addr) (h : Heap) (K : Value → Heap → Prop) :
    (E Try.prog X T S body (fin Try.prog Try.f18.results.toList K) (args0 0 [(.pointer (some x0))]) h) = J0 x0 h K := by kernel_rfl
def w (x0 : Addr) (h : Heap) (K : Value → Heap → Prop) : Prop :=
  J0 x0 h K
theorem e0 (K : Value → Heap → Prop) (x0 : Addr) (h : Heap) : (E Try.prog X T S0 body (fin Try.prog Try.f18.results.toList K) (args0 0 [(.pointer (some x0))]) h) = w x0 h K :=
  (E0 S0 x0 h K).trans (rfl)
theorem hb : Try.f18.body = some body := by kernel_rfl
theorem ok : okCode T Try.f18.ntmps body = true := by kernel_rfl
theorem spec (x0 : Addr) (h : Heap) (K : Value → Heap → Prop) (H : w x0 h K) : CallsH Try.prog 18 [(.pointer (some x0))] h K :=
  calls_of_E (T := T) Xok mix Try.func18 hb ok rfl (by rw [e0]; exact H)
end F18
-- (*spinney/utable.Finder).Made
namespace F21
def T : Hint := ⟨[], []⟩
noncomputable def body : Code := (Try.f21.body).getD .skip
def J0 (x0 : Addr) (h : Heap) (K : Value → Heap → Prop) : Prop :=
  ldB (rd h (Addr.add x0 8)) (fun b1 => K (.bool b1) h)
theorem E0 (S : Stop) (x0 : Addr) (h : Heap) (K : Value → Heap → Prop) :
    (E Try.prog X T S body (fin Try.prog Try.f21.results.toList K) (args0 0 [(.pointer (some x0))]) h) = J0 x0 h K := by kernel_rfl
def w (x0 : Addr) (h : Heap) (K : Value → Heap → Prop) : Prop :=
  J0 x0 h K
theorem e0 (K : Value → Heap → Prop) (x0 : Addr) (h : Heap) : (E Try.prog X T S0 body (fin Try.prog Try.f21.results.toList K) (args0 0 [(.pointer (some x0))]) h) = w x0 h K :=
  (E0 S0 x0 h K).trans (rfl)
theorem hb : Try.f21.body = some body := by kernel_rfl
theorem ok : okCode T Try.f21.ntmps body = true := by kernel_rfl
theorem spec (x0 : Addr) (h : Heap) (K : Value → Heap → Prop) (H : w x0 h K) : CallsH Try.prog 21 [(.pointer (some x0))] h K :=
  calls_of_E (T := T) Xok mix Try.func21 hb ok rfl (by rw [e0]; exact H)
end F21
-- (*spinney/utable.Table).At
namespace F19
def T : Hint := ⟨[], [(3, [[(0, []), (1, []), (2, []), (3, []), (4, []), (5, []), (6, []), (7, []), (8, []), (9, []), (10, []), (11, [])]])]⟩
noncomputable def body : Code := (Try.f19.body).getD .skip
def J0 (x0 : Addr) (x1 : Int) (h : Heap) (K : Value → Heap → Prop) : Prop :=
  bcase (decide (x1 < (0 : Int))) (K (.int .u64 (0 : Int)) h) (ldI .i64 (rd h (Addr.add x0 2)) (fun n1 => bcase (decide (x1 ≥ n1)) (K (.int .u64 (0 : Int)) h) (ldP (rd h (Addr.add x0 0)) (fun p2 => ldI .i64 (rd h (Addr.add x0 1)) (fun n3 => CallsH Try.prog 35 [(.pointer p2), (.int .i64 (IntKind.wrap .i64 (n3 + x1)))] h (fun v4 h5 => ldI .u64 (some v4) (fun n6 => K (.int .u64 n6) h5)))))))
theorem E0 (S : Stop) (x0 : Addr) (x1 : Int) (h : Heap) (K : Value → Heap → Prop) :
    (E Try.prog X T S body (fin Try.prog Try.f19.results.toList K) (args0 0 [(.pointer (some x0)), (.int .i64 x1)]) h) = J0 x0 x1 h K := by kernel_rfl
def w (x0 : Addr) (x1 : Int) (h : Heap) (K : Value → Heap → Prop) : Prop :=
  J0 x0 x1 h K
theorem e0 (K : Value → Heap → Prop) (x0 : Addr) (x1 : Int) (h : Heap) : (E Try.prog X T S0 body (fin Try.prog Try.f19.results.toList K) (args0 0 [(.pointer (some x0)), (.int .i64 x1)]) h) = w x0 x1 h K :=
  (E0 S0 x0 x1 h K).trans (rfl)
theorem hb : Try.f19.body = some body := by kernel_rfl
theorem ok : okCode T Try.f19.ntmps body = true := by kernel_rfl
theorem spec (x0 : Addr) (x1 : Int) (h : Heap) (K : Value → Heap → Prop) (H : w x0 x1 h K) : CallsH Try.prog 19 [(.pointer (some x0)), (.int .i64 x1)] h K :=
  calls_of_E (T := T) Xok mix Try.func19 hb ok rfl (by rw [e0]; exact H)
end F19
-- (*spinney/utable.Table).Len
namespace F20
def T : Hint := ⟨[(3, [0, 3, 8, 9])], []⟩
noncomputable def body : Code := (Try.f20.body).getD .skip
def c0 (S : Stop) (K : Value → Heap → Prop) : Exit → Fr → Heap → Prop := seqN S (cutQ T (sub body [1, 1, 1])) (E Try.prog X T S (sub body [1, 1, 1]) (fin Try.prog Try.f20.results.toList K)) (fin Try.prog Try.f20.results.toList K)
def c1 (S : Stop) (K : Value → Heap → Prop) : Exit → Fr → Heap → Prop := blockN 0 (c0 S K)
def c2 (S : Stop) (n3 : Nat) (K : Value → Heap → Prop) : Exit → Fr → Heap → Prop := backN S (cutQ T (sub body [1, 1, 0, 1, 0, 0])) (loopN S (E Try.prog X T S (sub body [1, 1, 0, 1, 0, 0])) (cutQ T (sub body [1, 1, 0, 1, 0, 0])) (c1 S K) n3) (c1 S K)
def J0 (k3 : Addr → Int → Int → Int → Heap → Prop) (x0 : Addr) (h : Heap) (_K : Value → Heap → Prop) : Prop :=
  ldI .i64 (rd h (Addr.add x0 2)) (fun n1 => k3 x0 (0 : Int) n1 (0 : Int) h)
theorem E0 (S : Stop) (x0 : Addr) (h : Heap) (K : Value → Heap → Prop) :
    (E Try.prog X T S body (fin Try.prog Try.f20.results.toList K) (args0 0 [(.pointer (some x0))]) h) = J0 (fun x0 x3 x8 x9 h => S (E Try.prog X T S (sub body [1, 1, 0, 1]) (c0 S K)) [(0, (.pointer (some x0))), (3, (.int .i64 x3)), (8, (.int .i64 x8)), (9, (.int .i64 x9))] h) x0 h K := by kernel_rfl
def Jk3 (lp3 : Addr → Int → Int → Int → Heap → Prop) (x0 : Addr) (x3 : Int) (x8 : Int) (x9 : Int) (h : Heap) (_K : Value → Heap → Prop) : Prop :=
  lp3 x0 x3 x8 x9 h
theorem Ek3 (S : Stop) (x0 : Addr) (x3 : Int) (x8 : Int) (x9 : Int) (h : Heap) (K : Value → Heap → Prop) :
    (E Try.prog X T S (sub body [1, 1, 0, 1]) (c0 S K) [(0, (.pointer (some x0))), (3, (.int .i64 x3)), (8, (.int .i64 x8)), (9, (.int .i64 x9))] h) = Jk3 (fun x0 x3 x8 x9 h => ∃ n, S (loopN S (E Try.prog X T S (sub body [1, 1, 0, 1, 0, 0])) (cutQ T (sub body [1, 1, 0, 1, 0, 0])) (c1 S K) n) [(0, (.pointer (some x0))), (3, (.int .i64 x3)), (8, (.int .i64 x8)), (9, (.int .i64 x9))] h) x0 x3 x8 x9 h K := by kernel_rfl
def JL3 (bk3 : Addr → Int → Int → Int → Heap → Prop) (x0 : Addr) (x3 : Int) (x8 : Int) (x9 : Int) (h : Heap) (K : Value → Heap → Prop) : Prop :=
  bcase (decide (x9 < x8)) (CallsH Try.prog 19 [(.pointer (some x0)), (.int .i64 x9)] h (fun v1 h2 => ldI .u64 (some v1) (fun n3 => bcase (n3 != (0 : Int)) (bk3 x0 (IntKind.wrap .i64 (x3 + (1 : Int))) x8 (IntKind.wrap .i64 (x9 + (1 : Int))) h2) (bk3 x0 x3 x8 (IntKind.wrap .i64 (x9 + (1 : Int))) h2)))) (K (.int .i64 x3) h)
theorem EL3 (S : Stop) (n3 : Nat) (x0 : Addr) (x3 : Int) (x8 : Int) (x9 : Int) (h : Heap) (K : Value → Heap → Prop) :
    (E Try.prog X T S (sub body [1, 1, 0, 1, 0, 0]) (c2 S n3 K) [(0, (.pointer (some x0))), (3, (.int .i64 x3)), (8, (.int .i64 x8)), (9, (.int .i64 x9))] h) = JL3 (fun x0 x3 x8 x9 h => S (loopN S (E Try.prog X T S (sub body [1, 1, 0, 1, 0, 0])) (cutQ T (sub body [1, 1, 0, 1, 0, 0])) (c1 S K) n3) [(0, (.pointer (some x0))), (3, (.int .i64 x3)), (8, (.int .i64 x8)), (9, (.int .i64 x9))] h) x0 x3 x8 x9 h K := by kernel_rfl
def wL3 : Nat → Addr → Int → Int → Int → Heap → (Value → Heap → Prop) → Prop
  | 0, _, _, _, _, _, _ => False
  | n + 1, x0, x3, x8, x9, h, K => JL3 (fun x0 x3 x8 x9 h => wL3 n x0 x3 x8 x9 h K) x0 x3 x8 x9 h K
theorem eL3 (K : Value → Heap → Prop) : ∀ (n : Nat) (x0 : Addr) (x3 : Int) (x8 : Int) (x9 : Int) (h : Heap), (loopN S0 (E Try.prog X T S0 (sub body [1, 1, 0, 1, 0, 0])) (cutQ T (sub body [1, 1, 0, 1, 0, 0])) (c1 S0 K) n [(0, (.pointer (some x0))), (3, (.int .i64 x3)), (8, (.int .i64 x8)), (9, (.int .i64 x9))] h) = wL3 n x0 x3 x8 x9 h K
  | 0, _, _, _, _, _ => rfl
  | n + 1, x0, x3, x8, x9, h => (EL3 S0 n x0 x3 x8 x9 h K).trans (congrFun (congrFun (congrFun (congrFun (congrFun (congrFun (congrArg JL3 (funext fun x0 => funext fun x3 => funext fun x8 => funext fun x9 => funext fun h => (fun x0 x3 x8 x9 h => eL3 K n x0 x3 x8 x9 h) x0 x3 x8 x9 h)) x0) x3) x8) x9) h) K)
def wk3 (x0 : Addr) (x3 : Int) (x8 : Int) (x9 : Int) (h : Heap) (K : Value → Heap → Prop) : Prop :=
  Jk3 (fun x0 x3 x8 x9 h => ∃ n, wL3 n x0 x3 x8 x9 h K) x0 x3 x8 x9 h K
theorem ek3 (K : Value → Heap → Prop) (x0 : Addr) (x3 : Int) (x8 : Int) (x9 : Int) (h : Heap) : (E Try.prog X T S0 (sub body [1, 1, 0, 1]) (c0 S0 K) [(0, (.pointer (some x0))), (3, (.int .i64 x3)), (8, (.int .i64 x8)), (9, (.int .i64 x9))] h) = wk3 x0 x3 x8 x9 h K :=
  (Ek3 S0 x0 x3 x8 x9 h K).trans (congrFun (congrFun (congrFun (congrFun (congrFun (congrFun (congrArg Jk3 (funext fun x0 => funext fun x3 => funext fun x8 => funext fun x9 => funext fun h => congrArg (fun p : Nat → Prop => ∃ n, p n) (funext fun n => eL3 K n x0 x3 x8 x9 h))) x0) x3) x8) x9) h) K)
def w (x0 : Addr) (h : Heap) (K : Value → Heap → Prop) : Prop :=
  J0 (fun x0 x3 x8 x9 h => wk3 x0 x3 x8 x9 h K) x0 h K
theorem e0 (K : Value → Heap → Prop) (x0 : Addr) (h : Heap) : (E Try.prog X T S0 body (fin Try.prog Try.f20.results.toList K) (args0 0 [(.pointer (some x0))]) h) = w x0 h K :=
  (E0 S0 x0 h K).trans (congrFun (congrFun (congrFun (congrArg J0 (funext fun x0 => funext fun x3 => funext fun x8 => funext fun x9 => funext fun h => ek3 K x0 x3 x8 x9 h)) x0) h) K)
theorem hb : Try.f20.body = some body := by kernel_rfl
theorem ok : okCode T Try.f20.ntmps body = true := by kernel_rfl
theorem spec (x0 : Addr) (h : Heap) (K : Value → Heap → Prop) (H : w x0 h K) : CallsH Try.prog 20 [(.pointer (some x0))] h K :=
  calls_of_E (T := T) Xok mix Try.func20 hb ok rfl (by rw [e0]; exact H)
end F20
-- (*spinney/utable.Table).Has
namespace F22
def T : Hint := ⟨[(2, [0, 1, 10, 11])], []⟩
noncomputable def body : Code := (Try.f22.body).getD .skip
def c0 (S : Stop) (K : Value → Heap → Prop) : Exit → Fr → Heap → Prop := seqN S (cutQ T (sub body [1, 1])) (E Try.prog X T S (sub body [1, 1]) (fin Try.prog Try.f22.results.toList K)) (fin Try.prog Try.f22.results.toList K)
def c1 (S : Stop) (K : Value → Heap → Prop) : Exit → Fr → Heap → Prop := blockN 0 (c0 S K)
def c2 (S : Stop) (n2 : Nat) (K : Value → Heap → Prop) : Exit → Fr → Heap → Prop := backN S (cutQ T (sub body [1, 0, 1, 0, 0])) (loopN S (E Try.prog X T S (sub body [1, 0, 1, 0, 0])) (cutQ T (sub body [1, 0, 1, 0, 0])) (c1 S K) n2) (c1 S K)
def J0 (k2 : Addr → Int → Int → Int → Heap → Prop) (x0 : Addr) (x1 : Int) (h : Heap) (_K : Value → Heap → Prop) : Prop :=
  ldI .i64 (rd h (Addr.add x0 2)) (fun n1 => k2 x0 x1 n1 (0 : Int) h)
theorem E0 (S : Stop) (x0 : Addr) (x1 : Int) (h : Heap) (K : Value → Heap → Prop) :
    (E Try.prog X T S body (fin Try.prog Try.f22.results.toList K) (args0 0 [(.pointer (some x0)), (.int .u64 x1)]) h) = J0 (fun x0 x1 x10 x11 h => S (E Try.prog X T S (sub body [1, 0, 1]) (c0 S K)) [(0, (.pointer (some x0))), (1, (.int .u64 x1)), (10, (.int .i64 x10)), (11, (.int .i64 x11))] h) x0 x1 h K := by kernel_rfl
def Jk2 (lp2 : Addr → Int → Int → Int → Heap → Prop) (x0 : Addr) (x1 : Int) (x10 : Int) (x11 : Int) (h : Heap) (_K : Value → Heap → Prop) : Prop :=
  lp2 x0 x1 x10 x11 h
theorem Ek2 (S : Stop) (x0 : Addr) (x1 : Int) (x10 : Int) (x11 : Int) (h : Heap) (K : Value → Heap → Prop) :
    (E Try.prog X T S (sub body [1, 0, 1]) (c0 S K) [(0, (.pointer (some x0))), (1, (.int .u64 x1)), (10, (.int .i64 x10)), (11, (.int .i64 x11))] h) = Jk2 (fun x0 x1 x10 x11 h => ∃ n, S (loopN S (E Try.prog X T S (sub body [1, 0, 1, 0, 0])) (cutQ T (sub body [1, 0, 1, 0, 0])) (c1 S K) n) [(0, (.pointer (some x0))), (1, (.int .u64 x1)), (10, (.int .i64 x10)), (11, (.int .i64 x11))] h) x0 x1 x10 x11 h K := by kernel_rfl
def JL2 (bk2 : Addr → Int → Int → Int → Heap → Prop) (x0 : Addr) (x1 : Int) (x10 : Int) (x11 : Int) (h : Heap) (K : Value → Heap → Prop) : Prop :=
  bcase (decide (x11 < x10)) (bcase (x1 != (0 : Int)) (CallsH Try.prog 19 [(.pointer (some x0)), (.int .i64 x11)] h (fun v1 h2 => ldI .u64 (some v1) (fun n3 => bcase (n3 == x1) (K (.tuple #[(.int .i64 x11), (.bool true)]) h2) (bk2 x0 x1 x10 (IntKind.wrap .i64 (x11 + (1 : Int))) h2)))) (bk2 x0 x1 x10 (IntKind.wrap .i64 (x11 + (1 : Int))) h)) (K (.tuple #[(.int .i64 (-1 : Int)), (.bool false)]) h)
theorem EL2 (S : Stop) (n2 : Nat) (x0 : Addr) (x1 : Int) (x10 : Int) (x11 : Int) (h : Heap) (K : Value → Heap → Prop) :
    (E Try.prog X T S (sub body [1, 0, 1, 0, 0]) (c2 S n2 K) [(0, (.pointer (some x0))), (1, (.int .u64 x1)), (10, (.int .i64 x10)), (11, (.int .i64 x11))] h) = JL2 (fun x0 x1 x10 x11 h => S (loopN S (E Try.prog X T S (sub body [1, 0, 1, 0, 0])) (cutQ T (sub body [1, 0, 1, 0, 0])) (c1 S K) n2) [(0, (.pointer (some x0))), (1, (.int .u64 x1)), (10, (.int .i64 x10)), (11, (.int .i64 x11))] h) x0 x1 x10 x11 h K := by kernel_rfl
def wL2 : Nat → Addr → Int → Int → Int → Heap → (Value → Heap → Prop) → Prop
  | 0, _, _, _, _, _, _ => False
  | n + 1, x0, x1, x10, x11, h, K => JL2 (fun x0 x1 x10 x11 h => wL2 n x0 x1 x10 x11 h K) x0 x1 x10 x11 h K
theorem eL2 (K : Value → Heap → Prop) : ∀ (n : Nat) (x0 : Addr) (x1 : Int) (x10 : Int) (x11 : Int) (h : Heap), (loopN S0 (E Try.prog X T S0 (sub body [1, 0, 1, 0, 0])) (cutQ T (sub body [1, 0, 1, 0, 0])) (c1 S0 K) n [(0, (.pointer (some x0))), (1, (.int .u64 x1)), (10, (.int .i64 x10)), (11, (.int .i64 x11))] h) = wL2 n x0 x1 x10 x11 h K
  | 0, _, _, _, _, _ => rfl
  | n + 1, x0, x1, x10, x11, h => (EL2 S0 n x0 x1 x10 x11 h K).trans (congrFun (congrFun (congrFun (congrFun (congrFun (congrFun (congrArg JL2 (funext fun x0 => funext fun x1 => funext fun x10 => funext fun x11 => funext fun h => (fun x0 x1 x10 x11 h => eL2 K n x0 x1 x10 x11 h) x0 x1 x10 x11 h)) x0) x1) x10) x11) h) K)
def wk2 (x0 : Addr) (x1 : Int) (x10 : Int) (x11 : Int) (h : Heap) (K : Value → Heap → Prop) : Prop :=
  Jk2 (fun x0 x1 x10 x11 h => ∃ n, wL2 n x0 x1 x10 x11 h K) x0 x1 x10 x11 h K
theorem ek2 (K : Value → Heap → Prop) (x0 : Addr) (x1 : Int) (x10 : Int) (x11 : Int) (h : Heap) : (E Try.prog X T S0 (sub body [1, 0, 1]) (c0 S0 K) [(0, (.pointer (some x0))), (1, (.int .u64 x1)), (10, (.int .i64 x10)), (11, (.int .i64 x11))] h) = wk2 x0 x1 x10 x11 h K :=
  (Ek2 S0 x0 x1 x10 x11 h K).trans (congrFun (congrFun (congrFun (congrFun (congrFun (congrFun (congrArg Jk2 (funext fun x0 => funext fun x1 => funext fun x10 => funext fun x11 => funext fun h => congrArg (fun p : Nat → Prop => ∃ n, p n) (funext fun n => eL2 K n x0 x1 x10 x11 h))) x0) x1) x10) x11) h) K)
def w (x0 : Addr) (x1 : Int) (h : Heap) (K : Value → Heap → Prop) : Prop :=
  J0 (fun x0 x1 x10 x11 h => wk2 x0 x1 x10 x11 h K) x0 x1 h K
theorem e0 (K : Value → Heap → Prop) (x0 : Addr) (x1 : Int) (h : Heap) : (E Try.prog X T S0 body (fin Try.prog Try.f22.results.toList K) (args0 0 [(.pointer (some x0)), (.int .u64 x1)]) h) = w x0 x1 h K :=
  (E0 S0 x0 x1 h K).trans (congrFun (congrFun (congrFun (congrFun (congrArg J0 (funext fun x0 => funext fun x1 => funext fun x10 => funext fun x11 => funext fun h => ek2 K x0 x1 x10 x11 h)) x0) x1) h) K)
theorem hb : Try.f22.body = some body := by kernel_rfl
theorem ok : okCode T Try.f22.ntmps body = true := by kernel_rfl
theorem spec (x0 : Addr) (x1 : Int) (h : Heap) (K : Value → Heap → Prop) (H : w x0 x1 h K) : CallsH Try.prog 22 [(.pointer (some x0)), (.int .u64 x1)] h K :=
  calls_of_E (T := T) Xok mix Try.func22 hb ok rfl (by rw [e0]; exact H)
end F22
-- (*spinney/utable.Table).Clear
namespace F23
def T : Hint := ⟨[(1, [0, 6, 7])], [(3, [[(0, []), (1, []), (2, []), (3, []), (4, []), (5, []), (6, []), (7, []), (8, []), (9, []), (10, [])]])]⟩
noncomputable def body : Code := (Try.f23.body).getD .skip
def c0 (_S : Stop) (K : Value → Heap → Prop) : Exit → Fr → Heap → Prop := blockN 0 (fin Try.prog Try.f23.results.toList K)
def c1 (S : Stop) (n1 : Nat) (K : Value → Heap → Prop) : Exit → Fr → Heap → Prop := backN S (cutQ T (sub body [1, 0, 0])) (loopN S (E Try.prog X T S (sub body [1, 0, 0])) (cutQ T (sub body [1, 0, 0])) (c0 S K) n1) (c0 S K)
def J0 (k1 : Addr → Int → Int → Heap → Prop) (x0 : Addr) (h : Heap) (_K : Value → Heap → Prop) : Prop :=
  ldI .i64 (rd h (Addr.add x0 2)) (fun n1 => k1 x0 n1 (0 : Int) h)
theorem E0 (S : Stop) (x0 : Addr) (h : Heap) (K : Value → Heap → Prop) :
    (E Try.prog X T S body (fin Try.prog Try.f23.results.toList K) (args0 0 [(.pointer (some x0))]) h) = J0 (fun x0 x6 x7 h => S (E Try.prog X T S (sub body [1]) (fin Try.prog Try.f23.results.toList K)) [(0, (.pointer (some x0))), (6, (.int .i64 x6)), (7, (.int .i64 x7))] h) x0 h K := by kernel_rfl
def Jk1 (lp1 : Addr → Int → Int → Heap → Prop) (x0 : Addr) (x6 : Int) (x7 : Int) (h : Heap) (_K : Value → Heap → Prop) : Prop :=
  lp1 x0 x6 x7 h
theorem Ek1 (S : Stop) (x0 : Addr) (x6 : Int) (x7 : Int) (h : Heap) (K : Value → Heap → Prop) :
    (E Try.prog X T S (sub body [1]) (fin Try.prog Try.f23.results.toList K) [(0, (.pointer (some x0))), (6, (.int .i64 x6)), (7, (.int .i64 x7))] h) = Jk1 (fun x0 x6 x7 h => ∃ n, S (loopN S (E Try.prog X T S (sub body [1, 0, 0])) (cutQ T (sub body [1, 0, 0])) (c0 S K) n) [(0, (.pointer (some x0))), (6, (.int .i64 x6)), (7, (.int .i64 x7))] h) x0 x6 x7 h K := by kernel_rfl
def JL1 (bk1 : Addr → Int → Int → Heap → Prop) (x0 : Addr) (x6 : Int) (x7 : Int) (h : Heap) (K : Value → Heap → Prop) : Prop :=
  bcase (decide (x7 < x6)) (ldP (rd h (Addr.add x0 0)) (fun p1 => ldI .i64 (rd h (Addr.add x0 1)) (fun n2 => CallsH Try.prog 34 [(.pointer p1), (.int .i64 (IntKind.wrap .i64 (n2 + x7))), (.int .u64 (0 : Int))] h (fun v3 h4 => (v3 = (.tuple #[]) ∧ bk1 x0 x6 (IntKind.wrap .i64 (x7 + (1 : Int))) h4))))) (K (.tuple #[]) h)
theorem EL1 (S : Stop) (n1 : Nat) (x0 : Addr) (x6 : Int) (x7 : Int) (h : Heap) (K : Value → Heap → Prop) :
    (E Try.prog X T S (sub body [1, 0, 0]) (c1 S n1 K) [(0, (.pointer (some x0))), (6, (.int .i64 x6)), (7, (.int .i64 x7))] h) = JL1 (fun x0 x6 x7 h => S (loopN S (E Try.prog X T S (sub body [1, 0, 0])) (cutQ T (sub body [1, 0, 0])) (c0 S K) n1) [(0, (.pointer (some x0))), (6, (.int .i64 x6)), (7, (.int .i64 x7))] h) x0 x6 x7 h K := by kernel_rfl
def wL1 : Nat → Addr → Int → Int → Heap → (Value → Heap → Prop) → Prop
  | 0, _, _, _, _, _ => False
  | n + 1, x0, x6, x7, h, K => JL1 (fun x0 x6 x7 h => wL1 n x0 x6 x7 h K) x0 x6 x7 h K
theorem eL1 (K : Value → Heap → Prop) : ∀ (n : Nat) (x0 : Addr) (x6 : Int) (x7 : Int) (h : Heap), (loopN S0 (E Try.prog X T S0 (sub body [1, 0, 0])) (cutQ T (sub body [1, 0, 0])) (c0 S0 K) n [(0, (.pointer (some x0))), (6, (.int .i64 x6)), (7, (.int .i64 x7))] h) = wL1 n x0 x6 x7 h K
  | 0, _, _, _, _ => rfl
  | n + 1, x0, x6, x7, h => (EL1 S0 n x0 x6 x7 h K).trans (congrFun (congrFun (congrFun (congrFun (congrFun (congrArg JL1 (funext fun x0 => funext fun x6 => funext fun x7 => funext fun h => (fun x0 x6 x7 h => eL1 K n x0 x6 x7 h) x0 x6 x7 h)) x0) x6) x7) h) K)
def wk1 (x0 : Addr) (x6 : Int) (x7 : Int) (h : Heap) (K : Value → Heap → Prop) : Prop :=
  Jk1 (fun x0 x6 x7 h => ∃ n, wL1 n x0 x6 x7 h K) x0 x6 x7 h K
theorem ek1 (K : Value → Heap → Prop) (x0 : Addr) (x6 : Int) (x7 : Int) (h : Heap) : (E Try.prog X T S0 (sub body [1]) (fin Try.prog Try.f23.results.toList K) [(0, (.pointer (some x0))), (6, (.int .i64 x6)), (7, (.int .i64 x7))] h) = wk1 x0 x6 x7 h K :=
  (Ek1 S0 x0 x6 x7 h K).trans (congrFun (congrFun (congrFun (congrFun (congrFun (congrArg Jk1 (funext fun x0 => funext fun x6 => funext fun x7 => funext fun h => congrArg (fun p : Nat → Prop => ∃ n, p n) (funext fun n => eL1 K n x0 x6 x7 h))) x0) x6) x7) h) K)
def w (x0 : Addr) (h : Heap) (K : Value → Heap → Prop) : Prop :=
  J0 (fun x0 x6 x7 h => wk1 x0 x6 x7 h K) x0 h K
theorem e0 (K : Value → Heap → Prop) (x0 : Addr) (h : Heap) : (E Try.prog X T S0 body (fin Try.prog Try.f23.results.toList K) (args0 0 [(.pointer (some x0))]) h) = w x0 h K :=
  (E0 S0 x0 h K).trans (congrFun (congrFun (congrFun (congrArg J0 (funext fun x0 => funext fun x6 => funext fun x7 => funext fun h => ek1 K x0 x6 x7 h)) x0) h) K)
theorem hb : Try.f23.body = some body := by kernel_rfl
theorem ok : okCode T Try.f23.ntmps body = true := by kernel_rfl
theorem spec (x0 : Addr) (h : Heap) (K : Value → Heap → Prop) (H : w x0 h K) : CallsH Try.prog 23 [(.pointer (some x0))] h K :=
  calls_of_E (T := T) Xok mix Try.func23 hb ok rfl (by rw [e0]; exact H)
end F23
-- (*spinney/utable.Table).Slots
namespace F26
def T : Hint := ⟨[], []⟩
noncomputable def body : Code := (Try.f26.body).getD .skip
def J0 (x0 : Addr) (h : Heap) (K : Value → Heap → Prop) : Prop :=
  ldI .i64 (rd h (Addr.add x0 2)) (fun n1 => K (.int .i64 n1) h)
theorem E0 (S : Stop) (x0 : Addr) (h : Heap) (K : Value → Heap → Prop) :
    (E Try.prog X T S body (fin Try.prog Try.f26.results.toList K) (args0 0 [(.pointer (some x0))]) h) = J0 x0 h K := by kernel_rfl
def w (x0 : Addr) (h : Heap) (K : Value → Heap → Prop) : Prop :=
  J0 x0 h K
theorem e0 (K : Value → Heap → Prop) (x0 : Addr) (h : Heap) : (E Try.prog X T S0 body (fin Try.prog Try.f26.results.toList K) (args0 0 [(.pointer (some x0))]) h) = w x0 h K :=
  (E0 S0 x0 h K).trans (rfl)
theorem hb : Try.f26.body = some body := by kernel_rfl
theorem ok : okCode T Try.f26.ntmps body = true := by kernel_rfl
theorem spec (x0 : Addr) (h : Heap) (K : Value → Heap → Prop) (H : w x0 h K) : CallsH Try.prog 26 [(.pointer (some x0))] h K :=
  calls_of_E (T := T) Xok mix Try.func26 hb ok rfl (by rw [e0]; exact H)
end F26
end Go.Proofs.Ytbjdjgdbkfjglaa.Ev
