/- PRINTED BY PROGRAM: what each of these functions does, computed over heaps by the evaluator, and that its calls do so. Conditions: none. -/
import Derived.Test.YtipckkeaoncjiaaDeqA40
import Derived.Test.YtipckkeaoncjiaaDeqA41
import Derived.Test.YtipckkeaoncjiaaDeqA42
namespace Go.Proofs.Ytipckkeaoncjiaa.Ev
open Go
-- (*spinney/deque.Deque).Push
namespace F16
def T : Hint := ⟨[], []⟩
noncomputable def body : Code := (Try.f16.body).getD .skip
def J0 (x0 : Addr) (x1 : Int) (h : Heap) (K : Value → Heap → Prop) : Prop :=
  CallsH Try.prog 39 [(.pointer (some x0)), (.int .u64 x1), (.func (.func 40) #[] #[])] h (fun v1 h2 => ldP (some v1) (fun p3 => K (.pointer p3) h2))
theorem E0 (S : Stop) (x0 : Addr) (x1 : Int) (h : Heap) (K : Value → Heap → Prop) :
    (E Try.prog X T S body (fin Try.prog Try.f16.results.toList K) (args0 0 [(.pointer (some x0)), (.int .u64 x1)]) h) = J0 x0 x1 h K := by kernel_rfl
def w (x0 : Addr) (x1 : Int) (h : Heap) (K : Value → Heap → Prop) : Prop :=
  J0 x0 x1 h K
theorem e0 (K : Value → Heap → Prop) (x0 : Addr) (x1 : Int) (h : Heap) : (E Try.prog X T S0 body (fin Try.prog Try.f16.results.toList K) (args0 0 [(.pointer (some x0)), (.int .u64 x1)]) h) = w x0 x1 h K :=
  (E0 S0 x0 x1 h K).trans (rfl)
theorem hb : Try.f16.body = some body := by kernel_rfl
theorem ok : okCode T Try.f16.ntmps body = true := by kernel_rfl
theorem spec (x0 : Addr) (x1 : Int) (h : Heap) (K : Value → Heap → Prop) (H : w x0 x1 h K) : CallsH Try.prog 16 [(.pointer (some x0)), (.int .u64 x1)] h K :=
  calls_of_E (T := T) Xok mix Try.func16 hb ok rfl (by rw [e0]; exact H)
end F16
-- (*spinney/deque.Deque).Pop
namespace F17
def T : Hint := ⟨[], []⟩
noncomputable def body : Code := (Try.f17.body).getD .skip
def J0 (x0 : Addr) (h : Heap) (K : Value → Heap → Prop) : Prop :=
  CallsH Try.prog 39 [(.pointer (some x0)), (.int .u64 (0 : Int)), (.func (.func 41) #[] #[])] h (fun v1 h2 => ldP (some v1) (fun p3 => K (.pointer p3) h2))
theorem E0 (S : Stop) (x0 : Addr) (h : Heap) (K : Value → Heap → Prop) :
    (E Try.prog X T S body (fin Try.prog Try.f17.results.toList K) (args0 0 [(.pointer (some x0))]) h) = J0 x0 h K := by kernel_rfl
def w (x0 : Addr) (h : Heap) (K : Value → Heap → Prop) : Prop :=
  J0 x0 h K
theorem e0 (K : Value → Heap → Prop) (x0 : Addr) (h : Heap) : (E Try.prog X T S0 body (fin Try.prog Try.f17.results.toList K) (args0 0 [(.pointer (some x0))]) h) = w x0 h K :=
  (E0 S0 x0 h K).trans (rfl)
theorem hb : Try.f17.body = some body := by kernel_rfl
theorem ok : okCode T Try.f17.ntmps body = true := by kernel_rfl
theorem spec (x0 : Addr) (h : Heap) (K : Value → Heap → Prop) (H : w x0 h K) : CallsH Try.prog 17 [(.pointer (some x0))] h K :=
  calls_of_E (T := T) Xok mix Try.func17 hb ok rfl (by rw [e0]; exact H)
end F17
-- (*spinney/deque.Deque).Steal
namespace F18
def T : Hint := ⟨[], []⟩
noncomputable def body : Code := (Try.f18.body).getD .skip
def J0 (x0 : Addr) (h : Heap) (K : Value → Heap → Prop) : Prop :=
  CallsH Try.prog 39 [(.pointer (some x0)), (.int .u64 (0 : Int)), (.func (.func 42) #[] #[])] h (fun v1 h2 => ldP (some v1) (fun p3 => K (.pointer p3) h2))
theorem E0 (S : Stop) (x0 : Addr) (h : Heap) (K : Value → Heap → Prop) :
    (E Try.prog X T S body (fin Try.prog Try.f18.results.toList K) (args0 0 [(.pointer (some x0))]) h) = J0 x0 h K := by kernel_rfl
def w (x0 : Addr) (h : Heap) (K : Value → Heap → Prop) : Prop :=
  J0 x0 h K
theorem e0 (K : Value → Heap → Prop) (x0 : Addr) (h : Heap) : (E Try.prog X T S0 body (fin Try.prog Try.f18.results.toList K) (args0 0 [(.pointer (some x0))]) h) = w x0 h K :=
  (E0 S0 x0 h K).trans (rfl)
theorem hb : Try.f18.body = some body := by kernel_rfl
theorem ok : okCode T Try.f18.ntmps body = true := by kernel_rfl
theorem spec (x0 : Addr) (h : Heap) (K : Value → Heap → Prop) (H : w x0 h K) : CallsH Try.prog 18 [(.pointer (some x0))] h K :=
  calls_of_E (T := T) Xok mix Try.func18 hb ok rfl (by rw [e0]; exact H)
end F18
end Go.Proofs.Ytipckkeaoncjiaa.Ev
