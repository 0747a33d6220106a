/- PRINTED BY PROGRAM: what each of these functions does, computed over heaps by the evaluator, and that its calls do so. Conditions: none. -/
import Derived.Test.YtipckkeaoncjiaaDeqF
namespace Go.Proofs.Ytipckkeaoncjiaa.Ev.A40
open Go
-- (*spinney/deque.Deque).act
namespace F39
def T : Hint := ⟨[], []⟩
noncomputable def body : Code := (Try.f39.body).getD .skip
def J0 (x0 : Addr) (x1 : Int) (h : Heap) (K : Value → Heap → Prop) : Prop :=
  newK h (.cells #[(.func (.func 40) #[] #[])] 88) (fun b1 h2 => newK h2 (.cells #[(.pointer (some x0)), (.int .u64 x1), (.int .i64 (0 : Int)), (.int .i64 (0 : Int)), .nilFunc, (.bool false), (.bool false)] 95) (fun b3 h4 => newK h4 (.cells #[(.pointer none)] 35) (fun b5 h6 => stK h6 (Addr.add (Addr.mk b5 0 none) 0) (.pointer (some (Addr.mk b3 0 none))) (fun h7 => ldP (rd h7 (Addr.mk b5 0 none)) (fun p8 => ptrK p8 (fun a9 => stK h7 (Addr.add (Addr.add a9 4) 0) (.func (.func 57) #[] #[(.pointer (some (Addr.mk b1 0 none))), (.pointer (some (Addr.mk b5 0 none)))]) (fun h10 => ldP (rd h10 (Addr.mk b5 0 none)) (fun p11 => K (.pointer p11) h10))))))))
theorem E0 (S : Stop) (x0 : Addr) (x1 : Int) (h : Heap) (K : Value → Heap → Prop) :
    (E Try.prog X T S body (fin Try.prog Try.f39.results.toList K) (args0 0 [(.pointer (some x0)), (.int .u64 x1), (.func (.func 40) #[] #[])]) h) = J0 x0 x1 h K := by kernel_rfl
def w (x0 : Addr) (x1 : Int) (h : Heap) (K : Value → Heap → Prop) : Prop :=
  J0 x0 x1 h K
theorem e0 (K : Value → Heap → Prop) (x0 : Addr) (x1 : Int) (h : Heap) : (E Try.prog X T S0 body (fin Try.prog Try.f39.results.toList K) (args0 0 [(.pointer (some x0)), (.int .u64 x1), (.func (.func 40) #[] #[])]) h) = w x0 x1 h K :=
  (E0 S0 x0 x1 h K).trans (rfl)
theorem hb : Try.f39.body = some body := by kernel_rfl
theorem ok : okCode T Try.f39.ntmps body = true := by kernel_rfl
theorem spec (x0 : Addr) (x1 : Int) (h : Heap) (K : Value → Heap → Prop) (H : w x0 x1 h K) : CallsH Try.prog 39 [(.pointer (some x0)), (.int .u64 x1), (.func (.func 40) #[] #[])] h K :=
  calls_of_E (T := T) Xok mix Try.func39 hb ok rfl (by rw [e0]; exact H)
end F39
end Go.Proofs.Ytipckkeaoncjiaa.Ev.A40
