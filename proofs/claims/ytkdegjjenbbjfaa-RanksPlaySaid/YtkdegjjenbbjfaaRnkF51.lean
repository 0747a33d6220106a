/- PRINTED BY PROGRAM: what each of these functions does, computed over heaps by the evaluator, and that its calls do so. Conditions: none. -/
import Derived.Test.YtkdegjjenbbjfaaRnkF
namespace Go.Proofs.Ytkdegjjenbbjfaa.Ev.A51
open Go
-- (*spinney/ranks.Queue).first
namespace F50
def T : Hint := ⟨[], []⟩
noncomputable def body : Code := (Try.f50.body).getD .skip
def J0 (x0 : Addr) (x1_0 : Addr) (h : Heap) (K : Value → Heap → Prop) : Prop :=
  newK h (.cells #[(.int .i64 (0 : Int)), (.int .i64 (0 : Int))] 57) (fun b1 h2 => CallsH Try.prog 33 [(.pointer (some x0))] h2 (fun v3 h4 => ldI .i64 (some v3) (fun n5 => bcase (n5 == (0 : Int)) (stK h4 (Addr.add (Addr.mk b1 0 none) 0) (.int .i64 (0 : Int)) (fun h6 => stK h6 (Addr.add (Addr.mk b1 0 none) 1) (.int .i64 (0 : Int)) (fun h7 => ldI .i64 (rd h7 (Addr.add (Addr.mk b1 0 none) 0)) (fun n8 => ldI .i64 (rd h7 (Addr.add (Addr.mk b1 0 none) 1)) (fun n9 => K (.tuple #[(.agg #[(.int .i64 n8), (.int .i64 n9)]), (.bool false)]) h7))))) (CallsH Try.prog 51 [(.pointer (some x1_0))] h4 (fun v12 h13 => (∃ n14 : Int, ∃ n15 : Int, v12 = (.agg #[(.int .i64 n14), (.int .i64 n15)]) ∧ stK h13 (Addr.add (Addr.mk b1 0 none) 0) (.int .i64 n14) (fun h16 => stK h16 (Addr.add (Addr.mk b1 0 none) 1) (.int .i64 n15) (fun h17 => ldI .i64 (rd h17 (Addr.add (Addr.mk b1 0 none) 0)) (fun n18 => ldI .i64 (rd h17 (Addr.add (Addr.mk b1 0 none) 1)) (fun n19 => K (.tuple #[(.agg #[(.int .i64 n18), (.int .i64 n19)]), (.bool true)]) h17))))))))))
theorem E0 (S : Stop) (x0 : Addr) (x1_0 : Addr) (h : Heap) (K : Value → Heap → Prop) :
    (E Try.prog X T S body (fin Try.prog Try.f50.results.toList K) (args0 0 [(.pointer (some x0)), (.func (.func 51) #[(.pointer (some x1_0))] #[])]) h) = J0 x0 x1_0 h K := by kernel_rfl
def w (x0 : Addr) (x1_0 : Addr) (h : Heap) (K : Value → Heap → Prop) : Prop :=
  J0 x0 x1_0 h K
theorem e0 (K : Value → Heap → Prop) (x0 : Addr) (x1_0 : Addr) (h : Heap) : (E Try.prog X T S0 body (fin Try.prog Try.f50.results.toList K) (args0 0 [(.pointer (some x0)), (.func (.func 51) #[(.pointer (some x1_0))] #[])]) h) = w x0 x1_0 h K :=
  (E0 S0 x0 x1_0 h K).trans (rfl)
theorem hb : Try.f50.body = some body := by kernel_rfl
theorem ok : okCode T Try.f50.ntmps body = true := by kernel_rfl
theorem spec (x0 : Addr) (x1_0 : Addr) (h : Heap) (K : Value → Heap → Prop) (H : w x0 x1_0 h K) : CallsH Try.prog 50 [(.pointer (some x0)), (.func (.func 51) #[(.pointer (some x1_0))] #[])] h K :=
  calls_of_E (T := T) Xok mix Try.func50 hb ok rfl (by rw [e0]; exact H)
end F50
end Go.Proofs.Ytkdegjjenbbjfaa.Ev.A51
