/- PRINTED BY PROGRAM: what each of these functions does, computed over heaps by the evaluator, and that its calls do so. Conditions: none. -/
import Derived.Test.YtkdegjjenbbjfaaRnkF51
import Derived.Test.YtkdegjjenbbjfaaRnkF55
namespace Go.Proofs.Ytkdegjjenbbjfaa.Ev
open Go
-- (*spinney/ranks.Queue).Pop
namespace F32
def T : Hint := ⟨[], []⟩
noncomputable def body : Code := (Try.f32.body).getD .skip
def J0 (x0 : Addr) (h : Heap) (K : Value → Heap → Prop) : Prop :=
  newK h (.cells #[(.int .i64 (0 : Int)), (.int .i64 (0 : Int))] 57) (fun b1 h2 => CallsH Try.prog 50 [(.pointer (some x0)), (.func (.func 51) #[(.pointer (some x0))] #[])] h2 (fun v3 h4 => (∃ n5 : Int, ∃ n6 : Int, ∃ b7 : Bool, v3 = (.tuple #[(.agg #[(.int .i64 n5), (.int .i64 n6)]), (.bool b7)]) ∧ stK h4 (Addr.add (Addr.mk b1 0 none) 0) (.int .i64 n5) (fun h8 => stK h8 (Addr.add (Addr.mk b1 0 none) 1) (.int .i64 n6) (fun h9 => ldI .i64 (rd h9 (Addr.add (Addr.mk b1 0 none) 0)) (fun n10 => ldI .i64 (rd h9 (Addr.add (Addr.mk b1 0 none) 1)) (fun n11 => K (.tuple #[(.agg #[(.int .i64 n10), (.int .i64 n11)]), (.bool b7)]) h9)))))))
theorem E0 (S : Stop) (x0 : Addr) (h : Heap) (K : Value → Heap → Prop) :
    (E Try.prog X T S body (fin Try.prog Try.f32.results.toList K) (args0 0 [(.pointer (some x0))]) h) = J0 x0 h K := by kernel_rfl
def w (x0 : Addr) (h : Heap) (K : Value → Heap → Prop) : Prop :=
  J0 x0 h K
theorem e0 (K : Value → Heap → Prop) (x0 : Addr) (h : Heap) : (E Try.prog X T S0 body (fin Try.prog Try.f32.results.toList K) (args0 0 [(.pointer (some x0))]) h) = w x0 h K :=
  (E0 S0 x0 h K).trans (rfl)
theorem hb : Try.f32.body = some body := by kernel_rfl
theorem ok : okCode T Try.f32.ntmps body = true := by kernel_rfl
theorem spec (x0 : Addr) (h : Heap) (K : Value → Heap → Prop) (H : w x0 h K) : CallsH Try.prog 32 [(.pointer (some x0))] h K :=
  calls_of_E (T := T) Xok mix Try.func32 hb ok rfl (by rw [e0]; exact H)
end F32
-- (*spinney/ranks.Queue).Top
namespace F37
def T : Hint := ⟨[], []⟩
noncomputable def body : Code := (Try.f37.body).getD .skip
def J0 (x0 : Addr) (h : Heap) (K : Value → Heap → Prop) : Prop :=
  newK h (.cells #[(.int .i64 (0 : Int)), (.int .i64 (0 : Int))] 57) (fun b1 h2 => CallsH Try.prog 50 [(.pointer (some x0)), (.func (.func 55) #[(.pointer (some x0))] #[])] h2 (fun v3 h4 => (∃ n5 : Int, ∃ n6 : Int, ∃ b7 : Bool, v3 = (.tuple #[(.agg #[(.int .i64 n5), (.int .i64 n6)]), (.bool b7)]) ∧ stK h4 (Addr.add (Addr.mk b1 0 none) 0) (.int .i64 n5) (fun h8 => stK h8 (Addr.add (Addr.mk b1 0 none) 1) (.int .i64 n6) (fun h9 => ldI .i64 (rd h9 (Addr.add (Addr.mk b1 0 none) 0)) (fun n10 => ldI .i64 (rd h9 (Addr.add (Addr.mk b1 0 none) 1)) (fun n11 => K (.tuple #[(.agg #[(.int .i64 n10), (.int .i64 n11)]), (.bool b7)]) h9)))))))
theorem E0 (S : Stop) (x0 : Addr) (h : Heap) (K : Value → Heap → Prop) :
    (E Try.prog X T S body (fin Try.prog Try.f37.results.toList K) (args0 0 [(.pointer (some x0))]) h) = J0 x0 h K := by kernel_rfl
def w (x0 : Addr) (h : Heap) (K : Value → Heap → Prop) : Prop :=
  J0 x0 h K
theorem e0 (K : Value → Heap → Prop) (x0 : Addr) (h : Heap) : (E Try.prog X T S0 body (fin Try.prog Try.f37.results.toList K) (args0 0 [(.pointer (some x0))]) h) = w x0 h K :=
  (E0 S0 x0 h K).trans (rfl)
theorem hb : Try.f37.body = some body := by kernel_rfl
theorem ok : okCode T Try.f37.ntmps body = true := by kernel_rfl
theorem spec (x0 : Addr) (h : Heap) (K : Value → Heap → Prop) (H : w x0 h K) : CallsH Try.prog 37 [(.pointer (some x0))] h K :=
  calls_of_E (T := T) Xok mix Try.func37 hb ok rfl (by rw [e0]; exact H)
end F37
end Go.Proofs.Ytkdegjjenbbjfaa.Ev
