/- PART 3 OF WHAT THE LAW WeighBests STANDS ON: NodF4, BitsF4, MemF4, MemC4, TabF4, TabC4, TabD4, TabP4, NodA4, NodB4, EvN, NodC4, CacF4, CacC4, CacP4, EvM. Conditions: each part names its own. -/
import Derived.Test.YtnbnlhpleomaoaaGreatG2
/- PRINTED BY PROGRAM: what each of these functions does, computed over heaps by the evaluator, and that its calls do so. Conditions: none. -/
namespace Go.Proofs.YtnbnlhpleomaoaaGreat.Ev
open Go
-- spinney/nodes.New
namespace F11
def T : Hint := ⟨[(5, [0, 1])], []⟩
noncomputable def body : Code := (Tryz.f11.body).getD .skip
noncomputable def en (S : Stop) (p : List Nat) (κ : XK) : Fr → Heap → Prop := E Tryz.prog X T S (sub body p) κ
def fn (K : KK) : XK := fin Tryz.prog Tryz.f11.results.toList K
def f5 (x0 x1 : Int) : Fr := [(0, (.int .i64 x0)), (1, (.int .i64 x1))]
def J0 (k5 : Int → Int → Heap → Prop) (x0 x1 : Int) (h : Heap) (K : KK) : Prop :=
  bcase (decide (x0 < (1 : Int))) (K (.tuple #[(.pointer none), (.int .i64 (40 : Int))]) h) (bcase (decide (x0 > (8 : Int))) (K (.tuple #[(.pointer none), (.int .i64 (40 : Int))]) h) (bcase (decide (x1 < (1 : Int))) (K (.tuple #[(.pointer none), (.int .i64 (60 : Int))]) h) (bcase (decide (x1 > (32768 : Int))) (K (.tuple #[(.pointer none), (.int .i64 (60 : Int))]) h) (k5 x0 x1 h))))
theorem E0 (S : Stop) (x0 x1 : Int) (h : Heap) (K : KK) : (E Tryz.prog X T S body (fin Tryz.prog Tryz.f11.results.toList K) (args0 0 [(.int .i64 x0), (.int .i64 x1)]) h) = J0 (fun x0 x1 h => S (en S [1, 1] (fn K)) (f5 x0 x1) h) x0 x1 h K := by kernel_rfl
def Jk5 (x0 x1 : Int) (h : Heap) (K : KK) : Prop :=
  CallsH Tryz.prog 29 [(.int .i64 x0)] h (fun v1 h2 => ldP (some v1) (fun p3 => newK h2 (.cells #[(.int .i64 x1), (.pointer p3), (.slice none 0 0), (.slice none 0 0), (.pointer none), (.map none), (.pointer none), (.bool false)] 73) (fun b4 h5 => CallsH Tryz.prog 32 [(.int .i64 (256 : Int))] h5 (fun v6 h7 => ldI .i64 (some v6) (fun n8 => CallsH Tryz.prog 31 [(.int .i64 n8)] h7 (fun v9 h10 => ldP (some v9) (fun p11 => CallsH Tryz.prog 30 [(.pointer p11), (.int .i64 (0 : Int)), (.int .i64 (256 : Int))] h10 (fun v12 h13 => (∃ p14 : Option Addr, ∃ n15 : Int, v12 = (.tuple #[(.pointer p14), (.int .i64 n15)]) ∧ stK h13 (Addr.add (Addr.add (Addr.mk b4 0 none) 6) 0) (.pointer p14) (fun h16 => CallsH Tryz.prog 33 [(.pointer (some (Addr.mk b4 0 none))), (.int .i64 (32 : Int)), (.slice none 0 0)] h16 (fun v17 h18 => (v17 = (.tuple #[]) ∧ K (.tuple #[(.pointer (some (Addr.mk b4 0 none))), (.int .i64 (0 : Int))]) h18))))))))))))
theorem Ek5 (S : Stop) (x0 x1 : Int) (h : Heap) (K : KK) : (en S [1, 1] (fn K) (f5 x0 x1) h) = Jk5 x0 x1 h K := by kernel_rfl
def wk5 (x0 x1 : Int) (h : Heap) (K : KK) : Prop :=
  Jk5 x0 x1 h K
theorem ek5 (K : KK) (x0 x1 : Int) (h : Heap) : (en S0 [1, 1] (fn K) (f5 x0 x1) h) = wk5 x0 x1 h K := (Ek5 S0 x0 x1 h K).trans (rfl)
def w (x0 x1 : Int) (h : Heap) (K : KK) : Prop :=
  J0 (fun x0 x1 h => wk5 x0 x1 h K) x0 x1 h K
theorem e0 (K : KK) (x0 x1 : Int) (h : Heap) : (E Tryz.prog X T S0 body (fin Tryz.prog Tryz.f11.results.toList K) (args0 0 [(.int .i64 x0), (.int .i64 x1)]) h) = w x0 x1 h K := (E0 S0 x0 x1 h K).trans (cg1 (fun q0 => J0 q0 x0 x1 h K) (by funext x0 x1 h; exact ek5 K x0 x1 h))
theorem hb : Tryz.f11.body = some body := by kernel_rfl
theorem ok : okCode T Tryz.f11.ntmps body = true := by kernel_rfl
theorem spec (x0 : Int) (x1 : Int) (h : Heap) (K : KK) (H : w x0 x1 h K) : CallsH Tryz.prog 11 [(.int .i64 x0), (.int .i64 x1)] h K :=
  calls_of_E (T := T) Xok mix Tryz.func11 hb ok rfl (by rw [e0]; exact H)
end F11
-- (*spinney/nodes.Store).Is
namespace F21
def T : Hint := ⟨[], []⟩
noncomputable def body : Code := (Tryz.f21.body).getD .skip
def J0 (x0 : Addr) (x1 : Int) (h : Heap) (K : KK) : Prop :=
  bcase (decide (x1 ≤ (1 : Int))) (K (.bool true) h) (CallsH Tryz.prog 44 [(.pointer (some x0)), (.int .u32 x1)] h (fun v1 h2 => ldP (some v1) (fun p3 => K (.bool (!(Option.isNone p3))) h2)))
theorem E0 (S : Stop) (x0 : Addr) (x1 : Int) (h : Heap) (K : KK) : (E Tryz.prog X T S body (fin Tryz.prog Tryz.f21.results.toList K) (args0 0 [(.pointer (some x0)), (.int .u32 x1)]) h) = J0 x0 x1 h K := by kernel_rfl
def w (x0 : Addr) (x1 : Int) (h : Heap) (K : KK) : Prop :=
  J0 x0 x1 h K
theorem e0 (K : KK) (x0 : Addr) (x1 : Int) (h : Heap) : (E Tryz.prog X T S0 body (fin Tryz.prog Tryz.f21.results.toList K) (args0 0 [(.pointer (some x0)), (.int .u32 x1)]) h) = w x0 x1 h K := (E0 S0 x0 x1 h K).trans (rfl)
theorem hb : Tryz.f21.body = some body := by kernel_rfl
theorem ok : okCode T Tryz.f21.ntmps body = true := by kernel_rfl
theorem spec (x0 : Addr) (x1 : Int) (h : Heap) (K : KK) (H : w x0 x1 h K) : CallsH Tryz.prog 21 [(.pointer (some x0)), (.int .u32 x1)] h K :=
  calls_of_E (T := T) Xok mix Tryz.func21 hb ok rfl (by rw [e0]; exact H)
end F21
-- (*spinney/nodes.Store).at
namespace F44
def T : Hint := ⟨[], []⟩
noncomputable def body : Code := (Tryz.f44.body).getD .skip
def J0 (x0 : Addr) (x1 : Int) (h : Heap) (K : KK) : Prop :=
  bcase (decide (x1 < (2 : Int))) (K (.pointer none) h) (ldS (rd h (Addr.add x0 2)) (fun _ l2 _ => bcase (decide ((IntKind.wrap .i64 ((IntKind.wrap .i64 x1) - (2 : Int))) ≥ (Nat.cast l2 : Int))) (K (.pointer none) h) (ldS (rd h (Addr.add x0 2)) (fun p4 l5 _ => ptrK p4 (fun a7 => (0 ≤ (IntKind.wrap .u32 (x1 - (2 : Int))) ∧ (IntKind.wrap .u32 (x1 - (2 : Int))) < (Nat.cast l5 : Int) ∧ ldB (rd h (Addr.add (Addr.add a7 (Int.toNat (IntKind.wrap .u32 (x1 - (2 : Int))) * 4)) 0)) (fun b8 => bcase (!b8) (K (.pointer none) h) (ldS (rd h (Addr.add x0 2)) (fun p9 l10 _ => ptrK p9 (fun a12 => (0 ≤ (IntKind.wrap .u32 (x1 - (2 : Int))) ∧ (IntKind.wrap .u32 (x1 - (2 : Int))) < (Nat.cast l10 : Int) ∧ K (.pointer (some (Addr.add a12 (Int.toNat (IntKind.wrap .u32 (x1 - (2 : Int))) * 4)))) h)))))))))))
theorem E0 (S : Stop) (x0 : Addr) (x1 : Int) (h : Heap) (K : KK) : (E Tryz.prog X T S body (fin Tryz.prog Tryz.f44.results.toList K) (args0 0 [(.pointer (some x0)), (.int .u32 x1)]) h) = J0 x0 x1 h K := by kernel_rfl
def w (x0 : Addr) (x1 : Int) (h : Heap) (K : KK) : Prop :=
  J0 x0 x1 h K
theorem e0 (K : KK) (x0 : Addr) (x1 : Int) (h : Heap) : (E Tryz.prog X T S0 body (fin Tryz.prog Tryz.f44.results.toList K) (args0 0 [(.pointer (some x0)), (.int .u32 x1)]) h) = w x0 x1 h K := (E0 S0 x0 x1 h K).trans (rfl)
theorem hb : Tryz.f44.body = some body := by kernel_rfl
theorem ok : okCode T Tryz.f44.ntmps body = true := by kernel_rfl
theorem spec (x0 : Addr) (x1 : Int) (h : Heap) (K : KK) (H : w x0 x1 h K) : CallsH Tryz.prog 44 [(.pointer (some x0)), (.int .u32 x1)] h K :=
  calls_of_E (T := T) Xok mix Tryz.func44 hb ok rfl (by rw [e0]; exact H)
end F44
-- (*spinney/nodes.Store).Level
namespace F46
def T : Hint := ⟨[], []⟩
noncomputable def body : Code := (Tryz.f46.body).getD .skip
def J0 (x0 : Addr) (x1 : Int) (h : Heap) (K : KK) : Prop :=
  bcase (decide (x1 ≤ (1 : Int))) (CallsH Tryz.prog 58 [(.pointer (some x0))] h (fun v1 h2 => ldI .i64 (some v1) (fun n3 => K (.int .i64 n3) h2))) (CallsH Tryz.prog 44 [(.pointer (some x0)), (.int .u32 x1)] h (fun v4 h5 => ldP (some v4) (fun p6 => bcase (!(Option.isNone p6)) (ptrK p6 (fun a7 => ldI .i64 (rd h5 (Addr.add a7 1)) (fun n8 => K (.int .i64 n8) h5))) (K (.int .i64 (-1 : Int)) h5))))
theorem E0 (S : Stop) (x0 : Addr) (x1 : Int) (h : Heap) (K : KK) : (E Tryz.prog X T S body (fin Tryz.prog Tryz.f46.results.toList K) (args0 0 [(.pointer (some x0)), (.int .u32 x1)]) h) = J0 x0 x1 h K := by kernel_rfl
def w (x0 : Addr) (x1 : Int) (h : Heap) (K : KK) : Prop :=
  J0 x0 x1 h K
theorem e0 (K : KK) (x0 : Addr) (x1 : Int) (h : Heap) : (E Tryz.prog X T S0 body (fin Tryz.prog Tryz.f46.results.toList K) (args0 0 [(.pointer (some x0)), (.int .u32 x1)]) h) = w x0 x1 h K := (E0 S0 x0 x1 h K).trans (rfl)
theorem hb : Tryz.f46.body = some body := by kernel_rfl
theorem ok : okCode T Tryz.f46.ntmps body = true := by kernel_rfl
theorem spec (x0 : Addr) (x1 : Int) (h : Heap) (K : KK) (H : w x0 x1 h K) : CallsH Tryz.prog 46 [(.pointer (some x0)), (.int .u32 x1)] h K :=
  calls_of_E (T := T) Xok mix Tryz.func46 hb ok rfl (by rw [e0]; exact H)
end F46
-- (*spinney/nodes.Store).Low
namespace F68
def T : Hint := ⟨[], []⟩
noncomputable def body : Code := (Tryz.f68.body).getD .skip
def J0 (x0 : Addr) (x1 : Int) (h : Heap) (K : KK) : Prop :=
  CallsH Tryz.prog 44 [(.pointer (some x0)), (.int .u32 x1)] h (fun v1 h2 => ldP (some v1) (fun p3 => bcase (!(Option.isNone p3)) (ptrK p3 (fun a4 => ldI .u32 (rd h2 (Addr.add a4 2)) (fun n5 => K (.int .u32 n5) h2))) (CallsH Tryz.prog 85 [(.pointer (some x0)), (.int .u32 x1)] h2 (fun v6 h7 => ldI .i64 (some v6) (fun n8 => K (.int .u32 (bitsI .and .u32 x1 (IntKind.wrap .u32 n8))) h7)))))
theorem E0 (S : Stop) (x0 : Addr) (x1 : Int) (h : Heap) (K : KK) : (E Tryz.prog X T S body (fin Tryz.prog Tryz.f68.results.toList K) (args0 0 [(.pointer (some x0)), (.int .u32 x1)]) h) = J0 x0 x1 h K := by kernel_rfl
def w (x0 : Addr) (x1 : Int) (h : Heap) (K : KK) : Prop :=
  J0 x0 x1 h K
theorem e0 (K : KK) (x0 : Addr) (x1 : Int) (h : Heap) : (E Tryz.prog X T S0 body (fin Tryz.prog Tryz.f68.results.toList K) (args0 0 [(.pointer (some x0)), (.int .u32 x1)]) h) = w x0 x1 h K := (E0 S0 x0 x1 h K).trans (rfl)
theorem hb : Tryz.f68.body = some body := by kernel_rfl
theorem ok : okCode T Tryz.f68.ntmps body = true := by kernel_rfl
theorem spec (x0 : Addr) (x1 : Int) (h : Heap) (K : KK) (H : w x0 x1 h K) : CallsH Tryz.prog 68 [(.pointer (some x0)), (.int .u32 x1)] h K :=
  calls_of_E (T := T) Xok mix Tryz.func68 hb ok rfl (by rw [e0]; exact H)
end F68
-- (*spinney/nodes.Store).High
namespace F69
def T : Hint := ⟨[], []⟩
noncomputable def body : Code := (Tryz.f69.body).getD .skip
def J0 (x0 : Addr) (x1 : Int) (h : Heap) (K : KK) : Prop :=
  CallsH Tryz.prog 44 [(.pointer (some x0)), (.int .u32 x1)] h (fun v1 h2 => ldP (some v1) (fun p3 => bcase (!(Option.isNone p3)) (ptrK p3 (fun a4 => ldI .u32 (rd h2 (Addr.add a4 3)) (fun n5 => K (.int .u32 n5) h2))) (CallsH Tryz.prog 85 [(.pointer (some x0)), (.int .u32 x1)] h2 (fun v6 h7 => ldI .i64 (some v6) (fun n8 => K (.int .u32 (bitsI .and .u32 x1 (IntKind.wrap .u32 n8))) h7)))))
theorem E0 (S : Stop) (x0 : Addr) (x1 : Int) (h : Heap) (K : KK) : (E Tryz.prog X T S body (fin Tryz.prog Tryz.f69.results.toList K) (args0 0 [(.pointer (some x0)), (.int .u32 x1)]) h) = J0 x0 x1 h K := by kernel_rfl
def w (x0 : Addr) (x1 : Int) (h : Heap) (K : KK) : Prop :=
  J0 x0 x1 h K
theorem e0 (K : KK) (x0 : Addr) (x1 : Int) (h : Heap) : (E Tryz.prog X T S0 body (fin Tryz.prog Tryz.f69.results.toList K) (args0 0 [(.pointer (some x0)), (.int .u32 x1)]) h) = w x0 x1 h K := (E0 S0 x0 x1 h K).trans (rfl)
theorem hb : Tryz.f69.body = some body := by kernel_rfl
theorem ok : okCode T Tryz.f69.ntmps body = true := by kernel_rfl
theorem spec (x0 : Addr) (x1 : Int) (h : Heap) (K : KK) (H : w x0 x1 h K) : CallsH Tryz.prog 69 [(.pointer (some x0)), (.int .u32 x1)] h K :=
  calls_of_E (T := T) Xok mix Tryz.func69 hb ok rfl (by rw [e0]; exact H)
end F69
-- (*spinney/nodes.Store).has
namespace F74
def T : Hint := ⟨[(3, [0, 1, 6, 14, 15])], []⟩
noncomputable def body : Code := (Tryz.f74.body).getD .skip
noncomputable def en (S : Stop) (p : List Nat) (κ : XK) : Fr → Heap → Prop := E Tryz.prog X T S (sub body p) κ
noncomputable def ln (S : Stop) (p : List Nat) (κ : XK) (n : Nat) : Fr → Heap → Prop := loopN S (E Tryz.prog X T S (sub body p)) (cutQ T (sub body p)) κ n
def fn (K : KK) : XK := fin Tryz.prog Tryz.f74.results.toList K
noncomputable def c0 (S : Stop) (K : KK) : XK := seqN S (cutQ T (sub body [1, 1, 1])) (en S [1, 1, 1] (fn K)) (fn K)
noncomputable def c1 (S : Stop) (K : KK) : XK := blockN 0 (c0 S K)
noncomputable def c2 (S : Stop) (n3 : Nat) (K : KK) : XK := backN S (cutQ T (sub body [1, 1, 0, 1, 0, 0])) (ln S [1, 1, 0, 1, 0, 0] (c1 S K) n3) (c1 S K)
def f3 (x0 : Addr) (x1 x6 x14 x15 : Int) : Fr := [(0, (.pointer (some x0))), (1, (.int .u64 x1)), (6, (.int .i64 x6)), (14, (.int .i64 x14)), (15, (.int .i64 x15))]
def J0 (k3 : Addr → Int → Int → Int → Int → Heap → Prop) (x0 : Addr) (x1 : Int) (h : Heap) (_K : KK) : Prop :=
  ldP (rd h (Addr.add x0 4)) (fun p1 => CallsH Tryz.prog 76 [(.pointer p1)] h (fun v2 h3 => ldI .i64 (some v2) (fun n4 => k3 x0 x1 n4 n4 (0 : Int) h3)))
theorem E0 (S : Stop) (x0 : Addr) (x1 : Int) (h : Heap) (K : KK) : (E Tryz.prog X T S body (fin Tryz.prog Tryz.f74.results.toList K) (args0 0 [(.pointer (some x0)), (.int .u64 x1)]) h) = J0 (fun x0 x1 x6 x14 x15 h => S (en S [1, 1, 0, 1] (c0 S K)) (f3 x0 x1 x6 x14 x15) h) x0 x1 h K := by kernel_rfl
def Jk3 (lp3 : Addr → Int → Int → Int → Int → Heap → Prop) (x0 : Addr) (x1 x6 x14 x15 : Int) (h : Heap) (_K : KK) : Prop :=
  lp3 x0 x1 x6 x14 x15 h
theorem Ek3 (S : Stop) (x0 : Addr) (x1 x6 x14 x15 : Int) (h : Heap) (K : KK) : (en S [1, 1, 0, 1] (c0 S K) (f3 x0 x1 x6 x14 x15) h) = Jk3 (fun x0 x1 x6 x14 x15 h => ∃ n, S (ln S [1, 1, 0, 1, 0, 0] (c1 S K) n) (f3 x0 x1 x6 x14 x15) h) x0 x1 x6 x14 x15 h K := by kernel_rfl
def JL3 (bk3 : Addr → Int → Int → Int → Int → Heap → Prop) (x0 : Addr) (x1 x6 x14 x15 : Int) (h : Heap) (K : KK) : Prop :=
  bcase (decide (x15 < x14)) (CallsH Tryz.prog 94 [(.int .u64 x1), (.int .i64 x6)] h (fun v1 h2 => ldI .i64 (some v1) (fun n3 => (x6 ≠ 0 ∧ ldP (rd h2 (Addr.add x0 4)) (fun p4 => CallsH Tryz.prog 95 [(.pointer p4), (.int .i64 (Int.tmod (IntKind.wrap .i64 (n3 + x15)) x6))] h2 (fun v5 h6 => ldI .u64 (some v5) (fun n7 => bcase (n7 == x1) (ldM (rd h6 (Addr.add x0 5)) (fun r8 => lookK h6 r8 .i64 .i64 (Int.tmod (IntKind.wrap .i64 (n3 + x15)) x6) (fun o9 => ldI .u32 (some (lkV (.int .u32 (0 : Int)) o9)) (fun n10 => K (.tuple #[(.int .u32 n10), (.bool true)]) h6)))) (bcase (n7 == (0 : Int)) (K (.tuple #[(.int .u32 (0 : Int)), (.bool false)]) h6) (bk3 x0 x1 x6 x14 (IntKind.wrap .i64 (x15 + (1 : Int))) h6))))))))) (K (.tuple #[(.int .u32 (0 : Int)), (.bool false)]) h)
theorem EL3 (S : Stop) (n3 : Nat) (x0 : Addr) (x1 x6 x14 x15 : Int) (h : Heap) (K : KK) : (en S [1, 1, 0, 1, 0, 0] (c2 S n3 K) (f3 x0 x1 x6 x14 x15) h) = JL3 (fun x0 x1 x6 x14 x15 h => S (ln S [1, 1, 0, 1, 0, 0] (c1 S K) n3) (f3 x0 x1 x6 x14 x15) h) x0 x1 x6 x14 x15 h K := by kernel_rfl
def wL3 : Nat → Addr → Int → Int → Int → Int → Heap → KK → Prop
  | 0, _, _, _, _, _, _, _ => False
  | n + 1, x0, x1, x6, x14, x15, h, K => JL3 (fun x0 x1 x6 x14 x15 h => wL3 n x0 x1 x6 x14 x15 h K) x0 x1 x6 x14 x15 h K
theorem eL3 (K : KK) : ∀ (n : Nat) (x0 : Addr) (x1 x6 x14 x15 : Int) (h : Heap), (ln S0 [1, 1, 0, 1, 0, 0] (c1 S0 K) n (f3 x0 x1 x6 x14 x15) h) = wL3 n x0 x1 x6 x14 x15 h K
  | 0, _, _, _, _, _, _ => rfl
  | n + 1, x0, x1, x6, x14, x15, h => (EL3 S0 n x0 x1 x6 x14 x15 h K).trans (cg1 (fun q0 => JL3 q0 x0 x1 x6 x14 x15 h K) (by funext x0 x1 x6 x14 x15 h; exact (fun x0 x1 x6 x14 x15 h => eL3 K n x0 x1 x6 x14 x15 h) x0 x1 x6 x14 x15 h))
def wk3 (x0 : Addr) (x1 x6 x14 x15 : Int) (h : Heap) (K : KK) : Prop :=
  Jk3 (fun x0 x1 x6 x14 x15 h => ∃ m, wL3 m x0 x1 x6 x14 x15 h K) x0 x1 x6 x14 x15 h K
theorem ek3 (K : KK) (x0 : Addr) (x1 x6 x14 x15 : Int) (h : Heap) : (en S0 [1, 1, 0, 1] (c0 S0 K) (f3 x0 x1 x6 x14 x15) h) = wk3 x0 x1 x6 x14 x15 h K := (Ek3 S0 x0 x1 x6 x14 x15 h K).trans (cg1 (fun q0 => Jk3 q0 x0 x1 x6 x14 x15 h K) (by funext x0 x1 x6 x14 x15 h; exact ex_congr fun m => eL3 K m x0 x1 x6 x14 x15 h))
def w (x0 : Addr) (x1 : Int) (h : Heap) (K : KK) : Prop :=
  J0 (fun x0 x1 x6 x14 x15 h => wk3 x0 x1 x6 x14 x15 h K) x0 x1 h K
theorem e0 (K : KK) (x0 : Addr) (x1 : Int) (h : Heap) : (E Tryz.prog X T S0 body (fin Tryz.prog Tryz.f74.results.toList K) (args0 0 [(.pointer (some x0)), (.int .u64 x1)]) h) = w x0 x1 h K := (E0 S0 x0 x1 h K).trans (cg1 (fun q0 => J0 q0 x0 x1 h K) (by funext x0 x1 x6 x14 x15 h; exact ek3 K x0 x1 x6 x14 x15 h))
theorem hb : Tryz.f74.body = some body := by kernel_rfl
theorem ok : okCode T Tryz.f74.ntmps body = true := by kernel_rfl
theorem spec (x0 : Addr) (x1 : Int) (h : Heap) (K : KK) (H : w x0 x1 h K) : CallsH Tryz.prog 74 [(.pointer (some x0)), (.int .u64 x1)] h K :=
  calls_of_E (T := T) Xok mix Tryz.func74 hb ok rfl (by rw [e0]; exact H)
end F74
-- (*spinney/nodes.Store).finds
namespace F72
def T : Hint := ⟨[(3, [6, 7]), (4, [6])], []⟩
noncomputable def body : Code := (Tryz.f72.body).getD .skip
noncomputable def en (S : Stop) (p : List Nat) (κ : XK) : Fr → Heap → Prop := E Tryz.prog X T S (sub body p) κ
noncomputable def ln (S : Stop) (p : List Nat) (κ : XK) (n : Nat) : Fr → Heap → Prop := loopN S (E Tryz.prog X T S (sub body p)) (cutQ T (sub body p)) κ n
def fn (K : KK) : XK := fin Tryz.prog Tryz.f72.results.toList K
noncomputable def c0 (S : Stop) (K : KK) : XK := seqN S (cutQ T (sub body [1, 1, 1])) (en S [1, 1, 1] (fn K)) (fn K)
noncomputable def c1 (S : Stop) (K : KK) : XK := blockN 0 (c0 S K)
noncomputable def c2 (S : Stop) (n3 : Nat) (K : KK) : XK := backN S (cutQ T (sub body [1, 1, 0, 1, 0, 0])) (ln S [1, 1, 0, 1, 0, 0] (c1 S K) n3) (c1 S K)
def f3 (x6 : Option Addr) (x7 : Value) : Fr := [(6, (.pointer x6)), (7, x7)]
def f4 (x6 : Option Addr) : Fr := [(6, (.pointer x6))]
def J0 (k3 : (Option Addr) → Value → Heap → Prop) (x0 : Addr) (x1 : Int) (h : Heap) (_K : KK) : Prop :=
  ldP (rd h (Addr.add x0 4)) (fun p1 => CallsH Tryz.prog 89 [(.pointer p1), (.int .u64 x1)] h (fun v2 h3 => ldP (some v2) (fun p4 => k3 p4 (.func (.func 90) #[(.pointer p4)] #[]) h3)))
theorem E0 (S : Stop) (x0 : Addr) (x1 : Int) (h : Heap) (K : KK) : (E Tryz.prog X T S body (fin Tryz.prog Tryz.f72.results.toList K) (args0 0 [(.pointer (some x0)), (.int .u64 x1)]) h) = J0 (fun x6 x7 h => S (en S [1, 1, 0, 1] (c0 S K)) (f3 x6 x7) h) x0 x1 h K := by kernel_rfl
def Jk3 (lp3 : (Option Addr) → Value → Heap → Prop) (x6 : Option Addr) (x7 : Value) (h : Heap) (_K : KK) : Prop :=
  lp3 x6 x7 h
theorem Ek3 (S : Stop) (x6 : Option Addr) (x7 : Value) (h : Heap) (K : KK) : (en S [1, 1, 0, 1] (c0 S K) (f3 x6 x7) h) = Jk3 (fun x6 x7 h => ∃ n, S (ln S [1, 1, 0, 1, 0, 0] (c1 S K) n) (f3 x6 x7) h) x6 x7 h K := by kernel_rfl
def JL3 (bk3 : (Option Addr) → Value → Heap → Prop) (k4 : (Option Addr) → Heap → Prop) (x6 : Option Addr) (x7 : Value) (h : Heap) (_K : KK) : Prop :=
  dynK Tryz.prog X x7 [] h (fun v1 h2 => ldB (some v1) (fun b3 => bcase (!b3) (bk3 x6 x7 h2) (k4 x6 h2)))
theorem EL3 (S : Stop) (n3 : Nat) (x6 : Option Addr) (x7 : Value) (h : Heap) (K : KK) : (en S [1, 1, 0, 1, 0, 0] (c2 S n3 K) (f3 x6 x7) h) = JL3 (fun x6 x7 h => S (ln S [1, 1, 0, 1, 0, 0] (c1 S K) n3) (f3 x6 x7) h) (fun x6 h => S (en S [1, 1, 1] (fn K)) (f4 x6) h) x6 x7 h K := by kernel_rfl
def Jk4 (x6 : Option Addr) (h : Heap) (K : KK) : Prop :=
  CallsH Tryz.prog 91 [(.pointer x6)] h (fun v1 h2 => (∃ n3 : Int, ∃ n4 : Int, v1 = (.tuple #[(.int .i64 n3), (.int .i64 n4)]) ∧ CallsH Tryz.prog 92 [(.pointer x6)] h2 (fun v5 h6 => ldB (some v5) (fun b7 => K (.tuple #[(.int .i64 n3), (.bool b7)]) h6))))
theorem Ek4 (S : Stop) (x6 : Option Addr) (h : Heap) (K : KK) : (en S [1, 1, 1] (fn K) (f4 x6) h) = Jk4 x6 h K := by kernel_rfl
def wk4 (x6 : Option Addr) (h : Heap) (K : KK) : Prop :=
  Jk4 x6 h K
theorem ek4 (K : KK) (x6 : Option Addr) (h : Heap) : (en S0 [1, 1, 1] (fn K) (f4 x6) h) = wk4 x6 h K := (Ek4 S0 x6 h K).trans (rfl)
def wL3 : Nat → (Option Addr) → Value → Heap → KK → Prop
  | 0, _, _, _, _ => False
  | n + 1, x6, x7, h, K => JL3 (fun x6 x7 h => wL3 n x6 x7 h K) (fun x6 h => wk4 x6 h K) x6 x7 h K
theorem eL3 (K : KK) : ∀ (n : Nat) (x6 : Option Addr) (x7 : Value) (h : Heap), (ln S0 [1, 1, 0, 1, 0, 0] (c1 S0 K) n (f3 x6 x7) h) = wL3 n x6 x7 h K
  | 0, _, _, _ => rfl
  | n + 1, x6, x7, h => (EL3 S0 n x6 x7 h K).trans (cg2 (fun q0 q1 => JL3 q0 q1 x6 x7 h K) (by funext x6 x7 h; exact (fun x6 x7 h => eL3 K n x6 x7 h) x6 x7 h) (by funext x6 h; exact ek4 K x6 h))
def wk3 (x6 : Option Addr) (x7 : Value) (h : Heap) (K : KK) : Prop :=
  Jk3 (fun x6 x7 h => ∃ m, wL3 m x6 x7 h K) x6 x7 h K
theorem ek3 (K : KK) (x6 : Option Addr) (x7 : Value) (h : Heap) : (en S0 [1, 1, 0, 1] (c0 S0 K) (f3 x6 x7) h) = wk3 x6 x7 h K := (Ek3 S0 x6 x7 h K).trans (cg1 (fun q0 => Jk3 q0 x6 x7 h K) (by funext x6 x7 h; exact ex_congr fun m => eL3 K m x6 x7 h))
def w (x0 : Addr) (x1 : Int) (h : Heap) (K : KK) : Prop :=
  J0 (fun x6 x7 h => wk3 x6 x7 h K) x0 x1 h K
theorem e0 (K : KK) (x0 : Addr) (x1 : Int) (h : Heap) : (E Tryz.prog X T S0 body (fin Tryz.prog Tryz.f72.results.toList K) (args0 0 [(.pointer (some x0)), (.int .u64 x1)]) h) = w x0 x1 h K := (E0 S0 x0 x1 h K).trans (cg1 (fun q0 => J0 q0 x0 x1 h K) (by funext x6 x7 h; exact ek3 K x6 x7 h))
theorem hb : Tryz.f72.body = some body := by kernel_rfl
theorem ok : okCode T Tryz.f72.ntmps body = true := by kernel_rfl
theorem spec (x0 : Addr) (x1 : Int) (h : Heap) (K : KK) (H : w x0 x1 h K) : CallsH Tryz.prog 72 [(.pointer (some x0)), (.int .u64 x1)] h K :=
  calls_of_E (T := T) Xok mix Tryz.func72 hb ok rfl (by rw [e0]; exact H)
end F72
-- (*spinney/nodes.Store).lays
namespace F54
def T : Hint := ⟨[], []⟩
noncomputable def body : Code := (Tryz.f54.body).getD .skip
def J0 (x0 : Addr) (x1 : Int) (x2_0 : Bool) (x2_1 x2_2 x2_3 : Int) (h : Heap) (K : KK) : Prop :=
  newK h (.cells #[(.bool x2_0), (.int .i64 x2_1), (.int .u32 x2_2), (.int .u32 x2_3)] 127) (fun b1 h2 => ldI .i64 (rd h2 (Addr.add (Addr.mk b1 0 none) 1)) (fun n3 => ldI .u32 (rd h2 (Addr.add (Addr.mk b1 0 none) 2)) (fun n4 => ldI .u32 (rd h2 (Addr.add (Addr.mk b1 0 none) 3)) (fun n5 => CallsH Tryz.prog 73 [(.int .i64 n3), (.int .u32 n4), (.int .u32 n5)] h2 (fun v6 h7 => ldI .u64 (some v6) (fun n8 => CallsH Tryz.prog 72 [(.pointer (some x0)), (.int .u64 n8)] h7 (fun v9 h10 => (∃ n11 : Int, ∃ b12 : Bool, v9 = (.tuple #[(.int .i64 n11), (.bool b12)]) ∧ ldM (rd h10 (Addr.add x0 5)) (fun r13 => updK h10 r13 .i64 .i64 n11 (.int .u32 x1) (fun h14 => K (.tuple #[]) h14))))))))))
theorem E0 (S : Stop) (x0 : Addr) (x1 : Int) (x2_0 : Bool) (x2_1 x2_2 x2_3 : Int) (h : Heap) (K : KK) : (E Tryz.prog X T S body (fin Tryz.prog Tryz.f54.results.toList K) (args0 0 [(.pointer (some x0)), (.int .u32 x1), (.agg #[(.bool x2_0), (.int .i64 x2_1), (.int .u32 x2_2), (.int .u32 x2_3)])]) h) = J0 x0 x1 x2_0 x2_1 x2_2 x2_3 h K := by kernel_rfl
def w (x0 : Addr) (x1 : Int) (x2_0 : Bool) (x2_1 x2_2 x2_3 : Int) (h : Heap) (K : KK) : Prop :=
  J0 x0 x1 x2_0 x2_1 x2_2 x2_3 h K
theorem e0 (K : KK) (x0 : Addr) (x1 : Int) (x2_0 : Bool) (x2_1 x2_2 x2_3 : Int) (h : Heap) : (E Tryz.prog X T S0 body (fin Tryz.prog Tryz.f54.results.toList K) (args0 0 [(.pointer (some x0)), (.int .u32 x1), (.agg #[(.bool x2_0), (.int .i64 x2_1), (.int .u32 x2_2), (.int .u32 x2_3)])]) h) = w x0 x1 x2_0 x2_1 x2_2 x2_3 h K := (E0 S0 x0 x1 x2_0 x2_1 x2_2 x2_3 h K).trans (rfl)
theorem hb : Tryz.f54.body = some body := by kernel_rfl
theorem ok : okCode T Tryz.f54.ntmps body = true := by kernel_rfl
theorem spec (x0 : Addr) (x1 : Int) (x2_0 : Bool) (x2_1 : Int) (x2_2 : Int) (x2_3 : Int) (h : Heap) (K : KK) (H : w x0 x1 x2_0 x2_1 x2_2 x2_3 h K) : CallsH Tryz.prog 54 [(.pointer (some x0)), (.int .u32 x1), (.agg #[(.bool x2_0), (.int .i64 x2_1), (.int .u32 x2_2), (.int .u32 x2_3)])] h K :=
  calls_of_E (T := T) Xok mix Tryz.func54 hb ok rfl (by rw [e0]; exact H)
end F54
-- (*spinney/nodes.Store).grows
namespace F33
def T : Hint := ⟨[(4, [0, 6, 29, 30, 31]), (8, [0, 6]), (9, [0, 6, 42, 43, 44])], []⟩
noncomputable def body : Code := (Tryz.f33.body).getD .skip
noncomputable def en (S : Stop) (p : List Nat) (κ : XK) : Fr → Heap → Prop := E Tryz.prog X T S (sub body p) κ
noncomputable def ln (S : Stop) (p : List Nat) (κ : XK) (n : Nat) : Fr → Heap → Prop := loopN S (E Tryz.prog X T S (sub body p)) (cutQ T (sub body p)) κ n
def fn (K : KK) : XK := fin Tryz.prog Tryz.f33.results.toList K
noncomputable def c0 (S : Stop) (K : KK) : XK := seqN S (cutQ T (sub body [1, 1, 1, 1])) (en S [1, 1, 1, 1] (fn K)) (fn K)
noncomputable def c1 (S : Stop) (K : KK) : XK := blockN 0 (c0 S K)
noncomputable def c2 (S : Stop) (n4 : Nat) (K : KK) : XK := backN S (cutQ T (sub body [1, 1, 1, 0, 1, 0, 0])) (ln S [1, 1, 1, 0, 1, 0, 0] (c1 S K) n4) (c1 S K)
noncomputable def c3 (_S : Stop) (K : KK) : XK := blockN 2 (fn K)
noncomputable def c4 (S : Stop) (n9 : Nat) (K : KK) : XK := backN S (cutQ T (sub body [1, 1, 1, 1, 1, 0, 0])) (ln S [1, 1, 1, 1, 1, 0, 0] (c3 S K) n9) (c3 S K)
def f4 (x0 : Addr) (x6 : Option Nat) (x29p : Option Addr) (x29l x29c : Nat) (x30 x31 : Int) : Fr := [(0, (.pointer (some x0))), (6, (.map x6)), (29, (.slice x29p x29l x29c)), (30, (.int .i64 x30)), (31, (.int .i64 x31))]
def f8 (x0 : Addr) (x6 : Option Nat) : Fr := [(0, (.pointer (some x0))), (6, (.map x6))]
def f9 (x0 : Addr) (x6 : Option Nat) (x42p : Option Addr) (x42l x42c : Nat) (x43 x44 : Int) : Fr := [(0, (.pointer (some x0))), (6, (.map x6)), (42, (.slice x42p x42l x42c)), (43, (.int .i64 x43)), (44, (.int .i64 x44))]
def J0 (k4 : Addr → (Option Nat) → (Option Addr) → Nat → Nat → Int → Int → Heap → Prop) (x0 : Addr) (x1 : Int) (x2p : Option Addr) (x2l x2c : Nat) (h : Heap) (_K : KK) : Prop :=
  CallsH Tryz.prog 31 [(.int .i64 x1)] h (fun v1 h2 => ldP (some v1) (fun p3 => CallsH Tryz.prog 53 [(.pointer p3), (.int .i64 (0 : Int)), (.int .i64 x1)] h2 (fun v4 h5 => (∃ p6 : Option Addr, ∃ n7 : Int, v4 = (.tuple #[(.pointer p6), (.int .i64 n7)]) ∧ stK h5 (Addr.add (Addr.add x0 4) 0) (.pointer p6) (fun h8 => newK h8 (.map #[] 0) (fun b9 h10 => stK h10 (Addr.add (Addr.add x0 5) 0) (.map (some b9)) (fun h11 => newK h11 (.map #[] 0) (fun b12 h13 => k4 x0 (some b12) x2p x2l x2c (Nat.cast x2l : Int) (0 : Int) h13))))))))
theorem E0 (S : Stop) (x0 : Addr) (x1 : Int) (x2p : Option Addr) (x2l x2c : Nat) (h : Heap) (K : KK) : (E Tryz.prog X T S body (fin Tryz.prog Tryz.f33.results.toList K) (args0 0 [(.pointer (some x0)), (.int .i64 x1), (.slice x2p x2l x2c)]) h) = J0 (fun x0 x6 x29p x29l x29c x30 x31 h => S (en S [1, 1, 1, 0, 1] (c0 S K)) (f4 x0 x6 x29p x29l x29c x30 x31) h) x0 x1 x2p x2l x2c h K := by kernel_rfl
def Jk4 (lp4 : Addr → (Option Nat) → (Option Addr) → Nat → Nat → Int → Int → Heap → Prop) (x0 : Addr) (x6 : Option Nat) (x29p : Option Addr) (x29l x29c : Nat) (x30 x31 : Int) (h : Heap) (_K : KK) : Prop :=
  lp4 x0 x6 x29p x29l x29c x30 x31 h
theorem Ek4 (S : Stop) (x0 : Addr) (x6 : Option Nat) (x29p : Option Addr) (x29l x29c : Nat) (x30 x31 : Int) (h : Heap) (K : KK) : (en S [1, 1, 1, 0, 1] (c0 S K) (f4 x0 x6 x29p x29l x29c x30 x31) h) = Jk4 (fun x0 x6 x29p x29l x29c x30 x31 h => ∃ n, S (ln S [1, 1, 1, 0, 1, 0, 0] (c1 S K) n) (f4 x0 x6 x29p x29l x29c x30 x31) h) x0 x6 x29p x29l x29c x30 x31 h K := by kernel_rfl
def JL4 (bk4 : Addr → (Option Nat) → (Option Addr) → Nat → Nat → Int → Int → Heap → Prop) (k8 : Addr → (Option Nat) → Heap → Prop) (x0 : Addr) (x6 : Option Nat) (x29p : Option Addr) (x29l x29c : Nat) (x30 x31 : Int) (h : Heap) (_K : KK) : Prop :=
  bcase (decide (x31 < x30)) (ptrK x29p (fun a1 => (0 ≤ x31 ∧ x31 < (Nat.cast x29l : Int) ∧ ldI .u32 (rd h (Addr.add a1 (Int.toNat x31 * 1))) (fun n2 => updK h x6 .u32 .u32 n2 (.agg #[]) (fun h3 => bk4 x0 x6 x29p x29l x29c x30 (IntKind.wrap .i64 (x31 + (1 : Int))) h3))))) (k8 x0 x6 h)
theorem EL4 (S : Stop) (n4 : Nat) (x0 : Addr) (x6 : Option Nat) (x29p : Option Addr) (x29l x29c : Nat) (x30 x31 : Int) (h : Heap) (K : KK) : (en S [1, 1, 1, 0, 1, 0, 0] (c2 S n4 K) (f4 x0 x6 x29p x29l x29c x30 x31) h) = JL4 (fun x0 x6 x29p x29l x29c x30 x31 h => S (ln S [1, 1, 1, 0, 1, 0, 0] (c1 S K) n4) (f4 x0 x6 x29p x29l x29c x30 x31) h) (fun x0 x6 h => S (en S [1, 1, 1, 1] (fn K)) (f8 x0 x6) h) x0 x6 x29p x29l x29c x30 x31 h K := by kernel_rfl
def Jk8 (k9 : Addr → (Option Nat) → (Option Addr) → Nat → Nat → Int → Int → Heap → Prop) (x0 : Addr) (x6 : Option Nat) (h : Heap) (_K : KK) : Prop :=
  ldS (rd h (Addr.add x0 2)) (fun p1 l2 c3 => k9 x0 x6 p1 l2 c3 (Nat.cast l2 : Int) (0 : Int) h)
theorem Ek8 (S : Stop) (x0 : Addr) (x6 : Option Nat) (h : Heap) (K : KK) : (en S [1, 1, 1, 1] (fn K) (f8 x0 x6) h) = Jk8 (fun x0 x6 x42p x42l x42c x43 x44 h => S (en S [1, 1, 1, 1, 1] (fn K)) (f9 x0 x6 x42p x42l x42c x43 x44) h) x0 x6 h K := by kernel_rfl
def Jk9 (lp9 : Addr → (Option Nat) → (Option Addr) → Nat → Nat → Int → Int → Heap → Prop) (x0 : Addr) (x6 : Option Nat) (x42p : Option Addr) (x42l x42c : Nat) (x43 x44 : Int) (h : Heap) (_K : KK) : Prop :=
  lp9 x0 x6 x42p x42l x42c x43 x44 h
theorem Ek9 (S : Stop) (x0 : Addr) (x6 : Option Nat) (x42p : Option Addr) (x42l x42c : Nat) (x43 x44 : Int) (h : Heap) (K : KK) : (en S [1, 1, 1, 1, 1] (fn K) (f9 x0 x6 x42p x42l x42c x43 x44) h) = Jk9 (fun x0 x6 x42p x42l x42c x43 x44 h => ∃ n, S (ln S [1, 1, 1, 1, 1, 0, 0] (c3 S K) n) (f9 x0 x6 x42p x42l x42c x43 x44) h) x0 x6 x42p x42l x42c x43 x44 h K := by kernel_rfl
def JL9 (bk9 : Addr → (Option Nat) → (Option Addr) → Nat → Nat → Int → Int → Heap → Prop) (x0 : Addr) (x6 : Option Nat) (x42p : Option Addr) (x42l x42c : Nat) (x43 x44 : Int) (h : Heap) (K : KK) : Prop :=
  bcase (decide (x44 < x43)) (ptrK x42p (fun a1 => (0 ≤ x44 ∧ x44 < (Nat.cast x42l : Int) ∧ ldB (rd h (Addr.add (Addr.add a1 (Int.toNat x44 * 4)) 0)) (fun b2 => ldI .i64 (rd h (Addr.add (Addr.add a1 (Int.toNat x44 * 4)) 1)) (fun n3 => ldI .u32 (rd h (Addr.add (Addr.add a1 (Int.toNat x44 * 4)) 2)) (fun n4 => ldI .u32 (rd h (Addr.add (Addr.add a1 (Int.toNat x44 * 4)) 3)) (fun n5 => newK h (.cells #[(.bool false), (.int .i64 (0 : Int)), (.int .u32 (0 : Int)), (.int .u32 (0 : Int))] 127) (fun b6 h7 => stK h7 (Addr.add (Addr.mk b6 0 none) 0) (.bool b2) (fun h8 => stK h8 (Addr.add (Addr.mk b6 0 none) 1) (.int .i64 n3) (fun h9 => stK h9 (Addr.add (Addr.mk b6 0 none) 2) (.int .u32 n4) (fun h10 => stK h10 (Addr.add (Addr.mk b6 0 none) 3) (.int .u32 n5) (fun h11 => lookK h11 x6 .u32 .u32 (IntKind.wrap .u32 (IntKind.wrap .i64 (x44 + (2 : Int)))) (fun o12 => ldV (some (lkV (.agg #[]) o12)) (fun v13 => newK h11 (.cells #[] 116) (fun b14 h15 => storeE Tryz.prog 116 (some (Addr.mk b14 0 none)) v13 h15 (fun h16 => ldB (rd h16 (Addr.add (Addr.mk b6 0 none) 0)) (fun b17 => bcase b17 (bcase (!(Option.isSome o12)) (ldB (rd h16 (Addr.add (Addr.mk b6 0 none) 0)) (fun b18 => ldI .i64 (rd h16 (Addr.add (Addr.mk b6 0 none) 1)) (fun n19 => ldI .u32 (rd h16 (Addr.add (Addr.mk b6 0 none) 2)) (fun n20 => ldI .u32 (rd h16 (Addr.add (Addr.mk b6 0 none) 3)) (fun n21 => CallsH Tryz.prog 54 [(.pointer (some x0)), (.int .u32 (IntKind.wrap .u32 (IntKind.wrap .i64 (x44 + (2 : Int))))), (.agg #[(.bool b18), (.int .i64 n19), (.int .u32 n20), (.int .u32 n21)])] h16 (fun v22 h23 => (v22 = (.tuple #[]) ∧ bk9 x0 x6 x42p x42l x42c x43 (IntKind.wrap .i64 (x44 + (1 : Int))) h23))))))) (bk9 x0 x6 x42p x42l x42c x43 (IntKind.wrap .i64 (x44 + (1 : Int))) h16)) (bk9 x0 x6 x42p x42l x42c x43 (IntKind.wrap .i64 (x44 + (1 : Int))) h16)))))))))))))))))) (K (.tuple #[]) h)
theorem EL9 (S : Stop) (n9 : Nat) (x0 : Addr) (x6 : Option Nat) (x42p : Option Addr) (x42l x42c : Nat) (x43 x44 : Int) (h : Heap) (K : KK) : (en S [1, 1, 1, 1, 1, 0, 0] (c4 S n9 K) (f9 x0 x6 x42p x42l x42c x43 x44) h) = JL9 (fun x0 x6 x42p x42l x42c x43 x44 h => S (ln S [1, 1, 1, 1, 1, 0, 0] (c3 S K) n9) (f9 x0 x6 x42p x42l x42c x43 x44) h) x0 x6 x42p x42l x42c x43 x44 h K := by kernel_rfl
def wL9 : Nat → Addr → (Option Nat) → (Option Addr) → Nat → Nat → Int → Int → Heap → KK → Prop
  | 0, _, _, _, _, _, _, _, _, _ => False
  | n + 1, x0, x6, x42p, x42l, x42c, x43, x44, h, K => JL9 (fun x0 x6 x42p x42l x42c x43 x44 h => wL9 n x0 x6 x42p x42l x42c x43 x44 h K) x0 x6 x42p x42l x42c x43 x44 h K
theorem eL9 (K : KK) : ∀ (n : Nat) (x0 : Addr) (x6 : Option Nat) (x42p : Option Addr) (x42l x42c : Nat) (x43 x44 : Int) (h : Heap), (ln S0 [1, 1, 1, 1, 1, 0, 0] (c3 S0 K) n (f9 x0 x6 x42p x42l x42c x43 x44) h) = wL9 n x0 x6 x42p x42l x42c x43 x44 h K
  | 0, _, _, _, _, _, _, _, _ => rfl
  | n + 1, x0, x6, x42p, x42l, x42c, x43, x44, h => (EL9 S0 n x0 x6 x42p x42l x42c x43 x44 h K).trans (cg1 (fun q0 => JL9 q0 x0 x6 x42p x42l x42c x43 x44 h K) (by funext x0 x6 x42p x42l x42c x43 x44 h; exact (fun x0 x6 x42p x42l x42c x43 x44 h => eL9 K n x0 x6 x42p x42l x42c x43 x44 h) x0 x6 x42p x42l x42c x43 x44 h))
def wk9 (x0 : Addr) (x6 : Option Nat) (x42p : Option Addr) (x42l x42c : Nat) (x43 x44 : Int) (h : Heap) (K : KK) : Prop :=
  Jk9 (fun x0 x6 x42p x42l x42c x43 x44 h => ∃ m, wL9 m x0 x6 x42p x42l x42c x43 x44 h K) x0 x6 x42p x42l x42c x43 x44 h K
theorem ek9 (K : KK) (x0 : Addr) (x6 : Option Nat) (x42p : Option Addr) (x42l x42c : Nat) (x43 x44 : Int) (h : Heap) : (en S0 [1, 1, 1, 1, 1] (fn K) (f9 x0 x6 x42p x42l x42c x43 x44) h) = wk9 x0 x6 x42p x42l x42c x43 x44 h K := (Ek9 S0 x0 x6 x42p x42l x42c x43 x44 h K).trans (cg1 (fun q0 => Jk9 q0 x0 x6 x42p x42l x42c x43 x44 h K) (by funext x0 x6 x42p x42l x42c x43 x44 h; exact ex_congr fun m => eL9 K m x0 x6 x42p x42l x42c x43 x44 h))
def wk8 (x0 : Addr) (x6 : Option Nat) (h : Heap) (K : KK) : Prop :=
  Jk8 (fun x0 x6 x42p x42l x42c x43 x44 h => wk9 x0 x6 x42p x42l x42c x43 x44 h K) x0 x6 h K
theorem ek8 (K : KK) (x0 : Addr) (x6 : Option Nat) (h : Heap) : (en S0 [1, 1, 1, 1] (fn K) (f8 x0 x6) h) = wk8 x0 x6 h K := (Ek8 S0 x0 x6 h K).trans (cg1 (fun q0 => Jk8 q0 x0 x6 h K) (by funext x0 x6 x42p x42l x42c x43 x44 h; exact ek9 K x0 x6 x42p x42l x42c x43 x44 h))
def wL4 : Nat → Addr → (Option Nat) → (Option Addr) → Nat → Nat → Int → Int → Heap → KK → Prop
  | 0, _, _, _, _, _, _, _, _, _ => False
  | n + 1, x0, x6, x29p, x29l, x29c, x30, x31, h, K => JL4 (fun x0 x6 x29p x29l x29c x30 x31 h => wL4 n x0 x6 x29p x29l x29c x30 x31 h K) (fun x0 x6 h => wk8 x0 x6 h K) x0 x6 x29p x29l x29c x30 x31 h K
theorem eL4 (K : KK) : ∀ (n : Nat) (x0 : Addr) (x6 : Option Nat) (x29p : Option Addr) (x29l x29c : Nat) (x30 x31 : Int) (h : Heap), (ln S0 [1, 1, 1, 0, 1, 0, 0] (c1 S0 K) n (f4 x0 x6 x29p x29l x29c x30 x31) h) = wL4 n x0 x6 x29p x29l x29c x30 x31 h K
  | 0, _, _, _, _, _, _, _, _ => rfl
  | n + 1, x0, x6, x29p, x29l, x29c, x30, x31, h => (EL4 S0 n x0 x6 x29p x29l x29c x30 x31 h K).trans (cg2 (fun q0 q1 => JL4 q0 q1 x0 x6 x29p x29l x29c x30 x31 h K) (by funext x0 x6 x29p x29l x29c x30 x31 h; exact (fun x0 x6 x29p x29l x29c x30 x31 h => eL4 K n x0 x6 x29p x29l x29c x30 x31 h) x0 x6 x29p x29l x29c x30 x31 h) (by funext x0 x6 h; exact ek8 K x0 x6 h))
def wk4 (x0 : Addr) (x6 : Option Nat) (x29p : Option Addr) (x29l x29c : Nat) (x30 x31 : Int) (h : Heap) (K : KK) : Prop :=
  Jk4 (fun x0 x6 x29p x29l x29c x30 x31 h => ∃ m, wL4 m x0 x6 x29p x29l x29c x30 x31 h K) x0 x6 x29p x29l x29c x30 x31 h K
theorem ek4 (K : KK) (x0 : Addr) (x6 : Option Nat) (x29p : Option Addr) (x29l x29c : Nat) (x30 x31 : Int) (h : Heap) : (en S0 [1, 1, 1, 0, 1] (c0 S0 K) (f4 x0 x6 x29p x29l x29c x30 x31) h) = wk4 x0 x6 x29p x29l x29c x30 x31 h K := (Ek4 S0 x0 x6 x29p x29l x29c x30 x31 h K).trans (cg1 (fun q0 => Jk4 q0 x0 x6 x29p x29l x29c x30 x31 h K) (by funext x0 x6 x29p x29l x29c x30 x31 h; exact ex_congr fun m => eL4 K m x0 x6 x29p x29l x29c x30 x31 h))
def w (x0 : Addr) (x1 : Int) (x2p : Option Addr) (x2l x2c : Nat) (h : Heap) (K : KK) : Prop :=
  J0 (fun x0 x6 x29p x29l x29c x30 x31 h => wk4 x0 x6 x29p x29l x29c x30 x31 h K) x0 x1 x2p x2l x2c h K
theorem e0 (K : KK) (x0 : Addr) (x1 : Int) (x2p : Option Addr) (x2l x2c : Nat) (h : Heap) : (E Tryz.prog X T S0 body (fin Tryz.prog Tryz.f33.results.toList K) (args0 0 [(.pointer (some x0)), (.int .i64 x1), (.slice x2p x2l x2c)]) h) = w x0 x1 x2p x2l x2c h K := (E0 S0 x0 x1 x2p x2l x2c h K).trans (cg1 (fun q0 => J0 q0 x0 x1 x2p x2l x2c h K) (by funext x0 x6 x29p x29l x29c x30 x31 h; exact ek4 K x0 x6 x29p x29l x29c x30 x31 h))
theorem hb : Tryz.f33.body = some body := by kernel_rfl
theorem ok : okCode T Tryz.f33.ntmps body = true := by kernel_rfl
theorem spec (x0 : Addr) (x1 : Int) (x2p : Option Addr) (x2l : Nat) (x2c : Nat) (h : Heap) (K : KK) (H : w x0 x1 x2p x2l x2c h K) : CallsH Tryz.prog 33 [(.pointer (some x0)), (.int .i64 x1), (.slice x2p x2l x2c)] h K :=
  calls_of_E (T := T) Xok mix Tryz.func33 hb ok rfl (by rw [e0]; exact H)
end F33
-- (*spinney/nodes.Store).Mk
namespace F56
def T : Hint := ⟨[(9, [0, 1, 2, 3]), (17, [0, 1, 2, 3])], [(13, [[(0, []), (2, []), (3, []), (4, []), (5, []), (1, [2, 3, 4, 5]), (6, [])]]), (15, [[(0, []), (4, []), (5, []), (6, []), (7, []), (1, [4, 5, 6, 7]), (2, []), (3, []), (8, [2, 3]), (9, [])]])]⟩
noncomputable def body : Code := (Tryz.f56.body).getD .skip
noncomputable def en (S : Stop) (p : List Nat) (κ : XK) : Fr → Heap → Prop := E Tryz.prog X T S (sub body p) κ
def fn (K : KK) : XK := fin Tryz.prog Tryz.f56.results.toList K
def f9 (x0 : Addr) (x1 x2 x3 : Int) : Fr := [(0, (.pointer (some x0))), (1, (.int .i64 x1)), (2, (.int .u32 x2)), (3, (.int .u32 x3))]
def f17 (x0 : Addr) (x1 x2 x3 : Int) : Fr := [(0, (.pointer (some x0))), (1, (.int .i64 x1)), (2, (.int .u32 x2)), (3, (.int .u32 x3))]
def J0 (k9 : Addr → Int → Int → Int → Heap → Prop) (x0 : Addr) (x1 x2 x3 : Int) (h : Heap) (K : KK) : Prop :=
  bcase (decide (x1 < (0 : Int))) (K (.tuple #[(.int .u32 (0 : Int)), (.int .i64 (40 : Int))]) h) (CallsH Tryz.prog 58 [(.pointer (some x0))] h (fun v1 h2 => ldI .i64 (some v1) (fun n3 => bcase (decide (x1 ≥ n3)) (K (.tuple #[(.int .u32 (0 : Int)), (.int .i64 (40 : Int))]) h2) (CallsH Tryz.prog 21 [(.pointer (some x0)), (.int .u32 x2)] h2 (fun v4 h5 => ldB (some v4) (fun b6 => bcase (!b6) (K (.tuple #[(.int .u32 (0 : Int)), (.int .i64 (101 : Int))]) h5) (CallsH Tryz.prog 21 [(.pointer (some x0)), (.int .u32 x3)] h5 (fun v7 h8 => ldB (some v7) (fun b9 => bcase (!b9) (K (.tuple #[(.int .u32 (0 : Int)), (.int .i64 (101 : Int))]) h8) (CallsH Tryz.prog 46 [(.pointer (some x0)), (.int .u32 x2)] h8 (fun v10 h11 => ldI .i64 (some v10) (fun n12 => bcase (decide (n12 ≤ x1)) (K (.tuple #[(.int .u32 (0 : Int)), (.int .i64 (100 : Int))]) h11) (CallsH Tryz.prog 46 [(.pointer (some x0)), (.int .u32 x3)] h11 (fun v13 h14 => ldI .i64 (some v13) (fun n15 => bcase (decide (n15 ≤ x1)) (K (.tuple #[(.int .u32 (0 : Int)), (.int .i64 (100 : Int))]) h14) (bcase (x2 == x3) (K (.tuple #[(.int .u32 x2), (.int .i64 (0 : Int))]) h14) (k9 x0 x1 x2 x3 h14)))))))))))))))))
theorem E0 (S : Stop) (x0 : Addr) (x1 x2 x3 : Int) (h : Heap) (K : KK) : (E Tryz.prog X T S body (fin Tryz.prog Tryz.f56.results.toList K) (args0 0 [(.pointer (some x0)), (.int .i64 x1), (.int .u32 x2), (.int .u32 x3)]) h) = J0 (fun x0 x1 x2 x3 h => S (en S [1, 1] (fn K)) (f9 x0 x1 x2 x3) h) x0 x1 x2 x3 h K := by kernel_rfl
def Jk9 (k17 : Addr → Int → Int → Int → Heap → Prop) (x0 : Addr) (x1 x2 x3 : Int) (h : Heap) (K : KK) : Prop :=
  CallsH Tryz.prog 73 [(.int .i64 x1), (.int .u32 x2), (.int .u32 x3)] h (fun v1 h2 => ldI .u64 (some v1) (fun n3 => CallsH Tryz.prog 74 [(.pointer (some x0)), (.int .u64 n3)] h2 (fun v4 h5 => (∃ n6 : Int, ∃ b7 : Bool, v4 = (.tuple #[(.int .u32 n6), (.bool b7)]) ∧ bcase b7 (K (.tuple #[(.int .u32 n6), (.int .i64 (0 : Int))]) h5) (ldI .i64 (rd h5 (Addr.add x0 0)) (fun n8 => CallsH Tryz.prog 75 [(.pointer (some x0))] h5 (fun v9 h10 => ldI .i64 (some v9) (fun n11 => ((.pointer (some x0)) = ((.pointer (some x0)) : Value) ∧ ((.pointer (some x0)) = ((.pointer (some x0)) : Value) ∧ ((.pointer (some (Addr.add x0 0))) = ((.pointer (some (Addr.add x0 0))) : Value) ∧ ldI .i64 (rd h10 (Addr.add x0 0)) (fun n12 => ((.int .i64 n12) = ((.int .i64 n8) : Value) ∧ bcase (decide (n11 ≥ n8)) (K (.tuple #[(.int .u32 (0 : Int)), (.int .i64 (60 : Int))]) h10) (ldP (rd h10 (Addr.add x0 4)) (fun p13 => CallsH Tryz.prog 75 [(.pointer (some x0))] h10 (fun v14 h15 => ldI .i64 (some v14) (fun n16 => ((.pointer (some x0)) = ((.pointer (some x0)) : Value) ∧ ((.pointer (some x0)) = ((.pointer (some x0)) : Value) ∧ ((.pointer (some (Addr.add x0 4))) = ((.pointer (some (Addr.add x0 4))) : Value) ∧ ldP (rd h15 (Addr.add x0 4)) (fun p17 => ((.pointer p17) = ((.pointer p13) : Value) ∧ CallsH Tryz.prog 76 [(.pointer p13)] h15 (fun v18 h19 => ldI .i64 (some v18) (fun n20 => ((.int .i64 (IntKind.wrap .i64 (n16 + (1 : Int)))) = ((.int .i64 (IntKind.wrap .i64 (n16 + (1 : Int)))) : Value) ∧ ((.int .i64 (IntKind.wrap .i64 ((2 : Int) * (IntKind.wrap .i64 (n16 + (1 : Int)))))) = ((.int .i64 (IntKind.wrap .i64 ((2 : Int) * (IntKind.wrap .i64 (n16 + (1 : Int)))))) : Value) ∧ bcase (decide ((IntKind.wrap .i64 ((2 : Int) * (IntKind.wrap .i64 (n16 + (1 : Int))))) > n20)) (ldP (rd h19 (Addr.add x0 4)) (fun p21 => CallsH Tryz.prog 76 [(.pointer p21)] h19 (fun v22 h23 => ldI .i64 (some v22) (fun n24 => CallsH Tryz.prog 33 [(.pointer (some x0)), (.int .i64 (IntKind.wrap .i64 ((2 : Int) * n24))), (.slice none 0 0)] h23 (fun v25 h26 => (v25 = (.tuple #[]) ∧ k17 x0 x1 x2 x3 h26)))))) (k17 x0 x1 x2 x3 h19)))))))))))))))))))))))))))
theorem Ek9 (S : Stop) (x0 : Addr) (x1 x2 x3 : Int) (h : Heap) (K : KK) : (en S [1, 1] (fn K) (f9 x0 x1 x2 x3) h) = Jk9 (fun x0 x1 x2 x3 h => S (en S [1, 1, 1, 1, 1, 1] (fn K)) (f17 x0 x1 x2 x3) h) x0 x1 x2 x3 h K := by kernel_rfl
def Jk17 (x0 : Addr) (x1 x2 x3 : Int) (h : Heap) (K : KK) : Prop :=
  CallsH Tryz.prog 77 [(.pointer (some x0))] h (fun v1 h2 => ldI .u32 (some v1) (fun n3 => ldS (rd h2 (Addr.add x0 2)) (fun p4 l5 _ => ptrK p4 (fun a7 => (0 ≤ (IntKind.wrap .u32 (n3 - (2 : Int))) ∧ (IntKind.wrap .u32 (n3 - (2 : Int))) < (Nat.cast l5 : Int) ∧ stK h2 (Addr.add (Addr.add a7 (Int.toNat (IntKind.wrap .u32 (n3 - (2 : Int))) * 4)) 0) (.bool true) (fun h8 => stK h8 (Addr.add (Addr.add a7 (Int.toNat (IntKind.wrap .u32 (n3 - (2 : Int))) * 4)) 1) (.int .i64 x1) (fun h9 => stK h9 (Addr.add (Addr.add a7 (Int.toNat (IntKind.wrap .u32 (n3 - (2 : Int))) * 4)) 2) (.int .u32 x2) (fun h10 => stK h10 (Addr.add (Addr.add a7 (Int.toNat (IntKind.wrap .u32 (n3 - (2 : Int))) * 4)) 3) (.int .u32 x3) (fun h11 => ldS (rd h11 (Addr.add x0 2)) (fun p12 l13 _ => ptrK p12 (fun a15 => (0 ≤ (IntKind.wrap .u32 (n3 - (2 : Int))) ∧ (IntKind.wrap .u32 (n3 - (2 : Int))) < (Nat.cast l13 : Int) ∧ ldB (rd h11 (Addr.add (Addr.add a15 (Int.toNat (IntKind.wrap .u32 (n3 - (2 : Int))) * 4)) 0)) (fun b16 => ldI .i64 (rd h11 (Addr.add (Addr.add a15 (Int.toNat (IntKind.wrap .u32 (n3 - (2 : Int))) * 4)) 1)) (fun n17 => ldI .u32 (rd h11 (Addr.add (Addr.add a15 (Int.toNat (IntKind.wrap .u32 (n3 - (2 : Int))) * 4)) 2)) (fun n18 => ldI .u32 (rd h11 (Addr.add (Addr.add a15 (Int.toNat (IntKind.wrap .u32 (n3 - (2 : Int))) * 4)) 3)) (fun n19 => CallsH Tryz.prog 54 [(.pointer (some x0)), (.int .u32 n3), (.agg #[(.bool b16), (.int .i64 n17), (.int .u32 n18), (.int .u32 n19)])] h11 (fun v20 h21 => (v20 = (.tuple #[]) ∧ K (.tuple #[(.int .u32 n3), (.int .i64 (0 : Int))]) h21))))))))))))))))))
theorem Ek17 (S : Stop) (x0 : Addr) (x1 x2 x3 : Int) (h : Heap) (K : KK) : (en S [1, 1, 1, 1, 1, 1] (fn K) (f17 x0 x1 x2 x3) h) = Jk17 x0 x1 x2 x3 h K := by kernel_rfl
def wk17 (x0 : Addr) (x1 x2 x3 : Int) (h : Heap) (K : KK) : Prop :=
  Jk17 x0 x1 x2 x3 h K
theorem ek17 (K : KK) (x0 : Addr) (x1 x2 x3 : Int) (h : Heap) : (en S0 [1, 1, 1, 1, 1, 1] (fn K) (f17 x0 x1 x2 x3) h) = wk17 x0 x1 x2 x3 h K := (Ek17 S0 x0 x1 x2 x3 h K).trans (rfl)
def wk9 (x0 : Addr) (x1 x2 x3 : Int) (h : Heap) (K : KK) : Prop :=
  Jk9 (fun x0 x1 x2 x3 h => wk17 x0 x1 x2 x3 h K) x0 x1 x2 x3 h K
theorem ek9 (K : KK) (x0 : Addr) (x1 x2 x3 : Int) (h : Heap) : (en S0 [1, 1] (fn K) (f9 x0 x1 x2 x3) h) = wk9 x0 x1 x2 x3 h K := (Ek9 S0 x0 x1 x2 x3 h K).trans (cg1 (fun q0 => Jk9 q0 x0 x1 x2 x3 h K) (by funext x0 x1 x2 x3 h; exact ek17 K x0 x1 x2 x3 h))
def w (x0 : Addr) (x1 x2 x3 : Int) (h : Heap) (K : KK) : Prop :=
  J0 (fun x0 x1 x2 x3 h => wk9 x0 x1 x2 x3 h K) x0 x1 x2 x3 h K
theorem e0 (K : KK) (x0 : Addr) (x1 x2 x3 : Int) (h : Heap) : (E Tryz.prog X T S0 body (fin Tryz.prog Tryz.f56.results.toList K) (args0 0 [(.pointer (some x0)), (.int .i64 x1), (.int .u32 x2), (.int .u32 x3)]) h) = w x0 x1 x2 x3 h K := (E0 S0 x0 x1 x2 x3 h K).trans (cg1 (fun q0 => J0 q0 x0 x1 x2 x3 h K) (by funext x0 x1 x2 x3 h; exact ek9 K x0 x1 x2 x3 h))
theorem hb : Tryz.f56.body = some body := by kernel_rfl
theorem ok : okCode T Tryz.f56.ntmps body = true := by kernel_rfl
theorem spec (x0 : Addr) (x1 : Int) (x2 : Int) (x3 : Int) (h : Heap) (K : KK) (H : w x0 x1 x2 x3 h K) : CallsH Tryz.prog 56 [(.pointer (some x0)), (.int .i64 x1), (.int .u32 x2), (.int .u32 x3)] h K :=
  calls_of_E (T := T) Xok mix Tryz.func56 hb ok rfl (by rw [e0]; exact H)
end F56
-- (*spinney/nodes.Store).Len
namespace F75
def T : Hint := ⟨[], [(1, [[(0, []), (1, []), (2, []), (3, []), (4, []), (5, []), (6, []), (7, []), (8, []), (9, []), (10, []), (11, [])]])]⟩
noncomputable def body : Code := (Tryz.f75.body).getD .skip
def J0 (x0 : Addr) (h : Heap) (K : KK) : Prop :=
  ldS (rd h (Addr.add x0 2)) (fun _ l2 _ => ldS (rd h (Addr.add x0 3)) (fun _ l5 _ => K (.int .i64 (IntKind.wrap .i64 ((Nat.cast l2 : Int) - (Nat.cast l5 : Int)))) h))
theorem E0 (S : Stop) (x0 : Addr) (h : Heap) (K : KK) : (E Tryz.prog X T S body (fin Tryz.prog Tryz.f75.results.toList K) (args0 0 [(.pointer (some x0))]) h) = J0 x0 h K := by kernel_rfl
def w (x0 : Addr) (h : Heap) (K : KK) : Prop :=
  J0 x0 h K
theorem e0 (K : KK) (x0 : Addr) (h : Heap) : (E Tryz.prog X T S0 body (fin Tryz.prog Tryz.f75.results.toList K) (args0 0 [(.pointer (some x0))]) h) = w x0 h K := (E0 S0 x0 h K).trans (rfl)
theorem hb : Tryz.f75.body = some body := by kernel_rfl
theorem ok : okCode T Tryz.f75.ntmps body = true := by kernel_rfl
theorem spec (x0 : Addr) (h : Heap) (K : KK) (H : w x0 h K) : CallsH Tryz.prog 75 [(.pointer (some x0))] h K :=
  calls_of_E (T := T) Xok mix Tryz.func75 hb ok rfl (by rw [e0]; exact H)
end F75
-- (*spinney/nodes.Store).handle
namespace F77
def T : Hint := ⟨[], []⟩
noncomputable def body : Code := (Tryz.f77.body).getD .skip
def J0 (x0 : Addr) (h : Heap) (K : KK) : Prop :=
  ldS (rd h (Addr.add x0 3)) (fun _ l2 _ => bcase (decide ((Nat.cast l2 : Int) > (0 : Int))) (ldS (rd h (Addr.add x0 3)) (fun p4 l5 _ => ptrK p4 (fun a7 => (0 ≤ (IntKind.wrap .i64 ((Nat.cast l2 : Int) - (1 : Int))) ∧ (IntKind.wrap .i64 ((Nat.cast l2 : Int) - (1 : Int))) < (Nat.cast l5 : Int) ∧ ldI .u32 (rd h (Addr.add a7 (Int.toNat (IntKind.wrap .i64 ((Nat.cast l2 : Int) - (1 : Int))) * 1))) (fun n8 => ldS (rd h (Addr.add x0 3)) (fun p9 _ c11 => (0 ≤ (IntKind.wrap .i64 ((Nat.cast l2 : Int) - (1 : Int))) ∧ (IntKind.wrap .i64 ((Nat.cast l2 : Int) - (1 : Int))) ≤ (Nat.cast c11 : Int) ∧ stK h (Addr.add (Addr.add x0 3) 0) (.slice (if c11 = 0 then p9 else Option.map (fun a => Addr.add a (0 * 1)) p9) (Int.toNat (IntKind.wrap .i64 ((Nat.cast l2 : Int) - (1 : Int))) - 0) (c11 - 0)) (fun h12 => K (.int .u32 n8) h12)))))))) (ldS (rd h (Addr.add x0 2)) (fun p13 l14 c15 => newK h (.cells #[(.bool false), (.int .i64 (0 : Int)), (.int .u32 (0 : Int)), (.int .u32 (0 : Int))] 127) (fun b16 h17 => appK h17 127 4 24 #[(.bool false), (.int .i64 (0 : Int)), (.int .u32 (0 : Int)), (.int .u32 (0 : Int))] p13 l14 c15 (some (Addr.mk b16 0 none)) 1 (fun p18 l19 c20 h21 => stK h21 (Addr.add (Addr.add x0 2) 0) (.slice p18 l19 c20) (fun h22 => ldS (rd h22 (Addr.add x0 2)) (fun _ l24 _ => K (.int .u32 (IntKind.wrap .u32 (IntKind.wrap .i64 ((IntKind.wrap .i64 ((Nat.cast l24 : Int) - (1 : Int))) + (2 : Int))))) h22)))))))
theorem E0 (S : Stop) (x0 : Addr) (h : Heap) (K : KK) : (E Tryz.prog X T S body (fin Tryz.prog Tryz.f77.results.toList K) (args0 0 [(.pointer (some x0))]) h) = J0 x0 h K := by kernel_rfl
def w (x0 : Addr) (h : Heap) (K : KK) : Prop :=
  J0 x0 h K
theorem e0 (K : KK) (x0 : Addr) (h : Heap) : (E Tryz.prog X T S0 body (fin Tryz.prog Tryz.f77.results.toList K) (args0 0 [(.pointer (some x0))]) h) = w x0 h K := (E0 S0 x0 h K).trans (rfl)
theorem hb : Tryz.f77.body = some body := by kernel_rfl
theorem ok : okCode T Tryz.f77.ntmps body = true := by kernel_rfl
theorem spec (x0 : Addr) (h : Heap) (K : KK) (H : w x0 h K) : CallsH Tryz.prog 77 [(.pointer (some x0))] h K :=
  calls_of_E (T := T) Xok mix Tryz.func77 hb ok rfl (by rw [e0]; exact H)
end F77
-- (*spinney/nodes.Store).Vars
namespace F58
def T : Hint := ⟨[], []⟩
noncomputable def body : Code := (Tryz.f58.body).getD .skip
def J0 (x0 : Addr) (h : Heap) (K : KK) : Prop :=
  ldP (rd h (Addr.add x0 1)) (fun p1 => CallsH Tryz.prog 78 [(.pointer p1)] h (fun v2 h3 => ldI .i64 (some v2) (fun n4 => K (.int .i64 n4) h3)))
theorem E0 (S : Stop) (x0 : Addr) (h : Heap) (K : KK) : (E Tryz.prog X T S body (fin Tryz.prog Tryz.f58.results.toList K) (args0 0 [(.pointer (some x0))]) h) = J0 x0 h K := by kernel_rfl
def w (x0 : Addr) (h : Heap) (K : KK) : Prop :=
  J0 x0 h K
theorem e0 (K : KK) (x0 : Addr) (h : Heap) : (E Tryz.prog X T S0 body (fin Tryz.prog Tryz.f58.results.toList K) (args0 0 [(.pointer (some x0))]) h) = w x0 h K := (E0 S0 x0 h K).trans (rfl)
theorem hb : Tryz.f58.body = some body := by kernel_rfl
theorem ok : okCode T Tryz.f58.ntmps body = true := by kernel_rfl
theorem spec (x0 : Addr) (h : Heap) (K : KK) (H : w x0 h K) : CallsH Tryz.prog 58 [(.pointer (some x0))] h K :=
  calls_of_E (T := T) Xok mix Tryz.func58 hb ok rfl (by rw [e0]; exact H)
end F58
-- (*spinney/nodes.Store).Order
namespace F36
def T : Hint := ⟨[], []⟩
noncomputable def body : Code := (Tryz.f36.body).getD .skip
def J0 (x0 : Addr) (h : Heap) (K : KK) : Prop :=
  ldP (rd h (Addr.add x0 1)) (fun p1 => CallsH Tryz.prog 57 [(.pointer p1)] h (fun v2 h3 => ldP (some v2) (fun p4 => K (.pointer p4) h3)))
theorem E0 (S : Stop) (x0 : Addr) (h : Heap) (K : KK) : (E Tryz.prog X T S body (fin Tryz.prog Tryz.f36.results.toList K) (args0 0 [(.pointer (some x0))]) h) = J0 x0 h K := by kernel_rfl
def w (x0 : Addr) (h : Heap) (K : KK) : Prop :=
  J0 x0 h K
theorem e0 (K : KK) (x0 : Addr) (h : Heap) : (E Tryz.prog X T S0 body (fin Tryz.prog Tryz.f36.results.toList K) (args0 0 [(.pointer (some x0))]) h) = w x0 h K := (E0 S0 x0 h K).trans (rfl)
theorem hb : Tryz.f36.body = some body := by kernel_rfl
theorem ok : okCode T Tryz.f36.ntmps body = true := by kernel_rfl
theorem spec (x0 : Addr) (h : Heap) (K : KK) (H : w x0 h K) : CallsH Tryz.prog 36 [(.pointer (some x0))] h K :=
  calls_of_E (T := T) Xok mix Tryz.func36 hb ok rfl (by rw [e0]; exact H)
end F36
-- spinney/nodes.key
namespace F73
def T : Hint := ⟨[], []⟩
noncomputable def body : Code := (Tryz.f73.body).getD .skip
def J0 (x0 x1 x2 : Int) (h : Heap) (K : KK) : Prop :=
  CallsH Tryz.prog 93 [(.int .u8 (IntKind.wrap .u8 x0)), (.int .u32 x1), (.int .u32 x2)] h (fun v1 h2 => ldI .u64 (some v1) (fun n3 => K (.int .u64 n3) h2))
theorem E0 (S : Stop) (x0 x1 x2 : Int) (h : Heap) (K : KK) : (E Tryz.prog X T S body (fin Tryz.prog Tryz.f73.results.toList K) (args0 0 [(.int .i64 x0), (.int .u32 x1), (.int .u32 x2)]) h) = J0 x0 x1 x2 h K := by kernel_rfl
def w (x0 x1 x2 : Int) (h : Heap) (K : KK) : Prop :=
  J0 x0 x1 x2 h K
theorem e0 (K : KK) (x0 x1 x2 : Int) (h : Heap) : (E Tryz.prog X T S0 body (fin Tryz.prog Tryz.f73.results.toList K) (args0 0 [(.int .i64 x0), (.int .u32 x1), (.int .u32 x2)]) h) = w x0 x1 x2 h K := (E0 S0 x0 x1 x2 h K).trans (rfl)
theorem hb : Tryz.f73.body = some body := by kernel_rfl
theorem ok : okCode T Tryz.f73.ntmps body = true := by kernel_rfl
theorem spec (x0 : Int) (x1 : Int) (x2 : Int) (h : Heap) (K : KK) (H : w x0 x1 x2 h K) : CallsH Tryz.prog 73 [(.int .i64 x0), (.int .u32 x1), (.int .u32 x2)] h K :=
  calls_of_E (T := T) Xok mix Tryz.func73 hb ok rfl (by rw [e0]; exact H)
end F73
-- (*spinney/nodes.Store).constant
namespace F85
def T : Hint := ⟨[], []⟩
noncomputable def body : Code := (Tryz.f85.body).getD .skip
def J0 (_x0 : Addr) (x1 : Int) (h : Heap) (K : KK) : Prop :=
  bcase (decide (x1 ≤ (1 : Int))) (K (.int .i64 (1 : Int)) h) (K (.int .i64 (0 : Int)) h)
theorem E0 (S : Stop) (x0 : Addr) (x1 : Int) (h : Heap) (K : KK) : (E Tryz.prog X T S body (fin Tryz.prog Tryz.f85.results.toList K) (args0 0 [(.pointer (some x0)), (.int .u32 x1)]) h) = J0 x0 x1 h K := by kernel_rfl
def w (x0 : Addr) (x1 : Int) (h : Heap) (K : KK) : Prop :=
  J0 x0 x1 h K
theorem e0 (K : KK) (x0 : Addr) (x1 : Int) (h : Heap) : (E Tryz.prog X T S0 body (fin Tryz.prog Tryz.f85.results.toList K) (args0 0 [(.pointer (some x0)), (.int .u32 x1)]) h) = w x0 x1 h K := (E0 S0 x0 x1 h K).trans (rfl)
theorem hb : Tryz.f85.body = some body := by kernel_rfl
theorem ok : okCode T Tryz.f85.ntmps body = true := by kernel_rfl
theorem spec (x0 : Addr) (x1 : Int) (h : Heap) (K : KK) (H : w x0 x1 h K) : CallsH Tryz.prog 85 [(.pointer (some x0)), (.int .u32 x1)] h K :=
  calls_of_E (T := T) Xok mix Tryz.func85 hb ok rfl (by rw [e0]; exact H)
end F85
end Go.Proofs.YtnbnlhpleomaoaaGreat.Ev
/- PRINTED BY PROGRAM: what each of these functions does, computed over heaps by the evaluator, and that its calls do so. Conditions: none. -/
namespace Go.Proofs.YtnbnlhpleomaoaaGreat.Ev
open Go
-- spinney/bits.Home
namespace F94
def T : Hint := ⟨[], []⟩
noncomputable def body : Code := (Tryz.f94.body).getD .skip
def J0 (x0 x1 : Int) (h : Heap) (K : KK) : Prop :=
  bcase (decide (x1 < (1 : Int))) (K (.int .i64 (0 : Int)) h) (CallsH Tryz.prog 113 [(.int .u64 x0)] h (fun v1 h2 => ldI .u64 (some v1) (fun n3 => ((IntKind.wrap .u64 x1) ≠ 0 ∧ K (.int .i64 (IntKind.wrap .i64 (Int.tmod n3 (IntKind.wrap .u64 x1)))) h2))))
theorem E0 (S : Stop) (x0 x1 : Int) (h : Heap) (K : KK) : (E Tryz.prog X T S body (fin Tryz.prog Tryz.f94.results.toList K) (args0 0 [(.int .u64 x0), (.int .i64 x1)]) h) = J0 x0 x1 h K := by kernel_rfl
def w (x0 x1 : Int) (h : Heap) (K : KK) : Prop :=
  J0 x0 x1 h K
theorem e0 (K : KK) (x0 x1 : Int) (h : Heap) : (E Tryz.prog X T S0 body (fin Tryz.prog Tryz.f94.results.toList K) (args0 0 [(.int .u64 x0), (.int .i64 x1)]) h) = w x0 x1 h K := (E0 S0 x0 x1 h K).trans (rfl)
theorem hb : Tryz.f94.body = some body := by kernel_rfl
theorem ok : okCode T Tryz.f94.ntmps body = true := by kernel_rfl
theorem spec (x0 : Int) (x1 : Int) (h : Heap) (K : KK) (H : w x0 x1 h K) : CallsH Tryz.prog 94 [(.int .u64 x0), (.int .i64 x1)] h K :=
  calls_of_E (T := T) Xok mix Tryz.func94 hb ok rfl (by rw [e0]; exact H)
end F94
-- spinney/bits.Mix
namespace F113
def T : Hint := ⟨[(2, [0, 5, 6]), (7, [0])], []⟩
noncomputable def body : Code := (Tryz.f113.body).getD .skip
noncomputable def en (S : Stop) (p : List Nat) (κ : XK) : Fr → Heap → Prop := E Tryz.prog X T S (sub body p) κ
noncomputable def ln (S : Stop) (p : List Nat) (κ : XK) (n : Nat) : Fr → Heap → Prop := loopN S (E Tryz.prog X T S (sub body p)) (cutQ T (sub body p)) κ n
def fn (K : KK) : XK := fin Tryz.prog Tryz.f113.results.toList K
noncomputable def c0 (S : Stop) (K : KK) : XK := seqN S (cutQ T (sub body [1, 1])) (en S [1, 1] (fn K)) (fn K)
noncomputable def c1 (S : Stop) (K : KK) : XK := blockN 0 (c0 S K)
noncomputable def c2 (S : Stop) (n2 : Nat) (K : KK) : XK := backN S (cutQ T (sub body [1, 0, 1, 0, 0])) (ln S [1, 0, 1, 0, 0] (c1 S K) n2) (c1 S K)
def f2 (x0 x6 : Int) : Fr := [(0, (.int .u64 x0)), (5, (.agg #[(.int .u64 (18397679294719823053 : Int)), (.int .u64 (14181476777654086739 : Int))])), (6, (.int .i64 x6))]
def f7 (x0 : Int) : Fr := [(0, (.int .u64 x0))]
def J0 (k2 : Int → Int → Heap → Prop) (x0 : Int) (h : Heap) (_K : KK) : Prop :=
  k2 x0 (0 : Int) h
theorem E0 (S : Stop) (x0 : Int) (h : Heap) (K : KK) : (E Tryz.prog X T S body (fin Tryz.prog Tryz.f113.results.toList K) (args0 0 [(.int .u64 x0)]) h) = J0 (fun x0 x6 h => S (en S [1, 0, 1] (c0 S K)) (f2 x0 x6) h) x0 h K := by kernel_rfl
def Jk2 (lp2 : Int → Int → Heap → Prop) (x0 x6 : Int) (h : Heap) (_K : KK) : Prop :=
  lp2 x0 x6 h
theorem Ek2 (S : Stop) (x0 x6 : Int) (h : Heap) (K : KK) : (en S [1, 0, 1] (c0 S K) (f2 x0 x6) h) = Jk2 (fun x0 x6 h => ∃ n, S (ln S [1, 0, 1, 0, 0] (c1 S K) n) (f2 x0 x6) h) x0 x6 h K := by kernel_rfl
def JL2 (bk2 : Int → Int → Heap → Prop) (k7 : Int → Heap → Prop) (x0 x6 : Int) (h : Heap) (_K : KK) : Prop :=
  bcase (decide (x6 < (2 : Int))) ((0 ≤ x6 ∧ x6 < (Nat.cast 2 : Int) ∧ ldI .u64 ([(.int .u64 (18397679294719823053 : Int)), (.int .u64 (14181476777654086739 : Int))] : List Value)[Int.toNat x6]? (fun n1 => (0 ≤ (33 : Int) ∧ bk2 (IntKind.wrap .u64 ((bitsI .xor .u64 x0 (Int.fdiv x0 (2 ^ (min (Int.toNat (33 : Int)) (IntKind.bits .u64))))) * n1)) (IntKind.wrap .i64 (x6 + (1 : Int))) h)))) (k7 x0 h)
theorem EL2 (S : Stop) (n2 : Nat) (x0 x6 : Int) (h : Heap) (K : KK) : (en S [1, 0, 1, 0, 0] (c2 S n2 K) (f2 x0 x6) h) = JL2 (fun x0 x6 h => S (ln S [1, 0, 1, 0, 0] (c1 S K) n2) (f2 x0 x6) h) (fun x0 h => S (en S [1, 1] (fn K)) (f7 x0) h) x0 x6 h K := by kernel_rfl
def Jk7 (x0 : Int) (h : Heap) (K : KK) : Prop :=
  (0 ≤ (33 : Int) ∧ K (.int .u64 (bitsI .xor .u64 x0 (Int.fdiv x0 (2 ^ (min (Int.toNat (33 : Int)) (IntKind.bits .u64)))))) h)
theorem Ek7 (S : Stop) (x0 : Int) (h : Heap) (K : KK) : (en S [1, 1] (fn K) (f7 x0) h) = Jk7 x0 h K := by kernel_rfl
def wk7 (x0 : Int) (h : Heap) (K : KK) : Prop :=
  Jk7 x0 h K
theorem ek7 (K : KK) (x0 : Int) (h : Heap) : (en S0 [1, 1] (fn K) (f7 x0) h) = wk7 x0 h K := (Ek7 S0 x0 h K).trans (rfl)
def wL2 : Nat → Int → Int → Heap → KK → Prop
  | 0, _, _, _, _ => False
  | n + 1, x0, x6, h, K => JL2 (fun x0 x6 h => wL2 n x0 x6 h K) (fun x0 h => wk7 x0 h K) x0 x6 h K
theorem eL2 (K : KK) : ∀ (n : Nat) (x0 x6 : Int) (h : Heap), (ln S0 [1, 0, 1, 0, 0] (c1 S0 K) n (f2 x0 x6) h) = wL2 n x0 x6 h K
  | 0, _, _, _ => rfl
  | n + 1, x0, x6, h => (EL2 S0 n x0 x6 h K).trans (cg2 (fun q0 q1 => JL2 q0 q1 x0 x6 h K) (by funext x0 x6 h; exact (fun x0 x6 h => eL2 K n x0 x6 h) x0 x6 h) (by funext x0 h; exact ek7 K x0 h))
def wk2 (x0 x6 : Int) (h : Heap) (K : KK) : Prop :=
  Jk2 (fun x0 x6 h => ∃ m, wL2 m x0 x6 h K) x0 x6 h K
theorem ek2 (K : KK) (x0 x6 : Int) (h : Heap) : (en S0 [1, 0, 1] (c0 S0 K) (f2 x0 x6) h) = wk2 x0 x6 h K := (Ek2 S0 x0 x6 h K).trans (cg1 (fun q0 => Jk2 q0 x0 x6 h K) (by funext x0 x6 h; exact ex_congr fun m => eL2 K m x0 x6 h))
def w (x0 : Int) (h : Heap) (K : KK) : Prop :=
  J0 (fun x0 x6 h => wk2 x0 x6 h K) x0 h K
theorem e0 (K : KK) (x0 : Int) (h : Heap) : (E Tryz.prog X T S0 body (fin Tryz.prog Tryz.f113.results.toList K) (args0 0 [(.int .u64 x0)]) h) = w x0 h K := (E0 S0 x0 h K).trans (cg1 (fun q0 => J0 q0 x0 h K) (by funext x0 x6 h; exact ek2 K x0 x6 h))
theorem hb : Tryz.f113.body = some body := by kernel_rfl
theorem ok : okCode T Tryz.f113.ntmps body = true := by kernel_rfl
theorem spec (x0 : Int) (h : Heap) (K : KK) (H : w x0 h K) : CallsH Tryz.prog 113 [(.int .u64 x0)] h K :=
  calls_of_E (T := T) Xok mix Tryz.func113 hb ok rfl (by rw [e0]; exact H)
end F113
-- spinney/bits.Node
namespace F93
def T : Hint := ⟨[], []⟩
noncomputable def body : Code := (Tryz.f93.body).getD .skip
def J0 (x0 x1 x2 : Int) (h : Heap) (K : KK) : Prop :=
  (0 ≤ (56 : Int) ∧ (0 ≤ (28 : Int) ∧ K (.int .u64 (bitsI .or .u64 (bitsI .or .u64 (IntKind.wrap .u64 ((IntKind.wrap .u64 x0) * 2 ^ (min (Int.toNat (56 : Int)) (IntKind.bits .u64)))) (IntKind.wrap .u64 ((IntKind.wrap .u64 (bitsI .and .u32 x1 (268435455 : Int))) * 2 ^ (min (Int.toNat (28 : Int)) (IntKind.bits .u64))))) (IntKind.wrap .u64 (bitsI .and .u32 x2 (268435455 : Int))))) h))
theorem E0 (S : Stop) (x0 x1 x2 : Int) (h : Heap) (K : KK) : (E Tryz.prog X T S body (fin Tryz.prog Tryz.f93.results.toList K) (args0 0 [(.int .u8 x0), (.int .u32 x1), (.int .u32 x2)]) h) = J0 x0 x1 x2 h K := by kernel_rfl
def w (x0 x1 x2 : Int) (h : Heap) (K : KK) : Prop :=
  J0 x0 x1 x2 h K
theorem e0 (K : KK) (x0 x1 x2 : Int) (h : Heap) : (E Tryz.prog X T S0 body (fin Tryz.prog Tryz.f93.results.toList K) (args0 0 [(.int .u8 x0), (.int .u32 x1), (.int .u32 x2)]) h) = w x0 x1 x2 h K := (E0 S0 x0 x1 x2 h K).trans (rfl)
theorem hb : Tryz.f93.body = some body := by kernel_rfl
theorem ok : okCode T Tryz.f93.ntmps body = true := by kernel_rfl
theorem spec (x0 : Int) (x1 : Int) (x2 : Int) (h : Heap) (K : KK) (H : w x0 x1 x2 h K) : CallsH Tryz.prog 93 [(.int .u8 x0), (.int .u32 x1), (.int .u32 x2)] h K :=
  calls_of_E (T := T) Xok mix Tryz.func93 hb ok rfl (by rw [e0]; exact H)
end F93
end Go.Proofs.YtnbnlhpleomaoaaGreat.Ev
/- PRINTED BY PROGRAM: what each of these functions does, computed over heaps by the evaluator, and that its calls do so. Conditions: none. -/
namespace Go.Proofs.YtnbnlhpleomaoaaGreat.Ev
open Go
-- spinney/mem.New
namespace F31
def T : Hint := ⟨[], []⟩
noncomputable def body : Code := (Tryz.f31.body).getD .skip
def J0 (x0 : Int) (h : Heap) (K : KK) : Prop :=
  (0 ≤ (if (262144 : Int) < (if (0 : Int) > x0 then (0 : Int) else x0) then (262144 : Int) else (if (0 : Int) > x0 then (0 : Int) else x0)) ∧ (if (262144 : Int) < (if (0 : Int) > x0 then (0 : Int) else x0) then (262144 : Int) else (if (0 : Int) > x0 then (0 : Int) else x0)) ≤ (if (262144 : Int) < (if (0 : Int) > x0 then (0 : Int) else x0) then (262144 : Int) else (if (0 : Int) > x0 then (0 : Int) else x0)) ∧ ((Nat.cast 8 : Int) * (if (262144 : Int) < (if (0 : Int) > x0 then (0 : Int) else x0) then (262144 : Int) else (if (0 : Int) > x0 then (0 : Int) else x0)) ≤ 281474976710656) ∧ (if (262144 : Int) < (if (0 : Int) > x0 then (0 : Int) else x0) then (262144 : Int) else (if (0 : Int) > x0 then (0 : Int) else x0)) ≤ 9223372036854775807 ∧ newK h (.cells (madeCells #[(.int .u64 (0 : Int))] (Int.toNat (if (262144 : Int) < (if (0 : Int) > x0 then (0 : Int) else x0) then (262144 : Int) else (if (0 : Int) > x0 then (0 : Int) else x0)) * 1)) 204) (fun b1 h2 => newK h2 (.cells #[(.slice (some (Addr.mk b1 0 none)) (Int.toNat (if (262144 : Int) < (if (0 : Int) > x0 then (0 : Int) else x0) then (262144 : Int) else (if (0 : Int) > x0 then (0 : Int) else x0))) (Int.toNat (if (262144 : Int) < (if (0 : Int) > x0 then (0 : Int) else x0) then (262144 : Int) else (if (0 : Int) > x0 then (0 : Int) else x0)))), (.int .i64 (0 : Int)), (.int .i64 (0 : Int))] 122) (fun b3 h4 => K (.pointer (some (Addr.mk b3 0 none))) h4)))
theorem E0 (S : Stop) (x0 : Int) (h : Heap) (K : KK) : (E Tryz.prog X T S body (fin Tryz.prog Tryz.f31.results.toList K) (args0 0 [(.int .i64 x0)]) h) = J0 x0 h K := by kernel_rfl
def w (x0 : Int) (h : Heap) (K : KK) : Prop :=
  J0 x0 h K
theorem e0 (K : KK) (x0 : Int) (h : Heap) : (E Tryz.prog X T S0 body (fin Tryz.prog Tryz.f31.results.toList K) (args0 0 [(.int .i64 x0)]) h) = w x0 h K := (E0 S0 x0 h K).trans (rfl)
theorem hb : Tryz.f31.body = some body := by kernel_rfl
theorem ok : okCode T Tryz.f31.ntmps body = true := by kernel_rfl
theorem spec (x0 : Int) (h : Heap) (K : KK) (H : w x0 h K) : CallsH Tryz.prog 31 [(.int .i64 x0)] h K :=
  calls_of_E (T := T) Xok mix Tryz.func31 hb ok rfl (by rw [e0]; exact H)
end F31
-- spinney/cache.Cells
namespace F32
def T : Hint := ⟨[], []⟩
noncomputable def body : Code := (Tryz.f32.body).getD .skip
def J0 (x0 : Int) (h : Heap) (K : KK) : Prop :=
  bcase (decide (x0 < (1 : Int))) (K (.int .i64 (0 : Int)) h) (K (.int .i64 (IntKind.wrap .i64 ((3 : Int) * x0))) h)
theorem E0 (S : Stop) (x0 : Int) (h : Heap) (K : KK) : (E Tryz.prog X T S body (fin Tryz.prog Tryz.f32.results.toList K) (args0 0 [(.int .i64 x0)]) h) = J0 x0 h K := by kernel_rfl
def w (x0 : Int) (h : Heap) (K : KK) : Prop :=
  J0 x0 h K
theorem e0 (K : KK) (x0 : Int) (h : Heap) : (E Tryz.prog X T S0 body (fin Tryz.prog Tryz.f32.results.toList K) (args0 0 [(.int .i64 x0)]) h) = w x0 h K := (E0 S0 x0 h K).trans (rfl)
theorem hb : Tryz.f32.body = some body := by kernel_rfl
theorem ok : okCode T Tryz.f32.ntmps body = true := by kernel_rfl
theorem spec (x0 : Int) (h : Heap) (K : KK) (H : w x0 h K) : CallsH Tryz.prog 32 [(.int .i64 x0)] h K :=
  calls_of_E (T := T) Xok mix Tryz.func32 hb ok rfl (by rw [e0]; exact H)
end F32
-- (*spinney/mem.Mem).Len
namespace F52
def T : Hint := ⟨[], []⟩
noncomputable def body : Code := (Tryz.f52.body).getD .skip
def J0 (x0 : Addr) (h : Heap) (K : KK) : Prop :=
  ldS (rd h (Addr.add x0 0)) (fun _ l2 _ => K (.int .i64 (Nat.cast l2 : Int)) h)
theorem E0 (S : Stop) (x0 : Addr) (h : Heap) (K : KK) : (E Tryz.prog X T S body (fin Tryz.prog Tryz.f52.results.toList K) (args0 0 [(.pointer (some x0))]) h) = J0 x0 h K := by kernel_rfl
def w (x0 : Addr) (h : Heap) (K : KK) : Prop :=
  J0 x0 h K
theorem e0 (K : KK) (x0 : Addr) (h : Heap) : (E Tryz.prog X T S0 body (fin Tryz.prog Tryz.f52.results.toList K) (args0 0 [(.pointer (some x0))]) h) = w x0 h K := (E0 S0 x0 h K).trans (rfl)
theorem hb : Tryz.f52.body = some body := by kernel_rfl
theorem ok : okCode T Tryz.f52.ntmps body = true := by kernel_rfl
theorem spec (x0 : Addr) (h : Heap) (K : KK) (H : w x0 h K) : CallsH Tryz.prog 52 [(.pointer (some x0))] h K :=
  calls_of_E (T := T) Xok mix Tryz.func52 hb ok rfl (by rw [e0]; exact H)
end F52
-- (*spinney/mem.Mem).Load
namespace F114
def T : Hint := ⟨[], []⟩
noncomputable def body : Code := (Tryz.f114.body).getD .skip
def J0 (x0 : Addr) (x1 : Int) (h : Heap) (K : KK) : Prop :=
  CallsH Tryz.prog 126 [(.pointer (some x0)), (.int .i64 x1)] h (fun v1 h2 => ldP (some v1) (fun p3 => bcase (!(Option.isNone p3)) (CallsH Tryz.prog 127 [(.pointer p3)] h2 (fun v4 h5 => ldI .u64 (some v4) (fun n6 => K (.int .u64 n6) h5))) (K (.int .u64 (0 : Int)) h2)))
theorem E0 (S : Stop) (x0 : Addr) (x1 : Int) (h : Heap) (K : KK) : (E Tryz.prog X T S body (fin Tryz.prog Tryz.f114.results.toList K) (args0 0 [(.pointer (some x0)), (.int .i64 x1)]) h) = J0 x0 x1 h K := by kernel_rfl
def w (x0 : Addr) (x1 : Int) (h : Heap) (K : KK) : Prop :=
  J0 x0 x1 h K
theorem e0 (K : KK) (x0 : Addr) (x1 : Int) (h : Heap) : (E Tryz.prog X T S0 body (fin Tryz.prog Tryz.f114.results.toList K) (args0 0 [(.pointer (some x0)), (.int .i64 x1)]) h) = w x0 x1 h K := (E0 S0 x0 x1 h K).trans (rfl)
theorem hb : Tryz.f114.body = some body := by kernel_rfl
theorem ok : okCode T Tryz.f114.ntmps body = true := by kernel_rfl
theorem spec (x0 : Addr) (x1 : Int) (h : Heap) (K : KK) (H : w x0 x1 h K) : CallsH Tryz.prog 114 [(.pointer (some x0)), (.int .i64 x1)] h K :=
  calls_of_E (T := T) Xok mix Tryz.func114 hb ok rfl (by rw [e0]; exact H)
end F114
-- (*spinney/mem.Mem).at
namespace F126
def T : Hint := ⟨[], []⟩
noncomputable def body : Code := (Tryz.f126.body).getD .skip
def J0 (x0 : Addr) (x1 : Int) (h : Heap) (K : KK) : Prop :=
  bcase (decide (x1 < (0 : Int))) (K (.pointer none) h) (ldS (rd h (Addr.add x0 0)) (fun _ l2 _ => bcase (decide (x1 ≥ (Nat.cast l2 : Int))) (K (.pointer none) h) (CallsH Tryz.prog 132 [(.pointer (some (Addr.add x0 1))), (.int .i64 (1 : Int))] h (fun v4 h5 => ldI .i64 (some v4) (fun _ => ldS (rd h5 (Addr.add x0 0)) (fun p7 l8 _ => ptrK p7 (fun a10 => (0 ≤ x1 ∧ x1 < (Nat.cast l8 : Int) ∧ K (.pointer (some (Addr.add a10 (Int.toNat x1 * 1)))) h5))))))))
theorem E0 (S : Stop) (x0 : Addr) (x1 : Int) (h : Heap) (K : KK) : (E Tryz.prog X T S body (fin Tryz.prog Tryz.f126.results.toList K) (args0 0 [(.pointer (some x0)), (.int .i64 x1)]) h) = J0 x0 x1 h K := by kernel_rfl
def w (x0 : Addr) (x1 : Int) (h : Heap) (K : KK) : Prop :=
  J0 x0 x1 h K
theorem e0 (K : KK) (x0 : Addr) (x1 : Int) (h : Heap) : (E Tryz.prog X T S0 body (fin Tryz.prog Tryz.f126.results.toList K) (args0 0 [(.pointer (some x0)), (.int .i64 x1)]) h) = w x0 x1 h K := (E0 S0 x0 x1 h K).trans (rfl)
theorem hb : Tryz.f126.body = some body := by kernel_rfl
theorem ok : okCode T Tryz.f126.ntmps body = true := by kernel_rfl
theorem spec (x0 : Addr) (x1 : Int) (h : Heap) (K : KK) (H : w x0 x1 h K) : CallsH Tryz.prog 126 [(.pointer (some x0)), (.int .i64 x1)] h K :=
  calls_of_E (T := T) Xok mix Tryz.func126 hb ok rfl (by rw [e0]; exact H)
end F126
-- (*sync/atomic.Uint64).Load
namespace F127
def T : Hint := ⟨[], []⟩
noncomputable def body : Code := (Tryz.f127.body).getD .skip
def J0 (x0 : Addr) (h : Heap) (K : KK) : Prop :=
  ldI .u64 (rd h (Addr.add x0 0)) (fun n3 => K (.int .u64 n3) h)
theorem E0 (S : Stop) (x0 : Addr) (h : Heap) (K : KK) : (E Tryz.prog X T S body (fin Tryz.prog Tryz.f127.results.toList K) (args0 0 [(.pointer (some x0))]) h) = J0 x0 h K := by kernel_rfl
def w (x0 : Addr) (h : Heap) (K : KK) : Prop :=
  J0 x0 h K
theorem e0 (K : KK) (x0 : Addr) (h : Heap) : (E Tryz.prog X T S0 body (fin Tryz.prog Tryz.f127.results.toList K) (args0 0 [(.pointer (some x0))]) h) = w x0 h K := (E0 S0 x0 h K).trans (rfl)
theorem hb : Tryz.f127.body = some body := by kernel_rfl
theorem ok : okCode T Tryz.f127.ntmps body = true := by kernel_rfl
theorem spec (x0 : Addr) (h : Heap) (K : KK) (H : w x0 h K) : CallsH Tryz.prog 127 [(.pointer (some x0))] h K :=
  calls_of_E (T := T) Xok mix Tryz.func127 hb ok rfl (by rw [e0]; exact H)
end F127
-- (*spinney/mem.Mem).CAS
namespace F131
def T : Hint := ⟨[], []⟩
noncomputable def body : Code := (Tryz.f131.body).getD .skip
def J0 (x0 : Addr) (x1 x2 x3 : Int) (h : Heap) (K : KK) : Prop :=
  CallsH Tryz.prog 126 [(.pointer (some x0)), (.int .i64 x1)] h (fun v1 h2 => ldP (some v1) (fun p3 => bcase (Option.isNone p3) (K (.bool false) h2) (CallsH Tryz.prog 136 [(.pointer p3), (.int .u64 x2), (.int .u64 x3)] h2 (fun v4 h5 => ldB (some v4) (fun b6 => bcase (!b6) (CallsH Tryz.prog 132 [(.pointer (some (Addr.add x0 2))), (.int .i64 (1 : Int))] h5 (fun v7 h8 => ldI .i64 (some v7) (fun _ => K (.bool b6) h8))) (K (.bool b6) h5))))))
theorem E0 (S : Stop) (x0 : Addr) (x1 x2 x3 : Int) (h : Heap) (K : KK) : (E Tryz.prog X T S body (fin Tryz.prog Tryz.f131.results.toList K) (args0 0 [(.pointer (some x0)), (.int .i64 x1), (.int .u64 x2), (.int .u64 x3)]) h) = J0 x0 x1 x2 x3 h K := by kernel_rfl
def w (x0 : Addr) (x1 x2 x3 : Int) (h : Heap) (K : KK) : Prop :=
  J0 x0 x1 x2 x3 h K
theorem e0 (K : KK) (x0 : Addr) (x1 x2 x3 : Int) (h : Heap) : (E Tryz.prog X T S0 body (fin Tryz.prog Tryz.f131.results.toList K) (args0 0 [(.pointer (some x0)), (.int .i64 x1), (.int .u64 x2), (.int .u64 x3)]) h) = w x0 x1 x2 x3 h K := (E0 S0 x0 x1 x2 x3 h K).trans (rfl)
theorem hb : Tryz.f131.body = some body := by kernel_rfl
theorem ok : okCode T Tryz.f131.ntmps body = true := by kernel_rfl
theorem spec (x0 : Addr) (x1 : Int) (x2 : Int) (x3 : Int) (h : Heap) (K : KK) (H : w x0 x1 x2 x3 h K) : CallsH Tryz.prog 131 [(.pointer (some x0)), (.int .i64 x1), (.int .u64 x2), (.int .u64 x3)] h K :=
  calls_of_E (T := T) Xok mix Tryz.func131 hb ok rfl (by rw [e0]; exact H)
end F131
-- (*sync/atomic.Int64).Add
namespace F132
def T : Hint := ⟨[], []⟩
noncomputable def body : Code := (Tryz.f132.body).getD .skip
def J0 (x0 : Addr) (x1 : Int) (h : Heap) (K : KK) : Prop :=
  ldI .i64 (rd h (Addr.add x0 0)) (fun n3 => stK h (Addr.add x0 0) (.int .i64 (IntKind.wrap .i64 (n3 + x1))) (fun h2 => K (.int .i64 (IntKind.wrap .i64 (n3 + x1))) h2))
theorem E0 (S : Stop) (x0 : Addr) (x1 : Int) (h : Heap) (K : KK) : (E Tryz.prog X T S body (fin Tryz.prog Tryz.f132.results.toList K) (args0 0 [(.pointer (some x0)), (.int .i64 x1)]) h) = J0 x0 x1 h K := by kernel_rfl
def w (x0 : Addr) (x1 : Int) (h : Heap) (K : KK) : Prop :=
  J0 x0 x1 h K
theorem e0 (K : KK) (x0 : Addr) (x1 : Int) (h : Heap) : (E Tryz.prog X T S0 body (fin Tryz.prog Tryz.f132.results.toList K) (args0 0 [(.pointer (some x0)), (.int .i64 x1)]) h) = w x0 x1 h K := (E0 S0 x0 x1 h K).trans (rfl)
theorem hb : Tryz.f132.body = some body := by kernel_rfl
theorem ok : okCode T Tryz.f132.ntmps body = true := by kernel_rfl
theorem spec (x0 : Addr) (x1 : Int) (h : Heap) (K : KK) (H : w x0 x1 h K) : CallsH Tryz.prog 132 [(.pointer (some x0)), (.int .i64 x1)] h K :=
  calls_of_E (T := T) Xok mix Tryz.func132 hb ok rfl (by rw [e0]; exact H)
end F132
-- (*sync/atomic.Uint64).CompareAndSwap
namespace F136
def T : Hint := ⟨[], []⟩
noncomputable def body : Code := (Tryz.f136.body).getD .skip
def J0 (x0 : Addr) (x1 x2 : Int) (h : Heap) (K : KK) : Prop :=
  ldI .u64 (rd h (Addr.add x0 0)) (fun n3 => bcase (n3 == x1) (stK h (Addr.add x0 0) (.int .u64 x2) (fun h2 => K (.bool true) h2)) (fz h (Addr.add x0 0) = false ∧ K (.bool false) h))
theorem E0 (S : Stop) (x0 : Addr) (x1 x2 : Int) (h : Heap) (K : KK) : (E Tryz.prog X T S body (fin Tryz.prog Tryz.f136.results.toList K) (args0 0 [(.pointer (some x0)), (.int .u64 x1), (.int .u64 x2)]) h) = J0 x0 x1 x2 h K := by kernel_rfl
def w (x0 : Addr) (x1 x2 : Int) (h : Heap) (K : KK) : Prop :=
  J0 x0 x1 x2 h K
theorem e0 (K : KK) (x0 : Addr) (x1 x2 : Int) (h : Heap) : (E Tryz.prog X T S0 body (fin Tryz.prog Tryz.f136.results.toList K) (args0 0 [(.pointer (some x0)), (.int .u64 x1), (.int .u64 x2)]) h) = w x0 x1 x2 h K := (E0 S0 x0 x1 x2 h K).trans (rfl)
theorem hb : Tryz.f136.body = some body := by kernel_rfl
theorem ok : okCode T Tryz.f136.ntmps body = true := by kernel_rfl
theorem spec (x0 : Addr) (x1 : Int) (x2 : Int) (h : Heap) (K : KK) (H : w x0 x1 x2 h K) : CallsH Tryz.prog 136 [(.pointer (some x0)), (.int .u64 x1), (.int .u64 x2)] h K :=
  calls_of_E (T := T) Xok mix Tryz.func136 hb ok rfl (by rw [e0]; exact H)
end F136
-- (*spinney/mem.Mem).Store
namespace F139
def T : Hint := ⟨[], []⟩
noncomputable def body : Code := (Tryz.f139.body).getD .skip
def J0 (x0 : Addr) (x1 x2 : Int) (h : Heap) (K : KK) : Prop :=
  CallsH Tryz.prog 126 [(.pointer (some x0)), (.int .i64 x1)] h (fun v1 h2 => ldP (some v1) (fun p3 => bcase (!(Option.isNone p3)) (CallsH Tryz.prog 142 [(.pointer p3), (.int .u64 x2)] h2 (fun v4 h5 => (v4 = (.tuple #[]) ∧ K (.tuple #[]) h5))) (K (.tuple #[]) h2)))
theorem E0 (S : Stop) (x0 : Addr) (x1 x2 : Int) (h : Heap) (K : KK) : (E Tryz.prog X T S body (fin Tryz.prog Tryz.f139.results.toList K) (args0 0 [(.pointer (some x0)), (.int .i64 x1), (.int .u64 x2)]) h) = J0 x0 x1 x2 h K := by kernel_rfl
def w (x0 : Addr) (x1 x2 : Int) (h : Heap) (K : KK) : Prop :=
  J0 x0 x1 x2 h K
theorem e0 (K : KK) (x0 : Addr) (x1 x2 : Int) (h : Heap) : (E Tryz.prog X T S0 body (fin Tryz.prog Tryz.f139.results.toList K) (args0 0 [(.pointer (some x0)), (.int .i64 x1), (.int .u64 x2)]) h) = w x0 x1 x2 h K := (E0 S0 x0 x1 x2 h K).trans (rfl)
theorem hb : Tryz.f139.body = some body := by kernel_rfl
theorem ok : okCode T Tryz.f139.ntmps body = true := by kernel_rfl
theorem spec (x0 : Addr) (x1 : Int) (x2 : Int) (h : Heap) (K : KK) (H : w x0 x1 x2 h K) : CallsH Tryz.prog 139 [(.pointer (some x0)), (.int .i64 x1), (.int .u64 x2)] h K :=
  calls_of_E (T := T) Xok mix Tryz.func139 hb ok rfl (by rw [e0]; exact H)
end F139
-- (*sync/atomic.Uint64).Store
namespace F142
def T : Hint := ⟨[], []⟩
noncomputable def body : Code := (Tryz.f142.body).getD .skip
def J0 (x0 : Addr) (x1 : Int) (h : Heap) (K : KK) : Prop :=
  stK h (Addr.add x0 0) (.int .u64 x1) (fun h2 => K (.tuple #[]) h2)
theorem E0 (S : Stop) (x0 : Addr) (x1 : Int) (h : Heap) (K : KK) : (E Tryz.prog X T S body (fin Tryz.prog Tryz.f142.results.toList K) (args0 0 [(.pointer (some x0)), (.int .u64 x1)]) h) = J0 x0 x1 h K := by kernel_rfl
def w (x0 : Addr) (x1 : Int) (h : Heap) (K : KK) : Prop :=
  J0 x0 x1 h K
theorem e0 (K : KK) (x0 : Addr) (x1 : Int) (h : Heap) : (E Tryz.prog X T S0 body (fin Tryz.prog Tryz.f142.results.toList K) (args0 0 [(.pointer (some x0)), (.int .u64 x1)]) h) = w x0 x1 h K := (E0 S0 x0 x1 h K).trans (rfl)
theorem hb : Tryz.f142.body = some body := by kernel_rfl
theorem ok : okCode T Tryz.f142.ntmps body = true := by kernel_rfl
theorem spec (x0 : Addr) (x1 : Int) (h : Heap) (K : KK) (H : w x0 x1 h K) : CallsH Tryz.prog 142 [(.pointer (some x0)), (.int .u64 x1)] h K :=
  calls_of_E (T := T) Xok mix Tryz.func142 hb ok rfl (by rw [e0]; exact H)
end F142
end Go.Proofs.YtnbnlhpleomaoaaGreat.Ev
/- CELLS (package mem): what each of its functions does to a row of cells, seen from the heap. Conditions: the row stands (MemIs). -/
namespace Go.Proofs.YtnbnlhpleomaoaaGreat.Ev
open Go
/-- block m is a Mem, its cells are block c -/
structure MemIs (h : Heap) (m c : Nat) (cs : List Int) (ops fails : Int) : Prop where
  head : At h m [.slice (some ⟨c, 0, none⟩) cs.length cs.length, .int .i64 ops, .int .i64 fails]
  body : At h c (cs.map (.int .u64))
  ne : m ≠ c
theorem MemIs.only {S : List Nat} {h h' : Heap} {m c : Nat} {cs : List Int} {ops fails : Int} (H : MemIs h m c cs ops fails) (O : Only S h h') (hm : m ∉ S) (hc : c ∉ S) : MemIs h' m c cs ops fails :=
  ⟨H.head.only O hm, H.body.only O hc, H.ne⟩
/-- one more -/
def up (n : Int) : Int := IntKind.wrap .i64 (n + 1)
theorem c40 {h : Heap} {b i : Nat} {n : Int} {K : Value → Heap → Prop} (hr : rd h ⟨b, i, none⟩ = some (.int .u64 n)) (hK : K (.int .u64 n) h) :
    CallsH Tryz.prog 127 [.pointer (some ⟨b, i, none⟩)] h K := by
  apply F127.spec
  unfold F127.w F127.J0
  rw [add_zero]
  exact ldI_of hr hK
theorem c42 {h : Heap} {b i : Nat} {c : List Value} {n d : Int} {K : Value → Heap → Prop} (H : At h b c) (hi : c[i]? = some (.int .i64 n))
    (hK : ∀ h', At h' b (c.set i (.int .i64 (IntKind.wrap .i64 (n + d)))) → Only [b] h h' → K (.int .i64 (IntKind.wrap .i64 (n + d))) h') :
    CallsH Tryz.prog 132 [.pointer (some ⟨b, i, none⟩), .int .i64 d] h K := by
  apply F132.spec
  unfold F132.w F132.J0
  rw [add_zero]
  exact ldI_of (by rw [H.rd]; exact hi) (stK_at H (List.getElem?_eq_some_iff.1 hi).1 rfl fun h' h1 h2 _ => hK h' h1 h2)
theorem c48 {h : Heap} {b i : Nat} {c : List Value} {d : Int} {K : Value → Heap → Prop} (H : At h b c) (hi : i < c.length)
    (hK : ∀ h', At h' b (c.set i (.int .u64 d)) → Only [b] h h' → K (.tuple #[]) h') :
    CallsH Tryz.prog 142 [.pointer (some ⟨b, i, none⟩), .int .u64 d] h K := by
  apply F142.spec
  unfold F142.w F142.J0
  rw [add_zero]
  exact stK_at H hi rfl fun h' h1 h2 _ => hK h' h1 h2
theorem c41 {h : Heap} {b i : Nat} {c : List Value} {n x y : Int} {K : Value → Heap → Prop} (H : At h b c) (hi : c[i]? = some (.int .u64 n))
    (hT : n = x → ∀ h', At h' b (c.set i (.int .u64 y)) → Only [b] h h' → K (.bool true) h') (hF : n ≠ x → K (.bool false) h) :
    CallsH Tryz.prog 136 [.pointer (some ⟨b, i, none⟩), .int .u64 x, .int .u64 y] h K := by
  apply F136.spec
  unfold F136.w F136.J0
  rw [add_zero]
  refine ldI_of (by rw [H.rd]; exact hi) (bcase_of (fun e => stK_at H (List.getElem?_eq_some_iff.1 hi).1 rfl fun h' h1 h2 _ => hT (by simpa using e) h' h1 h2) fun e => ⟨H.fz _ _, hF (by simpa using e)⟩)

/-- in the row: a touched cell; beside it: none -/
theorem at_in {h : Heap} {m c : Nat} {cs : List Int} {ops fails : Int} {i : Int} {K : Value → Heap → Prop} (H : MemIs h m c cs ops fails) (h0 : 0 ≤ i) (h1 : i < cs.length)
    (hK : ∀ h', MemIs h' m c cs (up ops) fails → Only [m, c] h h' → K (.pointer (some ⟨c, i.toNat, none⟩)) h') :
    CallsH Tryz.prog 126 [.pointer (some ⟨m, 0, none⟩), .int .i64 i] h K := by
  apply F126.spec
  unfold F126.w F126.J0
  rw [decide_eq_false (by omega : ¬ i < 0)]
  simp only [add_mk, H.head.rd, Nat.zero_add, List.getElem?_cons_zero, ldS_some, bcase_false]
  rw [decide_eq_false (by omega : ¬ i ≥ (Nat.cast cs.length : Int)), bcase_false]
  refine c42 (n := ops) (i := 1) H.head rfl fun h' a1 a2 => ?_
  simp only [ldI_some, List.set_cons_succ, List.set_cons_zero] at a1 ⊢
  simp only [a1.rd, List.getElem?_cons_zero, ldS_some, ptrK_some, add_mk, Nat.zero_add, Nat.mul_one]
  exact ⟨h0, h1, hK h' ⟨a1, H.body.only a2 (by simp [H.ne.symm]), H.ne⟩ (a2.mono (by simp +contextual))⟩
theorem load_in {h : Heap} {m c : Nat} {cs : List Int} {ops fails : Int} {i : Int} {K : Value → Heap → Prop} (H : MemIs h m c cs ops fails) (h0 : 0 ≤ i) (h1 : i < cs.length)
    (hK : ∀ h', MemIs h' m c cs (up ops) fails → Only [m, c] h h' → K (.int .u64 (cs.getD i.toNat 0)) h') :
    CallsH Tryz.prog 114 [.pointer (some ⟨m, 0, none⟩), .int .i64 i] h K := by
  apply F114.spec
  unfold F114.w F114.J0
  refine at_in H h0 h1 fun h' a1 a2 => ?_
  have hi : i.toNat < cs.length := by omega
  simp only [ldP_some, Option.isNone_some, Bool.not_false, bcase_true]
  refine c40 (n := cs.getD i.toNat 0) (by rw [a1.body.rd]; simp [hi]) ?_
  simp only [ldI_some]
  exact hK h' a1 a2
theorem MemIs.put {h h' : Heap} {m c : Nat} {cs : List Int} {ops fails : Int} (H : MemIs h m c cs ops fails) {i : Nat} {v : Int} (a : At h' c ((cs.map (Value.int .u64)).set i (.int .u64 v))) (O : Only [c] h h') :
    MemIs h' m c (cs.set i v) ops fails :=
  ⟨by rw [List.length_set]; exact H.head.only O (by simp [H.ne]), by rw [List.map_set]; exact a, H.ne⟩
theorem store_in {h : Heap} {m c : Nat} {cs : List Int} {ops fails : Int} {i d : Int} {K : Value → Heap → Prop} (H : MemIs h m c cs ops fails) (h0 : 0 ≤ i) (h1 : i < cs.length)
    (hK : ∀ h', MemIs h' m c (cs.set i.toNat d) (up ops) fails → Only [m, c] h h' → K (.tuple #[]) h') :
    CallsH Tryz.prog 139 [.pointer (some ⟨m, 0, none⟩), .int .i64 i, .int .u64 d] h K := by
  apply F139.spec
  unfold F139.w F139.J0
  refine at_in H h0 h1 fun h' a1 a2 => ?_
  have hi : i.toNat < cs.length := by omega
  simp only [ldP_some, Option.isNone_some, Bool.not_false, bcase_true]
  exact c48 a1.body (by simpa using hi) fun h'' b1 b2 => ⟨rfl, hK h'' (a1.put b1 b2) (a2.trans b2 (by simp))⟩
theorem cas_in {h : Heap} {m c : Nat} {cs : List Int} {ops fails : Int} {i x y : Int} {K : Value → Heap → Prop} (H : MemIs h m c cs ops fails) (h0 : 0 ≤ i) (h1 : i < cs.length)
    (hT : cs.getD i.toNat 0 = x → ∀ h', MemIs h' m c (cs.set i.toNat y) (up ops) fails → Only [m, c] h h' → K (.bool true) h')
    (hF : cs.getD i.toNat 0 ≠ x → ∀ h', MemIs h' m c cs (up ops) (up fails) → Only [m, c] h h' → K (.bool false) h') :
    CallsH Tryz.prog 131 [.pointer (some ⟨m, 0, none⟩), .int .i64 i, .int .u64 x, .int .u64 y] h K := by
  apply F131.spec
  unfold F131.w F131.J0
  refine at_in H h0 h1 fun h' a1 a2 => ?_
  have hi : i.toNat < cs.length := by omega
  simp only [ldP_some, Option.isNone_some, bcase_false]
  refine c41 (n := cs.getD i.toNat 0) a1.body (by simp [hi]) (fun e h'' b1 b2 => ?_) fun e => ?_
  · simp only [ldB_some, Bool.not_true, bcase_false]
    exact hT e h'' (a1.put b1 b2) (a2.trans b2 (by simp))
  · simp only [ldB_some, Bool.not_false, bcase_true, add_mk, Nat.zero_add]
    refine c42 (n := fails) a1.head rfl fun h'' b1 b2 => ?_
    simp only [ldI_some]
    exact hF e h'' ⟨b1, a1.body.only b2 (by simp [H.ne.symm]), H.ne⟩ (a2.trans b2 (by simp))
theorem len_spec {h : Heap} {m c : Nat} {cs : List Int} {ops fails : Int} {K : Value → Heap → Prop} (H : MemIs h m c cs ops fails) (hK : K (.int .i64 cs.length) h) :
    CallsH Tryz.prog 52 [.pointer (some ⟨m, 0, none⟩)] h K := by
  apply F52.spec
  unfold F52.w F52.J0
  rw [add_mk, H.head.rd]
  exact ldS_of rfl hK
/-- how many cells are made for a number -/
def cellsFor (n : Int) : Nat := (min (max n 0) 262144).toNat
theorem cellsFor_of {k : Nat} (h : k ≤ 262144) : cellsFor (k : Int) = k := by
  unfold cellsFor
  rw [Int.max_eq_left (by omega), Int.min_eq_left (by omega), Int.toNat_natCast]
theorem made_ints (n : Nat) : (madeCells #[.int .u64 (0 : Int)] n).toList = (List.replicate n (0 : Int)).map (Value.int .u64) := by
  rw [toList_madeCells_one]; simp
theorem new_spec {h : Heap} {n : Int} {K : Value → Heap → Prop}
    (hK : ∀ m c h', MemIs h' m c (List.replicate (cellsFor n) 0) 0 0 → Only [] h h' → h.size ≤ m → h.size ≤ c → K (.pointer (some ⟨m, 0, none⟩)) h') :
    CallsH Tryz.prog 31 [.int .i64 n] h K := by
  apply F31.spec
  unfold F31.w F31.J0
  have e : (if (262144 : Int) < (if (0 : Int) > n then (0 : Int) else n) then (262144 : Int) else (if (0 : Int) > n then (0 : Int) else n)) = (cellsFor n : Int) := by
    unfold cellsFor
    split <;> split <;> omega
  have h2 : cellsFor n ≤ 262144 := by unfold cellsFor; omega
  rw [e]
  refine ⟨by omega, by omega, by omega, by omega, ?_⟩
  refine newK_at fun h1 a1 a2 a3 => newK_at fun h2 b1 b2 b3 => ?_
  simp only [Int.toNat_natCast, Nat.mul_one] at a1 b1 ⊢
  rw [made_ints] at a1
  refine hK h1.size h.size h2 ⟨?_, a1.only b2 (by simp), by omega⟩ (a2.trans b2 (by simp)) (by omega) (by omega)
  rw [List.length_replicate]
  exact b1
end Go.Proofs.YtnbnlhpleomaoaaGreat.Ev
/- PRINTED BY PROGRAM: what each of these functions does, computed over heaps by the evaluator, and that its calls do so. Conditions: none. -/
namespace Go.Proofs.YtnbnlhpleomaoaaGreat.Ev
open Go
-- spinney/utable.New
namespace F53
def T : Hint := ⟨[], []⟩
noncomputable def body : Code := (Tryz.f53.body).getD .skip
def J0 (x0 : Addr) (x1 x2 : Int) (h : Heap) (K : KK) : Prop :=
  bcase (decide (x1 < (0 : Int))) (K (.tuple #[(.pointer none), (.int .i64 (61 : Int))]) h) (bcase (decide (x2 < (1 : Int))) (K (.tuple #[(.pointer none), (.int .i64 (61 : Int))]) h) (CallsH Tryz.prog 52 [(.pointer (some x0))] h (fun v1 h2 => ldI .i64 (some v1) (fun n3 => bcase (decide (x1 > n3)) (K (.tuple #[(.pointer none), (.int .i64 (61 : Int))]) h2) (CallsH Tryz.prog 52 [(.pointer (some x0))] h2 (fun v4 h5 => ldI .i64 (some v4) (fun n6 => bcase (decide (x2 > (IntKind.wrap .i64 (n6 - x1)))) (K (.tuple #[(.pointer none), (.int .i64 (61 : Int))]) h5) (newK h5 (.cells #[(.pointer (some x0)), (.int .i64 x1), (.int .i64 x2)] 147) (fun b7 h8 => K (.tuple #[(.pointer (some (Addr.mk b7 0 none))), (.int .i64 (0 : Int))]) h8)))))))))
theorem E0 (S : Stop) (x0 : Addr) (x1 x2 : Int) (h : Heap) (K : KK) : (E Tryz.prog X T S body (fin Tryz.prog Tryz.f53.results.toList K) (args0 0 [(.pointer (some x0)), (.int .i64 x1), (.int .i64 x2)]) h) = J0 x0 x1 x2 h K := by kernel_rfl
def w (x0 : Addr) (x1 x2 : Int) (h : Heap) (K : KK) : Prop :=
  J0 x0 x1 x2 h K
theorem e0 (K : KK) (x0 : Addr) (x1 x2 : Int) (h : Heap) : (E Tryz.prog X T S0 body (fin Tryz.prog Tryz.f53.results.toList K) (args0 0 [(.pointer (some x0)), (.int .i64 x1), (.int .i64 x2)]) h) = w x0 x1 x2 h K := (E0 S0 x0 x1 x2 h K).trans (rfl)
theorem hb : Tryz.f53.body = some body := by kernel_rfl
theorem ok : okCode T Tryz.f53.ntmps body = true := by kernel_rfl
theorem spec (x0 : Addr) (x1 : Int) (x2 : Int) (h : Heap) (K : KK) (H : w x0 x1 x2 h K) : CallsH Tryz.prog 53 [(.pointer (some x0)), (.int .i64 x1), (.int .i64 x2)] h K :=
  calls_of_E (T := T) Xok mix Tryz.func53 hb ok rfl (by rw [e0]; exact H)
end F53
-- (*spinney/utable.Table).Find
namespace F89
def T : Hint := ⟨[], [(1, [[(0, []), (1, []), (2, []), (3, []), (4, []), (5, []), (6, []), (8, []), (9, []), (10, []), (11, []), (12, []), (13, []), (7, [0, 1, 8, 9, 10, 11, 12, 13]), (14, []), (15, []), (16, [])]])]⟩
noncomputable def body : Code := (Tryz.f89.body).getD .skip
def J0 (x0 : Addr) (x1 : Int) (h : Heap) (K : KK) : Prop :=
  ldI .i64 (rd h (Addr.add x0 2)) (fun n1 => ldI .i64 (rd h (Addr.add x0 2)) (fun n2 => CallsH Tryz.prog 94 [(.int .u64 x1), (.int .i64 n1)] h (fun v3 h4 => ldI .i64 (some v3) (fun n5 => ((.pointer (some x0)) = ((.pointer (some x0)) : Value) ∧ ((.int .u64 x1) = ((.int .u64 x1) : Value) ∧ ((.pointer (some x0)) = ((.pointer (some x0)) : Value) ∧ ((.pointer (some x0)) = ((.pointer (some x0)) : Value) ∧ ((.pointer (some (Addr.add x0 2))) = ((.pointer (some (Addr.add x0 2))) : Value) ∧ ldI .i64 (rd h4 (Addr.add x0 2)) (fun n6 => ((.int .i64 n6) = ((.int .i64 n2) : Value) ∧ ((.int .u64 x1) = ((.int .u64 x1) : Value) ∧ ((.bool (x1 == (0 : Int))) = ((.bool (x1 == (0 : Int))) : Value) ∧ newK h4 (.cells #[(.pointer (some x0)), (.int .u64 x1), (.int .i64 n5), (.int .i64 n2), .nilFunc, (.bool (x1 == (0 : Int))), (.int .i64 (-1 : Int)), (.int .i64 (61 : Int)), (.bool false)] 184) (fun b7 h8 => stK h8 (Addr.add (Addr.add (Addr.mk b7 0 none) 4) 0) (.func (.func 112) #[(.pointer (some (Addr.mk b7 0 none)))] #[]) (fun h9 => K (.pointer (some (Addr.mk b7 0 none))) h9)))))))))))))))
theorem E0 (S : Stop) (x0 : Addr) (x1 : Int) (h : Heap) (K : KK) : (E Tryz.prog X T S body (fin Tryz.prog Tryz.f89.results.toList K) (args0 0 [(.pointer (some x0)), (.int .u64 x1)]) h) = J0 x0 x1 h K := by kernel_rfl
def w (x0 : Addr) (x1 : Int) (h : Heap) (K : KK) : Prop :=
  J0 x0 x1 h K
theorem e0 (K : KK) (x0 : Addr) (x1 : Int) (h : Heap) : (E Tryz.prog X T S0 body (fin Tryz.prog Tryz.f89.results.toList K) (args0 0 [(.pointer (some x0)), (.int .u64 x1)]) h) = w x0 x1 h K := (E0 S0 x0 x1 h K).trans (rfl)
theorem hb : Tryz.f89.body = some body := by kernel_rfl
theorem ok : okCode T Tryz.f89.ntmps body = true := by kernel_rfl
theorem spec (x0 : Addr) (x1 : Int) (h : Heap) (K : KK) (H : w x0 x1 h K) : CallsH Tryz.prog 89 [(.pointer (some x0)), (.int .u64 x1)] h K :=
  calls_of_E (T := T) Xok mix Tryz.func89 hb ok rfl (by rw [e0]; exact H)
end F89
-- (*spinney/utable.Finder).Step
namespace F90
def T : Hint := ⟨[(3, [0])], []⟩
noncomputable def body : Code := (Tryz.f90.body).getD .skip
noncomputable def en (S : Stop) (p : List Nat) (κ : XK) : Fr → Heap → Prop := E Tryz.prog X T S (sub body p) κ
def fn (K : KK) : XK := fin Tryz.prog Tryz.f90.results.toList K
def f3 (x0 : Addr) : Fr := [(0, (.pointer (some x0)))]
def J0 (k3 : Addr → Heap → Prop) (x0 : Addr) (h : Heap) (_K : KK) : Prop :=
  ldB (rd h (Addr.add x0 5)) (fun b1 => bcase (!b1) (ldV (rd h (Addr.add x0 4)) (fun v2 => dynK Tryz.prog X v2 [] h (fun v3 h4 => (v3 = (.tuple #[]) ∧ k3 x0 h4)))) (k3 x0 h))
theorem E0 (S : Stop) (x0 : Addr) (h : Heap) (K : KK) : (E Tryz.prog X T S body (fin Tryz.prog Tryz.f90.results.toList K) (args0 0 [(.pointer (some x0))]) h) = J0 (fun x0 h => S (en S [1, 1] (fn K)) (f3 x0) h) x0 h K := by kernel_rfl
def Jk3 (x0 : Addr) (h : Heap) (K : KK) : Prop :=
  ldB (rd h (Addr.add x0 5)) (fun b1 => K (.bool b1) h)
theorem Ek3 (S : Stop) (x0 : Addr) (h : Heap) (K : KK) : (en S [1, 1] (fn K) (f3 x0) h) = Jk3 x0 h K := by kernel_rfl
def wk3 (x0 : Addr) (h : Heap) (K : KK) : Prop :=
  Jk3 x0 h K
theorem ek3 (K : KK) (x0 : Addr) (h : Heap) : (en S0 [1, 1] (fn K) (f3 x0) h) = wk3 x0 h K := (Ek3 S0 x0 h K).trans (rfl)
def w (x0 : Addr) (h : Heap) (K : KK) : Prop :=
  J0 (fun x0 h => wk3 x0 h K) x0 h K
theorem e0 (K : KK) (x0 : Addr) (h : Heap) : (E Tryz.prog X T S0 body (fin Tryz.prog Tryz.f90.results.toList K) (args0 0 [(.pointer (some x0))]) h) = w x0 h K := (E0 S0 x0 h K).trans (cg1 (fun q0 => J0 q0 x0 h K) (by funext x0 h; exact ek3 K x0 h))
theorem hb : Tryz.f90.body = some body := by kernel_rfl
theorem ok : okCode T Tryz.f90.ntmps body = true := by kernel_rfl
theorem spec (x0 : Addr) (h : Heap) (K : KK) (H : w x0 h K) : CallsH Tryz.prog 90 [(.pointer (some x0))] h K :=
  calls_of_E (T := T) Xok mix Tryz.func90 hb ok rfl (by rw [e0]; exact H)
end F90
-- (*spinney/utable.Finder).Slot
namespace F91
def T : Hint := ⟨[], [(1, [[(0, []), (1, []), (2, []), (3, []), (4, []), (5, []), (6, []), (7, []), (8, []), (9, [])]])]⟩
noncomputable def body : Code := (Tryz.f91.body).getD .skip
def J0 (x0 : Addr) (h : Heap) (K : KK) : Prop :=
  ldI .i64 (rd h (Addr.add x0 6)) (fun n1 => ldI .i64 (rd h (Addr.add x0 7)) (fun n2 => K (.tuple #[(.int .i64 n1), (.int .i64 n2)]) h))
theorem E0 (S : Stop) (x0 : Addr) (h : Heap) (K : KK) : (E Tryz.prog X T S body (fin Tryz.prog Tryz.f91.results.toList K) (args0 0 [(.pointer (some x0))]) h) = J0 x0 h K := by kernel_rfl
def w (x0 : Addr) (h : Heap) (K : KK) : Prop :=
  J0 x0 h K
theorem e0 (K : KK) (x0 : Addr) (h : Heap) : (E Tryz.prog X T S0 body (fin Tryz.prog Tryz.f91.results.toList K) (args0 0 [(.pointer (some x0))]) h) = w x0 h K := (E0 S0 x0 h K).trans (rfl)
theorem hb : Tryz.f91.body = some body := by kernel_rfl
theorem ok : okCode T Tryz.f91.ntmps body = true := by kernel_rfl
theorem spec (x0 : Addr) (h : Heap) (K : KK) (H : w x0 h K) : CallsH Tryz.prog 91 [(.pointer (some x0))] h K :=
  calls_of_E (T := T) Xok mix Tryz.func91 hb ok rfl (by rw [e0]; exact H)
end F91
-- (*spinney/utable.Finder).Made
namespace F92
def T : Hint := ⟨[], []⟩
noncomputable def body : Code := (Tryz.f92.body).getD .skip
def J0 (x0 : Addr) (h : Heap) (K : KK) : Prop :=
  ldB (rd h (Addr.add x0 8)) (fun b1 => K (.bool b1) h)
theorem E0 (S : Stop) (x0 : Addr) (h : Heap) (K : KK) : (E Tryz.prog X T S body (fin Tryz.prog Tryz.f92.results.toList K) (args0 0 [(.pointer (some x0))]) h) = J0 x0 h K := by kernel_rfl
def w (x0 : Addr) (h : Heap) (K : KK) : Prop :=
  J0 x0 h K
theorem e0 (K : KK) (x0 : Addr) (h : Heap) : (E Tryz.prog X T S0 body (fin Tryz.prog Tryz.f92.results.toList K) (args0 0 [(.pointer (some x0))]) h) = w x0 h K := (E0 S0 x0 h K).trans (rfl)
theorem hb : Tryz.f92.body = some body := by kernel_rfl
theorem ok : okCode T Tryz.f92.ntmps body = true := by kernel_rfl
theorem spec (x0 : Addr) (h : Heap) (K : KK) (H : w x0 h K) : CallsH Tryz.prog 92 [(.pointer (some x0))] h K :=
  calls_of_E (T := T) Xok mix Tryz.func92 hb ok rfl (by rw [e0]; exact H)
end F92
-- (*spinney/utable.Table).Slots
namespace F76
def T : Hint := ⟨[], []⟩
noncomputable def body : Code := (Tryz.f76.body).getD .skip
def J0 (x0 : Addr) (h : Heap) (K : KK) : Prop :=
  ldI .i64 (rd h (Addr.add x0 2)) (fun n1 => K (.int .i64 n1) h)
theorem E0 (S : Stop) (x0 : Addr) (h : Heap) (K : KK) : (E Tryz.prog X T S body (fin Tryz.prog Tryz.f76.results.toList K) (args0 0 [(.pointer (some x0))]) h) = J0 x0 h K := by kernel_rfl
def w (x0 : Addr) (h : Heap) (K : KK) : Prop :=
  J0 x0 h K
theorem e0 (K : KK) (x0 : Addr) (h : Heap) : (E Tryz.prog X T S0 body (fin Tryz.prog Tryz.f76.results.toList K) (args0 0 [(.pointer (some x0))]) h) = w x0 h K := (E0 S0 x0 h K).trans (rfl)
theorem hb : Tryz.f76.body = some body := by kernel_rfl
theorem ok : okCode T Tryz.f76.ntmps body = true := by kernel_rfl
theorem spec (x0 : Addr) (h : Heap) (K : KK) (H : w x0 h K) : CallsH Tryz.prog 76 [(.pointer (some x0))] h K :=
  calls_of_E (T := T) Xok mix Tryz.func76 hb ok rfl (by rw [e0]; exact H)
end F76
-- (*spinney/utable.Table).At
namespace F95
def T : Hint := ⟨[], [(3, [[(0, []), (1, []), (2, []), (3, []), (4, []), (5, []), (6, []), (7, []), (8, []), (9, []), (10, []), (11, [])]])]⟩
noncomputable def body : Code := (Tryz.f95.body).getD .skip
def J0 (x0 : Addr) (x1 : Int) (h : Heap) (K : KK) : Prop :=
  bcase (decide (x1 < (0 : Int))) (K (.int .u64 (0 : Int)) h) (ldI .i64 (rd h (Addr.add x0 2)) (fun n1 => bcase (decide (x1 ≥ n1)) (K (.int .u64 (0 : Int)) h) (ldP (rd h (Addr.add x0 0)) (fun p2 => ldI .i64 (rd h (Addr.add x0 1)) (fun n3 => CallsH Tryz.prog 114 [(.pointer p2), (.int .i64 (IntKind.wrap .i64 (n3 + x1)))] h (fun v4 h5 => ldI .u64 (some v4) (fun n6 => K (.int .u64 n6) h5)))))))
theorem E0 (S : Stop) (x0 : Addr) (x1 : Int) (h : Heap) (K : KK) : (E Tryz.prog X T S body (fin Tryz.prog Tryz.f95.results.toList K) (args0 0 [(.pointer (some x0)), (.int .i64 x1)]) h) = J0 x0 x1 h K := by kernel_rfl
def w (x0 : Addr) (x1 : Int) (h : Heap) (K : KK) : Prop :=
  J0 x0 x1 h K
theorem e0 (K : KK) (x0 : Addr) (x1 : Int) (h : Heap) : (E Tryz.prog X T S0 body (fin Tryz.prog Tryz.f95.results.toList K) (args0 0 [(.pointer (some x0)), (.int .i64 x1)]) h) = w x0 x1 h K := (E0 S0 x0 x1 h K).trans (rfl)
theorem hb : Tryz.f95.body = some body := by kernel_rfl
theorem ok : okCode T Tryz.f95.ntmps body = true := by kernel_rfl
theorem spec (x0 : Addr) (x1 : Int) (h : Heap) (K : KK) (H : w x0 x1 h K) : CallsH Tryz.prog 95 [(.pointer (some x0)), (.int .i64 x1)] h K :=
  calls_of_E (T := T) Xok mix Tryz.func95 hb ok rfl (by rw [e0]; exact H)
end F95
-- (*spinney/utable.Finder).looks
namespace F112
def T : Hint := ⟨[], [(0, [[(0, []), (1, []), (2, []), (3, []), (4, []), (5, []), (6, []), (7, []), (8, []), (9, []), (10, []), (11, []), (12, []), (13, []), (14, []), (15, []), (16, []), (17, []), (18, []), (19, [])]])]⟩
noncomputable def body : Code := (Tryz.f112.body).getD .skip
def J0 (x0 : Addr) (h : Heap) (K : KK) : Prop :=
  ldP (rd h (Addr.add x0 0)) (fun p1 => ptrK p1 (fun a2 => ldP (rd h (Addr.add a2 0)) (fun p3 => ldP (rd h (Addr.add x0 0)) (fun p4 => ptrK p4 (fun a5 => ldI .i64 (rd h (Addr.add a5 1)) (fun n6 => ldI .i64 (rd h (Addr.add x0 2)) (fun n7 => CallsH Tryz.prog 114 [(.pointer p3), (.int .i64 (IntKind.wrap .i64 (n6 + n7)))] h (fun v8 h9 => ldI .u64 (some v8) (fun n10 => ldI .u64 (rd h9 (Addr.add x0 1)) (fun n11 => bcase (n10 == n11) (ldI .i64 (rd h9 (Addr.add x0 2)) (fun n12 => CallsH Tryz.prog 123 [(.pointer (some x0)), (.int .i64 n12), (.int .i64 (0 : Int))] h9 (fun v13 h14 => (v13 = (.tuple #[]) ∧ K (.tuple #[]) h14)))) (bcase (n10 == (0 : Int)) (stK h9 (Addr.add (Addr.add x0 4) 0) (.func (.func 124) #[(.pointer (some x0))] #[]) (fun h15 => K (.tuple #[]) h15)) (CallsH Tryz.prog 125 [(.pointer (some x0))] h9 (fun v16 h17 => (v16 = (.tuple #[]) ∧ K (.tuple #[]) h17))))))))))))))
theorem E0 (S : Stop) (x0 : Addr) (h : Heap) (K : KK) : (E Tryz.prog X T S body (fin Tryz.prog Tryz.f112.results.toList K) (args0 0 [(.pointer (some x0))]) h) = J0 x0 h K := by kernel_rfl
def w (x0 : Addr) (h : Heap) (K : KK) : Prop :=
  J0 x0 h K
theorem e0 (K : KK) (x0 : Addr) (h : Heap) : (E Tryz.prog X T S0 body (fin Tryz.prog Tryz.f112.results.toList K) (args0 0 [(.pointer (some x0))]) h) = w x0 h K := (E0 S0 x0 h K).trans (rfl)
theorem hb : Tryz.f112.body = some body := by kernel_rfl
theorem ok : okCode T Tryz.f112.ntmps body = true := by kernel_rfl
theorem spec (x0 : Addr) (h : Heap) (K : KK) (H : w x0 h K) : CallsH Tryz.prog 112 [(.pointer (some x0))] h K :=
  calls_of_E (T := T) Xok mix Tryz.func112 hb ok rfl (by rw [e0]; exact H)
end F112
-- (*spinney/utable.Finder).ends
namespace F123
def T : Hint := ⟨[], []⟩
noncomputable def body : Code := (Tryz.f123.body).getD .skip
def J0 (x0 : Addr) (x1 x2 : Int) (h : Heap) (K : KK) : Prop :=
  stK h (Addr.add (Addr.add x0 5) 0) (.bool true) (fun h1 => stK h1 (Addr.add (Addr.add x0 6) 0) (.int .i64 x1) (fun h2 => stK h2 (Addr.add (Addr.add x0 7) 0) (.int .i64 x2) (fun h3 => K (.tuple #[]) h3)))
theorem E0 (S : Stop) (x0 : Addr) (x1 x2 : Int) (h : Heap) (K : KK) : (E Tryz.prog X T S body (fin Tryz.prog Tryz.f123.results.toList K) (args0 0 [(.pointer (some x0)), (.int .i64 x1), (.int .i64 x2)]) h) = J0 x0 x1 x2 h K := by kernel_rfl
def w (x0 : Addr) (x1 x2 : Int) (h : Heap) (K : KK) : Prop :=
  J0 x0 x1 x2 h K
theorem e0 (K : KK) (x0 : Addr) (x1 x2 : Int) (h : Heap) : (E Tryz.prog X T S0 body (fin Tryz.prog Tryz.f123.results.toList K) (args0 0 [(.pointer (some x0)), (.int .i64 x1), (.int .i64 x2)]) h) = w x0 x1 x2 h K := (E0 S0 x0 x1 x2 h K).trans (rfl)
theorem hb : Tryz.f123.body = some body := by kernel_rfl
theorem ok : okCode T Tryz.f123.ntmps body = true := by kernel_rfl
theorem spec (x0 : Addr) (x1 : Int) (x2 : Int) (h : Heap) (K : KK) (H : w x0 x1 x2 h K) : CallsH Tryz.prog 123 [(.pointer (some x0)), (.int .i64 x1), (.int .i64 x2)] h K :=
  calls_of_E (T := T) Xok mix Tryz.func123 hb ok rfl (by rw [e0]; exact H)
end F123
-- (*spinney/utable.Finder).claims
namespace F124
def T : Hint := ⟨[], [(1, [[(0, []), (1, []), (2, []), (3, []), (4, []), (5, []), (6, []), (7, []), (8, []), (9, []), (10, []), (11, []), (12, []), (13, []), (14, []), (15, []), (16, []), (17, []), (18, []), (19, []), (20, []), (21, []), (22, []), (23, [])]])]⟩
noncomputable def body : Code := (Tryz.f124.body).getD .skip
def J0 (x0 : Addr) (h : Heap) (K : KK) : Prop :=
  stK h (Addr.add (Addr.add x0 4) 0) (.func (.func 112) #[(.pointer (some x0))] #[]) (fun h1 => ldP (rd h1 (Addr.add x0 0)) (fun p2 => ptrK p2 (fun a3 => ldP (rd h1 (Addr.add a3 0)) (fun p4 => ldP (rd h1 (Addr.add x0 0)) (fun p5 => ptrK p5 (fun a6 => ldI .i64 (rd h1 (Addr.add a6 1)) (fun n7 => ldI .i64 (rd h1 (Addr.add x0 2)) (fun n8 => ldI .u64 (rd h1 (Addr.add x0 1)) (fun n9 => CallsH Tryz.prog 131 [(.pointer p4), (.int .i64 (IntKind.wrap .i64 (n7 + n8))), (.int .u64 (0 : Int)), (.int .u64 n9)] h1 (fun v10 h11 => ldB (some v10) (fun b12 => bcase b12 (stK h11 (Addr.add (Addr.add x0 8) 0) (.bool true) (fun h13 => ldI .i64 (rd h13 (Addr.add x0 2)) (fun n14 => CallsH Tryz.prog 123 [(.pointer (some x0)), (.int .i64 n14), (.int .i64 (0 : Int))] h13 (fun v15 h16 => (v15 = (.tuple #[]) ∧ K (.tuple #[]) h16))))) (K (.tuple #[]) h11))))))))))))
theorem E0 (S : Stop) (x0 : Addr) (h : Heap) (K : KK) : (E Tryz.prog X T S body (fin Tryz.prog Tryz.f124.results.toList K) (args0 0 [(.pointer (some x0))]) h) = J0 x0 h K := by kernel_rfl
def w (x0 : Addr) (h : Heap) (K : KK) : Prop :=
  J0 x0 h K
theorem e0 (K : KK) (x0 : Addr) (h : Heap) : (E Tryz.prog X T S0 body (fin Tryz.prog Tryz.f124.results.toList K) (args0 0 [(.pointer (some x0))]) h) = w x0 h K := (E0 S0 x0 h K).trans (rfl)
theorem hb : Tryz.f124.body = some body := by kernel_rfl
theorem ok : okCode T Tryz.f124.ntmps body = true := by kernel_rfl
theorem spec (x0 : Addr) (h : Heap) (K : KK) (H : w x0 h K) : CallsH Tryz.prog 124 [(.pointer (some x0))] h K :=
  calls_of_E (T := T) Xok mix Tryz.func124 hb ok rfl (by rw [e0]; exact H)
end F124
-- (*spinney/utable.Finder).goes
namespace F125
def T : Hint := ⟨[], [(0, [[(0, []), (1, []), (2, []), (3, []), (4, []), (5, []), (6, []), (7, []), (8, []), (9, []), (10, []), (11, []), (12, []), (13, []), (14, []), (15, []), (16, [])]])]⟩
noncomputable def body : Code := (Tryz.f125.body).getD .skip
def J0 (x0 : Addr) (h : Heap) (K : KK) : Prop :=
  ldI .i64 (rd h (Addr.add x0 2)) (fun n1 => ldP (rd h (Addr.add x0 0)) (fun p2 => ptrK p2 (fun a3 => ldI .i64 (rd h (Addr.add a3 2)) (fun n4 => (n4 ≠ 0 ∧ stK h (Addr.add (Addr.add x0 2) 0) (.int .i64 (Int.tmod (IntKind.wrap .i64 (n1 + (1 : Int))) n4)) (fun h5 => ldI .i64 (rd h5 (Addr.add x0 3)) (fun n6 => stK h5 (Addr.add (Addr.add x0 3) 0) (.int .i64 (IntKind.wrap .i64 (n6 - (1 : Int)))) (fun h7 => ldI .i64 (rd h7 (Addr.add x0 3)) (fun n8 => bcase (n8 == (0 : Int)) (CallsH Tryz.prog 123 [(.pointer (some x0)), (.int .i64 (-1 : Int)), (.int .i64 (60 : Int))] h7 (fun v9 h10 => (v9 = (.tuple #[]) ∧ K (.tuple #[]) h10))) (K (.tuple #[]) h7))))))))))
theorem E0 (S : Stop) (x0 : Addr) (h : Heap) (K : KK) : (E Tryz.prog X T S body (fin Tryz.prog Tryz.f125.results.toList K) (args0 0 [(.pointer (some x0))]) h) = J0 x0 h K := by kernel_rfl
def w (x0 : Addr) (h : Heap) (K : KK) : Prop :=
  J0 x0 h K
theorem e0 (K : KK) (x0 : Addr) (h : Heap) : (E Tryz.prog X T S0 body (fin Tryz.prog Tryz.f125.results.toList K) (args0 0 [(.pointer (some x0))]) h) = w x0 h K := (E0 S0 x0 h K).trans (rfl)
theorem hb : Tryz.f125.body = some body := by kernel_rfl
theorem ok : okCode T Tryz.f125.ntmps body = true := by kernel_rfl
theorem spec (x0 : Addr) (h : Heap) (K : KK) (H : w x0 h K) : CallsH Tryz.prog 125 [(.pointer (some x0))] h K :=
  calls_of_E (T := T) Xok mix Tryz.func125 hb ok rfl (by rw [e0]; exact H)
end F125
end Go.Proofs.YtnbnlhpleomaoaaGreat.Ev
/- THE TABLE (package utable): what each of its functions does to a row of cells and to a finder, seen from the heap. Conditions: the table and the finder stand (TabIs, FindIs). -/
namespace Go.Proofs.YtnbnlhpleomaoaaGreat.Ev
open Go
def xsf (x : Int) : Int := bitsI .xor .u64 x (Int.fdiv x (2 ^ (min (Int.toNat (33 : Int)) (IntKind.bits .u64))))
def mixF (x : Int) : Int := xsf (IntKind.wrap .u64 (xsf (IntKind.wrap .u64 (xsf x * 18397679294719823053)) * 14181476777654086739))
theorem wrapu_range (x : Int) : 0 ≤ IntKind.wrap .u64 x ∧ IntKind.wrap .u64 x < 18446744073709551616 := by
  rw [wrap_u64']; omega
theorem xsf_range (x : Int) : 0 ≤ xsf x ∧ xsf x < 18446744073709551616 := wrapu_range _
theorem mix_spec {h : Heap} {x : Int} {K : Value → Heap → Prop} (hK : K (.int .u64 (mixF x)) h) : CallsH Tryz.prog 113 [.int .u64 x] h K := by
  apply F113.spec
  unfold F113.w F113.J0 F113.wk2 F113.Jk2
  refine ⟨3, ?_⟩
  unfold F113.wL2 F113.JL2
  rw [show decide ((0 : Int) < 2) = true from rfl, bcase_true]
  refine ⟨by decide, by decide, ldI_of rfl ⟨by decide, ?_⟩⟩
  unfold F113.wL2 F113.JL2
  dsimp only
  rw [show IntKind.wrap .i64 ((0 : Int) + 1) = 1 from rfl, show decide ((1 : Int) < 2) = true from rfl, bcase_true]
  refine ⟨by decide, by decide, ldI_of rfl ⟨by decide, ?_⟩⟩
  unfold F113.wL2 F113.JL2
  dsimp only
  rw [show IntKind.wrap .i64 ((1 : Int) + 1) = 2 from rfl, show decide ((2 : Int) < 2) = false from rfl, bcase_false]
  exact ⟨by decide, hK⟩
def home (key : Int) (n : Nat) : Nat := ((mixF key).tmod n).toNat
theorem home_lt (key : Int) {n : Nat} (hn : 1 ≤ n) : home key n < n := by
  unfold home
  have h0 : 0 ≤ mixF key := (xsf_range _).1
  rw [Int.tmod_eq_emod_of_nonneg h0]
  have := Int.emod_lt_of_pos (mixF key) (by omega : (0 : Int) < n)
  have := Int.emod_nonneg (mixF key) (by omega : (n : Int) ≠ 0)
  omega
theorem home_spec {h : Heap} {x : Int} {n : Nat} {K : Value → Heap → Prop} (h1 : 1 ≤ n) (h2 : n < 1000000000) (hK : K (.int .i64 (home x n : Int)) h) : CallsH Tryz.prog 94 [.int .u64 x, .int .i64 (n : Int)] h K := by
  apply F94.spec
  unfold F94.w F94.J0
  rw [decide_eq_false (by omega), bcase_false]
  refine mix_spec (ldI_of rfl ?_)
  rw [wrap_u64 (n := (n : Int)) (by omega) (by omega)]
  have h0 : 0 ≤ mixF x := (xsf_range _).1
  have e : (mixF x).tmod n = (home x n : Int) := by
    unfold home
    rw [Int.tmod_eq_emod_of_nonneg h0]
    have := Int.emod_nonneg (mixF x) (by omega : (n : Int) ≠ 0)
    omega
  have := home_lt x h1
  rw [e, wrap_i64 (by omega) (by omega)]
  exact ⟨by omega, hK⟩

/-- block t is a table over the Mem m -/
def TabIs (h : Heap) (t m base n : Nat) : Prop := At h t [.pointer (some ⟨m, 0, none⟩), .int .i64 (base : Int), .int .i64 (n : Int)]
theorem TabIs.only {S : List Nat} {h h' : Heap} {t m base n : Nat} (H : TabIs h t m base n) (O : Only S h h') (ht : t ∉ S) : TabIs h' t m base n := At.only H O ht
/-- a finder's state -/
structure Fi where
  key : Int
  pos : Nat
  left : Nat
  claims : Bool
  done : Bool
  slot : Int
  e : Int
  made : Bool
def nxt (f : Nat) : Bool → Value
  | true => .func (.func 124) #[.pointer (some ⟨f, 0, none⟩)] #[]
  | false => .func (.func 112) #[.pointer (some ⟨f, 0, none⟩)] #[]
def FindIs (h : Heap) (f t : Nat) (F : Fi) : Prop :=
  At h f [.pointer (some ⟨t, 0, none⟩), .int .u64 F.key, .int .i64 (F.pos : Int), .int .i64 (F.left : Int), nxt f F.claims, .bool F.done, .int .i64 F.slot, .int .i64 F.e, .bool F.made]
theorem FindIs.only {S : List Nat} {h h' : Heap} {f t : Nat} {F : Fi} (H : FindIs h f t F) (O : Only S h h') (ht : f ∉ S) : FindIs h' f t F := At.only H O ht

/-- one step of a finder -/
def stepF (base n : Nat) (cs : List Int) (F : Fi) : Fi × List Int :=
  if F.done then (F, cs) else
  if F.claims then
    if cs.getD (base + F.pos) 0 = 0 then ({ F with claims := false, made := true, done := true, slot := F.pos, e := 0 }, cs.set (base + F.pos) F.key)
    else ({ F with claims := false }, cs)
  else if cs.getD (base + F.pos) 0 = F.key then ({ F with done := true, slot := F.pos, e := 0 }, cs)
  else if cs.getD (base + F.pos) 0 = 0 then ({ F with claims := true }, cs)
  else if F.left = 1 then ({ F with pos := (F.pos + 1) % n, left := 0, done := true, slot := -1, e := 60 }, cs)
  else ({ F with pos := (F.pos + 1) % n, left := F.left - 1 }, cs)

theorem ends_spec {h : Heap} {f t : Nat} {F : Fi} {s e : Int} {K : Value → Heap → Prop} (H : FindIs h f t F)
    (hK : ∀ h', FindIs h' f t { F with done := true, slot := s, e := e } → Only [f] h h' → K (.tuple #[]) h') :
    CallsH Tryz.prog 123 [.pointer (some ⟨f, 0, none⟩), .int .i64 s, .int .i64 e] h K := by
  apply F123.spec
  unfold F123.w F123.J0
  simp only [add_mk, Nat.zero_add, Nat.add_zero]
  refine stK_at H (by simp) rfl fun h1 A1 O1 _ => stK_at A1 (by simp) rfl fun h2 A2 O2 _ => stK_at A2 (by simp) rfl fun h3 A3 O3 _ => ?_
  exact hK h3 A3 ((O1.trans O2 (by simp)).trans O3 (by simp))

section
variable {h : Heap} {f t m mc base n : Nat} {cs : List Int} {ops fails : Int} {F : Fi} {K : Value → Heap → Prop}
theorem goes_spec (T : TabIs h t m base n) (H : FindIs h f t F) (hn : 1 ≤ n) (hn2 : n < 1000000000) (hp : F.pos < n) (hl : 1 ≤ F.left) (hl2 : F.left < 1000000000)
    (hK : ∀ h', FindIs h' f t (if F.left = 1 then { F with pos := (F.pos + 1) % n, left := 0, done := true, slot := -1, e := 60 } else { F with pos := (F.pos + 1) % n, left := F.left - 1 }) → Only [f] h h' → K (.tuple #[]) h') :
    CallsH Tryz.prog 125 [.pointer (some ⟨f, 0, none⟩)] h K := by
  apply F125.spec
  unfold F125.w F125.J0
  simp only [add_mk, Nat.zero_add, Nat.add_zero]
  refine ldI_of (by rw [At.rd H]; rfl) (ldP_of (by rw [At.rd H]; rfl) ?_)
  simp only [ptrK_some, add_mk, Nat.zero_add]
  refine ldI_of (by rw [At.rd T]; rfl) ⟨by omega, stK_at H (by simp) rfl fun h1 A1 O1 _ => ?_⟩
  have e1 : (IntKind.wrap .i64 ((F.pos : Int) + 1)).tmod n = (((F.pos + 1) % n : Nat) : Int) := by
    rw [wrap_i64 (by omega) (by omega), Int.tmod_eq_emod_of_nonneg (by omega)]
    simp
  rw [e1] at A1
  refine ldI_of (by rw [A1.rd]; rfl) (stK_at A1 (by simp) rfl fun h2 A2 O2 _ => ?_)
  rw [wrap_i64 (by omega) (by omega)] at A2
  have A2 : FindIs h2 f t { F with pos := (F.pos + 1) % n, left := F.left - 1 } := by
    rw [show (F.left : Int) - 1 = ((F.left - 1 : Nat) : Int) by omega] at A2
    exact A2
  have O12 := O1.trans O2 (by simp)
  refine ldI_of (n := ((F.left - 1 : Nat) : Int)) (by rw [At.rd A2]; rfl) ?_
  by_cases h1 : F.left = 1
  · rw [show (((F.left - 1 : Nat) : Int) == 0) = true by simp [h1], bcase_true]
    refine ends_spec A2 fun h3 A3 O3 => ⟨rfl, hK h3 ?_ (O12.trans O3 (by simp))⟩
    rw [if_pos h1]
    simpa [h1] using A3
  · rw [show (((F.left - 1 : Nat) : Int) == 0) = false by simp; omega, bcase_false]
    refine hK h2 ?_ O12
    rw [if_neg h1]
    exact A2

theorem step_spec (T : TabIs h t m base n) (H : FindIs h f t F) (M : MemIs h m mc cs ops fails) (hn : 1 ≤ n) (hn2 : n < 1000000000) (hb : base < 1000000000) (hp : F.pos < n) (hl : F.done = false → 1 ≤ F.left) (hl2 : F.left < 1000000000)
    (hc : base + n ≤ cs.length) (d1 : f ≠ t) (d2 : f ≠ m) (d3 : f ≠ mc) (d4 : t ≠ m) (d5 : t ≠ mc)
    (hK : ∀ h' fails', FindIs h' f t (stepF base n cs F).1 → TabIs h' t m base n → MemIs h' m mc (stepF base n cs F).2 (if F.done then ops else up ops) fails' → Only [f, m, mc] h h' → K (.bool (stepF base n cs F).1.done) h') :
    CallsH Tryz.prog 90 [.pointer (some ⟨f, 0, none⟩)] h K := by
  apply F90.spec
  unfold F90.w F90.J0
  simp only [add_mk, Nat.zero_add]
  refine ldB_of (n := F.done) (by rw [At.rd H]; rfl) ?_
  have hend : ∀ h' fails', FindIs h' f t (stepF base n cs F).1 → TabIs h' t m base n → MemIs h' m mc (stepF base n cs F).2 (if F.done then ops else up ops) fails' → Only [f, m, mc] h h' → F90.wk3 ⟨f, 0, none⟩ h' K := by
    intro h' fails' a1 a2 a3 a4
    unfold F90.wk3 F90.Jk3
    simp only [add_mk, Nat.zero_add]
    exact ldB_of (by rw [At.rd a1]; rfl) (hK h' fails' a1 a2 a3 a4)
  cases hd : F.done with
  | true =>
    rw [Bool.not_true, bcase_false]
    have e : stepF base n cs F = (F, cs) := by unfold stepF; rw [if_pos hd]
    rw [e, hd] at hend
    exact hend h fails H T M (Only.refl _ _)
  | false =>
    rw [Bool.not_false, bcase_true]
    have hb2 : IntKind.wrap .i64 ((base : Int) + (F.pos : Int)) = ((base + F.pos : Nat) : Int) := by rw [wrap_i64 (by omega) (by omega)]; simp
    have hi : base + F.pos < cs.length := by omega
    have hg : cs.getD (((base + F.pos : Nat) : Int).toNat) 0 = cs.getD (base + F.pos) 0 := by rw [Int.toNat_natCast]
    rw [hd] at hend
    have hs : ∀ b ∈ [m, mc], b ∈ [f, m, mc] := by simp +contextual
    cases hcl : F.claims with
    | false =>
      refine ⟨_, by rw [At.rd H]; rfl, ?_⟩
      rw [hcl]
      refine dynK_go (by kernel_rfl) ?_
      refine F112.spec _ _ _ ?_
      unfold F112.w F112.J0
      simp only [add_mk, Nat.zero_add, Nat.add_zero]
      refine ldP_of (by rw [At.rd H]; rfl) ?_
      simp only [ptrK_some, add_mk, Nat.zero_add]
      refine ldP_of (by rw [At.rd T]; rfl) (ldP_of (by rw [At.rd H]; rfl) ?_)
      simp only [ptrK_some, add_mk, Nat.zero_add]
      refine ldI_of (by rw [At.rd T]; rfl) (ldI_of (by rw [At.rd H]; rfl) ?_)
      rw [hb2]
      refine load_in M (by omega) (by omega) fun h1 M1 O1 => ldI_of rfl ?_
      have H1 := H.only O1 (by simp [d2, d3])
      have T1 := T.only O1 (by simp [d4, d5])
      have Q1 := O1.mono (T := [f, m, mc]) fun b hb _ => hs b hb
      rw [hg]
      refine ldI_of (n := F.key) (by rw [At.rd H1]; rfl) ?_
      unfold stepF at hend
      rw [if_neg (by simp [hd]), if_neg (by simp [hcl])] at hend
      by_cases hk : cs.getD (base + F.pos) 0 = F.key
      · rw [if_pos hk] at hend
        rw [show (cs.getD (base + F.pos) 0 == F.key) = true by simpa using hk, bcase_true]
        refine ldI_of (by rw [At.rd H1]; rfl) (ends_spec H1 fun h2 H2 O2 => ⟨by trivial, by trivial, ?_⟩)
        exact hend h2 fails H2 (T1.only O2 (by simp [d1.symm])) (M1.only O2 (by simp [d2.symm]) (by simp [d3.symm])) (Q1.trans O2 (by simp))
      · rw [if_neg hk] at hend
        rw [show (cs.getD (base + F.pos) 0 == F.key) = false by simpa using hk, bcase_false]
        by_cases hz : cs.getD (base + F.pos) 0 = 0
        · rw [if_pos hz] at hend
          rw [show (cs.getD (base + F.pos) 0 == 0) = true by simpa using hz, bcase_true]
          refine stK_at H1 (by simp) rfl fun h2 A2 O2 _ => ⟨by trivial, ?_⟩
          exact hend h2 fails A2 (T1.only O2 (by simp [d1.symm])) (M1.only O2 (by simp [d2.symm]) (by simp [d3.symm])) (Q1.trans O2 (by simp))
        · rw [if_neg hz] at hend
          rw [show (cs.getD (base + F.pos) 0 == 0) = false by simpa using hz, bcase_false]
          refine goes_spec T1 H1 hn hn2 hp (hl hd) hl2 fun h2 H2 O2 => ⟨by trivial, by trivial, ?_⟩
          have T2 := T1.only O2 (by simp [d1.symm])
          have M2 := M1.only O2 (by simp [d2.symm]) (by simp [d3.symm])
          have Q2 := Q1.trans O2 (by simp)
          by_cases h1 : F.left = 1
          · rw [if_pos h1] at hend H2
            exact hend h2 fails H2 T2 M2 Q2
          · rw [if_neg h1] at hend H2
            exact hend h2 fails H2 T2 M2 Q2
    | true =>
      refine ⟨_, by rw [At.rd H]; rfl, ?_⟩
      rw [hcl]
      refine dynK_go (by kernel_rfl) ?_
      refine F124.spec _ _ _ ?_
      unfold F124.w F124.J0
      simp only [add_mk, Nat.zero_add, Nat.add_zero]
      refine stK_at H (by simp) rfl fun h1 A1 O1 _ => ?_
      have H1 : FindIs h1 f t { F with claims := false } := A1
      have T1 := T.only O1 (by simp [d1.symm])
      have M1 := M.only O1 (by simp [d2.symm]) (by simp [d3.symm])
      have Q1 := O1.mono (T := [f, m, mc]) fun b hb _ => (by simp at hb; simp [hb])
      refine ldP_of (by rw [At.rd H1]; rfl) ?_
      simp only [ptrK_some, add_mk, Nat.zero_add]
      refine ldP_of (by rw [At.rd T1]; rfl) (ldP_of (by rw [At.rd H1]; rfl) ?_)
      simp only [ptrK_some, add_mk, Nat.zero_add]
      refine ldI_of (by rw [At.rd T1]; rfl) (ldI_of (by rw [At.rd H1]; rfl) (ldI_of (n := F.key) (by rw [At.rd H1]; rfl) ?_))
      rw [hb2]
      unfold stepF at hend
      rw [if_neg (by simp [hd]), if_pos (by simp [hcl])] at hend
      refine cas_in M1 (by omega) (by omega) (fun e h2 M2 O2 => ?_) fun e h2 M2 O2 => ?_
      · rw [hg] at e
        rw [if_pos e] at hend
        rw [ldB_some, bcase_true]
        refine stK_at (H1.only O2 (by simp [d2, d3])) (by simp) rfl fun h3 A3 O3 _ => ?_
        have H3 : FindIs h3 f t { F with claims := false, made := true } := A3
        refine ldI_of (by rw [At.rd H3]; rfl) (ends_spec H3 fun h4 H4 O4 => ⟨by trivial, by trivial, ?_⟩)
        have O34 := O3.trans O4 (by simp)
        rw [Int.toNat_natCast] at M2
        exact hend h4 fails H4 ((T1.only O2 (by simp [d4, d5])).only O34 (by simp [d1.symm])) (M2.only O34 (by simp [d2.symm]) (by simp [d3.symm])) ((Q1.trans O2 fun b hb _ => hs b hb).trans O34 (by simp))
      · rw [hg] at e
        rw [if_neg e] at hend
        rw [ldB_some, bcase_false]
        exact ⟨by trivial, hend h2 (up fails) (H1.only O2 (by simp [d2, d3])) (T1.only O2 (by simp [d4, d5])) M2 (Q1.trans O2 fun b hb _ => hs b hb)⟩

/-- a finder as it begins -/
def newFi (key : Int) (n : Nat) : Fi := ⟨key, home key n, n, false, key == 0, -1, 61, false⟩
theorem find_spec {key : Int} (T : TabIs h t m base n) (hn : 1 ≤ n) (hn2 : n < 1000000000)
    (hK : ∀ f h', FindIs h' f t (newFi key n) → Only [] h h' → h.size ≤ f → K (.pointer (some ⟨f, 0, none⟩)) h') :
    CallsH Tryz.prog 89 [.pointer (some ⟨t, 0, none⟩), .int .u64 key] h K := by
  apply F89.spec
  unfold F89.w F89.J0
  simp only [add_mk, Nat.zero_add, Nat.add_zero]
  have hr : rd h ⟨t, 2, none⟩ = some (.int .i64 (n : Int)) := by rw [At.rd T]; rfl
  refine ldI_of hr (ldI_of hr (home_spec hn hn2 (ldI_of rfl ⟨trivial, trivial, trivial, trivial, trivial, ldI_of hr ⟨rfl, trivial, trivial, ?_⟩⟩)))
  refine newK_at fun h1 A1 O1 z1 => stK_at A1 (by simp) rfl fun h2 A2 O2 _ => ?_
  exact hK h.size h2 A2 (O1.trans O2 fun b hb hl => absurd (show b = h.size by simpa using hb) (by omega)) (Nat.le_refl _)
theorem made_spec (H : FindIs h f t F) (hK : K (.bool F.made) h) : CallsH Tryz.prog 92 [.pointer (some ⟨f, 0, none⟩)] h K := by
  apply F92.spec
  unfold F92.w F92.J0
  simp only [add_mk, Nat.zero_add]
  exact ldB_of (by rw [At.rd H]; rfl) hK
theorem slot_spec (H : FindIs h f t F) (hK : K (.tuple #[.int .i64 F.slot, .int .i64 F.e]) h) : CallsH Tryz.prog 91 [.pointer (some ⟨f, 0, none⟩)] h K := by
  apply F91.spec
  unfold F91.w F91.J0
  simp only [add_mk, Nat.zero_add]
  exact ldI_of (by rw [At.rd H]; rfl) (ldI_of (by rw [At.rd H]; rfl) hK)
theorem slots_spec (T : TabIs h t m base n) (hK : K (.int .i64 (n : Int)) h) : CallsH Tryz.prog 76 [.pointer (some ⟨t, 0, none⟩)] h K := by
  apply F76.spec
  unfold F76.w F76.J0
  simp only [add_mk, Nat.zero_add]
  exact ldI_of (by rw [At.rd T]; rfl) hK
theorem tabnew_spec {base n : Nat} (M : MemIs h m mc cs ops fails) (hn : 1 ≤ n) (hb : base + n ≤ cs.length) (hc : cs.length < 1000000000)
    (hK : ∀ t h', TabIs h' t m base n → Only [] h h' → h.size ≤ t → K (.tuple #[.pointer (some ⟨t, 0, none⟩), .int .i64 0]) h') :
    CallsH Tryz.prog 53 [.pointer (some ⟨m, 0, none⟩), .int .i64 (base : Int), .int .i64 (n : Int)] h K := by
  apply F53.spec
  unfold F53.w F53.J0
  rw [decide_eq_false (by omega), bcase_false, decide_eq_false (by omega), bcase_false]
  refine len_spec M (ldI_of rfl ?_)
  rw [decide_eq_false (by omega), bcase_false]
  refine len_spec M (ldI_of rfl ?_)
  rw [wrap_i64 (by omega) (by omega), decide_eq_false (by omega), bcase_false]
  exact newK_at fun h1 A1 O1 z1 => hK h.size h1 A1 O1 (Nat.le_refl _)
end
end Go.Proofs.YtnbnlhpleomaoaaGreat.Ev
/- THE TABLE, more: At, Len, Has, Clear. Conditions: the table stands. -/
namespace Go.Proofs.YtnbnlhpleomaoaaGreat.Ev
open Go
/-- a slot's cell -/
def cell (base : Nat) (cs : List Int) (i : Nat) : Int := cs.getD (base + i) 0
/-- how many slots have keys -/
def cnt (base : Nat) (cs : List Int) : Nat → Nat
  | 0 => 0
  | n + 1 => cnt base cs n + (if cell base cs n = 0 then 0 else 1)
section
variable {h : Heap} {t m mc base n : Nat} {cs : List Int} {ops fails : Int} {K : Value → Heap → Prop}
theorem at_spec (T : TabIs h t m base n) (M : MemIs h m mc cs ops fails) (hb : base < 1000000000) (hn : n < 1000000000) (hc : base + n ≤ cs.length) {i : Nat} (hi : i < n)
    (hK : ∀ h', MemIs h' m mc cs (up ops) fails → Only [m, mc] h h' → K (.int .u64 (cell base cs i)) h') :
    CallsH Tryz.prog 95 [.pointer (some ⟨t, 0, none⟩), .int .i64 (i : Int)] h K := by
  apply F95.spec
  unfold F95.w F95.J0
  simp only [add_mk, Nat.zero_add]
  rw [decide_eq_false (by omega), bcase_false]
  refine ldI_of (n := (n : Int)) (by rw [At.rd T]; rfl) ?_
  rw [decide_eq_false (by omega), bcase_false]
  refine ldP_of (by rw [At.rd T]; rfl) (ldI_of (by rw [At.rd T]; rfl) ?_)
  rw [show IntKind.wrap .i64 ((base : Int) + (i : Int)) = ((base + i : Nat) : Int) by rw [wrap_i64 (by omega) (by omega)]; simp]
  refine load_in M (by omega) (by omega) fun h1 M1 O1 => ldI_of rfl ?_
  rw [Int.toNat_natCast]
  exact hK h1 M1 O1
end
end Go.Proofs.YtnbnlhpleomaoaaGreat.Ev
/- THE TABLE's PLAIN LAW: what finders' steps keep, with no program in sight. Conditions: none. -/
namespace Go.Proofs.YtnbnlhpleomaoaaGreat.Ev
open Go
/-- the slots that a key is looked for in, one behind the other -/
def path (n : Nat) (key : Int) (d : Nat) : Nat := (home key n + d) % n
theorem path_lt {n : Nat} {key : Int} {d : Nat} (hn : 1 ≤ n) : path n key d < n := Nat.mod_lt _ (by omega)
theorem path_surj {n : Nat} {key : Int} {i : Nat} (hi : i < n) : ∃ d, d < n ∧ path n key d = i := by
  have hh := home_lt key (show 1 ≤ n by omega)
  by_cases h : home key n ≤ i
  · exact ⟨i - home key n, by omega, by unfold path; rw [show home key n + (i - home key n) = i by omega]; exact Nat.mod_eq_of_lt hi⟩
  · exact ⟨i + n - home key n, by omega, by
      unfold path
      rw [show home key n + (i + n - home key n) = i + n by omega, Nat.add_mod_right]
      exact Nat.mod_eq_of_lt hi⟩
theorem path_succ {n : Nat} {key : Int} {d : Nat} : path n key (d + 1) = (path n key d + 1) % n := by
  unfold path
  rw [← Nat.add_assoc, Nat.mod_add_mod]
def Seen (base n : Nat) (cs : List Int) (key : Int) (d : Nat) : Prop := ∀ j, j < d → cell base cs (path n key j) ≠ 0 ∧ cell base cs (path n key j) ≠ key
/-- each key lies where it is found first -/
def TInv (base n : Nat) (cs : List Int) : Prop :=
  ∀ i, i < n → cell base cs i ≠ 0 → ∃ d, d < n ∧ path n (cell base cs i) d = i ∧ Seen base n cs (cell base cs i) d
structure Fok (base n : Nat) (cs : List Int) (F : Fi) : Prop where
  pos : F.pos < n
  left : F.left ≤ n
  going : F.done = false → F.key ≠ 0 ∧ 1 ≤ F.left ∧ F.pos = path n F.key (n - F.left) ∧ Seen base n cs F.key (n - F.left) ∧ F.made = false ∧ F.slot = -1 ∧ F.e = 61
  ended : F.done = true → (F.key = 0 ∧ F.slot = -1 ∧ F.e = 61 ∧ F.made = false) ∨ (F.key ≠ 0 ∧ F.e = 0 ∧ ∃ i : Nat, i < n ∧ F.slot = i ∧ cell base cs i = F.key) ∨
    (F.key ≠ 0 ∧ F.e = 60 ∧ F.slot = -1 ∧ F.made = false ∧ ∀ i, i < n → cell base cs i ≠ 0 ∧ cell base cs i ≠ F.key)
/-- keys stay -/
def Grow (base n : Nat) (cs cs' : List Int) : Prop := cs'.length = cs.length ∧ (∀ i, i < n → cell base cs i ≠ 0 → cell base cs' i = cell base cs i) ∧ ∀ x, x < base ∨ base + n ≤ x → cs'.getD x 0 = cs.getD x 0
theorem Grow.refl (base n : Nat) (cs : List Int) : Grow base n cs cs := ⟨rfl, fun _ _ _ => rfl, fun _ _ => rfl⟩
theorem Grow.trans {base n : Nat} {a b c : List Int} (H : Grow base n a b) (G : Grow base n b c) : Grow base n a c :=
  ⟨G.1.trans H.1, fun i hi h => by rw [G.2.1 i hi (by rw [H.2.1 i hi h]; exact h), H.2.1 i hi h], fun x hx => (G.2.2 x hx).trans (H.2.2 x hx)⟩
theorem Seen.grow {base n : Nat} {cs cs' : List Int} {key : Int} {d : Nat} (hn : 1 ≤ n) (H : Seen base n cs key d) (G : Grow base n cs cs') : Seen base n cs' key d := by
  intro j hj
  obtain ⟨a, b⟩ := H j hj
  rw [G.2.1 _ (path_lt hn) a]
  exact ⟨a, b⟩
theorem Fok.grow {base n : Nat} {cs cs' : List Int} {F : Fi} (hn : 1 ≤ n) (H : Fok base n cs F) (G : Grow base n cs cs') : Fok base n cs' F := by
  refine ⟨H.pos, H.left, fun hd => ?_, fun hd => ?_⟩
  · obtain ⟨a, b, c, d, e⟩ := H.going hd
    exact ⟨a, b, c, d.grow hn G, e⟩
  · rcases H.ended hd with h | ⟨a, b, i, hi, c, d⟩ | ⟨a, b, c, d, e⟩
    · exact Or.inl h
    · exact Or.inr (Or.inl ⟨a, b, i, hi, c, by rw [G.2.1 i hi (by rw [d]; exact a), d]⟩)
    · refine Or.inr (Or.inr ⟨a, b, c, d, fun i hi => ?_⟩)
      rw [G.2.1 i hi (e i hi).1]
      exact e i hi
theorem newFi_ok {base n : Nat} {cs : List Int} {key : Int} (hn : 1 ≤ n) : Fok base n cs (newFi key n) := by
  refine ⟨home_lt key hn, Nat.le_refl _, fun hd => ?_, fun hd => ?_⟩
  · have hk : key ≠ 0 := by simpa [newFi] using hd
    refine ⟨hk, hn, ?_, ?_, rfl, rfl, rfl⟩
    · show home key n = path n key (n - n)
      unfold path
      rw [Nat.sub_self, Nat.add_zero, Nat.mod_eq_of_lt (home_lt key hn)]
    · intro j hj
      simp [newFi] at hj
  · have hk : key = 0 := by simpa [newFi] using hd
    exact Or.inl ⟨hk, rfl, rfl, rfl⟩

section
variable {base n : Nat} {cs : List Int} {F : Fi}
theorem cell_set {i j : Nat} {v : Int} (hi : base + i < cs.length) : cell base (cs.set (base + i) v) j = if j = i then v else cell base cs j := by
  unfold cell
  by_cases h : j = i
  · subst h
    simp [hi]
  · simp only [List.getD, List.getElem?_set, if_neg (by omega : ¬ base + i = base + j), if_neg h]
theorem TInv.absent (T : TInv base n cs) {key : Int} {d : Nat} (hd : d < n) (hk : key ≠ 0) (S : Seen base n cs key d) (hz : cell base cs (path n key d) = 0) : ∀ j, j < n → cell base cs j ≠ key := by
  intro j hj e
  obtain ⟨d', h1, h2, h3⟩ := T j hj (by rw [e]; exact hk)
  rw [e] at h2 h3
  by_cases c1 : d' < d
  · have := (S d' c1).2
    rw [h2] at this
    exact this e
  · by_cases c2 : d' = d
    · subst c2
      rw [h2, e] at hz
      exact hk hz
    · exact (h3 d (by omega)).1 hz
theorem grow_set {i : Nat} {v : Int} (hi : i < n) (hc : base + n ≤ cs.length) (hz : cell base cs i = 0) : Grow base n cs (cs.set (base + i) v) := by
  refine ⟨by simp, fun j hj hnz => ?_, fun x hx => ?_⟩
  · rw [cell_set (by omega), if_neg (fun e => hnz (by rw [e]; exact hz))]
  · simp only [List.getD, List.getElem?_set, if_neg (by omega : ¬ base + i = x)]
theorem TInv.set (hn : 1 ≤ n) (hc : base + n ≤ cs.length) (T : TInv base n cs) {key : Int} {d : Nat} (hd : d < n) (S : Seen base n cs key d) (hz : cell base cs (path n key d) = 0) :
    TInv base n (cs.set (base + path n key d) key) := by
  have hp : path n key d < n := path_lt hn
  have G := grow_set (v := key) hp hc hz
  intro i hi hnz
  rw [cell_set (by omega)] at hnz ⊢
  by_cases h : i = path n key d
  · rw [if_pos h]
    exact ⟨d, hd, h.symm, S.grow hn G⟩
  · rw [if_neg h] at hnz ⊢
    obtain ⟨d', h1, h2, h3⟩ := T i hi hnz
    exact ⟨d', h1, h2, h3.grow hn G⟩

/-- what a step keeps, and what it makes -/
theorem step_ok (hn : 1 ≤ n) (hc : base + n ≤ cs.length) (T : TInv base n cs) (H : Fok base n cs F) :
    TInv base n (stepF base n cs F).2 ∧ Fok base n (stepF base n cs F).2 (stepF base n cs F).1 ∧ Grow base n cs (stepF base n cs F).2 ∧ (stepF base n cs F).1.key = F.key ∧
    (((stepF base n cs F).1.made = F.made ∧ (stepF base n cs F).2 = cs) ∨
      (F.done = false ∧ F.made = false ∧ (stepF base n cs F).1.made = true ∧ (stepF base n cs F).1.done = true ∧ (stepF base n cs F).1.slot = F.pos ∧ (stepF base n cs F).1.e = 0 ∧ F.pos < n ∧ cell base cs F.pos = 0 ∧ F.key ≠ 0 ∧ (∀ j, j < n → cell base cs j ≠ F.key) ∧ (stepF base n cs F).2 = cs.set (base + F.pos) F.key)) := by
  unfold stepF
  by_cases hd : F.done = true
  · rw [if_pos hd]
    exact ⟨T, H, Grow.refl _ _ _, rfl, Or.inl ⟨rfl, rfl⟩⟩
  · rw [if_neg hd]
    have hd' : F.done = false := by simpa using hd
    obtain ⟨hk, hl, hp, S, hm, hs, he⟩ := H.going hd'
    have hdn : n - F.left < n := by omega
    by_cases hcl : F.claims = true
    · rw [if_pos hcl]
      by_cases hz : cs.getD (base + F.pos) 0 = 0
      · rw [if_pos hz]
        have hz' : cell base cs F.pos = 0 := hz
        have hz2 : cell base cs (path n F.key (n - F.left)) = 0 := by rw [← hp]; exact hz'
        refine ⟨?_, ⟨H.pos, H.left, fun h => by simp at h, fun _ => Or.inr (Or.inl ⟨hk, rfl, F.pos, H.pos, rfl, ?_⟩)⟩, grow_set H.pos hc hz', rfl,
          Or.inr ⟨hd', hm, rfl, rfl, rfl, rfl, H.pos, hz', hk, T.absent hdn hk S hz2, rfl⟩⟩
        · have := T.set hn hc hdn S hz2
          rw [← hp] at this
          exact this
        · rw [cell_set (by have := H.pos; omega), if_pos rfl]
      · rw [if_neg hz]
        exact ⟨T, ⟨H.pos, H.left, fun _ => ⟨hk, hl, hp, S, hm, hs, he⟩, fun h => absurd h hd⟩, Grow.refl _ _ _, rfl, Or.inl ⟨rfl, rfl⟩⟩
    · rw [if_neg hcl]
      by_cases hkey : cs.getD (base + F.pos) 0 = F.key
      · rw [if_pos hkey]
        exact ⟨T, ⟨H.pos, H.left, fun h => by simp at h, fun _ => Or.inr (Or.inl ⟨hk, rfl, F.pos, H.pos, rfl, hkey⟩)⟩, Grow.refl _ _ _, rfl, Or.inl ⟨rfl, rfl⟩⟩
      · rw [if_neg hkey]
        by_cases hz : cs.getD (base + F.pos) 0 = 0
        · rw [if_pos hz]
          exact ⟨T, ⟨H.pos, H.left, fun _ => ⟨hk, hl, hp, S, hm, hs, he⟩, fun h => absurd h hd⟩, Grow.refl _ _ _, rfl, Or.inl ⟨rfl, rfl⟩⟩
        · rw [if_neg hz]
          have S' : Seen base n cs F.key (n - F.left + 1) := by
            intro j hj
            by_cases h' : j < n - F.left
            · exact S j h'
            · obtain rfl : j = n - F.left := by omega
              rw [← hp]
              exact ⟨hz, hkey⟩
          have hp' : (F.pos + 1) % n < n := Nat.mod_lt _ (by omega)
          by_cases h1 : F.left = 1
          · rw [if_pos h1]
            refine ⟨T, ⟨hp', Nat.zero_le _, fun h => by simp at h, fun _ => Or.inr (Or.inr ⟨hk, rfl, rfl, hm, fun i hi => ?_⟩)⟩, Grow.refl _ _ _, rfl, Or.inl ⟨rfl, rfl⟩⟩
            obtain ⟨d, hd1, hd2⟩ := path_surj (key := F.key) hi
            rw [← hd2]
            exact S' d (by omega)
          · rw [if_neg h1]
            refine ⟨T, ⟨hp', by have := H.left; show F.left - 1 ≤ n; omega, fun _ => ⟨hk, by show 1 ≤ F.left - 1; omega, ?_, ?_, hm, hs, he⟩, fun h => absurd h hd⟩, Grow.refl _ _ _, rfl, Or.inl ⟨rfl, rfl⟩⟩
            · show (F.pos + 1) % n = path n F.key (n - (F.left - 1))
              have := H.left
              rw [show n - (F.left - 1) = (n - F.left) + 1 by omega, path_succ, ← hp]
            · show Seen base n cs F.key (n - (F.left - 1))
              have := H.left
              rw [show n - (F.left - 1) = (n - F.left) + 1 by omega]
              exact S'

/-- how many steps a finder may do yet -/
def pot (base : Nat) (cs : List Int) (F : Fi) : Nat :=
  if F.done then 0 else 3 * (F.left - 1) + (if F.claims then 2 else if cell base cs F.pos = 0 then 3 else 1)
theorem pot_of_done (h : F.done = true) : pot base cs F = 0 := by unfold pot; rw [if_pos h]
theorem pot_of_claims (h : F.done = false) (hc : F.claims = true) : pot base cs F = 3 * (F.left - 1) + 2 := by unfold pot; rw [if_neg (by simp [h]), if_pos hc]
theorem pot_of_zero (h : F.done = false) (hc : F.claims = false) (hz : cell base cs F.pos = 0) : pot base cs F = 3 * (F.left - 1) + 3 := by unfold pot; rw [if_neg (by simp [h]), if_neg (by simp [hc]), if_pos hz]
theorem pot_of_full (h : F.done = false) (hc : F.claims = false) (hz : cell base cs F.pos ≠ 0) : pot base cs F = 3 * (F.left - 1) + 1 := by unfold pot; rw [if_neg (by simp [h]), if_neg (by simp [hc]), if_neg hz]
theorem pot_le (h : F.done = false) (hc : F.claims = false) : pot base cs F ≤ 3 * (F.left - 1) + 3 ∧ 3 * (F.left - 1) + 1 ≤ pot base cs F := by
  by_cases hz : cell base cs F.pos = 0
  · rw [pot_of_zero h hc hz]; omega
  · rw [pot_of_full h hc hz]; omega
theorem pot_new {key : Int} (hn : 1 ≤ n) : pot base cs (newFi key n) ≤ 3 * n := by
  by_cases h : (newFi key n).done = true
  · rw [pot_of_done h]; omega
  · have := (pot_le (base := base) (cs := cs) (F := newFi key n) (by simpa using h) rfl).1
    have e : (newFi key n).left = n := rfl
    rw [e] at this
    omega
theorem pot_step (H : Fok base n cs F) (hd : F.done = false) : pot base (stepF base n cs F).2 (stepF base n cs F).1 < pot base cs F := by
  obtain ⟨hk, hl, hp, S, hm, hs, he⟩ := H.going hd
  by_cases hcl : F.claims = true
  · rw [pot_of_claims hd hcl]
    by_cases hz : cs.getD (base + F.pos) 0 = 0
    · rw [pot_of_done (by unfold stepF; rw [if_neg (by simp [hd]), if_pos hcl, if_pos hz])]
      omega
    · have e : stepF base n cs F = ({ F with claims := false }, cs) := by unfold stepF; rw [if_neg (by simp [hd]), if_pos hcl, if_neg hz]
      rw [e, pot_of_full (F := { F with claims := false }) hd rfl hz]
      show 3 * (F.left - 1) + 1 < _
      omega
  · have hcl' : F.claims = false := by simpa using hcl
    have hle := pot_le (base := base) (cs := cs) hd hcl'
    by_cases hkey : cs.getD (base + F.pos) 0 = F.key
    · rw [pot_of_done (by unfold stepF; rw [if_neg (by simp [hd]), if_neg hcl, if_pos hkey])]
      omega
    · by_cases hz : cs.getD (base + F.pos) 0 = 0
      · have e : stepF base n cs F = ({ F with claims := true }, cs) := by unfold stepF; rw [if_neg (by simp [hd]), if_neg hcl, if_neg hkey, if_pos hz]
        rw [e, pot_of_claims (F := { F with claims := true }) hd rfl, pot_of_zero hd hcl' hz]
        show 3 * (F.left - 1) + 2 < _
        omega
      · by_cases h1 : F.left = 1
        · rw [pot_of_done (by unfold stepF; rw [if_neg (by simp [hd]), if_neg hcl, if_neg hkey, if_neg hz, if_pos h1])]
          omega
        · have e : stepF base n cs F = ({ F with pos := (F.pos + 1) % n, left := F.left - 1 }, cs) := by unfold stepF; rw [if_neg (by simp [hd]), if_neg hcl, if_neg hkey, if_neg hz, if_neg h1]
          have h2 := (pot_le (base := base) (cs := cs) (F := { F with pos := (F.pos + 1) % n, left := F.left - 1 }) hd hcl').1
          rw [e]
          refine Nat.lt_of_le_of_lt h2 ?_
          show 3 * (F.left - 1 - 1) + 3 < _
          omega
theorem pot_done (H : pot base cs F = 0) : F.done = true := by
  unfold pot at H
  by_cases h : F.done = true
  · exact h
  · rw [if_neg h] at H
    split at H
    · omega
    · split at H <;> omega

/-- a finder that goes alone -/
def Run (base n : Nat) (cs0 cs : List Int) (F : Fi) : Prop :=
  Fok base n cs F ∧ TInv base n cs ∧ Grow base n cs0 cs ∧ ((F.made = false ∧ cs = cs0) ∨ (F.made = true ∧ F.done = true ∧ F.e = 0 ∧ F.key ≠ 0 ∧ ∃ i : Nat, i < n ∧ F.slot = i ∧ cell base cs0 i = 0 ∧ (∀ j, j < n → cell base cs0 j ≠ F.key) ∧ cs = cs0.set (base + i) F.key))
theorem Run.new {cs0 : List Int} {key : Int} (hn : 1 ≤ n) (T : TInv base n cs0) : Run base n cs0 cs0 (newFi key n) :=
  ⟨newFi_ok hn, T, Grow.refl _ _ _, Or.inl ⟨rfl, rfl⟩⟩
theorem Run.step {cs0 : List Int} (hn : 1 ≤ n) (hc : base + n ≤ cs.length) (R : Run base n cs0 cs F) : Run base n cs0 (stepF base n cs F).2 (stepF base n cs F).1 ∧ (stepF base n cs F).1.key = F.key := by
  obtain ⟨H, T, G, D⟩ := R
  obtain ⟨s1, s2, s3, s4, s5⟩ := step_ok hn hc T H
  refine ⟨⟨s2, s1, G.trans s3, ?_⟩, s4⟩
  rcases D with ⟨d1, d2⟩ | ⟨d1, d2, d3, d4, d5⟩
  · subst d2
    rcases s5 with ⟨e1, e2⟩ | ⟨e1, e2, e3, e4, e5, e6, e7, e8, e9, e10, e11⟩
    · exact Or.inl ⟨e1.trans d1, e2⟩
    · exact Or.inr ⟨e3, e4, e6, by rw [s4]; exact e9, F.pos, e7, e5, e8, by rw [s4]; exact e10, by rw [s4]; exact e11⟩
  · have e : stepF base n cs F = (F, cs) := by unfold stepF; rw [if_pos d2]
    rw [e]
    exact Or.inr ⟨d1, d2, d3, d4, d5⟩

theorem cnt_set {i : Nat} {v : Int} (hv : v ≠ 0) (hz : cell base cs i = 0) (hi : base + i < cs.length) : ∀ m, cnt base (cs.set (base + i) v) m = cnt base cs m + (if i < m then 1 else 0) := by
  intro m
  induction m with
  | zero => rfl
  | succ m ih =>
    unfold cnt
    rw [ih, cell_set hi]
    by_cases h : m = i
    · subst h
      simp [hv, hz]
    · rw [if_neg h]
      by_cases h' : i < m
      · rw [if_pos h', if_pos (by omega : i < m + 1)]
        omega
      · rw [if_neg h', if_neg (by omega : ¬ i < m + 1)]
        omega
theorem cnt_full : ∀ m, (∀ i, i < m → cell base cs i ≠ 0) → cnt base cs m = m := by
  intro m
  induction m with
  | zero => intro _; rfl
  | succ m ih =>
    intro h
    unfold cnt
    rw [ih fun i hi => h i (by omega), if_neg (h m (by omega))]
theorem cnt_zero : ∀ m, (∀ i, i < m → cell base cs i = 0) → cnt base cs m = 0 := by
  intro m
  induction m with
  | zero => intro _; rfl
  | succ m ih =>
    intro h
    unfold cnt
    rw [ih fun i hi => h i (by omega), if_pos (h m (by omega))]
theorem TInv.empty (h : ∀ i, i < n → cell base cs i = 0) : TInv base n cs := fun i hi hnz => absurd (h i hi) hnz
/-- a key has one place -/
theorem TInv.uniq (T : TInv base n cs) {i j : Nat} (hi : i < n) (hj : j < n) (hnz : cell base cs i ≠ 0) (e : cell base cs i = cell base cs j) : i = j := by
  obtain ⟨d, a1, a2, a3⟩ := T i hi hnz
  obtain ⟨d', b1, b2, b3⟩ := T j hj (by rw [← e]; exact hnz)
  rw [← e] at b2 b3
  by_cases c1 : d < d'
  · have := (b3 d c1).2
    rw [a2] at this
    exact absurd rfl this
  · by_cases c2 : d' < d
    · have := (a3 d' c2).2
      rw [b2] at this
      exact absurd e.symm this
    · obtain rfl : d = d' := by omega
      rw [← a2, ← b2]
end
end Go.Proofs.YtnbnlhpleomaoaaGreat.Ev
/- NODES (package nodes): the key of a node, and a finder driven to its end. Conditions: level below 256, handles below 2^28. -/
namespace Go.Proofs.YtnbnlhpleomaoaaGreat.Ev
open Go
def nkey (l a b : Nat) : Nat := l * 2 ^ 56 + (a * 2 ^ 28 + b)
theorem nkey_inj {l a b l' a' b' : Nat} (ha : a < 2 ^ 28) (hb : b < 2 ^ 28) (ha' : a' < 2 ^ 28) (hb' : b' < 2 ^ 28) (e : nkey l a b = nkey l' a' b') : l = l' ∧ a = a' ∧ b = b' := by
  unfold nkey at e
  omega
theorem ofInt32 {a : Nat} (ha : a < 2 ^ 32) : (BitVec.ofInt 32 (a : Int)).toNat = a := by
  rw [BitVec.toNat_ofInt]
  omega
theorem wrap32 {a : Nat} (ha : a < 2 ^ 32) : IntKind.wrap .u32 (a : Int) = a := by
  simp [IntKind.wrap, IntKind.bits, IntKind.signed]
  omega
theorem band32 {a b : Nat} (ha : a < 2 ^ 32) (hb : b < 2 ^ 32) : bitsI .and .u32 (a : Int) (b : Int) = ((a &&& b : Nat) : Int) := by
  unfold bitsI
  show IntKind.wrap .u32 ((BitVec.ofInt 32 (a : Int) &&& BitVec.ofInt 32 (b : Int)).toNat : Int) = _
  rw [BitVec.toNat_and, ofInt32 ha, ofInt32 hb]
  exact wrap32 (by have := @Nat.and_le_left a b; omega)
theorem low28 {a : Nat} (ha : a < 2 ^ 28) : bitsI .and .u32 (a : Int) 268435455 = (a : Int) := by
  rw [show (268435455 : Int) = ((2 ^ 28 - 1 : Nat) : Int) by rfl, band32 (by omega) (by decide), Nat.and_two_pow_sub_one_eq_mod, Nat.mod_eq_of_lt ha]
theorem key73 {h : Heap} {l a b : Nat} {K : Value → Heap → Prop} (hl : l < 256) (ha : a < 2 ^ 28) (hb : b < 2 ^ 28) (hK : K (.int .u64 ((nkey l a b : Nat) : Int)) h) :
    CallsH Tryz.prog 73 [.int .i64 (l : Int), .int .u32 (a : Int), .int .u32 (b : Int)] h K := by
  refine F73.spec _ _ _ h K ?_
  unfold F73.w F73.J0
  refine F93.spec _ _ _ h _ ?_
  unfold F93.w F93.J0
  have U : ∀ {x : Nat}, x < 2 ^ 64 → IntKind.wrap .u64 (x : Int) = (x : Int) := fun h => wrapU (by unfold U64; omega)
  have e1 : IntKind.wrap .u64 ((IntKind.wrap .u64 (IntKind.wrap .u8 (l : Int))) * 2 ^ (min (Int.toNat (56 : Int)) (IntKind.bits .u64))) = ((l <<< 56 : Nat) : Int) := by
    rw [show IntKind.wrap .u8 (l : Int) = (l : Int) from wrap8 hl, U (by omega), show min (Int.toNat (56 : Int)) (IntKind.bits .u64) = 56 by rfl, show (l : Int) * 2 ^ 56 = ((l * 2 ^ 56 : Nat) : Int) by omega, U (by omega), Nat.shiftLeft_eq]
  have e2 : IntKind.wrap .u64 ((IntKind.wrap .u64 (bitsI .and .u32 (a : Int) 268435455)) * 2 ^ (min (Int.toNat (28 : Int)) (IntKind.bits .u64))) = ((a <<< 28 : Nat) : Int) := by
    rw [low28 ha, U (by omega), show min (Int.toNat (28 : Int)) (IntKind.bits .u64) = 28 by rfl, show (a : Int) * 2 ^ 28 = ((a * 2 ^ 28 : Nat) : Int) by omega, U (by omega), Nat.shiftLeft_eq]
  refine ⟨by omega, by omega, ldI_of rfl ?_⟩
  rw [e1, e2, low28 hb, U (by omega)]
  have s1 : l <<< 56 < U64 := by rw [Nat.shiftLeft_eq]; unfold U64; omega
  have s2 : a <<< 28 < U64 := by rw [Nat.shiftLeft_eq]; unfold U64; omega
  have s3 : b < U64 := by unfold U64; omega
  rw [bor s1 s2, bor (or_lt s1 s2) s3, Nat.or_assoc, ← Nat.shiftLeft_add_eq_or_of_lt hb, ← Nat.shiftLeft_add_eq_or_of_lt (by rw [Nat.shiftLeft_eq]; omega), Nat.shiftLeft_eq, Nat.shiftLeft_eq]
  exact hK
end Go.Proofs.YtnbnlhpleomaoaaGreat.Ev
/- NODES (package nodes): a finder driven to its end lays a key that isn't there yet. Conditions: the table stands, one slot is free. -/
namespace Go.Proofs.YtnbnlhpleomaoaaGreat.Ev
open Go
set_option maxRecDepth 100000 in
theorem finds72 {h : Heap} {s t m mc T : Nat} {cs : List Int} {ops fails key : Int} {K : Value → Heap → Prop} (hp : rd h ⟨s, 4, none⟩ = some (.pointer (some ⟨t, 0, none⟩)))
    (Tb : TabIs h t m 0 T) (M : MemIs h m mc cs ops fails) (hn : 1 ≤ T) (hn2 : T < 1000000000) (hc : cs.length = T) (d4 : t ≠ m) (d5 : t ≠ mc) (bt : t < h.size) (bm : m < h.size) (bmc : mc < h.size)
    (I : TInv 0 T cs) (hk : key ≠ 0) (habs : ∀ j, j < T → cell 0 cs j ≠ key) {z : Nat} (hz : z < T) (hz0 : cell 0 cs z = 0)
    (hK : ∀ h' i ops' fails', i < T → cell 0 cs i = 0 → TabIs h' t m 0 T → MemIs h' m mc (cs.set i key) ops' fails' → TInv 0 T (cs.set i key) → Only [m, mc] h h' → K (.tuple #[.int .i64 (i : Int), .bool true]) h') :
    CallsH Tryz.prog 72 [.pointer (some ⟨s, 0, none⟩), .int .u64 key] h K := by
  refine F72.spec _ _ h K ?_
  unfold F72.w F72.J0
  simp only [add_mk, Nat.zero_add]
  refine ldP_of hp ?_
  refine find_spec Tb hn hn2 fun f h1 H1 O1 hf => ldP_of rfl ?_
  unfold F72.wk3 F72.Jk3
  have ht := Tb.only O1 (by simp)
  have hm := M.only O1 (by simp) (by simp)
  have fin : ∀ (F : Fi) (cs' : List Int) (h' : Heap) (ops' fails' : Int), F.done = true → Run 0 T cs cs' F → F.key = key → FindIs h' f t F → TabIs h' t m 0 T → MemIs h' m mc cs' ops' fails' → Only [m, mc] h h' →
      F72.wk4 (some ⟨f, 0, none⟩) h' K := by
    intro F cs' h' ops' fails' hd R ek H Tb M O
    unfold F72.wk4 F72.Jk4
    refine slot_spec H ⟨_, _, rfl, made_spec H (ldB_of rfl ?_)⟩
    obtain ⟨R1, R2, R3, R4⟩ := R
    have ze : cell 0 cs z = 0 := hz0
    rcases R4 with ⟨r1, r2⟩ | ⟨r1, r2, r3, r4, i, r5, r6, r7, r8, r9⟩
    · subst r2
      rcases R1.ended hd with ⟨e1, _⟩ | ⟨_, _, i, hi, _, e4⟩ | ⟨_, _, _, _, e5⟩
      · exact absurd (ek ▸ e1) hk
      · exact absurd (e4.trans ek) (habs i hi)
      · exact absurd ze (e5 z hz).1
    · rw [r6, r1]
      rw [Nat.zero_add, ek] at r9
      rw [r9] at M R2
      exact hK h' i _ _ r5 r7 Tb M R2 O
  have pass : ∀ (d : Nat) (F : Fi) (cs' : List Int) (h' : Heap) (ops' fails' : Int), Run 0 T cs cs' F → F.key = key → FindIs h' f t F → TabIs h' t m 0 T → MemIs h' m mc cs' ops' fails' → Only [m, mc] h h' →
      (F.done = false → ∀ h'' ops'' fails'', (stepF 0 T cs' F).1.done = false → Run 0 T cs (stepF 0 T cs' F).2 (stepF 0 T cs' F).1 → (stepF 0 T cs' F).1.key = key → FindIs h'' f t (stepF 0 T cs' F).1 → TabIs h'' t m 0 T → MemIs h'' m mc (stepF 0 T cs' F).2 ops'' fails'' → Only [m, mc] h h'' →
        F72.wL3 d (some ⟨f, 0, none⟩) (.func (.func 90) #[.pointer (some ⟨f, 0, none⟩)] #[]) h'' K) →
      F72.wL3 (d + 1) (some ⟨f, 0, none⟩) (.func (.func 90) #[.pointer (some ⟨f, 0, none⟩)] #[]) h' K := by
    intro d F cs' h' ops' fails' R ek H Tb M O nx
    have hl' : cs'.length = T := R.2.2.1.1.trans hc
    obtain ⟨R', ek'⟩ := R.step hn (by omega)
    unfold F72.wL3 F72.JL3
    refine dynK_go (by kernel_rfl) ?_
    refine step_spec Tb H M hn hn2 (by omega) R.1.pos (fun hd => (R.1.going hd).2.1) (by have := R.1.left; omega) (by omega) (by omega) (by omega) (by omega) d4 d5 fun h2 fails2 H2 T2 M2 O2 => ldB_of rfl ?_
    have O' : Only [m, mc] h h2 := O.trans O2 (by intro b hb hl; simp at hb ⊢; omega)
    refine bcase_of (fun hb => ?_) fun hb => ?_
    · have hb : (stepF 0 T cs' F).1.done = false := by simpa using hb
      refine nx ?_ h2 _ _ hb R' (ek'.trans ek) H2 T2 M2 O'
      cases hd : F.done with
      | false => rfl
      | true =>
        have e : stepF 0 T cs' F = (F, cs') := by unfold stepF; rw [if_pos hd]
        rw [e, hd] at hb
        exact absurd hb (by simp)
    · have hb : (stepF 0 T cs' F).1.done = true := by simpa using hb
      exact fin _ _ _ _ _ hb R' (ek'.trans ek) H2 T2 M2 O'
  have main : ∀ (d : Nat) (F : Fi) (cs' : List Int) (h' : Heap) (ops' fails' : Int), pot 0 cs' F ≤ d → Run 0 T cs cs' F → F.key = key → FindIs h' f t F → TabIs h' t m 0 T → MemIs h' m mc cs' ops' fails' → Only [m, mc] h h' →
      F72.wL3 (d + 1) (some ⟨f, 0, none⟩) (.func (.func 90) #[.pointer (some ⟨f, 0, none⟩)] #[]) h' K := by
    intro d
    induction d with
    | zero => 
      intro F cs' h' ops' fails' hd R ek H Tb M O
      refine pass 0 F cs' h' ops' fails' R ek H Tb M O fun hf => ?_
      rw [pot_done (base := 0) (cs := cs') (F := F) (by omega)] at hf
      exact absurd hf (by simp)
    | succ d ih =>
      intro F cs' h' ops' fails' hd R ek H Tb M O
      refine pass (d + 1) F cs' h' ops' fails' R ek H Tb M O fun hf h2 o2 f2 _ R' ek' H' T' M' O' => ?_
      exact ih _ _ _ _ _ (by have := pot_step (base := 0) (cs := cs') R.1 hf; omega) R' ek' H' T' M' O'
  exact ⟨_, main (3 * T) (newFi key T) cs h1 ops fails (pot_new hn) (Run.new hn I) rfl H1 ht hm (by have := (Only.refl [m, mc] h).trans O1 (by simp); exact this)⟩
end Go.Proofs.YtnbnlhpleomaoaaGreat.Ev
/- MAPS whose keys are whole numbers: what a look, a write, a deletion do. Conditions: the map stands (MapM, MapF). -/
namespace Go.Proofs.YtnbnlhpleomaoaaGreat.Ev
open Go
/-- block b is a map of these keys and values, in this order -/
def MapM (h : Heap) (b : Nat) (k : IntKind) (m : List (Int × Value)) : Prop :=
  ∃ es cl, mp h b = some (es, cl) ∧ es.toList.map (fun e => (e.key, e.val)) = m.map (fun p => (Value.int k p.1, p.2)) ∧ (m.map (·.1)).Nodup ∧ (es.toList.map (·.born)).Nodup ∧ ∀ e ∈ es.toList, e.born < cl
theorem MapM.lt {h : Heap} {b : Nat} {k : IntKind} {m : List (Int × Value)} (H : MapM h b k m) : b < h.size := by
  obtain ⟨es, cl, h1, -⟩ := H
  unfold mp at h1
  cases hh : h[b]? with
  | none => rw [hh] at h1; cases h1
  | some o => exact (Array.getElem?_eq_some_iff.1 hh).1
theorem MapM.only {S : List Nat} {h h' : Heap} {b : Nat} {k : IntKind} {m : List (Int × Value)} (H : MapM h b k m) (O : Only S h h') (hb : b ∉ S) : MapM h' b k m := by
  have hl := H.lt
  obtain ⟨es, cl, h1, h2⟩ := H
  refine ⟨es, cl, ?_, h2⟩
  unfold mp at h1 ⊢
  rw [O.same b hl hb]
  exact h1
theorem mp_obj {h : Heap} {b : Nat} {es : Array MapEntry} {cl : Nat} (h1 : mp h b = some (es, cl)) : h[b]? = some (.map es cl) := by
  unfold mp at h1
  cases hh : h[b]? with
  | none => rw [hh] at h1; cases h1
  | some o =>
    rw [hh] at h1
    cases o with
    | map a c => injection h1 with h1; injection h1 with e1 e2; subst e1; subst e2; rfl
    | _ => cases h1
theorem Only.map {h : Heap} {b : Nat} {es : Array MapEntry} {cl : Nat} (h1 : mp h b = some (es, cl)) (es' : Array MapEntry) (cl' : Nat) : Only [b] h (h.setIfInBounds b (.map es' cl')) := by
  have ho := mp_obj h1
  refine ⟨by simp, fun j hj hb => ?_, fun a => ?_⟩
  · rw [Array.getElem?_setIfInBounds, if_neg (fun e => hb (by simp [e]))]
  · unfold fz
    rw [Array.getElem?_setIfInBounds]
    by_cases e : b = a.block
    · subst e
      rw [if_pos rfl, if_pos (Array.getElem?_eq_some_iff.1 ho).1, ho]
    · rw [if_neg e]
theorem mp_set {h : Heap} {b : Nat} {es : Array MapEntry} {cl : Nat} (h1 : mp h b = some (es, cl)) (es' : Array MapEntry) (cl' : Nat) : mp (h.setIfInBounds b (.map es' cl')) b = some (es', cl') := by
  unfold mp
  rw [Array.getElem?_setIfInBounds, if_pos rfl, if_pos (Array.getElem?_eq_some_iff.1 (mp_obj h1)).1]
/-- which place a key has -/
theorem findNow_int {k : IntKind} {x : Int} : ∀ (es : List MapEntry) (m : List (Int × Value)) (i : Nat), es.map (fun e => (e.key, e.val)) = m.map (fun p => (Value.int k p.1, p.2)) →
    (Instr.findNow (.int k) (.int k x) es i = some none ∧ m.lookup x = none ∧ ∀ p ∈ m, p.1 ≠ x) ∨
    ∃ j v m1 m2, Instr.findNow (.int k) (.int k x) es i = some (some (i + j, v)) ∧ m = m1 ++ (x, v) :: m2 ∧ m1.length = j ∧ m.lookup x = some v ∧ (∀ p ∈ m1, p.1 ≠ x)
  | [], [], i, _ => Or.inl ⟨rfl, rfl, by simp⟩
  | [], _ :: _, _, h => by simp at h
  | _ :: _, [], _, h => by simp at h
  | e :: es, p :: m, i, h => by
    simp only [List.map_cons, List.cons.injEq, Prod.mk.injEq] at h
    obtain ⟨⟨h1, h2⟩, h3⟩ := h
    by_cases hx : x = p.1
    · subst hx
      refine Or.inr ⟨0, p.2, [], m, ?_, rfl, rfl, ?_, by simp⟩
      · simp [Instr.findNow, Instr.sameNow, h1, h2]
      · simp [List.lookup]
    · have hs : Instr.sameNow (.int k) (.int k x) e.key = some false := by simp [Instr.sameNow, h1, hx]
      rcases findNow_int es m (i + 1) h3 with ⟨a, b, c⟩ | ⟨j, v, m1, m2, a, b, c, d, f⟩
      · refine Or.inl ⟨?_, ?_, ?_⟩
        · simp only [Instr.findNow, hs]
          exact a
        · simp only [List.lookup, show (x == p.1) = false by simp [hx]]
          exact b
        · intro q hq
          rcases List.mem_cons.1 hq with rfl | hq
          · exact fun e => hx e.symm
          · exact c q hq
      · refine Or.inr ⟨j + 1, v, p :: m1, m2, ?_, by rw [b]; rfl, by simp [c], ?_, ?_⟩
        · simp only [Instr.findNow, hs]
          rw [a]
          congr 3
          omega
        · simp only [List.lookup, show (x == p.1) = false by simp [hx]]
          exact d
        · intro q hq
          rcases List.mem_cons.1 hq with rfl | hq
          · exact fun e => hx e.symm
          · exact f q hq
theorem look_map {h : Heap} {b : Nat} {k : IntKind} {m : List (Int × Value)} {x : Int} {K : Option (Nat × Value) → Prop} (H : MapM h b k m)
    (hN : m.lookup x = none → K none) (hS : ∀ i v, m.lookup x = some v → K (some (i, v))) : lookK h (some b) k k x K := by
  obtain ⟨es, cl, h1, h2, h3, -⟩ := H
  refine ⟨es, cl, h1, ?_⟩
  rcases findNow_int (x := x) es.toList m 0 h2 with ⟨a, c, -⟩ | ⟨j, v, m1, m2, a, c, d, e, -⟩
  · exact ⟨_, a, hN c⟩
  · exact ⟨_, a, hS _ v e⟩
/-- a key's value set -/
def mset (m : List (Int × Value)) (x : Int) (v : Value) : List (Int × Value) := if (m.lookup x).isSome then m.map (fun p => if p.1 = x then (x, v) else p) else m ++ [(x, v)]
def mdel (m : List (Int × Value)) (x : Int) : List (Int × Value) := m.filter fun p => p.1 ≠ x
theorem lookup_append {m m' : List (Int × Value)} {x : Int} : (m ++ m').lookup x = (m.lookup x).or (m'.lookup x) := by
  induction m with
  | nil => simp [List.lookup]
  | cons p m ih =>
    simp only [List.cons_append, List.lookup]
    cases x == p.1 <;> simp [ih]
theorem mset_keys {m : List (Int × Value)} {x : Int} {v : Value} : (mset m x v).map (·.1) = if (m.lookup x).isSome then m.map (·.1) else m.map (·.1) ++ [x] := by
  unfold mset
  split
  · rw [List.map_map]
    apply List.map_congr_left
    intro p _
    simp only [Function.comp]
    split
    · next e => exact e.symm
    · rfl
  · simp
theorem lookup_none {m : List (Int × Value)} {x : Int} : m.lookup x = none ↔ x ∉ m.map (·.1) := by
  induction m with
  | nil => simp [List.lookup]
  | cons p m ih =>
    simp only [List.lookup, List.map_cons, List.mem_cons, not_or]
    by_cases h : x = p.1
    · subst h; simp
    · simp only [show (x == p.1) = false by simp [h]]
      rw [ih]
      exact ⟨fun a => ⟨h, a⟩, fun a => a.2⟩
theorem lookup_mset {m : List (Int × Value)} {x y : Int} {v : Value} : (mset m x v).lookup y = if y = x then some v else m.lookup y := by
  unfold mset
  split
  · next hs =>
    induction m with
    | nil => simp [List.lookup] at hs
    | cons p m ih =>
      simp only [List.map_cons, List.lookup]
      by_cases hp : p.1 = x
      · rw [if_pos hp]
        by_cases hy : y = x
        · subst hy
          simp
        · rw [if_neg hy]
          have e1 : (y == x) = false := by simp [hy]
          have e2 : (y == p.1) = false := by simp [hp, hy]
          simp only [e1, e2]
          clear ih hs
          induction m with
          | nil => rfl
          | cons r m ih2 =>
            simp only [List.map_cons, List.lookup]
            by_cases hr : r.1 = x
            · rw [if_pos hr]
              have e3 : (y == r.1) = false := by simp [hr, hy]
              simp only [e1, e3]
              exact ih2
            · rw [if_neg hr]
              cases y == r.1
              · exact ih2
              · rfl
      · rw [if_neg hp]
        have hs' : (m.lookup x).isSome := by
          simp only [List.lookup, show (x == p.1) = false by simp [Ne.symm hp]] at hs
          exact hs
        by_cases hy : y = p.1
        · subst hy
          simp [hp]
        · have e1 : (y == p.1) = false := by simp [hy]
          simp only [e1]
          exact ih hs'
  · next hs =>
    have hn : m.lookup x = none := by
      cases hh : m.lookup x with
      | none => rfl
      | some v => rw [hh] at hs; exact absurd rfl hs
    rw [lookup_append]
    by_cases hy : y = x
    · subst hy
      rw [hn, if_pos rfl]
      simp [List.lookup]
    · rw [if_neg hy]
      simp [List.lookup, show (y == x) = false by simp [hy]]
theorem mid_map {m1 m2 : List (Int × Value)} {x : Int} {v v' : Value} (h1 : ∀ p ∈ m1, p.1 ≠ x) (h2 : ∀ p ∈ m2, p.1 ≠ x) : (m1 ++ (x, v) :: m2).map (fun p => if p.1 = x then (x, v') else p) = m1 ++ (x, v') :: m2 := by
  have e : ∀ l : List (Int × Value), (∀ p ∈ l, p.1 ≠ x) → l.map (fun p => if p.1 = x then (x, v') else p) = l := by
    intro l hl
    conv => rhs; rw [← List.map_id l]
    apply List.map_congr_left
    intro p hp
    rw [if_neg (hl p hp)]
    rfl
  rw [List.map_append, List.map_cons, if_pos rfl, e m1 h1, e m2 h2]
theorem nodup_mid {m1 m2 : List (Int × Value)} {x : Int} {v : Value} (h : ((m1 ++ (x, v) :: m2).map (·.1)).Nodup) : (∀ p ∈ m1, p.1 ≠ x) ∧ ∀ p ∈ m2, p.1 ≠ x := by
  rw [List.map_append, List.map_cons] at h
  obtain ⟨h1, h2, h3⟩ := List.nodup_append.1 h
  refine ⟨fun p hp e => h3 p.1 (List.mem_map.2 ⟨p, hp, rfl⟩) x (by simp) e, fun p hp e => ?_⟩
  exact (List.nodup_cons.1 h2).1 (List.mem_map.2 ⟨p, hp, e⟩)
theorem map_found {h : Heap} {b : Nat} {k : IntKind} {m : List (Int × Value)} {x : Int} (H : MapM h b k m) :
    ∃ es cl, mp h b = some (es, cl) ∧ ((Instr.findNow (.int k) (.int k x) es.toList 0 = some none ∧ m.lookup x = none ∧ MapM (h.setIfInBounds b (.map es cl)) b k (mdel m x) ∧
        (∀ v, MapM (h.setIfInBounds b (.map (es.push { key := .int k x, val := v, born := cl }) (cl + 1))) b k (mset m x v))) ∨
      ∃ j v, Instr.findNow (.int k) (.int k x) es.toList 0 = some (some (j, v)) ∧ m.lookup x = some v ∧ Instr.sameBits 10000 (((es[j]?).map (·.key)).getD (.int k x)) (.int k x) = true ∧
        MapM (h.setIfInBounds b (.map (es.eraseIdxIfInBounds j) cl)) b k (mdel m x) ∧ (∃ e, es[j]? = some e ∧ e.key = .int k x ∧ e.val = v ∧ ∀ i e', es[i]? = some e' → e'.key = .int k x → i = j) ∧
        ∀ (g : MapEntry → MapEntry) v', (∀ e, es[j]? = some e → (g e).key = .int k x ∧ (g e).val = v' ∧ (g e).born = e.born) → MapM (h.setIfInBounds b (.map (es.modify j g) cl)) b k (mset m x v')) := by
  obtain ⟨es, cl, h1, h2, h3, h4, h5⟩ := H
  refine ⟨es, cl, h1, ?_⟩
  rcases findNow_int (x := x) es.toList m 0 h2 with ⟨a, c, c'⟩ | ⟨j, v, m1, m2, a, c, d, e, e'⟩
  · refine Or.inl ⟨a, c, ⟨es, cl, mp_set h1 _ _, ?_, ?_, h4, h5⟩, fun v => ⟨_, _, mp_set h1 _ _, ?_, ?_, ?_, ?_⟩⟩
    · rw [show mdel m x = m from List.filter_eq_self.2 fun p hp => by simp [c' p hp]]
      exact h2
    · rw [show mdel m x = m from List.filter_eq_self.2 fun p hp => by simp [c' p hp]]
      exact h3
    · unfold mset
      rw [if_neg (by simp [c])]
      simp [h2]
    · rw [mset_keys, if_neg (by simp [c])]
      refine List.nodup_append.2 ⟨h3, by simp, fun y hy z hz => ?_⟩
      simp at hz
      subst hz
      intro e
      subst e
      exact lookup_none.1 c hy
    · simp only [Array.toList_push, List.map_append]
      refine List.nodup_append.2 ⟨h4, by simp, fun y hy z hz => ?_⟩
      simp at hz
      subst hz
      obtain ⟨e0, he0, rfl⟩ := List.mem_map.1 hy
      have := h5 e0 he0
      omega
    · intro e0 he0
      simp only [Array.toList_push, List.mem_append, List.mem_singleton] at he0
      rcases he0 with he0 | rfl
      · have := h5 e0 he0
        omega
      · exact Nat.lt_succ_self _
  · subst c
    obtain ⟨n1, n2⟩ := nodup_mid h3
    rw [Nat.zero_add] at a
    have hjl : j < es.size := by
      have := congrArg List.length h2
      simp at this
      omega
    have hget : es.toList.map (fun e => (e.key, e.val)) = m1.map (fun p => (Value.int k p.1, p.2)) ++ (Value.int k x, v) :: m2.map (fun p => (Value.int k p.1, p.2)) := by
      rw [h2]
      simp
    have hj5 : (es.toList.map (fun e => (e.key, e.val)))[j]? = some (Value.int k x, v) := by
      rw [hget, List.getElem?_append_right (by simp [d])]
      simp [d]
    obtain ⟨e0, he0, hk0, hv0⟩ : ∃ e0, es[j]? = some e0 ∧ e0.key = .int k x ∧ e0.val = v := by
      rw [List.getElem?_map] at hj5
      cases hh : es[j]? with
      | none => simp [hh] at hj5
      | some e0 =>
        simp [hh] at hj5
        exact ⟨e0, rfl, hj5.1, hj5.2⟩
    have huniq : ∀ i e', es[i]? = some e' → e'.key = .int k x → i = j := by
      intro i e' hi hk
      have h6 := congrArg (fun l => l[i]?) hget
      simp only [List.getElem?_map] at h6
      rw [show es.toList[i]? = some e' by rw [← hi]; simp] at h6
      by_cases hlt : i < j
      · rw [List.getElem?_append_left (by simp; omega), List.getElem?_map] at h6
        cases hm : m1[i]? with
        | none => simp [hm] at h6
        | some p =>
          simp [hm, hk] at h6
          exact absurd h6.1.symm (n1 p (List.mem_of_getElem? hm))
      · by_cases hgt : j < i
        · rw [List.getElem?_append_right (by simp; omega)] at h6
          obtain ⟨r, hr⟩ : ∃ r, i = j + 1 + r := ⟨i - j - 1, by omega⟩
          subst hr
          simp only [List.length_map, d] at h6
          rw [show j + 1 + r - j = r + 1 by omega, List.getElem?_cons_succ, List.getElem?_map] at h6
          cases hm : m2[r]? with
          | none => simp [hm] at h6
          | some p =>
            simp [hm, hk] at h6
            exact absurd h6.1.symm (n2 p (List.mem_of_getElem? hm))
        · omega
    refine Or.inr ⟨j, v, a, e, ?_, ⟨_, _, mp_set h1 _ _, ?_, ?_, ?_, ?_⟩, ⟨e0, he0, hk0, hv0, huniq⟩, fun g v' hg => ⟨_, _, mp_set h1 _ _, ?_, ?_, ?_, ?_⟩⟩
    · rw [he0]
      simp [Instr.sameBits, hk0]
    · have hd : mdel (m1 ++ (x, v) :: m2) x = m1 ++ m2 := by
        unfold mdel
        rw [List.filter_append, List.filter_cons_of_neg (by simp), List.filter_eq_self.2 (fun p hp => by simp [n1 p hp]), List.filter_eq_self.2 (fun p hp => by simp [n2 p hp])]
      rw [hd]
      simp only [Array.eraseIdxIfInBounds, hjl, dif_pos, Array.toList_eraseIdx]
      rw [List.eraseIdx_eq_take_drop_succ, List.map_append, List.map_take, List.map_drop, hget]
      have l1 : (m1.map (fun p => (Value.int k p.1, p.2))).length = j := by simp [d]
      rw [← l1, List.take_left, List.drop_append, List.drop_eq_nil_of_le (by omega)]
      simp
    · have := h3.sublist (l₁ := (mdel (m1 ++ (x, v) :: m2) x).map (·.1)) (List.Sublist.map _ List.filter_sublist)
      exact this
    · simp only [Array.eraseIdxIfInBounds, hjl, dif_pos, Array.toList_eraseIdx]
      exact h4.sublist (List.Sublist.map _ (List.eraseIdx_sublist _ _))
    · simp only [Array.eraseIdxIfInBounds, hjl, dif_pos, Array.toList_eraseIdx]
      exact fun e1 he1 => h5 e1 ((List.eraseIdx_sublist _ _).subset he1)
    · unfold mset
      rw [if_pos (by simp [e]), mid_map n1 n2]
      rw [Array.toList_modify]
      apply List.ext_getElem?
      intro i
      rw [List.getElem?_map, List.getElem?_modify]
      have h6 := congrArg (fun l => l[i]?) hget
      simp only [List.getElem?_map] at h6
      by_cases hi : j = i
      · subst hi
        simp only [if_true]
        rw [show es.toList[j]? = some e0 by rw [← he0]; simp]
        obtain ⟨g1, g2, -⟩ := hg e0 he0
        rw [List.map_append, List.map_cons, List.getElem?_append_right (by simp [d])]
        simp [d, g1, g2]
      · simp only [hi, if_false]
        rw [List.map_append, List.map_cons]
        rw [show ((fun a : MapEntry => a) <$> es.toList[i]?) = es.toList[i]? by cases es.toList[i]? <;> rfl]
        rw [h6]
        by_cases hlt : i < j
        · rw [List.getElem?_append_left (by simp; omega), List.getElem?_append_left (by simp; omega)]
        · rw [List.getElem?_append_right (by simp; omega), List.getElem?_append_right (by simp; omega)]
          obtain ⟨r, hr⟩ : ∃ r, i = j + 1 + r := ⟨i - j - 1, by omega⟩
          subst hr
          simp only [List.length_map, d]
          rw [show j + 1 + r - j = r + 1 by omega]
          rfl
    · rw [mset_keys, if_pos (by simp [e])]
      exact h3
    · rw [show (es.modify j g).toList.map (·.born) = es.toList.map (·.born) from ?_]
      · exact h4
      · rw [Array.toList_modify]
        apply List.ext_getElem?
        intro i
        rw [List.getElem?_map, List.getElem?_modify, List.getElem?_map]
        by_cases hi : j = i
        · subst hi
          rw [show es.toList[j]? = some e0 by rw [← he0]; simp]
          simp [(hg e0 he0).2.2]
        · simp only [hi, if_false]
          cases es.toList[i]? <;> rfl
    · intro e1 he1
      rw [Array.toList_modify] at he1
      obtain ⟨i, hi⟩ := List.mem_iff_getElem?.1 he1
      rw [List.getElem?_modify] at hi
      by_cases hij : j = i
      · subst hij
        rw [show es.toList[j]? = some e0 by rw [← he0]; simp] at hi
        simp at hi
        subst hi
        rw [(hg e0 he0).2.2]
        exact h5 e0 (List.mem_of_getElem? (i := j) (by rw [← he0]; simp))
      · simp only [hij, if_false] at hi
        have : es.toList[i]? = some e1 := by
          cases hh : es.toList[i]? with
          | none => rw [hh] at hi; cases hi
          | some e2 => rw [hh] at hi; exact hi
        exact h5 e1 (List.mem_of_getElem? this)

theorem upd_map {h : Heap} {b : Nat} {k : IntKind} {m : List (Int × Value)} {x : Int} {v : Value} {K : Heap → Prop} (H : MapM h b k m) (hK : ∀ h', MapM h' b k (mset m x v) → Only [b] h h' → h'.size = h.size → K h') : updK h (some b) k k x v K := by
  obtain ⟨es, cl, h1, h2⟩ := map_found (x := x) H
  refine ⟨es, cl, h1, ?_⟩
  rcases h2 with ⟨a, c, d, e⟩ | ⟨j, v0, a, c, d, e, f, g⟩
  · exact ⟨_, a, hK _ (e v) (Only.map h1 _ _) (by simp)⟩
  · exact ⟨_, a, d, hK _ (g _ v fun e _ => ⟨rfl, rfl, rfl⟩) (Only.map h1 _ _) (by simp)⟩
theorem MapM.empty {h : Heap} {b : Nat} {k : IntKind} (h1 : mp h b = some (#[], 0)) : MapM h b k [] := ⟨#[], 0, h1, rfl, by simp, by simp, by simp⟩
end Go.Proofs.YtnbnlhpleomaoaaGreat.Ev
/- NODES (package nodes): a table that holds the keys of nodes, and a node laid into it. Conditions: the table stands, the key isn't there, one slot is free. -/
namespace Go.Proofs.YtnbnlhpleomaoaaGreat.Ev
open Go
abbrev Nd := Nat × Nat × Nat
def kf (x : Nd) : Nat := nkey x.1 x.2.1 x.2.2
def NdOk (x : Nd) : Prop := x.1 < 256 ∧ x.2.1 < 2 ^ 28 ∧ x.2.2 < 2 ^ 28 ∧ x.2.1 ≠ x.2.2
theorem kf_ne {x : Nd} (h : NdOk x) : kf x ≠ 0 := by
  obtain ⟨a, b, c, d⟩ := h
  unfold kf nkey
  omega
theorem kf_inj {x y : Nd} (h : NdOk x) (g : NdOk y) (e : kf x = kf y) : x = y := by
  obtain ⟨a, b, c⟩ := x
  obtain ⟨a', b', c'⟩ := y
  obtain ⟨e1, e2, e3⟩ := nkey_inj h.2.1 h.2.2.1 g.2.1 g.2.2.1 e
  dsimp only at e1 e2 e3
  rw [e1, e2, e3]
/-- the node at an index -/
def nd (N : List (Option Nd)) (i : Nat) : Option Nd := (N[i]?).join
def cntN (N : List (Option Nd)) : Nat := N.countP (·.isSome)
theorem nd_some {N : List (Option Nd)} {i : Nat} {x : Nd} : nd N i = some x ↔ N[i]? = some (some x) := by
  unfold nd
  cases h : N[i]? with
  | none => simp
  | some o => simp
theorem nd_lt {N : List (Option Nd)} {i : Nat} {x : Nd} (h : nd N i = some x) : i < N.length := (List.getElem?_eq_some_iff.1 (nd_some.1 h)).1
theorem nd_out {N : List (Option Nd)} {i : Nat} (h : N.length ≤ i) : nd N i = none := by
  unfold nd
  rw [List.getElem?_eq_none h]
  rfl
theorem nd_app {N : List (Option Nd)} {o : Option Nd} (k : Nat) : nd (N ++ [o]) k = if k = N.length then o else nd N k := by
  unfold nd
  by_cases h : k < N.length
  · rw [List.getElem?_append_left h, if_neg (by omega)]
  · by_cases e : k = N.length
    · subst e
      rw [if_pos rfl]
      simp
    · rw [if_neg e, List.getElem?_eq_none (by simp; omega), List.getElem?_eq_none (by omega)]
theorem nd_set {N : List (Option Nd)} {i : Nat} {o : Option Nd} (hi : i < N.length) (k : Nat) : nd (N.set i o) k = if k = i then o else nd N k := by
  unfold nd
  rw [List.getElem?_set]
  by_cases e : i = k
  · subst e
    rw [if_pos rfl, if_pos hi, if_pos rfl]
    rfl
  · rw [if_neg e, if_neg (Ne.symm e)]
theorem cnt_app (N : List (Option Nd)) (o : Option Nd) : cntN (N ++ [o]) = cntN N + if o.isSome then 1 else 0 := by
  unfold cntN
  rw [List.countP_append, List.countP_singleton]
theorem cntN_le : ∀ N : List (Option Nd), cntN N ≤ N.length := fun N => List.countP_le_length
theorem cntN_set {x : Nd} : ∀ {N : List (Option Nd)} {i : Nat}, N[i]? = some none → cntN (N.set i (some x)) = cntN N + 1
  | [], i, h => by simp at h
  | o :: N, 0, h => by
    simp at h
    subst h
    simp [cntN]
  | o :: N, i + 1, h => by
    have := cntN_set (x := x) (N := N) (i := i) (by simpa using h)
    unfold cntN at this ⊢
    rw [List.set_cons_succ, List.countP_cons, List.countP_cons, this]
    omega
/-- the keys of nodes, and their handles by slots -/
structure Laid (T : Nat) (cs : List Int) (mm : List (Int × Value)) (N : List (Option Nd)) : Prop where
  len : cs.length = T
  inv : TInv 0 T cs
  cells : ∀ j, j < T → cell 0 cs j = 0 ∨ ∃ i x, nd N i = some x ∧ cell 0 cs j = (kf x : Int) ∧ mm.lookup (j : Int) = some (.int .u32 ((i + 2 : Nat) : Int))
  all : ∀ i x, nd N i = some x → ∃ j, j < T ∧ cell 0 cs j = (kf x : Int)
  cnt : cnt 0 cs T = cntN N
  ok : ∀ i x, nd N i = some x → NdOk x
theorem Laid.congr {T : Nat} {cs : List Int} {mm : List (Int × Value)} {N N' : List (Option Nd)} (L : Laid T cs mm N) (h : ∀ k, nd N' k = nd N k) (hc : cntN N' = cntN N) : Laid T cs mm N' :=
  ⟨L.len, L.inv, fun j hj => by
    rcases L.cells j hj with e | ⟨i, x, e1, e2⟩
    · exact .inl e
    · exact .inr ⟨i, x, by rw [h]; exact e1, e2⟩, fun i x e => L.all i x (by rw [← h]; exact e), by rw [hc]; exact L.cnt, fun i x e => L.ok i x (by rw [← h]; exact e)⟩
theorem free_slot {cs : List Int} : ∀ T, cnt 0 cs T < T → ∃ z, z < T ∧ cell 0 cs z = 0 := fun T h => by
  by_cases e : ∃ z, z < T ∧ cell 0 cs z = 0
  · exact e
  · have := cnt_full T fun i hi hz => e ⟨i, hi, hz⟩
    omega
/-- no node has this key -/
def NoKey (N : List (Option Nd)) (k : Nat) : Prop := ∀ i x, nd N i = some x → kf x ≠ k
theorem Laid.absent {T : Nat} {cs : List Int} {mm : List (Int × Value)} {N : List (Option Nd)} (L : Laid T cs mm N) {k : Nat} (hk : k ≠ 0) (hn : NoKey N k) : ∀ j, j < T → cell 0 cs j ≠ (k : Int) := fun j hj e => by
  rcases L.cells j hj with h | ⟨i, x, h1, h2, _⟩
  · omega
  · exact hn i x h1 (by omega)
set_option maxRecDepth 100000 in
theorem Laid.put {T : Nat} {cs : List Int} {mm : List (Int × Value)} {N N' : List (Option Nd)} {q : Nat} (L : Laid T cs mm N) {x : Nd} (hx : NdOk x) {i : Nat} (hi : i < T) (hz : cell 0 cs i = 0) (I : TInv 0 T (cs.set i (kf x)))
    (hq : nd N q = none) (hN : ∀ k, nd N' k = if k = q then some x else nd N k) (hc : cntN N' = cntN N + 1) :
    Laid T (cs.set i (kf x)) (mset mm (i : Int) (.int .u32 ((q + 2 : Nat) : Int))) N' := by
  have hi' : 0 + i < cs.length := by have := L.len; omega
  have cell' : ∀ j, cell 0 (cs.set i (kf x : Int)) j = if j = i then (kf x : Int) else cell 0 cs j := fun j => by
    have := cell_set (base := 0) (cs := cs) (i := i) (j := j) (v := (kf x : Int)) hi'
    rw [Nat.zero_add] at this
    exact this
  have kx := kf_ne hx
  refine ⟨by rw [List.length_set]; exact L.len, I, fun j hj => ?_, fun k y hy => ?_, ?_, fun k y hy => ?_⟩
  · rw [cell' j, lookup_mset]
    by_cases e : j = i
    · subst e
      rw [if_pos rfl, if_pos rfl]
      exact .inr ⟨q, x, by rw [hN, if_pos rfl], rfl, rfl⟩
    · rw [if_neg e, if_neg (by omega)]
      rcases L.cells j hj with h | ⟨k, y, h1, h2, h3⟩
      · exact .inl h
      · refine .inr ⟨k, y, ?_, h2, h3⟩
        rw [hN, if_neg]
        · exact h1
        · intro e2
          subst e2
          rw [hq] at h1
          cases h1
  · rw [hN] at hy
    split at hy
    · injection hy with hy
      subst hy
      exact ⟨i, hi, by rw [cell' i, if_pos rfl]⟩
    · obtain ⟨j, h1, h2⟩ := L.all k y hy
      refine ⟨j, h1, ?_⟩
      rw [cell' j, if_neg ?_]
      · exact h2
      · intro e
        subst e
        rw [hz] at h2
        have := kf_ne (L.ok k y hy)
        omega
  · have := cnt_set (base := 0) (cs := cs) (i := i) (v := (kf x : Int)) (by omega) hz hi' T
    rw [Nat.zero_add, if_pos hi] at this
    rw [this, L.cnt, hc]
  · rw [hN] at hy
    split at hy
    · injection hy with hy
      subst hy
      exact hx
    · exact L.ok k y hy
set_option maxRecDepth 100000 in
theorem lays54 {h : Heap} {s t m mc sb T q : Nat} {S : List Value} {cs : List Int} {ops fails : Int} {mm : List (Int × Value)} {N N' : List (Option Nd)} {x : Nd} {K : Value → Heap → Prop} (A : At h s S)
    (hp4 : S[4]? = some (.pointer (some ⟨t, 0, none⟩))) (hp5 : S[5]? = some (.map (some sb))) (ds : s ∉ [m, mc, sb])
    (Tb : TabIs h t m 0 T) (M : MemIs h m mc cs ops fails) (Mp : MapM h sb .i64 mm) (hn2 : T < 1000000000) (d4 : t ∉ [m, mc, sb]) (d7 : m ≠ sb) (d8 : mc ≠ sb) (bt : t < h.size) (bm : m < h.size) (bmc : mc < h.size)
    (L : Laid T cs mm N) (hx : NdOk x) (hnew : NoKey N (kf x)) (hroom : cntN N < T) (hq : nd N q = none) (hN : ∀ k, nd N' k = if k = q then some x else nd N k) (hc : cntN N' = cntN N + 1)
    (hK : ∀ h' cs' mm' ops' fails', At h' s S → TabIs h' t m 0 T → MemIs h' m mc cs' ops' fails' → MapM h' sb .i64 mm' → Laid T cs' mm' N' → Only [m, mc, sb] h h' → K (.tuple #[]) h') :
    CallsH Tryz.prog 54 [.pointer (some ⟨s, 0, none⟩), .int .u32 ((q + 2 : Nat) : Int), .agg #[.bool true, .int .i64 (x.1 : Int), .int .u32 (x.2.1 : Int), .int .u32 (x.2.2 : Int)]] h K := by
  simp only [List.mem_cons, List.not_mem_nil, or_false, not_or] at d4 ds
  refine F54.spec _ _ _ _ _ _ h K ?_
  unfold F54.w F54.J0
  simp only [add_mk, Nat.zero_add]
  refine newK_at fun h1 A1 O1 z1 => ?_
  refine ldI_of (by rw [At.rd A1]; rfl) (ldI_of (by rw [At.rd A1]; rfl) (ldI_of (by rw [At.rd A1]; rfl) ?_))
  refine key73 hx.1 hx.2.1 hx.2.2.1 (ldI_of rfl ?_)
  obtain ⟨z, hz, hz0⟩ := free_slot (cs := cs) T (by rw [L.cnt]; exact hroom)
  have As := A.only O1 (by simp)
  refine finds72 (t := t) (by rw [At.rd As]; exact hp4) (Tb.only O1 (by simp)) (M.only O1 (by simp) (by simp)) (by omega) hn2 L.len d4.1 d4.2.1 (by omega) (by omega) (by omega) L.inv (by have := kf_ne hx; unfold kf at this; omega)
    (L.absent (kf_ne hx) hnew) hz hz0 fun h2 i o2 f2 hi hi0 T2 M2 I2 O2 => ⟨_, _, rfl, ?_⟩
  have As2 := As.only O2 (by simp; omega)
  refine ⟨_, (by rw [At.rd As2]; exact hp5), ?_⟩
  refine upd_map ((Mp.only O1 (by simp)).only O2 (by simp; omega)) fun h3 M3 O3 z3 => ?_
  refine hK h3 _ _ _ _ (As2.only O3 (by simp; omega)) (T2.only O3 (by simp; omega)) (M2.only O3 (by simp; omega) (by simp; omega)) M3 (L.put hx hi hi0 I2 hq hN hc) ?_
  exact (((Only.refl [m, mc, sb] h).trans O1 (by simp)).trans O2 (by intro b hb _; simp at hb ⊢; omega)).trans O3 (by intro b hb _; simp at hb ⊢; omega)
end Go.Proofs.YtnbnlhpleomaoaaGreat.Ev
/- PRINTED BY PROGRAM: what each of these functions does, computed over heaps by the evaluator, and that its calls do so. Conditions: none. -/
namespace Go.Proofs.YtnbnlhpleomaoaaGreat.Ev
open Go
-- spinney/cache.New
namespace F30
def T : Hint := ⟨[], []⟩
noncomputable def body : Code := (Tryz.f30.body).getD .skip
def J0 (x0 : Addr) (x1 x2 : Int) (h : Heap) (K : KK) : Prop :=
  bcase (decide (x1 < (0 : Int))) (K (.tuple #[(.pointer none), (.int .i64 (61 : Int))]) h) (bcase (decide (x2 < (1 : Int))) (K (.tuple #[(.pointer none), (.int .i64 (61 : Int))]) h) (bcase (decide (x2 > (1024 : Int))) (K (.tuple #[(.pointer none), (.int .i64 (61 : Int))]) h) (CallsH Tryz.prog 52 [(.pointer (some x0))] h (fun v1 h2 => ldI .i64 (some v1) (fun n3 => bcase (decide (x1 > n3)) (K (.tuple #[(.pointer none), (.int .i64 (61 : Int))]) h2) (CallsH Tryz.prog 32 [(.int .i64 x2)] h2 (fun v4 h5 => ldI .i64 (some v4) (fun n6 => CallsH Tryz.prog 52 [(.pointer (some x0))] h5 (fun v7 h8 => ldI .i64 (some v7) (fun n9 => bcase (decide (n6 > (IntKind.wrap .i64 (n9 - x1)))) (K (.tuple #[(.pointer none), (.int .i64 (61 : Int))]) h8) (newK h8 (.cells #[(.pointer (some x0)), (.int .i64 x1), (.int .i64 x2)] 114) (fun b10 h11 => K (.tuple #[(.pointer (some (Addr.mk b10 0 none))), (.int .i64 (0 : Int))]) h11))))))))))))
theorem E0 (S : Stop) (x0 : Addr) (x1 x2 : Int) (h : Heap) (K : KK) : (E Tryz.prog X T S body (fin Tryz.prog Tryz.f30.results.toList K) (args0 0 [(.pointer (some x0)), (.int .i64 x1), (.int .i64 x2)]) h) = J0 x0 x1 x2 h K := by kernel_rfl
def w (x0 : Addr) (x1 x2 : Int) (h : Heap) (K : KK) : Prop :=
  J0 x0 x1 x2 h K
theorem e0 (K : KK) (x0 : Addr) (x1 x2 : Int) (h : Heap) : (E Tryz.prog X T S0 body (fin Tryz.prog Tryz.f30.results.toList K) (args0 0 [(.pointer (some x0)), (.int .i64 x1), (.int .i64 x2)]) h) = w x0 x1 x2 h K := (E0 S0 x0 x1 x2 h K).trans (rfl)
theorem hb : Tryz.f30.body = some body := by kernel_rfl
theorem ok : okCode T Tryz.f30.ntmps body = true := by kernel_rfl
theorem spec (x0 : Addr) (x1 : Int) (x2 : Int) (h : Heap) (K : KK) (H : w x0 x1 x2 h K) : CallsH Tryz.prog 30 [(.pointer (some x0)), (.int .i64 x1), (.int .i64 x2)] h K :=
  calls_of_E (T := T) Xok mix Tryz.func30 hb ok rfl (by rw [e0]; exact H)
end F30
-- (*spinney/cache.Cache).Get
namespace F106
def T : Hint := ⟨[], [(1, [[(0, []), (1, []), (2, []), (3, []), (4, []), (5, []), (7, []), (6, [0, 1, 2, 3, 7]), (8, []), (9, []), (10, [])]])]⟩
noncomputable def body : Code := (Tryz.f106.body).getD .skip
def J0 (x0 : Addr) (x1 : Int) (h : Heap) (K : KK) : Prop :=
  ldP (rd h (Addr.add x0 0)) (fun p1 => CallsH Tryz.prog 120 [(.pointer (some x0)), (.int .u64 x1)] h (fun v2 h3 => ldI .i64 (some v2) (fun n4 => ((.pointer (some x0)) = ((.pointer (some x0)) : Value) ∧ ((.pointer (some x0)) = ((.pointer (some x0)) : Value) ∧ ((.pointer (some (Addr.add x0 0))) = ((.pointer (some (Addr.add x0 0))) : Value) ∧ ldP (rd h3 (Addr.add x0 0)) (fun p5 => ((.pointer p5) = ((.pointer p1) : Value) ∧ ((.int .u64 x1) = ((.int .u64 x1) : Value) ∧ newK h3 (.cells #[(.pointer p1), (.int .i64 n4), (.int .u64 x1), (.int .u64 (0 : Int)), (.int .u64 (0 : Int)), .nilFunc, (.bool false), (.bool false), (.int .u64 (0 : Int))] 193) (fun b6 h7 => stK h7 (Addr.add (Addr.add (Addr.mk b6 0 none) 5) 0) (.func (.func 121) #[(.pointer (some (Addr.mk b6 0 none)))] #[]) (fun h8 => K (.pointer (some (Addr.mk b6 0 none))) h8)))))))))))
theorem E0 (S : Stop) (x0 : Addr) (x1 : Int) (h : Heap) (K : KK) : (E Tryz.prog X T S body (fin Tryz.prog Tryz.f106.results.toList K) (args0 0 [(.pointer (some x0)), (.int .u64 x1)]) h) = J0 x0 x1 h K := by kernel_rfl
def w (x0 : Addr) (x1 : Int) (h : Heap) (K : KK) : Prop :=
  J0 x0 x1 h K
theorem e0 (K : KK) (x0 : Addr) (x1 : Int) (h : Heap) : (E Tryz.prog X T S0 body (fin Tryz.prog Tryz.f106.results.toList K) (args0 0 [(.pointer (some x0)), (.int .u64 x1)]) h) = w x0 x1 h K := (E0 S0 x0 x1 h K).trans (rfl)
theorem hb : Tryz.f106.body = some body := by kernel_rfl
theorem ok : okCode T Tryz.f106.ntmps body = true := by kernel_rfl
theorem spec (x0 : Addr) (x1 : Int) (h : Heap) (K : KK) (H : w x0 x1 h K) : CallsH Tryz.prog 106 [(.pointer (some x0)), (.int .u64 x1)] h K :=
  calls_of_E (T := T) Xok mix Tryz.func106 hb ok rfl (by rw [e0]; exact H)
end F106
-- (*spinney/cache.Cache).Put
namespace F111
def T : Hint := ⟨[], [(1, [[(0, []), (1, []), (2, []), (3, []), (4, []), (5, []), (7, []), (8, []), (6, [0, 1, 2, 3, 7, 8]), (9, []), (10, []), (11, [])]])]⟩
noncomputable def body : Code := (Tryz.f111.body).getD .skip
def J0 (x0 : Addr) (x1 x2 : Int) (h : Heap) (K : KK) : Prop :=
  ldP (rd h (Addr.add x0 0)) (fun p1 => CallsH Tryz.prog 120 [(.pointer (some x0)), (.int .u64 x1)] h (fun v2 h3 => ldI .i64 (some v2) (fun n4 => ((.pointer (some x0)) = ((.pointer (some x0)) : Value) ∧ ((.pointer (some x0)) = ((.pointer (some x0)) : Value) ∧ ((.pointer (some (Addr.add x0 0))) = ((.pointer (some (Addr.add x0 0))) : Value) ∧ ldP (rd h3 (Addr.add x0 0)) (fun p5 => ((.pointer p5) = ((.pointer p1) : Value) ∧ ((.int .u64 x1) = ((.int .u64 x1) : Value) ∧ ((.int .u64 x2) = ((.int .u64 x2) : Value) ∧ newK h3 (.cells #[(.pointer p1), (.int .i64 n4), (.int .u64 x1), (.int .u64 x2), (.int .u64 (0 : Int)), .nilFunc, (.bool false), (.bool false), (.int .u64 (0 : Int))] 193) (fun b6 h7 => stK h7 (Addr.add (Addr.add (Addr.mk b6 0 none) 5) 0) (.func (.func 122) #[(.pointer (some (Addr.mk b6 0 none)))] #[]) (fun h8 => K (.pointer (some (Addr.mk b6 0 none))) h8))))))))))))
theorem E0 (S : Stop) (x0 : Addr) (x1 x2 : Int) (h : Heap) (K : KK) : (E Tryz.prog X T S body (fin Tryz.prog Tryz.f111.results.toList K) (args0 0 [(.pointer (some x0)), (.int .u64 x1), (.int .u64 x2)]) h) = J0 x0 x1 x2 h K := by kernel_rfl
def w (x0 : Addr) (x1 x2 : Int) (h : Heap) (K : KK) : Prop :=
  J0 x0 x1 x2 h K
theorem e0 (K : KK) (x0 : Addr) (x1 x2 : Int) (h : Heap) : (E Tryz.prog X T S0 body (fin Tryz.prog Tryz.f111.results.toList K) (args0 0 [(.pointer (some x0)), (.int .u64 x1), (.int .u64 x2)]) h) = w x0 x1 x2 h K := (E0 S0 x0 x1 x2 h K).trans (rfl)
theorem hb : Tryz.f111.body = some body := by kernel_rfl
theorem ok : okCode T Tryz.f111.ntmps body = true := by kernel_rfl
theorem spec (x0 : Addr) (x1 : Int) (x2 : Int) (h : Heap) (K : KK) (H : w x0 x1 x2 h K) : CallsH Tryz.prog 111 [(.pointer (some x0)), (.int .u64 x1), (.int .u64 x2)] h K :=
  calls_of_E (T := T) Xok mix Tryz.func111 hb ok rfl (by rw [e0]; exact H)
end F111
-- (*spinney/cache.Act).Step
namespace F108
def T : Hint := ⟨[(3, [0])], []⟩
noncomputable def body : Code := (Tryz.f108.body).getD .skip
noncomputable def en (S : Stop) (p : List Nat) (κ : XK) : Fr → Heap → Prop := E Tryz.prog X T S (sub body p) κ
def fn (K : KK) : XK := fin Tryz.prog Tryz.f108.results.toList K
def f3 (x0 : Addr) : Fr := [(0, (.pointer (some x0)))]
def J0 (k3 : Addr → Heap → Prop) (x0 : Addr) (h : Heap) (_K : KK) : Prop :=
  ldB (rd h (Addr.add x0 6)) (fun b1 => bcase (!b1) (ldV (rd h (Addr.add x0 5)) (fun v2 => dynK Tryz.prog X v2 [] h (fun v3 h4 => (v3 = (.tuple #[]) ∧ k3 x0 h4)))) (k3 x0 h))
theorem E0 (S : Stop) (x0 : Addr) (h : Heap) (K : KK) : (E Tryz.prog X T S body (fin Tryz.prog Tryz.f108.results.toList K) (args0 0 [(.pointer (some x0))]) h) = J0 (fun x0 h => S (en S [1, 1] (fn K)) (f3 x0) h) x0 h K := by kernel_rfl
def Jk3 (x0 : Addr) (h : Heap) (K : KK) : Prop :=
  ldB (rd h (Addr.add x0 6)) (fun b1 => K (.bool b1) h)
theorem Ek3 (S : Stop) (x0 : Addr) (h : Heap) (K : KK) : (en S [1, 1] (fn K) (f3 x0) h) = Jk3 x0 h K := by kernel_rfl
def wk3 (x0 : Addr) (h : Heap) (K : KK) : Prop :=
  Jk3 x0 h K
theorem ek3 (K : KK) (x0 : Addr) (h : Heap) : (en S0 [1, 1] (fn K) (f3 x0) h) = wk3 x0 h K := (Ek3 S0 x0 h K).trans (rfl)
def w (x0 : Addr) (h : Heap) (K : KK) : Prop :=
  J0 (fun x0 h => wk3 x0 h K) x0 h K
theorem e0 (K : KK) (x0 : Addr) (h : Heap) : (E Tryz.prog X T S0 body (fin Tryz.prog Tryz.f108.results.toList K) (args0 0 [(.pointer (some x0))]) h) = w x0 h K := (E0 S0 x0 h K).trans (cg1 (fun q0 => J0 q0 x0 h K) (by funext x0 h; exact ek3 K x0 h))
theorem hb : Tryz.f108.body = some body := by kernel_rfl
theorem ok : okCode T Tryz.f108.ntmps body = true := by kernel_rfl
theorem spec (x0 : Addr) (h : Heap) (K : KK) (H : w x0 h K) : CallsH Tryz.prog 108 [(.pointer (some x0))] h K :=
  calls_of_E (T := T) Xok mix Tryz.func108 hb ok rfl (by rw [e0]; exact H)
end F108
-- (*spinney/cache.Act).Got
namespace F109
def T : Hint := ⟨[], []⟩
noncomputable def body : Code := (Tryz.f109.body).getD .skip
def J0 (x0 : Addr) (h : Heap) (K : KK) : Prop :=
  ldB (rd h (Addr.add x0 6)) (fun b1 => bcase (!b1) (K (.tuple #[(.int .u64 (0 : Int)), (.bool false)]) h) (ldB (rd h (Addr.add x0 7)) (fun b2 => bcase (!b2) (K (.tuple #[(.int .u64 (0 : Int)), (.bool false)]) h) (ldI .u64 (rd h (Addr.add x0 8)) (fun n3 => K (.tuple #[(.int .u64 n3), (.bool true)]) h)))))
theorem E0 (S : Stop) (x0 : Addr) (h : Heap) (K : KK) : (E Tryz.prog X T S body (fin Tryz.prog Tryz.f109.results.toList K) (args0 0 [(.pointer (some x0))]) h) = J0 x0 h K := by kernel_rfl
def w (x0 : Addr) (h : Heap) (K : KK) : Prop :=
  J0 x0 h K
theorem e0 (K : KK) (x0 : Addr) (h : Heap) : (E Tryz.prog X T S0 body (fin Tryz.prog Tryz.f109.results.toList K) (args0 0 [(.pointer (some x0))]) h) = w x0 h K := (E0 S0 x0 h K).trans (rfl)
theorem hb : Tryz.f109.body = some body := by kernel_rfl
theorem ok : okCode T Tryz.f109.ntmps body = true := by kernel_rfl
theorem spec (x0 : Addr) (h : Heap) (K : KK) (H : w x0 h K) : CallsH Tryz.prog 109 [(.pointer (some x0))] h K :=
  calls_of_E (T := T) Xok mix Tryz.func109 hb ok rfl (by rw [e0]; exact H)
end F109
-- (*spinney/cache.Cache).line
namespace F120
def T : Hint := ⟨[], [(1, [[(0, []), (1, []), (2, []), (3, []), (4, []), (5, []), (6, []), (7, []), (8, []), (9, [0, 1, 2, 3]), (10, []), (11, []), (12, [])]])]⟩
noncomputable def body : Code := (Tryz.f120.body).getD .skip
def J0 (x0 : Addr) (x1 : Int) (h : Heap) (K : KK) : Prop :=
  ldI .i64 (rd h (Addr.add x0 1)) (fun n1 => ldI .i64 (rd h (Addr.add x0 2)) (fun n2 => CallsH Tryz.prog 94 [(.int .u64 x1), (.int .i64 n2)] h (fun v3 h4 => ldI .i64 (some v3) (fun n5 => ((.pointer (some x0)) = ((.pointer (some x0)) : Value) ∧ ((.pointer (some x0)) = ((.pointer (some x0)) : Value) ∧ ((.pointer (some (Addr.add x0 1))) = ((.pointer (some (Addr.add x0 1))) : Value) ∧ ldI .i64 (rd h4 (Addr.add x0 1)) (fun n6 => ((.int .i64 n6) = ((.int .i64 n1) : Value) ∧ K (.int .i64 (IntKind.wrap .i64 (n1 + (IntKind.wrap .i64 ((3 : Int) * n5))))) h4)))))))))
theorem E0 (S : Stop) (x0 : Addr) (x1 : Int) (h : Heap) (K : KK) : (E Tryz.prog X T S body (fin Tryz.prog Tryz.f120.results.toList K) (args0 0 [(.pointer (some x0)), (.int .u64 x1)]) h) = J0 x0 x1 h K := by kernel_rfl
def w (x0 : Addr) (x1 : Int) (h : Heap) (K : KK) : Prop :=
  J0 x0 x1 h K
theorem e0 (K : KK) (x0 : Addr) (x1 : Int) (h : Heap) : (E Tryz.prog X T S0 body (fin Tryz.prog Tryz.f120.results.toList K) (args0 0 [(.pointer (some x0)), (.int .u64 x1)]) h) = w x0 x1 h K := (E0 S0 x0 x1 h K).trans (rfl)
theorem hb : Tryz.f120.body = some body := by kernel_rfl
theorem ok : okCode T Tryz.f120.ntmps body = true := by kernel_rfl
theorem spec (x0 : Addr) (x1 : Int) (h : Heap) (K : KK) (H : w x0 x1 h K) : CallsH Tryz.prog 120 [(.pointer (some x0)), (.int .u64 x1)] h K :=
  calls_of_E (T := T) Xok mix Tryz.func120 hb ok rfl (by rw [e0]; exact H)
end F120
-- (*spinney/cache.Act).looks
namespace F121
def T : Hint := ⟨[], [(0, [[(0, []), (1, []), (2, []), (3, []), (4, []), (5, []), (6, []), (7, []), (8, []), (9, [0]), (10, []), (11, []), (12, [])]])]⟩
noncomputable def body : Code := (Tryz.f121.body).getD .skip
def J0 (x0 : Addr) (h : Heap) (K : KK) : Prop :=
  ldP (rd h (Addr.add x0 0)) (fun p1 => ldI .i64 (rd h (Addr.add x0 1)) (fun n2 => CallsH Tryz.prog 114 [(.pointer p1), (.int .i64 n2)] h (fun v3 h4 => ldI .u64 (some v3) (fun n5 => ((.pointer (some x0)) = ((.pointer (some x0)) : Value) ∧ stK h4 (Addr.add (Addr.add x0 4) 0) (.int .u64 n5) (fun h6 => stK h6 (Addr.add (Addr.add x0 5) 0) (.func (.func 129) #[(.pointer (some x0))] #[]) (fun h7 => ldI .u64 (rd h7 (Addr.add x0 4)) (fun n8 => stK h7 (Addr.add (Addr.add x0 6) 0) (.bool ((bitsI .and .u64 n8 (3 : Int)) != (2 : Int))) (fun h9 => K (.tuple #[]) h9)))))))))
theorem E0 (S : Stop) (x0 : Addr) (h : Heap) (K : KK) : (E Tryz.prog X T S body (fin Tryz.prog Tryz.f121.results.toList K) (args0 0 [(.pointer (some x0))]) h) = J0 x0 h K := by kernel_rfl
def w (x0 : Addr) (h : Heap) (K : KK) : Prop :=
  J0 x0 h K
theorem e0 (K : KK) (x0 : Addr) (h : Heap) : (E Tryz.prog X T S0 body (fin Tryz.prog Tryz.f121.results.toList K) (args0 0 [(.pointer (some x0))]) h) = w x0 h K := (E0 S0 x0 h K).trans (rfl)
theorem hb : Tryz.f121.body = some body := by kernel_rfl
theorem ok : okCode T Tryz.f121.ntmps body = true := by kernel_rfl
theorem spec (x0 : Addr) (h : Heap) (K : KK) (H : w x0 h K) : CallsH Tryz.prog 121 [(.pointer (some x0))] h K :=
  calls_of_E (T := T) Xok mix Tryz.func121 hb ok rfl (by rw [e0]; exact H)
end F121
-- (*spinney/cache.Act).opens
namespace F122
def T : Hint := ⟨[], [(0, [[(0, []), (1, []), (2, []), (3, []), (4, []), (5, []), (6, []), (7, []), (8, []), (9, [0]), (10, []), (11, []), (12, [])]])]⟩
noncomputable def body : Code := (Tryz.f122.body).getD .skip
def J0 (x0 : Addr) (h : Heap) (K : KK) : Prop :=
  ldP (rd h (Addr.add x0 0)) (fun p1 => ldI .i64 (rd h (Addr.add x0 1)) (fun n2 => CallsH Tryz.prog 114 [(.pointer p1), (.int .i64 n2)] h (fun v3 h4 => ldI .u64 (some v3) (fun n5 => ((.pointer (some x0)) = ((.pointer (some x0)) : Value) ∧ stK h4 (Addr.add (Addr.add x0 4) 0) (.int .u64 n5) (fun h6 => stK h6 (Addr.add (Addr.add x0 5) 0) (.func (.func 130) #[(.pointer (some x0))] #[]) (fun h7 => ldI .u64 (rd h7 (Addr.add x0 4)) (fun n8 => stK h7 (Addr.add (Addr.add x0 6) 0) (.bool ((bitsI .and .u64 n8 (1 : Int)) != (0 : Int))) (fun h9 => K (.tuple #[]) h9)))))))))
theorem E0 (S : Stop) (x0 : Addr) (h : Heap) (K : KK) : (E Tryz.prog X T S body (fin Tryz.prog Tryz.f122.results.toList K) (args0 0 [(.pointer (some x0))]) h) = J0 x0 h K := by kernel_rfl
def w (x0 : Addr) (h : Heap) (K : KK) : Prop :=
  J0 x0 h K
theorem e0 (K : KK) (x0 : Addr) (h : Heap) : (E Tryz.prog X T S0 body (fin Tryz.prog Tryz.f122.results.toList K) (args0 0 [(.pointer (some x0))]) h) = w x0 h K := (E0 S0 x0 h K).trans (rfl)
theorem hb : Tryz.f122.body = some body := by kernel_rfl
theorem ok : okCode T Tryz.f122.ntmps body = true := by kernel_rfl
theorem spec (x0 : Addr) (h : Heap) (K : KK) (H : w x0 h K) : CallsH Tryz.prog 122 [(.pointer (some x0))] h K :=
  calls_of_E (T := T) Xok mix Tryz.func122 hb ok rfl (by rw [e0]; exact H)
end F122
-- (*spinney/cache.Act).compares
namespace F129
def T : Hint := ⟨[], [(0, [[(0, []), (1, []), (2, []), (3, []), (4, []), (5, []), (6, []), (7, []), (8, []), (9, []), (11, []), (12, []), (13, []), (14, []), (10, [0, 11, 12, 13, 14]), (15, []), (16, []), (17, []), (18, [])]])]⟩
noncomputable def body : Code := (Tryz.f129.body).getD .skip
def J0 (x0 : Addr) (h : Heap) (K : KK) : Prop :=
  ldP (rd h (Addr.add x0 0)) (fun p1 => ldI .i64 (rd h (Addr.add x0 1)) (fun n2 => ldI .u64 (rd h (Addr.add x0 2)) (fun n3 => CallsH Tryz.prog 114 [(.pointer p1), (.int .i64 (IntKind.wrap .i64 (n2 + (1 : Int))))] h (fun v4 h5 => ldI .u64 (some v4) (fun n6 => ((.pointer (some x0)) = ((.pointer (some x0)) : Value) ∧ ((.pointer (some x0)) = ((.pointer (some x0)) : Value) ∧ ((.pointer (some x0)) = ((.pointer (some x0)) : Value) ∧ ((.pointer (some (Addr.add x0 2))) = ((.pointer (some (Addr.add x0 2))) : Value) ∧ ldI .u64 (rd h5 (Addr.add x0 2)) (fun n7 => ((.int .u64 n7) = ((.int .u64 n3) : Value) ∧ stK h5 (Addr.add (Addr.add x0 6) 0) (.bool (n6 != n3)) (fun h8 => stK h8 (Addr.add (Addr.add x0 5) 0) (.func (.func 134) #[(.pointer (some x0))] #[]) (fun h9 => K (.tuple #[]) h9)))))))))))))
theorem E0 (S : Stop) (x0 : Addr) (h : Heap) (K : KK) : (E Tryz.prog X T S body (fin Tryz.prog Tryz.f129.results.toList K) (args0 0 [(.pointer (some x0))]) h) = J0 x0 h K := by kernel_rfl
def w (x0 : Addr) (h : Heap) (K : KK) : Prop :=
  J0 x0 h K
theorem e0 (K : KK) (x0 : Addr) (h : Heap) : (E Tryz.prog X T S0 body (fin Tryz.prog Tryz.f129.results.toList K) (args0 0 [(.pointer (some x0))]) h) = w x0 h K := (E0 S0 x0 h K).trans (rfl)
theorem hb : Tryz.f129.body = some body := by kernel_rfl
theorem ok : okCode T Tryz.f129.ntmps body = true := by kernel_rfl
theorem spec (x0 : Addr) (h : Heap) (K : KK) (H : w x0 h K) : CallsH Tryz.prog 129 [(.pointer (some x0))] h K :=
  calls_of_E (T := T) Xok mix Tryz.func129 hb ok rfl (by rw [e0]; exact H)
end F129
-- (*spinney/cache.Act).locks
namespace F130
def T : Hint := ⟨[], [(1, [[(0, []), (1, []), (2, []), (3, []), (4, []), (5, []), (6, []), (7, []), (8, []), (9, []), (10, []), (11, []), (12, []), (13, []), (14, []), (15, []), (16, []), (17, []), (18, [0]), (19, []), (20, []), (21, []), (22, [])]])]⟩
noncomputable def body : Code := (Tryz.f130.body).getD .skip
def J0 (x0 : Addr) (h : Heap) (K : KK) : Prop :=
  stK h (Addr.add (Addr.add x0 5) 0) (.func (.func 135) #[(.pointer (some x0))] #[]) (fun h1 => ldP (rd h1 (Addr.add x0 0)) (fun p2 => ldI .i64 (rd h1 (Addr.add x0 1)) (fun n3 => ldI .u64 (rd h1 (Addr.add x0 4)) (fun n4 => ldI .u64 (rd h1 (Addr.add x0 4)) (fun n5 => CallsH Tryz.prog 131 [(.pointer p2), (.int .i64 n3), (.int .u64 n4), (.int .u64 (bitsI .or .u64 n5 (1 : Int)))] h1 (fun v6 h7 => ldB (some v6) (fun b8 => ((.pointer (some x0)) = ((.pointer (some x0)) : Value) ∧ stK h7 (Addr.add (Addr.add x0 6) 0) (.bool (!b8)) (fun h9 => K (.tuple #[]) h9)))))))))
theorem E0 (S : Stop) (x0 : Addr) (h : Heap) (K : KK) : (E Tryz.prog X T S body (fin Tryz.prog Tryz.f130.results.toList K) (args0 0 [(.pointer (some x0))]) h) = J0 x0 h K := by kernel_rfl
def w (x0 : Addr) (h : Heap) (K : KK) : Prop :=
  J0 x0 h K
theorem e0 (K : KK) (x0 : Addr) (h : Heap) : (E Tryz.prog X T S0 body (fin Tryz.prog Tryz.f130.results.toList K) (args0 0 [(.pointer (some x0))]) h) = w x0 h K := (E0 S0 x0 h K).trans (rfl)
theorem hb : Tryz.f130.body = some body := by kernel_rfl
theorem ok : okCode T Tryz.f130.ntmps body = true := by kernel_rfl
theorem spec (x0 : Addr) (h : Heap) (K : KK) (H : w x0 h K) : CallsH Tryz.prog 130 [(.pointer (some x0))] h K :=
  calls_of_E (T := T) Xok mix Tryz.func130 hb ok rfl (by rw [e0]; exact H)
end F130
-- (*spinney/cache.Act).reads
namespace F134
def T : Hint := ⟨[], [(0, [[(0, []), (1, []), (2, []), (3, []), (4, []), (5, []), (6, []), (7, []), (8, []), (9, []), (10, [0]), (11, []), (12, []), (13, [])]])]⟩
noncomputable def body : Code := (Tryz.f134.body).getD .skip
def J0 (x0 : Addr) (h : Heap) (K : KK) : Prop :=
  ldP (rd h (Addr.add x0 0)) (fun p1 => ldI .i64 (rd h (Addr.add x0 1)) (fun n2 => CallsH Tryz.prog 114 [(.pointer p1), (.int .i64 (IntKind.wrap .i64 (n2 + (2 : Int))))] h (fun v3 h4 => ldI .u64 (some v3) (fun n5 => ((.pointer (some x0)) = ((.pointer (some x0)) : Value) ∧ stK h4 (Addr.add (Addr.add x0 8) 0) (.int .u64 n5) (fun h6 => stK h6 (Addr.add (Addr.add x0 5) 0) (.func (.func 138) #[(.pointer (some x0))] #[]) (fun h7 => K (.tuple #[]) h7)))))))
theorem E0 (S : Stop) (x0 : Addr) (h : Heap) (K : KK) : (E Tryz.prog X T S body (fin Tryz.prog Tryz.f134.results.toList K) (args0 0 [(.pointer (some x0))]) h) = J0 x0 h K := by kernel_rfl
def w (x0 : Addr) (h : Heap) (K : KK) : Prop :=
  J0 x0 h K
theorem e0 (K : KK) (x0 : Addr) (h : Heap) : (E Tryz.prog X T S0 body (fin Tryz.prog Tryz.f134.results.toList K) (args0 0 [(.pointer (some x0))]) h) = w x0 h K := (E0 S0 x0 h K).trans (rfl)
theorem hb : Tryz.f134.body = some body := by kernel_rfl
theorem ok : okCode T Tryz.f134.ntmps body = true := by kernel_rfl
theorem spec (x0 : Addr) (h : Heap) (K : KK) (H : w x0 h K) : CallsH Tryz.prog 134 [(.pointer (some x0))] h K :=
  calls_of_E (T := T) Xok mix Tryz.func134 hb ok rfl (by rw [e0]; exact H)
end F134
-- (*spinney/cache.Act).keys
namespace F135
def T : Hint := ⟨[], [(0, [[(0, []), (1, []), (2, []), (3, []), (4, []), (5, []), (6, []), (7, []), (8, []), (9, []), (10, []), (11, []), (12, []), (13, [])]])]⟩
noncomputable def body : Code := (Tryz.f135.body).getD .skip
def J0 (x0 : Addr) (h : Heap) (K : KK) : Prop :=
  ldP (rd h (Addr.add x0 0)) (fun p1 => ldI .i64 (rd h (Addr.add x0 1)) (fun n2 => ldI .u64 (rd h (Addr.add x0 2)) (fun n3 => CallsH Tryz.prog 139 [(.pointer p1), (.int .i64 (IntKind.wrap .i64 (n2 + (1 : Int)))), (.int .u64 n3)] h (fun v4 h5 => (v4 = (.tuple #[]) ∧ stK h5 (Addr.add (Addr.add x0 5) 0) (.func (.func 140) #[(.pointer (some x0))] #[]) (fun h6 => K (.tuple #[]) h6))))))
theorem E0 (S : Stop) (x0 : Addr) (h : Heap) (K : KK) : (E Tryz.prog X T S body (fin Tryz.prog Tryz.f135.results.toList K) (args0 0 [(.pointer (some x0))]) h) = J0 x0 h K := by kernel_rfl
def w (x0 : Addr) (h : Heap) (K : KK) : Prop :=
  J0 x0 h K
theorem e0 (K : KK) (x0 : Addr) (h : Heap) : (E Tryz.prog X T S0 body (fin Tryz.prog Tryz.f135.results.toList K) (args0 0 [(.pointer (some x0))]) h) = w x0 h K := (E0 S0 x0 h K).trans (rfl)
theorem hb : Tryz.f135.body = some body := by kernel_rfl
theorem ok : okCode T Tryz.f135.ntmps body = true := by kernel_rfl
theorem spec (x0 : Addr) (h : Heap) (K : KK) (H : w x0 h K) : CallsH Tryz.prog 135 [(.pointer (some x0))] h K :=
  calls_of_E (T := T) Xok mix Tryz.func135 hb ok rfl (by rw [e0]; exact H)
end F135
-- (*spinney/cache.Act).trusts
namespace F138
def T : Hint := ⟨[], [(0, [[(0, []), (1, []), (2, []), (3, []), (4, []), (5, []), (6, []), (7, []), (8, []), (10, []), (11, []), (12, []), (13, []), (9, [0, 10, 11, 12, 13]), (14, []), (15, []), (16, []), (17, [])]])]⟩
noncomputable def body : Code := (Tryz.f138.body).getD .skip
def J0 (x0 : Addr) (h : Heap) (K : KK) : Prop :=
  ldP (rd h (Addr.add x0 0)) (fun p1 => ldI .i64 (rd h (Addr.add x0 1)) (fun n2 => ldI .u64 (rd h (Addr.add x0 4)) (fun n3 => CallsH Tryz.prog 114 [(.pointer p1), (.int .i64 n2)] h (fun v4 h5 => ldI .u64 (some v4) (fun n6 => ((.pointer (some x0)) = ((.pointer (some x0)) : Value) ∧ ((.pointer (some x0)) = ((.pointer (some x0)) : Value) ∧ ((.pointer (some x0)) = ((.pointer (some x0)) : Value) ∧ ((.pointer (some (Addr.add x0 4))) = ((.pointer (some (Addr.add x0 4))) : Value) ∧ ldI .u64 (rd h5 (Addr.add x0 4)) (fun n7 => ((.int .u64 n7) = ((.int .u64 n3) : Value) ∧ stK h5 (Addr.add (Addr.add x0 7) 0) (.bool (n6 == n3)) (fun h8 => stK h8 (Addr.add (Addr.add x0 6) 0) (.bool true) (fun h9 => K (.tuple #[]) h9)))))))))))))
theorem E0 (S : Stop) (x0 : Addr) (h : Heap) (K : KK) : (E Tryz.prog X T S body (fin Tryz.prog Tryz.f138.results.toList K) (args0 0 [(.pointer (some x0))]) h) = J0 x0 h K := by kernel_rfl
def w (x0 : Addr) (h : Heap) (K : KK) : Prop :=
  J0 x0 h K
theorem e0 (K : KK) (x0 : Addr) (h : Heap) : (E Tryz.prog X T S0 body (fin Tryz.prog Tryz.f138.results.toList K) (args0 0 [(.pointer (some x0))]) h) = w x0 h K := (E0 S0 x0 h K).trans (rfl)
theorem hb : Tryz.f138.body = some body := by kernel_rfl
theorem ok : okCode T Tryz.f138.ntmps body = true := by kernel_rfl
theorem spec (x0 : Addr) (h : Heap) (K : KK) (H : w x0 h K) : CallsH Tryz.prog 138 [(.pointer (some x0))] h K :=
  calls_of_E (T := T) Xok mix Tryz.func138 hb ok rfl (by rw [e0]; exact H)
end F138
-- (*spinney/cache.Act).vals
namespace F140
def T : Hint := ⟨[], [(0, [[(0, []), (1, []), (2, []), (3, []), (4, []), (5, []), (6, []), (7, []), (8, []), (9, []), (10, []), (11, []), (12, []), (13, [])]])]⟩
noncomputable def body : Code := (Tryz.f140.body).getD .skip
def J0 (x0 : Addr) (h : Heap) (K : KK) : Prop :=
  ldP (rd h (Addr.add x0 0)) (fun p1 => ldI .i64 (rd h (Addr.add x0 1)) (fun n2 => ldI .u64 (rd h (Addr.add x0 3)) (fun n3 => CallsH Tryz.prog 139 [(.pointer p1), (.int .i64 (IntKind.wrap .i64 (n2 + (2 : Int)))), (.int .u64 n3)] h (fun v4 h5 => (v4 = (.tuple #[]) ∧ stK h5 (Addr.add (Addr.add x0 5) 0) (.func (.func 143) #[(.pointer (some x0))] #[]) (fun h6 => K (.tuple #[]) h6))))))
theorem E0 (S : Stop) (x0 : Addr) (h : Heap) (K : KK) : (E Tryz.prog X T S body (fin Tryz.prog Tryz.f140.results.toList K) (args0 0 [(.pointer (some x0))]) h) = J0 x0 h K := by kernel_rfl
def w (x0 : Addr) (h : Heap) (K : KK) : Prop :=
  J0 x0 h K
theorem e0 (K : KK) (x0 : Addr) (h : Heap) : (E Tryz.prog X T S0 body (fin Tryz.prog Tryz.f140.results.toList K) (args0 0 [(.pointer (some x0))]) h) = w x0 h K := (E0 S0 x0 h K).trans (rfl)
theorem hb : Tryz.f140.body = some body := by kernel_rfl
theorem ok : okCode T Tryz.f140.ntmps body = true := by kernel_rfl
theorem spec (x0 : Addr) (h : Heap) (K : KK) (H : w x0 h K) : CallsH Tryz.prog 140 [(.pointer (some x0))] h K :=
  calls_of_E (T := T) Xok mix Tryz.func140 hb ok rfl (by rw [e0]; exact H)
end F140
-- (*spinney/cache.Act).opensAgain
namespace F143
def T : Hint := ⟨[], [(0, [[(0, []), (1, []), (2, []), (3, []), (4, []), (5, []), (6, []), (7, []), (8, []), (9, []), (10, []), (11, []), (12, []), (13, []), (14, [])]])]⟩
noncomputable def body : Code := (Tryz.f143.body).getD .skip
def J0 (x0 : Addr) (h : Heap) (K : KK) : Prop :=
  ldP (rd h (Addr.add x0 0)) (fun p1 => ldI .i64 (rd h (Addr.add x0 1)) (fun n2 => ldI .u64 (rd h (Addr.add x0 4)) (fun n3 => CallsH Tryz.prog 139 [(.pointer p1), (.int .i64 n2), (.int .u64 (IntKind.wrap .u64 ((bitsI .or .u64 n3 (2 : Int)) + (4 : Int))))] h (fun v4 h5 => (v4 = (.tuple #[]) ∧ stK h5 (Addr.add (Addr.add x0 6) 0) (.bool true) (fun h6 => K (.tuple #[]) h6))))))
theorem E0 (S : Stop) (x0 : Addr) (h : Heap) (K : KK) : (E Tryz.prog X T S body (fin Tryz.prog Tryz.f143.results.toList K) (args0 0 [(.pointer (some x0))]) h) = J0 x0 h K := by kernel_rfl
def w (x0 : Addr) (h : Heap) (K : KK) : Prop :=
  J0 x0 h K
theorem e0 (K : KK) (x0 : Addr) (h : Heap) : (E Tryz.prog X T S0 body (fin Tryz.prog Tryz.f143.results.toList K) (args0 0 [(.pointer (some x0))]) h) = w x0 h K := (E0 S0 x0 h K).trans (rfl)
theorem hb : Tryz.f143.body = some body := by kernel_rfl
theorem ok : okCode T Tryz.f143.ntmps body = true := by kernel_rfl
theorem spec (x0 : Addr) (h : Heap) (K : KK) (H : w x0 h K) : CallsH Tryz.prog 143 [(.pointer (some x0))] h K :=
  calls_of_E (T := T) Xok mix Tryz.func143 hb ok rfl (by rw [e0]; exact H)
end F143
end Go.Proofs.YtnbnlhpleomaoaaGreat.Ev
/- THE CACHE (package cache): what each of its functions does to lines of cells and to an act, seen from the heap. Conditions: the cache and the act stand (CacIs, ActIs). -/
namespace Go.Proofs.YtnbnlhpleomaoaaGreat.Ev
open Go
/-- block c is a cache over the Mem m -/
def CacIs (h : Heap) (c m base n : Nat) : Prop := At h c [.pointer (some ⟨m, 0, none⟩), .int .i64 (base : Int), .int .i64 (n : Int)]
theorem CacIs.only {S : List Nat} {h h' : Heap} {t m base n : Nat} (H : CacIs h t m base n) (O : Only S h h') (ht : t ∉ S) : CacIs h' t m base n := At.only H O ht
structure Ac where
  key : Int
  val : Int
  pos : Nat
  ver : Int
  ph : Nat
  done : Bool
  ok : Bool
  got : Int
/-- the function of a phase: a put's 0 to 4, a get's 5 to 8 -/
def phf : Nat → Nat
  | 0 => 122
  | 1 => 130
  | 2 => 135
  | 3 => 140
  | 4 => 143
  | 5 => 121
  | 6 => 129
  | 7 => 134
  | _ => 138
theorem go122 : xget X 122 = some Ext.go := by kernel_rfl
theorem go130 : xget X 130 = some Ext.go := by kernel_rfl
theorem go135 : xget X 135 = some Ext.go := by kernel_rfl
theorem go140 : xget X 140 = some Ext.go := by kernel_rfl
theorem go143 : xget X 143 = some Ext.go := by kernel_rfl
theorem go121 : xget X 121 = some Ext.go := by kernel_rfl
theorem go129 : xget X 129 = some Ext.go := by kernel_rfl
theorem go134 : xget X 134 = some Ext.go := by kernel_rfl
theorem go138 : xget X 138 = some Ext.go := by kernel_rfl
theorem phf_go : ∀ k, k ≤ 8 → xget X (phf k) = some Ext.go
  | 0, _ => go122
  | 1, _ => go130
  | 2, _ => go135
  | 3, _ => go140
  | 4, _ => go143
  | 5, _ => go121
  | 6, _ => go129
  | 7, _ => go134
  | 8, _ => go138
def nxa (f ph : Nat) : Value := .func (.func (phf ph)) #[.pointer (some ⟨f, 0, none⟩)] #[]
def ActIs (h : Heap) (f m : Nat) (A : Ac) : Prop :=
  At h f [.pointer (some ⟨m, 0, none⟩), .int .i64 (A.pos : Int), .int .u64 A.key, .int .u64 A.val, .int .u64 A.ver, nxa f A.ph, .bool A.done, .bool A.ok, .int .u64 A.got]
theorem ActIs.only {S : List Nat} {h h' : Heap} {f m : Nat} {A : Ac} (H : ActIs h f m A) (O : Only S h h') (ht : f ∉ S) : ActIs h' f m A := At.only H O ht

/-- one step of an act -/
def stepA (cs : List Int) (A : Ac) : Ac × List Int :=
  if A.done then (A, cs) else
  match A.ph with
  | 0 => ({ A with ver := cs.getD A.pos 0, ph := 1, done := bitsI .and .u64 (cs.getD A.pos 0) 1 != 0 }, cs)
  | 1 => if cs.getD A.pos 0 = A.ver then ({ A with ph := 2, done := false }, cs.set A.pos (bitsI .or .u64 A.ver 1)) else ({ A with ph := 2, done := true }, cs)
  | 2 => ({ A with ph := 3 }, cs.set (A.pos + 1) A.key)
  | 3 => ({ A with ph := 4 }, cs.set (A.pos + 2) A.val)
  | 4 => ({ A with done := true }, cs.set A.pos (IntKind.wrap .u64 (bitsI .or .u64 A.ver 2 + 4)))
  | 5 => ({ A with ver := cs.getD A.pos 0, ph := 6, done := bitsI .and .u64 (cs.getD A.pos 0) 3 != 2 }, cs)
  | 6 => ({ A with ph := 7, done := cs.getD (A.pos + 1) 0 != A.key }, cs)
  | 7 => ({ A with ph := 8, got := cs.getD (A.pos + 2) 0 }, cs)
  | _ => ({ A with ok := cs.getD A.pos 0 == A.ver, done := true }, cs)
theorem stepA_len {cs : List Int} {A : Ac} : (stepA cs A).2.length = cs.length := by
  unfold stepA
  repeat' split
  all_goals simp

section
variable {h : Heap} {f c m mc base n : Nat} {cs : List Int} {ops fails : Int} {A : Ac} {K : Value → Heap → Prop}
theorem stepA_spec (H : ActIs h f m A) (M : MemIs h m mc cs ops fails) (hp : A.pos + 2 < cs.length) (hc : cs.length < 1000000000) (hph : A.ph ≤ 8) (d2 : f ≠ m) (d3 : f ≠ mc)
    (hK : ∀ h' ops' fails', ActIs h' f m (stepA cs A).1 → MemIs h' m mc (stepA cs A).2 ops' fails' → Only [f, m, mc] h h' → K (.bool (stepA cs A).1.done) h') :
    CallsH Tryz.prog 108 [.pointer (some ⟨f, 0, none⟩)] h K := by
  apply F108.spec
  unfold F108.w F108.J0
  simp only [add_mk, Nat.zero_add]
  refine ldB_of (n := A.done) (by rw [At.rd H]; rfl) ?_
  have hend : ∀ h' ops' fails', ActIs h' f m (stepA cs A).1 → MemIs h' m mc (stepA cs A).2 ops' fails' → Only [f, m, mc] h h' → F108.wk3 ⟨f, 0, none⟩ h' K := by
    intro h' ops' fails' a1 a2 a3
    unfold F108.wk3 F108.Jk3
    simp only [add_mk, Nat.zero_add]
    exact ldB_of (by rw [At.rd a1]; rfl) (hK h' ops' fails' a1 a2 a3)
  cases hd : A.done with
  | true =>
    rw [Bool.not_true, bcase_false]
    have e : stepA cs A = (A, cs) := by unfold stepA; rw [if_pos hd]
    rw [e] at hend
    exact hend h ops fails H M (Only.refl _ _)
  | false =>
    rw [Bool.not_false, bcase_true]
    have hs : ∀ b ∈ [m, mc], b ∈ [f, m, mc] := by simp +contextual
    have hS : ∀ b ∈ [f], b ∈ [f, m, mc] := by simp
    have d2' := d2.symm
    have d3' := d3.symm
    have w1 : IntKind.wrap .i64 ((A.pos : Int) + 1) = ((A.pos + 1 : Nat) : Int) := by rw [wrap_i64 (by omega) (by omega)]; simp
    have w2 : IntKind.wrap .i64 ((A.pos : Int) + 2) = ((A.pos + 2 : Nat) : Int) := by rw [wrap_i64 (by omega) (by omega)]; simp
    unfold stepA at hend
    rw [if_neg (by simp [hd])] at hend
    have hx := phf_go A.ph hph
    refine ⟨_, by rw [At.rd H]; rfl, dynK_go hx ?_⟩
    clear hx
    obtain ⟨key, val, pos, ver, ph, done, ok, got⟩ := A
    dsimp only at *
    subst hd
    match ph, hph, H, hend with
    | 0, _, H, hend =>
      refine F122.spec _ _ _ ?_
      unfold F122.w F122.J0
      simp only [add_mk, Nat.zero_add, Nat.add_zero]
      refine ldP_of (by rw [At.rd H]; rfl) (ldI_of (n := (pos : Int)) (by rw [At.rd H]; rfl) (load_in M (by omega) (by omega) fun h1 M1 O1 => ldI_of rfl ⟨trivial, ?_⟩))
      have H1 := H.only O1 (by simp [d2, d3])
      rw [Int.toNat_natCast]
      refine stK_at H1 (by simp) rfl fun h2 A2 O2 _ => stK_at A2 (by simp) rfl fun h3 A3 O3 _ => ldI_of (n := cs.getD pos 0) (by rw [A3.rd]; rfl) (stK_at A3 (by simp) rfl fun h4 A4 O4 _ => ⟨by trivial, ?_⟩)
      have O24 := (O2.trans O3 (by simp)).trans O4 (by simp)
      exact hend h4 _ _ A4 (M1.only O24 (by simp [d2']) (by simp [d3'])) ((O1.mono fun b hb _ => hs b hb).trans O24 fun b hb _ => hS b hb)
    | 1, _, H, hend =>
      refine F130.spec _ _ _ ?_
      unfold F130.w F130.J0
      simp only [add_mk, Nat.zero_add, Nat.add_zero]
      refine stK_at H (by simp) rfl fun h1 A1 O1 _ => ?_
      have M1 := M.only O1 (by simp [d2']) (by simp [d3'])
      refine ldP_of (by rw [A1.rd]; rfl) (ldI_of (n := (pos : Int)) (by rw [A1.rd]; rfl) (ldI_of (n := ver) (by rw [A1.rd]; rfl) (ldI_of (n := ver) (by rw [A1.rd]; rfl) ?_)))
      refine cas_in M1 (by omega) (by omega) (fun e h2 M2 O2 => ldB_of rfl ⟨trivial, ?_⟩) fun e h2 M2 O2 => ldB_of rfl ⟨trivial, ?_⟩
      all_goals rw [Int.toNat_natCast] at e
      · rw [Int.toNat_natCast] at M2
        refine stK_at (A1.only O2 (by simp [d2, d3])) (by simp) rfl fun h3 A3 O3 _ => ⟨by trivial, ?_⟩
        rw [if_pos e] at hend
        exact hend h3 _ _ A3 (M2.only O3 (by simp [d2']) (by simp [d3'])) (((O1.mono fun b hb _ => hS b hb).trans O2 fun b hb _ => hs b hb).trans O3 fun b hb _ => hS b hb)
      · refine stK_at (A1.only O2 (by simp [d2, d3])) (by simp) rfl fun h3 A3 O3 _ => ⟨by trivial, ?_⟩
        rw [if_neg e] at hend
        exact hend h3 _ _ A3 (M2.only O3 (by simp [d2']) (by simp [d3'])) (((O1.mono fun b hb _ => hS b hb).trans O2 fun b hb _ => hs b hb).trans O3 fun b hb _ => hS b hb)
    | 2, _, H, hend =>
      refine F135.spec _ _ _ ?_
      unfold F135.w F135.J0
      simp only [add_mk, Nat.zero_add, Nat.add_zero]
      refine ldP_of (by rw [At.rd H]; rfl) (ldI_of (n := (pos : Int)) (by rw [At.rd H]; rfl) (ldI_of (n := key) (by rw [At.rd H]; rfl) ?_))
      rw [w1]
      refine store_in M (by omega) (by omega) fun h1 M1 O1 => ⟨rfl, stK_at (H.only O1 (by simp [d2, d3])) (by simp) rfl fun h2 A2 O2 _ => ⟨by trivial, ?_⟩⟩
      rw [Int.toNat_natCast] at M1
      exact hend h2 _ _ A2 (M1.only O2 (by simp [d2']) (by simp [d3'])) ((O1.mono fun b hb _ => hs b hb).trans O2 fun b hb _ => hS b hb)
    | 3, _, H, hend =>
      refine F140.spec _ _ _ ?_
      unfold F140.w F140.J0
      simp only [add_mk, Nat.zero_add, Nat.add_zero]
      refine ldP_of (by rw [At.rd H]; rfl) (ldI_of (n := (pos : Int)) (by rw [At.rd H]; rfl) (ldI_of (n := val) (by rw [At.rd H]; rfl) ?_))
      rw [w2]
      refine store_in M (by omega) (by omega) fun h1 M1 O1 => ⟨rfl, stK_at (H.only O1 (by simp [d2, d3])) (by simp) rfl fun h2 A2 O2 _ => ⟨by trivial, ?_⟩⟩
      rw [Int.toNat_natCast] at M1
      exact hend h2 _ _ A2 (M1.only O2 (by simp [d2']) (by simp [d3'])) ((O1.mono fun b hb _ => hs b hb).trans O2 fun b hb _ => hS b hb)
    | 4, _, H, hend =>
      refine F143.spec _ _ _ ?_
      unfold F143.w F143.J0
      simp only [add_mk, Nat.zero_add, Nat.add_zero]
      refine ldP_of (by rw [At.rd H]; rfl) (ldI_of (n := (pos : Int)) (by rw [At.rd H]; rfl) (ldI_of (n := ver) (by rw [At.rd H]; rfl) ?_))
      refine store_in M (by omega) (by omega) fun h1 M1 O1 => ⟨rfl, stK_at (H.only O1 (by simp [d2, d3])) (by simp) rfl fun h2 A2 O2 _ => ⟨by trivial, ?_⟩⟩
      rw [Int.toNat_natCast] at M1
      exact hend h2 _ _ A2 (M1.only O2 (by simp [d2']) (by simp [d3'])) ((O1.mono fun b hb _ => hs b hb).trans O2 fun b hb _ => hS b hb)
    | 5, _, H, hend =>
      refine F121.spec _ _ _ ?_
      unfold F121.w F121.J0
      simp only [add_mk, Nat.zero_add, Nat.add_zero]
      refine ldP_of (by rw [At.rd H]; rfl) (ldI_of (n := (pos : Int)) (by rw [At.rd H]; rfl) (load_in M (by omega) (by omega) fun h1 M1 O1 => ldI_of rfl ⟨trivial, ?_⟩))
      have H1 := H.only O1 (by simp [d2, d3])
      rw [Int.toNat_natCast]
      refine stK_at H1 (by simp) rfl fun h2 A2 O2 _ => stK_at A2 (by simp) rfl fun h3 A3 O3 _ => ldI_of (n := cs.getD pos 0) (by rw [A3.rd]; rfl) (stK_at A3 (by simp) rfl fun h4 A4 O4 _ => ⟨by trivial, ?_⟩)
      have O24 := (O2.trans O3 (by simp)).trans O4 (by simp)
      exact hend h4 _ _ A4 (M1.only O24 (by simp [d2']) (by simp [d3'])) ((O1.mono fun b hb _ => hs b hb).trans O24 fun b hb _ => hS b hb)
    | 6, _, H, hend =>
      refine F129.spec _ _ _ ?_
      unfold F129.w F129.J0
      simp only [add_mk, Nat.zero_add, Nat.add_zero]
      refine ldP_of (by rw [At.rd H]; rfl) (ldI_of (n := (pos : Int)) (by rw [At.rd H]; rfl) (ldI_of (n := key) (by rw [At.rd H]; rfl) ?_))
      rw [w1]
      refine load_in M (by omega) (by omega) fun h1 M1 O1 => ldI_of rfl ⟨trivial, trivial, trivial, trivial, ?_⟩
      have H1 := H.only O1 (by simp [d2, d3])
      rw [Int.toNat_natCast]
      refine ldI_of (n := key) (by rw [At.rd H1]; rfl) ⟨rfl, stK_at H1 (by simp) rfl fun h2 A2 O2 _ => stK_at A2 (by simp) rfl fun h3 A3 O3 _ => ⟨by trivial, ?_⟩⟩
      have O24 := O2.trans O3 (by simp)
      exact hend h3 _ _ A3 (M1.only O24 (by simp [d2']) (by simp [d3'])) ((O1.mono fun b hb _ => hs b hb).trans O24 fun b hb _ => hS b hb)
    | 7, _, H, hend =>
      refine F134.spec _ _ _ ?_
      unfold F134.w F134.J0
      simp only [add_mk, Nat.zero_add, Nat.add_zero]
      refine ldP_of (by rw [At.rd H]; rfl) (ldI_of (n := (pos : Int)) (by rw [At.rd H]; rfl) ?_)
      rw [w2]
      refine load_in M (by omega) (by omega) fun h1 M1 O1 => ldI_of rfl ⟨trivial, ?_⟩
      have H1 := H.only O1 (by simp [d2, d3])
      rw [Int.toNat_natCast]
      refine stK_at H1 (by simp) rfl fun h2 A2 O2 _ => stK_at A2 (by simp) rfl fun h3 A3 O3 _ => ⟨by trivial, ?_⟩
      have O24 := O2.trans O3 (by simp)
      exact hend h3 _ _ A3 (M1.only O24 (by simp [d2']) (by simp [d3'])) ((O1.mono fun b hb _ => hs b hb).trans O24 fun b hb _ => hS b hb)
    | 8, _, H, hend =>
      refine F138.spec _ _ _ ?_
      unfold F138.w F138.J0
      simp only [add_mk, Nat.zero_add, Nat.add_zero]
      refine ldP_of (by rw [At.rd H]; rfl) (ldI_of (n := (pos : Int)) (by rw [At.rd H]; rfl) (ldI_of (n := ver) (by rw [At.rd H]; rfl) ?_))
      refine load_in M (by omega) (by omega) fun h1 M1 O1 => ldI_of rfl ⟨trivial, trivial, trivial, trivial, ?_⟩
      have H1 := H.only O1 (by simp [d2, d3])
      rw [Int.toNat_natCast]
      refine ldI_of (n := ver) (by rw [At.rd H1]; rfl) ⟨rfl, stK_at H1 (by simp) rfl fun h2 A2 O2 _ => stK_at A2 (by simp) rfl fun h3 A3 O3 _ => ⟨by trivial, ?_⟩⟩
      have O24 := O2.trans O3 (by simp)
      exact hend h3 _ _ A3 (M1.only O24 (by simp [d2']) (by simp [d3'])) ((O1.mono fun b hb _ => hs b hb).trans O24 fun b hb _ => hS b hb)

/-- a line's first cell -/
def lineOf (base n : Nat) (key : Int) : Nat := base + 3 * home key n
theorem line_spec {key : Int} (C : CacIs h c m base n) (hn : 1 ≤ n) (hn2 : n < 10000) (hb : base < 1000000) (hK : K (.int .i64 (lineOf base n key : Int)) h) : CallsH Tryz.prog 120 [.pointer (some ⟨c, 0, none⟩), .int .u64 key] h K := by
  apply F120.spec
  unfold F120.w F120.J0
  simp only [add_mk, Nat.zero_add]
  have hl := home_lt key hn
  have r1 : rd h ⟨c, 1, none⟩ = some (.int .i64 (base : Int)) := by rw [At.rd C]; rfl
  refine ldI_of r1 (ldI_of (n := (n : Int)) (by rw [At.rd C]; rfl) (home_spec hn (by omega) (ldI_of rfl ⟨trivial, trivial, trivial, ldI_of r1 ⟨rfl, ?_⟩⟩)))
  rw [show IntKind.wrap .i64 ((base : Int) + IntKind.wrap .i64 (3 * (home key n : Int))) = (lineOf base n key : Int) by
    unfold lineOf
    rw [wrap_i64 (n := 3 * (home key n : Int)) (by omega) (by omega), wrap_i64 (by omega) (by omega)]
    simp]
  exact hK
def getA (base n : Nat) (key : Int) : Ac := ⟨key, 0, lineOf base n key, 0, 5, false, false, 0⟩
def putA (base n : Nat) (key val : Int) : Ac := ⟨key, val, lineOf base n key, 0, 0, false, false, 0⟩
theorem get_spec {key : Int} (C : CacIs h c m base n) (hn : 1 ≤ n) (hn2 : n < 10000) (hb : base < 1000000)
    (hK : ∀ f h', ActIs h' f m (getA base n key) → Only [] h h' → h.size ≤ f → K (.pointer (some ⟨f, 0, none⟩)) h') : CallsH Tryz.prog 106 [.pointer (some ⟨c, 0, none⟩), .int .u64 key] h K := by
  apply F106.spec
  unfold F106.w F106.J0
  simp only [add_mk, Nat.zero_add, Nat.add_zero]
  have r0 : rd h ⟨c, 0, none⟩ = some (.pointer (some ⟨m, 0, none⟩)) := by rw [At.rd C]; rfl
  refine ldP_of r0 (line_spec C hn hn2 hb (ldI_of rfl ⟨trivial, trivial, trivial, ldP_of r0 ⟨rfl, trivial, newK_at fun h1 A1 O1 z1 => stK_at A1 (by simp) rfl fun h2 A2 O2 _ => ?_⟩⟩))
  exact hK h.size h2 A2 (O1.trans O2 fun b hb hl => absurd (show b = h.size by simpa using hb) (by omega)) (Nat.le_refl _)
theorem put_spec {key val : Int} (C : CacIs h c m base n) (hn : 1 ≤ n) (hn2 : n < 10000) (hb : base < 1000000)
    (hK : ∀ f h', ActIs h' f m (putA base n key val) → Only [] h h' → h.size ≤ f → K (.pointer (some ⟨f, 0, none⟩)) h') : CallsH Tryz.prog 111 [.pointer (some ⟨c, 0, none⟩), .int .u64 key, .int .u64 val] h K := by
  apply F111.spec
  unfold F111.w F111.J0
  simp only [add_mk, Nat.zero_add, Nat.add_zero]
  have r0 : rd h ⟨c, 0, none⟩ = some (.pointer (some ⟨m, 0, none⟩)) := by rw [At.rd C]; rfl
  refine ldP_of r0 (line_spec C hn hn2 hb (ldI_of rfl ⟨trivial, trivial, trivial, ldP_of r0 ⟨rfl, trivial, trivial, newK_at fun h1 A1 O1 z1 => stK_at A1 (by simp) rfl fun h2 A2 O2 _ => ?_⟩⟩))
  exact hK h.size h2 A2 (O1.trans O2 fun b hb hl => absurd (show b = h.size by simpa using hb) (by omega)) (Nat.le_refl _)
def gotV (A : Ac) : Int := if A.done && A.ok then A.got else 0
def gotB (A : Ac) : Bool := A.done && A.ok
theorem got_spec (H : ActIs h f m A) (hK : K (.tuple #[.int .u64 (gotV A), .bool (gotB A)]) h) : CallsH Tryz.prog 109 [.pointer (some ⟨f, 0, none⟩)] h K := by
  apply F109.spec
  unfold F109.w F109.J0
  simp only [add_mk, Nat.zero_add]
  unfold gotV gotB at hK
  refine ldB_of (n := A.done) (by rw [At.rd H]; rfl) (bcase_of (fun e => ?_) fun e => ldB_of (n := A.ok) (by rw [At.rd H]; rfl) (bcase_of (fun e' => ?_) fun e' => ldI_of (n := A.got) (by rw [At.rd H]; rfl) ?_))
  · have e : A.done = false := by simpa using e
    simpa [e] using hK
  · have e : A.done = true := by simpa using e
    have e' : A.ok = false := by simpa using e'
    simpa [e, e'] using hK
  · have e : A.done = true := by simpa using e
    have e' : A.ok = true := by simpa using e'
    simpa [e, e'] using hK
theorem cells_spec {k : Int} (h0 : 1 ≤ k) (h1 : k < 1000000) (hK : K (.int .i64 (3 * k)) h) : CallsH Tryz.prog 32 [.int .i64 k] h K := by
  apply F32.spec
  unfold F32.w F32.J0
  rw [decide_eq_false (by omega), bcase_false, wrap_i64 (by omega) (by omega)]
  exact hK
theorem cacnew_spec (M : MemIs h m mc cs ops fails) (hn : 1 ≤ n) (hn2 : n ≤ 1024) (hb : base + 3 * n ≤ cs.length) (hc : cs.length < 1000000)
    (hK : ∀ c h', CacIs h' c m base n → Only [] h h' → h.size ≤ c → K (.tuple #[.pointer (some ⟨c, 0, none⟩), .int .i64 0]) h') :
    CallsH Tryz.prog 30 [.pointer (some ⟨m, 0, none⟩), .int .i64 (base : Int), .int .i64 (n : Int)] h K := by
  apply F30.spec
  unfold F30.w F30.J0
  rw [decide_eq_false (by omega), bcase_false, decide_eq_false (by omega), bcase_false, decide_eq_false (by omega), bcase_false]
  refine len_spec M (ldI_of rfl ?_)
  rw [decide_eq_false (by omega), bcase_false]
  refine cells_spec (by omega) (by omega) (ldI_of rfl (len_spec M (ldI_of rfl ?_)))
  rw [wrap_i64 (by omega) (by omega), decide_eq_false (by omega), bcase_false]
  exact newK_at fun h1 A1 O1 z1 => hK h.size h1 A1 O1 (Nat.le_refl _)
end
end Go.Proofs.YtnbnlhpleomaoaaGreat.Ev
/- THE CACHE's PLAIN LAW: what a put and a get come to, alone; and their runs. Conditions: none. -/
namespace Go.Proofs.YtnbnlhpleomaoaaGreat.Ev
open Go
theorem bv64 {x : Int} (h0 : 0 ≤ x) (h1 : x < 18446744073709551616) : (BitVec.ofInt 64 x).toNat = x.toNat := by
  rw [BitVec.toNat_ofInt]
  congr 1
  omega
theorem and_three {x : Int} (h0 : 0 ≤ x) (h1 : x < 18446744073709551616) : bitsI .and .u64 x 3 = x % 4 := by
  show IntKind.wrap .u64 (((BitVec.ofInt 64 x &&& BitVec.ofInt 64 3).toNat : Nat) : Int) = _
  rw [BitVec.toNat_and, bv64 h0 h1, show (BitVec.ofInt 64 3).toNat = 2 ^ 2 - 1 from rfl, Nat.and_two_pow_sub_one_eq_mod, wrap_u64 (by omega) (by omega)]
  omega
theorem nat_or_two (n : Nat) : n ||| 2 = 4 * (n / 4) + 2 + n % 2 := by
  apply Nat.eq_of_testBit_eq
  intro i
  match i with
  | 0 =>
    rw [Nat.testBit_or]
    simp [Nat.testBit_zero]
    omega
  | 1 =>
    rw [Nat.testBit_or, Nat.testBit_succ, Nat.testBit_succ, Nat.testBit_succ, Nat.testBit_zero, Nat.testBit_zero, Nat.testBit_zero]
    simp
    omega
  | i + 2 =>
    rw [Nat.testBit_or, Nat.testBit_succ, Nat.testBit_succ, Nat.testBit_succ, Nat.testBit_succ, Nat.testBit_succ, Nat.testBit_succ]
    rw [show 2 / 2 / 2 = 0 by omega, show (4 * (n / 4) + 2 + n % 2) / 2 / 2 = n / 2 / 2 by omega]
    simp
theorem or_two {x : Int} (h0 : 0 ≤ x) (h1 : x < 18446744073709551616) : bitsI .or .u64 x 2 = 4 * (x / 4) + 2 + x % 2 := by
  show IntKind.wrap .u64 (((BitVec.ofInt 64 x ||| BitVec.ofInt 64 2).toNat : Nat) : Int) = _
  rw [BitVec.toNat_or, bv64 h0 h1, show (BitVec.ofInt 64 2).toNat = 2 from rfl, nat_or_two, wrap_u64 (by omega) (by omega)]
  omega

/-- what a put does to its line -/
def PutRel (pos : Nat) (key val : Int) (cs cs' : List Int) : Prop :=
  cs'.length = cs.length ∧ (∀ x, x ≠ pos → x ≠ pos + 1 → x ≠ pos + 2 → cs'.getD x 0 = cs.getD x 0) ∧
  ((bitsI .and .u64 (cs.getD pos 0) 1 = 0 ∧ cs'.getD pos 0 = IntKind.wrap .u64 (bitsI .or .u64 (cs.getD pos 0) 2 + 4) ∧ cs'.getD (pos + 1) 0 = key ∧ cs'.getD (pos + 2) 0 = val) ∨
   (bitsI .and .u64 (cs.getD pos 0) 1 ≠ 0 ∧ cs' = cs))
def GetRel (pos : Nat) (key : Int) (cs : List Int) (v : Int) (ok : Bool) : Prop :=
  (ok = true ∧ bitsI .and .u64 (cs.getD pos 0) 3 = 2 ∧ cs.getD (pos + 1) 0 = key ∧ v = cs.getD (pos + 2) 0) ∨ (ok = false ∧ v = 0 ∧ ¬ (bitsI .and .u64 (cs.getD pos 0) 3 = 2 ∧ cs.getD (pos + 1) 0 = key))
/-- a get under way -/
def GInv (cs : List Int) (A : Ac) : Prop :=
  A.done = false ∧ A.ok = false ∧ (A.ph = 5 ∨ (A.ph = 6 ∧ A.ver = cs.getD A.pos 0 ∧ bitsI .and .u64 (cs.getD A.pos 0) 3 = 2) ∨ (A.ph = 7 ∧ A.ver = cs.getD A.pos 0 ∧ bitsI .and .u64 (cs.getD A.pos 0) 3 = 2 ∧ cs.getD (A.pos + 1) 0 = A.key) ∨
    (A.ph = 8 ∧ A.ver = cs.getD A.pos 0 ∧ bitsI .and .u64 (cs.getD A.pos 0) 3 = 2 ∧ cs.getD (A.pos + 1) 0 = A.key ∧ A.got = cs.getD (A.pos + 2) 0))
theorem GInv.step {cs : List Int} {A : Ac} (G : GInv cs A) : (stepA cs A).2 = cs ∧ (stepA cs A).1.pos = A.pos ∧ (stepA cs A).1.key = A.key ∧
    (((stepA cs A).1.done = true ∧ GetRel A.pos A.key cs (gotV (stepA cs A).1) (gotB (stepA cs A).1)) ∨ (GInv cs (stepA cs A).1 ∧ (stepA cs A).1.ph = A.ph + 1)) := by
  obtain ⟨key, val, pos, ver, ph, done, ok, got⟩ := A
  obtain ⟨hd, ho, G⟩ := G
  dsimp only at hd ho G
  subst hd ho
  rcases G with rfl | ⟨rfl, hv, h3⟩ | ⟨rfl, hv, h3, hk⟩ | ⟨rfl, hv, h3, hk, hg⟩
  · by_cases h : bitsI .and .u64 (cs.getD pos 0) 3 = 2
    · have e : (bitsI .and .u64 (cs.getD pos 0) 3 != 2) = false := by simpa using h
      refine ⟨rfl, rfl, rfl, Or.inr ⟨⟨?_, rfl, Or.inr (Or.inl ⟨rfl, rfl, h⟩)⟩, rfl⟩⟩
      simpa [stepA] using h
    · have e : (bitsI .and .u64 (cs.getD pos 0) 3 != 2) = true := by simpa using h
      refine ⟨rfl, rfl, rfl, Or.inl ⟨?_, Or.inr ⟨?_, ?_, fun h' => h h'.1⟩⟩⟩
      · simpa [stepA] using h
      · simp [gotB, stepA]
      · simp [gotV, stepA]
  · by_cases h : cs.getD (pos + 1) 0 = key
    · refine ⟨rfl, rfl, rfl, Or.inr ⟨⟨?_, rfl, Or.inr (Or.inr (Or.inl ⟨rfl, hv, h3, h⟩))⟩, rfl⟩⟩
      simpa [stepA] using h
    · refine ⟨rfl, rfl, rfl, Or.inl ⟨?_, Or.inr ⟨?_, ?_, fun h' => h h'.2⟩⟩⟩
      · simpa [stepA] using h
      · simp [gotB, stepA]
      · simp [gotV, stepA]
  · exact ⟨rfl, rfl, rfl, Or.inr ⟨⟨rfl, rfl, Or.inr (Or.inr (Or.inr ⟨rfl, hv, h3, hk, rfl⟩))⟩, rfl⟩⟩
  · refine ⟨rfl, rfl, rfl, Or.inl ⟨rfl, Or.inl ⟨?_, h3, hk, ?_⟩⟩⟩
    · simp [gotB, stepA, hv]
    · simp only [gotV, stepA, hv, hg]
      simp
/-- a put under way -/
def PInvA (cs0 cs : List Int) (A : Ac) : Prop :=
  A.done = false ∧ A.ok = false ∧ ((A.ph = 0 ∧ cs = cs0) ∨ (bitsI .and .u64 (cs0.getD A.pos 0) 1 = 0 ∧ A.ver = cs0.getD A.pos 0 ∧
    ((A.ph = 1 ∧ cs = cs0) ∨ (A.ph = 2 ∧ cs = cs0.set A.pos (bitsI .or .u64 A.ver 1)) ∨ (A.ph = 3 ∧ cs = (cs0.set A.pos (bitsI .or .u64 A.ver 1)).set (A.pos + 1) A.key) ∨
     (A.ph = 4 ∧ cs = ((cs0.set A.pos (bitsI .or .u64 A.ver 1)).set (A.pos + 1) A.key).set (A.pos + 2) A.val))))
theorem getD_set {l : List Int} {i j : Nat} {v : Int} (hi : i < l.length) : (l.set i v).getD j 0 = if i = j then v else l.getD j 0 := by
  by_cases h : i = j
  · subst h; simp [hi]
  · simp [List.getD, h]
theorem PInvA.step {cs0 cs : List Int} {A : Ac} (hp : A.pos + 2 < cs0.length) (G : PInvA cs0 cs A) : (stepA cs A).1.pos = A.pos ∧ (stepA cs A).1.key = A.key ∧ (stepA cs A).1.val = A.val ∧
    (((stepA cs A).1.done = true ∧ (stepA cs A).1.ok = false ∧ PutRel A.pos A.key A.val cs0 (stepA cs A).2) ∨ (PInvA cs0 (stepA cs A).2 (stepA cs A).1 ∧ (stepA cs A).1.ph = A.ph + 1)) := by
  obtain ⟨key, val, pos, ver, ph, done, ok, got⟩ := A
  obtain ⟨hd, ho, G⟩ := G
  dsimp only at hd ho G hp
  subst hd ho
  rcases G with ⟨rfl, rfl⟩ | ⟨h1, rfl, ⟨rfl, rfl⟩ | ⟨rfl, rfl⟩ | ⟨rfl, rfl⟩ | ⟨rfl, rfl⟩⟩
  · by_cases h : bitsI .and .u64 (cs.getD pos 0) 1 = 0
    · refine ⟨rfl, rfl, rfl, Or.inr ⟨⟨?_, rfl, Or.inr ⟨h, rfl, Or.inl ⟨rfl, rfl⟩⟩⟩, rfl⟩⟩
      simpa [stepA] using h
    · refine ⟨rfl, rfl, rfl, Or.inl ⟨?_, rfl, rfl, fun _ _ _ _ => rfl, Or.inr ⟨h, rfl⟩⟩⟩
      simpa [stepA] using h
  · refine ⟨?_, ?_, ?_, Or.inr ⟨⟨?_, ?_, Or.inr ⟨?_, ?_, Or.inr (Or.inl ⟨?_, ?_⟩)⟩⟩, ?_⟩⟩ <;> simp [stepA]
    exact h1
  · exact ⟨rfl, rfl, rfl, Or.inr ⟨⟨rfl, rfl, Or.inr ⟨h1, rfl, Or.inr (Or.inr (Or.inl ⟨rfl, rfl⟩))⟩⟩, rfl⟩⟩
  · exact ⟨rfl, rfl, rfl, Or.inr ⟨⟨rfl, rfl, Or.inr ⟨h1, rfl, Or.inr (Or.inr (Or.inr ⟨rfl, rfl⟩))⟩⟩, rfl⟩⟩
  · refine ⟨rfl, rfl, rfl, Or.inl ⟨rfl, rfl, by simp [stepA], fun x n1 n2 n3 => ?_, Or.inl ⟨h1, ?_, ?_, ?_⟩⟩⟩
    · simp only [stepA, Bool.false_eq_true, if_false]
      rw [getD_set (by simp; omega), if_neg (Ne.symm n1), getD_set (by simp; omega), if_neg (Ne.symm n3), getD_set (by simp; omega), if_neg (Ne.symm n2), getD_set (by omega), if_neg (Ne.symm n1)]
    · simp only [stepA, Bool.false_eq_true, if_false]
      rw [getD_set (by simp; omega), if_pos rfl]
    · simp only [stepA, Bool.false_eq_true, if_false]
      rw [getD_set (by simp; omega), if_neg (by omega), getD_set (by simp; omega), if_neg (by omega), getD_set (by simp; omega), if_pos rfl]
    · simp only [stepA, Bool.false_eq_true, if_false]
      rw [getD_set (by simp; omega), if_neg (by omega), getD_set (by simp; omega), if_pos rfl]

/-- a cache over its cells -/
structure CW (h : Heap) (c m mc base n : Nat) (cs : List Int) (ops fails : Int) : Prop where
  cac : CacIs h c m base n
  mem : MemIs h m mc cs ops fails
  d4 : c ≠ m
  d5 : c ≠ mc
  hn : 1 ≤ n
  hn2 : n ≤ 1024
  hc : base + 3 * n ≤ cs.length
  hl : cs.length < 1000000
theorem CW.only {h h' : Heap} {c m mc base n : Nat} {cs : List Int} {ops fails : Int} {S : List Nat} (W : CW h c m mc base n cs ops fails) (O : Only S h h') (h1 : c ∉ S) (h2 : m ∉ S) (h3 : mc ∉ S) : CW h' c m mc base n cs ops fails :=
  ⟨W.cac.only O h1, W.mem.only O h2 h3, W.d4, W.d5, W.hn, W.hn2, W.hc, W.hl⟩
theorem CW.pos {h : Heap} {c m mc base n : Nat} {cs : List Int} {ops fails : Int} (W : CW h c m mc base n cs ops fails) (key : Int) : lineOf base n key + 2 < cs.length := by
  have := home_lt key W.hn
  have := W.hc
  unfold lineOf
  omega
theorem CW.lt {h : Heap} {c m mc base n : Nat} {cs : List Int} {ops fails : Int} (W : CW h c m mc base n cs ops fails) : c < h.size ∧ m < h.size ∧ mc < h.size := ⟨At.lt W.cac, W.mem.head.lt, W.mem.body.lt⟩

section
variable {h0 h : Heap} {f c m mc base n : Nat} {cs : List Int} {ops fails : Int} {K : Value → Heap → Prop} {key val : Int}
theorem stepA_cw {A : Ac} (W : CW h c m mc base n cs ops fails) (H : ActIs h f m A) (hp : A.pos + 2 < cs.length) (hph : A.ph ≤ 8) (d1 : f ≠ c) (d2 : f ≠ m) (d3 : f ≠ mc)
    (hK : ∀ h' ops' fails', ActIs h' f m (stepA cs A).1 → CW h' c m mc base n (stepA cs A).2 ops' fails' → Only [f, m, mc] h h' → K (.bool (stepA cs A).1.done) h') :
    CallsH Tryz.prog 108 [.pointer (some ⟨f, 0, none⟩)] h K :=
  stepA_spec H W.mem hp (Nat.lt_trans W.hl (by decide)) hph d2 d3 fun h' ops' fails' a b O =>
    hK h' ops' fails' a ⟨W.cac.only O (by simp [d1.symm, W.d4, W.d5]), b, W.d4, W.d5, W.hn, W.hn2, by rw [stepA_len]; exact W.hc, by rw [stepA_len]; exact W.hl⟩ O

end
end Go.Proofs.YtnbnlhpleomaoaaGreat.Ev
/- SLICES OF A CALL's OWN, WINDOWS: one cell an element; appended to at the end, cut at either end. Conditions: the slice stands (Win). -/
namespace Go.Proofs.YtnbnlhpleomaoaaGreat.Ev
open Go
/-- a slice of one-cell elements cs, a window of a block of the call's own behind lo, or none yet -/
def Win (h : Heap) (lo : Nat) (p : Option Addr) (l c : Nat) (cs : List Value) : Prop :=
  cs.length = l ∧ ((p = none ∧ l = 0 ∧ c = 0) ∨ ∃ b o, p = some ⟨b, o, none⟩ ∧ lo ≤ b ∧ b < h.size ∧ ((l = 0 ∧ c = 0) ∨ ∃ pre sp : List Value, pre.length = o ∧ l ≤ c ∧ sp.length = c - l ∧ At h b (pre ++ cs ++ sp)))
theorem Win.nil (h : Heap) (lo : Nat) : Win h lo none 0 0 [] := ⟨rfl, Or.inl ⟨rfl, rfl, rfl⟩⟩
theorem Win.only {S : List Nat} {h h' : Heap} {lo : Nat} {p : Option Addr} {l c : Nat} {cs : List Value} (H : Win h lo p l c cs) (O : Only S h h') (hS : ∀ b ∈ OwnB p, b ∉ S) : Win h' lo p l c cs := by
  obtain ⟨e, H⟩ := H
  rcases H with H | ⟨b, o, h1, h2, h3, H⟩
  · exact ⟨e, Or.inl H⟩
  · refine ⟨e, Or.inr ⟨b, o, h1, h2, Nat.lt_of_lt_of_le h3 O.size, ?_⟩⟩
    rcases H with H | ⟨pre, sp, h4, h5, h6, h7⟩
    · exact Or.inl H
    · exact Or.inr ⟨pre, sp, h4, h5, h6, h7.only O (hS b (by rw [h1]; simp [OwnB]))⟩
theorem Win.lt {h : Heap} {lo : Nat} {p : Option Addr} {l c : Nat} {cs : List Value} (H : Win h lo p l c cs) : ∀ b ∈ OwnB p, lo ≤ b ∧ b < h.size := by
  obtain ⟨-, H⟩ := H
  rcases H with ⟨e, -⟩ | ⟨b, o, h1, h2, h3, -⟩
  · subst e; simp [OwnB]
  · subst h1
    intro x hx
    simp [OwnB] at hx
    subst hx
    exact ⟨h2, h3⟩
theorem Win.rd {h : Heap} {lo : Nat} {p : Option Addr} {l c : Nat} {cs : List Value} (H : Win h lo p l c cs) {j : Nat} (hj : j < cs.length) : ∃ a, p = some a ∧ rd h (a.add j) = cs[j]? := by
  obtain ⟨e, H⟩ := H
  rcases H with ⟨-, h0, -⟩ | ⟨b, o, h1, h2, h3, ⟨h0, -⟩ | ⟨pre, sp, h4, h5, h6, h7⟩⟩
  · omega
  · omega
  · refine ⟨_, h1, ?_⟩
    rw [add_mk, h7.rd, List.getElem?_append_left (by simp; omega), List.getElem?_append_right (by omega)]
    congr 1
    omega
theorem Win.cap {h : Heap} {lo : Nat} {p : Option Addr} {l c : Nat} {cs : List Value} (H : Win h lo p l c cs) : l ≤ c := by
  obtain ⟨e, H⟩ := H
  rcases H with ⟨-, h0, h1⟩ | ⟨b, o, h1, h2, h3, ⟨h0, h4⟩ | ⟨pre, sp, h4, h5, h6, h7⟩⟩
  · omega
  · omega
  · exact h5
/-- the last one goes -/
theorem Win.pop {h : Heap} {lo : Nat} {p : Option Addr} {l c : Nat} {cs : List Value} {v : Value} (H : Win h lo p (l + 1) c (cs ++ [v])) : Win h lo (if c = 0 then p else Option.map (fun a => Addr.add a (0 * 1)) p) l c cs := by
  have ep : (if c = 0 then p else Option.map (fun a => Addr.add a (0 * 1)) p) = p := by
    split
    · rfl
    · cases p with
      | none => rfl
      | some a => simp [Addr.add]
  rw [ep]
  obtain ⟨e, H⟩ := H
  rw [List.length_append, List.length_singleton] at e
  refine ⟨by omega, ?_⟩
  rcases H with ⟨-, h0, -⟩ | ⟨b, o, h1, h2, h3, ⟨h0, -⟩ | ⟨pre, sp, h4, h5, h6, h7⟩⟩
  · omega
  · omega
  · exact Or.inr ⟨b, o, h1, h2, h3, Or.inr ⟨pre, v :: sp, h4, by omega, by simp; omega, by simpa using h7⟩⟩
/-- the first one goes -/
theorem Win.tail {h : Heap} {lo : Nat} {p : Option Addr} {l c : Nat} {cs : List Value} {v : Value} (H : Win h lo p (l + 1) c (v :: cs)) : Win h lo (if c = 1 then p else Option.map (fun a => Addr.add a (1 * 1)) p) l (c - 1) cs := by
  obtain ⟨e, H⟩ := H
  rw [List.length_cons] at e
  refine ⟨by omega, ?_⟩
  rcases H with ⟨-, h0, -⟩ | ⟨b, o, h1, h2, h3, ⟨h0, -⟩ | ⟨pre, sp, h4, h5, h6, h7⟩⟩
  · omega
  · omega
  · by_cases hc : c = 1
    · rw [if_pos hc]
      exact Or.inr ⟨b, o, h1, h2, h3, Or.inl ⟨by omega, by omega⟩⟩
    · rw [if_neg hc, h1]
      refine Or.inr ⟨b, o + 1, by simp, h2, h3, Or.inr ⟨pre ++ [v], sp, by simp [h4], by omega, by omega, by simpa using h7⟩⟩
end Go.Proofs.YtnbnlhpleomaoaaGreat.Ev
