/- PRINTED BY PROGRAM: what each of these functions does, computed over heaps by the evaluator, and that its calls do so. Conditions: none. -/
import Derived.Test.YtipckkeaoncjiaaTX3
namespace Go.Proofs.Ytipckkeaoncjiaa.Ev
open Go
-- spinney/refs.New
namespace F28
def T : Hint := ⟨[], []⟩
noncomputable def body : Code := (Try.f28.body).getD .skip
def J0 (x0 : Int) (h : Heap) (K : Value → Heap → Prop) : Prop :=
  newK h (.map #[] 0) (fun b1 h2 => (0 ≤ (if (4 : Int) < (if (1 : Int) > x0 then (1 : Int) else x0) then (4 : Int) else (if (1 : Int) > x0 then (1 : Int) else x0)) ∧ (if (4 : Int) < (if (1 : Int) > x0 then (1 : Int) else x0) then (4 : Int) else (if (1 : Int) > x0 then (1 : Int) else x0)) ≤ (if (4 : Int) < (if (1 : Int) > x0 then (1 : Int) else x0) then (4 : Int) else (if (1 : Int) > x0 then (1 : Int) else x0)) ∧ ((Nat.cast 24 : Int) * (if (4 : Int) < (if (1 : Int) > x0 then (1 : Int) else x0) then (4 : Int) else (if (1 : Int) > x0 then (1 : Int) else x0)) ≤ 281474976710656) ∧ (if (4 : Int) < (if (1 : Int) > x0 then (1 : Int) else x0) then (4 : Int) else (if (1 : Int) > x0 then (1 : Int) else x0)) ≤ 9223372036854775807 ∧ newK h2 (.cells (madeCells #[(.slice none 0 0)] (Int.toNat (if (4 : Int) < (if (1 : Int) > x0 then (1 : Int) else x0) then (4 : Int) else (if (1 : Int) > x0 then (1 : Int) else x0)) * 1)) 61) (fun b3 h4 => newK h4 (.cells #[(.map (some b1)), (.slice (some (Addr.mk b3 0 none)) (Int.toNat (if (4 : Int) < (if (1 : Int) > x0 then (1 : Int) else x0) then (4 : Int) else (if (1 : Int) > x0 then (1 : Int) else x0))) (Int.toNat (if (4 : Int) < (if (1 : Int) > x0 then (1 : Int) else x0) then (4 : Int) else (if (1 : Int) > x0 then (1 : Int) else x0))))] 99) (fun b5 h6 => K (.pointer (some (Addr.mk b5 0 none))) h6))))
theorem E0 (S : Stop) (x0 : Int) (h : Heap) (K : Value → Heap → Prop) :
    (E Try.prog X T S body (fin Try.prog Try.f28.results.toList K) (args0 0 [(.int .i64 x0)]) h) = J0 x0 h K := by kernel_rfl
def w (x0 : Int) (h : Heap) (K : Value → Heap → Prop) : Prop :=
  J0 x0 h K
theorem e0 (K : Value → Heap → Prop) (x0 : Int) (h : Heap) : (E Try.prog X T S0 body (fin Try.prog Try.f28.results.toList K) (args0 0 [(.int .i64 x0)]) h) = w x0 h K :=
  (E0 S0 x0 h K).trans (rfl)
theorem hb : Try.f28.body = some body := by kernel_rfl
theorem ok : okCode T Try.f28.ntmps body = true := by kernel_rfl
theorem spec (x0 : Int) (h : Heap) (K : Value → Heap → Prop) (H : w x0 h K) : CallsH Try.prog 28 [(.int .i64 x0)] h K :=
  calls_of_E (T := T) Xok mix Try.func28 hb ok rfl (by rw [e0]; exact H)
end F28
-- (*spinney/refs.Refs).Push
namespace F29
def T : Hint := ⟨[], [(3, [[(0, []), (1, []), (2, []), (3, []), (4, []), (5, []), (6, []), (7, []), (8, []), (9, []), (10, []), (11, []), (12, []), (13, [0, 1, 2, 3, 4, 5, 6, 7, 8, 9, 10, 11]), (14, [0, 1, 2, 3, 4]), (15, []), (16, [])]])]⟩
noncomputable def body : Code := (Try.f29.body).getD .skip
def J0 (x0 : Addr) (x1 : Int) (x2 : Int) (h : Heap) (K : Value → Heap → Prop) : Prop :=
  bcase (decide (x1 < (0 : Int))) (K (.bool false) h) (ldS (rd h (Addr.add x0 1)) (fun _ l2 _ => bcase (decide (x1 ≥ (Nat.cast l2 : Int))) (K (.bool false) h) (ldS (rd h (Addr.add x0 1)) (fun p4 l5 c6 => ldS (rd h (Addr.add x0 1)) (fun p7 l8 c9 => ptrK p7 (fun a10 => (0 ≤ x1 ∧ x1 < (Nat.cast l8 : Int) ∧ ldS (rd h (Addr.add a10 (Int.toNat x1 * 1))) (fun p11 l12 c13 => newK h (.cells #[(.int .u32 x2)] 58) (fun b14 h15 => ((.pointer (some x0)) = ((.pointer (some x0)) : Value) ∧ ((.pointer (some x0)) = ((.pointer (some x0)) : Value) ∧ ((.pointer (some (Addr.add x0 1))) = ((.pointer (some (Addr.add x0 1))) : Value) ∧ ldS (rd h15 (Addr.add x0 1)) (fun p16 l17 c18 => ((.slice p16 l17 c18) = ((.slice p4 l5 c6) : Value) ∧ ((.int .i64 x1) = ((.int .i64 x1) : Value) ∧ ((.pointer (some x0)) = ((.pointer (some x0)) : Value) ∧ ((.pointer (some x0)) = ((.pointer (some x0)) : Value) ∧ ((.pointer (some (Addr.add x0 1))) = ((.pointer (some (Addr.add x0 1))) : Value) ∧ ldS (rd h15 (Addr.add x0 1)) (fun p19 l20 c21 => ((.slice p19 l20 c21) = ((.slice p7 l8 c9) : Value) ∧ ((.int .i64 x1) = ((.int .i64 x1) : Value) ∧ ptrK p7 (fun a22 => (0 ≤ x1 ∧ x1 < (Nat.cast l8 : Int) ∧ ((.pointer (some (Addr.add a22 (Int.toNat x1 * 1)))) = ((.pointer (some (Addr.add a10 (Int.toNat x1 * 1)))) : Value) ∧ ldS (rd h15 (Addr.add a10 (Int.toNat x1 * 1))) (fun p23 l24 c25 => ((.slice p23 l24 c25) = ((.slice p11 l12 c13) : Value) ∧ appK h15 58 1 4 #[(.int .u32 (0 : Int))] p11 l12 c13 (some (Addr.mk b14 0 none)) 1 (fun p26 l27 c28 h29 => ((.pointer (some x0)) = ((.pointer (some x0)) : Value) ∧ ((.pointer (some x0)) = ((.pointer (some x0)) : Value) ∧ ((.pointer (some (Addr.add x0 1))) = ((.pointer (some (Addr.add x0 1))) : Value) ∧ ldS (rd h29 (Addr.add x0 1)) (fun p30 l31 c32 => ((.slice p30 l31 c32) = ((.slice p4 l5 c6) : Value) ∧ ((.int .i64 x1) = ((.int .i64 x1) : Value) ∧ ptrK p4 (fun a33 => (0 ≤ x1 ∧ x1 < (Nat.cast l5 : Int) ∧ stK h29 (Addr.add (Addr.add a33 (Int.toNat x1 * 1)) 0) (.slice p26 l27 c28) (fun h34 => K (.bool true) h34))))))))))))))))))))))))))))))))))))
theorem E0 (S : Stop) (x0 : Addr) (x1 : Int) (x2 : Int) (h : Heap) (K : Value → Heap → Prop) :
    (E Try.prog X T S body (fin Try.prog Try.f29.results.toList K) (args0 0 [(.pointer (some x0)), (.int .i64 x1), (.int .u32 x2)]) h) = J0 x0 x1 x2 h K := by kernel_rfl
def w (x0 : Addr) (x1 : Int) (x2 : Int) (h : Heap) (K : Value → Heap → Prop) : Prop :=
  J0 x0 x1 x2 h K
theorem e0 (K : Value → Heap → Prop) (x0 : Addr) (x1 : Int) (x2 : Int) (h : Heap) : (E Try.prog X T S0 body (fin Try.prog Try.f29.results.toList K) (args0 0 [(.pointer (some x0)), (.int .i64 x1), (.int .u32 x2)]) h) = w x0 x1 x2 h K :=
  (E0 S0 x0 x1 x2 h K).trans (rfl)
theorem hb : Try.f29.body = some body := by kernel_rfl
theorem ok : okCode T Try.f29.ntmps body = true := by kernel_rfl
theorem spec (x0 : Addr) (x1 : Int) (x2 : Int) (h : Heap) (K : Value → Heap → Prop) (H : w x0 x1 x2 h K) : CallsH Try.prog 29 [(.pointer (some x0)), (.int .i64 x1), (.int .u32 x2)] h K :=
  calls_of_E (T := T) Xok mix Try.func29 hb ok rfl (by rw [e0]; exact H)
end F29
-- (*spinney/refs.Refs).Pop
namespace F30
def T : Hint := ⟨[], [(5, [[(0, []), (1, []), (2, []), (3, []), (4, []), (5, []), (6, []), (7, []), (8, []), (9, []), (10, [])]])]⟩
noncomputable def body : Code := (Try.f30.body).getD .skip
def J0 (x0 : Addr) (x1 : Int) (h : Heap) (K : Value → Heap → Prop) : Prop :=
  CallsH Try.prog 31 [(.pointer (some x0)), (.int .i64 x1)] h (fun v1 h2 => ldI .i64 (some v1) (fun n3 => bcase (n3 == (0 : Int)) (K (.tuple #[(.int .u32 (0 : Int)), (.bool false)]) h2) (ldS (rd h2 (Addr.add x0 1)) (fun p4 l5 _ => ptrK p4 (fun a7 => (0 ≤ x1 ∧ x1 < (Nat.cast l5 : Int) ∧ ldS (rd h2 (Addr.add a7 (Int.toNat x1 * 1))) (fun p8 l9 c10 => ldS (rd h2 (Addr.add x0 1)) (fun p11 l12 _ => (0 ≤ (IntKind.wrap .i64 (n3 - (1 : Int))) ∧ (IntKind.wrap .i64 (n3 - (1 : Int))) ≤ (Nat.cast c10 : Int) ∧ ptrK p11 (fun a14 => (0 ≤ x1 ∧ x1 < (Nat.cast l12 : Int) ∧ stK h2 (Addr.add (Addr.add a14 (Int.toNat x1 * 1)) 0) (.slice (if c10 = 0 then p8 else Option.map (fun a => Addr.add a (0 * 1)) p8) (Int.toNat (IntKind.wrap .i64 (n3 - (1 : Int))) - 0) (c10 - 0)) (fun h15 => ptrK p8 (fun a16 => (0 ≤ (IntKind.wrap .i64 (n3 - (1 : Int))) ∧ (IntKind.wrap .i64 (n3 - (1 : Int))) < (Nat.cast l9 : Int) ∧ ldI .u32 (rd h15 (Addr.add a16 (Int.toNat (IntKind.wrap .i64 (n3 - (1 : Int))) * 1))) (fun n17 => K (.tuple #[(.int .u32 n17), (.bool true)]) h15)))))))))))))))
theorem E0 (S : Stop) (x0 : Addr) (x1 : Int) (h : Heap) (K : Value → Heap → Prop) :
    (E Try.prog X T S body (fin Try.prog Try.f30.results.toList K) (args0 0 [(.pointer (some x0)), (.int .i64 x1)]) h) = J0 x0 x1 h K := by kernel_rfl
def w (x0 : Addr) (x1 : Int) (h : Heap) (K : Value → Heap → Prop) : Prop :=
  J0 x0 x1 h K
theorem e0 (K : Value → Heap → Prop) (x0 : Addr) (x1 : Int) (h : Heap) : (E Try.prog X T S0 body (fin Try.prog Try.f30.results.toList K) (args0 0 [(.pointer (some x0)), (.int .i64 x1)]) h) = w x0 x1 h K :=
  (E0 S0 x0 x1 h K).trans (rfl)
theorem hb : Try.f30.body = some body := by kernel_rfl
theorem ok : okCode T Try.f30.ntmps body = true := by kernel_rfl
theorem spec (x0 : Addr) (x1 : Int) (h : Heap) (K : Value → Heap → Prop) (H : w x0 x1 h K) : CallsH Try.prog 30 [(.pointer (some x0)), (.int .i64 x1)] h K :=
  calls_of_E (T := T) Xok mix Try.func30 hb ok rfl (by rw [e0]; exact H)
end F30
-- (*spinney/refs.Refs).Depth
namespace F31
def T : Hint := ⟨[], []⟩
noncomputable def body : Code := (Try.f31.body).getD .skip
def J0 (x0 : Addr) (x1 : Int) (h : Heap) (K : Value → Heap → Prop) : Prop :=
  bcase (decide (x1 < (0 : Int))) (K (.int .i64 (0 : Int)) h) (ldS (rd h (Addr.add x0 1)) (fun _ l2 _ => bcase (decide (x1 ≥ (Nat.cast l2 : Int))) (K (.int .i64 (0 : Int)) h) (ldS (rd h (Addr.add x0 1)) (fun p4 l5 _ => ptrK p4 (fun a7 => (0 ≤ x1 ∧ x1 < (Nat.cast l5 : Int) ∧ ldS (rd h (Addr.add a7 (Int.toNat x1 * 1))) (fun _ l9 _ => K (.int .i64 (Nat.cast l9 : Int)) h)))))))
theorem E0 (S : Stop) (x0 : Addr) (x1 : Int) (h : Heap) (K : Value → Heap → Prop) :
    (E Try.prog X T S body (fin Try.prog Try.f31.results.toList K) (args0 0 [(.pointer (some x0)), (.int .i64 x1)]) h) = J0 x0 x1 h K := by kernel_rfl
def w (x0 : Addr) (x1 : Int) (h : Heap) (K : Value → Heap → Prop) : Prop :=
  J0 x0 x1 h K
theorem e0 (K : Value → Heap → Prop) (x0 : Addr) (x1 : Int) (h : Heap) : (E Try.prog X T S0 body (fin Try.prog Try.f31.results.toList K) (args0 0 [(.pointer (some x0)), (.int .i64 x1)]) h) = w x0 x1 h K :=
  (E0 S0 x0 x1 h K).trans (rfl)
theorem hb : Try.f31.body = some body := by kernel_rfl
theorem ok : okCode T Try.f31.ntmps body = true := by kernel_rfl
theorem spec (x0 : Addr) (x1 : Int) (h : Heap) (K : Value → Heap → Prop) (H : w x0 x1 h K) : CallsH Try.prog 31 [(.pointer (some x0)), (.int .i64 x1)] h K :=
  calls_of_E (T := T) Xok mix Try.func31 hb ok rfl (by rw [e0]; exact H)
end F31
-- (*spinney/refs.Refs).Roots
namespace F32
def T : Hint := ⟨[(3, [3, 15, 16, 17]), (7, [3])], []⟩
noncomputable def body : Code := (Try.f32.body).getD .skip
def c0 (S : Stop) (K : Value → Heap → Prop) : Exit → Fr → Heap → Prop := seqN S (cutQ T (sub body [1, 1, 1])) (E Try.prog X T S (sub body [1, 1, 1]) (fin Try.prog Try.f32.results.toList K)) (fin Try.prog Try.f32.results.toList K)
def c1 (S : Stop) (K : Value → Heap → Prop) : Exit → Fr → Heap → Prop := blockN 0 (c0 S K)
def c2 (S : Stop) (n3 : Nat) (K : Value → Heap → Prop) : Exit → Fr → Heap → Prop := backN S (cutQ T (sub body [1, 1, 0, 1, 0, 0])) (loopN S (E Try.prog X T S (sub body [1, 1, 0, 1, 0, 0])) (cutQ T (sub body [1, 1, 0, 1, 0, 0])) (c1 S K) n3) (c1 S K)
def J0 (k3 : (Option Addr) → Nat → Nat → (Option Addr) → Nat → Nat → Int → Int → Heap → Prop) (x0 : Addr) (h : Heap) (_K : Value → Heap → Prop) : Prop :=
  ldM (rd h (Addr.add x0 0)) (fun r1 => CallsH Try.prog 49 [(.map r1)] h (fun v2 h3 => ldV (some v2) (fun v4 => CallsH Try.prog 48 [v4] h3 (fun v5 h6 => ldS (some v5) (fun p7 l8 c9 => ldS (rd h6 (Addr.add x0 1)) (fun p10 l11 c12 => k3 p7 l8 c9 p10 l11 c12 (Nat.cast l11 : Int) (0 : Int) h6))))))
theorem E0 (S : Stop) (x0 : Addr) (h : Heap) (K : Value → Heap → Prop) :
    (E Try.prog X T S body (fin Try.prog Try.f32.results.toList K) (args0 0 [(.pointer (some x0))]) h) = J0 (fun x3p x3l x3c x15p x15l x15c x16 x17 h => S (E Try.prog X T S (sub body [1, 1, 0, 1]) (c0 S K)) [(3, (.slice x3p x3l x3c)), (15, (.slice x15p x15l x15c)), (16, (.int .i64 x16)), (17, (.int .i64 x17))] h) x0 h K := by kernel_rfl
def Jk3 (lp3 : (Option Addr) → Nat → Nat → (Option Addr) → Nat → Nat → Int → Int → Heap → Prop) (x3p : Option Addr) (x3l : Nat) (x3c : Nat) (x15p : Option Addr) (x15l : Nat) (x15c : Nat) (x16 : Int) (x17 : Int) (h : Heap) (_K : Value → Heap → Prop) : Prop :=
  lp3 x3p x3l x3c x15p x15l x15c x16 x17 h
theorem Ek3 (S : Stop) (x3p : Option Addr) (x3l : Nat) (x3c : Nat) (x15p : Option Addr) (x15l : Nat) (x15c : Nat) (x16 : Int) (x17 : Int) (h : Heap) (K : Value → Heap → Prop) :
    (E Try.prog X T S (sub body [1, 1, 0, 1]) (c0 S K) [(3, (.slice x3p x3l x3c)), (15, (.slice x15p x15l x15c)), (16, (.int .i64 x16)), (17, (.int .i64 x17))] h) = Jk3 (fun x3p x3l x3c x15p x15l x15c x16 x17 h => ∃ n, S (loopN S (E Try.prog X T S (sub body [1, 1, 0, 1, 0, 0])) (cutQ T (sub body [1, 1, 0, 1, 0, 0])) (c1 S K) n) [(3, (.slice x3p x3l x3c)), (15, (.slice x15p x15l x15c)), (16, (.int .i64 x16)), (17, (.int .i64 x17))] h) x3p x3l x3c x15p x15l x15c x16 x17 h K := by kernel_rfl
def JL3 (bk3 : (Option Addr) → Nat → Nat → (Option Addr) → Nat → Nat → Int → Int → Heap → Prop) (k7 : (Option Addr) → Nat → Nat → Heap → Prop) (x3p : Option Addr) (x3l : Nat) (x3c : Nat) (x15p : Option Addr) (x15l : Nat) (x15c : Nat) (x16 : Int) (x17 : Int) (h : Heap) (_K : Value → Heap → Prop) : Prop :=
  bcase (decide (x17 < x16)) (ptrK x15p (fun a1 => (0 ≤ x17 ∧ x17 < (Nat.cast x15l : Int) ∧ ldS (rd h (Addr.add a1 (Int.toNat x17 * 1))) (fun p2 l3 _ => appK h 58 1 4 #[(.int .u32 (0 : Int))] x3p x3l x3c p2 l3 (fun p5 l6 c7 h8 => bk3 p5 l6 c7 x15p x15l x15c x16 (IntKind.wrap .i64 (x17 + (1 : Int))) h8))))) (k7 x3p x3l x3c h)
theorem EL3 (S : Stop) (n3 : Nat) (x3p : Option Addr) (x3l : Nat) (x3c : Nat) (x15p : Option Addr) (x15l : Nat) (x15c : Nat) (x16 : Int) (x17 : Int) (h : Heap) (K : Value → Heap → Prop) :
    (E Try.prog X T S (sub body [1, 1, 0, 1, 0, 0]) (c2 S n3 K) [(3, (.slice x3p x3l x3c)), (15, (.slice x15p x15l x15c)), (16, (.int .i64 x16)), (17, (.int .i64 x17))] h) = JL3 (fun x3p x3l x3c x15p x15l x15c x16 x17 h => S (loopN S (E Try.prog X T S (sub body [1, 1, 0, 1, 0, 0])) (cutQ T (sub body [1, 1, 0, 1, 0, 0])) (c1 S K) n3) [(3, (.slice x3p x3l x3c)), (15, (.slice x15p x15l x15c)), (16, (.int .i64 x16)), (17, (.int .i64 x17))] h) (fun x3p x3l x3c h => S (E Try.prog X T S (sub body [1, 1, 1]) (fin Try.prog Try.f32.results.toList K)) [(3, (.slice x3p x3l x3c))] h) x3p x3l x3c x15p x15l x15c x16 x17 h K := by kernel_rfl
def Jk7 (x3p : Option Addr) (x3l : Nat) (x3c : Nat) (h : Heap) (K : Value → Heap → Prop) : Prop :=
  CallsH Try.prog 50 [(.slice x3p x3l x3c)] h (fun v1 h2 => (v1 = (.tuple #[]) ∧ CallsH Try.prog 51 [(.slice x3p x3l x3c)] h2 (fun v3 h4 => ldS (some v3) (fun p5 l6 c7 => CallsH Try.prog 52 [(.slice p5 l6 c7), (.func (.func 53) #[] #[])] h4 (fun v8 h9 => ldS (some v8) (fun p10 l11 c12 => K (.slice p10 l11 c12) h9))))))
theorem Ek7 (S : Stop) (x3p : Option Addr) (x3l : Nat) (x3c : Nat) (h : Heap) (K : Value → Heap → Prop) :
    (E Try.prog X T S (sub body [1, 1, 1]) (fin Try.prog Try.f32.results.toList K) [(3, (.slice x3p x3l x3c))] h) = Jk7 x3p x3l x3c h K := by kernel_rfl
def wk7 (x3p : Option Addr) (x3l : Nat) (x3c : Nat) (h : Heap) (K : Value → Heap → Prop) : Prop :=
  Jk7 x3p x3l x3c h K
theorem ek7 (K : Value → Heap → Prop) (x3p : Option Addr) (x3l : Nat) (x3c : Nat) (h : Heap) : (E Try.prog X T S0 (sub body [1, 1, 1]) (fin Try.prog Try.f32.results.toList K) [(3, (.slice x3p x3l x3c))] h) = wk7 x3p x3l x3c h K :=
  (Ek7 S0 x3p x3l x3c h K).trans (rfl)
def wL3 : Nat → (Option Addr) → Nat → Nat → (Option Addr) → Nat → Nat → Int → Int → Heap → (Value → Heap → Prop) → Prop
  | 0, _, _, _, _, _, _, _, _, _, _ => False
  | n + 1, x3p, x3l, x3c, x15p, x15l, x15c, x16, x17, h, K => JL3 (fun x3p x3l x3c x15p x15l x15c x16 x17 h => wL3 n x3p x3l x3c x15p x15l x15c x16 x17 h K) (fun x3p x3l x3c h => wk7 x3p x3l x3c h K) x3p x3l x3c x15p x15l x15c x16 x17 h K
theorem eL3 (K : Value → Heap → Prop) : ∀ (n : Nat) (x3p : Option Addr) (x3l : Nat) (x3c : Nat) (x15p : Option Addr) (x15l : Nat) (x15c : Nat) (x16 : Int) (x17 : Int) (h : Heap), (loopN S0 (E Try.prog X T S0 (sub body [1, 1, 0, 1, 0, 0])) (cutQ T (sub body [1, 1, 0, 1, 0, 0])) (c1 S0 K) n [(3, (.slice x3p x3l x3c)), (15, (.slice x15p x15l x15c)), (16, (.int .i64 x16)), (17, (.int .i64 x17))] h) = wL3 n x3p x3l x3c x15p x15l x15c x16 x17 h K
  | 0, _, _, _, _, _, _, _, _, _ => rfl
  | n + 1, x3p, x3l, x3c, x15p, x15l, x15c, x16, x17, h => (EL3 S0 n x3p x3l x3c x15p x15l x15c x16 x17 h K).trans (congrFun (congrFun (congrFun (congrFun (congrFun (congrFun (congrFun (congrFun (congrFun (congrFun (congr (congrArg JL3 (funext fun x3p => funext fun x3l => funext fun x3c => funext fun x15p => funext fun x15l => funext fun x15c => funext fun x16 => funext fun x17 => funext fun h => (fun x3p x3l x3c x15p x15l x15c x16 x17 h => eL3 K n x3p x3l x3c x15p x15l x15c x16 x17 h) x3p x3l x3c x15p x15l x15c x16 x17 h)) (funext fun x3p => funext fun x3l => funext fun x3c => funext fun h => ek7 K x3p x3l x3c h)) x3p) x3l) x3c) x15p) x15l) x15c) x16) x17) h) K)
def wk3 (x3p : Option Addr) (x3l : Nat) (x3c : Nat) (x15p : Option Addr) (x15l : Nat) (x15c : Nat) (x16 : Int) (x17 : Int) (h : Heap) (K : Value → Heap → Prop) : Prop :=
  Jk3 (fun x3p x3l x3c x15p x15l x15c x16 x17 h => ∃ n, wL3 n x3p x3l x3c x15p x15l x15c x16 x17 h K) x3p x3l x3c x15p x15l x15c x16 x17 h K
theorem ek3 (K : Value → Heap → Prop) (x3p : Option Addr) (x3l : Nat) (x3c : Nat) (x15p : Option Addr) (x15l : Nat) (x15c : Nat) (x16 : Int) (x17 : Int) (h : Heap) : (E Try.prog X T S0 (sub body [1, 1, 0, 1]) (c0 S0 K) [(3, (.slice x3p x3l x3c)), (15, (.slice x15p x15l x15c)), (16, (.int .i64 x16)), (17, (.int .i64 x17))] h) = wk3 x3p x3l x3c x15p x15l x15c x16 x17 h K :=
  (Ek3 S0 x3p x3l x3c x15p x15l x15c x16 x17 h K).trans (congrFun (congrFun (congrFun (congrFun (congrFun (congrFun (congrFun (congrFun (congrFun (congrFun (congrArg Jk3 (funext fun x3p => funext fun x3l => funext fun x3c => funext fun x15p => funext fun x15l => funext fun x15c => funext fun x16 => funext fun x17 => funext fun h => congrArg (fun p : Nat → Prop => ∃ n, p n) (funext fun n => eL3 K n x3p x3l x3c x15p x15l x15c x16 x17 h))) x3p) x3l) x3c) x15p) x15l) x15c) x16) x17) h) K)
def w (x0 : Addr) (h : Heap) (K : Value → Heap → Prop) : Prop :=
  J0 (fun x3p x3l x3c x15p x15l x15c x16 x17 h => wk3 x3p x3l x3c x15p x15l x15c x16 x17 h K) x0 h K
theorem e0 (K : Value → Heap → Prop) (x0 : Addr) (h : Heap) : (E Try.prog X T S0 body (fin Try.prog Try.f32.results.toList K) (args0 0 [(.pointer (some x0))]) h) = w x0 h K :=
  (E0 S0 x0 h K).trans (congrFun (congrFun (congrFun (congrArg J0 (funext fun x3p => funext fun x3l => funext fun x3c => funext fun x15p => funext fun x15l => funext fun x15c => funext fun x16 => funext fun x17 => funext fun h => ek3 K x3p x3l x3c x15p x15l x15c x16 x17 h)) x0) h) K)
theorem hb : Try.f32.body = some body := by kernel_rfl
theorem ok : okCode T Try.f32.ntmps body = true := by kernel_rfl
theorem spec (x0 : Addr) (h : Heap) (K : Value → Heap → Prop) (H : w x0 h K) : CallsH Try.prog 32 [(.pointer (some x0))] h K :=
  calls_of_E (T := T) Xok mix Try.func32 hb ok rfl (by rw [e0]; exact H)
end F32
-- (*spinney/refs.Refs).Protect
namespace F33
def T : Hint := ⟨[], []⟩
noncomputable def body : Code := (Try.f33.body).getD .skip
def J0 (x0 : Addr) (x1 : Int) (h : Heap) (K : Value → Heap → Prop) : Prop :=
  ldM (rd h (Addr.add x0 0)) (fun r1 => lookK h r1 .u32 .u32 x1 (fun o2 => ldI .i64 (some (lkV (.int .i64 (0 : Int)) o2)) (fun n3 => updK h r1 .u32 .u32 x1 (.int .i64 (IntKind.wrap .i64 (n3 + (1 : Int)))) (fun h4 => K (.tuple #[]) h4))))
theorem E0 (S : Stop) (x0 : Addr) (x1 : Int) (h : Heap) (K : Value → Heap → Prop) :
    (E Try.prog X T S body (fin Try.prog Try.f33.results.toList K) (args0 0 [(.pointer (some x0)), (.int .u32 x1)]) h) = J0 x0 x1 h K := by kernel_rfl
def w (x0 : Addr) (x1 : Int) (h : Heap) (K : Value → Heap → Prop) : Prop :=
  J0 x0 x1 h K
theorem e0 (K : Value → Heap → Prop) (x0 : Addr) (x1 : Int) (h : Heap) : (E Try.prog X T S0 body (fin Try.prog Try.f33.results.toList K) (args0 0 [(.pointer (some x0)), (.int .u32 x1)]) h) = w x0 x1 h K :=
  (E0 S0 x0 x1 h K).trans (rfl)
theorem hb : Try.f33.body = some body := by kernel_rfl
theorem ok : okCode T Try.f33.ntmps body = true := by kernel_rfl
theorem spec (x0 : Addr) (x1 : Int) (h : Heap) (K : Value → Heap → Prop) (H : w x0 x1 h K) : CallsH Try.prog 33 [(.pointer (some x0)), (.int .u32 x1)] h K :=
  calls_of_E (T := T) Xok mix Try.func33 hb ok rfl (by rw [e0]; exact H)
end F33
-- (*spinney/refs.Refs).Count
namespace F34
def T : Hint := ⟨[], []⟩
noncomputable def body : Code := (Try.f34.body).getD .skip
def J0 (x0 : Addr) (x1 : Int) (h : Heap) (K : Value → Heap → Prop) : Prop :=
  ldM (rd h (Addr.add x0 0)) (fun r1 => lookK h r1 .u32 .u32 x1 (fun o2 => ldI .i64 (some (lkV (.int .i64 (0 : Int)) o2)) (fun n3 => K (.int .i64 n3) h)))
theorem E0 (S : Stop) (x0 : Addr) (x1 : Int) (h : Heap) (K : Value → Heap → Prop) :
    (E Try.prog X T S body (fin Try.prog Try.f34.results.toList K) (args0 0 [(.pointer (some x0)), (.int .u32 x1)]) h) = J0 x0 x1 h K := by kernel_rfl
def w (x0 : Addr) (x1 : Int) (h : Heap) (K : Value → Heap → Prop) : Prop :=
  J0 x0 x1 h K
theorem e0 (K : Value → Heap → Prop) (x0 : Addr) (x1 : Int) (h : Heap) : (E Try.prog X T S0 body (fin Try.prog Try.f34.results.toList K) (args0 0 [(.pointer (some x0)), (.int .u32 x1)]) h) = w x0 x1 h K :=
  (E0 S0 x0 x1 h K).trans (rfl)
theorem hb : Try.f34.body = some body := by kernel_rfl
theorem ok : okCode T Try.f34.ntmps body = true := by kernel_rfl
theorem spec (x0 : Addr) (x1 : Int) (h : Heap) (K : Value → Heap → Prop) (H : w x0 x1 h K) : CallsH Try.prog 34 [(.pointer (some x0)), (.int .u32 x1)] h K :=
  calls_of_E (T := T) Xok mix Try.func34 hb ok rfl (by rw [e0]; exact H)
end F34
-- (*spinney/refs.Refs).All
namespace F35
def T : Hint := ⟨[(3, [0, 3, 11, 12, 13])], []⟩
noncomputable def body : Code := (Try.f35.body).getD .skip
def c0 (S : Stop) (K : Value → Heap → Prop) : Exit → Fr → Heap → Prop := seqN S (cutQ T (sub body [1, 1, 1])) (E Try.prog X T S (sub body [1, 1, 1]) (fin Try.prog Try.f35.results.toList K)) (fin Try.prog Try.f35.results.toList K)
def c1 (S : Stop) (K : Value → Heap → Prop) : Exit → Fr → Heap → Prop := blockN 0 (c0 S K)
def c2 (S : Stop) (n3 : Nat) (K : Value → Heap → Prop) : Exit → Fr → Heap → Prop := backN S (cutQ T (sub body [1, 1, 0, 1, 0, 0])) (loopN S (E Try.prog X T S (sub body [1, 1, 0, 1, 0, 0])) (cutQ T (sub body [1, 1, 0, 1, 0, 0])) (c1 S K) n3) (c1 S K)
def J0 (k3 : Addr → (Option Addr) → Nat → Nat → (Option Addr) → Nat → Nat → Int → Int → Heap → Prop) (x0 : Addr) (h : Heap) (_K : Value → Heap → Prop) : Prop :=
  ldM (rd h (Addr.add x0 0)) (fun r1 => CallsH Try.prog 49 [(.map r1)] h (fun v2 h3 => ldV (some v2) (fun v4 => CallsH Try.prog 54 [v4] h3 (fun v5 h6 => ldS (some v5) (fun p7 l8 c9 => k3 x0 none 0 0 p7 l8 c9 (Nat.cast l8 : Int) (0 : Int) h6)))))
theorem E0 (S : Stop) (x0 : Addr) (h : Heap) (K : Value → Heap → Prop) :
    (E Try.prog X T S body (fin Try.prog Try.f35.results.toList K) (args0 0 [(.pointer (some x0))]) h) = J0 (fun x0 x3p x3l x3c x11p x11l x11c x12 x13 h => S (E Try.prog X T S (sub body [1, 1, 0, 1]) (c0 S K)) [(0, (.pointer (some x0))), (3, (.slice x3p x3l x3c)), (11, (.slice x11p x11l x11c)), (12, (.int .i64 x12)), (13, (.int .i64 x13))] h) x0 h K := by kernel_rfl
def Jk3 (lp3 : Addr → (Option Addr) → Nat → Nat → (Option Addr) → Nat → Nat → Int → Int → Heap → Prop) (x0 : Addr) (x3p : Option Addr) (x3l : Nat) (x3c : Nat) (x11p : Option Addr) (x11l : Nat) (x11c : Nat) (x12 : Int) (x13 : Int) (h : Heap) (_K : Value → Heap → Prop) : Prop :=
  lp3 x0 x3p x3l x3c x11p x11l x11c x12 x13 h
theorem Ek3 (S : Stop) (x0 : Addr) (x3p : Option Addr) (x3l : Nat) (x3c : Nat) (x11p : Option Addr) (x11l : Nat) (x11c : Nat) (x12 : Int) (x13 : Int) (h : Heap) (K : Value → Heap → Prop) :
    (E Try.prog X T S (sub body [1, 1, 0, 1]) (c0 S K) [(0, (.pointer (some x0))), (3, (.slice x3p x3l x3c)), (11, (.slice x11p x11l x11c)), (12, (.int .i64 x12)), (13, (.int .i64 x13))] h) = Jk3 (fun x0 x3p x3l x3c x11p x11l x11c x12 x13 h => ∃ n, S (loopN S (E Try.prog X T S (sub body [1, 1, 0, 1, 0, 0])) (cutQ T (sub body [1, 1, 0, 1, 0, 0])) (c1 S K) n) [(0, (.pointer (some x0))), (3, (.slice x3p x3l x3c)), (11, (.slice x11p x11l x11c)), (12, (.int .i64 x12)), (13, (.int .i64 x13))] h) x0 x3p x3l x3c x11p x11l x11c x12 x13 h K := by kernel_rfl
def JL3 (bk3 : Addr → (Option Addr) → Nat → Nat → (Option Addr) → Nat → Nat → Int → Int → Heap → Prop) (x0 : Addr) (x3p : Option Addr) (x3l : Nat) (x3c : Nat) (x11p : Option Addr) (x11l : Nat) (x11c : Nat) (x12 : Int) (x13 : Int) (h : Heap) (K : Value → Heap → Prop) : Prop :=
  bcase (decide (x13 < x12)) (ptrK x11p (fun a1 => (0 ≤ x13 ∧ x13 < (Nat.cast x11l : Int) ∧ ldI .u32 (rd h (Addr.add a1 (Int.toNat x13 * 1))) (fun n2 => ldM (rd h (Addr.add x0 0)) (fun r3 => lookK h r3 .u32 .u32 n2 (fun o4 => ldI .i64 (some (lkV (.int .i64 (0 : Int)) o4)) (fun n5 => newK h (.cells #[(.int .u32 n2), (.int .i64 n5)] 74) (fun b6 h7 => appK h7 74 2 16 #[(.int .u32 (0 : Int)), (.int .i64 (0 : Int))] x3p x3l x3c (some (Addr.mk b6 0 none)) 1 (fun p8 l9 c10 h11 => bk3 x0 p8 l9 c10 x11p x11l x11c x12 (IntKind.wrap .i64 (x13 + (1 : Int))) h11))))))))) (K (.slice x3p x3l x3c) h)
theorem EL3 (S : Stop) (n3 : Nat) (x0 : Addr) (x3p : Option Addr) (x3l : Nat) (x3c : Nat) (x11p : Option Addr) (x11l : Nat) (x11c : Nat) (x12 : Int) (x13 : Int) (h : Heap) (K : Value → Heap → Prop) :
    (E Try.prog X T S (sub body [1, 1, 0, 1, 0, 0]) (c2 S n3 K) [(0, (.pointer (some x0))), (3, (.slice x3p x3l x3c)), (11, (.slice x11p x11l x11c)), (12, (.int .i64 x12)), (13, (.int .i64 x13))] h) = JL3 (fun x0 x3p x3l x3c x11p x11l x11c x12 x13 h => S (loopN S (E Try.prog X T S (sub body [1, 1, 0, 1, 0, 0])) (cutQ T (sub body [1, 1, 0, 1, 0, 0])) (c1 S K) n3) [(0, (.pointer (some x0))), (3, (.slice x3p x3l x3c)), (11, (.slice x11p x11l x11c)), (12, (.int .i64 x12)), (13, (.int .i64 x13))] h) x0 x3p x3l x3c x11p x11l x11c x12 x13 h K := by kernel_rfl
def wL3 : Nat → Addr → (Option Addr) → Nat → Nat → (Option Addr) → Nat → Nat → Int → Int → Heap → (Value → Heap → Prop) → Prop
  | 0, _, _, _, _, _, _, _, _, _, _, _ => False
  | n + 1, x0, x3p, x3l, x3c, x11p, x11l, x11c, x12, x13, h, K => JL3 (fun x0 x3p x3l x3c x11p x11l x11c x12 x13 h => wL3 n x0 x3p x3l x3c x11p x11l x11c x12 x13 h K) x0 x3p x3l x3c x11p x11l x11c x12 x13 h K
theorem eL3 (K : Value → Heap → Prop) : ∀ (n : Nat) (x0 : Addr) (x3p : Option Addr) (x3l : Nat) (x3c : Nat) (x11p : Option Addr) (x11l : Nat) (x11c : Nat) (x12 : Int) (x13 : Int) (h : Heap), (loopN S0 (E Try.prog X T S0 (sub body [1, 1, 0, 1, 0, 0])) (cutQ T (sub body [1, 1, 0, 1, 0, 0])) (c1 S0 K) n [(0, (.pointer (some x0))), (3, (.slice x3p x3l x3c)), (11, (.slice x11p x11l x11c)), (12, (.int .i64 x12)), (13, (.int .i64 x13))] h) = wL3 n x0 x3p x3l x3c x11p x11l x11c x12 x13 h K
  | 0, _, _, _, _, _, _, _, _, _, _ => rfl
  | n + 1, x0, x3p, x3l, x3c, x11p, x11l, x11c, x12, x13, h => (EL3 S0 n x0 x3p x3l x3c x11p x11l x11c x12 x13 h K).trans (congrFun (congrFun (congrFun (congrFun (congrFun (congrFun (congrFun (congrFun (congrFun (congrFun (congrFun (congrArg JL3 (funext fun x0 => funext fun x3p => funext fun x3l => funext fun x3c => funext fun x11p => funext fun x11l => funext fun x11c => funext fun x12 => funext fun x13 => funext fun h => (fun x0 x3p x3l x3c x11p x11l x11c x12 x13 h => eL3 K n x0 x3p x3l x3c x11p x11l x11c x12 x13 h) x0 x3p x3l x3c x11p x11l x11c x12 x13 h)) x0) x3p) x3l) x3c) x11p) x11l) x11c) x12) x13) h) K)
def wk3 (x0 : Addr) (x3p : Option Addr) (x3l : Nat) (x3c : Nat) (x11p : Option Addr) (x11l : Nat) (x11c : Nat) (x12 : Int) (x13 : Int) (h : Heap) (K : Value → Heap → Prop) : Prop :=
  Jk3 (fun x0 x3p x3l x3c x11p x11l x11c x12 x13 h => ∃ n, wL3 n x0 x3p x3l x3c x11p x11l x11c x12 x13 h K) x0 x3p x3l x3c x11p x11l x11c x12 x13 h K
theorem ek3 (K : Value → Heap → Prop) (x0 : Addr) (x3p : Option Addr) (x3l : Nat) (x3c : Nat) (x11p : Option Addr) (x11l : Nat) (x11c : Nat) (x12 : Int) (x13 : Int) (h : Heap) : (E Try.prog X T S0 (sub body [1, 1, 0, 1]) (c0 S0 K) [(0, (.pointer (some x0))), (3, (.slice x3p x3l x3c)), (11, (.slice x11p x11l x11c)), (12, (.int .i64 x12)), (13, (.int .i64 x13))] h) = wk3 x0 x3p x3l x3c x11p x11l x11c x12 x13 h K :=
  (Ek3 S0 x0 x3p x3l x3c x11p x11l x11c x12 x13 h K).trans (congrFun (congrFun (congrFun (congrFun (congrFun (congrFun (congrFun (congrFun (congrFun (congrFun (congrFun (congrArg Jk3 (funext fun x0 => funext fun x3p => funext fun x3l => funext fun x3c => funext fun x11p => funext fun x11l => funext fun x11c => funext fun x12 => funext fun x13 => funext fun h => congrArg (fun p : Nat → Prop => ∃ n, p n) (funext fun n => eL3 K n x0 x3p x3l x3c x11p x11l x11c x12 x13 h))) x0) x3p) x3l) x3c) x11p) x11l) x11c) x12) x13) h) K)
def w (x0 : Addr) (h : Heap) (K : Value → Heap → Prop) : Prop :=
  J0 (fun x0 x3p x3l x3c x11p x11l x11c x12 x13 h => wk3 x0 x3p x3l x3c x11p x11l x11c x12 x13 h K) x0 h K
theorem e0 (K : Value → Heap → Prop) (x0 : Addr) (h : Heap) : (E Try.prog X T S0 body (fin Try.prog Try.f35.results.toList K) (args0 0 [(.pointer (some x0))]) h) = w x0 h K :=
  (E0 S0 x0 h K).trans (congrFun (congrFun (congrFun (congrArg J0 (funext fun x0 => funext fun x3p => funext fun x3l => funext fun x3c => funext fun x11p => funext fun x11l => funext fun x11c => funext fun x12 => funext fun x13 => funext fun h => ek3 K x0 x3p x3l x3c x11p x11l x11c x12 x13 h)) x0) h) K)
theorem hb : Try.f35.body = some body := by kernel_rfl
theorem ok : okCode T Try.f35.ntmps body = true := by kernel_rfl
theorem spec (x0 : Addr) (h : Heap) (K : Value → Heap → Prop) (H : w x0 h K) : CallsH Try.prog 35 [(.pointer (some x0))] h K :=
  calls_of_E (T := T) Xok mix Try.func35 hb ok rfl (by rw [e0]; exact H)
end F35
-- (*spinney/refs.Refs).Unprotect
namespace F36
def T : Hint := ⟨[], []⟩
noncomputable def body : Code := (Try.f36.body).getD .skip
def J0 (x0 : Addr) (x1 : Int) (h : Heap) (K : Value → Heap → Prop) : Prop :=
  ldM (rd h (Addr.add x0 0)) (fun r1 => lookK h r1 .u32 .u32 x1 (fun o2 => ldI .i64 (some (lkV (.int .i64 (0 : Int)) o2)) (fun n3 => bcase (n3 == (0 : Int)) (K (.int .i64 (61 : Int)) h) (ldM (rd h (Addr.add x0 0)) (fun r4 => lookK h r4 .u32 .u32 x1 (fun o5 => ldI .i64 (some (lkV (.int .i64 (0 : Int)) o5)) (fun n6 => updK h r4 .u32 .u32 x1 (.int .i64 (IntKind.wrap .i64 (n6 - (1 : Int)))) (fun h7 => ldM (rd h7 (Addr.add x0 0)) (fun r8 => lookK h7 r8 .u32 .u32 x1 (fun o9 => ldI .i64 (some (lkV (.int .i64 (0 : Int)) o9)) (fun n10 => bcase (n10 == (0 : Int)) (ldM (rd h7 (Addr.add x0 0)) (fun r11 => delK h7 r11 .u32 .u32 x1 (fun h12 => K (.int .i64 (0 : Int)) h12))) (K (.int .i64 (0 : Int)) h7))))))))))))
theorem E0 (S : Stop) (x0 : Addr) (x1 : Int) (h : Heap) (K : Value → Heap → Prop) :
    (E Try.prog X T S body (fin Try.prog Try.f36.results.toList K) (args0 0 [(.pointer (some x0)), (.int .u32 x1)]) h) = J0 x0 x1 h K := by kernel_rfl
def w (x0 : Addr) (x1 : Int) (h : Heap) (K : Value → Heap → Prop) : Prop :=
  J0 x0 x1 h K
theorem e0 (K : Value → Heap → Prop) (x0 : Addr) (x1 : Int) (h : Heap) : (E Try.prog X T S0 body (fin Try.prog Try.f36.results.toList K) (args0 0 [(.pointer (some x0)), (.int .u32 x1)]) h) = w x0 x1 h K :=
  (E0 S0 x0 x1 h K).trans (rfl)
theorem hb : Try.f36.body = some body := by kernel_rfl
theorem ok : okCode T Try.f36.ntmps body = true := by kernel_rfl
theorem spec (x0 : Addr) (x1 : Int) (h : Heap) (K : Value → Heap → Prop) (H : w x0 x1 h K) : CallsH Try.prog 36 [(.pointer (some x0)), (.int .u32 x1)] h K :=
  calls_of_E (T := T) Xok mix Try.func36 hb ok rfl (by rw [e0]; exact H)
end F36
-- slices.Collect[spinney/api.Handle]
namespace F48
def T : Hint := ⟨[], []⟩
noncomputable def body : Code := (Try.f48.body).getD .skip
def J0 (x0c0 : Addr) (h : Heap) (K : Value → Heap → Prop) : Prop :=
  CallsH Try.prog 65 [(.slice none 0 0), (.func (.func 66) #[] #[(.pointer (some x0c0))])] h (fun v1 h2 => ldS (some v1) (fun p3 l4 c5 => K (.slice p3 l4 c5) h2))
theorem E0 (S : Stop) (x0c0 : Addr) (h : Heap) (K : Value → Heap → Prop) :
    (E Try.prog X T S body (fin Try.prog Try.f48.results.toList K) (args0 0 [(.func (.func 66) #[] #[(.pointer (some x0c0))])]) h) = J0 x0c0 h K := by kernel_rfl
def w (x0c0 : Addr) (h : Heap) (K : Value → Heap → Prop) : Prop :=
  J0 x0c0 h K
theorem e0 (K : Value → Heap → Prop) (x0c0 : Addr) (h : Heap) : (E Try.prog X T S0 body (fin Try.prog Try.f48.results.toList K) (args0 0 [(.func (.func 66) #[] #[(.pointer (some x0c0))])]) h) = w x0c0 h K :=
  (E0 S0 x0c0 h K).trans (rfl)
theorem hb : Try.f48.body = some body := by kernel_rfl
theorem ok : okCode T Try.f48.ntmps body = true := by kernel_rfl
theorem spec (x0c0 : Addr) (h : Heap) (K : Value → Heap → Prop) (H : w x0c0 h K) : CallsH Try.prog 48 [(.func (.func 66) #[] #[(.pointer (some x0c0))])] h K :=
  calls_of_E (T := T) Xok mix Try.func48 hb ok rfl (by rw [e0]; exact H)
end F48
-- maps.Keys[map[spinney/api.Handle]int,spinney/api.Handle,int]
namespace F49
def T : Hint := ⟨[], []⟩
noncomputable def body : Code := (Try.f49.body).getD .skip
def J0 (x0 : Option Nat) (h : Heap) (K : Value → Heap → Prop) : Prop :=
  newK h (.cells #[(.map x0)] 97) (fun b1 h2 => K (.func (.func 66) #[] #[(.pointer (some (Addr.mk b1 0 none)))]) h2)
theorem E0 (S : Stop) (x0 : Option Nat) (h : Heap) (K : Value → Heap → Prop) :
    (E Try.prog X T S body (fin Try.prog Try.f49.results.toList K) (args0 0 [(.map x0)]) h) = J0 x0 h K := by kernel_rfl
def w (x0 : Option Nat) (h : Heap) (K : Value → Heap → Prop) : Prop :=
  J0 x0 h K
theorem e0 (K : Value → Heap → Prop) (x0 : Option Nat) (h : Heap) : (E Try.prog X T S0 body (fin Try.prog Try.f49.results.toList K) (args0 0 [(.map x0)]) h) = w x0 h K :=
  (E0 S0 x0 h K).trans (rfl)
theorem hb : Try.f49.body = some body := by kernel_rfl
theorem ok : okCode T Try.f49.ntmps body = true := by kernel_rfl
theorem spec (x0 : Option Nat) (h : Heap) (K : Value → Heap → Prop) (H : w x0 h K) : CallsH Try.prog 49 [(.map x0)] h K :=
  calls_of_E (T := T) Xok mix Try.func49 hb ok rfl (by rw [e0]; exact H)
end F49
-- slices.Sort[[]spinney/api.Handle,spinney/api.Handle]
namespace F50
def T : Hint := ⟨[], []⟩
noncomputable def body : Code := (Try.f50.body).getD .skip
def J0 (x0p : Option Addr) (x0l : Nat) (x0c : Nat) (h : Heap) (K : Value → Heap → Prop) : Prop :=
  CallsH Try.prog 68 [(.int .u64 (IntKind.wrap .u64 (Nat.cast x0l : Int)))] h (fun v1 h2 => ldI .i64 (some v1) (fun n3 => CallsH Try.prog 67 [(.slice x0p x0l x0c), (.int .i64 (0 : Int)), (.int .i64 (Nat.cast x0l : Int)), (.int .i64 n3)] h2 (fun v4 h5 => (v4 = (.tuple #[]) ∧ K (.tuple #[]) h5))))
theorem E0 (S : Stop) (x0p : Option Addr) (x0l : Nat) (x0c : Nat) (h : Heap) (K : Value → Heap → Prop) :
    (E Try.prog X T S body (fin Try.prog Try.f50.results.toList K) (args0 0 [(.slice x0p x0l x0c)]) h) = J0 x0p x0l x0c h K := by kernel_rfl
def w (x0p : Option Addr) (x0l : Nat) (x0c : Nat) (h : Heap) (K : Value → Heap → Prop) : Prop :=
  J0 x0p x0l x0c h K
theorem e0 (K : Value → Heap → Prop) (x0p : Option Addr) (x0l : Nat) (x0c : Nat) (h : Heap) : (E Try.prog X T S0 body (fin Try.prog Try.f50.results.toList K) (args0 0 [(.slice x0p x0l x0c)]) h) = w x0p x0l x0c h K :=
  (E0 S0 x0p x0l x0c h K).trans (rfl)
theorem hb : Try.f50.body = some body := by kernel_rfl
theorem ok : okCode T Try.f50.ntmps body = true := by kernel_rfl
theorem spec (x0p : Option Addr) (x0l : Nat) (x0c : Nat) (h : Heap) (K : Value → Heap → Prop) (H : w x0p x0l x0c h K) : CallsH Try.prog 50 [(.slice x0p x0l x0c)] h K :=
  calls_of_E (T := T) Xok mix Try.func50 hb ok rfl (by rw [e0]; exact H)
end F50
-- slices.Compact[[]spinney/api.Handle,spinney/api.Handle]
namespace F51
def T : Hint := ⟨[(4, [0, 3]), (9, [0, 3, 4, 5]), (14, [0, 3])], [(6, [[(0, []), (1, []), (2, []), (3, []), (4, []), (5, []), (6, []), (7, []), (8, []), (9, [])]]), (11, [[(0, []), (1, []), (2, []), (3, []), (4, []), (5, []), (6, []), (7, []), (8, []), (9, [])]])]⟩
noncomputable def body : Code := (Try.f51.body).getD .skip
def c0 (S : Stop) (K : Value → Heap → Prop) : Exit → Fr → Heap → Prop := seqN S (cutQ T (sub body [1, 1, 1])) (E Try.prog X T S (sub body [1, 1, 1]) (fin Try.prog Try.f51.results.toList K)) (fin Try.prog Try.f51.results.toList K)
def c1 (S : Stop) (K : Value → Heap → Prop) : Exit → Fr → Heap → Prop := blockN 0 (c0 S K)
def c2 (S : Stop) (n4 : Nat) (K : Value → Heap → Prop) : Exit → Fr → Heap → Prop := backN S (cutQ T (sub body [1, 1, 0, 1, 0, 0])) (loopN S (E Try.prog X T S (sub body [1, 1, 0, 1, 0, 0])) (cutQ T (sub body [1, 1, 0, 1, 0, 0])) (c1 S K) n4) (c1 S K)
def c3 (S : Stop) (n4 : Nat) (K : Value → Heap → Prop) : Exit → Fr → Heap → Prop := seqN S (cutQ T (sub body [1, 1, 0, 1, 0, 0, 1, 1])) (E Try.prog X T S (sub body [1, 1, 0, 1, 0, 0, 1, 1]) (c2 S n4 K)) (c2 S n4 K)
def c4 (S : Stop) (n4 : Nat) (K : Value → Heap → Prop) : Exit → Fr → Heap → Prop := blockN 1 (c3 S n4 K)
def c5 (S : Stop) (n4 : Nat) (K : Value → Heap → Prop) : Exit → Fr → Heap → Prop := seqN S (cutQ T (sub body [1, 1, 0, 1, 0, 0, 1, 0, 0, 1, 0, 1, 1])) (E Try.prog X T S (sub body [1, 1, 0, 1, 0, 0, 1, 0, 0, 1, 0, 1, 1]) (c4 S n4 K)) (c4 S n4 K)
def c6 (S : Stop) (n4 : Nat) (K : Value → Heap → Prop) : Exit → Fr → Heap → Prop := blockN 2 (c5 S n4 K)
def c7 (S : Stop) (n4 : Nat) (n9 : Nat) (K : Value → Heap → Prop) : Exit → Fr → Heap → Prop := backN S (cutQ T (sub body [1, 1, 0, 1, 0, 0, 1, 0, 0, 1, 0, 1, 0, 1, 0, 0])) (loopN S (E Try.prog X T S (sub body [1, 1, 0, 1, 0, 0, 1, 0, 0, 1, 0, 1, 0, 1, 0, 0])) (cutQ T (sub body [1, 1, 0, 1, 0, 0, 1, 0, 0, 1, 0, 1, 0, 1, 0, 0])) (c6 S n4 K) n9) (c6 S n4 K)
def J0 (k4 : (Option Addr) → Nat → Nat → Int → Heap → Prop) (x0p : Option Addr) (x0l : Nat) (x0c : Nat) (h : Heap) (K : Value → Heap → Prop) : Prop :=
  bcase (decide ((Nat.cast x0l : Int) < (2 : Int))) (K (.slice x0p x0l x0c) h) (k4 x0p x0l x0c (1 : Int) h)
theorem E0 (S : Stop) (x0p : Option Addr) (x0l : Nat) (x0c : Nat) (h : Heap) (K : Value → Heap → Prop) :
    (E Try.prog X T S body (fin Try.prog Try.f51.results.toList K) (args0 0 [(.slice x0p x0l x0c)]) h) = J0 (fun x0p x0l x0c x3 h => S (E Try.prog X T S (sub body [1, 1, 0, 1]) (c0 S K)) [(0, (.slice x0p x0l x0c)), (3, (.int .i64 x3))] h) x0p x0l x0c h K := by kernel_rfl
def Jk4 (lp4 : (Option Addr) → Nat → Nat → Int → Heap → Prop) (x0p : Option Addr) (x0l : Nat) (x0c : Nat) (x3 : Int) (h : Heap) (_K : Value → Heap → Prop) : Prop :=
  lp4 x0p x0l x0c x3 h
theorem Ek4 (S : Stop) (x0p : Option Addr) (x0l : Nat) (x0c : Nat) (x3 : Int) (h : Heap) (K : Value → Heap → Prop) :
    (E Try.prog X T S (sub body [1, 1, 0, 1]) (c0 S K) [(0, (.slice x0p x0l x0c)), (3, (.int .i64 x3))] h) = Jk4 (fun x0p x0l x0c x3 h => ∃ n, S (loopN S (E Try.prog X T S (sub body [1, 1, 0, 1, 0, 0])) (cutQ T (sub body [1, 1, 0, 1, 0, 0])) (c1 S K) n) [(0, (.slice x0p x0l x0c)), (3, (.int .i64 x3))] h) x0p x0l x0c x3 h K := by kernel_rfl
def JL4 (k9 : (Option Addr) → Nat → Nat → Int → (Option Addr) → Nat → Nat → Int → Heap → Prop) (bk4 : (Option Addr) → Nat → Nat → Int → Heap → Prop) (x0p : Option Addr) (x0l : Nat) (x0c : Nat) (x3 : Int) (h : Heap) (K : Value → Heap → Prop) : Prop :=
  bcase (decide (x3 < (Nat.cast x0l : Int))) (ptrK x0p (fun a1 => (0 ≤ x3 ∧ x3 < (Nat.cast x0l : Int) ∧ ldI .u32 (rd h (Addr.add a1 (Int.toNat x3 * 1))) (fun n2 => ptrK x0p (fun a3 => (0 ≤ (IntKind.wrap .i64 (x3 - (1 : Int))) ∧ (IntKind.wrap .i64 (x3 - (1 : Int))) < (Nat.cast x0l : Int) ∧ ldI .u32 (rd h (Addr.add a3 (Int.toNat (IntKind.wrap .i64 (x3 - (1 : Int))) * 1))) (fun n4 => bcase (n2 == n4) ((0 ≤ x3 ∧ x3 ≤ (Nat.cast x0l : Int) ∧ k9 x0p x0l x0c x3 (if x0c = (Int.toNat x3) then x0p else Option.map (fun a => Addr.add a ((Int.toNat x3) * 1)) x0p) (x0l - (Int.toNat x3)) (x0c - (Int.toNat x3)) (1 : Int) h)) (bk4 x0p x0l x0c (IntKind.wrap .i64 (x3 + (1 : Int))) h)))))))) (K (.slice x0p x0l x0c) h)
theorem EL4 (S : Stop) (n4 : Nat) (x0p : Option Addr) (x0l : Nat) (x0c : Nat) (x3 : Int) (h : Heap) (K : Value → Heap → Prop) :
    (E Try.prog X T S (sub body [1, 1, 0, 1, 0, 0]) (c2 S n4 K) [(0, (.slice x0p x0l x0c)), (3, (.int .i64 x3))] h) = JL4 (fun x0p x0l x0c x3 x4p x4l x4c x5 h => S (E Try.prog X T S (sub body [1, 1, 0, 1, 0, 0, 1, 0, 0, 1, 0, 1, 0, 1]) (c5 S n4 K)) [(0, (.slice x0p x0l x0c)), (3, (.int .i64 x3)), (4, (.slice x4p x4l x4c)), (5, (.int .i64 x5))] h) (fun x0p x0l x0c x3 h => S (loopN S (E Try.prog X T S (sub body [1, 1, 0, 1, 0, 0])) (cutQ T (sub body [1, 1, 0, 1, 0, 0])) (c1 S K) n4) [(0, (.slice x0p x0l x0c)), (3, (.int .i64 x3))] h) x0p x0l x0c x3 h K := by kernel_rfl
def Jk9 (lp9 : (Option Addr) → Nat → Nat → Int → (Option Addr) → Nat → Nat → Int → Heap → Prop) (x0p : Option Addr) (x0l : Nat) (x0c : Nat) (x3 : Int) (x4p : Option Addr) (x4l : Nat) (x4c : Nat) (x5 : Int) (h : Heap) (_K : Value → Heap → Prop) : Prop :=
  lp9 x0p x0l x0c x3 x4p x4l x4c x5 h
theorem Ek9 (S : Stop) (n4 : Nat) (x0p : Option Addr) (x0l : Nat) (x0c : Nat) (x3 : Int) (x4p : Option Addr) (x4l : Nat) (x4c : Nat) (x5 : Int) (h : Heap) (K : Value → Heap → Prop) :
    (E Try.prog X T S (sub body [1, 1, 0, 1, 0, 0, 1, 0, 0, 1, 0, 1, 0, 1]) (c5 S n4 K) [(0, (.slice x0p x0l x0c)), (3, (.int .i64 x3)), (4, (.slice x4p x4l x4c)), (5, (.int .i64 x5))] h) = Jk9 (fun x0p x0l x0c x3 x4p x4l x4c x5 h => ∃ n, S (loopN S (E Try.prog X T S (sub body [1, 1, 0, 1, 0, 0, 1, 0, 0, 1, 0, 1, 0, 1, 0, 0])) (cutQ T (sub body [1, 1, 0, 1, 0, 0, 1, 0, 0, 1, 0, 1, 0, 1, 0, 0])) (c6 S n4 K) n) [(0, (.slice x0p x0l x0c)), (3, (.int .i64 x3)), (4, (.slice x4p x4l x4c)), (5, (.int .i64 x5))] h) x0p x0l x0c x3 x4p x4l x4c x5 h K := by kernel_rfl
def JL9 (bk9 : (Option Addr) → Nat → Nat → Int → (Option Addr) → Nat → Nat → Int → Heap → Prop) (k14 : (Option Addr) → Nat → Nat → Int → Heap → Prop) (x0p : Option Addr) (x0l : Nat) (x0c : Nat) (x3 : Int) (x4p : Option Addr) (x4l : Nat) (x4c : Nat) (x5 : Int) (h : Heap) (_K : Value → Heap → Prop) : Prop :=
  bcase (decide (x5 < (Nat.cast x4l : Int))) (ptrK x4p (fun a1 => (0 ≤ x5 ∧ x5 < (Nat.cast x4l : Int) ∧ ldI .u32 (rd h (Addr.add a1 (Int.toNat x5 * 1))) (fun n2 => ptrK x4p (fun a3 => (0 ≤ (IntKind.wrap .i64 (x5 - (1 : Int))) ∧ (IntKind.wrap .i64 (x5 - (1 : Int))) < (Nat.cast x4l : Int) ∧ ldI .u32 (rd h (Addr.add a3 (Int.toNat (IntKind.wrap .i64 (x5 - (1 : Int))) * 1))) (fun n4 => bcase (n2 != n4) (ptrK x4p (fun a5 => (0 ≤ x5 ∧ x5 < (Nat.cast x4l : Int) ∧ ldI .u32 (rd h (Addr.add a5 (Int.toNat x5 * 1))) (fun n6 => ptrK x0p (fun a7 => (0 ≤ x3 ∧ x3 < (Nat.cast x0l : Int) ∧ stK h (Addr.add (Addr.add a7 (Int.toNat x3 * 1)) 0) (.int .u32 n6) (fun h8 => bk9 x0p x0l x0c (IntKind.wrap .i64 (x3 + (1 : Int))) x4p x4l x4c (IntKind.wrap .i64 (x5 + (1 : Int))) h8))))))) (bk9 x0p x0l x0c x3 x4p x4l x4c (IntKind.wrap .i64 (x5 + (1 : Int))) h)))))))) (k14 x0p x0l x0c x3 h)
theorem EL9 (S : Stop) (n4 : Nat) (n9 : Nat) (x0p : Option Addr) (x0l : Nat) (x0c : Nat) (x3 : Int) (x4p : Option Addr) (x4l : Nat) (x4c : Nat) (x5 : Int) (h : Heap) (K : Value → Heap → Prop) :
    (E Try.prog X T S (sub body [1, 1, 0, 1, 0, 0, 1, 0, 0, 1, 0, 1, 0, 1, 0, 0]) (c7 S n4 n9 K) [(0, (.slice x0p x0l x0c)), (3, (.int .i64 x3)), (4, (.slice x4p x4l x4c)), (5, (.int .i64 x5))] h) = JL9 (fun x0p x0l x0c x3 x4p x4l x4c x5 h => S (loopN S (E Try.prog X T S (sub body [1, 1, 0, 1, 0, 0, 1, 0, 0, 1, 0, 1, 0, 1, 0, 0])) (cutQ T (sub body [1, 1, 0, 1, 0, 0, 1, 0, 0, 1, 0, 1, 0, 1, 0, 0])) (c6 S n4 K) n9) [(0, (.slice x0p x0l x0c)), (3, (.int .i64 x3)), (4, (.slice x4p x4l x4c)), (5, (.int .i64 x5))] h) (fun x0p x0l x0c x3 h => S (E Try.prog X T S (sub body [1, 1, 0, 1, 0, 0, 1, 0, 0, 1, 0, 1, 1]) (c4 S n4 K)) [(0, (.slice x0p x0l x0c)), (3, (.int .i64 x3))] h) x0p x0l x0c x3 x4p x4l x4c x5 h K := by kernel_rfl
def Jk14 (x0p : Option Addr) (x0l : Nat) (x0c : Nat) (x3 : Int) (h : Heap) (K : Value → Heap → Prop) : Prop :=
  (0 ≤ x3 ∧ x3 ≤ (Nat.cast x0l : Int) ∧ clrK h #[(.int .u32 (0 : Int))] (if x0c = (Int.toNat x3) then x0p else Option.map (fun a => Addr.add a ((Int.toNat x3) * 1)) x0p) (x0l - (Int.toNat x3)) (fun h1 => (0 ≤ x3 ∧ x3 ≤ (Nat.cast x0c : Int) ∧ K (.slice (if x0c = 0 then x0p else Option.map (fun a => Addr.add a (0 * 1)) x0p) (Int.toNat x3 - 0) (x0c - 0)) h1)))
theorem Ek14 (S : Stop) (n4 : Nat) (x0p : Option Addr) (x0l : Nat) (x0c : Nat) (x3 : Int) (h : Heap) (K : Value → Heap → Prop) :
    (E Try.prog X T S (sub body [1, 1, 0, 1, 0, 0, 1, 0, 0, 1, 0, 1, 1]) (c4 S n4 K) [(0, (.slice x0p x0l x0c)), (3, (.int .i64 x3))] h) = Jk14 x0p x0l x0c x3 h K := by kernel_rfl
def wk14 (_bk4 : (Option Addr) → Nat → Nat → Int → Heap → Prop) (x0p : Option Addr) (x0l : Nat) (x0c : Nat) (x3 : Int) (h : Heap) (K : Value → Heap → Prop) : Prop :=
  Jk14 x0p x0l x0c x3 h K
theorem ek14 (K : Value → Heap → Prop) (n4 : Nat) (bk4 : (Option Addr) → Nat → Nat → Int → Heap → Prop) (hb4 : ∀ (x0p : Option Addr) (x0l : Nat) (x0c : Nat) (x3 : Int) (h : Heap), (loopN S0 (E Try.prog X T S0 (sub body [1, 1, 0, 1, 0, 0])) (cutQ T (sub body [1, 1, 0, 1, 0, 0])) (c1 S0 K) n4 [(0, (.slice x0p x0l x0c)), (3, (.int .i64 x3))] h) = bk4 x0p x0l x0c x3 h) (x0p : Option Addr) (x0l : Nat) (x0c : Nat) (x3 : Int) (h : Heap) : (E Try.prog X T S0 (sub body [1, 1, 0, 1, 0, 0, 1, 0, 0, 1, 0, 1, 1]) (c4 S0 n4 K) [(0, (.slice x0p x0l x0c)), (3, (.int .i64 x3))] h) = wk14 bk4 x0p x0l x0c x3 h K :=
  (Ek14 S0 n4 x0p x0l x0c x3 h K).trans (rfl)
def wL9 (bk4 : (Option Addr) → Nat → Nat → Int → Heap → Prop) : Nat → (Option Addr) → Nat → Nat → Int → (Option Addr) → Nat → Nat → Int → Heap → (Value → Heap → Prop) → Prop
  | 0, _, _, _, _, _, _, _, _, _, _ => False
  | n + 1, x0p, x0l, x0c, x3, x4p, x4l, x4c, x5, h, K => JL9 (fun x0p x0l x0c x3 x4p x4l x4c x5 h => wL9 bk4 n x0p x0l x0c x3 x4p x4l x4c x5 h K) (fun x0p x0l x0c x3 h => wk14 bk4 x0p x0l x0c x3 h K) x0p x0l x0c x3 x4p x4l x4c x5 h K
theorem eL9 (K : Value → Heap → Prop) (n4 : Nat) (bk4 : (Option Addr) → Nat → Nat → Int → Heap → Prop) (hb4 : ∀ (x0p : Option Addr) (x0l : Nat) (x0c : Nat) (x3 : Int) (h : Heap), (loopN S0 (E Try.prog X T S0 (sub body [1, 1, 0, 1, 0, 0])) (cutQ T (sub body [1, 1, 0, 1, 0, 0])) (c1 S0 K) n4 [(0, (.slice x0p x0l x0c)), (3, (.int .i64 x3))] h) = bk4 x0p x0l x0c x3 h) : ∀ (n : Nat) (x0p : Option Addr) (x0l : Nat) (x0c : Nat) (x3 : Int) (x4p : Option Addr) (x4l : Nat) (x4c : Nat) (x5 : Int) (h : Heap), (loopN S0 (E Try.prog X T S0 (sub body [1, 1, 0, 1, 0, 0, 1, 0, 0, 1, 0, 1, 0, 1, 0, 0])) (cutQ T (sub body [1, 1, 0, 1, 0, 0, 1, 0, 0, 1, 0, 1, 0, 1, 0, 0])) (c6 S0 n4 K) n [(0, (.slice x0p x0l x0c)), (3, (.int .i64 x3)), (4, (.slice x4p x4l x4c)), (5, (.int .i64 x5))] h) = wL9 bk4 n x0p x0l x0c x3 x4p x4l x4c x5 h K
  | 0, _, _, _, _, _, _, _, _, _ => rfl
  | n + 1, x0p, x0l, x0c, x3, x4p, x4l, x4c, x5, h => (EL9 S0 n4 n x0p x0l x0c x3 x4p x4l x4c x5 h K).trans (congrFun (congrFun (congrFun (congrFun (congrFun (congrFun (congrFun (congrFun (congrFun (congrFun (congr (congrArg JL9 (funext fun x0p => funext fun x0l => funext fun x0c => funext fun x3 => funext fun x4p => funext fun x4l => funext fun x4c => funext fun x5 => funext fun h => (fun x0p x0l x0c x3 x4p x4l x4c x5 h => eL9 K n4 bk4 hb4 n x0p x0l x0c x3 x4p x4l x4c x5 h) x0p x0l x0c x3 x4p x4l x4c x5 h)) (funext fun x0p => funext fun x0l => funext fun x0c => funext fun x3 => funext fun h => ek14 K n4 bk4 hb4 x0p x0l x0c x3 h)) x0p) x0l) x0c) x3) x4p) x4l) x4c) x5) h) K)
def wk9 (bk4 : (Option Addr) → Nat → Nat → Int → Heap → Prop) (x0p : Option Addr) (x0l : Nat) (x0c : Nat) (x3 : Int) (x4p : Option Addr) (x4l : Nat) (x4c : Nat) (x5 : Int) (h : Heap) (K : Value → Heap → Prop) : Prop :=
  Jk9 (fun x0p x0l x0c x3 x4p x4l x4c x5 h => ∃ n, wL9 bk4 n x0p x0l x0c x3 x4p x4l x4c x5 h K) x0p x0l x0c x3 x4p x4l x4c x5 h K
theorem ek9 (K : Value → Heap → Prop) (n4 : Nat) (bk4 : (Option Addr) → Nat → Nat → Int → Heap → Prop) (hb4 : ∀ (x0p : Option Addr) (x0l : Nat) (x0c : Nat) (x3 : Int) (h : Heap), (loopN S0 (E Try.prog X T S0 (sub body [1, 1, 0, 1, 0, 0])) (cutQ T (sub body [1, 1, 0, 1, 0, 0])) (c1 S0 K) n4 [(0, (.slice x0p x0l x0c)), (3, (.int .i64 x3))] h) = bk4 x0p x0l x0c x3 h) (x0p : Option Addr) (x0l : Nat) (x0c : Nat) (x3 : Int) (x4p : Option Addr) (x4l : Nat) (x4c : Nat) (x5 : Int) (h : Heap) : (E Try.prog X T S0 (sub body [1, 1, 0, 1, 0, 0, 1, 0, 0, 1, 0, 1, 0, 1]) (c5 S0 n4 K) [(0, (.slice x0p x0l x0c)), (3, (.int .i64 x3)), (4, (.slice x4p x4l x4c)), (5, (.int .i64 x5))] h) = wk9 bk4 x0p x0l x0c x3 x4p x4l x4c x5 h K :=
  (Ek9 S0 n4 x0p x0l x0c x3 x4p x4l x4c x5 h K).trans (congrFun (congrFun (congrFun (congrFun (congrFun (congrFun (congrFun (congrFun (congrFun (congrFun (congrArg Jk9 (funext fun x0p => funext fun x0l => funext fun x0c => funext fun x3 => funext fun x4p => funext fun x4l => funext fun x4c => funext fun x5 => funext fun h => congrArg (fun p : Nat → Prop => ∃ n, p n) (funext fun n => eL9 K n4 bk4 hb4 n x0p x0l x0c x3 x4p x4l x4c x5 h))) x0p) x0l) x0c) x3) x4p) x4l) x4c) x5) h) K)
def wL4 : Nat → (Option Addr) → Nat → Nat → Int → Heap → (Value → Heap → Prop) → Prop
  | 0, _, _, _, _, _, _ => False
  | n + 1, x0p, x0l, x0c, x3, h, K => JL4 (fun x0p x0l x0c x3 x4p x4l x4c x5 h => wk9 (fun x0p x0l x0c x3 h => wL4 n x0p x0l x0c x3 h K) x0p x0l x0c x3 x4p x4l x4c x5 h K) (fun x0p x0l x0c x3 h => wL4 n x0p x0l x0c x3 h K) x0p x0l x0c x3 h K
theorem eL4 (K : Value → Heap → Prop) : ∀ (n : Nat) (x0p : Option Addr) (x0l : Nat) (x0c : Nat) (x3 : Int) (h : Heap), (loopN S0 (E Try.prog X T S0 (sub body [1, 1, 0, 1, 0, 0])) (cutQ T (sub body [1, 1, 0, 1, 0, 0])) (c1 S0 K) n [(0, (.slice x0p x0l x0c)), (3, (.int .i64 x3))] h) = wL4 n x0p x0l x0c x3 h K
  | 0, _, _, _, _, _ => rfl
  | n + 1, x0p, x0l, x0c, x3, h => (EL4 S0 n x0p x0l x0c x3 h K).trans (congrFun (congrFun (congrFun (congrFun (congrFun (congrFun (congr (congrArg JL4 (funext fun x0p => funext fun x0l => funext fun x0c => funext fun x3 => funext fun x4p => funext fun x4l => funext fun x4c => funext fun x5 => funext fun h => ek9 K n (fun x0p x0l x0c x3 h => wL4 n x0p x0l x0c x3 h K) (fun x0p x0l x0c x3 h => eL4 K n x0p x0l x0c x3 h) x0p x0l x0c x3 x4p x4l x4c x5 h)) (funext fun x0p => funext fun x0l => funext fun x0c => funext fun x3 => funext fun h => (fun x0p x0l x0c x3 h => eL4 K n x0p x0l x0c x3 h) x0p x0l x0c x3 h)) x0p) x0l) x0c) x3) h) K)
def wk4 (x0p : Option Addr) (x0l : Nat) (x0c : Nat) (x3 : Int) (h : Heap) (K : Value → Heap → Prop) : Prop :=
  Jk4 (fun x0p x0l x0c x3 h => ∃ n, wL4 n x0p x0l x0c x3 h K) x0p x0l x0c x3 h K
theorem ek4 (K : Value → Heap → Prop) (x0p : Option Addr) (x0l : Nat) (x0c : Nat) (x3 : Int) (h : Heap) : (E Try.prog X T S0 (sub body [1, 1, 0, 1]) (c0 S0 K) [(0, (.slice x0p x0l x0c)), (3, (.int .i64 x3))] h) = wk4 x0p x0l x0c x3 h K :=
  (Ek4 S0 x0p x0l x0c x3 h K).trans (congrFun (congrFun (congrFun (congrFun (congrFun (congrFun (congrArg Jk4 (funext fun x0p => funext fun x0l => funext fun x0c => funext fun x3 => funext fun h => congrArg (fun p : Nat → Prop => ∃ n, p n) (funext fun n => eL4 K n x0p x0l x0c x3 h))) x0p) x0l) x0c) x3) h) K)
def w (x0p : Option Addr) (x0l : Nat) (x0c : Nat) (h : Heap) (K : Value → Heap → Prop) : Prop :=
  J0 (fun x0p x0l x0c x3 h => wk4 x0p x0l x0c x3 h K) x0p x0l x0c h K
theorem e0 (K : Value → Heap → Prop) (x0p : Option Addr) (x0l : Nat) (x0c : Nat) (h : Heap) : (E Try.prog X T S0 body (fin Try.prog Try.f51.results.toList K) (args0 0 [(.slice x0p x0l x0c)]) h) = w x0p x0l x0c h K :=
  (E0 S0 x0p x0l x0c h K).trans (congrFun (congrFun (congrFun (congrFun (congrFun (congrArg J0 (funext fun x0p => funext fun x0l => funext fun x0c => funext fun x3 => funext fun h => ek4 K x0p x0l x0c x3 h)) x0p) x0l) x0c) h) K)
theorem hb : Try.f51.body = some body := by kernel_rfl
theorem ok : okCode T Try.f51.ntmps body = true := by kernel_rfl
theorem spec (x0p : Option Addr) (x0l : Nat) (x0c : Nat) (h : Heap) (K : Value → Heap → Prop) (H : w x0p x0l x0c h K) : CallsH Try.prog 51 [(.slice x0p x0l x0c)] h K :=
  calls_of_E (T := T) Xok mix Try.func51 hb ok rfl (by rw [e0]; exact H)
end F51
-- slices.DeleteFunc[[]spinney/api.Handle,spinney/api.Handle]
namespace F52
def T : Hint := ⟨[(5, [0, 1, 5, 6]), (11, [0, 5])], []⟩
noncomputable def body : Code := (Try.f52.body).getD .skip
def c0 (S : Stop) (K : Value → Heap → Prop) : Exit → Fr → Heap → Prop := seqN S (cutQ T (sub body [1, 1, 1, 1])) (E Try.prog X T S (sub body [1, 1, 1, 1]) (fin Try.prog Try.f52.results.toList K)) (fin Try.prog Try.f52.results.toList K)
def c1 (S : Stop) (K : Value → Heap → Prop) : Exit → Fr → Heap → Prop := blockN 0 (c0 S K)
def c2 (S : Stop) (n5 : Nat) (K : Value → Heap → Prop) : Exit → Fr → Heap → Prop := backN S (cutQ T (sub body [1, 1, 1, 0, 1, 0, 0])) (loopN S (E Try.prog X T S (sub body [1, 1, 1, 0, 1, 0, 0])) (cutQ T (sub body [1, 1, 1, 0, 1, 0, 0])) (c1 S K) n5) (c1 S K)
def J0 (k5 : (Option Addr) → Nat → Nat → Value → Int → Int → Heap → Prop) (x0p : Option Addr) (x0l : Nat) (x0c : Nat) (h : Heap) (K : Value → Heap → Prop) : Prop :=
  CallsH Try.prog 69 [(.slice x0p x0l x0c), (.func (.func 53) #[] #[])] h (fun v1 h2 => ldI .i64 (some v1) (fun n3 => bcase (n3 == (-1 : Int)) (K (.slice x0p x0l x0c) h2) (k5 x0p x0l x0c (.func (.func 53) #[] #[]) n3 (IntKind.wrap .i64 (n3 + (1 : Int))) h2)))
theorem E0 (S : Stop) (x0p : Option Addr) (x0l : Nat) (x0c : Nat) (h : Heap) (K : Value → Heap → Prop) :
    (E Try.prog X T S body (fin Try.prog Try.f52.results.toList K) (args0 0 [(.slice x0p x0l x0c), (.func (.func 53) #[] #[])]) h) = J0 (fun x0p x0l x0c x1 x5 x6 h => S (E Try.prog X T S (sub body [1, 1, 1, 0, 1]) (c0 S K)) [(0, (.slice x0p x0l x0c)), (1, x1), (5, (.int .i64 x5)), (6, (.int .i64 x6))] h) x0p x0l x0c h K := by kernel_rfl
def Jk5 (lp5 : (Option Addr) → Nat → Nat → Value → Int → Int → Heap → Prop) (x0p : Option Addr) (x0l : Nat) (x0c : Nat) (x1 : Value) (x5 : Int) (x6 : Int) (h : Heap) (_K : Value → Heap → Prop) : Prop :=
  lp5 x0p x0l x0c x1 x5 x6 h
theorem Ek5 (S : Stop) (x0p : Option Addr) (x0l : Nat) (x0c : Nat) (x1 : Value) (x5 : Int) (x6 : Int) (h : Heap) (K : Value → Heap → Prop) :
    (E Try.prog X T S (sub body [1, 1, 1, 0, 1]) (c0 S K) [(0, (.slice x0p x0l x0c)), (1, x1), (5, (.int .i64 x5)), (6, (.int .i64 x6))] h) = Jk5 (fun x0p x0l x0c x1 x5 x6 h => ∃ n, S (loopN S (E Try.prog X T S (sub body [1, 1, 1, 0, 1, 0, 0])) (cutQ T (sub body [1, 1, 1, 0, 1, 0, 0])) (c1 S K) n) [(0, (.slice x0p x0l x0c)), (1, x1), (5, (.int .i64 x5)), (6, (.int .i64 x6))] h) x0p x0l x0c x1 x5 x6 h K := by kernel_rfl
def JL5 (bk5 : (Option Addr) → Nat → Nat → Value → Int → Int → Heap → Prop) (k11 : (Option Addr) → Nat → Nat → Int → Heap → Prop) (x0p : Option Addr) (x0l : Nat) (x0c : Nat) (x1 : Value) (x5 : Int) (x6 : Int) (h : Heap) (_K : Value → Heap → Prop) : Prop :=
  bcase (decide (x6 < (Nat.cast x0l : Int))) (ptrK x0p (fun a1 => (0 ≤ x6 ∧ x6 < (Nat.cast x0l : Int) ∧ ldI .u32 (rd h (Addr.add a1 (Int.toNat x6 * 1))) (fun n2 => dynK Try.prog X x1 [(.int .u32 n2)] h (fun v3 h4 => ldB (some v3) (fun b5 => bcase (!b5) (ptrK x0p (fun a6 => (0 ≤ x5 ∧ x5 < (Nat.cast x0l : Int) ∧ stK h4 (Addr.add (Addr.add a6 (Int.toNat x5 * 1)) 0) (.int .u32 n2) (fun h7 => bk5 x0p x0l x0c x1 (IntKind.wrap .i64 (x5 + (1 : Int))) (IntKind.wrap .i64 (x6 + (1 : Int))) h7)))) (bk5 x0p x0l x0c x1 x5 (IntKind.wrap .i64 (x6 + (1 : Int))) h4))))))) (k11 x0p x0l x0c x5 h)
theorem EL5 (S : Stop) (n5 : Nat) (x0p : Option Addr) (x0l : Nat) (x0c : Nat) (x1 : Value) (x5 : Int) (x6 : Int) (h : Heap) (K : Value → Heap → Prop) :
    (E Try.prog X T S (sub body [1, 1, 1, 0, 1, 0, 0]) (c2 S n5 K) [(0, (.slice x0p x0l x0c)), (1, x1), (5, (.int .i64 x5)), (6, (.int .i64 x6))] h) = JL5 (fun x0p x0l x0c x1 x5 x6 h => S (loopN S (E Try.prog X T S (sub body [1, 1, 1, 0, 1, 0, 0])) (cutQ T (sub body [1, 1, 1, 0, 1, 0, 0])) (c1 S K) n5) [(0, (.slice x0p x0l x0c)), (1, x1), (5, (.int .i64 x5)), (6, (.int .i64 x6))] h) (fun x0p x0l x0c x5 h => S (E Try.prog X T S (sub body [1, 1, 1, 1]) (fin Try.prog Try.f52.results.toList K)) [(0, (.slice x0p x0l x0c)), (5, (.int .i64 x5))] h) x0p x0l x0c x1 x5 x6 h K := by kernel_rfl
def Jk11 (x0p : Option Addr) (x0l : Nat) (x0c : Nat) (x5 : Int) (h : Heap) (K : Value → Heap → Prop) : Prop :=
  (0 ≤ x5 ∧ x5 ≤ (Nat.cast x0l : Int) ∧ clrK h #[(.int .u32 (0 : Int))] (if x0c = (Int.toNat x5) then x0p else Option.map (fun a => Addr.add a ((Int.toNat x5) * 1)) x0p) (x0l - (Int.toNat x5)) (fun h1 => (0 ≤ x5 ∧ x5 ≤ (Nat.cast x0c : Int) ∧ K (.slice (if x0c = 0 then x0p else Option.map (fun a => Addr.add a (0 * 1)) x0p) (Int.toNat x5 - 0) (x0c - 0)) h1)))
theorem Ek11 (S : Stop) (x0p : Option Addr) (x0l : Nat) (x0c : Nat) (x5 : Int) (h : Heap) (K : Value → Heap → Prop) :
    (E Try.prog X T S (sub body [1, 1, 1, 1]) (fin Try.prog Try.f52.results.toList K) [(0, (.slice x0p x0l x0c)), (5, (.int .i64 x5))] h) = Jk11 x0p x0l x0c x5 h K := by kernel_rfl
def wk11 (x0p : Option Addr) (x0l : Nat) (x0c : Nat) (x5 : Int) (h : Heap) (K : Value → Heap → Prop) : Prop :=
  Jk11 x0p x0l x0c x5 h K
theorem ek11 (K : Value → Heap → Prop) (x0p : Option Addr) (x0l : Nat) (x0c : Nat) (x5 : Int) (h : Heap) : (E Try.prog X T S0 (sub body [1, 1, 1, 1]) (fin Try.prog Try.f52.results.toList K) [(0, (.slice x0p x0l x0c)), (5, (.int .i64 x5))] h) = wk11 x0p x0l x0c x5 h K :=
  (Ek11 S0 x0p x0l x0c x5 h K).trans (rfl)
def wL5 : Nat → (Option Addr) → Nat → Nat → Value → Int → Int → Heap → (Value → Heap → Prop) → Prop
  | 0, _, _, _, _, _, _, _, _ => False
  | n + 1, x0p, x0l, x0c, x1, x5, x6, h, K => JL5 (fun x0p x0l x0c x1 x5 x6 h => wL5 n x0p x0l x0c x1 x5 x6 h K) (fun x0p x0l x0c x5 h => wk11 x0p x0l x0c x5 h K) x0p x0l x0c x1 x5 x6 h K
theorem eL5 (K : Value → Heap → Prop) : ∀ (n : Nat) (x0p : Option Addr) (x0l : Nat) (x0c : Nat) (x1 : Value) (x5 : Int) (x6 : Int) (h : Heap), (loopN S0 (E Try.prog X T S0 (sub body [1, 1, 1, 0, 1, 0, 0])) (cutQ T (sub body [1, 1, 1, 0, 1, 0, 0])) (c1 S0 K) n [(0, (.slice x0p x0l x0c)), (1, x1), (5, (.int .i64 x5)), (6, (.int .i64 x6))] h) = wL5 n x0p x0l x0c x1 x5 x6 h K
  | 0, _, _, _, _, _, _, _ => rfl
  | n + 1, x0p, x0l, x0c, x1, x5, x6, h => (EL5 S0 n x0p x0l x0c x1 x5 x6 h K).trans (congrFun (congrFun (congrFun (congrFun (congrFun (congrFun (congrFun (congrFun (congr (congrArg JL5 (funext fun x0p => funext fun x0l => funext fun x0c => funext fun x1 => funext fun x5 => funext fun x6 => funext fun h => (fun x0p x0l x0c x1 x5 x6 h => eL5 K n x0p x0l x0c x1 x5 x6 h) x0p x0l x0c x1 x5 x6 h)) (funext fun x0p => funext fun x0l => funext fun x0c => funext fun x5 => funext fun h => ek11 K x0p x0l x0c x5 h)) x0p) x0l) x0c) x1) x5) x6) h) K)
def wk5 (x0p : Option Addr) (x0l : Nat) (x0c : Nat) (x1 : Value) (x5 : Int) (x6 : Int) (h : Heap) (K : Value → Heap → Prop) : Prop :=
  Jk5 (fun x0p x0l x0c x1 x5 x6 h => ∃ n, wL5 n x0p x0l x0c x1 x5 x6 h K) x0p x0l x0c x1 x5 x6 h K
theorem ek5 (K : Value → Heap → Prop) (x0p : Option Addr) (x0l : Nat) (x0c : Nat) (x1 : Value) (x5 : Int) (x6 : Int) (h : Heap) : (E Try.prog X T S0 (sub body [1, 1, 1, 0, 1]) (c0 S0 K) [(0, (.slice x0p x0l x0c)), (1, x1), (5, (.int .i64 x5)), (6, (.int .i64 x6))] h) = wk5 x0p x0l x0c x1 x5 x6 h K :=
  (Ek5 S0 x0p x0l x0c x1 x5 x6 h K).trans (congrFun (congrFun (congrFun (congrFun (congrFun (congrFun (congrFun (congrFun (congrArg Jk5 (funext fun x0p => funext fun x0l => funext fun x0c => funext fun x1 => funext fun x5 => funext fun x6 => funext fun h => congrArg (fun p : Nat → Prop => ∃ n, p n) (funext fun n => eL5 K n x0p x0l x0c x1 x5 x6 h))) x0p) x0l) x0c) x1) x5) x6) h) K)
def w (x0p : Option Addr) (x0l : Nat) (x0c : Nat) (h : Heap) (K : Value → Heap → Prop) : Prop :=
  J0 (fun x0p x0l x0c x1 x5 x6 h => wk5 x0p x0l x0c x1 x5 x6 h K) x0p x0l x0c h K
theorem e0 (K : Value → Heap → Prop) (x0p : Option Addr) (x0l : Nat) (x0c : Nat) (h : Heap) : (E Try.prog X T S0 body (fin Try.prog Try.f52.results.toList K) (args0 0 [(.slice x0p x0l x0c), (.func (.func 53) #[] #[])]) h) = w x0p x0l x0c h K :=
  (E0 S0 x0p x0l x0c h K).trans (congrFun (congrFun (congrFun (congrFun (congrFun (congrArg J0 (funext fun x0p => funext fun x0l => funext fun x0c => funext fun x1 => funext fun x5 => funext fun x6 => funext fun h => ek5 K x0p x0l x0c x1 x5 x6 h)) x0p) x0l) x0c) h) K)
theorem hb : Try.f52.body = some body := by kernel_rfl
theorem ok : okCode T Try.f52.ntmps body = true := by kernel_rfl
theorem spec (x0p : Option Addr) (x0l : Nat) (x0c : Nat) (h : Heap) (K : Value → Heap → Prop) (H : w x0p x0l x0c h K) : CallsH Try.prog 52 [(.slice x0p x0l x0c), (.func (.func 53) #[] #[])] h K :=
  calls_of_E (T := T) Xok mix Try.func52 hb ok rfl (by rw [e0]; exact H)
end F52
-- (*spinney/refs.Refs).Roots$1
namespace F53
def T : Hint := ⟨[], []⟩
noncomputable def body : Code := (Try.f53.body).getD .skip
def J0 (x0 : Int) (h : Heap) (K : Value → Heap → Prop) : Prop :=
  K (.bool (decide (x0 ≤ (1 : Int)))) h
theorem E0 (S : Stop) (x0 : Int) (h : Heap) (K : Value → Heap → Prop) :
    (E Try.prog X T S body (fin Try.prog Try.f53.results.toList K) (args0 0 [(.int .u32 x0)]) h) = J0 x0 h K := by kernel_rfl
def w (x0 : Int) (h : Heap) (K : Value → Heap → Prop) : Prop :=
  J0 x0 h K
theorem e0 (K : Value → Heap → Prop) (x0 : Int) (h : Heap) : (E Try.prog X T S0 body (fin Try.prog Try.f53.results.toList K) (args0 0 [(.int .u32 x0)]) h) = w x0 h K :=
  (E0 S0 x0 h K).trans (rfl)
theorem hb : Try.f53.body = some body := by kernel_rfl
theorem ok : okCode T Try.f53.ntmps body = true := by kernel_rfl
theorem spec (x0 : Int) (h : Heap) (K : Value → Heap → Prop) (H : w x0 h K) : CallsH Try.prog 53 [(.int .u32 x0)] h K :=
  calls_of_E (T := T) Xok mix Try.func53 hb ok rfl (by rw [e0]; exact H)
end F53
-- slices.Sorted[spinney/api.Handle]
namespace F54
def T : Hint := ⟨[], []⟩
noncomputable def body : Code := (Try.f54.body).getD .skip
def J0 (x0c0 : Addr) (h : Heap) (K : Value → Heap → Prop) : Prop :=
  CallsH Try.prog 48 [(.func (.func 66) #[] #[(.pointer (some x0c0))])] h (fun v1 h2 => ldS (some v1) (fun p3 l4 c5 => CallsH Try.prog 50 [(.slice p3 l4 c5)] h2 (fun v6 h7 => (v6 = (.tuple #[]) ∧ K (.slice p3 l4 c5) h7))))
theorem E0 (S : Stop) (x0c0 : Addr) (h : Heap) (K : Value → Heap → Prop) :
    (E Try.prog X T S body (fin Try.prog Try.f54.results.toList K) (args0 0 [(.func (.func 66) #[] #[(.pointer (some x0c0))])]) h) = J0 x0c0 h K := by kernel_rfl
def w (x0c0 : Addr) (h : Heap) (K : Value → Heap → Prop) : Prop :=
  J0 x0c0 h K
theorem e0 (K : Value → Heap → Prop) (x0c0 : Addr) (h : Heap) : (E Try.prog X T S0 body (fin Try.prog Try.f54.results.toList K) (args0 0 [(.func (.func 66) #[] #[(.pointer (some x0c0))])]) h) = w x0c0 h K :=
  (E0 S0 x0c0 h K).trans (rfl)
theorem hb : Try.f54.body = some body := by kernel_rfl
theorem ok : okCode T Try.f54.ntmps body = true := by kernel_rfl
theorem spec (x0c0 : Addr) (h : Heap) (K : Value → Heap → Prop) (H : w x0c0 h K) : CallsH Try.prog 54 [(.func (.func 66) #[] #[(.pointer (some x0c0))])] h K :=
  calls_of_E (T := T) Xok mix Try.func54 hb ok rfl (by rw [e0]; exact H)
end F54
-- slices.IndexFunc[[]spinney/api.Handle,spinney/api.Handle]
namespace F69
def T : Hint := ⟨[(2, [0, 1, 7, 8])], []⟩
noncomputable def body : Code := (Try.f69.body).getD .skip
def c0 (S : Stop) (K : Value → Heap → Prop) : Exit → Fr → Heap → Prop := seqN S (cutQ T (sub body [1, 1])) (E Try.prog X T S (sub body [1, 1]) (fin Try.prog Try.f69.results.toList K)) (fin Try.prog Try.f69.results.toList K)
def c1 (S : Stop) (K : Value → Heap → Prop) : Exit → Fr → Heap → Prop := blockN 0 (c0 S K)
def c2 (S : Stop) (n2 : Nat) (K : Value → Heap → Prop) : Exit → Fr → Heap → Prop := backN S (cutQ T (sub body [1, 0, 1, 0, 0])) (loopN S (E Try.prog X T S (sub body [1, 0, 1, 0, 0])) (cutQ T (sub body [1, 0, 1, 0, 0])) (c1 S K) n2) (c1 S K)
def J0 (k2 : (Option Addr) → Nat → Nat → Value → Int → Int → Heap → Prop) (x0p : Option Addr) (x0l : Nat) (x0c : Nat) (h : Heap) (_K : Value → Heap → Prop) : Prop :=
  k2 x0p x0l x0c (.func (.func 53) #[] #[]) (Nat.cast x0l : Int) (0 : Int) h
theorem E0 (S : Stop) (x0p : Option Addr) (x0l : Nat) (x0c : Nat) (h : Heap) (K : Value → Heap → Prop) :
    (E Try.prog X T S body (fin Try.prog Try.f69.results.toList K) (args0 0 [(.slice x0p x0l x0c), (.func (.func 53) #[] #[])]) h) = J0 (fun x0p x0l x0c x1 x7 x8 h => S (E Try.prog X T S (sub body [1, 0, 1]) (c0 S K)) [(0, (.slice x0p x0l x0c)), (1, x1), (7, (.int .i64 x7)), (8, (.int .i64 x8))] h) x0p x0l x0c h K := by kernel_rfl
def Jk2 (lp2 : (Option Addr) → Nat → Nat → Value → Int → Int → Heap → Prop) (x0p : Option Addr) (x0l : Nat) (x0c : Nat) (x1 : Value) (x7 : Int) (x8 : Int) (h : Heap) (_K : Value → Heap → Prop) : Prop :=
  lp2 x0p x0l x0c x1 x7 x8 h
theorem Ek2 (S : Stop) (x0p : Option Addr) (x0l : Nat) (x0c : Nat) (x1 : Value) (x7 : Int) (x8 : Int) (h : Heap) (K : Value → Heap → Prop) :
    (E Try.prog X T S (sub body [1, 0, 1]) (c0 S K) [(0, (.slice x0p x0l x0c)), (1, x1), (7, (.int .i64 x7)), (8, (.int .i64 x8))] h) = Jk2 (fun x0p x0l x0c x1 x7 x8 h => ∃ n, S (loopN S (E Try.prog X T S (sub body [1, 0, 1, 0, 0])) (cutQ T (sub body [1, 0, 1, 0, 0])) (c1 S K) n) [(0, (.slice x0p x0l x0c)), (1, x1), (7, (.int .i64 x7)), (8, (.int .i64 x8))] h) x0p x0l x0c x1 x7 x8 h K := by kernel_rfl
def JL2 (bk2 : (Option Addr) → Nat → Nat → Value → Int → Int → Heap → Prop) (x0p : Option Addr) (x0l : Nat) (x0c : Nat) (x1 : Value) (x7 : Int) (x8 : Int) (h : Heap) (K : Value → Heap → Prop) : Prop :=
  bcase (decide (x8 < x7)) (ptrK x0p (fun a1 => (0 ≤ x8 ∧ x8 < (Nat.cast x0l : Int) ∧ ldI .u32 (rd h (Addr.add a1 (Int.toNat x8 * 1))) (fun n2 => dynK Try.prog X x1 [(.int .u32 n2)] h (fun v3 h4 => ldB (some v3) (fun b5 => bcase b5 (K (.int .i64 x8) h4) (bk2 x0p x0l x0c x1 x7 (IntKind.wrap .i64 (x8 + (1 : Int))) h4))))))) (K (.int .i64 (-1 : Int)) h)
theorem EL2 (S : Stop) (n2 : Nat) (x0p : Option Addr) (x0l : Nat) (x0c : Nat) (x1 : Value) (x7 : Int) (x8 : Int) (h : Heap) (K : Value → Heap → Prop) :
    (E Try.prog X T S (sub body [1, 0, 1, 0, 0]) (c2 S n2 K) [(0, (.slice x0p x0l x0c)), (1, x1), (7, (.int .i64 x7)), (8, (.int .i64 x8))] h) = JL2 (fun x0p x0l x0c x1 x7 x8 h => S (loopN S (E Try.prog X T S (sub body [1, 0, 1, 0, 0])) (cutQ T (sub body [1, 0, 1, 0, 0])) (c1 S K) n2) [(0, (.slice x0p x0l x0c)), (1, x1), (7, (.int .i64 x7)), (8, (.int .i64 x8))] h) x0p x0l x0c x1 x7 x8 h K := by kernel_rfl
def wL2 : Nat → (Option Addr) → Nat → Nat → Value → Int → Int → Heap → (Value → Heap → Prop) → Prop
  | 0, _, _, _, _, _, _, _, _ => False
  | n + 1, x0p, x0l, x0c, x1, x7, x8, h, K => JL2 (fun x0p x0l x0c x1 x7 x8 h => wL2 n x0p x0l x0c x1 x7 x8 h K) x0p x0l x0c x1 x7 x8 h K
theorem eL2 (K : Value → Heap → Prop) : ∀ (n : Nat) (x0p : Option Addr) (x0l : Nat) (x0c : Nat) (x1 : Value) (x7 : Int) (x8 : Int) (h : Heap), (loopN S0 (E Try.prog X T S0 (sub body [1, 0, 1, 0, 0])) (cutQ T (sub body [1, 0, 1, 0, 0])) (c1 S0 K) n [(0, (.slice x0p x0l x0c)), (1, x1), (7, (.int .i64 x7)), (8, (.int .i64 x8))] h) = wL2 n x0p x0l x0c x1 x7 x8 h K
  | 0, _, _, _, _, _, _, _ => rfl
  | n + 1, x0p, x0l, x0c, x1, x7, x8, h => (EL2 S0 n x0p x0l x0c x1 x7 x8 h K).trans (congrFun (congrFun (congrFun (congrFun (congrFun (congrFun (congrFun (congrFun (congrArg JL2 (funext fun x0p => funext fun x0l => funext fun x0c => funext fun x1 => funext fun x7 => funext fun x8 => funext fun h => (fun x0p x0l x0c x1 x7 x8 h => eL2 K n x0p x0l x0c x1 x7 x8 h) x0p x0l x0c x1 x7 x8 h)) x0p) x0l) x0c) x1) x7) x8) h) K)
def wk2 (x0p : Option Addr) (x0l : Nat) (x0c : Nat) (x1 : Value) (x7 : Int) (x8 : Int) (h : Heap) (K : Value → Heap → Prop) : Prop :=
  Jk2 (fun x0p x0l x0c x1 x7 x8 h => ∃ n, wL2 n x0p x0l x0c x1 x7 x8 h K) x0p x0l x0c x1 x7 x8 h K
theorem ek2 (K : Value → Heap → Prop) (x0p : Option Addr) (x0l : Nat) (x0c : Nat) (x1 : Value) (x7 : Int) (x8 : Int) (h : Heap) : (E Try.prog X T S0 (sub body [1, 0, 1]) (c0 S0 K) [(0, (.slice x0p x0l x0c)), (1, x1), (7, (.int .i64 x7)), (8, (.int .i64 x8))] h) = wk2 x0p x0l x0c x1 x7 x8 h K :=
  (Ek2 S0 x0p x0l x0c x1 x7 x8 h K).trans (congrFun (congrFun (congrFun (congrFun (congrFun (congrFun (congrFun (congrFun (congrArg Jk2 (funext fun x0p => funext fun x0l => funext fun x0c => funext fun x1 => funext fun x7 => funext fun x8 => funext fun h => congrArg (fun p : Nat → Prop => ∃ n, p n) (funext fun n => eL2 K n x0p x0l x0c x1 x7 x8 h))) x0p) x0l) x0c) x1) x7) x8) h) K)
def w (x0p : Option Addr) (x0l : Nat) (x0c : Nat) (h : Heap) (K : Value → Heap → Prop) : Prop :=
  J0 (fun x0p x0l x0c x1 x7 x8 h => wk2 x0p x0l x0c x1 x7 x8 h K) x0p x0l x0c h K
theorem e0 (K : Value → Heap → Prop) (x0p : Option Addr) (x0l : Nat) (x0c : Nat) (h : Heap) : (E Try.prog X T S0 body (fin Try.prog Try.f69.results.toList K) (args0 0 [(.slice x0p x0l x0c), (.func (.func 53) #[] #[])]) h) = w x0p x0l x0c h K :=
  (E0 S0 x0p x0l x0c h K).trans (congrFun (congrFun (congrFun (congrFun (congrFun (congrArg J0 (funext fun x0p => funext fun x0l => funext fun x0c => funext fun x1 => funext fun x7 => funext fun x8 => funext fun h => ek2 K x0p x0l x0c x1 x7 x8 h)) x0p) x0l) x0c) h) K)
theorem hb : Try.f69.body = some body := by kernel_rfl
theorem ok : okCode T Try.f69.ntmps body = true := by kernel_rfl
theorem spec (x0p : Option Addr) (x0l : Nat) (x0c : Nat) (h : Heap) (K : Value → Heap → Prop) (H : w x0p x0l x0c h K) : CallsH Try.prog 69 [(.slice x0p x0l x0c), (.func (.func 53) #[] #[])] h K :=
  calls_of_E (T := T) Xok mix Try.func69 hb ok rfl (by rw [e0]; exact H)
end F69
-- cmp.Less[spinney/api.Handle]
namespace F82
def T : Hint := ⟨[], []⟩
noncomputable def body : Code := (Try.f82.body).getD .skip
def J0 (x0 : Int) (x1 : Int) (h : Heap) (K : Value → Heap → Prop) : Prop :=
  CallsH Try.prog 98 [(.int .u32 x0)] h (fun v1 h2 => ldB (some v1) (fun b3 => bcase b3 (CallsH Try.prog 98 [(.int .u32 x1)] h2 (fun v4 h5 => ldB (some v4) (fun b6 => bcase (!b6) (K (.bool true) h5) (K (.bool (decide (x0 < x1))) h5)))) (K (.bool (decide (x0 < x1))) h2)))
theorem E0 (S : Stop) (x0 : Int) (x1 : Int) (h : Heap) (K : Value → Heap → Prop) :
    (E Try.prog X T S body (fin Try.prog Try.f82.results.toList K) (args0 0 [(.int .u32 x0), (.int .u32 x1)]) h) = J0 x0 x1 h K := by kernel_rfl
def w (x0 : Int) (x1 : Int) (h : Heap) (K : Value → Heap → Prop) : Prop :=
  J0 x0 x1 h K
theorem e0 (K : Value → Heap → Prop) (x0 : Int) (x1 : Int) (h : Heap) : (E Try.prog X T S0 body (fin Try.prog Try.f82.results.toList K) (args0 0 [(.int .u32 x0), (.int .u32 x1)]) h) = w x0 x1 h K :=
  (E0 S0 x0 x1 h K).trans (rfl)
theorem hb : Try.f82.body = some body := by kernel_rfl
theorem ok : okCode T Try.f82.ntmps body = true := by kernel_rfl
theorem spec (x0 : Int) (x1 : Int) (h : Heap) (K : Value → Heap → Prop) (H : w x0 x1 h K) : CallsH Try.prog 82 [(.int .u32 x0), (.int .u32 x1)] h K :=
  calls_of_E (T := T) Xok mix Try.func82 hb ok rfl (by rw [e0]; exact H)
end F82
-- cmp.isNaN[spinney/api.Handle]
namespace F98
def T : Hint := ⟨[], []⟩
noncomputable def body : Code := (Try.f98.body).getD .skip
def J0 (x0 : Int) (h : Heap) (K : Value → Heap → Prop) : Prop :=
  K (.bool (x0 != x0)) h
theorem E0 (S : Stop) (x0 : Int) (h : Heap) (K : Value → Heap → Prop) :
    (E Try.prog X T S body (fin Try.prog Try.f98.results.toList K) (args0 0 [(.int .u32 x0)]) h) = J0 x0 h K := by kernel_rfl
def w (x0 : Int) (h : Heap) (K : Value → Heap → Prop) : Prop :=
  J0 x0 h K
theorem e0 (K : Value → Heap → Prop) (x0 : Int) (h : Heap) : (E Try.prog X T S0 body (fin Try.prog Try.f98.results.toList K) (args0 0 [(.int .u32 x0)]) h) = w x0 h K :=
  (E0 S0 x0 h K).trans (rfl)
theorem hb : Try.f98.body = some body := by kernel_rfl
theorem ok : okCode T Try.f98.ntmps body = true := by kernel_rfl
theorem spec (x0 : Int) (h : Heap) (K : Value → Heap → Prop) (H : w x0 h K) : CallsH Try.prog 98 [(.int .u32 x0)] h K :=
  calls_of_E (T := T) Xok mix Try.func98 hb ok rfl (by rw [e0]; exact H)
end F98
-- slices.insertionSortOrdered[spinney/api.Handle]
namespace F76
def T : Hint := ⟨[(1, [0, 1, 2, 6]), (4, [0, 1, 2, 6, 7])], [(4, [[(0, []), (1, []), (2, []), (3, []), (4, []), (5, []), (6, []), (7, []), (8, []), (9, []), (10, []), (11, []), (12, []), (13, []), (14, [])]]), (6, [[(0, []), (1, []), (2, []), (3, []), (4, []), (5, []), (6, []), (7, []), (8, []), (9, []), (10, []), (11, []), (12, []), (13, []), (14, []), (15, [2, 3, 4]), (16, []), (17, [])]])]⟩
noncomputable def body : Code := (Try.f76.body).getD .skip
def c0 (_S : Stop) (K : Value → Heap → Prop) : Exit → Fr → Heap → Prop := blockN 0 (fin Try.prog Try.f76.results.toList K)
def c1 (S : Stop) (n1 : Nat) (K : Value → Heap → Prop) : Exit → Fr → Heap → Prop := backN S (cutQ T (sub body [1, 0, 0])) (loopN S (E Try.prog X T S (sub body [1, 0, 0])) (cutQ T (sub body [1, 0, 0])) (c0 S K) n1) (c0 S K)
def c2 (S : Stop) (n1 : Nat) (K : Value → Heap → Prop) : Exit → Fr → Heap → Prop := seqN S (cutQ T (sub body [1, 0, 0, 1, 1])) (E Try.prog X T S (sub body [1, 0, 0, 1, 1]) (c1 S n1 K)) (c1 S n1 K)
def c3 (S : Stop) (n1 : Nat) (K : Value → Heap → Prop) : Exit → Fr → Heap → Prop := blockN 1 (c2 S n1 K)
def c4 (S : Stop) (n1 : Nat) (K : Value → Heap → Prop) : Exit → Fr → Heap → Prop := blockN 2 (c3 S n1 K)
def c5 (S : Stop) (n1 : Nat) (n4 : Nat) (K : Value → Heap → Prop) : Exit → Fr → Heap → Prop := backN S (cutQ T (sub body [1, 0, 0, 1, 0, 0, 1, 0, 0])) (loopN S (E Try.prog X T S (sub body [1, 0, 0, 1, 0, 0, 1, 0, 0])) (cutQ T (sub body [1, 0, 0, 1, 0, 0, 1, 0, 0])) (c4 S n1 K) n4) (c4 S n1 K)
def J0 (k1 : (Option Addr) → Nat → Nat → Int → Int → Int → Heap → Prop) (x0p : Option Addr) (x0l : Nat) (x0c : Nat) (x1 : Int) (x2 : Int) (h : Heap) (_K : Value → Heap → Prop) : Prop :=
  k1 x0p x0l x0c x1 x2 (IntKind.wrap .i64 (x1 + (1 : Int))) h
theorem E0 (S : Stop) (x0p : Option Addr) (x0l : Nat) (x0c : Nat) (x1 : Int) (x2 : Int) (h : Heap) (K : Value → Heap → Prop) :
    (E Try.prog X T S body (fin Try.prog Try.f76.results.toList K) (args0 0 [(.slice x0p x0l x0c), (.int .i64 x1), (.int .i64 x2)]) h) = J0 (fun x0p x0l x0c x1 x2 x6 h => S (E Try.prog X T S (sub body [1]) (fin Try.prog Try.f76.results.toList K)) [(0, (.slice x0p x0l x0c)), (1, (.int .i64 x1)), (2, (.int .i64 x2)), (6, (.int .i64 x6))] h) x0p x0l x0c x1 x2 h K := by kernel_rfl
def Jk1 (lp1 : (Option Addr) → Nat → Nat → Int → Int → Int → Heap → Prop) (x0p : Option Addr) (x0l : Nat) (x0c : Nat) (x1 : Int) (x2 : Int) (x6 : Int) (h : Heap) (_K : Value → Heap → Prop) : Prop :=
  lp1 x0p x0l x0c x1 x2 x6 h
theorem Ek1 (S : Stop) (x0p : Option Addr) (x0l : Nat) (x0c : Nat) (x1 : Int) (x2 : Int) (x6 : Int) (h : Heap) (K : Value → Heap → Prop) :
    (E Try.prog X T S (sub body [1]) (fin Try.prog Try.f76.results.toList K) [(0, (.slice x0p x0l x0c)), (1, (.int .i64 x1)), (2, (.int .i64 x2)), (6, (.int .i64 x6))] h) = Jk1 (fun x0p x0l x0c x1 x2 x6 h => ∃ n, S (loopN S (E Try.prog X T S (sub body [1, 0, 0])) (cutQ T (sub body [1, 0, 0])) (c0 S K) n) [(0, (.slice x0p x0l x0c)), (1, (.int .i64 x1)), (2, (.int .i64 x2)), (6, (.int .i64 x6))] h) x0p x0l x0c x1 x2 x6 h K := by kernel_rfl
def JL1 (k4 : (Option Addr) → Nat → Nat → Int → Int → Int → Int → Heap → Prop) (x0p : Option Addr) (x0l : Nat) (x0c : Nat) (x1 : Int) (x2 : Int) (x6 : Int) (h : Heap) (K : Value → Heap → Prop) : Prop :=
  bcase (decide (x6 < x2)) (k4 x0p x0l x0c x1 x2 x6 x6 h) (K (.tuple #[]) h)
theorem EL1 (S : Stop) (n1 : Nat) (x0p : Option Addr) (x0l : Nat) (x0c : Nat) (x1 : Int) (x2 : Int) (x6 : Int) (h : Heap) (K : Value → Heap → Prop) :
    (E Try.prog X T S (sub body [1, 0, 0]) (c1 S n1 K) [(0, (.slice x0p x0l x0c)), (1, (.int .i64 x1)), (2, (.int .i64 x2)), (6, (.int .i64 x6))] h) = JL1 (fun x0p x0l x0c x1 x2 x6 x7 h => S (E Try.prog X T S (sub body [1, 0, 0, 1, 0, 0, 1]) (c3 S n1 K)) [(0, (.slice x0p x0l x0c)), (1, (.int .i64 x1)), (2, (.int .i64 x2)), (6, (.int .i64 x6)), (7, (.int .i64 x7))] h) x0p x0l x0c x1 x2 x6 h K := by kernel_rfl
def Jk4 (lp4 : (Option Addr) → Nat → Nat → Int → Int → Int → Int → Heap → Prop) (x0p : Option Addr) (x0l : Nat) (x0c : Nat) (x1 : Int) (x2 : Int) (x6 : Int) (x7 : Int) (h : Heap) (_K : Value → Heap → Prop) : Prop :=
  lp4 x0p x0l x0c x1 x2 x6 x7 h
theorem Ek4 (S : Stop) (n1 : Nat) (x0p : Option Addr) (x0l : Nat) (x0c : Nat) (x1 : Int) (x2 : Int) (x6 : Int) (x7 : Int) (h : Heap) (K : Value → Heap → Prop) :
    (E Try.prog X T S (sub body [1, 0, 0, 1, 0, 0, 1]) (c3 S n1 K) [(0, (.slice x0p x0l x0c)), (1, (.int .i64 x1)), (2, (.int .i64 x2)), (6, (.int .i64 x6)), (7, (.int .i64 x7))] h) = Jk4 (fun x0p x0l x0c x1 x2 x6 x7 h => ∃ n, S (loopN S (E Try.prog X T S (sub body [1, 0, 0, 1, 0, 0, 1, 0, 0])) (cutQ T (sub body [1, 0, 0, 1, 0, 0, 1, 0, 0])) (c4 S n1 K) n) [(0, (.slice x0p x0l x0c)), (1, (.int .i64 x1)), (2, (.int .i64 x2)), (6, (.int .i64 x6)), (7, (.int .i64 x7))] h) x0p x0l x0c x1 x2 x6 x7 h K := by kernel_rfl
def JL4 (bk4 : (Option Addr) → Nat → Nat → Int → Int → Int → Int → Heap → Prop) (bk1 : (Option Addr) → Nat → Nat → Int → Int → Int → Heap → Prop) (x0p : Option Addr) (x0l : Nat) (x0c : Nat) (x1 : Int) (x2 : Int) (x6 : Int) (x7 : Int) (h : Heap) (_K : Value → Heap → Prop) : Prop :=
  bcase (decide (x7 > x1)) (ptrK x0p (fun a1 => (0 ≤ x7 ∧ x7 < (Nat.cast x0l : Int) ∧ ldI .u32 (rd h (Addr.add a1 (Int.toNat x7 * 1))) (fun n2 => ptrK x0p (fun a3 => (0 ≤ (IntKind.wrap .i64 (x7 - (1 : Int))) ∧ (IntKind.wrap .i64 (x7 - (1 : Int))) < (Nat.cast x0l : Int) ∧ ldI .u32 (rd h (Addr.add a3 (Int.toNat (IntKind.wrap .i64 (x7 - (1 : Int))) * 1))) (fun n4 => CallsH Try.prog 82 [(.int .u32 n2), (.int .u32 n4)] h (fun v5 h6 => ldB (some v5) (fun b7 => bcase b7 (ptrK x0p (fun a8 => (0 ≤ (IntKind.wrap .i64 (x7 - (1 : Int))) ∧ (IntKind.wrap .i64 (x7 - (1 : Int))) < (Nat.cast x0l : Int) ∧ ldI .u32 (rd h6 (Addr.add a8 (Int.toNat (IntKind.wrap .i64 (x7 - (1 : Int))) * 1))) (fun n9 => ptrK x0p (fun a10 => (0 ≤ x7 ∧ x7 < (Nat.cast x0l : Int) ∧ ldI .u32 (rd h6 (Addr.add a10 (Int.toNat x7 * 1))) (fun n11 => ptrK x0p (fun a12 => (0 ≤ x7 ∧ x7 < (Nat.cast x0l : Int) ∧ stK h6 (Addr.add (Addr.add a12 (Int.toNat x7 * 1)) 0) (.int .u32 n9) (fun h13 => ((.slice x0p x0l x0c) = ((.slice x0p x0l x0c) : Value) ∧ ((.int .i64 x7) = ((.int .i64 x7) : Value) ∧ ((.int .i64 (IntKind.wrap .i64 (x7 - (1 : Int)))) = ((.int .i64 (IntKind.wrap .i64 (x7 - (1 : Int)))) : Value) ∧ ptrK x0p (fun a14 => (0 ≤ (IntKind.wrap .i64 (x7 - (1 : Int))) ∧ (IntKind.wrap .i64 (x7 - (1 : Int))) < (Nat.cast x0l : Int) ∧ stK h13 (Addr.add (Addr.add a14 (Int.toNat (IntKind.wrap .i64 (x7 - (1 : Int))) * 1)) 0) (.int .u32 n11) (fun h15 => bk4 x0p x0l x0c x1 x2 x6 (IntKind.wrap .i64 (x7 - (1 : Int))) h15)))))))))))))))) (bk1 x0p x0l x0c x1 x2 (IntKind.wrap .i64 (x6 + (1 : Int))) h6)))))))))) (bk1 x0p x0l x0c x1 x2 (IntKind.wrap .i64 (x6 + (1 : Int))) h)
theorem EL4 (S : Stop) (n1 : Nat) (n4 : Nat) (x0p : Option Addr) (x0l : Nat) (x0c : Nat) (x1 : Int) (x2 : Int) (x6 : Int) (x7 : Int) (h : Heap) (K : Value → Heap → Prop) :
    (E Try.prog X T S (sub body [1, 0, 0, 1, 0, 0, 1, 0, 0]) (c5 S n1 n4 K) [(0, (.slice x0p x0l x0c)), (1, (.int .i64 x1)), (2, (.int .i64 x2)), (6, (.int .i64 x6)), (7, (.int .i64 x7))] h) = JL4 (fun x0p x0l x0c x1 x2 x6 x7 h => S (loopN S (E Try.prog X T S (sub body [1, 0, 0, 1, 0, 0, 1, 0, 0])) (cutQ T (sub body [1, 0, 0, 1, 0, 0, 1, 0, 0])) (c4 S n1 K) n4) [(0, (.slice x0p x0l x0c)), (1, (.int .i64 x1)), (2, (.int .i64 x2)), (6, (.int .i64 x6)), (7, (.int .i64 x7))] h) (fun x0p x0l x0c x1 x2 x6 h => S (loopN S (E Try.prog X T S (sub body [1, 0, 0])) (cutQ T (sub body [1, 0, 0])) (c0 S K) n1) [(0, (.slice x0p x0l x0c)), (1, (.int .i64 x1)), (2, (.int .i64 x2)), (6, (.int .i64 x6))] h) x0p x0l x0c x1 x2 x6 x7 h K := by kernel_rfl
def wL4 (bk1 : (Option Addr) → Nat → Nat → Int → Int → Int → Heap → Prop) : Nat → (Option Addr) → Nat → Nat → Int → Int → Int → Int → Heap → (Value → Heap → Prop) → Prop
  | 0, _, _, _, _, _, _, _, _, _ => False
  | n + 1, x0p, x0l, x0c, x1, x2, x6, x7, h, K => JL4 (fun x0p x0l x0c x1 x2 x6 x7 h => wL4 bk1 n x0p x0l x0c x1 x2 x6 x7 h K) bk1 x0p x0l x0c x1 x2 x6 x7 h K
theorem eL4 (K : Value → Heap → Prop) (n1 : Nat) (bk1 : (Option Addr) → Nat → Nat → Int → Int → Int → Heap → Prop) (hb1 : ∀ (x0p : Option Addr) (x0l : Nat) (x0c : Nat) (x1 : Int) (x2 : Int) (x6 : Int) (h : Heap), (loopN S0 (E Try.prog X T S0 (sub body [1, 0, 0])) (cutQ T (sub body [1, 0, 0])) (c0 S0 K) n1 [(0, (.slice x0p x0l x0c)), (1, (.int .i64 x1)), (2, (.int .i64 x2)), (6, (.int .i64 x6))] h) = bk1 x0p x0l x0c x1 x2 x6 h) : ∀ (n : Nat) (x0p : Option Addr) (x0l : Nat) (x0c : Nat) (x1 : Int) (x2 : Int) (x6 : Int) (x7 : Int) (h : Heap), (loopN S0 (E Try.prog X T S0 (sub body [1, 0, 0, 1, 0, 0, 1, 0, 0])) (cutQ T (sub body [1, 0, 0, 1, 0, 0, 1, 0, 0])) (c4 S0 n1 K) n [(0, (.slice x0p x0l x0c)), (1, (.int .i64 x1)), (2, (.int .i64 x2)), (6, (.int .i64 x6)), (7, (.int .i64 x7))] h) = wL4 bk1 n x0p x0l x0c x1 x2 x6 x7 h K
  | 0, _, _, _, _, _, _, _, _ => rfl
  | n + 1, x0p, x0l, x0c, x1, x2, x6, x7, h => (EL4 S0 n1 n x0p x0l x0c x1 x2 x6 x7 h K).trans (congrFun (congrFun (congrFun (congrFun (congrFun (congrFun (congrFun (congrFun (congrFun (congr (congrArg JL4 (funext fun x0p => funext fun x0l => funext fun x0c => funext fun x1 => funext fun x2 => funext fun x6 => funext fun x7 => funext fun h => (fun x0p x0l x0c x1 x2 x6 x7 h => eL4 K n1 bk1 hb1 n x0p x0l x0c x1 x2 x6 x7 h) x0p x0l x0c x1 x2 x6 x7 h)) (funext fun x0p => funext fun x0l => funext fun x0c => funext fun x1 => funext fun x2 => funext fun x6 => funext fun h => hb1 x0p x0l x0c x1 x2 x6 h)) x0p) x0l) x0c) x1) x2) x6) x7) h) K)
def wk4 (bk1 : (Option Addr) → Nat → Nat → Int → Int → Int → Heap → Prop) (x0p : Option Addr) (x0l : Nat) (x0c : Nat) (x1 : Int) (x2 : Int) (x6 : Int) (x7 : Int) (h : Heap) (K : Value → Heap → Prop) : Prop :=
  Jk4 (fun x0p x0l x0c x1 x2 x6 x7 h => ∃ n, wL4 bk1 n x0p x0l x0c x1 x2 x6 x7 h K) x0p x0l x0c x1 x2 x6 x7 h K
theorem ek4 (K : Value → Heap → Prop) (n1 : Nat) (bk1 : (Option Addr) → Nat → Nat → Int → Int → Int → Heap → Prop) (hb1 : ∀ (x0p : Option Addr) (x0l : Nat) (x0c : Nat) (x1 : Int) (x2 : Int) (x6 : Int) (h : Heap), (loopN S0 (E Try.prog X T S0 (sub body [1, 0, 0])) (cutQ T (sub body [1, 0, 0])) (c0 S0 K) n1 [(0, (.slice x0p x0l x0c)), (1, (.int .i64 x1)), (2, (.int .i64 x2)), (6, (.int .i64 x6))] h) = bk1 x0p x0l x0c x1 x2 x6 h) (x0p : Option Addr) (x0l : Nat) (x0c : Nat) (x1 : Int) (x2 : Int) (x6 : Int) (x7 : Int) (h : Heap) : (E Try.prog X T S0 (sub body [1, 0, 0, 1, 0, 0, 1]) (c3 S0 n1 K) [(0, (.slice x0p x0l x0c)), (1, (.int .i64 x1)), (2, (.int .i64 x2)), (6, (.int .i64 x6)), (7, (.int .i64 x7))] h) = wk4 bk1 x0p x0l x0c x1 x2 x6 x7 h K :=
  (Ek4 S0 n1 x0p x0l x0c x1 x2 x6 x7 h K).trans (congrFun (congrFun (congrFun (congrFun (congrFun (congrFun (congrFun (congrFun (congrFun (congrArg Jk4 (funext fun x0p => funext fun x0l => funext fun x0c => funext fun x1 => funext fun x2 => funext fun x6 => funext fun x7 => funext fun h => congrArg (fun p : Nat → Prop => ∃ n, p n) (funext fun n => eL4 K n1 bk1 hb1 n x0p x0l x0c x1 x2 x6 x7 h))) x0p) x0l) x0c) x1) x2) x6) x7) h) K)
def wL1 : Nat → (Option Addr) → Nat → Nat → Int → Int → Int → Heap → (Value → Heap → Prop) → Prop
  | 0, _, _, _, _, _, _, _, _ => False
  | n + 1, x0p, x0l, x0c, x1, x2, x6, h, K => JL1 (fun x0p x0l x0c x1 x2 x6 x7 h => wk4 (fun x0p x0l x0c x1 x2 x6 h => wL1 n x0p x0l x0c x1 x2 x6 h K) x0p x0l x0c x1 x2 x6 x7 h K) x0p x0l x0c x1 x2 x6 h K
theorem eL1 (K : Value → Heap → Prop) : ∀ (n : Nat) (x0p : Option Addr) (x0l : Nat) (x0c : Nat) (x1 : Int) (x2 : Int) (x6 : Int) (h : Heap), (loopN S0 (E Try.prog X T S0 (sub body [1, 0, 0])) (cutQ T (sub body [1, 0, 0])) (c0 S0 K) n [(0, (.slice x0p x0l x0c)), (1, (.int .i64 x1)), (2, (.int .i64 x2)), (6, (.int .i64 x6))] h) = wL1 n x0p x0l x0c x1 x2 x6 h K
  | 0, _, _, _, _, _, _, _ => rfl
  | n + 1, x0p, x0l, x0c, x1, x2, x6, h => (EL1 S0 n x0p x0l x0c x1 x2 x6 h K).trans (congrFun (congrFun (congrFun (congrFun (congrFun (congrFun (congrFun (congrFun (congrArg JL1 (funext fun x0p => funext fun x0l => funext fun x0c => funext fun x1 => funext fun x2 => funext fun x6 => funext fun x7 => funext fun h => ek4 K n (fun x0p x0l x0c x1 x2 x6 h => wL1 n x0p x0l x0c x1 x2 x6 h K) (fun x0p x0l x0c x1 x2 x6 h => eL1 K n x0p x0l x0c x1 x2 x6 h) x0p x0l x0c x1 x2 x6 x7 h)) x0p) x0l) x0c) x1) x2) x6) h) K)
def wk1 (x0p : Option Addr) (x0l : Nat) (x0c : Nat) (x1 : Int) (x2 : Int) (x6 : Int) (h : Heap) (K : Value → Heap → Prop) : Prop :=
  Jk1 (fun x0p x0l x0c x1 x2 x6 h => ∃ n, wL1 n x0p x0l x0c x1 x2 x6 h K) x0p x0l x0c x1 x2 x6 h K
theorem ek1 (K : Value → Heap → Prop) (x0p : Option Addr) (x0l : Nat) (x0c : Nat) (x1 : Int) (x2 : Int) (x6 : Int) (h : Heap) : (E Try.prog X T S0 (sub body [1]) (fin Try.prog Try.f76.results.toList K) [(0, (.slice x0p x0l x0c)), (1, (.int .i64 x1)), (2, (.int .i64 x2)), (6, (.int .i64 x6))] h) = wk1 x0p x0l x0c x1 x2 x6 h K :=
  (Ek1 S0 x0p x0l x0c x1 x2 x6 h K).trans (congrFun (congrFun (congrFun (congrFun (congrFun (congrFun (congrFun (congrFun (congrArg Jk1 (funext fun x0p => funext fun x0l => funext fun x0c => funext fun x1 => funext fun x2 => funext fun x6 => funext fun h => congrArg (fun p : Nat → Prop => ∃ n, p n) (funext fun n => eL1 K n x0p x0l x0c x1 x2 x6 h))) x0p) x0l) x0c) x1) x2) x6) h) K)
def w (x0p : Option Addr) (x0l : Nat) (x0c : Nat) (x1 : Int) (x2 : Int) (h : Heap) (K : Value → Heap → Prop) : Prop :=
  J0 (fun x0p x0l x0c x1 x2 x6 h => wk1 x0p x0l x0c x1 x2 x6 h K) x0p x0l x0c x1 x2 h K
theorem e0 (K : Value → Heap → Prop) (x0p : Option Addr) (x0l : Nat) (x0c : Nat) (x1 : Int) (x2 : Int) (h : Heap) : (E Try.prog X T S0 body (fin Try.prog Try.f76.results.toList K) (args0 0 [(.slice x0p x0l x0c), (.int .i64 x1), (.int .i64 x2)]) h) = w x0p x0l x0c x1 x2 h K :=
  (E0 S0 x0p x0l x0c x1 x2 h K).trans (congrFun (congrFun (congrFun (congrFun (congrFun (congrFun (congrFun (congrArg J0 (funext fun x0p => funext fun x0l => funext fun x0c => funext fun x1 => funext fun x2 => funext fun x6 => funext fun h => ek1 K x0p x0l x0c x1 x2 x6 h)) x0p) x0l) x0c) x1) x2) h) K)
theorem hb : Try.f76.body = some body := by kernel_rfl
theorem ok : okCode T Try.f76.ntmps body = true := by kernel_rfl
theorem spec (x0p : Option Addr) (x0l : Nat) (x0c : Nat) (x1 : Int) (x2 : Int) (h : Heap) (K : Value → Heap → Prop) (H : w x0p x0l x0c x1 x2 h K) : CallsH Try.prog 76 [(.slice x0p x0l x0c), (.int .i64 x1), (.int .i64 x2)] h K :=
  calls_of_E (T := T) Xok mix Try.func76 hb ok rfl (by rw [e0]; exact H)
end F76
-- spinney/spinneylaw9.isIn
namespace F56
def T : Hint := ⟨[(2, [0, 1, 5])], []⟩
noncomputable def body : Code := (Try.f56.body).getD .skip
def c0 (S : Stop) (K : Value → Heap → Prop) : Exit → Fr → Heap → Prop := seqN S (cutQ T (sub body [1, 1])) (E Try.prog X T S (sub body [1, 1]) (fin Try.prog Try.f56.results.toList K)) (fin Try.prog Try.f56.results.toList K)
def c1 (S : Stop) (K : Value → Heap → Prop) : Exit → Fr → Heap → Prop := blockN 0 (c0 S K)
def c2 (S : Stop) (n2 : Nat) (K : Value → Heap → Prop) : Exit → Fr → Heap → Prop := backN S (cutQ T (sub body [1, 0, 1, 0, 0])) (loopN S (E Try.prog X T S (sub body [1, 0, 1, 0, 0])) (cutQ T (sub body [1, 0, 1, 0, 0])) (c1 S K) n2) (c1 S K)
def J0 (k2 : (Option Addr) → Nat → Nat → Int → Int → Heap → Prop) (x0p : Option Addr) (x0l : Nat) (x0c : Nat) (x1 : Int) (h : Heap) (_K : Value → Heap → Prop) : Prop :=
  k2 x0p x0l x0c x1 (0 : Int) h
theorem E0 (S : Stop) (x0p : Option Addr) (x0l : Nat) (x0c : Nat) (x1 : Int) (h : Heap) (K : Value → Heap → Prop) :
    (E Try.prog X T S body (fin Try.prog Try.f56.results.toList K) (args0 0 [(.slice x0p x0l x0c), (.int .u32 x1)]) h) = J0 (fun x0p x0l x0c x1 x5 h => S (E Try.prog X T S (sub body [1, 0, 1]) (c0 S K)) [(0, (.slice x0p x0l x0c)), (1, (.int .u32 x1)), (5, (.int .i64 x5))] h) x0p x0l x0c x1 h K := by kernel_rfl
def Jk2 (lp2 : (Option Addr) → Nat → Nat → Int → Int → Heap → Prop) (x0p : Option Addr) (x0l : Nat) (x0c : Nat) (x1 : Int) (x5 : Int) (h : Heap) (_K : Value → Heap → Prop) : Prop :=
  lp2 x0p x0l x0c x1 x5 h
theorem Ek2 (S : Stop) (x0p : Option Addr) (x0l : Nat) (x0c : Nat) (x1 : Int) (x5 : Int) (h : Heap) (K : Value → Heap → Prop) :
    (E Try.prog X T S (sub body [1, 0, 1]) (c0 S K) [(0, (.slice x0p x0l x0c)), (1, (.int .u32 x1)), (5, (.int .i64 x5))] h) = Jk2 (fun x0p x0l x0c x1 x5 h => ∃ n, S (loopN S (E Try.prog X T S (sub body [1, 0, 1, 0, 0])) (cutQ T (sub body [1, 0, 1, 0, 0])) (c1 S K) n) [(0, (.slice x0p x0l x0c)), (1, (.int .u32 x1)), (5, (.int .i64 x5))] h) x0p x0l x0c x1 x5 h K := by kernel_rfl
def JL2 (bk2 : (Option Addr) → Nat → Nat → Int → Int → Heap → Prop) (x0p : Option Addr) (x0l : Nat) (x0c : Nat) (x1 : Int) (x5 : Int) (h : Heap) (K : Value → Heap → Prop) : Prop :=
  bcase (decide (x5 < (Nat.cast x0l : Int))) (ptrK x0p (fun a1 => (0 ≤ x5 ∧ x5 < (Nat.cast x0l : Int) ∧ ldI .u32 (rd h (Addr.add a1 (Int.toNat x5 * 1))) (fun n2 => bcase (n2 == x1) (K (.bool true) h) (bk2 x0p x0l x0c x1 (IntKind.wrap .i64 (x5 + (1 : Int))) h))))) (K (.bool false) h)
theorem EL2 (S : Stop) (n2 : Nat) (x0p : Option Addr) (x0l : Nat) (x0c : Nat) (x1 : Int) (x5 : Int) (h : Heap) (K : Value → Heap → Prop) :
    (E Try.prog X T S (sub body [1, 0, 1, 0, 0]) (c2 S n2 K) [(0, (.slice x0p x0l x0c)), (1, (.int .u32 x1)), (5, (.int .i64 x5))] h) = JL2 (fun x0p x0l x0c x1 x5 h => S (loopN S (E Try.prog X T S (sub body [1, 0, 1, 0, 0])) (cutQ T (sub body [1, 0, 1, 0, 0])) (c1 S K) n2) [(0, (.slice x0p x0l x0c)), (1, (.int .u32 x1)), (5, (.int .i64 x5))] h) x0p x0l x0c x1 x5 h K := by kernel_rfl
def wL2 : Nat → (Option Addr) → Nat → Nat → Int → Int → Heap → (Value → Heap → Prop) → Prop
  | 0, _, _, _, _, _, _, _ => False
  | n + 1, x0p, x0l, x0c, x1, x5, h, K => JL2 (fun x0p x0l x0c x1 x5 h => wL2 n x0p x0l x0c x1 x5 h K) x0p x0l x0c x1 x5 h K
theorem eL2 (K : Value → Heap → Prop) : ∀ (n : Nat) (x0p : Option Addr) (x0l : Nat) (x0c : Nat) (x1 : Int) (x5 : Int) (h : Heap), (loopN S0 (E Try.prog X T S0 (sub body [1, 0, 1, 0, 0])) (cutQ T (sub body [1, 0, 1, 0, 0])) (c1 S0 K) n [(0, (.slice x0p x0l x0c)), (1, (.int .u32 x1)), (5, (.int .i64 x5))] h) = wL2 n x0p x0l x0c x1 x5 h K
  | 0, _, _, _, _, _, _ => rfl
  | n + 1, x0p, x0l, x0c, x1, x5, h => (EL2 S0 n x0p x0l x0c x1 x5 h K).trans (congrFun (congrFun (congrFun (congrFun (congrFun (congrFun (congrFun (congrArg JL2 (funext fun x0p => funext fun x0l => funext fun x0c => funext fun x1 => funext fun x5 => funext fun h => (fun x0p x0l x0c x1 x5 h => eL2 K n x0p x0l x0c x1 x5 h) x0p x0l x0c x1 x5 h)) x0p) x0l) x0c) x1) x5) h) K)
def wk2 (x0p : Option Addr) (x0l : Nat) (x0c : Nat) (x1 : Int) (x5 : Int) (h : Heap) (K : Value → Heap → Prop) : Prop :=
  Jk2 (fun x0p x0l x0c x1 x5 h => ∃ n, wL2 n x0p x0l x0c x1 x5 h K) x0p x0l x0c x1 x5 h K
theorem ek2 (K : Value → Heap → Prop) (x0p : Option Addr) (x0l : Nat) (x0c : Nat) (x1 : Int) (x5 : Int) (h : Heap) : (E Try.prog X T S0 (sub body [1, 0, 1]) (c0 S0 K) [(0, (.slice x0p x0l x0c)), (1, (.int .u32 x1)), (5, (.int .i64 x5))] h) = wk2 x0p x0l x0c x1 x5 h K :=
  (Ek2 S0 x0p x0l x0c x1 x5 h K).trans (congrFun (congrFun (congrFun (congrFun (congrFun (congrFun (congrFun (congrArg Jk2 (funext fun x0p => funext fun x0l => funext fun x0c => funext fun x1 => funext fun x5 => funext fun h => congrArg (fun p : Nat → Prop => ∃ n, p n) (funext fun n => eL2 K n x0p x0l x0c x1 x5 h))) x0p) x0l) x0c) x1) x5) h) K)
def w (x0p : Option Addr) (x0l : Nat) (x0c : Nat) (x1 : Int) (h : Heap) (K : Value → Heap → Prop) : Prop :=
  J0 (fun x0p x0l x0c x1 x5 h => wk2 x0p x0l x0c x1 x5 h K) x0p x0l x0c x1 h K
theorem e0 (K : Value → Heap → Prop) (x0p : Option Addr) (x0l : Nat) (x0c : Nat) (x1 : Int) (h : Heap) : (E Try.prog X T S0 body (fin Try.prog Try.f56.results.toList K) (args0 0 [(.slice x0p x0l x0c), (.int .u32 x1)]) h) = w x0p x0l x0c x1 h K :=
  (E0 S0 x0p x0l x0c x1 h K).trans (congrFun (congrFun (congrFun (congrFun (congrFun (congrFun (congrArg J0 (funext fun x0p => funext fun x0l => funext fun x0c => funext fun x1 => funext fun x5 => funext fun h => ek2 K x0p x0l x0c x1 x5 h)) x0p) x0l) x0c) x1) h) K)
theorem hb : Try.f56.body = some body := by kernel_rfl
theorem ok : okCode T Try.f56.ntmps body = true := by kernel_rfl
theorem spec (x0p : Option Addr) (x0l : Nat) (x0c : Nat) (x1 : Int) (h : Heap) (K : Value → Heap → Prop) (H : w x0p x0l x0c x1 h K) : CallsH Try.prog 56 [(.slice x0p x0l x0c), (.int .u32 x1)] h K :=
  calls_of_E (T := T) Xok mix Try.func56 hb ok rfl (by rw [e0]; exact H)
end F56
end Go.Proofs.Ytipckkeaoncjiaa.Ev
