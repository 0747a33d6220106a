/- PART 3 OF WHAT THE LAW EngineSame STANDS ON: CacF5, CacC5, CacP5, EvM, NodD5, NodG5, NodH5, NodI5, NodJ5, NodK5, StoA5, SemA5, RecF5, StoB5, StoC5, LogF5, PlyF5, FunE5, FunG5, FunH5, MakA5, PlyG5, MakB5, LogA5. Conditions: none but those that each lemma states. -/
import Derived.Test.YtnofenejoebkhaaGreatG2
namespace Go.Proofs.YtnofenejoebkhaaGreat.Ev
open Go
section
namespace F109
def w (c : Addr) (a b : Int) (h : Heap) (K : KK) : Prop :=
  bcase (decide (a < (0 : Int))) (K (.tuple #[(.pointer none), (.int .i64 61)]) h) (bcase (decide (b < (1 : Int))) (K (.tuple #[(.pointer none), (.int .i64 61)]) h) (bcase (decide (b > (1024 : Int))) (K (.tuple #[(.pointer none), (.int .i64 61)]) h) (Cl 132 [(.pointer (some c))] h (fun v1 h2 => ldI .i64 (some v1) (fun n3 => bcase (decide (a > n3)) (K (.tuple #[(.pointer none), (.int .i64 61)]) h2) (Cl 110 [(.int .i64 b)] h2 (fun v4 h5 => ldI .i64 (some v4) (fun n6 => Cl 132 [(.pointer (some c))] h5 (fun v7 h8 => ldI .i64 (some v7) (fun n9 => bcase (decide (n6 > (IntKind.wrap .i64 (n9 - a)))) (K (.tuple #[(.pointer none), (.int .i64 61)]) h8) (newK h8 (.cells #[(.pointer (some c)), (.int .i64 a), (.int .i64 b)] 247) (fun b10 h11 => K (.tuple #[(.pointer (some (Addr.mk b10 0 none))), (.int .i64 0)]) h11))))))))))))
theorem spec (c : Addr) (a b : Int) (h : Heap) (K : KK) (H : w c a b h K) : Cl 109 [(.pointer (some c)), (.int .i64 a), (.int .i64 b)] h K :=
  cE Xok mix Tryz.func109 (by kernel_rfl) (by kernel_rfl) rfl (by kernel_rfl) H
end F109
namespace F227
def T : Hint := ⟨[], [(1, [[(0, []), (1, []), (2, []), (3, []), (4, []), (5, []), (7, []), (6, [0, 1, 2, 3, 7]), (8, []), (9, []), (10, [])]])]⟩
noncomputable def body : Code := (Tryz.f227.body).getD .skip
def J0 (a : Addr) (b : Int) (h : Heap) (K : KK) : Prop :=
  ldP (rd h (a.add 0)) (fun p1 => Cl 274 [(.pointer (some a)), (.int .u64 b)] h (fun v2 h3 => ldI .i64 (some v2) (fun n4 => ((.pointer (some a)) = ((.pointer (some a)) : Value) ∧ ((.pointer (some a)) = ((.pointer (some a)) : Value) ∧ ((.pointer (some (a.add 0))) = ((.pointer (some (a.add 0))) : Value) ∧ ldP (rd h3 (a.add 0)) (fun p5 => ((.pointer p5) = ((.pointer p1) : Value) ∧ ((.int .u64 b) = ((.int .u64 b) : Value) ∧ newK h3 (.cells #[(.pointer p1), (.int .i64 n4), (.int .u64 b), (.int .u64 0), (.int .u64 0), .nilFunc, (.bool false), (.bool false), (.int .u64 0)] 345) (fun b6 h7 => stK h7 (((Addr.mk b6 0 none).add 5).add 0) (.func (.func 275) #[(.pointer (some (Addr.mk b6 0 none)))] #[]) (fun h8 => K (.pointer (some (Addr.mk b6 0 none))) h8)))))))))))
theorem E0 (S : Stop) (a : Addr) (b : Int) (h : Heap) (K : KK) : (E Tryz.prog X T S body (fin Tryz.prog Tryz.f227.results.toList K) (args0 0 [(.pointer (some a)), (.int .u64 b)]) h) = J0 a b h K := by kernel_rfl
def w (a : Addr) (b : Int) (h : Heap) (K : KK) : Prop :=
  J0 a b h K
theorem e0 (K : KK) (a : Addr) (b : Int) (h : Heap) : (E Tryz.prog X T S0 body (fin Tryz.prog Tryz.f227.results.toList K) (args0 0 [(.pointer (some a)), (.int .u64 b)]) h) = w a b h K := (E0 S0 a b h K).trans (rfl)
theorem hb : Tryz.f227.body = some body := by kernel_rfl
theorem ok : okCode T Tryz.f227.ntmps body = true := by kernel_rfl
theorem spec (a : Addr) (b : Int) (h : Heap) (K : KK) (H : w a b h K) : Cl 227 [(.pointer (some a)), (.int .u64 b)] h K :=
  calls_of_E (T := T) Xok mix Tryz.func227 hb ok rfl (by rw [e0]; exact H)
end F227
namespace F252
def T : Hint := ⟨[], [(1, [[(0, []), (1, []), (2, []), (3, []), (4, []), (5, []), (7, []), (8, []), (6, [0, 1, 2, 3, 7, 8]), (9, []), (10, []), (11, [])]])]⟩
noncomputable def body : Code := (Tryz.f252.body).getD .skip
def J0 (a : Addr) (b c : Int) (h : Heap) (K : KK) : Prop :=
  ldP (rd h (a.add 0)) (fun p1 => Cl 274 [(.pointer (some a)), (.int .u64 b)] h (fun v2 h3 => ldI .i64 (some v2) (fun n4 => ((.pointer (some a)) = ((.pointer (some a)) : Value) ∧ ((.pointer (some a)) = ((.pointer (some a)) : Value) ∧ ((.pointer (some (a.add 0))) = ((.pointer (some (a.add 0))) : Value) ∧ ldP (rd h3 (a.add 0)) (fun p5 => ((.pointer p5) = ((.pointer p1) : Value) ∧ ((.int .u64 b) = ((.int .u64 b) : Value) ∧ ((.int .u64 c) = ((.int .u64 c) : Value) ∧ newK h3 (.cells #[(.pointer p1), (.int .i64 n4), (.int .u64 b), (.int .u64 c), (.int .u64 0), .nilFunc, (.bool false), (.bool false), (.int .u64 0)] 345) (fun b6 h7 => stK h7 (((Addr.mk b6 0 none).add 5).add 0) (.func (.func 287) #[(.pointer (some (Addr.mk b6 0 none)))] #[]) (fun h8 => K (.pointer (some (Addr.mk b6 0 none))) h8))))))))))))
theorem E0 (S : Stop) (a : Addr) (b c : Int) (h : Heap) (K : KK) : (E Tryz.prog X T S body (fin Tryz.prog Tryz.f252.results.toList K) (args0 0 [(.pointer (some a)), (.int .u64 b), (.int .u64 c)]) h) = J0 a b c h K := by kernel_rfl
def w (a : Addr) (b c : Int) (h : Heap) (K : KK) : Prop :=
  J0 a b c h K
theorem e0 (K : KK) (a : Addr) (b c : Int) (h : Heap) : (E Tryz.prog X T S0 body (fin Tryz.prog Tryz.f252.results.toList K) (args0 0 [(.pointer (some a)), (.int .u64 b), (.int .u64 c)]) h) = w a b c h K := (E0 S0 a b c h K).trans (rfl)
theorem hb : Tryz.f252.body = some body := by kernel_rfl
theorem ok : okCode T Tryz.f252.ntmps body = true := by kernel_rfl
theorem spec (a : Addr) (b c : Int) (h : Heap) (K : KK) (H : w a b c h K) : Cl 252 [(.pointer (some a)), (.int .u64 b), (.int .u64 c)] h K :=
  calls_of_E (T := T) Xok mix Tryz.func252 hb ok rfl (by rw [e0]; exact H)
end F252
namespace F229
def T : Hint := ⟨[(3, [0])], []⟩
noncomputable def body : Code := (Tryz.f229.body).getD .skip
noncomputable def en (S : Stop) (p : List Nat) (κ : XK) : Fr → Heap → Prop := E Tryz.prog X T S (sub body p) κ
def fn (K : KK) : XK := fin Tryz.prog Tryz.f229.results.toList K
def f3 (a : Addr) : Fr := [(0, (.pointer (some a)))]
def J0 (k3 : Addr → Heap → Prop) (a : Addr) (h : Heap) (_K : KK) : Prop :=
  ldB (rd h (a.add 6)) (fun b1 => bcase (!b1) (ldV (rd h (a.add 5)) (fun v2 => dynK Tryz.prog X v2 [] h (fun v3 h4 => (v3 = (.tuple #[]) ∧ k3 a h4)))) (k3 a h))
theorem E0 (S : Stop) (a : Addr) (h : Heap) (K : KK) : (E Tryz.prog X T S body (fin Tryz.prog Tryz.f229.results.toList K) (args0 0 [(.pointer (some a))]) h) = J0 (fun a h => S (en S [1, 1] (fn K)) (f3 a) h) a h K := by kernel_rfl
def Jk3 (a : Addr) (h : Heap) (K : KK) : Prop :=
  ldB (rd h (a.add 6)) (fun b1 => K (.bool b1) h)
theorem Ek3 (S : Stop) (a : Addr) (h : Heap) (K : KK) : (en S [1, 1] (fn K) (f3 a) h) = Jk3 a h K := by kernel_rfl
def wk3 (a : Addr) (h : Heap) (K : KK) : Prop :=
  Jk3 a h K
theorem ek3 (K : KK) (a : Addr) (h : Heap) : (en S0 [1, 1] (fn K) (f3 a) h) = wk3 a h K := (Ek3 S0 a h K).trans (rfl)
def w (a : Addr) (h : Heap) (K : KK) : Prop :=
  J0 (fun a h => wk3 a h K) a h K
theorem e0 (K : KK) (a : Addr) (h : Heap) : (E Tryz.prog X T S0 body (fin Tryz.prog Tryz.f229.results.toList K) (args0 0 [(.pointer (some a))]) h) = w a h K := (E0 S0 a h K).trans (cg1 (fun q0 => J0 q0 a h K) (by funext a h; exact ek3 K a h))
theorem hb : Tryz.f229.body = some body := by kernel_rfl
theorem ok : okCode T Tryz.f229.ntmps body = true := by kernel_rfl
theorem spec (a : Addr) (h : Heap) (K : KK) (H : w a h K) : Cl 229 [(.pointer (some a))] h K :=
  calls_of_E (T := T) Xok mix Tryz.func229 hb ok rfl (by rw [e0]; exact H)
end F229
namespace F230
def w (a : Addr) (h : Heap) (K : KK) : Prop :=
  ldB (rd h (a.add 6)) (fun b1 => bcase (!b1) (K (.tuple #[(.int .u64 0), (.bool false)]) h) (ldB (rd h (a.add 7)) (fun b2 => bcase (!b2) (K (.tuple #[(.int .u64 0), (.bool false)]) h) (ldI .u64 (rd h (a.add 8)) (fun n3 => K (.tuple #[(.int .u64 n3), (.bool true)]) h)))))
theorem spec (a : Addr) (h : Heap) (K : KK) (H : w a h K) : Cl 230 [(.pointer (some a))] h K :=
  cE Xok mix Tryz.func230 (by kernel_rfl) (by kernel_rfl) rfl (by kernel_rfl) H
end F230
namespace F274
def T : Hint := ⟨[], [(1, [[(0, []), (1, []), (2, []), (3, []), (4, []), (5, []), (6, []), (7, []), (8, []), (9, [0, 1, 2, 3]), (10, []), (11, []), (12, [])]])]⟩
noncomputable def body : Code := (Tryz.f274.body).getD .skip
def J0 (a : Addr) (b : Int) (h : Heap) (K : KK) : Prop :=
  ldI .i64 (rd h (a.add 1)) (fun n1 => ldI .i64 (rd h (a.add 2)) (fun n2 => Cl 246 [(.int .u64 b), (.int .i64 n2)] h (fun v3 h4 => ldI .i64 (some v3) (fun n5 => ((.pointer (some a)) = ((.pointer (some a)) : Value) ∧ ((.pointer (some a)) = ((.pointer (some a)) : Value) ∧ ((.pointer (some (a.add 1))) = ((.pointer (some (a.add 1))) : Value) ∧ ldI .i64 (rd h4 (a.add 1)) (fun n6 => ((.int .i64 n6) = ((.int .i64 n1) : Value) ∧ K (.int .i64 (IntKind.wrap .i64 (n1 + (IntKind.wrap .i64 ((3 : Int) * n5))))) h4)))))))))
theorem E0 (S : Stop) (a : Addr) (b : Int) (h : Heap) (K : KK) : (E Tryz.prog X T S body (fin Tryz.prog Tryz.f274.results.toList K) (args0 0 [(.pointer (some a)), (.int .u64 b)]) h) = J0 a b h K := by kernel_rfl
def w (a : Addr) (b : Int) (h : Heap) (K : KK) : Prop :=
  J0 a b h K
theorem e0 (K : KK) (a : Addr) (b : Int) (h : Heap) : (E Tryz.prog X T S0 body (fin Tryz.prog Tryz.f274.results.toList K) (args0 0 [(.pointer (some a)), (.int .u64 b)]) h) = w a b h K := (E0 S0 a b h K).trans (rfl)
theorem hb : Tryz.f274.body = some body := by kernel_rfl
theorem ok : okCode T Tryz.f274.ntmps body = true := by kernel_rfl
theorem spec (a : Addr) (b : Int) (h : Heap) (K : KK) (H : w a b h K) : Cl 274 [(.pointer (some a)), (.int .u64 b)] h K :=
  calls_of_E (T := T) Xok mix Tryz.func274 hb ok rfl (by rw [e0]; exact H)
end F274
namespace F275
def T : Hint := ⟨[], [(0, [[(0, []), (1, []), (2, []), (3, []), (4, []), (5, []), (6, []), (7, []), (8, []), (9, [0]), (10, []), (11, []), (12, [])]])]⟩
noncomputable def body : Code := (Tryz.f275.body).getD .skip
def J0 (a : Addr) (h : Heap) (K : KK) : Prop :=
  ldP (rd h (a.add 0)) (fun p1 => ldI .i64 (rd h (a.add 1)) (fun n2 => Cl 162 [(.pointer p1), (.int .i64 n2)] h (fun v3 h4 => ldI .u64 (some v3) (fun n5 => ((.pointer (some a)) = ((.pointer (some a)) : Value) ∧ stK h4 ((a.add 4).add 0) (.int .u64 n5) (fun h6 => stK h6 ((a.add 5).add 0) (.func (.func 302) #[(.pointer (some a))] #[]) (fun h7 => ldI .u64 (rd h7 (a.add 4)) (fun n8 => stK h7 ((a.add 6).add 0) (.bool ((bitsI .and .u64 n8 (3 : Int)) != (2 : Int))) (fun h9 => K (.tuple #[]) h9)))))))))
theorem E0 (S : Stop) (a : Addr) (h : Heap) (K : KK) : (E Tryz.prog X T S body (fin Tryz.prog Tryz.f275.results.toList K) (args0 0 [(.pointer (some a))]) h) = J0 a h K := by kernel_rfl
def w (a : Addr) (h : Heap) (K : KK) : Prop :=
  J0 a h K
theorem e0 (K : KK) (a : Addr) (h : Heap) : (E Tryz.prog X T S0 body (fin Tryz.prog Tryz.f275.results.toList K) (args0 0 [(.pointer (some a))]) h) = w a h K := (E0 S0 a h K).trans (rfl)
theorem hb : Tryz.f275.body = some body := by kernel_rfl
theorem ok : okCode T Tryz.f275.ntmps body = true := by kernel_rfl
theorem spec (a : Addr) (h : Heap) (K : KK) (H : w a h K) : Cl 275 [(.pointer (some a))] h K :=
  calls_of_E (T := T) Xok mix Tryz.func275 hb ok rfl (by rw [e0]; exact H)
end F275
namespace F287
def T : Hint := ⟨[], [(0, [[(0, []), (1, []), (2, []), (3, []), (4, []), (5, []), (6, []), (7, []), (8, []), (9, [0]), (10, []), (11, []), (12, [])]])]⟩
noncomputable def body : Code := (Tryz.f287.body).getD .skip
def J0 (a : Addr) (h : Heap) (K : KK) : Prop :=
  ldP (rd h (a.add 0)) (fun p1 => ldI .i64 (rd h (a.add 1)) (fun n2 => Cl 162 [(.pointer p1), (.int .i64 n2)] h (fun v3 h4 => ldI .u64 (some v3) (fun n5 => ((.pointer (some a)) = ((.pointer (some a)) : Value) ∧ stK h4 ((a.add 4).add 0) (.int .u64 n5) (fun h6 => stK h6 ((a.add 5).add 0) (.func (.func 308) #[(.pointer (some a))] #[]) (fun h7 => ldI .u64 (rd h7 (a.add 4)) (fun n8 => stK h7 ((a.add 6).add 0) (.bool ((bitsI .and .u64 n8 (1 : Int)) != (0 : Int))) (fun h9 => K (.tuple #[]) h9)))))))))
theorem E0 (S : Stop) (a : Addr) (h : Heap) (K : KK) : (E Tryz.prog X T S body (fin Tryz.prog Tryz.f287.results.toList K) (args0 0 [(.pointer (some a))]) h) = J0 a h K := by kernel_rfl
def w (a : Addr) (h : Heap) (K : KK) : Prop :=
  J0 a h K
theorem e0 (K : KK) (a : Addr) (h : Heap) : (E Tryz.prog X T S0 body (fin Tryz.prog Tryz.f287.results.toList K) (args0 0 [(.pointer (some a))]) h) = w a h K := (E0 S0 a h K).trans (rfl)
theorem hb : Tryz.f287.body = some body := by kernel_rfl
theorem ok : okCode T Tryz.f287.ntmps body = true := by kernel_rfl
theorem spec (a : Addr) (h : Heap) (K : KK) (H : w a h K) : Cl 287 [(.pointer (some a))] h K :=
  calls_of_E (T := T) Xok mix Tryz.func287 hb ok rfl (by rw [e0]; exact H)
end F287
namespace F302
def T : Hint := ⟨[], [(0, [[(0, []), (1, []), (2, []), (3, []), (4, []), (5, []), (6, []), (7, []), (8, []), (9, []), (11, []), (12, []), (13, []), (14, []), (10, [0, 11, 12, 13, 14]), (15, []), (16, []), (17, []), (18, [])]])]⟩
noncomputable def body : Code := (Tryz.f302.body).getD .skip
def J0 (a : Addr) (h : Heap) (K : KK) : Prop :=
  ldP (rd h (a.add 0)) (fun p1 => ldI .i64 (rd h (a.add 1)) (fun n2 => ldI .u64 (rd h (a.add 2)) (fun n3 => Cl 162 [(.pointer p1), (.int .i64 (IntKind.wrap .i64 (n2 + (1 : Int))))] h (fun v4 h5 => ldI .u64 (some v4) (fun n6 => ((.pointer (some a)) = ((.pointer (some a)) : Value) ∧ ((.pointer (some a)) = ((.pointer (some a)) : Value) ∧ ((.pointer (some a)) = ((.pointer (some a)) : Value) ∧ ((.pointer (some (a.add 2))) = ((.pointer (some (a.add 2))) : Value) ∧ ldI .u64 (rd h5 (a.add 2)) (fun n7 => ((.int .u64 n7) = ((.int .u64 n3) : Value) ∧ stK h5 ((a.add 6).add 0) (.bool (n6 != n3)) (fun h8 => stK h8 ((a.add 5).add 0) (.func (.func 336) #[(.pointer (some a))] #[]) (fun h9 => K (.tuple #[]) h9)))))))))))))
theorem E0 (S : Stop) (a : Addr) (h : Heap) (K : KK) : (E Tryz.prog X T S body (fin Tryz.prog Tryz.f302.results.toList K) (args0 0 [(.pointer (some a))]) h) = J0 a h K := by kernel_rfl
def w (a : Addr) (h : Heap) (K : KK) : Prop :=
  J0 a h K
theorem e0 (K : KK) (a : Addr) (h : Heap) : (E Tryz.prog X T S0 body (fin Tryz.prog Tryz.f302.results.toList K) (args0 0 [(.pointer (some a))]) h) = w a h K := (E0 S0 a h K).trans (rfl)
theorem hb : Tryz.f302.body = some body := by kernel_rfl
theorem ok : okCode T Tryz.f302.ntmps body = true := by kernel_rfl
theorem spec (a : Addr) (h : Heap) (K : KK) (H : w a h K) : Cl 302 [(.pointer (some a))] h K :=
  calls_of_E (T := T) Xok mix Tryz.func302 hb ok rfl (by rw [e0]; exact H)
end F302
namespace F308
def T : Hint := ⟨[], [(1, [[(0, []), (1, []), (2, []), (3, []), (4, []), (5, []), (6, []), (7, []), (8, []), (9, []), (10, []), (11, []), (12, []), (13, []), (14, []), (15, []), (16, []), (17, []), (18, [0]), (19, []), (20, []), (21, []), (22, [])]])]⟩
noncomputable def body : Code := (Tryz.f308.body).getD .skip
def J0 (a : Addr) (h : Heap) (K : KK) : Prop :=
  stK h ((a.add 5).add 0) (.func (.func 338) #[(.pointer (some a))] #[]) (fun h1 => ldP (rd h1 (a.add 0)) (fun p2 => ldI .i64 (rd h1 (a.add 1)) (fun n3 => ldI .u64 (rd h1 (a.add 4)) (fun n4 => ldI .u64 (rd h1 (a.add 4)) (fun n5 => Cl 163 [(.pointer p2), (.int .i64 n3), (.int .u64 n4), (.int .u64 (bitsI .or .u64 n5 (1 : Int)))] h1 (fun v6 h7 => ldB (some v6) (fun b8 => ((.pointer (some a)) = ((.pointer (some a)) : Value) ∧ stK h7 ((a.add 6).add 0) (.bool (!b8)) (fun h9 => K (.tuple #[]) h9)))))))))
theorem E0 (S : Stop) (a : Addr) (h : Heap) (K : KK) : (E Tryz.prog X T S body (fin Tryz.prog Tryz.f308.results.toList K) (args0 0 [(.pointer (some a))]) h) = J0 a h K := by kernel_rfl
def w (a : Addr) (h : Heap) (K : KK) : Prop :=
  J0 a h K
theorem e0 (K : KK) (a : Addr) (h : Heap) : (E Tryz.prog X T S0 body (fin Tryz.prog Tryz.f308.results.toList K) (args0 0 [(.pointer (some a))]) h) = w a h K := (E0 S0 a h K).trans (rfl)
theorem hb : Tryz.f308.body = some body := by kernel_rfl
theorem ok : okCode T Tryz.f308.ntmps body = true := by kernel_rfl
theorem spec (a : Addr) (h : Heap) (K : KK) (H : w a h K) : Cl 308 [(.pointer (some a))] h K :=
  calls_of_E (T := T) Xok mix Tryz.func308 hb ok rfl (by rw [e0]; exact H)
end F308
namespace F336
def T : Hint := ⟨[], [(0, [[(0, []), (1, []), (2, []), (3, []), (4, []), (5, []), (6, []), (7, []), (8, []), (9, []), (10, [0]), (11, []), (12, []), (13, [])]])]⟩
noncomputable def body : Code := (Tryz.f336.body).getD .skip
def J0 (a : Addr) (h : Heap) (K : KK) : Prop :=
  ldP (rd h (a.add 0)) (fun p1 => ldI .i64 (rd h (a.add 1)) (fun n2 => Cl 162 [(.pointer p1), (.int .i64 (IntKind.wrap .i64 (n2 + (2 : Int))))] h (fun v3 h4 => ldI .u64 (some v3) (fun n5 => ((.pointer (some a)) = ((.pointer (some a)) : Value) ∧ stK h4 ((a.add 8).add 0) (.int .u64 n5) (fun h6 => stK h6 ((a.add 5).add 0) (.func (.func 355) #[(.pointer (some a))] #[]) (fun h7 => K (.tuple #[]) h7)))))))
theorem E0 (S : Stop) (a : Addr) (h : Heap) (K : KK) : (E Tryz.prog X T S body (fin Tryz.prog Tryz.f336.results.toList K) (args0 0 [(.pointer (some a))]) h) = J0 a h K := by kernel_rfl
def w (a : Addr) (h : Heap) (K : KK) : Prop :=
  J0 a h K
theorem e0 (K : KK) (a : Addr) (h : Heap) : (E Tryz.prog X T S0 body (fin Tryz.prog Tryz.f336.results.toList K) (args0 0 [(.pointer (some a))]) h) = w a h K := (E0 S0 a h K).trans (rfl)
theorem hb : Tryz.f336.body = some body := by kernel_rfl
theorem ok : okCode T Tryz.f336.ntmps body = true := by kernel_rfl
theorem spec (a : Addr) (h : Heap) (K : KK) (H : w a h K) : Cl 336 [(.pointer (some a))] h K :=
  calls_of_E (T := T) Xok mix Tryz.func336 hb ok rfl (by rw [e0]; exact H)
end F336
namespace F338
def T : Hint := ⟨[], [(0, [[(0, []), (1, []), (2, []), (3, []), (4, []), (5, []), (6, []), (7, []), (8, []), (9, []), (10, []), (11, []), (12, []), (13, [])]])]⟩
noncomputable def body : Code := (Tryz.f338.body).getD .skip
def J0 (a : Addr) (h : Heap) (K : KK) : Prop :=
  ldP (rd h (a.add 0)) (fun p1 => ldI .i64 (rd h (a.add 1)) (fun n2 => ldI .u64 (rd h (a.add 2)) (fun n3 => Cl 282 [(.pointer p1), (.int .i64 (IntKind.wrap .i64 (n2 + (1 : Int)))), (.int .u64 n3)] h (fun v4 h5 => (v4 = (.tuple #[]) ∧ stK h5 ((a.add 5).add 0) (.func (.func 356) #[(.pointer (some a))] #[]) (fun h6 => K (.tuple #[]) h6))))))
theorem E0 (S : Stop) (a : Addr) (h : Heap) (K : KK) : (E Tryz.prog X T S body (fin Tryz.prog Tryz.f338.results.toList K) (args0 0 [(.pointer (some a))]) h) = J0 a h K := by kernel_rfl
def w (a : Addr) (h : Heap) (K : KK) : Prop :=
  J0 a h K
theorem e0 (K : KK) (a : Addr) (h : Heap) : (E Tryz.prog X T S0 body (fin Tryz.prog Tryz.f338.results.toList K) (args0 0 [(.pointer (some a))]) h) = w a h K := (E0 S0 a h K).trans (rfl)
theorem hb : Tryz.f338.body = some body := by kernel_rfl
theorem ok : okCode T Tryz.f338.ntmps body = true := by kernel_rfl
theorem spec (a : Addr) (h : Heap) (K : KK) (H : w a h K) : Cl 338 [(.pointer (some a))] h K :=
  calls_of_E (T := T) Xok mix Tryz.func338 hb ok rfl (by rw [e0]; exact H)
end F338
namespace F355
def T : Hint := ⟨[], [(0, [[(0, []), (1, []), (2, []), (3, []), (4, []), (5, []), (6, []), (7, []), (8, []), (10, []), (11, []), (12, []), (13, []), (9, [0, 10, 11, 12, 13]), (14, []), (15, []), (16, []), (17, [])]])]⟩
noncomputable def body : Code := (Tryz.f355.body).getD .skip
def J0 (a : Addr) (h : Heap) (K : KK) : Prop :=
  ldP (rd h (a.add 0)) (fun p1 => ldI .i64 (rd h (a.add 1)) (fun n2 => ldI .u64 (rd h (a.add 4)) (fun n3 => Cl 162 [(.pointer p1), (.int .i64 n2)] h (fun v4 h5 => ldI .u64 (some v4) (fun n6 => ((.pointer (some a)) = ((.pointer (some a)) : Value) ∧ ((.pointer (some a)) = ((.pointer (some a)) : Value) ∧ ((.pointer (some a)) = ((.pointer (some a)) : Value) ∧ ((.pointer (some (a.add 4))) = ((.pointer (some (a.add 4))) : Value) ∧ ldI .u64 (rd h5 (a.add 4)) (fun n7 => ((.int .u64 n7) = ((.int .u64 n3) : Value) ∧ stK h5 ((a.add 7).add 0) (.bool (n6 == n3)) (fun h8 => stK h8 ((a.add 6).add 0) (.bool true) (fun h9 => K (.tuple #[]) h9)))))))))))))
theorem E0 (S : Stop) (a : Addr) (h : Heap) (K : KK) : (E Tryz.prog X T S body (fin Tryz.prog Tryz.f355.results.toList K) (args0 0 [(.pointer (some a))]) h) = J0 a h K := by kernel_rfl
def w (a : Addr) (h : Heap) (K : KK) : Prop :=
  J0 a h K
theorem e0 (K : KK) (a : Addr) (h : Heap) : (E Tryz.prog X T S0 body (fin Tryz.prog Tryz.f355.results.toList K) (args0 0 [(.pointer (some a))]) h) = w a h K := (E0 S0 a h K).trans (rfl)
theorem hb : Tryz.f355.body = some body := by kernel_rfl
theorem ok : okCode T Tryz.f355.ntmps body = true := by kernel_rfl
theorem spec (a : Addr) (h : Heap) (K : KK) (H : w a h K) : Cl 355 [(.pointer (some a))] h K :=
  calls_of_E (T := T) Xok mix Tryz.func355 hb ok rfl (by rw [e0]; exact H)
end F355
namespace F356
def T : Hint := ⟨[], [(0, [[(0, []), (1, []), (2, []), (3, []), (4, []), (5, []), (6, []), (7, []), (8, []), (9, []), (10, []), (11, []), (12, []), (13, [])]])]⟩
noncomputable def body : Code := (Tryz.f356.body).getD .skip
def J0 (a : Addr) (h : Heap) (K : KK) : Prop :=
  ldP (rd h (a.add 0)) (fun p1 => ldI .i64 (rd h (a.add 1)) (fun n2 => ldI .u64 (rd h (a.add 3)) (fun n3 => Cl 282 [(.pointer p1), (.int .i64 (IntKind.wrap .i64 (n2 + (2 : Int)))), (.int .u64 n3)] h (fun v4 h5 => (v4 = (.tuple #[]) ∧ stK h5 ((a.add 5).add 0) (.func (.func 368) #[(.pointer (some a))] #[]) (fun h6 => K (.tuple #[]) h6))))))
theorem E0 (S : Stop) (a : Addr) (h : Heap) (K : KK) : (E Tryz.prog X T S body (fin Tryz.prog Tryz.f356.results.toList K) (args0 0 [(.pointer (some a))]) h) = J0 a h K := by kernel_rfl
def w (a : Addr) (h : Heap) (K : KK) : Prop :=
  J0 a h K
theorem e0 (K : KK) (a : Addr) (h : Heap) : (E Tryz.prog X T S0 body (fin Tryz.prog Tryz.f356.results.toList K) (args0 0 [(.pointer (some a))]) h) = w a h K := (E0 S0 a h K).trans (rfl)
theorem hb : Tryz.f356.body = some body := by kernel_rfl
theorem ok : okCode T Tryz.f356.ntmps body = true := by kernel_rfl
theorem spec (a : Addr) (h : Heap) (K : KK) (H : w a h K) : Cl 356 [(.pointer (some a))] h K :=
  calls_of_E (T := T) Xok mix Tryz.func356 hb ok rfl (by rw [e0]; exact H)
end F356
namespace F368
def T : Hint := ⟨[], [(0, [[(0, []), (1, []), (2, []), (3, []), (4, []), (5, []), (6, []), (7, []), (8, []), (9, []), (10, []), (11, []), (12, []), (13, []), (14, [])]])]⟩
noncomputable def body : Code := (Tryz.f368.body).getD .skip
def J0 (a : Addr) (h : Heap) (K : KK) : Prop :=
  ldP (rd h (a.add 0)) (fun p1 => ldI .i64 (rd h (a.add 1)) (fun n2 => ldI .u64 (rd h (a.add 4)) (fun n3 => Cl 282 [(.pointer p1), (.int .i64 n2), (.int .u64 (IntKind.wrap .u64 ((bitsI .or .u64 n3 (2 : Int)) + (4 : Int))))] h (fun v4 h5 => (v4 = (.tuple #[]) ∧ stK h5 ((a.add 6).add 0) (.bool true) (fun h6 => K (.tuple #[]) h6))))))
theorem E0 (S : Stop) (a : Addr) (h : Heap) (K : KK) : (E Tryz.prog X T S body (fin Tryz.prog Tryz.f368.results.toList K) (args0 0 [(.pointer (some a))]) h) = J0 a h K := by kernel_rfl
def w (a : Addr) (h : Heap) (K : KK) : Prop :=
  J0 a h K
theorem e0 (K : KK) (a : Addr) (h : Heap) : (E Tryz.prog X T S0 body (fin Tryz.prog Tryz.f368.results.toList K) (args0 0 [(.pointer (some a))]) h) = w a h K := (E0 S0 a h K).trans (rfl)
theorem hb : Tryz.f368.body = some body := by kernel_rfl
theorem ok : okCode T Tryz.f368.ntmps body = true := by kernel_rfl
theorem spec (a : Addr) (h : Heap) (K : KK) (H : w a h K) : Cl 368 [(.pointer (some a))] h K :=
  calls_of_E (T := T) Xok mix Tryz.func368 hb ok rfl (by rw [e0]; exact H)
end F368
end
section
def CacIs (h : Heap) (c m base n : Nat) : Prop := At h c [.pointer (some ⟨m, 0, none⟩), .int .i64 (base : Int), .int .i64 (n : Int)]
theorem CacIs.only {S : List Nat} {h h' : Heap} {t m base n : Nat} (H : CacIs h t m base n) (O : Only S h h') (ht : t ∉ S) : CacIs h' t m base n := At.only H O ht
structure Ac where
  key : Int
  val : Int
  pos : Nat
  ver : Int
  ph : Nat
  done : Bool
  ok : Bool
  got : Int
def phf : Nat → Nat
  | 0 => 287
  | 1 => 308
  | 2 => 338
  | 3 => 356
  | 4 => 368
  | 5 => 275
  | 6 => 302
  | 7 => 336
  | _ => 355
theorem go287 : xget X 287 = some Ext.go := by kernel_rfl
theorem go308 : xget X 308 = some Ext.go := by kernel_rfl
theorem go338 : xget X 338 = some Ext.go := by kernel_rfl
theorem go356 : xget X 356 = some Ext.go := by kernel_rfl
theorem go368 : xget X 368 = some Ext.go := by kernel_rfl
theorem go275 : xget X 275 = some Ext.go := by kernel_rfl
theorem go302 : xget X 302 = some Ext.go := by kernel_rfl
theorem go336 : xget X 336 = some Ext.go := by kernel_rfl
theorem go355 : xget X 355 = some Ext.go := by kernel_rfl
theorem phf_go : ∀ k, k ≤ 8 → xget X (phf k) = some Ext.go
  | 0, _ => go287
  | 1, _ => go308
  | 2, _ => go338
  | 3, _ => go356
  | 4, _ => go368
  | 5, _ => go275
  | 6, _ => go302
  | 7, _ => go336
  | 8, _ => go355
def nxa (f ph : Nat) : Value := .func (.func (phf ph)) #[.pointer (some ⟨f, 0, none⟩)] #[]
def ActIs (h : Heap) (f m : Nat) (A : Ac) : Prop :=
  At h f [.pointer (some ⟨m, 0, none⟩), .int .i64 (A.pos : Int), .int .u64 A.key, .int .u64 A.val, .int .u64 A.ver, nxa f A.ph, .bool A.done, .bool A.ok, .int .u64 A.got]
theorem ActIs.only {S : List Nat} {h h' : Heap} {f m : Nat} {A : Ac} (H : ActIs h f m A) (O : Only S h h') (ht : f ∉ S) : ActIs h' f m A := At.only H O ht

def stepA (cs : List Int) (A : Ac) : Ac × List Int :=
  if A.done then (A, cs) else
  match A.ph with
  | 0 => ({ A with ver := cs.getD A.pos 0, ph := 1, done := bitsI .and .u64 (cs.getD A.pos 0) 1 != 0 }, cs)
  | 1 => if cs.getD A.pos 0 = A.ver then ({ A with ph := 2, done := false }, cs.set A.pos (bitsI .or .u64 A.ver 1)) else ({ A with ph := 2, done := true }, cs)
  | 2 => ({ A with ph := 3 }, cs.set (A.pos + 1) A.key)
  | 3 => ({ A with ph := 4 }, cs.set (A.pos + 2) A.val)
  | 4 => ({ A with done := true }, cs.set A.pos (IntKind.wrap .u64 (bitsI .or .u64 A.ver 2 + 4)))
  | 5 => ({ A with ver := cs.getD A.pos 0, ph := 6, done := bitsI .and .u64 (cs.getD A.pos 0) 3 != 2 }, cs)
  | 6 => ({ A with ph := 7, done := cs.getD (A.pos + 1) 0 != A.key }, cs)
  | 7 => ({ A with ph := 8, got := cs.getD (A.pos + 2) 0 }, cs)
  | _ => ({ A with ok := cs.getD A.pos 0 == A.ver, done := true }, cs)
theorem stepA_len {cs : List Int} {A : Ac} : (stepA cs A).2.length = cs.length := by
  unfold stepA
  repeat' split
  all_goals simp

section
variable {h : Heap} {f c m mc base n : Nat} {cs : List Int} {ops fails : Int} {A : Ac} {K : Value → Heap → Prop}
theorem stepA_spec (H : ActIs h f m A) (M : MemIs h m mc cs ops fails) (hp : A.pos + 2 < cs.length) (hc : cs.length < 1000000000) (hph : A.ph ≤ 8) (d2 : f ≠ m) (d3 : f ≠ mc)
    (hK : ∀ h' ops' fails', ActIs h' f m (stepA cs A).1 → MemIs h' m mc (stepA cs A).2 ops' fails' → Only [f, m, mc] h h' → K (.bool (stepA cs A).1.done) h') :
    CallsH Tryz.prog 229 [.pointer (some ⟨f, 0, none⟩)] h K := by
  apply F229.spec
  unfold F229.w F229.J0
  simp only [add_mk, Nat.zero_add]
  refine ldB_of (n := A.done) (by rw [At.rd H]; rfl) ?_
  have hend : ∀ h' ops' fails', ActIs h' f m (stepA cs A).1 → MemIs h' m mc (stepA cs A).2 ops' fails' → Only [f, m, mc] h h' → F229.wk3 ⟨f, 0, none⟩ h' K := by
    intro h' ops' fails' a1 a2 a3
    unfold F229.wk3 F229.Jk3
    simp only [add_mk, Nat.zero_add]
    exact ldB_of (by rw [At.rd a1]; rfl) (hK h' ops' fails' a1 a2 a3)
  cases hd : A.done with
  | true =>
    rw [Bool.not_true, bcase_false]
    have e : stepA cs A = (A, cs) := by unfold stepA; rw [if_pos hd]
    rw [e] at hend
    exact hend h ops fails H M (Only.refl _ _)
  | false =>
    rw [Bool.not_false, bcase_true]
    have hs : ∀ b ∈ [m, mc], b ∈ [f, m, mc] := by simp +contextual
    have hS : ∀ b ∈ [f], b ∈ [f, m, mc] := by simp
    have d2' := d2.symm
    have d3' := d3.symm
    have w1 : IntKind.wrap .i64 ((A.pos : Int) + 1) = ((A.pos + 1 : Nat) : Int) := by rw [wrap_i64 (by omega) (by omega)]; simp
    have w2 : IntKind.wrap .i64 ((A.pos : Int) + 2) = ((A.pos + 2 : Nat) : Int) := by rw [wrap_i64 (by omega) (by omega)]; simp
    unfold stepA at hend
    rw [if_neg (by simp [hd])] at hend
    have hx := phf_go A.ph hph
    refine ⟨_, by rw [At.rd H]; rfl, dynK_go hx ?_⟩
    clear hx
    obtain ⟨key, val, pos, ver, ph, done, ok, got⟩ := A
    dsimp only at *
    subst hd
    match ph, hph, H, hend with
    | 0, _, H, hend =>
      refine F287.spec _ _ _ ?_
      unfold F287.w F287.J0
      simp only [add_mk, Nat.zero_add, Nat.add_zero]
      refine ldP_of (by rw [At.rd H]; rfl) (ldI_of (n := (pos : Int)) (by rw [At.rd H]; rfl) (load_in M (by omega) (by omega) fun h1 M1 O1 => ldI_of rfl ⟨trivial, ?_⟩))
      have H1 := H.only O1 (by simp [d2, d3])
      rw [Int.toNat_natCast]
      refine stK_at H1 (by simp) rfl fun h2 A2 O2 _ => stK_at A2 (by simp) rfl fun h3 A3 O3 _ => ldI_of (n := cs.getD pos 0) (by rw [A3.rd]; rfl) (stK_at A3 (by simp) rfl fun h4 A4 O4 _ => ⟨by trivial, ?_⟩)
      have O24 := (O2.trans O3 (by simp)).trans O4 (by simp)
      exact hend h4 _ _ A4 (M1.only O24 (by simp [d2']) (by simp [d3'])) ((O1.mono fun b hb _ => hs b hb).trans O24 fun b hb _ => hS b hb)
    | 1, _, H, hend =>
      refine F308.spec _ _ _ ?_
      unfold F308.w F308.J0
      simp only [add_mk, Nat.zero_add, Nat.add_zero]
      refine stK_at H (by simp) rfl fun h1 A1 O1 _ => ?_
      have M1 := M.only O1 (by simp [d2']) (by simp [d3'])
      refine ldP_of (by rw [A1.rd]; rfl) (ldI_of (n := (pos : Int)) (by rw [A1.rd]; rfl) (ldI_of (n := ver) (by rw [A1.rd]; rfl) (ldI_of (n := ver) (by rw [A1.rd]; rfl) ?_)))
      refine cas_in M1 (by omega) (by omega) (fun e h2 M2 O2 => ldB_of rfl ⟨trivial, ?_⟩) fun e h2 M2 O2 => ldB_of rfl ⟨trivial, ?_⟩
      all_goals rw [Int.toNat_natCast] at e
      · rw [Int.toNat_natCast] at M2
        refine stK_at (A1.only O2 (by simp [d2, d3])) (by simp) rfl fun h3 A3 O3 _ => ⟨by trivial, ?_⟩
        rw [if_pos e] at hend
        exact hend h3 _ _ A3 (M2.only O3 (by simp [d2']) (by simp [d3'])) (((O1.mono fun b hb _ => hS b hb).trans O2 fun b hb _ => hs b hb).trans O3 fun b hb _ => hS b hb)
      · refine stK_at (A1.only O2 (by simp [d2, d3])) (by simp) rfl fun h3 A3 O3 _ => ⟨by trivial, ?_⟩
        rw [if_neg e] at hend
        exact hend h3 _ _ A3 (M2.only O3 (by simp [d2']) (by simp [d3'])) (((O1.mono fun b hb _ => hS b hb).trans O2 fun b hb _ => hs b hb).trans O3 fun b hb _ => hS b hb)
    | 2, _, H, hend =>
      refine F338.spec _ _ _ ?_
      unfold F338.w F338.J0
      simp only [add_mk, Nat.zero_add, Nat.add_zero]
      refine ldP_of (by rw [At.rd H]; rfl) (ldI_of (n := (pos : Int)) (by rw [At.rd H]; rfl) (ldI_of (n := key) (by rw [At.rd H]; rfl) ?_))
      rw [w1]
      refine store_in M (by omega) (by omega) fun h1 M1 O1 => ⟨rfl, stK_at (H.only O1 (by simp [d2, d3])) (by simp) rfl fun h2 A2 O2 _ => ⟨by trivial, ?_⟩⟩
      rw [Int.toNat_natCast] at M1
      exact hend h2 _ _ A2 (M1.only O2 (by simp [d2']) (by simp [d3'])) ((O1.mono fun b hb _ => hs b hb).trans O2 fun b hb _ => hS b hb)
    | 3, _, H, hend =>
      refine F356.spec _ _ _ ?_
      unfold F356.w F356.J0
      simp only [add_mk, Nat.zero_add, Nat.add_zero]
      refine ldP_of (by rw [At.rd H]; rfl) (ldI_of (n := (pos : Int)) (by rw [At.rd H]; rfl) (ldI_of (n := val) (by rw [At.rd H]; rfl) ?_))
      rw [w2]
      refine store_in M (by omega) (by omega) fun h1 M1 O1 => ⟨rfl, stK_at (H.only O1 (by simp [d2, d3])) (by simp) rfl fun h2 A2 O2 _ => ⟨by trivial, ?_⟩⟩
      rw [Int.toNat_natCast] at M1
      exact hend h2 _ _ A2 (M1.only O2 (by simp [d2']) (by simp [d3'])) ((O1.mono fun b hb _ => hs b hb).trans O2 fun b hb _ => hS b hb)
    | 4, _, H, hend =>
      refine F368.spec _ _ _ ?_
      unfold F368.w F368.J0
      simp only [add_mk, Nat.zero_add, Nat.add_zero]
      refine ldP_of (by rw [At.rd H]; rfl) (ldI_of (n := (pos : Int)) (by rw [At.rd H]; rfl) (ldI_of (n := ver) (by rw [At.rd H]; rfl) ?_))
      refine store_in M (by omega) (by omega) fun h1 M1 O1 => ⟨rfl, stK_at (H.only O1 (by simp [d2, d3])) (by simp) rfl fun h2 A2 O2 _ => ⟨by trivial, ?_⟩⟩
      rw [Int.toNat_natCast] at M1
      exact hend h2 _ _ A2 (M1.only O2 (by simp [d2']) (by simp [d3'])) ((O1.mono fun b hb _ => hs b hb).trans O2 fun b hb _ => hS b hb)
    | 5, _, H, hend =>
      refine F275.spec _ _ _ ?_
      unfold F275.w F275.J0
      simp only [add_mk, Nat.zero_add, Nat.add_zero]
      refine ldP_of (by rw [At.rd H]; rfl) (ldI_of (n := (pos : Int)) (by rw [At.rd H]; rfl) (load_in M (by omega) (by omega) fun h1 M1 O1 => ldI_of rfl ⟨trivial, ?_⟩))
      have H1 := H.only O1 (by simp [d2, d3])
      rw [Int.toNat_natCast]
      refine stK_at H1 (by simp) rfl fun h2 A2 O2 _ => stK_at A2 (by simp) rfl fun h3 A3 O3 _ => ldI_of (n := cs.getD pos 0) (by rw [A3.rd]; rfl) (stK_at A3 (by simp) rfl fun h4 A4 O4 _ => ⟨by trivial, ?_⟩)
      have O24 := (O2.trans O3 (by simp)).trans O4 (by simp)
      exact hend h4 _ _ A4 (M1.only O24 (by simp [d2']) (by simp [d3'])) ((O1.mono fun b hb _ => hs b hb).trans O24 fun b hb _ => hS b hb)
    | 6, _, H, hend =>
      refine F302.spec _ _ _ ?_
      unfold F302.w F302.J0
      simp only [add_mk, Nat.zero_add, Nat.add_zero]
      refine ldP_of (by rw [At.rd H]; rfl) (ldI_of (n := (pos : Int)) (by rw [At.rd H]; rfl) (ldI_of (n := key) (by rw [At.rd H]; rfl) ?_))
      rw [w1]
      refine load_in M (by omega) (by omega) fun h1 M1 O1 => ldI_of rfl ⟨trivial, trivial, trivial, trivial, ?_⟩
      have H1 := H.only O1 (by simp [d2, d3])
      rw [Int.toNat_natCast]
      refine ldI_of (n := key) (by rw [At.rd H1]; rfl) ⟨rfl, stK_at H1 (by simp) rfl fun h2 A2 O2 _ => stK_at A2 (by simp) rfl fun h3 A3 O3 _ => ⟨by trivial, ?_⟩⟩
      have O24 := O2.trans O3 (by simp)
      exact hend h3 _ _ A3 (M1.only O24 (by simp [d2']) (by simp [d3'])) ((O1.mono fun b hb _ => hs b hb).trans O24 fun b hb _ => hS b hb)
    | 7, _, H, hend =>
      refine F336.spec _ _ _ ?_
      unfold F336.w F336.J0
      simp only [add_mk, Nat.zero_add, Nat.add_zero]
      refine ldP_of (by rw [At.rd H]; rfl) (ldI_of (n := (pos : Int)) (by rw [At.rd H]; rfl) ?_)
      rw [w2]
      refine load_in M (by omega) (by omega) fun h1 M1 O1 => ldI_of rfl ⟨trivial, ?_⟩
      have H1 := H.only O1 (by simp [d2, d3])
      rw [Int.toNat_natCast]
      refine stK_at H1 (by simp) rfl fun h2 A2 O2 _ => stK_at A2 (by simp) rfl fun h3 A3 O3 _ => ⟨by trivial, ?_⟩
      have O24 := O2.trans O3 (by simp)
      exact hend h3 _ _ A3 (M1.only O24 (by simp [d2']) (by simp [d3'])) ((O1.mono fun b hb _ => hs b hb).trans O24 fun b hb _ => hS b hb)
    | 8, _, H, hend =>
      refine F355.spec _ _ _ ?_
      unfold F355.w F355.J0
      simp only [add_mk, Nat.zero_add, Nat.add_zero]
      refine ldP_of (by rw [At.rd H]; rfl) (ldI_of (n := (pos : Int)) (by rw [At.rd H]; rfl) (ldI_of (n := ver) (by rw [At.rd H]; rfl) ?_))
      refine load_in M (by omega) (by omega) fun h1 M1 O1 => ldI_of rfl ⟨trivial, trivial, trivial, trivial, ?_⟩
      have H1 := H.only O1 (by simp [d2, d3])
      rw [Int.toNat_natCast]
      refine ldI_of (n := ver) (by rw [At.rd H1]; rfl) ⟨rfl, stK_at H1 (by simp) rfl fun h2 A2 O2 _ => stK_at A2 (by simp) rfl fun h3 A3 O3 _ => ⟨by trivial, ?_⟩⟩
      have O24 := O2.trans O3 (by simp)
      exact hend h3 _ _ A3 (M1.only O24 (by simp [d2']) (by simp [d3'])) ((O1.mono fun b hb _ => hs b hb).trans O24 fun b hb _ => hS b hb)

def lineOf (base n : Nat) (key : Int) : Nat := base + 3 * home key n
theorem line_spec {key : Int} (C : CacIs h c m base n) (hn : 1 ≤ n) (hn2 : n < 10000) (hb : base < 1000000) (hK : K (.int .i64 (lineOf base n key : Int)) h) : CallsH Tryz.prog 274 [.pointer (some ⟨c, 0, none⟩), .int .u64 key] h K := by
  apply F274.spec
  unfold F274.w F274.J0
  simp only [add_mk, Nat.zero_add]
  have hl := home_lt key hn
  have r1 : rd h ⟨c, 1, none⟩ = some (.int .i64 (base : Int)) := by rw [At.rd C]; rfl
  refine ldI_of r1 (ldI_of (n := (n : Int)) (by rw [At.rd C]; rfl) (home_spec hn (by omega) (ldI_of rfl ⟨trivial, trivial, trivial, ldI_of r1 ⟨rfl, ?_⟩⟩)))
  rw [show IntKind.wrap .i64 ((base : Int) + IntKind.wrap .i64 (3 * (home key n : Int))) = (lineOf base n key : Int) by
    unfold lineOf
    rw [wrap_i64 (n := 3 * (home key n : Int)) (by omega) (by omega), wrap_i64 (by omega) (by omega)]
    simp]
  exact hK
def getA (base n : Nat) (key : Int) : Ac := ⟨key, 0, lineOf base n key, 0, 5, false, false, 0⟩
def putA (base n : Nat) (key val : Int) : Ac := ⟨key, val, lineOf base n key, 0, 0, false, false, 0⟩
theorem get_spec {key : Int} (C : CacIs h c m base n) (hn : 1 ≤ n) (hn2 : n < 10000) (hb : base < 1000000)
    (hK : ∀ f h', ActIs h' f m (getA base n key) → Only [] h h' → h.size ≤ f → K (.pointer (some ⟨f, 0, none⟩)) h') : CallsH Tryz.prog 227 [.pointer (some ⟨c, 0, none⟩), .int .u64 key] h K := by
  apply F227.spec
  unfold F227.w F227.J0
  simp only [add_mk, Nat.zero_add, Nat.add_zero]
  have r0 : rd h ⟨c, 0, none⟩ = some (.pointer (some ⟨m, 0, none⟩)) := by rw [At.rd C]; rfl
  refine ldP_of r0 (line_spec C hn hn2 hb (ldI_of rfl ⟨trivial, trivial, trivial, ldP_of r0 ⟨rfl, trivial, newK_at fun h1 A1 O1 z1 => stK_at A1 (by simp) rfl fun h2 A2 O2 _ => ?_⟩⟩))
  exact hK h.size h2 A2 (O1.trans O2 fun b hb hl => absurd (show b = h.size by simpa using hb) (by omega)) (Nat.le_refl _)
theorem put_spec {key val : Int} (C : CacIs h c m base n) (hn : 1 ≤ n) (hn2 : n < 10000) (hb : base < 1000000)
    (hK : ∀ f h', ActIs h' f m (putA base n key val) → Only [] h h' → h.size ≤ f → K (.pointer (some ⟨f, 0, none⟩)) h') : CallsH Tryz.prog 252 [.pointer (some ⟨c, 0, none⟩), .int .u64 key, .int .u64 val] h K := by
  apply F252.spec
  unfold F252.w F252.J0
  simp only [add_mk, Nat.zero_add, Nat.add_zero]
  have r0 : rd h ⟨c, 0, none⟩ = some (.pointer (some ⟨m, 0, none⟩)) := by rw [At.rd C]; rfl
  refine ldP_of r0 (line_spec C hn hn2 hb (ldI_of rfl ⟨trivial, trivial, trivial, ldP_of r0 ⟨rfl, trivial, trivial, newK_at fun h1 A1 O1 z1 => stK_at A1 (by simp) rfl fun h2 A2 O2 _ => ?_⟩⟩))
  exact hK h.size h2 A2 (O1.trans O2 fun b hb hl => absurd (show b = h.size by simpa using hb) (by omega)) (Nat.le_refl _)
def gotV (A : Ac) : Int := if A.done && A.ok then A.got else 0
def gotB (A : Ac) : Bool := A.done && A.ok
theorem got_spec (H : ActIs h f m A) (hK : K (.tuple #[.int .u64 (gotV A), .bool (gotB A)]) h) : CallsH Tryz.prog 230 [.pointer (some ⟨f, 0, none⟩)] h K := by
  apply F230.spec
  unfold F230.w
  simp only [add_mk, Nat.zero_add]
  unfold gotV gotB at hK
  refine ldB_of (n := A.done) (by rw [At.rd H]; rfl) (bcase_of (fun e => ?_) fun e => ldB_of (n := A.ok) (by rw [At.rd H]; rfl) (bcase_of (fun e' => ?_) fun e' => ldI_of (n := A.got) (by rw [At.rd H]; rfl) ?_))
  · have e : A.done = false := by simpa using e
    simpa [e] using hK
  · have e : A.done = true := by simpa using e
    have e' : A.ok = false := by simpa using e'
    simpa [e, e'] using hK
  · have e : A.done = true := by simpa using e
    have e' : A.ok = true := by simpa using e'
    simpa [e, e'] using hK
theorem cells_spec {k : Int} (h0 : 1 ≤ k) (h1 : k < 1000000) (hK : K (.int .i64 (3 * k)) h) : CallsH Tryz.prog 110 [.int .i64 k] h K := by
  apply F110.spec
  unfold F110.w
  rw [decide_eq_false (by omega), bcase_false, wrap_i64 (by omega) (by omega)]
  exact hK
theorem cacnew_spec (M : MemIs h m mc cs ops fails) (hn : 1 ≤ n) (hn2 : n ≤ 1024) (hb : base + 3 * n ≤ cs.length) (hc : cs.length < 1000000)
    (hK : ∀ c h', CacIs h' c m base n → Only [] h h' → h.size ≤ c → K (.tuple #[.pointer (some ⟨c, 0, none⟩), .int .i64 0]) h') :
    CallsH Tryz.prog 109 [.pointer (some ⟨m, 0, none⟩), .int .i64 (base : Int), .int .i64 (n : Int)] h K := by
  apply F109.spec
  unfold F109.w
  rw [decide_eq_false (by omega), bcase_false, decide_eq_false (by omega), bcase_false, decide_eq_false (by omega), bcase_false]
  refine len_spec M (ldI_of rfl ?_)
  rw [decide_eq_false (by omega), bcase_false]
  refine cells_spec (by omega) (by omega) (ldI_of rfl (len_spec M (ldI_of rfl ?_)))
  rw [wrap_i64 (by omega) (by omega), decide_eq_false (by omega), bcase_false]
  exact newK_at fun h1 A1 O1 z1 => hK h.size h1 A1 O1 (Nat.le_refl _)
end
end
section
theorem bv64 {x : Int} (h0 : 0 ≤ x) (h1 : x < 18446744073709551616) : (BitVec.ofInt 64 x).toNat = x.toNat := by
  rw [BitVec.toNat_ofInt]
  congr 1
  omega
theorem and_three {x : Int} (h0 : 0 ≤ x) (h1 : x < 18446744073709551616) : bitsI .and .u64 x 3 = x % 4 := by
  show IntKind.wrap .u64 (((BitVec.ofInt 64 x &&& BitVec.ofInt 64 3).toNat : Nat) : Int) = _
  rw [BitVec.toNat_and, bv64 h0 h1, show (BitVec.ofInt 64 3).toNat = 2 ^ 2 - 1 from rfl, Nat.and_two_pow_sub_one_eq_mod, wrap_u64 (by omega) (by omega)]
  omega
theorem nat_or_two (n : Nat) : n ||| 2 = 4 * (n / 4) + 2 + n % 2 := by
  apply Nat.eq_of_testBit_eq
  intro i
  match i with
  | 0 =>
    rw [Nat.testBit_or]
    simp [Nat.testBit_zero]
    omega
  | 1 =>
    rw [Nat.testBit_or, Nat.testBit_succ, Nat.testBit_succ, Nat.testBit_succ, Nat.testBit_zero, Nat.testBit_zero, Nat.testBit_zero]
    simp
    omega
  | i + 2 =>
    rw [Nat.testBit_or, Nat.testBit_succ, Nat.testBit_succ, Nat.testBit_succ, Nat.testBit_succ, Nat.testBit_succ, Nat.testBit_succ]
    rw [show 2 / 2 / 2 = 0 by omega, show (4 * (n / 4) + 2 + n % 2) / 2 / 2 = n / 2 / 2 by omega]
    simp
theorem or_two {x : Int} (h0 : 0 ≤ x) (h1 : x < 18446744073709551616) : bitsI .or .u64 x 2 = 4 * (x / 4) + 2 + x % 2 := by
  show IntKind.wrap .u64 (((BitVec.ofInt 64 x ||| BitVec.ofInt 64 2).toNat : Nat) : Int) = _
  rw [BitVec.toNat_or, bv64 h0 h1, show (BitVec.ofInt 64 2).toNat = 2 from rfl, nat_or_two, wrap_u64 (by omega) (by omega)]
  omega

def PutRel (pos : Nat) (key val : Int) (cs cs' : List Int) : Prop :=
  cs'.length = cs.length ∧ (∀ x, x ≠ pos → x ≠ pos + 1 → x ≠ pos + 2 → cs'.getD x 0 = cs.getD x 0) ∧
  ((bitsI .and .u64 (cs.getD pos 0) 1 = 0 ∧ cs'.getD pos 0 = IntKind.wrap .u64 (bitsI .or .u64 (cs.getD pos 0) 2 + 4) ∧ cs'.getD (pos + 1) 0 = key ∧ cs'.getD (pos + 2) 0 = val) ∨
   (bitsI .and .u64 (cs.getD pos 0) 1 ≠ 0 ∧ cs' = cs))
def GetRel (pos : Nat) (key : Int) (cs : List Int) (v : Int) (ok : Bool) : Prop :=
  (ok = true ∧ bitsI .and .u64 (cs.getD pos 0) 3 = 2 ∧ cs.getD (pos + 1) 0 = key ∧ v = cs.getD (pos + 2) 0) ∨ (ok = false ∧ v = 0 ∧ ¬ (bitsI .and .u64 (cs.getD pos 0) 3 = 2 ∧ cs.getD (pos + 1) 0 = key))
def GInv (cs : List Int) (A : Ac) : Prop :=
  A.done = false ∧ A.ok = false ∧ (A.ph = 5 ∨ (A.ph = 6 ∧ A.ver = cs.getD A.pos 0 ∧ bitsI .and .u64 (cs.getD A.pos 0) 3 = 2) ∨ (A.ph = 7 ∧ A.ver = cs.getD A.pos 0 ∧ bitsI .and .u64 (cs.getD A.pos 0) 3 = 2 ∧ cs.getD (A.pos + 1) 0 = A.key) ∨
    (A.ph = 8 ∧ A.ver = cs.getD A.pos 0 ∧ bitsI .and .u64 (cs.getD A.pos 0) 3 = 2 ∧ cs.getD (A.pos + 1) 0 = A.key ∧ A.got = cs.getD (A.pos + 2) 0))
theorem GInv.step {cs : List Int} {A : Ac} (G : GInv cs A) : (stepA cs A).2 = cs ∧ (stepA cs A).1.pos = A.pos ∧ (stepA cs A).1.key = A.key ∧
    (((stepA cs A).1.done = true ∧ GetRel A.pos A.key cs (gotV (stepA cs A).1) (gotB (stepA cs A).1)) ∨ (GInv cs (stepA cs A).1 ∧ (stepA cs A).1.ph = A.ph + 1)) := by
  obtain ⟨key, val, pos, ver, ph, done, ok, got⟩ := A
  obtain ⟨hd, ho, G⟩ := G
  dsimp only at hd ho G
  subst hd ho
  rcases G with rfl | ⟨rfl, hv, h3⟩ | ⟨rfl, hv, h3, hk⟩ | ⟨rfl, hv, h3, hk, hg⟩
  · by_cases h : bitsI .and .u64 (cs.getD pos 0) 3 = 2
    · have e : (bitsI .and .u64 (cs.getD pos 0) 3 != 2) = false := by simpa using h
      refine ⟨rfl, rfl, rfl, Or.inr ⟨⟨?_, rfl, Or.inr (Or.inl ⟨rfl, rfl, h⟩)⟩, rfl⟩⟩
      simpa [stepA] using h
    · have e : (bitsI .and .u64 (cs.getD pos 0) 3 != 2) = true := by simpa using h
      refine ⟨rfl, rfl, rfl, Or.inl ⟨?_, Or.inr ⟨?_, ?_, fun h' => h h'.1⟩⟩⟩
      · simpa [stepA] using h
      · simp [gotB, stepA]
      · simp [gotV, stepA]
  · by_cases h : cs.getD (pos + 1) 0 = key
    · refine ⟨rfl, rfl, rfl, Or.inr ⟨⟨?_, rfl, Or.inr (Or.inr (Or.inl ⟨rfl, hv, h3, h⟩))⟩, rfl⟩⟩
      simpa [stepA] using h
    · refine ⟨rfl, rfl, rfl, Or.inl ⟨?_, Or.inr ⟨?_, ?_, fun h' => h h'.2⟩⟩⟩
      · simpa [stepA] using h
      · simp [gotB, stepA]
      · simp [gotV, stepA]
  · exact ⟨rfl, rfl, rfl, Or.inr ⟨⟨rfl, rfl, Or.inr (Or.inr (Or.inr ⟨rfl, hv, h3, hk, rfl⟩))⟩, rfl⟩⟩
  · refine ⟨rfl, rfl, rfl, Or.inl ⟨rfl, Or.inl ⟨?_, h3, hk, ?_⟩⟩⟩
    · simp [gotB, stepA, hv]
    · simp only [gotV, stepA, hv, hg]
      simp
def PInvA (cs0 cs : List Int) (A : Ac) : Prop :=
  A.done = false ∧ A.ok = false ∧ ((A.ph = 0 ∧ cs = cs0) ∨ (bitsI .and .u64 (cs0.getD A.pos 0) 1 = 0 ∧ A.ver = cs0.getD A.pos 0 ∧
    ((A.ph = 1 ∧ cs = cs0) ∨ (A.ph = 2 ∧ cs = cs0.set A.pos (bitsI .or .u64 A.ver 1)) ∨ (A.ph = 3 ∧ cs = (cs0.set A.pos (bitsI .or .u64 A.ver 1)).set (A.pos + 1) A.key) ∨
     (A.ph = 4 ∧ cs = ((cs0.set A.pos (bitsI .or .u64 A.ver 1)).set (A.pos + 1) A.key).set (A.pos + 2) A.val))))
theorem getD_set {l : List Int} {i j : Nat} {v : Int} (hi : i < l.length) : (l.set i v).getD j 0 = if i = j then v else l.getD j 0 := by
  by_cases h : i = j
  · subst h; simp [hi]
  · simp [List.getD, h]
theorem PInvA.step {cs0 cs : List Int} {A : Ac} (hp : A.pos + 2 < cs0.length) (G : PInvA cs0 cs A) : (stepA cs A).1.pos = A.pos ∧ (stepA cs A).1.key = A.key ∧ (stepA cs A).1.val = A.val ∧
    (((stepA cs A).1.done = true ∧ (stepA cs A).1.ok = false ∧ PutRel A.pos A.key A.val cs0 (stepA cs A).2) ∨ (PInvA cs0 (stepA cs A).2 (stepA cs A).1 ∧ (stepA cs A).1.ph = A.ph + 1)) := by
  obtain ⟨key, val, pos, ver, ph, done, ok, got⟩ := A
  obtain ⟨hd, ho, G⟩ := G
  dsimp only at hd ho G hp
  subst hd ho
  rcases G with ⟨rfl, rfl⟩ | ⟨h1, rfl, ⟨rfl, rfl⟩ | ⟨rfl, rfl⟩ | ⟨rfl, rfl⟩ | ⟨rfl, rfl⟩⟩
  · by_cases h : bitsI .and .u64 (cs.getD pos 0) 1 = 0
    · refine ⟨rfl, rfl, rfl, Or.inr ⟨⟨?_, rfl, Or.inr ⟨h, rfl, Or.inl ⟨rfl, rfl⟩⟩⟩, rfl⟩⟩
      simpa [stepA] using h
    · refine ⟨rfl, rfl, rfl, Or.inl ⟨?_, rfl, rfl, fun _ _ _ _ => rfl, Or.inr ⟨h, rfl⟩⟩⟩
      simpa [stepA] using h
  · refine ⟨?_, ?_, ?_, Or.inr ⟨⟨?_, ?_, Or.inr ⟨?_, ?_, Or.inr (Or.inl ⟨?_, ?_⟩)⟩⟩, ?_⟩⟩ <;> simp [stepA]
    exact h1
  · exact ⟨rfl, rfl, rfl, Or.inr ⟨⟨rfl, rfl, Or.inr ⟨h1, rfl, Or.inr (Or.inr (Or.inl ⟨rfl, rfl⟩))⟩⟩, rfl⟩⟩
  · exact ⟨rfl, rfl, rfl, Or.inr ⟨⟨rfl, rfl, Or.inr ⟨h1, rfl, Or.inr (Or.inr (Or.inr ⟨rfl, rfl⟩))⟩⟩, rfl⟩⟩
  · refine ⟨rfl, rfl, rfl, Or.inl ⟨rfl, rfl, by simp [stepA], fun x n1 n2 n3 => ?_, Or.inl ⟨h1, ?_, ?_, ?_⟩⟩⟩
    · simp only [stepA, Bool.false_eq_true, if_false]
      rw [getD_set (by simp; omega), if_neg (Ne.symm n1), getD_set (by simp; omega), if_neg (Ne.symm n3), getD_set (by simp; omega), if_neg (Ne.symm n2), getD_set (by omega), if_neg (Ne.symm n1)]
    · simp only [stepA, Bool.false_eq_true, if_false]
      rw [getD_set (by simp; omega), if_pos rfl]
    · simp only [stepA, Bool.false_eq_true, if_false]
      rw [getD_set (by simp; omega), if_neg (by omega), getD_set (by simp; omega), if_neg (by omega), getD_set (by simp; omega), if_pos rfl]
    · simp only [stepA, Bool.false_eq_true, if_false]
      rw [getD_set (by simp; omega), if_neg (by omega), getD_set (by simp; omega), if_pos rfl]

structure CW (h : Heap) (c m mc base n : Nat) (cs : List Int) (ops fails : Int) : Prop where
  cac : CacIs h c m base n
  mem : MemIs h m mc cs ops fails
  d4 : c ≠ m
  d5 : c ≠ mc
  hn : 1 ≤ n
  hn2 : n ≤ 1024
  hc : base + 3 * n ≤ cs.length
  hl : cs.length < 1000000
theorem CW.only {h h' : Heap} {c m mc base n : Nat} {cs : List Int} {ops fails : Int} {S : List Nat} (W : CW h c m mc base n cs ops fails) (O : Only S h h') (h1 : c ∉ S) (h2 : m ∉ S) (h3 : mc ∉ S) : CW h' c m mc base n cs ops fails :=
  ⟨W.cac.only O h1, W.mem.only O h2 h3, W.d4, W.d5, W.hn, W.hn2, W.hc, W.hl⟩
theorem CW.pos {h : Heap} {c m mc base n : Nat} {cs : List Int} {ops fails : Int} (W : CW h c m mc base n cs ops fails) (key : Int) : lineOf base n key + 2 < cs.length := by
  have := home_lt key W.hn
  have := W.hc
  unfold lineOf
  omega
theorem CW.lt {h : Heap} {c m mc base n : Nat} {cs : List Int} {ops fails : Int} (W : CW h c m mc base n cs ops fails) : c < h.size ∧ m < h.size ∧ mc < h.size := ⟨At.lt W.cac, W.mem.head.lt, W.mem.body.lt⟩

section
variable {h0 h : Heap} {f c m mc base n : Nat} {cs : List Int} {ops fails : Int} {K : Value → Heap → Prop} {key val : Int}
theorem stepA_cw {A : Ac} (W : CW h c m mc base n cs ops fails) (H : ActIs h f m A) (hp : A.pos + 2 < cs.length) (hph : A.ph ≤ 8) (d1 : f ≠ c) (d2 : f ≠ m) (d3 : f ≠ mc)
    (hK : ∀ h' ops' fails', ActIs h' f m (stepA cs A).1 → CW h' c m mc base n (stepA cs A).2 ops' fails' → Only [f, m, mc] h h' → K (.bool (stepA cs A).1.done) h') :
    CallsH Tryz.prog 229 [.pointer (some ⟨f, 0, none⟩)] h K :=
  stepA_spec H W.mem hp (Nat.lt_trans W.hl (by decide)) hph d2 d3 fun h' ops' fails' a b O =>
    hK h' ops' fails' a ⟨W.cac.only O (by simp [d1.symm, W.d4, W.d5]), b, W.d4, W.d5, W.hn, W.hn2, by rw [stepA_len]; exact W.hc, by rw [stepA_len]; exact W.hl⟩ O

end
end
section
def Win (h : Heap) (lo : Nat) (p : Option Addr) (l c : Nat) (cs : List Value) : Prop :=
  cs.length = l ∧ ((p = none ∧ l = 0 ∧ c = 0) ∨ ∃ b o, p = some ⟨b, o, none⟩ ∧ lo ≤ b ∧ b < h.size ∧ ((l = 0 ∧ c = 0) ∨ ∃ pre sp : List Value, pre.length = o ∧ l ≤ c ∧ sp.length = c - l ∧ At h b (pre ++ cs ++ sp)))
theorem Win.nil (h : Heap) (lo : Nat) : Win h lo none 0 0 [] := ⟨rfl, Or.inl ⟨rfl, rfl, rfl⟩⟩
theorem Win.only {S : List Nat} {h h' : Heap} {lo : Nat} {p : Option Addr} {l c : Nat} {cs : List Value} (H : Win h lo p l c cs) (O : Only S h h') (hS : ∀ b ∈ OwnB p, b ∉ S) : Win h' lo p l c cs := by
  obtain ⟨e, H⟩ := H
  rcases H with H | ⟨b, o, h1, h2, h3, H⟩
  · exact ⟨e, Or.inl H⟩
  · refine ⟨e, Or.inr ⟨b, o, h1, h2, Nat.lt_of_lt_of_le h3 O.size, ?_⟩⟩
    rcases H with H | ⟨pre, sp, h4, h5, h6, h7⟩
    · exact Or.inl H
    · exact Or.inr ⟨pre, sp, h4, h5, h6, h7.only O (hS b (by rw [h1]; simp [OwnB]))⟩
theorem Win.lt {h : Heap} {lo : Nat} {p : Option Addr} {l c : Nat} {cs : List Value} (H : Win h lo p l c cs) : ∀ b ∈ OwnB p, lo ≤ b ∧ b < h.size := by
  obtain ⟨-, H⟩ := H
  rcases H with ⟨e, -⟩ | ⟨b, o, h1, h2, h3, -⟩
  · subst e; simp [OwnB]
  · subst h1
    intro x hx
    simp [OwnB] at hx
    subst hx
    exact ⟨h2, h3⟩
theorem Win.rd {h : Heap} {lo : Nat} {p : Option Addr} {l c : Nat} {cs : List Value} (H : Win h lo p l c cs) {j : Nat} (hj : j < cs.length) : ∃ a, p = some a ∧ rd h (a.add j) = cs[j]? := by
  obtain ⟨e, H⟩ := H
  rcases H with ⟨-, h0, -⟩ | ⟨b, o, h1, h2, h3, ⟨h0, -⟩ | ⟨pre, sp, h4, h5, h6, h7⟩⟩
  · omega
  · omega
  · refine ⟨_, h1, ?_⟩
    rw [add_mk, h7.rd, List.getElem?_append_left (by simp; omega), List.getElem?_append_right (by omega)]
    congr 1
    omega
theorem Win.cap {h : Heap} {lo : Nat} {p : Option Addr} {l c : Nat} {cs : List Value} (H : Win h lo p l c cs) : l ≤ c := by
  obtain ⟨e, H⟩ := H
  rcases H with ⟨-, h0, h1⟩ | ⟨b, o, h1, h2, h3, ⟨h0, h4⟩ | ⟨pre, sp, h4, h5, h6, h7⟩⟩
  · omega
  · omega
  · exact h5
theorem Win.pop {h : Heap} {lo : Nat} {p : Option Addr} {l c : Nat} {cs : List Value} {v : Value} (H : Win h lo p (l + 1) c (cs ++ [v])) : Win h lo (if c = 0 then p else Option.map (fun a => Addr.add a (0 * 1)) p) l c cs := by
  have ep : (if c = 0 then p else Option.map (fun a => Addr.add a (0 * 1)) p) = p := by
    split
    · rfl
    · cases p with
      | none => rfl
      | some a => simp [Addr.add]
  rw [ep]
  obtain ⟨e, H⟩ := H
  rw [List.length_append, List.length_singleton] at e
  refine ⟨by omega, ?_⟩
  rcases H with ⟨-, h0, -⟩ | ⟨b, o, h1, h2, h3, ⟨h0, -⟩ | ⟨pre, sp, h4, h5, h6, h7⟩⟩
  · omega
  · omega
  · exact Or.inr ⟨b, o, h1, h2, h3, Or.inr ⟨pre, v :: sp, h4, by omega, by simp; omega, by simpa using h7⟩⟩
theorem win_app {h : Heap} {lo by_ : Nat} {z : Value} {p : Option Addr} {l c bx : Nat} {cs : List Value} {v : Value} {e : TypeId} {K : Option Addr → Nat → Nat → Heap → Prop}
    (H : Win h lo p l c cs) (A : At h bx [v]) (hcap : (l + 1) * by_ ≤ 140737488355328) (hv : v.oneCell' = true) (hlo : lo ≤ h.size)
    (hK : ∀ p' c' h', Win h' lo p' (l + 1) c' (cs ++ [v]) → Only (OwnB p) h h' → (∀ b ∈ OwnB p', b ∈ OwnB p ∨ h.size ≤ b) → K p' (l + 1) c' h') :
    appK h e 1 by_ #[z] p l c (some ⟨bx, 0, none⟩) 1 K := by
  obtain ⟨hlen, H⟩ := H
  refine ⟨[v], rfl, isRow_at A (by simp), fun hle => ?_, fun hlt => ⟨cs, by omega, ?_, hcap, fun cap hc => ?_⟩⟩
  · rcases H with ⟨-, h0, h1⟩ | ⟨b, o, h1, h2, h3, ⟨h0, h4⟩ | ⟨pre, sp, h4, h5, h6, h7⟩⟩
    · omega
    · omega
    · subst h1
      show stL ((⟨b, o, none⟩ : Addr).add (l * 1)) 0 [v] h _
      rw [add_mk]
      refine stL_own [v] 0 _ h h7 (by simp; omega) (by simpa using hv) fun h' A' O' z' => hK _ _ h' ⟨by simp [hlen], Or.inr ⟨b, o, rfl, h2, by omega, Or.inr ⟨pre, sp.drop 1, h4, hle, by simp; omega, ?_⟩⟩⟩ O' fun x hx => Or.inl hx
      have e1 : (pre ++ cs ++ sp).take (o + l * 1 + 0) = pre ++ cs := by
        rw [show o + l * 1 + 0 = (pre ++ cs).length by simp; omega, List.take_left]
      have e2 : (pre ++ cs ++ sp).drop (o + l * 1 + 0 + [v].length) = sp.drop 1 := by
        rw [List.drop_append, List.drop_eq_nil_of_le (by simp; omega), List.nil_append]
        congr 1
        simp
        omega
      rw [e1, e2] at A'
      simpa using A'
  · rcases H with ⟨e, h0, -⟩ | ⟨b, o, h1, h2, h3, ⟨h0, h4⟩ | ⟨pre, sp, h4, h5, h6, h7⟩⟩
    · subst e
      exact h0
    · subst h1
      obtain rfl : cs = [] := List.length_eq_zero_iff.1 (by omega)
      intro j x hj
      simp at hj
    · subst h1
      exact isRow_at h7 fun j x hj => by
        have hj' := (List.getElem?_eq_some_iff.1 hj).1
        rw [List.getElem?_append_left (by simp; omega), List.getElem?_append_right (by omega), ← hj]
        congr 1
        omega
  · refine hK _ _ _ ⟨by simp [hlen], Or.inr ⟨h.size, 0, rfl, hlo, by simp, Or.inr ⟨[], (Builtin.zeroCells #[z] (cap - (l + 1))).toList, rfl, hc, by rw [size_zeroCells]; simp, ?_⟩⟩⟩ ((Only.push_cells h _ e).mono (by simp)) fun x hx => Or.inr ?_
    · have := At.push h (cs.toArray ++ #[v] ++ Builtin.zeroCells #[z] (cap - (l + 1))) e
      simpa using this
    · simp [OwnB] at hx
      omega
end
section
def ncell : Option Nd → List Value
  | some x => [.bool true, .int .i64 (x.1 : Int), .int .u32 (x.2.1 : Int), .int .u32 (x.2.2 : Int)]
  | none => [.bool false, .int .i64 0, .int .u32 0, .int .u32 0]
theorem ncell_len (o : Option Nd) : (ncell o).length = 4 := by cases o <;> rfl
def nrow : List (Option Nd) → List Value
  | [] => []
  | x :: N => ncell x ++ nrow N
theorem nrow_len : ∀ N, (nrow N).length = N.length * 4
  | [] => rfl
  | x :: N => by simp [nrow, ncell_len, nrow_len N]; omega
theorem nrow_app : ∀ N M, nrow (N ++ M) = nrow N ++ nrow M
  | [], M => rfl
  | x :: N, M => by simp [nrow, nrow_app N M]
theorem nrow_get : ∀ (N : List (Option Nd)) (i : Nat) (x : Option Nd) (k : Nat), N[i]? = some x → k < 4 → (nrow N)[i * 4 + k]? = (ncell x)[k]?
  | [], i, x, k, h, _ => by simp at h
  | y :: N, 0, x, k, h, hk => by
    simp at h
    subst h
    rw [Nat.zero_mul, Nat.zero_add]
    exact List.getElem?_append_left (by rw [ncell_len]; exact hk)
  | y :: N, i + 1, x, k, h, hk => by
    have := nrow_get N i x k (by simpa using h) hk
    unfold nrow
    rw [List.getElem?_append_right (by rw [ncell_len]; omega), ← this]
    congr 1
    rw [ncell_len]
    omega
theorem nrow_set4 : ∀ (N : List (Option Nd)) (i : Nat) (o : Option Nd) (a b c d : Value), i < N.length → ncell o = [a, b, c, d] → ((((nrow N).set (i * 4 + 0) a).set (i * 4 + 1) b).set (i * 4 + 2) c).set (i * 4 + 3) d = nrow (N.set i o)
  | [], i, o, a, b, c, d, h, _ => by simp at h
  | y :: N, 0, o, a, b, c, d, h, e => by
    simp only [nrow, List.set_cons_zero, e]
    have := ncell_len y
    match hy : ncell y, this with
    | [p, q, r, s], _ => simp
  | y :: N, i + 1, o, a, b, c, d, h, e => by
    have ih := nrow_set4 N i o a b c d (by simpa using h) e
    simp only [nrow, List.set_cons_succ]
    rw [← ih]
    have := ncell_len y
    rw [show (i + 1) * 4 + 0 = (ncell y).length + (i * 4 + 0) by omega, show (i + 1) * 4 + 1 = (ncell y).length + (i * 4 + 1) by omega, show (i + 1) * 4 + 2 = (ncell y).length + (i * 4 + 2) by omega, show (i + 1) * 4 + 3 = (ncell y).length + (i * 4 + 3) by omega]
    simp only [List.set_append, Nat.not_lt.2 (Nat.le_add_right _ _), if_false, Nat.add_sub_cancel_left]
def isN (N : List (Option Nd)) (a : Nat) : Prop := a < 2 ∨ ∃ x, nd N (a - 2) = some x
def lvl (n : Nat) (N : List (Option Nd)) (a : Nat) : Nat := if a < 2 then n else match nd N (a - 2) with | some x => x.1 | none => 0
def low (N : List (Option Nd)) (a : Nat) : Nat := if a < 2 then a else match nd N (a - 2) with | some x => x.2.1 | none => 0
def high (N : List (Option Nd)) (a : Nat) : Nat := if a < 2 then a else match nd N (a - 2) with | some x => x.2.2 | none => 0
structure NOk (n : Nat) (N : List (Option Nd)) : Prop where
  node : ∀ i x, nd N i = some x → x.1 < n ∧ isN N x.2.1 ∧ isN N x.2.2 ∧ x.2.1 ≠ x.2.2 ∧ x.1 < lvl n N x.2.1 ∧ x.1 < lvl n N x.2.2
  once : ∀ i j x, nd N i = some x → nd N j = some x → i = j
structure SB where
  ob : Nat
  tb : Nat
  m : Nat
  mc : Nat
  sb : Nat
  cac : Nat
  cm : Nat
  cmc : Nat
  p : Option Addr
  c : Nat
  fp : Option Addr
  fc : Nat
def SB.bm (B : SB) (s : Nat) : List Nat := [s, B.ob, B.cac, B.cm, B.cmc] ++ OwnB B.p ++ OwnB B.fp
def SB.bt (B : SB) : List Nat := [B.tb, B.m, B.mc, B.sb]
def frow (F : List Nat) : List Value := F.map fun (a : Nat) => Value.int .u32 (a : Int)
def scell (room : Nat) (B : SB) (l fl : Nat) (off : Bool) : List Value := [.int .i64 (room : Int), .pointer (some ⟨B.ob, 0, none⟩), .slice B.p l B.c, .slice B.fp fl B.fc, .pointer (some ⟨B.tb, 0, none⟩), .map (some B.sb), .pointer (some ⟨B.cac, 0, none⟩), .bool off]
def CSound (Q : Int → Int → Prop) (cs : List Int) : Prop := ∀ l, l < 256 → 0 ≤ cs.getD (3 * l) 0 ∧ cs.getD (3 * l) 0 < 18446744073709551616 ∧ cs.getD (3 * l) 0 % 2 = 0 ∧ (cs.getD (3 * l) 0 % 4 = 2 → Q (cs.getD (3 * l + 1) 0) (cs.getD (3 * l + 2) 0))
def CacOk (h : Heap) (B : SB) (Q : Int → Int → Prop) : Prop := ∃ cs ops fails, CW h B.cac B.cm B.cmc 0 256 cs ops fails ∧ CSound Q cs
theorem CacOk.only {S : List Nat} {h h' : Heap} {B : SB} {Q : Int → Int → Prop} (H : CacOk h B Q) (O : Only S h h') (h1 : B.cac ∉ S) (h2 : B.cm ∉ S) (h3 : B.cmc ∉ S) : CacOk h' B Q := by
  obtain ⟨cs, o, f, a, b⟩ := H
  exact ⟨cs, o, f, a.only O h1 h2 h3, b⟩
structure StM (h : Heap) (s n room : Nat) (B : SB) (f g : Nat → Nat) (N : List (Option Nd)) (F : List Nat) (Q : Int → Int → Prop) (off : Bool) : Prop where
  S : At h s (scell room B N.length F.length off)
  O : OrdIs h B.ob n f g
  own : Own h 0 4 B.p N.length B.c (nrow N)
  fre : Win h 0 B.fp F.length B.fc (frow F)
  cac : CacOk h B Q
  n8 : 1 ≤ n ∧ n ≤ 8
  len : N.length ≤ room ∧ room ≤ 32768 ∧ F.length ≤ N.length
  sep : (B.bm s).Nodup
structure TabM (h : Heap) (s : Nat) (B : SB) (N : List (Option Nd)) : Prop where
  tab : ∃ T cs mm ops fails, TabIs h B.tb B.m 0 T ∧ MemIs h B.m B.mc cs ops fails ∧ MapM h B.sb .i64 mm ∧ Laid T cs mm N ∧ (∃ k, T = 32 * 2 ^ k) ∧ 2 * cntN N ≤ T ∧ T ≤ 262144
  nd : B.bt.Nodup
  sep : ∀ b ∈ B.bt, b ∉ B.bm s
theorem StM.only {h h' : Heap} {s n room : Nat} {B : SB} {f g : Nat → Nat} {N : List (Option Nd)} {F : List Nat} {Q : Int → Int → Prop} {off : Bool} {L : List Nat} (H : StM h s n room B f g N F Q off) (O : Only L h h') (hL : ∀ b ∈ L, b ∉ B.bm s) : StM h' s n room B f g N F Q off := by
  have d : ∀ b, b ∈ B.bm s → b ∉ L := fun b hb hl => hL b hl hb
  exact ⟨H.S.only O (d _ (by simp [SB.bm])), H.O.only O (d _ (by simp [SB.bm])), H.own.only O fun b hb => d _ (by simp [SB.bm, hb, OwnB]), H.fre.only O fun b hb => d _ (by simp [SB.bm, hb]), H.cac.only O (d _ (by simp [SB.bm])) (d _ (by simp [SB.bm])) (d _ (by simp [SB.bm])), H.n8, H.len, H.sep⟩
theorem TabM.only {h h' : Heap} {s : Nat} {B : SB} {N : List (Option Nd)} {L : List Nat} (H : TabM h s B N) (O : Only L h h') (hL : ∀ b ∈ L, b ∉ B.bt) : TabM h' s B N := by
  have d : ∀ b, b ∈ B.bt → b ∉ L := fun b hb hl => hL b hl hb
  obtain ⟨T, cs, mm, o, f', t1, t2, t3, t4⟩ := H.tab
  exact ⟨⟨T, cs, mm, o, f', t1.only O (d _ (by simp [SB.bt])), t2.only O (d _ (by simp [SB.bt])) (d _ (by simp [SB.bt])), t3.only O (d _ (by simp [SB.bt])), t4⟩, H.nd, H.sep⟩
theorem StM.lt {h : Heap} {s n room : Nat} {B : SB} {f g : Nat → Nat} {N : List (Option Nd)} {F : List Nat} {Q : Int → Int → Prop} {off : Bool} (H : StM h s n room B f g N F Q off) : ∀ b ∈ B.bm s, b < h.size := fun b hb => by
  obtain ⟨cs, o, f, c1, -⟩ := H.cac
  have := c1.lt
  have := H.S.lt
  have := At.lt H.O
  simp only [SB.bm, List.mem_append, List.mem_cons, List.not_mem_nil, or_false] at hb
  rcases hb with (hb | hb) | hb
  · omega
  · exact (H.own.lt b hb).2
  · exact (H.fre.lt b hb).2
theorem TabM.lt {h : Heap} {s : Nat} {B : SB} {N : List (Option Nd)} (H : TabM h s B N) : ∀ b ∈ B.bt, b < h.size := fun b hb => by
  obtain ⟨T, cs, mm, o, f', t1, t2, t3, -⟩ := H.tab
  have := At.lt t1
  have := t2.head.lt
  have := t2.body.lt
  have := t3.lt
  simp only [SB.bt, List.mem_cons, List.not_mem_nil, or_false] at hb
  omega
section
variable {h : Heap} {s n room : Nat} {B : SB} {f g : Nat → Nat} {N : List (Option Nd)} {F : List Nat} {Q : Int → Int → Prop} {off : Bool} {K : Value → Heap → Prop}
theorem vars58 (H : StM h s n room B f g N F Q off) (hK : K (.int .i64 (n : Int)) h) : CallsH Tryz.prog 75 [.pointer (some ⟨s, 0, none⟩)] h K := by
  refine F75.spec _ h K ?_
  unfold F75.w
  simp only [add_mk, Nat.zero_add]
  refine ldP_of (by rw [At.rd H.S]; rfl) (ord_len H.O (ldI_of rfl hK))
theorem wrap_sub2 {a : Nat} (h2 : 2 ≤ a) (ha : a < 4294967296) : IntKind.wrap .u32 ((a : Int) - 2) = ((a - 2 : Nat) : Int) := by
  rw [show (a : Int) - 2 = ((a - 2 : Nat) : Int) by omega]
  exact wrap32 (by omega)
theorem StM.cells (H : StM h s n room B f g N F Q off) {i : Nat} {o : Option Nd} (hi : N[i]? = some o) : ∃ b, B.p = some ⟨b, 0, none⟩ ∧ ∀ k, k < 4 → rd h ⟨b, i * 4 + k, none⟩ = (ncell o)[k]? := by
  have hl := (List.getElem?_eq_some_iff.1 hi).1
  have rr : ∀ k, k < 4 → ∃ b, B.p = some ⟨b, 0, none⟩ ∧ rd h ⟨b, i * 4 + k, none⟩ = (ncell o)[k]? := fun k hk => by
    obtain ⟨b, e1, e2⟩ := H.own.rd (j := i * 4 + k) (by rw [nrow_len]; omega)
    exact ⟨b, e1, by rw [e2, nrow_get N _ o k hi hk]⟩
  obtain ⟨b, e1, e2⟩ := rr 0 (by omega)
  refine ⟨b, e1, fun k hk => ?_⟩
  obtain ⟨b', e1', e2'⟩ := rr k hk
  rw [e1] at e1'
  injection e1' with e1'
  injection e1' with e1'
  subst e1'
  exact e2'
theorem at44 (H : StM h s n room B f g N F Q off) {a : Nat} (ha : a < 4294967296)
    (h1 : (∀ x, 2 ≤ a → nd N (a - 2) ≠ some x) → K (.pointer none) h)
    (h2 : ∀ b x, B.p = some ⟨b, 0, none⟩ → 2 ≤ a → nd N (a - 2) = some x → (∀ k, k < 4 → rd h ⟨b, (a - 2) * 4 + k, none⟩ = (ncell (some x))[k]?) → K (.pointer (some ⟨b, (a - 2) * 4, none⟩)) h) :
    CallsH Tryz.prog 117 [.pointer (some ⟨s, 0, none⟩), .int .u32 (a : Int)] h K := by
  refine F117.spec _ _ h K ?_
  unfold F117.w
  simp only [add_mk, Nat.zero_add]
  refine bcase_of (fun hb => ?_) fun hb => ?_
  · have hb := of_decide_eq_true hb
    exact h1 fun x h2 => by omega
  have hb := of_decide_eq_false hb
  have rs : rd h ⟨s, 2, none⟩ = some (.slice B.p N.length B.c) := by rw [At.rd H.S]; rfl
  refine ldS_of rs ?_
  have w1 : IntKind.wrap .i64 (a : Int) = (a : Int) := wrap_i64 (by omega) (by omega)
  rw [w1, wrap_i64 (by omega) (by omega), wrap_sub2 (by omega) ha]
  refine bcase_of (fun hc => ?_) fun hc => ?_
  · have hc := of_decide_eq_true hc
    exact h1 fun x h2 => by rw [nd_out (by omega)]; simp
  have hc := of_decide_eq_false hc
  have hi : a - 2 < N.length := by omega
  obtain ⟨o, ho⟩ : ∃ o, N[a - 2]? = some o := ⟨_, List.getElem?_eq_getElem hi⟩
  obtain ⟨b, e1, rb⟩ := H.cells ho
  refine ldS_of rs ?_
  rw [e1, ptrK_some]
  refine ⟨by omega, by omega, ?_⟩
  rw [add_mk, add_mk, show 0 + Int.toNat ((a - 2 : Nat) : Int) * 4 + 0 = (a - 2) * 4 + 0 by omega, rb 0 (by omega)]
  cases o with
  | none =>
    refine ldB_of rfl ?_
    rw [Bool.not_false, bcase_true]
    exact h1 fun x _ => by rw [Ne, nd_some, ho]; simp
  | some x =>
    refine ldB_of rfl ?_
    rw [Bool.not_true, bcase_false]
    refine ldS_of rs ?_
    rw [e1, ptrK_some]
    refine ⟨by omega, by omega, ?_⟩
    rw [add_mk, show 0 + Int.toNat ((a - 2 : Nat) : Int) * 4 = (a - 2) * 4 by omega]
    exact h2 b x e1 (by omega) (nd_some.2 ho) rb
theorem isN_lt (H : StM h s n room B f g N F Q off) {a : Nat} (ha : isN N a) : a < N.length + 2 := by
  rcases ha with h | ⟨x, h⟩
  · omega
  · have := nd_lt h
    omega
theorem is21 (H : StM h s n room B f g N F Q off) {a : Nat} (ha : a < 4294967296) (h1 : isN N a → K (.bool true) h) (h0 : ¬ isN N a → K (.bool false) h) : CallsH Tryz.prog 74 [.pointer (some ⟨s, 0, none⟩), .int .u32 (a : Int)] h K := by
  refine F74.spec _ _ h K ?_
  unfold F74.w
  refine bcase_of (fun hb => ?_) fun hb => ?_
  · have hb := of_decide_eq_true hb
    exact h1 (.inl (by omega))
  have hb := of_decide_eq_false hb
  refine at44 H ha (fun e => ldP_of rfl ?_) fun b x e1 h2 hx r => ldP_of rfl ?_
  · refine h0 fun hn => ?_
    rcases hn with h | ⟨x, h⟩
    · omega
    · exact e x (by omega) h
  · exact h1 (.inr ⟨x, hx⟩)
theorem level46 (H : StM h s n room B f g N F Q off) {a : Nat} (ha : isN N a) (hK : K (.int .i64 (lvl n N a : Int)) h) : CallsH Tryz.prog 71 [.pointer (some ⟨s, 0, none⟩), .int .u32 (a : Int)] h K := by
  have hl := H.len
  have ha' := isN_lt H ha
  refine F71.spec _ _ h K ?_
  unfold F71.w
  unfold lvl at hK
  refine bcase_of (fun hb => ?_) fun hb => ?_
  · have hb := of_decide_eq_true hb
    rw [if_pos (by omega)] at hK
    exact vars58 H (ldI_of rfl hK)
  have hb := of_decide_eq_false hb
  rw [if_neg (by omega)] at hK
  refine at44 H (by omega) (fun h1 => ?_) fun b x e1 h2 hx r => ldP_of rfl ?_
  · rcases ha with h | ⟨x, h⟩
    · omega
    · exact absurd h (h1 x (by omega))
  rw [show (!(Option.isNone (some (⟨b, (a - 2) * 4, none⟩ : Addr)))) = true from rfl, bcase_true, ptrK_some, add_mk, r 1 (by omega)]
  refine ldI_of rfl ?_
  rw [hx] at hK
  exact hK
theorem one85 {a : Nat} (ha : a < 2) (hK : K (.int .i64 1) h) : CallsH Tryz.prog 118 [.pointer (some ⟨s, 0, none⟩), .int .u32 (a : Int)] h K := by
  refine F118.spec _ _ h K ?_
  unfold F118.w
  exact bcase_of (fun _ => hK) fun hb => absurd (of_decide_eq_false hb) (by omega)
theorem and_oneb : ∀ a : Fin 2, bitsI .and .u32 ((a.1 : Nat) : Int) (IntKind.wrap .u32 1) = ((a.1 : Nat) : Int) := by decide +kernel
theorem low68 (H : StM h s n room B f g N F Q off) {a : Nat} (ha : isN N a) (hK : K (.int .u32 (low N a : Int)) h) : CallsH Tryz.prog 72 [.pointer (some ⟨s, 0, none⟩), .int .u32 (a : Int)] h K := by
  have hl := H.len
  have ha' := isN_lt H ha
  refine F72.spec _ _ h K ?_
  unfold F72.w
  unfold low at hK
  refine at44 H (by omega) (fun h1 => ldP_of rfl ?_) fun b x e1 h2 hx r => ldP_of rfl ?_
  · have h2 : a < 2 := by
      rcases ha with h | ⟨x, h⟩
      · exact h
      · exact Classical.byContradiction fun hn => h1 x (by omega) h
    rw [if_pos h2] at hK
    rw [show (!(Option.isNone (none : Option Addr))) = false from rfl, bcase_false]
    refine one85 h2 ?_
    refine ldI_of rfl ?_
    have := and_oneb ⟨a, h2⟩
    dsimp only at this
    rw [this]
    exact hK
  · rw [if_neg (by omega), hx] at hK
    rw [show (!(Option.isNone (some (⟨b, (a - 2) * 4, none⟩ : Addr)))) = true from rfl, bcase_true, ptrK_some, add_mk, r 2 (by omega)]
    exact ldI_of rfl hK
theorem high69 (H : StM h s n room B f g N F Q off) {a : Nat} (ha : isN N a) (hK : K (.int .u32 (high N a : Int)) h) : CallsH Tryz.prog 73 [.pointer (some ⟨s, 0, none⟩), .int .u32 (a : Int)] h K := by
  have hl := H.len
  have ha' := isN_lt H ha
  refine F73.spec _ _ h K ?_
  unfold F73.w
  unfold high at hK
  refine at44 H (by omega) (fun h1 => ldP_of rfl ?_) fun b x e1 h2 hx r => ldP_of rfl ?_
  · have h2 : a < 2 := by
      rcases ha with h | ⟨x, h⟩
      · exact h
      · exact Classical.byContradiction fun hn => h1 x (by omega) h
    rw [if_pos h2] at hK
    rw [show (!(Option.isNone (none : Option Addr))) = false from rfl, bcase_false]
    refine one85 h2 ?_
    refine ldI_of rfl ?_
    have := and_oneb ⟨a, h2⟩
    dsimp only at this
    rw [this]
    exact hK
  · rw [if_neg (by omega), hx] at hK
    rw [show (!(Option.isNone (some (⟨b, (a - 2) * 4, none⟩ : Addr)))) = true from rfl, bcase_true, ptrK_some, add_mk, r 3 (by omega)]
    exact ldI_of rfl hK
theorem len75 (H : StM h s n room B f g N F Q off) (hF : N.length = cntN N + F.length) (hK : K (.int .i64 (cntN N : Int)) h) : CallsH Tryz.prog 45 [.pointer (some ⟨s, 0, none⟩)] h K := by
  have hl := H.len
  refine F45.spec _ h K ?_
  unfold F45.w F45.J0
  simp only [add_mk, Nat.zero_add]
  refine ldS_of (by rw [At.rd H.S]; rfl) (ldS_of (by rw [At.rd H.S]; rfl) ?_)
  rw [wrap_i64 (by omega) (by omega), show ((N.length : Nat) : Int) - ((F.length : Nat) : Int) = (cntN N : Int) by omega]
  exact hK
end
end
section
section
variable {h : Heap} {s n room : Nat} {B : SB} {f g : Nat → Nat} {N : List (Option Nd)} {F : List Nat} {Q : Int → Int → Prop} {off : Bool} {K : Value → Heap → Prop}
theorem has74 (H : StM h s n room B f g N F Q off) (Tm : TabM h s B N) {k : Nat} (hk : k ≠ 0)
    (hY : ∀ h' i x, nd N i = some x → kf x = k → Only [B.m, B.mc] h h' → TabM h' s B N → K (.tuple #[.int .u32 ((i + 2 : Nat) : Int), .bool true]) h')
    (hN : ∀ h', NoKey N k → Only [B.m, B.mc] h h' → TabM h' s B N → K (.tuple #[.int .u32 0, .bool false]) h') :
    CallsH Tryz.prog 199 [.pointer (some ⟨s, 0, none⟩), .int .u64 (k : Int)] h K := by
  obtain ⟨T, cs, mm, ops, fails, t1, t2, t3, L, ⟨q, t5⟩, t6, t7⟩ := Tm.tab
  have hT : 1 ≤ T := by have := Nat.two_pow_pos q; omega
  have nn := Tm.nd
  simp only [SB.bt, List.nodup_cons, List.mem_cons, List.not_mem_nil, or_false, not_or, List.nodup_nil, and_true, not_false_eq_true] at nn
  obtain ⟨s1, s2, s3⟩ := nn
  have sp : s ∉ B.bt := fun hm => Tm.sep s hm (by simp [SB.bm])
  simp only [SB.bt, List.mem_cons, List.not_mem_nil, or_false, not_or] at sp
  refine F199.spec _ _ h K ?_
  unfold F199.w F199.J0
  simp only [add_mk, Nat.zero_add]
  refine ldP_of (by rw [At.rd H.S]; rfl) (slots_spec t1 (ldI_of rfl ?_))
  unfold F199.wk3 F199.Jk3
  have mk : ∀ h' ops', MemIs h' B.m B.mc cs ops' fails → Only [B.m, B.mc] h h' → TabM h' s B N := fun h' ops' M O => 
    ⟨⟨T, cs, mm, ops', fails, t1.only O (by simp; omega), M, t3.only O (by simp; omega), L, ⟨q, t5⟩, t6, t7⟩, Tm.nd, Tm.sep⟩
  have S' : ∀ {h'}, Only [B.m, B.mc] h h' → At h' s (scell room B N.length F.length off) := fun O => H.S.only O (by simp; omega)
  have main : ∀ (d i : Nat) (h' : Heap) (ops' : Int), i + d = T → Seen 0 T cs (k : Int) i → MemIs h' B.m B.mc cs ops' fails → Only [B.m, B.mc] h h' → F199.wL3 (d + 1) ⟨s, 0, none⟩ (k : Int) (T : Int) (T : Int) (i : Int) h' K := by
    intro d
    induction d with
    | zero =>
      intro i h' ops' hd S M O
      unfold F199.wL3 F199.JL3
      rw [decide_eq_false (by omega), bcase_false]
      refine hN h' (fun i0 x hx e => ?_) O (mk h' ops' M O)
      obtain ⟨j, hj, ej⟩ := L.all i0 x hx
      obtain ⟨d', hd', ed⟩ := path_surj (key := (k : Int)) hj
      have := (S d' (by omega)).2
      rw [ed, ej, e] at this
      exact this rfl
    | succ d ih =>
      intro i h' ops' hd S M O
      unfold F199.wL3 F199.JL3
      rw [decide_eq_true (by omega), bcase_true]
      refine home_spec (by omega) (by omega) (ldI_of rfl ⟨by omega, ?_⟩)
      simp only [add_mk, Nat.zero_add]
      refine ldP_of (by rw [At.rd (S' O)]; rfl) ?_
      have hh := home_lt (k : Int) (n := T) (by omega)
      have ep : Int.tmod (IntKind.wrap .i64 ((home (k : Int) T : Int) + (i : Int))) (T : Int) = ((path T (k : Int) i : Nat) : Int) := by
        unfold path
        generalize home (k : Int) T = y at hh
        rw [wrap_i64 (by omega) (by omega), show (y : Int) + (i : Int) = ((y + i : Nat) : Int) by omega, Int.tmod_eq_emod_of_nonneg (by omega)]
        rfl
      rw [ep]
      have hp : path T (k : Int) i < T := path_lt (by omega)
      refine at_spec (t1.only O (by simp; omega)) M (by omega) (by omega) (by have := L.len; omega) hp fun h2 M2 O2 => ldI_of rfl ?_
      have O' : Only [B.m, B.mc] h h2 := O.trans O2 (by intro b hb _; exact hb)
      refine bcase_of (fun hb => ?_) fun hb => ?_
      · have hb : cell 0 cs (path T (k : Int) i) = (k : Int) := by simpa using hb
        refine ⟨_, by rw [At.rd (S' O')]; rfl, ?_⟩
        rcases L.cells _ hp with h0 | ⟨i0, x, c1, c2, c3⟩
        · omega
        refine look_map (m := mm) (t3.only O' (by simp; omega)) (fun hn => by rw [hn] at c3; cases c3) fun j v hv => ?_
        rw [c3] at hv
        injection hv with hv
        subst hv
        exact ldI_of rfl (hY h2 i0 x c1 (by omega) O' (mk h2 _ M2 O'))
      · have hb : cell 0 cs (path T (k : Int) i) ≠ (k : Int) := by simpa using hb
        refine bcase_of (fun hz => ?_) fun hz => ?_
        · have hz : cell 0 cs (path T (k : Int) i) = 0 := by simpa using hz
          refine hN h2 (fun i0 x hx e => ?_) O' (mk h2 _ M2 O')
          obtain ⟨j, hj, ej⟩ := L.all i0 x hx
          exact L.inv.absent (by omega) (by omega) S hz j hj (by rw [ej, e])
        · have hz : cell 0 cs (path T (k : Int) i) ≠ 0 := by simpa using hz
          rw [show IntKind.wrap .i64 ((i : Int) + 1) = ((i + 1 : Nat) : Int) by rw [wrap_i64 (by omega) (by omega)]; omega]
          refine ih (i + 1) h2 _ (by omega) (fun j hj => ?_) M2 O'
          by_cases e : j = i
          · subst e; exact ⟨hz, hb⟩
          · exact S j (by omega)
  exact ⟨_, main T 0 h ops (by omega) (fun j hj => by omega) t2 (Only.refl _ _)⟩
end
end
section
theorem mid_nodup {A P P' C : List Nat} (H : (A ++ P ++ C).Nodup) (hp : P'.Nodup) (hx : ∀ x ∈ P', x ∉ A ∧ x ∉ C) : (A ++ P' ++ C).Nodup := by
  simp only [List.nodup_append, List.mem_append, ne_eq] at H ⊢
  obtain ⟨⟨h1, -, -⟩, h3, h4⟩ := H
  exact ⟨⟨h1, hp, fun a ha b hb e => (hx b hb).1 (e ▸ ha)⟩, h3, fun a ha b hb e => ha.elim (fun h => h4 a (.inl h) b hb e) fun h => (hx a h).2 (e ▸ hb)⟩
theorem own_nodup (p : Option Addr) : (OwnB p).Nodup := by cases p <;> simp [OwnB]
theorem SB.grow {B : SB} {s : Nat} {h : Heap} {p' : Option Addr} {c' : Nat} (H : (B.bm s).Nodup) (hlt : ∀ b ∈ B.bm s, b < h.size) (hp : ∀ b ∈ OwnB p', b ∈ OwnB B.p ∨ h.size ≤ b) :
    (SB.bm { B with p := p', c := c' } s).Nodup ∧ ∀ b ∈ SB.bm { B with p := p', c := c' } s, b ∈ B.bm s ∨ h.size ≤ b := by
  refine ⟨mid_nodup H (own_nodup p') fun x hx => ?_, fun b hb => ?_⟩
  · rcases hp x hx with h1 | h1
    · unfold SB.bm at H
      simp only [List.nodup_append, List.mem_append, ne_eq] at H
      obtain ⟨⟨_, _, h2⟩, _, h4⟩ := H
      exact ⟨fun hA => h2 x hA x h1 rfl, fun hC => h4 x (.inr h1) x hC rfl⟩
    · refine ⟨fun hA => ?_, fun hC => ?_⟩
      · have := hlt x (by simp only [SB.bm, List.mem_append]; exact .inl (.inl hA))
        omega
      · have := hlt x (by simp only [SB.bm, List.mem_append]; exact .inr hC)
        omega
  · simp only [SB.bm, List.mem_append] at hb ⊢
    rcases hb with (hb | hb) | hb
    · exact .inl (.inl (.inl hb))
    · rcases hp b hb with h1 | h1
      · exact .inl (.inl (.inr h1))
      · exact .inr h1
    · exact .inl (.inr hb)
theorem keep_ptr (p : Option Addr) (c : Nat) : (if c = 0 then p else Option.map (fun a => Addr.add a (0 * 1)) p) = p := by
  split
  · rfl
  · cases p with
    | none => rfl
    | some a => simp [add_zero]
def HRel (N : List (Option Nd)) (F : List Nat) (N' : List (Option Nd)) (F' : List Nat) (a : Nat) : Prop := (F = [] ∧ N' = N ++ [none] ∧ F' = [] ∧ a = N.length + 2) ∨ (F = F' ++ [a] ∧ N' = N)
section
variable {h : Heap} {s n room : Nat} {B : SB} {f g : Nat → Nat} {N M : List (Option Nd)} {F : List Nat} {Q : Int → Int → Prop} {off : Bool} {K : Value → Heap → Prop}
set_option maxRecDepth 100000 in
theorem handle77 (H : StM h s n room B f g N F Q off) (hroom : F = [] → N.length < room)
    (hK : ∀ h' p' c' N' F' a, HRel N F N' F' a → StM h' s n room { B with p := p', c := c' } f g N' F' Q off → Only (s :: OwnB B.p) h h' → (∀ b ∈ OwnB p', b ∈ OwnB B.p ∨ h.size ≤ b) → K (.int .u32 (a : Int)) h') :
    CallsH Tryz.prog 201 [.pointer (some ⟨s, 0, none⟩)] h K := by
  have hl := H.len
  have hsz : s < h.size := H.S.lt
  have hsep := H.sep
  have hlt := H.lt
  have hin : s ∉ OwnB B.p ∧ s ∉ OwnB B.fp ∧ s ∉ [B.ob, B.cac, B.cm, B.cmc] := by
    unfold SB.bm at hsep
    simp only [List.cons_append, List.nodup_cons, List.mem_cons, List.mem_append, not_or, List.nil_append] at hsep
    simp only [List.mem_cons, List.not_mem_nil, or_false, not_or]
    exact ⟨hsep.1.2.2.2.2.1, hsep.1.2.2.2.2.2, hsep.1.1, hsep.1.2.1, hsep.1.2.2.1, hsep.1.2.2.2.1⟩
  refine F201.spec _ h K ?_
  unfold F201.w
  simp only [add_mk, Nat.zero_add]
  have rf : rd h ⟨s, 3, none⟩ = some (.slice B.fp F.length B.fc) := by rw [At.rd H.S]; rfl
  refine ldS_of rf ?_
  rcases List.eq_nil_or_concat F with e | ⟨F', a, e⟩
  · subst e
    rw [decide_eq_false (by simp), bcase_false]
    have hr := hroom rfl
    refine ldS_of (by rw [At.rd H.S]; rfl) ?_
    refine newK_at fun h1 A1 O1 z1 => ?_
    have As := H.S.only O1 (by simp)
    have Ws := H.own.only O1 (by simp)
    refine own_app (new := ncell none) Ws A1 rfl rfl (by omega) (by simp [ncell, Value.oneCell']) (by omega) fun p' c' h2 W2 O2 hb2 => ?_
    have As2 := As.only O2 hin.1
    have hs' : s ∉ OwnB p' := fun hm => by
      rcases hb2 s hm with h | h
      · exact hin.1 h
      · omega
    refine stK_at As2 (by simp [scell]) rfl fun h3 A3 O3 _ => ?_
    replace A3 : At h3 s (scell room { B with p := p', c := c' } (N.length + 1) 0 off) := A3
    refine ldS_of (by rw [At.rd A3]; rfl) ?_
    rw [show IntKind.wrap .u32 (IntKind.wrap .i64 (IntKind.wrap .i64 (((N.length + 1 : Nat) : Int) - 1) + 2)) = ((N.length + 2 : Nat) : Int) by
      have w1 : IntKind.wrap .i64 (((N.length + 1 : Nat) : Int) - 1) = ((N.length + 1 : Nat) : Int) - 1 := wrap_i64 (by omega) (by omega)
      rw [w1, wrap_i64 (by omega) (by omega), show ((N.length + 1 : Nat) : Int) - 1 + 2 = ((N.length + 2 : Nat) : Int) by omega]
      exact wrap32 (by omega)]
    have OO : Only (s :: OwnB B.p) h h3 := (((Only.refl (s :: OwnB B.p) h).trans O1 (by simp)).trans O2 (by intro b hb _; simp [hb])).trans O3 (by intro b hb _; simp at hb; simp [hb])
    have hb3 : ∀ b ∈ OwnB p', b ∈ OwnB B.p ∨ h.size ≤ b := fun b hb => by
      rcases hb2 b hb with h | h
      · exact .inl h
      · exact .inr (by omega)
    obtain ⟨g1, g2⟩ := SB.grow (c' := c') hsep hlt hb3
    have dis : ∀ b, b ∈ [B.ob, B.cac, B.cm, B.cmc] ++ OwnB B.fp → b ∉ s :: OwnB B.p := fun b hb hm => by
      unfold SB.bm at hsep
      simp only [List.nodup_append, List.mem_append, ne_eq] at hsep
      obtain ⟨⟨h1, _, h2⟩, _, h4⟩ := hsep
      rcases List.mem_append.1 hb with hb | hb
      · rcases List.mem_cons.1 hm with e | hm
        · exact hin.2.2 (e ▸ hb)
        · exact h2 b (by simp only [List.mem_cons] at hb ⊢; exact .inr hb) b hm rfl
      · rcases List.mem_cons.1 hm with e | hm
        · exact hin.2.1 (e ▸ hb)
        · exact h4 b (.inr hm) b hb rfl
    refine hK h3 p' c' (N ++ [none]) [] _ (.inl ⟨rfl, rfl, rfl, rfl⟩) ⟨by rw [List.length_append]; exact A3, H.O.only OO (dis _ (by simp)), ?_, H.fre.only OO fun b hb => dis _ (by simp [hb]), H.cac.only OO (dis _ (by simp)) (dis _ (by simp)) (dis _ (by simp)), H.n8, by rw [List.length_append]; exact ⟨hr, hl.2.1, by simp⟩, g1⟩ OO hb3
    rw [nrow_app, List.length_append]
    exact W2.only O3 fun b hb hm => hs' (by simp at hm; subst hm; rw [hb]; simp [OwnB])
  · rw [List.concat_eq_append] at e
    subst e
    rw [List.length_append] at rf
    rw [List.length_append, decide_eq_true (by simp), bcase_true]
    refine ldS_of rf ?_
    have fr := H.fre
    have hfl : (frow (F' ++ [a])).length = F'.length + 1 := by simp [frow]
    obtain ⟨ad, e1, e2⟩ := fr.rd (j := F'.length) (by omega)
    rw [e1, ptrK_some]
    have w1 : IntKind.wrap .i64 (((F'.length + [a].length : Nat) : Int) - 1) = (F'.length : Int) := by
      have hcap := fr.cap
      have hF : F'.length < 9223372036854775807 := by
        have := hl.2.2
        rw [List.length_append] at this
        omega
      rw [wrap_i64 (by rw [List.length_singleton]; omega) (by rw [List.length_singleton]; omega)]
      simp
    rw [w1]
    refine ⟨by omega, by rw [List.length_singleton]; omega, ?_⟩
    rw [Nat.mul_one, Int.toNat_natCast, e2]
    refine ldI_of (by simp [frow]; rfl) ?_
    refine ldS_of rf ⟨by omega, ?_, ?_⟩
    · have := fr.cap
      simp at this
      omega
    · rw [e1, keep_ptr, Nat.sub_zero, Nat.sub_zero]
      refine stK_at H.S (by simp [scell]) rfl fun h3 A3 O3 _ => ?_
      have dis : ∀ b, b ∈ [B.ob, B.cac, B.cm, B.cmc] ++ OwnB B.p ++ OwnB B.fp → b ∉ [s] := fun b hb hm => by
        simp only [List.mem_singleton] at hm
        subst hm
        rcases List.mem_append.1 hb with hb | hb
        · rcases List.mem_append.1 hb with hb | hb
          · exact hin.2.2 hb
          · exact hin.1 hb
        · exact hin.2.1 hb
      refine hK h3 B.p B.c N F' a (.inr ⟨rfl, rfl⟩) ⟨?_, H.O.only O3 (dis _ (by simp)), H.own.only O3 fun b hb => dis _ (by simp [hb, OwnB]), ?_, H.cac.only O3 (dis _ (by simp)) (dis _ (by simp)) (dis _ (by simp)), H.n8, ⟨hl.1, hl.2.1, by have := hl.2.2; rw [List.length_append] at this; omega⟩, hsep⟩ (O3.mono (by simp)) fun b hb => .inl hb
      · rw [← e1] at A3
        exact A3
      · have pp := fr
        rw [show frow (F' ++ [a]) = frow F' ++ [.int .u32 (a : Int)] by simp [frow], List.length_append] at pp
        have pq := pp.pop
        rw [keep_ptr] at pq
        exact pq.only O3 fun b hb => dis _ (by simp [hb])
end
end
section
theorem info116 : (Tryz.prog.info? 218).map (·.size) = some 0 := by kernel_rfl
theorem store116 {a : Addr} {h : Heap} {K : Heap → Prop} (hK : K h) : storeE Tryz.prog 218 (some a) (.agg #[]) h K := by
  unfold storeE
  have e := info116
  cases hi : Tryz.prog.info? 218 with
  | none => rw [hi] at e; cases e
  | some ti =>
    rw [hi] at e
    have e : ti.size = 0 := by simpa using e
    have e2 : Nat.beq (Value.agg #[]).cells.size ti.size = true := by rw [e]; rfl
    dsimp only
    rw [e2]
    exact hK
theorem newK_map4 {h : Heap} {k : IntKind} {K : Nat → Heap → Prop} (hK : ∀ h', MapM h' h.size k [] → Only [] h h' → h'.size = h.size + 1 → K h.size h') : newK h (.map #[] 0) K :=
  hK _ (MapM.empty (by unfold mp; simp)) (Only.push_map h _ _) (by simp)
theorem Ints.only' {S : List Nat} {h h' : Heap} {k : IntKind} {p : Option Addr} {zs : List Int} (H : Ints h k p zs) (O : Only S h h') (hS : ∀ a, p = some a → a.block ∉ S) : Ints h' k p zs := by
  intro i hi
  obtain ⟨a, e, hr⟩ := H i hi
  refine ⟨a, e, ?_⟩
  rw [← hr]
  have hab : (a.add i).block = a.block := by
    unfold Addr.add
    split <;> rfl
  have hb : (a.add i).block < h.size := by
    apply Classical.byContradiction
    intro hn
    have : h[(a.add i).block]? = none := Array.getElem?_eq_none (by omega)
    simp [rd, this] at hr
  unfold rd
  rw [O.same _ hb (by rw [hab]; exact hS a e)]
def era (bl : List Nat) (N : List (Option Nd)) : List (Option Nd) := N.mapIdx fun i o => if i + 2 ∈ bl then none else o
theorem era_get {bl : List Nat} {N : List (Option Nd)} {i : Nat} {o : Option Nd} (h : N[i]? = some o) : (era bl N)[i]? = some (if i + 2 ∈ bl then none else o) := by
  unfold era
  rw [List.getElem?_mapIdx, h]
  rfl
theorem era_len {bl : List Nat} {N : List (Option Nd)} : (era bl N).length = N.length := by simp [era]
theorem era_nil (N : List (Option Nd)) : era [] N = N := by
  apply List.ext_getElem?
  intro i
  unfold era
  rw [List.getElem?_mapIdx]
  cases N[i]? <;> simp
theorem take_succ' {E : List (Option Nd)} {i : Nat} {x : Option Nd} (h : E[i]? = some x) : E.take (i + 1) = E.take i ++ [x] := by
  rw [List.take_add_one, h]
  rfl
theorem nd_take {E : List (Option Nd)} {i k : Nat} {x : Nd} (h : nd (E.take i) k = some x) : nd E k = some x ∧ k < i := by
  have hl := nd_lt h
  rw [List.length_take] at hl
  have := nd_some.1 h
  rw [List.getElem?_take_of_lt (by omega)] at this
  exact ⟨nd_some.2 this, by omega⟩
def SB.tabs (B : SB) (tb m mc sb : Nat) : SB := { B with tb := tb, m := m, mc := mc, sb := sb }
def OutM (mo : List (Int × Value)) (bl : List Nat) : Prop := ∀ k : Nat, (k ∈ bl → mo.lookup (k : Int) = some (.agg #[])) ∧ (k ∉ bl → mo.lookup (k : Int) = none)
structure StR (h : Heap) (s n room : Nat) (B : SB) (f g : Nat → Nat) (N : List (Option Nd)) (F : List Nat) (Q : Int → Int → Prop) : Prop where
  O : OrdIs h B.ob n f g
  own : Own h 0 4 B.p N.length B.c (nrow N)
  fre : Win h 0 B.fp F.length B.fc (frow F)
  cac : CacOk h B Q
  n8 : 1 ≤ n ∧ n ≤ 8
  len : N.length ≤ room ∧ room ≤ 32768 ∧ F.length ≤ N.length
  sep : (B.bm s).Nodup
theorem StM.r {h : Heap} {s n room : Nat} {B : SB} {f g : Nat → Nat} {N : List (Option Nd)} {F : List Nat} {Q : Int → Int → Prop} {off : Bool} (H : StM h s n room B f g N F Q off) : StR h s n room B f g N F Q := ⟨H.O, H.own, H.fre, H.cac, H.n8, H.len, H.sep⟩
def gcell (room : Nat) (B : SB) (l fl : Nat) (off : Bool) (v4 v5 : Value) : List Value := [.int .i64 (room : Int), .pointer (some ⟨B.ob, 0, none⟩), .slice B.p l B.c, .slice B.fp fl B.fc, v4, v5, .pointer (some ⟨B.cac, 0, none⟩), .bool off]
theorem StR.lt {h : Heap} {s n room : Nat} {B : SB} {f g : Nat → Nat} {N : List (Option Nd)} {F : List Nat} {Q : Int → Int → Prop} (H : StR h s n room B f g N F Q) (hs : s < h.size) : ∀ b ∈ B.bm s, b < h.size := fun b hb => by
  obtain ⟨cs, o, f, c1, -⟩ := H.cac
  have := c1.lt
  have := At.lt H.O
  simp only [SB.bm, List.mem_append, List.mem_cons, List.not_mem_nil, or_false] at hb
  rcases hb with (hb | hb) | hb
  · omega
  · exact (H.own.lt b hb).2
  · exact (H.fre.lt b hb).2
set_option maxRecDepth 100000 in
theorem grows33 {h : Heap} {s n room : Nat} {B : SB} {f g : Nat → Nat} {N : List (Option Nd)} {F : List Nat} {Q : Int → Int → Prop} {off : Bool} {K : Value → Heap → Prop} {T bc : Nat} {bp : Option Addr} {bl : List Nat} {v4 v5 : Value} (HS : At h s (gcell room B N.length F.length off v4 v5)) (H : StR h s n room B f g N F Q)
    (hbl : Ints h .u32 bp (bl.map fun (k : Nat) => (k : Int))) (hbs : ∀ a, bp = some a → a.block ≠ s) (hbb : bl.length ≤ 32768)
    (hok : ∀ i x, nd (era bl N) i = some x → NdOk x) (honce : ∀ i j x, nd (era bl N) i = some x → nd (era bl N) j = some x → i = j) (hT1 : ∃ k, T = 32 * 2 ^ k) (hT : 2 * cntN (era bl N) ≤ T) (hT2 : T ≤ 262144)
    (hK : ∀ tb m mc sb h', StM h' s n room (B.tabs tb m mc sb) f g N F Q off → TabM h' s (B.tabs tb m mc sb) (era bl N) → (∃ cs mm ops fails, TabIs h' tb m 0 T ∧ MemIs h' m mc cs ops fails ∧ MapM h' sb .i64 mm ∧ Laid T cs mm (era bl N)) → h.size ≤ tb → h.size ≤ m → h.size ≤ mc → h.size ≤ sb → Only [s] h h' → K (.tuple #[]) h') :
    CallsH Tryz.prog 111 [.pointer (some ⟨s, 0, none⟩), .int .i64 (T : Int), .slice bp bl.length bc] h K := by
  have hT0 : 1 ≤ T := by
    obtain ⟨k, e⟩ := hT1
    have := Nat.two_pow_pos k
    omega
  have hsep := H.sep
  have hlen := H.len
  have hin : s ∉ OwnB B.p ∧ s ∉ OwnB B.fp ∧ s ∉ [B.ob, B.cac, B.cm, B.cmc] := by
    unfold SB.bm at hsep
    simp only [List.cons_append, List.nodup_cons, List.mem_cons, List.mem_append, not_or, List.nil_append] at hsep
    simp only [List.mem_cons, List.not_mem_nil, or_false, not_or]
    exact ⟨hsep.1.2.2.2.2.1, hsep.1.2.2.2.2.2, hsep.1.1, hsep.1.2.1, hsep.1.2.2.1, hsep.1.2.2.2.1⟩
  have dis : ∀ b, b ∈ [B.ob, B.cac, B.cm, B.cmc] ++ OwnB B.p ++ OwnB B.fp → b ∉ [s] := fun b hb hm => by
    simp only [List.mem_singleton] at hm
    subst hm
    rcases List.mem_append.1 hb with hb | hb
    · rcases List.mem_append.1 hb with hb | hb
      · exact hin.2.2 hb
      · exact hin.1 hb
    · exact hin.2.1 hb
  have W := H.own
  have hs := hin.1
  refine F111.spec _ _ _ _ _ h K ?_
  unfold F111.w F111.J0
  simp only [add_mk, Nat.zero_add]
  have hsz := HS.lt
  refine new_spec fun m mc h1 M1 O1 g1 g2 => ldP_of rfl ?_
  rw [cellsFor_of hT2] at M1
  have lm : m < h1.size := M1.head.lt
  have lmc : mc < h1.size := M1.body.lt
  have hmn := M1.ne
  refine tabnew_spec (base := 0) M1 hT0 (by simp) (by simp; omega) fun tb h2' T2 O2 g3 => ⟨_, _, rfl, ?_⟩
  have lt : tb < h2'.size := At.lt T2
  have A2 := (HS.only O1 (by simp)).only O2 (by simp)
  have M2 := M1.only O2 (by simp) (by simp)
  refine stK_at A2 (by simp [gcell]) rfl fun h3 A3 O3 z3 => ?_
  have T3 := T2.only O3 (by simp; omega)
  have M3 := M2.only O3 (by simp; omega) (by simp; omega)
  refine newK_map4 (k := .i64) fun h4 Mp4 O4 z4 => ?_
  have A4 := A3.only O4 (by simp)
  refine stK_at A4 (by simp [gcell]) rfl fun h5 A5 O5 z5 => ?_
  have Mp5 := Mp4.only O5 (by simp; omega)
  refine newK_map4 (k := .u32) fun h6 Mq6 O6 z6 => ?_
  have O16 : Only [s] h h6 := ((((((Only.refl [s] h).trans O1 (by simp)).trans O2 (by simp)).trans O3 (by intro b hb _; exact hb)).trans O4 (by simp)).trans O5 (by intro b hb _; exact hb)).trans O6 (by simp)
  replace A5 : At h5 s (scell room (B.tabs tb m mc h3.size) N.length F.length off) := A5
  have A6 := A5.only O6 (by simp)
  have hp : ∀ b, B.p = some ⟨b, 0, none⟩ → b < h.size := fun b e => (W.lt b (by rw [e]; simp [OwnB])).2
  have hps : ∀ b, B.p = some ⟨b, 0, none⟩ → b ≠ s := fun b e e2 => hs (by rw [e, e2]; simp [OwnB])
  have main : ∀ (d i : Nat) (h' : Heap) (cs : List Int) (mm mo : List (Int × Value)) (ops fails : Int), i + d = N.length → At h' s (scell room (B.tabs tb m mc h3.size) N.length F.length off) → TabIs h' tb m 0 T → MemIs h' m mc cs ops fails → MapM h' h3.size .i64 mm → Laid T cs mm ((era bl N).take i) →
      MapM h' h5.size .u32 mo → OutM mo bl → Only [s] h h' → F111.wL9 (d + 1) ⟨s, 0, none⟩ (some h5.size) B.p N.length B.c (N.length : Int) (i : Int) h' K := by
    intro d
    induction d with
    | zero =>
      intro i h' cs mm mo ops fails hd A T' M Mp L Mq Om O
      unfold F111.wL9 F111.JL9
      rw [decide_eq_false (by omega), bcase_false]
      rw [List.take_of_length_le (by rw [era_len]; omega)] at L
      refine hK tb m mc h3.size h' ⟨A, H.O.only O (dis _ (by simp)), H.own.only O fun b hb => dis _ (by simp [hb, OwnB]), H.fre.only O fun b hb => dis _ (by simp [hb]), H.cac.only O (dis _ (by simp)) (dis _ (by simp)) (dis _ (by simp)), H.n8, H.len, H.sep⟩
        ⟨⟨T, cs, mm, ops, fails, T', M, Mp, L, hT1, hT, hT2⟩, ?_, ?_⟩ ⟨cs, mm, ops, fails, T', M, Mp, L⟩ (by omega) g1 g2 (by omega) O
      · simp [SB.bt, SB.tabs]
        omega
      · intro b hb hm
        have := H.lt HS.lt b hm
        simp [SB.bt, SB.tabs] at hb
        omega
    | succ d ih =>
      intro i h' cs mm mo ops fails hd A T' M Mp L Mq Om O
      have hi : i < N.length := by omega
      obtain ⟨o, ho⟩ : ∃ o, N[i]? = some o := ⟨_, List.getElem?_eq_getElem hi⟩
      have he := era_get (bl := bl) ho
      have W' : Own h' 0 4 B.p N.length B.c (nrow N) := W.only O fun b hb => dis _ (by simp [hb, OwnB])
      obtain ⟨b, eb, rr⟩ : ∃ b, B.p = some ⟨b, 0, none⟩ ∧ ∀ k, k < 4 → rd h' ⟨b, i * 4 + k, none⟩ = (ncell o)[k]? := by
        obtain ⟨b, eb, r0⟩ := W'.rd (j := i * 4 + 0) (by rw [nrow_len]; omega)
        refine ⟨b, eb, fun k hk => ?_⟩
        obtain ⟨b', e1', e2'⟩ := W'.rd (j := i * 4 + k) (by rw [nrow_len]; omega)
        rw [eb] at e1'
        injection e1' with e1'
        injection e1' with e1'
        subst e1'
        rw [e2', nrow_get N i o k ho hk]
      have hb := hp b eb
      have hbs := hps b eb
      have hw : IntKind.wrap .u32 (IntKind.wrap .i64 ((i : Int) + 2)) = ((i + 2 : Nat) : Int) := by
        rw [wrap_i64 (by omega) (by omega), show (i : Int) + 2 = ((i + 2 : Nat) : Int) by omega]
        exact wrap32 (by omega)
      have nx : ∀ (k7 : Heap) (cs' : List Int) (mm' : List (Int × Value)) (ops' fails' : Int), At k7 s (scell room (B.tabs tb m mc h3.size) N.length F.length off) → TabIs k7 tb m 0 T → MemIs k7 m mc cs' ops' fails' → MapM k7 h3.size .i64 mm' → Laid T cs' mm' ((era bl N).take (i + 1)) → MapM k7 h5.size .u32 mo → Only [s] h k7 →
          F111.wL9 (d + 1) ⟨s, 0, none⟩ (some h5.size) B.p N.length B.c (N.length : Int) (IntKind.wrap .i64 ((i : Int) + 1)) k7 K := fun k7 cs' mm' ops' fails' A8 T8 M8 Mp8 L8 Mq8 O8 => by
        rw [show IntKind.wrap .i64 ((i : Int) + 1) = ((i + 1 : Nat) : Int) by rw [wrap_i64 (by omega) (by omega)]; omega]
        exact ih (i + 1) k7 cs' mm' mo ops' fails' (by omega) A8 T8 M8 Mp8 L8 Mq8 Om O8
      have skip : (if i + 2 ∈ bl then none else o) = none → ∀ k6, Only [] h' k6 → F111.wL9 (d + 1) ⟨s, 0, none⟩ (some h5.size) B.p N.length B.c (N.length : Int) (IntKind.wrap .i64 ((i : Int) + 1)) k6 K := fun e k6 P16 => by
        rw [e] at he
        refine nx k6 cs mm ops fails (A.only P16 (by simp)) (T'.only P16 (by simp)) (M.only P16 (by simp) (by simp)) (Mp.only P16 (by simp)) ?_ (Mq.only P16 (by simp)) (O.trans P16 (by simp))
        refine L.congr (fun k => ?_) (by rw [take_succ' he, cnt_app]; rfl)
        rw [take_succ' he, nd_app]
        split
        · next hh => rw [nd_out (by omega)]
        · rfl
      unfold F111.wL9 F111.JL9
      rw [decide_eq_true (by omega), bcase_true, eb, ptrK_some]
      refine ⟨by omega, by omega, ?_⟩
      rw [← eb]
      simp only [add_mk, Nat.zero_add]
      rw [show Int.toNat (i : Int) * 4 = i * 4 by omega, hw]
      obtain ⟨tv, lv, av, bv, ec⟩ : ∃ tv lv av bv, ncell o = [.bool tv, .int .i64 lv, .int .u32 av, .int .u32 bv] := by
        cases o with
        | none => exact ⟨_, _, _, _, rfl⟩
        | some x => exact ⟨_, _, _, _, rfl⟩
      rw [ec] at rr
      refine ldB_of (by rw [rr 0 (by omega)]; rfl) (ldI_of (by rw [rr 1 (by omega)]; rfl) (ldI_of (by rw [rr 2 (by omega)]; rfl) (ldI_of (by rw [rr 3 (by omega)]; rfl) ?_)))
      refine newK_at fun k1 B1 P1 y1 => ?_
      refine stK_at B1 (by simp) rfl fun k2 B2 P2 y2 => stK_at B2 (by simp) rfl fun k3 B3 P3 y3 => stK_at B3 (by simp) rfl fun k4 B4 P4 y4 => stK_at B4 (by simp) rfl fun k5 B5 P5 y5 => ?_
      replace B5 : At k5 h'.size [.bool tv, .int .i64 lv, .int .u32 av, .int .u32 bv] := B5
      have P15 : Only [] h' k5 := (((P1.trans P2 (by intro b hb hl; simp at hb; omega)).trans P3 (by intro b hb hl; simp at hb; omega)).trans P4 (by intro b hb hl; simp at hb; omega)).trans P5 (by intro b hb hl; simp at hb; omega)
      have tail : ∀ (o12 : Option (Nat × Value)), (o12.isSome = decide (i + 2 ∈ bl)) → (lkV (.agg #[]) o12 = .agg #[]) → ldV (some (lkV (.agg #[]) o12)) (fun v13 => newK k5 (.cells #[] 218) (fun b14 h15 => storeE Tryz.prog 218 (some (Addr.mk b14 0 none)) v13 h15 (fun h16 => ldB (rd h16 ⟨h'.size, 0, none⟩) (fun b17 => bcase b17 (bcase (!(Option.isSome o12)) (ldB (rd h16 ⟨h'.size, 0, none⟩) (fun b18 => ldI .i64 (rd h16 ⟨h'.size, 1, none⟩) (fun n19 => ldI .u32 (rd h16 ⟨h'.size, 2, none⟩) (fun n20 => ldI .u32 (rd h16 ⟨h'.size, 3, none⟩) (fun n21 => CallsH Tryz.prog 160 [(.pointer (some ⟨s, 0, none⟩)), (.int .u32 ((i + 2 : Nat) : Int)), (.agg #[(.bool b18), (.int .i64 n19), (.int .u32 n20), (.int .u32 n21)])] h16 (fun v22 h23 => (v22 = (.tuple #[]) ∧ F111.wL9 (d + 1) ⟨s, 0, none⟩ (some h5.size) B.p N.length B.c (N.length : Int) (IntKind.wrap .i64 ((i : Int) + 1)) h23 K))))))) (F111.wL9 (d + 1) ⟨s, 0, none⟩ (some h5.size) B.p N.length B.c (N.length : Int) (IntKind.wrap .i64 ((i : Int) + 1)) h16 K)) (F111.wL9 (d + 1) ⟨s, 0, none⟩ (some h5.size) B.p N.length B.c (N.length : Int) (IntKind.wrap .i64 ((i : Int) + 1)) h16 K))))) := by
        intro o12 e1 e2
        rw [e2]
        refine ⟨_, rfl, ?_⟩
        refine newK_at fun k6 B6 P6 y6 => ?_
        refine store116 ?_
        have C6 := B5.only P6 (by simp)
        have P16 : Only [] h' k6 := P15.trans P6 (by simp)
        have rc : ∀ k, rd k6 ⟨h'.size, k, none⟩ = ([.bool tv, .int .i64 lv, .int .u32 av, .int .u32 bv] : List Value)[k]? := fun k => At.rd C6 k
        refine ldB_of (by rw [rc 0]; rfl) ?_
        rw [e1]
        cases o with
        | none =>
          simp only [ncell, List.cons.injEq, Value.bool.injEq] at ec
          rw [← ec.1, bcase_false]
          exact skip (by split <;> rfl) k6 P16
        | some x =>
          simp only [ncell, List.cons.injEq, Value.bool.injEq, Value.int.injEq, true_and, and_true] at ec
          obtain ⟨c1, c2, c3, c4⟩ := ec
          rw [← c1, bcase_true]
          by_cases hm : i + 2 ∈ bl
          · rw [decide_eq_true hm, Bool.not_true, bcase_false]
            exact skip (if_pos hm) k6 P16
          · rw [decide_eq_false hm, Bool.not_false, bcase_true]
            refine ldB_of (by rw [rc 0]; rfl) (ldI_of (by rw [rc 1]; rfl) (ldI_of (by rw [rc 2]; rfl) (ldI_of (by rw [rc 3]; rfl) ?_)))
            rw [← c1, ← c2, ← c3, ← c4]
            rw [if_neg hm] at he
            have hE : nd (era bl N) i = some x := nd_some.2 he
            have hnew : NoKey ((era bl N).take i) (kf x) := fun k y hy e => by
              obtain ⟨q1, q2⟩ := nd_take hy
              have := kf_inj (hok k y q1) (hok i x hE) e
              subst this
              have := honce _ _ _ q1 hE
              omega
            have A7 := A.only P16 (by simp)
            have hc1 : cntN ((era bl N).take (i + 1)) = cntN ((era bl N).take i) + 1 := by rw [take_succ' he, cnt_app]; rfl
            have hc2 : cntN ((era bl N).take (i + 1)) ≤ cntN (era bl N) := (List.take_sublist _ _).countP_le
            refine lays54 A7 (t := tb) (m := m) (mc := mc) (sb := h3.size) (T := T) (N' := (era bl N).take (i + 1)) rfl rfl (by simp; omega)
              (T'.only P16 (by simp)) (M.only P16 (by simp) (by simp)) (Mp.only P16 (by simp)) (by omega) (by simp; omega) (by omega) (by omega) (by have := (At.lt (T'.only P16 (by simp))); omega) (by have := ((M.only P16 (by simp) (by simp)).head).lt; omega) (by have := ((M.only P16 (by simp) (by simp)).body).lt; omega)
              L (hok i x hE) hnew (by omega) (nd_out (by rw [List.length_take]; omega)) (fun k => ?_) hc1 fun k7 cs' mm' ops' fails' A8 T8 M8 Mp8 L8 O8 => ⟨rfl, ?_⟩
            · rw [take_succ' he, nd_app, List.length_take, era_len, Nat.min_eq_left (by omega)]
            · have lq : h5.size < k6.size := (Mq.only P16 (by simp)).lt
              exact nx k7 cs' mm' ops' fails' A8 T8 M8 Mp8 L8 ((Mq.only P16 (by simp)).only O8 (by simp; omega)) ((O.trans P16 (by simp)).trans O8 (by intro b hb hl; simp at hb ⊢; omega))
      refine look_map (m := mo) (Mq.only P15 (by simp)) (fun hn => ?_) fun j v hv => ?_
      · have : i + 2 ∉ bl := fun hm => by
          rw [(Om (i + 2)).1 hm] at hn
          cases hn
        exact tail none (by rw [decide_eq_false this]; rfl) rfl
      · have : i + 2 ∈ bl := Classical.byContradiction fun hm => by
          rw [(Om (i + 2)).2 hm] at hv
          cases hv
        rw [(Om (i + 2)).1 this] at hv
        injection hv with hv
        subst hv
        exact tail (some (j, .agg #[])) (by rw [decide_eq_true this]; rfl) rfl
  have second : ∀ (h' : Heap) (mo : List (Int × Value)), At h' s (scell room (B.tabs tb m mc h3.size) N.length F.length off) → TabIs h' tb m 0 T → MemIs h' m mc (List.replicate T 0) 0 0 → MapM h' h3.size .i64 [] →
      MapM h' h5.size .u32 mo → OutM mo bl → Only [s] h h' → F111.wk8 ⟨s, 0, none⟩ (some h5.size) h' K := by
    intro h' mo A T' M Mp Mq Om O
    unfold F111.wk8 F111.Jk8
    simp only [add_mk, Nat.zero_add]
    refine ldS_of (by rw [At.rd A]; rfl) ?_
    unfold F111.wk9 F111.Jk9
    refine ⟨_, main N.length 0 h' (List.replicate T 0) [] mo 0 0 (by omega) A T' M Mp ?_ Mq Om O⟩
    have cz : ∀ j, cell 0 (List.replicate T (0 : Int)) j = 0 := fun j => by
      unfold cell
      rw [List.getD_eq_getElem?_getD, List.getElem?_replicate]
      split <;> rfl
    refine ⟨by simp, TInv.empty fun i _ => cz i, fun j _ => .inl (cz j), by simp [nd], ?_, by simp [nd]⟩
    rw [cnt_zero T fun i _ => cz i]
    rfl
  unfold F111.wk4 F111.Jk4
  have first : ∀ (d i : Nat) (h' : Heap) (mo : List (Int × Value)), i + d = bl.length → At h' s (scell room (B.tabs tb m mc h3.size) N.length F.length off) → TabIs h' tb m 0 T → MemIs h' m mc (List.replicate T 0) 0 0 → MapM h' h3.size .i64 [] →
      MapM h' h5.size .u32 mo → OutM mo (bl.take i) → Only [s] h h' → F111.wL4 (d + 1) ⟨s, 0, none⟩ (some h5.size) bp bl.length bc (bl.length : Int) (i : Int) h' K := by
    intro d
    induction d with
    | zero =>
      intro i h' mo hd A T' M Mp Mq Om O
      unfold F111.wL4 F111.JL4
      rw [decide_eq_false (by omega), bcase_false]
      rw [List.take_of_length_le (by omega)] at Om
      exact second h' mo A T' M Mp Mq Om O
    | succ d ih =>
      intro i h' mo hd A T' M Mp Mq Om O
      have hi : i < bl.length := by omega
      obtain ⟨a, ea, er⟩ := (hbl.only' O fun a e hm => hbs a e (by simpa using hm)) i (by simpa using hi)
      have e3 : (bl.map fun (k : Nat) => (k : Int)).getD i 0 = (bl[i] : Int) := by simp [List.getD, hi]
      rw [e3] at er
      unfold F111.wL4 F111.JL4
      rw [decide_eq_true (by omega), bcase_true, ea, ptrK_some]
      refine ⟨by omega, by omega, ?_⟩
      rw [← ea, Nat.mul_one, Int.toNat_natCast, er]
      refine ldI_of rfl ?_
      refine upd_map Mq fun k3 Mq3 P3 y3 => ?_
      rw [show IntKind.wrap .i64 ((i : Int) + 1) = ((i + 1 : Nat) : Int) by
        rw [wrap_i64 (by omega) (by omega)]; omega]
      have lq := Mq.lt
      refine ih (i + 1) k3 _ (by omega) (A.only P3 (by simp; omega)) (T'.only P3 (by simp; omega)) (M.only P3 (by simp; omega) (by simp; omega)) (Mp.only P3 (by simp; omega)) Mq3 (fun k => ?_) (O.trans P3 (by intro b hb hl; simp at hb; omega))
      rw [lookup_mset, List.take_add_one, List.getElem?_eq_getElem hi]
      simp only [Option.toList_some, List.mem_append, List.mem_singleton]
      refine ⟨fun hk => ?_, fun hk => ?_⟩
      · by_cases e : k = bl[i]
        · rw [if_pos (by omega)]
        · rw [if_neg (by omega)]
          exact (Om k).1 (hk.resolve_right e)
      · rw [if_neg (fun e => hk (.inr (by omega)))]
        exact (Om k).2 fun hm => hk (.inl hm)
  have Z6 : OutM [] (bl.take 0) := fun k => ⟨fun hm => by simp at hm, fun _ => rfl⟩
  exact ⟨_, first bl.length 0 h6 [] (by omega) A6 ((T3.only O4 (by simp)).only O5 (by simp; omega) |>.only O6 (by simp)) (((M3.only O4 (by simp) (by simp)).only O5 (by simp; omega) (by simp; omega)).only O6 (by simp) (by simp)) (Mp5.only O6 (by simp)) Mq6 Z6 O16⟩
end
section
structure StIs (h : Heap) (s n room : Nat) (B : SB) (f g : Nat → Nat) (N : List (Option Nd)) (F : List Nat) (Q : Int → Int → Prop) (off : Bool) : Prop where
  m : StM h s n room B f g N F Q off
  t : TabM h s B N
  ok : NOk n N
  cnt : N.length = cntN N + F.length
  fre : F.Nodup ∧ ∀ a ∈ F, 2 ≤ a ∧ a - 2 < N.length ∧ nd N (a - 2) = none
theorem NOk.ndok {n : Nat} {N : List (Option Nd)} (H : NOk n N) (hn : n ≤ 8) (hl : N.length ≤ 32768) {i : Nat} {x : Nd} (hx : nd N i = some x) : NdOk x := by
  obtain ⟨a, b, c, d, -⟩ := H.node i x hx
  have lt : ∀ {y}, isN N y → y < 2 ^ 28 := fun {y} h => by
    rcases h with h | ⟨z, h⟩
    · omega
    · have := nd_lt h
      omega
  exact ⟨by omega, lt b, lt c, d⟩
structure Plus (N N' : List (Option Nd)) (q : Nat) (x : Nd) : Prop where
  was : nd N q = none
  get : ∀ k, nd N' k = if k = q then some x else nd N k
  cnt : cntN N' = cntN N + 1
  len : N.length ≤ N'.length ∧ N'.length ≤ N.length + 1
theorem Plus.isN {N N' : List (Option Nd)} {q : Nat} {x : Nd} (P : Plus N N' q x) {a : Nat} (h : isN N a) : isN N' a := by
  rcases h with h | ⟨y, h⟩
  · exact .inl h
  · refine .inr ?_
    rw [P.get]
    split
    · exact ⟨_, rfl⟩
    · exact ⟨y, h⟩
theorem Plus.old {N N' : List (Option Nd)} {q : Nat} {x : Nd} (P : Plus N N' q x) {i : Nat} {y : Nd} (h : nd N i = some y) : nd N' i = some y := by
  rw [P.get, if_neg]
  · exact h
  · intro e
    subst e
    rw [P.was] at h
    cases h
theorem Plus.lvl {N N' : List (Option Nd)} {q n : Nat} {x : Nd} (P : Plus N N' q x) {a : Nat} (h : Ev.isN N a) : lvl n N' a = lvl n N a := by
  unfold Ev.lvl
  rcases h with h | ⟨y, h⟩
  · rw [if_pos h, if_pos h]
  · rw [P.old h, h]
theorem Plus.ok {n : Nat} {N N' : List (Option Nd)} {q : Nat} {x : Nd} (P : Plus N N' q x) (H : NOk n N) (h1 : x.1 < n) (h2 : Ev.isN N x.2.1) (h3 : Ev.isN N x.2.2) (h4 : x.2.1 ≠ x.2.2) (h5 : x.1 < Ev.lvl n N x.2.1) (h6 : x.1 < Ev.lvl n N x.2.2) (h7 : ∀ i, nd N i ≠ some x) : NOk n N' := by
  refine ⟨fun i y hy => ?_, fun i j y hi hj => ?_⟩
  · rw [P.get] at hy
    split at hy
    · injection hy with hy
      subst hy
      exact ⟨h1, P.isN h2, P.isN h3, h4, by rw [P.lvl h2]; exact h5, by rw [P.lvl h3]; exact h6⟩
    · obtain ⟨a, b, c, d, e, f⟩ := H.node i y hy
      exact ⟨a, P.isN b, P.isN c, d, by rw [P.lvl b]; exact e, by rw [P.lvl c]; exact f⟩
  · rw [P.get] at hi hj
    split at hi
    · injection hi with hi
      subst hi
      split at hj
      · omega
      · exact absurd hj (h7 j)
    · split at hj
      · injection hj with hj
        subst hj
        exact absurd hi (h7 i)
      · exact H.once i j y hi hj
def MkRel (room : Nat) (N : List (Option Nd)) (l a b : Nat) (N' : List (Option Nd)) (r e : Nat) : Prop :=
  (a = b ∧ r = a ∧ e = 0 ∧ N' = N) ∨ (a ≠ b ∧ ∃ i, nd N i = some (l, a, b) ∧ r = i + 2 ∧ e = 0 ∧ N' = N) ∨
  (a ≠ b ∧ (∀ i, nd N i ≠ some (l, a, b)) ∧ room ≤ cntN N ∧ r = 0 ∧ e = 60 ∧ N' = N) ∨
  (a ≠ b ∧ (∀ i, nd N i ≠ some (l, a, b)) ∧ cntN N < room ∧ e = 0 ∧ ∃ q, r = q + 2 ∧ Plus N N' q (l, a, b))
section
variable {h : Heap} {s n room : Nat} {B : SB} {f g : Nat → Nat} {N : List (Option Nd)} {F : List Nat} {Q : Int → Int → Prop} {off : Bool} {K : Value → Heap → Prop}
theorem StIs.only {L : List Nat} {h' : Heap} (H : StIs h s n room B f g N F Q off) (O : Only L h h') (h1 : ∀ b ∈ L, b ∉ B.bm s ∧ b ∉ B.bt) : StIs h' s n room B f g N F Q off :=
  ⟨H.m.only O fun b hb => (h1 b hb).1, H.t.only O fun b hb => (h1 b hb).2, H.ok, H.cnt, H.fre⟩
set_option maxRecDepth 100000 in
theorem mk_tail (H : StM h s n room B f g N F Q off) (Tm : TabM h s B N) (ok : NOk n N) (hc : N.length = cntN N + F.length) (hfre : F.Nodup ∧ ∀ a ∈ F, 2 ≤ a ∧ a - 2 < N.length ∧ nd N (a - 2) = none) {l a b : Nat} (hl : l < n) (ha : isN N a) (hb : isN N b)
    (la : l < lvl n N a) (lb : l < lvl n N b) (hne : a ≠ b) (hnew : ∀ i, nd N i ≠ some (l, a, b)) (hr : cntN N < room) (hT : ∃ T cs mm ops fails, TabIs h B.tb B.m 0 T ∧ MemIs h B.m B.mc cs ops fails ∧ MapM h B.sb .i64 mm ∧ Laid T cs mm N ∧ (∃ k, T = 32 * 2 ^ k) ∧ 2 * (cntN N + 1) ≤ T ∧ T ≤ 262144)
    (hK : ∀ h' B' N' F' q, Plus N N' q (l, a, b) → StIs h' s n room B' f g N' F' Q off → Only (B.bm s ++ B.bt) h h' → (∀ y ∈ B'.bm s ++ B'.bt, y ∈ B.bm s ++ B.bt ∨ h.size ≤ y) → K (.tuple #[.int .u32 ((q + 2 : Nat) : Int), .int .i64 0]) h') :
    F161.wk17 ⟨s, 0, none⟩ (l : Int) (a : Int) (b : Int) h K := by
  have hn8 := H.n8
  have hlen := H.len
  unfold F161.wk17 F161.Jk17
  refine handle77 H (fun e => by subst e; simp at hc; omega) fun h1 p' c' N1 F1 a1 R H1 O1 hp => ldI_of rfl ?_
  have hsub : ∀ b ∈ s :: OwnB B.p, b ∈ B.bm s := fun b hb => by
    rcases List.mem_cons.1 hb with e | hb
    · subst e; simp [SB.bm]
    · simp only [SB.bm, List.mem_append]
      exact .inl (.inr hb)
  have Tm1 : TabM h1 s { B with p := p', c := c' } N := by
    have := Tm.only O1 (fun b hb hm => Tm.sep b hm (hsub b hb))
    refine ⟨this.tab, this.nd, fun b hb hm => ?_⟩
    rcases (SB.grow (c' := c') H.sep H.lt hp).2 b hm with h2 | h2
    · exact Tm.sep b hb h2
    · have := Tm.lt b hb
      omega
  have hT1 : ∃ T cs mm ops fails, TabIs h1 B.tb B.m 0 T ∧ MemIs h1 B.m B.mc cs ops fails ∧ MapM h1 B.sb .i64 mm ∧ Laid T cs mm N ∧ (∃ k, T = 32 * 2 ^ k) ∧ 2 * (cntN N + 1) ≤ T ∧ T ≤ 262144 := by
    obtain ⟨T, cs, mm, o, f', t1, t2, t3, t4⟩ := hT
    have d : ∀ b, b ∈ B.bt → b ∉ s :: OwnB B.p := fun b hb hl => Tm.sep b hb (hsub b hl)
    exact ⟨T, cs, mm, o, f', t1.only O1 (d _ (by simp [SB.bt])), t2.only O1 (d _ (by simp [SB.bt])) (d _ (by simp [SB.bt])), t3.only O1 (d _ (by simp [SB.bt])), t4⟩
  obtain ⟨q, eq, hq, hN1, hc1, hq0, hlen1, hF1⟩ : ∃ q, a1 = q + 2 ∧ N1[q]? = some none ∧ (∀ k, nd N1 k = nd N k) ∧ cntN N1 = cntN N ∧ nd N q = none ∧ (N.length ≤ N1.length ∧ N1.length ≤ N.length + 1) ∧ (N1.length = cntN N + F1.length + 1 ∧ F1.Nodup ∧ a1 ∉ F1 ∧ ∀ a ∈ F1, 2 ≤ a ∧ a - 2 < N1.length ∧ nd N (a - 2) = none) := by
    rcases R with ⟨e1, e2, e3, e4⟩ | ⟨e1, e2⟩
    · subst e1 e2 e3
      refine ⟨N.length, e4, by simp, fun k => ?_, by rw [cnt_app]; rfl, nd_out (Nat.le_refl _), by simp, by simp at hc; simp; omega, by simp, by simp, by simp⟩
      rw [nd_app]
      split
      · next e => rw [nd_out (by omega)]
      · rfl
    · subst e1 e2
      obtain ⟨g1, g2⟩ := hfre
      obtain ⟨f1, f2, f3⟩ := g2 a1 (by simp)
      refine ⟨a1 - 2, by omega, ?_, fun _ => rfl, rfl, f3, by omega, by simp at hc; omega, (List.nodup_append.1 g1).1, fun hm => (List.nodup_append.1 g1).2.2 a1 hm a1 (by simp) rfl, fun a ha => g2 a (by simp [ha])⟩
      obtain ⟨o, ho⟩ : ∃ o, N1[a1 - 2]? = some o := ⟨_, List.getElem?_eq_getElem f2⟩
      unfold nd at f3
      rw [ho] at f3 ⊢
      simp at f3
      rw [f3]
  subst eq
  have hql : q < N1.length := (List.getElem?_eq_some_iff.1 hq).1
  have hl1 := H1.len
  have wq : IntKind.wrap .u32 (((q + 2 : Nat) : Int) - 2) = ((q : Nat) : Int) := by
    have := wrap_sub2 (a := q + 2) (by omega) (by omega)
    rw [this]
    simp
  simp only [add_mk, Nat.zero_add]
  have rs1 : rd h1 ⟨s, 2, none⟩ = some (.slice p' N1.length c') := by rw [At.rd H1.S]; rfl
  obtain ⟨b0, e1, -⟩ := H1.cells hq
  have e1 : p' = some ⟨b0, 0, none⟩ := e1
  refine ldS_of rs1 ?_
  rw [e1, ptrK_some, wq]
  refine ⟨by omega, by omega, ?_⟩
  rw [add_mk, show 0 + Int.toNat (q : Int) * 4 = q * 4 by omega]
  simp only [add_mk]
  have W1 := H1.own
  rw [show SB.p { B with p := p', c := c' } = some ⟨b0, 0, none⟩ from e1] at W1
  have nl : (nrow N1).length = N1.length * 4 := nrow_len N1
  refine Own.set W1 (by omega) rfl fun h2 W2 O2 => Own.set W2 (by simp; omega) rfl fun h3 W3 O3 => Own.set W3 (by simp; omega) rfl fun h4 W4 O4 => Own.set W4 (by simp; omega) rfl fun h5 W5 O5 => ?_
  rw [nrow_set4 N1 q (some (l, a, b)) _ _ _ _ hql rfl] at W5
  have O25 : Only [b0] h1 h5 := ((O2.trans O3 (by simp)).trans O4 (by simp)).trans O5 (by simp)
  have hsep1 := H1.sep
  have nb : ∀ y ∈ [s, B.ob, B.cac, B.cm, B.cmc] ++ OwnB B.fp, y ∉ [b0] := fun y hy hm => by
    simp only [List.mem_singleton] at hm
    subst hm
    unfold SB.bm at hsep1
    simp only [List.nodup_append, List.mem_append, ne_eq] at hsep1
    obtain ⟨⟨_, _, g2⟩, _, g4⟩ := hsep1
    have hmp : y ∈ OwnB p' := by rw [e1]; simp [OwnB]
    rcases List.mem_append.1 hy with h | h
    · exact g2 y h y hmp rfl
    · exact g4 y (.inr hmp) y h rfl
  have H5 : StM h5 s n room { B with p := p', c := c' } f g (N1.set q (some (l, a, b))) F1 Q off := by
    have el : (N1.set q (some (l, a, b))).length = N1.length := by simp
    refine ⟨by rw [el]; exact H1.S.only O25 (nb _ (by simp)), H1.O.only O25 (nb _ (by simp)), by rw [el, show SB.p { B with p := p', c := c' } = some ⟨b0, 0, none⟩ from e1]; exact W5, H1.fre.only O25 fun y hy => nb _ (by simp only [List.mem_append]; exact .inr hy), H1.cac.only O25 (nb _ (by simp)) (nb _ (by simp)) (nb _ (by simp)), H1.n8, by rw [el]; exact H1.len, H1.sep⟩
  have Tm5 : TabM h5 s { B with p := p', c := c' } N := Tm1.only O25 fun y hy hm => by
    simp only [List.mem_singleton] at hy
    subst hy
    exact Tm1.sep y hm (by simp only [SB.bm, List.mem_append]; exact .inl (.inr (by rw [e1]; simp [OwnB])))
  have P : Plus N (N1.set q (some (l, a, b))) q (l, a, b) := by
    refine ⟨hq0, fun k => ?_, ?_, by simp; omega⟩
    · rw [nd_set hql, hN1]
    · rw [cntN_set hq, hc1]
  have rs5 : rd h5 ⟨s, 2, none⟩ = some (.slice p' N1.length c') := by
    have := H5.S
    rw [show (N1.set q (some (l, a, b))).length = N1.length by simp] at this
    rw [At.rd this]
    rfl
  refine ldS_of rs5 ?_
  rw [e1, ptrK_some]
  refine ⟨by omega, by omega, ?_⟩
  rw [add_mk, show 0 + Int.toNat (q : Int) * 4 = q * 4 by omega]
  simp only [add_mk]
  obtain ⟨b5, e5, r5⟩ := H5.cells (i := q) (o := some (l, a, b)) (by rw [List.getElem?_set_self hql])
  have : b5 = b0 := by
    have e5 : p' = some ⟨b5, 0, none⟩ := e5
    rw [e1] at e5
    injection e5 with e5
    injection e5 with e5
    exact e5.symm
  subst this
  refine ldB_of (by rw [r5 0 (by omega)]; rfl) (ldI_of (by rw [r5 1 (by omega)]; rfl) (ldI_of (by rw [r5 2 (by omega)]; rfl) (ldI_of (by rw [r5 3 (by omega)]; rfl) ?_)))
  have hx : NdOk (l, a, b) := by
    have ha' := isN_lt H ha
    have hb' := isN_lt H hb
    exact ⟨by show l < 256; omega, by show a < 2 ^ 28; omega, by show b < 2 ^ 28; omega, hne⟩
  obtain ⟨T, cs, mm, ops, fails, t1, t2, t3, L, t5, t6, t7⟩ : ∃ T cs mm ops fails, TabIs h5 B.tb B.m 0 T ∧ MemIs h5 B.m B.mc cs ops fails ∧ MapM h5 B.sb .i64 mm ∧ Laid T cs mm N ∧ (∃ k, T = 32 * 2 ^ k) ∧ 2 * (cntN N + 1) ≤ T ∧ T ≤ 262144 := by
    obtain ⟨T, cs, mm, o, f', t1, t2, t3, t4⟩ := hT1
    have d : ∀ y, y ∈ B.bt → y ∉ [b5] := fun y hy hm => by
      simp only [List.mem_singleton] at hm
      subst hm
      exact Tm1.sep y hy (by simp only [SB.bm, List.mem_append]; exact .inl (.inr (by rw [e1]; simp [OwnB])))
    exact ⟨T, cs, mm, o, f', t1.only O25 (d _ (by simp [SB.bt])), t2.only O25 (d _ (by simp [SB.bt])) (d _ (by simp [SB.bt])), t3.only O25 (d _ (by simp [SB.bt])), t4⟩
  have nn := Tm.nd
  simp only [SB.bt, List.nodup_cons, List.mem_cons, List.not_mem_nil, or_false, not_or, List.nodup_nil, and_true, not_false_eq_true] at nn
  have sp : s ∉ B.bt := fun hm => Tm.sep s hm (by simp [SB.bm])
  simp only [SB.bt, List.mem_cons, List.not_mem_nil, or_false, not_or] at sp
  have bl := Tm5.lt
  have S5 := H5.S
  rw [show (N1.set q (some (l, a, b))).length = N1.length by simp] at S5
  refine lays54 S5 (t := B.tb) (m := B.m) (mc := B.mc) (sb := B.sb) (T := T) rfl rfl (by simp; omega) t1 t2 t3 (by omega) (by simp; omega) (by omega) (by omega) (bl _ (by simp [SB.bt])) (bl _ (by simp [SB.bt])) (bl _ (by simp [SB.bt]))
    L hx (fun i y hy e => ?_) (by omega) hq0 P.get P.cnt fun h6 cs' mm' ops' fails' A6 T6 M6 Mp6 L6 O6 => ⟨rfl, ?_⟩
  · have := kf_inj (ok.ndok hn8.2 (by omega) hy) hx e
    subst this
    exact hnew i hy
  have Hm6 := H5.only O6 fun y hy hm => Tm5.sep y (by simp [SB.bt] at hy ⊢; omega) hm
  refine hK h6 { B with p := p', c := c' } _ F1 q P ⟨Hm6, ⟨⟨T, cs', mm', ops', fails', T6, M6, Mp6, L6, t5, by rw [P.cnt]; exact t6, t7⟩, Tm1.nd, Tm1.sep⟩, P.ok ok hl ha hb hne la lb hnew, by simp only [List.length_set]; rw [P.cnt]; omega, hF1.2.1, fun y hy => ?_⟩ ?_ fun y hy => ?_
  · obtain ⟨z1, z2, z3⟩ := hF1.2.2.2 y hy
    refine ⟨z1, by simp only [List.length_set]; exact z2, ?_⟩
    rw [P.get, if_neg]
    · exact z3
    · intro e
      apply hF1.2.2.1
      rw [show q + 2 = y by omega]
      exact hy
  · refine ((Only.mono O1 fun y hy _ => ?_).trans O25 fun y hy hlt => ?_).trans O6 fun y hy _ => ?_
    · simp only [List.mem_append]
      exact .inl (hsub y hy)
    · simp only [List.mem_singleton] at hy
      subst hy
      rcases hp y (by rw [e1]; simp [OwnB]) with h7 | h7
      · simp only [List.mem_append]
        exact .inl (hsub y (by simp [h7]))
      · omega
    · simp only [List.mem_append, SB.bt]
      simp at hy ⊢
      omega
  · rcases List.mem_append.1 hy with hy | hy
    · rcases (SB.grow (c' := c') H.sep H.lt hp).2 y hy with h7 | h7
      · exact .inl (List.mem_append.2 (.inl h7))
      · exact .inr h7
    · exact .inl (List.mem_append.2 (.inr hy))
end
end
section
section
variable {h : Heap} {s n room : Nat} {B : SB} {f g : Nat → Nat} {N : List (Option Nd)} {F : List Nat} {Q : Int → Int → Prop} {off : Bool} {K : Value → Heap → Prop}
set_option maxRecDepth 100000 in
theorem mk56 (H : StIs h s n room B f g N F Q off) {l a b : Nat} (hl : l < n) (ha : isN N a) (hb : isN N b) (la : l < lvl n N a) (lb : l < lvl n N b)
    (hK : ∀ h' B' N' F' r e, MkRel room N l a b N' r e → StIs h' s n room B' f g N' F' Q off → Only (B.bm s ++ B.bt) h h' → (∀ y ∈ B'.bm s ++ B'.bt, y ∈ B.bm s ++ B.bt ∨ h.size ≤ y) → K (.tuple #[.int .u32 (r : Int), .int .i64 (e : Int)]) h') :
    CallsH Tryz.prog 161 [.pointer (some ⟨s, 0, none⟩), .int .i64 (l : Int), .int .u32 (a : Int), .int .u32 (b : Int)] h K := by
  have hn8 := H.m.n8
  have hlen := H.m.len
  have ha' := isN_lt H.m ha
  have hb' := isN_lt H.m hb
  refine F161.spec _ _ _ _ h K ?_
  unfold F161.w F161.J0
  rw [decide_eq_false (by omega), bcase_false]
  refine vars58 H.m (ldI_of rfl ?_)
  rw [decide_eq_false (by omega), bcase_false]
  refine is21 H.m (by omega) (fun _ => ldB_of rfl ?_) fun e => absurd ha e
  rw [Bool.not_true, bcase_false]
  refine is21 H.m (by omega) (fun _ => ldB_of rfl ?_) fun e => absurd hb e
  rw [Bool.not_true, bcase_false]
  refine level46 H.m ha (ldI_of rfl ?_)
  rw [decide_eq_false (by omega), bcase_false]
  refine level46 H.m hb (ldI_of rfl ?_)
  rw [decide_eq_false (by omega), bcase_false]
  refine bcase_of (fun he => ?_) fun he => ?_
  · have he : a = b := by
      have : (a : Int) = b := by simpa using he
      omega
    exact hK h B N F a 0 (.inl ⟨he, rfl, rfl, rfl⟩) H (Only.refl _ _) fun y hy => .inl hy
  have hne : a ≠ b := fun e => by
    subst e
    simp at he
  unfold F161.wk9 F161.Jk9
  have hx : NdOk (l, a, b) := ⟨by show l < 256; omega, by show a < 2 ^ 28; omega, by show b < 2 ^ 28; omega, hne⟩
  refine key73 hx.1 hx.2.1 hx.2.2.1 (ldI_of rfl ?_)
  have hmb : ∀ y ∈ [B.m, B.mc], y ∈ B.bm s ++ B.bt := fun y hy => by
    simp only [List.mem_append, SB.bt]
    simp at hy ⊢
    omega
  have hk0 : nkey l a b ≠ 0 := by
    have := kf_ne hx
    unfold kf at this
    exact this
  refine has74 (k := nkey l a b) H.m H.t hk0 (fun h1 i x hx1 hx2 O1 T1 => ⟨_, _, rfl, ?_⟩) fun h1 hnk O1 T1 => ⟨_, _, rfl, ?_⟩
  · rw [bcase_true]
    have := kf_inj (H.ok.ndok hn8.2 (by omega) hx1) hx hx2
    subst this
    refine hK h1 B N F (i + 2) 0 (.inr (.inl ⟨hne, i, hx1, rfl, rfl, rfl⟩)) ⟨H.m.only O1 fun y hy hm => H.t.sep y (by simp [SB.bt] at hy ⊢; omega) hm, T1, H.ok, H.cnt, H.fre⟩ (O1.mono fun y hy _ => hmb y hy) fun y hy => .inl hy
  · have H1 : StM h1 s n room B f g N F Q off := H.m.only O1 fun y hy hm => H.t.sep y (by simp [SB.bt] at hy ⊢; omega) hm
    have OO : Only (B.bm s ++ B.bt) h h1 := O1.mono fun y hy _ => hmb y hy
    have hnew : ∀ i, nd N i ≠ some (l, a, b) := fun i hi => hnk i _ hi rfl
    have hcl := cntN_le N
    rw [bcase_false]
    simp only [add_mk, Nat.zero_add, Nat.add_zero]
    have r0 : rd h1 ⟨s, 0, none⟩ = some (.int .i64 (room : Int)) := by rw [At.rd H1.S]; rfl
    have r4 : rd h1 ⟨s, 4, none⟩ = some (.pointer (some ⟨B.tb, 0, none⟩)) := by rw [At.rd H1.S]; rfl
    refine ldI_of r0 (len75 H1 H.cnt (ldI_of rfl ⟨trivial, trivial, trivial, ldI_of r0 ⟨rfl, ?_⟩⟩))
    refine bcase_of (fun hf => ?_) fun hf => ?_
    · have hf := of_decide_eq_true hf
      exact hK h1 B N F 0 60 (.inr (.inr (.inl ⟨hne, hnew, by omega, rfl, rfl, rfl⟩))) ⟨H1, T1, H.ok, H.cnt, H.fre⟩ OO fun y hy => .inl hy
    have hf := of_decide_eq_false hf
    have hr : cntN N < room := by omega
    have fin : ∀ h' B' N' F' q, Plus N N' q (l, a, b) → StIs h' s n room B' f g N' F' Q off → Only (B.bm s ++ B.bt) h h' → (∀ y ∈ B'.bm s ++ B'.bt, y ∈ B.bm s ++ B.bt ∨ h.size ≤ y) → K (.tuple #[.int .u32 ((q + 2 : Nat) : Int), .int .i64 0]) h' := fun h' B' N' F' q P S O fr =>
      hK h' B' N' F' (q + 2) 0 (.inr (.inr (.inr ⟨hne, hnew, hr, rfl, q, rfl, P⟩))) S O fr
    obtain ⟨T, cs, mm, o, f', t1, t2, t3, L, t5, t6, t7⟩ := id T1.tab
    refine ldP_of r4 (len75 H1 H.cnt (ldI_of rfl ⟨trivial, trivial, trivial, ldP_of r4 ⟨rfl, slots_spec t1 (ldI_of rfl ⟨by trivial, by trivial, ?_⟩)⟩⟩))
    have w1 : IntKind.wrap .i64 ((cntN N : Int) + 1) = ((cntN N + 1 : Nat) : Int) := by rw [wrap_i64 (by omega) (by omega)]; omega
    have w2 : IntKind.wrap .i64 (2 * ((cntN N + 1 : Nat) : Int)) = ((2 * (cntN N + 1) : Nat) : Int) := by rw [wrap_i64 (by omega) (by omega)]; omega
    rw [w1, w2]
    refine bcase_of (fun hg => ?_) fun hg => ?_
    · have hg := of_decide_eq_true hg
      have w3 : IntKind.wrap .i64 (2 * (T : Int)) = ((2 * T : Nat) : Int) := by rw [wrap_i64 (by omega) (by omega)]; omega
      refine ldP_of r4 (slots_spec t1 (ldI_of rfl ?_))
      rw [w3]
      have hsz : s < h1.size := H1.S.lt
      refine grows33 (bl := []) H1.S H1.r (fun i hi => absurd hi (by simp)) (fun a e => by cases e) (by simp) (by rw [era_nil]; exact fun i x hx => H.ok.ndok hn8.2 (by omega) hx) (by rw [era_nil]; exact H.ok.once) (by obtain ⟨k, e⟩ := t5; exact ⟨k + 1, by rw [e, Nat.pow_succ]; omega⟩) (by rw [era_nil]; omega) (by omega)
        fun tb m mc sb h2 H2 T2 TX g1 g2 g3 g4 O2 => ⟨rfl, ?_⟩
      rw [era_nil] at T2 TX
      have hsm : s ∈ B.bm s := by simp [SB.bm]
      refine mk_tail H2 T2 H.ok H.cnt H.fre hl ha hb la lb hne hnew hr ?_ fun h3 B3 N3 F3 q P S3 O3 fr => fin h3 B3 N3 F3 q P S3 ?_ fun y hy => ?_
      · obtain ⟨cs', mm', o', f'', u1, u2, u3, u4⟩ := TX
        obtain ⟨k, e⟩ := t5
        exact ⟨2 * T, cs', mm', o', f'', u1, u2, u3, u4, ⟨k + 1, by rw [e, Nat.pow_succ]; omega⟩, by have := Nat.two_pow_pos k; omega, by omega⟩
      · refine (OO.trans O2 fun y hy _ => ?_).trans O3 fun y hy hlt => ?_
        · simp only [List.mem_singleton] at hy
          subst hy
          exact List.mem_append.2 (.inl hsm)
        · rcases List.mem_append.1 hy with hy | hy
          · exact List.mem_append.2 (.inl hy)
          · have := OO.size
            simp [SB.bt, SB.tabs] at hy
            omega
      · rcases fr y hy with hy | hy
        · rcases List.mem_append.1 hy with hy | hy
          · exact .inl (List.mem_append.2 (.inl hy))
          · have := OO.size
            simp [SB.bt, SB.tabs] at hy
            exact .inr (by omega)
        · have := OO.size
          have := O2.size
          exact .inr (by omega)
    · have hg := of_decide_eq_false hg
      refine mk_tail H1 T1 H.ok H.cnt H.fre hl ha hb la lb hne hnew hr ⟨T, cs, mm, o, f', t1, t2, t3, L, t5, by omega, t7⟩ fun h3 B3 N3 F3 q P S3 O3 fr => fin h3 B3 N3 F3 q P S3 (OO.trans O3 fun y hy _ => hy) fun y hy => ?_
      rcases fr y hy with hy | hy
      · exact .inl hy
      · have := OO.size
        exact .inr (by omega)
end
end
section
structure SX where
  n : Nat
  room : Nat
  f : Nat → Nat
  g : Nat → Nat
  N : List (Option Nd)
  Q : Int → Int → Prop
  off : Bool
def Sto (h : Heap) (s : Nat) (L : List Nat) (X : SX) : Prop := ∃ B F, L = B.bm s ++ B.bt ∧ StIs h s X.n X.room B X.f X.g X.N F X.Q X.off
def Fresh (L L' : List Nat) (h : Heap) : Prop := ∀ b ∈ L', b ∈ L ∨ h.size ≤ b
theorem Fresh.refl (L : List Nat) (h : Heap) : Fresh L L h := fun _ hb => .inl hb
theorem Fresh.trans {L L' L'' : List Nat} {h h' : Heap} (a : Fresh L L' h) (b : Fresh L' L'' h') (hz : h.size ≤ h'.size) : Fresh L L'' h := fun x hx => by
  rcases b x hx with h1 | h1
  · exact a x h1
  · exact .inr (by omega)
theorem Only.app {L L' : List Nat} {h h' h'' : Heap} (a : Only L h h') (b : Only L' h' h'') (f : Fresh L L' h) : Only L h h'' := a.trans b fun x hx hl => by
  rcases f x hx with h1 | h1
  · exact h1
  · omega
section
variable {h h' : Heap} {s : Nat} {L S : List Nat} {X : SX} {K : Value → Heap → Prop}
theorem Sto.only (H : Sto h s L X) (O : Only S h h') (hS : ∀ b ∈ S, b ∉ L) : Sto h' s L X := by
  obtain ⟨B, F, e, H⟩ := H
  subst e
  exact ⟨B, F, rfl, H.only O fun b hb => ⟨fun hm => hS b hb (List.mem_append.2 (.inl hm)), fun hm => hS b hb (List.mem_append.2 (.inr hm))⟩⟩
theorem Sto.only0 (H : Sto h s L X) (O : Only [] h h') : Sto h' s L X := H.only O (by simp)
theorem Sto.lt (H : Sto h s L X) : ∀ b ∈ L, b < h.size := fun b hb => by
  obtain ⟨B, F, e, H⟩ := H
  subst e
  rcases List.mem_append.1 hb with h1 | h1
  · exact H.m.lt b h1
  · exact H.t.lt b h1
theorem Sto.ok (H : Sto h s L X) : NOk X.n X.N ∧ 1 ≤ X.n ∧ X.n ≤ 8 ∧ X.N.length ≤ X.room ∧ X.room ≤ 32768 ∧ cntN X.N ≤ X.N.length := by
  obtain ⟨B, F, e, H⟩ := H
  exact ⟨H.ok, H.m.n8.1, H.m.n8.2, H.m.len.1, H.m.len.2.1, cntN_le _⟩
theorem Sto.isN_lt (H : Sto h s L X) {a : Nat} (ha : isN X.N a) : a < 32770 := by
  obtain ⟨B, F, e, H⟩ := H
  have := Ev.isN_lt H.m ha
  have := H.m.len
  omega
theorem sto_vars (H : Sto h s L X) (hK : K (.int .i64 (X.n : Int)) h) : CallsH Tryz.prog 75 [.pointer (some ⟨s, 0, none⟩)] h K := by
  obtain ⟨B, F, e, H⟩ := H
  exact vars58 H.m hK
theorem sto_is (H : Sto h s L X) {a : Nat} (ha : a < 4294967296) (h1 : isN X.N a → K (.bool true) h) (h0 : ¬ isN X.N a → K (.bool false) h) : CallsH Tryz.prog 74 [.pointer (some ⟨s, 0, none⟩), .int .u32 (a : Int)] h K := by
  obtain ⟨B, F, e, H⟩ := H
  exact is21 H.m ha h1 h0
theorem sto_is1 (H : Sto h s L X) {a : Nat} (ha : isN X.N a) (h1 : K (.bool true) h) : CallsH Tryz.prog 74 [.pointer (some ⟨s, 0, none⟩), .int .u32 (a : Int)] h K :=
  sto_is H (by have := H.isN_lt ha; omega) (fun _ => h1) fun e => absurd ha e
theorem sto_level (H : Sto h s L X) {a : Nat} (ha : isN X.N a) (hK : K (.int .i64 (lvl X.n X.N a : Int)) h) : CallsH Tryz.prog 71 [.pointer (some ⟨s, 0, none⟩), .int .u32 (a : Int)] h K := by
  obtain ⟨B, F, e, H⟩ := H
  exact level46 H.m ha hK
theorem sto_low (H : Sto h s L X) {a : Nat} (ha : isN X.N a) (hK : K (.int .u32 (low X.N a : Int)) h) : CallsH Tryz.prog 72 [.pointer (some ⟨s, 0, none⟩), .int .u32 (a : Int)] h K := by
  obtain ⟨B, F, e, H⟩ := H
  exact low68 H.m ha hK
theorem sto_high (H : Sto h s L X) {a : Nat} (ha : isN X.N a) (hK : K (.int .u32 (high X.N a : Int)) h) : CallsH Tryz.prog 73 [.pointer (some ⟨s, 0, none⟩), .int .u32 (a : Int)] h K := by
  obtain ⟨B, F, e, H⟩ := H
  exact high69 H.m ha hK
theorem sto_len (H : Sto h s L X) (hK : K (.int .i64 (cntN X.N : Int)) h) : CallsH Tryz.prog 45 [.pointer (some ⟨s, 0, none⟩)] h K := by
  obtain ⟨B, F, e, H⟩ := H
  exact len75 H.m H.cnt hK
theorem sto_mk (H : Sto h s L X) {l a b : Nat} (hl : l < X.n) (ha : isN X.N a) (hb : isN X.N b) (la : l < lvl X.n X.N a) (lb : l < lvl X.n X.N b)
    (hK : ∀ h' L' N' r e, MkRel X.room X.N l a b N' r e → Sto h' s L' { X with N := N' } → Only L h h' → Fresh L L' h → K (.tuple #[.int .u32 (r : Int), .int .i64 (e : Int)]) h') :
    CallsH Tryz.prog 161 [.pointer (some ⟨s, 0, none⟩), .int .i64 (l : Int), .int .u32 (a : Int), .int .u32 (b : Int)] h K := by
  obtain ⟨B, F, e, H⟩ := H
  subst e
  exact mk56 H hl ha hb la lb fun h' B' N' F' r e R S O fr => hK h' _ N' r e R ⟨B', F', rfl, S⟩ O fr
theorem ord_copy {b n : Nat} {f g : Nat → Nat} (H : OrdIs h b n f g) (hK : ∀ c h', OrdIs h' c n f g → h.size ≤ c → Only [] h h' → K (.pointer (some ⟨c, 0, none⟩)) h') :
    CallsH Tryz.prog 104 [.pointer (some ⟨b, 0, none⟩)] h K := by
  refine F104.spec _ h K ?_
  unfold F104.w
  have r : ∀ k, rd h ⟨b, k, none⟩ = (Value.int .i64 (n : Int) :: (L8 f ++ L8 g))[k]? := fun k => At.rd H k
  refine ldI_of (by rw [add_mk, r]; rfl) (ldI_of (by rw [add_mk, r]; rfl) (ldI_of (by rw [add_mk, r]; rfl) (ldI_of (by rw [add_mk, r]; rfl) (ldI_of (by rw [add_mk, r]; rfl) (ldI_of (by rw [add_mk, r]; rfl) (ldI_of (by rw [add_mk, r]; rfl) (ldI_of (by rw [add_mk, r]; rfl) (ldI_of (by rw [add_mk, r]; rfl) (ldI_of (by rw [add_mk, r]; rfl) (ldI_of (by rw [add_mk, r]; rfl) (ldI_of (by rw [add_mk, r]; rfl) (ldI_of (by rw [add_mk, r]; rfl) (ldI_of (by rw [add_mk, r]; rfl) (ldI_of (by rw [add_mk, r]; rfl) (ldI_of (by rw [add_mk, r]; rfl) (ldI_of (by rw [add_mk, r]; rfl) ?_))))))))))))))))
  refine newK_at fun h0 A0 O0 z0 => ?_
  show stL ⟨h.size, 0, none⟩ 0 (Value.int .i64 (n : Int) :: (L8 f ++ L8 g)) h0 fun h' => K (.pointer (some ⟨h.size, 0, none⟩)) h'
  refine stL_own (o := 0) _ 0 _ h0 A0 (by simp [L8]) (fun v hv => ?_) fun h' A' O' z => hK h.size h' ?_ (Nat.le_refl _) (O0.trans O' (by intro x hx hlt; simp at hx; omega))
  · simp only [List.mem_cons, List.mem_append, L8, List.mem_map] at hv
    rcases hv with e | ⟨i, _, e⟩ | ⟨i, _, e⟩ <;> subst e <;> rfl
  · simp [L8_len] at A'
    exact A'
end
end
section
def sem (f : Nat → Nat) (N : List (Option Nd)) : Nat → Nat → Nat → Bool
  | 0, a, _ => a == 1
  | d + 1, a, x => if a < 2 then a == 1 else if x.testBit (f (lvl 0 N a)) then sem f N d (high N a) x else sem f N d (low N a) x
def sm (n : Nat) (f : Nat → Nat) (N : List (Option Nd)) (a x : Nat) : Bool := sem f N n a x
theorem lvl_any {n m : Nat} {N : List (Option Nd)} {a : Nat} (h : 2 ≤ a) : lvl n N a = lvl m N a := by
  unfold lvl
  rw [if_neg (by omega), if_neg (by omega)]
section
variable {n : Nat} {f : Nat → Nat} {N N' : List (Option Nd)} {a b x : Nat}
theorem NOk.at (H : NOk n N) (ha : isN N a) (h2 : 2 ≤ a) : lvl n N a < n ∧ isN N (low N a) ∧ isN N (high N a) ∧ low N a ≠ high N a ∧ lvl n N a < lvl n N (low N a) ∧ lvl n N a < lvl n N (high N a) := by
  rcases ha with h | ⟨x, h⟩
  · omega
  · have := H.node _ x h
    have e1 : lvl n N a = x.1 := by unfold lvl; rw [if_neg (by omega), h]
    have e2 : low N a = x.2.1 := by unfold low; rw [if_neg (by omega), h]
    have e3 : high N a = x.2.2 := by unfold high; rw [if_neg (by omega), h]
    rw [e1, e2, e3]
    exact this
theorem lvl_le (H : NOk n N) (ha : isN N a) : lvl n N a ≤ n := by
  by_cases h2 : a < 2
  · unfold lvl
    rw [if_pos h2]
    exact Nat.le_refl _
  · have := (H.at ha (by omega)).1
    omega
theorem sem_fuel (H : NOk n N) : ∀ (d e : Nat) {a : Nat}, isN N a → n - lvl n N a ≤ d → n - lvl n N a ≤ e → sem f N d a x = sem f N e a x := by
  intro d
  induction d with
  | zero =>
    intro e a ha hd he
    have h2 : a < 2 := by
      apply Classical.byContradiction
      intro hn
      have := (H.at ha (by omega)).1
      omega
    cases e with
    | zero => rfl
    | succ e => unfold sem; rw [if_pos h2]
  | succ d ih =>
    intro e a ha hd he
    cases e with
    | zero =>
      have h2 : a < 2 := by
        apply Classical.byContradiction
        intro hn
        have := (H.at ha (by omega)).1
        omega
      unfold sem
      rw [if_pos h2]
    | succ e =>
      unfold sem
      by_cases h2 : a < 2
      · rw [if_pos h2, if_pos h2]
      · rw [if_neg h2, if_neg h2]
        obtain ⟨h3, h4, h5, -, h6, h7⟩ := H.at ha (by omega)
        split
        · exact ih e h5 (by omega) (by omega)
        · exact ih e h4 (by omega) (by omega)
theorem sm_const (h : a < 2) : sm n f N a x = (a == 1) := by
  unfold sm
  cases n with
  | zero => rfl
  | succ n => unfold sem; rw [if_pos h]
theorem sm_node (H : NOk n N) (ha : isN N a) (h2 : 2 ≤ a) : sm n f N a x = if x.testBit (f (lvl n N a)) then sm n f N (high N a) x else sm n f N (low N a) x := by
  obtain ⟨h3, h4, h5, -, h6, h7⟩ := H.at ha h2
  unfold sm
  cases n with
  | zero => omega
  | succ n =>
    conv => lhs; unfold sem
    rw [if_neg (by omega), lvl_any (n := 0) (m := n + 1) h2, sem_fuel H n (n + 1) h4 (by omega) (by omega), sem_fuel H n (n + 1) h5 (by omega) (by omega)]
def Ex (N N' : List (Option Nd)) : Prop := ∀ i x, nd N i = some x → nd N' i = some x
theorem Ex.refl (N : List (Option Nd)) : Ex N N := fun _ _ h => h
theorem Ex.trans {N'' : List (Option Nd)} (h : Ex N N') (g : Ex N' N'') : Ex N N'' := fun i x e => g i x (h i x e)
theorem Plus.ext {q : Nat} {x : Nd} (P : Plus N N' q x) : Ex N N' := fun _ _ h => P.old h
theorem Ex.isN (E : Ex N N') (h : Ev.isN N a) : Ev.isN N' a := h.imp id fun ⟨x, h⟩ => ⟨x, E _ x h⟩
theorem Ex.lvl (E : Ex N N') (h : Ev.isN N a) : lvl n N' a = lvl n N a := by
  unfold Ev.lvl
  rcases h with h | ⟨x, h⟩
  · rw [if_pos h, if_pos h]
  · rw [E _ x h, h]
theorem Ex.low (E : Ex N N') (h : Ev.isN N a) : low N' a = low N a := by
  unfold Ev.low
  rcases h with h | ⟨x, h⟩
  · rw [if_pos h, if_pos h]
  · rw [E _ x h, h]
theorem Ex.high (E : Ex N N') (h : Ev.isN N a) : high N' a = high N a := by
  unfold Ev.high
  rcases h with h | ⟨x, h⟩
  · rw [if_pos h, if_pos h]
  · rw [E _ x h, h]
theorem Ex.sem (H : NOk n N) (E : Ex N N') : ∀ (d : Nat) {a : Nat}, Ev.isN N a → Ev.sem f N' d a x = Ev.sem f N d a x := by
  intro d
  induction d with
  | zero => intro a _; rfl
  | succ d ih =>
    intro a ha
    unfold Ev.sem
    by_cases h2 : a < 2
    · rw [if_pos h2, if_pos h2]
    · obtain ⟨h3, h4, h5, -, h6, h7⟩ := H.at ha (by omega)
      rw [if_neg h2, if_neg h2, E.lvl ha, E.low ha, E.high ha, ih h4, ih h5]
theorem Ex.sm (H : NOk n N) (E : Ex N N') (ha : Ev.isN N a) : sm n f N' a x = sm n f N a x := E.sem H n ha
theorem mk_node {room l r : Nat} (H : NOk n N) (H' : NOk n N') (ha : isN N a) (hb : isN N b) (la : l < lvl n N a) (R : MkRel room N l a b N' r 0) :
    Ex N N' ∧ isN N' r ∧ l ≤ lvl n N' r ∧ ∀ x, sm n f N' r x = if x.testBit (f l) then sm n f N b x else sm n f N a x := by
  rcases R with ⟨h1, h2, -, h4⟩ | ⟨h1, i, h2, h3, -, h4⟩ | ⟨-, -, -, -, h, -⟩ | ⟨h1, -, -, -, q, h3, P⟩
  · subst h1 h2 h4
    exact ⟨Ex.refl _, ha, by omega, fun x => by simp⟩
  · subst h3 h4
    have hr : isN N' (i + 2) := .inr ⟨_, h2⟩
    have e1 : lvl n N' (i + 2) = l := by unfold lvl; rw [if_neg (by omega), show i + 2 - 2 = i by omega, h2]
    have e2 : low N' (i + 2) = a := by unfold low; rw [if_neg (by omega), show i + 2 - 2 = i by omega, h2]
    have e3 : high N' (i + 2) = b := by unfold high; rw [if_neg (by omega), show i + 2 - 2 = i by omega, h2]
    refine ⟨Ex.refl _, hr, by omega, fun x => ?_⟩
    rw [sm_node H hr (by omega), e1, e2, e3]
  · omega
  · subst h3
    have E := P.ext
    have hn : nd N' q = some (l, a, b) := by rw [P.get, if_pos rfl]
    have hr : isN N' (q + 2) := .inr ⟨_, hn⟩
    have e1 : lvl n N' (q + 2) = l := by unfold lvl; rw [if_neg (by omega), show q + 2 - 2 = q by omega, hn]
    have e2 : low N' (q + 2) = a := by unfold low; rw [if_neg (by omega), show q + 2 - 2 = q by omega, hn]
    have e3 : high N' (q + 2) = b := by unfold high; rw [if_neg (by omega), show q + 2 - 2 = q by omega, hn]
    refine ⟨E, hr, by omega, fun x => ?_⟩
    rw [sm_node H' hr (by omega), e1, e2, e3, E.sm H ha, E.sm H hb]
end
end
section
namespace F182
def T : Hint := ⟨[(5, [14, 15]), (6, [14])], [(3, [[(0, []), (1, []), (2, []), (3, []), (4, []), (5, []), (6, []), (7, []), (8, []), (9, [0, 1, 2, 3]), (10, []), (11, [])]])]⟩
noncomputable def body : Code := (Tryz.f182.body).getD .skip
noncomputable def en (S : Stop) (p : List Nat) (κ : XK) : Fr → Heap → Prop := E Tryz.prog X T S (sub body p) κ
noncomputable def ln (S : Stop) (p : List Nat) (κ : XK) (n : Nat) : Fr → Heap → Prop := loopN S (E Tryz.prog X T S (sub body p)) (cutQ T (sub body p)) κ n
def fn (K : KK) : XK := fin Tryz.prog Tryz.f182.results.toList K
noncomputable def c0 (S : Stop) (K : KK) : XK := seqN S (cutQ T (sub body [1, 1, 1, 1])) (en S [1, 1, 1, 1] (fn K)) (fn K)
noncomputable def c1 (S : Stop) (K : KK) : XK := blockN 0 (c0 S K)
noncomputable def c2 (S : Stop) (n5 : Nat) (K : KK) : XK := backN S (cutQ T (sub body [1, 1, 1, 0, 1, 0, 0])) (ln S [1, 1, 1, 0, 1, 0, 0] (c1 S K) n5) (c1 S K)
def f5 (a : Option Addr) (b : Value) : Fr := [(14, (.pointer a)), (15, b)]
def f6 (a : Option Addr) : Fr := [(14, (.pointer a))]
def J0 (k5 : (Option Addr) → Value → Heap → Prop) (c : Addr) (d f g i j : Int) (h : Heap) (K : KK) : Prop :=
  ldB (rd h (c.add 7)) (fun b1 => bcase b1 (K (.tuple #[(.int .u32 0), (.bool false)]) h) (ldP (rd h (c.add 6)) (fun p2 => Cl 228 [(.int .u8 d), (.int .u8 f), (.int .u32 g), (.int .u32 i), (.int .u32 j)] h (fun v3 h4 => ldI .u64 (some v3) (fun n5 => ((.pointer (some c)) = ((.pointer (some c)) : Value) ∧ ((.pointer (some c)) = ((.pointer (some c)) : Value) ∧ ((.pointer (some (c.add 6))) = ((.pointer (some (c.add 6))) : Value) ∧ ldP (rd h4 (c.add 6)) (fun p6 => ((.pointer p6) = ((.pointer p2) : Value) ∧ Cl 227 [(.pointer p2), (.int .u64 n5)] h4 (fun v7 h8 => ldP (some v7) (fun p9 => k5 p9 (.func (.func 229) #[(.pointer p9)] #[]) h8))))))))))))
theorem E0 (S : Stop) (c : Addr) (d f g i j : Int) (h : Heap) (K : KK) : (E Tryz.prog X T S body (fin Tryz.prog Tryz.f182.results.toList K) (args0 0 [(.pointer (some c)), (.int .u8 d), (.int .u8 f), (.int .u32 g), (.int .u32 i), (.int .u32 j)]) h) = J0 (fun a b h => S (en S [1, 1, 1, 0, 1] (c0 S K)) (f5 a b) h) c d f g i j h K := by kernel_rfl
def Jk5 (lp5 : (Option Addr) → Value → Heap → Prop) (a : Option Addr) (b : Value) (h : Heap) (_K : KK) : Prop :=
  lp5 a b h
theorem Ek5 (S : Stop) (a : Option Addr) (b : Value) (h : Heap) (K : KK) : (en S [1, 1, 1, 0, 1] (c0 S K) (f5 a b) h) = Jk5 (fun a b h => ∃ n, S (ln S [1, 1, 1, 0, 1, 0, 0] (c1 S K) n) (f5 a b) h) a b h K := by kernel_rfl
def JL5 (bk5 : (Option Addr) → Value → Heap → Prop) (k6 : (Option Addr) → Heap → Prop) (a : Option Addr) (b : Value) (h : Heap) (_K : KK) : Prop :=
  dynK Tryz.prog X b [] h (fun v1 h2 => ldB (some v1) (fun b3 => bcase (!b3) (bk5 a b h2) (k6 a h2)))
theorem EL5 (S : Stop) (n5 : Nat) (a : Option Addr) (b : Value) (h : Heap) (K : KK) : (en S [1, 1, 1, 0, 1, 0, 0] (c2 S n5 K) (f5 a b) h) = JL5 (fun a b h => S (ln S [1, 1, 1, 0, 1, 0, 0] (c1 S K) n5) (f5 a b) h) (fun a h => S (en S [1, 1, 1, 1] (fn K)) (f6 a) h) a b h K := by kernel_rfl
def Jk6 (a : Option Addr) (h : Heap) (K : KK) : Prop :=
  Cl 230 [(.pointer a)] h (fun v1 h2 => (∃ n3 : Int, ∃ b4 : Bool, v1 = (.tuple #[(.int .u64 n3), (.bool b4)]) ∧ K (.tuple #[(.int .u32 (IntKind.wrap .u32 n3)), (.bool b4)]) h2))
theorem Ek6 (S : Stop) (a : Option Addr) (h : Heap) (K : KK) : (en S [1, 1, 1, 1] (fn K) (f6 a) h) = Jk6 a h K := by kernel_rfl
def wk6 (a : Option Addr) (h : Heap) (K : KK) : Prop :=
  Jk6 a h K
theorem ek6 (K : KK) (a : Option Addr) (h : Heap) : (en S0 [1, 1, 1, 1] (fn K) (f6 a) h) = wk6 a h K := (Ek6 S0 a h K).trans (rfl)
def wL5 : Nat → (Option Addr) → Value → Heap → KK → Prop
  | 0, _, _, _, _ => False
  | n + 1, a, b, h, K => JL5 (fun a b h => wL5 n a b h K) (fun a h => wk6 a h K) a b h K
theorem eL5 (K : KK) : ∀ (n : Nat) (a : Option Addr) (b : Value) (h : Heap), (ln S0 [1, 1, 1, 0, 1, 0, 0] (c1 S0 K) n (f5 a b) h) = wL5 n a b h K
  | 0, _, _, _ => rfl
  | n + 1, a, b, h => (EL5 S0 n a b h K).trans (cg2 (fun q0 q1 => JL5 q0 q1 a b h K) (by funext a b h; exact (fun a b h => eL5 K n a b h) a b h) (by funext a h; exact ek6 K a h))
def wk5 (a : Option Addr) (b : Value) (h : Heap) (K : KK) : Prop :=
  Jk5 (fun a b h => ∃ m, wL5 m a b h K) a b h K
theorem ek5 (K : KK) (a : Option Addr) (b : Value) (h : Heap) : (en S0 [1, 1, 1, 0, 1] (c0 S0 K) (f5 a b) h) = wk5 a b h K := (Ek5 S0 a b h K).trans (cg1 (fun q0 => Jk5 q0 a b h K) (by funext a b h; exact ex_congr fun m => eL5 K m a b h))
def w (c : Addr) (d f g i j : Int) (h : Heap) (K : KK) : Prop :=
  J0 (fun a b h => wk5 a b h K) c d f g i j h K
theorem e0 (K : KK) (c : Addr) (d f g i j : Int) (h : Heap) : (E Tryz.prog X T S0 body (fin Tryz.prog Tryz.f182.results.toList K) (args0 0 [(.pointer (some c)), (.int .u8 d), (.int .u8 f), (.int .u32 g), (.int .u32 i), (.int .u32 j)]) h) = w c d f g i j h K := (E0 S0 c d f g i j h K).trans (cg1 (fun q0 => J0 q0 c d f g i j h K) (by funext a b h; exact ek5 K a b h))
theorem hb : Tryz.f182.body = some body := by kernel_rfl
theorem ok : okCode T Tryz.f182.ntmps body = true := by kernel_rfl
theorem spec (c : Addr) (d f g i j : Int) (h : Heap) (K : KK) (H : w c d f g i j h K) : Cl 182 [(.pointer (some c)), (.int .u8 d), (.int .u8 f), (.int .u32 g), (.int .u32 i), (.int .u32 j)] h K :=
  calls_of_E (T := T) Xok mix Tryz.func182 hb ok rfl (by rw [e0]; exact H)
end F182
namespace F207
def T : Hint := ⟨[(3, [15])], [(1, [[(0, []), (1, []), (2, []), (3, []), (4, []), (5, []), (6, []), (7, []), (8, []), (10, []), (11, []), (9, [0, 1, 2, 3, 10, 11]), (12, []), (13, [])]])]⟩
noncomputable def body : Code := (Tryz.f207.body).getD .skip
noncomputable def en (S : Stop) (p : List Nat) (κ : XK) : Fr → Heap → Prop := E Tryz.prog X T S (sub body p) κ
noncomputable def ln (S : Stop) (p : List Nat) (κ : XK) (n : Nat) : Fr → Heap → Prop := loopN S (E Tryz.prog X T S (sub body p)) (cutQ T (sub body p)) κ n
def fn (K : KK) : XK := fin Tryz.prog Tryz.f207.results.toList K
noncomputable def c0 (_S : Stop) (K : KK) : XK := blockN 0 (fn K)
noncomputable def c1 (S : Stop) (n3 : Nat) (K : KK) : XK := backN S (cutQ T (sub body [1, 1, 1, 0, 0])) (ln S [1, 1, 1, 0, 0] (c0 S K) n3) (c0 S K)
def f3 (a : Value) : Fr := [(15, a)]
def J0 (k3 : Value → Heap → Prop) (b : Addr) (d f g i j c : Int) (h : Heap) (K : KK) : Prop :=
  ldB (rd h (b.add 7)) (fun b1 => bcase b1 (K (.tuple #[]) h) (ldP (rd h (b.add 6)) (fun p2 => Cl 228 [(.int .u8 d), (.int .u8 f), (.int .u32 g), (.int .u32 i), (.int .u32 j)] h (fun v3 h4 => ldI .u64 (some v3) (fun n5 => ((.pointer (some b)) = ((.pointer (some b)) : Value) ∧ ((.pointer (some b)) = ((.pointer (some b)) : Value) ∧ ((.pointer (some (b.add 6))) = ((.pointer (some (b.add 6))) : Value) ∧ ldP (rd h4 (b.add 6)) (fun p6 => ((.pointer p6) = ((.pointer p2) : Value) ∧ ((.int .u32 c) = ((.int .u32 c) : Value) ∧ ((.int .u64 (IntKind.wrap .u64 c)) = ((.int .u64 (IntKind.wrap .u64 c)) : Value) ∧ Cl 252 [(.pointer p2), (.int .u64 n5), (.int .u64 (IntKind.wrap .u64 c))] h4 (fun v7 h8 => ldP (some v7) (fun p9 => k3 (.func (.func 229) #[(.pointer p9)] #[]) h8))))))))))))))
theorem E0 (S : Stop) (b : Addr) (d f g i j c : Int) (h : Heap) (K : KK) : (E Tryz.prog X T S body (fin Tryz.prog Tryz.f207.results.toList K) (args0 0 [(.pointer (some b)), (.int .u8 d), (.int .u8 f), (.int .u32 g), (.int .u32 i), (.int .u32 j), (.int .u32 c)]) h) = J0 (fun a h => S (en S [1, 1, 1] (fn K)) (f3 a) h) b d f g i j c h K := by kernel_rfl
def Jk3 (lp3 : Value → Heap → Prop) (a : Value) (h : Heap) (_K : KK) : Prop :=
  lp3 a h
theorem Ek3 (S : Stop) (a : Value) (h : Heap) (K : KK) : (en S [1, 1, 1] (fn K) (f3 a) h) = Jk3 (fun a h => ∃ n, S (ln S [1, 1, 1, 0, 0] (c0 S K) n) (f3 a) h) a h K := by kernel_rfl
def JL3 (bk3 : Value → Heap → Prop) (a : Value) (h : Heap) (K : KK) : Prop :=
  dynK Tryz.prog X a [] h (fun v1 h2 => ldB (some v1) (fun b3 => bcase (!b3) (bk3 a h2) (K (.tuple #[]) h2)))
theorem EL3 (S : Stop) (n3 : Nat) (a : Value) (h : Heap) (K : KK) : (en S [1, 1, 1, 0, 0] (c1 S n3 K) (f3 a) h) = JL3 (fun a h => S (ln S [1, 1, 1, 0, 0] (c0 S K) n3) (f3 a) h) a h K := by kernel_rfl
def wL3 : Nat → Value → Heap → KK → Prop
  | 0, _, _, _ => False
  | n + 1, a, h, K => JL3 (fun a h => wL3 n a h K) a h K
theorem eL3 (K : KK) : ∀ (n : Nat) (a : Value) (h : Heap), (ln S0 [1, 1, 1, 0, 0] (c0 S0 K) n (f3 a) h) = wL3 n a h K
  | 0, _, _ => rfl
  | n + 1, a, h => (EL3 S0 n a h K).trans (cg1 (fun q0 => JL3 q0 a h K) (by funext a h; exact (fun a h => eL3 K n a h) a h))
def wk3 (a : Value) (h : Heap) (K : KK) : Prop :=
  Jk3 (fun a h => ∃ m, wL3 m a h K) a h K
theorem ek3 (K : KK) (a : Value) (h : Heap) : (en S0 [1, 1, 1] (fn K) (f3 a) h) = wk3 a h K := (Ek3 S0 a h K).trans (cg1 (fun q0 => Jk3 q0 a h K) (by funext a h; exact ex_congr fun m => eL3 K m a h))
def w (b : Addr) (d f g i j c : Int) (h : Heap) (K : KK) : Prop :=
  J0 (fun a h => wk3 a h K) b d f g i j c h K
theorem e0 (K : KK) (b : Addr) (d f g i j c : Int) (h : Heap) : (E Tryz.prog X T S0 body (fin Tryz.prog Tryz.f207.results.toList K) (args0 0 [(.pointer (some b)), (.int .u8 d), (.int .u8 f), (.int .u32 g), (.int .u32 i), (.int .u32 j), (.int .u32 c)]) h) = w b d f g i j c h K := (E0 S0 b d f g i j c h K).trans (cg1 (fun q0 => J0 q0 b d f g i j c h K) (by funext a h; exact ek3 K a h))
theorem hb : Tryz.f207.body = some body := by kernel_rfl
theorem ok : okCode T Tryz.f207.ntmps body = true := by kernel_rfl
theorem spec (b : Addr) (d f g i j c : Int) (h : Heap) (K : KK) (H : w b d f g i j c h K) : Cl 207 [(.pointer (some b)), (.int .u8 d), (.int .u8 f), (.int .u32 g), (.int .u32 i), (.int .u32 j), (.int .u32 c)] h K :=
  calls_of_E (T := T) Xok mix Tryz.func207 hb ok rfl (by rw [e0]; exact H)
end F207
namespace F228
def w (a b c d f : Int) (h : Heap) (K : KK) : Prop :=
  (0 ≤ (56 : Int) ∧ (0 ≤ (48 : Int) ∧ (0 ≤ (32 : Int) ∧ (0 ≤ (16 : Int) ∧ K (.int .u64 (bitsI .or .u64 (bitsI .or .u64 (bitsI .or .u64 (bitsI .or .u64 (IntKind.wrap .u64 ((IntKind.wrap .u64 a) * 2 ^ (min (Int.toNat (56 : Int)) (IntKind.bits .u64)))) (IntKind.wrap .u64 ((IntKind.wrap .u64 b) * 2 ^ (min (Int.toNat (48 : Int)) (IntKind.bits .u64))))) (IntKind.wrap .u64 ((IntKind.wrap .u64 c) * 2 ^ (min (Int.toNat (32 : Int)) (IntKind.bits .u64))))) (IntKind.wrap .u64 ((IntKind.wrap .u64 d) * 2 ^ (min (Int.toNat (16 : Int)) (IntKind.bits .u64))))) (IntKind.wrap .u64 f))) h))))
theorem spec (a b c d f : Int) (h : Heap) (K : KK) (H : w a b c d f h K) : Cl 228 [(.int .u8 a), (.int .u8 b), (.int .u32 c), (.int .u32 d), (.int .u32 f)] h K :=
  cE Xok mix Tryz.func228 (by kernel_rfl) (by kernel_rfl) rfl (by kernel_rfl) H
end F228
end
section
set_option maxRecDepth 100000 in
theorem sto_new {h : Heap} {n room : Nat} {Q : Int → Int → Prop} {K : Value → Heap → Prop} (h1 : 1 ≤ n) (h8 : n ≤ 8) (r1 : 1 ≤ room) (r2 : room ≤ 32768)
    (hK : ∀ h' s L, Sto h' s L ⟨n, room, fill n, fill n, [], Q, false⟩ → Only [] h h' → (∀ b ∈ L, h.size ≤ b) → K (.tuple #[.pointer (some ⟨s, 0, none⟩), .int .i64 0]) h') :
    CallsH Tryz.prog 61 [.int .i64 (n : Int), .int .i64 (room : Int)] h K := by
  refine F61.spec _ _ h K ?_
  unfold F61.w F61.J0
  rw [decide_eq_false (by omega), bcase_false, decide_eq_false (by omega), bcase_false, decide_eq_false (by omega), bcase_false, decide_eq_false (by omega), bcase_false]
  unfold F61.wk5 F61.Jk5
  simp only [add_mk, Nat.zero_add]
  refine ord_new h1 h8 fun ob k1 Or g1 O1 => ldP_of rfl ?_
  have lo : ob < k1.size := At.lt Or
  refine newK_at fun k2 A2 O2 z2 => ?_
  refine cells_spec (k := 256) (by omega) (by omega) (ldI_of rfl ?_)
  rw [show (3 * 256 : Int) = ((768 : Nat) : Int) from rfl]
  refine new_spec fun cm cmc k3 M3 O3 g2 g3 => ldP_of rfl ?_
  rw [cellsFor_of (by omega)] at M3
  have l1 := M3.head.lt
  have l2 := M3.body.lt
  refine cacnew_spec (base := 0) (n := 256) M3 (by omega) (by omega) (by simp) (by simp) fun cac k4 C4 O4 g4 => ⟨_, _, rfl, ?_⟩
  have l3 := At.lt C4
  have A4 := (A2.only O3 (by simp)).only O4 (by simp)
  refine stK_at A4 (by simp) rfl fun k5 A5 O5 z5 => ?_
  have hB : ∃ B : SB, B = ⟨ob, 0, 0, 0, 0, cac, cm, cmc, none, 0, none, 0⟩ := ⟨_, rfl⟩
  obtain ⟨B, eB⟩ := hB
  have H5 : StR k5 k1.size n room B (fill n) (fill n) [] [] Q := by
    subst eB
    refine ⟨(((Or.only O2 (by simp)).only O3 (by simp)).only O4 (by simp)).only O5 (by simp; omega), Own.nil _ _ _, Win.nil _ _, ⟨List.replicate 768 0, 0, 0, ⟨C4.only O5 (by simp; omega), (M3.only O4 (by simp) (by simp)).only O5 (by simp; omega) (by simp; omega), by have := M3.head.lt; show cac ≠ cm; omega, by show cac ≠ cmc; omega, by omega, by omega, by simp, by simp⟩, ?_⟩, ⟨h1, h8⟩, ⟨by simp, r2, by simp⟩, ?_⟩
    · intro l hl
      have : ∀ j, (List.replicate 768 (0 : Int)).getD j 0 = 0 := fun j => by
        rw [List.getD_eq_getElem?_getD, List.getElem?_replicate]
        split <;> rfl
      rw [this]
      exact ⟨by omega, by omega, by omega, fun e => by omega⟩
    · have := M3.ne
      simp [SB.bm, OwnB]
      omega
  have := grows33 (T := 32) (bp := none) (bc := 0) (bl := []) (K := fun v h' => (v = (.tuple #[]) ∧ K (.tuple #[(.pointer (some (Addr.mk k1.size 0 none))), (.int .i64 (0 : Int))]) h')) (show At k5 k1.size (gcell room B 0 0 false (.pointer none) (.map none)) by subst eB; exact A5) H5 (fun i hi => absurd hi (by simp)) (fun a e => by cases e) (by simp) (by rw [era_nil]; simp [nd]) (by rw [era_nil]; simp [nd]) ⟨0, rfl⟩ (by rw [era_nil]; simp [cntN]) (by omega) fun tb m mc sb k6 H6 T6 _ p1 p2 p3 p4 O6 => ⟨rfl, ?_⟩
  · exact this
  rw [era_nil] at T6
  have OO : Only [] h k6 := ((((((O1.trans O2 (by simp)).trans O3 (by simp)).trans O4 (by simp)).trans O5 (by intro b hb hl; simp at hb; have := O1.size; omega)).trans O6 (by intro b hb hl; simp at hb; have := O1.size; omega)))
  have z1 := O1.size
  have z3 := O3.size
  have z4 := O4.size
  refine hK k6 k1.size _ ⟨_, [], rfl, H6, T6, ⟨by simp [nd], by simp [nd]⟩, by simp [cntN], by simp⟩ OO fun b hb => ?_
  subst eB
  simp [SB.bm, SB.bt, SB.tabs, OwnB] at hb
  omega
section
variable {h h' : Heap} {s : Nat} {L S : List Nat} {X : SX} {K : Value → Heap → Prop}
theorem sto_order (H : Sto h s L X) (hK : ∀ c h', OrdIs h' c X.n X.f X.g → h.size ≤ c → Only [] h h' → K (.pointer (some ⟨c, 0, none⟩)) h') : CallsH Tryz.prog 47 [.pointer (some ⟨s, 0, none⟩)] h K := by
  obtain ⟨B, F, e, H⟩ := H
  refine F47.spec _ h K ?_
  unfold F47.w
  simp only [add_mk, Nat.zero_add]
  refine ldP_of (by rw [At.rd H.m.S]; rfl) ?_
  exact ord_copy H.m.O fun c h' a b d => ldP_of rfl (hK c h' a b d)
end
end
section
def wkey (op mask a b c : Nat) : Nat := op * 2 ^ 56 + (mask * 2 ^ 48 + (a * 2 ^ 32 + (b * 2 ^ 16 + c)))
theorem wkey_inj {op mask a b c op' mask' a' b' c' : Nat} (h2 : mask < 2 ^ 8) (h3 : a < 2 ^ 16) (h4 : b < 2 ^ 16) (h5 : c < 2 ^ 16) (g2 : mask' < 2 ^ 8) (g3 : a' < 2 ^ 16) (g4 : b' < 2 ^ 16) (g5 : c' < 2 ^ 16) (e : wkey op mask a b c = wkey op' mask' a' b' c') :
    op = op' ∧ mask = mask' ∧ a = a' ∧ b = b' ∧ c = c' := by
  unfold wkey at e
  omega
theorem word107 {h : Heap} {op mask a b c : Nat} {K : Value → Heap → Prop} (h1 : op < 2 ^ 8) (h2 : mask < 2 ^ 8) (h3 : a < 2 ^ 16) (h4 : b < 2 ^ 16) (h5 : c < 2 ^ 16) (hK : K (.int .u64 ((wkey op mask a b c : Nat) : Int)) h) :
    CallsH Tryz.prog 228 [.int .u8 (op : Int), .int .u8 (mask : Int), .int .u32 (a : Int), .int .u32 (b : Int), .int .u32 (c : Int)] h K := by
  refine F228.spec _ _ _ _ _ h K ?_
  unfold F228.w
  have U : ∀ {x : Nat}, x < 2 ^ 64 → IntKind.wrap .u64 (x : Int) = (x : Int) := fun h => wrapU (by unfold U64; omega)
  have e1 : IntKind.wrap .u64 ((IntKind.wrap .u64 (op : Int)) * 2 ^ (min (Int.toNat (56 : Int)) (IntKind.bits .u64))) = ((op <<< 56 : Nat) : Int) := by
    rw [U (by omega), show min (Int.toNat (56 : Int)) (IntKind.bits .u64) = 56 by rfl, show (op : Int) * 2 ^ 56 = ((op * 2 ^ 56 : Nat) : Int) by omega, U (by omega), Nat.shiftLeft_eq]
  have e2 : IntKind.wrap .u64 ((IntKind.wrap .u64 (mask : Int)) * 2 ^ (min (Int.toNat (48 : Int)) (IntKind.bits .u64))) = ((mask <<< 48 : Nat) : Int) := by
    rw [U (by omega), show min (Int.toNat (48 : Int)) (IntKind.bits .u64) = 48 by rfl, show (mask : Int) * 2 ^ 48 = ((mask * 2 ^ 48 : Nat) : Int) by omega, U (by omega), Nat.shiftLeft_eq]
  have e3 : IntKind.wrap .u64 ((IntKind.wrap .u64 (a : Int)) * 2 ^ (min (Int.toNat (32 : Int)) (IntKind.bits .u64))) = ((a <<< 32 : Nat) : Int) := by
    rw [U (by omega), show min (Int.toNat (32 : Int)) (IntKind.bits .u64) = 32 by rfl, show (a : Int) * 2 ^ 32 = ((a * 2 ^ 32 : Nat) : Int) by omega, U (by omega), Nat.shiftLeft_eq]
  have e4 : IntKind.wrap .u64 ((IntKind.wrap .u64 (b : Int)) * 2 ^ (min (Int.toNat (16 : Int)) (IntKind.bits .u64))) = ((b <<< 16 : Nat) : Int) := by
    rw [U (by omega), show min (Int.toNat (16 : Int)) (IntKind.bits .u64) = 16 by rfl, show (b : Int) * 2 ^ 16 = ((b * 2 ^ 16 : Nat) : Int) by omega, U (by omega), Nat.shiftLeft_eq]
  refine ⟨by omega, by omega, by omega, by omega, ?_⟩
  rw [e1, e2, e3, e4, U (by omega)]
  have s1 : op <<< 56 < U64 := by rw [Nat.shiftLeft_eq]; unfold U64; omega
  have s2 : mask <<< 48 < U64 := by rw [Nat.shiftLeft_eq]; unfold U64; omega
  have s3 : a <<< 32 < U64 := by rw [Nat.shiftLeft_eq]; unfold U64; omega
  have s4 : b <<< 16 < U64 := by rw [Nat.shiftLeft_eq]; unfold U64; omega
  have s5 : c < U64 := by unfold U64; omega
  rw [bor s1 s2, bor (or_lt s1 s2) s3, bor (or_lt (or_lt s1 s2) s3) s4, bor (or_lt (or_lt (or_lt s1 s2) s3) s4) s5, Nat.or_assoc, Nat.or_assoc, Nat.or_assoc, ← Nat.shiftLeft_add_eq_or_of_lt h5,
    ← Nat.shiftLeft_add_eq_or_of_lt (b := b <<< 16 + c) (by rw [Nat.shiftLeft_eq]; omega), ← Nat.shiftLeft_add_eq_or_of_lt (b := a <<< 32 + (b <<< 16 + c)) (by rw [Nat.shiftLeft_eq, Nat.shiftLeft_eq]; omega),
    ← Nat.shiftLeft_add_eq_or_of_lt (b := mask <<< 48 + (a <<< 32 + (b <<< 16 + c))) (by rw [Nat.shiftLeft_eq, Nat.shiftLeft_eq, Nat.shiftLeft_eq]; omega)]
  rw [Nat.shiftLeft_eq, Nat.shiftLeft_eq, Nat.shiftLeft_eq, Nat.shiftLeft_eq]
  exact hK
theorem CSound.get {Q : Int → Int → Prop} {cs : List Int} {key v : Int} (S : CSound Q cs) (G : GetRel (lineOf 0 256 key) key cs v true) : Q key v := by
  rcases G with ⟨-, h1, h2, h3⟩ | ⟨h, -⟩
  · have hl := home_lt key (n := 256) (by omega)
    obtain ⟨a, b, c, d⟩ := S (home key 256) hl
    unfold lineOf at h1 h2 h3
    rw [Nat.zero_add] at h1 h2 h3
    rw [and_three a b] at h1
    rw [← h2, h3]
    exact d h1
  · cases h
theorem CSound.put {Q : Int → Int → Prop} {cs cs' : List Int} {key v : Int} (S : CSound Q cs) (G : PutRel (lineOf 0 256 key) key v cs cs') (hq : Q key v) : CSound Q cs' := by
  obtain ⟨h1, h2, h3⟩ := G
  have hl := home_lt key (n := 256) (by omega)
  unfold lineOf at h2 h3
  generalize home key 256 = y at hl h2 h3
  rw [Nat.zero_add] at h2 h3
  rcases h3 with ⟨h4, h5, h6, h7⟩ | ⟨-, h4⟩
  · intro l hl'
    by_cases e : l = y
    · subst e
      obtain ⟨a, b, c, d⟩ := S l hl'
      rw [or_two a b] at h5
      rw [h5, h6, h7]
      have w := wrap_u64' (4 * (cs.getD (3 * l) 0 / 4) + 2 + cs.getD (3 * l) 0 % 2 + 4)
      rw [w]
      refine ⟨by omega, by omega, by omega, fun _ => hq⟩
    · rw [h2 (3 * l) (by omega) (by omega) (by omega), h2 (3 * l + 1) (by omega) (by omega) (by omega), h2 (3 * l + 2) (by omega) (by omega) (by omega)]
      exact S l hl'
  · subst h4
    exact S
theorem go229 : xget X 229 = some Ext.go := by kernel_rfl
section
variable {h : Heap} {s : Nat} {L S : List Nat} {X : SX} {K : Value → Heap → Prop}
theorem recall_loop {c m mc f : Nat} {cs : List Int} {ops fails : Int} {key : Int} (W : CW h c m mc 0 256 cs ops fails) (H : ActIs h f m (getA 0 256 key)) (d1 : f ≠ c) (d2 : f ≠ m) (d3 : f ≠ mc)
    (hK : ∀ h' ops' fails' v ok, GetRel (lineOf 0 256 key) key cs v ok → CW h' c m mc 0 256 cs ops' fails' → Only [f, m, mc] h h' → K (.tuple #[.int .u32 (IntKind.wrap .u32 v), .bool ok]) h') :
    F182.wk5 (some ⟨f, 0, none⟩) (.func (.func 229) #[.pointer (some ⟨f, 0, none⟩)] #[]) h K := by
  unfold F182.wk5 F182.Jk5
  have main : ∀ (d : Nat) (A : Ac) (h1 : Heap) (ops1 fails1 : Int), 9 - A.ph ≤ d → A.ph ≤ 8 → GInv cs A → A.pos = lineOf 0 256 key → A.key = key → ActIs h1 f m A → CW h1 c m mc 0 256 cs ops1 fails1 → Only [f, m, mc] h h1 →
      F182.wL5 (d + 1) (some ⟨f, 0, none⟩) (.func (.func 229) #[.pointer (some ⟨f, 0, none⟩)] #[]) h1 K := by
    intro d
    induction d with
    | zero => intro A h1 ops1 fails1 hg hp; omega
    | succ d ih =>
      intro A h1 ops1 fails1 hg hph G hp hk H1 W1 O1
      unfold F182.wL5 F182.JL5
      refine dynK_go go229 ?_
      refine stepA_cw W1 H1 (by rw [hp]; exact W1.pos key) hph d1 d2 d3 fun h2 ops2 fails2 H2 W2 O2 => ldB_of rfl ?_
      obtain ⟨s1, s2, s3, s4⟩ := G.step
      rw [s1] at W2
      have O12 := O1.trans O2 fun b hb _ => hb
      rcases s4 with ⟨e, r⟩ | ⟨G', e⟩
      · rw [e, Bool.not_true, bcase_false]
        unfold F182.wk6 F182.Jk6
        refine got_spec H2 ⟨_, _, rfl, ?_⟩
        rw [hp, hk] at r
        exact hK h2 ops2 fails2 _ _ r W2 O12
      · rw [G'.1, Bool.not_false, bcase_true]
        have hp8 : (stepA cs A).1.ph ≤ 8 := by
          rcases G'.2.2 with e' | ⟨e', _⟩ | ⟨e', _⟩ | ⟨e', _⟩ <;> omega
        exact ih _ h2 ops2 fails2 (by omega) hp8 G' (s2.trans hp) (s3.trans hk) H2 W2 O12
  exact ⟨_, main 5 (getA 0 256 key) h ops fails (by show 9 - 5 ≤ 5; omega) (by show 5 ≤ 8; omega) ⟨rfl, rfl, Or.inl rfl⟩ rfl rfl H W (Only.refl _ _)⟩
theorem note_loop {c m mc f : Nat} {cs : List Int} {ops fails : Int} {key val : Int} (W : CW h c m mc 0 256 cs ops fails) (H : ActIs h f m (putA 0 256 key val)) (d1 : f ≠ c) (d2 : f ≠ m) (d3 : f ≠ mc)
    (hK : ∀ h' ops' fails' cs', PutRel (lineOf 0 256 key) key val cs cs' → CW h' c m mc 0 256 cs' ops' fails' → Only [f, m, mc] h h' → K (.tuple #[]) h') :
    F207.wk3 (.func (.func 229) #[.pointer (some ⟨f, 0, none⟩)] #[]) h K := by
  unfold F207.wk3 F207.Jk3
  have main : ∀ (d : Nat) (A : Ac) (cs1 : List Int) (h1 : Heap) (ops1 fails1 : Int), 5 - A.ph ≤ d → A.ph ≤ 4 → PInvA cs cs1 A → A.pos = lineOf 0 256 key → A.key = key → A.val = val → ActIs h1 f m A → CW h1 c m mc 0 256 cs1 ops1 fails1 → Only [f, m, mc] h h1 →
      F207.wL3 (d + 1) (.func (.func 229) #[.pointer (some ⟨f, 0, none⟩)] #[]) h1 K := by
    intro d
    induction d with
    | zero => intro A cs1 h1 ops1 fails1 hg hp; omega
    | succ d ih =>
      intro A cs1 h1 ops1 fails1 hg hph G hp hk hv H1 W1 O1
      unfold F207.wL3 F207.JL3
      refine dynK_go go229 ?_
      refine stepA_cw W1 H1 (by rw [hp]; exact W1.pos key) (by omega) d1 d2 d3 fun h2 ops2 fails2 H2 W2 O2 => ldB_of rfl ?_
      obtain ⟨s2, s3, s3', s4⟩ := G.step (by rw [hp]; exact W.pos key)
      have O12 := O1.trans O2 fun b hb _ => hb
      rcases s4 with ⟨e, eo, r⟩ | ⟨G', e⟩
      · rw [e, Bool.not_true, bcase_false]
        rw [hp, hk, hv] at r
        exact hK h2 ops2 fails2 _ r W2 O12
      · rw [G'.1, Bool.not_false, bcase_true]
        have hp4 : (stepA cs1 A).1.ph ≤ 4 := by
          rcases G'.2.2 with ⟨e', _⟩ | ⟨_, _, ⟨e', _⟩ | ⟨e', _⟩ | ⟨e', _⟩ | ⟨e', _⟩⟩ <;> omega
        exact ih _ _ h2 ops2 fails2 (by omega) hp4 G' (s2.trans hp) (s3.trans hk) (s3'.trans hv) H2 W2 O12
  exact ⟨_, main 5 (putA 0 256 key val) cs h ops fails (by show 5 - 0 ≤ 5; omega) (Nat.zero_le _) ⟨rfl, rfl, Or.inl ⟨rfl, rfl⟩⟩ rfl rfl rfl H W (Only.refl _ _)⟩
theorem cac_only {B : SB} {F : List Nat} {h' : Heap} (H : StIs h s X.n X.room B X.f X.g X.N F X.Q X.off) (O : Only [B.cm, B.cmc] h h') (C : CacOk h' B X.Q) : StIs h' s X.n X.room B X.f X.g X.N F X.Q X.off := by
  have sp := H.m.sep
  have ts := H.t.sep
  have n1 : ∀ b, b ∈ [s, B.ob] ++ OwnB B.p ++ OwnB B.fp → b ∉ [B.cm, B.cmc] := fun b hb hm => by
    unfold SB.bm at sp
    simp only [List.nodup_append, List.mem_append, ne_eq, List.nodup_cons, List.mem_cons, List.not_mem_nil, or_false, not_or] at sp
    obtain ⟨⟨g1, _, g2⟩, _, g4⟩ := sp
    have hc : b = s ∨ b = B.ob ∨ b = B.cac ∨ b = B.cm ∨ b = B.cmc := by simp at hm; omega
    simp only [List.mem_append, List.mem_cons, List.not_mem_nil, or_false] at hb hm
    rcases hb with (hb | hb) | hb
    · omega
    · exact g2 b hc b hb rfl
    · exact g4 b (.inl hc) b hb rfl
  refine ⟨⟨H.m.S.only O (n1 _ (by simp)), H.m.O.only O (n1 _ (by simp)), H.m.own.only O fun b hb => n1 _ (by simp [hb, OwnB]), H.m.fre.only O fun b hb => n1 _ (by simp [hb]), C, H.m.n8, H.m.len, H.m.sep⟩, H.t.only O fun b hb hm => ts b hm (by simp [SB.bm] at hb ⊢; omega), H.ok, H.cnt, H.fre⟩
theorem sto_recall (H : Sto h s L X) {op mask a b c : Nat} (h1 : op < 2 ^ 8) (h2 : mask < 2 ^ 8) (h3 : a < 2 ^ 16) (h4 : b < 2 ^ 16) (h5 : c < 2 ^ 16)
    (hN : ∀ h', Sto h' s L X → Only L h h' → K (.tuple #[.int .u32 0, .bool false]) h') (hY : ∀ h' v, X.Q (wkey op mask a b c : Nat) v → Sto h' s L X → Only L h h' → K (.tuple #[.int .u32 (IntKind.wrap .u32 v), .bool true]) h') :
    CallsH Tryz.prog 182 [.pointer (some ⟨s, 0, none⟩), .int .u8 (op : Int), .int .u8 (mask : Int), .int .u32 (a : Int), .int .u32 (b : Int), .int .u32 (c : Int)] h K := by
  have H0 := H
  obtain ⟨B, F, e, H⟩ := H
  obtain ⟨cs, o, f', W, S⟩ := H.m.cac
  refine F182.spec _ _ _ _ _ _ h K ?_
  unfold F182.w F182.J0
  simp only [add_mk, Nat.zero_add]
  refine ldB_of (n := X.off) (by rw [At.rd H.m.S]; rfl) (bcase_of (fun _ => hN h H0 (Only.refl _ _)) fun _ => ?_)
  have rc : rd h ⟨s, 6, none⟩ = some (.pointer (some ⟨B.cac, 0, none⟩)) := by rw [At.rd H.m.S]; rfl
  refine ldP_of rc (word107 h1 h2 h3 h4 h5 (ldI_of rfl ⟨trivial, trivial, trivial, ldP_of rc ⟨rfl, ?_⟩⟩))
  refine get_spec W.cac (by omega) (by omega) (by omega) fun f k1 A1 O1 g1 => ldP_of rfl ?_
  have wl := W.lt
  refine recall_loop (W.only O1 (by simp) (by simp) (by simp)) A1 (by omega) (by omega) (by omega) fun h' ops' fails' v ok G W' O' => ?_
  have OO : Only [B.cm, B.cmc] h h' := ((Only.refl [B.cm, B.cmc] h).trans O1 (by simp)).trans O' (by intro x hx hl; simp at hx ⊢; omega)
  have S' : Sto h' s L X := ⟨B, F, e, cac_only H OO ⟨cs, ops', fails', W', S⟩⟩
  have OL : Only L h h' := OO.mono fun x hx _ => by
    subst e
    simp [SB.bm] at hx ⊢
    omega
  cases ok with
  | true => exact hY h' v (S.get G) S' OL
  | false =>
    rcases G with ⟨g, -⟩ | ⟨-, g, -⟩
    · cases g
    · subst g
      exact hN h' S' OL
theorem sto_note (H : Sto h s L X) {op mask a b c r : Nat} (h1 : op < 2 ^ 8) (h2 : mask < 2 ^ 8) (h3 : a < 2 ^ 16) (h4 : b < 2 ^ 16) (h5 : c < 2 ^ 16) (h6 : r < 2 ^ 32) (hq : X.Q (wkey op mask a b c : Nat) (r : Int))
    (hK : ∀ h', Sto h' s L X → Only L h h' → K (.tuple #[]) h') :
    CallsH Tryz.prog 207 [.pointer (some ⟨s, 0, none⟩), .int .u8 (op : Int), .int .u8 (mask : Int), .int .u32 (a : Int), .int .u32 (b : Int), .int .u32 (c : Int), .int .u32 (r : Int)] h K := by
  have H0 := H
  obtain ⟨B, F, e, H⟩ := H
  obtain ⟨cs, o, f', W, S⟩ := H.m.cac
  refine F207.spec _ _ _ _ _ _ _ h K ?_
  unfold F207.w F207.J0
  simp only [add_mk, Nat.zero_add]
  refine ldB_of (n := X.off) (by rw [At.rd H.m.S]; rfl) (bcase_of (fun _ => hK h H0 (Only.refl _ _)) fun _ => ?_)
  have rc : rd h ⟨s, 6, none⟩ = some (.pointer (some ⟨B.cac, 0, none⟩)) := by rw [At.rd H.m.S]; rfl
  refine ldP_of rc (word107 h1 h2 h3 h4 h5 (ldI_of rfl ⟨trivial, trivial, trivial, ldP_of rc ⟨rfl, by trivial, by trivial, ?_⟩⟩))
  rw [wrapU (a := r) (by unfold U64; omega)]
  refine put_spec W.cac (by omega) (by omega) (by omega) fun f k1 A1 O1 g1 => ldP_of rfl ?_
  have wl := W.lt
  refine note_loop (W.only O1 (by simp) (by simp) (by simp)) A1 (by omega) (by omega) (by omega) fun h' ops' fails' cs' G W' O' => ?_
  have OO : Only [B.cm, B.cmc] h h' := ((Only.refl [B.cm, B.cmc] h).trans O1 (by simp)).trans O' (by intro x hx hl; simp at hx ⊢; omega)
  have S' : Sto h' s L X := ⟨B, F, e, cac_only H OO ⟨cs', ops', fails', W', S.put G hq⟩⟩
  have OL : Only L h h' := OO.mono fun x hx _ => by
    subst e
    simp [SB.bm] at hx ⊢
    omega
  exact hK h' S' OL
end
end
section
end
section
end
section
theorem tob_lt : ∀ y : Fin 256, ∀ v : Fin 8, ∀ b : Bool, tob y.1 v.1 b < 256 := by decide +kernel
end
section
end
section
theorem wr_put {h : Heap} {b : Nat} {g0 g : Nat → Nat} {K : Heap → Prop} (A : At h b (wrow g0)) (hK : ∀ h', At h' b (wrow g) → Only [b] h h' → K h') :
    stK h (Addr.add ⟨b, 0, none⟩ 0) (.int .u64 ((g 0 : Nat) : Int)) fun h1 => stK h1 (Addr.add ⟨b, 0, none⟩ 1) (.int .u64 ((g 1 : Nat) : Int)) fun h2 => stK h2 (Addr.add ⟨b, 0, none⟩ 2) (.int .u64 ((g 2 : Nat) : Int)) fun h3 => stK h3 (Addr.add ⟨b, 0, none⟩ 3) (.int .u64 ((g 3 : Nat) : Int)) K := by
  simp only [add_mk, Nat.zero_add]
  exact wr_st A (by decide) fun h1 C1 O1 => wr_st C1 (by decide) fun h2 C2 O2 => wr_st C2 (by decide) fun h3 C3 O3 => wr_st C3 (by decide) fun h4 C4 O4 =>
    hK h4 C4 (((O1.trans O2 (by simp)).trans O3 (by simp)).trans O4 (by simp))
theorem bit_and : ∀ y : Fin 256, ∀ v : Fin 8, (bitsI .and .i64 (Int.fdiv ((y.1 : Nat) : Int) (2 ^ (min (Int.toNat (IntKind.wrap .u64 ((v.1 : Nat) : Int))) (IntKind.bits .i64)))) 1 == 1) = y.1.testBit v.1 := by decide +kernel
set_option maxRecDepth 100000 in
theorem var28 {h : Heap} {v : Int} {K : Value → Heap → Prop}
    (hK : ∀ h' g, WOk g → (∀ y, y < 256 → fb g y = (decide (0 ≤ v ∧ v < 8) && y.testBit v.toNat)) → Only [] h h' → K (aggW g) h') : CallsH Tryz.prog 33 [.int .i64 v] h K := by
  refine F33.spec _ h K ?_
  unfold F33.w F33.J0
  refine newK_at fun h1 A1 O1 z1 => newK_at fun h2 A2 O2 z2 => ?_
  replace A1 : At h1 h.size (wrow fun _ => 0) := A1
  replace A2 : At h2 h1.size (wrow fun _ => 0) := A2
  have B1 := A1.only O2 (by simp)
  have hne : h1.size ≠ h.size := by omega
  refine wr_put (g := fun _ => 0) A2 fun h3 A3 O3 => ?_
  have B3 := B1.only O3 (by simp; omega)
  have O03 : Only [] h h3 := (O1.trans O2 (by simp)).trans O3 (by intro b hb hlt; simp at hb; omega)
  unfold F33.wk3 F33.Jk3
  by_cases hv : 0 ≤ v ∧ v < 8
  · obtain ⟨n, rfl⟩ : ∃ n : Nat, v = n := ⟨v.toNat, by omega⟩
    have hn : n < 8 := by omega
    have main : ∀ (d k : Nat) (g : Nat → Nat) (h' : Heap), k + d = 256 → WOk g → (∀ y, y < 256 → fb g y = (y.testBit n && decide (y < k))) → At h' h1.size (wrow g) → At h' h.size (wrow fun _ => 0) → Only [] h h' →
        F33.wL3 (d + 1) n ⟨h.size, 0, none⟩ ⟨h1.size, 0, none⟩ k h' K := by
      intro d
      induction d with
      | zero =>
        intro k g h' hd hg hf A C O
        unfold F33.wL3 F33.JL3
        rw [show decide ((k : Int) < 256) = false by simp; omega, bcase_false]
        refine copy4 A C hne fun h'' O'' => hK h'' g hg (fun y hy => ?_) (O.trans O'' (by intro b hb hlt; simp at hb; omega))
        rw [hf y hy, decide_eq_true (by omega), Bool.and_true, decide_eq_true hv, Bool.true_and, Int.toNat_natCast]
      | succ d ih =>
        intro k g h' hd hg hf A C O
        unfold F33.wL3 F33.JL3
        have e := bit_and ⟨k, by omega⟩ ⟨n, hn⟩
        dsimp only at e
        rw [show decide ((k : Int) < 256) = true by simp; omega, bcase_true, show decide ((n : Int) ≥ 0) = true by simp, bcase_true, show decide ((n : Int) < 8) = true by simp; omega, bcase_true, e,
          wrap8 (by omega), show IntKind.wrap .i64 ((k : Int) + 1) = ((k + 1 : Nat) : Int) by rw [wrap_i64 (by omega) (by omega)]; omega, wrapU (a := n) (by unfold U64; omega)]
        refine ⟨by omega, ?_⟩
        refine set51 A hg (by omega) fun h'' A'' O'' => ⟨rfl, ih (k + 1) _ h'' (by omega) (sbit_ok hg) (fun y hy => ?_) A'' (C.only O'' (by simp; omega)) (O.trans O'' (by intro b hb hlt; simp at hb; omega))⟩
        rw [sbit_fb, hf y hy]
        by_cases e : y = k
        · subst e; simp
        · by_cases l : y < k
          · simp [e, l, show y < k + 1 by omega]
          · simp [e, l, show ¬ y < k + 1 by omega]
    exact ⟨_, main 256 0 _ h3 rfl (fun _ _ => by decide) (fun y _ => by rw [zero_fb]; simp) A3 B3 O03⟩
  · refine ⟨1, ?_⟩
    unfold F33.wL3 F33.JL3
    rw [show decide ((0 : Int) < 256) = true by decide, bcase_true]
    have out : ∀ h', Only [h.size] h3 h' → K (aggW fun _ => 0) h' := fun h' O => hK h' _ (fun _ _ => by decide) (fun y _ => by rw [zero_fb, decide_eq_false hv, Bool.false_and]) (O03.trans O (by intro b hb hlt; simp at hb; omega))
    refine bcase_of (fun hb => ?_) fun hb => ?_
    · have hb := of_decide_eq_true hb
      rw [decide_eq_false (by omega), bcase_false]
      exact copy4 A3 B3 hne out
    · exact copy4 A3 B3 hne out
end
section
theorem rd4 {h : Heap} {b : Nat} {g : Nat → Nat} {K : Int → Int → Int → Int → Prop} (A : At h b (wrow g)) (hK : K (g 0 : Int) (g 1 : Int) (g 2 : Int) (g 3 : Int)) :
    ldI .u64 (rd h (Addr.add ⟨b, 0, none⟩ 0)) fun n1 => ldI .u64 (rd h (Addr.add ⟨b, 0, none⟩ 1)) fun n2 => ldI .u64 (rd h (Addr.add ⟨b, 0, none⟩ 2)) fun n3 => ldI .u64 (rd h (Addr.add ⟨b, 0, none⟩ 3)) fun n4 => K n1 n2 n3 n4 := by
  simp only [add_mk, Nat.zero_add]
  exact ldI_of (wr_rd A (by decide)) (ldI_of (wr_rd A (by decide)) (ldI_of (wr_rd A (by decide)) (ldI_of (wr_rd A (by decide)) hK)))
def vrow (n : Nat) (f : Nat → Nat) : List Value := ((List.range n).map fun i => (f i : Int)).map (.int .i64)
end
section
end
section
theorem tb_tobF : ∀ y : Fin 256, ∀ v : Fin 8, ∀ b : Bool, ∀ i : Fin 8, (tob y.1 v.1 b).testBit i.1 = if i.1 = v.1 then b else y.1.testBit i.1 := by decide +kernel
theorem tb_tob {y v i : Nat} (hy : y < 256) (hv : v < 8) (b : Bool) (hi : i < 8) : (tob y v b).testBit i = if i = v then b else y.testBit i := tb_tobF ⟨y, hy⟩ ⟨v, hv⟩ b ⟨i, hi⟩
theorem tobl {y v : Nat} (hy : y < 256) (hv : v < 8) (b : Bool) : tob y v b < 256 := tob_lt ⟨y, hy⟩ ⟨v, hv⟩ b
theorem eq4 {g c : Nat → Nat} (hg : WOk g) (hc : WOk c) : (((g 0 : Int) == (c 0 : Int)) && (((g 1 : Int) == (c 1 : Int)) && (((g 2 : Int) == (c 2 : Int)) && (((g 3 : Int) == (c 3 : Int)) && true)))) = true ↔ ∀ y, y < 256 → fb g y = fb c y := by
  simp only [Bool.and_eq_true, beq_iff_eq, and_true]
  constructor
  · rintro ⟨h0, h1, h2, h3⟩ y hy
    unfold fb
    have : y / 64 = 0 ∨ y / 64 = 1 ∨ y / 64 = 2 ∨ y / 64 = 3 := by omega
    rcases this with e | e | e | e <;> rw [e] <;> congr 1 <;> omega
  · intro h
    have := fb_ext hg hc h
    exact ⟨by rw [this 0 (by omega)], by rw [this 1 (by omega)], by rw [this 2 (by omega)], by rw [this 3 (by omega)]⟩
end
section
def opB (op : Nat) (x y z : Bool) : Bool := if op = 2 then x && y else if op = 3 then x || y else if op = 4 then x != y else if x then y else z
structure OpR (n : Nat) (f : Nat → Nat) (N : List (Option Nd)) (op a b c r : Nat) : Prop where
  is : isN N r
  lv : ∀ k, k ≤ lvl n N a → k ≤ lvl n N b → k ≤ lvl n N c → k ≤ lvl n N r
  sm : ∀ x, sm n f N r x = opB op (sm n f N a x) (sm n f N b x) (sm n f N c x)
theorem OpR.ext {n : Nat} {f : Nat → Nat} {N N' : List (Option Nd)} {op a b c r : Nat} (R : OpR n f N op a b c r) (H : NOk n N) (E : Ex N N') (ha : isN N a) (hb : isN N b) (hc : isN N c) : OpR n f N' op a b c r :=
  ⟨E.isN R.is, fun k h1 h2 h3 => by
    rw [E.lvl ha] at h1
    rw [E.lvl hb] at h2
    rw [E.lvl hc] at h3
    rw [E.lvl R.is]
    exact R.lv k h1 h2 h3, fun x => by rw [E.sm H R.is, E.sm H ha, E.sm H hb, E.sm H hc, R.sm]⟩
def QL (n : Nat) (f : Nat → Nat) (N : List (Option Nd)) (k v : Int) : Prop := ∃ op a b c r : Nat, k = (wkey op 0 a b c : Nat) ∧ v = (r : Int) ∧ op < 2 ^ 8 ∧ isN N a ∧ isN N b ∧ isN N c ∧ a < 2 ^ 16 ∧ b < 2 ^ 16 ∧ c < 2 ^ 16 ∧ OpR n f N op a b c r
theorem QL.ext {n : Nat} {f : Nat → Nat} {N N' : List (Option Nd)} {k v : Int} (Q : QL n f N k v) (H : NOk n N) (E : Ex N N') : QL n f N' k v := by
  obtain ⟨op, a, b, c, r, h1, h2, h3, h4, h5, h6, h7, h8, h9, R⟩ := Q
  exact ⟨op, a, b, c, r, h1, h2, h3, E.isN h4, E.isN h5, E.isN h6, h7, h8, h9, R.ext H E h4 h5 h6⟩
theorem QL.get {n : Nat} {f : Nat → Nat} {N : List (Option Nd)} {op a b c : Nat} {v : Int} (Q : QL n f N (wkey op 0 a b c : Nat) v) (ha : a < 2 ^ 16) (hb : b < 2 ^ 16) (hc : c < 2 ^ 16) : ∃ r : Nat, v = r ∧ OpR n f N op a b c r := by
  obtain ⟨op', a', b', c', r, h1, h2, h3, h4, h5, h6, h7, h8, h9, R⟩ := Q
  obtain ⟨e1, -, e2, e3, e4⟩ := wkey_inj (by decide) ha hb hc (by decide) h7 h8 h9 (Int.ofNat.inj h1)
  subst e1 e2 e3 e4
  exact ⟨r, h2, R⟩
theorem sto_Q {h : Heap} {s : Nat} {L : List Nat} {X : SX} (H : Sto h s L X) {Q' : Int → Int → Prop} (hQ : ∀ k v, X.Q k v → Q' k v) : Sto h s L { X with Q := Q' } := by
  obtain ⟨B, F, e, H⟩ := H
  obtain ⟨cs, o, fl, c1, c2⟩ := H.m.cac
  refine ⟨B, F, e, ⟨⟨H.m.S, H.m.O, H.m.own, H.m.fre, ⟨cs, o, fl, c1, fun l hl => ?_⟩, H.m.n8, H.m.len, H.m.sep⟩, H.t, H.ok, H.cnt, H.fre⟩⟩
  obtain ⟨g1, g2, g3, g4⟩ := c2 l hl
  exact ⟨g1, g2, g3, fun e => hQ _ _ (g4 e)⟩
def XL (n room : Nat) (f g : Nat → Nat) (N : List (Option Nd)) (off : Bool) : SX := ⟨n, room, f, g, N, QL n f N, off⟩
theorem sto_XL {h : Heap} {s n room : Nat} {f g : Nat → Nat} {L : List Nat} {N N' : List (Option Nd)} {off : Bool} (H : Sto h s L { XL n room f g N off with N := N' }) (ok : NOk n N) (E : Ex N N') : Sto h s L (XL n room f g N' off) :=
  sto_Q H fun _ _ h => QL.ext h ok E
theorem lvl_end {n : Nat} {N : List (Option Nd)} {a : Nat} (h : a < 2) : lvl n N a = n := by unfold lvl; rw [if_pos h]
theorem eq_cast {a b : Nat} : ((a : Int) == (b : Int)) = decide (a = b) := by
  by_cases h : a = b
  · subst h; simp
  · rw [decide_eq_false h]
    simp
    omega
end
end Go.Proofs.YtnofenejoebkhaaGreat.Ev
