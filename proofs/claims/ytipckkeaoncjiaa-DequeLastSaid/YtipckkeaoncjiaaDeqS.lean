/- THE DEQUE, its acts' steps one by one. Conditions: the deque and the act stand. -/
import Derived.Test.YtipckkeaoncjiaaDeqC
namespace Go.Proofs.Ytipckkeaoncjiaa.Ev
open Go

def cD (d : Nat) (v t b : Int) (x : Value) (dn ok : Bool) : List Value := [.pointer (some ⟨d, 0, none⟩), .int .u64 v, .int .i64 t, .int .i64 b, x, .bool dn, .bool ok]
def nf (g f : Nat) : Value := .func (.func g) #[.pointer (some ⟨f, 0, none⟩)] #[]

section
variable {h : Heap} {f d m mc base n : Nat} {cs : List Int} {ops fails : Int} {K : Value → Heap → Prop} {v t b : Int} {x : Value} {dn ok : Bool}
variable (Q : DqIs h d m base n) (M : MemIs h m mc cs ops fails) (H : At h f (cD d v t b x dn ok)) (hb : base < 1000000) (hn : 1 ≤ n) (hn2 : n < 1000000) (hl : base + 2 + n ≤ cs.length) (d1 : f ≠ d) (d2 : f ≠ m) (d3 : f ≠ mc) (d4 : d ≠ m) (d5 : d ≠ mc)

include Q M H hb hn hl d2 d3
theorem q40 (hK : ∀ h', At h' f (cD d v t (IntKind.wrap .i64 (cs.getD (base + 1) 0)) (nf 58 f) dn ok) → MemIs h' m mc cs (up ops) fails → Only [f, m, mc] h h' → K (.tuple #[]) h') : CallsH Try.prog 40 [.pointer (some ⟨f, 0, none⟩)] h K := by
  apply F40.spec
  unfold F40.w F40.J0
  simp only [add_mk, Nat.zero_add, Nat.add_zero]
  refine ldP_of (by rw [H.rd]; rfl) (load43 Q M (by omega) (by decide) (by decide) (by omega) fun h1 M1 O1 => ldI_of rfl ?_)
  refine stK_at (H.only O1 (by simp [d2, d3])) (by simp [cD]) rfl fun h2 A2 O2 _ => stK_at A2 (by simp [cD]) rfl fun h3 A3 O3 _ => ?_
  have O23 := O2.trans O3 (by simp)
  exact hK h3 A3 (M1.only O23 (by simp [d2.symm]) (by simp [d3.symm])) ((O1.mono (T := [f, m, mc]) (by simp +contextual)).trans O23 (by simp))
theorem q41 (hK : ∀ h', At h' f (cD d v t (IntKind.wrap .i64 (IntKind.wrap .i64 (cs.getD (base + 1) 0) - 1)) (nf 59 f) dn ok) → MemIs h' m mc cs (up ops) fails → Only [f, m, mc] h h' → K (.tuple #[]) h') : CallsH Try.prog 41 [.pointer (some ⟨f, 0, none⟩)] h K := by
  apply F41.spec
  unfold F41.w F41.J0
  simp only [add_mk, Nat.zero_add, Nat.add_zero]
  refine ldP_of (by rw [H.rd]; rfl) (load43 Q M (by omega) (by decide) (by decide) (by omega) fun h1 M1 O1 => ldI_of rfl ?_)
  refine stK_at (H.only O1 (by simp [d2, d3])) (by simp [cD]) rfl fun h2 A2 O2 _ => stK_at A2 (by simp [cD]) rfl fun h3 A3 O3 _ => ?_
  have O23 := O2.trans O3 (by simp)
  exact hK h3 A3 (M1.only O23 (by simp [d2.symm]) (by simp [d3.symm])) ((O1.mono (T := [f, m, mc]) (by simp +contextual)).trans O23 (by simp))
theorem q42 (hK : ∀ h', At h' f (cD d v (IntKind.wrap .i64 (cs.getD base 0)) b (nf 60 f) dn ok) → MemIs h' m mc cs (up ops) fails → Only [f, m, mc] h h' → K (.tuple #[]) h') : CallsH Try.prog 42 [.pointer (some ⟨f, 0, none⟩)] h K := by
  apply F42.spec
  unfold F42.w F42.J0
  simp only [add_mk, Nat.zero_add, Nat.add_zero]
  refine ldP_of (by rw [H.rd]; rfl) (load43 Q M (by omega) (by decide) (by decide) (by omega) fun h1 M1 O1 => ldI_of rfl ?_)
  refine stK_at (H.only O1 (by simp [d2, d3])) (by simp [cD]) rfl fun h2 A2 O2 _ => stK_at A2 (by simp [cD]) rfl fun h3 A3 O3 _ => ?_
  have O23 := O2.trans O3 (by simp)
  exact hK h3 A3 (M1.only O23 (by simp [d2.symm]) (by simp [d3.symm])) ((O1.mono (T := [f, m, mc]) (by simp +contextual)).trans O23 (by simp))

theorem q60 (hK : ∀ h', At h' f (cD d v t (IntKind.wrap .i64 (cs.getD (base + 1) 0)) (nf 73 f) (if decide (t ≥ IntKind.wrap .i64 (cs.getD (base + 1) 0)) then true else dn) (if decide (t ≥ IntKind.wrap .i64 (cs.getD (base + 1) 0)) then false else ok)) →
    MemIs h' m mc cs (up ops) fails → Only [f, m, mc] h h' → K (.tuple #[]) h') : CallsH Try.prog 60 [.pointer (some ⟨f, 0, none⟩)] h K := by
  apply F60.spec
  unfold F60.w F60.J0
  simp only [add_mk, Nat.zero_add, Nat.add_zero]
  refine ldP_of (by rw [H.rd]; rfl) (load43 Q M (by omega) (by decide) (by decide) (by omega) fun h1 M1 O1 => ldI_of rfl ?_)
  refine stK_at (H.only O1 (by simp [d2, d3])) (by simp [cD]) rfl fun h2 A2 O2 _ => stK_at A2 (by simp [cD]) rfl fun h3 A3 O3 _ => ?_
  have O23 := O2.trans O3 (by simp)
  have M3 := M1.only O23 (by simp [d2.symm]) (by simp [d3.symm])
  have P3 := (O1.mono (T := [f, m, mc]) (by simp +contextual)).trans O23 (by simp)
  refine ldI_of (n := t) (by rw [A3.rd]; rfl) (ldI_of (n := IntKind.wrap .i64 (cs.getD (base + 1) 0)) (by rw [A3.rd]; rfl) (bcase_of (fun e => ?_) fun e => ?_))
  · refine ends71 A3 (by simp [cD]) fun h4 A4 O4 => ⟨by trivial, hK h4 ?_ (M3.only O4 (by simp [d2.symm]) (by simp [d3.symm])) (P3.trans O4 (by simp))⟩
    rw [e]
    exact A4
  · refine hK h3 ?_ M3 P3
    rw [e]
    exact A3
theorem q72 (hK : ∀ h', At h' f (cD d v (IntKind.wrap .i64 (cs.getD base 0)) b (if decide (IntKind.wrap .i64 (cs.getD base 0) > b) then nf 90 f else nf 89 f) dn ok) →
    MemIs h' m mc cs (up ops) fails → Only [f, m, mc] h h' → K (.tuple #[]) h') : CallsH Try.prog 72 [.pointer (some ⟨f, 0, none⟩)] h K := by
  apply F72.spec
  unfold F72.w F72.J0
  simp only [add_mk, Nat.zero_add, Nat.add_zero]
  refine ldP_of (by rw [H.rd]; rfl) (load43 Q M (by omega) (by decide) (by decide) (by omega) fun h1 M1 O1 => ldI_of rfl ?_)
  refine stK_at (H.only O1 (by simp [d2, d3])) (by simp [cD]) rfl fun h2 A2 O2 _ => stK_at A2 (by simp [cD]) rfl fun h3 A3 O3 _ => ?_
  have O23 := O2.trans O3 (by simp)
  have M3 := M1.only O23 (by simp [d2.symm]) (by simp [d3.symm])
  have P3 := (O1.mono (T := [f, m, mc]) (by simp +contextual)).trans O23 (by simp)
  refine ldI_of (n := IntKind.wrap .i64 (cs.getD base 0)) (by rw [A3.rd]; rfl) (ldI_of (n := b) (by rw [A3.rd]; rfl) (bcase_of (fun e => ?_) fun e => ?_))
  · refine stK_at A3 (by simp [cD]) rfl fun h4 A4 O4 _ => hK h4 ?_ (M3.only O4 (by simp [d2.symm]) (by simp [d3.symm])) (P3.trans O4 (by simp))
    rw [e]
    exact A4
  · refine hK h3 ?_ M3 P3
    rw [e]
    exact A3

theorem q88 (hK : ∀ h', At h' f (cD d v t b x true true) → MemIs h' m mc (cs.set (base + 1) (IntKind.wrap .u64 (IntKind.wrap .i64 (b + 1)))) (up ops) fails → Only [f, m, mc] h h' → K (.tuple #[]) h') : CallsH Try.prog 88 [.pointer (some ⟨f, 0, none⟩)] h K := by
  apply F88.spec
  unfold F88.w F88.J0
  simp only [add_mk, Nat.zero_add, Nat.add_zero]
  refine ldP_of (by rw [H.rd]; rfl) ?_
  simp only [ptrK_some, add_mk, Nat.zero_add]
  refine ldP_of (by rw [At.rd Q]; rfl) (ldP_of (by rw [H.rd]; rfl) ?_)
  simp only [ptrK_some, add_mk, Nat.zero_add]
  refine ldI_of (n := (base : Int)) (by rw [At.rd Q]; rfl) (ldI_of (n := b) (by rw [H.rd]; rfl) ?_)
  rw [show IntKind.wrap .i64 ((base : Int) + 1) = ((base + 1 : Nat) : Int) by rw [wrap_i64 (by omega) (by omega)]; simp]
  refine store_in M (by omega) (by omega) fun h1 M1 O1 => ⟨rfl, ?_⟩
  rw [Int.toNat_natCast] at M1
  refine ends71 (H.only O1 (by simp [d2, d3])) (by simp [cD]) fun h2 A2 O2 => ⟨rfl, hK h2 A2 (M1.only O2 (by simp [d2.symm]) (by simp [d3.symm])) ((O1.mono (T := [f, m, mc]) (by simp +contextual)).trans O2 (by simp))⟩
theorem q59 (hK : ∀ h', At h' f (cD d v t b (nf 72 f) dn ok) → MemIs h' m mc (cs.set (base + 1) (IntKind.wrap .u64 b)) (up ops) fails → Only [f, m, mc] h h' → K (.tuple #[]) h') : CallsH Try.prog 59 [.pointer (some ⟨f, 0, none⟩)] h K := by
  apply F59.spec
  unfold F59.w F59.J0
  simp only [add_mk, Nat.zero_add, Nat.add_zero]
  refine ldP_of (by rw [H.rd]; rfl) ?_
  simp only [ptrK_some, add_mk, Nat.zero_add]
  refine ldP_of (by rw [At.rd Q]; rfl) (ldP_of (by rw [H.rd]; rfl) ?_)
  simp only [ptrK_some, add_mk, Nat.zero_add]
  refine ldI_of (n := (base : Int)) (by rw [At.rd Q]; rfl) (ldI_of (n := b) (by rw [H.rd]; rfl) ?_)
  rw [show IntKind.wrap .i64 ((base : Int) + 1) = ((base + 1 : Nat) : Int) by rw [wrap_i64 (by omega) (by omega)]; simp]
  refine store_in M (by omega) (by omega) fun h1 M1 O1 => ⟨rfl, ?_⟩
  rw [Int.toNat_natCast] at M1
  refine stK_at (H.only O1 (by simp [d2, d3])) (by simp [cD]) rfl fun h2 A2 O2 _ => ?_
  exact hK h2 A2 (M1.only O2 (by simp [d2.symm]) (by simp [d3.symm])) ((O1.mono (T := [f, m, mc]) (by simp +contextual)).trans O2 (by simp))
theorem q100 (hK : ∀ h', At h' f (cD d v t b x true ok) → MemIs h' m mc (cs.set (base + 1) (IntKind.wrap .u64 (IntKind.wrap .i64 (b + 1)))) (up ops) fails → Only [f, m, mc] h h' → K (.tuple #[]) h') : CallsH Try.prog 100 [.pointer (some ⟨f, 0, none⟩)] h K := by
  apply F100.spec
  unfold F100.w F100.J0
  simp only [add_mk, Nat.zero_add, Nat.add_zero]
  refine ldP_of (by rw [H.rd]; rfl) ?_
  simp only [ptrK_some, add_mk, Nat.zero_add]
  refine ldP_of (by rw [At.rd Q]; rfl) (ldP_of (by rw [H.rd]; rfl) ?_)
  simp only [ptrK_some, add_mk, Nat.zero_add]
  refine ldI_of (n := (base : Int)) (by rw [At.rd Q]; rfl) (ldI_of (n := b) (by rw [H.rd]; rfl) ?_)
  rw [show IntKind.wrap .i64 ((base : Int) + 1) = ((base + 1 : Nat) : Int) by rw [wrap_i64 (by omega) (by omega)]; simp]
  refine store_in M (by omega) (by omega) fun h1 M1 O1 => ⟨rfl, ?_⟩
  rw [Int.toNat_natCast] at M1
  have H1 := H.only O1 (by simp [d2, d3])
  refine ldB_of (n := ok) (by rw [H1.rd]; rfl) (ends71 H1 (by simp [cD]) fun h2 A2 O2 => ⟨rfl, hK h2 A2 (M1.only O2 (by simp [d2.symm]) (by simp [d3.symm])) ((O1.mono (T := [f, m, mc]) (by simp +contextual)).trans O2 (by simp))⟩)
theorem q99 (hT : cs.getD base 0 = IntKind.wrap .u64 t → ∀ h', At h' f (cD d v t b (nf 100 f) dn true) → MemIs h' m mc (cs.set base (IntKind.wrap .u64 (IntKind.wrap .i64 (t + 1)))) (up ops) fails → Only [f, m, mc] h h' → K (.tuple #[]) h')
    (hF : cs.getD base 0 ≠ IntKind.wrap .u64 t → ∀ h' fails', At h' f (cD d v t b (nf 100 f) dn false) → MemIs h' m mc cs (up ops) fails' → Only [f, m, mc] h h' → K (.tuple #[]) h') : CallsH Try.prog 99 [.pointer (some ⟨f, 0, none⟩)] h K := by
  apply F99.spec
  unfold F99.w F99.J0
  simp only [add_mk, Nat.zero_add, Nat.add_zero]
  refine ldP_of (by rw [H.rd]; rfl) ?_
  simp only [ptrK_some, add_mk, Nat.zero_add]
  refine ldP_of (by rw [At.rd Q]; rfl) (ldP_of (by rw [H.rd]; rfl) ?_)
  simp only [ptrK_some, add_mk, Nat.zero_add]
  refine ldI_of (n := (base : Int)) (by rw [At.rd Q]; rfl) (ldI_of (n := t) (by rw [H.rd]; rfl) (ldI_of (n := t) (by rw [H.rd]; rfl) ?_))
  rw [show IntKind.wrap .i64 ((base : Int) + 0) = (base : Int) by rw [wrap_i64 (by omega) (by omega)]; simp]
  refine cas_in M (by omega) (by omega) (fun e h1 M1 O1 => ldB_of rfl ⟨by trivial, ?_⟩) fun e h1 M1 O1 => ldB_of rfl ⟨by trivial, ?_⟩
  all_goals
    rw [Int.toNat_natCast] at e
    refine stK_at (H.only O1 (by simp [d2, d3])) (by simp [cD]) rfl fun h2 A2 O2 _ => stK_at A2 (by simp [cD]) rfl fun h3 A3 O3 _ => ?_
    have O23 := O2.trans O3 (by simp)
    have M3 := M1.only O23 (by simp [d2.symm]) (by simp [d3.symm])
    have P3 := (O1.mono (T := [f, m, mc]) (by simp +contextual)).trans O23 (by simp)
  · rw [Int.toNat_natCast] at M3
    exact hT e h3 A3 M3 P3
  · exact hF e h3 _ A3 M3 P3
theorem q91 (hT : cs.getD base 0 = IntKind.wrap .u64 t → ∀ h', At h' f (cD d v t b x true true) → MemIs h' m mc (cs.set base (IntKind.wrap .u64 (IntKind.wrap .i64 (t + 1)))) (up ops) fails → Only [f, m, mc] h h' → K (.tuple #[]) h')
    (hF : cs.getD base 0 ≠ IntKind.wrap .u64 t → ∀ h' fails', At h' f (cD d v t b x true false) → MemIs h' m mc cs (up ops) fails' → Only [f, m, mc] h h' → K (.tuple #[]) h') : CallsH Try.prog 91 [.pointer (some ⟨f, 0, none⟩)] h K := by
  apply F91.spec
  unfold F91.w F91.J0
  simp only [add_mk, Nat.zero_add, Nat.add_zero]
  refine ldP_of (by rw [H.rd]; rfl) ?_
  simp only [ptrK_some, add_mk, Nat.zero_add]
  refine ldP_of (by rw [At.rd Q]; rfl) (ldP_of (by rw [H.rd]; rfl) ?_)
  simp only [ptrK_some, add_mk, Nat.zero_add]
  refine ldI_of (n := (base : Int)) (by rw [At.rd Q]; rfl) (ldI_of (n := t) (by rw [H.rd]; rfl) (ldI_of (n := t) (by rw [H.rd]; rfl) ?_))
  rw [show IntKind.wrap .i64 ((base : Int) + 0) = (base : Int) by rw [wrap_i64 (by omega) (by omega)]; simp]
  refine cas_in M (by omega) (by omega) (fun e h1 M1 O1 => ldB_of rfl ⟨by trivial, ?_⟩) fun e h1 M1 O1 => ldB_of rfl ⟨by trivial, ?_⟩
  all_goals
    rw [Int.toNat_natCast] at e
    refine ends71 (H.only O1 (by simp [d2, d3])) (by simp [cD]) fun h2 A2 O2 => ⟨by trivial, ?_⟩
    have M3 := M1.only O2 (by simp [d2.symm]) (by simp [d3.symm])
    have P3 := (O1.mono (T := [f, m, mc]) (by simp +contextual)).trans O2 (by simp)
  · rw [Int.toNat_natCast] at M3
    exact hT e h2 A2 M3 P3
  · exact hF e h2 _ A2 M3 P3
include d1 d4 d5
theorem q58 (hK : ∀ h', At h' f (cD d v (IntKind.wrap .i64 (cs.getD base 0)) b (nf 70 f) (if decide (IntKind.wrap .i64 (b - IntKind.wrap .i64 (cs.getD base 0)) ≥ (n : Int)) then true else dn) (if decide (IntKind.wrap .i64 (b - IntKind.wrap .i64 (cs.getD base 0)) ≥ (n : Int)) then false else ok)) →
    MemIs h' m mc cs (up ops) fails → Only [f, m, mc] h h' → K (.tuple #[]) h') : CallsH Try.prog 58 [.pointer (some ⟨f, 0, none⟩)] h K := by
  apply F58.spec
  unfold F58.w F58.J0
  simp only [add_mk, Nat.zero_add, Nat.add_zero]
  refine ldP_of (by rw [H.rd]; rfl) (load43 Q M (by omega) (by decide) (by decide) (by omega) fun h1 M1 O1 => ldI_of rfl ?_)
  refine stK_at (H.only O1 (by simp [d2, d3])) (by simp [cD]) rfl fun h2 A2 O2 _ => stK_at A2 (by simp [cD]) rfl fun h3 A3 O3 _ => ?_
  have O23 := O2.trans O3 (by simp)
  have M3 := M1.only O23 (by simp [d2.symm]) (by simp [d3.symm])
  have P3 := (O1.mono (T := [f, m, mc]) (by simp +contextual)).trans O23 (by simp)
  have Q3 := Q.only P3 (by simp [d1.symm, d4, d5])
  refine ldI_of (n := b) (by rw [A3.rd]; rfl) (ldI_of (n := IntKind.wrap .i64 (cs.getD base 0)) (by rw [A3.rd]; rfl) (ldP_of (by rw [A3.rd]; rfl) ?_))
  simp only [ptrK_some, add_mk, Nat.zero_add]
  refine ldI_of (n := (n : Int)) (by rw [At.rd Q3]; rfl) (bcase_of (fun e => ?_) fun e => ?_)
  · refine ends71 A3 (by simp [cD]) fun h4 A4 O4 => ⟨by trivial, hK h4 ?_ (M3.only O4 (by simp [d2.symm]) (by simp [d3.symm])) (P3.trans O4 (by simp))⟩
    rw [e]
    exact A4
  · refine hK h3 ?_ M3 P3
    rw [e]
    exact A3
end
end Go.Proofs.Ytipckkeaoncjiaa.Ev
