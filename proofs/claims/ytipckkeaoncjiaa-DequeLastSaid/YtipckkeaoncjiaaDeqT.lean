/- THE DEQUE, its acts' steps that reach the ring. Conditions: the deque and the act stand. -/
import Derived.Test.YtipckkeaoncjiaaDeqS
namespace Go.Proofs.Ytipckkeaoncjiaa.Ev
open Go

section
variable {h : Heap} {f d m mc base n : Nat} {cs : List Int} {ops fails : Int} {K : Value → Heap → Prop} {v t b : Int} {x : Value} {dn ok : Bool}
variable (Q : DqIs h d m base n) (M : MemIs h m mc cs ops fails) (H : At h f (cD d v t b x dn ok)) (hb : base < 1000000) (hn : 1 ≤ n) (hn2 : n < 1000000) (hl : base + 2 + n ≤ cs.length) (d1 : f ≠ d) (d2 : f ≠ m) (d3 : f ≠ mc) (d4 : d ≠ m) (d5 : d ≠ mc)

include Q M H hb hn hn2 hl d2 d3
theorem q70 (hp : 0 ≤ b) (hK : ∀ h', At h' f (cD d v t b (nf 88 f) dn ok) → MemIs h' m mc (cs.set (slotOf base n b) v) (up ops) fails → Only [f, m, mc] h h' → K (.tuple #[]) h') : CallsH Try.prog 70 [.pointer (some ⟨f, 0, none⟩)] h K := by
  have hsl := slotOf_lt (base := base) hn hp
  apply F70.spec
  unfold F70.w F70.J0
  simp only [add_mk, Nat.zero_add, Nat.add_zero]
  have r0 : rd h ⟨f, 0, none⟩ = some (.pointer (some ⟨d, 0, none⟩)) := by rw [H.rd]; rfl
  have rm : rd h ⟨d, 0, none⟩ = some (.pointer (some ⟨m, 0, none⟩)) := by rw [At.rd Q]; rfl
  refine ldP_of r0 ?_
  simp only [ptrK_some, add_mk, Nat.zero_add]
  refine ldP_of rm (ldP_of r0 (ldI_of (n := b) (by rw [H.rd]; rfl) (ldI_of (n := v) (by rw [H.rd]; rfl) (value87 Q (by omega) hn (by omega) hp (ldI_of rfl ⟨by trivial, by trivial, by trivial, ldP_of r0 ⟨by trivial, ?_⟩⟩)))))
  refine ⟨by trivial, by trivial, ldP_of rm ⟨by trivial, by trivial, by trivial, by trivial, ldI_of (n := v) (by rw [H.rd]; rfl) ⟨rfl, ?_⟩⟩⟩
  refine store_in M (by omega) (by omega) fun h1 M1 O1 => ⟨rfl, ?_⟩
  rw [Int.toNat_natCast] at M1
  refine stK_at (H.only O1 (by simp [d2, d3])) (by simp [cD]) rfl fun h2 A2 O2 _ => ?_
  exact hK h2 A2 (M1.only O2 (by simp [d2.symm]) (by simp [d3.symm])) ((O1.mono (T := [f, m, mc]) (by simp +contextual)).trans O2 (by simp))
theorem q89 (hp : 0 ≤ b) (hT : t < b → ∀ h', At h' f (cD d (cs.getD (slotOf base n b) 0) t b x true true) → MemIs h' m mc cs (up ops) fails → Only [f, m, mc] h h' → K (.tuple #[]) h')
    (hF : ¬ t < b → ∀ h', At h' f (cD d (cs.getD (slotOf base n b) 0) t b (nf 99 f) dn ok) → MemIs h' m mc cs (up ops) fails → Only [f, m, mc] h h' → K (.tuple #[]) h') : CallsH Try.prog 89 [.pointer (some ⟨f, 0, none⟩)] h K := by
  have hsl := slotOf_lt (base := base) hn hp
  apply F89.spec
  unfold F89.w F89.J0
  simp only [add_mk, Nat.zero_add, Nat.add_zero]
  have r0 : rd h ⟨f, 0, none⟩ = some (.pointer (some ⟨d, 0, none⟩)) := by rw [H.rd]; rfl
  have rm : rd h ⟨d, 0, none⟩ = some (.pointer (some ⟨m, 0, none⟩)) := by rw [At.rd Q]; rfl
  refine ldP_of r0 ?_
  simp only [ptrK_some, add_mk, Nat.zero_add]
  refine ldP_of rm (ldP_of r0 (ldI_of (n := b) (by rw [H.rd]; rfl) (value87 Q (by omega) hn (by omega) hp (ldI_of rfl ⟨by trivial, by trivial, by trivial, by trivial, ldP_of r0 ⟨by trivial, ?_⟩⟩))))
  refine ⟨by trivial, by trivial, ldP_of rm ⟨by trivial, load_in M (by omega) (by omega) fun h1 M1 O1 => ldI_of rfl ⟨by trivial, ?_⟩⟩⟩
  rw [Int.toNat_natCast]
  refine stK_at (H.only O1 (by simp [d2, d3])) (by simp [cD]) rfl fun h2 A2 O2 _ => ?_
  have M2 := M1.only O2 (by simp [d2.symm]) (by simp [d3.symm])
  have P2 := (O1.mono (T := [f, m, mc]) (by simp +contextual)).trans O2 (by simp)
  refine ldI_of (n := t) (by rw [A2.rd]; rfl) (ldI_of (n := b) (by rw [A2.rd]; rfl) (bcase_of (fun e => ?_) fun e => ?_))
  · refine ends71 A2 (by simp [cD]) fun h3 A3 O3 => ⟨rfl, hT (of_decide_eq_true e) h3 A3 (M2.only O3 (by simp [d2.symm]) (by simp [d3.symm])) (P2.trans O3 (by simp))⟩
  · refine stK_at A2 (by simp [cD]) rfl fun h3 A3 O3 _ => ?_
    exact hF (of_decide_eq_false e) h3 A3 (M2.only O3 (by simp [d2.symm]) (by simp [d3.symm])) (P2.trans O3 (by simp))
theorem q73 (hp : 0 ≤ t) (hK : ∀ h', At h' f (cD d (cs.getD (slotOf base n t) 0) t b (nf 91 f) dn ok) → MemIs h' m mc cs (up ops) fails → Only [f, m, mc] h h' → K (.tuple #[]) h') : CallsH Try.prog 73 [.pointer (some ⟨f, 0, none⟩)] h K := by
  have hsl := slotOf_lt (base := base) hn hp
  apply F73.spec
  unfold F73.w F73.J0
  simp only [add_mk, Nat.zero_add, Nat.add_zero]
  have r0 : rd h ⟨f, 0, none⟩ = some (.pointer (some ⟨d, 0, none⟩)) := by rw [H.rd]; rfl
  have rm : rd h ⟨d, 0, none⟩ = some (.pointer (some ⟨m, 0, none⟩)) := by rw [At.rd Q]; rfl
  refine ldP_of r0 ?_
  simp only [ptrK_some, add_mk, Nat.zero_add]
  refine ldP_of rm (ldP_of r0 (ldI_of (n := t) (by rw [H.rd]; rfl) (value87 Q (by omega) hn (by omega) hp (ldI_of rfl ⟨by trivial, by trivial, by trivial, by trivial, ldP_of r0 ⟨by trivial, ?_⟩⟩))))
  refine ⟨by trivial, by trivial, ldP_of rm ⟨by trivial, load_in M (by omega) (by omega) fun h1 M1 O1 => ldI_of rfl ⟨by trivial, ?_⟩⟩⟩
  rw [Int.toNat_natCast]
  refine stK_at (H.only O1 (by simp [d2, d3])) (by simp [cD]) rfl fun h2 A2 O2 _ => stK_at A2 (by simp [cD]) rfl fun h3 A3 O3 _ => ?_
  have O23 := O2.trans O3 (by simp)
  exact hK h3 A3 (M1.only O23 (by simp [d2.symm]) (by simp [d3.symm])) ((O1.mono (T := [f, m, mc]) (by simp +contextual)).trans O23 (by simp))
omit hn2
include d1
theorem q90 (hK : ∀ h', At h' f (cD d v t b x true false) → MemIs h' m mc (cs.set (base + 1) (IntKind.wrap .u64 (IntKind.wrap .i64 (b + 1)))) (up ops) fails → Only [f, m, mc] h h' → K (.tuple #[]) h') : CallsH Try.prog 90 [.pointer (some ⟨f, 0, none⟩)] h K := by
  apply F90.spec
  unfold F90.w F90.J0
  simp only [add_mk, Nat.zero_add, Nat.add_zero]
  refine stK_at H (by simp [cD]) rfl fun h1 A1 O1 _ => ?_
  have A1 : At h1 f (cD d v t b x dn false) := A1
  refine q100 (Q.only O1 (by simp [d1.symm])) (M.only O1 (by simp [d2.symm]) (by simp [d3.symm])) A1 hb hn hl d2 d3 fun h2 A2 M2 O2 => ⟨rfl, hK h2 A2 M2 ?_⟩
  exact (O1.mono (T := [f, m, mc]) (by simp +contextual)).trans O2 (by simp)
end
end Go.Proofs.Ytipckkeaoncjiaa.Ev
