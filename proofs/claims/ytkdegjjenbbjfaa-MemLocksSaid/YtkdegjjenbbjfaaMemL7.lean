/- THE LAW OF LOCKS. Conditions: none. -/
import Derived.Test.YtkdegjjenbbjfaaMemL3
namespace Go.Proofs.Ytkdegjjenbbjfaa.Ev
open Go

theorem locks_loop {h0 : Heap} {p : Option Addr} {cap m mc : Nat} {zs : List Int} (hr : ∀ z ∈ zs, IntKind.min .u8 ≤ z ∧ z ≤ IntKind.max .u8) (hl : zs.length ≤ 300) (hI : Ints h0 .u8 p zs)
    (s1 : h0.size ≤ m) (s2 : h0.size ≤ mc) :
    ∀ (n i : Nat) (owner fails ops : Int) (h : Heap), zs.length - i < n → i ≤ zs.length → 0 ≤ owner → owner ≤ 5 → 0 ≤ fails → fails ≤ i →
      MemIs h m mc [owner, 0] ops fails → Only [] h0 h →
      F7.wL8 n p zs.length cap (some ⟨m, 0, none⟩) owner fails (i : Int) h (Lawful h0) := by
  intro n
  induction n with
  | zero => intro i owner fails ops h hn; omega
  | succ n ih =>
    intro i owner fails ops h hn hi ho0 ho1 hf0 hf1 M O
    have hS : ∀ b ∈ [m, mc], h0.size ≤ b := by simp [s1, s2]
    unfold F7.wL8 F7.JL8
    by_cases hlt : i < zs.length
    · rw [decide_eq_true (by omega : (i : Int) < (Nat.cast zs.length : Int)), bcase_true]
      obtain ⟨a, rfl, ha⟩ := hI.only O (by simp) i hlt
      obtain ⟨w0, w1⟩ := tmod_fit (range_getD hr hlt) (by omega : (0 : Int) < 5)
      refine ⟨by omega, by omega, ?_⟩
      rw [Int.toNat_natCast, Nat.mul_one, ha, ldI_some]
      generalize hw : (zs.getD i 0).tmod 5 = w at w0 w1 ⊢
      have hs1 : IntKind.wrap .i64 ((i : Int) + 1) = ((i + 1 : Nat) : Int) := by rw [wrap_i64 (by omega) (by omega)]; simp
      have hw1 : IntKind.wrap .i64 (IntKind.wrap .i64 w + 1) = w + 1 := by rw [wrap_i64 (n := w) (by omega) (by omega), wrap_i64 (by omega) (by omega)]
      rw [hw1, wrap_u64 (n := w + 1) (by omega) (by omega), hs1]
      refine ⟨by decide, bcase_of (fun e => ?_) fun e => ?_⟩
      · refine store_in (i := 0) M (by decide) (by simp) fun h1 M1 O1 => ⟨rfl, ?_⟩
        exact ih (i + 1) 0 fails _ h1 (by omega) (by omega) (by omega) (by omega) hf0 (by omega) M1 (O.nil O1 hS)
      · have hend : ∀ (h1 : Heap) (owner' fails' ops' : Int), 0 ≤ owner' → owner' ≤ 5 → 0 ≤ fails' → fails' ≤ i + 1 → MemIs h1 m mc [owner', 0] ops' fails' → Only [m, mc] h h1 →
            F7.wk20 (fun x0p x0l x0c x3 x4 x5 x6 h => F7.wL8 n x0p x0l x0c x3 x4 x5 x6 h (Lawful h0)) (some a) zs.length cap (some ⟨m, 0, none⟩) owner' fails' (i : Int) h1 (Lawful h0) := by
          intro h1 owner' fails' ops' e0 e1 e2 e3 M1 O1
          unfold F7.wk20 F7.Jk20
          refine load_in (i := 0) M1 (by decide) (by simp) fun h2 M2 O2 => ldI_of rfl ?_
          rw [wrap_u64 (n := owner') (by omega) (by omega), show (([owner', 0] : List Int).getD (Int.toNat 0) 0 != owner') = false by simp, bcase_false]
          refine fails_spec M2 (ldI_of rfl ?_)
          rw [bne_self_eq_false, bcase_false, hs1]
          exact ih (i + 1) owner' fails' _ h2 (by omega) (by omega) e0 e1 e2 (by omega) M2 ((O.nil O1 hS).nil O2 hS)
        refine cas_in (i := 0) M (by decide) (by simp) (fun e' h1 M1 O1 => ?_) fun e' h1 M1 O1 => ?_
        · have e' : owner = 0 := by simpa using e'
          subst e'
          simp only [ldB_some, BEq.rfl, Bool.not_true, bcase_false, bcase_true]
          exact hend h1 (w + 1) fails _ (by omega) (by omega) hf0 (by omega) M1 O1
        · have e' : owner ≠ 0 := by simpa using e'
          have e'' : (owner == 0) = false := by simpa using e'
          rw [up_of hf0 (by omega)] at M1
          rw [wrap_i64 (n := fails + 1) (by omega) (by omega)]
          simp only [ldB_some, e'', BEq.rfl, Bool.not_true, bcase_false]
          exact hend h1 owner (fails + 1) _ ho0 ho1 (by omega) (by omega) M1 O1
    · rw [decide_eq_false (by omega : ¬ (i : Int) < (Nat.cast zs.length : Int)), bcase_false]
      exact load_in (i := 1) M (by decide) (by simp) fun h1 M1 O1 => ldI_of rfl ⟨rfl, O.nil O1 hS⟩

theorem locks_law (h : Heap) (p : Option Addr) (c : Nat) (zs : List Int) (hI : Ints h .u8 p zs) (hr : ∀ z ∈ zs, IntKind.min .u8 ≤ z ∧ z ≤ IntKind.max .u8) (_ : (zs.length : Int) ≤ maxLen) :
    CallsH Try.prog 7 [.slice p zs.length c] h (Lawful h) := by
  apply F7.spec
  unfold F7.w F7.J0
  refine known_spec fun h1 O1 => ?_
  simp only [ldB_some, Bool.not_true, bcase_false]
  refine bcase_of (fun _ => ⟨rfl, O1⟩) fun hl => ?_
  simp at hl
  refine new_spec fun m mc h2 M2 O2 hm hc => ?_
  simp only [ldP_some]
  rw [show List.replicate (cellsFor 2) (0 : Int) = [0, 0] from rfl] at M2
  have := O1.size
  unfold F7.wk8 F7.Jk8
  exact ⟨zs.length + 1, locks_loop hr (by omega) hI (by omega) (by omega) (zs.length + 1) 0 0 0 0 h2 (by omega) (by omega) (by omega) (by omega) (by omega) (by omega) M2 (O1.nil O2 (by simp))⟩
end Go.Proofs.Ytkdegjjenbbjfaa.Ev
