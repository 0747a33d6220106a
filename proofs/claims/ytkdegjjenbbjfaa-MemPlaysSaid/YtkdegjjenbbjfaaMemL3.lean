/- THE LAW OF ADDITIONS BY COMPARE AND SWAP. Conditions: none. -/
import Derived.Test.YtkdegjjenbbjfaaMemL
namespace Go.Proofs.Ytkdegjjenbbjfaa.Ev
open Go

theorem range_getD {k : IntKind} {zs : List Int} (hr : ∀ z ∈ zs, k.min ≤ z ∧ z ≤ k.max) {i : Nat} (hi : i < zs.length) : k.min ≤ zs.getD i 0 ∧ zs.getD i 0 ≤ k.max := by
  apply hr
  rw [show zs.getD i 0 = zs[i] by simp [List.getD, hi]]
  exact List.getElem_mem hi
theorem tmod_fit {z : Int} (h : IntKind.min .u8 ≤ z ∧ z ≤ IntKind.max .u8) {d : Int} (hd : 0 < d) : 0 ≤ z.tmod d ∧ z.tmod d < d := by
  have h0 : 0 ≤ z := h.1
  rw [Int.tmod_eq_emod_of_nonneg h0]
  exact ⟨Int.emod_nonneg _ (by omega), Int.emod_lt_of_pos _ hd⟩

theorem adds_loop {h0 : Heap} {p : Option Addr} {cap m mc b4 b5 : Nat} {zs : List Int} (hr : ∀ z ∈ zs, IntKind.min .u8 ≤ z ∧ z ≤ IntKind.max .u8) (hl : zs.length ≤ 200) (hI : Ints h0 .u8 p zs)
    (s1 : h0.size ≤ m) (s2 : h0.size ≤ mc) (s3 : h0.size ≤ b4) (s4 : h0.size ≤ b5) (d1 : b4 ≠ b5) (d2 : b4 ≠ m) (d3 : b4 ≠ mc) (d4 : b5 ≠ m) (d5 : b5 ≠ mc) :
    ∀ (n i : Nat) (done ops fails : Int) (has : List Bool) (saw : List Int) (h : Heap), zs.length - i < n → i ≤ zs.length → 0 ≤ done → done ≤ i → has.length = 4 → saw.length = 4 →
      MemIs h m mc [done] ops fails → At h b4 (has.map .bool) → At h b5 (saw.map (.int .u64)) → Only [] h0 h →
      F3.wL10 n p zs.length cap (some ⟨m, 0, none⟩) ⟨b4, 0, none⟩ ⟨b5, 0, none⟩ done (i : Int) h (Lawful h0) := by
  intro n
  induction n with
  | zero => intro i done ops fails has saw h hn; omega
  | succ n ih =>
    intro i done ops fails has saw h hn hi hd0 hd1 lh ls M A4 A5 O
    have hS : ∀ b ∈ [m, mc], h0.size ≤ b := by simp [s1, s2]
    unfold F3.wL10 F3.JL10
    by_cases hlt : i < zs.length
    · rw [decide_eq_true (by omega : (i : Int) < (Nat.cast zs.length : Int)), bcase_true]
      obtain ⟨a, rfl, ha⟩ := hI.only O (by simp) i hlt
      obtain ⟨w0, w1⟩ := tmod_fit (range_getD hr hlt) (by omega : (0 : Int) < 4)
      refine ⟨by omega, by omega, ?_⟩
      rw [Int.toNat_natCast, Nat.mul_one, ha, ldI_some]
      generalize hw : (zs.getD i 0).tmod 4 = w at w0 w1 ⊢
      have hw4 : w.toNat < 4 := by omega
      have hs1 : IntKind.wrap .i64 ((i : Int) + 1) = ((i + 1 : Nat) : Int) := by rw [wrap_i64 (by omega) (by omega)]; simp
      refine ⟨by decide, w0, w1, ?_⟩
      simp only [add_mk, Nat.zero_add, Nat.mul_one, Nat.add_zero, A4.rd]
      refine ldB_of (n := has.getD w.toNat false) (by simp [lh, hw4]) (bcase_of (fun _ => ?_) fun _ => ?_)
      · refine ⟨w0, w1, load_in (i := 0) M (by decide) (by simp) fun h1 M1 O1 => ?_⟩
        refine ldI_of rfl ⟨trivial, trivial, w0, w1, trivial, stK_at (A4.only O1 (by simp [d2, d3])) (by simp [lh, hw4]) rfl fun h2 B2 O2 _ => ⟨trivial, w0, w1, ?_⟩⟩
        refine stK_at ((A5.only O1 (by simp [d4, d5])).only O2 (by simp [d1.symm])) (by simp [ls, hw4]) rfl fun h3 B3 O3 _ => ?_
        rw [hs1]
        refine ih (i + 1) done _ fails (has.set w.toNat true) (saw.set w.toNat (([done] : List Int).getD (Int.toNat 0) 0)) h3 (by omega) (by omega) hd0 (by omega) (by simp [lh]) (by simp [ls])
          ((M1.only O2 (by simp [d2.symm]) (by simp [d3.symm])).only O3 (by simp [d4.symm]) (by simp [d5.symm])) ?_ ?_ (((O.nil O1 hS).nil O2 (by simp [s3])).nil O3 (by simp [s4]))
        · rw [List.map_set]
          exact B2.only O3 (by simp [d1])
        · rw [List.map_set]
          exact B3
      · refine ⟨w0, w1, stK_at A4 (by simp [lh, hw4]) rfl fun h1 B1 O1 _ => ⟨w0, w1, ?_⟩⟩
        have A5' := A5.only O1 (by simp [d1.symm])
        have M1 := M.only O1 (by simp [d2.symm]) (by simp [d3.symm])
        have P1 := O.nil O1 (by simp [s3])
        simp only [A5'.rd]
        refine ldI_of (n := saw.getD w.toNat 0) (by simp [ls, hw4]) ⟨w0, w1, ldI_of (n := saw.getD w.toNat 0) (by simp [ls, hw4]) ?_⟩
        have hend : ∀ (h2 : Heap) (done' ops' fails' : Int), 0 ≤ done' → done' ≤ i + 1 → MemIs h2 m mc [done'] ops' fails' → Only [m, mc] h1 h2 →
            F3.wk18 (fun x0p x0l x0c x3 x4 x5 x6 x7 h => F3.wL10 n x0p x0l x0c x3 x4 x5 x6 x7 h (Lawful h0)) (some a) zs.length cap (some ⟨m, 0, none⟩) ⟨b4, 0, none⟩ ⟨b5, 0, none⟩ done' (i : Int) h2 (Lawful h0) := by
          intro h2 done' ops' fails' e0 e1 M2 O2
          unfold F3.wk18 F3.Jk18
          refine load_in (i := 0) M2 (by decide) (by simp) fun h3 M3 O3 => ?_
          refine ldI_of rfl ?_
          rw [show (([done'] : List Int).getD (Int.toNat 0) 0 != done') = false by simp, bcase_false, hs1]
          refine ih (i + 1) done' _ fails' (has.set w.toNat false) saw h3 (by omega) (by omega) e0 (by omega) (by simp [lh]) ls M3 ?_ ?_ ((P1.nil O2 hS).nil O3 hS)
          · rw [List.map_set]
            exact (B1.only O2 (by simp [d2, d3])).only O3 (by simp [d2, d3])
          · exact (A5'.only O2 (by simp [d4, d5])).only O3 (by simp [d4, d5])
        refine cas_in (i := 0) M1 (by decide) (by simp) (fun e h2 M2 O2 => ?_) fun e h2 M2 O2 => ?_
        · rw [ldB_some, bcase_true]
          have e' : saw.getD w.toNat 0 = done := by rw [← e]; simp
          rw [e', wrap_u64 (by omega) (by omega)] at M2
          rw [wrap_u64 (by omega) (by omega)]
          exact hend h2 (done + 1) _ _ (by omega) (by omega) M2 O2
        · rw [ldB_some, bcase_false]
          exact hend h2 done _ _ hd0 (by omega) M2 O2
    · rw [decide_eq_false (by omega : ¬ (i : Int) < (Nat.cast zs.length : Int)), bcase_false]
      refine load_in (i := 0) M (by decide) (by simp) fun h1 M1 O1 => ?_
      refine ldI_of rfl ⟨by simp, O.nil O1 hS⟩

theorem adds_law (h : Heap) (p : Option Addr) (c : Nat) (zs : List Int) (hI : Ints h .u8 p zs) (hr : ∀ z ∈ zs, IntKind.min .u8 ≤ z ∧ z ≤ IntKind.max .u8) (_ : (zs.length : Int) ≤ maxLen) :
    CallsH Try.prog 3 [.slice p zs.length c] h (Lawful h) := by
  apply F3.spec
  unfold F3.w F3.J0
  refine known_spec fun h1 O1 => ?_
  simp only [ldB_some, Bool.not_true, bcase_false]
  refine bcase_of (fun _ => ⟨rfl, O1⟩) fun hl => ?_
  simp at hl
  refine new_spec fun m mc h2 M2 O2 hm hc => ?_
  simp only [ldP_some]
  rw [show List.replicate (cellsFor 1) (0 : Int) = [0] from rfl] at M2
  refine newK_at fun h3 A3 O3 z3 => newK_at fun h4 A4 O4 z4 => ?_
  have lm := M2.head.lt
  have lc := M2.body.lt
  have := O1.size
  have := O2.size
  unfold F3.wk10 F3.Jk10
  refine ⟨zs.length + 1, adds_loop hr (by omega) hI (by omega) (by omega) (by omega) (by omega) (by omega) (by omega) (by omega) (by omega) (by omega) (zs.length + 1) 0 0 0 0 [false, false, false, false] [0, 0, 0, 0] h4 (by omega) (by omega) (by omega) (by omega) rfl rfl
    ((M2.only O3 (by simp) (by simp)).only O4 (by simp) (by simp)) (A3.only O4 (by simp)) A4 (((O1.nil O2 (by simp)).nil O3 (by simp)).nil O4 (by simp))⟩
end Go.Proofs.Ytkdegjjenbbjfaa.Ev
