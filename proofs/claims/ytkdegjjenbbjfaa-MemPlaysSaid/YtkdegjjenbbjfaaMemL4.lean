/- THE LAW OF SUMS. Conditions: none. -/
import Derived.Test.YtkdegjjenbbjfaaMemL3
namespace Go.Proofs.Ytkdegjjenbbjfaa.Ev
open Go

theorem set_getD {l : List Int} {i j : Nat} {v : Int} (hi : i < l.length) : (l.set i v).getD j 0 = if i = j then v else l.getD j 0 := by
  by_cases h : i = j
  · subst h; simp [hi]
  · simp [List.getD, h]

theorem sums_last {h0 : Heap} {p : Option Addr} {cap l m mc b : Nat} (hl : l ≤ 80)
    (s1 : h0.size ≤ m) (s2 : h0.size ≤ mc) (d1 : b ≠ m) (d2 : b ≠ mc) (sum : List Int) (ls : sum.length = 4) :
    ∀ (n k : Nat) (h : Heap), 4 - k < n → k ≤ 4 → MemIs h m mc sum ((l : Int) + k) 0 → At h b (sum.map (.int .u64)) → Only [] h0 h →
      F4.wL15 n p l cap (some ⟨m, 0, none⟩) ⟨b, 0, none⟩ (k : Int) h (Lawful h0) := by
  intro n
  induction n with
  | zero => intro k h hn; omega
  | succ n ih =>
    intro k h hn hk M A O
    have hS : ∀ b ∈ [m, mc], h0.size ≤ b := by simp [s1, s2]
    unfold F4.wL15 F4.JL15
    by_cases hlt : k < 4
    · rw [decide_eq_true (by omega : (k : Int) < 4), bcase_true]
      simp only [add_mk, Nat.zero_add, Nat.mul_one, Int.toNat_natCast, A.rd]
      refine ⟨by omega, by omega, ldI_of (n := sum.getD k 0) (by simp [ls, hlt]) ?_⟩
      refine load_in M (by omega) (by omega) fun h1 M1 O1 => ldI_of rfl ⟨trivial, by omega, by omega, trivial, ?_⟩
      have A1 := A.only O1 (by simp [d1, d2])
      simp only [A1.rd]
      refine ldI_of (n := sum.getD k 0) (by simp [ls, hlt]) ⟨rfl, ?_⟩
      rw [Int.toNat_natCast, bne_self_eq_false, bcase_false, wrap_i64 (by omega) (by omega)]
      rw [up_of (by omega) (by omega)] at M1
      exact ih (k + 1) h1 (by omega) (by omega) (by simpa [Int.add_assoc] using M1) A1 (O.nil O1 hS)
    · have : k = 4 := by omega
      subst this
      rw [decide_eq_false (by decide), bcase_false]
      refine fails_spec M (ldI_of rfl ?_)
      rw [BEq.rfl, bcase_true]
      refine ops_spec M (ldI_of rfl ⟨?_, O⟩)
      rw [wrap_i64 (by omega) (by omega)]
      simp

theorem sums_loop {h0 : Heap} {p q : Option Addr} {cap dap m mc b : Nat} {zs ds : List Int} (hr : ∀ z ∈ zs, IntKind.min .u8 ≤ z ∧ z ≤ IntKind.max .u8) (hl : zs.length ≤ 80) (hd : zs.length ≤ ds.length)
    (hI : Ints h0 .u8 p zs) (hJ : Ints h0 .u64 q ds)
    (s1 : h0.size ≤ m) (s2 : h0.size ≤ mc) (s3 : h0.size ≤ b) (d1 : b ≠ m) (d2 : b ≠ mc) :
    ∀ (n i : Nat) (sum : List Int) (h : Heap), zs.length - i < n → i ≤ zs.length → sum.length = 4 →
      MemIs h m mc sum i 0 → At h b (sum.map (.int .u64)) → Only [] h0 h →
      F4.wL8 n p zs.length cap q ds.length dap (some ⟨m, 0, none⟩) ⟨b, 0, none⟩ (i : Int) h (Lawful h0) := by
  intro n
  induction n with
  | zero => intro i sum h hn; omega
  | succ n ih =>
    intro i sum h hn hi ls M A O
    have hS : ∀ b ∈ [m, mc], h0.size ≤ b := by simp [s1, s2]
    unfold F4.wL8 F4.JL8
    by_cases hlt : i < zs.length
    · rw [decide_eq_true (by omega : (i : Int) < (Nat.cast zs.length : Int)), bcase_true]
      obtain ⟨a, rfl, ha⟩ := hI.only O (by simp) i hlt
      obtain ⟨a', rfl, ha'⟩ := hJ.only O (by simp) i (by omega)
      obtain ⟨w0, w1⟩ := tmod_fit (range_getD hr hlt) (by omega : (0 : Int) < 4)
      refine ⟨by omega, by omega, ?_⟩
      rw [Int.toNat_natCast, Nat.mul_one, ha, ldI_some]
      generalize hw : (zs.getD i 0).tmod 4 = w at w0 w1 ⊢
      have hw4 : w.toNat < 4 := by omega
      have hs1 : IntKind.wrap .i64 ((i : Int) + 1) = ((i + 1 : Nat) : Int) := by rw [wrap_i64 (by omega) (by omega)]; simp
      refine ⟨by decide, w0, w1, ?_⟩
      simp only [add_mk, Nat.zero_add, Nat.mul_one, Nat.add_zero, A.rd]
      refine ldI_of (n := sum.getD w.toNat 0) (by simp [ls, hw4]) ⟨by omega, by omega, ldI_of ha' ⟨w0, w1, ?_⟩⟩
      refine stK_at A (by simp [ls, hw4]) rfl fun h1 A1 O1 _ => ?_
      rw [← List.map_set] at A1
      obtain ⟨_, e, hb'⟩ := hJ.only (O.nil O1 (by simp [s3])) (by simp) i (by omega)
      injection e with e
      subst e
      refine ⟨by omega, by omega, ldI_of hb' ⟨w0, w1, ?_⟩⟩
      simp only [A1.rd]
      have hg : ((sum.set w.toNat (IntKind.wrap .u64 (sum.getD w.toNat 0 + ds.getD i 0))).map (Value.int .u64))[w.toNat]? = some (.int .u64 (IntKind.wrap .u64 (sum.getD w.toNat 0 + ds.getD i 0))) := by simp [ls, hw4]
      refine ldI_of hg ?_
      rw [wrap_i64 (by omega) (by omega)]
      refine add_in (M.only O1 (by simp [d1.symm]) (by simp [d2.symm])) w0 (by omega) fun h2 M2 O2 => ldI_of rfl ⟨trivial, w0, w1, trivial, ?_⟩
      have A2 := A1.only O2 (by simp [d1, d2])
      simp only [A2.rd]
      refine ldI_of hg ⟨rfl, ?_⟩
      rw [bne_self_eq_false, bcase_false, hs1]
      rw [up_of (by omega) (by omega)] at M2
      exact ih (i + 1) _ h2 (by omega) (by omega) (by simp [ls]) (by simpa using M2) A2 ((O.nil O1 (by simp [s3])).nil O2 hS)
    · rw [decide_eq_false (by omega : ¬ (i : Int) < (Nat.cast zs.length : Int)), bcase_false]
      have : i = zs.length := by omega
      subst this
      unfold F4.wk15 F4.Jk15
      exact ⟨5, sums_last hl s1 s2 d1 d2 sum ls 5 0 h (by omega) (by omega) (by simpa using M) A O⟩

theorem sums_law (h : Heap) (p : Option Addr) (c : Nat) (zs : List Int) (hI : Ints h .u8 p zs) (hr : ∀ z ∈ zs, IntKind.min .u8 ≤ z ∧ z ≤ IntKind.max .u8) (_ : (zs.length : Int) ≤ maxLen)
    (q : Option Addr) (d : Nat) (ds : List Int) (hJ : Ints h .u64 q ds) (_ : ∀ z ∈ ds, IntKind.min .u64 ≤ z ∧ z ≤ IntKind.max .u64) (_ : (ds.length : Int) ≤ maxLen) :
    CallsH Try.prog 4 [.slice p zs.length c, .slice q ds.length d] h (Lawful h) := by
  apply F4.spec
  unfold F4.w F4.J0
  refine known_spec fun h1 O1 => ?_
  simp only [ldB_some, Bool.not_true, bcase_false]
  refine bcase_of (fun _ => ⟨rfl, O1⟩) fun hl => bcase_of (fun _ => ⟨rfl, O1⟩) fun hd => ?_
  simp at hl hd
  refine new_spec fun m mc h2 M2 O2 hm hc => ?_
  simp only [ldP_some]
  rw [show List.replicate (cellsFor 4) (0 : Int) = [0, 0, 0, 0] from rfl] at M2
  refine newK_at fun h3 A3 O3 z3 => ?_
  have lm := M2.head.lt
  have lc := M2.body.lt
  have := O1.size
  have := O2.size
  unfold F4.wk8 F4.Jk8
  exact ⟨zs.length + 1, sums_loop hr (by omega) (by omega) hI hJ (by omega) (by omega) (by omega) (by omega) (by omega) (zs.length + 1) 0 [0, 0, 0, 0] h3 (by omega) (by omega) rfl
    (M2.only O3 (by simp) (by simp)) A3 ((O1.nil O2 (by simp)).nil O3 (by simp))⟩
end Go.Proofs.Ytkdegjjenbbjfaa.Ev
