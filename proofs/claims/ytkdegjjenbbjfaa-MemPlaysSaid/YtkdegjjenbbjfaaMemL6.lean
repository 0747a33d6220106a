/- THE LAW OF PLAYS: a row of accesses against a plain row of numbers. Conditions: none. -/
import Derived.Test.YtkdegjjenbbjfaaMemL4
namespace Go.Proofs.Ytkdegjjenbbjfaa.Ev
open Go

theorem getD_map {l : List Int} {i : Nat} {k : IntKind} (hi : i < l.length) : (l.map (Value.int k))[i]? = some (.int k (l.getD i 0)) := by simp [hi]

section
variable {h0 : Heap} {p : Option Addr} {cap l m mc b : Nat} {s : Nat → Nat → Value}

theorem plays_last (s1 : h0.size ≤ m) (s2 : h0.size ≤ mc) (d1 : b ≠ m) (d2 : b ≠ mc) (cs : List Int) (hc : cs.length ≤ 200) :
    ∀ (n k : Nat) (ops fails : Int) (h : Heap), cs.length - k < n → k ≤ cs.length → MemIs h m mc cs ops fails → At h b (cs.map (.int .u64)) → Only [] h0 h →
      F6.wL42 n (some ⟨m, 0, none⟩) (cs.length : Int) (some ⟨b, 0, none⟩) cs.length cs.length (k : Int) h (Lawful h0) := by
  intro n
  induction n with
  | zero => intro k ops fails h hn; omega
  | succ n ih =>
    intro k ops fails h hn hk M A O
    have hS : ∀ b ∈ [m, mc], h0.size ≤ b := by simp [s1, s2]
    unfold F6.wL42 F6.JL42
    by_cases hlt : k < cs.length
    · rw [decide_eq_true (by omega : (k : Int) < (cs.length : Int)), bcase_true]
      simp only [ptrK_some, add_mk, Nat.zero_add, Nat.mul_one, Int.toNat_natCast, A.rd]
      refine ⟨by omega, by omega, ldI_of (getD_map hlt) ?_⟩
      refine load_in M (by omega) (by omega) fun h1 M1 O1 => ldI_of rfl ⟨trivial, trivial, by omega, by omega, trivial, ?_⟩
      have A1 := A.only O1 (by simp [d1, d2])
      simp only [A1.rd]
      refine ldI_of (getD_map hlt) ⟨rfl, ?_⟩
      rw [Int.toNat_natCast, bne_self_eq_false, bcase_false, wrap_i64 (by omega) (by omega)]
      exact ih (k + 1) _ _ h1 (by omega) (by omega) M1 A1 (O.nil O1 hS)
    · rw [decide_eq_false (by omega), bcase_false]
      exact ⟨rfl, O⟩

theorem plays_loop (hl : l ≤ 100) (R : Recs h0 p l 4 s)
    (f0 : ∀ i, i < l → ∃ n, s i 0 = .int .i64 n ∧ IntKind.min .i64 ≤ n ∧ n ≤ IntKind.max .i64) (f1 : ∀ i, i < l → ∃ n, s i 1 = .int .i64 n ∧ IntKind.min .i64 ≤ n ∧ n ≤ IntKind.max .i64)
    (f2 : ∀ i, i < l → ∃ n, s i 2 = .int .u64 n ∧ IntKind.min .u64 ≤ n ∧ n ≤ IntKind.max .u64) (f3 : ∀ i, i < l → ∃ n, s i 3 = .int .u64 n ∧ IntKind.min .u64 ≤ n ∧ n ≤ IntKind.max .u64)
    (s1 : h0.size ≤ m) (s2 : h0.size ≤ mc) (s3 : h0.size ≤ b) (d1 : b ≠ m) (d2 : b ≠ mc) :
    ∀ (n i : Nat) (cs : List Int) (ops fails : Int) (h : Heap), l - i < n → i ≤ l → cs.length ≤ 200 → 0 ≤ ops → ops ≤ i → 0 ≤ fails → fails ≤ i →
      MemIs h m mc cs ops fails → At h b (cs.map (.int .u64)) → Only [] h0 h →
      F6.wL10 n p l cap (some ⟨m, 0, none⟩) (cs.length : Int) (some ⟨b, 0, none⟩) cs.length cs.length ops fails (i : Int) h (Lawful h0) := by
  intro n
  induction n with
  | zero => intro i cs ops fails h hn; omega
  | succ n ih =>
    intro i cs ops fails h hn hi hc o0 o1 q0 q1 M A O
    have hS : ∀ b ∈ [m, mc], h0.size ≤ b := by simp [s1, s2]
    unfold F6.wL10 F6.JL10
    by_cases hlt : i < l
    · rw [decide_eq_true (by omega : (i : Int) < (Nat.cast l : Int)), bcase_true]
      have R' := R.only O (by simp)
      obtain ⟨a, e, r0⟩ := R' i 0 hlt (by omega)
      subst e
      obtain ⟨_, e, r1⟩ := R' i 1 hlt (by omega)
      injection e with e
      subst e
      obtain ⟨_, e, r2⟩ := R' i 2 hlt (by omega)
      injection e with e
      subst e
      obtain ⟨_, e, r3⟩ := R' i 3 hlt (by omega)
      injection e with e
      subst e
      obtain ⟨W, e0, -⟩ := f0 i hlt
      obtain ⟨T, e1, t0, t1⟩ := f1 i hlt
      obtain ⟨U, e2, u0, u1⟩ := f2 i hlt
      obtain ⟨V, e3, v0, v1⟩ := f3 i hlt
      rw [e0] at r0
      rw [e1] at r1
      rw [e2] at r2
      rw [e3] at r3
      have hs1 : IntKind.wrap .i64 ((i : Int) + 1) = ((i + 1 : Nat) : Int) := by rw [wrap_i64 (by omega) (by omega)]; simp
      refine ⟨by omega, by omega, ?_⟩
      simp only [Int.toNat_natCast, add_add, r0, r1, r2, r3, ldI_some]
      refine newK_at fun h1 A1 O1 z1 => ?_
      simp only [add_mk, Nat.zero_add]
      refine stK_at A1 (by simp) rfl fun h2 A2 O2 _ => stK_at A2 (by simp) rfl fun h3 A3 O3 _ => stK_at A3 (by simp) rfl fun h4 A4 O4 _ => stK_at A4 (by simp) rfl fun h5 A5 O5 _ => ?_
      have hb : h.size ≠ m ∧ h.size ≠ mc ∧ h.size ≠ b := by
        have := M.head.lt
        have := M.body.lt
        have := A.lt
        omega
      have hz := O.size
      have P5 : Only [] h h5 := (((O1.nil O2 (by simp)).nil O3 (by simp)).nil O4 (by simp)).nil O5 (by simp)
      have A5 : At h5 h.size [.int .i64 W, .int .i64 T, .int .u64 U, .int .u64 V] := A5
      have M5 := M.only P5 (by simp) (by simp)
      have B5 := A.only P5 (by simp)
      have Q5 := O.trans P5 (by simp)
      clear A1 A2 A3 A4 O1 O2 O3 O4 O5 R' r0 r1 r2 r3
      generalize h.size = x at *
      obtain ⟨x1, x2, x3⟩ := hb
      -- the round's end
      have hend : ∀ (h6 : Heap) (cs' : List Int) (ops' fails' : Int), cs'.length = cs.length → 0 ≤ ops' → ops' ≤ i + 1 → 0 ≤ fails' → fails' ≤ i + 1 → MemIs h6 m mc cs' ops' fails' → At h6 b (cs'.map (.int .u64)) → Only [] h0 h6 →
          F6.wk39 (fun x1p x1l x1c x5 x6 x7p x7l x7c x8 x9 x10 h => F6.wL10 n x1p x1l x1c x5 x6 x7p x7l x7c x8 x9 x10 h (Lawful h0)) (some a) l cap (some ⟨m, 0, none⟩) (cs.length : Int) (some ⟨b, 0, none⟩) cs.length cs.length ops' fails' (i : Int) h6 (Lawful h0) := by
        intro h6 cs' ops' fails' lc g0 g1 g2 g3 M6 A6 O6
        unfold F6.wk39 F6.Jk39
        refine ops_spec M6 (ldI_of rfl ?_)
        rw [bne_self_eq_false, bcase_false]
        refine fails_spec M6 (ldI_of rfl ?_)
        rw [bne_self_eq_false, bcase_false]
        refine len_spec M6 (ldI_of rfl ?_)
        rw [lc, bne_self_eq_false, bcase_false, hs1, ← lc]
        exact ih (i + 1) cs' ops' fails' h6 (by omega) (by omega) (by omega) g0 (by omega) g2 (by omega) M6 A6 O6
      have w1 : IntKind.wrap .i64 (ops + 1) = ops + 1 := wrap_i64 (by omega) (by omega)
      have w2 : IntKind.wrap .i64 (fails + 1) = fails + 1 := wrap_i64 (by omega) (by omega)
      have p1 : up ops = ops + 1 := w1
      have p2 : up fails = fails + 1 := w2
      by_cases hin : 0 ≤ T ∧ T < (cs.length : Int)
      · obtain ⟨g0, g1⟩ := hin
        have hT : T.toNat < cs.length := by omega
        have main : F6.wk14 (fun x1p x1l x1c x5 x6 x7p x7l x7c x8 x9 x10 h => F6.wL10 n x1p x1l x1c x5 x6 x7p x7l x7c x8 x9 x10 h (Lawful h0)) (some a) l cap (some ⟨m, 0, none⟩) (cs.length : Int) (some ⟨b, 0, none⟩) cs.length cs.length ops fails (i : Int) ⟨x, 0, none⟩ true h5 (Lawful h0) := by
          unfold F6.wk14 F6.Jk14
          simp only [bcase_true, add_mk, Nat.zero_add, Nat.mul_one, A5.rd, B5.rd, List.getElem?_cons_succ, List.getElem?_cons_zero, ldI_some, ptrK_some]
          refine ⟨g0, g1, ldI_of (getD_map hT) ?_⟩
          unfold F6.wk24 F6.Jk24
          simp only [add_mk, Nat.zero_add, A5.rd, List.getElem?_cons_succ, List.getElem?_cons_zero, ldI_some, bcase_true]
          refine bcase_of (fun _ => ?_) fun _ => bcase_of (fun _ => ?_) fun _ => bcase_of (fun _ => ?_) fun _ => ?_
          · refine load_in M5 g0 g1 fun h6 M6 O6 => ldI_of rfl ?_
            rw [bne_self_eq_false, bcase_false, w1]
            rw [p1] at M6
            exact hend h6 cs (ops + 1) fails rfl (by omega) (by omega) q0 (by omega) M6 (B5.only O6 (by simp [d1, d2])) (Q5.nil O6 hS)
          · refine store_in M5 g0 g1 fun h6 M6 O6 => ⟨rfl, ?_⟩
            rw [p1] at M6
            simp only [(A5.only O6 (by simp [x1, x2])).rd, List.getElem?_cons_succ, List.getElem?_cons_zero, ldI_some, ptrK_some, add_mk, Nat.zero_add, Nat.mul_one, Nat.add_zero]
            refine ⟨g0, g1, stK_at (B5.only O6 (by simp [d1, d2])) (by simpa using hT) rfl fun h7 B7 O7 _ => ?_⟩
            rw [w1]
            exact hend h7 (cs.set T.toNat V) (ops + 1) fails (by simp) (by omega) (by omega) q0 (by omega) (M6.only O7 (by simp [d1.symm]) (by simp [d2.symm])) (by rw [List.map_set]; exact B7) ((Q5.nil O6 hS).nil O7 (by simp [s3]))
          · unfold F6.wk33 F6.Jk33
            simp only [add_mk, Nat.zero_add, A5.rd, List.getElem?_cons_succ, List.getElem?_cons_zero, ldI_some]
            refine cas_in M5 g0 g1 (fun e h6 M6 O6 => ?_) fun e h6 M6 O6 => ?_
            · rw [p1] at M6
              rw [show (cs.getD T.toNat 0 == U) = true by simpa using e]
              simp only [ldB_some, BEq.rfl, Bool.not_true, bcase_false, bcase_true, (A5.only O6 (by simp [x1, x2])).rd, List.getElem?_cons_succ, List.getElem?_cons_zero, ldI_some, ptrK_some, Nat.mul_one, Nat.add_zero, add_mk, Nat.zero_add]
              refine ⟨g0, g1, stK_at (B5.only O6 (by simp [d1, d2])) (by simpa using hT) rfl fun h7 B7 O7 _ => ?_⟩
              unfold F6.wk37 F6.Jk37
              rw [Bool.not_true, bcase_true, bcase_false, w1]
              exact hend h7 (cs.set T.toNat V) (ops + 1) fails (by simp) (by omega) (by omega) q0 (by omega) (M6.only O7 (by simp [d1.symm]) (by simp [d2.symm])) (by rw [List.map_set]; exact B7) ((Q5.nil O6 hS).nil O7 (by simp [s3]))
            · rw [p1, p2] at M6
              rw [show (cs.getD T.toNat 0 == U) = false by simpa using e]
              simp only [ldB_some, BEq.rfl, Bool.not_true, bcase_false]
              unfold F6.wk37 F6.Jk37
              rw [Bool.not_false, bcase_true, bcase_true, w1, w2]
              exact hend h6 cs (ops + 1) (fails + 1) rfl (by omega) (by omega) (by omega) (by omega) M6 (B5.only O6 (by simp [d1, d2])) (Q5.nil O6 hS)
          · simp only [ptrK_some, Nat.mul_one, add_mk, Nat.zero_add, Nat.add_zero]
            refine ⟨g0, g1, stK_at B5 (by simpa using hT) rfl fun h6 B6 O6 _ => ?_⟩
            unfold F6.wk22 F6.Jk22
            simp only [add_mk, Nat.zero_add, (A5.only O6 (by simp [x3])).rd, List.getElem?_cons_succ, List.getElem?_cons_zero, ldI_some]
            refine add_in (M5.only O6 (by simp [d1.symm]) (by simp [d2.symm])) g0 g1 fun h7 M7 O7 => ldI_of rfl ?_
            rw [bne_self_eq_false, bcase_false, w1]
            rw [p1] at M7
            exact hend h7 (cs.set T.toNat (IntKind.wrap .u64 (cs.getD T.toNat 0 + V))) (ops + 1) fails (by simp) (by omega) (by omega) q0 (by omega) M7 ((show At h6 b _ by rw [List.map_set]; exact B6).only O7 (by simp [d1, d2])) ((Q5.nil O6 (by simp [s3])).nil O7 hS)
        simp only [A5.rd, List.getElem?_cons_succ, List.getElem?_cons_zero, ldI_some]
        rw [decide_eq_true (by omega : T ≥ 0), bcase_true, decide_eq_true g1]
        exact main
      · have ho : T < 0 ∨ (cs.length : Int) ≤ T := by omega
        have main : F6.wk14 (fun x1p x1l x1c x5 x6 x7p x7l x7c x8 x9 x10 h => F6.wL10 n x1p x1l x1c x5 x6 x7p x7l x7c x8 x9 x10 h (Lawful h0)) (some a) l cap (some ⟨m, 0, none⟩) (cs.length : Int) (some ⟨b, 0, none⟩) cs.length cs.length ops fails (i : Int) ⟨x, 0, none⟩ false h5 (Lawful h0) := by
          unfold F6.wk14 F6.Jk14
          rw [bcase_false]
          unfold F6.wk24 F6.Jk24
          simp only [add_mk, Nat.zero_add, A5.rd, List.getElem?_cons_succ, List.getElem?_cons_zero, ldI_some, bcase_false]
          refine bcase_of (fun _ => ?_) fun _ => bcase_of (fun _ => ?_) fun _ => bcase_of (fun _ => ?_) fun _ => ?_
          · refine load_out M5 ho (ldI_of rfl ?_)
            rw [bne_self_eq_false, bcase_false]
            exact hend h5 cs ops fails rfl o0 (by omega) q0 (by omega) M5 B5 Q5
          · refine store_out M5 ho ⟨rfl, ?_⟩
            exact hend h5 cs ops fails rfl o0 (by omega) q0 (by omega) M5 B5 Q5
          · unfold F6.wk33 F6.Jk33
            simp only [add_mk, Nat.zero_add, A5.rd, List.getElem?_cons_succ, List.getElem?_cons_zero, ldI_some]
            refine cas_out M5 ho ?_
            simp only [ldB_some, BEq.rfl, Bool.not_true, bcase_false]
            unfold F6.wk37 F6.Jk37
            rw [bcase_false]
            exact hend h5 cs ops fails rfl o0 (by omega) q0 (by omega) M5 B5 Q5
          · unfold F6.wk22 F6.Jk22
            simp only [add_mk, Nat.zero_add, A5.rd, List.getElem?_cons_succ, List.getElem?_cons_zero, ldI_some]
            refine add_out M5 ho (ldI_of rfl ?_)
            rw [bne_self_eq_false, bcase_false]
            exact hend h5 cs ops fails rfl o0 (by omega) q0 (by omega) M5 B5 Q5
        simp only [A5.rd, List.getElem?_cons_succ, List.getElem?_cons_zero, ldI_some]
        refine bcase_of (fun h0 => ?_) fun _ => main
        rw [decide_eq_false (by simp at h0; omega)]
        exact main
    · rw [decide_eq_false (by omega : ¬ (i : Int) < (Nat.cast l : Int)), bcase_false]
      unfold F6.wk42 F6.Jk42
      exact ⟨cs.length + 1, plays_last s1 s2 d1 d2 cs hc (cs.length + 1) 0 ops fails h (by omega) (by omega) M A O⟩
end

theorem plays_law (h : Heap) (n : Int) (_ : IntKind.min .i64 ≤ n ∧ n ≤ IntKind.max .i64) (p : Option Addr) (c l : Nat) (s : Nat → Nat → Value) (R : Recs h p l 4 s) (_ : (l : Int) ≤ maxLen)
    (f0 : ∀ i, i < l → ∃ n, s i 0 = .int .i64 n ∧ IntKind.min .i64 ≤ n ∧ n ≤ IntKind.max .i64) (f1 : ∀ i, i < l → ∃ n, s i 1 = .int .i64 n ∧ IntKind.min .i64 ≤ n ∧ n ≤ IntKind.max .i64)
    (f2 : ∀ i, i < l → ∃ n, s i 2 = .int .u64 n ∧ IntKind.min .u64 ≤ n ∧ n ≤ IntKind.max .u64) (f3 : ∀ i, i < l → ∃ n, s i 3 = .int .u64 n ∧ IntKind.min .u64 ≤ n ∧ n ≤ IntKind.max .u64) :
    CallsH Try.prog 6 [.int .i64 n, .slice p l c] h (Lawful h) := by
  apply F6.spec
  unfold F6.w F6.J0
  refine known_spec fun h1 O1 => ?_
  simp only [ldB_some, Bool.not_true, bcase_false]
  refine bcase_of (fun _ => ⟨rfl, O1⟩) fun hl => bcase_of (fun _ => ⟨rfl, O1⟩) fun hn => ?_
  simp at hl hn
  refine new_spec fun m mc h2 M2 O2 hm hc => ?_
  simp only [ldP_some]
  have e : (if (0 : Int) > n then (0 : Int) else n) = (cellsFor n : Int) := by
    unfold cellsFor
    split <;> omega
  have lc : cellsFor n ≤ 200 := by unfold cellsFor; omega
  rw [e, Int.toNat_natCast, Nat.mul_one]
  refine ⟨by omega, by omega, by omega, by omega, newK_at fun h3 A3 O3 z3 => ?_⟩
  rw [made_ints] at A3
  have lm := M2.head.lt
  have lc' := M2.body.lt
  have := O1.size
  have := O2.size
  unfold F6.wk10 F6.Jk10
  have key := plays_loop (cap := c) (s := s) (h0 := h) (m := m) (mc := mc) (b := h2.size) (by omega : l ≤ 100) R f0 f1 f2 f3 (by omega) (by omega) (by omega) (by omega) (by omega) (l + 1) 0 (List.replicate (cellsFor n) 0) 0 0 h3 (by omega) (by omega)
    (by simpa using lc) (by omega) (by omega) (by omega) (by omega) (M2.only O3 (by simp) (by simp)) A3 ((O1.nil O2 (by simp)).nil O3 (by simp))
  simp only [List.length_replicate] at key
  exact ⟨l + 1, key⟩
end Go.Proofs.Ytkdegjjenbbjfaa.Ev
