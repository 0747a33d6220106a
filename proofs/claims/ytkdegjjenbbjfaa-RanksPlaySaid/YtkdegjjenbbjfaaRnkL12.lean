/- THE LAW OF RANKS PLAYED (RanksPlay). Conditions: none. -/
import Derived.Test.YtkdegjjenbbjfaaRnkM
namespace Go.Proofs.Ytkdegjjenbbjfaa.Ev
open Go

/-- the queue and the law's model, side by side -/
structure RP (h0 h : Heap) (lo q pi mb : Nat) (p : Option Addr) (c : Nat) (L : List It) (mp : Option Addr) (mc : Nat) (M : List It) : Prop where
  qu : Qu h lo q pi mb p c L
  sl : Own h h0.size 2 mp M.length mc (flat M)
  sep : ∀ b ∈ OwnB mp, b ∉ q :: pi :: mb :: OwnB p
  perm : L.Perm M
  base : Only [] h0 h
  lo0 : h0.size ≤ lo
  lo1 : lo ≤ h.size
theorem RP.only {S : List Nat} {h0 h h' : Heap} {lo q pi mb : Nat} {p : Option Addr} {c : Nat} {L : List It} {mp : Option Addr} {mc : Nat} {M : List It} (R : RP h0 h lo q pi mb p c L mp mc M) (O : Only S h h') (hS : ∀ b ∈ S, h.size ≤ b) : RP h0 h' lo q pi mb p c L mp mc M := by
  refine ⟨R.qu.only O fun b hb hs => ?_, R.sl.only O fun b hb hs => ?_, R.sep, R.perm, R.base.nil O fun b hb => ?_, R.lo0, Nat.le_trans R.lo1 O.size⟩
  · have := (R.qu.lt b hb).2
    have := hS b hs
    omega
  · have := (R.sl.lt b (by rw [hb]; simp [OwnB])).2
    have := hS b hs
    omega
  · have := hS b hb
    have := R.base.size
    omega
theorem eraseIdx_perm {L : List It} {i : Nat} (hi : i < L.length) : (L.eraseIdx i ++ [atL L i]).Perm L := by
  have e : L = L.take i ++ atL L i :: L.drop (i + 1) := by
    conv => lhs; rw [← List.take_append_drop i L, List.drop_eq_getElem_cons hi, atL_get hi]
  rw [List.eraseIdx_eq_take_drop_succ]
  conv => rhs; rw [e]
  refine List.perm_append_comm.trans ?_
  show (atL L i :: (L.take i ++ L.drop (i + 1))).Perm _
  exact List.perm_middle.symm
theorem set_perm {L : List It} {i : Nat} (hi : i < L.length) (y : It) : (L.set i y).Perm (L.eraseIdx i ++ [y]) := by
  rw [List.eraseIdx_eq_take_drop_succ, List.set_eq_take_append_cons_drop, if_pos hi]
  refine List.perm_middle.trans ?_
  show ([y] ++ (L.take i ++ L.drop (i + 1))).Perm _
  exact List.perm_append_comm

section
variable {h0 : Heap} {p0 : Option Addr} {cap sl : Nat} {s : Nat → Nat → Value} {q pi mb lo : Nat}

/-- two with one number, in lists that are permutations of one another, are one -/
theorem same_item {L M : List It} (hp : L.Perm M) (hn : (L.map (·.1)).Nodup) {x y : It} (hx : x ∈ L) (hy : y ∈ M) (e : x.1 = y.1) : x = y := by
  have hy := hp.mem_iff.2 hy
  rw [List.nodup_iff_pairwise_ne, List.pairwise_map, List.pairwise_iff_getElem] at hn
  obtain ⟨i, hi, rfl⟩ := List.mem_iff_getElem.1 hx
  obtain ⟨j, hj, rfl⟩ := List.mem_iff_getElem.1 hy
  rcases Nat.lt_trichotomy i j with h | h | h
  · exact absurd e (hn i j hi hj h)
  · subst h
    rfl
  · exact absurd e.symm (hn j i hj hi h)

/-- behind each step: what is on top, how many, the key told -/
theorem rplay_check {gas i : Nat} {w id key : Int} {sb : Nat} (hi : i < 100)
    (next : ∀ (h : Heap) (p : Option Addr) (c : Nat) (L : List It) (mp : Option Addr) (mc : Nat) (M : List It), RP h0 h lo q pi mb p c L mp mc M → M.length ≤ i + 1 → F12.wL8 gas p0 sl cap (some ⟨q, 0, none⟩) mp M.length mc ((i + 1 : Nat) : Int) h (Lawful h0))
    {h : Heap} {p : Option Addr} {c : Nat} {L : List It} {mp : Option Addr} {mc : Nat} {M : List It} (R : RP h0 h lo q pi mb p c L mp mc M) (hM : M.length ≤ i + 1) (A : At h sb [.int .i64 w, .int .i64 id, .int .i64 key]) :
    F12.wk38 (fun x0p x0l x0c x3 x4p x4l x4c x5 h => F12.wL8 gas x0p x0l x0c x3 x4p x4l x4c x5 h (Lawful h0)) p0 sl cap (some ⟨q, 0, none⟩) mp M.length mc (i : Int) ⟨sb, 0, none⟩ h (Lawful h0) := by
  unfold F12.wk38 F12.Jk38
  have hlen := R.perm.length_eq
  refine best36 R.sl (by omega) fun x hx => ldI_of rfl ?_
  -- the loop that looks for the key told
  have tail : ∀ (h : Heap) (k : Int) (is : Bool), RP h0 h lo q pi mb p c L mp mc M → At h sb [.int .i64 w, .int .i64 id, .int .i64 key] → (is = true → ∃ j, j < L.length ∧ (atL L j).1 = id ∧ (atL L j).2 = k) → (is = false → ¬ hasId L id) →
      F12.wk45 (fun x0p x0l x0c x3 x4p x4l x4c x5 h => F12.wL8 gas x0p x0l x0c x3 x4p x4l x4c x5 h (Lawful h0)) p0 sl cap (some ⟨q, 0, none⟩) mp M.length mc (i : Int) ⟨sb, 0, none⟩ k is false (0 : Int) h (Lawful h0) := by
    intro h k is R A h1 h2
    unfold F12.wk45 F12.Jk45
    have loop : ∀ (g j : Nat) (th : Bool), M.length - j < g → j ≤ M.length → (th = true ↔ ∃ n, n < j ∧ (atL M n).1 = id ∧ (atL M n).2 = k) →
        F12.wL45 (fun x0p x0l x0c x3 x4p x4l x4c x5 h => F12.wL8 gas x0p x0l x0c x3 x4p x4l x4c x5 h (Lawful h0)) g p0 sl cap (some ⟨q, 0, none⟩) mp M.length mc (i : Int) ⟨sb, 0, none⟩ k is th (j : Int) h (Lawful h0) := by
      intro g
      induction g with
      | zero => intro j th hg; omega
      | succ g ih =>
        intro j th hg hj hth
        unfold F12.wL45 F12.JL45
        by_cases hlt : j < M.length
        · rw [decide_eq_true (by omega), bcase_true]
          have ej : IntKind.wrap .i64 ((j : Int) + 1) = ((j + 1 : Nat) : Int) := by rw [wrap_i64 (by omega) (by omega)]; omega
          rw [ej]
          cases th with
          | true =>
            rw [bcase_true]
            refine ih (j + 1) true (by omega) (by omega) ⟨fun _ => ?_, fun _ => rfl⟩
            obtain ⟨n, hn, e⟩ := hth.1 rfl
            exact ⟨n, by omega, e⟩
          | false =>
            rw [bcase_false]
            have hno : ∀ n, n < j → (atL M n).1 = id → (atL M n).2 ≠ k := fun n hn e1 e2 => by
              have := hth.2 ⟨n, hn, e1, e2⟩
              cases this
            clear hth
            obtain ⟨b, e1, e2⟩ := R.sl.rd (j := j * 2) (by rw [flat_len]; omega)
            obtain ⟨b', e3, e4⟩ := R.sl.rd (j := j * 2 + 1) (by rw [flat_len]; omega)
            rw [e1] at e3
            injection e3 with e3
            injection e3 with e3
            subst e3
            rw [flat_get0 hlt] at e2
            rw [flat_get1 hlt] at e4
            rw [e1]
            simp only [ptrK_some, add_mk, Nat.zero_add, Nat.add_zero, Int.toNat_natCast]
            refine ⟨by omega, by omega, ldI_of e2 (ldI_of (n := id) (by rw [A.rd]; rfl) (bcase_of (fun e => ⟨by omega, by omega, ldI_of e4 ?_⟩) fun e => ?_))⟩
            · have e : (atL M j).1 = id := by simpa using e
              have := ih (j + 1) ((atL M j).2 == k) (by omega) (by omega) ⟨fun hk => ⟨j, Nat.lt_succ_self j, e, by simpa using hk⟩, fun ⟨n, hn, e5, e6⟩ => ?_⟩
              · rw [e1] at this
                exact this
              · by_cases hnj : n = j
                · rw [← hnj]
                  simpa using e6
                · exact absurd e6 (hno n (by omega) e5)
            · have e : (atL M j).1 ≠ id := by simpa using e
              have := ih (j + 1) false (by omega) (by omega) ⟨fun hk => (by cases hk), fun ⟨n, hn, e5, e6⟩ => ?_⟩
              · rw [e1] at this
                exact this
              · by_cases hnj : n = j
                · rw [hnj] at e5
                  exact absurd e5 e
                · exact absurd e6 (hno n (by omega) e5)
        · rw [decide_eq_false (by omega), bcase_false]
          obtain rfl : j = M.length := by omega
          unfold F12.wk48 F12.Jk48
          have hit : is = th := by
            cases is with
            | true =>
              obtain ⟨n, hn, e1, e2⟩ := h1 rfl
              have hm : atL L n ∈ M := R.perm.mem_iff.1 (atL_mem hn)
              obtain ⟨n', hn', e3⟩ := mem_atL hm
              exact (hth.2 ⟨n', hn', by rw [e3]; exact e1, by rw [e3]; exact e2⟩).symm
            | false =>
              cases th with
              | false => rfl
              | true =>
                obtain ⟨n, hn, e1, -⟩ := hth.1 rfl
                exact absurd ((hasId_perm R.perm).2 ⟨_, atL_mem hn, e1⟩) (h2 rfl)
          rw [hit, beq_self_eq_true, Bool.not_true, bcase_false, show IntKind.wrap .i64 ((i : Int) + 1) = ((i + 1 : Nat) : Int) by rw [wrap_i64 (by omega) (by omega)]; omega]
          exact next h p c L mp mc M R hM
    exact ⟨M.length + 1, loop (M.length + 1) 0 false (by omega) (by omega) ⟨fun h => (by cases h), fun ⟨n, hn, _⟩ => by omega⟩⟩
  have lsb := A.lt
  -- behind Top
  have mid : ∀ (h1 : Heap) (b8 : Bool) (a1 a2 : Int), RP h0 h1 lo q pi mb p c L mp mc M → At h1 sb [.int .i64 w, .int .i64 id, .int .i64 key] → b8 = decide (x ≥ 0) → (b8 = true → ∃ a, a < M.length ∧ x = (a : Int) ∧ (a1, a2) = atL M a) →
      newK h1 (.cells #[(.int .i64 (0 : Int)), (.int .i64 (0 : Int))] 57) (fun b9 h10 => stK h10 (Addr.add (Addr.mk b9 0 none) 0) (.int .i64 a1) (fun h11 => stK h11 (Addr.add (Addr.mk b9 0 none) 1) (.int .i64 a2) (fun h12 => CallsH Try.prog 33 [(.pointer (some ⟨q, 0, none⟩))] h12 (fun v13 h14 => ldI .i64 (some v13) (fun n15 => ((.slice mp M.length mc) = ((.slice mp M.length mc) : Value) ∧ ((.int .i64 (Nat.cast M.length : Int)) = ((.int .i64 (Nat.cast M.length : Int)) : Value) ∧ bcase (n15 != (Nat.cast M.length : Int)) ((Lawful h0) (.bool false) h14) (bcase (!(b8 == (decide (x ≥ (0 : Int))))) ((Lawful h0) (.bool false) h14) (bcase b8 (ldI .i64 (rd h14 (Addr.add (Addr.mk b9 0 none) 0)) (fun n16 => ldI .i64 (rd h14 (Addr.add (Addr.mk b9 0 none) 1)) (fun n17 => ptrK mp (fun a18 => (0 ≤ x ∧ x < (Nat.cast M.length : Int) ∧ ldI .i64 (rd h14 (Addr.add (Addr.add a18 (Int.toNat x * 2)) 0)) (fun n19 => ldI .i64 (rd h14 (Addr.add (Addr.add a18 (Int.toNat x * 2)) 1)) (fun n20 => bcase (!(n16 == n19 && (n17 == n20 && true))) ((Lawful h0) (.bool false) h14) (ldI .i64 (rd h14 (Addr.add ⟨sb, 0, none⟩ 1)) (fun n21 => CallsH Try.prog 38 [(.pointer (some ⟨q, 0, none⟩)), (.int .i64 n21)] h14 (fun v22 h23 => (∃ n24 : Int, ∃ b25 : Bool, v22 = (.tuple #[(.int .i64 n24), (.bool b25)]) ∧ F12.wk45 (fun x0p x0l x0c x3 x4p x4l x4c x5 h => F12.wL8 gas x0p x0l x0c x3 x4p x4l x4c x5 h (Lawful h0)) p0 sl cap (some ⟨q, 0, none⟩) mp M.length mc (i : Int) ⟨sb, 0, none⟩ n24 b25 false (0 : Int) h23 (Lawful h0))))))))))))
        (ldI .i64 (rd h14 (Addr.add ⟨sb, 0, none⟩ 1)) (fun n26 => CallsH Try.prog 38 [(.pointer (some ⟨q, 0, none⟩)), (.int .i64 n26)] h14 (fun v27 h28 => (∃ n29 : Int, ∃ b30 : Bool, v27 = (.tuple #[(.int .i64 n29), (.bool b30)]) ∧ F12.wk45 (fun x0p x0l x0c x3 x4p x4l x4c x5 h => F12.wL8 gas x0p x0l x0c x3 x4p x4l x4c x5 h (Lawful h0)) p0 sl cap (some ⟨q, 0, none⟩) mp M.length mc (i : Int) ⟨sb, 0, none⟩ n29 b30 false (0 : Int) h28 (Lawful h0)))))))))))))) := by
    intro h1 b8 a1 a2 R1 A1 hb8 hat
    refine newIt fun h2 A2 O2 z2 => ?_
    have R2 := R1.only O2 (by simp)
    have B2 := A1.only O2 (by simp)
    refine qlen33 R2.qu (ldI_of rfl ⟨by trivial, by trivial, ?_⟩)
    rw [hlen, bne_self_eq_false, bcase_false, hb8, beq_self_eq_true, Bool.not_true, bcase_false, ← hb8]
    have key38 : ldI .i64 (rd h2 (Addr.add ⟨sb, 0, none⟩ 1)) (fun n26 => CallsH Try.prog 38 [(.pointer (some ⟨q, 0, none⟩)), (.int .i64 n26)] h2 (fun v27 h28 => (∃ n29 : Int, ∃ b30 : Bool, v27 = (.tuple #[(.int .i64 n29), (.bool b30)]) ∧ F12.wk45 (fun x0p x0l x0c x3 x4p x4l x4c x5 h => F12.wL8 gas x0p x0l x0c x3 x4p x4l x4c x5 h (Lawful h0)) p0 sl cap (some ⟨q, 0, none⟩) mp M.length mc (i : Int) ⟨sb, 0, none⟩ n29 b30 false (0 : Int) h28 (Lawful h0)))) := by
      rw [add_mk, Nat.zero_add]
      refine ldI_of (n := id) (by rw [B2.rd]; rfl) (qkey38 R2.qu (fun hn => ⟨_, _, rfl, ?_⟩) fun k hk e => ⟨_, _, rfl, ?_⟩)
      · exact tail h2 0 false R2 B2 (fun h => by cases h) fun _ => hn
      · exact tail h2 _ true R2 B2 (fun _ => ⟨k, hk, e, rfl⟩) fun h => by cases h
    cases hb : b8 with
    | false =>
      rw [bcase_false]
      exact key38
    | true =>
      rw [bcase_true]
      obtain ⟨a, ha, ex, ea⟩ := hat hb
      subst ex
      obtain ⟨b, e1, e2⟩ := R2.sl.rd (j := a * 2) (by rw [flat_len]; omega)
      obtain ⟨b', e3, e4⟩ := R2.sl.rd (j := a * 2 + 1) (by rw [flat_len]; omega)
      rw [e1] at e3
      injection e3 with e3
      injection e3 with e3
      subst e3
      rw [flat_get0 ha, ← ea] at e2
      rw [flat_get1 ha, ← ea] at e4
      refine ldI_of (n := a1) (by rw [add_mk, A2.rd]; rfl) (ldI_of (n := a2) (by rw [add_mk, A2.rd]; rfl) ?_)
      rw [e1] at key38 ⊢
      simp only [ptrK_some, add_mk, Nat.zero_add, Nat.add_zero, Int.toNat_natCast] at key38 ⊢
      refine ⟨by omega, by omega, ldI_of e2 (ldI_of e4 ?_)⟩
      rw [beq_self_eq_true, beq_self_eq_true, Bool.and_true, Bool.and_true, Bool.not_true, bcase_false]
      exact key38
  refine qtop37 R.qu (fun e h1 Q1 O1 => ⟨_, _, _, rfl, ?_⟩) fun h1 hpos Q1 O1 => ⟨_, _, _, rfl, ?_⟩
  · refine mid h1 false 0 0 (R.only O1 (by simp)) (A.only O1 (by simp)) ?_ fun h => by cases h
    rcases hx with ⟨e2, -⟩ | ⟨a, ha, -⟩
    · rw [e2]
      rfl
    · have : M.length = 0 := by
        rw [← hlen, e]
        rfl
      omega
  · rcases hx with ⟨-, e2⟩ | ⟨a, ha, e2, hb⟩
    · have : L.length = 0 := by
        rw [hlen, e2]
        rfl
      omega
    · refine mid h1 true _ _ (R.only O1 (by simp)) (A.only O1 (by simp)) (by rw [e2]; exact (decide_eq_true (by omega)).symm) fun _ => ⟨a, ha, e2, ?_⟩
      have hm : atL L 0 ∈ M := R.perm.mem_iff.1 (atL_mem hpos)
      obtain ⟨k, hk, e3⟩ := mem_atL hm
      refine bet_tot ?_ (R.qu.best _ (R.perm.mem_iff.2 (atL_mem ha)))
      show bet (atL L 0) _ = false
      rw [← e3]
      exact hb k hk
end
end Go.Proofs.Ytkdegjjenbbjfaa.Ev
