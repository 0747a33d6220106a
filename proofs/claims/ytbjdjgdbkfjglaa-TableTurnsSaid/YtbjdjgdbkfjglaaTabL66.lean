/- THE LAW OF TURNS (TableTurns). Conditions: none. -/
import Derived.Test.YtbjdjgdbkfjglaaTabL6
namespace Go.Proofs.Ytbjdjgdbkfjglaa.Ev
open Go

/-- round robin: how many steps each may do yet, at turn i -/
def RR (T L n i : Nat) (pt : Nat → Nat) : Prop :=
  ∀ k, k < L → pt k ≤ 3 * n - (i - T) / L ∧ ∀ j, j < (i - T) % L → (T + j) % L = k → pt k ≤ 3 * n - (i - T) / L - 1
theorem RR.step {T L n i k0 : Nat} {pt pt' : Nat → Nat} (H : RR T L n i pt) (hL : 1 ≤ L) (hk : T ≤ i → k0 = i % L) (h0 : pt' k0 ≤ pt k0 - 1) (h1 : ∀ k, k < L → k ≠ k0 → pt' k ≤ pt k) : RR T L n (i + 1) pt' := by
  have hle : ∀ k, k < L → pt' k ≤ pt k := fun k hk => by
    by_cases e : k = k0
    · subst e; omega
    · exact h1 k hk e
  by_cases hT : T ≤ i
  · have hk := hk hT
    obtain ⟨d, rfl⟩ : ∃ d, i = T + d := ⟨i - T, by omega⟩
    have hr : d % L < L := Nat.mod_lt _ (by omega)
    have hd : L * (d / L) + d % L = d := Nat.div_add_mod d L
    have hk' : (T + d % L) % L = k0 := by
      rw [hk]
      conv => rhs; rw [← hd]
      rw [show T + (L * (d / L) + d % L) = T + d % L + L * (d / L) by omega, Nat.add_mul_mod_self_left]
    unfold RR at H ⊢
    rw [show T + d - T = d by omega] at H
    rw [show T + d + 1 - T = d + 1 by omega]
    generalize hq : d / L = qq at *
    generalize hrr : d % L = r at *
    have now : ∀ j, j < r + 1 → ∀ k, k < L → (T + j) % L = k → pt' k ≤ 3 * n - qq - 1 := by
      intro j hj k hkL e
      by_cases hjr : j < r
      · have := (H k hkL).2 j hjr e
        have := hle k hkL
        omega
      · obtain rfl : j = r := by omega
        have e' : k = k0 := e.symm.trans hk'
        subst e'
        have := (H k hkL).1
        omega
    by_cases hlast : r + 1 = L
    · have e1 : (d + 1) / L = qq + 1 := by
        rw [← hd, show L * qq + r + 1 = L * (qq + 1) by rw [Nat.mul_add, Nat.mul_one]; omega, Nat.mul_div_cancel_left _ (by omega)]
      have e2 : (d + 1) % L = 0 := by
        rw [← hd, show L * qq + r + 1 = L * (qq + 1) by rw [Nat.mul_add, Nat.mul_one]; omega, Nat.mul_mod_right]
      rw [e1, e2]
      intro k hkL
      refine ⟨?_, fun j hj => by omega⟩
      have hTm : T % L < L := Nat.mod_lt _ (by omega)
      obtain ⟨j, hj, ej⟩ : ∃ j, j < L ∧ (T + j) % L = k := by
        by_cases h : T % L ≤ k
        · refine ⟨k - T % L, by omega, ?_⟩
          rw [← Nat.mod_add_mod, show T % L + (k - T % L) = k by omega]
          exact Nat.mod_eq_of_lt hkL
        · refine ⟨k + L - T % L, by omega, ?_⟩
          rw [← Nat.mod_add_mod, show T % L + (k + L - T % L) = k + L by omega, Nat.add_mod_right]
          exact Nat.mod_eq_of_lt hkL
      have := now j (by omega) k hkL ej
      omega
    · have e1 : (d + 1) / L = qq := by
        rw [← hd, show L * qq + r + 1 = L * qq + (r + 1) by omega, Nat.mul_add_div (by omega), Nat.div_eq_of_lt (by omega : r + 1 < L)]
        omega
      have e2 : (d + 1) % L = r + 1 := by
        rw [← hd, show L * qq + r + 1 = r + 1 + L * qq by omega, Nat.add_mul_mod_self_left]
        exact Nat.mod_eq_of_lt (by omega)
      rw [e1, e2]
      intro k hkL
      refine ⟨Nat.le_trans (hle k hkL) (H k hkL).1, fun j hj e => now j hj k hkL e⟩
  · intro k hkL
    have := (H k hkL).1
    have := hle k hkL
    rw [show i - T = 0 by omega, Nat.zero_div] at *
    rw [show i + 1 - T = 0 by omega, Nat.zero_div]
    refine ⟨by omega, fun j hj => ?_⟩
    rw [Nat.zero_mod] at hj
    omega
theorem RR.start {T L n : Nat} {pt : Nat → Nat} (h : ∀ k, k < L → pt k ≤ 3 * n) : RR T L n 0 pt := by
  intro k hk
  rw [show 0 - T = 0 by omega, Nat.zero_div, Nat.zero_mod]
  exact ⟨by have := h k hk; omega, fun j hj => by omega⟩
theorem RR.stop {T L n : Nat} {pt : Nat → Nat} (hL : 1 ≤ L) (H : RR T L n (T + L * (3 * n + 4)) pt) {k : Nat} (hk : k < L) : pt k = 0 := by
  have := (H k hk).1
  rw [show T + L * (3 * n + 4) - T = L * (3 * n + 4) by omega, Nat.mul_div_cancel_left _ (by omega)] at this
  omega

section
variable {h0 : Heap} {t m mc n L T : Nat} {p u q1 q2 : Option Addr} {cp cu c1 c2 : Nat} {ks us : List Int} {fb : Nat → Nat} {kinds : Int}

theorem turns_loop (hkr : ∀ z ∈ ks, IntKind.min .u8 ≤ z ∧ z ≤ IntKind.max .u8) (hur : ∀ z ∈ us, IntKind.min .u8 ≤ z ∧ z ≤ IntKind.max .u8) (k0 : 0 < kinds) (k1 : kinds < 1000) (hL : ks.length = L) (hL12 : L ≤ 12) (hT : us.length = T) (hT6 : T ≤ 600) (n8 : n ≤ 8)
    (hI : Ints h0 .u8 p ks) (hJ : Ints h0 .u8 u us) (s1 : h0.size ≤ m) (s2 : h0.size ≤ mc) (hm1 : ∀ b ∈ OwnB q1, b ≠ t ∧ b ≠ m ∧ b ≠ mc ∧ b ∉ OwnB q2 ∧ ∀ k, k < L → fb k ≠ b) (hm2 : ∀ b ∈ OwnB q2, b ≠ t ∧ b ≠ m ∧ b ≠ mc ∧ ∀ k, k < L → fb k ≠ b) :
    ∀ (g i : Nat) (cs : List Int) (Fs : Nat → Fi) (st : Nat → Nat) (ops : Nat) (fails : Int) (h : Heap), T + L * (3 * n + 4) - i < g → i ≤ T + L * (3 * n + 4) → ops ≤ i → Ms n L cs Fs → (∀ k, k < L → (Fs k).key = keyOf (ks.getD k 0) kinds) →
      RR T L n i (fun k => pot 0 cs (Fs k)) → (∀ k, k < L → st k + pot 0 cs (Fs k) ≤ 3 * n) → TW h t m mc 0 n cs (ops : Int) fails → Mf h0 h t m mc L fb Fs → Own h h0.size 1 q1 L c1 (rowV L fun k => ptrOf (fb k)) → Own h h0.size 1 q2 L c2 (rowV L fun k => .int .i64 (st k : Int)) → Only [] h0 h →
      F6.wL19 g p L cp u T cu (n : Int) kinds (some ⟨m, 0, none⟩) (some ⟨t, 0, none⟩) q1 L c1 q2 L c2 (i : Int) h (Lawful h0) := by
  intro g
  induction g with
  | zero => intro i cs Fs st ops fails h hg; omega
  | succ g ih =>
    intro i cs Fs st ops fails h hg hi hops M hkey hrr hst W B Q S O
    have hM : ∀ x ∈ [m, mc], h0.size ≤ x := by simp; omega
    have hn := W.hn
    have o1 : m ∉ OwnB q1 := fun hb => (hm1 m hb).2.1 rfl
    have o2 : mc ∉ OwnB q1 := fun hb => (hm1 mc hb).2.2.1 rfl
    have hbound : T + L * (3 * n + 4) ≤ 1000 := by
      have : L * (3 * n + 4) ≤ 12 * 28 := Nat.mul_le_mul hL12 (by omega)
      omega
    have eR : IntKind.wrap .i64 ((T : Int) + IntKind.wrap .i64 ((L : Int) * IntKind.wrap .i64 (IntKind.wrap .i64 (3 * (n : Int)) + 4))) = ((T + L * (3 * n + 4) : Nat) : Int) := by
      have e0 : (L : Int) * (3 * (n : Int) + 4) = ((L * (3 * n + 4) : Nat) : Int) := by simp
      rw [wrap_i64 (n := 3 * (n : Int)) (by omega) (by omega), wrap_i64 (n := 3 * (n : Int) + 4) (by omega) (by omega), e0, wrap_i64 (n := ((L * (3 * n + 4) : Nat) : Int)) (by omega) (by omega), wrap_i64 (by omega) (by omega)]
      simp
    -- the end
    have fin : (∀ k, k < L → (Fs k).done = true) → F6.wk33 p L cp (n : Int) kinds (some ⟨t, 0, none⟩) q1 L c1 h (Lawful h0) := by
      intro hd
      unfold F6.wk33 F6.Jk33
      exact ended_spec (cs := cs) (Fs := Fs) (fb := fb) (ops := (ops : Int)) (fails := fails) hkr k0 k1 hL hL12 hI M hd hkey s1 s2 o1 o2 (fun h' O' => ldB_of rfl ⟨rfl, O'⟩) W B Q O
    -- one turn
    have turn : ∀ k, k < L → (T ≤ i → k = i % L) → i < T + L * (3 * n + 4) →
        F6.wk24 (fun x1p x1l x1c x3p x3l x3c x9 x10 x11 x12 x14p x14l x14c x15p x15l x15c x17 h => F6.wL19 g x1p x1l x1c x3p x3l x3c x9 x10 x11 x12 x14p x14l x14c x15p x15l x15c x17 h (Lawful h0)) p L cp u T cu (n : Int) kinds (some ⟨m, 0, none⟩) (some ⟨t, 0, none⟩) q1 L c1 q2 L c2 (i : Int) (k : Int) h (Lawful h0) := by
      intro k hk hik hir
      obtain ⟨b1, e1, r1⟩ := Q.rd (j := k) (by rw [rowV_len]; exact hk)
      rw [rowV_get hk] at r1
      subst e1
      obtain ⟨f0, f1, f2, f3⟩ := B.out k hk
      have hS : ∀ x ∈ [fb k, m, mc], h0.size ≤ x := by simp; omega
      obtain ⟨M', key', pot'⟩ := M.step hn W.hc hk
      unfold F6.wk24 F6.Jk24
      refine ⟨by omega, by omega, ?_⟩
      simp only [Int.toNat_natCast, Nat.mul_one, add_mk, Nat.zero_add, ptrK_some]
      refine ldP_of r1 (done_spec (B.find k hk) (ldB_of rfl (ops_spec W.mem (ldI_of rfl ⟨by omega, by omega, ldP_of r1 ?_⟩))))
      refine step_tw W (B.find k hk) (M.ok k hk) f1 f2 f3 fun h1 fails1 H1 W1 O1 => ldB_of rfl ?_
      have P1 := O.nil O1 hS
      have hz1 : ∀ b, some (⟨b1, 0, none⟩ : Addr) = some ⟨b, 0, none⟩ → b ∉ [fb k, m, mc] := by
        intro b hb
        injection hb with hb
        injection hb with hb
        subst hb
        obtain ⟨_, z1, z2, _, z3⟩ := hm1 b1 (by simp [OwnB])
        simp [z1, z2, (z3 k hk).symm]
      have hz2 : ∀ b, q2 = some ⟨b, 0, none⟩ → b ∉ [fb k, m, mc] := by
        intro b hb
        subst hb
        obtain ⟨_, z1, z2, z3⟩ := hm2 b (by simp [OwnB])
        simp [z1, z2, (z3 k hk).symm]
      have Q1 := Q.only O1 hz1
      have S1 := S.only O1 hz2
      have B1 := B.step hk O1 H1
      obtain ⟨b1', e1', r1'⟩ := Q1.rd (j := k) (by rw [rowV_len]; exact hk)
      rw [rowV_get hk] at r1'
      injection e1' with e1'
      injection e1' with e1'
      subst e1'
      refine ⟨by omega, by omega, ldP_of r1' (done_spec H1 (ldB_of rfl ?_))⟩
      rw [show (!((stepF 0 n cs (Fs k)).1.done == (stepF 0 n cs (Fs k)).1.done)) = false by simp, bcase_false]
      have hwrap : IntKind.wrap .i64 ((ops : Int) + 1) = ((ops + 1 : Nat) : Int) := by rw [wrap_i64 (by omega) (by omega)]; simp
      have hup : up (ops : Int) = ((ops + 1 : Nat) : Int) := hwrap
      have ei : IntKind.wrap .i64 ((i : Int) + 1) = ((i + 1 : Nat) : Int) := by rw [wrap_i64 (by omega) (by omega)]; simp
      have e3 : IntKind.wrap .i64 (IntKind.wrap .i64 (3 * (n : Int)) + 3) = 3 * (n : Int) + 3 := by rw [wrap_i64 (n := 3 * (n : Int)) (by omega) (by omega), wrap_i64 (by omega) (by omega)]
      have nodone : ∀ j, j < L → j ≠ k → fset Fs k (stepF 0 n cs (Fs k)).1 j = Fs j := fun j _ h => fset_other _ _ h
      -- behind the turn
      have next : ∀ (st' : Nat → Nat) (ops' : Nat) (h2 : Heap), ops' ≤ i + 1 → st' k ≤ 3 * n → (∀ j, j < L → st' j + pot 0 (stepF 0 n cs (Fs k)).2 (fset Fs k (stepF 0 n cs (Fs k)).1 j) ≤ 3 * n) →
          pot 0 (stepF 0 n cs (Fs k)).2 (stepF 0 n cs (Fs k)).1 ≤ pot 0 cs (Fs k) - 1 → TW h2 t m mc 0 n (stepF 0 n cs (Fs k)).2 (ops' : Int) fails1 → Mf h0 h2 t m mc L fb (fset Fs k (stepF 0 n cs (Fs k)).1) →
          Own h2 h0.size 1 (some ⟨b1, 0, none⟩) L c1 (rowV L fun k => ptrOf (fb k)) → Own h2 h0.size 1 q2 L c2 (rowV L fun k => .int .i64 (st' k : Int)) → Only [] h0 h2 →
          F6.wk31 (fun x1p x1l x1c x3p x3l x3c x9 x10 x11 x12 x14p x14l x14c x15p x15l x15c x17 h => F6.wL19 g x1p x1l x1c x3p x3l x3c x9 x10 x11 x12 x14p x14l x14c x15p x15l x15c x17 h (Lawful h0)) p L cp u T cu (n : Int) kinds (some ⟨m, 0, none⟩) (some ⟨t, 0, none⟩) (some ⟨b1, 0, none⟩) L c1 q2 L c2 (i : Int) (k : Int) h2 (Lawful h0) := by
        intro st' ops' h2 g1 g2 g3 g4 W2 B2 Q2 S2 P2
        obtain ⟨b2, e2, r2⟩ := S2.rd (j := k) (by rw [rowV_len]; exact hk)
        rw [rowV_get hk] at r2
        subst e2
        unfold F6.wk31 F6.Jk31
        refine ⟨by omega, by omega, ?_⟩
        simp only [Int.toNat_natCast, Nat.mul_one, add_mk, Nat.zero_add]
        refine ldI_of r2 ?_
        rw [e3, decide_eq_false (by omega), bcase_false, ei]
        refine ih (i + 1) _ (fset Fs k (stepF 0 n cs (Fs k)).1) st' ops' fails1 h2 (by omega) (by omega) g1 M' (fun j hj => (key' j hj).trans (hkey j hj)) ?_ g3 W2 B2 Q2 S2 P2
        refine hrr.step (k0 := k) (by omega) hik ?_ fun j hj hne => ?_
        · show pot 0 _ (fset Fs k _ k) ≤ _
          rw [fset_same]
          exact g4
        · show pot 0 _ (fset Fs k _ j) ≤ _
          rw [nodone j hj hne]
          exact pot' j hj hne
      cases hd : (Fs k).done with
      | true =>
        rw [hd] at W1
        have es : stepF 0 n cs (Fs k) = (Fs k, cs) := (by unfold stepF; rw [if_pos hd])
        refine ops_spec W1.mem (ldI_of rfl ?_)
        rw [if_pos rfl, hwrap, decide_eq_false (by omega), bcase_false, bcase_true]
        rw [show (stepF 0 n cs (Fs k)).1.done = true by rw [es]; exact hd, Bool.not_true, bcase_false]
        refine ops_spec W1.mem (ldI_of rfl ?_)
        rw [if_pos rfl, bne_self_eq_false, bcase_false, bcase_false]
        refine next st ops h1 (by omega) (by have := hst k hk; omega) (fun j hj => ?_) ?_ W1 B1 Q1 S1 P1
        · rw [es]
          by_cases e : j = k
          · subst e; rw [fset_same]; exact hst j hj
          · rw [fset_other _ _ e]; exact hst j hj
        · rw [es]
          show pot 0 cs (Fs k) ≤ _
          rw [pot_of_done hd]
          omega
      | false =>
        rw [hd] at W1
        have hps := pot_step (M.ok k hk) hd
        refine ops_spec W1.mem (ldI_of rfl ?_)
        rw [if_neg (by decide), hwrap, hup, decide_eq_false (by omega), bcase_false, bcase_false, Bool.not_false, bcase_true]
        obtain ⟨b2, e2, r2⟩ := S1.rd (j := k) (by rw [rowV_len]; exact hk)
        rw [rowV_get hk] at r2
        subst e2
        have hsk := hst k hk
        refine ⟨by omega, by omega, ?_⟩
        simp only [Int.toNat_natCast, Nat.mul_one, add_mk, Nat.zero_add, Nat.add_zero, ptrK_some]
        refine ldI_of r2 ⟨by omega, by omega, ?_⟩
        rw [show IntKind.wrap .i64 ((st k : Int) + 1) = ((st k + 1 : Nat) : Int) by rw [wrap_i64 (by omega) (by omega)]; simp]
        refine S1.set (by rw [rowV_len]; exact hk) rfl fun h2 S2 O2 => ?_
        obtain ⟨z0, z1, z2, z3⟩ := hm2 b2 (by simp [OwnB])
        have hb2 := (S1.lt b2 (by simp [OwnB])).1
        rw [if_neg (by decide), hup] at W1
        refine next (fun j => if j = k then st k + 1 else st j) (ops + 1) h2 (by omega) (by simp; omega) (fun j hj => ?_) (by omega) (W1.only O2 (by simp [z0.symm]) (by simp [z1.symm]) (by simp [z2.symm]))
          (B1.only O2 fun j hj => by simp [z3 j hj]) (Q1.only O2 ?_) ?_ (P1.nil O2 (by simpa using hb2))
        · by_cases e : j = k
          · subst e
            rw [fset_same, if_pos rfl]
            omega
          · rw [fset_other _ _ e, if_neg e]
            have := hst j hj
            have := pot' j hj e
            omega
        · intro b hb
          injection hb with hb
          injection hb with hb
          subst hb
          have := (hm1 b1 (by simp [OwnB])).2.2.2.1
          simpa [OwnB] using this
        · rw [rowV_set] at S2
          rw [rowV_ext (g' := fun j => if j = k then Value.int .i64 ((st k + 1 : Nat) : Int) else .int .i64 (st j : Int)) fun j _ => by split <;> rfl]
          exact S2
    unfold F6.wL19 F6.JL19
    rw [eR]
    by_cases hlt : i < T + L * (3 * n + 4)
    · rw [decide_eq_true (by omega), bcase_true]
      by_cases hL0 : 0 < L
      · rw [decide_eq_true (by omega), bcase_true]
        refine ⟨by omega, bcase_of (fun e => ?_) fun e => ?_⟩
        · have hiT : i < T := by have := of_decide_eq_true e; omega
          obtain ⟨a, rfl, ha⟩ := hJ.only O (by simp) i (by omega)
          refine ⟨by omega, by omega, ?_⟩
          simp only [Int.toNat_natCast, Nat.mul_one, ha, ldI_some]
          have hz := range_getD hur (by omega : i < us.length)
          have z0 : 0 ≤ us.getD i 0 := hz.1
          have z1 : us.getD i 0 ≤ 255 := hz.2
          obtain ⟨w0, w1⟩ := tmod_fit hz (by omega : (0 : Int) < L)
          rw [wrap_i64 (n := us.getD i 0) (by omega) (by omega)]
          obtain ⟨k, hk⟩ : ∃ k : Nat, (us.getD i 0).tmod L = k := ⟨((us.getD i 0).tmod L).toNat, by omega⟩
          rw [hk] at w0 w1 ⊢
          exact ⟨by omega, turn k (by omega) (fun h => by omega) hlt⟩
        · have hiT : T ≤ i := by
            have := of_decide_eq_false e
            omega
          rw [show (i : Int).tmod (L : Int) = ((i % L : Nat) : Int) by rw [Int.tmod_eq_emod_of_nonneg (by omega)]; simp]
          exact turn (i % L) (Nat.mod_lt _ hL0) (fun _ => rfl) hlt
      · rw [decide_eq_false (by omega), bcase_false]
        exact fin fun k hk => by omega
    · rw [decide_eq_false (by omega), bcase_false]
      refine fin fun k hk => ?_
      obtain rfl : i = T + L * (3 * n + 4) := by omega
      exact pot_done (hrr.stop (by omega) hk)
end
end Go.Proofs.Ytbjdjgdbkfjglaa.Ev
