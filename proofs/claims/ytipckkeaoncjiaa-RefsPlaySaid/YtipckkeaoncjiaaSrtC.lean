/- SORTING: a row turned round; a heap, and sorting by it. Conditions: the row stands (Arr). -/
import Derived.Test.YtipckkeaoncjiaaSrtB
import Derived.Test.YtipckkeaoncjiaaSrtF
namespace Go.Proofs.Ytipckkeaoncjiaa.Ev
open Go

theorem rev80L {b n a e c : Nat} {sp : List Value} {K : Value → Heap → Prop} (he : e ≤ n) (hn : n ≤ LB - 2) :
    ∀ (d : Nat) (i : Nat) (y : Int) (g : Nat → Int) (h : Heap), Arr .u32 h b n g sp → a ≤ i → i ≤ n + 1 → y < e → -1 ≤ y → y ≤ i + d → (∀ h' g', Arr .u32 h' b n g' sp → Swp a e g g' → Only [b] h h' → K (.tuple #[]) h') →
      F80.wL2 (d + 1) (some ⟨b, 0, none⟩) n c i y h K := by
  intro d
  have hLB : LB = 140737488355328 := rfl
  induction d with
  | zero =>
    intro i y g h A h1 h1' h2 h2' h3 hK
    unfold F80.wL2 F80.JL2
    rw [show decide ((i : Int) < y) = false by simp; omega]
    exact hK h g A (.refl g) (Only.refl _ _)
  | succ d ih =>
    intro i y g h A h1 h1' h2 h2' h3 hK
    unfold F80.wL2 F80.JL2
    refine bcase_of (fun hc => ?_) fun hc => ?_
    · simp only [decide_eq_true_eq] at hc
      obtain ⟨j, rfl⟩ : ∃ j : Nat, y = j := ⟨y.toNat, by omega⟩
      refine A.ld rfl (by omega) (A.ld rfl (by omega) (A.sto rfl (by omega) fun h1 A1 O1 => ⟨rfl, rfl, A1.sto rfl (by omega) fun h2 A2 O2 => ?_⟩))
      have A2' : Arr .u32 h2 b n (swp g i j) sp := A2
      rw [show IntKind.wrap .i64 ((i : Int) + 1) = ((i + 1 : Nat) : Int) by rw [wrapN (by omega) (by omega)]; omega, wrapN (x := (j : Int) - 1) (by omega) (by omega)]
      exact ih (i + 1) _ _ h2 A2' (by omega) (by omega) (by omega) (by omega) (by omega) fun h' g' A' S' O' => hK h' g' A' ((Swp.one g (by omega) (by omega) (by omega) (by omega)).trans S') ((O1.trans O2 (by simp)).trans O' (by simp))
    · exact hK h g A (.refl g) (Only.refl _ _)
theorem rev80 {h : Heap} {b n a e c : Nat} {g : Nat → Int} {sp : List Value} {K : Value → Heap → Prop} (A : Arr .u32 h b n g sp) (he : e ≤ n) (ha : a ≤ n) (hn : n ≤ LB - 2)
    (hK : ∀ h' g', Arr .u32 h' b n g' sp → Swp a e g g' → Only [b] h h' → K (.tuple #[]) h') : CallsH Try.prog 80 [.slice (some ⟨b, 0, none⟩) n c, .int .i64 a, .int .i64 e] h K := by
  refine F80.spec _ _ _ _ _ h K ?_
  unfold F80.w F80.J0 F80.wk2 F80.Jk2
  have hLB : LB = 140737488355328 := rfl
  rw [wrapN (x := (e : Int) - 1) (by omega) (by omega)]
  exact ⟨e + 1, rev80L he hn e a _ g h A (Nat.le_refl _) (by omega) (by omega) (by omega) (by omega) hK⟩

/-- a heap from lo on, but for what r's children need -/
def Hp (lo hi r : Nat) (u : Nat → Int) : Prop :=
  (∀ k c, lo ≤ k → k ≠ r → (c = 2 * k + 1 ∨ c = 2 * k + 2) → c < hi → u c ≤ u k) ∧ (∀ k c, lo ≤ k → (r = 2 * k + 1 ∨ r = 2 * k + 2) → (c = 2 * r + 1 ∨ c = 2 * r + 2) → c < hi → u c ≤ u k)
def Hpf (lo hi : Nat) (u : Nat → Int) : Prop := ∀ k c, lo ≤ k → (c = 2 * k + 1 ∨ c = 2 * k + 2) → c < hi → u c ≤ u k
theorem Hp.stop {lo hi r : Nat} {u : Nat → Int} (H : Hp lo hi r u) (h : ∀ c, (c = 2 * r + 1 ∨ c = 2 * r + 2) → c < hi → u c ≤ u r) : Hpf lo hi u := fun k c h1 h2 h3 => by
  by_cases hk : k = r
  · subst hk; exact h c h2 h3
  · exact H.1 k c h1 hk h2 h3
theorem Hp.step {lo hi r ch : Nat} {u : Nat → Int} (H : Hp lo hi r u) (hr : lo ≤ r) (hch : ch = 2 * r + 1 ∨ ch = 2 * r + 2) (hh : ch < hi) (hb : ∀ c, (c = 2 * r + 1 ∨ c = 2 * r + 2) → c < hi → u c ≤ u ch) (hl : u r < u ch) :
    Hp lo hi ch (swp u r ch) := by
  refine ⟨fun k c h1 h2 h3 h4 => ?_, fun k c h1 h2 h3 h4 => ?_⟩
  · by_cases hk : k = r
    · subst hk
      rw [swp_i]
      by_cases hc : c = ch
      · subst hc
        rw [swp_j]
        exact Int.le_of_lt hl
      · rw [swp_o u (by omega) hc]
        exact hb c h3 h4
    · rw [swp_o u hk h2]
      by_cases hc : c = r
      · subst hc
        rw [swp_i]
        exact H.2 k ch h1 h3 hch hh
      · have hc' : c ≠ ch := by omega
        rw [swp_o u hc hc']
        exact H.1 k c h1 hk h3 h4
  · have hk : k = r := by omega
    subst hk
    rw [swp_i, swp_o u (by omega) (by omega)]
    exact H.1 ch c (by omega) (by omega) h3 h4
theorem Hpf.max {hi : Nat} {u : Nat → Int} (H : Hpf 0 hi u) : ∀ k, k < hi → u k ≤ u 0 := by
  intro k
  induction k using Nat.strongRecOn with
  | _ k ih =>
    intro hk
    by_cases h0 : k = 0
    · subst h0; exact Int.le_refl _
    · exact Int.le_trans (H ((k - 1) / 2) k (by omega) (by omega) hk) (ih ((k - 1) / 2) (by omega) (by omega))
def sh (a : Nat) (g : Nat → Int) : Nat → Int := fun k => g (a + k)
theorem sh_swp (a : Nat) (g : Nat → Int) (i j : Nat) : sh a (swp g (a + i) (a + j)) = swp (sh a g) i j := by
  funext k
  unfold sh swp
  simp only [Nat.add_left_cancel_iff]

theorem sift93L {b n a e c lo : Nat} {sp : List Value} {K : Value → Heap → Prop} (he : a + e ≤ n) (hn : n ≤ LB / 4) :
    ∀ (d : Nat) (r : Nat) (g : Nat → Int) (h : Heap), Arr .u32 h b n g sp → Hp lo e r (sh a g) → lo ≤ r → r < e → e ≤ r + d → (∀ h' g', Arr .u32 h' b n g' sp → Hpf lo e (sh a g') → Swp (a + lo) (a + e) g g' → Only [b] h h' → K (.tuple #[]) h') →
      F93.wL1 (d + 1) (some ⟨b, 0, none⟩) n c e a r h K := by
  intro d
  have hLB : LB = 140737488355328 := rfl
  induction d with
  | zero => intro r g h A H h1 h2 h3; omega
  | succ d ih =>
    intro r g h A H h1 h2 h3 hK
    unfold F93.wL1 F93.JL1
    have w1 : IntKind.wrap .i64 (IntKind.wrap .i64 ((2 : Int) * (r : Int)) + 1) = ((2 * r + 1 : Nat) : Int) := by
      rw [wrapN (x := (2 : Int) * r) (by omega) (by omega), wrapN (by omega) (by omega)]; omega
    have w2 : IntKind.wrap .i64 (((2 * r + 1 : Nat) : Int) + 1) = ((2 * r + 2 : Nat) : Int) := by rw [wrapN (by omega) (by omega)]; omega
    have below : ∀ ch : Nat, (ch = 2 * r + 1 ∨ ch = 2 * r + 2) → ch < e → (∀ c, (c = 2 * r + 1 ∨ c = 2 * r + 2) → c < e → sh a g c ≤ sh a g ch) →
        F93.wk5 (fun x0p x0l x0c x2 x3 x8 h => F93.wL1 (d + 1) x0p x0l x0c x2 x3 x8 h K) (some ⟨b, 0, none⟩) n c e a r ch h K := by
      intro ch hch hce hb
      unfold F93.wk5 F93.Jk5
      have w4 : IntKind.wrap .i64 ((a : Int) + (r : Int)) = ((a + r : Nat) : Int) := by rw [wrapN (by omega) (by omega)]; omega
      have w5 : IntKind.wrap .i64 ((a : Int) + (ch : Int)) = ((a + ch : Nat) : Int) := by rw [wrapN (by omega) (by omega)]; omega
      rw [w4, w5]
      refine A.ld rfl (by omega) (A.ld rfl (by omega) (less82 ?_))
      rw [ldB_some]
      refine bcase_of (fun hl => ?_) fun hl => ?_
      · simp only [Bool.not_eq_true', decide_eq_false_iff_not] at hl
        refine hK h g A (H.stop fun c h4 h5 => Int.le_trans (hb c h4 h5) ?_) (.refl g) (Only.refl _ _)
        show g (a + ch) ≤ g (a + r)
        omega
      · simp only [Bool.not_eq_false', decide_eq_true_eq] at hl
        refine A.ld rfl (by omega) (A.ld rfl (by omega) (A.sto rfl (by omega) fun k1 A1 O1 => ⟨rfl, rfl, rfl, rfl, A1.sto rfl (by omega) fun k2 A2 O2 => ?_⟩))
        have A2' : Arr .u32 k2 b n (swp g (a + r) (a + ch)) sp := A2
        have H2 := H.step h1 hch hce hb hl
        rw [← sh_swp] at H2
        exact ih ch _ k2 A2' H2 (by omega) hce (by omega) fun h' g' A' R' S' O' => hK h' g' A' R' ((Swp.one g (by omega) (by omega) (by omega) (by omega)).trans S') ((O1.trans O2 (by simp)).trans O' (by simp))
    rw [w1, w2]
    refine bcase_of (fun hc => ?_) fun hc => ?_
    · simp only [decide_eq_true_eq] at hc
      exact hK h g A (H.stop fun c h4 h5 => by omega) (.refl g) (Only.refl _ _)
    · simp only [decide_eq_false_iff_not] at hc
      have w3 : IntKind.wrap .i64 ((a : Int) + ((2 * r + 1 : Nat) : Int)) = ((a + (2 * r + 1) : Nat) : Int) := by rw [wrapN (by omega) (by omega)]; omega
      rw [w3]
      refine bcase_of (fun hc2 => ?_) fun hc2 => ?_
      · simp only [decide_eq_true_eq] at hc2
        have w6 : IntKind.wrap .i64 (((a + (2 * r + 1) : Nat) : Int) + 1) = ((a + (2 * r + 2) : Nat) : Int) := by rw [wrapN (by omega) (by omega)]; omega
        rw [w6]
        refine A.ld rfl (by omega) (A.ld rfl (by omega) (less82 ?_))
        rw [ldB_some]
        refine bcase_of (fun hl => ?_) fun hl => ?_
        · simp only [decide_eq_true_eq] at hl
          refine below (2 * r + 2) (.inr rfl) (by omega) fun c h4 h5 => ?_
          rcases h4 with rfl | rfl
          · exact Int.le_of_lt hl
          · exact Int.le_refl _
        · simp only [decide_eq_false_iff_not] at hl
          refine below (2 * r + 1) (.inl rfl) (by omega) fun c h4 h5 => ?_
          rcases h4 with rfl | rfl
          · exact Int.le_refl _
          · show g (a + (2 * r + 2)) ≤ g (a + (2 * r + 1))
            omega
      · simp only [decide_eq_false_iff_not] at hc2
        refine below (2 * r + 1) (.inl rfl) (by omega) fun c h4 h5 => ?_
        rcases h4 with rfl | rfl
        · exact Int.le_refl _
        · omega
/-- sifting down -/
theorem sift93 {h : Heap} {b n a e c lo : Nat} {g : Nat → Int} {sp : List Value} {K : Value → Heap → Prop} (A : Arr .u32 h b n g sp) (H : Hpf (lo + 1) e (sh a g)) (hlo : lo < e ∨ e = 0) (he : a + e ≤ n) (hn : n ≤ LB / 4) (hl : lo ≤ n)
    (hK : ∀ h' g', Arr .u32 h' b n g' sp → Hpf lo e (sh a g') → Swp (a + lo) (a + e) g g' → Only [b] h h' → K (.tuple #[]) h') : CallsH Try.prog 93 [.slice (some ⟨b, 0, none⟩) n c, .int .i64 lo, .int .i64 e, .int .i64 a] h K := by
  refine F93.spec _ _ _ _ _ _ h K ?_
  unfold F93.w F93.J0 F93.wk1 F93.Jk1
  have hLB : LB = 140737488355328 := rfl
  rcases hlo with hlo | h0
  · refine ⟨e + 1, sift93L he hn e lo g h A ⟨fun k c h1 h2 h3 h4 => H k c (by omega) h3 h4, fun k c h1 h2 => by omega⟩ (Nat.le_refl _) hlo (by omega) hK⟩
  · subst h0
    refine ⟨1, ?_⟩
    unfold F93.wL1 F93.JL1
    have w1 : IntKind.wrap .i64 (IntKind.wrap .i64 ((2 : Int) * (lo : Int)) + 1) = ((2 * lo + 1 : Nat) : Int) := by
      rw [wrapN (x := (2 : Int) * lo) (by omega) (by omega), wrapN (by omega) (by omega)]; omega
    rw [w1, show decide ((((2 * lo + 1 : Nat) : Int)) ≥ ((0 : Nat) : Int)) = true by simp; omega]
    exact hK h g A (fun k c h1 h2 h3 => by omega) (.refl g) (Only.refl _ _)
end Go.Proofs.Ytipckkeaoncjiaa.Ev
