/- SORTING BY A HEAP. Conditions: the row stands (Arr). -/
import Derived.Test.YtipckkeaoncjiaaSrtC
namespace Go.Proofs.Ytipckkeaoncjiaa.Ev
open Go

theorem pop77L {b n a e c : Nat} {sp : List Value} {K : Value → Heap → Prop} (he : a + e ≤ n) (hn : n ≤ LB / 4) :
    ∀ (m : Nat) (g : Nat → Int) (h : Heap), Arr .u32 h b n g sp → m ≤ e → Hpf 0 m (sh a g) → (∀ p q, m ≤ p → p < q → q < e → sh a g p ≤ sh a g q) → (∀ p q, p < m → m ≤ q → q < e → sh a g p ≤ sh a g q) →
      (∀ h' g', Arr .u32 h' b n g' sp → Srt a (a + e) g' → Swp a (a + e) g g' → Only [b] h h' → K (.tuple #[]) h') → F77.wL8 (m + 1) (some ⟨b, 0, none⟩) n c a ((m : Int) - 1) h K := by
  intro m
  have hLB : LB = 140737488355328 := rfl
  induction m with
  | zero =>
    intro g h A hm H T1 T2 hK
    unfold F77.wL8 F77.JL8
    rw [show decide ((((0 : Nat) : Int) - 1) ≥ 0) = false by simp]
    refine hK h g A (fun p q h1 h2 h3 => ?_) (.refl g) (Only.refl _ _)
    have := T1 (p - a) (q - a) (by omega) (by omega) (by omega)
    unfold sh at this
    rw [show a + (p - a) = p by omega, show a + (q - a) = q by omega] at this
    exact this
  | succ m ih =>
    intro g h A hm H T1 T2 hK
    unfold F77.wL8 F77.JL8
    rw [show (((m + 1 : Nat) : Int) - 1) = (m : Int) by omega, show decide ((m : Int) ≥ 0) = true by simp, bcase_true]
    have w4 : IntKind.wrap .i64 ((a : Int) + (m : Int)) = ((a + m : Nat) : Int) := by rw [wrapN (by omega) (by omega)]; omega
    rw [w4]
    refine A.ld rfl (by omega) (A.ld rfl (by omega) (A.sto rfl (by omega) fun k1 A1 O1 => ⟨rfl, rfl, rfl, rfl, A1.sto rfl (by omega) fun k2 A2 O2 => ?_⟩))
    have A2' : Arr .u32 k2 b n (swp g a (a + m)) sp := A2
    have e1 : sh a (swp g a (a + m)) = swp (sh a g) 0 m := by have := sh_swp a g 0 m; simpa using this
    have M := H.max
    refine sift93 (lo := 0) (e := m) A2' ?_ (by omega) (by omega) hn (by omega) fun h3 g3 A3 H3 S3 O3 => ⟨rfl, ?_⟩
    · rw [e1]
      intro k c h1 h2 h3
      rw [swp_o _ (by omega) (by omega), swp_o _ (by omega) (by omega)]
      exact H k c (by omega) h2 (by omega)
    · rw [wrapN (x := (m : Int) - 1) (by omega) (by omega)]
      have S3' : Swp (a + 0) (a + m) (swp g a (a + m)) g3 := S3
      have out : ∀ q, m ≤ q → sh a g3 q = sh a (swp g a (a + m)) q := fun q hq => S3'.out (.inr (by omega))
      have top : sh a (swp g a (a + m)) m = sh a g 0 := by rw [e1, swp_j]
      have rest : ∀ q, m < q → sh a (swp g a (a + m)) q = sh a g q := fun q hq => by rw [e1, swp_o _ (by omega) (by omega)]
      have small : ∀ p, p < m → sh a (swp g a (a + m)) p ≤ sh a g 0 ∧ ∀ q, m + 1 ≤ q → q < e → sh a (swp g a (a + m)) p ≤ sh a g q := fun p hp => by
        rw [e1]
        by_cases h0 : p = 0
        · subst h0
          rw [swp_i]
          exact ⟨M m (by omega), fun q hq hq' => T2 m q (by omega) hq hq'⟩
        · rw [swp_o _ h0 (by omega)]
          exact ⟨M p (by omega), fun q hq hq' => T2 p q (by omega) hq hq'⟩
      have small3 : ∀ p, p < m → sh a g3 p ≤ sh a g 0 ∧ ∀ q, m + 1 ≤ q → q < e → sh a g3 p ≤ sh a g q := fun p hp => by
        have := S3'.all (Q := fun v => v ≤ sh a g 0 ∧ ∀ q, m + 1 ≤ q → q < e → v ≤ sh a g q) (fun k h1 h2 => by
          have := small (k - a) (by omega)
          unfold sh at this ⊢
          rw [show a + (k - a) = k by omega] at this
          exact this) (a + p) (by omega) (by omega)
        exact this
      refine ih g3 h3 A3 (by omega) H3 (fun p q h1 h2 h4 => ?_) (fun p q h1 h2 h4 => ?_) fun h' g' A' R' S' O' => hK h' g' A' R' (((Swp.one g (by omega) (by omega) (by omega) (by omega)).trans (S3'.mono (by omega) (by omega))).trans S') (((O1.trans O2 (by simp)).trans O3 (by simp)).trans O' (by simp))
      · rw [out p h1, out q (by omega), rest q (by omega)]
        by_cases hp : p = m
        · subst hp
          rw [top]
          exact T2 0 q (by omega) (by omega) h4
        · rw [rest p (by omega)]
          exact T1 p q (by omega) h2 h4
      · rw [out q h2]
        by_cases hq : q = m
        · subst hq
          rw [top]
          exact (small3 p h1).1
        · rw [rest q (by omega)]
          exact (small3 p h1).2 q (by omega) h4
theorem build77L {b n a e c : Nat} {sp : List Value} {K : Value → Heap → Prop} (he : a + e ≤ n) (hn : n ≤ LB / 4) :
    ∀ (m : Nat) (g : Nat → Int) (h : Heap), Arr .u32 h b n g sp → m ≤ e ∨ e = 0 → m ≤ n + 1 → Hpf m e (sh a g) →
      (∀ h' g', Arr .u32 h' b n g' sp → Srt a (a + e) g' → Swp a (a + e) g g' → Only [b] h h' → K (.tuple #[]) h') → F77.wL4 (m + 1) (some ⟨b, 0, none⟩) n c a e ((m : Int) - 1) h K := by
  intro m
  have hLB : LB = 140737488355328 := rfl
  induction m with
  | zero =>
    intro g h A hm hm' H hK
    unfold F77.wL4 F77.JL4
    rw [show decide ((((0 : Nat) : Int) - 1) ≥ 0) = false by simp, bcase_false]
    unfold F77.wk7 F77.Jk7 F77.wk8 F77.Jk8
    dsimp only
    rw [wrapN (x := (e : Int) - 1) (by omega) (by omega)]
    exact ⟨e + 1, pop77L he hn e g h A (Nat.le_refl _) H (fun p q h1 h2 h3 => by omega) (fun p q h1 h2 h3 => by omega) hK⟩
  | succ m ih =>
    intro g h A hm hm' H hK
    unfold F77.wL4 F77.JL4
    rw [show (((m + 1 : Nat) : Int) - 1) = (m : Int) by omega, show decide ((m : Int) ≥ 0) = true by simp, bcase_true]
    refine sift93 A H (by omega) he hn (by omega) fun h3 g3 A3 H3 S3 O3 => ⟨rfl, ?_⟩
    rw [wrapN (x := (m : Int) - 1) (by omega) (by omega)]
    exact ih g3 h3 A3 (by omega) (by omega) H3 fun h' g' A' R' S' O' => hK h' g' A' R' ((S3.mono (by omega) (Nat.le_refl _)).trans S') (O3.trans O' (by simp))
/-- sorting by a heap -/
theorem heap77 {h : Heap} {b n a e c : Nat} {g : Nat → Int} {sp : List Value} {K : Value → Heap → Prop} (A : Arr .u32 h b n g sp) (he : e ≤ n) (ha : a ≤ e) (hn : n ≤ LB / 4)
    (hK : ∀ h' g', Arr .u32 h' b n g' sp → Srt a e g' → Swp a e g g' → Only [b] h h' → K (.tuple #[]) h') : CallsH Try.prog 77 [.slice (some ⟨b, 0, none⟩) n c, .int .i64 a, .int .i64 e] h K := by
  refine F77.spec _ _ _ _ _ h K ?_
  unfold F77.w F77.J0 F77.wk4 F77.Jk4
  have hLB : LB = 140737488355328 := rfl
  obtain ⟨d, rfl⟩ : ∃ d, e = a + d := ⟨e - a, by omega⟩
  have w1 : IntKind.wrap .i64 (((a + d : Nat) : Int) - (a : Int)) = (d : Int) := by rw [wrapN (by omega) (by omega)]; omega
  rw [w1, wrapN (x := (d : Int) - 1) (by omega) (by omega)]
  refine ⟨by omega, ?_⟩
  by_cases hd : d = 0
  · subst hd
    have w2 : IntKind.wrap .i64 (Int.tdiv (((0 : Nat) : Int) - 1) 2) = ((1 : Nat) : Int) - 1 := by decide
    rw [w2]
    exact ⟨2, build77L (by omega) hn 1 g h A (.inr rfl) (by omega) (fun k c h1 h2 h3 => by omega) hK⟩
  · have w2 : IntKind.wrap .i64 (Int.tdiv ((d : Int) - 1) 2) = (((d - 1) / 2 + 1 : Nat) : Int) - 1 := by
      rw [Int.tdiv_eq_ediv_of_nonneg (by omega), wrapN (by omega) (by omega)]; omega
    rw [w2]
    exact ⟨_, build77L (by omega) hn ((d - 1) / 2 + 1) g h A (.inl (by omega)) (by omega) (fun k c h1 h2 h3 => by omega) hK⟩
end Go.Proofs.Ytipckkeaoncjiaa.Ev
