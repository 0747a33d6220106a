/- SORTING: a comparison; insertion. Conditions: the row stands (Arr). -/
import Derived.Test.YtipckkeaoncjiaaSrtA
import Derived.Test.YtipckkeaoncjiaaRefF
namespace Go.Proofs.Ytipckkeaoncjiaa.Ev
open Go

theorem nan98 {x : Int} {h : Heap} {K : Value → Heap → Prop} (hK : K (.bool false) h) : CallsH Try.prog 98 [.int .u32 x] h K := by
  refine F98.spec x h K ?_
  unfold F98.w F98.J0
  rw [show (x != x) = false by simp]
  exact hK
theorem less82 {x y : Int} {h : Heap} {K : Value → Heap → Prop} (hK : K (.bool (decide (x < y))) h) : CallsH Try.prog 82 [.int .u32 x, .int .u32 y] h K := by
  refine F82.spec x y h K ?_
  unfold F82.w F82.J0
  exact nan98 (by rw [ldB_some]; exact hK)
/-- the bound of a slice's length -/
def LB : Nat := 140737488355328
theorem wrapN {x : Int} (h0 : -LB ≤ x) (h1 : x ≤ LB) : IntKind.wrap .i64 x = x := wrap_i64 (by unfold LB at h0; omega) (by unfold LB at h1; omega)
theorem inner76 {b n a e c i : Nat} {sp : List Value} {K : Value → Heap → Prop} {bk : (Option Addr) → Nat → Nat → Int → Int → Int → Heap → Prop} (he : e ≤ n) (hie : i < e) (hn : n ≤ LB - 2) :
    ∀ (j : Nat) (g : Nat → Int) (h : Heap), Arr .u32 h b n g sp → Ins a i j g → a ≤ j → j ≤ i → (∀ h' g', Arr .u32 h' b n g' sp → Srt a (i + 1) g' → Swp a e g g' → Only [b] h h' → bk (some ⟨b, 0, none⟩) n c a e ((i + 1 : Nat) : Int) h') →
      F76.wL4 bk (j + 1) (some ⟨b, 0, none⟩) n c a e i j h K := by
  intro j
  have hLB : LB = 140737488355328 := rfl
  have w1 : IntKind.wrap .i64 ((i : Int) + 1) = ((i + 1 : Nat) : Int) := by rw [wrapN (by omega) (by omega)]; omega
  induction j with
  | zero =>
    intro g h A I ha hj hK
    unfold F76.wL4 F76.JL4
    rw [w1, show decide (((0 : Nat) : Int) > (a : Int)) = false by simp]
    exact hK h g A (I.stop (.inl (by omega))) (.refl g) (Only.refl _ _)
  | succ j ih =>
    intro g h A I ha hj hK
    unfold F76.wL4 F76.JL4
    have w2 : IntKind.wrap .i64 (((j + 1 : Nat) : Int) - 1) = (j : Int) := by rw [wrapN (by omega) (by omega)]; omega
    rw [w1, w2]
    refine bcase_of (fun hc => ?_) fun hc => ?_
    · simp only [decide_eq_true_eq] at hc
      refine A.ld rfl (by omega) (A.ld rfl (by omega) (less82 ?_))
      rw [ldB_some]
      refine bcase_of (fun hl => ?_) fun hl => ?_
      · simp only [decide_eq_true_eq] at hl
        refine A.ld rfl (by omega) (A.ld rfl (by omega) (A.sto rfl (by omega) fun h1 A1 O1 => ⟨rfl, rfl, rfl, A1.sto rfl (by omega) fun h2 A2 O2 => ?_⟩))
        have O : Only [b] h h2 := O1.trans O2 (by simp)
        have S : Swp a e g (swp g (j + 1) j) := Swp.one g (by omega) (by omega) (by omega) (by omega)
        have A2' : Arr .u32 h2 b n (swp g (j + 1) j) sp := A2
        have I2 := I.step (by omega) hj hl
        rw [show j + 1 - 1 = j by omega] at I2
        exact ih _ h2 A2' I2 (by omega) (by omega) fun h' g' A' R' S' O' => hK h' g' A' R' (S.trans S') (O.trans O' (by simp))
      · simp only [decide_eq_false_iff_not] at hl
        exact hK h g A (I.stop (.inr (by rw [show j + 1 - 1 = j by omega]; omega))) (.refl g) (Only.refl _ _)
    · simp only [decide_eq_false_iff_not] at hc
      exact hK h g A (I.stop (.inl (by omega))) (.refl g) (Only.refl _ _)
theorem outer76 {b n a e c : Nat} {sp : List Value} {K : Value → Heap → Prop} (he : e ≤ n) (hn : n ≤ LB - 2) :
    ∀ (d i : Nat) (g : Nat → Int) (h : Heap), e ≤ i + d → Arr .u32 h b n g sp → a < i → i ≤ e ∨ e ≤ a → Srt a i g → (∀ h' g', Arr .u32 h' b n g' sp → Srt a e g' → Swp a e g g' → Only [b] h h' → K (.tuple #[]) h') →
      F76.wL1 (d + 1) (some ⟨b, 0, none⟩) n c a e i h K := by
  intro d
  induction d with
  | zero =>
    intro i g h hd A ha hi R hK
    unfold F76.wL1 F76.JL1
    rw [show decide ((i : Int) < (e : Int)) = false by simp; omega]
    exact hK h g A (fun p q h1 h2 h3 => R p q h1 h2 (by omega)) (.refl g) (Only.refl _ _)
  | succ d ih =>
    intro i g h hd A ha hi R hK
    unfold F76.wL1 F76.JL1
    refine bcase_of (fun hc => ?_) fun hc => ?_
    · simp only [decide_eq_true_eq] at hc
      refine ⟨i + 1, inner76 he (by omega) hn i g h A (Ins.start R) (by omega) (Nat.le_refl _) fun h1 g1 A1 R1 S1 O1 => ?_⟩
      exact ih (i + 1) g1 h1 (by omega) A1 (by omega) (by omega) R1 fun h' g' A' R' S' O' => hK h' g' A' R' (S1.trans S') (O1.trans O' (by simp))
    · simp only [decide_eq_false_iff_not] at hc
      exact hK h g A (fun p q h1 h2 h3 => R p q h1 h2 (by omega)) (.refl g) (Only.refl _ _)
theorem ins76 {h : Heap} {b n a e c : Nat} {g : Nat → Int} {sp : List Value} {K : Value → Heap → Prop} (A : Arr .u32 h b n g sp) (he : e ≤ n) (ha : a ≤ n) (hn : n ≤ LB - 2)
    (hK : ∀ h' g', Arr .u32 h' b n g' sp → Srt a e g' → Swp a e g g' → Only [b] h h' → K (.tuple #[]) h') : CallsH Try.prog 76 [.slice (some ⟨b, 0, none⟩) n c, .int .i64 a, .int .i64 e] h K := by
  refine F76.spec _ _ _ _ _ h K ?_
  unfold F76.w F76.J0 F76.wk1 F76.Jk1
  have hLB : LB = 140737488355328 := rfl
  rw [show IntKind.wrap .i64 ((a : Int) + 1) = ((a + 1 : Nat) : Int) by rw [wrapN (by omega) (by omega)]; omega]
  exact ⟨e + 1, outer76 he hn e (a + 1) g h (by omega) A (by omega) (by omega) (Srt.single g (by omega)) hK⟩
end Go.Proofs.Ytipckkeaoncjiaa.Ev
