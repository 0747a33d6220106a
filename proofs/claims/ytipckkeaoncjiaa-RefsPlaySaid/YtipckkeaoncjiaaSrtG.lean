/- SORTING: a part's scans from below and from above. PRINTED BY PROGRAM (srtg.py). Conditions: the row stands (Arr). -/
import Derived.Test.YtipckkeaoncjiaaSrtE
namespace Go.Proofs.Ytipckkeaoncjiaa.Ev
open Go

theorem up84a {b n a c j : Nat} {sp : List Value} {K : Value → Heap → Prop} {g : Nat → Int} {h : Heap} (A : Arr .u32 h b n g sp) (hj : j < n) (ha : a < n) (hn : n ≤ LB / 4) :
    ∀ (d i : Nat), i + d = j + 1 → (∀ i', i ≤ i' → i' ≤ j + 1 → (∀ k, i ≤ k → k < i' → g k < g a) → (i' = j + 1 ∨ g a ≤ g i') → F84.wk5 (some ⟨b, 0, none⟩) n c a i' j h K) →
      F84.wL3 (d + 1) (some ⟨b, 0, none⟩) n c a i j h K := by
  intro d
  have hLB : LB = 140737488355328 := rfl
  induction d with
  | zero =>
    intro i hd hK
    unfold F84.wL3 F84.JL3
    rw [show decide ((i : Int) ≤ (j : Int)) = false by simp; omega]
    exact hK i (Nat.le_refl _) (by omega) (fun k h1 h2 => by omega) (.inl (by omega))
  | succ d ih =>
    intro i hd hK
    unfold F84.wL3 F84.JL3
    rw [show decide ((i : Int) ≤ (j : Int)) = true by simp; omega, bcase_true]
    refine A.ld rfl (by omega) (A.ld rfl (by omega) (less82 ?_))
    rw [ldB_some]
    refine bcase_of (fun hl => ?_) fun hl => ?_
    · simp only [decide_eq_true_eq] at hl
      rw [show IntKind.wrap .i64 ((i : Int) + 1) = ((i + 1 : Nat) : Int) by rw [wrapN (by omega) (by omega)]; omega]
      refine ih (i + 1) (by omega) fun i' h1 h2 h3 h4 => hK i' (by omega) h2 (fun k h5 h6 => ?_) h4
      by_cases hk : k = i
      · subst hk; omega
      · exact h3 k (by omega) h6
    · simp only [decide_eq_false_iff_not] at hl
      exact hK i (Nat.le_refl _) (by omega) (fun k h1 h2 => by omega) (.inr (by omega))

theorem up84b {b n a c j : Nat} {sp : List Value} {K : Value → Heap → Prop} {bk : (Option Addr) → Nat → Nat → Int → Int → Int → Heap → Prop} {g : Nat → Int} {h : Heap} (A : Arr .u32 h b n g sp) (hj : j < n) (ha : a < n) (hn : n ≤ LB / 4) :
    ∀ (d i : Nat), i + d = j + 1 → (∀ i', i ≤ i' → i' ≤ j + 1 → (∀ k, i ≤ k → k < i' → g k < g a) → (i' = j + 1 ∨ g a ≤ g i') → F84.wk15 bk (some ⟨b, 0, none⟩) n c a i' j h K) →
      F84.wL1013 bk (d + 1) (some ⟨b, 0, none⟩) n c a i j h K := by
  intro d
  have hLB : LB = 140737488355328 := rfl
  induction d with
  | zero =>
    intro i hd hK
    unfold F84.wL1013 F84.JL1013
    rw [show decide ((i : Int) ≤ (j : Int)) = false by simp; omega]
    exact hK i (Nat.le_refl _) (by omega) (fun k h1 h2 => by omega) (.inl (by omega))
  | succ d ih =>
    intro i hd hK
    unfold F84.wL1013 F84.JL1013
    rw [show decide ((i : Int) ≤ (j : Int)) = true by simp; omega, bcase_true]
    refine A.ld rfl (by omega) (A.ld rfl (by omega) (less82 ?_))
    rw [ldB_some]
    refine bcase_of (fun hl => ?_) fun hl => ?_
    · simp only [decide_eq_true_eq] at hl
      rw [show IntKind.wrap .i64 ((i : Int) + 1) = ((i + 1 : Nat) : Int) by rw [wrapN (by omega) (by omega)]; omega]
      refine ih (i + 1) (by omega) fun i' h1 h2 h3 h4 => hK i' (by omega) h2 (fun k h5 h6 => ?_) h4
      by_cases hk : k = i
      · subst hk; omega
      · exact h3 k (by omega) h6
    · simp only [decide_eq_false_iff_not] at hl
      exact hK i (Nat.le_refl _) (by omega) (fun k h1 h2 => by omega) (.inr (by omega))

theorem dn84a {b n a c i e : Nat} {sp : List Value} {K : Value → Heap → Prop} {g : Nat → Int} {h : Heap} (A : Arr .u32 h b n g sp) (he : e ≤ n) (ha : a < n) (hn : n ≤ LB / 4) (hi : 1 ≤ i) :
    ∀ (d j : Nat), j < e → j + 1 = i + d → (∀ j', j' ≤ j → i ≤ j' + 1 → (∀ k, j' < k → k ≤ j → g a ≤ g k) → (j' + 1 = i ∨ g j' < g a) → F84.wk7 (some ⟨b, 0, none⟩) n c a i j' h K) →
      F84.wL5 (d + 1) (some ⟨b, 0, none⟩) n c a i j h K := by
  intro d
  have hLB : LB = 140737488355328 := rfl
  induction d with
  | zero =>
    intro j hj hd hK
    unfold F84.wL5 F84.JL5
    rw [show decide ((i : Int) ≤ (j : Int)) = false by simp; omega]
    exact hK j (Nat.le_refl _) (by omega) (fun k h1 h2 => by omega) (.inl (by omega))
  | succ d ih =>
    intro j hj hd hK
    unfold F84.wL5 F84.JL5
    rw [show decide ((i : Int) ≤ (j : Int)) = true by simp; omega, bcase_true]
    refine A.ld rfl (by omega) (A.ld rfl (by omega) (less82 ?_))
    rw [ldB_some]
    refine bcase_of (fun hl => ?_) fun hl => ?_
    · simp only [Bool.not_eq_true', decide_eq_false_iff_not] at hl
      rw [show IntKind.wrap .i64 ((j : Int) - 1) = ((j - 1 : Nat) : Int) by rw [wrapN (by omega) (by omega)]; omega]
      refine ih (j - 1) (by omega) (by omega) fun j' h1 h2 h3 h4 => hK j' (by omega) h2 (fun k h5 h6 => ?_) h4
      by_cases hk : k = j
      · subst hk; omega
      · exact h3 k h5 (by omega)
    · simp only [Bool.not_eq_false', decide_eq_true_eq] at hl
      exact hK j (Nat.le_refl _) (by omega) (fun k h1 h2 => by omega) (.inr (by omega))

theorem dn84b {b n a c i e : Nat} {sp : List Value} {K : Value → Heap → Prop} {bk : (Option Addr) → Nat → Nat → Int → Int → Int → Heap → Prop} {g : Nat → Int} {h : Heap} (A : Arr .u32 h b n g sp) (he : e ≤ n) (ha : a < n) (hn : n ≤ LB / 4) (hi : 1 ≤ i) :
    ∀ (d j : Nat), j < e → j + 1 = i + d → (∀ j', j' ≤ j → i ≤ j' + 1 → (∀ k, j' < k → k ≤ j → g a ≤ g k) → (j' + 1 = i ∨ g j' < g a) → F84.wk17 bk (some ⟨b, 0, none⟩) n c a i j' h K) →
      F84.wL15 bk (d + 1) (some ⟨b, 0, none⟩) n c a i j h K := by
  intro d
  have hLB : LB = 140737488355328 := rfl
  induction d with
  | zero =>
    intro j hj hd hK
    unfold F84.wL15 F84.JL15
    rw [show decide ((i : Int) ≤ (j : Int)) = false by simp; omega]
    exact hK j (Nat.le_refl _) (by omega) (fun k h1 h2 => by omega) (.inl (by omega))
  | succ d ih =>
    intro j hj hd hK
    unfold F84.wL15 F84.JL15
    rw [show decide ((i : Int) ≤ (j : Int)) = true by simp; omega, bcase_true]
    refine A.ld rfl (by omega) (A.ld rfl (by omega) (less82 ?_))
    rw [ldB_some]
    refine bcase_of (fun hl => ?_) fun hl => ?_
    · simp only [Bool.not_eq_true', decide_eq_false_iff_not] at hl
      rw [show IntKind.wrap .i64 ((j : Int) - 1) = ((j - 1 : Nat) : Int) by rw [wrapN (by omega) (by omega)]; omega]
      refine ih (j - 1) (by omega) (by omega) fun j' h1 h2 h3 h4 => hK j' (by omega) h2 (fun k h5 h6 => ?_) h4
      by_cases hk : k = j
      · subst hk; omega
      · exact h3 k h5 (by omega)
    · simp only [Bool.not_eq_false', decide_eq_true_eq] at hl
      exact hK j (Nat.le_refl _) (by omega) (fun k h1 h2 => by omega) (.inr (by omega))

theorem up83 {b n a c j : Nat} {sp : List Value} {K : Value → Heap → Prop} {bk : (Option Addr) → Nat → Nat → Int → Int → Int → Heap → Prop} {g : Nat → Int} {h : Heap} (A : Arr .u32 h b n g sp) (hj : j < n) (ha : a < n) (hn : n ≤ LB / 4) :
    ∀ (d i : Nat), i + d = j + 1 → (∀ i', i ≤ i' → i' ≤ j + 1 → (∀ k, i ≤ k → k < i' → g k ≤ g a) → (i' = j + 1 ∨ g a < g i') → F83.wk5 bk (some ⟨b, 0, none⟩) n c a i' j h K) →
      F83.wL1003 bk (d + 1) (some ⟨b, 0, none⟩) n c a i j h K := by
  intro d
  have hLB : LB = 140737488355328 := rfl
  induction d with
  | zero =>
    intro i hd hK
    unfold F83.wL1003 F83.JL1003
    rw [show decide ((i : Int) ≤ (j : Int)) = false by simp; omega]
    exact hK i (Nat.le_refl _) (by omega) (fun k h1 h2 => by omega) (.inl (by omega))
  | succ d ih =>
    intro i hd hK
    unfold F83.wL1003 F83.JL1003
    rw [show decide ((i : Int) ≤ (j : Int)) = true by simp; omega, bcase_true]
    refine A.ld rfl (by omega) (A.ld rfl (by omega) (less82 ?_))
    rw [ldB_some]
    refine bcase_of (fun hl => ?_) fun hl => ?_
    · simp only [Bool.not_eq_true', decide_eq_false_iff_not] at hl
      rw [show IntKind.wrap .i64 ((i : Int) + 1) = ((i + 1 : Nat) : Int) by rw [wrapN (by omega) (by omega)]; omega]
      refine ih (i + 1) (by omega) fun i' h1 h2 h3 h4 => hK i' (by omega) h2 (fun k h5 h6 => ?_) h4
      by_cases hk : k = i
      · subst hk; omega
      · exact h3 k (by omega) h6
    · simp only [Bool.not_eq_false', decide_eq_true_eq] at hl
      exact hK i (Nat.le_refl _) (by omega) (fun k h1 h2 => by omega) (.inr (by omega))

theorem dn83 {b n a c i e : Nat} {sp : List Value} {K : Value → Heap → Prop} {bk : (Option Addr) → Nat → Nat → Int → Int → Int → Heap → Prop} {g : Nat → Int} {h : Heap} (A : Arr .u32 h b n g sp) (he : e ≤ n) (ha : a < n) (hn : n ≤ LB / 4) (hi : 1 ≤ i) :
    ∀ (d j : Nat), j < e → j + 1 = i + d → (∀ j', j' ≤ j → i ≤ j' + 1 → (∀ k, j' < k → k ≤ j → g a < g k) → (j' + 1 = i ∨ g j' ≤ g a) → F83.wk7 bk (some ⟨b, 0, none⟩) n c a i j' h K) →
      F83.wL5 bk (d + 1) (some ⟨b, 0, none⟩) n c a i j h K := by
  intro d
  have hLB : LB = 140737488355328 := rfl
  induction d with
  | zero =>
    intro j hj hd hK
    unfold F83.wL5 F83.JL5
    rw [show decide ((i : Int) ≤ (j : Int)) = false by simp; omega]
    exact hK j (Nat.le_refl _) (by omega) (fun k h1 h2 => by omega) (.inl (by omega))
  | succ d ih =>
    intro j hj hd hK
    unfold F83.wL5 F83.JL5
    rw [show decide ((i : Int) ≤ (j : Int)) = true by simp; omega, bcase_true]
    refine A.ld rfl (by omega) (A.ld rfl (by omega) (less82 ?_))
    rw [ldB_some]
    refine bcase_of (fun hl => ?_) fun hl => ?_
    · simp only [decide_eq_true_eq] at hl
      rw [show IntKind.wrap .i64 ((j : Int) - 1) = ((j - 1 : Nat) : Int) by rw [wrapN (by omega) (by omega)]; omega]
      refine ih (j - 1) (by omega) (by omega) fun j' h1 h2 h3 h4 => hK j' (by omega) h2 (fun k h5 h6 => ?_) h4
      by_cases hk : k = j
      · subst hk; omega
      · exact h3 k h5 (by omega)
    · simp only [decide_eq_false_iff_not] at hl
      exact hK j (Nat.le_refl _) (by omega) (fun k h1 h2 => by omega) (.inr (by omega))

end Go.Proofs.Ytipckkeaoncjiaa.Ev
