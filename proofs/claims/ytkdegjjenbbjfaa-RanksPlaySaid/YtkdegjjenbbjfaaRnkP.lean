/- A HEAP BY KEYS, plain: lists of pairs (number, key); exchanges; what goes up, what goes down. Conditions: none. -/
import Derived.Test.YtkdegjjenbbjfaaEvN
namespace Go.Proofs.Ytkdegjjenbbjfaa.Ev
open Go

abbrev It := Int × Int
def atL (L : List It) (i : Nat) : It := L.getD i (0, 0)
/-- a lies ahead of b -/
def bet (a b : It) : Bool := decide (a.2 > b.2) || (a.2 == b.2 && decide (a.1 < b.1))
def swapL (L : List It) (i j : Nat) : List It := (L.set i (atL L j)).set j (atL L i)
def par (k : Nat) : Nat := (k - 1) / 2
def okAt (L : List It) (k : Nat) : Prop := bet (atL L k) (atL L (par k)) = false
def HeapN (L : List It) (n : Nat) : Prop := ∀ k, 0 < k → k < n → okAt L k

theorem bet_asym {a b : It} (h : bet a b = true) : bet b a = false := by
  simp only [bet, Bool.or_eq_true, Bool.and_eq_true, decide_eq_true_eq, beq_iff_eq, Bool.or_eq_false_iff, Bool.and_eq_false_imp, decide_eq_false_iff_not] at *
  omega
theorem bet_ntrans {a b c : It} (h1 : bet a b = false) (h2 : bet b c = false) : bet a c = false := by
  simp only [bet, beq_iff_eq, Bool.or_eq_false_iff, Bool.and_eq_false_imp, decide_eq_false_iff_not] at *
  omega
theorem bet_step {a b c : It} (h1 : bet c b = false) (h2 : bet a b = true) : bet c a = false := by
  simp only [bet, Bool.or_eq_true, Bool.and_eq_true, decide_eq_true_eq, beq_iff_eq, Bool.or_eq_false_iff, Bool.and_eq_false_imp, decide_eq_false_iff_not] at *
  omega
theorem bet_self (a : It) : bet a a = false := by
  simp [bet]
theorem bet_tot {a b : It} (h1 : bet a b = false) (h2 : bet b a = false) : a = b := by
  obtain ⟨a1, a2⟩ := a
  obtain ⟨b1, b2⟩ := b
  simp only [bet, beq_iff_eq, Bool.or_eq_false_iff, Bool.and_eq_false_imp, decide_eq_false_iff_not] at *
  ext <;> simp <;> omega

theorem swapL_len (L : List It) (i j : Nat) : (swapL L i j).length = L.length := by simp [swapL]
theorem atL_swap {L : List It} {i j : Nat} (hi : i < L.length) (hj : j < L.length) (k : Nat) : atL (swapL L i j) k = if k = j then atL L i else if k = i then atL L j else atL L k := by
  unfold swapL atL
  by_cases h1 : k = j
  · subst h1
    simp [hj]
  · rw [if_neg h1]
    by_cases h2 : k = i
    · subst h2
      simp [List.getD, Ne.symm h1, hi]
    · rw [if_neg h2]
      simp [List.getD, Ne.symm h1, Ne.symm h2]
theorem atL_get {L : List It} {i : Nat} (hi : i < L.length) : L[i] = atL L i := by simp [atL, hi]
theorem swapL_perm {L : List It} {i j : Nat} (hi : i < L.length) (hj : j < L.length) : (swapL L i j).Perm L := by
  have h := Array.swap_perm (xs := L.toArray) (i := i) (j := j) (by simpa using hi) (by simpa using hj)
  have e : (L.toArray.swap i j (by simpa using hi) (by simpa using hj)).toList = swapL L i j := by
    unfold swapL
    rw [Array.swap_def]
    simp [atL, hi, hj]
  rw [Array.perm_iff_toList_perm, e] at h
  exact h
theorem heap_top {L : List It} {n : Nat} (H : HeapN L n) : ∀ (k : Nat), k < n → bet (atL L k) (atL L 0) = false := by
  intro k
  induction k using Nat.strongRecOn with
  | _ k ih =>
    intro hk
    by_cases h : k = 0
    · subst h
      exact bet_self _
    · exact bet_ntrans (H k (by omega) hk) (ih (par k) (by unfold par; omega) (by unfold par; omega))

/-- on the way down at i, from i0 -/
structure DownW (L : List It) (n i0 i : Nat) : Prop where
  a : ∀ k, 0 < k → k < n → par k ≠ i → (k ≠ i ∨ i ≠ i0) → okAt L k
  b : ∀ k, 0 < k → k < n → par k = i → 0 < i → bet (atL L k) (atL L (par i)) = false
  le : i0 ≤ i
/-- on the way up at j -/
structure UpW (L : List It) (n j : Nat) : Prop where
  a : ∀ k, 0 < k → k < n → k ≠ j → okAt L k
  b : ∀ k, 0 < k → k < n → par k = j → 0 < j → bet (atL L k) (atL L (par j)) = false

theorem UpW.done {L : List It} {n j : Nat} (H : UpW L n j) (h : j = 0 ∨ okAt L j) : HeapN L n := by
  intro k h0 h1
  by_cases e : k = j
  · subst e
    rcases h with h | h
    · omega
    · exact h
  · exact H.a k h0 h1 e
theorem UpW.step {L : List It} {n j : Nat} (H : UpW L n j) (hj0 : 0 < j) (hjn : j < n) (hn : n ≤ L.length) (hb : bet (atL L j) (atL L (par j)) = true) : UpW (swapL L (par j) j) n (par j) := by
  have hp : par j < j := by unfold par; omega
  have sw := atL_swap (L := L) (i := par j) (j := j) (by omega) (by omega)
  constructor
  · intro k h0 h1 hk
    unfold okAt
    rw [sw k, sw (par k)]
    have hpk : par k < k := by unfold par; omega
    by_cases e : k = j
    · subst e
      rw [if_pos rfl, if_neg (by omega), if_pos rfl]
      exact bet_asym hb
    · rw [if_neg e, if_neg hk]
      by_cases e2 : par k = j
      · rw [if_pos e2]
        exact H.b k h0 h1 e2 hj0
      · rw [if_neg e2]
        by_cases e3 : par k = par j
        · rw [if_pos e3]
          have := H.a k h0 h1 e
          unfold okAt at this
          rw [e3] at this
          exact bet_step this hb
        · rw [if_neg e3]
          exact H.a k h0 h1 e
  · intro k h0 h1 hk hi
    have hpp : par (par j) < par j := by unfold par at *; omega
    rw [sw k, sw (par (par j)), if_neg (show ¬ par (par j) = j by omega), if_neg (show ¬ par (par j) = par j by omega)]
    have hq : bet (atL L (par j)) (atL L (par (par j))) = false := H.a (par j) hi (by omega) (by omega)
    by_cases e : k = j
    · rw [if_pos e]
      exact hq
    · have hkp : k ≠ par j := by
        intro e2
        rw [e2] at hk
        omega
      rw [if_neg e, if_neg hkp]
      have := H.a k h0 h1 e
      unfold okAt at this
      rw [hk] at this
      exact bet_ntrans this hq
/-- the way down ends: where nothing moved all but i0 is well -/
theorem DownW.done {L : List It} {n i0 i : Nat} (H : DownW L n i0 i) (h : ∀ k, 0 < k → k < n → par k = i → okAt L k) : (i ≠ i0 → HeapN L n) ∧ (i = i0 → UpW L n i0) := by
  constructor
  · intro hi k h0 h1
    by_cases e : par k = i
    · exact h k h0 h1 e
    · exact H.a k h0 h1 e (Or.inr hi)
  · intro hi
    subst hi
    refine ⟨fun k h0 h1 hk => ?_, H.b⟩
    by_cases e : par k = i
    · exact h k h0 h1 e
    · exact H.a k h0 h1 e (Or.inl hk)
/-- one step down to the better child j -/
theorem DownW.step {L : List It} {n i0 i j : Nat} (H : DownW L n i0 i) (hjn : j < n) (hn : n ≤ L.length) (hj : 0 < j) (hp : par j = i) (hb : bet (atL L j) (atL L i) = true) (hc : ∀ k, 0 < k → k < n → par k = i → bet (atL L k) (atL L j) = false) : DownW (swapL L i j) n i0 j := by
  have hij : i < j := by rw [← hp]; unfold par; omega
  have sw := atL_swap (L := L) (i := i) (j := j) (by omega) (by omega)
  have le := H.le
  refine ⟨fun k h0 h1 hk _ => ?_, fun k h0 h1 hk _ => ?_, by omega⟩
  · unfold okAt
    rw [sw k, sw (par k)]
    have hpk : par k < k := by unfold par; omega
    rw [if_neg hk]
    by_cases e : k = j
    · subst e
      rw [if_pos rfl, if_pos hp]
      exact bet_asym hb
    · rw [if_neg e]
      by_cases e2 : k = i
      · subst e2
        rw [if_pos rfl, if_neg (by omega)]
        exact H.b j hj hjn hp h0
      · rw [if_neg e2]
        by_cases e3 : par k = i
        · rw [if_pos e3]
          exact hc k h0 h1 e3
        · rw [if_neg e3]
          exact H.a k h0 h1 e3 (Or.inl e2)
  · have hpk : par k < k := by unfold par; omega
    rw [sw k, sw (par j), if_neg (by omega), if_neg (by omega), hp, if_neg (by omega), if_pos rfl]
    have := H.a k h0 h1 (by omega) (Or.inl (by omega))
    unfold okAt at this
    rw [hk] at this
    exact this

/-- one item changed: the way down begins at it -/
theorem down_begin {L L' : List It} {n i : Nat} (H : HeapN L n) (hs : ∀ k, k < n → k ≠ i → atL L' k = atL L k) (hi : i < n) : DownW L' n i i := by
  refine ⟨fun k h0 h1 hk hk2 => ?_, fun k h0 h1 hk hi0 => ?_, Nat.le_refl _⟩
  · have hpk : par k < k := by unfold par; omega
    have : k ≠ i := by omega
    unfold okAt
    rw [hs k h1 this, hs (par k) (by omega) hk]
    exact H k h0 h1
  · have hpk : par k < k := by unfold par; omega
    have hpi : par i < i := by unfold par; omega
    rw [hs k h1 (by omega), hs (par i) (by omega) (by omega)]
    have h2 := H k h0 h1
    unfold okAt at h2
    rw [hk] at h2
    exact bet_ntrans h2 (H i hi0 hi)
/-- one item more, at the end -/
theorem up_begin {L : List It} {x : It} (H : HeapN L L.length) : UpW (L ++ [x]) (L.length + 1) L.length := by
  have e : ∀ k, k < L.length → atL (L ++ [x]) k = atL L k := fun k hk => by simp [atL, List.getD, List.getElem?_append_left hk]
  refine ⟨fun k h0 h1 hk => ?_, fun k h0 h1 hk _ => ?_⟩
  · have hpk : par k < k := by unfold par; omega
    unfold okAt
    rw [e k (by omega), e (par k) (by omega)]
    exact H k h0 (by omega)
  · have hpk : par k < k := by unfold par; omega
    omega
end Go.Proofs.Ytkdegjjenbbjfaa.Ev
