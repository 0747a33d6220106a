/- SORTING: a row parted by one of its numbers. Conditions: the row stands (Arr). -/
import Derived.Test.YtipckkeaoncjiaaSrtG
namespace Go.Proofs.Ytipckkeaoncjiaa.Ev
open Go

/-- parted: below i less than the first, behind j not -/
def Pt (a e i j : Nat) (g : Nat → Int) : Prop := (∀ k, a < k → k < i → g k < g a) ∧ (∀ k, j < k → k < e → g a ≤ g k)
/-- parted by the number at m -/
def Prt (a e m : Nat) (g : Nat → Int) : Prop := (∀ k, a ≤ k → k < m → g k ≤ g m) ∧ (∀ k, m < k → k < e → g m ≤ g k)
theorem Pt.ext {a e i j i' j' : Nat} {g : Nat → Int} (H : Pt a e i j g) (hi : ∀ k, i ≤ k → k < i' → g k < g a) (hj : ∀ k, j' < k → k ≤ j → g a ≤ g k) : Pt a e i' j' g :=
  ⟨fun k h1 h2 => by
    by_cases h : k < i
    · exact H.1 k h1 h
    · exact hi k (by omega) h2, fun k h1 h2 => by
    by_cases h : j < k
    · exact H.2 k h h2
    · exact hj k h1 (by omega)⟩
theorem Pt.fin {a e i j : Nat} {g : Nat → Int} (H : Pt a e i j g) (ha : a ≤ j) (hi : i = j + 1) : Prt a e j (swp g j a) := by
  subst hi
  refine ⟨fun k h1 h2 => ?_, fun k h1 h2 => ?_⟩
  · rw [swp_i]
    by_cases hk : k = a
    · subst hk
      rw [swp_j]
      exact Int.le_of_lt (H.1 j h2 (by omega))
    · rw [swp_o g (by omega) hk]
      exact Int.le_of_lt (H.1 k (by omega) (by omega))
  · rw [swp_i, swp_o g (by omega) (by omega)]
    exact H.2 k h1 h2
theorem Pt.swap {a e i j : Nat} {g : Nat → Int} (H : Pt a e i j g) (ha : a < i) (hij : i < j) (hi : g a ≤ g i) (hj : g j < g a) : Pt a e (i + 1) (j - 1) (swp g i j) := by
  refine ⟨fun k h1 h2 => ?_, fun k h1 h2 => ?_⟩
  · rw [swp_o g (k := a) (by omega) (by omega)]
    by_cases hk : k = i
    · subst hk
      rw [swp_i]
      exact hj
    · rw [swp_o g hk (by omega)]
      exact H.1 k h1 (by omega)
  · rw [swp_o g (k := a) (by omega) (by omega)]
    by_cases hk : k = j
    · subst hk
      rw [swp_j]
      exact hi
    · rw [swp_o g (by omega) hk]
      exact H.2 k (by omega) h2
section
variable {b n a e c : Nat} {sp : List Value} {K : Value → Heap → Prop}
theorem fin84 {h : Heap} {j : Nat} {g : Nat → Int} (A : Arr .u32 h b n g sp) (hj : j < n) (ha : a ≤ j) (hK : ∀ h', Arr .u32 h' b n (swp g j a) sp → Only [b] h h' → K (.tuple #[.int .i64 (j : Int), .bool false]) h') :
    F84.wk21 (some ⟨b, 0, none⟩) n c a j h K := by
  unfold F84.wk21 F84.Jk21
  refine A.ld rfl (by omega) (A.ld rfl (by omega) (A.sto rfl (by omega) fun k1 A1 O1 => ⟨rfl, rfl, A1.sto rfl (by omega) fun k2 A2 O2 => ?_⟩))
  exact hK k2 A2 (O1.trans O2 (by simp))
theorem out84 (he : e ≤ n) (hn : n ≤ LB / 4) :
    ∀ (d i j : Nat) (g : Nat → Int) (h : Heap), Arr .u32 h b n g sp → a < i → i ≤ j + 1 → j < e → j + 1 ≤ i + d → Pt a e i j g →
      (∀ h' m g', Arr .u32 h' b n g' sp → Swp a e g g' → Prt a e m g' → a ≤ m → m < e → Only [b] h h' → K (.tuple #[.int .i64 (m : Int), .bool false]) h') → F84.wL13 (d + 1) (some ⟨b, 0, none⟩) n c a i j h K := by
  intro d
  have hLB : LB = 140737488355328 := rfl
  induction d using Nat.strongRecOn with
  | _ d ih =>
    intro i j g h A ha hij hj hd P hK
    unfold F84.wL13 F84.JL13
    refine ⟨_, up84b A (by omega) (by omega) hn (j + 1 - i) i (by omega) fun i' h1 h2 h3 h4 => ?_⟩
    unfold F84.wk15 F84.Jk15
    refine ⟨_, dn84b A he (by omega) hn (by omega) (j + 1 - i') j hj (by omega) fun j' h5 h6 h7 h8 => ?_⟩
    have P' := P.ext h3 h7
    unfold F84.wk17 F84.Jk17
    refine bcase_of (fun hc => ?_) fun hc => ?_
    · simp only [decide_eq_true_eq] at hc
      exact fin84 A (by omega) (by omega) fun h' A' O' => hK h' j' _ A' (Swp.one g (by omega) (by omega) (by omega) (by omega)) (P'.fin (by omega) (by omega)) (by omega) (by omega) O'
    · simp only [decide_eq_false_iff_not] at hc
      have q1 : g a ≤ g i' := by rcases h4 with h | h
                                 · omega
                                 · exact h
      have q2 : g j' < g a := by rcases h8 with h | h
                                 · omega
                                 · exact h
      have hne : i' ≠ j' := fun e => by subst e; omega
      refine A.ld rfl (by omega) (A.ld rfl (by omega) (A.sto rfl (by omega) fun k1 A1 O1 => ⟨rfl, rfl, A1.sto rfl (by omega) fun k2 A2 O2 => ?_⟩))
      have A2' : Arr .u32 k2 b n (swp g i' j') sp := A2
      rw [show IntKind.wrap .i64 ((i' : Int) + 1) = ((i' + 1 : Nat) : Int) by rw [wrapN (by omega) (by omega)]; omega, show IntKind.wrap .i64 ((j' : Int) - 1) = ((j' - 1 : Nat) : Int) by rw [wrapN (by omega) (by omega)]; omega]
      cases d with
      | zero => omega
      | succ d =>
        exact ih d (by omega) (i' + 1) (j' - 1) _ k2 A2' (by omega) (by omega) (by omega) (by omega) (P'.swap (by omega) (by omega) q1 q2) fun h' m g' A' S' R' m1 m2 O' => hK h' m g' A' ((Swp.one g (by omega) (by omega) (by omega) (by omega)).trans S') R' m1 m2 ((O1.trans O2 (by simp)).trans O' (by simp))
theorem part84 {h : Heap} {g : Nat → Int} {pv : Nat} (A : Arr .u32 h b n g sp) (he : e ≤ n) (ha : a + 1 < e) (hp : a ≤ pv) (hp' : pv < e) (hn : n ≤ LB / 4)
    (hK : ∀ h' m g' f, Arr .u32 h' b n g' sp → Swp a e g g' → Prt a e m g' → a ≤ m → m < e → Only [b] h h' → K (.tuple #[.int .i64 (m : Int), .bool f]) h') :
    CallsH Try.prog 84 [.slice (some ⟨b, 0, none⟩) n c, .int .i64 a, .int .i64 e, .int .i64 pv] h K := by
  refine F84.spec _ _ _ _ _ _ h K ?_
  have hLB : LB = 140737488355328 := rfl
  unfold F84.w F84.J0
  refine A.ld rfl (by omega) (A.ld rfl (by omega) (A.sto rfl (by omega) fun k1 A1 O1 => ⟨rfl, rfl, A1.sto rfl (by omega) fun k2 A2 O2 => ?_⟩))
  have A2' : Arr .u32 k2 b n (swp g a pv) sp := A2
  clear A2
  have S0 : Swp a e g (swp g a pv) := Swp.one g (by omega) (by omega) (by omega) (by omega)
  have O12 := O1.trans O2 (by simp)
  rw [show IntKind.wrap .i64 ((a : Int) + 1) = ((a + 1 : Nat) : Int) by rw [wrapN (by omega) (by omega)]; omega, show IntKind.wrap .i64 ((e : Int) - 1) = ((e - 1 : Nat) : Int) by rw [wrapN (by omega) (by omega)]; omega]
  generalize swp g a pv = g2 at A2' S0
  unfold F84.wk3 F84.Jk3
  refine ⟨_, up84a A2' (by omega) (by omega) hn (e - 1 + 1 - (a + 1)) (a + 1) (by omega) fun i' h1 h2 h3 h4 => ?_⟩
  unfold F84.wk5 F84.Jk5
  refine ⟨_, dn84a A2' he (by omega) hn (by omega) (e - 1 + 1 - i') (e - 1) (by omega) (by omega) fun j' h5 h6 h7 h8 => ?_⟩
  have P' : Pt a e i' j' g2 := Pt.ext (i := a + 1) (j := e - 1) ⟨fun k _ _ => by omega, fun k _ _ => by omega⟩ h3 h7
  unfold F84.wk7 F84.Jk7
  refine bcase_of (fun hc => ?_) fun hc => ?_
  · simp only [decide_eq_true_eq] at hc
    refine A2'.ld rfl (by omega) (A2'.ld rfl (by omega) (A2'.sto rfl (by omega) fun k3 A3 O3 => ⟨rfl, rfl, A3.sto rfl (by omega) fun k4 A4 O4 => ?_⟩))
    exact hK k4 j' (swp g2 j' a) true A4 (S0.trans (Swp.one g2 (by omega) (by omega) (by omega) (by omega))) (P'.fin (by omega) (by omega)) (by omega) (by omega) ((O12.trans O3 (by simp)).trans O4 (by simp))
  · simp only [decide_eq_false_iff_not] at hc
    have q1 : g2 a ≤ g2 i' := by rcases h4 with h | h
                                 · omega
                                 · exact h
    have q2 : g2 j' < g2 a := by rcases h8 with h | h
                                 · omega
                                 · exact h
    have hne : i' ≠ j' := fun e => by subst e; omega
    refine A2'.ld rfl (by omega) (A2'.ld rfl (by omega) (A2'.sto rfl (by omega) fun k3 A3 O3 => ⟨rfl, rfl, A3.sto rfl (by omega) fun k4 A4 O4 => ?_⟩))
    have A4' : Arr .u32 k4 b n (swp g2 i' j') sp := A4
    rw [show IntKind.wrap .i64 ((i' : Int) + 1) = ((i' + 1 : Nat) : Int) by rw [wrapN (by omega) (by omega)]; omega, show IntKind.wrap .i64 ((j' : Int) - 1) = ((j' - 1 : Nat) : Int) by rw [wrapN (by omega) (by omega)]; omega]
    unfold F84.wk13 F84.Jk13
    exact ⟨_, out84 he hn e (i' + 1) (j' - 1) _ k4 A4' (by omega) (by omega) (by omega) (by omega) (P'.swap (by omega) (by omega) q1 q2) fun h' m g' A' S' R' m1 m2 O' => hK h' m g' false A' ((S0.trans (Swp.one g2 (by omega) (by omega) (by omega) (by omega))).trans S') R' m1 m2 (((O12.trans O3 (by simp)).trans O4 (by simp)).trans O' (by simp))⟩
end
end Go.Proofs.Ytipckkeaoncjiaa.Ev
