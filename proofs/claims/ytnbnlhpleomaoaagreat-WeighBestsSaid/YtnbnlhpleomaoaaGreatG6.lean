/- PART 6 OF WHAT THE LAW WeighBests STANDS ON: SrtH4, SrtI4, SrtJ4, SrtK4, IterA, IterB4, IterC4, IterD4, WghB4, LwF4, LawA4, EvP, LawC4, LwG4, LawB4, LwH4, LawD4, LogF4. Conditions: each part names its own. -/
import Derived.Test.YtnbnlhpleomaoaaGreatG5
import Derived.RangeFuncGives
import Derived.RangeFuncLeaves
import Derived.RangeFuncOwn
import Derived.Maps.OwnIn
import Derived.Maps.AppendAt
import Derived.WalkKit
import Derived.RegionIn
import Derived.LoopNIn
import Derived.LoopIn
import Derived.TacticsInMore
import Derived.Shelf.Abstract
/- SORTING: a row parted by one of its numbers. Conditions: the row stands (Arr). -/
namespace Go.Proofs.YtnbnlhpleomaoaaGreat.Ev
open Go
/-- parted: below i less than the first, behind j not -/
def Pt (a e i j : Nat) (g : Nat → Int) : Prop := (∀ k, a < k → k < i → g k < g a) ∧ (∀ k, j < k → k < e → g a ≤ g k)
/-- parted by the number at m -/
def Prt (a e m : Nat) (g : Nat → Int) : Prop := (∀ k, a ≤ k → k < m → g k ≤ g m) ∧ (∀ k, m < k → k < e → g m ≤ g k)
theorem Pt.ext {a e i j i' j' : Nat} {g : Nat → Int} (H : Pt a e i j g) (hi : ∀ k, i ≤ k → k < i' → g k < g a) (hj : ∀ k, j' < k → k ≤ j → g a ≤ g k) : Pt a e i' j' g :=
  ⟨fun k h1 h2 => by
    by_cases h : k < i
    · exact H.1 k h1 h
    · exact hi k (by omega) h2, fun k h1 h2 => by
    by_cases h : j < k
    · exact H.2 k h h2
    · exact hj k h1 (by omega)⟩
theorem Pt.fin {a e i j : Nat} {g : Nat → Int} (H : Pt a e i j g) (ha : a ≤ j) (hi : i = j + 1) : Prt a e j (swp g j a) := by
  subst hi
  refine ⟨fun k h1 h2 => ?_, fun k h1 h2 => ?_⟩
  · rw [swp_i]
    by_cases hk : k = a
    · subst hk
      rw [swp_j]
      exact Int.le_of_lt (H.1 j h2 (by omega))
    · rw [swp_o g (by omega) hk]
      exact Int.le_of_lt (H.1 k (by omega) (by omega))
  · rw [swp_i, swp_o g (by omega) (by omega)]
    exact H.2 k h1 h2
theorem Pt.swap {a e i j : Nat} {g : Nat → Int} (H : Pt a e i j g) (ha : a < i) (hij : i < j) (hi : g a ≤ g i) (hj : g j < g a) : Pt a e (i + 1) (j - 1) (swp g i j) := by
  refine ⟨fun k h1 h2 => ?_, fun k h1 h2 => ?_⟩
  · rw [swp_o g (k := a) (by omega) (by omega)]
    by_cases hk : k = i
    · subst hk
      rw [swp_i]
      exact hj
    · rw [swp_o g hk (by omega)]
      exact H.1 k h1 (by omega)
  · rw [swp_o g (k := a) (by omega) (by omega)]
    by_cases hk : k = j
    · subst hk
      rw [swp_j]
      exact hi
    · rw [swp_o g (by omega) hk]
      exact H.2 k (by omega) h2
section
variable {b n a e c : Nat} {sp : List Value} {K : Value → Heap → Prop}
theorem fin84 {h : Heap} {j : Nat} {g : Nat → Int} (A : Arr .u8 h b n g sp) (hj : j < n) (ha : a ≤ j) (hK : ∀ h', Arr .u8 h' b n (swp g j a) sp → Only [b] h h' → K (.tuple #[.int .i64 (j : Int), .bool false]) h') :
    F103.wk21 (some ⟨b, 0, none⟩) n c a j h K := by
  unfold F103.wk21 F103.Jk21
  refine A.ld rfl (by omega) (A.ld rfl (by omega) (A.sto rfl (by omega) fun k1 A1 O1 => ⟨rfl, rfl, A1.sto rfl (by omega) fun k2 A2 O2 => ?_⟩))
  exact hK k2 A2 (O1.trans O2 (by simp))
theorem out84 (he : e ≤ n) (hn : n ≤ LB / 4) :
    ∀ (d i j : Nat) (g : Nat → Int) (h : Heap), Arr .u8 h b n g sp → a < i → i ≤ j + 1 → j < e → j + 1 ≤ i + d → Pt a e i j g →
      (∀ h' m g', Arr .u8 h' b n g' sp → Swp a e g g' → Prt a e m g' → a ≤ m → m < e → Only [b] h h' → K (.tuple #[.int .i64 (m : Int), .bool false]) h') → F103.wL13 (d + 1) (some ⟨b, 0, none⟩) n c a i j h K := by
  intro d
  have hLB : LB = 140737488355328 := rfl
  induction d using Nat.strongRecOn with
  | _ d ih =>
    intro i j g h A ha hij hj hd P hK
    unfold F103.wL13 F103.JL13
    refine ⟨_, up84b A (by omega) (by omega) hn (j + 1 - i) i (by omega) fun i' h1 h2 h3 h4 => ?_⟩
    unfold F103.wk15 F103.Jk15
    refine ⟨_, dn84b A he (by omega) hn (by omega) (j + 1 - i') j hj (by omega) fun j' h5 h6 h7 h8 => ?_⟩
    have P' := P.ext h3 h7
    unfold F103.wk17 F103.Jk17
    refine bcase_of (fun hc => ?_) fun hc => ?_
    · simp only [decide_eq_true_eq] at hc
      exact fin84 A (by omega) (by omega) fun h' A' O' => hK h' j' _ A' (Swp.one g (by omega) (by omega) (by omega) (by omega)) (P'.fin (by omega) (by omega)) (by omega) (by omega) O'
    · simp only [decide_eq_false_iff_not] at hc
      have q1 : g a ≤ g i' := by rcases h4 with h | h
                                 · omega
                                 · exact h
      have q2 : g j' < g a := by rcases h8 with h | h
                                 · omega
                                 · exact h
      have hne : i' ≠ j' := fun e => by subst e; omega
      refine A.ld rfl (by omega) (A.ld rfl (by omega) (A.sto rfl (by omega) fun k1 A1 O1 => ⟨rfl, rfl, A1.sto rfl (by omega) fun k2 A2 O2 => ?_⟩))
      have A2' : Arr .u8 k2 b n (swp g i' j') sp := A2
      rw [show IntKind.wrap .i64 ((i' : Int) + 1) = ((i' + 1 : Nat) : Int) by rw [wrapN (by omega) (by omega)]; omega, show IntKind.wrap .i64 ((j' : Int) - 1) = ((j' - 1 : Nat) : Int) by rw [wrapN (by omega) (by omega)]; omega]
      cases d with
      | zero => omega
      | succ d =>
        exact ih d (by omega) (i' + 1) (j' - 1) _ k2 A2' (by omega) (by omega) (by omega) (by omega) (P'.swap (by omega) (by omega) q1 q2) fun h' m g' A' S' R' m1 m2 O' => hK h' m g' A' ((Swp.one g (by omega) (by omega) (by omega) (by omega)).trans S') R' m1 m2 ((O1.trans O2 (by simp)).trans O' (by simp))
theorem part84 {h : Heap} {g : Nat → Int} {pv : Nat} (A : Arr .u8 h b n g sp) (he : e ≤ n) (ha : a + 1 < e) (hp : a ≤ pv) (hp' : pv < e) (hn : n ≤ LB / 4)
    (hK : ∀ h' m g' f, Arr .u8 h' b n g' sp → Swp a e g g' → Prt a e m g' → a ≤ m → m < e → Only [b] h h' → K (.tuple #[.int .i64 (m : Int), .bool f]) h') :
    CallsH Tryz.prog 103 [.slice (some ⟨b, 0, none⟩) n c, .int .i64 a, .int .i64 e, .int .i64 pv] h K := by
  refine F103.spec _ _ _ _ _ _ h K ?_
  have hLB : LB = 140737488355328 := rfl
  unfold F103.w F103.J0
  refine A.ld rfl (by omega) (A.ld rfl (by omega) (A.sto rfl (by omega) fun k1 A1 O1 => ⟨rfl, rfl, A1.sto rfl (by omega) fun k2 A2 O2 => ?_⟩))
  have A2' : Arr .u8 k2 b n (swp g a pv) sp := A2
  clear A2
  have S0 : Swp a e g (swp g a pv) := Swp.one g (by omega) (by omega) (by omega) (by omega)
  have O12 := O1.trans O2 (by simp)
  rw [show IntKind.wrap .i64 ((a : Int) + 1) = ((a + 1 : Nat) : Int) by rw [wrapN (by omega) (by omega)]; omega, show IntKind.wrap .i64 ((e : Int) - 1) = ((e - 1 : Nat) : Int) by rw [wrapN (by omega) (by omega)]; omega]
  generalize swp g a pv = g2 at A2' S0
  unfold F103.wk3 F103.Jk3
  refine ⟨_, up84a A2' (by omega) (by omega) hn (e - 1 + 1 - (a + 1)) (a + 1) (by omega) fun i' h1 h2 h3 h4 => ?_⟩
  unfold F103.wk5 F103.Jk5
  refine ⟨_, dn84a A2' he (by omega) hn (by omega) (e - 1 + 1 - i') (e - 1) (by omega) (by omega) fun j' h5 h6 h7 h8 => ?_⟩
  have P' : Pt a e i' j' g2 := Pt.ext (i := a + 1) (j := e - 1) ⟨fun k _ _ => by omega, fun k _ _ => by omega⟩ h3 h7
  unfold F103.wk7 F103.Jk7
  refine bcase_of (fun hc => ?_) fun hc => ?_
  · simp only [decide_eq_true_eq] at hc
    refine A2'.ld rfl (by omega) (A2'.ld rfl (by omega) (A2'.sto rfl (by omega) fun k3 A3 O3 => ⟨rfl, rfl, A3.sto rfl (by omega) fun k4 A4 O4 => ?_⟩))
    exact hK k4 j' (swp g2 j' a) true A4 (S0.trans (Swp.one g2 (by omega) (by omega) (by omega) (by omega))) (P'.fin (by omega) (by omega)) (by omega) (by omega) ((O12.trans O3 (by simp)).trans O4 (by simp))
  · simp only [decide_eq_false_iff_not] at hc
    have q1 : g2 a ≤ g2 i' := by rcases h4 with h | h
                                 · omega
                                 · exact h
    have q2 : g2 j' < g2 a := by rcases h8 with h | h
                                 · omega
                                 · exact h
    have hne : i' ≠ j' := fun e => by subst e; omega
    refine A2'.ld rfl (by omega) (A2'.ld rfl (by omega) (A2'.sto rfl (by omega) fun k3 A3 O3 => ⟨rfl, rfl, A3.sto rfl (by omega) fun k4 A4 O4 => ?_⟩))
    have A4' : Arr .u8 k4 b n (swp g2 i' j') sp := A4
    rw [show IntKind.wrap .i64 ((i' : Int) + 1) = ((i' + 1 : Nat) : Int) by rw [wrapN (by omega) (by omega)]; omega, show IntKind.wrap .i64 ((j' : Int) - 1) = ((j' - 1 : Nat) : Int) by rw [wrapN (by omega) (by omega)]; omega]
    unfold F103.wk13 F103.Jk13
    exact ⟨_, out84 he hn e (i' + 1) (j' - 1) _ k4 A4' (by omega) (by omega) (by omega) (by omega) (P'.swap (by omega) (by omega) q1 q2) fun h' m g' A' S' R' m1 m2 O' => hK h' m g' false A' ((S0.trans (Swp.one g2 (by omega) (by omega) (by omega) (by omega))).trans S') R' m1 m2 (((O12.trans O3 (by simp)).trans O4 (by simp)).trans O' (by simp))⟩
end
end Go.Proofs.YtnbnlhpleomaoaaGreat.Ev
/- SORTING: what is equal put first; a number chosen to part by. Conditions: the row stands (Arr). -/
namespace Go.Proofs.YtnbnlhpleomaoaaGreat.Ev
open Go
/-- parted: below i not more than the first, behind j more -/
def Pe (a e i j : Nat) (g : Nat → Int) : Prop := (∀ k, a < k → k < i → g k ≤ g a) ∧ (∀ k, j < k → k < e → g a < g k)
theorem Pe.ext {a e i j i' j' : Nat} {g : Nat → Int} (H : Pe a e i j g) (hi : ∀ k, i ≤ k → k < i' → g k ≤ g a) (hj : ∀ k, j' < k → k ≤ j → g a < g k) : Pe a e i' j' g :=
  ⟨fun k h1 h2 => by
    by_cases h : k < i
    · exact H.1 k h1 h
    · exact hi k (by omega) h2, fun k h1 h2 => by
    by_cases h : j < k
    · exact H.2 k h h2
    · exact hj k h1 (by omega)⟩
theorem Pe.swap {a e i j : Nat} {g : Nat → Int} (H : Pe a e i j g) (ha : a < i) (hij : i < j) (hi : g a < g i) (hj : g j ≤ g a) : Pe a e (i + 1) (j - 1) (swp g i j) := by
  refine ⟨fun k h1 h2 => ?_, fun k h1 h2 => ?_⟩
  · rw [swp_o g (k := a) (by omega) (by omega)]
    by_cases hk : k = i
    · subst hk
      rw [swp_i]
      exact hj
    · rw [swp_o g hk (by omega)]
      exact H.1 k h1 (by omega)
  · rw [swp_o g (k := a) (by omega) (by omega)]
    by_cases hk : k = j
    · subst hk
      rw [swp_j]
      exact hi
    · rw [swp_o g (by omega) hk]
      exact H.2 k (by omega) h2
section
variable {b n a e c : Nat} {sp : List Value} {K : Value → Heap → Prop}
theorem out83 (he : e ≤ n) (hn : n ≤ LB / 4) (v : Int) :
    ∀ (d i j : Nat) (g : Nat → Int) (h : Heap), Arr .u8 h b n g sp → a < i → i ≤ j + 1 → j < e → j + 1 ≤ i + d → Pe a e i j g → g a = v →
      (∀ h' m g', Arr .u8 h' b n g' sp → Swp a e g g' → (∀ k, a ≤ k → k < m → g' k ≤ v) → (∀ k, m ≤ k → k < e → v < g' k) → a < m → m ≤ e → Only [b] h h' → K (.int .i64 (m : Int)) h') → F102.wL3 (d + 1) (some ⟨b, 0, none⟩) n c a i j h K := by
  intro d
  have hLB : LB = 140737488355328 := rfl
  induction d using Nat.strongRecOn with
  | _ d ih =>
    intro i j g h A ha hij hj hd P hv hK
    unfold F102.wL3 F102.JL3
    refine ⟨_, up83 A (by omega) (by omega) hn (j + 1 - i) i (by omega) fun i' h1 h2 h3 h4 => ?_⟩
    unfold F102.wk5 F102.Jk5
    refine ⟨_, dn83 A he (by omega) hn (by omega) (j + 1 - i') j hj (by omega) fun j' h5 h6 h7 h8 => ?_⟩
    have P' := P.ext h3 h7
    unfold F102.wk7 F102.Jk7
    refine bcase_of (fun hc => ?_) fun hc => ?_
    · simp only [decide_eq_true_eq] at hc
      refine hK h i' g A (.refl g) (fun k k1 k2 => ?_) (fun k k1 k2 => ?_) (by omega) (by omega) (Only.refl _ _)
      · by_cases hk : k = a
        · subst hk; omega
        · have := P'.1 k (by omega) k2
          omega
      · have := P'.2 k (by omega) k2
        omega
    · simp only [decide_eq_false_iff_not] at hc
      have q1 : g a < g i' := by rcases h4 with h | h
                                 · omega
                                 · exact h
      have q2 : g j' ≤ g a := by rcases h8 with h | h
                                 · omega
                                 · exact h
      have hne : i' ≠ j' := fun e => by subst e; omega
      refine A.ld rfl (by omega) (A.ld rfl (by omega) (A.sto rfl (by omega) fun k1 A1 O1 => ⟨rfl, rfl, A1.sto rfl (by omega) fun k2 A2 O2 => ?_⟩))
      have A2' : Arr .u8 k2 b n (swp g i' j') sp := A2
      rw [show IntKind.wrap .i64 ((i' : Int) + 1) = ((i' + 1 : Nat) : Int) by rw [wrapN (by omega) (by omega)]; omega, show IntKind.wrap .i64 ((j' : Int) - 1) = ((j' - 1 : Nat) : Int) by rw [wrapN (by omega) (by omega)]; omega]
      cases d with
      | zero => omega
      | succ d =>
        exact ih d (by omega) (i' + 1) (j' - 1) _ k2 A2' (by omega) (by omega) (by omega) (by omega) (P'.swap (by omega) (by omega) q1 q2) (by rw [swp_o g (by omega) (by omega)]; exact hv)
          fun h' m g' A' S' R1 R2 m1 m2 O' => hK h' m g' A' ((Swp.one g (by omega) (by omega) (by omega) (by omega)).trans S') R1 R2 m1 m2 ((O1.trans O2 (by simp)).trans O' (by simp))
theorem part83 {h : Heap} {g : Nat → Int} {pv : Nat} (A : Arr .u8 h b n g sp) (he : e ≤ n) (ha : a + 1 < e) (hp : a ≤ pv) (hp' : pv < e) (hn : n ≤ LB / 4)
    (hK : ∀ h' m g', Arr .u8 h' b n g' sp → Swp a e g g' → (∀ k, a ≤ k → k < m → g' k ≤ g pv) → (∀ k, m ≤ k → k < e → g pv < g' k) → a < m → m ≤ e → Only [b] h h' → K (.int .i64 (m : Int)) h') :
    CallsH Tryz.prog 102 [.slice (some ⟨b, 0, none⟩) n c, .int .i64 a, .int .i64 e, .int .i64 pv] h K := by
  refine F102.spec _ _ _ _ _ _ h K ?_
  have hLB : LB = 140737488355328 := rfl
  unfold F102.w F102.J0
  refine A.ld rfl (by omega) (A.ld rfl (by omega) (A.sto rfl (by omega) fun k1 A1 O1 => ⟨rfl, rfl, A1.sto rfl (by omega) fun k2 A2 O2 => ?_⟩))
  have A2' : Arr .u8 k2 b n (swp g a pv) sp := A2
  clear A2
  have S0 : Swp a e g (swp g a pv) := Swp.one g (by omega) (by omega) (by omega) (by omega)
  have O12 := O1.trans O2 (by simp)
  rw [show IntKind.wrap .i64 ((a : Int) + 1) = ((a + 1 : Nat) : Int) by rw [wrapN (by omega) (by omega)]; omega, show IntKind.wrap .i64 ((e : Int) - 1) = ((e - 1 : Nat) : Int) by rw [wrapN (by omega) (by omega)]; omega]
  have hv := swp_i g a pv
  generalize swp g a pv = g2 at A2' S0 hv
  unfold F102.wk3 F102.Jk3
  exact ⟨_, out83 he hn (g pv) e (a + 1) (e - 1) g2 k2 A2' (by omega) (by omega) (by omega) (by omega) ⟨fun k _ _ => by omega, fun k _ _ => by omega⟩ hv
    fun h' m g' A' S' R1 R2 m1 m2 O' => hK h' m g' A' (S0.trans S') R1 R2 m1 m2 (O12.trans O' (by simp))⟩

variable {h : Heap} {B : Nat} {s : Int} {g : Nat → Int}
theorem ord103 {i j : Nat} (A : Arr .u8 h b n g sp) (AB : At h B [.int .i64 s]) (hB : B ≠ b) (hi : i < n) (hj : j < n)
    (hK : ∀ h' s' p q, (p = i ∧ q = j) ∨ (p = j ∧ q = i) → Arr .u8 h' b n g sp → At h' B [.int .i64 s'] → Only [B] h h' → K (.tuple #[.int .i64 ((p : Nat) : Int), .int .i64 ((q : Nat) : Int)]) h') :
    CallsH Tryz.prog 128 [.slice (some ⟨b, 0, none⟩) n c, .int .i64 i, .int .i64 j, .pointer (some ⟨B, 0, none⟩)] h K := by
  refine F128.spec _ _ _ _ _ _ h K ?_
  unfold F128.w F128.J0
  refine A.ld rfl (by omega) (A.ld rfl (by omega) (less82 ?_))
  rw [ldB_some]
  refine bcase_of (fun hl => ?_) fun hl => ?_
  · rw [show rd h ⟨B, 0, none⟩ = some (.int .i64 s) from AB.rd 0, ldI_some, add_mk]
    refine stK_at AB (by simp) rfl fun h1 A1 O1 _ => ?_
    exact hK h1 _ j i (.inr ⟨rfl, rfl⟩) (A.only O1 (by simpa using Ne.symm hB)) A1 O1
  · exact hK h s i j (.inl ⟨rfl, rfl⟩) A AB (Only.refl _ _)
theorem med97 {i j k : Nat} (A : Arr .u8 h b n g sp) (AB : At h B [.int .i64 s]) (hB : B ≠ b) (hi : i < n) (hj : j < n) (hk : k < n)
    (hK : ∀ h' s' m, m = i ∨ m = j ∨ m = k → Arr .u8 h' b n g sp → At h' B [.int .i64 s'] → Only [B] h h' → K (.int .i64 ((m : Nat) : Int)) h') :
    CallsH Tryz.prog 119 [.slice (some ⟨b, 0, none⟩) n c, .int .i64 i, .int .i64 j, .int .i64 k, .pointer (some ⟨B, 0, none⟩)] h K := by
  refine F119.spec _ _ _ _ _ _ _ h K ?_
  unfold F119.w F119.J0
  refine ord103 A AB hB hi hj fun h1 s1 p q hpq A1 AB1 O1 => ⟨_, _, rfl, ?_⟩
  refine ord103 A1 AB1 hB (by omega) hk fun h2 s2 p2 q2 hpq2 A2 AB2 O2 => ⟨_, _, rfl, ?_⟩
  refine ord103 A2 AB2 hB (by omega) (by omega) fun h3 s3 p3 q3 hpq3 A3 AB3 O3 => ⟨_, _, rfl, ?_⟩
  exact hK h3 s3 q3 (by omega) A3 AB3 ((O1.trans O2 (by simp)).trans O3 (by simp))
theorem adj96 {i : Nat} (A : Arr .u8 h b n g sp) (AB : At h B [.int .i64 s]) (hB : B ≠ b) (hi : 1 ≤ i) (hi' : i + 1 < n) (hn : n ≤ LB / 4)
    (hK : ∀ h' s' m, i ≤ m + 1 → m ≤ i + 1 → Arr .u8 h' b n g sp → At h' B [.int .i64 s'] → Only [B] h h' → K (.int .i64 ((m : Nat) : Int)) h') :
    CallsH Tryz.prog 118 [.slice (some ⟨b, 0, none⟩) n c, .int .i64 i, .pointer (some ⟨B, 0, none⟩)] h K := by
  refine F118.spec _ _ _ _ _ h K ?_
  have hLB : LB = 140737488355328 := rfl
  unfold F118.w F118.J0
  rw [show IntKind.wrap .i64 ((i : Int) + 1) = ((i + 1 : Nat) : Int) by rw [wrapN (by omega) (by omega)]; omega, show IntKind.wrap .i64 ((i : Int) - 1) = ((i - 1 : Nat) : Int) by rw [wrapN (by omega) (by omega)]; omega]
  exact med97 A AB hB (by omega) (by omega) (by omega) fun h' s' m hm A' AB' O' => by rw [ldI_some]; exact hK h' s' m (by omega) (by omega) A' AB' O'
theorem piv79 (A : Arr .u8 h b n g sp) (he : e ≤ n) (ha : a + 12 < e) (hn : n ≤ LB / 4)
    (hK : ∀ h' pv (t : Int), Arr .u8 h' b n g sp → a ≤ pv → pv < e → Only [] h h' → K (.tuple #[.int .i64 ((pv : Nat) : Int), .int .i64 t]) h') :
    CallsH Tryz.prog 99 [.slice (some ⟨b, 0, none⟩) n c, .int .i64 a, .int .i64 e] h K := by
  refine F99.spec _ _ _ _ _ h K ?_
  have hLB : LB = 140737488355328 := rfl
  obtain ⟨d, rfl⟩ : ∃ d, e = a + d := ⟨e - a, by omega⟩
  unfold F99.w F99.J0
  refine newK_at fun h1 A1 O1 z1 => ⟨by decide, by decide, by decide, ?_⟩
  rw [show IntKind.wrap .i64 (((a + d : Nat) : Int) - (a : Int)) = (d : Int) by rw [wrapN (by omega) (by omega)]; omega]
  have w0 : IntKind.wrap .i64 (Int.tdiv (d : Int) 4) = ((d / 4 : Nat) : Int) := by rw [Int.tdiv_eq_ediv_of_nonneg (by omega), wrapN (by omega) (by omega)]; omega
  have wm : ∀ q : Nat, q ≤ 3 → IntKind.wrap .i64 ((a : Int) + IntKind.wrap .i64 (((d / 4 : Nat) : Int) * (q : Int))) = ((a + d / 4 * q : Nat) : Int) := fun q hq => by
    have : d / 4 * q ≤ d := by
      have := Nat.mul_le_mul_left (d / 4) hq
      omega
    have e1 : ((d / 4 : Nat) : Int) * (q : Int) = ((d / 4 * q : Nat) : Int) := by simp
    rw [e1]
    generalize d / 4 * q = z at this
    rw [wrapN (x := (z : Int)) (by omega) (by omega), wrapN (by omega) (by omega)]
    omega
  have w1 := wm 1 (by omega)
  have w2 := wm 2 (by omega)
  have w3 := wm 3 (by omega)
  rw [w0, show (1 : Int) = ((1 : Nat) : Int) from rfl, show (2 : Int) = ((2 : Nat) : Int) from rfl, show (3 : Int) = ((3 : Nat) : Int) from rfl, w1, w2, w3]
  rw [show decide ((d : Int) ≥ 8) = true by simp; omega, bcase_true]
  have A0 : Arr .u8 h1 b n g sp := A.only O1 (by simp)
  have hb := A.lt
  have fin : ∀ (h2 : Heap) (s : Int) (m : Nat), a ≤ m → m < a + d → Arr .u8 h2 b n g sp → At h2 h.size [.int .i64 s] → Only [] h h2 → F99.wk12 ⟨h.size, 0, none⟩ m h2 K := by
    intro h2 s m m1 m2 A2 AB2 O2
    unfold F99.wk12 F99.Jk12
    rw [show rd h2 ⟨h.size, 0, none⟩ = some (.int .i64 s) from AB2.rd 0, ldI_some]
    refine bcase_of (fun _ => hK h2 m _ A2 m1 m2 O2) fun _ => bcase_of (fun _ => hK h2 m _ A2 m1 m2 O2) fun _ => hK h2 m _ A2 m1 m2 O2
  have k11 : ∀ (h2 : Heap) (s : Int) (i j k : Nat), a ≤ i → i < a + d → a ≤ j → j < a + d → a ≤ k → k < a + d → Arr .u8 h2 b n g sp → At h2 h.size [.int .i64 s] → Only [] h h2 → F99.wk11 (some ⟨b, 0, none⟩) n c ⟨h.size, 0, none⟩ i j k h2 K := by
    intro h2 s i j k i1 i2 j1 j2 kk1 kk2 A2 AB2 O2
    unfold F99.wk11 F99.Jk11
    refine med97 A2 AB2 (by omega) (by omega) (by omega) (by omega) fun h3 s3 m hm A3 AB3 O3 => ?_
    rw [ldI_some]
    exact fin h3 s3 m (by omega) (by omega) A3 AB3 (O2.trans O3 (by simp))
  refine bcase_of (fun hc => ?_) fun hc => ?_
  · simp only [decide_eq_true_eq] at hc
    refine adj96 A0 A1 (by omega) (by omega) (by omega) hn fun h2 s2 m2 p1 p2 A2 AB2 O2 => ?_
    rw [ldI_some]
    refine adj96 A2 AB2 (by omega) (by omega) (by omega) hn fun h3 s3 m3 p3 p4 A3 AB3 O3 => ?_
    rw [ldI_some]
    refine adj96 A3 AB3 (by omega) (by omega) (by omega) hn fun h4 s4 m4 p5 p6 A4 AB4 O4 => ?_
    rw [ldI_some]
    exact k11 h4 s4 m2 m3 m4 (by omega) (by omega) (by omega) (by omega) (by omega) (by omega) A4 AB4 (((O1.trans O2 (by simp)).trans O3 (by simp)).trans O4 (by simp))
  · exact k11 h1 0 _ _ _ (by omega) (by omega) (by omega) (by omega) (by omega) (by omega) A0 A1 O1
end
end Go.Proofs.YtnbnlhpleomaoaaGreat.Ev
/- SORTING: a row that is nearly in order (a few insertions). Conditions: the row stands (Arr); what lies ahead is not more. -/
namespace Go.Proofs.YtnbnlhpleomaoaaGreat.Ev
open Go
/-- what lies ahead of the part is not more than what is in it -/
def Lb (a e : Nat) (g : Nat → Int) : Prop := a = 0 ∨ ∀ k, a ≤ k → k < e → g (a - 1) ≤ g k
theorem Lb.swp {a e : Nat} {g g' : Nat → Int} (H : Lb a e g) (S : Swp a e g g') : Lb a e g' := by
  rcases H with h | h
  · exact .inl h
  · by_cases h0 : a = 0
    · exact .inl h0
    · refine .inr ?_
      rw [S.out (k := a - 1) (.inl (by omega))]
      exact S.all h
theorem Srt.snoc {a i : Nat} {g : Nat → Int} (H : Srt a i g) (h : g (i - 1) ≤ g i) (ha : a < i) : Srt a (i + 1) g := fun p q h1 h2 h3 => by
  by_cases hq : q = i
  · subst hq
    by_cases hp : p = q - 1
    · subst hp; exact h
    · exact Int.le_trans (H p (q - 1) h1 (by omega) (by omega)) h
  · exact H p q h1 h2 (by omega)
theorem Srt.out {a i e : Nat} {g g' : Nat → Int} (H : Srt a i g) (S : Swp i e g g') : Srt a i g' := fun p q h1 h2 h3 => by
  rw [S.out (k := p) (.inl (by omega)), S.out (k := q) (.inl h3)]
  exact H p q h1 h2 h3
section
variable {b n a e c : Nat} {sp : List Value} {K : Value → Heap → Prop} {bk : (Option Addr) → Nat → Nat → Int → Int → Int → Int → Heap → Prop}
theorem right81 {s : Int} (he : e ≤ n) (hn : n ≤ LB / 4) {i : Nat} : ∀ (d j : Nat) (g : Nat → Int) (h : Heap), Arr .u8 h b n g sp → i < j → j + d = e →
    (∀ h' g', Arr .u8 h' b n g' sp → Swp i e g g' → Only [b] h h' → bk (some ⟨b, 0, none⟩) n c a e i (IntKind.wrap .i64 (s + 1)) h') → F101.wL20 bk (d + 1) (some ⟨b, 0, none⟩) n c a e i s j h K := by
  intro d
  have hLB : LB = 140737488355328 := rfl
  induction d with
  | zero =>
    intro j g h A hj hd hK
    unfold F101.wL20 F101.JL20
    rw [show decide ((j : Int) < (e : Int)) = false by simp; omega]
    exact hK h g A (.refl g) (Only.refl _ _)
  | succ d ih =>
    intro j g h A hj hd hK
    unfold F101.wL20 F101.JL20
    rw [show decide ((j : Int) < (e : Int)) = true by simp; omega, bcase_true, show IntKind.wrap .i64 ((j : Int) - 1) = ((j - 1 : Nat) : Int) by rw [wrapN (by omega) (by omega)]; omega]
    refine A.ld rfl (by omega) (A.ld rfl (by omega) (less82 ?_))
    rw [ldB_some]
    refine bcase_of (fun hl => ?_) fun hl => ?_
    · exact hK h g A (.refl g) (Only.refl _ _)
    · refine A.ld rfl (by omega) (A.ld rfl (by omega) (A.sto rfl (by omega) fun k1 A1 O1 => ⟨rfl, rfl, rfl, A1.sto rfl (by omega) fun k2 A2 O2 => ?_⟩))
      have A2' : Arr .u8 k2 b n (swp g j (j - 1)) sp := A2
      rw [show IntKind.wrap .i64 ((j : Int) + 1) = ((j + 1 : Nat) : Int) by rw [wrapN (by omega) (by omega)]; omega]
      exact ih (j + 1) _ k2 A2' (by omega) (by omega) fun h' g' A' S' O' => hK h' g' A' ((Swp.one g (by omega) (by omega) (by omega) (by omega)).trans S') ((O1.trans O2 (by simp)).trans O' (by simp))
theorem k18_81 {s : Int} (he : e ≤ n) (hn : n ≤ LB / 4) {i : Nat} {g : Nat → Int} {h : Heap} (A : Arr .u8 h b n g sp) (hi : i < e)
    (hK : ∀ h' g', Arr .u8 h' b n g' sp → Swp i e g g' → Only [b] h h' → bk (some ⟨b, 0, none⟩) n c a e i (IntKind.wrap .i64 (s + 1)) h') : F101.wk18 bk (some ⟨b, 0, none⟩) n c a e i s h K := by
  have hLB : LB = 140737488355328 := rfl
  unfold F101.wk18 F101.Jk18
  rw [show IntKind.wrap .i64 ((e : Int) - (i : Int)) = ((e - i : Nat) : Int) by rw [wrapN (by omega) (by omega)]; omega, show IntKind.wrap .i64 ((i : Int) + 1) = ((i + 1 : Nat) : Int) by rw [wrapN (by omega) (by omega)]; omega]
  refine bcase_of (fun hc => ?_) fun hc => ?_
  · unfold F101.wk20 F101.Jk20
    exact ⟨_, right81 he hn (e - (i + 1)) (i + 1) g h A (by omega) (by omega) hK⟩
  · exact hK h g A (.refl g) (Only.refl _ _)
theorem left81 {s : Int} (he : e ≤ n) (hn : n ≤ LB / 4) {i : Nat} (hi : i < e) (hai : a < i) : ∀ (j : Nat) (g : Nat → Int) (h : Heap), Arr .u8 h b n g sp → Lb a e g → Ins a (i - 1) j g → a ≤ j → j ≤ i - 1 →
    (∀ h' g', Arr .u8 h' b n g' sp → Swp a e g g' → Srt a i g' → Only [b] h h' → bk (some ⟨b, 0, none⟩) n c a e i (IntKind.wrap .i64 (s + 1)) h') → F101.wL14 bk (j + 1) (some ⟨b, 0, none⟩) n c a e i s j h K := by
  intro j
  have hLB : LB = 140737488355328 := rfl
  induction j with
  | zero =>
    intro g h A L I ha hj hK
    unfold F101.wL14 F101.JL14
    rw [show decide (((0 : Nat) : Int) ≥ 1) = false by simp]
    have R := I.stop (.inl (by omega))
    rw [show i - 1 + 1 = i by omega] at R
    exact k18_81 he hn A hi fun h' g' A' S' O' => hK h' g' A' (S'.mono (by omega) (Nat.le_refl _)) (R.out S') O'
  | succ j ih =>
    intro g h A L I ha hj hK
    unfold F101.wL14 F101.JL14
    rw [show decide (((j + 1 : Nat) : Int) ≥ 1) = true by simp; omega, bcase_true, show IntKind.wrap .i64 (((j + 1 : Nat) : Int) - 1) = (j : Int) by rw [wrapN (by omega) (by omega)]; omega]
    refine A.ld rfl (by omega) (A.ld rfl (by omega) (less82 ?_))
    rw [ldB_some]
    refine bcase_of (fun hl => ?_) fun hl => ?_
    · simp only [Bool.not_eq_true', decide_eq_false_iff_not] at hl
      have R := I.stop (.inr (by rw [show j + 1 - 1 = j by omega]; omega))
      rw [show i - 1 + 1 = i by omega] at R
      exact k18_81 he hn A hi fun h' g' A' S' O' => hK h' g' A' (S'.mono (by omega) (Nat.le_refl _)) (R.out S') O'
    · simp only [Bool.not_eq_false', decide_eq_true_eq] at hl
      have haj : a ≤ j := by
        rcases Nat.lt_or_ge j a with h | h
        · have : a = j + 1 := by omega
          rcases L with L | L
          · omega
          · have := L (j + 1) (by omega) (by omega)
            rw [show a - 1 = j by omega] at this
            omega
        · exact h
      refine A.ld rfl (by omega) (A.ld rfl (by omega) (A.sto rfl (by omega) fun k1 A1 O1 => ⟨rfl, rfl, rfl, A1.sto rfl (by omega) fun k2 A2 O2 => ?_⟩))
      have A2' : Arr .u8 k2 b n (swp g (j + 1) j) sp := A2
      have S2 : Swp a e g (swp g (j + 1) j) := Swp.one g (by omega) (by omega) (by omega) (by omega)
      have I2 := I.step (by omega) hj (by rw [show j + 1 - 1 = j by omega]; exact hl)
      rw [show j + 1 - 1 = j by omega] at I2
      exact ih _ k2 A2' (L.swp S2) I2 (by omega) (by omega) fun h' g' A' S' R' O' => hK h' g' A' (S2.trans S') R' ((O1.trans O2 (by simp)).trans O' (by simp))
theorem up81 {s : Int} {g : Nat → Int} {h : Heap} (A : Arr .u8 h b n g sp) (he : e ≤ n) (hn : n ≤ LB / 4) : ∀ (d i : Nat), i + d = e → a < i → Srt a i g →
    (∀ i', a < i' → i' ≤ e → Srt a i' g → (i' = e ∨ g i' < g (i' - 1)) → F101.wk7 bk (some ⟨b, 0, none⟩) n c a e i' s h K) → F101.wL5 bk (d + 1) (some ⟨b, 0, none⟩) n c a e i s h K := by
  intro d
  have hLB : LB = 140737488355328 := rfl
  induction d with
  | zero =>
    intro i hd ha R hK
    unfold F101.wL5 F101.JL5
    rw [show decide ((i : Int) < (e : Int)) = false by simp; omega]
    exact hK i ha (by omega) R (.inl (by omega))
  | succ d ih =>
    intro i hd ha R hK
    unfold F101.wL5 F101.JL5
    rw [show decide ((i : Int) < (e : Int)) = true by simp; omega, bcase_true, show IntKind.wrap .i64 ((i : Int) - 1) = ((i - 1 : Nat) : Int) by rw [wrapN (by omega) (by omega)]; omega]
    refine A.ld rfl (by omega) (A.ld rfl (by omega) (less82 ?_))
    rw [ldB_some]
    refine bcase_of (fun hl => ?_) fun hl => ?_
    · simp only [Bool.not_eq_true', decide_eq_false_iff_not] at hl
      rw [show IntKind.wrap .i64 ((i : Int) + 1) = ((i + 1 : Nat) : Int) by rw [wrapN (by omega) (by omega)]; omega]
      exact ih (i + 1) (by omega) (by omega) (R.snoc (by omega) ha) hK
    · simp only [Bool.not_eq_false', decide_eq_true_eq] at hl
      exact hK i ha (by omega) R (.inr hl)
theorem out81 (he : e ≤ n) (hn : n ≤ LB / 4) : ∀ (t s i : Nat) (g : Nat → Int) (h : Heap), Arr .u8 h b n g sp → Lb a e g → s + t = 5 → a < i → i ≤ e → Srt a i g →
    (∀ h' g' r, Arr .u8 h' b n g' sp → Swp a e g g' → (r = true → Srt a e g') → Only [b] h h' → K (.bool r) h') → F101.wL3 (t + 1) (some ⟨b, 0, none⟩) n c a e i s h K := by
  intro t
  have hLB : LB = 140737488355328 := rfl
  induction t with
  | zero =>
    intro s i g h A L hs ha hi R hK
    unfold F101.wL3 F101.JL3
    rw [show decide ((s : Int) < 5) = false by simp; omega]
    exact hK h g false A (.refl g) (by simp) (Only.refl _ _)
  | succ t ih =>
    intro s i g h A L hs ha hi R hK
    unfold F101.wL3 F101.JL3
    rw [show decide ((s : Int) < 5) = true by simp; omega, bcase_true]
    unfold F101.wk5 F101.Jk5
    refine ⟨_, up81 A he hn (e - i) i (by omega) ha R fun i' ha' hi' R' hx => ?_⟩
    unfold F101.wk7 F101.Jk7
    refine bcase_of (fun hc => ?_) fun hc => ?_
    · simp only [beq_iff_eq] at hc
      have : i' = e := by omega
      subst this
      exact hK h g true A (.refl g) (fun _ => R') (Only.refl _ _)
    · have hne : i' ≠ e := fun e' => by subst e'; simp at hc
      have hlt : g i' < g (i' - 1) := by rcases hx with h | h
                                         · omega
                                         · exact h
      refine bcase_of (fun hc => ?_) fun hc => ?_
      · exact hK h g false A (.refl g) (by simp) (Only.refl _ _)
      · rw [show IntKind.wrap .i64 ((i' : Int) - 1) = ((i' - 1 : Nat) : Int) by rw [wrapN (by omega) (by omega)]; omega]
        refine A.ld rfl (by omega) (A.ld rfl (by omega) (A.sto rfl (by omega) fun k1 A1 O1 => ⟨rfl, rfl, rfl, A1.sto rfl (by omega) fun k2 A2 O2 => ?_⟩))
        have A2' : Arr .u8 k2 b n (swp g i' (i' - 1)) sp := A2
        have S2 : Swp a e g (swp g i' (i' - 1)) := Swp.one g (by omega) (by omega) (by omega) (by omega)
        have O12 := O1.trans O2 (by simp)
        have again : ∀ h' g', Arr .u8 h' b n g' sp → Swp a e (swp g i' (i' - 1)) g' → Srt a i' g' → Only [b] k2 h' → F101.wL3 (t + 1) (some ⟨b, 0, none⟩) n c a e i' (IntKind.wrap .i64 ((s : Int) + 1)) h' K := by
          intro h' g' A' S' R'' O'
          rw [show IntKind.wrap .i64 ((s : Int) + 1) = ((s + 1 : Nat) : Int) by rw [wrapN (by omega) (by omega)]; omega]
          exact ih (s + 1) i' g' h' A' (L.swp (S2.trans S')) (by omega) ha' hi' R'' fun h'' g'' r A'' S'' R3 O'' => hK h'' g'' r A'' ((S2.trans S').trans S'') R3 ((O12.trans O' (by simp)).trans O'' (by simp))
        rw [show IntKind.wrap .i64 ((i' : Int) - (a : Int)) = ((i' - a : Nat) : Int) by rw [wrapN (by omega) (by omega)]; omega]
        refine bcase_of (fun hc => ?_) fun hc => ?_
        · unfold F101.wk14 F101.Jk14
          refine ⟨_, left81 he hn (by omega) ha' (i' - 1) _ k2 A2' (L.swp S2) (Ins.start fun p q h1 h2 h3 => ?_) (by omega) (by omega) again⟩
          rw [swp_o g (by omega) (by omega), swp_o g (by omega) (by omega)]
          exact R' p q h1 h2 (by omega)
        · simp only [decide_eq_false_iff_not] at hc
          exact k18_81 he hn A2' (by omega) fun h' g' A' S' O' => again h' g' A' (S'.mono (by omega) (Nat.le_refl _)) (Srt.single g' (by omega)) O'
theorem near81 {h : Heap} {g : Nat → Int} (A : Arr .u8 h b n g sp) (L : Lb a e g) (he : e ≤ n) (ha : a < e) (hn : n ≤ LB / 4)
    (hK : ∀ h' g' r, Arr .u8 h' b n g' sp → Swp a e g g' → (r = true → Srt a e g') → Only [b] h h' → K (.bool r) h') : CallsH Tryz.prog 101 [.slice (some ⟨b, 0, none⟩) n c, .int .i64 a, .int .i64 e] h K := by
  refine F101.spec _ _ _ _ _ h K ?_
  have hLB : LB = 140737488355328 := rfl
  unfold F101.w F101.J0 F101.wk3 F101.Jk3
  rw [show IntKind.wrap .i64 ((a : Int) + 1) = ((a + 1 : Nat) : Int) by rw [wrapN (by omega) (by omega)]; omega]
  exact ⟨_, out81 he hn 5 0 (a + 1) g h A L (by omega) (by omega) (by omega) (Srt.single g (by omega)) hK⟩
end
end Go.Proofs.YtnbnlhpleomaoaaGreat.Ev
/- SORTING (slices.Sort): the whole. Conditions: the row stands (Arr). -/
namespace Go.Proofs.YtnbnlhpleomaoaaGreat.Ev
open Go
theorem Prt.left {a e m : Nat} {g g' : Nat → Int} (H : Prt a e m g) (S : Swp a m g g') : Prt a e m g' := by
  refine ⟨?_, fun k h1 h2 => ?_⟩
  · rw [S.out (k := m) (.inr (Nat.le_refl _))]
    exact S.all (Q := fun v => v ≤ g m) H.1
  · rw [S.out (k := m) (.inr (Nat.le_refl _)), S.out (k := k) (.inr (by omega))]
    exact H.2 k h1 h2
theorem Prt.right {a e m : Nat} {g g' : Nat → Int} (H : Prt a e m g) (S : Swp (m + 1) e g g') : Prt a e m g' := by
  refine ⟨fun k h1 h2 => ?_, fun k h1 h2 => ?_⟩
  · rw [S.out (k := m) (.inl (by omega)), S.out (k := k) (.inl (by omega))]
    exact H.1 k h1 h2
  · rw [S.out (k := m) (.inl (by omega))]
    exact S.all (Q := fun v => g m ≤ v) (fun k h1 h2 => H.2 k (by omega) h2) k (by omega) h2
theorem Prt.join {a e m : Nat} {g : Nat → Int} (H : Prt a e m g) (L : Srt a m g) (R : Srt (m + 1) e g) : Srt a e g := fun p q h1 h2 h3 => by
  by_cases hq : q < m
  · exact L p q h1 h2 hq
  · by_cases hp : m < p
    · exact R p q (by omega) h2 h3
    · have e1 : g p ≤ g m := by
        by_cases h : p = m
        · subst h; exact Int.le_refl _
        · exact H.1 p h1 (by omega)
      have e2 : g m ≤ g q := by
        by_cases h : q = m
        · subst h; exact Int.le_refl _
        · exact H.2 q (by omega) h3
      exact Int.le_trans e1 e2
theorem Lb.sub {a e m : Nat} {g : Nat → Int} (H : Lb a e g) (h : m ≤ e) : Lb a m g := by
  rcases H with H | H
  · exact .inl H
  · exact .inr fun k h1 h2 => H k h1 (by omega)
theorem Srt.leftOut {a m e : Nat} {g g' : Nat → Int} (H : Srt a m g) (S : Swp (m + 1) e g g') : Srt a m g' := fun p q h1 h2 h3 => by
  rw [S.out (k := p) (.inl (by omega)), S.out (k := q) (.inl (by omega))]
  exact H p q h1 h2 h3
theorem Srt.rightOut {a m e : Nat} {g g' : Nat → Int} (H : Srt (m + 1) e g) (S : Swp a m g g') : Srt (m + 1) e g' := fun p q h1 h2 h3 => by
  rw [S.out (k := p) (.inr (by omega)), S.out (k := q) (.inr (by omega))]
  exact H p q h1 h2 h3
theorem loop67 {b n c : Nat} {sp : List Value} (hn : n ≤ LB / 4) :
    ∀ (d a e : Nat) (lim : Int) (x8 x9 : Bool) (g : Nat → Int) (h : Heap) (K : Value → Heap → Prop), e ≤ a + d → a ≤ e → e ≤ n → Arr .u8 h b n g sp → Lb a e g →
      (∀ h' g', Arr .u8 h' b n g' sp → Srt a e g' → Swp a e g g' → Only [b] h h' → K (.tuple #[]) h') → F82.wL2 (d + 1) (some ⟨b, 0, none⟩) n c a e lim x8 x9 h K := by
  intro d
  have hLB : LB = 140737488355328 := rfl
  induction d with
  | zero =>
    intro a e lim x8 x9 g h K hd hae he A L hK
    unfold F82.wL2 F82.JL2
    rw [show IntKind.wrap .i64 ((e : Int) - (a : Int)) = ((e - a : Nat) : Int) by rw [wrapN (by omega) (by omega)]; omega, show decide (((e - a : Nat) : Int) ≤ 12) = true by simp; omega, bcase_true]
    exact ins76 A he (by omega) (by omega) fun h' g' A' R' S' O' => ⟨rfl, hK h' g' A' R' S' O'⟩
  | succ d ih =>
    intro a e lim x8 x9 g h K hd hae he A L hK
    unfold F82.wL2 F82.JL2
    rw [show IntKind.wrap .i64 ((e : Int) - (a : Int)) = ((e - a : Nat) : Int) by rw [wrapN (by omega) (by omega)]; omega]
    refine bcase_of (fun _ => ?_) fun hc => ?_
    · exact ins76 A he (by omega) (by omega) fun h' g' A' R' S' O' => ⟨rfl, hK h' g' A' R' S' O'⟩
    simp only [decide_eq_false_iff_not] at hc
    refine bcase_of (fun _ => ?_) fun _ => ?_
    · exact heap77 A he hae hn fun h' g' A' R' S' O' => ⟨rfl, hK h' g' A' R' S' O'⟩
    have call : ∀ (a e : Nat) (lim : Int) (g : Nat → Int) (h : Heap) (K : Value → Heap → Prop), e ≤ a + d → a ≤ e → e ≤ n → Arr .u8 h b n g sp → Lb a e g →
        (∀ h' g', Arr .u8 h' b n g' sp → Srt a e g' → Swp a e g g' → Only [b] h h' → K (.tuple #[]) h') → CallsH Tryz.prog 82 [.slice (some ⟨b, 0, none⟩) n c, .int .i64 a, .int .i64 e, .int .i64 lim] h K :=
      fun a e lim g h K h1 h2 h3 A L hK => F82.spec _ _ _ _ _ _ h K ⟨d + 1, ih a e lim true true g h K h1 h2 h3 A L hK⟩
    have k84 : ∀ (lim x10 : Int) (x8 : Bool) (m : Nat) (f : Bool) (g1 : Nat → Int) (h1 : Heap), Arr .u8 h1 b n g1 sp → Lb a e g1 → Prt a e m g1 → a ≤ m → m < e →
        (∀ h' g', Arr .u8 h' b n g' sp → Srt a e g' → Swp a e g1 g' → Only [b] h1 h' → K (.tuple #[]) h') →
        (∃ n13 : Int, ∃ b14 : Bool, (Value.tuple #[.int .i64 (m : Int), .bool f]) = (.tuple #[(.int .i64 n13), (.bool b14)]) ∧ ((8 : Int) ≠ 0 ∧ bcase (decide ((IntKind.wrap .i64 (n13 - a)) < (IntKind.wrap .i64 (e - n13)))) (CallsH Tryz.prog 82 [(.slice (some ⟨b, 0, none⟩) n c), (.int .i64 a), (.int .i64 n13), (.int .i64 lim)] h1 (fun v15 h16 => (v15 = (.tuple #[]) ∧ F82.wL2 (d + 1) (some ⟨b, 0, none⟩) n c (IntKind.wrap .i64 (n13 + (1 : Int))) e lim (decide ((IntKind.wrap .i64 (n13 - a)) ≥ (IntKind.wrap .i64 (Int.tdiv x10 (8 : Int))))) b14 h16 K))) (CallsH Tryz.prog 82 [(.slice (some ⟨b, 0, none⟩) n c), (.int .i64 (IntKind.wrap .i64 (n13 + (1 : Int)))), (.int .i64 e), (.int .i64 lim)] h1 (fun v17 h18 => (v17 = (.tuple #[]) ∧ F82.wL2 (d + 1) (some ⟨b, 0, none⟩) n c a n13 lim (decide ((IntKind.wrap .i64 (e - n13)) ≥ (IntKind.wrap .i64 (Int.tdiv x10 (8 : Int))))) b14 h18 K))))) := by
      intro lim x10 x8 m f g1 h1 A1 L1 P m1 m2 hK1
      refine ⟨_, _, rfl, by decide, ?_⟩
      rw [show IntKind.wrap .i64 ((m : Int) + 1) = ((m + 1 : Nat) : Int) by rw [wrapN (by omega) (by omega)]; omega]
      refine bcase_of (fun _ => ?_) fun _ => ?_
      · refine call a m lim g1 h1 _ (by omega) m1 (by omega) A1 (L1.sub (by omega)) fun h2 g2 A2 R2 S2 O2 => ⟨rfl, ?_⟩
        have P2 := P.left S2
        refine ih (m + 1) e lim _ _ g2 h2 K (by omega) (by omega) he A2 (.inr fun k k1 k2 => by rw [show m + 1 - 1 = m by omega]; exact P2.2 k (by omega) k2) fun h3 g3 A3 R3 S3 O3 => ?_
        exact hK1 h3 g3 A3 ((P2.right S3).join (R2.leftOut S3) R3) ((S2.mono (Nat.le_refl _) (by omega)).trans (S3.mono (by omega) (Nat.le_refl _))) (O2.trans O3 (by simp))
      · refine call (m + 1) e lim g1 h1 _ (by omega) (by omega) he A1 (.inr fun k k1 k2 => by rw [show m + 1 - 1 = m by omega]; exact P.2 k (by omega) k2) fun h2 g2 A2 R2 S2 O2 => ⟨rfl, ?_⟩
        have P2 := P.right S2
        refine ih a m lim _ _ g2 h2 K (by omega) m1 (by omega) A2 ((L1.swp (S2.mono (by omega) (Nat.le_refl _))).sub (by omega)) fun h3 g3 A3 R3 S3 O3 => ?_
        exact hK1 h3 g3 A3 ((P2.left S3).join R3 (R2.rightOut S3)) ((S2.mono (by omega) (Nat.le_refl _)).trans (S3.mono (Nat.le_refl _) (by omega))) (O2.trans O3 (by simp))
    have k17 : ∀ (lim x10 : Int) (x8 x9 : Bool) (pv : Nat) (g1 : Nat → Int) (h1 : Heap), Arr .u8 h1 b n g1 sp → Lb a e g1 → a ≤ pv → pv < e →
        (∀ h' g', Arr .u8 h' b n g' sp → Srt a e g' → Swp a e g1 g' → Only [b] h1 h' → K (.tuple #[]) h') →
        F82.wk17 (fun x0p x0l x0c x1 x2 x3 x8 x9 h => F82.wL2 (d + 1) x0p x0l x0c x1 x2 x3 x8 x9 h K) (some ⟨b, 0, none⟩) n c a e lim x8 x9 x10 pv h1 K := by
      intro lim x10 x8 x9 pv g1 h1 A1 L1 p1 p2 hK1
      unfold F82.wk17 F82.Jk17
      refine bcase_of (fun ha => ?_) fun ha => ?_
      · simp only [decide_eq_true_eq] at ha
        rw [show IntKind.wrap .i64 ((a : Int) - 1) = ((a - 1 : Nat) : Int) by rw [wrapN (by omega) (by omega)]; omega]
        refine A1.ld rfl (by omega) (A1.ld rfl (by omega) (less82 ?_))
        rw [ldB_some]
        refine bcase_of (fun hl => ?_) fun hl => ?_
        · simp only [Bool.not_eq_true', decide_eq_false_iff_not] at hl
          refine part83 A1 he (by omega) p1 p2 hn fun h2 m g2 A2 S2 R1 R2 m1 m2 O2 => ?_
          rw [ldI_some]
          have lo : ∀ k, a ≤ k → k < e → g1 pv ≤ g2 k := by
            have L2 := L1.swp S2
            rcases L2 with h0 | L2
            · omega
            · intro k k1 k2
              have := L2 k k1 k2
              rw [S2.out (k := a - 1) (.inl (by omega))] at this
              omega
          refine ih m e lim _ _ g2 h2 K (by omega) m2 he A2 (.inr fun k k1 k2 => Int.le_trans (R1 (m - 1) (by omega) (by omega)) (Int.le_of_lt (R2 k k1 k2))) fun h3 g3 A3 R3 S3 O3 => ?_
          refine hK1 h3 g3 A3 (fun p q h1 h2 h3 => ?_) (S2.trans (S3.mono (by omega) (Nat.le_refl _))) (O2.trans O3 (by simp))
          by_cases hp : m ≤ p
          · exact R3 p q hp h2 h3
          · have e1 : g3 p ≤ g1 pv := by rw [S3.out (k := p) (.inl (by omega))]; exact R1 p h1 (by omega)
            have e2 : g1 pv ≤ g3 q := by
              by_cases hq : m ≤ q
              · exact Int.le_of_lt (S3.all (Q := fun v => g1 pv < v) (fun k k1 k2 => R2 k k1 k2) q hq h3)
              · rw [S3.out (k := q) (.inl (by omega))]; exact lo q (by omega) h3
            exact Int.le_trans e1 e2
        · exact part84 A1 he (by omega) p1 p2 hn fun h2 m g2 f A2 S2 P2 m1 m2 O2 => k84 lim x10 x8 m f g2 h2 A2 (L1.swp S2) P2 m1 m2 fun h' g' A' R' S' O' => hK1 h' g' A' R' (S2.trans S') (O2.trans O' (by simp))
      · exact part84 A1 he (by omega) p1 p2 hn fun h2 m g2 f A2 S2 P2 m1 m2 O2 => k84 lim x10 x8 m f g2 h2 A2 (L1.swp S2) P2 m1 m2 fun h' g' A' R' S' O' => hK1 h' g' A' R' (S2.trans S') (O2.trans O' (by simp))
    have k10 : ∀ (lim x10 : Int) (x8 x9 : Bool) (g1 : Nat → Int) (h1 : Heap), Arr .u8 h1 b n g1 sp → Lb a e g1 →
        (∀ h' g', Arr .u8 h' b n g' sp → Srt a e g' → Swp a e g1 g' → Only [b] h1 h' → K (.tuple #[]) h') →
        F82.wk10 (fun x0p x0l x0c x1 x2 x3 x8 x9 h => F82.wL2 (d + 1) x0p x0l x0c x1 x2 x3 x8 x9 h K) (some ⟨b, 0, none⟩) n c a e lim x8 x9 x10 h1 K := by
      intro lim x10 x8 x9 g1 h1 A1 L1 hK1
      have k15 : ∀ (pv : Nat) (t : Int) (g1 : Nat → Int) (h1 : Heap), Arr .u8 h1 b n g1 sp → Lb a e g1 → a ≤ pv → pv < e →
          (∀ h' g', Arr .u8 h' b n g' sp → Srt a e g' → Swp a e g1 g' → Only [b] h1 h' → K (.tuple #[]) h') →
          F82.wk15 (fun x0p x0l x0c x1 x2 x3 x8 x9 h => F82.wL2 (d + 1) x0p x0l x0c x1 x2 x3 x8 x9 h K) (some ⟨b, 0, none⟩) n c a e lim x8 x9 x10 pv t h1 K := by
        intro pv t g1 h1 A1 L1 p1 p2 hK1
        unfold F82.wk15 F82.Jk15
        have o := k17 lim x10 x8 x9 pv g1 h1 A1 L1 p1 p2 hK1
        refine bcase_of (fun _ => bcase_of (fun _ => bcase_of (fun _ => ?_) fun _ => o) fun _ => o) fun _ => o
        refine near81 A1 L1 he (by omega) hn fun h2 g2 r A2 S2 R2 O2 => ?_
        rw [ldB_some]
        refine bcase_of (fun hr => hK1 h2 g2 A2 (R2 hr) S2 O2) fun _ => ?_
        exact k17 lim x10 x8 x9 pv g2 h2 A2 (L1.swp S2) p1 p2 fun h' g' A' R' S' O' => hK1 h' g' A' R' (S2.trans S') (O2.trans O' (by simp))
      unfold F82.wk10 F82.Jk10
      refine piv79 A1 he (by omega) hn fun h2 pv t A2 p1 p2 O2 => ⟨_, _, rfl, ?_⟩
      refine bcase_of (fun _ => ?_) fun _ => ?_
      · refine rev80 A2 he (by omega) (by omega) fun h3 g3 A3 S3 O3 => ⟨rfl, ?_⟩
        rw [show IntKind.wrap .i64 (IntKind.wrap .i64 ((e : Int) - 1) - IntKind.wrap .i64 ((pv : Int) - (a : Int))) = ((e - 1 - (pv - a) : Nat) : Int) by
          rw [wrapN (x := (e : Int) - 1) (by omega) (by omega), wrapN (x := (pv : Int) - (a : Int)) (by omega) (by omega), wrapN (by omega) (by omega)]; omega]
        exact k15 _ _ g3 h3 A3 (L1.swp S3) (by omega) (by omega) fun h' g' A' R' S' O' => hK1 h' g' A' R' (S3.trans S') (((O2.mono (by simp)).trans O3 (by simp)).trans O' (by simp))
      · exact k15 pv t g1 h2 A2 L1 p1 p2 fun h' g' A' R' S' O' => hK1 h' g' A' R' S' ((O2.mono (by simp)).trans O' (by simp))
    refine bcase_of (fun _ => ?_) fun _ => ?_
    · refine brk78 A he hae hn fun h2 g2 A2 S2 O2 => ⟨rfl, ?_⟩
      exact k10 _ _ x8 x9 g2 h2 A2 (L.swp S2) fun h' g' A' R' S' O' => hK h' g' A' R' (S2.trans S') (O2.trans O' (by simp))
    · exact k10 _ _ x8 x9 g h A L hK
/-- slices.Sort -/
theorem sort50 {h : Heap} {b n c : Nat} {g : Nat → Int} {sp : List Value} {K : Value → Heap → Prop} (A : Arr .u8 h b n g sp) (hn : n ≤ LB / 4)
    (hK : ∀ h' g', Arr .u8 h' b n g' sp → Srt 0 n g' → Swp 0 n g g' → Only [b] h h' → K (.tuple #[]) h') : CallsH Tryz.prog 64 [.slice (some ⟨b, 0, none⟩) n c] h K := by
  refine F64.spec _ _ _ h K ?_
  have hLB : LB = 140737488355328 := rfl
  unfold F64.w F64.J0
  rw [wrap_u64 (by omega) (by omega)]
  refine len68 (by omega) fun L _ _ => ?_
  rw [ldI_some]
  exact F82.spec _ _ _ _ _ _ h _ ⟨n + 1, loop67 hn n 0 n L true true g h _ (by omega) (Nat.zero_le _) (Nat.le_refl _) A (.inl rfl) fun h' g' A' R' S' O' => ⟨rfl, hK h' g' A' R' S' O'⟩⟩
/-- .. of none -/
theorem sort50nil {h : Heap} {c : Nat} {p : Option Addr} {K : Value → Heap → Prop} (hK : K (.tuple #[]) h) : CallsH Tryz.prog 64 [.slice p 0 c] h K := by
  refine F64.spec _ _ _ h K ?_
  unfold F64.w F64.J0
  rw [wrap_u64 (by omega) (by omega)]
  refine len68 (X := 0) (by omega) fun L _ _ => ?_
  rw [ldI_some]
  refine F82.spec _ _ _ _ _ _ h _ ⟨1, ?_⟩
  unfold F82.wL2 F82.JL2
  rw [show IntKind.wrap .i64 ((((0 : Nat) : Int)) - 0) = 0 by decide, show decide ((0 : Int) ≤ 12) = true by decide, bcase_true]
  refine F96.spec _ _ _ _ _ h _ ⟨1, ?_⟩
  unfold F96.wL1 F96.JL1
  rw [show decide (IntKind.wrap .i64 ((0 : Int) + 1) < ((0 : Nat) : Int)) = false by decide, bcase_false]
  exact ⟨rfl, rfl, hK⟩
end Go.Proofs.YtnbnlhpleomaoaaGreat.Ev
/- MAPS whose keys are whole numbers, ranged over: what a map that stands (MapM) reads as; what has come so far; heaps that keep what is frozen. Conditions: the map stands. -/
namespace Go.Proofs.YtnbnlhpleomaoaaGreat.Ev
open Go Go.RowKit Go.Maps
/-- whatever it holds, it reads as nothing -/
def anyR (_ : Value) : Option (DataW Unit × List MemPlace) := some (.nil, [])
def keyD (q : IntKind) (p : Int × Value) : Lit × DataW Unit := (.int q p.1, .nil)
theorem owns_of {P : Program} {kt : TypeId} {q : IntKind} (hk : P.underlying kt = some (.int q)) {w : World} {b : Nat} {m : List (Int × Value)} (M : MapM w.heap b q m)
    (hwf : ∀ x ∈ m.map (·.1), (Lit.int q x).wf = true) (hsz : m.length ≤ maxLen) :
    ∃ D : DataW Unit, w.ownsMap P kt anyR b m.length D ∧ Maps.size D = m.length ∧ ∀ x, Maps.has D (.int q x) = true ↔ x ∈ m.map (·.1) := by
  obtain ⟨es, cl, h1, h2, h3, h4, h5⟩ := M
  have hlen : es.toList.length = m.length := by simpa using congrArg List.length h2
  have hrd : ∀ (l : List MapEntry) (m : List (Int × Value)), l.map (fun e => (e.key, e.val)) = m.map (fun p => (Value.int q p.1, p.2)) → (∀ x ∈ m.map (·.1), (Lit.int q x).wf = true) →
      l.map (WideElems.rg P kt anyR) = m.map (keyD q) ∧ ∀ x ∈ l, ∃ y, WideElems.rd P kt anyR x = some y := by
    intro l
    induction l with
    | nil => intro m h _; cases m with
      | nil => exact ⟨rfl, by simp⟩
      | cons p m => simp at h
    | cons e l ih => intro m h hw; cases m with
      | nil => simp at h
      | cons p m =>
        simp only [List.map_cons, List.cons.injEq, Prod.mk.injEq] at h
        obtain ⟨⟨a1, a2⟩, a3⟩ := h
        obtain ⟨i1, i2⟩ := ih m a3 fun x hx => hw x (by simp [hx])
        have hr : WideElems.rd P kt anyR e = some (keyD q p) := by
          unfold WideElems.rd
          rw [a1, keyOf_int_mk hk (hw p.1 (by simp))]
          rfl
        refine ⟨by rw [List.map_cons, List.map_cons, i1]; unfold WideElems.rg; rw [hr]; rfl, fun x hx => ?_⟩
        rcases List.mem_cons.1 hx with rfl | hx
        · exact ⟨_, hr⟩
        · exact i2 x hx
  obtain ⟨r1, r2⟩ := hrd _ m h2 hwf
  refine ⟨_, ⟨es, cl, mp_obj h1, ⟨by rw [← Array.length_toList, hlen]; exact hsz, ⟨h5, h4, ?_⟩, r2⟩, by rw [← Array.length_toList, hlen]; exact Nat.le_refl _, rfl⟩, ?_, fun x => ?_⟩
  · have e : es.toList.map (·.key) = (m.map (·.1)).map (Value.int q) := by
      have := congrArg (List.map Prod.fst) h2
      simpa [List.map_map, Function.comp_def] using this
    rw [e]
    exact h3.map _ fun a b hab e => hab (by injection e)
  · rw [Maps.size_eq, length_sorted, List.length_map, hlen]
  · rw [Maps.has_eq, List.any_eq_true, r1]
    constructor
    · rintro ⟨p, hp, hs⟩
      rw [mem_sorted, List.mem_map] at hp
      obtain ⟨y, hy, rfl⟩ := hp
      simp [keyD, Lit.sameKey] at hs
      exact List.mem_map.2 ⟨y, hy, hs⟩
    · intro hx
      obtain ⟨p, hp, rfl⟩ := List.mem_map.1 hx
      exact ⟨keyD q p, mem_sorted.2 (List.mem_map.2 ⟨p, hp, rfl⟩), by simp [keyD, Lit.sameKey]⟩

/-- no key twice; a key is on the list just where the map has it and it is no longer to come -/
def CollI (q : IntKind) (D0 : DataW Unit) (left : Lit → Bool) (ss : List Int) : Prop := ss.Nodup ∧ ∀ x, x ∈ ss ↔ (Maps.has D0 (.int q x) = true ∧ left (.int q x) = false)
theorem CollI.start (q : IntKind) (D0 : DataW Unit) : CollI q D0 (Maps.has D0) [] := ⟨List.nodup_nil, fun x => by cases Maps.has D0 (.int q x) <;> simp⟩
theorem CollI.step {q : IntKind} {D0 : DataW Unit} {left : Lit → Bool} {ss : List Int} (h : CollI q D0 left ss) {x : Int} {y : DataW Unit} (hlk : left (.int q x) = true) (hat : ∀ zd, D0.atKey (.int q x) zd = y) :
    CollI q D0 (fun z => left z && !z.sameKey (.int q x)) (ss ++ [x]) := by
  have hhas : Maps.has D0 (.int q x) = true := Maps.has_true_of_atKey hat
  have hnew : x ∉ ss := fun hx => by have := ((h.2 x).1 hx).2; rw [hlk] at this; cases this
  refine ⟨List.nodup_append.2 ⟨h.1, by simp, fun a ha b hb => by simp at hb; subst hb; exact fun e => hnew (e ▸ ha)⟩, fun y => ?_⟩
  by_cases hy : y = x
  · subst hy; simp [hhas, Lit.sameKey]
  · simp [h.2 y, hy, Lit.sameKey]
theorem CollI.perm {q : IntKind} {D0 : DataW Unit} {left : Lit → Bool} {ss ks : List Int} (h : CollI q D0 left ss) (hl : ∀ kl, left kl = false) (hnd : ks.Nodup) (hm : ∀ x, Maps.has D0 (.int q x) = true ↔ x ∈ ks) : ss.Perm ks :=
  (List.perm_ext_iff_of_nodup h.1 hnd).2 fun x => by rw [h.2 x, hl, ← hm]; simp

/-- nothing frozen anew -/
def FzK (W W' : World) : Prop := ∀ a, fz W'.heap a = fz W.heap a
theorem FzK.refl (W : World) : FzK W W := fun _ => rfl
theorem FzK.trans {A B C : World} (h : FzK A B) (k : FzK B C) : FzK A C := fun a => (k a).trans (h a)
theorem fz_obj {h : Heap} {a : Addr} {o : Obj} (ho : h[a.block]? = some o) (hc : o.isCells = false) : fz h a = false := by
  unfold fz
  rw [ho]
  cases o <;> first | rfl | (simp [Obj.isCells] at hc)
theorem FzK.alloc (W : World) {o : Obj} (hc : o.isCells = false) : FzK W (W.alloc o) := fun a => by
  by_cases ha : a.block = W.heap.size
  · rw [fz_obj (o := o) (by rw [ha]; exact World.alloc_heap_new W o) hc]
    unfold fz
    rw [ha, Array.getElem?_eq_none (Nat.le_refl _)]
  · unfold fz
    show (match (W.heap.push o)[a.block]? with | some (.cells _ _ (lo, hi)) => lo ≤ a.off && a.off < hi | _ => false) = _
    rw [Array.getElem?_push, if_neg ha]
    rfl
theorem FzK.put {W : World} {l : Nat} {o : Obj} (o' : Obj) (hl : W.heap[l]? = some o) (hc : o.isCells = false) (hc' : o'.isCells = false) : FzK W (W.putObj l o') := fun a => by
  by_cases ha : a.block = l
  · rw [fz_obj (o := o') (by rw [ha]; exact World.putObj_heap_same (Array.getElem?_eq_some_iff.1 hl).1) hc', fz_obj (o := o) (by rw [ha]; exact hl) hc]
  · unfold fz
    rw [World.putObj_heap_other ha]
theorem FzK.one {W W' : World} {r : Nat} (hs : ∀ k, k < W.heap.size → k ≠ r → W'.heap[k]? = W.heap[k]?) {o : Obj} (hr : W.heap[r]? = some o ∨ W.heap.size = r) (ho : W.heap[r]? = some o → o.isCells = false) {o' : Obj} (hr' : W'.heap[r]? = some o') (ho' : o'.isCells = false)
    (hsz : W'.heap.size ≤ max W.heap.size (r + 1)) : FzK W W' := fun a => by
  by_cases ha : a.block = r
  · rw [fz_obj (o := o') (by rw [ha]; exact hr') ho']
    rcases hr with hr | hr
    · rw [fz_obj (o := o) (by rw [ha]; exact hr) (ho hr)]
    · unfold fz
      rw [ha, Array.getElem?_eq_none (Nat.le_of_eq hr)]
  · unfold fz
    by_cases hk : a.block < W.heap.size
    · rw [hs _ hk ha]
    · have : W'.heap.size ≤ a.block := by
        rcases Nat.le_total W.heap.size (r + 1) with h | h
        · rw [Nat.max_eq_right h] at hsz
          rcases hr with hr | hr
          · have := (Array.getElem?_eq_some_iff.1 hr).1; omega
          · omega
        · rw [Nat.max_eq_left h] at hsz
          omega
      rw [Array.getElem?_eq_none (Nat.le_of_not_lt hk), Array.getElem?_eq_none this]
theorem Only.allocW (W : World) {o : Obj} (hc : o.isCells = false) : Only [] W.heap (W.alloc o).heap :=
  ⟨by simp, fun b hb _ => Below.heap_alloc W o b hb, FzK.alloc W hc⟩
theorem Only.putW {W : World} {l : Nat} {o : Obj} (o' : Obj) (hl : W.heap[l]? = some o) (hc : o.isCells = false) (hc' : o'.isCells = false) : Only [l] W.heap (W.putObj l o').heap :=
  ⟨by simp, fun b _ hS => World.putObj_heap_other (fun e => hS (by simp [e])), FzK.put o' hl hc hc'⟩
theorem stL_mono {a : Addr} {K K' : Heap → Prop} : ∀ (cs : List Value) (i : Nat) (h : Heap), stL a i cs h K → (∀ h', K h' → K' h') → stL a i cs h K' := by
  intro cs
  induction cs with
  | nil => intro i h H hK; unfold stL at H ⊢; exact hK h H
  | cons v vs ih =>
    intro i h H hK
    unfold stL stK at H ⊢
    cases hv : v.oneCell' with
    | false => rw [hv] at H; exact H
    | true => rw [hv] at H; exact ⟨H.1, H.2.1, ih _ _ H.2.2 hK⟩

/-- the invariant abides an iterator's steps -/
def AbidesZ (B : Nat) (J : List Int → World → Prop) : Prop :=
  ∀ s W W' row, J s W → W.grownBy W' row → FzK W W' → (∀ r, row = some r → B ≤ r ∧ ∃ o : Obj, W.heap[r]? = some o ∧ o.isWalk = true) → J s W'
theorem grown_only {W W' : World} {row : Option Nat} (hg : W.grownBy W' row) (hf : FzK W W') : Only row.toList W.heap W'.heap :=
  ⟨hg.size, fun b hb hS => hg.block b hb (fun e => hS (by rw [← e]; simp)), hf⟩
theorem grown_same {W W' : World} {row : Option Nat} (hg : W.grownBy W' row) : W'.os = W.os ∧ W'.tape = W.tape ∧ W'.output = W.output := by
  obtain ⟨a, b, c, -⟩ := hg
  constructor <;> (try constructor) <;> assumption

theorem appK_mono {h : Heap} {e : TypeId} {sz by_ : Nat} {z : Array Value} {p q : Option Addr} {l c m : Nat} {K K' : Option Addr → Nat → Nat → Heap → Prop} (H : appK h e sz by_ z p l c q m K)
    (hK : ∀ p' l' c' h', K p' l' c' h' → K' p' l' c' h') : appK h e sz by_ z p l c q m K' := by
  obtain ⟨new, a1, a2, a3, a4⟩ := H
  refine ⟨new, a1, a2, fun hle => ?_, fun hlt => ?_⟩
  · have := a3 hle
    cases p with
    | none => exact ⟨this.1, hK _ _ _ _ this.2⟩
    | some ad => exact stL_mono _ _ _ this fun h' hk => hK _ _ _ _ hk
  · obtain ⟨old, b1, b2, b3, b4⟩ := a4 hlt
    exact ⟨old, b1, b2, b3, fun cap hc => hK _ _ _ _ (b4 cap hc)⟩
/-- append, in the walk of a round -/
theorem wpListIn_app {F : Fence} {n : Nat} {P : Program} (w : World) {ops : Array Oper} {rest : List Oper} {o : Oper} {a : Act} {Q : Exit → Act → World → Prop} (hg : o.guard = none) (x y : Operand) (t : TypeId)
    (ho : o.op = .call { callee := .builtin .append, args := #[x, y], argTypes := #[t, t] }) {e : TypeId} {sz by_ : Nat} {z : Array Value} {p q : Option Addr} {l c m c' : Nat}
    (ht : P.underlying t = some (.slice e)) (hs : sizeB P e = some (sz, by_, z)) (hby : 1 ≤ by_) (hx : a.eval x = .slice p l c) (hy : a.eval y = .slice q m c')
    {K : Option Addr → Nat → Nat → Heap → Prop} (H : appK w.heap e sz by_ z p l c q m K)
    (h : ∀ p' l' c' w', Same w w' → K p' l' c' w'.heap → wpListIn F n P ops Q rest (a.put o.dst (.slice p' l' c')) w') : wpListIn F n P ops Q (o :: rest) a w := by
  refine wpListIn_plain hg fun K' hK' => ?_
  obtain ⟨v, w', hr, hsame, ⟨p', l', c', hv, hk⟩⟩ := appK_sound (P := P) (ty := o.type) (c' := c') (K := fun v h => ∃ p' l' c', v = .slice p' l' c' ∧ K p' l' c' h) ht ⟨e, ht⟩ hs hby
    (appK_mono H fun p' l' c' h' hk => ⟨p', l', c', rfl, hk⟩) w rfl
  unfold Oper.wpIn
  refine ⟨by simp [Oper.about, ho, resolve, Target.leads, Sem.run_pure], ?_⟩
  rw [Oper.semAt_plain F _ _ (by rw [ho]; intro c hc'; cases hc')]
  simp [execOp, ho, resolve, invoke, builtin, hx, hy, hr, Result.andThen]
  subst hv
  exact hK' _ _ (h _ _ _ _ hsame hk)
end Go.Proofs.YtnbnlhpleomaoaaGreat.Ev
/- RANGING OVER A MAP's KEYS (maps.Keys' function value, called with whatever round). Conditions: the map stands; the round keeps its word. -/
namespace Go.Proofs.YtnbnlhpleomaoaaGreat.Ev
open Go Go.RowKit Go.Maps
theorem u58 : Tryz.prog.underlying 5 = some (.int .u8) := by kernel_rfl
theorem u97 : Tryz.prog.underlying 85 = some (.map 5 3) := by kernel_rfl
theorem u61 : Tryz.prog.underlying 87 = some (.slice 5) := by kernel_rfl
set_option maxRecDepth 100000 in
set_option maxHeartbeats 2000000 in
theorem keysN {F : Fence} {n : Nat} (h66 : F.fn 65) (hro : F.round = none) (hn : 1 ≤ n) (l Bm b nn : Nat) (D0 : DataW Unit) (J : List Int → World → Prop)
    (hY : ∀ pre x W, J pre W → pre.length < Maps.size D0 → YieldAt F (n - 1) Tryz.prog l #[.int .u8 x] W fun e W' => e = .returned (.bool true) ∧ J (pre ++ [x]) W' ∧ KeepsWalks W W')
    (W : World) (hJ : AbidesZ W.heap.size J) (hm : W.cell? ⟨Bm, 0, none⟩ = some (.map (some b))) (hown : W.ownsMap Tryz.prog 5 anyR b nn D0) (h0 : J [] W) :
    CallsIn F n Tryz.prog 65 #[.func (.yield l) #[] #[], .pointer (some ⟨Bm, 0, none⟩)] W fun e W' => (∃ v, e = .returned v) ∧ ∃ ss : List Int, J ss W' ∧ ∃ left, CollI .u8 D0 left ss ∧ ∀ kl, left kl = false := by
  refine callsIn_of_wp Tryz.func65 rfl h66 ?_ hro
  simp only [Tryz.ntmps65, List.size_toArray, List.length_cons, List.length_nil, Nat.reduceAdd, Nat.reduceSub, Array.replicate_succ, Array.replicate_zero, List.push_toArray, List.append_toArray, List.nil_append, List.cons_append]
  gi_wp2_with (first
    | (gi_at_range; refine wpListIn_range_own _ rfl _ 85 rfl 5 3 (int_keyed u58) u97 _ b nn _ rfl hown ?_; intro w0 hrg0 hg0 hs0)
    | gi_in)
  go_frame
  gi_loopw [3] (fun _ wr => ∃ (left : Lit → Bool) (cnt : Nat) (ss : List Int), wr.ranges Tryz.prog 5 anyR b W.heap.size nn D0 left cnt ∧ ss.length + cnt ≤ Maps.size D0 ∧ CollI .u8 D0 left ss ∧ J ss wr)
    (fun _ wr => wr.rangeLeft b W.heap.size)
  case atStart =>
    have hf0 : FzK W w0 := by
      obtain ⟨es, clock, since, seen, c0, _, _, _, _, hr, _⟩ := hrg0
      exact FzK.one (r := W.heap.size) (o := .mapIter none 0 #[] 0) (fun k hk _ => hg0.block k hk (by simp)) (.inr rfl) (fun _ => rfl) hr rfl (by omega)
    exact ⟨_, _, [], hrg0, by simp, CollI.start .u8 D0, hJ [] W w0 none h0 hg0 hf0 (fun r e => by cases e)⟩
  case round =>
    obtain ⟨left, cnt, ss, hrg, hcs, hC, hJs⟩ := hrel
    gi_wp2_with (first
      | (gi_at_next; refine wpListIn_next_ranges _ rfl _ rfl 5 (int_keyed u58) anyR (Value.int .u8) (fun v : Value => v) (fun key kl hk => by obtain ⟨x, hx, _⟩ := Maps.keyOf_int_inv u58 hk; exact ⟨x, hx⟩) (fun v y hv => ⟨v, rfl⟩) b W.heap.size nn _ _ _ rfl hrg ?_ ?_)
      | gi_in)
    · intro hc0 hl0
      gi_wp2
      go_end0
      exact ⟨⟨_, rfl⟩, ss, hJs, left, hC, hl0⟩
    · intro x c kl yd yp w2 cnt2 hkey hlk hv hat hrg2 hlt hg2 hs2 hen
      obtain ⟨x', ex, rfl, _⟩ := Maps.keyOf_int_inv u58 hkey
      cases ex
      have hf2 : FzK wr w2 := by
        obtain ⟨es, clock, since, seen, c0, _, _, _, _, hr, _⟩ := hrg
        obtain ⟨es', clock', since', seen', c0', _, _, _, _, hr', _⟩ := hrg2
        exact FzK.one (r := W.heap.size) (o := .mapIter (some b) since seen c0) (fun k hk hne => hg2.block k hk (by simpa using hne)) (.inl hr) (fun _ => rfl) hr' rfl (by omega)
      have hJ2 : J ss w2 := hJ ss wr w2 (some W.heap.size) hJs hg2 hf2 (fun r e => by cases e; exact ⟨Nat.le_refl _, hrg.iter_walk⟩)
      obtain ⟨fn, tmps, assign, body, hy, hR⟩ := hY ss x w2 hJ2 (by omega)
      clear hs2 hf2
      gi_wp2
      refine hR.mono ?_
      rintro e W3 ⟨rfl, hJ3, hk3⟩
      gi_wp2
      have hrg3 := hrg2.of_walks hk3
      go_roundw
      case rel => exact ⟨_, cnt2, ss ++ [x], hrg3, by simp; omega, hC.step hlk hat, hJ3⟩
      case measure => rw [hrg3.left_eq, hrg.left_eq]; exact hlt
end Go.Proofs.YtnbnlhpleomaoaaGreat.Ev
/- COLLECTING (slices.AppendSeq over a map's keys). Conditions: the map stands; the slice is none yet. -/
namespace Go.Proofs.YtnbnlhpleomaoaaGreat.Ev
open Go Go.RowKit Go.Maps
def pickC : Code → Option (Code × Code)
  | .seq a b => (pickC a).or (pickC b)
  | .block _ c => pickC c
  | .rangeFunc _ _ a b => some (a, b)
  | _ => none
noncomputable def apAssign : Code := ((Tryz.f81.body.bind pickC).map (·.1)).getD .skip
noncomputable def apBody : Code := ((Tryz.f81.body.bind pickC).map (·.2)).getD .skip
/-- the loop's record -/
noncomputable def apRec (fn : FuncId) (sv : Value) (Bs D : Nat) (st : LoopState) (pend : Option Code) : Loop :=
  { state := st, pending := pend, fn, tmps := #[.slice none 0 0, sv, .pointer (some ⟨Bs, 0, none⟩), undef, .slice none 0 0, undef, sv, undef, undef, undef, undef, undef, undef], params := #[7], assign := apAssign, body := apBody, defers := D }
structure ApAt (w0 : World) (fn : FuncId) (sv : Value) (Bs l D : Nat) (ss : List Int) (W : World) : Prop where
  box : ∃ p c, At W.heap Bs [.slice p ss.length c] ∧ Own W.heap (Bs + 1) 1 p ss.length c (ss.map (Value.int .u8))
  L : W.heap[l]? = some (.loop (apRec fn sv Bs D .ready none))
  K : W.heap[D]? = some (.deferred (some []))
  only : Only [] w0.heap W.heap
  same : Same w0 W
theorem At.notWalk {h : Heap} {b r : Nat} {c : List Value} (A : At h b c) (hr : ∃ o : Obj, h[r]? = some o ∧ o.isWalk = true) : b ≠ r := by
  obtain ⟨e, A⟩ := A
  obtain ⟨o, hr, hw⟩ := hr
  intro e'
  subst e'
  rw [A] at hr
  cases hr
  cases hw
theorem Own.onlyC {h h' : Heap} {lo N : Nat} {p : Option Addr} {l c : Nat} {cs : List Value} {S : List Nat} (H : Own h lo N p l c cs) (O : Only S h h') (hS : ∀ b ∈ OwnB p, (∃ c, At h b c) → b ∉ S) : Own h' lo N p l c cs := by
  obtain ⟨e, H⟩ := H
  rcases H with H | ⟨b, sp, h1, h2, h3, h4, h5⟩
  · exact ⟨e, Or.inl H⟩
  · exact ⟨e, Or.inr ⟨b, sp, h1, h2, h3, h4, h5.only O (hS b (by subst h1; simp [OwnB]) ⟨_, h5⟩)⟩⟩
theorem Own.cells {h : Heap} {lo N : Nat} {p : Option Addr} {l c : Nat} {cs : List Value} (H : Own h lo N p l c cs) : ∀ b ∈ OwnB p, ∃ c, At h b c := by
  obtain ⟨e, H⟩ := H
  rcases H with ⟨rfl, _⟩ | ⟨b, sp, rfl, h2, h3, h4, h5⟩
  · intro b hb; simp [OwnB] at hb
  · intro b' hb
    simp [OwnB] at hb
    subst hb
    exact ⟨_, h5⟩
theorem Same.of_grown {W W' : World} {row : Option Nat} (hg : W.grownBy W' row) : Same W W' := grown_same hg
theorem ap_abides (w0 : World) (fn : FuncId) (sv : Value) (Bs l D B : Nat) (hB : w0.heap.size ≤ B) : AbidesZ B (ApAt w0 fn sv Bs l D) := fun s W W' row h hg hf hrow => by
  have hrow' : ∀ r, row = some r → ∃ o : Obj, W.heap[r]? = some o ∧ o.isWalk = true := fun r e => (hrow r e).2
  have O := grown_only hg hf
  have hno : ∀ b, (∃ c, At W.heap b c) → b ∉ row.toList := fun b ⟨c, A⟩ hb => by
    cases row with
    | none => simp at hb
    | some r => simp at hb; exact A.notWalk (hrow' r rfl) hb
  obtain ⟨p, c, A, H⟩ := h.box
  exact ⟨⟨p, c, A.only O (hno _ ⟨_, A⟩), H.onlyC O fun b _ hc => hno b hc⟩, (grownBy_keeps hg hrow' h.L rfl).trans h.L, (grownBy_keeps hg hrow' h.K rfl).trans h.K,
    h.only.trans O (fun b hb hlt => by
      cases row with
      | none => simp at hb
      | some r =>
        simp at hb
        have := (hrow r rfl).1
        omega), h.same.trans (Same.of_grown hg)⟩
theorem keeps_only {S : List Nat} {W W' : World} (O : Only S W.heap W'.heap) (h : ∀ r ∈ S, ∀ o : Obj, W.heap[r]? = some o → o.isWalk = false) : KeepsWalks W W' :=
  ⟨O.size, fun k o hk ho => (O.same k (Array.getElem?_eq_some_iff.1 hk).1 (fun hS => by rw [h k hS o hk] at ho; cases ho)).trans hk⟩
theorem At.ne_obj {h : Heap} {b r : Nat} {c : List Value} (A : At h b c) {o : Obj} (hr : h[r]? = some o) (ho : o.isCells = false) : b ≠ r := by
  obtain ⟨e, A⟩ := A
  intro e'
  subst e'
  rw [A] at hr
  cases hr
  cases ho
theorem At.walkF {h : Heap} {b : Nat} {c : List Value} (A : At h b c) : ∀ o : Obj, h[b]? = some o → o.isWalk = false := by
  obtain ⟨e, A⟩ := A
  intro o ho
  rw [A] at ho
  cases ho
  rfl
theorem sB58 : sizeB Tryz.prog 5 = some (1, 1, #[.int .u8 0]) := by kernel_rfl
set_option maxRecDepth 100000 in
set_option maxHeartbeats 2000000 in
theorem apYield {F : Fence} {m : Nat} (w0 : World) (fn : FuncId) (hfn : F.fn fn) (sv : Value) (Bs l D : Nat) (hBl : Bs ≠ l) (hDl : D ≠ l) (hDB : D ≠ Bs) (h0B : w0.heap.size ≤ Bs) (h0l : w0.heap.size ≤ l)
    (N : Nat) (hN : N * 4 ≤ 140737488355328) (ss : List Int) (x : Int) (W : World) (h : ApAt w0 fn sv Bs l D ss W) (hlen : ss.length < N) :
    YieldAt F m Tryz.prog l #[.int .u8 x] W fun e W' => e = .returned (.bool true) ∧ ApAt w0 fn sv Bs l D (ss ++ [x]) W' ∧ KeepsWalks W W' := by
  obtain ⟨p, c, A, H⟩ := h.box
  refine ⟨fn, #[.slice none 0 0, sv, .pointer (some ⟨Bs, 0, none⟩), undef, .slice none 0 0, undef, sv, .int .u8 x, undef, undef, undef, undef, undef], apAssign, apBody, by simpa [apRec] using run_yield (P := Tryz.prog) (args := #[.int .u8 x]) h.L rfl, roundIn_of_wpIn hfn ?_⟩
  have hl : l < W.heap.size := (Array.getElem?_eq_some_iff.1 h.L).1
  have hbr := run_beginRound (P := Tryz.prog) h.L rfl
  obtain ⟨W2, hW2⟩ : ∃ W2, W.putObj l (.loop { apRec fn sv Bs D .ready none with state := .busy }) = W2 := ⟨_, rfl⟩
  rw [hW2] at hbr
  have hnl : ∀ b, (∃ c, At W.heap b c) → b ∉ [l] := fun b ⟨c, A⟩ hb => A.ne_obj h.L rfl (by simpa using hb)
  have O2 : Only [l] W.heap W2.heap := by rw [← hW2]; exact Only.putW _ h.L rfl rfl
  have A2 : At W2.heap Bs [.slice p ss.length c] := A.only O2 (hnl _ ⟨_, A⟩)
  have H2 := H.onlyC O2 fun b _ hc => hnl b hc
  have hK2 : W2.heap[D]? = some (.deferred (some [])) := by rw [← hW2]; exact (World.putObj_heap_other hDl).trans h.K
  have hL2 : W2.heap[l]? = some (.loop { apRec fn sv Bs D .ready none with state := .busy }) := by rw [← hW2]; exact World.putObj_heap_same hl
  have S2 : Same W W2 := by rw [← hW2]; exact ⟨rfl, rfl, rfl⟩
  have hc2 : W2.cell? ⟨Bs, 0, none⟩ = some (.slice p ss.length c) := A2.rd 0
  have hf2 : W2.frozen? ⟨Bs, 0, none⟩ = false := A2.fz 0 none
  have A3 : At (W2.alloc (.cells #[.int .u8 x] 5)).heap W2.heap.size [.int .u8 x] := At.push _ _ _
  have O3 : Only [] W2.heap (W2.alloc (.cells #[.int .u8 x] 5)).heap := Only.push_cells _ _ _
  have H3 := H2.onlyC O3 fun b _ _ => by simp
  have A3' := A2.only O3 (by simp)
  have hBlt := A2.lt
  have hz3 := O3.size
  clear hW2
  simp only [apAssign, Tryz.f81, pickC, Option.bind_some, Option.map_some, Option.getD_some, Option.none_or, Option.some_or]
  gi_wp2_with (rw [Oper.semAt_eq _ _ _ (fun c h => by cases h)]; go_simp; try go_bits)
  simp only [apBody, Tryz.f81, pickC, Option.bind_some, Option.map_some, Option.getD_some, Option.none_or, Option.some_or]
  gi_wp2_with (first
    | (gi_at_builtin; refine wpListIn_app _ rfl _ _ 87 rfl u61 sB58 (by decide) rfl rfl (own_app (K := fun p' l' c' h' => l' = ss.length + 1 ∧ Own h' (Bs + 1) 1 p' (ss.length + 1) c' (ss.map (Value.int .u8) ++ [Value.int .u8 x]) ∧ Only (OwnB p) (W2.alloc (.cells #[.int .u8 x] 5)).heap h' ∧ ∀ b ∈ OwnB p', b ∈ OwnB p ∨ (W2.alloc (.cells #[.int .u8 x] 5)).heap.size ≤ b) H3 A3 rfl rfl (by omega) (by simp [Value.oneCell']) (by omega) fun p' c' h' a b c => ⟨rfl, a, b, c⟩) ?_; rintro p' l' c' w3 S3 ⟨rfl, H4, O4, hp'⟩
       have hnB : Bs ∉ OwnB p := fun hb => by have := H2.lt Bs hb; omega
       have A4 := A3'.only O4 hnB
       have hc3 : w3.cell? ⟨Bs, 0, none⟩ = some (.slice p ss.length c) := A4.rd 0
       have hf3 : w3.frozen? ⟨Bs, 0, none⟩ = false := A4.fz 0 none
       go_frame)
    | (rw [Oper.semAt_eq _ _ _ (fun c h => by cases h)]; go_simp; try go_bits))
  have hlB : l ∉ OwnB p := fun hb => by obtain ⟨c, A⟩ := H3.cells l hb; exact A.ne_obj ((Below.heap_alloc _ _ l (Array.getElem?_eq_some_iff.1 hL2).1).trans hL2) rfl rfl
  have hDB' : D ∉ OwnB p := fun hb => by obtain ⟨c, A⟩ := H3.cells D hb; exact A.ne_obj ((Below.heap_alloc _ _ D (Array.getElem?_eq_some_iff.1 hK2).1).trans hK2) rfl rfl
  have hL3 : w3.heap[l]? = some (.loop { apRec fn sv Bs D .ready none with state := .busy }) := (O4.same l (Nat.lt_of_lt_of_le (Array.getElem?_eq_some_iff.1 hL2).1 hz3) hlB).trans ((O3.same l (Array.getElem?_eq_some_iff.1 hL2).1 (by simp)).trans hL2)
  have hK3 : w3.heap[D]? = some (.deferred (some [])) := (O4.same D (Nat.lt_of_lt_of_le (Array.getElem?_eq_some_iff.1 hK2).1 hz3) hDB').trans ((O3.same D (Array.getElem?_eq_some_iff.1 hK2).1 (by simp)).trans hK2)
  obtain ⟨w4, hw4⟩ : ∃ w4, w3.setCell ⟨Bs, 0, none⟩ (.slice p' (ss.length + 1) c') = w4 := ⟨_, rfl⟩
  rw [hw4]
  have O5 : Only [Bs] w3.heap w4.heap := by rw [← hw4]; exact Only.wr w3.heap ⟨Bs, 0, none⟩ _
  have A5 : At w4.heap Bs [.slice p' (ss.length + 1) c'] := by rw [← hw4]; exact A4.wr 0 _
  have S4 : Same w3 w4 := by rw [← hw4]; exact ⟨rfl, rfl, rfl⟩
  have hL4 : w4.heap[l]? = some (.loop { apRec fn sv Bs D .ready none with state := .busy }) := (O5.same l (Array.getElem?_eq_some_iff.1 hL3).1 (by simpa using Ne.symm hBl)).trans hL3
  have hK4 : w4.heap[D]? = some (.deferred (some [])) := (O5.same D (Array.getElem?_eq_some_iff.1 hK3).1 (by simpa using hDB)).trans hK3
  have H5 := H4.onlyC O5 fun b hb _ hbB => by
    simp at hbB
    subst hbB
    have := H4.lt b hb
    omega
  clear hw4
  have O6 : Only [l] w4.heap (w4.putObj l (.loop { { apRec fn sv Bs D .ready none with state := .busy } with state := if (none : Option Code).isNone then .ready else .done, pending := none })).heap := Only.putW _ hL4 rfl rfl
  have hnl4 : ∀ b, (∃ c, At w4.heap b c) → b ∉ [l] := fun b ⟨c, A⟩ hb => A.ne_obj hL4 rfl (by simpa using hb)
  have OO : Only (l :: Bs :: OwnB p) W.heap (w4.putObj l (.loop { { apRec fn sv Bs D .ready none with state := .busy } with state := if (none : Option Code).isNone then .ready else .done, pending := none })).heap := by
    refine (((((O2.mono (T := l :: Bs :: OwnB p) (by simp +contextual)).trans O3 (by simp)).trans O4 (by simp +contextual)).trans O5 (by simp +contextual)).trans O6 (by simp +contextual))
  refine ⟨_, _, run_endRound none hL4, rfl, ⟨⟨p', c', ?_, ?_⟩, World.putObj_heap_same (Array.getElem?_eq_some_iff.1 hL4).1, (World.putObj_heap_other hDl).trans hK4, h.only.trans OO ?_, ?_⟩, keeps_only OO ?_⟩
  · rw [List.length_append, List.length_singleton]
    exact A5.only O6 (hnl4 _ ⟨_, A5⟩)
  · rw [List.length_append, List.length_singleton, List.map_append, List.map_singleton]
    exact H5.onlyC O6 fun b _ hc => hnl4 b hc
  · intro b hb hlt
    rcases List.mem_cons.1 hb with rfl | hb
    · omega
    · rcases List.mem_cons.1 hb with rfl | hb
      · omega
      · have := H.lt b hb
        omega
  · exact ((((h.same.trans S2).trans ⟨rfl, rfl, rfl⟩).trans S3).trans S4).trans ⟨rfl, rfl, rfl⟩
  · intro r hr o ho
    rcases List.mem_cons.1 hr with rfl | hr
    · rw [h.L] at ho; cases ho; rfl
    · rcases List.mem_cons.1 hr with rfl | hr
      · exact A.walkF o ho
      · obtain ⟨c, A'⟩ := H.cells r hr
        exact A'.walkF o ho
end Go.Proofs.YtnbnlhpleomaoaaGreat.Ev
/- COLLECTING (slices.AppendSeq over a map's keys), as a call seen from the heap. Conditions: the map stands; the slice is none yet. -/
namespace Go.Proofs.YtnbnlhpleomaoaaGreat.Ev
open Go Go.RowKit Go.Maps Go.Shelf
set_option maxRecDepth 100000 in
set_option maxHeartbeats 2000000 in
theorem appSeq_in {F : Fence} {n : Nat} (h65 : F.fn 81) (h66 : F.fn 65) (hro : F.round = none) (hn : 2 ≤ n) (Bm b : Nat) (m : List (Int × Value)) (w : World) (A : At w.heap Bm [.map (some b)]) (M : MapM w.heap b .u8 m)
    (hwf : ∀ x ∈ m.map (·.1), (Lit.int .u8 x).wf = true) (hsz : m.length * 4 ≤ 140737488355328) :
    CallsIn F n Tryz.prog 81 #[.slice none 0 0, .func (.func 65) #[] #[.pointer (some ⟨Bm, 0, none⟩)]] w fun e w' => ∃ (p : Option Addr) (c : Nat) (ss : List Int), e = .returned (.slice p ss.length c) ∧ ss.Perm (m.map (·.1)) ∧
      Own w'.heap (w.heap.size + 1) 1 p ss.length c (ss.map (Value.int .u8)) ∧ Only [] w.heap w'.heap ∧ Same w w' := by
  have h1 : 1 ≤ n := by omega
  have hnd : (m.map (·.1)).Nodup := by obtain ⟨_, _, _, _, h, _⟩ := M; exact h
  have eg : ∀ args w, (callFunc 65 args).run Tryz.prog w = .ok (.enter 65 args) w := enters_of Tryz.func65 (by kernel_rfl) rfl
  refine callsIn_of_wp_marks Tryz.func81 rfl h65 ?_ hro
  simp only [Tryz.ntmps81, List.size_toArray, List.length_cons, List.length_nil, Nat.reduceAdd, Nat.reduceSub, Array.replicate_succ, Array.replicate_zero, List.push_toArray, List.append_toArray, List.nil_append, List.cons_append]
  gi_wp2
  refine wpIn_rangeFunc ?_
  intro fn hfn
  rw [hro]
  obtain ⟨W0, hW0⟩ : ∃ W0, w.alloc (.cells #[.slice none 0 0] 87) = W0 := ⟨_, rfl⟩
  have hs0 : W0.heap.size = w.heap.size + 1 := by rw [← hW0]; simp
  have O0 : Only [] w.heap W0.heap := by rw [← hW0]; exact Only.push_cells _ _ _
  have A0 : At W0.heap w.heap.size [.slice none 0 0] := by rw [← hW0]; exact At.push _ _ _
  have S0 : Same w W0 := by rw [← hW0]; exact ⟨rfl, rfl, rfl⟩
  rw [hW0]
  obtain ⟨W1, hW1⟩ : ∃ W1, (W0.alloc (.deferred (some []))).alloc (.loop (apRec fn (.func (.func 65) #[] #[.pointer (some ⟨Bm, 0, none⟩)]) w.heap.size W0.heap.size .ready none)) = W1 := ⟨_, rfl⟩
  have O1 : Only [] W0.heap W1.heap := by rw [← hW1]; exact (Only.allocW W0 rfl).trans (Only.allocW _ rfl) (by simp)
  have hs1 : W1.heap.size = W0.heap.size + 2 := by rw [← hW1]; simp
  have S1 : Same W0 W1 := by rw [← hW1]; exact ⟨rfl, rfl, rfl⟩
  have OW := O0.trans O1 (by simp)
  have hM : ApAt w fn (.func (.func 65) #[] #[.pointer (some ⟨Bm, 0, none⟩)]) w.heap.size (W0.heap.size + 1) W0.heap.size [] W1 :=
    ⟨⟨none, 0, A0.only O1 (by simp), Own.nil _ _ _⟩,
     by rw [← hW1]; have := World.alloc_heap_new (W0.alloc (.deferred (some []))) (.loop (apRec fn (.func (.func 65) #[] #[.pointer (some ⟨Bm, 0, none⟩)]) w.heap.size W0.heap.size .ready none)); rwa [World.size_alloc] at this,
     by rw [← hW1]; exact (Below.heap_alloc _ _ _ (by simp)).trans (World.alloc_heap_new W0 _), OW, S0.trans S1⟩
  obtain ⟨D0, hown, hD1, hD2⟩ := owns_of u58 (M.only OW (by simp)) hwf (by simp [maxLen]; omega)
  refine ⟨W0.heap.size + 1, [{ target := .collected W0.heap.size, args := #[] }], W1, { target := .fn (.func 65) #[.pointer (some ⟨Bm, 0, none⟩)], args := #[.func (.yield (W0.heap.size + 1)) #[] #[]] }, W1, 65,
    #[.func (.yield (W0.heap.size + 1)) #[] #[]] ++ #[.pointer (some ⟨Bm, 0, none⟩)], W1, ?_, ?_, ?_, ?_, fun _ => h1, ?_⟩
  · rw [← hW1]; exact run_enterLoop_outer _ _ _ _ _
  · simp [resolve, go_sem]
  · intro f' hf'; simp [Target.leads] at hf'; subst hf'; exact h66
  · simp [invoke, go_sem, eg]
  · refine (keysN (F := F) (n := n - 1) h66 hro (by omega) (W0.heap.size + 1) Bm b m.length D0 (ApAt w fn (.func (.func 65) #[] #[.pointer (some ⟨Bm, 0, none⟩)]) w.heap.size (W0.heap.size + 1) W0.heap.size)
      (fun pre x W hJ hl => apYield (F := F) (m := n - 1 - 1) w fn hfn _ w.heap.size (W0.heap.size + 1) W0.heap.size (by omega) (by omega) (by omega) (Nat.le_refl _) (by omega) m.length hsz pre x W hJ (by omega)) W1 (ap_abides _ _ _ _ _ _ _ (by omega))
      ((A.only OW (by simp)).rd 0) hown hM).mono ?_
    rintro e W2 ⟨⟨v0, rfl⟩, ss, h2, left, hC, hl⟩
    obtain ⟨p, c, A2, H2⟩ := h2.box
    have hend := run_endLoop (P := Tryz.prog) h2.L (by simp [apRec])
    obtain ⟨W3, hW3⟩ : ∃ W3, W2.putObj (W0.heap.size + 1) (.loop { apRec fn (.func (.func 65) #[] #[.pointer (some ⟨Bm, 0, none⟩)]) w.heap.size W0.heap.size .ready none with state := .exhausted }) = W3 := ⟨_, rfl⟩
    rw [hW3] at hend
    have O3 : Only [W0.heap.size + 1] W2.heap W3.heap := by rw [← hW3]; exact Only.putW _ h2.L rfl rfl
    have S3 : Same W2 W3 := by rw [← hW3]; exact ⟨rfl, rfl, rfl⟩
    have hnl : ∀ b, (∃ c, At W2.heap b c) → b ∉ [W0.heap.size + 1] := fun b ⟨c, A⟩ hb => A.ne_obj h2.L rfl (by simpa using hb)
    have A3 := A2.only O3 (hnl _ ⟨_, A2⟩)
    have H3 := H2.onlyC O3 fun b _ hc => hnl b hc
    have hK3 : W3.heap[W0.heap.size]? = some (.deferred (some [])) := by rw [← hW3]; exact (World.putObj_heap_other (by omega)).trans h2.K
    have hc3 : W3.cell? ⟨w.heap.size, 0, none⟩ = some (.slice p ss.length c) := A3.rd 0
    have hf3 : W3.frozen? ⟨w.heap.size, 0, none⟩ = false := A3.fz 0 none
    clear hW3
    refine ⟨none, W3, hend, ?_⟩
    gi_wp2
    rw [← hs0]
    refine ⟨by simp, .inl ⟨_, _, rfl, run_takeDeferred hK3, ?_⟩⟩
    have O4 : Only [W0.heap.size] W3.heap (W3.putObj W0.heap.size (.deferred none)).heap := Only.putW _ hK3 rfl rfl
    have hF := H3.onlyC O4 (fun b _ hc hb => by obtain ⟨c, A⟩ := hc; exact A.ne_obj hK3 rfl (by simpa using hb))
    rw [← hs0] at hF
    exact ⟨_, results_tmp rfl _ _ _, p, c, ss, rfl, hC.perm hl hnd hD2, hF,
      (h2.only.trans O3 (by intro b hb hlt; simp at hb; omega)).trans O4 (by intro b hb hlt; simp at hb; omega), (h2.same.trans S3).trans ⟨rfl, rfl, rfl⟩⟩
theorem appSeq {h : Heap} {Bm b : Nat} {m : List (Int × Value)} {K : Value → Heap → Prop} (A : At h Bm [.map (some b)]) (M : MapM h b .u8 m)
    (hwf : ∀ x ∈ m.map (·.1), (Lit.int .u8 x).wf = true) (hsz : m.length * 4 ≤ 140737488355328)
    (hK : ∀ (p : Option Addr) (c : Nat) (h' : Heap) (ss : List Int), ss.Perm (m.map (·.1)) → Own h' (h.size + 1) 1 p ss.length c (ss.map (Value.int .u8)) → Only [] h h' → K (.slice p ss.length c) h') :
    CallsH Tryz.prog 81 [.slice none 0 0, .func (.func 65) #[] #[.pointer (some ⟨Bm, 0, none⟩)]] h K := fun w hw => by
  subst hw
  refine ((callsIn_wide (n := 2)).1 (appSeq_in (F := Fence.wide) (n := 2) trivial trivial rfl (by omega) Bm b m w A M hwf hsz)).mono ?_
  rintro e w' ⟨p, c, ss, rfl, h1, h2, h3, h4⟩
  exact ⟨_, rfl, h4, hK p c _ ss h1 h2 h3⟩
end Go.Proofs.YtnbnlhpleomaoaaGreat.Ev
/- WEIGHTS (package weigh): keys sorted, Best, Sum, Sample, Rank. Conditions: the store stands, the costs are few and in their bounds. -/
namespace Go.Proofs.YtnbnlhpleomaoaaGreat.Ev
open Go
theorem rowV_list (k : IntKind) (xs : List Int) : xs.map (Value.int k) = rowV xs.length fun i => .int k (xs.getD i 0) := by
  apply List.ext_getElem?
  intro i
  by_cases hi : i < xs.length
  · rw [rowV_get hi]
    simp [List.getD, hi]
  · rw [List.getElem?_eq_none (by simpa using Nat.le_of_not_lt hi), List.getElem?_eq_none (by rw [rowV_len]; omega)]
theorem map_getD (xs : List Int) : (List.range xs.length).map (fun i => xs.getD i 0) = xs := by
  apply List.ext_getElem?
  intro i
  by_cases hi : i < xs.length
  · simp [hi, List.getD]
  · rw [List.getElem?_eq_none (by simpa using Nat.le_of_not_lt hi), List.getElem?_eq_none (by omega)]
theorem snoc_ind {P : List Nat → Prop} (h0 : P []) (h1 : ∀ l x, P l → P (l ++ [x])) (l : List Nat) : P l := by
  rw [← List.reverse_reverse l]
  induction l.reverse with
  | nil => exact h0
  | cons x r ih => rw [List.reverse_cons]; exact h1 _ x ih
theorem keys41 {h : Heap} {b : Nat} {K : Value → Heap → Prop} (hK : ∀ h', At h' h.size [.map (some b)] → Only [] h h' → h'.size = h.size + 1 → K (.func (.func 65) #[] #[.pointer (some ⟨h.size, 0, none⟩)]) h') : CallsH Tryz.prog 41 [.map (some b)] h K := by
  refine F41.spec _ h K ?_
  unfold F41.w F41.J0
  exact newK_at fun h1 A1 O1 z1 => hK h1 A1 O1 z1
theorem strict_eq {l m : List Int} (hl : l.Pairwise (· < ·)) (hm : m.Pairwise (· < ·)) (hp : l.Perm m) : l = m :=
  List.Perm.eq_of_pairwise (le := fun a b => a < b) (fun a b _ _ h1 h2 => absurd (Int.lt_trans h1 h2) (Int.lt_irrefl _)) hl hm hp
/-- the keys of a map, in order -/
theorem sorted40 {h : Heap} {Bm b : Nat} {m : List (Int × Value)} {l : List Int} {K : Value → Heap → Prop} (A : At h Bm [.map (some b)]) (M : MapM h b .u8 m) (hl : l.Pairwise (· < ·)) (hp : (m.map (·.1)).Perm l)
    (hwf : ∀ x ∈ l, 0 ≤ x ∧ x < 256) (hK : ∀ p c h', Ints h' .u8 p l → Only [] h h' → K (.slice p l.length c) h') :
    CallsH Tryz.prog 40 [.func (.func 65) #[] #[.pointer (some ⟨Bm, 0, none⟩)]] h K := by
  refine F40.spec _ h K ?_
  unfold F40.w F40.J0
  refine F63.spec _ h _ ?_
  unfold F63.w F63.J0
  have nd : l.Nodup := hl.imp fun h e => absurd h (by omega)
  have hlen : l.length ≤ 256 := by
    have h1 : (l.map Int.toNat).Nodup := by
      rw [List.nodup_iff_pairwise_ne, List.pairwise_map]
      refine hl.imp_of_mem fun {a b} ha hb hab => ?_
      have := hwf a ha
      omega
    have h2 : (l.map Int.toNat).length ≤ (List.range 256).length := h1.length_le_of_subset fun x hx => by
      obtain ⟨y, hy, rfl⟩ := List.mem_map.1 hx
      have := hwf y hy
      rw [List.mem_range]
      omega
    simpa using h2
  have hml : m.length = l.length := by have := hp.length_eq; simpa using this
  refine appSeq A M (fun x hx => ?_) (by rw [hml]; omega) fun p c h1 ss hss Ow O1 => ldS_of rfl (ldS_of rfl ?_)
  · have := hwf x (hp.mem_iff.1 hx)
    simp [Lit.wf, IntKind.min, IntKind.max, IntKind.bits, IntKind.signed]
    omega
  have hpl : ss.Perm l := hss.trans hp
  have hsl : ss.length = l.length := hpl.length_eq
  rcases Ow.2 with ⟨rfl, h0, h1'⟩ | ⟨b1, sp, rfl, h2, h3, h4, h5⟩
  · rw [h0]
    refine sort50nil ⟨rfl, ?_⟩
    have el : l = [] := List.eq_nil_of_length_eq_zero (by omega)
    subst el
    exact hK none c h1 (fun i hi => absurd hi (by simp)) O1
  · have A1 : Arr .u8 h1 b1 ss.length (fun i => ss.getD i 0) sp := by
      unfold Arr
      rw [← rowV_list]
      exact h5
    have hLB : LB = 140737488355328 := rfl
    refine sort50 A1 (by omega) fun h2' g1 A2 R1 S1 O2 => ⟨rfl, ?_⟩
    have P := S1.perm (n := ss.length) (Nat.le_refl _)
    rw [map_getD] at P
    have nd1 : ((List.range ss.length).map g1).Nodup := P.nodup_iff.2 (hpl.nodup_iff.2 nd)
    have st1 : ((List.range ss.length).map g1).Pairwise (· < ·) := by
      rw [List.pairwise_map]
      refine (List.pairwise_lt_range (n := ss.length)).imp_of_mem fun {p q} hp hq hpq => ?_
      have h1 := R1 p q (Nat.zero_le _) hpq (List.mem_range.1 hq)
      have h2 : g1 p ≠ g1 q := fun e => by
        have nd2 := List.pairwise_map.1 nd1
        have := (List.pairwise_iff_getElem.1 nd2) p q (by simpa using List.mem_range.1 hp) (by simpa using List.mem_range.1 hq) hpq
        simp at this
        exact this e
      omega
    have el : (List.range ss.length).map g1 = l := strict_eq st1 hl (P.trans hpl)
    rw [hsl]
    have lz := O1.size
    refine hK (some ⟨b1, 0, none⟩) c h2' (fun i hi => ⟨_, rfl, ?_⟩) (O1.trans O2 (by intro b' hb' hlt; simp at hb'; omega))
    rw [add_mk, Nat.zero_add, A2.rd (by omega)]
    congr 2
    rw [← el, List.getD_eq_getElem?_getD, List.getElem?_map, List.getElem?_range (by omega)]
    rfl
def natL (l : List Nat) : List Int := l.map fun (x : Nat) => (x : Int)
theorem natL_len (l : List Nat) : (natL l).length = l.length := by simp [natL]
theorem cmap_keys (c : List Int) (l : List Nat) : (cmap c l).map (·.1) = natL l := by simp [cmap, natL]
theorem trs_sorted (p : Nat → Bool) (k : Nat) : (trs p k).Pairwise (· < ·) := List.Pairwise.filter _ List.pairwise_lt_range
theorem natL_sorted {l : List Nat} (h : l.Pairwise (· < ·)) : (natL l).Pairwise (· < ·) := by
  unfold natL
  rw [List.pairwise_map]
  exact h.imp fun h => by omega
theorem trs_mem {p : Nat → Bool} {k x : Nat} : x ∈ trs p k ↔ x < k ∧ p x = true := by
  unfold trs
  rw [List.mem_filter, List.mem_range]
theorem cmap_look {c : List Int} {l : List Nat} {x : Nat} (hx : x ∈ l) : (cmap c l).lookup (x : Int) = some (.int .i64 (cst c x c.length)) := by
  unfold cmap
  induction l with
  | nil => simp at hx
  | cons y l ih =>
    rw [List.map_cons, List.lookup_cons]
    by_cases e : x = y
    · subst e
      simp
    · rw [show ((x : Int) == (y : Int)) = false by simp; omega]
      exact ih (by simpa [e] using hx)
theorem cmap_look0 {c : List Int} {l : List Nat} {x : Nat} (hx : x ∉ l) : (cmap c l).lookup (x : Int) = none := by
  rw [lookup_none, cmap_keys]
  unfold natL
  simp only [List.mem_map, not_exists, not_and]
  intro y hy e
  have : y = x := by omega
  exact hx (this ▸ hy)
/-- the cheapest -/
def bst (c : List Int) (b : Nat × Bool) (x : Nat) : Nat × Bool := if !b.2 || decide (cst c x c.length < cst c b.1 c.length) then (x, true) else b
def bestF (c : List Int) (l : List Nat) : Nat × Bool := l.foldl (bst c) (0, false)
def bestV (c : List Int) (l : List Nat) : Int := if (bestF c l).2 then cst c (bestF c l).1 c.length else 0
theorem natL_getD {l : List Nat} {i : Nat} (hi : i < l.length) : (natL l).getD i 0 = (l[i] : Int) := by simp [natL, List.getD, hi]
theorem bestF_snoc (c : List Int) (l : List Nat) (x : Nat) : bestF c (l ++ [x]) = bst c (bestF c l) x := by simp [bestF]
theorem bestF_mem {c : List Int} {l : List Nat} : (bestF c l).2 = true → (bestF c l).1 ∈ l := by
  refine snoc_ind (P := fun l => (bestF c l).2 = true → (bestF c l).1 ∈ l) (fun h => by simp [bestF] at h) (fun l x ih => ?_) l
  rw [bestF_snoc]
  unfold bst
  split
  · simp
  · intro h
    exact List.mem_append.2 (.inl (ih h))
theorem bestF_none {c : List Int} {l : List Nat} : (bestF c l).2 = false → l = [] ∧ (bestF c l).1 = 0 := by
  refine snoc_ind (P := fun l => (bestF c l).2 = false → l = [] ∧ (bestF c l).1 = 0) (fun _ => ⟨rfl, rfl⟩) (fun l x ih => ?_) l
  rw [bestF_snoc]
  unfold bst
  split
  · intro h; cases h
  · next hn =>
    intro h
    rw [h] at hn
    simp at hn
section
variable {h : Heap} {s a cc : Nat} {L : List Nat} {X : SX} {cp : Option Addr} {c : List Int} {K : Value → Heap → Prop}
theorem rising42 (H : Sto h s L X) (hf : ∀ j, j < X.n → X.f j < 8) (ha : isN X.N a) (hK : ∀ p c h', Ints h' .u8 p (natL (trs (sm X.n X.f X.N a) (2 ^ X.n))) → Only [] h h' → K (.slice p (trs (sm X.n X.f X.N a) (2 ^ X.n)).length c) h') :
    CallsH Tryz.prog 42 [.pointer (some ⟨s, 0, none⟩), .int .u32 (a : Int)] h K := by
  have hp := two_pow_le H.ok.2.2.1
  refine F42.spec _ _ h K ?_
  unfold F42.w F42.J0
  refine all39 (c := []) H hf ha (fun i hi => absurd hi (by simp)) ⟨by simp, by simp⟩ fun h1 b M1 O1 g1 => ⟨_, rfl, keys41 fun h2 A2 O2 z2 => ⟨_, rfl, ?_⟩⟩
  refine sorted40 A2 (M1.only O2 (by simp)) (natL_sorted (trs_sorted _ _)) (by rw [cmap_keys]) (fun x hx => ?_) fun p c h3 I3 O3 => ldS_of rfl ?_
  · unfold natL at hx
    obtain ⟨y, hy, rfl⟩ := List.mem_map.1 hx
    have := (trs_mem.1 hy).1
    omega
  · rw [natL_len]
    exact hK p c h3 I3 ((O1.trans O2 (by simp)).trans O3 (by simp))
set_option maxRecDepth 100000 in
theorem best17 (H : Sto h s L X) (hf : ∀ j, j < X.n → X.f j < 8) (ha : isN X.N a) (hc : Ints h .i64 cp c) (hln : c.length = X.n) (hb : badC c = false)
    (hK : ∀ h', Only [] h h' → K (.tuple #[.int .u8 ((bestF c (trs (sm X.n X.f X.N a) (2 ^ X.n))).1 : Int), .int .i64 (bestV c (trs (sm X.n X.f X.N a) (2 ^ X.n))), .bool (bestF c (trs (sm X.n X.f X.N a) (2 ^ X.n))).2, .int .i64 0]) h') :
    CallsH Tryz.prog 17 [.pointer (some ⟨s, 0, none⟩), .int .u32 (a : Int), .slice cp c.length cc] h K := by
  have ok := H.ok
  have hp := two_pow_le ok.2.2.1
  have hco := cok_of (by omega) hb
  generalize hT : trs (sm X.n X.f X.N a) (2 ^ X.n) = T at hK
  have hT8 : ∀ x ∈ T, x < 256 := fun x hx => by
    subst hT
    have := (trs_mem.1 hx).1
    omega
  refine F17.spec _ _ _ _ _ h K ?_
  unfold F17.w F17.J0
  refine refuses38 H (by have := H.isN_lt ha; omega) (by omega) hc (fun hn => absurd ha hn) (fun _ e => by rcases e with e | e <;> simp_all) fun _ _ _ => ldI_of rfl ?_
  rw [show ((0 : Int) != 0) = false from rfl, bcase_false]
  refine all39 H hf ha hc hco fun h1 b M1 O1 g1 => ⟨_, rfl, keys41 fun h2 A2 O2 z2 => ⟨_, rfl, ?_⟩⟩
  rw [hT] at M1
  have M2 := M1.only O2 (by simp)
  refine sorted40 A2 M2 (natL_sorted (hT ▸ trs_sorted _ _)) (by rw [cmap_keys]) (fun x hx => ?_) fun p c3 h3 I3 O3 => ldS_of rfl ?_
  · unfold natL at hx
    obtain ⟨y, hy, rfl⟩ := List.mem_map.1 hx
    have := hT8 y hy
    omega
  have M3 := M2.only O3 (by simp)
  have O13 := (O1.trans O2 (by simp)).trans O3 (by simp)
  rw [natL_len]
  unfold F17.wk7 F17.Jk7
  have hTl : T.length ≤ 256 := by
    have := (trs (sm X.n X.f X.N a) (2 ^ X.n)).length_filter_le (fun _ => true)
    rw [← hT]
    unfold trs
    have := List.length_filter_le (sm X.n X.f X.N a) (List.range (2 ^ X.n))
    rw [List.length_range] at this
    omega
  have main : ∀ (d i : Nat), i + d = T.length → F17.wL7 (d + 1) (some b) ((bestF c (T.take i)).1 : Int) (bestF c (T.take i)).2 p T.length c3 (T.length : Int) (i : Int) h3 K := by
    intro d
    induction d with
    | zero =>
      intro i hd
      unfold F17.wL7 F17.JL7
      rw [decide_eq_false (by omega), bcase_false, List.take_of_length_le (by omega)]
      unfold F17.wk12 F17.Jk12
      cases hb2 : (bestF c T).2 with
      | true =>
        refine look_map M3 (fun hn => ?_) fun j v hv => ?_
        · rw [cmap_look (bestF_mem hb2)] at hn
          cases hn
        · rw [cmap_look (bestF_mem hb2)] at hv
          injection hv with hv
          subst hv
          refine ldI_of rfl ?_
          have := hK h3 O13
          unfold bestV at this
          rw [hb2, if_pos rfl] at this
          exact this
      | false =>
        obtain ⟨e1, e2⟩ := bestF_none hb2
        refine look_map M3 (fun hn => ?_) fun j v hv => ?_
        · refine ldI_of rfl ?_
          have := hK h3 O13
          unfold bestV at this
          rw [hb2] at this
          exact this
        · rw [cmap_look0 (by rw [e1]; simp)] at hv
          cases hv
    | succ d ih =>
      intro i hd
      have hi : i < T.length := by omega
      have nx := ih (i + 1) (by omega)
      have et : T.take (i + 1) = T.take i ++ [T[i]] := by rw [List.take_succ_eq_append_getElem hi]
      rw [et, bestF_snoc] at nx
      have hti : T[i] ∈ T := List.getElem_mem hi
      have hb8 := hT8 _ hti
      unfold F17.wL7 F17.JL7
      obtain ⟨ad, e1, r1⟩ := I3 i (by rw [natL_len]; exact hi)
      rw [natL_getD hi] at r1
      rw [decide_eq_true (by omega), bcase_true, e1, ptrK_some]
      refine ⟨by omega, by omega, ?_⟩
      rw [← e1, Nat.mul_one, Int.toNat_natCast, r1]
      refine ldI_of rfl ?_
      rw [show IntKind.wrap .i64 ((i : Int) + 1) = ((i + 1 : Nat) : Int) by rw [wrap_i64 (by omega) (by omega)]; omega]
      unfold bst at nx
      cases hb2 : (bestF c (T.take i)).2 with
      | false =>
        rw [hb2] at nx
        rw [Bool.not_false, bcase_true]
        simp only [Bool.not_false, Bool.true_or, if_true] at nx
        exact nx
      | true =>
        rw [Bool.not_true, bcase_false]
        have hbm : (bestF c (T.take i)).1 ∈ T := (List.take_sublist _ _).subset (bestF_mem hb2)
        refine look_map M3 (fun hn => ?_) fun j v hv => ?_
        · rw [cmap_look hti] at hn
          cases hn
        rw [cmap_look hti] at hv
        injection hv with hv
        subst hv
        refine ldI_of rfl (look_map M3 (fun hn => ?_) fun j2 v2 hv2 => ?_)
        · rw [cmap_look hbm] at hn
          cases hn
        rw [cmap_look hbm] at hv2
        injection hv2 with hv2
        subst hv2
        refine ldI_of rfl ?_
        rw [hb2] at nx
        simp only [Bool.not_true, Bool.false_or] at nx
        refine bcase_of (fun e => ?_) fun e => ?_
        · rw [if_pos e] at nx
          exact nx
        · rw [if_neg (by rw [e]; simp)] at nx
          rw [hb2] at nx
          exact nx
  have := main T.length 0 (by omega)
  exact ⟨_, this⟩
def sumC (c : List Int) : List Nat → Int
  | [] => 0
  | x :: l => cst c x c.length + sumC c l
theorem sumC_app (c : List Int) : ∀ l m : List Nat, sumC c (l ++ m) = sumC c l + sumC c m
  | [], m => by simp [sumC]
  | x :: l, m => by simp [sumC, sumC_app c l m]; omega
theorem sumC_bound {c : List Int} (H : COk c) : ∀ l : List Nat, -8000 * (l.length : Int) ≤ sumC c l ∧ sumC c l ≤ 8000 * (l.length : Int)
  | [] => by simp [sumC]
  | x :: l => by
    have ih := sumC_bound H l
    have := cst_bound H x c.length
    have := H.1
    simp only [sumC, List.length_cons]
    omega
theorem sum_mid {c : List Int} {l : List Nat} {A B : List (Int × Value)} {x : Int} {v : Value} (h : cmap c l = A ++ (x, v) :: B) : ∃ l1 y l2, l = l1 ++ y :: l2 ∧ A = cmap c l1 ∧ B = cmap c l2 ∧ x = (y : Nat) ∧ v = .int .i64 (cst c y c.length) := by
  unfold cmap at h
  obtain ⟨l1, l', e1, e2, e3⟩ := List.map_eq_append_iff.1 h
  obtain ⟨y, l2, e4, e5, e6⟩ := List.map_eq_cons_iff.1 e3
  subst e4
  injection e5 with e7 e8
  exact ⟨l1, y, l2, e1, e2.symm, e6.symm, e7.symm, e8.symm⟩
theorem sum18 (H : Sto h s L X) (hf : ∀ j, j < X.n → X.f j < 8) (ha : isN X.N a) (hc : Ints h .i64 cp c) (hln : c.length = X.n) (hb : badC c = false)
    (hK : ∀ h', Only [] h h' → K (.tuple #[.int .i64 (sumC c (trs (sm X.n X.f X.N a) (2 ^ X.n))), .int .i64 0]) h') :
    CallsH Tryz.prog 18 [.pointer (some ⟨s, 0, none⟩), .int .u32 (a : Int), .slice cp c.length cc] h K := by
  have ok := H.ok
  have hp := two_pow_le ok.2.2.1
  have hco := cok_of (by omega) hb
  generalize hT : trs (sm X.n X.f X.N a) (2 ^ X.n) = T at hK
  have hTl : T.length ≤ 256 := by
    rw [← hT]
    unfold trs
    have := List.length_filter_le (sm X.n X.f X.N a) (List.range (2 ^ X.n))
    rw [List.length_range] at this
    omega
  refine F18.spec _ _ _ _ _ h K ?_
  unfold F18.w F18.J0
  refine refuses38 H (by have := H.isN_lt ha; omega) (by omega) hc (fun hn => absurd ha hn) (fun _ e => by rcases e with e | e <;> simp_all) fun _ _ _ => ldI_of rfl ?_
  rw [show ((0 : Int) != 0) = false from rfl, bcase_false]
  refine all39 H hf ha hc hco fun h1 b M1 O1 g1 => ⟨_, rfl, ?_⟩
  rw [hT] at M1
  refine rng_start M1 fun h2 R2 O2 z2 => ?_
  have lb := M1.lt
  unfold F18.wk6 F18.Jk6
  have main : ∀ (d : Nat) (left : List Nat) (acc : Int) (h' : Heap), left.length ≤ d → left.length ≤ 256 → acc + sumC c left = sumC c T → Rng h' h1.size b .u8 (cmap c T) (cmap c left) → Only [] h h' → F18.wL6 (d + 1) acc (some ⟨h1.size, 0, none⟩) h' K := by
    intro d
    induction d with
    | zero =>
      intro left acc h' hd h256 hs R O
      have e : left = [] := List.eq_nil_of_length_eq_zero (by omega)
      subst e
      unfold F18.wL6 F18.JL6
      refine rng_next R (by omega) (fun _ => ?_) fun A x v B h3 e => ?_
      · simp [sumC] at hs
        rw [hs]
        exact hK h' O
      · simp [cmap] at e
    | succ d ih =>
      intro left acc h' hd h256 hs R O
      unfold F18.wL6 F18.JL6
      refine rng_next R (by omega) (fun e => ?_) fun A x v B h3 e R3 P3 O3 z3 => ?_
      · have e : left = [] := by
          cases left with
          | nil => rfl
          | cons y l => simp [cmap] at e
        subst e
        simp [sumC] at hs
        rw [hs]
        exact hK h' O
      · obtain ⟨l1, y, l2, e1, e2, e3, e4, e5⟩ := sum_mid e
        subst e1 e2 e3 e4 e5
        refine rng_entry P3 ⟨_, _, rfl, ?_⟩
        have e6 : sumC c (l1 ++ y :: l2) = cst c y c.length + sumC c (l1 ++ l2) := by
          rw [sumC_app, sumC_app]
          simp only [sumC]
          omega
        have hbd := sumC_bound hco T
        have hbd2 := sumC_bound hco (l1 ++ y :: l2)
        have hbd3 := sumC_bound hco (l1 ++ l2)
        simp only [List.length_append, List.length_cons] at h256 hd hbd2 hbd3
        have ew : IntKind.wrap .i64 (acc + cst c y c.length) = acc + cst c y c.length := wrap_i64 (by omega) (by omega)
        rw [ew]
        have lt := R.lt
        have lz := O1.size
        refine ih (l1 ++ l2) _ h3 (by simp; omega) (by simp; omega) (by omega) ?_ (O.trans O3 (by intro b' hb' hl'; simp at hb'; omega))
        rw [cmap_app]
        exact R3
  exact ⟨_, main T.length T 0 h2 (Nat.le_refl _) hTl (by omega) R2 (O1.trans O2 (by simp))⟩
theorem sample19 {k : Int} (H : Sto h s L X) (hf : ∀ j, j < X.n → X.f j < 8) (ha : isN X.N a)
    (h0 : ∀ h', (k < 0 ∨ ((trs (sm X.n X.f X.N a) (2 ^ X.n)).length : Int) ≤ k) → Only [] h h' → K (.tuple #[.int .u8 0, .bool false, .int .i64 0]) h')
    (h1 : ∀ h' (i y : Nat), (trs (sm X.n X.f X.N a) (2 ^ X.n))[i]? = some y → k = i → Only [] h h' → K (.tuple #[.int .u8 (y : Int), .bool true, .int .i64 0]) h') :
    CallsH Tryz.prog 19 [.pointer (some ⟨s, 0, none⟩), .int .u32 (a : Int), .int .i64 k] h K := by
  refine F19.spec _ _ _ h K ?_
  unfold F19.w F19.J0
  refine sto_is1 H ha (ldB_of rfl ?_)
  rw [Bool.not_true, bcase_false]
  refine rising42 H hf ha fun p c h2 I2 O2 => ldS_of rfl ?_
  generalize trs (sm X.n X.f X.N a) (2 ^ X.n) = T at h0 h1 I2
  refine bcase_of (fun e => h0 h2 (.inl (of_decide_eq_true e)) O2) fun e => bcase_of (fun e' => h0 h2 (.inr (of_decide_eq_true e')) O2) fun e' => ?_
  have e := of_decide_eq_false e
  have e' := of_decide_eq_false e'
  obtain ⟨i, rfl⟩ : ∃ i : Nat, k = i := ⟨k.toNat, by omega⟩
  have hi : i < T.length := by omega
  obtain ⟨ad, e1, r1⟩ := I2 i (by rw [natL_len]; exact hi)
  rw [natL_getD hi] at r1
  rw [e1, ptrK_some]
  refine ⟨by omega, by omega, ?_⟩
  rw [Nat.mul_one, Int.toNat_natCast, r1]
  exact ldI_of rfl (h1 h2 i _ (List.getElem?_eq_getElem hi) rfl O2)
theorem nan67 {x : Int} (hK : K (.bool false) h) : CallsH Tryz.prog 67 [.int .u8 x] h K := by
  refine F67.spec _ h K ?_
  unfold F67.w F67.J0
  rw [show (x != x) = false by simp]
  exact hK
/-- how many lie below -/
def below (l : List Nat) (x : Nat) : Nat := (l.filter fun y => decide (y < x)).length
theorem below_of {l : List Nat} (hl : l.Pairwise (· < ·)) {x i : Nat} (hi : i ≤ l.length) (h1 : ∀ j (hj : j < l.length), j < i → l[j] < x) (h2 : ∀ j (hj : j < l.length), i ≤ j → x ≤ l[j]) : below l x = i := by
  unfold below
  have e : l = l.take i ++ l.drop i := (List.take_append_drop i l).symm
  rw [e, List.filter_append, List.filter_eq_self.2 fun y hy => ?_, List.filter_eq_nil_iff.2 fun y hy => ?_]
  · simp; omega
  · obtain ⟨j, hj, rfl⟩ := List.mem_iff_getElem.1 hy
    rw [List.getElem_drop]
    have := h2 (i + j) (by simp at hj; omega) (by omega)
    simp; omega
  · obtain ⟨j, hj, rfl⟩ := List.mem_iff_getElem.1 hy
    rw [List.getElem_take]
    have := h1 j (by simp at hj; omega) (by simp at hj; omega)
    simpa using this
theorem rank20 {x : Nat} (H : Sto h s L X) (hf : ∀ j, j < X.n → X.f j < 8) (ha : isN X.N a)
    (hK : ∀ h', Only [] h h' → K (.tuple #[.int .i64 (below (trs (sm X.n X.f X.N a) (2 ^ X.n)) x : Int), .int .i64 0]) h') :
    CallsH Tryz.prog 20 [.pointer (some ⟨s, 0, none⟩), .int .u32 (a : Int), .int .u8 (x : Int)] h K := by
  have hp := two_pow_le H.ok.2.2.1
  refine F20.spec _ _ _ h K ?_
  unfold F20.w F20.J0
  refine sto_is1 H ha (ldB_of rfl ?_)
  rw [Bool.not_true, bcase_false]
  refine rising42 H hf ha fun p c h2 I2 O2 => ldS_of rfl ?_
  have hTs := trs_sorted (sm X.n X.f X.N a) (2 ^ X.n)
  have hTl : (trs (sm X.n X.f X.N a) (2 ^ X.n)).length ≤ 256 := by
    unfold trs
    have := List.length_filter_le (sm X.n X.f X.N a) (List.range (2 ^ X.n))
    rw [List.length_range] at this
    omega
  generalize trs (sm X.n X.f X.N a) (2 ^ X.n) = T at hK I2 hTs hTl
  have mono : ∀ i j (hi : i < T.length) (hj : j < T.length), i ≤ j → T[i] ≤ T[j] := fun i j hi hj hij => by
    rcases Nat.lt_or_ge i j with h | h
    · exact Nat.le_of_lt ((List.pairwise_iff_getElem.1 hTs) i j hi hj h)
    · have : i = j := by omega
      subst this
      exact Nat.le_refl _
  refine F43.spec _ _ _ _ h2 _ ?_
  unfold F43.w F43.J0 F43.wk3 F43.Jk3
  have main : ∀ (d i j : Nat), j - i ≤ d → i ≤ j → j ≤ T.length → (∀ q (hq : q < T.length), q < i → T[q] < x) → (∀ q (hq : q < T.length), j ≤ q → x ≤ T[q]) →
      F43.wL3 (d + 1) p T.length c (x : Int) (T.length : Int) (i : Int) (j : Int) h2 fun v9 h10 => ∃ n11 : Int, ∃ b12 : Bool, v9 = (.tuple #[(.int .i64 n11), (.bool b12)]) ∧ K (.tuple #[(.int .i64 n11), (.int .i64 (0 : Int))]) h10 := by
    intro d
    induction d with
    | zero =>
      intro i j hd hij hj h1 h3
      have : i = j := by omega
      subst this
      have hb := below_of hTs hj h1 h3
      have fin : ∀ h' bb, Only [] h h' → ∃ n11 : Int, ∃ b12 : Bool, (Value.tuple #[(.int .i64 (i : Int)), (.bool bb)]) = (.tuple #[(.int .i64 n11), (.bool b12)]) ∧ K (.tuple #[(.int .i64 n11), (.int .i64 (0 : Int))]) h' := fun h' bb O => by
        have := hK h' O
        rw [hb] at this
        exact ⟨_, _, rfl, this⟩
      unfold F43.wL3 F43.JL3
      rw [decide_eq_false (by omega), bcase_false]
      unfold F43.wk8 F43.Jk8
      refine bcase_of (fun e => ?_) fun e => fin h2 false O2
      have e := of_decide_eq_true e
      have hi : i < T.length := by omega
      obtain ⟨ad, e1, r1⟩ := I2 i (by rw [natL_len]; exact hi)
      rw [natL_getD hi] at r1
      rw [e1, ptrK_some]
      refine ⟨by omega, by omega, ?_⟩
      rw [Nat.mul_one, Int.toNat_natCast, r1]
      refine ldI_of rfl (bcase_of (fun _ => fin h2 true O2) fun _ => ?_)
      rw [ptrK_some]
      refine ⟨by omega, by omega, ?_⟩
      rw [r1]
      refine ldI_of rfl (nan67 (ldB_of rfl ?_))
      rw [bcase_false]
      exact fin h2 false O2
    | succ d ih =>
      intro i j hd hij hj h1 h3
      by_cases hlt : i < j
      · unfold F43.wL3 F43.JL3
        rw [decide_eq_true (by omega), bcase_true]
        have em : IntKind.wrap .i64 (Int.fdiv (IntKind.wrap .u64 (IntKind.wrap .i64 ((i : Int) + (j : Int)))) (2 ^ (min (Int.toNat (1 : Int)) (IntKind.bits .u64)))) = (((i + j) / 2 : Nat) : Int) := by
          rw [wrap_i64 (n := (i : Int) + (j : Int)) (by omega) (by omega), show (i : Int) + (j : Int) = ((i + j : Nat) : Int) by omega, wrap_u64 (by omega) (by omega), show (2 : Int) ^ (min (Int.toNat (1 : Int)) (IntKind.bits .u64)) = 2 by rfl,
            Int.fdiv_eq_ediv_of_nonneg _ (by omega)]
          rw [wrap_i64 (by omega) (by omega)]
          omega
        rw [em]
        generalize hm : (i + j) / 2 = q
        have hq1 : i ≤ q := by omega
        have hq2 : q < j := by omega
        have hqT : q < T.length := by omega
        obtain ⟨ad, e1, r1⟩ := I2 q (by rw [natL_len]; exact hqT)
        rw [natL_getD hqT] at r1
        rw [e1, ptrK_some]
        refine ⟨by omega, by omega, by omega, ?_⟩
        rw [← e1, Nat.mul_one, Int.toNat_natCast, r1]
        refine ldI_of rfl (less82 (ldB_of rfl ?_))
        refine bcase_of (fun e => ?_) fun e => ?_
        · have e := of_decide_eq_true e
          rw [show IntKind.wrap .i64 ((q : Int) + 1) = ((q + 1 : Nat) : Int) by rw [wrap_i64 (by omega) (by omega)]; omega]
          refine ih (q + 1) j (by omega) (by omega) hj (fun t ht ht2 => ?_) h3
          have := mono t q ht hqT (by omega)
          omega
        · have e := of_decide_eq_false e
          refine ih i q (by omega) (by omega) (by omega) h1 fun t ht ht2 => ?_
          have := mono q t hqT ht ht2
          omega
      · have : i = j := by omega
        subst this
        have hb := below_of hTs hj h1 h3
        have fin : ∀ h' bb, Only [] h h' → ∃ n11 : Int, ∃ b12 : Bool, (Value.tuple #[(.int .i64 (i : Int)), (.bool bb)]) = (.tuple #[(.int .i64 n11), (.bool b12)]) ∧ K (.tuple #[(.int .i64 n11), (.int .i64 (0 : Int))]) h' := fun h' bb O => by
          have := hK h' O
          rw [hb] at this
          exact ⟨_, _, rfl, this⟩
        unfold F43.wL3 F43.JL3
        rw [decide_eq_false (by omega), bcase_false]
        unfold F43.wk8 F43.Jk8
        refine bcase_of (fun e => ?_) fun e => fin h2 false O2
        have e := of_decide_eq_true e
        have hi : i < T.length := by omega
        obtain ⟨ad, e1, r1⟩ := I2 i (by rw [natL_len]; exact hi)
        rw [natL_getD hi] at r1
        rw [e1, ptrK_some]
        refine ⟨by omega, by omega, ?_⟩
        rw [Nat.mul_one, Int.toNat_natCast, r1]
        refine ldI_of rfl (bcase_of (fun _ => fin h2 true O2) fun _ => ?_)
        rw [ptrK_some]
        refine ⟨by omega, by omega, ?_⟩
        rw [r1]
        refine ldI_of rfl (nan67 (ldB_of rfl ?_))
        rw [bcase_false]
        exact fin h2 false O2
  exact ⟨_, main T.length 0 T.length (by omega) (by omega) (Nat.le_refl _) (fun q hq h => by omega) fun q hq h => by omega⟩
end
end Go.Proofs.YtnbnlhpleomaoaaGreat.Ev
/- PRINTED BY PROGRAM: what each of these functions does, computed over heaps by the evaluator, and that its calls do so. Conditions: none. -/
namespace Go.Proofs.YtnbnlhpleomaoaaGreat.Ev
open Go
-- spinney/spinneylaw30.known
namespace F10
def T : Hint := ⟨[], []⟩
noncomputable def body : Code := (Tryz.f10.body).getD .skip
def J0 (h : Heap) (K : KK) : Prop :=
  CallsH Tryz.prog 11 [(.int .i64 (2 : Int)), (.int .i64 (100 : Int))] h (fun v1 h2 => (∃ p3 : Option Addr, ∃ n4 : Int, v1 = (.tuple #[(.pointer p3), (.int .i64 n4)]) ∧ bcase (n4 != (0 : Int)) (K (.bool false) h2) (CallsH Tryz.prog 28 [(.int .i64 (0 : Int))] h2 (fun v5 h6 => (∃ n7 : Int, ∃ n8 : Int, ∃ n9 : Int, ∃ n10 : Int, v5 = (.agg #[(.int .u64 n7), (.int .u64 n8), (.int .u64 n9), (.int .u64 n10)]) ∧ CallsH Tryz.prog 28 [(.int .i64 (1 : Int))] h6 (fun v11 h12 => (∃ n13 : Int, ∃ n14 : Int, ∃ n15 : Int, ∃ n16 : Int, v11 = (.agg #[(.int .u64 n13), (.int .u64 n14), (.int .u64 n15), (.int .u64 n16)]) ∧ CallsH Tryz.prog 27 [(.agg #[(.int .u64 n7), (.int .u64 n8), (.int .u64 n9), (.int .u64 n10)]), (.agg #[(.int .u64 n13), (.int .u64 n14), (.int .u64 n15), (.int .u64 n16)])] h12 (fun v17 h18 => (∃ n19 : Int, ∃ n20 : Int, ∃ n21 : Int, ∃ n22 : Int, v17 = (.agg #[(.int .u64 n19), (.int .u64 n20), (.int .u64 n21), (.int .u64 n22)]) ∧ CallsH Tryz.prog 12 [(.agg #[(.int .u64 n19), (.int .u64 n20), (.int .u64 n21), (.int .u64 n22)]), (.int .i64 (2 : Int))] h18 (fun v23 h24 => (∃ n25 : Int, ∃ n26 : Int, ∃ n27 : Int, ∃ n28 : Int, v23 = (.agg #[(.int .u64 n25), (.int .u64 n26), (.int .u64 n27), (.int .u64 n28)]) ∧ CallsH Tryz.prog 13 [(.pointer p3), (.agg #[(.int .u64 n25), (.int .u64 n26), (.int .u64 n27), (.int .u64 n28)])] h24 (fun v29 h30 => (∃ n31 : Int, ∃ b32 : Bool, v29 = (.tuple #[(.int .u32 n31), (.bool b32)]) ∧ newK h30 (.cells #[(.int .i64 (5 : Int)), (.int .i64 (2 : Int))] 3) (fun b33 h34 => CallsH Tryz.prog 17 [(.pointer p3), (.int .u32 n31), (.slice (some (Addr.mk b33 0 none)) 2 2)] h34 (fun v35 h36 => (∃ n37 : Int, ∃ n38 : Int, ∃ b39 : Bool, ∃ n40 : Int, v35 = (.tuple #[(.int .u8 n37), (.int .i64 n38), (.bool b39), (.int .i64 n40)]) ∧ newK h36 (.cells #[(.int .i64 (1 : Int)), (.int .i64 (1 : Int))] 3) (fun b41 h42 => CallsH Tryz.prog 18 [(.pointer p3), (.int .u32 n31), (.slice (some (Addr.mk b41 0 none)) 2 2)] h42 (fun v43 h44 => (∃ n45 : Int, ∃ n46 : Int, v43 = (.tuple #[(.int .i64 n45), (.int .i64 n46)]) ∧ CallsH Tryz.prog 19 [(.pointer p3), (.int .u32 n31), (.int .i64 (2 : Int))] h44 (fun v47 h48 => (∃ n49 : Int, ∃ b50 : Bool, ∃ n51 : Int, v47 = (.tuple #[(.int .u8 n49), (.bool b50), (.int .i64 n51)]) ∧ CallsH Tryz.prog 20 [(.pointer p3), (.int .u32 n31), (.int .u8 (3 : Int))] h48 (fun v52 h53 => (∃ n54 : Int, ∃ n55 : Int, v52 = (.tuple #[(.int .i64 n54), (.int .i64 n55)]) ∧ newK h53 (.cells #[(.int .i64 (1 : Int))] 3) (fun b56 h57 => CallsH Tryz.prog 18 [(.pointer p3), (.int .u32 n31), (.slice (some (Addr.mk b56 0 none)) 1 1)] h57 (fun v58 h59 => (∃ n60 : Int, ∃ n61 : Int, v58 = (.tuple #[(.int .i64 n60), (.int .i64 n61)]) ∧ bcase (n40 == (0 : Int)) (bcase b39 (bcase (n37 == (2 : Int)) (bcase (n38 == (2 : Int)) (bcase (n46 == (0 : Int)) (bcase (n45 == (4 : Int)) (bcase (n51 == (0 : Int)) (bcase b50 (bcase (n49 == (3 : Int)) (bcase (n55 == (0 : Int)) (bcase (n54 == (2 : Int)) (K (.bool (n61 == (40 : Int))) h59) (K (.bool false) h59)) (K (.bool false) h59)) (K (.bool false) h59)) (K (.bool false) h59)) (K (.bool false) h59)) (K (.bool false) h59)) (K (.bool false) h59)) (K (.bool false) h59)) (K (.bool false) h59)) (K (.bool false) h59)) (K (.bool false) h59)))))))))))))))))))))))))))
theorem E0 (S : Stop) (h : Heap) (K : KK) : (E Tryz.prog X T S body (fin Tryz.prog Tryz.f10.results.toList K) (args0 0 []) h) = J0 h K := by kernel_rfl
def w (h : Heap) (K : KK) : Prop :=
  J0 h K
theorem e0 (K : KK) (h : Heap) : (E Tryz.prog X T S0 body (fin Tryz.prog Tryz.f10.results.toList K) (args0 0 []) h) = w h K := (E0 S0 h K).trans (rfl)
theorem hb : Tryz.f10.body = some body := by kernel_rfl
theorem ok : okCode T Tryz.f10.ntmps body = true := by kernel_rfl
theorem spec (h : Heap) (K : KK) (H : w h K) : CallsH Tryz.prog 10 [] h K :=
  calls_of_E (T := T) Xok mix Tryz.func10 hb ok rfl (by rw [e0]; exact H)
end F10
-- spinney/spinneylaw30.WeighSamples
namespace F6
def T : Hint := ⟨[(9, [1, 2, 5, 7, 8, 9, 10]), (17, [5, 7, 8])], []⟩
noncomputable def body : Code := (Tryz.f6.body).getD .skip
noncomputable def en (S : Stop) (p : List Nat) (κ : XK) : Fr → Heap → Prop := E Tryz.prog X T S (sub body p) κ
noncomputable def ln (S : Stop) (p : List Nat) (κ : XK) (n : Nat) : Fr → Heap → Prop := loopN S (E Tryz.prog X T S (sub body p)) (cutQ T (sub body p)) κ n
def fn (K : KK) : XK := fin Tryz.prog Tryz.f6.results.toList K
noncomputable def c0 (S : Stop) (K : KK) : XK := seqN S (cutQ T (sub body [1, 1, 1, 1, 1, 1, 1])) (en S [1, 1, 1, 1, 1, 1, 1] (fn K)) (fn K)
noncomputable def c1 (S : Stop) (K : KK) : XK := blockN 0 (c0 S K)
noncomputable def c2 (S : Stop) (n9 : Nat) (K : KK) : XK := backN S (cutQ T (sub body [1, 1, 1, 1, 1, 1, 0, 1, 0, 0])) (ln S [1, 1, 1, 1, 1, 1, 0, 1, 0, 0] (c1 S K) n9) (c1 S K)
def f9 (x1 : Int) (x2 : Addr) (x5 : Option Addr) (x7 : Int) (x8 : Bool) (x9 x10 : Int) : Fr := [(1, (.int .u8 x1)), (2, (.pointer (some x2))), (5, (.pointer x5)), (7, (.int .u32 x7)), (8, (.bool x8)), (9, (.int .i64 x9)), (10, (.int .i64 x10))]
def f17 (x5 : Option Addr) (x7 : Int) (x8 : Bool) : Fr := [(5, (.pointer x5)), (7, (.int .u32 x7)), (8, (.bool x8))]
def J0 (k9 : Int → Addr → (Option Addr) → Int → Bool → Int → Int → Heap → Prop) (x0_0 x0_1 x0_2 x0_3 x1 : Int) (h : Heap) (K : KK) : Prop :=
  newK h (.cells #[(.int .u64 x0_0), (.int .u64 x0_1), (.int .u64 x0_2), (.int .u64 x0_3)] 24) (fun b1 h2 => CallsH Tryz.prog 10 [] h2 (fun v3 h4 => ldB (some v3) (fun b5 => bcase (!b5) (K (.bool false) h4) (CallsH Tryz.prog 11 [(.int .i64 (8 : Int)), (.int .i64 (200 : Int))] h4 (fun v6 h7 => (∃ p8 : Option Addr, ∃ n9 : Int, v6 = (.tuple #[(.pointer p8), (.int .i64 n9)]) ∧ bcase (n9 != (0 : Int)) (K (.bool false) h7) (ldI .u64 (rd h7 (Addr.add (Addr.mk b1 0 none) 0)) (fun n10 => ldI .u64 (rd h7 (Addr.add (Addr.mk b1 0 none) 1)) (fun n11 => ldI .u64 (rd h7 (Addr.add (Addr.mk b1 0 none) 2)) (fun n12 => ldI .u64 (rd h7 (Addr.add (Addr.mk b1 0 none) 3)) (fun n13 => CallsH Tryz.prog 13 [(.pointer p8), (.agg #[(.int .u64 n10), (.int .u64 n11), (.int .u64 n12), (.int .u64 n13)])] h7 (fun v14 h15 => (∃ n16 : Int, ∃ b17 : Bool, v14 = (.tuple #[(.int .u32 n16), (.bool b17)]) ∧ k9 x1 (Addr.mk b1 0 none) p8 n16 b17 (0 : Int) (0 : Int) h15)))))))))))))
theorem E0 (S : Stop) (x0_0 x0_1 x0_2 x0_3 x1 : Int) (h : Heap) (K : KK) : (E Tryz.prog X T S body (fin Tryz.prog Tryz.f6.results.toList K) (args0 0 [(.agg #[(.int .u64 x0_0), (.int .u64 x0_1), (.int .u64 x0_2), (.int .u64 x0_3)]), (.int .u8 x1)]) h) = J0 (fun x1 x2 x5 x7 x8 x9 x10 h => S (en S [1, 1, 1, 1, 1, 1, 0, 1] (c0 S K)) (f9 x1 x2 x5 x7 x8 x9 x10) h) x0_0 x0_1 x0_2 x0_3 x1 h K := by kernel_rfl
def Jk9 (lp9 : Int → Addr → (Option Addr) → Int → Bool → Int → Int → Heap → Prop) (x1 : Int) (x2 : Addr) (x5 : Option Addr) (x7 : Int) (x8 : Bool) (x9 x10 : Int) (h : Heap) (_K : KK) : Prop :=
  lp9 x1 x2 x5 x7 x8 x9 x10 h
theorem Ek9 (S : Stop) (x1 : Int) (x2 : Addr) (x5 : Option Addr) (x7 : Int) (x8 : Bool) (x9 x10 : Int) (h : Heap) (K : KK) : (en S [1, 1, 1, 1, 1, 1, 0, 1] (c0 S K) (f9 x1 x2 x5 x7 x8 x9 x10) h) = Jk9 (fun x1 x2 x5 x7 x8 x9 x10 h => ∃ n, S (ln S [1, 1, 1, 1, 1, 1, 0, 1, 0, 0] (c1 S K) n) (f9 x1 x2 x5 x7 x8 x9 x10) h) x1 x2 x5 x7 x8 x9 x10 h K := by kernel_rfl
def JL9 (bk9 : Int → Addr → (Option Addr) → Int → Bool → Int → Int → Heap → Prop) (k17 : (Option Addr) → Int → Bool → Heap → Prop) (x1 : Int) (x2 : Addr) (x5 : Option Addr) (x7 : Int) (x8 : Bool) (x9 x10 : Int) (h : Heap) (K : KK) : Prop :=
  bcase (decide (x10 < (256 : Int))) (((64 : Int) ≠ 0 ∧ (0 ≤ (IntKind.wrap .i64 (Int.tdiv x10 (64 : Int))) ∧ (IntKind.wrap .i64 (Int.tdiv x10 (64 : Int))) < (Nat.cast 4 : Int) ∧ ldI .u64 (rd h (Addr.add x2 (Int.toNat (IntKind.wrap .i64 (Int.tdiv x10 (64 : Int))) * 1))) (fun n1 => ((64 : Int) ≠ 0 ∧ (0 ≤ (IntKind.wrap .u64 (Int.tmod x10 (64 : Int))) ∧ bcase ((bitsI .and .u64 (Int.fdiv n1 (2 ^ (min (Int.toNat (IntKind.wrap .u64 (Int.tmod x10 (64 : Int)))) (IntKind.bits .u64)))) (1 : Int)) == (0 : Int)) (bk9 x1 x2 x5 x7 x8 x9 (IntKind.wrap .i64 (x10 + (1 : Int))) h) (((9 : Int) ≠ 0 ∧ ((IntKind.wrap .i64 ((IntKind.wrap .i64 (Int.tmod x1 (9 : Int))) + (1 : Int))) ≠ 0 ∧ bcase ((Int.tmod x9 (IntKind.wrap .i64 ((IntKind.wrap .i64 (Int.tmod x1 (9 : Int))) + (1 : Int)))) == (0 : Int)) (CallsH Tryz.prog 19 [(.pointer x5), (.int .u32 x7), (.int .i64 x9)] h (fun v2 h3 => (∃ n4 : Int, ∃ b5 : Bool, ∃ n6 : Int, v2 = (.tuple #[(.int .u8 n4), (.bool b5), (.int .i64 n6)]) ∧ bcase (!b5) (K (.bool false) h3) (bcase (n6 != (0 : Int)) (K (.bool false) h3) (bcase ((IntKind.wrap .i64 n4) != x10) (K (.bool false) h3) (bk9 x1 x2 x5 x7 x8 (IntKind.wrap .i64 (x9 + (1 : Int))) (IntKind.wrap .i64 (x10 + (1 : Int))) h3)))))) (bk9 x1 x2 x5 x7 x8 (IntKind.wrap .i64 (x9 + (1 : Int))) (IntKind.wrap .i64 (x10 + (1 : Int))) h)))))))))) (k17 x5 x7 x8 h)
theorem EL9 (S : Stop) (n9 : Nat) (x1 : Int) (x2 : Addr) (x5 : Option Addr) (x7 : Int) (x8 : Bool) (x9 x10 : Int) (h : Heap) (K : KK) : (en S [1, 1, 1, 1, 1, 1, 0, 1, 0, 0] (c2 S n9 K) (f9 x1 x2 x5 x7 x8 x9 x10) h) = JL9 (fun x1 x2 x5 x7 x8 x9 x10 h => S (ln S [1, 1, 1, 1, 1, 1, 0, 1, 0, 0] (c1 S K) n9) (f9 x1 x2 x5 x7 x8 x9 x10) h) (fun x5 x7 x8 h => S (en S [1, 1, 1, 1, 1, 1, 1] (fn K)) (f17 x5 x7 x8) h) x1 x2 x5 x7 x8 x9 x10 h K := by kernel_rfl
def Jk17 (x5 : Option Addr) (x7 : Int) (x8 : Bool) (h : Heap) (K : KK) : Prop :=
  CallsH Tryz.prog 19 [(.pointer x5), (.int .u32 x7), (.int .i64 (-1 : Int))] h (fun v1 h2 => (∃ n3 : Int, ∃ b4 : Bool, ∃ n5 : Int, v1 = (.tuple #[(.int .u8 n3), (.bool b4), (.int .i64 n5)]) ∧ bcase x8 (K (.bool (!b4)) h2) (K (.bool false) h2)))
theorem Ek17 (S : Stop) (x5 : Option Addr) (x7 : Int) (x8 : Bool) (h : Heap) (K : KK) : (en S [1, 1, 1, 1, 1, 1, 1] (fn K) (f17 x5 x7 x8) h) = Jk17 x5 x7 x8 h K := by kernel_rfl
def wk17 (x5 : Option Addr) (x7 : Int) (x8 : Bool) (h : Heap) (K : KK) : Prop :=
  Jk17 x5 x7 x8 h K
theorem ek17 (K : KK) (x5 : Option Addr) (x7 : Int) (x8 : Bool) (h : Heap) : (en S0 [1, 1, 1, 1, 1, 1, 1] (fn K) (f17 x5 x7 x8) h) = wk17 x5 x7 x8 h K := (Ek17 S0 x5 x7 x8 h K).trans (rfl)
def wL9 : Nat → Int → Addr → (Option Addr) → Int → Bool → Int → Int → Heap → KK → Prop
  | 0, _, _, _, _, _, _, _, _, _ => False
  | n + 1, x1, x2, x5, x7, x8, x9, x10, h, K => JL9 (fun x1 x2 x5 x7 x8 x9 x10 h => wL9 n x1 x2 x5 x7 x8 x9 x10 h K) (fun x5 x7 x8 h => wk17 x5 x7 x8 h K) x1 x2 x5 x7 x8 x9 x10 h K
theorem eL9 (K : KK) : ∀ (n : Nat) (x1 : Int) (x2 : Addr) (x5 : Option Addr) (x7 : Int) (x8 : Bool) (x9 x10 : Int) (h : Heap), (ln S0 [1, 1, 1, 1, 1, 1, 0, 1, 0, 0] (c1 S0 K) n (f9 x1 x2 x5 x7 x8 x9 x10) h) = wL9 n x1 x2 x5 x7 x8 x9 x10 h K
  | 0, _, _, _, _, _, _, _, _ => rfl
  | n + 1, x1, x2, x5, x7, x8, x9, x10, h => (EL9 S0 n x1 x2 x5 x7 x8 x9 x10 h K).trans (cg2 (fun q0 q1 => JL9 q0 q1 x1 x2 x5 x7 x8 x9 x10 h K) (by funext x1 x2 x5 x7 x8 x9 x10 h; exact (fun x1 x2 x5 x7 x8 x9 x10 h => eL9 K n x1 x2 x5 x7 x8 x9 x10 h) x1 x2 x5 x7 x8 x9 x10 h) (by funext x5 x7 x8 h; exact ek17 K x5 x7 x8 h))
def wk9 (x1 : Int) (x2 : Addr) (x5 : Option Addr) (x7 : Int) (x8 : Bool) (x9 x10 : Int) (h : Heap) (K : KK) : Prop :=
  Jk9 (fun x1 x2 x5 x7 x8 x9 x10 h => ∃ m, wL9 m x1 x2 x5 x7 x8 x9 x10 h K) x1 x2 x5 x7 x8 x9 x10 h K
theorem ek9 (K : KK) (x1 : Int) (x2 : Addr) (x5 : Option Addr) (x7 : Int) (x8 : Bool) (x9 x10 : Int) (h : Heap) : (en S0 [1, 1, 1, 1, 1, 1, 0, 1] (c0 S0 K) (f9 x1 x2 x5 x7 x8 x9 x10) h) = wk9 x1 x2 x5 x7 x8 x9 x10 h K := (Ek9 S0 x1 x2 x5 x7 x8 x9 x10 h K).trans (cg1 (fun q0 => Jk9 q0 x1 x2 x5 x7 x8 x9 x10 h K) (by funext x1 x2 x5 x7 x8 x9 x10 h; exact ex_congr fun m => eL9 K m x1 x2 x5 x7 x8 x9 x10 h))
def w (x0_0 x0_1 x0_2 x0_3 x1 : Int) (h : Heap) (K : KK) : Prop :=
  J0 (fun x1 x2 x5 x7 x8 x9 x10 h => wk9 x1 x2 x5 x7 x8 x9 x10 h K) x0_0 x0_1 x0_2 x0_3 x1 h K
theorem e0 (K : KK) (x0_0 x0_1 x0_2 x0_3 x1 : Int) (h : Heap) : (E Tryz.prog X T S0 body (fin Tryz.prog Tryz.f6.results.toList K) (args0 0 [(.agg #[(.int .u64 x0_0), (.int .u64 x0_1), (.int .u64 x0_2), (.int .u64 x0_3)]), (.int .u8 x1)]) h) = w x0_0 x0_1 x0_2 x0_3 x1 h K := (E0 S0 x0_0 x0_1 x0_2 x0_3 x1 h K).trans (cg1 (fun q0 => J0 q0 x0_0 x0_1 x0_2 x0_3 x1 h K) (by funext x1 x2 x5 x7 x8 x9 x10 h; exact ek9 K x1 x2 x5 x7 x8 x9 x10 h))
theorem hb : Tryz.f6.body = some body := by kernel_rfl
theorem ok : okCode T Tryz.f6.ntmps body = true := by kernel_rfl
theorem spec (x0_0 : Int) (x0_1 : Int) (x0_2 : Int) (x0_3 : Int) (x1 : Int) (h : Heap) (K : KK) (H : w x0_0 x0_1 x0_2 x0_3 x1 h K) : CallsH Tryz.prog 6 [(.agg #[(.int .u64 x0_0), (.int .u64 x0_1), (.int .u64 x0_2), (.int .u64 x0_3)]), (.int .u8 x1)] h K :=
  calls_of_E (T := T) Xok mix Tryz.func6 hb ok rfl (by rw [e0]; exact H)
end F6
end Go.Proofs.YtnbnlhpleomaoaaGreat.Ev
/- THE LAWS OF LAYER 30: what each of them begins with (known). Conditions: none. -/
namespace Go.Proofs.YtnbnlhpleomaoaaGreat.Ev
open Go
theorem ints_at {h : Heap} {b : Nat} {zs : List Int} (A : At h b (zs.map (.int .i64))) : Ints h .i64 (some ⟨b, 0, none⟩) zs := fun i hi => by
  refine ⟨_, rfl, ?_⟩
  rw [add_mk, A.rd, Nat.zero_add, List.getElem?_map, List.getElem?_eq_getElem hi, List.getD_eq_getElem?_getD, List.getElem?_eq_getElem hi]
  rfl
theorem ints_at2 {h : Heap} {b : Nat} {zs : List Int} {c : List Value} (A : At h b c) (hc : c = zs.map (.int .i64)) : Ints h .i64 (some ⟨b, 0, none⟩) zs := ints_at (hc ▸ A)
theorem fill_lt {n j : Nat} (h : j < n) : fill n j = j := if_pos h
theorem fill_8 {n : Nat} (hn : n ≤ 8) : ∀ j, j < n → fill n j < 8 := fun j hj => by rw [fill_lt hj]; omega
theorem trim_indep {p q : Nat → Bool} {n : Nat} (hp : ∀ y, y < 256 → p y = q (y % 2 ^ n)) : ∀ v, v < 8 → n ≤ v → Indep p v := fun v hv hn y hy => by
  rw [hp _ (tobl hy hv _), hp _ (tobl hy hv _)]
  congr 1
  apply Nat.eq_of_testBit_eq
  intro i
  rw [Nat.testBit_mod_two_pow, Nat.testBit_mod_two_pow]
  by_cases hi : i < n
  · rw [tb_tob hy hv _ (by omega), tb_tob hy hv _ (by omega), if_neg (by omega), if_neg (by omega)]
  · simp [hi]
theorem fill_indep {p : Nat → Bool} {n : Nat} (hn : n ≤ 8) (H : ∀ v, v < 8 → n ≤ v → Indep p v) : ∀ v, v < 8 → (∀ j, j < n → fill n j ≠ v) → Indep p v := fun v hv hj => by
  refine H v hv ?_
  apply Classical.byContradiction
  intro h
  exact hj v (by omega) (fill_lt (by omega))
theorem trs_congr {p q : Nat → Bool} {k : Nat} (h : ∀ x, x < k → p x = q x) : trs p k = trs q k := by
  unfold trs
  exact List.filter_congr fun x hx => h x (List.mem_range.1 hx)
theorem Only.grow {S : List Nat} {h0 h h' : Heap} (A : Only [] h0 h) (O : Only S h h') (hS : ∀ b ∈ S, h0.size ≤ b) : Only [] h0 h' := A.trans O fun b hb hl => by
  have := hS b hb
  omega
theorem Fresh.ge {L L' : List Nat} {h0 h : Heap} (F : Fresh L L' h) (hL : ∀ b ∈ L, h0.size ≤ b) (hz : h0.size ≤ h.size) : ∀ b ∈ L', h0.size ≤ b := fun b hb => by
  rcases F b hb with h | h
  · exact hL b h
  · omega
theorem bdn_le {n : Nat} (h : n ≤ 8) : bdn n 0 ≤ 128 := by
  unfold bdn
  have : 2 ^ (n - 1 - 0) ≤ 2 ^ 7 := Nat.pow_le_pow_right (by omega) (by omega)
  omega
theorem cl_nil (p : Nat → Bool) : clN p [] = 0 := rfl
set_option maxRecDepth 100000 in
theorem known10 {h : Heap} {K : Value → Heap → Prop} (hK : ∀ h', Only [] h h' → K (.bool true) h') : CallsH Tryz.prog 10 [] h K := by
  refine F10.spec h K ?_
  unfold F10.w F10.J0
  refine sto_new (n := 2) (room := 100) (Q := fun _ _ => True) (by omega) (by omega) (by omega) (by omega) fun h1 s L S1 O1 g1 => ⟨_, _, rfl, ?_⟩
  rw [show ((0 : Int) != 0) = false from rfl, bcase_false]
  refine var28 fun h2 u hu hub O2 => ⟨_, _, _, _, rfl, var28 fun h3 v hv hvb O3 => ⟨_, _, _, _, rfl, or27 hu hv fun h4 w hw hwb O4 => ⟨_, _, _, _, rfl, trim12 hw fun h5 g hg hgb O5 => ⟨_, _, _, _, rfl, ?_⟩⟩⟩⟩
  have O25 : Only [] h1 h5 := ((O2.trans O3 (by simp)).trans O4 (by simp)).trans O5 (by simp)
  have S5 := S1.only0 O25
  refine make13 S5 (fill_8 (by decide)) hg (fill_indep (by decide) (trim_indep (n := 2) hgb)) (by decide) fun h6 L6 N6 r E6 hr hs hc S6 O6 F6 => ⟨_, _, rfl, ?_⟩
  dsimp only at hs hc
  have z15 := O25.size
  have z01 := O1.size
  have g6 : ∀ b ∈ L6, h.size ≤ b := F6.ge g1 (by omega)
  have O06 : Only [] h h6 := (O1.trans O25 (by simp)).grow O6 g1
  have ht : trs (sm 2 (fill 2) N6 r) (2 ^ 2) = [1, 2, 3] := by
    rw [trs_congr (q := fun y => y.testBit 0 || y.testBit 1)]
    · decide
    · intro x hx
      have hx : x < 4 := by simpa using hx
      rw [hs x (by omega), hgb x (by omega), show x % 2 ^ Int.toNat 2 = x by rw [show Int.toNat 2 = 2 from rfl]; omega, hwb x (by omega), hub x (by omega), hvb x (by omega)]
      simp
  have f8 : ∀ j, j < 2 → fill 2 j < 8 := fill_8 (by decide)
  refine newK_at fun h7 A7 O7 z7 => ?_
  have S7 := S6.only0 O7
  refine best17 (c := [5, 2]) (cc := 2) S7 f8 hr (ints_at2 A7 rfl) rfl (by decide) fun h8 O8 => ⟨_, _, _, _, rfl, ?_⟩
  dsimp only
  rw [ht]
  refine newK_at fun h9 A9 O9 z9 => ?_
  have S9 := (S7.only0 O8).only0 O9
  refine sum18 (c := [1, 1]) (cc := 2) S9 f8 hr (ints_at2 A9 rfl) rfl (by decide) fun h10 O10 => ⟨_, _, rfl, ?_⟩
  dsimp only
  rw [ht]
  have S10 := S9.only0 O10
  refine sample19 S10 f8 hr (fun h' hk O => ?_) fun h11 i y hy hk O11 => ⟨_, _, _, rfl, ?_⟩
  · exfalso
    dsimp only at hk
    rw [ht] at hk
    simp at hk
  have hi2 : i = 2 := by omega
  subst hi2
  dsimp only at hy
  rw [ht] at hy
  have e3 : y = 3 := by
    have : some 3 = some y := hy
    injection this with this
    exact this.symm
  subst e3
  have S11 := S10.only0 O11
  refine rank20 (x := 3) S11 f8 hr fun h12 O12 => ⟨_, _, rfl, ?_⟩
  dsimp only
  rw [ht]
  refine newK_at fun h13 A13 O13 z13 => ?_
  have S13 := (S11.only0 O12).only0 O13
  refine F18.spec _ _ _ _ _ h13 _ ?_
  unfold F18.w F18.J0
  refine refuses38 (c := [1]) S13 (by have := S13.isN_lt hr; omega) (by decide) (ints_at2 A13 rfl) (fun hn => absurd hr hn) (fun _ _ => ldI_of rfl ?_) fun _ e _ => absurd e (by dsimp only; decide)
  rw [show ((40 : Int) != 0) = true from rfl, bcase_true]
  refine ⟨_, _, rfl, ?_⟩
  have fin := hK h13 ((((((O06.trans O7 (by simp)).trans O8 (by simp)).trans O9 (by simp)).trans O10 (by simp)).trans O11 (by simp)).trans O12 (by simp) |>.trans O13 (by simp))
  exact fin
end Go.Proofs.YtnbnlhpleomaoaaGreat.Ev
/- A LAW's ARGUMENT THAT IS A ROW OF WHOLE NUMBERS BY VALUE (an array), opened. Conditions: the argument's type is an array of whole numbers. -/
namespace Go.Proofs.YtnbnlhpleomaoaaGreat.Ev
open Go Go.ChangeShapes Go.WideShapes Go.ChangeAt Go.RowKit
theorem open_arr {H : Type} {enc : TypeId × Value → H} {P : Program} {W : World} {r : Reach} {b0 base : Nat} {sp : Nat → Bool} {held : Bool} {t e : TypeId} {n : Nat} {k : IntKind} {v : Value} {d : DataW H} {ps : List MemPlace}
    (ht : P.underlying t = some (.array n e)) (he : P.underlying e = some (.int k)) (hc : P.cellsOf e = 1) (hct : P.cellsOf t = n) (hval : Value.okWide P W r b0 t v)
    (hd : DataW.Trod enc P W base sp held t v d ps) : ∃ zs : List Int, zs.length = n ∧ v = .agg (zs.map (Value.int k)).toArray ∧ ∀ z ∈ zs, k.min ≤ z ∧ z ≤ k.max := by
  unfold Value.okWide at hval
  rw [ht] at hval
  obtain ⟨cs, rfl, hsz, -⟩ := hval
  obtain ⟨fuel, hf⟩ := hd
  obtain ⟨xs, m, -, -, hl, hx, hi⟩ := Go.DataW.trod_array ht hf
  have hcs : (Value.agg cs).cells = cs := rfl
  rw [hcs] at hi hl
  have key : ∀ i, i < n → ∃ z : Int, cs.toList[i]? = some (.int k z) ∧ k.min ≤ z ∧ z ≤ k.max := by
    intro i hin
    have h1 := hi i hin
    have hlt : i < cs.toList.length := by simp; omega
    rw [hc, Nat.mul_one, List.drop_eq_getElem_cons hlt, List.getElem?_eq_getElem (by omega : i < xs.length)] at h1
    have h2 : ([cs.toList[i]] : List Value) = List.take 1 (cs.toList[i] :: List.drop (i + 1) cs.toList) := rfl
    rw [← h2] at h1
    obtain ⟨z, h5, -, h6⟩ := DataW.trod_int he h1
    injection h5 with h5
    exact ⟨z, by rw [List.getElem?_eq_getElem hlt, h5], wf_range h6⟩
  obtain ⟨f, hf'⟩ := pick key
  refine ⟨(List.range n).map f, by simp, ?_, fun z hz => ?_⟩
  · congr 1
    apply Array.ext'
    apply List.ext_getElem?
    intro i
    by_cases hin : i < n
    · rw [(hf' i hin).1]
      simp [hin]
    · rw [List.getElem?_eq_none (by simp; omega), List.getElem?_eq_none (by simp; omega)]
  · obtain ⟨i, hin, rfl⟩ := List.mem_map.1 hz
    exact (hf' i (List.mem_range.1 hin)).2
end Go.Proofs.YtnbnlhpleomaoaaGreat.Ev
/- THE LAWS OF LAYER 30: samples rise with their ranks (WeighSamples). Conditions: the arguments are in their kinds' bounds. -/
namespace Go.Proofs.YtnbnlhpleomaoaaGreat.Ev
open Go
theorem arrW {z : List Int} (lz : z.length = 4) (rz : ∀ y ∈ z, IntKind.min .u64 ≤ y ∧ y ≤ IntKind.max .u64) : ∃ g : Nat → Nat, WOk g ∧ (Value.agg (z.map (Value.int .u64)).toArray) = aggW g := by
  match z, lz with
  | [a, b, c, d], _ =>
    have r : ∀ y, y ∈ [a, b, c, d] → 0 ≤ y ∧ y < 18446744073709551616 := fun y hy => by
      have := rz y hy
      have e1 : IntKind.min .u64 = 0 := rfl
      have e2 : IntKind.max .u64 = 18446744073709551615 := rfl
      omega
    have ra := r a (by simp)
    have rb := r b (by simp)
    have rc := r c (by simp)
    have rd := r d (by simp)
    refine ⟨fun i => ([a, b, c, d].getD i 0).toNat, fun i hi => ?_, ?_⟩
    · unfold U64
      have : i = 0 ∨ i = 1 ∨ i = 2 ∨ i = 3 := by omega
      rcases this with e | e | e | e <;> subst e <;> simp <;> omega
    · unfold aggW
      simp
      omega
end Go.Proofs.YtnbnlhpleomaoaaGreat.Ev
/- PRINTED BY PROGRAM: what each of these functions does, computed over heaps by the evaluator, and that its calls do so. Conditions: none. -/
namespace Go.Proofs.YtnbnlhpleomaoaaGreat.Ev
open Go
-- spinney/spinneylaw30.WeighRaw
namespace F5
def T : Hint := ⟨[(12, [1, 9, 10]), (15, [1, 10, 12, 13, 14]), (18, [1, 10, 12, 13, 14]), (20, [1, 10, 12, 13])], []⟩
noncomputable def body : Code := (Tryz.f5.body).getD .skip
noncomputable def en (S : Stop) (p : List Nat) (κ : XK) : Fr → Heap → Prop := E Tryz.prog X T S (sub body p) κ
noncomputable def ln (S : Stop) (p : List Nat) (κ : XK) (n : Nat) : Fr → Heap → Prop := loopN S (E Tryz.prog X T S (sub body p)) (cutQ T (sub body p)) κ n
def fn (K : KK) : XK := fin Tryz.prog Tryz.f5.results.toList K
noncomputable def c0 (S : Stop) (K : KK) : XK := seqN S (cutQ T (sub body [1, 1, 1, 1, 1, 1, 1, 1, 1, 1])) (en S [1, 1, 1, 1, 1, 1, 1, 1, 1, 1] (fn K)) (fn K)
noncomputable def c1 (S : Stop) (K : KK) : XK := blockN 0 (c0 S K)
noncomputable def c2 (S : Stop) (n15 : Nat) (K : KK) : XK := backN S (cutQ T (sub body [1, 1, 1, 1, 1, 1, 1, 1, 1, 0, 1, 0, 0])) (ln S [1, 1, 1, 1, 1, 1, 1, 1, 1, 0, 1, 0, 0] (c1 S K) n15) (c1 S K)
noncomputable def c3 (S : Stop) (n15 : Nat) (K : KK) : XK := seqN S (cutQ T (sub body [1, 1, 1, 1, 1, 1, 1, 1, 1, 0, 1, 0, 0, 1, 1])) (en S [1, 1, 1, 1, 1, 1, 1, 1, 1, 0, 1, 0, 0, 1, 1] (c2 S n15 K)) (c2 S n15 K)
noncomputable def c4 (S : Stop) (n15 : Nat) (K : KK) : XK := blockN 1 (c3 S n15 K)
def f12 (x1p : Option Addr) (x1l x1c : Nat) (x9 : Int) (x10 : Option Addr) : Fr := [(1, (.slice x1p x1l x1c)), (9, (.int .i64 x9)), (10, (.pointer x10))]
def f15 (x1p : Option Addr) (x1l x1c : Nat) (x10 : Option Addr) (x12 : Bool) (x13 x14 : Int) : Fr := [(1, (.slice x1p x1l x1c)), (10, (.pointer x10)), (12, (.bool x12)), (13, (.int .i64 x13)), (14, (.int .i64 x14))]
def f18 (x1p : Option Addr) (x1l x1c : Nat) (x10 : Option Addr) (x12 : Bool) (x13 x14 : Int) : Fr := [(1, (.slice x1p x1l x1c)), (10, (.pointer x10)), (12, (.bool x12)), (13, (.int .i64 x13)), (14, (.int .i64 x14))]
def f20 (x1p : Option Addr) (x1l x1c : Nat) (x10 : Option Addr) (x12 : Bool) (x13 : Int) : Fr := [(1, (.slice x1p x1l x1c)), (10, (.pointer x10)), (12, (.bool x12)), (13, (.int .i64 x13))]
def J0 (k12 : (Option Addr) → Nat → Nat → Int → (Option Addr) → Heap → Prop) (x0 : Int) (x1p : Option Addr) (x1l x1c : Nat) (x2 x3 : Int) (h : Heap) (K : KK) : Prop :=
  CallsH Tryz.prog 10 [] h (fun v1 h2 => ldB (some v1) (fun b3 => bcase (!b3) (K (.bool false) h2) (bcase (decide ((Nat.cast x1l : Int) > (12 : Int))) (K (.bool true) h2) (((8 : Int) ≠ 0 ∧ CallsH Tryz.prog 11 [(.int .i64 (IntKind.wrap .i64 ((IntKind.wrap .i64 (Int.tmod x0 (8 : Int))) + (1 : Int)))), (.int .i64 (50 : Int))] h2 (fun v4 h5 => (∃ p6 : Option Addr, ∃ n7 : Int, v4 = (.tuple #[(.pointer p6), (.int .i64 n7)]) ∧ bcase (n7 != (0 : Int)) (K (.bool false) h5) (bcase (decide ((Nat.cast x1l : Int) > (0 : Int))) (appK h5 3 1 8 #[(.int .i64 (0 : Int))] none 0 0 x1p x1l (fun p8 l9 c10 h11 => ((Nat.cast l9 : Int) ≠ 0 ∧ ptrK p8 (fun a12 => (0 ≤ (Int.tmod (IntKind.wrap .i64 x2) (Nat.cast l9 : Int)) ∧ (Int.tmod (IntKind.wrap .i64 x2) (Nat.cast l9 : Int)) < (Nat.cast l9 : Int) ∧ stK h11 (Addr.add (Addr.add a12 (Int.toNat (Int.tmod (IntKind.wrap .i64 x2) (Nat.cast l9 : Int)) * 1)) 0) (.int .i64 x3) (fun h13 => k12 p8 l9 c10 (IntKind.wrap .i64 ((IntKind.wrap .i64 (Int.tmod x0 (8 : Int))) + (1 : Int))) p6 h13)))))) (k12 x1p x1l x1c (IntKind.wrap .i64 ((IntKind.wrap .i64 (Int.tmod x0 (8 : Int))) + (1 : Int))) p6 h5)))))))))
theorem E0 (S : Stop) (x0 : Int) (x1p : Option Addr) (x1l x1c : Nat) (x2 x3 : Int) (h : Heap) (K : KK) : (E Tryz.prog X T S body (fin Tryz.prog Tryz.f5.results.toList K) (args0 0 [(.int .u8 x0), (.slice x1p x1l x1c), (.int .u8 x2), (.int .i64 x3)]) h) = J0 (fun x1p x1l x1c x9 x10 h => S (en S [1, 1, 1, 1, 1, 1, 1] (fn K)) (f12 x1p x1l x1c x9 x10) h) x0 x1p x1l x1c x2 x3 h K := by kernel_rfl
def Jk12 (k15 : (Option Addr) → Nat → Nat → (Option Addr) → Bool → Int → Int → Heap → Prop) (x1p : Option Addr) (x1l x1c : Nat) (x9 : Int) (x10 : Option Addr) (h : Heap) (_K : KK) : Prop :=
  k15 x1p x1l x1c x10 ((Nat.cast x1l : Int) == x9) (0 : Int) (0 : Int) h
theorem Ek12 (S : Stop) (x1p : Option Addr) (x1l x1c : Nat) (x9 : Int) (x10 : Option Addr) (h : Heap) (K : KK) : (en S [1, 1, 1, 1, 1, 1, 1] (fn K) (f12 x1p x1l x1c x9 x10) h) = Jk12 (fun x1p x1l x1c x10 x12 x13 x14 h => S (en S [1, 1, 1, 1, 1, 1, 1, 1, 1, 0, 1] (c0 S K)) (f15 x1p x1l x1c x10 x12 x13 x14) h) x1p x1l x1c x9 x10 h K := by kernel_rfl
def Jk15 (lp15 : (Option Addr) → Nat → Nat → (Option Addr) → Bool → Int → Int → Heap → Prop) (x1p : Option Addr) (x1l x1c : Nat) (x10 : Option Addr) (x12 : Bool) (x13 x14 : Int) (h : Heap) (_K : KK) : Prop :=
  lp15 x1p x1l x1c x10 x12 x13 x14 h
theorem Ek15 (S : Stop) (x1p : Option Addr) (x1l x1c : Nat) (x10 : Option Addr) (x12 : Bool) (x13 x14 : Int) (h : Heap) (K : KK) : (en S [1, 1, 1, 1, 1, 1, 1, 1, 1, 0, 1] (c0 S K) (f15 x1p x1l x1c x10 x12 x13 x14) h) = Jk15 (fun x1p x1l x1c x10 x12 x13 x14 h => ∃ n, S (ln S [1, 1, 1, 1, 1, 1, 1, 1, 1, 0, 1, 0, 0] (c1 S K) n) (f15 x1p x1l x1c x10 x12 x13 x14) h) x1p x1l x1c x10 x12 x13 x14 h K := by kernel_rfl
def JL15 (k18 : (Option Addr) → Nat → Nat → (Option Addr) → Bool → Int → Int → Heap → Prop) (k20 : (Option Addr) → Nat → Nat → (Option Addr) → Bool → Int → Heap → Prop) (x1p : Option Addr) (x1l x1c : Nat) (x10 : Option Addr) (x12 : Bool) (x13 x14 : Int) (h : Heap) (_K : KK) : Prop :=
  bcase (decide (x14 < (Nat.cast x1l : Int))) (bcase x12 (ptrK x1p (fun a1 => (0 ≤ x14 ∧ x14 < (Nat.cast x1l : Int) ∧ ldI .i64 (rd h (Addr.add a1 (Int.toNat x14 * 1))) (fun n2 => bcase (decide (n2 ≥ (-1000 : Int))) (ptrK x1p (fun a3 => (0 ≤ x14 ∧ x14 < (Nat.cast x1l : Int) ∧ ldI .i64 (rd h (Addr.add a3 (Int.toNat x14 * 1))) (fun n4 => k18 x1p x1l x1c x10 (decide (n4 ≤ (1000 : Int))) x13 x14 h)))) (k18 x1p x1l x1c x10 false x13 x14 h))))) (k18 x1p x1l x1c x10 false x13 x14 h)) (k20 x1p x1l x1c x10 x12 x13 h)
theorem EL15 (S : Stop) (n15 : Nat) (x1p : Option Addr) (x1l x1c : Nat) (x10 : Option Addr) (x12 : Bool) (x13 x14 : Int) (h : Heap) (K : KK) : (en S [1, 1, 1, 1, 1, 1, 1, 1, 1, 0, 1, 0, 0] (c2 S n15 K) (f15 x1p x1l x1c x10 x12 x13 x14) h) = JL15 (fun x1p x1l x1c x10 x12 x13 x14 h => S (en S [1, 1, 1, 1, 1, 1, 1, 1, 1, 0, 1, 0, 0, 1, 0, 0, 1] (c4 S n15 K)) (f18 x1p x1l x1c x10 x12 x13 x14) h) (fun x1p x1l x1c x10 x12 x13 h => S (en S [1, 1, 1, 1, 1, 1, 1, 1, 1, 1] (fn K)) (f20 x1p x1l x1c x10 x12 x13) h) x1p x1l x1c x10 x12 x13 x14 h K := by kernel_rfl
def Jk18 (bk15 : (Option Addr) → Nat → Nat → (Option Addr) → Bool → Int → Int → Heap → Prop) (x1p : Option Addr) (x1l x1c : Nat) (x10 : Option Addr) (x12 : Bool) (x13 x14 : Int) (h : Heap) (_K : KK) : Prop :=
  bcase x12 (ptrK x1p (fun a1 => (0 ≤ x14 ∧ x14 < (Nat.cast x1l : Int) ∧ ldI .i64 (rd h (Addr.add a1 (Int.toNat x14 * 1))) (fun n2 => bcase (decide (n2 < (0 : Int))) (ptrK x1p (fun a3 => (0 ≤ x14 ∧ x14 < (Nat.cast x1l : Int) ∧ ldI .i64 (rd h (Addr.add a3 (Int.toNat x14 * 1))) (fun n4 => bk15 x1p x1l x1c x10 x12 (IntKind.wrap .i64 (x13 + n4)) (IntKind.wrap .i64 (x14 + (1 : Int))) h)))) (bk15 x1p x1l x1c x10 x12 x13 (IntKind.wrap .i64 (x14 + (1 : Int))) h))))) (bk15 x1p x1l x1c x10 x12 x13 (IntKind.wrap .i64 (x14 + (1 : Int))) h)
theorem Ek18 (S : Stop) (n15 : Nat) (x1p : Option Addr) (x1l x1c : Nat) (x10 : Option Addr) (x12 : Bool) (x13 x14 : Int) (h : Heap) (K : KK) : (en S [1, 1, 1, 1, 1, 1, 1, 1, 1, 0, 1, 0, 0, 1, 0, 0, 1] (c4 S n15 K) (f18 x1p x1l x1c x10 x12 x13 x14) h) = Jk18 (fun x1p x1l x1c x10 x12 x13 x14 h => S (ln S [1, 1, 1, 1, 1, 1, 1, 1, 1, 0, 1, 0, 0] (c1 S K) n15) (f15 x1p x1l x1c x10 x12 x13 x14) h) x1p x1l x1c x10 x12 x13 x14 h K := by kernel_rfl
def Jk20 (x1p : Option Addr) (x1l x1c : Nat) (x10 : Option Addr) (x12 : Bool) (x13 : Int) (h : Heap) (K : KK) : Prop :=
  CallsH Tryz.prog 17 [(.pointer x10), (.int .u32 (1 : Int)), (.slice x1p x1l x1c)] h (fun v1 h2 => (∃ n3 : Int, ∃ n4 : Int, ∃ b5 : Bool, ∃ n6 : Int, v1 = (.tuple #[(.int .u8 n3), (.int .i64 n4), (.bool b5), (.int .i64 n6)]) ∧ CallsH Tryz.prog 18 [(.pointer x10), (.int .u32 (1 : Int)), (.slice x1p x1l x1c)] h2 (fun v7 h8 => (∃ n9 : Int, ∃ n10 : Int, v7 = (.tuple #[(.int .i64 n9), (.int .i64 n10)]) ∧ bcase (!x12) (bcase (n6 == (40 : Int)) (bcase (n10 == (40 : Int)) (K (.bool (!b5)) h8) (K (.bool false) h8)) (K (.bool false) h8)) (bcase (n6 == (0 : Int)) (bcase (n10 == (0 : Int)) (bcase b5 (K (.bool (n4 == x13)) h8) (K (.bool false) h8)) (K (.bool false) h8)) (K (.bool false) h8))))))
theorem Ek20 (S : Stop) (x1p : Option Addr) (x1l x1c : Nat) (x10 : Option Addr) (x12 : Bool) (x13 : Int) (h : Heap) (K : KK) : (en S [1, 1, 1, 1, 1, 1, 1, 1, 1, 1] (fn K) (f20 x1p x1l x1c x10 x12 x13) h) = Jk20 x1p x1l x1c x10 x12 x13 h K := by kernel_rfl
def wk18 (bk15 : (Option Addr) → Nat → Nat → (Option Addr) → Bool → Int → Int → Heap → Prop) (x1p : Option Addr) (x1l x1c : Nat) (x10 : Option Addr) (x12 : Bool) (x13 x14 : Int) (h : Heap) (K : KK) : Prop :=
  Jk18 bk15 x1p x1l x1c x10 x12 x13 x14 h K
theorem ek18 (K : KK) (n15 : Nat) (bk15 : (Option Addr) → Nat → Nat → (Option Addr) → Bool → Int → Int → Heap → Prop) (hb15 : ∀ (x1p : Option Addr) (x1l x1c : Nat) (x10 : Option Addr) (x12 : Bool) (x13 x14 : Int) (h : Heap), (ln S0 [1, 1, 1, 1, 1, 1, 1, 1, 1, 0, 1, 0, 0] (c1 S0 K) n15 (f15 x1p x1l x1c x10 x12 x13 x14) h) = bk15 x1p x1l x1c x10 x12 x13 x14 h) (x1p : Option Addr) (x1l x1c : Nat) (x10 : Option Addr) (x12 : Bool) (x13 x14 : Int) (h : Heap) : (en S0 [1, 1, 1, 1, 1, 1, 1, 1, 1, 0, 1, 0, 0, 1, 0, 0, 1] (c4 S0 n15 K) (f18 x1p x1l x1c x10 x12 x13 x14) h) = wk18 bk15 x1p x1l x1c x10 x12 x13 x14 h K := (Ek18 S0 n15 x1p x1l x1c x10 x12 x13 x14 h K).trans (cg1 (fun q0 => Jk18 q0 x1p x1l x1c x10 x12 x13 x14 h K) (by funext x1p x1l x1c x10 x12 x13 x14 h; exact hb15 x1p x1l x1c x10 x12 x13 x14 h))
def wk20 (x1p : Option Addr) (x1l x1c : Nat) (x10 : Option Addr) (x12 : Bool) (x13 : Int) (h : Heap) (K : KK) : Prop :=
  Jk20 x1p x1l x1c x10 x12 x13 h K
theorem ek20 (K : KK) (x1p : Option Addr) (x1l x1c : Nat) (x10 : Option Addr) (x12 : Bool) (x13 : Int) (h : Heap) : (en S0 [1, 1, 1, 1, 1, 1, 1, 1, 1, 1] (fn K) (f20 x1p x1l x1c x10 x12 x13) h) = wk20 x1p x1l x1c x10 x12 x13 h K := (Ek20 S0 x1p x1l x1c x10 x12 x13 h K).trans (rfl)
def wL15 : Nat → (Option Addr) → Nat → Nat → (Option Addr) → Bool → Int → Int → Heap → KK → Prop
  | 0, _, _, _, _, _, _, _, _, _ => False
  | n + 1, x1p, x1l, x1c, x10, x12, x13, x14, h, K => JL15 (fun x1p x1l x1c x10 x12 x13 x14 h => wk18 (fun x1p x1l x1c x10 x12 x13 x14 h => wL15 n x1p x1l x1c x10 x12 x13 x14 h K) x1p x1l x1c x10 x12 x13 x14 h K) (fun x1p x1l x1c x10 x12 x13 h => wk20 x1p x1l x1c x10 x12 x13 h K) x1p x1l x1c x10 x12 x13 x14 h K
theorem eL15 (K : KK) : ∀ (n : Nat) (x1p : Option Addr) (x1l x1c : Nat) (x10 : Option Addr) (x12 : Bool) (x13 x14 : Int) (h : Heap), (ln S0 [1, 1, 1, 1, 1, 1, 1, 1, 1, 0, 1, 0, 0] (c1 S0 K) n (f15 x1p x1l x1c x10 x12 x13 x14) h) = wL15 n x1p x1l x1c x10 x12 x13 x14 h K
  | 0, _, _, _, _, _, _, _, _ => rfl
  | n + 1, x1p, x1l, x1c, x10, x12, x13, x14, h => (EL15 S0 n x1p x1l x1c x10 x12 x13 x14 h K).trans (cg2 (fun q0 q1 => JL15 q0 q1 x1p x1l x1c x10 x12 x13 x14 h K) (by funext x1p x1l x1c x10 x12 x13 x14 h; exact ek18 K n (fun x1p x1l x1c x10 x12 x13 x14 h => wL15 n x1p x1l x1c x10 x12 x13 x14 h K) (fun x1p x1l x1c x10 x12 x13 x14 h => eL15 K n x1p x1l x1c x10 x12 x13 x14 h) x1p x1l x1c x10 x12 x13 x14 h) (by funext x1p x1l x1c x10 x12 x13 h; exact ek20 K x1p x1l x1c x10 x12 x13 h))
def wk15 (x1p : Option Addr) (x1l x1c : Nat) (x10 : Option Addr) (x12 : Bool) (x13 x14 : Int) (h : Heap) (K : KK) : Prop :=
  Jk15 (fun x1p x1l x1c x10 x12 x13 x14 h => ∃ m, wL15 m x1p x1l x1c x10 x12 x13 x14 h K) x1p x1l x1c x10 x12 x13 x14 h K
theorem ek15 (K : KK) (x1p : Option Addr) (x1l x1c : Nat) (x10 : Option Addr) (x12 : Bool) (x13 x14 : Int) (h : Heap) : (en S0 [1, 1, 1, 1, 1, 1, 1, 1, 1, 0, 1] (c0 S0 K) (f15 x1p x1l x1c x10 x12 x13 x14) h) = wk15 x1p x1l x1c x10 x12 x13 x14 h K := (Ek15 S0 x1p x1l x1c x10 x12 x13 x14 h K).trans (cg1 (fun q0 => Jk15 q0 x1p x1l x1c x10 x12 x13 x14 h K) (by funext x1p x1l x1c x10 x12 x13 x14 h; exact ex_congr fun m => eL15 K m x1p x1l x1c x10 x12 x13 x14 h))
def wk12 (x1p : Option Addr) (x1l x1c : Nat) (x9 : Int) (x10 : Option Addr) (h : Heap) (K : KK) : Prop :=
  Jk12 (fun x1p x1l x1c x10 x12 x13 x14 h => wk15 x1p x1l x1c x10 x12 x13 x14 h K) x1p x1l x1c x9 x10 h K
theorem ek12 (K : KK) (x1p : Option Addr) (x1l x1c : Nat) (x9 : Int) (x10 : Option Addr) (h : Heap) : (en S0 [1, 1, 1, 1, 1, 1, 1] (fn K) (f12 x1p x1l x1c x9 x10) h) = wk12 x1p x1l x1c x9 x10 h K := (Ek12 S0 x1p x1l x1c x9 x10 h K).trans (cg1 (fun q0 => Jk12 q0 x1p x1l x1c x9 x10 h K) (by funext x1p x1l x1c x10 x12 x13 x14 h; exact ek15 K x1p x1l x1c x10 x12 x13 x14 h))
def w (x0 : Int) (x1p : Option Addr) (x1l x1c : Nat) (x2 x3 : Int) (h : Heap) (K : KK) : Prop :=
  J0 (fun x1p x1l x1c x9 x10 h => wk12 x1p x1l x1c x9 x10 h K) x0 x1p x1l x1c x2 x3 h K
theorem e0 (K : KK) (x0 : Int) (x1p : Option Addr) (x1l x1c : Nat) (x2 x3 : Int) (h : Heap) : (E Tryz.prog X T S0 body (fin Tryz.prog Tryz.f5.results.toList K) (args0 0 [(.int .u8 x0), (.slice x1p x1l x1c), (.int .u8 x2), (.int .i64 x3)]) h) = w x0 x1p x1l x1c x2 x3 h K := (E0 S0 x0 x1p x1l x1c x2 x3 h K).trans (cg1 (fun q0 => J0 q0 x0 x1p x1l x1c x2 x3 h K) (by funext x1p x1l x1c x9 x10 h; exact ek12 K x1p x1l x1c x9 x10 h))
theorem hb : Tryz.f5.body = some body := by kernel_rfl
theorem ok : okCode T Tryz.f5.ntmps body = true := by kernel_rfl
theorem spec (x0 : Int) (x1p : Option Addr) (x1l : Nat) (x1c : Nat) (x2 : Int) (x3 : Int) (h : Heap) (K : KK) (H : w x0 x1p x1l x1c x2 x3 h K) : CallsH Tryz.prog 5 [(.int .u8 x0), (.slice x1p x1l x1c), (.int .u8 x2), (.int .i64 x3)] h K :=
  calls_of_E (T := T) Xok mix Tryz.func5 hb ok rfl (by rw [e0]; exact H)
end F5
-- spinney/spinneylaw30.WeighAll
namespace F7
def T : Hint := ⟨[(10, [5, 6, 8])], []⟩
noncomputable def body : Code := (Tryz.f7.body).getD .skip
noncomputable def en (S : Stop) (p : List Nat) (κ : XK) : Fr → Heap → Prop := E Tryz.prog X T S (sub body p) κ
def fn (K : KK) : XK := fin Tryz.prog Tryz.f7.results.toList K
def f10 (x5 : Int) (x6 : Option Addr) (x8 : Addr) : Fr := [(5, (.int .i64 x5)), (6, (.pointer x6)), (8, (.pointer (some x8)))]
def J0 (k10 : Int → (Option Addr) → Addr → Heap → Prop) (x0 x1_0 x1_1 x1_2 x1_3 : Int) (h : Heap) (K : KK) : Prop :=
  newK h (.cells #[(.int .u64 x1_0), (.int .u64 x1_1), (.int .u64 x1_2), (.int .u64 x1_3)] 24) (fun b1 h2 => CallsH Tryz.prog 10 [] h2 (fun v3 h4 => ldB (some v3) (fun b5 => bcase (!b5) (K (.bool false) h4) (((8 : Int) ≠ 0 ∧ CallsH Tryz.prog 11 [(.int .i64 (IntKind.wrap .i64 ((IntKind.wrap .i64 (Int.tmod x0 (8 : Int))) + (1 : Int)))), (.int .i64 (400 : Int))] h4 (fun v6 h7 => (∃ p8 : Option Addr, ∃ n9 : Int, v6 = (.tuple #[(.pointer p8), (.int .i64 n9)]) ∧ bcase (n9 != (0 : Int)) (K (.bool false) h7) (newK h7 (.cells #[(.int .u64 (0 : Int)), (.int .u64 (0 : Int)), (.int .u64 (0 : Int)), (.int .u64 (0 : Int))] 24) (fun b10 h11 => stK h11 (Addr.add (Addr.mk b10 0 none) 0) (.int .u64 (0 : Int)) (fun h12 => stK h12 (Addr.add (Addr.mk b10 0 none) 1) (.int .u64 (0 : Int)) (fun h13 => stK h13 (Addr.add (Addr.mk b10 0 none) 2) (.int .u64 (0 : Int)) (fun h14 => stK h14 (Addr.add (Addr.mk b10 0 none) 3) (.int .u64 (0 : Int)) (fun h15 => (0 ≤ (0 : Int) ∧ (0 : Int) < (Nat.cast 4 : Int) ∧ ldI .u64 (rd h15 (Addr.add (Addr.mk b1 0 none) (Int.toNat (0 : Int) * 1))) (fun n16 => bcase ((bitsI .and .u64 n16 (1 : Int)) == (1 : Int)) (stK h15 (Addr.add (Addr.mk b10 0 none) 0) (.int .u64 (6148914691236517205 : Int)) (fun h17 => stK h17 (Addr.add (Addr.mk b10 0 none) 1) (.int .u64 (6148914691236517205 : Int)) (fun h18 => stK h18 (Addr.add (Addr.mk b10 0 none) 2) (.int .u64 (6148914691236517205 : Int)) (fun h19 => stK h19 (Addr.add (Addr.mk b10 0 none) 3) (.int .u64 (6148914691236517205 : Int)) (fun h20 => k10 (IntKind.wrap .i64 ((IntKind.wrap .i64 (Int.tmod x0 (8 : Int))) + (1 : Int))) p8 (Addr.mk b10 0 none) h20))))) (k10 (IntKind.wrap .i64 ((IntKind.wrap .i64 (Int.tmod x0 (8 : Int))) + (1 : Int))) p8 (Addr.mk b10 0 none) h15))))))))))))))))
theorem E0 (S : Stop) (x0 x1_0 x1_1 x1_2 x1_3 : Int) (h : Heap) (K : KK) : (E Tryz.prog X T S body (fin Tryz.prog Tryz.f7.results.toList K) (args0 0 [(.int .u8 x0), (.agg #[(.int .u64 x1_0), (.int .u64 x1_1), (.int .u64 x1_2), (.int .u64 x1_3)])]) h) = J0 (fun x5 x6 x8 h => S (en S [1, 1, 1, 1, 1, 1, 1] (fn K)) (f10 x5 x6 x8) h) x0 x1_0 x1_1 x1_2 x1_3 h K := by kernel_rfl
def Jk10 (x5 : Int) (x6 : Option Addr) (x8 : Addr) (h : Heap) (K : KK) : Prop :=
  ldI .u64 (rd h (Addr.add x8 0)) (fun n1 => ldI .u64 (rd h (Addr.add x8 1)) (fun n2 => ldI .u64 (rd h (Addr.add x8 2)) (fun n3 => ldI .u64 (rd h (Addr.add x8 3)) (fun n4 => CallsH Tryz.prog 13 [(.pointer x6), (.agg #[(.int .u64 n1), (.int .u64 n2), (.int .u64 n3), (.int .u64 n4)])] h (fun v5 h6 => (∃ n7 : Int, ∃ b8 : Bool, v5 = (.tuple #[(.int .u32 n7), (.bool b8)]) ∧ CallsH Tryz.prog 23 [(.pointer x6), (.int .u32 n7)] h6 (fun v9 h10 => (∃ n11 : Int, ∃ n12 : Int, v9 = (.tuple #[(.int .u64 n11), (.int .i64 n12)]) ∧ CallsH Tryz.prog 20 [(.pointer x6), (.int .u32 n7), (.int .u8 (255 : Int))] h10 (fun v13 h14 => (∃ n15 : Int, ∃ n16 : Int, v13 = (.tuple #[(.int .i64 n15), (.int .i64 n16)]) ∧ CallsH Tryz.prog 20 [(.pointer x6), (.int .u32 (1 : Int)), (.int .u8 (255 : Int))] h14 (fun v17 h18 => (∃ n19 : Int, ∃ n20 : Int, v17 = (.tuple #[(.int .i64 n19), (.int .i64 n20)]) ∧ (0 ≤ (IntKind.wrap .u64 x5) ∧ bcase b8 (bcase (n12 == (0 : Int)) (bcase (n16 == (0 : Int)) (bcase (n20 == (0 : Int)) (bcase (n15 == (IntKind.wrap .i64 n11)) (K (.bool (n19 == (if (255 : Int) < (IntKind.wrap .i64 ((1 : Int) * 2 ^ (min (Int.toNat (IntKind.wrap .u64 x5)) (IntKind.bits .i64)))) then (255 : Int) else (IntKind.wrap .i64 ((1 : Int) * 2 ^ (min (Int.toNat (IntKind.wrap .u64 x5)) (IntKind.bits .i64))))))) h18) (K (.bool false) h18)) (K (.bool false) h18)) (K (.bool false) h18)) (K (.bool false) h18)) (K (.bool false) h18))))))))))))))
theorem Ek10 (S : Stop) (x5 : Int) (x6 : Option Addr) (x8 : Addr) (h : Heap) (K : KK) : (en S [1, 1, 1, 1, 1, 1, 1] (fn K) (f10 x5 x6 x8) h) = Jk10 x5 x6 x8 h K := by kernel_rfl
def wk10 (x5 : Int) (x6 : Option Addr) (x8 : Addr) (h : Heap) (K : KK) : Prop :=
  Jk10 x5 x6 x8 h K
theorem ek10 (K : KK) (x5 : Int) (x6 : Option Addr) (x8 : Addr) (h : Heap) : (en S0 [1, 1, 1, 1, 1, 1, 1] (fn K) (f10 x5 x6 x8) h) = wk10 x5 x6 x8 h K := (Ek10 S0 x5 x6 x8 h K).trans (rfl)
def w (x0 x1_0 x1_1 x1_2 x1_3 : Int) (h : Heap) (K : KK) : Prop :=
  J0 (fun x5 x6 x8 h => wk10 x5 x6 x8 h K) x0 x1_0 x1_1 x1_2 x1_3 h K
theorem e0 (K : KK) (x0 x1_0 x1_1 x1_2 x1_3 : Int) (h : Heap) : (E Tryz.prog X T S0 body (fin Tryz.prog Tryz.f7.results.toList K) (args0 0 [(.int .u8 x0), (.agg #[(.int .u64 x1_0), (.int .u64 x1_1), (.int .u64 x1_2), (.int .u64 x1_3)])]) h) = w x0 x1_0 x1_1 x1_2 x1_3 h K := (E0 S0 x0 x1_0 x1_1 x1_2 x1_3 h K).trans (cg1 (fun q0 => J0 q0 x0 x1_0 x1_1 x1_2 x1_3 h K) (by funext x5 x6 x8 h; exact ek10 K x5 x6 x8 h))
theorem hb : Tryz.f7.body = some body := by kernel_rfl
theorem ok : okCode T Tryz.f7.ntmps body = true := by kernel_rfl
theorem spec (x0 : Int) (x1_0 : Int) (x1_1 : Int) (x1_2 : Int) (x1_3 : Int) (h : Heap) (K : KK) (H : w x0 x1_0 x1_1 x1_2 x1_3 h K) : CallsH Tryz.prog 7 [(.int .u8 x0), (.agg #[(.int .u64 x1_0), (.int .u64 x1_1), (.int .u64 x1_2), (.int .u64 x1_3)])] h K :=
  calls_of_E (T := T) Xok mix Tryz.func7 hb ok rfl (by rw [e0]; exact H)
end F7
end Go.Proofs.YtnbnlhpleomaoaaGreat.Ev
/- THE LAWS OF LAYER 30: costs refused (WeighRaw). Conditions: the arguments are in their kinds' bounds. -/
namespace Go.Proofs.YtnbnlhpleomaoaaGreat.Ev
open Go
section
variable {h : Heap} {s a cc : Nat} {L : List Nat} {X : SX} {cp : Option Addr} {c : List Int} {K : Value → Heap → Prop}
end
/-- the cheapest is one of them, none is cheaper, none of its price comes earlier -/
theorem bestF_le {c : List Int} {l : List Nat} (hl : l.Pairwise (· < ·)) : ∀ x ∈ l, (bestF c l).2 = true ∧ (cst c (bestF c l).1 c.length < cst c x c.length ∨ (cst c (bestF c l).1 c.length = cst c x c.length ∧ (bestF c l).1 ≤ x)) := by
  refine snoc_ind (P := fun l => l.Pairwise (· < ·) → ∀ x ∈ l, (bestF c l).2 = true ∧ (cst c (bestF c l).1 c.length < cst c x c.length ∨ (cst c (bestF c l).1 c.length = cst c x c.length ∧ (bestF c l).1 ≤ x))) (fun _ x hx => by simp at hx) (fun l y ih hp x hx => ?_) l hl
  rw [List.pairwise_append] at hp
  obtain ⟨h1, -, h3⟩ := hp
  have ih := ih h1
  rw [bestF_snoc]
  unfold bst
  cases hb : (bestF c l).2 with
  | false =>
    obtain ⟨e1, e2⟩ := bestF_none hb
    subst e1
    simp at hx
    subst hx
    simp
  | true =>
    simp only [Bool.not_true, Bool.false_or]
    have hm := bestF_mem hb
    split
    · next hlt =>
      have hlt := of_decide_eq_true hlt
      refine ⟨rfl, ?_⟩
      rcases List.mem_append.1 hx with hx | hx
      · have := (ih x hx).2
        dsimp only
        omega
      · simp at hx
        subst hx
        dsimp only
        omega
    · next hge =>
      have hge : ¬ (cst c y c.length < cst c (bestF c l).1 c.length) := fun h => hge (decide_eq_true h)
      refine ⟨hb, ?_⟩
      rcases List.mem_append.1 hx with hx | hx
      · exact (ih x hx).2
      · simp at hx
        subst hx
        have := h3 _ hm x (by simp)
        omega
end Go.Proofs.YtnbnlhpleomaoaaGreat.Ev
/- PRINTED BY PROGRAM: what each of these functions does, computed over heaps by the evaluator, and that its calls do so. Conditions: none. -/
namespace Go.Proofs.YtnbnlhpleomaoaaGreat.Ev
open Go
-- spinney/spinneylaw30.WeighTells
namespace F3
def T : Hint := ⟨[(15, [2, 3, 4, 6, 11, 12, 14, 15, 16, 17, 18, 19, 20, 21, 22]), (21, [2, 3, 4, 6, 11, 12, 14, 15, 16, 17, 18, 19, 20, 21, 22]), (26, [2, 3, 4, 11, 12, 14, 15, 16, 17, 18, 19, 20, 21]), (33, [3, 4, 12, 14, 15, 20, 21]), (35, [3, 4, 12, 14, 15, 20, 21, 30, 31, 32, 33])], []⟩
noncomputable def body : Code := (Tryz.f3.body).getD .skip
noncomputable def en (S : Stop) (p : List Nat) (κ : XK) : Fr → Heap → Prop := E Tryz.prog X T S (sub body p) κ
noncomputable def ln (S : Stop) (p : List Nat) (κ : XK) (n : Nat) : Fr → Heap → Prop := loopN S (E Tryz.prog X T S (sub body p)) (cutQ T (sub body p)) κ n
def fn (K : KK) : XK := fin Tryz.prog Tryz.f3.results.toList K
noncomputable def c0 (S : Stop) (K : KK) : XK := seqN S (cutQ T (sub body [1, 1, 1, 1, 1, 1, 1, 1, 1, 1, 1, 1])) (en S [1, 1, 1, 1, 1, 1, 1, 1, 1, 1, 1, 1] (fn K)) (fn K)
noncomputable def c1 (S : Stop) (K : KK) : XK := blockN 0 (c0 S K)
noncomputable def c2 (S : Stop) (n15 : Nat) (K : KK) : XK := backN S (cutQ T (sub body [1, 1, 1, 1, 1, 1, 1, 1, 1, 1, 1, 0, 1, 0, 0])) (ln S [1, 1, 1, 1, 1, 1, 1, 1, 1, 1, 1, 0, 1, 0, 0] (c1 S K) n15) (c1 S K)
noncomputable def c3 (S : Stop) (n15 : Nat) (K : KK) : XK := seqN S (cutQ T (sub body [1, 1, 1, 1, 1, 1, 1, 1, 1, 1, 1, 0, 1, 0, 0, 1, 1])) (en S [1, 1, 1, 1, 1, 1, 1, 1, 1, 1, 1, 0, 1, 0, 0, 1, 1] (c2 S n15 K)) (c2 S n15 K)
noncomputable def c4 (S : Stop) (n15 : Nat) (K : KK) : XK := blockN 1 (c3 S n15 K)
def f15 (x2p : Option Addr) (x2l x2c : Nat) (x3 x4 : Int) (x6 : Addr) (x11 : Int) (x12 : Option Addr) (x14 : Int) (x15 : Bool) (x16 x17 x18 : Int) (x19 : Bool) (x20p : Option Addr) (x20l x20c : Nat) (x21 x22 : Int) : Fr := [(2, (.slice x2p x2l x2c)), (3, (.int .i64 x3)), (4, (.int .u8 x4)), (6, (.pointer (some x6))), (11, (.int .i64 x11)), (12, (.pointer x12)), (14, (.int .u32 x14)), (15, (.bool x15)), (16, (.int .i64 x16)), (17, (.int .i64 x17)), (18, (.int .i64 x18)), (19, (.bool x19)), (20, (.slice x20p x20l x20c)), (21, (.int .i64 x21)), (22, (.int .i64 x22))]
def f21 (x2p : Option Addr) (x2l x2c : Nat) (x3 x4 : Int) (x6 : Addr) (x11 : Int) (x12 : Option Addr) (x14 : Int) (x15 : Bool) (x16 x17 x18 : Int) (x19 : Bool) (x20p : Option Addr) (x20l x20c : Nat) (x21 x22 : Int) : Fr := [(2, (.slice x2p x2l x2c)), (3, (.int .i64 x3)), (4, (.int .u8 x4)), (6, (.pointer (some x6))), (11, (.int .i64 x11)), (12, (.pointer x12)), (14, (.int .u32 x14)), (15, (.bool x15)), (16, (.int .i64 x16)), (17, (.int .i64 x17)), (18, (.int .i64 x18)), (19, (.bool x19)), (20, (.slice x20p x20l x20c)), (21, (.int .i64 x21)), (22, (.int .i64 x22))]
def f26 (x2p : Option Addr) (x2l x2c : Nat) (x3 x4 x11 : Int) (x12 : Option Addr) (x14 : Int) (x15 : Bool) (x16 x17 x18 : Int) (x19 : Bool) (x20p : Option Addr) (x20l x20c : Nat) (x21 : Int) : Fr := [(2, (.slice x2p x2l x2c)), (3, (.int .i64 x3)), (4, (.int .u8 x4)), (11, (.int .i64 x11)), (12, (.pointer x12)), (14, (.int .u32 x14)), (15, (.bool x15)), (16, (.int .i64 x16)), (17, (.int .i64 x17)), (18, (.int .i64 x18)), (19, (.bool x19)), (20, (.slice x20p x20l x20c)), (21, (.int .i64 x21))]
def f33 (x3 x4 : Int) (x12 : Option Addr) (x14 : Int) (x15 : Bool) (x20p : Option Addr) (x20l x20c : Nat) (x21 : Int) : Fr := [(3, (.int .i64 x3)), (4, (.int .u8 x4)), (12, (.pointer x12)), (14, (.int .u32 x14)), (15, (.bool x15)), (20, (.slice x20p x20l x20c)), (21, (.int .i64 x21))]
def f35 (x3 x4 : Int) (x12 : Option Addr) (x14 : Int) (x15 : Bool) (x20p : Option Addr) (x20l x20c : Nat) (x21 x30 : Int) (x31 : Bool) (x32 : Int) (x33 : Bool) : Fr := [(3, (.int .i64 x3)), (4, (.int .u8 x4)), (12, (.pointer x12)), (14, (.int .u32 x14)), (15, (.bool x15)), (20, (.slice x20p x20l x20c)), (21, (.int .i64 x21)), (30, (.int .u8 x30)), (31, (.bool x31)), (32, (.int .i64 x32)), (33, (.bool x33))]
def J0 (k15 : (Option Addr) → Nat → Nat → Int → Int → Addr → Int → (Option Addr) → Int → Bool → Int → Int → Int → Bool → (Option Addr) → Nat → Nat → Int → Int → Heap → Prop) (x0 x1_0 x1_1 x1_2 x1_3 : Int) (x2p : Option Addr) (x2l x2c : Nat) (x3 x4 : Int) (h : Heap) (K : KK) : Prop :=
  newK h (.cells #[(.int .u64 x1_0), (.int .u64 x1_1), (.int .u64 x1_2), (.int .u64 x1_3)] 24) (fun b1 h2 => CallsH Tryz.prog 10 [] h2 (fun v3 h4 => ldB (some v3) (fun b5 => bcase (!b5) (K (.bool false) h4) (bcase (decide ((Nat.cast x2l : Int) > (12 : Int))) (K (.bool true) h4) (((8 : Int) ≠ 0 ∧ CallsH Tryz.prog 11 [(.int .i64 (IntKind.wrap .i64 ((IntKind.wrap .i64 (Int.tmod x0 (8 : Int))) + (1 : Int)))), (.int .i64 (400 : Int))] h4 (fun v6 h7 => (∃ p8 : Option Addr, ∃ n9 : Int, v6 = (.tuple #[(.pointer p8), (.int .i64 n9)]) ∧ bcase (n9 != (0 : Int)) (K (.bool false) h7) (ldI .u64 (rd h7 (Addr.add (Addr.mk b1 0 none) 0)) (fun n10 => ldI .u64 (rd h7 (Addr.add (Addr.mk b1 0 none) 1)) (fun n11 => ldI .u64 (rd h7 (Addr.add (Addr.mk b1 0 none) 2)) (fun n12 => ldI .u64 (rd h7 (Addr.add (Addr.mk b1 0 none) 3)) (fun n13 => CallsH Tryz.prog 12 [(.agg #[(.int .u64 n10), (.int .u64 n11), (.int .u64 n12), (.int .u64 n13)]), (.int .i64 (IntKind.wrap .i64 ((IntKind.wrap .i64 (Int.tmod x0 (8 : Int))) + (1 : Int))))] h7 (fun v14 h15 => (∃ n16 : Int, ∃ n17 : Int, ∃ n18 : Int, ∃ n19 : Int, v14 = (.agg #[(.int .u64 n16), (.int .u64 n17), (.int .u64 n18), (.int .u64 n19)]) ∧ stK h15 (Addr.add (Addr.mk b1 0 none) 0) (.int .u64 n16) (fun h20 => stK h20 (Addr.add (Addr.mk b1 0 none) 1) (.int .u64 n17) (fun h21 => stK h21 (Addr.add (Addr.mk b1 0 none) 2) (.int .u64 n18) (fun h22 => stK h22 (Addr.add (Addr.mk b1 0 none) 3) (.int .u64 n19) (fun h23 => ldI .u64 (rd h23 (Addr.add (Addr.mk b1 0 none) 0)) (fun n24 => ldI .u64 (rd h23 (Addr.add (Addr.mk b1 0 none) 1)) (fun n25 => ldI .u64 (rd h23 (Addr.add (Addr.mk b1 0 none) 2)) (fun n26 => ldI .u64 (rd h23 (Addr.add (Addr.mk b1 0 none) 3)) (fun n27 => CallsH Tryz.prog 13 [(.pointer p8), (.agg #[(.int .u64 n24), (.int .u64 n25), (.int .u64 n26), (.int .u64 n27)])] h23 (fun v28 h29 => (∃ n30 : Int, ∃ b31 : Bool, v28 = (.tuple #[(.int .u32 n30), (.bool b31)]) ∧ k15 x2p x2l x2c x3 x4 (Addr.mk b1 0 none) (IntKind.wrap .i64 ((IntKind.wrap .i64 (Int.tmod x0 (8 : Int))) + (1 : Int))) p8 n30 b31 (0 : Int) (0 : Int) (0 : Int) false none 0 0 (0 : Int) (0 : Int) h29)))))))))))))))))))))))))
theorem E0 (S : Stop) (x0 x1_0 x1_1 x1_2 x1_3 : Int) (x2p : Option Addr) (x2l x2c : Nat) (x3 x4 : Int) (h : Heap) (K : KK) : (E Tryz.prog X T S body (fin Tryz.prog Tryz.f3.results.toList K) (args0 0 [(.int .u8 x0), (.agg #[(.int .u64 x1_0), (.int .u64 x1_1), (.int .u64 x1_2), (.int .u64 x1_3)]), (.slice x2p x2l x2c), (.int .i64 x3), (.int .u8 x4)]) h) = J0 (fun x2p x2l x2c x3 x4 x6 x11 x12 x14 x15 x16 x17 x18 x19 x20p x20l x20c x21 x22 h => S (en S [1, 1, 1, 1, 1, 1, 1, 1, 1, 1, 1, 0, 1] (c0 S K)) (f15 x2p x2l x2c x3 x4 x6 x11 x12 x14 x15 x16 x17 x18 x19 x20p x20l x20c x21 x22) h) x0 x1_0 x1_1 x1_2 x1_3 x2p x2l x2c x3 x4 h K := by kernel_rfl
def Jk15 (lp15 : (Option Addr) → Nat → Nat → Int → Int → Addr → Int → (Option Addr) → Int → Bool → Int → Int → Int → Bool → (Option Addr) → Nat → Nat → Int → Int → Heap → Prop) (x2p : Option Addr) (x2l x2c : Nat) (x3 x4 : Int) (x6 : Addr) (x11 : Int) (x12 : Option Addr) (x14 : Int) (x15 : Bool) (x16 x17 x18 : Int) (x19 : Bool) (x20p : Option Addr) (x20l x20c : Nat) (x21 x22 : Int) (h : Heap) (_K : KK) : Prop :=
  lp15 x2p x2l x2c x3 x4 x6 x11 x12 x14 x15 x16 x17 x18 x19 x20p x20l x20c x21 x22 h
theorem Ek15 (S : Stop) (x2p : Option Addr) (x2l x2c : Nat) (x3 x4 : Int) (x6 : Addr) (x11 : Int) (x12 : Option Addr) (x14 : Int) (x15 : Bool) (x16 x17 x18 : Int) (x19 : Bool) (x20p : Option Addr) (x20l x20c : Nat) (x21 x22 : Int) (h : Heap) (K : KK) : (en S [1, 1, 1, 1, 1, 1, 1, 1, 1, 1, 1, 0, 1] (c0 S K) (f15 x2p x2l x2c x3 x4 x6 x11 x12 x14 x15 x16 x17 x18 x19 x20p x20l x20c x21 x22) h) = Jk15 (fun x2p x2l x2c x3 x4 x6 x11 x12 x14 x15 x16 x17 x18 x19 x20p x20l x20c x21 x22 h => ∃ n, S (ln S [1, 1, 1, 1, 1, 1, 1, 1, 1, 1, 1, 0, 1, 0, 0] (c1 S K) n) (f15 x2p x2l x2c x3 x4 x6 x11 x12 x14 x15 x16 x17 x18 x19 x20p x20l x20c x21 x22) h) x2p x2l x2c x3 x4 x6 x11 x12 x14 x15 x16 x17 x18 x19 x20p x20l x20c x21 x22 h K := by kernel_rfl
def JL15 (bk15 : (Option Addr) → Nat → Nat → Int → Int → Addr → Int → (Option Addr) → Int → Bool → Int → Int → Int → Bool → (Option Addr) → Nat → Nat → Int → Int → Heap → Prop) (k21 : (Option Addr) → Nat → Nat → Int → Int → Addr → Int → (Option Addr) → Int → Bool → Int → Int → Int → Bool → (Option Addr) → Nat → Nat → Int → Int → Heap → Prop) (k26 : (Option Addr) → Nat → Nat → Int → Int → Int → (Option Addr) → Int → Bool → Int → Int → Int → Bool → (Option Addr) → Nat → Nat → Int → Heap → Prop) (x2p : Option Addr) (x2l x2c : Nat) (x3 x4 : Int) (x6 : Addr) (x11 : Int) (x12 : Option Addr) (x14 : Int) (x15 : Bool) (x16 x17 x18 : Int) (x19 : Bool) (x20p : Option Addr) (x20l x20c : Nat) (x21 x22 : Int) (h : Heap) (_K : KK) : Prop :=
  (0 ≤ (IntKind.wrap .u64 x11) ∧ bcase (decide (x22 < (IntKind.wrap .i64 ((1 : Int) * 2 ^ (min (Int.toNat (IntKind.wrap .u64 x11)) (IntKind.bits .i64)))))) (ldI .u64 (rd h (Addr.add x6 0)) (fun n1 => ldI .u64 (rd h (Addr.add x6 1)) (fun n2 => ldI .u64 (rd h (Addr.add x6 2)) (fun n3 => ldI .u64 (rd h (Addr.add x6 3)) (fun n4 => CallsH Tryz.prog 14 [(.agg #[(.int .u64 n1), (.int .u64 n2), (.int .u64 n3), (.int .u64 n4)]), (.int .u8 (IntKind.wrap .u8 x22))] h (fun v5 h6 => ldB (some v5) (fun b7 => bcase (!b7) (bk15 x2p x2l x2c x3 x4 x6 x11 x12 x14 x15 x16 x17 x18 x19 x20p x20l x20c x21 (IntKind.wrap .i64 (x22 + (1 : Int))) h6) (newK h6 (.cells #[(.int .i64 x22)] 3) (fun b8 h9 => appK h9 3 1 8 #[(.int .i64 (0 : Int))] x20p x20l x20c (some (Addr.mk b8 0 none)) 1 (fun p10 l11 c12 h13 => bcase (decide (x22 < (IntKind.wrap .i64 x4))) (k21 x2p x2l x2c x3 x4 x6 x11 x12 x14 x15 x16 x17 x18 x19 p10 l11 c12 (IntKind.wrap .i64 (x21 + (1 : Int))) x22 h13) (k21 x2p x2l x2c x3 x4 x6 x11 x12 x14 x15 x16 x17 x18 x19 p10 l11 c12 x21 x22 h13))))))))))) (k26 x2p x2l x2c x3 x4 x11 x12 x14 x15 x16 x17 x18 x19 x20p x20l x20c x21 h))
theorem EL15 (S : Stop) (n15 : Nat) (x2p : Option Addr) (x2l x2c : Nat) (x3 x4 : Int) (x6 : Addr) (x11 : Int) (x12 : Option Addr) (x14 : Int) (x15 : Bool) (x16 x17 x18 : Int) (x19 : Bool) (x20p : Option Addr) (x20l x20c : Nat) (x21 x22 : Int) (h : Heap) (K : KK) : (en S [1, 1, 1, 1, 1, 1, 1, 1, 1, 1, 1, 0, 1, 0, 0] (c2 S n15 K) (f15 x2p x2l x2c x3 x4 x6 x11 x12 x14 x15 x16 x17 x18 x19 x20p x20l x20c x21 x22) h) = JL15 (fun x2p x2l x2c x3 x4 x6 x11 x12 x14 x15 x16 x17 x18 x19 x20p x20l x20c x21 x22 h => S (ln S [1, 1, 1, 1, 1, 1, 1, 1, 1, 1, 1, 0, 1, 0, 0] (c1 S K) n15) (f15 x2p x2l x2c x3 x4 x6 x11 x12 x14 x15 x16 x17 x18 x19 x20p x20l x20c x21 x22) h) (fun x2p x2l x2c x3 x4 x6 x11 x12 x14 x15 x16 x17 x18 x19 x20p x20l x20c x21 x22 h => S (en S [1, 1, 1, 1, 1, 1, 1, 1, 1, 1, 1, 0, 1, 0, 0, 1, 0, 0, 1, 1, 1] (c4 S n15 K)) (f21 x2p x2l x2c x3 x4 x6 x11 x12 x14 x15 x16 x17 x18 x19 x20p x20l x20c x21 x22) h) (fun x2p x2l x2c x3 x4 x11 x12 x14 x15 x16 x17 x18 x19 x20p x20l x20c x21 h => S (en S [1, 1, 1, 1, 1, 1, 1, 1, 1, 1, 1, 1] (fn K)) (f26 x2p x2l x2c x3 x4 x11 x12 x14 x15 x16 x17 x18 x19 x20p x20l x20c x21) h) x2p x2l x2c x3 x4 x6 x11 x12 x14 x15 x16 x17 x18 x19 x20p x20l x20c x21 x22 h K := by kernel_rfl
def Jk21 (bk15 : (Option Addr) → Nat → Nat → Int → Int → Addr → Int → (Option Addr) → Int → Bool → Int → Int → Int → Bool → (Option Addr) → Nat → Nat → Int → Int → Heap → Prop) (x2p : Option Addr) (x2l x2c : Nat) (x3 x4 : Int) (x6 : Addr) (x11 : Int) (x12 : Option Addr) (x14 : Int) (x15 : Bool) (x16 x17 x18 : Int) (x19 : Bool) (x20p : Option Addr) (x20l x20c : Nat) (x21 x22 : Int) (h : Heap) (_K : KK) : Prop :=
  CallsH Tryz.prog 15 [(.slice x2p x2l x2c), (.int .i64 x11)] h (fun v1 h2 => ldB (some v1) (fun b3 => bcase (!b3) (bk15 x2p x2l x2c x3 x4 x6 x11 x12 x14 x15 x16 x17 x18 x19 x20p x20l x20c x21 (IntKind.wrap .i64 (x22 + (1 : Int))) h2) (CallsH Tryz.prog 16 [(.slice x2p x2l x2c), (.int .i64 x22)] h2 (fun v4 h5 => ldI .i64 (some v4) (fun n6 => bcase (!x19) (bk15 x2p x2l x2c x3 x4 x6 x11 x12 x14 x15 x22 n6 (IntKind.wrap .i64 (x18 + n6)) true x20p x20l x20c x21 (IntKind.wrap .i64 (x22 + (1 : Int))) h5) (bcase (decide (n6 < x17)) (bk15 x2p x2l x2c x3 x4 x6 x11 x12 x14 x15 x22 n6 (IntKind.wrap .i64 (x18 + n6)) true x20p x20l x20c x21 (IntKind.wrap .i64 (x22 + (1 : Int))) h5) (bk15 x2p x2l x2c x3 x4 x6 x11 x12 x14 x15 x16 x17 (IntKind.wrap .i64 (x18 + n6)) x19 x20p x20l x20c x21 (IntKind.wrap .i64 (x22 + (1 : Int))) h5)))))))
theorem Ek21 (S : Stop) (n15 : Nat) (x2p : Option Addr) (x2l x2c : Nat) (x3 x4 : Int) (x6 : Addr) (x11 : Int) (x12 : Option Addr) (x14 : Int) (x15 : Bool) (x16 x17 x18 : Int) (x19 : Bool) (x20p : Option Addr) (x20l x20c : Nat) (x21 x22 : Int) (h : Heap) (K : KK) : (en S [1, 1, 1, 1, 1, 1, 1, 1, 1, 1, 1, 0, 1, 0, 0, 1, 0, 0, 1, 1, 1] (c4 S n15 K) (f21 x2p x2l x2c x3 x4 x6 x11 x12 x14 x15 x16 x17 x18 x19 x20p x20l x20c x21 x22) h) = Jk21 (fun x2p x2l x2c x3 x4 x6 x11 x12 x14 x15 x16 x17 x18 x19 x20p x20l x20c x21 x22 h => S (ln S [1, 1, 1, 1, 1, 1, 1, 1, 1, 1, 1, 0, 1, 0, 0] (c1 S K) n15) (f15 x2p x2l x2c x3 x4 x6 x11 x12 x14 x15 x16 x17 x18 x19 x20p x20l x20c x21 x22) h) x2p x2l x2c x3 x4 x6 x11 x12 x14 x15 x16 x17 x18 x19 x20p x20l x20c x21 x22 h K := by kernel_rfl
def Jk26 (k33 : Int → Int → (Option Addr) → Int → Bool → (Option Addr) → Nat → Nat → Int → Heap → Prop) (x2p : Option Addr) (x2l x2c : Nat) (x3 x4 x11 : Int) (x12 : Option Addr) (x14 : Int) (x15 : Bool) (x16 x17 x18 : Int) (x19 : Bool) (x20p : Option Addr) (x20l x20c : Nat) (x21 : Int) (h : Heap) (K : KK) : Prop :=
  appK h 3 1 8 #[(.int .i64 (0 : Int))] none 0 0 x2p x2l (fun p1 l2 c3 h4 => CallsH Tryz.prog 17 [(.pointer x12), (.int .u32 x14), (.slice p1 l2 c3)] h4 (fun v5 h6 => (∃ n7 : Int, ∃ n8 : Int, ∃ b9 : Bool, ∃ n10 : Int, v5 = (.tuple #[(.int .u8 n7), (.int .i64 n8), (.bool b9), (.int .i64 n10)]) ∧ appK h6 3 1 8 #[(.int .i64 (0 : Int))] none 0 0 x2p x2l (fun p11 l12 c13 h14 => CallsH Tryz.prog 18 [(.pointer x12), (.int .u32 x14), (.slice p11 l12 c13)] h14 (fun v15 h16 => (∃ n17 : Int, ∃ n18 : Int, v15 = (.tuple #[(.int .i64 n17), (.int .i64 n18)]) ∧ CallsH Tryz.prog 15 [(.slice x2p x2l x2c), (.int .i64 x11)] h16 (fun v19 h20 => ldB (some v19) (fun b21 => bcase (!b21) (bcase (n10 != (40 : Int)) (K (.bool false) h20) (bcase (n18 != (40 : Int)) (K (.bool false) h20) (bcase b9 (K (.bool false) h20) (bcase (n7 != (0 : Int)) (K (.bool false) h20) (bcase (n8 != (0 : Int)) (K (.bool false) h20) (bcase (n17 != (0 : Int)) (K (.bool false) h20) (k33 x3 x4 x12 x14 x15 x20p x20l x20c x21 h20))))))) (bcase (n10 != (0 : Int)) (K (.bool false) h20) (bcase (n18 != (0 : Int)) (K (.bool false) h20) (bcase (!(b9 == x19)) (K (.bool false) h20) (bcase ((IntKind.wrap .i64 n7) != x16) (K (.bool false) h20) (bcase (n8 != x17) (K (.bool false) h20) (bcase (n17 != x18) (K (.bool false) h20) (k33 x3 x4 x12 x14 x15 x20p x20l x20c x21 h20)))))))))))))))
theorem Ek26 (S : Stop) (x2p : Option Addr) (x2l x2c : Nat) (x3 x4 x11 : Int) (x12 : Option Addr) (x14 : Int) (x15 : Bool) (x16 x17 x18 : Int) (x19 : Bool) (x20p : Option Addr) (x20l x20c : Nat) (x21 : Int) (h : Heap) (K : KK) : (en S [1, 1, 1, 1, 1, 1, 1, 1, 1, 1, 1, 1] (fn K) (f26 x2p x2l x2c x3 x4 x11 x12 x14 x15 x16 x17 x18 x19 x20p x20l x20c x21) h) = Jk26 (fun x3 x4 x12 x14 x15 x20p x20l x20c x21 h => S (en S [1, 1, 1, 1, 1, 1, 1, 1, 1, 1, 1, 1, 1, 1, 1] (fn K)) (f33 x3 x4 x12 x14 x15 x20p x20l x20c x21) h) x2p x2l x2c x3 x4 x11 x12 x14 x15 x16 x17 x18 x19 x20p x20l x20c x21 h K := by kernel_rfl
def Jk33 (k35 : Int → Int → (Option Addr) → Int → Bool → (Option Addr) → Nat → Nat → Int → Int → Bool → Int → Bool → Heap → Prop) (x3 x4 : Int) (x12 : Option Addr) (x14 : Int) (x15 : Bool) (x20p : Option Addr) (x20l x20c : Nat) (x21 : Int) (h : Heap) (_K : KK) : Prop :=
  CallsH Tryz.prog 19 [(.pointer x12), (.int .u32 x14), (.int .i64 x3)] h (fun v1 h2 => (∃ n3 : Int, ∃ b4 : Bool, ∃ n5 : Int, v1 = (.tuple #[(.int .u8 n3), (.bool b4), (.int .i64 n5)]) ∧ bcase (decide (x3 ≥ (0 : Int))) (k35 x3 x4 x12 x14 x15 x20p x20l x20c x21 n3 b4 n5 (decide (x3 < (Nat.cast x20l : Int))) h2) (k35 x3 x4 x12 x14 x15 x20p x20l x20c x21 n3 b4 n5 false h2)))
theorem Ek33 (S : Stop) (x3 x4 : Int) (x12 : Option Addr) (x14 : Int) (x15 : Bool) (x20p : Option Addr) (x20l x20c : Nat) (x21 : Int) (h : Heap) (K : KK) : (en S [1, 1, 1, 1, 1, 1, 1, 1, 1, 1, 1, 1, 1, 1, 1] (fn K) (f33 x3 x4 x12 x14 x15 x20p x20l x20c x21) h) = Jk33 (fun x3 x4 x12 x14 x15 x20p x20l x20c x21 x30 x31 x32 x33 h => S (en S [1, 1, 1, 1, 1, 1, 1, 1, 1, 1, 1, 1, 1, 1, 1, 1, 1] (fn K)) (f35 x3 x4 x12 x14 x15 x20p x20l x20c x21 x30 x31 x32 x33) h) x3 x4 x12 x14 x15 x20p x20l x20c x21 h K := by kernel_rfl
def Jk35 (x3 x4 : Int) (x12 : Option Addr) (x14 : Int) (x15 : Bool) (x20p : Option Addr) (x20l _x20c : Nat) (x21 x30 : Int) (x31 : Bool) (x32 : Int) (x33 : Bool) (h : Heap) (K : KK) : Prop :=
  bcase (x32 != (0 : Int)) (K (.bool false) h) (bcase (!(x31 == x33)) (K (.bool false) h) (bcase x33 (ptrK x20p (fun a1 => (0 ≤ x3 ∧ x3 < (Nat.cast x20l : Int) ∧ ldI .i64 (rd h (Addr.add a1 (Int.toNat x3 * 1))) (fun n2 => bcase ((IntKind.wrap .i64 x30) != n2) (K (.bool false) h) (bcase (!x33) (bcase (x30 != (0 : Int)) (K (.bool false) h) (CallsH Tryz.prog 20 [(.pointer x12), (.int .u32 x14), (.int .u8 x4)] h (fun v3 h4 => (∃ n5 : Int, ∃ n6 : Int, v3 = (.tuple #[(.int .i64 n5), (.int .i64 n6)]) ∧ bcase x15 (bcase (n6 == (0 : Int)) (K (.bool (n5 == x21)) h4) (K (.bool false) h4)) (K (.bool false) h4))))) (CallsH Tryz.prog 20 [(.pointer x12), (.int .u32 x14), (.int .u8 x4)] h (fun v7 h8 => (∃ n9 : Int, ∃ n10 : Int, v7 = (.tuple #[(.int .i64 n9), (.int .i64 n10)]) ∧ bcase x15 (bcase (n10 == (0 : Int)) (K (.bool (n9 == x21)) h8) (K (.bool false) h8)) (K (.bool false) h8))))))))) (bcase (!x33) (bcase (x30 != (0 : Int)) (K (.bool false) h) (CallsH Tryz.prog 20 [(.pointer x12), (.int .u32 x14), (.int .u8 x4)] h (fun v11 h12 => (∃ n13 : Int, ∃ n14 : Int, v11 = (.tuple #[(.int .i64 n13), (.int .i64 n14)]) ∧ bcase x15 (bcase (n14 == (0 : Int)) (K (.bool (n13 == x21)) h12) (K (.bool false) h12)) (K (.bool false) h12))))) (CallsH Tryz.prog 20 [(.pointer x12), (.int .u32 x14), (.int .u8 x4)] h (fun v15 h16 => (∃ n17 : Int, ∃ n18 : Int, v15 = (.tuple #[(.int .i64 n17), (.int .i64 n18)]) ∧ bcase x15 (bcase (n18 == (0 : Int)) (K (.bool (n17 == x21)) h16) (K (.bool false) h16)) (K (.bool false) h16)))))))
theorem Ek35 (S : Stop) (x3 x4 : Int) (x12 : Option Addr) (x14 : Int) (x15 : Bool) (x20p : Option Addr) (x20l x20c : Nat) (x21 x30 : Int) (x31 : Bool) (x32 : Int) (x33 : Bool) (h : Heap) (K : KK) : (en S [1, 1, 1, 1, 1, 1, 1, 1, 1, 1, 1, 1, 1, 1, 1, 1, 1] (fn K) (f35 x3 x4 x12 x14 x15 x20p x20l x20c x21 x30 x31 x32 x33) h) = Jk35 x3 x4 x12 x14 x15 x20p x20l x20c x21 x30 x31 x32 x33 h K := by kernel_rfl
def wk21 (bk15 : (Option Addr) → Nat → Nat → Int → Int → Addr → Int → (Option Addr) → Int → Bool → Int → Int → Int → Bool → (Option Addr) → Nat → Nat → Int → Int → Heap → Prop) (x2p : Option Addr) (x2l x2c : Nat) (x3 x4 : Int) (x6 : Addr) (x11 : Int) (x12 : Option Addr) (x14 : Int) (x15 : Bool) (x16 x17 x18 : Int) (x19 : Bool) (x20p : Option Addr) (x20l x20c : Nat) (x21 x22 : Int) (h : Heap) (K : KK) : Prop :=
  Jk21 bk15 x2p x2l x2c x3 x4 x6 x11 x12 x14 x15 x16 x17 x18 x19 x20p x20l x20c x21 x22 h K
theorem ek21 (K : KK) (n15 : Nat) (bk15 : (Option Addr) → Nat → Nat → Int → Int → Addr → Int → (Option Addr) → Int → Bool → Int → Int → Int → Bool → (Option Addr) → Nat → Nat → Int → Int → Heap → Prop) (hb15 : ∀ (x2p : Option Addr) (x2l x2c : Nat) (x3 x4 : Int) (x6 : Addr) (x11 : Int) (x12 : Option Addr) (x14 : Int) (x15 : Bool) (x16 x17 x18 : Int) (x19 : Bool) (x20p : Option Addr) (x20l x20c : Nat) (x21 x22 : Int) (h : Heap), (ln S0 [1, 1, 1, 1, 1, 1, 1, 1, 1, 1, 1, 0, 1, 0, 0] (c1 S0 K) n15 (f15 x2p x2l x2c x3 x4 x6 x11 x12 x14 x15 x16 x17 x18 x19 x20p x20l x20c x21 x22) h) = bk15 x2p x2l x2c x3 x4 x6 x11 x12 x14 x15 x16 x17 x18 x19 x20p x20l x20c x21 x22 h) (x2p : Option Addr) (x2l x2c : Nat) (x3 x4 : Int) (x6 : Addr) (x11 : Int) (x12 : Option Addr) (x14 : Int) (x15 : Bool) (x16 x17 x18 : Int) (x19 : Bool) (x20p : Option Addr) (x20l x20c : Nat) (x21 x22 : Int) (h : Heap) : (en S0 [1, 1, 1, 1, 1, 1, 1, 1, 1, 1, 1, 0, 1, 0, 0, 1, 0, 0, 1, 1, 1] (c4 S0 n15 K) (f21 x2p x2l x2c x3 x4 x6 x11 x12 x14 x15 x16 x17 x18 x19 x20p x20l x20c x21 x22) h) = wk21 bk15 x2p x2l x2c x3 x4 x6 x11 x12 x14 x15 x16 x17 x18 x19 x20p x20l x20c x21 x22 h K := (Ek21 S0 n15 x2p x2l x2c x3 x4 x6 x11 x12 x14 x15 x16 x17 x18 x19 x20p x20l x20c x21 x22 h K).trans (cg1 (fun q0 => Jk21 q0 x2p x2l x2c x3 x4 x6 x11 x12 x14 x15 x16 x17 x18 x19 x20p x20l x20c x21 x22 h K) (by funext x2p x2l x2c x3 x4 x6 x11 x12 x14 x15 x16 x17 x18 x19 x20p x20l x20c x21 x22 h; exact hb15 x2p x2l x2c x3 x4 x6 x11 x12 x14 x15 x16 x17 x18 x19 x20p x20l x20c x21 x22 h))
def wk35 (x3 x4 : Int) (x12 : Option Addr) (x14 : Int) (x15 : Bool) (x20p : Option Addr) (x20l x20c : Nat) (x21 x30 : Int) (x31 : Bool) (x32 : Int) (x33 : Bool) (h : Heap) (K : KK) : Prop :=
  Jk35 x3 x4 x12 x14 x15 x20p x20l x20c x21 x30 x31 x32 x33 h K
theorem ek35 (K : KK) (x3 x4 : Int) (x12 : Option Addr) (x14 : Int) (x15 : Bool) (x20p : Option Addr) (x20l x20c : Nat) (x21 x30 : Int) (x31 : Bool) (x32 : Int) (x33 : Bool) (h : Heap) : (en S0 [1, 1, 1, 1, 1, 1, 1, 1, 1, 1, 1, 1, 1, 1, 1, 1, 1] (fn K) (f35 x3 x4 x12 x14 x15 x20p x20l x20c x21 x30 x31 x32 x33) h) = wk35 x3 x4 x12 x14 x15 x20p x20l x20c x21 x30 x31 x32 x33 h K := (Ek35 S0 x3 x4 x12 x14 x15 x20p x20l x20c x21 x30 x31 x32 x33 h K).trans (rfl)
def wk33 (x3 x4 : Int) (x12 : Option Addr) (x14 : Int) (x15 : Bool) (x20p : Option Addr) (x20l x20c : Nat) (x21 : Int) (h : Heap) (K : KK) : Prop :=
  Jk33 (fun x3 x4 x12 x14 x15 x20p x20l x20c x21 x30 x31 x32 x33 h => wk35 x3 x4 x12 x14 x15 x20p x20l x20c x21 x30 x31 x32 x33 h K) x3 x4 x12 x14 x15 x20p x20l x20c x21 h K
theorem ek33 (K : KK) (x3 x4 : Int) (x12 : Option Addr) (x14 : Int) (x15 : Bool) (x20p : Option Addr) (x20l x20c : Nat) (x21 : Int) (h : Heap) : (en S0 [1, 1, 1, 1, 1, 1, 1, 1, 1, 1, 1, 1, 1, 1, 1] (fn K) (f33 x3 x4 x12 x14 x15 x20p x20l x20c x21) h) = wk33 x3 x4 x12 x14 x15 x20p x20l x20c x21 h K := (Ek33 S0 x3 x4 x12 x14 x15 x20p x20l x20c x21 h K).trans (cg1 (fun q0 => Jk33 q0 x3 x4 x12 x14 x15 x20p x20l x20c x21 h K) (by funext x3 x4 x12 x14 x15 x20p x20l x20c x21 x30 x31 x32 x33 h; exact ek35 K x3 x4 x12 x14 x15 x20p x20l x20c x21 x30 x31 x32 x33 h))
def wk26 (x2p : Option Addr) (x2l x2c : Nat) (x3 x4 x11 : Int) (x12 : Option Addr) (x14 : Int) (x15 : Bool) (x16 x17 x18 : Int) (x19 : Bool) (x20p : Option Addr) (x20l x20c : Nat) (x21 : Int) (h : Heap) (K : KK) : Prop :=
  Jk26 (fun x3 x4 x12 x14 x15 x20p x20l x20c x21 h => wk33 x3 x4 x12 x14 x15 x20p x20l x20c x21 h K) x2p x2l x2c x3 x4 x11 x12 x14 x15 x16 x17 x18 x19 x20p x20l x20c x21 h K
theorem ek26 (K : KK) (x2p : Option Addr) (x2l x2c : Nat) (x3 x4 x11 : Int) (x12 : Option Addr) (x14 : Int) (x15 : Bool) (x16 x17 x18 : Int) (x19 : Bool) (x20p : Option Addr) (x20l x20c : Nat) (x21 : Int) (h : Heap) : (en S0 [1, 1, 1, 1, 1, 1, 1, 1, 1, 1, 1, 1] (fn K) (f26 x2p x2l x2c x3 x4 x11 x12 x14 x15 x16 x17 x18 x19 x20p x20l x20c x21) h) = wk26 x2p x2l x2c x3 x4 x11 x12 x14 x15 x16 x17 x18 x19 x20p x20l x20c x21 h K := (Ek26 S0 x2p x2l x2c x3 x4 x11 x12 x14 x15 x16 x17 x18 x19 x20p x20l x20c x21 h K).trans (cg1 (fun q0 => Jk26 q0 x2p x2l x2c x3 x4 x11 x12 x14 x15 x16 x17 x18 x19 x20p x20l x20c x21 h K) (by funext x3 x4 x12 x14 x15 x20p x20l x20c x21 h; exact ek33 K x3 x4 x12 x14 x15 x20p x20l x20c x21 h))
def wL15 : Nat → (Option Addr) → Nat → Nat → Int → Int → Addr → Int → (Option Addr) → Int → Bool → Int → Int → Int → Bool → (Option Addr) → Nat → Nat → Int → Int → Heap → KK → Prop
  | 0, _, _, _, _, _, _, _, _, _, _, _, _, _, _, _, _, _, _, _, _, _ => False
  | n + 1, x2p, x2l, x2c, x3, x4, x6, x11, x12, x14, x15, x16, x17, x18, x19, x20p, x20l, x20c, x21, x22, h, K => JL15 (fun x2p x2l x2c x3 x4 x6 x11 x12 x14 x15 x16 x17 x18 x19 x20p x20l x20c x21 x22 h => wL15 n x2p x2l x2c x3 x4 x6 x11 x12 x14 x15 x16 x17 x18 x19 x20p x20l x20c x21 x22 h K) (fun x2p x2l x2c x3 x4 x6 x11 x12 x14 x15 x16 x17 x18 x19 x20p x20l x20c x21 x22 h => wk21 (fun x2p x2l x2c x3 x4 x6 x11 x12 x14 x15 x16 x17 x18 x19 x20p x20l x20c x21 x22 h => wL15 n x2p x2l x2c x3 x4 x6 x11 x12 x14 x15 x16 x17 x18 x19 x20p x20l x20c x21 x22 h K) x2p x2l x2c x3 x4 x6 x11 x12 x14 x15 x16 x17 x18 x19 x20p x20l x20c x21 x22 h K) (fun x2p x2l x2c x3 x4 x11 x12 x14 x15 x16 x17 x18 x19 x20p x20l x20c x21 h => wk26 x2p x2l x2c x3 x4 x11 x12 x14 x15 x16 x17 x18 x19 x20p x20l x20c x21 h K) x2p x2l x2c x3 x4 x6 x11 x12 x14 x15 x16 x17 x18 x19 x20p x20l x20c x21 x22 h K
theorem eL15 (K : KK) : ∀ (n : Nat) (x2p : Option Addr) (x2l x2c : Nat) (x3 x4 : Int) (x6 : Addr) (x11 : Int) (x12 : Option Addr) (x14 : Int) (x15 : Bool) (x16 x17 x18 : Int) (x19 : Bool) (x20p : Option Addr) (x20l x20c : Nat) (x21 x22 : Int) (h : Heap), (ln S0 [1, 1, 1, 1, 1, 1, 1, 1, 1, 1, 1, 0, 1, 0, 0] (c1 S0 K) n (f15 x2p x2l x2c x3 x4 x6 x11 x12 x14 x15 x16 x17 x18 x19 x20p x20l x20c x21 x22) h) = wL15 n x2p x2l x2c x3 x4 x6 x11 x12 x14 x15 x16 x17 x18 x19 x20p x20l x20c x21 x22 h K
  | 0, _, _, _, _, _, _, _, _, _, _, _, _, _, _, _, _, _, _, _, _ => rfl
  | n + 1, x2p, x2l, x2c, x3, x4, x6, x11, x12, x14, x15, x16, x17, x18, x19, x20p, x20l, x20c, x21, x22, h => (EL15 S0 n x2p x2l x2c x3 x4 x6 x11 x12 x14 x15 x16 x17 x18 x19 x20p x20l x20c x21 x22 h K).trans (cg3 (fun q0 q1 q2 => JL15 q0 q1 q2 x2p x2l x2c x3 x4 x6 x11 x12 x14 x15 x16 x17 x18 x19 x20p x20l x20c x21 x22 h K) (by funext x2p x2l x2c x3 x4 x6 x11 x12 x14 x15 x16 x17 x18 x19 x20p x20l x20c x21 x22 h; exact (fun x2p x2l x2c x3 x4 x6 x11 x12 x14 x15 x16 x17 x18 x19 x20p x20l x20c x21 x22 h => eL15 K n x2p x2l x2c x3 x4 x6 x11 x12 x14 x15 x16 x17 x18 x19 x20p x20l x20c x21 x22 h) x2p x2l x2c x3 x4 x6 x11 x12 x14 x15 x16 x17 x18 x19 x20p x20l x20c x21 x22 h) (by funext x2p x2l x2c x3 x4 x6 x11 x12 x14 x15 x16 x17 x18 x19 x20p x20l x20c x21 x22 h; exact ek21 K n (fun x2p x2l x2c x3 x4 x6 x11 x12 x14 x15 x16 x17 x18 x19 x20p x20l x20c x21 x22 h => wL15 n x2p x2l x2c x3 x4 x6 x11 x12 x14 x15 x16 x17 x18 x19 x20p x20l x20c x21 x22 h K) (fun x2p x2l x2c x3 x4 x6 x11 x12 x14 x15 x16 x17 x18 x19 x20p x20l x20c x21 x22 h => eL15 K n x2p x2l x2c x3 x4 x6 x11 x12 x14 x15 x16 x17 x18 x19 x20p x20l x20c x21 x22 h) x2p x2l x2c x3 x4 x6 x11 x12 x14 x15 x16 x17 x18 x19 x20p x20l x20c x21 x22 h) (by funext x2p x2l x2c x3 x4 x11 x12 x14 x15 x16 x17 x18 x19 x20p x20l x20c x21 h; exact ek26 K x2p x2l x2c x3 x4 x11 x12 x14 x15 x16 x17 x18 x19 x20p x20l x20c x21 h))
def wk15 (x2p : Option Addr) (x2l x2c : Nat) (x3 x4 : Int) (x6 : Addr) (x11 : Int) (x12 : Option Addr) (x14 : Int) (x15 : Bool) (x16 x17 x18 : Int) (x19 : Bool) (x20p : Option Addr) (x20l x20c : Nat) (x21 x22 : Int) (h : Heap) (K : KK) : Prop :=
  Jk15 (fun x2p x2l x2c x3 x4 x6 x11 x12 x14 x15 x16 x17 x18 x19 x20p x20l x20c x21 x22 h => ∃ m, wL15 m x2p x2l x2c x3 x4 x6 x11 x12 x14 x15 x16 x17 x18 x19 x20p x20l x20c x21 x22 h K) x2p x2l x2c x3 x4 x6 x11 x12 x14 x15 x16 x17 x18 x19 x20p x20l x20c x21 x22 h K
theorem ek15 (K : KK) (x2p : Option Addr) (x2l x2c : Nat) (x3 x4 : Int) (x6 : Addr) (x11 : Int) (x12 : Option Addr) (x14 : Int) (x15 : Bool) (x16 x17 x18 : Int) (x19 : Bool) (x20p : Option Addr) (x20l x20c : Nat) (x21 x22 : Int) (h : Heap) : (en S0 [1, 1, 1, 1, 1, 1, 1, 1, 1, 1, 1, 0, 1] (c0 S0 K) (f15 x2p x2l x2c x3 x4 x6 x11 x12 x14 x15 x16 x17 x18 x19 x20p x20l x20c x21 x22) h) = wk15 x2p x2l x2c x3 x4 x6 x11 x12 x14 x15 x16 x17 x18 x19 x20p x20l x20c x21 x22 h K := (Ek15 S0 x2p x2l x2c x3 x4 x6 x11 x12 x14 x15 x16 x17 x18 x19 x20p x20l x20c x21 x22 h K).trans (cg1 (fun q0 => Jk15 q0 x2p x2l x2c x3 x4 x6 x11 x12 x14 x15 x16 x17 x18 x19 x20p x20l x20c x21 x22 h K) (by funext x2p x2l x2c x3 x4 x6 x11 x12 x14 x15 x16 x17 x18 x19 x20p x20l x20c x21 x22 h; exact ex_congr fun m => eL15 K m x2p x2l x2c x3 x4 x6 x11 x12 x14 x15 x16 x17 x18 x19 x20p x20l x20c x21 x22 h))
def w (x0 x1_0 x1_1 x1_2 x1_3 : Int) (x2p : Option Addr) (x2l x2c : Nat) (x3 x4 : Int) (h : Heap) (K : KK) : Prop :=
  J0 (fun x2p x2l x2c x3 x4 x6 x11 x12 x14 x15 x16 x17 x18 x19 x20p x20l x20c x21 x22 h => wk15 x2p x2l x2c x3 x4 x6 x11 x12 x14 x15 x16 x17 x18 x19 x20p x20l x20c x21 x22 h K) x0 x1_0 x1_1 x1_2 x1_3 x2p x2l x2c x3 x4 h K
theorem e0 (K : KK) (x0 x1_0 x1_1 x1_2 x1_3 : Int) (x2p : Option Addr) (x2l x2c : Nat) (x3 x4 : Int) (h : Heap) : (E Tryz.prog X T S0 body (fin Tryz.prog Tryz.f3.results.toList K) (args0 0 [(.int .u8 x0), (.agg #[(.int .u64 x1_0), (.int .u64 x1_1), (.int .u64 x1_2), (.int .u64 x1_3)]), (.slice x2p x2l x2c), (.int .i64 x3), (.int .u8 x4)]) h) = w x0 x1_0 x1_1 x1_2 x1_3 x2p x2l x2c x3 x4 h K := (E0 S0 x0 x1_0 x1_1 x1_2 x1_3 x2p x2l x2c x3 x4 h K).trans (cg1 (fun q0 => J0 q0 x0 x1_0 x1_1 x1_2 x1_3 x2p x2l x2c x3 x4 h K) (by funext x2p x2l x2c x3 x4 x6 x11 x12 x14 x15 x16 x17 x18 x19 x20p x20l x20c x21 x22 h; exact ek15 K x2p x2l x2c x3 x4 x6 x11 x12 x14 x15 x16 x17 x18 x19 x20p x20l x20c x21 x22 h))
theorem hb : Tryz.f3.body = some body := by kernel_rfl
theorem ok : okCode T Tryz.f3.ntmps body = true := by kernel_rfl
theorem spec (x0 : Int) (x1_0 : Int) (x1_1 : Int) (x1_2 : Int) (x1_3 : Int) (x2p : Option Addr) (x2l : Nat) (x2c : Nat) (x3 : Int) (x4 : Int) (h : Heap) (K : KK) (H : w x0 x1_0 x1_1 x1_2 x1_3 x2p x2l x2c x3 x4 h K) : CallsH Tryz.prog 3 [(.int .u8 x0), (.agg #[(.int .u64 x1_0), (.int .u64 x1_1), (.int .u64 x1_2), (.int .u64 x1_3)]), (.slice x2p x2l x2c), (.int .i64 x3), (.int .u8 x4)] h K :=
  calls_of_E (T := T) Xok mix Tryz.func3 hb ok rfl (by rw [e0]; exact H)
end F3
-- spinney/spinneylaw30.WeighRanks
namespace F4
def T : Hint := ⟨[(15, [2, 5, 7, 8]), (18, [2, 5, 7, 8, 21, 22, 23]), (19, [2, 5, 7, 8, 21, 22, 23]), (25, [5, 7, 8, 21])], []⟩
noncomputable def body : Code := (Tryz.f4.body).getD .skip
noncomputable def en (S : Stop) (p : List Nat) (κ : XK) : Fr → Heap → Prop := E Tryz.prog X T S (sub body p) κ
noncomputable def ln (S : Stop) (p : List Nat) (κ : XK) (n : Nat) : Fr → Heap → Prop := loopN S (E Tryz.prog X T S (sub body p)) (cutQ T (sub body p)) κ n
def fn (K : KK) : XK := fin Tryz.prog Tryz.f4.results.toList K
noncomputable def c0 (S : Stop) (K : KK) : XK := seqN S (cutQ T (sub body [1, 1, 1, 1, 1, 1, 1, 1, 1, 1])) (en S [1, 1, 1, 1, 1, 1, 1, 1, 1, 1] (fn K)) (fn K)
noncomputable def c1 (S : Stop) (K : KK) : XK := blockN 0 (c0 S K)
noncomputable def c2 (S : Stop) (n18 : Nat) (K : KK) : XK := backN S (cutQ T (sub body [1, 1, 1, 1, 1, 1, 1, 1, 1, 0, 1, 0, 0])) (ln S [1, 1, 1, 1, 1, 1, 1, 1, 1, 0, 1, 0, 0] (c1 S K) n18) (c1 S K)
def f15 (x2 : Addr) (x5 : Option Addr) (x7 : Int) (x8 : Bool) : Fr := [(2, (.pointer (some x2))), (5, (.pointer x5)), (7, (.int .u32 x7)), (8, (.bool x8))]
def f18 (x2 : Addr) (x5 : Option Addr) (x7 : Int) (x8 : Bool) (x21 x22 x23 : Int) : Fr := [(2, (.pointer (some x2))), (5, (.pointer x5)), (7, (.int .u32 x7)), (8, (.bool x8)), (21, (.int .i64 x21)), (22, (.int .i64 x22)), (23, (.int .i64 x23))]
def f19 (x2 : Addr) (x5 : Option Addr) (x7 : Int) (x8 : Bool) (x21 x22 x23 : Int) : Fr := [(2, (.pointer (some x2))), (5, (.pointer x5)), (7, (.int .u32 x7)), (8, (.bool x8)), (21, (.int .i64 x21)), (22, (.int .i64 x22)), (23, (.int .i64 x23))]
def f25 (x5 : Option Addr) (x7 : Int) (x8 : Bool) (x21 : Int) : Fr := [(5, (.pointer x5)), (7, (.int .u32 x7)), (8, (.bool x8)), (21, (.int .i64 x21))]
def J0 (k15 : Addr → (Option Addr) → Int → Bool → Heap → Prop) (x0_0 x0_1 x0_2 x0_3 x1 : Int) (h : Heap) (K : KK) : Prop :=
  newK h (.cells #[(.int .u64 x0_0), (.int .u64 x0_1), (.int .u64 x0_2), (.int .u64 x0_3)] 24) (fun b1 h2 => CallsH Tryz.prog 10 [] h2 (fun v3 h4 => ldB (some v3) (fun b5 => bcase (!b5) (K (.bool false) h4) (CallsH Tryz.prog 11 [(.int .i64 (8 : Int)), (.int .i64 (400 : Int))] h4 (fun v6 h7 => (∃ p8 : Option Addr, ∃ n9 : Int, v6 = (.tuple #[(.pointer p8), (.int .i64 n9)]) ∧ bcase (n9 != (0 : Int)) (K (.bool false) h7) (ldI .u64 (rd h7 (Addr.add (Addr.mk b1 0 none) 0)) (fun n10 => ldI .u64 (rd h7 (Addr.add (Addr.mk b1 0 none) 1)) (fun n11 => ldI .u64 (rd h7 (Addr.add (Addr.mk b1 0 none) 2)) (fun n12 => ldI .u64 (rd h7 (Addr.add (Addr.mk b1 0 none) 3)) (fun n13 => CallsH Tryz.prog 13 [(.pointer p8), (.agg #[(.int .u64 n10), (.int .u64 n11), (.int .u64 n12), (.int .u64 n13)])] h7 (fun v14 h15 => (∃ n16 : Int, ∃ b17 : Bool, v14 = (.tuple #[(.int .u32 n16), (.bool b17)]) ∧ CallsH Tryz.prog 21 [(.pointer p8), (.int .u32 x1)] h15 (fun v18 h19 => ldB (some v18) (fun b20 => bcase (!b20) ((0 ≤ (8 : Int) ∧ (8 : Int) ≤ (8 : Int) ∧ ((Nat.cast 8 : Int) * (8 : Int) ≤ 281474976710656) ∧ (8 : Int) ≤ 9223372036854775807 ∧ newK h19 (.cells (madeCells #[(.int .i64 (0 : Int))] (Int.toNat (8 : Int) * 1)) 3) (fun b21 h22 => CallsH Tryz.prog 17 [(.pointer p8), (.int .u32 x1), (.slice (some (Addr.mk b21 0 none)) (Int.toNat (8 : Int)) (Int.toNat (8 : Int)))] h22 (fun v23 h24 => (∃ n25 : Int, ∃ n26 : Int, ∃ b27 : Bool, ∃ n28 : Int, v23 = (.tuple #[(.int .u8 n25), (.int .i64 n26), (.bool b27), (.int .i64 n28)]) ∧ (0 ≤ (8 : Int) ∧ (8 : Int) ≤ (8 : Int) ∧ ((Nat.cast 8 : Int) * (8 : Int) ≤ 281474976710656) ∧ (8 : Int) ≤ 9223372036854775807 ∧ newK h24 (.cells (madeCells #[(.int .i64 (0 : Int))] (Int.toNat (8 : Int) * 1)) 3) (fun b29 h30 => CallsH Tryz.prog 18 [(.pointer p8), (.int .u32 x1), (.slice (some (Addr.mk b29 0 none)) (Int.toNat (8 : Int)) (Int.toNat (8 : Int)))] h30 (fun v31 h32 => (∃ n33 : Int, ∃ n34 : Int, v31 = (.tuple #[(.int .i64 n33), (.int .i64 n34)]) ∧ CallsH Tryz.prog 19 [(.pointer p8), (.int .u32 x1), (.int .i64 (0 : Int))] h32 (fun v35 h36 => (∃ n37 : Int, ∃ b38 : Bool, ∃ n39 : Int, v35 = (.tuple #[(.int .u8 n37), (.bool b38), (.int .i64 n39)]) ∧ CallsH Tryz.prog 20 [(.pointer p8), (.int .u32 x1), (.int .u8 (0 : Int))] h36 (fun v40 h41 => (∃ n42 : Int, ∃ n43 : Int, v40 = (.tuple #[(.int .i64 n42), (.int .i64 n43)]) ∧ bcase (n28 != (101 : Int)) (K (.bool false) h41) (bcase (n34 != (101 : Int)) (K (.bool false) h41) (bcase (n39 != (101 : Int)) (K (.bool false) h41) (bcase (n43 != (101 : Int)) (K (.bool false) h41) (k15 (Addr.mk b1 0 none) p8 n16 b17 h41))))))))))))))))) (k15 (Addr.mk b1 0 none) p8 n16 b17 h19))))))))))))))))
theorem E0 (S : Stop) (x0_0 x0_1 x0_2 x0_3 x1 : Int) (h : Heap) (K : KK) : (E Tryz.prog X T S body (fin Tryz.prog Tryz.f4.results.toList K) (args0 0 [(.agg #[(.int .u64 x0_0), (.int .u64 x0_1), (.int .u64 x0_2), (.int .u64 x0_3)]), (.int .u32 x1)]) h) = J0 (fun x2 x5 x7 x8 h => S (en S [1, 1, 1, 1, 1, 1, 1] (fn K)) (f15 x2 x5 x7 x8) h) x0_0 x0_1 x0_2 x0_3 x1 h K := by kernel_rfl
def Jk15 (k18 : Addr → (Option Addr) → Int → Bool → Int → Int → Int → Heap → Prop) (x2 : Addr) (x5 : Option Addr) (x7 : Int) (x8 : Bool) (h : Heap) (_K : KK) : Prop :=
  ldI .u64 (rd h (Addr.add x2 0)) (fun n1 => ldI .u64 (rd h (Addr.add x2 1)) (fun n2 => ldI .u64 (rd h (Addr.add x2 2)) (fun n3 => ldI .u64 (rd h (Addr.add x2 3)) (fun n4 => CallsH Tryz.prog 22 [(.agg #[(.int .u64 n1), (.int .u64 n2), (.int .u64 n3), (.int .u64 n4)])] h (fun v5 h6 => ldI .i64 (some v5) (fun n7 => k18 x2 x5 x7 x8 n7 (-1 : Int) (0 : Int) h6))))))
theorem Ek15 (S : Stop) (x2 : Addr) (x5 : Option Addr) (x7 : Int) (x8 : Bool) (h : Heap) (K : KK) : (en S [1, 1, 1, 1, 1, 1, 1] (fn K) (f15 x2 x5 x7 x8) h) = Jk15 (fun x2 x5 x7 x8 x21 x22 x23 h => S (en S [1, 1, 1, 1, 1, 1, 1, 1, 1, 0, 1] (c0 S K)) (f18 x2 x5 x7 x8 x21 x22 x23) h) x2 x5 x7 x8 h K := by kernel_rfl
def Jk18 (lp18 : Addr → (Option Addr) → Int → Bool → Int → Int → Int → Heap → Prop) (x2 : Addr) (x5 : Option Addr) (x7 : Int) (x8 : Bool) (x21 x22 x23 : Int) (h : Heap) (_K : KK) : Prop :=
  lp18 x2 x5 x7 x8 x21 x22 x23 h
theorem Ek18 (S : Stop) (x2 : Addr) (x5 : Option Addr) (x7 : Int) (x8 : Bool) (x21 x22 x23 : Int) (h : Heap) (K : KK) : (en S [1, 1, 1, 1, 1, 1, 1, 1, 1, 0, 1] (c0 S K) (f18 x2 x5 x7 x8 x21 x22 x23) h) = Jk18 (fun x2 x5 x7 x8 x21 x22 x23 h => ∃ n, S (ln S [1, 1, 1, 1, 1, 1, 1, 1, 1, 0, 1, 0, 0] (c1 S K) n) (f18 x2 x5 x7 x8 x21 x22 x23) h) x2 x5 x7 x8 x21 x22 x23 h K := by kernel_rfl
def JL18 (k19 : Addr → (Option Addr) → Int → Bool → Int → Int → Int → Heap → Prop) (k25 : (Option Addr) → Int → Bool → Int → Heap → Prop) (x2 : Addr) (x5 : Option Addr) (x7 : Int) (x8 : Bool) (x21 x22 x23 : Int) (h : Heap) (K : KK) : Prop :=
  bcase (decide (x23 < x21)) (CallsH Tryz.prog 19 [(.pointer x5), (.int .u32 x7), (.int .i64 x23)] h (fun v1 h2 => (∃ n3 : Int, ∃ b4 : Bool, ∃ n5 : Int, v1 = (.tuple #[(.int .u8 n3), (.bool b4), (.int .i64 n5)]) ∧ CallsH Tryz.prog 20 [(.pointer x5), (.int .u32 x7), (.int .u8 n3)] h2 (fun v6 h7 => (∃ n8 : Int, ∃ n9 : Int, v6 = (.tuple #[(.int .i64 n8), (.int .i64 n9)]) ∧ bcase (!b4) (K (.bool false) h7) (bcase (n5 != (0 : Int)) (K (.bool false) h7) (bcase (n9 != (0 : Int)) (K (.bool false) h7) (bcase (n8 != x23) (K (.bool false) h7) (bcase (decide ((IntKind.wrap .i64 n3) ≤ x22)) (K (.bool false) h7) (ldI .u64 (rd h7 (Addr.add x2 0)) (fun n10 => ldI .u64 (rd h7 (Addr.add x2 1)) (fun n11 => ldI .u64 (rd h7 (Addr.add x2 2)) (fun n12 => ldI .u64 (rd h7 (Addr.add x2 3)) (fun n13 => CallsH Tryz.prog 14 [(.agg #[(.int .u64 n10), (.int .u64 n11), (.int .u64 n12), (.int .u64 n13)]), (.int .u8 n3)] h7 (fun v14 h15 => ldB (some v14) (fun b16 => bcase (!b16) (K (.bool false) h15) (k19 x2 x5 x7 x8 x21 (IntKind.wrap .i64 n3) x23 h15))))))))))))))))) (k25 x5 x7 x8 x21 h)
theorem EL18 (S : Stop) (n18 : Nat) (x2 : Addr) (x5 : Option Addr) (x7 : Int) (x8 : Bool) (x21 x22 x23 : Int) (h : Heap) (K : KK) : (en S [1, 1, 1, 1, 1, 1, 1, 1, 1, 0, 1, 0, 0] (c2 S n18 K) (f18 x2 x5 x7 x8 x21 x22 x23) h) = JL18 (fun x2 x5 x7 x8 x21 x22 x23 h => S (en S [1, 1, 1, 1, 1, 1, 1, 1, 1, 0, 1, 0, 0, 1, 1] (c2 S n18 K)) (f19 x2 x5 x7 x8 x21 x22 x23) h) (fun x5 x7 x8 x21 h => S (en S [1, 1, 1, 1, 1, 1, 1, 1, 1, 1] (fn K)) (f25 x5 x7 x8 x21) h) x2 x5 x7 x8 x21 x22 x23 h K := by kernel_rfl
def Jk19 (bk18 : Addr → (Option Addr) → Int → Bool → Int → Int → Int → Heap → Prop) (x2 : Addr) (x5 : Option Addr) (x7 : Int) (x8 : Bool) (x21 x22 x23 : Int) (h : Heap) (_K : KK) : Prop :=
  ((20 : Int) ≠ 0 ∧ bk18 x2 x5 x7 x8 x21 x22 (IntKind.wrap .i64 ((IntKind.wrap .i64 (x23 + (1 : Int))) + (IntKind.wrap .i64 (Int.tdiv x21 (20 : Int))))) h)
theorem Ek19 (S : Stop) (n18 : Nat) (x2 : Addr) (x5 : Option Addr) (x7 : Int) (x8 : Bool) (x21 x22 x23 : Int) (h : Heap) (K : KK) : (en S [1, 1, 1, 1, 1, 1, 1, 1, 1, 0, 1, 0, 0, 1, 1] (c2 S n18 K) (f19 x2 x5 x7 x8 x21 x22 x23) h) = Jk19 (fun x2 x5 x7 x8 x21 x22 x23 h => S (ln S [1, 1, 1, 1, 1, 1, 1, 1, 1, 0, 1, 0, 0] (c1 S K) n18) (f18 x2 x5 x7 x8 x21 x22 x23) h) x2 x5 x7 x8 x21 x22 x23 h K := by kernel_rfl
def Jk25 (x5 : Option Addr) (x7 : Int) (x8 : Bool) (x21 : Int) (h : Heap) (K : KK) : Prop :=
  CallsH Tryz.prog 19 [(.pointer x5), (.int .u32 x7), (.int .i64 x21)] h (fun v1 h2 => (∃ n3 : Int, ∃ b4 : Bool, ∃ n5 : Int, v1 = (.tuple #[(.int .u8 n3), (.bool b4), (.int .i64 n5)]) ∧ bcase x8 (K (.bool (!b4)) h2) (K (.bool false) h2)))
theorem Ek25 (S : Stop) (x5 : Option Addr) (x7 : Int) (x8 : Bool) (x21 : Int) (h : Heap) (K : KK) : (en S [1, 1, 1, 1, 1, 1, 1, 1, 1, 1] (fn K) (f25 x5 x7 x8 x21) h) = Jk25 x5 x7 x8 x21 h K := by kernel_rfl
def wk19 (bk18 : Addr → (Option Addr) → Int → Bool → Int → Int → Int → Heap → Prop) (x2 : Addr) (x5 : Option Addr) (x7 : Int) (x8 : Bool) (x21 x22 x23 : Int) (h : Heap) (K : KK) : Prop :=
  Jk19 bk18 x2 x5 x7 x8 x21 x22 x23 h K
theorem ek19 (K : KK) (n18 : Nat) (bk18 : Addr → (Option Addr) → Int → Bool → Int → Int → Int → Heap → Prop) (hb18 : ∀ (x2 : Addr) (x5 : Option Addr) (x7 : Int) (x8 : Bool) (x21 x22 x23 : Int) (h : Heap), (ln S0 [1, 1, 1, 1, 1, 1, 1, 1, 1, 0, 1, 0, 0] (c1 S0 K) n18 (f18 x2 x5 x7 x8 x21 x22 x23) h) = bk18 x2 x5 x7 x8 x21 x22 x23 h) (x2 : Addr) (x5 : Option Addr) (x7 : Int) (x8 : Bool) (x21 x22 x23 : Int) (h : Heap) : (en S0 [1, 1, 1, 1, 1, 1, 1, 1, 1, 0, 1, 0, 0, 1, 1] (c2 S0 n18 K) (f19 x2 x5 x7 x8 x21 x22 x23) h) = wk19 bk18 x2 x5 x7 x8 x21 x22 x23 h K := (Ek19 S0 n18 x2 x5 x7 x8 x21 x22 x23 h K).trans (cg1 (fun q0 => Jk19 q0 x2 x5 x7 x8 x21 x22 x23 h K) (by funext x2 x5 x7 x8 x21 x22 x23 h; exact hb18 x2 x5 x7 x8 x21 x22 x23 h))
def wk25 (x5 : Option Addr) (x7 : Int) (x8 : Bool) (x21 : Int) (h : Heap) (K : KK) : Prop :=
  Jk25 x5 x7 x8 x21 h K
theorem ek25 (K : KK) (x5 : Option Addr) (x7 : Int) (x8 : Bool) (x21 : Int) (h : Heap) : (en S0 [1, 1, 1, 1, 1, 1, 1, 1, 1, 1] (fn K) (f25 x5 x7 x8 x21) h) = wk25 x5 x7 x8 x21 h K := (Ek25 S0 x5 x7 x8 x21 h K).trans (rfl)
def wL18 : Nat → Addr → (Option Addr) → Int → Bool → Int → Int → Int → Heap → KK → Prop
  | 0, _, _, _, _, _, _, _, _, _ => False
  | n + 1, x2, x5, x7, x8, x21, x22, x23, h, K => JL18 (fun x2 x5 x7 x8 x21 x22 x23 h => wk19 (fun x2 x5 x7 x8 x21 x22 x23 h => wL18 n x2 x5 x7 x8 x21 x22 x23 h K) x2 x5 x7 x8 x21 x22 x23 h K) (fun x5 x7 x8 x21 h => wk25 x5 x7 x8 x21 h K) x2 x5 x7 x8 x21 x22 x23 h K
theorem eL18 (K : KK) : ∀ (n : Nat) (x2 : Addr) (x5 : Option Addr) (x7 : Int) (x8 : Bool) (x21 x22 x23 : Int) (h : Heap), (ln S0 [1, 1, 1, 1, 1, 1, 1, 1, 1, 0, 1, 0, 0] (c1 S0 K) n (f18 x2 x5 x7 x8 x21 x22 x23) h) = wL18 n x2 x5 x7 x8 x21 x22 x23 h K
  | 0, _, _, _, _, _, _, _, _ => rfl
  | n + 1, x2, x5, x7, x8, x21, x22, x23, h => (EL18 S0 n x2 x5 x7 x8 x21 x22 x23 h K).trans (cg2 (fun q0 q1 => JL18 q0 q1 x2 x5 x7 x8 x21 x22 x23 h K) (by funext x2 x5 x7 x8 x21 x22 x23 h; exact ek19 K n (fun x2 x5 x7 x8 x21 x22 x23 h => wL18 n x2 x5 x7 x8 x21 x22 x23 h K) (fun x2 x5 x7 x8 x21 x22 x23 h => eL18 K n x2 x5 x7 x8 x21 x22 x23 h) x2 x5 x7 x8 x21 x22 x23 h) (by funext x5 x7 x8 x21 h; exact ek25 K x5 x7 x8 x21 h))
def wk18 (x2 : Addr) (x5 : Option Addr) (x7 : Int) (x8 : Bool) (x21 x22 x23 : Int) (h : Heap) (K : KK) : Prop :=
  Jk18 (fun x2 x5 x7 x8 x21 x22 x23 h => ∃ m, wL18 m x2 x5 x7 x8 x21 x22 x23 h K) x2 x5 x7 x8 x21 x22 x23 h K
theorem ek18 (K : KK) (x2 : Addr) (x5 : Option Addr) (x7 : Int) (x8 : Bool) (x21 x22 x23 : Int) (h : Heap) : (en S0 [1, 1, 1, 1, 1, 1, 1, 1, 1, 0, 1] (c0 S0 K) (f18 x2 x5 x7 x8 x21 x22 x23) h) = wk18 x2 x5 x7 x8 x21 x22 x23 h K := (Ek18 S0 x2 x5 x7 x8 x21 x22 x23 h K).trans (cg1 (fun q0 => Jk18 q0 x2 x5 x7 x8 x21 x22 x23 h K) (by funext x2 x5 x7 x8 x21 x22 x23 h; exact ex_congr fun m => eL18 K m x2 x5 x7 x8 x21 x22 x23 h))
def wk15 (x2 : Addr) (x5 : Option Addr) (x7 : Int) (x8 : Bool) (h : Heap) (K : KK) : Prop :=
  Jk15 (fun x2 x5 x7 x8 x21 x22 x23 h => wk18 x2 x5 x7 x8 x21 x22 x23 h K) x2 x5 x7 x8 h K
theorem ek15 (K : KK) (x2 : Addr) (x5 : Option Addr) (x7 : Int) (x8 : Bool) (h : Heap) : (en S0 [1, 1, 1, 1, 1, 1, 1] (fn K) (f15 x2 x5 x7 x8) h) = wk15 x2 x5 x7 x8 h K := (Ek15 S0 x2 x5 x7 x8 h K).trans (cg1 (fun q0 => Jk15 q0 x2 x5 x7 x8 h K) (by funext x2 x5 x7 x8 x21 x22 x23 h; exact ek18 K x2 x5 x7 x8 x21 x22 x23 h))
def w (x0_0 x0_1 x0_2 x0_3 x1 : Int) (h : Heap) (K : KK) : Prop :=
  J0 (fun x2 x5 x7 x8 h => wk15 x2 x5 x7 x8 h K) x0_0 x0_1 x0_2 x0_3 x1 h K
theorem e0 (K : KK) (x0_0 x0_1 x0_2 x0_3 x1 : Int) (h : Heap) : (E Tryz.prog X T S0 body (fin Tryz.prog Tryz.f4.results.toList K) (args0 0 [(.agg #[(.int .u64 x0_0), (.int .u64 x0_1), (.int .u64 x0_2), (.int .u64 x0_3)]), (.int .u32 x1)]) h) = w x0_0 x0_1 x0_2 x0_3 x1 h K := (E0 S0 x0_0 x0_1 x0_2 x0_3 x1 h K).trans (cg1 (fun q0 => J0 q0 x0_0 x0_1 x0_2 x0_3 x1 h K) (by funext x2 x5 x7 x8 h; exact ek15 K x2 x5 x7 x8 h))
theorem hb : Tryz.f4.body = some body := by kernel_rfl
theorem ok : okCode T Tryz.f4.ntmps body = true := by kernel_rfl
theorem spec (x0_0 : Int) (x0_1 : Int) (x0_2 : Int) (x0_3 : Int) (x1 : Int) (h : Heap) (K : KK) (H : w x0_0 x0_1 x0_2 x0_3 x1 h K) : CallsH Tryz.prog 4 [(.agg #[(.int .u64 x0_0), (.int .u64 x0_1), (.int .u64 x0_2), (.int .u64 x0_3)]), (.int .u32 x1)] h K :=
  calls_of_E (T := T) Xok mix Tryz.func4 hb ok rfl (by rw [e0]; exact H)
end F4
end Go.Proofs.YtnbnlhpleomaoaaGreat.Ev
/- THE LAWS OF LAYER 30: helps of WeighTells and WeighRanks. Conditions: the arguments are in their kinds' bounds. -/
namespace Go.Proofs.YtnbnlhpleomaoaaGreat.Ev
open Go
section
variable {h : Heap} {s a cc : Nat} {L : List Nat} {X : SX} {cp : Option Addr} {c : List Int} {K : Value → Heap → Prop}
end
end Go.Proofs.YtnbnlhpleomaoaaGreat.Ev
/- PRINTED BY PROGRAM: what each of these functions does, computed over heaps by the evaluator, and that its calls do so. Conditions: none. -/
namespace Go.Proofs.YtnbnlhpleomaoaaGreat.Ev
open Go
-- spinney/logic.Or
namespace F25
def T : Hint := ⟨[], []⟩
noncomputable def body : Code := (Tryz.f25.body).getD .skip
def J0 (x0 : Addr) (x1 x2 : Int) (h : Heap) (K : KK) : Prop :=
  CallsH Tryz.prog 47 [(.pointer (some x0)), (.int .u8 (3 : Int)), (.func (.func 49) #[] #[]), (.agg #[(.int .u32 (if x2 < x1 then x2 else x1)), (.int .u32 (if x2 > x1 then x2 else x1)), (.int .u32 (0 : Int))])] h (fun v1 h2 => (∃ n3 : Int, ∃ n4 : Int, v1 = (.tuple #[(.int .u32 n3), (.int .i64 n4)]) ∧ K (.tuple #[(.int .u32 n3), (.int .i64 n4)]) h2))
theorem E0 (S : Stop) (x0 : Addr) (x1 x2 : Int) (h : Heap) (K : KK) : (E Tryz.prog X T S body (fin Tryz.prog Tryz.f25.results.toList K) (args0 0 [(.pointer (some x0)), (.int .u32 x1), (.int .u32 x2)]) h) = J0 x0 x1 x2 h K := by kernel_rfl
def w (x0 : Addr) (x1 x2 : Int) (h : Heap) (K : KK) : Prop :=
  J0 x0 x1 x2 h K
theorem e0 (K : KK) (x0 : Addr) (x1 x2 : Int) (h : Heap) : (E Tryz.prog X T S0 body (fin Tryz.prog Tryz.f25.results.toList K) (args0 0 [(.pointer (some x0)), (.int .u32 x1), (.int .u32 x2)]) h) = w x0 x1 x2 h K := (E0 S0 x0 x1 x2 h K).trans (rfl)
theorem hb : Tryz.f25.body = some body := by kernel_rfl
theorem ok : okCode T Tryz.f25.ntmps body = true := by kernel_rfl
theorem spec (x0 : Addr) (x1 : Int) (x2 : Int) (h : Heap) (K : KK) (H : w x0 x1 x2 h K) : CallsH Tryz.prog 25 [(.pointer (some x0)), (.int .u32 x1), (.int .u32 x2)] h K :=
  calls_of_E (T := T) Xok mix Tryz.func25 hb ok rfl (by rw [e0]; exact H)
end F25
-- spinney/logic.run
namespace F47
def T : Hint := ⟨[(2, [0, 1, 2, 7, 12, 13]), (7, [0, 1, 2, 7])], []⟩
noncomputable def body : Code := (Tryz.f47.body).getD .skip
noncomputable def en (S : Stop) (p : List Nat) (κ : XK) : Fr → Heap → Prop := E Tryz.prog X T S (sub body p) κ
noncomputable def ln (S : Stop) (p : List Nat) (κ : XK) (n : Nat) : Fr → Heap → Prop := loopN S (E Tryz.prog X T S (sub body p)) (cutQ T (sub body p)) κ n
def fn (K : KK) : XK := fin Tryz.prog Tryz.f47.results.toList K
noncomputable def c0 (S : Stop) (K : KK) : XK := seqN S (cutQ T (sub body [1, 1])) (en S [1, 1] (fn K)) (fn K)
noncomputable def c1 (S : Stop) (K : KK) : XK := blockN 0 (c0 S K)
noncomputable def c2 (S : Stop) (n2 : Nat) (K : KK) : XK := backN S (cutQ T (sub body [1, 0, 1, 0, 0])) (ln S [1, 0, 1, 0, 0] (c1 S K) n2) (c1 S K)
def f2 (x0 : Addr) (x1 : Int) (x2 : Nat) (x7 : Addr) (x12_0 x12_1 x12_2 x13 : Int) : Fr := [(0, (.pointer (some x0))), (1, (.int .u8 x1)), (2, (.func (.func x2) #[] #[])), (7, (.pointer (some x7))), (12, (.agg #[(.int .u32 x12_0), (.int .u32 x12_1), (.int .u32 x12_2)])), (13, (.int .i64 x13))]
def f7 (x0 : Addr) (x1 : Int) (x2 : Nat) (x7 : Addr) : Fr := [(0, (.pointer (some x0))), (1, (.int .u8 x1)), (2, (.func (.func x2) #[] #[])), (7, (.pointer (some x7)))]
def J0 (k2 : Addr → Int → Nat → Addr → Int → Int → Int → Int → Heap → Prop) (x0 : Addr) (x1 : Int) (x2 : Nat) (x3_0 x3_1 x3_2 : Int) (h : Heap) (_K : KK) : Prop :=
  newK h (.cells #[(.int .u32 x3_0), (.int .u32 x3_1), (.int .u32 x3_2)] 105) (fun b1 h2 => ldI .u32 (rd h2 (Addr.add (Addr.mk b1 0 none) 0)) (fun n3 => ldI .u32 (rd h2 (Addr.add (Addr.mk b1 0 none) 1)) (fun n4 => ldI .u32 (rd h2 (Addr.add (Addr.mk b1 0 none) 2)) (fun n5 => k2 x0 x1 x2 (Addr.mk b1 0 none) n3 n4 n5 (0 : Int) h2))))
theorem E0 (S : Stop) (x0 : Addr) (x1 : Int) (x2 : Nat) (x3_0 x3_1 x3_2 : Int) (h : Heap) (K : KK) : (E Tryz.prog X T S body (fin Tryz.prog Tryz.f47.results.toList K) (args0 0 [(.pointer (some x0)), (.int .u8 x1), (.func (.func x2) #[] #[]), (.agg #[(.int .u32 x3_0), (.int .u32 x3_1), (.int .u32 x3_2)])]) h) = J0 (fun x0 x1 x2 x7 x12_0 x12_1 x12_2 x13 h => S (en S [1, 0, 1] (c0 S K)) (f2 x0 x1 x2 x7 x12_0 x12_1 x12_2 x13) h) x0 x1 x2 x3_0 x3_1 x3_2 h K := by kernel_rfl
def Jk2 (lp2 : Addr → Int → Nat → Addr → Int → Int → Int → Int → Heap → Prop) (x0 : Addr) (x1 : Int) (x2 : Nat) (x7 : Addr) (x12_0 x12_1 x12_2 x13 : Int) (h : Heap) (_K : KK) : Prop :=
  lp2 x0 x1 x2 x7 x12_0 x12_1 x12_2 x13 h
theorem Ek2 (S : Stop) (x0 : Addr) (x1 : Int) (x2 : Nat) (x7 : Addr) (x12_0 x12_1 x12_2 x13 : Int) (h : Heap) (K : KK) : (en S [1, 0, 1] (c0 S K) (f2 x0 x1 x2 x7 x12_0 x12_1 x12_2 x13) h) = Jk2 (fun x0 x1 x2 x7 x12_0 x12_1 x12_2 x13 h => ∃ n, S (ln S [1, 0, 1, 0, 0] (c1 S K) n) (f2 x0 x1 x2 x7 x12_0 x12_1 x12_2 x13) h) x0 x1 x2 x7 x12_0 x12_1 x12_2 x13 h K := by kernel_rfl
def JL2 (bk2 : Addr → Int → Nat → Addr → Int → Int → Int → Int → Heap → Prop) (k7 : Addr → Int → Nat → Addr → Heap → Prop) (x0 : Addr) (x1 : Int) (x2 : Nat) (x7 : Addr) (x12_0 x12_1 x12_2 x13 : Int) (h : Heap) (K : KK) : Prop :=
  bcase (decide (x13 < (3 : Int))) ((0 ≤ x13 ∧ x13 < (Nat.cast 3 : Int) ∧ ldI .u32 ([(.int .u32 x12_0), (.int .u32 x12_1), (.int .u32 x12_2)] : List Value)[Int.toNat x13]? (fun n1 => CallsH Tryz.prog 21 [(.pointer (some x0)), (.int .u32 n1)] h (fun v2 h3 => ldB (some v2) (fun b4 => bcase (!b4) (K (.tuple #[(.int .u32 (0 : Int)), (.int .i64 (101 : Int))]) h3) (bk2 x0 x1 x2 x7 x12_0 x12_1 x12_2 (IntKind.wrap .i64 (x13 + (1 : Int))) h3)))))) (k7 x0 x1 x2 x7 h)
theorem EL2 (S : Stop) (n2 : Nat) (x0 : Addr) (x1 : Int) (x2 : Nat) (x7 : Addr) (x12_0 x12_1 x12_2 x13 : Int) (h : Heap) (K : KK) : (en S [1, 0, 1, 0, 0] (c2 S n2 K) (f2 x0 x1 x2 x7 x12_0 x12_1 x12_2 x13) h) = JL2 (fun x0 x1 x2 x7 x12_0 x12_1 x12_2 x13 h => S (ln S [1, 0, 1, 0, 0] (c1 S K) n2) (f2 x0 x1 x2 x7 x12_0 x12_1 x12_2 x13) h) (fun x0 x1 x2 x7 h => S (en S [1, 1] (fn K)) (f7 x0 x1 x2 x7) h) x0 x1 x2 x7 x12_0 x12_1 x12_2 x13 h K := by kernel_rfl
def Jk7 (x0 : Addr) (x1 : Int) (x2 : Nat) (x7 : Addr) (h : Heap) (K : KK) : Prop :=
  ldI .u32 (rd h (Addr.add x7 0)) (fun n1 => ldI .u32 (rd h (Addr.add x7 1)) (fun n2 => ldI .u32 (rd h (Addr.add x7 2)) (fun n3 => CallsH Tryz.prog 70 [(.agg #[(.pointer (some x0)), (.int .u8 x1), (.func (.func x2) #[] #[])]), (.agg #[(.int .u32 n1), (.int .u32 n2), (.int .u32 n3)])] h (fun v4 h5 => (∃ n6 : Int, ∃ n7 : Int, v4 = (.tuple #[(.int .u32 n6), (.int .i64 n7)]) ∧ K (.tuple #[(.int .u32 n6), (.int .i64 n7)]) h5)))))
theorem Ek7 (S : Stop) (x0 : Addr) (x1 : Int) (x2 : Nat) (x7 : Addr) (h : Heap) (K : KK) : (en S [1, 1] (fn K) (f7 x0 x1 x2 x7) h) = Jk7 x0 x1 x2 x7 h K := by kernel_rfl
def wk7 (x0 : Addr) (x1 : Int) (x2 : Nat) (x7 : Addr) (h : Heap) (K : KK) : Prop :=
  Jk7 x0 x1 x2 x7 h K
theorem ek7 (K : KK) (x0 : Addr) (x1 : Int) (x2 : Nat) (x7 : Addr) (h : Heap) : (en S0 [1, 1] (fn K) (f7 x0 x1 x2 x7) h) = wk7 x0 x1 x2 x7 h K := (Ek7 S0 x0 x1 x2 x7 h K).trans (rfl)
def wL2 : Nat → Addr → Int → Nat → Addr → Int → Int → Int → Int → Heap → KK → Prop
  | 0, _, _, _, _, _, _, _, _, _, _ => False
  | n + 1, x0, x1, x2, x7, x12_0, x12_1, x12_2, x13, h, K => JL2 (fun x0 x1 x2 x7 x12_0 x12_1 x12_2 x13 h => wL2 n x0 x1 x2 x7 x12_0 x12_1 x12_2 x13 h K) (fun x0 x1 x2 x7 h => wk7 x0 x1 x2 x7 h K) x0 x1 x2 x7 x12_0 x12_1 x12_2 x13 h K
theorem eL2 (K : KK) : ∀ (n : Nat) (x0 : Addr) (x1 : Int) (x2 : Nat) (x7 : Addr) (x12_0 x12_1 x12_2 x13 : Int) (h : Heap), (ln S0 [1, 0, 1, 0, 0] (c1 S0 K) n (f2 x0 x1 x2 x7 x12_0 x12_1 x12_2 x13) h) = wL2 n x0 x1 x2 x7 x12_0 x12_1 x12_2 x13 h K
  | 0, _, _, _, _, _, _, _, _, _ => rfl
  | n + 1, x0, x1, x2, x7, x12_0, x12_1, x12_2, x13, h => (EL2 S0 n x0 x1 x2 x7 x12_0 x12_1 x12_2 x13 h K).trans (cg2 (fun q0 q1 => JL2 q0 q1 x0 x1 x2 x7 x12_0 x12_1 x12_2 x13 h K) (by funext x0 x1 x2 x7 x12_0 x12_1 x12_2 x13 h; exact (fun x0 x1 x2 x7 x12_0 x12_1 x12_2 x13 h => eL2 K n x0 x1 x2 x7 x12_0 x12_1 x12_2 x13 h) x0 x1 x2 x7 x12_0 x12_1 x12_2 x13 h) (by funext x0 x1 x2 x7 h; exact ek7 K x0 x1 x2 x7 h))
def wk2 (x0 : Addr) (x1 : Int) (x2 : Nat) (x7 : Addr) (x12_0 x12_1 x12_2 x13 : Int) (h : Heap) (K : KK) : Prop :=
  Jk2 (fun x0 x1 x2 x7 x12_0 x12_1 x12_2 x13 h => ∃ m, wL2 m x0 x1 x2 x7 x12_0 x12_1 x12_2 x13 h K) x0 x1 x2 x7 x12_0 x12_1 x12_2 x13 h K
theorem ek2 (K : KK) (x0 : Addr) (x1 : Int) (x2 : Nat) (x7 : Addr) (x12_0 x12_1 x12_2 x13 : Int) (h : Heap) : (en S0 [1, 0, 1] (c0 S0 K) (f2 x0 x1 x2 x7 x12_0 x12_1 x12_2 x13) h) = wk2 x0 x1 x2 x7 x12_0 x12_1 x12_2 x13 h K := (Ek2 S0 x0 x1 x2 x7 x12_0 x12_1 x12_2 x13 h K).trans (cg1 (fun q0 => Jk2 q0 x0 x1 x2 x7 x12_0 x12_1 x12_2 x13 h K) (by funext x0 x1 x2 x7 x12_0 x12_1 x12_2 x13 h; exact ex_congr fun m => eL2 K m x0 x1 x2 x7 x12_0 x12_1 x12_2 x13 h))
def w (x0 : Addr) (x1 : Int) (x2 : Nat) (x3_0 x3_1 x3_2 : Int) (h : Heap) (K : KK) : Prop :=
  J0 (fun x0 x1 x2 x7 x12_0 x12_1 x12_2 x13 h => wk2 x0 x1 x2 x7 x12_0 x12_1 x12_2 x13 h K) x0 x1 x2 x3_0 x3_1 x3_2 h K
theorem e0 (K : KK) (x0 : Addr) (x1 : Int) (x2 : Nat) (x3_0 x3_1 x3_2 : Int) (h : Heap) : (E Tryz.prog X T S0 body (fin Tryz.prog Tryz.f47.results.toList K) (args0 0 [(.pointer (some x0)), (.int .u8 x1), (.func (.func x2) #[] #[]), (.agg #[(.int .u32 x3_0), (.int .u32 x3_1), (.int .u32 x3_2)])]) h) = w x0 x1 x2 x3_0 x3_1 x3_2 h K := (E0 S0 x0 x1 x2 x3_0 x3_1 x3_2 h K).trans (cg1 (fun q0 => J0 q0 x0 x1 x2 x3_0 x3_1 x3_2 h K) (by funext x0 x1 x2 x7 x12_0 x12_1 x12_2 x13 h; exact ek2 K x0 x1 x2 x7 x12_0 x12_1 x12_2 x13 h))
theorem hb : Tryz.f47.body = some body := by kernel_rfl
theorem ok : okCode T Tryz.f47.ntmps body = true := by kernel_rfl
theorem spec (x0 : Addr) (x1 : Int) (x2 : Nat) (x3_0 : Int) (x3_1 : Int) (x3_2 : Int) (h : Heap) (K : KK) (H : w x0 x1 x2 x3_0 x3_1 x3_2 h K) : CallsH Tryz.prog 47 [(.pointer (some x0)), (.int .u8 x1), (.func (.func x2) #[] #[]), (.agg #[(.int .u32 x3_0), (.int .u32 x3_1), (.int .u32 x3_2)])] h K :=
  calls_of_E (T := T) Xok mix Tryz.func47 hb ok rfl (by rw [e0]; exact H)
end F47
-- spinney/logic.orEnds
namespace F49
def T : Hint := ⟨[], []⟩
noncomputable def body : Code := (Tryz.f49.body).getD .skip
def J0 (x0_0 x0_1 x0_2 : Int) (h : Heap) (K : KK) : Prop :=
  newK h (.cells #[(.int .u32 x0_0), (.int .u32 x0_1), (.int .u32 x0_2)] 105) (fun b1 h2 => (0 ≤ (0 : Int) ∧ (0 : Int) < (Nat.cast 3 : Int) ∧ ldI .u32 (rd h2 (Addr.add (Addr.mk b1 0 none) (Int.toNat (0 : Int) * 1))) (fun n3 => bcase (n3 == (1 : Int)) (K (.tuple #[(.int .u32 (1 : Int)), (.bool true)]) h2) ((0 ≤ (1 : Int) ∧ (1 : Int) < (Nat.cast 3 : Int) ∧ ldI .u32 (rd h2 (Addr.add (Addr.mk b1 0 none) (Int.toNat (1 : Int) * 1))) (fun n4 => bcase (n4 == (1 : Int)) (K (.tuple #[(.int .u32 (1 : Int)), (.bool true)]) h2) ((0 ≤ (0 : Int) ∧ (0 : Int) < (Nat.cast 3 : Int) ∧ ldI .u32 (rd h2 (Addr.add (Addr.mk b1 0 none) (Int.toNat (0 : Int) * 1))) (fun n5 => bcase (n5 == (0 : Int)) ((0 ≤ (1 : Int) ∧ (1 : Int) < (Nat.cast 3 : Int) ∧ ldI .u32 (rd h2 (Addr.add (Addr.mk b1 0 none) (Int.toNat (1 : Int) * 1))) (fun n6 => K (.tuple #[(.int .u32 n6), (.bool true)]) h2))) ((0 ≤ (0 : Int) ∧ (0 : Int) < (Nat.cast 3 : Int) ∧ ldI .u32 (rd h2 (Addr.add (Addr.mk b1 0 none) (Int.toNat (0 : Int) * 1))) (fun n7 => (0 ≤ (1 : Int) ∧ (1 : Int) < (Nat.cast 3 : Int) ∧ ldI .u32 (rd h2 (Addr.add (Addr.mk b1 0 none) (Int.toNat (1 : Int) * 1))) (fun n8 => bcase (n7 == n8) ((0 ≤ (1 : Int) ∧ (1 : Int) < (Nat.cast 3 : Int) ∧ ldI .u32 (rd h2 (Addr.add (Addr.mk b1 0 none) (Int.toNat (1 : Int) * 1))) (fun n9 => K (.tuple #[(.int .u32 n9), (.bool true)]) h2))) ((0 ≤ (1 : Int) ∧ (1 : Int) < (Nat.cast 3 : Int) ∧ ldI .u32 (rd h2 (Addr.add (Addr.mk b1 0 none) (Int.toNat (1 : Int) * 1))) (fun n10 => bcase (n10 == (0 : Int)) ((0 ≤ (0 : Int) ∧ (0 : Int) < (Nat.cast 3 : Int) ∧ ldI .u32 (rd h2 (Addr.add (Addr.mk b1 0 none) (Int.toNat (0 : Int) * 1))) (fun n11 => K (.tuple #[(.int .u32 n11), (.bool true)]) h2))) (K (.tuple #[(.int .u32 (0 : Int)), (.bool false)]) h2))))))))))))))))))
theorem E0 (S : Stop) (x0_0 x0_1 x0_2 : Int) (h : Heap) (K : KK) : (E Tryz.prog X T S body (fin Tryz.prog Tryz.f49.results.toList K) (args0 0 [(.agg #[(.int .u32 x0_0), (.int .u32 x0_1), (.int .u32 x0_2)])]) h) = J0 x0_0 x0_1 x0_2 h K := by kernel_rfl
def w (x0_0 x0_1 x0_2 : Int) (h : Heap) (K : KK) : Prop :=
  J0 x0_0 x0_1 x0_2 h K
theorem e0 (K : KK) (x0_0 x0_1 x0_2 : Int) (h : Heap) : (E Tryz.prog X T S0 body (fin Tryz.prog Tryz.f49.results.toList K) (args0 0 [(.agg #[(.int .u32 x0_0), (.int .u32 x0_1), (.int .u32 x0_2)])]) h) = w x0_0 x0_1 x0_2 h K := (E0 S0 x0_0 x0_1 x0_2 h K).trans (rfl)
theorem hb : Tryz.f49.body = some body := by kernel_rfl
theorem ok : okCode T Tryz.f49.ntmps body = true := by kernel_rfl
theorem spec (x0_0 : Int) (x0_1 : Int) (x0_2 : Int) (h : Heap) (K : KK) (H : w x0_0 x0_1 x0_2 h K) : CallsH Tryz.prog 49 [(.agg #[(.int .u32 x0_0), (.int .u32 x0_1), (.int .u32 x0_2)])] h K :=
  calls_of_E (T := T) Xok mix Tryz.func49 hb ok rfl (by rw [e0]; exact H)
end F49
-- (spinney/logic.walk).does
namespace F70
def T : Hint := ⟨[(9, [2, 3, 10, 45, 46]), (13, [2, 3, 10]), (22, [14, 16])], []⟩
noncomputable def body : Code := (Tryz.f70.body).getD .skip
noncomputable def en (S : Stop) (p : List Nat) (κ : XK) : Fr → Heap → Prop := E Tryz.prog X T S (sub body p) κ
noncomputable def ln (S : Stop) (p : List Nat) (κ : XK) (n : Nat) : Fr → Heap → Prop := loopN S (E Tryz.prog X T S (sub body p)) (cutQ T (sub body p)) κ n
def fn (K : KK) : XK := fin Tryz.prog Tryz.f70.results.toList K
noncomputable def c0 (S : Stop) (K : KK) : XK := seqN S (cutQ T (sub body [1, 1, 1, 1, 1])) (en S [1, 1, 1, 1, 1] (fn K)) (fn K)
noncomputable def c1 (S : Stop) (K : KK) : XK := blockN 0 (c0 S K)
noncomputable def c2 (S : Stop) (n9 : Nat) (K : KK) : XK := backN S (cutQ T (sub body [1, 1, 1, 1, 0, 1, 0, 0])) (ln S [1, 1, 1, 1, 0, 1, 0, 0] (c1 S K) n9) (c1 S K)
def f9 (x2 x3 : Addr) (x10 x45_0 x45_1 x45_2 x46 : Int) : Fr := [(2, (.pointer (some x2))), (3, (.pointer (some x3))), (10, (.int .i64 x10)), (45, (.agg #[(.int .u32 x45_0), (.int .u32 x45_1), (.int .u32 x45_2)])), (46, (.int .i64 x46))]
def f13 (x2 x3 : Addr) (x10 : Int) : Fr := [(2, (.pointer (some x2))), (3, (.pointer (some x3))), (10, (.int .i64 x10))]
def f22 (x14 x16 : Int) : Fr := [(14, (.int .i64 x14)), (16, (.int .u32 x16))]
def J0 (k9 : Addr → Addr → Int → Int → Int → Int → Int → Heap → Prop) (x0_0 : Option Addr) (x0_1 : Int) (x0_2 : Value) (x1_0 x1_1 x1_2 : Int) (h : Heap) (K : KK) : Prop :=
  newK h (.cells #[(.pointer x0_0), (.int .u8 x0_1), x0_2] 144) (fun b1 h2 => newK h2 (.cells #[(.int .u32 x1_0), (.int .u32 x1_1), (.int .u32 x1_2)] 105) (fun b3 h4 => ldV (rd h4 (Addr.add (Addr.mk b1 0 none) 2)) (fun v5 => ldI .u32 (rd h4 (Addr.add (Addr.mk b3 0 none) 0)) (fun n6 => ldI .u32 (rd h4 (Addr.add (Addr.mk b3 0 none) 1)) (fun n7 => ldI .u32 (rd h4 (Addr.add (Addr.mk b3 0 none) 2)) (fun n8 => dynK Tryz.prog X v5 [(.agg #[(.int .u32 n6), (.int .u32 n7), (.int .u32 n8)])] h4 (fun v9 h10 => (∃ n11 : Int, ∃ b12 : Bool, v9 = (.tuple #[(.int .u32 n11), (.bool b12)]) ∧ bcase b12 (K (.tuple #[(.int .u32 n11), (.int .i64 (0 : Int))]) h10) (ldP (rd h10 (Addr.add (Addr.mk b1 0 none) 0)) (fun p13 => ldI .u8 (rd h10 (Addr.add (Addr.mk b1 0 none) 1)) (fun n14 => (0 ≤ (0 : Int) ∧ (0 : Int) < (Nat.cast 3 : Int) ∧ ldI .u32 (rd h10 (Addr.add (Addr.mk b3 0 none) (Int.toNat (0 : Int) * 1))) (fun n15 => (0 ≤ (1 : Int) ∧ (1 : Int) < (Nat.cast 3 : Int) ∧ ldI .u32 (rd h10 (Addr.add (Addr.mk b3 0 none) (Int.toNat (1 : Int) * 1))) (fun n16 => (0 ≤ (2 : Int) ∧ (2 : Int) < (Nat.cast 3 : Int) ∧ ldI .u32 (rd h10 (Addr.add (Addr.mk b3 0 none) (Int.toNat (2 : Int) * 1))) (fun n17 => CallsH Tryz.prog 86 [(.pointer p13), (.int .u8 n14), (.int .u8 (0 : Int)), (.int .u32 n15), (.int .u32 n16), (.int .u32 n17)] h10 (fun v18 h19 => (∃ n20 : Int, ∃ b21 : Bool, v18 = (.tuple #[(.int .u32 n20), (.bool b21)]) ∧ bcase b21 (K (.tuple #[(.int .u32 n20), (.int .i64 (0 : Int))]) h19) (ldP (rd h19 (Addr.add (Addr.mk b1 0 none) 0)) (fun p22 => CallsH Tryz.prog 58 [(.pointer p22)] h19 (fun v23 h24 => ldI .i64 (some v23) (fun n25 => ldI .u32 (rd h24 (Addr.add (Addr.mk b3 0 none) 0)) (fun n26 => ldI .u32 (rd h24 (Addr.add (Addr.mk b3 0 none) 1)) (fun n27 => ldI .u32 (rd h24 (Addr.add (Addr.mk b3 0 none) 2)) (fun n28 => k9 (Addr.mk b1 0 none) (Addr.mk b3 0 none) n25 n26 n27 n28 (0 : Int) h24))))))))))))))))))))))))))
theorem E0 (S : Stop) (x0_0 : Option Addr) (x0_1 : Int) (x0_2 : Value) (x1_0 x1_1 x1_2 : Int) (h : Heap) (K : KK) : (E Tryz.prog X T S body (fin Tryz.prog Tryz.f70.results.toList K) (args0 0 [(.agg #[(.pointer x0_0), (.int .u8 x0_1), x0_2]), (.agg #[(.int .u32 x1_0), (.int .u32 x1_1), (.int .u32 x1_2)])]) h) = J0 (fun x2 x3 x10 x45_0 x45_1 x45_2 x46 h => S (en S [1, 1, 1, 1, 0, 1] (c0 S K)) (f9 x2 x3 x10 x45_0 x45_1 x45_2 x46) h) x0_0 x0_1 x0_2 x1_0 x1_1 x1_2 h K := by kernel_rfl
def Jk9 (lp9 : Addr → Addr → Int → Int → Int → Int → Int → Heap → Prop) (x2 x3 : Addr) (x10 x45_0 x45_1 x45_2 x46 : Int) (h : Heap) (_K : KK) : Prop :=
  lp9 x2 x3 x10 x45_0 x45_1 x45_2 x46 h
theorem Ek9 (S : Stop) (x2 x3 : Addr) (x10 x45_0 x45_1 x45_2 x46 : Int) (h : Heap) (K : KK) : (en S [1, 1, 1, 1, 0, 1] (c0 S K) (f9 x2 x3 x10 x45_0 x45_1 x45_2 x46) h) = Jk9 (fun x2 x3 x10 x45_0 x45_1 x45_2 x46 h => ∃ n, S (ln S [1, 1, 1, 1, 0, 1, 0, 0] (c1 S K) n) (f9 x2 x3 x10 x45_0 x45_1 x45_2 x46) h) x2 x3 x10 x45_0 x45_1 x45_2 x46 h K := by kernel_rfl
def JL9 (bk9 : Addr → Addr → Int → Int → Int → Int → Int → Heap → Prop) (k13 : Addr → Addr → Int → Heap → Prop) (x2 x3 : Addr) (x10 x45_0 x45_1 x45_2 x46 : Int) (h : Heap) (_K : KK) : Prop :=
  bcase (decide (x46 < (3 : Int))) ((0 ≤ x46 ∧ x46 < (Nat.cast 3 : Int) ∧ ldI .u32 ([(.int .u32 x45_0), (.int .u32 x45_1), (.int .u32 x45_2)] : List Value)[Int.toNat x46]? (fun n1 => ldP (rd h (Addr.add x2 0)) (fun p2 => CallsH Tryz.prog 46 [(.pointer p2), (.int .u32 n1)] h (fun v3 h4 => ldI .i64 (some v3) (fun n5 => bk9 x2 x3 (if n5 < x10 then n5 else x10) x45_0 x45_1 x45_2 (IntKind.wrap .i64 (x46 + (1 : Int))) h4)))))) (k13 x2 x3 x10 h)
theorem EL9 (S : Stop) (n9 : Nat) (x2 x3 : Addr) (x10 x45_0 x45_1 x45_2 x46 : Int) (h : Heap) (K : KK) : (en S [1, 1, 1, 1, 0, 1, 0, 0] (c2 S n9 K) (f9 x2 x3 x10 x45_0 x45_1 x45_2 x46) h) = JL9 (fun x2 x3 x10 x45_0 x45_1 x45_2 x46 h => S (ln S [1, 1, 1, 1, 0, 1, 0, 0] (c1 S K) n9) (f9 x2 x3 x10 x45_0 x45_1 x45_2 x46) h) (fun x2 x3 x10 h => S (en S [1, 1, 1, 1, 1] (fn K)) (f13 x2 x3 x10) h) x2 x3 x10 x45_0 x45_1 x45_2 x46 h K := by kernel_rfl
def Jk13 (k22 : Int → Int → Heap → Prop) (x2 x3 : Addr) (x10 : Int) (h : Heap) (K : KK) : Prop :=
  ldP (rd h (Addr.add x2 0)) (fun p1 => ldI .u8 (rd h (Addr.add x2 1)) (fun n2 => ldV (rd h (Addr.add x2 2)) (fun v3 => ldI .u32 (rd h (Addr.add x3 0)) (fun n4 => ldI .u32 (rd h (Addr.add x3 1)) (fun n5 => ldI .u32 (rd h (Addr.add x3 2)) (fun n6 => CallsH Tryz.prog 87 [(.agg #[(.pointer p1), (.int .u8 n2), v3]), (.agg #[(.int .u32 n4), (.int .u32 n5), (.int .u32 n6)]), (.int .i64 x10), (.func (.func 68) #[] #[])] h (fun v7 h8 => (∃ n9 : Int, ∃ n10 : Int, v7 = (.tuple #[(.int .u32 n9), (.int .i64 n10)]) ∧ bcase (n10 != (0 : Int)) (K (.tuple #[(.int .u32 (0 : Int)), (.int .i64 n10)]) h8) (ldP (rd h8 (Addr.add x2 0)) (fun p11 => ldI .u8 (rd h8 (Addr.add x2 1)) (fun n12 => ldV (rd h8 (Addr.add x2 2)) (fun v13 => ldI .u32 (rd h8 (Addr.add x3 0)) (fun n14 => ldI .u32 (rd h8 (Addr.add x3 1)) (fun n15 => ldI .u32 (rd h8 (Addr.add x3 2)) (fun n16 => CallsH Tryz.prog 87 [(.agg #[(.pointer p11), (.int .u8 n12), v13]), (.agg #[(.int .u32 n14), (.int .u32 n15), (.int .u32 n16)]), (.int .i64 x10), (.func (.func 69) #[] #[])] h8 (fun v17 h18 => (∃ n19 : Int, ∃ n20 : Int, v17 = (.tuple #[(.int .u32 n19), (.int .i64 n20)]) ∧ bcase (n20 != (0 : Int)) (K (.tuple #[(.int .u32 (0 : Int)), (.int .i64 n20)]) h18) (ldP (rd h18 (Addr.add x2 0)) (fun p21 => CallsH Tryz.prog 56 [(.pointer p21), (.int .i64 x10), (.int .u32 n9), (.int .u32 n19)] h18 (fun v22 h23 => (∃ n24 : Int, ∃ n25 : Int, v22 = (.tuple #[(.int .u32 n24), (.int .i64 n25)]) ∧ bcase (n25 == (0 : Int)) (ldP (rd h23 (Addr.add x2 0)) (fun p26 => ldI .u8 (rd h23 (Addr.add x2 1)) (fun n27 => (0 ≤ (0 : Int) ∧ (0 : Int) < (Nat.cast 3 : Int) ∧ ldI .u32 (rd h23 (Addr.add x3 (Int.toNat (0 : Int) * 1))) (fun n28 => (0 ≤ (1 : Int) ∧ (1 : Int) < (Nat.cast 3 : Int) ∧ ldI .u32 (rd h23 (Addr.add x3 (Int.toNat (1 : Int) * 1))) (fun n29 => (0 ≤ (2 : Int) ∧ (2 : Int) < (Nat.cast 3 : Int) ∧ ldI .u32 (rd h23 (Addr.add x3 (Int.toNat (2 : Int) * 1))) (fun n30 => CallsH Tryz.prog 88 [(.pointer p26), (.int .u8 n27), (.int .u8 (0 : Int)), (.int .u32 n28), (.int .u32 n29), (.int .u32 n30), (.int .u32 n24)] h23 (fun v31 h32 => (v31 = (.tuple #[]) ∧ k22 n25 n24 h32))))))))))) (k22 n25 n24 h23))))))))))))))))))))))
theorem Ek13 (S : Stop) (x2 x3 : Addr) (x10 : Int) (h : Heap) (K : KK) : (en S [1, 1, 1, 1, 1] (fn K) (f13 x2 x3 x10) h) = Jk13 (fun x14 x16 h => S (en S [1, 1, 1, 1, 1, 1, 1, 1, 1, 1, 1] (fn K)) (f22 x14 x16) h) x2 x3 x10 h K := by kernel_rfl
def Jk22 (x14 x16 : Int) (h : Heap) (K : KK) : Prop :=
  K (.tuple #[(.int .u32 x16), (.int .i64 x14)]) h
theorem Ek22 (S : Stop) (x14 x16 : Int) (h : Heap) (K : KK) : (en S [1, 1, 1, 1, 1, 1, 1, 1, 1, 1, 1] (fn K) (f22 x14 x16) h) = Jk22 x14 x16 h K := by kernel_rfl
def wk22 (x14 x16 : Int) (h : Heap) (K : KK) : Prop :=
  Jk22 x14 x16 h K
theorem ek22 (K : KK) (x14 x16 : Int) (h : Heap) : (en S0 [1, 1, 1, 1, 1, 1, 1, 1, 1, 1, 1] (fn K) (f22 x14 x16) h) = wk22 x14 x16 h K := (Ek22 S0 x14 x16 h K).trans (rfl)
def wk13 (x2 x3 : Addr) (x10 : Int) (h : Heap) (K : KK) : Prop :=
  Jk13 (fun x14 x16 h => wk22 x14 x16 h K) x2 x3 x10 h K
theorem ek13 (K : KK) (x2 x3 : Addr) (x10 : Int) (h : Heap) : (en S0 [1, 1, 1, 1, 1] (fn K) (f13 x2 x3 x10) h) = wk13 x2 x3 x10 h K := (Ek13 S0 x2 x3 x10 h K).trans (cg1 (fun q0 => Jk13 q0 x2 x3 x10 h K) (by funext x14 x16 h; exact ek22 K x14 x16 h))
def wL9 : Nat → Addr → Addr → Int → Int → Int → Int → Int → Heap → KK → Prop
  | 0, _, _, _, _, _, _, _, _, _ => False
  | n + 1, x2, x3, x10, x45_0, x45_1, x45_2, x46, h, K => JL9 (fun x2 x3 x10 x45_0 x45_1 x45_2 x46 h => wL9 n x2 x3 x10 x45_0 x45_1 x45_2 x46 h K) (fun x2 x3 x10 h => wk13 x2 x3 x10 h K) x2 x3 x10 x45_0 x45_1 x45_2 x46 h K
theorem eL9 (K : KK) : ∀ (n : Nat) (x2 x3 : Addr) (x10 x45_0 x45_1 x45_2 x46 : Int) (h : Heap), (ln S0 [1, 1, 1, 1, 0, 1, 0, 0] (c1 S0 K) n (f9 x2 x3 x10 x45_0 x45_1 x45_2 x46) h) = wL9 n x2 x3 x10 x45_0 x45_1 x45_2 x46 h K
  | 0, _, _, _, _, _, _, _, _ => rfl
  | n + 1, x2, x3, x10, x45_0, x45_1, x45_2, x46, h => (EL9 S0 n x2 x3 x10 x45_0 x45_1 x45_2 x46 h K).trans (cg2 (fun q0 q1 => JL9 q0 q1 x2 x3 x10 x45_0 x45_1 x45_2 x46 h K) (by funext x2 x3 x10 x45_0 x45_1 x45_2 x46 h; exact (fun x2 x3 x10 x45_0 x45_1 x45_2 x46 h => eL9 K n x2 x3 x10 x45_0 x45_1 x45_2 x46 h) x2 x3 x10 x45_0 x45_1 x45_2 x46 h) (by funext x2 x3 x10 h; exact ek13 K x2 x3 x10 h))
def wk9 (x2 x3 : Addr) (x10 x45_0 x45_1 x45_2 x46 : Int) (h : Heap) (K : KK) : Prop :=
  Jk9 (fun x2 x3 x10 x45_0 x45_1 x45_2 x46 h => ∃ m, wL9 m x2 x3 x10 x45_0 x45_1 x45_2 x46 h K) x2 x3 x10 x45_0 x45_1 x45_2 x46 h K
theorem ek9 (K : KK) (x2 x3 : Addr) (x10 x45_0 x45_1 x45_2 x46 : Int) (h : Heap) : (en S0 [1, 1, 1, 1, 0, 1] (c0 S0 K) (f9 x2 x3 x10 x45_0 x45_1 x45_2 x46) h) = wk9 x2 x3 x10 x45_0 x45_1 x45_2 x46 h K := (Ek9 S0 x2 x3 x10 x45_0 x45_1 x45_2 x46 h K).trans (cg1 (fun q0 => Jk9 q0 x2 x3 x10 x45_0 x45_1 x45_2 x46 h K) (by funext x2 x3 x10 x45_0 x45_1 x45_2 x46 h; exact ex_congr fun m => eL9 K m x2 x3 x10 x45_0 x45_1 x45_2 x46 h))
def w (x0_0 : Option Addr) (x0_1 : Int) (x0_2 : Value) (x1_0 x1_1 x1_2 : Int) (h : Heap) (K : KK) : Prop :=
  J0 (fun x2 x3 x10 x45_0 x45_1 x45_2 x46 h => wk9 x2 x3 x10 x45_0 x45_1 x45_2 x46 h K) x0_0 x0_1 x0_2 x1_0 x1_1 x1_2 h K
theorem e0 (K : KK) (x0_0 : Option Addr) (x0_1 : Int) (x0_2 : Value) (x1_0 x1_1 x1_2 : Int) (h : Heap) : (E Tryz.prog X T S0 body (fin Tryz.prog Tryz.f70.results.toList K) (args0 0 [(.agg #[(.pointer x0_0), (.int .u8 x0_1), x0_2]), (.agg #[(.int .u32 x1_0), (.int .u32 x1_1), (.int .u32 x1_2)])]) h) = w x0_0 x0_1 x0_2 x1_0 x1_1 x1_2 h K := (E0 S0 x0_0 x0_1 x0_2 x1_0 x1_1 x1_2 h K).trans (cg1 (fun q0 => J0 q0 x0_0 x0_1 x0_2 x1_0 x1_1 x1_2 h K) (by funext x2 x3 x10 x45_0 x45_1 x45_2 x46 h; exact ek9 K x2 x3 x10 x45_0 x45_1 x45_2 x46 h))
theorem hb : Tryz.f70.body = some body := by kernel_rfl
theorem ok : okCode T Tryz.f70.ntmps body = true := by kernel_rfl
theorem spec (x0_0 : Option Addr) (x0_1 : Int) (x0_2 : Value) (x1_0 : Int) (x1_1 : Int) (x1_2 : Int) (h : Heap) (K : KK) (H : w x0_0 x0_1 x0_2 x1_0 x1_1 x1_2 h K) : CallsH Tryz.prog 70 [(.agg #[(.pointer x0_0), (.int .u8 x0_1), x0_2]), (.agg #[(.int .u32 x1_0), (.int .u32 x1_1), (.int .u32 x1_2)])] h K :=
  calls_of_E (T := T) Xok mix Tryz.func70 hb ok rfl (by rw [e0]; exact H)
end F70
-- (spinney/logic.walk).half
namespace F87
def T : Hint := ⟨[(2, [2, 3, 4, 5, 12, 13]), (6, [4, 5])], []⟩
noncomputable def body : Code := (Tryz.f87.body).getD .skip
noncomputable def en (S : Stop) (p : List Nat) (κ : XK) : Fr → Heap → Prop := E Tryz.prog X T S (sub body p) κ
noncomputable def ln (S : Stop) (p : List Nat) (κ : XK) (n : Nat) : Fr → Heap → Prop := loopN S (E Tryz.prog X T S (sub body p)) (cutQ T (sub body p)) κ n
def fn (K : KK) : XK := fin Tryz.prog Tryz.f87.results.toList K
noncomputable def c0 (S : Stop) (K : KK) : XK := seqN S (cutQ T (sub body [1, 1])) (en S [1, 1] (fn K)) (fn K)
noncomputable def c1 (S : Stop) (K : KK) : XK := blockN 0 (c0 S K)
noncomputable def c2 (S : Stop) (n2 : Nat) (K : KK) : XK := backN S (cutQ T (sub body [1, 0, 1, 0, 0])) (ln S [1, 0, 1, 0, 0] (c1 S K) n2) (c1 S K)
def f2 (x2 : Int) (x3 : Value) (x4 x5 : Addr) (x12_0 x12_1 x12_2 x13 : Int) : Fr := [(2, (.int .i64 x2)), (3, x3), (4, (.pointer (some x4))), (5, (.pointer (some x5))), (12, (.agg #[(.int .u32 x12_0), (.int .u32 x12_1), (.int .u32 x12_2)])), (13, (.int .i64 x13))]
def f6 (x4 x5 : Addr) : Fr := [(4, (.pointer (some x4))), (5, (.pointer (some x5)))]
def J0 (k2 : Int → Value → Addr → Addr → Int → Int → Int → Int → Heap → Prop) (x0_0 : Option Addr) (x0_1 : Int) (x0_2 : Value) (x1_0 x1_1 x1_2 x2 : Int) (x3 : Value) (h : Heap) (_K : KK) : Prop :=
  newK h (.cells #[(.pointer x0_0), (.int .u8 x0_1), x0_2] 144) (fun b1 h2 => newK h2 (.cells #[(.int .u32 x1_0), (.int .u32 x1_1), (.int .u32 x1_2)] 105) (fun b3 h4 => ldI .u32 (rd h4 (Addr.add (Addr.mk b3 0 none) 0)) (fun n5 => ldI .u32 (rd h4 (Addr.add (Addr.mk b3 0 none) 1)) (fun n6 => ldI .u32 (rd h4 (Addr.add (Addr.mk b3 0 none) 2)) (fun n7 => k2 x2 x3 (Addr.mk b1 0 none) (Addr.mk b3 0 none) n5 n6 n7 (0 : Int) h4)))))
theorem E0 (S : Stop) (x0_0 : Option Addr) (x0_1 : Int) (x0_2 : Value) (x1_0 x1_1 x1_2 x2 : Int) (x3 : Value) (h : Heap) (K : KK) : (E Tryz.prog X T S body (fin Tryz.prog Tryz.f87.results.toList K) (args0 0 [(.agg #[(.pointer x0_0), (.int .u8 x0_1), x0_2]), (.agg #[(.int .u32 x1_0), (.int .u32 x1_1), (.int .u32 x1_2)]), (.int .i64 x2), x3]) h) = J0 (fun x2 x3 x4 x5 x12_0 x12_1 x12_2 x13 h => S (en S [1, 0, 1] (c0 S K)) (f2 x2 x3 x4 x5 x12_0 x12_1 x12_2 x13) h) x0_0 x0_1 x0_2 x1_0 x1_1 x1_2 x2 x3 h K := by kernel_rfl
def Jk2 (lp2 : Int → Value → Addr → Addr → Int → Int → Int → Int → Heap → Prop) (x2 : Int) (x3 : Value) (x4 x5 : Addr) (x12_0 x12_1 x12_2 x13 : Int) (h : Heap) (_K : KK) : Prop :=
  lp2 x2 x3 x4 x5 x12_0 x12_1 x12_2 x13 h
theorem Ek2 (S : Stop) (x2 : Int) (x3 : Value) (x4 x5 : Addr) (x12_0 x12_1 x12_2 x13 : Int) (h : Heap) (K : KK) : (en S [1, 0, 1] (c0 S K) (f2 x2 x3 x4 x5 x12_0 x12_1 x12_2 x13) h) = Jk2 (fun x2 x3 x4 x5 x12_0 x12_1 x12_2 x13 h => ∃ n, S (ln S [1, 0, 1, 0, 0] (c1 S K) n) (f2 x2 x3 x4 x5 x12_0 x12_1 x12_2 x13) h) x2 x3 x4 x5 x12_0 x12_1 x12_2 x13 h K := by kernel_rfl
def JL2 (bk2 : Int → Value → Addr → Addr → Int → Int → Int → Int → Heap → Prop) (k6 : Addr → Addr → Heap → Prop) (x2 : Int) (x3 : Value) (x4 x5 : Addr) (x12_0 x12_1 x12_2 x13 : Int) (h : Heap) (_K : KK) : Prop :=
  bcase (decide (x13 < (3 : Int))) ((0 ≤ x13 ∧ x13 < (Nat.cast 3 : Int) ∧ ldI .u32 ([(.int .u32 x12_0), (.int .u32 x12_1), (.int .u32 x12_2)] : List Value)[Int.toNat x13]? (fun n1 => ldP (rd h (Addr.add x4 0)) (fun p2 => CallsH Tryz.prog 110 [(.pointer p2), x3, (.int .u32 n1), (.int .i64 x2)] h (fun v3 h4 => ldI .u32 (some v3) (fun n5 => (0 ≤ x13 ∧ x13 < (Nat.cast 3 : Int) ∧ stK h4 (Addr.add (Addr.add x5 (Int.toNat x13 * 1)) 0) (.int .u32 n5) (fun h6 => bk2 x2 x3 x4 x5 x12_0 x12_1 x12_2 (IntKind.wrap .i64 (x13 + (1 : Int))) h6)))))))) (k6 x4 x5 h)
theorem EL2 (S : Stop) (n2 : Nat) (x2 : Int) (x3 : Value) (x4 x5 : Addr) (x12_0 x12_1 x12_2 x13 : Int) (h : Heap) (K : KK) : (en S [1, 0, 1, 0, 0] (c2 S n2 K) (f2 x2 x3 x4 x5 x12_0 x12_1 x12_2 x13) h) = JL2 (fun x2 x3 x4 x5 x12_0 x12_1 x12_2 x13 h => S (ln S [1, 0, 1, 0, 0] (c1 S K) n2) (f2 x2 x3 x4 x5 x12_0 x12_1 x12_2 x13) h) (fun x4 x5 h => S (en S [1, 1] (fn K)) (f6 x4 x5) h) x2 x3 x4 x5 x12_0 x12_1 x12_2 x13 h K := by kernel_rfl
def Jk6 (x4 x5 : Addr) (h : Heap) (K : KK) : Prop :=
  ldP (rd h (Addr.add x4 0)) (fun p1 => ldI .u8 (rd h (Addr.add x4 1)) (fun n2 => ldV (rd h (Addr.add x4 2)) (fun v3 => ldI .u32 (rd h (Addr.add x5 0)) (fun n4 => ldI .u32 (rd h (Addr.add x5 1)) (fun n5 => ldI .u32 (rd h (Addr.add x5 2)) (fun n6 => CallsH Tryz.prog 70 [(.agg #[(.pointer p1), (.int .u8 n2), v3]), (.agg #[(.int .u32 n4), (.int .u32 n5), (.int .u32 n6)])] h (fun v7 h8 => (∃ n9 : Int, ∃ n10 : Int, v7 = (.tuple #[(.int .u32 n9), (.int .i64 n10)]) ∧ K (.tuple #[(.int .u32 n9), (.int .i64 n10)]) h8))))))))
theorem Ek6 (S : Stop) (x4 x5 : Addr) (h : Heap) (K : KK) : (en S [1, 1] (fn K) (f6 x4 x5) h) = Jk6 x4 x5 h K := by kernel_rfl
def wk6 (x4 x5 : Addr) (h : Heap) (K : KK) : Prop :=
  Jk6 x4 x5 h K
theorem ek6 (K : KK) (x4 x5 : Addr) (h : Heap) : (en S0 [1, 1] (fn K) (f6 x4 x5) h) = wk6 x4 x5 h K := (Ek6 S0 x4 x5 h K).trans (rfl)
def wL2 : Nat → Int → Value → Addr → Addr → Int → Int → Int → Int → Heap → KK → Prop
  | 0, _, _, _, _, _, _, _, _, _, _ => False
  | n + 1, x2, x3, x4, x5, x12_0, x12_1, x12_2, x13, h, K => JL2 (fun x2 x3 x4 x5 x12_0 x12_1 x12_2 x13 h => wL2 n x2 x3 x4 x5 x12_0 x12_1 x12_2 x13 h K) (fun x4 x5 h => wk6 x4 x5 h K) x2 x3 x4 x5 x12_0 x12_1 x12_2 x13 h K
theorem eL2 (K : KK) : ∀ (n : Nat) (x2 : Int) (x3 : Value) (x4 x5 : Addr) (x12_0 x12_1 x12_2 x13 : Int) (h : Heap), (ln S0 [1, 0, 1, 0, 0] (c1 S0 K) n (f2 x2 x3 x4 x5 x12_0 x12_1 x12_2 x13) h) = wL2 n x2 x3 x4 x5 x12_0 x12_1 x12_2 x13 h K
  | 0, _, _, _, _, _, _, _, _, _ => rfl
  | n + 1, x2, x3, x4, x5, x12_0, x12_1, x12_2, x13, h => (EL2 S0 n x2 x3 x4 x5 x12_0 x12_1 x12_2 x13 h K).trans (cg2 (fun q0 q1 => JL2 q0 q1 x2 x3 x4 x5 x12_0 x12_1 x12_2 x13 h K) (by funext x2 x3 x4 x5 x12_0 x12_1 x12_2 x13 h; exact (fun x2 x3 x4 x5 x12_0 x12_1 x12_2 x13 h => eL2 K n x2 x3 x4 x5 x12_0 x12_1 x12_2 x13 h) x2 x3 x4 x5 x12_0 x12_1 x12_2 x13 h) (by funext x4 x5 h; exact ek6 K x4 x5 h))
def wk2 (x2 : Int) (x3 : Value) (x4 x5 : Addr) (x12_0 x12_1 x12_2 x13 : Int) (h : Heap) (K : KK) : Prop :=
  Jk2 (fun x2 x3 x4 x5 x12_0 x12_1 x12_2 x13 h => ∃ m, wL2 m x2 x3 x4 x5 x12_0 x12_1 x12_2 x13 h K) x2 x3 x4 x5 x12_0 x12_1 x12_2 x13 h K
theorem ek2 (K : KK) (x2 : Int) (x3 : Value) (x4 x5 : Addr) (x12_0 x12_1 x12_2 x13 : Int) (h : Heap) : (en S0 [1, 0, 1] (c0 S0 K) (f2 x2 x3 x4 x5 x12_0 x12_1 x12_2 x13) h) = wk2 x2 x3 x4 x5 x12_0 x12_1 x12_2 x13 h K := (Ek2 S0 x2 x3 x4 x5 x12_0 x12_1 x12_2 x13 h K).trans (cg1 (fun q0 => Jk2 q0 x2 x3 x4 x5 x12_0 x12_1 x12_2 x13 h K) (by funext x2 x3 x4 x5 x12_0 x12_1 x12_2 x13 h; exact ex_congr fun m => eL2 K m x2 x3 x4 x5 x12_0 x12_1 x12_2 x13 h))
def w (x0_0 : Option Addr) (x0_1 : Int) (x0_2 : Value) (x1_0 x1_1 x1_2 x2 : Int) (x3 : Value) (h : Heap) (K : KK) : Prop :=
  J0 (fun x2 x3 x4 x5 x12_0 x12_1 x12_2 x13 h => wk2 x2 x3 x4 x5 x12_0 x12_1 x12_2 x13 h K) x0_0 x0_1 x0_2 x1_0 x1_1 x1_2 x2 x3 h K
theorem e0 (K : KK) (x0_0 : Option Addr) (x0_1 : Int) (x0_2 : Value) (x1_0 x1_1 x1_2 x2 : Int) (x3 : Value) (h : Heap) : (E Tryz.prog X T S0 body (fin Tryz.prog Tryz.f87.results.toList K) (args0 0 [(.agg #[(.pointer x0_0), (.int .u8 x0_1), x0_2]), (.agg #[(.int .u32 x1_0), (.int .u32 x1_1), (.int .u32 x1_2)]), (.int .i64 x2), x3]) h) = w x0_0 x0_1 x0_2 x1_0 x1_1 x1_2 x2 x3 h K := (E0 S0 x0_0 x0_1 x0_2 x1_0 x1_1 x1_2 x2 x3 h K).trans (cg1 (fun q0 => J0 q0 x0_0 x0_1 x0_2 x1_0 x1_1 x1_2 x2 x3 h K) (by funext x2 x3 x4 x5 x12_0 x12_1 x12_2 x13 h; exact ek2 K x2 x3 x4 x5 x12_0 x12_1 x12_2 x13 h))
theorem hb : Tryz.f87.body = some body := by kernel_rfl
theorem ok : okCode T Tryz.f87.ntmps body = true := by kernel_rfl
theorem spec (x0_0 : Option Addr) (x0_1 : Int) (x0_2 : Value) (x1_0 : Int) (x1_1 : Int) (x1_2 : Int) (x2 : Int) (x3 : Value) (h : Heap) (K : KK) (H : w x0_0 x0_1 x0_2 x1_0 x1_1 x1_2 x2 x3 h K) : CallsH Tryz.prog 87 [(.agg #[(.pointer x0_0), (.int .u8 x0_1), x0_2]), (.agg #[(.int .u32 x1_0), (.int .u32 x1_1), (.int .u32 x1_2)]), (.int .i64 x2), x3] h K :=
  calls_of_E (T := T) Xok mix Tryz.func87 hb ok rfl (by rw [e0]; exact H)
end F87
-- spinney/logic.child
namespace F110
def T : Hint := ⟨[], []⟩
noncomputable def body : Code := (Tryz.f110.body).getD .skip
def J0 (x0 : Addr) (x1 : Value) (x2 x3 : Int) (h : Heap) (K : KK) : Prop :=
  CallsH Tryz.prog 46 [(.pointer (some x0)), (.int .u32 x2)] h (fun v1 h2 => ldI .i64 (some v1) (fun n3 => bcase (n3 != x3) (K (.int .u32 x2) h2) (dynK Tryz.prog X x1 [(.pointer (some x0)), (.int .u32 x2)] h2 (fun v4 h5 => ldI .u32 (some v4) (fun n6 => K (.int .u32 n6) h5)))))
theorem E0 (S : Stop) (x0 : Addr) (x1 : Value) (x2 x3 : Int) (h : Heap) (K : KK) : (E Tryz.prog X T S body (fin Tryz.prog Tryz.f110.results.toList K) (args0 0 [(.pointer (some x0)), x1, (.int .u32 x2), (.int .i64 x3)]) h) = J0 x0 x1 x2 x3 h K := by kernel_rfl
def w (x0 : Addr) (x1 : Value) (x2 x3 : Int) (h : Heap) (K : KK) : Prop :=
  J0 x0 x1 x2 x3 h K
theorem e0 (K : KK) (x0 : Addr) (x1 : Value) (x2 x3 : Int) (h : Heap) : (E Tryz.prog X T S0 body (fin Tryz.prog Tryz.f110.results.toList K) (args0 0 [(.pointer (some x0)), x1, (.int .u32 x2), (.int .i64 x3)]) h) = w x0 x1 x2 x3 h K := (E0 S0 x0 x1 x2 x3 h K).trans (rfl)
theorem hb : Tryz.f110.body = some body := by kernel_rfl
theorem ok : okCode T Tryz.f110.ntmps body = true := by kernel_rfl
theorem spec (x0 : Addr) (x1 : Value) (x2 : Int) (x3 : Int) (h : Heap) (K : KK) (H : w x0 x1 x2 x3 h K) : CallsH Tryz.prog 110 [(.pointer (some x0)), x1, (.int .u32 x2), (.int .i64 x3)] h K :=
  calls_of_E (T := T) Xok mix Tryz.func110 hb ok rfl (by rw [e0]; exact H)
end F110
end Go.Proofs.YtnbnlhpleomaoaaGreat.Ev
