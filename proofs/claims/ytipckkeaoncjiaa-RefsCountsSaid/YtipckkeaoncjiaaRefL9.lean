/- RefsCounts, seen from the heap. Conditions: the arguments are in their bounds. -/
import Derived.Test.YtipckkeaoncjiaaRefL
namespace Go.Proofs.Ytipckkeaoncjiaa.Ev
open Go

/-- one handle, so often -/
def oneF (x : Int) (c : Nat) : Int → Int := fun y => if y = x then (c : Int) else 0
theorem oneF_up (x : Int) (c : Nat) : fup (oneF x c) x (oneF x c x + 1) = oneF x (c + 1) := by
  funext y
  unfold fup oneF
  by_cases h : y = x
  · rw [if_pos h, if_pos rfl, if_pos h]; omega
  · rw [if_neg h, if_neg h, if_neg h]
theorem oneF_dn (x : Int) (c : Nat) : fup (oneF x (c + 1)) x (oneF x (c + 1) x - 1) = oneF x c := by
  funext y
  unfold fup oneF
  by_cases h : y = x
  · rw [if_pos h, if_pos rfl, if_pos h]; omega
  · rw [if_neg h, if_neg h, if_neg h]
theorem oneF_at (x : Int) (c : Nat) : oneF x c x = c := if_pos rfl
theorem oneF_0 (x : Int) : oneF x 0 = fun _ => 0 := by
  funext y
  unfold oneF
  split <;> rfl
theorem single_ext {l : List Int} {x : Int} {P : Prop} (h : l.Pairwise (· < ·)) (hm : ∀ y, y ∈ l ↔ P ∧ y = x) : (P → l.length = 1) ∧ (¬ P → l.length = 0) := by
  constructor
  · intro hp
    rw [sorted_ext h (l' := [x]) (by simp) fun y => by rw [hm y]; simp [hp]]
    rfl
  · intro hp
    rw [sorted_ext h (l' := []) (by simp) fun y => by rw [hm y]; simp [hp]]
    rfl
section
variable {h0 : Heap} {lo r M S : Nat} {p : Nat → Option Addr} {c : Nat → Nat} {x : Int}
abbrev Rf1 (lo : Nat) (h : Heap) (r M S N : Nat) (p : Nat → Option Addr) (c : Nat → Nat) (x : Int) (n : Nat) : Prop := Rf lo h r M S 1 N (oneF x n) p c fun _ => []
theorem roots1 {h : Heap} {N n : Nat} {K : Value → Heap → Prop} (H : Rf1 lo h r M S N p c x n) (hN : N ≤ 1000) (hK : ∀ h' p' c' (l : Nat), ((l : Int) == 1) = (decide (1 < x) && decide (n ≠ 0)) → (¬ (1 < x ∧ n ≠ 0) → l = 0) → Only [] h h' → K (.slice p' l c') h') :
    CallsH Try.prog 32 [.pointer (some ⟨r, 0, none⟩)] h K := by
  have hLB : LB = 140737488355328 := rfl
  refine roots32 H (by omega) (by omega) fun h' p' c' R hR hm Ow O => ?_
  have := single_ext (P := 1 < x ∧ n ≠ 0) (x := x) hR fun y => by
    rw [hm y]
    unfold oneF
    constructor
    · rintro ⟨h1, h2 | ⟨k, hk, hx⟩⟩
      · by_cases e : y = x
        · subst e
          rw [if_pos rfl] at h2
          exact ⟨⟨h1, by omega⟩, rfl⟩
        · rw [if_neg e] at h2
          exact absurd rfl h2
      · cases hx
    · rintro ⟨⟨h1, h2⟩, rfl⟩
      exact ⟨h1, .inl (by rw [if_pos rfl]; omega)⟩
  refine hK h' p' c' R.length ?_ this.2 O
  by_cases hp : 1 < x ∧ n ≠ 0
  · rw [this.1 hp]
    simp [hp.1, hp.2]
  · rw [this.2 hp]
    by_cases h1 : 1 < x
    · have : n = 0 := by omega
      simp [this]
    · simp [h1]
theorem all1 {h : Heap} {N n : Nat} {K : Value → Heap → Prop} (H : Rf1 lo h r M S N p c x n) (hN : N ≤ 1000) (hK : ∀ h' p' c' (l : Nat), (n ≠ 0 → l = 1) → (n = 0 → l = 0) → Only [] h h' → K (.slice p' l c') h') :
    CallsH Try.prog 35 [.pointer (some ⟨r, 0, none⟩)] h K := by
  have hLB : LB = 140737488355328 := rfl
  refine all35 H (by omega) fun h' p' c' ks hR hm Ow O => ?_
  have := single_ext (P := n ≠ 0) (x := x) hR fun y => by
    rw [hm y]
    unfold oneF
    by_cases e : y = x
    · subst e
      rw [if_pos rfl]
      exact ⟨fun h => ⟨by omega, rfl⟩, fun h => by omega⟩
    · rw [if_neg e]
      exact ⟨fun h => absurd rfl h, fun h => absurd h.2 e⟩
  exact hK h' p' c' ks.length this.1 (fun h => this.2 (by omega)) O
theorem down9 (hlo : h0.size ≤ lo) (hx : 0 ≤ x ∧ x ≤ 4294967295) : ∀ (n N : Nat) (h : Heap), N + n ≤ 500 → Rf1 lo h r M S N p c x n → Only [] h0 h → F9.wL13 (n + 1) (some ⟨r, 0, none⟩) x n h (Lawful h0) := by
  have hLB : LB = 140737488355328 := rfl
  intro n
  induction n with
  | zero =>
    intro N h hN H O
    unfold F9.wL13 F9.JL13
    rw [show decide (((0 : Nat) : Int) > 0) = false by decide, bcase_false]
    unfold F9.wk17 F9.Jk17
    refine roots1 H (by omega) fun h1 p1 c1 l1 e1 z1 O1 => ?_
    have l0 : l1 = 0 := z1 (by omega)
    subst l0
    rw [ldS_some, show (((0 : Nat) : Int) == 0) = true by decide, bcase_true]
    refine all1 (H.new O1) (by omega) fun h2 p2 c2 l2 e2 z2 O2 => ?_
    rw [z2 rfl, ldS_some, show (((0 : Nat) : Int) == 0) = true by decide, bcase_true]
    have H2 := (H.new O1).new O2
    refine unp36 H2 (by omega) (fun _ => ?_) fun hne => absurd (by rw [oneF_at]; rfl) hne
    rw [ldI_some, show ((61 : Int) == 61) = true by decide, bcase_true]
    refine count34 H2 ?_
    rw [ldI_some, oneF_at]
    exact ⟨rfl, (O.trans O1 (by simp)).trans O2 (by simp)⟩
  | succ n ih =>
    intro N h hN H O
    unfold F9.wL13 F9.JL13
    rw [show decide (((n + 1 : Nat) : Int) > 0) = true by rw [decide_eq_true_eq]; omega, bcase_true]
    refine roots1 H (by omega) fun h1 p1 c1 l1 e1 z1 O1 => ?_
    rw [ldS_some, e1, show decide (x > 1) = decide (1 < x) from rfl]
    rw [show (!(decide (1 < x) && decide (n + 1 ≠ 0)) == decide (1 < x)) = false by cases decide (1 < x) <;> simp, bcase_false]
    refine all1 (H.new O1) (by omega) fun h2 p2 c2 l2 e2 z2 O2 => ?_
    rw [e2 (by omega), ldS_some, show (((1 : Nat) : Int) != 1) = false by decide, bcase_false]
    have H2 := (H.new O1).new O2
    have OO := (O.trans O1 (by simp)).trans O2 (by simp)
    refine unp36 H2 (by omega) (fun e => by rw [oneF_at] at e; omega) fun _ h3 H3 O3 => ?_
    rw [ldI_some, show ((0 : Int) != 0) = false by decide, bcase_false, show IntKind.wrap .i64 (((n + 1 : Nat) : Int) - 1) = (n : Int) by rw [wrapN (by omega) (by omega)]; omega]
    rw [oneF_dn] at H3
    exact ih (N + 1) h3 (by omega) H3 (rf_M H2 hlo OO O3)
theorem up9 (hlo : h0.size ≤ lo) (hx : 0 ≤ x ∧ x ≤ 4294967295) {k : Nat} (hk : k ≤ 30) : ∀ (d i N : Nat) (h : Heap), i + d = k → N + d ≤ 100 → Rf1 lo h r M S N p c x i → Only [] h0 h → F9.wL7 (d + 1) (some ⟨r, 0, none⟩) x k ((i + 1 : Nat) : Int) h (Lawful h0) := by
  have hLB : LB = 140737488355328 := rfl
  intro d
  induction d with
  | zero =>
    intro i N h hd hN H O
    unfold F9.wL7 F9.JL7
    rw [show decide (((i + 1 : Nat) : Int) ≤ (k : Int)) = false by simp; omega, bcase_false]
    have : i = k := by omega
    subst this
    unfold F9.wk12 F9.Jk12 F9.wk13 F9.Jk13
    exact ⟨_, down9 hlo hx i N h (by omega) H O⟩
  | succ d ih =>
    intro i N h hd hN H O
    unfold F9.wL7 F9.JL7
    rw [show decide (((i + 1 : Nat) : Int) ≤ (k : Int)) = true by simp; omega, bcase_true]
    refine prot33 H hx (by omega) fun h1 H1 O1 => ⟨rfl, ?_⟩
    rw [oneF_up] at H1
    refine count34 H1 ?_
    rw [ldI_some, oneF_at, show (((i + 1 : Nat) : Int) != ((i + 1 : Nat) : Int)) = false by simp, bcase_false, show IntKind.wrap .i64 (((i + 1 : Nat) : Int) + 1) = ((i + 1 + 1 : Nat) : Int) by rw [wrapN (by omega) (by omega)]; omega]
    exact ih (i + 1) (N + 1) h1 (by omega) (by omega) H1 (rf_M H hlo O O1)
end
theorem refsCounts_heap {h : Heap} {x n : Int} (hx : 0 ≤ x ∧ x ≤ 4294967295) (hn : 0 ≤ n ∧ n ≤ 255) : CallsH Try.prog 9 [.int .u32 x, .int .u8 n] h (Lawful h) := by
  refine F9.spec _ _ h _ ?_
  have hLB : LB = 140737488355328 := rfl
  unfold F9.w F9.J0
  refine known27 fun h1 O1 => ?_
  rw [ldB_some, show (!true) = false from rfl, bcase_false]
  refine new28 fun h2 r M S H2 O2 => ?_
  rw [ldP_some]
  refine ⟨by decide, ?_⟩
  rw [show (wkI 1).toNat = 1 by decide] at H2
  obtain ⟨m, rfl⟩ : ∃ m : Nat, n = m := ⟨n.toNat, by omega⟩
  rw [Int.tmod_eq_emod_of_nonneg (by omega), wrapN (x := (m : Int) % 30) (by omega) (by omega), show IntKind.wrap .i64 ((m : Int) % 30 + 1) = ((m % 30 + 1 : Nat) : Int) by rw [wrapN (by omega) (by omega)]; omega]
  unfold F9.wk7 F9.Jk7
  rw [← oneF_0 x] at H2
  exact ⟨_, up9 (lo := h1.size) O1.size hx (k := m % 30 + 1) (by omega) (m % 30 + 1) 0 0 h2 (by omega) (by omega) H2 (O1.trans O2 (by simp))⟩
theorem rcounts_law (h : Heap) (x : Int) (hx : IntKind.min .u32 ≤ x ∧ x ≤ IntKind.max .u32) (n : Int) (hn : IntKind.min .u8 ≤ n ∧ n ≤ IntKind.max .u8) : CallsH Try.prog 9 [.int .u32 x, .int .u8 n] h (Lawful h) :=
  refsCounts_heap (by rw [show IntKind.min .u32 = 0 by decide, show IntKind.max .u32 = 4294967295 by decide] at hx; exact hx) (by rw [show IntKind.min .u8 = 0 by decide, show IntKind.max .u8 = 255 by decide] at hn; exact hn)
end Go.Proofs.Ytipckkeaoncjiaa.Ev
