/- RefsPlay, plain: a row of counts, sorted, and what it tells; one put in, counted once more, once less, taken out. Conditions: none. -/
import Derived.Test.YtipckkeaoncjiaaRefO
namespace Go.Proofs.Ytipckkeaoncjiaa.Ev
open Go

/-- the row tells f: its handles rise; just those that f counts, so often -/
structure MI (f : Int → Int) (M : List It) : Prop where
  up : M.Pairwise (fun a b => a.1 < b.1)
  mem : ∀ x, (∃ y ∈ M, y.1 = x) ↔ f x ≠ 0
  val : ∀ y ∈ M, y.2 = f y.1
theorem MI.flat {f : Int → Int} : ∀ {M : List It}, (∀ y ∈ M, y.2 = f y.1) → flat M = (M.map (·.1)).flatMap (cntV f)
  | [], _ => rfl
  | x :: M, h => by
    rw [List.map_cons, List.flatMap_cons, ← MI.flat (M := M) fun y hy => h y (by simp [hy])]
    show _ = cntV f x.1 ++ _
    unfold cntV
    rw [← h x (by simp)]
    rfl
theorem MI.ks {f : Int → Int} {M : List It} (H : MI f M) : (M.map (·.1)).Pairwise (· < ·) ∧ ∀ x, x ∈ M.map (·.1) ↔ f x ≠ 0 :=
  ⟨List.pairwise_map.2 H.up, fun x => by rw [← H.mem x, List.mem_map]⟩
section
variable {f : Int → Int} {A D : List It} {x v : Int}
theorem fup_same (f : Int → Int) (x v : Int) : fup f x v x = v := if_pos rfl
theorem fup_ne {y : Int} (h : y ≠ x) : fup f x v y = f y := if_neg h
theorem MI.ins (H : MI f (A ++ D)) (hA : ∀ y ∈ A, y.1 < x) (hD : ∀ y ∈ D, x < y.1) (hv : v ≠ 0) : MI (fup f x v) (A ++ (x, v) :: D) where
  up := by
    have := List.pairwise_append.1 H.up
    refine List.pairwise_append.2 ⟨this.1, List.pairwise_cons.2 ⟨fun y hy => hD y hy, this.2.1⟩, fun a ha b hb => ?_⟩
    rcases List.mem_cons.1 hb with rfl | hb
    · exact hA a ha
    · exact this.2.2 a ha b hb
  mem := fun z => by
    by_cases hz : z = x
    · subst hz
      rw [fup_same]
      exact ⟨fun _ => hv, fun _ => ⟨(z, v), by simp, rfl⟩⟩
    · rw [fup_ne hz, ← H.mem z]
      constructor
      · rintro ⟨y, hy, e⟩
        simp only [List.mem_append, List.mem_cons] at hy
        rcases hy with hy | rfl | hy
        · exact ⟨y, by simp [hy], e⟩
        · exact absurd e.symm hz
        · exact ⟨y, by simp [hy], e⟩
      · rintro ⟨y, hy, e⟩
        simp only [List.mem_append] at hy
        exact ⟨y, by rcases hy with hy | hy <;> simp [hy], e⟩
  val := fun y hy => by
    simp only [List.mem_append, List.mem_cons] at hy
    rcases hy with hy | rfl | hy
    · have := hA y hy
      rw [fup_ne (by omega)]
      exact H.val y (by simp [hy])
    · rw [fup_same]
    · have := hD y hy
      rw [fup_ne (by omega)]
      exact H.val y (by simp [hy])
theorem MI.del {n : Int} (H : MI f (A ++ (x, n) :: D)) : MI (fup f x 0) (A ++ D) ∧ (∀ y ∈ A, y.1 < x) ∧ ∀ y ∈ D, x < y.1 := by
  have P := List.pairwise_append.1 H.up
  have hA : ∀ y ∈ A, y.1 < x := fun y hy => P.2.2 y hy (x, n) (by simp)
  have hD : ∀ y ∈ D, x < y.1 := fun y hy => (List.pairwise_cons.1 P.2.1).1 y hy
  refine ⟨⟨List.pairwise_append.2 ⟨P.1, (List.pairwise_cons.1 P.2.1).2, fun a ha b hb => P.2.2 a ha b (by simp [hb])⟩, fun z => ?_, fun y hy => ?_⟩, hA, hD⟩
  · by_cases hz : z = x
    · subst hz
      rw [fup_same]
      constructor
      · rintro ⟨y, hy, e⟩
        simp only [List.mem_append] at hy
        rcases hy with hy | hy
        · have := hA y hy; omega
        · have := hD y hy; omega
      · intro h; exact absurd rfl h
    · rw [fup_ne hz, ← H.mem z]
      constructor
      · rintro ⟨y, hy, e⟩
        simp only [List.mem_append] at hy
        exact ⟨y, by rcases hy with hy | hy <;> simp [hy], e⟩
      · rintro ⟨y, hy, e⟩
        simp only [List.mem_append, List.mem_cons] at hy
        rcases hy with hy | rfl | hy
        · exact ⟨y, by simp [hy], e⟩
        · exact absurd e.symm hz
        · exact ⟨y, by simp [hy], e⟩
  · simp only [List.mem_append] at hy
    rcases hy with hy | hy
    · have := hA y hy
      rw [fup_ne (by omega)]
      exact H.val y (by simp [hy])
    · have := hD y hy
      rw [fup_ne (by omega)]
      exact H.val y (by simp [hy])
theorem fup_fup (f : Int → Int) (x a b : Int) : fup (fup f x a) x b = fup f x b := by
  funext y
  unfold fup
  split <;> rfl
theorem MI.set {n : Int} (H : MI f (A ++ (x, n) :: D)) (hv : v ≠ 0) : MI (fup f x v) (A ++ (x, v) :: D) := by
  obtain ⟨H', hA, hD⟩ := H.del
  have := H'.ins hA hD hv
  rwa [fup_fup] at this
end
/-- where a handle lies, or would lie -/
theorem MI.place {f : Int → Int} {M : List It} (H : MI f M) {a : Nat} {x : Int} (ha : a ≤ M.length) (h1 : ∀ j, j < a → (atL M j).1 < x) (h2 : a = M.length ∨ x ≤ (atL M a).1) :
    (a < M.length ∧ (atL M a).1 = x ∧ f x ≠ 0 ∧ M = M.take a ++ (x, f x) :: M.drop (a + 1)) ∨
    (¬ (a < M.length ∧ (atL M a).1 = x) ∧ f x = 0 ∧ (∀ y ∈ M.take a, y.1 < x) ∧ ∀ y ∈ M.drop a, x < y.1) := by
  have hA : ∀ y ∈ M.take a, y.1 < x := fun y hy => by
    obtain ⟨j, hj, e⟩ := List.getElem_of_mem hy
    rw [List.length_take] at hj
    rw [List.getElem_take] at e
    have := h1 j (by omega)
    rw [show atL M j = M[j] by simp [atL, List.getD, show j < M.length by omega], e] at this
    exact this
  by_cases ht : a < M.length ∧ (atL M a).1 = x
  · refine .inl ⟨ht.1, ht.2, ?_, ?_⟩
    · rw [← H.mem]
      exact ⟨atL M a, by simp [atL, List.getD, ht.1], ht.2⟩
    · have e : M[a]'ht.1 = (x, f x) := by
        have v := H.val (M[a]'ht.1) (List.getElem_mem _)
        have e0 : atL M a = M[a]'ht.1 := by simp [atL, List.getD, ht.1]
        rw [e0] at ht
        rw [ht.2] at v
        exact Prod.ext ht.2 v
      rw [← e, List.getElem_cons_drop, List.take_append_drop]
  · have hD : ∀ y ∈ M.drop a, x < y.1 := fun y hy => by
      obtain ⟨j, hj, e⟩ := List.getElem_of_mem hy
      rw [List.length_drop] at hj
      rw [List.getElem_drop] at e
      have hlt : a < M.length := by omega
      have e0 : atL M a = M[a]'hlt := by simp [atL, List.getD, hlt]
      rcases h2 with h2 | h2
      · omega
      · have hne : (atL M a).1 ≠ x := fun e => ht ⟨hlt, e⟩
        by_cases hj0 : j = 0
        · subst hj0
          have : y = atL M a := by rw [e0, ← e]; simp
          rw [this]; omega
        · have := (List.pairwise_iff_getElem.1 H.up) a (a + j) hlt (by omega) (by omega)
          rw [e, ← e0] at this
          omega
    refine .inr ⟨ht, ?_, hA, hD⟩
    apply Classical.byContradiction
    intro hf
    obtain ⟨y, hy, e⟩ := (H.mem x).2 hf
    rw [← List.take_append_drop a M] at hy
    rcases List.mem_append.1 hy with hy | hy
    · have := hA y hy; omega
    · have := hD y hy; omega
theorem insM_set {M : List It} {a : Nat} {x v w : Int} (ha : a ≤ M.length) : (insM M a (x, v)).set a (x, w) = insM M a (x, w) := by
  unfold insM
  rw [List.set_append_right _ _ (by simp; omega)]
  simp [Nat.min_eq_left ha]
theorem insM_at {M : List It} {a : Nat} {x : It} (ha : a ≤ M.length) : atL (insM M a x) a = x := by
  unfold insM atL
  rw [List.getD_eq_getElem?_getD, List.getElem?_append_right (by simp; omega)]
  simp [Nat.min_eq_left ha]
theorem set_mid {M : List It} {a : Nat} {x n w : Int} (ha : a < M.length) (e : M = M.take a ++ (x, n) :: M.drop (a + 1)) : M.set a (x, w) = M.take a ++ (x, w) :: M.drop (a + 1) := by
  conv => lhs; rw [e]
  rw [List.set_append_right _ _ (by simp; omega)]
  simp [Nat.min_eq_left (Nat.le_of_lt ha)]
section
variable {h : Heap} {lo : Nat} {q : Option Addr} {qc : Nat} {M : List It}
theorem Own.atF (H : Own h lo 2 q M.length qc (flat M)) {j : Nat} (hj : j < M.length) : ∃ b, q = some ⟨b, 0, none⟩ ∧ Ev.rd h ⟨b, j * 2 + 0, none⟩ = some (.int .u32 (atL M j).1) ∧ Ev.rd h ⟨b, j * 2 + 1, none⟩ = some (.int .i64 (atL M j).2) := by
  have hl := flat_len M
  obtain ⟨b, hp, hr⟩ := H.rd (j := j * 2) (by omega)
  obtain ⟨b', hp', hr'⟩ := H.rd (j := j * 2 + 1) (by omega)
  rw [hp] at hp'
  injection hp' with e
  injection e with e
  subst e
  exact ⟨b, hp, by rw [Nat.add_zero, hr, flat_get0 hj], by rw [hr', flat_get1 hj]⟩
theorem Own.ld0 (H : Own h lo 2 q M.length qc (flat M)) {x : Int} {j : Nat} (hx : x = j) (hj : j < M.length) {Q : Int → Prop} (hQ : Q (atL M j).1) :
    ptrK q fun a => (0 ≤ x ∧ x < (M.length : Int) ∧ ldI .u32 (Ev.rd h (Addr.add (Addr.add a (Int.toNat x * 2)) 0)) Q) := by
  subst hx
  obtain ⟨b, hp, h1, h2⟩ := H.atF hj
  rw [hp, ptrK_some]
  refine ⟨by omega, by omega, ?_⟩
  rw [add_mk, add_mk, Int.toNat_natCast, Nat.zero_add, h1, ldI_some]
  exact hQ
theorem Own.ld1 (H : Own h lo 2 q M.length qc (flat M)) {x : Int} {j : Nat} (hx : x = j) (hj : j < M.length) {Q : Int → Prop} (hQ : Q (atL M j).2) :
    ptrK q fun a => (0 ≤ x ∧ x < (M.length : Int) ∧ ldI .i64 (Ev.rd h (Addr.add (Addr.add a (Int.toNat x * 2)) 1)) Q) := by
  subst hx
  obtain ⟨b, hp, h1, h2⟩ := H.atF hj
  rw [hp, ptrK_some]
  refine ⟨by omega, by omega, ?_⟩
  rw [add_mk, add_mk, Int.toNat_natCast, Nat.zero_add, h2, ldI_some]
  exact hQ
theorem Own.st1 (H : Own h lo 2 q M.length qc (flat M)) {x : Int} {j : Nat} (hx : x = j) (hj : j < M.length) {v : Int} {K : Heap → Prop}
    (hK : ∀ h', Own h' lo 2 q (M.set j ((atL M j).1, v)).length qc (flat (M.set j ((atL M j).1, v))) → Only (OwnB q) h h' → K h') :
    ptrK q fun a => (0 ≤ x ∧ x < (M.length : Int) ∧ stK h (Addr.add (Addr.add (Addr.add a (Int.toNat x * 2)) 1) 0) (.int .i64 v) K) := by
  subst hx
  obtain ⟨b, hp, h1, h2⟩ := H.atF hj
  have hl := flat_len M
  subst hp
  rw [ptrK_some]
  refine ⟨by omega, by omega, ?_⟩
  rw [add_mk, add_mk, add_mk, Int.toNat_natCast, Nat.zero_add, Nat.add_zero]
  refine H.set (by omega) rfl fun h' H' O' => hK h' ?_ O'
  rw [flat_set1] at H'
  rw [List.length_set]
  exact H'
end
end Go.Proofs.Ytipckkeaoncjiaa.Ev
