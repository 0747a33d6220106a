/- SORTING IN PLACE, plainly: rows of numbers, swaps, what is kept by swaps within a part; one step of an insertion. Conditions: none. -/
import Derived.Test.YtipckkeaoncjiaaEvL
namespace Go.Proofs.Ytipckkeaoncjiaa.Ev
open Go

def swp (g : Nat → Int) (i j : Nat) : Nat → Int := fun k => if k = j then g i else if k = i then g j else g k
inductive Swp (a b : Nat) : (Nat → Int) → (Nat → Int) → Prop
  | refl (g : Nat → Int) : Swp a b g g
  | step {g g' : Nat → Int} {i j : Nat} : a ≤ i → i < b → a ≤ j → j < b → Swp a b (swp g i j) g' → Swp a b g g'
theorem Swp.trans {a b : Nat} {f g k : Nat → Int} (H : Swp a b f g) (G : Swp a b g k) : Swp a b f k := by
  induction H with
  | refl _ => exact G
  | step h1 h2 h3 h4 _ ih => exact .step h1 h2 h3 h4 (ih G)
theorem Swp.one {a b i j : Nat} (g : Nat → Int) (h1 : a ≤ i) (h2 : i < b) (h3 : a ≤ j) (h4 : j < b) : Swp a b g (swp g i j) := .step h1 h2 h3 h4 (.refl _)
theorem Swp.mono {a b a' b' : Nat} {f g : Nat → Int} (H : Swp a b f g) (ha : a' ≤ a) (hb : b ≤ b') : Swp a' b' f g := by
  induction H with
  | refl g => exact .refl g
  | step h1 h2 h3 h4 _ ih => exact .step (by omega) (by omega) (by omega) (by omega) ih
theorem Swp.out {a b : Nat} {f g : Nat → Int} (H : Swp a b f g) {k : Nat} (hk : k < a ∨ b ≤ k) : g k = f k := by
  induction H with
  | refl g => rfl
  | step h1 h2 h3 h4 _ ih =>
    rw [ih]
    unfold swp
    rw [if_neg (by omega), if_neg (by omega)]
theorem Swp.all {a b : Nat} {f g : Nat → Int} (H : Swp a b f g) {Q : Int → Prop} (h : ∀ k, a ≤ k → k < b → Q (f k)) : ∀ k, a ≤ k → k < b → Q (g k) := by
  induction H with
  | refl g => exact h
  | @step g g' i j h1 h2 h3 h4 _ ih =>
    apply ih
    intro k hk1 hk2
    unfold swp
    split
    · exact h i h1 h2
    · split
      · exact h j h3 h4
      · exact h k hk1 hk2
theorem Swp.perm {a b n : Nat} {f g : Nat → Int} (H : Swp a b f g) (hb : b ≤ n) : ((List.range n).map g).Perm ((List.range n).map f) := by
  induction H with
  | refl g => exact List.Perm.refl _
  | @step g g' i j h1 h2 h3 h4 _ ih =>
    refine ih.trans ?_
    have e : (List.range n).map (swp g i j) = ((List.range n).map fun k => if k = j then i else if k = i then j else k).map g := by
      rw [List.map_map]
      apply List.map_congr_left
      intro k _
      simp only [Function.comp, swp]
      split
      · rfl
      · split <;> rfl
    rw [e]
    refine List.Perm.map g ?_
    refine (List.perm_ext_iff_of_nodup ?_ List.nodup_range).2 fun k => ?_
    · refine List.Pairwise.map _ (fun x y (hxy : x ≠ y) => ?_) List.nodup_range
      (repeat' split) <;> omega
    · rw [List.mem_map]
      constructor
      · rintro ⟨x, hx, rfl⟩
        rw [List.mem_range] at hx ⊢
        split
        · omega
        · split <;> omega
      · intro hk
        rw [List.mem_range] at hk
        by_cases h : k = j
        · exact ⟨i, by rw [List.mem_range]; omega, by by_cases h' : i = j <;> simp [h, h']⟩
        · by_cases h' : k = i
          · exact ⟨j, by rw [List.mem_range]; omega, by simp [h']⟩
          · exact ⟨k, by rw [List.mem_range]; omega, by simp [h, h']⟩
/-- rising -/
def Srt (a b : Nat) (g : Nat → Int) : Prop := ∀ p q, a ≤ p → p < q → q < b → g p ≤ g q
theorem Srt.of_adj {a b : Nat} {g : Nat → Int} (H : ∀ p, a ≤ p → p + 1 < b → g p ≤ g (p + 1)) : Srt a b g := by
  intro p q ha hpq hq
  obtain ⟨d, rfl⟩ := Nat.exists_eq_add_of_lt hpq
  induction d with
  | zero => exact H p ha hq
  | succ d ih => exact Int.le_trans (ih (by omega) (by omega)) (H (p + d + 1) (by omega) hq)
theorem Srt.single {a b : Nat} (g : Nat → Int) (h : b ≤ a + 1) : Srt a b g := fun p q _ _ _ => by omega
/-- all in their order but the one at j, which may have to go further down -/
def Ins (a i j : Nat) (g : Nat → Int) : Prop := ∀ p q, a ≤ p → p < q → q ≤ i → q ≠ j → g p ≤ g q
theorem Ins.start {a i : Nat} {g : Nat → Int} (H : Srt a i g) : Ins a i i g := fun p q h1 h2 h3 h4 => H p q h1 h2 (by omega)
theorem Ins.stop {a i j : Nat} {g : Nat → Int} (H : Ins a i j g) (h : j ≤ a ∨ g (j - 1) ≤ g j) : Srt a (i + 1) g := fun p q h1 h2 h3 => by
  by_cases hq : q = j
  · subst hq
    rcases h with h | h
    · omega
    · by_cases hp : p = q - 1
      · subst hp; exact h
      · exact Int.le_trans (H p (q - 1) h1 (by omega) (by omega) (by omega)) h
  · exact H p q h1 h2 (by omega) hq
theorem swp_i (g : Nat → Int) (i j : Nat) : swp g i j i = g j := by
  unfold swp
  by_cases h : i = j
  · rw [if_pos h, h]
  · rw [if_neg h, if_pos rfl]
theorem swp_j (g : Nat → Int) (i j : Nat) : swp g i j j = g i := if_pos rfl
theorem swp_o (g : Nat → Int) {i j k : Nat} (hi : k ≠ i) (hj : k ≠ j) : swp g i j k = g k := by
  unfold swp
  rw [if_neg hj, if_neg hi]
theorem Ins.step {a i j : Nat} {g : Nat → Int} (H : Ins a i j g) (hj : a < j) (hji : j ≤ i) (hl : g j < g (j - 1)) : Ins a i (j - 1) (swp g j (j - 1)) := fun p q h1 h2 h3 h4 => by
  by_cases hq : q = j
  · subst hq
    rw [swp_i]
    by_cases hp : p = q - 1
    · subst hp
      rw [swp_j]
      omega
    · rw [swp_o g (by omega) hp]
      exact H p (q - 1) h1 (by omega) (by omega) (by omega)
  · rw [swp_o g hq h4]
    by_cases hp : p = j
    · subst hp
      rw [swp_i]
      exact H (p - 1) q (by omega) (by omega) h3 hq
    · by_cases hp' : p = j - 1
      · subst hp'
        rw [swp_j]
        exact H j q (by omega) (by omega) h3 hq
      · rw [swp_o g hp hp']
        exact H p q h1 h2 h3 hq

/-- block b holds these numbers, and more -/
def Arr (q : IntKind) (h : Heap) (b n : Nat) (g : Nat → Int) (sp : List Value) : Prop := At h b (rowV n (fun k => .int q (g k)) ++ sp)
theorem Arr.rd {q : IntKind} {h : Heap} {b n : Nat} {g : Nat → Int} {sp : List Value} (A : Arr q h b n g sp) {k : Nat} (hk : k < n) : Ev.rd h ⟨b, k, none⟩ = some (.int q (g k)) := by
  rw [At.rd A, List.getElem?_append_left (by rw [rowV_len]; exact hk), rowV_get hk]
theorem Arr.only {q : IntKind} {h h' : Heap} {b n : Nat} {g : Nat → Int} {sp : List Value} (A : Arr q h b n g sp) {S : List Nat} (O : Only S h h') (hb : b ∉ S) : Arr q h' b n g sp := At.only A O hb
theorem Arr.st {q : IntKind} {h : Heap} {b n : Nat} {g : Nat → Int} {sp : List Value} (A : Arr q h b n g sp) {k : Nat} (hk : k < n) {v : Int} {K : Heap → Prop}
    (hK : ∀ h', Arr q h' b n (fun j => if j = k then v else g j) sp → Only [b] h h' → K h') : stK h ⟨b, k, none⟩ (.int q v) K :=
  stK_at A (by simp [rowV_len]; omega) rfl fun h' A' O' _ => hK h' (by
    have e : (rowV n (fun j => Value.int q (g j)) ++ sp).set k (.int q v) = rowV n (fun j => Value.int q (if j = k then v else g j)) ++ sp := by
      rw [List.set_append_left _ _ (by rw [rowV_len]; exact hk), rowV_set]
      congr 1
      apply rowV_ext
      intro j _
      split <;> rfl
    rw [e] at A'
    exact A') O'
theorem Arr.ld {q : IntKind} {h : Heap} {b n : Nat} {g : Nat → Int} {sp : List Value} (A : Arr q h b n g sp) {x : Int} {k : Nat} (hx : x = k) (hk : k < n) {Q : Int → Prop} (hQ : Q (g k)) :
    ptrK (some ⟨b, 0, none⟩) fun a => (0 ≤ x ∧ x < (n : Int) ∧ ldI q (Ev.rd h (Addr.add a (Int.toNat x * 1))) Q) := by
  subst hx
  rw [ptrK_some]
  refine ⟨by omega, by omega, ?_⟩
  rw [add_mk, show 0 + Int.toNat (k : Int) * 1 = k by omega, A.rd hk, ldI_some]
  exact hQ
theorem Arr.sto {q : IntKind} {h : Heap} {b n : Nat} {g : Nat → Int} {sp : List Value} (A : Arr q h b n g sp) {x : Int} {k : Nat} (hx : x = k) (hk : k < n) {v : Int} {K : Heap → Prop}
    (hK : ∀ h', Arr q h' b n (fun j => if j = k then v else g j) sp → Only [b] h h' → K h') :
    ptrK (some ⟨b, 0, none⟩) fun a => (0 ≤ x ∧ x < (n : Int) ∧ stK h (Addr.add (Addr.add a (Int.toNat x * 1)) 0) (.int q v) K) := by
  subst hx
  rw [ptrK_some]
  refine ⟨by omega, by omega, ?_⟩
  rw [add_mk, add_mk, show 0 + Int.toNat (k : Int) * 1 + 0 = k by omega]
  exact A.st hk hK
theorem set2 (g : Nat → Int) (i j : Nat) : (fun k => if k = j then g i else (fun k => if k = i then g j else g k) k) = swp g i j := rfl
end Go.Proofs.Ytipckkeaoncjiaa.Ev
