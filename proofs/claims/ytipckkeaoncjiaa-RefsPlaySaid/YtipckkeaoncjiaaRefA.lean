/- ROWS: neighbours that are alike put together (slices.Compact). Conditions: the row stands (Arr), rising. -/
import Derived.Test.YtipckkeaoncjiaaSrtK
namespace Go.Proofs.Ytipckkeaoncjiaa.Ev
open Go

theorem Arr.ldo {q : IntKind} {h : Heap} {b n : Nat} {g : Nat → Int} {sp : List Value} (A : Arr q h b n g sp) {o l : Nat} {x : Int} {k : Nat} (hx : x = k) (hk : k < l) (hn : o + k < n) {Q : Int → Prop} (hQ : Q (g (o + k))) :
    ptrK (some ⟨b, o, none⟩) fun a => (0 ≤ x ∧ x < (l : Int) ∧ ldI q (Ev.rd h (Addr.add a (Int.toNat x * 1))) Q) := by
  subst hx
  rw [ptrK_some]
  refine ⟨by omega, by omega, ?_⟩
  rw [add_mk, show o + Int.toNat (k : Int) * 1 = o + k by omega, A.rd hn, ldI_some]
  exact hQ
theorem Arr.clr {q : IntKind} {h : Heap} {b n : Nat} {g : Nat → Int} {sp : List Value} (A : Arr q h b n g sp) {k c m : Nat} (hk : k ≤ n) (hm : m = n - k) (hc : n ≤ c) {K : Heap → Prop}
    (hK : ∀ h' sp', Arr q h' b k g sp' → sp'.length = n - k + sp.length → Only [b] h h' → K h') :
    clrK h #[.int q 0] (if c = k then some ⟨b, 0, none⟩ else Option.map (fun a => Addr.add a (k * 1)) (some ⟨b, 0, none⟩)) m K := by
  subst hm
  have e0 : rowV n (fun k => Value.int q (g k)) = rowV k (fun k => Value.int q (g k)) ++ (rowV n (fun k => Value.int q (g k))).drop k := by
    conv => lhs; rw [← List.take_append_drop k (rowV n (fun k => Value.int q (g k)))]
    congr 1
    apply List.ext_getElem?
    intro i
    by_cases hi : i < k
    · rw [List.getElem?_take_of_lt hi, rowV_get (by omega), rowV_get hi]
    · rw [List.getElem?_eq_none (by simp [rowV_len]; omega), List.getElem?_eq_none (by simp [rowV_len]; omega)]
  by_cases hck : c = k
  · rw [if_pos hck]
    have : n - k = 0 := by omega
    unfold clrK
    rw [this]
    have hz : (Builtin.zeroCells #[Value.int q 0] 0).toList = [] := by simp [Builtin.zeroCells]
    dsimp only
    rw [hz]
    unfold stL
    have : n = k := by omega
    subst this
    exact hK h sp A (by omega) (Only.refl _ _)
  · rw [if_neg hck, Option.map_some, add_mk]
    unfold clrK
    simp only [Nat.zero_add, Nat.mul_one]
    have hz : (Builtin.zeroCells #[Value.int q 0] (n - k)).toList.length = n - k := by rw [size_zeroCells]; simp
    refine stL_own _ 0 _ h A (by rw [hz, List.length_append, rowV_len]; omega) (fun v hv => ?_) fun h' A' O' _ => ?_
    · simp [Builtin.zeroCells] at hv
      obtain ⟨i, _, rfl⟩ := hv
      rw [Nat.mod_one]
      rfl
    · refine hK h' ((Builtin.zeroCells #[Value.int q 0] (n - k)).toList ++ (rowV n (fun k => Value.int q (g k)) ++ sp).drop (k + (n - k))) ?_ ?_ O'
      · have e1 : (rowV n (fun k => Value.int q (g k)) ++ sp).take k = rowV k (fun k => Value.int q (g k)) := by
          rw [e0, List.append_assoc, List.take_append_of_le_length (by rw [rowV_len]; exact Nat.le_refl _), List.take_of_length_le (by rw [rowV_len]; exact Nat.le_refl _)]
        rw [Nat.add_zero, hz, e1, List.append_assoc] at A'
        exact A'
      · rw [List.length_append, hz, List.length_drop, List.length_append, rowV_len]
        omega
/-- the first k of g': what the first j of g are, each once, rising -/
structure Cmp (n k j : Nat) (g g' : Nat → Int) : Prop where
  k1 : 1 ≤ k
  kj : k ≤ j
  up : ∀ p q, p < q → q < k → g' p < g' q
  fw : ∀ p, p < k → ∃ q, q < j ∧ g' p = g q
  bw : ∀ q, q < j → ∃ p, p < k ∧ g' p = g q
  last : g' (k - 1) = g (j - 1)
  rest : ∀ i, j ≤ i + 1 → i < n → k ≤ i → g' i = g i
theorem Cmp.same {n k j : Nat} {g g' : Nat → Int} (H : Cmp n k j g g') (h : g j = g (j - 1)) (hk : k ≤ j) : Cmp n k (j + 1) g g' where
  k1 := H.k1
  kj := by omega
  up := H.up
  fw := fun p hp => by
    obtain ⟨q, h1, h2⟩ := H.fw p hp
    exact ⟨q, by omega, h2⟩
  bw := fun q hq => by
    by_cases e : q = j
    · subst e
      exact ⟨k - 1, by have := H.k1; omega, by rw [H.last, h]⟩
    · exact H.bw q (by omega)
  last := by rw [H.last, show j + 1 - 1 = j by omega, h]
  rest := fun i h1 h2 h3 => H.rest i (by omega) h2 h3
theorem Cmp.new {n k j : Nat} {g g' : Nat → Int} (H : Cmp n k j g g') (h : g (j - 1) < g j) (hj : j < n) : Cmp n (k + 1) (j + 1) g (fun i => if i = k then g j else g' i) where
  k1 := by omega
  kj := by have := H.kj; omega
  up := fun p q h1 h2 => by
    rw [if_neg (by omega : p ≠ k)]
    by_cases hq : q = k
    · rw [if_pos hq]
      have l := H.last
      by_cases hp : p = k - 1
      · rw [hp, l]; exact h
      · have := H.up p (k - 1) (by omega) (by omega)
        rw [l] at this
        exact Int.lt_trans this h
    · rw [if_neg hq]
      exact H.up p q h1 (by omega)
  fw := fun p hp => by
    by_cases e : p = k
    · exact ⟨j, by omega, by rw [if_pos e]⟩
    · obtain ⟨q, h1, h2⟩ := H.fw p (by omega)
      exact ⟨q, by omega, by rw [if_neg e]; exact h2⟩
  bw := fun q hq => by
    by_cases e : q = j
    · subst e
      exact ⟨k, by omega, by rw [if_pos rfl]⟩
    · obtain ⟨p, h1, h2⟩ := H.bw q (by omega)
      exact ⟨p, by omega, by rw [if_neg (by omega)]; exact h2⟩
  last := by rw [show k + 1 - 1 = k by omega, if_pos rfl, show j + 1 - 1 = j by omega]
  rest := fun i h1 h2 h3 => by
    rw [if_neg (by omega)]
    exact H.rest i (by omega) h2 (by omega)
section
variable {b n c : Nat} {g : Nat → Int} {K : Value → Heap → Prop}
theorem end51 {h0 h : Heap} {k : Nat} {g' : Nat → Int} {sp : List Value} {bk : (Option Addr) → Nat → Nat → Int → Heap → Prop} (A : Arr .u32 h b n g' sp) (hk : k ≤ n) (hc : n ≤ c) (hn : n ≤ LB / 4) (O : Only [b] h0 h)
    (hK : ∀ h' sp', Arr .u32 h' b k g' sp' → sp'.length = n - k + sp.length → Only [b] h0 h' → K (.slice (some ⟨b, 0, none⟩) k c) h') : F51.wk14 bk (some ⟨b, 0, none⟩) n c k h K := by
  unfold F51.wk14 F51.Jk14
  refine ⟨by omega, by omega, ?_⟩
  rw [Int.toNat_natCast]
  refine A.clr hk rfl hc fun h' sp' A' hl O' => ⟨by omega, by omega, ?_⟩
  have e : (if c = 0 then (some (⟨b, 0, none⟩ : Addr)) else Option.map (fun a => Addr.add a (0 * 1)) (some ⟨b, 0, none⟩)) = some ⟨b, 0, none⟩ := by
    split
    · rfl
    · simp
  rw [e]
  exact hK h' sp' A' hl (O.trans O' (by simp))
theorem in51 {sp : List Value} {bk : (Option Addr) → Nat → Nat → Int → Heap → Prop} {k0 : Nat} (hc : n ≤ c) (hn : n ≤ LB / 4) (R : Srt 0 n g) (h0 : 1 ≤ k0) {hh : Heap} :
    ∀ (d k2 k : Nat) (g' : Nat → Int) (h : Heap), k0 + k2 + d = n → 1 ≤ k2 → Arr .u32 h b n g' sp → Cmp n k (k0 + k2) g g' → k0 ≤ k → k < k0 + k2 → Only [b] hh h →
      (∀ h' k' g'' sp', Arr .u32 h' b k' g'' sp' → sp'.length = n - k' + sp.length → Cmp n k' n g g'' → k' ≤ n → Only [b] hh h' → K (.slice (some ⟨b, 0, none⟩) k' c) h') →
      F51.wL9 bk (d + 1) (some ⟨b, 0, none⟩) n c k (some ⟨b, k0, none⟩) (n - k0) (c - k0) k2 h K := by
  intro d
  have hLB : LB = 140737488355328 := rfl
  induction d with
  | zero =>
    intro k2 k g' h hd h2 A C hk hk' O hK
    unfold F51.wL9 F51.JL9
    rw [show decide ((k2 : Int) < ((n - k0 : Nat) : Int)) = false by simp; omega, bcase_false]
    rw [show k0 + k2 = n by omega] at C
    exact end51 A (by omega) hc hn O fun h' sp' A' hl O' => hK h' k g' sp' A' hl C (by omega) O'
  | succ d ih =>
    intro k2 k g' h hd h2 A C hk hk' O hK
    unfold F51.wL9 F51.JL9
    rw [show decide ((k2 : Int) < ((n - k0 : Nat) : Int)) = true by simp; omega, bcase_true, show IntKind.wrap .i64 ((k2 : Int) - 1) = ((k2 - 1 : Nat) : Int) by rw [wrapN (by omega) (by omega)]; omega,
      show IntKind.wrap .i64 ((k2 : Int) + 1) = ((k2 + 1 : Nat) : Int) by rw [wrapN (by omega) (by omega)]; omega]
    refine A.ldo rfl (by omega) (by omega) (A.ldo rfl (by omega) (by omega) ?_)
    rw [C.rest (k0 + k2) (by omega) (by omega) (by omega)]
    by_cases hkk : k ≤ k0 + (k2 - 1)
    · have e1 : g' (k0 + (k2 - 1)) = g (k0 + k2 - 1) := by rw [C.rest (k0 + (k2 - 1)) (by omega) (by omega) hkk, show k0 + (k2 - 1) = k0 + k2 - 1 by omega]
      rw [e1]
      refine bcase_of (fun hc1 => ?_) fun hc1 => ?_
      · simp only [bne_iff_ne, ne_eq] at hc1
        refine A.ldo rfl (by omega) (by omega) (A.sto rfl (by omega) fun h1 A1 O1 => ?_)
        rw [C.rest (k0 + k2) (by omega) (by omega) (by omega)] at A1
        rw [show IntKind.wrap .i64 ((k : Int) + 1) = ((k + 1 : Nat) : Int) by rw [wrapN (by omega) (by omega)]; omega]
        have lt : g (k0 + k2 - 1) < g (k0 + k2) := by
          have := R (k0 + k2 - 1) (k0 + k2) (by omega) (by omega) (by omega)
          omega
        exact ih (k2 + 1) (k + 1) _ h1 (by omega) (by omega) A1 (C.new lt (by omega)) (by omega) (by omega) (O.trans O1 (by simp)) hK
      · have hc1' : g (k0 + k2) = g (k0 + k2 - 1) := by simpa using hc1
        exact ih (k2 + 1) k g' h (by omega) (by omega) A (C.same hc1' (by omega)) hk (by omega) O hK
    · have : k = k0 + k2 := by omega
      omega
theorem out51 {sp : List Value} (hc : n ≤ c) (hn : n ≤ LB / 4) (R : Srt 0 n g) {h : Heap} (A : Arr .u32 h b n g sp) : ∀ (d k : Nat), k + d = n → 1 ≤ k → Cmp n k k g g →
      (∀ h' k' g'' sp', Arr .u32 h' b k' g'' sp' → sp'.length = n - k' + sp.length → Cmp n k' n g g'' → k' ≤ n → Only [b] h h' → K (.slice (some ⟨b, 0, none⟩) k' c) h') →
      F51.wL4 (d + 1) (some ⟨b, 0, none⟩) n c k h K := by
  intro d
  have hLB : LB = 140737488355328 := rfl
  induction d with
  | zero =>
    intro k hd h1 C hK
    unfold F51.wL4 F51.JL4
    rw [show decide ((k : Int) < (n : Int)) = false by simp; omega, bcase_false]
    have : k = n := by omega
    subst this
    exact hK h k g sp A (by omega) C (Nat.le_refl _) (Only.refl _ _)
  | succ d ih =>
    intro k hd h1 C hK
    unfold F51.wL4 F51.JL4
    rw [show decide ((k : Int) < (n : Int)) = true by simp; omega, bcase_true, show IntKind.wrap .i64 ((k : Int) - 1) = ((k - 1 : Nat) : Int) by rw [wrapN (by omega) (by omega)]; omega]
    refine A.ld rfl (by omega) (A.ld rfl (by omega) ?_)
    refine bcase_of (fun he => ?_) fun he => ?_
    · have he' : g k = g (k - 1) := by simpa using he
      refine ⟨by omega, by omega, ?_⟩
      unfold F51.wk9 F51.Jk9
      rw [Int.toNat_natCast, if_neg (by omega), Option.map_some, add_mk, Nat.zero_add, Nat.mul_one]
      exact ⟨_, in51 hc hn R h1 (n - (k + 1)) 1 k g h (by omega) (Nat.le_refl _) A (C.same he' (Nat.le_refl _)) (Nat.le_refl _) (by omega) (Only.refl _ _) hK⟩
    · have he' : ¬ g k = g (k - 1) := by simpa using he
      rw [show IntKind.wrap .i64 ((k : Int) + 1) = ((k + 1 : Nat) : Int) by rw [wrapN (by omega) (by omega)]; omega]
      have lt : g (k - 1) < g k := by
        have := R (k - 1) k (by omega) (by omega) (by omega)
        omega
      have C' := C.new lt (by omega)
      rw [show (fun i => if i = k then g k else g i) = g by funext i; by_cases e : i = k <;> simp [e]] at C'
      exact ih (k + 1) (by omega) (by omega) C' hK
/-- slices.Compact of what is in order -/
theorem cmp51 {h : Heap} {sp : List Value} (A : Arr .u32 h b n g sp) (hc : n ≤ c) (hn : n ≤ LB / 4) (R : Srt 0 n g)
    (hK : ∀ h' k g' sp', Arr .u32 h' b k g' sp' → sp'.length = n - k + sp.length → k ≤ n → (∀ p q, p < q → q < k → g' p < g' q) → (∀ p, p < k → ∃ q, q < n ∧ g' p = g q) → (∀ q, q < n → ∃ p, p < k ∧ g' p = g q) → Only [b] h h' → K (.slice (some ⟨b, 0, none⟩) k c) h') :
    CallsH Try.prog 51 [.slice (some ⟨b, 0, none⟩) n c] h K := by
  refine F51.spec _ _ _ h K ?_
  unfold F51.w F51.J0
  refine bcase_of (fun h2 => ?_) fun h2 => ?_
  · simp only [decide_eq_true_eq] at h2
    exact hK h n g sp A (by omega) (Nat.le_refl _) (fun p q _ _ => by omega) (fun p hp => ⟨p, hp, rfl⟩) (fun q hq => ⟨q, hq, rfl⟩) (Only.refl _ _)
  · simp only [decide_eq_false_iff_not] at h2
    unfold F51.wk4 F51.Jk4
    exact ⟨_, out51 hc hn R A (n - 1) 1 (by omega) (Nat.le_refl _) ⟨Nat.le_refl _, Nat.le_refl _, fun p q _ _ => by omega, fun p hp => ⟨p, hp, rfl⟩, fun q hq => ⟨q, hq, rfl⟩, rfl, fun i _ _ _ => rfl⟩
      fun h' k g' sp' A' hl C hk O' => hK h' k g' sp' A' hl hk C.up C.fw C.bw O'⟩
end
theorem cmp51nil {h : Heap} {c : Nat} {p : Option Addr} {K : Value → Heap → Prop} (hK : K (.slice p 0 c) h) : CallsH Try.prog 51 [.slice p 0 c] h K := by
  refine F51.spec _ _ _ h K ?_
  unfold F51.w F51.J0
  rw [show decide (((0 : Nat) : Int) < 2) = true by decide, bcase_true]
  exact hK
end Go.Proofs.Ytipckkeaoncjiaa.Ev
