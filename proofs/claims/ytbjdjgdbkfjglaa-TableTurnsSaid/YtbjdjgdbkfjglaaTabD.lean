/- THE TABLE, more: At, Len, Has, Clear. Conditions: the table stands. -/
import Derived.Test.YtbjdjgdbkfjglaaTabC
namespace Go.Proofs.Ytbjdjgdbkfjglaa.Ev
open Go

/-- a slot's cell -/
def cell (base : Nat) (cs : List Int) (i : Nat) : Int := cs.getD (base + i) 0
/-- how many slots have keys -/
def cnt (base : Nat) (cs : List Int) : Nat → Nat
  | 0 => 0
  | n + 1 => cnt base cs n + (if cell base cs n = 0 then 0 else 1)
theorem cnt_le (base : Nat) (cs : List Int) (n : Nat) : cnt base cs n ≤ n := by
  induction n with
  | zero => exact Nat.le_refl _
  | succ n ih => unfold cnt; split <;> omega

section
variable {h : Heap} {t m mc base n : Nat} {cs : List Int} {ops fails : Int} {K : Value → Heap → Prop}

theorem at_spec (T : TabIs h t m base n) (M : MemIs h m mc cs ops fails) (hb : base < 1000000000) (hn : n < 1000000000) (hc : base + n ≤ cs.length) {i : Nat} (hi : i < n)
    (hK : ∀ h', MemIs h' m mc cs (up ops) fails → Only [m, mc] h h' → K (.int .u64 (cell base cs i)) h') :
    CallsH Try.prog 19 [.pointer (some ⟨t, 0, none⟩), .int .i64 (i : Int)] h K := by
  apply F19.spec
  unfold F19.w F19.J0
  simp only [add_mk, Nat.zero_add]
  rw [decide_eq_false (by omega), bcase_false]
  refine ldI_of (n := (n : Int)) (by rw [At.rd T]; rfl) ?_
  rw [decide_eq_false (by omega), bcase_false]
  refine ldP_of (by rw [At.rd T]; rfl) (ldI_of (by rw [At.rd T]; rfl) ?_)
  rw [show IntKind.wrap .i64 ((base : Int) + (i : Int)) = ((base + i : Nat) : Int) by rw [wrap_i64 (by omega) (by omega)]; simp]
  refine load_in M (by omega) (by omega) fun h1 M1 O1 => ldI_of rfl ?_
  rw [Int.toNat_natCast]
  exact hK h1 M1 O1
theorem at_none (T : TabIs h t m base n) {i : Int} (hi : i < 0 ∨ (n : Int) ≤ i) (hK : K (.int .u64 0) h) :
    CallsH Try.prog 19 [.pointer (some ⟨t, 0, none⟩), .int .i64 i] h K := by
  apply F19.spec
  unfold F19.w F19.J0
  simp only [add_mk, Nat.zero_add]
  refine bcase_of (fun _ => hK) fun h0 => ldI_of (n := (n : Int)) (by rw [At.rd T]; rfl) ?_
  simp at h0
  rw [decide_eq_true (by omega), bcase_true]
  exact hK

theorem lenT_spec (T : TabIs h t m base n) (M : MemIs h m mc cs ops fails) (hb : base < 1000000000) (hn : n < 1000000000) (hc : base + n ≤ cs.length) (d4 : t ≠ m) (d5 : t ≠ mc)
    (hK : ∀ h' ops', MemIs h' m mc cs ops' fails → Only [m, mc] h h' → K (.int .i64 (cnt base cs n : Int)) h') :
    CallsH Try.prog 20 [.pointer (some ⟨t, 0, none⟩)] h K := by
  apply F20.spec
  unfold F20.w F20.J0
  simp only [add_mk, Nat.zero_add]
  refine ldI_of (n := (n : Int)) (by rw [At.rd T]; rfl) ?_
  unfold F20.wk3 F20.Jk3
  have : ∀ (g i : Nat) (h1 : Heap) (ops1 : Int), n - i < g → i ≤ n → MemIs h1 m mc cs ops1 fails → TabIs h1 t m base n → Only [m, mc] h h1 → F20.wL3 g ⟨t, 0, none⟩ (cnt base cs i : Int) (n : Int) (i : Int) h1 K := by
    intro g
    induction g with
    | zero => intro i h1 ops1 hg; omega
    | succ g ih =>
      intro i h1 ops1 hg hi M1 T1 O1
      unfold F20.wL3 F20.JL3
      by_cases hlt : i < n
      · rw [decide_eq_true (by omega), bcase_true]
        refine at_spec T1 M1 hb hn hc hlt fun h2 M2 O2 => ldI_of rfl ?_
        have T2 := T1.only O2 (by simp [d4, d5])
        have O2 := O1.trans O2 (fun b hb _ => hb)
        have := cnt_le base cs i
        rw [show IntKind.wrap .i64 ((i : Int) + 1) = ((i + 1 : Nat) : Int) by rw [wrap_i64 (by omega) (by omega)]; simp]
        have e := ih (i + 1) h2 _ (by omega) (by omega) M2 T2 O2
        unfold cnt at e
        by_cases hz : cell base cs i = 0
        · rw [if_pos hz] at e
          rw [show (cell base cs i != 0) = false by simp [hz], bcase_false]
          exact e
        · rw [if_neg hz] at e
          rw [show (cell base cs i != 0) = true by simpa using hz, bcase_true, show IntKind.wrap .i64 ((cnt base cs i : Int) + 1) = ((cnt base cs i + 1 : Nat) : Int) by rw [wrap_i64 (by omega) (by omega)]; simp]
          exact e
      · rw [decide_eq_false (by omega), bcase_false]
        obtain rfl : i = n := by omega
        exact hK h1 ops1 M1 O1
  exact ⟨n + 1, this (n + 1) 0 h ops (by omega) (by omega) M T (Only.refl _ _)⟩

theorem has_spec (T : TabIs h t m base n) (M : MemIs h m mc cs ops fails) (hb : base < 1000000000) (hn : n < 1000000000) (hc : base + n ≤ cs.length) (d4 : t ≠ m) (d5 : t ≠ mc) {key : Int}
    (hT : ∀ (i : Nat) h' ops', key ≠ 0 → i < n → cell base cs i = key → (∀ j, j < i → cell base cs j ≠ key) → MemIs h' m mc cs ops' fails → Only [m, mc] h h' → K (.tuple #[.int .i64 (i : Int), .bool true]) h')
    (hF : ∀ h' ops', (key = 0 ∨ ∀ j, j < n → cell base cs j ≠ key) → MemIs h' m mc cs ops' fails → Only [m, mc] h h' → K (.tuple #[.int .i64 (-1), .bool false]) h') :
    CallsH Try.prog 22 [.pointer (some ⟨t, 0, none⟩), .int .u64 key] h K := by
  apply F22.spec
  unfold F22.w F22.J0
  simp only [add_mk, Nat.zero_add]
  refine ldI_of (n := (n : Int)) (by rw [At.rd T]; rfl) ?_
  unfold F22.wk2 F22.Jk2
  have : ∀ (g i : Nat) (h1 : Heap) (ops1 : Int), n - i < g → i ≤ n → (key = 0 ∨ ∀ j, j < i → cell base cs j ≠ key) → MemIs h1 m mc cs ops1 fails → TabIs h1 t m base n → Only [m, mc] h h1 → F22.wL2 g ⟨t, 0, none⟩ key (n : Int) (i : Int) h1 K := by
    intro g
    induction g with
    | zero => intro i h1 ops1 hg; omega
    | succ g ih =>
      intro i h1 ops1 hg hi hno M1 T1 O1
      unfold F22.wL2 F22.JL2
      by_cases hlt : i < n
      · rw [decide_eq_true (by omega), bcase_true]
        rw [show IntKind.wrap .i64 ((i : Int) + 1) = ((i + 1 : Nat) : Int) by rw [wrap_i64 (by omega) (by omega)]; simp]
        by_cases hz : key = 0
        · rw [show (key != 0) = false by simp [hz], bcase_false]
          exact ih (i + 1) h1 _ (by omega) (by omega) (Or.inl hz) M1 T1 O1
        · rw [show (key != 0) = true by simpa using hz, bcase_true]
          have hno' := hno.resolve_left hz
          refine at_spec T1 M1 hb hn hc hlt fun h2 M2 O2 => ldI_of rfl ?_
          have T2 := T1.only O2 (by simp [d4, d5])
          have O2 := O1.trans O2 (fun b hb _ => hb)
          refine bcase_of (fun e => ?_) fun e => ?_
          · exact hT i h2 _ hz hlt (by simpa using e) hno' M2 O2
          · refine ih (i + 1) h2 _ (by omega) (by omega) (Or.inr fun j hj => ?_) M2 T2 O2
            by_cases h' : j < i
            · exact hno' j h'
            · obtain rfl : j = i := by omega
              simpa using e
      · rw [decide_eq_false (by omega), bcase_false]
        obtain rfl : i = n := by omega
        exact hF h1 ops1 hno M1 O1
  exact ⟨n + 1, this (n + 1) 0 h ops (by omega) (by omega) (Or.inr (by omega)) M T (Only.refl _ _)⟩

theorem clear_spec (T : TabIs h t m base n) (M : MemIs h m mc cs ops fails) (hb : base < 1000000000) (hn : n < 1000000000) (hc : base + n ≤ cs.length) (d4 : t ≠ m) (d5 : t ≠ mc)
    (hK : ∀ h' ops' cs', cs'.length = cs.length → (∀ j, j < n → cell base cs' j = 0) → (∀ x, x < base ∨ base + n ≤ x → cs'.getD x 0 = cs.getD x 0) → MemIs h' m mc cs' ops' fails → Only [m, mc] h h' → K (.tuple #[]) h') :
    CallsH Try.prog 23 [.pointer (some ⟨t, 0, none⟩)] h K := by
  apply F23.spec
  unfold F23.w F23.J0
  simp only [add_mk, Nat.zero_add]
  refine ldI_of (n := (n : Int)) (by rw [At.rd T]; rfl) ?_
  unfold F23.wk1 F23.Jk1
  have : ∀ (g i : Nat) (h1 : Heap) (ops1 : Int) (cs1 : List Int), n - i < g → i ≤ n → cs1.length = cs.length → (∀ j, j < i → cell base cs1 j = 0) → (∀ x, x < base ∨ base + n ≤ x → cs1.getD x 0 = cs.getD x 0) →
      MemIs h1 m mc cs1 ops1 fails → TabIs h1 t m base n → Only [m, mc] h h1 → F23.wL1 g ⟨t, 0, none⟩ (n : Int) (i : Int) h1 K := by
    intro g
    induction g with
    | zero => intro i h1 ops1 cs1 hg; omega
    | succ g ih =>
      intro i h1 ops1 cs1 hg hi hl hz hx M1 T1 O1
      unfold F23.wL1 F23.JL1
      by_cases hlt : i < n
      · rw [decide_eq_true (by omega), bcase_true]
        simp only [add_mk, Nat.zero_add]
        refine ldP_of (by rw [At.rd T1]; rfl) (ldI_of (by rw [At.rd T1]; rfl) ?_)
        rw [show IntKind.wrap .i64 ((base : Int) + (i : Int)) = ((base + i : Nat) : Int) by rw [wrap_i64 (by omega) (by omega)]; simp,
          show IntKind.wrap .i64 ((i : Int) + 1) = ((i + 1 : Nat) : Int) by rw [wrap_i64 (by omega) (by omega)]; simp]
        refine store_in M1 (by omega) (by omega) fun h2 M2 O2 => ⟨by trivial, ?_⟩
        rw [Int.toNat_natCast] at M2
        refine ih (i + 1) h2 _ _ (by omega) (by omega) (by rw [List.length_set]; exact hl) (fun j hj => ?_) (fun x hx' => ?_) M2 (T1.only O2 (by simp [d4, d5])) (O1.trans O2 fun b hb _ => hb)
        · unfold cell at *
          by_cases h' : j = i
          · subst h'
            simp [show base + j < cs1.length by omega]
          · simp only [List.getD, List.getElem?_set, if_neg (by omega : ¬ base + i = base + j)]
            exact hz j (by omega)
        · simp only [List.getD, List.getElem?_set, if_neg (by omega : ¬ base + i = x)]
          exact hx x hx'
      · rw [decide_eq_false (by omega), bcase_false]
        obtain rfl : i = n := by omega
        exact hK h1 ops1 cs1 hl hz hx M1 O1
  exact ⟨n + 1, this (n + 1) 0 h ops cs (by omega) (by omega) rfl (by omega) (fun _ _ => rfl) M T (Only.refl _ _)⟩
end
end Go.Proofs.Ytbjdjgdbkfjglaa.Ev
