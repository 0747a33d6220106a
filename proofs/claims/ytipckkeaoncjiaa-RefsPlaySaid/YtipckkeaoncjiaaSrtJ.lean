/- SORTING: a row that is nearly in order (a few insertions). Conditions: the row stands (Arr); what lies ahead is not more. -/
import Derived.Test.YtipckkeaoncjiaaSrtI
namespace Go.Proofs.Ytipckkeaoncjiaa.Ev
open Go

/-- what lies ahead of the part is not more than what is in it -/
def Lb (a e : Nat) (g : Nat → Int) : Prop := a = 0 ∨ ∀ k, a ≤ k → k < e → g (a - 1) ≤ g k
theorem Lb.swp {a e : Nat} {g g' : Nat → Int} (H : Lb a e g) (S : Swp a e g g') : Lb a e g' := by
  rcases H with h | h
  · exact .inl h
  · by_cases h0 : a = 0
    · exact .inl h0
    · refine .inr ?_
      rw [S.out (k := a - 1) (.inl (by omega))]
      exact S.all h
theorem Srt.snoc {a i : Nat} {g : Nat → Int} (H : Srt a i g) (h : g (i - 1) ≤ g i) (ha : a < i) : Srt a (i + 1) g := fun p q h1 h2 h3 => by
  by_cases hq : q = i
  · subst hq
    by_cases hp : p = q - 1
    · subst hp; exact h
    · exact Int.le_trans (H p (q - 1) h1 (by omega) (by omega)) h
  · exact H p q h1 h2 (by omega)
theorem Srt.out {a i e : Nat} {g g' : Nat → Int} (H : Srt a i g) (S : Swp i e g g') : Srt a i g' := fun p q h1 h2 h3 => by
  rw [S.out (k := p) (.inl (by omega)), S.out (k := q) (.inl h3)]
  exact H p q h1 h2 h3
section
variable {b n a e c : Nat} {sp : List Value} {K : Value → Heap → Prop} {bk : (Option Addr) → Nat → Nat → Int → Int → Int → Int → Heap → Prop}
theorem right81 {s : Int} (he : e ≤ n) (hn : n ≤ LB / 4) {i : Nat} : ∀ (d j : Nat) (g : Nat → Int) (h : Heap), Arr .u32 h b n g sp → i < j → j + d = e →
    (∀ h' g', Arr .u32 h' b n g' sp → Swp i e g g' → Only [b] h h' → bk (some ⟨b, 0, none⟩) n c a e i (IntKind.wrap .i64 (s + 1)) h') → F81.wL20 bk (d + 1) (some ⟨b, 0, none⟩) n c a e i s j h K := by
  intro d
  have hLB : LB = 140737488355328 := rfl
  induction d with
  | zero =>
    intro j g h A hj hd hK
    unfold F81.wL20 F81.JL20
    rw [show decide ((j : Int) < (e : Int)) = false by simp; omega]
    exact hK h g A (.refl g) (Only.refl _ _)
  | succ d ih =>
    intro j g h A hj hd hK
    unfold F81.wL20 F81.JL20
    rw [show decide ((j : Int) < (e : Int)) = true by simp; omega, bcase_true, show IntKind.wrap .i64 ((j : Int) - 1) = ((j - 1 : Nat) : Int) by rw [wrapN (by omega) (by omega)]; omega]
    refine A.ld rfl (by omega) (A.ld rfl (by omega) (less82 ?_))
    rw [ldB_some]
    refine bcase_of (fun hl => ?_) fun hl => ?_
    · exact hK h g A (.refl g) (Only.refl _ _)
    · refine A.ld rfl (by omega) (A.ld rfl (by omega) (A.sto rfl (by omega) fun k1 A1 O1 => ⟨rfl, rfl, rfl, A1.sto rfl (by omega) fun k2 A2 O2 => ?_⟩))
      have A2' : Arr .u32 k2 b n (swp g j (j - 1)) sp := A2
      rw [show IntKind.wrap .i64 ((j : Int) + 1) = ((j + 1 : Nat) : Int) by rw [wrapN (by omega) (by omega)]; omega]
      exact ih (j + 1) _ k2 A2' (by omega) (by omega) fun h' g' A' S' O' => hK h' g' A' ((Swp.one g (by omega) (by omega) (by omega) (by omega)).trans S') ((O1.trans O2 (by simp)).trans O' (by simp))
theorem k18_81 {s : Int} (he : e ≤ n) (hn : n ≤ LB / 4) {i : Nat} {g : Nat → Int} {h : Heap} (A : Arr .u32 h b n g sp) (hi : i < e)
    (hK : ∀ h' g', Arr .u32 h' b n g' sp → Swp i e g g' → Only [b] h h' → bk (some ⟨b, 0, none⟩) n c a e i (IntKind.wrap .i64 (s + 1)) h') : F81.wk18 bk (some ⟨b, 0, none⟩) n c a e i s h K := by
  have hLB : LB = 140737488355328 := rfl
  unfold F81.wk18 F81.Jk18
  rw [show IntKind.wrap .i64 ((e : Int) - (i : Int)) = ((e - i : Nat) : Int) by rw [wrapN (by omega) (by omega)]; omega, show IntKind.wrap .i64 ((i : Int) + 1) = ((i + 1 : Nat) : Int) by rw [wrapN (by omega) (by omega)]; omega]
  refine bcase_of (fun hc => ?_) fun hc => ?_
  · unfold F81.wk20 F81.Jk20
    exact ⟨_, right81 he hn (e - (i + 1)) (i + 1) g h A (by omega) (by omega) hK⟩
  · exact hK h g A (.refl g) (Only.refl _ _)
theorem left81 {s : Int} (he : e ≤ n) (hn : n ≤ LB / 4) {i : Nat} (hi : i < e) (hai : a < i) : ∀ (j : Nat) (g : Nat → Int) (h : Heap), Arr .u32 h b n g sp → Lb a e g → Ins a (i - 1) j g → a ≤ j → j ≤ i - 1 →
    (∀ h' g', Arr .u32 h' b n g' sp → Swp a e g g' → Srt a i g' → Only [b] h h' → bk (some ⟨b, 0, none⟩) n c a e i (IntKind.wrap .i64 (s + 1)) h') → F81.wL14 bk (j + 1) (some ⟨b, 0, none⟩) n c a e i s j h K := by
  intro j
  have hLB : LB = 140737488355328 := rfl
  induction j with
  | zero =>
    intro g h A L I ha hj hK
    unfold F81.wL14 F81.JL14
    rw [show decide (((0 : Nat) : Int) ≥ 1) = false by simp]
    have R := I.stop (.inl (by omega))
    rw [show i - 1 + 1 = i by omega] at R
    exact k18_81 he hn A hi fun h' g' A' S' O' => hK h' g' A' (S'.mono (by omega) (Nat.le_refl _)) (R.out S') O'
  | succ j ih =>
    intro g h A L I ha hj hK
    unfold F81.wL14 F81.JL14
    rw [show decide (((j + 1 : Nat) : Int) ≥ 1) = true by simp; omega, bcase_true, show IntKind.wrap .i64 (((j + 1 : Nat) : Int) - 1) = (j : Int) by rw [wrapN (by omega) (by omega)]; omega]
    refine A.ld rfl (by omega) (A.ld rfl (by omega) (less82 ?_))
    rw [ldB_some]
    refine bcase_of (fun hl => ?_) fun hl => ?_
    · simp only [Bool.not_eq_true', decide_eq_false_iff_not] at hl
      have R := I.stop (.inr (by rw [show j + 1 - 1 = j by omega]; omega))
      rw [show i - 1 + 1 = i by omega] at R
      exact k18_81 he hn A hi fun h' g' A' S' O' => hK h' g' A' (S'.mono (by omega) (Nat.le_refl _)) (R.out S') O'
    · simp only [Bool.not_eq_false', decide_eq_true_eq] at hl
      have haj : a ≤ j := by
        rcases Nat.lt_or_ge j a with h | h
        · have : a = j + 1 := by omega
          rcases L with L | L
          · omega
          · have := L (j + 1) (by omega) (by omega)
            rw [show a - 1 = j by omega] at this
            omega
        · exact h
      refine A.ld rfl (by omega) (A.ld rfl (by omega) (A.sto rfl (by omega) fun k1 A1 O1 => ⟨rfl, rfl, rfl, A1.sto rfl (by omega) fun k2 A2 O2 => ?_⟩))
      have A2' : Arr .u32 k2 b n (swp g (j + 1) j) sp := A2
      have S2 : Swp a e g (swp g (j + 1) j) := Swp.one g (by omega) (by omega) (by omega) (by omega)
      have I2 := I.step (by omega) hj (by rw [show j + 1 - 1 = j by omega]; exact hl)
      rw [show j + 1 - 1 = j by omega] at I2
      exact ih _ k2 A2' (L.swp S2) I2 (by omega) (by omega) fun h' g' A' S' R' O' => hK h' g' A' (S2.trans S') R' ((O1.trans O2 (by simp)).trans O' (by simp))
theorem up81 {s : Int} {g : Nat → Int} {h : Heap} (A : Arr .u32 h b n g sp) (he : e ≤ n) (hn : n ≤ LB / 4) : ∀ (d i : Nat), i + d = e → a < i → Srt a i g →
    (∀ i', a < i' → i' ≤ e → Srt a i' g → (i' = e ∨ g i' < g (i' - 1)) → F81.wk7 bk (some ⟨b, 0, none⟩) n c a e i' s h K) → F81.wL5 bk (d + 1) (some ⟨b, 0, none⟩) n c a e i s h K := by
  intro d
  have hLB : LB = 140737488355328 := rfl
  induction d with
  | zero =>
    intro i hd ha R hK
    unfold F81.wL5 F81.JL5
    rw [show decide ((i : Int) < (e : Int)) = false by simp; omega]
    exact hK i ha (by omega) R (.inl (by omega))
  | succ d ih =>
    intro i hd ha R hK
    unfold F81.wL5 F81.JL5
    rw [show decide ((i : Int) < (e : Int)) = true by simp; omega, bcase_true, show IntKind.wrap .i64 ((i : Int) - 1) = ((i - 1 : Nat) : Int) by rw [wrapN (by omega) (by omega)]; omega]
    refine A.ld rfl (by omega) (A.ld rfl (by omega) (less82 ?_))
    rw [ldB_some]
    refine bcase_of (fun hl => ?_) fun hl => ?_
    · simp only [Bool.not_eq_true', decide_eq_false_iff_not] at hl
      rw [show IntKind.wrap .i64 ((i : Int) + 1) = ((i + 1 : Nat) : Int) by rw [wrapN (by omega) (by omega)]; omega]
      exact ih (i + 1) (by omega) (by omega) (R.snoc (by omega) ha) hK
    · simp only [Bool.not_eq_false', decide_eq_true_eq] at hl
      exact hK i ha (by omega) R (.inr hl)
theorem out81 (he : e ≤ n) (hn : n ≤ LB / 4) : ∀ (t s i : Nat) (g : Nat → Int) (h : Heap), Arr .u32 h b n g sp → Lb a e g → s + t = 5 → a < i → i ≤ e → Srt a i g →
    (∀ h' g' r, Arr .u32 h' b n g' sp → Swp a e g g' → (r = true → Srt a e g') → Only [b] h h' → K (.bool r) h') → F81.wL3 (t + 1) (some ⟨b, 0, none⟩) n c a e i s h K := by
  intro t
  have hLB : LB = 140737488355328 := rfl
  induction t with
  | zero =>
    intro s i g h A L hs ha hi R hK
    unfold F81.wL3 F81.JL3
    rw [show decide ((s : Int) < 5) = false by simp; omega]
    exact hK h g false A (.refl g) (by simp) (Only.refl _ _)
  | succ t ih =>
    intro s i g h A L hs ha hi R hK
    unfold F81.wL3 F81.JL3
    rw [show decide ((s : Int) < 5) = true by simp; omega, bcase_true]
    unfold F81.wk5 F81.Jk5
    refine ⟨_, up81 A he hn (e - i) i (by omega) ha R fun i' ha' hi' R' hx => ?_⟩
    unfold F81.wk7 F81.Jk7
    refine bcase_of (fun hc => ?_) fun hc => ?_
    · simp only [beq_iff_eq] at hc
      have : i' = e := by omega
      subst this
      exact hK h g true A (.refl g) (fun _ => R') (Only.refl _ _)
    · have hne : i' ≠ e := fun e' => by subst e'; simp at hc
      have hlt : g i' < g (i' - 1) := by rcases hx with h | h
                                         · omega
                                         · exact h
      refine bcase_of (fun hc => ?_) fun hc => ?_
      · exact hK h g false A (.refl g) (by simp) (Only.refl _ _)
      · rw [show IntKind.wrap .i64 ((i' : Int) - 1) = ((i' - 1 : Nat) : Int) by rw [wrapN (by omega) (by omega)]; omega]
        refine A.ld rfl (by omega) (A.ld rfl (by omega) (A.sto rfl (by omega) fun k1 A1 O1 => ⟨rfl, rfl, rfl, A1.sto rfl (by omega) fun k2 A2 O2 => ?_⟩))
        have A2' : Arr .u32 k2 b n (swp g i' (i' - 1)) sp := A2
        have S2 : Swp a e g (swp g i' (i' - 1)) := Swp.one g (by omega) (by omega) (by omega) (by omega)
        have O12 := O1.trans O2 (by simp)
        have again : ∀ h' g', Arr .u32 h' b n g' sp → Swp a e (swp g i' (i' - 1)) g' → Srt a i' g' → Only [b] k2 h' → F81.wL3 (t + 1) (some ⟨b, 0, none⟩) n c a e i' (IntKind.wrap .i64 ((s : Int) + 1)) h' K := by
          intro h' g' A' S' R'' O'
          rw [show IntKind.wrap .i64 ((s : Int) + 1) = ((s + 1 : Nat) : Int) by rw [wrapN (by omega) (by omega)]; omega]
          exact ih (s + 1) i' g' h' A' (L.swp (S2.trans S')) (by omega) ha' hi' R'' fun h'' g'' r A'' S'' R3 O'' => hK h'' g'' r A'' ((S2.trans S').trans S'') R3 ((O12.trans O' (by simp)).trans O'' (by simp))
        rw [show IntKind.wrap .i64 ((i' : Int) - (a : Int)) = ((i' - a : Nat) : Int) by rw [wrapN (by omega) (by omega)]; omega]
        refine bcase_of (fun hc => ?_) fun hc => ?_
        · unfold F81.wk14 F81.Jk14
          refine ⟨_, left81 he hn (by omega) ha' (i' - 1) _ k2 A2' (L.swp S2) (Ins.start fun p q h1 h2 h3 => ?_) (by omega) (by omega) again⟩
          rw [swp_o g (by omega) (by omega), swp_o g (by omega) (by omega)]
          exact R' p q h1 h2 (by omega)
        · simp only [decide_eq_false_iff_not] at hc
          exact k18_81 he hn A2' (by omega) fun h' g' A' S' O' => again h' g' A' (S'.mono (by omega) (Nat.le_refl _)) (Srt.single g' (by omega)) O'
theorem near81 {h : Heap} {g : Nat → Int} (A : Arr .u32 h b n g sp) (L : Lb a e g) (he : e ≤ n) (ha : a < e) (hn : n ≤ LB / 4)
    (hK : ∀ h' g' r, Arr .u32 h' b n g' sp → Swp a e g g' → (r = true → Srt a e g') → Only [b] h h' → K (.bool r) h') : CallsH Try.prog 81 [.slice (some ⟨b, 0, none⟩) n c, .int .i64 a, .int .i64 e] h K := by
  refine F81.spec _ _ _ _ _ h K ?_
  have hLB : LB = 140737488355328 := rfl
  unfold F81.w F81.J0 F81.wk3 F81.Jk3
  rw [show IntKind.wrap .i64 ((a : Int) + 1) = ((a + 1 : Nat) : Int) by rw [wrapN (by omega) (by omega)]; omega]
  exact ⟨_, out81 he hn 5 0 (a + 1) g h A L (by omega) (by omega) (by omega) (Srt.single g (by omega)) hK⟩
end
end Go.Proofs.Ytipckkeaoncjiaa.Ev
