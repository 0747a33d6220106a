/- SORTING (slices.Sort): the whole. Conditions: the row stands (Arr). -/
import Derived.Test.YtipckkeaoncjiaaSrtJ
namespace Go.Proofs.Ytipckkeaoncjiaa.Ev
open Go

theorem Prt.left {a e m : Nat} {g g' : Nat → Int} (H : Prt a e m g) (S : Swp a m g g') : Prt a e m g' := by
  refine ⟨?_, fun k h1 h2 => ?_⟩
  · rw [S.out (k := m) (.inr (Nat.le_refl _))]
    exact S.all (Q := fun v => v ≤ g m) H.1
  · rw [S.out (k := m) (.inr (Nat.le_refl _)), S.out (k := k) (.inr (by omega))]
    exact H.2 k h1 h2
theorem Prt.right {a e m : Nat} {g g' : Nat → Int} (H : Prt a e m g) (S : Swp (m + 1) e g g') : Prt a e m g' := by
  refine ⟨fun k h1 h2 => ?_, fun k h1 h2 => ?_⟩
  · rw [S.out (k := m) (.inl (by omega)), S.out (k := k) (.inl (by omega))]
    exact H.1 k h1 h2
  · rw [S.out (k := m) (.inl (by omega))]
    exact S.all (Q := fun v => g m ≤ v) (fun k h1 h2 => H.2 k (by omega) h2) k (by omega) h2
theorem Prt.join {a e m : Nat} {g : Nat → Int} (H : Prt a e m g) (L : Srt a m g) (R : Srt (m + 1) e g) : Srt a e g := fun p q h1 h2 h3 => by
  by_cases hq : q < m
  · exact L p q h1 h2 hq
  · by_cases hp : m < p
    · exact R p q (by omega) h2 h3
    · have e1 : g p ≤ g m := by
        by_cases h : p = m
        · subst h; exact Int.le_refl _
        · exact H.1 p h1 (by omega)
      have e2 : g m ≤ g q := by
        by_cases h : q = m
        · subst h; exact Int.le_refl _
        · exact H.2 q (by omega) h3
      exact Int.le_trans e1 e2
theorem Lb.sub {a e m : Nat} {g : Nat → Int} (H : Lb a e g) (h : m ≤ e) : Lb a m g := by
  rcases H with H | H
  · exact .inl H
  · exact .inr fun k h1 h2 => H k h1 (by omega)
theorem Srt.leftOut {a m e : Nat} {g g' : Nat → Int} (H : Srt a m g) (S : Swp (m + 1) e g g') : Srt a m g' := fun p q h1 h2 h3 => by
  rw [S.out (k := p) (.inl (by omega)), S.out (k := q) (.inl (by omega))]
  exact H p q h1 h2 h3
theorem Srt.rightOut {a m e : Nat} {g g' : Nat → Int} (H : Srt (m + 1) e g) (S : Swp a m g g') : Srt (m + 1) e g' := fun p q h1 h2 h3 => by
  rw [S.out (k := p) (.inr (by omega)), S.out (k := q) (.inr (by omega))]
  exact H p q h1 h2 h3
theorem loop67 {b n c : Nat} {sp : List Value} (hn : n ≤ LB / 4) :
    ∀ (d a e : Nat) (lim : Int) (x8 x9 : Bool) (g : Nat → Int) (h : Heap) (K : Value → Heap → Prop), e ≤ a + d → a ≤ e → e ≤ n → Arr .u32 h b n g sp → Lb a e g →
      (∀ h' g', Arr .u32 h' b n g' sp → Srt a e g' → Swp a e g g' → Only [b] h h' → K (.tuple #[]) h') → F67.wL2 (d + 1) (some ⟨b, 0, none⟩) n c a e lim x8 x9 h K := by
  intro d
  have hLB : LB = 140737488355328 := rfl
  induction d with
  | zero =>
    intro a e lim x8 x9 g h K hd hae he A L hK
    unfold F67.wL2 F67.JL2
    rw [show IntKind.wrap .i64 ((e : Int) - (a : Int)) = ((e - a : Nat) : Int) by rw [wrapN (by omega) (by omega)]; omega, show decide (((e - a : Nat) : Int) ≤ 12) = true by simp; omega, bcase_true]
    exact ins76 A he (by omega) (by omega) fun h' g' A' R' S' O' => ⟨rfl, hK h' g' A' R' S' O'⟩
  | succ d ih =>
    intro a e lim x8 x9 g h K hd hae he A L hK
    unfold F67.wL2 F67.JL2
    rw [show IntKind.wrap .i64 ((e : Int) - (a : Int)) = ((e - a : Nat) : Int) by rw [wrapN (by omega) (by omega)]; omega]
    refine bcase_of (fun _ => ?_) fun hc => ?_
    · exact ins76 A he (by omega) (by omega) fun h' g' A' R' S' O' => ⟨rfl, hK h' g' A' R' S' O'⟩
    simp only [decide_eq_false_iff_not] at hc
    refine bcase_of (fun _ => ?_) fun _ => ?_
    · exact heap77 A he hae hn fun h' g' A' R' S' O' => ⟨rfl, hK h' g' A' R' S' O'⟩
    have call : ∀ (a e : Nat) (lim : Int) (g : Nat → Int) (h : Heap) (K : Value → Heap → Prop), e ≤ a + d → a ≤ e → e ≤ n → Arr .u32 h b n g sp → Lb a e g →
        (∀ h' g', Arr .u32 h' b n g' sp → Srt a e g' → Swp a e g g' → Only [b] h h' → K (.tuple #[]) h') → CallsH Try.prog 67 [.slice (some ⟨b, 0, none⟩) n c, .int .i64 a, .int .i64 e, .int .i64 lim] h K :=
      fun a e lim g h K h1 h2 h3 A L hK => F67.spec _ _ _ _ _ _ h K ⟨d + 1, ih a e lim true true g h K h1 h2 h3 A L hK⟩
    have k84 : ∀ (lim x10 : Int) (x8 : Bool) (m : Nat) (f : Bool) (g1 : Nat → Int) (h1 : Heap), Arr .u32 h1 b n g1 sp → Lb a e g1 → Prt a e m g1 → a ≤ m → m < e →
        (∀ h' g', Arr .u32 h' b n g' sp → Srt a e g' → Swp a e g1 g' → Only [b] h1 h' → K (.tuple #[]) h') →
        (∃ n13 : Int, ∃ b14 : Bool, (Value.tuple #[.int .i64 (m : Int), .bool f]) = (.tuple #[(.int .i64 n13), (.bool b14)]) ∧ ((8 : Int) ≠ 0 ∧ bcase (decide ((IntKind.wrap .i64 (n13 - a)) < (IntKind.wrap .i64 (e - n13)))) (CallsH Try.prog 67 [(.slice (some ⟨b, 0, none⟩) n c), (.int .i64 a), (.int .i64 n13), (.int .i64 lim)] h1 (fun v15 h16 => (v15 = (.tuple #[]) ∧ F67.wL2 (d + 1) (some ⟨b, 0, none⟩) n c (IntKind.wrap .i64 (n13 + (1 : Int))) e lim (decide ((IntKind.wrap .i64 (n13 - a)) ≥ (IntKind.wrap .i64 (Int.tdiv x10 (8 : Int))))) b14 h16 K))) (CallsH Try.prog 67 [(.slice (some ⟨b, 0, none⟩) n c), (.int .i64 (IntKind.wrap .i64 (n13 + (1 : Int)))), (.int .i64 e), (.int .i64 lim)] h1 (fun v17 h18 => (v17 = (.tuple #[]) ∧ F67.wL2 (d + 1) (some ⟨b, 0, none⟩) n c a n13 lim (decide ((IntKind.wrap .i64 (e - n13)) ≥ (IntKind.wrap .i64 (Int.tdiv x10 (8 : Int))))) b14 h18 K))))) := by
      intro lim x10 x8 m f g1 h1 A1 L1 P m1 m2 hK1
      refine ⟨_, _, rfl, by decide, ?_⟩
      rw [show IntKind.wrap .i64 ((m : Int) + 1) = ((m + 1 : Nat) : Int) by rw [wrapN (by omega) (by omega)]; omega]
      refine bcase_of (fun _ => ?_) fun _ => ?_
      · refine call a m lim g1 h1 _ (by omega) m1 (by omega) A1 (L1.sub (by omega)) fun h2 g2 A2 R2 S2 O2 => ⟨rfl, ?_⟩
        have P2 := P.left S2
        refine ih (m + 1) e lim _ _ g2 h2 K (by omega) (by omega) he A2 (.inr fun k k1 k2 => by rw [show m + 1 - 1 = m by omega]; exact P2.2 k (by omega) k2) fun h3 g3 A3 R3 S3 O3 => ?_
        exact hK1 h3 g3 A3 ((P2.right S3).join (R2.leftOut S3) R3) ((S2.mono (Nat.le_refl _) (by omega)).trans (S3.mono (by omega) (Nat.le_refl _))) (O2.trans O3 (by simp))
      · refine call (m + 1) e lim g1 h1 _ (by omega) (by omega) he A1 (.inr fun k k1 k2 => by rw [show m + 1 - 1 = m by omega]; exact P.2 k (by omega) k2) fun h2 g2 A2 R2 S2 O2 => ⟨rfl, ?_⟩
        have P2 := P.right S2
        refine ih a m lim _ _ g2 h2 K (by omega) m1 (by omega) A2 ((L1.swp (S2.mono (by omega) (Nat.le_refl _))).sub (by omega)) fun h3 g3 A3 R3 S3 O3 => ?_
        exact hK1 h3 g3 A3 ((P2.left S3).join R3 (R2.rightOut S3)) ((S2.mono (by omega) (Nat.le_refl _)).trans (S3.mono (Nat.le_refl _) (by omega))) (O2.trans O3 (by simp))
    have k17 : ∀ (lim x10 : Int) (x8 x9 : Bool) (pv : Nat) (g1 : Nat → Int) (h1 : Heap), Arr .u32 h1 b n g1 sp → Lb a e g1 → a ≤ pv → pv < e →
        (∀ h' g', Arr .u32 h' b n g' sp → Srt a e g' → Swp a e g1 g' → Only [b] h1 h' → K (.tuple #[]) h') →
        F67.wk17 (fun x0p x0l x0c x1 x2 x3 x8 x9 h => F67.wL2 (d + 1) x0p x0l x0c x1 x2 x3 x8 x9 h K) (some ⟨b, 0, none⟩) n c a e lim x8 x9 x10 pv h1 K := by
      intro lim x10 x8 x9 pv g1 h1 A1 L1 p1 p2 hK1
      unfold F67.wk17 F67.Jk17
      refine bcase_of (fun ha => ?_) fun ha => ?_
      · simp only [decide_eq_true_eq] at ha
        rw [show IntKind.wrap .i64 ((a : Int) - 1) = ((a - 1 : Nat) : Int) by rw [wrapN (by omega) (by omega)]; omega]
        refine A1.ld rfl (by omega) (A1.ld rfl (by omega) (less82 ?_))
        rw [ldB_some]
        refine bcase_of (fun hl => ?_) fun hl => ?_
        · simp only [Bool.not_eq_true', decide_eq_false_iff_not] at hl
          refine part83 A1 he (by omega) p1 p2 hn fun h2 m g2 A2 S2 R1 R2 m1 m2 O2 => ?_
          rw [ldI_some]
          have lo : ∀ k, a ≤ k → k < e → g1 pv ≤ g2 k := by
            have L2 := L1.swp S2
            rcases L2 with h0 | L2
            · omega
            · intro k k1 k2
              have := L2 k k1 k2
              rw [S2.out (k := a - 1) (.inl (by omega))] at this
              omega
          refine ih m e lim _ _ g2 h2 K (by omega) m2 he A2 (.inr fun k k1 k2 => Int.le_trans (R1 (m - 1) (by omega) (by omega)) (Int.le_of_lt (R2 k k1 k2))) fun h3 g3 A3 R3 S3 O3 => ?_
          refine hK1 h3 g3 A3 (fun p q h1 h2 h3 => ?_) (S2.trans (S3.mono (by omega) (Nat.le_refl _))) (O2.trans O3 (by simp))
          by_cases hp : m ≤ p
          · exact R3 p q hp h2 h3
          · have e1 : g3 p ≤ g1 pv := by rw [S3.out (k := p) (.inl (by omega))]; exact R1 p h1 (by omega)
            have e2 : g1 pv ≤ g3 q := by
              by_cases hq : m ≤ q
              · exact Int.le_of_lt (S3.all (Q := fun v => g1 pv < v) (fun k k1 k2 => R2 k k1 k2) q hq h3)
              · rw [S3.out (k := q) (.inl (by omega))]; exact lo q (by omega) h3
            exact Int.le_trans e1 e2
        · exact part84 A1 he (by omega) p1 p2 hn fun h2 m g2 f A2 S2 P2 m1 m2 O2 => k84 lim x10 x8 m f g2 h2 A2 (L1.swp S2) P2 m1 m2 fun h' g' A' R' S' O' => hK1 h' g' A' R' (S2.trans S') (O2.trans O' (by simp))
      · exact part84 A1 he (by omega) p1 p2 hn fun h2 m g2 f A2 S2 P2 m1 m2 O2 => k84 lim x10 x8 m f g2 h2 A2 (L1.swp S2) P2 m1 m2 fun h' g' A' R' S' O' => hK1 h' g' A' R' (S2.trans S') (O2.trans O' (by simp))
    have k10 : ∀ (lim x10 : Int) (x8 x9 : Bool) (g1 : Nat → Int) (h1 : Heap), Arr .u32 h1 b n g1 sp → Lb a e g1 →
        (∀ h' g', Arr .u32 h' b n g' sp → Srt a e g' → Swp a e g1 g' → Only [b] h1 h' → K (.tuple #[]) h') →
        F67.wk10 (fun x0p x0l x0c x1 x2 x3 x8 x9 h => F67.wL2 (d + 1) x0p x0l x0c x1 x2 x3 x8 x9 h K) (some ⟨b, 0, none⟩) n c a e lim x8 x9 x10 h1 K := by
      intro lim x10 x8 x9 g1 h1 A1 L1 hK1
      have k15 : ∀ (pv : Nat) (t : Int) (g1 : Nat → Int) (h1 : Heap), Arr .u32 h1 b n g1 sp → Lb a e g1 → a ≤ pv → pv < e →
          (∀ h' g', Arr .u32 h' b n g' sp → Srt a e g' → Swp a e g1 g' → Only [b] h1 h' → K (.tuple #[]) h') →
          F67.wk15 (fun x0p x0l x0c x1 x2 x3 x8 x9 h => F67.wL2 (d + 1) x0p x0l x0c x1 x2 x3 x8 x9 h K) (some ⟨b, 0, none⟩) n c a e lim x8 x9 x10 pv t h1 K := by
        intro pv t g1 h1 A1 L1 p1 p2 hK1
        unfold F67.wk15 F67.Jk15
        have o := k17 lim x10 x8 x9 pv g1 h1 A1 L1 p1 p2 hK1
        refine bcase_of (fun _ => bcase_of (fun _ => bcase_of (fun _ => ?_) fun _ => o) fun _ => o) fun _ => o
        refine near81 A1 L1 he (by omega) hn fun h2 g2 r A2 S2 R2 O2 => ?_
        rw [ldB_some]
        refine bcase_of (fun hr => hK1 h2 g2 A2 (R2 hr) S2 O2) fun _ => ?_
        exact k17 lim x10 x8 x9 pv g2 h2 A2 (L1.swp S2) p1 p2 fun h' g' A' R' S' O' => hK1 h' g' A' R' (S2.trans S') (O2.trans O' (by simp))
      unfold F67.wk10 F67.Jk10
      refine piv79 A1 he (by omega) hn fun h2 pv t A2 p1 p2 O2 => ⟨_, _, rfl, ?_⟩
      refine bcase_of (fun _ => ?_) fun _ => ?_
      · refine rev80 A2 he (by omega) (by omega) fun h3 g3 A3 S3 O3 => ⟨rfl, ?_⟩
        rw [show IntKind.wrap .i64 (IntKind.wrap .i64 ((e : Int) - 1) - IntKind.wrap .i64 ((pv : Int) - (a : Int))) = ((e - 1 - (pv - a) : Nat) : Int) by
          rw [wrapN (x := (e : Int) - 1) (by omega) (by omega), wrapN (x := (pv : Int) - (a : Int)) (by omega) (by omega), wrapN (by omega) (by omega)]; omega]
        exact k15 _ _ g3 h3 A3 (L1.swp S3) (by omega) (by omega) fun h' g' A' R' S' O' => hK1 h' g' A' R' (S3.trans S') (((O2.mono (by simp)).trans O3 (by simp)).trans O' (by simp))
      · exact k15 pv t g1 h2 A2 L1 p1 p2 fun h' g' A' R' S' O' => hK1 h' g' A' R' S' ((O2.mono (by simp)).trans O' (by simp))
    refine bcase_of (fun _ => ?_) fun _ => ?_
    · refine brk78 A he hae hn fun h2 g2 A2 S2 O2 => ⟨rfl, ?_⟩
      exact k10 _ _ x8 x9 g2 h2 A2 (L.swp S2) fun h' g' A' R' S' O' => hK h' g' A' R' (S2.trans S') (O2.trans O' (by simp))
    · exact k10 _ _ x8 x9 g h A L hK
/-- slices.Sort -/
theorem sort50 {h : Heap} {b n c : Nat} {g : Nat → Int} {sp : List Value} {K : Value → Heap → Prop} (A : Arr .u32 h b n g sp) (hn : n ≤ LB / 4)
    (hK : ∀ h' g', Arr .u32 h' b n g' sp → Srt 0 n g' → Swp 0 n g g' → Only [b] h h' → K (.tuple #[]) h') : CallsH Try.prog 50 [.slice (some ⟨b, 0, none⟩) n c] h K := by
  refine F50.spec _ _ _ h K ?_
  have hLB : LB = 140737488355328 := rfl
  unfold F50.w F50.J0
  rw [wrap_u64 (by omega) (by omega)]
  refine len68 (by omega) fun L _ _ => ?_
  rw [ldI_some]
  exact F67.spec _ _ _ _ _ _ h _ ⟨n + 1, loop67 hn n 0 n L true true g h _ (by omega) (Nat.zero_le _) (Nat.le_refl _) A (.inl rfl) fun h' g' A' R' S' O' => ⟨rfl, hK h' g' A' R' S' O'⟩⟩
/-- .. of none -/
theorem sort50nil {h : Heap} {c : Nat} {p : Option Addr} {K : Value → Heap → Prop} (hK : K (.tuple #[]) h) : CallsH Try.prog 50 [.slice p 0 c] h K := by
  refine F50.spec _ _ _ h K ?_
  unfold F50.w F50.J0
  rw [wrap_u64 (by omega) (by omega)]
  refine len68 (X := 0) (by omega) fun L _ _ => ?_
  rw [ldI_some]
  refine F67.spec _ _ _ _ _ _ h _ ⟨1, ?_⟩
  unfold F67.wL2 F67.JL2
  rw [show IntKind.wrap .i64 ((((0 : Nat) : Int)) - 0) = 0 by decide, show decide ((0 : Int) ≤ 12) = true by decide, bcase_true]
  refine F76.spec _ _ _ _ _ h _ ⟨1, ?_⟩
  unfold F76.wL1 F76.JL1
  rw [show decide (IntKind.wrap .i64 ((0 : Int) + 1) < ((0 : Nat) : Int)) = false by decide, bcase_false]
  exact ⟨rfl, rfl, hK⟩
end Go.Proofs.Ytipckkeaoncjiaa.Ev
