/- RefsPlay, seen from the heap. Conditions: the row of steps stands. -/
import Derived.Test.YtipckkeaoncjiaaRefT
namespace Go.Proofs.Ytipckkeaoncjiaa.Ev
open Go

section
variable {h0 : Heap} {lo r M S B W : Nat} {h : Heap} {g : G10} {bk : BK} {p0 : Option Addr} {sl cap i sb a : Nat} {wh wo x : Int} {s : Nat → Nat → Value}
theorem PS.tag (H : PS h0 lo r M S B W h g) {h' : Heap} (O : Only [] h h') (t : Nat) : PS h0 lo r M S B W h' { g with τ := tgUp g.τ h.size t } where
  R := H.R.new O
  T := H.T.new O
  Q := H.Q.only O (by simp)
  I := H.I
  t1 := by have l := H.R.lt; exact ⟨(tgUp_old l.1).trans H.t1.1, (tgUp_old l.2.2.1).trans H.t1.2.1, (tgUp_old l.2.1).trans H.t1.2.2⟩
  t1p := fun k hk b hb => (tgUp_old (H.R.lt.2.2.2 k hk b hb).2).trans (H.t1p k hk b hb)
  t2 := (tgUp_old H.T.lt.1).trans H.t2
  t2p := fun k hk b hb => (tgUp_old (H.T.lt.2 k hk b hb).2).trans (H.t2p k hk b hb)
  t3 := fun b hb => (tgUp_old (H.Q.lt b hb).2).trans (H.t3 b hb)
  O := H.O.trans O (by simp)
  hlo := H.hlo
  hsz := Nat.le_trans H.hsz O.size
theorem step16 (next : ∀ h g, PS h0 lo r M S B W h g → g.fm = g.f → g.Lm = g.L → g.N ≤ 4 * (i + 1) → g.MM.length ≤ i + 1 → bk p0 sl cap (some ⟨r, 0, none⟩) W g.q g.MM.length g.qc (some ⟨B, 0, none⟩) W W ((i + 1 : Nat) : Int) h)
    (H : PS h0 lo r M S B W h g) (AX : At h sb [.int .i64 wh, .int .i64 wo, .int .u32 x]) (hs : g.τ sb = 4) (ef : g.fm = g.f) (eL : g.Lm = g.L) (hN : g.N ≤ 4 * i) (hM : g.MM.length ≤ i) (hi : i < 100) (hW : W ≤ 4) (hW1 : 1 ≤ W)
    (hx : 0 ≤ x ∧ x ≤ 4294967295) (ha : a ≤ g.MM.length) (h1 : ∀ j, j < a → (atL g.MM j).1 < x) (h2 : a = g.MM.length ∨ x ≤ (atL g.MM a).1) :
    F10.wk16 bk p0 sl cap (some ⟨r, 0, none⟩) W g.q g.MM.length g.qc (some ⟨B, 0, none⟩) W W i ⟨sb, 0, none⟩ a h (Lawful h0) := by
  have k17 : ∀ th : Bool, (th = true ↔ (a < g.MM.length ∧ (atL g.MM a).1 = x)) → F10.wk17 bk p0 sl cap (some ⟨r, 0, none⟩) W g.q g.MM.length g.qc (some ⟨B, 0, none⟩) W W i ⟨sb, 0, none⟩ a th h (Lawful h0) := by
    intro th hth
    unfold F10.wk17 F10.Jk17
    rw [sb1 AX, ldI_some]
    refine bcase_of (fun hp => ?_) fun hp => ?_
    · simp only [decide_eq_true_eq] at hp
      rw [ldI_some]
      refine step27 next H AX hs ef eL hN hM hi hW hW1 ?_ hx ha h1 h2 hth
      rw [decide_eq_true_eq]
      exact ⟨fun h => ⟨hp, h⟩, fun h => h.2⟩
    · simp only [decide_eq_false_iff_not] at hp
      refine step27 next H AX hs ef eL hN hM hi hW hW1 ?_ hx ha h1 h2 hth
      exact ⟨fun h => (by cases h), fun h => absurd h.1 hp⟩
  unfold F10.wk16 F10.Jk16
  refine bcase_of (fun hp => ?_) fun hp => ?_
  · simp only [decide_eq_true_eq] at hp
    have hp' : a < g.MM.length := by omega
    refine H.Q.ld0 rfl hp' ?_
    rw [sb2 AX, ldI_some]
    refine k17 _ ?_
    rw [beq_iff_eq]
    exact ⟨fun h => ⟨hp', h⟩, fun h => h.2⟩
  · simp only [decide_eq_false_iff_not] at hp
    refine k17 _ ?_
    exact ⟨fun h => (by cases h), fun h => absurd h.1 (by omega)⟩
theorem rfplay_loop (hl : sl ≤ 100) (hW : W ≤ 4) (hW1 : 1 ≤ W) (R0 : Recs h0 p0 sl 3 s) (f0 : ∀ i, i < sl → ∃ n, s i 0 = .int .i64 n) (f1 : ∀ i, i < sl → ∃ n, s i 1 = .int .i64 n) (f2 : ∀ i, i < sl → ∃ n, s i 2 = .int .u32 n ∧ 0 ≤ n ∧ n ≤ 4294967295) :
    ∀ (gas i : Nat), sl - i < gas → i ≤ sl → ∀ (h : Heap) (g : G10), PS h0 lo r M S B W h g → g.fm = g.f → g.Lm = g.L → g.N ≤ 4 * i → g.MM.length ≤ i →
      F10.wL10 gas p0 sl cap (some ⟨r, 0, none⟩) W g.q g.MM.length g.qc (some ⟨B, 0, none⟩) W W (i : Int) h (Lawful h0) := by
  intro gas
  induction gas with
  | zero => intro i hg; omega
  | succ gas ih =>
    intro i hg hi h g H ef eL hN hM
    unfold F10.wL10 F10.JL10
    by_cases hlt : i < sl
    · rw [decide_eq_true (by omega), bcase_true]
      obtain ⟨a, ea, r0⟩ := (R0.only H.O (by simp)) i 0 hlt (by omega)
      obtain ⟨a', ea', r1⟩ := (R0.only H.O (by simp)) i 1 hlt (by omega)
      obtain ⟨a2, ea2, r2⟩ := (R0.only H.O (by simp)) i 2 hlt (by omega)
      rw [ea] at ea' ea2
      injection ea' with ea'
      injection ea2 with ea2
      subst ea'
      subst ea2
      obtain ⟨wh, hw⟩ := f0 i hlt
      obtain ⟨wo, hid⟩ := f1 i hlt
      obtain ⟨x, hkey, hx⟩ := f2 i hlt
      rw [hw] at r0
      rw [hid] at r1
      rw [hkey] at r2
      have next : ∀ h g, PS h0 lo r M S B W h g → g.fm = g.f → g.Lm = g.L → g.N ≤ 4 * (i + 1) → g.MM.length ≤ i + 1 → (fun x1p x1l x1c x5 x6 x7p x7l x7c x8p x8l x8c x9 h => F10.wL10 gas x1p x1l x1c x5 x6 x7p x7l x7c x8p x8l x8c x9 h (Lawful h0)) p0 sl cap (some ⟨r, 0, none⟩) (W : Int) g.q g.MM.length g.qc (some ⟨B, 0, none⟩) W W ((i + 1 : Nat) : Int) h :=
        fun h g H ef eL hN hM => ih (i + 1) (by omega) (by omega) h g H ef eL hN hM
      rw [ea] at next ⊢
      simp only [ptrK_some, Int.toNat_natCast, add_add]
      refine ⟨by omega, by omega, ldI_of r0 (ldI_of r1 (ldI_of r2 (newK_at fun h1 A1 O1 z1 => ?_)))⟩
      simp only [add_mk, Nat.zero_add]
      refine stK_at A1 (by simp) rfl fun h2 A2 O2 z2 => stK_at A2 (by simp) rfl fun h3 A3 O3 z3 => stK_at A3 (by simp) rfl fun h4 A4 O4 z4 => ?_
      have O14 : Only [] h h4 := ((O1.trans O2 (by intro b hb hlt; simp at hb; omega)).trans O3 (by intro b hb hlt; simp at hb; omega)).trans O4 (by intro b hb hlt; simp at hb; omega)
      have A4 : At h4 h.size [.int .i64 wh, .int .i64 wo, .int .u32 x] := A4
      have H4 := H.tag O14 4
      have hs4 : tgUp g.τ h.size 4 h.size = 4 := tgUp_new (Nat.le_refl _)
      unfold F10.wk14 F10.Jk14
      have find : ∀ (d j : Nat), j + d = g.MM.length → (∀ k, k < j → (atL g.MM k).1 < x) →
          F10.wL14 (fun x1p x1l x1c x5 x6 x7p x7l x7c x8p x8l x8c x9 h => F10.wL10 gas x1p x1l x1c x5 x6 x7p x7l x7c x8p x8l x8c x9 h (Lawful h0)) (d + 1) (some a) sl cap (some ⟨r, 0, none⟩) W g.q g.MM.length g.qc (some ⟨B, 0, none⟩) W W (i : Int) ⟨h.size, 0, none⟩ (j : Int) h4 (Lawful h0) := by
        intro d
        induction d with
        | zero =>
          intro j hd hj
          unfold F10.wL14 F10.JL14
          rw [show decide ((j : Int) < (g.MM.length : Int)) = false by simp; omega, bcase_false]
          exact step16 (g := { g with τ := tgUp g.τ h.size 4 }) next H4 A4 hs4 ef eL hN hM (by omega) hW hW1 hx (by show j ≤ g.MM.length; omega) hj (.inl (by show j = g.MM.length; omega))
        | succ d ihd =>
          intro j hd hj
          have hjl : j < g.MM.length := by omega
          unfold F10.wL14 F10.JL14
          rw [show decide ((j : Int) < (g.MM.length : Int)) = true by simp; omega, bcase_true, show IntKind.wrap .i64 ((j : Int) + 1) = ((j + 1 : Nat) : Int) by rw [wrap_i64 (by omega) (by omega)]; omega]
          refine H4.Q.ld0 rfl hjl ?_
          rw [sb2 A4, ldI_some]
          refine bcase_of (fun e => ?_) fun e => ?_
          · simp only [decide_eq_true_eq] at e
            refine ihd (j + 1) (by omega) fun k hk => ?_
            by_cases hkj : k = j
            · rw [hkj]; exact e
            · exact hj k (by omega)
          · simp only [decide_eq_false_iff_not] at e
            exact step16 (g := { g with τ := tgUp g.τ h.size 4 }) next H4 A4 hs4 ef eL hN hM (by omega) hW hW1 hx (by show j ≤ g.MM.length; omega) hj (.inr (by show x ≤ (atL g.MM j).1; omega))
      exact ⟨_, find g.MM.length 0 (by omega) fun k hk => by omega⟩
    · rw [decide_eq_false (by omega), bcase_false]
      exact ⟨rfl, H.O⟩
end
theorem rfplay_law (h : Heap) (v : Int) (_ : IntKind.min .i64 ≤ v ∧ v ≤ IntKind.max .i64) (p : Option Addr) (c l : Nat) (s : Nat → Nat → Value) (R : Recs h p l 3 s) (_ : (l : Int) ≤ maxLen)
    (f0 : ∀ i, i < l → ∃ n, s i 0 = .int .i64 n ∧ IntKind.min .i64 ≤ n ∧ n ≤ IntKind.max .i64) (f1 : ∀ i, i < l → ∃ n, s i 1 = .int .i64 n ∧ IntKind.min .i64 ≤ n ∧ n ≤ IntKind.max .i64)
    (f2 : ∀ i, i < l → ∃ n, s i 2 = .int .u32 n ∧ IntKind.min .u32 ≤ n ∧ n ≤ IntKind.max .u32) :
    CallsH Try.prog 10 [.int .i64 v, .slice p l c] h (Lawful h) := by
  refine F10.spec _ _ _ _ h _ ?_
  unfold F10.w F10.J0
  refine known27 fun h1 O1 => ?_
  rw [ldB_some, show (!true) = false from rfl, bcase_false]
  refine bcase_of (fun _ => ⟨rfl, O1⟩) fun hl => ?_
  simp only [decide_eq_false_iff_not] at hl
  refine new28 fun h2 r M S H2 O2 => ?_
  rw [ldP_some]
  have ew : (if (if (4 : Int) < v then (4 : Int) else v) > (1 : Int) then (if (4 : Int) < v then (4 : Int) else v) else (1 : Int)) = wkI v := by
    unfold wkI
    repeat' split
    all_goals omega
  rw [ew]
  have hw := wkI_range v
  obtain ⟨W, eW⟩ : ∃ W : Nat, wkI v = W := ⟨(wkI v).toNat, by omega⟩
  rw [eW] at hw H2 ⊢
  rw [Int.toNat_natCast] at H2 ⊢
  refine ⟨by omega, by omega, by omega, by omega, newK_at fun h3 A3 O3 z3 => ?_⟩
  rw [toList_madeCells_one, rep_rowV, Nat.mul_one] at A3
  unfold F10.wk10 F10.Jk10
  have l2 := H2.lt
  have s1 := O1.size
  have s2 := O2.size
  refine ⟨_, rfplay_loop (lo := h1.size) (r := r) (M := M) (S := S) (B := h2.size) (W := W) (by omega) (by omega) (by omega) R (fun i hi => let ⟨n, e, _⟩ := f0 i hi; ⟨n, e⟩) (fun i hi => let ⟨n, e, _⟩ := f1 i hi; ⟨n, e⟩) (fun i hi => by
      obtain ⟨n, e, h⟩ := f2 i hi
      rw [show IntKind.min .u32 = 0 by decide, show IntKind.max .u32 = 4294967295 by decide] at h
      exact ⟨n, e, h⟩) (l + 1) 0 (by omega) (by omega) h3
    ⟨0, fun _ => 0, fun _ => 0, fun _ => none, fun _ => 0, fun _ => [], fun _ => none, fun _ => 0, fun _ => [], none, 0, [], fun b => if b < h2.size then 1 else 2⟩ ?_ rfl rfl (Nat.zero_le _) (Nat.zero_le _)⟩
  refine ⟨H2.new O3, ⟨A3, fun k hk => Own.nil _ _ _, fun k hk => Nat.le_refl _, s2, fun k hk b hb => (by simp [OwnB] at hb)⟩, Own.nil _ _ _, ⟨List.Pairwise.nil, fun x => ?_, fun y hy => (by cases hy)⟩, ⟨if_pos l2.1, if_pos l2.2.2.1, if_pos l2.2.1⟩, fun k hk b hb => (by simp [OwnB] at hb), if_neg (by omega), fun k hk b hb => (by simp [OwnB] at hb), fun b hb => (by simp [OwnB] at hb), (O1.trans O2 (by simp)).trans O3 (by simp), s1, by omega⟩
  exact ⟨fun ⟨y, hy, _⟩ => (by cases hy), fun h => absurd rfl h⟩
end Go.Proofs.Ytipckkeaoncjiaa.Ev
