/- RefsPlay: every step, seen from the heap. Conditions: the refs, the stacks and the row of counts stand (PS). -/
import Derived.Test.YtipckkeaoncjiaaRefS
namespace Go.Proofs.Ytipckkeaoncjiaa.Ev
open Go

section
variable {h0 : Heap} {lo r M S B W : Nat} {h : Heap} {g : G10} {bk : BK} {p0 : Option Addr} {sl cap i sb a : Nat} {wh wo x : Int} {inn th : Bool}
theorem k20_none (hk : F10.wk46 bk p0 sl cap (some ⟨r, 0, none⟩) W g.q g.MM.length g.qc (some ⟨B, 0, none⟩) W W i ⟨sb, 0, none⟩ inn h (Lawful h0)) :
    F10.wk20 bk p0 sl cap (some ⟨r, 0, none⟩) W g.q g.MM.length g.qc (some ⟨B, 0, none⟩) W W i ⟨sb, 0, none⟩ inn 0 false false h (Lawful h0) := by
  unfold F10.wk20 F10.Jk20
  rw [show (!(false == false)) = false from rfl, bcase_false, show (!false) = true from rfl, bcase_true, show ((0 : Int) != 0) = false by decide, bcase_false, bcase_false]
  exact hk
theorem step27 (next : ∀ h g, PS h0 lo r M S B W h g → g.fm = g.f → g.Lm = g.L → g.N ≤ 4 * (i + 1) → g.MM.length ≤ i + 1 → bk p0 sl cap (some ⟨r, 0, none⟩) W g.q g.MM.length g.qc (some ⟨B, 0, none⟩) W W ((i + 1 : Nat) : Int) h)
    (H : PS h0 lo r M S B W h g) (AX : At h sb [.int .i64 wh, .int .i64 wo, .int .u32 x]) (hs : g.τ sb = 4) (ef : g.fm = g.f) (eL : g.Lm = g.L) (hN : g.N ≤ 4 * i) (hM : g.MM.length ≤ i) (hi : i < 100) (hW : W ≤ 4) (hW1 : 1 ≤ W) (hin : inn = true ↔ 0 ≤ wo ∧ wo < W)
    (hx : 0 ≤ x ∧ x ≤ 4294967295) (ha : a ≤ g.MM.length) (h1 : ∀ j, j < a → (atL g.MM j).1 < x) (h2 : a = g.MM.length ∨ x ≤ (atL g.MM a).1) (hth : th = true ↔ (a < g.MM.length ∧ (atL g.MM a).1 = x)) :
    F10.wk27 bk p0 sl cap (some ⟨r, 0, none⟩) W g.q g.MM.length g.qc (some ⟨B, 0, none⟩) W W i ⟨sb, 0, none⟩ a th inn h (Lawful h0) := by
  have hLB : LB = 140737488355328 := rfl
  unfold F10.wk27 F10.Jk27
  rw [sb0 AX, ldI_some]
  refine bcase_of (fun _ => ?_) fun _ => ?_
  · rw [sb2 AX, ldI_some]
    exact stepP next H AX hs ef eL hN hM hi hW hin hx ha h1 h2 hth
  rw [ldI_some]
  refine bcase_of (fun _ => ?_) fun _ => ?_
  · -- Unprotect
    rw [sb2 AX, ldI_some]
    have fN := (H.R.fr x).2
    have f0 := (H.R.fr x).1
    refine unp36 H.R (by omega) (fun hf => ?_) fun hf k1 R1 O1 => ?_
    · rw [ldI_some]
      have hth' : th = false := by
        rcases H.I.place ha h1 h2 with ⟨_, _, hf', _⟩ | ⟨hnt, _⟩
        · rw [ef] at hf'; exact absurd hf hf'
        · cases th
          · rfl
          · exact absurd (hth.1 rfl) hnt
      rw [hth', show (!(((61 : Int) == 0) == false)) = false by decide, bcase_false, bcase_false]
      exact k46 next H AX ef eL (by omega) (by omega) hi hW hin
    · rw [ldI_some]
      rcases H.I.place ha h1 h2 with ⟨ht, hax, _, e⟩ | ⟨_, hf', _⟩
      · rw [hth.2 ⟨ht, hax⟩, show (!(((0 : Int) == 0) == true)) = false by decide, bcase_false, bcase_true]
        rw [ef] at e
        have va : atL g.MM a = (x, g.f x) := by
          have v := H.I.val (atL g.MM a) (by simp [atL, List.getD, ht])
          rw [hax, ef] at v
          exact Prod.ext hax v
        have X1 : ∀ b ∈ [M], b < h.size → g.τ b = 1 := fun b hb _ => by simp at hb; subst hb; exact H.t1.2.1
        have H1 := H.opR O1 X1 (fun b hb _ => by simp at hb; subst hb; exact H.R.ge.2.2) R1 (by omega) fun k hk b hb => .inl hb
        have A1 := AX.stay hs O1 X1 (by decide)
        have hs1 : tgUp g.τ h.size 1 sb = 4 := (tgUp_old AX.lt).trans hs
        refine H1.Q.ld1 rfl ht (H1.Q.st1 rfl ht fun k2 Q2 O2 => ?_)
        dsimp only at Q2
        rw [va] at Q2
        dsimp only at Q2
        rw [wrap_i64 (by omega) (by omega)] at Q2
        have sm : ∀ v, g.MM.set a (x, v) = g.MM.take a ++ (x, v) :: g.MM.drop (a + 1) := fun v => set_mid ht e
        have hI := H.I
        rw [e, ef] at hI
        obtain ⟨M3, e3⟩ : ∃ M3, M3 = g.MM.set a (x, g.f x - 1) := ⟨_, rfl⟩
        have l3 : M3.length = g.MM.length := by rw [e3, List.length_set]
        rw [← e3] at Q2
        have at3 : atL M3 a = (x, g.f x - 1) := by rw [e3]; simp [atL, List.getD, ht]
        have X3 : ∀ b ∈ OwnB g.q, b < k1.size → tgUp g.τ h.size 1 b = 3 := fun b hb _ => H1.t3 b hb
        have A2 := A1.stay (g := { g with τ := tgUp g.τ h.size 1 }) hs1 O2 X3 (by decide)
        rw [← l3]
        refine Q2.ld1 rfl (by omega) ?_
        rw [at3]
        dsimp only
        refine bcase_of (fun hz => ?_) fun hz => ?_
        · have hz' : g.f x - 1 = 0 := by simpa using hz
          have s1 := O1.size
          have s2 := O2.size
          have hsz := H.hsz
          refine erase_app Q2 (by omega) (by omega) (by omega) fun p4 c4 k4 Q4 O4 hp4 => ?_
          have e4 : M3.eraseIdx a = g.MM.take a ++ g.MM.drop (a + 1) := by
            rw [e3, sm, List.eraseIdx_append_of_length_le (by simp; omega)]
            simp [Nat.min_eq_left (Nat.le_of_lt ht)]
          have I4 : MI (fup g.fm x (g.fm x - 1)) (M3.eraseIdx a) := by
            rw [e4, ef, hz']
            exact hI.del.1
          have O24 : Only (OwnB g.q) k1 k4 := O2.trans O4 (by simp)
          have H4 := H1.opQ O24 X3 (fun b hb _ => (H1.Q.lt b hb).1) Q4 I4 fun b hb => .inr (by have := hp4 b hb; omega)
          have A4 := A1.stay (g := { g with τ := tgUp g.τ h.size 1 }) hs1 O24 X3 (by decide)
          have out := k46 next H4 A4 (by show fup g.fm x (g.fm x - 1) = fup g.f x (g.f x - 1); rw [ef]) eL (by show g.N + 1 ≤ _; omega) (by show (M3.eraseIdx a).length ≤ _; rw [List.length_eraseIdx]; split <;> omega) hi hW hin
          exact out
        · have hz' : g.f x - 1 ≠ 0 := by simpa using hz
          have I4 : MI (fup g.fm x (g.fm x - 1)) M3 := by
            rw [e3, sm, ef]
            exact hI.set hz'
          have H4 := H1.opQ O2 X3 (fun b hb _ => (H1.Q.lt b hb).1) Q2 I4 fun b hb => .inl hb
          have out := k46 next H4 A2 (by show fup g.fm x (g.fm x - 1) = fup g.f x (g.f x - 1); rw [ef]) eL (by show g.N + 1 ≤ _; omega) (by show M3.length ≤ _; omega) hi hW hin
          exact out
      · rw [ef] at hf'; exact absurd hf' hf
  rw [ldI_some]
  refine bcase_of (fun _ => ?_) fun _ => ?_
  · -- Push
    rw [sb1 AX, ldI_some, sb2 AX, ldI_some]
    refine push29 H.R (by omega) H.hsz (fun hx => ?_) fun k ek hk k1 p' c' R1 O1 hp1 => ?_
    · have hi' : inn = false := by
        cases inn
        · rfl
        · exact absurd (hin.1 rfl) hx
      rw [ldB_some]
      subst hi'
      rw [show (!(false == false)) = false from rfl, bcase_false, bcase_false]
      exact k46 next H AX ef eL (by omega) (by omega) hi hW hin
    · have hi' : inn = true := hin.2 ⟨by omega, by omega⟩
      rw [ldB_some]
      subst hi'
      rw [show (!(true == true)) = false from rfl, bcase_false, bcase_true]
      have X1 : ∀ b ∈ S :: OwnB (g.p k), b < h.size → g.τ b = 1 := fun b hb _ => by
        rcases List.mem_cons.1 hb with rfl | hb
        · exact H.t1.2.2
        · exact H.t1p k hk b hb
      have H1 := H.opR O1 X1 (fun b hb _ => by
        rcases List.mem_cons.1 hb with rfl | hb
        · exact H.R.ge.2.1
        · exact (H.R.lt.2.2.2 k hk b hb).1) R1 (by omega) fun j hj b hb => by
        unfold pup at hb
        by_cases e : j = k
        · rw [if_pos e] at hb; rw [e]; exact hp1 b hb
        · rw [if_neg e] at hb; exact .inl hb
      have A1 := AX.stay hs O1 X1 (by decide)
      have hs1 : tgUp g.τ h.size 1 sb = 4 := (tgUp_old AX.lt).trans hs
      have out := own_push next H1 A1 hs1 ef ek hk (by show pup g.Lm k (g.Lm k ++ [x]) = pup g.L k (g.L k ++ [x]); rw [eL]) (by show g.N + 1 ≤ _; omega) (by show g.MM.length ≤ _; omega) hi hW hin
      exact out
  -- Pop
  rw [sb1 AX, ldI_some]
  refine pop30 H.R (by omega) (fun hx => ?_) fun k l xv ek hk el k1 R1 O1 => ⟨_, _, rfl, ?_⟩
  · refine ⟨_, _, rfl, ?_⟩
    refine bcase_of (fun hi' => ?_) fun hi' => ?_
    · have hr := hin.1 hi'
      obtain ⟨k, rfl⟩ : ∃ k : Nat, wo = k := ⟨wo.toNat, by omega⟩
      have hk : k < W := by omega
      have le : g.L k = [] := by
        rcases hx with h | h
        · exact absurd hr h
        · rwa [Int.toNat_natCast] at h
      rw [sb1 AX, ldI_some]
      have mx : (if (if (IntKind.wrap .i64 ((W : Int) - (1 : Int))) < (k : Int) then (IntKind.wrap .i64 ((W : Int) - (1 : Int))) else (k : Int)) > (0 : Int) then (if (IntKind.wrap .i64 ((W : Int) - (1 : Int))) < (k : Int) then (IntKind.wrap .i64 ((W : Int) - (1 : Int))) else (k : Int)) else (0 : Int)) = (k : Int) := by
        rw [wrap_i64 (by omega) (by omega), if_neg (by omega : ¬ (W : Int) - 1 < (k : Int))]
        split <;> omega
      rw [mx]
      refine H.T.ldT rfl hk ?_
      rw [eL, le, show decide (((([] : List Int).length : Nat) : Int) > 0) = false by decide]
      exact k20_none (k46 next H AX ef eL (by omega) (by omega) hi hW hin)
    · exact k20_none (k46 next H AX ef eL (by omega) (by omega) hi hW hin)
  · have hi' : inn = true := hin.2 ⟨by omega, by omega⟩
    have X1 : ∀ b ∈ [S], b < h.size → g.τ b = 1 := fun b hb _ => by simp at hb; subst hb; exact H.t1.2.2
    have H1 := H.opR O1 X1 (fun b hb _ => by simp at hb; subst hb; exact H.R.ge.2.1) R1 (Nat.le_refl _) fun j hj b hb => .inl hb
    have A1 := AX.stay hs O1 X1 (by decide)
    have hs1 : tgUp g.τ h.size 1 sb = 4 := (tgUp_old AX.lt).trans hs
    rw [hi', bcase_true, sb1 A1, ldI_some]
    have mx : (if (if (IntKind.wrap .i64 ((W : Int) - (1 : Int))) < wo then (IntKind.wrap .i64 ((W : Int) - (1 : Int))) else wo) > (0 : Int) then (if (IntKind.wrap .i64 ((W : Int) - (1 : Int))) < wo then (IntKind.wrap .i64 ((W : Int) - (1 : Int))) else wo) else (0 : Int)) = (k : Int) := by
      subst ek
      rw [wrap_i64 (by omega) (by omega), if_neg (by omega : ¬ (W : Int) - 1 < (k : Int))]
      split <;> omega
    rw [mx]
    have elm : g.Lm k = l ++ [xv] := by rw [eL]; exact el
    refine H1.T.ldT rfl hk ?_
    rw [show decide ((((g.Lm k).length : Nat) : Int) > 0) = true by rw [elm]; simp <;> omega]
    have out := k20_pop next H1 A1 hs1 ef ek hk elm (by show pup g.Lm k l = pup g.L k l; rw [eL]) (by show g.N ≤ _; omega) (by show g.MM.length ≤ _; omega) hi hW (inn := true) (by rw [hi'] at hin; exact hin)
    exact out
end
end Go.Proofs.Ytipckkeaoncjiaa.Ev
