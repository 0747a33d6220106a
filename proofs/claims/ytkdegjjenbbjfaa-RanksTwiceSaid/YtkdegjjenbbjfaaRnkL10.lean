/- THE LAW OF RANKS TWICE (RanksTwice). Conditions: none. -/
import Derived.Test.YtkdegjjenbbjfaaRnkK
namespace Go.Proofs.Ytkdegjjenbbjfaa.Ev
open Go

section
variable {h0 : Heap} {p0 : Option Addr} {cap : Nat} {ks : List Int} {q pi mb : Nat}

/-- whether a number is in it -/
def inR (L : List It) (j : Nat) : Bool := L.any fun y => y.1 == (j : Int)
theorem inR_iff {L : List It} {j : Nat} : inR L j = true ↔ hasId L (j : Int) := by
  rw [hasId_iff]
  simp [inR]
theorem inR_congr {L M : List It} (h : ∀ j : Nat, hasId L (j : Int) ↔ hasId M (j : Int)) (j : Nat) : inR L j = inR M j := by
  have := h j
  rw [← inR_iff, ← inR_iff] at this
  cases h1 : inR L j <;> cases h2 : inR M j <;> simp_all
def inV (L : List It) : List Value := rowV 256 fun j => .bool (inR L j)

theorem rtwice_loop (hl : ks.length ≤ 80) (hI : Ints h0 .u8 p0 ks) (hg : ∀ z ∈ ks, IntKind.min .u8 ≤ z ∧ z ≤ IntKind.max .u8) {lo ib : Nat} (hlo : h0.size ≤ lo) (hib : h0.size ≤ ib) :
    ∀ (gas i : Nat) (p : Option Addr) (c : Nat) (L : List It) (h : Heap), ks.length - i < gas → i ≤ ks.length → Qu h lo q pi mb p c L → L.length ≤ i → (∀ y ∈ L, 0 ≤ y.1 ∧ y.1 ≤ 255) → At h ib (inV L) → ib ∉ q :: pi :: mb :: OwnB p → lo ≤ h.size → Only [] h0 h →
      F10.wL9 gas p0 ks.length cap (some ⟨q, 0, none⟩) ⟨ib, 0, none⟩ (L.length : Int) (i : Int) h (Lawful h0) := by
  intro gas
  induction gas with
  | zero => intro i p c L h hg; omega
  | succ gas ih =>
    intro i p c L h hg' hi Q hL hr Ai hsep hs O
    unfold F10.wL9 F10.JL9
    by_cases hlt : i < ks.length
    · rw [decide_eq_true (by omega), bcase_true]
      obtain ⟨a, rfl, ha⟩ := hI.only O (by simp) i hlt
      have hz := range_getD hg hlt
      have hz0 : 0 ≤ ks.getD i 0 := hz.1
      have hz1 : ks.getD i 0 ≤ 255 := hz.2
      refine ⟨by omega, by omega, ?_⟩
      rw [Int.toNat_natCast, Nat.mul_one, ha, ldI_some]
      obtain ⟨k, hk⟩ : ∃ k : Nat, ks.getD i 0 = k := ⟨(ks.getD i 0).toNat, by omega⟩
      rw [hk] at hz0 hz1 ⊢
      simp only [add_mk, Nat.zero_add, Nat.add_zero, Int.toNat_natCast, Nat.mul_one]
      refine ⟨by decide, by omega, by omega, ldB_of (n := inR L k) (by rw [Ai.rd, inV, rowV_get (by omega)]) ?_⟩
      rw [wrap_i64 (n := (k : Int)) (by omega) (by omega)]
      -- behind the push
      have after : ∀ (h1 : Heap) (p1 : Option Addr) (c1 : Nat) (L1 : List It), Qu h1 lo q pi mb p1 c1 L1 → L1.length ≤ i + 1 → 0 < L1.length → (∀ y ∈ L1, 0 ≤ y.1 ∧ y.1 ≤ 255) → At h1 ib (inV L1) → ib ∉ q :: pi :: mb :: OwnB p1 → lo ≤ h1.size → Only [] h0 h1 →
          F10.wk17 (fun x0p x0l x0c x3 x4 x5 x6 h => F10.wL9 gas x0p x0l x0c x3 x4 x5 x6 h (Lawful h0)) (some a) ks.length cap (some ⟨q, 0, none⟩) ⟨ib, 0, none⟩ (L1.length : Int) (i : Int) h1 (Lawful h0) := by
        intro h1 p1 c1 L1 Q1 hL1 hpos hr1 Ai1 hsep1 hs1 O1
        unfold F10.wk17 F10.Jk17
        have last : ∀ (h2 : Heap) (L2 : List It), Qu h2 lo q pi mb p1 c1 L2 → L2.length ≤ i + 1 → (∀ y ∈ L2, 0 ≤ y.1 ∧ y.1 ≤ 255) → At h2 ib (inV L2) → lo ≤ h2.size → Only [] h0 h2 →
            F10.wk23 (fun x0p x0l x0c x3 x4 x5 x6 h => F10.wL9 gas x0p x0l x0c x3 x4 x5 x6 h (Lawful h0)) (some a) ks.length cap (some ⟨q, 0, none⟩) ⟨ib, 0, none⟩ (L2.length : Int) (i : Int) h2 (Lawful h0) := by
          intro h2 L2 Q2 hL2 hr2 Ai2 hs2 O2
          unfold F10.wk23 F10.Jk23
          refine qlen33 Q2 (ldI_of rfl ?_)
          rw [bne_self_eq_false, bcase_false, show IntKind.wrap .i64 ((i : Int) + 1) = ((i + 1 : Nat) : Int) by rw [wrap_i64 (by omega) (by omega)]; omega]
          exact ih (i + 1) p1 c1 L2 h2 (by omega) (by omega) Q2 hL2 hr2 Ai2 hsep1 hs2 O2
        refine ⟨by decide, bcase_of (fun _ => ?_) fun _ => last h1 L1 Q1 hL1 hr1 Ai1 hs1 O1⟩
        refine qpop32 Q1 (by omega) (fun e => by rw [e] at hpos; simp at hpos) fun h2 M _ Q2 r2 O2 => ⟨_, _, _, rfl, ?_⟩
        have Ai2 := Ai1.only O2 fun hb => hsep1 (List.mem_cons_of_mem _ hb)
        have P2 := Q1.nil O1 hlo O2
        refine newIt fun h3 A3 O3 z3 => ?_
        have Q3 := Q2.only O3 (by simp)
        have Ai3 := Ai2.only O3 (by simp)
        have P3 := P2.nil O3 (by simp)
        have hxm := atL_mem hpos
        have hx := hr1 _ hxm
        have hids := popped_ids r2 Q1.ids
        have hML : M.length + 1 = L1.length := by
          have := r2.length_eq
          simpa using this
        rw [Bool.not_true, bcase_false]
        obtain ⟨y, hy⟩ : ∃ y : Nat, (atL L1 0).1 = y := ⟨(atL L1 0).1.toNat, by omega⟩
        rw [hy] at hx A3
        simp only [add_mk, Nat.zero_add, Nat.add_zero]
        refine ldI_of (n := (y : Int)) (by rw [A3.rd]; rfl) ?_
        rw [decide_eq_false (by omega), bcase_false]
        refine ldI_of (n := (y : Int)) (by rw [A3.rd]; rfl) ?_
        rw [decide_eq_false (by omega), bcase_false]
        refine ldI_of (n := (y : Int)) (by rw [A3.rd]; rfl) ⟨by omega, by omega, ?_⟩
        rw [Int.toNat_natCast, Nat.mul_one]
        have hin : inR L1 y = true := inR_iff.2 (hasId_iff.2 ⟨_, hxm, hy⟩)
        refine ldB_of (n := true) (by rw [Ai3.rd, inV, rowV_get (by omega), hin]) ?_
        rw [Bool.not_true, bcase_false]
        refine ldI_of (n := (y : Int)) (by rw [A3.rd]; rfl) ⟨by omega, by omega, ?_⟩
        rw [Int.toNat_natCast, Nat.mul_one]
        refine stK_at Ai3 (by simp only [inV, rowV_len]; omega) rfl fun h4 A4 O4 z4 => ?_
        rw [show IntKind.wrap .i64 ((L1.length : Int) - 1) = (M.length : Int) by rw [wrap_i64 (by omega) (by omega)]; omega]
        have Q4 := Q3.only O4 fun b hb => by
          have : b ≠ ib := fun e => hsep1 (e ▸ hb)
          simpa using this
        have sz := O2.size
        have sz3 := O3.size
        refine last h4 M Q4 (by omega) (fun z hz => hr1 z (r2.mem_iff.1 (List.mem_append.2 (Or.inl hz)))) ?_ (by omega) (P3.nil O4 (by simpa using hib))
        rw [inV, rowV_set] at A4
        unfold inV
        rw [show (rowV 256 fun j => Value.bool (inR M j)) = rowV 256 fun j => if j = y then Value.bool false else Value.bool (inR L1 j) from rowV_ext fun j _ => ?_]
        · exact A4
        · by_cases e : j = y
          · subst e
            rw [if_pos rfl]
            cases hm : inR M j with
            | false => rfl
            | true =>
              obtain ⟨z, hz, hz2⟩ := hasId_iff.1 (inR_iff.1 hm)
              exact absurd (hz2.trans hy.symm) (hids z hz)
          · rw [if_neg e]
            congr 1
            have h1 : hasId M (j : Int) ↔ hasId L1 (j : Int) := by
              rw [hasId_iff, hasId_iff]
              constructor
              · rintro ⟨z, hz, hz2⟩
                exact ⟨z, r2.mem_iff.1 (List.mem_append.2 (Or.inl hz)), hz2⟩
              · rintro ⟨z, hz, hz2⟩
                rcases List.mem_append.1 (r2.mem_iff.2 hz) with h | h
                · exact ⟨z, h, hz2⟩
                · simp at h
                  subst h
                  rw [hy] at hz2
                  exact absurd (by omega : j = y) e
            rw [← inR_iff, ← inR_iff] at h1
            cases h2 : inR M j <;> cases h3 : inR L1 j <;> simp_all
      refine qpush31 (x := ((k : Int), Int.tmod (k : Int) 7)) Q (by omega) hs (fun hh => ldB_of rfl ?_) fun hh h1 p1 c1 L1 Q1 r1 O1 hp1 => ldB_of rfl ?_
      · have hin : inR L k = true := inR_iff.2 hh
        refine ⟨by trivial, by omega, by omega, by trivial, ldB_of (n := inR L k) (by rw [Ai.rd, inV, rowV_get (by omega)]) ⟨by trivial, ?_⟩⟩
        rw [hin, show (false == true) = false from rfl, bcase_false]
        refine ⟨by omega, by omega, ldB_of (n := true) (by rw [Ai.rd, inV, rowV_get (by omega), hin]) ?_⟩
        rw [Bool.not_true, bcase_false]
        have hpos : 0 < L.length := by
          obtain ⟨j, hj, -⟩ := hh
          omega
        exact after h p c L Q (by omega) hpos hr Ai hsep hs O
      · have hin : inR L k = false := by
          cases hc : inR L k with
          | false => rfl
          | true => exact absurd (inR_iff.1 hc) hh
        have Ai1 := Ai.only O1 fun hb => hsep (List.mem_cons_of_mem _ hb)
        have P1 := Q.nil O hlo O1
        refine ⟨by trivial, by omega, by omega, by trivial, ldB_of (n := inR L k) (by rw [Ai1.rd, inV, rowV_get (by omega)]) ⟨by trivial, ?_⟩⟩
        rw [hin, show (true == false) = false from rfl, bcase_false]
        refine ⟨by omega, by omega, ldB_of (n := false) (by rw [Ai1.rd, inV, rowV_get (by omega), hin]) ?_⟩
        rw [Bool.not_false, bcase_true]
        refine ⟨by omega, by omega, stK_at Ai1 (by simp only [inV, rowV_len]; omega) rfl fun h2 A2 O2 z2 => ?_⟩
        have n1 := r1.length_eq
        simp at n1
        rw [show IntKind.wrap .i64 ((L.length : Int) + 1) = (L1.length : Int) by rw [wrap_i64 (by omega) (by omega)]; omega]
        have lti := Ai.lt
        have hsep1 : ib ∉ q :: pi :: mb :: OwnB p1 := fun hb => by
          simp only [List.mem_cons] at hb hsep
          rcases hb with hb | hb | hb | hb
          · exact hsep (Or.inl hb)
          · exact hsep (Or.inr (Or.inl hb))
          · exact hsep (Or.inr (Or.inr (Or.inl hb)))
          · rcases hp1 _ hb with h3 | h3
            · exact hsep (Or.inr (Or.inr (Or.inr h3)))
            · omega
        have Q2 := Q1.only O2 fun b hb => by
          have : b ≠ ib := fun e => hsep1 (e ▸ hb)
          simpa using this
        have sz1 := O1.size
        refine after h2 p1 c1 L1 Q2 (by omega) (by omega) (fun y hy => ?_) ?_ hsep1 (by omega) (P1.nil O2 (by simpa using hib))
        · rcases List.mem_append.1 (r1.mem_iff.1 hy) with h | h
          · exact hr y h
          · simp at h
            subst h
            exact ⟨hz0, hz1⟩
        · rw [inV, rowV_set] at A2
          unfold inV
          rw [show (rowV 256 fun j => Value.bool (inR L1 j)) = rowV 256 fun j => if j = k then Value.bool true else Value.bool (inR L j) from rowV_ext fun j _ => ?_]
          · exact A2
          · by_cases e : j = k
            · subst e
              rw [if_pos rfl]
              congr 1
              exact inR_iff.2 (hasId_iff.2 ⟨((j : Int), Int.tmod (j : Int) 7), r1.mem_iff.2 (by simp), rfl⟩)
            · rw [if_neg e]
              congr 1
              have h1 : hasId L1 (j : Int) ↔ hasId L (j : Int) := by
                rw [hasId_iff, hasId_iff]
                constructor
                · rintro ⟨z, hz, hz2⟩
                  rcases List.mem_append.1 (r1.mem_iff.1 hz) with h | h
                  · exact ⟨z, h, hz2⟩
                  · simp at h
                    subst h
                    exact absurd (show j = k by have hz2 : (k : Int) = j := hz2; omega) e
                · rintro ⟨z, hz, hz2⟩
                  exact ⟨z, r1.mem_iff.2 (List.mem_append.2 (Or.inl hz)), hz2⟩
              rw [← inR_iff, ← inR_iff] at h1
              cases h2 : inR L1 j <;> cases h3 : inR L j <;> simp_all
    · rw [decide_eq_false (by omega), bcase_false]
      exact ⟨rfl, O⟩
end

theorem rtwice_law (h : Heap) (p : Option Addr) (c : Nat) (ks : List Int) (hI : Ints h .u8 p ks) (hg : ∀ z ∈ ks, IntKind.min .u8 ≤ z ∧ z ≤ IntKind.max .u8) (_ : (ks.length : Int) ≤ maxLen) :
    CallsH Try.prog 10 [.slice p ks.length c] h (Lawful h) := by
  apply F10.spec
  unfold F10.w F10.J0
  refine known5 fun h1 O1 => ldB_of rfl ?_
  rw [Bool.not_true, bcase_false]
  refine bcase_of (fun _ => ⟨rfl, O1⟩) fun hl => ?_
  simp at hl
  refine qnew30 fun q pi mb h2 Q2 O2 => ldP_of rfl (newK_at fun h3 A3 O3 z3 => ?_)
  rw [rowV_const] at A3
  have s1 := O1.size
  have s2 := O2.size
  unfold F10.wk9 F10.Jk9
  exact ⟨ks.length + 1, rtwice_loop (by omega) hI hg O1.size (by omega) (ks.length + 1) 0 none 0 [] h3 (by omega) (by omega) (Q2.only O3 (by simp)) (by simp) (by simp) A3 (fun hb => by have := (Q2.lt _ hb).2; omega) (by omega) ((O1.nil O2 (by simp)).nil O3 (by simp))⟩
end Go.Proofs.Ytkdegjjenbbjfaa.Ev
