/- THE LAW OF RANKS SORTED (RanksSort). Conditions: none. -/
import Derived.Test.YtkdegjjenbbjfaaRnkK
namespace Go.Proofs.Ytkdegjjenbbjfaa.Ev
open Go

section
variable {h0 : Heap} {p0 : Option Addr} {cap : Nat} {ks : List Int} {q pi mb : Nat}

/-- what was pushed so far -/
def sortC (ks : List Int) (i : Nat) : List It := (List.range i).map fun k => (((k * 37 % 101 : Nat) : Int), ks.getD k 0)
theorem sortC_succ (ks : List Int) (i : Nat) : sortC ks (i + 1) = sortC ks i ++ [(((i * 37 % 101 : Nat) : Int), ks.getD i 0)] := by simp [sortC, List.range_succ]
theorem sortC_len (ks : List Int) (i : Nat) : (sortC ks i).length = i := by simp [sortC]
theorem sortC_mem {ks : List Int} {i : Nat} {y : It} (h : y ∈ sortC ks i) : ∃ k, k < i ∧ y = (((k * 37 % 101 : Nat) : Int), ks.getD k 0) := by
  simp only [sortC, List.mem_map, List.mem_range] at h
  obtain ⟨k, hk, rfl⟩ := h
  exact ⟨k, hk, rfl⟩

theorem rsort_end {lo : Nat} {p : Option Addr} {c : Nat} {h : Heap} (Q : Qu h lo q pi mb p c []) (O : Only [] h0 h) : F9.wk19 (some ⟨q, 0, none⟩) h (Lawful h0) := by
  unfold F9.wk19 F9.Jk19
  refine qpop32 Q (by decide) (fun _ h1 Q1 O1 => ⟨_, _, _, rfl, ?_⟩) fun _ _ hn => by simp at hn
  refine newIt fun h2 A2 O2 z2 => ?_
  rw [Bool.not_false, bcase_true]
  refine qlen33 (Q1.only O2 (by simp)) (ldI_of rfl ⟨rfl, (O.nil O1 (by simp)).nil O2 (by simp)⟩)
theorem rsort_pops (hl : ks.length ≤ 100) {lo lb : Nat} (hlo : h0.size ≤ lo) (hlb : h0.size ≤ lb) {p : Option Addr} {c : Nat} (hsep : lb ∉ q :: pi :: mb :: OwnB p) :
    ∀ (L : List It) (gas j : Nat) (li lk : Int) (h : Heap), ks.length - j < gas → L.length = ks.length - j → j ≤ ks.length → Qu h lo q pi mb p c L → At h lb [.int .i64 li, .int .i64 lk] → (∀ y ∈ L, y.2 < lk ∨ y.2 = lk ∧ li < y.1) → Only [] h0 h →
      F9.wL13 gas p0 ks.length cap (some ⟨q, 0, none⟩) ⟨lb, 0, none⟩ (j : Int) h (Lawful h0) := by
  intro L gas
  induction gas generalizing L with
  | zero => intro j li lk h hg; omega
  | succ gas ih =>
    intro j li lk h hg hlen hj Q Al hlast O
    unfold F9.wL13 F9.JL13
    by_cases hlt : j < ks.length
    · rw [decide_eq_true (by omega), bcase_true]
      have hpos : 0 < L.length := by omega
      refine qpop32 Q (by omega) (fun e => by rw [e] at hpos; simp at hpos) fun h1 M _ Q1 r1 O1 => ⟨_, _, _, rfl, ?_⟩
      have Al1 := Al.only O1 fun hb => hsep (List.mem_cons_of_mem _ hb)
      have P1 := Q.nil O hlo O1
      refine newIt fun h2 A2 O2 z2 => ?_
      have Q2 := Q1.only O2 (by simp)
      have Al2 := Al1.only O2 (by simp)
      have P2 := P1.nil O2 (by simp)
      have hx := hlast _ (atL_mem hpos)
      have hb := Q.best
      have hn := Q.ids
      have hids := popped_ids r1 hn
      rw [Bool.not_true, bcase_false]
      simp only [add_mk, Nat.zero_add]
      have hM : M.length = ks.length - (j + 1) := by
        have := r1.length_eq
        simp at this
        omega
      have next : stK h2 ⟨lb, 0, none⟩ (.int .i64 (atL L 0).1) (fun h18 => stK h18 ⟨lb, 1, none⟩ (.int .i64 (atL L 0).2) (fun h19 => F9.wL13 gas p0 ks.length cap (some ⟨q, 0, none⟩) ⟨lb, 0, none⟩ (IntKind.wrap .i64 ((j : Int) + (1 : Int))) h19 (Lawful h0))) := by
        refine stK_at Al2 (by simp) rfl fun h3 A3 O3 z3 => stK_at A3 (by simp) rfl fun h4 A4 O4 z4 => ?_
        have O34 := O3.trans O4 (by simp)
        rw [show IntKind.wrap .i64 ((j : Int) + 1) = ((j + 1 : Nat) : Int) by rw [wrap_i64 (by omega) (by omega)]; omega]
        refine ih M (j + 1) (atL L 0).1 (atL L 0).2 h4 (by omega) hM (by omega) (Q2.only O34 fun b hb' => ?_) A4 (fun y hy => ?_) (P2.nil O34 (by simpa using hlb))
        · have : b ≠ lb := fun e => hsep (e ▸ hb')
          simpa using this
        · have hyL : y ∈ L := r1.mem_iff.1 (List.mem_append.2 (Or.inl hy))
          have h1 := hb y hyL
          have h2 := hids y hy
          simp only [bet, beq_iff_eq, Bool.or_eq_false_iff, Bool.and_eq_false_imp, decide_eq_false_iff_not] at h1
          omega
      refine ldI_of (n := (atL L 0).2) (by rw [A2.rd]; rfl) (ldI_of (n := lk) (by rw [Al2.rd]; rfl) ?_)
      rw [decide_eq_false (by omega), bcase_false]
      refine ldI_of (n := (atL L 0).2) (by rw [A2.rd]; rfl) (ldI_of (n := lk) (by rw [Al2.rd]; rfl) (bcase_of (fun e => ?_) fun e => ?_))
      · have e : (atL L 0).2 = lk := by simpa using e
        refine ldI_of (n := (atL L 0).1) (by rw [A2.rd]; rfl) (ldI_of (n := li) (by rw [Al2.rd]; rfl) ?_)
        rw [decide_eq_false (by omega), bcase_false]
        exact ldI_of (n := (atL L 0).1) (by rw [A2.rd]; rfl) (ldI_of (n := (atL L 0).2) (by rw [A2.rd]; rfl) next)
      · exact ldI_of (n := (atL L 0).1) (by rw [A2.rd]; rfl) (ldI_of (n := (atL L 0).2) (by rw [A2.rd]; rfl) next)
    · rw [decide_eq_false (by omega), bcase_false]
      have : L = [] := List.length_eq_zero_iff.1 (by omega)
      subst this
      exact rsort_end Q O
theorem rsort_push (hl : ks.length ≤ 100) (hI : Ints h0 .i8 p0 ks) (hg : ∀ z ∈ ks, IntKind.min .i8 ≤ z ∧ z ≤ IntKind.max .i8) {lo : Nat} (hlo : h0.size ≤ lo) :
    ∀ (gas i : Nat) (p : Option Addr) (c : Nat) (L : List It) (h : Heap), ks.length - i < gas → i ≤ ks.length → Qu h lo q pi mb p c L → L.Perm (sortC ks i) → lo ≤ h.size → Only [] h0 h →
      F9.wL7 gas p0 ks.length cap (some ⟨q, 0, none⟩) (i : Int) h (Lawful h0) := by
  intro gas
  induction gas with
  | zero => intro i p c L h hg; omega
  | succ gas ih =>
    intro i p c L h hg' hi Q r hs O
    unfold F9.wL7 F9.JL7
    have hlen := r.length_eq
    rw [sortC_len] at hlen
    by_cases hlt : i < ks.length
    · rw [decide_eq_true (by omega), bcase_true]
      obtain ⟨a, rfl, ha⟩ := hI.only O (by simp) i hlt
      have hz := range_getD hg hlt
      have hz0 : -128 ≤ ks.getD i 0 := hz.1
      have hz1 : ks.getD i 0 ≤ 127 := hz.2
      refine ⟨by decide, by omega, by omega, ?_⟩
      rw [Int.toNat_natCast, Nat.mul_one, ha, ldI_some]
      have e1 : Int.tmod (IntKind.wrap .i64 ((i : Int) * (37 : Int))) (101 : Int) = ((i * 37 % 101 : Nat) : Int) := by
        rw [wrap_i64 (by omega) (by omega), Int.tmod_eq_emod_of_nonneg (by omega)]
        omega
      rw [e1, wrap_i64 (n := ks.getD i 0) (by omega) (by omega)]
      refine qpush31 (x := (((i * 37 % 101 : Nat) : Int), ks.getD i 0)) Q (by omega) hs (fun hh => ?_) fun _ h1 p1 c1 L1 Q1 r1 O1 _ => ldB_of rfl ?_
      · exfalso
        obtain ⟨y, hy, e⟩ := (hasId_perm r).1 hh
        obtain ⟨k, hk, rfl⟩ := sortC_mem hy
        have e : ((k * 37 % 101 : Nat) : Int) = ((i * 37 % 101 : Nat) : Int) := e
        omega
      rw [Bool.not_true, bcase_false]
      rw [show IntKind.wrap .i64 ((i : Int) + 1) = ((i + 1 : Nat) : Int) by rw [wrap_i64 (by omega) (by omega)]; omega]
      refine ih (i + 1) p1 c1 L1 h1 (by omega) (by omega) Q1 ?_ (by have := O1.size; omega) (Q.nil O hlo O1)
      rw [sortC_succ]
      exact r1.trans (r.append_right _)
    · rw [decide_eq_false (by omega), bcase_false]
      obtain rfl : i = ks.length := by omega
      unfold F9.wk11 F9.Jk11
      refine newIt fun h2 A2 O2 z2 => ?_
      unfold F9.wk13 F9.Jk13
      refine ⟨ks.length + 1, rsort_pops hl hlo (lb := h.size) O.size (fun hb => by have := (Q.lt _ hb).2; omega) L (ks.length + 1) 0 (-1) 1000 h2 (by omega) (by omega) (by omega) (Q.only O2 (by simp)) A2 (fun y hy => ?_) (O.nil O2 (by simp))⟩
      obtain ⟨k, hk, rfl⟩ := sortC_mem (r.mem_iff.1 hy)
      have hz := range_getD hg hk
      have hz1 : ks.getD k 0 ≤ 127 := hz.2
      left
      show ks.getD k 0 < 1000
      omega
end

theorem rsort_law (h : Heap) (p : Option Addr) (c : Nat) (ks : List Int) (hI : Ints h .i8 p ks) (hg : ∀ z ∈ ks, IntKind.min .i8 ≤ z ∧ z ≤ IntKind.max .i8) (_ : (ks.length : Int) ≤ maxLen) :
    CallsH Try.prog 9 [.slice p ks.length c] h (Lawful h) := by
  apply F9.spec
  unfold F9.w F9.J0
  refine known5 fun h1 O1 => ldB_of rfl ?_
  rw [Bool.not_true, bcase_false]
  refine bcase_of (fun _ => ⟨rfl, O1⟩) fun hl => ?_
  simp at hl
  refine qnew30 fun q pi mb h2 Q2 O2 => ldP_of rfl ?_
  unfold F9.wk7 F9.Jk7
  exact ⟨ks.length + 1, rsort_push (by omega) hI hg O1.size (ks.length + 1) 0 none 0 [] h2 (by omega) (by omega) Q2 (by simp [sortC]) O2.size (O1.nil O2 (by simp))⟩
end Go.Proofs.Ytkdegjjenbbjfaa.Ev
