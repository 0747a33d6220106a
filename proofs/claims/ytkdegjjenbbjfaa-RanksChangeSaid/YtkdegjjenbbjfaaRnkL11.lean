/- THE LAW OF RANKS CHANGED (RanksChange). Conditions: none. -/
import Derived.Test.YtkdegjjenbbjfaaRnkK
namespace Go.Proofs.Ytkdegjjenbbjfaa.Ev
open Go

section
variable {h0 : Heap} {p0 : Option Addr} {cap : Nat} {ks : List Int} {q pi mb : Nat}

def chgC (ks : List Int) (i : Nat) : List It := (List.range i).map fun (k : Nat) => ((k : Int), ks.getD k 0)
theorem chgC_succ (ks : List Int) (i : Nat) : chgC ks (i + 1) = chgC ks i ++ [((i : Int), ks.getD i 0)] := by simp [chgC, List.range_succ]
theorem chgC_len (ks : List Int) (i : Nat) : (chgC ks i).length = i := by simp [chgC]
theorem chgC_mem {ks : List Int} {i : Nat} {y : It} (h : y ∈ chgC ks i) : ∃ k : Nat, k < i ∧ y = ((k : Int), ks.getD k 0) := by
  simp only [chgC, List.mem_map, List.mem_range] at h
  obtain ⟨k, hk, rfl⟩ := h
  exact ⟨k, hk, rfl⟩
/-- what the laws want a key to be -/
def wantC (ks : List Int) (a : Nat) (t : Int) (k : Nat) : Int := if k = a then t else ks.getD k 0

theorem rchg_pops (hl : ks.length ≤ 60) (hI : Ints h0 .i8 p0 ks) (hg : ∀ z ∈ ks, IntKind.min .i8 ≤ z ∧ z ≤ IntKind.max .i8) {lo : Nat} (hlo : h0.size ≤ lo) {p : Option Addr} {c a b : Nat} {t : Int} (ht0 : -128 ≤ t) (ht1 : t ≤ 127) (h2l : 2 ≤ ks.length) :
    ∀ (gas out : Nat) (L : List It) (last : Int) (h : Heap), L.length < gas → out + L.length = ks.length - 1 → Qu h lo q pi mb p c L → (∀ y ∈ L, ∃ k : Nat, k < ks.length ∧ k ≠ b ∧ y = ((k : Int), wantC ks a t k)) → (∀ y ∈ L, y.2 ≤ last) → Only [] h0 h →
      F11.wL15 gas p0 ks.length cap t (some ⟨q, 0, none⟩) (a : Int) (b : Int) (out : Int) last h (Lawful h0) := by
  intro gas
  induction gas with
  | zero => intro out L last h hg; omega
  | succ gas ih =>
    intro out L last h hg' hout Q hC hlast O
    unfold F11.wL15 F11.JL15
    refine qlen33 Q (ldI_of rfl ?_)
    by_cases hpos : 0 < L.length
    · rw [decide_eq_true (by omega), bcase_true]
      refine qpop32 Q (by omega) (fun e => by rw [e] at hpos; simp at hpos) fun h1 M _ Q1 r1 O1 => ⟨_, _, _, rfl, ?_⟩
      have P1 := Q.nil O hlo O1
      refine newIt fun h2 A2 O2 z2 => ?_
      have Q2 := Q1.only O2 (by simp)
      have P2 := P1.nil O2 (by simp)
      obtain ⟨k, hk, hkb, hx⟩ := hC _ (atL_mem hpos)
      have hb := Q.best
      have hlx := hlast _ (atL_mem hpos)
      rw [hx] at A2 hb hlx
      simp only [add_mk, Nat.zero_add]
      refine ldI_of (n := (k : Int)) (by rw [A2.rd]; rfl) ?_
      rw [decide_eq_true (by omega), bcase_true]
      refine ldI_of (n := (k : Int)) (by rw [A2.rd]; rfl) ?_
      rw [decide_eq_true (by omega), bcase_true]
      refine ldI_of (n := (k : Int)) (by rw [A2.rd]; rfl) ?_
      obtain ⟨a0, ea, er⟩ := hI.only P2 (by simp) k hk
      subst ea
      have hz := range_getD hg hk
      have hz0 : -128 ≤ ks.getD k 0 := hz.1
      have hz1 : ks.getD k 0 ≤ 127 := hz.2
      refine ⟨by omega, by omega, ?_⟩
      rw [Int.toNat_natCast, Nat.mul_one, er, ldI_some, wrap_i64 (n := ks.getD k 0) (by omega) (by omega)]
      have hM : M.length + 1 = L.length := by
        have := r1.length_eq
        simpa using this
      have fin : F11.wk22 (fun x0p x0l x0c x2 x9 x11 x12 x13 x14 h => F11.wL15 gas x0p x0l x0c x2 x9 x11 x12 x13 x14 h (Lawful h0)) (some a0) ks.length cap t (some ⟨q, 0, none⟩) (a : Int) (b : Int) (out : Int) last ⟨h1.size, 0, none⟩ true (wantC ks a t k) h2 (Lawful h0) := by
        unfold F11.wk22 F11.Jk22
        rw [Bool.not_true, bcase_false]
        simp only [add_mk, Nat.zero_add]
        refine ldI_of (n := (k : Int)) (by rw [A2.rd]; rfl) ?_
        rw [show ((k : Int) == (b : Int)) = false by simp; omega, bcase_false]
        refine ldI_of (n := wantC ks a t k) (by rw [A2.rd]; rfl) ?_
        rw [bne_self_eq_false, bcase_false]
        refine ldI_of (n := wantC ks a t k) (by rw [A2.rd]; rfl) ?_
        rw [decide_eq_false (show ¬ wantC ks a t k > last by have : wantC ks a t k ≤ last := hlx; omega), bcase_false]
        refine ldI_of (n := wantC ks a t k) (by rw [A2.rd]; rfl) ?_
        rw [show IntKind.wrap .i64 ((out : Int) + 1) = ((out + 1 : Nat) : Int) by rw [wrap_i64 (by omega) (by omega)]; omega]
        refine ih (out + 1) M (wantC ks a t k) h2 (by omega) (by omega) Q2 (fun y hy => hC y (r1.mem_iff.1 (List.mem_append.2 (Or.inl hy)))) (fun y hy => ?_) P2
        have h3 := hb y (r1.mem_iff.1 (List.mem_append.2 (Or.inl hy)))
        simp only [bet, beq_iff_eq, Bool.or_eq_false_iff, Bool.and_eq_false_imp, decide_eq_false_iff_not] at h3
        omega
      unfold F11.wk20 F11.Jk20
      simp only [add_mk, Nat.zero_add]
      refine ldI_of (n := (k : Int)) (by rw [A2.rd]; rfl) (bcase_of (fun e => ?_) fun e => ?_)
      · have e : k = a := by
          have e : (k : Int) = (a : Int) := by simpa using e
          omega
        rw [wrap_i64 (n := t) (by omega) (by omega)]
        unfold wantC at fin
        rw [if_pos e] at fin
        exact fin
      · have e : k ≠ a := by
          intro e'
          rw [e'] at e
          simp at e
        unfold wantC at fin
        rw [if_neg e] at fin
        exact fin
    · rw [decide_eq_false (by omega), bcase_false]
      unfold F11.wk26 F11.Jk26
      refine ⟨?_, O⟩
      rw [show IntKind.wrap .i64 ((ks.length : Int) - 1) = (out : Int) by rw [wrap_i64 (by omega) (by omega)]; omega, beq_self_eq_true]
theorem rchg_push (hl : ks.length ≤ 60) (h2l : 2 ≤ ks.length) (hI : Ints h0 .i8 p0 ks) (hg : ∀ z ∈ ks, IntKind.min .i8 ≤ z ∧ z ≤ IntKind.max .i8) {lo : Nat} (hlo : h0.size ≤ lo) {x1 x2 x3 : Int} (g1 : IntKind.min .u8 ≤ x1 ∧ x1 ≤ IntKind.max .u8) (g2 : IntKind.min .i8 ≤ x2 ∧ x2 ≤ IntKind.max .i8) (g3 : IntKind.min .u8 ≤ x3 ∧ x3 ≤ IntKind.max .u8) :
    ∀ (gas i : Nat) (p : Option Addr) (c : Nat) (L : List It) (h : Heap), ks.length - i < gas → i ≤ ks.length → Qu h lo q pi mb p c L → L.Perm (chgC ks i) → lo ≤ h.size → Only [] h0 h →
      F11.wL7 gas p0 ks.length cap x1 x2 x3 (some ⟨q, 0, none⟩) (i : Int) h (Lawful h0) := by
  intro gas
  induction gas with
  | zero => intro i p c L h hg; omega
  | succ gas ih =>
    intro i p c L h hg' hi Q r hs O
    unfold F11.wL7 F11.JL7
    have hlen := r.length_eq
    rw [chgC_len] at hlen
    by_cases hlt : i < ks.length
    · rw [decide_eq_true (by omega), bcase_true]
      obtain ⟨a, rfl, ha⟩ := hI.only O (by simp) i hlt
      have hz := range_getD hg hlt
      have hz0 : -128 ≤ ks.getD i 0 := hz.1
      have hz1 : ks.getD i 0 ≤ 127 := hz.2
      refine ⟨by omega, by omega, ?_⟩
      rw [Int.toNat_natCast, Nat.mul_one, ha, ldI_some, wrap_i64 (n := ks.getD i 0) (by omega) (by omega)]
      refine qpush31 (x := ((i : Int), ks.getD i 0)) Q (by omega) hs (fun hh => ?_) fun _ h1 p1 c1 L1 Q1 r1 O1 _ => ldB_of rfl ?_
      · exfalso
        obtain ⟨y, hy, e⟩ := (hasId_perm r).1 hh
        obtain ⟨k, hk, rfl⟩ := chgC_mem hy
        have e : (k : Int) = (i : Int) := e
        omega
      rw [show IntKind.wrap .i64 ((i : Int) + 1) = ((i + 1 : Nat) : Int) by rw [wrap_i64 (by omega) (by omega)]; omega]
      refine ih (i + 1) p1 c1 L1 h1 (by omega) (by omega) Q1 ?_ (by have := O1.size; omega) (Q.nil O hlo O1)
      rw [chgC_succ]
      exact r1.trans (r.append_right _)
    · rw [decide_eq_false (by omega), bcase_false]
      obtain rfl : i = ks.length := by omega
      unfold F11.wk10 F11.Jk10
      have w1 : 0 ≤ x1 := g1.1
      have w1' : x1 ≤ 255 := g1.2
      have w2 : -128 ≤ x2 := g2.1
      have w2' : x2 ≤ 127 := g2.2
      have w3 : 0 ≤ x3 := g3.1
      have w3' : x3 ≤ 255 := g3.2
      obtain ⟨a, ha, hal⟩ : ∃ a : Nat, Int.tmod (IntKind.wrap .i64 x1) (ks.length : Int) = a ∧ a < ks.length := by
        rw [wrap_i64 (by omega) (by omega), Int.tmod_eq_emod_of_nonneg w1]
        have h3 := Int.emod_nonneg x1 (by omega : (ks.length : Int) ≠ 0)
        have h4 := Int.emod_lt_of_pos x1 (by omega : (0 : Int) < (ks.length : Int))
        exact ⟨(x1 % (ks.length : Int)).toNat, by omega, by omega⟩
      obtain ⟨b, hb, hbl⟩ : ∃ b : Nat, Int.tmod (IntKind.wrap .i64 x3) (ks.length : Int) = b ∧ b < ks.length := by
        rw [wrap_i64 (by omega) (by omega), Int.tmod_eq_emod_of_nonneg w3]
        have h3 := Int.emod_nonneg x3 (by omega : (ks.length : Int) ≠ 0)
        have h4 := Int.emod_lt_of_pos x3 (by omega : (0 : Int) < (ks.length : Int))
        exact ⟨(x3 % (ks.length : Int)).toNat, by omega, by omega⟩
      rw [ha, hb, wrap_i64 (n := x2) (by omega) (by omega)]
      refine ⟨by omega, by omega, ?_⟩
      have hmemC : ∀ k : Nat, k < ks.length → ((k : Int), ks.getD k 0) ∈ chgC ks ks.length := fun k hk => List.mem_map.2 ⟨k, List.mem_range.2 hk, rfl⟩
      refine qchange34 Q (by omega) (fun hn => absurd ((hasId_perm r).2 ⟨_, hmemC a hal, rfl⟩) hn) fun k h1 L1 hk hid Q1 r1 O1 => ldB_of rfl ?_
      rw [Bool.not_true, bcase_false]
      have P1 := Q.nil O hlo O1
      have n1 := r1.length_eq
      rw [List.length_set] at n1
      -- what L1 holds
      have hL : ∀ y ∈ L, ∃ j : Nat, j < ks.length ∧ y = ((j : Int), ks.getD j 0) := fun y hy => by
        obtain ⟨j, hj, e⟩ := chgC_mem (r.mem_iff.1 hy)
        exact ⟨j, hj, e⟩
      have hL1 : ∀ y ∈ L1, ∃ j : Nat, j < ks.length ∧ y = ((j : Int), wantC ks a x2 j) := fun y hy => by
        have hy := r1.mem_iff.1 hy
        obtain ⟨j, hj, e⟩ := List.mem_iff_getElem.1 hy
        rw [List.length_set] at hj
        rw [List.getElem_set] at e
        by_cases hkj : k = j
        · rw [if_pos hkj] at e
          exact ⟨a, hal, by rw [← e]; simp [wantC]⟩
        · rw [if_neg hkj] at e
          obtain ⟨j', hj', e'⟩ := hL L[j] (List.getElem_mem hj)
          refine ⟨j', hj', ?_⟩
          have hja : j' ≠ a := by
            intro h3
            have hids := Q.ids
            rw [List.nodup_iff_pairwise_ne, List.pairwise_map, List.pairwise_iff_getElem] at hids
            have e1 : L[j].1 = L[k].1 := by rw [e', h3, atL_get hk, hid]
            rcases Nat.lt_or_gt_of_ne hkj with h4 | h4
            · exact hids k j hk hj h4 e1.symm
            · exact hids j k hj hk h4 e1
          rw [← e, e']
          simp [wantC, hja]
      have hids1 : ∀ j : Nat, j < ks.length → hasId L1 (j : Int) := fun j hj => by
        rw [hasId_perm r1]
        obtain ⟨i', hi', e⟩ := (hasId_perm r).2 ⟨_, hmemC j hj, rfl⟩
        by_cases hki : i' = k
        · subst hki
          rw [hid] at e
          exact ⟨((a : Int), x2), List.mem_iff_getElem.2 ⟨i', by rw [List.length_set]; exact hi', by simp⟩, e⟩
        · refine ⟨atL L i', List.mem_iff_getElem.2 ⟨i', by rw [List.length_set]; exact hi', ?_⟩, e⟩
          rw [List.getElem_set, if_neg (Ne.symm hki), atL_get hi']
      refine qdrop35 Q1 (by omega) (fun hn => absurd (hids1 b hbl) hn) fun k2 h2 M hk2 hid2 Q2 r2 O2 => ldB_of rfl ?_
      rw [Bool.not_true, bcase_false]
      have P2 := Q1.nil P1 hlo O2
      have hidsM := popped_ids r2 Q1.ids
      have n2 := r2.length_eq
      simp at n2
      have hMb : ¬ hasId M (b : Int) := by
        rw [hasId_iff]
        rintro ⟨y, hy, e⟩
        exact hidsM y hy (e.trans hid2.symm)
      refine qdrop35 Q2 (by omega) (fun _ => ldB_of rfl ?_) fun k3 _ _ hk3 hid3 _ _ _ => absurd ⟨k3, hk3, hid3⟩ hMb
      rw [bcase_false]
      refine qchange34 Q2 (by omega) (fun _ => ldB_of rfl ?_) fun k3 _ _ hk3 hid3 _ _ _ => absurd ⟨k3, hk3, hid3⟩ hMb
      rw [bcase_false]
      unfold F11.wk15 F11.Jk15
      refine ⟨M.length + 1, rchg_pops hl hI hg hlo w2 w2' h2l (M.length + 1) 0 M 1000 h2 (by omega) (by omega) Q2 (fun y hy => ?_) (fun y hy => ?_) P2⟩
      · obtain ⟨j, hj, e⟩ := hL1 y (r2.mem_iff.1 (List.mem_append.2 (Or.inl hy)))
        refine ⟨j, hj, fun h3 => ?_, e⟩
        have := hidsM y hy
        rw [e, hid2] at this
        exact this (by rw [h3])
      · obtain ⟨j, hj, e⟩ := hL1 y (r2.mem_iff.1 (List.mem_append.2 (Or.inl hy)))
        rw [e]
        show wantC ks a x2 j ≤ 1000
        have hz := range_getD hg hj
        have hz1 : ks.getD j 0 ≤ 127 := hz.2
        unfold wantC
        split <;> omega
end

theorem rchg_law (h : Heap) (p : Option Addr) (c : Nat) (ks : List Int) (hI : Ints h .i8 p ks) (hg : ∀ z ∈ ks, IntKind.min .i8 ≤ z ∧ z ≤ IntKind.max .i8) (_ : (ks.length : Int) ≤ maxLen) (x1 : Int) (g1 : IntKind.min .u8 ≤ x1 ∧ x1 ≤ IntKind.max .u8) (x2 : Int) (g2 : IntKind.min .i8 ≤ x2 ∧ x2 ≤ IntKind.max .i8) (x3 : Int) (g3 : IntKind.min .u8 ≤ x3 ∧ x3 ≤ IntKind.max .u8) :
    CallsH Try.prog 11 [.slice p ks.length c, .int .u8 x1, .int .i8 x2, .int .u8 x3] h (Lawful h) := by
  apply F11.spec
  unfold F11.w F11.J0
  refine known5 fun h1 O1 => ldB_of rfl ?_
  rw [Bool.not_true, bcase_false]
  refine bcase_of (fun _ => ⟨rfl, O1⟩) fun hl1 => bcase_of (fun _ => ⟨rfl, O1⟩) fun hl => ?_
  simp at hl hl1
  refine qnew30 fun q pi mb h2 Q2 O2 => ldP_of rfl ?_
  unfold F11.wk7 F11.Jk7
  exact ⟨ks.length + 1, rchg_push (by omega) (by omega) hI hg O1.size g1 g2 g3 (ks.length + 1) 0 none 0 [] h2 (by omega) (by omega) Q2 (by simp [chgC]) O2.size (O1.nil O2 (by simp))⟩
end Go.Proofs.Ytkdegjjenbbjfaa.Ev
