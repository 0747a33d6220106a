/- THE LAW OF A DEQUE's PLAYS (DequePlays). Conditions: none. -/
import Derived.Test.YtipckkeaoncjiaaDeqL2
import Derived.Test.YtipckkeaoncjiaaEvM
namespace Go.Proofs.Ytipckkeaoncjiaa.Ev
open Go

section
variable {h0 : Heap} {d m mc n : Nat} {p : Option Addr} {cap : Nat} {ks : List Int}

theorem dplays_next (s1 : h0.size ≤ m) (s2 : h0.size ≤ mc) {i g : Nat} (hi : i < 100)
    (ih : ∀ (wp : Option Addr) (wc : Nat) (cs : List Int) (T : Nat) (q : List Int) (ops fails : Int) (h : Heap), DW h d m mc 0 n cs ops fails → DS 0 n cs T q → T + q.length ≤ 2 * (i + 1) → Win h h0.size wp q.length wc (q.map (.int .u64)) → (∀ b ∈ OwnB wp, b ≠ d ∧ b ≠ m ∧ b ≠ mc) → Only [] h0 h →
      F3.wL12 g p ks.length cap (n : Int) (some ⟨d, 0, none⟩) wp q.length wc ((i + 1 : Nat) : Int) h (Lawful h0))
    {wp : Option Addr} {l wc : Nat} {cs : List Int} {T : Nat} {q : List Int} {ops fails : Int} {h : Heap} (W : DW h d m mc 0 n cs ops fails) (S : DS 0 n cs T q) (hT : T + q.length ≤ 2 * (i + 1)) (hl : l = q.length) (Wn : Win h h0.size wp l wc (q.map (.int .u64))) (sep : ∀ b ∈ OwnB wp, b ≠ d ∧ b ≠ m ∧ b ≠ mc) (O : Only [] h0 h) :
    F3.wk34 (fun x1p x1l x1c x5 x7 x9p x9l x9c x10 h => F3.wL12 g x1p x1l x1c x5 x7 x9p x9l x9c x10 h (Lawful h0)) p ks.length cap (n : Int) (some ⟨d, 0, none⟩) wp l wc (i : Int) h (Lawful h0) := by
  subst hl
  unfold F3.wk34 F3.Jk34
  refine lenDS W S (by omega) fun h1 o1 W1 O1 => ldI_of rfl ?_
  rw [bne_self_eq_false, bcase_false, show IntKind.wrap .i64 ((i : Int) + 1) = ((i + 1 : Nat) : Int) by rw [wrap_i64 (by omega) (by omega)]; omega]
  exact ih wp wc cs T q o1 fails h1 W1 S hT (Wn.only O1 fun b hb => by have := sep b hb; simp; omega) sep (O.nil O1 (by simp [s1, s2]))

theorem dplays_loop (hl : ks.length ≤ 100) (hI : Ints h0 .u8 p ks) (hg : ∀ z ∈ ks, IntKind.min .u8 ≤ z ∧ z ≤ IntKind.max .u8) (s1 : h0.size ≤ m) (s2 : h0.size ≤ mc) :
    ∀ (g i : Nat) (wp : Option Addr) (wc : Nat) (cs : List Int) (T : Nat) (q : List Int) (ops fails : Int) (h : Heap), ks.length - i < g → i ≤ ks.length → DW h d m mc 0 n cs ops fails → DS 0 n cs T q → T + q.length ≤ 2 * i → Win h h0.size wp q.length wc (q.map (.int .u64)) → (∀ b ∈ OwnB wp, b ≠ d ∧ b ≠ m ∧ b ≠ mc) → Only [] h0 h →
      F3.wL12 g p ks.length cap (n : Int) (some ⟨d, 0, none⟩) wp q.length wc (i : Int) h (Lawful h0) := by
  intro g
  induction g with
  | zero => intro i wp wc cs T q ops fails h hg; omega
  | succ g ih =>
    intro i wp wc cs T q ops fails h hg' hi W S hT Wn sep O
    have hM : ∀ x ∈ [m, mc], h0.size ≤ x := by simp [s1, s2]
    have hn2 := W.hn2
    have lt := W.lt
    have sl := S.len
    unfold F3.wL12 F3.JL12
    by_cases hlt : i < ks.length
    · rw [decide_eq_true (by omega), bcase_true]
      obtain ⟨a, rfl, ha⟩ := hI.only O (by simp) i hlt
      have hz := range_getD hg hlt
      refine ⟨by omega, by omega, ?_⟩
      rw [Int.toNat_natCast, Nat.mul_one, ha, ldI_some]
      refine ⟨by omega, by omega, ?_⟩
      rw [ha, ldI_some]
      have hz0 : 0 ≤ ks.getD i 0 := hz.1
      have hz1 : ks.getD i 0 ≤ 255 := hz.2
      obtain ⟨v, hv, hv0, hv1⟩ : ∃ v : Int, IntKind.wrap .u64 ((IntKind.wrap .u64 (ks.getD i 0)) + (IntKind.wrap .u64 ((100 : Int) * (IntKind.wrap .u64 (i : Int))))) = v ∧ 0 ≤ v ∧ v < 100000 := by
        rw [wrap_u64 (n := (i : Int)) (by omega) (by omega), wrap_u64 (n := (100 : Int) * (i : Int)) (by omega) (by omega), wrap_u64 (n := ks.getD i 0) (by omega) (by omega), wrap_u64 (by omega) (by omega)]
        exact ⟨_, rfl, by omega, by omega⟩
      rw [hv]
      have next := @dplays_next h0 d m mc n (some a) cap ks s1 s2 i g (by omega) (fun wp wc cs T q ops fails h a b c d e f => ih (i + 1) wp wc cs T q ops fails h (by omega) (by omega) a b c d e f)
      have sepM : ∀ b ∈ OwnB wp, b ∉ [m, mc] := fun b hb => by
        have := sep b hb
        simp
        omega
      refine ⟨by decide, bcase_of (fun _ => bcase_of (fun _ => ?_) fun _ => bcase_of (fun _ => ?_) fun _ => ?_) fun _ => bcase_of (fun _ => ?_) fun _ => bcase_of (fun _ => ?_) fun _ => ?_⟩
      · refine pushrun W S (by omega) fun h2 o2 f2 cs2 r1 r2 r3 W2 O2 => ⟨_, _, rfl, ?_⟩
        have s2' := O2.size
        by_cases hr : q.length < n
        · rw [decide_eq_true hr, decide_eq_true (show (q.length : Int) < (n : Int) by omega), if_pos hr]
          simp only [beq_self_eq_true, Bool.not_true, bcase_false, bcase_true, bne_self_eq_false]
          refine newK_at fun h3 A3 O3 z3 => ?_
          refine win_app (lo := h0.size) ((Wn.only O2 sepM).only O3 (by simp)) A3 (by omega) rfl (by have := O.size; omega) fun p' c' h4 Wn4 O4 hp' => ?_
          have sepH : ∀ b ∈ OwnB p', b ≠ d ∧ b ≠ m ∧ b ≠ mc := fun b hb => by
            rcases hp' b hb with h1 | h1
            · exact sep b h1
            · omega
          refine next ((W2.only O3 (by simp) (by simp) (by simp)).only O4 (fun hb => (sep _ hb).1 rfl) (fun hb => (sep _ hb).2.1 rfl) (fun hb => (sep _ hb).2.2 rfl)) (r1 hr) (by simp; omega) (by simp) (by simpa using Wn4) sepH ?_
          exact ((O.nil O2 hM).nil O3 (by simp)).nil O4 fun b hb => (Wn.lt b hb).1
        · rw [decide_eq_false hr, decide_eq_false (show ¬ (q.length : Int) < (n : Int) by omega), if_neg hr]
          simp only [beq_self_eq_true, Bool.not_true, Bool.not_false, bcase_false, bcase_true, bne_self_eq_false]
          have e := r2 hr
          subst e
          exact next W2 S (by omega) rfl (Wn.only O2 sepM) sep (O.nil O2 hM)
      · refine poprun W S (by omega) (fun eq h2 o2 f2 cs2 S2 A2 W2 O2 => ⟨_, _, rfl, ?_⟩) fun x q' T' eq le h2 o2 f2 cs2 S2 A2 W2 O2 => ⟨_, _, rfl, ?_⟩
        · subst eq
          rw [decide_eq_false (show ¬ ((([] : List Int).length : Int) > (0 : Int)) by simp)]
          simp only [beq_self_eq_true, Bool.not_true, Bool.not_false, bcase_false, bcase_true, bne_self_eq_false]
          exact next W2 S2 (by simp; omega) rfl (Wn.only O2 sepM) sep (O.nil O2 hM)
        · subst eq
          have Wn2 := Wn.only O2 sepM
          have hln : (q' ++ [x]).length = q'.length + 1 := by simp
          rw [decide_eq_true (show (((q' ++ [x]).length : Int) > (0 : Int)) by omega)]
          simp only [beq_self_eq_true, Bool.not_true, bcase_false, bcase_true]
          rw [show IntKind.wrap .i64 (((q' ++ [x]).length : Int) - (1 : Int)) = (q'.length : Int) by rw [wrap_i64 (by omega) (by omega)]; omega]
          obtain ⟨a', e1, e2⟩ := Wn2.rd (j := q'.length) (by simp)
          subst e1
          refine ⟨by omega, by omega, ?_⟩
          rw [Int.toNat_natCast, Nat.mul_one, e2]
          refine ldI_of (n := x) (by simp) ?_
          simp only [bne_self_eq_false, bcase_false]
          refine ⟨by omega, by have := Wn2.cap; omega, ?_⟩
          rw [hln] at Wn2
          rw [List.map_append] at Wn2
          exact next W2 S2 (by omega) (by simp) Wn2.pop (fun b hb => sep b (by
            revert hb
            split
            · exact id
            · simp [OwnB, Addr.add])) (O.nil O2 hM)
      · refine stealrun W S (by omega) (fun eq h2 o2 f2 W2 O2 => ⟨_, _, rfl, ?_⟩) fun x q' eq h2 o2 f2 cs2 S2 A2 W2 O2 => ⟨_, _, rfl, ?_⟩
        · subst eq
          rw [decide_eq_false (show ¬ ((([] : List Int).length : Int) > (0 : Int)) by simp)]
          simp only [beq_self_eq_true, Bool.not_true, Bool.not_false, bcase_false, bcase_true, bne_self_eq_false]
          exact next W2 S (by simp at hT ⊢; omega) rfl (Wn.only O2 sepM) sep (O.nil O2 hM)
        · subst eq
          have Wn2 := Wn.only O2 sepM
          have hln : (x :: q').length = q'.length + 1 := by simp
          rw [decide_eq_true (show (((x :: q').length : Int) > (0 : Int)) by omega)]
          simp only [beq_self_eq_true, Bool.not_true, bcase_false, bcase_true]
          obtain ⟨a', e1, e2⟩ := Wn2.rd (j := 0) (by simp)
          subst e1
          refine ⟨by omega, by omega, ?_⟩
          rw [show Int.toNat (0 : Int) * 1 = 0 from rfl, e2]
          refine ldI_of (n := x) (by simp) ?_
          simp only [bne_self_eq_false, bcase_false]
          refine ⟨by omega, by omega, ?_⟩
          rw [hln] at Wn2
          rw [List.map_cons] at Wn2
          exact next W2 S2 (by omega) (by simp) Wn2.tail (fun b hb => sep b (by
            revert hb
            split
            · exact id
            · simp [OwnB, Addr.add])) (O.nil O2 hM)
      · refine pushrun W S (by omega) fun h2 o2 f2 cs2 r1 r2 r3 W2 O2 => ⟨_, _, rfl, ?_⟩
        have s2' := O2.size
        by_cases hr : q.length < n
        · rw [decide_eq_true hr, decide_eq_true (show (q.length : Int) < (n : Int) by omega), if_pos hr]
          simp only [beq_self_eq_true, Bool.not_true, bcase_false, bcase_true, bne_self_eq_false]
          refine newK_at fun h3 A3 O3 z3 => ?_
          refine win_app (lo := h0.size) ((Wn.only O2 sepM).only O3 (by simp)) A3 (by omega) rfl (by have := O.size; omega) fun p' c' h4 Wn4 O4 hp' => ?_
          have sepH : ∀ b ∈ OwnB p', b ≠ d ∧ b ≠ m ∧ b ≠ mc := fun b hb => by
            rcases hp' b hb with h1 | h1
            · exact sep b h1
            · omega
          refine next ((W2.only O3 (by simp) (by simp) (by simp)).only O4 (fun hb => (sep _ hb).1 rfl) (fun hb => (sep _ hb).2.1 rfl) (fun hb => (sep _ hb).2.2 rfl)) (r1 hr) (by simp; omega) (by simp) (by simpa using Wn4) sepH ?_
          exact ((O.nil O2 hM).nil O3 (by simp)).nil O4 fun b hb => (Wn.lt b hb).1
        · rw [decide_eq_false hr, decide_eq_false (show ¬ (q.length : Int) < (n : Int) by omega), if_neg hr]
          simp only [beq_self_eq_true, Bool.not_true, Bool.not_false, bcase_false, bcase_true, bne_self_eq_false]
          have e := r2 hr
          subst e
          exact next W2 S (by omega) rfl (Wn.only O2 sepM) sep (O.nil O2 hM)
      · refine poprun W S (by omega) (fun eq h2 o2 f2 cs2 S2 A2 W2 O2 => ⟨_, _, rfl, ?_⟩) fun x q' T' eq le h2 o2 f2 cs2 S2 A2 W2 O2 => ⟨_, _, rfl, ?_⟩
        · subst eq
          rw [decide_eq_false (show ¬ ((([] : List Int).length : Int) > (0 : Int)) by simp)]
          simp only [beq_self_eq_true, Bool.not_true, Bool.not_false, bcase_false, bcase_true, bne_self_eq_false]
          exact next W2 S2 (by simp; omega) rfl (Wn.only O2 sepM) sep (O.nil O2 hM)
        · subst eq
          have Wn2 := Wn.only O2 sepM
          have hln : (q' ++ [x]).length = q'.length + 1 := by simp
          rw [decide_eq_true (show (((q' ++ [x]).length : Int) > (0 : Int)) by omega)]
          simp only [beq_self_eq_true, Bool.not_true, bcase_false, bcase_true]
          rw [show IntKind.wrap .i64 (((q' ++ [x]).length : Int) - (1 : Int)) = (q'.length : Int) by rw [wrap_i64 (by omega) (by omega)]; omega]
          obtain ⟨a', e1, e2⟩ := Wn2.rd (j := q'.length) (by simp)
          subst e1
          refine ⟨by omega, by omega, ?_⟩
          rw [Int.toNat_natCast, Nat.mul_one, e2]
          refine ldI_of (n := x) (by simp) ?_
          simp only [bne_self_eq_false, bcase_false]
          refine ⟨by omega, by have := Wn2.cap; omega, ?_⟩
          rw [hln] at Wn2
          rw [List.map_append] at Wn2
          exact next W2 S2 (by omega) (by simp) Wn2.pop (fun b hb => sep b (by
            revert hb
            split
            · exact id
            · simp [OwnB, Addr.add])) (O.nil O2 hM)
      · refine stealrun W S (by omega) (fun eq h2 o2 f2 W2 O2 => ⟨_, _, rfl, ?_⟩) fun x q' eq h2 o2 f2 cs2 S2 A2 W2 O2 => ⟨_, _, rfl, ?_⟩
        · subst eq
          rw [decide_eq_false (show ¬ ((([] : List Int).length : Int) > (0 : Int)) by simp)]
          simp only [beq_self_eq_true, Bool.not_true, Bool.not_false, bcase_false, bcase_true, bne_self_eq_false]
          exact next W2 S (by simp at hT ⊢; omega) rfl (Wn.only O2 sepM) sep (O.nil O2 hM)
        · subst eq
          have Wn2 := Wn.only O2 sepM
          have hln : (x :: q').length = q'.length + 1 := by simp
          rw [decide_eq_true (show (((x :: q').length : Int) > (0 : Int)) by omega)]
          simp only [beq_self_eq_true, Bool.not_true, bcase_false, bcase_true]
          obtain ⟨a', e1, e2⟩ := Wn2.rd (j := 0) (by simp)
          subst e1
          refine ⟨by omega, by omega, ?_⟩
          rw [show Int.toNat (0 : Int) * 1 = 0 from rfl, e2]
          refine ldI_of (n := x) (by simp) ?_
          simp only [bne_self_eq_false, bcase_false]
          refine ⟨by omega, by omega, ?_⟩
          rw [hln] at Wn2
          rw [List.map_cons] at Wn2
          exact next W2 S2 (by omega) (by simp) Wn2.tail (fun b hb => sep b (by
            revert hb
            split
            · exact id
            · simp [OwnB, Addr.add])) (O.nil O2 hM)
    · rw [decide_eq_false (by omega), bcase_false]
      exact ⟨rfl, O⟩
end

theorem dplays_law (h : Heap) (v : Int) (hv : IntKind.min .u8 ≤ v ∧ v ≤ IntKind.max .u8) (p : Option Addr) (c : Nat) (ks : List Int) (hI : Ints h .u8 p ks) (hg : ∀ z ∈ ks, IntKind.min .u8 ≤ z ∧ z ≤ IntKind.max .u8) (_ : (ks.length : Int) ≤ maxLen) :
    CallsH Try.prog 3 [.int .u8 v, .slice p ks.length c] h (Lawful h) := by
  apply F3.spec
  unfold F3.w F3.J0
  refine known8 fun h1 O1 => ldB_of rfl ?_
  rw [Bool.not_true, bcase_false]
  refine bcase_of (fun _ => ⟨rfl, O1⟩) fun hl => ?_
  simp at hl
  obtain ⟨w0, w1⟩ := tmod_fit hv (by omega : (0 : Int) < 9)
  obtain ⟨k, hk⟩ : ∃ k : Nat, v.tmod 9 = k := ⟨(v.tmod 9).toNat, by omega⟩
  rw [hk] at w0 w1 ⊢
  have f1 : IntKind.wrap .i64 (k : Int) = k := wrap_i64 (by omega) (by omega)
  have f2 : IntKind.wrap .i64 ((k : Int) + 1) = ((k + 1 : Nat) : Int) := by
    rw [wrap_i64 (by omega) (by omega)]
    simp
  rw [f1, f2]
  have hn1 : 1 ≤ k + 1 := by omega
  have hn9 : k + 1 ≤ 9 := by omega
  generalize k + 1 = n at *
  refine ⟨by decide, cellsD_spec (by omega) (by omega) (ldI_of rfl ?_)⟩
  rw [show (n : Int) + 2 = ((n + 2 : Nat) : Int) by omega]
  refine new_spec fun m mc h2 M2 O2 hm hc => ldP_of rfl ?_
  rw [cellsFor_of (by omega)] at M2
  refine deqnew_spec (base := 0) (n := n) M2 (by omega) (by omega) (by simp; omega) (by simp; omega) fun d h5 Q5 O5 hd5 => ⟨_, _, rfl, ?_⟩
  have M5 := M2.only O5 (by simp) (by simp)
  rw [show ((0 : Int) != 0) = false from rfl, bcase_false]
  have lm := M2.head.lt
  have lc := M2.body.lt
  have := O1.size
  have W5 : DW h5 d m mc 0 n (List.replicate (n + 2) (0 : Int)) _ 0 := ⟨Q5, M5, by omega, by omega, by omega, by omega, by omega, by simp; omega⟩
  unfold F3.wk12 F3.Jk12
  exact ⟨ks.length + 1, dplays_loop (by omega) hI hg (by omega) (by omega) (ks.length + 1) 0 none 0 _ 0 [] _ _ h5 (by omega) (by omega) W5 (DS.empty (N := n + 2) (by omega) (zeros8 _ _) (zeros8 _ _)) (by simp) (Win.nil _ _) (by simp [OwnB]) ((O1.nil O2 (by simp)).nil O5 (by simp))⟩
end Go.Proofs.Ytipckkeaoncjiaa.Ev
