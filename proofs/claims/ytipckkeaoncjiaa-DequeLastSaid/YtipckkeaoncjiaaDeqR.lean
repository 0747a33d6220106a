/- THE DEQUE's PLAIN LAW: a steal and a pop, alone. Conditions: none. -/
import Derived.Test.YtipckkeaoncjiaaDeqP
namespace Go.Proofs.Ytipckkeaoncjiaa.Ev
open Go

section
variable {h h0 : Heap} {f d bx by_ m mc base n : Nat} {cs : List Int} {ops fails : Int} {K : Value → Heap → Prop}

theorem runsteal {T : Nat} {q : List Int} (W : DW h d m mc base n cs ops fails) (S : DS base n cs T q) (hT : T + q.length < 1000000000) (H : DcIs h f d bx by_ ⟨0, 0, 0, 11, false, false⟩) (d1 : f ≠ d) (d2 : f ≠ m) (d3 : f ≠ mc)
    (hE : q = [] → ∀ h' ops' fails', DW h' d m mc base n cs ops' fails' → Only [f, m, mc] h h' → K (.tuple #[.int .u64 0, .bool false]) h')
    (hK : ∀ x q', q = x :: q' → ∀ h' ops' fails' cs', DS base n cs' (T + 1) q' → Apart base n cs cs' → DW h' d m mc base n cs' ops' fails' → Only [f, m, mc] h h' → K (.tuple #[.int .u64 x, .bool true]) h') :
    CallsH Try.prog 15 [.pointer (some ⟨f, 0, none⟩)] h K := by
  apply F15.spec
  unfold F15.w F15.J0 F15.wk2 F15.Jk2
  have hb : IntKind.wrap .i64 (cs.getD (base + 1) 0) = ((T + q.length : Nat) : Int) := by rw [S.bot, wrap_i64 (by omega) (by omega)]
  have ht : IntKind.wrap .i64 (cs.getD base 0) = (T : Int) := by rw [S.top, wrap_i64 (by omega) (by omega)]
  have hl := W.hl
  have hn := W.hn
  refine ⟨4, ?_⟩
  refine run_to (A' := ⟨0, T, 0, 12, false, false⟩) (cs' := cs) (by
    unfold stepD
    simp only [Bool.false_eq_true, if_false, ht]) (by decide) W H d1 d2 d3 (by simp) (by simp) (by simp) rfl fun h1 o1 f1 H1 W1 O1 => ?_
  cases q with
  | nil =>
    refine run_end (A' := ⟨0, T, T, 13, true, false⟩) (cs' := cs) (by
      unfold stepD
      simp only [Bool.false_eq_true, if_false, hb]
      simp) (by decide) W1 H1 d1 d2 d3 (by simp) (by simp) (by simp) rfl fun h2 o2 f2 W2 O2 => ?_
    have := hE rfl h2 o2 f2 W2 (O1.trans O2 fun b hb _ => hb)
    simpa [gotDV, gotDB] using this
  | cons x q' =>
    simp only [List.length_cons] at hb hT
    refine run_to (A' := ⟨0, T, ((T + (q'.length + 1) : Nat) : Int), 13, false, false⟩) (cs' := cs) (by
      unfold stepD
      simp only [Bool.false_eq_true, if_false, hb]
      rw [decide_eq_false (by omega)]
      simp) (by decide) W1 H1 d1 d2 d3 (by simp) (by simp) (by simp) rfl fun h2 o2 f2 H2 W2 O2 => ?_
    have hv : cs.getD (slotOf base n (T : Int)) 0 = x := by
      rw [slotN]
      have := S.val 0 (by simp)
      simpa using this
    refine run_to (A' := ⟨x, T, ((T + (q'.length + 1) : Nat) : Int), 14, false, false⟩) (cs' := cs) (by
      unfold stepD
      simp only [Bool.false_eq_true, if_false, hv]) (by decide) W2 H2 d1 d2 d3 (by simp) (by simp) (fun _ => by show (0 : Int) ≤ (T : Int); omega) rfl fun h3 o3 f3 H3 W3 O3 => ?_
    refine run_end (A' := ⟨x, T, ((T + (q'.length + 1) : Nat) : Int), 14, true, true⟩) (cs' := cs.set base ((T + 1 : Nat) : Int)) (by
      unfold stepD
      simp only [Bool.false_eq_true, if_false]
      rw [if_pos (by rw [S.top, wrap_u64 (by omega) (by omega)]), wrap_i64 (by omega) (by omega), wrap_u64 (by omega) (by omega)]
      simp) (by decide) W3 H3 d1 d2 d3 (by simp) (by simp) (by simp) rfl fun h4 o4 f4 W4 O4 => ?_
    have P := ((O1.trans O2 fun b hb _ => hb).trans O3 fun b hb _ => hb).trans O4 fun b hb _ => hb
    have := hK x q' rfl h4 o4 f4 _ ?_ ?_ W4 P
    · simpa [gotDV, gotDB] using this
    · refine ⟨?_, ?_, by have := S.len; simp at this; omega, fun i hi => ?_⟩
      · rw [getD_set' (by omega), if_pos rfl]
      · rw [getD_set' (by omega), if_neg (by omega), S.bot]
        simp only [List.length_cons]
        omega
      · rw [getD_set' (by omega), if_neg (by omega), show T + 1 + i = T + (i + 1) by omega, S.val (i + 1) (by simp; omega)]
        simp [List.getD]
    · refine ⟨by simp, fun y hy => ?_⟩
      rw [getD_set' (by omega), if_neg (by omega)]
theorem runpop {T : Nat} {q : List Int} (W : DW h d m mc base n cs ops fails) (S : DS base n cs T q) (hT : T + q.length < 1000000000) (H : DcIs h f d bx by_ ⟨0, 0, 0, 4, false, false⟩) (d1 : f ≠ d) (d2 : f ≠ m) (d3 : f ≠ mc)
    (hE : q = [] → ∀ h' ops' fails' cs', DS base n cs' T [] → Apart base n cs cs' → DW h' d m mc base n cs' ops' fails' → Only [f, m, mc] h h' → K (.tuple #[.int .u64 0, .bool false]) h')
    (hK : ∀ x q' T', q = q' ++ [x] → T' + q'.length ≤ T + q.length → DS base n cs (T) q → ∀ h' ops' fails' cs', DS base n cs' T' q' → Apart base n cs cs' → DW h' d m mc base n cs' ops' fails' → Only [f, m, mc] h h' → K (.tuple #[.int .u64 x, .bool true]) h') :
    CallsH Try.prog 15 [.pointer (some ⟨f, 0, none⟩)] h K := by
  apply F15.spec
  unfold F15.w F15.J0 F15.wk2 F15.Jk2
  have hb : IntKind.wrap .i64 (cs.getD (base + 1) 0) = ((T + q.length : Nat) : Int) := by rw [S.bot, wrap_i64 (by omega) (by omega)]
  have ht : IntKind.wrap .i64 (cs.getD base 0) = (T : Int) := by rw [S.top, wrap_i64 (by omega) (by omega)]
  have hl := W.hl
  have hn := W.hn
  refine ⟨6, ?_⟩
  refine run_to (A' := ⟨0, 0, ((T + q.length : Nat) : Int) - 1, 5, false, false⟩) (cs' := cs) (by
    unfold stepD
    simp only [Bool.false_eq_true, if_false, hb]
    rw [wrap_i64 (by omega) (by omega)]) (by decide) W H d1 d2 d3 (by simp) (by simp) (by simp) rfl fun h1 o1 f1 H1 W1 O1 => ?_
  refine run_to (A' := ⟨0, 0, ((T + q.length : Nat) : Int) - 1, 6, false, false⟩) (cs' := cs.set (base + 1) (IntKind.wrap .u64 (((T + q.length : Nat) : Int) - 1))) (by
    unfold stepD
    simp only [Bool.false_eq_true, if_false]) (by decide) W1 H1 d1 d2 d3 (by simp) (by simp) (by simp) rfl fun h2 o2 f2 H2 W2 O2 => ?_
  have ht2 : IntKind.wrap .i64 ((cs.set (base + 1) (IntKind.wrap .u64 (((T + q.length : Nat) : Int) - 1))).getD base 0) = (T : Int) := by rw [getD_set' (by omega), if_neg (by omega), ht]
  have top2 : (cs.set (base + 1) (IntKind.wrap .u64 (((T + q.length : Nat) : Int) - 1))).getD base 0 = (T : Int) := by rw [getD_set' (by omega), if_neg (by omega), S.top]
  have P2 := O1.trans O2 fun b hb _ => hb
  have ap2 : Apart base n cs (cs.set (base + 1) (IntKind.wrap .u64 (((T + q.length : Nat) : Int) - 1))) := ⟨by simp, fun y hy => by rw [getD_set' (by omega), if_neg (by omega)]⟩
  by_cases hq : q = []
  · subst hq
    simp only [List.length_nil, Nat.add_zero] at *
    refine run_to (A' := ⟨0, T, (T : Int) - 1, 10, false, false⟩) (cs' := cs.set (base + 1) (IntKind.wrap .u64 ((T : Int) - 1))) (by
      unfold stepD
      simp only [Bool.false_eq_true, if_false, ht2]
      rw [decide_eq_true (by omega)]
      simp) (by decide) W2 H2 d1 d2 d3 (by simp) (by simp) (by simp) rfl fun h3 o3 f3 H3 W3 O3 => ?_
    refine run_end (A' := ⟨0, T, (T : Int) - 1, 10, true, false⟩) (cs' := (cs.set (base + 1) (IntKind.wrap .u64 ((T : Int) - 1))).set (base + 1) (T : Int)) (by
      unfold stepD
      simp only [Bool.false_eq_true, if_false]
      rw [show (T : Int) - 1 + 1 = T by omega, wrap_i64 (n := (T : Int)) (by omega) (by omega), wrap_u64 (n := (T : Int)) (by omega) (by omega)]) (by decide) W3 H3 d1 d2 d3 (by simp) (by simp) (by simp) rfl fun h4 o4 f4 W4 O4 => ?_
    have := hE (by trivial) h4 o4 f4 _ ⟨?_, ?_, Nat.zero_le _, fun i hi => by simp at hi⟩ ⟨by simp, fun y hy => ?_⟩ W4 ((P2.trans O3 fun b hb _ => hb).trans O4 fun b hb _ => hb)
    · simpa [gotDV, gotDB] using this
    · rw [getD_set' (by simp; omega), if_neg (by omega)]
      exact top2
    · rw [getD_set' (by simp; omega), if_pos rfl]
      simp
    · rw [getD_set' (by simp; omega), if_neg (by omega)]
      exact ap2.2 y hy
  · obtain ⟨q', x, rfl⟩ : ∃ q' x, q = q' ++ [x] := ⟨q.dropLast, q.getLast hq, (List.dropLast_concat_getLast hq).symm⟩
    have sl := S.len
    simp only [List.length_append, List.length_cons, List.length_nil, Nat.zero_add] at *
    have eb : (((T + (q'.length + 1) : Nat) : Int) - 1) = ((T + q'.length : Nat) : Int) := by omega
    have ew : IntKind.wrap .u64 ((T + q'.length : Nat) : Int) = ((T + q'.length : Nat) : Int) := wrap_u64 (by omega) (by omega)
    simp only [eb, ew] at H1 H2 W2 ht2 top2 ap2
    refine run_to (A' := ⟨0, T, ((T + q'.length : Nat) : Int), 7, false, false⟩) (cs' := cs.set (base + 1) ((T + q'.length : Nat) : Int)) (by
      unfold stepD
      simp only [Bool.false_eq_true, if_false, ht2]
      rw [decide_eq_false (by omega)]
      simp) (by decide) W2 H2 d1 d2 d3 (by simp) (by simp) (by simp) rfl fun h3 o3 f3 H3 W3 O3 => ?_
    have hmod : (T + q'.length) % n < n := Nat.mod_lt _ (by omega)
    have hv : (cs.set (base + 1) ((T + q'.length : Nat) : Int)).getD (slotOf base n ((T + q'.length : Nat) : Int)) 0 = x := by
      rw [slotN, getD_set' (by omega), if_neg (by omega), S.val q'.length (by simp)]
      simp [List.getD]
    have vals : ∀ i, i < q'.length → (cs.set (base + 1) ((T + q'.length : Nat) : Int)).getD (base + 2 + (T + i) % n) 0 = q'.getD i 0 := by
      intro i hi
      rw [getD_set' (by omega), if_neg (by omega), S.val i (by simp; omega)]
      simp only [List.getD, List.getElem?_append_left hi]
    by_cases h1q : T < T + q'.length
    · refine run_end (A' := ⟨x, T, ((T + q'.length : Nat) : Int), 7, true, true⟩) (cs' := cs.set (base + 1) ((T + q'.length : Nat) : Int)) (by
        unfold stepD
        simp only [Bool.false_eq_true, if_false, hv]
        rw [if_pos (decide_eq_true (by omega))]) (by decide) W3 H3 d1 d2 d3 (by simp) (fun _ => by show (0 : Int) ≤ ((T + q'.length : Nat) : Int); omega) (by simp) rfl fun h4 o4 f4 W4 O4 => ?_
      have := hK x q' T rfl (by omega) S h4 o4 f4 _ ⟨top2, by rw [getD_set' (by omega), if_pos rfl], by omega, vals⟩ ap2 W4 ((P2.trans O3 fun b hb _ => hb).trans O4 fun b hb _ => hb)
      simpa [gotDV, gotDB] using this
    · have hq0 : q' = [] := List.length_eq_zero_iff.1 (by omega)
      subst hq0
      simp only [List.length_nil, Nat.add_zero] at *
      refine run_to (A' := ⟨x, T, (T : Int), 8, false, false⟩) (cs' := cs.set (base + 1) (T : Int)) (by
        unfold stepD
        simp only [Bool.false_eq_true, if_false, hv]
        rw [if_neg (by simp)]) (by decide) W3 H3 d1 d2 d3 (by simp) (fun _ => by show (0 : Int) ≤ (T : Int); omega) (by simp) rfl fun h4 o4 f4 H4 W4 O4 => ?_
      refine run_to (A' := ⟨x, T, (T : Int), 9, false, true⟩) (cs' := (cs.set (base + 1) (T : Int)).set base ((T + 1 : Nat) : Int)) (by
        unfold stepD
        simp only [Bool.false_eq_true, if_false]
        rw [if_pos (by rw [top2, wrap_u64 (by omega) (by omega)]), wrap_i64 (by omega) (by omega), wrap_u64 (by omega) (by omega)]
        simp) (by decide) W4 H4 d1 d2 d3 (by simp) (by simp) (by simp) rfl fun h5 o5 f5 H5 W5 O5 => ?_
      refine run_end (A' := ⟨x, T, (T : Int), 9, true, true⟩) (cs' := ((cs.set (base + 1) (T : Int)).set base ((T + 1 : Nat) : Int)).set (base + 1) ((T + 1 : Nat) : Int)) (by
        unfold stepD
        simp only [Bool.false_eq_true, if_false]
        rw [wrap_i64 (by omega) (by omega), wrap_u64 (by omega) (by omega)]
        simp) (by decide) W5 H5 d1 d2 d3 (by simp) (by simp) (by simp) rfl fun h6 o6 f6 W6 O6 => ?_
      have := hK x [] (T + 1) rfl (by simp) S h6 o6 f6 _ ⟨?_, ?_, Nat.zero_le _, fun i hi => by simp at hi⟩ ⟨by simp, fun y hy => ?_⟩ W6 ((((P2.trans O3 fun b hb _ => hb).trans O4 fun b hb _ => hb).trans O5 fun b hb _ => hb).trans O6 fun b hb _ => hb)
      · simpa [gotDV, gotDB] using this
      · rw [getD_set' (by simp; omega), if_neg (by omega), getD_set' (by simp; omega), if_pos rfl]
      · rw [getD_set' (by simp; omega), if_pos rfl]
        simp
      · rw [getD_set' (by simp; omega), if_neg (by omega), getD_set' (by simp; omega), if_neg (by omega)]
        exact ap2.2 y hy
end
end Go.Proofs.Ytipckkeaoncjiaa.Ev
