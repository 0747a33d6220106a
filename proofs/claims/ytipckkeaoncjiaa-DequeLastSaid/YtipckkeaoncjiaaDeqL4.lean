/- THE LAW OF A DEQUE's ORDER (DequeOrder). Conditions: none. -/
import Derived.Test.YtipckkeaoncjiaaDeqL2
namespace Go.Proofs.Ytipckkeaoncjiaa.Ev
open Go

/-- k values from x on -/
def valsD (x : Int) (k : Nat) : List Int := (List.range k).map fun (i : Nat) => x + (i : Int)
theorem valsD_len (x : Int) (k : Nat) : (valsD x k).length = k := by simp [valsD]
theorem valsD_snoc (x : Int) (k : Nat) : valsD x (k + 1) = valsD x k ++ [x + (k : Int)] := by simp [valsD, List.range_succ]
theorem valsD_cons (x : Int) (k : Nat) : valsD x (k + 1) = x :: valsD (x + 1) k := by
  simp only [valsD, List.range_succ_eq_map, List.map_cons, List.map_map]
  congr 1
  · simp
  · apply List.map_congr_left
    intro i _
    simp only [Function.comp]
    omega

section
variable {h0 : Heap} {d m mc n : Nat} {stl : Bool} {j : Nat}

theorem dord_push (hj : j ≤ n) (s1 : h0.size ≤ m) (s2 : h0.size ≤ mc) {r : Nat} (hr : r < 3) {bk : Bool → (Option Addr) → Int → Int → Heap → Prop}
    (hend : ∀ (cs : List Int) (T : Nat) (ops fails : Int) (h : Heap), DW h d m mc 0 n cs ops fails → DS 0 n cs T (valsD (10 * (r : Int) + 1) j) → T ≤ 100 * r → Only [] h0 h → F4.wk18 bk stl (some ⟨d, 0, none⟩) (j : Int) (r : Int) h (Lawful h0)) :
    ∀ (g k : Nat) (cs : List Int) (T : Nat) (ops fails : Int) (h : Heap), j - k < g → k ≤ j → DW h d m mc 0 n cs ops fails → DS 0 n cs T (valsD (10 * (r : Int) + 1) k) → T ≤ 100 * r → Only [] h0 h →
      F4.wL13 bk g stl (some ⟨d, 0, none⟩) (j : Int) (r : Int) ((k + 1 : Nat) : Int) h (Lawful h0) := by
  intro g
  induction g with
  | zero => intro k cs T ops fails h hg; omega
  | succ g ih =>
    intro k cs T ops fails h hg hk W S hT O
    have hM : ∀ x ∈ [m, mc], h0.size ≤ x := by simp [s1, s2]
    have hn2 := W.hn2
    unfold F4.wL13 F4.JL13
    by_cases hlt : k < j
    · rw [decide_eq_true (by omega), bcase_true]
      rw [show IntKind.wrap .u64 (IntKind.wrap .i64 ((IntKind.wrap .i64 ((10 : Int) * (r : Int))) + ((k + 1 : Nat) : Int))) = 10 * (r : Int) + 1 + (k : Int) by
        rw [wrap_i64 (n := 10 * (r : Int)) (by omega) (by omega), wrap_i64 (by omega) (by omega), wrap_u64 (by omega) (by omega)]; omega]
      refine pushrun W S (by rw [valsD_len]; omega) fun h2 o2 f2 cs2 r1 r2 r3 W2 O2 => ⟨_, _, rfl, ?_⟩
      have hl : (valsD (10 * (r : Int) + 1) k).length < n := by rw [valsD_len]; omega
      rw [decide_eq_true hl, Bool.not_true, bcase_false]
      rw [show IntKind.wrap .i64 (((k + 1 : Nat) : Int) + 1) = ((k + 1 + 1 : Nat) : Int) by rw [wrap_i64 (by omega) (by omega)]; omega]
      refine ih (k + 1) cs2 T o2 f2 h2 (by omega) (by omega) W2 ?_ hT (O.nil O2 hM)
      rw [valsD_snoc]
      exact r1 hl
    · rw [decide_eq_false (by omega), bcase_false]
      obtain rfl : k = j := by omega
      exact hend cs T ops fails h W S hT O
/-- what is left behind k of them were taken -/
def leftD (stl : Bool) (r : Int) (j k : Nat) : List Int := if stl then valsD (10 * r + 1 + (k : Int)) (j - k) else valsD (10 * r + 1) (j - k)
theorem leftD_len (stl : Bool) (r : Int) (j k : Nat) : (leftD stl r j k).length = j - k := by
  unfold leftD
  split <;> rw [valsD_len]
theorem dord_take (hj : j ≤ n) (s1 : h0.size ≤ m) (s2 : h0.size ≤ mc) {r : Nat} (hr : r < 3) {bk : Bool → (Option Addr) → Int → Int → Heap → Prop}
    (hend : ∀ (cs : List Int) (T : Nat) (ops fails : Int) (h : Heap), DW h d m mc 0 n cs ops fails → DS 0 n cs T [] → T ≤ 100 * r + n → Only [] h0 h → bk stl (some ⟨d, 0, none⟩) (j : Int) ((r + 1 : Nat) : Int) h) :
    ∀ (g k : Nat) (cs : List Int) (T : Nat) (ops fails : Int) (h : Heap), j - k < g → k ≤ j → DW h d m mc 0 n cs ops fails → DS 0 n cs T (leftD stl (r : Int) j k) → T + (j - k) ≤ 100 * r + j → Only [] h0 h →
      F4.wL19 bk g stl (some ⟨d, 0, none⟩) (j : Int) (r : Int) ((k + 1 : Nat) : Int) h (Lawful h0) := by
  intro g
  induction g with
  | zero => intro k cs T ops fails h hg; omega
  | succ g ih =>
    intro k cs T ops fails h hg hk W S hT O
    have hM : ∀ x ∈ [m, mc], h0.size ≤ x := by simp [s1, s2]
    have hn2 := W.hn2
    unfold F4.wL19 F4.JL19
    by_cases hlt : k < j
    · rw [decide_eq_true (by omega), bcase_true]
      have hlen := leftD_len stl (r : Int) j k
      have e1 : IntKind.wrap .i64 (((k + 1 : Nat) : Int) + 1) = ((k + 1 + 1 : Nat) : Int) := by rw [wrap_i64 (by omega) (by omega)]; omega
      cases stl with
      | true =>
        rw [bcase_true]
        refine stealrun W S (by omega) (fun e => by rw [e] at hlen; simp at hlen; omega) fun x q' e h2 o2 f2 cs2 S2 A2 W2 O2 => ⟨_, _, rfl, ?_⟩
        have e' : leftD true (r : Int) j k = (10 * (r : Int) + 1 + (k : Int)) :: leftD true (r : Int) j (k + 1) := by
          show valsD _ _ = _ :: valsD _ _
          rw [show j - k = (j - (k + 1)) + 1 by omega, valsD_cons]
          congr 2
        rw [e'] at e
        injection e with e2 e3
        subst e2 e3
        unfold F4.wk26 F4.Jk26
        dsimp only
        rw [Bool.not_true, bcase_false]
        rw [show IntKind.wrap .u64 (IntKind.wrap .i64 ((IntKind.wrap .i64 ((10 : Int) * (r : Int))) + ((k + 1 : Nat) : Int))) = 10 * (r : Int) + 1 + (k : Int) by
          rw [wrap_i64 (n := 10 * (r : Int)) (by omega) (by omega), wrap_i64 (by omega) (by omega), wrap_u64 (by omega) (by omega)]; omega]
        rw [bne_self_eq_false, bcase_false, e1]
        exact ih (k + 1) cs2 (T + 1) o2 f2 h2 (by omega) (by omega) W2 S2 (by omega) (O.nil O2 hM)
      | false =>
        rw [bcase_false]
        refine poprun W S (by omega) (fun e => by rw [e] at hlen; simp at hlen; omega) fun x q' T' e le h2 o2 f2 cs2 S2 A2 W2 O2 => ⟨_, _, rfl, ?_⟩
        have e' : leftD false (r : Int) j k = leftD false (r : Int) j (k + 1) ++ [10 * (r : Int) + 1 + ((j - (k + 1) : Nat) : Int)] := by
          show valsD _ _ = valsD _ _ ++ _
          rw [show j - k = (j - (k + 1)) + 1 by omega, valsD_snoc]
        rw [e'] at e
        obtain ⟨e2, e3⟩ := List.append_inj' e rfl
        injection e3 with e3
        subst e2 e3
        have hl2 := leftD_len false (r : Int) j (k + 1)
        unfold F4.wk26 F4.Jk26
        dsimp only
        rw [Bool.not_true, bcase_false]
        rw [show IntKind.wrap .u64 (IntKind.wrap .i64 ((IntKind.wrap .i64 ((IntKind.wrap .i64 ((IntKind.wrap .i64 ((10 : Int) * (r : Int))) + (j : Int))) + (1 : Int))) - ((k + 1 : Nat) : Int))) = 10 * (r : Int) + 1 + ((j - (k + 1) : Nat) : Int) by
          rw [wrap_i64 (n := 10 * (r : Int)) (by omega) (by omega), wrap_i64 (n := 10 * (r : Int) + (j : Int)) (by omega) (by omega), wrap_i64 (n := 10 * (r : Int) + (j : Int) + 1) (by omega) (by omega), wrap_i64 (by omega) (by omega), wrap_u64 (by omega) (by omega)]; omega]
        rw [bne_self_eq_false, bcase_false, e1]
        rw [hlen, hl2] at le
        exact ih (k + 1) cs2 T' o2 f2 h2 (by omega) (by omega) W2 S2 (by omega) (O.nil O2 hM)
    · rw [decide_eq_false (by omega), bcase_false]
      obtain rfl : k = j := by omega
      rw [show IntKind.wrap .i64 ((r : Int) + 1) = ((r + 1 : Nat) : Int) by rw [wrap_i64 (by omega) (by omega)]; omega]
      have S' : DS 0 n cs T [] := by
        have : leftD stl (r : Int) k k = [] := List.length_eq_zero_iff.1 (by rw [leftD_len]; omega)
        rw [this] at S
        exact S
      exact hend cs T ops fails h W S' (by omega) O
theorem dord_rounds (hj : j ≤ n) (hn : n ≤ 20) (s1 : h0.size ≤ m) (s2 : h0.size ≤ mc) :
    ∀ (g r : Nat) (cs : List Int) (T : Nat) (ops fails : Int) (h : Heap), 3 - r < g → r ≤ 3 → DW h d m mc 0 n cs ops fails → DS 0 n cs T [] → T ≤ 100 * r → Only [] h0 h →
      F4.wL10 g stl (some ⟨d, 0, none⟩) (j : Int) (r : Int) h (Lawful h0) := by
  intro g
  induction g with
  | zero => intro r cs T ops fails h hg; omega
  | succ g ih =>
    intro r cs T ops fails h hg hr W S hT O
    have hM : ∀ x ∈ [m, mc], h0.size ≤ x := by simp [s1, s2]
    unfold F4.wL10 F4.JL10
    by_cases hlt : r < 3
    · rw [decide_eq_true (by omega), bcase_true]
      unfold F4.wk13 F4.Jk13
      refine ⟨j + 1, dord_push hj s1 s2 hlt (fun cs T ops fails h W S hT O => ?_) (j + 1) 0 cs T ops fails h (by omega) (by omega) W S hT O⟩
      unfold F4.wk18 F4.Jk18 F4.wk19 F4.Jk19
      refine ⟨j + 1, dord_take hj s1 s2 hlt (fun cs T ops fails h W S hT O => ?_) (j + 1) 0 cs T ops fails h (by omega) (by omega) W ?_ (by omega) O⟩
      · exact ih (r + 1) cs T ops fails h (by omega) (by omega) W S (by omega) O
      · unfold leftD
        simpa using S
    · rw [decide_eq_false (by omega), bcase_false]
      unfold F4.wk28 F4.Jk28
      refine poprun W S (by simp; omega) (fun _ h1 o1 f1 cs1 S1 A1 W1 O1 => ⟨_, _, rfl, ?_⟩) fun x q' T' e => by simp at e
      refine stealrun W1 S1 (by simp; omega) (fun _ h2 o2 f2 W2 O2 => ⟨_, _, rfl, ?_⟩) fun x q' e => by simp at e
      rw [Bool.not_false, bcase_true, bcase_true]
      refine lenDS W2 S1 (by simp; omega) fun h3 o3 W3 O3 => ldI_of rfl ⟨rfl, ?_⟩
      exact ((O.nil O1 hM).nil O2 hM).nil O3 hM
end

theorem dord_law (h : Heap) (v : Int) (hv : IntKind.min .u8 ≤ v ∧ v ≤ IntKind.max .u8) (w : Int) (hw : IntKind.min .u8 ≤ w ∧ w ≤ IntKind.max .u8) (stl : Bool) :
    CallsH Try.prog 4 [.int .u8 v, .int .u8 w, .bool stl] h (Lawful h) := by
  apply F4.spec
  unfold F4.w F4.J0
  refine known8 fun h1 O1 => ldB_of rfl ?_
  rw [Bool.not_true, bcase_false]
  obtain ⟨w0, w1⟩ := tmod_fit hv (by omega : (0 : Int) < 20)
  obtain ⟨k, hk⟩ : ∃ k : Nat, v.tmod 20 = k := ⟨(v.tmod 20).toNat, by omega⟩
  rw [hk] at w0 w1 ⊢
  have f1 : IntKind.wrap .i64 (k : Int) = k := wrap_i64 (by omega) (by omega)
  have f2 : IntKind.wrap .i64 ((k : Int) + 1) = ((k + 1 : Nat) : Int) := by
    rw [wrap_i64 (by omega) (by omega)]
    simp
  rw [f1, f2]
  have hn1 : 1 ≤ k + 1 := by omega
  have hn9 : k + 1 ≤ 20 := by omega
  generalize k + 1 = n at *
  refine ⟨by decide, cellsD_spec (by omega) (by omega) (ldI_of rfl ?_)⟩
  rw [show (n : Int) + 2 = ((n + 2 : Nat) : Int) by omega]
  refine new_spec fun m mc h2 M2 O2 hm hc => ldP_of rfl ?_
  rw [cellsFor_of (by omega)] at M2
  refine deqnew_spec (base := 0) (n := n) M2 (by omega) (by omega) (by simp; omega) (by simp; omega) fun d h5 Q5 O5 hd5 => ⟨_, _, rfl, ?_⟩
  have M5 := M2.only O5 (by simp) (by simp)
  rw [show ((0 : Int) != 0) = false from rfl, bcase_false]
  have f3 : IntKind.wrap .i64 ((n : Int) + 1) = ((n + 1 : Nat) : Int) := by rw [wrap_i64 (by omega) (by omega)]; omega
  have hw0 : 0 ≤ w := hw.1
  have hw1 : w ≤ 255 := hw.2
  rw [f3, wrap_i64 (n := w) (by omega) (by omega)]
  refine ⟨by omega, ?_⟩
  obtain ⟨j, hj, hjn⟩ : ∃ j : Nat, w.tmod ((n + 1 : Nat) : Int) = j ∧ j ≤ n := by
    rw [Int.tmod_eq_emod_of_nonneg hw0]
    have a := Int.emod_nonneg w (by omega : ((n + 1 : Nat) : Int) ≠ 0)
    have b := Int.emod_lt_of_pos w (by omega : (0 : Int) < ((n + 1 : Nat) : Int))
    exact ⟨(w % ((n + 1 : Nat) : Int)).toNat, by omega, by omega⟩
  rw [hj]
  have lm := M2.head.lt
  have lc := M2.body.lt
  have := O1.size
  have W5 : DW h5 d m mc 0 n (List.replicate (n + 2) (0 : Int)) _ 0 := ⟨Q5, M5, by omega, by omega, by omega, by omega, by omega, by simp; omega⟩
  unfold F4.wk10 F4.Jk10
  exact ⟨4, dord_rounds hjn (by omega) (by omega) (by omega) 4 0 _ 0 _ _ h5 (by omega) (by omega) W5 (DS.empty (N := n + 2) (by omega) (zeros8 _ _) (zeros8 _ _)) (by omega) ((O1.nil O2 (by simp)).nil O5 (by simp))⟩
end Go.Proofs.Ytipckkeaoncjiaa.Ev
