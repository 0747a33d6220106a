/- THE LAW OF A DEQUE's CELLS (DequeCells). Conditions: none. -/
import Derived.Test.YtipckkeaoncjiaaDeqL2
namespace Go.Proofs.Ytipckkeaoncjiaa.Ev
open Go

section
variable {h0 : Heap} {d m mc n : Nat} {p : Option Addr} {cap : Nat} {ks : List Int}

theorem dcells_loop (hl : ks.length ≤ 60) (hI : Ints h0 .u8 p ks) (s1 : h0.size ≤ m) (s2 : h0.size ≤ mc) :
    ∀ (g i : Nat) (cs : List Int) (T : Nat) (q : List Int) (ops fails : Int) (h : Heap), ks.length - i < g → i ≤ ks.length → DW h d m mc 1 n cs ops fails → DS 1 n cs T q → T + q.length ≤ 2 * i → cs.length = n + 4 → cs.getD 0 0 = 5 → cs.getD (n + 3) 0 = 6 → Only [] h0 h →
      F5.wL16 g p ks.length cap ((n : Int) + 2) (some ⟨m, 0, none⟩) (some ⟨d, 0, none⟩) (i : Int) h (Lawful h0) := by
  intro g
  induction g with
  | zero => intro i cs T q ops fails h hg; omega
  | succ g ih =>
    intro i cs T q ops fails h hg hi W S hT hlen c0 c1 O
    have hM : ∀ x ∈ [m, mc], h0.size ≤ x := by simp [s1, s2]
    have hn2 := W.hn2
    unfold F5.wL16 F5.JL16
    by_cases hlt : i < ks.length
    · rw [decide_eq_true (by omega), bcase_true]
      obtain ⟨a, rfl, ha⟩ := hI.only O (by simp) i hlt
      refine ⟨by omega, by omega, ?_⟩
      rw [Int.toNat_natCast, Nat.mul_one, ha, ldI_some]
      rw [show IntKind.wrap .i64 ((i : Int) + 1) = ((i + 1 : Nat) : Int) by rw [wrap_i64 (by omega) (by omega)]; simp]
      have next : ∀ (cs' : List Int) (T' : Nat) (q' : List Int) (ops' fails' : Int) (h' : Heap), DW h' d m mc 1 n cs' ops' fails' → DS 1 n cs' T' q' → T' + q'.length ≤ 2 * (i + 1) → Apart 1 n cs cs' → Only [m, mc] h h' →
          F5.wL16 g (some a) ks.length cap ((n : Int) + 2) (some ⟨m, 0, none⟩) (some ⟨d, 0, none⟩) ((i + 1 : Nat) : Int) h' (Lawful h0) := by
        intro cs' T' q' ops' fails' h' W' S' hT' A' O'
        refine ih (i + 1) cs' T' q' ops' fails' h' (by omega) (by omega) W' S' hT' (A'.1.trans hlen) ?_ ?_ (O.nil O' hM)
        · rw [A'.2 0 (by omega)]; exact c0
        · rw [A'.2 (n + 3) (by omega)]; exact c1
      refine ⟨by decide, bcase_of (fun _ => ?_) fun _ => bcase_of (fun _ => ?_) fun _ => ?_⟩
      · refine pushrun W S (by omega) fun h2 o2 f2 cs2 r1 r2 r3 W2 O2 => ⟨_, _, rfl, ?_⟩
        by_cases hr : q.length < n
        · exact next cs2 T _ o2 f2 h2 W2 (r1 hr) (by simp; omega) r3 O2
        · have e := r2 hr
          subst e
          exact next cs2 T q o2 f2 h2 W2 S (by omega) r3 O2
      · exact poprun W S (by omega) (fun _ h2 o2 f2 cs2 S2 A2 W2 O2 => ⟨_, _, rfl, next cs2 T [] o2 f2 h2 W2 S2 (by simp; omega) A2 O2⟩) fun x q' T' _ le h2 o2 f2 cs2 S2 A2 W2 O2 => ⟨_, _, rfl, next cs2 T' q' o2 f2 h2 W2 S2 (by omega) A2 O2⟩
      · refine stealrun W S (by omega) (fun _ h2 o2 f2 W2 O2 => ⟨_, _, rfl, next cs T q o2 f2 h2 W2 S (by omega) ⟨rfl, fun _ _ => rfl⟩ O2⟩) fun x q' e h2 o2 f2 cs2 S2 A2 W2 O2 => ⟨_, _, rfl, next cs2 (T + 1) q' o2 f2 h2 W2 S2 ?_ A2 O2⟩
        rw [e] at hT
        simp at hT
        omega
    · rw [decide_eq_false (by omega), bcase_false]
      unfold F5.wk24 F5.Jk24
      refine load_in (i := 0) W.mem (by decide) (by omega) fun h1 M1 O1 => ldI_of rfl ?_
      rw [show cs.getD (Int.toNat 0) 0 = 5 from c0, show ((5 : Int) == 5) = true from rfl, bcase_true]
      rw [show IntKind.wrap .i64 ((n : Int) + 2 + 1) = ((n + 3 : Nat) : Int) by rw [wrap_i64 (by omega) (by omega)]; omega]
      refine load_in M1 (by omega) (by omega) fun h2 M2 O2 => ldI_of rfl ?_
      rw [Int.toNat_natCast, c1]
      exact ⟨rfl, (O.nil O1 hM).nil O2 hM⟩
end

theorem dcells_law (h : Heap) (v : Int) (hv : IntKind.min .u8 ≤ v ∧ v ≤ IntKind.max .u8) (p : Option Addr) (c : Nat) (ks : List Int) (hI : Ints h .u8 p ks) (_ : ∀ z ∈ ks, IntKind.min .u8 ≤ z ∧ z ≤ IntKind.max .u8) (_ : (ks.length : Int) ≤ maxLen) :
    CallsH Try.prog 5 [.int .u8 v, .slice p ks.length c] h (Lawful h) := by
  apply F5.spec
  unfold F5.w F5.J0
  refine known8 fun h1 O1 => ldB_of rfl ?_
  rw [Bool.not_true, bcase_false]
  refine bcase_of (fun _ => ⟨rfl, O1⟩) fun hl => ?_
  simp at hl
  obtain ⟨w0, w1⟩ := tmod_fit hv (by omega : (0 : Int) < 16)
  obtain ⟨k, hk⟩ : ∃ k : Nat, v.tmod 16 = k := ⟨(v.tmod 16).toNat, by omega⟩
  rw [hk] at w0 w1 ⊢
  have f1 : IntKind.wrap .i64 (k : Int) = k := wrap_i64 (by omega) (by omega)
  have f2 : IntKind.wrap .i64 ((k : Int) + 1) = ((k + 1 : Nat) : Int) := by
    rw [wrap_i64 (by omega) (by omega)]
    simp
  rw [f1, f2]
  have hn1 : 1 ≤ k + 1 := by omega
  have hn9 : k + 1 ≤ 16 := by omega
  generalize k + 1 = n at *
  refine ⟨by decide, cellsD_spec (by omega) (by omega) (ldI_of rfl ?_)⟩
  have f3 : IntKind.wrap .i64 ((n : Int) + 2 + 2) = ((n + 4 : Nat) : Int) := by rw [wrap_i64 (by omega) (by omega)]; omega
  have f4 : IntKind.wrap .i64 ((n : Int) + 2 + 1) = ((n + 3 : Nat) : Int) := by rw [wrap_i64 (by omega) (by omega)]; omega
  have f5 : IntKind.wrap .i64 ((n : Int) + 8) = (n : Int) + 8 := wrap_i64 (by omega) (by omega)
  rw [f3, f4, f5]
  refine new_spec fun m mc h2 M2 O2 hm hc => ldP_of rfl ?_
  rw [cellsFor_of (by omega)] at M2
  refine store_in (i := 0) M2 (by decide) (by simp; omega) fun h3 M3 O3 => ⟨rfl, ?_⟩
  refine store_in M3 (by omega) (by simp) fun h4 M4 O4 => ⟨rfl, ?_⟩
  rw [Int.toNat_natCast] at M4
  have hlen : (((List.replicate (n + 4) (0 : Int)).set (Int.toNat 0) 5).set (n + 3) 6).length = n + 4 := by simp
  have P4 := (O1.nil O2 (by simp)).nil (O3.trans O4 fun b hb _ => hb) (by have := O1.size; simp; omega)
  refine deqnew_spec (base := 1) (n := n) M4 (by omega) (by omega) (by rw [hlen]; omega) (by rw [hlen]; omega) fun d h5 Q5 O5 hd5 => ⟨_, _, rfl, ?_⟩
  have M5 := M4.only O5 (by simp) (by simp)
  refine deqnew_out (base := 3) (n := n) M5 (by omega) (by rw [hlen]; omega) (Or.inr (by rw [hlen]; omega)) (by rw [hlen]; omega) ⟨_, _, rfl, ?_⟩
  refine deqnew_out (base := 0) (n := 0) M5 (by omega) (by rw [hlen]; omega) (Or.inl rfl) (by rw [hlen]; omega) ⟨_, _, rfl, ?_⟩
  rw [show ((0 : Int) != 0) = false from rfl, bcase_false, show ((61 : Int) != 61) = false from rfl, bcase_false, bcase_false, decide_eq_false (by omega), bcase_false, decide_eq_false (by omega), bcase_false]
  refine cellsD_none (by decide) (ldI_of rfl ?_)
  rw [show ((0 : Int) != 0) = false from rfl, bcase_false]
  have lm := M4.head.lt
  have lc := M4.body.lt
  have := O1.size
  have W5 : DW h5 d m mc 1 n (((List.replicate (n + 4) (0 : Int)).set (Int.toNat 0) 5).set (n + 3) 6) _ 0 := ⟨Q5, M5, by omega, by omega, by omega, by omega, by omega, by rw [hlen]; omega⟩
  have hg : ∀ x, x ≠ 0 → x ≠ n + 3 → (((List.replicate (n + 4) (0 : Int)).set (Int.toNat 0) 5).set (n + 3) 6).getD x 0 = 0 := by
    intro x h1 h2
    rw [getD_set' (by simp), if_neg (Ne.symm h2), getD_set' (by simp), if_neg (show ¬ Int.toNat 0 = x from Ne.symm h1)]
    exact zeros8 _ x
  unfold F5.wk16 F5.Jk16
  refine ⟨ks.length + 1, dcells_loop (by omega) hI (by omega) (by omega) (ks.length + 1) 0 _ 0 [] _ _ h5 (by omega) (by omega) W5 (DS.empty (N := n + 4) (by omega) (hg 1 (by omega) (by omega)) (hg 2 (by omega) (by omega))) (by simp) hlen ?_ ?_ (P4.nil O5 (by simp))⟩
  · rw [getD_set' (by simp), if_neg (by omega), getD_set' (by simp), if_pos (show Int.toNat 0 = 0 from rfl)]
  · rw [getD_set' (by simp), if_pos rfl]
end Go.Proofs.Ytipckkeaoncjiaa.Ev
