/- THE DEQUE's PLAIN LAW: a queue in a ring; one step of a run. Conditions: none. -/
import Derived.Test.YtipckkeaoncjiaaDeqV
import Derived.Test.YtipckkeaoncjiaaL8F
namespace Go.Proofs.Ytipckkeaoncjiaa.Ev
open Go

/-- the values q stand in the ring from place T on -/
structure DS (base n : Nat) (cs : List Int) (T : Nat) (q : List Int) : Prop where
  top : cs.getD base 0 = T
  bot : cs.getD (base + 1) 0 = ((T + q.length : Nat) : Int)
  len : q.length ≤ n
  val : ∀ i, i < q.length → cs.getD (base + 2 + (T + i) % n) 0 = q.getD i 0
theorem slotN (base n x : Nat) : slotOf base n (x : Int) = base + 2 + x % n := by
  unfold slotOf
  rw [Int.tmod_eq_emod_of_nonneg (by omega)]
  congr 1
theorem getD_set' {l : List Int} {i j : Nat} {v : Int} (hi : i < l.length) : (l.set i v).getD j 0 = if i = j then v else l.getD j 0 := by
  by_cases h : i = j
  · subst h; simp [hi]
  · simp [List.getD, h]

section
variable {h h0 : Heap} {f d bx by_ m mc base n : Nat} {cs : List Int} {ops fails : Int} {K : Value → Heap → Prop} {A : Dc}
theorem run_go {g i : Nat} (hi : i < 16) (W : DW h d m mc base n cs ops fails) (H : DcIs h f d bx by_ A) (d1 : f ≠ d) (d2 : f ≠ m) (d3 : f ≠ mc) (hph : A.ph ≤ 14) (hp1 : A.ph = 2 ∨ A.ph = 7 → 0 ≤ A.b) (hp2 : A.ph = 13 → 0 ≤ A.t)
    (hD : (stepD base n cs A).1.done = true → ∀ h' ops' fails', DW h' d m mc base n (stepD base n cs A).2 ops' fails' → Only [f, m, mc] h h' → K (.tuple #[.int .u64 (gotDV (stepD base n cs A).1), .bool (gotDB (stepD base n cs A).1)]) h')
    (hN : (stepD base n cs A).1.done = false → ∀ h' ops' fails', DcIs h' f d bx by_ (stepD base n cs A).1 → DW h' d m mc base n (stepD base n cs A).2 ops' fails' → Only [f, m, mc] h h' → F15.wL2 g ⟨f, 0, none⟩ ((i + 1 : Nat) : Int) h' K) :
    F15.wL2 (g + 1) ⟨f, 0, none⟩ (i : Int) h K := by
  unfold F15.wL2 F15.JL2
  rw [decide_eq_true (by omega), bcase_true]
  refine stepD_dw W H d1 d2 d3 hph hp1 hp2 fun h1 fails1 H1 W1 O1 => ldB_of rfl ?_
  cases hd : (stepD base n cs A).1.done with
  | true =>
    rw [Bool.not_true, bcase_false]
    unfold F15.wk4 F15.Jk4
    exact gotD_spec H1 ⟨_, _, rfl, hD hd h1 _ _ W1 O1⟩
  | false =>
    rw [Bool.not_false, bcase_true, show IntKind.wrap .i64 ((i : Int) + 1) = ((i + 1 : Nat) : Int) by rw [wrap_i64 (by omega) (by omega)]; simp]
    exact hN hd h1 _ _ H1 W1 O1
theorem run_to {g i : Nat} {A' : Dc} {cs' : List Int} (e : stepD base n cs A = (A', cs')) (hi : i < 16) (W : DW h d m mc base n cs ops fails) (H : DcIs h f d bx by_ A) (d1 : f ≠ d) (d2 : f ≠ m) (d3 : f ≠ mc) (hph : A.ph ≤ 14) (hp1 : A.ph = 2 ∨ A.ph = 7 → 0 ≤ A.b) (hp2 : A.ph = 13 → 0 ≤ A.t) (hd : A'.done = false)
    (hN : ∀ h' ops' fails', DcIs h' f d bx by_ A' → DW h' d m mc base n cs' ops' fails' → Only [f, m, mc] h h' → F15.wL2 g ⟨f, 0, none⟩ ((i + 1 : Nat) : Int) h' K) :
    F15.wL2 (g + 1) ⟨f, 0, none⟩ (i : Int) h K := by
  refine run_go hi W H d1 d2 d3 hph hp1 hp2 (fun h' => ?_) fun _ => ?_
  · rw [e, hd] at h'
    cases h'
  · rw [e]
    exact hN
theorem run_end {g i : Nat} {A' : Dc} {cs' : List Int} (e : stepD base n cs A = (A', cs')) (hi : i < 16) (W : DW h d m mc base n cs ops fails) (H : DcIs h f d bx by_ A) (d1 : f ≠ d) (d2 : f ≠ m) (d3 : f ≠ mc) (hph : A.ph ≤ 14) (hp1 : A.ph = 2 ∨ A.ph = 7 → 0 ≤ A.b) (hp2 : A.ph = 13 → 0 ≤ A.t) (hd : A'.done = true)
    (hD : ∀ h' ops' fails', DW h' d m mc base n cs' ops' fails' → Only [f, m, mc] h h' → K (.tuple #[.int .u64 (gotDV A'), .bool (gotDB A')]) h') :
    F15.wL2 (g + 1) ⟨f, 0, none⟩ (i : Int) h K := by
  refine run_go hi W H d1 d2 d3 hph hp1 hp2 (fun _ => ?_) fun h' => ?_
  · rw [e]
    exact hD
  · rw [e, hd] at h'
    cases h'
/-- nothing beside the deque's cells has turned -/
def Apart (base n : Nat) (cs cs' : List Int) : Prop := cs'.length = cs.length ∧ ∀ x, x < base ∨ base + 2 + n ≤ x → cs'.getD x 0 = cs.getD x 0
theorem runpush {v : Int} {T : Nat} {q : List Int} (W : DW h d m mc base n cs ops fails) (S : DS base n cs T q) (hT : T + q.length < 1000000000) (H : DcIs h f d bx by_ ⟨v, 0, 0, 0, false, false⟩) (d1 : f ≠ d) (d2 : f ≠ m) (d3 : f ≠ mc)
    (hK : ∀ h' ops' fails' cs', (q.length < n → DS base n cs' T (q ++ [v])) → (¬ q.length < n → cs' = cs) → Apart base n cs cs' → DW h' d m mc base n cs' ops' fails' → Only [f, m, mc] h h' → K (.tuple #[.int .u64 (if q.length < n then v else 0), .bool (decide (q.length < n))]) h') :
    CallsH Try.prog 15 [.pointer (some ⟨f, 0, none⟩)] h K := by
  apply F15.spec
  unfold F15.w F15.J0 F15.wk2 F15.Jk2
  have hb : IntKind.wrap .i64 (cs.getD (base + 1) 0) = ((T + q.length : Nat) : Int) := by rw [S.bot, wrap_i64 (by omega) (by omega)]
  have ht : IntKind.wrap .i64 (cs.getD base 0) = (T : Int) := by rw [S.top, wrap_i64 (by omega) (by omega)]
  have hl := W.hl
  have hn := W.hn
  refine ⟨4, ?_⟩
  refine run_to (A' := ⟨v, 0, ((T + q.length : Nat) : Int), 1, false, false⟩) (cs' := cs) (by
    unfold stepD
    simp only [Bool.false_eq_true, if_false, hb]) (by decide) W H d1 d2 d3 (by simp) (by simp) (by simp) rfl fun h1 o1 f1 H1 W1 O1 => ?_
  have hw : IntKind.wrap .i64 (((T + q.length : Nat) : Int) - (T : Int)) = (q.length : Int) := by rw [wrap_i64 (by omega) (by omega)]; omega
  by_cases hlt : q.length < n
  · have e1 : stepD base n cs ⟨v, 0, ((T + q.length : Nat) : Int), 1, false, false⟩ = (⟨v, T, ((T + q.length : Nat) : Int), 2, false, false⟩, cs) := by
      unfold stepD
      simp only [Bool.false_eq_true, if_false, ht, hw]
      rw [decide_eq_false (by omega)]
      simp
    refine run_to e1 (by decide) W1 H1 d1 d2 d3 (by simp) (by simp) (by simp) rfl fun h2 o2 f2 H2 W2 O2 => ?_
    refine run_to (A' := ⟨v, T, ((T + q.length : Nat) : Int), 3, false, false⟩) (cs' := cs.set (slotOf base n ((T + q.length : Nat) : Int)) v) (by simp [stepD]) (by decide) W2 H2 d1 d2 d3 (by simp) (fun _ => by show (0 : Int) ≤ ((T + q.length : Nat) : Int); omega) (by simp) rfl fun h3 o3 f3 H3 W3 O3 => ?_
    refine run_end (A' := ⟨v, T, ((T + q.length : Nat) : Int), 3, true, true⟩) (cs' := (cs.set (slotOf base n ((T + q.length : Nat) : Int)) v).set (base + 1) (((T + q.length + 1 : Nat) : Int))) (by
      unfold stepD
      simp only [Bool.false_eq_true, if_false]
      rw [wrap_i64 (by omega) (by omega), wrap_u64 (by omega) (by omega)]
      simp) (by decide) W3 H3 d1 d2 d3 (by simp) (by simp) (by simp) rfl fun h4 o4 f4 W4 O4 => ?_
    have P := ((O1.trans O2 fun b hb _ => hb).trans O3 fun b hb _ => hb).trans O4 fun b hb _ => hb
    have hs := slotN base n (T + q.length)
    have hm : (T + q.length) % n < n := Nat.mod_lt _ (by omega)
    have := hK h4 o4 f4 _ (fun _ => ?_) (fun h => absurd hlt h) ?_ W4 P
    · rw [if_pos hlt, decide_eq_true hlt] at this
      simpa [gotDV, gotDB] using this
    · rw [hs]
      refine ⟨?_, ?_, by simp; omega, fun i hi => ?_⟩
      · rw [getD_set' (by simp; omega), if_neg (by omega), getD_set' (by omega), if_neg (by omega)]
        exact S.top
      · rw [getD_set' (by simp; omega), if_pos rfl]
        simp
        omega
      · rw [getD_set' (by simp; omega), if_neg (by omega), getD_set' (by omega)]
        simp at hi
        by_cases hi' : i = q.length
        · subst hi'
          rw [if_pos rfl]
          simp [List.getD]
        · have hi2 : i < q.length := by omega
          have hne : ¬ base + 2 + (T + q.length) % n = base + 2 + (T + i) % n := by
            intro e
            have e : (T + q.length) % n = (T + i) % n := by omega
            have h1 := Nat.sub_mod_eq_zero_of_mod_eq e
            rw [show T + q.length - (T + i) = q.length - i by omega, Nat.mod_eq_of_lt (by omega)] at h1
            omega
          rw [if_neg hne, S.val i hi2]
          simp only [List.getD, List.getElem?_append_left hi2]
    · rw [hs]
      refine ⟨by simp, fun x hx => ?_⟩
      rw [getD_set' (by simp; omega), if_neg (by omega), getD_set' (by omega), if_neg (by omega)]
  · have e1 : stepD base n cs ⟨v, 0, ((T + q.length : Nat) : Int), 1, false, false⟩ = (⟨v, T, ((T + q.length : Nat) : Int), 2, true, false⟩, cs) := by
      unfold stepD
      simp only [Bool.false_eq_true, if_false, ht, hw]
      rw [decide_eq_true (by omega)]
      simp
    refine run_end e1 (by decide) W1 H1 d1 d2 d3 (by simp) (by simp) (by simp) rfl fun h2 o2 f2 W2 O2 => ?_
    have := hK h2 o2 f2 cs (fun h => absurd h hlt) (fun _ => rfl) ⟨rfl, fun _ _ => rfl⟩ W2 (O1.trans O2 fun b hb _ => hb)
    rw [if_neg hlt, decide_eq_false hlt] at this
    simpa [gotDV, gotDB] using this
end
end Go.Proofs.Ytipckkeaoncjiaa.Ev
