/- THE DEQUE: the laws' self-test. Conditions: none. -/
import Derived.Test.YtipckkeaoncjiaaDeqL
namespace Go.Proofs.Ytipckkeaoncjiaa.Ev
open Go

theorem DS.empty {base n N : Nat} (hn : base + 2 ≤ N) {cs : List Int} (h0 : cs.getD base 0 = 0) (h1 : cs.getD (base + 1) 0 = 0) : DS base n cs 0 [] :=
  ⟨by rw [h0]; rfl, by rw [h1]; rfl, Nat.zero_le _, fun i hi => by simp at hi⟩
theorem lenDS {h : Heap} {d m mc base n : Nat} {cs : List Int} {ops fails : Int} {K : Value → Heap → Prop} {T : Nat} {q : List Int} (W : DW h d m mc base n cs ops fails) (S : DS base n cs T q) (hT : T + q.length < 1000000000)
    (hK : ∀ h' ops', DW h' d m mc base n cs ops' fails → Only [m, mc] h h' → K (.int .i64 (q.length : Int)) h') : CallsH Try.prog 19 [.pointer (some ⟨d, 0, none⟩)] h K := by
  refine lenD_dw W fun h1 o1 W1 O1 => ?_
  rw [S.bot, S.top, wrap_i64 (n := ((T + q.length : Nat) : Int)) (by omega) (by omega), wrap_i64 (n := (T : Int)) (by omega) (by omega), wrap_i64 (by omega) (by omega)]
  rw [show ((T + q.length : Nat) : Int) - (T : Int) = (q.length : Int) by omega]
  exact hK h1 o1 W1 O1
theorem zeros8 (k x : Nat) : (List.replicate k (0 : Int)).getD x 0 = 0 := by
  simp only [List.getD, List.getElem?_replicate]
  split <;> rfl

theorem known8 {h : Heap} {K : Value → Heap → Prop} (hK : ∀ h', Only [] h h' → K (.bool true) h') : CallsH Try.prog 11 [] h K := by
  apply F11.spec
  unfold F11.w F11.J0
  refine cellsD_spec (by decide) (by decide) (ldI_of rfl ?_)
  rw [show (4 : Int) + 2 = ((6 : Nat) : Int) from rfl]
  refine new_spec fun m mc h1 M1 O1 hm hc => ldP_of rfl ?_
  rw [cellsFor_of (by decide)] at M1
  refine deqnew_spec (base := 0) (n := 4) M1 (by decide) (by decide) (by decide) (by decide) fun d h2 Q2 O2 hd => ⟨_, _, rfl, ?_⟩
  have M2 := M1.only O2 (by simp) (by simp)
  refine deqnew_out (base := 1) (n := 4) M2 (by decide) (by decide) (Or.inr (by decide)) (by decide) ⟨_, _, rfl, ?_⟩
  rw [show ((0 : Int) != 0) = false from rfl, bcase_false, Option.isNone_some, bcase_false, show ((61 : Int) != 61) = false from rfl, bcase_false]
  rw [show decide (((6 : Nat) : Int) < 4) = false from rfl, bcase_false, show decide (((6 : Nat) : Int) > 12) = false from rfl, bcase_false]
  have lm := M1.head.lt
  have lc := M1.body.lt
  have s1 := O1.size
  have W2 : DW h2 d m mc 0 4 (List.replicate 6 0) 0 0 := ⟨Q2, M2, by omega, by omega, by decide, by decide, by decide, by decide⟩
  have S2 : DS 0 4 (List.replicate 6 0) 0 [] := DS.empty (N := 6) (by decide) (zeros8 _ _) (zeros8 _ _)
  have P2 := O1.nil O2 (by simp)
  have hM : ∀ x ∈ [m, mc], h.size ≤ x := by simp [hm, hc]
  refine pushrun W2 S2 (by decide) fun h3 o3 f3 cs3 r3 _ _ W3 O3 => ⟨_, _, rfl, ?_⟩
  refine pushrun W3 (r3 (by decide)) (by decide) fun h4 o4 f4 cs4 r4 _ _ W4 O4 => ⟨_, _, rfl, ?_⟩
  refine pushrun W4 (r4 (by decide)) (by decide) fun h5 o5 f5 cs5 r5 _ _ W5 O5 => ⟨_, _, rfl, ?_⟩
  have P5 := ((P2.nil O3 hM).nil O4 hM).nil O5 hM
  refine poprun W5 (r5 (by decide)) (by decide) (fun e => by simp at e) fun x q' T' e le h6 o6 f6 cs6 S6 _ W6 O6 => ⟨_, _, rfl, ?_⟩
  have e : [1, 2] ++ [3] = q' ++ [x] := e
  obtain ⟨rfl, e2⟩ := List.append_inj' e rfl
  obtain rfl : (3 : Int) = x := by simpa using e2
  refine stealrun W6 S6 (by simp at le ⊢; omega) (fun e => by simp at e) fun y q2 e h7 o7 f7 cs7 S7 _ W7 O7 => ⟨_, _, rfl, ?_⟩
  injection e with e1 e2
  subst e1 e2
  rw [bcase_true, bcase_true, show ((3 : Int) == 3) = true from rfl, bcase_true, show ((1 : Int) == 1) = true from rfl, bcase_true]
  refine lenDS W7 S7 (by simp at le ⊢; omega) fun h8 o8 W8 O8 => ldI_of rfl ?_
  exact hK h8 (((P5.nil O6 hM).nil O7 hM).nil O8 hM)
end Go.Proofs.Ytipckkeaoncjiaa.Ev
