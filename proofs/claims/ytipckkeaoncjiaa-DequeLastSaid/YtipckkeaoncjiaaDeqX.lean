/- THE DEQUE IN TURNS, plain: an owner's act and thieves' acts, one access a step; what they leave standing. Conditions: none. -/
import Derived.Test.YtipckkeaoncjiaaDeqP
import Derived.Test.YtipckkeaoncjiaaEvL
namespace Go.Proofs.Ytipckkeaoncjiaa.Ev
open Go

/-- the owner's act (or none), over the values q at places T to E -/
inductive OwS (base n : Nat) (cs : List Int) (T E : Nat) (q : List Int) : List Int → Option Dc → Prop
  | idle (hb : cs.getD (base + 1) 0 = (E : Int)) : OwS base n cs T E q [] none
  | p0 (v t b : Int) (ok : Bool) (hb : cs.getD (base + 1) 0 = (E : Int)) : OwS base n cs T E q [] (some ⟨v, t, b, 0, false, ok⟩)
  | p1 (v t : Int) (ok : Bool) (hb : cs.getD (base + 1) 0 = (E : Int)) : OwS base n cs T E q [] (some ⟨v, t, (E : Int), 1, false, ok⟩)
  | p2 (v t : Int) (ok : Bool) (hb : cs.getD (base + 1) 0 = (E : Int)) (hl : q.length < n) : OwS base n cs T E q [] (some ⟨v, t, (E : Int), 2, false, ok⟩)
  | p3 (v t : Int) (ok : Bool) (hb : cs.getD (base + 1) 0 = (E : Int)) (hl : q.length < n) (hs : cs.getD (base + 2 + E % n) 0 = v) : OwS base n cs T E q [] (some ⟨v, t, (E : Int), 3, false, ok⟩)
  | p4 (v t b : Int) (ok : Bool) (hb : cs.getD (base + 1) 0 = (E : Int)) : OwS base n cs T E q [] (some ⟨v, t, b, 4, false, ok⟩)
  | p5 (v t : Int) (ok : Bool) (hb : cs.getD (base + 1) 0 = (E : Int)) : OwS base n cs T E q [] (some ⟨v, t, (E : Int) - 1, 5, false, ok⟩)
  | p6 (v t : Int) (ok : Bool) (hb : cs.getD (base + 1) 0 = IntKind.wrap .u64 ((E : Int) - 1)) : OwS base n cs T E q [] (some ⟨v, t, (E : Int) - 1, 6, false, ok⟩)
  | p7 (v : Int) (t : Nat) (ok : Bool) (hb : cs.getD (base + 1) 0 = IntKind.wrap .u64 ((E : Int) - 1)) (h1 : t ≤ T) (h2 : t + 1 ≤ E) (h3 : t + 1 < E → q ≠ []) : OwS base n cs T E q [] (some ⟨v, (t : Int), (E : Int) - 1, 7, false, ok⟩)
  | p8 (v : Int) (t : Nat) (ok : Bool) (hb : cs.getD (base + 1) 0 = IntKind.wrap .u64 ((E : Int) - 1)) (h1 : t ≤ T) (h2 : t + 1 = E) (hv : q ≠ [] → q = [v]) : OwS base n cs T E q [] (some ⟨v, (t : Int), (E : Int) - 1, 8, false, ok⟩)
  | p9 (v t : Int) (ok : Bool) (hb : cs.getD (base + 1) 0 = IntKind.wrap .u64 ((E : Int) - 1)) (hq : q = []) : OwS base n cs T E q (if ok then [v] else []) (some ⟨v, t, (E : Int) - 1, 9, false, ok⟩)
  | p10 (v t : Int) (ok : Bool) (hb : cs.getD (base + 1) 0 = IntKind.wrap .u64 ((E : Int) - 1)) (hq : q = []) : OwS base n cs T E q [] (some ⟨v, t, (E : Int) - 1, 10, false, ok⟩)
/-- a thief's act -/
inductive ThS (T : Nat) (q : List Int) (lm : Nat) : Dc → Prop
  | t11 (v t b : Int) (ok : Bool) : ThS T q lm ⟨v, t, b, 11, false, ok⟩
  | t12 (v : Int) (t : Nat) (b : Int) (ok : Bool) (h : t ≤ T) : ThS T q lm ⟨v, (t : Int), b, 12, false, ok⟩
  | t13 (v : Int) (t : Nat) (b : Int) (ok : Bool) (h : t ≤ T) (hl : t = T → lm < q.length) : ThS T q lm ⟨v, (t : Int), b, 13, false, ok⟩
  | t14 (v : Int) (t : Nat) (b : Int) (ok : Bool) (h : t ≤ T) (hl : t = T → lm < q.length) (hv : t = T → v = q.getD 0 0) : ThS T q lm ⟨v, (t : Int), b, 14, false, ok⟩
/-- the owner takes the last one for sure -/
def lmD : Option Dc → Nat
  | some A => if A.ph = 7 ∧ A.t < A.b then 1 else 0
  | none => 0
structure Sys (base n : Nat) (cs : List Int) (T E : Nat) (q hand : List Int) (o : Option Dc) (th : Nat → Option Dc) : Prop where
  top : cs.getD base 0 = T
  ends : E = T + q.length
  len : q.length ≤ n
  val : ∀ i, i < q.length → cs.getD (base + 2 + (T + i) % n) 0 = q.getD i 0
  own : OwS base n cs T E q hand o
  thf : ∀ i A, th i = some A → ThS T q (lmD o) A

theorem wrap_iu {x : Int} (h0 : -1 ≤ x) (h1 : x < 1000000000000) : IntKind.wrap .i64 (IntKind.wrap .u64 x) = x := by
  rw [wrap_u64', IntKind.wrap_i64]
  omega
theorem ThS.grow {T : Nat} {q : List Int} {lm lm' : Nat} {A : Dc} {v : Int} (H : ThS T q lm A) (h : lm' ≤ lm) : ThS T (q ++ [v]) lm' A := by
  cases H with
  | t11 v t b ok => exact .t11 v t b ok
  | t12 v t b ok h => exact .t12 v t b ok h
  | t13 v t b ok h hl => exact .t13 v t b ok h fun e => by have := hl e; simp; omega
  | t14 v' t b ok h hl hv =>
    refine .t14 v' t b ok h (fun e => by have := hl e; simp; omega) fun e => ?_
    have := hl e
    rw [hv e]
    simp only [List.getD, List.getElem?_append_left (show 0 < q.length by omega)]
theorem ThS.next {T : Nat} {q q' : List Int} {lm lm' : Nat} {A : Dc} (H : ThS T q lm A) : ThS (T + 1) q' lm' A := by
  cases H with
  | t11 v t b ok => exact .t11 v t b ok
  | t12 v t b ok h => exact .t12 v t b ok (by omega)
  | t13 v t b ok h hl => exact .t13 v t b ok (by omega) fun e => by omega
  | t14 v t b ok h hl hv => exact .t14 v t b ok (by omega) (fun e => by omega) fun e => by omega
theorem ThS.lm {T : Nat} {q : List Int} {l l' : Nat} {A : Dc} (H : ThS T q l A) (h : l < q.length → l' < q.length) : ThS T q l' A := by
  cases H with
  | t11 v t b ok => exact .t11 v t b ok
  | t12 v t b ok h' => exact .t12 v t b ok h'
  | t13 v t b ok h' hl => exact .t13 v t b ok h' fun e => h (hl e)
  | t14 v t b ok h' hl hv => exact .t14 v t b ok (by omega) (fun e => h (hl e)) hv
theorem ThS.shrink {T : Nat} {q : List Int} {v : Int} {A : Dc} (H : ThS T (q ++ [v]) 1 A) : ThS T q 0 A := by
  cases H with
  | t11 v t b ok => exact .t11 v t b ok
  | t12 v t b ok h => exact .t12 v t b ok h
  | t13 v t b ok h hl => exact .t13 v t b ok h fun e => by have := hl e; simp at this; omega
  | t14 v' t b ok h hl hv =>
    refine .t14 v' t b ok h (fun e => by have := hl e; simp at this; omega) fun e => ?_
    have := hl e
    simp at this
    rw [hv e]
    simp only [List.getD, List.getElem?_append_left (show 0 < q.length by omega)]

section
variable {base n : Nat} {cs : List Int} {T E : Nat} {q hand : List Int} {o : Option Dc} {th : Nat → Option Dc} {A : Dc} {i : Nat}

theorem ring_ne {n T l i : Nat} (hl : l < n) (hi : i < l) : (T + i) % n ≠ (T + l) % n := by
  intro e
  have h1 := Nat.sub_mod_eq_zero_of_mod_eq e.symm
  rw [show T + l - (T + i) = l - i by omega, Nat.mod_eq_of_lt (by omega)] at h1
  omega

theorem Sys.phs (S : Sys base n cs T E q hand (some A) th) : A.ph ≤ 10 ∧ A.done = false ∧ (A.ph = 2 ∨ A.ph = 7 → 0 ≤ A.b) := by
  have := S.own
  cases this <;> refine ⟨by simp, rfl, fun e => ?_⟩ <;> simp at e ⊢
  omega
theorem Sys.thp (S : Sys base n cs T E q hand o th) (hi : th i = some A) : 11 ≤ A.ph ∧ A.ph ≤ 14 ∧ A.done = false ∧ (A.ph = 13 → 0 ≤ A.t) := by
  have := S.thf i A hi
  cases this <;> exact ⟨by simp, by simp, rfl, fun _ => by simp at *⟩

/-- what a step of the owner's leaves: its act goes on, or is done -/
def OwnTo (base n : Nat) (cs : List Int) (E : Nat) (s : List Int) (A : Dc) (th : Nat → Option Dc) (A' : Dc) (cs' : List Int) : Prop :=
  ∃ T' E' q', E' ≤ E + 1 ∧ cs'.length = cs.length ∧
    ((A'.done = false ∧ ∃ hand', Sys base n cs' T' E' q' hand' (some A') th ∧ q' ++ hand' = s ∧ A.ph < A'.ph ∧ (A.ph ≤ 3 ↔ A'.ph ≤ 3) ∧ (A.ph ≤ 3 → A'.v = A.v)) ∨
     (A'.done = true ∧ Sys base n cs' T' E' q' [] none th ∧
      ((A'.ok = false ∧ q' = s) ∨ (A'.ok = true ∧ A.ph ≤ 3 ∧ q' = s ++ [A'.v] ∧ A'.v = A.v) ∨ (A'.ok = true ∧ 4 ≤ A.ph ∧ s = q' ++ [A'.v]))))

theorem own_step (S : Sys base n cs T E q hand (some A) th) (hn : 1 ≤ n) (hc : base + 2 + n ≤ cs.length) (hE : E < 1000000000) :
    OwnTo base n cs E (q ++ hand) A th (stepD base n cs A).1 (stepD base n cs A).2 := by
  obtain ⟨top, ends, len, val, own, thf⟩ := S
  have hmE : E % n < n := Nat.mod_lt _ (by omega)
  have wt : IntKind.wrap .i64 (cs.getD base 0) = (T : Int) := by rw [top, wrap_i64 (by omega) (by omega)]
  cases own with
  | p0 v t b ok hb =>
    have hw : IntKind.wrap .i64 (cs.getD (base + 1) 0) = (E : Int) := by rw [hb, wrap_i64 (by omega) (by omega)]
    have e : stepD base n cs ⟨v, t, b, 0, false, ok⟩ = (⟨v, t, (E : Int), 1, false, ok⟩, cs) := by
      simp only [stepD, Bool.false_eq_true, if_false, hw]
    rw [e]
    exact ⟨T, E, q, by omega, rfl, Or.inl ⟨rfl, [], ⟨top, ends, len, val, .p1 v t ok hb, thf⟩, rfl, by simp, by simp, fun _ => rfl⟩⟩
  | p1 v t ok hb =>
    have hw : IntKind.wrap .i64 ((E : Int) - (T : Int)) = (q.length : Int) := by rw [wrap_i64 (by omega) (by omega)]; omega
    by_cases hlt : q.length < n
    · have e : stepD base n cs ⟨v, t, (E : Int), 1, false, ok⟩ = (⟨v, (T : Int), (E : Int), 2, false, ok⟩, cs) := by
        simp only [stepD, Bool.false_eq_true, if_false, wt, hw]
        rw [decide_eq_false (by omega)]
        simp
      rw [e]
      exact ⟨T, E, q, by omega, rfl, Or.inl ⟨rfl, [], ⟨top, ends, len, val, .p2 v T ok hb hlt, thf⟩, rfl, by simp, by simp, fun _ => rfl⟩⟩
    · have e : stepD base n cs ⟨v, t, (E : Int), 1, false, ok⟩ = (⟨v, (T : Int), (E : Int), 2, true, false⟩, cs) := by
        simp only [stepD, Bool.false_eq_true, if_false, wt, hw]
        rw [decide_eq_true (by omega)]
        simp
      rw [e]
      exact ⟨T, E, q, by omega, rfl, Or.inr ⟨rfl, ⟨top, ends, len, val, .idle hb, thf⟩, Or.inl ⟨rfl, by simp⟩⟩⟩
  | p2 v t ok hb hl =>
    have e : stepD base n cs ⟨v, t, (E : Int), 2, false, ok⟩ = (⟨v, t, (E : Int), 3, false, ok⟩, cs.set (base + 2 + E % n) v) := by
      simp only [stepD, Bool.false_eq_true, if_false, slotN]
    rw [e]
    refine ⟨T, E, q, by omega, by simp, Or.inl ⟨rfl, [], ⟨?_, ends, len, fun i hi => ?_, .p3 v t ok ?_ hl ?_, thf⟩, rfl, by simp, by simp, fun _ => rfl⟩⟩
    · rw [getD_set' (by omega), if_neg (by omega)]
      exact top
    · have := ring_ne (T := T) hl hi
      rw [← ends] at this
      rw [getD_set' (by omega), if_neg (by omega)]
      exact val i hi
    · rw [getD_set' (by omega), if_neg (by omega)]
      exact hb
    · rw [getD_set' (by omega), if_pos rfl]
  | p3 v t ok hb hl hs =>
    have e : stepD base n cs ⟨v, t, (E : Int), 3, false, ok⟩ = (⟨v, t, (E : Int), 3, true, true⟩, cs.set (base + 1) ((E + 1 : Nat) : Int)) := by
      simp only [stepD, Bool.false_eq_true, if_false]
      rw [wrap_i64 (by omega) (by omega), wrap_u64 (by omega) (by omega)]
      simp
    rw [e]
    refine ⟨T, E + 1, q ++ [v], by omega, by simp, Or.inr ⟨rfl, ⟨?_, by simp; omega, by simp; omega, fun i hi => ?_, .idle ?_, fun i A h => (thf i A h).grow (Nat.zero_le _)⟩, Or.inr (Or.inl ⟨rfl, by simp, by simp, rfl⟩)⟩⟩
    · rw [getD_set' (by omega), if_neg (by omega)]
      exact top
    · rw [getD_set' (by omega), if_neg (by omega)]
      simp at hi
      by_cases h : i < q.length
      · rw [val i h]
        simp only [List.getD, List.getElem?_append_left h]
      · obtain rfl : i = q.length := by omega
        rw [← ends, hs]
        simp [List.getD]
    · rw [getD_set' (by omega), if_pos rfl]
  | p4 v t b ok hb =>
    have hw : IntKind.wrap .i64 (IntKind.wrap .i64 (cs.getD (base + 1) 0) - 1) = (E : Int) - 1 := by rw [hb, wrap_i64 (n := (E : Int)) (by omega) (by omega), wrap_i64 (by omega) (by omega)]
    have e : stepD base n cs ⟨v, t, b, 4, false, ok⟩ = (⟨v, t, (E : Int) - 1, 5, false, ok⟩, cs) := by
      simp only [stepD, Bool.false_eq_true, if_false, hw]
    rw [e]
    exact ⟨T, E, q, by omega, rfl, Or.inl ⟨rfl, [], ⟨top, ends, len, val, .p5 v t ok hb, thf⟩, rfl, by simp, by simp, fun h => by simp at h⟩⟩
  | p5 v t ok hb =>
    have e : stepD base n cs ⟨v, t, (E : Int) - 1, 5, false, ok⟩ = (⟨v, t, (E : Int) - 1, 6, false, ok⟩, cs.set (base + 1) (IntKind.wrap .u64 ((E : Int) - 1))) := by
      simp only [stepD, Bool.false_eq_true, if_false]
    rw [e]
    refine ⟨T, E, q, by omega, by simp, Or.inl ⟨rfl, [], ⟨?_, ends, len, fun i hi => ?_, .p6 v t ok ?_, thf⟩, rfl, by simp, by simp, fun h => by simp at h⟩⟩
    · rw [getD_set' (by omega), if_neg (by omega)]
      exact top
    · rw [getD_set' (by omega), if_neg (by omega)]
      exact val i hi
    · rw [getD_set' (by omega), if_pos rfl]
  | p6 v t ok hb =>
    by_cases hq : q = []
    · have e : stepD base n cs ⟨v, t, (E : Int) - 1, 6, false, ok⟩ = (⟨v, (T : Int), (E : Int) - 1, 10, false, ok⟩, cs) := by
        simp only [stepD, Bool.false_eq_true, if_false, wt]
        rw [decide_eq_true (by rw [ends, hq]; simp; omega)]
        simp
      rw [e]
      exact ⟨T, E, q, by omega, rfl, Or.inl ⟨rfl, [], ⟨top, ends, len, val, .p10 v T ok hb hq, thf⟩, rfl, by simp, by simp, fun h => by simp at h⟩⟩
    · have hl : 0 < q.length := List.length_pos_iff.2 hq
      have e : stepD base n cs ⟨v, t, (E : Int) - 1, 6, false, ok⟩ = (⟨v, (T : Int), (E : Int) - 1, 7, false, ok⟩, cs) := by
        simp only [stepD, Bool.false_eq_true, if_false, wt]
        rw [decide_eq_false (by omega)]
        simp
      rw [e]
      refine ⟨T, E, q, by omega, rfl, Or.inl ⟨rfl, [], ⟨top, ends, len, val, .p7 v T ok hb (Nat.le_refl _) (by omega) (fun _ => hq), fun i A h => (thf i A h).lm fun h' => ?_⟩, rfl, by simp, by simp, fun h => by simp at h⟩⟩
      simp only [lmD]
      split
      · next h => simp at h; omega
      · omega
  | p7 v t ok hb h1 h2 h3 =>
    have es : slotOf base n ((E : Int) - 1) = base + 2 + (E - 1) % n := by
      rw [show ((E : Int) - 1) = ((E - 1 : Nat) : Int) by omega, slotN]
    by_cases hlt : t + 1 < E
    · obtain ⟨q', x, rfl⟩ : ∃ q' x, q = q' ++ [x] := ⟨q.dropLast, q.getLast (h3 hlt), (List.dropLast_concat_getLast (h3 hlt)).symm⟩
      have hln : (q' ++ [x]).length = q'.length + 1 := by simp
      have hv : cs.getD (base + 2 + (E - 1) % n) 0 = x := by
        have := val q'.length (by omega)
        rw [show T + q'.length = E - 1 by omega] at this
        rw [this]
        simp [List.getD]
      have e : stepD base n cs ⟨v, (t : Int), (E : Int) - 1, 7, false, ok⟩ = (⟨x, (t : Int), (E : Int) - 1, 7, true, true⟩, cs) := by
        simp only [stepD, Bool.false_eq_true, if_false, es, hv]
        rw [if_pos (decide_eq_true (by omega))]
      rw [e]
      refine ⟨T, E - 1, q', by omega, rfl, Or.inr ⟨rfl, ⟨top, by omega, by omega, fun i hi => ?_, .idle ?_, fun i A h => ?_⟩, Or.inr (Or.inr ⟨rfl, by simp, by simp⟩)⟩⟩
      · rw [val i (by omega)]
        simp only [List.getD, List.getElem?_append_left hi]
      · rw [hb, wrap_u64 (by omega) (by omega)]
        omega
      · have := thf i A h
        simp only [lmD] at this
        rw [if_pos ⟨trivial, by omega⟩] at this
        exact this.shrink
    · have e : stepD base n cs ⟨v, (t : Int), (E : Int) - 1, 7, false, ok⟩ = (⟨cs.getD (base + 2 + (E - 1) % n) 0, (t : Int), (E : Int) - 1, 8, false, ok⟩, cs) := by
        simp only [stepD, Bool.false_eq_true, if_false, es]
        rw [if_neg (by simp; omega)]
      rw [e]
      refine ⟨T, E, q, by omega, rfl, Or.inl ⟨rfl, [], ⟨top, ends, len, val, .p8 _ t ok hb h1 (by omega) fun hq => ?_, fun i A h => (thf i A h).lm fun h' => ?_⟩, rfl, by simp, by simp, fun h => by simp at h⟩⟩
      · have hl : 0 < q.length := List.length_pos_iff.2 hq
        match q, hl, ends, val with
        | [x], _, ends, val =>
          have := val 0 (by simp)
          simp at ends
          rw [show T + 0 = E - 1 by omega] at this
          rw [this]
          rfl
        | x :: y :: r, _, ends, _ =>
          simp at ends
          omega
      · simp only [lmD]
        split
        · next h => simp at h
        · omega
  | p8 v t ok hb h1 h2 hv =>
    by_cases hq : q = []
    · have e : stepD base n cs ⟨v, (t : Int), (E : Int) - 1, 8, false, ok⟩ = (⟨v, (t : Int), (E : Int) - 1, 9, false, false⟩, cs) := by
        simp only [stepD, Bool.false_eq_true, if_false]
        rw [if_neg]
        rw [top, wrap_u64 (by omega) (by omega)]
        rw [hq] at ends
        simp at ends
        omega
      rw [e]
      exact ⟨T, E, q, by omega, rfl, Or.inl ⟨rfl, [], ⟨top, ends, len, val, .p9 v t false hb hq, thf⟩, rfl, by simp, by simp, fun h => by simp at h⟩⟩
    · have hq1 := hv hq
      subst hq1
      simp at ends
      have e : stepD base n cs ⟨v, (t : Int), (E : Int) - 1, 8, false, ok⟩ = (⟨v, (t : Int), (E : Int) - 1, 9, false, true⟩, cs.set base ((T + 1 : Nat) : Int)) := by
        simp only [stepD, Bool.false_eq_true, if_false]
        rw [if_pos (by rw [top, wrap_u64 (by omega) (by omega)]; omega), wrap_i64 (by omega) (by omega), wrap_u64 (by omega) (by omega)]
        congr 2
        omega
      rw [e]
      refine ⟨T + 1, E, [], by omega, by simp, Or.inl ⟨rfl, [v], ⟨?_, by simp; omega, by simp, fun i hi => by simp at hi, .p9 v t true ?_ rfl, fun i A h => (thf i A h).next⟩, by simp, by simp, by simp, fun h => by simp at h⟩⟩
      · rw [getD_set' (by omega), if_pos rfl]
      · rw [getD_set' (by omega), if_neg (by omega)]
        exact hb
  | p9 v t ok hb hq =>
    subst hq
    have e : stepD base n cs ⟨v, t, (E : Int) - 1, 9, false, ok⟩ = (⟨v, t, (E : Int) - 1, 9, true, ok⟩, cs.set (base + 1) (E : Int)) := by
      simp only [stepD, Bool.false_eq_true, if_false]
      rw [show (E : Int) - 1 + 1 = E by omega, wrap_i64 (by omega) (by omega), wrap_u64 (by omega) (by omega)]
    rw [e]
    refine ⟨T, E, [], by omega, by simp, Or.inr ⟨rfl, ⟨?_, ends, by simp, fun i hi => by simp at hi, .idle ?_, thf⟩, ?_⟩⟩
    · rw [getD_set' (by omega), if_neg (by omega)]
      exact top
    · rw [getD_set' (by omega), if_pos rfl]
    · cases ok with
      | true => exact Or.inr (Or.inr ⟨rfl, by simp, by simp⟩)
      | false => exact Or.inl ⟨rfl, by simp⟩
  | p10 v t ok hb hq =>
    subst hq
    have e : stepD base n cs ⟨v, t, (E : Int) - 1, 10, false, ok⟩ = (⟨v, t, (E : Int) - 1, 10, true, false⟩, cs.set (base + 1) (E : Int)) := by
      simp only [stepD, Bool.false_eq_true, if_false]
      rw [show (E : Int) - 1 + 1 = E by omega, wrap_i64 (by omega) (by omega), wrap_u64 (by omega) (by omega)]
    rw [e]
    refine ⟨T, E, [], by omega, by simp, Or.inr ⟨rfl, ⟨?_, ends, by simp, fun i hi => by simp at hi, .idle ?_, thf⟩, Or.inl ⟨rfl, by simp⟩⟩⟩
    · rw [getD_set' (by omega), if_neg (by omega)]
      exact top
    · rw [getD_set' (by omega), if_pos rfl]

/-- what stands in the bottom cell -/
theorem OwS.bot (H : OwS base n cs T E q hand o) (hE : E < 1000000000) : ∃ x : Int, IntKind.wrap .i64 (cs.getD (base + 1) 0) = x ∧ -1 ≤ x ∧ x ≤ E ∧ (∀ t : Nat, (t : Int) < x → t + lmD o < E) := by
  cases H with
  | p7 v t ok hb h1 h2 h3 =>
    refine ⟨(E : Int) - 1, by rw [hb, wrap_iu (by omega) (by omega)], by omega, by omega, fun u hu => ?_⟩
    simp only [lmD]
    split <;> omega
  | idle hb | p0 _ _ _ _ hb | p1 _ _ _ hb | p2 _ _ _ hb | p3 _ _ _ hb | p4 _ _ _ _ hb | p5 _ _ _ hb =>
    refine ⟨(E : Int), by rw [hb, wrap_i64 (by omega) (by omega)], by omega, by omega, fun u hu => ?_⟩
    simp [lmD]
    omega
  | p6 _ _ _ hb | p8 _ _ _ hb | p9 _ _ _ hb | p10 _ _ _ hb =>
    refine ⟨(E : Int) - 1, by rw [hb, wrap_iu (by omega) (by omega)], by omega, by omega, fun u hu => ?_⟩
    simp [lmD]
    omega
/-- the first one is stolen -/
theorem OwS.stolen {x : Int} {cs' : List Int} (H : OwS base n cs T E (x :: q) hand o) (hE : E = T + (x :: q).length) (hlm : lmD o < (x :: q).length) (hb' : cs'.getD (base + 1) 0 = cs.getD (base + 1) 0) (hs' : cs'.getD (base + 2 + E % n) 0 = cs.getD (base + 2 + E % n) 0) :
    OwS base n cs' (T + 1) E q hand o := by
  simp at hE
  cases H with
  | idle hb => exact .idle (hb'.trans hb)
  | p0 v t b ok hb => exact .p0 v t b ok (hb'.trans hb)
  | p1 v t ok hb => exact .p1 v t ok (hb'.trans hb)
  | p2 v t ok hb hl => exact .p2 v t ok (hb'.trans hb) (by simp at hl; omega)
  | p3 v t ok hb hl hs => exact .p3 v t ok (hb'.trans hb) (by simp at hl; omega) (hs'.trans hs)
  | p4 v t b ok hb => exact .p4 v t b ok (hb'.trans hb)
  | p5 v t ok hb => exact .p5 v t ok (hb'.trans hb)
  | p6 v t ok hb => exact .p6 v t ok (hb'.trans hb)
  | p7 v t ok hb h1 h2 h3 =>
    refine .p7 v t ok (hb'.trans hb) (by omega) h2 fun h => ?_
    simp only [lmD] at hlm
    rw [if_pos ⟨trivial, by omega⟩] at hlm
    intro e
    subst e
    simp at hlm
  | p8 v t ok hb h1 h2 hv =>
    refine .p8 v t ok (hb'.trans hb) (by omega) h2 fun h => ?_
    have := hv (by simp)
    injection this with _ e
    exact absurd e h
  | p9 v t ok hb hq => cases hq
  | p10 v t ok hb hq => cases hq

/-- what a step of a thief's leaves -/
def ThTo (base n : Nat) (cs : List Int) (T E : Nat) (q hand : List Int) (o : Option Dc) (th : Nat → Option Dc) (i : Nat) (A A' : Dc) (cs' : List Int) : Prop :=
  cs'.length = cs.length ∧
    ((A'.done = false ∧ Sys base n cs' T E q hand o (fset th i (some A')) ∧ A.ph < A'.ph) ∨
     (A'.done = true ∧ A'.ok = false ∧ Sys base n cs' T E q hand o (fset th i none)) ∨
     (A'.done = true ∧ A'.ok = true ∧ ∃ q', q = A'.v :: q' ∧ Sys base n cs' (T + 1) E q' hand o (fset th i none)))

theorem fset_none {th : Nat → Option Dc} {i j : Nat} {A : Dc} (h : fset th i none j = some A) : th j = some A := by
  by_cases e : j = i
  · subst e
    rw [fset_same] at h
    cases h
  · rwa [fset_other th none e] at h
theorem fset_some {P : Dc → Prop} {th : Nat → Option Dc} {i : Nat} {B : Dc} (H : ∀ j A, th j = some A → P A) (hB : P B) : ∀ j A, fset th i (some B) j = some A → P A := by
  intro j A h
  by_cases e : j = i
  · subst e
    rw [fset_same] at h
    injection h with h
    exact h ▸ hB
  · rw [fset_other th _ e] at h
    exact H j A h

theorem th_step (S : Sys base n cs T E q hand o th) (hi : th i = some A) (hn : 1 ≤ n) (hc : base + 2 + n ≤ cs.length) (hE : E < 1000000000) :
    ThTo base n cs T E q hand o th i A (stepD base n cs A).1 (stepD base n cs A).2 := by
  obtain ⟨top, ends, len, val, own, thf⟩ := S
  have wt : IntKind.wrap .i64 (cs.getD base 0) = (T : Int) := by rw [top, wrap_i64 (by omega) (by omega)]
  have H := thf i A hi
  cases H with
  | t11 v t b ok =>
    have e : stepD base n cs ⟨v, t, b, 11, false, ok⟩ = (⟨v, (T : Int), b, 12, false, ok⟩, cs) := by
      simp only [stepD, Bool.false_eq_true, if_false, wt]
    rw [e]
    exact ⟨rfl, Or.inl ⟨rfl, ⟨top, ends, len, val, own, fset_some thf (.t12 v T b ok (Nat.le_refl _))⟩, by simp⟩⟩
  | t12 v t b ok h =>
    obtain ⟨x, hx, x0, x1, x2⟩ := own.bot hE
    by_cases hlt : (t : Int) < x
    · have e : stepD base n cs ⟨v, (t : Int), b, 12, false, ok⟩ = (⟨v, (t : Int), x, 13, false, ok⟩, cs) := by
        simp only [stepD, Bool.false_eq_true, if_false, hx]
        rw [decide_eq_false (by omega)]
        simp
      rw [e]
      refine ⟨rfl, Or.inl ⟨rfl, ⟨top, ends, len, val, own, fset_some thf (.t13 v t x ok h fun e => ?_)⟩, by simp⟩⟩
      have := x2 t hlt
      omega
    · have e : stepD base n cs ⟨v, (t : Int), b, 12, false, ok⟩ = (⟨v, (t : Int), x, 13, true, false⟩, cs) := by
        simp only [stepD, Bool.false_eq_true, if_false, hx]
        rw [decide_eq_true (by omega)]
        simp
      rw [e]
      exact ⟨rfl, Or.inr (Or.inl ⟨rfl, rfl, top, ends, len, val, own, fun j A h => thf j A (fset_none h)⟩)⟩
  | t13 v t b ok h hl =>
    have e : stepD base n cs ⟨v, (t : Int), b, 13, false, ok⟩ = (⟨cs.getD (base + 2 + t % n) 0, (t : Int), b, 14, false, ok⟩, cs) := by
      simp only [stepD, Bool.false_eq_true, if_false, slotN]
    rw [e]
    refine ⟨rfl, Or.inl ⟨rfl, ⟨top, ends, len, val, own, fset_some thf (.t14 _ t b ok h hl fun e => ?_)⟩, by simp⟩⟩
    subst e
    have := hl rfl
    exact val 0 (by omega)
  | t14 v t b ok h hl hv =>
    by_cases ht : t = T
    · subst ht
      have hl0 := hl rfl
      match q, hl0, ends, len, val, own, thf, hv with
      | x :: q', hl0, ends, len, val, own, thf, hv =>
        have hx : v = x := by
          have := hv rfl
          simpa using this
        subst hx
        have e : stepD base n cs ⟨v, (t : Int), b, 14, false, ok⟩ = (⟨v, (t : Int), b, 14, true, true⟩, cs.set base ((t + 1 : Nat) : Int)) := by
          simp only [stepD, Bool.false_eq_true, if_false]
          rw [if_pos (by rw [top, wrap_u64 (by omega) (by omega)]), wrap_i64 (by omega) (by omega), wrap_u64 (by omega) (by omega)]
          simp
        rw [e]
        have hln : (v :: q').length = q'.length + 1 := rfl
        have hg : ∀ j, j ≠ base → (cs.set base ((t + 1 : Nat) : Int)).getD j 0 = cs.getD j 0 := fun j hj => by rw [getD_set' (by omega), if_neg (Ne.symm hj)]
        refine ⟨by simp, Or.inr (Or.inr ⟨rfl, rfl, q', rfl, ?_, by omega, by omega, fun i hi => ?_, own.stolen ends hl0 (hg _ (by omega)) (hg _ (by omega)), fun j A h => (thf j A (fset_none h)).next⟩)⟩
        · rw [getD_set' (by omega), if_pos rfl]
        · rw [hg _ (by omega), show t + 1 + i = t + (i + 1) by omega, val (i + 1) (by omega)]
          simp [List.getD]
    · have e : stepD base n cs ⟨v, (t : Int), b, 14, false, ok⟩ = (⟨v, (t : Int), b, 14, true, false⟩, cs) := by
        simp only [stepD, Bool.false_eq_true, if_false]
        rw [if_neg]
        rw [top, wrap_u64 (by omega) (by omega)]
        omega
      rw [e]
      exact ⟨rfl, Or.inr (Or.inl ⟨rfl, rfl, top, ends, len, val, own, fun j A h => thf j A (fset_none h)⟩)⟩

theorem own_begin {B : Dc} (S : Sys base n cs T E q hand none th) (hB : (∃ v, B = ⟨v, 0, 0, 0, false, false⟩) ∨ B = ⟨0, 0, 0, 4, false, false⟩) : hand = [] ∧ Sys base n cs T E q hand (some B) th := by
  obtain ⟨top, ends, len, val, own, thf⟩ := S
  cases own with
  | idle hb =>
    rcases hB with ⟨v, rfl⟩ | rfl
    · exact ⟨rfl, top, ends, len, val, .p0 _ _ _ _ hb, thf⟩
    · exact ⟨rfl, top, ends, len, val, .p4 _ _ _ _ hb, thf⟩
theorem th_begin (S : Sys base n cs T E q hand o th) : Sys base n cs T E q hand o (fset th i (some ⟨0, 0, 0, 11, false, false⟩)) := by
  obtain ⟨top, ends, len, val, own, thf⟩ := S
  exact ⟨top, ends, len, val, own, fset_some thf (.t11 _ _ _ _)⟩
theorem Sys.ds (S : Sys base n cs T E q hand none th) : DS base n cs T q := by
  obtain ⟨top, ends, len, val, own, thf⟩ := S
  cases own with
  | idle hb => exact ⟨top, by rw [hb, ends], len, val⟩
theorem DS.sys (S : DS base n cs T q) : Sys base n cs T (T + q.length) q [] none fun _ => none :=
  ⟨S.top, rfl, S.len, S.val, .idle S.bot, fun _ _ h => by cases h⟩
end
end Go.Proofs.Ytipckkeaoncjiaa.Ev
