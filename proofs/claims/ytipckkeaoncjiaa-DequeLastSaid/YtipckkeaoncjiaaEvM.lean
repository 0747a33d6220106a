/- SLICES OF A CALL's OWN, WINDOWS: one cell an element; appended to at the end, cut at either end. Conditions: the slice stands (Win). -/
import Derived.Test.YtipckkeaoncjiaaEvL
namespace Go.Proofs.Ytipckkeaoncjiaa.Ev
open Go

/-- a slice of one-cell elements cs, a window of a block of the call's own behind lo, or none yet -/
def Win (h : Heap) (lo : Nat) (p : Option Addr) (l c : Nat) (cs : List Value) : Prop :=
  cs.length = l ∧ ((p = none ∧ l = 0 ∧ c = 0) ∨ ∃ b o, p = some ⟨b, o, none⟩ ∧ lo ≤ b ∧ b < h.size ∧ ((l = 0 ∧ c = 0) ∨ ∃ pre sp : List Value, pre.length = o ∧ l ≤ c ∧ sp.length = c - l ∧ At h b (pre ++ cs ++ sp)))
theorem Win.nil (h : Heap) (lo : Nat) : Win h lo none 0 0 [] := ⟨rfl, Or.inl ⟨rfl, rfl, rfl⟩⟩
theorem Win.only {S : List Nat} {h h' : Heap} {lo : Nat} {p : Option Addr} {l c : Nat} {cs : List Value} (H : Win h lo p l c cs) (O : Only S h h') (hS : ∀ b ∈ OwnB p, b ∉ S) : Win h' lo p l c cs := by
  obtain ⟨e, H⟩ := H
  rcases H with H | ⟨b, o, h1, h2, h3, H⟩
  · exact ⟨e, Or.inl H⟩
  · refine ⟨e, Or.inr ⟨b, o, h1, h2, Nat.lt_of_lt_of_le h3 O.size, ?_⟩⟩
    rcases H with H | ⟨pre, sp, h4, h5, h6, h7⟩
    · exact Or.inl H
    · exact Or.inr ⟨pre, sp, h4, h5, h6, h7.only O (hS b (by rw [h1]; simp [OwnB]))⟩
theorem Win.lt {h : Heap} {lo : Nat} {p : Option Addr} {l c : Nat} {cs : List Value} (H : Win h lo p l c cs) : ∀ b ∈ OwnB p, lo ≤ b ∧ b < h.size := by
  obtain ⟨-, H⟩ := H
  rcases H with ⟨e, -⟩ | ⟨b, o, h1, h2, h3, -⟩
  · subst e; simp [OwnB]
  · subst h1
    intro x hx
    simp [OwnB] at hx
    subst hx
    exact ⟨h2, h3⟩
theorem Win.rd {h : Heap} {lo : Nat} {p : Option Addr} {l c : Nat} {cs : List Value} (H : Win h lo p l c cs) {j : Nat} (hj : j < cs.length) : ∃ a, p = some a ∧ rd h (a.add j) = cs[j]? := by
  obtain ⟨e, H⟩ := H
  rcases H with ⟨-, h0, -⟩ | ⟨b, o, h1, h2, h3, ⟨h0, -⟩ | ⟨pre, sp, h4, h5, h6, h7⟩⟩
  · omega
  · omega
  · refine ⟨_, h1, ?_⟩
    rw [add_mk, h7.rd, List.getElem?_append_left (by simp; omega), List.getElem?_append_right (by omega)]
    congr 1
    omega
theorem Win.cap {h : Heap} {lo : Nat} {p : Option Addr} {l c : Nat} {cs : List Value} (H : Win h lo p l c cs) : l ≤ c := by
  obtain ⟨e, H⟩ := H
  rcases H with ⟨-, h0, h1⟩ | ⟨b, o, h1, h2, h3, ⟨h0, h4⟩ | ⟨pre, sp, h4, h5, h6, h7⟩⟩
  · omega
  · omega
  · exact h5
/-- the last one goes -/
theorem Win.pop {h : Heap} {lo : Nat} {p : Option Addr} {l c : Nat} {cs : List Value} {v : Value} (H : Win h lo p (l + 1) c (cs ++ [v])) : Win h lo (if c = 0 then p else Option.map (fun a => Addr.add a (0 * 1)) p) l c cs := by
  have ep : (if c = 0 then p else Option.map (fun a => Addr.add a (0 * 1)) p) = p := by
    split
    · rfl
    · cases p with
      | none => rfl
      | some a => simp [Addr.add]
  rw [ep]
  obtain ⟨e, H⟩ := H
  rw [List.length_append, List.length_singleton] at e
  refine ⟨by omega, ?_⟩
  rcases H with ⟨-, h0, -⟩ | ⟨b, o, h1, h2, h3, ⟨h0, -⟩ | ⟨pre, sp, h4, h5, h6, h7⟩⟩
  · omega
  · omega
  · exact Or.inr ⟨b, o, h1, h2, h3, Or.inr ⟨pre, v :: sp, h4, by omega, by simp; omega, by simpa using h7⟩⟩
/-- the first one goes -/
theorem Win.tail {h : Heap} {lo : Nat} {p : Option Addr} {l c : Nat} {cs : List Value} {v : Value} (H : Win h lo p (l + 1) c (v :: cs)) : Win h lo (if c = 1 then p else Option.map (fun a => Addr.add a (1 * 1)) p) l (c - 1) cs := by
  obtain ⟨e, H⟩ := H
  rw [List.length_cons] at e
  refine ⟨by omega, ?_⟩
  rcases H with ⟨-, h0, -⟩ | ⟨b, o, h1, h2, h3, ⟨h0, -⟩ | ⟨pre, sp, h4, h5, h6, h7⟩⟩
  · omega
  · omega
  · by_cases hc : c = 1
    · rw [if_pos hc]
      exact Or.inr ⟨b, o, h1, h2, h3, Or.inl ⟨by omega, by omega⟩⟩
    · rw [if_neg hc, h1]
      refine Or.inr ⟨b, o + 1, by simp, h2, h3, Or.inr ⟨pre ++ [v], sp, by simp [h4], by omega, by omega, by simpa using h7⟩⟩
/-- one more -/
theorem win_app {h : Heap} {lo by_ : Nat} {z : Value} {p : Option Addr} {l c bx : Nat} {cs : List Value} {v : Value} {e : TypeId} {K : Option Addr → Nat → Nat → Heap → Prop}
    (H : Win h lo p l c cs) (A : At h bx [v]) (hcap : (l + 1) * by_ ≤ 140737488355328) (hv : v.oneCell' = true) (hlo : lo ≤ h.size)
    (hK : ∀ p' c' h', Win h' lo p' (l + 1) c' (cs ++ [v]) → Only (OwnB p) h h' → (∀ b ∈ OwnB p', b ∈ OwnB p ∨ h.size ≤ b) → K p' (l + 1) c' h') :
    appK h e 1 by_ #[z] p l c (some ⟨bx, 0, none⟩) 1 K := by
  obtain ⟨hlen, H⟩ := H
  refine ⟨[v], rfl, isRow_at A (by simp), fun hle => ?_, fun hlt => ⟨cs, by omega, ?_, hcap, fun cap hc => ?_⟩⟩
  · rcases H with ⟨-, h0, h1⟩ | ⟨b, o, h1, h2, h3, ⟨h0, h4⟩ | ⟨pre, sp, h4, h5, h6, h7⟩⟩
    · omega
    · omega
    · subst h1
      show stL ((⟨b, o, none⟩ : Addr).add (l * 1)) 0 [v] h _
      rw [add_mk]
      refine stL_own [v] 0 _ h h7 (by simp; omega) (by simpa using hv) fun h' A' O' z' => hK _ _ h' ⟨by simp [hlen], Or.inr ⟨b, o, rfl, h2, by omega, Or.inr ⟨pre, sp.drop 1, h4, hle, by simp; omega, ?_⟩⟩⟩ O' fun x hx => Or.inl hx
      have e1 : (pre ++ cs ++ sp).take (o + l * 1 + 0) = pre ++ cs := by
        rw [show o + l * 1 + 0 = (pre ++ cs).length by simp; omega, List.take_left]
      have e2 : (pre ++ cs ++ sp).drop (o + l * 1 + 0 + [v].length) = sp.drop 1 := by
        rw [List.drop_append, List.drop_eq_nil_of_le (by simp; omega), List.nil_append]
        congr 1
        simp
        omega
      rw [e1, e2] at A'
      simpa using A'
  · rcases H with ⟨e, h0, -⟩ | ⟨b, o, h1, h2, h3, ⟨h0, h4⟩ | ⟨pre, sp, h4, h5, h6, h7⟩⟩
    · subst e
      exact h0
    · subst h1
      obtain rfl : cs = [] := List.length_eq_zero_iff.1 (by omega)
      intro j x hj
      simp at hj
    · subst h1
      exact isRow_at h7 fun j x hj => by
        have hj' := (List.getElem?_eq_some_iff.1 hj).1
        rw [List.getElem?_append_left (by simp; omega), List.getElem?_append_right (by omega), ← hj]
        congr 1
        omega
  · refine hK _ _ _ ⟨by simp [hlen], Or.inr ⟨h.size, 0, rfl, hlo, by simp, Or.inr ⟨[], (Builtin.zeroCells #[z] (cap - (l + 1))).toList, rfl, hc, by rw [size_zeroCells]; simp, ?_⟩⟩⟩ ((Only.push_cells h _ e).mono (by simp)) fun x hx => Or.inr ?_
    · have := At.push h (cs.toArray ++ #[v] ++ Builtin.zeroCells #[z] (cap - (l + 1))) e
      simpa using this
    · simp [OwnB] at hx
      omega
end Go.Proofs.Ytipckkeaoncjiaa.Ev
