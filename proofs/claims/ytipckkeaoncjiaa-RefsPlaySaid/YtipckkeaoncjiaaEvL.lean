/- SLICES OF A CALL's OWN: how they grow, one element at a time. Conditions: the slice stands (Own). -/
import Derived.Test.YtipckkeaoncjiaaEvK
import Derived.Laws.AppendOwn
namespace Go.Proofs.Ytipckkeaoncjiaa.Ev
open Go

theorem stL_own {b o : Nat} {K : Heap → Prop} : ∀ (new : List Value) (i : Nat) (c : List Value) (h : Heap), At h b c → o + i + new.length ≤ c.length → (∀ v ∈ new, v.oneCell' = true) →
    (∀ h', At h' b (c.take (o + i) ++ new ++ c.drop (o + i + new.length)) → Only [b] h h' → h'.size = h.size → K h') → stL ⟨b, o, none⟩ i new h K := by
  intro new
  induction new with
  | nil =>
    intro i c h A hi hv hK
    unfold stL
    exact hK h (by simpa using A) (Only.refl _ _) rfl
  | cons v vs ih =>
    intro i c h A hi hv hK
    simp only [List.length_cons] at hi
    unfold stL
    rw [add_mk]
    refine stK_at A (by omega) (hv v (by simp)) fun h1 A1 O1 z1 => ih (i + 1) _ h1 A1 (by simp; omega) (fun x hx => hv x (by simp [hx])) fun h2 A2 O2 z2 => hK h2 ?_ (O1.trans O2 (by simp)) (z2.trans z1)
    have e : (c.set (o + i) v).take (o + (i + 1)) = c.take (o + i) ++ [v] := by
      rw [show o + (i + 1) = (o + i) + 1 by omega, List.take_set, List.take_succ_eq_append_getElem (by omega), List.set_append_right _ _ (by simp; omega)]
      simp [List.length_take, Nat.min_eq_left (by omega : o + i ≤ c.length)]
    have e2 : (c.set (o + i) v).drop (o + (i + 1) + vs.length) = c.drop (o + i + (vs.length + 1)) := by
      rw [List.drop_set_of_lt (by omega)]
      congr 1
      omega
    rw [e, e2] at A2
    simpa using A2

/-- a slice whose cells are cs, in a block of its own behind lo, or none yet -/
def Own (h : Heap) (lo N : Nat) (p : Option Addr) (l c : Nat) (cs : List Value) : Prop :=
  cs.length = l * N ∧ ((p = none ∧ l = 0 ∧ c = 0) ∨ ∃ (b : Nat) (sp : List Value), p = some ⟨b, 0, none⟩ ∧ lo ≤ b ∧ l ≤ c ∧ sp.length = (c - l) * N ∧ At h b (cs ++ sp))
def OwnB : Option Addr → List Nat
  | some a => [a.block]
  | none => []
theorem Own.nil (h : Heap) (lo N : Nat) : Own h lo N none 0 0 [] := ⟨by simp, Or.inl ⟨rfl, rfl, rfl⟩⟩
theorem Own.only {S : List Nat} {h h' : Heap} {lo N : Nat} {p : Option Addr} {l c : Nat} {cs : List Value} (H : Own h lo N p l c cs) (O : Only S h h') (hS : ∀ b, p = some ⟨b, 0, none⟩ → b ∉ S) : Own h' lo N p l c cs := by
  obtain ⟨e, H⟩ := H
  rcases H with H | ⟨b, sp, h1, h2, h3, h4, h5⟩
  · exact ⟨e, Or.inl H⟩
  · exact ⟨e, Or.inr ⟨b, sp, h1, h2, h3, h4, h5.only O (hS b h1)⟩⟩
theorem Own.lt {h : Heap} {lo N : Nat} {p : Option Addr} {l c : Nat} {cs : List Value} (H : Own h lo N p l c cs) : ∀ b ∈ OwnB p, lo ≤ b ∧ b < h.size := by
  obtain ⟨-, H⟩ := H
  rcases H with ⟨e, -⟩ | ⟨b, sp, h1, h2, -, -, h5⟩
  · subst e; simp [OwnB]
  · subst h1
    intro x hx
    simp [OwnB] at hx
    subst hx
    exact ⟨h2, h5.lt⟩
theorem Own.rd {h : Heap} {lo N : Nat} {p : Option Addr} {l c : Nat} {cs : List Value} (H : Own h lo N p l c cs) {j : Nat} (hj : j < cs.length) : ∃ b, p = some ⟨b, 0, none⟩ ∧ rd h ⟨b, j, none⟩ = cs[j]? := by
  obtain ⟨e, H⟩ := H
  rcases H with ⟨-, h0, -⟩ | ⟨b, sp, h1, h2, -, -, h5⟩
  · subst h0
    simp at e
    simp [e] at hj
  · exact ⟨b, h1, by rw [h5.rd, List.getElem?_append_left hj]⟩
theorem isRow_at {h : Heap} {b o : Nat} {c new : List Value} (A : At h b c) (hn : ∀ j v, new[j]? = some v → c[o + j]? = some v) : isRow h ⟨b, o, none⟩ new := by
  intro j v hj
  rw [add_mk, A.rd]
  exact hn j v hj
theorem size_zeroCells (z : Array Value) (n : Nat) : (Builtin.zeroCells z n).toList.length = n * z.size := by
  simp [Builtin.zeroCells]
/-- one element more -/
theorem own_app {h : Heap} {lo N by_ : Nat} {z : Array Value} {p : Option Addr} {l c bx : Nat} {cs new : List Value} {e : TypeId} {K : Option Addr → Nat → Nat → Heap → Prop}
    (H : Own h lo N p l c cs) (A : At h bx new) (hnew : new.length = N) (hz : z.size = N) (hcap : (l + 1) * by_ ≤ 140737488355328) (hv : ∀ v ∈ new, v.oneCell' = true) (hlo : lo ≤ h.size)
    (hK : ∀ p' c' h', Own h' lo N p' (l + 1) c' (cs ++ new) → Only (OwnB p) h h' → (∀ b ∈ OwnB p', b ∈ OwnB p ∨ h.size ≤ b) → K p' (l + 1) c' h') :
    appK h e N by_ z p l c (some ⟨bx, 0, none⟩) 1 K := by
  obtain ⟨hlen, H⟩ := H
  refine ⟨new, by omega, isRow_at A (by simp), fun hle => ?_, fun hlt => ⟨cs, hlen, ?_, hcap, fun cap hc => ?_⟩⟩
  · rcases H with ⟨-, h0, h1⟩ | ⟨b, sp, rfl, h2, h3, h4, h5⟩
    · omega
    · show stL ((⟨b, 0, none⟩ : Addr).add (l * N)) 0 new h _
      rw [add_mk, Nat.zero_add]
      have hsp : N ≤ sp.length := by
        rw [h4]
        have : 1 * N ≤ (c - l) * N := Nat.mul_le_mul_right _ (by omega)
        omega
      refine stL_own new 0 _ h h5 (by simp; omega) hv fun h' A' O' z' => hK _ _ h' ⟨by simp [hlen, hnew, Nat.add_mul], Or.inr ⟨b, sp.drop N, rfl, h2, hle, ?_, ?_⟩⟩ O' fun x hx => Or.inl hx
      · rw [List.length_drop, h4, show c - l = (c - (l + 1)) + 1 by omega, Nat.add_mul]
        omega
      · rw [Nat.add_zero, ← hlen, List.take_left, hnew, List.drop_append, List.drop_eq_nil_of_le (by omega : cs.length ≤ cs.length + N)] at A'
        simpa using A'
  · rcases H with ⟨e, h0, -⟩ | ⟨b, sp, rfl, -, -, -, h5⟩
    · subst e
      exact h0
    · exact isRow_at h5 fun j v hj => by
        rw [Nat.zero_add, List.getElem?_append_left (List.getElem?_eq_some_iff.1 hj).1]
        exact hj
  · refine hK _ _ _ ⟨by simp [hlen, hnew, Nat.add_mul], Or.inr ⟨h.size, (Builtin.zeroCells z (cap - (l + 1))).toList, rfl, hlo, hc, by rw [size_zeroCells, hz], ?_⟩⟩ ((Only.push_cells h _ e).mono (by simp)) fun x hx => Or.inr ?_
    · have := At.push h (cs.toArray ++ new.toArray ++ Builtin.zeroCells z (cap - (l + 1))) e
      simpa using this
    · simp [OwnB] at hx
      omega
theorem Own.set {h : Heap} {lo N : Nat} {l c b j : Nat} {cs : List Value} {v : Value} {K : Heap → Prop} (H : Own h lo N (some ⟨b, 0, none⟩) l c cs) (hj : j < cs.length) (hv : v.oneCell' = true)
    (hK : ∀ h', Own h' lo N (some ⟨b, 0, none⟩) l c (cs.set j v) → Only [b] h h' → K h') : stK h ⟨b, j, none⟩ v K := by
  obtain ⟨e, H⟩ := H
  rcases H with ⟨h1, -⟩ | ⟨b', sp, h1, h2, h3, h4, h5⟩
  · cases h1
  · injection h1 with h1
    injection h1 with h1
    subst h1
    refine stK_at h5 (by simp; omega) hv fun h' A O _ => hK h' ⟨by simp [e], Or.inr ⟨b, sp, rfl, h2, h3, h4, ?_⟩⟩ O
    rw [List.set_append_left _ _ hj] at A
    exact A
def rowV (L : Nat) (g : Nat → Value) : List Value := (List.range L).map g
theorem rowV_len (L : Nat) (g : Nat → Value) : (rowV L g).length = L := by simp [rowV]
theorem rowV_get {L k : Nat} {g : Nat → Value} (hk : k < L) : (rowV L g)[k]? = some (g k) := by simp [rowV, hk]
theorem rowV_set (L k : Nat) (g : Nat → Value) (v : Value) : (rowV L g).set k v = rowV L fun j => if j = k then v else g j := by
  apply List.ext_getElem?
  intro i
  by_cases hi : i < L
  · rw [rowV_get hi, List.getElem?_set]
    by_cases h : k = i
    · subst h
      rw [if_pos rfl, if_pos (by rw [rowV_len]; exact hi), if_pos rfl]
    · rw [if_neg h, rowV_get hi, if_neg (Ne.symm h)]
  · rw [List.getElem?_eq_none (by simp [rowV_len]; omega), List.getElem?_eq_none (by simp [rowV_len]; omega)]
theorem rowV_succ (L : Nat) (g : Nat → Value) : rowV (L + 1) g = rowV L g ++ [g L] := by simp [rowV, List.range_succ]
theorem rowV_ext {L : Nat} {g g' : Nat → Value} (h : ∀ k, k < L → g k = g' k) : rowV L g = rowV L g' := List.map_congr_left fun k hk => h k (List.mem_range.1 hk)

def ptrOf (b : Nat) : Value := .pointer (some ⟨b, 0, none⟩)
def fset {α : Type} (f : Nat → α) (k : Nat) (v : α) : Nat → α := fun j => if j = k then v else f j
theorem fset_same {α : Type} (f : Nat → α) (k : Nat) (v : α) : fset f k v k = v := if_pos rfl
theorem fset_other {α : Type} (f : Nat → α) {k j : Nat} (v : α) (h : j ≠ k) : fset f k v j = f j := if_neg h

theorem rowV_const (n : Nat) (v : Value) : (Array.replicate n v).toList = rowV n fun _ => v := by
  unfold rowV
  rw [List.map_const']
  simp
end Go.Proofs.Ytipckkeaoncjiaa.Ev
