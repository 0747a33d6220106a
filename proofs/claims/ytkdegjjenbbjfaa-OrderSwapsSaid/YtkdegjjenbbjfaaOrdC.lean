/- ORDERS (package order): what each of its functions does to a row of levels and variables, seen from the heap. Conditions: the row stands (OrdIs). -/
import Derived.Test.YtkdegjjenbbjfaaEvK
import Derived.Test.YtkdegjjenbbjfaaOrdF
namespace Go.Proofs.Ytkdegjjenbbjfaa.Ev
open Go

/-- eight numbers -/
def L8 (f : Nat → Nat) : List Value := (List.range 8).map fun i => .int .i64 (f i : Int)
def upd (f : Nat → Nat) (k v : Nat) : Nat → Nat := fun i => if i = k then v else f i
theorem L8_len (f : Nat → Nat) : (L8 f).length = 8 := by simp [L8]
theorem L8_get {f : Nat → Nat} {i : Nat} (hi : i < 8) : (L8 f)[i]? = some (.int .i64 (f i : Int)) := by simp [L8, hi]
theorem L8_set (f : Nat → Nat) (k v : Nat) : (L8 f).set k (.int .i64 (v : Int)) = L8 (upd f k v) := by
  apply List.ext_getElem?
  intro i
  by_cases h8 : i < 8
  · rw [L8_get h8, List.getElem?_set]
    by_cases h : k = i
    · subst h
      rw [if_pos rfl, if_pos (by rw [L8_len]; exact h8)]
      simp [upd]
    · rw [if_neg h, L8_get h8]
      simp [upd, Ne.symm h]
  · rw [List.getElem?_eq_none (by simp [L8_len]; omega), List.getElem?_eq_none (by simp [L8_len]; omega)]
/-- block b is an Order of n variables -/
def OrdIs (h : Heap) (b n : Nat) (f g : Nat → Nat) : Prop := At h b (.int .i64 (n : Int) :: (L8 f ++ L8 g))
theorem OrdIs.only {S : List Nat} {h h' : Heap} {b n : Nat} {f g : Nat → Nat} (H : OrdIs h b n f g) (O : Only S h h') (hb : b ∉ S) : OrdIs h' b n f g := At.only H O hb
theorem OrdIs.rd0 {h : Heap} {b n : Nat} {f g : Nat → Nat} (H : OrdIs h b n f g) : rd h ⟨b, 0, none⟩ = some (.int .i64 n) := by rw [At.rd H]; rfl
theorem OrdIs.rdv {h : Heap} {b n : Nat} {f g : Nat → Nat} (H : OrdIs h b n f g) {i : Nat} (hi : i < 8) : rd h ⟨b, 1 + i, none⟩ = some (.int .i64 (f i : Int)) := by
  rw [At.rd H, Nat.add_comm, List.getElem?_cons_succ, List.getElem?_append_left (by rw [L8_len]; exact hi), L8_get hi]
theorem OrdIs.rdl {h : Heap} {b n : Nat} {f g : Nat → Nat} (H : OrdIs h b n f g) {i : Nat} (hi : i < 8) : rd h ⟨b, 9 + i, none⟩ = some (.int .i64 (g i : Int)) := by
  rw [At.rd H, show 9 + i = (8 + i) + 1 by omega, List.getElem?_cons_succ, List.getElem?_append_right (by rw [L8_len]; omega), L8_len, show 8 + i - 8 = i by omega, L8_get hi]
theorem OrdIs.stv {h : Heap} {b n : Nat} {f g : Nat → Nat} {i v : Nat} {K : Heap → Prop} (H : OrdIs h b n f g) (hi : i < 8)
    (hK : ∀ h', OrdIs h' b n (upd f i v) g → Only [b] h h' → K h') : stK h ⟨b, 1 + i, none⟩ (.int .i64 (v : Int)) K := by
  refine stK_at H (by simp [L8_len]; omega) rfl fun h' A O _ => hK h' ?_ O
  rw [Nat.add_comm, List.set_cons_succ, List.set_append_left _ _ (by rw [L8_len]; exact hi), L8_set] at A
  exact A
theorem OrdIs.stl {h : Heap} {b n : Nat} {f g : Nat → Nat} {i v : Nat} {K : Heap → Prop} (H : OrdIs h b n f g) (hi : i < 8)
    (hK : ∀ h', OrdIs h' b n f (upd g i v) → Only [b] h h' → K h') : stK h ⟨b, 9 + i, none⟩ (.int .i64 (v : Int)) K := by
  refine stK_at H (by simp [L8_len]; omega) rfl fun h' A O _ => hK h' ?_ O
  rw [show 9 + i = (8 + i) + 1 by omega, List.set_cons_succ, List.set_append_right _ _ (by rw [L8_len]; omega), L8_len, show 8 + i - 8 = i by omega, L8_set] at A
  exact A

theorem ord_puts {h : Heap} {b n : Nat} {f g : Nat → Nat} {k v : Nat} {K : Value → Heap → Prop} (H : OrdIs h b n f g) (hk : k < 8) (hv : v < 8)
    (hK : ∀ h', OrdIs h' b n (upd f k v) (upd g v k) → Only [b] h h' → K (.tuple #[]) h') :
    CallsH Try.prog 47 [.pointer (some ⟨b, 0, none⟩), .int .i64 (k : Int), .int .i64 (v : Int)] h K := by
  apply F47.spec
  unfold F47.w F47.J0
  simp only [add_mk, Nat.zero_add, Nat.mul_one, Nat.add_zero, Int.toNat_natCast]
  refine ⟨by omega, by omega, H.stv hk fun h1 A1 O1 => ⟨trivial, trivial, trivial, trivial, trivial, by omega, by omega, A1.stl hv fun h2 A2 O2 => ?_⟩⟩
  exact hK h2 A2 (O1.trans O2 (by simp))
theorem ord_var {h : Heap} {b n : Nat} {f g : Nat → Nat} {k : Nat} {K : Value → Heap → Prop} (H : OrdIs h b n f g) (hn : n ≤ 8) (hk : k < n) (hK : K (.int .i64 (f k : Int)) h) :
    CallsH Try.prog 25 [.pointer (some ⟨b, 0, none⟩), .int .i64 (k : Int)] h K := by
  apply F25.spec
  unfold F25.w F25.J0
  simp only [add_mk, Nat.zero_add, Nat.mul_one, Int.toNat_natCast]
  rw [decide_eq_false (by omega), bcase_false]
  refine ldI_of H.rd0 ?_
  rw [decide_eq_false (by omega), bcase_false]
  exact ⟨by omega, by omega, ldI_of (H.rdv (by omega)) hK⟩
theorem ord_var_out {h : Heap} {b n : Nat} {f g : Nat → Nat} {k : Int} {K : Value → Heap → Prop} (H : OrdIs h b n f g) (hk : k < 0 ∨ (n : Int) ≤ k) (hK : K (.int .i64 (-1)) h) :
    CallsH Try.prog 25 [.pointer (some ⟨b, 0, none⟩), .int .i64 k] h K := by
  apply F25.spec
  unfold F25.w F25.J0
  simp only [add_mk, Nat.zero_add]
  refine bcase_of (fun _ => hK) fun h0 => ldI_of H.rd0 ?_
  simp at h0
  rw [decide_eq_true (by omega), bcase_true]
  exact hK
theorem ord_level {h : Heap} {b n : Nat} {f g : Nat → Nat} {k : Nat} {K : Value → Heap → Prop} (H : OrdIs h b n f g) (hn : n ≤ 8) (hk : k < n) (hK : K (.int .i64 (g k : Int)) h) :
    CallsH Try.prog 26 [.pointer (some ⟨b, 0, none⟩), .int .i64 (k : Int)] h K := by
  apply F26.spec
  unfold F26.w F26.J0
  simp only [add_mk, Nat.zero_add, Nat.mul_one, Int.toNat_natCast]
  rw [decide_eq_false (by omega), bcase_false]
  refine ldI_of H.rd0 ?_
  rw [decide_eq_false (by omega), bcase_false]
  exact ⟨by omega, by omega, ldI_of (H.rdl (by omega)) hK⟩
theorem ord_len {h : Heap} {b n : Nat} {f g : Nat → Nat} {K : Value → Heap → Prop} (H : OrdIs h b n f g) (hK : K (.int .i64 n) h) :
    CallsH Try.prog 46 [.pointer (some ⟨b, 0, none⟩)] h K := by
  apply F46.spec
  unfold F46.w F46.J0
  simp only [add_mk, Nat.zero_add]
  exact ldI_of H.rd0 hK
/-- a level and the next one change their variables -/
def sw (k : Nat) (f : Nat → Nat) : Nat → Nat := upd (upd f k (f (k + 1))) (k + 1) (f k)
def swl (k : Nat) (f g : Nat → Nat) : Nat → Nat := upd (upd g (f (k + 1)) k) (f k) (k + 1)
theorem ord_swap {h : Heap} {b n : Nat} {f g : Nat → Nat} {k : Nat} {K : Value → Heap → Prop} (H : OrdIs h b n f g) (hn : n ≤ 8) (hk : k + 1 < n) (hf : ∀ i, i < n → f i < n)
    (hK : ∀ h', OrdIs h' b n (sw k f) (swl k f g) → Only [b] h h' → K (.int .i64 0) h') :
    CallsH Try.prog 23 [.pointer (some ⟨b, 0, none⟩), .int .i64 (k : Int)] h K := by
  apply F23.spec
  unfold F23.w F23.J0
  have e1 : IntKind.wrap .i64 ((k : Int) + 1) = ((k + 1 : Nat) : Int) := by rw [wrap_i64 (by omega) (by omega)]; simp
  have e2 : IntKind.wrap .i64 ((n : Int) - 1) = (n : Int) - 1 := wrap_i64 (by omega) (by omega)
  simp only [add_mk, Nat.zero_add, Nat.mul_one, Int.toNat_natCast, e1]
  have f1 := hf k (by omega)
  have f2 := hf (k + 1) (by omega)
  rw [decide_eq_false (by omega), bcase_false]
  refine ldI_of H.rd0 ?_
  rw [e2, decide_eq_false (by omega), bcase_false]
  refine ⟨by omega, by omega, ldI_of (H.rdv (by omega)) ⟨by omega, by omega, ldI_of (H.rdv (by omega)) ?_⟩⟩
  refine ord_puts H (by omega) (by omega) fun h1 A1 O1 => ⟨rfl, ord_puts A1 (by omega) (by omega) fun h2 A2 O2 => ⟨rfl, hK h2 A2 (O1.trans O2 (by simp))⟩⟩
theorem ord_swap_out {h : Heap} {b n : Nat} {f g : Nat → Nat} {k : Int} {K : Value → Heap → Prop} (H : OrdIs h b n f g) (hn : n ≤ 8) (hk : k < 0 ∨ (n : Int) - 1 ≤ k) (hK : K (.int .i64 40) h) :
    CallsH Try.prog 23 [.pointer (some ⟨b, 0, none⟩), .int .i64 k] h K := by
  apply F23.spec
  unfold F23.w F23.J0
  have e2 : IntKind.wrap .i64 ((n : Int) - 1) = (n : Int) - 1 := wrap_i64 (by omega) (by omega)
  simp only [add_mk, Nat.zero_add]
  refine bcase_of (fun _ => hK) fun h0 => ldI_of H.rd0 ?_
  simp at h0
  rw [e2, decide_eq_true (by omega), bcase_true]
  exact hK
def fill (k : Nat) : Nat → Nat := fun i => if i < k then i else 0
theorem upd_fill {k : Nat} : upd (fill k) k k = fill (k + 1) := by
  funext i
  unfold upd fill
  split
  · next h => subst h; simp
  · split
    · rw [if_pos (by omega)]
    · rw [if_neg (by omega)]
theorem new_loop {h0 : Heap} {b n : Nat} (hb : h0.size ≤ b) (hn : n ≤ 8) {K : Value → Heap → Prop} (hK : ∀ h', OrdIs h' b n (fill n) (fill n) → Only [] h0 h' → K (.pointer (some ⟨b, 0, none⟩)) h') :
    ∀ (m k : Nat) (h : Heap), n - k < m → k ≤ n → OrdIs h b n (fill k) (fill k) → Only [] h0 h → F21.wL3 m ⟨b, 0, none⟩ (n : Int) (k : Int) h K := by
  intro m
  induction m with
  | zero => intro k h hm; omega
  | succ m ih =>
    intro k h hm hk H O
    unfold F21.wL3 F21.JL3
    by_cases hlt : k < n
    · rw [decide_eq_true (by omega), bcase_true]
      simp only [add_mk, Nat.zero_add, Nat.mul_one, Nat.add_zero, Int.toNat_natCast]
      refine ⟨by omega, by omega, H.stv (by omega) fun h1 A1 O1 => ⟨trivial, trivial, trivial, trivial, trivial, by omega, by omega, A1.stl (by omega) fun h2 A2 O2 => ?_⟩⟩
      rw [show IntKind.wrap .i64 ((k : Int) + 1) = ((k + 1 : Nat) : Int) by rw [wrap_i64 (by omega) (by omega)]; simp]
      rw [upd_fill] at A2
      exact ih (k + 1) h2 (by omega) (by omega) A2 (O.trans (O1.trans (T := [b]) O2 (by simp)) fun x hx hl => absurd (show x = b by simpa using hx) (by omega))
    · rw [decide_eq_false (by omega), bcase_false]
      obtain rfl : k = n := by omega
      exact hK h H O
theorem ord_new {h : Heap} {n : Nat} (h1 : 1 ≤ n) (h8 : n ≤ 8) {K : Value → Heap → Prop} (hK : ∀ b h', OrdIs h' b n (fill n) (fill n) → h.size ≤ b → Only [] h h' → K (.pointer (some ⟨b, 0, none⟩)) h') :
    CallsH Try.prog 21 [.int .i64 (n : Int)] h K := by
  apply F21.spec
  unfold F21.w F21.J0
  rw [if_neg (by omega : ¬ (1 : Int) > (n : Int)), if_neg (by omega : ¬ (8 : Int) < (n : Int))]
  refine newK_at fun h2 A2 O2 z2 => ?_
  have A2 : OrdIs h2 h.size n (fill 0) (fill 0) := A2
  simp only [add_mk, Nat.zero_add]
  refine ldI_of A2.rd0 ?_
  unfold F21.wk3 F21.Jk3
  exact ⟨n + 1, new_loop (Nat.le_refl _) h8 (fun h' H O => hK h.size h' H (Nat.le_refl _) O) (n + 1) 0 h2 (by omega) (by omega) A2 O2⟩
/-- the variables by levels, in a slice of their own -/
theorem stL_row {b : Nat} {K : Heap → Prop} : ∀ (new : List Value) (i : Nat) (c : List Value) (h : Heap), At h b c → i + new.length ≤ c.length → (∀ v ∈ new, v.oneCell' = true) →
    (∀ h', At h' b (c.take i ++ new ++ c.drop (i + new.length)) → Only [b] h h' → K h') → stL ⟨b, 0, none⟩ i new h K := by
  intro new
  induction new with
  | nil =>
    intro i c h A hi hv hK
    unfold stL
    exact hK h (by simpa using A) (Only.refl _ _)
  | cons v vs ih =>
    intro i c h A hi hv hK
    simp only [List.length_cons] at hi
    unfold stL
    rw [add_mk, Nat.zero_add]
    refine stK_at A (by omega) (hv v (by simp)) fun h1 A1 O1 _ => ih (i + 1) _ h1 A1 (by simp; omega) (fun x hx => hv x (by simp [hx])) fun h2 A2 O2 => hK h2 ?_ (O1.trans O2 (by simp))
    have e : (c.set i v).take (i + 1) = c.take i ++ [v] := by
      rw [List.take_set, List.take_succ_eq_append_getElem (by omega), List.set_append_right _ _ (by simp; omega)]
      simp [List.length_take, Nat.min_eq_left (by omega : i ≤ c.length)]
    have e2 : (c.set i v).drop (i + 1 + vs.length) = c.drop (i + (vs.length + 1)) := by
      rw [List.drop_set_of_lt (by omega)]
      congr 1
      omega
    rw [e, e2] at A2
    simpa using A2
theorem ord_all {h : Heap} {b n : Nat} {f g : Nat → Nat} {K : Value → Heap → Prop} (H : OrdIs h b n f g) (hn : n ≤ 8)
    (hK : ∀ x h', At h' x (((List.range n).map fun i => (f i : Int)).map (.int .i64)) → h.size ≤ x → Only [] h h' → K (.slice (some ⟨x, 0, none⟩) n n) h') :
    CallsH Try.prog 22 [.pointer (some ⟨b, 0, none⟩)] h K := by
  apply F22.spec
  unfold F22.w F22.J0
  simp only [add_mk, Nat.zero_add, Nat.mul_one]
  refine ldI_of H.rd0 ⟨by omega, by omega, by omega, by omega, newK_at fun h1 A1 O1 z1 => ?_⟩
  have H1 := H.only O1 (by simp)
  refine ldI_of H1.rd0 ⟨by omega, by omega, ?_⟩
  rw [if_neg (by decide : ¬ (8 = 0)), Int.toNat_natCast, Nat.sub_zero, toList_madeCells_one] at *
  unfold copyK
  rw [show Nat.min n n = n from Nat.min_self n]
  refine ⟨((List.range n).map fun i => (f i : Int)).map (.int .i64), by simp, ?_, ?_⟩
  · intro j v hj
    have hjn : j < n := by
      have := (List.getElem?_eq_some_iff.1 hj).1
      simpa using this
    rw [add_mk, H1.rdv (by omega), ← hj]
    simp [hjn]
  · refine stL_row _ 0 _ h1 A1 (by simp) (by simp [Value.oneCell']) fun h2 A2 O2 => hK h.size h2 ?_ (Nat.le_refl _) ?_
    · simpa using A2
    · exact O1.trans O2 fun x hx hl => absurd (show x = h.size by simpa using hx) (by omega)
end Go.Proofs.Ytkdegjjenbbjfaa.Ev
