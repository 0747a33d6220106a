/- PART 5 OF WHAT THE LAW WeighBests STANDS ON: SrtA, RefF4, SrtB4, SrtF4, SrtC4, SrtD4, SrtF24, SrtE4, SrtG4. Conditions: each part names its own. -/
import Derived.Test.YtnbnlhpleomaoaaGreatG4
/- SORTING IN PLACE, plainly: rows of numbers, swaps, what is kept by swaps within a part; one step of an insertion. Conditions: none. -/
namespace Go.Proofs.YtnbnlhpleomaoaaGreat.Ev
open Go
def swp (g : Nat → Int) (i j : Nat) : Nat → Int := fun k => if k = j then g i else if k = i then g j else g k
inductive Swp (a b : Nat) : (Nat → Int) → (Nat → Int) → Prop
  | refl (g : Nat → Int) : Swp a b g g
  | step {g g' : Nat → Int} {i j : Nat} : a ≤ i → i < b → a ≤ j → j < b → Swp a b (swp g i j) g' → Swp a b g g'
theorem Swp.trans {a b : Nat} {f g k : Nat → Int} (H : Swp a b f g) (G : Swp a b g k) : Swp a b f k := by
  induction H with
  | refl _ => exact G
  | step h1 h2 h3 h4 _ ih => exact .step h1 h2 h3 h4 (ih G)
theorem Swp.one {a b i j : Nat} (g : Nat → Int) (h1 : a ≤ i) (h2 : i < b) (h3 : a ≤ j) (h4 : j < b) : Swp a b g (swp g i j) := .step h1 h2 h3 h4 (.refl _)
theorem Swp.mono {a b a' b' : Nat} {f g : Nat → Int} (H : Swp a b f g) (ha : a' ≤ a) (hb : b ≤ b') : Swp a' b' f g := by
  induction H with
  | refl g => exact .refl g
  | step h1 h2 h3 h4 _ ih => exact .step (by omega) (by omega) (by omega) (by omega) ih
theorem Swp.out {a b : Nat} {f g : Nat → Int} (H : Swp a b f g) {k : Nat} (hk : k < a ∨ b ≤ k) : g k = f k := by
  induction H with
  | refl g => rfl
  | step h1 h2 h3 h4 _ ih =>
    rw [ih]
    unfold swp
    rw [if_neg (by omega), if_neg (by omega)]
theorem Swp.all {a b : Nat} {f g : Nat → Int} (H : Swp a b f g) {Q : Int → Prop} (h : ∀ k, a ≤ k → k < b → Q (f k)) : ∀ k, a ≤ k → k < b → Q (g k) := by
  induction H with
  | refl g => exact h
  | @step g g' i j h1 h2 h3 h4 _ ih =>
    apply ih
    intro k hk1 hk2
    unfold swp
    split
    · exact h i h1 h2
    · split
      · exact h j h3 h4
      · exact h k hk1 hk2
theorem Swp.perm {a b n : Nat} {f g : Nat → Int} (H : Swp a b f g) (hb : b ≤ n) : ((List.range n).map g).Perm ((List.range n).map f) := by
  induction H with
  | refl g => exact List.Perm.refl _
  | @step g g' i j h1 h2 h3 h4 _ ih =>
    refine ih.trans ?_
    have e : (List.range n).map (swp g i j) = ((List.range n).map fun k => if k = j then i else if k = i then j else k).map g := by
      rw [List.map_map]
      apply List.map_congr_left
      intro k _
      simp only [Function.comp, swp]
      split
      · rfl
      · split <;> rfl
    rw [e]
    refine List.Perm.map g ?_
    refine (List.perm_ext_iff_of_nodup ?_ List.nodup_range).2 fun k => ?_
    · refine List.Pairwise.map _ (fun x y (hxy : x ≠ y) => ?_) List.nodup_range
      (repeat' split) <;> omega
    · rw [List.mem_map]
      constructor
      · rintro ⟨x, hx, rfl⟩
        rw [List.mem_range] at hx ⊢
        split
        · omega
        · split <;> omega
      · intro hk
        rw [List.mem_range] at hk
        by_cases h : k = j
        · exact ⟨i, by rw [List.mem_range]; omega, by by_cases h' : i = j <;> simp [h, h']⟩
        · by_cases h' : k = i
          · exact ⟨j, by rw [List.mem_range]; omega, by simp [h']⟩
          · exact ⟨k, by rw [List.mem_range]; omega, by simp [h, h']⟩
/-- rising -/
def Srt (a b : Nat) (g : Nat → Int) : Prop := ∀ p q, a ≤ p → p < q → q < b → g p ≤ g q
theorem Srt.single {a b : Nat} (g : Nat → Int) (h : b ≤ a + 1) : Srt a b g := fun p q _ _ _ => by omega
/-- all in their order but the one at j, which may have to go further down -/
def Ins (a i j : Nat) (g : Nat → Int) : Prop := ∀ p q, a ≤ p → p < q → q ≤ i → q ≠ j → g p ≤ g q
theorem Ins.start {a i : Nat} {g : Nat → Int} (H : Srt a i g) : Ins a i i g := fun p q h1 h2 h3 h4 => H p q h1 h2 (by omega)
theorem Ins.stop {a i j : Nat} {g : Nat → Int} (H : Ins a i j g) (h : j ≤ a ∨ g (j - 1) ≤ g j) : Srt a (i + 1) g := fun p q h1 h2 h3 => by
  by_cases hq : q = j
  · subst hq
    rcases h with h | h
    · omega
    · by_cases hp : p = q - 1
      · subst hp; exact h
      · exact Int.le_trans (H p (q - 1) h1 (by omega) (by omega) (by omega)) h
  · exact H p q h1 h2 (by omega) hq
theorem swp_i (g : Nat → Int) (i j : Nat) : swp g i j i = g j := by
  unfold swp
  by_cases h : i = j
  · rw [if_pos h, h]
  · rw [if_neg h, if_pos rfl]
theorem swp_j (g : Nat → Int) (i j : Nat) : swp g i j j = g i := if_pos rfl
theorem swp_o (g : Nat → Int) {i j k : Nat} (hi : k ≠ i) (hj : k ≠ j) : swp g i j k = g k := by
  unfold swp
  rw [if_neg hj, if_neg hi]
theorem Ins.step {a i j : Nat} {g : Nat → Int} (H : Ins a i j g) (hj : a < j) (hji : j ≤ i) (hl : g j < g (j - 1)) : Ins a i (j - 1) (swp g j (j - 1)) := fun p q h1 h2 h3 h4 => by
  by_cases hq : q = j
  · subst hq
    rw [swp_i]
    by_cases hp : p = q - 1
    · subst hp
      rw [swp_j]
      omega
    · rw [swp_o g (by omega) hp]
      exact H p (q - 1) h1 (by omega) (by omega) (by omega)
  · rw [swp_o g hq h4]
    by_cases hp : p = j
    · subst hp
      rw [swp_i]
      exact H (p - 1) q (by omega) (by omega) h3 hq
    · by_cases hp' : p = j - 1
      · subst hp'
        rw [swp_j]
        exact H j q (by omega) (by omega) h3 hq
      · rw [swp_o g hp hp']
        exact H p q h1 h2 h3 hq

/-- block b holds these numbers, and more -/
def Arr (q : IntKind) (h : Heap) (b n : Nat) (g : Nat → Int) (sp : List Value) : Prop := At h b (rowV n (fun k => .int q (g k)) ++ sp)
theorem Arr.rd {q : IntKind} {h : Heap} {b n : Nat} {g : Nat → Int} {sp : List Value} (A : Arr q h b n g sp) {k : Nat} (hk : k < n) : Ev.rd h ⟨b, k, none⟩ = some (.int q (g k)) := by
  rw [At.rd A, List.getElem?_append_left (by rw [rowV_len]; exact hk), rowV_get hk]
theorem Arr.only {q : IntKind} {h h' : Heap} {b n : Nat} {g : Nat → Int} {sp : List Value} (A : Arr q h b n g sp) {S : List Nat} (O : Only S h h') (hb : b ∉ S) : Arr q h' b n g sp := At.only A O hb
theorem Arr.st {q : IntKind} {h : Heap} {b n : Nat} {g : Nat → Int} {sp : List Value} (A : Arr q h b n g sp) {k : Nat} (hk : k < n) {v : Int} {K : Heap → Prop}
    (hK : ∀ h', Arr q h' b n (fun j => if j = k then v else g j) sp → Only [b] h h' → K h') : stK h ⟨b, k, none⟩ (.int q v) K :=
  stK_at A (by simp [rowV_len]; omega) rfl fun h' A' O' _ => hK h' (by
    have e : (rowV n (fun j => Value.int q (g j)) ++ sp).set k (.int q v) = rowV n (fun j => Value.int q (if j = k then v else g j)) ++ sp := by
      rw [List.set_append_left _ _ (by rw [rowV_len]; exact hk), rowV_set]
      congr 1
      apply rowV_ext
      intro j _
      split <;> rfl
    rw [e] at A'
    exact A') O'
theorem Arr.ld {q : IntKind} {h : Heap} {b n : Nat} {g : Nat → Int} {sp : List Value} (A : Arr q h b n g sp) {x : Int} {k : Nat} (hx : x = k) (hk : k < n) {Q : Int → Prop} (hQ : Q (g k)) :
    ptrK (some ⟨b, 0, none⟩) fun a => (0 ≤ x ∧ x < (n : Int) ∧ ldI q (Ev.rd h (Addr.add a (Int.toNat x * 1))) Q) := by
  subst hx
  rw [ptrK_some]
  refine ⟨by omega, by omega, ?_⟩
  rw [add_mk, show 0 + Int.toNat (k : Int) * 1 = k by omega, A.rd hk, ldI_some]
  exact hQ
theorem Arr.sto {q : IntKind} {h : Heap} {b n : Nat} {g : Nat → Int} {sp : List Value} (A : Arr q h b n g sp) {x : Int} {k : Nat} (hx : x = k) (hk : k < n) {v : Int} {K : Heap → Prop}
    (hK : ∀ h', Arr q h' b n (fun j => if j = k then v else g j) sp → Only [b] h h' → K h') :
    ptrK (some ⟨b, 0, none⟩) fun a => (0 ≤ x ∧ x < (n : Int) ∧ stK h (Addr.add (Addr.add a (Int.toNat x * 1)) 0) (.int q v) K) := by
  subst hx
  rw [ptrK_some]
  refine ⟨by omega, by omega, ?_⟩
  rw [add_mk, add_mk, show 0 + Int.toNat (k : Int) * 1 + 0 = k by omega]
  exact A.st hk hK
end Go.Proofs.YtnbnlhpleomaoaaGreat.Ev
/- PRINTED BY PROGRAM: what each of these functions does, computed over heaps by the evaluator, and that its calls do so. Conditions: none. -/
namespace Go.Proofs.YtnbnlhpleomaoaaGreat.Ev
open Go
-- slices.Collect[uint8]
namespace F63
def T : Hint := ⟨[], []⟩
noncomputable def body : Code := (Tryz.f63.body).getD .skip
def J0 (x0c0 : Addr) (h : Heap) (K : KK) : Prop :=
  CallsH Tryz.prog 81 [(.slice none 0 0), (.func (.func 65) #[] #[(.pointer (some x0c0))])] h (fun v1 h2 => ldS (some v1) (fun p3 l4 c5 => K (.slice p3 l4 c5) h2))
theorem E0 (S : Stop) (x0c0 : Addr) (h : Heap) (K : KK) : (E Tryz.prog X T S body (fin Tryz.prog Tryz.f63.results.toList K) (args0 0 [(.func (.func 65) #[] #[(.pointer (some x0c0))])]) h) = J0 x0c0 h K := by kernel_rfl
def w (x0c0 : Addr) (h : Heap) (K : KK) : Prop :=
  J0 x0c0 h K
theorem e0 (K : KK) (x0c0 : Addr) (h : Heap) : (E Tryz.prog X T S0 body (fin Tryz.prog Tryz.f63.results.toList K) (args0 0 [(.func (.func 65) #[] #[(.pointer (some x0c0))])]) h) = w x0c0 h K := (E0 S0 x0c0 h K).trans (rfl)
theorem hb : Tryz.f63.body = some body := by kernel_rfl
theorem ok : okCode T Tryz.f63.ntmps body = true := by kernel_rfl
theorem spec (x0c0 : Addr) (h : Heap) (K : KK) (H : w x0c0 h K) : CallsH Tryz.prog 63 [(.func (.func 65) #[] #[(.pointer (some x0c0))])] h K :=
  calls_of_E (T := T) Xok mix Tryz.func63 hb ok rfl (by rw [e0]; exact H)
end F63
-- maps.Keys[map[uint8]int,uint8,int]
namespace F41
def T : Hint := ⟨[], []⟩
noncomputable def body : Code := (Tryz.f41.body).getD .skip
def J0 (x0 : Option Nat) (h : Heap) (K : KK) : Prop :=
  newK h (.cells #[(.map x0)] 85) (fun b1 h2 => K (.func (.func 65) #[] #[(.pointer (some (Addr.mk b1 0 none)))]) h2)
theorem E0 (S : Stop) (x0 : Option Nat) (h : Heap) (K : KK) : (E Tryz.prog X T S body (fin Tryz.prog Tryz.f41.results.toList K) (args0 0 [(.map x0)]) h) = J0 x0 h K := by kernel_rfl
def w (x0 : Option Nat) (h : Heap) (K : KK) : Prop :=
  J0 x0 h K
theorem e0 (K : KK) (x0 : Option Nat) (h : Heap) : (E Tryz.prog X T S0 body (fin Tryz.prog Tryz.f41.results.toList K) (args0 0 [(.map x0)]) h) = w x0 h K := (E0 S0 x0 h K).trans (rfl)
theorem hb : Tryz.f41.body = some body := by kernel_rfl
theorem ok : okCode T Tryz.f41.ntmps body = true := by kernel_rfl
theorem spec (x0 : Option Nat) (h : Heap) (K : KK) (H : w x0 h K) : CallsH Tryz.prog 41 [(.map x0)] h K :=
  calls_of_E (T := T) Xok mix Tryz.func41 hb ok rfl (by rw [e0]; exact H)
end F41
-- slices.Sort[[]uint8,uint8]
namespace F64
def T : Hint := ⟨[], []⟩
noncomputable def body : Code := (Tryz.f64.body).getD .skip
def J0 (x0p : Option Addr) (x0l x0c : Nat) (h : Heap) (K : KK) : Prop :=
  CallsH Tryz.prog 83 [(.int .u64 (IntKind.wrap .u64 (Nat.cast x0l : Int)))] h (fun v1 h2 => ldI .i64 (some v1) (fun n3 => CallsH Tryz.prog 82 [(.slice x0p x0l x0c), (.int .i64 (0 : Int)), (.int .i64 (Nat.cast x0l : Int)), (.int .i64 n3)] h2 (fun v4 h5 => (v4 = (.tuple #[]) ∧ K (.tuple #[]) h5))))
theorem E0 (S : Stop) (x0p : Option Addr) (x0l x0c : Nat) (h : Heap) (K : KK) : (E Tryz.prog X T S body (fin Tryz.prog Tryz.f64.results.toList K) (args0 0 [(.slice x0p x0l x0c)]) h) = J0 x0p x0l x0c h K := by kernel_rfl
def w (x0p : Option Addr) (x0l x0c : Nat) (h : Heap) (K : KK) : Prop :=
  J0 x0p x0l x0c h K
theorem e0 (K : KK) (x0p : Option Addr) (x0l x0c : Nat) (h : Heap) : (E Tryz.prog X T S0 body (fin Tryz.prog Tryz.f64.results.toList K) (args0 0 [(.slice x0p x0l x0c)]) h) = w x0p x0l x0c h K := (E0 S0 x0p x0l x0c h K).trans (rfl)
theorem hb : Tryz.f64.body = some body := by kernel_rfl
theorem ok : okCode T Tryz.f64.ntmps body = true := by kernel_rfl
theorem spec (x0p : Option Addr) (x0l : Nat) (x0c : Nat) (h : Heap) (K : KK) (H : w x0p x0l x0c h K) : CallsH Tryz.prog 64 [(.slice x0p x0l x0c)] h K :=
  calls_of_E (T := T) Xok mix Tryz.func64 hb ok rfl (by rw [e0]; exact H)
end F64
-- slices.Sorted[uint8]
namespace F40
def T : Hint := ⟨[], []⟩
noncomputable def body : Code := (Tryz.f40.body).getD .skip
def J0 (x0c0 : Addr) (h : Heap) (K : KK) : Prop :=
  CallsH Tryz.prog 63 [(.func (.func 65) #[] #[(.pointer (some x0c0))])] h (fun v1 h2 => ldS (some v1) (fun p3 l4 c5 => CallsH Tryz.prog 64 [(.slice p3 l4 c5)] h2 (fun v6 h7 => (v6 = (.tuple #[]) ∧ K (.slice p3 l4 c5) h7))))
theorem E0 (S : Stop) (x0c0 : Addr) (h : Heap) (K : KK) : (E Tryz.prog X T S body (fin Tryz.prog Tryz.f40.results.toList K) (args0 0 [(.func (.func 65) #[] #[(.pointer (some x0c0))])]) h) = J0 x0c0 h K := by kernel_rfl
def w (x0c0 : Addr) (h : Heap) (K : KK) : Prop :=
  J0 x0c0 h K
theorem e0 (K : KK) (x0c0 : Addr) (h : Heap) : (E Tryz.prog X T S0 body (fin Tryz.prog Tryz.f40.results.toList K) (args0 0 [(.func (.func 65) #[] #[(.pointer (some x0c0))])]) h) = w x0c0 h K := (E0 S0 x0c0 h K).trans (rfl)
theorem hb : Tryz.f40.body = some body := by kernel_rfl
theorem ok : okCode T Tryz.f40.ntmps body = true := by kernel_rfl
theorem spec (x0c0 : Addr) (h : Heap) (K : KK) (H : w x0c0 h K) : CallsH Tryz.prog 40 [(.func (.func 65) #[] #[(.pointer (some x0c0))])] h K :=
  calls_of_E (T := T) Xok mix Tryz.func40 hb ok rfl (by rw [e0]; exact H)
end F40
-- cmp.Less[uint8]
namespace F66
def T : Hint := ⟨[], []⟩
noncomputable def body : Code := (Tryz.f66.body).getD .skip
def J0 (x0 x1 : Int) (h : Heap) (K : KK) : Prop :=
  CallsH Tryz.prog 84 [(.int .u8 x0)] h (fun v1 h2 => ldB (some v1) (fun b3 => bcase b3 (CallsH Tryz.prog 84 [(.int .u8 x1)] h2 (fun v4 h5 => ldB (some v4) (fun b6 => bcase (!b6) (K (.bool true) h5) (K (.bool (decide (x0 < x1))) h5)))) (K (.bool (decide (x0 < x1))) h2)))
theorem E0 (S : Stop) (x0 x1 : Int) (h : Heap) (K : KK) : (E Tryz.prog X T S body (fin Tryz.prog Tryz.f66.results.toList K) (args0 0 [(.int .u8 x0), (.int .u8 x1)]) h) = J0 x0 x1 h K := by kernel_rfl
def w (x0 x1 : Int) (h : Heap) (K : KK) : Prop :=
  J0 x0 x1 h K
theorem e0 (K : KK) (x0 x1 : Int) (h : Heap) : (E Tryz.prog X T S0 body (fin Tryz.prog Tryz.f66.results.toList K) (args0 0 [(.int .u8 x0), (.int .u8 x1)]) h) = w x0 x1 h K := (E0 S0 x0 x1 h K).trans (rfl)
theorem hb : Tryz.f66.body = some body := by kernel_rfl
theorem ok : okCode T Tryz.f66.ntmps body = true := by kernel_rfl
theorem spec (x0 : Int) (x1 : Int) (h : Heap) (K : KK) (H : w x0 x1 h K) : CallsH Tryz.prog 66 [(.int .u8 x0), (.int .u8 x1)] h K :=
  calls_of_E (T := T) Xok mix Tryz.func66 hb ok rfl (by rw [e0]; exact H)
end F66
-- cmp.isNaN[uint8]
namespace F84
def T : Hint := ⟨[], []⟩
noncomputable def body : Code := (Tryz.f84.body).getD .skip
def J0 (x0 : Int) (h : Heap) (K : KK) : Prop :=
  K (.bool (x0 != x0)) h
theorem E0 (S : Stop) (x0 : Int) (h : Heap) (K : KK) : (E Tryz.prog X T S body (fin Tryz.prog Tryz.f84.results.toList K) (args0 0 [(.int .u8 x0)]) h) = J0 x0 h K := by kernel_rfl
def w (x0 : Int) (h : Heap) (K : KK) : Prop :=
  J0 x0 h K
theorem e0 (K : KK) (x0 : Int) (h : Heap) : (E Tryz.prog X T S0 body (fin Tryz.prog Tryz.f84.results.toList K) (args0 0 [(.int .u8 x0)]) h) = w x0 h K := (E0 S0 x0 h K).trans (rfl)
theorem hb : Tryz.f84.body = some body := by kernel_rfl
theorem ok : okCode T Tryz.f84.ntmps body = true := by kernel_rfl
theorem spec (x0 : Int) (h : Heap) (K : KK) (H : w x0 h K) : CallsH Tryz.prog 84 [(.int .u8 x0)] h K :=
  calls_of_E (T := T) Xok mix Tryz.func84 hb ok rfl (by rw [e0]; exact H)
end F84
-- slices.insertionSortOrdered[uint8]
namespace F96
def T : Hint := ⟨[(1, [0, 1, 2, 6]), (4, [0, 1, 2, 6, 7])], [(4, [[(0, []), (1, []), (2, []), (3, []), (4, []), (5, []), (6, []), (7, []), (8, []), (9, []), (10, []), (11, []), (12, []), (13, []), (14, [])]]), (6, [[(0, []), (1, []), (2, []), (3, []), (4, []), (5, []), (6, []), (7, []), (8, []), (9, []), (10, []), (11, []), (12, []), (13, []), (14, []), (15, [2, 3, 4]), (16, []), (17, [])]])]⟩
noncomputable def body : Code := (Tryz.f96.body).getD .skip
noncomputable def en (S : Stop) (p : List Nat) (κ : XK) : Fr → Heap → Prop := E Tryz.prog X T S (sub body p) κ
noncomputable def ln (S : Stop) (p : List Nat) (κ : XK) (n : Nat) : Fr → Heap → Prop := loopN S (E Tryz.prog X T S (sub body p)) (cutQ T (sub body p)) κ n
def fn (K : KK) : XK := fin Tryz.prog Tryz.f96.results.toList K
noncomputable def c0 (_S : Stop) (K : KK) : XK := blockN 0 (fn K)
noncomputable def c1 (S : Stop) (n1 : Nat) (K : KK) : XK := backN S (cutQ T (sub body [1, 0, 0])) (ln S [1, 0, 0] (c0 S K) n1) (c0 S K)
noncomputable def c2 (S : Stop) (n1 : Nat) (K : KK) : XK := seqN S (cutQ T (sub body [1, 0, 0, 1, 1])) (en S [1, 0, 0, 1, 1] (c1 S n1 K)) (c1 S n1 K)
noncomputable def c3 (S : Stop) (n1 : Nat) (K : KK) : XK := blockN 1 (c2 S n1 K)
noncomputable def c4 (S : Stop) (n1 : Nat) (K : KK) : XK := blockN 2 (c3 S n1 K)
noncomputable def c5 (S : Stop) (n1 : Nat) (n4 : Nat) (K : KK) : XK := backN S (cutQ T (sub body [1, 0, 0, 1, 0, 0, 1, 0, 0])) (ln S [1, 0, 0, 1, 0, 0, 1, 0, 0] (c4 S n1 K) n4) (c4 S n1 K)
def f1 (x0p : Option Addr) (x0l x0c : Nat) (x1 x2 x6 : Int) : Fr := [(0, (.slice x0p x0l x0c)), (1, (.int .i64 x1)), (2, (.int .i64 x2)), (6, (.int .i64 x6))]
def f4 (x0p : Option Addr) (x0l x0c : Nat) (x1 x2 x6 x7 : Int) : Fr := [(0, (.slice x0p x0l x0c)), (1, (.int .i64 x1)), (2, (.int .i64 x2)), (6, (.int .i64 x6)), (7, (.int .i64 x7))]
def J0 (k1 : (Option Addr) → Nat → Nat → Int → Int → Int → Heap → Prop) (x0p : Option Addr) (x0l x0c : Nat) (x1 x2 : Int) (h : Heap) (_K : KK) : Prop :=
  k1 x0p x0l x0c x1 x2 (IntKind.wrap .i64 (x1 + (1 : Int))) h
theorem E0 (S : Stop) (x0p : Option Addr) (x0l x0c : Nat) (x1 x2 : Int) (h : Heap) (K : KK) : (E Tryz.prog X T S body (fin Tryz.prog Tryz.f96.results.toList K) (args0 0 [(.slice x0p x0l x0c), (.int .i64 x1), (.int .i64 x2)]) h) = J0 (fun x0p x0l x0c x1 x2 x6 h => S (en S [1] (fn K)) (f1 x0p x0l x0c x1 x2 x6) h) x0p x0l x0c x1 x2 h K := by kernel_rfl
def Jk1 (lp1 : (Option Addr) → Nat → Nat → Int → Int → Int → Heap → Prop) (x0p : Option Addr) (x0l x0c : Nat) (x1 x2 x6 : Int) (h : Heap) (_K : KK) : Prop :=
  lp1 x0p x0l x0c x1 x2 x6 h
theorem Ek1 (S : Stop) (x0p : Option Addr) (x0l x0c : Nat) (x1 x2 x6 : Int) (h : Heap) (K : KK) : (en S [1] (fn K) (f1 x0p x0l x0c x1 x2 x6) h) = Jk1 (fun x0p x0l x0c x1 x2 x6 h => ∃ n, S (ln S [1, 0, 0] (c0 S K) n) (f1 x0p x0l x0c x1 x2 x6) h) x0p x0l x0c x1 x2 x6 h K := by kernel_rfl
def JL1 (k4 : (Option Addr) → Nat → Nat → Int → Int → Int → Int → Heap → Prop) (x0p : Option Addr) (x0l x0c : Nat) (x1 x2 x6 : Int) (h : Heap) (K : KK) : Prop :=
  bcase (decide (x6 < x2)) (k4 x0p x0l x0c x1 x2 x6 x6 h) (K (.tuple #[]) h)
theorem EL1 (S : Stop) (n1 : Nat) (x0p : Option Addr) (x0l x0c : Nat) (x1 x2 x6 : Int) (h : Heap) (K : KK) : (en S [1, 0, 0] (c1 S n1 K) (f1 x0p x0l x0c x1 x2 x6) h) = JL1 (fun x0p x0l x0c x1 x2 x6 x7 h => S (en S [1, 0, 0, 1, 0, 0, 1] (c3 S n1 K)) (f4 x0p x0l x0c x1 x2 x6 x7) h) x0p x0l x0c x1 x2 x6 h K := by kernel_rfl
def Jk4 (lp4 : (Option Addr) → Nat → Nat → Int → Int → Int → Int → Heap → Prop) (x0p : Option Addr) (x0l x0c : Nat) (x1 x2 x6 x7 : Int) (h : Heap) (_K : KK) : Prop :=
  lp4 x0p x0l x0c x1 x2 x6 x7 h
theorem Ek4 (S : Stop) (n1 : Nat) (x0p : Option Addr) (x0l x0c : Nat) (x1 x2 x6 x7 : Int) (h : Heap) (K : KK) : (en S [1, 0, 0, 1, 0, 0, 1] (c3 S n1 K) (f4 x0p x0l x0c x1 x2 x6 x7) h) = Jk4 (fun x0p x0l x0c x1 x2 x6 x7 h => ∃ n, S (ln S [1, 0, 0, 1, 0, 0, 1, 0, 0] (c4 S n1 K) n) (f4 x0p x0l x0c x1 x2 x6 x7) h) x0p x0l x0c x1 x2 x6 x7 h K := by kernel_rfl
def JL4 (bk4 : (Option Addr) → Nat → Nat → Int → Int → Int → Int → Heap → Prop) (bk1 : (Option Addr) → Nat → Nat → Int → Int → Int → Heap → Prop) (x0p : Option Addr) (x0l x0c : Nat) (x1 x2 x6 x7 : Int) (h : Heap) (_K : KK) : Prop :=
  bcase (decide (x7 > x1)) (ptrK x0p (fun a1 => (0 ≤ x7 ∧ x7 < (Nat.cast x0l : Int) ∧ ldI .u8 (rd h (Addr.add a1 (Int.toNat x7 * 1))) (fun n2 => ptrK x0p (fun a3 => (0 ≤ (IntKind.wrap .i64 (x7 - (1 : Int))) ∧ (IntKind.wrap .i64 (x7 - (1 : Int))) < (Nat.cast x0l : Int) ∧ ldI .u8 (rd h (Addr.add a3 (Int.toNat (IntKind.wrap .i64 (x7 - (1 : Int))) * 1))) (fun n4 => CallsH Tryz.prog 66 [(.int .u8 n2), (.int .u8 n4)] h (fun v5 h6 => ldB (some v5) (fun b7 => bcase b7 (ptrK x0p (fun a8 => (0 ≤ (IntKind.wrap .i64 (x7 - (1 : Int))) ∧ (IntKind.wrap .i64 (x7 - (1 : Int))) < (Nat.cast x0l : Int) ∧ ldI .u8 (rd h6 (Addr.add a8 (Int.toNat (IntKind.wrap .i64 (x7 - (1 : Int))) * 1))) (fun n9 => ptrK x0p (fun a10 => (0 ≤ x7 ∧ x7 < (Nat.cast x0l : Int) ∧ ldI .u8 (rd h6 (Addr.add a10 (Int.toNat x7 * 1))) (fun n11 => ptrK x0p (fun a12 => (0 ≤ x7 ∧ x7 < (Nat.cast x0l : Int) ∧ stK h6 (Addr.add (Addr.add a12 (Int.toNat x7 * 1)) 0) (.int .u8 n9) (fun h13 => ((.slice x0p x0l x0c) = ((.slice x0p x0l x0c) : Value) ∧ ((.int .i64 x7) = ((.int .i64 x7) : Value) ∧ ((.int .i64 (IntKind.wrap .i64 (x7 - (1 : Int)))) = ((.int .i64 (IntKind.wrap .i64 (x7 - (1 : Int)))) : Value) ∧ ptrK x0p (fun a14 => (0 ≤ (IntKind.wrap .i64 (x7 - (1 : Int))) ∧ (IntKind.wrap .i64 (x7 - (1 : Int))) < (Nat.cast x0l : Int) ∧ stK h13 (Addr.add (Addr.add a14 (Int.toNat (IntKind.wrap .i64 (x7 - (1 : Int))) * 1)) 0) (.int .u8 n11) (fun h15 => bk4 x0p x0l x0c x1 x2 x6 (IntKind.wrap .i64 (x7 - (1 : Int))) h15)))))))))))))))) (bk1 x0p x0l x0c x1 x2 (IntKind.wrap .i64 (x6 + (1 : Int))) h6)))))))))) (bk1 x0p x0l x0c x1 x2 (IntKind.wrap .i64 (x6 + (1 : Int))) h)
theorem EL4 (S : Stop) (n1 : Nat) (n4 : Nat) (x0p : Option Addr) (x0l x0c : Nat) (x1 x2 x6 x7 : Int) (h : Heap) (K : KK) : (en S [1, 0, 0, 1, 0, 0, 1, 0, 0] (c5 S n1 n4 K) (f4 x0p x0l x0c x1 x2 x6 x7) h) = JL4 (fun x0p x0l x0c x1 x2 x6 x7 h => S (ln S [1, 0, 0, 1, 0, 0, 1, 0, 0] (c4 S n1 K) n4) (f4 x0p x0l x0c x1 x2 x6 x7) h) (fun x0p x0l x0c x1 x2 x6 h => S (ln S [1, 0, 0] (c0 S K) n1) (f1 x0p x0l x0c x1 x2 x6) h) x0p x0l x0c x1 x2 x6 x7 h K := by kernel_rfl
def wL4 (bk1 : (Option Addr) → Nat → Nat → Int → Int → Int → Heap → Prop) : Nat → (Option Addr) → Nat → Nat → Int → Int → Int → Int → Heap → KK → Prop
  | 0, _, _, _, _, _, _, _, _, _ => False
  | n + 1, x0p, x0l, x0c, x1, x2, x6, x7, h, K => JL4 (fun x0p x0l x0c x1 x2 x6 x7 h => wL4 bk1 n x0p x0l x0c x1 x2 x6 x7 h K) bk1 x0p x0l x0c x1 x2 x6 x7 h K
theorem eL4 (K : KK) (n1 : Nat) (bk1 : (Option Addr) → Nat → Nat → Int → Int → Int → Heap → Prop) (hb1 : ∀ (x0p : Option Addr) (x0l x0c : Nat) (x1 x2 x6 : Int) (h : Heap), (ln S0 [1, 0, 0] (c0 S0 K) n1 (f1 x0p x0l x0c x1 x2 x6) h) = bk1 x0p x0l x0c x1 x2 x6 h) : ∀ (n : Nat) (x0p : Option Addr) (x0l x0c : Nat) (x1 x2 x6 x7 : Int) (h : Heap), (ln S0 [1, 0, 0, 1, 0, 0, 1, 0, 0] (c4 S0 n1 K) n (f4 x0p x0l x0c x1 x2 x6 x7) h) = wL4 bk1 n x0p x0l x0c x1 x2 x6 x7 h K
  | 0, _, _, _, _, _, _, _, _ => rfl
  | n + 1, x0p, x0l, x0c, x1, x2, x6, x7, h => (EL4 S0 n1 n x0p x0l x0c x1 x2 x6 x7 h K).trans (cg2 (fun q0 q1 => JL4 q0 q1 x0p x0l x0c x1 x2 x6 x7 h K) (by funext x0p x0l x0c x1 x2 x6 x7 h; exact (fun x0p x0l x0c x1 x2 x6 x7 h => eL4 K n1 bk1 hb1 n x0p x0l x0c x1 x2 x6 x7 h) x0p x0l x0c x1 x2 x6 x7 h) (by funext x0p x0l x0c x1 x2 x6 h; exact hb1 x0p x0l x0c x1 x2 x6 h))
def wk4 (bk1 : (Option Addr) → Nat → Nat → Int → Int → Int → Heap → Prop) (x0p : Option Addr) (x0l x0c : Nat) (x1 x2 x6 x7 : Int) (h : Heap) (K : KK) : Prop :=
  Jk4 (fun x0p x0l x0c x1 x2 x6 x7 h => ∃ m, wL4 bk1 m x0p x0l x0c x1 x2 x6 x7 h K) x0p x0l x0c x1 x2 x6 x7 h K
theorem ek4 (K : KK) (n1 : Nat) (bk1 : (Option Addr) → Nat → Nat → Int → Int → Int → Heap → Prop) (hb1 : ∀ (x0p : Option Addr) (x0l x0c : Nat) (x1 x2 x6 : Int) (h : Heap), (ln S0 [1, 0, 0] (c0 S0 K) n1 (f1 x0p x0l x0c x1 x2 x6) h) = bk1 x0p x0l x0c x1 x2 x6 h) (x0p : Option Addr) (x0l x0c : Nat) (x1 x2 x6 x7 : Int) (h : Heap) : (en S0 [1, 0, 0, 1, 0, 0, 1] (c3 S0 n1 K) (f4 x0p x0l x0c x1 x2 x6 x7) h) = wk4 bk1 x0p x0l x0c x1 x2 x6 x7 h K := (Ek4 S0 n1 x0p x0l x0c x1 x2 x6 x7 h K).trans (cg1 (fun q0 => Jk4 q0 x0p x0l x0c x1 x2 x6 x7 h K) (by funext x0p x0l x0c x1 x2 x6 x7 h; exact ex_congr fun m => eL4 K n1 bk1 hb1 m x0p x0l x0c x1 x2 x6 x7 h))
def wL1 : Nat → (Option Addr) → Nat → Nat → Int → Int → Int → Heap → KK → Prop
  | 0, _, _, _, _, _, _, _, _ => False
  | n + 1, x0p, x0l, x0c, x1, x2, x6, h, K => JL1 (fun x0p x0l x0c x1 x2 x6 x7 h => wk4 (fun x0p x0l x0c x1 x2 x6 h => wL1 n x0p x0l x0c x1 x2 x6 h K) x0p x0l x0c x1 x2 x6 x7 h K) x0p x0l x0c x1 x2 x6 h K
theorem eL1 (K : KK) : ∀ (n : Nat) (x0p : Option Addr) (x0l x0c : Nat) (x1 x2 x6 : Int) (h : Heap), (ln S0 [1, 0, 0] (c0 S0 K) n (f1 x0p x0l x0c x1 x2 x6) h) = wL1 n x0p x0l x0c x1 x2 x6 h K
  | 0, _, _, _, _, _, _, _ => rfl
  | n + 1, x0p, x0l, x0c, x1, x2, x6, h => (EL1 S0 n x0p x0l x0c x1 x2 x6 h K).trans (cg1 (fun q0 => JL1 q0 x0p x0l x0c x1 x2 x6 h K) (by funext x0p x0l x0c x1 x2 x6 x7 h; exact ek4 K n (fun x0p x0l x0c x1 x2 x6 h => wL1 n x0p x0l x0c x1 x2 x6 h K) (fun x0p x0l x0c x1 x2 x6 h => eL1 K n x0p x0l x0c x1 x2 x6 h) x0p x0l x0c x1 x2 x6 x7 h))
def wk1 (x0p : Option Addr) (x0l x0c : Nat) (x1 x2 x6 : Int) (h : Heap) (K : KK) : Prop :=
  Jk1 (fun x0p x0l x0c x1 x2 x6 h => ∃ m, wL1 m x0p x0l x0c x1 x2 x6 h K) x0p x0l x0c x1 x2 x6 h K
theorem ek1 (K : KK) (x0p : Option Addr) (x0l x0c : Nat) (x1 x2 x6 : Int) (h : Heap) : (en S0 [1] (fn K) (f1 x0p x0l x0c x1 x2 x6) h) = wk1 x0p x0l x0c x1 x2 x6 h K := (Ek1 S0 x0p x0l x0c x1 x2 x6 h K).trans (cg1 (fun q0 => Jk1 q0 x0p x0l x0c x1 x2 x6 h K) (by funext x0p x0l x0c x1 x2 x6 h; exact ex_congr fun m => eL1 K m x0p x0l x0c x1 x2 x6 h))
def w (x0p : Option Addr) (x0l x0c : Nat) (x1 x2 : Int) (h : Heap) (K : KK) : Prop :=
  J0 (fun x0p x0l x0c x1 x2 x6 h => wk1 x0p x0l x0c x1 x2 x6 h K) x0p x0l x0c x1 x2 h K
theorem e0 (K : KK) (x0p : Option Addr) (x0l x0c : Nat) (x1 x2 : Int) (h : Heap) : (E Tryz.prog X T S0 body (fin Tryz.prog Tryz.f96.results.toList K) (args0 0 [(.slice x0p x0l x0c), (.int .i64 x1), (.int .i64 x2)]) h) = w x0p x0l x0c x1 x2 h K := (E0 S0 x0p x0l x0c x1 x2 h K).trans (cg1 (fun q0 => J0 q0 x0p x0l x0c x1 x2 h K) (by funext x0p x0l x0c x1 x2 x6 h; exact ek1 K x0p x0l x0c x1 x2 x6 h))
theorem hb : Tryz.f96.body = some body := by kernel_rfl
theorem ok : okCode T Tryz.f96.ntmps body = true := by kernel_rfl
theorem spec (x0p : Option Addr) (x0l : Nat) (x0c : Nat) (x1 : Int) (x2 : Int) (h : Heap) (K : KK) (H : w x0p x0l x0c x1 x2 h K) : CallsH Tryz.prog 96 [(.slice x0p x0l x0c), (.int .i64 x1), (.int .i64 x2)] h K :=
  calls_of_E (T := T) Xok mix Tryz.func96 hb ok rfl (by rw [e0]; exact H)
end F96
end Go.Proofs.YtnbnlhpleomaoaaGreat.Ev
/- SORTING: a comparison; insertion. Conditions: the row stands (Arr). -/
namespace Go.Proofs.YtnbnlhpleomaoaaGreat.Ev
open Go
theorem nan98 {x : Int} {h : Heap} {K : Value → Heap → Prop} (hK : K (.bool false) h) : CallsH Tryz.prog 84 [.int .u8 x] h K := by
  refine F84.spec x h K ?_
  unfold F84.w F84.J0
  rw [show (x != x) = false by simp]
  exact hK
theorem less82 {x y : Int} {h : Heap} {K : Value → Heap → Prop} (hK : K (.bool (decide (x < y))) h) : CallsH Tryz.prog 66 [.int .u8 x, .int .u8 y] h K := by
  refine F66.spec x y h K ?_
  unfold F66.w F66.J0
  exact nan98 (by rw [ldB_some]; exact hK)
/-- the bound of a slice's length -/
def LB : Nat := 140737488355328
theorem wrapN {x : Int} (h0 : -LB ≤ x) (h1 : x ≤ LB) : IntKind.wrap .i64 x = x := wrap_i64 (by unfold LB at h0; omega) (by unfold LB at h1; omega)
theorem inner76 {b n a e c i : Nat} {sp : List Value} {K : Value → Heap → Prop} {bk : (Option Addr) → Nat → Nat → Int → Int → Int → Heap → Prop} (he : e ≤ n) (hie : i < e) (hn : n ≤ LB - 2) :
    ∀ (j : Nat) (g : Nat → Int) (h : Heap), Arr .u8 h b n g sp → Ins a i j g → a ≤ j → j ≤ i → (∀ h' g', Arr .u8 h' b n g' sp → Srt a (i + 1) g' → Swp a e g g' → Only [b] h h' → bk (some ⟨b, 0, none⟩) n c a e ((i + 1 : Nat) : Int) h') →
      F96.wL4 bk (j + 1) (some ⟨b, 0, none⟩) n c a e i j h K := by
  intro j
  have hLB : LB = 140737488355328 := rfl
  have w1 : IntKind.wrap .i64 ((i : Int) + 1) = ((i + 1 : Nat) : Int) := by rw [wrapN (by omega) (by omega)]; omega
  induction j with
  | zero =>
    intro g h A I ha hj hK
    unfold F96.wL4 F96.JL4
    rw [w1, show decide (((0 : Nat) : Int) > (a : Int)) = false by simp]
    exact hK h g A (I.stop (.inl (by omega))) (.refl g) (Only.refl _ _)
  | succ j ih =>
    intro g h A I ha hj hK
    unfold F96.wL4 F96.JL4
    have w2 : IntKind.wrap .i64 (((j + 1 : Nat) : Int) - 1) = (j : Int) := by rw [wrapN (by omega) (by omega)]; omega
    rw [w1, w2]
    refine bcase_of (fun hc => ?_) fun hc => ?_
    · simp only [decide_eq_true_eq] at hc
      refine A.ld rfl (by omega) (A.ld rfl (by omega) (less82 ?_))
      rw [ldB_some]
      refine bcase_of (fun hl => ?_) fun hl => ?_
      · simp only [decide_eq_true_eq] at hl
        refine A.ld rfl (by omega) (A.ld rfl (by omega) (A.sto rfl (by omega) fun h1 A1 O1 => ⟨rfl, rfl, rfl, A1.sto rfl (by omega) fun h2 A2 O2 => ?_⟩))
        have O : Only [b] h h2 := O1.trans O2 (by simp)
        have S : Swp a e g (swp g (j + 1) j) := Swp.one g (by omega) (by omega) (by omega) (by omega)
        have A2' : Arr .u8 h2 b n (swp g (j + 1) j) sp := A2
        have I2 := I.step (by omega) hj hl
        rw [show j + 1 - 1 = j by omega] at I2
        exact ih _ h2 A2' I2 (by omega) (by omega) fun h' g' A' R' S' O' => hK h' g' A' R' (S.trans S') (O.trans O' (by simp))
      · simp only [decide_eq_false_iff_not] at hl
        exact hK h g A (I.stop (.inr (by rw [show j + 1 - 1 = j by omega]; omega))) (.refl g) (Only.refl _ _)
    · simp only [decide_eq_false_iff_not] at hc
      exact hK h g A (I.stop (.inl (by omega))) (.refl g) (Only.refl _ _)
theorem outer76 {b n a e c : Nat} {sp : List Value} {K : Value → Heap → Prop} (he : e ≤ n) (hn : n ≤ LB - 2) :
    ∀ (d i : Nat) (g : Nat → Int) (h : Heap), e ≤ i + d → Arr .u8 h b n g sp → a < i → i ≤ e ∨ e ≤ a → Srt a i g → (∀ h' g', Arr .u8 h' b n g' sp → Srt a e g' → Swp a e g g' → Only [b] h h' → K (.tuple #[]) h') →
      F96.wL1 (d + 1) (some ⟨b, 0, none⟩) n c a e i h K := by
  intro d
  induction d with
  | zero =>
    intro i g h hd A ha hi R hK
    unfold F96.wL1 F96.JL1
    rw [show decide ((i : Int) < (e : Int)) = false by simp; omega]
    exact hK h g A (fun p q h1 h2 h3 => R p q h1 h2 (by omega)) (.refl g) (Only.refl _ _)
  | succ d ih =>
    intro i g h hd A ha hi R hK
    unfold F96.wL1 F96.JL1
    refine bcase_of (fun hc => ?_) fun hc => ?_
    · simp only [decide_eq_true_eq] at hc
      refine ⟨i + 1, inner76 he (by omega) hn i g h A (Ins.start R) (by omega) (Nat.le_refl _) fun h1 g1 A1 R1 S1 O1 => ?_⟩
      exact ih (i + 1) g1 h1 (by omega) A1 (by omega) (by omega) R1 fun h' g' A' R' S' O' => hK h' g' A' R' (S1.trans S') (O1.trans O' (by simp))
    · simp only [decide_eq_false_iff_not] at hc
      exact hK h g A (fun p q h1 h2 h3 => R p q h1 h2 (by omega)) (.refl g) (Only.refl _ _)
theorem ins76 {h : Heap} {b n a e c : Nat} {g : Nat → Int} {sp : List Value} {K : Value → Heap → Prop} (A : Arr .u8 h b n g sp) (he : e ≤ n) (ha : a ≤ n) (hn : n ≤ LB - 2)
    (hK : ∀ h' g', Arr .u8 h' b n g' sp → Srt a e g' → Swp a e g g' → Only [b] h h' → K (.tuple #[]) h') : CallsH Tryz.prog 96 [.slice (some ⟨b, 0, none⟩) n c, .int .i64 a, .int .i64 e] h K := by
  refine F96.spec _ _ _ _ _ h K ?_
  unfold F96.w F96.J0 F96.wk1 F96.Jk1
  have hLB : LB = 140737488355328 := rfl
  rw [show IntKind.wrap .i64 ((a : Int) + 1) = ((a + 1 : Nat) : Int) by rw [wrapN (by omega) (by omega)]; omega]
  exact ⟨e + 1, outer76 he hn e (a + 1) g h (by omega) A (by omega) (by omega) (Srt.single g (by omega)) hK⟩
end Go.Proofs.YtnbnlhpleomaoaaGreat.Ev
/- PRINTED BY PROGRAM: what each of these functions does, computed over heaps by the evaluator, and that its calls do so. Conditions: none. -/
namespace Go.Proofs.YtnbnlhpleomaoaaGreat.Ev
open Go
-- slices.pdqsortOrdered[uint8]
namespace F82
def T : Hint := ⟨[(2, [0, 1, 2, 3, 8, 9]), (10, [0, 1, 2, 3, 8, 9, 10]), (15, [0, 1, 2, 3, 8, 9, 10, 11, 12]), (17, [0, 1, 2, 3, 8, 9, 10, 11])], [(17, [[(0, []), (1, []), (2, []), (3, []), (4, []), (5, []), (6, []), (7, []), (8, []), (9, []), (10, []), (11, []), (12, []), (13, []), (14, [])]])]⟩
noncomputable def body : Code := (Tryz.f82.body).getD .skip
noncomputable def en (S : Stop) (p : List Nat) (κ : XK) : Fr → Heap → Prop := E Tryz.prog X T S (sub body p) κ
noncomputable def ln (S : Stop) (p : List Nat) (κ : XK) (n : Nat) : Fr → Heap → Prop := loopN S (E Tryz.prog X T S (sub body p)) (cutQ T (sub body p)) κ n
def fn (K : KK) : XK := fin Tryz.prog Tryz.f82.results.toList K
noncomputable def c0 (_S : Stop) (K : KK) : XK := blockN 0 (fn K)
noncomputable def c1 (S : Stop) (n2 : Nat) (K : KK) : XK := backN S (cutQ T (sub body [1, 1, 0, 0])) (ln S [1, 1, 0, 0] (c0 S K) n2) (c0 S K)
noncomputable def c2 (S : Stop) (n2 : Nat) (K : KK) : XK := blockN 1 (c1 S n2 K)
def f2 (x0p : Option Addr) (x0l x0c : Nat) (x1 x2 x3 : Int) (x8 x9 : Bool) : Fr := [(0, (.slice x0p x0l x0c)), (1, (.int .i64 x1)), (2, (.int .i64 x2)), (3, (.int .i64 x3)), (8, (.bool x8)), (9, (.bool x9))]
def f10 (x0p : Option Addr) (x0l x0c : Nat) (x1 x2 x3 : Int) (x8 x9 : Bool) (x10 : Int) : Fr := [(0, (.slice x0p x0l x0c)), (1, (.int .i64 x1)), (2, (.int .i64 x2)), (3, (.int .i64 x3)), (8, (.bool x8)), (9, (.bool x9)), (10, (.int .i64 x10))]
def f15 (x0p : Option Addr) (x0l x0c : Nat) (x1 x2 x3 : Int) (x8 x9 : Bool) (x10 x11 x12 : Int) : Fr := [(0, (.slice x0p x0l x0c)), (1, (.int .i64 x1)), (2, (.int .i64 x2)), (3, (.int .i64 x3)), (8, (.bool x8)), (9, (.bool x9)), (10, (.int .i64 x10)), (11, (.int .i64 x11)), (12, (.int .i64 x12))]
def f17 (x0p : Option Addr) (x0l x0c : Nat) (x1 x2 x3 : Int) (x8 x9 : Bool) (x10 x11 : Int) : Fr := [(0, (.slice x0p x0l x0c)), (1, (.int .i64 x1)), (2, (.int .i64 x2)), (3, (.int .i64 x3)), (8, (.bool x8)), (9, (.bool x9)), (10, (.int .i64 x10)), (11, (.int .i64 x11))]
def J0 (k2 : (Option Addr) → Nat → Nat → Int → Int → Int → Bool → Bool → Heap → Prop) (x0p : Option Addr) (x0l x0c : Nat) (x1 x2 x3 : Int) (h : Heap) (_K : KK) : Prop :=
  k2 x0p x0l x0c x1 x2 x3 true true h
theorem E0 (S : Stop) (x0p : Option Addr) (x0l x0c : Nat) (x1 x2 x3 : Int) (h : Heap) (K : KK) : (E Tryz.prog X T S body (fin Tryz.prog Tryz.f82.results.toList K) (args0 0 [(.slice x0p x0l x0c), (.int .i64 x1), (.int .i64 x2), (.int .i64 x3)]) h) = J0 (fun x0p x0l x0c x1 x2 x3 x8 x9 h => S (en S [1, 1] (fn K)) (f2 x0p x0l x0c x1 x2 x3 x8 x9) h) x0p x0l x0c x1 x2 x3 h K := by kernel_rfl
def Jk2 (lp2 : (Option Addr) → Nat → Nat → Int → Int → Int → Bool → Bool → Heap → Prop) (x0p : Option Addr) (x0l x0c : Nat) (x1 x2 x3 : Int) (x8 x9 : Bool) (h : Heap) (_K : KK) : Prop :=
  lp2 x0p x0l x0c x1 x2 x3 x8 x9 h
theorem Ek2 (S : Stop) (x0p : Option Addr) (x0l x0c : Nat) (x1 x2 x3 : Int) (x8 x9 : Bool) (h : Heap) (K : KK) : (en S [1, 1] (fn K) (f2 x0p x0l x0c x1 x2 x3 x8 x9) h) = Jk2 (fun x0p x0l x0c x1 x2 x3 x8 x9 h => ∃ n, S (ln S [1, 1, 0, 0] (c0 S K) n) (f2 x0p x0l x0c x1 x2 x3 x8 x9) h) x0p x0l x0c x1 x2 x3 x8 x9 h K := by kernel_rfl
def JL2 (k10 : (Option Addr) → Nat → Nat → Int → Int → Int → Bool → Bool → Int → Heap → Prop) (x0p : Option Addr) (x0l x0c : Nat) (x1 x2 x3 : Int) (x8 x9 : Bool) (h : Heap) (K : KK) : Prop :=
  bcase (decide ((IntKind.wrap .i64 (x2 - x1)) ≤ (12 : Int))) (CallsH Tryz.prog 96 [(.slice x0p x0l x0c), (.int .i64 x1), (.int .i64 x2)] h (fun v1 h2 => (v1 = (.tuple #[]) ∧ K (.tuple #[]) h2))) (bcase (x3 == (0 : Int)) (CallsH Tryz.prog 97 [(.slice x0p x0l x0c), (.int .i64 x1), (.int .i64 x2)] h (fun v3 h4 => (v3 = (.tuple #[]) ∧ K (.tuple #[]) h4))) (bcase (!x8) (CallsH Tryz.prog 98 [(.slice x0p x0l x0c), (.int .i64 x1), (.int .i64 x2)] h (fun v5 h6 => (v5 = (.tuple #[]) ∧ k10 x0p x0l x0c x1 x2 (IntKind.wrap .i64 (x3 - (1 : Int))) x8 x9 (IntKind.wrap .i64 (x2 - x1)) h6))) (k10 x0p x0l x0c x1 x2 x3 x8 x9 (IntKind.wrap .i64 (x2 - x1)) h)))
theorem EL2 (S : Stop) (n2 : Nat) (x0p : Option Addr) (x0l x0c : Nat) (x1 x2 x3 : Int) (x8 x9 : Bool) (h : Heap) (K : KK) : (en S [1, 1, 0, 0] (c1 S n2 K) (f2 x0p x0l x0c x1 x2 x3 x8 x9) h) = JL2 (fun x0p x0l x0c x1 x2 x3 x8 x9 x10 h => S (en S [1, 1, 0, 0, 0, 1, 1, 1, 1] (c2 S n2 K)) (f10 x0p x0l x0c x1 x2 x3 x8 x9 x10) h) x0p x0l x0c x1 x2 x3 x8 x9 h K := by kernel_rfl
def Jk10 (k15 : (Option Addr) → Nat → Nat → Int → Int → Int → Bool → Bool → Int → Int → Int → Heap → Prop) (x0p : Option Addr) (x0l x0c : Nat) (x1 x2 x3 : Int) (x8 x9 : Bool) (x10 : Int) (h : Heap) (_K : KK) : Prop :=
  CallsH Tryz.prog 99 [(.slice x0p x0l x0c), (.int .i64 x1), (.int .i64 x2)] h (fun v1 h2 => (∃ n3 : Int, ∃ n4 : Int, v1 = (.tuple #[(.int .i64 n3), (.int .i64 n4)]) ∧ bcase (n4 == (2 : Int)) (CallsH Tryz.prog 100 [(.slice x0p x0l x0c), (.int .i64 x1), (.int .i64 x2)] h2 (fun v5 h6 => (v5 = (.tuple #[]) ∧ k15 x0p x0l x0c x1 x2 x3 x8 x9 x10 (IntKind.wrap .i64 ((IntKind.wrap .i64 (x2 - (1 : Int))) - (IntKind.wrap .i64 (n3 - x1)))) (1 : Int) h6))) (k15 x0p x0l x0c x1 x2 x3 x8 x9 x10 n3 n4 h2)))
theorem Ek10 (S : Stop) (n2 : Nat) (x0p : Option Addr) (x0l x0c : Nat) (x1 x2 x3 : Int) (x8 x9 : Bool) (x10 : Int) (h : Heap) (K : KK) : (en S [1, 1, 0, 0, 0, 1, 1, 1, 1] (c2 S n2 K) (f10 x0p x0l x0c x1 x2 x3 x8 x9 x10) h) = Jk10 (fun x0p x0l x0c x1 x2 x3 x8 x9 x10 x11 x12 h => S (en S [1, 1, 0, 0, 0, 1, 1, 1, 1, 1, 1] (c2 S n2 K)) (f15 x0p x0l x0c x1 x2 x3 x8 x9 x10 x11 x12) h) x0p x0l x0c x1 x2 x3 x8 x9 x10 h K := by kernel_rfl
def Jk15 (k17 : (Option Addr) → Nat → Nat → Int → Int → Int → Bool → Bool → Int → Int → Heap → Prop) (x0p : Option Addr) (x0l x0c : Nat) (x1 x2 x3 : Int) (x8 x9 : Bool) (x10 x11 x12 : Int) (h : Heap) (K : KK) : Prop :=
  bcase x8 (bcase x9 (bcase (x12 == (1 : Int)) (CallsH Tryz.prog 101 [(.slice x0p x0l x0c), (.int .i64 x1), (.int .i64 x2)] h (fun v1 h2 => ldB (some v1) (fun b3 => bcase b3 (K (.tuple #[]) h2) (k17 x0p x0l x0c x1 x2 x3 x8 x9 x10 x11 h2)))) (k17 x0p x0l x0c x1 x2 x3 x8 x9 x10 x11 h)) (k17 x0p x0l x0c x1 x2 x3 x8 x9 x10 x11 h)) (k17 x0p x0l x0c x1 x2 x3 x8 x9 x10 x11 h)
theorem Ek15 (S : Stop) (n2 : Nat) (x0p : Option Addr) (x0l x0c : Nat) (x1 x2 x3 : Int) (x8 x9 : Bool) (x10 x11 x12 : Int) (h : Heap) (K : KK) : (en S [1, 1, 0, 0, 0, 1, 1, 1, 1, 1, 1] (c2 S n2 K) (f15 x0p x0l x0c x1 x2 x3 x8 x9 x10 x11 x12) h) = Jk15 (fun x0p x0l x0c x1 x2 x3 x8 x9 x10 x11 h => S (en S [1, 1, 0, 0, 0, 1, 1, 1, 1, 1, 1, 1] (c2 S n2 K)) (f17 x0p x0l x0c x1 x2 x3 x8 x9 x10 x11) h) x0p x0l x0c x1 x2 x3 x8 x9 x10 x11 x12 h K := by kernel_rfl
def Jk17 (bk2 : (Option Addr) → Nat → Nat → Int → Int → Int → Bool → Bool → Heap → Prop) (x0p : Option Addr) (x0l x0c : Nat) (x1 x2 x3 : Int) (x8 x9 : Bool) (x10 x11 : Int) (h : Heap) (_K : KK) : Prop :=
  bcase (decide (x1 > (0 : Int))) (ptrK x0p (fun a1 => (0 ≤ (IntKind.wrap .i64 (x1 - (1 : Int))) ∧ (IntKind.wrap .i64 (x1 - (1 : Int))) < (Nat.cast x0l : Int) ∧ ldI .u8 (rd h (Addr.add a1 (Int.toNat (IntKind.wrap .i64 (x1 - (1 : Int))) * 1))) (fun n2 => ptrK x0p (fun a3 => (0 ≤ x11 ∧ x11 < (Nat.cast x0l : Int) ∧ ldI .u8 (rd h (Addr.add a3 (Int.toNat x11 * 1))) (fun n4 => CallsH Tryz.prog 66 [(.int .u8 n2), (.int .u8 n4)] h (fun v5 h6 => ldB (some v5) (fun b7 => bcase (!b7) (CallsH Tryz.prog 102 [(.slice x0p x0l x0c), (.int .i64 x1), (.int .i64 x2), (.int .i64 x11)] h6 (fun v8 h9 => ldI .i64 (some v8) (fun n10 => bk2 x0p x0l x0c n10 x2 x3 x8 x9 h9))) (CallsH Tryz.prog 103 [(.slice x0p x0l x0c), (.int .i64 x1), (.int .i64 x2), (.int .i64 x11)] h6 (fun v11 h12 => (∃ n13 : Int, ∃ b14 : Bool, v11 = (.tuple #[(.int .i64 n13), (.bool b14)]) ∧ ((8 : Int) ≠ 0 ∧ bcase (decide ((IntKind.wrap .i64 (n13 - x1)) < (IntKind.wrap .i64 (x2 - n13)))) (CallsH Tryz.prog 82 [(.slice x0p x0l x0c), (.int .i64 x1), (.int .i64 n13), (.int .i64 x3)] h12 (fun v15 h16 => (v15 = (.tuple #[]) ∧ bk2 x0p x0l x0c (IntKind.wrap .i64 (n13 + (1 : Int))) x2 x3 (decide ((IntKind.wrap .i64 (n13 - x1)) ≥ (IntKind.wrap .i64 (Int.tdiv x10 (8 : Int))))) b14 h16))) (CallsH Tryz.prog 82 [(.slice x0p x0l x0c), (.int .i64 (IntKind.wrap .i64 (n13 + (1 : Int)))), (.int .i64 x2), (.int .i64 x3)] h12 (fun v17 h18 => (v17 = (.tuple #[]) ∧ bk2 x0p x0l x0c x1 n13 x3 (decide ((IntKind.wrap .i64 (x2 - n13)) ≥ (IntKind.wrap .i64 (Int.tdiv x10 (8 : Int))))) b14 h18)))))))))))))))) (CallsH Tryz.prog 103 [(.slice x0p x0l x0c), (.int .i64 x1), (.int .i64 x2), (.int .i64 x11)] h (fun v19 h20 => (∃ n21 : Int, ∃ b22 : Bool, v19 = (.tuple #[(.int .i64 n21), (.bool b22)]) ∧ ((8 : Int) ≠ 0 ∧ bcase (decide ((IntKind.wrap .i64 (n21 - x1)) < (IntKind.wrap .i64 (x2 - n21)))) (CallsH Tryz.prog 82 [(.slice x0p x0l x0c), (.int .i64 x1), (.int .i64 n21), (.int .i64 x3)] h20 (fun v23 h24 => (v23 = (.tuple #[]) ∧ bk2 x0p x0l x0c (IntKind.wrap .i64 (n21 + (1 : Int))) x2 x3 (decide ((IntKind.wrap .i64 (n21 - x1)) ≥ (IntKind.wrap .i64 (Int.tdiv x10 (8 : Int))))) b22 h24))) (CallsH Tryz.prog 82 [(.slice x0p x0l x0c), (.int .i64 (IntKind.wrap .i64 (n21 + (1 : Int)))), (.int .i64 x2), (.int .i64 x3)] h20 (fun v25 h26 => (v25 = (.tuple #[]) ∧ bk2 x0p x0l x0c x1 n21 x3 (decide ((IntKind.wrap .i64 (x2 - n21)) ≥ (IntKind.wrap .i64 (Int.tdiv x10 (8 : Int))))) b22 h26)))))))
theorem Ek17 (S : Stop) (n2 : Nat) (x0p : Option Addr) (x0l x0c : Nat) (x1 x2 x3 : Int) (x8 x9 : Bool) (x10 x11 : Int) (h : Heap) (K : KK) : (en S [1, 1, 0, 0, 0, 1, 1, 1, 1, 1, 1, 1] (c2 S n2 K) (f17 x0p x0l x0c x1 x2 x3 x8 x9 x10 x11) h) = Jk17 (fun x0p x0l x0c x1 x2 x3 x8 x9 h => S (ln S [1, 1, 0, 0] (c0 S K) n2) (f2 x0p x0l x0c x1 x2 x3 x8 x9) h) x0p x0l x0c x1 x2 x3 x8 x9 x10 x11 h K := by kernel_rfl
def wk17 (bk2 : (Option Addr) → Nat → Nat → Int → Int → Int → Bool → Bool → Heap → Prop) (x0p : Option Addr) (x0l x0c : Nat) (x1 x2 x3 : Int) (x8 x9 : Bool) (x10 x11 : Int) (h : Heap) (K : KK) : Prop :=
  Jk17 bk2 x0p x0l x0c x1 x2 x3 x8 x9 x10 x11 h K
theorem ek17 (K : KK) (n2 : Nat) (bk2 : (Option Addr) → Nat → Nat → Int → Int → Int → Bool → Bool → Heap → Prop) (hb2 : ∀ (x0p : Option Addr) (x0l x0c : Nat) (x1 x2 x3 : Int) (x8 x9 : Bool) (h : Heap), (ln S0 [1, 1, 0, 0] (c0 S0 K) n2 (f2 x0p x0l x0c x1 x2 x3 x8 x9) h) = bk2 x0p x0l x0c x1 x2 x3 x8 x9 h) (x0p : Option Addr) (x0l x0c : Nat) (x1 x2 x3 : Int) (x8 x9 : Bool) (x10 x11 : Int) (h : Heap) : (en S0 [1, 1, 0, 0, 0, 1, 1, 1, 1, 1, 1, 1] (c2 S0 n2 K) (f17 x0p x0l x0c x1 x2 x3 x8 x9 x10 x11) h) = wk17 bk2 x0p x0l x0c x1 x2 x3 x8 x9 x10 x11 h K := (Ek17 S0 n2 x0p x0l x0c x1 x2 x3 x8 x9 x10 x11 h K).trans (cg1 (fun q0 => Jk17 q0 x0p x0l x0c x1 x2 x3 x8 x9 x10 x11 h K) (by funext x0p x0l x0c x1 x2 x3 x8 x9 h; exact hb2 x0p x0l x0c x1 x2 x3 x8 x9 h))
def wk15 (bk2 : (Option Addr) → Nat → Nat → Int → Int → Int → Bool → Bool → Heap → Prop) (x0p : Option Addr) (x0l x0c : Nat) (x1 x2 x3 : Int) (x8 x9 : Bool) (x10 x11 x12 : Int) (h : Heap) (K : KK) : Prop :=
  Jk15 (fun x0p x0l x0c x1 x2 x3 x8 x9 x10 x11 h => wk17 bk2 x0p x0l x0c x1 x2 x3 x8 x9 x10 x11 h K) x0p x0l x0c x1 x2 x3 x8 x9 x10 x11 x12 h K
theorem ek15 (K : KK) (n2 : Nat) (bk2 : (Option Addr) → Nat → Nat → Int → Int → Int → Bool → Bool → Heap → Prop) (hb2 : ∀ (x0p : Option Addr) (x0l x0c : Nat) (x1 x2 x3 : Int) (x8 x9 : Bool) (h : Heap), (ln S0 [1, 1, 0, 0] (c0 S0 K) n2 (f2 x0p x0l x0c x1 x2 x3 x8 x9) h) = bk2 x0p x0l x0c x1 x2 x3 x8 x9 h) (x0p : Option Addr) (x0l x0c : Nat) (x1 x2 x3 : Int) (x8 x9 : Bool) (x10 x11 x12 : Int) (h : Heap) : (en S0 [1, 1, 0, 0, 0, 1, 1, 1, 1, 1, 1] (c2 S0 n2 K) (f15 x0p x0l x0c x1 x2 x3 x8 x9 x10 x11 x12) h) = wk15 bk2 x0p x0l x0c x1 x2 x3 x8 x9 x10 x11 x12 h K := (Ek15 S0 n2 x0p x0l x0c x1 x2 x3 x8 x9 x10 x11 x12 h K).trans (cg1 (fun q0 => Jk15 q0 x0p x0l x0c x1 x2 x3 x8 x9 x10 x11 x12 h K) (by funext x0p x0l x0c x1 x2 x3 x8 x9 x10 x11 h; exact ek17 K n2 bk2 hb2 x0p x0l x0c x1 x2 x3 x8 x9 x10 x11 h))
def wk10 (bk2 : (Option Addr) → Nat → Nat → Int → Int → Int → Bool → Bool → Heap → Prop) (x0p : Option Addr) (x0l x0c : Nat) (x1 x2 x3 : Int) (x8 x9 : Bool) (x10 : Int) (h : Heap) (K : KK) : Prop :=
  Jk10 (fun x0p x0l x0c x1 x2 x3 x8 x9 x10 x11 x12 h => wk15 bk2 x0p x0l x0c x1 x2 x3 x8 x9 x10 x11 x12 h K) x0p x0l x0c x1 x2 x3 x8 x9 x10 h K
theorem ek10 (K : KK) (n2 : Nat) (bk2 : (Option Addr) → Nat → Nat → Int → Int → Int → Bool → Bool → Heap → Prop) (hb2 : ∀ (x0p : Option Addr) (x0l x0c : Nat) (x1 x2 x3 : Int) (x8 x9 : Bool) (h : Heap), (ln S0 [1, 1, 0, 0] (c0 S0 K) n2 (f2 x0p x0l x0c x1 x2 x3 x8 x9) h) = bk2 x0p x0l x0c x1 x2 x3 x8 x9 h) (x0p : Option Addr) (x0l x0c : Nat) (x1 x2 x3 : Int) (x8 x9 : Bool) (x10 : Int) (h : Heap) : (en S0 [1, 1, 0, 0, 0, 1, 1, 1, 1] (c2 S0 n2 K) (f10 x0p x0l x0c x1 x2 x3 x8 x9 x10) h) = wk10 bk2 x0p x0l x0c x1 x2 x3 x8 x9 x10 h K := (Ek10 S0 n2 x0p x0l x0c x1 x2 x3 x8 x9 x10 h K).trans (cg1 (fun q0 => Jk10 q0 x0p x0l x0c x1 x2 x3 x8 x9 x10 h K) (by funext x0p x0l x0c x1 x2 x3 x8 x9 x10 x11 x12 h; exact ek15 K n2 bk2 hb2 x0p x0l x0c x1 x2 x3 x8 x9 x10 x11 x12 h))
def wL2 : Nat → (Option Addr) → Nat → Nat → Int → Int → Int → Bool → Bool → Heap → KK → Prop
  | 0, _, _, _, _, _, _, _, _, _, _ => False
  | n + 1, x0p, x0l, x0c, x1, x2, x3, x8, x9, h, K => JL2 (fun x0p x0l x0c x1 x2 x3 x8 x9 x10 h => wk10 (fun x0p x0l x0c x1 x2 x3 x8 x9 h => wL2 n x0p x0l x0c x1 x2 x3 x8 x9 h K) x0p x0l x0c x1 x2 x3 x8 x9 x10 h K) x0p x0l x0c x1 x2 x3 x8 x9 h K
theorem eL2 (K : KK) : ∀ (n : Nat) (x0p : Option Addr) (x0l x0c : Nat) (x1 x2 x3 : Int) (x8 x9 : Bool) (h : Heap), (ln S0 [1, 1, 0, 0] (c0 S0 K) n (f2 x0p x0l x0c x1 x2 x3 x8 x9) h) = wL2 n x0p x0l x0c x1 x2 x3 x8 x9 h K
  | 0, _, _, _, _, _, _, _, _, _ => rfl
  | n + 1, x0p, x0l, x0c, x1, x2, x3, x8, x9, h => (EL2 S0 n x0p x0l x0c x1 x2 x3 x8 x9 h K).trans (cg1 (fun q0 => JL2 q0 x0p x0l x0c x1 x2 x3 x8 x9 h K) (by funext x0p x0l x0c x1 x2 x3 x8 x9 x10 h; exact ek10 K n (fun x0p x0l x0c x1 x2 x3 x8 x9 h => wL2 n x0p x0l x0c x1 x2 x3 x8 x9 h K) (fun x0p x0l x0c x1 x2 x3 x8 x9 h => eL2 K n x0p x0l x0c x1 x2 x3 x8 x9 h) x0p x0l x0c x1 x2 x3 x8 x9 x10 h))
def wk2 (x0p : Option Addr) (x0l x0c : Nat) (x1 x2 x3 : Int) (x8 x9 : Bool) (h : Heap) (K : KK) : Prop :=
  Jk2 (fun x0p x0l x0c x1 x2 x3 x8 x9 h => ∃ m, wL2 m x0p x0l x0c x1 x2 x3 x8 x9 h K) x0p x0l x0c x1 x2 x3 x8 x9 h K
theorem ek2 (K : KK) (x0p : Option Addr) (x0l x0c : Nat) (x1 x2 x3 : Int) (x8 x9 : Bool) (h : Heap) : (en S0 [1, 1] (fn K) (f2 x0p x0l x0c x1 x2 x3 x8 x9) h) = wk2 x0p x0l x0c x1 x2 x3 x8 x9 h K := (Ek2 S0 x0p x0l x0c x1 x2 x3 x8 x9 h K).trans (cg1 (fun q0 => Jk2 q0 x0p x0l x0c x1 x2 x3 x8 x9 h K) (by funext x0p x0l x0c x1 x2 x3 x8 x9 h; exact ex_congr fun m => eL2 K m x0p x0l x0c x1 x2 x3 x8 x9 h))
def w (x0p : Option Addr) (x0l x0c : Nat) (x1 x2 x3 : Int) (h : Heap) (K : KK) : Prop :=
  J0 (fun x0p x0l x0c x1 x2 x3 x8 x9 h => wk2 x0p x0l x0c x1 x2 x3 x8 x9 h K) x0p x0l x0c x1 x2 x3 h K
theorem e0 (K : KK) (x0p : Option Addr) (x0l x0c : Nat) (x1 x2 x3 : Int) (h : Heap) : (E Tryz.prog X T S0 body (fin Tryz.prog Tryz.f82.results.toList K) (args0 0 [(.slice x0p x0l x0c), (.int .i64 x1), (.int .i64 x2), (.int .i64 x3)]) h) = w x0p x0l x0c x1 x2 x3 h K := (E0 S0 x0p x0l x0c x1 x2 x3 h K).trans (cg1 (fun q0 => J0 q0 x0p x0l x0c x1 x2 x3 h K) (by funext x0p x0l x0c x1 x2 x3 x8 x9 h; exact ek2 K x0p x0l x0c x1 x2 x3 x8 x9 h))
theorem hb : Tryz.f82.body = some body := by kernel_rfl
theorem ok : okCode T Tryz.f82.ntmps body = true := by kernel_rfl
theorem spec (x0p : Option Addr) (x0l : Nat) (x0c : Nat) (x1 : Int) (x2 : Int) (x3 : Int) (h : Heap) (K : KK) (H : w x0p x0l x0c x1 x2 x3 h K) : CallsH Tryz.prog 82 [(.slice x0p x0l x0c), (.int .i64 x1), (.int .i64 x2), (.int .i64 x3)] h K :=
  calls_of_E (T := T) Xok mix Tryz.func82 hb ok rfl (by rw [e0]; exact H)
end F82
-- slices.heapSortOrdered[uint8]
namespace F97
def T : Hint := ⟨[(4, [0, 6, 7, 8, 9]), (7, [0, 6, 7, 8]), (8, [0, 6, 7, 10])], [(10, [[(0, []), (1, []), (2, []), (3, []), (4, []), (5, []), (6, []), (7, []), (8, []), (9, []), (10, []), (11, []), (12, []), (13, []), (14, []), (15, []), (16, []), (17, [2, 3, 4, 5]), (18, []), (19, [])]])]⟩
noncomputable def body : Code := (Tryz.f97.body).getD .skip
noncomputable def en (S : Stop) (p : List Nat) (κ : XK) : Fr → Heap → Prop := E Tryz.prog X T S (sub body p) κ
noncomputable def ln (S : Stop) (p : List Nat) (κ : XK) (n : Nat) : Fr → Heap → Prop := loopN S (E Tryz.prog X T S (sub body p)) (cutQ T (sub body p)) κ n
def fn (K : KK) : XK := fin Tryz.prog Tryz.f97.results.toList K
noncomputable def c0 (S : Stop) (K : KK) : XK := seqN S (cutQ T (sub body [1, 1, 1, 1])) (en S [1, 1, 1, 1] (fn K)) (fn K)
noncomputable def c1 (S : Stop) (K : KK) : XK := blockN 0 (c0 S K)
noncomputable def c2 (S : Stop) (n4 : Nat) (K : KK) : XK := backN S (cutQ T (sub body [1, 1, 1, 0, 1, 0, 0])) (ln S [1, 1, 1, 0, 1, 0, 0] (c1 S K) n4) (c1 S K)
noncomputable def c3 (_S : Stop) (K : KK) : XK := blockN 2 (fn K)
noncomputable def c4 (S : Stop) (n8 : Nat) (K : KK) : XK := backN S (cutQ T (sub body [1, 1, 1, 1, 1, 0, 0])) (ln S [1, 1, 1, 1, 1, 0, 0] (c3 S K) n8) (c3 S K)
def f4 (x0p : Option Addr) (x0l x0c : Nat) (x6 x8 x9 : Int) : Fr := [(0, (.slice x0p x0l x0c)), (6, (.int .i64 x6)), (7, (.int .i64 (0 : Int))), (8, (.int .i64 x8)), (9, (.int .i64 x9))]
def f7 (x0p : Option Addr) (x0l x0c : Nat) (x6 x8 : Int) : Fr := [(0, (.slice x0p x0l x0c)), (6, (.int .i64 x6)), (7, (.int .i64 (0 : Int))), (8, (.int .i64 x8))]
def f8 (x0p : Option Addr) (x0l x0c : Nat) (x6 x10 : Int) : Fr := [(0, (.slice x0p x0l x0c)), (6, (.int .i64 x6)), (7, (.int .i64 (0 : Int))), (10, (.int .i64 x10))]
def J0 (k4 : (Option Addr) → Nat → Nat → Int → Int → Int → Heap → Prop) (x0p : Option Addr) (x0l x0c : Nat) (x1 x2 : Int) (h : Heap) (_K : KK) : Prop :=
  ((2 : Int) ≠ 0 ∧ k4 x0p x0l x0c x1 (IntKind.wrap .i64 (x2 - x1)) (IntKind.wrap .i64 (Int.tdiv (IntKind.wrap .i64 ((IntKind.wrap .i64 (x2 - x1)) - (1 : Int))) (2 : Int))) h)
theorem E0 (S : Stop) (x0p : Option Addr) (x0l x0c : Nat) (x1 x2 : Int) (h : Heap) (K : KK) : (E Tryz.prog X T S body (fin Tryz.prog Tryz.f97.results.toList K) (args0 0 [(.slice x0p x0l x0c), (.int .i64 x1), (.int .i64 x2)]) h) = J0 (fun x0p x0l x0c x6 x8 x9 h => S (en S [1, 1, 1, 0, 1] (c0 S K)) (f4 x0p x0l x0c x6 x8 x9) h) x0p x0l x0c x1 x2 h K := by kernel_rfl
def Jk4 (lp4 : (Option Addr) → Nat → Nat → Int → Int → Int → Heap → Prop) (x0p : Option Addr) (x0l x0c : Nat) (x6 x8 x9 : Int) (h : Heap) (_K : KK) : Prop :=
  lp4 x0p x0l x0c x6 x8 x9 h
theorem Ek4 (S : Stop) (x0p : Option Addr) (x0l x0c : Nat) (x6 x8 x9 : Int) (h : Heap) (K : KK) : (en S [1, 1, 1, 0, 1] (c0 S K) (f4 x0p x0l x0c x6 x8 x9) h) = Jk4 (fun x0p x0l x0c x6 x8 x9 h => ∃ n, S (ln S [1, 1, 1, 0, 1, 0, 0] (c1 S K) n) (f4 x0p x0l x0c x6 x8 x9) h) x0p x0l x0c x6 x8 x9 h K := by kernel_rfl
def JL4 (bk4 : (Option Addr) → Nat → Nat → Int → Int → Int → Heap → Prop) (k7 : (Option Addr) → Nat → Nat → Int → Int → Heap → Prop) (x0p : Option Addr) (x0l x0c : Nat) (x6 x8 x9 : Int) (h : Heap) (_K : KK) : Prop :=
  bcase (decide (x9 ≥ (0 : Int))) (CallsH Tryz.prog 115 [(.slice x0p x0l x0c), (.int .i64 x9), (.int .i64 x8), (.int .i64 x6)] h (fun v1 h2 => (v1 = (.tuple #[]) ∧ bk4 x0p x0l x0c x6 x8 (IntKind.wrap .i64 (x9 - (1 : Int))) h2))) (k7 x0p x0l x0c x6 x8 h)
theorem EL4 (S : Stop) (n4 : Nat) (x0p : Option Addr) (x0l x0c : Nat) (x6 x8 x9 : Int) (h : Heap) (K : KK) : (en S [1, 1, 1, 0, 1, 0, 0] (c2 S n4 K) (f4 x0p x0l x0c x6 x8 x9) h) = JL4 (fun x0p x0l x0c x6 x8 x9 h => S (ln S [1, 1, 1, 0, 1, 0, 0] (c1 S K) n4) (f4 x0p x0l x0c x6 x8 x9) h) (fun x0p x0l x0c x6 x8 h => S (en S [1, 1, 1, 1] (fn K)) (f7 x0p x0l x0c x6 x8) h) x0p x0l x0c x6 x8 x9 h K := by kernel_rfl
def Jk7 (k8 : (Option Addr) → Nat → Nat → Int → Int → Heap → Prop) (x0p : Option Addr) (x0l x0c : Nat) (x6 x8 : Int) (h : Heap) (_K : KK) : Prop :=
  k8 x0p x0l x0c x6 (IntKind.wrap .i64 (x8 - (1 : Int))) h
theorem Ek7 (S : Stop) (x0p : Option Addr) (x0l x0c : Nat) (x6 x8 : Int) (h : Heap) (K : KK) : (en S [1, 1, 1, 1] (fn K) (f7 x0p x0l x0c x6 x8) h) = Jk7 (fun x0p x0l x0c x6 x10 h => S (en S [1, 1, 1, 1, 1] (fn K)) (f8 x0p x0l x0c x6 x10) h) x0p x0l x0c x6 x8 h K := by kernel_rfl
def Jk8 (lp8 : (Option Addr) → Nat → Nat → Int → Int → Heap → Prop) (x0p : Option Addr) (x0l x0c : Nat) (x6 x10 : Int) (h : Heap) (_K : KK) : Prop :=
  lp8 x0p x0l x0c x6 x10 h
theorem Ek8 (S : Stop) (x0p : Option Addr) (x0l x0c : Nat) (x6 x10 : Int) (h : Heap) (K : KK) : (en S [1, 1, 1, 1, 1] (fn K) (f8 x0p x0l x0c x6 x10) h) = Jk8 (fun x0p x0l x0c x6 x10 h => ∃ n, S (ln S [1, 1, 1, 1, 1, 0, 0] (c3 S K) n) (f8 x0p x0l x0c x6 x10) h) x0p x0l x0c x6 x10 h K := by kernel_rfl
def JL8 (bk8 : (Option Addr) → Nat → Nat → Int → Int → Heap → Prop) (x0p : Option Addr) (x0l x0c : Nat) (x6 x10 : Int) (h : Heap) (K : KK) : Prop :=
  bcase (decide (x10 ≥ (0 : Int))) (ptrK x0p (fun a1 => (0 ≤ (IntKind.wrap .i64 (x6 + x10)) ∧ (IntKind.wrap .i64 (x6 + x10)) < (Nat.cast x0l : Int) ∧ ldI .u8 (rd h (Addr.add a1 (Int.toNat (IntKind.wrap .i64 (x6 + x10)) * 1))) (fun n2 => ptrK x0p (fun a3 => (0 ≤ x6 ∧ x6 < (Nat.cast x0l : Int) ∧ ldI .u8 (rd h (Addr.add a3 (Int.toNat x6 * 1))) (fun n4 => ptrK x0p (fun a5 => (0 ≤ x6 ∧ x6 < (Nat.cast x0l : Int) ∧ stK h (Addr.add (Addr.add a5 (Int.toNat x6 * 1)) 0) (.int .u8 n2) (fun h6 => ((.slice x0p x0l x0c) = ((.slice x0p x0l x0c) : Value) ∧ ((.int .i64 x6) = ((.int .i64 x6) : Value) ∧ ((.int .i64 x10) = ((.int .i64 x10) : Value) ∧ ((.int .i64 (IntKind.wrap .i64 (x6 + x10))) = ((.int .i64 (IntKind.wrap .i64 (x6 + x10))) : Value) ∧ ptrK x0p (fun a7 => (0 ≤ (IntKind.wrap .i64 (x6 + x10)) ∧ (IntKind.wrap .i64 (x6 + x10)) < (Nat.cast x0l : Int) ∧ stK h6 (Addr.add (Addr.add a7 (Int.toNat (IntKind.wrap .i64 (x6 + x10)) * 1)) 0) (.int .u8 n4) (fun h8 => CallsH Tryz.prog 115 [(.slice x0p x0l x0c), (.int .i64 (0 : Int)), (.int .i64 x10), (.int .i64 x6)] h8 (fun v9 h10 => (v9 = (.tuple #[]) ∧ bk8 x0p x0l x0c x6 (IntKind.wrap .i64 (x10 - (1 : Int))) h10))))))))))))))))))) (K (.tuple #[]) h)
theorem EL8 (S : Stop) (n8 : Nat) (x0p : Option Addr) (x0l x0c : Nat) (x6 x10 : Int) (h : Heap) (K : KK) : (en S [1, 1, 1, 1, 1, 0, 0] (c4 S n8 K) (f8 x0p x0l x0c x6 x10) h) = JL8 (fun x0p x0l x0c x6 x10 h => S (ln S [1, 1, 1, 1, 1, 0, 0] (c3 S K) n8) (f8 x0p x0l x0c x6 x10) h) x0p x0l x0c x6 x10 h K := by kernel_rfl
def wL8 : Nat → (Option Addr) → Nat → Nat → Int → Int → Heap → KK → Prop
  | 0, _, _, _, _, _, _, _ => False
  | n + 1, x0p, x0l, x0c, x6, x10, h, K => JL8 (fun x0p x0l x0c x6 x10 h => wL8 n x0p x0l x0c x6 x10 h K) x0p x0l x0c x6 x10 h K
theorem eL8 (K : KK) : ∀ (n : Nat) (x0p : Option Addr) (x0l x0c : Nat) (x6 x10 : Int) (h : Heap), (ln S0 [1, 1, 1, 1, 1, 0, 0] (c3 S0 K) n (f8 x0p x0l x0c x6 x10) h) = wL8 n x0p x0l x0c x6 x10 h K
  | 0, _, _, _, _, _, _ => rfl
  | n + 1, x0p, x0l, x0c, x6, x10, h => (EL8 S0 n x0p x0l x0c x6 x10 h K).trans (cg1 (fun q0 => JL8 q0 x0p x0l x0c x6 x10 h K) (by funext x0p x0l x0c x6 x10 h; exact (fun x0p x0l x0c x6 x10 h => eL8 K n x0p x0l x0c x6 x10 h) x0p x0l x0c x6 x10 h))
def wk8 (x0p : Option Addr) (x0l x0c : Nat) (x6 x10 : Int) (h : Heap) (K : KK) : Prop :=
  Jk8 (fun x0p x0l x0c x6 x10 h => ∃ m, wL8 m x0p x0l x0c x6 x10 h K) x0p x0l x0c x6 x10 h K
theorem ek8 (K : KK) (x0p : Option Addr) (x0l x0c : Nat) (x6 x10 : Int) (h : Heap) : (en S0 [1, 1, 1, 1, 1] (fn K) (f8 x0p x0l x0c x6 x10) h) = wk8 x0p x0l x0c x6 x10 h K := (Ek8 S0 x0p x0l x0c x6 x10 h K).trans (cg1 (fun q0 => Jk8 q0 x0p x0l x0c x6 x10 h K) (by funext x0p x0l x0c x6 x10 h; exact ex_congr fun m => eL8 K m x0p x0l x0c x6 x10 h))
def wk7 (x0p : Option Addr) (x0l x0c : Nat) (x6 x8 : Int) (h : Heap) (K : KK) : Prop :=
  Jk7 (fun x0p x0l x0c x6 x10 h => wk8 x0p x0l x0c x6 x10 h K) x0p x0l x0c x6 x8 h K
theorem ek7 (K : KK) (x0p : Option Addr) (x0l x0c : Nat) (x6 x8 : Int) (h : Heap) : (en S0 [1, 1, 1, 1] (fn K) (f7 x0p x0l x0c x6 x8) h) = wk7 x0p x0l x0c x6 x8 h K := (Ek7 S0 x0p x0l x0c x6 x8 h K).trans (cg1 (fun q0 => Jk7 q0 x0p x0l x0c x6 x8 h K) (by funext x0p x0l x0c x6 x10 h; exact ek8 K x0p x0l x0c x6 x10 h))
def wL4 : Nat → (Option Addr) → Nat → Nat → Int → Int → Int → Heap → KK → Prop
  | 0, _, _, _, _, _, _, _, _ => False
  | n + 1, x0p, x0l, x0c, x6, x8, x9, h, K => JL4 (fun x0p x0l x0c x6 x8 x9 h => wL4 n x0p x0l x0c x6 x8 x9 h K) (fun x0p x0l x0c x6 x8 h => wk7 x0p x0l x0c x6 x8 h K) x0p x0l x0c x6 x8 x9 h K
theorem eL4 (K : KK) : ∀ (n : Nat) (x0p : Option Addr) (x0l x0c : Nat) (x6 x8 x9 : Int) (h : Heap), (ln S0 [1, 1, 1, 0, 1, 0, 0] (c1 S0 K) n (f4 x0p x0l x0c x6 x8 x9) h) = wL4 n x0p x0l x0c x6 x8 x9 h K
  | 0, _, _, _, _, _, _, _ => rfl
  | n + 1, x0p, x0l, x0c, x6, x8, x9, h => (EL4 S0 n x0p x0l x0c x6 x8 x9 h K).trans (cg2 (fun q0 q1 => JL4 q0 q1 x0p x0l x0c x6 x8 x9 h K) (by funext x0p x0l x0c x6 x8 x9 h; exact (fun x0p x0l x0c x6 x8 x9 h => eL4 K n x0p x0l x0c x6 x8 x9 h) x0p x0l x0c x6 x8 x9 h) (by funext x0p x0l x0c x6 x8 h; exact ek7 K x0p x0l x0c x6 x8 h))
def wk4 (x0p : Option Addr) (x0l x0c : Nat) (x6 x8 x9 : Int) (h : Heap) (K : KK) : Prop :=
  Jk4 (fun x0p x0l x0c x6 x8 x9 h => ∃ m, wL4 m x0p x0l x0c x6 x8 x9 h K) x0p x0l x0c x6 x8 x9 h K
theorem ek4 (K : KK) (x0p : Option Addr) (x0l x0c : Nat) (x6 x8 x9 : Int) (h : Heap) : (en S0 [1, 1, 1, 0, 1] (c0 S0 K) (f4 x0p x0l x0c x6 x8 x9) h) = wk4 x0p x0l x0c x6 x8 x9 h K := (Ek4 S0 x0p x0l x0c x6 x8 x9 h K).trans (cg1 (fun q0 => Jk4 q0 x0p x0l x0c x6 x8 x9 h K) (by funext x0p x0l x0c x6 x8 x9 h; exact ex_congr fun m => eL4 K m x0p x0l x0c x6 x8 x9 h))
def w (x0p : Option Addr) (x0l x0c : Nat) (x1 x2 : Int) (h : Heap) (K : KK) : Prop :=
  J0 (fun x0p x0l x0c x6 x8 x9 h => wk4 x0p x0l x0c x6 x8 x9 h K) x0p x0l x0c x1 x2 h K
theorem e0 (K : KK) (x0p : Option Addr) (x0l x0c : Nat) (x1 x2 : Int) (h : Heap) : (E Tryz.prog X T S0 body (fin Tryz.prog Tryz.f97.results.toList K) (args0 0 [(.slice x0p x0l x0c), (.int .i64 x1), (.int .i64 x2)]) h) = w x0p x0l x0c x1 x2 h K := (E0 S0 x0p x0l x0c x1 x2 h K).trans (cg1 (fun q0 => J0 q0 x0p x0l x0c x1 x2 h K) (by funext x0p x0l x0c x6 x8 x9 h; exact ek4 K x0p x0l x0c x6 x8 x9 h))
theorem hb : Tryz.f97.body = some body := by kernel_rfl
theorem ok : okCode T Tryz.f97.ntmps body = true := by kernel_rfl
theorem spec (x0p : Option Addr) (x0l : Nat) (x0c : Nat) (x1 : Int) (x2 : Int) (h : Heap) (K : KK) (H : w x0p x0l x0c x1 x2 h K) : CallsH Tryz.prog 97 [(.slice x0p x0l x0c), (.int .i64 x1), (.int .i64 x2)] h K :=
  calls_of_E (T := T) Xok mix Tryz.func97 hb ok rfl (by rw [e0]; exact H)
end F97
-- slices.breakPatternsOrdered[uint8]
namespace F98
def T : Hint := ⟨[(5, [0, 1, 6, 7, 8, 9]), (10, [0, 1, 6, 7, 8, 9, 10])], [(10, [[(0, []), (1, []), (2, []), (3, []), (4, []), (5, []), (6, []), (7, []), (8, []), (9, []), (10, []), (11, []), (12, []), (13, []), (14, []), (15, []), (16, []), (17, [2, 3, 4, 5]), (18, []), (19, [])]])]⟩
noncomputable def body : Code := (Tryz.f98.body).getD .skip
noncomputable def en (S : Stop) (p : List Nat) (κ : XK) : Fr → Heap → Prop := E Tryz.prog X T S (sub body p) κ
noncomputable def ln (S : Stop) (p : List Nat) (κ : XK) (n : Nat) : Fr → Heap → Prop := loopN S (E Tryz.prog X T S (sub body p)) (cutQ T (sub body p)) κ n
def fn (K : KK) : XK := fin Tryz.prog Tryz.f98.results.toList K
noncomputable def c0 (_S : Stop) (K : KK) : XK := blockN 0 (fn K)
noncomputable def c1 (S : Stop) (n5 : Nat) (K : KK) : XK := backN S (cutQ T (sub body [1, 1, 0, 1, 1, 1, 0, 0])) (ln S [1, 1, 0, 1, 1, 1, 0, 0] (c0 S K) n5) (c0 S K)
noncomputable def c2 (S : Stop) (n5 : Nat) (K : KK) : XK := seqN S (cutQ T (sub body [1, 1, 0, 1, 1, 1, 0, 0, 1, 1])) (en S [1, 1, 0, 1, 1, 1, 0, 0, 1, 1] (c1 S n5 K)) (c1 S n5 K)
noncomputable def c3 (S : Stop) (n5 : Nat) (K : KK) : XK := blockN 1 (c2 S n5 K)
def f5 (x0p : Option Addr) (x0l x0c : Nat) (x1 x6 : Int) (x7 : Addr) (x8 x9 : Int) : Fr := [(0, (.slice x0p x0l x0c)), (1, (.int .i64 x1)), (6, (.int .i64 x6)), (7, (.pointer (some x7))), (8, (.int .u64 x8)), (9, (.int .i64 x9))]
def f10 (x0p : Option Addr) (x0l x0c : Nat) (x1 x6 : Int) (x7 : Addr) (x8 x9 x10 : Int) : Fr := [(0, (.slice x0p x0l x0c)), (1, (.int .i64 x1)), (6, (.int .i64 x6)), (7, (.pointer (some x7))), (8, (.int .u64 x8)), (9, (.int .i64 x9)), (10, (.int .i64 x10))]
def J0 (k5 : (Option Addr) → Nat → Nat → Int → Int → Addr → Int → Int → Heap → Prop) (x0p : Option Addr) (x0l x0c : Nat) (x1 x2 : Int) (h : Heap) (K : KK) : Prop :=
  bcase (decide ((IntKind.wrap .i64 (x2 - x1)) ≥ (8 : Int))) (newK h (.cells #[(.int .u64 (0 : Int))] 186) (fun b1 h2 => stK h2 (Addr.add (Addr.mk b1 0 none) 0) (.int .u64 (IntKind.wrap .u64 (IntKind.wrap .i64 (x2 - x1)))) (fun h3 => CallsH Tryz.prog 116 [(.int .i64 (IntKind.wrap .i64 (x2 - x1)))] h3 (fun v4 h5 => ldI .u64 (some v4) (fun n6 => ((4 : Int) ≠ 0 ∧ k5 x0p x0l x0c x1 (IntKind.wrap .i64 (x2 - x1)) (Addr.mk b1 0 none) n6 (IntKind.wrap .i64 ((IntKind.wrap .i64 (x1 + (IntKind.wrap .i64 ((IntKind.wrap .i64 (Int.tdiv (IntKind.wrap .i64 (x2 - x1)) (4 : Int))) * (2 : Int))))) - (1 : Int))) h5)))))) (K (.tuple #[]) h)
theorem E0 (S : Stop) (x0p : Option Addr) (x0l x0c : Nat) (x1 x2 : Int) (h : Heap) (K : KK) : (E Tryz.prog X T S body (fin Tryz.prog Tryz.f98.results.toList K) (args0 0 [(.slice x0p x0l x0c), (.int .i64 x1), (.int .i64 x2)]) h) = J0 (fun x0p x0l x0c x1 x6 x7 x8 x9 h => S (en S [1, 1, 0, 1, 1, 1] (fn K)) (f5 x0p x0l x0c x1 x6 x7 x8 x9) h) x0p x0l x0c x1 x2 h K := by kernel_rfl
def Jk5 (lp5 : (Option Addr) → Nat → Nat → Int → Int → Addr → Int → Int → Heap → Prop) (x0p : Option Addr) (x0l x0c : Nat) (x1 x6 : Int) (x7 : Addr) (x8 x9 : Int) (h : Heap) (_K : KK) : Prop :=
  lp5 x0p x0l x0c x1 x6 x7 x8 x9 h
theorem Ek5 (S : Stop) (x0p : Option Addr) (x0l x0c : Nat) (x1 x6 : Int) (x7 : Addr) (x8 x9 : Int) (h : Heap) (K : KK) : (en S [1, 1, 0, 1, 1, 1] (fn K) (f5 x0p x0l x0c x1 x6 x7 x8 x9) h) = Jk5 (fun x0p x0l x0c x1 x6 x7 x8 x9 h => ∃ n, S (ln S [1, 1, 0, 1, 1, 1, 0, 0] (c0 S K) n) (f5 x0p x0l x0c x1 x6 x7 x8 x9) h) x0p x0l x0c x1 x6 x7 x8 x9 h K := by kernel_rfl
def JL5 (k10 : (Option Addr) → Nat → Nat → Int → Int → Addr → Int → Int → Int → Heap → Prop) (x0p : Option Addr) (x0l x0c : Nat) (x1 x6 : Int) (x7 : Addr) (x8 x9 : Int) (h : Heap) (K : KK) : Prop :=
  ((4 : Int) ≠ 0 ∧ bcase (decide (x9 ≤ (IntKind.wrap .i64 ((IntKind.wrap .i64 (x1 + (IntKind.wrap .i64 ((IntKind.wrap .i64 (Int.tdiv x6 (4 : Int))) * (2 : Int))))) + (1 : Int))))) (CallsH Tryz.prog 117 [(.pointer (some x7))] h (fun v1 h2 => ldI .u64 (some v1) (fun n3 => bcase (decide ((IntKind.wrap .i64 (bitsI .and .u64 n3 (IntKind.wrap .u64 (x8 - (1 : Int))))) ≥ x6)) (k10 x0p x0l x0c x1 x6 x7 x8 x9 (IntKind.wrap .i64 ((IntKind.wrap .i64 (bitsI .and .u64 n3 (IntKind.wrap .u64 (x8 - (1 : Int))))) - x6)) h2) (k10 x0p x0l x0c x1 x6 x7 x8 x9 (IntKind.wrap .i64 (bitsI .and .u64 n3 (IntKind.wrap .u64 (x8 - (1 : Int))))) h2)))) (K (.tuple #[]) h))
theorem EL5 (S : Stop) (n5 : Nat) (x0p : Option Addr) (x0l x0c : Nat) (x1 x6 : Int) (x7 : Addr) (x8 x9 : Int) (h : Heap) (K : KK) : (en S [1, 1, 0, 1, 1, 1, 0, 0] (c1 S n5 K) (f5 x0p x0l x0c x1 x6 x7 x8 x9) h) = JL5 (fun x0p x0l x0c x1 x6 x7 x8 x9 x10 h => S (en S [1, 1, 0, 1, 1, 1, 0, 0, 1, 0, 0, 1, 1] (c3 S n5 K)) (f10 x0p x0l x0c x1 x6 x7 x8 x9 x10) h) x0p x0l x0c x1 x6 x7 x8 x9 h K := by kernel_rfl
def Jk10 (bk5 : (Option Addr) → Nat → Nat → Int → Int → Addr → Int → Int → Heap → Prop) (x0p : Option Addr) (x0l x0c : Nat) (x1 x6 : Int) (x7 : Addr) (x8 x9 x10 : Int) (h : Heap) (_K : KK) : Prop :=
  ptrK x0p (fun a1 => (0 ≤ (IntKind.wrap .i64 (x1 + x10)) ∧ (IntKind.wrap .i64 (x1 + x10)) < (Nat.cast x0l : Int) ∧ ldI .u8 (rd h (Addr.add a1 (Int.toNat (IntKind.wrap .i64 (x1 + x10)) * 1))) (fun n2 => ptrK x0p (fun a3 => (0 ≤ x9 ∧ x9 < (Nat.cast x0l : Int) ∧ ldI .u8 (rd h (Addr.add a3 (Int.toNat x9 * 1))) (fun n4 => ptrK x0p (fun a5 => (0 ≤ x9 ∧ x9 < (Nat.cast x0l : Int) ∧ stK h (Addr.add (Addr.add a5 (Int.toNat x9 * 1)) 0) (.int .u8 n2) (fun h6 => ((.slice x0p x0l x0c) = ((.slice x0p x0l x0c) : Value) ∧ ((.int .i64 x1) = ((.int .i64 x1) : Value) ∧ ((.int .i64 x10) = ((.int .i64 x10) : Value) ∧ ((.int .i64 (IntKind.wrap .i64 (x1 + x10))) = ((.int .i64 (IntKind.wrap .i64 (x1 + x10))) : Value) ∧ ptrK x0p (fun a7 => (0 ≤ (IntKind.wrap .i64 (x1 + x10)) ∧ (IntKind.wrap .i64 (x1 + x10)) < (Nat.cast x0l : Int) ∧ stK h6 (Addr.add (Addr.add a7 (Int.toNat (IntKind.wrap .i64 (x1 + x10)) * 1)) 0) (.int .u8 n4) (fun h8 => bk5 x0p x0l x0c x1 x6 x7 x8 (IntKind.wrap .i64 (x9 + (1 : Int))) h8))))))))))))))))
theorem Ek10 (S : Stop) (n5 : Nat) (x0p : Option Addr) (x0l x0c : Nat) (x1 x6 : Int) (x7 : Addr) (x8 x9 x10 : Int) (h : Heap) (K : KK) : (en S [1, 1, 0, 1, 1, 1, 0, 0, 1, 0, 0, 1, 1] (c3 S n5 K) (f10 x0p x0l x0c x1 x6 x7 x8 x9 x10) h) = Jk10 (fun x0p x0l x0c x1 x6 x7 x8 x9 h => S (ln S [1, 1, 0, 1, 1, 1, 0, 0] (c0 S K) n5) (f5 x0p x0l x0c x1 x6 x7 x8 x9) h) x0p x0l x0c x1 x6 x7 x8 x9 x10 h K := by kernel_rfl
def wk10 (bk5 : (Option Addr) → Nat → Nat → Int → Int → Addr → Int → Int → Heap → Prop) (x0p : Option Addr) (x0l x0c : Nat) (x1 x6 : Int) (x7 : Addr) (x8 x9 x10 : Int) (h : Heap) (K : KK) : Prop :=
  Jk10 bk5 x0p x0l x0c x1 x6 x7 x8 x9 x10 h K
theorem ek10 (K : KK) (n5 : Nat) (bk5 : (Option Addr) → Nat → Nat → Int → Int → Addr → Int → Int → Heap → Prop) (hb5 : ∀ (x0p : Option Addr) (x0l x0c : Nat) (x1 x6 : Int) (x7 : Addr) (x8 x9 : Int) (h : Heap), (ln S0 [1, 1, 0, 1, 1, 1, 0, 0] (c0 S0 K) n5 (f5 x0p x0l x0c x1 x6 x7 x8 x9) h) = bk5 x0p x0l x0c x1 x6 x7 x8 x9 h) (x0p : Option Addr) (x0l x0c : Nat) (x1 x6 : Int) (x7 : Addr) (x8 x9 x10 : Int) (h : Heap) : (en S0 [1, 1, 0, 1, 1, 1, 0, 0, 1, 0, 0, 1, 1] (c3 S0 n5 K) (f10 x0p x0l x0c x1 x6 x7 x8 x9 x10) h) = wk10 bk5 x0p x0l x0c x1 x6 x7 x8 x9 x10 h K := (Ek10 S0 n5 x0p x0l x0c x1 x6 x7 x8 x9 x10 h K).trans (cg1 (fun q0 => Jk10 q0 x0p x0l x0c x1 x6 x7 x8 x9 x10 h K) (by funext x0p x0l x0c x1 x6 x7 x8 x9 h; exact hb5 x0p x0l x0c x1 x6 x7 x8 x9 h))
def wL5 : Nat → (Option Addr) → Nat → Nat → Int → Int → Addr → Int → Int → Heap → KK → Prop
  | 0, _, _, _, _, _, _, _, _, _, _ => False
  | n + 1, x0p, x0l, x0c, x1, x6, x7, x8, x9, h, K => JL5 (fun x0p x0l x0c x1 x6 x7 x8 x9 x10 h => wk10 (fun x0p x0l x0c x1 x6 x7 x8 x9 h => wL5 n x0p x0l x0c x1 x6 x7 x8 x9 h K) x0p x0l x0c x1 x6 x7 x8 x9 x10 h K) x0p x0l x0c x1 x6 x7 x8 x9 h K
theorem eL5 (K : KK) : ∀ (n : Nat) (x0p : Option Addr) (x0l x0c : Nat) (x1 x6 : Int) (x7 : Addr) (x8 x9 : Int) (h : Heap), (ln S0 [1, 1, 0, 1, 1, 1, 0, 0] (c0 S0 K) n (f5 x0p x0l x0c x1 x6 x7 x8 x9) h) = wL5 n x0p x0l x0c x1 x6 x7 x8 x9 h K
  | 0, _, _, _, _, _, _, _, _, _ => rfl
  | n + 1, x0p, x0l, x0c, x1, x6, x7, x8, x9, h => (EL5 S0 n x0p x0l x0c x1 x6 x7 x8 x9 h K).trans (cg1 (fun q0 => JL5 q0 x0p x0l x0c x1 x6 x7 x8 x9 h K) (by funext x0p x0l x0c x1 x6 x7 x8 x9 x10 h; exact ek10 K n (fun x0p x0l x0c x1 x6 x7 x8 x9 h => wL5 n x0p x0l x0c x1 x6 x7 x8 x9 h K) (fun x0p x0l x0c x1 x6 x7 x8 x9 h => eL5 K n x0p x0l x0c x1 x6 x7 x8 x9 h) x0p x0l x0c x1 x6 x7 x8 x9 x10 h))
def wk5 (x0p : Option Addr) (x0l x0c : Nat) (x1 x6 : Int) (x7 : Addr) (x8 x9 : Int) (h : Heap) (K : KK) : Prop :=
  Jk5 (fun x0p x0l x0c x1 x6 x7 x8 x9 h => ∃ m, wL5 m x0p x0l x0c x1 x6 x7 x8 x9 h K) x0p x0l x0c x1 x6 x7 x8 x9 h K
theorem ek5 (K : KK) (x0p : Option Addr) (x0l x0c : Nat) (x1 x6 : Int) (x7 : Addr) (x8 x9 : Int) (h : Heap) : (en S0 [1, 1, 0, 1, 1, 1] (fn K) (f5 x0p x0l x0c x1 x6 x7 x8 x9) h) = wk5 x0p x0l x0c x1 x6 x7 x8 x9 h K := (Ek5 S0 x0p x0l x0c x1 x6 x7 x8 x9 h K).trans (cg1 (fun q0 => Jk5 q0 x0p x0l x0c x1 x6 x7 x8 x9 h K) (by funext x0p x0l x0c x1 x6 x7 x8 x9 h; exact ex_congr fun m => eL5 K m x0p x0l x0c x1 x6 x7 x8 x9 h))
def w (x0p : Option Addr) (x0l x0c : Nat) (x1 x2 : Int) (h : Heap) (K : KK) : Prop :=
  J0 (fun x0p x0l x0c x1 x6 x7 x8 x9 h => wk5 x0p x0l x0c x1 x6 x7 x8 x9 h K) x0p x0l x0c x1 x2 h K
theorem e0 (K : KK) (x0p : Option Addr) (x0l x0c : Nat) (x1 x2 : Int) (h : Heap) : (E Tryz.prog X T S0 body (fin Tryz.prog Tryz.f98.results.toList K) (args0 0 [(.slice x0p x0l x0c), (.int .i64 x1), (.int .i64 x2)]) h) = w x0p x0l x0c x1 x2 h K := (E0 S0 x0p x0l x0c x1 x2 h K).trans (cg1 (fun q0 => J0 q0 x0p x0l x0c x1 x2 h K) (by funext x0p x0l x0c x1 x6 x7 x8 x9 h; exact ek5 K x0p x0l x0c x1 x6 x7 x8 x9 h))
theorem hb : Tryz.f98.body = some body := by kernel_rfl
theorem ok : okCode T Tryz.f98.ntmps body = true := by kernel_rfl
theorem spec (x0p : Option Addr) (x0l : Nat) (x0c : Nat) (x1 : Int) (x2 : Int) (h : Heap) (K : KK) (H : w x0p x0l x0c x1 x2 h K) : CallsH Tryz.prog 98 [(.slice x0p x0l x0c), (.int .i64 x1), (.int .i64 x2)] h K :=
  calls_of_E (T := T) Xok mix Tryz.func98 hb ok rfl (by rw [e0]; exact H)
end F98
-- slices.choosePivotOrdered[uint8]
namespace F99
def T : Hint := ⟨[(11, [0, 9, 10, 11, 12]), (12, [9, 11])], []⟩
noncomputable def body : Code := (Tryz.f99.body).getD .skip
noncomputable def en (S : Stop) (p : List Nat) (κ : XK) : Fr → Heap → Prop := E Tryz.prog X T S (sub body p) κ
def fn (K : KK) : XK := fin Tryz.prog Tryz.f99.results.toList K
noncomputable def c0 (S : Stop) (K : KK) : XK := seqN S (cutQ T (sub body [1, 1, 1, 1, 1, 1, 1])) (en S [1, 1, 1, 1, 1, 1, 1] (fn K)) (fn K)
def f11 (x0p : Option Addr) (x0l x0c : Nat) (x9 : Addr) (x10 x11 x12 : Int) : Fr := [(0, (.slice x0p x0l x0c)), (9, (.pointer (some x9))), (10, (.int .i64 x10)), (11, (.int .i64 x11)), (12, (.int .i64 x12))]
def f12 (x9 : Addr) (x11 : Int) : Fr := [(9, (.pointer (some x9))), (11, (.int .i64 x11))]
def J0 (k11 : (Option Addr) → Nat → Nat → Addr → Int → Int → Int → Heap → Prop) (k12 : Addr → Int → Heap → Prop) (x0p : Option Addr) (x0l x0c : Nat) (x1 x2 : Int) (h : Heap) (_K : KK) : Prop :=
  newK h (.cells #[(.int .i64 (0 : Int))] 3) (fun b1 h2 => ((4 : Int) ≠ 0 ∧ ((4 : Int) ≠ 0 ∧ ((4 : Int) ≠ 0 ∧ bcase (decide ((IntKind.wrap .i64 (x2 - x1)) ≥ (8 : Int))) (bcase (decide ((IntKind.wrap .i64 (x2 - x1)) ≥ (50 : Int))) (CallsH Tryz.prog 118 [(.slice x0p x0l x0c), (.int .i64 (IntKind.wrap .i64 (x1 + (IntKind.wrap .i64 ((IntKind.wrap .i64 (Int.tdiv (IntKind.wrap .i64 (x2 - x1)) (4 : Int))) * (1 : Int)))))), (.pointer (some (Addr.mk b1 0 none)))] h2 (fun v3 h4 => ldI .i64 (some v3) (fun n5 => CallsH Tryz.prog 118 [(.slice x0p x0l x0c), (.int .i64 (IntKind.wrap .i64 (x1 + (IntKind.wrap .i64 ((IntKind.wrap .i64 (Int.tdiv (IntKind.wrap .i64 (x2 - x1)) (4 : Int))) * (2 : Int)))))), (.pointer (some (Addr.mk b1 0 none)))] h4 (fun v6 h7 => ldI .i64 (some v6) (fun n8 => CallsH Tryz.prog 118 [(.slice x0p x0l x0c), (.int .i64 (IntKind.wrap .i64 (x1 + (IntKind.wrap .i64 ((IntKind.wrap .i64 (Int.tdiv (IntKind.wrap .i64 (x2 - x1)) (4 : Int))) * (3 : Int)))))), (.pointer (some (Addr.mk b1 0 none)))] h7 (fun v9 h10 => ldI .i64 (some v9) (fun n11 => k11 x0p x0l x0c (Addr.mk b1 0 none) n5 n8 n11 h10))))))) (k11 x0p x0l x0c (Addr.mk b1 0 none) (IntKind.wrap .i64 (x1 + (IntKind.wrap .i64 ((IntKind.wrap .i64 (Int.tdiv (IntKind.wrap .i64 (x2 - x1)) (4 : Int))) * (1 : Int))))) (IntKind.wrap .i64 (x1 + (IntKind.wrap .i64 ((IntKind.wrap .i64 (Int.tdiv (IntKind.wrap .i64 (x2 - x1)) (4 : Int))) * (2 : Int))))) (IntKind.wrap .i64 (x1 + (IntKind.wrap .i64 ((IntKind.wrap .i64 (Int.tdiv (IntKind.wrap .i64 (x2 - x1)) (4 : Int))) * (3 : Int))))) h2)) (k12 (Addr.mk b1 0 none) (IntKind.wrap .i64 (x1 + (IntKind.wrap .i64 ((IntKind.wrap .i64 (Int.tdiv (IntKind.wrap .i64 (x2 - x1)) (4 : Int))) * (2 : Int))))) h2)))))
theorem E0 (S : Stop) (x0p : Option Addr) (x0l x0c : Nat) (x1 x2 : Int) (h : Heap) (K : KK) : (E Tryz.prog X T S body (fin Tryz.prog Tryz.f99.results.toList K) (args0 0 [(.slice x0p x0l x0c), (.int .i64 x1), (.int .i64 x2)]) h) = J0 (fun x0p x0l x0c x9 x10 x11 x12 h => S (en S [1, 1, 1, 1, 1, 1, 0, 1, 0, 1] (c0 S K)) (f11 x0p x0l x0c x9 x10 x11 x12) h) (fun x9 x11 h => S (en S [1, 1, 1, 1, 1, 1, 1] (fn K)) (f12 x9 x11) h) x0p x0l x0c x1 x2 h K := by kernel_rfl
def Jk11 (k12 : Addr → Int → Heap → Prop) (x0p : Option Addr) (x0l x0c : Nat) (x9 : Addr) (x10 x11 x12 : Int) (h : Heap) (_K : KK) : Prop :=
  CallsH Tryz.prog 119 [(.slice x0p x0l x0c), (.int .i64 x10), (.int .i64 x11), (.int .i64 x12), (.pointer (some x9))] h (fun v1 h2 => ldI .i64 (some v1) (fun n3 => k12 x9 n3 h2))
theorem Ek11 (S : Stop) (x0p : Option Addr) (x0l x0c : Nat) (x9 : Addr) (x10 x11 x12 : Int) (h : Heap) (K : KK) : (en S [1, 1, 1, 1, 1, 1, 0, 1, 0, 1] (c0 S K) (f11 x0p x0l x0c x9 x10 x11 x12) h) = Jk11 (fun x9 x11 h => S (en S [1, 1, 1, 1, 1, 1, 1] (fn K)) (f12 x9 x11) h) x0p x0l x0c x9 x10 x11 x12 h K := by kernel_rfl
def Jk12 (x9 : Addr) (x11 : Int) (h : Heap) (K : KK) : Prop :=
  ldI .i64 (rd h x9) (fun n1 => bcase (n1 == (0 : Int)) (K (.tuple #[(.int .i64 x11), (.int .i64 (1 : Int))]) h) (bcase (n1 == (12 : Int)) (K (.tuple #[(.int .i64 x11), (.int .i64 (2 : Int))]) h) (K (.tuple #[(.int .i64 x11), (.int .i64 (0 : Int))]) h)))
theorem Ek12 (S : Stop) (x9 : Addr) (x11 : Int) (h : Heap) (K : KK) : (en S [1, 1, 1, 1, 1, 1, 1] (fn K) (f12 x9 x11) h) = Jk12 x9 x11 h K := by kernel_rfl
def wk12 (x9 : Addr) (x11 : Int) (h : Heap) (K : KK) : Prop :=
  Jk12 x9 x11 h K
theorem ek12 (K : KK) (x9 : Addr) (x11 : Int) (h : Heap) : (en S0 [1, 1, 1, 1, 1, 1, 1] (fn K) (f12 x9 x11) h) = wk12 x9 x11 h K := (Ek12 S0 x9 x11 h K).trans (rfl)
def wk11 (x0p : Option Addr) (x0l x0c : Nat) (x9 : Addr) (x10 x11 x12 : Int) (h : Heap) (K : KK) : Prop :=
  Jk11 (fun x9 x11 h => wk12 x9 x11 h K) x0p x0l x0c x9 x10 x11 x12 h K
theorem ek11 (K : KK) (x0p : Option Addr) (x0l x0c : Nat) (x9 : Addr) (x10 x11 x12 : Int) (h : Heap) : (en S0 [1, 1, 1, 1, 1, 1, 0, 1, 0, 1] (c0 S0 K) (f11 x0p x0l x0c x9 x10 x11 x12) h) = wk11 x0p x0l x0c x9 x10 x11 x12 h K := (Ek11 S0 x0p x0l x0c x9 x10 x11 x12 h K).trans (cg1 (fun q0 => Jk11 q0 x0p x0l x0c x9 x10 x11 x12 h K) (by funext x9 x11 h; exact ek12 K x9 x11 h))
def w (x0p : Option Addr) (x0l x0c : Nat) (x1 x2 : Int) (h : Heap) (K : KK) : Prop :=
  J0 (fun x0p x0l x0c x9 x10 x11 x12 h => wk11 x0p x0l x0c x9 x10 x11 x12 h K) (fun x9 x11 h => wk12 x9 x11 h K) x0p x0l x0c x1 x2 h K
theorem e0 (K : KK) (x0p : Option Addr) (x0l x0c : Nat) (x1 x2 : Int) (h : Heap) : (E Tryz.prog X T S0 body (fin Tryz.prog Tryz.f99.results.toList K) (args0 0 [(.slice x0p x0l x0c), (.int .i64 x1), (.int .i64 x2)]) h) = w x0p x0l x0c x1 x2 h K := (E0 S0 x0p x0l x0c x1 x2 h K).trans (cg2 (fun q0 q1 => J0 q0 q1 x0p x0l x0c x1 x2 h K) (by funext x0p x0l x0c x9 x10 x11 x12 h; exact ek11 K x0p x0l x0c x9 x10 x11 x12 h) (by funext x9 x11 h; exact ek12 K x9 x11 h))
theorem hb : Tryz.f99.body = some body := by kernel_rfl
theorem ok : okCode T Tryz.f99.ntmps body = true := by kernel_rfl
theorem spec (x0p : Option Addr) (x0l : Nat) (x0c : Nat) (x1 : Int) (x2 : Int) (h : Heap) (K : KK) (H : w x0p x0l x0c x1 x2 h K) : CallsH Tryz.prog 99 [(.slice x0p x0l x0c), (.int .i64 x1), (.int .i64 x2)] h K :=
  calls_of_E (T := T) Xok mix Tryz.func99 hb ok rfl (by rw [e0]; exact H)
end F99
-- slices.reverseRangeOrdered[uint8]
namespace F100
def T : Hint := ⟨[(2, [0, 6, 7])], [(3, [[(0, []), (1, []), (2, []), (3, []), (4, []), (5, []), (6, []), (7, []), (8, []), (9, []), (10, []), (11, []), (12, []), (13, [2, 3]), (14, []), (15, [])]])]⟩
noncomputable def body : Code := (Tryz.f100.body).getD .skip
noncomputable def en (S : Stop) (p : List Nat) (κ : XK) : Fr → Heap → Prop := E Tryz.prog X T S (sub body p) κ
noncomputable def ln (S : Stop) (p : List Nat) (κ : XK) (n : Nat) : Fr → Heap → Prop := loopN S (E Tryz.prog X T S (sub body p)) (cutQ T (sub body p)) κ n
def fn (K : KK) : XK := fin Tryz.prog Tryz.f100.results.toList K
noncomputable def c0 (_S : Stop) (K : KK) : XK := blockN 0 (fn K)
noncomputable def c1 (S : Stop) (n2 : Nat) (K : KK) : XK := backN S (cutQ T (sub body [1, 1, 0, 0])) (ln S [1, 1, 0, 0] (c0 S K) n2) (c0 S K)
def f2 (x0p : Option Addr) (x0l x0c : Nat) (x6 x7 : Int) : Fr := [(0, (.slice x0p x0l x0c)), (6, (.int .i64 x6)), (7, (.int .i64 x7))]
def J0 (k2 : (Option Addr) → Nat → Nat → Int → Int → Heap → Prop) (x0p : Option Addr) (x0l x0c : Nat) (x1 x2 : Int) (h : Heap) (_K : KK) : Prop :=
  k2 x0p x0l x0c x1 (IntKind.wrap .i64 (x2 - (1 : Int))) h
theorem E0 (S : Stop) (x0p : Option Addr) (x0l x0c : Nat) (x1 x2 : Int) (h : Heap) (K : KK) : (E Tryz.prog X T S body (fin Tryz.prog Tryz.f100.results.toList K) (args0 0 [(.slice x0p x0l x0c), (.int .i64 x1), (.int .i64 x2)]) h) = J0 (fun x0p x0l x0c x6 x7 h => S (en S [1, 1] (fn K)) (f2 x0p x0l x0c x6 x7) h) x0p x0l x0c x1 x2 h K := by kernel_rfl
def Jk2 (lp2 : (Option Addr) → Nat → Nat → Int → Int → Heap → Prop) (x0p : Option Addr) (x0l x0c : Nat) (x6 x7 : Int) (h : Heap) (_K : KK) : Prop :=
  lp2 x0p x0l x0c x6 x7 h
theorem Ek2 (S : Stop) (x0p : Option Addr) (x0l x0c : Nat) (x6 x7 : Int) (h : Heap) (K : KK) : (en S [1, 1] (fn K) (f2 x0p x0l x0c x6 x7) h) = Jk2 (fun x0p x0l x0c x6 x7 h => ∃ n, S (ln S [1, 1, 0, 0] (c0 S K) n) (f2 x0p x0l x0c x6 x7) h) x0p x0l x0c x6 x7 h K := by kernel_rfl
def JL2 (bk2 : (Option Addr) → Nat → Nat → Int → Int → Heap → Prop) (x0p : Option Addr) (x0l x0c : Nat) (x6 x7 : Int) (h : Heap) (K : KK) : Prop :=
  bcase (decide (x6 < x7)) (ptrK x0p (fun a1 => (0 ≤ x7 ∧ x7 < (Nat.cast x0l : Int) ∧ ldI .u8 (rd h (Addr.add a1 (Int.toNat x7 * 1))) (fun n2 => ptrK x0p (fun a3 => (0 ≤ x6 ∧ x6 < (Nat.cast x0l : Int) ∧ ldI .u8 (rd h (Addr.add a3 (Int.toNat x6 * 1))) (fun n4 => ptrK x0p (fun a5 => (0 ≤ x6 ∧ x6 < (Nat.cast x0l : Int) ∧ stK h (Addr.add (Addr.add a5 (Int.toNat x6 * 1)) 0) (.int .u8 n2) (fun h6 => ((.slice x0p x0l x0c) = ((.slice x0p x0l x0c) : Value) ∧ ((.int .i64 x7) = ((.int .i64 x7) : Value) ∧ ptrK x0p (fun a7 => (0 ≤ x7 ∧ x7 < (Nat.cast x0l : Int) ∧ stK h6 (Addr.add (Addr.add a7 (Int.toNat x7 * 1)) 0) (.int .u8 n4) (fun h8 => bk2 x0p x0l x0c (IntKind.wrap .i64 (x6 + (1 : Int))) (IntKind.wrap .i64 (x7 - (1 : Int))) h8))))))))))))))) (K (.tuple #[]) h)
theorem EL2 (S : Stop) (n2 : Nat) (x0p : Option Addr) (x0l x0c : Nat) (x6 x7 : Int) (h : Heap) (K : KK) : (en S [1, 1, 0, 0] (c1 S n2 K) (f2 x0p x0l x0c x6 x7) h) = JL2 (fun x0p x0l x0c x6 x7 h => S (ln S [1, 1, 0, 0] (c0 S K) n2) (f2 x0p x0l x0c x6 x7) h) x0p x0l x0c x6 x7 h K := by kernel_rfl
def wL2 : Nat → (Option Addr) → Nat → Nat → Int → Int → Heap → KK → Prop
  | 0, _, _, _, _, _, _, _ => False
  | n + 1, x0p, x0l, x0c, x6, x7, h, K => JL2 (fun x0p x0l x0c x6 x7 h => wL2 n x0p x0l x0c x6 x7 h K) x0p x0l x0c x6 x7 h K
theorem eL2 (K : KK) : ∀ (n : Nat) (x0p : Option Addr) (x0l x0c : Nat) (x6 x7 : Int) (h : Heap), (ln S0 [1, 1, 0, 0] (c0 S0 K) n (f2 x0p x0l x0c x6 x7) h) = wL2 n x0p x0l x0c x6 x7 h K
  | 0, _, _, _, _, _, _ => rfl
  | n + 1, x0p, x0l, x0c, x6, x7, h => (EL2 S0 n x0p x0l x0c x6 x7 h K).trans (cg1 (fun q0 => JL2 q0 x0p x0l x0c x6 x7 h K) (by funext x0p x0l x0c x6 x7 h; exact (fun x0p x0l x0c x6 x7 h => eL2 K n x0p x0l x0c x6 x7 h) x0p x0l x0c x6 x7 h))
def wk2 (x0p : Option Addr) (x0l x0c : Nat) (x6 x7 : Int) (h : Heap) (K : KK) : Prop :=
  Jk2 (fun x0p x0l x0c x6 x7 h => ∃ m, wL2 m x0p x0l x0c x6 x7 h K) x0p x0l x0c x6 x7 h K
theorem ek2 (K : KK) (x0p : Option Addr) (x0l x0c : Nat) (x6 x7 : Int) (h : Heap) : (en S0 [1, 1] (fn K) (f2 x0p x0l x0c x6 x7) h) = wk2 x0p x0l x0c x6 x7 h K := (Ek2 S0 x0p x0l x0c x6 x7 h K).trans (cg1 (fun q0 => Jk2 q0 x0p x0l x0c x6 x7 h K) (by funext x0p x0l x0c x6 x7 h; exact ex_congr fun m => eL2 K m x0p x0l x0c x6 x7 h))
def w (x0p : Option Addr) (x0l x0c : Nat) (x1 x2 : Int) (h : Heap) (K : KK) : Prop :=
  J0 (fun x0p x0l x0c x6 x7 h => wk2 x0p x0l x0c x6 x7 h K) x0p x0l x0c x1 x2 h K
theorem e0 (K : KK) (x0p : Option Addr) (x0l x0c : Nat) (x1 x2 : Int) (h : Heap) : (E Tryz.prog X T S0 body (fin Tryz.prog Tryz.f100.results.toList K) (args0 0 [(.slice x0p x0l x0c), (.int .i64 x1), (.int .i64 x2)]) h) = w x0p x0l x0c x1 x2 h K := (E0 S0 x0p x0l x0c x1 x2 h K).trans (cg1 (fun q0 => J0 q0 x0p x0l x0c x1 x2 h K) (by funext x0p x0l x0c x6 x7 h; exact ek2 K x0p x0l x0c x6 x7 h))
theorem hb : Tryz.f100.body = some body := by kernel_rfl
theorem ok : okCode T Tryz.f100.ntmps body = true := by kernel_rfl
theorem spec (x0p : Option Addr) (x0l : Nat) (x0c : Nat) (x1 : Int) (x2 : Int) (h : Heap) (K : KK) (H : w x0p x0l x0c x1 x2 h K) : CallsH Tryz.prog 100 [(.slice x0p x0l x0c), (.int .i64 x1), (.int .i64 x2)] h K :=
  calls_of_E (T := T) Xok mix Tryz.func100 hb ok rfl (by rw [e0]; exact H)
end F100
-- slices.partialInsertionSortOrdered[uint8]
namespace F101
def T : Hint := ⟨[(3, [0, 1, 2, 7, 8]), (5, [0, 1, 2, 7, 8]), (7, [0, 1, 2, 7, 8]), (14, [0, 1, 2, 7, 8, 9]), (18, [0, 1, 2, 7, 8]), (20, [0, 1, 2, 7, 8, 10])], [(5, [[(0, []), (1, []), (2, []), (3, []), (4, []), (5, []), (6, []), (7, []), (8, []), (9, []), (10, []), (11, []), (12, []), (13, []), (14, []), (15, [])]]), (11, [[(0, []), (1, []), (2, []), (3, []), (4, []), (5, []), (6, []), (7, []), (8, []), (9, []), (10, []), (11, []), (12, []), (13, []), (14, []), (15, [2, 3, 4]), (16, []), (17, [])]]), (16, [[(0, []), (1, []), (2, []), (3, []), (4, []), (5, []), (6, []), (7, []), (8, []), (9, []), (10, [])]]), (17, [[(0, []), (1, []), (2, []), (3, []), (4, []), (5, []), (6, []), (7, []), (8, []), (9, []), (10, []), (11, []), (12, []), (13, []), (14, []), (15, [2, 3, 4]), (16, []), (17, [])]]), (22, [[(0, []), (1, []), (2, []), (3, []), (4, []), (5, []), (6, []), (7, []), (8, []), (9, []), (10, [])]]), (23, [[(0, []), (1, []), (2, []), (3, []), (4, []), (5, []), (6, []), (7, []), (8, []), (9, []), (10, []), (11, []), (12, []), (13, []), (14, []), (15, [2, 3, 4]), (16, []), (17, [])]])]⟩
noncomputable def body : Code := (Tryz.f101.body).getD .skip
noncomputable def en (S : Stop) (p : List Nat) (κ : XK) : Fr → Heap → Prop := E Tryz.prog X T S (sub body p) κ
noncomputable def ln (S : Stop) (p : List Nat) (κ : XK) (n : Nat) : Fr → Heap → Prop := loopN S (E Tryz.prog X T S (sub body p)) (cutQ T (sub body p)) κ n
def fn (K : KK) : XK := fin Tryz.prog Tryz.f101.results.toList K
noncomputable def c0 (S : Stop) (K : KK) : XK := seqN S (cutQ T (sub body [1, 1, 1])) (en S [1, 1, 1] (fn K)) (fn K)
noncomputable def c1 (S : Stop) (K : KK) : XK := blockN 0 (c0 S K)
noncomputable def c2 (S : Stop) (n3 : Nat) (K : KK) : XK := backN S (cutQ T (sub body [1, 1, 0, 1, 0, 0])) (ln S [1, 1, 0, 1, 0, 0] (c1 S K) n3) (c1 S K)
noncomputable def c3 (S : Stop) (n3 : Nat) (K : KK) : XK := seqN S (cutQ T (sub body [1, 1, 0, 1, 0, 0, 1, 1])) (en S [1, 1, 0, 1, 0, 0, 1, 1] (c2 S n3 K)) (c2 S n3 K)
noncomputable def c4 (S : Stop) (n3 : Nat) (K : KK) : XK := blockN 1 (c3 S n3 K)
noncomputable def c5 (S : Stop) (n3 : Nat) (K : KK) : XK := seqN S (cutQ T (sub body [1, 1, 0, 1, 0, 0, 1, 0, 0, 1])) (en S [1, 1, 0, 1, 0, 0, 1, 0, 0, 1] (c4 S n3 K)) (c4 S n3 K)
noncomputable def c6 (S : Stop) (n3 : Nat) (K : KK) : XK := blockN 2 (c5 S n3 K)
noncomputable def c7 (S : Stop) (n3 : Nat) (n5 : Nat) (K : KK) : XK := backN S (cutQ T (sub body [1, 1, 0, 1, 0, 0, 1, 0, 0, 0, 0, 0])) (ln S [1, 1, 0, 1, 0, 0, 1, 0, 0, 0, 0, 0] (c6 S n3 K) n5) (c6 S n3 K)
noncomputable def c8 (S : Stop) (n3 : Nat) (K : KK) : XK := seqN S (cutQ T (sub body [1, 1, 0, 1, 0, 0, 1, 0, 0, 1, 1, 1, 1, 1])) (en S [1, 1, 0, 1, 0, 0, 1, 0, 0, 1, 1, 1, 1, 1] (c4 S n3 K)) (c4 S n3 K)
noncomputable def c9 (S : Stop) (n3 : Nat) (K : KK) : XK := blockN 4 (c8 S n3 K)
noncomputable def c10 (S : Stop) (n3 : Nat) (n14 : Nat) (K : KK) : XK := backN S (cutQ T (sub body [1, 1, 0, 1, 0, 0, 1, 0, 0, 1, 1, 1, 1, 0, 1, 0, 1, 0, 0])) (ln S [1, 1, 0, 1, 0, 0, 1, 0, 0, 1, 1, 1, 1, 0, 1, 0, 1, 0, 0] (c9 S n3 K) n14) (c9 S n3 K)
noncomputable def c11 (S : Stop) (n3 : Nat) (K : KK) : XK := blockN 6 (c4 S n3 K)
noncomputable def c12 (S : Stop) (n3 : Nat) (n20 : Nat) (K : KK) : XK := backN S (cutQ T (sub body [1, 1, 0, 1, 0, 0, 1, 0, 0, 1, 1, 1, 1, 1, 1, 0, 1, 0, 0])) (ln S [1, 1, 0, 1, 0, 0, 1, 0, 0, 1, 1, 1, 1, 1, 1, 0, 1, 0, 0] (c11 S n3 K) n20) (c11 S n3 K)
def f3 (x0p : Option Addr) (x0l x0c : Nat) (x1 x2 x7 x8 : Int) : Fr := [(0, (.slice x0p x0l x0c)), (1, (.int .i64 x1)), (2, (.int .i64 x2)), (7, (.int .i64 x7)), (8, (.int .i64 x8))]
def f5 (x0p : Option Addr) (x0l x0c : Nat) (x1 x2 x7 x8 : Int) : Fr := [(0, (.slice x0p x0l x0c)), (1, (.int .i64 x1)), (2, (.int .i64 x2)), (7, (.int .i64 x7)), (8, (.int .i64 x8))]
def f7 (x0p : Option Addr) (x0l x0c : Nat) (x1 x2 x7 x8 : Int) : Fr := [(0, (.slice x0p x0l x0c)), (1, (.int .i64 x1)), (2, (.int .i64 x2)), (7, (.int .i64 x7)), (8, (.int .i64 x8))]
def f14 (x0p : Option Addr) (x0l x0c : Nat) (x1 x2 x7 x8 x9 : Int) : Fr := [(0, (.slice x0p x0l x0c)), (1, (.int .i64 x1)), (2, (.int .i64 x2)), (7, (.int .i64 x7)), (8, (.int .i64 x8)), (9, (.int .i64 x9))]
def f18 (x0p : Option Addr) (x0l x0c : Nat) (x1 x2 x7 x8 : Int) : Fr := [(0, (.slice x0p x0l x0c)), (1, (.int .i64 x1)), (2, (.int .i64 x2)), (7, (.int .i64 x7)), (8, (.int .i64 x8))]
def f20 (x0p : Option Addr) (x0l x0c : Nat) (x1 x2 x7 x8 x10 : Int) : Fr := [(0, (.slice x0p x0l x0c)), (1, (.int .i64 x1)), (2, (.int .i64 x2)), (7, (.int .i64 x7)), (8, (.int .i64 x8)), (10, (.int .i64 x10))]
def J0 (k3 : (Option Addr) → Nat → Nat → Int → Int → Int → Int → Heap → Prop) (x0p : Option Addr) (x0l x0c : Nat) (x1 x2 : Int) (h : Heap) (_K : KK) : Prop :=
  k3 x0p x0l x0c x1 x2 (IntKind.wrap .i64 (x1 + (1 : Int))) (0 : Int) h
theorem E0 (S : Stop) (x0p : Option Addr) (x0l x0c : Nat) (x1 x2 : Int) (h : Heap) (K : KK) : (E Tryz.prog X T S body (fin Tryz.prog Tryz.f101.results.toList K) (args0 0 [(.slice x0p x0l x0c), (.int .i64 x1), (.int .i64 x2)]) h) = J0 (fun x0p x0l x0c x1 x2 x7 x8 h => S (en S [1, 1, 0, 1] (c0 S K)) (f3 x0p x0l x0c x1 x2 x7 x8) h) x0p x0l x0c x1 x2 h K := by kernel_rfl
def Jk3 (lp3 : (Option Addr) → Nat → Nat → Int → Int → Int → Int → Heap → Prop) (x0p : Option Addr) (x0l x0c : Nat) (x1 x2 x7 x8 : Int) (h : Heap) (_K : KK) : Prop :=
  lp3 x0p x0l x0c x1 x2 x7 x8 h
theorem Ek3 (S : Stop) (x0p : Option Addr) (x0l x0c : Nat) (x1 x2 x7 x8 : Int) (h : Heap) (K : KK) : (en S [1, 1, 0, 1] (c0 S K) (f3 x0p x0l x0c x1 x2 x7 x8) h) = Jk3 (fun x0p x0l x0c x1 x2 x7 x8 h => ∃ n, S (ln S [1, 1, 0, 1, 0, 0] (c1 S K) n) (f3 x0p x0l x0c x1 x2 x7 x8) h) x0p x0l x0c x1 x2 x7 x8 h K := by kernel_rfl
def JL3 (k5 : (Option Addr) → Nat → Nat → Int → Int → Int → Int → Heap → Prop) (x0p : Option Addr) (x0l x0c : Nat) (x1 x2 x7 x8 : Int) (h : Heap) (K : KK) : Prop :=
  bcase (decide (x8 < (5 : Int))) (k5 x0p x0l x0c x1 x2 x7 x8 h) (K (.bool false) h)
theorem EL3 (S : Stop) (n3 : Nat) (x0p : Option Addr) (x0l x0c : Nat) (x1 x2 x7 x8 : Int) (h : Heap) (K : KK) : (en S [1, 1, 0, 1, 0, 0] (c2 S n3 K) (f3 x0p x0l x0c x1 x2 x7 x8) h) = JL3 (fun x0p x0l x0c x1 x2 x7 x8 h => S (en S [1, 1, 0, 1, 0, 0, 1] (c2 S n3 K)) (f5 x0p x0l x0c x1 x2 x7 x8) h) x0p x0l x0c x1 x2 x7 x8 h K := by kernel_rfl
def Jk5 (lp5 : (Option Addr) → Nat → Nat → Int → Int → Int → Int → Heap → Prop) (x0p : Option Addr) (x0l x0c : Nat) (x1 x2 x7 x8 : Int) (h : Heap) (_K : KK) : Prop :=
  lp5 x0p x0l x0c x1 x2 x7 x8 h
theorem Ek5 (S : Stop) (n3 : Nat) (x0p : Option Addr) (x0l x0c : Nat) (x1 x2 x7 x8 : Int) (h : Heap) (K : KK) : (en S [1, 1, 0, 1, 0, 0, 1] (c2 S n3 K) (f5 x0p x0l x0c x1 x2 x7 x8) h) = Jk5 (fun x0p x0l x0c x1 x2 x7 x8 h => ∃ n, S (ln S [1, 1, 0, 1, 0, 0, 1, 0, 0, 0, 0, 0] (c6 S n3 K) n) (f5 x0p x0l x0c x1 x2 x7 x8) h) x0p x0l x0c x1 x2 x7 x8 h K := by kernel_rfl
def JL5 (bk5 : (Option Addr) → Nat → Nat → Int → Int → Int → Int → Heap → Prop) (k7 : (Option Addr) → Nat → Nat → Int → Int → Int → Int → Heap → Prop) (x0p : Option Addr) (x0l x0c : Nat) (x1 x2 x7 x8 : Int) (h : Heap) (_K : KK) : Prop :=
  bcase (decide (x7 < x2)) (ptrK x0p (fun a1 => (0 ≤ x7 ∧ x7 < (Nat.cast x0l : Int) ∧ ldI .u8 (rd h (Addr.add a1 (Int.toNat x7 * 1))) (fun n2 => ptrK x0p (fun a3 => (0 ≤ (IntKind.wrap .i64 (x7 - (1 : Int))) ∧ (IntKind.wrap .i64 (x7 - (1 : Int))) < (Nat.cast x0l : Int) ∧ ldI .u8 (rd h (Addr.add a3 (Int.toNat (IntKind.wrap .i64 (x7 - (1 : Int))) * 1))) (fun n4 => CallsH Tryz.prog 66 [(.int .u8 n2), (.int .u8 n4)] h (fun v5 h6 => ldB (some v5) (fun b7 => bcase (!b7) (bk5 x0p x0l x0c x1 x2 (IntKind.wrap .i64 (x7 + (1 : Int))) x8 h6) (k7 x0p x0l x0c x1 x2 x7 x8 h6)))))))))) (k7 x0p x0l x0c x1 x2 x7 x8 h)
theorem EL5 (S : Stop) (n3 : Nat) (n5 : Nat) (x0p : Option Addr) (x0l x0c : Nat) (x1 x2 x7 x8 : Int) (h : Heap) (K : KK) : (en S [1, 1, 0, 1, 0, 0, 1, 0, 0, 0, 0, 0] (c7 S n3 n5 K) (f5 x0p x0l x0c x1 x2 x7 x8) h) = JL5 (fun x0p x0l x0c x1 x2 x7 x8 h => S (ln S [1, 1, 0, 1, 0, 0, 1, 0, 0, 0, 0, 0] (c6 S n3 K) n5) (f5 x0p x0l x0c x1 x2 x7 x8) h) (fun x0p x0l x0c x1 x2 x7 x8 h => S (en S [1, 1, 0, 1, 0, 0, 1, 0, 0, 1] (c4 S n3 K)) (f7 x0p x0l x0c x1 x2 x7 x8) h) x0p x0l x0c x1 x2 x7 x8 h K := by kernel_rfl
def Jk7 (k14 : (Option Addr) → Nat → Nat → Int → Int → Int → Int → Int → Heap → Prop) (k18 : (Option Addr) → Nat → Nat → Int → Int → Int → Int → Heap → Prop) (x0p : Option Addr) (x0l x0c : Nat) (x1 x2 x7 x8 : Int) (h : Heap) (K : KK) : Prop :=
  bcase (x7 == x2) (K (.bool true) h) (bcase (decide ((IntKind.wrap .i64 (x2 - x1)) < (50 : Int))) (K (.bool false) h) (ptrK x0p (fun a1 => (0 ≤ (IntKind.wrap .i64 (x7 - (1 : Int))) ∧ (IntKind.wrap .i64 (x7 - (1 : Int))) < (Nat.cast x0l : Int) ∧ ldI .u8 (rd h (Addr.add a1 (Int.toNat (IntKind.wrap .i64 (x7 - (1 : Int))) * 1))) (fun n2 => ptrK x0p (fun a3 => (0 ≤ x7 ∧ x7 < (Nat.cast x0l : Int) ∧ ldI .u8 (rd h (Addr.add a3 (Int.toNat x7 * 1))) (fun n4 => ptrK x0p (fun a5 => (0 ≤ x7 ∧ x7 < (Nat.cast x0l : Int) ∧ stK h (Addr.add (Addr.add a5 (Int.toNat x7 * 1)) 0) (.int .u8 n2) (fun h6 => ((.slice x0p x0l x0c) = ((.slice x0p x0l x0c) : Value) ∧ ((.int .i64 x7) = ((.int .i64 x7) : Value) ∧ ((.int .i64 (IntKind.wrap .i64 (x7 - (1 : Int)))) = ((.int .i64 (IntKind.wrap .i64 (x7 - (1 : Int)))) : Value) ∧ ptrK x0p (fun a7 => (0 ≤ (IntKind.wrap .i64 (x7 - (1 : Int))) ∧ (IntKind.wrap .i64 (x7 - (1 : Int))) < (Nat.cast x0l : Int) ∧ stK h6 (Addr.add (Addr.add a7 (Int.toNat (IntKind.wrap .i64 (x7 - (1 : Int))) * 1)) 0) (.int .u8 n4) (fun h8 => bcase (decide ((IntKind.wrap .i64 (x7 - x1)) ≥ (2 : Int))) (k14 x0p x0l x0c x1 x2 x7 x8 (IntKind.wrap .i64 (x7 - (1 : Int))) h8) (k18 x0p x0l x0c x1 x2 x7 x8 h8))))))))))))))))))
theorem Ek7 (S : Stop) (n3 : Nat) (x0p : Option Addr) (x0l x0c : Nat) (x1 x2 x7 x8 : Int) (h : Heap) (K : KK) : (en S [1, 1, 0, 1, 0, 0, 1, 0, 0, 1] (c4 S n3 K) (f7 x0p x0l x0c x1 x2 x7 x8) h) = Jk7 (fun x0p x0l x0c x1 x2 x7 x8 x9 h => S (en S [1, 1, 0, 1, 0, 0, 1, 0, 0, 1, 1, 1, 1, 0, 1, 0, 1] (c8 S n3 K)) (f14 x0p x0l x0c x1 x2 x7 x8 x9) h) (fun x0p x0l x0c x1 x2 x7 x8 h => S (en S [1, 1, 0, 1, 0, 0, 1, 0, 0, 1, 1, 1, 1, 1] (c4 S n3 K)) (f18 x0p x0l x0c x1 x2 x7 x8) h) x0p x0l x0c x1 x2 x7 x8 h K := by kernel_rfl
def Jk14 (lp14 : (Option Addr) → Nat → Nat → Int → Int → Int → Int → Int → Heap → Prop) (x0p : Option Addr) (x0l x0c : Nat) (x1 x2 x7 x8 x9 : Int) (h : Heap) (_K : KK) : Prop :=
  lp14 x0p x0l x0c x1 x2 x7 x8 x9 h
theorem Ek14 (S : Stop) (n3 : Nat) (x0p : Option Addr) (x0l x0c : Nat) (x1 x2 x7 x8 x9 : Int) (h : Heap) (K : KK) : (en S [1, 1, 0, 1, 0, 0, 1, 0, 0, 1, 1, 1, 1, 0, 1, 0, 1] (c8 S n3 K) (f14 x0p x0l x0c x1 x2 x7 x8 x9) h) = Jk14 (fun x0p x0l x0c x1 x2 x7 x8 x9 h => ∃ n, S (ln S [1, 1, 0, 1, 0, 0, 1, 0, 0, 1, 1, 1, 1, 0, 1, 0, 1, 0, 0] (c9 S n3 K) n) (f14 x0p x0l x0c x1 x2 x7 x8 x9) h) x0p x0l x0c x1 x2 x7 x8 x9 h K := by kernel_rfl
def JL14 (k18 : (Option Addr) → Nat → Nat → Int → Int → Int → Int → Heap → Prop) (bk14 : (Option Addr) → Nat → Nat → Int → Int → Int → Int → Int → Heap → Prop) (x0p : Option Addr) (x0l x0c : Nat) (x1 x2 x7 x8 x9 : Int) (h : Heap) (_K : KK) : Prop :=
  bcase (decide (x9 ≥ (1 : Int))) (ptrK x0p (fun a1 => (0 ≤ x9 ∧ x9 < (Nat.cast x0l : Int) ∧ ldI .u8 (rd h (Addr.add a1 (Int.toNat x9 * 1))) (fun n2 => ptrK x0p (fun a3 => (0 ≤ (IntKind.wrap .i64 (x9 - (1 : Int))) ∧ (IntKind.wrap .i64 (x9 - (1 : Int))) < (Nat.cast x0l : Int) ∧ ldI .u8 (rd h (Addr.add a3 (Int.toNat (IntKind.wrap .i64 (x9 - (1 : Int))) * 1))) (fun n4 => CallsH Tryz.prog 66 [(.int .u8 n2), (.int .u8 n4)] h (fun v5 h6 => ldB (some v5) (fun b7 => bcase (!b7) (k18 x0p x0l x0c x1 x2 x7 x8 h6) (ptrK x0p (fun a8 => (0 ≤ (IntKind.wrap .i64 (x9 - (1 : Int))) ∧ (IntKind.wrap .i64 (x9 - (1 : Int))) < (Nat.cast x0l : Int) ∧ ldI .u8 (rd h6 (Addr.add a8 (Int.toNat (IntKind.wrap .i64 (x9 - (1 : Int))) * 1))) (fun n9 => ptrK x0p (fun a10 => (0 ≤ x9 ∧ x9 < (Nat.cast x0l : Int) ∧ ldI .u8 (rd h6 (Addr.add a10 (Int.toNat x9 * 1))) (fun n11 => ptrK x0p (fun a12 => (0 ≤ x9 ∧ x9 < (Nat.cast x0l : Int) ∧ stK h6 (Addr.add (Addr.add a12 (Int.toNat x9 * 1)) 0) (.int .u8 n9) (fun h13 => ((.slice x0p x0l x0c) = ((.slice x0p x0l x0c) : Value) ∧ ((.int .i64 x9) = ((.int .i64 x9) : Value) ∧ ((.int .i64 (IntKind.wrap .i64 (x9 - (1 : Int)))) = ((.int .i64 (IntKind.wrap .i64 (x9 - (1 : Int)))) : Value) ∧ ptrK x0p (fun a14 => (0 ≤ (IntKind.wrap .i64 (x9 - (1 : Int))) ∧ (IntKind.wrap .i64 (x9 - (1 : Int))) < (Nat.cast x0l : Int) ∧ stK h13 (Addr.add (Addr.add a14 (Int.toNat (IntKind.wrap .i64 (x9 - (1 : Int))) * 1)) 0) (.int .u8 n11) (fun h15 => bk14 x0p x0l x0c x1 x2 x7 x8 (IntKind.wrap .i64 (x9 - (1 : Int))) h15))))))))))))))))))))))))) (k18 x0p x0l x0c x1 x2 x7 x8 h)
theorem EL14 (S : Stop) (n3 : Nat) (n14 : Nat) (x0p : Option Addr) (x0l x0c : Nat) (x1 x2 x7 x8 x9 : Int) (h : Heap) (K : KK) : (en S [1, 1, 0, 1, 0, 0, 1, 0, 0, 1, 1, 1, 1, 0, 1, 0, 1, 0, 0] (c10 S n3 n14 K) (f14 x0p x0l x0c x1 x2 x7 x8 x9) h) = JL14 (fun x0p x0l x0c x1 x2 x7 x8 h => S (en S [1, 1, 0, 1, 0, 0, 1, 0, 0, 1, 1, 1, 1, 1] (c4 S n3 K)) (f18 x0p x0l x0c x1 x2 x7 x8) h) (fun x0p x0l x0c x1 x2 x7 x8 x9 h => S (ln S [1, 1, 0, 1, 0, 0, 1, 0, 0, 1, 1, 1, 1, 0, 1, 0, 1, 0, 0] (c9 S n3 K) n14) (f14 x0p x0l x0c x1 x2 x7 x8 x9) h) x0p x0l x0c x1 x2 x7 x8 x9 h K := by kernel_rfl
def Jk18 (k20 : (Option Addr) → Nat → Nat → Int → Int → Int → Int → Int → Heap → Prop) (bk3 : (Option Addr) → Nat → Nat → Int → Int → Int → Int → Heap → Prop) (x0p : Option Addr) (x0l x0c : Nat) (x1 x2 x7 x8 : Int) (h : Heap) (_K : KK) : Prop :=
  bcase (decide ((IntKind.wrap .i64 (x2 - x7)) ≥ (2 : Int))) (k20 x0p x0l x0c x1 x2 x7 x8 (IntKind.wrap .i64 (x7 + (1 : Int))) h) (bk3 x0p x0l x0c x1 x2 x7 (IntKind.wrap .i64 (x8 + (1 : Int))) h)
theorem Ek18 (S : Stop) (n3 : Nat) (x0p : Option Addr) (x0l x0c : Nat) (x1 x2 x7 x8 : Int) (h : Heap) (K : KK) : (en S [1, 1, 0, 1, 0, 0, 1, 0, 0, 1, 1, 1, 1, 1] (c4 S n3 K) (f18 x0p x0l x0c x1 x2 x7 x8) h) = Jk18 (fun x0p x0l x0c x1 x2 x7 x8 x10 h => S (en S [1, 1, 0, 1, 0, 0, 1, 0, 0, 1, 1, 1, 1, 1, 1, 0, 1] (c4 S n3 K)) (f20 x0p x0l x0c x1 x2 x7 x8 x10) h) (fun x0p x0l x0c x1 x2 x7 x8 h => S (ln S [1, 1, 0, 1, 0, 0] (c1 S K) n3) (f3 x0p x0l x0c x1 x2 x7 x8) h) x0p x0l x0c x1 x2 x7 x8 h K := by kernel_rfl
def Jk20 (lp20 : (Option Addr) → Nat → Nat → Int → Int → Int → Int → Int → Heap → Prop) (x0p : Option Addr) (x0l x0c : Nat) (x1 x2 x7 x8 x10 : Int) (h : Heap) (_K : KK) : Prop :=
  lp20 x0p x0l x0c x1 x2 x7 x8 x10 h
theorem Ek20 (S : Stop) (n3 : Nat) (x0p : Option Addr) (x0l x0c : Nat) (x1 x2 x7 x8 x10 : Int) (h : Heap) (K : KK) : (en S [1, 1, 0, 1, 0, 0, 1, 0, 0, 1, 1, 1, 1, 1, 1, 0, 1] (c4 S n3 K) (f20 x0p x0l x0c x1 x2 x7 x8 x10) h) = Jk20 (fun x0p x0l x0c x1 x2 x7 x8 x10 h => ∃ n, S (ln S [1, 1, 0, 1, 0, 0, 1, 0, 0, 1, 1, 1, 1, 1, 1, 0, 1, 0, 0] (c11 S n3 K) n) (f20 x0p x0l x0c x1 x2 x7 x8 x10) h) x0p x0l x0c x1 x2 x7 x8 x10 h K := by kernel_rfl
def JL20 (bk3 : (Option Addr) → Nat → Nat → Int → Int → Int → Int → Heap → Prop) (bk20 : (Option Addr) → Nat → Nat → Int → Int → Int → Int → Int → Heap → Prop) (x0p : Option Addr) (x0l x0c : Nat) (x1 x2 x7 x8 x10 : Int) (h : Heap) (_K : KK) : Prop :=
  bcase (decide (x10 < x2)) (ptrK x0p (fun a1 => (0 ≤ x10 ∧ x10 < (Nat.cast x0l : Int) ∧ ldI .u8 (rd h (Addr.add a1 (Int.toNat x10 * 1))) (fun n2 => ptrK x0p (fun a3 => (0 ≤ (IntKind.wrap .i64 (x10 - (1 : Int))) ∧ (IntKind.wrap .i64 (x10 - (1 : Int))) < (Nat.cast x0l : Int) ∧ ldI .u8 (rd h (Addr.add a3 (Int.toNat (IntKind.wrap .i64 (x10 - (1 : Int))) * 1))) (fun n4 => CallsH Tryz.prog 66 [(.int .u8 n2), (.int .u8 n4)] h (fun v5 h6 => ldB (some v5) (fun b7 => bcase (!b7) (bk3 x0p x0l x0c x1 x2 x7 (IntKind.wrap .i64 (x8 + (1 : Int))) h6) (ptrK x0p (fun a8 => (0 ≤ (IntKind.wrap .i64 (x10 - (1 : Int))) ∧ (IntKind.wrap .i64 (x10 - (1 : Int))) < (Nat.cast x0l : Int) ∧ ldI .u8 (rd h6 (Addr.add a8 (Int.toNat (IntKind.wrap .i64 (x10 - (1 : Int))) * 1))) (fun n9 => ptrK x0p (fun a10 => (0 ≤ x10 ∧ x10 < (Nat.cast x0l : Int) ∧ ldI .u8 (rd h6 (Addr.add a10 (Int.toNat x10 * 1))) (fun n11 => ptrK x0p (fun a12 => (0 ≤ x10 ∧ x10 < (Nat.cast x0l : Int) ∧ stK h6 (Addr.add (Addr.add a12 (Int.toNat x10 * 1)) 0) (.int .u8 n9) (fun h13 => ((.slice x0p x0l x0c) = ((.slice x0p x0l x0c) : Value) ∧ ((.int .i64 x10) = ((.int .i64 x10) : Value) ∧ ((.int .i64 (IntKind.wrap .i64 (x10 - (1 : Int)))) = ((.int .i64 (IntKind.wrap .i64 (x10 - (1 : Int)))) : Value) ∧ ptrK x0p (fun a14 => (0 ≤ (IntKind.wrap .i64 (x10 - (1 : Int))) ∧ (IntKind.wrap .i64 (x10 - (1 : Int))) < (Nat.cast x0l : Int) ∧ stK h13 (Addr.add (Addr.add a14 (Int.toNat (IntKind.wrap .i64 (x10 - (1 : Int))) * 1)) 0) (.int .u8 n11) (fun h15 => bk20 x0p x0l x0c x1 x2 x7 x8 (IntKind.wrap .i64 (x10 + (1 : Int))) h15))))))))))))))))))))))))) (bk3 x0p x0l x0c x1 x2 x7 (IntKind.wrap .i64 (x8 + (1 : Int))) h)
theorem EL20 (S : Stop) (n3 : Nat) (n20 : Nat) (x0p : Option Addr) (x0l x0c : Nat) (x1 x2 x7 x8 x10 : Int) (h : Heap) (K : KK) : (en S [1, 1, 0, 1, 0, 0, 1, 0, 0, 1, 1, 1, 1, 1, 1, 0, 1, 0, 0] (c12 S n3 n20 K) (f20 x0p x0l x0c x1 x2 x7 x8 x10) h) = JL20 (fun x0p x0l x0c x1 x2 x7 x8 h => S (ln S [1, 1, 0, 1, 0, 0] (c1 S K) n3) (f3 x0p x0l x0c x1 x2 x7 x8) h) (fun x0p x0l x0c x1 x2 x7 x8 x10 h => S (ln S [1, 1, 0, 1, 0, 0, 1, 0, 0, 1, 1, 1, 1, 1, 1, 0, 1, 0, 0] (c11 S n3 K) n20) (f20 x0p x0l x0c x1 x2 x7 x8 x10) h) x0p x0l x0c x1 x2 x7 x8 x10 h K := by kernel_rfl
def wL20 (bk3 : (Option Addr) → Nat → Nat → Int → Int → Int → Int → Heap → Prop) : Nat → (Option Addr) → Nat → Nat → Int → Int → Int → Int → Int → Heap → KK → Prop
  | 0, _, _, _, _, _, _, _, _, _, _ => False
  | n + 1, x0p, x0l, x0c, x1, x2, x7, x8, x10, h, K => JL20 bk3 (fun x0p x0l x0c x1 x2 x7 x8 x10 h => wL20 bk3 n x0p x0l x0c x1 x2 x7 x8 x10 h K) x0p x0l x0c x1 x2 x7 x8 x10 h K
theorem eL20 (K : KK) (n3 : Nat) (bk3 : (Option Addr) → Nat → Nat → Int → Int → Int → Int → Heap → Prop) (hb3 : ∀ (x0p : Option Addr) (x0l x0c : Nat) (x1 x2 x7 x8 : Int) (h : Heap), (ln S0 [1, 1, 0, 1, 0, 0] (c1 S0 K) n3 (f3 x0p x0l x0c x1 x2 x7 x8) h) = bk3 x0p x0l x0c x1 x2 x7 x8 h) : ∀ (n : Nat) (x0p : Option Addr) (x0l x0c : Nat) (x1 x2 x7 x8 x10 : Int) (h : Heap), (ln S0 [1, 1, 0, 1, 0, 0, 1, 0, 0, 1, 1, 1, 1, 1, 1, 0, 1, 0, 0] (c11 S0 n3 K) n (f20 x0p x0l x0c x1 x2 x7 x8 x10) h) = wL20 bk3 n x0p x0l x0c x1 x2 x7 x8 x10 h K
  | 0, _, _, _, _, _, _, _, _, _ => rfl
  | n + 1, x0p, x0l, x0c, x1, x2, x7, x8, x10, h => (EL20 S0 n3 n x0p x0l x0c x1 x2 x7 x8 x10 h K).trans (cg2 (fun q0 q1 => JL20 q0 q1 x0p x0l x0c x1 x2 x7 x8 x10 h K) (by funext x0p x0l x0c x1 x2 x7 x8 h; exact hb3 x0p x0l x0c x1 x2 x7 x8 h) (by funext x0p x0l x0c x1 x2 x7 x8 x10 h; exact (fun x0p x0l x0c x1 x2 x7 x8 x10 h => eL20 K n3 bk3 hb3 n x0p x0l x0c x1 x2 x7 x8 x10 h) x0p x0l x0c x1 x2 x7 x8 x10 h))
def wk20 (bk3 : (Option Addr) → Nat → Nat → Int → Int → Int → Int → Heap → Prop) (x0p : Option Addr) (x0l x0c : Nat) (x1 x2 x7 x8 x10 : Int) (h : Heap) (K : KK) : Prop :=
  Jk20 (fun x0p x0l x0c x1 x2 x7 x8 x10 h => ∃ m, wL20 bk3 m x0p x0l x0c x1 x2 x7 x8 x10 h K) x0p x0l x0c x1 x2 x7 x8 x10 h K
theorem ek20 (K : KK) (n3 : Nat) (bk3 : (Option Addr) → Nat → Nat → Int → Int → Int → Int → Heap → Prop) (hb3 : ∀ (x0p : Option Addr) (x0l x0c : Nat) (x1 x2 x7 x8 : Int) (h : Heap), (ln S0 [1, 1, 0, 1, 0, 0] (c1 S0 K) n3 (f3 x0p x0l x0c x1 x2 x7 x8) h) = bk3 x0p x0l x0c x1 x2 x7 x8 h) (x0p : Option Addr) (x0l x0c : Nat) (x1 x2 x7 x8 x10 : Int) (h : Heap) : (en S0 [1, 1, 0, 1, 0, 0, 1, 0, 0, 1, 1, 1, 1, 1, 1, 0, 1] (c4 S0 n3 K) (f20 x0p x0l x0c x1 x2 x7 x8 x10) h) = wk20 bk3 x0p x0l x0c x1 x2 x7 x8 x10 h K := (Ek20 S0 n3 x0p x0l x0c x1 x2 x7 x8 x10 h K).trans (cg1 (fun q0 => Jk20 q0 x0p x0l x0c x1 x2 x7 x8 x10 h K) (by funext x0p x0l x0c x1 x2 x7 x8 x10 h; exact ex_congr fun m => eL20 K n3 bk3 hb3 m x0p x0l x0c x1 x2 x7 x8 x10 h))
def wk18 (bk3 : (Option Addr) → Nat → Nat → Int → Int → Int → Int → Heap → Prop) (x0p : Option Addr) (x0l x0c : Nat) (x1 x2 x7 x8 : Int) (h : Heap) (K : KK) : Prop :=
  Jk18 (fun x0p x0l x0c x1 x2 x7 x8 x10 h => wk20 bk3 x0p x0l x0c x1 x2 x7 x8 x10 h K) bk3 x0p x0l x0c x1 x2 x7 x8 h K
theorem ek18 (K : KK) (n3 : Nat) (bk3 : (Option Addr) → Nat → Nat → Int → Int → Int → Int → Heap → Prop) (hb3 : ∀ (x0p : Option Addr) (x0l x0c : Nat) (x1 x2 x7 x8 : Int) (h : Heap), (ln S0 [1, 1, 0, 1, 0, 0] (c1 S0 K) n3 (f3 x0p x0l x0c x1 x2 x7 x8) h) = bk3 x0p x0l x0c x1 x2 x7 x8 h) (x0p : Option Addr) (x0l x0c : Nat) (x1 x2 x7 x8 : Int) (h : Heap) : (en S0 [1, 1, 0, 1, 0, 0, 1, 0, 0, 1, 1, 1, 1, 1] (c4 S0 n3 K) (f18 x0p x0l x0c x1 x2 x7 x8) h) = wk18 bk3 x0p x0l x0c x1 x2 x7 x8 h K := (Ek18 S0 n3 x0p x0l x0c x1 x2 x7 x8 h K).trans (cg2 (fun q0 q1 => Jk18 q0 q1 x0p x0l x0c x1 x2 x7 x8 h K) (by funext x0p x0l x0c x1 x2 x7 x8 x10 h; exact ek20 K n3 bk3 hb3 x0p x0l x0c x1 x2 x7 x8 x10 h) (by funext x0p x0l x0c x1 x2 x7 x8 h; exact hb3 x0p x0l x0c x1 x2 x7 x8 h))
def wL14 (bk3 : (Option Addr) → Nat → Nat → Int → Int → Int → Int → Heap → Prop) : Nat → (Option Addr) → Nat → Nat → Int → Int → Int → Int → Int → Heap → KK → Prop
  | 0, _, _, _, _, _, _, _, _, _, _ => False
  | n + 1, x0p, x0l, x0c, x1, x2, x7, x8, x9, h, K => JL14 (fun x0p x0l x0c x1 x2 x7 x8 h => wk18 bk3 x0p x0l x0c x1 x2 x7 x8 h K) (fun x0p x0l x0c x1 x2 x7 x8 x9 h => wL14 bk3 n x0p x0l x0c x1 x2 x7 x8 x9 h K) x0p x0l x0c x1 x2 x7 x8 x9 h K
theorem eL14 (K : KK) (n3 : Nat) (bk3 : (Option Addr) → Nat → Nat → Int → Int → Int → Int → Heap → Prop) (hb3 : ∀ (x0p : Option Addr) (x0l x0c : Nat) (x1 x2 x7 x8 : Int) (h : Heap), (ln S0 [1, 1, 0, 1, 0, 0] (c1 S0 K) n3 (f3 x0p x0l x0c x1 x2 x7 x8) h) = bk3 x0p x0l x0c x1 x2 x7 x8 h) : ∀ (n : Nat) (x0p : Option Addr) (x0l x0c : Nat) (x1 x2 x7 x8 x9 : Int) (h : Heap), (ln S0 [1, 1, 0, 1, 0, 0, 1, 0, 0, 1, 1, 1, 1, 0, 1, 0, 1, 0, 0] (c9 S0 n3 K) n (f14 x0p x0l x0c x1 x2 x7 x8 x9) h) = wL14 bk3 n x0p x0l x0c x1 x2 x7 x8 x9 h K
  | 0, _, _, _, _, _, _, _, _, _ => rfl
  | n + 1, x0p, x0l, x0c, x1, x2, x7, x8, x9, h => (EL14 S0 n3 n x0p x0l x0c x1 x2 x7 x8 x9 h K).trans (cg2 (fun q0 q1 => JL14 q0 q1 x0p x0l x0c x1 x2 x7 x8 x9 h K) (by funext x0p x0l x0c x1 x2 x7 x8 h; exact ek18 K n3 bk3 hb3 x0p x0l x0c x1 x2 x7 x8 h) (by funext x0p x0l x0c x1 x2 x7 x8 x9 h; exact (fun x0p x0l x0c x1 x2 x7 x8 x9 h => eL14 K n3 bk3 hb3 n x0p x0l x0c x1 x2 x7 x8 x9 h) x0p x0l x0c x1 x2 x7 x8 x9 h))
def wk14 (bk3 : (Option Addr) → Nat → Nat → Int → Int → Int → Int → Heap → Prop) (x0p : Option Addr) (x0l x0c : Nat) (x1 x2 x7 x8 x9 : Int) (h : Heap) (K : KK) : Prop :=
  Jk14 (fun x0p x0l x0c x1 x2 x7 x8 x9 h => ∃ m, wL14 bk3 m x0p x0l x0c x1 x2 x7 x8 x9 h K) x0p x0l x0c x1 x2 x7 x8 x9 h K
theorem ek14 (K : KK) (n3 : Nat) (bk3 : (Option Addr) → Nat → Nat → Int → Int → Int → Int → Heap → Prop) (hb3 : ∀ (x0p : Option Addr) (x0l x0c : Nat) (x1 x2 x7 x8 : Int) (h : Heap), (ln S0 [1, 1, 0, 1, 0, 0] (c1 S0 K) n3 (f3 x0p x0l x0c x1 x2 x7 x8) h) = bk3 x0p x0l x0c x1 x2 x7 x8 h) (x0p : Option Addr) (x0l x0c : Nat) (x1 x2 x7 x8 x9 : Int) (h : Heap) : (en S0 [1, 1, 0, 1, 0, 0, 1, 0, 0, 1, 1, 1, 1, 0, 1, 0, 1] (c8 S0 n3 K) (f14 x0p x0l x0c x1 x2 x7 x8 x9) h) = wk14 bk3 x0p x0l x0c x1 x2 x7 x8 x9 h K := (Ek14 S0 n3 x0p x0l x0c x1 x2 x7 x8 x9 h K).trans (cg1 (fun q0 => Jk14 q0 x0p x0l x0c x1 x2 x7 x8 x9 h K) (by funext x0p x0l x0c x1 x2 x7 x8 x9 h; exact ex_congr fun m => eL14 K n3 bk3 hb3 m x0p x0l x0c x1 x2 x7 x8 x9 h))
def wk7 (bk3 : (Option Addr) → Nat → Nat → Int → Int → Int → Int → Heap → Prop) (x0p : Option Addr) (x0l x0c : Nat) (x1 x2 x7 x8 : Int) (h : Heap) (K : KK) : Prop :=
  Jk7 (fun x0p x0l x0c x1 x2 x7 x8 x9 h => wk14 bk3 x0p x0l x0c x1 x2 x7 x8 x9 h K) (fun x0p x0l x0c x1 x2 x7 x8 h => wk18 bk3 x0p x0l x0c x1 x2 x7 x8 h K) x0p x0l x0c x1 x2 x7 x8 h K
theorem ek7 (K : KK) (n3 : Nat) (bk3 : (Option Addr) → Nat → Nat → Int → Int → Int → Int → Heap → Prop) (hb3 : ∀ (x0p : Option Addr) (x0l x0c : Nat) (x1 x2 x7 x8 : Int) (h : Heap), (ln S0 [1, 1, 0, 1, 0, 0] (c1 S0 K) n3 (f3 x0p x0l x0c x1 x2 x7 x8) h) = bk3 x0p x0l x0c x1 x2 x7 x8 h) (x0p : Option Addr) (x0l x0c : Nat) (x1 x2 x7 x8 : Int) (h : Heap) : (en S0 [1, 1, 0, 1, 0, 0, 1, 0, 0, 1] (c4 S0 n3 K) (f7 x0p x0l x0c x1 x2 x7 x8) h) = wk7 bk3 x0p x0l x0c x1 x2 x7 x8 h K := (Ek7 S0 n3 x0p x0l x0c x1 x2 x7 x8 h K).trans (cg2 (fun q0 q1 => Jk7 q0 q1 x0p x0l x0c x1 x2 x7 x8 h K) (by funext x0p x0l x0c x1 x2 x7 x8 x9 h; exact ek14 K n3 bk3 hb3 x0p x0l x0c x1 x2 x7 x8 x9 h) (by funext x0p x0l x0c x1 x2 x7 x8 h; exact ek18 K n3 bk3 hb3 x0p x0l x0c x1 x2 x7 x8 h))
def wL5 (bk3 : (Option Addr) → Nat → Nat → Int → Int → Int → Int → Heap → Prop) : Nat → (Option Addr) → Nat → Nat → Int → Int → Int → Int → Heap → KK → Prop
  | 0, _, _, _, _, _, _, _, _, _ => False
  | n + 1, x0p, x0l, x0c, x1, x2, x7, x8, h, K => JL5 (fun x0p x0l x0c x1 x2 x7 x8 h => wL5 bk3 n x0p x0l x0c x1 x2 x7 x8 h K) (fun x0p x0l x0c x1 x2 x7 x8 h => wk7 bk3 x0p x0l x0c x1 x2 x7 x8 h K) x0p x0l x0c x1 x2 x7 x8 h K
theorem eL5 (K : KK) (n3 : Nat) (bk3 : (Option Addr) → Nat → Nat → Int → Int → Int → Int → Heap → Prop) (hb3 : ∀ (x0p : Option Addr) (x0l x0c : Nat) (x1 x2 x7 x8 : Int) (h : Heap), (ln S0 [1, 1, 0, 1, 0, 0] (c1 S0 K) n3 (f3 x0p x0l x0c x1 x2 x7 x8) h) = bk3 x0p x0l x0c x1 x2 x7 x8 h) : ∀ (n : Nat) (x0p : Option Addr) (x0l x0c : Nat) (x1 x2 x7 x8 : Int) (h : Heap), (ln S0 [1, 1, 0, 1, 0, 0, 1, 0, 0, 0, 0, 0] (c6 S0 n3 K) n (f5 x0p x0l x0c x1 x2 x7 x8) h) = wL5 bk3 n x0p x0l x0c x1 x2 x7 x8 h K
  | 0, _, _, _, _, _, _, _, _ => rfl
  | n + 1, x0p, x0l, x0c, x1, x2, x7, x8, h => (EL5 S0 n3 n x0p x0l x0c x1 x2 x7 x8 h K).trans (cg2 (fun q0 q1 => JL5 q0 q1 x0p x0l x0c x1 x2 x7 x8 h K) (by funext x0p x0l x0c x1 x2 x7 x8 h; exact (fun x0p x0l x0c x1 x2 x7 x8 h => eL5 K n3 bk3 hb3 n x0p x0l x0c x1 x2 x7 x8 h) x0p x0l x0c x1 x2 x7 x8 h) (by funext x0p x0l x0c x1 x2 x7 x8 h; exact ek7 K n3 bk3 hb3 x0p x0l x0c x1 x2 x7 x8 h))
def wk5 (bk3 : (Option Addr) → Nat → Nat → Int → Int → Int → Int → Heap → Prop) (x0p : Option Addr) (x0l x0c : Nat) (x1 x2 x7 x8 : Int) (h : Heap) (K : KK) : Prop :=
  Jk5 (fun x0p x0l x0c x1 x2 x7 x8 h => ∃ m, wL5 bk3 m x0p x0l x0c x1 x2 x7 x8 h K) x0p x0l x0c x1 x2 x7 x8 h K
theorem ek5 (K : KK) (n3 : Nat) (bk3 : (Option Addr) → Nat → Nat → Int → Int → Int → Int → Heap → Prop) (hb3 : ∀ (x0p : Option Addr) (x0l x0c : Nat) (x1 x2 x7 x8 : Int) (h : Heap), (ln S0 [1, 1, 0, 1, 0, 0] (c1 S0 K) n3 (f3 x0p x0l x0c x1 x2 x7 x8) h) = bk3 x0p x0l x0c x1 x2 x7 x8 h) (x0p : Option Addr) (x0l x0c : Nat) (x1 x2 x7 x8 : Int) (h : Heap) : (en S0 [1, 1, 0, 1, 0, 0, 1] (c2 S0 n3 K) (f5 x0p x0l x0c x1 x2 x7 x8) h) = wk5 bk3 x0p x0l x0c x1 x2 x7 x8 h K := (Ek5 S0 n3 x0p x0l x0c x1 x2 x7 x8 h K).trans (cg1 (fun q0 => Jk5 q0 x0p x0l x0c x1 x2 x7 x8 h K) (by funext x0p x0l x0c x1 x2 x7 x8 h; exact ex_congr fun m => eL5 K n3 bk3 hb3 m x0p x0l x0c x1 x2 x7 x8 h))
def wL3 : Nat → (Option Addr) → Nat → Nat → Int → Int → Int → Int → Heap → KK → Prop
  | 0, _, _, _, _, _, _, _, _, _ => False
  | n + 1, x0p, x0l, x0c, x1, x2, x7, x8, h, K => JL3 (fun x0p x0l x0c x1 x2 x7 x8 h => wk5 (fun x0p x0l x0c x1 x2 x7 x8 h => wL3 n x0p x0l x0c x1 x2 x7 x8 h K) x0p x0l x0c x1 x2 x7 x8 h K) x0p x0l x0c x1 x2 x7 x8 h K
theorem eL3 (K : KK) : ∀ (n : Nat) (x0p : Option Addr) (x0l x0c : Nat) (x1 x2 x7 x8 : Int) (h : Heap), (ln S0 [1, 1, 0, 1, 0, 0] (c1 S0 K) n (f3 x0p x0l x0c x1 x2 x7 x8) h) = wL3 n x0p x0l x0c x1 x2 x7 x8 h K
  | 0, _, _, _, _, _, _, _, _ => rfl
  | n + 1, x0p, x0l, x0c, x1, x2, x7, x8, h => (EL3 S0 n x0p x0l x0c x1 x2 x7 x8 h K).trans (cg1 (fun q0 => JL3 q0 x0p x0l x0c x1 x2 x7 x8 h K) (by funext x0p x0l x0c x1 x2 x7 x8 h; exact ek5 K n (fun x0p x0l x0c x1 x2 x7 x8 h => wL3 n x0p x0l x0c x1 x2 x7 x8 h K) (fun x0p x0l x0c x1 x2 x7 x8 h => eL3 K n x0p x0l x0c x1 x2 x7 x8 h) x0p x0l x0c x1 x2 x7 x8 h))
def wk3 (x0p : Option Addr) (x0l x0c : Nat) (x1 x2 x7 x8 : Int) (h : Heap) (K : KK) : Prop :=
  Jk3 (fun x0p x0l x0c x1 x2 x7 x8 h => ∃ m, wL3 m x0p x0l x0c x1 x2 x7 x8 h K) x0p x0l x0c x1 x2 x7 x8 h K
theorem ek3 (K : KK) (x0p : Option Addr) (x0l x0c : Nat) (x1 x2 x7 x8 : Int) (h : Heap) : (en S0 [1, 1, 0, 1] (c0 S0 K) (f3 x0p x0l x0c x1 x2 x7 x8) h) = wk3 x0p x0l x0c x1 x2 x7 x8 h K := (Ek3 S0 x0p x0l x0c x1 x2 x7 x8 h K).trans (cg1 (fun q0 => Jk3 q0 x0p x0l x0c x1 x2 x7 x8 h K) (by funext x0p x0l x0c x1 x2 x7 x8 h; exact ex_congr fun m => eL3 K m x0p x0l x0c x1 x2 x7 x8 h))
def w (x0p : Option Addr) (x0l x0c : Nat) (x1 x2 : Int) (h : Heap) (K : KK) : Prop :=
  J0 (fun x0p x0l x0c x1 x2 x7 x8 h => wk3 x0p x0l x0c x1 x2 x7 x8 h K) x0p x0l x0c x1 x2 h K
theorem e0 (K : KK) (x0p : Option Addr) (x0l x0c : Nat) (x1 x2 : Int) (h : Heap) : (E Tryz.prog X T S0 body (fin Tryz.prog Tryz.f101.results.toList K) (args0 0 [(.slice x0p x0l x0c), (.int .i64 x1), (.int .i64 x2)]) h) = w x0p x0l x0c x1 x2 h K := (E0 S0 x0p x0l x0c x1 x2 h K).trans (cg1 (fun q0 => J0 q0 x0p x0l x0c x1 x2 h K) (by funext x0p x0l x0c x1 x2 x7 x8 h; exact ek3 K x0p x0l x0c x1 x2 x7 x8 h))
theorem hb : Tryz.f101.body = some body := by kernel_rfl
theorem ok : okCode T Tryz.f101.ntmps body = true := by kernel_rfl
theorem spec (x0p : Option Addr) (x0l : Nat) (x0c : Nat) (x1 : Int) (x2 : Int) (h : Heap) (K : KK) (H : w x0p x0l x0c x1 x2 h K) : CallsH Tryz.prog 101 [(.slice x0p x0l x0c), (.int .i64 x1), (.int .i64 x2)] h K :=
  calls_of_E (T := T) Xok mix Tryz.func101 hb ok rfl (by rw [e0]; exact H)
end F101
-- slices.partitionEqualOrdered[uint8]
namespace F102
def T : Hint := ⟨[(3, [0, 1, 9, 10]), (5, [0, 1, 9, 10]), (7, [0, 1, 9, 10])], [(1, [[(0, []), (1, []), (2, []), (3, []), (4, []), (5, []), (6, []), (7, []), (8, []), (9, []), (10, []), (11, []), (12, []), (13, [2, 3]), (14, []), (15, [])]]), (3, [[(0, []), (1, []), (2, []), (3, []), (4, []), (5, []), (6, []), (7, []), (8, []), (9, []), (10, []), (11, []), (12, []), (13, []), (14, [])]]), (5, [[(0, []), (1, []), (2, []), (3, []), (4, []), (5, []), (6, []), (7, []), (8, []), (9, []), (10, []), (11, []), (12, []), (13, [])]]), (8, [[(0, []), (1, []), (2, []), (3, []), (4, []), (5, []), (6, []), (7, []), (8, []), (9, []), (10, []), (11, []), (12, []), (13, [2, 3]), (14, []), (15, [])]])]⟩
noncomputable def body : Code := (Tryz.f102.body).getD .skip
noncomputable def en (S : Stop) (p : List Nat) (κ : XK) : Fr → Heap → Prop := E Tryz.prog X T S (sub body p) κ
noncomputable def ln (S : Stop) (p : List Nat) (κ : XK) (n : Nat) : Fr → Heap → Prop := loopN S (E Tryz.prog X T S (sub body p)) (cutQ T (sub body p)) κ n
def fn (K : KK) : XK := fin Tryz.prog Tryz.f102.results.toList K
noncomputable def c0 (S : Stop) (K : KK) : XK := seqN S (cutQ T (sub body [1, 1, 1, 1])) (en S [1, 1, 1, 1] (fn K)) (fn K)
noncomputable def c1 (S : Stop) (K : KK) : XK := blockN 0 (c0 S K)
noncomputable def c2 (S : Stop) (n3 : Nat) (K : KK) : XK := backN S (cutQ T (sub body [1, 1, 1, 0, 0, 0])) (ln S [1, 1, 1, 0, 0, 0] (c1 S K) n3) (c1 S K)
noncomputable def c3 (S : Stop) (n3 : Nat) (K : KK) : XK := blockN 1 (c2 S n3 K)
noncomputable def c4 (S : Stop) (n3 : Nat) (K : KK) : XK := seqN S (cutQ T (sub body [1, 1, 1, 0, 0, 0, 0, 1])) (en S [1, 1, 1, 0, 0, 0, 0, 1] (c3 S n3 K)) (c3 S n3 K)
noncomputable def c5 (S : Stop) (n3 : Nat) (K : KK) : XK := blockN 2 (c4 S n3 K)
noncomputable def c6 (S : Stop) (n3 : Nat) (n1003 : Nat) (K : KK) : XK := backN S (cutQ T (sub body [1, 1, 1, 0, 0, 0, 0, 0, 0, 0])) (ln S [1, 1, 1, 0, 0, 0, 0, 0, 0, 0] (c5 S n3 K) n1003) (c5 S n3 K)
noncomputable def c7 (S : Stop) (n3 : Nat) (K : KK) : XK := seqN S (cutQ T (sub body [1, 1, 1, 0, 0, 0, 0, 1, 1])) (en S [1, 1, 1, 0, 0, 0, 0, 1, 1] (c3 S n3 K)) (c3 S n3 K)
noncomputable def c8 (S : Stop) (n3 : Nat) (K : KK) : XK := blockN 4 (c7 S n3 K)
noncomputable def c9 (S : Stop) (n3 : Nat) (n5 : Nat) (K : KK) : XK := backN S (cutQ T (sub body [1, 1, 1, 0, 0, 0, 0, 1, 0, 0, 0])) (ln S [1, 1, 1, 0, 0, 0, 0, 1, 0, 0, 0] (c8 S n3 K) n5) (c8 S n3 K)
def f3 (x0p : Option Addr) (x0l x0c : Nat) (x1 x9 x10 : Int) : Fr := [(0, (.slice x0p x0l x0c)), (1, (.int .i64 x1)), (9, (.int .i64 x9)), (10, (.int .i64 x10))]
def f5 (x0p : Option Addr) (x0l x0c : Nat) (x1 x9 x10 : Int) : Fr := [(0, (.slice x0p x0l x0c)), (1, (.int .i64 x1)), (9, (.int .i64 x9)), (10, (.int .i64 x10))]
def f7 (x0p : Option Addr) (x0l x0c : Nat) (x1 x9 x10 : Int) : Fr := [(0, (.slice x0p x0l x0c)), (1, (.int .i64 x1)), (9, (.int .i64 x9)), (10, (.int .i64 x10))]
def J0 (k3 : (Option Addr) → Nat → Nat → Int → Int → Int → Heap → Prop) (x0p : Option Addr) (x0l x0c : Nat) (x1 x2 x3 : Int) (h : Heap) (_K : KK) : Prop :=
  ptrK x0p (fun a1 => (0 ≤ x3 ∧ x3 < (Nat.cast x0l : Int) ∧ ldI .u8 (rd h (Addr.add a1 (Int.toNat x3 * 1))) (fun n2 => ptrK x0p (fun a3 => (0 ≤ x1 ∧ x1 < (Nat.cast x0l : Int) ∧ ldI .u8 (rd h (Addr.add a3 (Int.toNat x1 * 1))) (fun n4 => ptrK x0p (fun a5 => (0 ≤ x1 ∧ x1 < (Nat.cast x0l : Int) ∧ stK h (Addr.add (Addr.add a5 (Int.toNat x1 * 1)) 0) (.int .u8 n2) (fun h6 => ((.slice x0p x0l x0c) = ((.slice x0p x0l x0c) : Value) ∧ ((.int .i64 x3) = ((.int .i64 x3) : Value) ∧ ptrK x0p (fun a7 => (0 ≤ x3 ∧ x3 < (Nat.cast x0l : Int) ∧ stK h6 (Addr.add (Addr.add a7 (Int.toNat x3 * 1)) 0) (.int .u8 n4) (fun h8 => k3 x0p x0l x0c x1 (IntKind.wrap .i64 (x1 + (1 : Int))) (IntKind.wrap .i64 (x2 - (1 : Int))) h8))))))))))))))
theorem E0 (S : Stop) (x0p : Option Addr) (x0l x0c : Nat) (x1 x2 x3 : Int) (h : Heap) (K : KK) : (E Tryz.prog X T S body (fin Tryz.prog Tryz.f102.results.toList K) (args0 0 [(.slice x0p x0l x0c), (.int .i64 x1), (.int .i64 x2), (.int .i64 x3)]) h) = J0 (fun x0p x0l x0c x1 x9 x10 h => S (en S [1, 1, 1] (fn K)) (f3 x0p x0l x0c x1 x9 x10) h) x0p x0l x0c x1 x2 x3 h K := by kernel_rfl
def Jk3 (lp3 : (Option Addr) → Nat → Nat → Int → Int → Int → Heap → Prop) (x0p : Option Addr) (x0l x0c : Nat) (x1 x9 x10 : Int) (h : Heap) (_K : KK) : Prop :=
  lp3 x0p x0l x0c x1 x9 x10 h
theorem Ek3 (S : Stop) (x0p : Option Addr) (x0l x0c : Nat) (x1 x9 x10 : Int) (h : Heap) (K : KK) : (en S [1, 1, 1] (fn K) (f3 x0p x0l x0c x1 x9 x10) h) = Jk3 (fun x0p x0l x0c x1 x9 x10 h => ∃ n, S (ln S [1, 1, 1, 0, 0, 0] (c1 S K) n) (f3 x0p x0l x0c x1 x9 x10) h) x0p x0l x0c x1 x9 x10 h K := by kernel_rfl
def JL3 (lp1003 : (Option Addr) → Nat → Nat → Int → Int → Int → Heap → Prop) (x0p : Option Addr) (x0l x0c : Nat) (x1 x9 x10 : Int) (h : Heap) (_K : KK) : Prop :=
  lp1003 x0p x0l x0c x1 x9 x10 h
theorem EL3 (S : Stop) (n3 : Nat) (x0p : Option Addr) (x0l x0c : Nat) (x1 x9 x10 : Int) (h : Heap) (K : KK) : (en S [1, 1, 1, 0, 0, 0] (c2 S n3 K) (f3 x0p x0l x0c x1 x9 x10) h) = JL3 (fun x0p x0l x0c x1 x9 x10 h => ∃ n, S (ln S [1, 1, 1, 0, 0, 0, 0, 0, 0, 0] (c5 S n3 K) n) (f3 x0p x0l x0c x1 x9 x10) h) x0p x0l x0c x1 x9 x10 h K := by kernel_rfl
def JL1003 (bk1003 : (Option Addr) → Nat → Nat → Int → Int → Int → Heap → Prop) (k5 : (Option Addr) → Nat → Nat → Int → Int → Int → Heap → Prop) (x0p : Option Addr) (x0l x0c : Nat) (x1 x9 x10 : Int) (h : Heap) (_K : KK) : Prop :=
  bcase (decide (x9 ≤ x10)) (ptrK x0p (fun a1 => (0 ≤ x1 ∧ x1 < (Nat.cast x0l : Int) ∧ ldI .u8 (rd h (Addr.add a1 (Int.toNat x1 * 1))) (fun n2 => ptrK x0p (fun a3 => (0 ≤ x9 ∧ x9 < (Nat.cast x0l : Int) ∧ ldI .u8 (rd h (Addr.add a3 (Int.toNat x9 * 1))) (fun n4 => CallsH Tryz.prog 66 [(.int .u8 n2), (.int .u8 n4)] h (fun v5 h6 => ldB (some v5) (fun b7 => bcase (!b7) (bk1003 x0p x0l x0c x1 (IntKind.wrap .i64 (x9 + (1 : Int))) x10 h6) (k5 x0p x0l x0c x1 x9 x10 h6)))))))))) (k5 x0p x0l x0c x1 x9 x10 h)
theorem EL1003 (S : Stop) (n3 : Nat) (n1003 : Nat) (x0p : Option Addr) (x0l x0c : Nat) (x1 x9 x10 : Int) (h : Heap) (K : KK) : (en S [1, 1, 1, 0, 0, 0, 0, 0, 0, 0] (c6 S n3 n1003 K) (f3 x0p x0l x0c x1 x9 x10) h) = JL1003 (fun x0p x0l x0c x1 x9 x10 h => S (ln S [1, 1, 1, 0, 0, 0, 0, 0, 0, 0] (c5 S n3 K) n1003) (f3 x0p x0l x0c x1 x9 x10) h) (fun x0p x0l x0c x1 x9 x10 h => S (en S [1, 1, 1, 0, 0, 0, 0, 1] (c3 S n3 K)) (f5 x0p x0l x0c x1 x9 x10) h) x0p x0l x0c x1 x9 x10 h K := by kernel_rfl
def Jk5 (lp5 : (Option Addr) → Nat → Nat → Int → Int → Int → Heap → Prop) (x0p : Option Addr) (x0l x0c : Nat) (x1 x9 x10 : Int) (h : Heap) (_K : KK) : Prop :=
  lp5 x0p x0l x0c x1 x9 x10 h
theorem Ek5 (S : Stop) (n3 : Nat) (x0p : Option Addr) (x0l x0c : Nat) (x1 x9 x10 : Int) (h : Heap) (K : KK) : (en S [1, 1, 1, 0, 0, 0, 0, 1] (c3 S n3 K) (f5 x0p x0l x0c x1 x9 x10) h) = Jk5 (fun x0p x0l x0c x1 x9 x10 h => ∃ n, S (ln S [1, 1, 1, 0, 0, 0, 0, 1, 0, 0, 0] (c8 S n3 K) n) (f5 x0p x0l x0c x1 x9 x10) h) x0p x0l x0c x1 x9 x10 h K := by kernel_rfl
def JL5 (bk5 : (Option Addr) → Nat → Nat → Int → Int → Int → Heap → Prop) (k7 : (Option Addr) → Nat → Nat → Int → Int → Int → Heap → Prop) (x0p : Option Addr) (x0l x0c : Nat) (x1 x9 x10 : Int) (h : Heap) (_K : KK) : Prop :=
  bcase (decide (x9 ≤ x10)) (ptrK x0p (fun a1 => (0 ≤ x1 ∧ x1 < (Nat.cast x0l : Int) ∧ ldI .u8 (rd h (Addr.add a1 (Int.toNat x1 * 1))) (fun n2 => ptrK x0p (fun a3 => (0 ≤ x10 ∧ x10 < (Nat.cast x0l : Int) ∧ ldI .u8 (rd h (Addr.add a3 (Int.toNat x10 * 1))) (fun n4 => CallsH Tryz.prog 66 [(.int .u8 n2), (.int .u8 n4)] h (fun v5 h6 => ldB (some v5) (fun b7 => bcase b7 (bk5 x0p x0l x0c x1 x9 (IntKind.wrap .i64 (x10 - (1 : Int))) h6) (k7 x0p x0l x0c x1 x9 x10 h6)))))))))) (k7 x0p x0l x0c x1 x9 x10 h)
theorem EL5 (S : Stop) (n3 : Nat) (n5 : Nat) (x0p : Option Addr) (x0l x0c : Nat) (x1 x9 x10 : Int) (h : Heap) (K : KK) : (en S [1, 1, 1, 0, 0, 0, 0, 1, 0, 0, 0] (c9 S n3 n5 K) (f5 x0p x0l x0c x1 x9 x10) h) = JL5 (fun x0p x0l x0c x1 x9 x10 h => S (ln S [1, 1, 1, 0, 0, 0, 0, 1, 0, 0, 0] (c8 S n3 K) n5) (f5 x0p x0l x0c x1 x9 x10) h) (fun x0p x0l x0c x1 x9 x10 h => S (en S [1, 1, 1, 0, 0, 0, 0, 1, 1] (c3 S n3 K)) (f7 x0p x0l x0c x1 x9 x10) h) x0p x0l x0c x1 x9 x10 h K := by kernel_rfl
def Jk7 (bk3 : (Option Addr) → Nat → Nat → Int → Int → Int → Heap → Prop) (x0p : Option Addr) (x0l x0c : Nat) (x1 x9 x10 : Int) (h : Heap) (K : KK) : Prop :=
  bcase (decide (x9 > x10)) (K (.int .i64 x9) h) (ptrK x0p (fun a1 => (0 ≤ x10 ∧ x10 < (Nat.cast x0l : Int) ∧ ldI .u8 (rd h (Addr.add a1 (Int.toNat x10 * 1))) (fun n2 => ptrK x0p (fun a3 => (0 ≤ x9 ∧ x9 < (Nat.cast x0l : Int) ∧ ldI .u8 (rd h (Addr.add a3 (Int.toNat x9 * 1))) (fun n4 => ptrK x0p (fun a5 => (0 ≤ x9 ∧ x9 < (Nat.cast x0l : Int) ∧ stK h (Addr.add (Addr.add a5 (Int.toNat x9 * 1)) 0) (.int .u8 n2) (fun h6 => ((.slice x0p x0l x0c) = ((.slice x0p x0l x0c) : Value) ∧ ((.int .i64 x10) = ((.int .i64 x10) : Value) ∧ ptrK x0p (fun a7 => (0 ≤ x10 ∧ x10 < (Nat.cast x0l : Int) ∧ stK h6 (Addr.add (Addr.add a7 (Int.toNat x10 * 1)) 0) (.int .u8 n4) (fun h8 => bk3 x0p x0l x0c x1 (IntKind.wrap .i64 (x9 + (1 : Int))) (IntKind.wrap .i64 (x10 - (1 : Int))) h8)))))))))))))))
theorem Ek7 (S : Stop) (n3 : Nat) (x0p : Option Addr) (x0l x0c : Nat) (x1 x9 x10 : Int) (h : Heap) (K : KK) : (en S [1, 1, 1, 0, 0, 0, 0, 1, 1] (c3 S n3 K) (f7 x0p x0l x0c x1 x9 x10) h) = Jk7 (fun x0p x0l x0c x1 x9 x10 h => S (ln S [1, 1, 1, 0, 0, 0] (c1 S K) n3) (f3 x0p x0l x0c x1 x9 x10) h) x0p x0l x0c x1 x9 x10 h K := by kernel_rfl
def wk7 (bk3 : (Option Addr) → Nat → Nat → Int → Int → Int → Heap → Prop) (x0p : Option Addr) (x0l x0c : Nat) (x1 x9 x10 : Int) (h : Heap) (K : KK) : Prop :=
  Jk7 bk3 x0p x0l x0c x1 x9 x10 h K
theorem ek7 (K : KK) (n3 : Nat) (bk3 : (Option Addr) → Nat → Nat → Int → Int → Int → Heap → Prop) (hb3 : ∀ (x0p : Option Addr) (x0l x0c : Nat) (x1 x9 x10 : Int) (h : Heap), (ln S0 [1, 1, 1, 0, 0, 0] (c1 S0 K) n3 (f3 x0p x0l x0c x1 x9 x10) h) = bk3 x0p x0l x0c x1 x9 x10 h) (x0p : Option Addr) (x0l x0c : Nat) (x1 x9 x10 : Int) (h : Heap) : (en S0 [1, 1, 1, 0, 0, 0, 0, 1, 1] (c3 S0 n3 K) (f7 x0p x0l x0c x1 x9 x10) h) = wk7 bk3 x0p x0l x0c x1 x9 x10 h K := (Ek7 S0 n3 x0p x0l x0c x1 x9 x10 h K).trans (cg1 (fun q0 => Jk7 q0 x0p x0l x0c x1 x9 x10 h K) (by funext x0p x0l x0c x1 x9 x10 h; exact hb3 x0p x0l x0c x1 x9 x10 h))
def wL5 (bk3 : (Option Addr) → Nat → Nat → Int → Int → Int → Heap → Prop) : Nat → (Option Addr) → Nat → Nat → Int → Int → Int → Heap → KK → Prop
  | 0, _, _, _, _, _, _, _, _ => False
  | n + 1, x0p, x0l, x0c, x1, x9, x10, h, K => JL5 (fun x0p x0l x0c x1 x9 x10 h => wL5 bk3 n x0p x0l x0c x1 x9 x10 h K) (fun x0p x0l x0c x1 x9 x10 h => wk7 bk3 x0p x0l x0c x1 x9 x10 h K) x0p x0l x0c x1 x9 x10 h K
theorem eL5 (K : KK) (n3 : Nat) (bk3 : (Option Addr) → Nat → Nat → Int → Int → Int → Heap → Prop) (hb3 : ∀ (x0p : Option Addr) (x0l x0c : Nat) (x1 x9 x10 : Int) (h : Heap), (ln S0 [1, 1, 1, 0, 0, 0] (c1 S0 K) n3 (f3 x0p x0l x0c x1 x9 x10) h) = bk3 x0p x0l x0c x1 x9 x10 h) : ∀ (n : Nat) (x0p : Option Addr) (x0l x0c : Nat) (x1 x9 x10 : Int) (h : Heap), (ln S0 [1, 1, 1, 0, 0, 0, 0, 1, 0, 0, 0] (c8 S0 n3 K) n (f5 x0p x0l x0c x1 x9 x10) h) = wL5 bk3 n x0p x0l x0c x1 x9 x10 h K
  | 0, _, _, _, _, _, _, _ => rfl
  | n + 1, x0p, x0l, x0c, x1, x9, x10, h => (EL5 S0 n3 n x0p x0l x0c x1 x9 x10 h K).trans (cg2 (fun q0 q1 => JL5 q0 q1 x0p x0l x0c x1 x9 x10 h K) (by funext x0p x0l x0c x1 x9 x10 h; exact (fun x0p x0l x0c x1 x9 x10 h => eL5 K n3 bk3 hb3 n x0p x0l x0c x1 x9 x10 h) x0p x0l x0c x1 x9 x10 h) (by funext x0p x0l x0c x1 x9 x10 h; exact ek7 K n3 bk3 hb3 x0p x0l x0c x1 x9 x10 h))
def wk5 (bk3 : (Option Addr) → Nat → Nat → Int → Int → Int → Heap → Prop) (x0p : Option Addr) (x0l x0c : Nat) (x1 x9 x10 : Int) (h : Heap) (K : KK) : Prop :=
  Jk5 (fun x0p x0l x0c x1 x9 x10 h => ∃ m, wL5 bk3 m x0p x0l x0c x1 x9 x10 h K) x0p x0l x0c x1 x9 x10 h K
theorem ek5 (K : KK) (n3 : Nat) (bk3 : (Option Addr) → Nat → Nat → Int → Int → Int → Heap → Prop) (hb3 : ∀ (x0p : Option Addr) (x0l x0c : Nat) (x1 x9 x10 : Int) (h : Heap), (ln S0 [1, 1, 1, 0, 0, 0] (c1 S0 K) n3 (f3 x0p x0l x0c x1 x9 x10) h) = bk3 x0p x0l x0c x1 x9 x10 h) (x0p : Option Addr) (x0l x0c : Nat) (x1 x9 x10 : Int) (h : Heap) : (en S0 [1, 1, 1, 0, 0, 0, 0, 1] (c3 S0 n3 K) (f5 x0p x0l x0c x1 x9 x10) h) = wk5 bk3 x0p x0l x0c x1 x9 x10 h K := (Ek5 S0 n3 x0p x0l x0c x1 x9 x10 h K).trans (cg1 (fun q0 => Jk5 q0 x0p x0l x0c x1 x9 x10 h K) (by funext x0p x0l x0c x1 x9 x10 h; exact ex_congr fun m => eL5 K n3 bk3 hb3 m x0p x0l x0c x1 x9 x10 h))
def wL1003 (bk3 : (Option Addr) → Nat → Nat → Int → Int → Int → Heap → Prop) : Nat → (Option Addr) → Nat → Nat → Int → Int → Int → Heap → KK → Prop
  | 0, _, _, _, _, _, _, _, _ => False
  | n + 1, x0p, x0l, x0c, x1, x9, x10, h, K => JL1003 (fun x0p x0l x0c x1 x9 x10 h => wL1003 bk3 n x0p x0l x0c x1 x9 x10 h K) (fun x0p x0l x0c x1 x9 x10 h => wk5 bk3 x0p x0l x0c x1 x9 x10 h K) x0p x0l x0c x1 x9 x10 h K
theorem eL1003 (K : KK) (n3 : Nat) (bk3 : (Option Addr) → Nat → Nat → Int → Int → Int → Heap → Prop) (hb3 : ∀ (x0p : Option Addr) (x0l x0c : Nat) (x1 x9 x10 : Int) (h : Heap), (ln S0 [1, 1, 1, 0, 0, 0] (c1 S0 K) n3 (f3 x0p x0l x0c x1 x9 x10) h) = bk3 x0p x0l x0c x1 x9 x10 h) : ∀ (n : Nat) (x0p : Option Addr) (x0l x0c : Nat) (x1 x9 x10 : Int) (h : Heap), (ln S0 [1, 1, 1, 0, 0, 0, 0, 0, 0, 0] (c5 S0 n3 K) n (f3 x0p x0l x0c x1 x9 x10) h) = wL1003 bk3 n x0p x0l x0c x1 x9 x10 h K
  | 0, _, _, _, _, _, _, _ => rfl
  | n + 1, x0p, x0l, x0c, x1, x9, x10, h => (EL1003 S0 n3 n x0p x0l x0c x1 x9 x10 h K).trans (cg2 (fun q0 q1 => JL1003 q0 q1 x0p x0l x0c x1 x9 x10 h K) (by funext x0p x0l x0c x1 x9 x10 h; exact (fun x0p x0l x0c x1 x9 x10 h => eL1003 K n3 bk3 hb3 n x0p x0l x0c x1 x9 x10 h) x0p x0l x0c x1 x9 x10 h) (by funext x0p x0l x0c x1 x9 x10 h; exact ek5 K n3 bk3 hb3 x0p x0l x0c x1 x9 x10 h))
def wL3 : Nat → (Option Addr) → Nat → Nat → Int → Int → Int → Heap → KK → Prop
  | 0, _, _, _, _, _, _, _, _ => False
  | n + 1, x0p, x0l, x0c, x1, x9, x10, h, K => JL3 (fun x0p x0l x0c x1 x9 x10 h => ∃ m, wL1003 (fun x0p x0l x0c x1 x9 x10 h => wL3 n x0p x0l x0c x1 x9 x10 h K) m x0p x0l x0c x1 x9 x10 h K) x0p x0l x0c x1 x9 x10 h K
theorem eL3 (K : KK) : ∀ (n : Nat) (x0p : Option Addr) (x0l x0c : Nat) (x1 x9 x10 : Int) (h : Heap), (ln S0 [1, 1, 1, 0, 0, 0] (c1 S0 K) n (f3 x0p x0l x0c x1 x9 x10) h) = wL3 n x0p x0l x0c x1 x9 x10 h K
  | 0, _, _, _, _, _, _, _ => rfl
  | n + 1, x0p, x0l, x0c, x1, x9, x10, h => (EL3 S0 n x0p x0l x0c x1 x9 x10 h K).trans (cg1 (fun q0 => JL3 q0 x0p x0l x0c x1 x9 x10 h K) (by funext x0p x0l x0c x1 x9 x10 h; exact ex_congr fun m => eL1003 K n (fun x0p x0l x0c x1 x9 x10 h => wL3 n x0p x0l x0c x1 x9 x10 h K) (fun x0p x0l x0c x1 x9 x10 h => eL3 K n x0p x0l x0c x1 x9 x10 h) m x0p x0l x0c x1 x9 x10 h))
def wk3 (x0p : Option Addr) (x0l x0c : Nat) (x1 x9 x10 : Int) (h : Heap) (K : KK) : Prop :=
  Jk3 (fun x0p x0l x0c x1 x9 x10 h => ∃ m, wL3 m x0p x0l x0c x1 x9 x10 h K) x0p x0l x0c x1 x9 x10 h K
theorem ek3 (K : KK) (x0p : Option Addr) (x0l x0c : Nat) (x1 x9 x10 : Int) (h : Heap) : (en S0 [1, 1, 1] (fn K) (f3 x0p x0l x0c x1 x9 x10) h) = wk3 x0p x0l x0c x1 x9 x10 h K := (Ek3 S0 x0p x0l x0c x1 x9 x10 h K).trans (cg1 (fun q0 => Jk3 q0 x0p x0l x0c x1 x9 x10 h K) (by funext x0p x0l x0c x1 x9 x10 h; exact ex_congr fun m => eL3 K m x0p x0l x0c x1 x9 x10 h))
def w (x0p : Option Addr) (x0l x0c : Nat) (x1 x2 x3 : Int) (h : Heap) (K : KK) : Prop :=
  J0 (fun x0p x0l x0c x1 x9 x10 h => wk3 x0p x0l x0c x1 x9 x10 h K) x0p x0l x0c x1 x2 x3 h K
theorem e0 (K : KK) (x0p : Option Addr) (x0l x0c : Nat) (x1 x2 x3 : Int) (h : Heap) : (E Tryz.prog X T S0 body (fin Tryz.prog Tryz.f102.results.toList K) (args0 0 [(.slice x0p x0l x0c), (.int .i64 x1), (.int .i64 x2), (.int .i64 x3)]) h) = w x0p x0l x0c x1 x2 x3 h K := (E0 S0 x0p x0l x0c x1 x2 x3 h K).trans (cg1 (fun q0 => J0 q0 x0p x0l x0c x1 x2 x3 h K) (by funext x0p x0l x0c x1 x9 x10 h; exact ek3 K x0p x0l x0c x1 x9 x10 h))
theorem hb : Tryz.f102.body = some body := by kernel_rfl
theorem ok : okCode T Tryz.f102.ntmps body = true := by kernel_rfl
theorem spec (x0p : Option Addr) (x0l : Nat) (x0c : Nat) (x1 : Int) (x2 : Int) (x3 : Int) (h : Heap) (K : KK) (H : w x0p x0l x0c x1 x2 x3 h K) : CallsH Tryz.prog 102 [(.slice x0p x0l x0c), (.int .i64 x1), (.int .i64 x2), (.int .i64 x3)] h K :=
  calls_of_E (T := T) Xok mix Tryz.func102 hb ok rfl (by rw [e0]; exact H)
end F102
-- slices.partitionOrdered[uint8]
namespace F103
def T : Hint := ⟨[(3, [0, 1, 10, 11]), (5, [0, 1, 10, 11]), (7, [0, 1, 10, 11]), (13, [0, 1, 10, 11]), (15, [0, 1, 10, 11]), (17, [0, 1, 10, 11]), (21, [0, 1, 11])], [(1, [[(0, []), (1, []), (2, []), (3, []), (4, []), (5, []), (6, []), (7, []), (8, []), (9, []), (10, []), (11, []), (12, []), (13, [2, 3]), (14, []), (15, [])]]), (3, [[(0, []), (1, []), (2, []), (3, []), (4, []), (5, []), (6, []), (7, []), (8, []), (9, []), (10, []), (11, []), (12, []), (13, [])]]), (5, [[(0, []), (1, []), (2, []), (3, []), (4, []), (5, []), (6, []), (7, []), (8, []), (9, []), (10, []), (11, []), (12, []), (13, []), (14, [])]]), (8, [[(0, []), (1, []), (2, []), (3, []), (4, []), (5, []), (6, []), (7, []), (8, []), (9, []), (10, []), (11, []), (12, []), (13, [2, 3]), (14, []), (15, [])]]), (10, [[(0, []), (1, []), (2, []), (3, []), (4, []), (5, []), (6, []), (7, []), (8, []), (9, []), (10, []), (11, []), (12, []), (13, [2, 3]), (14, []), (15, [])]]), (13, [[(0, []), (1, []), (2, []), (3, []), (4, []), (5, []), (6, []), (7, []), (8, []), (9, []), (10, []), (11, []), (12, []), (13, [])]]), (15, [[(0, []), (1, []), (2, []), (3, []), (4, []), (5, []), (6, []), (7, []), (8, []), (9, []), (10, []), (11, []), (12, []), (13, []), (14, [])]]), (18, [[(0, []), (1, []), (2, []), (3, []), (4, []), (5, []), (6, []), (7, []), (8, []), (9, []), (10, []), (11, []), (12, []), (13, [2, 3]), (14, []), (15, [])]]), (21, [[(0, []), (1, []), (2, []), (3, []), (4, []), (5, []), (6, []), (7, []), (8, []), (9, []), (10, []), (11, []), (12, []), (13, [2, 3]), (14, []), (15, [])]])]⟩
noncomputable def body : Code := (Tryz.f103.body).getD .skip
noncomputable def en (S : Stop) (p : List Nat) (κ : XK) : Fr → Heap → Prop := E Tryz.prog X T S (sub body p) κ
noncomputable def ln (S : Stop) (p : List Nat) (κ : XK) (n : Nat) : Fr → Heap → Prop := loopN S (E Tryz.prog X T S (sub body p)) (cutQ T (sub body p)) κ n
def fn (K : KK) : XK := fin Tryz.prog Tryz.f103.results.toList K
noncomputable def c0 (S : Stop) (K : KK) : XK := seqN S (cutQ T (sub body [1, 1, 1, 1])) (en S [1, 1, 1, 1] (fn K)) (fn K)
noncomputable def c1 (S : Stop) (K : KK) : XK := blockN 0 (c0 S K)
noncomputable def c2 (S : Stop) (n3 : Nat) (K : KK) : XK := backN S (cutQ T (sub body [1, 1, 1, 0, 0, 0])) (ln S [1, 1, 1, 0, 0, 0] (c1 S K) n3) (c1 S K)
noncomputable def c3 (S : Stop) (K : KK) : XK := seqN S (cutQ T (sub body [1, 1, 1, 1, 1])) (en S [1, 1, 1, 1, 1] (fn K)) (fn K)
noncomputable def c4 (S : Stop) (K : KK) : XK := blockN 2 (c3 S K)
noncomputable def c5 (S : Stop) (n5 : Nat) (K : KK) : XK := backN S (cutQ T (sub body [1, 1, 1, 1, 0, 0, 0])) (ln S [1, 1, 1, 1, 0, 0, 0] (c4 S K) n5) (c4 S K)
noncomputable def c6 (S : Stop) (K : KK) : XK := seqN S (cutQ T (sub body [1, 1, 1, 1, 1, 1, 1, 1, 1, 1])) (en S [1, 1, 1, 1, 1, 1, 1, 1, 1, 1] (fn K)) (fn K)
noncomputable def c7 (S : Stop) (K : KK) : XK := blockN 4 (c6 S K)
noncomputable def c8 (S : Stop) (n13 : Nat) (K : KK) : XK := backN S (cutQ T (sub body [1, 1, 1, 1, 1, 1, 1, 1, 1, 0, 0, 0])) (ln S [1, 1, 1, 1, 1, 1, 1, 1, 1, 0, 0, 0] (c7 S K) n13) (c7 S K)
noncomputable def c9 (S : Stop) (n13 : Nat) (K : KK) : XK := blockN 5 (c8 S n13 K)
noncomputable def c10 (S : Stop) (n13 : Nat) (K : KK) : XK := seqN S (cutQ T (sub body [1, 1, 1, 1, 1, 1, 1, 1, 1, 0, 0, 0, 0, 1])) (en S [1, 1, 1, 1, 1, 1, 1, 1, 1, 0, 0, 0, 0, 1] (c9 S n13 K)) (c9 S n13 K)
noncomputable def c11 (S : Stop) (n13 : Nat) (K : KK) : XK := blockN 6 (c10 S n13 K)
noncomputable def c12 (S : Stop) (n13 : Nat) (n1013 : Nat) (K : KK) : XK := backN S (cutQ T (sub body [1, 1, 1, 1, 1, 1, 1, 1, 1, 0, 0, 0, 0, 0, 0, 0])) (ln S [1, 1, 1, 1, 1, 1, 1, 1, 1, 0, 0, 0, 0, 0, 0, 0] (c11 S n13 K) n1013) (c11 S n13 K)
noncomputable def c13 (S : Stop) (n13 : Nat) (K : KK) : XK := seqN S (cutQ T (sub body [1, 1, 1, 1, 1, 1, 1, 1, 1, 0, 0, 0, 0, 1, 1])) (en S [1, 1, 1, 1, 1, 1, 1, 1, 1, 0, 0, 0, 0, 1, 1] (c9 S n13 K)) (c9 S n13 K)
noncomputable def c14 (S : Stop) (n13 : Nat) (K : KK) : XK := blockN 8 (c13 S n13 K)
noncomputable def c15 (S : Stop) (n13 : Nat) (n15 : Nat) (K : KK) : XK := backN S (cutQ T (sub body [1, 1, 1, 1, 1, 1, 1, 1, 1, 0, 0, 0, 0, 1, 0, 0, 0])) (ln S [1, 1, 1, 1, 1, 1, 1, 1, 1, 0, 0, 0, 0, 1, 0, 0, 0] (c14 S n13 K) n15) (c14 S n13 K)
def f3 (x0p : Option Addr) (x0l x0c : Nat) (x1 x10 x11 : Int) : Fr := [(0, (.slice x0p x0l x0c)), (1, (.int .i64 x1)), (10, (.int .i64 x10)), (11, (.int .i64 x11))]
def f5 (x0p : Option Addr) (x0l x0c : Nat) (x1 x10 x11 : Int) : Fr := [(0, (.slice x0p x0l x0c)), (1, (.int .i64 x1)), (10, (.int .i64 x10)), (11, (.int .i64 x11))]
def f7 (x0p : Option Addr) (x0l x0c : Nat) (x1 x10 x11 : Int) : Fr := [(0, (.slice x0p x0l x0c)), (1, (.int .i64 x1)), (10, (.int .i64 x10)), (11, (.int .i64 x11))]
def f13 (x0p : Option Addr) (x0l x0c : Nat) (x1 x10 x11 : Int) : Fr := [(0, (.slice x0p x0l x0c)), (1, (.int .i64 x1)), (10, (.int .i64 x10)), (11, (.int .i64 x11))]
def f15 (x0p : Option Addr) (x0l x0c : Nat) (x1 x10 x11 : Int) : Fr := [(0, (.slice x0p x0l x0c)), (1, (.int .i64 x1)), (10, (.int .i64 x10)), (11, (.int .i64 x11))]
def f17 (x0p : Option Addr) (x0l x0c : Nat) (x1 x10 x11 : Int) : Fr := [(0, (.slice x0p x0l x0c)), (1, (.int .i64 x1)), (10, (.int .i64 x10)), (11, (.int .i64 x11))]
def f21 (x0p : Option Addr) (x0l x0c : Nat) (x1 x11 : Int) : Fr := [(0, (.slice x0p x0l x0c)), (1, (.int .i64 x1)), (11, (.int .i64 x11))]
def J0 (k3 : (Option Addr) → Nat → Nat → Int → Int → Int → Heap → Prop) (x0p : Option Addr) (x0l x0c : Nat) (x1 x2 x3 : Int) (h : Heap) (_K : KK) : Prop :=
  ptrK x0p (fun a1 => (0 ≤ x3 ∧ x3 < (Nat.cast x0l : Int) ∧ ldI .u8 (rd h (Addr.add a1 (Int.toNat x3 * 1))) (fun n2 => ptrK x0p (fun a3 => (0 ≤ x1 ∧ x1 < (Nat.cast x0l : Int) ∧ ldI .u8 (rd h (Addr.add a3 (Int.toNat x1 * 1))) (fun n4 => ptrK x0p (fun a5 => (0 ≤ x1 ∧ x1 < (Nat.cast x0l : Int) ∧ stK h (Addr.add (Addr.add a5 (Int.toNat x1 * 1)) 0) (.int .u8 n2) (fun h6 => ((.slice x0p x0l x0c) = ((.slice x0p x0l x0c) : Value) ∧ ((.int .i64 x3) = ((.int .i64 x3) : Value) ∧ ptrK x0p (fun a7 => (0 ≤ x3 ∧ x3 < (Nat.cast x0l : Int) ∧ stK h6 (Addr.add (Addr.add a7 (Int.toNat x3 * 1)) 0) (.int .u8 n4) (fun h8 => k3 x0p x0l x0c x1 (IntKind.wrap .i64 (x1 + (1 : Int))) (IntKind.wrap .i64 (x2 - (1 : Int))) h8))))))))))))))
theorem E0 (S : Stop) (x0p : Option Addr) (x0l x0c : Nat) (x1 x2 x3 : Int) (h : Heap) (K : KK) : (E Tryz.prog X T S body (fin Tryz.prog Tryz.f103.results.toList K) (args0 0 [(.slice x0p x0l x0c), (.int .i64 x1), (.int .i64 x2), (.int .i64 x3)]) h) = J0 (fun x0p x0l x0c x1 x10 x11 h => S (en S [1, 1, 1] (fn K)) (f3 x0p x0l x0c x1 x10 x11) h) x0p x0l x0c x1 x2 x3 h K := by kernel_rfl
def Jk3 (lp3 : (Option Addr) → Nat → Nat → Int → Int → Int → Heap → Prop) (x0p : Option Addr) (x0l x0c : Nat) (x1 x10 x11 : Int) (h : Heap) (_K : KK) : Prop :=
  lp3 x0p x0l x0c x1 x10 x11 h
theorem Ek3 (S : Stop) (x0p : Option Addr) (x0l x0c : Nat) (x1 x10 x11 : Int) (h : Heap) (K : KK) : (en S [1, 1, 1] (fn K) (f3 x0p x0l x0c x1 x10 x11) h) = Jk3 (fun x0p x0l x0c x1 x10 x11 h => ∃ n, S (ln S [1, 1, 1, 0, 0, 0] (c1 S K) n) (f3 x0p x0l x0c x1 x10 x11) h) x0p x0l x0c x1 x10 x11 h K := by kernel_rfl
def JL3 (bk3 : (Option Addr) → Nat → Nat → Int → Int → Int → Heap → Prop) (k5 : (Option Addr) → Nat → Nat → Int → Int → Int → Heap → Prop) (x0p : Option Addr) (x0l x0c : Nat) (x1 x10 x11 : Int) (h : Heap) (_K : KK) : Prop :=
  bcase (decide (x10 ≤ x11)) (ptrK x0p (fun a1 => (0 ≤ x10 ∧ x10 < (Nat.cast x0l : Int) ∧ ldI .u8 (rd h (Addr.add a1 (Int.toNat x10 * 1))) (fun n2 => ptrK x0p (fun a3 => (0 ≤ x1 ∧ x1 < (Nat.cast x0l : Int) ∧ ldI .u8 (rd h (Addr.add a3 (Int.toNat x1 * 1))) (fun n4 => CallsH Tryz.prog 66 [(.int .u8 n2), (.int .u8 n4)] h (fun v5 h6 => ldB (some v5) (fun b7 => bcase b7 (bk3 x0p x0l x0c x1 (IntKind.wrap .i64 (x10 + (1 : Int))) x11 h6) (k5 x0p x0l x0c x1 x10 x11 h6)))))))))) (k5 x0p x0l x0c x1 x10 x11 h)
theorem EL3 (S : Stop) (n3 : Nat) (x0p : Option Addr) (x0l x0c : Nat) (x1 x10 x11 : Int) (h : Heap) (K : KK) : (en S [1, 1, 1, 0, 0, 0] (c2 S n3 K) (f3 x0p x0l x0c x1 x10 x11) h) = JL3 (fun x0p x0l x0c x1 x10 x11 h => S (ln S [1, 1, 1, 0, 0, 0] (c1 S K) n3) (f3 x0p x0l x0c x1 x10 x11) h) (fun x0p x0l x0c x1 x10 x11 h => S (en S [1, 1, 1, 1] (fn K)) (f5 x0p x0l x0c x1 x10 x11) h) x0p x0l x0c x1 x10 x11 h K := by kernel_rfl
def Jk5 (lp5 : (Option Addr) → Nat → Nat → Int → Int → Int → Heap → Prop) (x0p : Option Addr) (x0l x0c : Nat) (x1 x10 x11 : Int) (h : Heap) (_K : KK) : Prop :=
  lp5 x0p x0l x0c x1 x10 x11 h
theorem Ek5 (S : Stop) (x0p : Option Addr) (x0l x0c : Nat) (x1 x10 x11 : Int) (h : Heap) (K : KK) : (en S [1, 1, 1, 1] (fn K) (f5 x0p x0l x0c x1 x10 x11) h) = Jk5 (fun x0p x0l x0c x1 x10 x11 h => ∃ n, S (ln S [1, 1, 1, 1, 0, 0, 0] (c4 S K) n) (f5 x0p x0l x0c x1 x10 x11) h) x0p x0l x0c x1 x10 x11 h K := by kernel_rfl
def JL5 (bk5 : (Option Addr) → Nat → Nat → Int → Int → Int → Heap → Prop) (k7 : (Option Addr) → Nat → Nat → Int → Int → Int → Heap → Prop) (x0p : Option Addr) (x0l x0c : Nat) (x1 x10 x11 : Int) (h : Heap) (_K : KK) : Prop :=
  bcase (decide (x10 ≤ x11)) (ptrK x0p (fun a1 => (0 ≤ x11 ∧ x11 < (Nat.cast x0l : Int) ∧ ldI .u8 (rd h (Addr.add a1 (Int.toNat x11 * 1))) (fun n2 => ptrK x0p (fun a3 => (0 ≤ x1 ∧ x1 < (Nat.cast x0l : Int) ∧ ldI .u8 (rd h (Addr.add a3 (Int.toNat x1 * 1))) (fun n4 => CallsH Tryz.prog 66 [(.int .u8 n2), (.int .u8 n4)] h (fun v5 h6 => ldB (some v5) (fun b7 => bcase (!b7) (bk5 x0p x0l x0c x1 x10 (IntKind.wrap .i64 (x11 - (1 : Int))) h6) (k7 x0p x0l x0c x1 x10 x11 h6)))))))))) (k7 x0p x0l x0c x1 x10 x11 h)
theorem EL5 (S : Stop) (n5 : Nat) (x0p : Option Addr) (x0l x0c : Nat) (x1 x10 x11 : Int) (h : Heap) (K : KK) : (en S [1, 1, 1, 1, 0, 0, 0] (c5 S n5 K) (f5 x0p x0l x0c x1 x10 x11) h) = JL5 (fun x0p x0l x0c x1 x10 x11 h => S (ln S [1, 1, 1, 1, 0, 0, 0] (c4 S K) n5) (f5 x0p x0l x0c x1 x10 x11) h) (fun x0p x0l x0c x1 x10 x11 h => S (en S [1, 1, 1, 1, 1] (fn K)) (f7 x0p x0l x0c x1 x10 x11) h) x0p x0l x0c x1 x10 x11 h K := by kernel_rfl
def Jk7 (k13 : (Option Addr) → Nat → Nat → Int → Int → Int → Heap → Prop) (x0p : Option Addr) (x0l x0c : Nat) (x1 x10 x11 : Int) (h : Heap) (K : KK) : Prop :=
  bcase (decide (x10 > x11)) (ptrK x0p (fun a1 => (0 ≤ x1 ∧ x1 < (Nat.cast x0l : Int) ∧ ldI .u8 (rd h (Addr.add a1 (Int.toNat x1 * 1))) (fun n2 => ptrK x0p (fun a3 => (0 ≤ x11 ∧ x11 < (Nat.cast x0l : Int) ∧ ldI .u8 (rd h (Addr.add a3 (Int.toNat x11 * 1))) (fun n4 => ptrK x0p (fun a5 => (0 ≤ x11 ∧ x11 < (Nat.cast x0l : Int) ∧ stK h (Addr.add (Addr.add a5 (Int.toNat x11 * 1)) 0) (.int .u8 n2) (fun h6 => ((.slice x0p x0l x0c) = ((.slice x0p x0l x0c) : Value) ∧ ((.int .i64 x1) = ((.int .i64 x1) : Value) ∧ ptrK x0p (fun a7 => (0 ≤ x1 ∧ x1 < (Nat.cast x0l : Int) ∧ stK h6 (Addr.add (Addr.add a7 (Int.toNat x1 * 1)) 0) (.int .u8 n4) (fun h8 => K (.tuple #[(.int .i64 x11), (.bool true)]) h8))))))))))))))) (ptrK x0p (fun a9 => (0 ≤ x11 ∧ x11 < (Nat.cast x0l : Int) ∧ ldI .u8 (rd h (Addr.add a9 (Int.toNat x11 * 1))) (fun n10 => ptrK x0p (fun a11 => (0 ≤ x10 ∧ x10 < (Nat.cast x0l : Int) ∧ ldI .u8 (rd h (Addr.add a11 (Int.toNat x10 * 1))) (fun n12 => ptrK x0p (fun a13 => (0 ≤ x10 ∧ x10 < (Nat.cast x0l : Int) ∧ stK h (Addr.add (Addr.add a13 (Int.toNat x10 * 1)) 0) (.int .u8 n10) (fun h14 => ((.slice x0p x0l x0c) = ((.slice x0p x0l x0c) : Value) ∧ ((.int .i64 x11) = ((.int .i64 x11) : Value) ∧ ptrK x0p (fun a15 => (0 ≤ x11 ∧ x11 < (Nat.cast x0l : Int) ∧ stK h14 (Addr.add (Addr.add a15 (Int.toNat x11 * 1)) 0) (.int .u8 n12) (fun h16 => k13 x0p x0l x0c x1 (IntKind.wrap .i64 (x10 + (1 : Int))) (IntKind.wrap .i64 (x11 - (1 : Int))) h16)))))))))))))))
theorem Ek7 (S : Stop) (x0p : Option Addr) (x0l x0c : Nat) (x1 x10 x11 : Int) (h : Heap) (K : KK) : (en S [1, 1, 1, 1, 1] (fn K) (f7 x0p x0l x0c x1 x10 x11) h) = Jk7 (fun x0p x0l x0c x1 x10 x11 h => S (en S [1, 1, 1, 1, 1, 1, 1, 1, 1] (fn K)) (f13 x0p x0l x0c x1 x10 x11) h) x0p x0l x0c x1 x10 x11 h K := by kernel_rfl
def Jk13 (lp13 : (Option Addr) → Nat → Nat → Int → Int → Int → Heap → Prop) (x0p : Option Addr) (x0l x0c : Nat) (x1 x10 x11 : Int) (h : Heap) (_K : KK) : Prop :=
  lp13 x0p x0l x0c x1 x10 x11 h
theorem Ek13 (S : Stop) (x0p : Option Addr) (x0l x0c : Nat) (x1 x10 x11 : Int) (h : Heap) (K : KK) : (en S [1, 1, 1, 1, 1, 1, 1, 1, 1] (fn K) (f13 x0p x0l x0c x1 x10 x11) h) = Jk13 (fun x0p x0l x0c x1 x10 x11 h => ∃ n, S (ln S [1, 1, 1, 1, 1, 1, 1, 1, 1, 0, 0, 0] (c7 S K) n) (f13 x0p x0l x0c x1 x10 x11) h) x0p x0l x0c x1 x10 x11 h K := by kernel_rfl
def JL13 (lp1013 : (Option Addr) → Nat → Nat → Int → Int → Int → Heap → Prop) (x0p : Option Addr) (x0l x0c : Nat) (x1 x10 x11 : Int) (h : Heap) (_K : KK) : Prop :=
  lp1013 x0p x0l x0c x1 x10 x11 h
theorem EL13 (S : Stop) (n13 : Nat) (x0p : Option Addr) (x0l x0c : Nat) (x1 x10 x11 : Int) (h : Heap) (K : KK) : (en S [1, 1, 1, 1, 1, 1, 1, 1, 1, 0, 0, 0] (c8 S n13 K) (f13 x0p x0l x0c x1 x10 x11) h) = JL13 (fun x0p x0l x0c x1 x10 x11 h => ∃ n, S (ln S [1, 1, 1, 1, 1, 1, 1, 1, 1, 0, 0, 0, 0, 0, 0, 0] (c11 S n13 K) n) (f13 x0p x0l x0c x1 x10 x11) h) x0p x0l x0c x1 x10 x11 h K := by kernel_rfl
def JL1013 (bk1013 : (Option Addr) → Nat → Nat → Int → Int → Int → Heap → Prop) (k15 : (Option Addr) → Nat → Nat → Int → Int → Int → Heap → Prop) (x0p : Option Addr) (x0l x0c : Nat) (x1 x10 x11 : Int) (h : Heap) (_K : KK) : Prop :=
  bcase (decide (x10 ≤ x11)) (ptrK x0p (fun a1 => (0 ≤ x10 ∧ x10 < (Nat.cast x0l : Int) ∧ ldI .u8 (rd h (Addr.add a1 (Int.toNat x10 * 1))) (fun n2 => ptrK x0p (fun a3 => (0 ≤ x1 ∧ x1 < (Nat.cast x0l : Int) ∧ ldI .u8 (rd h (Addr.add a3 (Int.toNat x1 * 1))) (fun n4 => CallsH Tryz.prog 66 [(.int .u8 n2), (.int .u8 n4)] h (fun v5 h6 => ldB (some v5) (fun b7 => bcase b7 (bk1013 x0p x0l x0c x1 (IntKind.wrap .i64 (x10 + (1 : Int))) x11 h6) (k15 x0p x0l x0c x1 x10 x11 h6)))))))))) (k15 x0p x0l x0c x1 x10 x11 h)
theorem EL1013 (S : Stop) (n13 : Nat) (n1013 : Nat) (x0p : Option Addr) (x0l x0c : Nat) (x1 x10 x11 : Int) (h : Heap) (K : KK) : (en S [1, 1, 1, 1, 1, 1, 1, 1, 1, 0, 0, 0, 0, 0, 0, 0] (c12 S n13 n1013 K) (f13 x0p x0l x0c x1 x10 x11) h) = JL1013 (fun x0p x0l x0c x1 x10 x11 h => S (ln S [1, 1, 1, 1, 1, 1, 1, 1, 1, 0, 0, 0, 0, 0, 0, 0] (c11 S n13 K) n1013) (f13 x0p x0l x0c x1 x10 x11) h) (fun x0p x0l x0c x1 x10 x11 h => S (en S [1, 1, 1, 1, 1, 1, 1, 1, 1, 0, 0, 0, 0, 1] (c9 S n13 K)) (f15 x0p x0l x0c x1 x10 x11) h) x0p x0l x0c x1 x10 x11 h K := by kernel_rfl
def Jk15 (lp15 : (Option Addr) → Nat → Nat → Int → Int → Int → Heap → Prop) (x0p : Option Addr) (x0l x0c : Nat) (x1 x10 x11 : Int) (h : Heap) (_K : KK) : Prop :=
  lp15 x0p x0l x0c x1 x10 x11 h
theorem Ek15 (S : Stop) (n13 : Nat) (x0p : Option Addr) (x0l x0c : Nat) (x1 x10 x11 : Int) (h : Heap) (K : KK) : (en S [1, 1, 1, 1, 1, 1, 1, 1, 1, 0, 0, 0, 0, 1] (c9 S n13 K) (f15 x0p x0l x0c x1 x10 x11) h) = Jk15 (fun x0p x0l x0c x1 x10 x11 h => ∃ n, S (ln S [1, 1, 1, 1, 1, 1, 1, 1, 1, 0, 0, 0, 0, 1, 0, 0, 0] (c14 S n13 K) n) (f15 x0p x0l x0c x1 x10 x11) h) x0p x0l x0c x1 x10 x11 h K := by kernel_rfl
def JL15 (bk15 : (Option Addr) → Nat → Nat → Int → Int → Int → Heap → Prop) (k17 : (Option Addr) → Nat → Nat → Int → Int → Int → Heap → Prop) (x0p : Option Addr) (x0l x0c : Nat) (x1 x10 x11 : Int) (h : Heap) (_K : KK) : Prop :=
  bcase (decide (x10 ≤ x11)) (ptrK x0p (fun a1 => (0 ≤ x11 ∧ x11 < (Nat.cast x0l : Int) ∧ ldI .u8 (rd h (Addr.add a1 (Int.toNat x11 * 1))) (fun n2 => ptrK x0p (fun a3 => (0 ≤ x1 ∧ x1 < (Nat.cast x0l : Int) ∧ ldI .u8 (rd h (Addr.add a3 (Int.toNat x1 * 1))) (fun n4 => CallsH Tryz.prog 66 [(.int .u8 n2), (.int .u8 n4)] h (fun v5 h6 => ldB (some v5) (fun b7 => bcase (!b7) (bk15 x0p x0l x0c x1 x10 (IntKind.wrap .i64 (x11 - (1 : Int))) h6) (k17 x0p x0l x0c x1 x10 x11 h6)))))))))) (k17 x0p x0l x0c x1 x10 x11 h)
theorem EL15 (S : Stop) (n13 : Nat) (n15 : Nat) (x0p : Option Addr) (x0l x0c : Nat) (x1 x10 x11 : Int) (h : Heap) (K : KK) : (en S [1, 1, 1, 1, 1, 1, 1, 1, 1, 0, 0, 0, 0, 1, 0, 0, 0] (c15 S n13 n15 K) (f15 x0p x0l x0c x1 x10 x11) h) = JL15 (fun x0p x0l x0c x1 x10 x11 h => S (ln S [1, 1, 1, 1, 1, 1, 1, 1, 1, 0, 0, 0, 0, 1, 0, 0, 0] (c14 S n13 K) n15) (f15 x0p x0l x0c x1 x10 x11) h) (fun x0p x0l x0c x1 x10 x11 h => S (en S [1, 1, 1, 1, 1, 1, 1, 1, 1, 0, 0, 0, 0, 1, 1] (c9 S n13 K)) (f17 x0p x0l x0c x1 x10 x11) h) x0p x0l x0c x1 x10 x11 h K := by kernel_rfl
def Jk17 (k21 : (Option Addr) → Nat → Nat → Int → Int → Heap → Prop) (bk13 : (Option Addr) → Nat → Nat → Int → Int → Int → Heap → Prop) (x0p : Option Addr) (x0l x0c : Nat) (x1 x10 x11 : Int) (h : Heap) (_K : KK) : Prop :=
  bcase (decide (x10 > x11)) (k21 x0p x0l x0c x1 x11 h) (ptrK x0p (fun a1 => (0 ≤ x11 ∧ x11 < (Nat.cast x0l : Int) ∧ ldI .u8 (rd h (Addr.add a1 (Int.toNat x11 * 1))) (fun n2 => ptrK x0p (fun a3 => (0 ≤ x10 ∧ x10 < (Nat.cast x0l : Int) ∧ ldI .u8 (rd h (Addr.add a3 (Int.toNat x10 * 1))) (fun n4 => ptrK x0p (fun a5 => (0 ≤ x10 ∧ x10 < (Nat.cast x0l : Int) ∧ stK h (Addr.add (Addr.add a5 (Int.toNat x10 * 1)) 0) (.int .u8 n2) (fun h6 => ((.slice x0p x0l x0c) = ((.slice x0p x0l x0c) : Value) ∧ ((.int .i64 x11) = ((.int .i64 x11) : Value) ∧ ptrK x0p (fun a7 => (0 ≤ x11 ∧ x11 < (Nat.cast x0l : Int) ∧ stK h6 (Addr.add (Addr.add a7 (Int.toNat x11 * 1)) 0) (.int .u8 n4) (fun h8 => bk13 x0p x0l x0c x1 (IntKind.wrap .i64 (x10 + (1 : Int))) (IntKind.wrap .i64 (x11 - (1 : Int))) h8)))))))))))))))
theorem Ek17 (S : Stop) (n13 : Nat) (x0p : Option Addr) (x0l x0c : Nat) (x1 x10 x11 : Int) (h : Heap) (K : KK) : (en S [1, 1, 1, 1, 1, 1, 1, 1, 1, 0, 0, 0, 0, 1, 1] (c9 S n13 K) (f17 x0p x0l x0c x1 x10 x11) h) = Jk17 (fun x0p x0l x0c x1 x11 h => S (en S [1, 1, 1, 1, 1, 1, 1, 1, 1, 1] (fn K)) (f21 x0p x0l x0c x1 x11) h) (fun x0p x0l x0c x1 x10 x11 h => S (ln S [1, 1, 1, 1, 1, 1, 1, 1, 1, 0, 0, 0] (c7 S K) n13) (f13 x0p x0l x0c x1 x10 x11) h) x0p x0l x0c x1 x10 x11 h K := by kernel_rfl
def Jk21 (x0p : Option Addr) (x0l x0c : Nat) (x1 x11 : Int) (h : Heap) (K : KK) : Prop :=
  ptrK x0p (fun a1 => (0 ≤ x1 ∧ x1 < (Nat.cast x0l : Int) ∧ ldI .u8 (rd h (Addr.add a1 (Int.toNat x1 * 1))) (fun n2 => ptrK x0p (fun a3 => (0 ≤ x11 ∧ x11 < (Nat.cast x0l : Int) ∧ ldI .u8 (rd h (Addr.add a3 (Int.toNat x11 * 1))) (fun n4 => ptrK x0p (fun a5 => (0 ≤ x11 ∧ x11 < (Nat.cast x0l : Int) ∧ stK h (Addr.add (Addr.add a5 (Int.toNat x11 * 1)) 0) (.int .u8 n2) (fun h6 => ((.slice x0p x0l x0c) = ((.slice x0p x0l x0c) : Value) ∧ ((.int .i64 x1) = ((.int .i64 x1) : Value) ∧ ptrK x0p (fun a7 => (0 ≤ x1 ∧ x1 < (Nat.cast x0l : Int) ∧ stK h6 (Addr.add (Addr.add a7 (Int.toNat x1 * 1)) 0) (.int .u8 n4) (fun h8 => K (.tuple #[(.int .i64 x11), (.bool false)]) h8))))))))))))))
theorem Ek21 (S : Stop) (x0p : Option Addr) (x0l x0c : Nat) (x1 x11 : Int) (h : Heap) (K : KK) : (en S [1, 1, 1, 1, 1, 1, 1, 1, 1, 1] (fn K) (f21 x0p x0l x0c x1 x11) h) = Jk21 x0p x0l x0c x1 x11 h K := by kernel_rfl
def wk21 (x0p : Option Addr) (x0l x0c : Nat) (x1 x11 : Int) (h : Heap) (K : KK) : Prop :=
  Jk21 x0p x0l x0c x1 x11 h K
theorem ek21 (K : KK) (x0p : Option Addr) (x0l x0c : Nat) (x1 x11 : Int) (h : Heap) : (en S0 [1, 1, 1, 1, 1, 1, 1, 1, 1, 1] (fn K) (f21 x0p x0l x0c x1 x11) h) = wk21 x0p x0l x0c x1 x11 h K := (Ek21 S0 x0p x0l x0c x1 x11 h K).trans (rfl)
def wk17 (bk13 : (Option Addr) → Nat → Nat → Int → Int → Int → Heap → Prop) (x0p : Option Addr) (x0l x0c : Nat) (x1 x10 x11 : Int) (h : Heap) (K : KK) : Prop :=
  Jk17 (fun x0p x0l x0c x1 x11 h => wk21 x0p x0l x0c x1 x11 h K) bk13 x0p x0l x0c x1 x10 x11 h K
theorem ek17 (K : KK) (n13 : Nat) (bk13 : (Option Addr) → Nat → Nat → Int → Int → Int → Heap → Prop) (hb13 : ∀ (x0p : Option Addr) (x0l x0c : Nat) (x1 x10 x11 : Int) (h : Heap), (ln S0 [1, 1, 1, 1, 1, 1, 1, 1, 1, 0, 0, 0] (c7 S0 K) n13 (f13 x0p x0l x0c x1 x10 x11) h) = bk13 x0p x0l x0c x1 x10 x11 h) (x0p : Option Addr) (x0l x0c : Nat) (x1 x10 x11 : Int) (h : Heap) : (en S0 [1, 1, 1, 1, 1, 1, 1, 1, 1, 0, 0, 0, 0, 1, 1] (c9 S0 n13 K) (f17 x0p x0l x0c x1 x10 x11) h) = wk17 bk13 x0p x0l x0c x1 x10 x11 h K := (Ek17 S0 n13 x0p x0l x0c x1 x10 x11 h K).trans (cg2 (fun q0 q1 => Jk17 q0 q1 x0p x0l x0c x1 x10 x11 h K) (by funext x0p x0l x0c x1 x11 h; exact ek21 K x0p x0l x0c x1 x11 h) (by funext x0p x0l x0c x1 x10 x11 h; exact hb13 x0p x0l x0c x1 x10 x11 h))
def wL15 (bk13 : (Option Addr) → Nat → Nat → Int → Int → Int → Heap → Prop) : Nat → (Option Addr) → Nat → Nat → Int → Int → Int → Heap → KK → Prop
  | 0, _, _, _, _, _, _, _, _ => False
  | n + 1, x0p, x0l, x0c, x1, x10, x11, h, K => JL15 (fun x0p x0l x0c x1 x10 x11 h => wL15 bk13 n x0p x0l x0c x1 x10 x11 h K) (fun x0p x0l x0c x1 x10 x11 h => wk17 bk13 x0p x0l x0c x1 x10 x11 h K) x0p x0l x0c x1 x10 x11 h K
theorem eL15 (K : KK) (n13 : Nat) (bk13 : (Option Addr) → Nat → Nat → Int → Int → Int → Heap → Prop) (hb13 : ∀ (x0p : Option Addr) (x0l x0c : Nat) (x1 x10 x11 : Int) (h : Heap), (ln S0 [1, 1, 1, 1, 1, 1, 1, 1, 1, 0, 0, 0] (c7 S0 K) n13 (f13 x0p x0l x0c x1 x10 x11) h) = bk13 x0p x0l x0c x1 x10 x11 h) : ∀ (n : Nat) (x0p : Option Addr) (x0l x0c : Nat) (x1 x10 x11 : Int) (h : Heap), (ln S0 [1, 1, 1, 1, 1, 1, 1, 1, 1, 0, 0, 0, 0, 1, 0, 0, 0] (c14 S0 n13 K) n (f15 x0p x0l x0c x1 x10 x11) h) = wL15 bk13 n x0p x0l x0c x1 x10 x11 h K
  | 0, _, _, _, _, _, _, _ => rfl
  | n + 1, x0p, x0l, x0c, x1, x10, x11, h => (EL15 S0 n13 n x0p x0l x0c x1 x10 x11 h K).trans (cg2 (fun q0 q1 => JL15 q0 q1 x0p x0l x0c x1 x10 x11 h K) (by funext x0p x0l x0c x1 x10 x11 h; exact (fun x0p x0l x0c x1 x10 x11 h => eL15 K n13 bk13 hb13 n x0p x0l x0c x1 x10 x11 h) x0p x0l x0c x1 x10 x11 h) (by funext x0p x0l x0c x1 x10 x11 h; exact ek17 K n13 bk13 hb13 x0p x0l x0c x1 x10 x11 h))
def wk15 (bk13 : (Option Addr) → Nat → Nat → Int → Int → Int → Heap → Prop) (x0p : Option Addr) (x0l x0c : Nat) (x1 x10 x11 : Int) (h : Heap) (K : KK) : Prop :=
  Jk15 (fun x0p x0l x0c x1 x10 x11 h => ∃ m, wL15 bk13 m x0p x0l x0c x1 x10 x11 h K) x0p x0l x0c x1 x10 x11 h K
theorem ek15 (K : KK) (n13 : Nat) (bk13 : (Option Addr) → Nat → Nat → Int → Int → Int → Heap → Prop) (hb13 : ∀ (x0p : Option Addr) (x0l x0c : Nat) (x1 x10 x11 : Int) (h : Heap), (ln S0 [1, 1, 1, 1, 1, 1, 1, 1, 1, 0, 0, 0] (c7 S0 K) n13 (f13 x0p x0l x0c x1 x10 x11) h) = bk13 x0p x0l x0c x1 x10 x11 h) (x0p : Option Addr) (x0l x0c : Nat) (x1 x10 x11 : Int) (h : Heap) : (en S0 [1, 1, 1, 1, 1, 1, 1, 1, 1, 0, 0, 0, 0, 1] (c9 S0 n13 K) (f15 x0p x0l x0c x1 x10 x11) h) = wk15 bk13 x0p x0l x0c x1 x10 x11 h K := (Ek15 S0 n13 x0p x0l x0c x1 x10 x11 h K).trans (cg1 (fun q0 => Jk15 q0 x0p x0l x0c x1 x10 x11 h K) (by funext x0p x0l x0c x1 x10 x11 h; exact ex_congr fun m => eL15 K n13 bk13 hb13 m x0p x0l x0c x1 x10 x11 h))
def wL1013 (bk13 : (Option Addr) → Nat → Nat → Int → Int → Int → Heap → Prop) : Nat → (Option Addr) → Nat → Nat → Int → Int → Int → Heap → KK → Prop
  | 0, _, _, _, _, _, _, _, _ => False
  | n + 1, x0p, x0l, x0c, x1, x10, x11, h, K => JL1013 (fun x0p x0l x0c x1 x10 x11 h => wL1013 bk13 n x0p x0l x0c x1 x10 x11 h K) (fun x0p x0l x0c x1 x10 x11 h => wk15 bk13 x0p x0l x0c x1 x10 x11 h K) x0p x0l x0c x1 x10 x11 h K
theorem eL1013 (K : KK) (n13 : Nat) (bk13 : (Option Addr) → Nat → Nat → Int → Int → Int → Heap → Prop) (hb13 : ∀ (x0p : Option Addr) (x0l x0c : Nat) (x1 x10 x11 : Int) (h : Heap), (ln S0 [1, 1, 1, 1, 1, 1, 1, 1, 1, 0, 0, 0] (c7 S0 K) n13 (f13 x0p x0l x0c x1 x10 x11) h) = bk13 x0p x0l x0c x1 x10 x11 h) : ∀ (n : Nat) (x0p : Option Addr) (x0l x0c : Nat) (x1 x10 x11 : Int) (h : Heap), (ln S0 [1, 1, 1, 1, 1, 1, 1, 1, 1, 0, 0, 0, 0, 0, 0, 0] (c11 S0 n13 K) n (f13 x0p x0l x0c x1 x10 x11) h) = wL1013 bk13 n x0p x0l x0c x1 x10 x11 h K
  | 0, _, _, _, _, _, _, _ => rfl
  | n + 1, x0p, x0l, x0c, x1, x10, x11, h => (EL1013 S0 n13 n x0p x0l x0c x1 x10 x11 h K).trans (cg2 (fun q0 q1 => JL1013 q0 q1 x0p x0l x0c x1 x10 x11 h K) (by funext x0p x0l x0c x1 x10 x11 h; exact (fun x0p x0l x0c x1 x10 x11 h => eL1013 K n13 bk13 hb13 n x0p x0l x0c x1 x10 x11 h) x0p x0l x0c x1 x10 x11 h) (by funext x0p x0l x0c x1 x10 x11 h; exact ek15 K n13 bk13 hb13 x0p x0l x0c x1 x10 x11 h))
def wL13 : Nat → (Option Addr) → Nat → Nat → Int → Int → Int → Heap → KK → Prop
  | 0, _, _, _, _, _, _, _, _ => False
  | n + 1, x0p, x0l, x0c, x1, x10, x11, h, K => JL13 (fun x0p x0l x0c x1 x10 x11 h => ∃ m, wL1013 (fun x0p x0l x0c x1 x10 x11 h => wL13 n x0p x0l x0c x1 x10 x11 h K) m x0p x0l x0c x1 x10 x11 h K) x0p x0l x0c x1 x10 x11 h K
theorem eL13 (K : KK) : ∀ (n : Nat) (x0p : Option Addr) (x0l x0c : Nat) (x1 x10 x11 : Int) (h : Heap), (ln S0 [1, 1, 1, 1, 1, 1, 1, 1, 1, 0, 0, 0] (c7 S0 K) n (f13 x0p x0l x0c x1 x10 x11) h) = wL13 n x0p x0l x0c x1 x10 x11 h K
  | 0, _, _, _, _, _, _, _ => rfl
  | n + 1, x0p, x0l, x0c, x1, x10, x11, h => (EL13 S0 n x0p x0l x0c x1 x10 x11 h K).trans (cg1 (fun q0 => JL13 q0 x0p x0l x0c x1 x10 x11 h K) (by funext x0p x0l x0c x1 x10 x11 h; exact ex_congr fun m => eL1013 K n (fun x0p x0l x0c x1 x10 x11 h => wL13 n x0p x0l x0c x1 x10 x11 h K) (fun x0p x0l x0c x1 x10 x11 h => eL13 K n x0p x0l x0c x1 x10 x11 h) m x0p x0l x0c x1 x10 x11 h))
def wk13 (x0p : Option Addr) (x0l x0c : Nat) (x1 x10 x11 : Int) (h : Heap) (K : KK) : Prop :=
  Jk13 (fun x0p x0l x0c x1 x10 x11 h => ∃ m, wL13 m x0p x0l x0c x1 x10 x11 h K) x0p x0l x0c x1 x10 x11 h K
theorem ek13 (K : KK) (x0p : Option Addr) (x0l x0c : Nat) (x1 x10 x11 : Int) (h : Heap) : (en S0 [1, 1, 1, 1, 1, 1, 1, 1, 1] (fn K) (f13 x0p x0l x0c x1 x10 x11) h) = wk13 x0p x0l x0c x1 x10 x11 h K := (Ek13 S0 x0p x0l x0c x1 x10 x11 h K).trans (cg1 (fun q0 => Jk13 q0 x0p x0l x0c x1 x10 x11 h K) (by funext x0p x0l x0c x1 x10 x11 h; exact ex_congr fun m => eL13 K m x0p x0l x0c x1 x10 x11 h))
def wk7 (x0p : Option Addr) (x0l x0c : Nat) (x1 x10 x11 : Int) (h : Heap) (K : KK) : Prop :=
  Jk7 (fun x0p x0l x0c x1 x10 x11 h => wk13 x0p x0l x0c x1 x10 x11 h K) x0p x0l x0c x1 x10 x11 h K
theorem ek7 (K : KK) (x0p : Option Addr) (x0l x0c : Nat) (x1 x10 x11 : Int) (h : Heap) : (en S0 [1, 1, 1, 1, 1] (fn K) (f7 x0p x0l x0c x1 x10 x11) h) = wk7 x0p x0l x0c x1 x10 x11 h K := (Ek7 S0 x0p x0l x0c x1 x10 x11 h K).trans (cg1 (fun q0 => Jk7 q0 x0p x0l x0c x1 x10 x11 h K) (by funext x0p x0l x0c x1 x10 x11 h; exact ek13 K x0p x0l x0c x1 x10 x11 h))
def wL5 : Nat → (Option Addr) → Nat → Nat → Int → Int → Int → Heap → KK → Prop
  | 0, _, _, _, _, _, _, _, _ => False
  | n + 1, x0p, x0l, x0c, x1, x10, x11, h, K => JL5 (fun x0p x0l x0c x1 x10 x11 h => wL5 n x0p x0l x0c x1 x10 x11 h K) (fun x0p x0l x0c x1 x10 x11 h => wk7 x0p x0l x0c x1 x10 x11 h K) x0p x0l x0c x1 x10 x11 h K
theorem eL5 (K : KK) : ∀ (n : Nat) (x0p : Option Addr) (x0l x0c : Nat) (x1 x10 x11 : Int) (h : Heap), (ln S0 [1, 1, 1, 1, 0, 0, 0] (c4 S0 K) n (f5 x0p x0l x0c x1 x10 x11) h) = wL5 n x0p x0l x0c x1 x10 x11 h K
  | 0, _, _, _, _, _, _, _ => rfl
  | n + 1, x0p, x0l, x0c, x1, x10, x11, h => (EL5 S0 n x0p x0l x0c x1 x10 x11 h K).trans (cg2 (fun q0 q1 => JL5 q0 q1 x0p x0l x0c x1 x10 x11 h K) (by funext x0p x0l x0c x1 x10 x11 h; exact (fun x0p x0l x0c x1 x10 x11 h => eL5 K n x0p x0l x0c x1 x10 x11 h) x0p x0l x0c x1 x10 x11 h) (by funext x0p x0l x0c x1 x10 x11 h; exact ek7 K x0p x0l x0c x1 x10 x11 h))
def wk5 (x0p : Option Addr) (x0l x0c : Nat) (x1 x10 x11 : Int) (h : Heap) (K : KK) : Prop :=
  Jk5 (fun x0p x0l x0c x1 x10 x11 h => ∃ m, wL5 m x0p x0l x0c x1 x10 x11 h K) x0p x0l x0c x1 x10 x11 h K
theorem ek5 (K : KK) (x0p : Option Addr) (x0l x0c : Nat) (x1 x10 x11 : Int) (h : Heap) : (en S0 [1, 1, 1, 1] (fn K) (f5 x0p x0l x0c x1 x10 x11) h) = wk5 x0p x0l x0c x1 x10 x11 h K := (Ek5 S0 x0p x0l x0c x1 x10 x11 h K).trans (cg1 (fun q0 => Jk5 q0 x0p x0l x0c x1 x10 x11 h K) (by funext x0p x0l x0c x1 x10 x11 h; exact ex_congr fun m => eL5 K m x0p x0l x0c x1 x10 x11 h))
def wL3 : Nat → (Option Addr) → Nat → Nat → Int → Int → Int → Heap → KK → Prop
  | 0, _, _, _, _, _, _, _, _ => False
  | n + 1, x0p, x0l, x0c, x1, x10, x11, h, K => JL3 (fun x0p x0l x0c x1 x10 x11 h => wL3 n x0p x0l x0c x1 x10 x11 h K) (fun x0p x0l x0c x1 x10 x11 h => wk5 x0p x0l x0c x1 x10 x11 h K) x0p x0l x0c x1 x10 x11 h K
theorem eL3 (K : KK) : ∀ (n : Nat) (x0p : Option Addr) (x0l x0c : Nat) (x1 x10 x11 : Int) (h : Heap), (ln S0 [1, 1, 1, 0, 0, 0] (c1 S0 K) n (f3 x0p x0l x0c x1 x10 x11) h) = wL3 n x0p x0l x0c x1 x10 x11 h K
  | 0, _, _, _, _, _, _, _ => rfl
  | n + 1, x0p, x0l, x0c, x1, x10, x11, h => (EL3 S0 n x0p x0l x0c x1 x10 x11 h K).trans (cg2 (fun q0 q1 => JL3 q0 q1 x0p x0l x0c x1 x10 x11 h K) (by funext x0p x0l x0c x1 x10 x11 h; exact (fun x0p x0l x0c x1 x10 x11 h => eL3 K n x0p x0l x0c x1 x10 x11 h) x0p x0l x0c x1 x10 x11 h) (by funext x0p x0l x0c x1 x10 x11 h; exact ek5 K x0p x0l x0c x1 x10 x11 h))
def wk3 (x0p : Option Addr) (x0l x0c : Nat) (x1 x10 x11 : Int) (h : Heap) (K : KK) : Prop :=
  Jk3 (fun x0p x0l x0c x1 x10 x11 h => ∃ m, wL3 m x0p x0l x0c x1 x10 x11 h K) x0p x0l x0c x1 x10 x11 h K
theorem ek3 (K : KK) (x0p : Option Addr) (x0l x0c : Nat) (x1 x10 x11 : Int) (h : Heap) : (en S0 [1, 1, 1] (fn K) (f3 x0p x0l x0c x1 x10 x11) h) = wk3 x0p x0l x0c x1 x10 x11 h K := (Ek3 S0 x0p x0l x0c x1 x10 x11 h K).trans (cg1 (fun q0 => Jk3 q0 x0p x0l x0c x1 x10 x11 h K) (by funext x0p x0l x0c x1 x10 x11 h; exact ex_congr fun m => eL3 K m x0p x0l x0c x1 x10 x11 h))
def w (x0p : Option Addr) (x0l x0c : Nat) (x1 x2 x3 : Int) (h : Heap) (K : KK) : Prop :=
  J0 (fun x0p x0l x0c x1 x10 x11 h => wk3 x0p x0l x0c x1 x10 x11 h K) x0p x0l x0c x1 x2 x3 h K
theorem e0 (K : KK) (x0p : Option Addr) (x0l x0c : Nat) (x1 x2 x3 : Int) (h : Heap) : (E Tryz.prog X T S0 body (fin Tryz.prog Tryz.f103.results.toList K) (args0 0 [(.slice x0p x0l x0c), (.int .i64 x1), (.int .i64 x2), (.int .i64 x3)]) h) = w x0p x0l x0c x1 x2 x3 h K := (E0 S0 x0p x0l x0c x1 x2 x3 h K).trans (cg1 (fun q0 => J0 q0 x0p x0l x0c x1 x2 x3 h K) (by funext x0p x0l x0c x1 x10 x11 h; exact ek3 K x0p x0l x0c x1 x10 x11 h))
theorem hb : Tryz.f103.body = some body := by kernel_rfl
theorem ok : okCode T Tryz.f103.ntmps body = true := by kernel_rfl
theorem spec (x0p : Option Addr) (x0l : Nat) (x0c : Nat) (x1 : Int) (x2 : Int) (x3 : Int) (h : Heap) (K : KK) (H : w x0p x0l x0c x1 x2 x3 h K) : CallsH Tryz.prog 103 [(.slice x0p x0l x0c), (.int .i64 x1), (.int .i64 x2), (.int .i64 x3)] h K :=
  calls_of_E (T := T) Xok mix Tryz.func103 hb ok rfl (by rw [e0]; exact H)
end F103
-- slices.siftDownOrdered[uint8]
namespace F115
def T : Hint := ⟨[(1, [0, 2, 3, 8]), (5, [0, 2, 3, 8, 9])], [(3, [[(0, []), (1, []), (2, []), (3, []), (4, []), (5, []), (6, []), (7, []), (8, []), (9, []), (10, []), (11, []), (12, []), (13, []), (14, []), (15, []), (16, []), (17, []), (18, []), (19, [])]]), (5, [[(0, []), (1, []), (2, []), (3, []), (4, []), (5, []), (6, []), (7, []), (8, []), (9, []), (10, []), (11, []), (12, []), (13, [])]]), (6, [[(0, []), (1, []), (2, []), (3, []), (4, []), (5, []), (6, []), (7, []), (8, []), (9, []), (10, []), (11, []), (12, []), (13, []), (14, []), (15, []), (16, []), (17, []), (18, []), (19, []), (20, []), (21, [4, 5, 6, 7]), (22, []), (23, [])]])]⟩
noncomputable def body : Code := (Tryz.f115.body).getD .skip
noncomputable def en (S : Stop) (p : List Nat) (κ : XK) : Fr → Heap → Prop := E Tryz.prog X T S (sub body p) κ
noncomputable def ln (S : Stop) (p : List Nat) (κ : XK) (n : Nat) : Fr → Heap → Prop := loopN S (E Tryz.prog X T S (sub body p)) (cutQ T (sub body p)) κ n
def fn (K : KK) : XK := fin Tryz.prog Tryz.f115.results.toList K
noncomputable def c0 (_S : Stop) (K : KK) : XK := blockN 0 (fn K)
noncomputable def c1 (S : Stop) (n1 : Nat) (K : KK) : XK := backN S (cutQ T (sub body [1, 0, 0])) (ln S [1, 0, 0] (c0 S K) n1) (c0 S K)
noncomputable def c2 (S : Stop) (n1 : Nat) (K : KK) : XK := blockN 1 (c1 S n1 K)
def f1 (x0p : Option Addr) (x0l x0c : Nat) (x2 x3 x8 : Int) : Fr := [(0, (.slice x0p x0l x0c)), (2, (.int .i64 x2)), (3, (.int .i64 x3)), (8, (.int .i64 x8))]
def f5 (x0p : Option Addr) (x0l x0c : Nat) (x2 x3 x8 x9 : Int) : Fr := [(0, (.slice x0p x0l x0c)), (2, (.int .i64 x2)), (3, (.int .i64 x3)), (8, (.int .i64 x8)), (9, (.int .i64 x9))]
def J0 (k1 : (Option Addr) → Nat → Nat → Int → Int → Int → Heap → Prop) (x0p : Option Addr) (x0l x0c : Nat) (x1 x2 x3 : Int) (h : Heap) (_K : KK) : Prop :=
  k1 x0p x0l x0c x2 x3 x1 h
theorem E0 (S : Stop) (x0p : Option Addr) (x0l x0c : Nat) (x1 x2 x3 : Int) (h : Heap) (K : KK) : (E Tryz.prog X T S body (fin Tryz.prog Tryz.f115.results.toList K) (args0 0 [(.slice x0p x0l x0c), (.int .i64 x1), (.int .i64 x2), (.int .i64 x3)]) h) = J0 (fun x0p x0l x0c x2 x3 x8 h => S (en S [1] (fn K)) (f1 x0p x0l x0c x2 x3 x8) h) x0p x0l x0c x1 x2 x3 h K := by kernel_rfl
def Jk1 (lp1 : (Option Addr) → Nat → Nat → Int → Int → Int → Heap → Prop) (x0p : Option Addr) (x0l x0c : Nat) (x2 x3 x8 : Int) (h : Heap) (_K : KK) : Prop :=
  lp1 x0p x0l x0c x2 x3 x8 h
theorem Ek1 (S : Stop) (x0p : Option Addr) (x0l x0c : Nat) (x2 x3 x8 : Int) (h : Heap) (K : KK) : (en S [1] (fn K) (f1 x0p x0l x0c x2 x3 x8) h) = Jk1 (fun x0p x0l x0c x2 x3 x8 h => ∃ n, S (ln S [1, 0, 0] (c0 S K) n) (f1 x0p x0l x0c x2 x3 x8) h) x0p x0l x0c x2 x3 x8 h K := by kernel_rfl
def JL1 (k5 : (Option Addr) → Nat → Nat → Int → Int → Int → Int → Heap → Prop) (x0p : Option Addr) (x0l x0c : Nat) (x2 x3 x8 : Int) (h : Heap) (K : KK) : Prop :=
  bcase (decide ((IntKind.wrap .i64 ((IntKind.wrap .i64 ((2 : Int) * x8)) + (1 : Int))) ≥ x2)) (K (.tuple #[]) h) (bcase (decide ((IntKind.wrap .i64 ((IntKind.wrap .i64 ((IntKind.wrap .i64 ((2 : Int) * x8)) + (1 : Int))) + (1 : Int))) < x2)) (ptrK x0p (fun a1 => (0 ≤ (IntKind.wrap .i64 (x3 + (IntKind.wrap .i64 ((IntKind.wrap .i64 ((2 : Int) * x8)) + (1 : Int))))) ∧ (IntKind.wrap .i64 (x3 + (IntKind.wrap .i64 ((IntKind.wrap .i64 ((2 : Int) * x8)) + (1 : Int))))) < (Nat.cast x0l : Int) ∧ ldI .u8 (rd h (Addr.add a1 (Int.toNat (IntKind.wrap .i64 (x3 + (IntKind.wrap .i64 ((IntKind.wrap .i64 ((2 : Int) * x8)) + (1 : Int))))) * 1))) (fun n2 => ptrK x0p (fun a3 => (0 ≤ (IntKind.wrap .i64 ((IntKind.wrap .i64 (x3 + (IntKind.wrap .i64 ((IntKind.wrap .i64 ((2 : Int) * x8)) + (1 : Int))))) + (1 : Int))) ∧ (IntKind.wrap .i64 ((IntKind.wrap .i64 (x3 + (IntKind.wrap .i64 ((IntKind.wrap .i64 ((2 : Int) * x8)) + (1 : Int))))) + (1 : Int))) < (Nat.cast x0l : Int) ∧ ldI .u8 (rd h (Addr.add a3 (Int.toNat (IntKind.wrap .i64 ((IntKind.wrap .i64 (x3 + (IntKind.wrap .i64 ((IntKind.wrap .i64 ((2 : Int) * x8)) + (1 : Int))))) + (1 : Int))) * 1))) (fun n4 => CallsH Tryz.prog 66 [(.int .u8 n2), (.int .u8 n4)] h (fun v5 h6 => ldB (some v5) (fun b7 => bcase b7 (k5 x0p x0l x0c x2 x3 x8 (IntKind.wrap .i64 ((IntKind.wrap .i64 ((IntKind.wrap .i64 ((2 : Int) * x8)) + (1 : Int))) + (1 : Int))) h6) (k5 x0p x0l x0c x2 x3 x8 (IntKind.wrap .i64 ((IntKind.wrap .i64 ((2 : Int) * x8)) + (1 : Int))) h6)))))))))) (k5 x0p x0l x0c x2 x3 x8 (IntKind.wrap .i64 ((IntKind.wrap .i64 ((2 : Int) * x8)) + (1 : Int))) h))
theorem EL1 (S : Stop) (n1 : Nat) (x0p : Option Addr) (x0l x0c : Nat) (x2 x3 x8 : Int) (h : Heap) (K : KK) : (en S [1, 0, 0] (c1 S n1 K) (f1 x0p x0l x0c x2 x3 x8) h) = JL1 (fun x0p x0l x0c x2 x3 x8 x9 h => S (en S [1, 0, 0, 0, 1, 1, 1] (c2 S n1 K)) (f5 x0p x0l x0c x2 x3 x8 x9) h) x0p x0l x0c x2 x3 x8 h K := by kernel_rfl
def Jk5 (bk1 : (Option Addr) → Nat → Nat → Int → Int → Int → Heap → Prop) (x0p : Option Addr) (x0l x0c : Nat) (x2 x3 x8 x9 : Int) (h : Heap) (K : KK) : Prop :=
  ptrK x0p (fun a1 => (0 ≤ (IntKind.wrap .i64 (x3 + x8)) ∧ (IntKind.wrap .i64 (x3 + x8)) < (Nat.cast x0l : Int) ∧ ldI .u8 (rd h (Addr.add a1 (Int.toNat (IntKind.wrap .i64 (x3 + x8)) * 1))) (fun n2 => ptrK x0p (fun a3 => (0 ≤ (IntKind.wrap .i64 (x3 + x9)) ∧ (IntKind.wrap .i64 (x3 + x9)) < (Nat.cast x0l : Int) ∧ ldI .u8 (rd h (Addr.add a3 (Int.toNat (IntKind.wrap .i64 (x3 + x9)) * 1))) (fun n4 => CallsH Tryz.prog 66 [(.int .u8 n2), (.int .u8 n4)] h (fun v5 h6 => ldB (some v5) (fun b7 => bcase (!b7) (K (.tuple #[]) h6) (ptrK x0p (fun a8 => (0 ≤ (IntKind.wrap .i64 (x3 + x9)) ∧ (IntKind.wrap .i64 (x3 + x9)) < (Nat.cast x0l : Int) ∧ ldI .u8 (rd h6 (Addr.add a8 (Int.toNat (IntKind.wrap .i64 (x3 + x9)) * 1))) (fun n9 => ptrK x0p (fun a10 => (0 ≤ (IntKind.wrap .i64 (x3 + x8)) ∧ (IntKind.wrap .i64 (x3 + x8)) < (Nat.cast x0l : Int) ∧ ldI .u8 (rd h6 (Addr.add a10 (Int.toNat (IntKind.wrap .i64 (x3 + x8)) * 1))) (fun n11 => ptrK x0p (fun a12 => (0 ≤ (IntKind.wrap .i64 (x3 + x8)) ∧ (IntKind.wrap .i64 (x3 + x8)) < (Nat.cast x0l : Int) ∧ stK h6 (Addr.add (Addr.add a12 (Int.toNat (IntKind.wrap .i64 (x3 + x8)) * 1)) 0) (.int .u8 n9) (fun h13 => ((.slice x0p x0l x0c) = ((.slice x0p x0l x0c) : Value) ∧ ((.int .i64 x3) = ((.int .i64 x3) : Value) ∧ ((.int .i64 x9) = ((.int .i64 x9) : Value) ∧ ((.int .i64 (IntKind.wrap .i64 (x3 + x9))) = ((.int .i64 (IntKind.wrap .i64 (x3 + x9))) : Value) ∧ ptrK x0p (fun a14 => (0 ≤ (IntKind.wrap .i64 (x3 + x9)) ∧ (IntKind.wrap .i64 (x3 + x9)) < (Nat.cast x0l : Int) ∧ stK h13 (Addr.add (Addr.add a14 (Int.toNat (IntKind.wrap .i64 (x3 + x9)) * 1)) 0) (.int .u8 n11) (fun h15 => bk1 x0p x0l x0c x2 x3 x9 h15)))))))))))))))))))))))))
theorem Ek5 (S : Stop) (n1 : Nat) (x0p : Option Addr) (x0l x0c : Nat) (x2 x3 x8 x9 : Int) (h : Heap) (K : KK) : (en S [1, 0, 0, 0, 1, 1, 1] (c2 S n1 K) (f5 x0p x0l x0c x2 x3 x8 x9) h) = Jk5 (fun x0p x0l x0c x2 x3 x8 h => S (ln S [1, 0, 0] (c0 S K) n1) (f1 x0p x0l x0c x2 x3 x8) h) x0p x0l x0c x2 x3 x8 x9 h K := by kernel_rfl
def wk5 (bk1 : (Option Addr) → Nat → Nat → Int → Int → Int → Heap → Prop) (x0p : Option Addr) (x0l x0c : Nat) (x2 x3 x8 x9 : Int) (h : Heap) (K : KK) : Prop :=
  Jk5 bk1 x0p x0l x0c x2 x3 x8 x9 h K
theorem ek5 (K : KK) (n1 : Nat) (bk1 : (Option Addr) → Nat → Nat → Int → Int → Int → Heap → Prop) (hb1 : ∀ (x0p : Option Addr) (x0l x0c : Nat) (x2 x3 x8 : Int) (h : Heap), (ln S0 [1, 0, 0] (c0 S0 K) n1 (f1 x0p x0l x0c x2 x3 x8) h) = bk1 x0p x0l x0c x2 x3 x8 h) (x0p : Option Addr) (x0l x0c : Nat) (x2 x3 x8 x9 : Int) (h : Heap) : (en S0 [1, 0, 0, 0, 1, 1, 1] (c2 S0 n1 K) (f5 x0p x0l x0c x2 x3 x8 x9) h) = wk5 bk1 x0p x0l x0c x2 x3 x8 x9 h K := (Ek5 S0 n1 x0p x0l x0c x2 x3 x8 x9 h K).trans (cg1 (fun q0 => Jk5 q0 x0p x0l x0c x2 x3 x8 x9 h K) (by funext x0p x0l x0c x2 x3 x8 h; exact hb1 x0p x0l x0c x2 x3 x8 h))
def wL1 : Nat → (Option Addr) → Nat → Nat → Int → Int → Int → Heap → KK → Prop
  | 0, _, _, _, _, _, _, _, _ => False
  | n + 1, x0p, x0l, x0c, x2, x3, x8, h, K => JL1 (fun x0p x0l x0c x2 x3 x8 x9 h => wk5 (fun x0p x0l x0c x2 x3 x8 h => wL1 n x0p x0l x0c x2 x3 x8 h K) x0p x0l x0c x2 x3 x8 x9 h K) x0p x0l x0c x2 x3 x8 h K
theorem eL1 (K : KK) : ∀ (n : Nat) (x0p : Option Addr) (x0l x0c : Nat) (x2 x3 x8 : Int) (h : Heap), (ln S0 [1, 0, 0] (c0 S0 K) n (f1 x0p x0l x0c x2 x3 x8) h) = wL1 n x0p x0l x0c x2 x3 x8 h K
  | 0, _, _, _, _, _, _, _ => rfl
  | n + 1, x0p, x0l, x0c, x2, x3, x8, h => (EL1 S0 n x0p x0l x0c x2 x3 x8 h K).trans (cg1 (fun q0 => JL1 q0 x0p x0l x0c x2 x3 x8 h K) (by funext x0p x0l x0c x2 x3 x8 x9 h; exact ek5 K n (fun x0p x0l x0c x2 x3 x8 h => wL1 n x0p x0l x0c x2 x3 x8 h K) (fun x0p x0l x0c x2 x3 x8 h => eL1 K n x0p x0l x0c x2 x3 x8 h) x0p x0l x0c x2 x3 x8 x9 h))
def wk1 (x0p : Option Addr) (x0l x0c : Nat) (x2 x3 x8 : Int) (h : Heap) (K : KK) : Prop :=
  Jk1 (fun x0p x0l x0c x2 x3 x8 h => ∃ m, wL1 m x0p x0l x0c x2 x3 x8 h K) x0p x0l x0c x2 x3 x8 h K
theorem ek1 (K : KK) (x0p : Option Addr) (x0l x0c : Nat) (x2 x3 x8 : Int) (h : Heap) : (en S0 [1] (fn K) (f1 x0p x0l x0c x2 x3 x8) h) = wk1 x0p x0l x0c x2 x3 x8 h K := (Ek1 S0 x0p x0l x0c x2 x3 x8 h K).trans (cg1 (fun q0 => Jk1 q0 x0p x0l x0c x2 x3 x8 h K) (by funext x0p x0l x0c x2 x3 x8 h; exact ex_congr fun m => eL1 K m x0p x0l x0c x2 x3 x8 h))
def w (x0p : Option Addr) (x0l x0c : Nat) (x1 x2 x3 : Int) (h : Heap) (K : KK) : Prop :=
  J0 (fun x0p x0l x0c x2 x3 x8 h => wk1 x0p x0l x0c x2 x3 x8 h K) x0p x0l x0c x1 x2 x3 h K
theorem e0 (K : KK) (x0p : Option Addr) (x0l x0c : Nat) (x1 x2 x3 : Int) (h : Heap) : (E Tryz.prog X T S0 body (fin Tryz.prog Tryz.f115.results.toList K) (args0 0 [(.slice x0p x0l x0c), (.int .i64 x1), (.int .i64 x2), (.int .i64 x3)]) h) = w x0p x0l x0c x1 x2 x3 h K := (E0 S0 x0p x0l x0c x1 x2 x3 h K).trans (cg1 (fun q0 => J0 q0 x0p x0l x0c x1 x2 x3 h K) (by funext x0p x0l x0c x2 x3 x8 h; exact ek1 K x0p x0l x0c x2 x3 x8 h))
theorem hb : Tryz.f115.body = some body := by kernel_rfl
theorem ok : okCode T Tryz.f115.ntmps body = true := by kernel_rfl
theorem spec (x0p : Option Addr) (x0l : Nat) (x0c : Nat) (x1 : Int) (x2 : Int) (x3 : Int) (h : Heap) (K : KK) (H : w x0p x0l x0c x1 x2 x3 h K) : CallsH Tryz.prog 115 [(.slice x0p x0l x0c), (.int .i64 x1), (.int .i64 x2), (.int .i64 x3)] h K :=
  calls_of_E (T := T) Xok mix Tryz.func115 hb ok rfl (by rw [e0]; exact H)
end F115
-- slices.nextPowerOfTwo
namespace F116
def T : Hint := ⟨[], []⟩
noncomputable def body : Code := (Tryz.f116.body).getD .skip
def J0 (x0 : Int) (h : Heap) (K : KK) : Prop :=
  CallsH Tryz.prog 83 [(.int .u64 (IntKind.wrap .u64 x0))] h (fun v1 h2 => ldI .i64 (some v1) (fun n3 => (0 ≤ n3 ∧ K (.int .u64 (IntKind.wrap .u64 ((1 : Int) * 2 ^ (min (Int.toNat n3) (IntKind.bits .u64))))) h2)))
theorem E0 (S : Stop) (x0 : Int) (h : Heap) (K : KK) : (E Tryz.prog X T S body (fin Tryz.prog Tryz.f116.results.toList K) (args0 0 [(.int .i64 x0)]) h) = J0 x0 h K := by kernel_rfl
def w (x0 : Int) (h : Heap) (K : KK) : Prop :=
  J0 x0 h K
theorem e0 (K : KK) (x0 : Int) (h : Heap) : (E Tryz.prog X T S0 body (fin Tryz.prog Tryz.f116.results.toList K) (args0 0 [(.int .i64 x0)]) h) = w x0 h K := (E0 S0 x0 h K).trans (rfl)
theorem hb : Tryz.f116.body = some body := by kernel_rfl
theorem ok : okCode T Tryz.f116.ntmps body = true := by kernel_rfl
theorem spec (x0 : Int) (h : Heap) (K : KK) (H : w x0 h K) : CallsH Tryz.prog 116 [(.int .i64 x0)] h K :=
  calls_of_E (T := T) Xok mix Tryz.func116 hb ok rfl (by rw [e0]; exact H)
end F116
-- (*slices.xorshift).Next
namespace F117
def T : Hint := ⟨[], [(1, [[(0, []), (1, []), (2, []), (3, []), (4, []), (5, []), (6, []), (7, []), (8, []), (9, [])]]), (2, [[(0, []), (1, []), (2, []), (3, []), (4, []), (5, []), (6, []), (7, []), (8, []), (9, [])]]), (3, [[(0, []), (1, []), (2, []), (3, []), (4, []), (5, []), (6, []), (7, []), (8, []), (9, [])]])]⟩
noncomputable def body : Code := (Tryz.f117.body).getD .skip
def J0 (x0 : Addr) (h : Heap) (K : KK) : Prop :=
  ldI .u64 (rd h x0) (fun n1 => ldI .u64 (rd h x0) (fun n2 => (0 ≤ (13 : Int) ∧ stK h (Addr.add x0 0) (.int .u64 (bitsI .xor .u64 n1 (IntKind.wrap .u64 (n2 * 2 ^ (min (Int.toNat (13 : Int)) (IntKind.bits .u64)))))) (fun h3 => ldI .u64 (rd h3 x0) (fun n4 => ldI .u64 (rd h3 x0) (fun n5 => (0 ≤ (7 : Int) ∧ stK h3 (Addr.add x0 0) (.int .u64 (bitsI .xor .u64 n4 (Int.fdiv n5 (2 ^ (min (Int.toNat (7 : Int)) (IntKind.bits .u64)))))) (fun h6 => ldI .u64 (rd h6 x0) (fun n7 => ldI .u64 (rd h6 x0) (fun n8 => (0 ≤ (17 : Int) ∧ stK h6 (Addr.add x0 0) (.int .u64 (bitsI .xor .u64 n7 (IntKind.wrap .u64 (n8 * 2 ^ (min (Int.toNat (17 : Int)) (IntKind.bits .u64)))))) (fun h9 => ldI .u64 (rd h9 x0) (fun n10 => K (.int .u64 n10) h9)))))))))))))
theorem E0 (S : Stop) (x0 : Addr) (h : Heap) (K : KK) : (E Tryz.prog X T S body (fin Tryz.prog Tryz.f117.results.toList K) (args0 0 [(.pointer (some x0))]) h) = J0 x0 h K := by kernel_rfl
def w (x0 : Addr) (h : Heap) (K : KK) : Prop :=
  J0 x0 h K
theorem e0 (K : KK) (x0 : Addr) (h : Heap) : (E Tryz.prog X T S0 body (fin Tryz.prog Tryz.f117.results.toList K) (args0 0 [(.pointer (some x0))]) h) = w x0 h K := (E0 S0 x0 h K).trans (rfl)
theorem hb : Tryz.f117.body = some body := by kernel_rfl
theorem ok : okCode T Tryz.f117.ntmps body = true := by kernel_rfl
theorem spec (x0 : Addr) (h : Heap) (K : KK) (H : w x0 h K) : CallsH Tryz.prog 117 [(.pointer (some x0))] h K :=
  calls_of_E (T := T) Xok mix Tryz.func117 hb ok rfl (by rw [e0]; exact H)
end F117
-- slices.medianAdjacentOrdered[uint8]
namespace F118
def T : Hint := ⟨[], []⟩
noncomputable def body : Code := (Tryz.f118.body).getD .skip
def J0 (x0p : Option Addr) (x0l x0c : Nat) (x1 : Int) (x2 : Addr) (h : Heap) (K : KK) : Prop :=
  CallsH Tryz.prog 119 [(.slice x0p x0l x0c), (.int .i64 (IntKind.wrap .i64 (x1 - (1 : Int)))), (.int .i64 x1), (.int .i64 (IntKind.wrap .i64 (x1 + (1 : Int)))), (.pointer (some x2))] h (fun v1 h2 => ldI .i64 (some v1) (fun n3 => K (.int .i64 n3) h2))
theorem E0 (S : Stop) (x0p : Option Addr) (x0l x0c : Nat) (x1 : Int) (x2 : Addr) (h : Heap) (K : KK) : (E Tryz.prog X T S body (fin Tryz.prog Tryz.f118.results.toList K) (args0 0 [(.slice x0p x0l x0c), (.int .i64 x1), (.pointer (some x2))]) h) = J0 x0p x0l x0c x1 x2 h K := by kernel_rfl
def w (x0p : Option Addr) (x0l x0c : Nat) (x1 : Int) (x2 : Addr) (h : Heap) (K : KK) : Prop :=
  J0 x0p x0l x0c x1 x2 h K
theorem e0 (K : KK) (x0p : Option Addr) (x0l x0c : Nat) (x1 : Int) (x2 : Addr) (h : Heap) : (E Tryz.prog X T S0 body (fin Tryz.prog Tryz.f118.results.toList K) (args0 0 [(.slice x0p x0l x0c), (.int .i64 x1), (.pointer (some x2))]) h) = w x0p x0l x0c x1 x2 h K := (E0 S0 x0p x0l x0c x1 x2 h K).trans (rfl)
theorem hb : Tryz.f118.body = some body := by kernel_rfl
theorem ok : okCode T Tryz.f118.ntmps body = true := by kernel_rfl
theorem spec (x0p : Option Addr) (x0l : Nat) (x0c : Nat) (x1 : Int) (x2 : Addr) (h : Heap) (K : KK) (H : w x0p x0l x0c x1 x2 h K) : CallsH Tryz.prog 118 [(.slice x0p x0l x0c), (.int .i64 x1), (.pointer (some x2))] h K :=
  calls_of_E (T := T) Xok mix Tryz.func118 hb ok rfl (by rw [e0]; exact H)
end F118
-- slices.medianOrdered[uint8]
namespace F119
def T : Hint := ⟨[], []⟩
noncomputable def body : Code := (Tryz.f119.body).getD .skip
def J0 (x0p : Option Addr) (x0l x0c : Nat) (x1 x2 x3 : Int) (x4 : Addr) (h : Heap) (K : KK) : Prop :=
  CallsH Tryz.prog 128 [(.slice x0p x0l x0c), (.int .i64 x1), (.int .i64 x2), (.pointer (some x4))] h (fun v1 h2 => (∃ n3 : Int, ∃ n4 : Int, v1 = (.tuple #[(.int .i64 n3), (.int .i64 n4)]) ∧ CallsH Tryz.prog 128 [(.slice x0p x0l x0c), (.int .i64 n4), (.int .i64 x3), (.pointer (some x4))] h2 (fun v5 h6 => (∃ n7 : Int, ∃ n8 : Int, v5 = (.tuple #[(.int .i64 n7), (.int .i64 n8)]) ∧ CallsH Tryz.prog 128 [(.slice x0p x0l x0c), (.int .i64 n3), (.int .i64 n7), (.pointer (some x4))] h6 (fun v9 h10 => (∃ n11 : Int, ∃ n12 : Int, v9 = (.tuple #[(.int .i64 n11), (.int .i64 n12)]) ∧ K (.int .i64 n12) h10))))))
theorem E0 (S : Stop) (x0p : Option Addr) (x0l x0c : Nat) (x1 x2 x3 : Int) (x4 : Addr) (h : Heap) (K : KK) : (E Tryz.prog X T S body (fin Tryz.prog Tryz.f119.results.toList K) (args0 0 [(.slice x0p x0l x0c), (.int .i64 x1), (.int .i64 x2), (.int .i64 x3), (.pointer (some x4))]) h) = J0 x0p x0l x0c x1 x2 x3 x4 h K := by kernel_rfl
def w (x0p : Option Addr) (x0l x0c : Nat) (x1 x2 x3 : Int) (x4 : Addr) (h : Heap) (K : KK) : Prop :=
  J0 x0p x0l x0c x1 x2 x3 x4 h K
theorem e0 (K : KK) (x0p : Option Addr) (x0l x0c : Nat) (x1 x2 x3 : Int) (x4 : Addr) (h : Heap) : (E Tryz.prog X T S0 body (fin Tryz.prog Tryz.f119.results.toList K) (args0 0 [(.slice x0p x0l x0c), (.int .i64 x1), (.int .i64 x2), (.int .i64 x3), (.pointer (some x4))]) h) = w x0p x0l x0c x1 x2 x3 x4 h K := (E0 S0 x0p x0l x0c x1 x2 x3 x4 h K).trans (rfl)
theorem hb : Tryz.f119.body = some body := by kernel_rfl
theorem ok : okCode T Tryz.f119.ntmps body = true := by kernel_rfl
theorem spec (x0p : Option Addr) (x0l : Nat) (x0c : Nat) (x1 : Int) (x2 : Int) (x3 : Int) (x4 : Addr) (h : Heap) (K : KK) (H : w x0p x0l x0c x1 x2 x3 x4 h K) : CallsH Tryz.prog 119 [(.slice x0p x0l x0c), (.int .i64 x1), (.int .i64 x2), (.int .i64 x3), (.pointer (some x4))] h K :=
  calls_of_E (T := T) Xok mix Tryz.func119 hb ok rfl (by rw [e0]; exact H)
end F119
-- slices.order2Ordered[uint8]
namespace F128
def T : Hint := ⟨[], [(1, [[(0, []), (1, []), (2, []), (3, []), (4, []), (5, []), (6, []), (7, []), (8, [])]])]⟩
noncomputable def body : Code := (Tryz.f128.body).getD .skip
def J0 (x0p : Option Addr) (x0l _x0c : Nat) (x1 x2 : Int) (x3 : Addr) (h : Heap) (K : KK) : Prop :=
  ptrK x0p (fun a1 => (0 ≤ x2 ∧ x2 < (Nat.cast x0l : Int) ∧ ldI .u8 (rd h (Addr.add a1 (Int.toNat x2 * 1))) (fun n2 => ptrK x0p (fun a3 => (0 ≤ x1 ∧ x1 < (Nat.cast x0l : Int) ∧ ldI .u8 (rd h (Addr.add a3 (Int.toNat x1 * 1))) (fun n4 => CallsH Tryz.prog 66 [(.int .u8 n2), (.int .u8 n4)] h (fun v5 h6 => ldB (some v5) (fun b7 => bcase b7 (ldI .i64 (rd h6 x3) (fun n8 => stK h6 (Addr.add x3 0) (.int .i64 (IntKind.wrap .i64 (n8 + (1 : Int)))) (fun h9 => K (.tuple #[(.int .i64 x2), (.int .i64 x1)]) h9))) (K (.tuple #[(.int .i64 x1), (.int .i64 x2)]) h6)))))))))
theorem E0 (S : Stop) (x0p : Option Addr) (x0l x0c : Nat) (x1 x2 : Int) (x3 : Addr) (h : Heap) (K : KK) : (E Tryz.prog X T S body (fin Tryz.prog Tryz.f128.results.toList K) (args0 0 [(.slice x0p x0l x0c), (.int .i64 x1), (.int .i64 x2), (.pointer (some x3))]) h) = J0 x0p x0l x0c x1 x2 x3 h K := by kernel_rfl
def w (x0p : Option Addr) (x0l x0c : Nat) (x1 x2 : Int) (x3 : Addr) (h : Heap) (K : KK) : Prop :=
  J0 x0p x0l x0c x1 x2 x3 h K
theorem e0 (K : KK) (x0p : Option Addr) (x0l x0c : Nat) (x1 x2 : Int) (x3 : Addr) (h : Heap) : (E Tryz.prog X T S0 body (fin Tryz.prog Tryz.f128.results.toList K) (args0 0 [(.slice x0p x0l x0c), (.int .i64 x1), (.int .i64 x2), (.pointer (some x3))]) h) = w x0p x0l x0c x1 x2 x3 h K := (E0 S0 x0p x0l x0c x1 x2 x3 h K).trans (rfl)
theorem hb : Tryz.f128.body = some body := by kernel_rfl
theorem ok : okCode T Tryz.f128.ntmps body = true := by kernel_rfl
theorem spec (x0p : Option Addr) (x0l : Nat) (x0c : Nat) (x1 : Int) (x2 : Int) (x3 : Addr) (h : Heap) (K : KK) (H : w x0p x0l x0c x1 x2 x3 h K) : CallsH Tryz.prog 128 [(.slice x0p x0l x0c), (.int .i64 x1), (.int .i64 x2), (.pointer (some x3))] h K :=
  calls_of_E (T := T) Xok mix Tryz.func128 hb ok rfl (by rw [e0]; exact H)
end F128
end Go.Proofs.YtnbnlhpleomaoaaGreat.Ev
/- SORTING: a row turned round; a heap, and sorting by it. Conditions: the row stands (Arr). -/
namespace Go.Proofs.YtnbnlhpleomaoaaGreat.Ev
open Go
theorem rev80L {b n a e c : Nat} {sp : List Value} {K : Value → Heap → Prop} (he : e ≤ n) (hn : n ≤ LB - 2) :
    ∀ (d : Nat) (i : Nat) (y : Int) (g : Nat → Int) (h : Heap), Arr .u8 h b n g sp → a ≤ i → i ≤ n + 1 → y < e → -1 ≤ y → y ≤ i + d → (∀ h' g', Arr .u8 h' b n g' sp → Swp a e g g' → Only [b] h h' → K (.tuple #[]) h') →
      F100.wL2 (d + 1) (some ⟨b, 0, none⟩) n c i y h K := by
  intro d
  have hLB : LB = 140737488355328 := rfl
  induction d with
  | zero =>
    intro i y g h A h1 h1' h2 h2' h3 hK
    unfold F100.wL2 F100.JL2
    rw [show decide ((i : Int) < y) = false by simp; omega]
    exact hK h g A (.refl g) (Only.refl _ _)
  | succ d ih =>
    intro i y g h A h1 h1' h2 h2' h3 hK
    unfold F100.wL2 F100.JL2
    refine bcase_of (fun hc => ?_) fun hc => ?_
    · simp only [decide_eq_true_eq] at hc
      obtain ⟨j, rfl⟩ : ∃ j : Nat, y = j := ⟨y.toNat, by omega⟩
      refine A.ld rfl (by omega) (A.ld rfl (by omega) (A.sto rfl (by omega) fun h1 A1 O1 => ⟨rfl, rfl, A1.sto rfl (by omega) fun h2 A2 O2 => ?_⟩))
      have A2' : Arr .u8 h2 b n (swp g i j) sp := A2
      rw [show IntKind.wrap .i64 ((i : Int) + 1) = ((i + 1 : Nat) : Int) by rw [wrapN (by omega) (by omega)]; omega, wrapN (x := (j : Int) - 1) (by omega) (by omega)]
      exact ih (i + 1) _ _ h2 A2' (by omega) (by omega) (by omega) (by omega) (by omega) fun h' g' A' S' O' => hK h' g' A' ((Swp.one g (by omega) (by omega) (by omega) (by omega)).trans S') ((O1.trans O2 (by simp)).trans O' (by simp))
    · exact hK h g A (.refl g) (Only.refl _ _)
theorem rev80 {h : Heap} {b n a e c : Nat} {g : Nat → Int} {sp : List Value} {K : Value → Heap → Prop} (A : Arr .u8 h b n g sp) (he : e ≤ n) (ha : a ≤ n) (hn : n ≤ LB - 2)
    (hK : ∀ h' g', Arr .u8 h' b n g' sp → Swp a e g g' → Only [b] h h' → K (.tuple #[]) h') : CallsH Tryz.prog 100 [.slice (some ⟨b, 0, none⟩) n c, .int .i64 a, .int .i64 e] h K := by
  refine F100.spec _ _ _ _ _ h K ?_
  unfold F100.w F100.J0 F100.wk2 F100.Jk2
  have hLB : LB = 140737488355328 := rfl
  rw [wrapN (x := (e : Int) - 1) (by omega) (by omega)]
  exact ⟨e + 1, rev80L he hn e a _ g h A (Nat.le_refl _) (by omega) (by omega) (by omega) (by omega) hK⟩

/-- a heap from lo on, but for what r's children need -/
def Hp (lo hi r : Nat) (u : Nat → Int) : Prop :=
  (∀ k c, lo ≤ k → k ≠ r → (c = 2 * k + 1 ∨ c = 2 * k + 2) → c < hi → u c ≤ u k) ∧ (∀ k c, lo ≤ k → (r = 2 * k + 1 ∨ r = 2 * k + 2) → (c = 2 * r + 1 ∨ c = 2 * r + 2) → c < hi → u c ≤ u k)
def Hpf (lo hi : Nat) (u : Nat → Int) : Prop := ∀ k c, lo ≤ k → (c = 2 * k + 1 ∨ c = 2 * k + 2) → c < hi → u c ≤ u k
theorem Hp.stop {lo hi r : Nat} {u : Nat → Int} (H : Hp lo hi r u) (h : ∀ c, (c = 2 * r + 1 ∨ c = 2 * r + 2) → c < hi → u c ≤ u r) : Hpf lo hi u := fun k c h1 h2 h3 => by
  by_cases hk : k = r
  · subst hk; exact h c h2 h3
  · exact H.1 k c h1 hk h2 h3
theorem Hp.step {lo hi r ch : Nat} {u : Nat → Int} (H : Hp lo hi r u) (hr : lo ≤ r) (hch : ch = 2 * r + 1 ∨ ch = 2 * r + 2) (hh : ch < hi) (hb : ∀ c, (c = 2 * r + 1 ∨ c = 2 * r + 2) → c < hi → u c ≤ u ch) (hl : u r < u ch) :
    Hp lo hi ch (swp u r ch) := by
  refine ⟨fun k c h1 h2 h3 h4 => ?_, fun k c h1 h2 h3 h4 => ?_⟩
  · by_cases hk : k = r
    · subst hk
      rw [swp_i]
      by_cases hc : c = ch
      · subst hc
        rw [swp_j]
        exact Int.le_of_lt hl
      · rw [swp_o u (by omega) hc]
        exact hb c h3 h4
    · rw [swp_o u hk h2]
      by_cases hc : c = r
      · subst hc
        rw [swp_i]
        exact H.2 k ch h1 h3 hch hh
      · have hc' : c ≠ ch := by omega
        rw [swp_o u hc hc']
        exact H.1 k c h1 hk h3 h4
  · have hk : k = r := by omega
    subst hk
    rw [swp_i, swp_o u (by omega) (by omega)]
    exact H.1 ch c (by omega) (by omega) h3 h4
theorem Hpf.max {hi : Nat} {u : Nat → Int} (H : Hpf 0 hi u) : ∀ k, k < hi → u k ≤ u 0 := by
  intro k
  induction k using Nat.strongRecOn with
  | _ k ih =>
    intro hk
    by_cases h0 : k = 0
    · subst h0; exact Int.le_refl _
    · exact Int.le_trans (H ((k - 1) / 2) k (by omega) (by omega) hk) (ih ((k - 1) / 2) (by omega) (by omega))
def sh (a : Nat) (g : Nat → Int) : Nat → Int := fun k => g (a + k)
theorem sh_swp (a : Nat) (g : Nat → Int) (i j : Nat) : sh a (swp g (a + i) (a + j)) = swp (sh a g) i j := by
  funext k
  unfold sh swp
  simp only [Nat.add_left_cancel_iff]

theorem sift93L {b n a e c lo : Nat} {sp : List Value} {K : Value → Heap → Prop} (he : a + e ≤ n) (hn : n ≤ LB / 4) :
    ∀ (d : Nat) (r : Nat) (g : Nat → Int) (h : Heap), Arr .u8 h b n g sp → Hp lo e r (sh a g) → lo ≤ r → r < e → e ≤ r + d → (∀ h' g', Arr .u8 h' b n g' sp → Hpf lo e (sh a g') → Swp (a + lo) (a + e) g g' → Only [b] h h' → K (.tuple #[]) h') →
      F115.wL1 (d + 1) (some ⟨b, 0, none⟩) n c e a r h K := by
  intro d
  have hLB : LB = 140737488355328 := rfl
  induction d with
  | zero => intro r g h A H h1 h2 h3; omega
  | succ d ih =>
    intro r g h A H h1 h2 h3 hK
    unfold F115.wL1 F115.JL1
    have w1 : IntKind.wrap .i64 (IntKind.wrap .i64 ((2 : Int) * (r : Int)) + 1) = ((2 * r + 1 : Nat) : Int) := by
      rw [wrapN (x := (2 : Int) * r) (by omega) (by omega), wrapN (by omega) (by omega)]; omega
    have w2 : IntKind.wrap .i64 (((2 * r + 1 : Nat) : Int) + 1) = ((2 * r + 2 : Nat) : Int) := by rw [wrapN (by omega) (by omega)]; omega
    have below : ∀ ch : Nat, (ch = 2 * r + 1 ∨ ch = 2 * r + 2) → ch < e → (∀ c, (c = 2 * r + 1 ∨ c = 2 * r + 2) → c < e → sh a g c ≤ sh a g ch) →
        F115.wk5 (fun x0p x0l x0c x2 x3 x8 h => F115.wL1 (d + 1) x0p x0l x0c x2 x3 x8 h K) (some ⟨b, 0, none⟩) n c e a r ch h K := by
      intro ch hch hce hb
      unfold F115.wk5 F115.Jk5
      have w4 : IntKind.wrap .i64 ((a : Int) + (r : Int)) = ((a + r : Nat) : Int) := by rw [wrapN (by omega) (by omega)]; omega
      have w5 : IntKind.wrap .i64 ((a : Int) + (ch : Int)) = ((a + ch : Nat) : Int) := by rw [wrapN (by omega) (by omega)]; omega
      rw [w4, w5]
      refine A.ld rfl (by omega) (A.ld rfl (by omega) (less82 ?_))
      rw [ldB_some]
      refine bcase_of (fun hl => ?_) fun hl => ?_
      · simp only [Bool.not_eq_true', decide_eq_false_iff_not] at hl
        refine hK h g A (H.stop fun c h4 h5 => Int.le_trans (hb c h4 h5) ?_) (.refl g) (Only.refl _ _)
        show g (a + ch) ≤ g (a + r)
        omega
      · simp only [Bool.not_eq_false', decide_eq_true_eq] at hl
        refine A.ld rfl (by omega) (A.ld rfl (by omega) (A.sto rfl (by omega) fun k1 A1 O1 => ⟨rfl, rfl, rfl, rfl, A1.sto rfl (by omega) fun k2 A2 O2 => ?_⟩))
        have A2' : Arr .u8 k2 b n (swp g (a + r) (a + ch)) sp := A2
        have H2 := H.step h1 hch hce hb hl
        rw [← sh_swp] at H2
        exact ih ch _ k2 A2' H2 (by omega) hce (by omega) fun h' g' A' R' S' O' => hK h' g' A' R' ((Swp.one g (by omega) (by omega) (by omega) (by omega)).trans S') ((O1.trans O2 (by simp)).trans O' (by simp))
    rw [w1, w2]
    refine bcase_of (fun hc => ?_) fun hc => ?_
    · simp only [decide_eq_true_eq] at hc
      exact hK h g A (H.stop fun c h4 h5 => by omega) (.refl g) (Only.refl _ _)
    · simp only [decide_eq_false_iff_not] at hc
      have w3 : IntKind.wrap .i64 ((a : Int) + ((2 * r + 1 : Nat) : Int)) = ((a + (2 * r + 1) : Nat) : Int) := by rw [wrapN (by omega) (by omega)]; omega
      rw [w3]
      refine bcase_of (fun hc2 => ?_) fun hc2 => ?_
      · simp only [decide_eq_true_eq] at hc2
        have w6 : IntKind.wrap .i64 (((a + (2 * r + 1) : Nat) : Int) + 1) = ((a + (2 * r + 2) : Nat) : Int) := by rw [wrapN (by omega) (by omega)]; omega
        rw [w6]
        refine A.ld rfl (by omega) (A.ld rfl (by omega) (less82 ?_))
        rw [ldB_some]
        refine bcase_of (fun hl => ?_) fun hl => ?_
        · simp only [decide_eq_true_eq] at hl
          refine below (2 * r + 2) (.inr rfl) (by omega) fun c h4 h5 => ?_
          rcases h4 with rfl | rfl
          · exact Int.le_of_lt hl
          · exact Int.le_refl _
        · simp only [decide_eq_false_iff_not] at hl
          refine below (2 * r + 1) (.inl rfl) (by omega) fun c h4 h5 => ?_
          rcases h4 with rfl | rfl
          · exact Int.le_refl _
          · show g (a + (2 * r + 2)) ≤ g (a + (2 * r + 1))
            omega
      · simp only [decide_eq_false_iff_not] at hc2
        refine below (2 * r + 1) (.inl rfl) (by omega) fun c h4 h5 => ?_
        rcases h4 with rfl | rfl
        · exact Int.le_refl _
        · omega
/-- sifting down -/
theorem sift93 {h : Heap} {b n a e c lo : Nat} {g : Nat → Int} {sp : List Value} {K : Value → Heap → Prop} (A : Arr .u8 h b n g sp) (H : Hpf (lo + 1) e (sh a g)) (hlo : lo < e ∨ e = 0) (he : a + e ≤ n) (hn : n ≤ LB / 4) (hl : lo ≤ n)
    (hK : ∀ h' g', Arr .u8 h' b n g' sp → Hpf lo e (sh a g') → Swp (a + lo) (a + e) g g' → Only [b] h h' → K (.tuple #[]) h') : CallsH Tryz.prog 115 [.slice (some ⟨b, 0, none⟩) n c, .int .i64 lo, .int .i64 e, .int .i64 a] h K := by
  refine F115.spec _ _ _ _ _ _ h K ?_
  unfold F115.w F115.J0 F115.wk1 F115.Jk1
  have hLB : LB = 140737488355328 := rfl
  rcases hlo with hlo | h0
  · refine ⟨e + 1, sift93L he hn e lo g h A ⟨fun k c h1 h2 h3 h4 => H k c (by omega) h3 h4, fun k c h1 h2 => by omega⟩ (Nat.le_refl _) hlo (by omega) hK⟩
  · subst h0
    refine ⟨1, ?_⟩
    unfold F115.wL1 F115.JL1
    have w1 : IntKind.wrap .i64 (IntKind.wrap .i64 ((2 : Int) * (lo : Int)) + 1) = ((2 * lo + 1 : Nat) : Int) := by
      rw [wrapN (x := (2 : Int) * lo) (by omega) (by omega), wrapN (by omega) (by omega)]; omega
    rw [w1, show decide ((((2 * lo + 1 : Nat) : Int)) ≥ ((0 : Nat) : Int)) = true by simp; omega]
    exact hK h g A (fun k c h1 h2 h3 => by omega) (.refl g) (Only.refl _ _)
end Go.Proofs.YtnbnlhpleomaoaaGreat.Ev
/- SORTING BY A HEAP. Conditions: the row stands (Arr). -/
namespace Go.Proofs.YtnbnlhpleomaoaaGreat.Ev
open Go
theorem pop77L {b n a e c : Nat} {sp : List Value} {K : Value → Heap → Prop} (he : a + e ≤ n) (hn : n ≤ LB / 4) :
    ∀ (m : Nat) (g : Nat → Int) (h : Heap), Arr .u8 h b n g sp → m ≤ e → Hpf 0 m (sh a g) → (∀ p q, m ≤ p → p < q → q < e → sh a g p ≤ sh a g q) → (∀ p q, p < m → m ≤ q → q < e → sh a g p ≤ sh a g q) →
      (∀ h' g', Arr .u8 h' b n g' sp → Srt a (a + e) g' → Swp a (a + e) g g' → Only [b] h h' → K (.tuple #[]) h') → F97.wL8 (m + 1) (some ⟨b, 0, none⟩) n c a ((m : Int) - 1) h K := by
  intro m
  have hLB : LB = 140737488355328 := rfl
  induction m with
  | zero =>
    intro g h A hm H T1 T2 hK
    unfold F97.wL8 F97.JL8
    rw [show decide ((((0 : Nat) : Int) - 1) ≥ 0) = false by simp]
    refine hK h g A (fun p q h1 h2 h3 => ?_) (.refl g) (Only.refl _ _)
    have := T1 (p - a) (q - a) (by omega) (by omega) (by omega)
    unfold sh at this
    rw [show a + (p - a) = p by omega, show a + (q - a) = q by omega] at this
    exact this
  | succ m ih =>
    intro g h A hm H T1 T2 hK
    unfold F97.wL8 F97.JL8
    rw [show (((m + 1 : Nat) : Int) - 1) = (m : Int) by omega, show decide ((m : Int) ≥ 0) = true by simp, bcase_true]
    have w4 : IntKind.wrap .i64 ((a : Int) + (m : Int)) = ((a + m : Nat) : Int) := by rw [wrapN (by omega) (by omega)]; omega
    rw [w4]
    refine A.ld rfl (by omega) (A.ld rfl (by omega) (A.sto rfl (by omega) fun k1 A1 O1 => ⟨rfl, rfl, rfl, rfl, A1.sto rfl (by omega) fun k2 A2 O2 => ?_⟩))
    have A2' : Arr .u8 k2 b n (swp g a (a + m)) sp := A2
    have e1 : sh a (swp g a (a + m)) = swp (sh a g) 0 m := by have := sh_swp a g 0 m; simpa using this
    have M := H.max
    refine sift93 (lo := 0) (e := m) A2' ?_ (by omega) (by omega) hn (by omega) fun h3 g3 A3 H3 S3 O3 => ⟨rfl, ?_⟩
    · rw [e1]
      intro k c h1 h2 h3
      rw [swp_o _ (by omega) (by omega), swp_o _ (by omega) (by omega)]
      exact H k c (by omega) h2 (by omega)
    · rw [wrapN (x := (m : Int) - 1) (by omega) (by omega)]
      have S3' : Swp (a + 0) (a + m) (swp g a (a + m)) g3 := S3
      have out : ∀ q, m ≤ q → sh a g3 q = sh a (swp g a (a + m)) q := fun q hq => S3'.out (.inr (by omega))
      have top : sh a (swp g a (a + m)) m = sh a g 0 := by rw [e1, swp_j]
      have rest : ∀ q, m < q → sh a (swp g a (a + m)) q = sh a g q := fun q hq => by rw [e1, swp_o _ (by omega) (by omega)]
      have small : ∀ p, p < m → sh a (swp g a (a + m)) p ≤ sh a g 0 ∧ ∀ q, m + 1 ≤ q → q < e → sh a (swp g a (a + m)) p ≤ sh a g q := fun p hp => by
        rw [e1]
        by_cases h0 : p = 0
        · subst h0
          rw [swp_i]
          exact ⟨M m (by omega), fun q hq hq' => T2 m q (by omega) hq hq'⟩
        · rw [swp_o _ h0 (by omega)]
          exact ⟨M p (by omega), fun q hq hq' => T2 p q (by omega) hq hq'⟩
      have small3 : ∀ p, p < m → sh a g3 p ≤ sh a g 0 ∧ ∀ q, m + 1 ≤ q → q < e → sh a g3 p ≤ sh a g q := fun p hp => by
        have := S3'.all (Q := fun v => v ≤ sh a g 0 ∧ ∀ q, m + 1 ≤ q → q < e → v ≤ sh a g q) (fun k h1 h2 => by
          have := small (k - a) (by omega)
          unfold sh at this ⊢
          rw [show a + (k - a) = k by omega] at this
          exact this) (a + p) (by omega) (by omega)
        exact this
      refine ih g3 h3 A3 (by omega) H3 (fun p q h1 h2 h4 => ?_) (fun p q h1 h2 h4 => ?_) fun h' g' A' R' S' O' => hK h' g' A' R' (((Swp.one g (by omega) (by omega) (by omega) (by omega)).trans (S3'.mono (by omega) (by omega))).trans S') (((O1.trans O2 (by simp)).trans O3 (by simp)).trans O' (by simp))
      · rw [out p h1, out q (by omega), rest q (by omega)]
        by_cases hp : p = m
        · subst hp
          rw [top]
          exact T2 0 q (by omega) (by omega) h4
        · rw [rest p (by omega)]
          exact T1 p q (by omega) h2 h4
      · rw [out q h2]
        by_cases hq : q = m
        · subst hq
          rw [top]
          exact (small3 p h1).1
        · rw [rest q (by omega)]
          exact (small3 p h1).2 q (by omega) h4
theorem build77L {b n a e c : Nat} {sp : List Value} {K : Value → Heap → Prop} (he : a + e ≤ n) (hn : n ≤ LB / 4) :
    ∀ (m : Nat) (g : Nat → Int) (h : Heap), Arr .u8 h b n g sp → m ≤ e ∨ e = 0 → m ≤ n + 1 → Hpf m e (sh a g) →
      (∀ h' g', Arr .u8 h' b n g' sp → Srt a (a + e) g' → Swp a (a + e) g g' → Only [b] h h' → K (.tuple #[]) h') → F97.wL4 (m + 1) (some ⟨b, 0, none⟩) n c a e ((m : Int) - 1) h K := by
  intro m
  have hLB : LB = 140737488355328 := rfl
  induction m with
  | zero =>
    intro g h A hm hm' H hK
    unfold F97.wL4 F97.JL4
    rw [show decide ((((0 : Nat) : Int) - 1) ≥ 0) = false by simp, bcase_false]
    unfold F97.wk7 F97.Jk7 F97.wk8 F97.Jk8
    dsimp only
    rw [wrapN (x := (e : Int) - 1) (by omega) (by omega)]
    exact ⟨e + 1, pop77L he hn e g h A (Nat.le_refl _) H (fun p q h1 h2 h3 => by omega) (fun p q h1 h2 h3 => by omega) hK⟩
  | succ m ih =>
    intro g h A hm hm' H hK
    unfold F97.wL4 F97.JL4
    rw [show (((m + 1 : Nat) : Int) - 1) = (m : Int) by omega, show decide ((m : Int) ≥ 0) = true by simp, bcase_true]
    refine sift93 A H (by omega) he hn (by omega) fun h3 g3 A3 H3 S3 O3 => ⟨rfl, ?_⟩
    rw [wrapN (x := (m : Int) - 1) (by omega) (by omega)]
    exact ih g3 h3 A3 (by omega) (by omega) H3 fun h' g' A' R' S' O' => hK h' g' A' R' ((S3.mono (by omega) (Nat.le_refl _)).trans S') (O3.trans O' (by simp))
/-- sorting by a heap -/
theorem heap77 {h : Heap} {b n a e c : Nat} {g : Nat → Int} {sp : List Value} {K : Value → Heap → Prop} (A : Arr .u8 h b n g sp) (he : e ≤ n) (ha : a ≤ e) (hn : n ≤ LB / 4)
    (hK : ∀ h' g', Arr .u8 h' b n g' sp → Srt a e g' → Swp a e g g' → Only [b] h h' → K (.tuple #[]) h') : CallsH Tryz.prog 97 [.slice (some ⟨b, 0, none⟩) n c, .int .i64 a, .int .i64 e] h K := by
  refine F97.spec _ _ _ _ _ h K ?_
  unfold F97.w F97.J0 F97.wk4 F97.Jk4
  have hLB : LB = 140737488355328 := rfl
  obtain ⟨d, rfl⟩ : ∃ d, e = a + d := ⟨e - a, by omega⟩
  have w1 : IntKind.wrap .i64 (((a + d : Nat) : Int) - (a : Int)) = (d : Int) := by rw [wrapN (by omega) (by omega)]; omega
  rw [w1, wrapN (x := (d : Int) - 1) (by omega) (by omega)]
  refine ⟨by omega, ?_⟩
  by_cases hd : d = 0
  · subst hd
    have w2 : IntKind.wrap .i64 (Int.tdiv (((0 : Nat) : Int) - 1) 2) = ((1 : Nat) : Int) - 1 := by decide
    rw [w2]
    exact ⟨2, build77L (by omega) hn 1 g h A (.inr rfl) (by omega) (fun k c h1 h2 h3 => by omega) hK⟩
  · have w2 : IntKind.wrap .i64 (Int.tdiv ((d : Int) - 1) 2) = (((d - 1) / 2 + 1 : Nat) : Int) - 1 := by
      rw [Int.tdiv_eq_ediv_of_nonneg (by omega), wrapN (by omega) (by omega)]; omega
    rw [w2]
    exact ⟨_, build77L (by omega) hn ((d - 1) / 2 + 1) g h A (.inl (by omega)) (by omega) (fun k c h1 h2 h3 => by omega) hK⟩
end Go.Proofs.YtnbnlhpleomaoaaGreat.Ev
/- PRINTED BY PROGRAM: what each of these functions does, computed over heaps by the evaluator, and that its calls do so. Conditions: none. -/
namespace Go.Proofs.YtnbnlhpleomaoaaGreat.Ev
open Go
-- math/bits.Len
namespace F83
def T : Hint := ⟨[], []⟩
noncomputable def body : Code := (Tryz.f83.body).getD .skip
def J0 (x0 : Int) (h : Heap) (K : KK) : Prop :=
  CallsH Tryz.prog 105 [(.int .u64 x0)] h (fun v1 h2 => ldI .i64 (some v1) (fun n3 => K (.int .i64 n3) h2))
theorem E0 (S : Stop) (x0 : Int) (h : Heap) (K : KK) : (E Tryz.prog X T S body (fin Tryz.prog Tryz.f83.results.toList K) (args0 0 [(.int .u64 x0)]) h) = J0 x0 h K := by kernel_rfl
def w (x0 : Int) (h : Heap) (K : KK) : Prop :=
  J0 x0 h K
theorem e0 (K : KK) (x0 : Int) (h : Heap) : (E Tryz.prog X T S0 body (fin Tryz.prog Tryz.f83.results.toList K) (args0 0 [(.int .u64 x0)]) h) = w x0 h K := (E0 S0 x0 h K).trans (rfl)
theorem hb : Tryz.f83.body = some body := by kernel_rfl
theorem ok : okCode T Tryz.f83.ntmps body = true := by kernel_rfl
theorem spec (x0 : Int) (h : Heap) (K : KK) (H : w x0 h K) : CallsH Tryz.prog 83 [(.int .u64 x0)] h K :=
  calls_of_E (T := T) Xok mix Tryz.func83 hb ok rfl (by rw [e0]; exact H)
end F83
-- math/bits.Len64
namespace F105
def T : Hint := ⟨[(4, [0, 2]), (7, [0, 2]), (10, [0, 2])], []⟩
noncomputable def body : Code := (Tryz.f105.body).getD .skip
noncomputable def en (S : Stop) (p : List Nat) (κ : XK) : Fr → Heap → Prop := E Tryz.prog X T S (sub body p) κ
def fn (K : KK) : XK := fin Tryz.prog Tryz.f105.results.toList K
def f4 (x0 x2 : Int) : Fr := [(0, (.int .u64 x0)), (2, (.int .i64 x2))]
def f7 (x0 x2 : Int) : Fr := [(0, (.int .u64 x0)), (2, (.int .i64 x2))]
def f10 (x0 x2 : Int) : Fr := [(0, (.int .u64 x0)), (2, (.int .i64 x2))]
def J0 (k4 : Int → Int → Heap → Prop) (x0 : Int) (h : Heap) (_K : KK) : Prop :=
  bcase (decide (x0 ≥ (4294967296 : Int))) ((0 ≤ (32 : Int) ∧ k4 (Int.fdiv x0 (2 ^ (min (Int.toNat (32 : Int)) (IntKind.bits .u64)))) (32 : Int) h)) (k4 x0 (0 : Int) h)
theorem E0 (S : Stop) (x0 : Int) (h : Heap) (K : KK) : (E Tryz.prog X T S body (fin Tryz.prog Tryz.f105.results.toList K) (args0 0 [(.int .u64 x0)]) h) = J0 (fun x0 x2 h => S (en S [1, 1] (fn K)) (f4 x0 x2) h) x0 h K := by kernel_rfl
def Jk4 (k7 : Int → Int → Heap → Prop) (x0 x2 : Int) (h : Heap) (_K : KK) : Prop :=
  bcase (decide (x0 ≥ (65536 : Int))) ((0 ≤ (16 : Int) ∧ k7 (Int.fdiv x0 (2 ^ (min (Int.toNat (16 : Int)) (IntKind.bits .u64)))) (IntKind.wrap .i64 (x2 + (16 : Int))) h)) (k7 x0 x2 h)
theorem Ek4 (S : Stop) (x0 x2 : Int) (h : Heap) (K : KK) : (en S [1, 1] (fn K) (f4 x0 x2) h) = Jk4 (fun x0 x2 h => S (en S [1, 1, 1] (fn K)) (f7 x0 x2) h) x0 x2 h K := by kernel_rfl
def Jk7 (k10 : Int → Int → Heap → Prop) (x0 x2 : Int) (h : Heap) (_K : KK) : Prop :=
  bcase (decide (x0 ≥ (256 : Int))) ((0 ≤ (8 : Int) ∧ k10 (Int.fdiv x0 (2 ^ (min (Int.toNat (8 : Int)) (IntKind.bits .u64)))) (IntKind.wrap .i64 (x2 + (8 : Int))) h)) (k10 x0 x2 h)
theorem Ek7 (S : Stop) (x0 x2 : Int) (h : Heap) (K : KK) : (en S [1, 1, 1] (fn K) (f7 x0 x2) h) = Jk7 (fun x0 x2 h => S (en S [1, 1, 1, 1] (fn K)) (f10 x0 x2) h) x0 x2 h K := by kernel_rfl
def Jk10 (x0 x2 : Int) (h : Heap) (K : KK) : Prop :=
  (0 ≤ (IntKind.wrap .u8 x0) ∧ strK (ByteArray.mk #[0, 1, 2, 2, 3, 3, 3, 3, 4, 4, 4, 4, 4, 4, 4, 4, 5, 5, 5, 5, 5, 5, 5, 5, 5, 5, 5, 5, 5, 5, 5, 5, 6, 6, 6, 6, 6, 6, 6, 6, 6, 6, 6, 6, 6, 6, 6, 6, 6, 6, 6, 6, 6, 6, 6, 6, 6, 6, 6, 6, 6, 6, 6, 6, 7, 7, 7, 7, 7, 7, 7, 7, 7, 7, 7, 7, 7, 7, 7, 7, 7, 7, 7, 7, 7, 7, 7, 7, 7, 7, 7, 7, 7, 7, 7, 7, 7, 7, 7, 7, 7, 7, 7, 7, 7, 7, 7, 7, 7, 7, 7, 7, 7, 7, 7, 7, 7, 7, 7, 7, 7, 7, 7, 7, 7, 7, 7, 7, 8, 8, 8, 8, 8, 8, 8, 8, 8, 8, 8, 8, 8, 8, 8, 8, 8, 8, 8, 8, 8, 8, 8, 8, 8, 8, 8, 8, 8, 8, 8, 8, 8, 8, 8, 8, 8, 8, 8, 8, 8, 8, 8, 8, 8, 8, 8, 8, 8, 8, 8, 8, 8, 8, 8, 8, 8, 8, 8, 8, 8, 8, 8, 8, 8, 8, 8, 8, 8, 8, 8, 8, 8, 8, 8, 8, 8, 8, 8, 8, 8, 8, 8, 8, 8, 8, 8, 8, 8, 8, 8, 8, 8, 8, 8, 8, 8, 8, 8, 8, 8, 8, 8, 8, 8, 8, 8, 8, 8, 8, 8, 8, 8, 8, 8, 8, 8, 8, 8, 8, 8, 8, 8, 8, 8, 8, 8, 8]) (IntKind.wrap .u8 x0) fun n1 => K (.int .i64 (IntKind.wrap .i64 (x2 + (IntKind.wrap .i64 n1)))) h)
theorem Ek10 (S : Stop) (x0 x2 : Int) (h : Heap) (K : KK) : (en S [1, 1, 1, 1] (fn K) (f10 x0 x2) h) = Jk10 x0 x2 h K := by kernel_rfl
def wk10 (x0 x2 : Int) (h : Heap) (K : KK) : Prop :=
  Jk10 x0 x2 h K
theorem ek10 (K : KK) (x0 x2 : Int) (h : Heap) : (en S0 [1, 1, 1, 1] (fn K) (f10 x0 x2) h) = wk10 x0 x2 h K := (Ek10 S0 x0 x2 h K).trans (rfl)
def wk7 (x0 x2 : Int) (h : Heap) (K : KK) : Prop :=
  Jk7 (fun x0 x2 h => wk10 x0 x2 h K) x0 x2 h K
theorem ek7 (K : KK) (x0 x2 : Int) (h : Heap) : (en S0 [1, 1, 1] (fn K) (f7 x0 x2) h) = wk7 x0 x2 h K := (Ek7 S0 x0 x2 h K).trans (cg1 (fun q0 => Jk7 q0 x0 x2 h K) (by funext x0 x2 h; exact ek10 K x0 x2 h))
def wk4 (x0 x2 : Int) (h : Heap) (K : KK) : Prop :=
  Jk4 (fun x0 x2 h => wk7 x0 x2 h K) x0 x2 h K
theorem ek4 (K : KK) (x0 x2 : Int) (h : Heap) : (en S0 [1, 1] (fn K) (f4 x0 x2) h) = wk4 x0 x2 h K := (Ek4 S0 x0 x2 h K).trans (cg1 (fun q0 => Jk4 q0 x0 x2 h K) (by funext x0 x2 h; exact ek7 K x0 x2 h))
def w (x0 : Int) (h : Heap) (K : KK) : Prop :=
  J0 (fun x0 x2 h => wk4 x0 x2 h K) x0 h K
theorem e0 (K : KK) (x0 : Int) (h : Heap) : (E Tryz.prog X T S0 body (fin Tryz.prog Tryz.f105.results.toList K) (args0 0 [(.int .u64 x0)]) h) = w x0 h K := (E0 S0 x0 h K).trans (cg1 (fun q0 => J0 q0 x0 h K) (by funext x0 x2 h; exact ek4 K x0 x2 h))
theorem hb : Tryz.f105.body = some body := by kernel_rfl
theorem ok : okCode T Tryz.f105.ntmps body = true := by kernel_rfl
theorem spec (x0 : Int) (h : Heap) (K : KK) (H : w x0 h K) : CallsH Tryz.prog 105 [(.int .u64 x0)] h K :=
  calls_of_E (T := T) Xok mix Tryz.func105 hb ok rfl (by rw [e0]; exact H)
end F105
end Go.Proofs.YtnbnlhpleomaoaaGreat.Ev
/- SORTING: how many bits a number has; a row stirred. Conditions: the row stands (Arr). -/
namespace Go.Proofs.YtnbnlhpleomaoaaGreat.Ev
open Go
def chkT (tb : ByteArray) : Bool := (List.range 256).all fun y => match tb[y]? with | some b => b.toNat ≤ 8 && (y == 0 || (1 ≤ b.toNat && 2 ^ (b.toNat - 1) ≤ y)) | none => false
theorem chkT_spec {tb : ByteArray} (h : chkT tb = true) {y : Nat} (hy : y < 256) : ∃ b, tb[y]? = some b ∧ b.toNat ≤ 8 ∧ (1 ≤ y → 1 ≤ b.toNat ∧ 2 ^ (b.toNat - 1) ≤ y) := by
  unfold chkT at h
  rw [List.all_eq_true] at h
  have := h y (List.mem_range.2 hy)
  cases hb : tb[y]? with
  | none => rw [hb] at this; cases this
  | some b =>
    rw [hb] at this
    simp only [Bool.and_eq_true, Bool.or_eq_true, decide_eq_true_eq, beq_iff_eq] at this
    exact ⟨b, rfl, this.1, fun h1 => by rcases this.2 with h | h
                                        · omega
                                        · exact h⟩
theorem strK_len {tb : ByteArray} {y : Nat} {K : Int → Prop} (h : chkT tb = true) (hy : y < 256) (hK : ∀ n : Nat, n ≤ 8 → (1 ≤ y → 1 ≤ n ∧ 2 ^ (n - 1) ≤ y) → K (n : Int)) : strK tb (y : Int) K := by
  obtain ⟨b, hb, h8, h1⟩ := chkT_spec h hy
  exact ⟨b, by rw [Int.toNat_natCast]; exact hb, hK _ h8 h1⟩
theorem wrapU8 {x : Nat} (h : x < 256) : IntKind.wrap .u8 (x : Int) = x := by
  simp [IntKind.wrap, IntKind.bits, IntKind.signed]; omega
theorem k10_86 {x' s X : Nat} {h : Heap} {K : Value → Heap → Prop} (hx : x' < 256) (hs : s ≤ 56) (h1 : 2 ^ s * x' ≤ X) (h2 : 1 ≤ X → 1 ≤ x')
    (hK : ∀ L : Nat, L ≤ 64 → (1 ≤ X → 1 ≤ L ∧ 2 ^ (L - 1) ≤ X) → K (.int .i64 (L : Int)) h) : F105.wk10 x' s h K := by
  unfold F105.wk10 F105.Jk10
  rw [wrapU8 hx]
  refine ⟨by omega, ?_⟩
  refine strK_len (by decide +kernel) hx fun n hn8 hn1 => ?_
  have hLB : LB = 140737488355328 := rfl
  rw [wrapN (x := (n : Int)) (by omega) (by omega), wrapN (by omega) (by omega), show (s : Int) + (n : Int) = ((s + n : Nat) : Int) by omega]
  refine hK _ (by omega) fun hX => ?_
  obtain ⟨c1, c2⟩ := hn1 (h2 hX)
  refine ⟨by omega, ?_⟩
  rw [show s + n - 1 = s + (n - 1) by omega, Nat.pow_add]
  exact Nat.le_trans (Nat.mul_le_mul_left _ c2) h1
theorem fdivP {x k : Nat} : Int.fdiv (x : Int) ((k : Nat) : Int) = ((x / k : Nat) : Int) := by
  rw [Int.fdiv_eq_ediv_of_nonneg _ (by omega)]
  rfl
theorem len86 {X : Nat} {h : Heap} {K : Value → Heap → Prop} (hX : X < 18446744073709551616) (hK : ∀ L : Nat, L ≤ 64 → (1 ≤ X → 1 ≤ L ∧ 2 ^ (L - 1) ≤ X) → K (.int .i64 (L : Int)) h) :
    CallsH Tryz.prog 105 [.int .u64 (X : Int)] h K := by
  refine F105.spec _ h K ?_
  unfold F105.w F105.J0
  have k7 : ∀ x' s : Nat, x' < 65536 → s ≤ 48 → 2 ^ s * x' ≤ X → (1 ≤ X → 1 ≤ x') → F105.wk7 x' s h K := by
    intro x' s hx hs h1 h2
    unfold F105.wk7 F105.Jk7
    refine bcase_of (fun hc => ?_) fun hc => ?_
    · simp only [decide_eq_true_eq] at hc
      refine ⟨by omega, ?_⟩
      rw [show ((2 : Int) ^ (min (Int.toNat (8 : Int)) (IntKind.bits .u64))) = ((256 : Nat) : Int) by decide, fdivP, wrapN (by unfold LB; omega) (by unfold LB; omega), show (s : Int) + 8 = ((s + 8 : Nat) : Int) by omega]
      refine k10_86 (by omega) (by omega) (Nat.le_trans ?_ h1) (by omega) hK
      rw [Nat.pow_add, Nat.mul_assoc]
      exact Nat.mul_le_mul_left _ (by omega)
    · simp only [decide_eq_false_iff_not] at hc
      exact k10_86 (by omega) (by omega) h1 h2 hK
  have k4 : ∀ x' s : Nat, x' < 4294967296 → s ≤ 32 → 2 ^ s * x' ≤ X → (1 ≤ X → 1 ≤ x') → F105.wk4 x' s h K := by
    intro x' s hx hs h1 h2
    unfold F105.wk4 F105.Jk4
    refine bcase_of (fun hc => ?_) fun hc => ?_
    · simp only [decide_eq_true_eq] at hc
      refine ⟨by omega, ?_⟩
      rw [show ((2 : Int) ^ (min (Int.toNat (16 : Int)) (IntKind.bits .u64))) = ((65536 : Nat) : Int) by decide, fdivP, wrapN (by unfold LB; omega) (by unfold LB; omega), show (s : Int) + 16 = ((s + 16 : Nat) : Int) by omega]
      refine k7 _ _ (by omega) (by omega) (Nat.le_trans ?_ h1) (by omega)
      rw [Nat.pow_add, Nat.mul_assoc]
      exact Nat.mul_le_mul_left _ (by omega)
    · simp only [decide_eq_false_iff_not] at hc
      exact k7 _ _ (by omega) (by omega) h1 h2
  refine bcase_of (fun hc => ?_) fun hc => ?_
  · simp only [decide_eq_true_eq] at hc
    refine ⟨by omega, ?_⟩
    rw [show ((2 : Int) ^ (min (Int.toNat (32 : Int)) (IntKind.bits .u64))) = ((4294967296 : Nat) : Int) by decide, fdivP]
    exact k4 (X / 4294967296) 32 (by omega) (by omega) (by omega) (by omega)
  · simp only [decide_eq_false_iff_not] at hc
    exact k4 X 0 (by omega) (by omega) (by omega) (by omega)
theorem len68 {X : Nat} {h : Heap} {K : Value → Heap → Prop} (hX : X < 18446744073709551616) (hK : ∀ L : Nat, L ≤ 64 → (1 ≤ X → 1 ≤ L ∧ 2 ^ (L - 1) ≤ X) → K (.int .i64 (L : Int)) h) :
    CallsH Tryz.prog 83 [.int .u64 (X : Int)] h K := by
  refine F83.spec _ h K ?_
  unfold F83.w F83.J0
  exact len86 hX fun L h1 h2 => by rw [ldI_some]; exact hK L h1 h2
theorem pow94 {d : Nat} {h : Heap} {K : Value → Heap → Prop} (h1 : 1 ≤ d) (hd : d ≤ LB / 4) (hK : ∀ M : Nat, 1 ≤ M → M ≤ 2 * d → K (.int .u64 (M : Int)) h) : CallsH Tryz.prog 116 [.int .i64 (d : Int)] h K := by
  refine F116.spec _ h K ?_
  have hLB : LB = 140737488355328 := rfl
  unfold F116.w F116.J0
  rw [wrap_u64 (by omega) (by omega)]
  refine len68 (by omega) fun L hL hl => ?_
  obtain ⟨l1, l2⟩ := hl h1
  rw [ldI_some]
  refine ⟨by omega, ?_⟩
  have e : min (Int.toNat (L : Int)) (IntKind.bits .u64) = L := by
    rw [Int.toNat_natCast]
    show min L 64 = L
    omega
  rw [e]
  have l3 : 2 ^ L ≤ 2 * d := by
    rw [show L = (L - 1) + 1 by omega, Nat.pow_succ]
    omega
  have lp : 1 ≤ 2 ^ L := Nat.one_le_two_pow
  rw [show (1 : Int) * 2 ^ L = ((2 ^ L : Nat) : Int) by simp]
  generalize 2 ^ L = q at l3 lp ⊢
  rw [wrap_u64 (by omega) (by omega)]
  exact hK _ lp l3
theorem next95 {h : Heap} {b : Nat} {v : Int} {K : Value → Heap → Prop} (A : At h b [.int .u64 v]) (hK : ∀ h' v', At h' b [.int .u64 v'] → Only [b] h h' → K (.int .u64 v') h') : CallsH Tryz.prog 117 [.pointer (some ⟨b, 0, none⟩)] h K := by
  refine F117.spec _ h K ?_
  unfold F117.w F117.J0
  have rd0 : ∀ {h v}, At h b [.int .u64 v] → rd h ⟨b, 0, none⟩ = some (.int .u64 v) := fun A => A.rd 0
  rw [rd0 A, ldI_some, ldI_some]
  refine ⟨by decide, ?_⟩
  rw [add_mk]
  refine stK_at A (by simp) rfl fun h1 A1 O1 _ => ?_
  replace A1 : At h1 b [.int .u64 _] := A1
  rw [rd0 A1, ldI_some, ldI_some]
  refine ⟨by decide, ?_⟩
  refine stK_at A1 (by simp) rfl fun h2 A2 O2 _ => ?_
  replace A2 : At h2 b [.int .u64 _] := A2
  rw [rd0 A2, ldI_some, ldI_some]
  refine ⟨by decide, ?_⟩
  refine stK_at A2 (by simp) rfl fun h3 A3 O3 _ => ?_
  replace A3 : At h3 b [.int .u64 _] := A3
  rw [rd0 A3, ldI_some]
  exact hK _ _ A3 ((O1.trans O2 (by simp)).trans O3 (by simp))
theorem and_le {x : Int} {m : Nat} (hm : m < 18446744073709551616) : 0 ≤ bitsI .and .u64 x m ∧ bitsI .and .u64 x m ≤ m := by
  unfold bitsI
  have h1 : (BitVec.ofInt (IntKind.bits .u64) (m : Int)).toNat = m := by
    show (BitVec.ofInt 64 (m : Int)).toNat = m
    rw [BitVec.toNat_ofInt]
    omega
  have h2 : (BitVec.ofInt (IntKind.bits .u64) x &&& BitVec.ofInt (IntKind.bits .u64) (m : Int)).toNat ≤ m := by
    rw [BitVec.toNat_and, h1]
    exact Nat.and_le_right
  dsimp only
  rw [wrap_u64 (by omega) (by omega)]
  omega
theorem brk78L {b n a d c M B : Nat} {sp : List Value} {K : Value → Heap → Prop} (hd : 8 ≤ d) (he : a + d ≤ n) (hn : n ≤ LB / 4) (hM1 : 1 ≤ M) (hM2 : M ≤ 2 * d) (hB : B ≠ b) :
    ∀ (t i : Nat) (v : Int) (g : Nat → Int) (h : Heap), Arr .u8 h b n g sp → At h B [.int .u64 v] → i + t = a + d / 4 * 2 + 2 → a ≤ i →
      (∀ h' g', Arr .u8 h' b n g' sp → Swp a (a + d) g g' → Only [b, B] h h' → K (.tuple #[]) h') → F98.wL5 (t + 1) (some ⟨b, 0, none⟩) n c a d ⟨B, 0, none⟩ M i h K := by
  intro t
  have hLB : LB = 140737488355328 := rfl
  have w1 : IntKind.wrap .i64 (IntKind.wrap .i64 ((a : Int) + IntKind.wrap .i64 (IntKind.wrap .i64 (Int.tdiv (d : Int) 4) * 2)) + 1) = ((a + d / 4 * 2 + 1 : Nat) : Int) := by
    rw [Int.tdiv_eq_ediv_of_nonneg (by omega), wrapN (x := (d : Int) / 4) (by omega) (by omega), wrapN (x := (d : Int) / 4 * 2) (by omega) (by omega), wrapN (x := (a : Int) + (d : Int) / 4 * 2) (by omega) (by omega), wrapN (by omega) (by omega)]
    omega
  induction t with
  | zero =>
    intro i v g h A AB hi ha hK
    unfold F98.wL5 F98.JL5
    rw [w1]
    refine ⟨by decide, ?_⟩
    rw [show decide ((i : Int) ≤ ((a + d / 4 * 2 + 1 : Nat) : Int)) = false by simp; omega]
    exact hK h g A (.refl g) (Only.refl _ _)
  | succ t ih =>
    intro i v g h A AB hi ha hK
    unfold F98.wL5 F98.JL5
    rw [w1]
    refine ⟨by decide, ?_⟩
    rw [show decide ((i : Int) ≤ ((a + d / 4 * 2 + 1 : Nat) : Int)) = true by simp; omega, bcase_true]
    refine next95 AB fun h1 v1 AB1 O1 => ?_
    rw [ldI_some]
    obtain ⟨o1, o2⟩ := and_le (x := v1) (m := M - 1) (by omega)
    rw [show IntKind.wrap .u64 ((M : Int) - 1) = ((M - 1 : Nat) : Int) by rw [wrap_u64 (by omega) (by omega)]; omega]
    have below : ∀ o : Nat, o < d → F98.wk10 (fun x0p x0l x0c x1 x6 x7 x8 x9 h => F98.wL5 (t + 1) x0p x0l x0c x1 x6 x7 x8 x9 h K) (some ⟨b, 0, none⟩) n c a d ⟨B, 0, none⟩ M i o h1 K := by
      intro o ho
      have A1 := A.only O1 (by simpa using Ne.symm hB)
      unfold F98.wk10 F98.Jk10
      rw [show IntKind.wrap .i64 ((a : Int) + (o : Int)) = ((a + o : Nat) : Int) by rw [wrapN (by omega) (by omega)]; omega]
      refine A1.ld rfl (by omega) (A1.ld rfl (by omega) (A1.sto rfl (by omega) fun k1 A2 O2 => ⟨rfl, rfl, rfl, rfl, A2.sto rfl (by omega) fun k2 A3 O3 => ?_⟩))
      have A3' : Arr .u8 k2 b n (swp g i (a + o)) sp := A3
      rw [show IntKind.wrap .i64 ((i : Int) + 1) = ((i + 1 : Nat) : Int) by rw [wrapN (by omega) (by omega)]; omega]
      refine ih (i + 1) v1 _ k2 A3' ((AB1.only O2 (by simpa using hB)).only O3 (by simpa using hB)) (by omega) (by omega) fun h' g' A' S' O' => hK h' g' A' ((Swp.one g (by omega) (by omega) (by omega) (by omega)).trans S') ?_
      exact ((((O1.mono (T := [b, B]) (by simp)).trans O2 (by simp)).trans O3 (by simp)).trans O' (by simp))
    rw [wrapN (x := bitsI .and .u64 v1 ((M - 1 : Nat) : Int)) (by omega) (by omega)]
    obtain ⟨o, ho⟩ : ∃ o : Nat, bitsI .and .u64 v1 ((M - 1 : Nat) : Int) = o := ⟨_, (Int.toNat_of_nonneg o1).symm⟩
    rw [ho] at o2 ⊢
    refine bcase_of (fun hc => ?_) fun hc => ?_
    · simp only [decide_eq_true_eq] at hc
      rw [show IntKind.wrap .i64 ((o : Int) - (d : Int)) = ((o - d : Nat) : Int) by rw [wrapN (by omega) (by omega)]; omega]
      exact below _ (by omega)
    · simp only [decide_eq_false_iff_not] at hc
      exact below o (by omega)
theorem brk78 {h : Heap} {b n a e c : Nat} {g : Nat → Int} {sp : List Value} {K : Value → Heap → Prop} (A : Arr .u8 h b n g sp) (he : e ≤ n) (ha : a ≤ e) (hn : n ≤ LB / 4)
    (hK : ∀ h' g', Arr .u8 h' b n g' sp → Swp a e g g' → Only [b] h h' → K (.tuple #[]) h') : CallsH Tryz.prog 98 [.slice (some ⟨b, 0, none⟩) n c, .int .i64 a, .int .i64 e] h K := by
  refine F98.spec _ _ _ _ _ h K ?_
  have hLB : LB = 140737488355328 := rfl
  obtain ⟨d, rfl⟩ : ∃ d, e = a + d := ⟨e - a, by omega⟩
  unfold F98.w F98.J0
  rw [show IntKind.wrap .i64 (((a + d : Nat) : Int) - (a : Int)) = (d : Int) by rw [wrapN (by omega) (by omega)]; omega]
  refine bcase_of (fun hc => ?_) fun hc => ?_
  · simp only [decide_eq_true_eq] at hc
    refine newK_at fun h1 A1 O1 z1 => ?_
    rw [add_mk]
    refine stK_at A1 (by simp) rfl fun h2 A2 O2 z2 => ?_
    replace A2 : At h2 h.size [.int .u64 _] := A2
    refine pow94 (by omega) (by omega) fun M hM1 hM2 => ?_
    rw [ldI_some]
    refine ⟨by decide, ?_⟩
    unfold F98.wk5 F98.Jk5
    have w1 : IntKind.wrap .i64 (IntKind.wrap .i64 ((a : Int) + IntKind.wrap .i64 (IntKind.wrap .i64 (Int.tdiv (d : Int) 4) * 2)) - 1) = ((a + d / 4 * 2 - 1 : Nat) : Int) := by
      rw [Int.tdiv_eq_ediv_of_nonneg (by omega), wrapN (x := (d : Int) / 4) (by omega) (by omega), wrapN (x := (d : Int) / 4 * 2) (by omega) (by omega), wrapN (x := (a : Int) + (d : Int) / 4 * 2) (by omega) (by omega), wrapN (by omega) (by omega)]
      omega
    rw [w1]
    have hb := A.lt
    refine ⟨_, brk78L (by omega) he hn hM1 hM2 (by omega) 3 _ _ g h2 ((A.only O1 (by simp)).only O2 (by simp; omega)) A2 (by omega) (by omega) fun h' g' A' S' O' => hK h' g' A' S' ?_⟩
    exact ((O1.mono (T := [b]) (by simp)).trans O2 (by simp)).trans O' (by simp)
  · exact hK h g A (.refl g) (Only.refl _ _)
end Go.Proofs.YtnbnlhpleomaoaaGreat.Ev
/- SORTING: a part's scans from below and from above. PRINTED BY PROGRAM (srtg.py). Conditions: the row stands (Arr). -/
namespace Go.Proofs.YtnbnlhpleomaoaaGreat.Ev
open Go
theorem up84a {b n a c j : Nat} {sp : List Value} {K : Value → Heap → Prop} {g : Nat → Int} {h : Heap} (A : Arr .u8 h b n g sp) (hj : j < n) (ha : a < n) (hn : n ≤ LB / 4) :
    ∀ (d i : Nat), i + d = j + 1 → (∀ i', i ≤ i' → i' ≤ j + 1 → (∀ k, i ≤ k → k < i' → g k < g a) → (i' = j + 1 ∨ g a ≤ g i') → F103.wk5 (some ⟨b, 0, none⟩) n c a i' j h K) →
      F103.wL3 (d + 1) (some ⟨b, 0, none⟩) n c a i j h K := by
  intro d
  have hLB : LB = 140737488355328 := rfl
  induction d with
  | zero =>
    intro i hd hK
    unfold F103.wL3 F103.JL3
    rw [show decide ((i : Int) ≤ (j : Int)) = false by simp; omega]
    exact hK i (Nat.le_refl _) (by omega) (fun k h1 h2 => by omega) (.inl (by omega))
  | succ d ih =>
    intro i hd hK
    unfold F103.wL3 F103.JL3
    rw [show decide ((i : Int) ≤ (j : Int)) = true by simp; omega, bcase_true]
    refine A.ld rfl (by omega) (A.ld rfl (by omega) (less82 ?_))
    rw [ldB_some]
    refine bcase_of (fun hl => ?_) fun hl => ?_
    · simp only [decide_eq_true_eq] at hl
      rw [show IntKind.wrap .i64 ((i : Int) + 1) = ((i + 1 : Nat) : Int) by rw [wrapN (by omega) (by omega)]; omega]
      refine ih (i + 1) (by omega) fun i' h1 h2 h3 h4 => hK i' (by omega) h2 (fun k h5 h6 => ?_) h4
      by_cases hk : k = i
      · subst hk; omega
      · exact h3 k (by omega) h6
    · simp only [decide_eq_false_iff_not] at hl
      exact hK i (Nat.le_refl _) (by omega) (fun k h1 h2 => by omega) (.inr (by omega))

theorem up84b {b n a c j : Nat} {sp : List Value} {K : Value → Heap → Prop} {bk : (Option Addr) → Nat → Nat → Int → Int → Int → Heap → Prop} {g : Nat → Int} {h : Heap} (A : Arr .u8 h b n g sp) (hj : j < n) (ha : a < n) (hn : n ≤ LB / 4) :
    ∀ (d i : Nat), i + d = j + 1 → (∀ i', i ≤ i' → i' ≤ j + 1 → (∀ k, i ≤ k → k < i' → g k < g a) → (i' = j + 1 ∨ g a ≤ g i') → F103.wk15 bk (some ⟨b, 0, none⟩) n c a i' j h K) →
      F103.wL1013 bk (d + 1) (some ⟨b, 0, none⟩) n c a i j h K := by
  intro d
  have hLB : LB = 140737488355328 := rfl
  induction d with
  | zero =>
    intro i hd hK
    unfold F103.wL1013 F103.JL1013
    rw [show decide ((i : Int) ≤ (j : Int)) = false by simp; omega]
    exact hK i (Nat.le_refl _) (by omega) (fun k h1 h2 => by omega) (.inl (by omega))
  | succ d ih =>
    intro i hd hK
    unfold F103.wL1013 F103.JL1013
    rw [show decide ((i : Int) ≤ (j : Int)) = true by simp; omega, bcase_true]
    refine A.ld rfl (by omega) (A.ld rfl (by omega) (less82 ?_))
    rw [ldB_some]
    refine bcase_of (fun hl => ?_) fun hl => ?_
    · simp only [decide_eq_true_eq] at hl
      rw [show IntKind.wrap .i64 ((i : Int) + 1) = ((i + 1 : Nat) : Int) by rw [wrapN (by omega) (by omega)]; omega]
      refine ih (i + 1) (by omega) fun i' h1 h2 h3 h4 => hK i' (by omega) h2 (fun k h5 h6 => ?_) h4
      by_cases hk : k = i
      · subst hk; omega
      · exact h3 k (by omega) h6
    · simp only [decide_eq_false_iff_not] at hl
      exact hK i (Nat.le_refl _) (by omega) (fun k h1 h2 => by omega) (.inr (by omega))

theorem dn84a {b n a c i e : Nat} {sp : List Value} {K : Value → Heap → Prop} {g : Nat → Int} {h : Heap} (A : Arr .u8 h b n g sp) (he : e ≤ n) (ha : a < n) (hn : n ≤ LB / 4) (hi : 1 ≤ i) :
    ∀ (d j : Nat), j < e → j + 1 = i + d → (∀ j', j' ≤ j → i ≤ j' + 1 → (∀ k, j' < k → k ≤ j → g a ≤ g k) → (j' + 1 = i ∨ g j' < g a) → F103.wk7 (some ⟨b, 0, none⟩) n c a i j' h K) →
      F103.wL5 (d + 1) (some ⟨b, 0, none⟩) n c a i j h K := by
  intro d
  have hLB : LB = 140737488355328 := rfl
  induction d with
  | zero =>
    intro j hj hd hK
    unfold F103.wL5 F103.JL5
    rw [show decide ((i : Int) ≤ (j : Int)) = false by simp; omega]
    exact hK j (Nat.le_refl _) (by omega) (fun k h1 h2 => by omega) (.inl (by omega))
  | succ d ih =>
    intro j hj hd hK
    unfold F103.wL5 F103.JL5
    rw [show decide ((i : Int) ≤ (j : Int)) = true by simp; omega, bcase_true]
    refine A.ld rfl (by omega) (A.ld rfl (by omega) (less82 ?_))
    rw [ldB_some]
    refine bcase_of (fun hl => ?_) fun hl => ?_
    · simp only [Bool.not_eq_true', decide_eq_false_iff_not] at hl
      rw [show IntKind.wrap .i64 ((j : Int) - 1) = ((j - 1 : Nat) : Int) by rw [wrapN (by omega) (by omega)]; omega]
      refine ih (j - 1) (by omega) (by omega) fun j' h1 h2 h3 h4 => hK j' (by omega) h2 (fun k h5 h6 => ?_) h4
      by_cases hk : k = j
      · subst hk; omega
      · exact h3 k h5 (by omega)
    · simp only [Bool.not_eq_false', decide_eq_true_eq] at hl
      exact hK j (Nat.le_refl _) (by omega) (fun k h1 h2 => by omega) (.inr (by omega))

theorem dn84b {b n a c i e : Nat} {sp : List Value} {K : Value → Heap → Prop} {bk : (Option Addr) → Nat → Nat → Int → Int → Int → Heap → Prop} {g : Nat → Int} {h : Heap} (A : Arr .u8 h b n g sp) (he : e ≤ n) (ha : a < n) (hn : n ≤ LB / 4) (hi : 1 ≤ i) :
    ∀ (d j : Nat), j < e → j + 1 = i + d → (∀ j', j' ≤ j → i ≤ j' + 1 → (∀ k, j' < k → k ≤ j → g a ≤ g k) → (j' + 1 = i ∨ g j' < g a) → F103.wk17 bk (some ⟨b, 0, none⟩) n c a i j' h K) →
      F103.wL15 bk (d + 1) (some ⟨b, 0, none⟩) n c a i j h K := by
  intro d
  have hLB : LB = 140737488355328 := rfl
  induction d with
  | zero =>
    intro j hj hd hK
    unfold F103.wL15 F103.JL15
    rw [show decide ((i : Int) ≤ (j : Int)) = false by simp; omega]
    exact hK j (Nat.le_refl _) (by omega) (fun k h1 h2 => by omega) (.inl (by omega))
  | succ d ih =>
    intro j hj hd hK
    unfold F103.wL15 F103.JL15
    rw [show decide ((i : Int) ≤ (j : Int)) = true by simp; omega, bcase_true]
    refine A.ld rfl (by omega) (A.ld rfl (by omega) (less82 ?_))
    rw [ldB_some]
    refine bcase_of (fun hl => ?_) fun hl => ?_
    · simp only [Bool.not_eq_true', decide_eq_false_iff_not] at hl
      rw [show IntKind.wrap .i64 ((j : Int) - 1) = ((j - 1 : Nat) : Int) by rw [wrapN (by omega) (by omega)]; omega]
      refine ih (j - 1) (by omega) (by omega) fun j' h1 h2 h3 h4 => hK j' (by omega) h2 (fun k h5 h6 => ?_) h4
      by_cases hk : k = j
      · subst hk; omega
      · exact h3 k h5 (by omega)
    · simp only [Bool.not_eq_false', decide_eq_true_eq] at hl
      exact hK j (Nat.le_refl _) (by omega) (fun k h1 h2 => by omega) (.inr (by omega))

theorem up83 {b n a c j : Nat} {sp : List Value} {K : Value → Heap → Prop} {bk : (Option Addr) → Nat → Nat → Int → Int → Int → Heap → Prop} {g : Nat → Int} {h : Heap} (A : Arr .u8 h b n g sp) (hj : j < n) (ha : a < n) (hn : n ≤ LB / 4) :
    ∀ (d i : Nat), i + d = j + 1 → (∀ i', i ≤ i' → i' ≤ j + 1 → (∀ k, i ≤ k → k < i' → g k ≤ g a) → (i' = j + 1 ∨ g a < g i') → F102.wk5 bk (some ⟨b, 0, none⟩) n c a i' j h K) →
      F102.wL1003 bk (d + 1) (some ⟨b, 0, none⟩) n c a i j h K := by
  intro d
  have hLB : LB = 140737488355328 := rfl
  induction d with
  | zero =>
    intro i hd hK
    unfold F102.wL1003 F102.JL1003
    rw [show decide ((i : Int) ≤ (j : Int)) = false by simp; omega]
    exact hK i (Nat.le_refl _) (by omega) (fun k h1 h2 => by omega) (.inl (by omega))
  | succ d ih =>
    intro i hd hK
    unfold F102.wL1003 F102.JL1003
    rw [show decide ((i : Int) ≤ (j : Int)) = true by simp; omega, bcase_true]
    refine A.ld rfl (by omega) (A.ld rfl (by omega) (less82 ?_))
    rw [ldB_some]
    refine bcase_of (fun hl => ?_) fun hl => ?_
    · simp only [Bool.not_eq_true', decide_eq_false_iff_not] at hl
      rw [show IntKind.wrap .i64 ((i : Int) + 1) = ((i + 1 : Nat) : Int) by rw [wrapN (by omega) (by omega)]; omega]
      refine ih (i + 1) (by omega) fun i' h1 h2 h3 h4 => hK i' (by omega) h2 (fun k h5 h6 => ?_) h4
      by_cases hk : k = i
      · subst hk; omega
      · exact h3 k (by omega) h6
    · simp only [Bool.not_eq_false', decide_eq_true_eq] at hl
      exact hK i (Nat.le_refl _) (by omega) (fun k h1 h2 => by omega) (.inr (by omega))

theorem dn83 {b n a c i e : Nat} {sp : List Value} {K : Value → Heap → Prop} {bk : (Option Addr) → Nat → Nat → Int → Int → Int → Heap → Prop} {g : Nat → Int} {h : Heap} (A : Arr .u8 h b n g sp) (he : e ≤ n) (ha : a < n) (hn : n ≤ LB / 4) (hi : 1 ≤ i) :
    ∀ (d j : Nat), j < e → j + 1 = i + d → (∀ j', j' ≤ j → i ≤ j' + 1 → (∀ k, j' < k → k ≤ j → g a < g k) → (j' + 1 = i ∨ g j' ≤ g a) → F102.wk7 bk (some ⟨b, 0, none⟩) n c a i j' h K) →
      F102.wL5 bk (d + 1) (some ⟨b, 0, none⟩) n c a i j h K := by
  intro d
  have hLB : LB = 140737488355328 := rfl
  induction d with
  | zero =>
    intro j hj hd hK
    unfold F102.wL5 F102.JL5
    rw [show decide ((i : Int) ≤ (j : Int)) = false by simp; omega]
    exact hK j (Nat.le_refl _) (by omega) (fun k h1 h2 => by omega) (.inl (by omega))
  | succ d ih =>
    intro j hj hd hK
    unfold F102.wL5 F102.JL5
    rw [show decide ((i : Int) ≤ (j : Int)) = true by simp; omega, bcase_true]
    refine A.ld rfl (by omega) (A.ld rfl (by omega) (less82 ?_))
    rw [ldB_some]
    refine bcase_of (fun hl => ?_) fun hl => ?_
    · simp only [decide_eq_true_eq] at hl
      rw [show IntKind.wrap .i64 ((j : Int) - 1) = ((j - 1 : Nat) : Int) by rw [wrapN (by omega) (by omega)]; omega]
      refine ih (j - 1) (by omega) (by omega) fun j' h1 h2 h3 h4 => hK j' (by omega) h2 (fun k h5 h6 => ?_) h4
      by_cases hk : k = j
      · subst hk; omega
      · exact h3 k h5 (by omega)
    · simp only [decide_eq_false_iff_not] at hl
      exact hK j (Nat.le_refl _) (by omega) (fun k h1 h2 => by omega) (.inr (by omega))

end Go.Proofs.YtnbnlhpleomaoaaGreat.Ev
