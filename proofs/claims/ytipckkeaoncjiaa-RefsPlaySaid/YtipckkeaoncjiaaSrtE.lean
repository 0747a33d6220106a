/- SORTING: how many bits a number has; a row stirred. Conditions: the row stands (Arr). -/
import Derived.Test.YtipckkeaoncjiaaSrtD
import Derived.Test.YtipckkeaoncjiaaSrtF2
namespace Go.Proofs.Ytipckkeaoncjiaa.Ev
open Go

def chkT (tb : ByteArray) : Bool := (List.range 256).all fun y => match tb[y]? with | some b => b.toNat ≤ 8 && (y == 0 || (1 ≤ b.toNat && 2 ^ (b.toNat - 1) ≤ y)) | none => false
theorem chkT_spec {tb : ByteArray} (h : chkT tb = true) {y : Nat} (hy : y < 256) : ∃ b, tb[y]? = some b ∧ b.toNat ≤ 8 ∧ (1 ≤ y → 1 ≤ b.toNat ∧ 2 ^ (b.toNat - 1) ≤ y) := by
  unfold chkT at h
  rw [List.all_eq_true] at h
  have := h y (List.mem_range.2 hy)
  cases hb : tb[y]? with
  | none => rw [hb] at this; cases this
  | some b =>
    rw [hb] at this
    simp only [Bool.and_eq_true, Bool.or_eq_true, decide_eq_true_eq, beq_iff_eq] at this
    exact ⟨b, rfl, this.1, fun h1 => by rcases this.2 with h | h
                                        · omega
                                        · exact h⟩
theorem strK_len {tb : ByteArray} {y : Nat} {K : Int → Prop} (h : chkT tb = true) (hy : y < 256) (hK : ∀ n : Nat, n ≤ 8 → (1 ≤ y → 1 ≤ n ∧ 2 ^ (n - 1) ≤ y) → K (n : Int)) : strK tb (y : Int) K := by
  obtain ⟨b, hb, h8, h1⟩ := chkT_spec h hy
  exact ⟨b, by rw [Int.toNat_natCast]; exact hb, hK _ h8 h1⟩
theorem wrapU8 {x : Nat} (h : x < 256) : IntKind.wrap .u8 (x : Int) = x := by
  simp [IntKind.wrap, IntKind.bits, IntKind.signed]; omega
theorem k10_86 {x' s X : Nat} {h : Heap} {K : Value → Heap → Prop} (hx : x' < 256) (hs : s ≤ 56) (h1 : 2 ^ s * x' ≤ X) (h2 : 1 ≤ X → 1 ≤ x')
    (hK : ∀ L : Nat, L ≤ 64 → (1 ≤ X → 1 ≤ L ∧ 2 ^ (L - 1) ≤ X) → K (.int .i64 (L : Int)) h) : F86.wk10 x' s h K := by
  unfold F86.wk10 F86.Jk10
  rw [wrapU8 hx]
  refine ⟨by omega, ?_⟩
  refine strK_len (by decide +kernel) hx fun n hn8 hn1 => ?_
  have hLB : LB = 140737488355328 := rfl
  rw [wrapN (x := (n : Int)) (by omega) (by omega), wrapN (by omega) (by omega), show (s : Int) + (n : Int) = ((s + n : Nat) : Int) by omega]
  refine hK _ (by omega) fun hX => ?_
  obtain ⟨c1, c2⟩ := hn1 (h2 hX)
  refine ⟨by omega, ?_⟩
  rw [show s + n - 1 = s + (n - 1) by omega, Nat.pow_add]
  exact Nat.le_trans (Nat.mul_le_mul_left _ c2) h1
theorem fdivP {x k : Nat} : Int.fdiv (x : Int) ((k : Nat) : Int) = ((x / k : Nat) : Int) := by
  rw [Int.fdiv_eq_ediv_of_nonneg _ (by omega)]
  rfl
theorem len86 {X : Nat} {h : Heap} {K : Value → Heap → Prop} (hX : X < 18446744073709551616) (hK : ∀ L : Nat, L ≤ 64 → (1 ≤ X → 1 ≤ L ∧ 2 ^ (L - 1) ≤ X) → K (.int .i64 (L : Int)) h) :
    CallsH Try.prog 86 [.int .u64 (X : Int)] h K := by
  refine F86.spec _ h K ?_
  unfold F86.w F86.J0
  have k7 : ∀ x' s : Nat, x' < 65536 → s ≤ 48 → 2 ^ s * x' ≤ X → (1 ≤ X → 1 ≤ x') → F86.wk7 x' s h K := by
    intro x' s hx hs h1 h2
    unfold F86.wk7 F86.Jk7
    refine bcase_of (fun hc => ?_) fun hc => ?_
    · simp only [decide_eq_true_eq] at hc
      refine ⟨by omega, ?_⟩
      rw [show ((2 : Int) ^ (min (Int.toNat (8 : Int)) (IntKind.bits .u64))) = ((256 : Nat) : Int) by decide, fdivP, wrapN (by unfold LB; omega) (by unfold LB; omega), show (s : Int) + 8 = ((s + 8 : Nat) : Int) by omega]
      refine k10_86 (by omega) (by omega) (Nat.le_trans ?_ h1) (by omega) hK
      rw [Nat.pow_add, Nat.mul_assoc]
      exact Nat.mul_le_mul_left _ (by omega)
    · simp only [decide_eq_false_iff_not] at hc
      exact k10_86 (by omega) (by omega) h1 h2 hK
  have k4 : ∀ x' s : Nat, x' < 4294967296 → s ≤ 32 → 2 ^ s * x' ≤ X → (1 ≤ X → 1 ≤ x') → F86.wk4 x' s h K := by
    intro x' s hx hs h1 h2
    unfold F86.wk4 F86.Jk4
    refine bcase_of (fun hc => ?_) fun hc => ?_
    · simp only [decide_eq_true_eq] at hc
      refine ⟨by omega, ?_⟩
      rw [show ((2 : Int) ^ (min (Int.toNat (16 : Int)) (IntKind.bits .u64))) = ((65536 : Nat) : Int) by decide, fdivP, wrapN (by unfold LB; omega) (by unfold LB; omega), show (s : Int) + 16 = ((s + 16 : Nat) : Int) by omega]
      refine k7 _ _ (by omega) (by omega) (Nat.le_trans ?_ h1) (by omega)
      rw [Nat.pow_add, Nat.mul_assoc]
      exact Nat.mul_le_mul_left _ (by omega)
    · simp only [decide_eq_false_iff_not] at hc
      exact k7 _ _ (by omega) (by omega) h1 h2
  refine bcase_of (fun hc => ?_) fun hc => ?_
  · simp only [decide_eq_true_eq] at hc
    refine ⟨by omega, ?_⟩
    rw [show ((2 : Int) ^ (min (Int.toNat (32 : Int)) (IntKind.bits .u64))) = ((4294967296 : Nat) : Int) by decide, fdivP]
    exact k4 (X / 4294967296) 32 (by omega) (by omega) (by omega) (by omega)
  · simp only [decide_eq_false_iff_not] at hc
    exact k4 X 0 (by omega) (by omega) (by omega) (by omega)
theorem len68 {X : Nat} {h : Heap} {K : Value → Heap → Prop} (hX : X < 18446744073709551616) (hK : ∀ L : Nat, L ≤ 64 → (1 ≤ X → 1 ≤ L ∧ 2 ^ (L - 1) ≤ X) → K (.int .i64 (L : Int)) h) :
    CallsH Try.prog 68 [.int .u64 (X : Int)] h K := by
  refine F68.spec _ h K ?_
  unfold F68.w F68.J0
  exact len86 hX fun L h1 h2 => by rw [ldI_some]; exact hK L h1 h2
theorem pow94 {d : Nat} {h : Heap} {K : Value → Heap → Prop} (h1 : 1 ≤ d) (hd : d ≤ LB / 4) (hK : ∀ M : Nat, 1 ≤ M → M ≤ 2 * d → K (.int .u64 (M : Int)) h) : CallsH Try.prog 94 [.int .i64 (d : Int)] h K := by
  refine F94.spec _ h K ?_
  have hLB : LB = 140737488355328 := rfl
  unfold F94.w F94.J0
  rw [wrap_u64 (by omega) (by omega)]
  refine len68 (by omega) fun L hL hl => ?_
  obtain ⟨l1, l2⟩ := hl h1
  rw [ldI_some]
  refine ⟨by omega, ?_⟩
  have e : min (Int.toNat (L : Int)) (IntKind.bits .u64) = L := by
    rw [Int.toNat_natCast]
    show min L 64 = L
    omega
  rw [e]
  have l3 : 2 ^ L ≤ 2 * d := by
    rw [show L = (L - 1) + 1 by omega, Nat.pow_succ]
    omega
  have lp : 1 ≤ 2 ^ L := Nat.one_le_two_pow
  rw [show (1 : Int) * 2 ^ L = ((2 ^ L : Nat) : Int) by simp]
  generalize 2 ^ L = q at l3 lp ⊢
  rw [wrap_u64 (by omega) (by omega)]
  exact hK _ lp l3
theorem next95 {h : Heap} {b : Nat} {v : Int} {K : Value → Heap → Prop} (A : At h b [.int .u64 v]) (hK : ∀ h' v', At h' b [.int .u64 v'] → Only [b] h h' → K (.int .u64 v') h') : CallsH Try.prog 95 [.pointer (some ⟨b, 0, none⟩)] h K := by
  refine F95.spec _ h K ?_
  unfold F95.w F95.J0
  have rd0 : ∀ {h v}, At h b [.int .u64 v] → rd h ⟨b, 0, none⟩ = some (.int .u64 v) := fun A => A.rd 0
  rw [rd0 A, ldI_some, ldI_some]
  refine ⟨by decide, ?_⟩
  rw [add_mk]
  refine stK_at A (by simp) rfl fun h1 A1 O1 _ => ?_
  replace A1 : At h1 b [.int .u64 _] := A1
  rw [rd0 A1, ldI_some, ldI_some]
  refine ⟨by decide, ?_⟩
  refine stK_at A1 (by simp) rfl fun h2 A2 O2 _ => ?_
  replace A2 : At h2 b [.int .u64 _] := A2
  rw [rd0 A2, ldI_some, ldI_some]
  refine ⟨by decide, ?_⟩
  refine stK_at A2 (by simp) rfl fun h3 A3 O3 _ => ?_
  replace A3 : At h3 b [.int .u64 _] := A3
  rw [rd0 A3, ldI_some]
  exact hK _ _ A3 ((O1.trans O2 (by simp)).trans O3 (by simp))
theorem and_le {x : Int} {m : Nat} (hm : m < 18446744073709551616) : 0 ≤ bitsI .and .u64 x m ∧ bitsI .and .u64 x m ≤ m := by
  unfold bitsI
  have h1 : (BitVec.ofInt (IntKind.bits .u64) (m : Int)).toNat = m := by
    show (BitVec.ofInt 64 (m : Int)).toNat = m
    rw [BitVec.toNat_ofInt]
    omega
  have h2 : (BitVec.ofInt (IntKind.bits .u64) x &&& BitVec.ofInt (IntKind.bits .u64) (m : Int)).toNat ≤ m := by
    rw [BitVec.toNat_and, h1]
    exact Nat.and_le_right
  dsimp only
  rw [wrap_u64 (by omega) (by omega)]
  omega
theorem brk78L {b n a d c M B : Nat} {sp : List Value} {K : Value → Heap → Prop} (hd : 8 ≤ d) (he : a + d ≤ n) (hn : n ≤ LB / 4) (hM1 : 1 ≤ M) (hM2 : M ≤ 2 * d) (hB : B ≠ b) :
    ∀ (t i : Nat) (v : Int) (g : Nat → Int) (h : Heap), Arr .u32 h b n g sp → At h B [.int .u64 v] → i + t = a + d / 4 * 2 + 2 → a ≤ i →
      (∀ h' g', Arr .u32 h' b n g' sp → Swp a (a + d) g g' → Only [b, B] h h' → K (.tuple #[]) h') → F78.wL5 (t + 1) (some ⟨b, 0, none⟩) n c a d ⟨B, 0, none⟩ M i h K := by
  intro t
  have hLB : LB = 140737488355328 := rfl
  have w1 : IntKind.wrap .i64 (IntKind.wrap .i64 ((a : Int) + IntKind.wrap .i64 (IntKind.wrap .i64 (Int.tdiv (d : Int) 4) * 2)) + 1) = ((a + d / 4 * 2 + 1 : Nat) : Int) := by
    rw [Int.tdiv_eq_ediv_of_nonneg (by omega), wrapN (x := (d : Int) / 4) (by omega) (by omega), wrapN (x := (d : Int) / 4 * 2) (by omega) (by omega), wrapN (x := (a : Int) + (d : Int) / 4 * 2) (by omega) (by omega), wrapN (by omega) (by omega)]
    omega
  induction t with
  | zero =>
    intro i v g h A AB hi ha hK
    unfold F78.wL5 F78.JL5
    rw [w1]
    refine ⟨by decide, ?_⟩
    rw [show decide ((i : Int) ≤ ((a + d / 4 * 2 + 1 : Nat) : Int)) = false by simp; omega]
    exact hK h g A (.refl g) (Only.refl _ _)
  | succ t ih =>
    intro i v g h A AB hi ha hK
    unfold F78.wL5 F78.JL5
    rw [w1]
    refine ⟨by decide, ?_⟩
    rw [show decide ((i : Int) ≤ ((a + d / 4 * 2 + 1 : Nat) : Int)) = true by simp; omega, bcase_true]
    refine next95 AB fun h1 v1 AB1 O1 => ?_
    rw [ldI_some]
    obtain ⟨o1, o2⟩ := and_le (x := v1) (m := M - 1) (by omega)
    rw [show IntKind.wrap .u64 ((M : Int) - 1) = ((M - 1 : Nat) : Int) by rw [wrap_u64 (by omega) (by omega)]; omega]
    have below : ∀ o : Nat, o < d → F78.wk10 (fun x0p x0l x0c x1 x6 x7 x8 x9 h => F78.wL5 (t + 1) x0p x0l x0c x1 x6 x7 x8 x9 h K) (some ⟨b, 0, none⟩) n c a d ⟨B, 0, none⟩ M i o h1 K := by
      intro o ho
      have A1 := A.only O1 (by simpa using Ne.symm hB)
      unfold F78.wk10 F78.Jk10
      rw [show IntKind.wrap .i64 ((a : Int) + (o : Int)) = ((a + o : Nat) : Int) by rw [wrapN (by omega) (by omega)]; omega]
      refine A1.ld rfl (by omega) (A1.ld rfl (by omega) (A1.sto rfl (by omega) fun k1 A2 O2 => ⟨rfl, rfl, rfl, rfl, A2.sto rfl (by omega) fun k2 A3 O3 => ?_⟩))
      have A3' : Arr .u32 k2 b n (swp g i (a + o)) sp := A3
      rw [show IntKind.wrap .i64 ((i : Int) + 1) = ((i + 1 : Nat) : Int) by rw [wrapN (by omega) (by omega)]; omega]
      refine ih (i + 1) v1 _ k2 A3' ((AB1.only O2 (by simpa using hB)).only O3 (by simpa using hB)) (by omega) (by omega) fun h' g' A' S' O' => hK h' g' A' ((Swp.one g (by omega) (by omega) (by omega) (by omega)).trans S') ?_
      exact ((((O1.mono (T := [b, B]) (by simp)).trans O2 (by simp)).trans O3 (by simp)).trans O' (by simp))
    rw [wrapN (x := bitsI .and .u64 v1 ((M - 1 : Nat) : Int)) (by omega) (by omega)]
    obtain ⟨o, ho⟩ : ∃ o : Nat, bitsI .and .u64 v1 ((M - 1 : Nat) : Int) = o := ⟨_, (Int.toNat_of_nonneg o1).symm⟩
    rw [ho] at o2 ⊢
    refine bcase_of (fun hc => ?_) fun hc => ?_
    · simp only [decide_eq_true_eq] at hc
      rw [show IntKind.wrap .i64 ((o : Int) - (d : Int)) = ((o - d : Nat) : Int) by rw [wrapN (by omega) (by omega)]; omega]
      exact below _ (by omega)
    · simp only [decide_eq_false_iff_not] at hc
      exact below o (by omega)
theorem brk78 {h : Heap} {b n a e c : Nat} {g : Nat → Int} {sp : List Value} {K : Value → Heap → Prop} (A : Arr .u32 h b n g sp) (he : e ≤ n) (ha : a ≤ e) (hn : n ≤ LB / 4)
    (hK : ∀ h' g', Arr .u32 h' b n g' sp → Swp a e g g' → Only [b] h h' → K (.tuple #[]) h') : CallsH Try.prog 78 [.slice (some ⟨b, 0, none⟩) n c, .int .i64 a, .int .i64 e] h K := by
  refine F78.spec _ _ _ _ _ h K ?_
  have hLB : LB = 140737488355328 := rfl
  obtain ⟨d, rfl⟩ : ∃ d, e = a + d := ⟨e - a, by omega⟩
  unfold F78.w F78.J0
  rw [show IntKind.wrap .i64 (((a + d : Nat) : Int) - (a : Int)) = (d : Int) by rw [wrapN (by omega) (by omega)]; omega]
  refine bcase_of (fun hc => ?_) fun hc => ?_
  · simp only [decide_eq_true_eq] at hc
    refine newK_at fun h1 A1 O1 z1 => ?_
    rw [add_mk]
    refine stK_at A1 (by simp) rfl fun h2 A2 O2 z2 => ?_
    replace A2 : At h2 h.size [.int .u64 _] := A2
    refine pow94 (by omega) (by omega) fun M hM1 hM2 => ?_
    rw [ldI_some]
    refine ⟨by decide, ?_⟩
    unfold F78.wk5 F78.Jk5
    have w1 : IntKind.wrap .i64 (IntKind.wrap .i64 ((a : Int) + IntKind.wrap .i64 (IntKind.wrap .i64 (Int.tdiv (d : Int) 4) * 2)) - 1) = ((a + d / 4 * 2 - 1 : Nat) : Int) := by
      rw [Int.tdiv_eq_ediv_of_nonneg (by omega), wrapN (x := (d : Int) / 4) (by omega) (by omega), wrapN (x := (d : Int) / 4 * 2) (by omega) (by omega), wrapN (x := (a : Int) + (d : Int) / 4 * 2) (by omega) (by omega), wrapN (by omega) (by omega)]
      omega
    rw [w1]
    have hb := A.lt
    refine ⟨_, brk78L (by omega) he hn hM1 hM2 (by omega) 3 _ _ g h2 ((A.only O1 (by simp)).only O2 (by simp; omega)) A2 (by omega) (by omega) fun h' g' A' S' O' => hK h' g' A' S' ?_⟩
    exact ((O1.mono (T := [b]) (by simp)).trans O2 (by simp)).trans O' (by simp)
  · exact hK h g A (.refl g) (Only.refl _ _)
end Go.Proofs.Ytipckkeaoncjiaa.Ev
