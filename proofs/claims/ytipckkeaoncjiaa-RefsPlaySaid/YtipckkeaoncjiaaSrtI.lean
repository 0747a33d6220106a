/- SORTING: what is equal put first; a number chosen to part by. Conditions: the row stands (Arr). -/
import Derived.Test.YtipckkeaoncjiaaSrtH
namespace Go.Proofs.Ytipckkeaoncjiaa.Ev
open Go

/-- parted: below i not more than the first, behind j more -/
def Pe (a e i j : Nat) (g : Nat → Int) : Prop := (∀ k, a < k → k < i → g k ≤ g a) ∧ (∀ k, j < k → k < e → g a < g k)
theorem Pe.ext {a e i j i' j' : Nat} {g : Nat → Int} (H : Pe a e i j g) (hi : ∀ k, i ≤ k → k < i' → g k ≤ g a) (hj : ∀ k, j' < k → k ≤ j → g a < g k) : Pe a e i' j' g :=
  ⟨fun k h1 h2 => by
    by_cases h : k < i
    · exact H.1 k h1 h
    · exact hi k (by omega) h2, fun k h1 h2 => by
    by_cases h : j < k
    · exact H.2 k h h2
    · exact hj k h1 (by omega)⟩
theorem Pe.swap {a e i j : Nat} {g : Nat → Int} (H : Pe a e i j g) (ha : a < i) (hij : i < j) (hi : g a < g i) (hj : g j ≤ g a) : Pe a e (i + 1) (j - 1) (swp g i j) := by
  refine ⟨fun k h1 h2 => ?_, fun k h1 h2 => ?_⟩
  · rw [swp_o g (k := a) (by omega) (by omega)]
    by_cases hk : k = i
    · subst hk
      rw [swp_i]
      exact hj
    · rw [swp_o g hk (by omega)]
      exact H.1 k h1 (by omega)
  · rw [swp_o g (k := a) (by omega) (by omega)]
    by_cases hk : k = j
    · subst hk
      rw [swp_j]
      exact hi
    · rw [swp_o g (by omega) hk]
      exact H.2 k (by omega) h2
section
variable {b n a e c : Nat} {sp : List Value} {K : Value → Heap → Prop}
theorem out83 (he : e ≤ n) (hn : n ≤ LB / 4) (v : Int) :
    ∀ (d i j : Nat) (g : Nat → Int) (h : Heap), Arr .u32 h b n g sp → a < i → i ≤ j + 1 → j < e → j + 1 ≤ i + d → Pe a e i j g → g a = v →
      (∀ h' m g', Arr .u32 h' b n g' sp → Swp a e g g' → (∀ k, a ≤ k → k < m → g' k ≤ v) → (∀ k, m ≤ k → k < e → v < g' k) → a < m → m ≤ e → Only [b] h h' → K (.int .i64 (m : Int)) h') → F83.wL3 (d + 1) (some ⟨b, 0, none⟩) n c a i j h K := by
  intro d
  have hLB : LB = 140737488355328 := rfl
  induction d using Nat.strongRecOn with
  | _ d ih =>
    intro i j g h A ha hij hj hd P hv hK
    unfold F83.wL3 F83.JL3
    refine ⟨_, up83 A (by omega) (by omega) hn (j + 1 - i) i (by omega) fun i' h1 h2 h3 h4 => ?_⟩
    unfold F83.wk5 F83.Jk5
    refine ⟨_, dn83 A he (by omega) hn (by omega) (j + 1 - i') j hj (by omega) fun j' h5 h6 h7 h8 => ?_⟩
    have P' := P.ext h3 h7
    unfold F83.wk7 F83.Jk7
    refine bcase_of (fun hc => ?_) fun hc => ?_
    · simp only [decide_eq_true_eq] at hc
      refine hK h i' g A (.refl g) (fun k k1 k2 => ?_) (fun k k1 k2 => ?_) (by omega) (by omega) (Only.refl _ _)
      · by_cases hk : k = a
        · subst hk; omega
        · have := P'.1 k (by omega) k2
          omega
      · have := P'.2 k (by omega) k2
        omega
    · simp only [decide_eq_false_iff_not] at hc
      have q1 : g a < g i' := by rcases h4 with h | h
                                 · omega
                                 · exact h
      have q2 : g j' ≤ g a := by rcases h8 with h | h
                                 · omega
                                 · exact h
      have hne : i' ≠ j' := fun e => by subst e; omega
      refine A.ld rfl (by omega) (A.ld rfl (by omega) (A.sto rfl (by omega) fun k1 A1 O1 => ⟨rfl, rfl, A1.sto rfl (by omega) fun k2 A2 O2 => ?_⟩))
      have A2' : Arr .u32 k2 b n (swp g i' j') sp := A2
      rw [show IntKind.wrap .i64 ((i' : Int) + 1) = ((i' + 1 : Nat) : Int) by rw [wrapN (by omega) (by omega)]; omega, show IntKind.wrap .i64 ((j' : Int) - 1) = ((j' - 1 : Nat) : Int) by rw [wrapN (by omega) (by omega)]; omega]
      cases d with
      | zero => omega
      | succ d =>
        exact ih d (by omega) (i' + 1) (j' - 1) _ k2 A2' (by omega) (by omega) (by omega) (by omega) (P'.swap (by omega) (by omega) q1 q2) (by rw [swp_o g (by omega) (by omega)]; exact hv)
          fun h' m g' A' S' R1 R2 m1 m2 O' => hK h' m g' A' ((Swp.one g (by omega) (by omega) (by omega) (by omega)).trans S') R1 R2 m1 m2 ((O1.trans O2 (by simp)).trans O' (by simp))
theorem part83 {h : Heap} {g : Nat → Int} {pv : Nat} (A : Arr .u32 h b n g sp) (he : e ≤ n) (ha : a + 1 < e) (hp : a ≤ pv) (hp' : pv < e) (hn : n ≤ LB / 4)
    (hK : ∀ h' m g', Arr .u32 h' b n g' sp → Swp a e g g' → (∀ k, a ≤ k → k < m → g' k ≤ g pv) → (∀ k, m ≤ k → k < e → g pv < g' k) → a < m → m ≤ e → Only [b] h h' → K (.int .i64 (m : Int)) h') :
    CallsH Try.prog 83 [.slice (some ⟨b, 0, none⟩) n c, .int .i64 a, .int .i64 e, .int .i64 pv] h K := by
  refine F83.spec _ _ _ _ _ _ h K ?_
  have hLB : LB = 140737488355328 := rfl
  unfold F83.w F83.J0
  refine A.ld rfl (by omega) (A.ld rfl (by omega) (A.sto rfl (by omega) fun k1 A1 O1 => ⟨rfl, rfl, A1.sto rfl (by omega) fun k2 A2 O2 => ?_⟩))
  have A2' : Arr .u32 k2 b n (swp g a pv) sp := A2
  clear A2
  have S0 : Swp a e g (swp g a pv) := Swp.one g (by omega) (by omega) (by omega) (by omega)
  have O12 := O1.trans O2 (by simp)
  rw [show IntKind.wrap .i64 ((a : Int) + 1) = ((a + 1 : Nat) : Int) by rw [wrapN (by omega) (by omega)]; omega, show IntKind.wrap .i64 ((e : Int) - 1) = ((e - 1 : Nat) : Int) by rw [wrapN (by omega) (by omega)]; omega]
  have hv := swp_i g a pv
  generalize swp g a pv = g2 at A2' S0 hv
  unfold F83.wk3 F83.Jk3
  exact ⟨_, out83 he hn (g pv) e (a + 1) (e - 1) g2 k2 A2' (by omega) (by omega) (by omega) (by omega) ⟨fun k _ _ => by omega, fun k _ _ => by omega⟩ hv
    fun h' m g' A' S' R1 R2 m1 m2 O' => hK h' m g' A' (S0.trans S') R1 R2 m1 m2 (O12.trans O' (by simp))⟩

variable {h : Heap} {B : Nat} {s : Int} {g : Nat → Int}
theorem ord103 {i j : Nat} (A : Arr .u32 h b n g sp) (AB : At h B [.int .i64 s]) (hB : B ≠ b) (hi : i < n) (hj : j < n)
    (hK : ∀ h' s' p q, (p = i ∧ q = j) ∨ (p = j ∧ q = i) → Arr .u32 h' b n g sp → At h' B [.int .i64 s'] → Only [B] h h' → K (.tuple #[.int .i64 ((p : Nat) : Int), .int .i64 ((q : Nat) : Int)]) h') :
    CallsH Try.prog 103 [.slice (some ⟨b, 0, none⟩) n c, .int .i64 i, .int .i64 j, .pointer (some ⟨B, 0, none⟩)] h K := by
  refine F103.spec _ _ _ _ _ _ h K ?_
  unfold F103.w F103.J0
  refine A.ld rfl (by omega) (A.ld rfl (by omega) (less82 ?_))
  rw [ldB_some]
  refine bcase_of (fun hl => ?_) fun hl => ?_
  · rw [show rd h ⟨B, 0, none⟩ = some (.int .i64 s) from AB.rd 0, ldI_some, add_mk]
    refine stK_at AB (by simp) rfl fun h1 A1 O1 _ => ?_
    exact hK h1 _ j i (.inr ⟨rfl, rfl⟩) (A.only O1 (by simpa using Ne.symm hB)) A1 O1
  · exact hK h s i j (.inl ⟨rfl, rfl⟩) A AB (Only.refl _ _)
theorem med97 {i j k : Nat} (A : Arr .u32 h b n g sp) (AB : At h B [.int .i64 s]) (hB : B ≠ b) (hi : i < n) (hj : j < n) (hk : k < n)
    (hK : ∀ h' s' m, m = i ∨ m = j ∨ m = k → Arr .u32 h' b n g sp → At h' B [.int .i64 s'] → Only [B] h h' → K (.int .i64 ((m : Nat) : Int)) h') :
    CallsH Try.prog 97 [.slice (some ⟨b, 0, none⟩) n c, .int .i64 i, .int .i64 j, .int .i64 k, .pointer (some ⟨B, 0, none⟩)] h K := by
  refine F97.spec _ _ _ _ _ _ _ h K ?_
  unfold F97.w F97.J0
  refine ord103 A AB hB hi hj fun h1 s1 p q hpq A1 AB1 O1 => ⟨_, _, rfl, ?_⟩
  refine ord103 A1 AB1 hB (by omega) hk fun h2 s2 p2 q2 hpq2 A2 AB2 O2 => ⟨_, _, rfl, ?_⟩
  refine ord103 A2 AB2 hB (by omega) (by omega) fun h3 s3 p3 q3 hpq3 A3 AB3 O3 => ⟨_, _, rfl, ?_⟩
  exact hK h3 s3 q3 (by omega) A3 AB3 ((O1.trans O2 (by simp)).trans O3 (by simp))
theorem adj96 {i : Nat} (A : Arr .u32 h b n g sp) (AB : At h B [.int .i64 s]) (hB : B ≠ b) (hi : 1 ≤ i) (hi' : i + 1 < n) (hn : n ≤ LB / 4)
    (hK : ∀ h' s' m, i ≤ m + 1 → m ≤ i + 1 → Arr .u32 h' b n g sp → At h' B [.int .i64 s'] → Only [B] h h' → K (.int .i64 ((m : Nat) : Int)) h') :
    CallsH Try.prog 96 [.slice (some ⟨b, 0, none⟩) n c, .int .i64 i, .pointer (some ⟨B, 0, none⟩)] h K := by
  refine F96.spec _ _ _ _ _ h K ?_
  have hLB : LB = 140737488355328 := rfl
  unfold F96.w F96.J0
  rw [show IntKind.wrap .i64 ((i : Int) + 1) = ((i + 1 : Nat) : Int) by rw [wrapN (by omega) (by omega)]; omega, show IntKind.wrap .i64 ((i : Int) - 1) = ((i - 1 : Nat) : Int) by rw [wrapN (by omega) (by omega)]; omega]
  exact med97 A AB hB (by omega) (by omega) (by omega) fun h' s' m hm A' AB' O' => by rw [ldI_some]; exact hK h' s' m (by omega) (by omega) A' AB' O'
theorem piv79 (A : Arr .u32 h b n g sp) (he : e ≤ n) (ha : a + 12 < e) (hn : n ≤ LB / 4)
    (hK : ∀ h' pv (t : Int), Arr .u32 h' b n g sp → a ≤ pv → pv < e → Only [] h h' → K (.tuple #[.int .i64 ((pv : Nat) : Int), .int .i64 t]) h') :
    CallsH Try.prog 79 [.slice (some ⟨b, 0, none⟩) n c, .int .i64 a, .int .i64 e] h K := by
  refine F79.spec _ _ _ _ _ h K ?_
  have hLB : LB = 140737488355328 := rfl
  obtain ⟨d, rfl⟩ : ∃ d, e = a + d := ⟨e - a, by omega⟩
  unfold F79.w F79.J0
  refine newK_at fun h1 A1 O1 z1 => ⟨by decide, by decide, by decide, ?_⟩
  rw [show IntKind.wrap .i64 (((a + d : Nat) : Int) - (a : Int)) = (d : Int) by rw [wrapN (by omega) (by omega)]; omega]
  have w0 : IntKind.wrap .i64 (Int.tdiv (d : Int) 4) = ((d / 4 : Nat) : Int) := by rw [Int.tdiv_eq_ediv_of_nonneg (by omega), wrapN (by omega) (by omega)]; omega
  have wm : ∀ q : Nat, q ≤ 3 → IntKind.wrap .i64 ((a : Int) + IntKind.wrap .i64 (((d / 4 : Nat) : Int) * (q : Int))) = ((a + d / 4 * q : Nat) : Int) := fun q hq => by
    have : d / 4 * q ≤ d := by
      have := Nat.mul_le_mul_left (d / 4) hq
      omega
    have e1 : ((d / 4 : Nat) : Int) * (q : Int) = ((d / 4 * q : Nat) : Int) := by simp
    rw [e1]
    generalize d / 4 * q = z at this
    rw [wrapN (x := (z : Int)) (by omega) (by omega), wrapN (by omega) (by omega)]
    omega
  have w1 := wm 1 (by omega)
  have w2 := wm 2 (by omega)
  have w3 := wm 3 (by omega)
  rw [w0, show (1 : Int) = ((1 : Nat) : Int) from rfl, show (2 : Int) = ((2 : Nat) : Int) from rfl, show (3 : Int) = ((3 : Nat) : Int) from rfl, w1, w2, w3]
  rw [show decide ((d : Int) ≥ 8) = true by simp; omega, bcase_true]
  have A0 : Arr .u32 h1 b n g sp := A.only O1 (by simp)
  have hb := A.lt
  have fin : ∀ (h2 : Heap) (s : Int) (m : Nat), a ≤ m → m < a + d → Arr .u32 h2 b n g sp → At h2 h.size [.int .i64 s] → Only [] h h2 → F79.wk12 ⟨h.size, 0, none⟩ m h2 K := by
    intro h2 s m m1 m2 A2 AB2 O2
    unfold F79.wk12 F79.Jk12
    rw [show rd h2 ⟨h.size, 0, none⟩ = some (.int .i64 s) from AB2.rd 0, ldI_some]
    refine bcase_of (fun _ => hK h2 m _ A2 m1 m2 O2) fun _ => bcase_of (fun _ => hK h2 m _ A2 m1 m2 O2) fun _ => hK h2 m _ A2 m1 m2 O2
  have k11 : ∀ (h2 : Heap) (s : Int) (i j k : Nat), a ≤ i → i < a + d → a ≤ j → j < a + d → a ≤ k → k < a + d → Arr .u32 h2 b n g sp → At h2 h.size [.int .i64 s] → Only [] h h2 → F79.wk11 (some ⟨b, 0, none⟩) n c ⟨h.size, 0, none⟩ i j k h2 K := by
    intro h2 s i j k i1 i2 j1 j2 kk1 kk2 A2 AB2 O2
    unfold F79.wk11 F79.Jk11
    refine med97 A2 AB2 (by omega) (by omega) (by omega) (by omega) fun h3 s3 m hm A3 AB3 O3 => ?_
    rw [ldI_some]
    exact fin h3 s3 m (by omega) (by omega) A3 AB3 (O2.trans O3 (by simp))
  refine bcase_of (fun hc => ?_) fun hc => ?_
  · simp only [decide_eq_true_eq] at hc
    refine adj96 A0 A1 (by omega) (by omega) (by omega) hn fun h2 s2 m2 p1 p2 A2 AB2 O2 => ?_
    rw [ldI_some]
    refine adj96 A2 AB2 (by omega) (by omega) (by omega) hn fun h3 s3 m3 p3 p4 A3 AB3 O3 => ?_
    rw [ldI_some]
    refine adj96 A3 AB3 (by omega) (by omega) (by omega) hn fun h4 s4 m4 p5 p6 A4 AB4 O4 => ?_
    rw [ldI_some]
    exact k11 h4 s4 m2 m3 m4 (by omega) (by omega) (by omega) (by omega) (by omega) (by omega) A4 AB4 (((O1.trans O2 (by simp)).trans O3 (by simp)).trans O4 (by simp))
  · exact k11 h1 0 _ _ _ (by omega) (by omega) (by omega) (by omega) (by omega) (by omega) A0 A1 O1
end
end Go.Proofs.Ytipckkeaoncjiaa.Ev
